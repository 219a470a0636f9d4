/- l18DrawProved, DrawProvedPeriod: contracts. Conditions: none. -/
import Derived.Test.YtidfbbegjpfjpaaDrawFind
import Derived.Deep.RegionWith
namespace Go.Proofs.Ytidfbbegjpfjpaa
open Go.RowKit
set_option linter.unusedVariables false

def DrawnRP (w : World) (B g a n : Nat) (e : Ending) (w' : World) : Prop :=
  ∃ (A : Option Addr) (c : Nat) (xs : List Int) (p l : Int), e = .returned (.tuple #[.slice A xs.length c, .agg #[.int .i64 p, .int .i64 l]]) ∧ OwnI w' w.heap.size (.slice A xs.length c) xs ∧ Gb w.heap.size g w w' ∧ Cur w' B g a ∧ xs.length ≤ n

set_option maxRecDepth 100000 in
set_option maxHeartbeats 3200000 in
theorem drawProved_any (w : World) (B g a : Nat) (h : Cur w B g a) (ha : a ≤ 1000000) :
    Calls Try.prog 31 #[.pointer (some ⟨g, 0, none⟩)] w (DrawnRP w B g (a + 300) 20) := by
  have hlt0 := h.lt
  have hge0 := h.ge
  go_enter Try.func31, Try.ntmps31
  go_wp2_with fail
  have hR := Blk.new w 39 #[.int .i64 0, .int .i64 0]
  have hg0 : Gb w.heap.size g w (w.alloc (.cells #[.int .i64 0, .int .i64 0] 39)) := Gb.of_below (bel1 _ _)
  have hc0 := h.below (bel1 w (.cells #[.int .i64 0, .int .i64 0] 39))
  generalize w.alloc (.cells #[.int .i64 0, .int .i64 0] 39) = W0 at *
  have hzW := hR.lt
  ((with_reducible refine (drawCode_any _ _ _ _ hc0 (by omega)).mono ?_); rintro e w1 ⟨A1, c1, xs, rfl, ho, hg1, hc1, hl⟩)
  have hz1 := hg1.size
  have ho1 := own_ints.1 ho
  have hR1 := hR.gb hg1 (by omega) (by omega)
  have hgA := hg0.trans (hg1.mono (by omega))
  clear ho hg1 hc0 hR hg0 h
  go_wp2_with fail
  ((with_reducible refine (oneI _ _ _ _ _ hc1 (by omega) (by decide) (by decide)).mono ?_); rintro e w2 ⟨b, rfl, hc2, hg2⟩)
  have hz2 := hg2.size
  have ho2 := ho1.gb (by omega) hg2
  have hR2 := hR1.gb hg2 (by omega) (by omega)
  have hgB := hgA.trans (hg2.mono (by omega))
  clear ho1 hR1 hgA hc1 hg2
  cases b
  · go_wp2_with fail
    ((with_reducible refine (pickI _ _ _ _ _ hc2 (by omega) (by decide) (by decide)).mono ?_); rintro e w3 ⟨x, ⟨hx0, hx1⟩, rfl, hc3, hg3⟩)
    have hz3 := hg3.size
    have ho3 := ho2.gb (by omega) hg3
    have hR3 := hR2.gb hg3 (by omega) (by omega)
    have hgC := hgB.trans (hg3.mono (by omega))
    clear ho2 hR2 hgB hc2 hg3
    go_wp2_with fail
    ((with_reducible refine (findS_any _ _ _ _ _ _ (Nat.le_refl _) (OwnI.rd (own_ints.2 ho3) rfl)).mono ?_); rintro e w4 ⟨r, hF, rfl, hb4⟩)
    obtain ⟨p, l, ok, hp⟩ := perV_form r
    rw [hp]
    clear hF hp
    have hz4 := hb4.size
    have ho4 := ho3.below hb4
    have hR4 := hR3.below hb4 (by omega)
    have hgD := hgC.trans (Gb.of_below (hb4.mono (by omega)))
    have hc4 := hc3.below hb4
    have hPne : (Value.slice A1 xs.length c1).ownBlock ≠ some w4.heap.size := fun e => by have := (ho4.lt _ e).2; omega
    clear ho3 hR3 hgC hc3 hb4
    have hP5 := Blk.new w4 39 #[.int .i64 p, .int .i64 l]
    have hbl := bel1 w4 (.cells #[.int .i64 p, .int .i64 l] 39)
    have hz5 : (w4.alloc (.cells #[.int .i64 p, .int .i64 l] 39)).heap.size = w4.heap.size + 1 := by simp
    have ho5 := ho4.below hbl
    have hR5 := hR4.below hbl (by omega)
    have hgE := hgD.trans (Gb.of_below (hbl.mono (show w.heap.size ≤ w4.heap.size by omega)))
    have hc5 := hc4.below hbl
    clear ho4 hR4 hgD hc4 hbl
    cases ok
    · go_wp2_with fail
      generalize w4.alloc (.cells #[.int .i64 p, .int .i64 l] 39) = W5 at *
      obtain ⟨P5, hP5e⟩ : ∃ P5, P5 = w4.heap.size := ⟨_, rfl⟩
      rw [← hP5e] at hP5 hz5 hPne ⊢
      have hPw : w.heap.size < P5 := by omega
      clear hP5e
      ((with_reducible refine (drawPer_any _ _ _ _ hc5 (by omega)).mono ?_); rintro e w6 ⟨p', l', rfl, hg6, hc6⟩)
      have hz6 := hg6.size
      have hP6 := hP5.gb hg6 (by omega) (by omega)
      have hR6 := hR5.gb hg6 (by omega) (by omega)
      have ho6 := ho5.gb (by omega) hg6
      have hgF := hgE.trans (hg6.mono (by omega))
      clear hP5 hR5 ho5 hgE hc5 hg6
      have q0 : w6.cell? ⟨P5, 0, none⟩ = some (.int .i64 p) := hP6.cell 0
      have q1 : w6.cell? ⟨P5, 1, none⟩ = some (.int .i64 l) := hP6.cell 1
      have qf0 : w6.frozen? ⟨P5, 0, none⟩ = false := hP6.frozen 0
      have qf1 : w6.frozen? ⟨P5, 1, none⟩ = false := hP6.frozen 1
      have hP7 : Blk ((w6.setCell ⟨P5, 0, none⟩ (.int .i64 p')).setCell ⟨P5, 1, none⟩ (.int .i64 l')) P5 39 #[.int .i64 p', .int .i64 l'] := (hP6.set 0 _).set 1 _
      have hR7 := (hR6.far (p := ⟨P5, 0, none⟩) (by show w.heap.size ≠ P5; omega) (.int .i64 p')).far (p := ⟨P5, 1, none⟩) (by show w.heap.size ≠ P5; omega) (.int .i64 l')
      have ho7 := (ho6.far ⟨P5, 0, none⟩ (.int .i64 p') hPne).far ⟨P5, 1, none⟩ (.int .i64 l') hPne
      have hgG := Gb.set2 hgF (k := P5) (by omega) 0 1 (.int .i64 p') (.int .i64 l')
      have hc7 : Cur ((w6.setCell ⟨P5, 0, none⟩ (.int .i64 p')).setCell ⟨P5, 1, none⟩ (.int .i64 l')) B g (a + 130) := (Cur.far2 hc6 (k := P5) (by omega) (by omega) 0 1 _ _).more (by omega)
      have hz7 : ((w6.setCell ⟨P5, 0, none⟩ (.int .i64 p')).setCell ⟨P5, 1, none⟩ (.int .i64 l')).heap.size = w6.heap.size := by simp
      clear hP6 hR6 ho6 hgF hc6
      go_wp2_with fail
      generalize (w6.setCell ⟨P5, 0, none⟩ (.int .i64 p')).setCell ⟨P5, 1, none⟩ (.int .i64 l') = w7 at *
      clear q0 q1 qf0 qf1
      go_wp2_with fail
      ((with_reducible refine (oneI _ _ _ _ _ hc7 (by omega) (by decide) (by decide)).mono ?_); rintro e wa ⟨ba, rfl, hca, hga⟩)
      have hza := hga.size
      have hRa := Blk.gb hR7 hga (by omega) (by omega)
      have hPa := Blk.gb hP7 hga (by omega) (by omega)
      have hoa := Own.gb ho7 (by omega) hga
      have hgA := Gb.trans hgG (hga.mono (by omega))
      clear hR7 hP7 ho7 hgG hc7 hga
      cases ba
      · have r0 : wa.cell? ⟨w.heap.size, 0, none⟩ = some (.int .i64 0) := Blk.cell hRa 0
        have r1 : wa.cell? ⟨w.heap.size, 1, none⟩ = some (.int .i64 0) := Blk.cell hRa 1
        have rf0 : wa.frozen? ⟨w.heap.size, 0, none⟩ = false := Blk.frozen hRa 0
        have rf1 : wa.frozen? ⟨w.heap.size, 1, none⟩ = false := Blk.frozen hRa 1
        have p0 : wa.cell? ⟨P5, 0, none⟩ = some (.int .i64 (p')) := Blk.cell hPa 0
        have p1 : wa.cell? ⟨P5, 1, none⟩ = some (.int .i64 (l')) := Blk.cell hPa 1
        have hnp1 : ¬ P5 = w.heap.size := by omega
        have hnp2 : ¬ w.heap.size = P5 := by omega
        have HOF := Lib.hid hoa
        have HGF := Lib.hid hgA
        have HCF := Lib.hid hca
        go_wp2
        go_region
        all_goals
          go_wp2
          refine bodyPost_ret (v := .tuple #[.slice A1 xs.length c1, .agg #[.int .i64 (p'), .int .i64 (l')]]) (by simp [results, Try.results31, go_sem, r0, r1]) rfl ⟨A1, c1, xs, p', l', rfl, ?_, ?_, ?_, hl⟩
          · exact own_ints.2 (((Own.sets2 (show Own (wa.drew) _ _ _ _ from HOF.out) (k := w.heap.size) (by omega) _ _ _ _)).le (by omega))
          · exact Gb.set2 (show Gb w.heap.size g w (wa.drew) from HGF.out) (Nat.le_refl _) _ _ _ _
          · exact (Cur.far2 (show Cur (wa.drew) B g _ from HCF.out) (by omega) (by omega) _ _ _ _).more (by omega)
      · go_wp2_with fail
        ((with_reducible refine (pickI _ _ _ _ _ hca (by omega) (by decide) (by decide)).mono ?_); rintro e wb ⟨s, ⟨hs0, hs1⟩, rfl, hcb, hgb⟩)
        have hzb := hgb.size
        have hRb := hRa.gb hgb (by omega) (by omega)
        have hPb := hPa.gb hgb (by omega) (by omega)
        have hob := hoa.gb (by omega) hgb
        have hgB := hgA.trans (hgb.mono (by omega))
        clear hRa hPa hoa hgA hca hgb
        have hs : s = 0 ∨ s = 1 ∨ s = 2 := by omega
        have q0 : wb.cell? ⟨P5, 0, none⟩ = some (.int .i64 (p')) := hPb.cell 0
        have q1 : wb.cell? ⟨P5, 1, none⟩ = some (.int .i64 (l')) := hPb.cell 1
        have qf0 : wb.frozen? ⟨P5, 0, none⟩ = false := hPb.frozen 0
        have qf1 : wb.frozen? ⟨P5, 1, none⟩ = false := hPb.frozen 1
        rcases hs with rfl | rfl | rfl
        · have hcd : Cur wb.drew B g (a + 150) := hcb.more (by omega)
          have HS : Hid (∀ w', Gb wb.drew.heap.size g wb.drew w' → Blk w' P5 39 #[.int .i64 (p'), .int .i64 (l')] ∧ Blk w' w.heap.size 39 #[.int .i64 0, .int .i64 0] ∧ Own w' W0.heap.size 3 (.slice A1 xs.length c1) (ints xs) ∧ Gb w.heap.size g w w') := fun w' hb =>
            ⟨Blk.gb (show Blk wb.drew _ _ _ from hPb) hb (by show P5 < wb.heap.size; omega) (by omega), Blk.gb (show Blk wb.drew _ _ _ from hRb) hb (by show w.heap.size < wb.heap.size; omega) (by omega), Own.gb (show Own wb.drew _ _ _ _ from hob) (by omega) hb, Gb.trans (show Gb w.heap.size g w wb.drew from hgB) (hb.mono (by show w.heap.size ≤ wb.heap.size; omega))⟩
          clear hPb hRb hob hgB hcb
          go_wp2
          go_region_with ((go_at_call 33; refine (pickI _ _ _ _ _ hcd (by omega) (by decide) (by decide)).mono ?_; rintro e wc ⟨v, ⟨hv0, hv1⟩, rfl, hcc, hgc⟩; have m0 : wc.cell? ⟨P5, 0, none⟩ = some (.int .i64 (p')) := (HS.out _ hgc).1.cell 0; have mf0 : wc.frozen? ⟨P5, 0, none⟩ = false := (HS.out _ hgc).1.frozen 0))
          all_goals
            obtain ⟨k1, k2, k3, k4⟩ := HS.out _ hgc
            have hzc : wb.heap.size ≤ wc.heap.size := hgc.size
            clear q0 q1 qf0 qf1 m0 mf0 hgc HS
            generalize IntKind.i64.wrap (p' + v) = V at *
            have hPd : Blk (wc.setCell ⟨P5, 0, none⟩ (.int .i64 V)) P5 39 #[.int .i64 V, .int .i64 (l')] := k1.set 0 _
            have hRd := k2.far (p := ⟨P5, 0, none⟩) (by show w.heap.size ≠ P5; omega) (.int .i64 V)
            have hod := k3.far ⟨P5, 0, none⟩ (.int .i64 V) hPne
            have hgd := k4.set (p := ⟨P5, 0, none⟩) (.inl (by show w.heap.size ≤ P5; omega)) (.int .i64 V)
            have hcd2 : Cur (wc.setCell ⟨P5, 0, none⟩ (.int .i64 V)) B g (a + 200) := (hcc.far (by omega) (by omega) _).more (by omega)
            clear k1 k2 k3 k4 hcc hcd
            generalize wc.setCell ⟨P5, 0, none⟩ (.int .i64 V) = wd at *
            have r0 : wd.cell? ⟨w.heap.size, 0, none⟩ = some (.int .i64 0) := Blk.cell hRd 0
            have r1 : wd.cell? ⟨w.heap.size, 1, none⟩ = some (.int .i64 0) := Blk.cell hRd 1
            have rf0 : wd.frozen? ⟨w.heap.size, 0, none⟩ = false := Blk.frozen hRd 0
            have rf1 : wd.frozen? ⟨w.heap.size, 1, none⟩ = false := Blk.frozen hRd 1
            have p0 : wd.cell? ⟨P5, 0, none⟩ = some (.int .i64 (V)) := Blk.cell hPd 0
            have p1 : wd.cell? ⟨P5, 1, none⟩ = some (.int .i64 (l')) := Blk.cell hPd 1
            have hnp1 : ¬ P5 = w.heap.size := by omega
            have hnp2 : ¬ w.heap.size = P5 := by omega
            have HOF := Lib.hid hod
            have HGF := Lib.hid hgd
            have HCF := Lib.hid hcd2
            go_wp2
            go_region
            all_goals
              go_wp2
              refine bodyPost_ret (v := .tuple #[.slice A1 xs.length c1, .agg #[.int .i64 (V), .int .i64 (l')]]) (by simp [results, Try.results31, go_sem, r0, r1]) rfl ⟨A1, c1, xs, V, l', rfl, ?_, ?_, ?_, hl⟩
              · exact own_ints.2 (((Own.sets2 (show Own (wd.drew) _ _ _ _ from HOF.out) (k := w.heap.size) (by omega) _ _ _ _)).le (by omega))
              · exact Gb.set2 (show Gb w.heap.size g w (wd.drew) from HGF.out) (Nat.le_refl _) _ _ _ _
              · exact (Cur.far2 (show Cur (wd.drew) B g _ from HCF.out) (by omega) (by omega) _ _ _ _).more (by omega)
        · have hPd : Blk (wb.setCell ⟨P5, 1, none⟩ (.int .i64 (wrap64 (l' * 2)))) P5 39 #[.int .i64 (p'), .int .i64 (wrap64 (l' * 2))] := hPb.set 1 _
          have hRd := hRb.far (p := ⟨P5, 1, none⟩) (by show w.heap.size ≠ P5; omega) (.int .i64 (wrap64 (l' * 2)))
          have hod := hob.far ⟨P5, 1, none⟩ (.int .i64 (wrap64 (l' * 2))) hPne
          have hgd := hgB.set (p := ⟨P5, 1, none⟩) (.inl (by show w.heap.size ≤ P5; omega)) (.int .i64 (wrap64 (l' * 2)))
          have hcd2 : Cur (wb.setCell ⟨P5, 1, none⟩ (.int .i64 (wrap64 (l' * 2)))) B g (a + 200) := (hcb.far (by omega) (by omega) _).more (by omega)
          have HPD := Lib.hid hPd; have HRD := Lib.hid hRd; have HOD := Lib.hid hod; have HGD := Lib.hid hgd; have HCD := Lib.hid hcd2
          clear hPd hRd hod hgd hcd2 hPb hRb hob hgB hcb
          go_wp2
          have hPd := HPD.out; have hRd := HRD.out; have hod := HOD.out; have hgd := HGD.out; have hcd2 := HCD.out
          clear HPD HRD HOD HGD HCD q0 q1 qf0 qf1
          generalize wb.setCell ⟨P5, 1, none⟩ (.int .i64 (wrap64 (l' * 2))) = wd at *
          generalize wrap64 (l' * 2) = VV at *
          have r0 : wd.cell? ⟨w.heap.size, 0, none⟩ = some (.int .i64 0) := Blk.cell hRd 0
          have r1 : wd.cell? ⟨w.heap.size, 1, none⟩ = some (.int .i64 0) := Blk.cell hRd 1
          have rf0 : wd.frozen? ⟨w.heap.size, 0, none⟩ = false := Blk.frozen hRd 0
          have rf1 : wd.frozen? ⟨w.heap.size, 1, none⟩ = false := Blk.frozen hRd 1
          have p0 : wd.cell? ⟨P5, 0, none⟩ = some (.int .i64 (p')) := Blk.cell hPd 0
          have p1 : wd.cell? ⟨P5, 1, none⟩ = some (.int .i64 (VV)) := Blk.cell hPd 1
          have hnp1 : ¬ P5 = w.heap.size := by omega
          have hnp2 : ¬ w.heap.size = P5 := by omega
          have HOF := Lib.hid hod
          have HGF := Lib.hid hgd
          have HCF := Lib.hid hcd2
          go_wp2
          go_region
          all_goals
            go_wp2
            refine bodyPost_ret (v := .tuple #[.slice A1 xs.length c1, .agg #[.int .i64 (p'), .int .i64 (VV)]]) (by simp [results, Try.results31, go_sem, r0, r1]) rfl ⟨A1, c1, xs, p', VV, rfl, ?_, ?_, ?_, hl⟩
            · exact own_ints.2 (((Own.sets2 (show Own (wd.drew) _ _ _ _ from HOF.out) (k := w.heap.size) (by omega) _ _ _ _)).le (by omega))
            · exact Gb.set2 (show Gb w.heap.size g w (wd.drew) from HGF.out) (Nat.le_refl _) _ _ _ _
            · exact (Cur.far2 (show Cur (wd.drew) B g _ from HCF.out) (by omega) (by omega) _ _ _ _).more (by omega)
        · have hPd : Blk (wb.setCell ⟨P5, 1, none⟩ (.int .i64 (wrap64 (l' + 1)))) P5 39 #[.int .i64 (p'), .int .i64 (wrap64 (l' + 1))] := hPb.set 1 _
          have hRd := hRb.far (p := ⟨P5, 1, none⟩) (by show w.heap.size ≠ P5; omega) (.int .i64 (wrap64 (l' + 1)))
          have hod := hob.far ⟨P5, 1, none⟩ (.int .i64 (wrap64 (l' + 1))) hPne
          have hgd := hgB.set (p := ⟨P5, 1, none⟩) (.inl (by show w.heap.size ≤ P5; omega)) (.int .i64 (wrap64 (l' + 1)))
          have hcd2 : Cur (wb.setCell ⟨P5, 1, none⟩ (.int .i64 (wrap64 (l' + 1)))) B g (a + 200) := (hcb.far (by omega) (by omega) _).more (by omega)
          have HPD := Lib.hid hPd; have HRD := Lib.hid hRd; have HOD := Lib.hid hod; have HGD := Lib.hid hgd; have HCD := Lib.hid hcd2
          clear hPd hRd hod hgd hcd2 hPb hRb hob hgB hcb
          go_wp2
          have hPd := HPD.out; have hRd := HRD.out; have hod := HOD.out; have hgd := HGD.out; have hcd2 := HCD.out
          clear HPD HRD HOD HGD HCD q0 q1 qf0 qf1
          generalize wb.setCell ⟨P5, 1, none⟩ (.int .i64 (wrap64 (l' + 1))) = wd at *
          generalize wrap64 (l' + 1) = VV at *
          have r0 : wd.cell? ⟨w.heap.size, 0, none⟩ = some (.int .i64 0) := Blk.cell hRd 0
          have r1 : wd.cell? ⟨w.heap.size, 1, none⟩ = some (.int .i64 0) := Blk.cell hRd 1
          have rf0 : wd.frozen? ⟨w.heap.size, 0, none⟩ = false := Blk.frozen hRd 0
          have rf1 : wd.frozen? ⟨w.heap.size, 1, none⟩ = false := Blk.frozen hRd 1
          have p0 : wd.cell? ⟨P5, 0, none⟩ = some (.int .i64 (p')) := Blk.cell hPd 0
          have p1 : wd.cell? ⟨P5, 1, none⟩ = some (.int .i64 (VV)) := Blk.cell hPd 1
          have hnp1 : ¬ P5 = w.heap.size := by omega
          have hnp2 : ¬ w.heap.size = P5 := by omega
          have HOF := Lib.hid hod
          have HGF := Lib.hid hgd
          have HCF := Lib.hid hcd2
          go_wp2
          go_region
          all_goals
            go_wp2
            refine bodyPost_ret (v := .tuple #[.slice A1 xs.length c1, .agg #[.int .i64 (p'), .int .i64 (VV)]]) (by simp [results, Try.results31, go_sem, r0, r1]) rfl ⟨A1, c1, xs, p', VV, rfl, ?_, ?_, ?_, hl⟩
            · exact own_ints.2 (((Own.sets2 (show Own (wd.drew) _ _ _ _ from HOF.out) (k := w.heap.size) (by omega) _ _ _ _)).le (by omega))
            · exact Gb.set2 (show Gb w.heap.size g w (wd.drew) from HGF.out) (Nat.le_refl _) _ _ _ _
            · exact (Cur.far2 (show Cur (wd.drew) B g _ from HCF.out) (by omega) (by omega) _ _ _ _).more (by omega)
    · go_wp2_with fail
      generalize w4.alloc (.cells #[.int .i64 p, .int .i64 l] 39) = W5 at *
      obtain ⟨P5, hP5e⟩ : ∃ P5, P5 = w4.heap.size := ⟨_, rfl⟩
      rw [← hP5e] at hP5 hz5 hPne ⊢
      have hPw : w.heap.size < P5 := by omega
      clear hP5e
      go_wp2_with fail
      ((with_reducible refine (oneI _ _ _ _ _ hc5 (by omega) (by decide) (by decide)).mono ?_); rintro e wa ⟨ba, rfl, hca, hga⟩)
      have hza := hga.size
      have hRa := Blk.gb hR5 hga (by omega) (by omega)
      have hPa := Blk.gb hP5 hga (by omega) (by omega)
      have hoa := Own.gb ho5 (by omega) hga
      have hgA := Gb.trans hgE (hga.mono (by omega))
      clear hR5 hP5 ho5 hgE hc5 hga
      cases ba
      · have r0 : wa.cell? ⟨w.heap.size, 0, none⟩ = some (.int .i64 0) := Blk.cell hRa 0
        have r1 : wa.cell? ⟨w.heap.size, 1, none⟩ = some (.int .i64 0) := Blk.cell hRa 1
        have rf0 : wa.frozen? ⟨w.heap.size, 0, none⟩ = false := Blk.frozen hRa 0
        have rf1 : wa.frozen? ⟨w.heap.size, 1, none⟩ = false := Blk.frozen hRa 1
        have p0 : wa.cell? ⟨P5, 0, none⟩ = some (.int .i64 (p)) := Blk.cell hPa 0
        have p1 : wa.cell? ⟨P5, 1, none⟩ = some (.int .i64 (l)) := Blk.cell hPa 1
        have hnp1 : ¬ P5 = w.heap.size := by omega
        have hnp2 : ¬ w.heap.size = P5 := by omega
        have HOF := Lib.hid hoa
        have HGF := Lib.hid hgA
        have HCF := Lib.hid hca
        go_wp2
        go_region
        all_goals
          go_wp2
          refine bodyPost_ret (v := .tuple #[.slice A1 xs.length c1, .agg #[.int .i64 (p), .int .i64 (l)]]) (by simp [results, Try.results31, go_sem, r0, r1]) rfl ⟨A1, c1, xs, p, l, rfl, ?_, ?_, ?_, hl⟩
          · exact own_ints.2 (((Own.sets2 (show Own (wa.drew) _ _ _ _ from HOF.out) (k := w.heap.size) (by omega) _ _ _ _)).le (by omega))
          · exact Gb.set2 (show Gb w.heap.size g w (wa.drew) from HGF.out) (Nat.le_refl _) _ _ _ _
          · exact (Cur.far2 (show Cur (wa.drew) B g _ from HCF.out) (by omega) (by omega) _ _ _ _).more (by omega)
      · go_wp2_with fail
        ((with_reducible refine (pickI _ _ _ _ _ hca (by omega) (by decide) (by decide)).mono ?_); rintro e wb ⟨s, ⟨hs0, hs1⟩, rfl, hcb, hgb⟩)
        have hzb := hgb.size
        have hRb := hRa.gb hgb (by omega) (by omega)
        have hPb := hPa.gb hgb (by omega) (by omega)
        have hob := hoa.gb (by omega) hgb
        have hgB := hgA.trans (hgb.mono (by omega))
        clear hRa hPa hoa hgA hca hgb
        have hs : s = 0 ∨ s = 1 ∨ s = 2 := by omega
        have q0 : wb.cell? ⟨P5, 0, none⟩ = some (.int .i64 (p)) := hPb.cell 0
        have q1 : wb.cell? ⟨P5, 1, none⟩ = some (.int .i64 (l)) := hPb.cell 1
        have qf0 : wb.frozen? ⟨P5, 0, none⟩ = false := hPb.frozen 0
        have qf1 : wb.frozen? ⟨P5, 1, none⟩ = false := hPb.frozen 1
        rcases hs with rfl | rfl | rfl
        · have hcd : Cur wb.drew B g (a + 150) := hcb.more (by omega)
          have HS : Hid (∀ w', Gb wb.drew.heap.size g wb.drew w' → Blk w' P5 39 #[.int .i64 (p), .int .i64 (l)] ∧ Blk w' w.heap.size 39 #[.int .i64 0, .int .i64 0] ∧ Own w' W0.heap.size 3 (.slice A1 xs.length c1) (ints xs) ∧ Gb w.heap.size g w w') := fun w' hb =>
            ⟨Blk.gb (show Blk wb.drew _ _ _ from hPb) hb (by show P5 < wb.heap.size; omega) (by omega), Blk.gb (show Blk wb.drew _ _ _ from hRb) hb (by show w.heap.size < wb.heap.size; omega) (by omega), Own.gb (show Own wb.drew _ _ _ _ from hob) (by omega) hb, Gb.trans (show Gb w.heap.size g w wb.drew from hgB) (hb.mono (by show w.heap.size ≤ wb.heap.size; omega))⟩
          clear hPb hRb hob hgB hcb
          go_wp2
          go_region_with ((go_at_call 33; refine (pickI _ _ _ _ _ hcd (by omega) (by decide) (by decide)).mono ?_; rintro e wc ⟨v, ⟨hv0, hv1⟩, rfl, hcc, hgc⟩; have m0 : wc.cell? ⟨P5, 0, none⟩ = some (.int .i64 (p)) := (HS.out _ hgc).1.cell 0; have mf0 : wc.frozen? ⟨P5, 0, none⟩ = false := (HS.out _ hgc).1.frozen 0))
          all_goals
            obtain ⟨k1, k2, k3, k4⟩ := HS.out _ hgc
            have hzc : wb.heap.size ≤ wc.heap.size := hgc.size
            clear q0 q1 qf0 qf1 m0 mf0 hgc HS
            generalize IntKind.i64.wrap (p + v) = V at *
            have hPd : Blk (wc.setCell ⟨P5, 0, none⟩ (.int .i64 V)) P5 39 #[.int .i64 V, .int .i64 (l)] := k1.set 0 _
            have hRd := k2.far (p := ⟨P5, 0, none⟩) (by show w.heap.size ≠ P5; omega) (.int .i64 V)
            have hod := k3.far ⟨P5, 0, none⟩ (.int .i64 V) hPne
            have hgd := k4.set (p := ⟨P5, 0, none⟩) (.inl (by show w.heap.size ≤ P5; omega)) (.int .i64 V)
            have hcd2 : Cur (wc.setCell ⟨P5, 0, none⟩ (.int .i64 V)) B g (a + 200) := (hcc.far (by omega) (by omega) _).more (by omega)
            clear k1 k2 k3 k4 hcc hcd
            generalize wc.setCell ⟨P5, 0, none⟩ (.int .i64 V) = wd at *
            have r0 : wd.cell? ⟨w.heap.size, 0, none⟩ = some (.int .i64 0) := Blk.cell hRd 0
            have r1 : wd.cell? ⟨w.heap.size, 1, none⟩ = some (.int .i64 0) := Blk.cell hRd 1
            have rf0 : wd.frozen? ⟨w.heap.size, 0, none⟩ = false := Blk.frozen hRd 0
            have rf1 : wd.frozen? ⟨w.heap.size, 1, none⟩ = false := Blk.frozen hRd 1
            have p0 : wd.cell? ⟨P5, 0, none⟩ = some (.int .i64 (V)) := Blk.cell hPd 0
            have p1 : wd.cell? ⟨P5, 1, none⟩ = some (.int .i64 (l)) := Blk.cell hPd 1
            have hnp1 : ¬ P5 = w.heap.size := by omega
            have hnp2 : ¬ w.heap.size = P5 := by omega
            have HOF := Lib.hid hod
            have HGF := Lib.hid hgd
            have HCF := Lib.hid hcd2
            go_wp2
            go_region
            all_goals
              go_wp2
              refine bodyPost_ret (v := .tuple #[.slice A1 xs.length c1, .agg #[.int .i64 (V), .int .i64 (l)]]) (by simp [results, Try.results31, go_sem, r0, r1]) rfl ⟨A1, c1, xs, V, l, rfl, ?_, ?_, ?_, hl⟩
              · exact own_ints.2 (((Own.sets2 (show Own (wd.drew) _ _ _ _ from HOF.out) (k := w.heap.size) (by omega) _ _ _ _)).le (by omega))
              · exact Gb.set2 (show Gb w.heap.size g w (wd.drew) from HGF.out) (Nat.le_refl _) _ _ _ _
              · exact (Cur.far2 (show Cur (wd.drew) B g _ from HCF.out) (by omega) (by omega) _ _ _ _).more (by omega)
        · have hPd : Blk (wb.setCell ⟨P5, 1, none⟩ (.int .i64 (wrap64 (l * 2)))) P5 39 #[.int .i64 (p), .int .i64 (wrap64 (l * 2))] := hPb.set 1 _
          have hRd := hRb.far (p := ⟨P5, 1, none⟩) (by show w.heap.size ≠ P5; omega) (.int .i64 (wrap64 (l * 2)))
          have hod := hob.far ⟨P5, 1, none⟩ (.int .i64 (wrap64 (l * 2))) hPne
          have hgd := hgB.set (p := ⟨P5, 1, none⟩) (.inl (by show w.heap.size ≤ P5; omega)) (.int .i64 (wrap64 (l * 2)))
          have hcd2 : Cur (wb.setCell ⟨P5, 1, none⟩ (.int .i64 (wrap64 (l * 2)))) B g (a + 200) := (hcb.far (by omega) (by omega) _).more (by omega)
          have HPD := Lib.hid hPd; have HRD := Lib.hid hRd; have HOD := Lib.hid hod; have HGD := Lib.hid hgd; have HCD := Lib.hid hcd2
          clear hPd hRd hod hgd hcd2 hPb hRb hob hgB hcb
          go_wp2
          have hPd := HPD.out; have hRd := HRD.out; have hod := HOD.out; have hgd := HGD.out; have hcd2 := HCD.out
          clear HPD HRD HOD HGD HCD q0 q1 qf0 qf1
          generalize wb.setCell ⟨P5, 1, none⟩ (.int .i64 (wrap64 (l * 2))) = wd at *
          generalize wrap64 (l * 2) = VV at *
          have r0 : wd.cell? ⟨w.heap.size, 0, none⟩ = some (.int .i64 0) := Blk.cell hRd 0
          have r1 : wd.cell? ⟨w.heap.size, 1, none⟩ = some (.int .i64 0) := Blk.cell hRd 1
          have rf0 : wd.frozen? ⟨w.heap.size, 0, none⟩ = false := Blk.frozen hRd 0
          have rf1 : wd.frozen? ⟨w.heap.size, 1, none⟩ = false := Blk.frozen hRd 1
          have p0 : wd.cell? ⟨P5, 0, none⟩ = some (.int .i64 (p)) := Blk.cell hPd 0
          have p1 : wd.cell? ⟨P5, 1, none⟩ = some (.int .i64 (VV)) := Blk.cell hPd 1
          have hnp1 : ¬ P5 = w.heap.size := by omega
          have hnp2 : ¬ w.heap.size = P5 := by omega
          have HOF := Lib.hid hod
          have HGF := Lib.hid hgd
          have HCF := Lib.hid hcd2
          go_wp2
          go_region
          all_goals
            go_wp2
            refine bodyPost_ret (v := .tuple #[.slice A1 xs.length c1, .agg #[.int .i64 (p), .int .i64 (VV)]]) (by simp [results, Try.results31, go_sem, r0, r1]) rfl ⟨A1, c1, xs, p, VV, rfl, ?_, ?_, ?_, hl⟩
            · exact own_ints.2 (((Own.sets2 (show Own (wd.drew) _ _ _ _ from HOF.out) (k := w.heap.size) (by omega) _ _ _ _)).le (by omega))
            · exact Gb.set2 (show Gb w.heap.size g w (wd.drew) from HGF.out) (Nat.le_refl _) _ _ _ _
            · exact (Cur.far2 (show Cur (wd.drew) B g _ from HCF.out) (by omega) (by omega) _ _ _ _).more (by omega)
        · have hPd : Blk (wb.setCell ⟨P5, 1, none⟩ (.int .i64 (wrap64 (l + 1)))) P5 39 #[.int .i64 (p), .int .i64 (wrap64 (l + 1))] := hPb.set 1 _
          have hRd := hRb.far (p := ⟨P5, 1, none⟩) (by show w.heap.size ≠ P5; omega) (.int .i64 (wrap64 (l + 1)))
          have hod := hob.far ⟨P5, 1, none⟩ (.int .i64 (wrap64 (l + 1))) hPne
          have hgd := hgB.set (p := ⟨P5, 1, none⟩) (.inl (by show w.heap.size ≤ P5; omega)) (.int .i64 (wrap64 (l + 1)))
          have hcd2 : Cur (wb.setCell ⟨P5, 1, none⟩ (.int .i64 (wrap64 (l + 1)))) B g (a + 200) := (hcb.far (by omega) (by omega) _).more (by omega)
          have HPD := Lib.hid hPd; have HRD := Lib.hid hRd; have HOD := Lib.hid hod; have HGD := Lib.hid hgd; have HCD := Lib.hid hcd2
          clear hPd hRd hod hgd hcd2 hPb hRb hob hgB hcb
          go_wp2
          have hPd := HPD.out; have hRd := HRD.out; have hod := HOD.out; have hgd := HGD.out; have hcd2 := HCD.out
          clear HPD HRD HOD HGD HCD q0 q1 qf0 qf1
          generalize wb.setCell ⟨P5, 1, none⟩ (.int .i64 (wrap64 (l + 1))) = wd at *
          generalize wrap64 (l + 1) = VV at *
          have r0 : wd.cell? ⟨w.heap.size, 0, none⟩ = some (.int .i64 0) := Blk.cell hRd 0
          have r1 : wd.cell? ⟨w.heap.size, 1, none⟩ = some (.int .i64 0) := Blk.cell hRd 1
          have rf0 : wd.frozen? ⟨w.heap.size, 0, none⟩ = false := Blk.frozen hRd 0
          have rf1 : wd.frozen? ⟨w.heap.size, 1, none⟩ = false := Blk.frozen hRd 1
          have p0 : wd.cell? ⟨P5, 0, none⟩ = some (.int .i64 (p)) := Blk.cell hPd 0
          have p1 : wd.cell? ⟨P5, 1, none⟩ = some (.int .i64 (VV)) := Blk.cell hPd 1
          have hnp1 : ¬ P5 = w.heap.size := by omega
          have hnp2 : ¬ w.heap.size = P5 := by omega
          have HOF := Lib.hid hod
          have HGF := Lib.hid hgd
          have HCF := Lib.hid hcd2
          go_wp2
          go_region
          all_goals
            go_wp2
            refine bodyPost_ret (v := .tuple #[.slice A1 xs.length c1, .agg #[.int .i64 (p), .int .i64 (VV)]]) (by simp [results, Try.results31, go_sem, r0, r1]) rfl ⟨A1, c1, xs, p, VV, rfl, ?_, ?_, ?_, hl⟩
            · exact own_ints.2 (((Own.sets2 (show Own (wd.drew) _ _ _ _ from HOF.out) (k := w.heap.size) (by omega) _ _ _ _)).le (by omega))
            · exact Gb.set2 (show Gb w.heap.size g w (wd.drew) from HGF.out) (Nat.le_refl _) _ _ _ _
            · exact (Cur.far2 (show Cur (wd.drew) B g _ from HCF.out) (by omega) (by omega) _ _ _ _).more (by omega)
  · go_wp2_with fail
    ((with_reducible refine (drawPer_any _ _ _ _ hc2 (by omega)).mono ?_); rintro e w3 ⟨p', l', rfl, hg3, hc3⟩)
    have hz3 := hg3.size
    have ho3 := ho2.gb (by omega) hg3
    have hR3 := hR2.gb hg3 (by omega) (by omega)
    have hgC := hgB.trans (hg3.mono (by omega))
    have r0 : w3.cell? ⟨w.heap.size, 0, none⟩ = some (.int .i64 0) := hR3.cell 0
    have r1 : w3.cell? ⟨w.heap.size, 1, none⟩ = some (.int .i64 0) := hR3.cell 1
    have rf0 : w3.frozen? ⟨w.heap.size, 0, none⟩ = false := hR3.frozen 0
    have rf1 : w3.frozen? ⟨w.heap.size, 1, none⟩ = false := hR3.frozen 1
    have HOF := Lib.hid ho3; have HGF := Lib.hid hgC; have HCF := Lib.hid hc3
    clear ho2 ho3 hR2 hR3 hgB hgC hc2 hc3 hg3
    go_wp2
    refine bodyPost_ret (v := .tuple #[.slice A1 xs.length c1, .agg #[.int .i64 p', .int .i64 l']]) (by simp [results, Try.results31, go_sem, r0, r1]) rfl ⟨A1, c1, xs, p', l', rfl, ?_, ?_, ?_, hl⟩
    · exact own_ints.2 ((Own.sets2 HOF.out (k := w.heap.size) (by omega) _ _ _ _).le (by omega))
    · exact Gb.set2 HGF.out (Nat.le_refl _) _ _ _ _
    · exact (Cur.far2 HCF.out (by omega) (by omega) _ _ _ _).more (by omega)
end Go.Proofs.Ytidfbbegjpfjpaa
