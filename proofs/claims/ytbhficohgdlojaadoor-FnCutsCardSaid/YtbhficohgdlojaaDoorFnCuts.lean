/- FnCuts: the plain law, rInts. Conditions: none. -/
import Derived.Test.YtbhficohgdlojaaDoorDrawT2
import Derived.Test.YtbhficohgdlojaaDoorCt7
import Derived.Test.YtbhficohgdlojaaDoorBig
namespace Go.Proofs.YtbhficohgdlojaaDoor
open Go.RowKit
set_option linter.unusedVariables false

/-- Both players' cuts are as many as the edges. -/
theorem cutsL_both (xs : List Int) (s : ByteArray) (b : Bool) (k : Nat) : (cutsL xs s b k).length + (cutsL xs s (!b) k).length = k := by
  induction k with
  | zero => rfl
  | succ k ih =>
    have e : ∀ l, cutsL xs s l (k + 1) = if ((s.data.toList.getD k 0 == 76) == l) = true then cutsL xs s l k ++ [cutT xs s k] else cutsL xs s l k := fun _ => rfl
    rw [e b, e (!b)]
    cases b <;> cases (s.data.toList.getD k 0 == 76) <;> simp at ih ⊢ <;> omega
/-- Each cut is a good tree of fewer edges. -/
theorem cutsL_good (xs : List Int) (s : ByteArray) (b : Bool) (hg : treeB xs s = true) (k : Nat) (hk : k ≤ xs.length) : ∀ t ∈ cutsL xs s b k, treeB t.1 t.2 = true ∧ t.1.length < xs.length := by
  induction k with
  | zero => intro t ht; cases ht
  | succ k ih =>
    intro t ht
    have e : cutsL xs s b (k + 1) = if ((s.data.toList.getD k 0 == 76) == b) = true then cutsL xs s b k ++ [cutT xs s k] else cutsL xs s b k := rfl
    rw [e] at ht
    split at ht
    · rcases List.mem_append.1 ht with h | h
      · exact ih (by omega) t h
      · rw [List.mem_singleton] at h
        subst h
        exact cutT_ok hg (by omega)
    · exact ih (by omega) t ht

set_option maxHeartbeats 400000 in
theorem rInts_same (A A' : Option Addr) (c c' : Nat) (xs : List Int) (w : World) (B : Nat) (hB : B ≤ w.heap.size) (h : RdI w B A c xs) (h' : RdI w B A' c' xs) :
    Calls Tryd.prog 14 #[.slice A xs.length c, .slice A' xs.length c'] w fun e w' => e = .returned (.bool true) ∧ Below w.heap.size w w' := by
  have h1 := h.len
  have h2 := h.max
  have h3 := h'.len
  go_enter Tryd.func14, Tryd.ntmps14
  go_wp2
  go_loopw [5] (fun i wr => ∃ k : Nat, i = .int .i64 k ∧ k ≤ xs.length ∧ Below w.heap.size w wr)
    (fun i _ => xs.length - (intOf i).toNat)
  case atStart => exact ⟨0, rfl, by omega, Below.refl _ _⟩
  case round =>
    obtain ⟨k, rfl, hk, hb⟩ := hrel
    by_cases hlt : k < xs.length
    · obtain ⟨b, o, rfl, hbB, hc⟩ := (h.below hb hB).at (j := k) hlt
      obtain ⟨b', o', rfl, hbB', hc'⟩ := (h'.below hb hB).at (j := k) hlt
      have hc1 := hc k hlt
      have hc2 := hc' k hlt
      clear hc hc'
      go_wp2
      go_quiet (fail)
      go_wp2
      go_roundw
      case rel => exact ⟨k + 1, by go_num, by omega, bdrew hb _⟩
      case measure => simp [intOf]; omega
    · obtain rfl : k = xs.length := by omega
      go_wp2
      go_ret
      exact ⟨rfl, hb⟩

set_option maxRecDepth 100000 in
set_option maxHeartbeats 6400000 in
theorem lawCuts (a : Option Addr) (len cap : Nat) (zs : List Int) (w : World) (h : IsRow .u8 w a len cap zs) :
    Calls Tryd.prog 3 #[.slice a len cap] w fun e w' => e = .returned (.bool true) ∧ Below w.heap.size w w' := by
  obtain ⟨hr, hl⟩ := h.rdY
  clear h
  generalize zs.take len = bs at hr hl
  subst hl
  have hbl := hr.1.len
  have hbm := hr.1.max
  rw [byts_len] at hbl
  have hmx : bs.length ≤ 9223372036854775807 := by omega
  by_cases hbig : 65536 < bs.length
  · go_enter Tryd.func3, Tryd.ntmps3
    go_wp2_with (go_at_call 9; (with_reducible refine (rBig_any _ _ _ _ hmx).mono ?_); rintro e w1 ⟨rfl, rfl⟩)
    go_ret
    exact ⟨rfl, Below.refl _ _⟩
  · have hbI : ¬ (65536 : Int) < (bs.length : Int) := by omega
    go_enter Tryd.func3, Tryd.ntmps3
    go_wp2_with fail
    ((with_reducible refine (rBig_any _ _ _ _ hmx).mono ?_); rintro e w1 ⟨rfl, rfl⟩)
    have HDR := Lib.hid (drawTreeCuts_any a cap bs _ hr)
    clear hr hbig hmx hbl hbm
    go_wp2_with fail
    ((with_reducible refine (HDR.out).mono ?_); rintro e w2 ⟨A, c, xs, s, left, rfl, ho2, hs, hb2⟩)
    have hsm : s.size ≤ maxLen := by unfold maxLen; omega
    clear HDR
    have HI := Lib.hid (fun l A c V B hB hr => treeCutsI_any A c xs s l V B hB hr hsm)
    have HS := Lib.hid (fun A c V B hB hr => treeCutsS_any A c xs s left V B hB hr hsm)
    have HG := Lib.hid (fun A c V B hB hr => goodTreeI_any A c xs s V B hB hr hsm)
    go_wp2_with fail
    have hzW : w2.heap.size < (w2.alloc (.cells #[.slice A xs.length c, .string s] 26)).heap.size := by simp
    have hsW : (w2.alloc (.cells #[.slice A xs.length c, .string s] 26)).heap.size = w2.heap.size + 1 := by simp
    have hAW : Below w2.heap.size w2 (w2.alloc (.cells #[.slice A xs.length c, .string s] 26)) := (Below.refl _ _).alloc (Nat.le_refl _) _
    have c0W : (w2.alloc (.cells #[.slice A xs.length c, .string s] 26)).cell? ⟨w2.heap.size, 0, none⟩ = some (.slice A xs.length c) := by simp [go_sem]
    have c1W : (w2.alloc (.cells #[.slice A xs.length c, .string s] 26)).cell? ⟨w2.heap.size, 1, none⟩ = some (.string s) := by simp [go_sem]
    generalize w2.alloc (.cells #[.slice A xs.length c, .string s] 26) = W at *
    have hsW := Lib.hid hsW
    have g0 := gtr hb2 hAW
    have r0 := (ho2.below hAW).rd rfl
    obtain ⟨P, hP⟩ : ∃ P, P = w2.heap.size := ⟨_, rfl⟩
    rw [← hP] at hzW c0W c1W ⊢
    clear hP ho2 hb2 hAW hsW
    obtain ⟨b, hbb⟩ : ∃ b, b = treeB xs s := ⟨_, rfl⟩
    obtain ⟨ts, hts⟩ : ∃ ts, ts = treeCuts xs s left := ⟨_, rfl⟩
    rw [← hbb] at HI HS HG
    rw [← hts] at HS
    have HB := Lib.hid hbb; have HTS := Lib.hid hts
    have hI0 := HI.out left A c W _ (Nat.le_refl _) r0
    rw [← hts] at hI0
    have HI0 := Lib.hid hI0
    clear hbb hts hI0
    ((with_reducible refine (HI0.out).mono ?_); rintro e w3 ⟨v3, rfl, fr3, hb3⟩)
    obtain ⟨A3, c3, rfl, r3⟩ := RdT.form fr3
    have g1 := gtr g0 hb3
    have rA3 := r0.below hb3 (Nat.le_refl _)
    have c03 := (hb3.cell (p := ⟨P, 0, none⟩) hzW).trans c0W
    have c13 := (hb3.cell (p := ⟨P, 1, none⟩) hzW).trans c1W
    have hz3 := hb3.size
    clear hb3 fr3 c0W c1W g0 r0 HI0
    go_wp2_with fail
    ((with_reducible refine (HS.out A c w3 _ (by omega) rA3).mono ?_); rintro e w4 ⟨v4, rfl, fr4, hb4⟩)
    obtain ⟨A4, c4, rfl, r4⟩ := RdT.form fr4
    have g2 := gtr g1 hb4
    have rA4 := rA3.below hb4 (by omega)
    have r34 := r3.below hb4 (Nat.le_refl _)
    have c04 := (hb4.cell (p := ⟨P, 0, none⟩) (by dsimp only; omega)).trans c03
    have c14 := (hb4.cell (p := ⟨P, 1, none⟩) (by dsimp only; omega)).trans c13
    have hz4 := hb4.size
    clear hb4 fr4 c03 c13 g1 rA3 r3 HS
    cases b
    · go_wp2_with fail
      ((with_reducible refine (HG.out A c w4 _ (by omega) rA4).mono ?_); rintro e w5 ⟨rfl, hb5⟩)
      have g3 := gtr g2 hb5
      go_wp2
      go_ret
      exact ⟨rfl, g3⟩
    · go_wp2_with fail
      ((with_reducible refine (HG.out A c w4 _ (by omega) rA4).mono ?_); rintro e w5 ⟨rfl, hb5⟩)
      have g3 := gtr g2 hb5
      have rA5 := rA4.below hb5 (by omega)
      have r35 := r34.below hb5 (by omega)
      have r45 := r4.below hb5 (Nat.le_refl _)
      have c05 := (hb5.cell (p := ⟨P, 0, none⟩) (by dsimp only; omega)).trans c04
      have c15 := (hb5.cell (p := ⟨P, 1, none⟩) (by dsimp only; omega)).trans c14
      have hz5 := hb5.size
      clear hb5 g2 rA4 r34 r4 c04 c14 HG
      go_wp2_with fail
      obtain ⟨us, hus⟩ : ∃ us, us = treeCuts xs s (!left) := ⟨_, rfl⟩
      have hI1 := HI.out (!left) A c w5 _ (by omega) rA5
      rw [← hus] at hI1
      have HI1 := Lib.hid hI1
      have HUS := Lib.hid hus
      clear hus hI1 HI
      ((with_reducible refine (HI1.out).mono ?_); rintro e w6 ⟨v6, rfl, fr6, hb6⟩)
      obtain ⟨A6, c6, rfl, r6⟩ := RdT.form fr6
      have g4 := gtr g3 hb6
      have r36 := r35.below hb6 (by omega)
      have r46 := r45.below hb6 (by omega)
      have c06 := (hb6.cell (p := ⟨P, 0, none⟩) (by dsimp only; omega)).trans c05
      have hz6 := hb6.size
      clear hb6 fr6 g3 rA5 r35 r45 c05 c15 HI1 r6
      go_wp2_with fail
      have hall : ∀ i, i < ts.length → treeB (gtr' ts i).1 (gtr' ts i).2 = true ∧ (gtr' ts i).1.length < xs.length := fun i hi => by
        have hm : gtr' ts i ∈ ts := by
          unfold gtr'
          rw [List.getD_eq_getElem?_getD, List.getElem?_eq_getElem hi]
          exact List.getElem_mem hi
        rw [HTS.out] at hm
        unfold treeCuts at hm
        rw [if_pos HB.out.symm] at hm
        exact cutsL_good xs s left HB.out.symm _ (Nat.le_refl _) _ (by rw [HTS.out]; unfold treeCuts; rw [if_pos HB.out.symm]; exact hm)
      have HALL := Lib.hid hall
      have ht8 : ts.length ≤ 8 := by rw [HTS.out]; exact treeCuts_len xs s left
      clear hall
      go_loopw [11] (fun i wr => ∃ k : Nat, i = .int .i64 k ∧ k ≤ ts.length ∧ Below w6.heap.size w6 wr) (fun i _ => ts.length - (intOf i).toNat)
      case atStart => exact ⟨0, rfl, by omega, Below.refl _ _⟩
      case round =>
        obtain ⟨k, rfl, hk, hb⟩ := hrel
        have hzr := hb.size
        by_cases hlt : k < ts.length
        · obtain ⟨b, o, rfl, hbB, hc⟩ := (r36.below hb (by omega)).2.2 k hlt
          obtain ⟨b', o', rfl, hbB', hc'⟩ := (r46.below hb (by omega)).2.2 k hlt
          obtain ⟨A1, c1, k0, k1, r1⟩ := hc k hlt
          obtain ⟨A2, c2, l0, l1, r2⟩ := hc' k hlt
          obtain ⟨t1, t2⟩ := HALL.out k hlt
          generalize gtr' ts k = t at *
          obtain ⟨ys, u⟩ := t
          simp only at k0 k1 r1 l0 l1 r2 t1 t2
          have hbz : b < wr.heap.size := by omega
          have hbz' : b' < wr.heap.size := by omega
          have hPz : P < wr.heap.size := by omega
          have c07 := (hb.cell (p := ⟨P, 0, none⟩) (by dsimp only; omega)).trans c06
          have hx0 := fun x => (grow_cell (w := wr) b (o + k * 2) hbz x).trans k0
          have hx1 := fun x => (grow_cell (w := wr) b (o + k * 2 + 1) hbz x).trans k1
          have hx2 := fun x => (grow_cell (w := wr) b' (o' + k * 2) hbz' x).trans l0
          have hx3 := fun x => (grow_cell (w := wr) b' (o' + k * 2 + 1) hbz' x).trans l1
          have hx1' := hx1
          have hx3' := hx3
          simp only [Nat.add_assoc] at hx1' hx3'
          have hne : (u.toList == u.toList) = true := by simp
          have hx4 := fun x => (grow_cell (w := wr) P 0 hPz x).trans c07
          have hnl : ¬ (xs.length : Int) ≤ (ys.length : Int) := by omega
          have hge : decide ((xs.length : Int) ≤ (ys.length : Int)) = false := by rw [decide_eq_false_iff_not]; omega
          have hge3 : decide ((ys.length : Int) ≥ (xs.length : Int)) = false := by rw [decide_eq_false_iff_not]; omega
          have hge4 : ¬ (ys.length : Int) ≥ (xs.length : Int) := by omega
          have hge5 : ¬ xs.length ≤ ys.length := by omega
          have hge3 : decide ((ys.length : Int) ≥ (xs.length : Int)) = false := by rw [decide_eq_false_iff_not]; omega
          have hge4 : ¬ (ys.length : Int) ≥ (xs.length : Int) := by omega
          have hge5 : ¬ xs.length ≤ ys.length := by omega
          have HLT : Hid (k + 1 ≤ ts.length) := by show _ ≤ _; omega
          have HBB := Lib.hid hb; have HZR := Lib.hid hzr
          have hum : u.size ≤ maxLen := by have := (treeB_of t1).2.1; unfold maxLen; omega
          have HGD : Hid (∀ x : Wd (Below wr.heap.size wr), Calls Tryd.prog 13 #[.agg #[.slice A1 ys.length c1, .string u]] (inst _ x) fun e w' => e = .returned (.bool true) ∧ Below (inst _ x).heap.size (inst _ x) w') := fun x => by
            have := goodTreeI_any A1 c1 ys u (inst _ x) wr.heap.size (grow_size _) ((r1.more (by omega)).below (inst_inv x) (Nat.le_refl _)) hum
            rwa [t1] at this
          have HRI : Hid (∀ x : Wd (Below wr.heap.size wr), Calls Tryd.prog 14 #[.slice A1 ys.length c1, .slice A2 ys.length c2] (inst _ x) fun e w' => e = .returned (.bool true) ∧ Below (inst _ x).heap.size (inst _ x) w') := fun x =>
            rInts_same A1 A2 c1 c2 ys (inst _ x) wr.heap.size (grow_size _) ((r1.more (by omega)).below (inst_inv x) (Nat.le_refl _)) ((r2.more (by omega)).below (inst_inv x) (Nat.le_refl _))
          clear hc hc' k0 k1 l0 l1 r1 r2 t1 t2 c07
          go_wp2
          refine wp_region_inv (Below wr.heap.size wr) (grow0 _) (by kernel_rfl) (by kernel_rfl) ?_
          repeat (go_big_quiet_step (fail))
          go_big_quiet_step ((go_at_call 13; refine grow_step (HGD.out _)))
          repeat (go_big_quiet_step (first | (go_at_call 13; refine grow_step (HGD.out _)) | (go_at_call 14; refine grow_step (HRI.out _))))
          refine wpQuiet_nil ?_
          intro w7 hw'
          have hb7 := grow_of hw'
          clear hw'
          go_wp2
          go_roundw
          case rel => exact ⟨k + 1, by go_num, HLT.out, HBB.out.trans (hb7.mono HZR.out)⟩
          case measure => (have h1 : k + 1 ≤ ts.length := HLT.out; simp [intOf]; omega)
        · obtain rfl : k = ts.length := by omega
          have hsum : ts.length + us.length = xs.length := by
            rw [HTS.out, HUS.out]; unfold treeCuts
            rw [if_pos HB.out.symm, if_pos HB.out.symm]
            exact cutsL_both xs s left xs.length
          have h8 : xs.length ≤ 8 := by obtain ⟨a1, a2, a3, a4⟩ := treeB_of HB.out.symm; omega
          have hsi : (ts.length : Int) + (us.length : Int) = (xs.length : Int) := by omega
          have c07 := (hb.cell (p := ⟨P, 0, none⟩) (by dsimp only; omega)).trans c06
          have G := Lib.hid (gtr g4 hb)
          clear hsum HALL
          go_wp2
          go_ret
          exact ⟨rfl, G.out⟩
end Go.Proofs.YtbhficohgdlojaaDoor
