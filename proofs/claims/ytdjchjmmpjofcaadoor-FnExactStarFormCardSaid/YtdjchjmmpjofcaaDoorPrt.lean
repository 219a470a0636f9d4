/- A game and its subpositions: the program's parts at a star, by contract. Conditions: none. -/
import Derived.Test.YtdjchjmmpjofcaaDoorPr0
namespace Go.Proofs.YtdjchjmmpjofcaaDoor
open Go.RowKit Go.Maps
set_option linter.unusedVariables false

theorem key_of (t : Nat) (h : t ≤ 1000) : keyOf Tryd.prog 3 (.int .i64 (t : Int)) = some (.int .i64 (t : Int)) :=
  keyOf_int_mk (P := Tryd.prog) (k := 3) (q := .i64) Tryd.underlying3 (a := (t : Int)) (by simp [Lit.wf, IntKind.min, IntKind.max, IntKind.signed, IntKind.bits]; omega)
theorem val_true : plainElem (H := Unit) Tryd.prog 4 (.bool true) = some (.lit (.bool true), []) := plainElem_bool Tryd.underlying4 true

set_option maxRecDepth 100000 in
set_option maxHeartbeats 6400000 in
theorem parts_any (p n gL gR gB cL cR cB r : Nat) (w : World) (hn : n ≤ 15) (hP : PR w w.heap.size p n gL gR gB cL cR cB) (hr : w.cell? ⟨r, 0, none⟩ = some (.int .i64 (n : Int))) (hrl : r < w.heap.size) :
    Calls Tryd.prog 18 #[.pointer (some ⟨p, 0, none⟩), .slice (some ⟨r, 0, none⟩) 1 1] w fun e w' => ∃ A c, e = .returned (.slice A (n + 1) c) ∧ Own w' w.heap.size 3 (.slice A (n + 1) c) (ints (nlist n n)) ∧ Below w.heap.size w w' := by
  have hmk : ∀ (t : TypeId) (w : World), (Instr.makeMap t none).run Tryd.prog w = .ok (.map (some w.heap.size)) (w.alloc (.map #[] 0)) := fun t w => run_makeMap t w
  have HP := Lib.hid hP
  have HRC := Lib.hid fun W (h : Below w.heap.size w W) => (h.cell (p := ⟨r, 0, none⟩) hrl).trans hr
  clear hP hr hrl
  go_enter Tryd.func18, Tryd.ntmps18
  go_wp2_with fail
  have HS0 : Hid (SeenM ((w.alloc (.map #[] 0)).alloc (.cells #[] 3)) w.heap.size 0 []) := Lib.hid ((SeenM.new w).kept (grown_below (bel1 _ _) none) (by simp))
  have HE0 : Hid (Own ((w.alloc (.map #[] 0)).alloc (.cells #[] 3)) w.heap.size 3 (.slice (some ⟨w.heap.size + 1, 0, none⟩) 0 0) (ints [])) := Lib.hid (Own.of_blk (Blk.new_at _ _ _ (by simp)) (by omega))
  have HB0 := Lib.hid (bel2 w (.map #[] 0) (.cells #[] 3))
  obtain ⟨V, hV⟩ : ∃ V, V = (w.alloc (.map #[] 0)).alloc (.cells #[] 3) := ⟨_, rfl⟩
  rw [← hV] at HS0 HE0 HB0 ⊢
  obtain ⟨b, hb⟩ : ∃ b, b = w.heap.size := ⟨_, rfl⟩
  have HBE := Lib.hid hb
  have HE1 : Hid (Own V w.heap.size 3 (.slice (some ⟨b + 1, 0, none⟩) 0 0) (ints [])) := Lib.hid (by rw [hb]; exact HE0.out)
  clear HE0
  have HE0 := HE1
  clear HE1
  have hbl : w.heap.size ≤ b := by omega
  rw [← hb] at HS0 ⊢
  clear hV hmk hb
  go_loopw [6, 18] (fun x i wr => ∃ (s c : Nat) (A : Option Addr) (L : List Int), i = .int .i64 s ∧ s ≤ 1 ∧ Hid (L = (nlist n 0).take s) ∧ L.length = s ∧ x = .slice A L.length c ∧ Own wr w.heap.size 3 (.slice A L.length c) (ints L) ∧ SeenM wr b s L ∧ Below w.heap.size w wr) (fun _ i _ => 1 - (intOf i).toNat)
  case atStart => exact ⟨0, _, _, [], rfl, by omega, Lib.hid rfl, rfl, rfl, HE0.out, HS0.out, HB0.out⟩
  case round =>
    clear HS0 HE0 HB0
    obtain ⟨s, c, A, L, rfl, hs, HL, hLl, rfl, ho, ⟨D, hD, hat⟩, hbw⟩ := hrel
    have HOW := Lib.hid ho
    have HAT := Lib.hid hat
    have HBW := Lib.hid hbw
    have hzr := hbw.size
    have hr0 := HRC.out wr hbw
    have HLl := Lib.hid hLl
    have hLb : L.length ≤ 40 := by omega
    clear ho hat hbw hLl
    by_cases hlt : s < 1
    · obtain rfl : s = 0 := by omega
      have HNM : Hid (decide ((n : Int) ∈ L) = false) := Lib.hid (by rw [HL.out]; rfl)
      have hkey := key_of n (by omega)
      have hnl : 0 < maxLen := by unfold maxLen; omega
      go_wp2_with (first
        | (at_lookup; refine wpList_lookup_own_bool _ rfl _ _ 53 rfl 3 4 keyedI Tryd.underlying53 Tryd.underlying4 (zeroBo _) b _ D rfl hD _ _ rfl hkey ?_; intro cb hcc; rw [lit_bool hcc (HAT.out (n : Int)) HNM.out]; clear hcc)
        | (at_mapUpdate; refine wpList_mapUpdate_own _ rfl _ _ _ 53 rfl 3 4 keyedI Tryd.underlying53 _ b _ D rfl hD hnl _ _ _ rfl rfl hkey _ [] val_true ?_; intro w3 ho3 hg3; have HO3 := Lib.hid (HOW.out.grown hg3 (.inr (neMap HOW.out hD))); have hS3 := SeenM.put (n : Int) hD.isMap HAT.out ho3; have HS3 := Lib.hid hS3; have hz3 := hg3.size; have HG3 := Lib.hid hg3; have HHD3 := Lib.hid ho3; clear hS3 ho3 hg3)
        | (at_builtin; refine append_int rfl _ _ rfl w.heap.size (.slice A L.length c) L rfl (own_ints.2 (HO3.out.below (bel1 _ _))) _ (n : Int) rfl ((Blk.new _ _ _).cell 0) (by omega) (by simp; omega) ?_; intro A5 c5 w5 ho5 hb5 hg5; have ho6 := own_ints.1 ho5; have HO5 := Lib.hid ho6; have hS5 := (HS3.out.kept (grown_below (bel1 w3 (.cells #[.int .i64 (n : Int)] 3)) none) (by simp)).kept hg5 (fun e => neMap (HO3.out.below (bel1 w3 (.cells #[.int .i64 (n : Int)] 3))) (HHD3.out.kept (grown_below (bel1 w3 (.cells #[.int .i64 (n : Int)] 3)) none) (by simp)) e.symm); have HS5 := Lib.hid hS5; have hB5 := ((HBW.out.grown HG3.out hzr (fun g hg => by injection hg with hg; omega)).trans ((Below.refl _ w3).alloc (by omega) _)).trans hb5; have HB5 := Lib.hid hB5; clear ho5 ho6 hS5 hb5 hg5 hB5))
      go_roundw
      case rel => exact ⟨1, c5, A5, L ++ [(n : Int)], by go_num, by omega, Lib.hid (by rw [HL.out]; rfl), by rw [List.length_append, HLl.out]; rfl, by rw [List.length_append]; rfl, by rw [List.length_append]; exact HO5.out, HS5.out, HB5.out⟩
      case measure => simp [intOf]
    · have hs1 : s = 1 := by omega
      have HL1 : Hid (L = nlist n 0) := Lib.hid (by rw [HL.out, hs1]; rfl)
      clear HL
      have HS1 : Hid (SeenM wr b 1 L) := Lib.hid ⟨D, by rw [← hs1]; exact hD, HAT.out⟩
      rw [hs1] at HLl
      have hsI : ¬ (s : Int) < 1 := by omega
      clear hs1
      clear hD HAT hr0 HRC hlt hzr
      go_wp2_with fail
      obtain ⟨w1, rfl⟩ : ∃ w1, w1 = wr := ⟨_, rfl⟩
      go_loopw [6, 9] (fun x i wr => ∃ (k c j : Nat) (A : Option Addr) (L : List Int), i = .int .i64 k ∧ ((k = 0 ∧ j = 0) ∨ (1 ≤ k ∧ j = n)) ∧ k ≤ j + 1 ∧ j ≤ n ∧ Hid (L = nlist n j) ∧ L.length = j + 1 ∧ x = .slice A L.length c ∧ Own wr w.heap.size 3 (.slice A L.length c) (ints L) ∧ SeenM wr b (j + 1) L ∧ Below w.heap.size w wr) (fun _ i _ => n + 2 - (intOf i).toNat)
      case atStart => exact ⟨0, _, 0, _, L, rfl, Or.inl ⟨rfl, rfl⟩, by omega, by omega, HL1, HLl.out, rfl, HOW.out, HS1.out, HBW.out⟩
      case round =>
        clear HOW HLl hLb HL1 HS1 HBW
        obtain ⟨k, c, j, A, L, rfl, hkj, hk, hjn, HL, hLl, rfl, ho, hS, hbw⟩ := hrel
        have HOW := Lib.hid ho
        have HS := Lib.hid hS
        have HBW := Lib.hid hbw
        have hzr := hbw.size
        have HLl := Lib.hid hLl
        have hLb : L.length ≤ 40 := by omega
        by_cases hlt : k < j + 1
        · have hltI : (k : Int) < (L.length : Int) := by omega
          obtain ⟨x, hx, hxn⟩ : ∃ x : Nat, ((k = 0 ∧ x = n) ∨ (1 ≤ k ∧ x = k - 1)) ∧ x ≤ n := by
            rcases hkj with ⟨h1, h2⟩ | ⟨h1, h2⟩
            · exact ⟨n, Or.inl ⟨h1, rfl⟩, Nat.le_refl _⟩
            · exact ⟨k - 1, Or.inr ⟨h1, rfl⟩, by omega⟩
          have hgx : gi L k = (x : Int) := by
            rw [HL.out]
            rcases hx with ⟨h1, h2⟩ | ⟨h1, h2⟩
            · rw [h1, h2]; rfl
            · obtain ⟨k', rfl⟩ : ∃ k', k = k' + 1 := ⟨k - 1, by omega⟩
              show gi (rng j) k' = _
              rw [gi_rng j k' (by omega), h2]
              rfl
          obtain ⟨g, rfl, -, -, -, hc, -⟩ := ho.at (by rw [ints_len]; omega)
          have hck := hc k _ (ints_at _ k (by omega))
          rw [hgx] at hck
          have hP1 := HP.out.below hbw (Nat.le_refl _)
          have hpl := hP1.lc
          have hpr := hP1.rc
          have p0 := hP1.c0
          have p1 := hP1.c1
          obtain ⟨A1, c1, hA1, hR1⟩ := hP1.left x hxn
          obtain ⟨A2, c2, hA2, hR2⟩ := hP1.right x hxn
          have HR1 := Lib.hid hR1
          have HR2 := Lib.hid hR2
          have hxI : (x : Int) < (n : Int) + 1 := by omega
          clear hP1 hR1 hR2 hc ho hS hbw hLl hgx
          go_wp2_with fail
          go_quiet (fail)
          have hdw : Below wr.heap.size wr (wr.drewN nq) := bdrew (Below.refl _ _) _
          have HOW2 := Lib.hid (HOW.out.below hdw)
          have HS2 : Hid (SeenM (wr.drewN nq) b (j + 1) L) := Lib.hid (HS.out.kept (grown_below hdw none) (by simp))
          have HBW2 : Hid (Below w.heap.size w (wr.drewN nq)) := Lib.hid (bdrew HBW.out nq)
          have HQ1 := Lib.hid fun W (h : Below w.heap.size (wr.drewN nq) W) => RdI.below (RdI.below HR1.out hdw hzr) h (Nat.le_refl _)
          have HQ2 := Lib.hid fun W (h : Below w.heap.size (wr.drewN nq) W) => RdI.below (RdI.below HR2.out hdw hzr) h (Nat.le_refl _)
          have hz2w : w.heap.size ≤ (wr.drewN nq).heap.size := HBW2.out.size
          clear HOW HS HBW HR1 HR2 hck p0 p1 hA1 hA2 hdw hzr
          generalize wr.drewN nq = w2 at *
          go_wp2_with fail
          go_loopw [6, 60] (fun y i wr => ∃ (s c j' : Nat) (A : Option Addr) (L : List Int), i = .int .i64 s ∧ s ≤ 2 ∧ j' ≤ n ∧ ((s = 0 ∧ j' = j) ∨ (1 ≤ s ∧ j' = max j x)) ∧ Hid (L = nlist n j') ∧ L.length = j' + 1 ∧ y = .slice A L.length c ∧ Own wr w.heap.size 3 (.slice A L.length c) (ints L) ∧ SeenM wr b (j' + 1) L ∧ Below w.heap.size w2 wr) (fun _ i _ => 2 - (intOf i).toNat)
          case atStart => exact ⟨0, _, j, _, L, rfl, by omega, hjn, Or.inl ⟨rfl, rfl⟩, HL, HLl.out, rfl, HOW2.out, HS2.out, Below.refl _ _⟩
          case round =>
            clear HOW2 HS2 HL HLl hLb hltI
            obtain ⟨s, c, j', A, L, rfl, hs, hj'n, hsj, HL, hLl, rfl, ho, hS, hbw⟩ := hrel
            have HOW := Lib.hid ho
            have HS := Lib.hid hS
            have HBW := Lib.hid hbw
            have hzr := hbw.size
            have HLl := Lib.hid hLl
            have hLb : L.length ≤ 40 := by omega
            by_cases hlt2 : s < 2
            · obtain ⟨O, co, hidx, hRO⟩ : ∃ O co, (∀ W, (Instr.index 54 (.agg #[.slice A1 x c1, .slice A2 x c2]) (.int .i64 (s : Int))).run Tryd.prog W = .ok (.slice O x co) W) ∧ ∀ W, Below w.heap.size w2 W → RdI W w.heap.size O co (rng x) := by
                have : s = 0 ∨ s = 1 := by omega
                rcases this with rfl | rfl
                · exact ⟨A1, c1, fun W => by kernel_rfl, HQ1.out⟩
                · exact ⟨A2, c2, fun W => by kernel_rfl, HQ2.out⟩
              have HRO := Lib.hid hRO
              have hltI2 : (s : Int) < 2 := by omega
              clear ho hS hbw hLl hRO
              go_wp2_with fail
              obtain ⟨w4, rfl⟩ : ∃ w4, w4 = wr := ⟨_, rfl⟩
              go_loopw [6, 65] (fun y i wr => ∃ (t c jj : Nat) (A : Option Addr) (L : List Int), i = .int .i64 t ∧ t ≤ x ∧ jj ≤ n ∧ jj = max j' t ∧ Hid (L = nlist n jj) ∧ L.length = jj + 1 ∧ y = .slice A L.length c ∧ Own wr w.heap.size 3 (.slice A L.length c) (ints L) ∧ SeenM wr b (jj + 1) L ∧ Below w.heap.size w2 wr) (fun _ i _ => x - (intOf i).toNat)
              case atStart => exact ⟨0, _, j', _, L, rfl, by omega, hj'n, by omega, HL, HLl.out, rfl, HOW.out, HS.out, HBW.out⟩
              case round =>
                clear HOW HS HBW HL HLl hLb hidx
                obtain ⟨t, c, jj, A, L, rfl, ht, hjjn, hjj, HL, hLl, rfl, ho, ⟨D, hD, hat⟩, hbw⟩ := hrel
                have HOW := Lib.hid ho
                have HAT := Lib.hid hat
                have HBW := Lib.hid hbw
                have hzr : w.heap.size ≤ wr.heap.size := Nat.le_trans hz2w hbw.size
                have HLl := Lib.hid hLl
                have hLb : L.length ≤ 40 := by omega
                have HJJ := Lib.hid hjj
                by_cases hlt4 : t < x
                · obtain ⟨bo, oo, rfl, -, hc⟩ := (HRO.out wr hbw).at (j := t) (by rw [rng_len]; exact hlt4)
                  have hct := hc t (by rw [rng_len]; exact hlt4)
                  rw [gi_rng x t hlt4] at hct
                  have hRl := (HRO.out wr hbw).len
                  rw [rng_len] at hRl
                  have hkey := key_of t (by omega)
                  have hnl : jj + 1 < maxLen := by unfold maxLen; omega
                  have hmem := nlist_mem n jj t (by omega)
                  rw [← HL.out] at hmem
                  by_cases hseen : t < jj
                  · have HNM : Hid (decide ((t : Int) ∈ L) = true) := Lib.hid (by rw [hmem]; exact decide_eq_true hseen)
                    have hj2 : Hid (jj = max j' (t + 1)) := Lib.hid (by omega)
                    clear ho hat hbw hLl hc hmem hjj hseen
                    go_wp2_with (first
                      | (at_lookup; refine wpList_lookup_own_bool _ rfl _ _ 53 rfl 3 4 keyedI Tryd.underlying53 Tryd.underlying4 (zeroBo _) b _ D rfl hD _ _ rfl hkey ?_; intro cb hcc; rw [lit_bool hcc (HAT.out (t : Int)) HNM.out]; clear hcc)
                      | fail)
                    go_roundw
                    case rel => exact ⟨t + 1, c, jj, A, L, by go_num, by omega, hjjn, hj2.out, HL, HLl.out, rfl, HOW.out, ⟨D, hD, HAT.out⟩, HBW.out⟩
                    case measure => simp [intOf]; omega
                  · have HNM : Hid (decide ((t : Int) ∈ L) = false) := Lib.hid (by rw [hmem]; exact decide_eq_false hseen)
                    have hjt : Hid (jj = t) := Lib.hid (by omega)
                    have hj2 : Hid (jj + 1 = max j' (t + 1)) := Lib.hid (by omega)
                    clear ho hat hbw hLl hc hmem hjj hseen
                    go_wp2_with (first
                      | (at_lookup; refine wpList_lookup_own_bool _ rfl _ _ 53 rfl 3 4 keyedI Tryd.underlying53 Tryd.underlying4 (zeroBo _) b _ D rfl hD _ _ rfl hkey ?_; intro cb hcc; rw [lit_bool hcc (HAT.out (t : Int)) HNM.out]; clear hcc)
                      | (at_mapUpdate; refine wpList_mapUpdate_own _ rfl _ _ _ 53 rfl 3 4 keyedI Tryd.underlying53 _ b _ D rfl hD hnl _ _ _ rfl rfl hkey _ [] val_true ?_; intro w3 ho3 hg3; have HO3 := Lib.hid (HOW.out.grown hg3 (.inr (neMap HOW.out hD))); have hS3 := SeenM.put (t : Int) hD.isMap HAT.out ho3; have HS3 := Lib.hid hS3; have hz3 := hg3.size; have HG3 := Lib.hid hg3; have HHD3 := Lib.hid ho3; clear hS3 ho3 hg3)
                      | (at_builtin; refine append_int rfl _ _ rfl w.heap.size (.slice A L.length c) L rfl (own_ints.2 (HO3.out.below (bel1 _ _))) _ (t : Int) rfl ((Blk.new _ _ _).cell 0) (by omega) (by simp; omega) ?_; intro A5 c5 w5 ho5 hb5 hg5; have ho6 := own_ints.1 ho5; have HO5 := Lib.hid ho6; have hS5 := (HS3.out.kept (grown_below (bel1 w3 (.cells #[.int .i64 (t : Int)] 3)) none) (by simp)).kept hg5 (fun e => neMap (HO3.out.below (bel1 w3 (.cells #[.int .i64 (t : Int)] 3))) (HHD3.out.kept (grown_below (bel1 w3 (.cells #[.int .i64 (t : Int)] 3)) none) (by simp)) e.symm); have HS5 := Lib.hid hS5; have hB5 := ((HBW.out.grown HG3.out hzr (fun g hg => by injection hg with hg; omega)).trans ((Below.refl _ w3).alloc (by omega) _)).trans hb5; have HB5 := Lib.hid hB5; clear ho5 ho6 hS5 hb5 hg5 hB5))
                    go_roundw
                    case rel => exact ⟨t + 1, c5, jj + 1, A5, L ++ [(t : Int)], by go_num, by omega, by have := hjt.out; omega, hj2.out, Lib.hid (by rw [nlist_succ, ← HL.out, hjt.out]), by rw [List.length_append, HLl.out]; rfl, by rw [List.length_append]; rfl, by rw [List.length_append]; exact HO5.out, HS5.out, HB5.out⟩
                    case measure => simp [intOf]; omega
                · obtain rfl : t = x := by omega
                  have HS4 : Hid (SeenM wr b (jj + 1) L) := Lib.hid ⟨D, hD, HAT.out⟩
                  clear ho hat hbw hLl hjj hD HAT
                  go_wp2_with fail
                  go_roundw
                  case rel => exact ⟨s + 1, c, jj, A, L, by go_num, by omega, hjjn, Or.inr ⟨by omega, by have := HJJ.out; omega⟩, HL, HLl.out, rfl, HOW.out, HS4.out, HBW.out⟩
                  case measure => simp [intOf]; omega
            · have hs2 : ¬ (s : Int) < 2 := by omega
              have HJ : Hid (j' = n) := Lib.hid (by omega)
              clear ho hS hbw hLl
              go_wp2_with fail
              go_roundw
              case rel => exact ⟨k + 1, c, j', A, L, by go_num, Or.inr ⟨by omega, HJ.out⟩, by have := HJ.out; omega, hj'n, HL, HLl.out, rfl, HOW.out, HS.out, (HBW2.out.trans HBW.out)⟩
              case measure => simp [intOf]; omega
        · have HJ : Hid (j = n) := Lib.hid (by omega)
          have hltI : ¬ (k : Int) < (L.length : Int) := by omega
          clear ho hS hbw hLl
          go_wp2_with fail
          go_ret
          refine ⟨A, c, ?_, ?_, HBW.out⟩
          · show Ending.returned (.slice A L.length c) = _
            rw [HLl.out, HJ.out]
          · have h := HOW.out
            rw [HLl.out, HL.out, HJ.out] at h
            exact h
end Go.Proofs.YtdjchjmmpjofcaaDoor
