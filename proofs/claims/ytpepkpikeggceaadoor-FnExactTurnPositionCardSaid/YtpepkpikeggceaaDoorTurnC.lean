/- TurnBoard of the reference, by contract. Conditions: none. -/
import Derived.Test.YtpepkpikeggceaaDoorTurnB
namespace Go.Proofs.YtpepkpikeggceaaDoor
open Go.RowKit
set_option linter.unusedVariables false

def colBool (bss : List (List Bool)) (k : Nat) : List Bool := bss.map fun r => r.getD k false
theorem colBool_len (bss : List (List Bool)) (k : Nat) : (colBool bss k).length = bss.length := by simp [colBool]
theorem colBool_step (bss : List (List Bool)) (k j : Nat) (h : j < bss.length) : (colBool bss k).take (j + 1) = (colBool bss k).take j ++ [(gb bss j).getD k false] := by
  have h' : j < (colBool bss k).length := by rw [colBool_len]; exact h
  rw [List.take_succ_eq_append_getElem h', gb_lt h]
  congr 2
  simp [colBool]
theorem range_stepB (f : Nat → List Bool) (k : Nat) : (List.range (k + 1)).map f = (List.range k).map f ++ [f k] := by rw [List.range_succ, List.map_append]; rfl
theorem btext_col {ss : List ByteArray} {k : Nat} (h : ∀ i, i < ss.length → allIn [46, 35] (gs ss i) = true ∧ k < (gs ss i).size) : btext (colBool (brows ss) k) = colS ss k := by
  unfold btext colS
  congr 1
  unfold colBool brows
  rw [List.map_map, List.map_map]
  refine List.map_congr_left fun r hr => ?_
  obtain ⟨i, hi, rfl⟩ := List.getElem_of_mem hr
  obtain ⟨h1, h2⟩ := h i hi
  rw [gs_lt hi] at h1 h2
  have hl : k < (ss[i]).data.toList.length := by rw [data_len]; exact h2
  have e1 : (brow ss[i]).getD k false = ((ss[i]).data.toList[k] == 46) := by
    rw [List.getD_eq_getElem?_getD, brow, List.getElem?_map, List.getElem?_eq_getElem hl]; rfl
  have e2 : (ss[i]).data.toList.getD k 0 = (ss[i]).data.toList[k] := by rw [List.getD_eq_getElem?_getD, List.getElem?_eq_getElem hl]; rfl
  show bmark ((brow ss[i]).getD k false) = _
  rw [e1, e2]
  have h3 := allIn_true.1 h1 k h2
  have e3 : (ss[i]).data.toList[k] = (ss[i])[k] := rfl
  rw [e3]
  simp at h3
  rcases h3 with e | e <;> rw [e] <;> rfl

set_option maxHeartbeats 1600000 in
theorem TurnBoardS_any (A : Option Addr) (c : Nat) (ss : List ByteArray) (w : World) (B : Nat) (hB : B ≤ w.heap.size) (h : Rd w B A c (scells ss)) (hsz : Hid (Short ss)) (hn : ss.length ≤ 1048576) :
    Calls Tryd.prog 22 #[.agg #[.slice A ss.length c]] w (RetBB w (resTurnBoard ss) (boardB ss)) := by
  have h1 := h.len
  have h2 := h.max
  rw [scells_len] at h1
  go_enter Tryd.func22, Tryd.ntmps22
  go_wp2_with fail
  obtain ⟨W, hW⟩ : ∃ W, W = (w.alloc (.cells #[.slice A ss.length c] 45)).alloc (.cells #[.slice none 0 0] 45) := ⟨_, rfl⟩
  have e0 : Blk W w.heap.size 45 #[.slice A ss.length c] := by rw [hW]; exact (Blk.new w _ _).alloc _
  have e1 : Blk W (w.heap.size + 1) 45 #[.slice none 0 0] := by rw [hW]; exact Blk.new_at (w.alloc _) _ _ (by simp)
  have hAW : Below w.heap.size w W := by rw [hW]; exact bel2 _ _ _
  have hzW : w.heap.size + 2 ≤ W.heap.size := by rw [hW]; simp
  rw [← hW]
  clear hW
  have hrW := h.below hAW hB
  cases hg : boardB ss
  · have HT : Hid (resTurnBoard ss = []) := by show _ = _; rw [resTurnBoard, hg]; rfl
    refine (goodBoardS_any A c ss W B (by omega) hrW hsz).mono ?_; rintro e w1 ⟨rfl, hb1⟩
    have f1 := e1.below hb1 e1.lt
    have q10 : w1.cell? ⟨w.heap.size + 1, 0, none⟩ = some (.slice none 0 0) := f1.cell 0
    have z10 := f1.frozen 0
    go_wp2
    refine bodyPost_ret (v := .tuple #[.agg #[.slice none 0 0], .bool false]) (by simp [results, Tryd.results22, go_sem, q10]) rfl ⟨none, 0, by rw [HT.out, hg]; rfl, by rw [HT.out]; exact own_none _ _ _, ?_⟩
    exact (gtr hAW hb1).setCell (by dsimp only; omega) _
  · have HT : Hid (resTurnBoard ss = (List.range (gs ss 0).size).map (colS ss)) := by show _ = _; rw [resTurnBoard, if_pos hg]
    have HBP := Lib.hid (boardB_of hg)
    have hl8 : ss.length ≤ 8 := HBP.out.1.2
    have hs8 : (gs ss 0).size ≤ 8 := HBP.out.2.1.2
    refine (goodBoardS_any A c ss W B (by omega) hrW hsz).mono ?_; rintro e w1 ⟨rfl, hb1⟩
    have f0 := e0.below hb1 e0.lt
    have q00 : w1.cell? ⟨w.heap.size, 0, none⟩ = some (.slice A ss.length c) := f0.cell 0
    have hz1 := hb1.size
    go_wp2_with fail
    refine (cells_any A c ss w1 B (by omega) (hrW.below hb1 (by omega)) hsz hn).mono ?_; rintro e w2 ⟨A2, c2, rfl, ho2, hb2⟩
    have f1 := (e1.below hb1 e1.lt).below hb2 (by have := e1.lt; omega)
    have hbw2 : Below w.heap.size w w2 := gtr (gtr hAW hb1) hb2
    have hz2 := hb2.size
    obtain ⟨bss, hbs⟩ : ∃ bss, bss = brows ss := ⟨_, rfl⟩
    have hbl : bss.length = ss.length := by rw [hbs]; simp [brows]
    rw [← hbs] at ho2
    have hcr := ho2.rd
    have HBS := Lib.hid hbs; have HBL := Lib.hid hbl; clear hbs
    have HROW : Hid (∀ i, i < ss.length → (gb bss i).length = (gs ss 0).size) := by
      intro i hi
      rw [HBS.out]
      have e : gb (brows ss) i = brow (gs ss i) := by simp [gb, brows, gs, hi]
      rw [e, brow_len]
      exact (HBP.out.2.2 i hi).1
    have hl0 : 0 < ss.length := HBP.out.1.1
    clear hbl
    obtain ⟨b, o, rfl, hbB, hc⟩ := hcr.at (j := 0) (by have := HBL.out; omega)
    have HC : Hid (∀ w', Below w2.heap.size w2 w' → ∀ i, i < ss.length → ∃ Ai ci, w'.cell? ⟨b, o + i, none⟩ = some (.slice Ai (gs ss 0).size ci) ∧ (gs ss 0).size ≤ ci ∧ ci ≤ 9223372036854775807 ∧ Rd w' w2.heap.size Ai ci (bools (gb bss i))) := by
      intro w' hb i hi
      obtain ⟨Ai, ci, k1, k2⟩ := hc i (by rw [HBL.out]; exact hi)
      rw [HROW.out i hi] at k1
      have hl := k2.len
      rw [bools_len, HROW.out i hi] at hl
      exact ⟨Ai, ci, (hb.cell (p := ⟨b, o + i, none⟩) (by show b < _; omega)).trans k1, hl, k2.max, k2.below hb (Nat.le_refl _)⟩
    have hcl := hcr.len
    have hcl1 : ss.length ≤ c2 := by have := HBL.out; omega
    have hcl2 := hcl.2
    clear hc hcr ho2 hcl
    have HB2 : Hid (Below w2.heap.size w2 (w2.alloc (.cells #[] 68))) := bel1 _ _
    go_wp2
    go_loopw [5, 6, 7, 8] (fun v i x y wr => ∃ (k : Nat) (A' : Option Addr) (c' : Nat), i = .int .i64 k ∧ k ≤ (gs ss 0).size ∧ v = .slice A' k c' ∧ RwB wr w2.heap.size (.slice A' k c') ((List.range k).map (colBool bss)) ∧ Below w2.heap.size w2 wr) (fun _ i _ _ _ => (gs ss 0).size - (intOf i).toNat)
    case atStart => exact ⟨0, _, _, rfl, by omega, rfl, RwB.nil (Own.empty w2 68 _ _ (Nat.le_refl _)), HB2.out⟩
    case round =>
      obtain ⟨k, A', c', rfl, hk, rfl, ho, hb⟩ := hrel
      obtain ⟨A0, c0, q0, hq1, hq2, rd0⟩ := HC.out _ hb 0 hl0
      rw [Nat.add_zero] at q0
      have hzr := hb.size
      obtain ⟨wo, rfl⟩ : ∃ wo : World, wo = wr := ⟨_, rfl⟩
      clear rd0
      have HO := Lib.hid ho; clear ho
      by_cases hlt : k < (gs ss 0).size
      · go_wp2
        clear q0
        go_loopw [7, 8] (fun x y wr => ∃ (j : Nat) (A3 : Option Addr) (c3 : Nat), y = .int .i64 j ∧ j ≤ ss.length ∧ x = .slice A3 j c3 ∧ Own wr wo.heap.size 4 (.slice A3 j c3) (bools ((colBool bss k).take j)) ∧ Below wo.heap.size wo wr) (fun _ y _ => ss.length - (intOf y).toNat)
        case atStart => exact ⟨0, _, _, rfl, by omega, rfl, Own.empty wo 4 _ _ (Nat.le_refl _), bel1 _ _⟩
        case round =>
          obtain ⟨j, A3, c3, rfl, hj, rfl, ho3, hb3⟩ := hrel
          have hz3 := hb3.size
          by_cases hjl : j < ss.length
          · obtain ⟨Aj, cj, qj, hj1, hj2, rj⟩ := HC.out _ (gtr hb hb3) j hjl
            have hkj : k < (gb bss j).length := by rw [HROW.out j hjl]; exact hlt
            obtain ⟨b4, o4, rfl, hb4, hc4⟩ := rj.at (j := k) (by rw [bools_len]; exact hkj)
            have q4 := hc4 k _ (bools_at _ k hkj)
            clear hc4
            obtain ⟨u, hu⟩ : ∃ u, u = (gb bss j).getD k false := ⟨_, rfl⟩
            rw [← hu] at q4
            have HL : Hid (((colBool bss k).take j).length = j) := by show _ = _; rw [List.length_take, colBool_len, HBL.out]; omega
            have HT2 : Hid ((colBool bss k).take (j + 1) = (colBool bss k).take j ++ [u]) := by show _ = _; rw [colBool_step bss k j (by rw [HBL.out]; exact hjl), hu]
            clear hu
            go_wp2_with (at_builtin; refine append_bool rfl _ _ rfl wo.heap.size _ ((colBool bss k).take j) rfl (ho3.below ((Below.refl _ _).alloc (Nat.le_refl _) _)) _ u rfl ((Blk.new _ _ _).cell 0) (by rw [HL.out]; omega) (by simp; omega) ?_; intro A5 c5 w5 ho5 hb5 hg5; rw [HL.out, ← HT2.out] at ho5; rw [HL.out])
            have HO5 := Lib.hid ho5; clear ho5
            go_roundw
            case rel => exact ⟨j + 1, A5, c5, by go_num, by omega, rfl, HO5.out, (hb3.alloc hz3 _).trans hb5⟩
            case measure => simp [intOf]; omega
          · obtain rfl : j = ss.length := by omega
            have HE : Hid ((colBool bss k).take ss.length = colBool bss k) := List.take_of_length_le (by rw [colBool_len, HBL.out]; exact Nat.le_refl _)
            rw [HE.out] at ho3
            have HRO := Lib.hid ho3.rd
            have hne : ∀ a, A3 = some a → wo.heap.size ≤ a.block ∧ a.block < wr.heap.size := fun a ha => by subst ha; exact ho3.lt a.block rfl
            have HNE := Lib.hid hne
            clear hne ho3
            obtain ⟨cs, k1, k2, k3⟩ := HO.out
            have HK : Hid (cs.length = k) := by show _ = _; rw [k2, List.length_map, List.length_range]
            have HK3 := Lib.hid (And.intro k1 (And.intro k2 k3))
            have hvb := fun g hg => (k1.lt g hg).2
            have HVB := Lib.hid hvb
            have k1' := (k1.below hb3)
            clear k2 k3 hvb k1
            go_wp2_with (at_builtin; refine wpList_append_at rfl _ _ 66 68 (.slice none 0 0) 24 rfl Tryd.underlying66 infoBoolS rfl (by omega) w2.heap.size _ cs rfl (k1'.below (bel1 _ _)) _ _ _ _ [.slice A3 ss.length c3] rfl rfl (Rd.of_blk (Blk.new _ _ _) (Nat.lt_succ_self _)) (fun u hu => by simp at hu; subst hu; rfl) (by rw [HK.out]; simp; omega) (by simp; omega) ?_; intro A4 c4 w4 ho4 hb4 hg4 hp4; rw [HK.out] at ho4 hp4 ⊢)
            have HP : Hid (RwB w4 w2.heap.size (.slice A4 (k + 1) c4) ((List.range (k + 1)).map (colBool bss))) := by
              show RwB _ _ _ _
              rw [range_stepB]
              refine RwB.push (w := wo) (w2 := wr.alloc (.cells #[.slice A3 ss.length c3] 68)) (A := A3) (c := c3) HK3.out (hb3.alloc hz3 _) ?_ ?_ ?_ hg4 hp4
              · exact (HRO.out.below (bel1 _ _) (Nat.le_refl _)).more (by simp)
              · intro a ha
                have := HNE.out a ha
                refine ⟨by simp; omega, fun he => ?_⟩
                have := HVB.out _ he
                omega
              · rw [colBool_len, HBL.out]; exact ho4
            clear ho4 hg4 hp4 k1'
            go_wp2
            go_roundw
            case rel => exact ⟨k + 1, A4, c4, by go_num, by omega, rfl, HP.out, (hb.trans ((hb3.alloc hz3 _).mono hzr)).trans hb4⟩
            case measure => simp [intOf]; omega
      · obtain rfl : k = (gs ss 0).size := by omega
        have HL : Hid (((List.range (gs ss 0).size).map (colBool bss)).length = (gs ss 0).size) := by show _ = _; rw [List.length_map, List.length_range]
        have hbd := board_any A' c' ((List.range (gs ss 0).size).map (colBool bss)) wo wo.heap.size (Nat.le_refl _) HO.out.rd (by have := HL.out; omega) (by
          intro i hi
          rw [HL.out] at hi
          have e : gb ((List.range (gs ss 0).size).map (colBool bss)) i = colBool bss i := by simp [gb, hi]
          rw [e, colBool_len, HBL.out]
          omega)
        rw [HL.out] at hbd
        have HBD := Lib.hid hbd; clear hbd
        have HRES : Hid (((List.range (gs ss 0).size).map (colBool bss)).map btext = (List.range (gs ss 0).size).map (colS ss)) := by
          show _ = _
          rw [HBS.out, List.map_map]
          refine List.map_congr_left fun k hk => ?_
          rw [List.mem_range] at hk
          exact btext_col fun i hi => ⟨(HBP.out.2.2 i hi).2, by rw [(HBP.out.2.2 i hi).1]; exact hk⟩
        go_wp2_with fail
        refine HBD.out.mono ?_; rintro e w5 ⟨A5, c5, rfl, ho5, hb5⟩
        have f5 := (f1.below hb f1.lt).below hb5 (by have := f1.lt; omega)
        have q5 : w5.cell? ⟨w.heap.size + 1, 0, none⟩ = some (.slice none 0 0) := f5.cell 0
        have z5 := f5.frozen 0
        rw [HRES.out] at ho5 ⊢
        have HLR : Hid (((List.range (gs ss 0).size).map (colS ss)).length = (gs ss 0).size) := by show _ = _; rw [List.length_map, List.length_range]
        rw [HLR.out] at ho5 ⊢
        go_wp2
        refine bodyPost_ret (v := .tuple #[.agg #[.slice A5 (gs ss 0).size c5], .bool true]) (by simp [results, Tryd.results22, go_sem, q5]) rfl ⟨A5, c5, by rw [HT.out, HLR.out, hg], ?_, ?_⟩
        · rw [HT.out, HLR.out]
          exact (ho5.far' _ _ (by dsimp only; omega)).le (by omega)
        · exact (gtr (gtr hbw2 hb) hb5).setCell (by dsimp only; omega) _
end Go.Proofs.YtpepkpikeggceaaDoor
