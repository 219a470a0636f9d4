/- A component turned, by contract: the program's. Conditions: none. -/
import Derived.Test.YtpepkpikeggceaaDoorCmpI
import Derived.Test.YtpepkpikeggceaaDoorTurn2
import Derived.Test.YtpepkpikeggceaaDoorTurnC
import Derived.Test.YtpepkpikeggceaaDoorBText
namespace Go.Proofs.YtpepkpikeggceaaDoor
open Go.RowKit
set_option linter.unusedVariables false

/-- What is behind the verb when the players change roles. -/
def tnd (a t : ByteArray) : ByteArray := if (a.toList == [100, 111, 109]) = true then ⟨(jl (resTurnBoard (pieces 47 t))).toArray⟩ else if (a.toList == [115, 116, 97, 108, 107]) = true then str (t.data.toList.map (swp 76 82)) else if (a.toList == [110, 105, 109]) = true then t else str (turnL (skOf a) t)
theorem turn_rows {t : ByteArray} (h : boardB (pieces 47 t) = true) : 0 < (resTurnBoard (pieces 47 t)).length ∧ (resTurnBoard (pieces 47 t)).length ≤ 8 ∧ ∀ j, j < (resTurnBoard (pieces 47 t)).length → (gs (resTurnBoard (pieces 47 t)) j).size ≤ 8 := by
  have hb := boardB_of h
  have hl := resTurnBoard_le (pieces 47 t)
  have e : resTurnBoard (pieces 47 t) = (List.range (gs (pieces 47 t) 0).size).map (colS (pieces 47 t)) := by unfold resTurnBoard; rw [if_pos h]
  refine ⟨by rw [e, List.length_map, List.length_range]; exact hb.2.1.1, hl, fun j hj => ?_⟩
  have hj2 : j < (gs (pieces 47 t) 0).size := by rw [e, List.length_map, List.length_range] at hj; exact hj
  have : gs (resTurnBoard (pieces 47 t)) j = colS (pieces 47 t) j := by rw [e, gs, List.getD_eq_getElem?_getD, List.getElem?_map, List.getElem?_range hj2]; rfl
  rw [this]
  unfold colS
  rw [str_size, List.length_map]
  exact hb.1.2

set_option maxHeartbeats 800000 in
theorem compBoard_any (a t : ByteArray) (w : World) (ht : t.size ≤ 1048576) :
    Calls Tryd.prog 26 #[.agg #[.string a, .string t]] w fun e w' => ∃ A c, e = .returned (.agg #[.slice A (pieces 47 t).length c]) ∧ Own w' w.heap.size 9 (.slice A (pieces 47 t).length c) (scells (pieces 47 t)) ∧ Below w.heap.size w w' := by
  have HS := Lib.hid fun W => split_any 47 t W (by omega)
  go_enter Tryd.func26, Tryd.ntmps26
  go_wp2_with fail
  obtain ⟨W, hW⟩ : ∃ W, W = (w.alloc (.cells #[.string a, .string t] 34)).alloc (.cells #[.slice none 0 0] 45) := ⟨_, rfl⟩
  have e1 : Blk W (w.heap.size + 1) 45 #[.slice none 0 0] := by rw [hW]; exact Blk.new_at (w.alloc _) _ _ (by simp)
  have hAW : Below w.heap.size w W := by rw [hW]; exact bel2 _ _ _
  have hzW : w.heap.size + 2 ≤ W.heap.size := by rw [hW]; simp
  rw [← hW]
  clear hW
  ((with_reducible refine (HS.out W).mono ?_); rintro e w1 ⟨A, c, rfl, ho, hb1⟩)
  have e2 := e1.below hb1 e1.lt
  have r0 : w1.cell? ⟨w.heap.size + 1, 0, none⟩ = some (.slice none 0 0) := e2.cell 0
  have rf0 : w1.frozen? ⟨w.heap.size + 1, 0, none⟩ = false := e2.frozen 0
  go_wp2
  refine bodyPost_ret (v := .agg #[.slice A (pieces 47 t).length c]) (by simp [results, Tryd.results26, go_sem, r0]) rfl ⟨A, c, rfl, (ho.far' _ _ (by show w.heap.size + 1 < _; omega)).le (by omega), (gtr hAW hb1).setCell (by simp) _⟩

set_option maxHeartbeats 3200000 in
theorem turned_any (a t : ByteArray) (w : World) (hg : gdB a t = true) (ht : t.size ≤ 1048576) :
    Calls Tryd.prog 13 #[.agg #[.string a, .string t]] w fun e w' => e = .returned (.agg #[.string a, .string (tnd a t)]) ∧ Below w.heap.size w w' := by
  have htM : t.size ≤ maxLen := by unfold maxLen; omega
  have HG := Lib.hid hg
  clear hg
  obtain ⟨x, hx⟩ : ∃ x, x = tnd a t := ⟨_, rfl⟩
  rw [← hx]
  have HX := Lib.hid hx
  clear hx
  cases h0 : (a.toList == [100, 111, 109])
  · cases h1 : (a.toList == [115, 116, 97, 108, 107])
    · cases h2 : (a.toList == [110, 105, 109])
      · have HY : Hid (x = str (turnL (skOf a) t)) := Lib.hid (by rw [HX.out]; unfold tnd; rw [h0, h1, h2]; rfl)
        have HSK := Lib.hid fun W => stripKind_any a t W
        have HTS := Lib.hid fun W => turnI_any (skOf a) t W htM
        obtain ⟨k, hk⟩ : ∃ k, k = skOf a := ⟨_, rfl⟩
        rw [← hk] at HY HSK HTS
        rw [← HY.out] at HTS
        obtain ⟨bb, hbb⟩ : ∃ bb, bb = stripB k t := ⟨_, rfl⟩
        rw [← hbb] at HTS
        clear hk htM HX HY hbb HG
        go_enter Tryd.func13, Tryd.ntmps13
        go_wp2_with fail
        obtain ⟨W, hW⟩ : ∃ W, W = (w.alloc (.cells #[.string a, .string t] 34)).alloc (.cells #[.string ⟨#[]⟩, .string ⟨#[]⟩] 34) := ⟨_, rfl⟩
        have i0 : Blk W w.heap.size 34 #[.string a, .string t] := by rw [hW]; exact (Blk.new w _ _).alloc _
        have i1 : Blk W (w.heap.size + 1) 34 #[.string ⟨#[]⟩, .string ⟨#[]⟩] := by rw [hW]; exact Blk.new_at (w.alloc _) _ _ (by simp)
        have hAW : Below w.heap.size w W := by rw [hW]; exact bel2 _ _ _
        have hzW : w.heap.size + 2 ≤ W.heap.size := by rw [hW]; simp
        rw [← hW]
        clear hW
        have c0 : W.cell? ⟨w.heap.size, 0, none⟩ = some (.string a) := i0.cell 0
        have c1 : W.cell? ⟨w.heap.size, 1, none⟩ = some (.string t) := i0.cell 1
        refine wp_region_noPanic ?_
        refine wp_region_held_drew (S := fun _ => True) (by kernel_rfl) trivial (fun hHeld => ?_)
        refine wpAnyH_take (i := 2) (oi := ⟨some 10, _, _, _, _, _⟩) (v := ?vta2) rfl (by kernel_rfl) (by kernel_rfl) (by kernel_rfl) (fun _ _ _ h => h) (Or.inl ⟨by kernel_rfl, ?hya2⟩) (by assumption) ?_
        case hya2 => (intro wh hSw; (try dsimp only at hSw); go_simp; try with_reducible rfl)
        simp only [Act.put, List.setIfInBounds_toArray, List.set_cons_zero, List.set_cons_succ]
        refine wpAnyH_ready (rs := [0, 3]) (by kernel_rfl) (by simp) ?_
        refine AllReadyH.cons (o := _) rfl (fun K hK => ?_) (AllReadyH.cons (o := _) rfl (fun K hK => ?_) AllReadyH.nil)
        · go_simp
          refine hK.out _ _ trivial (fun _ => ?_)
          clear hK K
          try simp only [Act.put]
          refine wpAnyH_ready (rs := [1, 3]) (by kernel_rfl) (by simp) ?_
          refine AllReadyH.cons (o := _) rfl (fun K hK => ?_) (AllReadyH.cons (o := _) rfl (fun K hK => ?_) AllReadyH.nil)
          · go_simp
            go_at_call 30
            ((with_reducible refine (HSK.out _).mono ?_); rintro e w1 ⟨rfl, hb1⟩)
            have hG1 := gtr (gdrew (a := W)) hb1
            have j0 := i0.below hG1 i0.lt
            have j1 := i1.below hG1 i1.lt
            have s0 : w1.cell? ⟨w.heap.size, 0, none⟩ = some (.string a) := j0.cell 0
            have s1 : w1.cell? ⟨w.heap.size, 1, none⟩ = some (.string t) := j0.cell 1
            have sf0 : w1.frozen? ⟨w.heap.size, 0, none⟩ = false := j0.frozen 0
            have sf1 : w1.frozen? ⟨w.heap.size, 1, none⟩ = false := j0.frozen 1
            have r0 : w1.cell? ⟨w.heap.size + 1, 0, none⟩ = some (.string ⟨#[]⟩) := j1.cell 0
            have r1 : w1.cell? ⟨w.heap.size + 1, 1, none⟩ = some (.string ⟨#[]⟩) := j1.cell 1
            have rf0 : w1.frozen? ⟨w.heap.size + 1, 0, none⟩ = false := j1.frozen 0
            have rf1 : w1.frozen? ⟨w.heap.size + 1, 1, none⟩ = false := j1.frozen 1
            clear s0 sf0 sf1 r0 r1 rf0 rf1
            dsimp only
            refine hK.out _ _ trivial (fun _ => ?_)
            clear hK K
            try simp only [Act.put]
            refine wpAnyH_ready (rs := [3]) (by kernel_rfl) (by simp) ?_
            refine AllReadyH.cons (o := _) rfl (fun K hK => ?_) AllReadyH.nil
            go_simp
            refine hK.out _ _ trivial (fun _ => ?_)
            clear hK K
            try simp only [Act.put]
            refine wpAnyH_ready (rs := [4]) (by kernel_rfl) (by simp) ?_
            refine AllReadyH.cons (o := _) rfl (fun K hK => ?_) AllReadyH.nil
            go_simp
            go_at_call 29
            ((with_reducible refine (HTS.out _).mono ?_); rintro e w2 ⟨rfl, hb2⟩)
            have hG2 := gtr hG1 hb2
            clear j0 j1 s1
            have j0 := i0.below hG2 i0.lt
            have j1 := i1.below hG2 i1.lt
            have s0 : w2.cell? ⟨w.heap.size, 0, none⟩ = some (.string a) := j0.cell 0
            have s1 : w2.cell? ⟨w.heap.size, 1, none⟩ = some (.string t) := j0.cell 1
            have sf0 : w2.frozen? ⟨w.heap.size, 0, none⟩ = false := j0.frozen 0
            have sf1 : w2.frozen? ⟨w.heap.size, 1, none⟩ = false := j0.frozen 1
            have r0 : w2.cell? ⟨w.heap.size + 1, 0, none⟩ = some (.string ⟨#[]⟩) := j1.cell 0
            have r1 : w2.cell? ⟨w.heap.size + 1, 1, none⟩ = some (.string ⟨#[]⟩) := j1.cell 1
            have rf0 : w2.frozen? ⟨w.heap.size + 1, 0, none⟩ = false := j1.frozen 0
            have rf1 : w2.frozen? ⟨w.heap.size + 1, 1, none⟩ = false := j1.frozen 1
            dsimp only
            refine hK.out _ _ trivial (fun _ => ?_)
            clear hK K
            try simp only [Act.put]
            refine wpAnyH_take (i := 5) (oi := ⟨some 7, _, _, _, _, _⟩) (v := ?vtb5) rfl (by kernel_rfl) (by kernel_rfl) (by kernel_rfl) (fun _ _ _ h => h) (Or.inl ⟨by kernel_rfl, ?hyb5⟩) (by assumption) ?_
            case hyb5 => (intro wh hSw; (try dsimp only at hSw); go_simp; try with_reducible rfl)
            simp only [Act.put, List.setIfInBounds_toArray, List.set_cons_zero, List.set_cons_succ]
            refine wpAnyH_take (i := 6) (oi := ⟨some 13, _, _, _, _, _⟩) (v := ?vtb6) rfl (by kernel_rfl) (by kernel_rfl) (by kernel_rfl) (fun _ _ _ h => h) (Or.inl ⟨by kernel_rfl, ?hyb6⟩) (by assumption) ?_
            case hyb6 => (intro wh hSw; (try dsimp only at hSw); go_simp; try with_reducible rfl)
            simp only [Act.put, List.setIfInBounds_toArray, List.set_cons_zero, List.set_cons_succ]
            refine wpAnyH_take (i := 7) (oi := ⟨some 14, _, _, _, _, _⟩) (v := ?vtb7) rfl (by kernel_rfl) (by kernel_rfl) (by kernel_rfl) (fun _ _ _ h => h) (Or.inl ⟨by kernel_rfl, ?hyb7⟩) (by assumption) ?_
            case hyb7 => (intro wh hSw; (try dsimp only at hSw); go_simp; try with_reducible rfl)
            simp only [Act.put, List.setIfInBounds_toArray, List.set_cons_zero, List.set_cons_succ]
            refine wpAnyH_take (i := 8) (oi := ⟨some 15, _, _, _, _, _⟩) (v := ?vtb8) rfl (by kernel_rfl) (by kernel_rfl) (by kernel_rfl) (fun _ _ _ h => h) (Or.inl ⟨by kernel_rfl, ?hyb8⟩) (by assumption) ?_
            case hyb8 => (intro wh hSw; (try dsimp only at hSw); go_simp; try with_reducible rfl)
            simp only [Act.put, List.setIfInBounds_toArray, List.set_cons_zero, List.set_cons_succ]
            refine wpAnyH_ready (rs := [9]) (by kernel_rfl) (by simp) ?_
            refine AllReadyH.cons (o := _) rfl (fun K hK => ?_) AllReadyH.nil
            go_simp
            refine hK.out _ _ trivial (fun _ => ?_)
            clear hK K
            try simp only [Act.put]
            refine wpAnyH_done (by kernel_rfl) ?_ _
            refine NoPanic.normal ?_
            have hbw := gtr hAW hG2
            clear i0 i1 j0 j1 hAW hzW hb1 hb2 hG1 hG2 HSK HTS
            go_wp2
            refine bodyPost_ret (v := .agg #[.string a, .string x]) (by simp [results, Tryd.results13, go_sem, r0, r1]) rfl ⟨rfl, ?_⟩
            exact ((hbw.setCell (by simp) _).setCell (by simp) _).setCell (by simp) _
          · go_simp
            refine hK.out _ _ trivial (fun _ => ?_)
            clear hK K
            try simp only [Act.put]
            refine wpAnyH_ready (rs := [1]) (by kernel_rfl) (by simp) ?_
            refine AllReadyH.cons (o := _) rfl (fun K hK => ?_) AllReadyH.nil
            go_simp
            go_at_call 30
            ((with_reducible refine (HSK.out _).mono ?_); rintro e w1 ⟨rfl, hb1⟩)
            have hG1 := gtr (gdrew (a := W)) hb1
            have j0 := i0.below hG1 i0.lt
            have j1 := i1.below hG1 i1.lt
            have s0 : w1.cell? ⟨w.heap.size, 0, none⟩ = some (.string a) := j0.cell 0
            have s1 : w1.cell? ⟨w.heap.size, 1, none⟩ = some (.string t) := j0.cell 1
            have sf0 : w1.frozen? ⟨w.heap.size, 0, none⟩ = false := j0.frozen 0
            have sf1 : w1.frozen? ⟨w.heap.size, 1, none⟩ = false := j0.frozen 1
            have r0 : w1.cell? ⟨w.heap.size + 1, 0, none⟩ = some (.string ⟨#[]⟩) := j1.cell 0
            have r1 : w1.cell? ⟨w.heap.size + 1, 1, none⟩ = some (.string ⟨#[]⟩) := j1.cell 1
            have rf0 : w1.frozen? ⟨w.heap.size + 1, 0, none⟩ = false := j1.frozen 0
            have rf1 : w1.frozen? ⟨w.heap.size + 1, 1, none⟩ = false := j1.frozen 1
            clear s0 sf0 sf1 r0 r1 rf0 rf1
            dsimp only
            refine hK.out _ _ trivial (fun _ => ?_)
            clear hK K
            try simp only [Act.put]
            refine wpAnyH_ready (rs := [4]) (by kernel_rfl) (by simp) ?_
            refine AllReadyH.cons (o := _) rfl (fun K hK => ?_) AllReadyH.nil
            go_simp
            go_at_call 29
            ((with_reducible refine (HTS.out _).mono ?_); rintro e w2 ⟨rfl, hb2⟩)
            have hG2 := gtr hG1 hb2
            clear j0 j1 s1
            have j0 := i0.below hG2 i0.lt
            have j1 := i1.below hG2 i1.lt
            have s0 : w2.cell? ⟨w.heap.size, 0, none⟩ = some (.string a) := j0.cell 0
            have s1 : w2.cell? ⟨w.heap.size, 1, none⟩ = some (.string t) := j0.cell 1
            have sf0 : w2.frozen? ⟨w.heap.size, 0, none⟩ = false := j0.frozen 0
            have sf1 : w2.frozen? ⟨w.heap.size, 1, none⟩ = false := j0.frozen 1
            have r0 : w2.cell? ⟨w.heap.size + 1, 0, none⟩ = some (.string ⟨#[]⟩) := j1.cell 0
            have r1 : w2.cell? ⟨w.heap.size + 1, 1, none⟩ = some (.string ⟨#[]⟩) := j1.cell 1
            have rf0 : w2.frozen? ⟨w.heap.size + 1, 0, none⟩ = false := j1.frozen 0
            have rf1 : w2.frozen? ⟨w.heap.size + 1, 1, none⟩ = false := j1.frozen 1
            dsimp only
            refine hK.out _ _ trivial (fun _ => ?_)
            clear hK K
            try simp only [Act.put]
            refine wpAnyH_take (i := 5) (oi := ⟨some 7, _, _, _, _, _⟩) (v := ?vtc5) rfl (by kernel_rfl) (by kernel_rfl) (by kernel_rfl) (fun _ _ _ h => h) (Or.inl ⟨by kernel_rfl, ?hyc5⟩) (by assumption) ?_
            case hyc5 => (intro wh hSw; (try dsimp only at hSw); go_simp; try with_reducible rfl)
            simp only [Act.put, List.setIfInBounds_toArray, List.set_cons_zero, List.set_cons_succ]
            refine wpAnyH_take (i := 6) (oi := ⟨some 13, _, _, _, _, _⟩) (v := ?vtc6) rfl (by kernel_rfl) (by kernel_rfl) (by kernel_rfl) (fun _ _ _ h => h) (Or.inl ⟨by kernel_rfl, ?hyc6⟩) (by assumption) ?_
            case hyc6 => (intro wh hSw; (try dsimp only at hSw); go_simp; try with_reducible rfl)
            simp only [Act.put, List.setIfInBounds_toArray, List.set_cons_zero, List.set_cons_succ]
            refine wpAnyH_take (i := 7) (oi := ⟨some 14, _, _, _, _, _⟩) (v := ?vtc7) rfl (by kernel_rfl) (by kernel_rfl) (by kernel_rfl) (fun _ _ _ h => h) (Or.inl ⟨by kernel_rfl, ?hyc7⟩) (by assumption) ?_
            case hyc7 => (intro wh hSw; (try dsimp only at hSw); go_simp; try with_reducible rfl)
            simp only [Act.put, List.setIfInBounds_toArray, List.set_cons_zero, List.set_cons_succ]
            refine wpAnyH_take (i := 8) (oi := ⟨some 15, _, _, _, _, _⟩) (v := ?vtc8) rfl (by kernel_rfl) (by kernel_rfl) (by kernel_rfl) (fun _ _ _ h => h) (Or.inl ⟨by kernel_rfl, ?hyc8⟩) (by assumption) ?_
            case hyc8 => (intro wh hSw; (try dsimp only at hSw); go_simp; try with_reducible rfl)
            simp only [Act.put, List.setIfInBounds_toArray, List.set_cons_zero, List.set_cons_succ]
            refine wpAnyH_ready (rs := [9]) (by kernel_rfl) (by simp) ?_
            refine AllReadyH.cons (o := _) rfl (fun K hK => ?_) AllReadyH.nil
            go_simp
            refine hK.out _ _ trivial (fun _ => ?_)
            clear hK K
            try simp only [Act.put]
            refine wpAnyH_done (by kernel_rfl) ?_ _
            refine NoPanic.normal ?_
            have hbw := gtr hAW hG2
            clear i0 i1 j0 j1 hAW hzW hb1 hb2 hG1 hG2 HSK HTS
            go_wp2
            refine bodyPost_ret (v := .agg #[.string a, .string x]) (by simp [results, Tryd.results13, go_sem, r0, r1]) rfl ⟨rfl, ?_⟩
            exact ((hbw.setCell (by simp) _).setCell (by simp) _).setCell (by simp) _
        · go_simp
          refine hK.out _ _ trivial (fun _ => ?_)
          clear hK K
          try simp only [Act.put]
          refine wpAnyH_ready (rs := [0]) (by kernel_rfl) (by simp) ?_
          refine AllReadyH.cons (o := _) rfl (fun K hK => ?_) AllReadyH.nil
          go_simp
          refine hK.out _ _ trivial (fun _ => ?_)
          clear hK K
          try simp only [Act.put]
          refine wpAnyH_ready (rs := [1]) (by kernel_rfl) (by simp) ?_
          refine AllReadyH.cons (o := _) rfl (fun K hK => ?_) AllReadyH.nil
          go_simp
          go_at_call 30
          ((with_reducible refine (HSK.out _).mono ?_); rintro e w1 ⟨rfl, hb1⟩)
          have hG1 := gtr (gdrew (a := W)) hb1
          have j0 := i0.below hG1 i0.lt
          have j1 := i1.below hG1 i1.lt
          have s0 : w1.cell? ⟨w.heap.size, 0, none⟩ = some (.string a) := j0.cell 0
          have s1 : w1.cell? ⟨w.heap.size, 1, none⟩ = some (.string t) := j0.cell 1
          have sf0 : w1.frozen? ⟨w.heap.size, 0, none⟩ = false := j0.frozen 0
          have sf1 : w1.frozen? ⟨w.heap.size, 1, none⟩ = false := j0.frozen 1
          have r0 : w1.cell? ⟨w.heap.size + 1, 0, none⟩ = some (.string ⟨#[]⟩) := j1.cell 0
          have r1 : w1.cell? ⟨w.heap.size + 1, 1, none⟩ = some (.string ⟨#[]⟩) := j1.cell 1
          have rf0 : w1.frozen? ⟨w.heap.size + 1, 0, none⟩ = false := j1.frozen 0
          have rf1 : w1.frozen? ⟨w.heap.size + 1, 1, none⟩ = false := j1.frozen 1
          clear s0 sf0 sf1 r0 r1 rf0 rf1
          dsimp only
          refine hK.out _ _ trivial (fun _ => ?_)
          clear hK K
          try simp only [Act.put]
          refine wpAnyH_ready (rs := [4]) (by kernel_rfl) (by simp) ?_
          refine AllReadyH.cons (o := _) rfl (fun K hK => ?_) AllReadyH.nil
          go_simp
          go_at_call 29
          ((with_reducible refine (HTS.out _).mono ?_); rintro e w2 ⟨rfl, hb2⟩)
          have hG2 := gtr hG1 hb2
          clear j0 j1 s1
          have j0 := i0.below hG2 i0.lt
          have j1 := i1.below hG2 i1.lt
          have s0 : w2.cell? ⟨w.heap.size, 0, none⟩ = some (.string a) := j0.cell 0
          have s1 : w2.cell? ⟨w.heap.size, 1, none⟩ = some (.string t) := j0.cell 1
          have sf0 : w2.frozen? ⟨w.heap.size, 0, none⟩ = false := j0.frozen 0
          have sf1 : w2.frozen? ⟨w.heap.size, 1, none⟩ = false := j0.frozen 1
          have r0 : w2.cell? ⟨w.heap.size + 1, 0, none⟩ = some (.string ⟨#[]⟩) := j1.cell 0
          have r1 : w2.cell? ⟨w.heap.size + 1, 1, none⟩ = some (.string ⟨#[]⟩) := j1.cell 1
          have rf0 : w2.frozen? ⟨w.heap.size + 1, 0, none⟩ = false := j1.frozen 0
          have rf1 : w2.frozen? ⟨w.heap.size + 1, 1, none⟩ = false := j1.frozen 1
          dsimp only
          refine hK.out _ _ trivial (fun _ => ?_)
          clear hK K
          try simp only [Act.put]
          refine wpAnyH_take (i := 5) (oi := ⟨some 7, _, _, _, _, _⟩) (v := ?vtd5) rfl (by kernel_rfl) (by kernel_rfl) (by kernel_rfl) (fun _ _ _ h => h) (Or.inl ⟨by kernel_rfl, ?hyd5⟩) (by assumption) ?_
          case hyd5 => (intro wh hSw; (try dsimp only at hSw); go_simp; try with_reducible rfl)
          simp only [Act.put, List.setIfInBounds_toArray, List.set_cons_zero, List.set_cons_succ]
          refine wpAnyH_take (i := 6) (oi := ⟨some 13, _, _, _, _, _⟩) (v := ?vtd6) rfl (by kernel_rfl) (by kernel_rfl) (by kernel_rfl) (fun _ _ _ h => h) (Or.inl ⟨by kernel_rfl, ?hyd6⟩) (by assumption) ?_
          case hyd6 => (intro wh hSw; (try dsimp only at hSw); go_simp; try with_reducible rfl)
          simp only [Act.put, List.setIfInBounds_toArray, List.set_cons_zero, List.set_cons_succ]
          refine wpAnyH_take (i := 7) (oi := ⟨some 14, _, _, _, _, _⟩) (v := ?vtd7) rfl (by kernel_rfl) (by kernel_rfl) (by kernel_rfl) (fun _ _ _ h => h) (Or.inl ⟨by kernel_rfl, ?hyd7⟩) (by assumption) ?_
          case hyd7 => (intro wh hSw; (try dsimp only at hSw); go_simp; try with_reducible rfl)
          simp only [Act.put, List.setIfInBounds_toArray, List.set_cons_zero, List.set_cons_succ]
          refine wpAnyH_take (i := 8) (oi := ⟨some 15, _, _, _, _, _⟩) (v := ?vtd8) rfl (by kernel_rfl) (by kernel_rfl) (by kernel_rfl) (fun _ _ _ h => h) (Or.inl ⟨by kernel_rfl, ?hyd8⟩) (by assumption) ?_
          case hyd8 => (intro wh hSw; (try dsimp only at hSw); go_simp; try with_reducible rfl)
          simp only [Act.put, List.setIfInBounds_toArray, List.set_cons_zero, List.set_cons_succ]
          refine wpAnyH_ready (rs := [9]) (by kernel_rfl) (by simp) ?_
          refine AllReadyH.cons (o := _) rfl (fun K hK => ?_) AllReadyH.nil
          go_simp
          refine hK.out _ _ trivial (fun _ => ?_)
          clear hK K
          try simp only [Act.put]
          refine wpAnyH_done (by kernel_rfl) ?_ _
          refine NoPanic.normal ?_
          have hbw := gtr hAW hG2
          clear i0 i1 j0 j1 hAW hzW hb1 hb2 hG1 hG2 HSK HTS
          go_wp2
          refine bodyPost_ret (v := .agg #[.string a, .string x]) (by simp [results, Tryd.results13, go_sem, r0, r1]) rfl ⟨rfl, ?_⟩
          exact ((hbw.setCell (by simp) _).setCell (by simp) _).setCell (by simp) _
      · have HY : Hid (x = t) := Lib.hid (by rw [HX.out]; unfold tnd; rw [h0, h1, h2]; rfl)
        clear HX HG
        have HY2 := HY.out
        subst HY2
        clear HY
        go_enter Tryd.func13, Tryd.ntmps13
        go_wp2_with fail
        refine bodyPost_ret (v := .agg #[.string a, .string x]) (by simp [results, Tryd.results13, go_sem]) rfl ⟨rfl, ?_⟩
        exact bel2 _ _ _
    · have HY : Hid (x = str (t.data.toList.map (swp 76 82))) := Lib.hid (by rw [HX.out]; unfold tnd; rw [h0, h1]; rfl)
      have HE := Lib.hid fun W => exchanged_any t W (by have := gd_short a t HG.out; omega)
      rw [← HY.out] at HE
      clear HX HG HY
      go_enter Tryd.func13, Tryd.ntmps13
      go_wp2_with fail
      obtain ⟨W, hW⟩ : ∃ W, W = (w.alloc (.cells #[.string a, .string t] 34)).alloc (.cells #[.string ⟨#[]⟩, .string ⟨#[]⟩] 34) := ⟨_, rfl⟩
      have i0 : Blk W w.heap.size 34 #[.string a, .string t] := by rw [hW]; exact (Blk.new w _ _).alloc _
      have i1 : Blk W (w.heap.size + 1) 34 #[.string ⟨#[]⟩, .string ⟨#[]⟩] := by rw [hW]; exact Blk.new_at (w.alloc _) _ _ (by simp)
      have hAW : Below w.heap.size w W := by rw [hW]; exact bel2 _ _ _
      have hzW : w.heap.size + 2 ≤ W.heap.size := by rw [hW]; simp
      rw [← hW]
      clear hW
      ((with_reducible refine (HE.out W).mono ?_); rintro e w1 ⟨rfl, hb1⟩)
      have j0 := i0.below hb1 i0.lt
      have j1 := i1.below hb1 i1.lt
      have s0 : w1.cell? ⟨w.heap.size, 0, none⟩ = some (.string a) := j0.cell 0
      have s1 : w1.cell? ⟨w.heap.size, 1, none⟩ = some (.string t) := j0.cell 1
      have sf0 : w1.frozen? ⟨w.heap.size, 0, none⟩ = false := j0.frozen 0
      have sf1 : w1.frozen? ⟨w.heap.size, 1, none⟩ = false := j0.frozen 1
      have r0 : w1.cell? ⟨w.heap.size + 1, 0, none⟩ = some (.string ⟨#[]⟩) := j1.cell 0
      have r1 : w1.cell? ⟨w.heap.size + 1, 1, none⟩ = some (.string ⟨#[]⟩) := j1.cell 1
      have rf0 : w1.frozen? ⟨w.heap.size + 1, 0, none⟩ = false := j1.frozen 0
      have rf1 : w1.frozen? ⟨w.heap.size + 1, 1, none⟩ = false := j1.frozen 1
      have hb := gtr hAW hb1
      clear i0 i1 j0 j1 hAW hzW hb1
      go_wp2
      refine bodyPost_ret (v := .agg #[.string a, .string x]) (by simp [results, Tryd.results13, go_sem, r0, r1]) rfl ⟨rfl, ?_⟩
      exact ((hb.setCell (by simp) _).setCell (by simp) _).setCell (by simp) _
  · have HB : Hid (boardB (pieces 47 t) = true) := Lib.hid (by have := HG.out; unfold gdB at this; rw [if_pos h0, Bool.and_eq_true] at this; exact this.1)
    have HY : Hid (x = ⟨(jl (resTurnBoard (pieces 47 t))).toArray⟩) := Lib.hid (by rw [HX.out]; unfold tnd; rw [if_pos h0])
    have HT := Lib.hid (turn_rows HB.out)
    have HS := Lib.hid fun W => compBoard_any a t W ht
    have HP := Lib.hid (pieces_short 47 t ht)
    have hpl := pieces_len 47 t
    clear HX HG
    go_enter Tryd.func13, Tryd.ntmps13
    go_wp2_with fail
    obtain ⟨W, hW⟩ : ∃ W, W = (w.alloc (.cells #[.string a, .string t] 34)).alloc (.cells #[.string ⟨#[]⟩, .string ⟨#[]⟩] 34) := ⟨_, rfl⟩
    have i0 : Blk W w.heap.size 34 #[.string a, .string t] := by rw [hW]; exact (Blk.new w _ _).alloc _
    have i1 : Blk W (w.heap.size + 1) 34 #[.string ⟨#[]⟩, .string ⟨#[]⟩] := by rw [hW]; exact Blk.new_at (w.alloc _) _ _ (by simp)
    have hAW : Below w.heap.size w W := by rw [hW]; exact bel2 _ _ _
    have hzW : w.heap.size + 2 ≤ W.heap.size := by rw [hW]; simp
    rw [← hW]
    clear hW
    ((with_reducible refine (HS.out W).mono ?_); rintro e w1 ⟨A, c, rfl, ho, hb1⟩)
    have hr := ho.rd
    have hb := gtr hAW hb1
    have hTB := TurnBoardI_any A c (pieces 47 t) w1 w1.heap.size (Nat.le_refl _) hr HP.out (by have := (boardB_of HB.out).1.2; omega)
    have HTB := Lib.hid hTB
    clear hTB hr ho
    obtain ⟨rs, hrs⟩ : ∃ rs, rs = resTurnBoard (pieces 47 t) := ⟨_, rfl⟩
    rw [← hrs] at HTB HT HY
    clear hrs
    go_wp2_with fail
    ((with_reducible refine HTB.out.mono ?_); rintro e w2 ⟨A2, c2, rfl, ho2, hb2⟩)
    have hB2 := hb1.trans (hb2.mono hb1.size)
    have hz2 := hB2.size
    have hz1 := hb1.size
    have j0 := i0.below hB2 i0.lt
    have j1 := i1.below hB2 i1.lt
    have s0 : w2.cell? ⟨w.heap.size, 0, none⟩ = some (.string a) := j0.cell 0
    have s1 : w2.cell? ⟨w.heap.size, 1, none⟩ = some (.string t) := j0.cell 1
    have sf0 : w2.frozen? ⟨w.heap.size, 0, none⟩ = false := j0.frozen 0
    have sf1 : w2.frozen? ⟨w.heap.size, 1, none⟩ = false := j0.frozen 1
    have r0 : w2.cell? ⟨w.heap.size + 1, 0, none⟩ = some (.string ⟨#[]⟩) := j1.cell 0
    have r1 : w2.cell? ⟨w.heap.size + 1, 1, none⟩ = some (.string ⟨#[]⟩) := j1.cell 1
    have rf0 : w2.frozen? ⟨w.heap.size + 1, 0, none⟩ = false := j1.frozen 0
    have rf1 : w2.frozen? ⟨w.heap.size + 1, 1, none⟩ = false := j1.frozen 1
    have HTX := Lib.hid fun W' (h : Below w2.heap.size w2 W') => textI_any A2 c2 rs W' w2.heap.size h.size (ho2.rd.below h (Nat.le_refl _)) HT.out.1 HT.out.2.1 (Lib.hid HT.out.2.2)
    rw [← HY.out] at HTX
    clear HTB ho2 s0 s1 sf0 sf1 r0 r1 rf0 rf1
    go_wp2_with fail
    ((with_reducible refine (HTX.out _ (bel1 _ _)).mono ?_); rintro e w3 ⟨rfl, hb3⟩)
    have hB3 := hB2.trans ((gtr (bel1 _ _) hb3).mono hz2)
    clear j0 j1
    have j0 := i0.below hB3 i0.lt
    have j1 := i1.below hB3 i1.lt
    have s0 : w3.cell? ⟨w.heap.size, 0, none⟩ = some (.string a) := j0.cell 0
    have s1 : w3.cell? ⟨w.heap.size, 1, none⟩ = some (.string t) := j0.cell 1
    have sf0 : w3.frozen? ⟨w.heap.size, 0, none⟩ = false := j0.frozen 0
    have sf1 : w3.frozen? ⟨w.heap.size, 1, none⟩ = false := j0.frozen 1
    have r0 : w3.cell? ⟨w.heap.size + 1, 0, none⟩ = some (.string ⟨#[]⟩) := j1.cell 0
    have r1 : w3.cell? ⟨w.heap.size + 1, 1, none⟩ = some (.string ⟨#[]⟩) := j1.cell 1
    have rf0 : w3.frozen? ⟨w.heap.size + 1, 0, none⟩ = false := j1.frozen 0
    have rf1 : w3.frozen? ⟨w.heap.size + 1, 1, none⟩ = false := j1.frozen 1
    have hbw := gtr hAW hB3
    clear i0 i1 j0 j1 hAW hzW hb1 hb2 hb3 hB2 hB3 hz1 hz2 hb HTX HS HP HT HY HB
    go_wp2
    refine bodyPost_ret (v := .agg #[.string a, .string x]) (by simp [results, Tryd.results13, go_sem, r0, r1]) rfl ⟨rfl, ?_⟩
    exact ((hbw.setCell (by simp) _).setCell (by simp) _).setCell (by simp) _
end Go.Proofs.YtpepkpikeggceaaDoor
