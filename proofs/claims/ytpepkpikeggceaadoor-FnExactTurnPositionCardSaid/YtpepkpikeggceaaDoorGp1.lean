/- A component that is good, by contract. Conditions: none. -/
import Derived.Test.YtpepkpikeggceaaDoorGp0
import Derived.Test.YtpepkpikeggceaaDoorShelfS
import Derived.Shelf.Strings.Count
namespace Go.Proofs.YtpepkpikeggceaaDoor
open Go.RowKit
set_option linter.unusedVariables false

noncomputable def gdB (a t : ByteArray) : Bool := if (a.toList == [100, 111, 109]) = true then boardB (pieces 47 t) && decide (t.data.toList.count 46 ≤ 9) else if (a.toList == [115, 116, 97, 108, 107]) = true then decide (t.size ≤ 8) && allIn [76, 82] t else if (a.toList == [110, 105, 109]) = true then decide (0 ≤ hpOf t) else decide (0 ≤ skOf a) && stripB (skOf a) t && decide (t.size ≤ 7)

set_option maxRecDepth 100000 in
set_option maxHeartbeats 1600000 in
theorem good_any (a t : ByteArray) (w : World) (hmax : t.size ≤ 1048576) :
    Calls Tryd.prog 18 #[.agg #[.string a, .string t]] w fun e w' => e = .returned (.bool (gdB a t)) ∧ Below w.heap.size w w' := by
  have htM : t.size ≤ maxLen := by unfold maxLen; omega
  obtain ⟨x, hx⟩ : ∃ x, x = gdB a t := ⟨_, rfl⟩
  rw [← hx]
  have HX := Lib.hid hx
  clear hx
  cases h0 : (a.toList == [100, 111, 109])
  · cases h1 : (a.toList == [115, 116, 97, 108, 107])
    · cases h2 : (a.toList == [110, 105, 109])
      · have HY : Hid (x = (decide (0 ≤ skOf a) && stripB (skOf a) t && decide (t.size ≤ 7))) := Lib.hid (by rw [HX.out]; unfold gdB; rw [h0, h1, h2]; rfl)
        have HSK := Lib.hid fun W => stripKind_any a t W
        have HST := Lib.hid fun W => goodStripI_any (skOf a) t W htM
        obtain ⟨k, hk⟩ : ∃ k, k = skOf a := ⟨_, rfl⟩
        rw [← hk] at HY HSK HST
        clear hk htM HX
        by_cases hk0 : (0 : Int) ≤ k
        · cases hsb : stripB k t
          · have HZ : Hid (x = false) := Lib.hid (by rw [HY.out, hsb, Bool.and_false]; rfl)
            rw [hsb] at HST
            clear HY hsb
            go_enter Tryd.func18, Tryd.ntmps18
            go_wp2_with fail
            obtain ⟨W, hW⟩ : ∃ W, W = w.alloc (.cells #[.string a, .string t] 34) := ⟨_, rfl⟩
            have i0 : Blk W w.heap.size 34 #[.string a, .string t] := by rw [hW]; exact Blk.new _ _ _
            have hAW : Below w.heap.size w W := by rw [hW]; exact bel1 _ _
            have s00 : W.cell? ⟨w.heap.size, 0, none⟩ = some (.string a) := i0.cell 0
            have s10 : W.cell? ⟨w.heap.size, 1, none⟩ = some (.string t) := i0.cell 1
            rw [← hW]
            clear hW
            refine wp_region_noPanic ?_
            refine wp_region_held_drew (S := fun W' => W'.cell? ⟨w.heap.size, 0, none⟩ = some (.string a) ∧ W'.cell? ⟨w.heap.size, 1, none⟩ = some (.string t)) (by kernel_rfl) ⟨s00, s10⟩ (fun hHeld => ?_)
            refine wpAnyH_take (i := 0) (oi := ⟨some 38, _, _, _, _, _⟩) (v := ?vta0) rfl (by kernel_rfl) (by kernel_rfl) (by kernel_rfl) (fun _ _ _ h => h) (Or.inl ⟨by kernel_rfl, ?hya0⟩) (by assumption) ?_
            case hya0 => (intro wh hSw; (try dsimp only at hSw); go_simp; try with_reducible rfl)
            simp only [Act.put, List.setIfInBounds_toArray, List.set_cons_zero, List.set_cons_succ]
            refine wpAnyH_ready (rs := [1]) (by kernel_rfl) (by simp) ?_
            refine AllReadyH.cons (o := _) rfl (fun K hK => ?_) AllReadyH.nil
            go_simp
            (go_at_call 30; (with_reducible refine (HSK.out _).mono ?_); rintro e w4 ⟨rfl, hbw4⟩; have gw4 := gtr (gdrew (a := W)) hbw4; have iw4 := i0.below gw4 i0.lt; have s0w4 : w4.cell? ⟨w.heap.size, 0, none⟩ = some (.string a) := iw4.cell 0; have s1w4 : w4.cell? ⟨w.heap.size, 1, none⟩ = some (.string t) := iw4.cell 1)
            refine hK.out _ _ ⟨s0w4, s1w4⟩ (fun _ => ?_)
            clear hK K
            try simp only [Act.put]
            refine wpAnyH_take (i := 2) (oi := ⟨some 40, _, _, _, _, _⟩) (v := ?vtb2) rfl (by kernel_rfl) (by kernel_rfl) (by kernel_rfl) (fun _ _ _ h => h) (Or.inl ⟨by kernel_rfl, ?hyb2⟩) (by assumption) ?_
            case hyb2 => (intro wh hSw; (try dsimp only at hSw); go_simp; try with_reducible rfl)
            simp only [Act.put, List.setIfInBounds_toArray, List.set_cons_zero, List.set_cons_succ]
            refine wpAnyH_take (i := 3) (oi := ⟨some 41, _, _, _, _, _⟩) (v := ?vtb3) rfl (by kernel_rfl) (by kernel_rfl) (by kernel_rfl) (fun _ _ _ h => h) (Or.inl ⟨by kernel_rfl, ?hyb3⟩) (by assumption) ?_
            case hyb3 => (intro wh hSw; (try dsimp only at hSw); go_simp; try with_reducible rfl)
            simp only [Act.put, List.setIfInBounds_toArray, List.set_cons_zero, List.set_cons_succ]
            refine wpAnyH_take (i := 4) (oi := ⟨some 42, _, _, _, _, _⟩) (v := ?vtb4) rfl (by kernel_rfl) (by kernel_rfl) (by kernel_rfl) (fun _ _ _ h => h) (Or.inl ⟨by kernel_rfl, ?hyb4⟩) (by assumption) ?_
            case hyb4 => (intro wh hSw; (try dsimp only at hSw); go_simp; try with_reducible rfl)
            simp only [Act.put, List.setIfInBounds_toArray, List.set_cons_zero, List.set_cons_succ]
            refine wpAnyH_take (i := 6) (oi := ⟨some 44, _, _, _, _, _⟩) (v := ?vtb6) rfl (by kernel_rfl) (by kernel_rfl) (by kernel_rfl) (fun _ _ _ h => h) (Or.inl ⟨by kernel_rfl, ?hyb6⟩) (by assumption) ?_
            case hyb6 => (intro wh hSw; (try dsimp only at hSw); go_simp; try with_reducible rfl)
            simp only [Act.put, List.setIfInBounds_toArray, List.set_cons_zero, List.set_cons_succ]
            refine wpAnyH_take (i := 7) (oi := ⟨some 45, _, _, _, _, _⟩) (v := ?vtb7) rfl (by kernel_rfl) (by kernel_rfl) (by kernel_rfl) (fun _ _ _ h => h) (Or.inl ⟨by kernel_rfl, ?hyb7⟩) (by assumption) ?_
            case hyb7 => (intro wh hSw; (try dsimp only at hSw); go_simp; try with_reducible rfl)
            simp only [Act.put, List.setIfInBounds_toArray, List.set_cons_zero, List.set_cons_succ]
            refine wpAnyH_ready (rs := [5]) (by kernel_rfl) (by simp) ?_
            refine AllReadyH.cons (o := _) rfl (fun K hK => ?_) AllReadyH.nil
            go_simp
            (go_at_call 30; (with_reducible refine (HSK.out _).mono ?_); rintro e w5 ⟨rfl, hbw5⟩; have gw5 := gtr (gw4) hbw5; have iw5 := i0.below gw5 i0.lt; have s0w5 : w5.cell? ⟨w.heap.size, 0, none⟩ = some (.string a) := iw5.cell 0; have s1w5 : w5.cell? ⟨w.heap.size, 1, none⟩ = some (.string t) := iw5.cell 1)
            refine hK.out _ _ ⟨s0w5, s1w5⟩ (fun _ => ?_)
            clear hK K
            try simp only [Act.put]
            refine wpAnyH_ready (rs := [8]) (by kernel_rfl) (by simp) ?_
            refine AllReadyH.cons (o := _) rfl (fun K hK => ?_) AllReadyH.nil
            go_simp
            (go_at_call 44; (with_reducible refine (HST.out _).mono ?_); rintro e w6 ⟨rfl, hbw6⟩; have gw6 := gtr (gw5) hbw6; have iw6 := i0.below gw6 i0.lt; have s0w6 : w6.cell? ⟨w.heap.size, 0, none⟩ = some (.string a) := iw6.cell 0; have s1w6 : w6.cell? ⟨w.heap.size, 1, none⟩ = some (.string t) := iw6.cell 1)
            refine hK.out _ _ ⟨s0w6, s1w6⟩ (fun _ => ?_)
            clear hK K
            try simp only [Act.put]
            refine wpAnyH_take (i := 9) (oi := ⟨some 47, _, _, _, _, _⟩) (v := ?vtc9) rfl (by kernel_rfl) (by kernel_rfl) (by kernel_rfl) (fun _ _ _ h => h) (Or.inl ⟨by kernel_rfl, ?hyc9⟩) (by assumption) ?_
            case hyc9 => (intro wh hSw; (try dsimp only at hSw); go_simp; try with_reducible rfl)
            simp only [Act.put, List.setIfInBounds_toArray, List.set_cons_zero, List.set_cons_succ]
            refine wpAnyH_take (i := 10) (oi := ⟨some 48, _, _, _, _, _⟩) (v := ?vtc10) rfl (by kernel_rfl) (by kernel_rfl) (by kernel_rfl) (fun _ _ _ h => h) (Or.inl ⟨by kernel_rfl, ?hyc10⟩) (by assumption) ?_
            case hyc10 => (intro wh hSw; (try dsimp only at hSw); go_simp; try with_reducible rfl)
            simp only [Act.put, List.setIfInBounds_toArray, List.set_cons_zero, List.set_cons_succ]
            refine wpAnyH_take (i := 11) (oi := ⟨some 49, _, _, _, _, _⟩) (v := undef) rfl (by kernel_rfl) (by kernel_rfl) (by kernel_rfl) (fun _ _ _ h => h) (Or.inr ⟨by kernel_rfl, rfl⟩) (by assumption) ?_
            simp only [Act.put, List.setIfInBounds_toArray, List.set_cons_zero, List.set_cons_succ]
            refine wpAnyH_take (i := 12) (oi := ⟨some 50, _, _, _, _, _⟩) (v := undef) rfl (by kernel_rfl) (by kernel_rfl) (by kernel_rfl) (fun _ _ _ h => h) (Or.inr ⟨by kernel_rfl, rfl⟩) (by assumption) ?_
            simp only [Act.put, List.setIfInBounds_toArray, List.set_cons_zero, List.set_cons_succ]
            refine wpAnyH_take (i := 13) (oi := ⟨some 51, _, _, _, _, _⟩) (v := undef) rfl (by kernel_rfl) (by kernel_rfl) (by kernel_rfl) (fun _ _ _ h => h) (Or.inr ⟨by kernel_rfl, rfl⟩) (by assumption) ?_
            simp only [Act.put, List.setIfInBounds_toArray, List.set_cons_zero, List.set_cons_succ]
            refine wpAnyH_take (i := 14) (oi := ⟨some 52, _, _, _, _, _⟩) (v := undef) rfl (by kernel_rfl) (by kernel_rfl) (by kernel_rfl) (fun _ _ _ h => h) (Or.inr ⟨by kernel_rfl, rfl⟩) (by assumption) ?_
            simp only [Act.put, List.setIfInBounds_toArray, List.set_cons_zero, List.set_cons_succ]
            refine wpAnyH_take (i := 15) (oi := ⟨some 53, _, _, _, _, _⟩) (v := ?vtc15) rfl (by kernel_rfl) (by kernel_rfl) (by kernel_rfl) (fun _ _ _ h => h) (Or.inl ⟨by kernel_rfl, ?hyc15⟩) (by assumption) ?_
            case hyc15 => (intro wh hSw; (try dsimp only at hSw); go_simp; try with_reducible rfl)
            simp only [Act.put, List.setIfInBounds_toArray, List.set_cons_zero, List.set_cons_succ]
            refine wpAnyH_take (i := 16) (oi := ⟨some 2, _, _, _, _, _⟩) (v := ?vtc16) rfl (by kernel_rfl) (by kernel_rfl) (by kernel_rfl) (fun _ _ _ h => h) (Or.inl ⟨by kernel_rfl, ?hyc16⟩) (by assumption) ?_
            case hyc16 => (intro wh hSw; (try dsimp only at hSw); go_simp; try with_reducible rfl)
            simp only [Act.put, List.setIfInBounds_toArray, List.set_cons_zero, List.set_cons_succ]
            refine wpAnyH_done (by kernel_rfl) ?_ _
            refine NoPanic.normal ?_
            go_wp2
            go_ret
            exact ⟨by rw [HZ.out]; first | rfl | exact ret_bool (by first | rfl | simp), gtr hAW gw6⟩
          · have HZ : Hid (x = decide ((t.size : Int) ≤ 7)) := Lib.hid (by rw [HY.out, hsb, Bool.and_true, decide_eq_true hk0, Bool.true_and]; exact decide_eq_decide.2 (by omega))
            rw [hsb] at HST
            clear HY hsb
            go_enter Tryd.func18, Tryd.ntmps18
            go_wp2_with fail
            obtain ⟨W, hW⟩ : ∃ W, W = w.alloc (.cells #[.string a, .string t] 34) := ⟨_, rfl⟩
            have i0 : Blk W w.heap.size 34 #[.string a, .string t] := by rw [hW]; exact Blk.new _ _ _
            have hAW : Below w.heap.size w W := by rw [hW]; exact bel1 _ _
            have s00 : W.cell? ⟨w.heap.size, 0, none⟩ = some (.string a) := i0.cell 0
            have s10 : W.cell? ⟨w.heap.size, 1, none⟩ = some (.string t) := i0.cell 1
            rw [← hW]
            clear hW
            refine wp_region_noPanic ?_
            refine wp_region_held_drew (S := fun W' => W'.cell? ⟨w.heap.size, 0, none⟩ = some (.string a) ∧ W'.cell? ⟨w.heap.size, 1, none⟩ = some (.string t)) (by kernel_rfl) ⟨s00, s10⟩ (fun hHeld => ?_)
            refine wpAnyH_take (i := 0) (oi := ⟨some 38, _, _, _, _, _⟩) (v := ?vtd0) rfl (by kernel_rfl) (by kernel_rfl) (by kernel_rfl) (fun _ _ _ h => h) (Or.inl ⟨by kernel_rfl, ?hyd0⟩) (by assumption) ?_
            case hyd0 => (intro wh hSw; (try dsimp only at hSw); go_simp; try with_reducible rfl)
            simp only [Act.put, List.setIfInBounds_toArray, List.set_cons_zero, List.set_cons_succ]
            refine wpAnyH_ready (rs := [1]) (by kernel_rfl) (by simp) ?_
            refine AllReadyH.cons (o := _) rfl (fun K hK => ?_) AllReadyH.nil
            go_simp
            (go_at_call 30; (with_reducible refine (HSK.out _).mono ?_); rintro e w4 ⟨rfl, hbw4⟩; have gw4 := gtr (gdrew (a := W)) hbw4; have iw4 := i0.below gw4 i0.lt; have s0w4 : w4.cell? ⟨w.heap.size, 0, none⟩ = some (.string a) := iw4.cell 0; have s1w4 : w4.cell? ⟨w.heap.size, 1, none⟩ = some (.string t) := iw4.cell 1)
            refine hK.out _ _ ⟨s0w4, s1w4⟩ (fun _ => ?_)
            clear hK K
            try simp only [Act.put]
            refine wpAnyH_take (i := 2) (oi := ⟨some 40, _, _, _, _, _⟩) (v := ?vte2) rfl (by kernel_rfl) (by kernel_rfl) (by kernel_rfl) (fun _ _ _ h => h) (Or.inl ⟨by kernel_rfl, ?hye2⟩) (by assumption) ?_
            case hye2 => (intro wh hSw; (try dsimp only at hSw); go_simp; try with_reducible rfl)
            simp only [Act.put, List.setIfInBounds_toArray, List.set_cons_zero, List.set_cons_succ]
            refine wpAnyH_take (i := 3) (oi := ⟨some 41, _, _, _, _, _⟩) (v := ?vte3) rfl (by kernel_rfl) (by kernel_rfl) (by kernel_rfl) (fun _ _ _ h => h) (Or.inl ⟨by kernel_rfl, ?hye3⟩) (by assumption) ?_
            case hye3 => (intro wh hSw; (try dsimp only at hSw); go_simp; try with_reducible rfl)
            simp only [Act.put, List.setIfInBounds_toArray, List.set_cons_zero, List.set_cons_succ]
            refine wpAnyH_take (i := 4) (oi := ⟨some 42, _, _, _, _, _⟩) (v := ?vte4) rfl (by kernel_rfl) (by kernel_rfl) (by kernel_rfl) (fun _ _ _ h => h) (Or.inl ⟨by kernel_rfl, ?hye4⟩) (by assumption) ?_
            case hye4 => (intro wh hSw; (try dsimp only at hSw); go_simp; try with_reducible rfl)
            simp only [Act.put, List.setIfInBounds_toArray, List.set_cons_zero, List.set_cons_succ]
            refine wpAnyH_take (i := 6) (oi := ⟨some 44, _, _, _, _, _⟩) (v := ?vte6) rfl (by kernel_rfl) (by kernel_rfl) (by kernel_rfl) (fun _ _ _ h => h) (Or.inl ⟨by kernel_rfl, ?hye6⟩) (by assumption) ?_
            case hye6 => (intro wh hSw; (try dsimp only at hSw); go_simp; try with_reducible rfl)
            simp only [Act.put, List.setIfInBounds_toArray, List.set_cons_zero, List.set_cons_succ]
            refine wpAnyH_take (i := 7) (oi := ⟨some 45, _, _, _, _, _⟩) (v := ?vte7) rfl (by kernel_rfl) (by kernel_rfl) (by kernel_rfl) (fun _ _ _ h => h) (Or.inl ⟨by kernel_rfl, ?hye7⟩) (by assumption) ?_
            case hye7 => (intro wh hSw; (try dsimp only at hSw); go_simp; try with_reducible rfl)
            simp only [Act.put, List.setIfInBounds_toArray, List.set_cons_zero, List.set_cons_succ]
            refine wpAnyH_ready (rs := [5]) (by kernel_rfl) (by simp) ?_
            refine AllReadyH.cons (o := _) rfl (fun K hK => ?_) AllReadyH.nil
            go_simp
            (go_at_call 30; (with_reducible refine (HSK.out _).mono ?_); rintro e w5 ⟨rfl, hbw5⟩; have gw5 := gtr (gw4) hbw5; have iw5 := i0.below gw5 i0.lt; have s0w5 : w5.cell? ⟨w.heap.size, 0, none⟩ = some (.string a) := iw5.cell 0; have s1w5 : w5.cell? ⟨w.heap.size, 1, none⟩ = some (.string t) := iw5.cell 1)
            refine hK.out _ _ ⟨s0w5, s1w5⟩ (fun _ => ?_)
            clear hK K
            try simp only [Act.put]
            refine wpAnyH_ready (rs := [8]) (by kernel_rfl) (by simp) ?_
            refine AllReadyH.cons (o := _) rfl (fun K hK => ?_) AllReadyH.nil
            go_simp
            (go_at_call 44; (with_reducible refine (HST.out _).mono ?_); rintro e w6 ⟨rfl, hbw6⟩; have gw6 := gtr (gw5) hbw6; have iw6 := i0.below gw6 i0.lt; have s0w6 : w6.cell? ⟨w.heap.size, 0, none⟩ = some (.string a) := iw6.cell 0; have s1w6 : w6.cell? ⟨w.heap.size, 1, none⟩ = some (.string t) := iw6.cell 1)
            refine hK.out _ _ ⟨s0w6, s1w6⟩ (fun _ => ?_)
            clear hK K
            try simp only [Act.put]
            refine wpAnyH_take (i := 9) (oi := ⟨some 47, _, _, _, _, _⟩) (v := ?vtf9) rfl (by kernel_rfl) (by kernel_rfl) (by kernel_rfl) (fun _ _ _ h => h) (Or.inl ⟨by kernel_rfl, ?hyf9⟩) (by assumption) ?_
            case hyf9 => (intro wh hSw; (try dsimp only at hSw); go_simp; try with_reducible rfl)
            simp only [Act.put, List.setIfInBounds_toArray, List.set_cons_zero, List.set_cons_succ]
            refine wpAnyH_take (i := 10) (oi := ⟨some 48, _, _, _, _, _⟩) (v := ?vtf10) rfl (by kernel_rfl) (by kernel_rfl) (by kernel_rfl) (fun _ _ _ h => h) (Or.inl ⟨by kernel_rfl, ?hyf10⟩) (by assumption) ?_
            case hyf10 => (intro wh hSw; (try dsimp only at hSw); go_simp; try with_reducible rfl)
            simp only [Act.put, List.setIfInBounds_toArray, List.set_cons_zero, List.set_cons_succ]
            refine wpAnyH_take (i := 11) (oi := ⟨some 49, _, _, _, _, _⟩) (v := ?vtf11) rfl (by kernel_rfl) (by kernel_rfl) (by kernel_rfl) (fun _ _ _ h => h) (Or.inl ⟨by kernel_rfl, ?hyf11⟩) (by assumption) ?_
            case hyf11 => (intro wh hSw; (try dsimp only at hSw); go_simp; try with_reducible rfl)
            simp only [Act.put, List.setIfInBounds_toArray, List.set_cons_zero, List.set_cons_succ]
            refine wpAnyH_take (i := 12) (oi := ⟨some 50, _, _, _, _, _⟩) (v := ?vtf12) rfl (by kernel_rfl) (by kernel_rfl) (by kernel_rfl) (fun _ _ _ h => h) (Or.inl ⟨by kernel_rfl, ?hyf12⟩) (by assumption) ?_
            case hyf12 => (intro wh hSw; (try dsimp only at hSw); go_simp; try with_reducible rfl)
            simp only [Act.put, List.setIfInBounds_toArray, List.set_cons_zero, List.set_cons_succ]
            refine wpAnyH_take (i := 13) (oi := ⟨some 51, _, _, _, _, _⟩) (v := ?vtf13) rfl (by kernel_rfl) (by kernel_rfl) (by kernel_rfl) (fun _ _ _ h => h) (Or.inl ⟨by kernel_rfl, ?hyf13⟩) (by assumption) ?_
            case hyf13 => (intro wh hSw; (try dsimp only at hSw); go_simp; try with_reducible rfl)
            simp only [Act.put, List.setIfInBounds_toArray, List.set_cons_zero, List.set_cons_succ]
            refine wpAnyH_take (i := 14) (oi := ⟨some 52, _, _, _, _, _⟩) (v := ?vtf14) rfl (by kernel_rfl) (by kernel_rfl) (by kernel_rfl) (fun _ _ _ h => h) (Or.inl ⟨by kernel_rfl, ?hyf14⟩) (by assumption) ?_
            case hyf14 => (intro wh hSw; (try dsimp only at hSw); go_simp; try with_reducible rfl)
            simp only [Act.put, List.setIfInBounds_toArray, List.set_cons_zero, List.set_cons_succ]
            refine wpAnyH_take (i := 15) (oi := ⟨some 53, _, _, _, _, _⟩) (v := ?vtf15) rfl (by kernel_rfl) (by kernel_rfl) (by kernel_rfl) (fun _ _ _ h => h) (Or.inl ⟨by kernel_rfl, ?hyf15⟩) (by assumption) ?_
            case hyf15 => (intro wh hSw; (try dsimp only at hSw); go_simp; try with_reducible rfl)
            simp only [Act.put, List.setIfInBounds_toArray, List.set_cons_zero, List.set_cons_succ]
            refine wpAnyH_take (i := 16) (oi := ⟨some 2, _, _, _, _, _⟩) (v := ?vtf16) rfl (by kernel_rfl) (by kernel_rfl) (by kernel_rfl) (fun _ _ _ h => h) (Or.inl ⟨by kernel_rfl, ?hyf16⟩) (by assumption) ?_
            case hyf16 => (intro wh hSw; (try dsimp only at hSw); go_simp; try with_reducible rfl)
            simp only [Act.put, List.setIfInBounds_toArray, List.set_cons_zero, List.set_cons_succ]
            refine wpAnyH_done (by kernel_rfl) ?_ _
            refine NoPanic.normal ?_
            go_wp2
            go_ret
            exact ⟨by rw [HZ.out]; first | rfl | exact ret_bool (by first | rfl | simp), gtr hAW gw6⟩
        · have HZ : Hid (x = false) := Lib.hid (by rw [HY.out, decide_eq_false hk0]; rfl)
          have HKN := Lib.hid hk0
          clear HY
          go_enter Tryd.func18, Tryd.ntmps18
          go_wp2_with fail
          obtain ⟨W, hW⟩ : ∃ W, W = w.alloc (.cells #[.string a, .string t] 34) := ⟨_, rfl⟩
          have i0 : Blk W w.heap.size 34 #[.string a, .string t] := by rw [hW]; exact Blk.new _ _ _
          have hAW : Below w.heap.size w W := by rw [hW]; exact bel1 _ _
          have s00 : W.cell? ⟨w.heap.size, 0, none⟩ = some (.string a) := i0.cell 0
          have s10 : W.cell? ⟨w.heap.size, 1, none⟩ = some (.string t) := i0.cell 1
          rw [← hW]
          clear hW
          refine wp_region_noPanic ?_
          refine wp_region_held_drew (S := fun W' => W'.cell? ⟨w.heap.size, 0, none⟩ = some (.string a) ∧ W'.cell? ⟨w.heap.size, 1, none⟩ = some (.string t)) (by kernel_rfl) ⟨s00, s10⟩ (fun hHeld => ?_)
          refine wpAnyH_take (i := 0) (oi := ⟨some 38, _, _, _, _, _⟩) (v := ?vtg0) rfl (by kernel_rfl) (by kernel_rfl) (by kernel_rfl) (fun _ _ _ h => h) (Or.inl ⟨by kernel_rfl, ?hyg0⟩) (by assumption) ?_
          case hyg0 => (intro wh hSw; (try dsimp only at hSw); go_simp; try with_reducible rfl)
          simp only [Act.put, List.setIfInBounds_toArray, List.set_cons_zero, List.set_cons_succ]
          refine wpAnyH_ready (rs := [1]) (by kernel_rfl) (by simp) ?_
          refine AllReadyH.cons (o := _) rfl (fun K hK => ?_) AllReadyH.nil
          go_simp
          (go_at_call 30; (with_reducible refine (HSK.out _).mono ?_); rintro e w4 ⟨rfl, hbw4⟩; have gw4 := gtr (gdrew (a := W)) hbw4; have iw4 := i0.below gw4 i0.lt; have s0w4 : w4.cell? ⟨w.heap.size, 0, none⟩ = some (.string a) := iw4.cell 0; have s1w4 : w4.cell? ⟨w.heap.size, 1, none⟩ = some (.string t) := iw4.cell 1)
          refine hK.out _ _ ⟨s0w4, s1w4⟩ (fun _ => ?_)
          clear hK K
          try simp only [Act.put]
          refine wpAnyH_take (i := 2) (oi := ⟨some 40, _, _, _, _, _⟩) (v := ?vth2) rfl (by kernel_rfl) (by kernel_rfl) (by kernel_rfl) (fun _ _ _ h => h) (Or.inl ⟨by kernel_rfl, ?hyh2⟩) (by assumption) ?_
          case hyh2 => (intro wh hSw; (try dsimp only at hSw); go_simp; try with_reducible rfl)
          simp only [Act.put, List.setIfInBounds_toArray, List.set_cons_zero, List.set_cons_succ]
          try simp only [decide_eq_false (show ¬ (0 : Int) ≤ k by have := HKN.out; omega)]
          refine wpAnyH_take (i := 3) (oi := ⟨some 41, _, _, _, _, _⟩) (v := ?vth3) rfl (by kernel_rfl) (by kernel_rfl) (by kernel_rfl) (fun _ _ _ h => h) (Or.inl ⟨by kernel_rfl, ?hyh3⟩) (by assumption) ?_
          case hyh3 => (intro wh hSw; (try dsimp only at hSw); go_simp; try with_reducible rfl)
          simp only [Act.put, List.setIfInBounds_toArray, List.set_cons_zero, List.set_cons_succ]
          try simp only [decide_eq_false (show ¬ (0 : Int) ≤ k by have := HKN.out; omega)]
          refine wpAnyH_take (i := 4) (oi := ⟨some 42, _, _, _, _, _⟩) (v := undef) rfl (by kernel_rfl) (by kernel_rfl) (by kernel_rfl) (fun _ _ _ h => h) (Or.inr ⟨by kernel_rfl, rfl⟩) (by assumption) ?_
          simp only [Act.put, List.setIfInBounds_toArray, List.set_cons_zero, List.set_cons_succ]
          refine wpAnyH_take (i := 5) (oi := ⟨some 43, _, _, _, _, _⟩) (v := undef) rfl (by kernel_rfl) (by kernel_rfl) (by kernel_rfl) (fun _ _ _ h => h) (Or.inr ⟨by kernel_rfl, rfl⟩) (by assumption) ?_
          simp only [Act.put, List.setIfInBounds_toArray, List.set_cons_zero, List.set_cons_succ]
          refine wpAnyH_take (i := 6) (oi := ⟨some 44, _, _, _, _, _⟩) (v := undef) rfl (by kernel_rfl) (by kernel_rfl) (by kernel_rfl) (fun _ _ _ h => h) (Or.inr ⟨by kernel_rfl, rfl⟩) (by assumption) ?_
          simp only [Act.put, List.setIfInBounds_toArray, List.set_cons_zero, List.set_cons_succ]
          refine wpAnyH_take (i := 7) (oi := ⟨some 45, _, _, _, _, _⟩) (v := undef) rfl (by kernel_rfl) (by kernel_rfl) (by kernel_rfl) (fun _ _ _ h => h) (Or.inr ⟨by kernel_rfl, rfl⟩) (by assumption) ?_
          simp only [Act.put, List.setIfInBounds_toArray, List.set_cons_zero, List.set_cons_succ]
          refine wpAnyH_take (i := 8) (oi := ⟨some 46, _, _, _, _, _⟩) (v := undef) rfl (by kernel_rfl) (by kernel_rfl) (by kernel_rfl) (fun _ _ _ h => h) (Or.inr ⟨by kernel_rfl, rfl⟩) (by assumption) ?_
          simp only [Act.put, List.setIfInBounds_toArray, List.set_cons_zero, List.set_cons_succ]
          refine wpAnyH_take (i := 9) (oi := ⟨some 47, _, _, _, _, _⟩) (v := ?vth9) rfl (by kernel_rfl) (by kernel_rfl) (by kernel_rfl) (fun _ _ _ h => h) (Or.inl ⟨by kernel_rfl, ?hyh9⟩) (by assumption) ?_
          case hyh9 => (intro wh hSw; (try dsimp only at hSw); go_simp; try with_reducible rfl)
          simp only [Act.put, List.setIfInBounds_toArray, List.set_cons_zero, List.set_cons_succ]
          try simp only [decide_eq_false (show ¬ (0 : Int) ≤ k by have := HKN.out; omega), if_neg (show ¬ (0 : Int) ≤ k by have := HKN.out; omega)]
          refine wpAnyH_take (i := 10) (oi := ⟨some 48, _, _, _, _, _⟩) (v := ?vth10) rfl (by kernel_rfl) (by kernel_rfl) (by kernel_rfl) (fun _ _ _ h => h) (Or.inl ⟨by kernel_rfl, ?hyh10⟩) (by assumption) ?_
          case hyh10 => (intro wh hSw; (try dsimp only at hSw); go_simp; try with_reducible rfl)
          simp only [Act.put, List.setIfInBounds_toArray, List.set_cons_zero, List.set_cons_succ]
          try simp only [decide_eq_false (show ¬ (0 : Int) ≤ k by have := HKN.out; omega), if_neg (show ¬ (0 : Int) ≤ k by have := HKN.out; omega)]
          refine wpAnyH_take (i := 11) (oi := ⟨some 49, _, _, _, _, _⟩) (v := undef) rfl (by kernel_rfl) (by kernel_rfl) (by kernel_rfl) (fun _ _ _ h => h) (Or.inr ⟨by kernel_rfl, rfl⟩) (by assumption) ?_
          simp only [Act.put, List.setIfInBounds_toArray, List.set_cons_zero, List.set_cons_succ]
          refine wpAnyH_take (i := 12) (oi := ⟨some 50, _, _, _, _, _⟩) (v := undef) rfl (by kernel_rfl) (by kernel_rfl) (by kernel_rfl) (fun _ _ _ h => h) (Or.inr ⟨by kernel_rfl, rfl⟩) (by assumption) ?_
          simp only [Act.put, List.setIfInBounds_toArray, List.set_cons_zero, List.set_cons_succ]
          refine wpAnyH_take (i := 13) (oi := ⟨some 51, _, _, _, _, _⟩) (v := undef) rfl (by kernel_rfl) (by kernel_rfl) (by kernel_rfl) (fun _ _ _ h => h) (Or.inr ⟨by kernel_rfl, rfl⟩) (by assumption) ?_
          simp only [Act.put, List.setIfInBounds_toArray, List.set_cons_zero, List.set_cons_succ]
          refine wpAnyH_take (i := 14) (oi := ⟨some 52, _, _, _, _, _⟩) (v := undef) rfl (by kernel_rfl) (by kernel_rfl) (by kernel_rfl) (fun _ _ _ h => h) (Or.inr ⟨by kernel_rfl, rfl⟩) (by assumption) ?_
          simp only [Act.put, List.setIfInBounds_toArray, List.set_cons_zero, List.set_cons_succ]
          refine wpAnyH_take (i := 15) (oi := ⟨some 53, _, _, _, _, _⟩) (v := ?vth15) rfl (by kernel_rfl) (by kernel_rfl) (by kernel_rfl) (fun _ _ _ h => h) (Or.inl ⟨by kernel_rfl, ?hyh15⟩) (by assumption) ?_
          case hyh15 => (intro wh hSw; (try dsimp only at hSw); go_simp; try with_reducible rfl)
          simp only [Act.put, List.setIfInBounds_toArray, List.set_cons_zero, List.set_cons_succ]
          refine wpAnyH_take (i := 16) (oi := ⟨some 2, _, _, _, _, _⟩) (v := ?vth16) rfl (by kernel_rfl) (by kernel_rfl) (by kernel_rfl) (fun _ _ _ h => h) (Or.inl ⟨by kernel_rfl, ?hyh16⟩) (by assumption) ?_
          case hyh16 => (intro wh hSw; (try dsimp only at hSw); go_simp; try with_reducible rfl)
          simp only [Act.put, List.setIfInBounds_toArray, List.set_cons_zero, List.set_cons_succ]
          refine wpAnyH_done (by kernel_rfl) ?_ _
          refine NoPanic.normal ?_
          go_wp2
          go_ret
          exact ⟨by rw [HZ.out]; first | rfl | exact ret_bool (by first | rfl | simp), gtr hAW gw4⟩
      · have HY : Hid (x = decide (0 ≤ hpOf t)) := Lib.hid (by rw [HX.out]; unfold gdB; rw [h0, h1, h2]; rfl)
        have HH := Lib.hid fun W => heap_any a t W hmax
        obtain ⟨k, hk⟩ : ∃ k, k = hpOf t := ⟨_, rfl⟩
        rw [← hk] at HY HH
        clear hk HX htM
        go_enter Tryd.func18, Tryd.ntmps18
        go_wp2_with (go_at_call 43; (with_reducible refine (HH.out _).mono ?_); rintro e w1 ⟨rfl, hb1⟩)
        go_ret
        exact ⟨by rw [HY.out]; rfl, by first | exact hb1 | exact (gtr (bel1 _ _) hb1)⟩
    · have HM := Lib.hid fun W => areMarks_any t W htM
      have HY : Hid (x = (decide (t.size ≤ 8) && allIn [76, 82] t)) := Lib.hid (by rw [HX.out]; unfold gdB; rw [h0, h1]; rfl)
      obtain ⟨k, hk⟩ : ∃ k, k = allIn [76, 82] t := ⟨_, rfl⟩
      rw [← hk] at HY HM
      clear hk HX htM
      by_cases h8 : (t.size : Int) ≤ 8
      · have HZ : Hid (x = k) := Lib.hid (by rw [HY.out, decide_eq_true (show t.size ≤ 8 by omega)]; rfl)
        clear HY
        go_enter Tryd.func18, Tryd.ntmps18
        go_wp2_with (go_at_call 42; (with_reducible refine (HM.out _).mono ?_); rintro e w1 ⟨rfl, hb1⟩)
        go_ret
        exact ⟨by rw [HZ.out]; rfl, by first | exact hb1 | exact (gtr (bel1 _ _) hb1)⟩
      · have HZ : Hid (x = false) := Lib.hid (by rw [HY.out, decide_eq_false (show ¬ t.size ≤ 8 by omega)]; rfl)
        clear HY
        go_enter Tryd.func18, Tryd.ntmps18
        go_wp2_with (go_at_call 42; (with_reducible refine (HM.out _).mono ?_); rintro e w1 ⟨rfl, hb1⟩)
        go_ret
        exact ⟨by rw [HZ.out]; rfl, by first | exact Below.refl _ _ | exact bel1 _ _⟩
  · have HY : Hid (x = (boardB (pieces 47 t) && decide (t.data.toList.count 46 ≤ 9))) := Lib.hid (by rw [HX.out]; unfold gdB; rw [h0]; rfl)
    have HRD := Lib.hid fun W => readI_any t W hmax
    have HCT : Hid (∀ W, Calls Tryd.prog 41 #[.string t, .string ⟨#[46]⟩] W fun e w' => e = .returned (.int .i64 ((t.data.toList.count 46 : Nat) : Int)) ∧ w' = W) := Lib.hid fun W => Any.strings_Count_one { Tryd.lays146 with } t 46 W
    obtain ⟨n, hn⟩ : ∃ n, n = t.data.toList.count 46 := ⟨_, rfl⟩
    rw [← hn] at HY HCT
    obtain ⟨b, hbd⟩ : ∃ b, b = boardB (pieces 47 t) := ⟨_, rfl⟩
    rw [← hbd] at HY HRD
    obtain ⟨rs, hrs⟩ : ∃ rs, rs = resRead t := ⟨_, rfl⟩
    rw [← hrs] at HRD
    clear hn hbd hrs HX htM
    cases b
    · have HZ : Hid (x = false) := Lib.hid (by rw [HY.out]; rfl)
      clear HY
      go_enter Tryd.func18, Tryd.ntmps18
      go_wp2_with (go_at_call 40; (with_reducible refine (HRD.out _).mono ?_); rintro e w1 ⟨A, c, rfl, ho1, hb1⟩)
      go_ret
      exact ⟨by rw [HZ.out]; rfl, gtr (gtr (bel1 _ _) hb1) (bel1 _ _)⟩
    · have HZ : Hid (x = decide ((n : Int) ≤ 9)) := Lib.hid (by rw [HY.out, Bool.true_and]; exact decide_eq_decide.2 (by omega))
      clear HY
      go_enter Tryd.func18, Tryd.ntmps18
      go_wp2_with fail
      obtain ⟨W, hW⟩ : ∃ W, W = (w.alloc (.cells #[.string a, .string t] 34)).alloc (.cells #[.slice none 0 0] 45) := ⟨_, rfl⟩
      try rw [← hW]
      first
        | ((with_reducible refine (HRD.out _).mono ?_); rintro e w1 ⟨A, c, rfl, ho1, hb1⟩)
        | fail "here"
      clear ho1
      have i0 : Blk w1 w.heap.size 34 #[.string a, .string t] := (Blk.new w _ _).below hb1 (by simp)
      have s1 : (w1.alloc (.cells #[.slice A rs.length c] 45)).cell? ⟨w.heap.size, 1, none⟩ = some (.string t) := Blk.cell (i0.alloc _) 1
      have hV1 : Below w.heap.size w (w1.alloc (.cells #[.slice A rs.length c] 45)) := gtr (gtr (bel1 _ _) hb1) (bel1 _ _)
      clear i0 hb1 hW W
      go_wp2_with (go_at_call 41; (with_reducible refine (HCT.out _).mono ?_); rintro e w2 ⟨rfl, rfl⟩)
      go_ret
      exact ⟨by rw [HZ.out]; first | rfl | exact ret_bool (by first | rfl | simp), hV1⟩
end Go.Proofs.YtpepkpikeggceaaDoor
