/- StarForm of the reference, whole, by contract. Conditions: none. -/
import Derived.Test.YtdjchjmmpjofcaaDoorSfS
namespace Go.Proofs.YtdjchjmmpjofcaaDoor
open Go.RowKit Go.Maps
set_option linter.unusedVariables false

set_option maxHeartbeats 1600000 in
theorem starFormS_any (n : Nat) (w : World) (hn : n ≤ 15) :
    Calls Tryd.prog 4 #[.int .i64 (n : Int)] w fun e w' => ∃ A c, e = .returned (.tuple #[.agg #[.slice A (n + 1) c], .bool true]) ∧ (∃ cs, FrN w' w.heap.size (.slice A (n + 1) c) (n + 1) cs cs ((nodesC (n + 1)).map ints)) ∧ Below w.heap.size w w' := by
  have HI : Hid (∀ W, Calls Tryd.prog 9 #[.int .i64 (n : Int), .int .i64 0, .int .i64 15] W fun e w' => e = .returned (.bool true) ∧ w' = W) := Lib.hid fun W => by
    have h := l1In_any (n : Int) W
    rw [show (decide (0 ≤ (n : Int)) && decide ((n : Int) ≤ 15)) = true by simp; omega] at h
    exact h
  have HS := Lib.hid fun W => l8Star_any n W hn
  go_enter Tryd.func4, Tryd.ntmps4
  go_wp2_with fail
  have i0 := Blk.new w 24 #[.slice none 0 0]
  have hA0 := bel1 w (.cells #[.slice none 0 0] 24)
  ((with_reducible refine (HI.out _).mono ?_); rintro e w1 ⟨rfl, rfl⟩)
  go_wp2_with fail
  ((with_reducible refine (HS.out _).mono ?_); rintro e w2 ⟨A, c, rfl, ⟨cs, hN⟩, hb2⟩)
  have i2 := i0.below hb2 i0.lt
  have hA2 := gtr hA0 hb2
  have r0 : w2.cell? ⟨w.heap.size, 0, none⟩ = some (.slice none 0 0) := by have := i2.cell 0; simpa using this
  have rf0 : w2.frozen? ⟨w.heap.size, 0, none⟩ = false := i2.frozen 0
  have hN' := hN.le (show w.heap.size + 1 ≤ _ by simp)
  have HNF := Lib.hid ((hN'.kept (grown_set w2 w.heap.size 0 (.slice A (n + 1) c)) (fun g hg => by injection hg with hg; omega)).le (show w.heap.size ≤ w.heap.size + 1 by omega))
  have HBF := Lib.hid (hA2.setCell (p := ⟨w.heap.size, 0, none⟩) (Nat.le_refl _) (.slice A (n + 1) c))
  clear i0 i2 hA0 hA2 hN hN' hb2 HI HS
  go_wp2_with fail
  refine bodyPost_ret (v := .tuple #[.agg #[.slice A (n + 1) c], .bool true]) (by simp [results, Tryd.results4, go_sem, r0]) rfl ⟨A, c, rfl, ⟨cs, HNF.out⟩, HBF.out⟩
set_option maxHeartbeats 800000 in
theorem starFormS_out (a : Int) (w : World) (ha : a < 0 ∨ 15 < a) :
    Calls Tryd.prog 4 #[.int .i64 a] w fun e w' => e = .returned (.tuple #[.agg #[.slice none 0 0], .bool false]) ∧ Below w.heap.size w w' := by
  have HI : Hid (∀ W, Calls Tryd.prog 9 #[.int .i64 a, .int .i64 0, .int .i64 15] W fun e w' => e = .returned (.bool false) ∧ w' = W) := Lib.hid fun W => by
    have h := l1In_any a W
    rw [show (decide (0 ≤ a) && decide (a ≤ 15)) = false by simp; omega] at h
    exact h
  have HB := Lib.hid (bel1 w (.cells #[.slice none 0 0] 24))
  go_enter Tryd.func4, Tryd.ntmps4
  go_wp2_with fail
  ((with_reducible refine (HI.out _).mono ?_); rintro e w1 ⟨rfl, rfl⟩)
  go_wp2
  refine bodyPost_ret (v := .tuple #[.agg #[.slice none 0 0], .bool false]) (by simp [results, Tryd.results4, go_sem]) rfl ⟨rfl, ?_⟩
  first | exact HB.out | exact HB.out.setCell (Nat.le_refl _) _
end Go.Proofs.YtdjchjmmpjofcaaDoor
