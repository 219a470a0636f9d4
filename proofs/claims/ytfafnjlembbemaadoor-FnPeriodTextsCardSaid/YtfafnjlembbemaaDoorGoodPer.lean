/- GoodPeriod, by contracts. Conditions: none. -/
import Derived.Test.YtfafnjlembbemaaDoorIn
namespace Go.Proofs.YtfafnjlembbemaaDoor
open Go.RowKit
set_option linter.unusedVariables false

def goodPerB (p l : Int) : Bool := decide (0 ≤ p ∧ p ≤ 300 ∧ 1 ≤ l ∧ l ≤ 300)

set_option maxHeartbeats 400000 in
theorem goodPerI_any (p l : Int) (w : World) :
    Calls Tryd.prog 31 #[.agg #[.int .i64 p, .int .i64 l]] w fun e w' => e = .returned (.bool (goodPerB p l)) ∧ Below w.heap.size w w' := by
  go_enter Tryd.func31, Tryd.ntmps31
  go_wp2
  all_goals
    go_ret
    exact ⟨ret_bool (by simp only [goodPerB]; rw [Bool.eq_iff_iff]; simp; try omega), (Below.refl _ _).alloc (Nat.le_refl _) _⟩

set_option maxHeartbeats 400000 in
theorem goodPerS_any (p l : Int) (w : World) :
    Calls Tryd.prog 28 #[.agg #[.int .i64 p, .int .i64 l]] w fun e w' => e = .returned (.bool (goodPerB p l)) ∧ Below w.heap.size w w' := by
  have H : goodPerB p l = (inB p 0 300 && inB l 1 300) := by
    simp only [goodPerB, inB]; rw [Bool.eq_iff_iff]; simp; omega
  rw [H]
  cases h1 : inB p 0 300
  all_goals
    cases h2 : inB l 1 300
    all_goals
      go_enter Tryd.func28, Tryd.ntmps28
      go_wp2_with (go_at_call 44; refine (l1In_any _ _ _ _).mono ?_; rintro e w' ⟨rfl, rfl⟩)
      go_ret
      exact ⟨rfl, (Below.refl _ _).alloc (Nat.le_refl _) _⟩

end Go.Proofs.YtfafnjlembbemaaDoor
