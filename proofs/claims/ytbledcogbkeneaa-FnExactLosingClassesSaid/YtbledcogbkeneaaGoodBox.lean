/- FnExactGoodBox returns true for every box. Conditions: none. -/
import Derived.Test.YtbledcogbkeneaaRows
import Derived.WalkKit
import Derived.ProofKit
import Derived.BigQuiet
import Derived.Deep.QuietTactic
import Derived.Below
import Derived.Lib.Hide
import Derived.Test.YtbledcogbkeneaaMem
import Derived.Test.YtbledcogbkeneaaIn
namespace Go.Proofs.Ytbledcogbkeneaa
open Go.RowKit
set_option linter.unusedVariables false

def goodBoxB (s m : Int) : Bool := decide (1 ≤ s) && decide (s ≤ 6) && decide (1 ≤ m) && decide (m ≤ 6) && decide (s * m ≤ 6)

theorem wrap_mul (s m : Int) (h1 : 1 ≤ s) (h2 : s ≤ 6) (h3 : 1 ≤ m) (h4 : m ≤ 6) : IntKind.i64.wrap (s * m) = s * m := by
  have a : 0 ≤ s * m := Int.mul_nonneg (by omega) (by omega)
  have b : s * m ≤ 6 * 6 := Int.mul_le_mul h2 h4 (by omega) (by omega)
  exact IntWalk.i64_in _ (by omega)

set_option maxHeartbeats 400000 in
theorem goodBoxS_any (s m : Int) (w : World) :
    Calls Try.prog 35 #[.agg #[.int .i64 s, .int .i64 m]] w fun e w' => e = .returned (.bool (goodBoxB s m)) ∧ Below w.heap.size w w' := by
  by_cases h : 1 ≤ s ∧ s ≤ 6 ∧ 1 ≤ m ∧ m ≤ 6
  · obtain ⟨h1, h2, h3, h4⟩ := h
    have hw := wrap_mul s m h1 h2 h3 h4
    have e1 : inB s 1 6 = true := by simp [inB]; omega
    have e2 : inB m 1 6 = true := by simp [inB]; omega
    go_enter Try.func35, Try.ntmps35
    go_wp2_with (go_at_call 52; refine (l1In_any _ _ _ _).mono ?_; rintro e w' ⟨rfl, rfl⟩)
    go_ret
    exact ⟨by simp [goodBoxB, h1, h2, h3, h4], (Below.refl _ _).alloc (Nat.le_refl _) _⟩
  · by_cases hs : 1 ≤ s ∧ s ≤ 6
    · have e1 : inB s 1 6 = true := by simp [inB]; omega
      have e2 : inB m 1 6 = false := by simp [inB]; omega
      go_enter Try.func35, Try.ntmps35
      go_wp2_with (go_at_call 52; refine (l1In_any _ _ _ _).mono ?_; rintro e w' ⟨rfl, rfl⟩)
      go_ret
      exact ⟨by simp [goodBoxB]; omega, (Below.refl _ _).alloc (Nat.le_refl _) _⟩
    · have e1 : inB s 1 6 = false := by simp [inB]; omega
      go_enter Try.func35, Try.ntmps35
      go_wp2_with (go_at_call 52; refine (l1In_any _ _ _ _).mono ?_; rintro e w' ⟨rfl, rfl⟩)
      go_ret
      exact ⟨by simp [goodBoxB]; omega, (Below.refl _ _).alloc (Nat.le_refl _) _⟩

set_option maxHeartbeats 400000 in
theorem goodBoxI_any (s m : Int) (w : World) :
    Calls Try.prog 38 #[.agg #[.int .i64 s, .int .i64 m]] w fun e w' => e = .returned (.bool (goodBoxB s m)) ∧ Below w.heap.size w w' := by
  by_cases h : 1 ≤ s ∧ s ≤ 6 ∧ 1 ≤ m ∧ m ≤ 6
  · obtain ⟨h1, h2, h3, h4⟩ := h
    have hw := wrap_mul s m h1 h2 h3 h4
    go_enter Try.func38, Try.ntmps38
    go_wp2
    go_ret
    exact ⟨by simp [goodBoxB, h1, h2, h3, h4], (Below.refl _ _).alloc (Nat.le_refl _) _⟩
  · go_enter Try.func38, Try.ntmps38
    go_wp2
    all_goals
      go_ret
      exact ⟨by simp [goodBoxB]; omega, (Below.refl _ _).alloc (Nat.le_refl _) _⟩

set_option maxHeartbeats 400000 in
theorem toBox_any (s m : Int) (w : World) :
    Calls Try.prog 10 #[.agg #[.int .i64 s, .int .i64 m]] w fun e w' => e = .returned (.agg #[.int .i64 s, .int .i64 m]) ∧ Below w.heap.size w w' := by
  go_enter Try.func10, Try.ntmps10
  go_wp2
  refine bodyPost_ret (v := .agg #[.int .i64 s, .int .i64 m]) (by simp [results, Try.results10, go_sem]) rfl ⟨rfl, ?_⟩
  exact (((Below.refl _ _).alloc (Nat.le_refl _) _).alloc (by simp) _).alloc (by simp; omega) _

end Go.Proofs.Ytbledcogbkeneaa
