/- FnExactGoodBox returns true for every box. Conditions: none. -/
import Derived.Test.YtflbedfgeiljmaaRows
import Derived.WalkKit
import Derived.ProofKit
import Derived.BigQuiet
import Derived.Deep.QuietTactic
import Derived.Below
import Derived.Lib.Hide
import Derived.Test.YtflbedfgeiljmaaMem
namespace Go.Proofs.Ytflbedfgeiljmaa
open Go.RowKit
set_option linter.unusedVariables false

def inB (n a b : Int) : Bool := decide (a ≤ n) && decide (n ≤ b)
theorem l1In_any (n a b : Int) (w : World) :
    Calls Try.prog 45 #[.int .i64 n, .int .i64 a, .int .i64 b] w fun e w' => e = .returned (.bool (inB n a b)) ∧ w = w' := by
  by_cases h1 : a ≤ n <;> by_cases h2 : n ≤ b <;>
  · go_enter Try.func45, Try.ntmps45
    go_wp2
    go_ret
    exact ⟨by simp [inB, h1, h2]; try omega, rfl⟩

def goodBoxB (s m : Int) : Bool := decide (1 ≤ s) && decide (s ≤ 6) && decide (1 ≤ m) && decide (m ≤ 6) && decide (s * m ≤ 6)

theorem wrap_mul (s m : Int) (h1 : 1 ≤ s) (h2 : s ≤ 6) (h3 : 1 ≤ m) (h4 : m ≤ 6) : IntKind.i64.wrap (s * m) = s * m := by
  have a : 0 ≤ s * m := Int.mul_nonneg (by omega) (by omega)
  have b : s * m ≤ 6 * 6 := Int.mul_le_mul h2 h4 (by omega) (by omega)
  exact IntWalk.i64_in _ (by omega)

set_option maxHeartbeats 400000 in
theorem goodBoxS_any (s m : Int) (w : World) :
    Calls Try.prog 13 #[.agg #[.int .i64 s, .int .i64 m]] w fun e w' => e = .returned (.bool (goodBoxB s m)) ∧ Below w.heap.size w w' := by
  by_cases h : 1 ≤ s ∧ s ≤ 6 ∧ 1 ≤ m ∧ m ≤ 6
  · obtain ⟨h1, h2, h3, h4⟩ := h
    have hw := wrap_mul s m h1 h2 h3 h4
    have e1 : inB s 1 6 = true := by simp [inB]; omega
    have e2 : inB m 1 6 = true := by simp [inB]; omega
    go_enter Try.func13, Try.ntmps13
    go_wp2_with (go_at_call 45; refine (l1In_any _ _ _ _).mono ?_; rintro e w' ⟨rfl, rfl⟩)
    go_ret
    exact ⟨by simp [goodBoxB, h1, h2, h3, h4], (Below.refl _ _).alloc (Nat.le_refl _) _⟩
  · by_cases hs : 1 ≤ s ∧ s ≤ 6
    · have e1 : inB s 1 6 = true := by simp [inB]; omega
      have e2 : inB m 1 6 = false := by simp [inB]; omega
      go_enter Try.func13, Try.ntmps13
      go_wp2_with (go_at_call 45; refine (l1In_any _ _ _ _).mono ?_; rintro e w' ⟨rfl, rfl⟩)
      go_ret
      exact ⟨by simp [goodBoxB]; omega, (Below.refl _ _).alloc (Nat.le_refl _) _⟩
    · have e1 : inB s 1 6 = false := by simp [inB]; omega
      go_enter Try.func13, Try.ntmps13
      go_wp2_with (go_at_call 45; refine (l1In_any _ _ _ _).mono ?_; rintro e w' ⟨rfl, rfl⟩)
      go_ret
      exact ⟨by simp [goodBoxB]; omega, (Below.refl _ _).alloc (Nat.le_refl _) _⟩

set_option maxHeartbeats 400000 in
theorem goodBoxI_any (s m : Int) (w : World) :
    Calls Try.prog 15 #[.agg #[.int .i64 s, .int .i64 m]] w fun e w' => e = .returned (.bool (goodBoxB s m)) ∧ Below w.heap.size w w' := by
  by_cases h : 1 ≤ s ∧ s ≤ 6 ∧ 1 ≤ m ∧ m ≤ 6
  · obtain ⟨h1, h2, h3, h4⟩ := h
    have hw := wrap_mul s m h1 h2 h3 h4
    go_enter Try.func15, Try.ntmps15
    go_wp2
    go_ret
    exact ⟨by simp [goodBoxB, h1, h2, h3, h4], (Below.refl _ _).alloc (Nat.le_refl _) _⟩
  · go_enter Try.func15, Try.ntmps15
    go_wp2
    all_goals
      go_ret
      exact ⟨by simp [goodBoxB]; omega, (Below.refl _ _).alloc (Nat.le_refl _) _⟩

set_option maxHeartbeats 400000 in
theorem toBox_any (s m : Int) (w : World) :
    Calls Try.prog 14 #[.agg #[.int .i64 s, .int .i64 m]] w fun e w' => e = .returned (.agg #[.int .i64 s, .int .i64 m]) ∧ Below w.heap.size w w' := by
  go_enter Try.func14, Try.ntmps14
  go_wp2
  refine bodyPost_ret (v := .agg #[.int .i64 s, .int .i64 m]) (by simp [results, Try.results14, go_sem]) rfl ⟨rfl, ?_⟩
  exact (((Below.refl _ _).alloc (Nat.le_refl _) _).alloc (by simp) _).alloc (by simp; omega) _

set_option maxHeartbeats 400000 in
theorem lawGoodBox (s m : Int) (w : World) (hs : (Lit.int .i64 s).wf = true) (hm : (Lit.int .i64 m).wf = true) :
    Calls Try.prog 3 #[.agg #[.int .i64 s, .int .i64 m]] w fun e w' => e = .returned (.bool true) ∧ Below w.heap.size w w' := by
  go_enter Try.func3, Try.ntmps3
  go_wp2_with fail
  refine (toBox_any _ _ _).mono ?_; rintro e w1 ⟨rfl, hb1⟩
  have hz1 : w.heap.size < w1.heap.size := by have := hb1.size; simp at this; omega
  have k1 : ∀ o, w1.cell? ⟨w.heap.size, o, none⟩ = _ := fun o => hb1.cell (p := ⟨w.heap.size, o, none⟩) (by simp)
  go_wp2_with fail
  refine (goodBoxS_any _ _ _).mono ?_; rintro e w2 ⟨rfl, hb2⟩
  have hz2 : w.heap.size < w2.heap.size := by have := hb2.size; omega
  have k2 : ∀ o, w2.cell? ⟨w.heap.size, o, none⟩ = _ := fun o => hb2.cell (p := ⟨w.heap.size, o, none⟩) hz1
  go_wp2_with fail
  refine (toBox_any _ _ _).mono ?_; rintro e w3 ⟨rfl, hb3⟩
  have hz3 : w.heap.size < w3.heap.size := by have := hb3.size; omega
  go_wp2_with fail
  refine (goodBoxI_any _ _ _).mono ?_; rintro e w4 ⟨rfl, hb4⟩
  go_wp2
  all_goals go_ret
  have hb0 : Below w.heap.size w (w.alloc (.cells #[.int .i64 s, .int .i64 m] 23)) := (Below.refl _ _).alloc (Nat.le_refl _) _
  exact ⟨rfl, (((hb0.trans (hb1.mono (by simp))).trans (hb2.mono (by omega))).trans (hb3.mono (by omega))).trans (hb4.mono (by omega))⟩
end Go.Proofs.Ytflbedfgeiljmaa
