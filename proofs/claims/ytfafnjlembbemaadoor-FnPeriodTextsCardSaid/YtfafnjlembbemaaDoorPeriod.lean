/- The functions of the chapter on periods, by contracts. Conditions: none. -/
import Derived.Test.YtfafnjlembbemaaDoorLib
import Derived.Test.YtfafnjlembbemaaDoorIn
import Derived.Test.YtfafnjlembbemaaDoorMem
import Derived.WalkKit
import Derived.Below
import Derived.Lib.Hide
import Derived.ProofKit
import Derived.BigQuiet
import Derived.Deep.QuietTactic
import Derived.Deep.LoopGhost
import Derived.Outline
import Derived.Test.YtfafnjlembbemaaDoorGoodPer
namespace Go.Proofs.YtfafnjlembbemaaDoor
open Go.RowKit
set_option linter.unusedVariables false

/-- The least index from which on vs repeats with len, looked for from k down. -/
def setl (vs : List Int) (len : Nat) : Nat → Nat
  | 0 => 0
  | i + 1 => if gi vs i = gi vs (i + len) then setl vs len i else i + 1

theorem setl_le (vs : List Int) (len p : Nat) : ∀ m, setl vs len m ≤ p ↔ ∀ j, p ≤ j → j < m → gi vs j = gi vs (j + len) := by
  intro m
  induction m with
  | zero => simp [setl]
  | succ m ih =>
    unfold setl
    by_cases he : gi vs m = gi vs (m + len)
    · rw [if_pos he, ih]
      constructor
      · intro h j hj hm
        by_cases hjm : j = m
        · subst hjm; exact he
        · exact h j hj (by omega)
      · intro h j hj hm
        exact h j hj (by omega)
    · rw [if_neg he]
      constructor
      · intro h j hj hm
        omega
      · intro h
        apply Classical.byContradiction
        intro hn
        exact he (h m (by omega) (by omega))

/-- vs repeats with len from p on. -/
def repB (vs : List Int) (p len : Nat) : Bool := decide (setl vs len (vs.length - len) ≤ p)

/-- The first length from len on, fuel of them tried, at which vs has a period with room for two. -/
def lp (vs : List Int) (len : Nat) : Nat → Option (Nat × Nat)
  | 0 => none
  | f + 1 => if setl vs len (vs.length - len) + 2 * len ≤ vs.length then some (setl vs len (vs.length - len), len) else lp vs (len + 1) f
def perV : Option (Nat × Nat) → Value
  | some (p, l) => .tuple #[.agg #[.int .i64 p, .int .i64 l], .bool true]
  | none => .tuple #[.agg #[.int .i64 0, .int .i64 0], .bool false]
def leastPer (vs : List Int) : Option (Nat × Nat) := if 2 ≤ vs.length ∧ vs.length ≤ 301 then lp vs 1 300 else none
theorem setl_bound (vs : List Int) (len : Nat) : ∀ m, setl vs len m ≤ m := by
  intro m
  induction m with
  | zero => simp [setl]
  | succ m ih => unfold setl; split <;> omega

end Go.Proofs.YtfafnjlembbemaaDoor
