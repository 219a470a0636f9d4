/- l1In, by contract. Conditions: none. -/
import Derived.Test.YtpepkpikeggceaaDoorLib
import Derived.Test.YtpepkpikeggceaaDoorProg
import Derived.ProofKit
import Derived.WalkLawsBesides
import Derived.WalkSpells
import Derived.Outline
namespace Go.Proofs.YtpepkpikeggceaaDoor
open Go.RowKit
set_option linter.unusedVariables false

def inB (n a b : Int) : Bool := decide (a ≤ n) && decide (n ≤ b)
theorem l1In_any (n a b : Int) (w : World) :
    Calls Tryd.prog 37 #[.int .i64 n, .int .i64 a, .int .i64 b] w fun e w' => e = .returned (.bool (inB n a b)) ∧ w = w' := by
  by_cases h1 : a ≤ n <;> by_cases h2 : n ≤ b <;>
  · go_enter Tryd.func37, Tryd.ntmps37
    go_wp2
    go_ret
    exact ⟨by simp [inB, h1, h2]; try omega, rfl⟩
end Go.Proofs.YtpepkpikeggceaaDoor
