/- The reference's LeastPeriod, GoodCode and ProofNeeds, by contracts. Conditions: none. -/
import Derived.Test.YtfafnjlembbemaaDoorPeriod
import Derived.Test.YtfafnjlembbemaaDoorSl
namespace Go.Proofs.YtfafnjlembbemaaDoor
open Go.RowKit
set_option linter.unusedVariables false

theorem lp_none (vs : List Int) : ∀ f k, vs.length < 2 * k → lp vs k f = none := by
  intro f
  induction f with
  | zero => intro k _; rfl
  | succ f ih =>
    intro k hk
    rw [lp, if_neg (by omega)]
    exact ih (k + 1) (by omega)

end Go.Proofs.YtfafnjlembbemaaDoor
