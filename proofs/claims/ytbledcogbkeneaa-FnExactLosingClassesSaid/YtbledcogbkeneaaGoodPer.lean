/- GoodPeriod, by contracts. Conditions: none. -/
import Derived.Test.YtbledcogbkeneaaIn
namespace Go.Proofs.Ytbledcogbkeneaa
open Go.RowKit
set_option linter.unusedVariables false

def goodPerB (p l : Int) : Bool := decide (0 ≤ p ∧ p ≤ 300 ∧ 1 ≤ l ∧ l ≤ 300)

end Go.Proofs.Ytbledcogbkeneaa
