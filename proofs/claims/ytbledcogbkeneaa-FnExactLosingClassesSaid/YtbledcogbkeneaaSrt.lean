/- slices.Clone, slices.Compact at rows of integers: contracts. Conditions: none. -/
import Derived.Test.YtbledcogbkeneaaSort
import Derived.Lib.OwnBridge
import Derived.Sort.OwnSortedInts
namespace Go.Proofs.Ytbledcogbkeneaa
open Go.RowKit
set_option linter.unusedVariables false

end Go.Proofs.Ytbledcogbkeneaa
