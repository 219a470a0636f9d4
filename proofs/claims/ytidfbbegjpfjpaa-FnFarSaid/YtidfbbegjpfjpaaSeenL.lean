/- FnExactSeenIn returns true: the walk. Conditions: none. -/
import Derived.Test.YtidfbbegjpfjpaaSeen2
import Derived.Test.YtidfbbegjpfjpaaRow1
import Derived.Test.YtidfbbegjpfjpaaSl
import Derived.Deep.RegionHeld3
namespace Go.Proofs.Ytidfbbegjpfjpaa
open Go.RowKit
set_option linter.unusedVariables false

theorem RdI.of_own {w : World} {base : Nat} {A : Option Addr} {n c : Nat} {xs : List Int} (h : Own w base 3 (.slice A n c) (ints xs)) : RdI w w.heap.size A c xs := h.rd
end Go.Proofs.Ytidfbbegjpfjpaa
