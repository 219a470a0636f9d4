/- The zero value of the row of 512 signs. Conditions: none. -/
import Derived.Test.YtbledcogbkeneaaMem
import Derived.Deep.WholeRow
namespace Go.Proofs.Ytbledcogbkeneaa
end Go.Proofs.Ytbledcogbkeneaa
