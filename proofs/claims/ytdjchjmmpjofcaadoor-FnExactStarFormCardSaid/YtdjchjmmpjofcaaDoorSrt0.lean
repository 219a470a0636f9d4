/- Numbers in order. Conditions: none. -/
import Derived.Test.YtdjchjmmpjofcaaDoorMem
namespace Go.Proofs.YtdjchjmmpjofcaaDoor
open Go.RowKit
set_option linter.unusedVariables false

/-- The numbers in order. -/
def srt (xs : List Int) : List Int := xs.mergeSort fun x y => decide (x ≤ y)
theorem srt_len (xs : List Int) : (srt xs).length = xs.length := List.length_mergeSort _
end Go.Proofs.YtdjchjmmpjofcaaDoor
