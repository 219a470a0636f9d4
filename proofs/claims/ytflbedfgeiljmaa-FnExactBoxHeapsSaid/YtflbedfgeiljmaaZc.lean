/- The zero value of the row of 512 signs. Conditions: none. -/
import Derived.Test.YtflbedfgeiljmaaMem
import Derived.Deep.WholeRow
namespace Go.Proofs.Ytflbedfgeiljmaa
theorem zc_eq : Try.zeroCells82 = Array.replicate 512 (.bool false) := by kernel_rfl
theorem zc_store (w : World) : Sem.run Try.prog (storeCells ⟨w.heap.size, 0, none⟩ Try.zeroCells82.toList) (w.alloc (.cells Try.zeroCells82 82)) = .ok () (w.alloc (.cells Try.zeroCells82 82)) :=
  run_storeCells_new w 82 _ _ (by kernel_rfl) rfl (by kernel_rfl)

end Go.Proofs.Ytflbedfgeiljmaa
