/- The zero value of the row of 512 signs. Conditions: none. -/
import Derived.Test.YtmdnbmdkommmkaaMem
import Derived.Deep.WholeRow
namespace Go.Proofs.Ytmdnbmdkommmkaa
theorem zc_eq : Try.zeroCells98 = Array.replicate 512 (.bool false) := by kernel_rfl
theorem zc_store (w : World) : Sem.run Try.prog (storeCells ⟨w.heap.size, 0, none⟩ Try.zeroCells98.toList) (w.alloc (.cells Try.zeroCells98 98)) = .ok () (w.alloc (.cells Try.zeroCells98 98)) :=
  run_storeCells_new w 98 _ _ (by kernel_rfl) rfl (by kernel_rfl)

end Go.Proofs.Ytmdnbmdkommmkaa
