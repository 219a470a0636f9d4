/- The zero value of the row of 512 signs. Conditions: none. -/
import Derived.Test.YtdckgplmkigjcaaMem
import Derived.Deep.WholeRow
namespace Go.Proofs.Ytdckgplmkigjcaa
theorem zc_eq : Try.zeroCells89 = Array.replicate 512 (.bool false) := by kernel_rfl
theorem zc_store (w : World) : Sem.run Try.prog (storeCells ⟨w.heap.size, 0, none⟩ Try.zeroCells89.toList) (w.alloc (.cells Try.zeroCells89 89)) = .ok () (w.alloc (.cells Try.zeroCells89 89)) :=
  run_storeCells_new w 89 _ _ (by kernel_rfl) rfl (by kernel_rfl)

end Go.Proofs.Ytdckgplmkigjcaa
