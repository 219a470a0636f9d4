/- The zero value of the row of 512 signs. Conditions: none. -/
import Derived.Test.YtidfbbegjpfjpaaMem
import Derived.Deep.WholeRow
namespace Go.Proofs.Ytidfbbegjpfjpaa
theorem zc_eq : Try.zeroCells91 = Array.replicate 512 (.bool false) := by kernel_rfl
theorem zc_store (w : World) : Sem.run Try.prog (storeCells ⟨w.heap.size, 0, none⟩ Try.zeroCells91.toList) (w.alloc (.cells Try.zeroCells91 91)) = .ok () (w.alloc (.cells Try.zeroCells91 91)) :=
  run_storeCells_new w 91 _ _ (by kernel_rfl) rfl (by kernel_rfl)

end Go.Proofs.Ytidfbbegjpfjpaa
