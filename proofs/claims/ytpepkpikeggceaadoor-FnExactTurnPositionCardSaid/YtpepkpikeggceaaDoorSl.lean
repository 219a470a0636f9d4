/- The laws' own helpers on slices of integers and on periods, by contracts. Conditions: none. -/
import Derived.Test.YtpepkpikeggceaaDoorMem
import Derived.Deep.LoopGhost
import Derived.Outline
namespace Go.Proofs.YtpepkpikeggceaaDoor
open Go.RowKit
set_option linter.unusedVariables false

theorem bel1 (w : World) (o : Obj) : Below w.heap.size w (w.alloc o) := (Below.refl _ _).alloc (Nat.le_refl _) _
theorem bel2 (w : World) (o o' : Obj) : Below w.heap.size w ((w.alloc o).alloc o') := (bel1 w o).alloc (by simp) _
theorem bel3 (w : World) (o o' o'' : Obj) : Below w.heap.size w (((w.alloc o).alloc o').alloc o'') := (bel2 w o o').alloc (by simp; omega) _
theorem set_step (xs : List Value) (z u : Value) (n k : Nat) (hk : k < n) (hx : xs[k]? = some u) :
    (xs.take k ++ List.replicate (n - k) z).set k u = xs.take (k + 1) ++ List.replicate (n - (k + 1)) z := by
  have hl : k < xs.length := by
    rcases Nat.lt_or_ge k xs.length with h' | h'
    · exact h'
    · rw [List.getElem?_eq_none h'] at hx; cases hx
  have ht : (xs.take k).length = k := by rw [List.length_take]; omega
  rw [List.set_append_right _ _ (by omega), ht, Nat.sub_self, show n - k = (n - (k + 1)) + 1 by omega, List.replicate_succ, List.set_cons_zero]
  rw [List.take_add_one, hx]
  simp

end Go.Proofs.YtpepkpikeggceaaDoor
