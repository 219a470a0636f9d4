/- The laws' own helpers on rows of integers: markIntS, heldIntS, by contracts. Conditions: none. -/
import Derived.Test.YtidfbbegjpfjpaaMem
import Derived.Deep.LoopGhost
import Derived.Maps.AppendAt
namespace Go.Proofs.Ytidfbbegjpfjpaa
open Go.RowKit
set_option linter.unusedVariables false

/-- n numbers from k on. -/
def numRow (k : Int) (n : Nat) : List Int := (List.range n).map fun (i : Nat) => k + i
theorem numRow_len (k : Int) (n : Nat) : (numRow k n).length = n := by simp [numRow]
theorem gi_numRow (k : Int) (n i : Nat) (h : i < n) : gi (numRow k n) i = k + i := by simp [gi, numRow, h]
theorem numRow_step (k : Int) (xs : List Int) (j : Nat) (h : j < xs.length) : (numRow k j ++ xs.drop j).set j (k + j) = numRow k (j + 1) ++ xs.drop (j + 1) := by
  rw [List.set_append_right _ _ (by rw [numRow_len]; exact Nat.le_refl _), numRow_len, Nat.sub_self, List.drop_eq_getElem_cons h, List.set_cons_zero]
  simp [numRow, List.range_succ]
theorem ints_set (xs : List Int) (j : Nat) (u : Int) : (ints xs).set j (.int .i64 u) = ints (xs.set j u) := by simp [ints, List.map_set]

end Go.Proofs.Ytidfbbegjpfjpaa
