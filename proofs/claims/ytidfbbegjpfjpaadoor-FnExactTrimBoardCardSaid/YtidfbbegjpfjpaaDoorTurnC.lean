/- TurnBoard of the reference, by contract. Conditions: none. -/
import Derived.Test.YtidfbbegjpfjpaaDoorTurnB
namespace Go.Proofs.YtidfbbegjpfjpaaDoor
open Go.RowKit
set_option linter.unusedVariables false

def colBool (bss : List (List Bool)) (k : Nat) : List Bool := bss.map fun r => r.getD k false
theorem colBool_len (bss : List (List Bool)) (k : Nat) : (colBool bss k).length = bss.length := by simp [colBool]
theorem colBool_step (bss : List (List Bool)) (k j : Nat) (h : j < bss.length) : (colBool bss k).take (j + 1) = (colBool bss k).take j ++ [(gb bss j).getD k false] := by
  have h' : j < (colBool bss k).length := by rw [colBool_len]; exact h
  rw [List.take_succ_eq_append_getElem h', gb_lt h]
  congr 2
  simp [colBool]
theorem range_stepB (f : Nat → List Bool) (k : Nat) : (List.range (k + 1)).map f = (List.range k).map f ++ [f k] := by rw [List.range_succ, List.map_append]; rfl
theorem btext_col {ss : List ByteArray} {k : Nat} (h : ∀ i, i < ss.length → allIn [46, 35] (gs ss i) = true ∧ k < (gs ss i).size) : btext (colBool (brows ss) k) = colS ss k := by
  unfold btext colS
  congr 1
  unfold colBool brows
  rw [List.map_map, List.map_map]
  refine List.map_congr_left fun r hr => ?_
  obtain ⟨i, hi, rfl⟩ := List.getElem_of_mem hr
  obtain ⟨h1, h2⟩ := h i hi
  rw [gs_lt hi] at h1 h2
  have hl : k < (ss[i]).data.toList.length := by rw [data_len]; exact h2
  have e1 : (brow ss[i]).getD k false = ((ss[i]).data.toList[k] == 46) := by
    rw [List.getD_eq_getElem?_getD, brow, List.getElem?_map, List.getElem?_eq_getElem hl]; rfl
  have e2 : (ss[i]).data.toList.getD k 0 = (ss[i]).data.toList[k] := by rw [List.getD_eq_getElem?_getD, List.getElem?_eq_getElem hl]; rfl
  show bmark ((brow ss[i]).getD k false) = _
  rw [e1, e2]
  have h3 := allIn_true.1 h1 k h2
  have e3 : (ss[i]).data.toList[k] = (ss[i])[k] := rfl
  rw [e3]
  simp at h3
  rcases h3 with e | e <;> rw [e] <;> rfl

end Go.Proofs.YtidfbbegjpfjpaaDoor
