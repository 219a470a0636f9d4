/- TurnBoard of the program and of the reference, by contracts. Conditions: none. -/
import Derived.Test.YtidfbbegjpfjpaaDoorMirrorB
import Derived.Test.YtidfbbegjpfjpaaDoorIter
namespace Go.Proofs.YtidfbbegjpfjpaaDoor
open Go.RowKit
set_option linter.unusedVariables false

def colS (ss : List ByteArray) (c : Nat) : ByteArray := str (ss.map fun r => r.data.toList.getD c 0)
def resTurnBoard (ss : List ByteArray) : List ByteArray := if boardB ss = true then (List.range (gs ss 0).size).map (colS ss) else []
theorem resTurnBoard_le (ss : List ByteArray) : (resTurnBoard ss).length ≤ 8 := by
  unfold resTurnBoard
  split
  · rename_i h; rw [List.length_map, List.length_range]; exact (boardB_of h).2.1.2
  · simp
theorem range_step (f : Nat → ByteArray) (k : Nat) : (List.range (k + 1)).map f = (List.range k).map f ++ [f k] := by rw [List.range_succ, List.map_append]; rfl
/-- The bytes of a column. -/
def colB (ss : List ByteArray) (c : Nat) : List UInt8 := ss.map fun r => r.data.toList.getD c 0
theorem colB_step (ss : List ByteArray) (c k : Nat) (h : k < ss.length) (hc : c < (gs ss k).size) : (colB ss c).take (k + 1) = (colB ss c).take k ++ [(gs ss k)[c]] := by
  have h' : k < (colB ss c).length := by simp [colB]; exact h
  rw [List.take_succ_eq_append_getElem h']
  congr 2
  have e : (gs ss k)[c] = (gs ss k).data.toList.getD c 0 := by
    have hc' : c < (gs ss k).data.toList.length := by rw [data_len]; exact hc
    rw [List.getD_eq_getElem?_getD, List.getElem?_eq_getElem hc']; rfl
  rw [e, gs_lt h]
  simp [colB]

end Go.Proofs.YtidfbbegjpfjpaaDoor
