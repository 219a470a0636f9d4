/- The laws' own helpers on lists of texts: markText, eqStringS, markStringS, heldStringS, by contracts. Conditions: none. -/
import Derived.Test.YtpepkpikeggceaaDoorIn
import Derived.Test.YtpepkpikeggceaaDoorBytes
import Derived.OwnWalk
namespace Go.Proofs.YtpepkpikeggceaaDoor
open Go.RowKit
set_option linter.unusedVariables false

/-- The last digit, as a byte. -/
def dgt (k : Nat) : UInt8 := UInt8.ofNat (48 + k % 10)
/-- The decimal digits of a number, none for 0. -/
def digs (k : Nat) : List UInt8 := if h : k = 0 then [] else digs (k / 10) ++ [dgt k]
termination_by k
decreasing_by omega
theorem digs_zero : digs 0 = [] := by rw [digs]; rfl
theorem digs_pos (k : Nat) (h : k ≠ 0) : digs k = digs (k / 10) ++ [dgt k] := by rw [digs, dif_neg h]
theorem digs_len (k : Nat) : (digs k).length ≤ k := by
  induction k using Nat.strongRecOn with
  | _ k ih =>
    by_cases h : k = 0
    · subst h; rw [digs_zero]; exact Nat.le_refl _
    · have := ih (k / 10) (by omega)
      rw [digs_pos k h, List.length_append, List.length_singleton]
      by_cases h1 : k = 1
      · subst h1
        have : digs (1 / 10) = [] := digs_zero
        rw [this]; simp
      · omega
/-- The mark of a number. -/
def mt (k : Nat) : ByteArray := str (109 :: digs k)
theorem blk_back {w : World} {g : Nat} (b : UInt8) (h : Blk w g 5 #[.int .u8 (b.toNat : Int)]) : (convert 70 9 (.slice (some ⟨g, 0, none⟩) 1 1)).run Tryd.prog w = .ok (.string (str [b])) w :=
  run_convert_bytes_back w _ _ 5 ⟨g, 0, none⟩ 1 [b] Tryd.underlying70 Tryd.underlying5 Tryd.underlying9 fun j hj => by
    have : j = 0 := by simpa using hj
    subst this
    rw [add_none]
    exact h.cell 0
theorem dig_u8 (k : Nat) : ((dgt k).toNat : Int) = 48 + (k : Int) % 10 := by
  unfold dgt
  have : (UInt8.ofNat (48 + k % 10)).toNat = 48 + k % 10 := by
    rw [UInt8.toNat_ofNat']
    omega
  rw [this]; omega

/-- The i-th text. -/
def gs (ss : List ByteArray) (i : Nat) : ByteArray := ss.getD i ByteArray.empty
theorem gs_lt {ss : List ByteArray} {i : Nat} (h : i < ss.length) : gs ss i = ss[i] := by simp [gs, h]
theorem gs_at (ss : List ByteArray) (i : Nat) (h : i < ss.length) : (scells ss)[i]? = some (.string (gs ss i)) := by
  rw [scells_at ss i ss[i] (List.getElem?_eq_getElem h), gs_lt h]

/-- n marks from k on. -/
def marks (k n : Nat) : List ByteArray := (List.range n).map fun i => mt (k + i)
theorem marks_len (k n : Nat) : (marks k n).length = n := by simp [marks]
theorem gs_marks (k n i : Nat) (h : i < n) : gs (marks k n) i = mt (k + i) := by simp [gs, marks, h]
theorem marks_step (k : Nat) (ss : List ByteArray) (j : Nat) (h : j < ss.length) : (scells (marks k j ++ ss.drop j)).set j (.string (mt (k + j))) = scells (marks k (j + 1) ++ ss.drop (j + 1)) := by
  have hl : (marks k j).map Value.string = scells (marks k j) := rfl
  rw [scells, List.map_append, List.set_append_right _ _ (by rw [List.length_map, marks_len]; exact Nat.le_refl _), List.length_map, marks_len, Nat.sub_self, List.drop_eq_getElem_cons h, List.map_cons, List.set_cons_zero]
  simp [marks, scells, List.range_succ]

end Go.Proofs.YtpepkpikeggceaaDoor
