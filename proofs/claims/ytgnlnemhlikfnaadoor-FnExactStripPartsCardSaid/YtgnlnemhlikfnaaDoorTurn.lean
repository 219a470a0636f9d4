/- Texts reversed and with marks exchanged: the program's and the reference's, by contracts. Conditions: none. -/
import Derived.Test.YtgnlnemhlikfnaaDoorStrip
import Derived.Test.YtgnlnemhlikfnaaDoorBytes
import Derived.OwnWalk
namespace Go.Proofs.YtgnlnemhlikfnaaDoor
open Go.RowKit
set_option linter.unusedVariables false

theorem ret_strl {l m : List UInt8} (h : l = m) : Ending.returned (.string (str l)) = .returned (.string (str m)) := by rw [h]
theorem drop_rev (l : List UInt8) (j : Nat) (h : j < l.length) : (l.drop (j + 1)).reverse ++ [l[j]] = (l.drop j).reverse := by
  rw [List.drop_eq_getElem_cons h, List.reverse_cons]
theorem getElem_data (s : ByteArray) (j : Nat) (h : j < s.size) : s.data.toList[j]'(by rw [data_len]; exact h) = s[j] := rfl

/-- The mark that stands for a mark when two are exchanged. -/
def swp (x y b : UInt8) : UInt8 := if b = x then y else if b = y then x else b
/-- The first k bytes turned. -/
def mix (f : UInt8 → UInt8) (l : List UInt8) (k : Nat) : List UInt8 := (l.take k).map f ++ l.drop k
theorem mix_len (f : UInt8 → UInt8) (l : List UInt8) (k : Nat) : (mix f l k).length = l.length := by simp [mix]; omega
theorem mix_at (f : UInt8 → UInt8) (l : List UInt8) (k : Nat) (h : k < l.length) : (mix f l k)[k]? = some l[k] := by
  have hl : ((l.take k).map f).length = k := by rw [List.length_map, List.length_take]; omega
  rw [mix, List.getElem?_append_right (by omega), hl, Nat.sub_self, List.getElem?_drop, Nat.add_zero, List.getElem?_eq_getElem h]
theorem mix_set (f : UInt8 → UInt8) (l : List UInt8) (k : Nat) (h : k < l.length) : (mix f l k).set k (f l[k]) = mix f l (k + 1) := by
  have hl : ((l.take k).map f).length = k := by rw [List.length_map, List.length_take]; omega
  have ht : l.take (k + 1) = l.take k ++ [l[k]] := List.take_succ_eq_append_getElem h
  rw [mix, List.set_append_right _ _ (by omega), hl, Nat.sub_self, List.drop_eq_getElem_cons h, List.set_cons_zero, mix, ht, List.map_append]
  simp
theorem mix_same (f : UInt8 → UInt8) (l : List UInt8) (k : Nat) (h : k < l.length) (hf : f l[k] = l[k]) : mix f l k = mix f l (k + 1) := by
  have ht : l.take (k + 1) = l.take k ++ [l[k]] := List.take_succ_eq_append_getElem h
  rw [mix, mix, ht, List.map_append, List.drop_eq_getElem_cons h]
  simp [hf]
theorem mix_all (f : UInt8 → UInt8) (l : List UInt8) : mix f l l.length = l.map f := by simp [mix]
theorem mix_zero (f : UInt8 → UInt8) (l : List UInt8) : mix f l 0 = l := by simp [mix]
theorem BRow.setn {w : World} {g : Nat} {bs : List UInt8} (h : BRow w g bs) (i : Nat) (b : UInt8) (n : Int) (hn : (b.toNat : Int) = n) : BRow (w.setCell ⟨g, i, none⟩ (.int .u8 n)) g (bs.set i b) := hn ▸ h.set i b

/-- The mark that the other player has, as the reference has it. -/
def oth (b : UInt8) : UInt8 := if b = 84 then 70 else if b = 70 then 84 else if b = 76 then 82 else if b = 82 then 76 else 46
end Go.Proofs.YtgnlnemhlikfnaaDoor
