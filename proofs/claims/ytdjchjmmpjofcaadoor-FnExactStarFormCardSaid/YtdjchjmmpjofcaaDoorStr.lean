/- Strings as lists of bytes: which bytes they have, what a trim leaves. Conditions: none. -/
import Derived.Test.YtdjchjmmpjofcaaDoorLib
import Derived.Lib.SlTrimSet
import Derived.Lib.Strings
namespace Go.Proofs.YtdjchjmmpjofcaaDoor
open Go.RowKit
set_option linter.unusedVariables false

/-- All bytes are among these. -/
def allIn (cs : List UInt8) (s : ByteArray) : Bool := s.data.toList.all (cs.contains ·)
theorem dropWhile_nil_iff {α : Type} (p : α → Bool) (l : List α) : l.dropWhile p = [] ↔ l.all p = true := by
  induction l with
  | nil => simp
  | cons x l ih =>
    cases h : p x
    · simp [List.dropWhile, h]
    · simp only [List.dropWhile, h, List.all_cons, Bool.true_and]
      exact ih
theorem dropWhile_head {α : Type} (p : α → Bool) (l : List α) (y : α) (ys : List α) (h : l.dropWhile p = y :: ys) : p y = false := by
  induction l with
  | nil => simp at h
  | cons x l ih =>
    cases hp : p x
    · simp only [List.dropWhile, hp] at h
      injection h with h1 h2
      subst h1; exact hp
    · simp only [List.dropWhile, hp] at h
      exact ih h
theorem trimS_nil (l cs : List UInt8) : Lib.trimS l cs = [] ↔ l.all (cs.contains ·) = true := by
  unfold Lib.trimS Lib.trimLeftS
  rw [dropWhile_nil_iff]
  unfold Lib.trimRightS
  constructor
  · intro h
    by_cases hd : l.reverse.dropWhile (cs.contains ·) = []
    · rw [dropWhile_nil_iff] at hd
      rw [List.all_eq_true] at hd ⊢
      exact fun x hx => hd x (List.mem_reverse.2 hx)
    · exfalso
      obtain ⟨y, ys, hy⟩ := List.exists_cons_of_ne_nil hd
      have h1 := dropWhile_head _ _ _ _ hy
      rw [hy, List.all_eq_true] at h
      rw [h y (by simp)] at h1; cases h1
  · intro h
    have : l.reverse.dropWhile (cs.contains ·) = [] := by
      rw [dropWhile_nil_iff]
      rw [List.all_eq_true] at h ⊢
      exact fun x hx => h x (List.mem_reverse.1 hx)
    rw [this]; rfl
theorem byte_data (s : ByteArray) (k : Nat) (h : k < s.size) : s.data.toList[k]? = some s[k] := by
  have h' : k < s.data.toList.length := by simpa using h
  rw [List.getElem?_eq_getElem h']
  rfl
theorem allIn_true {cs : List UInt8} {s : ByteArray} : allIn cs s = true ↔ ∀ k (h : k < s.size), cs.contains s[k] = true := by
  unfold allIn
  rw [List.all_eq_true]
  constructor
  · intro h k hk
    exact h _ (List.mem_of_getElem? (byte_data s k hk))
  · intro h x hx
    obtain ⟨k, hk, rfl⟩ := List.getElem_of_mem hx
    exact h k (by simpa using hk)
theorem allIn_false {cs : List UInt8} {s : ByteArray} (k : Nat) (h : k < s.size) (hc : cs.contains s[k] = false) : allIn cs s = false := by
  rw [Bool.eq_false_iff]
  intro ht
  rw [allIn_true.1 ht k h] at hc
  cases hc
theorem trim_empty (cs : List UInt8) (s : ByteArray) : (⟨(Lib.trimS s.data.toList cs).toArray⟩ : ByteArray).toList.isEmpty = allIn cs s := by
  rw [Lib.toList_data]
  show (Lib.trimS s.data.toList cs).toArray.toList.isEmpty = _
  rw [Bool.eq_iff_iff, List.isEmpty_iff]
  show Lib.trimS s.data.toList cs = [] ↔ _
  rw [trimS_nil]; rfl
theorem trim_isEmpty (cs : List UInt8) (s : ByteArray) : (Lib.trimS s.data.toList cs).isEmpty = allIn cs s := by
  rw [Bool.eq_iff_iff, List.isEmpty_iff, trimS_nil]; rfl
theorem byte_ne {b c : UInt8} (h : b ≠ c) : (b.toNat : Int) ≠ (c.toNat : Int) := by
  intro e
  exact h (UInt8.toNat_inj.1 (by omega))
theorem beq_t {b c : UInt8} (n : Int) (hn : (c.toNat : Int) = n) (h : b = c) : ((b.toNat : Int) == n) = true := by subst h; simp [hn]
theorem beq_f {b c : UInt8} (n : Int) (hn : (c.toNat : Int) = n) (h : ¬ b = c) : ((b.toNat : Int) == n) = false := by subst hn; simp [byte_ne h]
theorem bne_t {b c : UInt8} (n : Int) (hn : (c.toNat : Int) = n) (h : ¬ b = c) : ((b.toNat : Int) != n) = true := by subst hn; simp [byte_ne h]
theorem bne_f {b c : UInt8} (n : Int) (hn : (c.toNat : Int) = n) (h : b = c) : ((b.toNat : Int) != n) = false := by subst h; simp [hn]
theorem ret_str {a b : ByteArray} (h : a.data.toList = b.data.toList) : Ending.returned (.string a) = .returned (.string b) := by
  have : a = b := ByteArray.ext (Array.toList_inj.1 h)
  rw [this]
end Go.Proofs.YtdjchjmmpjofcaaDoor
