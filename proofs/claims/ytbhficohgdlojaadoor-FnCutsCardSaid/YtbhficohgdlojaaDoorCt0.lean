/- The cut of a tree: plain laws. Conditions: none. -/
import Derived.Test.YtbhficohgdlojaaDoorTree
namespace Go.Proofs.YtbhficohgdlojaaDoor
open Go.RowKit
set_option linter.unusedVariables false

/-- Edge i is cut, or stands on one that is gone. -/
def goneB (u : Nat → Int) (e : Nat) (nm : List Int) (i : Nat) : Bool := decide (i = e) || (decide (0 ≤ u i) && decide (gi nm (u i).toNat < 0))
/-- New names (-1: gone), new parents, marks: of the first i edges. -/
def cutN (u : Nat → Int) (s : ByteArray) (e : Nat) : Nat → List Int × List Int × ByteArray
  | 0 => ([], [], ⟨#[]⟩)
  | i + 1 =>
    if goneB u e (cutN u s e i).1 i then ((cutN u s e i).1 ++ [-1], (cutN u s e i).2.1, (cutN u s e i).2.2)
    else ((cutN u s e i).1 ++ [((cutN u s e i).2.1.length : Int)], (cutN u s e i).2.1 ++ [if 0 ≤ u i then gi (cutN u s e i).1 (u i).toNat else u i], (cutN u s e i).2.2 ++ s.extract i (i + 1))
theorem cutN_gone {u : Nat → Int} {s : ByteArray} {e i : Nat} (h : goneB u e (cutN u s e i).1 i = true) : cutN u s e (i + 1) = ((cutN u s e i).1 ++ [-1], (cutN u s e i).2.1, (cutN u s e i).2.2) := if_pos h
theorem cutN_kept {u : Nat → Int} {s : ByteArray} {e i : Nat} (h : goneB u e (cutN u s e i).1 i = false) : cutN u s e (i + 1) = ((cutN u s e i).1 ++ [((cutN u s e i).2.1.length : Int)], (cutN u s e i).2.1 ++ [if 0 ≤ u i then gi (cutN u s e i).1 (u i).toNat else u i], (cutN u s e i).2.2 ++ s.extract i (i + 1)) := if_neg (by rw [h]; decide)
theorem cutN_len (u : Nat → Int) (s : ByteArray) (e i : Nat) : (cutN u s e i).1.length = i := by
  induction i with
  | zero => rfl
  | succ i ih =>
    cases h : goneB u e (cutN u s e i).1 i
    · rw [cutN_kept h]; rw [List.length_append, ih]; rfl
    · rw [cutN_gone h]; rw [List.length_append, ih]; rfl
theorem gi_snoc (xs : List Int) (x : Int) (j : Nat) : gi (xs ++ [x]) j = if j < xs.length then gi xs j else if j = xs.length then x else gi [] 0 := by
  unfold gi
  by_cases h : j < xs.length
  · rw [if_pos h, List.getD_eq_getElem?_getD, List.getElem?_append_left h, ← List.getD_eq_getElem?_getD]
  · rw [if_neg h]
    by_cases h2 : j = xs.length
    · subst h2; simp
    · rw [if_neg h2, List.getD_eq_getElem?_getD, List.getElem?_eq_none (by simp; omega)]; rfl
/-- What is behind a cut is a tree: as many marks as parents; names are below. -/
theorem cutN_ok (u : Nat → Int) (s : ByteArray) (e : Nat) (n : Nat) (hu : ∀ i, i < n → -1 ≤ u i ∧ u i < i) (hn : n = s.size) (hs : allIn [76, 82] s = true) (i : Nat) (hi : i ≤ n) :
    (cutN u s e i).2.1.length = (cutN u s e i).2.2.size ∧ (cutN u s e i).2.1.length ≤ i ∧ (e < i → (cutN u s e i).2.1.length < i) ∧ upsOk (cutN u s e i).2.1 ∧ allIn [76, 82] (cutN u s e i).2.2 = true ∧
    (∀ j, j < i → -1 ≤ gi (cutN u s e i).1 j ∧ gi (cutN u s e i).1 j < (cutN u s e i).2.1.length) := by
  induction i with
  | zero => exact ⟨rfl, Nat.le_refl _, fun h => by omega, fun j hj => by simp [cutN] at hj, rfl, fun j hj => by omega⟩
  | succ i ih =>
    obtain ⟨a1, a2, a3, a4, a5, a6⟩ := ih (by omega)
    have hl := cutN_len u s e i
    cases h : goneB u e (cutN u s e i).1 i
    · rw [cutN_kept h]
      have hie : i ≠ e := fun hh => by subst hh; simp [goneB] at h
      have hsz : (s.extract i (i + 1)).size = 1 := by simp; omega
      have hui := hu i (by omega)
      refine ⟨?_, ?_, fun he => ?_, ?_, ?_, fun j hj => ?_⟩
      · dsimp only; rw [List.length_append, ByteArray.size_append, hsz, a1]; rfl
      · dsimp only; rw [List.length_append, List.length_singleton]; omega
      · dsimp only; rw [List.length_append, List.length_singleton]; have := a3 (by omega); omega
      · intro j hj
        have hj' : j < (cutN u s e i).2.1.length + 1 := by simpa using hj
        dsimp only
        rw [gi_snoc]
        by_cases hjl : j < (cutN u s e i).2.1.length
        · rw [if_pos hjl]; exact a4 j hjl
        · have hje : j = (cutN u s e i).2.1.length := by omega
          rw [if_neg hjl, if_pos hje]
          by_cases hui0 : 0 ≤ u i
          · rw [if_pos hui0]
            have := a6 (u i).toNat (by omega)
            omega
          · rw [if_neg hui0]; omega
      · dsimp only
        unfold allIn at a5 hs ⊢
        rw [List.all_eq_true] at a5 hs ⊢
        intro b hb
        have e1 : ((cutN u s e i).2.2 ++ s.extract i (i + 1)).data.toList = (cutN u s e i).2.2.data.toList ++ (s.extract i (i + 1)).data.toList := by simp
        rw [e1, List.mem_append] at hb
        rcases hb with hb | hb
        · exact a5 b hb
        · refine hs b ?_
          have e2 : (s.extract i (i + 1)).data.toList = (s.data.toList.drop i).take (i + 1 - i) := by simp
          rw [e2] at hb
          exact List.mem_of_mem_drop (List.mem_of_mem_take hb)
      · dsimp only
        rw [gi_snoc, List.length_append, List.length_singleton, hl]
        by_cases hjl : j < i
        · rw [if_pos hjl]; have := a6 j hjl; omega
        · rw [if_neg hjl, if_pos (by omega)]; omega
    · rw [cutN_gone h]
      refine ⟨a1, by dsimp only; omega, fun he => by dsimp only; omega, a4, a5, fun j hj => ?_⟩
      dsimp only
      rw [gi_snoc, hl]
      by_cases hjl : j < i
      · rw [if_pos hjl]; exact a6 j hjl
      · rw [if_neg hjl, if_pos (by omega)]; omega
/-- The tree behind a cut. -/
def cutT (xs : List Int) (s : ByteArray) (e : Nat) : List Int × ByteArray := (cutN (gi xs) s e xs.length).2
theorem cutT_ok {xs : List Int} {s : ByteArray} {e : Nat} (hg : treeB xs s = true) (he : e < xs.length) : treeB (cutT xs s e).1 (cutT xs s e).2 = true ∧ (cutT xs s e).1.length < xs.length := by
  obtain ⟨h1, h2, h3, h4⟩ := treeB_of hg
  obtain ⟨a1, a2, a3, a4, a5, a6⟩ := cutN_ok (gi xs) s e xs.length h4 h3 h1 xs.length (Nat.le_refl _)
  have := a3 he
  exact ⟨treeB_yes a5 (by show (cutN (gi xs) s e xs.length).2.2.size ≤ 8; omega) a1 a4, this⟩
/-- The cuts of a player, of the first i edges. -/
def cutsL (xs : List Int) (s : ByteArray) (left : Bool) : Nat → List (List Int × ByteArray)
  | 0 => []
  | i + 1 => if ((s.data.toList.getD i 0 == 76) == left) = true then cutsL xs s left i ++ [cutT xs s i] else cutsL xs s left i
end Go.Proofs.YtbhficohgdlojaaDoor
