/- The singles of a position: the plain law of the reference's loop. Conditions: none. -/
import Derived.Test.YtpepkpikeggceaaDoorWords2
namespace Go.Proofs.YtpepkpikeggceaaDoor
open Go.RowKit
set_option linter.unusedVariables false

/-- "none". -/
def noneL : List UInt8 := [110, 111, 110, 101]
noncomputable def posB (s : ByteArray) : Bool := (s.toList == noneL) || (decide ((words s).length ≤ 6) && (words s).all sgB)
noncomputable def posL (s : ByteArray) : List ByteArray := if (s.toList == noneL) = true then [] else if posB s = true then words s else []
theorem posB_mk {s : ByteArray} (hn : (s.toList == noneL) = false) : posB s = (decide ((words s).length ≤ 6) && (words s).all sgB) := by unfold posB; rw [hn]; rfl
theorem pos_bad {s : ByteArray} (hn : (s.toList == noneL) = false) {x : ByteArray} (hx : x ∈ words s) (hg : sgB x = false) : posB s = false ∧ posL s = [] := by
  have h : posB s = false := by
    rw [posB_mk hn, Bool.and_eq_false_iff]
    exact Or.inr (by rw [List.all_eq_false]; exact ⟨x, hx, by rw [hg]; decide⟩)
  exact ⟨h, by unfold posL; rw [hn, h]; rfl⟩
theorem pos_many {s : ByteArray} (hn : (s.toList == noneL) = false) (hx : 7 ≤ (words s).length) : posB s = false ∧ posL s = [] := by
  have h : posB s = false := by
    rw [posB_mk hn, Bool.and_eq_false_iff]
    exact Or.inl (decide_eq_false (by omega))
  exact ⟨h, by unfold posL; rw [hn, h]; rfl⟩
theorem pos_good {s : ByteArray} (hn : (s.toList == noneL) = false) (hx : (words s).length ≤ 6) (hg : ∀ x, x ∈ words s → sgB x = true) : posB s = true ∧ posL s = words s := by
  have h : posB s = true := by
    rw [posB_mk hn, Bool.and_eq_true]
    exact ⟨decide_eq_true hx, List.all_eq_true.2 hg⟩
  exact ⟨h, by unfold posL; rw [hn, h]; rfl⟩
theorem atP_slice {s : ByteArray} {k : Nat} (h : k + 3 ≤ s.size) : ((s.extract k (k + 3)).toList == [32, 43, 32]) = atP s k := by
  rw [ByteArray.toList_eq, data_slice, Nat.add_sub_cancel_left]
  unfold atP Lib.occAt
  rw [Bool.eq_iff_iff, beq_iff_eq, List.isPrefixOf_iff_prefix, List.prefix_iff_eq_take]
  exact eq_comm
/-- Where the reference stands at k: from f on, behind the words os. -/
def AtW (s : ByteArray) (k f : Nat) (os : List ByteArray) : Prop :=
  (∀ x, x ∈ os → sgB x = true) ∧ ((k ≤ s.size ∧ f ≤ s.size ∧ (∃ ws, WD s f ws ∧ words s = os ++ ws) ∧ ∀ j, f ≤ j → j < k → atP s j = false) ∨ (k = s.size + 1 ∧ words s = os))
theorem AtW.start (s : ByteArray) : AtW s 0 0 [] := ⟨fun x h => (by cases h), Or.inl ⟨Nat.zero_le _, Nat.zero_le _, ⟨_, words_at s, rfl⟩, fun j _ h => absurd h (Nat.not_lt_zero _)⟩⟩
theorem AtW.skip {s : ByteArray} {k f : Nat} {os : List ByteArray} (h : AtW s k f os) (hk : k < s.size) (hc : k < f ∨ atP s k = false) : AtW s (k + 1) f os := by
  obtain ⟨h1, ⟨h2, h3, h4, h5⟩ | ⟨h2, -⟩⟩ := h
  · refine ⟨h1, Or.inl ⟨hk, h3, h4, fun j hj hl => ?_⟩⟩
    rcases Nat.lt_or_ge j k with e | e
    · exact h5 j hj e
    · rcases hc with e1 | e1
      · omega
      · rw [show j = k by omega]; exact e1
  · omega
/-- A word ends at k. -/
theorem AtW.word {s : ByteArray} {k f : Nat} {os : List ByteArray} (h : AtW s k f os) (hk : k ≤ s.size) (hf : f ≤ k) (hc : k = s.size ∨ atP s k = true) :
    s.extract f k ∈ words s ∧ os.length + 1 ≤ (words s).length ∧ (sgB (s.extract f k) = true → AtW s (k + 1) (k + 3) (os ++ [s.extract f k])) := by
  obtain ⟨h1, ⟨h2, h3, ⟨ws, hw, he⟩, h5⟩ | ⟨h2, -⟩⟩ := h
  · have hall : ∀ g, sgB g = true → ∀ x, x ∈ os ++ [g] → sgB x = true := fun g hg x hx => by
      rcases List.mem_append.1 hx with e | e
      · exact h1 x e
      · rw [List.mem_singleton.1 e]; exact hg
    cases hw with
    | last _ _ hno =>
      have hks : k = s.size := by
        rcases hc with e | e
        · exact e
        · rw [hno k hf hk] at e; cases e
      subst hks
      refine ⟨by rw [he]; simp, by rw [he, List.length_append]; simp, fun hg => ⟨hall _ hg, Or.inr ⟨rfl, he⟩⟩⟩
    | more _ i ws hfi hi hno ha hw =>
      have hki : k = i := by
        rcases Nat.lt_trichotomy k i with e | e | e
        · rcases hc with e1 | e1
          · omega
          · rw [hno k hf e] at e1; cases e1
        · exact e
        · rw [h5 i hfi e] at ha; cases ha
      subst hki
      refine ⟨by rw [he]; simp, by rw [he, List.length_append]; simp, fun hg => ⟨hall _ hg, Or.inl ⟨by omega, hi, ⟨ws, hw, by rw [he]; simp⟩, fun j hj hl => by omega⟩⟩⟩
  · omega
theorem AtW.stop {s : ByteArray} {k f : Nat} {os : List ByteArray} (h : AtW s k f os) (hk : ¬ k ≤ s.size) : words s = os ∧ ∀ x, x ∈ os → sgB x = true := by
  obtain ⟨h1, ⟨h2, -⟩ | ⟨-, h2⟩⟩ := h
  · exact absurd h2 hk
  · exact ⟨h2, h1⟩
end Go.Proofs.YtpepkpikeggceaaDoor
