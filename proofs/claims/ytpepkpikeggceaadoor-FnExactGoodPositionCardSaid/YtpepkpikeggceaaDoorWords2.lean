/- The words of a text by their places: the plain law. Conditions: none. -/
import Derived.Test.YtpepkpikeggceaaDoorWords
import Derived.Lib.IndexLaws
namespace Go.Proofs.YtpepkpikeggceaaDoor
open Go.RowKit
set_option linter.unusedVariables false

/-- Whether a plus sign between spaces stands at i. -/
def atP (s : ByteArray) (i : Nat) : Bool := Lib.occAt s.data.toList [32, 43, 32] i
/-- ws are the words of s from f on. -/
inductive WD (s : ByteArray) : Nat → List ByteArray → Prop
  | last (f : Nat) (hf : f ≤ s.size) (h : ∀ j, f ≤ j → j ≤ s.size → atP s j = false) : WD s f [s.extract f s.size]
  | more (f i : Nat) (ws : List ByteArray) (hf : f ≤ i) (hi : i + 3 ≤ s.size) (h : ∀ j, f ≤ j → j < i → atP s j = false) (ha : atP s i = true) (hw : WD s (i + 3) ws) : WD s f (s.extract f i :: ws)
theorem atP_room {s : ByteArray} {i : Nat} (h : atP s i = true) : i + 3 ≤ s.size := by
  unfold atP Lib.occAt at h
  have := (List.isPrefixOf_iff_prefix.1 h).length_le
  rw [List.length_drop, data_len] at this
  simp at this
  omega
theorem atP_drop (s : ByteArray) (f j : Nat) : atP (s.extract f s.size) j = atP s (f + j) := by
  unfold atP Lib.occAt
  rw [data_slice, List.take_of_length_le (by rw [List.length_drop, data_len]; exact Nat.le_refl _), List.drop_drop]
theorem first_at (s : ByteArray) : ∀ n, (∀ j, j < n → atP s j = false) ∨ ∃ i, i < n ∧ atP s i = true ∧ ∀ j, j < i → atP s j = false := by
  intro n
  induction n with
  | zero => exact Or.inl fun j hj => absurd hj (Nat.not_lt_zero _)
  | succ n ih =>
    rcases ih with h | ⟨i, h1, h2, h3⟩
    · cases ha : atP s n
      · exact Or.inl fun j hj => by
          rcases Nat.lt_or_ge j n with h4 | h4
          · exact h j h4
          · rw [show j = n by omega]; exact ha
      · exact Or.inr ⟨n, by omega, ha, h⟩
    · exact Or.inr ⟨i, by omega, h2, h3⟩
theorem words_wd (s : ByteArray) : ∀ (d f : Nat), f ≤ s.size → s.size - f = d → WD s f (words (s.extract f s.size)) := by
  intro d
  induction d using Nat.strongRecOn with
  | ind d ih =>
    intro f hf hd
    obtain ⟨u, hu⟩ : ∃ u, u = s.extract f s.size := ⟨_, rfl⟩
    have hus : u.size = s.size - f := by rw [hu, ByteArray.size_extract]; omega
    have hud : u.data.toList = s.data.toList.drop f := by rw [hu, data_slice, List.take_of_length_le (by rw [List.length_drop, data_len]; exact Nat.le_refl _)]
    have hat : ∀ j, atP u j = atP s (f + j) := fun j => by rw [hu]; exact atP_drop s f j
    rcases first_at u (u.size + 1) with h | ⟨i, hi, ha, hn⟩
    · have hx : Lib.indexB u plus = -1 := Lib.index_none fun j hj => h j (by rw [data_len] at hj; omega)
      have hw : words u = [u] := by unfold words; exact Lib.splitB_miss plus 0 _ u hx
      rw [← hu, hw, hu]
      exact WD.last f hf fun j h1 h2 => by
        have := h (j - f) (by omega)
        rw [hat, show f + (j - f) = j by omega] at this
        exact this
    · have hx : Lib.indexB u plus = i := Lib.index_first (by rw [data_len]; omega) ha hn
      have hr := atP_room ha
      have hc := Lib.countB_hit u plus i (by decide) hx
      have hp3 : plus.size = 3 := rfl
      have e2 : u.extract (i + plus.size) u.size = s.extract (f + i + 3) s.size := by
        rw [hp3]
        apply ByteArray.ext
        apply Array.toList_inj.1
        rw [data_slice, data_slice, hud, hus, List.drop_drop, show f + (i + 3) = f + i + 3 by omega, show s.size - f - (i + 3) = s.size - (f + i + 3) by omega]
      have e1 : u.extract 0 (i + 0) = s.extract f (f + i) := by
        apply ByteArray.ext
        apply Array.toList_inj.1
        rw [data_slice, data_slice, hud]
        simp
      have hw : words u = s.extract f (f + i) :: words (s.extract (f + i + 3) s.size) := by
        unfold words
        rw [hc, Nat.add_comm 1, Lib.splitB_hit plus 0 _ u i hx, e2, e1]
      rw [← hu, hw]
      refine WD.more f (f + i) _ (by omega) (by omega) (fun j h1 h2 => ?_) (by rw [← hat]; exact ha) (ih (s.size - (f + i + 3)) (by omega) (f + i + 3) (by omega) rfl)
      have := hn (j - f) (by omega)
      rw [hat, show f + (j - f) = j by omega] at this
      exact this
theorem words_at (s : ByteArray) : WD s 0 (words s) := by
  have h := words_wd s s.size 0 (Nat.zero_le _) (by omega)
  have e : s.extract 0 s.size = s := by
    apply ByteArray.ext
    apply Array.toList_inj.1
    rw [data_slice, List.drop_zero, Nat.sub_zero, List.take_of_length_le (by rw [data_len]; exact Nat.le_refl _)]
  rw [e] at h
  exact h
end Go.Proofs.YtpepkpikeggceaaDoor
