/- impl.values by its contract. Conditions: none. -/
import Derived.Test.YtbledcogbkeneaaCode
import Derived.Test.YtbledcogbkeneaaVM
import Derived.Test.YtbledcogbkeneaaBits
import Derived.StillTailTactics
import Derived.Deep.LoopGhost
import Derived.Deep.DeepCutAuto
import Derived.Deep.CutBlock
import Derived.Test.YtbledcogbkeneaaZc
namespace Go.Proofs.Ytbledcogbkeneaa
open Go.RowKit
set_option linter.unusedVariables false

theorem optTo_zero (cs : List Int) (v : List Nat) (k x : Nat) : ¬ optTo cs v k 0 x := fun ⟨j, hj, _⟩ => absurd hj (by omega)
theorem optTo_succ (cs : List Int) (v : List Nat) (k j x : Nat) (hj : j < cs.length) (hk : j + 1 ≤ k) : optTo cs v k (j + 1) x ↔ optTo cs v k j x ∨ optD (gi cs j) v (k - j - 1) (k + 1) x := by
  constructor
  · rintro ⟨i, h1, h2, h3, h4⟩
    by_cases hij : i = j
    · subst hij; exact .inr (by rw [show k - i - 1 = k - (i + 1) by omega]; exact h4)
    · exact .inl ⟨i, by omega, h2, h3, h4⟩
  · rintro (⟨i, h1, h2, h3, h4⟩ | h)
    · exact ⟨i, by omega, h2, h3, h4⟩
    · exact ⟨j, by omega, hj, hk, by rw [show k - (j + 1) = k - j - 1 by omega]; exact h⟩
theorem optTo_end (cs : List Int) (v : List Nat) (k j x : Nat) (h : j = cs.length ∨ k ≤ j) : optTo cs v k j x ↔ isOpt cs v k x := by
  constructor
  · rintro ⟨i, h1, h2, h3, h4⟩; exact ⟨i, h2, h2, h3, h4⟩
  · rintro ⟨i, h1, h2, h3, h4⟩
    refine ⟨i, ?_, h2, h3, h4⟩
    rcases h with h | h <;> omega
theorem optD_end (d : Int) (v : List Nat) (r t a0 x : Nat) (h : ¬ (d / 4 % 2 = 1) ∨ r < 2 * t) (ht : t ≤ a0) : optD d v r t x ↔ optD d v r a0 x := by
  constructor
  · rintro (h1 | h1 | ⟨h1, a, h2, h3, h4, h5⟩)
    · exact .inl h1
    · exact .inr (.inl h1)
    · exact .inr (.inr ⟨h1, a, h2, by omega, h4, h5⟩)
  · rintro (h1 | h1 | ⟨h1, a, h2, h3, h4, h5⟩)
    · exact .inl h1
    · exact .inr (.inl h1)
    · rcases h with h | h
      · exact absurd h1 h
      · exact .inr (.inr ⟨h1, a, h2, by omega, h4, h5⟩)
theorem optD_succ (d : Int) (v : List Nat) (r t x : Nat) (h : d / 4 % 2 = 1) (ht : 1 ≤ t) (hr : 2 * t ≤ r) : optD d v r (t + 1) x ↔ optD d v r t x ∨ x = gn v t ^^^ gn v (r - t) := by
  constructor
  · rintro (h1 | h1 | ⟨h1, a, h2, h3, h4, h5⟩)
    · exact .inl (.inl h1)
    · exact .inl (.inr (.inl h1))
    · by_cases hat : a = t
      · subst hat; exact .inr h5
      · exact .inl (.inr (.inr ⟨h1, a, h2, by omega, h4, h5⟩))
  · rintro ((h1 | h1 | ⟨h1, a, h2, h3, h4, h5⟩) | h1)
    · exact .inl h1
    · exact .inr (.inl h1)
    · exact .inr (.inr ⟨h1, a, h2, by omega, h4, h5⟩)
    · exact .inr (.inr ⟨h, t, ht, by omega, hr, h1⟩)
theorem optD_one (d : Int) (v : List Nat) (r x : Nat) : optD d v r 1 x ↔ (d % 2 = 1 ∧ r = 0 ∧ x = 0) ∨ (d / 2 % 2 = 1 ∧ 0 < r ∧ x = gn v r) := by
  constructor
  · rintro (h1 | h1 | ⟨h1, a, h2, h3, h4, h5⟩)
    · exact .inl h1
    · exact .inr h1
    · omega
  · rintro (h1 | h1)
    · exact .inl h1
    · exact .inr (.inl h1)
theorem optD1_t0 {d : Int} {v : List Nat} {r x : Nat} (hr : r = 0) (hd : d % 2 = 1) : optD d v r 1 x ↔ x = 0 := by
  rw [optD_one]
  constructor
  · rintro (h | h)
    · exact h.2.2
    · omega
  · intro h; exact .inl ⟨hd, hr, h⟩
theorem optD1_n0 {d : Int} {v : List Nat} {r x : Nat} (hr : r = 0) (hd : ¬ d % 2 = 1) : ¬ optD d v r 1 x := by
  rw [optD_one]
  rintro (h | h)
  · exact hd h.1
  · omega
theorem optD1_t {d : Int} {v : List Nat} {r x : Nat} (hr : ¬ r = 0) (hd : d / 2 % 2 = 1) : optD d v r 1 x ↔ x = gn v r := by
  rw [optD_one]
  constructor
  · rintro (h | h)
    · exact absurd h.2.1 hr
    · exact h.2.2
  · intro h; exact .inr ⟨hd, by omega, h⟩
theorem optD1_n {d : Int} {v : List Nat} {r x : Nat} (hr : ¬ r = 0) (hd : ¬ d / 2 % 2 = 1) : ¬ optD d v r 1 x := by
  rw [optD_one]
  rintro (h | h)
  · exact hr h.2.1
  · exact hd h.1
theorem small255_gn {v : List Nat} (h : small255 v) (i : Nat) : gn v i ≤ 255 := by
  by_cases hi : i < v.length
  · exact h i hi
  · simp [gn, List.getElem?_eq_none (Nat.le_of_not_lt hi)]
theorem opt_le {cs : List Int} {v : List Nat} {h k x : Nat} (hs : small255 v) (ho : optTo cs v h k x) : x ≤ 255 := by
  have := isOpt_lt (n := 8) (fun i => by have := small255_gn hs i; omega) ho
  omega

theorem small255_snoc {v : List Nat} {m : Nat} (h : small255 v) (hm : m ≤ 255) : small255 (v ++ [m]) := by
  intro i hi
  rw [List.length_append, List.length_singleton] at hi
  by_cases hl : i < v.length
  · rw [gn_append_lt v _ hl]; exact h i hl
  · obtain rfl : i = v.length := by omega
    rw [gn_append_len]; exact hm
def valsPost (cs : List Int) (n : Nat) (w : World) (e : Ending) (w' : World) : Prop :=
  ((small255 (V cs (n + 1)) ∧ ∃ A c, e = .returned (.tuple #[.slice A (n + 1) c, .bool true]) ∧ OwnI w' w.heap.size (.slice A (n + 1) c) (nats (V cs (n + 1)))) ∨
   (¬ small255 (V cs (n + 1)) ∧ e = .returned (.tuple #[.slice none 0 0, .bool false]))) ∧ Below w.heap.size w w'


end Go.Proofs.Ytbledcogbkeneaa
