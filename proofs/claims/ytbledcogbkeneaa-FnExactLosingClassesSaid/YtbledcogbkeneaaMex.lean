/- l17Mex by its contract. Conditions: none. -/
import Derived.Test.YtbledcogbkeneaaMoves3
import Derived.Test.YtbledcogbkeneaaMemAt
namespace Go.Proofs.Ytbledcogbkeneaa
open Go.RowKit
set_option linter.unusedVariables false

def xorTo (v : List Nat) (xs : List Int) : Nat → Nat
  | 0 => 0
  | k + 1 => xorTo v xs k ^^^ gn v (gi xs k).toNat
def xorL (v : List Nat) (xs : List Int) : Nat := xorTo v xs xs.length
theorem xorTo_lt {v : List Nat} (hv : ∀ i, gn v i < 32768) (xs : List Int) : ∀ k, xorTo v xs k < 32768
  | 0 => by simp [xorTo]
  | k + 1 => by
    unfold xorTo
    exact Nat.xor_lt_two_pow (n := 15) (xorTo_lt hv xs k) (hv _)
theorem pigeon : ∀ (m : Nat) (l : List Nat), (∀ j, j < m → j ∈ l) → m ≤ l.length
  | 0, _, _ => Nat.zero_le _
  | m + 1, l, h => by
    have h1 := pigeon m (l.erase m) fun j hj => (List.mem_erase_of_ne (by omega)).2 (h j (by omega))
    have h2 := List.length_erase_of_mem (h m (by omega))
    have h3 : 0 < l.length := List.length_pos_of_mem (h m (by omega))
    omega
/-- The elements of a move are smaller heaps. -/
theorem isMv_lt {cs : List Int} {n : Nat} {xs : List Int} (h : isMv cs n xs) {i : Nat} (hi : i < xs.length) : ∃ q : Nat, gi xs i = (q : Int) ∧ q < n := by
  obtain ⟨j, h1, h2, h3, h4⟩ := h
  rcases h4 with ⟨_, _, rfl⟩ | ⟨_, _, rfl⟩ | ⟨_, a, _, _, ha, rfl⟩
  · simp at hi
  · have : i = 0 := by simpa using hi
    subst this
    exact ⟨n - (j + 1), rfl, by omega⟩
  · have : i = 0 ∨ i = 1 := by simp at hi; omega
    rcases this with rfl | rfl
    · exact ⟨a, rfl, by omega⟩
    · exact ⟨n - (j + 1) - a, rfl, by omega⟩
theorem isOpt_iff (cs : List Int) (v : List Nat) (n x : Nat) : isOpt cs v n x ↔ ∃ xs, isMv cs n xs ∧ x = xorL v xs := by
  constructor
  · rintro ⟨j, h1, h2, h3, h4⟩
    rcases h4 with ⟨k1, k2, rfl⟩ | ⟨k1, k2, rfl⟩ | ⟨k1, a, k2, k3, k4, rfl⟩
    · exact ⟨[], ⟨j, h1, h2, h3, .inl ⟨k1, k2, rfl⟩⟩, rfl⟩
    · exact ⟨_, ⟨j, h1, h2, h3, .inr (.inl ⟨k1, k2, rfl⟩)⟩, by simp [xorL, xorTo, gi]⟩
    · exact ⟨_, ⟨j, h1, h2, h3, .inr (.inr ⟨k1, a, k2, k3, k4, rfl⟩)⟩, by simp [xorL, xorTo, gi]⟩
  · rintro ⟨xs, ⟨j, h1, h2, h3, h4⟩, rfl⟩
    rcases h4 with ⟨k1, k2, rfl⟩ | ⟨k1, k2, rfl⟩ | ⟨k1, a, k2, k3, k4, rfl⟩
    · exact ⟨j, h1, h2, h3, .inl ⟨k1, k2, rfl⟩⟩
    · exact ⟨j, h1, h2, h3, .inr (.inl ⟨k1, k2, by simp [xorL, xorTo, gi]⟩)⟩
    · exact ⟨j, h1, h2, h3, .inr (.inr ⟨k1, a, k2, k3, k4, by simp [xorL, xorTo, gi]⟩)⟩

end Go.Proofs.Ytbledcogbkeneaa
