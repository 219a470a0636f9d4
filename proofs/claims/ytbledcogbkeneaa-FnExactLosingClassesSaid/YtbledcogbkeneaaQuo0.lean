/- Signs, classes, losing classes of box positions: the plain law. Conditions: none. -/
import Derived.Test.YtbledcogbkeneaaOpt0
import Derived.Test.YtbledcogbkeneaaBox2
import Derived.Test.YtbledcogbkeneaaPutI
namespace Go.Proofs.Ytbledcogbkeneaa
open Go.RowKit
set_option linter.unusedVariables false

theorem bx_mem (size : Nat) : ∀ (m fr : Nat) (x : List Int), x ∈ bx size m fr → (∀ y ∈ x, (fr : Int) ≤ y ∧ y ≤ size) ∧ x.Pairwise (· ≤ ·) ∧ x.length = m
  | 0, fr, x, h => by
    simp only [bx, List.mem_singleton] at h
    subst h
    exact ⟨fun y hy => (by cases hy), List.Pairwise.nil, rfl⟩
  | m + 1, fr, x, h => by
    unfold bx at h
    obtain ⟨n, hn, h⟩ := List.mem_flatMap.1 h
    obtain ⟨y, hy, rfl⟩ := List.mem_map.1 h
    obtain ⟨k1, k2, k3⟩ := bx_mem size m n y hy
    rw [List.mem_range'_1] at hn
    refine ⟨fun z hz => ?_, List.pairwise_cons.2 ⟨fun z hz => (k1 z hz).1, k2⟩, by rw [List.length_cons, k3]⟩
    rcases List.mem_cons.1 hz with rfl | hz
    · omega
    · have := k1 z hz
      omega
theorem allTo_mem {size k : Nat} {x : List Int} (h : x ∈ allTo size k) : (∀ y ∈ x, 1 ≤ y ∧ y ≤ size) ∧ x.Pairwise (· ≤ ·) ∧ x.length < k := by
  unfold allTo at h
  obtain ⟨m, hm, h⟩ := List.mem_flatMap.1 h
  obtain ⟨h1, h2, h3⟩ := bx_mem size m 1 x h
  rw [List.mem_range] at hm
  exact ⟨fun y hy => by have := h1 y hy; omega, h2, by omega⟩
theorem sm_le_len {x : List Int} {s : Nat} (h : ∀ y ∈ x, y ≤ s) : sm x ≤ (x.length : Int) * s := by
  induction x with
  | nil => simp [sm]
  | cons y ys ih =>
    have h1 := h y List.mem_cons_self
    have h2 := ih fun z hz => h z (List.mem_cons_of_mem _ hz)
    rw [List.length_cons, Int.natCast_add, Int.add_mul]
    simp only [sm]
    omega
theorem allTo_sm {size many : Nat} {x : List Int} (h : x ∈ allTo size (many + 1)) : sm x ≤ (size * many : Nat) := by
  obtain ⟨h1, h2, h3⟩ := allTo_mem h
  have h4 := sm_le_len (s := size) fun y hy => (h1 y hy).2
  have h5 : (x.length : Int) * size ≤ (many : Int) * size := Int.mul_le_mul_of_nonneg_right (by omega) (by omega)
  rw [Int.natCast_mul, Int.mul_comm (size : Int)]
  omega
theorem allTo_hp {size many : Nat} {x : List Int} (h : x ∈ allTo size (many + 1)) (hb : size * many ≤ 6) : Hp 20 x := by
  obtain ⟨h1, h2, h3⟩ := allTo_mem h
  have := allTo_sm h
  exact ⟨fun y hy => (h1 y hy).1, h2, by omega⟩
theorem allTo_head (size many : Nat) : ∃ L, allTo size (many + 1) = [] :: L := by
  unfold allTo
  rw [List.range_succ_eq_map, List.flatMap_cons]
  exact ⟨_, rfl⟩

/-- The sum of two positions. -/
def tog (a b : List Int) : List Int := srt (nz (a ++ b))
theorem tog_hp {a b : List Int} (ha : ∀ x ∈ a, 0 ≤ x) (hb : ∀ x ∈ b, 0 ≤ x) (hs : sm a + sm b ≤ 20) : Hp 20 (tog a b) := by
  refine hp_srt (fun x hx => ?_) (by rw [sm_append]; exact hs)
  rcases List.mem_append.1 hx with h | h
  · exact ha x h
  · exact hb x h
theorem tog_nil {a : List Int} (h : Hp 20 a) : tog a [] = a := by
  unfold tog
  rw [List.append_nil, nz_self h.1, srt_self h.2.1]
/-- Whether the player to move wins the sums with all box positions. -/
noncomputable def sg (cs : List Int) (L : List (List Int)) (x : List Int) : List Bool := L.map fun p => decide (mz cs (tog x p) ≠ 0)
theorem sg_len (cs : List Int) (L : List (List Int)) (x : List Int) : (sg cs L x).length = L.length := by simp [sg]
/-- The place of the first for which P holds. -/
def fx (P : List Int → Prop) (L : List (List Int)) (n : Int) : Prop :=
  (n = -1 ∧ ∀ j, j < L.length → ¬ P (gl L j)) ∨ ∃ i : Nat, n = i ∧ i < L.length ∧ P (gl L i) ∧ ∀ j, j < i → ¬ P (gl L j)
theorem fx_unique {P : List Int → Prop} {L : List (List Int)} {m n : Int} (h : fx P L m) (k : fx P L n) : m = n := by
  rcases h with ⟨h1, h2⟩ | ⟨i, h1, h2, h3, h4⟩ <;> rcases k with ⟨k1, k2⟩ | ⟨j, k1, k2, k3, k4⟩
  · omega
  · exact absurd k3 (h2 j k2)
  · exact absurd h3 (k2 i h2)
  · rcases Nat.lt_trichotomy i j with e | e | e
    · exact absurd h3 (k4 i e)
    · omega
    · exact absurd k3 (h4 j e)
theorem fx_exists (P : List Int → Prop) (L : List (List Int)) : ∃ n, fx P L n := by
  by_cases h : ∃ i, i < L.length ∧ P (gl L i)
  · obtain ⟨i, hi, hp⟩ := h
    suffices H : ∃ i, i < L.length ∧ P (gl L i) ∧ ∀ j, j < i → ¬ P (gl L j) by
      obtain ⟨i, h1, h2, h3⟩ := H
      exact ⟨i, .inr ⟨i, rfl, h1, h2, h3⟩⟩
    induction i using Nat.strongRecOn with
    | ind i ih =>
      by_cases hn : ∀ j, j < i → ¬ P (gl L j)
      · exact ⟨i, hi, hp, hn⟩
      · have : ∃ j, j < i ∧ P (gl L j) := by
          apply Classical.byContradiction
          intro hh
          exact hn fun j hj hpj => hh ⟨j, hj, hpj⟩
        obtain ⟨j, hj, hpj⟩ := this
        exact ih j hj (by omega) hpj
  · exact ⟨-1, .inl ⟨rfl, fun j hj hp => h ⟨j, hj, hp⟩⟩⟩
/-- The class of a position: the place of the first box position with the same signs. -/
noncomputable def cl (cs : List Int) (L : List (List Int)) (s : List Bool) : Int := Classical.choose (fx_exists (fun p => sg cs L p = s) L)
theorem cl_fx (cs : List Int) (L : List (List Int)) (s : List Bool) : fx (fun p => sg cs L p = s) L (cl cs L s) := Classical.choose_spec (fx_exists (fun p => sg cs L p = s) L)
theorem cl_at {cs : List Int} {L : List (List Int)} {s : List Bool} {i : Nat} (hi : i < L.length) (h : sg cs L (gl L i) = s) (hn : ∀ j, j < i → sg cs L (gl L j) ≠ s) : cl cs L s = i :=
  fx_unique (cl_fx cs L s) (.inr ⟨i, rfl, hi, h, hn⟩)
theorem cl_none {cs : List Int} {L : List (List Int)} {s : List Bool} (h : ∀ j, j < L.length → sg cs L (gl L j) ≠ s) : cl cs L s = -1 := fx_unique (cl_fx cs L s) (.inl ⟨rfl, h⟩)
theorem cl_range (cs : List Int) (L : List (List Int)) (s : List Bool) : -1 ≤ cl cs L s ∧ cl cs L s < L.length := by
  rcases cl_fx cs L s with ⟨h, _⟩ | ⟨i, h, hi, _⟩ <;> omega
/-- The classes of all box positions. -/
noncomputable def quo (cs : List Int) (L : List (List Int)) : List Int := L.map fun p => cl cs L (sg cs L p)
theorem quo_len (cs : List Int) (L : List (List Int)) : (quo cs L).length = L.length := by simp [quo]
theorem quo_gi (cs : List Int) (L : List (List Int)) (i : Nat) (h : i < L.length) : gi (quo cs L) i = cl cs L (sg cs L (gl L i)) := by simp [gi, quo, gl, h]
theorem quo_nat (cs : List Int) (L : List (List Int)) (i : Nat) (h : i < L.length) : ∃ k : Nat, gi (quo cs L) i = k ∧ k ≤ i ∧ sg cs L (gl L k) = sg cs L (gl L i) ∧ ∀ j, j < k → sg cs L (gl L j) ≠ sg cs L (gl L i) := by
  rw [quo_gi cs L i h]
  rcases cl_fx cs L (sg cs L (gl L i)) with ⟨_, h2⟩ | ⟨k, h1, h2, h3, h4⟩
  · exact absurd rfl (h2 i h)
  · refine ⟨k, h1, ?_, h3, h4⟩
    rcases Nat.lt_or_ge i k with e | e
    · exact absurd rfl (h4 i e)
    · exact e
theorem quo_quo (cs : List Int) (L : List (List Int)) (i k : Nat) (h : i < L.length) (hk : gi (quo cs L) i = k) : gi (quo cs L) k = k := by
  obtain ⟨k', e, h1, h2, h3⟩ := quo_nat cs L i h
  obtain rfl : k' = k := by omega
  rw [quo_gi cs L k' (by omega)]
  exact cl_at (by omega) rfl fun j hj => by rw [h2]; exact h3 j hj
/-- Whether box positions of one class are alike lost. -/
theorem quo_lost {cs : List Int} {size many i k : Nat} (hb : size * many ≤ 6) (h : i < (allTo size (many + 1)).length) (hk : gi (quo cs (allTo size (many + 1))) i = k) : mz cs (gl (allTo size (many + 1)) i) = 0 ↔ mz cs (gl (allTo size (many + 1)) k) = 0 := by
  obtain ⟨k', e, h1, h2, h3⟩ := quo_nat cs _ i h
  obtain rfl : k' = k := by omega
  obtain ⟨L, hL⟩ := allTo_head size many
  have hp : ∀ j, j < (allTo size (many + 1)).length → tog (gl (allTo size (many + 1)) j) [] = gl (allTo size (many + 1)) j := fun j hj => tog_nil (allTo_hp (by rw [gl_lt hj]; exact List.getElem_mem hj) hb)
  have e1 := hp i h
  have e2 := hp k' (by omega)
  rw [hL] at h2
  simp only [sg, List.map_cons, List.cons.injEq, decide_eq_decide] at h2
  have h4 := h2.1
  rw [← hL, e1, e2] at h4
  omega
/-- The classes that are lost. -/
noncomputable def los (cs : List Int) (L : List (List Int)) (n : Nat) : List Int := ((List.range n).filter fun i => decide (gi (quo cs L) i = (i : Nat) ∧ mz cs (gl L i) = 0)).map fun (i : Nat) => (i : Int)
theorem los_succ (cs : List Int) (L : List (List Int)) (n : Nat) : los cs L (n + 1) = los cs L n ++ (if gi (quo cs L) n = (n : Nat) ∧ mz cs (gl L n) = 0 then [(n : Int)] else []) := by
  unfold los
  rw [List.range_succ, List.filter_append, List.map_append]
  congr 1
  by_cases h : gi (quo cs L) n = (n : Nat) ∧ mz cs (gl L n) = 0
  · rw [if_pos h, List.filter_cons_of_pos (by simpa using h)]; rfl
  · rw [if_neg h, List.filter_cons_of_neg (by simpa using h)]; rfl
theorem los_mem {cs : List Int} {L : List (List Int)} {n : Nat} {x : Int} : x ∈ los cs L n ↔ ∃ i : Nat, i < n ∧ x = i ∧ gi (quo cs L) i = i ∧ mz cs (gl L i) = 0 := by
  unfold los
  simp only [List.mem_map, List.mem_filter, List.mem_range, decide_eq_true_eq]
  constructor
  · rintro ⟨i, ⟨h1, h2⟩, rfl⟩; exact ⟨i, h1, rfl, h2⟩
  · rintro ⟨i, h1, rfl, h2⟩; exact ⟨i, ⟨h1, h2⟩, rfl⟩
theorem los_sorted (cs : List Int) (L : List (List Int)) (n : Nat) : (los cs L n).Pairwise (· < ·) := by
  unfold los
  rw [List.pairwise_map]
  exact (List.pairwise_lt_range.sublist List.filter_sublist).imp fun h => by omega
theorem los_len (cs : List Int) (L : List (List Int)) (n : Nat) : (los cs L n).length ≤ n := by
  unfold los
  rw [List.length_map]
  exact Nat.le_trans (List.length_filter_le _ _) (by simp)
/-- The same, as the reference puts them together. -/
theorem los_same {cs : List Int} {size many : Nat} (hb : size * many ≤ 6) (x : Int) :
    (∃ i, i < (allTo size (many + 1)).length ∧ mz cs (gl (allTo size (many + 1)) i) = 0 ∧ x = gi (quo cs (allTo size (many + 1))) i) ↔ x ∈ los cs (allTo size (many + 1)) (allTo size (many + 1)).length := by
  rw [los_mem]
  constructor
  · rintro ⟨i, h1, h2, rfl⟩
    obtain ⟨k, e, k1, k2, k3⟩ := quo_nat cs _ i h1
    exact ⟨k, by omega, e, quo_quo cs _ i k h1 e, (quo_lost hb h1 e).1 h2⟩
  · rintro ⟨i, h1, rfl, h2, h3⟩
    exact ⟨i, h1, h3, h2.symm⟩
end Go.Proofs.Ytbledcogbkeneaa
