/- Options of a position by the first heaps; its value by a list. Conditions: none. -/
import Derived.Test.YtbledcogbkeneaaMz0
namespace Go.Proofs.Ytbledcogbkeneaa
open Go.RowKit
set_option linter.unusedVariables false

/-- What the moves of the first n heaps leave. -/
def optU (cs p : List Int) (n : Nat) (q : List Int) : Prop := ∃ i, i < n ∧ i < p.length ∧ ∃ mv, isMv cs (gi p i).toNat mv ∧ q = aft p i mv
theorem optU_zero (cs p q : List Int) : ¬ optU cs p 0 q := fun ⟨i, h, _⟩ => absurd h (by omega)
theorem optU_succ (cs p q : List Int) (n : Nat) (hn : n < p.length) : optU cs p (n + 1) q ↔ optU cs p n q ∨ ∃ mv, isMv cs (gi p n).toNat mv ∧ q = aft p n mv := by
  constructor
  · rintro ⟨i, h1, h2, mv, h3, h4⟩
    rcases Nat.lt_or_ge i n with h | h
    · exact .inl ⟨i, h, h2, mv, h3, h4⟩
    · obtain rfl : i = n := by omega
      exact .inr ⟨mv, h3, h4⟩
  · rintro (⟨i, h1, h2, r⟩ | r)
    · exact ⟨i, by omega, h2, r⟩
    · exact ⟨n, by omega, hn, r⟩
theorem optU_skip (cs p q : List Int) (n : Nat) (h0 : 0 < n) (hn : n < p.length) (h : gi p n = gi p (n - 1)) : optU cs p (n + 1) q ↔ optU cs p n q := by
  rw [optU_succ cs p q n hn]
  refine ⟨fun h' => ?_, .inl⟩
  rcases h' with h' | ⟨mv, h1, h2⟩
  · exact h'
  · exact ⟨n - 1, by omega, by omega, mv, by rw [← h]; exact h1, by rw [h2, aft_same h0 hn h]⟩
theorem optU_end (cs p q : List Int) : optU cs p p.length q ↔ optP cs p q :=
  ⟨fun ⟨i, _, h2, r⟩ => ⟨i, h2, r⟩, fun ⟨i, h2, r⟩ => ⟨i, h2, h2, r⟩⟩
theorem mz_list {N : Nat} {cs p xs : List Int} (hp : Hp N p) (hm : ∀ x : Int, x ∈ xs ↔ ∃ q, optP cs p q ∧ x = (mz cs q : Nat)) :
    (xs = [] → mz cs p = 1) ∧ (xs ≠ [] → ∀ n : Nat, (∀ j : Nat, j < n → (j : Int) ∈ xs) → (n : Int) ∉ xs → mz cs p = n) := by
  refine ⟨fun h => mz_one hp ?_, fun h n h1 h2 => ?_⟩
  · rintro ⟨q, hq⟩
    have := (hm (mz cs q : Nat)).2 ⟨q, hq, rfl⟩
    rw [h] at this
    cases this
  · have hq : ∃ q, optP cs p q := by
      obtain ⟨x, hx⟩ := List.exists_mem_of_ne_nil _ h
      obtain ⟨q, hq, _⟩ := (hm x).1 hx
      exact ⟨q, hq⟩
    have key : ∀ x : Nat, (x : Int) ∈ xs ↔ ∃ q, optP cs p q ∧ x = mz cs q := fun x => by
      rw [hm]
      exact ⟨fun ⟨q, a, b⟩ => ⟨q, a, by omega⟩, fun ⟨q, a, b⟩ => ⟨q, a, by omega⟩⟩
    refine isMex_unique (mz_mex hp hq) ⟨fun hh => h2 ((key n).2 hh), fun j hj => (key j).1 (h1 j hj)⟩
theorem mz_le20 {cs p : List Int} (hp : Hp 20 p) : mz cs p ≤ 21 := mz_le hp

theorem srt_self {xs : List Int} (h : xs.Pairwise (· ≤ ·)) : srt xs = xs := (srt_of h (List.Perm.refl _)).symm
theorem mem_take_gi {l : List Int} {k : Nat} {a : Int} (h : a ∈ l.take k) : ∃ j, j < k ∧ j < l.length ∧ gi l j = a := by
  rw [List.mem_take_iff_getElem] at h
  obtain ⟨j, hj, rfl⟩ := h
  exact ⟨j, by omega, by omega, by simp [gi, show j < l.length by omega]⟩
theorem mem_drop_gi {l : List Int} {k : Nat} {a : Int} (h : a ∈ l.drop k) : ∃ j, k ≤ j ∧ j < l.length ∧ gi l j = a := by
  rw [List.mem_drop_iff_getElem] at h
  obtain ⟨j, hj, rfl⟩ := h
  exact ⟨k + j, by omega, by omega, by simp [gi, show k + j < l.length by omega]⟩
theorem sorted_gi {l : List Int} (h : l.Pairwise (· ≤ ·)) {i j : Nat} (hij : i ≤ j) (hj : j < l.length) : gi l i ≤ gi l j := by
  rcases Nat.eq_or_lt_of_le hij with e | e
  · rw [e]; exact Int.le_refl _
  · have := List.pairwise_iff_getElem.1 h i j (by omega) hj e
    simpa [gi, hj, show i < l.length by omega] using this
theorem ins_sorted {l : List Int} (h : l.Pairwise (· ≤ ·)) (x : Int) (k : Nat) (h1 : ∀ j, j < k → gi l j < x) (h2 : k < l.length → x ≤ gi l k) : (l.take k ++ [x] ++ l.drop k).Pairwise (· ≤ ·) := by
  rw [List.append_assoc, List.pairwise_append]
  refine ⟨h.sublist (List.take_sublist _ _), ?_, fun a ha b hb => ?_⟩
  · rw [List.singleton_append, List.pairwise_cons]
    refine ⟨fun b hb => ?_, h.sublist (List.drop_sublist _ _)⟩
    obtain ⟨j, j1, j2, rfl⟩ := mem_drop_gi hb
    have := h2 (by omega)
    have := sorted_gi h j1 j2
    omega
  · obtain ⟨i, i1, i2, rfl⟩ := mem_take_gi ha
    have := h1 i i1
    rw [List.singleton_append, List.mem_cons] at hb
    rcases hb with rfl | hb
    · omega
    · obtain ⟨j, j1, j2, rfl⟩ := mem_drop_gi hb
      have := sorted_gi h (show i ≤ j by omega) j2
      omega
theorem srt_ins (xs : List Int) (x : Int) (k : Nat) (h1 : ∀ j, j < k → gi (srt xs) j < x) (h2 : k < (srt xs).length → x ≤ gi (srt xs) k) : srt (xs ++ [x]) = (srt xs).take k ++ [x] ++ (srt xs).drop k := by
  refine (srt_of (ins_sorted (srt_le xs) x k h1 h2) ?_).symm
  have e1 : ((srt xs).take k ++ [x] ++ (srt xs).drop k).Perm ((srt xs).take k ++ (srt xs).drop k ++ [x]) := by
    rw [List.append_assoc, List.append_assoc]
    exact List.Perm.append_left _ List.perm_append_comm
  refine e1.trans ?_
  rw [List.take_append_drop]
  exact (srt_perm xs).append_right _
/-- Without empty heaps. -/
def nz (xs : List Int) : List Int := xs.filter fun x => decide (x ≠ 0)
theorem nz_snoc (xs : List Int) (x : Int) : nz (xs ++ [x]) = if x = 0 then nz xs else nz xs ++ [x] := by
  unfold nz
  rw [List.filter_append]
  by_cases h : x = 0 <;> simp [h]
theorem nz_append (a b : List Int) : nz (a ++ b) = nz a ++ nz b := by unfold nz; rw [List.filter_append]
theorem nz_self {xs : List Int} (h : ∀ x ∈ xs, 1 ≤ x) : nz xs = xs := by
  unfold nz
  rw [List.filter_eq_self]
  intro x hx
  have := h x hx
  simp; omega
theorem nz_len (xs : List Int) : (nz xs).length ≤ xs.length := List.length_filter_le _ _
theorem sm_nz (xs : List Int) : sm (nz xs) = sm xs := by
  induction xs with
  | nil => rfl
  | cons x xs ih =>
    unfold nz at ih ⊢
    rw [List.filter_cons]
    split
    · simp only [sm, ih]
    · rename_i h
      have h : x = 0 := by simpa using h
      simp only [sm, ih, h]; omega
theorem take_succ_gi (xs : List Int) (i : Nat) (h : i < xs.length) : xs.take (i + 1) = xs.take i ++ [gi xs i] := by
  rw [List.take_add_one, List.getElem?_eq_getElem h]
  simp [gi, h]
/-- Heaps in order, none below 0 or above 300, at most 20. -/
def goodH (xs : List Int) : Prop := xs.length ≤ 20 ∧ (∀ x ∈ xs, 0 ≤ x ∧ x ≤ 300) ∧ xs.Pairwise (· ≤ ·)
theorem hp_nz {xs : List Int} (h : goodH xs) (hs : sm xs ≤ 20) : Hp 20 (nz xs) := by
  refine ⟨fun x hx => ?_, h.2.2.sublist List.filter_sublist, by rw [sm_nz]; exact hs⟩
  have h1 := List.mem_filter.1 hx
  have h2 := h.2.1 x h1.1
  have h3 : x ≠ 0 := by simpa using h1.2
  omega
theorem hp_srt {xs : List Int} (h : ∀ x ∈ xs, 0 ≤ x) (hs : sm xs ≤ 20) : Hp 20 (srt (nz xs)) := by
  refine ⟨fun x hx => ?_, srt_le _, by rw [sm_srt, sm_nz]; exact hs⟩
  have h1 := List.mem_filter.1 (mem_srt.1 hx)
  have h2 := h x h1.1
  have h3 : x ≠ 0 := by simpa using h1.2
  omega
end Go.Proofs.Ytbledcogbkeneaa
