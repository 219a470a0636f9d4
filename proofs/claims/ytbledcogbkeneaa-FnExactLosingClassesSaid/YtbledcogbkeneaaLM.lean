/- Lists of numbers in the order of HeapMoves, sorted lists of them, and what a move may leave. Conditions: none. -/
import Derived.Test.YtbledcogbkeneaaVM
namespace Go.Proofs.Ytbledcogbkeneaa
open Go.RowKit
set_option linter.unusedVariables false

def cmpL : List Int → List Int → Int
  | [], [] => 0
  | [], _ :: _ => -1
  | _ :: _, [] => 1
  | a :: as, b :: bs => if a = b then cmpL as bs else if a < b then -1 else 1
theorem cmpL_self (a : List Int) : cmpL a a = 0 := by
  induction a with
  | nil => rfl
  | cons a as ih => simp [cmpL, ih]
theorem cmpL_zero : ∀ {a b : List Int}, cmpL a b = 0 → a = b
  | [], [], _ => rfl
  | [], _ :: _, h => by simp [cmpL] at h
  | _ :: _, [], h => by simp [cmpL] at h
  | a :: as, b :: bs, h => by
    unfold cmpL at h
    by_cases hab : a = b
    · rw [if_pos hab] at h
      rw [hab, cmpL_zero h]
    · rw [if_neg hab] at h
      split at h <;> omega
theorem cmpL_three : ∀ (a b : List Int), cmpL a b = -1 ∨ cmpL a b = 0 ∨ cmpL a b = 1
  | [], [] => by simp [cmpL]
  | [], _ :: _ => by simp [cmpL]
  | _ :: _, [] => by simp [cmpL]
  | a :: as, b :: bs => by
    unfold cmpL
    by_cases hab : a = b
    · rw [if_pos hab]; exact cmpL_three as bs
    · rw [if_neg hab]
      by_cases hlt : a < b
      · rw [if_pos hlt]; simp
      · rw [if_neg hlt]; simp
theorem cmpL_swap : ∀ (a b : List Int), cmpL b a = - cmpL a b
  | [], [] => by simp [cmpL]
  | [], _ :: _ => by simp [cmpL]
  | _ :: _, [] => by simp [cmpL]
  | a :: as, b :: bs => by
    unfold cmpL
    by_cases hab : a = b
    · subst hab
      simp [cmpL_swap as bs]
    · rw [if_neg hab, if_neg (Ne.symm hab)]
      by_cases hlt : a < b
      · rw [if_pos hlt, if_neg (by omega)]; rfl
      · rw [if_neg hlt, if_pos (by omega)]
theorem cmpL_trans : ∀ {a b c : List Int}, cmpL a b < 0 → cmpL b c < 0 → cmpL a c < 0
  | [], [], _, h, _ => by simp [cmpL] at h
  | [], _ :: _, [], _, h => by simp [cmpL] at h
  | [], _ :: _, _ :: _, _, _ => by simp [cmpL]
  | _ :: _, [], _, h, _ => by simp [cmpL] at h
  | _ :: _, _ :: _, [], _, h => by simp [cmpL] at h
  | a :: as, b :: bs, c :: cs, h, k => by
    unfold cmpL at h k ⊢
    by_cases hab : a = b
    · subst hab
      rw [if_pos rfl] at h
      by_cases hac : a = c
      · rw [if_pos hac] at k ⊢
        exact cmpL_trans h k
      · rw [if_neg hac] at k ⊢
        exact k
    · rw [if_neg hab] at h
      have h1 : a < b := by
        apply Classical.byContradiction; intro hn; rw [if_neg hn] at h; omega
      by_cases hbc : b = c
      · subst hbc
        rw [if_neg hab, if_pos h1]; omega
      · rw [if_neg hbc] at k
        have h2 : b < c := by
          apply Classical.byContradiction; intro hn; rw [if_neg hn] at k; omega
        rw [if_neg (by omega), if_pos (by omega)]; omega
/-- The comparison from place i on. -/
theorem cmpL_drop (a b : List Int) : ∀ i, i ≤ a.length → i ≤ b.length → (∀ j, j < i → gi a j = gi b j) → cmpL a b = cmpL (a.drop i) (b.drop i) := by
  induction a generalizing b with
  | nil => intro i hi _ _; simp at hi; subst hi; simp
  | cons x xs ih =>
    intro i hi hi' h
    cases i with
    | zero => simp
    | succ i =>
      cases b with
      | nil => simp at hi'
      | cons y ys =>
        have h0 := h 0 (by omega)
        simp only [gi, List.getD_cons_zero] at h0
        simp only [List.drop_succ_cons]
        rw [cmpL, if_pos h0]
        refine ih ys i (by simpa using hi) (by simpa using hi') fun j hj => ?_
        have := h (j + 1) (by omega)
        simpa [gi] using this
theorem drop_gi (a : List Int) (i : Nat) (h : i < a.length) : a.drop i = gi a i :: a.drop (i + 1) := by
  rw [List.drop_eq_getElem_cons h]; simp [gi, h]
theorem cmpL_at (a b : List Int) (i : Nat) (h1 : i < a.length) (h2 : i < b.length) (hs : ∀ j, j < i → gi a j = gi b j) (hne : gi a i ≠ gi b i) :
    cmpL a b = if gi a i < gi b i then -1 else 1 := by
  rw [cmpL_drop a b i (by omega) (by omega) hs, drop_gi a i h1, drop_gi b i h2, cmpL, if_neg hne]
theorem cmpL_end (a b : List Int) (i : Nat) (h1 : i ≤ a.length) (h2 : i ≤ b.length) (he : i = a.length ∨ i = b.length) (hs : ∀ j, j < i → gi a j = gi b j) :
    cmpL a b = if a.length < b.length then -1 else if b.length < a.length then 1 else 0 := by
  rw [cmpL_drop a b i h1 h2 hs]
  rcases Nat.lt_trichotomy a.length b.length with h | h | h
  · have hi : i = a.length := by omega
    rw [if_pos h, hi, List.drop_length, drop_gi b a.length h]; rfl
  · have hi : i = a.length := by omega
    rw [if_neg (by omega), if_neg (by omega), hi, List.drop_length, h, List.drop_length]; rfl
  · have hi : i = b.length := by omega
    rw [if_neg (by omega), if_pos h, hi, List.drop_length, drop_gi a b.length h]; rfl

/-- One list is ahead of another: shorter, or less at the first unlike number. -/
def aheadB (a b : List Int) : Bool := if a.length = b.length then decide (cmpL a b < 0) else decide (a.length < b.length)
theorem ahead_irrefl (a : List Int) : aheadB a a = false := by simp [aheadB, cmpL_self]
theorem ahead_trans {a b c : List Int} (h : aheadB a b = true) (k : aheadB b c = true) : aheadB a c = true := by
  unfold aheadB at *
  split at h <;> split at k <;> simp only [decide_eq_true_eq] at h k
  · rw [if_pos (by omega)]; simp only [decide_eq_true_eq]; exact cmpL_trans h k
  · rw [if_neg (by omega)]; simp only [decide_eq_true_eq]; omega
  · rw [if_neg (by omega)]; simp only [decide_eq_true_eq]; omega
  · rw [if_neg (by omega)]; simp only [decide_eq_true_eq]; omega
theorem ahead_tri {a b : List Int} (h : aheadB a b = false) (k : aheadB b a = false) : a = b := by
  unfold aheadB at *
  by_cases hl : a.length = b.length
  · rw [if_pos hl] at h
    rw [if_pos hl.symm] at k
    simp only [decide_eq_false_iff_not] at h k
    rw [cmpL_swap a b] at k
    exact cmpL_zero (by omega)
  · rw [if_neg hl] at h
    rw [if_neg (Ne.symm hl)] at k
    simp only [decide_eq_false_iff_not] at h k
    omega
theorem ahead_asymm {a b : List Int} (h : aheadB a b = true) : aheadB b a = false := by
  cases k : aheadB b a
  · rfl
  · have := ahead_trans h k
    rw [ahead_irrefl] at this
    cases this

def Sorted (l : List (List Int)) : Prop := l.Pairwise fun a b => aheadB a b = true
/-- A list put to its place, once. -/
def putL : List (List Int) → List Int → List (List Int)
  | [], x => [x]
  | y :: ys, x => if aheadB y x = true then y :: putL ys x else if y = x then y :: ys else x :: y :: ys
theorem mem_putL {l : List (List Int)} {x y : List Int} : y ∈ putL l x ↔ y ∈ l ∨ y = x := by
  induction l with
  | nil => simp [putL]
  | cons z zs ih =>
    unfold putL
    split
    · simp only [List.mem_cons, ih]
      constructor
      · rintro (h | h | h)
        · exact .inl (.inl h)
        · exact .inl (.inr h)
        · exact .inr h
      · rintro ((h | h) | h)
        · exact .inl h
        · exact .inr (.inl h)
        · exact .inr (.inr h)
    · split
      · rename_i hzx
        subst hzx
        constructor
        · intro h; exact .inl h
        · rintro (h | h)
          · exact h
          · rw [h]; exact List.mem_cons_self
      · simp only [List.mem_cons]
        constructor
        · rintro (h | h | h)
          · exact .inr h
          · exact .inl (.inl h)
          · exact .inl (.inr h)
        · rintro ((h | h) | h)
          · exact .inr (.inl h)
          · exact .inr (.inr h)
          · exact .inl h
theorem sorted_putL {l : List (List Int)} {x : List Int} (h : Sorted l) : Sorted (putL l x) := by
  induction l with
  | nil => simp [putL, Sorted]
  | cons z zs ih =>
    unfold Sorted at h ⊢
    rw [List.pairwise_cons] at h
    unfold putL
    split
    · rename_i hzx
      rw [List.pairwise_cons]
      refine ⟨fun y hy => ?_, ih h.2⟩
      rcases mem_putL.1 hy with hy | rfl
      · exact h.1 y hy
      · exact hzx
    · rename_i hzx
      split
      · rw [List.pairwise_cons]; exact h
      · rename_i hne
        have hxz : aheadB x z = true := by
          cases hk : aheadB x z
          · exact absurd (ahead_tri (by simpa using hzx) hk) hne
          · rfl
        rw [List.pairwise_cons, List.pairwise_cons]
        refine ⟨fun y hy => ?_, h⟩
        rcases List.mem_cons.1 hy with rfl | hy
        · exact hxz
        · exact ahead_trans hxz (h.1 y hy)
theorem sorted_unique : ∀ {l m : List (List Int)}, Sorted l → Sorted m → (∀ x, x ∈ l ↔ x ∈ m) → l = m
  | [], [], _, _, _ => rfl
  | [], y :: ys, _, _, h => absurd ((h y).2 List.mem_cons_self) (by simp)
  | x :: xs, [], _, _, h => absurd ((h x).1 List.mem_cons_self) (by simp)
  | x :: xs, y :: ys, hl, hm, h => by
    unfold Sorted at hl hm
    rw [List.pairwise_cons] at hl hm
    have hxy : x = y := by
      rcases List.mem_cons.1 ((h x).1 List.mem_cons_self) with h1 | h1
      · exact h1
      · rcases List.mem_cons.1 ((h y).2 List.mem_cons_self) with h2 | h2
        · exact h2.symm
        · have h3 := ahead_asymm (hm.1 x h1)
          rw [hl.1 y h2] at h3
          cases h3
    subst hxy
    congr 1
    refine sorted_unique hl.2 hm.2 fun z => ?_
    constructor
    · intro hz
      rcases List.mem_cons.1 ((h z).1 (List.mem_cons_of_mem _ hz)) with h1 | h1
      · subst h1
        have := hl.1 z hz
        rw [ahead_irrefl] at this
        cases this
      · exact h1
    · intro hz
      rcases List.mem_cons.1 ((h z).2 (List.mem_cons_of_mem _ hz)) with h1 | h1
      · subst h1
        have := hm.1 z hz
        rw [ahead_irrefl] at this
        cases this
      · exact h1
/-- putL as the text does it: k is the first place whose list isn't ahead. -/
theorem putL_at (l : List (List Int)) (x : List Int) (k : Nat) (hk : k ≤ l.length) (h1 : ∀ i (h : i < l.length), i < k → aheadB l[i] x = true) (h2 : ∀ h : k < l.length, aheadB l[k] x = false) :
    putL l x = if h : k < l.length then (if l[k] = x then l else l.take k ++ [x] ++ l.drop k) else l ++ [x] := by
  induction l generalizing k with
  | nil => simp at hk; subst hk; simp [putL]
  | cons z zs ih =>
    cases k with
    | zero =>
      have := h2 (by simp)
      simp only [List.getElem_cons_zero] at this
      unfold putL
      rw [if_neg (by rw [this]; simp)]
      simp
    | succ k =>
      have h0 := h1 0 (by simp) (by omega)
      simp only [List.getElem_cons_zero] at h0
      unfold putL
      rw [if_pos h0, ih k (by simpa using hk) (fun i h hi => h1 (i + 1) (Nat.succ_lt_succ h) (by omega)) (fun h => h2 (Nat.succ_lt_succ h))]
      by_cases hlt : k < zs.length
      · simp only [hlt, ↓reduceDIte, List.length_cons, Nat.add_lt_add_iff_right, List.getElem_cons_succ]
        by_cases hx : zs[k] = x
        · simp [hx]
        · simp [hx]
      · simp [hlt]

/-- What a move may leave of a heap of n, by the digits before k. -/
def mvD (d : Int) (rest a0 : Nat) (xs : List Int) : Prop :=
  (d % 2 = 1 ∧ rest = 0 ∧ xs = []) ∨ (d / 2 % 2 = 1 ∧ 0 < rest ∧ xs = [(rest : Int)]) ∨
  (d / 4 % 2 = 1 ∧ ∃ a : Nat, 1 ≤ a ∧ a < a0 ∧ 2 * a ≤ rest ∧ xs = [(a : Int), ((rest - a : Nat) : Int)])
def mvTo (code : List Int) (n k : Nat) (xs : List Int) : Prop := ∃ j, j < k ∧ j < code.length ∧ j + 1 ≤ n ∧ mvD (gi code j) (n - (j + 1)) (n + 1) xs
def isMv (code : List Int) (n : Nat) (xs : List Int) : Prop := mvTo code n code.length xs
theorem mvTo_zero (cs : List Int) (n : Nat) (xs : List Int) : ¬ mvTo cs n 0 xs := fun ⟨j, hj, _⟩ => absurd hj (by omega)
theorem mvTo_succ (cs : List Int) (n j : Nat) (xs : List Int) (hj : j < cs.length) (hk : j + 1 ≤ n) : mvTo cs n (j + 1) xs ↔ mvTo cs n j xs ∨ mvD (gi cs j) (n - (j + 1)) (n + 1) xs := by
  constructor
  · rintro ⟨i, h1, h2, h3, h4⟩
    by_cases hij : i = j
    · subst hij; exact .inr h4
    · exact .inl ⟨i, by omega, h2, h3, h4⟩
  · rintro (⟨i, h1, h2, h3, h4⟩ | h)
    · exact ⟨i, by omega, h2, h3, h4⟩
    · exact ⟨j, by omega, hj, hk, h⟩
theorem mvTo_end (cs : List Int) (n j : Nat) (xs : List Int) (h : j = cs.length ∨ n ≤ j) : mvTo cs n j xs ↔ isMv cs n xs := by
  constructor
  · rintro ⟨i, h1, h2, h3, h4⟩; exact ⟨i, h2, h2, h3, h4⟩
  · rintro ⟨i, h1, h2, h3, h4⟩
    refine ⟨i, ?_, h2, h3, h4⟩
    rcases h with h | h <;> omega
theorem mvD_end (d : Int) (r t a0 : Nat) (xs : List Int) (h : ¬ (d / 4 % 2 = 1) ∨ r < 2 * t) (ht : t ≤ a0) : mvD d r t xs ↔ mvD d r a0 xs := by
  constructor
  · rintro (h1 | h1 | ⟨h1, a, h2, h3, h4, h5⟩)
    · exact .inl h1
    · exact .inr (.inl h1)
    · exact .inr (.inr ⟨h1, a, h2, by omega, h4, h5⟩)
  · rintro (h1 | h1 | ⟨h1, a, h2, h3, h4, h5⟩)
    · exact .inl h1
    · exact .inr (.inl h1)
    · rcases h with h | h
      · exact absurd h1 h
      · exact .inr (.inr ⟨h1, a, h2, by omega, h4, h5⟩)
theorem mvD_succ (d : Int) (r t : Nat) (xs : List Int) (h : d / 4 % 2 = 1) (ht : 1 ≤ t) (hr : 2 * t ≤ r) : mvD d r (t + 1) xs ↔ mvD d r t xs ∨ xs = [(t : Int), ((r - t : Nat) : Int)] := by
  constructor
  · rintro (h1 | h1 | ⟨h1, a, h2, h3, h4, h5⟩)
    · exact .inl (.inl h1)
    · exact .inl (.inr (.inl h1))
    · by_cases hat : a = t
      · subst hat; exact .inr h5
      · exact .inl (.inr (.inr ⟨h1, a, h2, by omega, h4, h5⟩))
  · rintro ((h1 | h1 | ⟨h1, a, h2, h3, h4, h5⟩) | h1)
    · exact .inl h1
    · exact .inr (.inl h1)
    · exact .inr (.inr ⟨h1, a, h2, by omega, h4, h5⟩)
    · exact .inr (.inr ⟨h, t, ht, by omega, hr, h1⟩)
end Go.Proofs.Ytbledcogbkeneaa
