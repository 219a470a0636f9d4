/- Values of trees as integers over 2^24: plain laws. Conditions: none. -/
import Derived.Test.YtidfbbegjpfjpaaDoorDy1
namespace Go.Proofs.YtidfbbegjpfjpaaDoor
set_option linter.unusedVariables false

/-- X over 2^24 has p places behind the point and is at most q, with p + q at most k. -/
def FitK (X : Int) (k : Int) : Prop := ∃ p q : Nat, (p : Int) + q ≤ k ∧ (∃ t, X = t * 2 ^ (24 - p)) ∧ -((q : Int) * 16777216) ≤ X ∧ X ≤ (q : Int) * 16777216
theorem FitK.mono {X k m : Int} (h : FitK X k) (hk : k ≤ m) : FitK X m := by
  obtain ⟨p, q, h1, h2⟩ := h
  exact ⟨p, q, by omega, h2⟩
theorem FitK.zero : FitK 0 0 := ⟨0, 0, by decide, ⟨0, by simp⟩, by decide, by decide⟩
theorem FitK.pos {X k : Int} (h : FitK X k) : 0 ≤ k := by obtain ⟨p, q, h1, _⟩ := h; omega
theorem FitK.neg {X k : Int} (h : FitK X k) : FitK (-X) k := by
  obtain ⟨p, q, h1, ⟨t, ht⟩, h2, h3⟩ := h
  exact ⟨p, q, h1, ⟨-t, by rw [ht, Int.neg_mul]⟩, by omega, by omega⟩
theorem lift2 {X t : Int} {p p' : Nat} (h : X = t * 2 ^ (24 - p)) (hp : p ≤ p') (hp' : p' ≤ 24) : ∃ u, X = u * 2 ^ (24 - p') :=
  ⟨t * 2 ^ (p' - p), by rw [h, Int.mul_assoc, ← Int.pow_add]; congr 2; omega⟩
theorem FitK.add {X Y k m : Int} (h : FitK X k) (h' : FitK Y m) (hkm : k + m ≤ 24) : FitK (X + Y) (k + m) := by
  have hk := h.pos
  have hm := h'.pos
  obtain ⟨p, q, h1, ⟨t, ht⟩, h2, h3⟩ := h
  obtain ⟨p', q', h1', ⟨t', ht'⟩, h2', h3'⟩ := h'
  obtain ⟨u, hu⟩ := lift2 (p' := max p p') ht (by omega) (by omega)
  obtain ⟨u', hu'⟩ := lift2 (p' := max p p') ht' (by omega) (by omega)
  exact ⟨max p p', q + q', by omega, ⟨u + u', by rw [hu, hu', Int.add_mul]⟩, by omega, by omega⟩
theorem FitK.fits {X k : Int} (h : FitK X k) (hk : k ≤ 1000) : Fits X := by
  obtain ⟨p, q, h1, _, h2, h3⟩ := h
  unfold Fits; omega
theorem le_cancel {a b c : Int} (hc : 1 ≤ c) (h : a * c ≤ b * c) : a ≤ b := Int.le_of_mul_le_mul_right h (by omega)
theorem eq_cancel {a b c : Int} (hc : 1 ≤ c) (h : a * c = b * c) : a = b := Int.le_antisymm (le_cancel hc (by omega)) (le_cancel hc (by omega))
theorem FitK.low {X k : Int} (h : FitK X k) (hk : k ≤ 8) : (nf X).2 ≤ k ∧ -2048 ≤ (nf X).1 ∧ (nf X).1 ≤ 2048 ∧ ((nf X).2 = 0 ∨ (nf X).1 % 2 ≠ 0) := by
  obtain ⟨p, q, h1, ⟨t, ht⟩, h2, h3⟩ := h
  have e : nf X = nrm p t := by rw [ht]; exact nf_sc t p (by omega)
  rw [e]
  have hl := nrm_le p t
  have hc := pow_pos2 (24 - p)
  have e24 : (16777216 : Int) = 2 ^ p * 2 ^ (24 - p) := by rw [← Int.pow_add, show p + (24 - p) = 24 by omega]; rfl
  have hp := pow_le2 p 8 (by omega)
  have hp0 := pow_pos2 p
  have e8 : (2 : Int) ^ 8 = 256 := by decide
  have b1 : t ≤ (q : Int) * 2 ^ p := le_cancel hc (by rw [Int.mul_assoc, ← e24, ← ht]; exact h3)
  have b2 : -((q : Int) * 2 ^ p) ≤ t := le_cancel hc (by rw [Int.neg_mul, Int.mul_assoc, ← e24, ← ht]; exact h2)
  have b3 : (q : Int) * 2 ^ p ≤ q * 256 := Int.mul_le_mul_of_nonneg_left (by omega) (by omega)
  have := nrm_abs p t 2048 (by omega) (by omega)
  exact ⟨by omega, this.1, this.2, hl.2⟩
theorem FitK.good {X k : Int} (h : FitK X k) (hk : k ≤ 8) : goodDyB (nf X).1 (nf X).2 = true := by
  obtain ⟨h1, h2, h3, h4⟩ := h.low hk
  unfold goodDyB
  exact decide_eq_true ⟨by omega, by omega, by omega, by omega, by omega⟩

/-- How many ones make X more than one. -/
def nOn (X : Int) : Nat := if 0 < X then 1 else ((-X) / 16777216).toNat + 2
theorem nOn_iff (X : Int) (m : Nat) (hm : 1 ≤ m) : (16777216 : Int) < X + m * 16777216 ↔ nOn X ≤ m := by
  unfold nOn
  split
  · constructor <;> intro <;> omega
  · constructor <;> intro <;> omega
theorem nOn_pos (X : Int) : 1 ≤ nOn X := by unfold nOn; split <;> omega
/-- The value of an edge L on which stands X. -/
def on (X : Int) : Int := (X / 256 + nOn X * 65536) * 2 ^ (9 - nOn X)
theorem FitK.nOn_le {X k : Int} (h : FitK X k) : (nOn X : Int) ≤ k + 2 := by
  obtain ⟨p, q, h1, _, h2, h3⟩ := h
  unfold nOn
  split <;> omega
theorem FitK.dvd {X k : Int} (h : FitK X k) (hk : k ≤ 8) : X / 256 * 256 = X := by
  obtain ⟨p, q, h1, ⟨t, ht⟩, h2, h3⟩ := h
  obtain ⟨u, hu⟩ := lift2 (p' := 16) ht (by omega) (by omega)
  have e : (2 : Int) ^ (24 - 16) = 256 := by decide
  rw [e] at hu
  omega
theorem on_val {X k : Int} (h : FitK X k) (hk : k ≤ 7) : on X * 2 ^ (nOn X - 1) = X + nOn X * 16777216 := by
  have hd := h.dvd (by omega)
  have hn := h.nOn_le
  have h1 := nOn_pos X
  unfold on
  rw [Int.mul_assoc, ← Int.pow_add, show 9 - nOn X + (nOn X - 1) = 8 by omega, show (2 : Int) ^ 8 = 256 by decide, Int.add_mul, hd]
  omega
theorem on_fit {X k : Int} (h : FitK X k) (hk : k ≤ 7) : FitK (on X) (k + 1) := by
  have hv := on_val h hk
  have hn := h.nOn_le
  obtain ⟨p, q, h1, ⟨t, ht⟩, h2, h3⟩ := h
  by_cases hx : 0 < X
  · have e : nOn X = 1 := by unfold nOn; rw [if_pos hx]
    rw [e] at hv
    simp at hv
    refine ⟨p, q + 1, by omega, ?_, by omega, by omega⟩
    exact ⟨t + 2 ^ p, by rw [hv, Int.add_mul, ← ht, ← Int.pow_add, show p + (24 - p) = 24 by omega]; rfl⟩
  · have e : nOn X = ((-X) / 16777216).toNat + 2 := by unfold nOn; rw [if_neg hx]
    obtain ⟨j, hj⟩ : ∃ j : Nat, (-X) / 16777216 = j := ⟨((-X) / 16777216).toNat, by omega⟩
    have e' : nOn X = j + 2 := by rw [e, hj]; omega
    rw [e', show j + 2 - 1 = j + 1 by omega] at hv
    have hj1 : (j : Int) ≤ q := by omega
    have hc := pow_pos2 (j + 1)
    have hc2 := pow_le2 1 (j + 1) (by omega)
    have hon0 : 0 ≤ on X := le_cancel hc (by rw [hv]; omega)
    have hon1 : on X ≤ 16777216 := by
      have a : on X * 2 ^ 1 ≤ on X * 2 ^ (j + 1) := Int.mul_le_mul_of_nonneg_left hc2 hon0
      rw [hv] at a
      have : on X * 2 ^ 1 = on X * 2 := rfl
      omega
    by_cases hjq : (j : Int) = q
    · have hxq : X = -((q : Int) * 16777216) := by omega
      refine ⟨q, 1, by omega, ⟨1, ?_⟩, by omega, by omega⟩
      refine eq_cancel hc ?_
      have hjn : j = q := by omega
      rw [hv, hxq, hjn, Int.one_mul, ← Int.pow_add, show 24 - q + (q + 1) = 25 by omega]
      have : (2 : Int) ^ 25 = 33554432 := by decide
      omega
    · refine ⟨p + j + 1, 1, by omega, ⟨t + (j + 2 : Nat) * 2 ^ p, ?_⟩, by omega, by omega⟩
      refine eq_cancel hc ?_
      rw [hv, Int.mul_assoc, ← Int.pow_add, show 24 - (p + j + 1) + (j + 1) = 24 - p by omega, Int.add_mul, ← ht, Int.mul_assoc, ← Int.pow_add, show p + (24 - p) = 24 by omega]
      rfl

/-- The value of an edge. -/
def edV (b : Bool) (X : Int) : Int := if b then on X else -on (-X)
theorem edV_fit {b : Bool} {X k : Int} (h : FitK X k) (hk : k ≤ 7) : FitK (edV b X) (k + 1) := by
  unfold edV
  split
  · exact on_fit h hk
  · exact (on_fit h.neg hk).neg

/-! Sums over the edges of a tree with 'up' edges u: slot j holds what stands on edge j - 1. -/
def Rs (u : Nat → Int) (v : Nat → Int) (n : Nat) : Nat → Nat → Int
  | 0, _ => 0
  | m + 1, j => Rs u v n m j + if u (n - 1 - m) + 1 = j then v (n - 1 - m) else 0
def Ss (u : Nat → Int) (v : Nat → Int) : Nat → Nat → Int
  | 0, _ => 0
  | k + 1, j => Ss u v k j + if u k + 1 = j then v k else 0
theorem rs_ss (u v : Nat → Int) (n m j : Nat) (hm : m ≤ n) : Rs u v n m j + Ss u v (n - m) j = Ss u v n j := by
  induction m with
  | zero => show 0 + _ = _; rw [Int.zero_add]; rfl
  | succ m ih =>
    have h := ih (by omega)
    rw [show n - m = (n - 1 - m) + 1 by omega] at h
    have e : Ss u v (n - 1 - m + 1) j = Ss u v (n - 1 - m) j + if u (n - 1 - m) + 1 = j then v (n - 1 - m) else 0 := rfl
    rw [e] at h
    show Rs u v n m j + _ + _ = _
    rw [show n - (m + 1) = n - 1 - m by omega]
    omega
theorem ss_zero (u v : Nat → Int) (j : Nat) (h : ∀ i, i < j → u i < i) (k : Nat) (hk : k ≤ j) : Ss u v k j = 0 := by
  induction k with
  | zero => rfl
  | succ k ih =>
    show Ss u v k j + _ = 0
    rw [ih (by omega), if_neg (by have := h k (by omega); omega)]
    rfl
/-- The values of the slots when the m highest edges are in. -/
def tv (u : Nat → Int) (l : Nat → Bool) (n : Nat) : Nat → Nat → Int
  | 0, _ => 0
  | m + 1, j => tv u l n m j + if u (n - 1 - m) + 1 = j then edV (l (n - 1 - m)) (tv u l n m (n - m)) else 0
/-- How many edges. -/
def tc (u : Nat → Int) (n : Nat) : Nat → Nat → Int
  | 0, _ => 0
  | m + 1, j => tc u n m j + if u (n - 1 - m) + 1 = j then tc u n m (n - m) + 1 else 0
def ev (u : Nat → Int) (l : Nat → Bool) (n i : Nat) : Int := edV (l i) (tv u l n (n - 1 - i) (i + 1))
def ec (u : Nat → Int) (n i : Nat) : Int := tc u n (n - 1 - i) (i + 1) + 1
theorem tv_rs (u : Nat → Int) (l : Nat → Bool) (n m j : Nat) (hm : m ≤ n) : tv u l n m j = Rs u (ev u l n) n m j := by
  induction m generalizing j with
  | zero => rfl
  | succ m ih =>
    show tv u l n m j + _ = Rs u _ n m j + _
    rw [ih j (by omega)]
    congr 2
    show _ = edV _ (tv u l n (n - 1 - (n - 1 - m)) (n - 1 - m + 1))
    rw [show n - 1 - (n - 1 - m) = m by omega, show n - 1 - m + 1 = n - m by omega]
theorem tc_rs (u : Nat → Int) (n m j : Nat) (hm : m ≤ n) : tc u n m j = Rs u (ec u n) n m j := by
  induction m generalizing j with
  | zero => rfl
  | succ m ih =>
    show tc u n m j + _ = Rs u _ n m j + _
    rw [ih j (by omega)]
    congr 2
    show _ = tc u n (n - 1 - (n - 1 - m)) (n - 1 - m + 1) + 1
    rw [show n - 1 - (n - 1 - m) = m by omega, show n - 1 - m + 1 = n - m by omega]
theorem tc_pos (u : Nat → Int) (n m j : Nat) : 0 ≤ tc u n m j := by
  induction m generalizing j with
  | zero => exact Int.le_refl _
  | succ m ih =>
    show 0 ≤ tc u n m j + _
    have h1 := ih j
    have h2 := ih (n - m)
    split <;> omega
def sm (f : Nat → Int) : Nat → Int
  | 0 => 0
  | k + 1 => sm f k + f k
theorem sm_add (f : Nat → Int) (x a : Int) (k : Nat) : sm (fun j => f j + if x = (j : Int) then a else 0) k = sm f k + if 0 ≤ x ∧ x < k then a else 0 := by
  induction k with
  | zero => show (0 : Int) = 0 + _; rw [if_neg (by omega)]; rfl
  | succ k ih =>
    show sm _ k + (f k + _) = sm f k + f k + _
    rw [ih]
    by_cases h1 : x = (k : Int)
    · rw [if_pos h1, if_neg (by omega), if_pos (by omega)]; omega
    · rw [if_neg h1]
      by_cases h2 : 0 ≤ x ∧ x < k
      · rw [if_pos h2, if_pos (by omega)]; omega
      · rw [if_neg h2, if_neg (by omega)]; omega
theorem sm_mem (f : Nat → Int) (hf : ∀ j, 0 ≤ f j) (k j : Nat) (h : j < k) : f j ≤ sm f k := by
  have hp : ∀ k, 0 ≤ sm f k := fun k => by
    induction k with
    | zero => exact Int.le_refl _
    | succ k ih => show 0 ≤ sm f k + f k; have := hf k; omega
  induction k with
  | zero => omega
  | succ k ih =>
    show f j ≤ sm f k + f k
    by_cases e : j = k
    · subst e; have := hp j; omega
    · have := ih (by omega); have := hf k; omega
theorem tc_sum (u : Nat → Int) (n : Nat) (hu : ∀ i, i < n → -1 ≤ u i ∧ u i < i) (m : Nat) (hm : m ≤ n) : sm (tc u n m) (n - m + 1) ≤ m := by
  induction m with
  | zero =>
    have : ∀ k, sm (tc u n 0) k = 0 := fun k => by
      induction k with
      | zero => rfl
      | succ k ih => show sm _ k + 0 = 0; rw [ih]; rfl
    rw [this]; exact Int.le_refl _
  | succ m ih =>
    have h := ih (by omega)
    have e : sm (tc u n m) (n - m + 1) = sm (tc u n m) (n - m) + tc u n m (n - m) := rfl
    rw [e] at h
    have hui := hu (n - 1 - m) (by omega)
    have e2 : sm (tc u n (m + 1)) (n - m) = _ := sm_add (tc u n m) (u (n - 1 - m) + 1) (tc u n m (n - m) + 1) (n - m)
    rw [show n - (m + 1) + 1 = n - m by omega, e2, if_pos (by omega)]
    omega
theorem tc_le (u : Nat → Int) (n : Nat) (hu : ∀ i, i < n → -1 ≤ u i ∧ u i < i) (m j : Nat) (hm : m ≤ n) (hj : j ≤ n - m) : tc u n m j ≤ m :=
  Int.le_trans (sm_mem _ (tc_pos u n m) _ j (by omega)) (tc_sum u n hu m hm)
theorem tv_fit (u : Nat → Int) (l : Nat → Bool) (n : Nat) (hn : n ≤ 8) (hu : ∀ i, i < n → -1 ≤ u i ∧ u i < i) (m j : Nat) (hm : m ≤ n) (hj : j ≤ n - m) : FitK (tv u l n m j) (tc u n m j) := by
  induction m generalizing j with
  | zero => exact FitK.zero
  | succ m ih =>
    show FitK (tv u l n m j + _) (tc u n m j + _)
    have h1 := ih j (by omega) (by omega)
    have h2 := ih (n - m) (by omega) (by omega)
    have hc := tc_le u n hu m (n - m) (by omega) (by omega)
    have hcj := tc_le u n hu (m + 1) j (by omega) (by omega)
    have e : tc u n (m + 1) j = tc u n m j + if u (n - 1 - m) + 1 = j then tc u n m (n - m) + 1 else 0 := rfl
    rw [e] at hcj
    split
    · rename_i hif
      rw [if_pos hif] at hcj
      exact h1.add (edV_fit h2 (by omega)) (by omega)
    · rename_i hif
      rw [if_neg hif] at hcj
      exact h1.add FitK.zero (by omega)
/-- Slot j when all is in. -/
def av (u : Nat → Int) (l : Nat → Bool) (n j : Nat) : Int := tv u l n (n - j) j
theorem ss_av (u : Nat → Int) (l : Nat → Bool) (n : Nat) (hu : ∀ i, i < n → -1 ≤ u i ∧ u i < i) (j : Nat) (hj : j ≤ n) : Ss u (ev u l n) n j = av u l n j := by
  have h := rs_ss u (ev u l n) n (n - j) j (by omega)
  rw [show n - (n - j) = j by omega, ss_zero u _ j (fun i hi => (hu i (by omega)).2) j (Nat.le_refl _)] at h
  rw [← h, Int.add_zero, ← tv_rs u l n (n - j) j (by omega)]
  rfl
theorem ec_fit (u : Nat → Int) (l : Nat → Bool) (n : Nat) (hn : n ≤ 8) (hu : ∀ i, i < n → -1 ≤ u i ∧ u i < i) (i : Nat) (hi : i < n) : FitK (ev u l n i) (ec u n i) ∧ ec u n i ≤ 8 := by
  have hc := tc_le u n hu (n - 1 - i) (i + 1) (by omega) (by omega)
  exact ⟨edV_fit (tv_fit u l n hn hu _ _ (by omega) (by omega)) (by omega), by unfold ec; omega⟩
theorem ss_fit (u : Nat → Int) (l : Nat → Bool) (n : Nat) (hn : n ≤ 8) (hu : ∀ i, i < n → -1 ≤ u i ∧ u i < i) (j : Nat) (hj : j ≤ n) (k : Nat) (hk : k ≤ n) : FitK (Ss u (ev u l n) k j) 8 := by
  have hb : Ss u (ec u n) n j ≤ 8 := by
    have h := rs_ss u (ec u n) n (n - j) j (by omega)
    rw [show n - (n - j) = j by omega, ss_zero u _ j (fun i hi => (hu i (by omega)).2) j (Nat.le_refl _), ← tc_rs u n (n - j) j (by omega)] at h
    have := tc_le u n hu (n - j) j (by omega) (by omega)
    omega
  have hmono : ∀ k d, Ss u (ec u n) k j ≤ Ss u (ec u n) (k + d) j := fun k d => by
    induction d with
    | zero => exact Int.le_refl _
    | succ d ih =>
      have h0 : 0 ≤ ec u n (k + d) := by have := tc_pos u n (n - 1 - (k + d)) (k + d + 1); unfold ec; omega
      show _ ≤ Ss u (ec u n) (k + d) j + if u (k + d) + 1 = j then ec u n (k + d) else 0
      split <;> omega
  have hmk : ∀ k, k ≤ n → Ss u (ec u n) k j ≤ 8 := fun k hk => by
    have := hmono k (n - k)
    rw [show k + (n - k) = n by omega] at this
    omega
  have key : ∀ k, k ≤ n → FitK (Ss u (ev u l n) k j) (Ss u (ec u n) k j) := fun k hk => by
    induction k with
    | zero => exact FitK.zero
    | succ k ih =>
      have h1 := ih (by omega)
      have h2 := (ec_fit u l n hn hu k (by omega)).1
      have hle := hmk (k + 1) hk
      have e : Ss u (ec u n) (k + 1) j = Ss u (ec u n) k j + if u k + 1 = j then ec u n k else 0 := rfl
      rw [e] at hle ⊢
      show FitK (Ss u (ev u l n) k j + _) _
      split
      · rename_i hif
        rw [if_pos hif] at hle
        exact h1.add h2 (by omega)
      · rename_i hif
        rw [if_neg hif] at hle
        exact h1.add FitK.zero (by omega)
  exact (key k hk).mono (hmk k hk)
end Go.Proofs.YtidfbbegjpfjpaaDoor
