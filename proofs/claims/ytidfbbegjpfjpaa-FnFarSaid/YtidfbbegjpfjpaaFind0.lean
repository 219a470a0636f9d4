/- Octal periodicity: values that repeat far enough repeat for ever. Conditions: none. -/
import Derived.Test.YtidfbbegjpfjpaaProved
namespace Go.Proofs.Ytidfbbegjpfjpaa
open Go.RowKit
set_option linter.unusedVariables false

theorem optD_shift {d : Int} {v : List Nat} {p l r a0 b0 x : Nat} (hr : 2 * p + l < r) (hp : ∀ i, p ≤ i → i ≤ r → gn v (i + l) = gn v i) (ha : r < a0) (hb : r + l < b0) :
    optD d v (r + l) b0 x ↔ optD d v r a0 x := by
  constructor
  · rintro (⟨_, h, _⟩ | ⟨h1, _, h2⟩ | ⟨h1, a, h2, h3, h4, h5⟩)
    · omega
    · exact .inr (.inl ⟨h1, by omega, by rw [h2, hp r (by omega) (by omega)]⟩)
    · have e := hp (r - a) (by omega) (by omega)
      rw [show r - a + l = r + l - a by omega] at e
      rw [e] at h5
      by_cases h6 : 2 * a ≤ r
      · exact .inr (.inr ⟨h1, a, h2, by omega, h6, h5⟩)
      · refine .inr (.inr ⟨h1, r - a, by omega, by omega, by omega, ?_⟩)
        rw [h5, show r - (r - a) = a by omega, Nat.xor_comm]
  · rintro (⟨_, h, _⟩ | ⟨h1, _, h2⟩ | ⟨h1, a, h2, h3, h4, h5⟩)
    · omega
    · exact .inr (.inl ⟨h1, by omega, by rw [h2, hp r (by omega) (by omega)]⟩)
    · have e := hp (r - a) (by omega) (by omega)
      rw [show r - a + l = r + l - a by omega] at e
      exact .inr (.inr ⟨h1, a, h2, by omega, by omega, by rw [h5, e]⟩)
theorem opt_shift {cs : List Int} {v : List Nat} {p l j : Nat} (hj : 2 * p + l + cs.length < j) (hp : ∀ i, p ≤ i → i < j → gn v (i + l) = gn v i) (x : Nat) :
    isOpt cs v (j + l) x ↔ isOpt cs v j x := by
  have key : ∀ i, i < cs.length → (optD (gi cs i) v (j + l - (i + 1)) (j + l + 1) x ↔ optD (gi cs i) v (j - (i + 1)) (j + 1) x) := by
    intro i hi
    rw [show j + l - (i + 1) = (j - (i + 1)) + l by omega]
    exact optD_shift (p := p) (by omega) (fun t h1 h2 => hp t h1 (by omega)) (by omega) (by omega)
  constructor
  · rintro ⟨i, h1, h2, h3, h4⟩
    exact ⟨i, h1, h2, by omega, (key i h1).1 h4⟩
  · rintro ⟨i, h1, h2, h3, h4⟩
    exact ⟨i, h1, h2, by omega, (key i h1).2 h4⟩
theorem periodic {cs : List Int} {v : List Nat} {p l : Nat} (hv : isVals cs v) (hl : 1 ≤ l) (hrep : ∀ j, p ≤ j → j + l ≤ 2 * p + 2 * l + cs.length → gn v (j + l) = gn v j) :
    ∀ j, p ≤ j → j + l < v.length → gn v (j + l) = gn v j := by
  intro j
  induction j using Nat.strongRecOn with
  | ind j ih =>
    intro h1 h2
    by_cases h3 : j + l ≤ 2 * p + 2 * l + cs.length
    · exact hrep j h1 h3
    · refine isMex_unique (isMex_congr (fun x => opt_shift (p := p) (by omega) (fun i hi1 hi2 => ih i hi2 hi1 (by omega)) x) (hv (j + l) h2)) (hv j (by omega))
theorem small_of {v : List Nat} {p l m : Nat} (hl : 1 ≤ l) (hm : p + l ≤ m) (hper : ∀ j, p ≤ j → j + l < v.length → gn v (j + l) = gn v j) (hs : ∀ i, i ≤ m → gn v i ≤ 255) :
    ∀ i, i < v.length → gn v i ≤ 255 := by
  intro i
  induction i using Nat.strongRecOn with
  | ind i ih =>
    intro h1
    by_cases h2 : i ≤ m
    · exact hs i h2
    · have := hper (i - l) (by omega) (by omega)
      rw [show i - l + l = i by omega] at this
      rw [this]
      exact ih (i - l) (by omega) (by omega)
theorem repB_iff {cs : List Int} {n p l : Nat} : repB (nats (V cs (n + 1))) p l = true ↔ ∀ j, p ≤ j → j + l ≤ n → gn (V cs (n + 1)) j = gn (V cs (n + 1)) (j + l) := by
  rw [repB, decide_eq_true_eq, setl_le, nats_len, V_len]
  constructor
  · intro h j h1 h2
    have := h j h1 (by omega)
    rw [gi_nats, gi_nats] at this
    omega
  · intro h j h1 h2
    rw [gi_nats, gi_nats, h j h1 (by omega)]
theorem found_per {cs : List Int} {M p l : Nat} (hl : 1 ≤ l) (hn : 2 * p + 2 * l + cs.length ≤ M) (hr : repB (nats (V cs (2 * p + 2 * l + cs.length + 1))) p l = true) :
    ∀ j, p ≤ j → j + l ≤ M → gn (V cs (M + 1)) (j + l) = gn (V cs (M + 1)) j := by
  have hr := repB_iff.1 hr
  intro j h1 h2
  refine periodic (V_vals cs (M + 1)) hl (p := p) ?_ j h1 (by rw [V_len]; omega)
  intro i hi1 hi2
  have := hr i hi1 hi2
  rw [V_gn cs (show i + l < M + 1 by omega) (show i + l < 2 * p + 2 * l + cs.length + 1 by omega), V_gn cs (show i < M + 1 by omega) (show i < 2 * p + 2 * l + cs.length + 1 by omega)]
  exact this.symm
theorem found_small {cs : List Int} {M p l : Nat} (hl : 1 ≤ l) (hn : 2 * p + 2 * l + cs.length ≤ M) (hr : repB (nats (V cs (2 * p + 2 * l + cs.length + 1))) p l = true)
    (hs : small255 (V cs (2 * p + 2 * l + cs.length + 1))) : small255 (V cs (M + 1)) := by
  intro i hi
  have hper := found_per hl hn hr
  refine small_of (m := 2 * p + 2 * l + cs.length) hl (by omega) (fun j h1 h2 => hper j h1 (by rw [V_len] at h2; omega)) (fun t ht => ?_) i hi
  rw [V_gn cs (show t < M + 1 by omega) (show t < 2 * p + 2 * l + cs.length + 1 by omega)]
  exact hs t (by rw [V_len]; omega)

/-- The values up to heap M prove the period of length l behind p. -/
def isPer (cs : List Int) (M l p : Nat) : Prop :=
  1 ≤ l ∧ 2 * p + 2 * l + cs.length ≤ M ∧ repB (nats (V cs (2 * p + 2 * l + cs.length + 1))) p l = true ∧ small255 (V cs (2 * p + 2 * l + cs.length + 1))
/-- r is the first of all, by length and then by what is ahead. -/
def Found (cs : List Int) (M : Nat) : Option (Nat × Nat) → Prop
  | none => ∀ l p, ¬ isPer cs M l p
  | some (p, l) => isPer cs M l p ∧ ∀ l' p', (l' < l ∨ l' = l ∧ p' < p) → ¬ isPer cs M l' p'
theorem Found_unique {cs : List Int} {M : Nat} {r s : Option (Nat × Nat)} (h : Found cs M r) (k : Found cs M s) : r = s := by
  cases r with
  | none => cases s with
    | none => rfl
    | some q => obtain ⟨p, l⟩ := q; exact absurd k.1 (h l p)
  | some q =>
    obtain ⟨p, l⟩ := q
    cases s with
    | none => exact absurd h.1 (k l p)
    | some q' =>
      obtain ⟨p', l'⟩ := q'
      have h1 : ¬ (l < l' ∨ l = l' ∧ p < p') := fun hh => k.2 l p hh h.1
      have h2 : ¬ (l' < l ∨ l' = l ∧ p' < p) := fun hh => h.2 l' p' hh k.1
      obtain rfl : l = l' := by omega
      obtain rfl : p = p' := by omega
      rfl
/-- What FindPeriod tells. -/
def Fnd (cs : List Int) (most : Int) (r : Option (Nat × Nat)) : Prop := if goodCode cs ∧ 0 ≤ most ∧ most ≤ 300 then Found cs most.toNat r else r = none
theorem Fnd_unique {cs : List Int} {m : Int} {r s : Option (Nat × Nat)} (h : Fnd cs m r) (k : Fnd cs m s) : r = s := by
  unfold Fnd at h k
  split at h
  · next hh => rw [if_pos hh] at k; exact Found_unique h k
  · next hh => rw [if_neg hh] at k; rw [h, k]
theorem V_take (cs : List Int) {n m : Nat} (h : n ≤ m) : (V cs m).take n = V cs n := by
  refine ext_gn (by rw [List.length_take, V_len, V_len]; omega) fun i hi => ?_
  rw [List.length_take, V_len] at hi
  rw [V_gn cs (show i < n by omega) (show i < m by omega)]
  simp [gn, List.getD, show i < n by omega]
theorem RdI.takeV {w : World} {B : Nat} {A : Option Addr} {c : Nat} {cs : List Int} {n m : Nat} (h : RdI w B A c (nats (V cs m))) (hn : n ≤ m) : RdI w B A c (nats (V cs n)) := by
  have e : ints (nats (V cs n)) = (ints (nats (V cs m))).take n := by
    unfold ints nats
    rw [← V_take cs hn, List.map_take, List.map_take]
  unfold RdI at h ⊢
  rw [e]
  exact h.take n
end Go.Proofs.Ytidfbbegjpfjpaa
