/- Numbers' texts and their reading: the plain law. Conditions: none. -/
import Derived.Test.YtpepkpikeggceaaDoorItoa
import Derived.Lib.AtoiBound
namespace Go.Proofs.YtpepkpikeggceaaDoor
open Go.RowKit
set_option linter.unusedVariables false

theorem decFrom_append (l : List UInt8) : ∀ (acc m : Nat) (b : UInt8) (d : Nat), Lib.decFrom acc l = some m → Lib.digitVal b = some d → Lib.decFrom acc (l ++ [b]) = some (m * 10 + d) := by
  induction l with
  | nil =>
    intro acc m b d h hd
    simp only [Lib.decFrom, Option.some.injEq] at h
    subst h
    simp [Lib.decFrom, hd]
  | cons a t ih =>
    intro acc m b d h hd
    simp only [List.cons_append, Lib.decFrom] at h ⊢
    cases ha : Lib.digitVal a with
    | none => rw [ha] at h; cases h
    | some e =>
      rw [ha] at h
      exact ih _ m b d h hd
theorem digitVal_of (d : Nat) (h : d < 10) : Lib.digitVal (UInt8.ofNat (48 + d)) = some d := by
  have : d = 0 ∨ d = 1 ∨ d = 2 ∨ d = 3 ∨ d = 4 ∨ d = 5 ∨ d = 6 ∨ d = 7 ∨ d = 8 ∨ d = 9 := by omega
  rcases this with rfl | rfl | rfl | rfl | rfl | rfl | rfl | rfl | rfl | rfl <;> rfl
theorem decDigits_more {n : Nat} (h : ¬ n < 10) : Lib.decDigits n = Lib.decDigits (n / 10) ++ [UInt8.ofNat (48 + n % 10)] := by rw [Lib.decDigits, dif_neg h]
theorem decFrom_dec (n : Nat) : Lib.decFrom 0 (Lib.decDigits n) = some n := by
  induction n using Nat.strongRecOn with
  | ind n ih =>
    by_cases h : n < 10
    · rw [Lib.decDigits_one h]
      show (match Lib.digitVal (UInt8.ofNat (48 + n)) with | some d => Lib.decFrom (0 * 10 + d) [] | none => none) = some n
      rw [digitVal_of n h]
      simp [Lib.decFrom]
    · rw [decDigits_more h, decFrom_append _ 0 (n / 10) _ (n % 10) (ih (n / 10) (by omega)) (digitVal_of _ (by omega))]
      congr 1
      omega
theorem decDigits_cons (n : Nat) : ∃ b r, Lib.decDigits n = b :: r ∧ b ≠ 45 ∧ b ≠ 43 := by
  cases hd : Lib.decDigits n with
  | nil =>
    have h := Lib.decDigits_length n
    rw [hd, Lib.nDigits] at h
    split at h <;> simp at h
  | cons b r =>
    have h := decFrom_dec n
    rw [hd] at h
    obtain ⟨d, hb⟩ := Lib.digit_of_decFrom _ _ _ h 0 b rfl
    have := Lib.digitVal_eq hb
    exact ⟨b, r, rfl, fun e => by rw [e] at this; exact absurd this.1 (by decide), fun e => by rw [e] at this; exact absurd this.1 (by decide)⟩
theorem decNat_dec (n : Nat) : Lib.decNat (Lib.decDigits n) = some n := by
  obtain ⟨b, r, e, -⟩ := decDigits_cons n
  unfold Lib.decNat
  rw [decFrom_dec n, e]; rfl
theorem atoi_itoa (n : Int) : Lib.atoi (Lib.itoa n) = some n := by
  by_cases h : 0 ≤ n
  · obtain ⟨k, rfl⟩ := Int.eq_ofNat_of_zero_le h
    rw [Lib.itoa_nonneg]
    have hk := decNat_dec k
    obtain ⟨b, r, e, h1, h2⟩ := decDigits_cons k
    rw [e] at hk ⊢
    simp only [Lib.atoi]
    rw [if_neg (by simpa using h1), if_neg (by simpa using h2), hk]; rfl
  · obtain ⟨k, hk⟩ := Int.eq_ofNat_of_zero_le (show 0 ≤ -n by omega)
    obtain rfl : n = -(k : Int) := by omega
    rw [Lib.itoa_neg k (by omega)]
    simp only [Lib.atoi]
    rw [if_pos (by rfl), decNat_dec k]; rfl
theorem nDigits_le : ∀ k n : Nat, n < 10 ^ k → 1 ≤ k → Lib.nDigits n ≤ k := by
  intro k
  induction k with
  | zero => intro n _ h; omega
  | succ k ih =>
    intro n hn _
    rw [Lib.nDigits]
    split
    · omega
    · rename_i h
      have : n / 10 < 10 ^ k := by rw [Nat.pow_succ] at hn; omega
      rcases Nat.eq_zero_or_pos k with rfl | hk
      · simp at this; omega
      · have := ih (n / 10) this hk
        omega
theorem decDigits_six {n : Nat} (h : n ≤ 999999) : 1 ≤ (Lib.decDigits n).length ∧ (Lib.decDigits n).length ≤ 6 := by
  obtain ⟨b, r, e, -⟩ := decDigits_cons n
  refine ⟨by rw [e]; simp, ?_⟩
  rw [Lib.decDigits_length]
  exact nDigits_le 6 n (by omega) (by omega)
/-- The text s is the number n's. -/
def isNum (s : ByteArray) (n : Int) : Prop := -999999 ≤ n ∧ n ≤ 999999 ∧ s.data.toList = Lib.itoa n
theorem isNum.unique {s : ByteArray} {m n : Int} (h : isNum s m) (k : isNum s n) : m = n := by
  have := atoi_itoa m
  rw [← h.2.2, k.2.2, atoi_itoa] at this
  injection this with this
  exact this.symm
theorem isNum.len {s : ByteArray} {n : Int} (h : isNum s n) : 1 ≤ s.size ∧ s.size ≤ 7 := by
  have e : s.size = (Lib.itoa n).length := by rw [← h.2.2]; rfl
  obtain ⟨h1, h2, -⟩ := h
  by_cases hn : 0 ≤ n
  · obtain ⟨k, rfl⟩ := Int.eq_ofNat_of_zero_le hn
    rw [Lib.itoa_nonneg] at e
    have := decDigits_six (n := k) (by omega)
    omega
  · obtain ⟨k, hk⟩ := Int.eq_ofNat_of_zero_le (show 0 ≤ -n by omega)
    obtain rfl : n = -(k : Int) := by omega
    rw [Lib.itoa_neg k (by omega), List.length_cons] at e
    have := decDigits_six (n := k) (by omega)
    omega
/-- What is read: the number, and whether there is one. -/
noncomputable def rnB (s : ByteArray) : Bool := @decide (∃ n, isNum s n) (Classical.propDecidable _)
noncomputable def rnV (s : ByteArray) : Int := if h : rnB s = true then Classical.choose (@of_decide_eq_true _ (Classical.propDecidable _) h) else 0
theorem rn_yes {s : ByteArray} {n : Int} (h : isNum s n) : rnB s = true ∧ rnV s = n := by
  have hb : rnB s = true := @decide_eq_true _ (Classical.propDecidable _) ⟨n, h⟩
  refine ⟨hb, ?_⟩
  unfold rnV
  rw [dif_pos hb]
  exact (Classical.choose_spec (@of_decide_eq_true _ (Classical.propDecidable _) hb)).unique h
theorem rn_no {s : ByteArray} (h : ∀ n, ¬ isNum s n) : rnB s = false ∧ rnV s = 0 := by
  have hb : rnB s = false := @decide_eq_false _ (Classical.propDecidable _) (fun ⟨n, k⟩ => h n k)
  refine ⟨hb, ?_⟩
  unfold rnV
  rw [dif_neg (by rw [hb]; simp)]
end Go.Proofs.YtpepkpikeggceaaDoor
