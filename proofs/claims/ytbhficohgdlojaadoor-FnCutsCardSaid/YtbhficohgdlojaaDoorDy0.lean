/- Dyadic numbers as integers over 2^24, and the numbers of stalks: plain laws. Conditions: none. -/
import Derived.Lib.Hide
namespace Go.Proofs.YtbhficohgdlojaaDoor
set_option linter.unusedVariables false

/-- top/2^p in its one form. -/
def nrm : Nat → Int → Int × Nat
  | 0, t => (t, 0)
  | p + 1, t => if t % 2 = 0 then nrm p (t / 2) else (t, p + 1)
theorem nrm_even (p : Nat) (t : Int) : nrm (p + 1) (2 * t) = nrm p t := by
  have h1 : 2 * t % 2 = 0 := by omega
  have h2 : 2 * t / 2 = t := by omega
  show (if 2 * t % 2 = 0 then _ else _) = _
  rw [if_pos h1, h2]
theorem nrm_odd (p : Nat) (t : Int) (h : t % 2 ≠ 0) : nrm p t = (t, p) := by
  cases p with
  | zero => rfl
  | succ p => show (if _ then _ else _) = _; rw [if_neg h]
theorem nrm_fix (p : Nat) (t : Int) (h : p = 0 ∨ t % 2 ≠ 0) : nrm p t = (t, p) := by
  rcases h with rfl | h
  · rfl
  · exact nrm_odd p t h
theorem nrm_shift (p k : Nat) (t : Int) : nrm (p + k) (t * 2 ^ k) = nrm p t := by
  induction k with
  | zero => simp
  | succ k ih =>
    have e : t * 2 ^ (k + 1) = 2 * (t * 2 ^ k) := by rw [Int.pow_succ, Int.mul_comm 2, Int.mul_assoc]
    rw [e, ← Nat.add_assoc, nrm_even, ih]
theorem nrm_le (p : Nat) (t : Int) : (nrm p t).2 ≤ p ∧ ((nrm p t).2 = 0 ∨ (nrm p t).1 % 2 ≠ 0) := by
  induction p generalizing t with
  | zero => exact ⟨Nat.le_refl _, .inl rfl⟩
  | succ p ih =>
    show (if t % 2 = 0 then nrm p (t / 2) else (t, p + 1)).2 ≤ _ ∧ _
    by_cases h : t % 2 = 0
    · have e : nrm (p + 1) t = nrm p (t / 2) := by show (if _ then _ else _) = _; rw [if_pos h]
      rw [e]
      rw [if_pos h]
      exact ⟨by have := (ih (t / 2)).1; omega, (ih (t / 2)).2⟩
    · rw [if_neg h, nrm_odd _ _ h]
      exact ⟨Nat.le_refl _, .inr h⟩
theorem nrm_val (p : Nat) (t : Int) : (nrm p t).1 * 2 ^ (p - (nrm p t).2) = t := by
  induction p generalizing t with
  | zero => simp [nrm]
  | succ p ih =>
    by_cases h : t % 2 = 0
    · have e : nrm (p + 1) t = nrm p (t / 2) := by show (if _ then _ else _) = _; rw [if_pos h]
      rw [e]
      have hle := (nrm_le p (t / 2)).1
      have e2 : p + 1 - (nrm p (t / 2)).2 = (p - (nrm p (t / 2)).2) + 1 := by omega
      rw [e2, Int.pow_succ, ← Int.mul_assoc, ih]
      omega
    · rw [nrm_odd _ _ h]
      simp
/-- The one form of V over 2^24. -/
def nf (V : Int) : Int × Nat := nrm 24 V
/-- The number top/2^pow over 2^24. -/
def sc (t : Int) (p : Nat) : Int := t * 2 ^ (24 - p)
theorem nf_sc (t : Int) (p : Nat) (h : p ≤ 24) : nf (sc t p) = nrm p t := by
  unfold nf sc
  have := nrm_shift p (24 - p) t
  rwa [Nat.add_sub_cancel' h] at this
theorem sc_nf (V : Int) : sc (nf V).1 (nf V).2 = V := nrm_val 24 V
theorem sc_nrm (t : Int) (p : Nat) (h : p ≤ 24) : sc (nrm p t).1 (nrm p t).2 = sc t p := by rw [← nf_sc t p h, sc_nf]
theorem nf_inj (U V : Int) (h : nf U = nf V) : U = V := by rw [← sc_nf U, ← sc_nf V, h]
theorem nf_le (V : Int) : (nf V).2 ≤ 24 := (nrm_le 24 V).1
/-- A number is the form of V just where its own value is V. -/
theorem nf_eq_iff (V t : Int) (p : Nat) (hp : p ≤ 24) (hn : p = 0 ∨ t % 2 ≠ 0) : nf V = (t, p) ↔ V = sc t p := by
  constructor
  · intro h; rw [← sc_nf V, h]
  · intro h; rw [h, nf_sc t p hp, nrm_fix p t hn]
theorem nrm_abs (p : Nat) (t B : Int) (h1 : -B ≤ t) (h2 : t ≤ B) : -B ≤ (nrm p t).1 ∧ (nrm p t).1 ≤ B := by
  induction p generalizing t with
  | zero => exact ⟨h1, h2⟩
  | succ p ih =>
    by_cases h : t % 2 = 0
    · have e : nrm (p + 1) t = nrm p (t / 2) := by show (if _ then _ else _) = _; rw [if_pos h]
      rw [e]
      exact ih (t / 2) (by omega) (by omega)
    · rw [nrm_odd _ _ h]; exact ⟨h1, h2⟩
theorem nrm_neg (p : Nat) (t : Int) : nrm p (-t) = (-(nrm p t).1, (nrm p t).2) := by
  induction p generalizing t with
  | zero => rfl
  | succ p ih =>
    by_cases h : t % 2 = 0
    · obtain ⟨u, rfl⟩ : ∃ u, t = 2 * u := ⟨t / 2, by omega⟩
      have e : -(2 * u) = 2 * (-u) := by omega
      rw [e, nrm_even, nrm_even, ih]
    · rw [nrm_odd _ _ h, nrm_odd _ _ (by omega)]

/-! Stalks: signs as Booleans, true for L. -/
def sg (l : List Bool) (i : Nat) : Bool := l.getD i true
def pm (b : Bool) : Int := if b then 1 else -1
/-- The power of two below the step at sign i. -/
def pw (l : List Bool) : Nat → Nat
  | 0 => 0
  | i + 1 => if pw l i > 0 ∨ sg l (i + 1) ≠ sg l i then pw l i + 1 else 0
/-- The same, as it stands before sign i. -/
def pwb (l : List Bool) : Nat → Nat
  | 0 => 0
  | i + 1 => pw l i
theorem pw_step (l : List Bool) (i : Nat) (h : 0 < i) : pw l i = if pwb l i > 0 ∨ sg l i ≠ sg l (i - 1) then pwb l i + 1 else pwb l i := by
  cases i with
  | zero => omega
  | succ i =>
    show (if pw l i > 0 ∨ sg l (i + 1) ≠ sg l i then pw l i + 1 else 0) = if pw l i > 0 ∨ sg l (i + 1) ≠ sg l (i + 1 - 1) then pw l i + 1 else pw l i
    by_cases hc : pw l i > 0 ∨ sg l (i + 1) ≠ sg l i
    · rw [if_pos hc, if_pos (by simpa using hc)]
    · rw [if_neg hc, if_neg (by simpa using hc)]; omega
theorem pw_le (l : List Bool) (i : Nat) : pw l i ≤ i := by
  induction i with
  | zero => exact Nat.le_refl _
  | succ i ih =>
    by_cases hc : pw l i > 0 ∨ sg l (i + 1) ≠ sg l i
    · have e : pw l (i + 1) = pw l i + 1 := by show (if _ then _ else _) = _; rw [if_pos hc]
      omega
    · have e : pw l (i + 1) = 0 := by show (if _ then _ else _) = _; rw [if_neg hc]
      omega
theorem pwb_le (l : List Bool) (i : Nat) : pwb l i ≤ i - 1 := by
  cases i with
  | zero => exact Nat.le_refl _
  | succ i => exact pw_le l i
theorem pw_zero (l : List Bool) (i : Nat) (h : pw l i = 0) : sg l i = sg l 0 := by
  induction i with
  | zero => rfl
  | succ i ih =>
    by_cases hc : pw l i > 0 ∨ sg l (i + 1) ≠ sg l i
    · have : pw l (i + 1) = pw l i + 1 := by show (if _ then _ else _) = _; rw [if_pos hc]
      omega
    · have h0 : pw l i = 0 := by omega
      have h1 : sg l (i + 1) = sg l i := by by_cases e : sg l (i + 1) = sg l i; exact e; exact absurd (Or.inr e) hc
      rw [h1, ih h0]
/-- 'first' of the program: all signs up to i are the first one. -/
theorem pw_first (l : List Bool) (i : Nat) : (pw l i = 0) ↔ (pwb l i = 0 ∧ sg l i = sg l 0) := by
  cases i with
  | zero => simp [pw, pwb]
  | succ i =>
    show (if pw l i > 0 ∨ sg l (i + 1) ≠ sg l i then pw l i + 1 else 0) = 0 ↔ pw l i = 0 ∧ _
    by_cases h0 : pw l i = 0
    · have h1 := pw_zero l i h0
      by_cases e : sg l (i + 1) = sg l i
      · rw [if_neg (by rintro (h | h); omega; exact h e)]
        exact ⟨fun _ => ⟨h0, e.trans h1⟩, fun _ => rfl⟩
      · rw [if_pos (.inr e)]
        exact ⟨fun h => by omega, fun h => absurd (h.2.trans h1.symm) e⟩
    · rw [if_pos (.inl (by omega))]
      exact ⟨fun h => by omega, fun h => absurd h.1 h0⟩
/-- The sum of the first i signs, over 2^24. -/
def vl (l : List Bool) : Nat → Int
  | 0 => 0
  | i + 1 => vl l i + pm (sg l i) * 2 ^ (24 - pw l i)
/-- The same over 2^16. -/
def vs (l : List Bool) : Nat → Int
  | 0 => 0
  | i + 1 => vs l i + pm (sg l i) * 2 ^ (16 - pw l i)
theorem vl_vs (l : List Bool) (n : Nat) (h : n ≤ 17) : vl l n = vs l n * 256 := by
  induction n with
  | zero => rfl
  | succ n ih =>
    show vl l n + _ = (vs l n + _) * 256
    have hp := pw_le l n
    have e : 24 - pw l n = (16 - pw l n) + 8 := by omega
    rw [ih (by omega), e, Int.pow_add, Int.add_mul, ← Int.mul_assoc]
    rfl
theorem pow_pos2 (k : Nat) : 1 ≤ (2 : Int) ^ k := by
  induction k with
  | zero => simp
  | succ k ih => rw [Int.pow_succ]; omega
theorem pow_le2 (k m : Nat) (h : k ≤ m) : (2 : Int) ^ k ≤ 2 ^ m := by
  obtain ⟨d, rfl⟩ := Nat.exists_eq_add_of_le h
  rw [Int.pow_add]
  have h1 := pow_pos2 k
  have h2 := pow_pos2 d
  calc (2 : Int) ^ k = 2 ^ k * 1 := by omega
    _ ≤ 2 ^ k * 2 ^ d := Int.mul_le_mul_of_nonneg_left h2 (by omega)
theorem pm_mul (b : Bool) (x : Int) : pm b * x = if b then x else -x := by cases b <;> simp [pm]
theorem vl_bound (l : List Bool) (n : Nat) : -(n * 16777216 : Int) ≤ vl l n ∧ vl l n ≤ n * 16777216 := by
  induction n with
  | zero => exact ⟨Int.le_refl _, Int.le_refl _⟩
  | succ n ih =>
    have h1 : (2 : Int) ^ (24 - pw l n) ≤ 16777216 := pow_le2 _ 24 (by omega)
    have h0 := pow_pos2 (24 - pw l n)
    have e : vl l (n + 1) = vl l n + pm (sg l n) * 2 ^ (24 - pw l n) := rfl
    rw [e, pm_mul]
    split <;> omega
theorem sg_app (l m : List Bool) (i : Nat) (h : i < l.length) : sg (l ++ m) i = sg l i := by
  unfold sg
  rw [List.getD_eq_getElem?_getD, List.getD_eq_getElem?_getD, List.getElem?_append_left h]
theorem pw_app (l m : List Bool) (i : Nat) (h : i < l.length) : pw (l ++ m) i = pw l i := by
  induction i with
  | zero => rfl
  | succ i ih =>
    show (if pw (l ++ m) i > 0 ∨ _ then _ else _) = if _ then _ else _
    rw [ih (by omega), sg_app l m _ h, sg_app l m i (by omega)]
theorem vl_app (l m : List Bool) (i : Nat) (h : i ≤ l.length) : vl (l ++ m) i = vl l i := by
  induction i with
  | zero => rfl
  | succ i ih =>
    show vl (l ++ m) i + _ = vl l i + _
    rw [ih (by omega), sg_app l m i h, pw_app l m i h]
theorem pw_take (l : List Bool) (n i : Nat) (h : i < n) (hn : n ≤ l.length) : pw (l.take n) i = pw l i := by
  have := pw_app (l.take n) (l.drop n) i (by rw [List.length_take]; omega)
  rw [List.take_append_drop] at this
  exact this.symm
theorem vl_take (l : List Bool) (n i : Nat) (h : i ≤ n) (hn : n ≤ l.length) : vl (l.take n) i = vl l i := by
  have := vl_app (l.take n) (l.drop n) i (by rw [List.length_take]; omega)
  rw [List.take_append_drop] at this
  exact this.symm

/-! The search for the stalk of a number D (over 2^24). -/
def stk (D : Int) : Nat → List Bool
  | 0 => []
  | n + 1 => stk D n ++ [decide (vl (stk D n) n < D)]
theorem stk_len (D : Int) (n : Nat) : (stk D n).length = n := by
  induction n with
  | zero => rfl
  | succ n ih => show (stk D n ++ _).length = _; rw [List.length_append, ih]; rfl
/-- The number after n signs. -/
def sW (D : Int) (n : Nat) : Int := vl (stk D n) n
/-- The power at sign n. -/
def sQ (D : Int) (n : Nat) : Nat := pw (stk D (n + 1)) n
theorem stk_succ (D : Int) (n : Nat) : stk D (n + 1) = stk D n ++ [decide (sW D n < D)] := rfl
theorem sg_stk (D : Int) (n : Nat) : sg (stk D (n + 1)) n = decide (sW D n < D) := by
  rw [stk_succ]; unfold sg
  have := stk_len D n
  rw [List.getD_eq_getElem?_getD, List.getElem?_append_right (by omega)]
  simp [this]
theorem sW_succ (D : Int) (n : Nat) : sW D (n + 1) = sW D n + pm (decide (sW D n < D)) * 2 ^ (24 - sQ D n) := by
  show vl (stk D (n + 1)) n + pm (sg (stk D (n + 1)) n) * 2 ^ (24 - pw (stk D (n + 1)) n) = _
  rw [sg_stk]
  have : vl (stk D (n + 1)) n = sW D n := by rw [stk_succ, vl_app _ _ _ (by rw [stk_len]; exact Nat.le_refl _)]; rfl
  rw [this]; rfl
theorem sQ_zero (D : Int) : sQ D 0 = 0 := rfl
theorem sW_zero (D : Int) : sW D 0 = 0 := rfl
theorem sQ_succ (D : Int) (n : Nat) : sQ D (n + 1) = if sQ D n > 0 ∨ decide (sW D (n + 1) < D) ≠ decide (sW D n < D) then sQ D n + 1 else 0 := by
  show (if pw (stk D (n + 2)) n > 0 ∨ sg (stk D (n + 2)) (n + 1) ≠ sg (stk D (n + 2)) n then pw (stk D (n + 2)) n + 1 else 0) = _
  have h1 : pw (stk D (n + 2)) n = sQ D n := by rw [stk_succ D (n + 1), pw_app _ _ _ (by rw [stk_len]; omega)]; rfl
  have h2 : sg (stk D (n + 2)) (n + 1) = decide (sW D (n + 1) < D) := sg_stk D (n + 1)
  have h3 : sg (stk D (n + 2)) n = decide (sW D n < D) := by rw [stk_succ D (n + 1), sg_app _ _ _ (by rw [stk_len]; omega)]; exact sg_stk D n
  rw [h1, h2, h3]
theorem sQ_le (D : Int) (n : Nat) : sQ D n ≤ n := pw_le _ _
/-- As long as all signs are L, the number is how many there are. -/
theorem sW_left (D : Int) (n : Nat) (h : ∀ m, m < n → sW D m < D) : sW D n = n * 16777216 ∧ (0 < n → sQ D (n - 1) = 0) := by
  induction n with
  | zero => exact ⟨rfl, fun h => by omega⟩
  | succ n ih =>
    obtain ⟨i1, i2⟩ := ih fun m hm => h m (by omega)
    have hn := h n (by omega)
    have hq : sQ D n = 0 := by
      cases n with
      | zero => rfl
      | succ k =>
        have hk := i2 (by omega)
        have hk' := h k (by omega)
        have hk2 : sQ D k = 0 := hk
        rw [sQ_succ, hk2, if_neg]
        rintro (hc | hc)
        · omega
        · exact hc (by rw [decide_eq_true hn, decide_eq_true hk'])
    refine ⟨?_, fun _ => by simpa using hq⟩
    rw [sW_succ, hq, decide_eq_true hn, i1]
    show (n : Int) * 16777216 + 1 * 2 ^ 24 = ((n + 1 : Nat) : Int) * 16777216
    have : (2 : Int) ^ 24 = 16777216 := by decide
    rw [this]; omega
/-- Signs exchanged: the search for -D. -/
theorem stk_neg (D : Int) (n : Nat) (h : ∀ m, m < n → sW D m ≠ D) : sW (-D) n = -sW D n ∧ stk (-D) n = (stk D n).map (!·) ∧ (0 < n → sQ (-D) (n - 1) = sQ D (n - 1)) := by
  induction n with
  | zero => exact ⟨rfl, rfl, fun h => by omega⟩
  | succ n ih =>
    obtain ⟨i1, i2, i3⟩ := ih fun m hm => h m (by omega)
    have hn := h n (by omega)
    have hb : decide (sW (-D) n < -D) = !decide (sW D n < D) := by
      rw [i1, Bool.eq_iff_iff]; simp; omega
    have hq : sQ (-D) n = sQ D n := by
      cases n with
      | zero => rfl
      | succ k =>
        obtain ⟨j1, _, _⟩ : sW (-D) k = -sW D k ∧ True ∧ True := by
          refine ⟨?_, trivial, trivial⟩
          have a1 := sW_succ D k
          have a2 := sW_succ (-D) k
          have hk := i3 (by omega)
          have hk2 : sQ (-D) k = sQ D k := hk
          rw [hk2] at a2
          have hne := h k (by omega)
          have hp := pow_pos2 (24 - sQ D k)
          rw [pm_mul] at a1 a2
          have hl : sg (stk (-D) (k + 1)) k = sg ((stk D (k + 1)).map (!·)) k := by rw [i2]
          rw [sg_stk] at hl
          have hl2 : sg ((stk D (k + 1)).map (!·)) k = !sg (stk D (k + 1)) k := by
            unfold sg
            have := stk_len D (k + 1)
            rw [List.getD_eq_getElem?_getD, List.getD_eq_getElem?_getD, List.getElem?_map, List.getElem?_eq_getElem (by omega)]
            rfl
          rw [hl2, sg_stk] at hl
          rw [hl] at a2
          by_cases c : sW D k < D
          · simp [c] at a1 a2; omega
          · simp [c] at a1 a2; omega
        have hk := i3 (by omega)
        have hk2 : sQ (-D) k = sQ D k := hk
        have hne := h k (by omega)
        have hb2 : decide (sW (-D) k < -D) = !decide (sW D k < D) := by rw [j1, Bool.eq_iff_iff]; simp; omega
        rw [sQ_succ, sQ_succ, hk2, hb, hb2]
        congr 1
        cases decide (sW D (k + 1) < D) <;> cases decide (sW D k < D) <;> simp
    refine ⟨?_, ?_, fun _ => by simpa using hq⟩
    · rw [sW_succ, sW_succ, hq, hb, i1, pm_mul, pm_mul]
      cases decide (sW D n < D) <;> simp <;> omega
    · rw [stk_succ, stk_succ, hb, i2, List.map_append]; rfl
end Go.Proofs.YtbhficohgdlojaaDoor
