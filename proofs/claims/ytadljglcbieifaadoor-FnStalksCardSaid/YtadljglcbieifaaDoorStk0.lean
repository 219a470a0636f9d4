/- The stalk of a stalk's number is it: the plain law. Conditions: none. -/
import Derived.Test.YtadljglcbieifaaDoorDy4
import Derived.Test.YtadljglcbieifaaDoorDyW
namespace Go.Proofs.YtadljglcbieifaaDoor
open Go.RowKit
set_option linter.unusedVariables false

theorem pm_sq (b : Bool) : pm b * pm b = 1 := by cases b <;> rfl
theorem pm_ne {a b : Bool} (h : a ≠ b) : pm a * pm b = -1 := by cases a <;> cases b <;> simp_all [pm]
theorem pw_mono0 (l : List Bool) (k m : Nat) (h : k ≤ m) (h0 : pw l m = 0) : pw l k = 0 := by
  induction m with
  | zero => have : k = 0 := by omega
            subst this; exact h0
  | succ m ih =>
    by_cases e : k = m + 1
    · subst e; exact h0
    · refine ih (by omega) ?_
      have : pwb l (m + 1) = 0 := ((pw_first l (m + 1)).1 h0).1
      exact this
/-- What follows a sign does not undo it. -/
theorem tail_pos (l : List Bool) (k : Nat) (m : Nat) (hm : k + m ≤ 20) : (2 : Int) ^ (24 - pw l (k + m)) ≤ pm (sg l k) * (vl l (k + m + 1) - vl l k) := by
  induction m with
  | zero =>
    show (2 : Int) ^ (24 - pw l k) ≤ pm (sg l k) * (vl l k + pm (sg l k) * 2 ^ (24 - pw l k) - vl l k)
    have : vl l k + pm (sg l k) * 2 ^ (24 - pw l k) - vl l k = pm (sg l k) * 2 ^ (24 - pw l k) := by omega
    rw [this, ← Int.mul_assoc, pm_sq, Int.one_mul]
    exact Int.le_refl _
  | succ m ih =>
    have ih := ih (by omega)
    have e : vl l (k + (m + 1) + 1) = vl l (k + m + 1) + pm (sg l (k + m + 1)) * 2 ^ (24 - pw l (k + m + 1)) := rfl
    rw [show k + (m + 1) = k + m + 1 by omega] at *
    have e2 : pm (sg l k) * (vl l (k + m + 1 + 1) - vl l k) = pm (sg l k) * (vl l (k + m + 1) - vl l k) + pm (sg l k) * pm (sg l (k + m + 1)) * 2 ^ (24 - pw l (k + m + 1)) := by
      rw [e, Int.mul_assoc, ← Int.mul_add]
      congr 1
      omega
    rw [e2]
    have hp := pow_pos2 (24 - pw l (k + m))
    by_cases hs : sg l k = sg l (k + m + 1)
    · rw [← hs, pm_sq, Int.one_mul]
      omega
    · rw [pm_ne hs]
      have hw := pw_le l (k + m)
      have hstep : pw l (k + m + 1) = pw l (k + m) + 1 := by
        show (if pw l (k + m) > 0 ∨ sg l (k + m + 1) ≠ sg l (k + m) then pw l (k + m) + 1 else 0) = _
        rw [if_pos]
        by_cases h0 : pw l (k + m) = 0
        · right
          have a1 := pw_zero l (k + m) h0
          have a2 := pw_zero l k (pw_mono0 l k (k + m) (by omega) h0)
          intro e
          exact hs (by rw [a2, e, a1])
        · left; omega
      have e3 : (2 : Int) ^ (24 - pw l (k + m)) = 2 * 2 ^ (24 - pw l (k + m + 1)) := by
        rw [hstep, show 24 - pw l (k + m) = (24 - (pw l (k + m) + 1)) + 1 by omega, Int.pow_succ, Int.mul_comm]
      rw [e3] at ih
      omega
theorem pm_lt {b : Bool} {x : Int} (h : 0 < pm b * x) : (decide (0 < x) = b) ∧ x ≠ 0 := by
  cases b
  · have : 0 < -x := by simpa [pm] using h
    exact ⟨by simp; omega, by omega⟩
  · have : 0 < x := by simpa [pm] using h
    exact ⟨by simp; omega, by omega⟩
theorem sign_at (l : List Bool) (n k : Nat) (hn : n ≤ 17) (hk : k < n) : (decide (vl l k < vl l n) = sg l k) ∧ vl l k ≠ vl l n := by
  have h := tail_pos l k (n - k - 1) (by omega)
  rw [show k + (n - k - 1) + 1 = n by omega] at h
  have hp := pow_pos2 (24 - pw l (k + (n - k - 1)))
  obtain ⟨h1, h2⟩ := pm_lt (b := sg l k) (x := vl l n - vl l k) (by omega)
  refine ⟨?_, by omega⟩
  rw [← h1, Bool.eq_iff_iff, decide_eq_true_iff, decide_eq_true_iff]
  omega
theorem sg_take {l : List Bool} {k : Nat} (h : k < l.length) : l.take (k + 1) = l.take k ++ [sg l k] := by
  rw [List.take_succ_eq_append_getElem h]
  unfold sg
  simp [h]
theorem stk_vl (l : List Bool) (n : Nat) (hn : n ≤ 17) (hl : l.length = n) (k : Nat) (hk : k ≤ n) : stk (vl l n) k = l.take k := by
  induction k with
  | zero => rfl
  | succ k ih =>
    have ih := ih (by omega)
    rw [stk_succ, ih, sg_take (by omega)]
    congr 2
    unfold sW
    rw [ih, vl_take l k k (Nat.le_refl _) (by omega)]
    exact (sign_at l n k hn (by omega)).1
/-- The stalk of a stalk's number. -/
theorem stalkV_back (l : List Bool) (hl : l.length ≤ 16) : stalkV (vl l l.length) = .tuple #[.string (stB l), .bool true] := by
  have hs : ∀ k, k ≤ l.length → sW (vl l l.length) k = vl l k := fun k hk => by
    unfold sW
    rw [stk_vl l l.length (by omega) rfl k hk, vl_take l k k (Nat.le_refl _) hk]
  have := stalkV_yes (vl l l.length) l.length hl (hs _ (Nat.le_refl _)) fun m hm e => by
    rw [hs m (by omega)] at e
    exact (sign_at l l.length m (by omega) hm).2 e
  rw [stk_vl l l.length (by omega) rfl _ (Nat.le_refl _), List.take_length] at this
  exact this

/-! ### all signs exchanged -/
theorem sg_not {l : List Bool} {i : Nat} (h : i < l.length) : sg (l.map (!·)) i = !sg l i := by
  unfold sg
  simp [h]
theorem pw_not (l : List Bool) (i : Nat) (h : i < l.length) : pw (l.map (!·)) i = pw l i := by
  induction i with
  | zero => rfl
  | succ i ih =>
    have ih := ih (by omega)
    show (if pw (l.map (!·)) i > 0 ∨ sg (l.map (!·)) (i + 1) ≠ sg (l.map (!·)) i then pw (l.map (!·)) i + 1 else 0) = if pw l i > 0 ∨ sg l (i + 1) ≠ sg l i then pw l i + 1 else 0
    rw [ih, sg_not h, sg_not (show i < l.length by omega)]
    have : ((!sg l (i + 1)) ≠ !sg l i) ↔ sg l (i + 1) ≠ sg l i := by
      cases sg l (i + 1) <;> cases sg l i <;> simp
    by_cases hc : pw l i > 0 ∨ sg l (i + 1) ≠ sg l i
    · rw [if_pos hc, if_pos (hc.imp id this.2)]
    · rw [if_neg hc, if_neg fun hh => hc (hh.imp id this.1)]
theorem vl_not (l : List Bool) (i : Nat) (h : i ≤ l.length) : vl (l.map (!·)) i = -vl l i := by
  induction i with
  | zero => rfl
  | succ i ih =>
    have ih := ih (by omega)
    show vl (l.map (!·)) i + pm (sg (l.map (!·)) i) * 2 ^ (24 - pw (l.map (!·)) i) = -(vl l i + pm (sg l i) * 2 ^ (24 - pw l i))
    rw [ih, sg_not (show i < l.length by omega), pw_not l i (by omega)]
    have : pm (!sg l i) = -pm (sg l i) := by cases sg l i <;> rfl
    rw [this, Int.neg_mul]
    omega
theorem nf_neg (V : Int) : nf (-V) = (-(nf V).1, (nf V).2) := nrm_neg 24 V
theorem goodDy_neg (t p : Int) : goodDyB (-t) p = goodDyB t p := by
  unfold goodDyB
  rw [Bool.eq_iff_iff, decide_eq_true_iff, decide_eq_true_iff]
  omega

/-! ### the value of a text -/
/-- StalkValue of a text: numerator, power, whether there is one. -/
def bitsOf (s : ByteArray) : List Bool := s.data.toList.map (· == 76)
def valF (s : ByteArray) : Int × Int × Bool :=
  if signsB s 16 = true ∧ goodDyB (nf (vl (bitsOf s) s.size)).1 (nf (vl (bitsOf s) s.size)).2 = true then ((nf (vl (bitsOf s) s.size)).1, ((nf (vl (bitsOf s) s.size)).2 : Int), true) else (0, 0, false)
def vdy (a b : Int) (c : Bool) : Value := .tuple #[.agg #[.int .i64 a, .int .i64 b], .bool c]
theorem bits_stB (s : ByteArray) (h : signsB s 16 = true) : s = stB (bitsOf s) ∧ (bitsOf s).length = s.size ∧ s.size ≤ 16 := by
  unfold signsB at h
  simp only [Bool.and_eq_true, decide_eq_true_eq] at h
  exact ⟨stB_of s h.1, by unfold bitsOf; rw [List.length_map, data_len], by omega⟩
theorem bits_of_stB (l : List Bool) : bitsOf (stB l) = l := by
  unfold bitsOf stB
  rw [str_data, List.map_map]
  have : ((fun x => x == 76) ∘ enc) = id := by
    funext b; cases b <;> rfl
  rw [this, List.map_id]
theorem signs_stB (l : List Bool) (h : l.length ≤ 16) : signsB (stB l) 16 = true := by
  unfold signsB allIn
  rw [Bool.and_eq_true, List.all_eq_true, stB_size]
  refine ⟨fun x hx => ?_, by simp; omega⟩
  unfold stB at hx
  rw [str_data, List.mem_map] at hx
  obtain ⟨b, _, rfl⟩ := hx
  cases b <;> decide
theorem lowV_valF (s : ByteArray) (h : signsB s 16 = true) : lowV (nf (vl (bitsOf s) s.size)) = vdy (valF s).1 (valF s).2.1 (valF s).2.2 := by
  unfold lowV valF vdy
  cases hg : goodDyB (nf (vl (bitsOf s) s.size)).1 (nf (vl (bitsOf s) s.size)).2
  · rw [if_neg (by simp), if_neg (by simp)]
  · rw [if_pos rfl, if_pos ⟨h, rfl⟩]; rfl
theorem valS_any (s : ByteArray) (hs : s.size ≤ maxLen) (w : World) :
    Calls Tryd.prog 29 #[.string s] w fun e w' => e = .returned (vdy (valF s).1 (valF s).2.1 (valF s).2.2) ∧ Below w.heap.size w w' := by
  cases hb : signsB s 16
  · have : valF s = (0, 0, false) := by unfold valF; rw [if_neg (by simp [hb])]
    rw [this]
    exact (stalkVal_bad s hs hb w).1
  · obtain ⟨h1, h2, h3⟩ := bits_stB s hb
    have := stalkValS_good (bitsOf s) w (by omega) (by rw [← h1]; exact hb)
    rw [← h1, h2, lowV_valF s hb] at this
    exact this
theorem valI_any (s : ByteArray) (hs : s.size ≤ maxLen) (w : World) :
    Calls Tryd.prog 28 #[.string s] w fun e w' => e = .returned (vdy (valF s).1 (valF s).2.1 (valF s).2.2) ∧ Below w.heap.size w w' := by
  cases hb : signsB s 16
  · have : valF s = (0, 0, false) := by unfold valF; rw [if_neg (by simp [hb])]
    rw [this]
    exact (stalkVal_bad s hs hb w).2
  · obtain ⟨h1, h2, h3⟩ := bits_stB s hb
    have := stalkValI_good (bitsOf s) w (by omega) (by rw [← h1]; exact hb)
    rw [← h1, h2, lowV_valF s hb] at this
    exact this
/-- What a good value says. -/
theorem valF_yes {s : ByteArray} (h : (valF s).2.2 = true) : ∃ l : List Bool, s = stB l ∧ l.length ≤ 16 ∧ ∃ p : Nat, (valF s).2.1 = p ∧ p ≤ 16 ∧ goodDyB (valF s).1 p = true ∧ sc (valF s).1 p = vl l l.length ∧ ((valF s).1, p) = nf (vl l l.length) := by
  unfold valF at h
  split at h
  · rename_i hc
    obtain ⟨h1, h2, h3⟩ := bits_stB s hc.1
    have e : valF s = ((nf (vl (bitsOf s) s.size)).1, ((nf (vl (bitsOf s) s.size)).2 : Int), true) := by unfold valF; rw [if_pos hc]
    refine ⟨bitsOf s, h1, by omega, (nf (vl (bitsOf s) s.size)).2, by rw [e], ?_, by rw [e]; exact hc.2, by rw [e, h2]; exact sc_nf _, by rw [e, h2]⟩
    have := hc.2
    unfold goodDyB at this
    simp at this
    omega
  · simp at h
theorem stalkOf_valF {s : ByteArray} (h : (valF s).2.2 = true) : stalkOfV (valF s).1 (valF s).2.1 = (s, true) := by
  obtain ⟨l, h1, h2, p, h3, h4, h5, h6, h7⟩ := valF_yes h
  have e := stalkOfV_good (valF s).1 p h5
  rw [h6, stalkV_back l h2, ← h1, ← h3] at e
  injection e with e
  injection e with e
  injection e with e1 e2
  injection e2 with e2 e3
  injection e1 with e1
  injection e2 with e2
  exact Prod.ext e1 e2
theorem valF_neg {s t : ByteArray} (h : (valF s).2.2 = true) (ht : t = str (s.data.toList.map (swp 76 82))) : valF t = (-(valF s).1, (valF s).2.1, true) := by
  obtain ⟨l, h1, h2, p, h3, h4, h5, h6, h7⟩ := valF_yes h
  have e : t = stB (l.map (!·)) := by rw [ht, h1, stB_swap]
  have hb : bitsOf t = l.map (!·) := by rw [e, bits_of_stB]
  have hz : t.size = l.length := by rw [e, stB_size, List.length_map]
  have hn : nf (vl (bitsOf t) t.size) = (-(valF s).1, p) := by
    rw [hb, hz, vl_not l _ (Nat.le_refl _), nf_neg, ← h7]
  unfold valF
  rw [hn, if_pos ⟨by rw [e]; exact signs_stB _ (by rw [List.length_map]; exact h2), by show goodDyB (-(valF s).1) p = true; rw [goodDy_neg]; exact h5⟩, ← h3]
  rfl
/-- The number of the stalk of a number. -/
theorem valF_stalkOf {t p : Int} (h : (stalkOfV t p).2 = true) : valF (stalkOfV t p).1 = (t, p, true) := by
  cases hg : goodDyB t p
  · rw [stalkOfV_bad t p hg] at h; cases h
  · have hg' := hg
    unfold goodDyB at hg'
    simp at hg'
    obtain ⟨q, rfl⟩ := Int.eq_ofNat_of_zero_le (show 0 ≤ p by omega)
    unfold stalkOfV at h ⊢
    rw [if_pos hg, Int.toNat_natCast] at h ⊢
    cases hf : (List.range 17).find? (fun n => decide (sW (sc t q) n = sc t q)) with
    | none => rw [hf] at h; cases h
    | some n =>
      rw [List.find?_range_eq_some] at hf
      obtain ⟨f1, f2, f3⟩ := hf
      have hn : n ≤ 16 := by simp at f2; omega
      have f1 : vl (stk (sc t q) n) n = sc t q := (by simpa using f1 : sW (sc t q) n = sc t q)
      have hl := stk_len (sc t q) n
      have hnf : nf (vl (bitsOf (stB (stk (sc t q) n))) (stB (stk (sc t q) n)).size) = (t, q) := by
        rw [bits_of_stB, stB_size, hl, f1, nf_sc t q (by omega), nrm_fix q t (by omega)]
      show valF (stB (stk (sc t q) n)) = _
      unfold valF
      rw [hnf, if_pos ⟨signs_stB _ (by rw [hl]; exact hn), hg⟩]
end Go.Proofs.YtadljglcbieifaaDoor
