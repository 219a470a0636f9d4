/- The values of heaps of an octal game, as plain lists: options, mex, existence and uniqueness. Conditions: none. -/
import Derived.Test.YtbledcogbkeneaaLib
namespace Go.Proofs.Ytbledcogbkeneaa
open Go.RowKit
set_option linter.unusedVariables false

/-- The i-th value. -/
def gn (v : List Nat) (i : Nat) : Nat := v.getD i 0
def nats (v : List Nat) : List Int := v.map (fun (n : Nat) => (n : Int))
theorem nats_len (v : List Nat) : (nats v).length = v.length := by simp [nats]
theorem gi_nats (v : List Nat) (i : Nat) : gi (nats v) i = (gn v i : Nat) := by
  unfold gi gn nats
  by_cases h : i < v.length <;> simp [h, List.getD]
theorem nats_append (v u : List Nat) : nats (v ++ u) = nats v ++ nats u := by simp [nats]
theorem nats_inj {v u : List Nat} (h : nats v = nats u) : v = u := by
  induction v generalizing u with
  | nil => cases u with
    | nil => rfl
    | cons b u => simp [nats] at h
  | cons a v ih => cases u with
    | nil => simp [nats] at h
    | cons b u =>
      simp only [nats, List.map_cons, List.cons.injEq] at h
      rw [ih h.2, show a = b by omega]

/-- What one digit d allows where rest objects are left: a value x; of the splits those with the first part less than a0. -/
def optD (d : Int) (v : List Nat) (rest a0 x : Nat) : Prop :=
  (d % 2 = 1 ∧ rest = 0 ∧ x = 0) ∨ (d / 2 % 2 = 1 ∧ 0 < rest ∧ x = gn v rest) ∨
  (d / 4 % 2 = 1 ∧ ∃ a, 1 ≤ a ∧ a < a0 ∧ 2 * a ≤ rest ∧ x = gn v a ^^^ gn v (rest - a))
/-- .. of the first k digits, at a heap of h. -/
def optTo (code : List Int) (v : List Nat) (h k x : Nat) : Prop := ∃ j, j < k ∧ j < code.length ∧ j + 1 ≤ h ∧ optD (gi code j) v (h - (j + 1)) (h + 1) x
def isOpt (code : List Int) (v : List Nat) (h x : Nat) : Prop := optTo code v h code.length x
def isMex (S : Nat → Prop) (m : Nat) : Prop := ¬ S m ∧ ∀ j, j < m → S j
theorem isMex_unique {S : Nat → Prop} {m n : Nat} (h : isMex S m) (k : isMex S n) : m = n := by
  rcases Nat.lt_trichotomy m n with h1 | h1 | h1
  · exact absurd (k.2 m h1) h.1
  · exact h1
  · exact absurd (h.2 n h1) k.1
theorem isMex_congr {S T : Nat → Prop} (h : ∀ x, S x ↔ T x) {m : Nat} (hm : isMex S m) : isMex T m :=
  ⟨fun ht => hm.1 ((h m).2 ht), fun j hj => (h j).1 (hm.2 j hj)⟩
theorem exists_mex (S : Nat → Prop) (n : Nat) (h : ¬ S n) : ∃ m, isMex S m := by
  induction n using Nat.strongRecOn with
  | ind n ih =>
    by_cases hn : ∀ j, j < n → S j
    · exact ⟨n, h, hn⟩
    · have : ∃ j, j < n ∧ ¬ S j := by
        apply Classical.byContradiction
        intro hh
        exact hn fun j hj => Classical.byContradiction fun hs => hh ⟨j, hj, hs⟩
      obtain ⟨j, hj, hs⟩ := this
      exact ih j hj hs

/-- A bound of all values. -/
theorem gn_bound (v : List Nat) : ∃ n, ∀ i, gn v i < 2 ^ n := by
  induction v with
  | nil => exact ⟨0, fun i => by simp [gn]⟩
  | cons a v ih =>
    obtain ⟨n, hn⟩ := ih
    refine ⟨max n a, fun i => ?_⟩
    cases i with
    | zero =>
      have h1 : a < 2 ^ a := Nat.lt_two_pow_self
      have h2 : 2 ^ a ≤ 2 ^ (max n a) := Nat.pow_le_pow_right (by omega) (by omega)
      simp only [gn, List.getD_cons_zero]
      omega
    | succ i =>
      have h1 := hn i
      have h2 : 2 ^ n ≤ 2 ^ (max n a) := Nat.pow_le_pow_right (by omega) (by omega)
      simp only [gn, List.getD_cons_succ] at h1 ⊢
      omega
theorem optD_lt {d : Int} {v : List Nat} {rest a0 x n : Nat} (hn : ∀ i, gn v i < 2 ^ n) (h : optD d v rest a0 x) : x < 2 ^ n := by
  rcases h with ⟨_, _, rfl⟩ | ⟨_, _, rfl⟩ | ⟨_, a, _, _, _, rfl⟩
  · exact Nat.two_pow_pos n
  · exact hn _
  · exact Nat.xor_lt_two_pow (hn _) (hn _)
theorem isOpt_lt {code : List Int} {v : List Nat} {h x n k : Nat} (hn : ∀ i, gn v i < 2 ^ n) (ho : optTo code v h k x) : x < 2 ^ n := by
  obtain ⟨j, _, _, _, hd⟩ := ho
  exact optD_lt hn hd
theorem exists_mex_opt (code : List Int) (v : List Nat) (h : Nat) : ∃ m, isMex (isOpt code v h) m := by
  obtain ⟨n, hn⟩ := gn_bound v
  exact exists_mex _ (2 ^ n) fun ho => absurd (isOpt_lt hn ho) (by omega)

/-- v lists the values of the first heaps. -/
def isVals (code : List Int) (v : List Nat) : Prop := ∀ h, h < v.length → isMex (isOpt code v h) (gn v h)
/-- The options of a heap speak of smaller heaps alone. -/
theorem optD_congr {d : Int} {v u : List Nat} {rest a0 x : Nat} (hvu : ∀ i, i ≤ rest → gn v i = gn u i) (h : optD d v rest a0 x) : optD d u rest a0 x := by
  rcases h with h | ⟨h1, h2, h3⟩ | ⟨h1, a, ha, ha0, ha2, hx⟩
  · exact .inl h
  · exact .inr (.inl ⟨h1, h2, by rw [← hvu _ (Nat.le_refl _)]; exact h3⟩)
  · exact .inr (.inr ⟨h1, a, ha, ha0, ha2, by rw [← hvu a (by omega), ← hvu (rest - a) (by omega)]; exact hx⟩)
theorem isOpt_congr {code : List Int} {v u : List Nat} {h : Nat} (hvu : ∀ i, i < h → gn v i = gn u i) (x : Nat) : isOpt code v h x ↔ isOpt code u h x := by
  constructor
  · rintro ⟨j, h1, h2, h3, hd⟩
    exact ⟨j, h1, h2, h3, optD_congr (fun i hi => hvu i (by omega)) hd⟩
  · rintro ⟨j, h1, h2, h3, hd⟩
    exact ⟨j, h1, h2, h3, optD_congr (fun i hi => (hvu i (by omega)).symm) hd⟩
theorem gn_append_lt (v u : List Nat) {i : Nat} (h : i < v.length) : gn (v ++ u) i = gn v i := by
  simp [gn, List.getElem?_append_left h, h]
theorem gn_append_len (v : List Nat) (m : Nat) : gn (v ++ [m]) v.length = m := by simp [gn]
theorem isVals_snoc {code : List Int} {v : List Nat} (hv : isVals code v) {m : Nat} (hm : isMex (isOpt code v v.length) m) : isVals code (v ++ [m]) := by
  intro h hh
  rw [List.length_append, List.length_singleton] at hh
  by_cases hl : h < v.length
  · rw [gn_append_lt v _ hl]
    exact isMex_congr (fun x => isOpt_congr (fun i hi => (gn_append_lt v _ (by omega)).symm) x) (hv h hl)
  · obtain rfl : h = v.length := by omega
    rw [gn_append_len]
    exact isMex_congr (fun x => isOpt_congr (fun i hi => (gn_append_lt v _ hi).symm) x) hm
theorem isVals_nil (code : List Int) : isVals code [] := fun h hh => absurd hh (by simp)
theorem exists_vals (code : List Int) : ∀ n, ∃ v, v.length = n ∧ isVals code v := by
  intro n
  induction n with
  | zero => exact ⟨[], rfl, isVals_nil code⟩
  | succ n ih =>
    obtain ⟨v, hl, hv⟩ := ih
    obtain ⟨m, hm⟩ := exists_mex_opt code v v.length
    exact ⟨v ++ [m], by simp [hl], isVals_snoc hv hm⟩
theorem vals_agree {code : List Int} {v u : List Nat} (hv : isVals code v) (hu : isVals code u) : ∀ i, i < v.length → i < u.length → gn v i = gn u i := by
  intro i
  induction i using Nat.strongRecOn with
  | ind i ih =>
    intro h1 h2
    exact isMex_unique (isMex_congr (isOpt_congr fun j hj => ih j hj (by omega) (by omega)) (hv i h1)) (hu i h2)
theorem ext_gn {v u : List Nat} (hl : v.length = u.length) (h : ∀ i, i < v.length → gn v i = gn u i) : v = u := by
  refine List.ext_getElem hl fun i h1 h2 => ?_
  have := h i h1
  simpa [gn, h1, h2] using this
theorem vals_unique {code : List Int} {v u : List Nat} (hv : isVals code v) (hu : isVals code u) (hl : v.length = u.length) : v = u :=
  ext_gn hl fun i hi => vals_agree hv hu i hi (by omega)
/-- The values of the first n heaps. -/
noncomputable def V (code : List Int) (n : Nat) : List Nat := Classical.choose (exists_vals code n)
theorem V_len (code : List Int) (n : Nat) : (V code n).length = n := (Classical.choose_spec (exists_vals code n)).1
theorem V_vals (code : List Int) (n : Nat) : isVals code (V code n) := (Classical.choose_spec (exists_vals code n)).2
theorem V_of {code : List Int} {v : List Nat} (hv : isVals code v) : v = V code v.length := vals_unique hv (V_vals code _) (V_len code _).symm
theorem V_gn (code : List Int) {n m i : Nat} (h1 : i < n) (h2 : i < m) : gn (V code n) i = gn (V code m) i :=
  vals_agree (V_vals code n) (V_vals code m) i (by rw [V_len]; exact h1) (by rw [V_len]; exact h2)
theorem V_snoc (code : List Int) (n : Nat) {m : Nat} (hm : isMex (isOpt code (V code n) n) m) : V code (n + 1) = V code n ++ [m] := by
  have := V_of (isVals_snoc (V_vals code n) (m := m) (by rw [V_len]; exact hm))
  rw [List.length_append, V_len, List.length_singleton] at this
  exact this.symm
theorem V_zero (code : List Int) : V code 0 = [] := List.eq_nil_of_length_eq_zero (V_len code 0)
/-- All values of the first n heaps are nimbers. -/
def small255 (v : List Nat) : Prop := ∀ i, i < v.length → gn v i ≤ 255
theorem small255_mono {code : List Int} {n m : Nat} (h : small255 (V code n)) (hm : m ≤ n) : small255 (V code m) := by
  intro i hi
  rw [V_len] at hi
  rw [V_gn code hi (show i < n by omega)]
  exact h i (by rw [V_len]; omega)
end Go.Proofs.Ytbledcogbkeneaa
