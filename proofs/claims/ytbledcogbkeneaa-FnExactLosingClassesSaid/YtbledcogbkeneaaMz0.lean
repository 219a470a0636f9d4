/- Misere values of positions: the plain law. Conditions: none. -/
import Derived.Test.YtbledcogbkeneaaMex
import Derived.Test.YtbledcogbkeneaaSrt0
namespace Go.Proofs.Ytbledcogbkeneaa
open Go.RowKit
set_option linter.unusedVariables false

/-- The sum. -/
def sm : List Int → Int
  | [] => 0
  | x :: xs => x + sm xs
theorem sm_append (a b : List Int) : sm (a ++ b) = sm a + sm b := by
  induction a with
  | nil => simp [sm]
  | cons x xs ih => simp only [List.cons_append, sm, ih]; omega
theorem sm_perm {a b : List Int} (h : a.Perm b) : sm a = sm b := by
  induction h with
  | nil => rfl
  | cons x _ ih => simp only [sm, ih]
  | swap x y l => simp only [sm]; omega
  | trans _ _ ih1 ih2 => rw [ih1, ih2]
theorem srt_perm (xs : List Int) : (srt xs).Perm xs := List.mergeSort_perm _ _
theorem sm_srt (xs : List Int) : sm (srt xs) = sm xs := sm_perm (srt_perm xs)
theorem srt_le (xs : List Int) : (srt xs).Pairwise (· ≤ ·) := by
  refine (List.pairwise_mergeSort (le := fun x y => decide (x ≤ y)) (fun a b c h k => ?_) (fun a b => ?_) xs).imp fun h => by simpa using h
  · simp at h k ⊢; omega
  · simp; omega
theorem mem_srt {xs : List Int} {x : Int} : x ∈ srt xs ↔ x ∈ xs := (srt_perm xs).mem_iff
theorem sorted_perm_eq : ∀ {a b : List Int}, a.Pairwise (· ≤ ·) → b.Pairwise (· ≤ ·) → a.Perm b → a = b := by
  intro a
  induction a with
  | nil => intro b _ _ h; exact h.nil_eq
  | cons x xs ih =>
    intro b ha hb h
    cases b with
    | nil => exact absurd h.symm.nil_eq (by simp)
    | cons y ys =>
      have ha' := List.pairwise_cons.1 ha
      have hb' := List.pairwise_cons.1 hb
      have hxy : x = y := by
        have h1 : x ∈ y :: ys := h.mem_iff.1 List.mem_cons_self
        have h2 : y ∈ x :: xs := h.mem_iff.2 List.mem_cons_self
        rcases List.mem_cons.1 h1 with e | e
        · exact e
        · rcases List.mem_cons.1 h2 with e' | e'
          · exact e'.symm
          · have := ha'.1 y e'
            have := hb'.1 x e
            omega
      subst hxy
      rw [ih ha'.2 hb'.2 (List.perm_cons _ |>.1 h)]
theorem srt_of {xs ys : List Int} (h : ys.Pairwise (· ≤ ·)) (hp : ys.Perm xs) : ys = srt xs := sorted_perm_eq h (srt_le xs) (hp.trans (srt_perm xs).symm)
theorem srt_congr {xs ys : List Int} (h : xs.Perm ys) : srt xs = srt ys := srt_of (srt_le xs) ((srt_perm xs).trans h)

theorem sm_nonneg {p : List Int} (h : ∀ x ∈ p, 0 ≤ x) : 0 ≤ sm p := by
  induction p with
  | nil => exact Int.le_refl _
  | cons x xs ih =>
    have h1 := h x List.mem_cons_self
    have h2 := ih fun y hy => h y (List.mem_cons_of_mem _ hy)
    simp only [sm]; omega
theorem mem_le_sm {p : List Int} (h : ∀ x ∈ p, 0 ≤ x) {x : Int} (hx : x ∈ p) : x ≤ sm p := by
  induction p with
  | nil => cases hx
  | cons y ys ih =>
    have h1 := h y List.mem_cons_self
    have h2 := sm_nonneg fun z hz => h z (List.mem_cons_of_mem _ hz)
    rcases List.mem_cons.1 hx with rfl | hx
    · simp only [sm]; omega
    · have := ih (fun z hz => h z (List.mem_cons_of_mem _ hz)) hx
      simp only [sm]; omega
theorem len_le_sm {p : List Int} (h : ∀ x ∈ p, 1 ≤ x) : (p.length : Int) ≤ sm p := by
  induction p with
  | nil => exact Int.le_refl _
  | cons x xs ih =>
    have h1 := h x List.mem_cons_self
    have h2 := ih fun y hy => h y (List.mem_cons_of_mem _ hy)
    simp only [sm, List.length_cons]; omega
theorem sm_split (p : List Int) : ∀ i, i < p.length → sm (p.take i) + gi p i + sm (p.drop (i + 1)) = sm p := by
  induction p with
  | nil => intro i h; simp at h
  | cons x xs ih =>
    intro i h
    cases i with
    | zero => simp [sm, gi]
    | succ i =>
      have := ih i (by simpa using h)
      have e : gi (x :: xs) (i + 1) = gi xs i := by simp [gi]
      rw [e]
      simp only [List.take_succ_cons, List.drop_succ_cons, sm]
      omega
theorem gi_mem {p : List Int} {i : Nat} (h : i < p.length) : gi p i ∈ p := by
  unfold gi
  rw [List.getD_eq_getElem?_getD, List.getElem?_eq_getElem h]
  exact List.getElem_mem h

/-- A position of at most N objects. -/
def Hp (N : Nat) (p : List Int) : Prop := (∀ x ∈ p, 1 ≤ x) ∧ p.Pairwise (· ≤ ·) ∧ sm p ≤ N
/-- What is left of a position, and behind it what a move leaves. -/
def aft0 (p : List Int) (i : Nat) (mv : List Int) : List Int := p.take i ++ p.drop (i + 1) ++ mv
def aft (p : List Int) (i : Nat) (mv : List Int) : List Int := srt (aft0 p i mv)
def optP (cs p q : List Int) : Prop := ∃ i, i < p.length ∧ ∃ mv, isMv cs (gi p i).toNat mv ∧ q = aft p i mv

theorem isMv_pos {cs : List Int} {n : Nat} {mv : List Int} (h : isMv cs n mv) : (∀ x ∈ mv, 1 ≤ x) ∧ sm mv + 1 ≤ n ∧ mv.length ≤ 2 ∧ mv.Pairwise (· ≤ ·) := by
  obtain ⟨j, h1, h2, h3, h4⟩ := h
  rcases h4 with ⟨_, _, rfl⟩ | ⟨_, h5, rfl⟩ | ⟨_, a, k1, k2, ha, rfl⟩
  · refine ⟨fun x hx => (by cases hx), ?_, by simp, List.Pairwise.nil⟩
    simp only [sm]; omega
  · refine ⟨fun x hx => ?_, ?_, by simp, by simp⟩
    · simp at hx; omega
    · simp only [sm]; omega
  · refine ⟨fun x hx => ?_, ?_, by simp, ?_⟩
    · simp at hx; omega
    · simp only [sm]; omega
    · simp; omega
theorem hp_aft0 {N : Nat} {cs p mv : List Int} {i : Nat} (hp : Hp N p) (hi : i < p.length) (hm : isMv cs (gi p i).toNat mv) : (∀ x ∈ aft0 p i mv, 1 ≤ x) ∧ sm (aft0 p i mv) + 1 ≤ sm p := by
  obtain ⟨h1, h2, h3⟩ := hp
  obtain ⟨m1, m2, _⟩ := isMv_pos hm
  have hs := sm_split p i hi
  have hg := h1 _ (gi_mem hi)
  refine ⟨fun x hx => ?_, ?_⟩
  · unfold aft0 at hx
    rcases List.mem_append.1 hx with hx | hx
    · rcases List.mem_append.1 hx with hx | hx
      · exact h1 x (List.mem_of_mem_take hx)
      · exact h1 x (List.mem_of_mem_drop hx)
    · exact m1 x hx
  · unfold aft0
    rw [sm_append, sm_append]
    omega
theorem hp_aft {N : Nat} {cs p mv : List Int} {i : Nat} (hp : Hp N p) (hi : i < p.length) (hm : isMv cs (gi p i).toNat mv) : Hp N (aft p i mv) ∧ sm (aft p i mv) + 1 ≤ sm p := by
  obtain ⟨h1, h2⟩ := hp_aft0 hp hi hm
  have e := sm_srt (aft0 p i mv)
  unfold aft
  refine ⟨⟨fun x hx => h1 x (mem_srt.1 hx), srt_le _, ?_⟩, ?_⟩
  · have := hp.2.2; omega
  · omega
theorem hp_opt {N : Nat} {cs p q : List Int} (hp : Hp N p) (h : optP cs p q) : Hp N q ∧ sm q + 1 ≤ sm p := by
  obtain ⟨i, hi, mv, hm, rfl⟩ := h
  exact hp_aft hp hi hm
theorem Hp.nonneg {N : Nat} {p : List Int} (h : Hp N p) : 0 ≤ sm p := sm_nonneg fun x hx => by have := h.1 x hx; omega
theorem Hp.le {N : Nat} {p : List Int} (h : Hp N p) {x : Int} (hx : x ∈ p) : 1 ≤ x ∧ x ≤ N := by
  have h1 := h.1 x hx
  have h2 := mem_le_sm (fun y hy => by have := h.1 y hy; omega) hx
  have h3 := h.2.2
  omega
theorem Hp.len {N : Nat} {p : List Int} (h : Hp N p) : p.length ≤ N := by
  have h1 := len_le_sm h.1
  have h3 := h.2.2
  omega

open Classical in
/-- The misere value, by so many steps. -/
noncomputable def mzF (cs : List Int) : Nat → List Int → Nat
  | 0, _ => 0
  | f + 1, p => if ∃ q, optP cs p q then epsilon (isMex fun x => ∃ q, optP cs p q ∧ x = mzF cs f q) else 1
noncomputable def mz (cs p : List Int) : Nat := mzF cs ((sm p).toNat + 1) p

open Classical in
theorem mzF_spec {N : Nat} (cs : List Int) : ∀ (f : Nat) (p : List Int), Hp N p → (sm p).toNat < f →
    mzF cs f p ≤ (sm p).toNat + 1 ∧ ((∃ q, optP cs p q) → isMex (fun x => ∃ q, optP cs p q ∧ x = mzF cs (f - 1) q) (mzF cs f p)) ∧ ((¬ ∃ q, optP cs p q) → mzF cs f p = 1) := by
  intro f
  induction f with
  | zero => intro p _ h; omega
  | succ f ih =>
    intro p hp hf
    by_cases hq : ∃ q, optP cs p q
    · have hn : ¬ ∃ q, optP cs p q ∧ (sm p).toNat + 1 = mzF cs f q := by
        rintro ⟨q, h1, h2⟩
        obtain ⟨h3, h4⟩ := hp_opt hp h1
        have h5 := h3.nonneg
        have := (ih q h3 (by omega)).1
        omega
      have hm := Classical.epsilon_spec (exists_mex (fun x => ∃ q, optP cs p q ∧ x = mzF cs f q) _ hn)
      have e : mzF cs (f + 1) p = Classical.epsilon (isMex fun x => ∃ q, optP cs p q ∧ x = mzF cs f q) := by
        show (if _ then _ else _) = _
        rw [if_pos hq]
      rw [e]
      refine ⟨?_, fun _ => hm, fun h => absurd hq h⟩
      apply Classical.byContradiction
      intro hlt
      exact hn (hm.2 _ (by omega))
    · have e : mzF cs (f + 1) p = 1 := by
        show (if _ then _ else _) = _
        rw [if_neg hq]
      rw [e]
      exact ⟨by omega, fun h => absurd h hq, fun _ => rfl⟩
theorem mzF_eq {N : Nat} (cs : List Int) : ∀ (f g : Nat) (p : List Int), Hp N p → (sm p).toNat < f → (sm p).toNat < g → mzF cs f p = mzF cs g p := by
  intro f
  induction f with
  | zero => intro g p _ h; omega
  | succ f ih =>
    intro g p hp h1 h2
    obtain ⟨_, a1, a2⟩ := mzF_spec cs (f + 1) p hp h1
    obtain ⟨_, b1, b2⟩ := mzF_spec cs g p hp h2
    by_cases hq : ∃ q, optP cs p q
    · refine isMex_unique (a1 hq) (isMex_congr (fun x => ?_) (b1 hq))
      refine exists_congr fun q => and_congr_right fun hq => ?_
      obtain ⟨h3, h4⟩ := hp_opt hp hq
      have h5 := h3.nonneg
      rw [← ih (g - 1) q h3 (by omega) (by omega)]
      exact Iff.rfl
    · rw [a2 hq, b2 hq]
theorem mz_mex {N : Nat} {cs p : List Int} (hp : Hp N p) (hq : ∃ q, optP cs p q) : isMex (fun x => ∃ q, optP cs p q ∧ x = mz cs q) (mz cs p) := by
  refine isMex_congr (fun x => ?_) ((mzF_spec cs _ p hp (Nat.lt_succ_self _)).2.1 hq)
  refine exists_congr fun q => and_congr_right fun hq => ?_
  obtain ⟨h3, h4⟩ := hp_opt hp hq
  have h5 := h3.nonneg
  rw [mz, mzF_eq cs ((sm p).toNat + 1 - 1) ((sm q).toNat + 1) q h3 (by omega) (by omega)]
theorem mz_one {N : Nat} {cs p : List Int} (hp : Hp N p) (hq : ¬ ∃ q, optP cs p q) : mz cs p = 1 := (mzF_spec cs _ p hp (Nat.lt_succ_self _)).2.2 hq
theorem mz_le {N : Nat} {cs p : List Int} (hp : Hp N p) : mz cs p ≤ N + 1 := by
  have h1 := (mzF_spec cs ((sm p).toNat + 1) p hp (Nat.lt_succ_self _)).1
  have h2 := hp.2.2
  have h3 := hp.nonneg
  unfold mz
  omega

/-- Heaps of one size leave the same. -/
theorem aft_same {p : List Int} {i : Nat} (hi : 0 < i) (hl : i < p.length) (h : gi p i = gi p (i - 1)) (mv : List Int) : aft p i mv = aft p (i - 1) mv := by
  have e1 : p.take i = p.take (i - 1) ++ [gi p (i - 1)] := by
    obtain ⟨j, rfl⟩ : ∃ j, i = j + 1 := ⟨i - 1, by omega⟩
    rw [Nat.add_sub_cancel, List.take_add_one, List.getElem?_eq_getElem (by omega)]
    simp [gi, show j < p.length by omega]
  have e2 : p.drop (i - 1 + 1) = gi p i :: p.drop (i + 1) := by
    rw [show i - 1 + 1 = i by omega]
    exact drop_gi p i hl
  unfold aft aft0
  rw [e1, e2, h]
  simp

/-- All positions of at most n objects, in heaps from a size on. -/
def parts : Nat → Nat → Nat → List (List Int)
  | 0, _, _ => [[]]
  | f + 1, lo, n => [] :: (List.range (n + 1)).flatMap fun h => if lo ≤ h then (parts f h (n - h)).map fun p => (h : Int) :: p else []
def cntP : Nat → Nat → Nat → Nat
  | 0, _, _ => 1
  | f + 1, lo, n => 1 + ((List.range (n + 1)).map fun h => if lo ≤ h then cntP f h (n - h) else 0).sum
theorem parts_len : ∀ f lo n, (parts f lo n).length = cntP f lo n
  | 0, _, _ => rfl
  | f + 1, lo, n => by
    simp only [parts, cntP, List.length_cons, List.length_flatMap]
    rw [Nat.add_comm]
    congr 2
    refine List.map_congr_left fun h _ => ?_
    split
    · rw [List.length_map, parts_len f]
    · rfl
theorem parts_mem : ∀ (f : Nat) (p : List Int) (lo n : Nat), p.length ≤ f → (∀ x ∈ p, (lo : Int) ≤ x) → p.Pairwise (· ≤ ·) → sm p ≤ n → p ∈ parts f lo n
  | 0, p, _, _, h, _, _, _ => by
    have : p = [] := List.eq_nil_of_length_eq_zero (by omega)
    subst this
    exact List.mem_cons_self
  | f + 1, [], _, _, _, _, _, _ => List.mem_cons_self
  | f + 1, x :: xs, lo, n, h, hx, hs, hn => by
    have hs' := List.pairwise_cons.1 hs
    have h0 := hx x List.mem_cons_self
    obtain ⟨k, rfl⟩ := Int.eq_ofNat_of_zero_le (show 0 ≤ x by omega)
    have hz : 0 ≤ sm xs := sm_nonneg fun y hy => by have := hs'.1 y hy; omega
    simp only [sm] at hn
    refine List.mem_cons_of_mem _ (List.mem_flatMap.2 ⟨k, List.mem_range.2 (by omega), ?_⟩)
    rw [if_pos (by omega)]
    exact List.mem_map.2 ⟨xs, parts_mem f xs k (n - k) (by simpa using h) (fun y hy => hs'.1 y hy) hs'.2 (by omega), rfl⟩
theorem cnt20 : cntP 20 1 20 = 2714 := by kernel_rfl
theorem hp_parts {p : List Int} (h : Hp 20 p) : p ∈ parts 20 1 20 := parts_mem 20 p 1 20 h.len h.1 h.2.1 h.2.2

theorem nodup_le {α : Type} [DecidableEq α] : ∀ (xs ys : List α), xs.Nodup → (∀ x ∈ xs, x ∈ ys) → xs.length ≤ ys.length
  | [], _, _, _ => Nat.zero_le _
  | x :: xs, ys, hd, h => by
    have hd' := List.nodup_cons.1 hd
    have h1 := nodup_le xs (ys.erase x) hd'.2 fun y hy => (List.mem_erase_of_ne (fun e => hd'.1 (by rw [← e]; exact hy))).2 (h y (List.mem_cons_of_mem _ hy))
    have h2 := List.length_erase_of_mem (h x List.mem_cons_self)
    have h3 : 0 < ys.length := List.length_pos_of_mem (h x List.mem_cons_self)
    simp only [List.length_cons]
    omega
theorem fewP {K : List (List Int)} (hd : K.Nodup) (h : ∀ p ∈ K, Hp 20 p) : K.length ≤ 2714 := by
  have := nodup_le K (parts 20 1 20) hd fun p hp => hp_parts (h p hp)
  rw [parts_len, cnt20] at this
  exact this

/-- The reference's key: how often each size is there. -/
def kf (p : List Int) : Nat → Nat
  | 0 => 0
  | h + 1 => kf p h * (20 / (h + 1) + 1) + p.count ((h + 1 : Nat) : Int)
def kR : Nat → Nat
  | 0 => 1
  | h + 1 => kR h * (20 / (h + 1) + 1)
theorem count_le_sm {p : List Int} (h : ∀ x ∈ p, 0 ≤ x) (k : Nat) : (k : Int) * (p.count (k : Int) : Int) ≤ sm p := by
  induction p with
  | nil => simp [sm]
  | cons x xs ih =>
    have h1 := h x List.mem_cons_self
    have h2 := ih fun y hy => h y (List.mem_cons_of_mem _ hy)
    rw [List.count_cons]
    simp only [sm]
    split
    · rename_i e
      have e : x = k := by simpa using e
      subst e
      rw [Int.natCast_add, Int.mul_add]
      simp
      omega
    · simp
      omega
theorem count_div {p : List Int} (h : Hp 20 p) (k : Nat) (hk : 0 < k) : p.count (k : Int) ≤ 20 / k := by
  have h1 := count_le_sm (p := p) (fun x hx => by have := h.1 x hx; omega) k
  have h2 := h.2.2
  rw [Nat.le_div_iff_mul_le hk, Nat.mul_comm]
  have : ((k * p.count (k : Int) : Nat) : Int) ≤ 20 := by rw [Int.natCast_mul]; exact Int.le_trans h1 h2
  omega
theorem kf_lt {p : List Int} (hp : Hp 20 p) : ∀ h, kf p h < kR h
  | 0 => by simp [kf, kR]
  | h + 1 => by
    have h1 := kf_lt hp h
    have h2 := count_div hp (h + 1) (by omega)
    simp only [kf, kR]
    have h3 : (kf p h + 1) * (20 / (h + 1) + 1) ≤ kR h * (20 / (h + 1) + 1) := Nat.mul_le_mul_right _ h1
    rw [Nat.add_mul, Nat.one_mul] at h3
    omega
theorem kR20 : kR 20 = 16094453760 := by kernel_rfl
theorem kf_inj {p q : List Int} (hp : Hp 20 p) (hq : Hp 20 q) : ∀ h, kf p h = kf q h → ∀ k, 1 ≤ k → k ≤ h → p.count (k : Int) = q.count (k : Int)
  | 0, _, k, h1, h2 => by omega
  | h + 1, e, k, h1, h2 => by
    have c1 := count_div hp (h + 1) (by omega)
    have c2 := count_div hq (h + 1) (by omega)
    simp only [kf] at e
    have e1 : p.count ((h + 1 : Nat) : Int) = q.count ((h + 1 : Nat) : Int) := by
      have := congrArg (· % (20 / (h + 1) + 1)) e
      simp only [Nat.mul_comm _ (20 / (h + 1) + 1), Nat.mul_add_mod] at this
      rwa [Nat.mod_eq_of_lt (by omega), Nat.mod_eq_of_lt (by omega)] at this
    have e2 : kf p h = kf q h := by
      have := congrArg (· / (20 / (h + 1) + 1)) e
      simp only [Nat.mul_comm _ (20 / (h + 1) + 1)] at this
      rwa [Nat.mul_add_div (by omega), Nat.mul_add_div (by omega), Nat.div_eq_of_lt (by omega), Nat.div_eq_of_lt (by omega), Nat.add_zero, Nat.add_zero] at this
    by_cases hk : k = h + 1
    · subst hk; exact e1
    · exact kf_inj hp hq h e2 k h1 (by omega)
theorem key_inj {p q : List Int} (hp : Hp 20 p) (hq : Hp 20 q) (h : kf p 20 = kf q 20) : p = q := by
  refine sorted_perm_eq hp.2.1 hq.2.1 (List.perm_iff_count.2 fun a => ?_)
  by_cases ha : 1 ≤ a ∧ a ≤ 20
  · obtain ⟨k, rfl⟩ := Int.eq_ofNat_of_zero_le (show 0 ≤ a by omega)
    exact kf_inj hp hq 20 h k (by omega) (by omega)
  · have n1 : a ∉ p := fun h => ha (by have := hp.le h; omega)
    have n2 : a ∉ q := fun h => ha (by have := hq.le h; omega)
    rw [List.count_eq_zero_of_not_mem n1, List.count_eq_zero_of_not_mem n2]
end Go.Proofs.Ytbledcogbkeneaa
