/- The program's test of a component is the reference's: the plain law. Conditions: none. -/
import Derived.Test.YtpepkpikeggceaaDoorGp1
namespace Go.Proofs.YtpepkpikeggceaaDoor
open Go.RowKit
set_option linter.unusedVariables false

theorem fr_spl (l : List UInt8) : fr ((spl 47 l).map (fun p => p.map (· == 46))) = l.count 46 := by
  induction l with
  | nil => rfl
  | cons b l ih =>
    by_cases hb : b = 47
    · subst hb
      rw [show spl 47 ((47 : UInt8) :: l) = [] :: spl 47 l by simp [spl], List.map_cons, fr, ih, List.count_cons]
      simp
    · cases hs : spl 47 l with
      | nil =>
        rw [hs] at ih
        have hc : l.count 46 = 0 := by rw [← ih]; rfl
        rw [show spl 47 (b :: l) = [[b]] by simp [spl, hb, hs], List.count_cons, hc]
        by_cases h4 : b = 46 <;> simp [fr, h4]
      | cons p ps =>
        rw [hs, List.map_cons, fr] at ih
        rw [show spl 47 (b :: l) = (b :: p) :: ps by simp [spl, hb, hs], List.map_cons, fr, List.map_cons, List.count_cons, List.count_cons, ← ih]
        by_cases h4 : b = 46 <;> simp [h4] <;> omega
theorem fr_pieces (t : ByteArray) : fr (brows (pieces 47 t)) = t.data.toList.count 46 := by
  rw [← fr_spl]
  congr 1
  unfold brows pieces
  rw [List.map_map]
  exact List.map_congr_left fun p _ => rfl

theorem itoa_small {n : Nat} (h : n ≤ 7) : Lib.itoa (n : Int) = [UInt8.ofNat (48 + n)] := by
  rw [Lib.itoa_nonneg]
  exact Lib.decDigits_one (by omega)
theorem hp_law (t : ByteArray) : decide (0 ≤ hpOf t) = (rnB t && inB (rnV t) 0 7) := by
  rw [Bool.eq_iff_iff, decide_eq_true_iff, Bool.and_eq_true]
  constructor
  · intro h
    match hl : t.data.toList with
    | [c] =>
      rw [hpOf_one hl] at h
      by_cases hc : 48 ≤ c.toNat ∧ c.toNat ≤ 55
      · have hn : isNum t ((c.toNat - 48 : Nat) : Int) := by
          refine ⟨by omega, by omega, ?_⟩
          rw [hl, itoa_small (by omega), show 48 + (c.toNat - 48) = c.toNat by omega]
          simp
        obtain ⟨h1, h2⟩ := rn_yes hn
        refine ⟨h1, ?_⟩
        rw [h2]
        simp [inB]
        omega
      · rw [if_neg hc] at h; omega
    | [] => rw [hpOf_len (by have := data_len t; rw [hl] at this; simp at this; omega)] at h; omega
    | _ :: _ :: _ => rw [hpOf_len (by have := data_len t; rw [hl] at this; simp at this; omega)] at h; omega
  · rintro ⟨h1, h2⟩
    by_cases hn : ∃ n, isNum t n
    · obtain ⟨n, hn⟩ := hn
      obtain ⟨-, h3⟩ := rn_yes hn
      rw [h3] at h2
      simp [inB] at h2
      obtain ⟨m, rfl⟩ := Int.eq_ofNat_of_zero_le h2.1
      have hd := hn.2.2
      rw [itoa_small (by omega)] at hd
      rw [hpOf_one hd]
      have : (UInt8.ofNat (48 + m)).toNat = 48 + m := by rw [UInt8.toNat_ofNat']; omega
      rw [this, if_pos (by omega)]
      omega
    · rw [(rn_no fun n h => hn ⟨n, h⟩).1] at h1
      cases h1

/-- The program's test of a component at a verb is the reference's. -/
theorem gd_verb (n : Nat) (hn : n < 7) (t : ByteArray) : gdB (gs verbs n) t = kB n t := by
  have : n = 0 ∨ n = 1 ∨ n = 2 ∨ n = 3 ∨ n = 4 ∨ n = 5 ∨ n = 6 := by omega
  rcases this with rfl | rfl | rfl | rfl | rfl | rfl | rfl
  · show gdB ⟨#[116, 111, 97, 100, 115]⟩ t = kB 0 t
    have hs : skOf ⟨#[116, 111, 97, 100, 115]⟩ = 0 := by unfold skOf; simp [ByteArray.toList_eq]
    rw [kB_strip (by omega) (by omega)]
    unfold gdB
    rw [hs]
    simp [ByteArray.toList_eq]
  · show gdB ⟨#[99, 108, 111, 98]⟩ t = kB 1 t
    have hs : skOf ⟨#[99, 108, 111, 98]⟩ = 1 := by unfold skOf; simp [ByteArray.toList_eq]
    rw [kB_strip (by omega) (by omega)]
    unfold gdB
    rw [hs]
    simp [ByteArray.toList_eq]
  · show gdB ⟨#[117, 110, 108, 105, 107, 101]⟩ t = kB 2 t
    have hs : skOf ⟨#[117, 110, 108, 105, 107, 101]⟩ = 2 := by unfold skOf; simp [ByteArray.toList_eq]
    rw [kB_strip (by omega) (by omega)]
    unfold gdB
    rw [hs]
    simp [ByteArray.toList_eq]
  · show gdB ⟨#[97, 108, 105, 107, 101]⟩ t = kB 3 t
    have hs : skOf ⟨#[97, 108, 105, 107, 101]⟩ = 3 := by unfold skOf; simp [ByteArray.toList_eq]
    rw [kB_strip (by omega) (by omega)]
    unfold gdB
    rw [hs]
    simp [ByteArray.toList_eq]
  · show gdB ⟨#[100, 111, 109]⟩ t = kB 4 t
    rw [kB_dom, fr_pieces]
    unfold gdB
    simp [ByteArray.toList_eq]
  · show gdB ⟨#[115, 116, 97, 108, 107]⟩ t = kB 5 t
    rw [kB_stalk]
    unfold gdB signsB
    simp [ByteArray.toList_eq]
    rw [Bool.and_comm]
    congr 1
    exact decide_eq_decide.2 (by omega)
  · show gdB ⟨#[110, 105, 109]⟩ t = kB 6 t
    rw [kB_nim, ← hp_law]
    unfold gdB
    simp [ByteArray.toList_eq]
/-- A text that is no verb makes no good component. -/
theorem gd_none (a t : ByteArray) (h : ∀ n, n < 7 → a ≠ gs verbs n) : gdB a t = false := by
  have q : ∀ (n : Nat) (hn : n < 7) (y : List UInt8), (gs verbs n).data.toList = y → (a.toList == y) = false := fun n hn y hy => by
    rw [ByteArray.toList_eq, beq_eq_false_iff_ne]
    intro hh
    exact h n hn (ByteArray.ext (Array.toList_inj.1 (hh.trans hy.symm)))
  unfold gdB skOf
  rw [q 4 (by omega) [100, 111, 109] rfl, q 5 (by omega) [115, 116, 97, 108, 107] rfl, q 6 (by omega) [110, 105, 109] rfl, q 0 (by omega) [116, 111, 97, 100, 115] rfl, q 1 (by omega) [99, 108, 111, 98] rfl, q 2 (by omega) [117, 110, 108, 105, 107, 101] rfl, q 3 (by omega) [97, 108, 105, 107, 101] rfl]
  rfl
/-- Whether a text is a good single. -/
noncomputable def sgB (s : ByteArray) : Bool := @decide (∃ a b, s.data.toList = a ++ 32 :: b ∧ (32 : UInt8) ∉ a ∧ gdB (str a) (str b) = true) (Classical.propDecidable _)
theorem mem_first {l : List UInt8} {c : UInt8} (h : c ∈ l) : ∃ a b, l = a ++ c :: b ∧ c ∉ a := by
  induction l with
  | nil => cases h
  | cons x l ih =>
    by_cases hx : x = c
    · exact ⟨[], l, by rw [hx]; rfl, by simp⟩
    · obtain ⟨a, b, e, ha⟩ := ih (by cases h with | head => exact absurd rfl hx | tail _ k => exact k)
      exact ⟨x :: a, b, by rw [e]; rfl, by simp only [List.mem_cons, not_or]; exact ⟨fun k => hx k.symm, ha⟩⟩
theorem cut_one {a b c d : List UInt8} (h : a ++ 32 :: b = c ++ 32 :: d) (ha : (32 : UInt8) ∉ a) (hc : (32 : UInt8) ∉ c) : a = c ∧ b = d := by
  induction a generalizing c with
  | nil =>
    cases c with
    | nil => exact ⟨rfl, by injection h⟩
    | cons x c => injection h with h1 h2; subst h1; exact absurd List.mem_cons_self hc
  | cons x a ih =>
    cases c with
    | nil => injection h with h1 h2; subst h1; exact absurd List.mem_cons_self ha
    | cons y c =>
      injection h with h1 h2
      obtain ⟨e1, e2⟩ := ih h2 (fun k => ha (List.mem_cons_of_mem _ k)) (fun k => hc (List.mem_cons_of_mem _ k))
      exact ⟨by rw [h1, e1], e2⟩
theorem sg_yes {s : ByteArray} {a b : List UInt8} (hs : s.data.toList = a ++ 32 :: b) (ha : (32 : UInt8) ∉ a) : sgB s = gdB (str a) (str b) := by
  unfold sgB
  cases hg : gdB (str a) (str b)
  · exact @decide_eq_false _ (Classical.propDecidable _) (by
      rintro ⟨c, d, h1, h2, h3⟩
      obtain ⟨e1, e2⟩ := cut_one (hs.symm.trans h1) ha h2
      rw [← e1, ← e2, hg] at h3
      cases h3)
  · exact @decide_eq_true _ (Classical.propDecidable _) ⟨a, b, hs, ha, hg⟩
theorem sg_no {s : ByteArray} (h : (32 : UInt8) ∉ s.data.toList) : sgB s = false := by
  unfold sgB
  exact @decide_eq_false _ (Classical.propDecidable _) (by
    rintro ⟨c, d, h1, h2, h3⟩
    exact h (by rw [h1]; simp))
theorem verb_free {n : Nat} (hn : n < 7) : (32 : UInt8) ∉ (gs verbs n).data.toList := by
  have : n = 0 ∨ n = 1 ∨ n = 2 ∨ n = 3 ∨ n = 4 ∨ n = 5 ∨ n = 6 := by omega
  rcases this with rfl | rfl | rfl | rfl | rfl | rfl | rfl <;> decide
theorem str_back (a : ByteArray) : str a.data.toList = a := ByteArray.ext (Array.toList_inj.1 rfl)
/-- The reference's answer is sgB. -/
theorem sg_of {s t : ByteArray} {k : Int} (h : VbV s k t) : kB k t = sgB s := by
  rcases h with ⟨n, rfl, hn, h, -⟩ | ⟨rfl, rfl, h⟩
  · unfold isVb at h
    rw [sg_yes h (verb_free hn), str_back, str_back, gd_verb n hn]
  · rw [kB_no (by omega)]
    by_cases hsp : (32 : UInt8) ∈ s.data.toList
    · obtain ⟨a, b, hab, ha⟩ := mem_first hsp
      rw [sg_yes hab ha, gd_none _ _ fun n hn e => h n hn b (by unfold isVb; rw [← e]; exact hab)]
    · rw [sg_no hsp]

theorem singleS_sg (s : ByteArray) (w : World) (hmax : s.size ≤ 1048576) :
    Calls Tryd.prog 15 #[.string s] w fun e w' => e = .returned (.bool (sgB s)) ∧ Below w.heap.size w w' :=
  (singleS_any s w hmax).mono fun e w' ⟨⟨k, t, hv, he⟩, hb⟩ => ⟨by rw [he, sg_of hv], hb⟩
end Go.Proofs.YtpepkpikeggceaaDoor
