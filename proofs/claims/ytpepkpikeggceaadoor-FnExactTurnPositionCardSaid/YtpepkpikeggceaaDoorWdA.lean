/- Several texts in one: XWords XWords2 XPos0 XPos1. Conditions: none. -/
import Derived.Test.YtpepkpikeggceaaDoorGp2
import Derived.Test.YtpepkpikeggceaaDoorSplit
import Derived.Test.YtpepkpikeggceaaDoorShelfS
import Derived.Shelf.Strings.Split
import Derived.Lib.IndexLaws
namespace Go.Proofs.YtpepkpikeggceaaDoor
open Go.RowKit
set_option linter.unusedVariables false

def plus : ByteArray := ⟨#[32, 43, 32]⟩
/-- The words of a text between the plus signs. -/
def words (s : ByteArray) : List ByteArray := Lib.splitB plus 0 (Lib.countB s plus) s
theorem words_len (s : ByteArray) : (words s).length = Lib.countB s plus + 1 := Lib.splitB_all plus (by decide) 0 _ s rfl
/-- The words are what the bytes' split says. -/
theorem words_data (s : ByteArray) : (words s).map (·.data.toList) = Lib.splitK [32, 43, 32] 0 (Lib.count s.data.toList [32, 43, 32]) s.data.toList := Lib.splitB_data plus 0 (Lib.countB s plus) s

set_option maxHeartbeats 1000000 in
theorem splitW_any (s : ByteArray) (m : Int) (w : World) (hs : s.size ≤ 10000000) (hm : w.cell? ⟨Tryd.lays146_ren.g 1, 0, none⟩ = some (.int .i64 m)) :
    Calls Tryd.prog 16 #[.string s, .string ⟨#[32, 43, 32]⟩] w fun e w' => ∃ A c', e = .returned (.slice A (words s).length c') ∧ Own w' w.heap.size 9 (.slice A (words s).length c') (scells (words s)) ∧ Below w.heap.size w w' := by
  have hle := Lib.countB_le plus (by decide) s.size s (Nat.le_refl _)
  have hlen := words_len s
  have c := Any.strings_Split { Tryd.lays146 with } (by kernel_rfl) s plus m w (by omega) hm (by decide)
  refine c.mono fun e w' ⟨h1, h2⟩ => ⟨some ⟨w.heap.size, 0, none⟩, Lib.countB s plus + 1, by rw [h1, hlen], ?_, by rw [h2]; exact bel1 _ _⟩
  rw [h2, ← hlen]
  have ho := Own.new w w.heap.size 9 (scells (words s)) (Nat.le_refl _) (by rw [scells_len]; omega)
  rw [scells_len] at ho
  exact ho
/-- The bytes of pieces and of what stands between them. -/
def tot : List (List UInt8) → Nat
  | [] => 0
  | p :: ps => p.length + 1 + tot ps
theorem tot_spl (c : UInt8) (l : List UInt8) : tot (spl c l) = l.length + 1 := by
  induction l with
  | nil => rfl
  | cons b l ih =>
    by_cases hb : b = c
    · rw [show spl c (b :: l) = [] :: spl c l by simp [spl, hb], tot, ih, List.length_cons, List.length_nil]; omega
    · cases hs : spl c l with
      | nil => rw [hs] at ih; simp [tot] at ih
      | cons p ps =>
        rw [hs, tot] at ih
        rw [show spl c (b :: l) = (b :: p) :: ps by simp [spl, hb, hs], tot, List.length_cons, List.length_cons]
        omega
theorem tot_le (n : Nat) (ps : List (List UInt8)) (h : ∀ p, p ∈ ps → p.length ≤ n) : tot ps ≤ (n + 1) * ps.length := by
  induction ps with
  | nil => exact Nat.zero_le _
  | cons p ps ih =>
    have h1 := h p List.mem_cons_self
    have h2 := ih fun q hq => h q (List.mem_cons_of_mem _ hq)
    rw [tot, List.length_cons, Nat.mul_add]
    omega
theorem board_short {t : ByteArray} (h : boardB (pieces 47 t) = true) : t.size ≤ 71 := by
  have hb := boardB_of h
  have hl : (spl 47 t.data.toList).length ≤ 8 := by
    have := hb.1.2
    rw [pieces, List.length_map] at this
    exact this
  have hp : ∀ p, p ∈ spl 47 t.data.toList → p.length ≤ 8 := by
    intro p hp
    obtain ⟨i, hi, rfl⟩ := List.mem_iff_getElem.1 hp
    have hi2 : i < (pieces 47 t).length := by rw [pieces, List.length_map]; exact hi
    have h1 := (hb.2.2 i hi2).1
    have h2 := hb.2.1.2
    have h3 : gs (pieces 47 t) i = str ((spl 47 t.data.toList)[i]) := by
      unfold gs
      simp [pieces, hi]
    rw [h3] at h1
    have h4 : (str ((spl 47 t.data.toList)[i])).size = ((spl 47 t.data.toList)[i]).length := by rw [← data_len]; rfl
    omega
  have h1 := tot_le 8 _ hp
  have h2 := tot_spl 47 t.data.toList
  have h3 := data_len t
  have h4 : (8 + 1) * (spl 47 t.data.toList).length ≤ 9 * 8 := Nat.mul_le_mul_left 9 hl
  omega
theorem gd_short (a t : ByteArray) (h : gdB a t = true) : a.size ≤ 6 ∧ t.size ≤ 71 := by
  by_cases hv : ∃ n, n < 7 ∧ a = gs verbs n
  · obtain ⟨n, hn, rfl⟩ := hv
    refine ⟨(verbs_short hn).2, ?_⟩
    rw [gd_verb n hn] at h
    have : n = 0 ∨ n = 1 ∨ n = 2 ∨ n = 3 ∨ n = 4 ∨ n = 5 ∨ n = 6 := by omega
    by_cases h3 : n ≤ 3
    · rw [kB_strip (by omega) (by omega), Bool.and_eq_true] at h
      have := of_decide_eq_true h.2
      omega
    · have : n = 4 ∨ n = 5 ∨ n = 6 := by omega
      rcases this with rfl | rfl | rfl
      · change kB 4 t = true at h
        rw [kB_dom, Bool.and_eq_true] at h
        exact board_short h.1
      · change kB 5 t = true at h
        rw [kB_stalk, signsB, Bool.and_eq_true] at h
        have := of_decide_eq_true h.2
        omega
      · change kB 6 t = true at h
        rw [kB_nim, ← hp_law] at h
        have h0 := of_decide_eq_true h
        by_cases h1 : t.size = 1
        · omega
        · rw [hpOf_len h1] at h0; omega
  · rw [gd_none a t fun n hn e => hv ⟨n, hn, e⟩] at h
    cases h
theorem sg_short {s : ByteArray} (h : sgB s = true) : s.size ≤ 78 := by
  by_cases hsp : (32 : UInt8) ∈ s.data.toList
  · obtain ⟨a, b, hab, ha⟩ := mem_first hsp
    rw [sg_yes hab ha] at h
    obtain ⟨h1, h2⟩ := gd_short _ _ h
    have e1 : (str a).size = a.length := by rw [← data_len]; rfl
    have e2 : (str b).size = b.length := by rw [← data_len]; rfl
    have := data_len s
    rw [hab, List.length_append, List.length_cons] at this
    omega
  · rw [sg_no hsp] at h; cases h
end Go.Proofs.YtpepkpikeggceaaDoor
namespace Go.Proofs.YtpepkpikeggceaaDoor
open Go.RowKit
set_option linter.unusedVariables false

/-- Whether a plus sign between spaces stands at i. -/
def atP (s : ByteArray) (i : Nat) : Bool := Lib.occAt s.data.toList [32, 43, 32] i
/-- ws are the words of s from f on. -/
inductive WD (s : ByteArray) : Nat → List ByteArray → Prop
  | last (f : Nat) (hf : f ≤ s.size) (h : ∀ j, f ≤ j → j ≤ s.size → atP s j = false) : WD s f [s.extract f s.size]
  | more (f i : Nat) (ws : List ByteArray) (hf : f ≤ i) (hi : i + 3 ≤ s.size) (h : ∀ j, f ≤ j → j < i → atP s j = false) (ha : atP s i = true) (hw : WD s (i + 3) ws) : WD s f (s.extract f i :: ws)
theorem atP_room {s : ByteArray} {i : Nat} (h : atP s i = true) : i + 3 ≤ s.size := by
  unfold atP Lib.occAt at h
  have := (List.isPrefixOf_iff_prefix.1 h).length_le
  rw [List.length_drop, data_len] at this
  simp at this
  omega
theorem atP_drop (s : ByteArray) (f j : Nat) : atP (s.extract f s.size) j = atP s (f + j) := by
  unfold atP Lib.occAt
  rw [data_slice, List.take_of_length_le (by rw [List.length_drop, data_len]; exact Nat.le_refl _), List.drop_drop]
theorem first_at (s : ByteArray) : ∀ n, (∀ j, j < n → atP s j = false) ∨ ∃ i, i < n ∧ atP s i = true ∧ ∀ j, j < i → atP s j = false := by
  intro n
  induction n with
  | zero => exact Or.inl fun j hj => absurd hj (Nat.not_lt_zero _)
  | succ n ih =>
    rcases ih with h | ⟨i, h1, h2, h3⟩
    · cases ha : atP s n
      · exact Or.inl fun j hj => by
          rcases Nat.lt_or_ge j n with h4 | h4
          · exact h j h4
          · rw [show j = n by omega]; exact ha
      · exact Or.inr ⟨n, by omega, ha, h⟩
    · exact Or.inr ⟨i, by omega, h2, h3⟩
theorem words_wd (s : ByteArray) : ∀ (d f : Nat), f ≤ s.size → s.size - f = d → WD s f (words (s.extract f s.size)) := by
  intro d
  induction d using Nat.strongRecOn with
  | ind d ih =>
    intro f hf hd
    obtain ⟨u, hu⟩ : ∃ u, u = s.extract f s.size := ⟨_, rfl⟩
    have hus : u.size = s.size - f := by rw [hu, ByteArray.size_extract]; omega
    have hud : u.data.toList = s.data.toList.drop f := by rw [hu, data_slice, List.take_of_length_le (by rw [List.length_drop, data_len]; exact Nat.le_refl _)]
    have hat : ∀ j, atP u j = atP s (f + j) := fun j => by rw [hu]; exact atP_drop s f j
    rcases first_at u (u.size + 1) with h | ⟨i, hi, ha, hn⟩
    · have hx : Lib.indexB u plus = -1 := Lib.index_none fun j hj => h j (by rw [data_len] at hj; omega)
      have hw : words u = [u] := by unfold words; exact Lib.splitB_miss plus 0 _ u hx
      rw [← hu, hw, hu]
      exact WD.last f hf fun j h1 h2 => by
        have := h (j - f) (by omega)
        rw [hat, show f + (j - f) = j by omega] at this
        exact this
    · have hx : Lib.indexB u plus = i := Lib.index_first (by rw [data_len]; omega) ha hn
      have hr := atP_room ha
      have hc := Lib.countB_hit u plus i (by decide) hx
      have hp3 : plus.size = 3 := rfl
      have e2 : u.extract (i + plus.size) u.size = s.extract (f + i + 3) s.size := by
        rw [hp3]
        apply ByteArray.ext
        apply Array.toList_inj.1
        rw [data_slice, data_slice, hud, hus, List.drop_drop, show f + (i + 3) = f + i + 3 by omega, show s.size - f - (i + 3) = s.size - (f + i + 3) by omega]
      have e1 : u.extract 0 (i + 0) = s.extract f (f + i) := by
        apply ByteArray.ext
        apply Array.toList_inj.1
        rw [data_slice, data_slice, hud]
        simp
      have hw : words u = s.extract f (f + i) :: words (s.extract (f + i + 3) s.size) := by
        unfold words
        rw [hc, Nat.add_comm 1, Lib.splitB_hit plus 0 _ u i hx, e2, e1]
      rw [← hu, hw]
      refine WD.more f (f + i) _ (by omega) (by omega) (fun j h1 h2 => ?_) (by rw [← hat]; exact ha) (ih (s.size - (f + i + 3)) (by omega) (f + i + 3) (by omega) rfl)
      have := hn (j - f) (by omega)
      rw [hat, show f + (j - f) = j by omega] at this
      exact this
theorem words_at (s : ByteArray) : WD s 0 (words s) := by
  have h := words_wd s s.size 0 (Nat.zero_le _) (by omega)
  have e : s.extract 0 s.size = s := by
    apply ByteArray.ext
    apply Array.toList_inj.1
    rw [data_slice, List.drop_zero, Nat.sub_zero, List.take_of_length_le (by rw [data_len]; exact Nat.le_refl _)]
  rw [e] at h
  exact h
end Go.Proofs.YtpepkpikeggceaaDoor
namespace Go.Proofs.YtpepkpikeggceaaDoor
open Go.RowKit
set_option linter.unusedVariables false

/-- "none". -/
def noneL : List UInt8 := [110, 111, 110, 101]
noncomputable def posB (s : ByteArray) : Bool := (s.toList == noneL) || (decide ((words s).length ≤ 6) && (words s).all sgB)
noncomputable def posL (s : ByteArray) : List ByteArray := if (s.toList == noneL) = true then [] else if posB s = true then words s else []
theorem posB_mk {s : ByteArray} (hn : (s.toList == noneL) = false) : posB s = (decide ((words s).length ≤ 6) && (words s).all sgB) := by unfold posB; rw [hn]; rfl
theorem pos_bad {s : ByteArray} (hn : (s.toList == noneL) = false) {x : ByteArray} (hx : x ∈ words s) (hg : sgB x = false) : posB s = false ∧ posL s = [] := by
  have h : posB s = false := by
    rw [posB_mk hn, Bool.and_eq_false_iff]
    exact Or.inr (by rw [List.all_eq_false]; exact ⟨x, hx, by rw [hg]; decide⟩)
  exact ⟨h, by unfold posL; rw [hn, h]; rfl⟩
theorem pos_many {s : ByteArray} (hn : (s.toList == noneL) = false) (hx : 7 ≤ (words s).length) : posB s = false ∧ posL s = [] := by
  have h : posB s = false := by
    rw [posB_mk hn, Bool.and_eq_false_iff]
    exact Or.inl (decide_eq_false (by omega))
  exact ⟨h, by unfold posL; rw [hn, h]; rfl⟩
theorem pos_good {s : ByteArray} (hn : (s.toList == noneL) = false) (hx : (words s).length ≤ 6) (hg : ∀ x, x ∈ words s → sgB x = true) : posB s = true ∧ posL s = words s := by
  have h : posB s = true := by
    rw [posB_mk hn, Bool.and_eq_true]
    exact ⟨decide_eq_true hx, List.all_eq_true.2 hg⟩
  exact ⟨h, by unfold posL; rw [hn, h]; rfl⟩
theorem atP_slice {s : ByteArray} {k : Nat} (h : k + 3 ≤ s.size) : ((s.extract k (k + 3)).toList == [32, 43, 32]) = atP s k := by
  rw [ByteArray.toList_eq, data_slice, Nat.add_sub_cancel_left]
  unfold atP Lib.occAt
  rw [Bool.eq_iff_iff, beq_iff_eq, List.isPrefixOf_iff_prefix, List.prefix_iff_eq_take]
  exact eq_comm
/-- Where the reference stands at k: from f on, behind the words os. -/
def AtW (s : ByteArray) (k f : Nat) (os : List ByteArray) : Prop :=
  (∀ x, x ∈ os → sgB x = true) ∧ ((k ≤ s.size ∧ f ≤ s.size ∧ (∃ ws, WD s f ws ∧ words s = os ++ ws) ∧ ∀ j, f ≤ j → j < k → atP s j = false) ∨ (k = s.size + 1 ∧ words s = os))
theorem AtW.start (s : ByteArray) : AtW s 0 0 [] := ⟨fun x h => (by cases h), Or.inl ⟨Nat.zero_le _, Nat.zero_le _, ⟨_, words_at s, rfl⟩, fun j _ h => absurd h (Nat.not_lt_zero _)⟩⟩
theorem AtW.skip {s : ByteArray} {k f : Nat} {os : List ByteArray} (h : AtW s k f os) (hk : k < s.size) (hc : k < f ∨ atP s k = false) : AtW s (k + 1) f os := by
  obtain ⟨h1, ⟨h2, h3, h4, h5⟩ | ⟨h2, -⟩⟩ := h
  · refine ⟨h1, Or.inl ⟨hk, h3, h4, fun j hj hl => ?_⟩⟩
    rcases Nat.lt_or_ge j k with e | e
    · exact h5 j hj e
    · rcases hc with e1 | e1
      · omega
      · rw [show j = k by omega]; exact e1
  · omega
/-- A word ends at k. -/
theorem AtW.word {s : ByteArray} {k f : Nat} {os : List ByteArray} (h : AtW s k f os) (hk : k ≤ s.size) (hf : f ≤ k) (hc : k = s.size ∨ atP s k = true) :
    s.extract f k ∈ words s ∧ os.length + 1 ≤ (words s).length ∧ (sgB (s.extract f k) = true → AtW s (k + 1) (k + 3) (os ++ [s.extract f k])) := by
  obtain ⟨h1, ⟨h2, h3, ⟨ws, hw, he⟩, h5⟩ | ⟨h2, -⟩⟩ := h
  · have hall : ∀ g, sgB g = true → ∀ x, x ∈ os ++ [g] → sgB x = true := fun g hg x hx => by
      rcases List.mem_append.1 hx with e | e
      · exact h1 x e
      · rw [List.mem_singleton.1 e]; exact hg
    cases hw with
    | last _ _ hno =>
      have hks : k = s.size := by
        rcases hc with e | e
        · exact e
        · rw [hno k hf hk] at e; cases e
      subst hks
      refine ⟨by rw [he]; simp, by rw [he, List.length_append]; simp, fun hg => ⟨hall _ hg, Or.inr ⟨rfl, he⟩⟩⟩
    | more _ i ws hfi hi hno ha hw =>
      have hki : k = i := by
        rcases Nat.lt_trichotomy k i with e | e | e
        · rcases hc with e1 | e1
          · omega
          · rw [hno k hf e] at e1; cases e1
        · exact e
        · rw [h5 i hfi e] at ha; cases ha
      subst hki
      refine ⟨by rw [he]; simp, by rw [he, List.length_append]; simp, fun hg => ⟨hall _ hg, Or.inl ⟨by omega, hi, ⟨ws, hw, by rw [he]; simp⟩, fun j hj hl => by omega⟩⟩⟩
  · omega
theorem AtW.stop {s : ByteArray} {k f : Nat} {os : List ByteArray} (h : AtW s k f os) (hk : ¬ k ≤ s.size) : words s = os ∧ ∀ x, x ∈ os → sgB x = true := by
  obtain ⟨h1, ⟨h2, -⟩ | ⟨-, h2⟩⟩ := h
  · exact absurd h2 hk
  · exact ⟨h2, h1⟩
end Go.Proofs.YtpepkpikeggceaaDoor
namespace Go.Proofs.YtpepkpikeggceaaDoor
open Go.RowKit
set_option linter.unusedVariables false

theorem WD.tot {s : ByteArray} {n : Nat} : ∀ {f : Nat} {ws : List ByteArray}, WD s f ws → (∀ x, x ∈ ws → x.size ≤ n) → s.size - f + 3 ≤ (n + 3) * ws.length := by
  intro f ws h
  induction h with
  | last f hf h =>
    intro hn
    have := hn _ List.mem_cons_self
    rw [ByteArray.size_extract] at this
    rw [List.length_singleton, Nat.mul_one]
    omega
  | more f i ws hf hi h ha hw ih =>
    intro hn
    have h1 := hn _ List.mem_cons_self
    rw [ByteArray.size_extract] at h1
    have h2 := ih fun x hx => hn x (List.mem_cons_of_mem _ hx)
    rw [List.length_cons, Nat.mul_add, Nat.mul_one]
    omega
theorem pos_long {s : ByteArray} (h : 600 < s.size) : posB s = false ∧ posL s = [] := by
  have hn : (s.toList == noneL) = false := by
    rw [ByteArray.toList_eq, beq_eq_false_iff_ne]
    intro e
    have := data_len s
    rw [e] at this
    simp [noneL] at this
    omega
  have hb : posB s = false := by
    rw [Bool.eq_false_iff]
    intro hp
    rw [posB_mk hn, Bool.and_eq_true] at hp
    have hl := of_decide_eq_true hp.1
    have h2 := (words_at s).tot (n := 78) fun x hx => sg_short (List.all_eq_true.1 hp.2 x hx)
    have h3 : (78 + 3) * (words s).length ≤ (78 + 3) * 6 := Nat.mul_le_mul_left _ hl
    omega
  exact ⟨hb, by unfold posL; rw [hn, hb]; rfl⟩
end Go.Proofs.YtpepkpikeggceaaDoor
