/- Splitting a text at " + ": the library's, by contract, and how long a good single may be. Conditions: none. -/
import Derived.Test.YtpepkpikeggceaaDoorGp2
import Derived.Test.YtpepkpikeggceaaDoorSplit
import Derived.Test.YtpepkpikeggceaaDoorShelfS
import Derived.Shelf.Strings.Split
namespace Go.Proofs.YtpepkpikeggceaaDoor
open Go.RowKit
set_option linter.unusedVariables false

def plus : ByteArray := ⟨#[32, 43, 32]⟩
/-- The words of a text between the plus signs. -/
def words (s : ByteArray) : List ByteArray := Lib.splitB plus 0 (Lib.countB s plus) s
theorem words_len (s : ByteArray) : (words s).length = Lib.countB s plus + 1 := Lib.splitB_all plus (by decide) 0 _ s rfl
/-- The words are what the bytes' split says. -/
theorem words_data (s : ByteArray) : (words s).map (·.data.toList) = Lib.splitK [32, 43, 32] 0 (Lib.count s.data.toList [32, 43, 32]) s.data.toList := Lib.splitB_data plus 0 (Lib.countB s plus) s

set_option maxHeartbeats 1000000 in
theorem splitW_any (s : ByteArray) (m : Int) (w : World) (hs : s.size ≤ 10000000) (hm : w.cell? ⟨Tryd.lays146_ren.g 1, 0, none⟩ = some (.int .i64 m)) :
    Calls Tryd.prog 16 #[.string s, .string ⟨#[32, 43, 32]⟩] w fun e w' => ∃ A c', e = .returned (.slice A (words s).length c') ∧ Own w' w.heap.size 9 (.slice A (words s).length c') (scells (words s)) ∧ Below w.heap.size w w' := by
  have hle := Lib.countB_le plus (by decide) s.size s (Nat.le_refl _)
  have hlen := words_len s
  have c := Any.strings_Split { Tryd.lays146 with } (by kernel_rfl) s plus m w (by omega) hm (by decide)
  refine c.mono fun e w' ⟨h1, h2⟩ => ⟨some ⟨w.heap.size, 0, none⟩, Lib.countB s plus + 1, by rw [h1, hlen], ?_, by rw [h2]; exact bel1 _ _⟩
  rw [h2, ← hlen]
  have ho := Own.new w w.heap.size 9 (scells (words s)) (Nat.le_refl _) (by rw [scells_len]; omega)
  rw [scells_len] at ho
  exact ho
/-- The bytes of pieces and of what stands between them. -/
def tot : List (List UInt8) → Nat
  | [] => 0
  | p :: ps => p.length + 1 + tot ps
theorem tot_spl (c : UInt8) (l : List UInt8) : tot (spl c l) = l.length + 1 := by
  induction l with
  | nil => rfl
  | cons b l ih =>
    by_cases hb : b = c
    · rw [show spl c (b :: l) = [] :: spl c l by simp [spl, hb], tot, ih, List.length_cons, List.length_nil]; omega
    · cases hs : spl c l with
      | nil => rw [hs] at ih; simp [tot] at ih
      | cons p ps =>
        rw [hs, tot] at ih
        rw [show spl c (b :: l) = (b :: p) :: ps by simp [spl, hb, hs], tot, List.length_cons, List.length_cons]
        omega
theorem tot_le (n : Nat) (ps : List (List UInt8)) (h : ∀ p, p ∈ ps → p.length ≤ n) : tot ps ≤ (n + 1) * ps.length := by
  induction ps with
  | nil => exact Nat.zero_le _
  | cons p ps ih =>
    have h1 := h p List.mem_cons_self
    have h2 := ih fun q hq => h q (List.mem_cons_of_mem _ hq)
    rw [tot, List.length_cons, Nat.mul_add]
    omega
theorem board_short {t : ByteArray} (h : boardB (pieces 47 t) = true) : t.size ≤ 71 := by
  have hb := boardB_of h
  have hl : (spl 47 t.data.toList).length ≤ 8 := by
    have := hb.1.2
    rw [pieces, List.length_map] at this
    exact this
  have hp : ∀ p, p ∈ spl 47 t.data.toList → p.length ≤ 8 := by
    intro p hp
    obtain ⟨i, hi, rfl⟩ := List.mem_iff_getElem.1 hp
    have hi2 : i < (pieces 47 t).length := by rw [pieces, List.length_map]; exact hi
    have h1 := (hb.2.2 i hi2).1
    have h2 := hb.2.1.2
    have h3 : gs (pieces 47 t) i = str ((spl 47 t.data.toList)[i]) := by
      unfold gs
      simp [pieces, hi]
    rw [h3] at h1
    have h4 : (str ((spl 47 t.data.toList)[i])).size = ((spl 47 t.data.toList)[i]).length := by rw [← data_len]; rfl
    omega
  have h1 := tot_le 8 _ hp
  have h2 := tot_spl 47 t.data.toList
  have h3 := data_len t
  have h4 : (8 + 1) * (spl 47 t.data.toList).length ≤ 9 * 8 := Nat.mul_le_mul_left 9 hl
  omega
theorem gd_short (a t : ByteArray) (h : gdB a t = true) : a.size ≤ 6 ∧ t.size ≤ 71 := by
  by_cases hv : ∃ n, n < 7 ∧ a = gs verbs n
  · obtain ⟨n, hn, rfl⟩ := hv
    refine ⟨(verbs_short hn).2, ?_⟩
    rw [gd_verb n hn] at h
    have : n = 0 ∨ n = 1 ∨ n = 2 ∨ n = 3 ∨ n = 4 ∨ n = 5 ∨ n = 6 := by omega
    by_cases h3 : n ≤ 3
    · rw [kB_strip (by omega) (by omega), Bool.and_eq_true] at h
      have := of_decide_eq_true h.2
      omega
    · have : n = 4 ∨ n = 5 ∨ n = 6 := by omega
      rcases this with rfl | rfl | rfl
      · change kB 4 t = true at h
        rw [kB_dom, Bool.and_eq_true] at h
        exact board_short h.1
      · change kB 5 t = true at h
        rw [kB_stalk, signsB, Bool.and_eq_true] at h
        have := of_decide_eq_true h.2
        omega
      · change kB 6 t = true at h
        rw [kB_nim, ← hp_law] at h
        have h0 := of_decide_eq_true h
        by_cases h1 : t.size = 1
        · omega
        · rw [hpOf_len h1] at h0; omega
  · rw [gd_none a t fun n hn e => hv ⟨n, hn, e⟩] at h
    cases h
theorem sg_short {s : ByteArray} (h : sgB s = true) : s.size ≤ 78 := by
  by_cases hsp : (32 : UInt8) ∈ s.data.toList
  · obtain ⟨a, b, hab, ha⟩ := mem_first hsp
    rw [sg_yes hab ha] at h
    obtain ⟨h1, h2⟩ := gd_short _ _ h
    have e1 : (str a).size = a.length := by rw [← data_len]; rfl
    have e2 : (str b).size = b.length := by rw [← data_len]; rfl
    have := data_len s
    rw [hab, List.length_append, List.length_cons] at this
    omega
  · rw [sg_no hsp] at h; cases h
end Go.Proofs.YtpepkpikeggceaaDoor
