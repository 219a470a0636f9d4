/- The decimal text of a number: strconv.Itoa and the reference's, by contracts. Conditions: none. -/
import Derived.Test.YtpepkpikeggceaaDoorBytes
import Derived.Test.YtpepkpikeggceaaDoorIn
import Derived.Test.YtpepkpikeggceaaDoorShelfI
import Derived.Laws.Concat
import Derived.Deep.QuietTactic
import Derived.BigQuiet
import Derived.IntWalk
namespace Go.Proofs.YtpepkpikeggceaaDoor
open Go.RowKit
set_option linter.unusedVariables false

/-- The library's table of powers of ten lies in the world. -/
def TabI (w : World) : Prop := Lib.TabIs Tryd.prog w "internal/strconv.uint64pow10" .u64 Lib.pow10Tab
theorem TabI.lt {w : World} (h : TabI w) : ∃ g, Tryd.prog.globalNamed "internal/strconv.uint64pow10" = some g ∧ g < w.heap.size := by
  unfold TabI Lib.TabIs World.var? at h
  cases hg : Tryd.prog.globalNamed "internal/strconv.uint64pow10" with
  | none => rw [hg] at h; cases h
  | some g =>
    refine ⟨g, rfl, ?_⟩
    rw [hg] at h
    simp only [Option.bind_some] at h
    rcases Nat.lt_or_ge g w.heap.size with h' | h'
    · exact h'
    · rw [Array.getElem?_eq_none h'] at h; cases h
theorem TabI.below {w w' : World} (h : TabI w) (hb : Below w.heap.size w w') : TabI w' := by
  obtain ⟨g, hg, hlt⟩ := h.lt
  unfold TabI Lib.TabIs World.var? at h ⊢
  rw [hg] at h ⊢
  simp only [Option.bind_some] at h ⊢
  rw [hb.block g hlt]
  exact h
theorem TabI.drew {w : World} (h : TabI w) (k : Nat) : TabI (w.drewN k) := h
theorem below_grow (w : World) (os : Array Obj) (k : Nat) : Below w.heap.size w (Go.Sort.grow (w.drewN k) os) := by
  refine ⟨rfl, rfl, rfl, ?_, fun b hb => ?_⟩
  · unfold Go.Sort.grow; simp
  · unfold Go.Sort.grow
    show ((w.drewN k).heap ++ os)[b]? = w.heap[b]?
    rw [Array.getElem?_append_left (by exact hb)]
    rfl
theorem dig_piece (r : Nat) (h : r < 10) : (⟨#[48, 49, 50, 51, 52, 53, 54, 55, 56, 57]⟩ : ByteArray).extract r (r + 1) = str [UInt8.ofNat (48 + r)] := by
  refine str_of _ ?_
  rw [data_slice]
  have : r = 0 ∨ r = 1 ∨ r = 2 ∨ r = 3 ∨ r = 4 ∨ r = 5 ∨ r = 6 ∨ r = 7 ∨ r = 8 ∨ r = 9 := by omega
  rcases this with rfl | rfl | rfl | rfl | rfl | rfl | rfl | rfl | rfl | rfl <;> rfl
theorem decDigits_len (n : Nat) (h : n ≤ 1000000000) : (Lib.decDigits n).length ≤ 10 := by
  rw [Lib.decDigits_length]
  have : ∀ k n : Nat, n < 10 ^ k → 1 ≤ k → Lib.nDigits n ≤ k := by
    intro k
    induction k with
    | zero => intro n _ h; omega
    | succ k ih =>
      intro n hn _
      rw [Lib.nDigits]
      split
      · omega
      · rename_i h10
        have hk : 1 ≤ k := by
          rcases Nat.eq_zero_or_pos k with h | h
          · subst h; simp at hn; omega
          · exact h
        have : n / 10 < 10 ^ k := by rw [Nat.pow_succ] at hn; omega
        have := ih (n / 10) this hk
        omega
  exact this 10 n (by have : (10 : Nat) ^ 10 = 10000000000 := by decide
                      omega) (by omega)

set_option maxRecDepth 100000 in
set_option maxHeartbeats 800000 in
theorem l1Num_any (n : Nat) : ∀ (w : World), n ≤ 1000000000 →
    Calls Tryd.prog 56 #[.int .i64 n] w fun e w' => e = .returned (.string (str (Lib.decDigits n))) ∧ ∃ m, w' = w.drewN m := by
  induction n using Nat.strongRecOn with
  | _ n ih =>
    intro w h
    have hn0 : ¬ (n : Int) < 0 := by omega
    by_cases h10 : n < 10
    · have hpc := dig_piece n h10
      have hd : str (Lib.decDigits n) = str [UInt8.ofNat (48 + n)] := by rw [Lib.decDigits_one h10]
      rw [hd, ← hpc]
      have h10I : (n : Int) < 10 := by omega
      have hw1 : (n : Int) + 1 ≤ 10 := by omega
      clear ih hd hpc
      go_enter Tryd.func56, Tryd.ntmps56
      go_wp2
      go_ret
      exact ⟨rfl, 0, by rw [World.drewN_zero]⟩
    · obtain ⟨q, hq⟩ : ∃ q, q = n / 10 := ⟨_, rfl⟩
      obtain ⟨r, hr⟩ : ∃ r, r = n % 10 := ⟨_, rfl⟩
      have hIH := fun W => ih q (by omega) W (by omega)
      have hpc := dig_piece r (by omega)
      have hlq := decDigits_len q (by omega)
      have hd : str (Lib.decDigits q) ++ (⟨#[48, 49, 50, 51, 52, 53, 54, 55, 56, 57]⟩ : ByteArray).extract r (r + 1) = str (Lib.decDigits n) := by
        rw [hpc]
        refine str_of _ ?_
        rw [data_append, str_data, str_data, Lib.decDigits.eq_1 n, dif_neg h10, hq, hr]
      have hsz : (str (Lib.decDigits q)).size + ((⟨#[48, 49, 50, 51, 52, 53, 54, 55, 56, 57]⟩ : ByteArray).extract r (r + 1)).size ≤ 9223372036854775807 := by
        rw [hpc, str_size, str_size]
        have : [UInt8.ofNat (48 + r)].length = 1 := rfl
        omega
      have hadd := fun W => run_string_add_sum (P := Tryd.prog) (w := W) _ _ hsz
      rw [hd] at hadd
      have h10I : ¬ (n : Int) < 10 := by omega
      have hqd : (n : Int).tdiv 10 = (q : Int) := by rw [Int.tdiv_eq_ediv_of_nonneg (by omega)]; omega
      have hrm : (n : Int).tmod 10 = (r : Int) := by rw [Int.tmod_eq_emod_of_nonneg (by omega)]; omega
      have hr9 : r < 10 := by omega
      have hqb : q ≤ 1000000000 := by omega
      have hqw : IntKind.i64.wrap (q : Int) = (q : Int) := by rw [IntKind.wrap_i64]; omega
      have hrw : IntKind.i64.wrap ((r : Int) + 1) = (r : Int) + 1 := by rw [IntKind.wrap_i64]; omega
      have hr10 : (r : Int) + 1 ≤ 10 := by omega
      have hr01 : (0 : Int) ≤ (r : Int) + 1 := by omega
      have hrr : (r : Int) ≤ (r : Int) + 1 := by omega
      have hrn : ((r : Int) + 1).toNat = r + 1 := by omega
      have hr1 : r + 1 ≤ 10 := by omega
      have HIH := Lib.hid hIH
      obtain ⟨res, hres⟩ : ∃ res, res = str (Lib.decDigits n) := ⟨_, rfl⟩
      rw [← hres] at hadd ⊢
      clear hIH ih hpc hlq hd hsz hq hr h10 hr9 hqb hres
      go_enter Tryd.func56, Tryd.ntmps56
      go_wp2
      go_quiet ((go_at_call 56; exact Calls.quiet_of (HIH.out _)))
      go_wp2
      go_ret
      exact ⟨rfl, _, rfl⟩
end Go.Proofs.YtpepkpikeggceaaDoor
