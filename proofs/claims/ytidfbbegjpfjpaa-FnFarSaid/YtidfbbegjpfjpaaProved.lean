/- l16Nimber, l17Nimbers and ProvedPeriod by their contracts. Conditions: none. -/
import Derived.Test.YtidfbbegjpfjpaaPeriod2
import Derived.Test.YtidfbbegjpfjpaaVals2
namespace Go.Proofs.Ytidfbbegjpfjpaa
open Go.RowKit
set_option linter.unusedVariables false

theorem nimber_any (a : Int) (w : World) :
    Calls Try.prog 69 #[.int .i64 a] w fun e w' => e = .returned (.bool (inB a 0 255)) ∧ w = w' := by
  go_enter Try.func69, Try.ntmps69
  go_wp2_with (go_at_call 37; refine (l1In_any _ _ _ _).mono ?_; rintro e w' ⟨rfl, rfl⟩)
  go_ret
  exact ⟨rfl, rfl⟩

instance (v : List Nat) : Decidable (small255 v) := by unfold small255; infer_instance
def small255B (v : List Nat) : Bool := decide (small255 v)

set_option maxHeartbeats 400000 in
theorem nimbers_any (A : Option Addr) (c : Nat) (v : List Nat) (w : World) (B : Nat) (h : RdI w B A c (nats v)) :
    Calls Try.prog 57 #[.slice A v.length c] w fun e w' => e = .returned (.bool (small255B v)) ∧ w = w' := by
  have h1 := h.len
  have h2 := h.max
  rw [nats_len] at h1
  go_enter Try.func57, Try.ntmps57
  go_wp2
  go_loop [3] (fun i => ∃ k : Nat, i = .int .i64 k ∧ k ≤ v.length ∧ ∀ j, j < k → gn v j ≤ 255) (fun i => v.length - (intOf i).toNat)
  case atStart => exact ⟨0, rfl, by omega, fun j hj => absurd hj (by omega)⟩
  case round =>
    obtain ⟨k, rfl, hk, hs⟩ := hrel
    have HS := Lib.hid hs; clear hs
    by_cases hlt : k < v.length
    · obtain ⟨b, o, rfl, hbB, hc⟩ := h.at (j := k) (by rw [nats_len]; exact hlt)
      have hc1 := hc k (by rw [nats_len]; exact hlt)
      rw [gi_nats] at hc1
      clear hc
      by_cases hd : gn v k ≤ 255
      · have hin2 : inB (gn v k : Nat) 0 255 = true := by simp [inB]; omega
        have HD := Lib.hid hd; clear hd
        go_wp2_with (go_at_call 69; refine (nimber_any _ _).mono ?_; rintro e w' ⟨rfl, rfl⟩)
        go_round
        case rel => exact ⟨k + 1, by go_num, by omega, fun j hj => if hjk : j = k then by subst hjk; exact HD.out else HS.out j (by omega)⟩
        case measure => simp [intOf]; omega
      · have hin2 : inB (gn v k : Nat) 0 255 = false := by simp [inB]; omega
        have HD : Hid (¬ gn v k ≤ 255) := hd
        clear hd
        go_wp2_with (go_at_call 69; refine (nimber_any _ _).mono ?_; rintro e w' ⟨rfl, rfl⟩)
        go_ret
        refine ⟨ret_bool ?_, rfl⟩
        rw [Bool.false_eq, small255B, decide_eq_false_iff_not]
        exact fun hg => HD.out (hg k hlt)
    · go_wp2
      go_ret
      refine ⟨ret_bool ?_, rfl⟩
      rw [Bool.true_eq, small255B, decide_eq_true_eq]
      exact fun i hi => HS.out i (by omega)

/-- The period is proved at the code. -/
def provedP (cs : List Int) (p l : Int) : Prop :=
  0 ≤ needs cs p l ∧ needs cs p l ≤ 300 ∧ small255 (V cs ((needs cs p l).toNat + 1)) ∧ repB (nats (V cs ((needs cs p l).toNat + 1))) p.toNat l.toNat = true
noncomputable instance (cs : List Int) (p l : Int) : Decidable (provedP cs p l) := by unfold provedP; infer_instance
noncomputable def provedB (cs : List Int) (p l : Int) : Bool := decide (provedP cs p l)
theorem provedB_at {cs : List Int} {p l : Int} (k : Nat) (hm : needs cs p l = k) (hk : (k : Int) ≤ 300) : provedB cs p l = (small255B (V cs (k + 1)) && repB (nats (V cs (k + 1))) p.toNat l.toNat) := by
  rw [Bool.eq_iff_iff, Bool.and_eq_true, small255B, provedB, decide_eq_true_eq, decide_eq_true_eq]
  unfold provedP
  rw [hm]
  simp only [Int.toNat_natCast]
  exact ⟨fun h => ⟨h.2.2.1, h.2.2.2⟩, fun h => ⟨by omega, hk, h.1, h.2⟩⟩
theorem provedB_out {cs : List Int} {p l : Int} (h : ¬ (0 ≤ needs cs p l ∧ needs cs p l ≤ 300)) : provedB cs p l = false := by
  rw [provedB, decide_eq_false_iff_not]
  exact fun hh => h ⟨hh.1, hh.2.1⟩
theorem small255B_true {v : List Nat} (h : small255 v) : small255B v = true := by rw [small255B, decide_eq_true_eq]; exact h
theorem small255B_false {v : List Nat} (h : ¬ small255 v) : small255B v = false := by rw [small255B, decide_eq_false_iff_not]; exact h
theorem needs_pos {cs : List Int} {p l : Int} (h : 0 ≤ needs cs p l) : goodCode cs ∧ goodPerB p l = true ∧ needs cs p l = 2 * p + 2 * l + cs.length := by
  unfold needs at h ⊢
  split at h
  · next hh => exact ⟨goodCodeB_true.1 hh.1, hh.2, by rw [if_pos hh]⟩
  · omega

set_option maxHeartbeats 400000 in
theorem provedI_any (A : Option Addr) (c : Nat) (cs : List Int) (p l : Int) (w : World) (B : Nat) (hB : B ≤ w.heap.size) (h : RdI w B A c cs) :
    Calls Try.prog 34 #[.slice A cs.length c, .agg #[.int .i64 p, .int .i64 l]] w fun e w' => e = .returned (.bool (provedB cs p l)) ∧ Below w.heap.size w w' := by
  have HE1 : Hid (∀ k : Nat, needs cs p l = k → (k : Int) ≤ 300 → provedB cs p l = (small255B (V cs (k + 1)) && repB (nats (V cs (k + 1))) p.toNat l.toNat)) := fun k => provedB_at k
  have HE0 : Hid (¬ (0 ≤ needs cs p l ∧ needs cs p l ≤ 300) → provedB cs p l = false) := provedB_out
  have HN := fun (hh : 0 ≤ needs cs p l) => needs_pos hh
  have HN := Lib.hid HN
  generalize provedB cs p l = R at *
  go_enter Try.func34, Try.ntmps34
  go_wp2_with fail
  have hzW : w.heap.size < (w.alloc (.cells #[.int .i64 p, .int .i64 l] 39)).heap.size := by simp
  have hAW : Below w.heap.size w (w.alloc (.cells #[.int .i64 p, .int .i64 l] 39)) := (Below.refl _ _).alloc (Nat.le_refl _) _
  have c0W : (w.alloc (.cells #[.int .i64 p, .int .i64 l] 39)).cell? ⟨w.heap.size, 0, none⟩ = some (.int .i64 p) := by simp [go_sem]
  have c1W : (w.alloc (.cells #[.int .i64 p, .int .i64 l] 39)).cell? ⟨w.heap.size, 1, none⟩ = some (.int .i64 l) := by simp [go_sem]
  generalize w.alloc (.cells #[.int .i64 p, .int .i64 l] 39) = W at *
  have hzw := hAW.size
  refine (needsI_any _ _ _ _ _ _ _ (by omega) (h.below hAW hB)).mono ?_; rintro e w1 ⟨rfl, hb1⟩
  generalize needs cs p l = m at *
  have hz1 := hb1.size
  have q0 := (hb1.cell (p := ⟨w.heap.size, 0, none⟩) hzW).trans c0W
  have q1 := (hb1.cell (p := ⟨w.heap.size, 1, none⟩) hzW).trans c1W
  have hb1' := hAW.trans (hb1.mono (by omega))
  by_cases hr : 0 ≤ m ∧ m ≤ 300
  · obtain ⟨hr1, hr2⟩ := hr
    obtain ⟨hgc, hgp, hne⟩ := HN.out hr1
    have hgc := Lib.hid hgc
    obtain ⟨k, rfl⟩ : ∃ k : Nat, m = k := ⟨m.toNat, by omega⟩
    clear HN hne
    go_wp2_with fail
    refine (valuesI_any _ _ _ k _ _ (Nat.le_refl _) ((h.below hb1' hB).more (by omega)) (by omega) hgc.out).mono ?_
    rintro e w2 ⟨hcase, hb2⟩
    have q20 := (hb2.cell (p := ⟨w.heap.size, 0, none⟩) (by show w.heap.size < _; omega)).trans q0
    have q21 := (hb2.cell (p := ⟨w.heap.size, 1, none⟩) (by show w.heap.size < _; omega)).trans q1
    have hb2' := hb1'.trans (hb2.mono (by omega))
    clear hb1 c0W c1W
    rcases hcase with ⟨hs, A2, c2, rfl, ho⟩ | ⟨hs, rfl⟩
    · have hrep := repeatsI_any A2 c2 _ p l w2 _ (Nat.le_refl _) (ho.rd (by rw [nats_len, V_len]))
      rw [nats_len, V_len, hgp, Bool.true_and] at hrep
      have HRep := Lib.hid hrep; clear hrep
      have HF : Hid (repB (nats (V cs (k + 1))) p.toNat l.toNat = R) := by
        show _ = _
        rw [HE1.out k rfl hr2, small255B_true hs, Bool.true_and]
      clear hs HE1 HE0
      go_wp2_with fail
      refine HRep.out.mono ?_; rintro e w3 ⟨rfl, hb3⟩
      rw [HF.out]
      go_wp2
      go_ret
      exact ⟨rfl, hb2'.trans (hb3.mono (by have := hb2'.size; omega))⟩
    · have HF : Hid (R = false) := by
        show _ = _
        rw [HE1.out k rfl hr2, small255B_false hs, Bool.false_and]
      clear hs HE1 HE0
      go_wp2
      go_ret
      exact ⟨ret_bool HF.out.symm, hb2'⟩
  · have HF : Hid (R = false) := HE0.out hr
    clear HN HE1 HE0
    by_cases hm0 : m < 0
    all_goals
      first
        | (have hm3 : (300 : Int) < m := by omega)
        | skip
      clear hr
      go_wp2
      go_ret
      exact ⟨ret_bool HF.out.symm, hb1'⟩

set_option maxHeartbeats 400000 in
theorem provedS_any (A : Option Addr) (c : Nat) (cs : List Int) (p l : Int) (w : World) (B : Nat) (hB : B ≤ w.heap.size) (h : RdI w B A c cs) :
    Calls Try.prog 36 #[.slice A cs.length c, .agg #[.int .i64 p, .int .i64 l]] w fun e w' => e = .returned (.bool (provedB cs p l)) ∧ Below w.heap.size w w' := by
  have HE1 : Hid (∀ k : Nat, needs cs p l = k → (k : Int) ≤ 300 → provedB cs p l = (small255B (V cs (k + 1)) && repB (nats (V cs (k + 1))) p.toNat l.toNat)) := fun k => provedB_at k
  have HE0 : Hid (¬ (0 ≤ needs cs p l ∧ needs cs p l ≤ 300) → provedB cs p l = false) := provedB_out
  have HN := fun (hh : 0 ≤ needs cs p l) => needs_pos hh
  have HN := Lib.hid HN
  generalize provedB cs p l = R at *
  go_enter Try.func36, Try.ntmps36
  go_wp2_with fail
  have hzW : w.heap.size < (w.alloc (.cells #[.int .i64 p, .int .i64 l] 39)).heap.size := by simp
  have hAW : Below w.heap.size w (w.alloc (.cells #[.int .i64 p, .int .i64 l] 39)) := (Below.refl _ _).alloc (Nat.le_refl _) _
  have c0W : (w.alloc (.cells #[.int .i64 p, .int .i64 l] 39)).cell? ⟨w.heap.size, 0, none⟩ = some (.int .i64 p) := by simp [go_sem]
  have c1W : (w.alloc (.cells #[.int .i64 p, .int .i64 l] 39)).cell? ⟨w.heap.size, 1, none⟩ = some (.int .i64 l) := by simp [go_sem]
  generalize w.alloc (.cells #[.int .i64 p, .int .i64 l] 39) = W at *
  have hzw := hAW.size
  refine (needsS_any _ _ _ _ _ _ _ (by omega) (h.below hAW hB)).mono ?_; rintro e w1 ⟨rfl, hb1⟩
  generalize needs cs p l = m at *
  have hz1 := hb1.size
  have q0 := (hb1.cell (p := ⟨w.heap.size, 0, none⟩) hzW).trans c0W
  have q1 := (hb1.cell (p := ⟨w.heap.size, 1, none⟩) hzW).trans c1W
  have hb1' := hAW.trans (hb1.mono (by omega))
  by_cases hr : 0 ≤ m ∧ m ≤ 300
  · obtain ⟨hr1, hr2⟩ := hr
    obtain ⟨hgc, hgp, hne⟩ := HN.out hr1
    have hgc := Lib.hid hgc
    obtain ⟨k, rfl⟩ : ∃ k : Nat, m = k := ⟨m.toNat, by omega⟩
    clear HN hne
    go_wp2_with fail
    refine (valuesS_any _ _ _ k _ _ (Nat.le_refl _) ((h.below hb1' hB).more (by omega)) (by omega) hgc.out).mono ?_
    rintro e w2 ⟨⟨A2, c2, rfl, ho, hb2⟩, hs15⟩
    clear hs15
    have q20 := (hb2.cell (p := ⟨w.heap.size, 0, none⟩) (by show w.heap.size < _; omega)).trans q0
    have q21 := (hb2.cell (p := ⟨w.heap.size, 1, none⟩) (by show w.heap.size < _; omega)).trans q1
    have hb2' := hb1'.trans (hb2.mono (by omega))
    clear hb1 c0W c1W
    have hpl : 0 ≤ p ∧ p ≤ 300 ∧ 1 ≤ l ∧ l ≤ 300 := by simpa [goodPerB] using hgp
    obtain ⟨hp1, hp2, hp3, hp4⟩ := hpl
    have hrep := repFromS_any A2 c2 _ p.toNat l.toNat w2 _ (Nat.le_refl _) (ho.rd rfl) (by omega) (by omega) (by omega)
    rw [Int.toNat_of_nonneg hp1, Int.toNat_of_nonneg (by omega)] at hrep
    clear hp1 hp2 hp3 hp4
    have hnim := nimbers_any A2 c2 _ w2 _ (ho.rd rfl)
    have HF : Hid (R = (small255B (V cs (k + 1)) && repB (nats (V cs (k + 1))) p.toNat l.toNat)) := HE1.out k rfl hr2
    clear HE1 HE0
    rw [nats_len, V_len] at hrep ⊢
    rw [V_len] at hnim
    have HRep := Lib.hid hrep; clear hrep
    have HNim := Lib.hid hnim; clear hnim
    generalize repB (nats (V cs (k + 1))) p.toNat l.toNat = rb at *
    cases hsb : small255B (V cs (k + 1))
    · have HF2 : Hid (R = false) := by show _ = _; rw [HF.out, hsb, Bool.false_and]
      rw [hsb] at HNim
      clear hsb ho
      go_wp2_with fail
      refine HNim.out.mono ?_; rintro e w3 ⟨rfl, rfl⟩
      go_wp2
      go_ret
      exact ⟨ret_bool HF2.out.symm, hb2'⟩
    · have HF2 : Hid (R = rb) := by show _ = _; rw [HF.out, hsb, Bool.true_and]
      rw [hsb] at HNim
      clear hsb ho
      go_wp2_with fail
      refine HNim.out.mono ?_; rintro e w3 ⟨rfl, rfl⟩
      go_wp2_with fail
      refine HRep.out.mono ?_; rintro e w4 ⟨rfl, hb4⟩
      go_wp2
      go_ret
      exact ⟨ret_bool HF2.out.symm, hb2'.trans (hb4.mono (by have := hb2'.size; omega))⟩
  · have HF : Hid (R = false) := HE0.out hr
    clear HN HE1 HE0
    by_cases hm0 : m < 0
    all_goals
      first
        | (have hm3 : (300 : Int) < m := by omega)
        | skip
      clear hr
      go_wp2
      go_ret
      exact ⟨ret_bool HF.out.symm, hb1'⟩
end Go.Proofs.Ytidfbbegjpfjpaa
