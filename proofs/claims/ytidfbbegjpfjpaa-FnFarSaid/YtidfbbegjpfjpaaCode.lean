/- GoodCode and ProofNeeds of the program and of the reference, by contracts. Conditions: none. -/
import Derived.Test.YtidfbbegjpfjpaaPeriod
import Derived.Test.YtidfbbegjpfjpaaSl
namespace Go.Proofs.Ytidfbbegjpfjpaa
open Go.RowKit
set_option linter.unusedVariables false

def digitsOk (code : List Int) : Prop := ∀ i, i < code.length → 0 ≤ gi code i ∧ gi code i ≤ 7
instance (code : List Int) : Decidable (digitsOk code) := by unfold digitsOk; infer_instance
def goodCode (code : List Int) : Prop := 1 ≤ code.length ∧ code.length ≤ 6 ∧ gi code (code.length - 1) ≠ 0 ∧ digitsOk code
instance (code : List Int) : Decidable (goodCode code) := by unfold goodCode; infer_instance
def goodCodeB (code : List Int) : Bool := decide (goodCode code)
theorem goodCodeB_true {code : List Int} : goodCodeB code = true ↔ goodCode code := by simp [goodCodeB]

set_option maxHeartbeats 400000 in
theorem goodCodeI_any (A : Option Addr) (c : Nat) (cs : List Int) (w : World) (B : Nat) (h : RdI w B A c cs) :
    Calls Try.prog 42 #[.slice A cs.length c] w fun e w' => e = .returned (.bool (goodCodeB cs)) ∧ w = w' := by
  have h1 := h.len
  have h2 := h.max
  by_cases hl : 1 ≤ cs.length ∧ cs.length ≤ 6
  · obtain ⟨hl1, hl2⟩ := hl
    obtain ⟨b, o, rfl, hbB, hc⟩ := h.at (j := cs.length - 1) (by omega)
    have hcl := hc (cs.length - 1) (by omega)
    by_cases hz : gi cs (cs.length - 1) = 0
    · have ht : (gi cs (cs.length - 1) == 0) = true := by simp [hz]
      have HZ := Lib.hid hz; clear hz hc
      go_enter Try.func42, Try.ntmps42
      go_wp2
      go_ret
      refine ⟨ret_bool ?_, rfl⟩
      rw [Bool.false_eq, goodCodeB, decide_eq_false_iff_not]
      exact fun hg => hg.2.2.1 HZ.out
    · have ht : (gi cs (cs.length - 1) == 0) = false := by simp [hz]
      have HC := Lib.hid hc; clear hc
      have HZ := Lib.hid hz; clear hz
      go_enter Try.func42, Try.ntmps42
      go_wp2
      go_loop [24] (fun i => ∃ k : Nat, i = .int .i64 k ∧ k ≤ cs.length ∧ ∀ j, j < k → 0 ≤ gi cs j ∧ gi cs j ≤ 7) (fun i => cs.length - (intOf i).toNat)
      case atStart => exact ⟨0, rfl, by omega, fun j hj => absurd hj (by omega)⟩
      case round =>
        clear hcl ht
        obtain ⟨k, rfl, hk, hs⟩ := hrel
        have HS := Lib.hid hs; clear hs
        by_cases hlt : k < cs.length
        · have hc1 := HC.out k hlt
          by_cases hd : 0 ≤ gi cs k ∧ gi cs k ≤ 7
          · obtain ⟨hd1, hd2⟩ := hd
            go_wp2
            go_round
            case rel => exact ⟨k + 1, by go_num, by omega, fun j hj => if hjk : j = k then by subst hjk; exact ⟨hd1, hd2⟩ else HS.out j (by omega)⟩
            case measure => simp [intOf]; omega
          · have HD : Hid (¬ (0 ≤ gi cs k ∧ gi cs k ≤ 7)) := hd
            by_cases hneg : gi cs k < 0
            all_goals
              go_wp2
              go_ret
              refine ⟨ret_bool ?_, rfl⟩
              rw [Bool.false_eq, goodCodeB, decide_eq_false_iff_not]
              exact fun hg => HD.out (hg.2.2.2 k hlt)
        · go_wp2
          go_ret
          refine ⟨ret_bool ?_, rfl⟩
          rw [Bool.true_eq, goodCodeB, decide_eq_true_eq]
          exact ⟨hl1, hl2, HZ.out, fun i hi => HS.out i (by omega)⟩
  · have hf : goodCodeB cs = false := by
      rw [goodCodeB, decide_eq_false_iff_not]
      exact fun hg => hl ⟨hg.1, hg.2.1⟩
    rw [hf]; clear hf
    by_cases hl1 : cs.length < 1
    all_goals
      go_enter Try.func42, Try.ntmps42
      go_wp2
      go_ret
      exact ⟨rfl, rfl⟩

set_option maxHeartbeats 400000 in
theorem goodCodeS_any (A : Option Addr) (c : Nat) (cs : List Int) (w : World) (B : Nat) (h : RdI w B A c cs) :
    Calls Try.prog 65 #[.slice A cs.length c] w fun e w' => e = .returned (.bool (goodCodeB cs)) ∧ w = w' := by
  have h1 := h.len
  have h2 := h.max
  by_cases hl : 1 ≤ cs.length ∧ cs.length ≤ 6
  · have hin : inB cs.length 1 6 = true := by simp [inB]; omega
    obtain ⟨hl1, hl2⟩ := hl
    obtain ⟨b, o, rfl, hbB, hc⟩ := h.at (j := cs.length - 1) (by omega)
    have hcl := hc (cs.length - 1) (by omega)
    have HC := Lib.hid hc; clear hc
    go_enter Try.func65, Try.ntmps65
    go_wp2_with (go_at_call 37; refine (l1In_any _ _ _ _).mono ?_; rintro e w' ⟨rfl, rfl⟩)
    go_loop [3] (fun i => ∃ k : Nat, i = .int .i64 k ∧ k ≤ cs.length ∧ ∀ j, j < k → 0 ≤ gi cs j ∧ gi cs j ≤ 7) (fun i => cs.length - (intOf i).toNat)
    case atStart => exact ⟨0, rfl, by omega, fun j hj => absurd hj (by omega)⟩
    case round =>
      obtain ⟨k, rfl, hk, hs⟩ := hrel
      have HS := Lib.hid hs; clear hs
      by_cases hlt : k < cs.length
      · clear hcl
        have hc1 := HC.out k hlt
        by_cases hd : 0 ≤ gi cs k ∧ gi cs k ≤ 7
        · have hin2 : inB (gi cs k) 0 7 = true := by simp [inB]; omega
          have HD := Lib.hid hd; clear hd
          go_wp2_with (go_at_call 37; refine (l1In_any _ _ _ _).mono ?_; rintro e w' ⟨rfl, rfl⟩)
          go_round
          case rel => exact ⟨k + 1, by go_num, by omega, fun j hj => if hjk : j = k then by subst hjk; exact HD.out else HS.out j (by omega)⟩
          case measure => simp [intOf]; omega
        · have HD : Hid (¬ (0 ≤ gi cs k ∧ gi cs k ≤ 7)) := hd
          have hin2 : inB (gi cs k) 0 7 = false := by simp [inB]; omega
          clear hd
          go_wp2_with (go_at_call 37; refine (l1In_any _ _ _ _).mono ?_; rintro e w' ⟨rfl, rfl⟩)
          go_ret
          refine ⟨ret_bool ?_, rfl⟩
          rw [Bool.false_eq, goodCodeB, decide_eq_false_iff_not]
          exact fun hg => HD.out (hg.2.2.2 k hlt)
      · go_wp2
        go_ret
        refine ⟨ret_bool ?_, rfl⟩
        by_cases hz : gi cs (cs.length - 1) = 0
        · rw [goodCodeB, decide_eq_false (fun hg => hg.2.2.1 hz)]; simp [hz]
        · rw [goodCodeB, decide_eq_true (show goodCode cs from ⟨hl1, hl2, hz, fun i hi => HS.out i (by omega)⟩)]; simp [hz]
  · have hin : inB cs.length 1 6 = false := by simp [inB]; omega
    have hf : goodCodeB cs = false := by
      rw [goodCodeB, decide_eq_false_iff_not]
      exact fun hg => hl ⟨hg.1, hg.2.1⟩
    rw [hf]; clear hf hl
    go_enter Try.func65, Try.ntmps65
    go_wp2_with (go_at_call 37; refine (l1In_any _ _ _ _).mono ?_; rintro e w' ⟨rfl, rfl⟩)
    go_ret
    exact ⟨rfl, rfl⟩

/-- How far values must be known for a proof; -1 if there is none. -/
def needs (cs : List Int) (p l : Int) : Int := if goodCodeB cs = true ∧ goodPerB p l = true then 2 * p + 2 * l + cs.length else -1

set_option maxHeartbeats 400000 in
theorem needsI_any (A : Option Addr) (c : Nat) (cs : List Int) (p l : Int) (w : World) (B : Nat) (hB : B ≤ w.heap.size) (h : RdI w B A c cs) :
    Calls Try.prog 54 #[.slice A cs.length c, .agg #[.int .i64 p, .int .i64 l]] w fun e w' => e = .returned (.int .i64 (needs cs p l)) ∧ Below w.heap.size w w' := by
  cases hg : goodCodeB cs
  · have e0 : needs cs p l = -1 := by simp [needs, hg]
    rw [e0]; clear e0
    go_enter Try.func54, Try.ntmps54
    go_wp2_with (go_at_call 42; refine (goodCodeI_any _ _ _ _ B (h.below ((Below.refl _ _).alloc (Nat.le_refl _) _) hB)).mono ?_; rintro e w' ⟨rfl, rfl⟩)
    go_ret
    exact ⟨rfl, (Below.refl _ _).alloc (Nat.le_refl _) _⟩
  · cases hp : goodPerB p l
    · have e0 : needs cs p l = -1 := by simp [needs, hp]
      rw [e0]; clear e0
      go_enter Try.func54, Try.ntmps54
      go_wp2_with (go_at_call 42; refine (goodCodeI_any _ _ _ _ B (h.below ((Below.refl _ _).alloc (Nat.le_refl _) _) hB)).mono ?_; rintro e w' ⟨rfl, rfl⟩)
      refine (goodPerI_any _ _ _).mono ?_; rintro e w1 ⟨rfl, hb1⟩
      go_wp2
      go_ret
      exact ⟨rfl, ((Below.refl _ _).alloc (Nat.le_refl _) _).trans (hb1.mono (by simp))⟩
    · have e0 : needs cs p l = 2 * p + 2 * l + cs.length := by simp [needs, hg, hp]
      rw [e0]; clear e0
      have hp' : 0 ≤ p ∧ p ≤ 300 ∧ 1 ≤ l ∧ l ≤ 300 := by simpa [goodPerB] using hp
      have hl : cs.length ≤ 6 := (goodCodeB_true.1 hg).2.1
      obtain ⟨hp1, hp2, hp3, hp4⟩ := hp'
      go_enter Try.func54, Try.ntmps54
      go_wp2_with (go_at_call 42; refine (goodCodeI_any _ _ _ _ B (h.below ((Below.refl _ _).alloc (Nat.le_refl _) _) hB)).mono ?_; rintro e w' ⟨rfl, rfl⟩)
      have hzW : w.heap.size < (w.alloc (.cells #[.int .i64 p, .int .i64 l] 39)).heap.size := by simp
      have hAW : Below w.heap.size w (w.alloc (.cells #[.int .i64 p, .int .i64 l] 39)) := (Below.refl _ _).alloc (Nat.le_refl _) _
      have c0W : (w.alloc (.cells #[.int .i64 p, .int .i64 l] 39)).cell? ⟨w.heap.size, 0, none⟩ = some (.int .i64 p) := by simp [go_sem]
      have c1W : (w.alloc (.cells #[.int .i64 p, .int .i64 l] 39)).cell? ⟨w.heap.size, 1, none⟩ = some (.int .i64 l) := by simp [go_sem]
      generalize w.alloc (.cells #[.int .i64 p, .int .i64 l] 39) = W at *
      refine (goodPerI_any _ _ _).mono ?_; rintro e w1 ⟨rfl, hb1⟩
      have q0 := (hb1.cell (p := ⟨w.heap.size, 0, none⟩) hzW).trans c0W
      have q1 := (hb1.cell (p := ⟨w.heap.size, 1, none⟩) hzW).trans c1W
      go_wp2
      go_ret
      exact ⟨rfl, hAW.trans (hb1.mono (by omega))⟩

set_option maxHeartbeats 400000 in
theorem needsS_any (A : Option Addr) (c : Nat) (cs : List Int) (p l : Int) (w : World) (B : Nat) (hB : B ≤ w.heap.size) (h : RdI w B A c cs) :
    Calls Try.prog 56 #[.slice A cs.length c, .agg #[.int .i64 p, .int .i64 l]] w fun e w' => e = .returned (.int .i64 (needs cs p l)) ∧ Below w.heap.size w w' := by
  cases hg : goodCodeB cs
  · have e0 : needs cs p l = -1 := by simp [needs, hg]
    rw [e0]; clear e0
    go_enter Try.func56, Try.ntmps56
    go_wp2_with (go_at_call 65; refine (goodCodeS_any _ _ _ _ B (h.below ((Below.refl _ _).alloc (Nat.le_refl _) _) hB)).mono ?_; rintro e w' ⟨rfl, rfl⟩)
    go_ret
    exact ⟨rfl, (Below.refl _ _).alloc (Nat.le_refl _) _⟩
  · cases hp : goodPerB p l
    · have e0 : needs cs p l = -1 := by simp [needs, hp]
      rw [e0]; clear e0
      go_enter Try.func56, Try.ntmps56
      go_wp2_with (go_at_call 65; refine (goodCodeS_any _ _ _ _ B (h.below ((Below.refl _ _).alloc (Nat.le_refl _) _) hB)).mono ?_; rintro e w' ⟨rfl, rfl⟩)
      refine (goodPerS_any _ _ _).mono ?_; rintro e w1 ⟨rfl, hb1⟩
      go_wp2
      go_ret
      exact ⟨rfl, ((Below.refl _ _).alloc (Nat.le_refl _) _).trans (hb1.mono (by simp))⟩
    · have e0 : needs cs p l = 2 * p + 2 * l + cs.length := by simp [needs, hg, hp]
      rw [e0]; clear e0
      have hp' : 0 ≤ p ∧ p ≤ 300 ∧ 1 ≤ l ∧ l ≤ 300 := by simpa [goodPerB] using hp
      have hl : cs.length ≤ 6 := (goodCodeB_true.1 hg).2.1
      obtain ⟨hp1, hp2, hp3, hp4⟩ := hp'
      go_enter Try.func56, Try.ntmps56
      go_wp2_with (go_at_call 65; refine (goodCodeS_any _ _ _ _ B (h.below ((Below.refl _ _).alloc (Nat.le_refl _) _) hB)).mono ?_; rintro e w' ⟨rfl, rfl⟩)
      have hzW : w.heap.size < (w.alloc (.cells #[.int .i64 p, .int .i64 l] 39)).heap.size := by simp
      have hAW : Below w.heap.size w (w.alloc (.cells #[.int .i64 p, .int .i64 l] 39)) := (Below.refl _ _).alloc (Nat.le_refl _) _
      have c0W : (w.alloc (.cells #[.int .i64 p, .int .i64 l] 39)).cell? ⟨w.heap.size, 0, none⟩ = some (.int .i64 p) := by simp [go_sem]
      have c1W : (w.alloc (.cells #[.int .i64 p, .int .i64 l] 39)).cell? ⟨w.heap.size, 1, none⟩ = some (.int .i64 l) := by simp [go_sem]
      generalize w.alloc (.cells #[.int .i64 p, .int .i64 l] 39) = W at *
      refine (goodPerS_any _ _ _).mono ?_; rintro e w1 ⟨rfl, hb1⟩
      have q0 := (hb1.cell (p := ⟨w.heap.size, 0, none⟩) hzW).trans c0W
      have q1 := (hb1.cell (p := ⟨w.heap.size, 1, none⟩) hzW).trans c1W
      go_wp2
      go_ret
      exact ⟨rfl, hAW.trans (hb1.mono (by omega))⟩
end Go.Proofs.Ytidfbbegjpfjpaa
