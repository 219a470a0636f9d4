/- GoodCode and ProofNeeds of the program and of the reference, by contracts. Conditions: none. -/
import Derived.Test.YtbledcogbkeneaaPeriod
import Derived.Test.YtbledcogbkeneaaSl
namespace Go.Proofs.Ytbledcogbkeneaa
open Go.RowKit
set_option linter.unusedVariables false

def digitsOk (code : List Int) : Prop := ∀ i, i < code.length → 0 ≤ gi code i ∧ gi code i ≤ 7
instance (code : List Int) : Decidable (digitsOk code) := by unfold digitsOk; infer_instance
def goodCode (code : List Int) : Prop := 1 ≤ code.length ∧ code.length ≤ 6 ∧ gi code (code.length - 1) ≠ 0 ∧ digitsOk code
instance (code : List Int) : Decidable (goodCode code) := by unfold goodCode; infer_instance
def goodCodeB (code : List Int) : Bool := decide (goodCode code)
theorem goodCodeB_true {code : List Int} : goodCodeB code = true ↔ goodCode code := by simp [goodCodeB]

set_option maxHeartbeats 400000 in
theorem goodCodeI_any (A : Option Addr) (c : Nat) (cs : List Int) (w : World) (B : Nat) (h : RdI w B A c cs) :
    Calls Try.prog 37 #[.slice A cs.length c] w fun e w' => e = .returned (.bool (goodCodeB cs)) ∧ w = w' := by
  have h1 := h.len
  have h2 := h.max
  by_cases hl : 1 ≤ cs.length ∧ cs.length ≤ 6
  · obtain ⟨hl1, hl2⟩ := hl
    obtain ⟨b, o, rfl, hbB, hc⟩ := h.at (j := cs.length - 1) (by omega)
    have hcl := hc (cs.length - 1) (by omega)
    by_cases hz : gi cs (cs.length - 1) = 0
    · have ht : (gi cs (cs.length - 1) == 0) = true := by simp [hz]
      have HZ := Lib.hid hz; clear hz hc
      go_enter Try.func37, Try.ntmps37
      go_wp2
      go_ret
      refine ⟨ret_bool ?_, rfl⟩
      rw [Bool.false_eq, goodCodeB, decide_eq_false_iff_not]
      exact fun hg => hg.2.2.1 HZ.out
    · have ht : (gi cs (cs.length - 1) == 0) = false := by simp [hz]
      have HC := Lib.hid hc; clear hc
      have HZ := Lib.hid hz; clear hz
      go_enter Try.func37, Try.ntmps37
      go_wp2
      go_loop [24] (fun i => ∃ k : Nat, i = .int .i64 k ∧ k ≤ cs.length ∧ ∀ j, j < k → 0 ≤ gi cs j ∧ gi cs j ≤ 7) (fun i => cs.length - (intOf i).toNat)
      case atStart => exact ⟨0, rfl, by omega, fun j hj => absurd hj (by omega)⟩
      case round =>
        clear hcl ht
        obtain ⟨k, rfl, hk, hs⟩ := hrel
        have HS := Lib.hid hs; clear hs
        by_cases hlt : k < cs.length
        · have hc1 := HC.out k hlt
          by_cases hd : 0 ≤ gi cs k ∧ gi cs k ≤ 7
          · obtain ⟨hd1, hd2⟩ := hd
            go_wp2
            go_round
            case rel => exact ⟨k + 1, by go_num, by omega, fun j hj => if hjk : j = k then by subst hjk; exact ⟨hd1, hd2⟩ else HS.out j (by omega)⟩
            case measure => simp [intOf]; omega
          · have HD : Hid (¬ (0 ≤ gi cs k ∧ gi cs k ≤ 7)) := hd
            by_cases hneg : gi cs k < 0
            all_goals
              go_wp2
              go_ret
              refine ⟨ret_bool ?_, rfl⟩
              rw [Bool.false_eq, goodCodeB, decide_eq_false_iff_not]
              exact fun hg => HD.out (hg.2.2.2 k hlt)
        · go_wp2
          go_ret
          refine ⟨ret_bool ?_, rfl⟩
          rw [Bool.true_eq, goodCodeB, decide_eq_true_eq]
          exact ⟨hl1, hl2, HZ.out, fun i hi => HS.out i (by omega)⟩
  · have hf : goodCodeB cs = false := by
      rw [goodCodeB, decide_eq_false_iff_not]
      exact fun hg => hl ⟨hg.1, hg.2.1⟩
    rw [hf]; clear hf
    by_cases hl1 : cs.length < 1
    all_goals
      go_enter Try.func37, Try.ntmps37
      go_wp2
      go_ret
      exact ⟨rfl, rfl⟩

set_option maxHeartbeats 400000 in
theorem goodCodeS_any (A : Option Addr) (c : Nat) (cs : List Int) (w : World) (B : Nat) (h : RdI w B A c cs) :
    Calls Try.prog 34 #[.slice A cs.length c] w fun e w' => e = .returned (.bool (goodCodeB cs)) ∧ w = w' := by
  have h1 := h.len
  have h2 := h.max
  by_cases hl : 1 ≤ cs.length ∧ cs.length ≤ 6
  · have hin : inB cs.length 1 6 = true := by simp [inB]; omega
    obtain ⟨hl1, hl2⟩ := hl
    obtain ⟨b, o, rfl, hbB, hc⟩ := h.at (j := cs.length - 1) (by omega)
    have hcl := hc (cs.length - 1) (by omega)
    have HC := Lib.hid hc; clear hc
    go_enter Try.func34, Try.ntmps34
    go_wp2_with (go_at_call 52; refine (l1In_any _ _ _ _).mono ?_; rintro e w' ⟨rfl, rfl⟩)
    go_loop [3] (fun i => ∃ k : Nat, i = .int .i64 k ∧ k ≤ cs.length ∧ ∀ j, j < k → 0 ≤ gi cs j ∧ gi cs j ≤ 7) (fun i => cs.length - (intOf i).toNat)
    case atStart => exact ⟨0, rfl, by omega, fun j hj => absurd hj (by omega)⟩
    case round =>
      obtain ⟨k, rfl, hk, hs⟩ := hrel
      have HS := Lib.hid hs; clear hs
      by_cases hlt : k < cs.length
      · clear hcl
        have hc1 := HC.out k hlt
        by_cases hd : 0 ≤ gi cs k ∧ gi cs k ≤ 7
        · have hin2 : inB (gi cs k) 0 7 = true := by simp [inB]; omega
          have HD := Lib.hid hd; clear hd
          go_wp2_with (go_at_call 52; refine (l1In_any _ _ _ _).mono ?_; rintro e w' ⟨rfl, rfl⟩)
          go_round
          case rel => exact ⟨k + 1, by go_num, by omega, fun j hj => if hjk : j = k then by subst hjk; exact HD.out else HS.out j (by omega)⟩
          case measure => simp [intOf]; omega
        · have HD : Hid (¬ (0 ≤ gi cs k ∧ gi cs k ≤ 7)) := hd
          have hin2 : inB (gi cs k) 0 7 = false := by simp [inB]; omega
          clear hd
          go_wp2_with (go_at_call 52; refine (l1In_any _ _ _ _).mono ?_; rintro e w' ⟨rfl, rfl⟩)
          go_ret
          refine ⟨ret_bool ?_, rfl⟩
          rw [Bool.false_eq, goodCodeB, decide_eq_false_iff_not]
          exact fun hg => HD.out (hg.2.2.2 k hlt)
      · go_wp2
        go_ret
        refine ⟨ret_bool ?_, rfl⟩
        by_cases hz : gi cs (cs.length - 1) = 0
        · rw [goodCodeB, decide_eq_false (fun hg => hg.2.2.1 hz)]; simp [hz]
        · rw [goodCodeB, decide_eq_true (show goodCode cs from ⟨hl1, hl2, hz, fun i hi => HS.out i (by omega)⟩)]; simp [hz]
  · have hin : inB cs.length 1 6 = false := by simp [inB]; omega
    have hf : goodCodeB cs = false := by
      rw [goodCodeB, decide_eq_false_iff_not]
      exact fun hg => hl ⟨hg.1, hg.2.1⟩
    rw [hf]; clear hf hl
    go_enter Try.func34, Try.ntmps34
    go_wp2_with (go_at_call 52; refine (l1In_any _ _ _ _).mono ?_; rintro e w' ⟨rfl, rfl⟩)
    go_ret
    exact ⟨rfl, rfl⟩

/-- How far values must be known for a proof; -1 if there is none. -/
def needs (cs : List Int) (p l : Int) : Int := if goodCodeB cs = true ∧ goodPerB p l = true then 2 * p + 2 * l + cs.length else -1

end Go.Proofs.Ytbledcogbkeneaa
