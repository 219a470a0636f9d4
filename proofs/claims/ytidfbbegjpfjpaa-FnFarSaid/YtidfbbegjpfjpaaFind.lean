/- FindPeriod of the program and of the reference by contracts. Conditions: none. -/
import Derived.Test.YtidfbbegjpfjpaaFind0
namespace Go.Proofs.Ytidfbbegjpfjpaa
open Go.RowKit
set_option linter.unusedVariables false

set_option maxHeartbeats 800000 in
theorem findS_any (A : Option Addr) (c : Nat) (cs : List Int) (most : Int) (w : World) (B : Nat) (hB : B ≤ w.heap.size) (h : RdI w B A c cs) :
    Calls Try.prog 52 #[.slice A cs.length c, .int .i64 most] w fun e w' => ∃ r, Fnd cs most r ∧ e = .returned (perV r) ∧ Below w.heap.size w w' := by
  cases hg : goodCodeB cs
  · have hr : Hid (Fnd cs most none) := by
      show Fnd _ _ _
      unfold Fnd
      rw [if_neg (fun hh => by rw [goodCodeB_true.2 hh.1] at hg; cases hg)]
    go_enter Try.func52, Try.ntmps52
    go_wp2_with (first
      | (go_at_call 65; refine (goodCodeS_any _ _ _ _ B (h.below ((Below.refl _ _).alloc (Nat.le_refl _) _) hB)).mono ?_; rintro e w' ⟨rfl, rfl⟩)
      | (go_at_call 37; refine (l1In_any _ _ _ _).mono ?_; rintro e w' ⟨rfl, rfl⟩))
    refine bodyPost_ret (v := .tuple #[.agg #[.int .i64 0, .int .i64 0], .bool false]) (by simp [results, Try.results52, go_sem]) rfl ⟨none, hr.out, rfl, ?_⟩
    (repeat (first | exact Below.refl _ _ | refine Below.setCell ?_ (by simp) _ | refine Below.alloc ?_ (by first | exact Nat.le_refl _ | (simp; done) | (simp; omega)) _ | refine bdrew ?_ _))
  · by_cases hm : 0 ≤ most ∧ most ≤ 300
    · obtain ⟨hm1, hm2⟩ := hm
      obtain ⟨M, rfl⟩ : ∃ M : Nat, most = M := ⟨most.toNat, by omega⟩
      have hin : inB M 0 300 = true := by simp [inB]; omega
      have hF : Hid (∀ r, Found cs M r → Fnd cs M r) := fun r hr => by
        unfold Fnd
        rw [if_pos ⟨goodCodeB_true.1 hg, hm1, hm2⟩]
        exact hr
      have HG : Hid (goodCode cs) := goodCodeB_true.1 hg
      have hcs : 1 ≤ cs.length ∧ cs.length ≤ 6 := ⟨HG.out.1, HG.out.2.1⟩
      go_enter Try.func52, Try.ntmps52
      go_wp2_with (first
        | (go_at_call 65; refine (goodCodeS_any _ _ _ _ B (h.below ((Below.refl _ _).alloc (Nat.le_refl _) _) hB)).mono ?_; rintro e w' ⟨rfl, rfl⟩)
        | (go_at_call 37; refine (l1In_any _ _ _ _).mono ?_; rintro e w' ⟨rfl, rfl⟩))
      have hB0 := Blk.new w 39 #[.int .i64 0, .int .i64 0]
      have hb0 : Below w.heap.size w (w.alloc (.cells #[.int .i64 0, .int .i64 0] 39)) := (Below.refl _ _).alloc (Nat.le_refl _) _
      have hz0 : w.heap.size < (w.alloc (.cells #[.int .i64 0, .int .i64 0] 39)).heap.size := by simp
      generalize w.alloc (.cells #[.int .i64 0, .int .i64 0] 39) = W at *
      refine (valuesS_any _ _ _ M _ _ (Nat.le_refl _) ((h.below hb0 hB).more (by omega)) (by omega) HG.out).mono ?_
      rintro e w1 ⟨⟨A2, c2, rfl, ho, hb1⟩, hs15⟩
      clear hs15
      have hB1 := hB0.below hb1 hz0
      have hb1' := hb0.trans (hb1.mono (by omega))
      have hz1 := hb1.size
      clear hb0 hb1 hB0
      have hr1 : RdI w1 w1.heap.size A2 c2 (nats (V cs (M + 1))) := ho.rd rfl
      clear ho
      have hc2 := hr1.len
      rw [nats_len, V_len] at hc2
      have hc3 := hr1.max
      rw [nats_len, V_len]
      go_wp2
      go_loopw [7] (fun i wr => ∃ k : Nat, i = .int .i64 k ∧ 1 ≤ k ∧ k ≤ 160 ∧ (∀ l' p', l' < k → ¬ isPer cs M l' p') ∧ Below w1.heap.size w1 wr) (fun i _ => (160 - (intOf i)).toNat)
      case atStart => exact ⟨1, rfl, by omega, by omega, fun l' p' hl hp => by have := hp.1; omega, Below.refl _ _⟩
      case round =>
        obtain ⟨k, rfl, hk1, hk2, hn, hb⟩ := hrel
        have HN := Lib.hid hn; clear hn
        by_cases hk : 2 * k + cs.length ≤ M
        · have hkI : 2 * (k : Int) + (cs.length : Int) ≤ (M : Int) := by omega
          go_wp2
          obtain ⟨wo, rfl⟩ : ∃ wo : World, wo = wr := ⟨_, rfl⟩
          go_loopw [8] (fun i wr => ∃ m : Nat, i = .int .i64 m ∧ m ≤ 160 ∧ (∀ p', p' < m → ¬ isPer cs M k p') ∧ Below w1.heap.size w1 wr) (fun i _ => (160 - (intOf i)).toNat)
          case atStart => exact ⟨0, rfl, by omega, fun p' hp => absurd hp (by omega), hb⟩
          case round =>
            clear hb
            obtain ⟨m, rfl, hm, hn, hb⟩ := hrel
            have HM := Lib.hid hn; clear hn
            have hzr := hb.size
            by_cases hNM : 2 * m + 2 * k + cs.length ≤ M
            · have hNI : 2 * (m : Int) + 2 * (k : Int) + (cs.length : Int) ≤ (M : Int) := by omega
              obtain ⟨N, hNe⟩ : ∃ N, 2 * m + 2 * k + cs.length = N := ⟨_, rfl⟩
              have HNN := Lib.hid hNe
              have hNN : 2 * (m : Int) + 2 * (k : Int) + (cs.length : Int) = (N : Int) := by omega
              have hrN : RdI wr w1.heap.size A2 c2 (nats (V cs (N + 1))) := (hr1.takeV (by omega)).below hb (Nat.le_refl _)
              have hrep := repFromS_any A2 c2 (nats (V cs (N + 1))) m k wr w1.heap.size hzr hrN hk1 (by omega) (by omega)
              have hnim := fun w' hw => nimbers_any A2 c2 (V cs (N + 1)) w' w1.heap.size (hrN.below (w' := w') (B' := wr.heap.size) hw hzr)
              rw [nats_len, V_len] at hrep
              simp only [V_len] at hnim
              have HRep := Lib.hid hrep; have HNim := Lib.hid hnim; clear hrep hnim
              have HP : Hid (isPer cs M k m ↔ repB (nats (V cs (N + 1))) m k = true ∧ small255B (V cs (N + 1)) = true) := by
                show _ ↔ _
                unfold isPer
                rw [HNN.out, small255B, decide_eq_true_eq]
                exact ⟨fun hh => hh.2.2, fun hh => ⟨hk1, by omega, hh⟩⟩
              generalize repB (nats (V cs (N + 1))) m k = rb at *
              generalize small255B (V cs (N + 1)) = sb at *
              have hNM' : N ≤ M := by omega
              have hmk : m ≤ 150 ∧ k ≤ 150 := by omega
              clear hNM hNe hrN
              cases rb
              · have HNP : Hid (¬ isPer cs M k m) := fun hh => by have := (HP.out.1 hh).1; cases this
                go_wp2_with fail
                refine HRep.out.mono ?_; rintro e w3 ⟨rfl, hb3⟩
                have hb6 := hb.trans (hb3.mono hzr)
                go_wp2
                go_roundw
                case rel => exact ⟨m + 1, by go_num, by omega, fun p' hp => if hpm : p' = m then by subst hpm; exact HNP.out else HM.out p' (by omega), hb6⟩
                case measure => simp [intOf]; omega
              · cases sb
                · have HNP : Hid (¬ isPer cs M k m) := fun hh => by have := (HP.out.1 hh).2; cases this
                  go_wp2_with fail
                  refine HRep.out.mono ?_; rintro e w3 ⟨rfl, hb3⟩
                  have hb6 := hb.trans (hb3.mono hzr)
                  go_wp2_with fail
                  refine (HNim.out _ hb3).mono ?_; rintro e w4 ⟨rfl, rfl⟩
                  go_wp2
                  go_roundw
                  case rel => exact ⟨m + 1, by go_num, by omega, fun p' hp => if hpm : p' = m then by subst hpm; exact HNP.out else HM.out p' (by omega), hb6⟩
                  case measure => simp [intOf]; omega
                · have HYP : Hid (isPer cs M k m) := HP.out.2 ⟨rfl, rfl⟩
                  go_wp2_with fail
                  refine HRep.out.mono ?_; rintro e w3 ⟨rfl, hb3⟩
                  have hb6 := hb.trans (hb3.mono hzr)
                  have hz6 := hb6.size
                  go_wp2_with fail
                  refine (HNim.out _ hb3).mono ?_; rintro e w4 ⟨rfl, rfl⟩
                  have hB4 := hB1.below hb6 (by omega)
                  have r0 := Blk.cell hB4 0
                  have r1 := Blk.cell hB4 1
                  have rf0 := Blk.frozen hB4 0
                  have rf1 := Blk.frozen hB4 1
                  go_wp2
                  refine bodyPost_ret (v := .tuple #[.agg #[.int .i64 m, .int .i64 k], .bool true]) (by simp [results, Try.results52, go_sem, r0, r1]) rfl ⟨some (m, k), hF.out _ ⟨HYP.out, ?_⟩, rfl, ?_⟩
                  · rintro l' p' (hh | ⟨rfl, hh⟩)
                    · exact HN.out l' p' hh
                    · exact HM.out p' hh
                  · exact ((hb1'.trans (hb6.mono (by omega))).setCell (by simp) _).setCell (by simp) _
            · have hNI : (M : Int) < 2 * (m : Int) + 2 * (k : Int) + (cs.length : Int) := by omega
              go_wp2
              go_roundw
              case rel =>
                refine ⟨k + 1, by go_num, by omega, by omega, fun l' p' hl => ?_, hb⟩
                by_cases hlk : l' = k
                · subst hlk
                  by_cases hpm : p' < m
                  · exact HM.out p' hpm
                  · exact fun hh => by have := hh.2.1; omega
                · exact HN.out l' p' (by omega)
              case measure => simp [intOf]; omega
        · have hkI : (M : Int) < 2 * (k : Int) + (cs.length : Int) := by omega
          have hB4 := hB1.below hb (by omega)
          have hzr := hb.size
          have r0 := Blk.cell hB4 0
          have r1 := Blk.cell hB4 1
          have rf0 := Blk.frozen hB4 0
          have rf1 := Blk.frozen hB4 1
          go_wp2
          refine bodyPost_ret (v := .tuple #[.agg #[.int .i64 0, .int .i64 0], .bool false]) (by simp [results, Try.results52, go_sem, r0, r1]) rfl ⟨none, hF.out _ (fun l' p' hh => ?_), rfl, ?_⟩
          · have := hh.2.1
            exact HN.out l' p' (by omega) hh
          · exact ((hb1'.trans (hb.mono (by omega))).setCell (by simp) _).setCell (by simp) _
    · have hr : Hid (Fnd cs most none) := by
        show Fnd _ _ _
        unfold Fnd
        rw [if_neg (fun hh => hm hh.2)]
      have hin : inB most 0 300 = false := by simp [inB]; omega
      clear hm
      go_enter Try.func52, Try.ntmps52
      go_wp2_with (first
        | (go_at_call 65; refine (goodCodeS_any _ _ _ _ B (h.below ((Below.refl _ _).alloc (Nat.le_refl _) _) hB)).mono ?_; rintro e w' ⟨rfl, rfl⟩)
        | (go_at_call 37; refine (l1In_any _ _ _ _).mono ?_; rintro e w' ⟨rfl, rfl⟩))
      refine bodyPost_ret (v := .tuple #[.agg #[.int .i64 0, .int .i64 0], .bool false]) (by simp [results, Try.results52, go_sem]) rfl ⟨none, hr.out, rfl, ?_⟩
      (repeat (first | exact Below.refl _ _ | refine Below.setCell ?_ (by simp) _ | refine Below.alloc ?_ (by first | exact Nat.le_refl _ | (simp; done) | (simp; omega)) _ | refine bdrew ?_ _))
end Go.Proofs.Ytidfbbegjpfjpaa
