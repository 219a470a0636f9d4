/- The reference's LeastPeriod, GoodCode and ProofNeeds, by contracts. Conditions: none. -/
import Derived.Test.YtmdnbmdkommmkaaPeriod
import Derived.Test.YtmdnbmdkommmkaaSl
namespace Go.Proofs.Ytmdnbmdkommmkaa
open Go.RowKit
set_option linter.unusedVariables false

set_option maxHeartbeats 400000 in
theorem repeatsS_any (A : Option Addr) (c : Nat) (vs : List Int) (p l : Int) (w : World) (B : Nat) (hB : B ≤ w.heap.size) (h : RdI w B A c vs) :
    Calls Try.prog 17 #[.slice A vs.length c, .agg #[.int .i64 p, .int .i64 l]] w fun e w' => e = .returned (.bool (goodPerB p l && repB vs p.toNat l.toNat)) ∧ Below w.heap.size w w' := by
  cases hg : goodPerB p l
  · go_enter Try.func17, Try.ntmps17
    go_wp2_with fail
    refine (goodPerS_any _ _ _).mono ?_; rintro e w1 ⟨rfl, hb1⟩
    go_wp2
    go_ret
    exact ⟨rfl, ((Below.refl _ _).alloc (Nat.le_refl _) _).trans (hb1.mono (by simp))⟩
  · have hg' := hg
    simp [goodPerB] at hg'
    obtain ⟨p, rfl⟩ := Int.eq_ofNat_of_zero_le hg'.1
    obtain ⟨l, rfl⟩ := Int.eq_ofNat_of_zero_le (show 0 ≤ l by omega)
    simp only [Int.toNat_natCast, Bool.true_and]
    go_enter Try.func17, Try.ntmps17
    go_wp2_with fail
    have hzW : w.heap.size < (w.alloc (.cells #[.int .i64 p, .int .i64 l] 27)).heap.size := by simp
    have hAW : Below w.heap.size w (w.alloc (.cells #[.int .i64 p, .int .i64 l] 27)) := (Below.refl _ _).alloc (Nat.le_refl _) _
    have c0W : (w.alloc (.cells #[.int .i64 p, .int .i64 l] 27)).cell? ⟨w.heap.size, 0, none⟩ = some (.int .i64 p) := by simp [go_sem]
    have c1W : (w.alloc (.cells #[.int .i64 p, .int .i64 l] 27)).cell? ⟨w.heap.size, 1, none⟩ = some (.int .i64 l) := by simp [go_sem]
    generalize w.alloc (.cells #[.int .i64 p, .int .i64 l] 27) = W at *
    refine (goodPerS_any _ _ _).mono ?_; rintro e w1 ⟨rfl, hb1⟩
    have q0 := (hb1.cell (p := ⟨w.heap.size, 0, none⟩) hzW).trans c0W
    have q1 := (hb1.cell (p := ⟨w.heap.size, 1, none⟩) hzW).trans c1W
    have hz := hb1.size
    go_wp2_with fail
    refine (repFromS_any _ _ _ _ _ _ B (by omega) ((h.below hAW hB).below hb1 (by omega)) (by omega) (by omega) (by omega)).mono ?_; rintro e w2 ⟨rfl, hb2⟩
    go_wp2
    go_ret
    exact ⟨rfl, (hAW.trans (hb1.mono (by omega))).trans (hb2.mono (by omega))⟩

theorem lp_none (vs : List Int) : ∀ f k, vs.length < 2 * k → lp vs k f = none := by
  intro f
  induction f with
  | zero => intro k _; rfl
  | succ f ih =>
    intro k hk
    rw [lp, if_neg (by omega)]
    exact ih (k + 1) (by omega)

set_option maxHeartbeats 800000 in
theorem leastS_any (A : Option Addr) (c : Nat) (vs : List Int) (w : World) (B : Nat) (hB : B ≤ w.heap.size) (h : RdI w B A c vs) :
    Calls Try.prog 12 #[.slice A vs.length c] w fun e w' => e = .returned (perV (leastPer vs)) ∧ Below w.heap.size w w' := by
  have h1 := h.len
  have h2 := h.max
  by_cases hn : 2 ≤ vs.length ∧ vs.length ≤ 301
  · have e0 : leastPer vs = lp vs 1 300 := if_pos hn
    rw [e0]; clear e0
    have hin : inB vs.length 2 301 = true := by simp [inB]; omega
    obtain ⟨hn1, hn2⟩ := hn
    go_enter Try.func12, Try.ntmps12
    go_wp2_with (go_at_call 45; refine (l1In_any _ _ _ _).mono ?_; rintro e w' ⟨rfl, rfl⟩)
    have hB1 := Blk.new w 27 #[.int .i64 0, .int .i64 0]
    have hb1 : Below w.heap.size w (w.alloc (.cells #[.int .i64 0, .int .i64 0] 27)) := (Below.refl _ _).alloc (Nat.le_refl _) _
    go_loopw [5] (fun i wr => ∃ k : Nat, i = .int .i64 k ∧ 1 ≤ k ∧ k ≤ 301 ∧ lp vs 1 300 = lp vs k (301 - k) ∧ Below w.heap.size w wr ∧ Blk wr w.heap.size 27 #[.int .i64 0, .int .i64 0])
      (fun i _ => (301 - (intOf i)).toNat)
    case atStart => exact ⟨1, rfl, by omega, by omega, rfl, hb1, hB1⟩
    case round =>
      clear hB1 hb1
      obtain ⟨k, rfl, hk1, hk2, hs, hb, hB1⟩ := hrel
      have HS := Lib.hid hs; clear hs
      have hlt := hB1.lt
      by_cases hk : 2 * k ≤ vs.length
      · go_wp2
        obtain ⟨wo, rfl⟩ : ∃ wo : World, wo = wr := ⟨_, rfl⟩
        go_loopw [6] (fun i wr => ∃ m : Nat, i = .int .i64 m ∧ m ≤ vs.length - k ∧ setl vs k (vs.length - k) = setl vs k m ∧ Below w.heap.size w wr ∧ Blk wr w.heap.size 27 #[.int .i64 0, .int .i64 0])
          (fun i _ => (intOf i).toNat)
        case atStart => exact ⟨vs.length - k, by go_num, by omega, rfl, hb, hB1⟩
        case round =>
          clear hb hB1 hlt
          obtain ⟨m, rfl, hm, hs, hb, hB1⟩ := hrel
          have HM := Lib.hid hs; clear hs
          have hlt := hB1.lt
          by_cases hcont : 0 < m ∧ gi vs (m - 1) = gi vs (m - 1 + k)
          · obtain ⟨hm0, he⟩ := hcont
            obtain ⟨b, o, rfl, hbB, hc⟩ := (h.below hb hB).at (j := m - 1) (by omega)
            have hc1 := hc (m - 1) (by omega)
            have hc2 := hc (m - 1 + k) (by omega)
            clear hc
            have hd : decide (0 < m) = true := by simp; omega
            have ht : (gi vs (m - 1) == gi vs (m - 1 + k)) = true := by simp [he]
            have e2 : setl vs k m = setl vs k (m - 1) := by
              obtain ⟨q, rfl⟩ : ∃ q, m = q + 1 := ⟨m - 1, by omega⟩
              simp only [Nat.add_sub_cancel] at he ⊢
              rw [setl, if_pos he]
            rw [e2] at HM
            have HE := Lib.hid he; clear he
            have HE2 := Lib.hid e2; clear e2
            go_wp2
            go_quiet (fail)
            go_wp2
            go_roundw
            case rel => exact ⟨m - 1, by go_num, by omega, HM.out, bdrew hb _, hB1⟩
            case measure => simp [intOf]; omega
          · have hfin : setl vs k m = m := by
              rcases Nat.eq_zero_or_pos m with hz | hpos
              · subst hz; rfl
              · obtain ⟨q, rfl⟩ : ∃ q, m = q + 1 := ⟨m - 1, by omega⟩
                simp only [Nat.add_sub_cancel] at hcont
                rw [setl, if_neg (fun he => hcont ⟨by omega, he⟩)]
            have HF := Lib.hid (HM.out.trans hfin); clear hfin HM
            have hg3 : Below w.heap.size w wr ∧ Blk wr w.heap.size 27 #[.int .i64 0, .int .i64 0] := ⟨hb, hB1⟩
            rcases Nat.eq_zero_or_pos m with hz | hpos
            all_goals
              first
                | (have hd : decide (0 < m) = false := by simp; omega
                   clear hcont
                   have HZ := Lib.hid hz; clear hz
                   go_wp2
                   go_quiet (fail))
                | (have hd : decide (0 < m) = true := by simp; omega
                   have he : ¬ gi vs (m - 1) = gi vs (m - 1 + k) := fun he => hcont ⟨hpos, he⟩
                   have ht : (gi vs (m - 1) == gi vs (m - 1 + k)) = false := by simp [he]
                   clear hcont he
                   obtain ⟨b, o, rfl, hbB, hc⟩ := (h.below hb hB).at (j := m - 1) (by omega)
                   have hc1 := hc (m - 1) (by omega)
                   have hc2 := hc (m - 1 + k) (by omega)
                   clear hc
                   go_wp2
                   go_quiet (fail))
              by_cases ht2 : m + 2 * k ≤ vs.length
              · have e1 : lp vs k (301 - k) = some (m, k) := by
                  rw [show 301 - k = (300 - k) + 1 by omega, lp, HF.out, if_pos ht2]
                have HX := Lib.hid (HS.out.trans e1); clear e1 HS
                have r0 := Blk.cell hB1 0
                have r1 := Blk.cell hB1 1
                have rf0 := Blk.frozen hB1 0
                have rf1 := Blk.frozen hB1 1
                go_wp2
                refine bodyPost_ret (v := .tuple #[.agg #[.int .i64 m, .int .i64 k], .bool true]) (by simp [results, Try.results12, go_sem, r0, r1]) rfl ⟨by rw [HX.out]; rfl, ?_⟩
                exact ((bdrew hb _).setCell (by simp) _).setCell (by simp) _
              · have e1 : lp vs k (301 - k) = lp vs (k + 1) (301 - (k + 1)) := by
                  rw [show 301 - k = (300 - k) + 1 by omega, lp, HF.out, if_neg ht2, show 301 - (k + 1) = 300 - k by omega]
                have HX := Lib.hid (HS.out.trans e1); clear e1 HS
                go_wp2
                go_roundw
                case rel => exact ⟨k + 1, by go_num, by omega, by omega, HX.out, bdrew hb _, hB1⟩
                case measure => simp [intOf]; omega
      · have e1 : lp vs k (301 - k) = none := lp_none vs _ _ (by omega)
        have HX := Lib.hid (HS.out.trans e1); clear e1 HS
        have r0 := Blk.cell hB1 0
        have r1 := Blk.cell hB1 1
        have rf0 := Blk.frozen hB1 0
        have rf1 := Blk.frozen hB1 1
        go_wp2
        refine bodyPost_ret (v := .tuple #[.agg #[.int .i64 0, .int .i64 0], .bool false]) (by simp [results, Try.results12, go_sem, r0, r1]) rfl ⟨by rw [HX.out]; rfl, ?_⟩
        exact (hb.setCell (by simp) _).setCell (by simp) _
  · have e0 : leastPer vs = none := if_neg hn
    rw [e0]; clear e0
    have hin : inB vs.length 2 301 = false := by simp [inB]; omega
    clear hn
    go_enter Try.func12, Try.ntmps12
    go_wp2_with (go_at_call 45; refine (l1In_any _ _ _ _).mono ?_; rintro e w' ⟨rfl, rfl⟩)
    refine bodyPost_ret (v := .tuple #[.agg #[.int .i64 0, .int .i64 0], .bool false]) (by simp [results, Try.results12, go_sem]) rfl ⟨rfl, ?_⟩
    (repeat (first | exact Below.refl _ _ | refine Below.setCell ?_ (by simp) _ | refine Below.alloc ?_ (by first | exact Nat.le_refl _ | (simp; done) | (simp; omega)) _ | refine bdrew ?_ _))
end Go.Proofs.Ytmdnbmdkommmkaa
