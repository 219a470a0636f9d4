/- Boards that are good: the program's test and the reference's, by contracts; FnExactGoodBoard. Conditions: none. -/
import Derived.Test.YtpepkpikeggceaaDoorBoard0
import Derived.Test.YtpepkpikeggceaaDoorStalk
import Derived.Deep.RegionHeld3
namespace Go.Proofs.YtpepkpikeggceaaDoor
open Go.RowKit
set_option linter.unusedVariables false

/-- A board that is valid. -/
def boardP (ss : List ByteArray) : Prop :=
  (1 ≤ ss.length ∧ ss.length ≤ 8) ∧ (1 ≤ (gs ss 0).size ∧ (gs ss 0).size ≤ 8) ∧ ∀ i, i < ss.length → (gs ss i).size = (gs ss 0).size ∧ allIn [46, 35] (gs ss i) = true
instance (ss : List ByteArray) : Decidable (boardP ss) := by unfold boardP; infer_instance
def boardB (ss : List ByteArray) : Bool := decide (boardP ss)
theorem boardB_yes {ss : List ByteArray} (h : boardP ss) : boardB ss = true := decide_eq_true h
theorem boardB_no {ss : List ByteArray} (h : ¬ boardP ss) : boardB ss = false := decide_eq_false h
theorem boardB_of {ss : List ByteArray} (h : boardB ss = true) : boardP ss := of_decide_eq_true h

set_option maxHeartbeats 1600000 in
theorem goodBoardI_any (A : Option Addr) (c : Nat) (ss : List ByteArray) (w : World) (B : Nat) (hB : B ≤ w.heap.size) (h : Rd w B A c (scells ss)) (hsz : Hid (Short ss)) :
    Calls Tryd.prog 51 #[.agg #[.slice A ss.length c]] w fun e w' => e = .returned (.bool (boardB ss)) ∧ Below w.heap.size w w' := by
  have h1 := h.len
  have h2 := h.max
  rw [scells_len] at h1
  by_cases hl : 1 ≤ ss.length ∧ ss.length ≤ 8
  · have hsz0 := hsz.out 0 (by omega)
    obtain ⟨hl1, hl2⟩ := hl
    obtain ⟨b, o, rfl, hbB, hc⟩ := h.at (j := 0) (by rw [scells_len]; omega)
    have hc0 := hc 0 _ (gs_at ss 0 (by omega))
    rw [Nat.add_zero] at hc0
    have hc0 := fun o' => ((bel1 w o').cell (p := ⟨b, o, none⟩) (by show b < _; omega)).trans hc0
    by_cases hz : 1 ≤ (gs ss 0).size ∧ (gs ss 0).size ≤ 8
    · obtain ⟨hz1, hz2⟩ := hz
      have HCS := Lib.hid hc; clear hc
      go_enter Tryd.func51, Tryd.ntmps51
      go_wp2
      obtain ⟨W, hW⟩ : ∃ W, W = w.alloc (.cells #[.slice (some ⟨b, o, none⟩) ss.length c] 45) := ⟨_, rfl⟩
      have hAW : Below w.heap.size w W := by rw [hW]; first | exact bel1 _ _ | exact bel2 _ _ _ | exact bel3 _ _ _ _
      have hzW : w.heap.size < W.heap.size := by rw [hW]; simp
      have c0W : W.cell? ⟨w.heap.size, 0, none⟩ = some (.slice (some ⟨b, o, none⟩) ss.length c) := by rw [hW]; simp [go_sem]
      rw [← hW]
      clear hW
      have HQ : Hid (∀ w', Below W.heap.size W w' → w'.cell? ⟨w.heap.size, 0, none⟩ = some (.slice (some ⟨b, o, none⟩) ss.length c) ∧ ∀ i, i < ss.length → w'.cell? ⟨b, o + i, none⟩ = some (.string (gs ss i))) := fun w' hb =>
        ⟨(hb.cell (p := ⟨w.heap.size, 0, none⟩) hzW).trans c0W, fun i hi => ((hAW.trans (hb.mono (by omega))).cell (p := ⟨b, o + i, none⟩) (by show b < _; omega)).trans (HCS.out i _ (gs_at ss i hi))⟩
      clear c0W hc0
      go_loopw [4, 34] (fun r i wr => ∃ k : Nat, i = .int .i64 k ∧ k ≤ ss.length ∧ (∀ j, j < k → (gs ss j).size = (gs ss 0).size ∧ allIn [46, 35] (gs ss j) = true) ∧ Below W.heap.size W wr) (fun _ i _ => ss.length - (intOf i).toNat)
      case atStart => exact ⟨0, rfl, by omega, fun j hj => absurd hj (by omega), Below.refl _ _⟩
      case round =>
        obtain ⟨k, rfl, hk, hr, hb⟩ := hrel
        have HR := Lib.hid hr; clear hr
        obtain ⟨q0, hq⟩ := HQ.out wr hb
        by_cases hlt : k < ss.length
        · have qk := hq k hlt
          have q00 := hq 0 (by omega)
          rw [Nat.add_zero] at q00
          clear hq
          have hszk := hsz.out k hlt
          by_cases he : (gs ss k).size = (gs ss 0).size
          · have ht : (((gs ss k).size : Int) != ((gs ss 0).size : Int)) = false := by simp [he]
            have HE := Lib.hid he; clear he
            cases ha : allIn [46, 35] (gs ss k)
            · have HF : Hid (boardB ss = false) := by show _ = _; exact boardB_no fun hh => by rw [(hh.2.2 k hlt).2] at ha; cases ha
              have ht2 : (Lib.trimS (gs ss k).data.toList [46, 35]).isEmpty = false := by rw [trim_isEmpty]; exact ha
              clear ha
              go_wp2_with (go_at_call 62; refine (trimmed_any [46, 35] (by decide) (by decide) (gs ss k) wr (by unfold maxLen; omega)).mono ?_; rintro e w1 ⟨rfl, hb1⟩)
              go_ret
              exact ⟨ret_bool HF.out.symm, gtr hAW (gtr hb hb1)⟩
            · have HA := Lib.hid ha
              have ht2 : (Lib.trimS (gs ss k).data.toList [46, 35]).isEmpty = true := by rw [trim_isEmpty]; exact ha
              clear ha
              go_wp2_with (go_at_call 62; refine (trimmed_any [46, 35] (by decide) (by decide) (gs ss k) wr (by unfold maxLen; omega)).mono ?_; rintro e w1 ⟨rfl, hb1⟩)
              go_roundw
              case rel => exact ⟨k + 1, by go_num, by omega, fun j hj => if hjk : j = k then by rw [hjk]; exact ⟨HE.out, HA.out⟩ else HR.out j (by omega), gtr hb hb1⟩
              case measure => simp [intOf]; omega
          · have ht : (((gs ss k).size : Int) != ((gs ss 0).size : Int)) = true := by simp; omega
            have HF : Hid (boardB ss = false) := by show _ = _; exact boardB_no fun hh => he (hh.2.2 k hlt).1
            clear he
            go_wp2_with fail
            go_ret
            exact ⟨ret_bool HF.out.symm, gtr hAW hb⟩
        · have HT : Hid (boardB ss = true) := by show _ = _; exact boardB_yes ⟨⟨hl1, hl2⟩, ⟨hz1, hz2⟩, fun i hi => HR.out i (by omega)⟩
          clear hq q0
          go_wp2
          go_ret
          exact ⟨ret_bool HT.out.symm, gtr hAW hb⟩
    · rw [boardB_no fun hh => hz hh.2.1]
      have HCS := Lib.hid hc; clear hc
      by_cases hz1 : (gs ss 0).size < 1
      · clear hz
        go_enter Tryd.func51, Tryd.ntmps51
        go_wp2_with fail
        go_ret
        exact ⟨rfl, (Below.refl _ _).alloc (Nat.le_refl _) _⟩
      · have hz2 : 8 < (gs ss 0).size := by omega
        clear hz
        go_enter Tryd.func51, Tryd.ntmps51
        go_wp2_with fail
        go_ret
        exact ⟨rfl, (Below.refl _ _).alloc (Nat.le_refl _) _⟩
  · rw [boardB_no fun hh => hl hh.1]
    by_cases hl1 : ss.length < 1
    · clear hl
      go_enter Tryd.func51, Tryd.ntmps51
      go_wp2_with fail
      go_ret
      exact ⟨rfl, (Below.refl _ _).alloc (Nat.le_refl _) _⟩
    · have hl2 : 8 < ss.length := by omega
      clear hl
      go_enter Tryd.func51, Tryd.ntmps51
      go_wp2_with fail
      go_ret
      exact ⟨rfl, (Below.refl _ _).alloc (Nat.le_refl _) _⟩

set_option maxHeartbeats 3200000 in
theorem goodBoardS_any (A : Option Addr) (c : Nat) (ss : List ByteArray) (w : World) (B : Nat) (hB : B ≤ w.heap.size) (h : Rd w B A c (scells ss)) (hsz : Hid (Short ss)) :
    Calls Tryd.prog 48 #[.agg #[.slice A ss.length c]] w fun e w' => e = .returned (.bool (boardB ss)) ∧ Below w.heap.size w w' := by
  have h1 := h.len
  have h2 := h.max
  rw [scells_len] at h1
  by_cases hl : 1 ≤ ss.length ∧ ss.length ≤ 8
  · have hin : inB ss.length 1 8 = true := by simp [inB]; omega
    obtain ⟨hl1, hl2⟩ := hl
    obtain ⟨b, o, rfl, hbB, hc⟩ := h.at (j := 0) (by rw [scells_len]; omega)
    have HCS := Lib.hid hc; clear hc
    go_enter Tryd.func48, Tryd.ntmps48
    go_wp2_with (go_at_call 37; (with_reducible refine (l1In_any _ _ _ _).mono ?_); rintro e w' ⟨rfl, rfl⟩)
    obtain ⟨W, hW⟩ : ∃ W, W = w.alloc (.cells #[.slice (some ⟨b, o, none⟩) ss.length c] 45) := ⟨_, rfl⟩
    have hAW : Below w.heap.size w W := by rw [hW]; first | exact bel1 _ _ | exact bel2 _ _ _ | exact bel3 _ _ _ _
    have hzW : w.heap.size < W.heap.size := by rw [hW]; simp
    have c0W : W.cell? ⟨w.heap.size, 0, none⟩ = some (.slice (some ⟨b, o, none⟩) ss.length c) := by rw [hW]; simp [go_sem]
    rw [← hW]
    clear hW
    have HQ : Hid (∀ w', Below W.heap.size W w' → w'.cell? ⟨w.heap.size, 0, none⟩ = some (.slice (some ⟨b, o, none⟩) ss.length c) ∧ ∀ i, i < ss.length → w'.cell? ⟨b, o + i, none⟩ = some (.string (gs ss i))) := fun w' hb =>
      ⟨(hb.cell (p := ⟨w.heap.size, 0, none⟩) hzW).trans c0W, fun i hi => ((hAW.trans (hb.mono (by omega))).cell (p := ⟨b, o + i, none⟩) (by show b < _; omega)).trans (HCS.out i _ (gs_at ss i hi))⟩
    clear c0W
    go_loopw [3, 4] (fun i x wr => ∃ k : Nat, i = .int .i64 k ∧ k ≤ ss.length ∧ (∀ j, j < k → ((gs ss j).size = (gs ss 0).size ∧ allIn [46, 35] (gs ss j) = true) ∧ 1 ≤ (gs ss j).size ∧ (gs ss j).size ≤ 8) ∧ Below W.heap.size W wr) (fun i _ _ => ss.length - (intOf i).toNat)
    case atStart => exact ⟨0, rfl, by omega, fun j hj => absurd hj (by omega), Below.refl _ _⟩
    case round =>
      obtain ⟨k, rfl, hk, hr, hb⟩ := hrel
      have HR := Lib.hid hr; clear hr
      obtain ⟨q0, hq⟩ := HQ.out wr hb
      by_cases hlt : k < ss.length
      · have qk := hq k hlt
        have q00 := hq 0 (by omega)
        rw [Nat.add_zero] at q00
        clear hq
        have hszk := hsz.out k hlt
        cases hi2 : inB (gs ss k).size 1 8
        · have HF : Hid (boardB ss = false) := by
            show _ = _
            refine boardB_no fun hh => ?_
            have e1 := (hh.2.2 k hlt).1
            have e2 := hh.2.1
            simp [inB] at hi2
            omega
          go_wp2_with fail
          go_quiet ((go_at_call 37; exact Calls.quiet_of_same ((l1In_any _ _ _ _).mono fun _ _ ⟨he, hw⟩ => ⟨he, hw.symm⟩)))
          go_wp2
          go_ret
          exact ⟨ret_bool HF.out.symm, gtr hAW (bdrew hb _)⟩
        · have HI : Hid (1 ≤ (gs ss k).size ∧ (gs ss k).size ≤ 8) := by have := hi2; simp [inB] at this; exact ⟨by omega, by omega⟩
          by_cases he : (gs ss k).size = (gs ss 0).size
          · have ht : (((gs ss k).size : Int) != ((gs ss 0).size : Int)) = false := by simp [he]
            have HE := Lib.hid he; clear he
            have hk8 : (gs ss k).size ≤ 8 := HI.out.2
            go_wp2_with fail
            go_quiet ((go_at_call 37; exact Calls.quiet_of_same ((l1In_any _ _ _ _).mono fun _ _ ⟨he, hw⟩ => ⟨he, hw.symm⟩)))
            have hb' := bdrew hb nq
            go_wp2_with fail
            go_loopw [4] (fun x wr' => ∃ j : Nat, x = .int .i64 j ∧ j ≤ (gs ss k).size ∧ (∀ t (ht : t < (gs ss k).size), t < j → ([46, 35] : List UInt8).contains (gs ss k)[t] = true) ∧ Below W.heap.size W wr') (fun x _ => (gs ss k).size - (intOf x).toNat)
            case atStart => exact ⟨0, rfl, by omega, fun t _ ht => absurd ht (by omega), hb'⟩
            case round =>
              clear hb' q0 qk q00 hb
              obtain ⟨j, rfl, hj, hr, hb⟩ := hrel
              have HRR := Lib.hid hr; clear hr
              obtain ⟨q0, hq⟩ := HQ.out _ hb
              have qk := hq k hlt
              clear hq
              by_cases hjl : j < (gs ss k).size
              · by_cases c1 : (gs ss k)[j] = 46
                · have t1 := bne_f 46 rfl c1
                  have HC : Hid (([46, 35] : List UInt8).contains (gs ss k)[j] = true) := by show _ = _; rw [c1]; rfl
                  clear c1
                  go_wp2
                  go_roundw
                  case rel => exact ⟨j + 1, by go_num, by omega, fun t ht htj => if hh : t = j then by subst hh; exact HC.out else HRR.out t ht (by omega), hb⟩
                  case measure => simp [intOf]; omega
                · have t1 := bne_t 46 rfl c1
                  by_cases c2 : (gs ss k)[j] = 35
                  · have t2 := bne_f 35 rfl c2
                    have HC : Hid (([46, 35] : List UInt8).contains (gs ss k)[j] = true) := by show _ = _; rw [c2]; rfl
                    clear c1 c2
                    go_wp2
                    go_roundw
                    case rel => exact ⟨j + 1, by go_num, by omega, fun t ht htj => if hh : t = j then by subst hh; exact HC.out else HRR.out t ht (by omega), hb⟩
                    case measure => simp [intOf]; omega
                  · have t2 := bne_t 35 rfl c2
                    have HF : Hid (boardB ss = false) := by
                      show _ = _
                      refine boardB_no fun hh => ?_
                      have := allIn_true.1 (hh.2.2 k hlt).2 j hjl
                      simp [c1, c2] at this
                    clear c1 c2
                    go_wp2
                    go_ret
                    exact ⟨ret_bool HF.out.symm, gtr hAW hb⟩
              · have HA : Hid (allIn [46, 35] (gs ss k) = true) := allIn_true.2 fun t ht => HRR.out t ht (by omega)
                go_wp2
                go_roundw
                case rel => exact ⟨k + 1, by go_num, by omega, fun t ht => if hh : t = k then by rw [hh]; exact ⟨⟨HE.out, HA.out⟩, HI.out⟩ else HR.out t (by omega), hb⟩
                case measure => simp [intOf]; omega
          · have ht : (((gs ss k).size : Int) != ((gs ss 0).size : Int)) = true := by simp; omega
            have HF : Hid (boardB ss = false) := by show _ = _; exact boardB_no fun hh => he (hh.2.2 k hlt).1
            clear he
            go_wp2_with fail
            go_quiet ((go_at_call 37; exact Calls.quiet_of_same ((l1In_any _ _ _ _).mono fun _ _ ⟨he, hw⟩ => ⟨he, hw.symm⟩)))
            go_wp2
            go_ret
            exact ⟨ret_bool HF.out.symm, gtr hAW (bdrew hb _)⟩
      · have HT : Hid (boardB ss = true) := by
          show _ = _
          refine boardB_yes ⟨⟨hl1, hl2⟩, (HR.out 0 (by omega)).2, fun i hi => (HR.out i (by omega)).1⟩
        clear hq
        go_wp2
        go_ret
        exact ⟨ret_bool HT.out.symm, gtr hAW hb⟩
  · have hin : inB ss.length 1 8 = false := by simp [inB]; omega
    rw [boardB_no fun hh => hl hh.1]
    clear hl
    go_enter Tryd.func48, Tryd.ntmps48
    go_wp2_with (go_at_call 37; (with_reducible refine (l1In_any _ _ _ _).mono ?_); rintro e w' ⟨rfl, rfl⟩)
    go_ret
    exact ⟨rfl, (Below.refl _ _).alloc (Nat.le_refl _) _⟩
end Go.Proofs.YtpepkpikeggceaaDoor
