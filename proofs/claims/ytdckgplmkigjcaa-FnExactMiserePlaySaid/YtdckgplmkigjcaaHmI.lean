/- heapMoves of the program by its contract. Conditions: none. -/
import Derived.Test.YtdckgplmkigjcaaHm0
namespace Go.Proofs.Ytdckgplmkigjcaa
open Go.RowKit
set_option linter.unusedVariables false

set_option maxRecDepth 100000 in
set_option maxHeartbeats 3200000 in
theorem heapMoves_any (A : Option Addr) (c : Nat) (cs : List Int) (n : Nat) (w : World) (B : Nat) (hB : B ≤ w.heap.size) (h : RdI w B A c cs) (hn : n ≤ 300) (hg : goodCode cs) :
    Calls Try.prog 75 #[.slice A cs.length c, .int .i64 n] w fun e w' => (∃ v, e = .returned v ∧ HL w' w.heap.size v 10000 (isMv cs n)) ∧ Below w.heap.size w w' := by
  have h1 := h.len
  have h2 := h.max
  obtain ⟨hg1, hg2, hg3, hg4⟩ := hg
  clear hg3
  have HD := Lib.hid hg4; clear hg4
  go_enter Try.func75, Try.ntmps75
  go_wp2
  go_loopg [5, 13] cs.length (fun gk v i wr => ∃ j : Nat, i = .int .i64 j ∧ j + gk = cs.length ∧ MvW wr w.heap.size v (j * 400) (mvTo cs n j) ∧ Below w.heap.size w wr)
  case atStart => exact ⟨0, rfl, by omega, MvW.new w _ (mvTo_zero cs n), bel1 w _⟩
  case round =>
    obtain ⟨j, rfl, hj, hm, hb⟩ := hrel
    obtain ⟨gj, rfl⟩ : ∃ gj : Nat, gj = gk := ⟨_, rfl⟩
    have HJ := Lib.hid hj
    have hj : j ≤ cs.length := by omega
    have HM := Lib.hid hm; clear hm
    by_cases hcont : j < cs.length ∧ j + 1 ≤ n
    · obtain ⟨hjl, hjn⟩ := hcont
      obtain ⟨b, o, rfl, hbB, hc⟩ := (h.below hb hB).at (j := j) hjl
      have hd := hc j hjl
      clear hc
      have hdr := HD.out j hjl
      have e1 := band1 _ hdr
      have e2 := band2 _ hdr
      have e4 := band4 _ hdr
      have HNext : Hid (∀ xs, mvTo cs n (j + 1) xs ↔ mvTo cs n j xs ∨ mvD (gi cs j) (n - (j + 1)) (n + 1) xs) := fun xs => mvTo_succ cs n j xs hjl hjn
      generalize gi cs j = d at *
      have HDR := Lib.hid hdr; clear hdr
      go_upto_region 7 with (fail)
      go_cut [30] (fun s30 wc => s30 = .bool (decide (d % 2 = 1 ∧ n - (j + 1) = 0)) ∧ wr = wc)
      case first =>
        clear e2 e4
        by_cases hb1 : d % 2 = 1
        · rw [hb1] at e1
          by_cases hr : n - (j + 1) = 0
          · have hr1 : ((n : Int) - j - 1 == 0) = true := by simp; omega
            have HR : Hid (d % 2 = 1 ∧ n - (j + 1) = 0) := ⟨hb1, hr⟩
            clear hr hb1
            go_wp2
            go_meet
            exact ⟨by rw [decide_eq_true HR.out], rfl⟩
          · have hr1 : ((n : Int) - j - 1 == 0) = false := by simp; omega
            have HR : Hid (¬ (d % 2 = 1 ∧ n - (j + 1) = 0)) := fun h => hr h.2
            clear hr hb1
            go_wp2
            go_meet
            exact ⟨by rw [decide_eq_false HR.out], rfl⟩
        · have e1' : bits .and .i64 d 1 = 0 := by rw [e1]; omega
          have HR : Hid (¬ (d % 2 = 1 ∧ n - (j + 1) = 0)) := fun h => hb1 h.1
          clear hb1 e1
          go_wp2
          go_meet
          exact ⟨by rw [decide_eq_false HR.out], rfl⟩
      case rest =>
        obtain ⟨rfl, rfl⟩ := hcut
        clear e1
        go_upto_if 30 with (fail)
        go_cut [5] (fun v wc => MvW wc w.heap.size v (j * 400 + 1) (fun xs => mvTo cs n j xs ∨ (d % 2 = 1 ∧ n - (j + 1) = 0 ∧ xs = [])) ∧ Below w.heap.size w wc)
        case first =>
          clear e2 e4
          by_cases hR : d % 2 = 1 ∧ n - (j + 1) = 0
          · have hR' : decide (d % 2 = 1 ∧ n - (j + 1) = 0) = true := decide_eq_true hR
            have HR := Lib.hid hR; clear hR
            have hzw := hb.size
            have hjb : j * 400 ≤ 100000000 := by omega
            go_wp2_with (at_builtin; refine app_row rfl _ _ rfl w.heap.size _ (j * 400) (mvTo cs n j) [] HM.out hzw _ rfl rfl rfl (by simp) hjb ?_; intro v2 w2 hm2 hb2 hz2)
            go_meet
            refine ⟨hm2.congr (by omega) fun xs => ?_, hb.trans hb2⟩
            have := HR.out
            simp [this]
          · have hR' : decide (d % 2 = 1 ∧ n - (j + 1) = 0) = false := decide_eq_false hR
            have HR := Lib.hid hR; clear hR
            go_wp2
            go_meet
            exact ⟨HM.out.congr (by omega) fun xs => ⟨fun h => .inl h, fun h => h.resolve_right fun h => HR.out ⟨h.1, h.2.1⟩⟩, hb⟩
        case rest =>
          clear HM hb hd
          obtain ⟨hm, hb⟩ := hcut
          have HM := Lib.hid hm; clear hm
          go_upto_region 9 with (fail)
          go_cut [41] (fun s41 wd => s41 = .bool (decide (d / 2 % 2 = 1 ∧ 0 < n - (j + 1))) ∧ wc = wd)
          case first =>
            clear e4
            by_cases hb1 : d / 2 % 2 = 1
            · rw [hb1] at e2
              by_cases hr : 0 < n - (j + 1)
              · have hr1 : (1 : Int) < (n : Int) - j := by omega
                have HR : Hid (d / 2 % 2 = 1 ∧ 0 < n - (j + 1)) := ⟨hb1, hr⟩
                clear hr hb1
                go_wp2
                go_meet
                exact ⟨by rw [decide_eq_true HR.out], rfl⟩
              · have hr1 : ¬ (1 : Int) < (n : Int) - j := by omega
                have HR : Hid (¬ (d / 2 % 2 = 1 ∧ 0 < n - (j + 1))) := fun h => hr h.2
                clear hr hb1
                go_wp2
                go_meet
                exact ⟨by rw [decide_eq_false HR.out], rfl⟩
            · have e2' : bits .and .i64 d 2 = 0 := by rw [e2]; omega
              have HR : Hid (¬ (d / 2 % 2 = 1 ∧ 0 < n - (j + 1))) := fun h => hb1 h.1
              clear hb1 e2
              go_wp2
              go_meet
              exact ⟨by rw [decide_eq_false HR.out], rfl⟩
          case rest =>
            obtain ⟨rfl, rfl⟩ := hcut
            clear e2
            go_upto_if 41 with (fail)
            go_cut [5] (fun v wd => MvW wd w.heap.size v (j * 400 + 2) (fun xs => mvTo cs n j xs ∨ mvD d (n - (j + 1)) 1 xs) ∧ Below w.heap.size w wd)
            case first =>
              clear e4
              by_cases hR : d / 2 % 2 = 1 ∧ 0 < n - (j + 1)
              · have hR' : decide (d / 2 % 2 = 1 ∧ 0 < n - (j + 1)) = true := decide_eq_true hR
                have HR := Lib.hid hR; clear hR
                have hzw := hb.size
                have hjb : j * 400 + 1 ≤ 100000000 := by omega
                go_wp2_with (at_builtin; refine app_row rfl _ _ rfl w.heap.size _ (j * 400 + 1) _ [(n : Int) - j - 1] HM.out hzw _ rfl rfl rfl (by simp) hjb ?_; intro v2 w2 hm2 hb2 hz2)
                go_meet
                refine ⟨hm2.congr (by omega) fun xs => ?_, hb.trans hb2⟩
                obtain ⟨k1, k2⟩ := HR.out
                rw [mvD_one, show ((n : Int) - j - 1) = ((n - (j + 1) : Nat) : Int) by omega]
                constructor
                · rintro ((hh | hh) | hh)
                  · exact .inl hh
                  · exact .inr (.inl hh)
                  · exact .inr (.inr ⟨k1, k2, hh⟩)
                · rintro (hh | hh | hh)
                  · exact .inl (.inl hh)
                  · exact .inl (.inr hh)
                  · exact .inr hh.2.2
              · have hR' : decide (d / 2 % 2 = 1 ∧ 0 < n - (j + 1)) = false := decide_eq_false hR
                have HR := Lib.hid hR; clear hR
                go_wp2
                go_meet
                refine ⟨HM.out.congr (by omega) fun xs => ?_, hb⟩
                rw [mvD_one]
                constructor
                · rintro (hh | hh)
                  · exact .inl hh
                  · exact .inr (.inl hh)
                · rintro (hh | hh | hh)
                  · exact .inl hh
                  · exact .inr hh
                  · exact absurd ⟨hh.1, hh.2.1⟩ HR.out
            case rest =>
              clear HM hb
              obtain ⟨hm, hb⟩ := hcut
              go_wp2
              go_loopg [5, 9] (n + 1) (fun gk v t wr => ∃ t' : Nat, t = .int .i64 t' ∧ (t' + gk = n + 2 ∧ t' ≤ n + 1) ∧ 1 ≤ t' ∧ MvW wr w.heap.size v (j * 400 + 2 + t') (fun xs => mvTo cs n j xs ∨ mvD d (n - (j + 1)) t' xs) ∧ Below w.heap.size w wr)
              case atStart => exact ⟨1, rfl, ⟨by omega, by omega⟩, by omega, hm.congr (by omega) fun xs => Iff.rfl, hb⟩
              case round =>
                clear hm hb
                obtain ⟨t, rfl, ht2, ht1, hm, hb⟩ := hrel
                have HT := Lib.hid ht2
                have ht2 : t ≤ n + 1 := ht2.2
                have HM := Lib.hid hm; clear hm
                by_cases hcont : d / 4 % 2 = 1 ∧ 2 * t ≤ n - (j + 1)
                · obtain ⟨hd4, h2t⟩ := hcont
                  have h2t' : (2 : Int) * t ≤ (n : Int) - j - 1 := by omega
                  have hNx : Hid (∀ xs, mvD d (n - (j + 1)) (t + 1) xs ↔ mvD d (n - (j + 1)) t xs ∨ xs = [(t : Int), ((n - (j + 1) - t : Nat) : Int)]) := fun xs => mvD_succ d _ t xs hd4 ht1 h2t
                  have e4' : bits .and .i64 d 4 = 4 := by rw [e4]; omega
                  have hzw := hb.size
                  have hjb : j * 400 + 2 + t ≤ 100000000 := by omega
                  clear hd4 e4
                  go_wp2_with (at_builtin; refine app_row rfl _ _ rfl w.heap.size _ (j * 400 + 2 + t) _ [(t : Int), (n : Int) - j - 1 - t] HM.out hzw _ rfl rfl rfl (by simp) hjb ?_; intro v2 w2 hm2 hb2 hz2)
                  have HM2 := Lib.hid hm2; clear hm2
                  go_roundg (gk - 1)
                  case measure => have := HT.out; omega
                  case rel =>
                    have := HT.out
                    refine ⟨t + 1, by go_num, ⟨by omega, by omega⟩, by omega, HM2.out.congr (by omega) fun xs => ?_, hb.trans hb2⟩
                    rw [hNx.out, or_assoc, show ((n : Int) - j - 1 - t) = ((n - (j + 1) - t : Nat) : Int) by omega]
                · have HE : Hid (¬ d / 4 % 2 = 1 ∨ n - (j + 1) < 2 * t) := by
                    by_cases hd4 : d / 4 % 2 = 1
                    · right
                      exact Nat.lt_of_not_le fun h => hcont ⟨hd4, h⟩
                    · exact .inl hd4
                  have hNx : Hid (∀ xs, mvTo cs n (j + 1) xs ↔ mvTo cs n j xs ∨ mvD d (n - (j + 1)) t xs) := fun xs => by
                    rw [HNext.out, mvD_end d (n - (j + 1)) t (n + 1) xs HE.out ht2]
                  clear HE
                  by_cases hd4 : d / 4 % 2 = 1
                  all_goals
                    first
                      | (have e5 : bits .and .i64 d 4 = 4 := by rw [e4]; omega
                         have h3 : ((n : Int) - j - 1 < 2 * t) := by
                           have : ¬ 2 * t ≤ n - (j + 1) := fun h => hcont ⟨hd4, h⟩
                           omega
                         clear e4 hd4 hcont)
                      | (have e5 : bits .and .i64 d 4 = 0 := by rw [e4]; omega
                         clear e4 hd4 hcont)
                    go_wp2
                    go_roundg (gj - 1)
                    case measure => have := HJ.out; omega
                    case rel =>
                      have := HJ.out
                      exact ⟨j + 1, by go_num, by omega, HM.out.congr (by omega) fun xs => (hNx.out xs).symm, hb⟩
    · have HE : Hid (j = cs.length ∨ n ≤ j) := by
        by_cases hjl : j < cs.length
        · exact .inr (Nat.le_of_not_lt fun hk => hcont ⟨hjl, hk⟩)
        · exact .inl (by omega)
      clear hcont
      have hxl : j * 400 ≤ 10000 := by omega
      have hS := sortedHeaps_of w.heap.size _ 10000 (isMv cs n) wr (HM.out.congr hxl fun xs => mvTo_end cs n j xs HE.out) (by omega)
      have HS := Lib.hid hS
      clear HM hS
      by_cases hjl : j < cs.length
      · have hkj : n ≤ j := by have := HE.out; omega
        obtain ⟨b, o, rfl, hbB, hc⟩ := (h.below hb hB).at (j := j) hjl
        have hd := hc j hjl
        clear hc
        go_wp2_with (go_at_call 99; (with_reducible refine (HS.out).mono ?_); rintro e w1 ⟨v1, rfl, hv1, hb1, hz1⟩)
        go_ret
        exact ⟨⟨v1, rfl, hv1⟩, hb.trans hb1⟩
      · go_wp2_with (go_at_call 99; (with_reducible refine (HS.out).mono ?_); rintro e w1 ⟨v1, rfl, hv1, hb1, hz1⟩)
        go_ret
        exact ⟨⟨v1, rfl, hv1⟩, hb.trans hb1⟩
end Go.Proofs.Ytdckgplmkigjcaa
