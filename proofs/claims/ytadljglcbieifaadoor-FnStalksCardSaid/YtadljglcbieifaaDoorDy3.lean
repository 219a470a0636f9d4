/- StalkOf, by the reference and by the program: contracts. Conditions: none. -/
import Derived.Test.YtadljglcbieifaaDoorDy2
import Derived.Laws.Concat
import Derived.Test.YtadljglcbieifaaDoorExch
namespace Go.Proofs.YtadljglcbieifaaDoor
open Go.RowKit
set_option linter.unusedVariables false

/-- What StalkOf hands back for D over 2^24. -/
def stalkV (D : Int) : Value :=
  match (List.range 17).find? (fun n => decide (sW D n = D)) with
  | some n => .tuple #[.string (stB (stk D n)), .bool true]
  | none => .tuple #[.string ByteArray.empty, .bool false]
theorem stalkV_yes (D : Int) (n : Nat) (hn : n ≤ 16) (h : sW D n = D) (hm : ∀ m, m < n → sW D m ≠ D) : stalkV D = .tuple #[.string (stB (stk D n)), .bool true] := by
  have e : (List.range 17).find? (fun n => decide (sW D n = D)) = some n := by
    rw [List.find?_range_eq_some]
    exact ⟨by simpa using h, by simp; omega, fun j hj => by simpa using hm j hj⟩
  unfold stalkV; rw [e]
theorem stalkV_no (D : Int) (hm : ∀ m, m ≤ 16 → sW D m ≠ D) : stalkV D = .tuple #[.string ByteArray.empty, .bool false] := by
  have e : (List.range 17).find? (fun n => decide (sW D n = D)) = none := by
    rw [List.find?_range_eq_none]
    intro i hi
    simpa using hm i (by omega)
  unfold stalkV; rw [e]
theorem stB_snoc (l : List Bool) (b : Bool) : stB l ++ (⟨#[enc b]⟩ : ByteArray) = stB (l ++ [b]) := by
  refine str_of _ ?_
  rw [data_append, stB, str_data, List.map_append]
  rfl
theorem add_sign (w : World) (l : List Bool) (b : Bool) (u : UInt8) (hu : u = enc b) (hl : l.length ≤ 100) :
    (Op.stringOp .add (stB l) ⟨#[u]⟩).run Tryd.prog w = .ok (.string (stB (l ++ [b]))) w := by
  subst hu
  have h := run_string_add_sum (P := Tryd.prog) (w := w) (stB l) ⟨#[enc b]⟩ (by rw [stB_size]; simp [ByteArray.size]; omega)
  rw [h, stB_snoc]

set_option maxRecDepth 100000 in
set_option maxHeartbeats 800000 in
theorem stalkOfS_any (t : Int) (p : Nat) (w : World) (hg : goodDyB t p = true) :
    Calls Tryd.prog 33 #[.agg #[.int .i64 t, .int .i64 p]] w fun e w' => e = .returned (stalkV (sc t p)) ∧ Below w.heap.size w w' := by
  have hg' := hg
  simp only [goodDyB, decide_eq_true_eq] at hg'
  obtain ⟨g1, g2, g3, g4, g5⟩ := hg'
  have hfit := sc_fits t p g1 g2
  obtain ⟨D, hD⟩ : ∃ D, D = sc t p := ⟨_, rfl⟩
  have HIFF : Hid (∀ V : Int, nf V = (t, p) ↔ V = D) := fun V => by rw [hD]; exact nf_eq_iff V t p (by omega) (by omega)
  have HD := Lib.hid hD
  have hfit' := hfit
  rw [← hD]
  clear hD
  have HG5 := Lib.hid g5; clear g5
  go_enter Tryd.func33, Tryd.ntmps33
  go_wp2_with fail
  have hB := box1 w 44 #[.int .i64 t, .int .i64 p]
  generalize w.alloc (.cells #[.int .i64 t, .int .i64 p] 44) = W at *
  obtain ⟨b1, hbW, hzW⟩ := hB
  ((with_reducible refine (goodDyS_any _ _ _).mono ?_); rintro e w1 ⟨rfl, hb1⟩)
  have hz1 := hb1.size
  have b11 := b1.below hb1 (by omega)
  have hb11 := hbW.trans (hb1.mono (by omega))
  clear b1 hbW hzW hz1 hb1
  go_wp2_with fail
  go_loopw [4] (fun v wr => ∃ (n : Nat) (o : ByteArray), n ≤ 17 ∧ v = .string o ∧ o = stB (stk D n) ∧ (∀ m, m < n → sW D m ≠ D) ∧ Below w.heap.size w wr ∧ Blk wr w.heap.size 44 #[.int .i64 t, .int .i64 p]) (fun v _ => 17 - (match v with | .string s => s.size | _ => 0))
  case atStart => exact ⟨0, _, by omega, rfl, by rfl, fun m hm => absurd hm (by omega), hb11, b11⟩
  case round =>
    clear hb11 b11
    obtain ⟨n, v, hn, rfl, hv, hm, hb, b1⟩ := hrel
    have HM := Lib.hid hm; clear hm
    have hzl := b1.lt
    obtain ⟨x1, x2, hx⟩ : ∃ (x1 : Int) (x2 : Nat), nf (sW D n) = (x1, x2) := ⟨_, _, rfl⟩
    have hC : ∀ W, Calls Tryd.prog 83 #[.string (stB (stk D n))] W fun e w' => e = .returned (.agg #[.int .i64 x1, .int .i64 x2]) ∧ Below W.heap.size W w' := by
      intro W
      have h := stalkS_any (stk D n) W (by rw [stk_len]; exact hn)
      rw [stk_len] at h
      have e : nf (vl (stk D n) n) = (x1, x2) := hx
      rw [e] at h
      exact h
    have HC := Lib.hid hC; clear hC
    have hsz : Hid ((stB (stk D n)).size = n) := by show _ = _; rw [stB_size, stk_len]
    have HAT := fun W => add_sign W (stk D n) true 76 rfl (by rw [stk_len]; omega)
    have HAF := fun W => add_sign W (stk D n) false 82 rfl (by rw [stk_len]; omega)
    rw [← hv] at HC hsz HAT HAF
    have HV := Lib.hid hv; clear hv
    have HATH := Lib.hid HAT; have HAFH := Lib.hid HAF; clear HAT HAF
    have hx2 : x2 ≤ 24 := by have := nf_le (sW D n); rw [hx] at this; exact this
    have hxs : sc x1 x2 = sW D n := by have := sc_nf (sW D n); rw [hx] at this; exact this
    have hfx : Fits (sc x1 x2) := by rw [hxs]; exact vl_fits _ _ hn
    have HX := Lib.hid hx; have HXS := Lib.hid hxs; clear hx hxs
    by_cases hlt : n ≤ 16
    · have hv1 : v.size ≤ 16 := by have := hsz.out; omega
      have hv1I : (v.size : Int) ≤ 16 := by omega
      go_wp2_with fail
      ((with_reducible refine (HC.out _).mono ?_); rintro e w1 ⟨rfl, hb1⟩)
      have hz1 := hb1.size
      have b11 := b1.below hb1 (by omega)
      have hb11 := hb.trans (hb1.mono (by omega))
      have hD2 := Blk.new w1 44 #[.int .i64 x1, .int .i64 x2]
      have b12 := b11.alloc (.cells #[.int .i64 x1, .int .i64 x2] 44)
      have hb12 : Below w.heap.size w (w1.alloc (.cells #[.int .i64 x1, .int .i64 x2] 44)) := hb11.alloc (by omega) _
      have hz2 : (w1.alloc (.cells #[.int .i64 x1, .int .i64 x2] 44)).heap.size = w1.heap.size + 1 := by simp
      have c0 : (w1.alloc (.cells #[.int .i64 x1, .int .i64 x2] 44)).cell? ⟨w.heap.size, 0, none⟩ = some (.int .i64 (t)) := Blk.cell b12 0
      have c1 : (w1.alloc (.cells #[.int .i64 x1, .int .i64 x2] 44)).cell? ⟨w.heap.size, 1, none⟩ = some (.int .i64 (p)) := Blk.cell b12 1
      have cf0 : (w1.alloc (.cells #[.int .i64 x1, .int .i64 x2] 44)).frozen? ⟨w.heap.size, 0, none⟩ = false := Blk.frozen b12 0
      have cf1 : (w1.alloc (.cells #[.int .i64 x1, .int .i64 x2] 44)).frozen? ⟨w.heap.size, 1, none⟩ = false := Blk.frozen b12 1
      by_cases heq : sW D n = D
      · have hxe := (HIFF.out (sW D n)).2 heq
        rw [HX.out] at hxe
        injection hxe with e1 e2
        subst e1 e2
        have HEQ := Lib.hid heq; clear heq
        go_wp2
        go_ret2
        exact ⟨by show Ending.returned (.tuple #[.string v, .bool true]) = _; rw [stalkV_yes D n hlt HEQ.out HM.out, HV.out], hb12⟩
      · have hne : ¬ (x1 = t ∧ (x2 : Int) = (p : Int)) := by
          rintro ⟨e1, e2⟩
          refine heq ((HIFF.out (sW D n)).1 ?_)
          rw [HX.out, e1]
          have : x2 = p := by omega
          rw [this]
        have HNE : Hid (¬ sW D n = D) := heq
        clear heq
        by_cases hx1 : t = x1
        · subst hx1
          have hne2 : ¬ (x2 : Int) = (p : Int) := fun e => hne ⟨rfl, e⟩
          clear hne
          have hL := fun W => l2Less_any t t x2 p W hx2 (by omega) hfx hfit'
          rw [HXS.out, ← HD.out] at hL
          have HL := Lib.hid hL; clear hL
          go_wp2_with fail
          generalize w1.alloc (.cells #[.int .i64 t, .int .i64 x2] 44) = V at *
          ((with_reducible refine (HL.out _).mono ?_); rintro e w2 ⟨rfl, hb2⟩)
          have b13 := b12.below hb2 (by omega)
          have hb13 := hb12.trans (hb2.mono (by omega))
          have HMM : Hid (∀ m, m < n + 1 → sW D m ≠ D) := fun m hm => if h : m = n then by rw [h]; exact HNE.out else HM.out m (by omega)
          clear c0 c1 cf0 cf1 b11 b12 hb11 hb12 hD2
          by_cases hless : sW D n < D
          · have hless' : decide (sW D n < D) = true := by simpa using hless
            have hadd := HATH.out w2
            have HE : Hid (stB (stk D n ++ [true]) = stB (stk D (n + 1))) := by show _ = _; rw [stk_succ, hless']
            rw [HE.out] at hadd
            have HSZ2 : Hid ((stB (stk D (n + 1))).size = n + 1) := by show _ = _; rw [stB_size, stk_len]
            obtain ⟨v2, hv2⟩ : ∃ v2, v2 = stB (stk D (n + 1)) := ⟨_, rfl⟩
            rw [← hv2] at hadd HSZ2
            have HV2 := Lib.hid hv2; clear hv2 hless
            go_wp2
            go_roundw
            case rel => exact ⟨n + 1, _, by omega, rfl, HV2.out, HMM.out, hb13, b13⟩
            case measure => simp [HSZ2.out, hsz.out]; omega
          · have hless' : decide (sW D n < D) = false := by simpa using hless
            have hadd := HAFH.out w2
            have HE : Hid (stB (stk D n ++ [false]) = stB (stk D (n + 1))) := by show _ = _; rw [stk_succ, hless']
            rw [HE.out] at hadd
            have HSZ2 : Hid ((stB (stk D (n + 1))).size = n + 1) := by show _ = _; rw [stB_size, stk_len]
            obtain ⟨v2, hv2⟩ : ∃ v2, v2 = stB (stk D (n + 1)) := ⟨_, rfl⟩
            rw [← hv2] at hadd HSZ2
            have HV2 := Lib.hid hv2; clear hv2 hless
            go_wp2
            go_roundw
            case rel => exact ⟨n + 1, _, by omega, rfl, HV2.out, HMM.out, hb13, b13⟩
            case measure => simp [HSZ2.out, hsz.out]; omega
        · have hx1' : ¬ x1 = t := fun e => hx1 e.symm
          clear hne
          have hL := fun W => l2Less_any x1 t x2 p W hx2 (by omega) hfx hfit'
          rw [HXS.out, ← HD.out] at hL
          have HL := Lib.hid hL; clear hL
          go_wp2_with fail
          generalize w1.alloc (.cells #[.int .i64 x1, .int .i64 x2] 44) = V at *
          ((with_reducible refine (HL.out _).mono ?_); rintro e w2 ⟨rfl, hb2⟩)
          have b13 := b12.below hb2 (by omega)
          have hb13 := hb12.trans (hb2.mono (by omega))
          have HMM : Hid (∀ m, m < n + 1 → sW D m ≠ D) := fun m hm => if h : m = n then by rw [h]; exact HNE.out else HM.out m (by omega)
          clear c0 c1 cf0 cf1 b11 b12 hb11 hb12 hD2
          by_cases hless : sW D n < D
          · have hless' : decide (sW D n < D) = true := by simpa using hless
            have hadd := HATH.out w2
            have HE : Hid (stB (stk D n ++ [true]) = stB (stk D (n + 1))) := by show _ = _; rw [stk_succ, hless']
            rw [HE.out] at hadd
            have HSZ2 : Hid ((stB (stk D (n + 1))).size = n + 1) := by show _ = _; rw [stB_size, stk_len]
            obtain ⟨v2, hv2⟩ : ∃ v2, v2 = stB (stk D (n + 1)) := ⟨_, rfl⟩
            rw [← hv2] at hadd HSZ2
            have HV2 := Lib.hid hv2; clear hv2 hless
            go_wp2
            go_roundw
            case rel => exact ⟨n + 1, _, by omega, rfl, HV2.out, HMM.out, hb13, b13⟩
            case measure => simp [HSZ2.out, hsz.out]; omega
          · have hless' : decide (sW D n < D) = false := by simpa using hless
            have hadd := HAFH.out w2
            have HE : Hid (stB (stk D n ++ [false]) = stB (stk D (n + 1))) := by show _ = _; rw [stk_succ, hless']
            rw [HE.out] at hadd
            have HSZ2 : Hid ((stB (stk D (n + 1))).size = n + 1) := by show _ = _; rw [stB_size, stk_len]
            obtain ⟨v2, hv2⟩ : ∃ v2, v2 = stB (stk D (n + 1)) := ⟨_, rfl⟩
            rw [← hv2] at hadd HSZ2
            have HV2 := Lib.hid hv2; clear hv2 hless
            go_wp2
            go_roundw
            case rel => exact ⟨n + 1, _, by omega, rfl, HV2.out, HMM.out, hb13, b13⟩
            case measure => simp [HSZ2.out, hsz.out]; omega
    · have hv1 : ¬ v.size ≤ 16 := by have := hsz.out; omega
      have hv1I : ¬ (v.size : Int) ≤ 16 := by omega
      go_wp2
      go_ret2
      exact ⟨by show Ending.returned (.tuple #[.string ByteArray.empty, .bool false]) = _; rw [stalkV_no D fun m hm => HM.out m (by omega)], hb⟩

set_option maxRecDepth 100000 in
set_option maxHeartbeats 1600000 in
theorem stalkOfI_pos (t : Int) (p : Nat) (w : World) (hg : goodDyB t p = true) (h0 : 0 ≤ t) :
    Calls Tryd.prog 32 #[.agg #[.int .i64 t, .int .i64 p]] w fun e w' => e = .returned (stalkV (sc t p)) ∧ Below w.heap.size w w' := by
  have hg' := hg
  simp only [goodDyB, decide_eq_true_eq] at hg'
  obtain ⟨g1, g2, g3, g4, g5⟩ := hg'
  clear g5
  have h16 := sc16_fits t p g1 g2
  have h16n : 0 ≤ sc16 t p := by unfold sc16; exact Int.mul_nonneg h0 (by have := pow_pos2 (16 - p); omega)
  have hsc := sc_sc16 t p (by omega)
  have hC := fun W => scaled_any t p W (by omega) g1 g2
  generalize sc t p = D at *
  generalize sc16 t p = E at *
  have HC := Lib.hid hC; have HD := Lib.hid hsc; clear hC hsc
  go_enter Tryd.func32, Tryd.ntmps32
  go_wp2_with fail
  have hB := box1 w 44 #[.int .i64 t, .int .i64 p]
  generalize w.alloc (.cells #[.int .i64 t, .int .i64 p] 44) = W at *
  obtain ⟨b1, hbW, hzW⟩ := hB
  ((with_reducible refine (goodDyI_any _ _ _).mono ?_); rintro e w1 ⟨rfl, hb1⟩)
  have hz1 := hb1.size
  have b11 := b1.below hb1 (by omega)
  have hb11 := hbW.trans (hb1.mono (by omega))
  clear b1 hbW hzW hb1
  have c0 : w1.cell? ⟨w.heap.size, 0, none⟩ = some (.int .i64 (t)) := Blk.cell b11 0
  have c1 : w1.cell? ⟨w.heap.size, 1, none⟩ = some (.int .i64 (p)) := Blk.cell b11 1
  have cf0 : w1.frozen? ⟨w.heap.size, 0, none⟩ = false := Blk.frozen b11 0
  have cf1 : w1.frozen? ⟨w.heap.size, 1, none⟩ = false := Blk.frozen b11 1
  go_wp2_with fail
  ((with_reducible refine (HC.out _).mono ?_); rintro e w2 ⟨rfl, hb2⟩)
  have hb12 := hb11.trans (hb2.mono (by have := b11.lt; omega))
  clear c0 c1 cf0 cf1 b11 hb11 hb2
  have hh0 : ¬ t < 0 := by omega
  go_wp2
  go_loop [7, 9] (fun x y => ∃ (n : Nat) (o : ByteArray), n ≤ 16 ∧ x = .int .i64 ((n : Int) * 65536) ∧ y = .string o ∧ o = stB (stk D n) ∧ (∀ m, m < n → sW D m < D)) (fun _ y => 17 - (match y with | .string s => s.size | _ => 0))
  case atStart => exact ⟨0, _, by omega, rfl, rfl, by rfl, fun m hm => absurd hm (by omega)⟩
  case round =>
    obtain ⟨n, v, hn, rfl, rfl, hv, hm⟩ := hrel
    have hsz : Hid (v.size = n) := by show _ = _; rw [hv, stB_size, stk_len]
    obtain ⟨hw1, hw2⟩ := sW_left D n hm
    by_cases hlt : (n : Int) * 65536 < E
    · have hless : sW D n < D := by rw [hw1, HD.out]; omega
      have hless' : decide (sW D n < D) = true := by simpa using hless
      have hadd := add_sign w2 (stk D n) true 76 rfl (by rw [stk_len]; omega)
      rw [← hv] at hadd
      have HE : Hid (stB (stk D n ++ [true]) = stB (stk D (n + 1))) := by show _ = _; rw [stk_succ, hless']
      rw [HE.out] at hadd
      obtain ⟨v2, hv2⟩ : ∃ v2, v2 = stB (stk D (n + 1)) := ⟨_, rfl⟩
      have HSZ2 : Hid (v2.size = n + 1) := by show _ = _; rw [hv2, stB_size, stk_len]
      rw [← hv2] at hadd
      have HV2 := Lib.hid hv2; clear hv2
      have HV := Lib.hid hv; clear hv
      have HM : Hid (∀ m, m < n + 1 → sW D m < D) := fun m hmm => if h : m = n then by rw [h]; exact hless else hm m (by omega)
      clear hless' hless hm hw1 hw2
      by_cases h16' : n + 1 ≤ 16
      · have hq1 : ¬ 16 < v2.size := by have := HSZ2.out; omega
        have hq2 : ¬ (16 : Int) < (v2.size : Int) := by omega
        go_wp2
        go_round
        case rel => exact ⟨n + 1, _, h16', congrArg (Value.int .i64) (by omega), rfl, HV2.out, HM.out⟩
        case measure => simp [HSZ2.out, hsz.out]; omega
      · have hq1 : 16 < v2.size := by have := HSZ2.out; omega
        have hq2 : (16 : Int) < (v2.size : Int) := by omega
        go_wp2
        go_ret2
        exact ⟨by show Ending.returned (.tuple #[.string ByteArray.empty, .bool false]) = _; rw [stalkV_no D fun m hmm => by have := HM.out m (by omega); omega], hb12⟩
    · have hstart : Hid (sW D n ≠ D → sQ D n = 1 ∧ 1 ≤ n) := fun hne => by
        rw [hw1, HD.out] at hne
        have hn1 : 0 < n := by omega
        refine ⟨?_, hn1⟩
        have hq := hw2 hn1
        have hp := hm (n - 1) (by omega)
        have hnl : ¬ sW D n < D := by rw [hw1, HD.out]; omega
        obtain ⟨j, rfl⟩ : ∃ j, n = j + 1 := ⟨n - 1, by omega⟩
        have hq' : sQ D j = 0 := hq
        have hp' : sW D j < D := hp
        rw [sQ_succ, hq', if_pos (.inr (by rw [decide_eq_false hnl, decide_eq_true hp']; decide))]
      have HW1 := Lib.hid hw1; have HV := Lib.hid hv; have HM := Lib.hid hm; clear hw1 hw2 hv hm
      go_wp2
      go_loop [7, 8, 9] (fun x z y => ∃ (n q : Nat) (o : ByteArray) (V S : Int), n ≤ 16 ∧ x = .int .i64 V ∧ z = .int .i64 (2 * S) ∧ y = .string o ∧ o = stB (stk D n) ∧ (∀ m, m < n → sW D m ≠ D) ∧ V * 256 = sW D n ∧ S = 2 ^ (16 - q) ∧ 1 ≤ q ∧ (sW D n ≠ D → sQ D n = q ∧ q ≤ n))
        (fun _ _ y => 17 - (match y with | .string s => s.size | _ => 0))
      case atStart => exact ⟨n, 1, v, _, 32768, hn, rfl, rfl, rfl, HV.out, fun m hmm => by have := HM.out m hmm; omega, by rw [HW1.out]; omega, rfl, by omega, hstart.out⟩
      case round =>
        clear hstart HW1 HV HM hsz hlt
        clear hn
        rename_i n0 v0
        obtain ⟨n, q, v, V, S, hn, rfl, rfl, rfl, hv, hm, hV, hS, hq1, hq2⟩ := hrel
        have hsz : Hid (v.size = n) := by show _ = _; rw [hv, stB_size, stk_len]
        have hvb := vl_bound (stk D n) n
        have hvb' : -(n * 16777216 : Int) ≤ sW D n ∧ sW D n ≤ n * 16777216 := hvb
        clear hvb
        have hVb : -2000000 ≤ V ∧ V ≤ 2000000 := by omega
        have hSb : 1 ≤ S ∧ S ≤ 65536 := by rw [hS]; exact ⟨pow_pos2 _, by have := pow_le2 (16 - q) 16 (by omega); simpa using this⟩
        obtain ⟨hVb1, hVb2⟩ := hVb
        obtain ⟨hSb1, hSb2⟩ := hSb
        clear hvb'
        by_cases heq : V = E
        · subst heq
          have HEQ : Hid (sW D n = D) := by show _ = _; rw [← hV, HD.out]
          have HM := Lib.hid hm; have HV := Lib.hid hv
          clear hm hv hV hS hq1 hq2
          go_wp2
          go_ret2
          exact ⟨by show Ending.returned (.tuple #[.string v, .bool true]) = _; rw [stalkV_yes D n hn HEQ.out HM.out, HV.out], hb12⟩
        · have hne : sW D n ≠ D := by rw [← hV, HD.out]; omega
          obtain ⟨hq3, hq4⟩ := hq2 hne
          have hsw := sW_succ D n
          have hpw : (2 : Int) ^ (24 - q) = S * 256 := by
            have e : 24 - q = (16 - q) + 8 := by omega
            rw [e, Int.pow_add, hS]; rfl
          rw [hq3, hpw] at hsw
          have hsq : sQ D (n + 1) = q + 1 := by rw [sQ_succ, hq3, if_pos (.inl (by omega))]
          have HM : Hid (∀ m, m < n + 1 → sW D m ≠ D) := fun m hmm => if h : m = n then by rw [h]; exact hne else hm m (by omega)
          have hd : (2 * S).tdiv 2 = S := by rw [Int.mul_tdiv_cancel_left _ (by decide)]
          have HSS : Hid (n + 1 ≤ 16 → S = 2 * 2 ^ (16 - (q + 1))) := fun _ => by
            have e : 16 - q = (16 - (q + 1)) + 1 := by omega
            rw [hS, e, Int.pow_succ]; omega
          by_cases hgt : E < V
          · have hless' : decide (sW D n < D) = false := by rw [← hV, HD.out]; simp; omega
            have hadd := add_sign w2 (stk D n) false 82 rfl (by rw [stk_len]; omega)
            rw [← hv] at hadd
            have HE : Hid (stB (stk D n ++ [false]) = stB (stk D (n + 1))) := by show _ = _; rw [stk_succ, hless']
            rw [HE.out] at hadd
            obtain ⟨v2, hv2⟩ : ∃ v2, v2 = stB (stk D (n + 1)) := ⟨_, rfl⟩
            have HSZ2 : Hid (v2.size = n + 1) := by show _ = _; rw [hv2, stB_size, stk_len]
            rw [← hv2] at hadd
            have HV2 := Lib.hid hv2; clear hv2
            have HV := Lib.hid hv; clear hv
            rw [hless', pm_mul] at hsw
            have HSW : Hid ((V - S) * 256 = sW D (n + 1)) := by show _ = _; rw [hsw, ← hV]; simp; omega
            have HSQ := Lib.hid hsq
            clear hless' hsw hsq hpw hne hm hV hS hq2
            by_cases h16' : n + 1 ≤ 16
            · have hx1 : ¬ 16 < v2.size := by have := HSZ2.out; omega
              have hx2 : ¬ (16 : Int) < (v2.size : Int) := by omega
              go_wp2
              go_round
              case rel => exact ⟨n + 1, q + 1, _, V - S, _, h16', rfl, by rw [HSS.out h16'], rfl, HV2.out, HM.out, HSW.out, rfl, by omega, fun _ => ⟨HSQ.out, by omega⟩⟩
              case measure => simp [HSZ2.out, hsz.out]; omega
            · have hx1 : 16 < v2.size := by have := HSZ2.out; omega
              have hx2 : (16 : Int) < (v2.size : Int) := by omega
              go_wp2
              go_ret2
              exact ⟨by show Ending.returned (.tuple #[.string ByteArray.empty, .bool false]) = _; rw [stalkV_no D fun m hmm => HM.out m (by omega)], hb12⟩
          · have hless' : decide (sW D n < D) = true := by rw [← hV, HD.out]; simp; omega
            have hadd := add_sign w2 (stk D n) true 76 rfl (by rw [stk_len]; omega)
            rw [← hv] at hadd
            have HE : Hid (stB (stk D n ++ [true]) = stB (stk D (n + 1))) := by show _ = _; rw [stk_succ, hless']
            rw [HE.out] at hadd
            obtain ⟨v2, hv2⟩ : ∃ v2, v2 = stB (stk D (n + 1)) := ⟨_, rfl⟩
            have HSZ2 : Hid (v2.size = n + 1) := by show _ = _; rw [hv2, stB_size, stk_len]
            rw [← hv2] at hadd
            have HV2 := Lib.hid hv2; clear hv2
            have HV := Lib.hid hv; clear hv
            rw [hless', pm_mul] at hsw
            have HSW : Hid ((V + S) * 256 = sW D (n + 1)) := by show _ = _; rw [hsw, ← hV]; simp; omega
            have HSQ := Lib.hid hsq
            clear hless' hsw hsq hpw hne hm hV hS hq2
            by_cases h16' : n + 1 ≤ 16
            · have hx1 : ¬ 16 < v2.size := by have := HSZ2.out; omega
              have hx2 : ¬ (16 : Int) < (v2.size : Int) := by omega
              go_wp2
              go_round
              case rel => exact ⟨n + 1, q + 1, _, V + S, _, h16', rfl, by rw [HSS.out h16'], rfl, HV2.out, HM.out, HSW.out, rfl, by omega, fun _ => ⟨HSQ.out, by omega⟩⟩
              case measure => simp [HSZ2.out, hsz.out]; omega
            · have hx1 : 16 < v2.size := by have := HSZ2.out; omega
              have hx2 : (16 : Int) < (v2.size : Int) := by omega
              go_wp2
              go_ret2
              exact ⟨by show Ending.returned (.tuple #[.string ByteArray.empty, .bool false]) = _; rw [stalkV_no D fun m hmm => HM.out m (by omega)], hb12⟩

/-- Signs exchanged, as the program exchanges them. -/
theorem stB_swap (l : List Bool) : str ((stB l).data.toList.map (swp 76 82)) = stB (l.map (!·)) := by
  have h0 : (stB l).data.toList = l.map enc := str_data _
  rw [h0, stB, List.map_map, List.map_map]
  congr 1
  refine List.map_congr_left fun b _ => ?_
  cases b <;> rfl
theorem stalkV_neg (D : Int) : (∃ n, n ≤ 16 ∧ sW D n = D ∧ (∀ m, m < n → sW D m ≠ D) ∧ stalkV D = .tuple #[.string (stB (stk D n)), .bool true] ∧ stalkV (-D) = .tuple #[.string (stB ((stk D n).map (!·))), .bool true]) ∨
    (stalkV D = .tuple #[.string ByteArray.empty, .bool false] ∧ stalkV (-D) = .tuple #[.string ByteArray.empty, .bool false]) := by
  by_cases h : ∃ n, n ≤ 16 ∧ sW D n = D
  · obtain ⟨n, hn, he, hm⟩ : ∃ n, n ≤ 16 ∧ sW D n = D ∧ ∀ m, m < n → sW D m ≠ D := by
      obtain ⟨n0, hn0, he0⟩ := h
      cases hf : (List.range 17).find? (fun n => decide (sW D n = D)) with
      | none =>
        rw [List.find?_range_eq_none] at hf
        have := hf n0 (by omega)
        simp at this
        exact absurd he0 this
      | some n =>
        rw [List.find?_range_eq_some] at hf
        obtain ⟨f1, f2, f3⟩ := hf
        exact ⟨n, by simp at f2; omega, by simpa using f1, fun m hmn => by simpa using f3 m hmn⟩
    obtain ⟨n1, n2, _⟩ := stk_neg D n hm
    refine .inl ⟨n, hn, he, hm, stalkV_yes D n hn he hm, ?_⟩
    rw [← n2]
    refine stalkV_yes (-D) n hn (by rw [n1, he]) fun m hmn e => ?_
    obtain ⟨m1, _, _⟩ := stk_neg D m fun j hj => hm j (by omega)
    rw [m1] at e
    exact hm m hmn (by omega)
  · have hm : ∀ m, m ≤ 16 → sW D m ≠ D := fun m hmn e => h ⟨m, hmn, e⟩
    refine .inr ⟨stalkV_no D hm, stalkV_no (-D) fun m hmn e => ?_⟩
    obtain ⟨m1, _, _⟩ := stk_neg D m fun j hj => hm j (by omega)
    rw [m1] at e
    exact hm m hmn (by omega)

set_option maxRecDepth 100000 in
set_option maxHeartbeats 1600000 in
theorem stalkOfI_any (t : Int) (p : Nat) (w : World) (hg : goodDyB t p = true) :
    Calls Tryd.prog 32 #[.agg #[.int .i64 t, .int .i64 p]] w fun e w' => e = .returned (stalkV (sc t p)) ∧ Below w.heap.size w w' := by
  by_cases h0 : 0 ≤ t
  · exact stalkOfI_pos t p w hg h0
  · have hg2 : goodDyB (-t) p = true := by
      simp only [goodDyB, decide_eq_true_eq] at hg ⊢
      omega
    have hCR := fun W => stalkOfI_pos (-t) p W hg2 (by omega)
    have hsn : sc t p = -sc (-t) p := by unfold sc; rw [Int.neg_mul, Int.neg_neg]
    have hg' := hg
    simp only [goodDyB, decide_eq_true_eq] at hg'
    obtain ⟨g1, g2, g3, g4, g5⟩ := hg'
    clear g5
    rw [hsn]
    generalize sc (-t) p = D at *
    clear hsn
    have hneg : t < 0 := by omega
    rcases stalkV_neg D with ⟨n, hn, he, hm, e1, e2⟩ | ⟨e1, e2⟩
    · rw [e1] at hCR
      have hEX := fun W => exchanged_any (stB (stk D n)) W (by rw [stB_size, stk_len]; omega)
      rw [stB_swap] at hEX
      rw [e2]
      generalize stB (stk D n) = v1 at *
      generalize stB ((stk D n).map (!·)) = v2 at *
      have HCR := Lib.hid hCR; have HEX := Lib.hid hEX
      clear hCR hEX e1 e2 he hm
      go_enter Tryd.func32, Tryd.ntmps32
      go_wp2_with fail
      have hB := box1 w 44 #[.int .i64 t, .int .i64 p]
      generalize w.alloc (.cells #[.int .i64 t, .int .i64 p] 44) = W at *
      obtain ⟨b1, hbW, hzW⟩ := hB
      ((with_reducible refine (goodDyI_any _ _ _).mono ?_); rintro e w1 ⟨rfl, hb1⟩)
      have hz1 := hb1.size
      have b11 := b1.below hb1 (by omega)
      have hb11 := hbW.trans (hb1.mono (by omega))
      clear b1 hbW hzW hb1
      have c0 : w1.cell? ⟨w.heap.size, 0, none⟩ = some (.int .i64 (t)) := Blk.cell b11 0
      have c1 : w1.cell? ⟨w.heap.size, 1, none⟩ = some (.int .i64 (p)) := Blk.cell b11 1
      have cf0 : w1.frozen? ⟨w.heap.size, 0, none⟩ = false := Blk.frozen b11 0
      have cf1 : w1.frozen? ⟨w.heap.size, 1, none⟩ = false := Blk.frozen b11 1
      go_wp2_with fail
      ((with_reducible refine (negDy_any _ _ _ (by omega) (by omega)).mono ?_); rintro e w2 ⟨rfl, hb2⟩)
      have hb12 := hb11.trans (hb2.mono (by have := b11.lt; omega))
      have hz2 := hb2.size
      go_wp2_with fail
      ((with_reducible refine (HCR.out _).mono ?_); rintro e w3 ⟨rfl, hb3⟩)
      have hb13 := hb12.trans (hb3.mono (by have := b11.lt; omega))
      have hz3 := hb3.size
      go_wp2_with fail
      ((with_reducible refine (HEX.out _).mono ?_); rintro e w4 ⟨rfl, hb4⟩)
      have hb14 := hb13.trans (hb4.mono (by have := b11.lt; omega))
      go_wp2
      go_ret2
      exact ⟨rfl, hb14⟩
    · rw [e1] at hCR
      have hEX := fun W => exchanged_any ByteArray.empty W (by decide)
      have e0 : str ((ByteArray.empty).data.toList.map (swp 76 82)) = ByteArray.empty := rfl
      rw [e0] at hEX
      rw [e2]
      have HCR := Lib.hid hCR; have HEX := Lib.hid hEX
      clear hCR hEX e1 e2 e0
      go_enter Tryd.func32, Tryd.ntmps32
      go_wp2_with fail
      have hB := box1 w 44 #[.int .i64 t, .int .i64 p]
      generalize w.alloc (.cells #[.int .i64 t, .int .i64 p] 44) = W at *
      obtain ⟨b1, hbW, hzW⟩ := hB
      ((with_reducible refine (goodDyI_any _ _ _).mono ?_); rintro e w1 ⟨rfl, hb1⟩)
      have hz1 := hb1.size
      have b11 := b1.below hb1 (by omega)
      have hb11 := hbW.trans (hb1.mono (by omega))
      clear b1 hbW hzW hb1
      have c0 : w1.cell? ⟨w.heap.size, 0, none⟩ = some (.int .i64 (t)) := Blk.cell b11 0
      have c1 : w1.cell? ⟨w.heap.size, 1, none⟩ = some (.int .i64 (p)) := Blk.cell b11 1
      have cf0 : w1.frozen? ⟨w.heap.size, 0, none⟩ = false := Blk.frozen b11 0
      have cf1 : w1.frozen? ⟨w.heap.size, 1, none⟩ = false := Blk.frozen b11 1
      go_wp2_with fail
      ((with_reducible refine (negDy_any _ _ _ (by omega) (by omega)).mono ?_); rintro e w2 ⟨rfl, hb2⟩)
      have hb12 := hb11.trans (hb2.mono (by have := b11.lt; omega))
      have hz2 := hb2.size
      go_wp2_with fail
      ((with_reducible refine (HCR.out _).mono ?_); rintro e w3 ⟨rfl, hb3⟩)
      have hb13 := hb12.trans (hb3.mono (by have := b11.lt; omega))
      have hz3 := hb3.size
      go_wp2_with fail
      ((with_reducible refine (HEX.out _).mono ?_); rintro e w4 ⟨rfl, hb4⟩)
      have hb14 := hb13.trans (hb4.mono (by have := b11.lt; omega))
      go_wp2
      go_ret2
      exact ⟨rfl, hb14⟩
end Go.Proofs.YtadljglcbieifaaDoor
