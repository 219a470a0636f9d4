/- l17Values by its contract. Conditions: none. -/
import Derived.Test.YtdckgplmkigjcaaMex
import Derived.Test.YtdckgplmkigjcaaVals
namespace Go.Proofs.Ytdckgplmkigjcaa
open Go.RowKit
set_option linter.unusedVariables false

theorem infoBool : (Try.prog.info? 4).map (fun i => (i.zero, i.size, i.bytes)) = some (some (.bool false), 1, 1) := by kernel_rfl
theorem make_bools {w : World} {ops : Array Oper} {rest : List Oper} {o : Oper} {a : Act} {Q : Exit → Act → World → Prop} (hg : o.guard = none) (l c : Operand)
    (hop : o.op = Op.makeSlice 50 l c) (n : Nat) (L : Int) (hL : L = (n : Int)) (hl : a.eval l = .int .i64 L) (hc : a.eval c = .int .i64 L) (hb : n ≤ 1000000000000)
    (hK : ∀ w', SeenIs w' w.heap.size n 4 (fun _ => False) → Below w.heap.size w w' → w.heap.size < w'.heap.size →
      wpList Try.prog ops Q rest (a.put o.dst (.slice (some ⟨w.heap.size, 0, none⟩) n n)) w') :
    wpList Try.prog ops Q (o :: rest) a w := by
  obtain ⟨i0, hi, hz0, hz1, hz2⟩ := info_parts infoBool
  refine wpList_make_full w hg l c 50 hop w.heap.size 4 i0 (.bool false) 1 Try.underlying50 hi hz0 hz1 .i64 .i64 L L n hl hc hL hL (by rw [hz2]; omega) (by unfold maxLen; omega) (Nat.le_refl _) ?_
  intro w' ho hgr
  have e : (madeCells (Value.bool false).cells (n * 1)).toList = List.replicate n (.bool false) := by
    simp [madeCells, Value.cells, Nat.mod_one, List.map_const']
  rw [e] at ho
  refine hK w' ?_ (below_of_grown hgr) ((ho.lt _ rfl).2)
  rcases ho.2 with ⟨hv, h0⟩ | ⟨g, cap, cur, hv, hb', hh, hnc, hcm, hcs, ht⟩
  · cases hv
  · injection hv with hA hn hc'
    injection hA with hA
    injection hA with hA
    subst hA hc'
    refine ⟨List.replicate n false, by simp, ?_, fun x hx => by simp [List.getD, hx]⟩
    have : cur = (List.map Value.bool (List.replicate n false)).toArray := by
      rw [List.map_replicate]
      apply Array.ext'
      rw [← ht, Nat.mul_one, List.take_of_length_le (by simp; omega)]
    rw [← this]
    exact hh
theorem SeenIs.below {w w' : World} {g n B : Nat} {t : TypeId} {Q : Nat → Prop} (h : SeenIs w g n t Q) (hb : Below B w w') (hg : g < B) : SeenIs w' g n t Q := by
  obtain ⟨bs, h1, h2, h3⟩ := h
  exact ⟨bs, h1, h2.below hb hg, h3⟩

def small15 (v : List Nat) : Prop := ∀ i, gn v i < 32768
theorem small15_nil : small15 [] := fun i => by simp [gn]
theorem small15_snoc {v : List Nat} {m : Nat} (h : small15 v) (hm : m < 32768) : small15 (v ++ [m]) := by
  intro i
  rcases Nat.lt_trichotomy i v.length with hl | hl | hl
  · rw [gn_append_lt v _ hl]; exact h i
  · subst hl; rw [gn_append_len]; exact hm
  · rw [gn, List.getD_eq_getElem?_getD, List.getElem?_eq_none (by simp; omega)]; simp

set_option maxRecDepth 100000 in
set_option maxHeartbeats 1600000 in
theorem valuesS_any (A : Option Addr) (c : Nat) (cs : List Int) (n : Nat) (w : World) (B : Nat) (hB : B ≤ w.heap.size) (h : RdI w B A c cs) (hn : n ≤ 300) (hg : goodCode cs) :
    Calls Try.prog 73 #[.slice A cs.length c, .int .i64 n] w fun e w' => RetI w (nats (V cs (n + 1))) e w' ∧ small15 (V cs (n + 1)) := by
  have h1 := h.len
  have h2 := h.max
  have HG := Lib.hid hg
  obtain ⟨hg1, hg2, hg3, hg4⟩ := hg
  clear hg3
  have HD := Lib.hid hg4; clear hg4
  go_enter Try.func73, Try.ntmps73
  go_wp2
  go_loopg [5, 6] (n + 1) (fun gk v i wr => ∃ (k : Nat) (A' : Option Addr) (c' : Nat), i = .int .i64 k ∧ k + gk = n + 1 ∧ v = .slice A' k c' ∧ OwnI wr w.heap.size (.slice A' k c') (nats (V cs k)) ∧ small15 (V cs k) ∧ Below w.heap.size w wr)
  case atStart =>
    refine ⟨0, some ⟨w.heap.size, 0, none⟩, 0, rfl, by omega, rfl, ?_, by rw [V_zero]; exact small15_nil, (Below.refl _ _).alloc (Nat.le_refl _) _⟩
    rw [V_zero]
    exact own_ints.2 (Own.empty w 3 3 _ (Nat.le_refl _))
  case round =>
    obtain ⟨k, A', c', rfl, hk, rfl, ho, hs, hb⟩ := hrel
    obtain ⟨go, rfl⟩ : ∃ go : Nat, go = gk := ⟨_, rfl⟩
    have HS := Lib.hid hs; clear hs
    have HK := Lib.hid hk
    have hk' : k ≤ n + 1 := by omega
    clear hk
    have hk := hk'
    clear hk'
    by_cases hlt : k < n + 1
    · have hltI : (k : Int) ≤ (n : Int) := by omega
      have hog : Hid (∀ x, (Value.slice A' k c').ownBlock = some x → x < wr.heap.size) := fun x hx => (ho.lt x hx).2
      have hzw := hb.size
      have HO := Lib.hid ho; clear ho
      have HB0 := Lib.hid hb; clear hb
      go_upto_block 2 with (at_make; refine make_bools rfl _ _ rfl (2 * k + 3) _ (by omega) rfl rfl (by omega) ?_; intro W hSN hbN hzN)
      have hoN := HO.out.below hbN
      have hwN : Below w.heap.size w W := HB0.out.trans (hbN.mono hzw)
      have HO0 := HO; have HB00 := HB0
      clear hbN HO HB0
      generalize wr.heap.size = g at *
      have hL := V_len cs k
      generalize hV : V cs k = v at *
      have HV := Lib.hid hV; clear hV
      have HL := Lib.hid hL; clear hL
      have HVB : Hid (∀ i, gn v i < 32768) := HS.out
      go_cut [] (fun wc => OwnI wc w.heap.size (.slice A' k c') (nats v) ∧ SeenIs wc g (2 * k + 3) 4 (isOpt cs v k) ∧ Below w.heap.size w wc ∧ g < wc.heap.size)
      case first =>
        go_wp2
        go_loopg [8] cs.length (fun gk i wr => ∃ j : Nat, i = .int .i64 ((j : Int) + 1) ∧ j + gk = cs.length ∧ OwnI wr w.heap.size (.slice A' k c') (nats v) ∧ SeenIs wr g (2 * k + 3) 4 (optTo cs v k j) ∧ Below w.heap.size w wr ∧ g < wr.heap.size)
        case atStart => exact ⟨0, rfl, by omega, hoN, hSN.congr fun x _ => by simp [optTo_zero], hwN, hzN⟩
        case round =>
          clear hoN hSN hwN hzN
          obtain ⟨j, rfl, hj, ho, hSn, hb, hgz⟩ := hrel
          obtain ⟨gj, rfl⟩ : ∃ gj : Nat, gj = gk := ⟨_, rfl⟩
          have HJ := Lib.hid hj
          have hj' : j ≤ cs.length := by omega
          clear hj
          have hj := hj'
          clear hj'
          by_cases hcont : j < cs.length ∧ j + 1 ≤ k
          · obtain ⟨hjl, hjk⟩ := hcont
            obtain ⟨b, o, rfl, hbB, hc⟩ := (h.below hb hB).at (j := j) hjl
            have hd := hc j hjl
            clear hc
            have HDR : Hid (0 ≤ gi cs j ∧ gi cs j ≤ 7) := HD.out j hjl
            have HNext : Hid (∀ x, optTo cs v k (j + 1) x ↔ optTo cs v k j x ∨ optD (gi cs j) v (k - (j + 1)) (k + 1) x) := fun x => by
              rw [← Nat.sub_sub]; exact optTo_succ cs v k j x hjl hjk
            generalize gi cs j = d at *
            have hS1 : Hid (SeenIs wr g (2 * k + 3) 4 (optTo cs v k j)) := hSn
            clear hSn
            have HO := Lib.hid ho; clear ho
            have hjkI : (j : Int) + 1 ≤ (k : Int) := by omega
            go_upto_region 11 with (fail)
            go_cut [48] (fun s48 wc => s48 = .bool (decide (d % 2 = 1 ∧ k - (j + 1) = 0)) ∧ wr = wc)
            case first =>
              by_cases hb1 : d % 2 = 1
              · have hb1' : decide (d % 2 = 1) = true := decide_eq_true hb1
                by_cases hr : k - (j + 1) = 0
                · have hr1 : ((k : Int) - ((j : Int) + 1) == 0) = true := by simp; omega
                  have HR : Hid (d % 2 = 1 ∧ k - (j + 1) = 0) := ⟨hb1, hr⟩
                  clear hr hb1
                  go_wp2_with (go_at_call 86; refine (bit1_any _ _ HDR.out).mono ?_; rintro e w' ⟨rfl, rfl⟩)
                  go_meet
                  exact ⟨by first | (rw [decide_eq_true HR.out]; done) | (rw [decide_eq_true HR.out]; simp; omega), rfl⟩
                · have hr1 : ((k : Int) - ((j : Int) + 1) == 0) = false := by simp; omega
                  have HR : Hid (¬ (d % 2 = 1 ∧ k - (j + 1) = 0)) := fun h => hr h.2
                  clear hr hb1
                  go_wp2_with (go_at_call 86; refine (bit1_any _ _ HDR.out).mono ?_; rintro e w' ⟨rfl, rfl⟩)
                  go_meet
                  exact ⟨by first | (rw [decide_eq_false HR.out]; done) | (rw [decide_eq_false HR.out]; simp; omega), rfl⟩
              · have hb1' : decide (d % 2 = 1) = false := decide_eq_false hb1
                have HR : Hid (¬ (d % 2 = 1 ∧ k - (j + 1) = 0)) := fun h => hb1 h.1
                clear hb1
                go_wp2_with (go_at_call 86; refine (bit1_any _ _ HDR.out).mono ?_; rintro e w' ⟨rfl, rfl⟩)
                go_meet
                exact ⟨by first | (rw [decide_eq_false HR.out]; done) | (rw [decide_eq_false HR.out]; simp; omega), rfl⟩
            case rest =>
              obtain ⟨rfl, rfl⟩ := hcut
              go_upto_if 48 with (fail)
              go_cut [] (fun wc => OwnI wc w.heap.size (.slice A' k c') (nats v) ∧ SeenIs wc g (2 * k + 3) 4 (fun x => optTo cs v k j x ∨ (d % 2 = 1 ∧ k - (j + 1) = 0 ∧ x = 0)) ∧ Below w.heap.size w wc ∧ g < wc.heap.size)
              case first =>
                by_cases hR : d % 2 = 1 ∧ k - (j + 1) = 0
                · have hR' : decide (d % 2 = 1 ∧ k - (j + 1) = 0) = true := decide_eq_true hR
                  have HR := Lib.hid hR; clear hR
                  obtain ⟨b0, hc0⟩ := hS1.out.some_ 0 (by omega)
                  have hf0 := hS1.out.frozen 0
                  go_wp2
                  go_meet
                  refine ⟨own_ints.2 ((own_ints.1 HO.out).far _ _ ?_), (hS1.out.set 0).congr fun x _ => ?_, hb.setCell (show w.heap.size ≤ g by omega) _, by simpa using hgz⟩
                  · intro hh
                    exact absurd (hog.out g hh) (by omega)
                  · simp [HR.out]
                · have hR' : decide (d % 2 = 1 ∧ k - (j + 1) = 0) = false := decide_eq_false hR
                  have HR := Lib.hid hR; clear hR
                  go_wp2
                  go_meet
                  exact ⟨HO.out, hS1.out.congr fun x _ => ⟨fun h => .inl h, fun h => h.resolve_right fun h => HR.out ⟨h.1, h.2.1⟩⟩, hb, hgz⟩
              case rest =>
                clear hb hgz HO hS1 hd
                obtain ⟨ho, hSn, hb, hgz⟩ := hcut
                have HSn := Lib.hid hSn; clear hSn
                have ho' := own_ints.1 ho
                obtain ⟨gl, rfl, -, hgl, hgl2, hlc, -⟩ := ho'.at (by rw [ints_len, nats_len, HL.out]; omega)
                clear ho'
                have hlc' : Hid (∀ i, i < k → wc.cell? ⟨gl, i, none⟩ = some (.int .i64 (gn v i : Nat))) := fun i hi => by
                  rw [← gi_nats]; exact hlc i _ (ints_at _ _ (by rw [nats_len, HL.out]; exact hi))
                clear hlc
                have HO := Lib.hid ho; clear ho
                go_upto_region 13 with (fail)
                go_cut [65] (fun s65 wd => (∃ bb : Bool, s65 = .bool bb ∧ (bb = true ↔ (d / 2 % 2 = 1 ∧ 0 < k - (j + 1) ∧ gn v (k - (j + 1)) < 2 * k + 3))) ∧ wc = wd)
                case first =>
                  by_cases hb1 : d / 2 % 2 = 1
                  · have hb1' : decide (d / 2 % 2 = 1) = true := decide_eq_true hb1
                    by_cases hr : 0 < k - (j + 1)
                    · have hr1 : (0 : Int) < (k : Int) - ((j : Int) + 1) := by omega
                      have hr2 : (j : Int) + 1 < (k : Int) := by omega
                      have hlr := hlc'.out (k - (j + 1)) (by omega)
                      by_cases hq : gn v (k - (j + 1)) < 2 * k + 3
                      · have HR : Hid (d / 2 % 2 = 1 ∧ 0 < k - (j + 1) ∧ gn v (k - (j + 1)) < 2 * k + 3) := ⟨hb1, hr, hq⟩
                        clear hb1
                        generalize gn v (k - (j + 1)) = q at *
                        have hqI : (q : Int) < 2 * (k : Int) + 3 := by omega
                        go_wp2_with (go_at_call 86; refine (bit2_any _ _ HDR.out).mono ?_; rintro e w' ⟨rfl, rfl⟩)
                        go_meet
                        exact ⟨⟨_, rfl, fun _ => HR.out, fun _ => by first | rfl | (simp; done) | (simp; omega)⟩, rfl⟩
                      · have HR : Hid (¬ (d / 2 % 2 = 1 ∧ 0 < k - (j + 1) ∧ gn v (k - (j + 1)) < 2 * k + 3)) := fun h => hq h.2.2
                        clear hb1
                        generalize gn v (k - (j + 1)) = q at *
                        have hqI : ¬ (q : Int) < 2 * (k : Int) + 3 := by omega
                        go_wp2_with (go_at_call 86; refine (bit2_any _ _ HDR.out).mono ?_; rintro e w' ⟨rfl, rfl⟩)
                        go_meet
                        exact ⟨⟨_, rfl, fun hh => absurd hh (by first | (simp; done) | (simp; omega)), fun hh => absurd hh HR.out⟩, rfl⟩
                    · have hr1 : ¬ (0 : Int) < (k : Int) - ((j : Int) + 1) := by omega
                      have hr2 : ¬ (j : Int) + 1 < (k : Int) := by omega
                      have HR : Hid (¬ (d / 2 % 2 = 1 ∧ 0 < k - (j + 1) ∧ gn v (k - (j + 1)) < 2 * k + 3)) := fun h => hr h.2.1
                      clear hr hb1
                      go_wp2_with (go_at_call 86; refine (bit2_any _ _ HDR.out).mono ?_; rintro e w' ⟨rfl, rfl⟩)
                      go_meet
                      exact ⟨⟨_, rfl, fun hh => absurd hh (by first | (simp; done) | (simp; omega)), fun hh => absurd hh HR.out⟩, rfl⟩
                  · have hb1' : decide (d / 2 % 2 = 1) = false := decide_eq_false hb1
                    have HR : Hid (¬ (d / 2 % 2 = 1 ∧ 0 < k - (j + 1) ∧ gn v (k - (j + 1)) < 2 * k + 3)) := fun h => hb1 h.1
                    clear hb1
                    go_wp2_with (go_at_call 86; refine (bit2_any _ _ HDR.out).mono ?_; rintro e w' ⟨rfl, rfl⟩)
                    go_meet
                    exact ⟨⟨_, rfl, fun hh => absurd hh (by first | (simp; done) | (simp; omega)), fun hh => absurd hh HR.out⟩, rfl⟩
                case rest =>
                  obtain ⟨⟨bb, rfl, hbb⟩, rfl⟩ := hcut
                  have HBB := Lib.hid hbb; clear hbb
                  go_upto_if 65 with (fail)
                  go_cut [] (fun wd => OwnI wd w.heap.size (.slice (some ⟨gl, 0, none⟩) k c') (nats v) ∧ SeenIs wd g (2 * k + 3) 4 (fun x => optTo cs v k j x ∨ optD d v (k - (j + 1)) 1 x) ∧ Below w.heap.size w wd ∧ g < wd.heap.size)
                  case first =>
                    by_cases hR : d / 2 % 2 = 1 ∧ 0 < k - (j + 1) ∧ gn v (k - (j + 1)) < 2 * k + 3
                    · obtain rfl : bb = true := HBB.out.2 hR
                      clear HBB
                      have hrp := hR.2.1
                      have hqp := hR.2.2
                      have HR := Lib.hid hR; clear hR
                      have hlr := hlc'.out (k - (j + 1)) (by omega)
                      obtain ⟨b1, hc1⟩ := HSn.out.some_ (gn v (k - (j + 1))) hqp
                      have hf1 := HSn.out.frozen (gn v (k - (j + 1)))
                      have HSet : Hid (SeenIs (wc.setCell ⟨g, gn v (k - (j + 1)), none⟩ (.bool true)) g (2 * k + 3) 4 (fun x => optTo cs v k j x ∨ optD d v (k - (j + 1)) 1 x)) := (HSn.out.set _).congr fun x _ => by
                        rw [optD_one]
                        have := HR.out
                        constructor
                        · rintro ((hh | hh) | hh)
                          · exact .inl hh
                          · exact .inr (.inl hh)
                          · exact .inr (.inr ⟨this.1, this.2.1, hh⟩)
                        · rintro (hh | hh | hh)
                          · exact .inl (.inl hh)
                          · exact .inl (.inr hh)
                          · exact .inr hh.2.2
                      generalize gn v (k - (j + 1)) = q at hlr hc1 hf1 hqp HSet
                      have hqpI : (q : Int) < 2 * (k : Int) + 3 := by omega
                      have hrpI : (j : Int) + 1 < (k : Int) := by omega
                      clear hqp hrp
                      have hidx : (0 : Int) ≤ (k : Int) - ((j : Int) + 1) := by omega
                      go_wp2
                      go_meet
                      refine ⟨own_ints.2 ((own_ints.1 HO.out).far _ _ ?_), HSet.out, hb.setCell (show w.heap.size ≤ g by omega) _, by simpa using hgz⟩
                      intro hh
                      exact absurd (hog.out g hh) (by omega)
                    · obtain rfl : bb = false := by
                        cases bb
                        · rfl
                        · exact absurd (HBB.out.1 rfl) hR
                      clear HBB
                      have HR := Lib.hid hR; clear hR
                      go_wp2
                      go_meet
                      refine ⟨HO.out, HSn.out.congr fun x hxN => ?_, hb, hgz⟩
                      rw [optD_one]
                      constructor
                      · rintro (hh | hh)
                        · exact .inl hh
                        · exact .inr (.inl hh)
                      · rintro (hh | hh | hh)
                        · exact .inl hh
                        · exact .inr hh
                        · exact absurd ⟨hh.1, hh.2.1, by rw [← hh.2.2]; exact hxN⟩ HR.out
                  case rest =>
                    clear hb hgz HO HSn hlc' hgl2
                    obtain ⟨ho, hSn, hb, hgz⟩ := hcut
                    have hglg : gl < g := hog.out gl rfl
                    go_wp2
                    go_loopg [11] (k + 1) (fun gk t wr => ∃ t' : Nat, t = .int .i64 t' ∧ (t' + gk = k + 2 ∧ t' ≤ k + 1) ∧ 1 ≤ t' ∧ OwnI wr w.heap.size (.slice (some ⟨gl, 0, none⟩) k c') (nats v) ∧ SeenIs wr g (2 * k + 3) 4 (fun x => optTo cs v k j x ∨ optD d v (k - (j + 1)) t' x) ∧ Below w.heap.size w wr ∧ g < wr.heap.size)
                    case atStart => exact ⟨1, rfl, ⟨by omega, by omega⟩, by omega, ho, hSn, hb, hgz⟩
                    case round =>
                      clear hb hgz ho hSn
                      obtain ⟨t, rfl, ht2, ht1, ho, hSt, hb, hgz⟩ := hrel
                      have HT := Lib.hid ht2
                      have ht3 : t ≤ k + 1 := ht2.2
                      clear ht2
                      by_cases hcont : d / 4 % 2 = 1 ∧ 2 * t ≤ k - (j + 1)
                      · obtain ⟨hd4, h2t⟩ := hcont
                        have hb1' : decide (d / 4 % 2 = 1) = true := decide_eq_true hd4
                        have h2t' : (2 : Int) * t ≤ (k : Int) - ((j : Int) + 1) := by omega
                        have ho' := own_ints.1 ho
                        obtain ⟨gl', hgl', -, -, -, hlc, -⟩ := ho'.at (by rw [ints_len, nats_len, HL.out]; omega)
                        clear ho'
                        injection hgl' with hgl'
                        injection hgl' with hgl' _
                        subst hgl'
                        have hla : wr.cell? ⟨gl, t, none⟩ = some (.int .i64 (gn v t : Nat)) := by
                          rw [← gi_nats]; exact hlc t _ (ints_at _ _ (by rw [nats_len, HL.out]; omega))
                        have hlb : wr.cell? ⟨gl, k - (j + 1) - t, none⟩ = some (.int .i64 (gn v (k - (j + 1) - t) : Nat)) := by
                          rw [← gi_nats]; exact hlc _ _ (ints_at _ _ (by rw [nats_len, HL.out]; omega))
                        clear hlc
                        have hNx : Hid (∀ x, optD d v (k - (j + 1)) (t + 1) x ↔ optD d v (k - (j + 1)) t x ∨ x = gn v t ^^^ gn v (k - (j + 1) - t)) := fun x => optD_succ d v _ t x hd4 ht1 h2t
                        clear hd4
                        have hva := HVB.out t
                        have hvb := HVB.out (k - (j + 1) - t)
                        have hxe := bxor (gn v t) (gn v (k - (j + 1) - t)) (by omega) (by omega)
                        generalize gn v t ^^^ gn v (k - (j + 1) - t) = X at *
                        generalize gn v t = va at *
                        generalize gn v (k - (j + 1) - t) = vb at *
                        have HSt' : Hid (SeenIs wr g (2 * k + 3) 4 (fun x => optTo cs v k j x ∨ optD d v (k - (j + 1)) t x)) := hSt
                        clear hSt
                        have HO2 : Hid (OwnI wr w.heap.size (.slice (some ⟨gl, 0, none⟩) k c') (nats v)) := ho
                        clear ho
                        by_cases hxN : X < 2 * k + 3
                        · obtain ⟨bx, hcx⟩ := HSt'.out.some_ X hxN
                          have hfx := HSt'.out.frozen X
                          have hxI : (X : Int) < 2 * (k : Int) + 3 := by omega
                          go_wp2_with (go_at_call 86; refine (bit4_any _ _ HDR.out).mono ?_; rintro e w' ⟨rfl, rfl⟩)
                          go_quiet (fail)
                          go_wp2
                          go_roundg (gk - 1)
                          case measure => have := HT.out; omega
                          case rel =>
                            have := HT.out
                            refine ⟨t + 1, by go_num, ⟨by omega, by omega⟩, by omega, own_ints.2 ((own_ints.1 (show OwnI (wr.drewN nq) _ _ _ from HO2.out)).far _ _ ?_), ((HSt'.out.drew nq).set X).congr fun x _ => ?_, ?_, ?_⟩
                            · intro hh
                              exact absurd (hog.out g hh) (by omega)
                            · rw [hNx.out, or_assoc]
                            · exact (bdrew hb nq).setCell (show w.heap.size ≤ g by omega) _
                            · simpa using hgz
                        · have hxI : ¬ (X : Int) < 2 * (k : Int) + 3 := by omega
                          go_wp2_with (go_at_call 86; refine (bit4_any _ _ HDR.out).mono ?_; rintro e w' ⟨rfl, rfl⟩)
                          go_quiet (fail)
                          go_wp2
                          go_roundg (gk - 1)
                          case measure => have := HT.out; omega
                          case rel =>
                            have := HT.out
                            refine ⟨t + 1, by go_num, ⟨by omega, by omega⟩, by omega, HO2.out, (HSt'.out.drew nq).congr fun x hx => ?_, bdrew hb nq, hgz⟩
                            rw [hNx.out]
                            constructor
                            · rintro (hh | hh)
                              · exact .inl hh
                              · exact .inr (.inl hh)
                            · rintro (hh | hh | hh)
                              · exact .inl hh
                              · exact .inr hh
                              · exact absurd hx (by rw [hh]; exact hxN)
                      · have HE : Hid (¬ d / 4 % 2 = 1 ∨ k - (j + 1) < 2 * t) := by
                          by_cases hd4 : d / 4 % 2 = 1
                          · right
                            exact Nat.lt_of_not_le fun h => hcont ⟨hd4, h⟩
                          · exact .inl hd4
                        have HSt := Lib.hid hSt; clear hSt
                        have HO2 := Lib.hid ho; clear ho
                        have hNx : Hid (∀ x, optTo cs v k (j + 1) x ↔ optTo cs v k j x ∨ optD d v (k - (j + 1)) t x) := fun x => by
                          rw [HNext.out, optD_end d v (k - (j + 1)) t (k + 1) x HE.out ht3]
                        clear HE
                        by_cases hd4 : d / 4 % 2 = 1
                        all_goals
                          first
                            | (have e5 : decide (d / 4 % 2 = 1) = true := decide_eq_true hd4
                               have h3 : ((k : Int) - ((j : Int) + 1) < 2 * t) := by
                                 have : ¬ 2 * t ≤ k - (j + 1) := fun h => hcont ⟨hd4, h⟩
                                 omega
                               clear hd4 hcont)
                            | (have e5 : decide (d / 4 % 2 = 1) = false := decide_eq_false hd4
                               clear hd4 hcont)
                          go_wp2_with (go_at_call 86; refine (bit4_any _ _ HDR.out).mono ?_; rintro e w' ⟨rfl, rfl⟩)
                          go_roundg (gj - 1)
                          case measure => have := HJ.out; omega
                          case rel =>
                            have := HJ.out
                            exact ⟨j + 1, by go_num, by omega, HO2.out, HSt.out.congr fun x _ => (hNx.out x).symm, hb, hgz⟩
          · have HE : Hid (j = cs.length ∨ k ≤ j) := by
              by_cases hjl : j < cs.length
              · exact .inr (Nat.le_of_not_lt fun hk => hcont ⟨hjl, hk⟩)
              · exact .inl (by omega)
            clear hcont
            by_cases hjl : j < cs.length
            · have hkj : (k : Int) ≤ (j : Int) := by have := HE.out; omega
              go_wp2
              go_meet
              exact ⟨ho, hSn.congr fun x _ => optTo_end cs v k j x HE.out, hb, hgz⟩
            · go_wp2
              go_meet
              exact ⟨ho, hSn.congr fun x _ => optTo_end cs v k j x HE.out, hb, hgz⟩
      case rest =>
        clear hoN hSN hwN hzN
        obtain ⟨ho, hSn, hb, hgz⟩ := hcut
        have hcy := fun x (hx : x < 2 * k + 3) (hq : isOpt cs v k x) => hSn.yes x hx hq
        have hcn := fun x (hx : x < 2 * k + 3) (hq : ¬ isOpt cs v k x) => hSn.no x hx hq
        have HCY := Lib.hid hcy; have HCN := Lib.hid hcn; clear hcy hcn hSn
        have hsm : Hid (∀ m, isMex (isOpt cs v k) m → m ≤ 10000 → small15 (v ++ [m]) ∧ V cs (k + 1) = v ++ [m]) := fun m hm hm2 => by
          refine ⟨small15_snoc HS.out (by omega), ?_⟩
          have := V_snoc cs k (m := m) (by rw [HV.out]; exact hm)
          rw [HV.out] at this
          exact this
        have hrl : RdI wc wc.heap.size A' c' (nats v) := ho.rd (by rw [nats_len, HL.out])
        have hcz := hb.size
        go_upto_block 6 with (fail)
        go_cut [13] (fun a wd => ∃ m : Nat, a = .int .i64 m ∧ m ≤ 2 * k + 3 ∧ (∀ y, y < m → isOpt cs v k y) ∧ (m < 2 * k + 3 → ¬ isOpt cs v k m) ∧ wc = wd)
        case first =>
          go_wp2
          go_loop [13] (fun a => ∃ m : Nat, a = .int .i64 m ∧ m ≤ 2 * k + 3 ∧ ∀ y, y < m → isOpt cs v k y) (fun a => 2 * k + 4 - (intOf a).toNat)
          case atStart => exact ⟨0, rfl, by omega, fun y hy => absurd hy (by omega)⟩
          case round =>
            obtain ⟨m, rfl, hm, hall⟩ := hrel
            have HA := Lib.hid hall; clear hall
            by_cases hmN : m < 2 * k + 3
            · have hmI : (m : Int) < 2 * (k : Int) + 3 := by omega
              by_cases hop : isOpt cs v k m
              · have hcm := HCY.out m hmN hop
                have HOP := Lib.hid hop; clear hop
                go_wp2
                go_round
                case rel => exact ⟨m + 1, by go_num, by omega, fun y hy => if hym : y = m then by rw [hym]; exact HOP.out else HA.out y (by omega)⟩
                case measure => simp [intOf]; omega
              · have hcm := HCN.out m hmN hop
                have HOP := Lib.hid hop; clear hop
                go_wp2
                go_meet
                exact ⟨m, rfl, hm, HA.out, fun _ => HOP.out, rfl⟩
            · have hmI : ¬ (m : Int) < 2 * (k : Int) + 3 := by omega
              go_wp2
              go_meet
              exact ⟨m, rfl, hm, HA.out, fun h => absurd h hmN, rfl⟩
        case rest =>
          obtain ⟨m, rfl, hm, hall, hnot, rfl⟩ := hcut
          have HA := Lib.hid hall; have HN := Lib.hid hnot; clear hall hnot
          by_cases hmN : m = 2 * k + 3
          · have hmt : ((m : Int) == 2 * (k : Int) + 3) = true := by simp; omega
            clear hmN
            go_wp2_with fail
            have hcall := mex_any A A' c c' cs v k wc wc.heap.size (Nat.le_refl _) ((h.below hb hB).more (by omega)) hrl (by omega) HG.out (by rw [HL.out]; exact Nat.le_refl _) HVB.out
            rw [HL.out] at hcall
            refine hcall.mono ?_
            rintro e w2 ⟨⟨m2, rfl, hmex, hm2⟩, hb2⟩
            clear hcall
            have HMex := Lib.hid hmex; clear hmex
            have ho2 := ho.below hb2
            have hb3 := hb.trans (hb2.mono hcz)
            have hcz2 := hb3.size
            have hkl : Hid ((nats v).length = k) := by show _ = _; rw [nats_len, HL.out]
            go_wp2_with (at_builtin; refine append_int rfl _ _ rfl w.heap.size _ (nats v) rfl (ho2.below ((Below.refl _ _).alloc (Nat.le_refl _) _)) _ m2 rfl ((Blk.new _ _ _).cell 0) (by rw [hkl.out]; omega) (by simp; omega) ?_; intro A5 c5 w5 ho5 hb5 hg5; rw [hkl.out] at ho5 ⊢)
            go_roundg (go - 1)
            case measure => have := HK.out; omega
            case rel =>
              have := HK.out
              obtain ⟨k1, k2⟩ := hsm.out m2 HMex.out hm2
              refine ⟨k + 1, A5, c5, by go_num, by omega, rfl, ?_, by rw [k2]; exact k1, (hb3.alloc hcz2 _).trans hb5⟩
              rw [k2, nats_append]; exact ho5
          · have hmt : ((m : Int) == 2 * (k : Int) + 3) = false := by simp; omega
            have HMex : Hid (isMex (isOpt cs v k) m) := ⟨HN.out (by omega), HA.out⟩
            clear hmN
            have hkl : Hid ((nats v).length = k) := by show _ = _; rw [nats_len, HL.out]
            go_wp2_with (at_builtin; refine append_int rfl _ _ rfl w.heap.size _ (nats v) rfl (ho.below ((Below.refl _ _).alloc (Nat.le_refl _) _)) _ m rfl ((Blk.new _ _ _).cell 0) (by rw [hkl.out]; omega) (by simp; omega) ?_; intro A5 c5 w5 ho5 hb5 hg5; rw [hkl.out] at ho5 ⊢)
            go_roundg (go - 1)
            case measure => have := HK.out; omega
            case rel =>
              have := HK.out
              obtain ⟨k1, k2⟩ := hsm.out m HMex.out (by omega)
              refine ⟨k + 1, A5, c5, by go_num, by omega, rfl, ?_, by rw [k2]; exact k1, (hb.alloc hcz _).trans hb5⟩
              rw [k2, nats_append]; exact ho5
    · obtain rfl : k = n + 1 := by omega
      go_wp2
      go_ret
      have e : (nats (V cs (n + 1))).length = n + 1 := by rw [nats_len, V_len]
      exact ⟨⟨A', c', by rw [e]; rfl, by rw [e]; exact ho, hb⟩, HS.out⟩
end Go.Proofs.Ytdckgplmkigjcaa
