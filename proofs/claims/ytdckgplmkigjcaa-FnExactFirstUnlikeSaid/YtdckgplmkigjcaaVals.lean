/- impl.values by its contract. Conditions: none. -/
import Derived.Test.YtdckgplmkigjcaaCode
import Derived.Test.YtdckgplmkigjcaaVM
import Derived.Test.YtdckgplmkigjcaaBits
import Derived.StillTailTactics
import Derived.Deep.LoopGhost
import Derived.Deep.DeepCutAuto
import Derived.Deep.CutBlock
import Derived.Test.YtdckgplmkigjcaaZc
namespace Go.Proofs.Ytdckgplmkigjcaa
open Go.RowKit
set_option linter.unusedVariables false

theorem optTo_zero (cs : List Int) (v : List Nat) (k x : Nat) : ¬ optTo cs v k 0 x := fun ⟨j, hj, _⟩ => absurd hj (by omega)
theorem optTo_succ (cs : List Int) (v : List Nat) (k j x : Nat) (hj : j < cs.length) (hk : j + 1 ≤ k) : optTo cs v k (j + 1) x ↔ optTo cs v k j x ∨ optD (gi cs j) v (k - j - 1) (k + 1) x := by
  constructor
  · rintro ⟨i, h1, h2, h3, h4⟩
    by_cases hij : i = j
    · subst hij; exact .inr (by rw [show k - i - 1 = k - (i + 1) by omega]; exact h4)
    · exact .inl ⟨i, by omega, h2, h3, h4⟩
  · rintro (⟨i, h1, h2, h3, h4⟩ | h)
    · exact ⟨i, by omega, h2, h3, h4⟩
    · exact ⟨j, by omega, hj, hk, by rw [show k - (j + 1) = k - j - 1 by omega]; exact h⟩
theorem optTo_end (cs : List Int) (v : List Nat) (k j x : Nat) (h : j = cs.length ∨ k ≤ j) : optTo cs v k j x ↔ isOpt cs v k x := by
  constructor
  · rintro ⟨i, h1, h2, h3, h4⟩; exact ⟨i, h2, h2, h3, h4⟩
  · rintro ⟨i, h1, h2, h3, h4⟩
    refine ⟨i, ?_, h2, h3, h4⟩
    rcases h with h | h <;> omega
theorem optD_end (d : Int) (v : List Nat) (r t a0 x : Nat) (h : ¬ (d / 4 % 2 = 1) ∨ r < 2 * t) (ht : t ≤ a0) : optD d v r t x ↔ optD d v r a0 x := by
  constructor
  · rintro (h1 | h1 | ⟨h1, a, h2, h3, h4, h5⟩)
    · exact .inl h1
    · exact .inr (.inl h1)
    · exact .inr (.inr ⟨h1, a, h2, by omega, h4, h5⟩)
  · rintro (h1 | h1 | ⟨h1, a, h2, h3, h4, h5⟩)
    · exact .inl h1
    · exact .inr (.inl h1)
    · rcases h with h | h
      · exact absurd h1 h
      · exact .inr (.inr ⟨h1, a, h2, by omega, h4, h5⟩)
theorem optD_succ (d : Int) (v : List Nat) (r t x : Nat) (h : d / 4 % 2 = 1) (ht : 1 ≤ t) (hr : 2 * t ≤ r) : optD d v r (t + 1) x ↔ optD d v r t x ∨ x = gn v t ^^^ gn v (r - t) := by
  constructor
  · rintro (h1 | h1 | ⟨h1, a, h2, h3, h4, h5⟩)
    · exact .inl (.inl h1)
    · exact .inl (.inr (.inl h1))
    · by_cases hat : a = t
      · subst hat; exact .inr h5
      · exact .inl (.inr (.inr ⟨h1, a, h2, by omega, h4, h5⟩))
  · rintro ((h1 | h1 | ⟨h1, a, h2, h3, h4, h5⟩) | h1)
    · exact .inl h1
    · exact .inr (.inl h1)
    · exact .inr (.inr ⟨h1, a, h2, by omega, h4, h5⟩)
    · exact .inr (.inr ⟨h, t, ht, by omega, hr, h1⟩)
theorem optD_one (d : Int) (v : List Nat) (r x : Nat) : optD d v r 1 x ↔ (d % 2 = 1 ∧ r = 0 ∧ x = 0) ∨ (d / 2 % 2 = 1 ∧ 0 < r ∧ x = gn v r) := by
  constructor
  · rintro (h1 | h1 | ⟨h1, a, h2, h3, h4, h5⟩)
    · exact .inl h1
    · exact .inr h1
    · omega
  · rintro (h1 | h1)
    · exact .inl h1
    · exact .inr (.inl h1)
theorem optD1_t0 {d : Int} {v : List Nat} {r x : Nat} (hr : r = 0) (hd : d % 2 = 1) : optD d v r 1 x ↔ x = 0 := by
  rw [optD_one]
  constructor
  · rintro (h | h)
    · exact h.2.2
    · omega
  · intro h; exact .inl ⟨hd, hr, h⟩
theorem optD1_n0 {d : Int} {v : List Nat} {r x : Nat} (hr : r = 0) (hd : ¬ d % 2 = 1) : ¬ optD d v r 1 x := by
  rw [optD_one]
  rintro (h | h)
  · exact hd h.1
  · omega
theorem optD1_t {d : Int} {v : List Nat} {r x : Nat} (hr : ¬ r = 0) (hd : d / 2 % 2 = 1) : optD d v r 1 x ↔ x = gn v r := by
  rw [optD_one]
  constructor
  · rintro (h | h)
    · exact absurd h.2.1 hr
    · exact h.2.2
  · intro h; exact .inr ⟨hd, by omega, h⟩
theorem optD1_n {d : Int} {v : List Nat} {r x : Nat} (hr : ¬ r = 0) (hd : ¬ d / 2 % 2 = 1) : ¬ optD d v r 1 x := by
  rw [optD_one]
  rintro (h | h)
  · exact hr h.2.1
  · exact hd h.1
theorem small255_gn {v : List Nat} (h : small255 v) (i : Nat) : gn v i ≤ 255 := by
  by_cases hi : i < v.length
  · exact h i hi
  · simp [gn, List.getElem?_eq_none (Nat.le_of_not_lt hi)]
theorem opt_le {cs : List Int} {v : List Nat} {h k x : Nat} (hs : small255 v) (ho : optTo cs v h k x) : x ≤ 255 := by
  have := isOpt_lt (n := 8) (fun i => by have := small255_gn hs i; omega) ho
  omega

theorem small255_snoc {v : List Nat} {m : Nat} (h : small255 v) (hm : m ≤ 255) : small255 (v ++ [m]) := by
  intro i hi
  rw [List.length_append, List.length_singleton] at hi
  by_cases hl : i < v.length
  · rw [gn_append_lt v _ hl]; exact h i hl
  · obtain rfl : i = v.length := by omega
    rw [gn_append_len]; exact hm
def valsPost (cs : List Int) (n : Nat) (w : World) (e : Ending) (w' : World) : Prop :=
  ((small255 (V cs (n + 1)) ∧ ∃ A c, e = .returned (.tuple #[.slice A (n + 1) c, .bool true]) ∧ OwnI w' w.heap.size (.slice A (n + 1) c) (nats (V cs (n + 1)))) ∨
   (¬ small255 (V cs (n + 1)) ∧ e = .returned (.tuple #[.slice none 0 0, .bool false]))) ∧ Below w.heap.size w w'


set_option maxRecDepth 100000 in
set_option maxHeartbeats 1000000 in
theorem valuesI_any (A : Option Addr) (c : Nat) (cs : List Int) (n : Nat) (w : World) (B : Nat) (hB : B ≤ w.heap.size) (h : RdI w B A c cs) (hn : n ≤ 300) (hg : goodCode cs) :
    Calls Try.prog 74 #[.slice A cs.length c, .int .i64 n] w (valsPost cs n w) := by
  have h1 := h.len
  have h2 := h.max
  obtain ⟨hg1, hg2, hg3, hg4⟩ := hg
  clear hg3
  have HD := Lib.hid hg4; clear hg4
  have hzc := zc_store
  go_enter Try.func74, Try.ntmps74
  go_wp2
  go_loopg [6, 17] (n + 1) (fun gk v i wr => ∃ (k : Nat) (A' : Option Addr) (c' : Nat), i = .int .i64 k ∧ k + gk = n + 1 ∧ v = .slice A' k c' ∧ OwnI wr w.heap.size (.slice A' k c') (nats (V cs k)) ∧ small255 (V cs k) ∧ Below w.heap.size w wr)
  case atStart =>
    refine ⟨0, some ⟨w.heap.size, 0, none⟩, 0, rfl, by omega, rfl, ?_, by rw [V_zero]; exact fun i hi => absurd hi (by simp), (Below.refl _ _).alloc (Nat.le_refl _) _⟩
    rw [V_zero]
    exact own_ints.2 (Own.empty w 3 3 _ (Nat.le_refl _))
  case round =>
    obtain ⟨k, A', c', rfl, hk, rfl, ho, hs, hb⟩ := hrel
    have HS := Lib.hid hs; clear hs
    obtain ⟨go, rfl⟩ : ∃ go : Nat, go = gk := ⟨_, rfl⟩
    have HK := Lib.hid hk
    have hk : k ≤ n + 1 := by omega
    by_cases hlt : k < n + 1
    · have hltI : (k : Int) < (n : Int) + 1 := by omega
      go_upto_block 2 with (fail)
      have hSN := SeenIs.new wr 89 512
      rw [← zc_eq] at hSN
      have hbN : Below wr.heap.size wr (wr.alloc (.cells Try.zeroCells89 89)) := (Below.refl _ _).alloc (Nat.le_refl _) _
      have hzN : wr.heap.size < (wr.alloc (.cells Try.zeroCells89 89)).heap.size := by simp
      have hoN := ho.below hbN
      have hwN : Below w.heap.size w (wr.alloc (.cells Try.zeroCells89 89)) := hb.trans (hbN.mono hb.size)
      have hzw := hb.size
      have hog : Hid (∀ x, (Value.slice A' k c').ownBlock = some x → x < wr.heap.size) := fun x hx => (ho.lt x hx).2
      clear hbN ho hb
      generalize wr.alloc (.cells Try.zeroCells89 89) = W at *
      generalize wr.heap.size = g at *
      clear wr
      have hL := V_len cs k
      generalize hV : V cs k = v at *
      have HV := Lib.hid hV; clear hV
      have HL := Lib.hid hL; clear hL
      go_cut [] (fun wc => OwnI wc w.heap.size (.slice A' k c') (nats v) ∧ SeenIs wc g 512 89 (isOpt cs v k) ∧ Below w.heap.size w wc ∧ g < wc.heap.size)
      case first =>
        go_wp2
        go_loopg [23] cs.length (fun gk i wr => ∃ j : Nat, i = .int .i64 j ∧ j + gk = cs.length ∧ OwnI wr w.heap.size (.slice A' k c') (nats v) ∧ SeenIs wr g 512 89 (optTo cs v k j) ∧ Below w.heap.size w wr ∧ g < wr.heap.size)
        case atStart => exact ⟨0, rfl, by omega, hoN, hSN.congr fun x _ => by simp [optTo_zero], hwN, hzN⟩
        case round =>
          clear hoN hSN hwN hzN
          obtain ⟨j, rfl, hj, ho, hSn, hb, hgz⟩ := hrel
          obtain ⟨gj, rfl⟩ : ∃ gj : Nat, gj = gk := ⟨_, rfl⟩
          have HJ := Lib.hid hj
          have hj : j ≤ cs.length := by omega
          by_cases hcont : j < cs.length ∧ j + 1 ≤ k
          · obtain ⟨hjl, hjk⟩ := hcont
            obtain ⟨b, o, rfl, hbB, hc⟩ := (h.below hb hB).at (j := j) hjl
            have hd := hc j hjl
            clear hc
            have hdr := HD.out j hjl
            have e1 := band1 _ hdr
            have e2 := band2 _ hdr
            have e4 := band4 _ hdr
            have HNext : Hid (∀ x, optTo cs v k (j + 1) x ↔ optTo cs v k j x ∨ optD (gi cs j) v (k - j - 1) (k + 1) x) := fun x => optTo_succ cs v k j x hjl hjk
            generalize gi cs j = d at *
            have hv := small255_gn HS.out
            have HVB : Hid (∀ i, gn v i ≤ 255) := hv
            clear hv
            have hS1 : Hid (SeenIs wr g 512 89 (optTo cs v k j)) := hSn
            clear hSn
            have hcz := fun x (hx : x < 512) => hS1.out.some_ x hx
            have HCZ := Lib.hid hcz; clear hcz
            have hf := hS1.out.frozen
            have HF := Lib.hid hf; clear hf
            clear hdr
            go_upto_region 11 with (fail)
            go_cut [40] (fun s40 wc => s40 = .bool (decide (d % 2 = 1 ∧ k - j - 1 = 0)) ∧ wr = wc)
            case first =>
              clear e2 e4
              by_cases hb1 : d % 2 = 1
              · rw [hb1] at e1
                by_cases hr : k - j - 1 = 0
                · have hr1 : ((k : Int) - j - 1 == 0) = true := by simp; omega
                  have HR : Hid (d % 2 = 1 ∧ k - j - 1 = 0) := ⟨hb1, hr⟩
                  clear hr hb1
                  go_wp2
                  go_meet
                  exact ⟨by rw [decide_eq_true HR.out], rfl⟩
                · have hr1 : ((k : Int) - j - 1 == 0) = false := by simp; omega
                  have HR : Hid (¬ (d % 2 = 1 ∧ k - j - 1 = 0)) := fun h => hr h.2
                  clear hr hb1
                  go_wp2
                  go_meet
                  exact ⟨by rw [decide_eq_false HR.out], rfl⟩
              · have e1' : bits .and .i64 d 1 = 0 := by rw [e1]; omega
                have HR : Hid (¬ (d % 2 = 1 ∧ k - j - 1 = 0)) := fun h => hb1 h.1
                clear hb1 e1
                go_wp2
                go_meet
                exact ⟨by rw [decide_eq_false HR.out], rfl⟩
            case rest =>
              obtain ⟨rfl, rfl⟩ := hcut
              clear e1
              go_upto_if 40 with (fail)
              go_cut [] (fun wc => OwnI wc w.heap.size (.slice A' k c') (nats v) ∧ SeenIs wc g 512 89 (fun x => optTo cs v k j x ∨ (d % 2 = 1 ∧ k - j - 1 = 0 ∧ x = 0)) ∧ Below w.heap.size w wc ∧ g < wc.heap.size)
              case first =>
                clear e2 e4
                by_cases hR : d % 2 = 1 ∧ k - j - 1 = 0
                · have hR' : decide (d % 2 = 1 ∧ k - j - 1 = 0) = true := decide_eq_true hR
                  have HR := Lib.hid hR; clear hR
                  obtain ⟨b0, hc0⟩ := HCZ.out 0 (by omega)
                  have hf0 := HF.out 0
                  go_wp2
                  go_meet
                  refine ⟨own_ints.2 ((own_ints.1 ho).far _ _ ?_), (hS1.out.set 0).congr fun x _ => ?_, hb.setCell (show w.heap.size ≤ g by omega) _, by simpa using hgz⟩
                  · intro hh
                    exact absurd (hog.out g hh) (by omega)
                  · simp [HR.out]
                · have hR' : decide (d % 2 = 1 ∧ k - j - 1 = 0) = false := decide_eq_false hR
                  have HR := Lib.hid hR; clear hR
                  go_wp2
                  go_meet
                  exact ⟨ho, hS1.out.congr fun x _ => ⟨fun h => .inl h, fun h => h.resolve_right fun h => HR.out ⟨h.1, h.2.1⟩⟩, hb, hgz⟩
              case rest =>
                clear hb hgz ho hS1 HCZ HF
                obtain ⟨ho, hSn, hb, hgz⟩ := hcut
                have ho' := own_ints.1 ho
                obtain ⟨gl, rfl, -, hgl, hgl2, hlc, -⟩ := ho'.at (by rw [ints_len, nats_len, HL.out]; omega)
                clear ho'
                have hlc' : Hid (∀ i, i < k → wc.cell? ⟨gl, i, none⟩ = some (.int .i64 (gn v i : Nat))) := fun i hi => by
                  rw [← gi_nats]; exact hlc i _ (ints_at _ _ (by rw [nats_len, HL.out]; exact hi))
                clear hlc
                have HSn := Lib.hid hSn; clear hSn
                go_upto_region 13 with (fail)
                go_cut [48] (fun s48 wd => s48 = .bool (decide (d / 2 % 2 = 1 ∧ 0 < k - j - 1)) ∧ wc = wd)
                case first =>
                  clear e4
                  by_cases hb1 : d / 2 % 2 = 1
                  · rw [hb1] at e2
                    by_cases hr : 0 < k - j - 1
                    · have hr1 : (1 : Int) < (k : Int) - j := by omega
                      have HR : Hid (d / 2 % 2 = 1 ∧ 0 < k - j - 1) := ⟨hb1, hr⟩
                      clear hr hb1
                      go_wp2
                      go_meet
                      exact ⟨by rw [decide_eq_true HR.out], rfl⟩
                    · have hr1 : ¬ (1 : Int) < (k : Int) - j := by omega
                      have HR : Hid (¬ (d / 2 % 2 = 1 ∧ 0 < k - j - 1)) := fun h => hr h.2
                      clear hr hb1
                      go_wp2
                      go_meet
                      exact ⟨by rw [decide_eq_false HR.out], rfl⟩
                  · have e2' : bits .and .i64 d 2 = 0 := by rw [e2]; omega
                    have HR : Hid (¬ (d / 2 % 2 = 1 ∧ 0 < k - j - 1)) := fun h => hb1 h.1
                    clear hb1 e2
                    go_wp2
                    go_meet
                    exact ⟨by rw [decide_eq_false HR.out], rfl⟩
                case rest =>
                  obtain ⟨rfl, rfl⟩ := hcut
                  clear e2
                  go_upto_if 48 with (fail)
                  go_cut [] (fun wd => OwnI wd w.heap.size (.slice (some ⟨gl, 0, none⟩) k c') (nats v) ∧ SeenIs wd g 512 89 (fun x => optTo cs v k j x ∨ optD d v (k - j - 1) 1 x) ∧ Below w.heap.size w wd ∧ g < wd.heap.size)
                  case first =>
                    clear e4
                    by_cases hR : d / 2 % 2 = 1 ∧ 0 < k - j - 1
                    · have hR' : decide (d / 2 % 2 = 1 ∧ 0 < k - j - 1) = true := decide_eq_true hR
                      have hrp := hR.2
                      have HR := Lib.hid hR; clear hR
                      have hlr := hlc'.out (k - j - 1) (by omega)
                      have hb255 := HVB.out (k - j - 1)
                      obtain ⟨b1, hc1⟩ := HSn.out.some_ (gn v (k - j - 1)) (by omega)
                      have hf1 := HSn.out.frozen (gn v (k - j - 1))
                      generalize hq : gn v (k - j - 1) = q at hlr hb255 hc1 hf1
                      have HQ := Lib.hid hq; clear hq
                      have hidx : (0 : Int) ≤ (k : Int) - j - 1 := by omega
                      go_wp2
                      go_meet
                      refine ⟨own_ints.2 ((own_ints.1 ho).far _ _ ?_), (HSn.out.set q).congr fun x _ => ?_, hb.setCell (show w.heap.size ≤ g by omega) _, by simpa using hgz⟩
                      · intro hh
                        exact absurd (hog.out g hh) (by omega)
                      · rw [optD_one, HQ.out]
                        have := HR.out
                        simp [this]
                        constructor
                        · rintro ((h | h) | h)
                          · exact .inl h
                          · omega
                          · exact .inr (.inr h)
                        · rintro (h | h | h)
                          · exact .inl (.inl h)
                          · omega
                          · exact .inr h
                    · have hR' : decide (d / 2 % 2 = 1 ∧ 0 < k - j - 1) = false := decide_eq_false hR
                      have HR := Lib.hid hR; clear hR
                      go_wp2
                      go_meet
                      refine ⟨ho, HSn.out.congr fun x _ => ?_, hb, hgz⟩
                      rw [optD_one]
                      constructor
                      · rintro (h | h)
                        · exact .inl h
                        · exact .inr (.inl h)
                      · rintro (h | h | h)
                        · exact .inl h
                        · exact .inr h
                        · exact absurd ⟨h.1, h.2.1⟩ HR.out
                  case rest =>
                    clear hb hgz ho HSn hlc' hgl2
                    obtain ⟨ho, hSn, hb, hgz⟩ := hcut
                    have hglg : gl < g := hog.out gl rfl
                    go_wp2
                    go_loopg [12] (k + 1) (fun gk t wr => ∃ t' : Nat, t = .int .i64 t' ∧ (t' + gk = k + 2 ∧ t' ≤ k + 1) ∧ 1 ≤ t' ∧ OwnI wr w.heap.size (.slice (some ⟨gl, 0, none⟩) k c') (nats v) ∧ SeenIs wr g 512 89 (fun x => optTo cs v k j x ∨ optD d v (k - j - 1) t' x) ∧ Below w.heap.size w wr ∧ g < wr.heap.size)
                    case atStart => exact ⟨1, rfl, ⟨by omega, by omega⟩, by omega, ho, hSn, hb, hgz⟩
                    case round =>
                      clear hb hgz ho hSn
                      obtain ⟨t, rfl, ht2, ht1, ho, hSt, hb, hgz⟩ := hrel
                      have HT := Lib.hid ht2; 
                      have ht2 : t ≤ k + 1 := ht2.2
                      by_cases hcont : d / 4 % 2 = 1 ∧ 2 * t ≤ k - j - 1
                      · obtain ⟨hd4, h2t⟩ := hcont
                        have h2t' : (2 : Int) * t ≤ (k : Int) - j - 1 := by omega
                        have ho' := own_ints.1 ho
                        obtain ⟨gl', hgl', -, -, -, hlc, -⟩ := ho'.at (by rw [ints_len, nats_len, HL.out]; omega)
                        clear ho'
                        injection hgl' with hgl'
                        injection hgl' with hgl' _
                        subst hgl'
                        have hla : wr.cell? ⟨gl, t, none⟩ = some (.int .i64 (gn v t : Nat)) := by
                          rw [← gi_nats]; exact hlc t _ (ints_at _ _ (by rw [nats_len, HL.out]; omega))
                        have hlb : wr.cell? ⟨gl, k - j - 1 - t, none⟩ = some (.int .i64 (gn v (k - j - 1 - t) : Nat)) := by
                          rw [← gi_nats]; exact hlc _ _ (ints_at _ _ (by rw [nats_len, HL.out]; omega))
                        clear hlc
                        have hNx : Hid (∀ x, optD d v (k - j - 1) (t + 1) x ↔ optD d v (k - j - 1) t x ∨ x = gn v t ^^^ gn v (k - j - 1 - t)) := fun x => optD_succ d v _ t x hd4 ht1 h2t
                        have hva := HVB.out t
                        have hvb := HVB.out (k - j - 1 - t)
                        have hxe := bxor (gn v t) (gn v (k - j - 1 - t)) (by omega) (by omega)
                        have hxl : gn v t ^^^ gn v (k - j - 1 - t) < 256 := Nat.xor_lt_two_pow (n := 8) (by omega) (by omega)
                        generalize gn v t ^^^ gn v (k - j - 1 - t) = X at *
                        generalize gn v t = va at *
                        generalize gn v (k - j - 1 - t) = vb at *
                        have HSt' : Hid (SeenIs wr g 512 89 (fun x => optTo cs v k j x ∨ optD d v (k - j - 1) t x)) := hSt
                        clear hSt
                        obtain ⟨bx, hcx⟩ := HSt'.out.some_ X (by omega)
                        have hfx := HSt'.out.frozen X
                        have HO2 : Hid (OwnI wr w.heap.size (.slice (some ⟨gl, 0, none⟩) k c') (nats v)) := ho
                        clear ho
                        have e4' : bits .and .i64 d 4 = 4 := by rw [e4]; omega
                        clear e4
                        go_wp2
                        refine wp_region_tail 12 (by kernel_rfl) (by kernel_rfl) ?_
                        simp only [List.take_succ_cons, List.take_zero, List.drop_succ_cons, List.drop_zero]
                        repeat (go_big_quiet_step (fail))
                        refine wpQuiet_nil ?_
                        go_wp2
                        go_roundg (gk - 1)
                        case measure => have := HT.out; omega
                        case rel =>
                          have := HT.out
                          refine ⟨t + 1, by go_num, ⟨by omega, by omega⟩, by omega, own_ints.2 ((own_ints.1 HO2.out).far _ _ ?_), (HSt'.out.set X).congr fun x _ => ?_, ?_, ?_⟩
                          · intro hh
                            exact absurd (hog.out g hh) (by omega)
                          · rw [hNx.out, or_assoc]
                          · exact (hb.setCell (show w.heap.size ≤ g by omega) _).drew
                          · simpa using hgz
                      · have HE : Hid (¬ d / 4 % 2 = 1 ∨ k - j - 1 < 2 * t) := by
                          by_cases hd4 : d / 4 % 2 = 1
                          · right
                            have : ¬ 2 * t ≤ k - j - 1 := fun h => hcont ⟨hd4, h⟩
                            omega
                          · exact .inl hd4
                        have HSt := Lib.hid hSt; clear hSt
                        have ho2 := Lib.hid ho; clear ho
                        have hNx : Hid (∀ x, optTo cs v k (j + 1) x ↔ optTo cs v k j x ∨ optD d v (k - j - 1) t x) := fun x => by
                          rw [HNext.out, optD_end d v (k - j - 1) t (k + 1) x HE.out (by have := HT.out; omega)]
                        clear HE
                        by_cases hd4 : d / 4 % 2 = 1
                        all_goals
                          first
                            | (have e5 : bits .and .i64 d 4 = 4 := by rw [e4]; omega
                               have h3 : ((k : Int) - j - 1 < 2 * t) := by
                                 have : ¬ 2 * t ≤ k - j - 1 := fun h => hcont ⟨hd4, h⟩
                                 omega
                               clear e4 hd4 hcont)
                            | (have e5 : bits .and .i64 d 4 = 0 := by rw [e4]; omega
                               clear e4 hd4 hcont)
                          go_wp2
                          go_roundg (gj - 1)
                          case measure => have := HJ.out; omega
                          case rel =>
                            have := HJ.out
                            exact ⟨j + 1, by go_num, by omega, ho2.out, HSt.out.congr fun x _ => (hNx.out x).symm, hb, hgz⟩
          · have HE : Hid (j = cs.length ∨ k ≤ j) := by
              by_cases hjl : j < cs.length
              · exact .inr (Nat.le_of_not_lt fun hk => hcont ⟨hjl, hk⟩)
              · exact .inl (by omega)
            clear hcont
            by_cases hjl : j < cs.length
            · have hkj : k ≤ j := by have := HE.out; omega
              obtain ⟨b, o, rfl, hbB, hc⟩ := (h.below hb hB).at (j := j) hjl
              have hd := hc j hjl
              clear hc
              go_wp2
              go_meet
              exact ⟨ho, hSn.congr fun x _ => optTo_end cs v k j x HE.out, hb, hgz⟩
            · go_wp2
              go_meet
              exact ⟨ho, hSn.congr fun x _ => optTo_end cs v k j x HE.out, hb, hgz⟩
      case rest =>
        clear hoN hSN hwN hzN
        obtain ⟨ho, hSn, hb, hgz⟩ := hcut
        have hcy := fun x (hx : x < 512) (hq : isOpt cs v k x) => hSn.yes x hx hq
        have hcn := fun x (hx : x < 512) (hq : ¬ isOpt cs v k x) => hSn.no x hx hq
        have HCY := Lib.hid hcy; have HCN := Lib.hid hcn; clear hcy hcn hSn
        go_wp2
        go_loop [13] (fun a => ∃ m : Nat, a = .int .i64 m ∧ m ≤ 256 ∧ ∀ y, y < m → isOpt cs v k y) (fun a => 257 - (intOf a).toNat)
        case atStart => exact ⟨0, rfl, by omega, fun y hy => absurd hy (by omega)⟩
        case round =>
          obtain ⟨m, rfl, hm, hall⟩ := hrel
          have HA := Lib.hid hall; clear hall
          by_cases hop : isOpt cs v k m
          · have hle := opt_le HS.out hop
            have hcm := HCY.out m (by omega) hop
            have HOP := Lib.hid hop; clear hop
            go_wp2
            go_round
            case rel => exact ⟨m + 1, by go_num, by omega, fun y hy => if hym : y = m then by rw [hym]; exact HOP.out else HA.out y (by omega)⟩
            case measure => simp [intOf]; omega
          · have hcm := HCN.out m (by omega) hop
            have HMex : Hid (isMex (isOpt cs v k) m) := ⟨hop, HA.out⟩
            clear hop
            have HSn : Hid (V cs (k + 1) = v ++ [m]) := by
              have := V_snoc cs k (m := m) (by rw [HV.out]; exact HMex.out)
              rw [HV.out] at this
              exact this
            by_cases hm255 : m ≤ 255
            · go_wp2_with (at_builtin; refine append_int rfl _ _ rfl w.heap.size _ (nats v) rfl (ho.below ((Below.refl _ _).alloc (Nat.le_refl _) _)) _ m rfl ((Blk.new _ _ _).cell 0) (by rw [nats_len, HL.out]; omega) (by simp; omega) ?_; intro A2 c2 w2 ho2 hb2 hg2; simp only [nats_len, HL.out] at ho2 ⊢)
              go_roundg (go - 1)
              case measure => have := HK.out; omega
              case rel =>
                have := HK.out
                refine ⟨k + 1, A2, c2, by go_num, by omega, rfl, ?_, ?_, (hb.alloc hb.size _).trans hb2⟩
                · rw [HSn.out, nats_append]; exact ho2
                · rw [HSn.out]; exact small255_snoc HS.out hm255
            · go_wp2
              go_ret2
              refine ⟨.inr ⟨fun hsm => ?_, rfl⟩, hb⟩
              have h1 := hsm k (by rw [V_len]; omega)
              rw [V_gn cs (show k < n + 1 by omega) (show k < k + 1 by omega), HSn.out, show gn (v ++ [m]) k = m by rw [← HL.out]; exact gn_append_len v m] at h1
              omega
    · obtain rfl : k = n + 1 := by omega
      go_wp2
      go_ret2
      exact ⟨.inl ⟨HS.out, A', c', rfl, ho⟩, hb⟩
end Go.Proofs.Ytdckgplmkigjcaa
