/- StalkValue, by the reference and by the program: contracts; the law. Conditions: none. -/
import Derived.Test.YtadljglcbieifaaDoorDy2
import Derived.Test.YtadljglcbieifaaDoorStalk
namespace Go.Proofs.YtadljglcbieifaaDoor
open Go.RowKit
set_option linter.unusedVariables false

theorem lowV_form (x : Int × Nat) : ∃ (a b : Int) (c : Bool), lowV x = .tuple #[.agg #[.int .i64 a, .int .i64 b], .bool c] := by
  unfold lowV dyP
  split
  · exact ⟨_, _, _, rfl⟩
  · exact ⟨_, _, _, rfl⟩
theorem vs_nf (l : List Bool) (n : Nat) (h : n ≤ 17) : nrm 16 (vs l n) = nf (vl l n) := by
  have e := vl_vs l n h
  have := nrm_shift 16 8 (vs l n)
  unfold nf
  rw [e]
  exact this.symm

set_option maxRecDepth 100000 in
set_option maxHeartbeats 800000 in
theorem stalkValS_good (l : List Bool) (w : World) (hl : l.length ≤ 16) (hgs : signsB (stB l) 16 = true) :
    Calls Tryd.prog 29 #[.string (stB l)] w fun e w' => e = .returned (lowV (nf (vl l l.length))) ∧ Below w.heap.size w w' := by
  obtain ⟨x1, x2, hx⟩ : ∃ x1 x2, nf (vl l l.length) = (x1, x2) := ⟨_, _, rfl⟩
  have hC := fun W => stalkS_any l W (by omega)
  rw [hx] at hC ⊢
  have hsz := stB_size l
  have hGS := fun W => goodStalkS_any (stB l) W (by unfold maxLen; omega)
  rw [hgs] at hGS
  generalize stB l = s at *
  have HC : Hid (∀ W, Calls Tryd.prog 83 #[.string s] W fun e w' => e = .returned (.agg #[.int .i64 x1, .int .i64 x2]) ∧ Below W.heap.size W w') := hC
  have HGS := Lib.hid hGS
  clear hC hx hgs hGS hsz
  cases hg : goodDyB x1 x2
  · have HE : Hid (lowV (x1, x2) = .tuple #[.agg #[.int .i64 0, .int .i64 0], .bool false]) := by show _ = _; unfold lowV; rw [if_neg (by simp [hg])]
    go_enter Tryd.func29, Tryd.ntmps29
    go_wp2_with fail
    have hB := box1 w 44 #[.int .i64 0, .int .i64 0]
    generalize w.alloc (.cells #[.int .i64 0, .int .i64 0] 44) = W at *
    obtain ⟨b1, hbW, hzW⟩ := hB
    ((with_reducible refine (HGS.out _).mono ?_); rintro e w1 ⟨rfl, rfl⟩)
    go_wp2_with fail
    ((with_reducible refine (HC.out _).mono ?_); rintro e w1 ⟨rfl, hb1⟩)
    have hz1 := hb1.size
    have b11 := (b1.below hb1 (by omega)).alloc (.cells #[.int .i64 x1, .int .i64 x2] 44)
    have h11 := (hbW.trans (hb1.mono (by omega))).alloc (by omega) (.cells #[.int .i64 x1, .int .i64 x2] 44)
    have hz2 : (w1.alloc (.cells #[.int .i64 x1, .int .i64 x2] 44)).heap.size = w1.heap.size + 1 := by simp
    go_wp2_with fail
    generalize w1.alloc (.cells #[.int .i64 x1, .int .i64 x2] 44) = V at *
    ((with_reducible refine (goodDyS_any _ _ _).mono ?_); rintro e w2 ⟨rfl, hb2⟩)
    have b12 := b11.below hb2 (by omega)
    have h12 := h11.trans (hb2.mono (by omega))
    have r0 : w2.cell? ⟨w.heap.size, 0, none⟩ = some (.int .i64 (0)) := Blk.cell b12 0
    have r1 : w2.cell? ⟨w.heap.size, 1, none⟩ = some (.int .i64 (0)) := Blk.cell b12 1
    have rf0 : w2.frozen? ⟨w.heap.size, 0, none⟩ = false := Blk.frozen b12 0
    have rf1 : w2.frozen? ⟨w.heap.size, 1, none⟩ = false := Blk.frozen b12 1
    go_wp2
    exact bodyPost_ret (v := .tuple #[.agg #[.int .i64 0, .int .i64 0], .bool false]) (by simp [results, Tryd.results29, go_sem, r0, r1]) rfl ⟨by rw [HE.out], (h12.setCell (by simp) _).setCell (by simp) _⟩
  · have HE : Hid (lowV (x1, x2) = .tuple #[.agg #[.int .i64 x1, .int .i64 x2], .bool true]) := by show _ = _; unfold lowV; rw [if_pos (by simp [hg])]; rfl
    go_enter Tryd.func29, Tryd.ntmps29
    go_wp2_with fail
    have hB := box1 w 44 #[.int .i64 0, .int .i64 0]
    generalize w.alloc (.cells #[.int .i64 0, .int .i64 0] 44) = W at *
    obtain ⟨b1, hbW, hzW⟩ := hB
    ((with_reducible refine (HGS.out _).mono ?_); rintro e w1 ⟨rfl, rfl⟩)
    go_wp2_with fail
    ((with_reducible refine (HC.out _).mono ?_); rintro e w1 ⟨rfl, hb1⟩)
    have hz1 := hb1.size
    have b11 := (b1.below hb1 (by omega)).alloc (.cells #[.int .i64 x1, .int .i64 x2] 44)
    have h11 := (hbW.trans (hb1.mono (by omega))).alloc (by omega) (.cells #[.int .i64 x1, .int .i64 x2] 44)
    have hz2 : (w1.alloc (.cells #[.int .i64 x1, .int .i64 x2] 44)).heap.size = w1.heap.size + 1 := by simp
    have bd := Blk.new w1 44 #[.int .i64 x1, .int .i64 x2]
    go_wp2_with fail
    generalize w1.alloc (.cells #[.int .i64 x1, .int .i64 x2] 44) = V at *
    ((with_reducible refine (goodDyS_any _ _ _).mono ?_); rintro e w2 ⟨rfl, hb2⟩)
    have b12 := b11.below hb2 (by omega)
    have bd2 := bd.below hb2 (by omega)
    have h12 := h11.trans (hb2.mono (by omega))
    have r0 : w2.cell? ⟨w.heap.size, 0, none⟩ = some (.int .i64 (0)) := Blk.cell b12 0
    have r1 : w2.cell? ⟨w.heap.size, 1, none⟩ = some (.int .i64 (0)) := Blk.cell b12 1
    have rf0 : w2.frozen? ⟨w.heap.size, 0, none⟩ = false := Blk.frozen b12 0
    have rf1 : w2.frozen? ⟨w.heap.size, 1, none⟩ = false := Blk.frozen b12 1
    have d0 : w2.cell? ⟨w1.heap.size, 0, none⟩ = some (.int .i64 (x1)) := Blk.cell bd2 0
    have d1 : w2.cell? ⟨w1.heap.size, 1, none⟩ = some (.int .i64 (x2)) := Blk.cell bd2 1
    have df0 : w2.frozen? ⟨w1.heap.size, 0, none⟩ = false := Blk.frozen bd2 0
    have df1 : w2.frozen? ⟨w1.heap.size, 1, none⟩ = false := Blk.frozen bd2 1
    have hne : ¬ w1.heap.size = w.heap.size := by omega
    go_wp2
    exact bodyPost_ret (v := .tuple #[.agg #[.int .i64 x1, .int .i64 x2], .bool true]) (by simp [results, Tryd.results29, go_sem, r0, r1]) rfl ⟨by rw [HE.out], (h12.setCell (by simp) _).setCell (by simp) _⟩

set_option maxRecDepth 100000 in
set_option maxHeartbeats 800000 in
theorem stalkValI_good (l : List Bool) (w : World) (hl : l.length ≤ 16) (hgs : signsB (stB l) 16 = true) :
    Calls Tryd.prog 28 #[.string (stB l)] w fun e w' => e = .returned (lowV (nf (vl l l.length))) ∧ Below w.heap.size w w' := by
  obtain ⟨y1, y2, b, hy⟩ := lowV_form (nf (vl l l.length))
  have hLW : ∀ W, Calls Tryd.prog 81 #[.int .i64 (vs l l.length), .int .i64 16] W fun e w' => e = .returned (lowV (nf (vl l l.length))) ∧ Below W.heap.size W w' := by
    intro W
    have h := lowest_any (vs l l.length) 16 W (by omega) (by have := vl_fits l l.length (by omega); rw [vl_vs l _ (by omega)] at this; unfold Fits at this ⊢; omega)
    rw [vs_nf l _ (by omega)] at h
    exact h
  rw [hy] at hLW ⊢
  have HLW := Lib.hid hLW; clear hLW hy
  have hGS := fun W => goodStalkI_any (stB l) W (by unfold maxLen; rw [stB_size]; omega)
  rw [hgs] at hGS
  clear hgs
  obtain ⟨s, hs, hsz, hR, hN⟩ : ∃ s : ByteArray, s = stB l ∧ s.size = l.length ∧ (∀ (k : Nat) (h : k < s.size), (((s[k]).toNat : Int) == 76) = sg l k) ∧ (∀ (j k : Nat) (h : j < s.size) (h' : k < s.size), (((s[j]).toNat : Int) == ((s[k]).toNat : Int)) = (sg l j == sg l k)) :=
    ⟨stB l, rfl, stB_size l, enc_L l, enc_eq l⟩
  rw [← hs] at hGS ⊢
  clear hs
  have HSZ := Lib.hid hsz; have HR0 := Lib.hid hR; have HN0 := Lib.hid hN; have HGS := Lib.hid hGS; clear hsz hR hN hGS
  go_enter Tryd.func28, Tryd.ntmps28
  go_wp2_with fail
  have hB := box1 w 44 #[.int .i64 0, .int .i64 0]
  generalize w.alloc (.cells #[.int .i64 0, .int .i64 0] 44) = W at *
  obtain ⟨b1, hbW, hzW⟩ := hB
  ((with_reducible refine (HGS.out _).mono ?_); rintro e w1 ⟨rfl, hb1⟩)
  have hz1 := hb1.size
  have b11 := b1.below hb1 (by omega)
  have h11 := hbW.trans (hb1.mono (by omega))
  clear b1 hbW hzW hb1 hz1
  go_wp2
  go_loopw [4, 5, 6, 14] (fun v st f i wr => ∃ (k : Nat) (V S : Int) (fb : Bool), i = .int .i64 k ∧ k ≤ l.length ∧ v = .int .i64 V ∧ st = .int .i64 S ∧ f = .bool fb ∧ V = vs l k ∧ S = 2 ^ (16 - pwb l k) ∧ fb = decide (pwb l k = 0) ∧ Below w.heap.size w wr ∧ Blk wr w.heap.size 44 #[.int .i64 0, .int .i64 0]) (fun _ _ _ i _ => l.length - (intOf i).toNat)
  case atStart => exact ⟨0, 0, 65536, true, rfl, by omega, rfl, rfl, rfl, rfl, rfl, rfl, h11, b11⟩
  case round =>
    clear h11 b11
    obtain ⟨k, V, S, fb, rfl, hk, rfl, rfl, rfl, hV, hS, hf, hb, b1⟩ := hrel
    have hpb := pwb_le l k
    have hpk := pw_le l k
    have hvb := vl_bound l k
    rw [vl_vs l k (by omega), ← hV] at hvb
    have hV1 : -2000000 ≤ V := by omega
    have hV2 : V ≤ 2000000 := by omega
    clear hvb
    have HV := Lib.hid hV; clear hV
    by_cases hlt : k < l.length
    · have hks : k < s.size := by rw [HSZ.out]; exact hlt
      have h0s : 0 < s.size := by omega
      have hks1 : (k : Int) < (s.size : Int) := by omega
      have hks2 : (0 : Int) ≤ (k : Int) := by omega
      have h0s1 : (0 : Int) < (s.size : Int) := by omega
      have hR := HR0.out k hks
      have hN := HN0.out k 0 hks h0s
      have hfst := pw_first l k
      by_cases c1 : pw l k = 0
      · obtain ⟨d1, d2⟩ := hfst.1 c1
        obtain rfl : fb = true := by rw [hf]; simpa using d1
        have ht : ((((s[k]).toNat : Int)) == ((s[0]).toNat : Int)) = true := by rw [hN, d2]; simp
        rw [d1] at hS
        have hS2 : S = 65536 := hS
        subst hS2
        have HST : Hid ((65536 : Int) = 2 ^ (16 - pw l k)) := by show _ = _; rw [c1]; rfl
        have HF : Hid (true = decide (pw l k = 0)) := by show _ = _; simpa using c1
        have HK : Hid (vs l (k + 1) = V + pm (sg l k) * (65536)) := by show vs l k + pm (sg l k) * 2 ^ (16 - pw l k) = _; rw [HV.out, HST.out]
        clear hN c1 hpb hpk hf
        by_cases hsg : sg l k = true
        · have ht3 : ((((s[k]).toNat : Int)) == 76) = true := by rw [hR, hsg]
          have HVV : Hid (V + (65536) = vs l (k + 1)) := by show _ = _; rw [HK.out, hsg, pm_mul]; simp
          clear hR hsg
          go_wp2
          go_quiet (fail)
          go_wp2
          go_roundw
          case rel => exact ⟨k + 1, V + (65536), 65536, true, by go_num, by omega, rfl, rfl, rfl, HVV.out, HST.out, HF.out, bdrew hb _, b1⟩
          case measure => simp [intOf]; omega
        · have hsf : sg l k = false := by simpa using hsg
          have ht3 : ((((s[k]).toNat : Int)) == 76) = false := by rw [hR, hsf]
          have HVV : Hid (V - (65536) = vs l (k + 1)) := by show _ = _; rw [HK.out, hsf, pm_mul]; simp; omega
          clear hR hsg hsf
          go_wp2
          go_quiet (fail)
          go_wp2
          go_roundw
          case rel => exact ⟨k + 1, V - (65536), 65536, true, by go_num, by omega, rfl, rfl, rfl, HVV.out, HST.out, HF.out, bdrew hb _, b1⟩
          case measure => simp [intOf]; omega
      · have hpwv : pw l k = pwb l k + 1 := by
          have hk0 : 0 < k := by
            rcases Nat.eq_zero_or_pos k with h | h
            · subst h; exact absurd rfl c1
            · exact h
          have := pw_step l k hk0
          split at this
          · exact this
          · rename_i hc; exact absurd (by omega : pw l k = 0) c1
        obtain ⟨T, hT⟩ : ∃ T : Int, T = 2 ^ (16 - pw l k) := ⟨_, rfl⟩
        have hST : S = 2 * T := by
          have e : 16 - pwb l k = (16 - pw l k) + 1 := by omega
          rw [hS, hT, e, Int.pow_succ]; omega
        subst hST
        have hT1 : 1 ≤ T := by rw [hT]; exact pow_pos2 _
        have hT2 : T ≤ 65536 := by rw [hT]; have := pow_le2 (16 - pw l k) 16 (by omega); simpa using this
        have hd : (2 * T).tdiv 2 = T := by rw [Int.mul_tdiv_cancel_left _ (by decide)]
        have HST := Lib.hid hT; clear hT hS
        have HF : Hid (false = decide (pw l k = 0)) := by show _ = _; simpa using c1
        by_cases c2 : pwb l k = 0
        · obtain rfl : fb = true := by rw [hf]; simpa using c2
          have d2 : ¬ sg l k = sg l 0 := fun h => c1 (hfst.2 ⟨c2, h⟩)
          have ht : ((((s[k]).toNat : Int)) == ((s[0]).toNat : Int)) = false := by rw [hN]; simpa using d2
          clear hfst hpwv
          have HK : Hid (vs l (k + 1) = V + pm (sg l k) * (T)) := by show vs l k + pm (sg l k) * 2 ^ (16 - pw l k) = _; rw [HV.out, HST.out]
          clear hN c1 hpb hpk hf
          by_cases hsg : sg l k = true
          · have ht3 : ((((s[k]).toNat : Int)) == 76) = true := by rw [hR, hsg]
            have HVV : Hid (V + (T) = vs l (k + 1)) := by show _ = _; rw [HK.out, hsg, pm_mul]; simp
            clear hR hsg
            go_wp2
            go_quiet (fail)
            go_wp2
            go_roundw
            case rel => exact ⟨k + 1, V + (T), T, false, by go_num, by omega, rfl, rfl, rfl, HVV.out, HST.out, HF.out, bdrew hb _, b1⟩
            case measure => simp [intOf]; omega
          · have hsf : sg l k = false := by simpa using hsg
            have ht3 : ((((s[k]).toNat : Int)) == 76) = false := by rw [hR, hsf]
            have HVV : Hid (V - (T) = vs l (k + 1)) := by show _ = _; rw [HK.out, hsf, pm_mul]; simp; omega
            clear hR hsg hsf
            go_wp2
            go_quiet (fail)
            go_wp2
            go_roundw
            case rel => exact ⟨k + 1, V - (T), T, false, by go_num, by omega, rfl, rfl, rfl, HVV.out, HST.out, HF.out, bdrew hb _, b1⟩
            case measure => simp [intOf]; omega
        · obtain rfl : fb = false := by rw [hf]; simpa using c2
          clear hfst hpwv
          have HK : Hid (vs l (k + 1) = V + pm (sg l k) * (T)) := by show vs l k + pm (sg l k) * 2 ^ (16 - pw l k) = _; rw [HV.out, HST.out]
          clear hN c1 hpb hpk hf
          by_cases hsg : sg l k = true
          · have ht3 : ((((s[k]).toNat : Int)) == 76) = true := by rw [hR, hsg]
            have HVV : Hid (V + (T) = vs l (k + 1)) := by show _ = _; rw [HK.out, hsg, pm_mul]; simp
            clear hR hsg
            go_wp2
            go_quiet (fail)
            go_wp2
            go_roundw
            case rel => exact ⟨k + 1, V + (T), T, false, by go_num, by omega, rfl, rfl, rfl, HVV.out, HST.out, HF.out, bdrew hb _, b1⟩
            case measure => simp [intOf]; omega
          · have hsf : sg l k = false := by simpa using hsg
            have ht3 : ((((s[k]).toNat : Int)) == 76) = false := by rw [hR, hsf]
            have HVV : Hid (V - (T) = vs l (k + 1)) := by show _ = _; rw [HK.out, hsf, pm_mul]; simp; omega
            clear hR hsg hsf
            go_wp2
            go_quiet (fail)
            go_wp2
            go_roundw
            case rel => exact ⟨k + 1, V - (T), T, false, by go_num, by omega, rfl, rfl, rfl, HVV.out, HST.out, HF.out, bdrew hb _, b1⟩
            case measure => simp [intOf]; omega
    · obtain rfl : k = l.length := by omega
      have hks : ¬ l.length < s.size := by rw [HSZ.out]; omega
      have hle : (s.size : Int) ≤ (l.length : Int) := by omega
      rw [← HV.out] at HLW
      have hz := b1.lt
      clear hpb hpk hS hf
      go_wp2_with fail
      ((with_reducible refine (HLW.out _).mono ?_); rintro e w2 ⟨rfl, hb2⟩)
      have b12 := b1.below hb2 (by omega)
      have h12 := hb.trans (hb2.mono (by omega))
      have r0 : w2.cell? ⟨w.heap.size, 0, none⟩ = some (.int .i64 (0)) := Blk.cell b12 0
      have r1 : w2.cell? ⟨w.heap.size, 1, none⟩ = some (.int .i64 (0)) := Blk.cell b12 1
      have rf0 : w2.frozen? ⟨w.heap.size, 0, none⟩ = false := Blk.frozen b12 0
      have rf1 : w2.frozen? ⟨w.heap.size, 1, none⟩ = false := Blk.frozen b12 1
      go_wp2
      exact bodyPost_ret (v := .tuple #[.agg #[.int .i64 y1, .int .i64 y2], .bool b]) (by simp [results, Tryd.results28, go_sem, r0, r1]) rfl ⟨rfl, (h12.setCell (by simp) _).setCell (by simp) _⟩
end Go.Proofs.YtadljglcbieifaaDoor
