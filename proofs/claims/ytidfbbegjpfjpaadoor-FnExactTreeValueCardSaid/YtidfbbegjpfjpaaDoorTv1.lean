/- Values of trees by the reference: contracts. Conditions: none. -/
import Derived.Test.YtidfbbegjpfjpaaDoorTv0
import Derived.Test.YtidfbbegjpfjpaaDoorTree
import Derived.Deep.QuietTactic
import Derived.BigQuiet
namespace Go.Proofs.YtidfbbegjpfjpaaDoor
open Go.RowKit
set_option linter.unusedVariables false

theorem FitK.low2 {X k : Int} (h : FitK X k) (hk : k ≤ 24) : ((nf X).2 : Int) ≤ k := by
  obtain ⟨p, q, h1, ⟨t, ht⟩, h2, h3⟩ := h
  have e : nf X = nrm p t := by rw [ht]; exact nf_sc t p (by omega)
  rw [e]
  have := (nrm_le p t).1
  omega
theorem fitN (m : Nat) : FitK (m * 16777216) m := ⟨0, m, by omega, ⟨m, rfl⟩, by omega, by omega⟩

theorem add_fit {X Y k m : Int} (hx : FitK X k) (hy : FitK Y m) (hkm : k + m ≤ 24) {a : Int} {b : Nat} (ha : nf X = (a, b)) {c : Int} {d : Nat} (hc : nf Y = (c, d)) {e : Int} {f : Nat} (he : nf (X + Y) = (e, f)) (w : World) :
    Calls Tryd.prog 129 #[.agg #[.int .i64 a, .int .i64 b], .agg #[.int .i64 c, .int .i64 d]] w fun r w' => r = .returned (.agg #[.int .i64 e, .int .i64 f]) ∧ Below w.heap.size w w' := by
  have hkx := hx.pos
  have hky := hy.pos
  have e1 := sc_nf X
  have e2 := sc_nf Y
  have l1 := nf_le X
  have l2 := nf_le Y
  rw [ha] at e1 l1
  rw [hc] at e2 l2
  have h := l2Add_any a c b d w l1 l2 (by rw [e1]; exact hx.fits (by omega)) (by rw [e2]; exact hy.fits (by omega)) (by rw [e1, e2]; exact (hx.add hy hkm).fits (by omega))
  rw [e1, e2, he] at h
  exact h

set_option maxHeartbeats 1600000 in
theorem l22On_any (X k : Int) (h : FitK X k) (hk : k ≤ 7) (w : World) :
    Calls Tryd.prog 161 #[dyP (nf X)] w fun e w' => e = .returned (dyP (nf (on X))) ∧ Below w.heap.size w w' := by
  have hn := h.nOn_le
  have hn1 := nOn_pos X
  have hk0 := h.pos
  obtain ⟨a, b, hab⟩ : ∃ a b, nf X = (a, b) := ⟨_, _, rfl⟩
  obtain ⟨r1, r2, hr⟩ : ∃ r1 r2, nf (on X) = (r1, r2) := ⟨_, _, rfl⟩
  obtain ⟨N, hN⟩ : ∃ N, N = nOn X := ⟨_, rfl⟩
  have HY : Hid (∀ m : Nat, m ≤ 9 → ∃ c d, nf (X + m * 16777216) = (c, d) ∧ d ≤ 16 ∧ (∀ W, Calls Tryd.prog 129 #[.agg #[.int .i64 a, .int .i64 b], .agg #[.int .i64 m, .int .i64 0]] W fun r w' => r = .returned (.agg #[.int .i64 c, .int .i64 d]) ∧ Below W.heap.size W w') ∧
      (∀ W, Calls Tryd.prog 87 #[.agg #[.int .i64 1, .int .i64 0], .agg #[.int .i64 c, .int .i64 d]] W fun r w' => r = .returned (.bool (decide ((16777216 : Int) < X + m * 16777216))) ∧ Below W.heap.size W w') ∧
      (m = N → d + m - 1 ≤ 24 ∧ ∀ W, Calls Tryd.prog 131 #[.int .i64 c, .int .i64 (d + m - 1 : Nat)] W fun r w' => r = .returned (.agg #[.int .i64 r1, .int .i64 r2]) ∧ Below W.heap.size W w')) := by
    intro m hm
    have hf := h.add (fitN m) (by omega)
    have hl := hf.low2 (by omega)
    obtain ⟨c, d, hcd⟩ : ∃ c d, nf (X + m * 16777216) = (c, d) := ⟨_, _, rfl⟩
    rw [hcd] at hl
    have hlow : d ≤ 16 := by have : (d : Int) ≤ k + m := hl; omega
    have hsc : sc c d = X + m * 16777216 := by have := sc_nf (X + m * 16777216); rwa [hcd] at this
    have hm0 : nf ((m : Int) * 16777216) = ((m : Int), 0) := by
      have := nf_sc (m : Int) 0 (by omega)
      unfold sc at this
      exact this
    refine ⟨c, d, hcd, hlow, fun W => add_fit h (fitN m) (by omega) hab hm0 hcd W, fun W => ?_, fun hmN => ?_⟩
    · have := l2Less_any 1 c 0 d W (by omega) (by omega) (sc_fits _ _ (by decide) (by decide)) (by rw [hsc]; exact hf.fits (by omega))
      rw [hsc] at this
      exact this
    · have hmn : m = nOn X := hmN.trans hN
      refine ⟨by omega, fun W => ?_⟩
      have hc1 := hf.fits (by omega)
      have hct : Fits c := by
        have := nrm_abs 24 (X + m * 16777216) 1000000000000000 hc1.1 hc1.2
        have e : nrm 24 (X + m * 16777216) = (c, d) := hcd
        rw [e] at this
        exact this
      have hmk := l2Make_any c (d + m - 1) W (by omega) hct
      have e : nrm (d + m - 1) c = (r1, r2) := by
        rw [← hr, ← nf_sc c (d + m - 1) (by omega)]
        congr 1
        refine eq_cancel (pow_pos2 (m - 1)) ?_
        have hv := on_val h hk
        rw [← hmn] at hv
        rw [hv, ← hsc]
        unfold sc
        rw [Int.mul_assoc, ← Int.pow_add]
        congr 2
        omega
      rw [e] at hmk
      exact hmk
  have HIF : Hid (∀ m : Nat, 1 ≤ m → ((16777216 : Int) < X + m * 16777216 ↔ N ≤ m)) := fun m hm => by rw [hN]; exact nOn_iff X m hm
  rw [hab, hr]
  rw [← hN] at hn hn1
  clear hab hr hN h
  show Calls _ _ #[.agg #[.int .i64 a, .int .i64 b]] _ _
  go_enter Tryd.func161, Tryd.ntmps161
  go_wp2_with fail
  have hB := box2 w 44 44 #[.int .i64 a, .int .i64 b] #[.int .i64 0, .int .i64 0]
  generalize (w.alloc (.cells #[.int .i64 a, .int .i64 b] 44)).alloc (.cells #[.int .i64 0, .int .i64 0] 44) = W at *
  obtain ⟨b1, b2, hbW, hzW⟩ := hB
  go_loopw [3] (fun i wr => ∃ m : Nat, i = .int .i64 m ∧ 1 ≤ m ∧ m ≤ N ∧ Below w.heap.size w wr ∧ Blk wr w.heap.size 44 #[.int .i64 a, .int .i64 b] ∧ Blk wr (w.heap.size + 1) 44 #[.int .i64 0, .int .i64 0]) (fun i _ => N - (intOf i).toNat)
  case atStart => exact ⟨1, rfl, by omega, by omega, hbW, b1, b2⟩
  case round =>
    clear b1 b2 hbW hzW
    obtain ⟨m, rfl, hm1, hmN, hb, b1, b2⟩ := hrel
    obtain ⟨c, d, -, hd, hA, hL, hM⟩ := HY.out m (by omega)
    have HA := Lib.hid hA; have HL := Lib.hid hL; have HM := Lib.hid hM; clear hA hL hM
    have q0 : wr.cell? ⟨w.heap.size, 0, none⟩ = some (.int .i64 a) := b1.cell 0
    have q1 : wr.cell? ⟨w.heap.size, 1, none⟩ = some (.int .i64 b) := b1.cell 1
    go_wp2_with fail
    ((with_reducible refine (HA.out _).mono ?_); rintro e w1 ⟨rfl, hb1⟩)
    have c1 := b1.below hb1 b1.lt
    have c2 := b2.below hb1 b2.lt
    have g1 := gtr hb hb1
    clear b1 b2 q0 q1
    go_wp2_with fail
    ((with_reducible refine (HL.out _).mono ?_); rintro e w2 ⟨rfl, hb2⟩)
    have d1 := c1.below hb2 c1.lt
    have d2 := c2.below hb2 c2.lt
    have g2 := gtr g1 hb2
    have q0 : w2.cell? ⟨w.heap.size, 0, none⟩ = some (.int .i64 a) := d1.cell 0
    have q1 : w2.cell? ⟨w.heap.size, 1, none⟩ = some (.int .i64 b) := d1.cell 1
    clear c1 c2
    by_cases hlt : m < N
    · have hdec : decide ((16777216 : Int) < X + m * 16777216) = false := decide_eq_false fun hh => by have := (HIF.out m hm1).1 hh; omega
      rw [hdec]
      go_wp2
      go_roundw
      case rel => exact ⟨m + 1, by go_num, by omega, by omega, g2, d1, d2⟩
      case measure => simp [intOf]; omega
    · obtain rfl : m = N := by omega
      have hdec : decide ((16777216 : Int) < X + m * 16777216) = true := decide_eq_true ((HIF.out m hm1).2 (Nat.le_refl _))
      rw [hdec]
      have hMM := HM.out rfl
      have hdm := hMM.1
      have HMK := Lib.hid hMM.2
      have hw1 : IntKind.i64.wrap ((d : Int) + (m : Int)) = (d : Int) + m := by rw [IntKind.wrap_i64]; omega
      have hw2 : IntKind.i64.wrap ((d : Int) + (m : Int) - 1) = ((d + m - 1 : Nat) : Int) := by rw [IntKind.wrap_i64]; omega
      clear hMM
      go_wp2_with fail
      ((with_reducible refine (HA.out _).mono ?_); rintro e w3 ⟨rfl, hb3⟩)
      have f2 := d2.below hb3 d2.lt
      have g3 := gtr g2 hb3
      have hz3 := hb3.size
      have hd2 := f2.lt
      clear d1 d2 q0 q1
      go_wp2_with fail
      have f3 := f2.alloc (.cells #[.int .i64 c, .int .i64 d] 44)
      have g4 := gtr g3 (bel1 w3 (.cells #[.int .i64 c, .int .i64 d] 44))
      generalize w3.alloc (.cells #[.int .i64 c, .int .i64 d] 44) = V at *
      ((with_reducible refine (HMK.out _).mono ?_); rintro e w5 ⟨rfl, hb5⟩)
      have f5 := f3.below hb5 f3.lt
      have x0 : w5.cell? ⟨w.heap.size + 1, 0, none⟩ = some (.int .i64 0) := f5.cell 0
      have x1 : w5.cell? ⟨w.heap.size + 1, 1, none⟩ = some (.int .i64 0) := f5.cell 1
      have z0 := f5.frozen 0
      have z1 := f5.frozen 1
      go_wp2
      exact bodyPost_ret (v := .agg #[.int .i64 r1, .int .i64 r2]) (by simp [results, Tryd.results161, go_sem, x0, x1]) rfl ⟨rfl, ((gtr g4 hb5).setCell (by dsimp only; omega) _).setCell (by dsimp only; omega) _⟩

def isL (s : ByteArray) (i : Nat) : Bool := s.data.toList.getD i 0 == 76
theorem isL_at {s : ByteArray} (h : allIn [76, 82] s = true) {i : Nat} (hi : i < s.size) : ((((s[i]).toNat : Int)) == 82) = !isL s i := by
  have h1 := allIn_true.1 h i hi
  have h2 : isL s i = (s[i] == 76) := by
    unfold isL
    rw [List.getD_eq_getElem?_getD, List.getElem?_eq_getElem (by simpa using hi)]
    rfl
  rw [h2]
  simp at h1
  rcases h1 with e | e <;> rw [e] <;> rfl
theorem nf_neg {X : Int} {a : Int} {b : Nat} (h : nf X = (a, b)) : nf (-X) = (-a, b) := by
  have := nrm_neg 24 X
  unfold nf at h ⊢
  rw [this, h]
theorem dyP_eq {x : Int × Nat} {a : Int} {b : Nat} (h : x = (a, b)) : dyP x = .agg #[.int .i64 a, .int .i64 b] := by rw [h]; rfl

set_option maxRecDepth 100000 in
set_option maxHeartbeats 1600000 in
theorem edge_step (A : Option Addr) (c n : Nat) (s : ByteArray) (i : Nat) (X k : Int) (w : World) (hX : FitK X k) (hk : k ≤ 7) (hs : allIn [76, 82] s = true) (hi : i < s.size) (hs8 : s.size ≤ 8)
    (hA : ∀ W, Below w.heap.size w W → Calls Tryd.prog 90 #[.agg #[.slice A n c, .string s], .int .i64 i] W fun e w' => e = .returned (.tuple #[dyP (nf X), .bool true]) ∧ Below W.heap.size W w') :
    Calls Tryd.prog 133 #[.agg #[.slice A n c, .string s], .int .i64 i] w fun e w' => e = .returned (.tuple #[dyP (nf (edV (isL s i) X)), .bool true]) ∧ Below w.heap.size w w' := by
  have hk0 := hX.pos
  obtain ⟨x1, x2, hx⟩ : ∃ a b, nf X = (a, b) := ⟨_, _, rfl⟩
  obtain ⟨y1, y2, hy⟩ : ∃ a b, nf (edV (isL s i) X) = (a, b) := ⟨_, _, rfl⟩
  have hlow := hX.low (by omega)
  rw [hx] at hlow
  have hb1 : -1000000000000000 ≤ x1 := by have : -2048 ≤ x1 := hlow.2.1; omega
  have hb2 : x1 ≤ 1000000000000000 := by have : x1 ≤ 2048 := hlow.2.2.1; omega
  have hlY := (edV_fit (b := isL s i) hX hk).low (by omega)
  rw [hy] at hlY
  have hb3 : -2048 ≤ y1 := hlY.2.1
  have hb4 : y1 ≤ 2048 := hlY.2.2.1
  have HG : Hid (∀ W, Calls Tryd.prog 80 #[.agg #[.int .i64 y1, .int .i64 y2]] W fun e w' => e = .returned (.bool true) ∧ Below W.heap.size W w') := fun W => by
    have h := goodDyS_any y1 y2 W
    have hg := (edV_fit (b := isL s i) hX hk).good (by omega)
    rw [hy] at hg
    rw [show goodDyB y1 y2 = true from hg] at h
    exact h
  have HA : Hid (∀ W, Below w.heap.size w W → Calls Tryd.prog 90 #[.agg #[.slice A n c, .string s], .int .i64 i] W fun e w' => e = .returned (.tuple #[.agg #[.int .i64 x1, .int .i64 x2], .bool true]) ∧ Below W.heap.size W w') := fun W hW => by
    have h := hA W hW
    rw [dyP_eq hx] at h
    exact h
  rw [dyP_eq hy]
  have hat := isL_at hs hi
  clear hA hlow hlY
  cases hl : isL s i
  · rw [hl] at hat hy
    have hy' : nf (-on (-X)) = (y1, y2) := hy
    have hz := nf_neg hy'
    rw [Int.neg_neg] at hz
    have HON : Hid (∀ W, Calls Tryd.prog 161 #[.agg #[.int .i64 (-x1), .int .i64 x2]] W fun e w' => e = .returned (.agg #[.int .i64 (-y1), .int .i64 y2]) ∧ Below W.heap.size W w') := fun W => by
      have h := l22On_any (-X) k hX.neg hk W
      rw [dyP_eq (nf_neg hx), dyP_eq hz] at h
      exact h
    have HN1 := Lib.hid (fun W => l2Neg_any x1 x2 W hb1 hb2)
    have HN2 : Hid (∀ W, Calls Tryd.prog 128 #[.agg #[.int .i64 (-y1), .int .i64 y2]] W fun e w' => e = .returned (.agg #[.int .i64 y1, .int .i64 y2]) ∧ Below W.heap.size W w') := fun W => by
      have h := l2Neg_any (-y1) y2 W (by omega) (by omega)
      rw [Int.neg_neg] at h
      exact h
    clear hy hy' hz hx hX hl
    go_enter Tryd.func133, Tryd.ntmps133
    go_wp2_with fail
    obtain ⟨W, hW⟩ : ∃ W, W = (w.alloc (.cells #[.slice A n c, .string s] 29)).alloc (.cells #[.int .i64 0, .int .i64 0] 44) := ⟨_, rfl⟩
    have e0 : Blk W w.heap.size 29 #[.slice A n c, .string s] := by rw [hW]; exact (Blk.new w _ _).alloc _
    have e1 : Blk W (w.heap.size + 1) 44 #[.int .i64 0, .int .i64 0] := by rw [hW]; exact Blk.new_at (w.alloc _) _ _ (by simp)
    have hAW : Below w.heap.size w W := by rw [hW]; exact bel2 _ _ _
    rw [← hW]
    clear hW
    ((with_reducible refine (HA.out _ hAW).mono ?_); rintro e w1 ⟨rfl, hb1'⟩)
    have f0 := e0.below hb1' e0.lt
    have f1 := e1.below hb1' e1.lt
    have g1 := gtr hAW hb1'
    clear e0 e1 hAW hb1' HA
    have k0 := f0.alloc (.cells #[.int .i64 x1, .int .i64 x2] 44)
    have k1 := f1.alloc (.cells #[.int .i64 x1, .int .i64 x2] 44)
    have k2 := Blk.new w1 44 #[.int .i64 x1, .int .i64 x2]
    have g2 := gtr g1 (bel1 w1 (.cells #[.int .i64 x1, .int .i64 x2] 44))
    have hl1 := f1.lt
    have hR0 : ∀ o', (w1.alloc o').cell? ⟨w.heap.size, 1, none⟩ = some (.string s) := fun o' => (f0.alloc o').cell 1
    clear f0 f1 g1
    go_wp2_with fail
    generalize w1.alloc (.cells #[.int .i64 x1, .int .i64 x2] 44) = V at *
    ((with_reducible refine (HN1.out _).mono ?_); rintro e w2 ⟨rfl, hb2⟩)
    have l1 := k1.below hb2 k1.lt
    have l2 := k2.below hb2 k2.lt
    have g3 := gtr g2 hb2
    clear k1 k2
    go_wp2_with fail
    ((with_reducible refine (HON.out _).mono ?_); rintro e w3 ⟨rfl, hb3⟩)
    have m1 := l1.below hb3 l1.lt
    have m2 := l2.below hb3 l2.lt
    have g4 := gtr g3 hb3
    clear l1 l2
    go_wp2_with fail
    ((with_reducible refine (HN2.out _).mono ?_); rintro e w4 ⟨rfl, hb4⟩)
    have n1 := m1.below hb4 m1.lt
    have n2 := m2.below hb4 m2.lt
    have g5 := gtr g4 hb4
    clear m1 m2
    have q0 : w4.cell? ⟨w1.heap.size, 0, none⟩ = some (.int .i64 x1) := n2.cell 0
    have q1 : w4.cell? ⟨w1.heap.size, 1, none⟩ = some (.int .i64 x2) := n2.cell 1
    have z0 := n2.frozen 0
    have z1 := n2.frozen 1
    go_wp2_with fail
    have m2 : Blk ((w4.setCell ⟨w1.heap.size, 0, none⟩ (.int .i64 y1)).setCell ⟨w1.heap.size, 1, none⟩ (.int .i64 y2)) w1.heap.size 44 #[.int .i64 y1, .int .i64 y2] := (n2.set 0 _).set 1 _
    have m1 : Blk ((w4.setCell ⟨w1.heap.size, 0, none⟩ (.int .i64 y1)).setCell ⟨w1.heap.size, 1, none⟩ (.int .i64 y2)) (w.heap.size + 1) 44 #[.int .i64 0, .int .i64 0] := (n1.far (by dsimp only; omega) _).far (by dsimp only; omega) _
    have g6 : Below w.heap.size w ((w4.setCell ⟨w1.heap.size, 0, none⟩ (.int .i64 y1)).setCell ⟨w1.heap.size, 1, none⟩ (.int .i64 y2)) := (g5.setCell (by dsimp only; omega) _).setCell (by dsimp only; omega) _
    clear n1 n2 q0 q1 z0 z1 g5 hat
    generalize (w4.setCell ⟨w1.heap.size, 0, none⟩ (.int .i64 y1)).setCell ⟨w1.heap.size, 1, none⟩ (.int .i64 y2) = Y at *
    have hY := m2.lt
    have HS : Hid (∀ w', Below Y.heap.size Y w' → Blk w' w1.heap.size 44 #[.int .i64 y1, .int .i64 y2] ∧ Blk w' (w.heap.size + 1) 44 #[.int .i64 0, .int .i64 0]) := fun w' hb => ⟨m2.below hb hY, m1.below hb (by omega)⟩
    have q0 : Y.cell? ⟨w1.heap.size, 0, none⟩ = some (.int .i64 y1) := m2.cell 0
    have q1 : Y.cell? ⟨w1.heap.size, 1, none⟩ = some (.int .i64 y2) := m2.cell 1
    clear m1 m2
    have hn1 : ¬ w1.heap.size = w.heap.size + 1 := by omega
    have hn2 : ¬ w.heap.size + 1 = w1.heap.size := by omega
    go_region_held3 (fun w' => w'.cell? ⟨w1.heap.size, 0, none⟩ = some (.int .i64 y1) ∧ w'.cell? ⟨w1.heap.size, 1, none⟩ = some (.int .i64 y2)) (go_keep)
      (first
        | (go_at_call 80; ((with_reducible refine (HG.out _).mono ?_); rintro e w9 ⟨rfl, hb9⟩); have g9 := gtr (gdrew (a := Y)) hb9; have n0 : w9.cell? ⟨w1.heap.size, 0, none⟩ = some (.int .i64 y1) := (HS.out _ g9).1.cell 0; have n1 : w9.cell? ⟨w1.heap.size, 1, none⟩ = some (.int .i64 y2) := (HS.out _ g9).1.cell 1; have r0 : w9.cell? ⟨w.heap.size + 1, 0, none⟩ = some (.int .i64 0) := (HS.out _ g9).2.cell 0; have r1 : w9.cell? ⟨w.heap.size + 1, 1, none⟩ = some (.int .i64 0) := (HS.out _ g9).2.cell 1; have t0 : w9.frozen? ⟨w.heap.size + 1, 0, none⟩ = false := (HS.out _ g9).2.frozen 0; have t1 : w9.frozen? ⟨w.heap.size + 1, 1, none⟩ = false := (HS.out _ g9).2.frozen 1))
    all_goals
      go_wp2
      exact bodyPost_ret (v := .tuple #[.agg #[.int .i64 y1, .int .i64 y2], .bool true]) (by simp [results, Tryd.results133, go_sem, r0, r1]) rfl ⟨rfl, ((gtr g6 g9).setCell (by dsimp only; omega) _).setCell (by dsimp only; omega) _⟩
  · rw [hl] at hat hy
    have hy' : nf (on X) = (y1, y2) := hy
    have HON : Hid (∀ W, Calls Tryd.prog 161 #[.agg #[.int .i64 x1, .int .i64 x2]] W fun e w' => e = .returned (.agg #[.int .i64 y1, .int .i64 y2]) ∧ Below W.heap.size W w') := fun W => by
      have h := l22On_any X k hX hk W
      rw [dyP_eq hx, dyP_eq hy'] at h
      exact h
    clear hy hy' hx hX hl
    go_enter Tryd.func133, Tryd.ntmps133
    go_wp2_with fail
    obtain ⟨W, hW⟩ : ∃ W, W = (w.alloc (.cells #[.slice A n c, .string s] 29)).alloc (.cells #[.int .i64 0, .int .i64 0] 44) := ⟨_, rfl⟩
    have e0 : Blk W w.heap.size 29 #[.slice A n c, .string s] := by rw [hW]; exact (Blk.new w _ _).alloc _
    have e1 : Blk W (w.heap.size + 1) 44 #[.int .i64 0, .int .i64 0] := by rw [hW]; exact Blk.new_at (w.alloc _) _ _ (by simp)
    have hAW : Below w.heap.size w W := by rw [hW]; exact bel2 _ _ _
    rw [← hW]
    clear hW
    ((with_reducible refine (HA.out _ hAW).mono ?_); rintro e w1 ⟨rfl, hb1'⟩)
    have f0 := e0.below hb1' e0.lt
    have f1 := e1.below hb1' e1.lt
    have g1 := gtr hAW hb1'
    clear e0 e1 hAW hb1' HA
    have k0 := f0.alloc (.cells #[.int .i64 x1, .int .i64 x2] 44)
    have k1 := f1.alloc (.cells #[.int .i64 x1, .int .i64 x2] 44)
    have k2 := Blk.new w1 44 #[.int .i64 x1, .int .i64 x2]
    have g2 := gtr g1 (bel1 w1 (.cells #[.int .i64 x1, .int .i64 x2] 44))
    have hl1 := f1.lt
    have hR0 : ∀ o', (w1.alloc o').cell? ⟨w.heap.size, 1, none⟩ = some (.string s) := fun o' => (f0.alloc o').cell 1
    clear f0 f1 g1
    go_wp2_with fail
    generalize w1.alloc (.cells #[.int .i64 x1, .int .i64 x2] 44) = V at *
    ((with_reducible refine (HON.out _).mono ?_); rintro e w2 ⟨rfl, hb5⟩)
    have n1 := k1.below hb5 k1.lt
    have n2 := k2.below hb5 k2.lt
    have g5 := gtr g2 hb5
    clear k1 k2
    have q0 : w2.cell? ⟨w1.heap.size, 0, none⟩ = some (.int .i64 x1) := n2.cell 0
    have q1 : w2.cell? ⟨w1.heap.size, 1, none⟩ = some (.int .i64 x2) := n2.cell 1
    have z0 := n2.frozen 0
    have z1 := n2.frozen 1
    go_wp2_with fail
    have m2 : Blk ((w2.setCell ⟨w1.heap.size, 0, none⟩ (.int .i64 y1)).setCell ⟨w1.heap.size, 1, none⟩ (.int .i64 y2)) w1.heap.size 44 #[.int .i64 y1, .int .i64 y2] := (n2.set 0 _).set 1 _
    have m1 : Blk ((w2.setCell ⟨w1.heap.size, 0, none⟩ (.int .i64 y1)).setCell ⟨w1.heap.size, 1, none⟩ (.int .i64 y2)) (w.heap.size + 1) 44 #[.int .i64 0, .int .i64 0] := (n1.far (by dsimp only; omega) _).far (by dsimp only; omega) _
    have g6 : Below w.heap.size w ((w2.setCell ⟨w1.heap.size, 0, none⟩ (.int .i64 y1)).setCell ⟨w1.heap.size, 1, none⟩ (.int .i64 y2)) := (g5.setCell (by dsimp only; omega) _).setCell (by dsimp only; omega) _
    clear n1 n2 q0 q1 z0 z1 g5 hat
    generalize (w2.setCell ⟨w1.heap.size, 0, none⟩ (.int .i64 y1)).setCell ⟨w1.heap.size, 1, none⟩ (.int .i64 y2) = Y at *
    have hY := m2.lt
    have HS : Hid (∀ w', Below Y.heap.size Y w' → Blk w' w1.heap.size 44 #[.int .i64 y1, .int .i64 y2] ∧ Blk w' (w.heap.size + 1) 44 #[.int .i64 0, .int .i64 0]) := fun w' hb => ⟨m2.below hb hY, m1.below hb (by omega)⟩
    have q0 : Y.cell? ⟨w1.heap.size, 0, none⟩ = some (.int .i64 y1) := m2.cell 0
    have q1 : Y.cell? ⟨w1.heap.size, 1, none⟩ = some (.int .i64 y2) := m2.cell 1
    clear m1 m2
    have hn1 : ¬ w1.heap.size = w.heap.size + 1 := by omega
    have hn2 : ¬ w.heap.size + 1 = w1.heap.size := by omega
    go_region_held3 (fun w' => w'.cell? ⟨w1.heap.size, 0, none⟩ = some (.int .i64 y1) ∧ w'.cell? ⟨w1.heap.size, 1, none⟩ = some (.int .i64 y2)) (go_keep)
      (first
        | (go_at_call 80; ((with_reducible refine (HG.out _).mono ?_); rintro e w9 ⟨rfl, hb9⟩); have g9 := gtr (gdrew (a := Y)) hb9; have n0 : w9.cell? ⟨w1.heap.size, 0, none⟩ = some (.int .i64 y1) := (HS.out _ g9).1.cell 0; have n1 : w9.cell? ⟨w1.heap.size, 1, none⟩ = some (.int .i64 y2) := (HS.out _ g9).1.cell 1; have r0 : w9.cell? ⟨w.heap.size + 1, 0, none⟩ = some (.int .i64 0) := (HS.out _ g9).2.cell 0; have r1 : w9.cell? ⟨w.heap.size + 1, 1, none⟩ = some (.int .i64 0) := (HS.out _ g9).2.cell 1; have t0 : w9.frozen? ⟨w.heap.size + 1, 0, none⟩ = false := (HS.out _ g9).2.frozen 0; have t1 : w9.frozen? ⟨w.heap.size + 1, 1, none⟩ = false := (HS.out _ g9).2.frozen 1))
    all_goals
      go_wp2
      exact bodyPost_ret (v := .tuple #[.agg #[.int .i64 y1, .int .i64 y2], .bool true]) (by simp [results, Tryd.results133, go_sem, r0, r1]) rfl ⟨rfl, ((gtr g6 g9).setCell (by dsimp only; omega) _).setCell (by dsimp only; omega) _⟩

theorem gi_up {xs : List Int} (h : upsOk xs) : ∀ i, i < xs.length → -1 ≤ gi xs i ∧ gi xs i < i := h

set_option maxRecDepth 100000 in
set_option maxHeartbeats 1600000 in
theorem above_any (A : Option Addr) (c : Nat) (xs : List Int) (s : ByteArray) (hu : upsOk xs) (hs : allIn [76, 82] s = true) (hn : xs.length = s.size) (h8 : s.size ≤ 8) (B : Nat) (d : Nat) :
    ∀ (E : Nat), E ≤ xs.length → xs.length < E + d → ∀ w : World, B ≤ w.heap.size → RdI w B A c xs →
    Calls Tryd.prog 90 #[.agg #[.slice A xs.length c, .string s], .int .i64 ((E : Int) - 1)] w fun e w' => e = .returned (.tuple #[dyP (nf (av (gi xs) (isL s) xs.length E)), .bool true]) ∧ Below w.heap.size w w' := by
  induction d with
  | zero => intro E h1 h2; omega
  | succ d ih =>
    intro E hE hEd w hB hr
    have HU := Lib.hid (gi_up hu)
    have hl1 := hr.len
    have hl2 := hr.max
    have h8x : xs.length ≤ 8 := by omega
    have HIH : Hid (∀ i, i < xs.length → E ≤ i → ∀ W, Below w.heap.size w W → Calls Tryd.prog 133 #[.agg #[.slice A xs.length c, .string s], .int .i64 i] W fun e w' => e = .returned (.tuple #[dyP (nf (ev (gi xs) (isL s) xs.length i)), .bool true]) ∧ Below W.heap.size W w') := by
      intro i hi hEi W hW
      have hf := tv_fit (gi xs) (isL s) xs.length h8x hu (xs.length - 1 - i) (i + 1) (by omega) (by omega)
      have hc := tc_le (gi xs) xs.length hu (xs.length - 1 - i) (i + 1) (by omega) (by omega)
      refine edge_step A c xs.length s i (tv (gi xs) (isL s) xs.length (xs.length - 1 - i) (i + 1)) _ W hf (by omega) hs (by omega) h8 fun V hV => ?_
      have hh := ih (i + 1) (by omega) (by omega) V (by have := hW.size; have := hV.size; omega) ((hr.below hW hB).below hV (by have := hW.size; omega))
      unfold av at hh
      rw [show xs.length - (i + 1) = xs.length - 1 - i by omega, show ((i + 1 : Nat) : Int) - 1 = (i : Int) by omega] at hh
      exact hh
    have HF : Hid (∀ k, k ≤ xs.length → FitK (Ss (gi xs) (ev (gi xs) (isL s) xs.length) k E) 8) := fun k hk => ss_fit (gi xs) (isL s) xs.length h8x hu E hE k hk
    have HFE : Hid (∀ k, k < xs.length → FitK (ev (gi xs) (isL s) xs.length k) 8) := fun k hk => by
      have := ec_fit (gi xs) (isL s) xs.length h8x hu k hk
      exact this.1.mono this.2
    have HEND : Hid (Ss (gi xs) (ev (gi xs) (isL s) xs.length) xs.length E = av (gi xs) (isL s) xs.length E) := ss_av _ _ _ hu E hE
    have HSS : Hid (∀ k, Ss (gi xs) (ev (gi xs) (isL s) xs.length) (k + 1) E = Ss (gi xs) (ev (gi xs) (isL s) xs.length) k E + if gi xs k + 1 = E then ev (gi xs) (isL s) xs.length k else 0) := fun k => rfl
    have HZ : Hid (nf (Ss (gi xs) (ev (gi xs) (isL s) xs.length) 0 E) = (0, 0)) := by show nf 0 = _; decide
    generalize ev (gi xs) (isL s) xs.length = v at *
    obtain ⟨AV, hAV⟩ : ∃ AV, AV = av (gi xs) (isL s) xs.length E := ⟨_, rfl⟩
    rw [← hAV] at HEND ⊢
    have HN := Lib.hid hn
    clear ih hu hAV hn
    go_enter Tryd.func90, Tryd.ntmps90
    go_wp2_with fail
    obtain ⟨W, hW⟩ : ∃ W, W = ((w.alloc (.cells #[.slice A xs.length c, .string s] 29)).alloc (.cells #[.int .i64 0, .int .i64 0] 44)).alloc (.cells #[.int .i64 0, .int .i64 0] 44) := ⟨_, rfl⟩
    have e0 : Blk W w.heap.size 29 #[.slice A xs.length c, .string s] := by rw [hW]; exact ((Blk.new w _ _).alloc _).alloc _
    have e1 : Blk W (w.heap.size + 1) 44 #[.int .i64 0, .int .i64 0] := by rw [hW]; exact (Blk.new_at (w.alloc _) _ _ (by simp)).alloc _
    have e2 : Blk W (w.heap.size + 1 + 1) 44 #[.int .i64 0, .int .i64 0] := by rw [hW]; exact Blk.new_at _ _ _ (by simp)
    have hAW : Below w.heap.size w W := by rw [hW]; exact bel3 _ _ _ _
    first | rw [← hW] | (show _; rw [← hW])
    clear hW
    go_loopw [7] (fun i wr => ∃ (k x2 : Nat) (x1 : Int), i = .int .i64 k ∧ k ≤ xs.length ∧ nf (Ss (gi xs) v k E) = (x1, x2) ∧ Below w.heap.size w wr ∧ Blk wr w.heap.size 29 #[.slice A xs.length c, .string s] ∧ Blk wr (w.heap.size + 1) 44 #[.int .i64 0, .int .i64 0] ∧ Blk wr (w.heap.size + 1 + 1) 44 #[.int .i64 x1, .int .i64 x2]) (fun i _ => xs.length - (intOf i).toNat)
    case atStart => exact ⟨0, 0, 0, rfl, by omega, HZ.out, hAW, e0, e1, e2⟩
    case round =>
      clear e0 e1 e2 hAW
      obtain ⟨k, x2, x1, rfl, hk, hx, hb, e0, e1, e2⟩ := hrel
      have HX := Lib.hid hx; clear hx
      have q0 : wr.cell? ⟨w.heap.size, 0, none⟩ = some (.slice A xs.length c) := e0.cell 0
      have q1 : wr.cell? ⟨w.heap.size, 1, none⟩ = some (.string s) := e0.cell 1
      have hl := e2.lt
      by_cases hlt : k < xs.length
      · obtain ⟨bb, o, rfl, hbB, hc⟩ := (hr.below hb hB).at (j := k) hlt
        have hc1 := hc k hlt
        have hkI : (k : Int) < (xs.length : Int) := by omega
        clear hc
        by_cases hup : gi xs k + 1 = E
        · have htest : (gi xs k != (E : Int) - 1) = false := by simp; omega
          have hEk : E ≤ k := by have := (HU.out k hlt).2; omega
          obtain ⟨y1, y2, hy⟩ : ∃ a b, nf (v k) = (a, b) := ⟨_, _, rfl⟩
          obtain ⟨z1, z2, hz⟩ : ∃ a b, nf (Ss (gi xs) v (k + 1) E) = (a, b) := ⟨_, _, rfl⟩
          have HZ2 := Lib.hid hz
          have HED : Hid (∀ W, Below w.heap.size w W → Calls Tryd.prog 133 #[.agg #[.slice (some ⟨bb, o, none⟩) xs.length c, .string s], .int .i64 k] W fun e w' => e = .returned (.tuple #[.agg #[.int .i64 y1, .int .i64 y2], .bool true]) ∧ Below W.heap.size W w') := fun W hW => by
            have h := HIH.out k hlt hEk W hW
            rw [dyP_eq hy] at h
            exact h
          have hs1 := HSS.out k
          rw [if_pos hup] at hs1
          have HAD : Hid (∀ W, Calls Tryd.prog 129 #[.agg #[.int .i64 x1, .int .i64 x2], .agg #[.int .i64 y1, .int .i64 y2]] W fun e w' => e = .returned (.agg #[.int .i64 z1, .int .i64 z2]) ∧ Below W.heap.size W w') := fun W => by
            rw [hs1] at hz
            exact add_fit (HF.out k (by omega)) (HFE.out k hlt) (by decide) HX.out hy hz W
          have HGD : Hid (∀ W, Calls Tryd.prog 80 #[.agg #[.int .i64 z1, .int .i64 z2]] W fun e w' => e = .returned (.bool true) ∧ Below W.heap.size W w') := fun W => by
            have h := goodDyS_any z1 z2 W
            have hg := (HF.out (k + 1) (by omega)).good (by decide)
            rw [hz] at hg
            rw [show goodDyB z1 z2 = true from hg] at h
            exact h
          clear hs1 hz hy hup
          go_wp2_with fail
          ((with_reducible refine (HED.out _ hb).mono ?_); rintro e w1 ⟨rfl, hb1⟩)
          have g1 := gtr hb hb1
          have k0 := (e0.below hb1 e0.lt).alloc (.cells #[.int .i64 y1, .int .i64 y2] 44)
          have k1 := (e1.below hb1 e1.lt).alloc (.cells #[.int .i64 y1, .int .i64 y2] 44)
          have k2 := (e2.below hb1 e2.lt).alloc (.cells #[.int .i64 y1, .int .i64 y2] 44)
          have k3 := Blk.new w1 44 #[.int .i64 y1, .int .i64 y2]
          have g2 := gtr g1 (bel1 w1 (.cells #[.int .i64 y1, .int .i64 y2] 44))
          have hz1 := hb1.size
          have hR0 : ∀ o', (w1.alloc o').cell? ⟨w.heap.size + 1 + 1, 0, none⟩ = some (.int .i64 x1) := fun o' => ((e2.below hb1 e2.lt).alloc o').cell 0
          have hR1 : ∀ o', (w1.alloc o').cell? ⟨w.heap.size + 1 + 1, 1, none⟩ = some (.int .i64 x2) := fun o' => ((e2.below hb1 e2.lt).alloc o').cell 1
          clear e0 e1 e2 q0 q1
          go_wp2_with fail
          clear hR0 hR1
          generalize w1.alloc (.cells #[.int .i64 y1, .int .i64 y2] 44) = V at *
          ((with_reducible refine (HAD.out _).mono ?_); rintro e w3 ⟨rfl, hb3⟩)
          have l0 := k0.below hb3 k0.lt
          have l1 := k1.below hb3 k1.lt
          have l2 := k2.below hb3 k2.lt
          have g3 := gtr g2 hb3
          clear k0 k1 k2 k3 hb3
          have q0 : w3.cell? ⟨w.heap.size + 1 + 1, 0, none⟩ = some (.int .i64 x1) := l2.cell 0
          have q1 : w3.cell? ⟨w.heap.size + 1 + 1, 1, none⟩ = some (.int .i64 x2) := l2.cell 1
          have zz0 := l2.frozen 0
          have zz1 := l2.frozen 1
          go_wp2_with fail
          have m2 : Blk ((w3.setCell ⟨w.heap.size + 1 + 1, 0, none⟩ (.int .i64 z1)).setCell ⟨w.heap.size + 1 + 1, 1, none⟩ (.int .i64 z2)) (w.heap.size + 1 + 1) 44 #[.int .i64 z1, .int .i64 z2] := (l2.set 0 _).set 1 _
          have m1 : Blk ((w3.setCell ⟨w.heap.size + 1 + 1, 0, none⟩ (.int .i64 z1)).setCell ⟨w.heap.size + 1 + 1, 1, none⟩ (.int .i64 z2)) (w.heap.size + 1) 44 #[.int .i64 0, .int .i64 0] := (l1.far (by dsimp only; omega) _).far (by dsimp only; omega) _
          have m0 : Blk ((w3.setCell ⟨w.heap.size + 1 + 1, 0, none⟩ (.int .i64 z1)).setCell ⟨w.heap.size + 1 + 1, 1, none⟩ (.int .i64 z2)) w.heap.size 29 #[.slice (some ⟨bb, o, none⟩) xs.length c, .string s] := (l0.far (by dsimp only; omega) _).far (by dsimp only; omega) _
          have g4 : Below w.heap.size w ((w3.setCell ⟨w.heap.size + 1 + 1, 0, none⟩ (.int .i64 z1)).setCell ⟨w.heap.size + 1 + 1, 1, none⟩ (.int .i64 z2)) := (g3.setCell (by dsimp only; omega) _).setCell (by dsimp only; omega) _
          clear l0 l1 l2 q0 q1 zz0 zz1 g3
          generalize (w3.setCell ⟨w.heap.size + 1 + 1, 0, none⟩ (.int .i64 z1)).setCell ⟨w.heap.size + 1 + 1, 1, none⟩ (.int .i64 z2) = Y at *
          ((with_reducible refine (HGD.out _).mono ?_); rintro e w5 ⟨rfl, hb5⟩)
          have n0 := m0.below hb5 m0.lt
          have n1 := m1.below hb5 m1.lt
          have n2 := m2.below hb5 m2.lt
          have g5 := gtr g4 hb5
          clear m0 m1 m2 g4 hb5
          go_wp2
          go_roundw
          case rel => exact ⟨k + 1, z2, z1, by go_num, by omega, HZ2.out, g5, n0, n1, n2⟩
          case measure => simp [intOf]; omega
        · have htest : (gi xs k != (E : Int) - 1) = true := by simp; omega
          have HSK : Hid (nf (Ss (gi xs) v (k + 1) E) = (x1, x2)) := by
            show _ = _
            rw [HSS.out k, if_neg hup, Int.add_zero]; exact HX.out
          clear hup
          go_wp2
          go_roundw
          case rel => exact ⟨k + 1, x2, x1, by go_num, by omega, HSK.out, hb, e0, e1, e2⟩
          case measure => simp [intOf]; omega
      · obtain rfl : k = xs.length := by omega
        have HR : Hid (dyP (nf AV) = .agg #[.int .i64 x1, .int .i64 x2]) := by show _ = _; rw [← HEND.out]; exact dyP_eq HX.out
        have p0 : wr.cell? ⟨w.heap.size + 1 + 1, 0, none⟩ = some (.int .i64 x1) := e2.cell 0
        have p1 : wr.cell? ⟨w.heap.size + 1 + 1, 1, none⟩ = some (.int .i64 x2) := e2.cell 1
        have r0 : wr.cell? ⟨w.heap.size + 1, 0, none⟩ = some (.int .i64 0) := e1.cell 0
        have r1 : wr.cell? ⟨w.heap.size + 1, 1, none⟩ = some (.int .i64 0) := e1.cell 1
        have t0 := e1.frozen 0
        have t1 := e1.frozen 1
        clear e0 e1 e2
        go_wp2
        exact bodyPost_ret (v := .tuple #[.agg #[.int .i64 x1, .int .i64 x2], .bool true]) (by simp [results, Tryd.results90, go_sem, r0, r1]) rfl ⟨by rw [HR.out], (hb.setCell (by dsimp only; omega) _).setCell (by dsimp only; omega) _⟩
end Go.Proofs.YtidfbbegjpfjpaaDoor
