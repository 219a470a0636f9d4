/- The slope between two points of a wall. Conditions: none. -/
import Derived.Test.YtidfbbegjpfjpaaWal0
namespace Go.Proofs.Ytidfbbegjpfjpaa
open Go.RowKit
set_option linter.unusedVariables false

/-- How a wall goes: rise V over run R. -/
def slp (R V : Int) : Int := if V = 0 then 0 else if V = R then 1 else if V = -R then -1 else 2
theorem sc_neg (t : Int) (p : Nat) : sc (-t) p = -sc t p := by unfold sc; rw [Int.neg_mul]
theorem nf_neg (V : Int) : nf (-V) = (-(nf V).1, (nf V).2) := nrm_neg 24 V
theorem nf_zero (V : Int) : (nf V).1 = 0 ↔ V = 0 := by
  constructor
  · intro h
    have := sc_nf V
    rw [h] at this
    unfold sc at this
    omega
  · rintro rfl
    rfl
theorem nf_same (V R : Int) : ((nf V).1 = (nf R).1 ∧ (nf V).2 = (nf R).2) ↔ V = R :=
  ⟨fun h => nf_inj _ _ (Prod.ext h.1 h.2), fun h => by rw [h]; exact ⟨rfl, rfl⟩⟩

set_option maxRecDepth 100000 in
set_option maxHeartbeats 1600000 in
theorem l11Slope_any (t1 u1 t2 u2 : Int) (p1 q1 p2 q2 : Nat) (w : World)
    (hp1 : p1 ≤ 16) (hq1 : q1 ≤ 16) (hp2 : p2 ≤ 16) (hq2 : q2 ≤ 16)
    (ht1 : -1000000 ≤ t1 ∧ t1 ≤ 1000000) (hu1 : -1000000 ≤ u1 ∧ u1 ≤ 1000000) (ht2 : -1000000 ≤ t2 ∧ t2 ≤ 1000000) (hu2 : -1000000 ≤ u2 ∧ u2 ≤ 1000000) :
    Calls Try.prog 44 #[.agg #[.int .i64 t1, .int .i64 p1, .int .i64 u1, .int .i64 q1], .agg #[.int .i64 t2, .int .i64 p2, .int .i64 u2, .int .i64 q2]] w fun e w' =>
      e = .returned (.int .i64 (slp (sc t2 p2 - sc t1 p1) (sc u2 q2 - sc u1 q1))) ∧ Below w.heap.size w w' := by
  have f1 := sc_fits t1 p1 ht1.1 ht1.2
  have f2 := sc_fits t2 p2 ht2.1 ht2.2
  have f3 := sc_fits u1 q1 hu1.1 hu1.2
  have f4 := sc_fits u2 q2 hu2.1 hu2.2
  obtain ⟨R, hR⟩ : ∃ R, R = sc t2 p2 - sc t1 p1 := ⟨_, rfl⟩
  obtain ⟨V, hV⟩ : ∃ V, V = sc u2 q2 - sc u1 q1 := ⟨_, rfl⟩
  have b1 := mul_pow_le t1 1000000 (24 - p1) 24 (by omega) ht1.1 ht1.2 (by omega)
  have b2 := mul_pow_le t2 1000000 (24 - p2) 24 (by omega) ht2.1 ht2.2 (by omega)
  have b3 := mul_pow_le u1 1000000 (24 - q1) 24 (by omega) hu1.1 hu1.2 (by omega)
  have b4 := mul_pow_le u2 1000000 (24 - q2) 24 (by omega) hu2.1 hu2.2 (by omega)
  have e : (1000000 : Int) * 2 ^ 24 = 16777216000000 := by decide
  rw [e] at b1 b2 b3 b4
  have b1' : -16777216000000 ≤ sc t1 p1 ∧ sc t1 p1 ≤ 16777216000000 := b1
  have b2' : -16777216000000 ≤ sc t2 p2 ∧ sc t2 p2 ≤ 16777216000000 := b2
  have b3' : -16777216000000 ≤ sc u1 q1 ∧ sc u1 q1 ≤ 16777216000000 := b3
  have b4' : -16777216000000 ≤ sc u2 q2 ∧ sc u2 q2 ≤ 16777216000000 := b4
  have hA1 := fun W => l2Add_any t2 (-t1) p2 p1 W (by omega) (by omega) f2 (by rw [sc_neg]; unfold Fits at *; omega) (by rw [sc_neg]; unfold Fits at *; omega)
  have hA2 := fun W => l2Add_any u2 (-u1) q2 q1 W (by omega) (by omega) f4 (by rw [sc_neg]; unfold Fits at *; omega) (by rw [sc_neg]; unfold Fits at *; omega)
  rw [sc_neg, ← Int.sub_eq_add_neg, ← hR] at hA1
  rw [sc_neg, ← Int.sub_eq_add_neg, ← hV] at hA2
  rw [← hR, ← hV]
  have hRB : -33554432000000 ≤ R ∧ R ≤ 33554432000000 := by omega
  clear b1 b2 b3 b4 b1' b2' b3' b4' f1 f2 f3 f4 hR hV e
  have h0 := nf_zero V
  have hE := nf_same V R
  have hN := nf_same V (-R)
  rw [nf_neg] at hN
  have hab := nrm_abs 24 R 33554432000000 hRB.1 hRB.2
  have ha : -33554432000000 ≤ (nf R).1 ∧ (nf R).1 ≤ 33554432000000 := hab
  clear hab
  obtain ⟨a, b, hab⟩ : ∃ a b, nf R = (a, b) := ⟨_, _, rfl⟩
  obtain ⟨c, d, hcd⟩ : ∃ c d, nf V = (c, d) := ⟨_, _, rfl⟩
  rw [hab] at hA1 hE hN ha
  rw [hcd] at hA2 hE hN h0
  clear hab hcd hRB
  simp only at h0 hE hN ha
  have HA1 : Hid (∀ W, Calls Try.prog 45 #[.agg #[.int .i64 t2, .int .i64 p2], .agg #[.int .i64 (-t1), .int .i64 p1]] W fun e w' => e = .returned (.agg #[.int .i64 a, .int .i64 b]) ∧ Below W.heap.size W w') := hA1
  have HA2 : Hid (∀ W, Calls Try.prog 45 #[.agg #[.int .i64 u2, .int .i64 q2], .agg #[.int .i64 (-u1), .int .i64 q1]] W fun e w' => e = .returned (.agg #[.int .i64 c, .int .i64 d]) ∧ Below W.heap.size W w') := hA2
  have HN1 : Hid (∀ W, Calls Try.prog 46 #[.agg #[.int .i64 t1, .int .i64 p1]] W fun e w' => e = .returned (.agg #[.int .i64 (-t1), .int .i64 p1]) ∧ Below W.heap.size W w') := fun W => l2Neg_any t1 p1 W (by omega) (by omega)
  have HN2 : Hid (∀ W, Calls Try.prog 46 #[.agg #[.int .i64 u1, .int .i64 q1]] W fun e w' => e = .returned (.agg #[.int .i64 (-u1), .int .i64 q1]) ∧ Below W.heap.size W w') := fun W => l2Neg_any u1 q1 W (by omega) (by omega)
  have HN3 : Hid (∀ W, Calls Try.prog 46 #[.agg #[.int .i64 a, .int .i64 b]] W fun e w' => e = .returned (.agg #[.int .i64 (-a), .int .i64 b]) ∧ Below W.heap.size W w') := fun W => l2Neg_any a b W (by omega) (by omega)
  clear hA1 hA2 ha ht1 ht2 hu1 hu2 hp1 hp2 hq1 hq2
  have HD : Hid (((c = 0 ↔ V = 0) ∧ (c = a ∧ d = b ↔ V = R) ∧ (c = -a ∧ d = b ↔ V = -R))) := ⟨h0, hE, hN⟩
  clear h0 hE hN
  go_enter Try.func44, Try.ntmps44
  go_wp2
  have hB := box2 w 53 53 #[.int .i64 t1, .int .i64 p1, .int .i64 u1, .int .i64 q1] #[.int .i64 t2, .int .i64 p2, .int .i64 u2, .int .i64 q2]
  generalize (w.alloc (.cells #[.int .i64 t1, .int .i64 p1, .int .i64 u1, .int .i64 q1] 53)).alloc (.cells #[.int .i64 t2, .int .i64 p2, .int .i64 u2, .int .i64 q2] 53) = W at *
  obtain ⟨b1, b2, hbW, hzW⟩ := hB
  have HZ := Lib.hid hzW
  have HS : Hid (∀ w', Below W.heap.size W w' → Blk w' w.heap.size 53 #[.int .i64 t1, .int .i64 p1, .int .i64 u1, .int .i64 q1] ∧ Blk w' (w.heap.size + 1) 53 #[.int .i64 t2, .int .i64 p2, .int .i64 u2, .int .i64 q2]) :=
    fun w' hb => ⟨b1.below hb (by omega), b2.below hb (by omega)⟩
  have g0 := Below.refl W.heap.size W
  have m0 : W.cell? ⟨w.heap.size, 0, none⟩ = some (.int .i64 t1) := (HS.out _ g0).1.cell 0
  have m1 : W.cell? ⟨w.heap.size, 1, none⟩ = some (.int .i64 p1) := (HS.out _ g0).1.cell 1
  have m2 : W.cell? ⟨w.heap.size + 1, 0, none⟩ = some (.int .i64 t2) := (HS.out _ g0).2.cell 0
  have m3 : W.cell? ⟨w.heap.size + 1, 1, none⟩ = some (.int .i64 p2) := (HS.out _ g0).2.cell 1
  have HC : Hid (∀ w', Below W.heap.size W w' → (w'.cell? ⟨w.heap.size, 0, none⟩ = some (.int .i64 t1) ∧ w'.cell? ⟨w.heap.size, 1, none⟩ = some (.int .i64 p1) ∧ w'.cell? ⟨w.heap.size + 1, 0, none⟩ = some (.int .i64 t2) ∧ w'.cell? ⟨w.heap.size + 1, 1, none⟩ = some (.int .i64 p2))) := fun w' g => ⟨(HS.out _ g).1.cell 0, (HS.out _ g).1.cell 1, (HS.out _ g).2.cell 0, (HS.out _ g).2.cell 1⟩
  have HC' : Hid (∀ w', Below W.heap.size W w' → (w'.cell? ⟨w.heap.size, 2, none⟩ = some (.int .i64 u1) ∧ w'.cell? ⟨w.heap.size, 3, none⟩ = some (.int .i64 q1) ∧ w'.cell? ⟨w.heap.size + 1, 2, none⟩ = some (.int .i64 u2) ∧ w'.cell? ⟨w.heap.size + 1, 3, none⟩ = some (.int .i64 q2))) := fun w' g => ⟨(HS.out _ g).1.cell 2, (HS.out _ g).1.cell 3, (HS.out _ g).2.cell 2, (HS.out _ g).2.cell 3⟩
  clear hzW b1 b2
  have d1 : ¬ W.heap.size = w.heap.size := (by have := HZ.out; omega)
  have d2 : ¬ W.heap.size = w.heap.size + 1 := (by have := HZ.out; omega)
  go_region_held3 (fun w' => w'.cell? ⟨w.heap.size, 0, none⟩ = some (.int .i64 t1) ∧ w'.cell? ⟨w.heap.size, 1, none⟩ = some (.int .i64 p1) ∧ w'.cell? ⟨w.heap.size + 1, 0, none⟩ = some (.int .i64 t2) ∧ w'.cell? ⟨w.heap.size + 1, 1, none⟩ = some (.int .i64 p2)) (go_keep)
      (first
        | (go_at_call 46; refine (HN1.out _).mono ?_; rintro e w1 ⟨rfl, hb1⟩; (first | (have g1 := gtr (gdrew (a := W)) hb1) | (have g1 := gtr (gtr (gdrew (a := W)) ((Below.refl _ _).alloc (Nat.le_refl _) _)) hb1; have x5 := Blk.below (Blk.new W.drew 26 #[.int .i64 0, .int .i64 0]) hb1 (by simp); have v0 : w1.cell? ⟨W.heap.size, 0, none⟩ = some (.int .i64 0) := Blk.cell x5 0; have v1 : w1.cell? ⟨W.heap.size, 1, none⟩ = some (.int .i64 0) := Blk.cell x5 1; have vf0 : w1.frozen? ⟨W.heap.size, 0, none⟩ = false := Blk.frozen x5 0; have vf1 : w1.frozen? ⟨W.heap.size, 1, none⟩ = false := Blk.frozen x5 1)); obtain ⟨n0, n1, n2, n3⟩ := HC.out _ g1; have e1 : ¬ w1.heap.size = w.heap.size := (by have := g1.size; have := HZ.out; omega); have e2 : ¬ w1.heap.size = w.heap.size + 1 := (by have := g1.size; have := HZ.out; omega))
        | (go_at_call 45; refine (HA1.out _).mono ?_; rintro e w2 ⟨rfl, hb2⟩; (first | (have g2 := gtr g1 hb2; try (have y5 := Blk.below x5 hb2 (by have := hb1.size; simp at this; simp; omega); have z0 : w2.cell? ⟨W.heap.size, 0, none⟩ = some (.int .i64 0) := Blk.cell y5 0; have z1 : w2.cell? ⟨W.heap.size, 1, none⟩ = some (.int .i64 0) := Blk.cell y5 1; have zf0 : w2.frozen? ⟨W.heap.size, 0, none⟩ = false := Blk.frozen y5 0; have zf1 : w2.frozen? ⟨W.heap.size, 1, none⟩ = false := Blk.frozen y5 1)) | (have g2 := gtr (gtr g1 ((Below.refl _ _).alloc (Nat.le_refl _) _)) hb2; have y5 := Blk.below (Blk.new w1 26 #[.int .i64 0, .int .i64 0]) hb2 (by simp); have z0 : w2.cell? ⟨w1.heap.size, 0, none⟩ = some (.int .i64 0) := Blk.cell y5 0; have z1 : w2.cell? ⟨w1.heap.size, 1, none⟩ = some (.int .i64 0) := Blk.cell y5 1; have zf0 : w2.frozen? ⟨w1.heap.size, 0, none⟩ = false := Blk.frozen y5 0; have zf1 : w2.frozen? ⟨w1.heap.size, 1, none⟩ = false := Blk.frozen y5 1)); obtain ⟨o0, o1, o2, o3⟩ := HC.out _ g2; have e3 : ¬ w2.heap.size = w.heap.size := (by have := g2.size; have := HZ.out; omega); have e4 : ¬ w2.heap.size = w.heap.size + 1 := (by have := g2.size; have := HZ.out; omega)))
  all_goals
    clear m0 m1 m2 m3 n0 n1 n2 n3 o0 o1 o2 o3
    (first
      | (have Y : Blk ((w2.setCell ⟨w1.heap.size, 0, none⟩ (.int .i64 a)).setCell ⟨w1.heap.size, 1, none⟩ (.int .i64 b)) w1.heap.size 26 #[.int .i64 a, .int .i64 b] := (y5.set 0 _).set 1 _
         have g3 : Below W.heap.size W ((w2.setCell ⟨w1.heap.size, 0, none⟩ (.int .i64 a)).setCell ⟨w1.heap.size, 1, none⟩ (.int .i64 b)) := (g2.setCell g1.size _).setCell g1.size _
         generalize (w2.setCell ⟨w1.heap.size, 0, none⟩ (.int .i64 a)).setCell ⟨w1.heap.size, 1, none⟩ (.int .i64 b) = w3 at *
         obtain ⟨G, hGe⟩ : ∃ G, G = w1.heap.size := ⟨_, rfl⟩
         rw [← hGe] at Y ⊢
         have hG : W.heap.size ≤ G := by (have := g1.size; have := g2.size; omega)
         clear hGe)
      | (have Y : Blk ((w2.setCell ⟨W.heap.size, 0, none⟩ (.int .i64 a)).setCell ⟨W.heap.size, 1, none⟩ (.int .i64 b)) W.heap.size 26 #[.int .i64 a, .int .i64 b] := (y5.set 0 _).set 1 _
         have g3 : Below W.heap.size W ((w2.setCell ⟨W.heap.size, 0, none⟩ (.int .i64 a)).setCell ⟨W.heap.size, 1, none⟩ (.int .i64 b)) := (g2.setCell (Nat.le_refl _) _).setCell (Nat.le_refl _) _
         generalize (w2.setCell ⟨W.heap.size, 0, none⟩ (.int .i64 a)).setCell ⟨W.heap.size, 1, none⟩ (.int .i64 b) = w3 at *
         obtain ⟨G, hGe⟩ : ∃ G, G = W.heap.size := ⟨_, rfl⟩
         rw [← hGe] at Y ⊢
         have hG : W.heap.size ≤ G := by (have := g1.size; have := g2.size; omega)
         clear hGe)
      | (have Y := Blk.new w2 26 #[.int .i64 a, .int .i64 b]
         have g3 := g2.alloc g2.size (.cells #[.int .i64 a, .int .i64 b] 26)
         generalize w2.alloc (.cells #[.int .i64 a, .int .i64 b] 26) = w3 at *
         obtain ⟨G, hGe⟩ : ∃ G, G = w2.heap.size := ⟨_, rfl⟩
         rw [← hGe] at Y ⊢
         have hG : W.heap.size ≤ G := by (have := g1.size; have := g2.size; omega)
         clear hGe))
    all_goals try clear y5
    clear hb1 hb2 g1 g2 d1 d2 e1 e2 e3 e4
    have hz3 := g3.size
    have hGl := Y.lt
    have HC2 : Hid (∀ w', Below w3.heap.size w3 w' → (w'.cell? ⟨w.heap.size, 2, none⟩ = some (.int .i64 u1) ∧ w'.cell? ⟨w.heap.size, 3, none⟩ = some (.int .i64 q1) ∧ w'.cell? ⟨w.heap.size + 1, 2, none⟩ = some (.int .i64 u2) ∧ w'.cell? ⟨w.heap.size + 1, 3, none⟩ = some (.int .i64 q2))) := fun w' g => HC'.out _ (gtr g3 g)
    obtain ⟨m0, m1, m2, m3⟩ := HC'.out _ g3
    have d1 : ¬ w3.heap.size = w.heap.size := (by have := HZ.out; omega)
    have d2 : ¬ w3.heap.size = w.heap.size + 1 := (by have := HZ.out; omega)
    have k3 := Below.refl w3.heap.size w3
    go_wp2
    go_region_held3 (fun w' => w'.cell? ⟨w.heap.size, 2, none⟩ = some (.int .i64 u1) ∧ w'.cell? ⟨w.heap.size, 3, none⟩ = some (.int .i64 q1) ∧ w'.cell? ⟨w.heap.size + 1, 2, none⟩ = some (.int .i64 u2) ∧ w'.cell? ⟨w.heap.size + 1, 3, none⟩ = some (.int .i64 q2)) (go_keep)
      (first
        | (go_at_call 46; refine (HN2.out _).mono ?_; rintro e w4 ⟨rfl, hb4⟩; (first | (have g4 := gtr (gdrew (a := w3)) hb4) | (have g4 := gtr (gtr (gdrew (a := w3)) ((Below.refl _ _).alloc (Nat.le_refl _) _)) hb4; have x5 := Blk.below (Blk.new w3.drew 26 #[.int .i64 0, .int .i64 0]) hb4 (by simp); have v0 : w4.cell? ⟨w3.heap.size, 0, none⟩ = some (.int .i64 0) := Blk.cell x5 0; have v1 : w4.cell? ⟨w3.heap.size, 1, none⟩ = some (.int .i64 0) := Blk.cell x5 1; have vf0 : w4.frozen? ⟨w3.heap.size, 0, none⟩ = false := Blk.frozen x5 0; have vf1 : w4.frozen? ⟨w3.heap.size, 1, none⟩ = false := Blk.frozen x5 1)); obtain ⟨n0, n1, n2, n3⟩ := HC2.out _ g4; have e1 : ¬ w4.heap.size = w.heap.size := (by have := g4.size; have := hz3; have := HZ.out; omega); have e2 : ¬ w4.heap.size = w.heap.size + 1 := (by have := g4.size; have := hz3; have := HZ.out; omega))
        | (go_at_call 45; refine (HA2.out _).mono ?_; rintro e w5 ⟨rfl, hb5⟩; (first | (have g5 := gtr g4 hb5; try (have y5 := Blk.below x5 hb5 (by have := hb4.size; simp at this; simp; omega); have z0 : w5.cell? ⟨w3.heap.size, 0, none⟩ = some (.int .i64 0) := Blk.cell y5 0; have z1 : w5.cell? ⟨w3.heap.size, 1, none⟩ = some (.int .i64 0) := Blk.cell y5 1; have zf0 : w5.frozen? ⟨w3.heap.size, 0, none⟩ = false := Blk.frozen y5 0; have zf1 : w5.frozen? ⟨w3.heap.size, 1, none⟩ = false := Blk.frozen y5 1)) | (have g5 := gtr (gtr g4 ((Below.refl _ _).alloc (Nat.le_refl _) _)) hb5; have y5 := Blk.below (Blk.new w4 26 #[.int .i64 0, .int .i64 0]) hb5 (by simp); have z0 : w5.cell? ⟨w4.heap.size, 0, none⟩ = some (.int .i64 0) := Blk.cell y5 0; have z1 : w5.cell? ⟨w4.heap.size, 1, none⟩ = some (.int .i64 0) := Blk.cell y5 1; have zf0 : w5.frozen? ⟨w4.heap.size, 0, none⟩ = false := Blk.frozen y5 0; have zf1 : w5.frozen? ⟨w4.heap.size, 1, none⟩ = false := Blk.frozen y5 1)); obtain ⟨o0, o1, o2, o3⟩ := HC2.out _ g5; have f1 : ¬ w5.heap.size = w.heap.size := (by have := g5.size; have := hz3; have := HZ.out; omega); have f2 : ¬ w5.heap.size = w.heap.size + 1 := (by have := g5.size; have := hz3; have := HZ.out; omega)))
    all_goals
      clear m0 m1 m2 m3 n0 n1 n2 n3 o0 o1 o2 o3
      (first
        | (have Y' : Blk ((w5.setCell ⟨w4.heap.size, 0, none⟩ (.int .i64 c)).setCell ⟨w4.heap.size, 1, none⟩ (.int .i64 d)) w4.heap.size 26 #[.int .i64 c, .int .i64 d] := (y5.set 0 _).set 1 _
           have Y6 : Blk ((w5.setCell ⟨w4.heap.size, 0, none⟩ (.int .i64 c)).setCell ⟨w4.heap.size, 1, none⟩ (.int .i64 d)) G 26 #[.int .i64 a, .int .i64 b] := ((Y.below g5 hGl).far (p := ⟨w4.heap.size, 0, none⟩) (by show G ≠ w4.heap.size; have := g4.size; omega) _).far (p := ⟨w4.heap.size, 1, none⟩) (by show G ≠ w4.heap.size; have := g4.size; omega) _
           have g6 : Below w3.heap.size w3 ((w5.setCell ⟨w4.heap.size, 0, none⟩ (.int .i64 c)).setCell ⟨w4.heap.size, 1, none⟩ (.int .i64 d)) := (g5.setCell g4.size _).setCell g4.size _
           generalize ((w5.setCell ⟨w4.heap.size, 0, none⟩ (.int .i64 c)).setCell ⟨w4.heap.size, 1, none⟩ (.int .i64 d)) = w6 at *
           obtain ⟨G', hGe⟩ : ∃ G', G' = w4.heap.size := ⟨_, rfl⟩
           rw [← hGe] at Y' ⊢
           clear hGe)
        | (have Y' : Blk ((w5.setCell ⟨w3.heap.size, 0, none⟩ (.int .i64 c)).setCell ⟨w3.heap.size, 1, none⟩ (.int .i64 d)) w3.heap.size 26 #[.int .i64 c, .int .i64 d] := (y5.set 0 _).set 1 _
           have Y6 : Blk ((w5.setCell ⟨w3.heap.size, 0, none⟩ (.int .i64 c)).setCell ⟨w3.heap.size, 1, none⟩ (.int .i64 d)) G 26 #[.int .i64 a, .int .i64 b] := ((Y.below g5 hGl).far (p := ⟨w3.heap.size, 0, none⟩) (by show G ≠ w3.heap.size; omega) _).far (p := ⟨w3.heap.size, 1, none⟩) (by show G ≠ w3.heap.size; omega) _
           have g6 : Below w3.heap.size w3 ((w5.setCell ⟨w3.heap.size, 0, none⟩ (.int .i64 c)).setCell ⟨w3.heap.size, 1, none⟩ (.int .i64 d)) := (g5.setCell (Nat.le_refl _) _).setCell (Nat.le_refl _) _
           generalize ((w5.setCell ⟨w3.heap.size, 0, none⟩ (.int .i64 c)).setCell ⟨w3.heap.size, 1, none⟩ (.int .i64 d)) = w6 at *
           obtain ⟨G', hGe⟩ : ∃ G', G' = w3.heap.size := ⟨_, rfl⟩
           rw [← hGe] at Y' ⊢
           clear hGe)
        | (have Y' := Blk.new w5 26 #[.int .i64 c, .int .i64 d]
           have Y6 : Blk (w5.alloc (.cells #[.int .i64 c, .int .i64 d] 26)) G 26 #[.int .i64 a, .int .i64 b] := (Y.below g5 hGl).alloc _
           have g6 := g5.alloc g5.size (.cells #[.int .i64 c, .int .i64 d] 26)
           generalize (w5.alloc (.cells #[.int .i64 c, .int .i64 d] 26)) = w6 at *
           obtain ⟨G', hGe⟩ : ∃ G', G' = w5.heap.size := ⟨_, rfl⟩
           rw [← hGe] at Y' ⊢
           clear hGe))
      have y0 : w6.cell? ⟨G, 0, none⟩ = some (.int .i64 a) := Y6.cell 0
      have y1 : w6.cell? ⟨G, 1, none⟩ = some (.int .i64 b) := Y6.cell 1
      have z0 : w6.cell? ⟨G', 0, none⟩ = some (.int .i64 c) := Y'.cell 0
      have z1 : w6.cell? ⟨G', 1, none⟩ = some (.int .i64 d) := Y'.cell 1
      have hgg := hbW.trans ((gtr g3 g6).mono (by have := HZ.out; omega))
      clear hb4 hb5 g4 g5 e1 e2 f1 f2 d1 d2 k3
      by_cases c0 : c = 0
      · have HV := Lib.hid (HD.out.1.1 c0)
        subst c0
        go_wp2
        go_ret
        exact ⟨by rw [HV.out]; rfl, hgg⟩
      · have HV0 : Hid (¬ V = 0) := fun e => c0 (HD.out.1.2 e)
        by_cases cE : c = a ∧ d = b
        · have HV := Lib.hid (HD.out.2.1.1 cE)
          obtain ⟨rfl, rfl⟩ := cE
          go_wp2
          go_ret
          exact ⟨by unfold slp; rw [if_neg HV0.out, if_pos HV.out]; rfl, hgg⟩
        · have HVE : Hid (¬ V = R) := fun e => cE (HD.out.2.1.2 e)
          have cE' : ¬ (c = a ∧ (d : Int) = (b : Int)) := fun e => cE ⟨e.1, by omega⟩
          clear cE
          have HC6 : Hid (∀ w', Below w6.heap.size w6 w' → (w'.cell? ⟨G, 0, none⟩ = some (.int .i64 a) ∧ w'.cell? ⟨G, 1, none⟩ = some (.int .i64 b) ∧ w'.cell? ⟨G', 0, none⟩ = some (.int .i64 c) ∧ w'.cell? ⟨G', 1, none⟩ = some (.int .i64 d))) := fun w' g => ⟨(Y6.below g Y6.lt).cell 0, (Y6.below g Y6.lt).cell 1, (Y'.below g Y'.lt).cell 0, (Y'.below g Y'.lt).cell 1⟩
          by_cases cN : c = -a ∧ d = b
          · have HV := Lib.hid (HD.out.2.2.1 cN)
            obtain ⟨rfl, rfl⟩ := cN
            go_wp2
            all_goals
              go_region_held3 (fun w' => w'.cell? ⟨G, 0, none⟩ = some (.int .i64 a) ∧ w'.cell? ⟨G, 1, none⟩ = some (.int .i64 d) ∧ w'.cell? ⟨G', 0, none⟩ = some (.int .i64 (-a)) ∧ w'.cell? ⟨G', 1, none⟩ = some (.int .i64 d)) (go_keep)
                (first
                  | (go_at_call 46; refine (HN3.out _).mono ?_; rintro e w7 ⟨rfl, hb7⟩; have g7 := gtr (gdrew (a := w6)) hb7; obtain ⟨n0, n1, n2, n3⟩ := HC6.out _ g7))
              all_goals
                have hgf := hgg.trans (g7.mono (by have := HZ.out; have := g6.size; omega))
                go_wp2
                all_goals
                  go_ret
                  exact ⟨by unfold slp; rw [if_neg HV0.out, if_neg HVE.out, if_pos HV.out]; rfl, hgf⟩
          · have HVN : Hid (¬ V = -R) := fun e => cN (HD.out.2.2.2 e)
            have cN' : ¬ (c = -a ∧ (d : Int) = (b : Int)) := fun e => cN ⟨e.1, by omega⟩
            clear cN
            by_cases c2 : c = -a
            · have cd : ¬ (d : Int) = (b : Int) := fun e => cN' ⟨c2, e⟩
              subst c2
              clear cN'
              go_wp2
              all_goals
                go_region_held3 (fun w' => w'.cell? ⟨G, 0, none⟩ = some (.int .i64 a) ∧ w'.cell? ⟨G, 1, none⟩ = some (.int .i64 b) ∧ w'.cell? ⟨G', 0, none⟩ = some (.int .i64 (-a)) ∧ w'.cell? ⟨G', 1, none⟩ = some (.int .i64 d)) (go_keep)
                  (first
                    | (go_at_call 46; refine (HN3.out _).mono ?_; rintro e w7 ⟨rfl, hb7⟩; have g7 := gtr (gdrew (a := w6)) hb7; obtain ⟨n0, n1, n2, n3⟩ := HC6.out _ g7))
                all_goals
                  have hgf := hgg.trans (g7.mono (by have := HZ.out; have := g6.size; omega))
                  go_wp2
                  all_goals
                    go_ret
                    exact ⟨by unfold slp; rw [if_neg HV0.out, if_neg HVE.out, if_neg HVN.out]; rfl, hgf⟩
            · clear cN'
              go_wp2
              all_goals
                go_region_held3 (fun w' => w'.cell? ⟨G, 0, none⟩ = some (.int .i64 a) ∧ w'.cell? ⟨G, 1, none⟩ = some (.int .i64 b) ∧ w'.cell? ⟨G', 0, none⟩ = some (.int .i64 c) ∧ w'.cell? ⟨G', 1, none⟩ = some (.int .i64 d)) (go_keep)
                  (first
                    | (go_at_call 46; refine (HN3.out _).mono ?_; rintro e w7 ⟨rfl, hb7⟩; have g7 := gtr (gdrew (a := w6)) hb7; obtain ⟨n0, n1, n2, n3⟩ := HC6.out _ g7))
                all_goals
                  have hgf := hgg.trans (g7.mono (by have := HZ.out; have := g6.size; omega))
                  go_wp2
                  all_goals
                    go_ret
                    exact ⟨by unfold slp; rw [if_neg HV0.out, if_neg HVE.out, if_neg HVN.out]; rfl, hgf⟩
end Go.Proofs.Ytidfbbegjpfjpaa
