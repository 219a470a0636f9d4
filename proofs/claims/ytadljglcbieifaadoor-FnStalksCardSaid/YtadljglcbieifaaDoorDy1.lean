/- Dyadic numbers: the program's and the reference's small functions, by contracts. Conditions: none. -/
import Derived.Test.YtadljglcbieifaaDoorIn
import Derived.Test.YtadljglcbieifaaDoorMem
import Derived.Test.YtadljglcbieifaaDoorDy0
import Derived.OwnWalk
import Derived.IntWalk
import Derived.Deep.RegionHeld3
namespace Go.Proofs.YtadljglcbieifaaDoor
open Go.RowKit
set_option linter.unusedVariables false

/-- A dyadic number's value. -/
def dyV (t : Int) (p : Int) : Value := .agg #[.int .i64 t, .int .i64 p]
def goodDyB (t p : Int) : Bool := decide (-1000000 ≤ t ∧ t ≤ 1000000 ∧ 0 ≤ p ∧ p ≤ 16 ∧ (p = 0 ∨ t % 2 ≠ 0))
theorem tmod2 (t : Int) : (t.tmod 2 = 0) ↔ (t % 2 = 0) := by
  rcases Int.le_total 0 t with h | h
  · rw [Int.tmod_eq_emod_of_nonneg h]
  · obtain ⟨u, rfl⟩ : ∃ u, t = -u := ⟨-t, by omega⟩
    rw [Int.neg_tmod, Int.tmod_eq_emod_of_nonneg (by omega)]
    omega

set_option maxHeartbeats 400000 in
theorem goodDyI_any (t p : Int) (w : World) :
    Calls Tryd.prog 87 #[.agg #[.int .i64 t, .int .i64 p]] w fun e w' => e = .returned (.bool (goodDyB t p)) ∧ Below w.heap.size w w' := by
  have h2 := tmod2 t
  have H2 := Lib.hid h2; clear h2
  by_cases ho : t % 2 = 0
  · have hm : t.tmod 2 = 0 := H2.out.2 ho
    have HO := Lib.hid ho; clear ho
    go_enter Tryd.func87, Tryd.ntmps87
    go_wp2
    all_goals
      go_ret
      exact ⟨ret_bool (by have := HO.out; simp only [goodDyB]; rw [Bool.eq_iff_iff]; simp; try omega), (Below.refl _ _).alloc (Nat.le_refl _) _⟩
  · have hm : ¬ t.tmod 2 = 0 := fun h => ho (H2.out.1 h)
    have HO : Hid (¬ t % 2 = 0) := ho
    clear ho
    go_enter Tryd.func87, Tryd.ntmps87
    go_wp2
    all_goals
      go_ret
      exact ⟨ret_bool (by have := HO.out; simp only [goodDyB]; rw [Bool.eq_iff_iff]; simp; try omega), (Below.refl _ _).alloc (Nat.le_refl _) _⟩

set_option maxHeartbeats 400000 in
theorem goodDyS_any (t p : Int) (w : World) :
    Calls Tryd.prog 84 #[.agg #[.int .i64 t, .int .i64 p]] w fun e w' => e = .returned (.bool (goodDyB t p)) ∧ Below w.heap.size w w' := by
  have h2 := tmod2 t
  have H2 := Lib.hid h2; clear h2
  have H : goodDyB t p = (inB t (-1000000) 1000000 && inB p 0 16 && decide (p = 0 ∨ t % 2 ≠ 0)) := by
    simp only [goodDyB, inB]; rw [Bool.eq_iff_iff]; simp; omega
  rw [H]
  have hod : Hid (t.tmod 2 = 0 ↔ t % 2 = 0) := H2
  cases h1 : inB t (-1000000) 1000000
  · go_enter Tryd.func84, Tryd.ntmps84
    go_wp2_with (go_at_call 107; refine (l1In_any _ _ _ _).mono ?_; rintro e w' ⟨rfl, rfl⟩)
    go_ret
    exact ⟨rfl, (Below.refl _ _).alloc (Nat.le_refl _) _⟩
  · cases h2 : inB p 0 16
    · go_enter Tryd.func84, Tryd.ntmps84
      go_wp2_with (go_at_call 107; refine (l1In_any _ _ _ _).mono ?_; rintro e w' ⟨rfl, rfl⟩)
      go_ret
      exact ⟨rfl, (Below.refl _ _).alloc (Nat.le_refl _) _⟩
    · by_cases hp : p = 0
      · subst hp
        go_enter Tryd.func84, Tryd.ntmps84
        go_wp2_with (go_at_call 107; refine (l1In_any _ _ _ _).mono ?_; rintro e w' ⟨rfl, rfl⟩)
        go_ret
        exact ⟨ret_bool (by simp), (Below.refl _ _).alloc (Nat.le_refl _) _⟩
      · by_cases ho : t % 2 = 0
        · have hm : t.tmod 2 = 0 := H2.out.2 ho
          have HO := Lib.hid ho; clear ho
          go_enter Tryd.func84, Tryd.ntmps84
          go_wp2_with (go_at_call 107; refine (l1In_any _ _ _ _).mono ?_; rintro e w' ⟨rfl, rfl⟩)
          go_ret
          exact ⟨ret_bool (by simp [HO.out, hp]), (Below.refl _ _).alloc (Nat.le_refl _) _⟩
        · have hm : ¬ t.tmod 2 = 0 := fun h => ho (H2.out.1 h)
          have HO : Hid (¬ t % 2 = 0) := ho
          clear ho
          go_enter Tryd.func84, Tryd.ntmps84
          go_wp2_with (go_at_call 107; refine (l1In_any _ _ _ _).mono ?_; rintro e w' ⟨rfl, rfl⟩)
          go_ret
          exact ⟨ret_bool (by simp [HO.out, hm]), (Below.refl _ _).alloc (Nat.le_refl _) _⟩

theorem w64 (x : Int) (h1 : -9000000000000000000 ≤ x) (h2 : x ≤ 9000000000000000000) : wrap64 x = x := by unfold wrap64; omega
/-- A number's value. -/
def dyP (x : Int × Nat) : Value := .agg #[.int .i64 x.1, .int .i64 x.2]
def Fits (x : Int) : Prop := -1000000000000000 ≤ x ∧ x ≤ 1000000000000000

set_option maxHeartbeats 400000 in
theorem l2Scaled_any (t : Int) (p : Nat) (w : World) (hp : p ≤ 24) (hf : Fits (sc t p)) :
    Calls Tryd.prog 144 #[.agg #[.int .i64 t, .int .i64 p]] w fun e w' => e = .returned (.int .i64 (sc t p)) ∧ Below w.heap.size w w' := by
  have HW : Hid (wrap64 (t * 2 ^ (24 - p)) = sc t p) := by
    show _ = _
    unfold Fits sc at hf
    unfold sc
    exact w64 _ (by omega) (by omega)
  clear hf
  have hw := HW.out
  generalize hx : sc t p = x at *
  go_enter Tryd.func144, Tryd.ntmps144
  go_wp2
  rw [hw]
  go_ret
  exact ⟨rfl, (Below.refl _ _).alloc (Nat.le_refl _) _⟩

set_option maxHeartbeats 400000 in
theorem l2Make_any (t : Int) (p : Nat) (w : World) (hp : p ≤ 24) (hf : Fits t) :
    Calls Tryd.prog 143 #[.int .i64 t, .int .i64 p] w fun e w' => e = .returned (dyP (nrm p t)) ∧ Below w.heap.size w w' := by
  unfold Fits at hf
  go_enter Tryd.func143, Tryd.ntmps143
  go_wp2
  go_loop [0, 1] (fun a b => ∃ (u : Int) (q : Nat), a = .int .i64 u ∧ b = .int .i64 q ∧ q ≤ p ∧ nrm q u = nrm p t ∧ -1000000000000000 ≤ u ∧ u ≤ 1000000000000000) (fun _ b => (intOf b).toNat)
  case atStart => exact ⟨t, p, rfl, rfl, Nat.le_refl _, rfl, hf.1, hf.2⟩
  case round =>
    obtain ⟨u, q, rfl, rfl, hq, hn, h1, h2⟩ := hrel
    have HN := Lib.hid hn; clear hn
    cases q with
    | zero =>
      go_wp2
      refine bodyPost_ret (v := dyP (u, 0)) (by simp [dyP, results, Tryd.results143, go_sem]) rfl ⟨by rw [← HN.out]; rfl, ?_⟩
      (repeat (first | exact Below.refl _ _ | refine Below.setCell ?_ (by simp) _ | refine Below.alloc ?_ (by first | exact Nat.le_refl _ | (simp; done) | (simp; omega)) _ | refine bdrew ?_ _))
    | succ q =>
      by_cases ho : u % 2 = 0
      · obtain ⟨v, rfl⟩ : ∃ v, u = 2 * v := ⟨u / 2, by omega⟩
        rw [nrm_even] at HN
        have hm : (2 * v).tmod 2 = 0 := (tmod2 _).2 ho
        have hd : (2 * v).tdiv 2 = v := by rw [Int.mul_tdiv_cancel_left _ (by decide)]
        clear ho
        go_wp2
        go_round
        case rel => exact ⟨v, q, rfl, by go_num, by omega, HN.out, by omega, by omega⟩
        case measure => simp [intOf]
      · have hm : ¬ u.tmod 2 = 0 := fun h => ho ((tmod2 _).1 h)
        have HO : Hid (¬ u % 2 = 0) := ho
        clear ho
        go_wp2
        refine bodyPost_ret (v := dyP (u, q + 1)) (by simp [dyP, results, Tryd.results143, go_sem]) rfl ⟨by rw [← HN.out, nrm_odd _ _ HO.out], ?_⟩
        (repeat (first | exact Below.refl _ _ | refine Below.setCell ?_ (by simp) _ | refine Below.alloc ?_ (by first | exact Nat.le_refl _ | (simp; done) | (simp; omega)) _ | refine bdrew ?_ _))

theorem box1 (w : World) (T1 : TypeId) (c1 : Array Value) : Blk (w.alloc (.cells c1 T1)) w.heap.size T1 c1 ∧ Below w.heap.size w (w.alloc (.cells c1 T1)) ∧ (w.alloc (.cells c1 T1)).heap.size = w.heap.size + 1 :=
  ⟨Blk.new _ _ _, (Below.refl _ _).alloc (Nat.le_refl _) _, by simp⟩
theorem box2 (w : World) (T1 T2 : TypeId) (c1 c2 : Array Value) :
    Blk ((w.alloc (.cells c1 T1)).alloc (.cells c2 T2)) w.heap.size T1 c1 ∧ Blk ((w.alloc (.cells c1 T1)).alloc (.cells c2 T2)) (w.heap.size + 1) T2 c2 ∧ Below w.heap.size w ((w.alloc (.cells c1 T1)).alloc (.cells c2 T2)) ∧ ((w.alloc (.cells c1 T1)).alloc (.cells c2 T2)).heap.size = w.heap.size + 2 := by
  obtain ⟨a1, a2, a3⟩ := box1 w T1 c1
  refine ⟨a1.alloc _, ?_, a2.alloc (by omega) _, by simp⟩
  rw [← a3]; exact Blk.new _ _ _
theorem box3 (w : World) (T1 T2 T3 : TypeId) (c1 c2 c3 : Array Value) :
    Blk (((w.alloc (.cells c1 T1)).alloc (.cells c2 T2)).alloc (.cells c3 T3)) w.heap.size T1 c1 ∧ Blk (((w.alloc (.cells c1 T1)).alloc (.cells c2 T2)).alloc (.cells c3 T3)) (w.heap.size + 1) T2 c2 ∧ Blk (((w.alloc (.cells c1 T1)).alloc (.cells c2 T2)).alloc (.cells c3 T3)) (w.heap.size + 1 + 1) T3 c3 ∧
      Below w.heap.size w (((w.alloc (.cells c1 T1)).alloc (.cells c2 T2)).alloc (.cells c3 T3)) ∧ (((w.alloc (.cells c1 T1)).alloc (.cells c2 T2)).alloc (.cells c3 T3)).heap.size = w.heap.size + 3 := by
  obtain ⟨a1, a2, a3, a4⟩ := box2 w T1 T2 c1 c2
  refine ⟨a1.alloc _, a2.alloc _, ?_, a3.alloc (by omega) _, by simp⟩
  have e : w.heap.size + 1 + 1 = ((w.alloc (.cells c1 T1)).alloc (.cells c2 T2)).heap.size := by omega
  rw [e]; exact Blk.new _ _ _

set_option maxRecDepth 100000 in
set_option maxHeartbeats 800000 in
theorem l2Add_any (t u : Int) (p q : Nat) (w : World) (hp : p ≤ 24) (hq : q ≤ 24) (h1 : Fits (sc t p)) (h2 : Fits (sc u q)) (h3 : Fits (sc t p + sc u q)) :
    Calls Tryd.prog 141 #[.agg #[.int .i64 t, .int .i64 p], .agg #[.int .i64 u, .int .i64 q]] w fun e w' => e = .returned (dyP (nf (sc t p + sc u q))) ∧ Below w.heap.size w w' := by
  have h1' := h1; have h2' := h2; have h3' := h3
  unfold Fits at h1' h2' h3'
  have hC1 := fun W => l2Scaled_any t p W hp h1
  have hC2 := fun W => l2Scaled_any u q W hq h2
  obtain ⟨a, b, hab⟩ : ∃ a b, nf (sc t p + sc u q) = (a, b) := ⟨_, _, rfl⟩
  have hC3 : ∀ W, Calls Tryd.prog 143 #[.int .i64 (sc t p + sc u q), .int .i64 24] W fun e w' => e = .returned (.agg #[.int .i64 a, .int .i64 b]) ∧ Below W.heap.size W w' := by
    have h := fun W => l2Make_any (sc t p + sc u q) 24 W (by omega) h3
    have e : nrm 24 (sc t p + sc u q) = (a, b) := hab
    rw [e] at h
    exact h
  rw [hab]
  clear hab
  generalize hx : sc t p = x at *
  generalize hy : sc u q = y at *
  have HC1 := Lib.hid hC1; have HC2 := Lib.hid hC2; have HC3 := Lib.hid hC3
  clear hC1 hC2 hC3 hx hy h1 h2 h3
  go_enter Tryd.func141, Tryd.ntmps141
  go_wp2
  have hB := box3 w 44 44 44 #[.int .i64 t, .int .i64 p] #[.int .i64 u, .int .i64 q] #[.int .i64 0, .int .i64 0]
  generalize ((w.alloc (.cells #[.int .i64 t, .int .i64 p] 44)).alloc (.cells #[.int .i64 u, .int .i64 q] 44)).alloc (.cells #[.int .i64 0, .int .i64 0] 44) = W at *
  obtain ⟨b1, b2, b3, hbW, hzW⟩ := hB
  have HZ := Lib.hid hzW
  have HS : Hid (∀ w', Below W.heap.size W w' → Blk w' w.heap.size 44 #[.int .i64 t, .int .i64 p] ∧ Blk w' (w.heap.size + 1) 44 #[.int .i64 u, .int .i64 q] ∧ Blk w' (w.heap.size + 1 + 1) 44 #[.int .i64 0, .int .i64 0]) :=
    fun w' hb => ⟨b1.below hb (by omega), b2.below hb (by omega), b3.below hb (by omega)⟩
  clear hzW
  have p0 : W.cell? ⟨w.heap.size, 0, none⟩ = some (.int .i64 t) := Blk.cell b1 0
  have p1 : W.cell? ⟨w.heap.size, 1, none⟩ = some (.int .i64 p) := Blk.cell b1 1
  have q0 : W.cell? ⟨w.heap.size + 1, 0, none⟩ = some (.int .i64 u) := Blk.cell b2 0
  have q1 : W.cell? ⟨w.heap.size + 1, 1, none⟩ = some (.int .i64 q) := Blk.cell b2 1
  have hxy : IntKind.i64.wrap (x + y) = x + y := by rw [IntKind.wrap_i64]; omega
  clear h1' h2' h3' b1 b2 b3
  have hn1 : ¬ w.heap.size = w.heap.size + 1 + 1 := by omega
  have hn2 : ¬ w.heap.size + 1 + 1 = w.heap.size := by omega
  have hn3 : ¬ w.heap.size + 1 = w.heap.size + 1 + 1 := by omega
  have hn4 : ¬ w.heap.size + 1 + 1 = w.heap.size + 1 := by omega
  go_region_held3 (fun w' => w'.cell? ⟨w.heap.size, 0, none⟩ = some (.int .i64 t) ∧ w'.cell? ⟨w.heap.size, 1, none⟩ = some (.int .i64 p) ∧ w'.cell? ⟨w.heap.size + 1, 0, none⟩ = some (.int .i64 u) ∧ w'.cell? ⟨w.heap.size + 1, 1, none⟩ = some (.int .i64 q)) (go_keep)
      (first
        | (go_at_call 144; ((with_reducible refine (HC1.out _).mono ?_); rintro e w1 ⟨rfl, hb1⟩); have g1 := gtr (gdrew (a := W)) hb1; have m0 : w1.cell? ⟨w.heap.size, 0, none⟩ = some (.int .i64 t) := (HS.out _ g1).1.cell 0; have m1 : w1.cell? ⟨w.heap.size, 1, none⟩ = some (.int .i64 p) := (HS.out _ g1).1.cell 1; have m2 : w1.cell? ⟨w.heap.size + 1, 0, none⟩ = some (.int .i64 u) := (HS.out _ g1).2.1.cell 0; have m3 : w1.cell? ⟨w.heap.size + 1, 1, none⟩ = some (.int .i64 q) := (HS.out _ g1).2.1.cell 1)
        | (go_at_call 144; ((with_reducible refine (HC2.out _).mono ?_); rintro e w2 ⟨rfl, hb2⟩); have g2 := gtr g1 hb2; have n0 : w2.cell? ⟨w.heap.size, 0, none⟩ = some (.int .i64 t) := (HS.out _ g2).1.cell 0; have n1 : w2.cell? ⟨w.heap.size, 1, none⟩ = some (.int .i64 p) := (HS.out _ g2).1.cell 1; have n2 : w2.cell? ⟨w.heap.size + 1, 0, none⟩ = some (.int .i64 u) := (HS.out _ g2).2.1.cell 0; have n3 : w2.cell? ⟨w.heap.size + 1, 1, none⟩ = some (.int .i64 q) := (HS.out _ g2).2.1.cell 1)
        | (go_at_call 143; ((with_reducible refine (HC3.out _).mono ?_); rintro e w3 ⟨rfl, hb3⟩); have g3 := gtr g2 hb3; have x0 : w3.cell? ⟨w.heap.size, 0, none⟩ = some (.int .i64 t) := (HS.out _ g3).1.cell 0; have x1 : w3.cell? ⟨w.heap.size, 1, none⟩ = some (.int .i64 p) := (HS.out _ g3).1.cell 1; have x2 : w3.cell? ⟨w.heap.size + 1, 0, none⟩ = some (.int .i64 u) := (HS.out _ g3).2.1.cell 0; have x3 : w3.cell? ⟨w.heap.size + 1, 1, none⟩ = some (.int .i64 q) := (HS.out _ g3).2.1.cell 1; have y0 : w3.cell? ⟨w.heap.size + 1 + 1, 0, none⟩ = some (.int .i64 0) := (HS.out _ g3).2.2.cell 0; have y1 : w3.cell? ⟨w.heap.size + 1 + 1, 1, none⟩ = some (.int .i64 0) := (HS.out _ g3).2.2.cell 1; have z0 : w3.frozen? ⟨w.heap.size + 1 + 1, 0, none⟩ = false := (HS.out _ g3).2.2.frozen 0; have z1 : w3.frozen? ⟨w.heap.size + 1 + 1, 1, none⟩ = false := (HS.out _ g3).2.2.frozen 1))
  go_wp2
  exact bodyPost_ret (v := .agg #[.int .i64 a, .int .i64 b]) (by simp [results, Tryd.results141, go_sem, y0, y1]) rfl ⟨rfl, ((hbW.trans (g3.mono (by have := HZ.out; omega))).setCell (by simp; omega) _).setCell (by simp; omega) _⟩

set_option maxRecDepth 100000 in
set_option maxHeartbeats 800000 in
theorem l2Less_any (t u : Int) (p q : Nat) (w : World) (hp : p ≤ 24) (hq : q ≤ 24) (h1 : Fits (sc t p)) (h2 : Fits (sc u q)) :
    Calls Tryd.prog 91 #[.agg #[.int .i64 t, .int .i64 p], .agg #[.int .i64 u, .int .i64 q]] w fun e w' => e = .returned (.bool (decide (sc t p < sc u q))) ∧ Below w.heap.size w w' := by
  have hC1 := fun W => l2Scaled_any t p W hp h1
  have hC2 := fun W => l2Scaled_any u q W hq h2
  generalize hx : sc t p = x at *
  generalize hy : sc u q = y at *
  have HC1 := Lib.hid hC1; have HC2 := Lib.hid hC2
  clear hC1 hC2 hx hy h1 h2
  obtain ⟨r, hr⟩ : ∃ r, r = decide (x < y) := ⟨_, rfl⟩
  rw [← hr]
  go_enter Tryd.func91, Tryd.ntmps91
  go_wp2
  have hB := box2 w 44 44 #[.int .i64 t, .int .i64 p] #[.int .i64 u, .int .i64 q]
  generalize (w.alloc (.cells #[.int .i64 t, .int .i64 p] 44)).alloc (.cells #[.int .i64 u, .int .i64 q] 44) = W at *
  obtain ⟨b1, b2, hbW, hzW⟩ := hB
  have HZ := Lib.hid hzW
  have HS : Hid (∀ w', Below W.heap.size W w' → Blk w' w.heap.size 44 #[.int .i64 t, .int .i64 p] ∧ Blk w' (w.heap.size + 1) 44 #[.int .i64 u, .int .i64 q]) :=
    fun w' hb => ⟨b1.below hb (by omega), b2.below hb (by omega)⟩
  clear hzW
  have p0 : W.cell? ⟨w.heap.size, 0, none⟩ = some (.int .i64 t) := Blk.cell b1 0
  have p1 : W.cell? ⟨w.heap.size, 1, none⟩ = some (.int .i64 p) := Blk.cell b1 1
  have q0 : W.cell? ⟨w.heap.size + 1, 0, none⟩ = some (.int .i64 u) := Blk.cell b2 0
  have q1 : W.cell? ⟨w.heap.size + 1, 1, none⟩ = some (.int .i64 q) := Blk.cell b2 1
  clear b1 b2
  go_region_held3 (fun w' => w'.cell? ⟨w.heap.size, 0, none⟩ = some (.int .i64 t) ∧ w'.cell? ⟨w.heap.size, 1, none⟩ = some (.int .i64 p) ∧ w'.cell? ⟨w.heap.size + 1, 0, none⟩ = some (.int .i64 u) ∧ w'.cell? ⟨w.heap.size + 1, 1, none⟩ = some (.int .i64 q)) (go_keep)
      (first
        | (go_at_call 144; ((with_reducible refine (HC1.out _).mono ?_); rintro e w1 ⟨rfl, hb1⟩); have g1 := gtr (gdrew (a := W)) hb1; have m0 : w1.cell? ⟨w.heap.size, 0, none⟩ = some (.int .i64 t) := (HS.out _ g1).1.cell 0; have m1 : w1.cell? ⟨w.heap.size, 1, none⟩ = some (.int .i64 p) := (HS.out _ g1).1.cell 1; have m2 : w1.cell? ⟨w.heap.size + 1, 0, none⟩ = some (.int .i64 u) := (HS.out _ g1).2.cell 0; have m3 : w1.cell? ⟨w.heap.size + 1, 1, none⟩ = some (.int .i64 q) := (HS.out _ g1).2.cell 1)
        | (go_at_call 144; ((with_reducible refine (HC2.out _).mono ?_); rintro e w2 ⟨rfl, hb2⟩); have g2 := gtr g1 hb2; have n0 : w2.cell? ⟨w.heap.size, 0, none⟩ = some (.int .i64 t) := (HS.out _ g2).1.cell 0; have n1 : w2.cell? ⟨w.heap.size, 1, none⟩ = some (.int .i64 p) := (HS.out _ g2).1.cell 1; have n2 : w2.cell? ⟨w.heap.size + 1, 0, none⟩ = some (.int .i64 u) := (HS.out _ g2).2.cell 0; have n3 : w2.cell? ⟨w.heap.size + 1, 1, none⟩ = some (.int .i64 q) := (HS.out _ g2).2.cell 1))
  have HR := Lib.hid hr; clear hr
  go_wp2
  go_ret
  exact ⟨ret_bool HR.out.symm, hbW.trans (g2.mono (by have := HZ.out; omega))⟩

set_option maxHeartbeats 400000 in
theorem l2Neg_any (t : Int) (p : Int) (w : World) (h1 : -1000000000000000 ≤ t) (h2 : t ≤ 1000000000000000) :
    Calls Tryd.prog 140 #[.agg #[.int .i64 t, .int .i64 p]] w fun e w' => e = .returned (.agg #[.int .i64 (-t), .int .i64 p]) ∧ Below w.heap.size w w' := by
  go_enter Tryd.func140, Tryd.ntmps140
  go_wp2
  refine bodyPost_ret (v := .agg #[.int .i64 (-t), .int .i64 p]) (by simp [results, Tryd.results140, go_sem]) rfl ⟨rfl, ?_⟩
  (repeat (first | exact Below.refl _ _ | refine Below.setCell ?_ (by simp) _ | refine Below.alloc ?_ (by first | exact Nat.le_refl _ | (simp; done) | (simp; omega)) _ | refine bdrew ?_ _))

set_option maxHeartbeats 400000 in
theorem negDy_any (t : Int) (p : Int) (w : World) (h1 : -1000000000000000 ≤ t) (h2 : t ≤ 1000000000000000) :
    Calls Tryd.prog 88 #[.agg #[.int .i64 t, .int .i64 p]] w fun e w' => e = .returned (.agg #[.int .i64 (-t), .int .i64 p]) ∧ Below w.heap.size w w' := by
  go_enter Tryd.func88, Tryd.ntmps88
  go_wp2
  refine bodyPost_ret (v := .agg #[.int .i64 (-t), .int .i64 p]) (by simp [results, Tryd.results88, go_sem]) rfl ⟨rfl, ?_⟩
  (repeat (first | exact Below.refl _ _ | refine Below.setCell ?_ (by simp) _ | refine Below.alloc ?_ (by first | exact Nat.le_refl _ | (simp; done) | (simp; omega)) _ | refine bdrew ?_ _))


/-- The same number over 2^16. -/
def sc16 (t : Int) (p : Nat) : Int := t * 2 ^ (16 - p)
theorem sc_sc16 (t : Int) (p : Nat) (h : p ≤ 16) : sc t p = sc16 t p * 256 := by
  unfold sc sc16
  have e : 24 - p = (16 - p) + 8 := by omega
  rw [e, Int.pow_add, ← Int.mul_assoc]
  rfl
theorem mul_pow_le (t B : Int) (k m : Nat) (hk : k ≤ m) (h1 : -B ≤ t) (h2 : t ≤ B) (hB : 0 ≤ B) : -(B * 2 ^ m) ≤ t * 2 ^ k ∧ t * 2 ^ k ≤ B * 2 ^ m := by
  have a1 := pow_pos2 k
  have a2 := pow_le2 k m hk
  have b1 : t * 2 ^ k ≤ B * 2 ^ k := Int.mul_le_mul_of_nonneg_right h2 (by omega)
  have b2 : -B * 2 ^ k ≤ t * 2 ^ k := Int.mul_le_mul_of_nonneg_right h1 (by omega)
  have b3 : B * 2 ^ k ≤ B * 2 ^ m := Int.mul_le_mul_of_nonneg_left a2 hB
  rw [Int.neg_mul] at b2
  omega
theorem sc_fits (t : Int) (p : Nat) (h1 : -1000000 ≤ t) (h2 : t ≤ 1000000) : Fits (sc t p) := by
  have := mul_pow_le t 1000000 (24 - p) 24 (by omega) h1 h2 (by decide)
  unfold Fits sc
  have e : (1000000 : Int) * 2 ^ 24 = 16777216000000 := by decide
  rw [e] at this
  omega
theorem sc16_fits (t : Int) (p : Nat) (h1 : -1000000 ≤ t) (h2 : t ≤ 1000000) : -65536000000 ≤ sc16 t p ∧ sc16 t p ≤ 65536000000 := by
  have := mul_pow_le t 1000000 (16 - p) 16 (by omega) h1 h2 (by decide)
  unfold sc16
  have e : (1000000 : Int) * 2 ^ 16 = 65536000000 := by decide
  rw [e] at this
  omega

set_option maxHeartbeats 400000 in
theorem scaled_any (t : Int) (p : Nat) (w : World) (hp : p ≤ 16) (h1 : -1000000 ≤ t) (h2 : t ≤ 1000000) :
    Calls Tryd.prog 90 #[.agg #[.int .i64 t, .int .i64 p]] w fun e w' => e = .returned (.int .i64 (sc16 t p)) ∧ Below w.heap.size w w' := by
  have HW : Hid (wrap64 (t * 2 ^ (16 - p)) = sc16 t p) := by
    have := sc16_fits t p h1 h2
    show _ = _
    unfold sc16 at this ⊢
    exact w64 _ (by omega) (by omega)
  clear h1 h2
  have hw := HW.out
  generalize hx : sc16 t p = x at *
  go_enter Tryd.func90, Tryd.ntmps90
  go_wp2
  rw [hw]
  go_ret
  exact ⟨rfl, (Below.refl _ _).alloc (Nat.le_refl _) _⟩

/-- What the program's lowest hands back. -/
def lowV (x : Int × Nat) : Value := if goodDyB x.1 x.2 then .tuple #[dyP x, .bool true] else .tuple #[.agg #[.int .i64 0, .int .i64 0], .bool false]

set_option maxHeartbeats 800000 in
theorem lowest_any (t : Int) (p : Nat) (w : World) (hp : p ≤ 40) (hf : Fits t) :
    Calls Tryd.prog 81 #[.int .i64 t, .int .i64 p] w fun e w' => e = .returned (lowV (nrm p t)) ∧ Below w.heap.size w w' := by
  unfold Fits at hf
  have HEND : Hid (∀ (u : Int) (q : Nat), lowV (u, q) = if goodDyB u q then .tuple #[.agg #[.int .i64 u, .int .i64 q], .bool true] else .tuple #[.agg #[.int .i64 0, .int .i64 0], .bool false]) := fun u q => rfl
  go_enter Tryd.func81, Tryd.ntmps81
  go_wp2
  have hB1 := Blk.new w 44 #[.int .i64 0, .int .i64 0]
  have hb1 : Below w.heap.size w (w.alloc (.cells #[.int .i64 0, .int .i64 0] 44)) := (Below.refl _ _).alloc (Nat.le_refl _) _
  have hz1 : (w.alloc (.cells #[.int .i64 0, .int .i64 0] 44)).heap.size = w.heap.size + 1 := by simp
  generalize w.alloc (.cells #[.int .i64 0, .int .i64 0] 44) = W at *
  have HB := Lib.hid hB1; have HZ := Lib.hid hz1; clear hB1 hz1
  go_loop [0, 1] (fun a b => ∃ (u : Int) (q : Nat), a = .int .i64 u ∧ b = .int .i64 q ∧ q ≤ p ∧ nrm q u = nrm p t ∧ -1000000000000000 ≤ u ∧ u ≤ 1000000000000000) (fun _ b => (intOf b).toNat)
  case atStart => exact ⟨t, p, rfl, rfl, Nat.le_refl _, rfl, hf.1, hf.2⟩
  case round =>
    obtain ⟨u, q, rfl, rfl, hq, hn, h1, h2⟩ := hrel
    have HN := Lib.hid hn; clear hn
    cases q with
    | zero =>
      have HU : Hid ((u, 0) = nrm p t) := HN
      go_wp2_with fail
      have hP := Blk.new W 44 #[.int .i64 (u), .int .i64 (0)]
      have hR := HB.out.alloc (.cells #[.int .i64 (u), .int .i64 (0)] 44)
      have hb3 : Below w.heap.size w (W.alloc (.cells #[.int .i64 (u), .int .i64 (0)] 44)) := hb1.alloc (by have := HZ.out; omega) _
      have hz3 : (W.alloc (.cells #[.int .i64 (u), .int .i64 (0)] 44)).heap.size = W.heap.size + 1 := by simp
      have HE := HEND.out (u) (0)
      generalize W.alloc (.cells #[.int .i64 (u), .int .i64 (0)] 44) = V at *
      refine (goodDyI_any _ _ _).mono ?_; rintro e w2 ⟨rfl, hb4⟩
      have hz0 := HZ.out
      have hP2 := hP.below hb4 (by omega)
      have hR2 := hR.below hb4 (by omega)
      have p0 : w2.cell? ⟨W.heap.size, 0, none⟩ = some (.int .i64 (u)) := hP2.cell 0
      have p1 : w2.cell? ⟨W.heap.size, 1, none⟩ = some (.int .i64 (0)) := hP2.cell 1
      have r0 : w2.cell? ⟨w.heap.size, 0, none⟩ = some (.int .i64 0) := hR2.cell 0
      have r1 : w2.cell? ⟨w.heap.size, 1, none⟩ = some (.int .i64 0) := hR2.cell 1
      have rf0 : w2.frozen? ⟨w.heap.size, 0, none⟩ = false := hR2.frozen 0
      have rf1 : w2.frozen? ⟨w.heap.size, 1, none⟩ = false := hR2.frozen 1
      have hne : ¬ W.heap.size = w.heap.size := by omega
      have hbe : Below w.heap.size w w2 := hb3.trans (hb4.mono (by omega))
      clear hz0 hz3 hb3 hb4 hP hR hP2 hR2
      by_cases hgd : goodDyB (u) (0) = true
      · have HE2 : Hid (lowV ((u), (0)) = .tuple #[.agg #[.int .i64 (u), .int .i64 (0)], .bool true]) := by show _ = _; exact HE.trans (if_pos hgd)
        clear HE
        go_wp2
        refine bodyPost_ret (v := .tuple #[.agg #[.int .i64 (u), .int .i64 (0)], .bool true]) (by simp [results, Tryd.results81, go_sem, r0, r1]) rfl ⟨by rw [← HU.out]; exact congrArg _ HE2.out.symm, ?_⟩
        exact (hbe.setCell (by simp) _).setCell (by simp) _
      · have HE2 : Hid (lowV ((u), (0)) = .tuple #[.agg #[.int .i64 0, .int .i64 0], .bool false]) := by show _ = _; exact HE.trans (if_neg hgd)
        have hgf : goodDyB (u) (0) = false := by simpa using hgd
        clear HE hgd
        go_wp2
        refine bodyPost_ret (v := .tuple #[.agg #[.int .i64 0, .int .i64 0], .bool false]) (by simp [results, Tryd.results81, go_sem, r0, r1]) rfl ⟨by rw [← HU.out]; exact congrArg _ HE2.out.symm, ?_⟩
        exact (hbe.setCell (by simp) _).setCell (by simp) _
    | succ q =>
      by_cases ho : u % 2 = 0
      · obtain ⟨v, rfl⟩ : ∃ v, u = 2 * v := ⟨u / 2, by omega⟩
        rw [nrm_even] at HN
        have hm : (2 * v).tmod 2 = 0 := (tmod2 _).2 ho
        have hd : (2 * v).tdiv 2 = v := by rw [Int.mul_tdiv_cancel_left _ (by decide)]
        clear ho
        go_wp2
        go_round
        case rel => exact ⟨v, q, rfl, by go_num, by omega, HN.out, by omega, by omega⟩
        case measure => simp [intOf]
      · have hm : ¬ u.tmod 2 = 0 := fun h => ho ((tmod2 _).1 h)
        have HU : Hid ((u, q + 1) = nrm p t) := by show _ = _; rw [← HN.out, nrm_odd _ _ ho]
        clear ho
        go_wp2_with fail
        have hP := Blk.new W 44 #[.int .i64 (u), .int .i64 (q + 1)]
        have hR := HB.out.alloc (.cells #[.int .i64 (u), .int .i64 (q + 1)] 44)
        have hb3 : Below w.heap.size w (W.alloc (.cells #[.int .i64 (u), .int .i64 (q + 1)] 44)) := hb1.alloc (by have := HZ.out; omega) _
        have hz3 : (W.alloc (.cells #[.int .i64 (u), .int .i64 (q + 1)] 44)).heap.size = W.heap.size + 1 := by simp
        have HE := HEND.out (u) (q + 1)
        generalize W.alloc (.cells #[.int .i64 (u), .int .i64 (q + 1)] 44) = V at *
        refine (goodDyI_any _ _ _).mono ?_; rintro e w2 ⟨rfl, hb4⟩
        have hz0 := HZ.out
        have hP2 := hP.below hb4 (by omega)
        have hR2 := hR.below hb4 (by omega)
        have p0 : w2.cell? ⟨W.heap.size, 0, none⟩ = some (.int .i64 (u)) := hP2.cell 0
        have p1 : w2.cell? ⟨W.heap.size, 1, none⟩ = some (.int .i64 (q + 1)) := hP2.cell 1
        have r0 : w2.cell? ⟨w.heap.size, 0, none⟩ = some (.int .i64 0) := hR2.cell 0
        have r1 : w2.cell? ⟨w.heap.size, 1, none⟩ = some (.int .i64 0) := hR2.cell 1
        have rf0 : w2.frozen? ⟨w.heap.size, 0, none⟩ = false := hR2.frozen 0
        have rf1 : w2.frozen? ⟨w.heap.size, 1, none⟩ = false := hR2.frozen 1
        have hne : ¬ W.heap.size = w.heap.size := by omega
        have hbe : Below w.heap.size w w2 := hb3.trans (hb4.mono (by omega))
        clear hz0 hz3 hb3 hb4 hP hR hP2 hR2
        by_cases hgd : goodDyB (u) (q + 1) = true
        · have HE2 : Hid (lowV ((u), (q + 1)) = .tuple #[.agg #[.int .i64 (u), .int .i64 (q + 1)], .bool true]) := by show _ = _; exact HE.trans (if_pos hgd)
          clear HE
          go_wp2
          refine bodyPost_ret (v := .tuple #[.agg #[.int .i64 (u), .int .i64 (q + 1)], .bool true]) (by simp [results, Tryd.results81, go_sem, r0, r1]) rfl ⟨by rw [← HU.out]; exact congrArg _ HE2.out.symm, ?_⟩
          exact (hbe.setCell (by simp) _).setCell (by simp) _
        · have HE2 : Hid (lowV ((u), (q + 1)) = .tuple #[.agg #[.int .i64 0, .int .i64 0], .bool false]) := by show _ = _; exact HE.trans (if_neg hgd)
          have hgf : goodDyB (u) (q + 1) = false := by simpa using hgd
          clear HE hgd
          go_wp2
          refine bodyPost_ret (v := .tuple #[.agg #[.int .i64 0, .int .i64 0], .bool false]) (by simp [results, Tryd.results81, go_sem, r0, r1]) rfl ⟨by rw [← HU.out]; exact congrArg _ HE2.out.symm, ?_⟩
          exact (hbe.setCell (by simp) _).setCell (by simp) _
end Go.Proofs.YtadljglcbieifaaDoor
