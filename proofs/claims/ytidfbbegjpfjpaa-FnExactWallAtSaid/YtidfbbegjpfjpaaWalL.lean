/- FnExactWallAt returns true: the walk. Conditions: none. -/
import Derived.Test.YtidfbbegjpfjpaaWal8
import Derived.Test.YtidfbbegjpfjpaaWal9
namespace Go.Proofs.Ytidfbbegjpfjpaa
open Go.RowKit
set_option linter.unusedVariables false

set_option maxRecDepth 100000 in
set_option maxHeartbeats 1600000 in
theorem wallS_any (A : Option Addr) (c : Nat) (xs : List Pt) (t p : Int) (w : World) (B : Nat) (hB : B ≤ w.heap.size) (h : RdP w B A c xs) :
    Calls Try.prog 6 #[.slice A xs.length c, .agg #[.int .i64 t, .int .i64 p]] w (RetW xs t p w) := by
  have HW : Hid (∀ W, Below w.heap.size w W → Calls Try.prog 19 #[.slice A xs.length c] W fun e w' => e = .returned (.bool (gwB xs)) ∧ Below W.heap.size W w') := fun W hb => goodWallS_any A c xs W B (by have := hb.size; omega) (h.below hb hB)
  have hG := fun W => goodDyS_any t p W
  have h1 := h.len
  have h2 := h.max
  cases hw : gwB xs
  · have HN : Hid (WallR xs t p (.tuple #[.agg #[.int .i64 0, .int .i64 0], .bool false])) := .inl ⟨fun hh => (by have hq := gwB_t hh.1; rw [hw] at hq; cases hq), rfl⟩
    rw [hw] at HW
    clear hG hw
    go_enter Try.func6, Try.ntmps6
    go_wp2_with fail
    have hB2 := box2 w 26 26 #[.int .i64 t, .int .i64 p] #[.int .i64 0, .int .i64 0]
    generalize (w.alloc (.cells #[.int .i64 t, .int .i64 p] 26)).alloc (.cells #[.int .i64 0, .int .i64 0] 26) = W at *
    obtain ⟨b1, b2, hbW, hzW⟩ := hB2
    ((with_reducible refine (HW.out _ hbW).mono ?_); rintro e w1 ⟨rfl, hb1⟩)
    have b21 := b2.below hb1 (by omega)
    have g1 := hbW.trans (hb1.mono (by omega))
    have r0 : w1.cell? ⟨w.heap.size + 1, 0, none⟩ = some (.int .i64 (0)) := Blk.cell b21 0
    have r1 : w1.cell? ⟨w.heap.size + 1, 1, none⟩ = some (.int .i64 (0)) := Blk.cell b21 1
    have rf0 : w1.frozen? ⟨w.heap.size + 1, 0, none⟩ = false := Blk.frozen b21 0
    have rf1 : w1.frozen? ⟨w.heap.size + 1, 1, none⟩ = false := Blk.frozen b21 1
    clear hzW b1 b2
    go_wp2
    exact bodyPost_ret (v := .tuple #[.agg #[.int .i64 0, .int .i64 0], .bool false]) (by simp [results, Try.results6, go_sem, r0, r1]) rfl ⟨0, 0, false, HN.out, rfl, (g1.setCell (by simp) _).setCell (by simp) _⟩
  · have hwg := gwB_eq.1 hw
    rw [hw] at HW
    clear hw
    by_cases hgt : goodDyB t p = true ∧ 0 ≤ t
    · obtain ⟨hgt, ht0⟩ := hgt
      have hgt' := hgt
      rw [goodDyB, decide_eq_true_eq] at hgt'
      rw [hgt] at hG
      have HG := Lib.hid hG
      obtain ⟨P, hP⟩ : ∃ P : Nat, p = P := ⟨p.toNat, by omega⟩
      subst hP
      have HA : Hid (∀ W, Below w.heap.size w W → Calls Try.prog 22 #[.slice A xs.length c, .agg #[.int .i64 t, .int .i64 P]] W (RetD xs t P W)) := fun W hb => atS_any A c xs t P W B (by have := hb.size; omega) (h.below hb hB) hwg hgt ht0
      have HR : Hid (∀ (k : Nat) (a : Int) (b : Nat), IsK xs (sc20 t P) k → nf (v24 xs t P k) = (a, b) → WallR xs t P (lowV (a, b))) := fun k a b hk hnf =>
        .inr ⟨⟨hwg, hgt, ht0⟩, k, by simpa using hk, by rw [← hnf, v24, v24_low]; simp⟩
      have HI := Lib.hid (fun a b W => l2If_any a b W)
      clear hG hwg hgt hgt'
      go_enter Try.func6, Try.ntmps6
      go_wp2_with fail
      have hB2 := box2 w 26 26 #[.int .i64 t, .int .i64 P] #[.int .i64 0, .int .i64 0]
      generalize (w.alloc (.cells #[.int .i64 t, .int .i64 P] 26)).alloc (.cells #[.int .i64 0, .int .i64 0] 26) = W at *
      obtain ⟨b1, b2, hbW, hzW⟩ := hB2
      ((with_reducible refine (HW.out _ hbW).mono ?_); rintro e w1 ⟨rfl, hb1⟩)
      have b11 := b1.below hb1 (by omega)
      have b21 := b2.below hb1 (by omega)
      have g1 := hbW.trans (hb1.mono (by omega))
      have hz1 := hb1.size
      have q0 : w1.cell? ⟨w.heap.size, 0, none⟩ = some (.int .i64 t) := Blk.cell b11 0
      have q1 : w1.cell? ⟨w.heap.size, 1, none⟩ = some (.int .i64 P) := Blk.cell b11 1
      clear b1 b2
      go_wp2_with fail
      ((with_reducible refine (HG.out _).mono ?_); rintro e w2 ⟨rfl, hb2⟩)
      have b12 := b11.below hb2 (by omega)
      have b22 := b21.below hb2 (by omega)
      have g2 := g1.trans (hb2.mono (by omega))
      have hz2 := hb2.size
      clear q0 q1 b11 b21 g1 hb1 hb2
      have q0 : w2.cell? ⟨w.heap.size, 0, none⟩ = some (.int .i64 t) := Blk.cell b12 0
      have q1 : w2.cell? ⟨w.heap.size, 1, none⟩ = some (.int .i64 P) := Blk.cell b12 1
      have hnt : ¬ t < 0 := by omega
      go_wp2_with fail
      ((with_reducible refine (HA.out _ g2).mono ?_); rintro e w3 ⟨k, a, b, hk, hnf, rfl, hb3⟩)
      have g3 := g2.trans (hb3.mono g2.size)
      have b23 := b22.below hb3 (by omega)
      have hz3 := hb3.size
      clear q0 q1 b12 b22 hb3
      go_wp2_with fail
      ((with_reducible refine (HI.out _ _ _).mono ?_); rintro e w4 ⟨rfl, hb4⟩)
      obtain ⟨x, y, z, he⟩ := lowV_form (a, b)
      rw [he]
      have g4 := g3.trans (hb4.mono g3.size)
      have b24 := b23.below hb4 (by omega)
      have r0 : w4.cell? ⟨w.heap.size + 1, 0, none⟩ = some (.int .i64 (0)) := Blk.cell b24 0
      have r1 : w4.cell? ⟨w.heap.size + 1, 1, none⟩ = some (.int .i64 (0)) := Blk.cell b24 1
      have rf0 : w4.frozen? ⟨w.heap.size + 1, 0, none⟩ = false := Blk.frozen b24 0
      have rf1 : w4.frozen? ⟨w.heap.size + 1, 1, none⟩ = false := Blk.frozen b24 1
      have HE := Lib.hid he; have HB4 := Lib.hid g4; have HK := Lib.hid hk; have HNF := Lib.hid hnf
      clear he g4 g3 g2 hk hnf b23 b24 hb4
      go_wp2
      refine bodyPost_ret (v := .tuple #[.agg #[.int .i64 x, .int .i64 y], .bool z]) (by simp [results, Try.results6, go_sem, r0, r1]) rfl ⟨x, y, z, ?_, rfl, (HB4.out.setCell (by simp) _).setCell (by simp) _⟩
      rw [← HE.out]
      exact HR.out k a b HK.out HNF.out
    · have HN : Hid (WallR xs t p (.tuple #[.agg #[.int .i64 0, .int .i64 0], .bool false])) := .inl ⟨fun hh => hgt hh.2, rfl⟩
      clear hwg
      cases hg : goodDyB t p
      · rw [hg] at hG
        have HG := Lib.hid hG
        clear hG hgt hg
        go_enter Try.func6, Try.ntmps6
        go_wp2_with fail
        have hB2 := box2 w 26 26 #[.int .i64 t, .int .i64 p] #[.int .i64 0, .int .i64 0]
        generalize (w.alloc (.cells #[.int .i64 t, .int .i64 p] 26)).alloc (.cells #[.int .i64 0, .int .i64 0] 26) = W at *
        obtain ⟨b1, b2, hbW, hzW⟩ := hB2
        ((with_reducible refine (HW.out _ hbW).mono ?_); rintro e w1 ⟨rfl, hb1⟩)
        have b11 := b1.below hb1 (by omega)
        have b21 := b2.below hb1 (by omega)
        have g1 := hbW.trans (hb1.mono (by omega))
        have hz1 := hb1.size
        have q0 : w1.cell? ⟨w.heap.size, 0, none⟩ = some (.int .i64 t) := Blk.cell b11 0
        have q1 : w1.cell? ⟨w.heap.size, 1, none⟩ = some (.int .i64 p) := Blk.cell b11 1
        clear b1 b2
        go_wp2_with fail
        ((with_reducible refine (HG.out _).mono ?_); rintro e w2 ⟨rfl, hb2⟩)
        have b12 := b11.below hb2 (by omega)
        have b22 := b21.below hb2 (by omega)
        have g2 := g1.trans (hb2.mono (by omega))
        clear q0 q1
        have q0 : w2.cell? ⟨w.heap.size, 0, none⟩ = some (.int .i64 t) := Blk.cell b12 0
        have q1 : w2.cell? ⟨w.heap.size, 1, none⟩ = some (.int .i64 p) := Blk.cell b12 1
        have r0 : w2.cell? ⟨w.heap.size + 1, 0, none⟩ = some (.int .i64 (0)) := Blk.cell b22 0
        have r1 : w2.cell? ⟨w.heap.size + 1, 1, none⟩ = some (.int .i64 (0)) := Blk.cell b22 1
        have rf0 : w2.frozen? ⟨w.heap.size + 1, 0, none⟩ = false := Blk.frozen b22 0
        have rf1 : w2.frozen? ⟨w.heap.size + 1, 1, none⟩ = false := Blk.frozen b22 1
        clear b11 b21 b12 b22 g1
        go_wp2
        exact bodyPost_ret (v := .tuple #[.agg #[.int .i64 0, .int .i64 0], .bool false]) (by simp [results, Try.results6, go_sem, r0, r1]) rfl ⟨0, 0, false, HN.out, rfl, (g2.setCell (by simp) _).setCell (by simp) _⟩
      · have hneg : t < 0 := by
          rcases Int.lt_or_le t 0 with h | h
          · exact h
          · exact absurd ⟨hg, h⟩ hgt
        rw [hg] at hG
        have HG := Lib.hid hG
        clear hG hgt hg
        go_enter Try.func6, Try.ntmps6
        go_wp2_with fail
        have hB2 := box2 w 26 26 #[.int .i64 t, .int .i64 p] #[.int .i64 0, .int .i64 0]
        generalize (w.alloc (.cells #[.int .i64 t, .int .i64 p] 26)).alloc (.cells #[.int .i64 0, .int .i64 0] 26) = W at *
        obtain ⟨b1, b2, hbW, hzW⟩ := hB2
        ((with_reducible refine (HW.out _ hbW).mono ?_); rintro e w1 ⟨rfl, hb1⟩)
        have b11 := b1.below hb1 (by omega)
        have b21 := b2.below hb1 (by omega)
        have g1 := hbW.trans (hb1.mono (by omega))
        have hz1 := hb1.size
        have q0 : w1.cell? ⟨w.heap.size, 0, none⟩ = some (.int .i64 t) := Blk.cell b11 0
        have q1 : w1.cell? ⟨w.heap.size, 1, none⟩ = some (.int .i64 p) := Blk.cell b11 1
        clear b1 b2
        go_wp2_with fail
        ((with_reducible refine (HG.out _).mono ?_); rintro e w2 ⟨rfl, hb2⟩)
        have b12 := b11.below hb2 (by omega)
        have b22 := b21.below hb2 (by omega)
        have g2 := g1.trans (hb2.mono (by omega))
        clear q0 q1
        have q0 : w2.cell? ⟨w.heap.size, 0, none⟩ = some (.int .i64 t) := Blk.cell b12 0
        have q1 : w2.cell? ⟨w.heap.size, 1, none⟩ = some (.int .i64 p) := Blk.cell b12 1
        have r0 : w2.cell? ⟨w.heap.size + 1, 0, none⟩ = some (.int .i64 (0)) := Blk.cell b22 0
        have r1 : w2.cell? ⟨w.heap.size + 1, 1, none⟩ = some (.int .i64 (0)) := Blk.cell b22 1
        have rf0 : w2.frozen? ⟨w.heap.size + 1, 0, none⟩ = false := Blk.frozen b22 0
        have rf1 : w2.frozen? ⟨w.heap.size + 1, 1, none⟩ = false := Blk.frozen b22 1
        clear b11 b21 b12 b22 g1
        go_wp2
        exact bodyPost_ret (v := .tuple #[.agg #[.int .i64 0, .int .i64 0], .bool false]) (by simp [results, Try.results6, go_sem, r0, r1]) rfl ⟨0, 0, false, HN.out, rfl, (g2.setCell (by simp) _).setCell (by simp) _⟩

/-- What the walk is told of a slice of points that came in. -/
def IsPts (w : World) (a : Option Addr) (len cap : Nat) (zs : List Pt) : Prop :=
  (a = none ∧ len = 0 ∧ cap = 0 ∧ zs = []) ∨
  ∃ x, a = some x ∧ len ≤ cap ∧ cap ≤ maxLen ∧ zs.length = len ∧ (∀ i, i < zs.length → w.cell? (x.add (i * 4)) = some (.int .i64 (gp zs i).t) ∧ w.cell? (x.add (i * 4 + 1)) = some (.int .i64 (gp zs i).p) ∧ w.cell? (x.add (i * 4 + 2)) = some (.int .i64 (gp zs i).u) ∧ w.cell? (x.add (i * 4 + 3)) = some (.int .i64 (gp zs i).q))
theorem IsPts.rd {w : World} {a : Option Addr} {len cap : Nat} {zs : List Pt} (h : IsPts w a len cap zs) : RdP w w.heap.size a cap zs ∧ zs.length = len := by
  rcases h with ⟨rfl, rfl, rfl, rfl⟩ | ⟨x, rfl, hl, hm, hz, hc⟩
  · exact ⟨⟨by simp, by unfold maxLen; omega, fun _ => rfl, fun j hj => absurd hj (by simp)⟩, rfl⟩
  · refine ⟨⟨by omega, hm, (fun e => by cases e), fun j hj => ?_⟩, hz⟩
    have h0 := (hc 0 (by omega)).1
    obtain ⟨b, o, spot⟩ := x
    have hsp : spot = none := by simpa [Addr.add] using World.cell?_spot h0
    subst hsp
    have hlt : b < w.heap.size := by
      rcases Nat.lt_or_ge b w.heap.size with h' | h'
      · exact h'
      · simp [Addr.add, World.cell?, Array.getElem?_eq_none h'] at h0
    refine ⟨b, o, rfl, hlt, fun i hi => ?_⟩
    have := hc i hi
    rw [add_none, add_none, add_none, add_none] at this
    exact this

set_option maxHeartbeats 400000 in
theorem szPointS_any (a : Option Addr) (len cap : Nat) (w : World) (h : len ≤ 9223372036854775807) :
    Calls Try.prog 5 #[.slice a len cap, .int .i64 1048576] w fun e w' => e = .returned (.int .i64 (if 1048576 < len then -1 else 1048576 - len)) ∧ w = w' := by
  by_cases hb : 1048576 < len
  · rw [if_pos hb]
    have hn : (1048576 : Int) - (len : Int) < 0 := by omega
    go_enter Try.func5, Try.ntmps5
    go_wp2
    go_ret
    exact ⟨rfl, rfl⟩
  · rw [if_neg hb]
    have hn : ¬ (1048576 : Int) - (len : Int) < 0 := by omega
    go_enter Try.func5, Try.ntmps5
    go_wp2
    go_ret
    exact ⟨rfl, rfl⟩
theorem wallR_same {xs : List Pt} {t p a b a' b' : Int} {c c' : Bool} (h : WallR xs t p (.tuple #[.agg #[.int .i64 a, .int .i64 b], .bool c])) (k : WallR xs t p (.tuple #[.agg #[.int .i64 a', .int .i64 b'], .bool c'])) : a = a' ∧ b = b' ∧ c = c' := by
  have := wallR_unique h k
  simp at this
  exact ⟨this.1.1, this.1.2, this.2⟩

set_option maxRecDepth 100000 in
set_option maxHeartbeats 3200000 in
theorem lawWallAt (a : Option Addr) (len cap : Nat) (zs : List Pt) (t p : Int) (w : World) (h : IsPts w a len cap zs) (hp : (Lit.int .i64 t).wf = true) (hl : (Lit.int .i64 p).wf = true) :
    Calls Try.prog 3 #[.slice a len cap, .agg #[.int .i64 t, .int .i64 p]] w fun e w' => e = .returned (.bool true) ∧ Below w.heap.size w w' := by
  clear hp hl
  obtain ⟨hr, hl⟩ := h.rd
  clear h
  subst hl
  have h1 := hr.len
  have h2 := hr.max
  have HSZ := Lib.hid (szPointS_any a zs.length cap)
  by_cases hbig : 1048576 < zs.length
  · have hs := HSZ.out w (by omega)
    rw [if_pos hbig] at hs
    have HS := Lib.hid hs
    clear hs HSZ
    go_enter Try.func3, Try.ntmps3
    go_wp2_with fail
    have HSW : Hid (∀ W, Calls Try.prog 5 #[.slice a zs.length cap, .int .i64 1048576] W fun e w' => e = .returned (.int .i64 (-1)) ∧ W = w') := fun W => by
      have := szPointS_any a zs.length cap W (by omega); rwa [if_pos hbig] at this
    ((with_reducible refine (HSW.out _).mono ?_); rintro e w1 ⟨rfl, rfl⟩)
    go_wp2
    go_ret
    exact ⟨rfl, bel1 _ _⟩
  · have hsm : zs.length ≤ 1048576 := by omega
    have hnn : ¬ (1048576 : Int) - (zs.length : Int) < 0 := by omega
    have HSW : Hid (∀ W, Calls Try.prog 5 #[.slice a zs.length cap, .int .i64 1048576] W fun e w' => e = .returned (.int .i64 (1048576 - zs.length)) ∧ W = w') := fun W => by
      have := szPointS_any a zs.length cap W (by omega); rwa [if_neg hbig] at this
    clear HSZ hbig
    go_enter Try.func3, Try.ntmps3
    go_wp2_with fail
    have hb3 := Blk.new w 24 #[.int .i64 t, .int .i64 p]
    have hAW := bel1 w (.cells #[.int .i64 t, .int .i64 p] 24)
    have hrW := hr.below hAW (Nat.le_refl _)
    generalize w.alloc (.cells #[.int .i64 t, .int .i64 p] 24) = W at *
    have hzW := hb3.lt
    ((with_reducible refine (HSW.out _).mono ?_); rintro e w1 ⟨rfl, rfl⟩)
    have q0 : W.cell? ⟨w.heap.size, 0, none⟩ = some (.int .i64 t) := hb3.cell 0
    have q1 : W.cell? ⟨w.heap.size, 1, none⟩ = some (.int .i64 p) := hb3.cell 1
    have HS : Hid (∀ w', Below W.heap.size W w' → Blk w' w.heap.size 24 #[.int .i64 t, .int .i64 p] ∧ RdP w' w.heap.size a cap zs ∧ Below w.heap.size w w') := fun w' hh => ⟨hb3.below hh hzW, hrW.below hh (by omega), hAW.trans (hh.mono (by omega))⟩
    have hd1 : ¬ W.heap.size = w.heap.size := by omega
    clear hb3 hrW hr
    go_wp2
    have tok1 : True := trivial; have tok2 : True := trivial
    go_region_held3 (fun w' => w'.cell? ⟨w.heap.size, 0, none⟩ = some (.int .i64 t) ∧ w'.cell? ⟨w.heap.size, 1, none⟩ = some (.int .i64 p)) (go_keep)
      (first
        | (have _t := tok1; go_at_call 7; refine (toPointS_any _ _ _ _ w.heap.size (by have := hAW.size; first | exact this | (simp; omega)) (by first | exact (HS.out _ (gdrew (a := W))).2.1 | exact (HS.out _ ((gdrew (a := W)).alloc (Nat.le_refl _) _)).2.1) hsm).mono ?_; rintro e v1 ⟨A1, c1, rfl, hr1, hc1⟩; (first | (have g1 := gtr (gdrew (a := W)) hc1) | (have g1 := gtr (gtr (gdrew (a := W)) ((Below.refl _ _).alloc (Nat.le_refl _) _)) hc1; have x5 : Blk v1 W.heap.size 26 #[.int .i64 0, .int .i64 0] := Blk.below (Blk.new W.drew 26 #[.int .i64 0, .int .i64 0]) hc1 (by simp); have xx0 : v1.cell? ⟨W.heap.size, 0, none⟩ = some (.int .i64 0) := Blk.cell x5 0; have xx1 : v1.cell? ⟨W.heap.size, 1, none⟩ = some (.int .i64 0) := Blk.cell x5 1; have xf0 : v1.frozen? ⟨W.heap.size, 0, none⟩ = false := Blk.frozen x5 0; have xf1 : v1.frozen? ⟨W.heap.size, 1, none⟩ = false := Blk.frozen x5 1)); have n0 := (HS.out _ g1).1.cell 0; have n1 := (HS.out _ g1).1.cell 1; have e1 : ¬ v1.heap.size = w.heap.size := (by have := g1.size; omega); clear tok1)
        | (have _t := tok2; go_at_call 8; refine (toDy_any _ _ _).mono ?_; rintro e v2 ⟨rfl, hc2⟩; (first | (have g2 := gtr g1 hc2; have hr2 := hr1.below hc2 (Nat.le_refl _); try (have y5 := Blk.below x5 hc2 (by have := hc1.size; simp at this; simp; omega); have yy0 : v2.cell? ⟨W.heap.size, 0, none⟩ = some (.int .i64 0) := Blk.cell y5 0; have yy1 : v2.cell? ⟨W.heap.size, 1, none⟩ = some (.int .i64 0) := Blk.cell y5 1; have yf0 : v2.frozen? ⟨W.heap.size, 0, none⟩ = false := Blk.frozen y5 0; have yf1 : v2.frozen? ⟨W.heap.size, 1, none⟩ = false := Blk.frozen y5 1)) | (have g2 := gtr (gtr g1 ((Below.refl _ _).alloc (Nat.le_refl _) _)) hc2; have hr2 := hr1.below (gtr (bel1 v1 _) hc2) (Nat.le_refl _); have y5 := Blk.below (Blk.new v1 26 #[.int .i64 0, .int .i64 0]) hc2 (by simp); have yy0 : v2.cell? ⟨v1.heap.size, 0, none⟩ = some (.int .i64 0) := Blk.cell y5 0; have yy1 : v2.cell? ⟨v1.heap.size, 1, none⟩ = some (.int .i64 0) := Blk.cell y5 1; have yf0 : v2.frozen? ⟨v1.heap.size, 0, none⟩ = false := Blk.frozen y5 0; have yf1 : v2.frozen? ⟨v1.heap.size, 1, none⟩ = false := Blk.frozen y5 1)); have m0 := (HS.out _ g2).1.cell 0; have m1 := (HS.out _ g2).1.cell 1; have e2 : ¬ v2.heap.size = w.heap.size := (by have := g2.size; omega); clear tok2)
        | (go_at_call 6; refine (wallS_any _ _ _ _ _ _ v1.heap.size (by have := (hr2 : RdP v2 _ _ _ _); have := g2.size; have := hc2.size; first | omega | (simp at *; omega)) (by first | exact hr2 | exact hr2.below (bel1 v2 _) (by have := hc2.size; first | omega | (simp at this; omega)))).mono ?_; rintro e v3 ⟨a0, b0, z0, hw0, rfl, hc3⟩; (first | (have g3 := gtr g2 hc3; try (have w5 := Blk.below y5 hc3 (by have := y5.lt; omega); have ww0 := (Blk.cell w5 0).trans (show _ = some (Value.int .i64 0) from rfl); have ww1 := (Blk.cell w5 1).trans (show _ = some (Value.int .i64 0) from rfl); have wf0 := Blk.frozen w5 0; have wf1 := Blk.frozen w5 1)) | (have g3 := gtr (gtr g2 ((Below.refl _ _).alloc (Nat.le_refl _) _)) hc3; have w5 := Blk.below (Blk.new v2 26 #[.int .i64 0, .int .i64 0]) hc3 (by simp); have ww0 := (Blk.cell w5 0).trans (show _ = some (Value.int .i64 0) from rfl); have ww1 := (Blk.cell w5 1).trans (show _ = some (Value.int .i64 0) from rfl); have wf0 := Blk.frozen w5 0; have wf1 := Blk.frozen w5 1)); have o0 := (HS.out _ g3).1.cell 0; have o1 := (HS.out _ g3).1.cell 1; have e3 : ¬ v3.heap.size = w.heap.size := (by have := g3.size; omega)))
    all_goals
      (first
      | (have Y : Blk ((v3.setCell ⟨W.heap.size, 0, none⟩ (.int .i64 a0)).setCell ⟨W.heap.size, 1, none⟩ (.int .i64 b0)) (W.heap.size) 26 #[.int .i64 a0, .int .i64 b0] := (w5.set 0 _).set 1 _
         have g4 : Below W.heap.size W ((v3.setCell ⟨W.heap.size, 0, none⟩ (.int .i64 a0)).setCell ⟨W.heap.size, 1, none⟩ (.int .i64 b0)) := (g3.setCell (Nat.le_refl _) _).setCell (Nat.le_refl _) _
         generalize (v3.setCell ⟨W.heap.size, 0, none⟩ (.int .i64 a0)).setCell ⟨W.heap.size, 1, none⟩ (.int .i64 b0) = w4 at *
         obtain ⟨G, hGe⟩ : ∃ G, G = W.heap.size := ⟨_, rfl⟩
         rw [← hGe] at Y ⊢
         have hG : W.heap.size ≤ G := by (have := g1.size; have := g2.size; have := g3.size; omega)
         clear hGe)
      | (have Y : Blk ((v3.setCell ⟨v1.heap.size, 0, none⟩ (.int .i64 a0)).setCell ⟨v1.heap.size, 1, none⟩ (.int .i64 b0)) (v1.heap.size) 26 #[.int .i64 a0, .int .i64 b0] := (w5.set 0 _).set 1 _
         have g4 : Below W.heap.size W ((v3.setCell ⟨v1.heap.size, 0, none⟩ (.int .i64 a0)).setCell ⟨v1.heap.size, 1, none⟩ (.int .i64 b0)) := (g3.setCell (g1.size) _).setCell (g1.size) _
         generalize (v3.setCell ⟨v1.heap.size, 0, none⟩ (.int .i64 a0)).setCell ⟨v1.heap.size, 1, none⟩ (.int .i64 b0) = w4 at *
         obtain ⟨G, hGe⟩ : ∃ G, G = v1.heap.size := ⟨_, rfl⟩
         rw [← hGe] at Y ⊢
         have hG : W.heap.size ≤ G := by (have := g1.size; have := g2.size; have := g3.size; omega)
         clear hGe)
      | (have Y : Blk ((v3.setCell ⟨v2.heap.size, 0, none⟩ (.int .i64 a0)).setCell ⟨v2.heap.size, 1, none⟩ (.int .i64 b0)) (v2.heap.size) 26 #[.int .i64 a0, .int .i64 b0] := (w5.set 0 _).set 1 _
         have g4 : Below W.heap.size W ((v3.setCell ⟨v2.heap.size, 0, none⟩ (.int .i64 a0)).setCell ⟨v2.heap.size, 1, none⟩ (.int .i64 b0)) := (g3.setCell (g2.size) _).setCell (g2.size) _
         generalize (v3.setCell ⟨v2.heap.size, 0, none⟩ (.int .i64 a0)).setCell ⟨v2.heap.size, 1, none⟩ (.int .i64 b0) = w4 at *
         obtain ⟨G, hGe⟩ : ∃ G, G = v2.heap.size := ⟨_, rfl⟩
         rw [← hGe] at Y ⊢
         have hG : W.heap.size ≤ G := by (have := g1.size; have := g2.size; have := g3.size; omega)
         clear hGe)
      | (have Y := Blk.new v3 26 #[.int .i64 a0, .int .i64 b0]
         have g4 := g3.alloc g3.size (.cells #[.int .i64 a0, .int .i64 b0] 26)
         generalize v3.alloc (.cells #[.int .i64 a0, .int .i64 b0] 26) = w4 at *
         obtain ⟨G, hGe⟩ : ∃ G, G = v3.heap.size := ⟨_, rfl⟩
         rw [← hGe] at Y ⊢
         have hG : W.heap.size ≤ G := by (have := g1.size; have := g2.size; have := g3.size; omega)
         clear hGe))
      all_goals try clear y5
      all_goals try clear w5
      clear hc1 hc2 hc3 g1 g2 g3 e1 e2 e3 hr1 hr2 n0 n1 m0 m1 o0 o1 q0 q1
      have hGl := Y.lt
      obtain ⟨s1, s2, s3⟩ := HS.out w4 g4
      go_wp2_with fail
      ((with_reducible refine (toPointS_any _ _ _ _ _ (by have := s3.size; omega) s2 hsm).mono ?_); rintro e x1 ⟨A2, c2, rfl, hr5, hd1'⟩)
      have g5 := g4.trans (hd1'.mono g4.size)
      have Y5 := Y.below hd1' hGl
      have k0 : x1.cell? ⟨w.heap.size, 0, none⟩ = some (.int .i64 t) := (HS.out _ g5).1.cell 0
      have k1 : x1.cell? ⟨w.heap.size, 1, none⟩ = some (.int .i64 p) := (HS.out _ g5).1.cell 1
      go_wp2_with fail
      ((with_reducible refine (toDy_any _ _ _).mono ?_); rintro e x2 ⟨rfl, hd2⟩)
      have g6 := g5.trans (hd2.mono g5.size)
      have Y6 := Y5.below hd2 Y5.lt
      have hr6 := hr5.below hd2 (Nat.le_refl _)
      clear k0 k1
      go_wp2_with fail
      ((with_reducible refine (wallI_any _ _ _ _ _ _ _ hd2.size hr6).mono ?_); rintro e x3 ⟨a1, b1, z1, hw1, rfl, hd3⟩)
      obtain ⟨rfl, rfl, rfl⟩ := wallR_same hw0 hw1
      have g7 := g6.trans (hd3.mono g6.size)
      have Y7 := Y6.below hd3 Y6.lt
      have hr7 := hr6.below hd3 hd2.size
      have Z := Blk.new x3 26 #[.int .i64 a0, .int .i64 b0]
      have Y8 := Y7.alloc (.cells #[.int .i64 a0, .int .i64 b0] 26)
      have g8 := g7.alloc g7.size (.cells #[.int .i64 a0, .int .i64 b0] 26)
      have hr8 := hr7.below (bel1 x3 (.cells #[.int .i64 a0, .int .i64 b0] 26)) (Nat.le_trans hd2.size hd3.size)
      have hsz8 : (x3.alloc (.cells #[.int .i64 a0, .int .i64 b0] 26)).heap.size = x3.heap.size + 1 := by simp
      have hs3 : x1.heap.size ≤ x3.heap.size := Nat.le_trans hd2.size hd3.size
      have y0 : (x3.alloc (.cells #[.int .i64 a0, .int .i64 b0] 26)).cell? ⟨G, 0, none⟩ = some (.int .i64 a0) := Y8.cell 0
      have y1 : (x3.alloc (.cells #[.int .i64 a0, .int .i64 b0] 26)).cell? ⟨G, 1, none⟩ = some (.int .i64 b0) := Y8.cell 1
      clear hw0 hw1
      go_wp2_with fail
      generalize x3.alloc (.cells #[.int .i64 a0, .int .i64 b0] 26) = x4 at *
      ((with_reducible refine (eqDy_same _ _ _).mono ?_); rintro e x5 ⟨rfl, hd5⟩)
      have g9 := g8.trans (hd5.mono g8.size)
      have hr9 := hr8.below hd5 (by omega)
      have hz5 := hd5.size
      have s9 := (HS.out _ g9).2.1
      have s10 := (HS.out _ g9).2.2
      clear y0 y1 Y8 Z Y7 Y6 Y5 Y
      cases z0
      all_goals
        go_wp2_with fail
        ((with_reducible refine (toPointS_any _ _ _ _ _ (by have := s10.size; omega) s9 hsm).mono ?_); rintro e x6 ⟨A6, c6, rfl, hr10, hd6⟩)
        have g10 := g9.trans (hd6.mono g9.size)
        go_wp2_with fail
        ((with_reducible refine (eqPointS_same _ _ _ _ _ _ _ (Nat.le_refl _) ((hr9.below hd6 (by omega)).more (by have := hd6.size; omega)) hr10).mono ?_); rintro e x7 ⟨rfl, hd7⟩)
        have g11 := g10.trans (hd7.mono g10.size)
        go_wp2
        go_ret
        exact ⟨rfl, hAW.trans (g11.mono hAW.size)⟩
end Go.Proofs.Ytidfbbegjpfjpaa
