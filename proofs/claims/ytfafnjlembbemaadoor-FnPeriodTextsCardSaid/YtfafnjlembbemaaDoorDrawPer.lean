/- l18DrawPeriod, DrawLeastPeriod, DrawRepeats, rBig, rCut: contracts. Conditions: none. -/
import Derived.Test.YtfafnjlembbemaaDoorDrawRow
namespace Go.Proofs.YtfafnjlembbemaaDoor
open Go.RowKit
set_option linter.unusedVariables false

theorem Gb.set {B g : Nat} {a b : World} (h : Gb B g a b) {p : Addr} (hp : B ≤ p.block ∨ p.block = g) (u : Value) : Gb B g a (b.setCell p u) :=
  h.trans ⟨rfl, rfl, rfl, by simp, fun k hk hg => Below.heap_setCell _ _ _ _ (by omega)⟩
theorem Gb.set2 {B g k : Nat} {a b : World} (h : Gb B g a b) (hp : B ≤ k) (i j : Nat) (u v : Value) : Gb B g a ((b.setCell ⟨k, i, none⟩ u).setCell ⟨k, j, none⟩ v) :=
  (h.set (p := ⟨k, i, none⟩) (.inl hp) u).set (p := ⟨k, j, none⟩) (.inl hp) v
theorem Cur.far {w : World} {B g a k i : Nat} (h : Cur w B g a) (hk : k ≠ g) (hB : B ≤ k) (u : Value) : Cur (w.setCell ⟨k, i, none⟩ u) B g a := by
  obtain ⟨A, c, bs, n, seed, h1, h2, h3, r⟩ := h
  refine ⟨A, c, bs, n, seed, h1.far (p := ⟨k, i, none⟩) (fun e => hk e.symm) u, ⟨h2.1, h2.2.1, h2.2.2.1, fun j hj => ?_⟩, h3, r⟩
  obtain ⟨b, o, hA, hbB, hc⟩ := h2.2.2.2 j hj
  refine ⟨b, o, hA, hbB, fun i' u' hi => ?_⟩
  rw [← hc i' u' hi]
  unfold World.cell?
  rw [Below.heap_setCell _ _ _ _ (by show b ≠ k; omega)]
theorem Cur.far2 {w : World} {B g a k : Nat} (h : Cur w B g a) (hk : k ≠ g) (hB : B ≤ k) (i j : Nat) (u v : Value) : Cur ((w.setCell ⟨k, i, none⟩ u).setCell ⟨k, j, none⟩ v) B g a := (h.far hk hB u).far hk hB v

theorem Rd.lit3 {w : World} {g : Nat} {E : TypeId} {cs : List Value} (h : Blk w g E cs.toArray) {B : Nat} (hB : g < B) (hl : cs.length ≤ 1000000) : Rd w B (some ⟨g, 0, none⟩) cs.length cs := by
  refine ⟨Nat.le_refl _, by unfold maxLen; omega, fun h => by simp at h, fun j hj => ⟨g, 0, rfl, hB, fun i v hi => ?_⟩⟩
  rw [h.cell, Nat.zero_add]
  simpa using hi
theorem among_lit (w : World) (B g a : Nat) (h : Cur w B g a) (ha : a ≤ 800000000) (x y z : Int) (L : Nat) (hL : Blk w L 3 #[.int .i64 x, .int .i64 y, .int .i64 z]) (hg : g < L) :
    Calls Tryd.prog 60 #[.pointer (some ⟨g, 0, none⟩), .slice (some ⟨L, 0, none⟩) 3 3] w (Drawn w B g (a + 2) fun _ => True) := by
  have hr : RdI w w.heap.size (some ⟨L, 0, none⟩) 3 [x, y, z] := Rd.lit3 (cs := [.int .i64 x, .int .i64 y, .int .i64 z]) hL hL.lt (by simp)
  refine (among_any w B g a (some ⟨L, 0, none⟩) 3 [x, y, z] h (by omega) hr (fun b hb => ?_) (by simp) (by simp)).mono ?_
  · injection hb with hb; subst hb; show g + 1 ≤ L; omega
  · rintro e w' ⟨v, _, r⟩
    exact ⟨v, trivial, r⟩
/-- A drawn period. -/
def DrawnP (w : World) (B g a : Nat) (e : Ending) (w' : World) : Prop := ∃ p l : Int, e = .returned (.agg #[.int .i64 p, .int .i64 l]) ∧ Gb w.heap.size g w w' ∧ Cur w' B g a

set_option maxRecDepth 100000 in
set_option maxHeartbeats 1600000 in
theorem drawPer_any (w : World) (B g a : Nat) (h : Cur w B g a) (ha : a ≤ 100000000) :
    Calls Tryd.prog 37 #[.pointer (some ⟨g, 0, none⟩)] w (DrawnP w B g (a + 20)) := by
  have hlt0 := h.lt
  have hge0 := h.ge
  go_enter Tryd.func37, Tryd.ntmps37
  go_wp2_with fail
  have hR := Blk.new w 23 #[.int .i64 0, .int .i64 0]
  have hg0 : Gb w.heap.size g w (w.alloc (.cells #[.int .i64 0, .int .i64 0] 23)) := Gb.of_below ((Below.refl _ _).alloc (Nat.le_refl _) _)
  have hc0 := h.below (bel1 w (.cells #[.int .i64 0, .int .i64 0] 23))
  generalize w.alloc (.cells #[.int .i64 0, .int .i64 0] 23) = W at *
  have hzW := hR.lt
  ((with_reducible refine (pickI _ _ _ _ _ hc0 (by omega) (by decide) (by decide)).mono ?_); rintro e w1 ⟨p, ⟨hx0, hx1⟩, rfl, hc1, hg1⟩)
  have hR1 := hR.gb hg1 (by omega) (by omega)
  have hz1 := hg1.size
  go_wp2_with fail
  ((with_reducible refine (pickI _ _ _ _ _ hc1 (by omega) (by decide) (by decide)).mono ?_); rintro e w2 ⟨y, ⟨hy0, hy1⟩, rfl, hc2, hg2⟩)
  have hR2 := hR1.gb hg2 (by omega) (by omega)
  have hz2 := hg2.size
  go_wp2_with fail
  have hP3 := Blk.new w2 23 #[.int .i64 p, .int .i64 (1 + y)]
  have hR3 := hR2.alloc (.cells #[.int .i64 p, .int .i64 (1 + y)] 23)
  have hg3 : Gb w.heap.size g w (w2.alloc (.cells #[.int .i64 p, .int .i64 (1 + y)] 23)) := ((hg0.trans (hg1.mono (by omega))).trans (hg2.mono (by omega))).trans (Gb.of_below ((Below.refl _ _).alloc (by omega) _))
  have hc3 := hc2.below (bel1 w2 (.cells #[.int .i64 p, .int .i64 (1 + y)] 23))
  have hz3 : (w2.alloc (.cells #[.int .i64 p, .int .i64 (1 + y)] 23)).heap.size = w2.heap.size + 1 := by simp
  generalize w2.alloc (.cells #[.int .i64 p, .int .i64 (1 + y)] 23) = V at *
  obtain ⟨B3, hB3⟩ : ∃ B3, B3 = w2.heap.size := ⟨_, rfl⟩
  rw [← hB3] at hP3 hz3 ⊢
  have hB3a : w.heap.size < B3 := by omega
  clear hB3 hc0 hc1 hc2 hg0 hg1 hg2 hR hR1 hR2 hz1 hz2 hzW h
  ((with_reducible refine (oneI _ _ _ _ _ hc3 (by omega) (by decide) (by decide)).mono ?_); rintro e w4 ⟨b, rfl, hc4, hg4⟩)
  have hR4 := hR3.gb hg4 (by omega) (by omega)
  have hP4 := hP3.gb hg4 (by omega) (by omega)
  have hz4 := hg4.size
  have hgA := hg3.trans (hg4.mono (by omega))
  clear hR3 hP3 hc3 hg3 hg4
  cases b
  · have r0 : w4.cell? ⟨w.heap.size, 0, none⟩ = some (.int .i64 0) := Blk.cell hR4 0
    have r1 : w4.cell? ⟨w.heap.size, 1, none⟩ = some (.int .i64 0) := Blk.cell hR4 1
    have rf0 : w4.frozen? ⟨w.heap.size, 0, none⟩ = false := Blk.frozen hR4 0
    have rf1 : w4.frozen? ⟨w.heap.size, 1, none⟩ = false := Blk.frozen hR4 1
    have p0 : w4.cell? ⟨B3, 0, none⟩ = some (.int .i64 (p)) := Blk.cell hP4 0
    have p1 : w4.cell? ⟨B3, 1, none⟩ = some (.int .i64 (1 + y)) := Blk.cell hP4 1
    go_wp2
    refine bodyPost_ret (v := .agg #[.int .i64 (p), .int .i64 (1 + y)]) (by simp [results, Tryd.results37, go_sem, r0, r1]) rfl ⟨p, 1 + y, rfl, ?_, ?_⟩
    · exact Gb.set2 hgA (Nat.le_refl _) _ _ _ _
    · exact (Cur.far2 hc4 (by omega) (by have := Cur.ge hc4; omega) _ _ _ _).more (by omega)
  · go_wp2_with fail
    ((with_reducible refine (pickI _ _ _ _ _ hc4 (by omega) (by decide) (by decide)).mono ?_); rintro e w5 ⟨s, ⟨hs0, hs1⟩, rfl, hc5, hg5⟩)
    have hR5 := hR4.gb hg5 (by omega) (by omega)
    have hP5 := hP4.gb hg5 (by omega) (by omega)
    have hz5 := hg5.size
    have hgB := hgA.trans (hg5.mono (by omega))
    clear hR4 hP4 hc4 hgA hg5
    have hs : s = 0 ∨ s = 1 := by omega
    rcases hs with rfl | rfl
    · go_wp2_with fail
      have hL6 := Blk.new w5 3 #[.int .i64 (-1), .int .i64 (300), .int .i64 (301)]
      have hR6 := hR5.alloc (.cells #[.int .i64 (-1), .int .i64 (300), .int .i64 (301)] 3)
      have hP6 := hP5.alloc (.cells #[.int .i64 (-1), .int .i64 (300), .int .i64 (301)] 3)
      have hgC : Gb w.heap.size g w (w5.alloc (.cells #[.int .i64 (-1), .int .i64 (300), .int .i64 (301)] 3)) := hgB.trans (Gb.of_below ((Below.refl _ _).alloc (by omega) _))
      have hc6 := hc5.below (bel1 w5 (.cells #[.int .i64 (-1), .int .i64 (300), .int .i64 (301)] 3))
      have hz6 : (w5.alloc (.cells #[.int .i64 (-1), .int .i64 (300), .int .i64 (301)] 3)).heap.size = w5.heap.size + 1 := by simp
      generalize w5.alloc (.cells #[.int .i64 (-1), .int .i64 (300), .int .i64 (301)] 3) = V6 at *
      ((with_reducible refine (among_lit _ _ _ _ hc6 (by omega) _ _ _ _ hL6 (by omega)).mono ?_); rintro e w7 ⟨v, _, rfl, hc7, hg7⟩)
      have hR7 := hR6.gb hg7 (by omega) (by omega)
      have hP7 := hP6.gb hg7 (by omega) (by omega)
      have hz7 := hg7.size
      have hgD := hgC.trans (hg7.mono (by omega))
      have q0 : w7.cell? ⟨B3, 0, none⟩ = some (.int .i64 p) := Blk.cell hP7 0
      have q1 : w7.cell? ⟨B3, 1, none⟩ = some (.int .i64 (1 + y)) := Blk.cell hP7 1
      have qf0 : w7.frozen? ⟨B3, 0, none⟩ = false := Blk.frozen hP7 0
      have qf1 : w7.frozen? ⟨B3, 1, none⟩ = false := Blk.frozen hP7 1
      have hP8 : Blk (w7.setCell ⟨B3, 0, none⟩ (.int .i64 v)) B3 23 #[.int .i64 v, .int .i64 (1 + y)] := hP7.set 0 _
      have hR8 := hR7.far (p := ⟨B3, 0, none⟩) (by show w.heap.size ≠ B3; omega) (.int .i64 v)
      have hc8 : Cur (w7.setCell ⟨B3, 0, none⟩ (.int .i64 v)) B g (a + 20) := (hc7.far (by omega) (by omega) _).more (by omega)
      have hg8 := hgD.set (p := ⟨B3, 0, none⟩) (.inl (by show _ ≤ B3; omega)) (.int .i64 v)
      have r0 : (w7.setCell ⟨B3, 0, none⟩ (.int .i64 v)).cell? ⟨w.heap.size, 0, none⟩ = some (.int .i64 0) := Blk.cell hR8 0
      have r1 : (w7.setCell ⟨B3, 0, none⟩ (.int .i64 v)).cell? ⟨w.heap.size, 1, none⟩ = some (.int .i64 0) := Blk.cell hR8 1
      have rf0 : (w7.setCell ⟨B3, 0, none⟩ (.int .i64 v)).frozen? ⟨w.heap.size, 0, none⟩ = false := Blk.frozen hR8 0
      have rf1 : (w7.setCell ⟨B3, 0, none⟩ (.int .i64 v)).frozen? ⟨w.heap.size, 1, none⟩ = false := Blk.frozen hR8 1
      have p0 : (w7.setCell ⟨B3, 0, none⟩ (.int .i64 v)).cell? ⟨B3, 0, none⟩ = some (.int .i64 (v)) := Blk.cell hP8 0
      have p1 : (w7.setCell ⟨B3, 0, none⟩ (.int .i64 v)).cell? ⟨B3, 1, none⟩ = some (.int .i64 (1 + y)) := Blk.cell hP8 1
      go_wp2_with fail
      generalize w7.setCell ⟨B3, 0, none⟩ (.int .i64 v) = w8 at *
      refine bodyPost_ret (v := .agg #[.int .i64 (v), .int .i64 (1 + y)]) (by simp [results, Tryd.results37, go_sem, r0, r1]) rfl ⟨v, 1 + y, rfl, ?_, ?_⟩
      · exact Gb.set2 hg8 (Nat.le_refl _) _ _ _ _
      · exact Cur.far2 hc8 (by omega) (by omega) _ _ _ _
    · go_wp2_with fail
      have hL6 := Blk.new w5 3 #[.int .i64 (0), .int .i64 (300), .int .i64 (301)]
      have hR6 := hR5.alloc (.cells #[.int .i64 (0), .int .i64 (300), .int .i64 (301)] 3)
      have hP6 := hP5.alloc (.cells #[.int .i64 (0), .int .i64 (300), .int .i64 (301)] 3)
      have hgC : Gb w.heap.size g w (w5.alloc (.cells #[.int .i64 (0), .int .i64 (300), .int .i64 (301)] 3)) := hgB.trans (Gb.of_below ((Below.refl _ _).alloc (by omega) _))
      have hc6 := hc5.below (bel1 w5 (.cells #[.int .i64 (0), .int .i64 (300), .int .i64 (301)] 3))
      have hz6 : (w5.alloc (.cells #[.int .i64 (0), .int .i64 (300), .int .i64 (301)] 3)).heap.size = w5.heap.size + 1 := by simp
      generalize w5.alloc (.cells #[.int .i64 (0), .int .i64 (300), .int .i64 (301)] 3) = V6 at *
      ((with_reducible refine (among_lit _ _ _ _ hc6 (by omega) _ _ _ _ hL6 (by omega)).mono ?_); rintro e w7 ⟨v, _, rfl, hc7, hg7⟩)
      have hR7 := hR6.gb hg7 (by omega) (by omega)
      have hP7 := hP6.gb hg7 (by omega) (by omega)
      have hz7 := hg7.size
      have hgD := hgC.trans (hg7.mono (by omega))
      have q0 : w7.cell? ⟨B3, 0, none⟩ = some (.int .i64 p) := Blk.cell hP7 0
      have q1 : w7.cell? ⟨B3, 1, none⟩ = some (.int .i64 (1 + y)) := Blk.cell hP7 1
      have qf0 : w7.frozen? ⟨B3, 0, none⟩ = false := Blk.frozen hP7 0
      have qf1 : w7.frozen? ⟨B3, 1, none⟩ = false := Blk.frozen hP7 1
      have hP8 : Blk (w7.setCell ⟨B3, 1, none⟩ (.int .i64 v)) B3 23 #[.int .i64 p, .int .i64 v] := hP7.set 1 _
      have hR8 := hR7.far (p := ⟨B3, 1, none⟩) (by show w.heap.size ≠ B3; omega) (.int .i64 v)
      have hc8 : Cur (w7.setCell ⟨B3, 1, none⟩ (.int .i64 v)) B g (a + 20) := (hc7.far (by omega) (by omega) _).more (by omega)
      have hg8 := hgD.set (p := ⟨B3, 1, none⟩) (.inl (by show _ ≤ B3; omega)) (.int .i64 v)
      have r0 : (w7.setCell ⟨B3, 1, none⟩ (.int .i64 v)).cell? ⟨w.heap.size, 0, none⟩ = some (.int .i64 0) := Blk.cell hR8 0
      have r1 : (w7.setCell ⟨B3, 1, none⟩ (.int .i64 v)).cell? ⟨w.heap.size, 1, none⟩ = some (.int .i64 0) := Blk.cell hR8 1
      have rf0 : (w7.setCell ⟨B3, 1, none⟩ (.int .i64 v)).frozen? ⟨w.heap.size, 0, none⟩ = false := Blk.frozen hR8 0
      have rf1 : (w7.setCell ⟨B3, 1, none⟩ (.int .i64 v)).frozen? ⟨w.heap.size, 1, none⟩ = false := Blk.frozen hR8 1
      have p0 : (w7.setCell ⟨B3, 1, none⟩ (.int .i64 v)).cell? ⟨B3, 0, none⟩ = some (.int .i64 (p)) := Blk.cell hP8 0
      have p1 : (w7.setCell ⟨B3, 1, none⟩ (.int .i64 v)).cell? ⟨B3, 1, none⟩ = some (.int .i64 (v)) := Blk.cell hP8 1
      go_wp2_with fail
      generalize w7.setCell ⟨B3, 1, none⟩ (.int .i64 v) = w8 at *
      refine bodyPost_ret (v := .agg #[.int .i64 (p), .int .i64 (v)]) (by simp [results, Tryd.results37, go_sem, r0, r1]) rfl ⟨p, v, rfl, ?_, ?_⟩
      · exact Gb.set2 hg8 (Nat.le_refl _) _ _ _ _
      · exact Cur.far2 hc8 (by omega) (by omega) _ _ _ _
end Go.Proofs.YtfafnjlembbemaaDoor
