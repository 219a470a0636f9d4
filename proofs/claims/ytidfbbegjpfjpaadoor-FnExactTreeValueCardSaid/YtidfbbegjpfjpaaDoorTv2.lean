/- TreeValue of the reference; the program's helpers on numbers. Conditions: none. -/
import Derived.Test.YtidfbbegjpfjpaaDoorTv1
namespace Go.Proofs.YtidfbbegjpfjpaaDoor
open Go.RowKit
set_option linter.unusedVariables false

def treeVal (xs : List Int) (s : ByteArray) : (Int × Nat) × Bool := if treeB xs s then (nf (av (gi xs) (isL s) xs.length 0), true) else ((0, 0), false)
def tvV (x : (Int × Nat) × Bool) : Value := .tuple #[dyP x.1, .bool x.2]

set_option maxHeartbeats 800000 in
theorem treeValS_any (A : Option Addr) (c : Nat) (xs : List Int) (s : ByteArray) (w : World) (B : Nat) (hB : B ≤ w.heap.size) (h : RdI w B A c xs) (hs : s.size ≤ maxLen) :
    Calls Tryd.prog 35 #[.agg #[.slice A xs.length c, .string s]] w fun e w' => e = .returned (tvV (treeVal xs s)) ∧ Below w.heap.size w w' := by
  have h1 := h.len
  have h2 := h.max
  go_enter Tryd.func35, Tryd.ntmps35
  go_wp2_with fail
  obtain ⟨W, hW⟩ : ∃ W, W = (w.alloc (.cells #[.slice A xs.length c, .string s] 29)).alloc (.cells #[.int .i64 0, .int .i64 0] 44) := ⟨_, rfl⟩
  have e0 : Blk W w.heap.size 29 #[.slice A xs.length c, .string s] := by rw [hW]; exact (Blk.new w _ _).alloc _
  have e1 : Blk W (w.heap.size + 1) 44 #[.int .i64 0, .int .i64 0] := by rw [hW]; exact Blk.new_at (w.alloc _) _ _ (by simp)
  have hAW : Below w.heap.size w W := by rw [hW]; exact bel2 _ _ _
  have hzW : w.heap.size + 2 ≤ W.heap.size := by rw [hW]; simp
  rw [← hW]
  clear hW
  have hrW := h.below hAW hB
  cases hg : treeB xs s
  · have HT : Hid (tvV (treeVal xs s) = .tuple #[.agg #[.int .i64 0, .int .i64 0], .bool false]) := by show _ = _; rw [treeVal, hg]; rfl
    refine (goodTreeS_any A c xs s W B (by omega) hrW hs).mono ?_; rintro e w1 ⟨rfl, hb1⟩
    have f1 := e1.below hb1 e1.lt
    have q0 : w1.cell? ⟨w.heap.size + 1, 0, none⟩ = some (.int .i64 0) := f1.cell 0
    have q1 : w1.cell? ⟨w.heap.size + 1, 1, none⟩ = some (.int .i64 0) := f1.cell 1
    have z0 := f1.frozen 0
    have z1 := f1.frozen 1
    go_wp2
    exact bodyPost_ret (v := .tuple #[.agg #[.int .i64 0, .int .i64 0], .bool false]) (by simp [results, Tryd.results35, go_sem, q0, q1]) rfl ⟨by rw [HT.out], ((gtr hAW hb1).setCell (by dsimp only; omega) _).setCell (by dsimp only; omega) _⟩
  · obtain ⟨t1, t2, t3, t4⟩ := treeB_of hg
    obtain ⟨x1, x2, hx⟩ : ∃ a b, nf (av (gi xs) (isL s) xs.length 0) = (a, b) := ⟨_, _, rfl⟩
    have HT : Hid (tvV (treeVal xs s) = .tuple #[.agg #[.int .i64 x1, .int .i64 x2], .bool true]) := by show _ = _; rw [treeVal, hg, if_pos rfl, hx]; rfl
    have HAB : Hid (∀ V, Below w.heap.size w V → Calls Tryd.prog 90 #[.agg #[.slice A xs.length c, .string s], .int .i64 (-1)] V fun e w' => e = .returned (.tuple #[.agg #[.int .i64 x1, .int .i64 x2], .bool true]) ∧ Below V.heap.size V w') := fun V hV => by
      have hh := above_any A c xs s t4 t1 t3 t2 B (xs.length + 1) 0 (by omega) (by omega) V (by have := hV.size; omega) (h.below hV hB)
      rw [dyP_eq hx] at hh
      exact hh
    have HG := Lib.hid hg
    have hgs := fun V hV => goodTreeS_any A c xs s V B hV
    rw [hg] at hgs
    have HGS := Lib.hid hgs
    clear hx t1 t2 t3 t4 hg hgs
    refine (HGS.out W (by omega) hrW hs).mono ?_; rintro e w1 ⟨rfl, hb1⟩
    have f0 := e0.below hb1 e0.lt
    have f1 := e1.below hb1 e1.lt
    have g1 := gtr hAW hb1
    have q00 : w1.cell? ⟨w.heap.size, 0, none⟩ = some (.slice A xs.length c) := f0.cell 0
    have q01 : w1.cell? ⟨w.heap.size, 1, none⟩ = some (.string s) := f0.cell 1
    clear e0 e1
    go_wp2_with fail
    ((with_reducible refine (HAB.out _ g1).mono ?_); rintro e w2 ⟨rfl, hb2⟩)
    have m1 := f1.below hb2 f1.lt
    have hl := m1.lt
    have hne1 : ¬ w.heap.size + 1 = w2.heap.size := by omega
    have hne2 : ¬ w2.heap.size = w.heap.size + 1 := by omega
    have r0 : w2.cell? ⟨w.heap.size + 1, 0, none⟩ = some (.int .i64 0) := m1.cell 0
    have r1 : w2.cell? ⟨w.heap.size + 1, 1, none⟩ = some (.int .i64 0) := m1.cell 1
    have ra0 : ∀ o', (w2.alloc o').cell? ⟨w.heap.size + 1, 0, none⟩ = some (.int .i64 0) := fun o' => (m1.alloc o').cell 0
    have ra1 : ∀ o', (w2.alloc o').cell? ⟨w.heap.size + 1, 1, none⟩ = some (.int .i64 0) := fun o' => (m1.alloc o').cell 1
    have rz0 : ∀ o', (w2.alloc o').frozen? ⟨w.heap.size + 1, 0, none⟩ = false := fun o' => (m1.alloc o').frozen 0
    have rz1 : ∀ o', (w2.alloc o').frozen? ⟨w.heap.size + 1, 1, none⟩ = false := fun o' => (m1.alloc o').frozen 1
    have z0 := m1.frozen 0
    have z1 := m1.frozen 1
    have g2 := gtr g1 hb2
    have p0 : ∀ o', (((w2.setCell ⟨w.heap.size + 1, 0, none⟩ (.int .i64 x1)).setCell ⟨w.heap.size + 1, 1, none⟩ (.int .i64 x2)).alloc o').cell? ⟨w.heap.size + 1, 0, none⟩ = some (.int .i64 x1) := fun o' => (((m1.set 0 (.int .i64 x1)).set 1 (.int .i64 x2)).alloc o').cell 0
    have p1 : ∀ o', (((w2.setCell ⟨w.heap.size + 1, 0, none⟩ (.int .i64 x1)).setCell ⟨w.heap.size + 1, 1, none⟩ (.int .i64 x2)).alloc o').cell? ⟨w.heap.size + 1, 1, none⟩ = some (.int .i64 x2) := fun o' => (((m1.set 0 (.int .i64 x1)).set 1 (.int .i64 x2)).alloc o').cell 1
    clear f0 f1 q00 q01 m1
    have P0 := Lib.hid p0; have P1 := Lib.hid p1
    clear p0 p1
    go_wp2
    have p0 := P0.out; have p1 := P1.out
    exact bodyPost_ret (v := .tuple #[.agg #[.int .i64 x1, .int .i64 x2], .bool true]) (by simp [results, Tryd.results35, go_sem, p0, p1]) rfl ⟨by rw [HT.out], ((g2.setCell (by dsimp only; omega) _).setCell (by dsimp only; omega) _).alloc (by simp; omega) _⟩

theorem sc16_of {X k : Int} (h : FitK X k) (hk : k ≤ 8) {a : Int} {b : Nat} (ha : nf X = (a, b)) : sc16 a b = X / 256 := by
  have e1 := sc_nf X
  rw [ha] at e1
  have hl := (h.low hk).1
  rw [ha] at hl
  have : (b : Int) ≤ k := hl
  have e2 := sc_sc16 a b (by omega)
  have e3 : sc16 a b * 256 = X := e2.symm.trans e1
  omega

set_option maxHeartbeats 800000 in
theorem edgeValue_any (X k : Int) (h : FitK X k) (hk : k ≤ 7) (w : World) :
    Calls Tryd.prog 91 #[dyP (nf X)] w fun e w' => e = .returned (.tuple #[dyP (nf (on X)), .bool true]) ∧ Below w.heap.size w w' := by
  have hn := h.nOn_le
  have hn1 := nOn_pos X
  have hk0 := h.pos
  obtain ⟨a, b, hab⟩ : ∃ a b, nf X = (a, b) := ⟨_, _, rfl⟩
  obtain ⟨r1, r2, hr⟩ : ∃ r1 r2, nf (on X) = (r1, r2) := ⟨_, _, rfl⟩
  have hsc := sc16_of h (by omega) hab
  have hlow := h.low (by omega)
  rw [hab] at hlow
  have hd := h.dvd (by omega)
  have HSC : Hid (∀ W, Calls Tryd.prog 86 #[.agg #[.int .i64 a, .int .i64 b]] W fun e w' => e = .returned (.int .i64 (X / 256)) ∧ Below W.heap.size W w') := fun W => by
    have hb16 : (b : Int) ≤ k := hlow.1
    have hh := scaled_any a b W (by omega) (by have : -2048 ≤ a := hlow.2.1; omega) (by have : a ≤ 2048 := hlow.2.2.1; omega)
    rw [hsc] at hh
    exact hh
  have hNeq : max 1 ((65536 - X / 256) / 65536 + 1) = (nOn X : Int) := by
    unfold nOn
    split <;> omega
  obtain ⟨N, hN⟩ : ∃ N, N = nOn X := ⟨_, rfl⟩
  have hfb : -200000000 ≤ X / 256 ∧ X / 256 ≤ 200000000 := by
    obtain ⟨p, q, h1, _, h2, h3⟩ := h
    omega
  have HLOW : Hid (∀ W, Calls Tryd.prog 77 #[.int .i64 (X / 256 + N * 65536), .int .i64 (15 + (N : Int))] W fun e w' => e = .returned (.tuple #[.agg #[.int .i64 r1, .int .i64 r2], .bool true]) ∧ Below W.heap.size W w') := fun W => by
    have hh := lowest_any (X / 256 + N * 65536) (15 + N) W (by omega) ⟨by omega, by omega⟩
    rw [show ((15 + N : Nat) : Int) = 15 + (N : Int) by omega] at hh
    have e : nrm (15 + N) (X / 256 + N * 65536) = nf (on X) := by
      have := nrm_shift (15 + N) (9 - N) (X / 256 + N * 65536)
      rw [show 15 + N + (9 - N) = 24 by omega] at this
      rw [← this]
      unfold nf on
      rw [hN]
    have hgd := (on_fit h hk).good (by omega)
    rw [hr] at hgd
    rw [e, hr] at hh
    have el : lowV (r1, r2) = .tuple #[dyP (r1, r2), .bool true] := if_pos hgd
    rw [el] at hh
    exact hh
  rw [hab, hr]
  rw [← hN] at hn hn1 hNeq
  generalize X / 256 = x at *
  clear hab hr hN h hsc hlow hd
  show Calls _ _ #[.agg #[.int .i64 a, .int .i64 b]] _ _
  go_enter Tryd.func91, Tryd.ntmps91
  go_wp2_with fail
  have hB := box2 w 44 44 #[.int .i64 a, .int .i64 b] #[.int .i64 0, .int .i64 0]
  generalize (w.alloc (.cells #[.int .i64 a, .int .i64 b] 44)).alloc (.cells #[.int .i64 0, .int .i64 0] 44) = W at *
  obtain ⟨b1, b2, hbW, hzW⟩ := hB
  ((with_reducible refine (HSC.out _).mono ?_); rintro e w1 ⟨rfl, hb1⟩)
  have c1 := b1.below hb1 (by omega)
  have c2 := b2.below hb1 (by omega)
  have g1 := gtr hbW hb1
  have q0 : w1.cell? ⟨w.heap.size, 0, none⟩ = some (.int .i64 a) := c1.cell 0
  have q1 : w1.cell? ⟨w.heap.size, 1, none⟩ = some (.int .i64 b) := c1.cell 1
  clear b1 b2
  go_wp2_with fail
  ((with_reducible refine (HSC.out _).mono ?_); rintro e w2 ⟨rfl, hb2⟩)
  have d2 := c2.below hb2 c2.lt
  have g2 := gtr g1 hb2
  have hw : IntKind.i64.wrap (16 + (N : Int) - 1) = 15 + (N : Int) := by rw [IntKind.wrap_i64]; omega
  have hw2 : IntKind.i64.wrap ((N : Int) * 65536) = (N : Int) * 65536 := by rw [IntKind.wrap_i64]; omega
  clear c1 c2 q0 q1 hNeq
  go_wp2_with fail
  ((with_reducible refine (HLOW.out _).mono ?_); rintro e w3 ⟨rfl, hb3⟩)
  have e2 := d2.below hb3 d2.lt
  have g3 := gtr g2 hb3
  have x0 : w3.cell? ⟨w.heap.size + 1, 0, none⟩ = some (.int .i64 0) := e2.cell 0
  have x1 : w3.cell? ⟨w.heap.size + 1, 1, none⟩ = some (.int .i64 0) := e2.cell 1
  have z0 := e2.frozen 0
  have z1 := e2.frozen 1
  clear d2 e2
  go_wp2
  exact bodyPost_ret (v := .tuple #[.agg #[.int .i64 r1, .int .i64 r2], .bool true]) (by simp [results, Tryd.results91, go_sem, x0, x1]) rfl ⟨rfl, (g3.setCell (by dsimp only; omega) _).setCell (by dsimp only; omega) _⟩

set_option maxRecDepth 100000 in
set_option maxHeartbeats 800000 in
theorem addDy_any (X Y k m : Int) (hx : FitK X k) (hy : FitK Y m) (hkm : k + m ≤ 8) (w : World) :
    Calls Tryd.prog 92 #[dyP (nf X), dyP (nf Y)] w fun e w' => e = .returned (.tuple #[dyP (nf (X + Y)), .bool true]) ∧ Below w.heap.size w w' := by
  have hk0 := hx.pos
  have hm0 := hy.pos
  obtain ⟨a, b, hab⟩ : ∃ a b, nf X = (a, b) := ⟨_, _, rfl⟩
  obtain ⟨c, d, hcd⟩ : ∃ a b, nf Y = (a, b) := ⟨_, _, rfl⟩
  obtain ⟨r1, r2, hr⟩ : ∃ r1 r2, nf (X + Y) = (r1, r2) := ⟨_, _, rfl⟩
  have hG : ∀ (Z k : Int), FitK Z k → k ≤ 8 → ∀ (a : Int) (b : Nat), nf Z = (a, b) → ∀ W, (Calls Tryd.prog 86 #[.agg #[.int .i64 a, .int .i64 b]] W fun e w' => e = .returned (.int .i64 (Z / 256)) ∧ Below W.heap.size W w') ∧
      (Calls Tryd.prog 83 #[.agg #[.int .i64 a, .int .i64 b]] W fun e w' => e = .returned (.bool true) ∧ Below W.heap.size W w') := by
    intro Z k h hk a b hab W
    have hlow := h.low hk
    rw [hab] at hlow
    have hb16 : (b : Int) ≤ k := hlow.1
    have hh := scaled_any a b W (by omega) (by have : -2048 ≤ a := hlow.2.1; omega) (by have : a ≤ 2048 := hlow.2.2.1; omega)
    rw [sc16_of h hk hab] at hh
    have h2 := goodDyI_any a b W
    have hg := h.good hk
    rw [hab] at hg
    rw [show goodDyB a b = true from hg] at h2
    exact ⟨hh, h2⟩
  have HS1 := Lib.hid (fun W => (hG X k hx (by omega) a b hab W).1)
  have HG1 := Lib.hid (fun W => (hG X k hx (by omega) a b hab W).2)
  have HS2 := Lib.hid (fun W => (hG Y m hy (by omega) c d hcd W).1)
  have HG2 := Lib.hid (fun W => (hG Y m hy (by omega) c d hcd W).2)
  have hf := hx.add hy (by omega)
  have hd1 := hx.dvd (by omega)
  have hd2 := hy.dvd (by omega)
  have hfx : -200000000 ≤ X / 256 ∧ X / 256 ≤ 200000000 := by obtain ⟨p, q, h1, _, h2, h3⟩ := hx; omega
  have hfy : -200000000 ≤ Y / 256 ∧ Y / 256 ≤ 200000000 := by obtain ⟨p, q, h1, _, h2, h3⟩ := hy; omega
  have HLOW : Hid (∀ W, Calls Tryd.prog 77 #[.int .i64 (X / 256 + Y / 256), .int .i64 16] W fun e w' => e = .returned (.tuple #[.agg #[.int .i64 r1, .int .i64 r2], .bool true]) ∧ Below W.heap.size W w') := fun W => by
    have hh := lowest_any (X / 256 + Y / 256) 16 W (by omega) ⟨by omega, by omega⟩
    have e : nrm 16 (X / 256 + Y / 256) = nf (X + Y) := by
      have := nrm_shift 16 8 (X / 256 + Y / 256)
      rw [← this]
      unfold nf
      congr 1
      have e8 : (2 : Int) ^ 8 = 256 := by decide
      rw [e8]; omega
    have hgd := hf.good hkm
    rw [hr] at hgd
    rw [e, hr] at hh
    have el : lowV (r1, r2) = .tuple #[dyP (r1, r2), .bool true] := if_pos hgd
    rw [el] at hh
    exact hh
  rw [hab, hcd, hr]
  generalize X / 256 = x at *
  generalize Y / 256 = y at *
  clear hab hcd hr hG hf hd1 hd2 hx hy
  show Calls _ _ #[.agg #[.int .i64 a, .int .i64 b], .agg #[.int .i64 c, .int .i64 d]] _ _
  go_enter Tryd.func92, Tryd.ntmps92
  go_wp2_with fail
  have hB := box3 w 44 44 44 #[.int .i64 a, .int .i64 b] #[.int .i64 c, .int .i64 d] #[.int .i64 0, .int .i64 0]
  generalize ((w.alloc (.cells #[.int .i64 a, .int .i64 b] 44)).alloc (.cells #[.int .i64 c, .int .i64 d] 44)).alloc (.cells #[.int .i64 0, .int .i64 0] 44) = W at *
  obtain ⟨b1, b2, b3, hbW, hzW⟩ := hB
  ((with_reducible refine (HG1.out _).mono ?_); rintro e w1 ⟨rfl, hb1⟩)
  have c1 := b1.below hb1 (by omega)
  have c2 := b2.below hb1 (by omega)
  have c3 := b3.below hb1 (by omega)
  have g1 := gtr hbW hb1
  have q0 : w1.cell? ⟨w.heap.size + 1, 0, none⟩ = some (.int .i64 c) := c2.cell 0
  have q1 : w1.cell? ⟨w.heap.size + 1, 1, none⟩ = some (.int .i64 d) := c2.cell 1
  clear b1 b2 b3
  go_wp2_with fail
  ((with_reducible refine (HG2.out _).mono ?_); rintro e w2 ⟨rfl, hb2⟩)
  have d1 := c1.below hb2 c1.lt
  have d2 := c2.below hb2 c2.lt
  have d3 := c3.below hb2 c3.lt
  have g2 := gtr g1 hb2
  have hl3 := d3.lt
  clear c1 c2 c3 q0 q1 hb1 hb2 hbW g1
  have HZ := Lib.hid hl3
  have HS : Hid (∀ w', Below w2.heap.size w2 w' → Blk w' w.heap.size 44 #[.int .i64 a, .int .i64 b] ∧ Blk w' (w.heap.size + 1) 44 #[.int .i64 c, .int .i64 d] ∧ Blk w' (w.heap.size + 1 + 1) 44 #[.int .i64 0, .int .i64 0]) :=
    fun w' hb => ⟨d1.below hb d1.lt, d2.below hb d2.lt, d3.below hb d3.lt⟩
  have p0 : w2.cell? ⟨w.heap.size, 0, none⟩ = some (.int .i64 a) := Blk.cell d1 0
  have p1 : w2.cell? ⟨w.heap.size, 1, none⟩ = some (.int .i64 b) := Blk.cell d1 1
  have q0 : w2.cell? ⟨w.heap.size + 1, 0, none⟩ = some (.int .i64 c) := Blk.cell d2 0
  have q1 : w2.cell? ⟨w.heap.size + 1, 1, none⟩ = some (.int .i64 d) := Blk.cell d2 1
  have hxy : IntKind.i64.wrap (x + y) = x + y := by rw [IntKind.wrap_i64]; omega
  clear d1 d2 d3 hl3 hzW
  have hn1 : ¬ w.heap.size = w.heap.size + 1 + 1 := by omega
  have hn2 : ¬ w.heap.size + 1 + 1 = w.heap.size := by omega
  have hn3 : ¬ w.heap.size + 1 = w.heap.size + 1 + 1 := by omega
  have hn4 : ¬ w.heap.size + 1 + 1 = w.heap.size + 1 := by omega
  go_wp2
  go_region_held3 (fun w' => w'.cell? ⟨w.heap.size, 0, none⟩ = some (.int .i64 a) ∧ w'.cell? ⟨w.heap.size, 1, none⟩ = some (.int .i64 b) ∧ w'.cell? ⟨w.heap.size + 1, 0, none⟩ = some (.int .i64 c) ∧ w'.cell? ⟨w.heap.size + 1, 1, none⟩ = some (.int .i64 d)) (go_keep)
      (first
        | (go_at_call 86; ((with_reducible refine (HS1.out _).mono ?_); rintro e w3 ⟨rfl, hb1⟩); have t1 := gtr (gdrew (a := w2)) hb1; have m0 : w3.cell? ⟨w.heap.size, 0, none⟩ = some (.int .i64 a) := (HS.out _ t1).1.cell 0; have m1 : w3.cell? ⟨w.heap.size, 1, none⟩ = some (.int .i64 b) := (HS.out _ t1).1.cell 1; have m2 : w3.cell? ⟨w.heap.size + 1, 0, none⟩ = some (.int .i64 c) := (HS.out _ t1).2.1.cell 0; have m3 : w3.cell? ⟨w.heap.size + 1, 1, none⟩ = some (.int .i64 d) := (HS.out _ t1).2.1.cell 1)
        | (go_at_call 86; ((with_reducible refine (HS2.out _).mono ?_); rintro e w4 ⟨rfl, hb2⟩); have t2 := gtr t1 hb2; have n0 : w4.cell? ⟨w.heap.size, 0, none⟩ = some (.int .i64 a) := (HS.out _ t2).1.cell 0; have n1 : w4.cell? ⟨w.heap.size, 1, none⟩ = some (.int .i64 b) := (HS.out _ t2).1.cell 1; have n2 : w4.cell? ⟨w.heap.size + 1, 0, none⟩ = some (.int .i64 c) := (HS.out _ t2).2.1.cell 0; have n3 : w4.cell? ⟨w.heap.size + 1, 1, none⟩ = some (.int .i64 d) := (HS.out _ t2).2.1.cell 1)
        | (go_at_call 77; ((with_reducible refine (HLOW.out _).mono ?_); rintro e w5 ⟨rfl, hb3⟩); have t3 := gtr t2 hb3; have x0 : w5.cell? ⟨w.heap.size, 0, none⟩ = some (.int .i64 a) := (HS.out _ t3).1.cell 0; have x1 : w5.cell? ⟨w.heap.size, 1, none⟩ = some (.int .i64 b) := (HS.out _ t3).1.cell 1; have x2 : w5.cell? ⟨w.heap.size + 1, 0, none⟩ = some (.int .i64 c) := (HS.out _ t3).2.1.cell 0; have x3 : w5.cell? ⟨w.heap.size + 1, 1, none⟩ = some (.int .i64 d) := (HS.out _ t3).2.1.cell 1; have y0 : w5.cell? ⟨w.heap.size + 1 + 1, 0, none⟩ = some (.int .i64 0) := (HS.out _ t3).2.2.cell 0; have y1 : w5.cell? ⟨w.heap.size + 1 + 1, 1, none⟩ = some (.int .i64 0) := (HS.out _ t3).2.2.cell 1; have z0 : w5.frozen? ⟨w.heap.size + 1 + 1, 0, none⟩ = false := (HS.out _ t3).2.2.frozen 0; have z1 : w5.frozen? ⟨w.heap.size + 1 + 1, 1, none⟩ = false := (HS.out _ t3).2.2.frozen 1))
  go_wp2
  exact bodyPost_ret (v := .tuple #[.agg #[.int .i64 r1, .int .i64 r2], .bool true]) (by simp [results, Tryd.results92, go_sem, y0, y1]) rfl ⟨rfl, ((gtr g2 t3).setCell (by dsimp only; omega) _).setCell (by dsimp only; omega) _⟩
end Go.Proofs.YtidfbbegjpfjpaaDoor
