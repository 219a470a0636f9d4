/- FnExactStalkTree returns true: the walk. Conditions: none. -/
import Derived.Test.YtmdnbmdkommmkaaDoorSTree
namespace Go.Proofs.YtmdnbmdkommmkaaDoor
open Go.RowKit
set_option linter.unusedVariables false

theorem own_cap {w : World} {base c : Nat} {A : Option Addr} {xs : List Int} {n : Nat} (h : Own w base 3 (.slice A n c) (ints xs)) (hn : xs.length = n) (hc : n ≤ c) : RdI w w.heap.size A n xs := by
  have := h.rd
  exact Rd.cap this (by rw [ints_len]; omega) hc

theorem Rd.grownUp {w w' : World} {B c : Nat} {A : Option Addr} {cs : List Value} {row : Option Nat} (h : Rd w B A c cs) (hg : w.grownBy w' row) (hB : B ≤ w.heap.size) (hr : ∀ g, row = some g → B ≤ g) : Rd w' B A c cs :=
  ⟨h.1, h.2.1, h.2.2.1, fun j hj => by
    obtain ⟨b, o, hA, hb, hc⟩ := h.2.2.2 j hj
    refine ⟨b, o, hA, hb, fun i u hi => ?_⟩
    refine (World.cell?_of_block (w := w) (a := ⟨b, o + i, none⟩) (hg.block b (by omega) fun e => ?_)).trans (hc i u hi)
    have h2 := hr b e.symm
    omega⟩

set_option maxRecDepth 100000 in
set_option maxHeartbeats 3200000 in
theorem lawStalkTree (s : ByteArray) (w : World) (hs : s.size ≤ maxLen) :
    Calls Tryd.prog 5 #[.string s] w fun e w' => e = .returned (.bool true) ∧ Below w.heap.size w w' := by
  obtain ⟨xs, t, b, hx, hI, hS⟩ := stk_ex s hs
  have HS := Lib.hid hS; have HI := Lib.hid hI; clear hI hS
  unfold maxLen at hs
  by_cases h : (s.size : Int) ≤ 1048576
  · go_enter Tryd.func5, Tryd.ntmps5
    go_wp2_with fail
    ((with_reducible refine (HS.out _).mono ?_); rintro e w1 ⟨A3, c3, rfl, hr1, hb1⟩)
    have hz1 := hb1.size
    have n3 := Blk.new w1 35 #[.slice A3 xs.length c3, .string t]
    have nb1 := bel1 w1 (.cells #[.slice A3 xs.length c3, .string t] 35)
    have nz1 : (w1.alloc (.cells #[.slice A3 xs.length c3, .string t] 35)).heap.size = w1.heap.size + 1 := by simp
    have g1 := gtr hb1 nb1
    have hrV := RdI.below hr1 nb1 (Nat.le_refl _)
    go_wp2_with fail
    generalize w1.alloc (.cells #[.slice A3 xs.length c3, .string t] 35) = V at *
    ((with_reducible refine (HI.out _).mono ?_); rintro e w2 ⟨A5, c5, rfl, ho2, hc2, hb2⟩)
    have hz2 := hb2.size
    have n32 := n3.below hb2 (by omega)
    have g2 := gtr g1 hb2
    have hr2 := RdI.below hrV hb2 (by omega)
    have hk5 : ∀ k, (Value.slice A5 xs.length c5).ownBlock = some k → V.heap.size ≤ k ∧ k < w2.heap.size := fun k hk => ho2.lt k hk
    have HK := Lib.hid hk5; clear hk5
    have p0 : w2.cell? ⟨w1.heap.size, 0, none⟩ = some (.slice A3 xs.length c3) := n32.cell 0
    have p1 : w2.cell? ⟨w1.heap.size, 1, none⟩ = some (.string t) := n32.cell 1
    have n5 := Blk.new w2 35 #[.slice A5 xs.length xs.length, .string t]
    have nb2 := bel1 w2 (.cells #[.slice A5 xs.length xs.length, .string t] 35)
    have nz2 : (w2.alloc (.cells #[.slice A5 xs.length xs.length, .string t] 35)).heap.size = w2.heap.size + 1 := by simp
    have n33 := n32.below nb2 (by omega)
    have ho3 := ho2.below nb2
    have hr3 := RdI.below hr2 nb2 (by omega)
    have g3 := gtr g2 nb2
    have q0 : (w2.alloc (.cells #[.slice A5 xs.length xs.length, .string t] 35)).cell? ⟨w1.heap.size, 0, none⟩ = some (.slice A3 xs.length c3) := n33.cell 0
    have q1 : (w2.alloc (.cells #[.slice A5 xs.length xs.length, .string t] 35)).cell? ⟨w1.heap.size, 1, none⟩ = some (.string t) := n33.cell 1
    have hne : ¬ w2.heap.size = w1.heap.size := by omega
    have hne' : ¬ w1.heap.size = w2.heap.size := by omega
    clear hr1 hb1 n3 nb1 hrV hb2 n32 ho2 hr2
    cases b
    all_goals
      go_wp2_with fail
      generalize w2.alloc (.cells #[.slice A5 xs.length xs.length, .string t] 35) = W at *
      ((with_reducible refine (eqTree_ok _ _ _ _ _ _ _ _ (Nat.le_refl _) (own_cap ho3 rfl hc2) (RdI.more hr3 (by omega))).mono ?_); rintro e w3 ⟨rfl, hb3⟩)
      have hz3 := hb3.size
      have a3 := n33.below hb3 (by omega)
      have a5 := n5.below hb3 (by omega)
      have ho4 := ho3.below hb3
      have hr4 := RdI.below hr3 hb3 (by omega)
      have g4 := gtr g3 hb3
      have r0 : w3.cell? ⟨w2.heap.size, 0, none⟩ = some (.slice A5 xs.length xs.length) := a5.cell 0
      have r1 : w3.cell? ⟨w2.heap.size, 1, none⟩ = some (.string t) := a5.cell 1
      clear p0 p1 q0 q1 n5 n33 ho3 hr3 hb3 nb2
      go_wp2_with fail
      ((with_reducible refine (markTree_any _ _ _ _ _ _ ho4 (by omega) hc2).mono ?_); rintro e w4 ⟨rfl, ho5, hg5⟩)
      have hz4 := hg5.size
      have a35 := a3.grown hg5 (fun e => by have := HK.out _ e.symm; omega)
      have a55 := a5.grown hg5 (fun e => by have := HK.out _ e.symm; omega)
      have g5 : Below w.heap.size w w4 := g4.grown hg5 (by have := g4.size; omega) fun k hk => by have := HK.out k hk; omega
      have hr5 : RdI w4 w1.heap.size A3 c3 xs := Rd.grownUp hr4 hg5 (by omega) fun k hk => by have := HK.out k hk; omega
      have s0 : w4.cell? ⟨w2.heap.size, 0, none⟩ = some (.slice A5 xs.length xs.length) := a55.cell 0
      have s1 : w4.cell? ⟨w2.heap.size, 1, none⟩ = some (.string t) := a55.cell 1
      have hh5 := own_cap ho5 (numRow_len _ _) hc2
      clear r0 r1 a3 a5 ho4 hr4 hg5 ho5
      go_wp2_with fail
      ((with_reducible refine (heldTree_any _ _ _ _ _ (Nat.le_refl _) hh5 (by omega)).mono ?_); rintro e w5 ⟨rfl, hb5⟩)
      have hz5 := hb5.size
      have a36 := a35.below hb5 (by omega)
      have a56 := a55.below hb5 (by omega)
      have g6 := gtr g5 hb5
      have hr6 := RdI.below hr5 hb5 (by omega)
      have hh6 := RdI.below hh5 hb5 (Nat.le_refl _)
      clear s0 s1 a35 a55 hr5 hh5 hb5
      go_wp2_with fail
      ((with_reducible refine (HI.out _).mono ?_); rintro e w6 ⟨A9, c9, rfl, ho6, hc9, hb6⟩)
      have hz6 := hb6.size
      have a37 := a36.below hb6 (by omega)
      have a57 := a56.below hb6 (by omega)
      have g7 := gtr g6 hb6
      have hr7 := RdI.below hr6 hb6 (by omega)
      have hh7 := RdI.below hh6 hb6 (by omega)
      have nb6 := bel1 w6 (.cells #[.slice A9 xs.length xs.length, .string t] 35)
      have nz6 : (w6.alloc (.cells #[.slice A9 xs.length xs.length, .string t] 35)).heap.size = w6.heap.size + 1 := by simp
      have a38 := a37.below nb6 (by omega)
      have a58 := a57.below nb6 (by omega)
      have g8 := gtr g7 nb6
      have hr8 := RdI.below hr7 nb6 (by omega)
      have hh8 := RdI.below hh7 nb6 (by omega)
      have ho8 := ho6.below nb6
      have u0 : (w6.alloc (.cells #[.slice A9 xs.length xs.length, .string t] 35)).cell? ⟨w1.heap.size, 0, none⟩ = some (.slice A3 xs.length c3) := a38.cell 0
      have u1 : (w6.alloc (.cells #[.slice A9 xs.length xs.length, .string t] 35)).cell? ⟨w1.heap.size, 1, none⟩ = some (.string t) := a38.cell 1
      have hne6 : ¬ w6.heap.size = w1.heap.size := by omega
      have hne6' : ¬ w1.heap.size = w6.heap.size := by omega
      clear a36 a56 a37 a57 hr6 hr7 hh6 hh7 ho6 hb6 nb6
      go_wp2_with fail
      generalize w6.alloc (.cells #[.slice A9 xs.length xs.length, .string t] 35) = X at *
      ((with_reducible refine (eqTree_ok _ _ _ _ _ _ _ _ (Nat.le_refl _) (own_cap ho8 rfl hc9) (RdI.more hr8 (by omega))).mono ?_); rintro e w7 ⟨rfl, hb7⟩)
      have hz7 := hb7.size
      have a59 := a58.below hb7 (by omega)
      have g9 := gtr g8 hb7
      have hh9 := RdI.below hh8 hb7 (by omega)
      have v0 : w7.cell? ⟨w2.heap.size, 0, none⟩ = some (.slice A5 xs.length xs.length) := a59.cell 0
      have v1 : w7.cell? ⟨w2.heap.size, 1, none⟩ = some (.string t) := a59.cell 1
      clear u0 u1 a38 a58 hr8 hh8 ho8 hb7
      go_wp2_with fail
      ((with_reducible refine (heldTree_any _ _ _ _ _ (by omega) hh9 (by omega)).mono ?_); rintro e w8 ⟨rfl, hb8⟩)
      have g10 := gtr g9 hb8
      go_wp2
      go_ret
      exact ⟨rfl, g10⟩
  · go_enter Tryd.func5, Tryd.ntmps5
    go_wp2_with fail
    go_ret
    exact ⟨rfl, Below.refl _ _⟩
end Go.Proofs.YtmdnbmdkommmkaaDoor
