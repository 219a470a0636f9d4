/- FnExactTreeValue returns true for every tree. Conditions: none. -/
import Derived.Test.YtidfbbegjpfjpaaDoorTv3
import Derived.Test.YtidfbbegjpfjpaaDoorDyW
namespace Go.Proofs.YtidfbbegjpfjpaaDoor
open Go.RowKit
set_option linter.unusedVariables false

set_option maxHeartbeats 3200000 in
theorem lawTreeValue (A : Option Addr) (n c : Nat) (zs : List Int) (s : ByteArray) (w : World) (h : IsRow .i64 w A n c zs) (hs : s.size ≤ maxLen) :
    Calls Tryd.prog 6 #[.agg #[.slice A n c, .string s]] w fun e w' => e = .returned (.bool true) ∧ Below w.heap.size w w' := by
  obtain ⟨hr, hl⟩ := h.rd
  clear h
  generalize zs.take n = xs at hr hl
  subst hl
  have h1 := hr.len
  have h2 := hr.max
  have hs' := hs
  unfold maxLen at hs'
  obtain ⟨a, b, cc, hv⟩ : ∃ a b cc, tvV (treeVal xs s) = .tuple #[.agg #[.int .i64 a, .int .i64 b], .bool cc] := ⟨_, _, _, rfl⟩
  have HS : Hid (∀ A c W, RdI W W.heap.size A c xs → Calls Tryd.prog 35 #[.agg #[.slice A xs.length c, .string s]] W fun e w' => e = .returned (.tuple #[.agg #[.int .i64 a, .int .i64 b], .bool cc]) ∧ Below W.heap.size W w') := fun A c W hr => by
    have := treeValS_any A c xs s W W.heap.size (Nat.le_refl _) hr hs
    rwa [hv] at this
  have HI : Hid (∀ A c W, RdI W W.heap.size A c xs → Calls Tryd.prog 36 #[.agg #[.slice A xs.length c, .string s]] W fun e w' => e = .returned (.tuple #[.agg #[.int .i64 a, .int .i64 b], .bool cc]) ∧ Below W.heap.size W w') := fun A c W hr => by
    have := treeValI_any A c xs s W W.heap.size (Nat.le_refl _) hr hs
    rwa [hv] at this
  clear hv
  go_enter Tryd.func6, Tryd.ntmps6
  go_wp2_with fail
  have hzW : w.heap.size < (w.alloc (.cells #[.slice A xs.length c, .string s] 24)).heap.size := by simp
  have hsW : (w.alloc (.cells #[.slice A xs.length c, .string s] 24)).heap.size = w.heap.size + 1 := by simp
  have hAW : Below w.heap.size w (w.alloc (.cells #[.slice A xs.length c, .string s] 24)) := (Below.refl _ _).alloc (Nat.le_refl _) _
  have c0W : (w.alloc (.cells #[.slice A xs.length c, .string s] 24)).cell? ⟨w.heap.size, 0, none⟩ = some (.slice A xs.length c) := by simp [go_sem]
  have c1W : (w.alloc (.cells #[.slice A xs.length c, .string s] 24)).cell? ⟨w.heap.size, 1, none⟩ = some (.string s) := by simp [go_sem]
  generalize w.alloc (.cells #[.slice A xs.length c, .string s] 24) = W at *
  have hsW := Lib.hid hsW
  refine (szTree_any A c xs.length s W h1 h2 hs').mono ?_; rintro e w1 ⟨⟨m, rfl, hm⟩, hb1⟩
  have g1 : Below W.heap.size W w1 := hb1
  have hrW := hr.below hAW (Nat.le_refl _)
  have hs0 := fun w' (hg : Below W.heap.size W w') => (hg.cell (p := ⟨w.heap.size, 0, none⟩) hzW).trans c0W
  have hs1 := fun w' (hg : Below W.heap.size W w') => (hg.cell (p := ⟨w.heap.size, 1, none⟩) hzW).trans c1W
  have HS0 := Lib.hid hs0; have HS1 := Lib.hid hs1; clear hs0 hs1 c0W c1W
  have u10 := HS0.out _ g1; have u11 := HS1.out _ g1
  have hle : w.heap.size ≤ W.heap.size := hAW.size
  by_cases hmn : m < 0
  · go_wp2
    go_ret
    exact ⟨rfl, gtr hAW hb1⟩
  · have hsm : xs.length ≤ 1048576 := by omega
    clear hm
    go_wp2_with fail
    refine (toTree_any A c xs s w1 w.heap.size (by have := hb1.size; omega) (hrW.below g1 hle) hsm).mono ?_; rintro e w2 ⟨A2, c2, rfl, ho2, hb2⟩
    have g2 := gtr g1 hb2
    have u20 := HS0.out _ g2; have u21 := HS1.out _ g2
    go_wp2_with fail
    ((with_reducible refine (HS.out A2 c2 w2 (ho2.rd rfl)).mono ?_); rintro e w2' ⟨rfl, hb2'⟩)
    have hq1 := Blk.new w2' 44 #[.int .i64 a, .int .i64 b]
    have hbq := bel1 w2' (.cells #[.int .i64 a, .int .i64 b] 44)
    have uu0 : ∀ o', (w2'.alloc o').cell? ⟨w.heap.size, 0, none⟩ = some (.slice A xs.length c) := fun o' => HS0.out _ (gtr (gtr g2 hb2') (bel1 _ o'))
    have uu1 : ∀ o', (w2'.alloc o').cell? ⟨w.heap.size, 1, none⟩ = some (.string s) := fun o' => HS1.out _ (gtr (gtr g2 hb2') (bel1 _ o'))
    clear u20 u21
    go_wp2_with fail
    clear uu0 uu1
    generalize hw3 : w2'.alloc (.cells #[.int .i64 a, .int .i64 b] 44) = w3 at *
    have hq1z := hq1.lt
    have g3 := gtr (gtr g2 hb2') hbq
    have u30 := HS0.out _ g3; have u31 := HS1.out _ g3
    clear u10 u11
    refine (toTree_any A c xs s w3 w.heap.size (by have := g3.size; omega) (hrW.below g3 hle) hsm).mono ?_; rintro e w4 ⟨A4, c4, rfl, ho4, hb4⟩
    have g4 := gtr g3 hb4
    go_wp2_with fail
    have hzV : w4.heap.size < (w4.alloc (.cells #[.slice A4 xs.length c4, .string s] 29)).heap.size := by simp
    have hsV : (w4.alloc (.cells #[.slice A4 xs.length c4, .string s] 29)).heap.size = w4.heap.size + 1 := by simp
    have hAV : Below w4.heap.size w4 (w4.alloc (.cells #[.slice A4 xs.length c4, .string s] 29)) := (Below.refl _ _).alloc (Nat.le_refl _) _
    have c0V : (w4.alloc (.cells #[.slice A4 xs.length c4, .string s] 29)).cell? ⟨w4.heap.size, 0, none⟩ = some (.slice A4 xs.length c4) := by simp [go_sem]
    have c1V : (w4.alloc (.cells #[.slice A4 xs.length c4, .string s] 29)).cell? ⟨w4.heap.size, 1, none⟩ = some (.string s) := by simp [go_sem]
    generalize w4.alloc (.cells #[.slice A4 xs.length c4, .string s] 29) = V at *
    have hsV := Lib.hid hsV
    have g5 := gtr g4 hAV
    have ho5 := ho4.below hAV
    ((with_reducible refine (HI.out A4 c4 V (ho5.rd rfl)).mono ?_); rintro e w5' ⟨rfl, hb5'⟩)
    have hs0 := fun w' (hg : Below V.heap.size V w') => (hg.cell (p := ⟨w4.heap.size, 0, none⟩) hzV).trans c0V
    have hs1 := fun w' (hg : Below V.heap.size V w') => (hg.cell (p := ⟨w4.heap.size, 1, none⟩) hzV).trans c1V
    have HV0 := Lib.hid hs0; have HV1 := Lib.hid hs1; clear hs0 hs1 c0V c1V u30 u31
    have hq2 := ((hq1.below hb4 hq1z).alloc (.cells #[.slice A4 xs.length c4, .string s] 29))
    have hz4 := hb4.size
    have hq3 : Blk w5' w2'.heap.size 44 #[.int .i64 a, .int .i64 b] := (hq1.below (gtr hb4 hAV) hq1z).below hb5' (by have := hAV.size; omega)
    have g5' := gtr g5 hb5'
    have k0 : ∀ o', (w5'.alloc o').cell? ⟨w2'.heap.size, 0, none⟩ = some (.int .i64 a) := fun o' => (hq3.alloc o').cell 0
    have k1 : ∀ o', (w5'.alloc o').cell? ⟨w2'.heap.size, 1, none⟩ = some (.int .i64 b) := fun o' => (hq3.alloc o').cell 1
    have hq3l := hq3.lt
    have hne1 : ¬ w2'.heap.size = w5'.heap.size := by omega
    have hne2 : ¬ w5'.heap.size = w2'.heap.size := by omega
    have ho5' := ho5.below hb5'
    have g5a := gtr g5' (bel1 w5' (.cells #[.int .i64 a, .int .i64 b] 44))
    have ho5a := ho5'.below (bel1 w5' (.cells #[.int .i64 a, .int .i64 b] 44))
    have gV5 := gtr hb5' (bel1 w5' (.cells #[.int .i64 a, .int .i64 b] 44))
    clear hq2 hq1 hq3 hb5' hbq hb2' hb4 g4 g5 g5' ho5 ho5' hAV
    cases cc
    all_goals
      go_wp2_with fail
      clear k0 k1
      generalize w5'.alloc (.cells #[.int .i64 a, .int .i64 b] 44) = w5 at *
      ((with_reducible refine (eqDy_same _ _ _).mono ?_); rintro e w6 ⟨rfl, hb6'⟩)
      have g6 := gtr g5a hb6'
      have ho6 := ho5a.below hb6'
      have hb6 := gtr gV5 hb6'
      have v0 := HS0.out _ g6; have v1 := HS1.out _ g6
      have x0 := HV0.out _ hb6; have x1 := HV1.out _ hb6
      have hz6 := g6.size
      go_wp2
      go_region_held3 (fun w' => w'.cell? ⟨w.heap.size, 0, none⟩ = some (.slice A xs.length c) ∧ w'.cell? ⟨w.heap.size, 1, none⟩ = some (.string s) ∧ w'.cell? ⟨w4.heap.size, 0, none⟩ = some (.slice A4 xs.length c4) ∧ w'.cell? ⟨w4.heap.size, 1, none⟩ = some (.string s)) (go_keep)
        (first
          | (go_at_call 15; refine (toTree_any A c xs s w6.drew w.heap.size (by show _ ≤ w6.heap.size; omega) (hrW.below (gtr g6 (gdrew (a := w6))) hle) hsm).mono ?_; rintro e w7 ⟨A7, c7, rfl, ho7, hb7⟩; have g7 := gtr (gdrew (a := w6)) hb7; have s0 := HS0.out _ (gtr g6 g7); have s1 := HS1.out _ (gtr g6 g7); have s2 := HV0.out _ (gtr hb6 g7); have s3 := HV1.out _ (gtr hb6 g7))
          | (go_at_call 18; refine (eqTree_same A4 A7 c4 c7 xs s w7 w7.heap.size (Nat.le_refl _) ((ho6.below g7).rd rfl) (ho7.rd rfl)).mono ?_; rintro e w8 ⟨rfl, hb8⟩; have g8 := gtr g7 hb8; have t0 := HS0.out _ (gtr g6 g8); have t1 := HS1.out _ (gtr g6 g8); have t2 := HV0.out _ (gtr hb6 g8); have t3 := HV1.out _ (gtr hb6 g8)))
      go_wp2
      go_ret
      exact ⟨rfl, gtr hAW (gtr g6 g8)⟩
end Go.Proofs.YtidfbbegjpfjpaaDoor
