/- FnExactGoodBoard returns true for every board. Conditions: none. -/
import Derived.Test.YtjhfnjgeikeajaaDoorBoard1
namespace Go.Proofs.YtjhfnjgeikeajaaDoor
open Go.RowKit
set_option linter.unusedVariables false

set_option maxHeartbeats 1600000 in
theorem lawGoodBoard (A : Option Addr) (n c : Nat) (zs : List ByteArray) (w : World) (h : IsStrs w A n c zs) :
    Calls Tryd.prog 6 #[.agg #[.slice A n c]] w fun e w' => e = .returned (.bool true) ∧ Below w.heap.size w w' := by
  obtain ⟨hr, hl, hm⟩ := h.rd
  clear h
  generalize zs.take n = ss at hr hl hm
  subst hl
  have h1 := hr.len
  have h2 := hr.max
  rw [scells_len] at h1
  have HM := Lib.hid hm; clear hm
  go_enter Tryd.func6, Tryd.ntmps6
  go_wp2_with fail
  have hzW : w.heap.size < (w.alloc (.cells #[.slice A ss.length c] 28)).heap.size := by simp
  have hAW : Below w.heap.size w (w.alloc (.cells #[.slice A ss.length c] 28)) := (Below.refl _ _).alloc (Nat.le_refl _) _
  have c0W : (w.alloc (.cells #[.slice A ss.length c] 28)).cell? ⟨w.heap.size, 0, none⟩ = some (.slice A ss.length c) := by simp [go_sem]
  generalize w.alloc (.cells #[.slice A ss.length c] 28) = W at *
  have hrW := hr.below hAW (Nat.le_refl _)
  have hle : w.heap.size ≤ W.heap.size := hAW.size
  refine (szBoard_any A c ss W w.heap.size hle hrW HM).mono ?_; rintro e w1 ⟨⟨m, rfl, hmm⟩, hb1⟩
  have g1 : Below W.heap.size W w1 := hb1
  have hs0 := fun w' (hg : Below W.heap.size W w') => (hg.cell (p := ⟨w.heap.size, 0, none⟩) hzW).trans c0W
  have HS0 := Lib.hid hs0; clear hs0 c0W
  have u10 := HS0.out _ g1
  have HMM := Lib.hid hmm; clear hmm
  by_cases hmn : m < 0
  · go_wp2
    go_ret
    exact ⟨rfl, gtr hAW hb1⟩
  · have hsm : ss.length ≤ 1048576 := by have := HMM.out; omega
    have HSH : Hid (Short ss) := by have := HMM.out; rcases this with h | h; exact absurd h hmn; exact h.2.2
    clear HMM
    go_wp2_with fail
    refine (toBoard_any A c ss w1 w.heap.size (by have := hb1.size; omega) (hrW.below g1 hle) hsm).mono ?_; rintro e w2 ⟨A2, c2, rfl, ho2, hb2⟩
    have g2 := gtr g1 hb2
    have u20 := HS0.out _ g2
    go_wp2_with fail
    refine (goodBoardS_any A2 c2 ss w2 _ (Nat.le_refl _) ho2.rd HSH).mono ?_; rintro e w3 ⟨rfl, hb3⟩
    have g3 := gtr g2 hb3
    have u30 := HS0.out _ g3
    clear u10 u20
    go_wp2_with fail
    refine (toBoard_any A c ss w3 w.heap.size (by have := g3.size; omega) (hrW.below g3 hle) hsm).mono ?_; rintro e w4 ⟨A4, c4, rfl, ho4, hb4⟩
    have g4 := gtr g3 hb4
    go_wp2_with fail
    have hzV : w4.heap.size < (w4.alloc (.cells #[.slice A4 ss.length c4] 31)).heap.size := by simp
    have hAV : Below w4.heap.size w4 (w4.alloc (.cells #[.slice A4 ss.length c4] 31)) := (Below.refl _ _).alloc (Nat.le_refl _) _
    have c0V : (w4.alloc (.cells #[.slice A4 ss.length c4] 31)).cell? ⟨w4.heap.size, 0, none⟩ = some (.slice A4 ss.length c4) := by simp [go_sem]
    generalize w4.alloc (.cells #[.slice A4 ss.length c4] 31) = V at *
    have g5 := gtr g4 hAV
    have ho5 := ho4.below hAV
    refine (goodBoardI_any A4 c4 ss V _ (Nat.le_refl _) ho5.rd HSH).mono ?_; rintro e w6 ⟨rfl, hb6⟩
    have g6 := gtr g5 hb6
    have ho6 := ho5.below hb6
    have hs0 := fun w' (hg : Below V.heap.size V w') => (hg.cell (p := ⟨w4.heap.size, 0, none⟩) hzV).trans c0V
    have HV0 := Lib.hid hs0; clear hs0 c0V u30
    have v0 := HS0.out _ g6
    have x0 := HV0.out _ hb6
    have hz6 := g6.size
    go_wp2
    go_region_held3 (fun w' => w'.cell? ⟨w.heap.size, 0, none⟩ = some (.slice A ss.length c) ∧ w'.cell? ⟨w4.heap.size, 0, none⟩ = some (.slice A4 ss.length c4)) (go_keep)
      (first
        | (go_at_call 23; refine (toBoard_any A c ss w6.drew w.heap.size (by show _ ≤ w6.heap.size; omega) (hrW.below (gtr g6 (gdrew (a := w6))) hle) hsm).mono ?_; rintro e w7 ⟨A7, c7, rfl, ho7, hb7⟩; have g7 := gtr (gdrew (a := w6)) hb7; have s0 := HS0.out _ (gtr g6 g7); have s2 := HV0.out _ (gtr hb6 g7))
        | (go_at_call 25; refine (eqBoard_same A4 A7 c4 c7 ss w7 w7.heap.size (Nat.le_refl _) ((ho6.below g7).rd) ho7.rd).mono ?_; rintro e w8 ⟨rfl, hb8⟩; have g8 := gtr g7 hb8; have t0 := HS0.out _ (gtr g6 g8); have t2 := HV0.out _ (gtr hb6 g8)))
    go_wp2
    go_ret
    exact ⟨rfl, gtr hAW (gtr g6 g8)⟩
end Go.Proofs.YtjhfnjgeikeajaaDoor
