/- FnExactTrimBoard returns true for every board. Conditions: none. -/
import Derived.Test.YtidfbbegjpfjpaaDoorTrimB
import Derived.Test.YtidfbbegjpfjpaaDoorMarkB
namespace Go.Proofs.YtidfbbegjpfjpaaDoor
open Go.RowKit
set_option linter.unusedVariables false

set_option maxHeartbeats 3200000 in
theorem lawTrimBoard (A : Option Addr) (n c : Nat) (zs : List ByteArray) (w : World) (h : IsStrs w A n c zs) :
    Calls Tryd.prog 8 #[.agg #[.slice A n c]] w fun e w' => e = .returned (.bool true) ∧ Below w.heap.size w w' := by
  obtain ⟨hr, hl, hm⟩ := h.rd
  clear h
  generalize zs.take n = ss at hr hl hm
  subst hl
  have h1 := hr.len
  have h2 := hr.max
  rw [scells_len] at h1
  have HM := Lib.hid hm; clear hm
  go_enter Tryd.func8, Tryd.ntmps8
  go_wp2_with fail
  have kW : Blk (w.alloc (.cells #[.slice A ss.length c] 58)) w.heap.size 58 #[.slice A ss.length c] := Blk.new _ _ _
  have hzW : w.heap.size < (w.alloc (.cells #[.slice A ss.length c] 58)).heap.size := by simp
  have hAW : Below w.heap.size w (w.alloc (.cells #[.slice A ss.length c] 58)) := (Below.refl _ _).alloc (Nat.le_refl _) _
  have c0W : (w.alloc (.cells #[.slice A ss.length c] 58)).cell? ⟨w.heap.size, 0, none⟩ = some (.slice A ss.length c) := by simp [go_sem]
  generalize w.alloc (.cells #[.slice A ss.length c] 58) = W at *
  have hrW := hr.below hAW (Nat.le_refl _)
  have hle : w.heap.size ≤ W.heap.size := hAW.size
  refine (szBoard_any A c ss W w.heap.size hle hrW HM).mono ?_; rintro e w1 ⟨⟨m, rfl, hmm⟩, hb1⟩
  have g1 : Below W.heap.size W w1 := hb1
  have hs0 := fun w' (hg : Below W.heap.size W w') => (hg.cell (p := ⟨w.heap.size, 0, none⟩) hzW).trans c0W
  have HS0 := Lib.hid hs0; clear hs0 c0W
  have K1 : Hid (∀ w', Below W.heap.size W w' → Blk w' w.heap.size 58 #[.slice A ss.length c]) := fun w' hg => kW.below hg hzW
  have u1 := HS0.out _ g1
  have HMM := Lib.hid hmm; clear hmm
  by_cases hmn : m < 0
  · go_wp2
    go_ret
    exact ⟨rfl, gtr hAW hb1⟩
  · have hsm : ss.length ≤ 1048576 := by have := HMM.out; omega
    have HSH : Hid (Short ss) := by have := HMM.out; rcases this with h | h; exact absurd h hmn; exact h.2.2
    clear HMM
    have hrl := resTrimBoard_le ss
    obtain ⟨rs, hrs⟩ : ∃ rs, rs = resTrimBoard ss := ⟨_, rfl⟩
    obtain ⟨bb, hbb⟩ : ∃ bb, bb = boardB ss := ⟨_, rfl⟩
    have hS : ∀ A c w, Rd w w.heap.size A c (scells ss) → Calls Tryd.prog 47 #[.agg #[.slice A ss.length c]] w (RetBB w rs bb) := fun A c w h => by rw [hrs, hbb]; exact TrimBoardS_any A c ss w _ (Nat.le_refl _) h HSH hsm
    have hI : ∀ A c w, Rd w w.heap.size A c (scells ss) → Calls Tryd.prog 48 #[.agg #[.slice A ss.length c]] w (RetBB w rs bb) := fun A c w h => by rw [hrs, hbb]; exact TrimBoardI_any A c ss w _ (Nat.le_refl _) h HSH hsm
    rw [← hrs] at hrl
    have HHS := Lib.hid hS; have HHI := Lib.hid hI
    clear hrs hbb hS hI
    go_wp2_with fail
    refine (toBoard_any A c ss w1 w.heap.size (by have := hb1.size; omega) (hrW.below g1 hle) hsm).mono ?_; rintro e w2 ⟨A2, c2, rfl, ho2, hb2⟩
    have g2 := gtr g1 hb2
    have u2 := HS0.out _ g2
    go_wp2_with fail
    refine (HHS.out A2 c2 w2 ho2.rd).mono ?_; rintro e w3 ⟨A3, c3, rfl, ho3, hb3⟩
    have g3 := gtr g2 hb3
    have u3 := HS0.out _ g3
    clear u1 u2
    have u3a : ∀ o, (w3.alloc o).cell? ⟨w.heap.size, 0, none⟩ = some (.slice A ss.length c) := fun o => HS0.out _ (gtr g3 (bel1 _ o))
    go_wp2_with fail
    clear u3a
    obtain ⟨V3, hV3⟩ : ∃ V, V = w3.alloc (.cells #[.slice A3 rs.length c3] 63) := ⟨_, rfl⟩
    have k4 : Blk V3 w3.heap.size 63 #[.slice A3 rs.length c3] := by rw [hV3]; exact Blk.new _ _ _
    have zV3 : V3.heap.size = w3.heap.size + 1 := by rw [hV3]; simp
    have bV3 : Below w3.heap.size w3 V3 := by rw [hV3]; exact bel1 _ _
    rw [← hV3]
    clear hV3
    have ZV3 := Lib.hid zV3; clear zV3
    have g4 := gtr g3 bV3
    have ho3a := ho3.below bV3
    refine (toBoard_any A c ss V3 w.heap.size (by have := g4.size; omega) (hrW.below g4 hle) hsm).mono ?_; rintro e w4 ⟨A4, c4, rfl, ho4, hb4⟩
    have g5 := gtr g4 hb4
    have k4b := k4.below hb4 k4.lt
    have ho3b := ho3a.below hb4
    go_wp2_with fail
    obtain ⟨V4, hV4⟩ : ∃ V, V = w4.alloc (.cells #[.slice A4 ss.length c4] 63) := ⟨_, rfl⟩
    have k6 : Blk V4 w4.heap.size 63 #[.slice A4 ss.length c4] := by rw [hV4]; exact Blk.new _ _ _
    have zV4 : V4.heap.size = w4.heap.size + 1 := by rw [hV4]; simp
    have bV4 : Below w4.heap.size w4 V4 := by rw [hV4]; exact bel1 _ _
    rw [← hV4]
    clear hV4
    have ZV4 := Lib.hid zV4; clear zV4
    have g6 := gtr g5 bV4
    have k4c := k4b.below bV4 k4b.lt
    have ho3c := ho3b.below bV4
    have ho4a := ho4.below bV4
    refine (HHI.out A4 c4 V4 ho4a.rd).mono ?_; rintro e w5 ⟨A5, c5, rfl, ho5, hb5⟩
    have g7 := gtr g6 hb5
    have k4d := k4c.below hb5 k4c.lt
    have k6a := k6.below hb5 k6.lt
    have ho3d := ho3c.below hb5
    have ho4b := ho4a.below hb5
    clear k4 k4b k4c k6 ho3a ho3b ho3c ho4a u3
    have u5a : ∀ o, (w5.alloc o).cell? ⟨w3.heap.size, 0, none⟩ = some (.slice A3 rs.length c3) := fun o => (k4d.alloc o).cell 0
    go_wp2_with fail
    clear u5a
    obtain ⟨V5, hV5⟩ : ∃ V, V = w5.alloc (.cells #[.slice A5 rs.length c5] 63) := ⟨_, rfl⟩
    have k7 : Blk V5 w5.heap.size 63 #[.slice A5 rs.length c5] := by rw [hV5]; exact Blk.new _ _ _
    have zV5 : V5.heap.size = w5.heap.size + 1 := by rw [hV5]; simp
    have bV5 : Below w5.heap.size w5 V5 := by rw [hV5]; exact bel1 _ _
    rw [← hV5]
    clear hV5
    have g8 := gtr g7 bV5
    have HN3 := Lib.hid fun g hg => ho3.lt g hg
    have HN4 := Lib.hid fun g hg => ho4.lt g hg
    have HN5 := Lib.hid fun g hg => ho5.lt g hg
    have zW : W.heap.size ≤ w1.heap.size := hb1.size
    have z2 := hb2.size
    have z3 := hb3.size
    have z4 : w3.heap.size + 1 ≤ w4.heap.size := by have := hb4.size; have := ZV3.out; omega
    have z5 : w4.heap.size + 1 ≤ w5.heap.size := by have := hb5.size; have := ZV4.out; omega
    have z6 : w5.heap.size + 1 = V5.heap.size := zV5.symm
    have z4a : w3.heap.size + 1 ≤ V3.heap.size := by have := ZV3.out; omega
    have z5a : w4.heap.size + 1 ≤ V4.heap.size := by have := ZV4.out; omega
    have Z6 : w5.heap.size + 1 ≤ V5.heap.size := by omega
    have z4b : V3.heap.size ≤ w3.heap.size + 1 := by have := ZV3.out; omega
    have z5b : V4.heap.size ≤ w4.heap.size + 1 := by have := ZV4.out; omega
    have z6b : V5.heap.size ≤ w5.heap.size + 1 := by omega
    clear zV5 z6
    have k4e := k4d.below bV5 k4d.lt
    have k6b := k6a.below bV5 k6a.lt
    have ho3e := ho3d.below bV5
    have ho4c := ho4b.below bV5
    have ho5a := ho5.below bV5
    refine (eqBoard_same A5 A3 c5 c3 rs V5 _ (Nat.le_refl _) ho5a.rd ho3e.rd).mono ?_; rintro e w6 ⟨rfl, hb6⟩
    have g9 := gtr g8 hb6
    have k4f := k4e.below hb6 k4e.lt
    have k6c := k6b.below hb6 k6b.lt
    have k7a := k7.below hb6 k7.lt
    have ho3f := ho3e.below hb6
    have ho4d := ho4c.below hb6
    have ho5b := ho5a.below hb6
    clear k4d k4e k6a k6b k7 ho3d ho3e ho4b ho4c ho5a
    have v1 := HS0.out _ g9
    have v6 : w6.cell? ⟨w4.heap.size, 0, none⟩ = some (.slice A4 ss.length c4) := k6c.cell 0
    have hz6 := g9.size
    have hW6 : w.heap.size ≤ w6.heap.size := by omega
    go_wp2
    go_region_held3 (fun w' => w'.cell? ⟨w.heap.size, 0, none⟩ = some (.slice A ss.length c) ∧ w'.cell? ⟨w4.heap.size, 0, none⟩ = some (.slice A4 ss.length c4)) (go_keep)
      (first
        | (go_at_call 40; refine (toBoard_any A c ss w6.drew w.heap.size (by show _ ≤ w6.heap.size; omega) (hrW.below (gtr g9 (gdrew (a := w6))) hle) hsm).mono ?_; rintro e w7 ⟨A7, c7, rfl, ho7, hb7⟩; have d7 := gtr (gdrew (a := w6)) hb7; have s0 := HS0.out _ (gtr g9 d7); have s2 : w7.cell? ⟨w4.heap.size, 0, none⟩ = some (.slice A4 ss.length c4) := (k6c.below d7 k6c.lt).cell 0)
        | (go_at_call 43; refine (eqBoard_same A4 A7 c4 c7 ss w7 w7.heap.size (Nat.le_refl _) ((ho4d.below d7).rd) ho7.rd).mono ?_; rintro e w8 ⟨rfl, hb8⟩; have d8 := gtr d7 hb8; have t0 := HS0.out _ (gtr g9 d8); have t2 : w8.cell? ⟨w4.heap.size, 0, none⟩ = some (.slice A4 ss.length c4) := (k6c.below d8 k6c.lt).cell 0))
    have g10 := gtr g9 d8
    have hB8 := gtr hAW g10
    have k1 : Blk w8 w.heap.size 58 #[.slice A ss.length c] := K1.out _ g10
    have k4 := k4f.below d8 k4f.lt
    have k6 := k6c.below d8 k6c.lt
    have k7 := k7a.below d8 k7a.lt
    have ho3g := ho3f.below d8
    have ho4e := ho4d.below d8
    have ho5c := ho5b.below d8
    have z8 : V5.heap.size ≤ w8.heap.size := by have := hb6.size; have := d8.size; omega
    clear k4f k6c k7a ho3f ho4d ho5b v1 v6 s0 s2 t0 d7 ho7 hb7 hb8
    have y6 : w8.cell? ⟨w4.heap.size, 0, none⟩ = some (.slice A4 ss.length c4) := k6.cell 0
    clear t2
    go_wp2_with fail
    refine (markBoard_any A4 c4 ss w8 V3.heap.size ho4e (by omega) (by omega)).mono ?_; rintro e w9 ⟨rfl, ho4m, hg9⟩
    have n4 := HN4.out
    have k1a := k1.grown hg9 fun e => by have := n4 _ e.symm; omega
    have k4a := k4.grown hg9 fun e => by have := n4 _ e.symm; omega
    have k7a := k7.grown hg9 fun e => by have := n4 _ e.symm; omega
    have ho3h := ho3g.grown hg9 (own_apart HN3.out n4 (.inl (by omega)))
    have ho5d := ho5c.grown hg9 (own_apart HN5.out n4 (.inr (by omega)))
    have hB9 : Below w.heap.size w w9 := hB8.grown hg9 (by omega) fun g hg => by have := n4 _ hg; omega
    have z9 := hg9.size
    clear k1 k4 k6 k7 ho3g ho4e ho5c y6 n4 ho4m hB8
    have hno : ¬ ((1 + ss.length : Nat) : Int) < 0 := by omega
    have y4 : w9.cell? ⟨w3.heap.size, 0, none⟩ = some (.slice A3 rs.length c3) := k4a.cell 0
    have y7 : w9.cell? ⟨w5.heap.size, 0, none⟩ = some (.slice A5 rs.length c5) := k7a.cell 0
    go_wp2_with fail
    refine (eqBoard_same A5 A3 c5 c3 rs w9 _ (Nat.le_refl _) ho5d.rd ho3h.rd).mono ?_; rintro e w10 ⟨rfl, hb10⟩
    have k1b := k1a.below hb10 k1a.lt
    have k4b := k4a.below hb10 k4a.lt
    have k7b := k7a.below hb10 k7a.lt
    have ho3i := ho3h.below hb10
    have ho5e := ho5d.below hb10
    have hB10 := gtr hB9 (hb10)
    have z10 := hb10.size
    clear k1a k4a k7a ho3h ho5d y4 y7
    have y7 : w10.cell? ⟨w5.heap.size, 0, none⟩ = some (.slice A5 rs.length c5) := k7b.cell 0
    go_wp2_with fail
    refine (markBoard_any A5 c5 rs w10 V4.heap.size ho5e (by omega) (by omega)).mono ?_; rintro e w11 ⟨rfl, ho5m, hg11⟩
    have n5 := HN5.out
    have k1c := k1b.grown hg11 fun e => by have := n5 _ e.symm; omega
    have k4c := k4b.grown hg11 fun e => by have := n5 _ e.symm; omega
    have k7c := k7b.grown hg11 fun e => by have := n5 _ e.symm; omega
    have ho3j := ho3i.grown hg11 (own_apart HN3.out n5 (.inl (by omega)))
    have hB11 : Below w.heap.size w w11 := hB10.grown hg11 (by omega) fun g hg => by have := n5 _ hg; omega
    have z11 := hg11.size
    clear k1b k4b k7b ho3i ho5e y7 n5
    have hl5 : Rd w11 w11.heap.size A5 c5 (scells (marks 1 rs.length)) := (ho5m.rd)
    have y7 : w11.cell? ⟨w5.heap.size, 0, none⟩ = some (.slice A5 rs.length c5) := k7c.cell 0
    go_wp2_with fail
    refine (heldBoard_any A5 c5 rs.length w11 _ (Nat.le_refl _) hl5 (by omega)).mono ?_; rintro e w12 ⟨rfl, hb12⟩
    have k1d := k1c.below hb12 k1c.lt
    have k4d := k4c.below hb12 k4c.lt
    have k7d := k7c.below hb12 k7c.lt
    have ho3k := ho3j.below hb12
    have hl5a := (hl5.below hb12 (Nat.le_refl _)).more hb12.size
    have hB12 := gtr hB11 hb12
    have z12 := hb12.size
    clear k1c k4c k7c ho3j hl5 y7 ho5m
    have hno2 : ¬ ((1 + rs.length : Nat) : Int) < 0 := by omega
    have y1 : w12.cell? ⟨w.heap.size, 0, none⟩ = some (.slice A ss.length c) := k1d.cell 0
    go_wp2_with fail
    refine (toBoard_any A c ss w12 w.heap.size (by have := hB12.size; omega) (hr.below hB12 (Nat.le_refl _)) hsm).mono ?_; rintro e w13 ⟨A13, c13, rfl, ho13, hb13⟩
    have k4e := k4d.below hb13 k4d.lt
    have k7e := k7d.below hb13 k7d.lt
    have ho3l := ho3k.below hb13
    have hl5b := (hl5a.below hb13 (Nat.le_refl _)).more hb13.size
    have hB13 := gtr hB12 hb13
    clear k1d k4d k7d ho3k hl5a y1
    go_wp2_with fail
    refine (HHI.out A13 c13 w13 ho13.rd).mono ?_; rintro e w14 ⟨A14, c14, rfl, ho14, hb14⟩
    have k4f := k4e.below hb14 k4e.lt
    have k7f := k7e.below hb14 k7e.lt
    have ho3m := ho3l.below hb14
    have hl5c := (hl5b.below hb14 (Nat.le_refl _)).more hb14.size
    have hB14 := gtr hB13 hb14
    clear k4e k7e ho3l hl5b
    have y4 : ∀ o, (w14.alloc o).cell? ⟨w3.heap.size, 0, none⟩ = some (.slice A3 rs.length c3) := fun o => (k4f.alloc o).cell 0
    go_wp2_with fail
    obtain ⟨V14, hV14⟩ : ∃ V, V = w14.alloc (.cells #[.slice A14 rs.length c14] 63) := ⟨_, rfl⟩
    have bV14 : Below w14.heap.size w14 V14 := by rw [hV14]; exact bel1 _ _
    rw [← hV14]
    clear hV14 y4
    refine (eqBoard_same A14 A3 c14 c3 rs V14 _ (Nat.le_refl _) (ho14.below bV14).rd (ho3m.below bV14).rd).mono ?_; rintro e w15 ⟨rfl, hb15⟩
    have d15 := gtr bV14 hb15
    have k7g := k7f.below d15 k7f.lt
    have hl5d := (hl5c.below d15 (Nat.le_refl _)).more d15.size
    have hB15 := gtr hB14 d15
    have y7 : w15.cell? ⟨w5.heap.size, 0, none⟩ = some (.slice A5 rs.length c5) := k7g.cell 0
    go_wp2_with fail
    refine (heldBoard_any A5 c5 rs.length w15 _ (Nat.le_refl _) hl5d (by omega)).mono ?_; rintro e w16 ⟨rfl, hb16⟩
    go_wp2
    go_ret
    exact ⟨rfl, gtr hB15 hb16⟩
end Go.Proofs.YtidfbbegjpfjpaaDoor
