/- ReadBoard of the program and of the reference, by contracts; the law. Conditions: none. -/
import Derived.Test.YtgnlnemhlikfnaaDoorRead
namespace Go.Proofs.YtgnlnemhlikfnaaDoor
open Go.RowKit
set_option linter.unusedVariables false

set_option maxHeartbeats 1600000 in
theorem readI_any (s : ByteArray) (w : World) (hs : s.size ≤ 1048576) :
    Calls Tryd.prog 41 #[.string s] w (RetBB w (resRead s) (boardB (pieces 47 s))) := by
  by_cases hz : s.size ≤ 72
  · have hSp : ∀ w, Calls Tryd.prog 87 #[.string s, .string ⟨#[47]⟩] w fun e w' => ∃ A c', e = .returned (.slice A (pieces 47 s).length c') ∧ Own w' w.heap.size 9 (.slice A (pieces 47 s).length c') (scells (pieces 47 s)) ∧ Below w.heap.size w w' := fun w => split_any 47 s w (by omega)
    have hpl := pieces_len 47 s
    have HSH := Lib.hid (pieces_short 47 s hs)
    have hrr : resRead s = if boardB (pieces 47 s) = true then pieces 47 s else [] := rfl
    generalize pieces 47 s = ps at *
    have HRR := Lib.hid hrr; clear hrr
    go_enter Tryd.func41, Tryd.ntmps41
    go_wp2_with fail
    obtain ⟨W, hW⟩ : ∃ W, W = w.alloc (.cells #[.slice none 0 0] 41) := ⟨_, rfl⟩
    have e1 : Blk W w.heap.size 41 #[.slice none 0 0] := by rw [hW]; exact Blk.new _ _ _
    have hAW : Below w.heap.size w W := by rw [hW]; exact bel1 _ _
    have hzW : W.heap.size = w.heap.size + 1 := by rw [hW]; simp
    rw [← hW]
    clear hW
    refine (hSp W).mono ?_; rintro e w1 ⟨A1, c1, rfl, ho1, hb1⟩
    have e1a := e1.below hb1 e1.lt
    go_wp2_with fail
    obtain ⟨V, hV⟩ : ∃ V, V = w1.alloc (.cells #[.slice A1 ps.length c1] 41) := ⟨_, rfl⟩
    have k4 : Blk V w1.heap.size 41 #[.slice A1 ps.length c1] := by rw [hV]; exact Blk.new _ _ _
    have e1b : Blk V w.heap.size 41 #[.slice none 0 0] := by rw [hV]; exact e1a.alloc _
    have bV : Below w1.heap.size w1 V := by rw [hV]; exact bel1 _ _
    rw [← hV]
    clear hV
    have ho1a := ho1.below bV
    refine (goodBoardI_any A1 c1 ps V _ (Nat.le_refl _) ho1a.rd HSH).mono ?_; rintro e w2 ⟨rfl, hb2⟩
    have k4a := k4.below hb2 k4.lt
    have e1c := e1b.below hb2 e1b.lt
    have ho1b := ho1a.below hb2
    have hB : Below w.heap.size w w2 := gtr (gtr hAW hb1) (gtr bV hb2)
    have y1 : w2.cell? ⟨w.heap.size, 0, none⟩ = some (.slice none 0 0) := e1c.cell 0
    have z1 := e1c.frozen 0
    have y4 : w2.cell? ⟨w1.heap.size, 0, none⟩ = some (.slice A1 ps.length c1) := k4a.cell 0
    have hlt : W.heap.size ≤ w1.heap.size := hb1.size
    cases hg : boardB ps
    · have HT : Hid (resRead s = []) := by show _ = _; rw [HRR.out, hg]; rfl
      go_wp2
      refine bodyPost_ret (v := .tuple #[.agg #[.slice none 0 0], .bool false]) (by simp [results, Tryd.results41, go_sem, y1]) rfl ⟨none, 0, by rw [HT.out]; first | rfl | (rw [hg]; rfl), by rw [HT.out]; exact own_none _ _ _, ?_⟩
      exact hB.setCell (by dsimp only; omega) _
    · have HT : Hid (resRead s = ps) := by show _ = _; rw [HRR.out, if_pos hg]
      go_wp2
      refine bodyPost_ret (v := .tuple #[.agg #[.slice A1 ps.length c1], .bool true]) (by simp [results, Tryd.results41, go_sem, y1]) rfl ⟨A1, c1, by rw [HT.out, hg], ?_, ?_⟩
      · rw [HT.out]
        exact (ho1b.far' _ _ (by dsimp only; omega)).le (by omega)
      · exact hB.setCell (by dsimp only; omega) _
  · have hg : boardB (pieces 47 s) = false := by
      cases h : boardB (pieces 47 s)
      · rfl
      · have := read_small h; omega
    have HT : Hid (resRead s = []) := by show _ = _; rw [resRead, hg]; rfl
    have HG := Lib.hid hg; clear hg
    go_enter Tryd.func41, Tryd.ntmps41
    go_wp2
    refine bodyPost_ret (v := .tuple #[.agg #[.slice none 0 0], .bool false]) (by simp [results, Tryd.results41, go_sem]) rfl ⟨none, 0, by rw [HT.out, HG.out]; rfl, by rw [HT.out]; exact own_none _ _ _, ?_⟩
    first | exact bel1 _ _ | exact (bel1 _ _).setCell (by dsimp only; omega) _

set_option maxHeartbeats 1600000 in
theorem readS_any (s : ByteArray) (w : World) (hs : s.size ≤ 1048576) :
    Calls Tryd.prog 40 #[.string s] w (RetBB w (resRead s) (boardB (pieces 47 s))) := by
  by_cases hz : s.size ≤ 100
  · have hSp : ∀ w, Calls Tryd.prog 86 #[.string s, .int .u8 47] w fun e w' => ∃ A c', e = .returned (.slice A (pieces 47 s).length c') ∧ Own w' w.heap.size 9 (.slice A (pieces 47 s).length c') (scells (pieces 47 s)) ∧ Below w.heap.size w w' := fun w => l1Split_any 47 s w (by omega)
    have hpl := pieces_len 47 s
    have HSH := Lib.hid (pieces_short 47 s hs)
    have hrr : resRead s = if boardB (pieces 47 s) = true then pieces 47 s else [] := rfl
    generalize pieces 47 s = ps at *
    have HRR := Lib.hid hrr; clear hrr
    go_enter Tryd.func40, Tryd.ntmps40
    go_wp2_with fail
    obtain ⟨W, hW⟩ : ∃ W, W = w.alloc (.cells #[.slice none 0 0] 41) := ⟨_, rfl⟩
    have e1 : Blk W w.heap.size 41 #[.slice none 0 0] := by rw [hW]; exact Blk.new _ _ _
    have hAW : Below w.heap.size w W := by rw [hW]; exact bel1 _ _
    have hzW : W.heap.size = w.heap.size + 1 := by rw [hW]; simp
    rw [← hW]
    clear hW
    refine (hSp W).mono ?_; rintro e w1 ⟨A1, c1, rfl, ho1, hb1⟩
    have e1a := e1.below hb1 e1.lt
    go_wp2_with fail
    obtain ⟨V, hV⟩ : ∃ V, V = w1.alloc (.cells #[.slice A1 ps.length c1] 41) := ⟨_, rfl⟩
    have k4 : Blk V w1.heap.size 41 #[.slice A1 ps.length c1] := by rw [hV]; exact Blk.new _ _ _
    have e1b : Blk V w.heap.size 41 #[.slice none 0 0] := by rw [hV]; exact e1a.alloc _
    have bV : Below w1.heap.size w1 V := by rw [hV]; exact bel1 _ _
    rw [← hV]
    clear hV
    have ho1a := ho1.below bV
    refine (goodBoardS_any A1 c1 ps V _ (Nat.le_refl _) ho1a.rd HSH).mono ?_; rintro e w2 ⟨rfl, hb2⟩
    have k4a := k4.below hb2 k4.lt
    have e1c := e1b.below hb2 e1b.lt
    have ho1b := ho1a.below hb2
    have hB : Below w.heap.size w w2 := gtr (gtr hAW hb1) (gtr bV hb2)
    have y1 : w2.cell? ⟨w.heap.size, 0, none⟩ = some (.slice none 0 0) := e1c.cell 0
    have z1 := e1c.frozen 0
    have y4 : w2.cell? ⟨w1.heap.size, 0, none⟩ = some (.slice A1 ps.length c1) := k4a.cell 0
    have hlt : W.heap.size ≤ w1.heap.size := hb1.size
    cases hg : boardB ps
    · have HT : Hid (resRead s = []) := by show _ = _; rw [HRR.out, hg]; rfl
      go_wp2
      refine bodyPost_ret (v := .tuple #[.agg #[.slice none 0 0], .bool false]) (by simp [results, Tryd.results40, go_sem, y1]) rfl ⟨none, 0, by rw [HT.out]; first | rfl | (rw [hg]; rfl), by rw [HT.out]; exact own_none _ _ _, ?_⟩
      exact hB.setCell (by dsimp only; omega) _
    · have HT : Hid (resRead s = ps) := by show _ = _; rw [HRR.out, if_pos hg]
      go_wp2
      refine bodyPost_ret (v := .tuple #[.agg #[.slice A1 ps.length c1], .bool true]) (by simp [results, Tryd.results40, go_sem, y1]) rfl ⟨A1, c1, by rw [HT.out, hg], ?_, ?_⟩
      · rw [HT.out]
        exact (ho1b.far' _ _ (by dsimp only; omega)).le (by omega)
      · exact hB.setCell (by dsimp only; omega) _
  · have hg : boardB (pieces 47 s) = false := by
      cases h : boardB (pieces 47 s)
      · rfl
      · have := read_small h; omega
    have HT : Hid (resRead s = []) := by show _ = _; rw [resRead, hg]; rfl
    have HG := Lib.hid hg; clear hg
    go_enter Tryd.func40, Tryd.ntmps40
    go_wp2
    refine bodyPost_ret (v := .tuple #[.agg #[.slice none 0 0], .bool false]) (by simp [results, Tryd.results40, go_sem]) rfl ⟨none, 0, by rw [HT.out, HG.out]; rfl, by rw [HT.out]; exact own_none _ _ _, ?_⟩
    first | exact bel1 _ _ | exact (bel1 _ _).setCell (by dsimp only; omega) _

set_option maxHeartbeats 3200000 in
theorem lawReadBoard (s : ByteArray) (w : World) (hs : s.size ≤ maxLen) :
    Calls Tryd.prog 9 #[.string s] w fun e w' => e = .returned (.bool true) ∧ Below w.heap.size w w' := by
  have hs' := hs
  unfold maxLen at hs'
  by_cases h : (s.size : Int) ≤ 1048576
  · have hle := resRead_le s
    obtain ⟨rs, hss⟩ : ∃ rs, rs = resRead s := ⟨_, rfl⟩
    obtain ⟨bb, hbb⟩ : ∃ bb, bb = boardB (pieces 47 s) := ⟨_, rfl⟩
    have hS : ∀ w, Calls Tryd.prog 40 #[.string s] w (RetBB w rs bb) := fun w => by rw [hss, hbb]; exact readS_any s w (by omega)
    have hI : ∀ w, Calls Tryd.prog 41 #[.string s] w (RetBB w rs bb) := fun w => by rw [hss, hbb]; exact readI_any s w (by omega)
    rw [← hss] at hle
    clear hss hbb
    go_enter Tryd.func9, Tryd.ntmps9
    go_wp2_with fail
    refine (hS _).mono ?_; rintro e w1 ⟨A1, c1, rfl, ho1, hb1⟩
    go_wp2_with fail
    obtain ⟨V1, hV1⟩ : ∃ V, V = w1.alloc (.cells #[.slice A1 rs.length c1] 41) := ⟨_, rfl⟩
    have k1 : Blk V1 w1.heap.size 41 #[.slice A1 rs.length c1] := by rw [hV1]; exact Blk.new _ _ _
    have zV1 : V1.heap.size = w1.heap.size + 1 := by rw [hV1]; simp
    have bV1 : Below w1.heap.size w1 V1 := by rw [hV1]; exact bel1 _ _
    rw [← hV1]
    clear hV1
    have ZV1 := Lib.hid zV1; clear zV1
    have B1 := gtr hb1 bV1
    have ho1a := ho1.below bV1
    refine (hI V1).mono ?_; rintro e w2 ⟨A2, c2, rfl, ho2, hb2⟩
    have B2 := gtr B1 hb2
    have ho1b := ho1a.below hb2
    have k1a := k1.below hb2 k1.lt
    have u1a : ∀ o, (w2.alloc o).cell? ⟨w1.heap.size, 0, none⟩ = some (.slice A1 rs.length c1) := fun o => (k1a.alloc o).cell 0
    go_wp2_with fail
    clear u1a
    obtain ⟨V2, hV2⟩ : ∃ V, V = w2.alloc (.cells #[.slice A2 rs.length c2] 41) := ⟨_, rfl⟩
    have k2 : Blk V2 w2.heap.size 41 #[.slice A2 rs.length c2] := by rw [hV2]; exact Blk.new _ _ _
    have zV2 : V2.heap.size = w2.heap.size + 1 := by rw [hV2]; simp
    have bV2 : Below w2.heap.size w2 V2 := by rw [hV2]; exact bel1 _ _
    rw [← hV2]
    clear hV2
    have ZV2 := Lib.hid zV2; clear zV2
    have B3 := gtr B2 bV2
    have ho1c := ho1b.below bV2
    have ho2a := ho2.below bV2
    have k1b := k1a.below bV2 k1a.lt
    refine (eqBoard_same A2 A1 c2 c1 rs V2 _ (Nat.le_refl _) ho2a.rd ho1c.rd).mono ?_; rintro e w3 ⟨rfl, hb3⟩
    have B4 := gtr B3 hb3
    have ho1d := ho1c.below hb3
    have ho2b := ho2a.below hb3
    have k1c := k1b.below hb3 k1b.lt
    have k2a := k2.below hb3 k2.lt
    have y5 : w3.cell? ⟨w2.heap.size, 0, none⟩ = some (.slice A2 rs.length c2) := k2a.cell 0
    have HN1 := Lib.hid fun g hg => ho1.lt g hg
    have HN2 := Lib.hid fun g hg => ho2.lt g hg
    have q1 : w.heap.size ≤ w1.heap.size := hb1.size
    have q2 : w1.heap.size + 1 ≤ w2.heap.size := by have := hb2.size; have := ZV1.out; omega
    have q3 : w2.heap.size + 1 ≤ w3.heap.size := by have := hb3.size; have := ZV2.out; omega
    have q4 : V1.heap.size ≤ w1.heap.size + 1 := by have := ZV1.out; omega
    have q5 : w1.heap.size + 1 ≤ V1.heap.size := by have := ZV1.out; omega
    clear ho1a ho1b ho1c ho2a k1 k1a k1b k2
    go_wp2_with fail
    clear y5
    refine (markBoard_any A2 c2 rs w3 V1.heap.size ho2b (by omega) (by omega)).mono ?_; rintro e w4 ⟨rfl, ho2m, hg4⟩
    have n2 := HN2.out
    have k1d := k1c.grown hg4 fun e => by have := n2 _ e.symm; omega
    have k2b := k2a.grown hg4 fun e => by have := n2 _ e.symm; omega
    have ho1e := ho1d.grown hg4 (own_apart HN1.out n2 (.inl (by omega)))
    have B5 : Below w.heap.size w w4 := B4.grown hg4 (by omega) fun g hg => by have := n2 _ hg; omega
    have q6 := hg4.size
    clear k1c k2a ho1d n2
    have y5 : w4.cell? ⟨w2.heap.size, 0, none⟩ = some (.slice A2 rs.length c2) := k2b.cell 0
    have hl5 : Rd w4 w4.heap.size A2 c2 (scells (marks 1 rs.length)) := ho2m.rd
    go_wp2_with fail
    clear y5
    refine (heldBoard_any A2 c2 rs.length w4 _ (Nat.le_refl _) hl5 (by omega)).mono ?_; rintro e w5 ⟨rfl, hb5⟩
    have k1e := k1d.below hb5 k1d.lt
    have k2c := k2b.below hb5 k2b.lt
    have ho1f := ho1e.below hb5
    have hl5a := (hl5.below hb5 (Nat.le_refl _)).more hb5.size
    have B6 := gtr B5 hb5
    clear k1d k2b ho1e hl5 ho2m
    have hno : ¬ ((1 + rs.length : Nat) : Int) < 0 := by omega
    go_wp2_with fail
    refine (hI w5).mono ?_; rintro e w6 ⟨A6, c6, rfl, ho6, hb6⟩
    have k1f := k1e.below hb6 k1e.lt
    have k2d := k2c.below hb6 k2c.lt
    have ho1g := ho1f.below hb6
    have hl5b := (hl5a.below hb6 (Nat.le_refl _)).more hb6.size
    have B7 := gtr B6 hb6
    clear k1e k2c ho1f hl5a
    have y3 : ∀ o, (w6.alloc o).cell? ⟨w1.heap.size, 0, none⟩ = some (.slice A1 rs.length c1) := fun o => (k1f.alloc o).cell 0
    go_wp2_with fail
    clear y3
    obtain ⟨V6, hV6⟩ : ∃ V, V = w6.alloc (.cells #[.slice A6 rs.length c6] 41) := ⟨_, rfl⟩
    have bV6 : Below w6.heap.size w6 V6 := by rw [hV6]; exact bel1 _ _
    rw [← hV6]
    clear hV6
    refine (eqBoard_same A6 A1 c6 c1 rs V6 _ (Nat.le_refl _) (ho6.below bV6).rd (ho1g.below bV6).rd).mono ?_; rintro e w7 ⟨rfl, hb7⟩
    have d7 := gtr bV6 hb7
    have k2e := k2d.below d7 k2d.lt
    have hl5c := (hl5b.below d7 (Nat.le_refl _)).more d7.size
    have B8 := gtr B7 d7
    have y5 : w7.cell? ⟨w2.heap.size, 0, none⟩ = some (.slice A2 rs.length c2) := k2e.cell 0
    go_wp2_with fail
    refine (heldBoard_any A2 c2 rs.length w7 _ (Nat.le_refl _) hl5c (by omega)).mono ?_; rintro e w8 ⟨rfl, hb8⟩
    go_wp2
    go_ret
    exact ⟨rfl, gtr B8 hb8⟩
  · go_enter Tryd.func9, Tryd.ntmps9
    go_wp2_with fail
    go_ret
    exact ⟨rfl, Below.refl _ _⟩
end Go.Proofs.YtgnlnemhlikfnaaDoor
