/- ReadBoard of the program and of the reference, by contracts; the law. Conditions: none. -/
import Derived.Test.YtpepkpikeggceaaDoorRead
namespace Go.Proofs.YtpepkpikeggceaaDoor
open Go.RowKit
set_option linter.unusedVariables false

set_option maxHeartbeats 1600000 in
theorem readI_any (s : ByteArray) (w : World) (hs : s.size ≤ 1048576) :
    Calls Tryd.prog 40 #[.string s] w (RetBB w (resRead s) (boardB (pieces 47 s))) := by
  by_cases hz : s.size ≤ 72
  · have hSp : ∀ w, Calls Tryd.prog 16 #[.string s, .string ⟨#[47]⟩] w fun e w' => ∃ A c', e = .returned (.slice A (pieces 47 s).length c') ∧ Own w' w.heap.size 9 (.slice A (pieces 47 s).length c') (scells (pieces 47 s)) ∧ Below w.heap.size w w' := fun w => split_any 47 s w (by omega)
    have hpl := pieces_len 47 s
    have HSH := Lib.hid (pieces_short 47 s hs)
    have hrr : resRead s = if boardB (pieces 47 s) = true then pieces 47 s else [] := rfl
    generalize pieces 47 s = ps at *
    have HRR := Lib.hid hrr; clear hrr
    go_enter Tryd.func40, Tryd.ntmps40
    go_wp2_with fail
    obtain ⟨W, hW⟩ : ∃ W, W = w.alloc (.cells #[.slice none 0 0] 45) := ⟨_, rfl⟩
    have e1 : Blk W w.heap.size 45 #[.slice none 0 0] := by rw [hW]; exact Blk.new _ _ _
    have hAW : Below w.heap.size w W := by rw [hW]; exact bel1 _ _
    have hzW : W.heap.size = w.heap.size + 1 := by rw [hW]; simp
    rw [← hW]
    clear hW
    refine (hSp W).mono ?_; rintro e w1 ⟨A1, c1, rfl, ho1, hb1⟩
    have e1a := e1.below hb1 e1.lt
    go_wp2_with fail
    obtain ⟨V, hV⟩ : ∃ V, V = w1.alloc (.cells #[.slice A1 ps.length c1] 45) := ⟨_, rfl⟩
    have k4 : Blk V w1.heap.size 45 #[.slice A1 ps.length c1] := by rw [hV]; exact Blk.new _ _ _
    have e1b : Blk V w.heap.size 45 #[.slice none 0 0] := by rw [hV]; exact e1a.alloc _
    have bV : Below w1.heap.size w1 V := by rw [hV]; exact bel1 _ _
    rw [← hV]
    clear hV
    have ho1a := ho1.below bV
    refine (goodBoardI_any A1 c1 ps V _ (Nat.le_refl _) ho1a.rd HSH).mono ?_; rintro e w2 ⟨rfl, hb2⟩
    have k4a := k4.below hb2 k4.lt
    have e1c := e1b.below hb2 e1b.lt
    have ho1b := ho1a.below hb2
    have hB : Below w.heap.size w w2 := gtr (gtr hAW hb1) (gtr bV hb2)
    have y1 : w2.cell? ⟨w.heap.size, 0, none⟩ = some (.slice none 0 0) := e1c.cell 0
    have z1 := e1c.frozen 0
    have y4 : w2.cell? ⟨w1.heap.size, 0, none⟩ = some (.slice A1 ps.length c1) := k4a.cell 0
    have hlt : W.heap.size ≤ w1.heap.size := hb1.size
    cases hg : boardB ps
    · have HT : Hid (resRead s = []) := by show _ = _; rw [HRR.out, hg]; rfl
      go_wp2
      refine bodyPost_ret (v := .tuple #[.agg #[.slice none 0 0], .bool false]) (by simp [results, Tryd.results40, go_sem, y1]) rfl ⟨none, 0, by rw [HT.out]; first | rfl | (rw [hg]; rfl), by rw [HT.out]; exact own_none _ _ _, ?_⟩
      exact hB.setCell (by dsimp only; omega) _
    · have HT : Hid (resRead s = ps) := by show _ = _; rw [HRR.out, if_pos hg]
      go_wp2
      refine bodyPost_ret (v := .tuple #[.agg #[.slice A1 ps.length c1], .bool true]) (by simp [results, Tryd.results40, go_sem, y1]) rfl ⟨A1, c1, by rw [HT.out, hg], ?_, ?_⟩
      · rw [HT.out]
        exact (ho1b.far' _ _ (by dsimp only; omega)).le (by omega)
      · exact hB.setCell (by dsimp only; omega) _
  · have hg : boardB (pieces 47 s) = false := by
      cases h : boardB (pieces 47 s)
      · rfl
      · have := read_small h; omega
    have HT : Hid (resRead s = []) := by show _ = _; rw [resRead, hg]; rfl
    have HG := Lib.hid hg; clear hg
    go_enter Tryd.func40, Tryd.ntmps40
    go_wp2
    refine bodyPost_ret (v := .tuple #[.agg #[.slice none 0 0], .bool false]) (by simp [results, Tryd.results40, go_sem]) rfl ⟨none, 0, by rw [HT.out, HG.out]; rfl, by rw [HT.out]; exact own_none _ _ _, ?_⟩
    first | exact bel1 _ _ | exact (bel1 _ _).setCell (by dsimp only; omega) _

set_option maxHeartbeats 1600000 in
theorem readS_any (s : ByteArray) (w : World) (hs : s.size ≤ 1048576) :
    Calls Tryd.prog 21 #[.string s] w (RetBB w (resRead s) (boardB (pieces 47 s))) := by
  by_cases hz : s.size ≤ 100
  · have hSp : ∀ w, Calls Tryd.prog 47 #[.string s, .int .u8 47] w fun e w' => ∃ A c', e = .returned (.slice A (pieces 47 s).length c') ∧ Own w' w.heap.size 9 (.slice A (pieces 47 s).length c') (scells (pieces 47 s)) ∧ Below w.heap.size w w' := fun w => l1Split_any 47 s w (by omega)
    have hpl := pieces_len 47 s
    have HSH := Lib.hid (pieces_short 47 s hs)
    have hrr : resRead s = if boardB (pieces 47 s) = true then pieces 47 s else [] := rfl
    generalize pieces 47 s = ps at *
    have HRR := Lib.hid hrr; clear hrr
    go_enter Tryd.func21, Tryd.ntmps21
    go_wp2_with fail
    obtain ⟨W, hW⟩ : ∃ W, W = w.alloc (.cells #[.slice none 0 0] 45) := ⟨_, rfl⟩
    have e1 : Blk W w.heap.size 45 #[.slice none 0 0] := by rw [hW]; exact Blk.new _ _ _
    have hAW : Below w.heap.size w W := by rw [hW]; exact bel1 _ _
    have hzW : W.heap.size = w.heap.size + 1 := by rw [hW]; simp
    rw [← hW]
    clear hW
    refine (hSp W).mono ?_; rintro e w1 ⟨A1, c1, rfl, ho1, hb1⟩
    have e1a := e1.below hb1 e1.lt
    go_wp2_with fail
    obtain ⟨V, hV⟩ : ∃ V, V = w1.alloc (.cells #[.slice A1 ps.length c1] 45) := ⟨_, rfl⟩
    have k4 : Blk V w1.heap.size 45 #[.slice A1 ps.length c1] := by rw [hV]; exact Blk.new _ _ _
    have e1b : Blk V w.heap.size 45 #[.slice none 0 0] := by rw [hV]; exact e1a.alloc _
    have bV : Below w1.heap.size w1 V := by rw [hV]; exact bel1 _ _
    rw [← hV]
    clear hV
    have ho1a := ho1.below bV
    refine (goodBoardS_any A1 c1 ps V _ (Nat.le_refl _) ho1a.rd HSH).mono ?_; rintro e w2 ⟨rfl, hb2⟩
    have k4a := k4.below hb2 k4.lt
    have e1c := e1b.below hb2 e1b.lt
    have ho1b := ho1a.below hb2
    have hB : Below w.heap.size w w2 := gtr (gtr hAW hb1) (gtr bV hb2)
    have y1 : w2.cell? ⟨w.heap.size, 0, none⟩ = some (.slice none 0 0) := e1c.cell 0
    have z1 := e1c.frozen 0
    have y4 : w2.cell? ⟨w1.heap.size, 0, none⟩ = some (.slice A1 ps.length c1) := k4a.cell 0
    have hlt : W.heap.size ≤ w1.heap.size := hb1.size
    cases hg : boardB ps
    · have HT : Hid (resRead s = []) := by show _ = _; rw [HRR.out, hg]; rfl
      go_wp2
      refine bodyPost_ret (v := .tuple #[.agg #[.slice none 0 0], .bool false]) (by simp [results, Tryd.results21, go_sem, y1]) rfl ⟨none, 0, by rw [HT.out]; first | rfl | (rw [hg]; rfl), by rw [HT.out]; exact own_none _ _ _, ?_⟩
      exact hB.setCell (by dsimp only; omega) _
    · have HT : Hid (resRead s = ps) := by show _ = _; rw [HRR.out, if_pos hg]
      go_wp2
      refine bodyPost_ret (v := .tuple #[.agg #[.slice A1 ps.length c1], .bool true]) (by simp [results, Tryd.results21, go_sem, y1]) rfl ⟨A1, c1, by rw [HT.out, hg], ?_, ?_⟩
      · rw [HT.out]
        exact (ho1b.far' _ _ (by dsimp only; omega)).le (by omega)
      · exact hB.setCell (by dsimp only; omega) _
  · have hg : boardB (pieces 47 s) = false := by
      cases h : boardB (pieces 47 s)
      · rfl
      · have := read_small h; omega
    have HT : Hid (resRead s = []) := by show _ = _; rw [resRead, hg]; rfl
    have HG := Lib.hid hg; clear hg
    go_enter Tryd.func21, Tryd.ntmps21
    go_wp2
    refine bodyPost_ret (v := .tuple #[.agg #[.slice none 0 0], .bool false]) (by simp [results, Tryd.results21, go_sem]) rfl ⟨none, 0, by rw [HT.out, HG.out]; rfl, by rw [HT.out]; exact own_none _ _ _, ?_⟩
    first | exact bel1 _ _ | exact (bel1 _ _).setCell (by dsimp only; omega) _

end Go.Proofs.YtpepkpikeggceaaDoor
