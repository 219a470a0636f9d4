/- TrimBoard: contracts of both. Conditions: none. -/
import Derived.Test.YtidfbbegjpfjpaaDoorTrimS
namespace Go.Proofs.YtidfbbegjpfjpaaDoor
open Go.RowKit
set_option linter.unusedVariables false

set_option maxHeartbeats 800000 in
theorem TrimBoardI_any (A : Option Addr) (c : Nat) (ss : List ByteArray) (w : World) (B : Nat) (hB : B ≤ w.heap.size) (h : Rd w B A c (scells ss)) (hsz : Hid (Short ss)) (hn : ss.length ≤ 1048576) :
    Calls Tryd.prog 48 #[.agg #[.slice A ss.length c]] w (RetBB w (resTrimBoard ss) (boardB ss)) := by
  have h1 := h.len
  have h2 := h.max
  rw [scells_len] at h1
  go_enter Tryd.func48, Tryd.ntmps48
  go_wp2_with fail
  obtain ⟨W, hW⟩ : ∃ W, W = (w.alloc (.cells #[.slice A ss.length c] 63)).alloc (.cells #[.slice none 0 0] 63) := ⟨_, rfl⟩
  have e0 : Blk W w.heap.size 63 #[.slice A ss.length c] := by rw [hW]; exact (Blk.new w _ _).alloc _
  have e1 : Blk W (w.heap.size + 1) 63 #[.slice none 0 0] := by rw [hW]; exact Blk.new_at (w.alloc _) _ _ (by simp)
  have hAW : Below w.heap.size w W := by rw [hW]; exact bel2 _ _ _
  have hzW : w.heap.size + 2 ≤ W.heap.size := by rw [hW]; simp
  rw [← hW]
  clear hW
  have hrW := h.below hAW hB
  cases hg : boardB ss
  · have HT : Hid (resTrimBoard ss = []) := by show _ = _; rw [resTrimBoard, hg]; rfl
    refine (goodBoardI_any A c ss W B (by omega) hrW hsz).mono ?_; rintro e w1 ⟨rfl, hb1⟩
    have f1 := e1.below hb1 e1.lt
    have q10 : w1.cell? ⟨w.heap.size + 1, 0, none⟩ = some (.slice none 0 0) := f1.cell 0
    have z10 := f1.frozen 0
    go_wp2
    refine bodyPost_ret (v := .tuple #[.agg #[.slice none 0 0], .bool false]) (by simp [results, Tryd.results48, go_sem, q10]) rfl ⟨none, 0, by rw [HT.out, hg]; rfl, by rw [HT.out]; exact own_none _ _ _, ?_⟩
    exact (gtr hAW hb1).setCell (by dsimp only; omega) _
  · have HT : Hid (resTrimBoard ss = trimL ss) := by show _ = _; rw [resTrimBoard, if_pos hg]
    have HBP := Lib.hid (boardB_of hg)
    refine (goodBoardI_any A c ss W B (by omega) hrW hsz).mono ?_; rintro e w1 ⟨rfl, hb1⟩
    have f0 := e0.below hb1 e0.lt
    have f1 := e1.below hb1 e1.lt
    have q00 : w1.cell? ⟨w.heap.size, 0, none⟩ = some (.slice A ss.length c) := f0.cell 0
    have hz1 := hb1.size
    clear e0 e1 f0
    go_wp2_with fail
    refine (trimI_any A c ss w1 B (by omega) (hrW.below hb1 (by omega)) HBP.out).mono ?_; rintro e w2 ⟨A2, c2, rfl, ho2, hb2⟩
    have f2 := f1.below hb2 f1.lt
    have q20 : w2.cell? ⟨w.heap.size + 1, 0, none⟩ = some (.slice none 0 0) := f2.cell 0
    have z20 := f2.frozen 0
    have HO := Lib.hid ho2; clear ho2
    go_wp2
    refine bodyPost_ret (v := .tuple #[.agg #[.slice A2 (trimL ss).length c2], .bool true]) (by simp [results, Tryd.results48, go_sem, q20]) rfl ⟨A2, c2, by rw [HT.out, hg], ?_, ?_⟩
    · rw [HT.out]
      exact (HO.out.far' _ _ (by dsimp only; omega)).le (by omega)
    · exact (gtr (gtr hAW hb1) hb2).setCell (by dsimp only; omega) _

set_option maxHeartbeats 800000 in
theorem TrimBoardS_any (A : Option Addr) (c : Nat) (ss : List ByteArray) (w : World) (B : Nat) (hB : B ≤ w.heap.size) (h : Rd w B A c (scells ss)) (hsz : Hid (Short ss)) (hn : ss.length ≤ 1048576) :
    Calls Tryd.prog 47 #[.agg #[.slice A ss.length c]] w (RetBB w (resTrimBoard ss) (boardB ss)) := by
  have h1 := h.len
  have h2 := h.max
  rw [scells_len] at h1
  go_enter Tryd.func47, Tryd.ntmps47
  go_wp2_with fail
  obtain ⟨W, hW⟩ : ∃ W, W = (w.alloc (.cells #[.slice A ss.length c] 63)).alloc (.cells #[.slice none 0 0] 63) := ⟨_, rfl⟩
  have e0 : Blk W w.heap.size 63 #[.slice A ss.length c] := by rw [hW]; exact (Blk.new w _ _).alloc _
  have e1 : Blk W (w.heap.size + 1) 63 #[.slice none 0 0] := by rw [hW]; exact Blk.new_at (w.alloc _) _ _ (by simp)
  have hAW : Below w.heap.size w W := by rw [hW]; exact bel2 _ _ _
  have hzW : w.heap.size + 2 ≤ W.heap.size := by rw [hW]; simp
  rw [← hW]
  clear hW
  have hrW := h.below hAW hB
  cases hg : boardB ss
  · have HT : Hid (resTrimBoard ss = []) := by show _ = _; rw [resTrimBoard, hg]; rfl
    refine (goodBoardS_any A c ss W B (by omega) hrW hsz).mono ?_; rintro e w1 ⟨rfl, hb1⟩
    have f1 := e1.below hb1 e1.lt
    have q10 : w1.cell? ⟨w.heap.size + 1, 0, none⟩ = some (.slice none 0 0) := f1.cell 0
    have z10 := f1.frozen 0
    go_wp2
    refine bodyPost_ret (v := .tuple #[.agg #[.slice none 0 0], .bool false]) (by simp [results, Tryd.results47, go_sem, q10]) rfl ⟨none, 0, by rw [HT.out, hg]; rfl, by rw [HT.out]; exact own_none _ _ _, ?_⟩
    exact (gtr hAW hb1).setCell (by dsimp only; omega) _
  · have HT : Hid (resTrimBoard ss = trimL ss) := by show _ = _; rw [resTrimBoard, if_pos hg]
    have HBP := Lib.hid (boardB_of hg)
    refine (goodBoardS_any A c ss W B (by omega) hrW hsz).mono ?_; rintro e w1 ⟨rfl, hb1⟩
    have f0 := e0.below hb1 e0.lt
    have f1 := e1.below hb1 e1.lt
    have q00 : w1.cell? ⟨w.heap.size, 0, none⟩ = some (.slice A ss.length c) := f0.cell 0
    have hz1 := hb1.size
    clear e0 e1 f0
    go_wp2_with fail
    refine (trimS_any A c ss w1 B (by omega) (hrW.below hb1 (by omega)) HBP.out hsz).mono ?_; rintro e w2 ⟨A2, c2, rfl, ho2, hb2⟩
    have f2 := f1.below hb2 f1.lt
    have q20 : w2.cell? ⟨w.heap.size + 1, 0, none⟩ = some (.slice none 0 0) := f2.cell 0
    have z20 := f2.frozen 0
    have HO := Lib.hid ho2; clear ho2
    go_wp2
    refine bodyPost_ret (v := .tuple #[.agg #[.slice A2 (trimL ss).length c2], .bool true]) (by simp [results, Tryd.results47, go_sem, q20]) rfl ⟨A2, c2, by rw [HT.out, hg], ?_, ?_⟩
    · rw [HT.out]
      exact (HO.out.far' _ _ (by dsimp only; omega)).le (by omega)
    · exact (gtr (gtr hAW hb1) hb2).setCell (by dsimp only; omega) _
end Go.Proofs.YtidfbbegjpfjpaaDoor
