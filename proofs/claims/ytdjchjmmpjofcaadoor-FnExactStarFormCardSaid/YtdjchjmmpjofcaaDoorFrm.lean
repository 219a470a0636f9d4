/- The form of a star: the program's, by contract. Conditions: none. -/
import Derived.Test.YtdjchjmmpjofcaaDoorOrd
namespace Go.Proofs.YtdjchjmmpjofcaaDoor
open Go.RowKit Go.Maps
set_option linter.unusedVariables false

theorem FrN.cellsC {w : World} {lo n c : Nat} {A : Option Addr} {cs : List Value} (h : FrN w lo (.slice A n c) n cs cs ((nodesC n).map ints)) (i : Nat) (hi : i < n) :
    ∃ g A1 c1 A2 c2, A = some ⟨g, 0, none⟩ ∧ lo ≤ g ∧ g < w.heap.size ∧ w.cell? ⟨g, i * 2, none⟩ = some (.slice A1 i c1) ∧ w.cell? ⟨g, i * 2 + 1, none⟩ = some (.slice A2 i c2) ∧ Own w lo 3 (.slice A1 i c1) (ints (rng i)) ∧ Own w lo 3 (.slice A2 i c2) (ints (rng i)) ∧ cs[i * 2]? = some (.slice A1 i c1) ∧ cs[i * 2 + 1]? = some (.slice A2 i c2) := by
  obtain ⟨g, rfl, h1, h2, h3, -⟩ := ownsK_at h.own (by omega)
  have hl := nodesC_len n
  obtain ⟨e1, e2⟩ := gl_nodesC n i hi
  obtain ⟨A1, c1, k1, k2⟩ := h.node (i * 2) (by omega)
  obtain ⟨A2, c2, k3, k4⟩ := h.node (i * 2 + 1) (by omega)
  rw [e1, rng_len] at k1 k2
  rw [e2, rng_len] at k3 k4
  exact ⟨g, A1, c1, A2, c2, rfl, h1, h2, (h3 _ (by omega)).trans k1, (h3 _ (by omega)).trans k3, k2, k4, k1, k3⟩

set_option maxRecDepth 100000 in
set_option maxHeartbeats 3200000 in
theorem form_any (p n gL gR gB cL cR cB : Nat) (w : World) (hn : n ≤ 15) (hP : PR w w.heap.size p n gL gR gB cL cR cB) :
    Calls Tryd.prog 12 #[.pointer (some ⟨p, 0, none⟩), .int .i64 (n : Int)] w fun e w' => ∃ A c, e = .returned (.tuple #[.agg #[.slice A (n + 1) c], .bool true]) ∧ (∃ cs, FrN w' w.heap.size (.slice A (n + 1) c) (n + 1) cs cs ((nodesC (n + 1)).map ints)) ∧ Below w.heap.size w w' := by
  have HP := Lib.hid hP
  clear hP
  have HPT := Lib.hid fun r W (h : Below w.heap.size w W) (hr : W.cell? ⟨r, 0, none⟩ = some (.int .i64 (n : Int))) (hrl : r < W.heap.size) => parts_any p n gL gR gB cL cR cB r W hn ((HP.out.below h (Nat.le_refl _)).more h.size) hr hrl
  have HOR := Lib.hid fun r W (h : Below w.heap.size w W) (hr : W.cell? ⟨r, 0, none⟩ = some (.int .i64 (n : Int))) (hrl : r < W.heap.size) => order_any p n gL gR gB cL cR cB r W hn ((HP.out.below h (Nat.le_refl _)).more h.size) hr hrl
  have hn120 : ¬ (120 : Int) < (n : Int) + 1 := by omega
  go_enter Tryd.func12, Tryd.ntmps12
  go_wp2_with fail
  obtain ⟨W1, hW1⟩ : ∃ W, W = (w.alloc (.cells #[.slice none 0 0] 24)).alloc (.cells #[.int .i64 (n : Int)] 3) := ⟨_, rfl⟩
  have i0 : Blk W1 w.heap.size 24 #[.slice none 0 0] := by rw [hW1]; exact (Blk.new w _ _).alloc _
  have i1 : Blk W1 (w.heap.size + 1) 3 #[.int .i64 (n : Int)] := by rw [hW1]; exact Blk.new_at (w.alloc _) _ _ (by simp)
  have hA1 : Below w.heap.size w W1 := by rw [hW1]; exact bel2 _ _ _
  rw [← hW1]
  clear hW1
  have hc1 : W1.cell? ⟨w.heap.size + 1, 0, none⟩ = some (.int .i64 (n : Int)) := by have := i1.cell 0; simpa using this
  ((with_reducible refine (HPT.out (w.heap.size + 1) W1 hA1 hc1 i1.lt).mono ?_); rintro e w2 ⟨A2, c2, rfl, -, hb2⟩)
  have i2 := i0.below hb2 i0.lt
  have hA2 := gtr hA1 hb2
  clear i0 i1 hb2 HPT hc1
  go_wp2_with fail
  have i3 := i2.alloc (.cells #[.int .i64 (n : Int)] 3)
  have hb3 := bel1 w2 (.cells #[.int .i64 (n : Int)] 3)
  have hc3 : (w2.alloc (.cells #[.int .i64 (n : Int)] 3)).cell? ⟨w2.heap.size, 0, none⟩ = some (.int .i64 (n : Int)) := by simp [go_sem]
  have HOR3 := Lib.hid (HOR.out w2.heap.size (w2.alloc (.cells #[.int .i64 (n : Int)] 3)) (gtr hA2 hb3) hc3 (by simp))
  clear hc3
  ((with_reducible refine HOR3.out.mono ?_); rintro e w4 ⟨v, A, c, cs, rfl, hN, hb4⟩)
  have i4 := i3.below hb4 i3.lt
  have hA4 := gtr hA2 (gtr hb3 hb4)
  have hz4 := hA4.size
  have hz3 := (hb3.size)
  have hN4 := hN.le (lo' := w.heap.size + 1) (by have := i2.lt; omega)
  have hcap := (ownsK_cap hN.own).1
  have HN4 := Lib.hid hN4
  have HI4 := Lib.hid i4
  have HA4 := Lib.hid hA4
  have hlt4 := i4.lt
  clear i2 i3 i4 hN hN4 hb3 hb4 hA2 hA4 hA1 HOR
  go_wp2_with fail
  go_loopw [26] (fun i wr => ∃ k : Nat, i = .int .i64 k ∧ k ≤ n + 1 ∧ Below w4.heap.size w4 wr) (fun i _ => n + 1 - (intOf i).toNat)
  case atStart => exact ⟨0, rfl, Nat.zero_le _, Below.refl _ _⟩
  case round =>
    obtain ⟨k, rfl, hk, hb⟩ := hrel
    by_cases hlt : k < n + 1
    · obtain ⟨g, A1, c1, A3, c3, rfl, -, -, k1, k2, -, -, -, -⟩ := (HN4.out.below hb).cellsC k hlt
      have hltI : (k : Int) < (n : Int) + 1 := by omega
      have hk24 : ¬ (24 : Int) < (k : Int) := by omega
      go_wp2_with fail
      go_roundw
      case rel => exact ⟨k + 1, by go_num, by omega, gtr hb (bel1 _ _)⟩
      case measure => simp [intOf]; omega
    · have hltI : ¬ (k : Int) < (n : Int) + 1 := by omega
      have i5 := HI4.out.below hb hlt4
      have r0 : wr.cell? ⟨w.heap.size, 0, none⟩ = some (.slice none 0 0) := i5.cell 0
      have rf0 : wr.frozen? ⟨w.heap.size, 0, none⟩ = false := i5.frozen 0
      have HNF := Lib.hid (((HN4.out.below hb).kept (grown_set wr w.heap.size 0 (.slice A (n + 1) c)) (fun g hg => by injection hg with hg; omega)).le (show w.heap.size ≤ w.heap.size + 1 by omega))
      have HBF := Lib.hid ((gtr HA4.out hb).setCell (p := ⟨w.heap.size, 0, none⟩) (Nat.le_refl _) (.slice A (n + 1) c))
      clear hb i5
      go_wp2_with fail
      refine bodyPost_ret (v := .tuple #[.agg #[.slice A (n + 1) c], .bool true]) (by simp [results, Tryd.results12, go_sem, r0]) rfl ⟨A, c, rfl, ⟨cs, HNF.out⟩, HBF.out⟩
end Go.Proofs.YtdjchjmmpjofcaaDoor
