/- StarForm of the program, by contract. Conditions: none. -/
import Derived.Test.YtdjchjmmpjofcaaDoorFrm
namespace Go.Proofs.YtdjchjmmpjofcaaDoor
open Go.RowKit Go.Maps
set_option linter.unusedVariables false

set_option maxHeartbeats 1600000 in
theorem starFormI_any (n : Nat) (w : World) (hn : n ≤ 15) :
    Calls Tryd.prog 5 #[.int .i64 (n : Int)] w fun e w' => ∃ A c, e = .returned (.tuple #[.agg #[.slice A (n + 1) c], .bool true]) ∧ (∃ cs, FrN w' w.heap.size (.slice A (n + 1) c) (n + 1) cs cs ((nodesC (n + 1)).map ints)) ∧ Below w.heap.size w w' := by
  have hn0 : ¬ (n : Int) < 0 := by omega
  have hn15 : ¬ (15 : Int) < (n : Int) := by omega
  have HNP := Lib.hid fun W => newPool_any W
  go_enter Tryd.func5, Tryd.ntmps5
  go_wp2_with fail
  have i0 := Blk.new w 24 #[.slice none 0 0]
  have hA0 := bel1 w (.cells #[.slice none 0 0] 24)
  ((with_reducible refine (HNP.out _).mono ?_); rintro e w1 ⟨p, mf, rfl, hP1, hb1⟩)
  have i1 := i0.below hb1 i0.lt
  have hA1 := gtr hA0 hb1
  have hzW : (w.alloc (.cells #[.slice none 0 0] 24)).heap.size = w.heap.size + 1 := by simp
  rw [hzW] at hP1 hb1
  have HST := Lib.hid (star_any (w.heap.size + 1) p mf n w1 hn (by have := hb1.size; omega) hP1)
  clear i0 hA0 HNP hP1 hb1
  go_wp2_with fail
  ((with_reducible refine HST.out.mono ?_); rintro e w2 ⟨rfl, hb2, vL, vR, vB, us, vs, hP2⟩)
  obtain ⟨gL, gR, gB, cL, cR, cB, hPR⟩ := hP2.read
  have i2 := i1.below hb2 (by omega)
  have hA2 := hA1.trans (hb2.mono (by omega))
  have HFM := Lib.hid (form_any p n gL gR gB cL cR cB w2 hn hPR)
  clear i1 hA1 HST hP2 hPR hb2
  go_wp2_with fail
  ((with_reducible refine HFM.out.mono ?_); rintro e w3 ⟨A, c, rfl, ⟨cs, hN⟩, hb3⟩)
  have i3 := i2.below hb3 i2.lt
  have hA3 := gtr hA2 hb3
  have hlt2 := i2.lt
  have r0 : w3.cell? ⟨w.heap.size, 0, none⟩ = some (.slice none 0 0) := by have := i3.cell 0; simpa using this
  have rf0 : w3.frozen? ⟨w.heap.size, 0, none⟩ = false := i3.frozen 0
  have HNF := Lib.hid (((hN.le (show w.heap.size + 1 ≤ w2.heap.size by omega)).kept (grown_set w3 w.heap.size 0 (.slice A (n + 1) c)) (fun g hg => by injection hg with hg; omega)).le (show w.heap.size ≤ w.heap.size + 1 by omega))
  have HBF := Lib.hid (hA3.setCell (p := ⟨w.heap.size, 0, none⟩) (Nat.le_refl _) (.slice A (n + 1) c))
  clear i2 i3 hA2 hA3 hN hb3 HFM hlt2
  go_wp2_with fail
  refine bodyPost_ret (v := .tuple #[.agg #[.slice A (n + 1) c], .bool true]) (by simp [results, Tryd.results5, go_sem, r0]) rfl ⟨A, c, rfl, ⟨cs, HNF.out⟩, HBF.out⟩
set_option maxHeartbeats 800000 in
theorem starFormI_out (a : Int) (w : World) (ha : a < 0 ∨ 15 < a) :
    Calls Tryd.prog 5 #[.int .i64 a] w fun e w' => e = .returned (.tuple #[.agg #[.slice none 0 0], .bool false]) ∧ Below w.heap.size w w' := by
  have hb := bel1 w (.cells #[.slice none 0 0] 24)
  have HB := Lib.hid hb
  clear hb
  rcases ha with ha | ha
  · go_enter Tryd.func5, Tryd.ntmps5
    go_wp2
    refine bodyPost_ret (v := .tuple #[.agg #[.slice none 0 0], .bool false]) (by simp [results, Tryd.results5, go_sem]) rfl ⟨rfl, ?_⟩
    first | exact HB.out | exact HB.out.setCell (Nat.le_refl _) _
  · have h0 : ¬ a < 0 := by omega
    go_enter Tryd.func5, Tryd.ntmps5
    go_wp2
    refine bodyPost_ret (v := .tuple #[.agg #[.slice none 0 0], .bool false]) (by simp [results, Tryd.results5, go_sem]) rfl ⟨rfl, ?_⟩
    first | exact HB.out | exact HB.out.setCell (Nat.le_refl _) _
end Go.Proofs.YtdjchjmmpjofcaaDoor
