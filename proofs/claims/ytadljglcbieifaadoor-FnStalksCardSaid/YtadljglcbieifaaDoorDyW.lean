/- The law that both StalkValue agree, walked. Conditions: none. -/
import Derived.Test.YtadljglcbieifaaDoorDyV
namespace Go.Proofs.YtadljglcbieifaaDoor
open Go.RowKit
set_option linter.unusedVariables false

set_option maxHeartbeats 400000 in
theorem stalkVal_bad (s : ByteArray) (hs : s.size ≤ maxLen) (hb : signsB s 16 = false) (w : World) :
    (Calls Tryd.prog 29 #[.string s] w fun e w' => e = .returned (.tuple #[.agg #[.int .i64 0, .int .i64 0], .bool false]) ∧ Below w.heap.size w w') ∧
    (Calls Tryd.prog 28 #[.string s] w fun e w' => e = .returned (.tuple #[.agg #[.int .i64 0, .int .i64 0], .bool false]) ∧ Below w.heap.size w w') := by
  have HS := fun W => goodStalkS_any s W hs
  have HI := fun W => goodStalkI_any s W hs
  rw [hb] at HS HI
  have HS' := Lib.hid HS; have HI' := Lib.hid HI; clear HS HI hb
  constructor
  · go_enter Tryd.func29, Tryd.ntmps29
    go_wp2_with fail
    have hB := box1 w 44 #[.int .i64 0, .int .i64 0]
    generalize w.alloc (.cells #[.int .i64 0, .int .i64 0] 44) = W at *
    obtain ⟨b1, hbW, hzW⟩ := hB
    have r0 : W.cell? ⟨w.heap.size, 0, none⟩ = some (.int .i64 (0)) := Blk.cell b1 0
    have r1 : W.cell? ⟨w.heap.size, 1, none⟩ = some (.int .i64 (0)) := Blk.cell b1 1
    have rf0 : W.frozen? ⟨w.heap.size, 0, none⟩ = false := Blk.frozen b1 0
    have rf1 : W.frozen? ⟨w.heap.size, 1, none⟩ = false := Blk.frozen b1 1
    ((with_reducible refine (HS'.out _).mono ?_); rintro e w1 ⟨rfl, rfl⟩)
    go_wp2
    exact bodyPost_ret (v := .tuple #[.agg #[.int .i64 0, .int .i64 0], .bool false]) (by simp [results, Tryd.results29, go_sem, r0, r1]) rfl ⟨rfl, (hbW.setCell (by simp) _).setCell (by simp) _⟩
  · go_enter Tryd.func28, Tryd.ntmps28
    go_wp2_with fail
    have hB := box1 w 44 #[.int .i64 0, .int .i64 0]
    generalize w.alloc (.cells #[.int .i64 0, .int .i64 0] 44) = W at *
    obtain ⟨b1, hbW, hzW⟩ := hB
    ((with_reducible refine (HI'.out _).mono ?_); rintro e w1 ⟨rfl, hb1⟩)
    have b11 := b1.below hb1 (by omega)
    have h11 := hbW.trans (hb1.mono (by omega))
    have r0 : w1.cell? ⟨w.heap.size, 0, none⟩ = some (.int .i64 (0)) := Blk.cell b11 0
    have r1 : w1.cell? ⟨w.heap.size, 1, none⟩ = some (.int .i64 (0)) := Blk.cell b11 1
    have rf0 : w1.frozen? ⟨w.heap.size, 0, none⟩ = false := Blk.frozen b11 0
    have rf1 : w1.frozen? ⟨w.heap.size, 1, none⟩ = false := Blk.frozen b11 1
    go_wp2
    exact bodyPost_ret (v := .tuple #[.agg #[.int .i64 0, .int .i64 0], .bool false]) (by simp [results, Tryd.results28, go_sem, r0, r1]) rfl ⟨rfl, (h11.setCell (by simp) _).setCell (by simp) _⟩

theorem stalkVal_all (s : ByteArray) (hs : s.size ≤ maxLen) : ∃ (a b : Int) (c : Bool), ∀ w,
    (Calls Tryd.prog 29 #[.string s] w fun e w' => e = .returned (.tuple #[.agg #[.int .i64 a, .int .i64 b], .bool c]) ∧ Below w.heap.size w w') ∧
    (Calls Tryd.prog 28 #[.string s] w fun e w' => e = .returned (.tuple #[.agg #[.int .i64 a, .int .i64 b], .bool c]) ∧ Below w.heap.size w w') := by
  cases hb : signsB s 16
  · exact ⟨0, 0, false, fun w => stalkVal_bad s hs hb w⟩
  · have hb' := hb
    unfold signsB at hb'
    simp only [Bool.and_eq_true, decide_eq_true_eq] at hb'
    have hl := stB_of s hb'.1
    have hlen : (s.data.toList.map (· == 76)).length ≤ 16 := by rw [List.length_map, data_len]; omega
    generalize s.data.toList.map (· == 76) = l at hl hlen
    subst hl
    obtain ⟨a, b, c, he⟩ := lowV_form (nf (vl l l.length))
    refine ⟨a, b, c, fun w => ⟨?_, ?_⟩⟩
    · have := stalkValS_good l w hlen hb; rwa [he] at this
    · have := stalkValI_good l w hlen hb; rwa [he] at this

end Go.Proofs.YtadljglcbieifaaDoor
