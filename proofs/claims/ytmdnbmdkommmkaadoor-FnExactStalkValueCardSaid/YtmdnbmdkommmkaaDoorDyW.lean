/- The law that both StalkValue agree, walked. Conditions: none. -/
import Derived.Test.YtmdnbmdkommmkaaDoorDyV
namespace Go.Proofs.YtmdnbmdkommmkaaDoor
open Go.RowKit
set_option linter.unusedVariables false

set_option maxHeartbeats 400000 in
theorem stalkVal_bad (s : ByteArray) (hs : s.size ≤ maxLen) (hb : signsB s 16 = false) (w : World) :
    (Calls Tryd.prog 21 #[.string s] w fun e w' => e = .returned (.tuple #[.agg #[.int .i64 0, .int .i64 0], .bool false]) ∧ Below w.heap.size w w') ∧
    (Calls Tryd.prog 22 #[.string s] w fun e w' => e = .returned (.tuple #[.agg #[.int .i64 0, .int .i64 0], .bool false]) ∧ Below w.heap.size w w') := by
  have HS := fun W => goodStalkS_any s W hs
  have HI := fun W => goodStalkI_any s W hs
  rw [hb] at HS HI
  have HS' := Lib.hid HS; have HI' := Lib.hid HI; clear HS HI hb
  constructor
  · go_enter Tryd.func21, Tryd.ntmps21
    go_wp2_with fail
    have hB := box1 w 42 #[.int .i64 0, .int .i64 0]
    generalize w.alloc (.cells #[.int .i64 0, .int .i64 0] 42) = W at *
    obtain ⟨b1, hbW, hzW⟩ := hB
    have r0 : W.cell? ⟨w.heap.size, 0, none⟩ = some (.int .i64 (0)) := Blk.cell b1 0
    have r1 : W.cell? ⟨w.heap.size, 1, none⟩ = some (.int .i64 (0)) := Blk.cell b1 1
    have rf0 : W.frozen? ⟨w.heap.size, 0, none⟩ = false := Blk.frozen b1 0
    have rf1 : W.frozen? ⟨w.heap.size, 1, none⟩ = false := Blk.frozen b1 1
    ((with_reducible refine (HS'.out _).mono ?_); rintro e w1 ⟨rfl, rfl⟩)
    go_wp2
    exact bodyPost_ret (v := .tuple #[.agg #[.int .i64 0, .int .i64 0], .bool false]) (by simp [results, Tryd.results21, go_sem, r0, r1]) rfl ⟨rfl, (hbW.setCell (by simp) _).setCell (by simp) _⟩
  · go_enter Tryd.func22, Tryd.ntmps22
    go_wp2_with fail
    have hB := box1 w 42 #[.int .i64 0, .int .i64 0]
    generalize w.alloc (.cells #[.int .i64 0, .int .i64 0] 42) = W at *
    obtain ⟨b1, hbW, hzW⟩ := hB
    ((with_reducible refine (HI'.out _).mono ?_); rintro e w1 ⟨rfl, hb1⟩)
    have b11 := b1.below hb1 (by omega)
    have h11 := hbW.trans (hb1.mono (by omega))
    have r0 : w1.cell? ⟨w.heap.size, 0, none⟩ = some (.int .i64 (0)) := Blk.cell b11 0
    have r1 : w1.cell? ⟨w.heap.size, 1, none⟩ = some (.int .i64 (0)) := Blk.cell b11 1
    have rf0 : w1.frozen? ⟨w.heap.size, 0, none⟩ = false := Blk.frozen b11 0
    have rf1 : w1.frozen? ⟨w.heap.size, 1, none⟩ = false := Blk.frozen b11 1
    go_wp2
    exact bodyPost_ret (v := .tuple #[.agg #[.int .i64 0, .int .i64 0], .bool false]) (by simp [results, Tryd.results22, go_sem, r0, r1]) rfl ⟨rfl, (h11.setCell (by simp) _).setCell (by simp) _⟩

theorem stalkVal_all (s : ByteArray) (hs : s.size ≤ maxLen) : ∃ (a b : Int) (c : Bool), ∀ w,
    (Calls Tryd.prog 21 #[.string s] w fun e w' => e = .returned (.tuple #[.agg #[.int .i64 a, .int .i64 b], .bool c]) ∧ Below w.heap.size w w') ∧
    (Calls Tryd.prog 22 #[.string s] w fun e w' => e = .returned (.tuple #[.agg #[.int .i64 a, .int .i64 b], .bool c]) ∧ Below w.heap.size w w') := by
  cases hb : signsB s 16
  · exact ⟨0, 0, false, fun w => stalkVal_bad s hs hb w⟩
  · have hb' := hb
    unfold signsB at hb'
    simp only [Bool.and_eq_true, decide_eq_true_eq] at hb'
    have hl := stB_of s hb'.1
    have hlen : (s.data.toList.map (· == 76)).length ≤ 16 := by rw [List.length_map, data_len]; omega
    generalize s.data.toList.map (· == 76) = l at hl hlen
    subst hl
    obtain ⟨a, b, c, he⟩ := lowV_form (nf (vl l l.length))
    refine ⟨a, b, c, fun w => ⟨?_, ?_⟩⟩
    · have := stalkValS_good l w hlen hb; rwa [he] at this
    · have := stalkValI_good l w hlen hb; rwa [he] at this

set_option maxHeartbeats 400000 in
theorem eqDy_same (a b : Int) (w : World) :
    Calls Tryd.prog 23 #[.agg #[.int .i64 a, .int .i64 b], .agg #[.int .i64 a, .int .i64 b]] w fun e w' => e = .returned (.bool true) ∧ Below w.heap.size w w' := by
  go_enter Tryd.func23, Tryd.ntmps23
  go_wp2
  go_ret
  refine ⟨rfl, ?_⟩
  (repeat (first | exact Below.refl _ _ | refine Below.setCell ?_ (by simp) _ | refine Below.alloc ?_ (by first | exact Nat.le_refl _ | (simp; done) | (simp; omega)) _ | refine bdrew ?_ _))

set_option maxHeartbeats 800000 in
theorem lawStalkValue (s : ByteArray) (w : World) (hs : s.size ≤ maxLen) :
    Calls Tryd.prog 6 #[.string s] w fun e w' => e = .returned (.bool true) ∧ Below w.heap.size w w' := by
  obtain ⟨a, b, c, hall⟩ := stalkVal_all s hs
  have HS : Hid (∀ W, _) := fun W => (hall W).1
  have HI : Hid (∀ W, _) := fun W => (hall W).2
  clear hall
  unfold maxLen at hs
  by_cases h : (s.size : Int) ≤ 1048576
  · go_enter Tryd.func6, Tryd.ntmps6
    go_wp2_with fail
    ((with_reducible refine (HS.out _).mono ?_); rintro e w1 ⟨rfl, hb1⟩)
    have hz1 := hb1.size
    have b1 := Blk.new w1 42 #[.int .i64 a, .int .i64 b]
    have h1 := hb1.alloc (by omega) (.cells #[.int .i64 a, .int .i64 b] 42)
    have hz2 : (w1.alloc (.cells #[.int .i64 a, .int .i64 b] 42)).heap.size = w1.heap.size + 1 := by simp
    go_wp2_with fail
    generalize w1.alloc (.cells #[.int .i64 a, .int .i64 b] 42) = V at *
    ((with_reducible refine (HI.out _).mono ?_); rintro e w2 ⟨rfl, hb2⟩)
    have hz3 := hb2.size
    have b2 := b1.below hb2 (by omega)
    have h2 := h1.trans (hb2.mono (by omega))
    have p0 : w2.cell? ⟨w1.heap.size, 0, none⟩ = some (.int .i64 a) := b2.cell 0
    have p1 : w2.cell? ⟨w1.heap.size, 1, none⟩ = some (.int .i64 b) := b2.cell 1
    have h3 := h2.alloc (by omega) (.cells #[.int .i64 a, .int .i64 b] 42)
    have hne : ¬ w2.heap.size = w1.heap.size := by omega
    have hne' : ¬ w1.heap.size = w2.heap.size := by omega
    have q0 : (w2.alloc (.cells #[.int .i64 a, .int .i64 b] 42)).cell? ⟨w1.heap.size, 0, none⟩ = some (.int .i64 a) := (b2.alloc _).cell 0
    have q1 : (w2.alloc (.cells #[.int .i64 a, .int .i64 b] 42)).cell? ⟨w1.heap.size, 1, none⟩ = some (.int .i64 b) := (b2.alloc _).cell 1
    cases c
    all_goals
      go_wp2_with fail
      ((with_reducible refine (eqDy_same _ _ _).mono ?_); rintro e w3 ⟨rfl, hb3⟩)
      have h4 := h3.trans (hb3.mono (by simp; omega))
      go_wp2
      go_ret
      exact ⟨rfl, h4⟩
  · go_enter Tryd.func6, Tryd.ntmps6
    go_wp2_with fail
    go_ret
    exact ⟨rfl, Below.refl _ _⟩
end Go.Proofs.YtmdnbmdkommmkaaDoor
