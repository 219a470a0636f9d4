/- ReadPeriod of the reference, by contract; both at every text. Conditions: none. -/
import Derived.Test.YtfafnjlembbemaaDoorRp0
namespace Go.Proofs.YtfafnjlembbemaaDoor
open Go.RowKit
set_option linter.unusedVariables false

theorem spl_len (c : UInt8) (l : List UInt8) : (spl c l).length ≤ l.length + 1 := by
  induction l with
  | nil => simp [spl]
  | cons b l ih =>
    simp only [spl]
    split
    · simp; exact ih
    · split
      · simp
      · rename_i p ps e; rw [e] at ih; simp at ih ⊢; omega
theorem pieces_len1 (c : UInt8) (s : ByteArray) : (pieces c s).length ≤ s.size + 1 := by rw [pieces, List.length_map]; have := spl_len c s.data.toList; rw [data_len] at this; exact this
theorem pieces_no {s : ByteArray} (h : (43 : UInt8) ∉ s.data.toList) : pieces 43 s = [s] := by rw [pieces, spl_no h]; exact congrArg (fun x => [x]) (str_of s rfl).symm
theorem pieces_at {s : ByteArray} {a b : List UInt8} (hs : s.data.toList = a ++ 43 :: b) (ha : (43 : UInt8) ∉ a) : pieces 43 s = str a :: (spl 43 b).map str := by rw [pieces, hs, spl_at ha]; rfl
theorem spl_two {b : List UInt8} (h : (43 : UInt8) ∈ b) : 2 ≤ (spl 43 b).length := by
  rcases cut_ex 43 b with k | ⟨a, c, rfl, k⟩
  · exact absurd h k
  · rw [spl_at k, List.length_cons]
    obtain ⟨o, p, e⟩ := spl_form 43 c
    rw [e]; simp

set_option maxRecDepth 100000 in
set_option maxHeartbeats 1600000 in
theorem rpS_few (s : ByteArray) (w : World) (n : Nat) (hn : n ≠ 2) (hn2 : n ≤ 10000000) (HSPL : Hid (∀ W, Calls Tryd.prog 26 #[.string s, .int .u8 43] W fun e w' => (∃ A c, e = .returned (.slice A n c)) ∧ Below W.heap.size W w')) :
    Calls Tryd.prog 8 #[.string s] w fun e w' => e = .returned (.tuple #[.agg #[.int .i64 0, .int .i64 0], .bool false]) ∧ Below w.heap.size w w' := by
  have hnI : ((n : Int) != 2) = true := by simp; omega
  go_enter Tryd.func8, Tryd.ntmps8
  go_wp2_with fail
  have hb0 := bel1 w (.cells #[.int .i64 0, .int .i64 0] 23)
  have R0 := Blk.new w 23 #[.int .i64 0, .int .i64 0]
  ((with_reducible refine (HSPL.out _).mono ?_); rintro e w1 ⟨⟨A', c', rfl⟩, hb1⟩)
  have g1 := gtr hb0 hb1
  have R1 := R0.below hb1 R0.lt
  have r0 : w1.cell? ⟨w.heap.size, 0, none⟩ = some (.int .i64 0) := R1.cell 0
  have r1 : w1.cell? ⟨w.heap.size, 1, none⟩ = some (.int .i64 0) := R1.cell 1
  have rf0 : w1.frozen? ⟨w.heap.size, 0, none⟩ = false := R1.frozen 0
  have rf1 : w1.frozen? ⟨w.heap.size, 1, none⟩ = false := R1.frozen 1
  clear R0 R1 hb0 hb1
  go_wp2
  refine bodyPost_ret (v := .tuple #[.agg #[.int .i64 0, .int .i64 0], .bool false]) (by simp [results, Tryd.results8, go_sem, r0, r1]) rfl ⟨rfl, ?_⟩
  (repeat (first | exact g1 | refine Below.setCell ?_ (by first | (simp; done) | (simp; omega)) _ | refine Below.alloc ?_ (by first | (simp; done) | (simp; omega)) _))

set_option maxRecDepth 100000 in
set_option maxHeartbeats 1600000 in
theorem rpS_core (s A B : ByteArray) (okx oky g : Bool) (x y : Int) (w : World) (HSPL : Hid (∀ W, Calls Tryd.prog 26 #[.string s, .int .u8 43] W fun e w' => ∃ A' c', e = .returned (.slice A' 2 c') ∧ Own w' W.heap.size 9 (.slice A' 2 c') (scells [A, B]) ∧ Below W.heap.size W w'))
    (HA : Hid (∀ W, Calls Tryd.prog 27 #[.string A] W fun e w' => e = .returned (.tuple #[.int .i64 x, .bool okx]) ∧ Below W.heap.size W w'))
    (HB : Hid (∀ W, Calls Tryd.prog 27 #[.string B] W fun e w' => e = .returned (.tuple #[.int .i64 y, .bool oky]) ∧ Below W.heap.size W w'))
    (HG : Hid (∀ W, Calls Tryd.prog 28 #[.agg #[.int .i64 x, .int .i64 y]] W fun e w' => e = .returned (.bool g) ∧ Below W.heap.size W w')) :
    Calls Tryd.prog 8 #[.string s] w fun e w' => (e = if (okx && (oky && g)) = true then .returned (.tuple #[.agg #[.int .i64 x, .int .i64 y], .bool true]) else .returned (.tuple #[.agg #[.int .i64 0, .int .i64 0], .bool false])) ∧ Below w.heap.size w w' := by
  by_cases hall : (okx && oky) = true
  · obtain ⟨rfl, rfl⟩ : okx = true ∧ oky = true := by simpa using hall
    clear hall
    cases g
    · have HP0 : Hid ((if (true && (true && false)) = true then Ending.returned (.tuple #[.agg #[.int .i64 x, .int .i64 y], .bool true]) else .returned (.tuple #[.agg #[.int .i64 0, .int .i64 0], .bool false])) = .returned (.tuple #[.agg #[.int .i64 0, .int .i64 0], .bool false])) := Lib.hid (by simp)
      rw [HP0.out]
      clear HP0
      go_enter Tryd.func8, Tryd.ntmps8
      go_wp2_with fail
      have hb0 := bel1 w (.cells #[.int .i64 0, .int .i64 0] 23)
      have R0 := Blk.new w 23 #[.int .i64 0, .int .i64 0]
      ((with_reducible refine (HSPL.out _).mono ?_); rintro e w1 ⟨A', c', rfl, ho1, hb1⟩)
      have g1 := gtr hb0 hb1
      have R1 := R0.below hb1 R0.lt
      have hrd := ho1.rd
      have hml := hrd.1
      have hmm := hrd.max
      obtain ⟨bb, oo, rfl, hbb, hcc⟩ := hrd.at (j := 0) (by simp [scells])
      have d0 : w1.cell? ⟨bb, oo, none⟩ = some (.string A) := by simpa using hcc 0 (.string A) rfl
      have d1 := hcc 1 (.string B) rfl
      have hc2 : 2 ≤ c' := by simpa [scells] using hml
      clear R0 hb0 hb1 ho1 hrd hml hcc
      go_wp2_with fail
      ((with_reducible refine (HA.out _).mono ?_); rintro e w2 ⟨rfl, hb2⟩)
      have g2 := gtr g1 hb2
      have R2 := R1.below hb2 R1.lt
      have d2 : w2.cell? ⟨bb, oo + 1, none⟩ = some (.string B) := (hb2.cell (p := ⟨bb, oo + 1, none⟩) hbb).trans d1
      clear R1 hb2 g1 d0 d1
      go_wp2_with fail
      ((with_reducible refine (HB.out _).mono ?_); rintro e w3 ⟨rfl, hb3⟩)
      have g3 := gtr g2 hb3
      have R3 := R2.below hb3 R2.lt
      clear R2 hb3 g2 d2
      have hl3 := R3.lt
      have hne : ¬ w3.heap.size = w.heap.size := by omega
      go_wp2_with fail
      have A3 := bel1 w3 (.cells #[.int .i64 x, .int .i64 y] 23)
      have Q3 := Blk.new w3 23 #[.int .i64 x, .int .i64 y]
      ((with_reducible refine (HG.out _).mono ?_); rintro e w4 ⟨rfl, hb4⟩)
      have hb34 := gtr A3 hb4
      have g4 := gtr g3 hb34
      have R4 := R3.below hb34 hl3
      have Q4 := Q3.below hb4 Q3.lt
      have r0 : w4.cell? ⟨w.heap.size, 0, none⟩ = some (.int .i64 0) := R4.cell 0
      have r1 : w4.cell? ⟨w.heap.size, 1, none⟩ = some (.int .i64 0) := R4.cell 1
      have rf0 : w4.frozen? ⟨w.heap.size, 0, none⟩ = false := R4.frozen 0
      have rf1 : w4.frozen? ⟨w.heap.size, 1, none⟩ = false := R4.frozen 1
      have q0 : w4.cell? ⟨w3.heap.size, 0, none⟩ = some (.int .i64 x) := Q4.cell 0
      have q1 : w4.cell? ⟨w3.heap.size, 1, none⟩ = some (.int .i64 y) := Q4.cell 1
      clear A3 Q3 hb4 hb34 R4 Q4 R3
      go_wp2
      refine bodyPost_ret (v := .tuple #[.agg #[.int .i64 0, .int .i64 0], .bool false]) (by simp [results, Tryd.results8, go_sem, r0, r1]) rfl ⟨rfl, ?_⟩
      (repeat (first | exact g4 | refine Below.setCell ?_ (by first | (simp; done) | (simp; omega)) _ | refine Below.alloc ?_ (by first | (simp; done) | (simp; omega)) _))
    · have HP0 : Hid ((if (true && (true && true)) = true then Ending.returned (.tuple #[.agg #[.int .i64 x, .int .i64 y], .bool true]) else .returned (.tuple #[.agg #[.int .i64 0, .int .i64 0], .bool false])) = .returned (.tuple #[.agg #[.int .i64 x, .int .i64 y], .bool true])) := Lib.hid (by simp)
      rw [HP0.out]
      clear HP0
      go_enter Tryd.func8, Tryd.ntmps8
      go_wp2_with fail
      have hb0 := bel1 w (.cells #[.int .i64 0, .int .i64 0] 23)
      have R0 := Blk.new w 23 #[.int .i64 0, .int .i64 0]
      ((with_reducible refine (HSPL.out _).mono ?_); rintro e w1 ⟨A', c', rfl, ho1, hb1⟩)
      have g1 := gtr hb0 hb1
      have R1 := R0.below hb1 R0.lt
      have hrd := ho1.rd
      have hml := hrd.1
      have hmm := hrd.max
      obtain ⟨bb, oo, rfl, hbb, hcc⟩ := hrd.at (j := 0) (by simp [scells])
      have d0 : w1.cell? ⟨bb, oo, none⟩ = some (.string A) := by simpa using hcc 0 (.string A) rfl
      have d1 := hcc 1 (.string B) rfl
      have hc2 : 2 ≤ c' := by simpa [scells] using hml
      clear R0 hb0 hb1 ho1 hrd hml hcc
      go_wp2_with fail
      ((with_reducible refine (HA.out _).mono ?_); rintro e w2 ⟨rfl, hb2⟩)
      have g2 := gtr g1 hb2
      have R2 := R1.below hb2 R1.lt
      have d2 : w2.cell? ⟨bb, oo + 1, none⟩ = some (.string B) := (hb2.cell (p := ⟨bb, oo + 1, none⟩) hbb).trans d1
      clear R1 hb2 g1 d0 d1
      go_wp2_with fail
      ((with_reducible refine (HB.out _).mono ?_); rintro e w3 ⟨rfl, hb3⟩)
      have g3 := gtr g2 hb3
      have R3 := R2.below hb3 R2.lt
      clear R2 hb3 g2 d2
      have hl3 := R3.lt
      have hne : ¬ w3.heap.size = w.heap.size := by omega
      go_wp2_with fail
      have A3 := bel1 w3 (.cells #[.int .i64 x, .int .i64 y] 23)
      have Q3 := Blk.new w3 23 #[.int .i64 x, .int .i64 y]
      ((with_reducible refine (HG.out _).mono ?_); rintro e w4 ⟨rfl, hb4⟩)
      have hb34 := gtr A3 hb4
      have g4 := gtr g3 hb34
      have R4 := R3.below hb34 hl3
      have Q4 := Q3.below hb4 Q3.lt
      have r0 : w4.cell? ⟨w.heap.size, 0, none⟩ = some (.int .i64 0) := R4.cell 0
      have r1 : w4.cell? ⟨w.heap.size, 1, none⟩ = some (.int .i64 0) := R4.cell 1
      have rf0 : w4.frozen? ⟨w.heap.size, 0, none⟩ = false := R4.frozen 0
      have rf1 : w4.frozen? ⟨w.heap.size, 1, none⟩ = false := R4.frozen 1
      have q0 : w4.cell? ⟨w3.heap.size, 0, none⟩ = some (.int .i64 x) := Q4.cell 0
      have q1 : w4.cell? ⟨w3.heap.size, 1, none⟩ = some (.int .i64 y) := Q4.cell 1
      clear A3 Q3 hb4 hb34 R4 Q4 R3
      go_wp2
      refine bodyPost_ret (v := .tuple #[.agg #[.int .i64 x, .int .i64 y], .bool true]) (by simp [results, Tryd.results8, go_sem, r0, r1]) rfl ⟨rfl, ?_⟩
      (repeat (first | exact g4 | refine Below.setCell ?_ (by first | (simp; done) | (simp; omega)) _ | refine Below.alloc ?_ (by first | (simp; done) | (simp; omega)) _))
  · have HP0 : Hid ((if (okx && (oky && g)) = true then Ending.returned (.tuple #[.agg #[.int .i64 x, .int .i64 y], .bool true]) else .returned (.tuple #[.agg #[.int .i64 0, .int .i64 0], .bool false])) = .returned (.tuple #[.agg #[.int .i64 0, .int .i64 0], .bool false])) := Lib.hid (if_neg (by revert hall; cases okx <;> cases oky <;> simp))
    rw [HP0.out]
    clear HP0
    cases okx <;> cases oky
    all_goals first
      | exact absurd rfl hall
      | (clear hall
         go_enter Tryd.func8, Tryd.ntmps8
         go_wp2_with fail
         have hb0 := bel1 w (.cells #[.int .i64 0, .int .i64 0] 23)
         have R0 := Blk.new w 23 #[.int .i64 0, .int .i64 0]
         ((with_reducible refine (HSPL.out _).mono ?_); rintro e w1 ⟨A', c', rfl, ho1, hb1⟩)
         have g1 := gtr hb0 hb1
         have R1 := R0.below hb1 R0.lt
         have hrd := ho1.rd
         have hml := hrd.1
         have hmm := hrd.max
         obtain ⟨bb, oo, rfl, hbb, hcc⟩ := hrd.at (j := 0) (by simp [scells])
         have d0 : w1.cell? ⟨bb, oo, none⟩ = some (.string A) := by simpa using hcc 0 (.string A) rfl
         have d1 := hcc 1 (.string B) rfl
         have hc2 : 2 ≤ c' := by simpa [scells] using hml
         clear R0 hb0 hb1 ho1 hrd hml hcc
         go_wp2_with fail
         ((with_reducible refine (HA.out _).mono ?_); rintro e w2 ⟨rfl, hb2⟩)
         have g2 := gtr g1 hb2
         have R2 := R1.below hb2 R1.lt
         have d2 : w2.cell? ⟨bb, oo + 1, none⟩ = some (.string B) := (hb2.cell (p := ⟨bb, oo + 1, none⟩) hbb).trans d1
         clear R1 hb2 g1 d0 d1
         go_wp2_with fail
         ((with_reducible refine (HB.out _).mono ?_); rintro e w3 ⟨rfl, hb3⟩)
         have g3 := gtr g2 hb3
         have R3 := R2.below hb3 R2.lt
         clear R2 hb3 g2 d2
         have hl3 := R3.lt
         have hne : ¬ w3.heap.size = w.heap.size := by omega
         have r0 : w3.cell? ⟨w.heap.size, 0, none⟩ = some (.int .i64 0) := R3.cell 0
         have r1 : w3.cell? ⟨w.heap.size, 1, none⟩ = some (.int .i64 0) := R3.cell 1
         have rf0 : w3.frozen? ⟨w.heap.size, 0, none⟩ = false := R3.frozen 0
         have rf1 : w3.frozen? ⟨w.heap.size, 1, none⟩ = false := R3.frozen 1
         go_wp2
         have BF := ((R3.set 0 (.int .i64 0)).set 1 (.int .i64 0)).alloc (.cells #[.int .i64 x, .int .i64 y] 23)
         have f0 : (((w3.setCell ⟨w.heap.size, 0, none⟩ (.int .i64 0)).setCell ⟨w.heap.size, 1, none⟩ (.int .i64 0)).alloc (.cells #[.int .i64 x, .int .i64 y] 23)).cell? ⟨w.heap.size, 0, none⟩ = some (.int .i64 0) := BF.cell 0
         have f1 : (((w3.setCell ⟨w.heap.size, 0, none⟩ (.int .i64 0)).setCell ⟨w.heap.size, 1, none⟩ (.int .i64 0)).alloc (.cells #[.int .i64 x, .int .i64 y] 23)).cell? ⟨w.heap.size, 1, none⟩ = some (.int .i64 0) := BF.cell 1
         refine bodyPost_ret (v := .tuple #[.agg #[.int .i64 0, .int .i64 0], .bool false]) (by simp [results, Tryd.results8, go_sem, f0, f1]) rfl ⟨rfl, ?_⟩
         (repeat (first | exact g3 | refine Below.setCell ?_ (by first | (simp; done) | (simp; omega)) _ | refine Below.alloc ?_ (by first | (simp; done) | (simp; omega)) _)))

/-- A period is handed back, as the text says. -/
def RetP (s : ByteArray) (w : World) (e : Ending) (w' : World) : Prop := (∃ p l ok, e = .returned (.tuple #[.agg #[.int .i64 p, .int .i64 l], .bool ok]) ∧ RpV s p l ok) ∧ Below w.heap.size w w'
theorem str_le {s : ByteArray} {a b : List UInt8} (hs : s.data.toList = a ++ 43 :: b) : (str a).size ≤ s.size ∧ (str b).size ≤ s.size := by
  have := data_len s
  rw [hs, List.length_append, List.length_cons] at this
  rw [str_size, str_size]
  omega
theorem rpI_any (s : ByteArray) (w : World) (ht : TabI w) (hv : SynI w) (hmax : s.size ≤ 1048576) : Calls Tryd.prog 9 #[.string s] w (RetP s w) := by
  rcases cut_ex 43 s.data.toList with h | ⟨a, b, hs, ha⟩
  · refine (rpI_core s s ByteArray.empty false (rnB s) (rnB ByteArray.empty) (goodPerB (rnV s) (rnV ByteArray.empty)) (rnV s) (rnV ByteArray.empty) w (Lib.hid fun W => cut_no s W h) (Lib.hid fun W hb => readNumI_any s W (ht.below hb) (hv.below hb) hmax) (Lib.hid fun W hb => readNumI_any _ W (ht.below hb) (hv.below hb) (by simp [ByteArray.size])) (Lib.hid fun W => goodPerI_any _ _ W)).mono ?_
    rintro e w' ⟨rfl, hb⟩
    exact ⟨⟨0, 0, false, by simp, rpV_no h⟩, hb⟩
  · have hsz := str_le hs
    refine (rpI_core s (str a) (str b) true (rnB (str a)) (rnB (str b)) (goodPerB (rnV (str a)) (rnV (str b))) (rnV (str a)) (rnV (str b)) w (Lib.hid fun W => cut_yes s a b W hs ha hmax) (Lib.hid fun W hb => readNumI_any _ W (ht.below hb) (hv.below hb) (by omega)) (Lib.hid fun W hb => readNumI_any _ W (ht.below hb) (hv.below hb) (by omega)) (Lib.hid fun W => goodPerI_any _ _ W)).mono ?_
    rintro e w' ⟨rfl, hb⟩
    by_cases hall : rnB (str a) = true ∧ rnB (str b) = true ∧ goodPerB (rnV (str a)) (rnV (str b)) = true
    · obtain ⟨h1, h2, h3⟩ := hall
      exact ⟨⟨_, _, true, by rw [h1, h2, h3]; rfl, rpV_yes hs ha h1 h2 h3⟩, hb⟩
    · exact ⟨⟨0, 0, false, if_neg (by rw [Bool.true_and, Bool.and_eq_true, Bool.and_eq_true]; exact hall), rpV_at hs ha hall⟩, hb⟩
theorem rpS_any (s : ByteArray) (w : World) (hmax : s.size ≤ 1048576) : Calls Tryd.prog 8 #[.string s] w (RetP s w) := by
  have HSP := fun W => l1Split_any 43 s W (by omega)
  rw [show ((43 : UInt8).toNat : Int) = 43 from rfl] at HSP
  rcases cut_ex 43 s.data.toList with h | ⟨a, b, hs, ha⟩
  · rw [pieces_no h] at HSP
    refine (rpS_few s w 1 (by omega) (by omega) (Lib.hid fun W => (HSP W).mono fun e w' ⟨A, c, he, _, hb⟩ => ⟨⟨A, c, he⟩, hb⟩)).mono ?_
    rintro e w' ⟨rfl, hb⟩
    exact ⟨⟨0, 0, false, rfl, rpV_no h⟩, hb⟩
  · have hsz := str_le hs
    rw [pieces_at hs ha] at HSP
    by_cases hb43 : (43 : UInt8) ∈ b
    · have h2 := spl_two hb43
      have hl := pieces_len1 43 s
      rw [pieces_at hs ha, List.length_cons] at hl
      refine (rpS_few s w _ (by rw [List.length_cons, List.length_map]; omega) (by rw [List.length_cons]; omega) (Lib.hid fun W => (HSP W).mono fun e w' ⟨A, c, he, _, hb⟩ => ⟨⟨A, c, he⟩, hb⟩)).mono ?_
      rintro e w' ⟨rfl, hb⟩
      exact ⟨⟨0, 0, false, rfl, rpV_at hs ha (fun hh => by rw [rn_plus hb43] at hh; exact absurd hh.2.1 (by simp))⟩, hb⟩
    · rw [spl_no hb43] at HSP
      refine (rpS_core s (str a) (str b) (rnB (str a)) (rnB (str b)) (goodPerB (rnV (str a)) (rnV (str b))) (rnV (str a)) (rnV (str b)) w (Lib.hid HSP) (Lib.hid fun W => l1Read_any _ W (by omega)) (Lib.hid fun W => l1Read_any _ W (by omega)) (Lib.hid fun W => goodPerS_any _ _ W)).mono ?_
      rintro e w' ⟨rfl, hb⟩
      by_cases hall : rnB (str a) = true ∧ rnB (str b) = true ∧ goodPerB (rnV (str a)) (rnV (str b)) = true
      · obtain ⟨h1, h2, h3⟩ := hall
        exact ⟨⟨_, _, true, by rw [h1, h2, h3]; rfl, rpV_yes hs ha h1 h2 h3⟩, hb⟩
      · exact ⟨⟨0, 0, false, if_neg (by rw [Bool.and_eq_true, Bool.and_eq_true]; exact hall), rpV_at hs ha hall⟩, hb⟩
end Go.Proofs.YtfafnjlembbemaaDoor
