/- FnExactFindPeriod returns true: the walk. Conditions: none. -/
import Derived.Test.YtflbedfgeiljmaaFind
import Derived.Test.YtflbedfgeiljmaaLeastLaw
namespace Go.Proofs.Ytflbedfgeiljmaa
open Go.RowKit
set_option linter.unusedVariables false

set_option maxHeartbeats 400000 in
theorem lawFind (a : Option Addr) (len cap : Nat) (zs : List Int) (most : Int) (w : World) (h : IsRow .i64 w a len cap zs) (hm : (Lit.int .i64 most).wf = true) :
    Calls Try.prog 9 #[.slice a len cap, .int .i64 most] w fun e w' => e = .returned (.bool true) ∧ Below w.heap.size w w' := by
  clear hm
  obtain ⟨hr, hl⟩ := h.rd
  clear h
  generalize zs.take len = xs at hr hl
  subst hl
  have h1 := hr.len
  have h2 := hr.max
  by_cases hbig : 1048576 < xs.length
  · go_enter Try.func9, Try.ntmps9
    go_wp2
    go_ret
    exact ⟨rfl, Below.refl _ _⟩
  · have hsm : xs.length ≤ 1048576 := by omega
    go_enter Try.func9, Try.ntmps9
    go_wp2_with fail
    refine (toIntS_any _ _ _ _ _ (Nat.le_refl _) hr hsm).mono ?_; rintro e w1 ⟨A1, c1, rfl, ho1, hb1⟩
    go_wp2_with fail
    refine (findS_any _ _ _ _ _ _ (Nat.le_refl _) (ho1.rd rfl)).mono ?_; rintro e w2 ⟨q, hq, rfl, hb2⟩
    have HQ := Lib.hid hq; clear hq
    simp only [perV_eq]
    go_wp2_with fail
    have hz1 := hb1.size
    have hz2 := hb2.size
    have hzW : w2.heap.size < (w2.alloc (.cells #[.int .i64 (pP q), .int .i64 (pL q)] 33)).heap.size := by simp
    have hAW : Below w2.heap.size w2 (w2.alloc (.cells #[.int .i64 (pP q), .int .i64 (pL q)] 33)) := (Below.refl _ _).alloc (Nat.le_refl _) _
    have c0W : (w2.alloc (.cells #[.int .i64 (pP q), .int .i64 (pL q)] 33)).cell? ⟨w2.heap.size, 0, none⟩ = some (.int .i64 (pP q)) := by simp [go_sem]
    have c1W : (w2.alloc (.cells #[.int .i64 (pP q), .int .i64 (pL q)] 33)).cell? ⟨w2.heap.size, 1, none⟩ = some (.int .i64 (pL q)) := by simp [go_sem]
    generalize w2.alloc (.cells #[.int .i64 (pP q), .int .i64 (pL q)] 33) = W at *
    have hbW : Below w.heap.size w W := (hb1.trans (hb2.mono (by omega))).trans (hAW.mono (by omega))
    refine (toIntS_any _ _ _ _ _ (by omega) (hr.below hbW (Nat.le_refl _)) hsm).mono ?_; rintro e w3 ⟨A3, c3, rfl, ho3, hb3⟩
    go_wp2_with fail
    refine (findI_any _ _ _ _ _ _ (Nat.le_refl _) (ho3.rd rfl)).mono ?_; rintro e w4 ⟨q', hq', rfl, hb4⟩
    obtain rfl : q = q' := Fnd_unique HQ.out hq'
    clear hq'
    simp only [perV_eq]
    have hz3 := hb3.size
    have hz4 := hb4.size
    have hbW4 : Below W.heap.size W w4 := hb3.trans (hb4.mono (by omega))
    have q0 := (hbW4.cell (p := ⟨w2.heap.size, 0, none⟩) hzW).trans c0W
    have q1 := (hbW4.cell (p := ⟨w2.heap.size, 1, none⟩) hzW).trans c1W
    have ho4 := ho3.below hb4
    have qk0 := (Below.cell (w' := w4.alloc (.cells #[.int .i64 (pP q), .int .i64 (pL q)] 33)) ((Below.refl w4.heap.size w4).alloc (Nat.le_refl _) _) (p := ⟨w2.heap.size, 0, none⟩) (by show w2.heap.size < _; omega)).trans q0
    have qk1 := (Below.cell (w' := w4.alloc (.cells #[.int .i64 (pP q), .int .i64 (pL q)] 33)) ((Below.refl w4.heap.size w4).alloc (Nat.le_refl _) _) (p := ⟨w2.heap.size, 1, none⟩) (by show w2.heap.size < _; omega)).trans q1
    go_wp2_with fail
    have hzV : w4.heap.size < (w4.alloc (.cells #[.int .i64 (pP q), .int .i64 (pL q)] 33)).heap.size := by simp
    have hAV : Below w4.heap.size w4 (w4.alloc (.cells #[.int .i64 (pP q), .int .i64 (pL q)] 33)) := (Below.refl _ _).alloc (Nat.le_refl _) _
    have c0V : (w4.alloc (.cells #[.int .i64 (pP q), .int .i64 (pL q)] 33)).cell? ⟨w4.heap.size, 0, none⟩ = some (.int .i64 (pP q)) := by simp [go_sem]
    have c1V : (w4.alloc (.cells #[.int .i64 (pP q), .int .i64 (pL q)] 33)).cell? ⟨w4.heap.size, 1, none⟩ = some (.int .i64 (pL q)) := by simp [go_sem]
    generalize w4.alloc (.cells #[.int .i64 (pP q), .int .i64 (pL q)] 33) = V at *
    have ho5 := ho4.below hAV
    refine (eqPeriod_any _ _ _ _ _).mono ?_; rintro e w5 ⟨rfl, hb5⟩
    have hz5 := hb5.size
    have hbV : Below w.heap.size w V := (hbW.trans (hbW4.mono (by omega))).trans (hAV.mono (by omega))
    have ho6 := ho5.below hb5
    have hb6 : Below w.heap.size w w5 := hbV.trans (hb5.mono (by omega))
    have hz6 : w.heap.size ≤ w5.heap.size := hb6.size
    go_wp2_with fail
    refine (toIntS_any _ _ _ _ _ (by omega) (hr.below hb6 (Nat.le_refl _)) hsm).mono ?_; rintro e w6 ⟨A6, c6, rfl, ho7, hb7⟩
    have ho8 := ho6.below hb7
    go_wp2_with fail
    refine (eqIntS_any _ _ _ _ _ _ _ _ (Nat.le_refl _) (ho8.rd rfl) (ho7.rd rfl)).mono ?_; rintro e w7 ⟨rfl, hb8⟩
    have hz7 := hb7.size
    go_wp2
    go_ret
    exact ⟨rfl, (hb6.trans (hb7.mono (by omega))).trans (hb8.mono (by omega))⟩

end Go.Proofs.Ytflbedfgeiljmaa
