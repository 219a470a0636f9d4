/- FnExactLeastPeriod and FnExactProofNeeds return true: the walks. Conditions: none. -/
import Derived.Test.YtflbedfgeiljmaaPeriod2
import Derived.Test.YtflbedfgeiljmaaCode
import Derived.Deep.RegionHeld3
namespace Go.Proofs.Ytflbedfgeiljmaa
open Go.RowKit
set_option linter.unusedVariables false

def pP : Option (Nat × Nat) → Int | some (p, _) => p | none => 0
def pL : Option (Nat × Nat) → Int | some (_, l) => l | none => 0
def pB : Option (Nat × Nat) → Bool | some _ => true | none => false
theorem perV_eq (o : Option (Nat × Nat)) : perV o = .tuple #[.agg #[.int .i64 (pP o), .int .i64 (pL o)], .bool (pB o)] := by
  cases o <;> rfl

set_option maxHeartbeats 400000 in
theorem lawLeast (a : Option Addr) (len cap : Nat) (zs : List Int) (w : World) (h : IsRow .i64 w a len cap zs) :
    Calls Try.prog 5 #[.slice a len cap] w fun e w' => e = .returned (.bool true) ∧ Below w.heap.size w w' := by
  obtain ⟨hr, hl⟩ := h.rd
  clear h
  generalize zs.take len = xs at hr hl
  subst hl
  have h1 := hr.len
  have h2 := hr.max
  by_cases hbig : 1048576 < xs.length
  · go_enter Try.func5, Try.ntmps5
    go_wp2
    go_ret
    exact ⟨rfl, Below.refl _ _⟩
  · have hsm : xs.length ≤ 1048576 := by omega
    generalize hq : leastPer xs = q
    have HQ := Lib.hid hq; clear hq
    go_enter Try.func5, Try.ntmps5
    go_wp2_with fail
    refine (toIntS_any _ _ _ _ _ (Nat.le_refl _) hr hsm).mono ?_; rintro e w1 ⟨A1, c1, rfl, ho1, hb1⟩
    go_wp2_with fail
    refine (leastS_any _ _ _ _ _ (Nat.le_refl _) (ho1.rd rfl)).mono ?_; rintro e w2 ⟨rfl, hb2⟩
    rw [HQ.out]
    simp only [perV_eq]
    go_wp2_with fail
    have hz1 := hb1.size
    have hz2 := hb2.size
    have hzW : w2.heap.size < (w2.alloc (.cells #[.int .i64 (pP q), .int .i64 (pL q)] 33)).heap.size := by simp
    have hAW : Below w2.heap.size w2 (w2.alloc (.cells #[.int .i64 (pP q), .int .i64 (pL q)] 33)) := (Below.refl _ _).alloc (Nat.le_refl _) _
    have c0W : (w2.alloc (.cells #[.int .i64 (pP q), .int .i64 (pL q)] 33)).cell? ⟨w2.heap.size, 0, none⟩ = some (.int .i64 (pP q)) := by simp [go_sem]
    have c1W : (w2.alloc (.cells #[.int .i64 (pP q), .int .i64 (pL q)] 33)).cell? ⟨w2.heap.size, 1, none⟩ = some (.int .i64 (pL q)) := by simp [go_sem]
    generalize w2.alloc (.cells #[.int .i64 (pP q), .int .i64 (pL q)] 33) = W at *
    have hbW : Below w.heap.size w W := (hb1.trans (hb2.mono (by omega))).trans (hAW.mono (by omega))
    refine (toIntS_any _ _ _ _ _ (by omega) (hr.below hbW (Nat.le_refl _)) hsm).mono ?_; rintro e w3 ⟨A3, c3, rfl, ho3, hb3⟩
    go_wp2_with fail
    refine (leastI_any _ _ _ _ _ (Nat.le_refl _) (ho3.rd rfl)).mono ?_; rintro e w4 ⟨rfl, hb4⟩
    rw [HQ.out]
    simp only [perV_eq]
    have hz3 := hb3.size
    have hz4 := hb4.size
    have hbW4 : Below W.heap.size W w4 := hb3.trans (hb4.mono (by omega))
    have q0 := (hbW4.cell (p := ⟨w2.heap.size, 0, none⟩) hzW).trans c0W
    have q1 := (hbW4.cell (p := ⟨w2.heap.size, 1, none⟩) hzW).trans c1W
    have ho4 := ho3.below hb4
    have qk0 := (Below.cell (w' := w4.alloc (.cells #[.int .i64 (pP q), .int .i64 (pL q)] 33)) ((Below.refl w4.heap.size w4).alloc (Nat.le_refl _) _) (p := ⟨w2.heap.size, 0, none⟩) (by show w2.heap.size < _; omega)).trans q0
    have qk1 := (Below.cell (w' := w4.alloc (.cells #[.int .i64 (pP q), .int .i64 (pL q)] 33)) ((Below.refl w4.heap.size w4).alloc (Nat.le_refl _) _) (p := ⟨w2.heap.size, 1, none⟩) (by show w2.heap.size < _; omega)).trans q1
    go_wp2_with fail
    have hzV : w4.heap.size < (w4.alloc (.cells #[.int .i64 (pP q), .int .i64 (pL q)] 33)).heap.size := by simp
    have hAV : Below w4.heap.size w4 (w4.alloc (.cells #[.int .i64 (pP q), .int .i64 (pL q)] 33)) := (Below.refl _ _).alloc (Nat.le_refl _) _
    have c0V : (w4.alloc (.cells #[.int .i64 (pP q), .int .i64 (pL q)] 33)).cell? ⟨w4.heap.size, 0, none⟩ = some (.int .i64 (pP q)) := by simp [go_sem]
    have c1V : (w4.alloc (.cells #[.int .i64 (pP q), .int .i64 (pL q)] 33)).cell? ⟨w4.heap.size, 1, none⟩ = some (.int .i64 (pL q)) := by simp [go_sem]
    generalize w4.alloc (.cells #[.int .i64 (pP q), .int .i64 (pL q)] 33) = V at *
    have ho5 := ho4.below hAV
    refine (eqPeriod_any _ _ _ _ _).mono ?_; rintro e w5 ⟨rfl, hb5⟩
    have hz5 := hb5.size
    have hbV : Below w.heap.size w V := (hbW.trans (hbW4.mono (by omega))).trans (hAV.mono (by omega))
    have ho6 := ho5.below hb5
    have hb6 : Below w.heap.size w w5 := hbV.trans (hb5.mono (by omega))
    have hz6 : w.heap.size ≤ w5.heap.size := hb6.size
    go_wp2_with fail
    refine (toIntS_any _ _ _ _ _ (by omega) (hr.below hb6 (Nat.le_refl _)) hsm).mono ?_; rintro e w6 ⟨A6, c6, rfl, ho7, hb7⟩
    have ho8 := ho6.below hb7
    go_wp2_with fail
    refine (eqIntS_any _ _ _ _ _ _ _ _ (Nat.le_refl _) (ho8.rd rfl) (ho7.rd rfl)).mono ?_; rintro e w7 ⟨rfl, hb8⟩
    have hz7 := hb7.size
    go_wp2
    go_ret
    exact ⟨rfl, (hb6.trans (hb7.mono (by omega))).trans (hb8.mono (by omega))⟩

set_option maxHeartbeats 400000 in
theorem lawNeeds (a : Option Addr) (len cap : Nat) (zs : List Int) (p l : Int) (w : World) (h : IsRow .i64 w a len cap zs) (hp : (Lit.int .i64 p).wf = true) (hl : (Lit.int .i64 l).wf = true) :
    Calls Try.prog 4 #[.slice a len cap, .agg #[.int .i64 p, .int .i64 l]] w fun e w' => e = .returned (.bool true) ∧ Below w.heap.size w w' := by
  clear hp hl
  obtain ⟨hr, hl⟩ := h.rd
  clear h
  generalize zs.take len = xs at hr hl
  subst hl
  have h1 := hr.len
  have h2 := hr.max
  by_cases hbig : 1048576 < xs.length
  · go_enter Try.func4, Try.ntmps4
    go_wp2
    go_ret
    exact ⟨rfl, (Below.refl _ _).alloc (Nat.le_refl _) _⟩
  · have hsm : xs.length ≤ 1048576 := by omega
    go_enter Try.func4, Try.ntmps4
    go_wp2_with fail
    have hzW : w.heap.size < (w.alloc (.cells #[.int .i64 p, .int .i64 l] 30)).heap.size := by simp
    have hAW : Below w.heap.size w (w.alloc (.cells #[.int .i64 p, .int .i64 l] 30)) := (Below.refl _ _).alloc (Nat.le_refl _) _
    have c0W : (w.alloc (.cells #[.int .i64 p, .int .i64 l] 30)).cell? ⟨w.heap.size, 0, none⟩ = some (.int .i64 p) := by simp [go_sem]
    have c1W : (w.alloc (.cells #[.int .i64 p, .int .i64 l] 30)).cell? ⟨w.heap.size, 1, none⟩ = some (.int .i64 l) := by simp [go_sem]
    generalize w.alloc (.cells #[.int .i64 p, .int .i64 l] 30) = W at *
    have hzz := hAW.size
    have hs := fun w' (hg : Below W.heap.size W w') => (hg.cell (p := ⟨w.heap.size, 0, none⟩) hzW).trans c0W
    have hs' := fun w' (hg : Below W.heap.size W w') => (hg.cell (p := ⟨w.heap.size, 1, none⟩) hzW).trans c1W
    have HS := Lib.hid hs; have HS' := Lib.hid hs'; clear hs hs'
    have hrW := hr.below hAW (Nat.le_refl _)
    go_region_held3 (fun w' => w'.cell? ⟨w.heap.size, 0, none⟩ = some (.int .i64 p) ∧ w'.cell? ⟨w.heap.size, 1, none⟩ = some (.int .i64 l)) (go_keep)
      (first
        | (go_at_call 17; refine (toIntS_any _ _ _ W.drew _ hzz (hrW.below (gdrew (a := W)) hzz) hsm).mono ?_; rintro e w1 ⟨A1, c1, rfl, ho1, hb1⟩; have g1 := gtr (gdrew (a := W)) hb1; have s0 := HS.out _ g1; have s1 := HS'.out _ g1)
        | (go_at_call 18; refine (toPeriod_any _ _ _).mono ?_; rintro e w2 ⟨rfl, hb2⟩; have g2 := gtr g1 hb2; have t0 := HS.out _ g2; have t1 := HS'.out _ g2)
        | (go_at_call 16; refine (needsS_any _ _ _ _ _ _ _ hb2.size ((ho1.rd rfl).below hb2 (Nat.le_refl _))).mono ?_; rintro e w3 ⟨rfl, hb3⟩; have g3 := gtr g2 hb3; have u0 := HS.out _ g3; have u1 := HS'.out _ g3))
    clear ho1 hb1 hb2 hb3 s0 s1 t0 t1
    go_wp2_with fail
    refine (toIntS_any _ _ _ _ _ (Nat.le_trans hzz g3.size) (hrW.below g3 hzz) hsm).mono ?_; rintro e w4 ⟨A4, c4, rfl, ho4, hb4⟩
    have g4 := gtr g3 hb4
    have v0 := HS.out _ g4; have v1 := HS'.out _ g4
    go_wp2_with fail
    refine (toPeriod_any _ _ _).mono ?_; rintro e w5 ⟨rfl, hb5⟩
    have g5 := gtr g4 hb5
    have ho5 := ho4.below hb5
    go_wp2_with fail
    refine (needsI_any _ _ _ _ _ _ _ (Nat.le_refl _) (ho5.rd rfl)).mono ?_; rintro e w6 ⟨rfl, hb6⟩
    have g6 := gtr g5 hb6
    have ho6 := ho5.below hb6
    go_wp2_with fail
    refine (toIntS_any _ _ _ _ _ (Nat.le_trans hzz g6.size) (hrW.below g6 hzz) hsm).mono ?_; rintro e w7 ⟨A7, c7, rfl, ho7, hb7⟩
    have g7 := gtr g6 hb7
    have ho8 := ho6.below hb7
    go_wp2_with fail
    refine (eqIntS_any _ _ _ _ _ _ _ _ (Nat.le_refl _) (ho8.rd rfl) (ho7.rd rfl)).mono ?_; rintro e w8 ⟨rfl, hb8⟩
    have g8 := gtr g7 hb8
    go_wp2
    go_ret
    exact ⟨rfl, gtr hAW g8⟩
end Go.Proofs.Ytflbedfgeiljmaa
