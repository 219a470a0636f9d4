/- The law that both StalkOf agree, walked. Conditions: none. -/
import Derived.Test.YtadljglcbieifaaDoorDy3
namespace Go.Proofs.YtadljglcbieifaaDoor
open Go.RowKit
set_option linter.unusedVariables false

/-- What StalkOf hands back: a text and a sign. -/
def stalkOfV (t p : Int) : ByteArray × Bool :=
  if goodDyB t p then
    match (List.range 17).find? (fun n => decide (sW (sc t p.toNat) n = sc t p.toNat)) with
    | some n => (stB (stk (sc t p.toNat) n), true)
    | none => (ByteArray.empty, false)
  else (ByteArray.empty, false)
theorem stalkOfV_good (t : Int) (p : Nat) (h : goodDyB t p = true) : .tuple #[.string (stalkOfV t p).1, .bool (stalkOfV t p).2] = stalkV (sc t p) := by
  unfold stalkOfV stalkV
  rw [if_pos h, Int.toNat_natCast]
  cases (List.range 17).find? (fun n => decide (sW (sc t p) n = sc t p)) <;> rfl
theorem stalkOfV_bad (t p : Int) (h : goodDyB t p = false) : stalkOfV t p = (ByteArray.empty, false) := by
  unfold stalkOfV
  rw [if_neg (by simp [h])]

set_option maxHeartbeats 400000 in
theorem stalkOfS_all (t p : Int) (w : World) :
    Calls Tryd.prog 33 #[.agg #[.int .i64 t, .int .i64 p]] w fun e w' => e = .returned (.tuple #[.string (stalkOfV t p).1, .bool (stalkOfV t p).2]) ∧ Below w.heap.size w w' := by
  cases hg : goodDyB t p
  · rw [stalkOfV_bad t p hg]
    go_enter Tryd.func33, Tryd.ntmps33
    go_wp2_with fail
    have hB := box1 w 44 #[.int .i64 t, .int .i64 p]
    generalize w.alloc (.cells #[.int .i64 t, .int .i64 p] 44) = W at *
    obtain ⟨b1, hbW, hzW⟩ := hB
    ((with_reducible refine (goodDyS_any _ _ _).mono ?_); rintro e w1 ⟨rfl, hb1⟩)
    have hb11 := hbW.trans (hb1.mono (by omega))
    clear b1 hzW
    go_wp2
    go_ret2
    exact ⟨rfl, hb11⟩
  · have hp : 0 ≤ p := by simp only [goodDyB, decide_eq_true_eq] at hg; omega
    obtain ⟨p, rfl⟩ := Int.eq_ofNat_of_zero_le hp
    rw [stalkOfV_good t p hg]
    exact stalkOfS_any t p w hg

set_option maxHeartbeats 400000 in
theorem stalkOfI_all (t p : Int) (w : World) :
    Calls Tryd.prog 32 #[.agg #[.int .i64 t, .int .i64 p]] w fun e w' => e = .returned (.tuple #[.string (stalkOfV t p).1, .bool (stalkOfV t p).2]) ∧ Below w.heap.size w w' := by
  cases hg : goodDyB t p
  · rw [stalkOfV_bad t p hg]
    go_enter Tryd.func32, Tryd.ntmps32
    go_wp2_with fail
    have hB := box1 w 44 #[.int .i64 t, .int .i64 p]
    generalize w.alloc (.cells #[.int .i64 t, .int .i64 p] 44) = W at *
    obtain ⟨b1, hbW, hzW⟩ := hB
    ((with_reducible refine (goodDyI_any _ _ _).mono ?_); rintro e w1 ⟨rfl, hb1⟩)
    have hb11 := hbW.trans (hb1.mono (by omega))
    clear b1 hzW
    go_wp2
    go_ret2
    exact ⟨rfl, hb11⟩
  · have hp : 0 ≤ p := by simp only [goodDyB, decide_eq_true_eq] at hg; omega
    obtain ⟨p, rfl⟩ := Int.eq_ofNat_of_zero_le hp
    rw [stalkOfV_good t p hg]
    exact stalkOfI_any t p w hg

end Go.Proofs.YtadljglcbieifaaDoor
