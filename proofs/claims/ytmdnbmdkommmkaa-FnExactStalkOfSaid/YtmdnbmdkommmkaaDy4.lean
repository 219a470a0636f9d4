/- The law that both StalkOf agree, walked. Conditions: none. -/
import Derived.Test.YtmdnbmdkommmkaaDy3
namespace Go.Proofs.Ytmdnbmdkommmkaa
open Go.RowKit
set_option linter.unusedVariables false

/-- What StalkOf hands back: a text and a sign. -/
def stalkOfV (t p : Int) : ByteArray × Bool :=
  if goodDyB t p then
    match (List.range 17).find? (fun n => decide (sW (sc t p.toNat) n = sc t p.toNat)) with
    | some n => (stB (stk (sc t p.toNat) n), true)
    | none => (ByteArray.empty, false)
  else (ByteArray.empty, false)
theorem stalkOfV_good (t : Int) (p : Nat) (h : goodDyB t p = true) : .tuple #[.string (stalkOfV t p).1, .bool (stalkOfV t p).2] = stalkV (sc t p) := by
  unfold stalkOfV stalkV
  rw [if_pos h, Int.toNat_natCast]
  cases (List.range 17).find? (fun n => decide (sW (sc t p) n = sc t p)) <;> rfl
theorem stalkOfV_bad (t p : Int) (h : goodDyB t p = false) : stalkOfV t p = (ByteArray.empty, false) := by
  unfold stalkOfV
  rw [if_neg (by simp [h])]

set_option maxHeartbeats 400000 in
theorem stalkOfS_all (t p : Int) (w : World) :
    Calls Try.prog 27 #[.agg #[.int .i64 t, .int .i64 p]] w fun e w' => e = .returned (.tuple #[.string (stalkOfV t p).1, .bool (stalkOfV t p).2]) ∧ Below w.heap.size w w' := by
  cases hg : goodDyB t p
  · rw [stalkOfV_bad t p hg]
    go_enter Try.func27, Try.ntmps27
    go_wp2_with fail
    have hB := box1 w 45 #[.int .i64 t, .int .i64 p]
    generalize w.alloc (.cells #[.int .i64 t, .int .i64 p] 45) = W at *
    obtain ⟨b1, hbW, hzW⟩ := hB
    ((with_reducible refine (goodDyS_any _ _ _).mono ?_); rintro e w1 ⟨rfl, hb1⟩)
    have hb11 := hbW.trans (hb1.mono (by omega))
    clear b1 hzW
    go_wp2
    go_ret2
    exact ⟨rfl, hb11⟩
  · have hp : 0 ≤ p := by simp only [goodDyB, decide_eq_true_eq] at hg; omega
    obtain ⟨p, rfl⟩ := Int.eq_ofNat_of_zero_le hp
    rw [stalkOfV_good t p hg]
    exact stalkOfS_any t p w hg

set_option maxHeartbeats 400000 in
theorem stalkOfI_all (t p : Int) (w : World) :
    Calls Try.prog 29 #[.agg #[.int .i64 t, .int .i64 p]] w fun e w' => e = .returned (.tuple #[.string (stalkOfV t p).1, .bool (stalkOfV t p).2]) ∧ Below w.heap.size w w' := by
  cases hg : goodDyB t p
  · rw [stalkOfV_bad t p hg]
    go_enter Try.func29, Try.ntmps29
    go_wp2_with fail
    have hB := box1 w 45 #[.int .i64 t, .int .i64 p]
    generalize w.alloc (.cells #[.int .i64 t, .int .i64 p] 45) = W at *
    obtain ⟨b1, hbW, hzW⟩ := hB
    ((with_reducible refine (goodDyI_any _ _ _).mono ?_); rintro e w1 ⟨rfl, hb1⟩)
    have hb11 := hbW.trans (hb1.mono (by omega))
    clear b1 hzW
    go_wp2
    go_ret2
    exact ⟨rfl, hb11⟩
  · have hp : 0 ≤ p := by simp only [goodDyB, decide_eq_true_eq] at hg; omega
    obtain ⟨p, rfl⟩ := Int.eq_ofNat_of_zero_le hp
    rw [stalkOfV_good t p hg]
    exact stalkOfI_any t p w hg

set_option maxHeartbeats 800000 in
theorem lawStalkOf (t p : Int) (w : World) (ht : (Lit.int .i64 t).wf = true) (hp : (Lit.int .i64 p).wf = true) :
    Calls Try.prog 6 #[.agg #[.int .i64 t, .int .i64 p]] w fun e w' => e = .returned (.bool true) ∧ Below w.heap.size w w' := by
  obtain ⟨s, b, hsb⟩ : ∃ s b, stalkOfV t p = (s, b) := ⟨_, _, rfl⟩
  have HS := fun W => stalkOfS_all t p W
  have HI := fun W => stalkOfI_all t p W
  rw [hsb] at HS HI
  have HS' := Lib.hid HS; have HI' := Lib.hid HI; clear HS HI hsb ht hp
  go_enter Try.func6, Try.ntmps6
  go_wp2_with fail
  have hB := box1 w 42 #[.int .i64 t, .int .i64 p]
  generalize w.alloc (.cells #[.int .i64 t, .int .i64 p] 42) = W at *
  obtain ⟨b1, hbW, hzW⟩ := hB
  have hlW := b1.lt
  ((with_reducible refine (toDy_any _ _ _).mono ?_); rintro e w1 ⟨rfl, hb1⟩)
  have b11 := b1.below hb1 (by omega)
  have h1 := hbW.trans (hb1.mono (by omega))
  clear b1 hbW hb1
  have hl1 := b11.lt
  go_wp2_with fail
  ((with_reducible refine (HS'.out _).mono ?_); rintro e w2 ⟨rfl, hb2⟩)
  have b12 := b11.below hb2 (by omega)
  have h2 := h1.trans (hb2.mono (by omega))
  clear b11 h1 hb2
  have hl2 := b12.lt
  have c0 : w2.cell? ⟨w.heap.size, 0, none⟩ = some (.int .i64 t) := b12.cell 0
  have c1 : w2.cell? ⟨w.heap.size, 1, none⟩ = some (.int .i64 p) := b12.cell 1
  go_wp2_with fail
  ((with_reducible refine (toDy_any _ _ _).mono ?_); rintro e w3 ⟨rfl, hb3⟩)
  have h3 := h2.trans (hb3.mono (by omega))
  have hz3 := hb3.size
  go_wp2_with fail
  ((with_reducible refine (HI'.out _).mono ?_); rintro e w4 ⟨rfl, hb4⟩)
  have h4 := h3.trans (hb4.mono (by omega))
  cases b
  all_goals
    go_wp2
    go_ret
    exact ⟨rfl, h4⟩
end Go.Proofs.Ytmdnbmdkommmkaa
