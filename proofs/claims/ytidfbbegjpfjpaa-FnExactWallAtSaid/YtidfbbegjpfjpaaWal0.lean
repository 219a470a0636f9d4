/- Points and numbers in parts: contracts for walls. Conditions: none. -/
import Derived.Test.YtidfbbegjpfjpaaDy1
namespace Go.Proofs.Ytidfbbegjpfjpaa
open Go.RowKit
set_option linter.unusedVariables false

/-- A number in 2^20ths. -/
def sc20 (t : Int) (p : Nat) : Int := t * 2 ^ (20 - p)
theorem sc_sc20 (t : Int) (p : Nat) (h : p ≤ 20) : sc t p = sc20 t p * 16 := by
  unfold sc sc20
  rw [show 24 - p = (20 - p) + 4 by omega, Int.pow_add, ← Int.mul_assoc]
  rfl
theorem sc20_fits (t : Int) (p : Nat) (h1 : -1000000 ≤ t) (h2 : t ≤ 1000000) : -1048576000000 ≤ sc20 t p ∧ sc20 t p ≤ 1048576000000 := by
  have h := mul_pow_le t 1000000 (20 - p) 20 (by omega) h1 h2 (by omega)
  unfold sc20
  have e : (1000000 : Int) * 2 ^ 20 = 1048576000000 := by decide
  rw [e] at h
  exact h

set_option maxHeartbeats 400000 in
theorem inParts_any (t : Int) (p : Nat) (w : World) (hp : p ≤ 16) (h1 : -1000000 ≤ t) (h2 : t ≤ 1000000) :
    Calls Try.prog 29 #[.agg #[.int .i64 t, .int .i64 p]] w fun e w' => e = .returned (.int .i64 (sc20 t p)) ∧ Below w.heap.size w w' := by
  have HW : Hid (wrap64 (t * 2 ^ (20 - p)) = sc20 t p) := by
    have := sc20_fits t p h1 h2
    show _ = _
    unfold sc20 at this ⊢
    exact w64 _ (by omega) (by omega)
  clear h1 h2
  have hw := HW.out
  generalize hx : sc20 t p = x at *
  go_enter Try.func29, Try.ntmps29
  go_wp2
  rw [hw]
  go_ret
  exact ⟨rfl, (Below.refl _ _).alloc (Nat.le_refl _) _⟩

set_option maxHeartbeats 800000 in
theorem asDy_any (t : Int) (w : World) (hf : Fits t) :
    Calls Try.prog 26 #[.int .i64 t] w fun e w' => e = .returned (lowV (nrm 20 t)) ∧ Below w.heap.size w w' := by
  have hC := fun W => lowest_any t 20 W (by omega) hf
  obtain ⟨a, b, c, he⟩ : ∃ (a b : Int) (c : Bool), lowV (nrm 20 t) = .tuple #[.agg #[.int .i64 a, .int .i64 b], .bool c] := by
    unfold lowV dyP
    split
    · exact ⟨_, _, _, rfl⟩
    · exact ⟨_, _, _, rfl⟩
  rw [he] at hC ⊢
  have HC : Hid (∀ W, Calls Try.prog 47 #[.int .i64 t, .int .i64 20] W fun e w' => e = .returned (.tuple #[.agg #[.int .i64 a, .int .i64 b], .bool c]) ∧ Below W.heap.size W w') := hC
  clear hC he hf
  go_enter Try.func26, Try.ntmps26
  go_wp2_with fail
  have hB := box1 w 26 #[.int .i64 0, .int .i64 0]
  generalize w.alloc (.cells #[.int .i64 0, .int .i64 0] 26) = W at *
  obtain ⟨b1, hbW, hzW⟩ := hB
  ((with_reducible refine (HC.out _).mono ?_); rintro e w1 ⟨rfl, hb1⟩)
  have b11 := b1.below hb1 (by omega)
  have h11 := hbW.trans (hb1.mono (by omega))
  have r0 : w1.cell? ⟨w.heap.size, 0, none⟩ = some (.int .i64 (0)) := Blk.cell b11 0
  have r1 : w1.cell? ⟨w.heap.size, 1, none⟩ = some (.int .i64 (0)) := Blk.cell b11 1
  have rf0 : w1.frozen? ⟨w.heap.size, 0, none⟩ = false := Blk.frozen b11 0
  have rf1 : w1.frozen? ⟨w.heap.size, 1, none⟩ = false := Blk.frozen b11 1
  clear hzW
  go_wp2
  exact bodyPost_ret (v := .tuple #[.agg #[.int .i64 a, .int .i64 b], .bool c]) (by simp [results, Try.results26, go_sem, r0, r1]) rfl ⟨rfl, (h11.setCell (by simp) _).setCell (by simp) _⟩

set_option maxHeartbeats 800000 in
theorem l2If_any (a : Int) (b : Nat) (w : World) :
    Calls Try.prog 21 #[.agg #[.int .i64 a, .int .i64 b]] w fun e w' => e = .returned (lowV (a, b)) ∧ Below w.heap.size w w' := by
  have hG := fun W => goodDyS_any a b W
  cases hg : goodDyB a b
  all_goals
    rw [hg] at hG
    have HG := Lib.hid hG
    clear hG
    go_enter Try.func21, Try.ntmps21
    go_wp2_with fail
    have hB := box2 w 26 26 #[.int .i64 a, .int .i64 b] #[.int .i64 0, .int .i64 0]
    generalize (w.alloc (.cells #[.int .i64 a, .int .i64 b] 26)).alloc (.cells #[.int .i64 0, .int .i64 0] 26) = W at *
    obtain ⟨b1, b2, hbW, hzW⟩ := hB
    ((with_reducible refine (HG.out _).mono ?_); rintro e w1 ⟨rfl, hb1⟩)
    have b11 := b1.below hb1 (by omega)
    have b21 := b2.below hb1 (by omega)
    have h11 := hbW.trans (hb1.mono (by omega))
    have q0 : w1.cell? ⟨w.heap.size, 0, none⟩ = some (.int .i64 a) := Blk.cell b11 0
    have q1 : w1.cell? ⟨w.heap.size, 1, none⟩ = some (.int .i64 b) := Blk.cell b11 1
    have r0 : w1.cell? ⟨w.heap.size + 1, 0, none⟩ = some (.int .i64 (0)) := Blk.cell b21 0
    have r1 : w1.cell? ⟨w.heap.size + 1, 1, none⟩ = some (.int .i64 (0)) := Blk.cell b21 1
    have rf0 : w1.frozen? ⟨w.heap.size + 1, 0, none⟩ = false := Blk.frozen b21 0
    have rf1 : w1.frozen? ⟨w.heap.size + 1, 1, none⟩ = false := Blk.frozen b21 1
    clear hzW
  · have HE : Hid (lowV (a, b) = .tuple #[.agg #[.int .i64 0, .int .i64 0], .bool false]) := by show _ = _; unfold lowV; rw [if_neg (by simp [hg])]
    go_wp2
    exact bodyPost_ret (v := .tuple #[.agg #[.int .i64 0, .int .i64 0], .bool false]) (by simp [results, Try.results21, go_sem, r0, r1]) rfl ⟨by rw [HE.out], (h11.setCell (by simp) _).setCell (by simp) _⟩
  · have HE : Hid (lowV (a, b) = .tuple #[.agg #[.int .i64 a, .int .i64 b], .bool true]) := by show _ = _; unfold lowV; rw [if_pos (by simp [hg])]; rfl
    go_wp2
    exact bodyPost_ret (v := .tuple #[.agg #[.int .i64 a, .int .i64 b], .bool true]) (by simp [results, Try.results21, go_sem, r0, r1]) rfl ⟨by rw [HE.out], (h11.setCell (by simp) _).setCell (by simp) _⟩
end Go.Proofs.Ytidfbbegjpfjpaa
