/- Dyadic numbers: the program's and the reference's small functions, by contracts. Conditions: none. -/
import Derived.Test.YtbhficohgdlojaaDoorIn
import Derived.Test.YtbhficohgdlojaaDoorMem
import Derived.Test.YtbhficohgdlojaaDoorDy0
import Derived.OwnWalk
import Derived.IntWalk
import Derived.Deep.RegionHeld3
namespace Go.Proofs.YtbhficohgdlojaaDoor
open Go.RowKit
set_option linter.unusedVariables false

/-- A dyadic number's value. -/
def dyV (t : Int) (p : Int) : Value := .agg #[.int .i64 t, .int .i64 p]
def goodDyB (t p : Int) : Bool := decide (-1000000 ≤ t ∧ t ≤ 1000000 ∧ 0 ≤ p ∧ p ≤ 16 ∧ (p = 0 ∨ t % 2 ≠ 0))
theorem tmod2 (t : Int) : (t.tmod 2 = 0) ↔ (t % 2 = 0) := by
  rcases Int.le_total 0 t with h | h
  · rw [Int.tmod_eq_emod_of_nonneg h]
  · obtain ⟨u, rfl⟩ : ∃ u, t = -u := ⟨-t, by omega⟩
    rw [Int.neg_tmod, Int.tmod_eq_emod_of_nonneg (by omega)]
    omega

theorem w64 (x : Int) (h1 : -9000000000000000000 ≤ x) (h2 : x ≤ 9000000000000000000) : wrap64 x = x := by unfold wrap64; omega
/-- A number's value. -/
def dyP (x : Int × Nat) : Value := .agg #[.int .i64 x.1, .int .i64 x.2]
def Fits (x : Int) : Prop := -1000000000000000 ≤ x ∧ x ≤ 1000000000000000

theorem box1 (w : World) (T1 : TypeId) (c1 : Array Value) : Blk (w.alloc (.cells c1 T1)) w.heap.size T1 c1 ∧ Below w.heap.size w (w.alloc (.cells c1 T1)) ∧ (w.alloc (.cells c1 T1)).heap.size = w.heap.size + 1 :=
  ⟨Blk.new _ _ _, (Below.refl _ _).alloc (Nat.le_refl _) _, by simp⟩
theorem box2 (w : World) (T1 T2 : TypeId) (c1 c2 : Array Value) :
    Blk ((w.alloc (.cells c1 T1)).alloc (.cells c2 T2)) w.heap.size T1 c1 ∧ Blk ((w.alloc (.cells c1 T1)).alloc (.cells c2 T2)) (w.heap.size + 1) T2 c2 ∧ Below w.heap.size w ((w.alloc (.cells c1 T1)).alloc (.cells c2 T2)) ∧ ((w.alloc (.cells c1 T1)).alloc (.cells c2 T2)).heap.size = w.heap.size + 2 := by
  obtain ⟨a1, a2, a3⟩ := box1 w T1 c1
  refine ⟨a1.alloc _, ?_, a2.alloc (by omega) _, by simp⟩
  rw [← a3]; exact Blk.new _ _ _
theorem box3 (w : World) (T1 T2 T3 : TypeId) (c1 c2 c3 : Array Value) :
    Blk (((w.alloc (.cells c1 T1)).alloc (.cells c2 T2)).alloc (.cells c3 T3)) w.heap.size T1 c1 ∧ Blk (((w.alloc (.cells c1 T1)).alloc (.cells c2 T2)).alloc (.cells c3 T3)) (w.heap.size + 1) T2 c2 ∧ Blk (((w.alloc (.cells c1 T1)).alloc (.cells c2 T2)).alloc (.cells c3 T3)) (w.heap.size + 1 + 1) T3 c3 ∧
      Below w.heap.size w (((w.alloc (.cells c1 T1)).alloc (.cells c2 T2)).alloc (.cells c3 T3)) ∧ (((w.alloc (.cells c1 T1)).alloc (.cells c2 T2)).alloc (.cells c3 T3)).heap.size = w.heap.size + 3 := by
  obtain ⟨a1, a2, a3, a4⟩ := box2 w T1 T2 c1 c2
  refine ⟨a1.alloc _, a2.alloc _, ?_, a3.alloc (by omega) _, by simp⟩
  have e : w.heap.size + 1 + 1 = ((w.alloc (.cells c1 T1)).alloc (.cells c2 T2)).heap.size := by omega
  rw [e]; exact Blk.new _ _ _

/-- The same number over 2^16. -/
def sc16 (t : Int) (p : Nat) : Int := t * 2 ^ (16 - p)
theorem sc_sc16 (t : Int) (p : Nat) (h : p ≤ 16) : sc t p = sc16 t p * 256 := by
  unfold sc sc16
  have e : 24 - p = (16 - p) + 8 := by omega
  rw [e, Int.pow_add, ← Int.mul_assoc]
  rfl
theorem mul_pow_le (t B : Int) (k m : Nat) (hk : k ≤ m) (h1 : -B ≤ t) (h2 : t ≤ B) (hB : 0 ≤ B) : -(B * 2 ^ m) ≤ t * 2 ^ k ∧ t * 2 ^ k ≤ B * 2 ^ m := by
  have a1 := pow_pos2 k
  have a2 := pow_le2 k m hk
  have b1 : t * 2 ^ k ≤ B * 2 ^ k := Int.mul_le_mul_of_nonneg_right h2 (by omega)
  have b2 : -B * 2 ^ k ≤ t * 2 ^ k := Int.mul_le_mul_of_nonneg_right h1 (by omega)
  have b3 : B * 2 ^ k ≤ B * 2 ^ m := Int.mul_le_mul_of_nonneg_left a2 hB
  rw [Int.neg_mul] at b2
  omega
theorem sc_fits (t : Int) (p : Nat) (h1 : -1000000 ≤ t) (h2 : t ≤ 1000000) : Fits (sc t p) := by
  have := mul_pow_le t 1000000 (24 - p) 24 (by omega) h1 h2 (by decide)
  unfold Fits sc
  have e : (1000000 : Int) * 2 ^ 24 = 16777216000000 := by decide
  rw [e] at this
  omega
theorem sc16_fits (t : Int) (p : Nat) (h1 : -1000000 ≤ t) (h2 : t ≤ 1000000) : -65536000000 ≤ sc16 t p ∧ sc16 t p ≤ 65536000000 := by
  have := mul_pow_le t 1000000 (16 - p) 16 (by omega) h1 h2 (by decide)
  unfold sc16
  have e : (1000000 : Int) * 2 ^ 16 = 65536000000 := by decide
  rw [e] at this
  omega


/-- What the program's lowest hands back. -/
def lowV (x : Int × Nat) : Value := if goodDyB x.1 x.2 then .tuple #[dyP x, .bool true] else .tuple #[.agg #[.int .i64 0, .int .i64 0], .bool false]

end Go.Proofs.YtbhficohgdlojaaDoor
