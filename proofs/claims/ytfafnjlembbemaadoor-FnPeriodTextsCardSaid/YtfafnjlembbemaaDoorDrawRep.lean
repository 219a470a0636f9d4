/- DrawLeastPeriod, DrawRepeats, rBig, rCut: contracts. Conditions: none. -/
import Derived.Test.YtfafnjlembbemaaDoorDrawPer
import Derived.Test.YtfafnjlembbemaaDoorPeriod2
import Derived.Deep.RegionHeld3
import Derived.RegionTactic
namespace Go.Proofs.YtfafnjlembbemaaDoor
open Go.RowKit
set_option linter.unusedVariables false

/-- The slice reads as these bytes. -/
def RdY (w : World) (A : Option Addr) (c : Nat) (bs : List Int) : Prop := Rd w w.heap.size A c (byts bs) ∧ ∀ b ∈ bs, 0 ≤ b ∧ b ≤ 255
theorem RdY.below {w w' : World} {A : Option Addr} {c : Nat} {bs : List Int} (h : RdY w A c bs) (hb : Below w.heap.size w w') : RdY w' A c bs :=
  ⟨(h.1.below hb (Nat.le_refl _)).more hb.size, h.2⟩
theorem byts_len (bs : List Int) : (byts bs).length = bs.length := by simp [byts]
/-- A cursor newly boxed. -/
theorem Cur.new {w : World} {A : Option Addr} {c : Nat} {bs : List Int} (h : RdY w A c bs) :
    Cur (w.alloc (.cells #[.slice A bs.length c, .int .i64 0, .int .u64 0] 60)) w.heap.size w.heap.size 0 :=
  ⟨A, c, bs, 0, 0, Blk.new _ _ _, h.1.below (bel1 _ _) (Nat.le_refl _), Nat.le_refl _, Nat.le_refl _, h.2, by omega, by omega⟩

/-- A new row of numbers. -/
def NewR (w : World) (n : Nat) (e : Ending) (w' : World) : Prop :=
  ∃ (A : Option Addr) (c : Nat) (xs : List Int), e = .returned (.slice A xs.length c) ∧ OwnI w' w.heap.size (.slice A xs.length c) xs ∧ Below w.heap.size w w' ∧ xs.length ≤ n

/-- A new row of numbers and a period. -/
def NewRP (w : World) (n : Nat) (e : Ending) (w' : World) : Prop :=
  ∃ (A : Option Addr) (c : Nat) (xs : List Int) (p l : Int), e = .returned (.tuple #[.slice A xs.length c, .agg #[.int .i64 p, .int .i64 l]]) ∧ OwnI w' w.heap.size (.slice A xs.length c) xs ∧ Below w.heap.size w w' ∧ xs.length ≤ n

theorem perV_form (o : Option (Nat × Nat)) : ∃ (p l : Int) (b : Bool), perV o = .tuple #[.agg #[.int .i64 p, .int .i64 l], .bool b] := by
  cases o
  · exact ⟨_, _, _, rfl⟩
  · exact ⟨_, _, _, rfl⟩

theorem Own.setsx {w : World} {base k : Nat} {E : TypeId} {v : Value} {cs : List Value} (h : Own w base E v cs) (hk : v.ownBlock ≠ some k) (i j : Nat) (a b : Value) : Own ((w.setCell ⟨k, i, none⟩ a).setCell ⟨k, j, none⟩ b) base E v cs :=
  (h.far ⟨k, i, none⟩ a hk).far ⟨k, j, none⟩ b hk
theorem Own.sets2 {w : World} {base k : Nat} {E : TypeId} {v : Value} {cs : List Value} (h : Own w base E v cs) (hk : k < base) (i j : Nat) (a b : Value) : Own ((w.setCell ⟨k, i, none⟩ a).setCell ⟨k, j, none⟩ b) base E v cs :=
  h.setsx (fun e => by have := (h.lt k e).1; omega) i j a b

end Go.Proofs.YtfafnjlembbemaaDoor
