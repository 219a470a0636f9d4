/- Draws of stalks and of dyadic numbers. Conditions: none. -/
import Derived.Test.YtbhficohgdlojaaDoorDrawS
import Derived.Test.YtbhficohgdlojaaDoorDy1
namespace Go.Proofs.YtbhficohgdlojaaDoor
open Go.RowKit
set_option linter.unusedVariables false

/-- A new text. -/
def NewT (w : World) (m : Nat) (e : Ending) (w' : World) : Prop := ∃ s : ByteArray, e = .returned (.string s) ∧ s.size ≤ m ∧ Below w.heap.size w w'

theorem Cur.put {w : World} {B g a : Nat} (h : Cur w B g a) (p : Addr) (hp : g < p.block) (u : Value) : Cur (w.setCell p u) B g a :=
  h.ownb (row := some p.block) ⟨rfl, rfl, rfl, by simp, fun k _ hk => Below.heap_setCell _ _ _ _ fun e => hk (by rw [e])⟩ fun y hy => by injection hy with hy; omega
theorem Gb.put {B g : Nat} {a b : World} (h : Gb B g a b) (p : Addr) (hp : B ≤ p.block) (u : Value) : Gb B g a (b.setCell p u) := h.trans (Gb.of_below ((Below.refl _ _).setCell hp u))
/-- A drawn number. -/
def DrawnD (w : World) (B g a : Nat) (e : Ending) (w' : World) : Prop := ∃ t p : Int, e = .returned (.agg #[.int .i64 t, .int .i64 p]) ∧ -1000000 ≤ t ∧ t ≤ 1000000 ∧ Cur w' B g a ∧ Gb w.heap.size g w w'
end Go.Proofs.YtbhficohgdlojaaDoor
