/- l18DrawRow by contract. Conditions: none. -/
import Derived.Test.YtfafnjlembbemaaDoorCur
import Derived.Test.YtfafnjlembbemaaDoorSl
namespace Go.Proofs.YtfafnjlembbemaaDoor
open Go.RowKit
set_option linter.unusedVariables false

theorem Cur.ownb {w w' : World} {B g a : Nat} {row : Option Nat} (h : Cur w B g a) (hb : w.grownBy w' row) (hr : ∀ y, row = some y → g < y) : Cur w' B g a := by
  obtain ⟨A, c, bs, k, seed, h1, h2, h3, r⟩ := h
  have hlt := h1.lt
  refine ⟨A, c, bs, k, seed, h1.grown hb (fun e => by have := hr g e.symm; omega), ?_, h3, r⟩
  exact ⟨h2.1, h2.2.1, h2.2.2.1, fun j hj => by
    obtain ⟨b, o, hA, hbB, hc⟩ := h2.2.2.2 j hj
    refine ⟨b, o, hA, hbB, fun i u hi => ?_⟩
    rw [← hc i u hi]
    unfold World.cell?
    rw [hb.block b (by omega) (fun e => by have := hr b e.symm; omega)]⟩

/-- A drawn row of numbers. -/
def DrawnR (w : World) (B g a n : Nat) (e : Ending) (w' : World) : Prop :=
  ∃ (A : Option Addr) (c : Nat) (xs : List Int), e = .returned (.slice A xs.length c) ∧ OwnI w' w.heap.size (.slice A xs.length c) xs ∧ Gb w.heap.size g w w' ∧ Cur w' B g a ∧ xs.length ≤ n

end Go.Proofs.YtfafnjlembbemaaDoor
