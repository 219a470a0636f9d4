/- Marks of texts and of boards, with the block that they turn, by contracts. Conditions: none. -/
import Derived.Test.YtpepkpikeggceaaDoorBoard0
import Derived.Maps.AppendAt
namespace Go.Proofs.YtpepkpikeggceaaDoor
open Go.RowKit
set_option linter.unusedVariables false

theorem grown_of_below {w w' : World} (h : Below w.heap.size w w') (row : Option Nat) : w.grownBy w' row := ⟨h.os, h.tape, h.output, h.size, fun k hk _ => h.block k hk⟩
theorem own_apart {v : Value} {row : Option Nat} {a b c d : Nat} (h1 : ∀ g, v.ownBlock = some g → a ≤ g ∧ g < b) (h2 : ∀ g, row = some g → c ≤ g ∧ g < d) (h : b ≤ c ∨ d ≤ a) : v.ownBlock = none ∨ v.ownBlock ≠ row := by
  cases hv : v.ownBlock with
  | none => exact .inl rfl
  | some g =>
    refine .inr fun e => ?_
    have := h1 g hv
    have := h2 g e.symm
    omega
/-- A new board and whether there is one are handed back. -/
def RetBB (w : World) (ss : List ByteArray) (b : Bool) (e : Ending) (w' : World) : Prop :=
  ∃ A c, e = .returned (.tuple #[.agg #[.slice A ss.length c], .bool b]) ∧ Own w' w.heap.size 9 (.slice A ss.length c) (scells ss) ∧ Below w.heap.size w w'
end Go.Proofs.YtpepkpikeggceaaDoor
