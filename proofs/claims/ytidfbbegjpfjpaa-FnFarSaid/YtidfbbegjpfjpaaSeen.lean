/- l1Put and SeenIn: contracts. Conditions: none. -/
import Derived.Test.YtidfbbegjpfjpaaPutI
import Derived.Test.YtidfbbegjpfjpaaMoves2
import Derived.Deep.RegionHeld3
namespace Go.Proofs.Ytidfbbegjpfjpaa
open Go.RowKit
set_option linter.unusedVariables false

theorem ints_one {l : List Int} {u : Value} (h : u ∈ ints l) : u.oneCell' = true := by
  simp [ints] at h
  obtain ⟨y, -, rfl⟩ := h
  rfl
/-- A row of numbers that can be read; nothing that was there has turned. -/
def ReadI (w : World) (xs : List Int) (e : Ending) (w' : World) : Prop :=
  ∃ A c, e = .returned (.slice A xs.length c) ∧ RdI w' w'.heap.size A c xs ∧ Below w.heap.size w w'

end Go.Proofs.Ytidfbbegjpfjpaa
