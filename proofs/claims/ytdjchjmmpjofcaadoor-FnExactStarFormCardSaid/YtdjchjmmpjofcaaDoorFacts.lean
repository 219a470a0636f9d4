/- What the card asks of the program as a whole. Conditions: none. -/
import Derived.Test.YtdjchjmmpjofcaaDoorCards
import Derived.Test.YtdjchjmmpjofcaaDoorRows
import Derived.ProofKit
namespace Go.Proofs.YtdjchjmmpjofcaaDoor
set_option maxRecDepth 100000
theorem t_main : Tryd.pinned.checked.prog.mainIs = some (((true, "d5915132686d6de2f15c4628995eca974bc612480e867c5769eaf62f349d61b8") : Bool × String).1, ((true, "d5915132686d6de2f15c4628995eca974bc612480e867c5769eaf62f349d61b8") : Bool × String).2.toList) := by kernel_rfl
theorem t_looks : false = Tryd.pinned.checked.prog.looks [] := by kernel_rfl
theorem t_laid : laidOutB Tryd.pinned.checked.prog = true := by kernel_rfl
theorem t_rowed : mapsRowed Tryd.pinned.checked.prog = true := by kernel_rfl
theorem t_stops : (Tryd.pinned.checked.prog.stops == []) = true := by kernel_rfl
theorem t_knobs : (Tryd.pinned.checked.prog.stopKnobs == []) = true := by kernel_rfl
theorem t_keys : (Rows.fnExactStarFormRow.plainKeys == Tryd.pinned.checked.prog.plainKeys) = true := by kernel_rfl
theorem t_heard : Tryd.pinned.checked.prog.stopsHeard = true := by kernel_rfl
theorem t_enter : Tryd.pinned.checked.prog.mayEnter = true := by kernel_rfl
theorem t_lifts : (Rows.fnExactStarFormRow.lifted == Tryd.pinned.checked.prog.liftsFinal) = true := by kernel_rfl
theorem t_make : (Tryd.pinned.checked.prog.make == some Rows.fnExactStarFormRow.make) = true := by kernel_rfl
end Go.Proofs.YtdjchjmmpjofcaaDoor
