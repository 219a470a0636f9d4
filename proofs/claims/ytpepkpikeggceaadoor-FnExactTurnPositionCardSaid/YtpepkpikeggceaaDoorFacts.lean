/- What the card asks of the program as a whole. Conditions: none. -/
import Derived.Test.YtpepkpikeggceaaDoorCards
import Derived.Test.YtpepkpikeggceaaDoorRows
import Derived.ProofKit
namespace Go.Proofs.YtpepkpikeggceaaDoor
set_option maxRecDepth 100000
theorem t_main : Tryd.pinned.checked.prog.mainIs = some (((true, "55ed1d2c30da525c5e0e4720061c7978241b0fb80933783b7ba699f79f5a7d86") : Bool × String).1, ((true, "55ed1d2c30da525c5e0e4720061c7978241b0fb80933783b7ba699f79f5a7d86") : Bool × String).2.toList) := by kernel_rfl
theorem t_looks : false = Tryd.pinned.checked.prog.looks [] := by kernel_rfl
theorem t_laid : laidOutB Tryd.pinned.checked.prog = true := by kernel_rfl
theorem t_rowed : mapsRowed Tryd.pinned.checked.prog = true := by kernel_rfl
theorem t_stops : (Tryd.pinned.checked.prog.stops == []) = true := by kernel_rfl
theorem t_knobs : (Tryd.pinned.checked.prog.stopKnobs == []) = true := by kernel_rfl
theorem t_keys : (Rows.fnExactGoodPositionRow.plainKeys == Tryd.pinned.checked.prog.plainKeys) = true := by kernel_rfl
theorem t_heard : Tryd.pinned.checked.prog.stopsHeard = true := by kernel_rfl
theorem t_enter : Tryd.pinned.checked.prog.mayEnter = true := by kernel_rfl
theorem t_lifts : (Rows.fnExactGoodPositionRow.lifted == Tryd.pinned.checked.prog.liftsFinal) = true := by kernel_rfl
theorem t_make : (Tryd.pinned.checked.prog.make == some Rows.fnExactGoodPositionRow.make) = true := by kernel_rfl
end Go.Proofs.YtpepkpikeggceaaDoor
