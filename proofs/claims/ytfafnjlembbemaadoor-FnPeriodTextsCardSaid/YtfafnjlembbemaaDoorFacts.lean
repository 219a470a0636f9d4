/- What the card asks of the program as a whole. Conditions: none. -/
import Derived.Test.YtfafnjlembbemaaDoorCards
import Derived.Test.YtfafnjlembbemaaDoorRows
import Derived.ProofKit
namespace Go.Proofs.YtfafnjlembbemaaDoor
set_option maxRecDepth 100000
theorem t_main : Tryd.pinned.checked.prog.mainIs = some (((true, "e7e67d052a2cfa4c73e36d5683a54180ebd0ba5b2c7bd2bce77655d99bf66d93") : Bool × String).1, ((true, "e7e67d052a2cfa4c73e36d5683a54180ebd0ba5b2c7bd2bce77655d99bf66d93") : Bool × String).2.toList) := by kernel_rfl
theorem t_looks : true = Tryd.pinned.checked.prog.looks [] := by kernel_rfl
theorem t_laid : laidOutB Tryd.pinned.checked.prog = true := by kernel_rfl
theorem t_rowed : mapsRowed Tryd.pinned.checked.prog = true := by kernel_rfl
theorem t_stops : (Tryd.pinned.checked.prog.stops == []) = true := by kernel_rfl
theorem t_knobs : (Tryd.pinned.checked.prog.stopKnobs == []) = true := by kernel_rfl
theorem t_keys : (Rows.fnExactReadPeriodRow.plainKeys == Tryd.pinned.checked.prog.plainKeys) = true := by kernel_rfl
theorem t_heard : Tryd.pinned.checked.prog.stopsHeard = true := by kernel_rfl
theorem t_enter : Tryd.pinned.checked.prog.mayEnter = true := by kernel_rfl
theorem t_lifts : (Rows.fnExactReadPeriodRow.lifted == Tryd.pinned.checked.prog.liftsFinal) = true := by kernel_rfl
theorem t_make : (Tryd.pinned.checked.prog.make == some Rows.fnExactReadPeriodRow.make) = true := by kernel_rfl
end Go.Proofs.YtfafnjlembbemaaDoor
