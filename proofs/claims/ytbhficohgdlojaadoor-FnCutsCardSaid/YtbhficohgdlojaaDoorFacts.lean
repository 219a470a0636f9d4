/- What the card asks of the program as a whole. Conditions: none. -/
import Derived.Test.YtbhficohgdlojaaDoorCards
import Derived.Test.YtbhficohgdlojaaDoorRows
import Derived.ProofKit
namespace Go.Proofs.YtbhficohgdlojaaDoor
set_option maxRecDepth 100000
theorem t_main : Tryd.pinned.checked.prog.mainIs = some (((true, "a8d42dac7f60d5a60a364922119703fd888ac960beb08da8df8bc857954311ec") : Bool × String).1, ((true, "a8d42dac7f60d5a60a364922119703fd888ac960beb08da8df8bc857954311ec") : Bool × String).2.toList) := by kernel_rfl
theorem t_looks : true = Tryd.pinned.checked.prog.looks [] := by kernel_rfl
theorem t_laid : laidOutB Tryd.pinned.checked.prog = true := by kernel_rfl
theorem t_rowed : mapsRowed Tryd.pinned.checked.prog = true := by kernel_rfl
theorem t_stops : (Tryd.pinned.checked.prog.stops == []) = true := by kernel_rfl
theorem t_knobs : (Tryd.pinned.checked.prog.stopKnobs == []) = true := by kernel_rfl
theorem t_keys : (Rows.fnCutsRow.plainKeys == Tryd.pinned.checked.prog.plainKeys) = true := by kernel_rfl
theorem t_heard : Tryd.pinned.checked.prog.stopsHeard = true := by kernel_rfl
theorem t_enter : Tryd.pinned.checked.prog.mayEnter = true := by kernel_rfl
theorem t_lifts : (Rows.fnCutsRow.lifted == Tryd.pinned.checked.prog.liftsFinal) = true := by kernel_rfl
theorem t_make : (Tryd.pinned.checked.prog.make == some Rows.fnCutsRow.make) = true := by kernel_rfl
end Go.Proofs.YtbhficohgdlojaaDoor
