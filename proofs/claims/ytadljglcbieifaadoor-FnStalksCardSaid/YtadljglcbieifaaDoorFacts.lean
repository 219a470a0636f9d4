/- What the card asks of the program as a whole. Conditions: none. -/
import Derived.Test.YtadljglcbieifaaDoorCards
import Derived.Test.YtadljglcbieifaaDoorRows
import Derived.ProofKit
namespace Go.Proofs.YtadljglcbieifaaDoor
set_option maxRecDepth 100000
theorem t_main : Tryd.pinned.checked.prog.mainIs = some (((true, "6de3b8607db2623354fbba34c7f605ef5c6096bda5b2b0895630bb7812279f0b") : Bool × String).1, ((true, "6de3b8607db2623354fbba34c7f605ef5c6096bda5b2b0895630bb7812279f0b") : Bool × String).2.toList) := by kernel_rfl
theorem t_looks : true = Tryd.pinned.checked.prog.looks [] := by kernel_rfl
theorem t_laid : laidOutB Tryd.pinned.checked.prog = true := by kernel_rfl
theorem t_rowed : mapsRowed Tryd.pinned.checked.prog = true := by kernel_rfl
theorem t_stops : (Tryd.pinned.checked.prog.stops == []) = true := by kernel_rfl
theorem t_knobs : (Tryd.pinned.checked.prog.stopKnobs == []) = true := by kernel_rfl
theorem t_keys : (Rows.fnExactTreeCutsRow.plainKeys == Tryd.pinned.checked.prog.plainKeys) = true := by kernel_rfl
theorem t_heard : Tryd.pinned.checked.prog.stopsHeard = true := by kernel_rfl
theorem t_enter : Tryd.pinned.checked.prog.mayEnter = true := by kernel_rfl
theorem t_lifts : (Rows.fnExactTreeCutsRow.lifted == Tryd.pinned.checked.prog.liftsFinal) = true := by kernel_rfl
theorem t_make : (Tryd.pinned.checked.prog.make == some Rows.fnExactTreeCutsRow.make) = true := by kernel_rfl
end Go.Proofs.YtadljglcbieifaaDoor
