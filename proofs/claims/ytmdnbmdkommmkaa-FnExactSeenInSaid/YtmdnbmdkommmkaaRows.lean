/-
  No cell of these rows narrows 'for every input' (looked for: loops, veiled, ifaces, maps, wideKeys, modest, calm, conditions, laid).
  DERIVED. THE GIVEN ROWS OF THIS SEAT. 6 by the template 'for every input the law returns true; each argument reads behind the call as it read before'; 0 by the template 'total and deterministic' (their statements: YtmdnbmdkommmkaaTotals.lean).
  GIVEN WITH THE SEED: the statements are not yours to turn. If you find one false, say at which input.
  Laid BY PROGRAM, IN A SANDBOX (cutbox-rows.mjs): the forced cells as the released guide's own fill.sh prints them over the translation 94db5ba6ebe5cd67… (all of the seat's roots in one cut). By AI agents, Wed Nov 11 2026. No macro, syntax, notation, axiom, sorry.
-/
import Derived.Test.YtmdnbmdkommmkaaChecked
import GoSem.Claim
import GoSem.ClaimJoined
import GoSem.ClaimMapViews
import Derived.JoinedTies
import Derived.KernelRfl
namespace Go.Proofs.Ytmdnbmdkommmkaa
/- THE CELL 'sum', in the pinned program and in every row, IS THE sha256 OF THE DUMP (.gsa) THAT YtmdnbmdkommmkaaProg.lean LOADS. Nothing in Lean hashes anything: it is a label: what it is worth is what the hold of that sum in a sandbox is worth. -/
noncomputable def Try.pinned : Pinned := { name := "ytmdnbmdkommmkaa", sum := "94db5ba6ebe5cd676ac4197fe2377cfc111aef7389af76caa4dd9c586d649af7", checked := Try.checked }
namespace Rows
def none {H : Type} : Left H := { results := [], args := [] }

/-- 'laws.FnRows1': WHATEVER THE INPUT: true; the input reads as it did. -/
def fnRows1Spec : ChangeSpec := { name := "fnRows1", fn := fun _ => fun
  | [d] => { results := [.lit (.bool true)], args := [d] }
  | _ => none }
def fnRows1Row : OpenClaim := { program := "ytmdnbmdkommmkaa", sum := "94db5ba6ebe5cd676ac4197fe2377cfc111aef7389af76caa4dd9c586d649af7", func := "loop.example/g00868/laws.FnRows1", spec := "fnRows1", apart := false }
def FnRows1Said : Prop := fnRows1Row.holds Try.pinned (OpenSpec.ofChange fnRows1Spec)

/-- ITS FALSE NEIGHBOUR: 'it returns false'. Refute it at one input. -/
def fnRows1Wrong : ChangeSpec := { name := "fnRows1", fn := fun _ => fun
  | [d] => { results := [.lit (.bool false)], args := [d] }
  | _ => none }
def FnRows1WrongFalsely : Prop := fnRows1Row.holds Try.pinned (OpenSpec.ofChange fnRows1Wrong)

/-- 'laws.FnPeriods': WHATEVER THE INPUT: true; the input reads as it did. -/
def fnPeriodsSpec : ChangeSpec := { name := "fnPeriods", fn := fun _ => fun
  | [d] => { results := [.lit (.bool true)], args := [d] }
  | _ => none }
def fnPeriodsRow : OpenClaim := { program := "ytmdnbmdkommmkaa", sum := "94db5ba6ebe5cd676ac4197fe2377cfc111aef7389af76caa4dd9c586d649af7", func := "loop.example/g00868/laws.FnPeriods", spec := "fnPeriods", apart := false }
def FnPeriodsSaid : Prop := fnPeriodsRow.holds Try.pinned (OpenSpec.ofChange fnPeriodsSpec)

/-- ITS FALSE NEIGHBOUR: 'it returns false'. Refute it at one input. -/
def fnPeriodsWrong : ChangeSpec := { name := "fnPeriods", fn := fun _ => fun
  | [d] => { results := [.lit (.bool false)], args := [d] }
  | _ => none }
def FnPeriodsWrongFalsely : Prop := fnPeriodsRow.holds Try.pinned (OpenSpec.ofChange fnPeriodsWrong)

/-- 'laws.FnProofs1': WHATEVER THE INPUT: true; the input reads as it did. -/
def fnProofs1Spec : ChangeSpec := { name := "fnProofs1", fn := fun _ => fun
  | [d] => { results := [.lit (.bool true)], args := [d] }
  | _ => none }
def fnProofs1Row : OpenClaim := { program := "ytmdnbmdkommmkaa", sum := "94db5ba6ebe5cd676ac4197fe2377cfc111aef7389af76caa4dd9c586d649af7", func := "loop.example/g00868/laws.FnProofs1", spec := "fnProofs1", apart := false }
def FnProofs1Said : Prop := fnProofs1Row.holds Try.pinned (OpenSpec.ofChange fnProofs1Spec)

/-- ITS FALSE NEIGHBOUR: 'it returns false'. Refute it at one input. -/
def fnProofs1Wrong : ChangeSpec := { name := "fnProofs1", fn := fun _ => fun
  | [d] => { results := [.lit (.bool false)], args := [d] }
  | _ => none }
def FnProofs1WrongFalsely : Prop := fnProofs1Row.holds Try.pinned (OpenSpec.ofChange fnProofs1Wrong)

/-- 'laws.FnExactStalkOf': WHATEVER THE INPUT: true; the input reads as it did. -/
def fnExactStalkOfSpec : ChangeSpec := { name := "fnExactStalkOf", fn := fun _ => fun
  | [d] => { results := [.lit (.bool true)], args := [d] }
  | _ => none }
def fnExactStalkOfRow : OpenClaim := { program := "ytmdnbmdkommmkaa", sum := "94db5ba6ebe5cd676ac4197fe2377cfc111aef7389af76caa4dd9c586d649af7", func := "loop.example/g00868/laws.FnExactStalkOf", spec := "fnExactStalkOf", recurses := true, apart := false }
def FnExactStalkOfSaid : Prop := fnExactStalkOfRow.holds Try.pinned (OpenSpec.ofChange fnExactStalkOfSpec)

/-- ITS FALSE NEIGHBOUR: 'it returns false'. Refute it at one input. -/
def fnExactStalkOfWrong : ChangeSpec := { name := "fnExactStalkOf", fn := fun _ => fun
  | [d] => { results := [.lit (.bool false)], args := [d] }
  | _ => none }
def FnExactStalkOfWrongFalsely : Prop := fnExactStalkOfRow.holds Try.pinned (OpenSpec.ofChange fnExactStalkOfWrong)

/-- 'laws.FnExactWallAt': WHATEVER THE INPUT: true; the input reads as it did. -/
def fnExactWallAtSpec : ChangeSpec := { name := "fnExactWallAt", fn := fun _ => fun
  | [d1, d2] => { results := [.lit (.bool true)], args := [d1, d2] }
  | _ => none }
def fnExactWallAtRow : OpenClaim := { program := "ytmdnbmdkommmkaa", sum := "94db5ba6ebe5cd676ac4197fe2377cfc111aef7389af76caa4dd9c586d649af7", func := "loop.example/g00868/laws.FnExactWallAt", spec := "fnExactWallAt", apart := false }
def FnExactWallAtSaid : Prop := fnExactWallAtRow.holds Try.pinned (OpenSpec.ofChange fnExactWallAtSpec)

/-- ITS FALSE NEIGHBOUR: 'it returns false'. Refute it at one input. -/
def fnExactWallAtWrong : ChangeSpec := { name := "fnExactWallAt", fn := fun _ => fun
  | [d1, d2] => { results := [.lit (.bool false)], args := [d1, d2] }
  | _ => none }
def FnExactWallAtWrongFalsely : Prop := fnExactWallAtRow.holds Try.pinned (OpenSpec.ofChange fnExactWallAtWrong)

/-- 'laws.FnExactSeenIn': WHATEVER THE INPUT: true; the input reads as it did. -/
def fnExactSeenInSpec : ChangeSpec := { name := "fnExactSeenIn", fn := fun _ => fun
  | [d1, d2] => { results := [.lit (.bool true)], args := [d1, d2] }
  | _ => none }
def fnExactSeenInRow : OpenClaim := { program := "ytmdnbmdkommmkaa", sum := "94db5ba6ebe5cd676ac4197fe2377cfc111aef7389af76caa4dd9c586d649af7", func := "loop.example/g00868/laws.FnExactSeenIn", spec := "fnExactSeenIn", recurses := true, apart := false }
def FnExactSeenInSaid : Prop := fnExactSeenInRow.holds Try.pinned (OpenSpec.ofChange fnExactSeenInSpec)

/-- ITS FALSE NEIGHBOUR: 'it returns false'. Refute it at one input. -/
def fnExactSeenInWrong : ChangeSpec := { name := "fnExactSeenIn", fn := fun _ => fun
  | [d1, d2] => { results := [.lit (.bool false)], args := [d1, d2] }
  | _ => none }
def FnExactSeenInWrongFalsely : Prop := fnExactSeenInRow.holds Try.pinned (OpenSpec.ofChange fnExactSeenInWrong)

/- THE SECOND FORM. 'bulk': how many values and letters a reading holds, each counted each time it is reached (what is shared counts as often as it is met; a slice's spare places count too). A statement '..UptoSaid' is the law's where the arguments, and the package variables that the reading takes, are together of bulk at most 1048576: NARROWER than '..Said'. Prove '..Said' where nothing that the law and all that it calls make is longer than what came in: it says more and counts as full. Else prove '..UptoSaid'. A law counts once. -/
mutual
def uptoBulk {H : Type} : DataW H → Nat
  | .lit (.string bytes) => bytes.length + 1
  | .lit _ => 1
  | .nil => 1
  | .ptr d => uptoBulk d + 1
  | .slice elems spare => uptoBulkAll elems + uptoBulkAll spare + 1
  | .agg parts => uptoBulkAll parts + 1
  | .iface _ d => uptoBulk d + 1
  | .map entries => uptoBulkEntries entries + 1
  | .held _ => 1
def uptoBulkAll {H : Type} : List (DataW H) → Nat
  | [] => 0
  | d :: r => uptoBulk d + uptoBulkAll r
def uptoBulkEntries {H : Type} : List (Lit × DataW H) → Nat
  | [] => 0
  | x :: r => uptoBulkEntry x + uptoBulkEntries r
def uptoBulkEntry {H : Type} : Lit × DataW H → Nat
  | (.string bytes, d) => bytes.length + uptoBulk d + 1
  | (_, d) => uptoBulk d + 1
 end
def uptoSmall : (H : Type) → List (DataW H) → Bool := fun _ ds => decide (uptoBulkAll ds ≤ 1048576)
def OpenSpec.upto (s : _root_.Go.ChangeSpec) : _root_.Go.OpenSpec := { _root_.Go.OpenSpec.ofChange s with cond := some uptoSmall }

/-- 'laws.FnRows1', WHERE WHAT IT READS IS OF BULK AT MOST 1048576: true; the input reads as it did. -/
def fnRows1UptoRow : OpenClaim := { program := "ytmdnbmdkommmkaa", sum := "94db5ba6ebe5cd676ac4197fe2377cfc111aef7389af76caa4dd9c586d649af7", func := "loop.example/g00868/laws.FnRows1", spec := "fnRows1", apart := false, narrowed := true }
def FnRows1UptoSaid : Prop := fnRows1UptoRow.holds Try.pinned (OpenSpec.upto fnRows1Spec)

/-- 'laws.FnPeriods', WHERE WHAT IT READS IS OF BULK AT MOST 1048576: true; the input reads as it did. -/
def fnPeriodsUptoRow : OpenClaim := { program := "ytmdnbmdkommmkaa", sum := "94db5ba6ebe5cd676ac4197fe2377cfc111aef7389af76caa4dd9c586d649af7", func := "loop.example/g00868/laws.FnPeriods", spec := "fnPeriods", apart := false, narrowed := true }
def FnPeriodsUptoSaid : Prop := fnPeriodsUptoRow.holds Try.pinned (OpenSpec.upto fnPeriodsSpec)

/-- 'laws.FnProofs1', WHERE WHAT IT READS IS OF BULK AT MOST 1048576: true; the input reads as it did. -/
def fnProofs1UptoRow : OpenClaim := { program := "ytmdnbmdkommmkaa", sum := "94db5ba6ebe5cd676ac4197fe2377cfc111aef7389af76caa4dd9c586d649af7", func := "loop.example/g00868/laws.FnProofs1", spec := "fnProofs1", apart := false, narrowed := true }
def FnProofs1UptoSaid : Prop := fnProofs1UptoRow.holds Try.pinned (OpenSpec.upto fnProofs1Spec)

/-- 'laws.FnExactStalkOf', WHERE WHAT IT READS IS OF BULK AT MOST 1048576: true; the input reads as it did. -/
def fnExactStalkOfUptoRow : OpenClaim := { program := "ytmdnbmdkommmkaa", sum := "94db5ba6ebe5cd676ac4197fe2377cfc111aef7389af76caa4dd9c586d649af7", func := "loop.example/g00868/laws.FnExactStalkOf", spec := "fnExactStalkOf", recurses := true, apart := false, narrowed := true }
def FnExactStalkOfUptoSaid : Prop := fnExactStalkOfUptoRow.holds Try.pinned (OpenSpec.upto fnExactStalkOfSpec)

/-- 'laws.FnExactWallAt', WHERE WHAT IT READS IS OF BULK AT MOST 1048576: true; the input reads as it did. -/
def fnExactWallAtUptoRow : OpenClaim := { program := "ytmdnbmdkommmkaa", sum := "94db5ba6ebe5cd676ac4197fe2377cfc111aef7389af76caa4dd9c586d649af7", func := "loop.example/g00868/laws.FnExactWallAt", spec := "fnExactWallAt", apart := false, narrowed := true }
def FnExactWallAtUptoSaid : Prop := fnExactWallAtUptoRow.holds Try.pinned (OpenSpec.upto fnExactWallAtSpec)

/-- 'laws.FnExactSeenIn', WHERE WHAT IT READS IS OF BULK AT MOST 1048576: true; the input reads as it did. -/
def fnExactSeenInUptoRow : OpenClaim := { program := "ytmdnbmdkommmkaa", sum := "94db5ba6ebe5cd676ac4197fe2377cfc111aef7389af76caa4dd9c586d649af7", func := "loop.example/g00868/laws.FnExactSeenIn", spec := "fnExactSeenIn", recurses := true, apart := false, narrowed := true }
def FnExactSeenInUptoSaid : Prop := fnExactSeenInUptoRow.holds Try.pinned (OpenSpec.upto fnExactSeenInSpec)

end Rows
end Go.Proofs.Ytmdnbmdkommmkaa
