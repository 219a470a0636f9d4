/-
  No cell of these rows narrows 'for every input' (looked for: loops, veiled, ifaces, maps, wideKeys, modest, calm, conditions, laid).
  DERIVED. THE GIVEN ROWS OF THIS SEAT. 10 by the template 'for every input the law returns true; each argument reads behind the call as it read before'; 0 by the template 'total and deterministic' (their statements: YtflbedfgeiljmaaTotals.lean).
  GIVEN WITH THE SEED: the statements are not yours to turn. If you find one false, say at which input.
  Laid BY PROGRAM, IN A SANDBOX (cutbox-rows.mjs): the forced cells as the released guide's own fill.sh prints them over the translation e3b25522484a7c90… (all of the seat's roots in one cut). By AI agents, Wed Nov 11 2026. No macro, syntax, notation, axiom, sorry.
-/
import Derived.Test.YtflbedfgeiljmaaChecked
import GoSem.Claim
import GoSem.ClaimJoined
import GoSem.ClaimMapViews
import Derived.JoinedTies
import Derived.KernelRfl
namespace Go.Proofs.Ytflbedfgeiljmaa
/- THE CELL 'sum', in the pinned program and in every row, IS THE sha256 OF THE DUMP (.gsa) THAT YtflbedfgeiljmaaProg.lean LOADS. Nothing in Lean hashes anything: it is a label: what it is worth is what the hold of that sum in a sandbox is worth. -/
noncomputable def Try.pinned : Pinned := { name := "ytflbedfgeiljmaa", sum := "e3b25522484a7c905e94ab3fc0bd6916768638da7383005ba59f679fe21f2bf1", checked := Try.checked }
namespace Rows
def none {H : Type} : Left H := { results := [], args := [] }

/-- 'laws.FnExactGoodBox': WHATEVER THE INPUT: true; the input reads as it did. -/
def fnExactGoodBoxSpec : ChangeSpec := { name := "fnExactGoodBox", fn := fun _ => fun
  | [d] => { results := [.lit (.bool true)], args := [d] }
  | _ => none }
def fnExactGoodBoxRow : OpenClaim := { program := "ytflbedfgeiljmaa", sum := "e3b25522484a7c905e94ab3fc0bd6916768638da7383005ba59f679fe21f2bf1", func := "loop.example/g00868/laws.FnExactGoodBox", spec := "fnExactGoodBox", apart := false }
def FnExactGoodBoxSaid : Prop := fnExactGoodBoxRow.holds Try.pinned (OpenSpec.ofChange fnExactGoodBoxSpec)

/-- ITS FALSE NEIGHBOUR: 'it returns false'. Refute it at one input. -/
def fnExactGoodBoxWrong : ChangeSpec := { name := "fnExactGoodBox", fn := fun _ => fun
  | [d] => { results := [.lit (.bool false)], args := [d] }
  | _ => none }
def FnExactGoodBoxWrongFalsely : Prop := fnExactGoodBoxRow.holds Try.pinned (OpenSpec.ofChange fnExactGoodBoxWrong)

/-- 'laws.FnExactProofNeeds': WHATEVER THE INPUT: true; the input reads as it did. -/
def fnExactProofNeedsSpec : ChangeSpec := { name := "fnExactProofNeeds", fn := fun _ => fun
  | [d1, d2] => { results := [.lit (.bool true)], args := [d1, d2] }
  | _ => none }
def fnExactProofNeedsRow : OpenClaim := { program := "ytflbedfgeiljmaa", sum := "e3b25522484a7c905e94ab3fc0bd6916768638da7383005ba59f679fe21f2bf1", func := "loop.example/g00868/laws.FnExactProofNeeds", spec := "fnExactProofNeeds", apart := false }
def FnExactProofNeedsSaid : Prop := fnExactProofNeedsRow.holds Try.pinned (OpenSpec.ofChange fnExactProofNeedsSpec)

/-- ITS FALSE NEIGHBOUR: 'it returns false'. Refute it at one input. -/
def fnExactProofNeedsWrong : ChangeSpec := { name := "fnExactProofNeeds", fn := fun _ => fun
  | [d1, d2] => { results := [.lit (.bool false)], args := [d1, d2] }
  | _ => none }
def FnExactProofNeedsWrongFalsely : Prop := fnExactProofNeedsRow.holds Try.pinned (OpenSpec.ofChange fnExactProofNeedsWrong)

/-- 'laws.FnExactLeastPeriod': WHATEVER THE INPUT: true; the input reads as it did. -/
def fnExactLeastPeriodSpec : ChangeSpec := { name := "fnExactLeastPeriod", fn := fun _ => fun
  | [d] => { results := [.lit (.bool true)], args := [d] }
  | _ => none }
def fnExactLeastPeriodRow : OpenClaim := { program := "ytflbedfgeiljmaa", sum := "e3b25522484a7c905e94ab3fc0bd6916768638da7383005ba59f679fe21f2bf1", func := "loop.example/g00868/laws.FnExactLeastPeriod", spec := "fnExactLeastPeriod", apart := false }
def FnExactLeastPeriodSaid : Prop := fnExactLeastPeriodRow.holds Try.pinned (OpenSpec.ofChange fnExactLeastPeriodSpec)

/-- ITS FALSE NEIGHBOUR: 'it returns false'. Refute it at one input. -/
def fnExactLeastPeriodWrong : ChangeSpec := { name := "fnExactLeastPeriod", fn := fun _ => fun
  | [d] => { results := [.lit (.bool false)], args := [d] }
  | _ => none }
def FnExactLeastPeriodWrongFalsely : Prop := fnExactLeastPeriodRow.holds Try.pinned (OpenSpec.ofChange fnExactLeastPeriodWrong)

/-- 'laws.FnExactBoxHeaps': WHATEVER THE INPUT: true; the input reads as it did. -/
def fnExactBoxHeapsSpec : ChangeSpec := { name := "fnExactBoxHeaps", fn := fun _ => fun
  | [d] => { results := [.lit (.bool true)], args := [d] }
  | _ => none }
def fnExactBoxHeapsRow : OpenClaim := { program := "ytflbedfgeiljmaa", sum := "e3b25522484a7c905e94ab3fc0bd6916768638da7383005ba59f679fe21f2bf1", func := "loop.example/g00868/laws.FnExactBoxHeaps", spec := "fnExactBoxHeaps", recurses := true, apart := false }
def FnExactBoxHeapsSaid : Prop := fnExactBoxHeapsRow.holds Try.pinned (OpenSpec.ofChange fnExactBoxHeapsSpec)

/-- ITS FALSE NEIGHBOUR: 'it returns false'. Refute it at one input. -/
def fnExactBoxHeapsWrong : ChangeSpec := { name := "fnExactBoxHeaps", fn := fun _ => fun
  | [d] => { results := [.lit (.bool false)], args := [d] }
  | _ => none }
def FnExactBoxHeapsWrongFalsely : Prop := fnExactBoxHeapsRow.holds Try.pinned (OpenSpec.ofChange fnExactBoxHeapsWrong)

/-- 'laws.FnRows1': WHATEVER THE INPUT: true; the input reads as it did. -/
def fnRows1Spec : ChangeSpec := { name := "fnRows1", fn := fun _ => fun
  | [d] => { results := [.lit (.bool true)], args := [d] }
  | _ => none }
def fnRows1Row : OpenClaim := { program := "ytflbedfgeiljmaa", sum := "e3b25522484a7c905e94ab3fc0bd6916768638da7383005ba59f679fe21f2bf1", func := "loop.example/g00868/laws.FnRows1", spec := "fnRows1", apart := false }
def FnRows1Said : Prop := fnRows1Row.holds Try.pinned (OpenSpec.ofChange fnRows1Spec)

/-- ITS FALSE NEIGHBOUR: 'it returns false'. Refute it at one input. -/
def fnRows1Wrong : ChangeSpec := { name := "fnRows1", fn := fun _ => fun
  | [d] => { results := [.lit (.bool false)], args := [d] }
  | _ => none }
def FnRows1WrongFalsely : Prop := fnRows1Row.holds Try.pinned (OpenSpec.ofChange fnRows1Wrong)

/-- 'laws.FnExactProvedPeriod': WHATEVER THE INPUT: true; the input reads as it did. -/
def fnExactProvedPeriodSpec : ChangeSpec := { name := "fnExactProvedPeriod", fn := fun _ => fun
  | [d1, d2] => { results := [.lit (.bool true)], args := [d1, d2] }
  | _ => none }
def fnExactProvedPeriodRow : OpenClaim := { program := "ytflbedfgeiljmaa", sum := "e3b25522484a7c905e94ab3fc0bd6916768638da7383005ba59f679fe21f2bf1", func := "loop.example/g00868/laws.FnExactProvedPeriod", spec := "fnExactProvedPeriod", apart := false }
def FnExactProvedPeriodSaid : Prop := fnExactProvedPeriodRow.holds Try.pinned (OpenSpec.ofChange fnExactProvedPeriodSpec)

/-- ITS FALSE NEIGHBOUR: 'it returns false'. Refute it at one input. -/
def fnExactProvedPeriodWrong : ChangeSpec := { name := "fnExactProvedPeriod", fn := fun _ => fun
  | [d1, d2] => { results := [.lit (.bool false)], args := [d1, d2] }
  | _ => none }
def FnExactProvedPeriodWrongFalsely : Prop := fnExactProvedPeriodRow.holds Try.pinned (OpenSpec.ofChange fnExactProvedPeriodWrong)

/-- 'laws.FnExactFindPeriod': WHATEVER THE INPUT: true; the input reads as it did. -/
def fnExactFindPeriodSpec : ChangeSpec := { name := "fnExactFindPeriod", fn := fun _ => fun
  | [d1, d2] => { results := [.lit (.bool true)], args := [d1, d2] }
  | _ => none }
def fnExactFindPeriodRow : OpenClaim := { program := "ytflbedfgeiljmaa", sum := "e3b25522484a7c905e94ab3fc0bd6916768638da7383005ba59f679fe21f2bf1", func := "loop.example/g00868/laws.FnExactFindPeriod", spec := "fnExactFindPeriod", apart := false }
def FnExactFindPeriodSaid : Prop := fnExactFindPeriodRow.holds Try.pinned (OpenSpec.ofChange fnExactFindPeriodSpec)

/-- ITS FALSE NEIGHBOUR: 'it returns false'. Refute it at one input. -/
def fnExactFindPeriodWrong : ChangeSpec := { name := "fnExactFindPeriod", fn := fun _ => fun
  | [d1, d2] => { results := [.lit (.bool false)], args := [d1, d2] }
  | _ => none }
def FnExactFindPeriodWrongFalsely : Prop := fnExactFindPeriodRow.holds Try.pinned (OpenSpec.ofChange fnExactFindPeriodWrong)

/-- 'laws.FnExactFarValue': WHATEVER THE INPUT: true; the input reads as it did. -/
def fnExactFarValueSpec : ChangeSpec := { name := "fnExactFarValue", fn := fun _ => fun
  | [d1, d2, d3] => { results := [.lit (.bool true)], args := [d1, d2, d3] }
  | _ => none }
def fnExactFarValueRow : OpenClaim := { program := "ytflbedfgeiljmaa", sum := "e3b25522484a7c905e94ab3fc0bd6916768638da7383005ba59f679fe21f2bf1", func := "loop.example/g00868/laws.FnExactFarValue", spec := "fnExactFarValue", apart := false }
def FnExactFarValueSaid : Prop := fnExactFarValueRow.holds Try.pinned (OpenSpec.ofChange fnExactFarValueSpec)

/-- ITS FALSE NEIGHBOUR: 'it returns false'. Refute it at one input. -/
def fnExactFarValueWrong : ChangeSpec := { name := "fnExactFarValue", fn := fun _ => fun
  | [d1, d2, d3] => { results := [.lit (.bool false)], args := [d1, d2, d3] }
  | _ => none }
def FnExactFarValueWrongFalsely : Prop := fnExactFarValueRow.holds Try.pinned (OpenSpec.ofChange fnExactFarValueWrong)

/-- 'laws.FnPeriods': WHATEVER THE INPUT: true; the input reads as it did. -/
def fnPeriodsSpec : ChangeSpec := { name := "fnPeriods", fn := fun _ => fun
  | [d] => { results := [.lit (.bool true)], args := [d] }
  | _ => none }
def fnPeriodsRow : OpenClaim := { program := "ytflbedfgeiljmaa", sum := "e3b25522484a7c905e94ab3fc0bd6916768638da7383005ba59f679fe21f2bf1", func := "loop.example/g00868/laws.FnPeriods", spec := "fnPeriods", apart := false }
def FnPeriodsSaid : Prop := fnPeriodsRow.holds Try.pinned (OpenSpec.ofChange fnPeriodsSpec)

/-- ITS FALSE NEIGHBOUR: 'it returns false'. Refute it at one input. -/
def fnPeriodsWrong : ChangeSpec := { name := "fnPeriods", fn := fun _ => fun
  | [d] => { results := [.lit (.bool false)], args := [d] }
  | _ => none }
def FnPeriodsWrongFalsely : Prop := fnPeriodsRow.holds Try.pinned (OpenSpec.ofChange fnPeriodsWrong)

/-- 'laws.FnProofs1': WHATEVER THE INPUT: true; the input reads as it did. -/
def fnProofs1Spec : ChangeSpec := { name := "fnProofs1", fn := fun _ => fun
  | [d] => { results := [.lit (.bool true)], args := [d] }
  | _ => none }
def fnProofs1Row : OpenClaim := { program := "ytflbedfgeiljmaa", sum := "e3b25522484a7c905e94ab3fc0bd6916768638da7383005ba59f679fe21f2bf1", func := "loop.example/g00868/laws.FnProofs1", spec := "fnProofs1", apart := false }
def FnProofs1Said : Prop := fnProofs1Row.holds Try.pinned (OpenSpec.ofChange fnProofs1Spec)

/-- ITS FALSE NEIGHBOUR: 'it returns false'. Refute it at one input. -/
def fnProofs1Wrong : ChangeSpec := { name := "fnProofs1", fn := fun _ => fun
  | [d] => { results := [.lit (.bool false)], args := [d] }
  | _ => none }
def FnProofs1WrongFalsely : Prop := fnProofs1Row.holds Try.pinned (OpenSpec.ofChange fnProofs1Wrong)

/- THE SECOND FORM. 'bulk': how many values and letters a reading holds, each counted each time it is reached (what is shared counts as often as it is met; a slice's spare places count too). A statement '..UptoSaid' is the law's where the arguments, and the package variables that the reading takes, are together of bulk at most 1048576: NARROWER than '..Said'. Prove '..Said' where nothing that the law and all that it calls make is longer than what came in: it says more and counts as full. Else prove '..UptoSaid'. A law counts once. -/
mutual
def uptoBulk {H : Type} : DataW H → Nat
  | .lit (.string bytes) => bytes.length + 1
  | .lit _ => 1
  | .nil => 1
  | .ptr d => uptoBulk d + 1
  | .slice elems spare => uptoBulkAll elems + uptoBulkAll spare + 1
  | .agg parts => uptoBulkAll parts + 1
  | .iface _ d => uptoBulk d + 1
  | .map entries => uptoBulkEntries entries + 1
  | .held _ => 1
def uptoBulkAll {H : Type} : List (DataW H) → Nat
  | [] => 0
  | d :: r => uptoBulk d + uptoBulkAll r
def uptoBulkEntries {H : Type} : List (Lit × DataW H) → Nat
  | [] => 0
  | x :: r => uptoBulkEntry x + uptoBulkEntries r
def uptoBulkEntry {H : Type} : Lit × DataW H → Nat
  | (.string bytes, d) => bytes.length + uptoBulk d + 1
  | (_, d) => uptoBulk d + 1
 end
def uptoSmall : (H : Type) → List (DataW H) → Bool := fun _ ds => decide (uptoBulkAll ds ≤ 1048576)
def OpenSpec.upto (s : _root_.Go.ChangeSpec) : _root_.Go.OpenSpec := { _root_.Go.OpenSpec.ofChange s with cond := some uptoSmall }

/-- 'laws.FnExactGoodBox', WHERE WHAT IT READS IS OF BULK AT MOST 1048576: true; the input reads as it did. -/
def fnExactGoodBoxUptoRow : OpenClaim := { program := "ytflbedfgeiljmaa", sum := "e3b25522484a7c905e94ab3fc0bd6916768638da7383005ba59f679fe21f2bf1", func := "loop.example/g00868/laws.FnExactGoodBox", spec := "fnExactGoodBox", apart := false, narrowed := true }
def FnExactGoodBoxUptoSaid : Prop := fnExactGoodBoxUptoRow.holds Try.pinned (OpenSpec.upto fnExactGoodBoxSpec)

/-- 'laws.FnExactProofNeeds', WHERE WHAT IT READS IS OF BULK AT MOST 1048576: true; the input reads as it did. -/
def fnExactProofNeedsUptoRow : OpenClaim := { program := "ytflbedfgeiljmaa", sum := "e3b25522484a7c905e94ab3fc0bd6916768638da7383005ba59f679fe21f2bf1", func := "loop.example/g00868/laws.FnExactProofNeeds", spec := "fnExactProofNeeds", apart := false, narrowed := true }
def FnExactProofNeedsUptoSaid : Prop := fnExactProofNeedsUptoRow.holds Try.pinned (OpenSpec.upto fnExactProofNeedsSpec)

/-- 'laws.FnExactLeastPeriod', WHERE WHAT IT READS IS OF BULK AT MOST 1048576: true; the input reads as it did. -/
def fnExactLeastPeriodUptoRow : OpenClaim := { program := "ytflbedfgeiljmaa", sum := "e3b25522484a7c905e94ab3fc0bd6916768638da7383005ba59f679fe21f2bf1", func := "loop.example/g00868/laws.FnExactLeastPeriod", spec := "fnExactLeastPeriod", apart := false, narrowed := true }
def FnExactLeastPeriodUptoSaid : Prop := fnExactLeastPeriodUptoRow.holds Try.pinned (OpenSpec.upto fnExactLeastPeriodSpec)

/-- 'laws.FnExactBoxHeaps', WHERE WHAT IT READS IS OF BULK AT MOST 1048576: true; the input reads as it did. -/
def fnExactBoxHeapsUptoRow : OpenClaim := { program := "ytflbedfgeiljmaa", sum := "e3b25522484a7c905e94ab3fc0bd6916768638da7383005ba59f679fe21f2bf1", func := "loop.example/g00868/laws.FnExactBoxHeaps", spec := "fnExactBoxHeaps", recurses := true, apart := false, narrowed := true }
def FnExactBoxHeapsUptoSaid : Prop := fnExactBoxHeapsUptoRow.holds Try.pinned (OpenSpec.upto fnExactBoxHeapsSpec)

/-- 'laws.FnRows1', WHERE WHAT IT READS IS OF BULK AT MOST 1048576: true; the input reads as it did. -/
def fnRows1UptoRow : OpenClaim := { program := "ytflbedfgeiljmaa", sum := "e3b25522484a7c905e94ab3fc0bd6916768638da7383005ba59f679fe21f2bf1", func := "loop.example/g00868/laws.FnRows1", spec := "fnRows1", apart := false, narrowed := true }
def FnRows1UptoSaid : Prop := fnRows1UptoRow.holds Try.pinned (OpenSpec.upto fnRows1Spec)

/-- 'laws.FnExactProvedPeriod', WHERE WHAT IT READS IS OF BULK AT MOST 1048576: true; the input reads as it did. -/
def fnExactProvedPeriodUptoRow : OpenClaim := { program := "ytflbedfgeiljmaa", sum := "e3b25522484a7c905e94ab3fc0bd6916768638da7383005ba59f679fe21f2bf1", func := "loop.example/g00868/laws.FnExactProvedPeriod", spec := "fnExactProvedPeriod", apart := false, narrowed := true }
def FnExactProvedPeriodUptoSaid : Prop := fnExactProvedPeriodUptoRow.holds Try.pinned (OpenSpec.upto fnExactProvedPeriodSpec)

/-- 'laws.FnExactFindPeriod', WHERE WHAT IT READS IS OF BULK AT MOST 1048576: true; the input reads as it did. -/
def fnExactFindPeriodUptoRow : OpenClaim := { program := "ytflbedfgeiljmaa", sum := "e3b25522484a7c905e94ab3fc0bd6916768638da7383005ba59f679fe21f2bf1", func := "loop.example/g00868/laws.FnExactFindPeriod", spec := "fnExactFindPeriod", apart := false, narrowed := true }
def FnExactFindPeriodUptoSaid : Prop := fnExactFindPeriodUptoRow.holds Try.pinned (OpenSpec.upto fnExactFindPeriodSpec)

/-- 'laws.FnExactFarValue', WHERE WHAT IT READS IS OF BULK AT MOST 1048576: true; the input reads as it did. -/
def fnExactFarValueUptoRow : OpenClaim := { program := "ytflbedfgeiljmaa", sum := "e3b25522484a7c905e94ab3fc0bd6916768638da7383005ba59f679fe21f2bf1", func := "loop.example/g00868/laws.FnExactFarValue", spec := "fnExactFarValue", apart := false, narrowed := true }
def FnExactFarValueUptoSaid : Prop := fnExactFarValueUptoRow.holds Try.pinned (OpenSpec.upto fnExactFarValueSpec)

/-- 'laws.FnPeriods', WHERE WHAT IT READS IS OF BULK AT MOST 1048576: true; the input reads as it did. -/
def fnPeriodsUptoRow : OpenClaim := { program := "ytflbedfgeiljmaa", sum := "e3b25522484a7c905e94ab3fc0bd6916768638da7383005ba59f679fe21f2bf1", func := "loop.example/g00868/laws.FnPeriods", spec := "fnPeriods", apart := false, narrowed := true }
def FnPeriodsUptoSaid : Prop := fnPeriodsUptoRow.holds Try.pinned (OpenSpec.upto fnPeriodsSpec)

/-- 'laws.FnProofs1', WHERE WHAT IT READS IS OF BULK AT MOST 1048576: true; the input reads as it did. -/
def fnProofs1UptoRow : OpenClaim := { program := "ytflbedfgeiljmaa", sum := "e3b25522484a7c905e94ab3fc0bd6916768638da7383005ba59f679fe21f2bf1", func := "loop.example/g00868/laws.FnProofs1", spec := "fnProofs1", apart := false, narrowed := true }
def FnProofs1UptoSaid : Prop := fnProofs1UptoRow.holds Try.pinned (OpenSpec.upto fnProofs1Spec)

end Rows
end Go.Proofs.Ytflbedfgeiljmaa
