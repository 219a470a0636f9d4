/-
  No cell of these rows narrows 'for every input' (looked for: loops, veiled, ifaces, maps, wideKeys, modest, calm, conditions, laid).
  DERIVED. THE GIVEN ROWS OF THIS SEAT. 2 by the template 'for every input the law returns true; each argument reads behind the call as it read before'; 0 by the template 'total and deterministic' (their statements: YtidfbbegjpfjpaaTotals.lean).
  GIVEN WITH THE SEED: the statements are not yours to turn. If you find one false, say at which input.
  Laid BY PROGRAM, IN A SANDBOX (cutbox-rows.mjs): the forced cells as the released guide's own fill.sh prints them over the translation 33b6f76a6fce09f3… (all of the seat's roots in one cut). By AI agents, Wed Nov 11 2026. No macro, syntax, notation, axiom, sorry.
-/
import Derived.Test.YtidfbbegjpfjpaaChecked
import GoSem.Claim
import GoSem.ClaimJoined
import GoSem.ClaimMapViews
import Derived.JoinedTies
import Derived.KernelRfl
namespace Go.Proofs.Ytidfbbegjpfjpaa
/- THE CELL 'sum', in the pinned program and in every row, IS THE sha256 OF THE DUMP (.gsa) THAT YtidfbbegjpfjpaaProg.lean LOADS. Nothing in Lean hashes anything: it is a label: what it is worth is what the hold of that sum in a sandbox is worth. -/
noncomputable def Try.pinned : Pinned := { name := "ytidfbbegjpfjpaa", sum := "33b6f76a6fce09f38590683febb3fff6510d50e7a27b52fcb05bf6d42c7c059b", checked := Try.checked }
namespace Rows
def none {H : Type} : Left H := { results := [], args := [] }

/-- 'laws.FnExactWallAt': WHATEVER THE INPUT: true; the input reads as it did. -/
def fnExactWallAtSpec : ChangeSpec := { name := "fnExactWallAt", fn := fun _ => fun
  | [d1, d2] => { results := [.lit (.bool true)], args := [d1, d2] }
  | _ => none }
def fnExactWallAtRow : OpenClaim := { program := "ytidfbbegjpfjpaa", sum := "33b6f76a6fce09f38590683febb3fff6510d50e7a27b52fcb05bf6d42c7c059b", func := "loop.example/g00868/laws.FnExactWallAt", spec := "fnExactWallAt", apart := false }
def FnExactWallAtSaid : Prop := fnExactWallAtRow.holds Try.pinned (OpenSpec.ofChange fnExactWallAtSpec)

/-- ITS FALSE NEIGHBOUR: 'it returns false'. Refute it at one input. -/
def fnExactWallAtWrong : ChangeSpec := { name := "fnExactWallAt", fn := fun _ => fun
  | [d1, d2] => { results := [.lit (.bool false)], args := [d1, d2] }
  | _ => none }
def FnExactWallAtWrongFalsely : Prop := fnExactWallAtRow.holds Try.pinned (OpenSpec.ofChange fnExactWallAtWrong)

/-- 'laws.FnFar': WHATEVER THE INPUT: true; the input reads as it did. -/
def fnFarSpec : ChangeSpec := { name := "fnFar", fn := fun _ => fun
  | [d] => { results := [.lit (.bool true)], args := [d] }
  | _ => none }
def fnFarRow : OpenClaim := { program := "ytidfbbegjpfjpaa", sum := "33b6f76a6fce09f38590683febb3fff6510d50e7a27b52fcb05bf6d42c7c059b", func := "loop.example/g00868/laws.FnFar", spec := "fnFar", recurses := true, apart := false }
def FnFarSaid : Prop := fnFarRow.holds Try.pinned (OpenSpec.ofChange fnFarSpec)

/-- ITS FALSE NEIGHBOUR: 'it returns false'. Refute it at one input. -/
def fnFarWrong : ChangeSpec := { name := "fnFar", fn := fun _ => fun
  | [d] => { results := [.lit (.bool false)], args := [d] }
  | _ => none }
def FnFarWrongFalsely : Prop := fnFarRow.holds Try.pinned (OpenSpec.ofChange fnFarWrong)

/- THE SECOND FORM. 'bulk': how many values and letters a reading holds, each counted each time it is reached (what is shared counts as often as it is met; a slice's spare places count too). A statement '..UptoSaid' is the law's where the arguments, and the package variables that the reading takes, are together of bulk at most 1048576: NARROWER than '..Said'. Prove '..Said' where nothing that the law and all that it calls make is longer than what came in: it says more and counts as full. Else prove '..UptoSaid'. A law counts once. -/
mutual
def uptoBulk {H : Type} : DataW H → Nat
  | .lit (.string bytes) => bytes.length + 1
  | .lit _ => 1
  | .nil => 1
  | .ptr d => uptoBulk d + 1
  | .slice elems spare => uptoBulkAll elems + uptoBulkAll spare + 1
  | .agg parts => uptoBulkAll parts + 1
  | .iface _ d => uptoBulk d + 1
  | .map entries => uptoBulkEntries entries + 1
  | .held _ => 1
def uptoBulkAll {H : Type} : List (DataW H) → Nat
  | [] => 0
  | d :: r => uptoBulk d + uptoBulkAll r
def uptoBulkEntries {H : Type} : List (Lit × DataW H) → Nat
  | [] => 0
  | x :: r => uptoBulkEntry x + uptoBulkEntries r
def uptoBulkEntry {H : Type} : Lit × DataW H → Nat
  | (.string bytes, d) => bytes.length + uptoBulk d + 1
  | (_, d) => uptoBulk d + 1
 end
def uptoSmall : (H : Type) → List (DataW H) → Bool := fun _ ds => decide (uptoBulkAll ds ≤ 1048576)
def OpenSpec.upto (s : _root_.Go.ChangeSpec) : _root_.Go.OpenSpec := { _root_.Go.OpenSpec.ofChange s with cond := some uptoSmall }

/-- 'laws.FnExactWallAt', WHERE WHAT IT READS IS OF BULK AT MOST 1048576: true; the input reads as it did. -/
def fnExactWallAtUptoRow : OpenClaim := { program := "ytidfbbegjpfjpaa", sum := "33b6f76a6fce09f38590683febb3fff6510d50e7a27b52fcb05bf6d42c7c059b", func := "loop.example/g00868/laws.FnExactWallAt", spec := "fnExactWallAt", apart := false, narrowed := true }
def FnExactWallAtUptoSaid : Prop := fnExactWallAtUptoRow.holds Try.pinned (OpenSpec.upto fnExactWallAtSpec)

/-- 'laws.FnFar', WHERE WHAT IT READS IS OF BULK AT MOST 1048576: true; the input reads as it did. -/
def fnFarUptoRow : OpenClaim := { program := "ytidfbbegjpfjpaa", sum := "33b6f76a6fce09f38590683febb3fff6510d50e7a27b52fcb05bf6d42c7c059b", func := "loop.example/g00868/laws.FnFar", spec := "fnFar", recurses := true, apart := false, narrowed := true }
def FnFarUptoSaid : Prop := fnFarUptoRow.holds Try.pinned (OpenSpec.upto fnFarSpec)

end Rows
end Go.Proofs.Ytidfbbegjpfjpaa
