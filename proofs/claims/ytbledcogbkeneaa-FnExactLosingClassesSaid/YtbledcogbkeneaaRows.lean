/-
  No cell of these rows narrows 'for every input' (looked for: loops, veiled, ifaces, maps, wideKeys, modest, calm, conditions, laid).
  DERIVED. THE GIVEN ROWS OF THIS SEAT. 5 by the template 'for every input the law returns true; each argument reads behind the call as it read before'; 0 by the template 'total and deterministic' (their statements: YtbledcogbkeneaaTotals.lean).
  GIVEN WITH THE SEED: the statements are not yours to turn. If you find one false, say at which input.
  Laid BY PROGRAM, IN A SANDBOX (cutbox-rows.mjs): the forced cells as the released guide's own fill.sh prints them over the translation 774eca88ce0bedd4… (all of the seat's roots in one cut). By AI agents, Wed Nov 11 2026. No macro, syntax, notation, axiom, sorry.
-/
import Derived.Test.YtbledcogbkeneaaChecked
import GoSem.Claim
import GoSem.ClaimJoined
import GoSem.ClaimMapViews
import Derived.JoinedTies
import Derived.KernelRfl
namespace Go.Proofs.Ytbledcogbkeneaa
/- THE CELL 'sum', in the pinned program and in every row, IS THE sha256 OF THE DUMP (.gsa) THAT YtbledcogbkeneaaProg.lean LOADS. Nothing in Lean hashes anything: it is a label: what it is worth is what the hold of that sum in a sandbox is worth. -/
noncomputable def Try.pinned : Pinned := { name := "ytbledcogbkeneaa", sum := "774eca88ce0bedd4e87cb7afb556dc007953f1dd06daf4e078eb9d3da8f388df", checked := Try.checked }
namespace Rows
def none {H : Type} : Left H := { results := [], args := [] }

/-- 'laws.FnExactClassOf': WHATEVER THE INPUT: true; the input reads as it did. -/
def fnExactClassOfSpec : ChangeSpec := { name := "fnExactClassOf", fn := fun _ => fun
  | [d1, d2, d3] => { results := [.lit (.bool true)], args := [d1, d2, d3] }
  | _ => none }
def fnExactClassOfRow : OpenClaim := { program := "ytbledcogbkeneaa", sum := "774eca88ce0bedd4e87cb7afb556dc007953f1dd06daf4e078eb9d3da8f388df", func := "loop.example/g00868/laws.FnExactClassOf", spec := "fnExactClassOf", unfollowed := true, recurses := true, apart := false }
def FnExactClassOfSaid : Prop := fnExactClassOfRow.holds Try.pinned (OpenSpec.ofChange fnExactClassOfSpec)

/-- ITS FALSE NEIGHBOUR: 'it returns false'. Refute it at one input. -/
def fnExactClassOfWrong : ChangeSpec := { name := "fnExactClassOf", fn := fun _ => fun
  | [d1, d2, d3] => { results := [.lit (.bool false)], args := [d1, d2, d3] }
  | _ => none }
def FnExactClassOfWrongFalsely : Prop := fnExactClassOfRow.holds Try.pinned (OpenSpec.ofChange fnExactClassOfWrong)

/-- 'laws.FnExactLosingClasses': WHATEVER THE INPUT: true; the input reads as it did. -/
def fnExactLosingClassesSpec : ChangeSpec := { name := "fnExactLosingClasses", fn := fun _ => fun
  | [d1, d2] => { results := [.lit (.bool true)], args := [d1, d2] }
  | _ => none }
def fnExactLosingClassesRow : OpenClaim := { program := "ytbledcogbkeneaa", sum := "774eca88ce0bedd4e87cb7afb556dc007953f1dd06daf4e078eb9d3da8f388df", func := "loop.example/g00868/laws.FnExactLosingClasses", spec := "fnExactLosingClasses", unfollowed := true, recurses := true, apart := false }
def FnExactLosingClassesSaid : Prop := fnExactLosingClassesRow.holds Try.pinned (OpenSpec.ofChange fnExactLosingClassesSpec)

/-- ITS FALSE NEIGHBOUR: 'it returns false'. Refute it at one input. -/
def fnExactLosingClassesWrong : ChangeSpec := { name := "fnExactLosingClasses", fn := fun _ => fun
  | [d1, d2] => { results := [.lit (.bool false)], args := [d1, d2] }
  | _ => none }
def FnExactLosingClassesWrongFalsely : Prop := fnExactLosingClassesRow.holds Try.pinned (OpenSpec.ofChange fnExactLosingClassesWrong)

/-- 'laws.FnExactAlikeHeaps': WHATEVER THE INPUT: true; the input reads as it did. -/
def fnExactAlikeHeapsSpec : ChangeSpec := { name := "fnExactAlikeHeaps", fn := fun _ => fun
  | [d1, d2, d3, d4] => { results := [.lit (.bool true)], args := [d1, d2, d3, d4] }
  | _ => none }
def fnExactAlikeHeapsRow : OpenClaim := { program := "ytbledcogbkeneaa", sum := "774eca88ce0bedd4e87cb7afb556dc007953f1dd06daf4e078eb9d3da8f388df", func := "loop.example/g00868/laws.FnExactAlikeHeaps", spec := "fnExactAlikeHeaps", unfollowed := true, recurses := true, apart := false }
def FnExactAlikeHeapsSaid : Prop := fnExactAlikeHeapsRow.holds Try.pinned (OpenSpec.ofChange fnExactAlikeHeapsSpec)

/-- ITS FALSE NEIGHBOUR: 'it returns false'. Refute it at one input. -/
def fnExactAlikeHeapsWrong : ChangeSpec := { name := "fnExactAlikeHeaps", fn := fun _ => fun
  | [d1, d2, d3, d4] => { results := [.lit (.bool false)], args := [d1, d2, d3, d4] }
  | _ => none }
def FnExactAlikeHeapsWrongFalsely : Prop := fnExactAlikeHeapsRow.holds Try.pinned (OpenSpec.ofChange fnExactAlikeHeapsWrong)

/-- 'laws.FnExactQuotientOf': WHATEVER THE INPUT: true; the input reads as it did. -/
def fnExactQuotientOfSpec : ChangeSpec := { name := "fnExactQuotientOf", fn := fun _ => fun
  | [d1, d2] => { results := [.lit (.bool true)], args := [d1, d2] }
  | _ => none }
def fnExactQuotientOfRow : OpenClaim := { program := "ytbledcogbkeneaa", sum := "774eca88ce0bedd4e87cb7afb556dc007953f1dd06daf4e078eb9d3da8f388df", func := "loop.example/g00868/laws.FnExactQuotientOf", spec := "fnExactQuotientOf", unfollowed := true, recurses := true, apart := false }
def FnExactQuotientOfSaid : Prop := fnExactQuotientOfRow.holds Try.pinned (OpenSpec.ofChange fnExactQuotientOfSpec)

/-- ITS FALSE NEIGHBOUR: 'it returns false'. Refute it at one input. -/
def fnExactQuotientOfWrong : ChangeSpec := { name := "fnExactQuotientOf", fn := fun _ => fun
  | [d1, d2] => { results := [.lit (.bool false)], args := [d1, d2] }
  | _ => none }
def FnExactQuotientOfWrongFalsely : Prop := fnExactQuotientOfRow.holds Try.pinned (OpenSpec.ofChange fnExactQuotientOfWrong)

/-- 'laws.FnExactSignsOf': WHATEVER THE INPUT: true; the input reads as it did. -/
def fnExactSignsOfSpec : ChangeSpec := { name := "fnExactSignsOf", fn := fun _ => fun
  | [d1, d2, d3] => { results := [.lit (.bool true)], args := [d1, d2, d3] }
  | _ => none }
def fnExactSignsOfRow : OpenClaim := { program := "ytbledcogbkeneaa", sum := "774eca88ce0bedd4e87cb7afb556dc007953f1dd06daf4e078eb9d3da8f388df", func := "loop.example/g00868/laws.FnExactSignsOf", spec := "fnExactSignsOf", unfollowed := true, recurses := true, apart := false }
def FnExactSignsOfSaid : Prop := fnExactSignsOfRow.holds Try.pinned (OpenSpec.ofChange fnExactSignsOfSpec)

/-- ITS FALSE NEIGHBOUR: 'it returns false'. Refute it at one input. -/
def fnExactSignsOfWrong : ChangeSpec := { name := "fnExactSignsOf", fn := fun _ => fun
  | [d1, d2, d3] => { results := [.lit (.bool false)], args := [d1, d2, d3] }
  | _ => none }
def FnExactSignsOfWrongFalsely : Prop := fnExactSignsOfRow.holds Try.pinned (OpenSpec.ofChange fnExactSignsOfWrong)

/- THE SECOND FORM. 'bulk': how many values and letters a reading holds, each counted each time it is reached (what is shared counts as often as it is met; a slice's spare places count too). A statement '..UptoSaid' is the law's where the arguments, and the package variables that the reading takes, are together of bulk at most 1048576: NARROWER than '..Said'. Prove '..Said' where nothing that the law and all that it calls make is longer than what came in: it says more and counts as full. Else prove '..UptoSaid'. A law counts once. -/
mutual
def uptoBulk {H : Type} : DataW H → Nat
  | .lit (.string bytes) => bytes.length + 1
  | .lit _ => 1
  | .nil => 1
  | .ptr d => uptoBulk d + 1
  | .slice elems spare => uptoBulkAll elems + uptoBulkAll spare + 1
  | .agg parts => uptoBulkAll parts + 1
  | .iface _ d => uptoBulk d + 1
  | .map entries => uptoBulkEntries entries + 1
  | .held _ => 1
def uptoBulkAll {H : Type} : List (DataW H) → Nat
  | [] => 0
  | d :: r => uptoBulk d + uptoBulkAll r
def uptoBulkEntries {H : Type} : List (Lit × DataW H) → Nat
  | [] => 0
  | x :: r => uptoBulkEntry x + uptoBulkEntries r
def uptoBulkEntry {H : Type} : Lit × DataW H → Nat
  | (.string bytes, d) => bytes.length + uptoBulk d + 1
  | (_, d) => uptoBulk d + 1
 end
def uptoSmall : (H : Type) → List (DataW H) → Bool := fun _ ds => decide (uptoBulkAll ds ≤ 1048576)
def OpenSpec.upto (s : _root_.Go.ChangeSpec) : _root_.Go.OpenSpec := { _root_.Go.OpenSpec.ofChange s with cond := some uptoSmall }

/-- 'laws.FnExactClassOf', WHERE WHAT IT READS IS OF BULK AT MOST 1048576: true; the input reads as it did. -/
def fnExactClassOfUptoRow : OpenClaim := { program := "ytbledcogbkeneaa", sum := "774eca88ce0bedd4e87cb7afb556dc007953f1dd06daf4e078eb9d3da8f388df", func := "loop.example/g00868/laws.FnExactClassOf", spec := "fnExactClassOf", unfollowed := true, recurses := true, apart := false, narrowed := true }
def FnExactClassOfUptoSaid : Prop := fnExactClassOfUptoRow.holds Try.pinned (OpenSpec.upto fnExactClassOfSpec)

/-- 'laws.FnExactLosingClasses', WHERE WHAT IT READS IS OF BULK AT MOST 1048576: true; the input reads as it did. -/
def fnExactLosingClassesUptoRow : OpenClaim := { program := "ytbledcogbkeneaa", sum := "774eca88ce0bedd4e87cb7afb556dc007953f1dd06daf4e078eb9d3da8f388df", func := "loop.example/g00868/laws.FnExactLosingClasses", spec := "fnExactLosingClasses", unfollowed := true, recurses := true, apart := false, narrowed := true }
def FnExactLosingClassesUptoSaid : Prop := fnExactLosingClassesUptoRow.holds Try.pinned (OpenSpec.upto fnExactLosingClassesSpec)

/-- 'laws.FnExactAlikeHeaps', WHERE WHAT IT READS IS OF BULK AT MOST 1048576: true; the input reads as it did. -/
def fnExactAlikeHeapsUptoRow : OpenClaim := { program := "ytbledcogbkeneaa", sum := "774eca88ce0bedd4e87cb7afb556dc007953f1dd06daf4e078eb9d3da8f388df", func := "loop.example/g00868/laws.FnExactAlikeHeaps", spec := "fnExactAlikeHeaps", unfollowed := true, recurses := true, apart := false, narrowed := true }
def FnExactAlikeHeapsUptoSaid : Prop := fnExactAlikeHeapsUptoRow.holds Try.pinned (OpenSpec.upto fnExactAlikeHeapsSpec)

/-- 'laws.FnExactQuotientOf', WHERE WHAT IT READS IS OF BULK AT MOST 1048576: true; the input reads as it did. -/
def fnExactQuotientOfUptoRow : OpenClaim := { program := "ytbledcogbkeneaa", sum := "774eca88ce0bedd4e87cb7afb556dc007953f1dd06daf4e078eb9d3da8f388df", func := "loop.example/g00868/laws.FnExactQuotientOf", spec := "fnExactQuotientOf", unfollowed := true, recurses := true, apart := false, narrowed := true }
def FnExactQuotientOfUptoSaid : Prop := fnExactQuotientOfUptoRow.holds Try.pinned (OpenSpec.upto fnExactQuotientOfSpec)

/-- 'laws.FnExactSignsOf', WHERE WHAT IT READS IS OF BULK AT MOST 1048576: true; the input reads as it did. -/
def fnExactSignsOfUptoRow : OpenClaim := { program := "ytbledcogbkeneaa", sum := "774eca88ce0bedd4e87cb7afb556dc007953f1dd06daf4e078eb9d3da8f388df", func := "loop.example/g00868/laws.FnExactSignsOf", spec := "fnExactSignsOf", unfollowed := true, recurses := true, apart := false, narrowed := true }
def FnExactSignsOfUptoSaid : Prop := fnExactSignsOfUptoRow.holds Try.pinned (OpenSpec.upto fnExactSignsOfSpec)

end Rows
end Go.Proofs.Ytbledcogbkeneaa
