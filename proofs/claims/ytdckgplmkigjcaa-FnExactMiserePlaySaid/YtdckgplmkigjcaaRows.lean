/-
  No cell of these rows narrows 'for every input' (looked for: loops, veiled, ifaces, maps, wideKeys, modest, calm, conditions, laid).
  DERIVED. THE GIVEN ROWS OF THIS SEAT. 11 by the template 'for every input the law returns true; each argument reads behind the call as it read before'; 0 by the template 'total and deterministic' (their statements: YtdckgplmkigjcaaTotals.lean).
  GIVEN WITH THE SEED: the statements are not yours to turn. If you find one false, say at which input.
  Laid BY PROGRAM, IN A SANDBOX (cutbox-rows.mjs): the forced cells as the released guide's own fill.sh prints them over the translation 7d44575b1001daa7… (all of the seat's roots in one cut). By AI agents, Wed Nov 11 2026. No macro, syntax, notation, axiom, sorry.
-/
import Derived.Test.YtdckgplmkigjcaaChecked
import GoSem.Claim
import GoSem.ClaimJoined
import GoSem.ClaimMapViews
import Derived.JoinedTies
import Derived.KernelRfl
namespace Go.Proofs.Ytdckgplmkigjcaa
/- THE CELL 'sum', in the pinned program and in every row, IS THE sha256 OF THE DUMP (.gsa) THAT YtdckgplmkigjcaaProg.lean LOADS. Nothing in Lean hashes anything: it is a label: what it is worth is what the hold of that sum in a sandbox is worth. -/
noncomputable def Try.pinned : Pinned := { name := "ytdckgplmkigjcaa", sum := "7d44575b1001daa71d63f31147bea200d224c426264aeef0a8ac30a8a50738c4", checked := Try.checked }
namespace Rows
def none {H : Type} : Left H := { results := [], args := [] }

/-- 'laws.FnExactClassOf': WHATEVER THE INPUT: true; the input reads as it did. -/
def fnExactClassOfSpec : ChangeSpec := { name := "fnExactClassOf", fn := fun _ => fun
  | [d1, d2, d3] => { results := [.lit (.bool true)], args := [d1, d2, d3] }
  | _ => none }
def fnExactClassOfRow : OpenClaim := { program := "ytdckgplmkigjcaa", sum := "7d44575b1001daa71d63f31147bea200d224c426264aeef0a8ac30a8a50738c4", func := "loop.example/g00868/laws.FnExactClassOf", spec := "fnExactClassOf", unfollowed := true, recurses := true, apart := false }
def FnExactClassOfSaid : Prop := fnExactClassOfRow.holds Try.pinned (OpenSpec.ofChange fnExactClassOfSpec)

/-- ITS FALSE NEIGHBOUR: 'it returns false'. Refute it at one input. -/
def fnExactClassOfWrong : ChangeSpec := { name := "fnExactClassOf", fn := fun _ => fun
  | [d1, d2, d3] => { results := [.lit (.bool false)], args := [d1, d2, d3] }
  | _ => none }
def FnExactClassOfWrongFalsely : Prop := fnExactClassOfRow.holds Try.pinned (OpenSpec.ofChange fnExactClassOfWrong)

/-- 'laws.FnExactMiserePlay': WHATEVER THE INPUT: true; the input reads as it did. -/
def fnExactMiserePlaySpec : ChangeSpec := { name := "fnExactMiserePlay", fn := fun _ => fun
  | [d1, d2] => { results := [.lit (.bool true)], args := [d1, d2] }
  | _ => none }
def fnExactMiserePlayRow : OpenClaim := { program := "ytdckgplmkigjcaa", sum := "7d44575b1001daa71d63f31147bea200d224c426264aeef0a8ac30a8a50738c4", func := "loop.example/g00868/laws.FnExactMiserePlay", spec := "fnExactMiserePlay", unfollowed := true, recurses := true, apart := false }
def FnExactMiserePlaySaid : Prop := fnExactMiserePlayRow.holds Try.pinned (OpenSpec.ofChange fnExactMiserePlaySpec)

/-- ITS FALSE NEIGHBOUR: 'it returns false'. Refute it at one input. -/
def fnExactMiserePlayWrong : ChangeSpec := { name := "fnExactMiserePlay", fn := fun _ => fun
  | [d1, d2] => { results := [.lit (.bool false)], args := [d1, d2] }
  | _ => none }
def FnExactMiserePlayWrongFalsely : Prop := fnExactMiserePlayRow.holds Try.pinned (OpenSpec.ofChange fnExactMiserePlayWrong)

/-- 'laws.FnExactLosingClasses': WHATEVER THE INPUT: true; the input reads as it did. -/
def fnExactLosingClassesSpec : ChangeSpec := { name := "fnExactLosingClasses", fn := fun _ => fun
  | [d1, d2] => { results := [.lit (.bool true)], args := [d1, d2] }
  | _ => none }
def fnExactLosingClassesRow : OpenClaim := { program := "ytdckgplmkigjcaa", sum := "7d44575b1001daa71d63f31147bea200d224c426264aeef0a8ac30a8a50738c4", func := "loop.example/g00868/laws.FnExactLosingClasses", spec := "fnExactLosingClasses", unfollowed := true, recurses := true, apart := false }
def FnExactLosingClassesSaid : Prop := fnExactLosingClassesRow.holds Try.pinned (OpenSpec.ofChange fnExactLosingClassesSpec)

/-- ITS FALSE NEIGHBOUR: 'it returns false'. Refute it at one input. -/
def fnExactLosingClassesWrong : ChangeSpec := { name := "fnExactLosingClasses", fn := fun _ => fun
  | [d1, d2] => { results := [.lit (.bool false)], args := [d1, d2] }
  | _ => none }
def FnExactLosingClassesWrongFalsely : Prop := fnExactLosingClassesRow.holds Try.pinned (OpenSpec.ofChange fnExactLosingClassesWrong)

/-- 'laws.FnExactMisereRow': WHATEVER THE INPUT: true; the input reads as it did. -/
def fnExactMisereRowSpec : ChangeSpec := { name := "fnExactMisereRow", fn := fun _ => fun
  | [d1, d2] => { results := [.lit (.bool true)], args := [d1, d2] }
  | _ => none }
def fnExactMisereRowRow : OpenClaim := { program := "ytdckgplmkigjcaa", sum := "7d44575b1001daa71d63f31147bea200d224c426264aeef0a8ac30a8a50738c4", func := "loop.example/g00868/laws.FnExactMisereRow", spec := "fnExactMisereRow", unfollowed := true, recurses := true, apart := false }
def FnExactMisereRowSaid : Prop := fnExactMisereRowRow.holds Try.pinned (OpenSpec.ofChange fnExactMisereRowSpec)

/-- ITS FALSE NEIGHBOUR: 'it returns false'. Refute it at one input. -/
def fnExactMisereRowWrong : ChangeSpec := { name := "fnExactMisereRow", fn := fun _ => fun
  | [d1, d2] => { results := [.lit (.bool false)], args := [d1, d2] }
  | _ => none }
def FnExactMisereRowWrongFalsely : Prop := fnExactMisereRowRow.holds Try.pinned (OpenSpec.ofChange fnExactMisereRowWrong)

/-- 'laws.FnExactMisereValue': WHATEVER THE INPUT: true; the input reads as it did. -/
def fnExactMisereValueSpec : ChangeSpec := { name := "fnExactMisereValue", fn := fun _ => fun
  | [d1, d2] => { results := [.lit (.bool true)], args := [d1, d2] }
  | _ => none }
def fnExactMisereValueRow : OpenClaim := { program := "ytdckgplmkigjcaa", sum := "7d44575b1001daa71d63f31147bea200d224c426264aeef0a8ac30a8a50738c4", func := "loop.example/g00868/laws.FnExactMisereValue", spec := "fnExactMisereValue", unfollowed := true, recurses := true, apart := false }
def FnExactMisereValueSaid : Prop := fnExactMisereValueRow.holds Try.pinned (OpenSpec.ofChange fnExactMisereValueSpec)

/-- ITS FALSE NEIGHBOUR: 'it returns false'. Refute it at one input. -/
def fnExactMisereValueWrong : ChangeSpec := { name := "fnExactMisereValue", fn := fun _ => fun
  | [d1, d2] => { results := [.lit (.bool false)], args := [d1, d2] }
  | _ => none }
def FnExactMisereValueWrongFalsely : Prop := fnExactMisereValueRow.holds Try.pinned (OpenSpec.ofChange fnExactMisereValueWrong)

/-- 'laws.FnExactMisereWins': WHATEVER THE INPUT: true; the input reads as it did. -/
def fnExactMisereWinsSpec : ChangeSpec := { name := "fnExactMisereWins", fn := fun _ => fun
  | [d1, d2] => { results := [.lit (.bool true)], args := [d1, d2] }
  | _ => none }
def fnExactMisereWinsRow : OpenClaim := { program := "ytdckgplmkigjcaa", sum := "7d44575b1001daa71d63f31147bea200d224c426264aeef0a8ac30a8a50738c4", func := "loop.example/g00868/laws.FnExactMisereWins", spec := "fnExactMisereWins", unfollowed := true, recurses := true, apart := false }
def FnExactMisereWinsSaid : Prop := fnExactMisereWinsRow.holds Try.pinned (OpenSpec.ofChange fnExactMisereWinsSpec)

/-- ITS FALSE NEIGHBOUR: 'it returns false'. Refute it at one input. -/
def fnExactMisereWinsWrong : ChangeSpec := { name := "fnExactMisereWins", fn := fun _ => fun
  | [d1, d2] => { results := [.lit (.bool false)], args := [d1, d2] }
  | _ => none }
def FnExactMisereWinsWrongFalsely : Prop := fnExactMisereWinsRow.holds Try.pinned (OpenSpec.ofChange fnExactMisereWinsWrong)

/-- 'laws.FnExactFirstUnlike': WHATEVER THE INPUT: true; the input reads as it did. -/
def fnExactFirstUnlikeSpec : ChangeSpec := { name := "fnExactFirstUnlike", fn := fun _ => fun
  | [d] => { results := [.lit (.bool true)], args := [d] }
  | _ => none }
def fnExactFirstUnlikeRow : OpenClaim := { program := "ytdckgplmkigjcaa", sum := "7d44575b1001daa71d63f31147bea200d224c426264aeef0a8ac30a8a50738c4", func := "loop.example/g00868/laws.FnExactFirstUnlike", spec := "fnExactFirstUnlike", unfollowed := true, recurses := true, apart := false }
def FnExactFirstUnlikeSaid : Prop := fnExactFirstUnlikeRow.holds Try.pinned (OpenSpec.ofChange fnExactFirstUnlikeSpec)

/-- ITS FALSE NEIGHBOUR: 'it returns false'. Refute it at one input. -/
def fnExactFirstUnlikeWrong : ChangeSpec := { name := "fnExactFirstUnlike", fn := fun _ => fun
  | [d] => { results := [.lit (.bool false)], args := [d] }
  | _ => none }
def FnExactFirstUnlikeWrongFalsely : Prop := fnExactFirstUnlikeRow.holds Try.pinned (OpenSpec.ofChange fnExactFirstUnlikeWrong)

/-- 'laws.FnExactMisereMoves': WHATEVER THE INPUT: true; the input reads as it did. -/
def fnExactMisereMovesSpec : ChangeSpec := { name := "fnExactMisereMoves", fn := fun _ => fun
  | [d1, d2] => { results := [.lit (.bool true)], args := [d1, d2] }
  | _ => none }
def fnExactMisereMovesRow : OpenClaim := { program := "ytdckgplmkigjcaa", sum := "7d44575b1001daa71d63f31147bea200d224c426264aeef0a8ac30a8a50738c4", func := "loop.example/g00868/laws.FnExactMisereMoves", spec := "fnExactMisereMoves", unfollowed := true, recurses := true, apart := false }
def FnExactMisereMovesSaid : Prop := fnExactMisereMovesRow.holds Try.pinned (OpenSpec.ofChange fnExactMisereMovesSpec)

/-- ITS FALSE NEIGHBOUR: 'it returns false'. Refute it at one input. -/
def fnExactMisereMovesWrong : ChangeSpec := { name := "fnExactMisereMoves", fn := fun _ => fun
  | [d1, d2] => { results := [.lit (.bool false)], args := [d1, d2] }
  | _ => none }
def FnExactMisereMovesWrongFalsely : Prop := fnExactMisereMovesRow.holds Try.pinned (OpenSpec.ofChange fnExactMisereMovesWrong)

/-- 'laws.FnExactAlikeHeaps': WHATEVER THE INPUT: true; the input reads as it did. -/
def fnExactAlikeHeapsSpec : ChangeSpec := { name := "fnExactAlikeHeaps", fn := fun _ => fun
  | [d1, d2, d3, d4] => { results := [.lit (.bool true)], args := [d1, d2, d3, d4] }
  | _ => none }
def fnExactAlikeHeapsRow : OpenClaim := { program := "ytdckgplmkigjcaa", sum := "7d44575b1001daa71d63f31147bea200d224c426264aeef0a8ac30a8a50738c4", func := "loop.example/g00868/laws.FnExactAlikeHeaps", spec := "fnExactAlikeHeaps", unfollowed := true, recurses := true, apart := false }
def FnExactAlikeHeapsSaid : Prop := fnExactAlikeHeapsRow.holds Try.pinned (OpenSpec.ofChange fnExactAlikeHeapsSpec)

/-- ITS FALSE NEIGHBOUR: 'it returns false'. Refute it at one input. -/
def fnExactAlikeHeapsWrong : ChangeSpec := { name := "fnExactAlikeHeaps", fn := fun _ => fun
  | [d1, d2, d3, d4] => { results := [.lit (.bool false)], args := [d1, d2, d3, d4] }
  | _ => none }
def FnExactAlikeHeapsWrongFalsely : Prop := fnExactAlikeHeapsRow.holds Try.pinned (OpenSpec.ofChange fnExactAlikeHeapsWrong)

/-- 'laws.FnExactQuotientOf': WHATEVER THE INPUT: true; the input reads as it did. -/
def fnExactQuotientOfSpec : ChangeSpec := { name := "fnExactQuotientOf", fn := fun _ => fun
  | [d1, d2] => { results := [.lit (.bool true)], args := [d1, d2] }
  | _ => none }
def fnExactQuotientOfRow : OpenClaim := { program := "ytdckgplmkigjcaa", sum := "7d44575b1001daa71d63f31147bea200d224c426264aeef0a8ac30a8a50738c4", func := "loop.example/g00868/laws.FnExactQuotientOf", spec := "fnExactQuotientOf", unfollowed := true, recurses := true, apart := false }
def FnExactQuotientOfSaid : Prop := fnExactQuotientOfRow.holds Try.pinned (OpenSpec.ofChange fnExactQuotientOfSpec)

/-- ITS FALSE NEIGHBOUR: 'it returns false'. Refute it at one input. -/
def fnExactQuotientOfWrong : ChangeSpec := { name := "fnExactQuotientOf", fn := fun _ => fun
  | [d1, d2] => { results := [.lit (.bool false)], args := [d1, d2] }
  | _ => none }
def FnExactQuotientOfWrongFalsely : Prop := fnExactQuotientOfRow.holds Try.pinned (OpenSpec.ofChange fnExactQuotientOfWrong)

/-- 'laws.FnExactSignsOf': WHATEVER THE INPUT: true; the input reads as it did. -/
def fnExactSignsOfSpec : ChangeSpec := { name := "fnExactSignsOf", fn := fun _ => fun
  | [d1, d2, d3] => { results := [.lit (.bool true)], args := [d1, d2, d3] }
  | _ => none }
def fnExactSignsOfRow : OpenClaim := { program := "ytdckgplmkigjcaa", sum := "7d44575b1001daa71d63f31147bea200d224c426264aeef0a8ac30a8a50738c4", func := "loop.example/g00868/laws.FnExactSignsOf", spec := "fnExactSignsOf", unfollowed := true, recurses := true, apart := false }
def FnExactSignsOfSaid : Prop := fnExactSignsOfRow.holds Try.pinned (OpenSpec.ofChange fnExactSignsOfSpec)

/-- ITS FALSE NEIGHBOUR: 'it returns false'. Refute it at one input. -/
def fnExactSignsOfWrong : ChangeSpec := { name := "fnExactSignsOf", fn := fun _ => fun
  | [d1, d2, d3] => { results := [.lit (.bool false)], args := [d1, d2, d3] }
  | _ => none }
def FnExactSignsOfWrongFalsely : Prop := fnExactSignsOfRow.holds Try.pinned (OpenSpec.ofChange fnExactSignsOfWrong)

/- THE SECOND FORM. 'bulk': how many values and letters a reading holds, each counted each time it is reached (what is shared counts as often as it is met; a slice's spare places count too). A statement '..UptoSaid' is the law's where the arguments, and the package variables that the reading takes, are together of bulk at most 1048576: NARROWER than '..Said'. Prove '..Said' where nothing that the law and all that it calls make is longer than what came in: it says more and counts as full. Else prove '..UptoSaid'. A law counts once. -/
mutual
def uptoBulk {H : Type} : DataW H → Nat
  | .lit (.string bytes) => bytes.length + 1
  | .lit _ => 1
  | .nil => 1
  | .ptr d => uptoBulk d + 1
  | .slice elems spare => uptoBulkAll elems + uptoBulkAll spare + 1
  | .agg parts => uptoBulkAll parts + 1
  | .iface _ d => uptoBulk d + 1
  | .map entries => uptoBulkEntries entries + 1
  | .held _ => 1
def uptoBulkAll {H : Type} : List (DataW H) → Nat
  | [] => 0
  | d :: r => uptoBulk d + uptoBulkAll r
def uptoBulkEntries {H : Type} : List (Lit × DataW H) → Nat
  | [] => 0
  | x :: r => uptoBulkEntry x + uptoBulkEntries r
def uptoBulkEntry {H : Type} : Lit × DataW H → Nat
  | (.string bytes, d) => bytes.length + uptoBulk d + 1
  | (_, d) => uptoBulk d + 1
 end
def uptoSmall : (H : Type) → List (DataW H) → Bool := fun _ ds => decide (uptoBulkAll ds ≤ 1048576)
def OpenSpec.upto (s : _root_.Go.ChangeSpec) : _root_.Go.OpenSpec := { _root_.Go.OpenSpec.ofChange s with cond := some uptoSmall }

/-- 'laws.FnExactClassOf', WHERE WHAT IT READS IS OF BULK AT MOST 1048576: true; the input reads as it did. -/
def fnExactClassOfUptoRow : OpenClaim := { program := "ytdckgplmkigjcaa", sum := "7d44575b1001daa71d63f31147bea200d224c426264aeef0a8ac30a8a50738c4", func := "loop.example/g00868/laws.FnExactClassOf", spec := "fnExactClassOf", unfollowed := true, recurses := true, apart := false, narrowed := true }
def FnExactClassOfUptoSaid : Prop := fnExactClassOfUptoRow.holds Try.pinned (OpenSpec.upto fnExactClassOfSpec)

/-- 'laws.FnExactMiserePlay', WHERE WHAT IT READS IS OF BULK AT MOST 1048576: true; the input reads as it did. -/
def fnExactMiserePlayUptoRow : OpenClaim := { program := "ytdckgplmkigjcaa", sum := "7d44575b1001daa71d63f31147bea200d224c426264aeef0a8ac30a8a50738c4", func := "loop.example/g00868/laws.FnExactMiserePlay", spec := "fnExactMiserePlay", unfollowed := true, recurses := true, apart := false, narrowed := true }
def FnExactMiserePlayUptoSaid : Prop := fnExactMiserePlayUptoRow.holds Try.pinned (OpenSpec.upto fnExactMiserePlaySpec)

/-- 'laws.FnExactLosingClasses', WHERE WHAT IT READS IS OF BULK AT MOST 1048576: true; the input reads as it did. -/
def fnExactLosingClassesUptoRow : OpenClaim := { program := "ytdckgplmkigjcaa", sum := "7d44575b1001daa71d63f31147bea200d224c426264aeef0a8ac30a8a50738c4", func := "loop.example/g00868/laws.FnExactLosingClasses", spec := "fnExactLosingClasses", unfollowed := true, recurses := true, apart := false, narrowed := true }
def FnExactLosingClassesUptoSaid : Prop := fnExactLosingClassesUptoRow.holds Try.pinned (OpenSpec.upto fnExactLosingClassesSpec)

/-- 'laws.FnExactMisereRow', WHERE WHAT IT READS IS OF BULK AT MOST 1048576: true; the input reads as it did. -/
def fnExactMisereRowUptoRow : OpenClaim := { program := "ytdckgplmkigjcaa", sum := "7d44575b1001daa71d63f31147bea200d224c426264aeef0a8ac30a8a50738c4", func := "loop.example/g00868/laws.FnExactMisereRow", spec := "fnExactMisereRow", unfollowed := true, recurses := true, apart := false, narrowed := true }
def FnExactMisereRowUptoSaid : Prop := fnExactMisereRowUptoRow.holds Try.pinned (OpenSpec.upto fnExactMisereRowSpec)

/-- 'laws.FnExactMisereValue', WHERE WHAT IT READS IS OF BULK AT MOST 1048576: true; the input reads as it did. -/
def fnExactMisereValueUptoRow : OpenClaim := { program := "ytdckgplmkigjcaa", sum := "7d44575b1001daa71d63f31147bea200d224c426264aeef0a8ac30a8a50738c4", func := "loop.example/g00868/laws.FnExactMisereValue", spec := "fnExactMisereValue", unfollowed := true, recurses := true, apart := false, narrowed := true }
def FnExactMisereValueUptoSaid : Prop := fnExactMisereValueUptoRow.holds Try.pinned (OpenSpec.upto fnExactMisereValueSpec)

/-- 'laws.FnExactMisereWins', WHERE WHAT IT READS IS OF BULK AT MOST 1048576: true; the input reads as it did. -/
def fnExactMisereWinsUptoRow : OpenClaim := { program := "ytdckgplmkigjcaa", sum := "7d44575b1001daa71d63f31147bea200d224c426264aeef0a8ac30a8a50738c4", func := "loop.example/g00868/laws.FnExactMisereWins", spec := "fnExactMisereWins", unfollowed := true, recurses := true, apart := false, narrowed := true }
def FnExactMisereWinsUptoSaid : Prop := fnExactMisereWinsUptoRow.holds Try.pinned (OpenSpec.upto fnExactMisereWinsSpec)

/-- 'laws.FnExactFirstUnlike', WHERE WHAT IT READS IS OF BULK AT MOST 1048576: true; the input reads as it did. -/
def fnExactFirstUnlikeUptoRow : OpenClaim := { program := "ytdckgplmkigjcaa", sum := "7d44575b1001daa71d63f31147bea200d224c426264aeef0a8ac30a8a50738c4", func := "loop.example/g00868/laws.FnExactFirstUnlike", spec := "fnExactFirstUnlike", unfollowed := true, recurses := true, apart := false, narrowed := true }
def FnExactFirstUnlikeUptoSaid : Prop := fnExactFirstUnlikeUptoRow.holds Try.pinned (OpenSpec.upto fnExactFirstUnlikeSpec)

/-- 'laws.FnExactMisereMoves', WHERE WHAT IT READS IS OF BULK AT MOST 1048576: true; the input reads as it did. -/
def fnExactMisereMovesUptoRow : OpenClaim := { program := "ytdckgplmkigjcaa", sum := "7d44575b1001daa71d63f31147bea200d224c426264aeef0a8ac30a8a50738c4", func := "loop.example/g00868/laws.FnExactMisereMoves", spec := "fnExactMisereMoves", unfollowed := true, recurses := true, apart := false, narrowed := true }
def FnExactMisereMovesUptoSaid : Prop := fnExactMisereMovesUptoRow.holds Try.pinned (OpenSpec.upto fnExactMisereMovesSpec)

/-- 'laws.FnExactAlikeHeaps', WHERE WHAT IT READS IS OF BULK AT MOST 1048576: true; the input reads as it did. -/
def fnExactAlikeHeapsUptoRow : OpenClaim := { program := "ytdckgplmkigjcaa", sum := "7d44575b1001daa71d63f31147bea200d224c426264aeef0a8ac30a8a50738c4", func := "loop.example/g00868/laws.FnExactAlikeHeaps", spec := "fnExactAlikeHeaps", unfollowed := true, recurses := true, apart := false, narrowed := true }
def FnExactAlikeHeapsUptoSaid : Prop := fnExactAlikeHeapsUptoRow.holds Try.pinned (OpenSpec.upto fnExactAlikeHeapsSpec)

/-- 'laws.FnExactQuotientOf', WHERE WHAT IT READS IS OF BULK AT MOST 1048576: true; the input reads as it did. -/
def fnExactQuotientOfUptoRow : OpenClaim := { program := "ytdckgplmkigjcaa", sum := "7d44575b1001daa71d63f31147bea200d224c426264aeef0a8ac30a8a50738c4", func := "loop.example/g00868/laws.FnExactQuotientOf", spec := "fnExactQuotientOf", unfollowed := true, recurses := true, apart := false, narrowed := true }
def FnExactQuotientOfUptoSaid : Prop := fnExactQuotientOfUptoRow.holds Try.pinned (OpenSpec.upto fnExactQuotientOfSpec)

/-- 'laws.FnExactSignsOf', WHERE WHAT IT READS IS OF BULK AT MOST 1048576: true; the input reads as it did. -/
def fnExactSignsOfUptoRow : OpenClaim := { program := "ytdckgplmkigjcaa", sum := "7d44575b1001daa71d63f31147bea200d224c426264aeef0a8ac30a8a50738c4", func := "loop.example/g00868/laws.FnExactSignsOf", spec := "fnExactSignsOf", unfollowed := true, recurses := true, apart := false, narrowed := true }
def FnExactSignsOfUptoSaid : Prop := fnExactSignsOfUptoRow.holds Try.pinned (OpenSpec.upto fnExactSignsOfSpec)

end Rows
end Go.Proofs.Ytdckgplmkigjcaa
