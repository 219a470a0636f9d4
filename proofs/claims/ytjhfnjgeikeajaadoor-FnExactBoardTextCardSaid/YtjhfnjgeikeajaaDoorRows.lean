/-
  NARROWER THAN 'FOR EVERY INPUT', by the rows' own cells (each row's printed sentence says how): FnExactGoodStalk: laid · FnExactGoodStrip: laid · FnExactMirrorStrip: laid · FnExactGoodBoard: laid · FnExactStalkTree: laid · FnExactGoodTree: laid · FnExactTurnStrip: laid · FnExactStripOver: laid · FnExactTurnBoard: laid · FnExactBoardText: laid · FnExactMirrorBoard: laid · FnExactStripMoves: laid.
  DERIVED. THE GIVEN ROWS OF THIS SEAT. 12 by the template 'for every input the law returns true; each argument reads behind the call as it read before'; 0 by the template 'total and deterministic' (their statements: YtjhfnjgeikeajaaDoorTotals.lean).
  GIVEN WITH THE SEED: the statements are not yours to turn. If you find one false, say at which input.
  Laid BY PROGRAM, IN A SANDBOX (cutbox-rows.mjs): the forced cells as the released guide's own fill.sh prints them over the translation a508630143fc792f… (all of the seat's roots in one cut). By AI agents, Wed Nov 11 2026. No macro, syntax, notation, axiom, sorry.
-/
import Derived.Test.YtjhfnjgeikeajaaDoorChecked
import GoSem.PinnedTables
import GoSem.Claim
import GoSem.ClaimJoined
import GoSem.ClaimMapViews
import Derived.JoinedTies
import Derived.KernelRfl
namespace Go.Proofs.YtjhfnjgeikeajaaDoor
/- THE CELL 'sum', in the pinned program and in every row, IS THE sha256 OF THE DUMP (.gsa) THAT YtjhfnjgeikeajaaDoorProg.lean LOADS. Nothing in Lean hashes anything: it is a label: what it is worth is what the hold of that sum in a sandbox is worth. -/
noncomputable def Tryd.pinned : Pinned := { name := "ytjhfnjgeikeajaadoor", sum := "a508630143fc792f7ea15b089686216763f092e7308e3595baba45b136f8d689", checked := Tryd.checked }
namespace Rows
def none {H : Type} : Left H := { results := [], args := [] }

/- WHAT THE LISTED PACKAGE-LEVEL VARIABLES READ AS WHEN THE CALL BEGINS. Each datum BY PROGRAM (the guide's laid-datum.mjs) off the statement by which the dump's own 'gosem.cut.vars' lays the variable. In a bare row this is a premise. The card (YtjhfnjgeikeajaaDoorCards.lean) ties it to the program's text. -/
def laid_unicode_utf8_acceptRanges {H : Type} : DataW H := .agg [.agg [.lit (.int .u8 128), .lit (.int .u8 191)], .agg [.lit (.int .u8 160), .lit (.int .u8 191)], .agg [.lit (.int .u8 128), .lit (.int .u8 159)], .agg [.lit (.int .u8 144), .lit (.int .u8 191)], .agg [.lit (.int .u8 128), .lit (.int .u8 143)], .agg [.lit (.int .u8 0), .lit (.int .u8 0)], .agg [.lit (.int .u8 0), .lit (.int .u8 0)], .agg [.lit (.int .u8 0), .lit (.int .u8 0)], .agg [.lit (.int .u8 0), .lit (.int .u8 0)], .agg [.lit (.int .u8 0), .lit (.int .u8 0)], .agg [.lit (.int .u8 0), .lit (.int .u8 0)], .agg [.lit (.int .u8 0), .lit (.int .u8 0)], .agg [.lit (.int .u8 0), .lit (.int .u8 0)], .agg [.lit (.int .u8 0), .lit (.int .u8 0)], .agg [.lit (.int .u8 0), .lit (.int .u8 0)], .agg [.lit (.int .u8 0), .lit (.int .u8 0)]]
/-- One of Go's own tables, pinned by name: the form's constant. -/
def laid_unicode_utf8_first : DataW Unit := Go.Pinned.utf8First

/-- 'laws.FnExactGoodStalk': WHATEVER THE INPUT: true; the input reads as it did. -/
def fnExactGoodStalkSpec : ChangeSpec := { name := "fnExactGoodStalk", fn := fun _ => fun
  | [d] => { results := [.lit (.bool true)], args := [d] }
  | _ => none }
def fnExactGoodStalkRow : OpenClaim := { program := "ytjhfnjgeikeajaadoor", sum := "a508630143fc792f7ea15b089686216763f092e7308e3595baba45b136f8d689", func := "loop.example/g00868/laws.FnExactGoodStalk", spec := "fnExactGoodStalk", inPlace := ["internal/bytealg.IndexByteString", "internal/bytealg.IndexString"], named := ["unicode/utf8.first", "unicode/utf8.acceptRanges", "internal/bytealg.MaxLen"], apart := false, laid := [("unicode/utf8.acceptRanges", laid_unicode_utf8_acceptRanges), ("unicode/utf8.first", laid_unicode_utf8_first)] }
def FnExactGoodStalkSaid : Prop := fnExactGoodStalkRow.holds Tryd.pinned (OpenSpec.ofChange fnExactGoodStalkSpec)

/-- ITS FALSE NEIGHBOUR: 'it returns false'. Refute it at one input. -/
def fnExactGoodStalkWrong : ChangeSpec := { name := "fnExactGoodStalk", fn := fun _ => fun
  | [d] => { results := [.lit (.bool false)], args := [d] }
  | _ => none }
def FnExactGoodStalkWrongFalsely : Prop := fnExactGoodStalkRow.holds Tryd.pinned (OpenSpec.ofChange fnExactGoodStalkWrong)

/-- 'laws.FnExactGoodStrip': WHATEVER THE INPUT: true; the input reads as it did. -/
def fnExactGoodStripSpec : ChangeSpec := { name := "fnExactGoodStrip", fn := fun _ => fun
  | [d1, d2] => { results := [.lit (.bool true)], args := [d1, d2] }
  | _ => none }
def fnExactGoodStripRow : OpenClaim := { program := "ytjhfnjgeikeajaadoor", sum := "a508630143fc792f7ea15b089686216763f092e7308e3595baba45b136f8d689", func := "loop.example/g00868/laws.FnExactGoodStrip", spec := "fnExactGoodStrip", inPlace := ["internal/bytealg.IndexByteString", "internal/bytealg.IndexString"], named := ["unicode/utf8.first", "unicode/utf8.acceptRanges", "internal/bytealg.MaxLen"], apart := false, laid := [("unicode/utf8.acceptRanges", laid_unicode_utf8_acceptRanges), ("unicode/utf8.first", laid_unicode_utf8_first)] }
def FnExactGoodStripSaid : Prop := fnExactGoodStripRow.holds Tryd.pinned (OpenSpec.ofChange fnExactGoodStripSpec)

/-- ITS FALSE NEIGHBOUR: 'it returns false'. Refute it at one input. -/
def fnExactGoodStripWrong : ChangeSpec := { name := "fnExactGoodStrip", fn := fun _ => fun
  | [d1, d2] => { results := [.lit (.bool false)], args := [d1, d2] }
  | _ => none }
def FnExactGoodStripWrongFalsely : Prop := fnExactGoodStripRow.holds Tryd.pinned (OpenSpec.ofChange fnExactGoodStripWrong)

/-- 'laws.FnExactMirrorStrip': WHATEVER THE INPUT: true; the input reads as it did. -/
def fnExactMirrorStripSpec : ChangeSpec := { name := "fnExactMirrorStrip", fn := fun _ => fun
  | [d1, d2] => { results := [.lit (.bool true)], args := [d1, d2] }
  | _ => none }
def fnExactMirrorStripRow : OpenClaim := { program := "ytjhfnjgeikeajaadoor", sum := "a508630143fc792f7ea15b089686216763f092e7308e3595baba45b136f8d689", func := "loop.example/g00868/laws.FnExactMirrorStrip", spec := "fnExactMirrorStrip", inPlace := ["internal/bytealg.IndexByteString", "internal/bytealg.IndexString"], named := ["unicode/utf8.first", "unicode/utf8.acceptRanges", "internal/bytealg.MaxLen"], apart := false, laid := [("unicode/utf8.acceptRanges", laid_unicode_utf8_acceptRanges), ("unicode/utf8.first", laid_unicode_utf8_first)] }
def FnExactMirrorStripSaid : Prop := fnExactMirrorStripRow.holds Tryd.pinned (OpenSpec.ofChange fnExactMirrorStripSpec)

/-- ITS FALSE NEIGHBOUR: 'it returns false'. Refute it at one input. -/
def fnExactMirrorStripWrong : ChangeSpec := { name := "fnExactMirrorStrip", fn := fun _ => fun
  | [d1, d2] => { results := [.lit (.bool false)], args := [d1, d2] }
  | _ => none }
def FnExactMirrorStripWrongFalsely : Prop := fnExactMirrorStripRow.holds Tryd.pinned (OpenSpec.ofChange fnExactMirrorStripWrong)

/-- 'laws.FnExactGoodBoard': WHATEVER THE INPUT: true; the input reads as it did. -/
def fnExactGoodBoardSpec : ChangeSpec := { name := "fnExactGoodBoard", fn := fun _ => fun
  | [d] => { results := [.lit (.bool true)], args := [d] }
  | _ => none }
def fnExactGoodBoardRow : OpenClaim := { program := "ytjhfnjgeikeajaadoor", sum := "a508630143fc792f7ea15b089686216763f092e7308e3595baba45b136f8d689", func := "loop.example/g00868/laws.FnExactGoodBoard", spec := "fnExactGoodBoard", inPlace := ["internal/bytealg.IndexByteString", "internal/bytealg.IndexString"], named := ["unicode/utf8.first", "unicode/utf8.acceptRanges", "internal/bytealg.MaxLen"], apart := false, laid := [("unicode/utf8.acceptRanges", laid_unicode_utf8_acceptRanges), ("unicode/utf8.first", laid_unicode_utf8_first)] }
def FnExactGoodBoardSaid : Prop := fnExactGoodBoardRow.holds Tryd.pinned (OpenSpec.ofChange fnExactGoodBoardSpec)

/-- ITS FALSE NEIGHBOUR: 'it returns false'. Refute it at one input. -/
def fnExactGoodBoardWrong : ChangeSpec := { name := "fnExactGoodBoard", fn := fun _ => fun
  | [d] => { results := [.lit (.bool false)], args := [d] }
  | _ => none }
def FnExactGoodBoardWrongFalsely : Prop := fnExactGoodBoardRow.holds Tryd.pinned (OpenSpec.ofChange fnExactGoodBoardWrong)

/-- 'laws.FnExactStalkTree': WHATEVER THE INPUT: true; the input reads as it did. -/
def fnExactStalkTreeSpec : ChangeSpec := { name := "fnExactStalkTree", fn := fun _ => fun
  | [d] => { results := [.lit (.bool true)], args := [d] }
  | _ => none }
def fnExactStalkTreeRow : OpenClaim := { program := "ytjhfnjgeikeajaadoor", sum := "a508630143fc792f7ea15b089686216763f092e7308e3595baba45b136f8d689", func := "loop.example/g00868/laws.FnExactStalkTree", spec := "fnExactStalkTree", inPlace := ["internal/bytealg.IndexByteString", "internal/bytealg.IndexString"], named := ["unicode/utf8.first", "unicode/utf8.acceptRanges", "internal/bytealg.MaxLen"], apart := false, laid := [("unicode/utf8.acceptRanges", laid_unicode_utf8_acceptRanges), ("unicode/utf8.first", laid_unicode_utf8_first)] }
def FnExactStalkTreeSaid : Prop := fnExactStalkTreeRow.holds Tryd.pinned (OpenSpec.ofChange fnExactStalkTreeSpec)

/-- ITS FALSE NEIGHBOUR: 'it returns false'. Refute it at one input. -/
def fnExactStalkTreeWrong : ChangeSpec := { name := "fnExactStalkTree", fn := fun _ => fun
  | [d] => { results := [.lit (.bool false)], args := [d] }
  | _ => none }
def FnExactStalkTreeWrongFalsely : Prop := fnExactStalkTreeRow.holds Tryd.pinned (OpenSpec.ofChange fnExactStalkTreeWrong)

/-- 'laws.FnExactGoodTree': WHATEVER THE INPUT: true; the input reads as it did. -/
def fnExactGoodTreeSpec : ChangeSpec := { name := "fnExactGoodTree", fn := fun _ => fun
  | [d] => { results := [.lit (.bool true)], args := [d] }
  | _ => none }
def fnExactGoodTreeRow : OpenClaim := { program := "ytjhfnjgeikeajaadoor", sum := "a508630143fc792f7ea15b089686216763f092e7308e3595baba45b136f8d689", func := "loop.example/g00868/laws.FnExactGoodTree", spec := "fnExactGoodTree", inPlace := ["internal/bytealg.IndexByteString", "internal/bytealg.IndexString"], named := ["unicode/utf8.first", "unicode/utf8.acceptRanges", "internal/bytealg.MaxLen"], apart := false, laid := [("unicode/utf8.acceptRanges", laid_unicode_utf8_acceptRanges), ("unicode/utf8.first", laid_unicode_utf8_first)] }
def FnExactGoodTreeSaid : Prop := fnExactGoodTreeRow.holds Tryd.pinned (OpenSpec.ofChange fnExactGoodTreeSpec)

/-- ITS FALSE NEIGHBOUR: 'it returns false'. Refute it at one input. -/
def fnExactGoodTreeWrong : ChangeSpec := { name := "fnExactGoodTree", fn := fun _ => fun
  | [d] => { results := [.lit (.bool false)], args := [d] }
  | _ => none }
def FnExactGoodTreeWrongFalsely : Prop := fnExactGoodTreeRow.holds Tryd.pinned (OpenSpec.ofChange fnExactGoodTreeWrong)

/-- 'laws.FnExactTurnStrip': WHATEVER THE INPUT: true; the input reads as it did. -/
def fnExactTurnStripSpec : ChangeSpec := { name := "fnExactTurnStrip", fn := fun _ => fun
  | [d1, d2] => { results := [.lit (.bool true)], args := [d1, d2] }
  | _ => none }
def fnExactTurnStripRow : OpenClaim := { program := "ytjhfnjgeikeajaadoor", sum := "a508630143fc792f7ea15b089686216763f092e7308e3595baba45b136f8d689", func := "loop.example/g00868/laws.FnExactTurnStrip", spec := "fnExactTurnStrip", inPlace := ["internal/bytealg.IndexByteString", "internal/bytealg.IndexString"], named := ["unicode/utf8.first", "unicode/utf8.acceptRanges", "internal/bytealg.MaxLen"], apart := false, laid := [("unicode/utf8.acceptRanges", laid_unicode_utf8_acceptRanges), ("unicode/utf8.first", laid_unicode_utf8_first)] }
def FnExactTurnStripSaid : Prop := fnExactTurnStripRow.holds Tryd.pinned (OpenSpec.ofChange fnExactTurnStripSpec)

/-- ITS FALSE NEIGHBOUR: 'it returns false'. Refute it at one input. -/
def fnExactTurnStripWrong : ChangeSpec := { name := "fnExactTurnStrip", fn := fun _ => fun
  | [d1, d2] => { results := [.lit (.bool false)], args := [d1, d2] }
  | _ => none }
def FnExactTurnStripWrongFalsely : Prop := fnExactTurnStripRow.holds Tryd.pinned (OpenSpec.ofChange fnExactTurnStripWrong)

/-- 'laws.FnExactStripOver': WHATEVER THE INPUT: true; the input reads as it did. -/
def fnExactStripOverSpec : ChangeSpec := { name := "fnExactStripOver", fn := fun _ => fun
  | [d1, d2] => { results := [.lit (.bool true)], args := [d1, d2] }
  | _ => none }
def fnExactStripOverRow : OpenClaim := { program := "ytjhfnjgeikeajaadoor", sum := "a508630143fc792f7ea15b089686216763f092e7308e3595baba45b136f8d689", func := "loop.example/g00868/laws.FnExactStripOver", spec := "fnExactStripOver", inPlace := ["internal/bytealg.IndexByteString", "internal/bytealg.IndexString"], named := ["unicode/utf8.first", "unicode/utf8.acceptRanges", "internal/bytealg.MaxLen"], apart := false, laid := [("unicode/utf8.acceptRanges", laid_unicode_utf8_acceptRanges), ("unicode/utf8.first", laid_unicode_utf8_first)] }
def FnExactStripOverSaid : Prop := fnExactStripOverRow.holds Tryd.pinned (OpenSpec.ofChange fnExactStripOverSpec)

/-- ITS FALSE NEIGHBOUR: 'it returns false'. Refute it at one input. -/
def fnExactStripOverWrong : ChangeSpec := { name := "fnExactStripOver", fn := fun _ => fun
  | [d1, d2] => { results := [.lit (.bool false)], args := [d1, d2] }
  | _ => none }
def FnExactStripOverWrongFalsely : Prop := fnExactStripOverRow.holds Tryd.pinned (OpenSpec.ofChange fnExactStripOverWrong)

/-- 'laws.FnExactTurnBoard': WHATEVER THE INPUT: true; the input reads as it did. -/
def fnExactTurnBoardSpec : ChangeSpec := { name := "fnExactTurnBoard", fn := fun _ => fun
  | [d] => { results := [.lit (.bool true)], args := [d] }
  | _ => none }
def fnExactTurnBoardRow : OpenClaim := { program := "ytjhfnjgeikeajaadoor", sum := "a508630143fc792f7ea15b089686216763f092e7308e3595baba45b136f8d689", func := "loop.example/g00868/laws.FnExactTurnBoard", spec := "fnExactTurnBoard", inPlace := ["internal/bytealg.IndexByteString", "internal/bytealg.IndexString"], named := ["unicode/utf8.first", "unicode/utf8.acceptRanges", "internal/bytealg.MaxLen"], apart := false, laid := [("unicode/utf8.acceptRanges", laid_unicode_utf8_acceptRanges), ("unicode/utf8.first", laid_unicode_utf8_first)] }
def FnExactTurnBoardSaid : Prop := fnExactTurnBoardRow.holds Tryd.pinned (OpenSpec.ofChange fnExactTurnBoardSpec)

/-- ITS FALSE NEIGHBOUR: 'it returns false'. Refute it at one input. -/
def fnExactTurnBoardWrong : ChangeSpec := { name := "fnExactTurnBoard", fn := fun _ => fun
  | [d] => { results := [.lit (.bool false)], args := [d] }
  | _ => none }
def FnExactTurnBoardWrongFalsely : Prop := fnExactTurnBoardRow.holds Tryd.pinned (OpenSpec.ofChange fnExactTurnBoardWrong)

/-- 'laws.FnExactBoardText': WHATEVER THE INPUT: true; the input reads as it did. -/
def fnExactBoardTextSpec : ChangeSpec := { name := "fnExactBoardText", fn := fun _ => fun
  | [d] => { results := [.lit (.bool true)], args := [d] }
  | _ => none }
def fnExactBoardTextRow : OpenClaim := { program := "ytjhfnjgeikeajaadoor", sum := "a508630143fc792f7ea15b089686216763f092e7308e3595baba45b136f8d689", func := "loop.example/g00868/laws.FnExactBoardText", spec := "fnExactBoardText", inPlace := ["internal/bytealg.IndexByteString", "internal/bytealg.IndexString", "internal/abi.NoEscape", "internal/bytealg.MakeNoZero"], named := ["unicode/utf8.first", "unicode/utf8.acceptRanges", "internal/bytealg.MaxLen"], apart := false, laid := [("unicode/utf8.acceptRanges", laid_unicode_utf8_acceptRanges), ("unicode/utf8.first", laid_unicode_utf8_first)] }
def FnExactBoardTextSaid : Prop := fnExactBoardTextRow.holds Tryd.pinned (OpenSpec.ofChange fnExactBoardTextSpec)

/-- ITS FALSE NEIGHBOUR: 'it returns false'. Refute it at one input. -/
def fnExactBoardTextWrong : ChangeSpec := { name := "fnExactBoardText", fn := fun _ => fun
  | [d] => { results := [.lit (.bool false)], args := [d] }
  | _ => none }
def FnExactBoardTextWrongFalsely : Prop := fnExactBoardTextRow.holds Tryd.pinned (OpenSpec.ofChange fnExactBoardTextWrong)

/-- 'laws.FnExactMirrorBoard': WHATEVER THE INPUT: true; the input reads as it did. -/
def fnExactMirrorBoardSpec : ChangeSpec := { name := "fnExactMirrorBoard", fn := fun _ => fun
  | [d] => { results := [.lit (.bool true)], args := [d] }
  | _ => none }
def fnExactMirrorBoardRow : OpenClaim := { program := "ytjhfnjgeikeajaadoor", sum := "a508630143fc792f7ea15b089686216763f092e7308e3595baba45b136f8d689", func := "loop.example/g00868/laws.FnExactMirrorBoard", spec := "fnExactMirrorBoard", inPlace := ["internal/bytealg.IndexByteString", "internal/bytealg.IndexString"], named := ["unicode/utf8.first", "unicode/utf8.acceptRanges", "internal/bytealg.MaxLen"], apart := false, laid := [("unicode/utf8.acceptRanges", laid_unicode_utf8_acceptRanges), ("unicode/utf8.first", laid_unicode_utf8_first)] }
def FnExactMirrorBoardSaid : Prop := fnExactMirrorBoardRow.holds Tryd.pinned (OpenSpec.ofChange fnExactMirrorBoardSpec)

/-- ITS FALSE NEIGHBOUR: 'it returns false'. Refute it at one input. -/
def fnExactMirrorBoardWrong : ChangeSpec := { name := "fnExactMirrorBoard", fn := fun _ => fun
  | [d] => { results := [.lit (.bool false)], args := [d] }
  | _ => none }
def FnExactMirrorBoardWrongFalsely : Prop := fnExactMirrorBoardRow.holds Tryd.pinned (OpenSpec.ofChange fnExactMirrorBoardWrong)

/-- 'laws.FnExactStripMoves': WHATEVER THE INPUT: true; the input reads as it did. -/
def fnExactStripMovesSpec : ChangeSpec := { name := "fnExactStripMoves", fn := fun _ => fun
  | [d1, d2, d3] => { results := [.lit (.bool true)], args := [d1, d2, d3] }
  | _ => none }
def fnExactStripMovesRow : OpenClaim := { program := "ytjhfnjgeikeajaadoor", sum := "a508630143fc792f7ea15b089686216763f092e7308e3595baba45b136f8d689", func := "loop.example/g00868/laws.FnExactStripMoves", spec := "fnExactStripMoves", inPlace := ["internal/bytealg.IndexByteString", "internal/bytealg.IndexString"], named := ["unicode/utf8.first", "unicode/utf8.acceptRanges", "internal/bytealg.MaxLen"], apart := false, laid := [("unicode/utf8.acceptRanges", laid_unicode_utf8_acceptRanges), ("unicode/utf8.first", laid_unicode_utf8_first)] }
def FnExactStripMovesSaid : Prop := fnExactStripMovesRow.holds Tryd.pinned (OpenSpec.ofChange fnExactStripMovesSpec)

/-- ITS FALSE NEIGHBOUR: 'it returns false'. Refute it at one input. -/
def fnExactStripMovesWrong : ChangeSpec := { name := "fnExactStripMoves", fn := fun _ => fun
  | [d1, d2, d3] => { results := [.lit (.bool false)], args := [d1, d2, d3] }
  | _ => none }
def FnExactStripMovesWrongFalsely : Prop := fnExactStripMovesRow.holds Tryd.pinned (OpenSpec.ofChange fnExactStripMovesWrong)

/- THE SECOND FORM. 'bulk': how many values and letters a reading holds, each counted each time it is reached (what is shared counts as often as it is met; a slice's spare places count too). A statement '..UptoSaid' is the law's where the arguments, and the package variables that the reading takes, are together of bulk at most 1048576: NARROWER than '..Said'. Prove '..Said' where nothing that the law and all that it calls make is longer than what came in: it says more and counts as full. Else prove '..UptoSaid'. A law counts once. -/
mutual
def uptoBulk {H : Type} : DataW H → Nat
  | .lit (.string bytes) => bytes.length + 1
  | .lit _ => 1
  | .nil => 1
  | .ptr d => uptoBulk d + 1
  | .slice elems spare => uptoBulkAll elems + uptoBulkAll spare + 1
  | .agg parts => uptoBulkAll parts + 1
  | .iface _ d => uptoBulk d + 1
  | .map entries => uptoBulkEntries entries + 1
  | .held _ => 1
def uptoBulkAll {H : Type} : List (DataW H) → Nat
  | [] => 0
  | d :: r => uptoBulk d + uptoBulkAll r
def uptoBulkEntries {H : Type} : List (Lit × DataW H) → Nat
  | [] => 0
  | x :: r => uptoBulkEntry x + uptoBulkEntries r
def uptoBulkEntry {H : Type} : Lit × DataW H → Nat
  | (.string bytes, d) => bytes.length + uptoBulk d + 1
  | (_, d) => uptoBulk d + 1
 end
def uptoSmall : (H : Type) → List (DataW H) → Bool := fun _ ds => decide (uptoBulkAll ds ≤ 1048576)
def OpenSpec.upto (s : _root_.Go.ChangeSpec) : _root_.Go.OpenSpec := { _root_.Go.OpenSpec.ofChange s with cond := some uptoSmall }

/-- 'laws.FnExactGoodStalk', WHERE WHAT IT READS IS OF BULK AT MOST 1048576: true; the input reads as it did. -/
def fnExactGoodStalkUptoRow : OpenClaim := { program := "ytjhfnjgeikeajaadoor", sum := "a508630143fc792f7ea15b089686216763f092e7308e3595baba45b136f8d689", func := "loop.example/g00868/laws.FnExactGoodStalk", spec := "fnExactGoodStalk", inPlace := ["internal/bytealg.IndexByteString", "internal/bytealg.IndexString"], named := ["unicode/utf8.first", "unicode/utf8.acceptRanges", "internal/bytealg.MaxLen"], apart := false, laid := [("unicode/utf8.acceptRanges", laid_unicode_utf8_acceptRanges), ("unicode/utf8.first", laid_unicode_utf8_first)], narrowed := true }
def FnExactGoodStalkUptoSaid : Prop := fnExactGoodStalkUptoRow.holds Tryd.pinned (OpenSpec.upto fnExactGoodStalkSpec)

/-- 'laws.FnExactGoodStrip', WHERE WHAT IT READS IS OF BULK AT MOST 1048576: true; the input reads as it did. -/
def fnExactGoodStripUptoRow : OpenClaim := { program := "ytjhfnjgeikeajaadoor", sum := "a508630143fc792f7ea15b089686216763f092e7308e3595baba45b136f8d689", func := "loop.example/g00868/laws.FnExactGoodStrip", spec := "fnExactGoodStrip", inPlace := ["internal/bytealg.IndexByteString", "internal/bytealg.IndexString"], named := ["unicode/utf8.first", "unicode/utf8.acceptRanges", "internal/bytealg.MaxLen"], apart := false, laid := [("unicode/utf8.acceptRanges", laid_unicode_utf8_acceptRanges), ("unicode/utf8.first", laid_unicode_utf8_first)], narrowed := true }
def FnExactGoodStripUptoSaid : Prop := fnExactGoodStripUptoRow.holds Tryd.pinned (OpenSpec.upto fnExactGoodStripSpec)

/-- 'laws.FnExactMirrorStrip', WHERE WHAT IT READS IS OF BULK AT MOST 1048576: true; the input reads as it did. -/
def fnExactMirrorStripUptoRow : OpenClaim := { program := "ytjhfnjgeikeajaadoor", sum := "a508630143fc792f7ea15b089686216763f092e7308e3595baba45b136f8d689", func := "loop.example/g00868/laws.FnExactMirrorStrip", spec := "fnExactMirrorStrip", inPlace := ["internal/bytealg.IndexByteString", "internal/bytealg.IndexString"], named := ["unicode/utf8.first", "unicode/utf8.acceptRanges", "internal/bytealg.MaxLen"], apart := false, laid := [("unicode/utf8.acceptRanges", laid_unicode_utf8_acceptRanges), ("unicode/utf8.first", laid_unicode_utf8_first)], narrowed := true }
def FnExactMirrorStripUptoSaid : Prop := fnExactMirrorStripUptoRow.holds Tryd.pinned (OpenSpec.upto fnExactMirrorStripSpec)

/-- 'laws.FnExactGoodBoard', WHERE WHAT IT READS IS OF BULK AT MOST 1048576: true; the input reads as it did. -/
def fnExactGoodBoardUptoRow : OpenClaim := { program := "ytjhfnjgeikeajaadoor", sum := "a508630143fc792f7ea15b089686216763f092e7308e3595baba45b136f8d689", func := "loop.example/g00868/laws.FnExactGoodBoard", spec := "fnExactGoodBoard", inPlace := ["internal/bytealg.IndexByteString", "internal/bytealg.IndexString"], named := ["unicode/utf8.first", "unicode/utf8.acceptRanges", "internal/bytealg.MaxLen"], apart := false, laid := [("unicode/utf8.acceptRanges", laid_unicode_utf8_acceptRanges), ("unicode/utf8.first", laid_unicode_utf8_first)], narrowed := true }
def FnExactGoodBoardUptoSaid : Prop := fnExactGoodBoardUptoRow.holds Tryd.pinned (OpenSpec.upto fnExactGoodBoardSpec)

/-- 'laws.FnExactStalkTree', WHERE WHAT IT READS IS OF BULK AT MOST 1048576: true; the input reads as it did. -/
def fnExactStalkTreeUptoRow : OpenClaim := { program := "ytjhfnjgeikeajaadoor", sum := "a508630143fc792f7ea15b089686216763f092e7308e3595baba45b136f8d689", func := "loop.example/g00868/laws.FnExactStalkTree", spec := "fnExactStalkTree", inPlace := ["internal/bytealg.IndexByteString", "internal/bytealg.IndexString"], named := ["unicode/utf8.first", "unicode/utf8.acceptRanges", "internal/bytealg.MaxLen"], apart := false, laid := [("unicode/utf8.acceptRanges", laid_unicode_utf8_acceptRanges), ("unicode/utf8.first", laid_unicode_utf8_first)], narrowed := true }
def FnExactStalkTreeUptoSaid : Prop := fnExactStalkTreeUptoRow.holds Tryd.pinned (OpenSpec.upto fnExactStalkTreeSpec)

/-- 'laws.FnExactGoodTree', WHERE WHAT IT READS IS OF BULK AT MOST 1048576: true; the input reads as it did. -/
def fnExactGoodTreeUptoRow : OpenClaim := { program := "ytjhfnjgeikeajaadoor", sum := "a508630143fc792f7ea15b089686216763f092e7308e3595baba45b136f8d689", func := "loop.example/g00868/laws.FnExactGoodTree", spec := "fnExactGoodTree", inPlace := ["internal/bytealg.IndexByteString", "internal/bytealg.IndexString"], named := ["unicode/utf8.first", "unicode/utf8.acceptRanges", "internal/bytealg.MaxLen"], apart := false, laid := [("unicode/utf8.acceptRanges", laid_unicode_utf8_acceptRanges), ("unicode/utf8.first", laid_unicode_utf8_first)], narrowed := true }
def FnExactGoodTreeUptoSaid : Prop := fnExactGoodTreeUptoRow.holds Tryd.pinned (OpenSpec.upto fnExactGoodTreeSpec)

/-- 'laws.FnExactTurnStrip', WHERE WHAT IT READS IS OF BULK AT MOST 1048576: true; the input reads as it did. -/
def fnExactTurnStripUptoRow : OpenClaim := { program := "ytjhfnjgeikeajaadoor", sum := "a508630143fc792f7ea15b089686216763f092e7308e3595baba45b136f8d689", func := "loop.example/g00868/laws.FnExactTurnStrip", spec := "fnExactTurnStrip", inPlace := ["internal/bytealg.IndexByteString", "internal/bytealg.IndexString"], named := ["unicode/utf8.first", "unicode/utf8.acceptRanges", "internal/bytealg.MaxLen"], apart := false, laid := [("unicode/utf8.acceptRanges", laid_unicode_utf8_acceptRanges), ("unicode/utf8.first", laid_unicode_utf8_first)], narrowed := true }
def FnExactTurnStripUptoSaid : Prop := fnExactTurnStripUptoRow.holds Tryd.pinned (OpenSpec.upto fnExactTurnStripSpec)

/-- 'laws.FnExactStripOver', WHERE WHAT IT READS IS OF BULK AT MOST 1048576: true; the input reads as it did. -/
def fnExactStripOverUptoRow : OpenClaim := { program := "ytjhfnjgeikeajaadoor", sum := "a508630143fc792f7ea15b089686216763f092e7308e3595baba45b136f8d689", func := "loop.example/g00868/laws.FnExactStripOver", spec := "fnExactStripOver", inPlace := ["internal/bytealg.IndexByteString", "internal/bytealg.IndexString"], named := ["unicode/utf8.first", "unicode/utf8.acceptRanges", "internal/bytealg.MaxLen"], apart := false, laid := [("unicode/utf8.acceptRanges", laid_unicode_utf8_acceptRanges), ("unicode/utf8.first", laid_unicode_utf8_first)], narrowed := true }
def FnExactStripOverUptoSaid : Prop := fnExactStripOverUptoRow.holds Tryd.pinned (OpenSpec.upto fnExactStripOverSpec)

/-- 'laws.FnExactTurnBoard', WHERE WHAT IT READS IS OF BULK AT MOST 1048576: true; the input reads as it did. -/
def fnExactTurnBoardUptoRow : OpenClaim := { program := "ytjhfnjgeikeajaadoor", sum := "a508630143fc792f7ea15b089686216763f092e7308e3595baba45b136f8d689", func := "loop.example/g00868/laws.FnExactTurnBoard", spec := "fnExactTurnBoard", inPlace := ["internal/bytealg.IndexByteString", "internal/bytealg.IndexString"], named := ["unicode/utf8.first", "unicode/utf8.acceptRanges", "internal/bytealg.MaxLen"], apart := false, laid := [("unicode/utf8.acceptRanges", laid_unicode_utf8_acceptRanges), ("unicode/utf8.first", laid_unicode_utf8_first)], narrowed := true }
def FnExactTurnBoardUptoSaid : Prop := fnExactTurnBoardUptoRow.holds Tryd.pinned (OpenSpec.upto fnExactTurnBoardSpec)

/-- 'laws.FnExactBoardText', WHERE WHAT IT READS IS OF BULK AT MOST 1048576: true; the input reads as it did. -/
def fnExactBoardTextUptoRow : OpenClaim := { program := "ytjhfnjgeikeajaadoor", sum := "a508630143fc792f7ea15b089686216763f092e7308e3595baba45b136f8d689", func := "loop.example/g00868/laws.FnExactBoardText", spec := "fnExactBoardText", inPlace := ["internal/bytealg.IndexByteString", "internal/bytealg.IndexString", "internal/abi.NoEscape", "internal/bytealg.MakeNoZero"], named := ["unicode/utf8.first", "unicode/utf8.acceptRanges", "internal/bytealg.MaxLen"], apart := false, laid := [("unicode/utf8.acceptRanges", laid_unicode_utf8_acceptRanges), ("unicode/utf8.first", laid_unicode_utf8_first)], narrowed := true }
def FnExactBoardTextUptoSaid : Prop := fnExactBoardTextUptoRow.holds Tryd.pinned (OpenSpec.upto fnExactBoardTextSpec)

/-- 'laws.FnExactMirrorBoard', WHERE WHAT IT READS IS OF BULK AT MOST 1048576: true; the input reads as it did. -/
def fnExactMirrorBoardUptoRow : OpenClaim := { program := "ytjhfnjgeikeajaadoor", sum := "a508630143fc792f7ea15b089686216763f092e7308e3595baba45b136f8d689", func := "loop.example/g00868/laws.FnExactMirrorBoard", spec := "fnExactMirrorBoard", inPlace := ["internal/bytealg.IndexByteString", "internal/bytealg.IndexString"], named := ["unicode/utf8.first", "unicode/utf8.acceptRanges", "internal/bytealg.MaxLen"], apart := false, laid := [("unicode/utf8.acceptRanges", laid_unicode_utf8_acceptRanges), ("unicode/utf8.first", laid_unicode_utf8_first)], narrowed := true }
def FnExactMirrorBoardUptoSaid : Prop := fnExactMirrorBoardUptoRow.holds Tryd.pinned (OpenSpec.upto fnExactMirrorBoardSpec)

/-- 'laws.FnExactStripMoves', WHERE WHAT IT READS IS OF BULK AT MOST 1048576: true; the input reads as it did. -/
def fnExactStripMovesUptoRow : OpenClaim := { program := "ytjhfnjgeikeajaadoor", sum := "a508630143fc792f7ea15b089686216763f092e7308e3595baba45b136f8d689", func := "loop.example/g00868/laws.FnExactStripMoves", spec := "fnExactStripMoves", inPlace := ["internal/bytealg.IndexByteString", "internal/bytealg.IndexString"], named := ["unicode/utf8.first", "unicode/utf8.acceptRanges", "internal/bytealg.MaxLen"], apart := false, laid := [("unicode/utf8.acceptRanges", laid_unicode_utf8_acceptRanges), ("unicode/utf8.first", laid_unicode_utf8_first)], narrowed := true }
def FnExactStripMovesUptoSaid : Prop := fnExactStripMovesUptoRow.holds Tryd.pinned (OpenSpec.upto fnExactStripMovesSpec)

end Rows
end Go.Proofs.YtjhfnjgeikeajaaDoor
