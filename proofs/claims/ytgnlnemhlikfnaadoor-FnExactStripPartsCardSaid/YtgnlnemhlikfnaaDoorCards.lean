/-
  DERIVED. GIVEN WITH THE SEED: THE CARDS: each row of YtgnlnemhlikfnaaDoorRows.lean that lists a variable, with what it lists TIED to the program's text (the seventh form; the later family's looks); each row that meets fmt, with fmt's text TOLD by the authors' own Lean function (tested against real Go, not proved from fmt's source: count such statements apart). THE CARD IS WHAT COUNTS. Prove the row's statement (the work); the ties are given (YtgnlnemhlikfnaaDoorTie.lean); close each card by the builder's one call (the guide's Derived/Test/ToyasCard.lean, 'card_holds'). Laid BY PROGRAM, IN A SANDBOX (cutbox-door.mjs). By AI agents, Wed Nov 11 2026. No macro, syntax, notation, axiom, sorry.
-/
import Derived.Test.YtgnlnemhlikfnaaDoorRows
import GoSem.ClaimSeven
namespace Go.Proofs.YtgnlnemhlikfnaaDoor
namespace Rows

/-- THE TIED CARD OF 'laws.FnExactGenusText'. -/
def fnExactGenusTextCard : Claim7 := { stood := { row := fnExactGenusTextRow, standIns := [], harness := (true, "51fe1bb53925858939530237fc40ddaf502728f3fc83a60b8de6e02c8a65f862"), looks := false }, kinds := [], alts := [], laidByText := true, laidKinds := [.data, .data, .data], laidTests := true, laidLooks := .later }
def FnExactGenusTextCardSaid : Prop := Claim7.holds Tryd.pinned (.plain (OpenSpec.ofChange fnExactGenusTextSpec)) fnExactGenusTextCard

/-- THE TIED CARD OF 'laws.FnExactStalkValue'. -/
def fnExactStalkValueCard : Claim7 := { stood := { row := fnExactStalkValueRow, standIns := [], harness := (true, "51fe1bb53925858939530237fc40ddaf502728f3fc83a60b8de6e02c8a65f862"), looks := false }, kinds := [], alts := [], laidByText := true, laidKinds := [.data, .pinned], laidTests := true, laidLooks := .later }
def FnExactStalkValueCardSaid : Prop := Claim7.holds Tryd.pinned (.plain (OpenSpec.ofChange fnExactStalkValueSpec)) fnExactStalkValueCard

/-- THE TIED CARD OF 'laws.FnExactLongestStrip'. -/
def fnExactLongestStripCard : Claim7 := { stood := { row := fnExactLongestStripRow, standIns := [], harness := (true, "51fe1bb53925858939530237fc40ddaf502728f3fc83a60b8de6e02c8a65f862"), looks := false }, kinds := [], alts := [], laidByText := true, laidKinds := [.data, .pinned], laidTests := true, laidLooks := .later }
def FnExactLongestStripCardSaid : Prop := Claim7.holds Tryd.pinned (.plain (OpenSpec.ofChange fnExactLongestStripSpec)) fnExactLongestStripCard

/-- THE TIED CARD OF 'laws.FnExactTrimBoard'. -/
def fnExactTrimBoardCard : Claim7 := { stood := { row := fnExactTrimBoardRow, standIns := [], harness := (true, "51fe1bb53925858939530237fc40ddaf502728f3fc83a60b8de6e02c8a65f862"), looks := false }, kinds := [], alts := [], laidByText := true, laidKinds := [.data, .pinned], laidTests := true, laidLooks := .later }
def FnExactTrimBoardCardSaid : Prop := Claim7.holds Tryd.pinned (.plain (OpenSpec.ofChange fnExactTrimBoardSpec)) fnExactTrimBoardCard

/-- THE TIED CARD OF 'laws.FnExactTreeValue'. -/
def fnExactTreeValueCard : Claim7 := { stood := { row := fnExactTreeValueRow, standIns := [], harness := (true, "51fe1bb53925858939530237fc40ddaf502728f3fc83a60b8de6e02c8a65f862"), looks := false }, kinds := [], alts := [], laidByText := true, laidKinds := [.data, .pinned], laidTests := true, laidLooks := .later }
def FnExactTreeValueCardSaid : Prop := Claim7.holds Tryd.pinned (.plain (OpenSpec.ofChange fnExactTreeValueSpec)) fnExactTreeValueCard

/-- THE TIED CARD OF 'laws.FnExactTreeCuts'. -/
def fnExactTreeCutsCard : Claim7 := { stood := { row := fnExactTreeCutsRow, standIns := [], harness := (true, "51fe1bb53925858939530237fc40ddaf502728f3fc83a60b8de6e02c8a65f862"), looks := false }, kinds := [], alts := [], laidByText := true, laidKinds := [.data, .pinned], laidTests := true, laidLooks := .later }
def FnExactTreeCutsCardSaid : Prop := Claim7.holds Tryd.pinned (.plain (OpenSpec.ofChange fnExactTreeCutsSpec)) fnExactTreeCutsCard

/-- THE TIED CARD OF 'laws.FnExactReadBoard'. -/
def fnExactReadBoardCard : Claim7 := { stood := { row := fnExactReadBoardRow, standIns := [], harness := (true, "51fe1bb53925858939530237fc40ddaf502728f3fc83a60b8de6e02c8a65f862"), looks := false }, kinds := [], alts := [], laidByText := true, laidKinds := [.data, .pinned], laidTests := true, laidLooks := .later }
def FnExactReadBoardCardSaid : Prop := Claim7.holds Tryd.pinned (.plain (OpenSpec.ofChange fnExactReadBoardSpec)) fnExactReadBoardCard

/-- THE TIED CARD OF 'laws.FnExactBoardParts'. -/
def fnExactBoardPartsCard : Claim7 := { stood := { row := fnExactBoardPartsRow, standIns := [], harness := (true, "51fe1bb53925858939530237fc40ddaf502728f3fc83a60b8de6e02c8a65f862"), looks := false }, kinds := [], alts := [], laidByText := true, laidKinds := [.data, .pinned], laidTests := true, laidLooks := .later }
def FnExactBoardPartsCardSaid : Prop := Claim7.holds Tryd.pinned (.plain (OpenSpec.ofChange fnExactBoardPartsSpec)) fnExactBoardPartsCard

/-- THE TIED CARD OF 'laws.FnExactRoomFor'. -/
def fnExactRoomForCard : Claim7 := { stood := { row := fnExactRoomForRow, standIns := [], harness := (true, "51fe1bb53925858939530237fc40ddaf502728f3fc83a60b8de6e02c8a65f862"), looks := false }, kinds := [], alts := [], laidByText := true, laidKinds := [.data, .pinned], laidTests := true, laidLooks := .later }
def FnExactRoomForCardSaid : Prop := Claim7.holds Tryd.pinned (.plain (OpenSpec.ofChange fnExactRoomForSpec)) fnExactRoomForCard

/-- THE TIED CARD OF 'laws.FnExactStripParts'. -/
def fnExactStripPartsCard : Claim7 := { stood := { row := fnExactStripPartsRow, standIns := [], harness := (true, "51fe1bb53925858939530237fc40ddaf502728f3fc83a60b8de6e02c8a65f862"), looks := false }, kinds := [], alts := [], laidByText := true, laidKinds := [.data, .pinned], laidTests := true, laidLooks := .later }
def FnExactStripPartsCardSaid : Prop := Claim7.holds Tryd.pinned (.plain (OpenSpec.ofChange fnExactStripPartsSpec)) fnExactStripPartsCard

/-- THE SECOND FORM's CARD OF 'laws.FnExactGenusText'. -/
def fnExactGenusTextUptoCard : Claim7 := { stood := { row := fnExactGenusTextUptoRow, standIns := [], harness := (true, "51fe1bb53925858939530237fc40ddaf502728f3fc83a60b8de6e02c8a65f862"), looks := false }, kinds := [], alts := [], laidByText := true, laidKinds := [.data, .data, .data], laidTests := true, laidLooks := .later }
def FnExactGenusTextUptoCardSaid : Prop := Claim7.holds Tryd.pinned (.plain (OpenSpec.upto fnExactGenusTextSpec)) fnExactGenusTextUptoCard

/-- THE SECOND FORM's CARD OF 'laws.FnExactStalkValue'. -/
def fnExactStalkValueUptoCard : Claim7 := { stood := { row := fnExactStalkValueUptoRow, standIns := [], harness := (true, "51fe1bb53925858939530237fc40ddaf502728f3fc83a60b8de6e02c8a65f862"), looks := false }, kinds := [], alts := [], laidByText := true, laidKinds := [.data, .pinned], laidTests := true, laidLooks := .later }
def FnExactStalkValueUptoCardSaid : Prop := Claim7.holds Tryd.pinned (.plain (OpenSpec.upto fnExactStalkValueSpec)) fnExactStalkValueUptoCard

/-- THE SECOND FORM's CARD OF 'laws.FnExactLongestStrip'. -/
def fnExactLongestStripUptoCard : Claim7 := { stood := { row := fnExactLongestStripUptoRow, standIns := [], harness := (true, "51fe1bb53925858939530237fc40ddaf502728f3fc83a60b8de6e02c8a65f862"), looks := false }, kinds := [], alts := [], laidByText := true, laidKinds := [.data, .pinned], laidTests := true, laidLooks := .later }
def FnExactLongestStripUptoCardSaid : Prop := Claim7.holds Tryd.pinned (.plain (OpenSpec.upto fnExactLongestStripSpec)) fnExactLongestStripUptoCard

/-- THE SECOND FORM's CARD OF 'laws.FnExactTrimBoard'. -/
def fnExactTrimBoardUptoCard : Claim7 := { stood := { row := fnExactTrimBoardUptoRow, standIns := [], harness := (true, "51fe1bb53925858939530237fc40ddaf502728f3fc83a60b8de6e02c8a65f862"), looks := false }, kinds := [], alts := [], laidByText := true, laidKinds := [.data, .pinned], laidTests := true, laidLooks := .later }
def FnExactTrimBoardUptoCardSaid : Prop := Claim7.holds Tryd.pinned (.plain (OpenSpec.upto fnExactTrimBoardSpec)) fnExactTrimBoardUptoCard

/-- THE SECOND FORM's CARD OF 'laws.FnExactTreeValue'. -/
def fnExactTreeValueUptoCard : Claim7 := { stood := { row := fnExactTreeValueUptoRow, standIns := [], harness := (true, "51fe1bb53925858939530237fc40ddaf502728f3fc83a60b8de6e02c8a65f862"), looks := false }, kinds := [], alts := [], laidByText := true, laidKinds := [.data, .pinned], laidTests := true, laidLooks := .later }
def FnExactTreeValueUptoCardSaid : Prop := Claim7.holds Tryd.pinned (.plain (OpenSpec.upto fnExactTreeValueSpec)) fnExactTreeValueUptoCard

/-- THE SECOND FORM's CARD OF 'laws.FnExactTreeCuts'. -/
def fnExactTreeCutsUptoCard : Claim7 := { stood := { row := fnExactTreeCutsUptoRow, standIns := [], harness := (true, "51fe1bb53925858939530237fc40ddaf502728f3fc83a60b8de6e02c8a65f862"), looks := false }, kinds := [], alts := [], laidByText := true, laidKinds := [.data, .pinned], laidTests := true, laidLooks := .later }
def FnExactTreeCutsUptoCardSaid : Prop := Claim7.holds Tryd.pinned (.plain (OpenSpec.upto fnExactTreeCutsSpec)) fnExactTreeCutsUptoCard

/-- THE SECOND FORM's CARD OF 'laws.FnExactReadBoard'. -/
def fnExactReadBoardUptoCard : Claim7 := { stood := { row := fnExactReadBoardUptoRow, standIns := [], harness := (true, "51fe1bb53925858939530237fc40ddaf502728f3fc83a60b8de6e02c8a65f862"), looks := false }, kinds := [], alts := [], laidByText := true, laidKinds := [.data, .pinned], laidTests := true, laidLooks := .later }
def FnExactReadBoardUptoCardSaid : Prop := Claim7.holds Tryd.pinned (.plain (OpenSpec.upto fnExactReadBoardSpec)) fnExactReadBoardUptoCard

/-- THE SECOND FORM's CARD OF 'laws.FnExactBoardParts'. -/
def fnExactBoardPartsUptoCard : Claim7 := { stood := { row := fnExactBoardPartsUptoRow, standIns := [], harness := (true, "51fe1bb53925858939530237fc40ddaf502728f3fc83a60b8de6e02c8a65f862"), looks := false }, kinds := [], alts := [], laidByText := true, laidKinds := [.data, .pinned], laidTests := true, laidLooks := .later }
def FnExactBoardPartsUptoCardSaid : Prop := Claim7.holds Tryd.pinned (.plain (OpenSpec.upto fnExactBoardPartsSpec)) fnExactBoardPartsUptoCard

/-- THE SECOND FORM's CARD OF 'laws.FnExactRoomFor'. -/
def fnExactRoomForUptoCard : Claim7 := { stood := { row := fnExactRoomForUptoRow, standIns := [], harness := (true, "51fe1bb53925858939530237fc40ddaf502728f3fc83a60b8de6e02c8a65f862"), looks := false }, kinds := [], alts := [], laidByText := true, laidKinds := [.data, .pinned], laidTests := true, laidLooks := .later }
def FnExactRoomForUptoCardSaid : Prop := Claim7.holds Tryd.pinned (.plain (OpenSpec.upto fnExactRoomForSpec)) fnExactRoomForUptoCard

/-- THE SECOND FORM's CARD OF 'laws.FnExactStripParts'. -/
def fnExactStripPartsUptoCard : Claim7 := { stood := { row := fnExactStripPartsUptoRow, standIns := [], harness := (true, "51fe1bb53925858939530237fc40ddaf502728f3fc83a60b8de6e02c8a65f862"), looks := false }, kinds := [], alts := [], laidByText := true, laidKinds := [.data, .pinned], laidTests := true, laidLooks := .later }
def FnExactStripPartsUptoCardSaid : Prop := Claim7.holds Tryd.pinned (.plain (OpenSpec.upto fnExactStripPartsSpec)) fnExactStripPartsUptoCard
end Rows
end Go.Proofs.YtgnlnemhlikfnaaDoor
