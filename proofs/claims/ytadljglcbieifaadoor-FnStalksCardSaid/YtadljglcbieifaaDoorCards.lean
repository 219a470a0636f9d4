/-
  DERIVED. GIVEN WITH THE SEED: THE CARDS: each row of YtadljglcbieifaaDoorRows.lean that lists a variable, with what it lists TIED to the program's text (the seventh form; the later family's looks); each row that meets fmt, with fmt's text TOLD by the authors' own Lean function (tested against real Go, not proved from fmt's source: count such statements apart). THE CARD IS WHAT COUNTS. Prove the row's statement (the work); the ties are given (YtadljglcbieifaaDoorTie.lean); close each card by the builder's one call (the guide's Derived/Test/ToyasCard.lean, 'card_holds'). Laid BY PROGRAM, IN A SANDBOX (cutbox-door.mjs). By AI agents, Wed Nov 11 2026. No macro, syntax, notation, axiom, sorry.
-/
import Derived.Test.YtadljglcbieifaaDoorRows
import GoSem.ClaimSeven
namespace Go.Proofs.YtadljglcbieifaaDoor
namespace Rows

/-- THE TIED CARD OF 'laws.FnExactTreeCuts'. -/
def fnExactTreeCutsCard : Claim7 := { stood := { row := fnExactTreeCutsRow, standIns := [], harness := (true, "6de3b8607db2623354fbba34c7f605ef5c6096bda5b2b0895630bb7812279f0b"), looks := true }, kinds := [], alts := [], laidByText := true, laidKinds := [.data, .pinned], laidTests := true, laidLooks := .later }
def FnExactTreeCutsCardSaid : Prop := Claim7.holds Tryd.pinned (.plain (OpenSpec.ofChange fnExactTreeCutsSpec)) fnExactTreeCutsCard

/-- THE TIED CARD OF 'laws.FnCuts'. -/
def fnCutsCard : Claim7 := { stood := { row := fnCutsRow, standIns := [], harness := (true, "6de3b8607db2623354fbba34c7f605ef5c6096bda5b2b0895630bb7812279f0b"), looks := true }, kinds := [], alts := [], laidByText := true, laidKinds := [.data, .pinned], laidTests := true, laidLooks := .later }
def FnCutsCardSaid : Prop := Claim7.holds Tryd.pinned (.plain (OpenSpec.ofChange fnCutsSpec)) fnCutsCard

/-- THE TIED CARD OF 'laws.FnStalks'. -/
def fnStalksCard : Claim7 := { stood := { row := fnStalksRow, standIns := [], harness := (true, "6de3b8607db2623354fbba34c7f605ef5c6096bda5b2b0895630bb7812279f0b"), looks := true }, kinds := [], alts := [], laidByText := true, laidKinds := [.data, .pinned], laidTests := true, laidLooks := .later }
def FnStalksCardSaid : Prop := Claim7.holds Tryd.pinned (.plain (OpenSpec.ofChange fnStalksSpec)) fnStalksCard

/-- THE TIED CARD OF 'laws.FnExactBoardParts'. -/
def fnExactBoardPartsCard : Claim7 := { stood := { row := fnExactBoardPartsRow, standIns := [], harness := (true, "6de3b8607db2623354fbba34c7f605ef5c6096bda5b2b0895630bb7812279f0b"), looks := true }, kinds := [], alts := [], laidByText := true, laidKinds := [.data, .pinned], laidTests := true, laidLooks := .later }
def FnExactBoardPartsCardSaid : Prop := Claim7.holds Tryd.pinned (.plain (OpenSpec.ofChange fnExactBoardPartsSpec)) fnExactBoardPartsCard

/-- THE TIED CARD OF 'laws.FnExactLongestStrip'. -/
def fnExactLongestStripCard : Claim7 := { stood := { row := fnExactLongestStripRow, standIns := [], harness := (true, "6de3b8607db2623354fbba34c7f605ef5c6096bda5b2b0895630bb7812279f0b"), looks := true }, kinds := [], alts := [], laidByText := true, laidKinds := [.data, .pinned], laidTests := true, laidLooks := .later }
def FnExactLongestStripCardSaid : Prop := Claim7.holds Tryd.pinned (.plain (OpenSpec.ofChange fnExactLongestStripSpec)) fnExactLongestStripCard

/-- THE TIED CARD OF 'laws.FnStripLong'. -/
def fnStripLongCard : Claim7 := { stood := { row := fnStripLongRow, standIns := [], harness := (true, "6de3b8607db2623354fbba34c7f605ef5c6096bda5b2b0895630bb7812279f0b"), looks := true }, kinds := [], alts := [], laidByText := true, laidKinds := [.data, .pinned], laidTests := true, laidLooks := .later }
def FnStripLongCardSaid : Prop := Claim7.holds Tryd.pinned (.plain (OpenSpec.ofChange fnStripLongSpec)) fnStripLongCard

/-- THE TIED CARD OF 'laws.FnExactReadPeriod'. -/
def fnExactReadPeriodCard : Claim7 := { stood := { row := fnExactReadPeriodRow, standIns := [], harness := (true, "6de3b8607db2623354fbba34c7f605ef5c6096bda5b2b0895630bb7812279f0b"), looks := true }, kinds := [], alts := [], laidByText := true, laidKinds := [.data, .data, .data, .sentinel, .sentinel], laidTests := true, laidLooks := .later }
def FnExactReadPeriodCardSaid : Prop := Claim7.holds Tryd.pinned (.plain (OpenSpec.ofChange fnExactReadPeriodSpec)) fnExactReadPeriodCard

/-- THE TIED CARD OF 'laws.FnPeriodTexts'. -/
def fnPeriodTextsCard : Claim7 := { stood := { row := fnPeriodTextsRow, standIns := [], harness := (true, "6de3b8607db2623354fbba34c7f605ef5c6096bda5b2b0895630bb7812279f0b"), looks := true }, kinds := [], alts := [], laidByText := true, laidKinds := [.data, .data, .data, .sentinel, .sentinel], laidTests := true, laidLooks := .later }
def FnPeriodTextsCardSaid : Prop := Claim7.holds Tryd.pinned (.plain (OpenSpec.ofChange fnPeriodTextsSpec)) fnPeriodTextsCard

/-- THE TIED CARD OF 'laws.FnExactGoodPosition'. -/
def fnExactGoodPositionCard : Claim7 := { stood := { row := fnExactGoodPositionRow, standIns := [], harness := (true, "6de3b8607db2623354fbba34c7f605ef5c6096bda5b2b0895630bb7812279f0b"), looks := true }, kinds := [], alts := [], laidByText := true, laidKinds := [.data, .pinned], laidTests := true, laidLooks := .later }
def FnExactGoodPositionCardSaid : Prop := Claim7.holds Tryd.pinned (.plain (OpenSpec.ofChange fnExactGoodPositionSpec)) fnExactGoodPositionCard

/-- THE TIED CARD OF 'laws.FnExactTurnPosition'. -/
def fnExactTurnPositionCard : Claim7 := { stood := { row := fnExactTurnPositionRow, standIns := [], harness := (true, "6de3b8607db2623354fbba34c7f605ef5c6096bda5b2b0895630bb7812279f0b"), looks := true }, kinds := [], alts := [], laidByText := true, laidKinds := [.data, .pinned], laidTests := true, laidLooks := .later }
def FnExactTurnPositionCardSaid : Prop := Claim7.holds Tryd.pinned (.plain (OpenSpec.ofChange fnExactTurnPositionSpec)) fnExactTurnPositionCard

/-- THE TIED CARD OF 'laws.FnExactStarForm'. -/
def fnExactStarFormCard : Claim7 := { stood := { row := fnExactStarFormRow, standIns := [], harness := (true, "6de3b8607db2623354fbba34c7f605ef5c6096bda5b2b0895630bb7812279f0b"), looks := true }, kinds := [], alts := [], laidByText := true, laidKinds := [.data, .data, .data], laidTests := true, laidLooks := .later }
def FnExactStarFormCardSaid : Prop := Claim7.holds Tryd.pinned (.plain (OpenSpec.ofChange fnExactStarFormSpec)) fnExactStarFormCard

/-- THE SECOND FORM's CARD OF 'laws.FnExactTreeCuts'. -/
def fnExactTreeCutsUptoCard : Claim7 := { stood := { row := fnExactTreeCutsUptoRow, standIns := [], harness := (true, "6de3b8607db2623354fbba34c7f605ef5c6096bda5b2b0895630bb7812279f0b"), looks := true }, kinds := [], alts := [], laidByText := true, laidKinds := [.data, .pinned], laidTests := true, laidLooks := .later }
def FnExactTreeCutsUptoCardSaid : Prop := Claim7.holds Tryd.pinned (.plain (OpenSpec.upto fnExactTreeCutsSpec)) fnExactTreeCutsUptoCard

/-- THE SECOND FORM's CARD OF 'laws.FnCuts'. -/
def fnCutsUptoCard : Claim7 := { stood := { row := fnCutsUptoRow, standIns := [], harness := (true, "6de3b8607db2623354fbba34c7f605ef5c6096bda5b2b0895630bb7812279f0b"), looks := true }, kinds := [], alts := [], laidByText := true, laidKinds := [.data, .pinned], laidTests := true, laidLooks := .later }
def FnCutsUptoCardSaid : Prop := Claim7.holds Tryd.pinned (.plain (OpenSpec.upto fnCutsSpec)) fnCutsUptoCard

/-- THE SECOND FORM's CARD OF 'laws.FnStalks'. -/
def fnStalksUptoCard : Claim7 := { stood := { row := fnStalksUptoRow, standIns := [], harness := (true, "6de3b8607db2623354fbba34c7f605ef5c6096bda5b2b0895630bb7812279f0b"), looks := true }, kinds := [], alts := [], laidByText := true, laidKinds := [.data, .pinned], laidTests := true, laidLooks := .later }
def FnStalksUptoCardSaid : Prop := Claim7.holds Tryd.pinned (.plain (OpenSpec.upto fnStalksSpec)) fnStalksUptoCard

/-- THE SECOND FORM's CARD OF 'laws.FnExactBoardParts'. -/
def fnExactBoardPartsUptoCard : Claim7 := { stood := { row := fnExactBoardPartsUptoRow, standIns := [], harness := (true, "6de3b8607db2623354fbba34c7f605ef5c6096bda5b2b0895630bb7812279f0b"), looks := true }, kinds := [], alts := [], laidByText := true, laidKinds := [.data, .pinned], laidTests := true, laidLooks := .later }
def FnExactBoardPartsUptoCardSaid : Prop := Claim7.holds Tryd.pinned (.plain (OpenSpec.upto fnExactBoardPartsSpec)) fnExactBoardPartsUptoCard

/-- THE SECOND FORM's CARD OF 'laws.FnExactLongestStrip'. -/
def fnExactLongestStripUptoCard : Claim7 := { stood := { row := fnExactLongestStripUptoRow, standIns := [], harness := (true, "6de3b8607db2623354fbba34c7f605ef5c6096bda5b2b0895630bb7812279f0b"), looks := true }, kinds := [], alts := [], laidByText := true, laidKinds := [.data, .pinned], laidTests := true, laidLooks := .later }
def FnExactLongestStripUptoCardSaid : Prop := Claim7.holds Tryd.pinned (.plain (OpenSpec.upto fnExactLongestStripSpec)) fnExactLongestStripUptoCard

/-- THE SECOND FORM's CARD OF 'laws.FnStripLong'. -/
def fnStripLongUptoCard : Claim7 := { stood := { row := fnStripLongUptoRow, standIns := [], harness := (true, "6de3b8607db2623354fbba34c7f605ef5c6096bda5b2b0895630bb7812279f0b"), looks := true }, kinds := [], alts := [], laidByText := true, laidKinds := [.data, .pinned], laidTests := true, laidLooks := .later }
def FnStripLongUptoCardSaid : Prop := Claim7.holds Tryd.pinned (.plain (OpenSpec.upto fnStripLongSpec)) fnStripLongUptoCard

/-- THE SECOND FORM's CARD OF 'laws.FnExactReadPeriod'. -/
def fnExactReadPeriodUptoCard : Claim7 := { stood := { row := fnExactReadPeriodUptoRow, standIns := [], harness := (true, "6de3b8607db2623354fbba34c7f605ef5c6096bda5b2b0895630bb7812279f0b"), looks := true }, kinds := [], alts := [], laidByText := true, laidKinds := [.data, .data, .data, .sentinel, .sentinel], laidTests := true, laidLooks := .later }
def FnExactReadPeriodUptoCardSaid : Prop := Claim7.holds Tryd.pinned (.plain (OpenSpec.upto fnExactReadPeriodSpec)) fnExactReadPeriodUptoCard

/-- THE SECOND FORM's CARD OF 'laws.FnPeriodTexts'. -/
def fnPeriodTextsUptoCard : Claim7 := { stood := { row := fnPeriodTextsUptoRow, standIns := [], harness := (true, "6de3b8607db2623354fbba34c7f605ef5c6096bda5b2b0895630bb7812279f0b"), looks := true }, kinds := [], alts := [], laidByText := true, laidKinds := [.data, .data, .data, .sentinel, .sentinel], laidTests := true, laidLooks := .later }
def FnPeriodTextsUptoCardSaid : Prop := Claim7.holds Tryd.pinned (.plain (OpenSpec.upto fnPeriodTextsSpec)) fnPeriodTextsUptoCard

/-- THE SECOND FORM's CARD OF 'laws.FnExactGoodPosition'. -/
def fnExactGoodPositionUptoCard : Claim7 := { stood := { row := fnExactGoodPositionUptoRow, standIns := [], harness := (true, "6de3b8607db2623354fbba34c7f605ef5c6096bda5b2b0895630bb7812279f0b"), looks := true }, kinds := [], alts := [], laidByText := true, laidKinds := [.data, .pinned], laidTests := true, laidLooks := .later }
def FnExactGoodPositionUptoCardSaid : Prop := Claim7.holds Tryd.pinned (.plain (OpenSpec.upto fnExactGoodPositionSpec)) fnExactGoodPositionUptoCard

/-- THE SECOND FORM's CARD OF 'laws.FnExactTurnPosition'. -/
def fnExactTurnPositionUptoCard : Claim7 := { stood := { row := fnExactTurnPositionUptoRow, standIns := [], harness := (true, "6de3b8607db2623354fbba34c7f605ef5c6096bda5b2b0895630bb7812279f0b"), looks := true }, kinds := [], alts := [], laidByText := true, laidKinds := [.data, .pinned], laidTests := true, laidLooks := .later }
def FnExactTurnPositionUptoCardSaid : Prop := Claim7.holds Tryd.pinned (.plain (OpenSpec.upto fnExactTurnPositionSpec)) fnExactTurnPositionUptoCard

/-- THE SECOND FORM's CARD OF 'laws.FnExactStarForm'. -/
def fnExactStarFormUptoCard : Claim7 := { stood := { row := fnExactStarFormUptoRow, standIns := [], harness := (true, "6de3b8607db2623354fbba34c7f605ef5c6096bda5b2b0895630bb7812279f0b"), looks := true }, kinds := [], alts := [], laidByText := true, laidKinds := [.data, .data, .data], laidTests := true, laidLooks := .later }
def FnExactStarFormUptoCardSaid : Prop := Claim7.holds Tryd.pinned (.plain (OpenSpec.upto fnExactStarFormSpec)) fnExactStarFormUptoCard
end Rows
end Go.Proofs.YtadljglcbieifaaDoor
