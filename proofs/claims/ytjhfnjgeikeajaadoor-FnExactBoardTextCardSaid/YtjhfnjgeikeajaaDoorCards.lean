/-
  DERIVED. GIVEN WITH THE SEED: THE CARDS: each row of YtjhfnjgeikeajaaDoorRows.lean that lists a variable, with what it lists TIED to the program's text (the seventh form; the later family's looks); each row that meets fmt, with fmt's text TOLD by the authors' own Lean function (tested against real Go, not proved from fmt's source: count such statements apart). THE CARD IS WHAT COUNTS. Prove the row's statement (the work); the ties are given (YtjhfnjgeikeajaaDoorTie.lean); close each card by the builder's one call (the guide's Derived/Test/ToyasCard.lean, 'card_holds'). Laid BY PROGRAM, IN A SANDBOX (cutbox-door.mjs). By AI agents, Wed Nov 11 2026. No macro, syntax, notation, axiom, sorry.
-/
import Derived.Test.YtjhfnjgeikeajaaDoorRows
import GoSem.ClaimSeven
namespace Go.Proofs.YtjhfnjgeikeajaaDoor
namespace Rows

/-- THE TIED CARD OF 'laws.FnExactGoodStalk'. -/
def fnExactGoodStalkCard : Claim7 := { stood := { row := fnExactGoodStalkRow, standIns := [], harness := (true, "5a828e11ddeca7ababf2638483d69a1cc74837ff2e660019445a188546bee07c"), looks := false }, kinds := [], alts := [], laidByText := true, laidKinds := [.data, .pinned], laidTests := true, laidLooks := .later }
def FnExactGoodStalkCardSaid : Prop := Claim7.holds Tryd.pinned (.plain (OpenSpec.ofChange fnExactGoodStalkSpec)) fnExactGoodStalkCard

/-- THE TIED CARD OF 'laws.FnExactGoodStrip'. -/
def fnExactGoodStripCard : Claim7 := { stood := { row := fnExactGoodStripRow, standIns := [], harness := (true, "5a828e11ddeca7ababf2638483d69a1cc74837ff2e660019445a188546bee07c"), looks := false }, kinds := [], alts := [], laidByText := true, laidKinds := [.data, .pinned], laidTests := true, laidLooks := .later }
def FnExactGoodStripCardSaid : Prop := Claim7.holds Tryd.pinned (.plain (OpenSpec.ofChange fnExactGoodStripSpec)) fnExactGoodStripCard

/-- THE TIED CARD OF 'laws.FnExactMirrorStrip'. -/
def fnExactMirrorStripCard : Claim7 := { stood := { row := fnExactMirrorStripRow, standIns := [], harness := (true, "5a828e11ddeca7ababf2638483d69a1cc74837ff2e660019445a188546bee07c"), looks := false }, kinds := [], alts := [], laidByText := true, laidKinds := [.data, .pinned], laidTests := true, laidLooks := .later }
def FnExactMirrorStripCardSaid : Prop := Claim7.holds Tryd.pinned (.plain (OpenSpec.ofChange fnExactMirrorStripSpec)) fnExactMirrorStripCard

/-- THE TIED CARD OF 'laws.FnExactGoodBoard'. -/
def fnExactGoodBoardCard : Claim7 := { stood := { row := fnExactGoodBoardRow, standIns := [], harness := (true, "5a828e11ddeca7ababf2638483d69a1cc74837ff2e660019445a188546bee07c"), looks := false }, kinds := [], alts := [], laidByText := true, laidKinds := [.data, .pinned], laidTests := true, laidLooks := .later }
def FnExactGoodBoardCardSaid : Prop := Claim7.holds Tryd.pinned (.plain (OpenSpec.ofChange fnExactGoodBoardSpec)) fnExactGoodBoardCard

/-- THE TIED CARD OF 'laws.FnExactStalkTree'. -/
def fnExactStalkTreeCard : Claim7 := { stood := { row := fnExactStalkTreeRow, standIns := [], harness := (true, "5a828e11ddeca7ababf2638483d69a1cc74837ff2e660019445a188546bee07c"), looks := false }, kinds := [], alts := [], laidByText := true, laidKinds := [.data, .pinned], laidTests := true, laidLooks := .later }
def FnExactStalkTreeCardSaid : Prop := Claim7.holds Tryd.pinned (.plain (OpenSpec.ofChange fnExactStalkTreeSpec)) fnExactStalkTreeCard

/-- THE TIED CARD OF 'laws.FnExactGoodTree'. -/
def fnExactGoodTreeCard : Claim7 := { stood := { row := fnExactGoodTreeRow, standIns := [], harness := (true, "5a828e11ddeca7ababf2638483d69a1cc74837ff2e660019445a188546bee07c"), looks := false }, kinds := [], alts := [], laidByText := true, laidKinds := [.data, .pinned], laidTests := true, laidLooks := .later }
def FnExactGoodTreeCardSaid : Prop := Claim7.holds Tryd.pinned (.plain (OpenSpec.ofChange fnExactGoodTreeSpec)) fnExactGoodTreeCard

/-- THE TIED CARD OF 'laws.FnExactTurnStrip'. -/
def fnExactTurnStripCard : Claim7 := { stood := { row := fnExactTurnStripRow, standIns := [], harness := (true, "5a828e11ddeca7ababf2638483d69a1cc74837ff2e660019445a188546bee07c"), looks := false }, kinds := [], alts := [], laidByText := true, laidKinds := [.data, .pinned], laidTests := true, laidLooks := .later }
def FnExactTurnStripCardSaid : Prop := Claim7.holds Tryd.pinned (.plain (OpenSpec.ofChange fnExactTurnStripSpec)) fnExactTurnStripCard

/-- THE TIED CARD OF 'laws.FnExactStripOver'. -/
def fnExactStripOverCard : Claim7 := { stood := { row := fnExactStripOverRow, standIns := [], harness := (true, "5a828e11ddeca7ababf2638483d69a1cc74837ff2e660019445a188546bee07c"), looks := false }, kinds := [], alts := [], laidByText := true, laidKinds := [.data, .pinned], laidTests := true, laidLooks := .later }
def FnExactStripOverCardSaid : Prop := Claim7.holds Tryd.pinned (.plain (OpenSpec.ofChange fnExactStripOverSpec)) fnExactStripOverCard

/-- THE TIED CARD OF 'laws.FnExactTurnBoard'. -/
def fnExactTurnBoardCard : Claim7 := { stood := { row := fnExactTurnBoardRow, standIns := [], harness := (true, "5a828e11ddeca7ababf2638483d69a1cc74837ff2e660019445a188546bee07c"), looks := false }, kinds := [], alts := [], laidByText := true, laidKinds := [.data, .pinned], laidTests := true, laidLooks := .later }
def FnExactTurnBoardCardSaid : Prop := Claim7.holds Tryd.pinned (.plain (OpenSpec.ofChange fnExactTurnBoardSpec)) fnExactTurnBoardCard

/-- THE TIED CARD OF 'laws.FnExactBoardText'. -/
def fnExactBoardTextCard : Claim7 := { stood := { row := fnExactBoardTextRow, standIns := [], harness := (true, "5a828e11ddeca7ababf2638483d69a1cc74837ff2e660019445a188546bee07c"), looks := false }, kinds := [], alts := [], laidByText := true, laidKinds := [.data, .pinned], laidTests := true, laidLooks := .later }
def FnExactBoardTextCardSaid : Prop := Claim7.holds Tryd.pinned (.plain (OpenSpec.ofChange fnExactBoardTextSpec)) fnExactBoardTextCard

/-- THE TIED CARD OF 'laws.FnExactMirrorBoard'. -/
def fnExactMirrorBoardCard : Claim7 := { stood := { row := fnExactMirrorBoardRow, standIns := [], harness := (true, "5a828e11ddeca7ababf2638483d69a1cc74837ff2e660019445a188546bee07c"), looks := false }, kinds := [], alts := [], laidByText := true, laidKinds := [.data, .pinned], laidTests := true, laidLooks := .later }
def FnExactMirrorBoardCardSaid : Prop := Claim7.holds Tryd.pinned (.plain (OpenSpec.ofChange fnExactMirrorBoardSpec)) fnExactMirrorBoardCard

/-- THE TIED CARD OF 'laws.FnExactStripMoves'. -/
def fnExactStripMovesCard : Claim7 := { stood := { row := fnExactStripMovesRow, standIns := [], harness := (true, "5a828e11ddeca7ababf2638483d69a1cc74837ff2e660019445a188546bee07c"), looks := false }, kinds := [], alts := [], laidByText := true, laidKinds := [.data, .pinned], laidTests := true, laidLooks := .later }
def FnExactStripMovesCardSaid : Prop := Claim7.holds Tryd.pinned (.plain (OpenSpec.ofChange fnExactStripMovesSpec)) fnExactStripMovesCard

/-- THE SECOND FORM's CARD OF 'laws.FnExactGoodStalk'. -/
def fnExactGoodStalkUptoCard : Claim7 := { stood := { row := fnExactGoodStalkUptoRow, standIns := [], harness := (true, "5a828e11ddeca7ababf2638483d69a1cc74837ff2e660019445a188546bee07c"), looks := false }, kinds := [], alts := [], laidByText := true, laidKinds := [.data, .pinned], laidTests := true, laidLooks := .later }
def FnExactGoodStalkUptoCardSaid : Prop := Claim7.holds Tryd.pinned (.plain (OpenSpec.upto fnExactGoodStalkSpec)) fnExactGoodStalkUptoCard

/-- THE SECOND FORM's CARD OF 'laws.FnExactGoodStrip'. -/
def fnExactGoodStripUptoCard : Claim7 := { stood := { row := fnExactGoodStripUptoRow, standIns := [], harness := (true, "5a828e11ddeca7ababf2638483d69a1cc74837ff2e660019445a188546bee07c"), looks := false }, kinds := [], alts := [], laidByText := true, laidKinds := [.data, .pinned], laidTests := true, laidLooks := .later }
def FnExactGoodStripUptoCardSaid : Prop := Claim7.holds Tryd.pinned (.plain (OpenSpec.upto fnExactGoodStripSpec)) fnExactGoodStripUptoCard

/-- THE SECOND FORM's CARD OF 'laws.FnExactMirrorStrip'. -/
def fnExactMirrorStripUptoCard : Claim7 := { stood := { row := fnExactMirrorStripUptoRow, standIns := [], harness := (true, "5a828e11ddeca7ababf2638483d69a1cc74837ff2e660019445a188546bee07c"), looks := false }, kinds := [], alts := [], laidByText := true, laidKinds := [.data, .pinned], laidTests := true, laidLooks := .later }
def FnExactMirrorStripUptoCardSaid : Prop := Claim7.holds Tryd.pinned (.plain (OpenSpec.upto fnExactMirrorStripSpec)) fnExactMirrorStripUptoCard

/-- THE SECOND FORM's CARD OF 'laws.FnExactGoodBoard'. -/
def fnExactGoodBoardUptoCard : Claim7 := { stood := { row := fnExactGoodBoardUptoRow, standIns := [], harness := (true, "5a828e11ddeca7ababf2638483d69a1cc74837ff2e660019445a188546bee07c"), looks := false }, kinds := [], alts := [], laidByText := true, laidKinds := [.data, .pinned], laidTests := true, laidLooks := .later }
def FnExactGoodBoardUptoCardSaid : Prop := Claim7.holds Tryd.pinned (.plain (OpenSpec.upto fnExactGoodBoardSpec)) fnExactGoodBoardUptoCard

/-- THE SECOND FORM's CARD OF 'laws.FnExactStalkTree'. -/
def fnExactStalkTreeUptoCard : Claim7 := { stood := { row := fnExactStalkTreeUptoRow, standIns := [], harness := (true, "5a828e11ddeca7ababf2638483d69a1cc74837ff2e660019445a188546bee07c"), looks := false }, kinds := [], alts := [], laidByText := true, laidKinds := [.data, .pinned], laidTests := true, laidLooks := .later }
def FnExactStalkTreeUptoCardSaid : Prop := Claim7.holds Tryd.pinned (.plain (OpenSpec.upto fnExactStalkTreeSpec)) fnExactStalkTreeUptoCard

/-- THE SECOND FORM's CARD OF 'laws.FnExactGoodTree'. -/
def fnExactGoodTreeUptoCard : Claim7 := { stood := { row := fnExactGoodTreeUptoRow, standIns := [], harness := (true, "5a828e11ddeca7ababf2638483d69a1cc74837ff2e660019445a188546bee07c"), looks := false }, kinds := [], alts := [], laidByText := true, laidKinds := [.data, .pinned], laidTests := true, laidLooks := .later }
def FnExactGoodTreeUptoCardSaid : Prop := Claim7.holds Tryd.pinned (.plain (OpenSpec.upto fnExactGoodTreeSpec)) fnExactGoodTreeUptoCard

/-- THE SECOND FORM's CARD OF 'laws.FnExactTurnStrip'. -/
def fnExactTurnStripUptoCard : Claim7 := { stood := { row := fnExactTurnStripUptoRow, standIns := [], harness := (true, "5a828e11ddeca7ababf2638483d69a1cc74837ff2e660019445a188546bee07c"), looks := false }, kinds := [], alts := [], laidByText := true, laidKinds := [.data, .pinned], laidTests := true, laidLooks := .later }
def FnExactTurnStripUptoCardSaid : Prop := Claim7.holds Tryd.pinned (.plain (OpenSpec.upto fnExactTurnStripSpec)) fnExactTurnStripUptoCard

/-- THE SECOND FORM's CARD OF 'laws.FnExactStripOver'. -/
def fnExactStripOverUptoCard : Claim7 := { stood := { row := fnExactStripOverUptoRow, standIns := [], harness := (true, "5a828e11ddeca7ababf2638483d69a1cc74837ff2e660019445a188546bee07c"), looks := false }, kinds := [], alts := [], laidByText := true, laidKinds := [.data, .pinned], laidTests := true, laidLooks := .later }
def FnExactStripOverUptoCardSaid : Prop := Claim7.holds Tryd.pinned (.plain (OpenSpec.upto fnExactStripOverSpec)) fnExactStripOverUptoCard

/-- THE SECOND FORM's CARD OF 'laws.FnExactTurnBoard'. -/
def fnExactTurnBoardUptoCard : Claim7 := { stood := { row := fnExactTurnBoardUptoRow, standIns := [], harness := (true, "5a828e11ddeca7ababf2638483d69a1cc74837ff2e660019445a188546bee07c"), looks := false }, kinds := [], alts := [], laidByText := true, laidKinds := [.data, .pinned], laidTests := true, laidLooks := .later }
def FnExactTurnBoardUptoCardSaid : Prop := Claim7.holds Tryd.pinned (.plain (OpenSpec.upto fnExactTurnBoardSpec)) fnExactTurnBoardUptoCard

/-- THE SECOND FORM's CARD OF 'laws.FnExactBoardText'. -/
def fnExactBoardTextUptoCard : Claim7 := { stood := { row := fnExactBoardTextUptoRow, standIns := [], harness := (true, "5a828e11ddeca7ababf2638483d69a1cc74837ff2e660019445a188546bee07c"), looks := false }, kinds := [], alts := [], laidByText := true, laidKinds := [.data, .pinned], laidTests := true, laidLooks := .later }
def FnExactBoardTextUptoCardSaid : Prop := Claim7.holds Tryd.pinned (.plain (OpenSpec.upto fnExactBoardTextSpec)) fnExactBoardTextUptoCard

/-- THE SECOND FORM's CARD OF 'laws.FnExactMirrorBoard'. -/
def fnExactMirrorBoardUptoCard : Claim7 := { stood := { row := fnExactMirrorBoardUptoRow, standIns := [], harness := (true, "5a828e11ddeca7ababf2638483d69a1cc74837ff2e660019445a188546bee07c"), looks := false }, kinds := [], alts := [], laidByText := true, laidKinds := [.data, .pinned], laidTests := true, laidLooks := .later }
def FnExactMirrorBoardUptoCardSaid : Prop := Claim7.holds Tryd.pinned (.plain (OpenSpec.upto fnExactMirrorBoardSpec)) fnExactMirrorBoardUptoCard

/-- THE SECOND FORM's CARD OF 'laws.FnExactStripMoves'. -/
def fnExactStripMovesUptoCard : Claim7 := { stood := { row := fnExactStripMovesUptoRow, standIns := [], harness := (true, "5a828e11ddeca7ababf2638483d69a1cc74837ff2e660019445a188546bee07c"), looks := false }, kinds := [], alts := [], laidByText := true, laidKinds := [.data, .pinned], laidTests := true, laidLooks := .later }
def FnExactStripMovesUptoCardSaid : Prop := Claim7.holds Tryd.pinned (.plain (OpenSpec.upto fnExactStripMovesSpec)) fnExactStripMovesUptoCard
end Rows
end Go.Proofs.YtjhfnjgeikeajaaDoor
