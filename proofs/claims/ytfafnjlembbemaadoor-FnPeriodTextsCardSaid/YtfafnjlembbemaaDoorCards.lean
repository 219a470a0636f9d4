/-
  DERIVED. GIVEN WITH THE SEED: THE CARDS: each row of YtfafnjlembbemaaDoorRows.lean that lists a variable, with what it lists TIED to the program's text (the seventh form; the later family's looks); each row that meets fmt, with fmt's text TOLD by the authors' own Lean function (tested against real Go, not proved from fmt's source: count such statements apart). THE CARD IS WHAT COUNTS. Prove the row's statement (the work); the ties are given (YtfafnjlembbemaaDoorTie.lean); close each card by the builder's one call (the guide's Derived/Test/ToyasCard.lean, 'card_holds'). Laid BY PROGRAM, IN A SANDBOX (cutbox-door.mjs). By AI agents, Wed Nov 11 2026. No macro, syntax, notation, axiom, sorry.
-/
import Derived.Test.YtfafnjlembbemaaDoorRows
import GoSem.ClaimSeven
namespace Go.Proofs.YtfafnjlembbemaaDoor
namespace Rows

/-- THE TIED CARD OF 'laws.FnExactReadPeriod'. -/
def fnExactReadPeriodCard : Claim7 := { stood := { row := fnExactReadPeriodRow, standIns := [], harness := (true, "e7e67d052a2cfa4c73e36d5683a54180ebd0ba5b2c7bd2bce77655d99bf66d93"), looks := true }, kinds := [], alts := [], laidByText := true, laidKinds := [.data, .data, .data, .sentinel, .sentinel], laidTests := true, laidLooks := .later }
def FnExactReadPeriodCardSaid : Prop := Claim7.holds Tryd.pinned (.plain (OpenSpec.ofChange fnExactReadPeriodSpec)) fnExactReadPeriodCard

/-- THE TIED CARD OF 'laws.FnExactGoodPosition'. -/
def fnExactGoodPositionCard : Claim7 := { stood := { row := fnExactGoodPositionRow, standIns := [], harness := (true, "e7e67d052a2cfa4c73e36d5683a54180ebd0ba5b2c7bd2bce77655d99bf66d93"), looks := true }, kinds := [], alts := [], laidByText := true, laidKinds := [.data, .pinned], laidTests := true, laidLooks := .later }
def FnExactGoodPositionCardSaid : Prop := Claim7.holds Tryd.pinned (.plain (OpenSpec.ofChange fnExactGoodPositionSpec)) fnExactGoodPositionCard

/-- THE TIED CARD OF 'laws.FnPeriodTexts'. -/
def fnPeriodTextsCard : Claim7 := { stood := { row := fnPeriodTextsRow, standIns := [], harness := (true, "e7e67d052a2cfa4c73e36d5683a54180ebd0ba5b2c7bd2bce77655d99bf66d93"), looks := true }, kinds := [], alts := [], laidByText := true, laidKinds := [.data, .data, .data, .sentinel, .sentinel], laidTests := true, laidLooks := .later }
def FnPeriodTextsCardSaid : Prop := Claim7.holds Tryd.pinned (.plain (OpenSpec.ofChange fnPeriodTextsSpec)) fnPeriodTextsCard

/-- THE TIED CARD OF 'laws.FnExactTurnPosition'. -/
def fnExactTurnPositionCard : Claim7 := { stood := { row := fnExactTurnPositionRow, standIns := [], harness := (true, "e7e67d052a2cfa4c73e36d5683a54180ebd0ba5b2c7bd2bce77655d99bf66d93"), looks := true }, kinds := [], alts := [], laidByText := true, laidKinds := [.data, .pinned], laidTests := true, laidLooks := .later }
def FnExactTurnPositionCardSaid : Prop := Claim7.holds Tryd.pinned (.plain (OpenSpec.ofChange fnExactTurnPositionSpec)) fnExactTurnPositionCard

/-- THE TIED CARD OF 'laws.FnExactStarForm'. -/
def fnExactStarFormCard : Claim7 := { stood := { row := fnExactStarFormRow, standIns := [], harness := (true, "e7e67d052a2cfa4c73e36d5683a54180ebd0ba5b2c7bd2bce77655d99bf66d93"), looks := true }, kinds := [], alts := [], laidByText := true, laidKinds := [.data, .data, .data], laidTests := true, laidLooks := .later }
def FnExactStarFormCardSaid : Prop := Claim7.holds Tryd.pinned (.plain (OpenSpec.ofChange fnExactStarFormSpec)) fnExactStarFormCard

/-- THE SECOND FORM's CARD OF 'laws.FnExactReadPeriod'. -/
def fnExactReadPeriodUptoCard : Claim7 := { stood := { row := fnExactReadPeriodUptoRow, standIns := [], harness := (true, "e7e67d052a2cfa4c73e36d5683a54180ebd0ba5b2c7bd2bce77655d99bf66d93"), looks := true }, kinds := [], alts := [], laidByText := true, laidKinds := [.data, .data, .data, .sentinel, .sentinel], laidTests := true, laidLooks := .later }
def FnExactReadPeriodUptoCardSaid : Prop := Claim7.holds Tryd.pinned (.plain (OpenSpec.upto fnExactReadPeriodSpec)) fnExactReadPeriodUptoCard

/-- THE SECOND FORM's CARD OF 'laws.FnExactGoodPosition'. -/
def fnExactGoodPositionUptoCard : Claim7 := { stood := { row := fnExactGoodPositionUptoRow, standIns := [], harness := (true, "e7e67d052a2cfa4c73e36d5683a54180ebd0ba5b2c7bd2bce77655d99bf66d93"), looks := true }, kinds := [], alts := [], laidByText := true, laidKinds := [.data, .pinned], laidTests := true, laidLooks := .later }
def FnExactGoodPositionUptoCardSaid : Prop := Claim7.holds Tryd.pinned (.plain (OpenSpec.upto fnExactGoodPositionSpec)) fnExactGoodPositionUptoCard

/-- THE SECOND FORM's CARD OF 'laws.FnPeriodTexts'. -/
def fnPeriodTextsUptoCard : Claim7 := { stood := { row := fnPeriodTextsUptoRow, standIns := [], harness := (true, "e7e67d052a2cfa4c73e36d5683a54180ebd0ba5b2c7bd2bce77655d99bf66d93"), looks := true }, kinds := [], alts := [], laidByText := true, laidKinds := [.data, .data, .data, .sentinel, .sentinel], laidTests := true, laidLooks := .later }
def FnPeriodTextsUptoCardSaid : Prop := Claim7.holds Tryd.pinned (.plain (OpenSpec.upto fnPeriodTextsSpec)) fnPeriodTextsUptoCard

/-- THE SECOND FORM's CARD OF 'laws.FnExactTurnPosition'. -/
def fnExactTurnPositionUptoCard : Claim7 := { stood := { row := fnExactTurnPositionUptoRow, standIns := [], harness := (true, "e7e67d052a2cfa4c73e36d5683a54180ebd0ba5b2c7bd2bce77655d99bf66d93"), looks := true }, kinds := [], alts := [], laidByText := true, laidKinds := [.data, .pinned], laidTests := true, laidLooks := .later }
def FnExactTurnPositionUptoCardSaid : Prop := Claim7.holds Tryd.pinned (.plain (OpenSpec.upto fnExactTurnPositionSpec)) fnExactTurnPositionUptoCard

/-- THE SECOND FORM's CARD OF 'laws.FnExactStarForm'. -/
def fnExactStarFormUptoCard : Claim7 := { stood := { row := fnExactStarFormUptoRow, standIns := [], harness := (true, "e7e67d052a2cfa4c73e36d5683a54180ebd0ba5b2c7bd2bce77655d99bf66d93"), looks := true }, kinds := [], alts := [], laidByText := true, laidKinds := [.data, .data, .data], laidTests := true, laidLooks := .later }
def FnExactStarFormUptoCardSaid : Prop := Claim7.holds Tryd.pinned (.plain (OpenSpec.upto fnExactStarFormSpec)) fnExactStarFormUptoCard
end Rows
end Go.Proofs.YtfafnjlembbemaaDoor
