/-
  DERIVED. GIVEN WITH THE SEED: THE CARDS: each row of YtpepkpikeggceaaDoorRows.lean that lists a variable, with what it lists TIED to the program's text (the seventh form; the later family's looks); each row that meets fmt, with fmt's text TOLD by the authors' own Lean function (tested against real Go, not proved from fmt's source: count such statements apart). THE CARD IS WHAT COUNTS. Prove the row's statement (the work); the ties are given (YtpepkpikeggceaaDoorTie.lean); close each card by the builder's one call (the guide's Derived/Test/ToyasCard.lean, 'card_holds'). Laid BY PROGRAM, IN A SANDBOX (cutbox-door.mjs). By AI agents, Wed Nov 11 2026. No macro, syntax, notation, axiom, sorry.
-/
import Derived.Test.YtpepkpikeggceaaDoorRows
import GoSem.ClaimSeven
namespace Go.Proofs.YtpepkpikeggceaaDoor
namespace Rows

/-- THE TIED CARD OF 'laws.FnExactGoodPosition'. -/
def fnExactGoodPositionCard : Claim7 := { stood := { row := fnExactGoodPositionRow, standIns := [], harness := (true, "55ed1d2c30da525c5e0e4720061c7978241b0fb80933783b7ba699f79f5a7d86"), looks := false }, kinds := [], alts := [], laidByText := true, laidKinds := [.data, .pinned], laidTests := true, laidLooks := .later }
def FnExactGoodPositionCardSaid : Prop := Claim7.holds Tryd.pinned (.plain (OpenSpec.ofChange fnExactGoodPositionSpec)) fnExactGoodPositionCard

/-- THE TIED CARD OF 'laws.FnExactTurnPosition'. -/
def fnExactTurnPositionCard : Claim7 := { stood := { row := fnExactTurnPositionRow, standIns := [], harness := (true, "55ed1d2c30da525c5e0e4720061c7978241b0fb80933783b7ba699f79f5a7d86"), looks := false }, kinds := [], alts := [], laidByText := true, laidKinds := [.data, .pinned], laidTests := true, laidLooks := .later }
def FnExactTurnPositionCardSaid : Prop := Claim7.holds Tryd.pinned (.plain (OpenSpec.ofChange fnExactTurnPositionSpec)) fnExactTurnPositionCard

/-- THE SECOND FORM's CARD OF 'laws.FnExactGoodPosition'. -/
def fnExactGoodPositionUptoCard : Claim7 := { stood := { row := fnExactGoodPositionUptoRow, standIns := [], harness := (true, "55ed1d2c30da525c5e0e4720061c7978241b0fb80933783b7ba699f79f5a7d86"), looks := false }, kinds := [], alts := [], laidByText := true, laidKinds := [.data, .pinned], laidTests := true, laidLooks := .later }
def FnExactGoodPositionUptoCardSaid : Prop := Claim7.holds Tryd.pinned (.plain (OpenSpec.upto fnExactGoodPositionSpec)) fnExactGoodPositionUptoCard

/-- THE SECOND FORM's CARD OF 'laws.FnExactTurnPosition'. -/
def fnExactTurnPositionUptoCard : Claim7 := { stood := { row := fnExactTurnPositionUptoRow, standIns := [], harness := (true, "55ed1d2c30da525c5e0e4720061c7978241b0fb80933783b7ba699f79f5a7d86"), looks := false }, kinds := [], alts := [], laidByText := true, laidKinds := [.data, .pinned], laidTests := true, laidLooks := .later }
def FnExactTurnPositionUptoCardSaid : Prop := Claim7.holds Tryd.pinned (.plain (OpenSpec.upto fnExactTurnPositionSpec)) fnExactTurnPositionUptoCard
end Rows
end Go.Proofs.YtpepkpikeggceaaDoor
