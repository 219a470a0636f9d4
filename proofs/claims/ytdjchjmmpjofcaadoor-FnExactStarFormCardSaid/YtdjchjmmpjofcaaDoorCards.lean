/-
  DERIVED. GIVEN WITH THE SEED: THE CARDS: each row of YtdjchjmmpjofcaaDoorRows.lean that lists a variable, with what it lists TIED to the program's text (the seventh form; the later family's looks); each row that meets fmt, with fmt's text TOLD by the authors' own Lean function (tested against real Go, not proved from fmt's source: count such statements apart). THE CARD IS WHAT COUNTS. Prove the row's statement (the work); the ties are given (YtdjchjmmpjofcaaDoorTie.lean); close each card by the builder's one call (the guide's Derived/Test/ToyasCard.lean, 'card_holds'). Laid BY PROGRAM, IN A SANDBOX (cutbox-door.mjs). By AI agents, Wed Nov 11 2026. No macro, syntax, notation, axiom, sorry.
-/
import Derived.Test.YtdjchjmmpjofcaaDoorRows
import GoSem.ClaimSeven
namespace Go.Proofs.YtdjchjmmpjofcaaDoor
namespace Rows

/-- THE TIED CARD OF 'laws.FnExactStarForm'. -/
def fnExactStarFormCard : Claim7 := { stood := { row := fnExactStarFormRow, standIns := [], harness := (true, "d5915132686d6de2f15c4628995eca974bc612480e867c5769eaf62f349d61b8"), looks := false }, kinds := [], alts := [], laidByText := true, laidKinds := [.data, .data, .data], laidTests := true, laidLooks := .later }
def FnExactStarFormCardSaid : Prop := Claim7.holds Tryd.pinned (.plain (OpenSpec.ofChange fnExactStarFormSpec)) fnExactStarFormCard

/-- THE SECOND FORM's CARD OF 'laws.FnExactStarForm'. -/
def fnExactStarFormUptoCard : Claim7 := { stood := { row := fnExactStarFormUptoRow, standIns := [], harness := (true, "d5915132686d6de2f15c4628995eca974bc612480e867c5769eaf62f349d61b8"), looks := false }, kinds := [], alts := [], laidByText := true, laidKinds := [.data, .data, .data], laidTests := true, laidLooks := .later }
def FnExactStarFormUptoCardSaid : Prop := Claim7.holds Tryd.pinned (.plain (OpenSpec.upto fnExactStarFormSpec)) fnExactStarFormUptoCard
end Rows
end Go.Proofs.YtdjchjmmpjofcaaDoor
