/-
  DERIVED. GIVEN WITH THE SEED: THE CARDS: each row of YtmdnbmdkommmkaaDoorRows.lean that lists a variable, with what it lists TIED to the program's text (the seventh form; the later family's looks); each row that meets fmt, with fmt's text TOLD by the authors' own Lean function (tested against real Go, not proved from fmt's source: count such statements apart). THE CARD IS WHAT COUNTS. Prove the row's statement (the work); the ties are given (YtmdnbmdkommmkaaDoorTie.lean); close each card by the builder's one call (the guide's Derived/Test/ToyasCard.lean, 'card_holds'). Laid BY PROGRAM, IN A SANDBOX (cutbox-door.mjs). By AI agents, Wed Nov 11 2026. No macro, syntax, notation, axiom, sorry.
-/
import Derived.Test.YtmdnbmdkommmkaaDoorRows
import GoSem.ClaimSeven
namespace Go.Proofs.YtmdnbmdkommmkaaDoor
namespace Rows

/-- THE TIED CARD OF 'laws.FnExactPeriodText'. -/
def fnExactPeriodTextCard : Claim7 := { stood := { row := fnExactPeriodTextRow, standIns := [], harness := (true, "686efd72a940d95b4b2c71142f42a380748fa2d61732b9dd2a10182d6009e250"), looks := false }, kinds := [], alts := [], laidByText := true, laidKinds := [.data, .data, .data], laidTests := true, laidLooks := .later }
def FnExactPeriodTextCardSaid : Prop := Claim7.holds Tryd.pinned (.plain (OpenSpec.ofChange fnExactPeriodTextSpec)) fnExactPeriodTextCard

/-- THE TIED CARD OF 'laws.FnExactGenusText'. -/
def fnExactGenusTextCard : Claim7 := { stood := { row := fnExactGenusTextRow, standIns := [], harness := (true, "686efd72a940d95b4b2c71142f42a380748fa2d61732b9dd2a10182d6009e250"), looks := false }, kinds := [], alts := [], laidByText := true, laidKinds := [.data, .data, .data], laidTests := true, laidLooks := .later }
def FnExactGenusTextCardSaid : Prop := Claim7.holds Tryd.pinned (.plain (OpenSpec.ofChange fnExactGenusTextSpec)) fnExactGenusTextCard

/-- THE TIED CARD OF 'laws.FnExactStalkTree'. -/
def fnExactStalkTreeCard : Claim7 := { stood := { row := fnExactStalkTreeRow, standIns := [], harness := (true, "686efd72a940d95b4b2c71142f42a380748fa2d61732b9dd2a10182d6009e250"), looks := false }, kinds := [], alts := [], laidByText := true, laidKinds := [.data, .pinned], laidTests := true, laidLooks := .later }
def FnExactStalkTreeCardSaid : Prop := Claim7.holds Tryd.pinned (.plain (OpenSpec.ofChange fnExactStalkTreeSpec)) fnExactStalkTreeCard

/-- THE TIED CARD OF 'laws.FnExactStalkValue'. -/
def fnExactStalkValueCard : Claim7 := { stood := { row := fnExactStalkValueRow, standIns := [], harness := (true, "686efd72a940d95b4b2c71142f42a380748fa2d61732b9dd2a10182d6009e250"), looks := false }, kinds := [], alts := [], laidByText := true, laidKinds := [.data, .pinned], laidTests := true, laidLooks := .later }
def FnExactStalkValueCardSaid : Prop := Claim7.holds Tryd.pinned (.plain (OpenSpec.ofChange fnExactStalkValueSpec)) fnExactStalkValueCard

/-- THE TIED CARD OF 'laws.FnExactTreeCuts'. -/
def fnExactTreeCutsCard : Claim7 := { stood := { row := fnExactTreeCutsRow, standIns := [], harness := (true, "686efd72a940d95b4b2c71142f42a380748fa2d61732b9dd2a10182d6009e250"), looks := false }, kinds := [], alts := [], laidByText := true, laidKinds := [.data, .pinned], laidTests := true, laidLooks := .later }
def FnExactTreeCutsCardSaid : Prop := Claim7.holds Tryd.pinned (.plain (OpenSpec.ofChange fnExactTreeCutsSpec)) fnExactTreeCutsCard

/-- THE TIED CARD OF 'laws.FnCuts'. -/
def fnCutsCard : Claim7 := { stood := { row := fnCutsRow, standIns := [], harness := (true, "686efd72a940d95b4b2c71142f42a380748fa2d61732b9dd2a10182d6009e250"), looks := false }, kinds := [], alts := [], laidByText := true, laidKinds := [.data, .pinned], laidTests := true, laidLooks := .later }
def FnCutsCardSaid : Prop := Claim7.holds Tryd.pinned (.plain (OpenSpec.ofChange fnCutsSpec)) fnCutsCard

/-- THE SECOND FORM's CARD OF 'laws.FnExactPeriodText'. -/
def fnExactPeriodTextUptoCard : Claim7 := { stood := { row := fnExactPeriodTextUptoRow, standIns := [], harness := (true, "686efd72a940d95b4b2c71142f42a380748fa2d61732b9dd2a10182d6009e250"), looks := false }, kinds := [], alts := [], laidByText := true, laidKinds := [.data, .data, .data], laidTests := true, laidLooks := .later }
def FnExactPeriodTextUptoCardSaid : Prop := Claim7.holds Tryd.pinned (.plain (OpenSpec.upto fnExactPeriodTextSpec)) fnExactPeriodTextUptoCard

/-- THE SECOND FORM's CARD OF 'laws.FnExactGenusText'. -/
def fnExactGenusTextUptoCard : Claim7 := { stood := { row := fnExactGenusTextUptoRow, standIns := [], harness := (true, "686efd72a940d95b4b2c71142f42a380748fa2d61732b9dd2a10182d6009e250"), looks := false }, kinds := [], alts := [], laidByText := true, laidKinds := [.data, .data, .data], laidTests := true, laidLooks := .later }
def FnExactGenusTextUptoCardSaid : Prop := Claim7.holds Tryd.pinned (.plain (OpenSpec.upto fnExactGenusTextSpec)) fnExactGenusTextUptoCard

/-- THE SECOND FORM's CARD OF 'laws.FnExactStalkTree'. -/
def fnExactStalkTreeUptoCard : Claim7 := { stood := { row := fnExactStalkTreeUptoRow, standIns := [], harness := (true, "686efd72a940d95b4b2c71142f42a380748fa2d61732b9dd2a10182d6009e250"), looks := false }, kinds := [], alts := [], laidByText := true, laidKinds := [.data, .pinned], laidTests := true, laidLooks := .later }
def FnExactStalkTreeUptoCardSaid : Prop := Claim7.holds Tryd.pinned (.plain (OpenSpec.upto fnExactStalkTreeSpec)) fnExactStalkTreeUptoCard

/-- THE SECOND FORM's CARD OF 'laws.FnExactStalkValue'. -/
def fnExactStalkValueUptoCard : Claim7 := { stood := { row := fnExactStalkValueUptoRow, standIns := [], harness := (true, "686efd72a940d95b4b2c71142f42a380748fa2d61732b9dd2a10182d6009e250"), looks := false }, kinds := [], alts := [], laidByText := true, laidKinds := [.data, .pinned], laidTests := true, laidLooks := .later }
def FnExactStalkValueUptoCardSaid : Prop := Claim7.holds Tryd.pinned (.plain (OpenSpec.upto fnExactStalkValueSpec)) fnExactStalkValueUptoCard

/-- THE SECOND FORM's CARD OF 'laws.FnExactTreeCuts'. -/
def fnExactTreeCutsUptoCard : Claim7 := { stood := { row := fnExactTreeCutsUptoRow, standIns := [], harness := (true, "686efd72a940d95b4b2c71142f42a380748fa2d61732b9dd2a10182d6009e250"), looks := false }, kinds := [], alts := [], laidByText := true, laidKinds := [.data, .pinned], laidTests := true, laidLooks := .later }
def FnExactTreeCutsUptoCardSaid : Prop := Claim7.holds Tryd.pinned (.plain (OpenSpec.upto fnExactTreeCutsSpec)) fnExactTreeCutsUptoCard

/-- THE SECOND FORM's CARD OF 'laws.FnCuts'. -/
def fnCutsUptoCard : Claim7 := { stood := { row := fnCutsUptoRow, standIns := [], harness := (true, "686efd72a940d95b4b2c71142f42a380748fa2d61732b9dd2a10182d6009e250"), looks := false }, kinds := [], alts := [], laidByText := true, laidKinds := [.data, .pinned], laidTests := true, laidLooks := .later }
def FnCutsUptoCardSaid : Prop := Claim7.holds Tryd.pinned (.plain (OpenSpec.upto fnCutsSpec)) fnCutsUptoCard
end Rows
end Go.Proofs.YtmdnbmdkommmkaaDoor
