/-
  DERIVED. GIVEN WITH THE SEED: THE CARDS: each row of YtembfelckbmgiaaDoorRows.lean that lists a variable, with what it lists TIED to the program's text (the seventh form; the later family's looks); each row that meets fmt, with fmt's text TOLD by the authors' own Lean function (tested against real Go, not proved from fmt's source: count such statements apart). THE CARD IS WHAT COUNTS. Prove the row's statement (the work); the ties are given (YtembfelckbmgiaaDoorTie.lean); close each card by the builder's one call (the guide's Derived/Test/ToyasCard.lean, 'card_holds'). Laid BY PROGRAM, IN A SANDBOX (cutbox-door.mjs). By AI agents, Wed Nov 11 2026. No macro, syntax, notation, axiom, sorry.
-/
import Derived.Test.YtembfelckbmgiaaDoorRows
import GoSem.ClaimSeven
namespace Go.Proofs.YtembfelckbmgiaaDoor
namespace Rows

/-- THE TIED CARD OF 'caskettop.CasketHides'. -/
def casketHidesCard : Claim7 := { stood := { row := casketHidesRow, standIns := [], harness := (true, "feaee8597a4509ece3ef791cb515eb6cf4826cb297ecf2e5b68d609381d0e4a5"), looks := false }, kinds := [], alts := [], laidByText := true, laidKinds := [.data, .data], laidTests := true, laidLooks := .later }
def CasketHidesCardSaid : Prop := Claim7.holds Tryd.pinned (.plain (OpenSpec.ofChange casketHidesSpec)) casketHidesCard

/-- THE SECOND FORM's CARD OF 'caskettop.CasketHides'. -/
def casketHidesUptoCard : Claim7 := { stood := { row := casketHidesUptoRow, standIns := [], harness := (true, "feaee8597a4509ece3ef791cb515eb6cf4826cb297ecf2e5b68d609381d0e4a5"), looks := false }, kinds := [], alts := [], laidByText := true, laidKinds := [.data, .data], laidTests := true, laidLooks := .later }
def CasketHidesUptoCardSaid : Prop := Claim7.holds Tryd.pinned (.plain (OpenSpec.upto casketHidesSpec)) casketHidesUptoCard
end Rows
end Go.Proofs.YtembfelckbmgiaaDoor
