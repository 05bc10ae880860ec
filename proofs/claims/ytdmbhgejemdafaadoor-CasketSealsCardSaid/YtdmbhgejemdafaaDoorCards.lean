/-
  DERIVED. GIVEN WITH THE SEED: THE CARDS: each row of YtdmbhgejemdafaaDoorRows.lean that lists a variable, with what it lists TIED to the program's text (the seventh form; the later family's looks); each row that meets fmt, with fmt's text TOLD by the authors' own Lean function (tested against real Go, not proved from fmt's source: count such statements apart). THE CARD IS WHAT COUNTS. Prove the row's statement (the work); the ties are given (YtdmbhgejemdafaaDoorTie.lean); close each card by the builder's one call (the guide's Derived/Test/ToyasCard.lean, 'card_holds'). Laid BY PROGRAM, IN A SANDBOX (cutbox-door.mjs). By AI agents, Wed Nov 11 2026. No macro, syntax, notation, axiom, sorry.
-/
import Derived.Test.YtdmbhgejemdafaaDoorRows
import GoSem.ClaimSeven
namespace Go.Proofs.YtdmbhgejemdafaaDoor
namespace Rows

/-- THE TIED CARD OF 'caskettop.CasketSeals'. -/
def casketSealsCard : Claim7 := { stood := { row := casketSealsRow, standIns := [], harness := (true, "01fd635f52db9c7b34aebc8c62719a636291b1ddf6e71011c7f95870c24b6fd1"), looks := false }, kinds := [], alts := [], laidByText := true, laidKinds := [.data, .data], laidTests := true, laidLooks := .later }
def CasketSealsCardSaid : Prop := Claim7.holds Tryd.pinned (.plain (OpenSpec.ofChange casketSealsSpec)) casketSealsCard

/-- THE SECOND FORM's CARD OF 'caskettop.CasketSeals'. -/
def casketSealsUptoCard : Claim7 := { stood := { row := casketSealsUptoRow, standIns := [], harness := (true, "01fd635f52db9c7b34aebc8c62719a636291b1ddf6e71011c7f95870c24b6fd1"), looks := false }, kinds := [], alts := [], laidByText := true, laidKinds := [.data, .data], laidTests := true, laidLooks := .later }
def CasketSealsUptoCardSaid : Prop := Claim7.holds Tryd.pinned (.plain (OpenSpec.upto casketSealsSpec)) casketSealsUptoCard
end Rows
end Go.Proofs.YtdmbhgejemdafaaDoor
