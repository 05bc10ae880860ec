/-
  DERIVED. GIVEN WITH THE SEED: THE CARDS: each row of YtjhocaleampamaaDoorRows.lean that lists a variable, with what it lists TIED to the program's text (the seventh form; the later family's looks); each row that meets fmt, with fmt's text TOLD by the authors' own Lean function (tested against real Go, not proved from fmt's source: count such statements apart). THE CARD IS WHAT COUNTS. Prove the row's statement (the work); the ties are given (YtjhocaleampamaaDoorTie.lean); close each card by the builder's one call (the guide's Derived/Test/ToyasCard.lean, 'card_holds'). Laid BY PROGRAM, IN A SANDBOX (cutbox-door.mjs). By AI agents, Wed Nov 11 2026. No macro, syntax, notation, axiom, sorry.
-/
import Derived.Test.YtjhocaleampamaaDoorRows
import GoSem.ClaimSeven
namespace Go.Proofs.YtjhocaleampamaaDoor
namespace Rows

/-- THE TIED CARD OF 'caskettop.CasketRoutes'. -/
def casketRoutesCard : Claim7 := { stood := { row := casketRoutesRow, standIns := [], harness := (true, "65801d0e4c86d1288430a629ebf087ee2a4e65746ae4872eb7c3f961c8479f41"), looks := false }, kinds := [], alts := [], laidByText := true, laidKinds := [.data, .data], laidTests := true, laidLooks := .later }
def CasketRoutesCardSaid : Prop := Claim7.holds Tryd.pinned (.plain (OpenSpec.ofChange casketRoutesSpec)) casketRoutesCard

/-- THE SECOND FORM's CARD OF 'caskettop.CasketRoutes'. -/
def casketRoutesUptoCard : Claim7 := { stood := { row := casketRoutesUptoRow, standIns := [], harness := (true, "65801d0e4c86d1288430a629ebf087ee2a4e65746ae4872eb7c3f961c8479f41"), looks := false }, kinds := [], alts := [], laidByText := true, laidKinds := [.data, .data], laidTests := true, laidLooks := .later }
def CasketRoutesUptoCardSaid : Prop := Claim7.holds Tryd.pinned (.plain (OpenSpec.upto casketRoutesSpec)) casketRoutesUptoCard
end Rows
end Go.Proofs.YtjhocaleampamaaDoor
