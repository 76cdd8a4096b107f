/-
  DERIVED. GIVEN WITH THE SEED: THE CARDS: each row of YtmanockofcopjaaDoorRows.lean that lists a variable, with what it lists TIED to the program's text (the seventh form; the later family's looks); each row that meets fmt, with fmt's text TOLD by the authors' own Lean function (tested against real Go, not proved from fmt's source: count such statements apart). THE CARD IS WHAT COUNTS. Prove the row's statement (the work); the ties are given (YtmanockofcopjaaDoorTie.lean); close each card by the builder's one call (the guide's Derived/Test/ToyasCard.lean, 'card_holds'). Laid BY PROGRAM, IN A SANDBOX (cutbox-door.mjs). By AI agents, Wed Nov 11 2026. No macro, syntax, notation, axiom, sorry.
-/
import Derived.Test.YtmanockofcopjaaDoorRows
import GoSem.ClaimSeven
namespace Go.Proofs.YtmanockofcopjaaDoor
namespace Rows

/-- THE TIED CARD OF 'pavanelaw05.ExprLefts'. -/
def exprLeftsCard : Claim7 := { stood := { row := exprLeftsRow, standIns := [], harness := (true, "2e55517c612854ba77c26e722df2161b5cf841b06001b92e706eb3544da22155"), looks := true }, kinds := [], alts := [], laidByText := true, laidKinds := [.data, .data, .data, .sentinel, .sentinel], laidTests := true, laidLooks := .later }
def ExprLeftsCardSaid : Prop := Claim7.holds Tryd.pinned (.plain (OpenSpec.ofChange exprLeftsSpec)) exprLeftsCard

/-- THE SECOND FORM's CARD OF 'pavanelaw05.ExprLefts'. -/
def exprLeftsUptoCard : Claim7 := { stood := { row := exprLeftsUptoRow, standIns := [], harness := (true, "2e55517c612854ba77c26e722df2161b5cf841b06001b92e706eb3544da22155"), looks := true }, kinds := [], alts := [], laidByText := true, laidKinds := [.data, .data, .data, .sentinel, .sentinel], laidTests := true, laidLooks := .later }
def ExprLeftsUptoCardSaid : Prop := Claim7.holds Tryd.pinned (.plain (OpenSpec.upto exprLeftsSpec)) exprLeftsUptoCard
end Rows
end Go.Proofs.YtmanockofcopjaaDoor
