/-
  DERIVED. GIVEN WITH THE SEED: THE CARDS: each row of YtdlcmgbidoabmaaGreatDoorRows.lean that lists a variable, with what it lists TIED to the program's text (the seventh form; the later family's looks); each row that meets fmt, with fmt's text TOLD by the authors' own Lean function (tested against real Go, not proved from fmt's source: count such statements apart). THE CARD IS WHAT COUNTS. Prove the row's statement (the work); the ties are given (YtdlcmgbidoabmaaGreatDoorTie.lean); close each card by the builder's one call (the guide's Derived/Test/ToyasCard.lean, 'card_holds'). Laid BY PROGRAM, IN A SANDBOX (cutbox-door.mjs). By AI agents, Wed Nov 11 2026. No macro, syntax, notation, axiom, sorry.
-/
import Derived.Test.YtdlcmgbidoabmaaGreatDoorRows
import GoSem.ClaimSeven
namespace Go.Proofs.YtdlcmgbidoabmaaGreatDoor
namespace Rows

/-- THE TIED CARD OF 'pavanelaw05.ExprParses'. -/
def exprParsesCard : Claim7 := { stood := { row := exprParsesRow, standIns := [], harness := (true, "68c800a3f169008633e879d579ca7dbd4faf2e108e813ddb6cc28c6e438a3a5b"), looks := true }, kinds := [], alts := [], laidByText := true, laidKinds := [.data, .data, .data, .sentinel, .sentinel], laidTests := true, laidLooks := .later }
def ExprParsesCardSaid : Prop := Claim7.holds Tryz.pinned (.plain (OpenSpec.ofChange exprParsesSpec)) exprParsesCard

/-- THE TIED CARD OF 'pavanelaw05.ExprReads'. -/
def exprReadsCard : Claim7 := { stood := { row := exprReadsRow, standIns := [], harness := (true, "68c800a3f169008633e879d579ca7dbd4faf2e108e813ddb6cc28c6e438a3a5b"), looks := true }, kinds := [], alts := [], laidByText := true, laidKinds := [.data, .data, .data, .sentinel, .sentinel], laidTests := true, laidLooks := .later }
def ExprReadsCardSaid : Prop := Claim7.holds Tryz.pinned (.plain (OpenSpec.ofChange exprReadsSpec)) exprReadsCard

/-- THE TIED CARD OF 'pavanelaw05.ExprWrites'. -/
def exprWritesCard : Claim7 := { stood := { row := exprWritesRow, standIns := [], harness := (true, "68c800a3f169008633e879d579ca7dbd4faf2e108e813ddb6cc28c6e438a3a5b"), looks := true }, kinds := [], alts := [], laidByText := true, laidKinds := [.data, .data, .data, .sentinel, .sentinel], laidTests := true, laidLooks := .later }
def ExprWritesCardSaid : Prop := Claim7.holds Tryz.pinned (.plain (OpenSpec.ofChange exprWritesSpec)) exprWritesCard

/-- THE SECOND FORM's CARD OF 'pavanelaw05.ExprParses'. -/
def exprParsesUptoCard : Claim7 := { stood := { row := exprParsesUptoRow, standIns := [], harness := (true, "68c800a3f169008633e879d579ca7dbd4faf2e108e813ddb6cc28c6e438a3a5b"), looks := true }, kinds := [], alts := [], laidByText := true, laidKinds := [.data, .data, .data, .sentinel, .sentinel], laidTests := true, laidLooks := .later }
def ExprParsesUptoCardSaid : Prop := Claim7.holds Tryz.pinned (.plain (OpenSpec.upto exprParsesSpec)) exprParsesUptoCard

/-- THE SECOND FORM's CARD OF 'pavanelaw05.ExprReads'. -/
def exprReadsUptoCard : Claim7 := { stood := { row := exprReadsUptoRow, standIns := [], harness := (true, "68c800a3f169008633e879d579ca7dbd4faf2e108e813ddb6cc28c6e438a3a5b"), looks := true }, kinds := [], alts := [], laidByText := true, laidKinds := [.data, .data, .data, .sentinel, .sentinel], laidTests := true, laidLooks := .later }
def ExprReadsUptoCardSaid : Prop := Claim7.holds Tryz.pinned (.plain (OpenSpec.upto exprReadsSpec)) exprReadsUptoCard

/-- THE SECOND FORM's CARD OF 'pavanelaw05.ExprWrites'. -/
def exprWritesUptoCard : Claim7 := { stood := { row := exprWritesUptoRow, standIns := [], harness := (true, "68c800a3f169008633e879d579ca7dbd4faf2e108e813ddb6cc28c6e438a3a5b"), looks := true }, kinds := [], alts := [], laidByText := true, laidKinds := [.data, .data, .data, .sentinel, .sentinel], laidTests := true, laidLooks := .later }
def ExprWritesUptoCardSaid : Prop := Claim7.holds Tryz.pinned (.plain (OpenSpec.upto exprWritesSpec)) exprWritesUptoCard
end Rows
end Go.Proofs.YtdlcmgbidoabmaaGreatDoor
