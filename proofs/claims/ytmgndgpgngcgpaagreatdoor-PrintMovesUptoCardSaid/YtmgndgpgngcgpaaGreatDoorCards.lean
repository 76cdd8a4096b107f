/-
  DERIVED. GIVEN WITH THE SEED: THE CARDS: each row of YtmgndgpgngcgpaaGreatDoorRows.lean that lists a variable, with what it lists TIED to the program's text (the seventh form; the later family's looks); each row that meets fmt, with fmt's text TOLD by the authors' own Lean function (tested against real Go, not proved from fmt's source: count such statements apart). THE CARD IS WHAT COUNTS. Prove the row's statement (the work); the ties are given (YtmgndgpgngcgpaaGreatDoorTie.lean); close each card by the builder's one call (the guide's Derived/Test/ToyasCard.lean, 'card_holds'). Laid BY PROGRAM, IN A SANDBOX (cutbox-door.mjs). By AI agents, Wed Nov 11 2026. No macro, syntax, notation, axiom, sorry.
-/
import Derived.Test.YtmgndgpgngcgpaaGreatDoorRows
import GoSem.ClaimSeven
namespace Go.Proofs.YtmgndgpgngcgpaaGreatDoor
namespace Rows

/-- THE TIED CARD OF 'pavanelaw10.LintChecks'. -/
def lintChecksCard : Claim7 := { stood := { row := lintChecksRow, standIns := [], harness := (true, "2fcdd8e37052614ec4faa4e74c720c086692466852811af628b71086e9c6956c"), looks := true }, kinds := [], alts := [], laidByText := true, laidKinds := [.data, .data, .data, .sentinel, .sentinel], laidTests := true, laidLooks := .later }
def LintChecksCardSaid : Prop := Claim7.holds Tryz.pinned (.plain (OpenSpec.ofChange lintChecksSpec)) lintChecksCard

/-- THE TIED CARD OF 'pavanelaw08.PrintMoves'. -/
def printMovesCard : Claim7 := { stood := { row := printMovesRow, standIns := [], harness := (true, "2fcdd8e37052614ec4faa4e74c720c086692466852811af628b71086e9c6956c"), looks := true }, kinds := [], alts := [], laidByText := true, laidKinds := [.data, .data, .data, .data, .sentinel, .sentinel, .pinned], laidTests := true, laidLooks := .later }
def PrintMovesCardSaid : Prop := Claim7.holds Tryz.pinned (.plain (OpenSpec.ofChange printMovesSpec)) printMovesCard

/-- THE SECOND FORM's CARD OF 'pavanelaw10.LintChecks'. -/
def lintChecksUptoCard : Claim7 := { stood := { row := lintChecksUptoRow, standIns := [], harness := (true, "2fcdd8e37052614ec4faa4e74c720c086692466852811af628b71086e9c6956c"), looks := true }, kinds := [], alts := [], laidByText := true, laidKinds := [.data, .data, .data, .sentinel, .sentinel], laidTests := true, laidLooks := .later }
def LintChecksUptoCardSaid : Prop := Claim7.holds Tryz.pinned (.plain (OpenSpec.upto lintChecksSpec)) lintChecksUptoCard

/-- THE SECOND FORM's CARD OF 'pavanelaw08.PrintMoves'. -/
def printMovesUptoCard : Claim7 := { stood := { row := printMovesUptoRow, standIns := [], harness := (true, "2fcdd8e37052614ec4faa4e74c720c086692466852811af628b71086e9c6956c"), looks := true }, kinds := [], alts := [], laidByText := true, laidKinds := [.data, .data, .data, .data, .sentinel, .sentinel, .pinned], laidTests := true, laidLooks := .later }
def PrintMovesUptoCardSaid : Prop := Claim7.holds Tryz.pinned (.plain (OpenSpec.upto printMovesSpec)) printMovesUptoCard
end Rows
end Go.Proofs.YtmgndgpgngcgpaaGreatDoor
