/-
  DERIVED. GIVEN WITH THE SEED: THE CARDS: each row of YtmanockofcopjaaGreatDoorRows.lean that lists a variable, with what it lists TIED to the program's text (the seventh form; the later family's looks); each row that meets fmt, with fmt's text TOLD by the authors' own Lean function (tested against real Go, not proved from fmt's source: count such statements apart). THE CARD IS WHAT COUNTS. Prove the row's statement (the work); the ties are given (YtmanockofcopjaaGreatDoorTie.lean); close each card by the builder's one call (the guide's Derived/Test/ToyasCard.lean, 'card_holds'). Laid BY PROGRAM, IN A SANDBOX (cutbox-door.mjs). By AI agents, Wed Nov 11 2026. No macro, syntax, notation, axiom, sorry.
-/
import Derived.Test.YtmanockofcopjaaGreatDoorRows
import GoSem.ClaimSeven
namespace Go.Proofs.YtmanockofcopjaaGreatDoor
namespace Rows

/-- THE TIED CARD OF 'pavanelaw06.EvalTells'. -/
def evalTellsCard : Claim7 := { stood := { row := evalTellsRow, standIns := [], harness := (true, "f79316c5f30fdad1931128c65056430ef8d93c22a6eafe54bef9aaf9f8864ca9"), looks := true }, kinds := [], alts := [], laidByText := true, laidKinds := [.data, .data, .data, .sentinel, .sentinel], laidTests := true, laidLooks := .later }
def EvalTellsCardSaid : Prop := Claim7.holds Tryz.pinned (.plain (OpenSpec.ofChange evalTellsSpec)) evalTellsCard

/-- THE TIED CARD OF 'pavanelaw07.SyntaxReads'. -/
def syntaxReadsCard : Claim7 := { stood := { row := syntaxReadsRow, standIns := [], harness := (true, "f79316c5f30fdad1931128c65056430ef8d93c22a6eafe54bef9aaf9f8864ca9"), looks := true }, kinds := [], alts := [], laidByText := true, laidKinds := [.data, .data, .data, .sentinel, .sentinel], laidTests := true, laidLooks := .later }
def SyntaxReadsCardSaid : Prop := Claim7.holds Tryz.pinned (.plain (OpenSpec.ofChange syntaxReadsSpec)) syntaxReadsCard

/-- THE TIED CARD OF 'pavanelaw07.SyntaxApart'. -/
def syntaxApartCard : Claim7 := { stood := { row := syntaxApartRow, standIns := [], harness := (true, "f79316c5f30fdad1931128c65056430ef8d93c22a6eafe54bef9aaf9f8864ca9"), looks := true }, kinds := [], alts := [], laidByText := true, laidKinds := [.data, .data, .data, .sentinel, .sentinel], laidTests := true, laidLooks := .later }
def SyntaxApartCardSaid : Prop := Claim7.holds Tryz.pinned (.plain (OpenSpec.ofChange syntaxApartSpec)) syntaxApartCard

/-- THE TIED CARD OF 'pavanelaw07.SyntaxBlocks'. -/
def syntaxBlocksCard : Claim7 := { stood := { row := syntaxBlocksRow, standIns := [], harness := (true, "f79316c5f30fdad1931128c65056430ef8d93c22a6eafe54bef9aaf9f8864ca9"), looks := true }, kinds := [], alts := [], laidByText := true, laidKinds := [.data, .data, .data, .sentinel, .sentinel], laidTests := true, laidLooks := .later }
def SyntaxBlocksCardSaid : Prop := Claim7.holds Tryz.pinned (.plain (OpenSpec.ofChange syntaxBlocksSpec)) syntaxBlocksCard

/-- THE TIED CARD OF 'pavanelaw07.SyntaxRooms'. -/
def syntaxRoomsCard : Claim7 := { stood := { row := syntaxRoomsRow, standIns := [], harness := (true, "f79316c5f30fdad1931128c65056430ef8d93c22a6eafe54bef9aaf9f8864ca9"), looks := true }, kinds := [], alts := [], laidByText := true, laidKinds := [.data, .data, .data, .sentinel, .sentinel], laidTests := true, laidLooks := .later }
def SyntaxRoomsCardSaid : Prop := Claim7.holds Tryz.pinned (.plain (OpenSpec.ofChange syntaxRoomsSpec)) syntaxRoomsCard

/-- THE SECOND FORM's CARD OF 'pavanelaw06.EvalTells'. -/
def evalTellsUptoCard : Claim7 := { stood := { row := evalTellsUptoRow, standIns := [], harness := (true, "f79316c5f30fdad1931128c65056430ef8d93c22a6eafe54bef9aaf9f8864ca9"), looks := true }, kinds := [], alts := [], laidByText := true, laidKinds := [.data, .data, .data, .sentinel, .sentinel], laidTests := true, laidLooks := .later }
def EvalTellsUptoCardSaid : Prop := Claim7.holds Tryz.pinned (.plain (OpenSpec.upto evalTellsSpec)) evalTellsUptoCard

/-- THE SECOND FORM's CARD OF 'pavanelaw07.SyntaxReads'. -/
def syntaxReadsUptoCard : Claim7 := { stood := { row := syntaxReadsUptoRow, standIns := [], harness := (true, "f79316c5f30fdad1931128c65056430ef8d93c22a6eafe54bef9aaf9f8864ca9"), looks := true }, kinds := [], alts := [], laidByText := true, laidKinds := [.data, .data, .data, .sentinel, .sentinel], laidTests := true, laidLooks := .later }
def SyntaxReadsUptoCardSaid : Prop := Claim7.holds Tryz.pinned (.plain (OpenSpec.upto syntaxReadsSpec)) syntaxReadsUptoCard

/-- THE SECOND FORM's CARD OF 'pavanelaw07.SyntaxApart'. -/
def syntaxApartUptoCard : Claim7 := { stood := { row := syntaxApartUptoRow, standIns := [], harness := (true, "f79316c5f30fdad1931128c65056430ef8d93c22a6eafe54bef9aaf9f8864ca9"), looks := true }, kinds := [], alts := [], laidByText := true, laidKinds := [.data, .data, .data, .sentinel, .sentinel], laidTests := true, laidLooks := .later }
def SyntaxApartUptoCardSaid : Prop := Claim7.holds Tryz.pinned (.plain (OpenSpec.upto syntaxApartSpec)) syntaxApartUptoCard

/-- THE SECOND FORM's CARD OF 'pavanelaw07.SyntaxBlocks'. -/
def syntaxBlocksUptoCard : Claim7 := { stood := { row := syntaxBlocksUptoRow, standIns := [], harness := (true, "f79316c5f30fdad1931128c65056430ef8d93c22a6eafe54bef9aaf9f8864ca9"), looks := true }, kinds := [], alts := [], laidByText := true, laidKinds := [.data, .data, .data, .sentinel, .sentinel], laidTests := true, laidLooks := .later }
def SyntaxBlocksUptoCardSaid : Prop := Claim7.holds Tryz.pinned (.plain (OpenSpec.upto syntaxBlocksSpec)) syntaxBlocksUptoCard

/-- THE SECOND FORM's CARD OF 'pavanelaw07.SyntaxRooms'. -/
def syntaxRoomsUptoCard : Claim7 := { stood := { row := syntaxRoomsUptoRow, standIns := [], harness := (true, "f79316c5f30fdad1931128c65056430ef8d93c22a6eafe54bef9aaf9f8864ca9"), looks := true }, kinds := [], alts := [], laidByText := true, laidKinds := [.data, .data, .data, .sentinel, .sentinel], laidTests := true, laidLooks := .later }
def SyntaxRoomsUptoCardSaid : Prop := Claim7.holds Tryz.pinned (.plain (OpenSpec.upto syntaxRoomsSpec)) syntaxRoomsUptoCard
end Rows
end Go.Proofs.YtmanockofcopjaaGreatDoor
