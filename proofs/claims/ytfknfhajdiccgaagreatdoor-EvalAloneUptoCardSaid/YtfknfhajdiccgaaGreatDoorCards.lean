/-
  DERIVED. GIVEN WITH THE SEED: THE CARDS: each row of YtfknfhajdiccgaaGreatDoorRows.lean that lists a variable, with what it lists TIED to the program's text (the seventh form; the later family's looks); each row that meets fmt, with fmt's text TOLD by the authors' own Lean function (tested against real Go, not proved from fmt's source: count such statements apart). THE CARD IS WHAT COUNTS. Prove the row's statement (the work); the ties are given (YtfknfhajdiccgaaGreatDoorTie.lean); close each card by the builder's one call (the guide's Derived/Test/ToyasCard.lean, 'card_holds'). Laid BY PROGRAM, IN A SANDBOX (cutbox-door.mjs). By AI agents, Wed Nov 11 2026. No macro, syntax, notation, axiom, sorry.
-/
import Derived.Test.YtfknfhajdiccgaaGreatDoorRows
import GoSem.ClaimSeven
namespace Go.Proofs.YtfknfhajdiccgaaGreatDoor
namespace Rows

/-- THE TIED CARD OF 'pavanelaw06.EvalNames'. -/
def evalNamesCard : Claim7 := { stood := { row := evalNamesRow, standIns := [], harness := (true, "3ac483f56824876bfc3eba79e14c8ebf49ec02b4069311f1e2065f877b615859"), looks := true }, kinds := [], alts := [], laidByText := true, laidKinds := [.data, .data, .data, .sentinel, .sentinel], laidTests := true, laidLooks := .later }
def EvalNamesCardSaid : Prop := Claim7.holds Tryz.pinned (.plain (OpenSpec.ofChange evalNamesSpec)) evalNamesCard

/-- THE TIED CARD OF 'pavanelaw06.EvalAlone'. -/
def evalAloneCard : Claim7 := { stood := { row := evalAloneRow, standIns := [], harness := (true, "3ac483f56824876bfc3eba79e14c8ebf49ec02b4069311f1e2065f877b615859"), looks := true }, kinds := [], alts := [], laidByText := true, laidKinds := [.data, .data, .data, .sentinel, .sentinel], laidTests := true, laidLooks := .later }
def EvalAloneCardSaid : Prop := Claim7.holds Tryz.pinned (.plain (OpenSpec.ofChange evalAloneSpec)) evalAloneCard

/-- THE SECOND FORM's CARD OF 'pavanelaw06.EvalNames'. -/
def evalNamesUptoCard : Claim7 := { stood := { row := evalNamesUptoRow, standIns := [], harness := (true, "3ac483f56824876bfc3eba79e14c8ebf49ec02b4069311f1e2065f877b615859"), looks := true }, kinds := [], alts := [], laidByText := true, laidKinds := [.data, .data, .data, .sentinel, .sentinel], laidTests := true, laidLooks := .later }
def EvalNamesUptoCardSaid : Prop := Claim7.holds Tryz.pinned (.plain (OpenSpec.upto evalNamesSpec)) evalNamesUptoCard

/-- THE SECOND FORM's CARD OF 'pavanelaw06.EvalAlone'. -/
def evalAloneUptoCard : Claim7 := { stood := { row := evalAloneUptoRow, standIns := [], harness := (true, "3ac483f56824876bfc3eba79e14c8ebf49ec02b4069311f1e2065f877b615859"), looks := true }, kinds := [], alts := [], laidByText := true, laidKinds := [.data, .data, .data, .sentinel, .sentinel], laidTests := true, laidLooks := .later }
def EvalAloneUptoCardSaid : Prop := Claim7.holds Tryz.pinned (.plain (OpenSpec.upto evalAloneSpec)) evalAloneUptoCard
end Rows
end Go.Proofs.YtfknfhajdiccgaaGreatDoor
