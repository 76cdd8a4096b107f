/-
  DERIVED. GIVEN WITH THE SEED: THE CARDS: each row of YticjmjmkmcljhaaDoorRows.lean that lists a variable, with what it lists TIED to the program's text (the seventh form; the later family's looks); each row that meets fmt, with fmt's text TOLD by the authors' own Lean function (tested against real Go, not proved from fmt's source: count such statements apart). THE CARD IS WHAT COUNTS. Prove the row's statement (the work); the ties are given (YticjmjmkmcljhaaDoorTie.lean); close each card by the builder's one call (the guide's Derived/Test/ToyasCard.lean, 'card_holds'). Laid BY PROGRAM, IN A SANDBOX (cutbox-door.mjs). By AI agents, Wed Nov 11 2026. No macro, syntax, notation, axiom, sorry.
-/
import Derived.Test.YticjmjmkmcljhaaDoorRows
import GoSem.ClaimSeven
namespace Go.Proofs.YticjmjmkmcljhaaDoor
namespace Rows

/-- THE TIED CARD OF 'pavanelaw04.ScanCuts'. -/
def scanCutsCard : Claim7 := { stood := { row := scanCutsRow, standIns := [], harness := (true, "27b1a8548714dc1c67b2629cb9143b070e95ecb2e7c092018eb2f5f05ab82a2d"), looks := true }, kinds := [], alts := [], laidByText := true, laidKinds := [.data, .data, .data, .sentinel, .sentinel], laidTests := true, laidLooks := .later }
def ScanCutsCardSaid : Prop := Claim7.holds Tryd.pinned (.plain (OpenSpec.ofChange scanCutsSpec)) scanCutsCard

/-- THE TIED CARD OF 'pavanelaw04.ScanNotes'. -/
def scanNotesCard : Claim7 := { stood := { row := scanNotesRow, standIns := [], harness := (true, "27b1a8548714dc1c67b2629cb9143b070e95ecb2e7c092018eb2f5f05ab82a2d"), looks := true }, kinds := [], alts := [], laidByText := true, laidKinds := [.data, .data, .data, .sentinel, .sentinel], laidTests := true, laidLooks := .later }
def ScanNotesCardSaid : Prop := Claim7.holds Tryd.pinned (.plain (OpenSpec.ofChange scanNotesSpec)) scanNotesCard

/-- THE TIED CARD OF 'pavanelaw04.ScanNames'. -/
def scanNamesCard : Claim7 := { stood := { row := scanNamesRow, standIns := [], harness := (true, "27b1a8548714dc1c67b2629cb9143b070e95ecb2e7c092018eb2f5f05ab82a2d"), looks := true }, kinds := [], alts := [], laidByText := true, laidKinds := [.data, .data, .data, .sentinel, .sentinel], laidTests := true, laidLooks := .later }
def ScanNamesCardSaid : Prop := Claim7.holds Tryd.pinned (.plain (OpenSpec.ofChange scanNamesSpec)) scanNamesCard

/-- THE TIED CARD OF 'pavanelaw04.ScanNamed'. -/
def scanNamedCard : Claim7 := { stood := { row := scanNamedRow, standIns := [], harness := (true, "27b1a8548714dc1c67b2629cb9143b070e95ecb2e7c092018eb2f5f05ab82a2d"), looks := true }, kinds := [], alts := [], laidByText := true, laidKinds := [.data, .data, .data, .sentinel, .sentinel], laidTests := true, laidLooks := .later }
def ScanNamedCardSaid : Prop := Claim7.holds Tryd.pinned (.plain (OpenSpec.ofChange scanNamedSpec)) scanNamedCard

/-- THE SECOND FORM's CARD OF 'pavanelaw04.ScanCuts'. -/
def scanCutsUptoCard : Claim7 := { stood := { row := scanCutsUptoRow, standIns := [], harness := (true, "27b1a8548714dc1c67b2629cb9143b070e95ecb2e7c092018eb2f5f05ab82a2d"), looks := true }, kinds := [], alts := [], laidByText := true, laidKinds := [.data, .data, .data, .sentinel, .sentinel], laidTests := true, laidLooks := .later }
def ScanCutsUptoCardSaid : Prop := Claim7.holds Tryd.pinned (.plain (OpenSpec.upto scanCutsSpec)) scanCutsUptoCard

/-- THE SECOND FORM's CARD OF 'pavanelaw04.ScanNotes'. -/
def scanNotesUptoCard : Claim7 := { stood := { row := scanNotesUptoRow, standIns := [], harness := (true, "27b1a8548714dc1c67b2629cb9143b070e95ecb2e7c092018eb2f5f05ab82a2d"), looks := true }, kinds := [], alts := [], laidByText := true, laidKinds := [.data, .data, .data, .sentinel, .sentinel], laidTests := true, laidLooks := .later }
def ScanNotesUptoCardSaid : Prop := Claim7.holds Tryd.pinned (.plain (OpenSpec.upto scanNotesSpec)) scanNotesUptoCard

/-- THE SECOND FORM's CARD OF 'pavanelaw04.ScanNames'. -/
def scanNamesUptoCard : Claim7 := { stood := { row := scanNamesUptoRow, standIns := [], harness := (true, "27b1a8548714dc1c67b2629cb9143b070e95ecb2e7c092018eb2f5f05ab82a2d"), looks := true }, kinds := [], alts := [], laidByText := true, laidKinds := [.data, .data, .data, .sentinel, .sentinel], laidTests := true, laidLooks := .later }
def ScanNamesUptoCardSaid : Prop := Claim7.holds Tryd.pinned (.plain (OpenSpec.upto scanNamesSpec)) scanNamesUptoCard

/-- THE SECOND FORM's CARD OF 'pavanelaw04.ScanNamed'. -/
def scanNamedUptoCard : Claim7 := { stood := { row := scanNamedUptoRow, standIns := [], harness := (true, "27b1a8548714dc1c67b2629cb9143b070e95ecb2e7c092018eb2f5f05ab82a2d"), looks := true }, kinds := [], alts := [], laidByText := true, laidKinds := [.data, .data, .data, .sentinel, .sentinel], laidTests := true, laidLooks := .later }
def ScanNamedUptoCardSaid : Prop := Claim7.holds Tryd.pinned (.plain (OpenSpec.upto scanNamedSpec)) scanNamedUptoCard
end Rows
end Go.Proofs.YticjmjmkmcljhaaDoor
