/-
  DERIVED. GIVEN WITH THE SEED: THE CARDS: each row of YtpbgcbdclnfpnaaGreatDoorRows.lean that lists a variable, with what it lists TIED to the program's text (the seventh form; the later family's looks); each row that meets fmt, with fmt's text TOLD by the authors' own Lean function (tested against real Go, not proved from fmt's source: count such statements apart). THE CARD IS WHAT COUNTS. Prove the row's statement (the work); the ties are given (YtpbgcbdclnfpnaaGreatDoorTie.lean); close each card by the builder's one call (the guide's Derived/Test/ToyasCard.lean, 'card_holds'). Laid BY PROGRAM, IN A SANDBOX (cutbox-door.mjs). By AI agents, Wed Nov 11 2026. No macro, syntax, notation, axiom, sorry.
-/
import Derived.Test.YtpbgcbdclnfpnaaGreatDoorRows
import GoSem.ClaimSeven
namespace Go.Proofs.YtpbgcbdclnfpnaaGreatDoor
namespace Rows

/-- THE TIED CARD OF 'pavanelaw12.PathsStays'. -/
def pathsStaysCard : Claim7 := { stood := { row := pathsStaysRow, standIns := [], harness := (true, "b4f62e66eba2ff29a25a3635992962e38179aba05a6eec9ee26c9b30ab61640d"), looks := true }, kinds := [], alts := [], laidByText := true, laidKinds := [.data, .data, .data, .sentinel, .sentinel], laidTests := true, laidLooks := .later }
def PathsStaysCardSaid : Prop := Claim7.holds Tryz.pinned (.plain (OpenSpec.ofChange pathsStaysSpec)) pathsStaysCard

/-- THE TIED CARD OF 'pavanelaw13.ChooseStays'. -/
def chooseStaysCard : Claim7 := { stood := { row := chooseStaysRow, standIns := [], harness := (true, "b4f62e66eba2ff29a25a3635992962e38179aba05a6eec9ee26c9b30ab61640d"), looks := true }, kinds := [], alts := [], laidByText := true, laidKinds := [.data, .data, .data, .sentinel, .sentinel], laidTests := true, laidLooks := .later }
def ChooseStaysCardSaid : Prop := Claim7.holds Tryz.pinned (.plain (OpenSpec.ofChange chooseStaysSpec)) chooseStaysCard

/-- THE SECOND FORM's CARD OF 'pavanelaw12.PathsStays'. -/
def pathsStaysUptoCard : Claim7 := { stood := { row := pathsStaysUptoRow, standIns := [], harness := (true, "b4f62e66eba2ff29a25a3635992962e38179aba05a6eec9ee26c9b30ab61640d"), looks := true }, kinds := [], alts := [], laidByText := true, laidKinds := [.data, .data, .data, .sentinel, .sentinel], laidTests := true, laidLooks := .later }
def PathsStaysUptoCardSaid : Prop := Claim7.holds Tryz.pinned (.plain (OpenSpec.upto pathsStaysSpec)) pathsStaysUptoCard

/-- THE SECOND FORM's CARD OF 'pavanelaw13.ChooseStays'. -/
def chooseStaysUptoCard : Claim7 := { stood := { row := chooseStaysUptoRow, standIns := [], harness := (true, "b4f62e66eba2ff29a25a3635992962e38179aba05a6eec9ee26c9b30ab61640d"), looks := true }, kinds := [], alts := [], laidByText := true, laidKinds := [.data, .data, .data, .sentinel, .sentinel], laidTests := true, laidLooks := .later }
def ChooseStaysUptoCardSaid : Prop := Claim7.holds Tryz.pinned (.plain (OpenSpec.upto chooseStaysSpec)) chooseStaysUptoCard
end Rows
end Go.Proofs.YtpbgcbdclnfpnaaGreatDoor
