/-
  DERIVED. GIVEN WITH THE SEED: THE CARDS: each row of YteoblgpbapdhiaaGreatDoorRows.lean that lists a variable, with what it lists TIED to the program's text (the seventh form; the later family's looks); each row that meets fmt, with fmt's text TOLD by the authors' own Lean function (tested against real Go, not proved from fmt's source: count such statements apart). THE CARD IS WHAT COUNTS. Prove the row's statement (the work); the ties are given (YteoblgpbapdhiaaGreatDoorTie.lean); close each card by the builder's one call (the guide's Derived/Test/ToyasCard.lean, 'card_holds'). Laid BY PROGRAM, IN A SANDBOX (cutbox-door.mjs). By AI agents, Wed Nov 11 2026. No macro, syntax, notation, axiom, sorry.
-/
import Derived.Test.YteoblgpbapdhiaaGreatDoorRows
import GoSem.ClaimSeven
namespace Go.Proofs.YteoblgpbapdhiaaGreatDoor
namespace Rows

/-- THE TIED CARD OF 'pavanelaw12.PathsTells'. -/
def pathsTellsCard : Claim7 := { stood := { row := pathsTellsRow, standIns := [], harness := (true, "89555034cdf4ccaf7eb165d12ea6919385755b70387d4b370d32372eed888475"), looks := true }, kinds := [], alts := [], laidByText := true, laidKinds := [.data, .data, .data, .sentinel, .sentinel], laidTests := true, laidLooks := .later }
def PathsTellsCardSaid : Prop := Claim7.holds Tryz.pinned (.plain (OpenSpec.ofChange pathsTellsSpec)) pathsTellsCard

/-- THE SECOND FORM's CARD OF 'pavanelaw12.PathsTells'. -/
def pathsTellsUptoCard : Claim7 := { stood := { row := pathsTellsUptoRow, standIns := [], harness := (true, "89555034cdf4ccaf7eb165d12ea6919385755b70387d4b370d32372eed888475"), looks := true }, kinds := [], alts := [], laidByText := true, laidKinds := [.data, .data, .data, .sentinel, .sentinel], laidTests := true, laidLooks := .later }
def PathsTellsUptoCardSaid : Prop := Claim7.holds Tryz.pinned (.plain (OpenSpec.upto pathsTellsSpec)) pathsTellsUptoCard
end Rows
end Go.Proofs.YteoblgpbapdhiaaGreatDoor
