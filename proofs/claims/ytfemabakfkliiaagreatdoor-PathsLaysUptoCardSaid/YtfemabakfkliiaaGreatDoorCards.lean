/-
  DERIVED. GIVEN WITH THE SEED: THE CARDS: each row of YtfemabakfkliiaaGreatDoorRows.lean that lists a variable, with what it lists TIED to the program's text (the seventh form; the later family's looks); each row that meets fmt, with fmt's text TOLD by the authors' own Lean function (tested against real Go, not proved from fmt's source: count such statements apart). THE CARD IS WHAT COUNTS. Prove the row's statement (the work); the ties are given (YtfemabakfkliiaaGreatDoorTie.lean); close each card by the builder's one call (the guide's Derived/Test/ToyasCard.lean, 'card_holds'). Laid BY PROGRAM, IN A SANDBOX (cutbox-door.mjs). By AI agents, Wed Nov 11 2026. No macro, syntax, notation, axiom, sorry.
-/
import Derived.Test.YtfemabakfkliiaaGreatDoorRows
import GoSem.ClaimSeven
namespace Go.Proofs.YtfemabakfkliiaaGreatDoor
namespace Rows

/-- THE TIED CARD OF 'pavanelaw16.TableRights'. -/
def tableRightsCard : Claim7 := { stood := { row := tableRightsRow, standIns := [], harness := (true, "e255ec1cca643e270b270e78e0e3b46ed635829facb089f90fe31b17385809f5"), looks := true }, kinds := [], alts := [], laidByText := true, laidKinds := [.data, .data, .data, .sentinel, .sentinel], laidTests := true, laidLooks := .later }
def TableRightsCardSaid : Prop := Claim7.holds Tryz.pinned (.plain (OpenSpec.ofChange tableRightsSpec)) tableRightsCard

/-- THE TIED CARD OF 'pavanelaw12.PathsLays'. -/
def pathsLaysCard : Claim7 := { stood := { row := pathsLaysRow, standIns := [], harness := (true, "e255ec1cca643e270b270e78e0e3b46ed635829facb089f90fe31b17385809f5"), looks := true }, kinds := [], alts := [], laidByText := true, laidKinds := [.data, .data, .data, .sentinel, .sentinel], laidTests := true, laidLooks := .later }
def PathsLaysCardSaid : Prop := Claim7.holds Tryz.pinned (.plain (OpenSpec.ofChange pathsLaysSpec)) pathsLaysCard

/-- THE SECOND FORM's CARD OF 'pavanelaw16.TableRights'. -/
def tableRightsUptoCard : Claim7 := { stood := { row := tableRightsUptoRow, standIns := [], harness := (true, "e255ec1cca643e270b270e78e0e3b46ed635829facb089f90fe31b17385809f5"), looks := true }, kinds := [], alts := [], laidByText := true, laidKinds := [.data, .data, .data, .sentinel, .sentinel], laidTests := true, laidLooks := .later }
def TableRightsUptoCardSaid : Prop := Claim7.holds Tryz.pinned (.plain (OpenSpec.upto tableRightsSpec)) tableRightsUptoCard

/-- THE SECOND FORM's CARD OF 'pavanelaw12.PathsLays'. -/
def pathsLaysUptoCard : Claim7 := { stood := { row := pathsLaysUptoRow, standIns := [], harness := (true, "e255ec1cca643e270b270e78e0e3b46ed635829facb089f90fe31b17385809f5"), looks := true }, kinds := [], alts := [], laidByText := true, laidKinds := [.data, .data, .data, .sentinel, .sentinel], laidTests := true, laidLooks := .later }
def PathsLaysUptoCardSaid : Prop := Claim7.holds Tryz.pinned (.plain (OpenSpec.upto pathsLaysSpec)) pathsLaysUptoCard
end Rows
end Go.Proofs.YtfemabakfkliiaaGreatDoor
