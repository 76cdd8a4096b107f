/-
  Own work: closed facts of the row of PrintMoves.
-/
import Derived.Test.YtmgndgpgngcgpaaGreatDoorTie
import Derived.Test.YtmgndgpgngcgpaaGreatDoorCards
import Derived.WalkKit
import Derived.ProofKit
import Derived.OpenShut
import Derived.Deep.DeepHandedRow
import Derived.LaidLaws
import Derived.MakeChecks
namespace Go.Proofs.YtmgndgpgngcgpaaGreatDoor.PrintMoves
open Go Go.RowKit Go.ChangeShapes Go.WideShapes Go.ChangeAt
set_option maxRecDepth 100000
theorem closedA : (Rows.printMovesUptoRow.inPlace == Tryz.pinned.checked.prog.inPlace 4) = true := by kernel_rfl
theorem closedB : (Rows.printMovesUptoRow.unfollowed == Tryz.pinned.checked.prog.unfollowed 4) = true := by kernel_rfl
theorem closedC : (Rows.printMovesUptoRow.recurses == Tryz.pinned.checked.prog.recurses 4) = true := by kernel_rfl
theorem closedD : (Rows.printMovesUptoRow.named == Tryz.pinned.checked.prog.varsNamed 4) = true := by kernel_rfl
theorem closed : joinedFacts Tryz.pinned.checked.prog 4 Tryz.f4 (Rows.OpenSpec.upto Rows.printMovesSpec).bare Rows.printMovesUptoRow = true := by
  unfold joinedFacts
  rw [closedA, closedB, closedC, closedD]
  kernel_rfl
end Go.Proofs.YtmgndgpgngcgpaaGreatDoor.PrintMoves
