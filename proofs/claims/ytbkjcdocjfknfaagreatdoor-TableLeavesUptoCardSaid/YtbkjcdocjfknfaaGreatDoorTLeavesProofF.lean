/-
  Own work: closed facts of the row of TableLeaves.
-/
import Derived.Test.YtbkjcdocjfknfaaGreatDoorTie
import Derived.Test.YtbkjcdocjfknfaaGreatDoorCards
import Derived.WalkKit
import Derived.ProofKit
import Derived.OpenShut
import Derived.Deep.DeepHandedRow
import Derived.LaidLaws
import Derived.MakeChecks
namespace Go.Proofs.YtbkjcdocjfknfaaGreatDoor.TableLeaves
open Go Go.RowKit Go.ChangeShapes Go.WideShapes Go.ChangeAt
set_option maxRecDepth 100000
theorem closedA : (Rows.tableLeavesUptoRow.inPlace == Tryz.pinned.checked.prog.inPlace 6) = true := by kernel_rfl
theorem closedB : (Rows.tableLeavesUptoRow.unfollowed == Tryz.pinned.checked.prog.unfollowed 6) = true := by kernel_rfl
theorem closedC : (Rows.tableLeavesUptoRow.recurses == Tryz.pinned.checked.prog.recurses 6) = true := by kernel_rfl
theorem closedD : (Rows.tableLeavesUptoRow.named == Tryz.pinned.checked.prog.varsNamed 6) = true := by kernel_rfl
theorem closed : joinedFacts Tryz.pinned.checked.prog 6 Tryz.f6 (Rows.OpenSpec.upto Rows.tableLeavesSpec).bare Rows.tableLeavesUptoRow = true := by
  unfold joinedFacts
  rw [closedA, closedB, closedC, closedD]
  kernel_rfl
end Go.Proofs.YtbkjcdocjfknfaaGreatDoor.TableLeaves
