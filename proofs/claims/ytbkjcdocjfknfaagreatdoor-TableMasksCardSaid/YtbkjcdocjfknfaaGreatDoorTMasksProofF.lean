/-
  Own work: closed facts of the row of TableMasks.
-/
import Derived.Test.YtbkjcdocjfknfaaGreatDoorTie
import Derived.Test.YtbkjcdocjfknfaaGreatDoorCards
import Derived.WalkKit
import Derived.ProofKit
import Derived.OpenShut
import Derived.Deep.DeepHandedRow
import Derived.LaidLaws
import Derived.MakeChecks
namespace Go.Proofs.YtbkjcdocjfknfaaGreatDoor.TableMasks
open Go Go.RowKit Go.ChangeShapes Go.WideShapes Go.ChangeAt
set_option maxRecDepth 100000
theorem closedA : (Rows.tableMasksRow.inPlace == Tryz.pinned.checked.prog.inPlace 4) = true := by kernel_rfl
theorem closedB : (Rows.tableMasksRow.unfollowed == Tryz.pinned.checked.prog.unfollowed 4) = true := by kernel_rfl
theorem closedC : (Rows.tableMasksRow.recurses == Tryz.pinned.checked.prog.recurses 4) = true := by kernel_rfl
theorem closedD : (Rows.tableMasksRow.named == Tryz.pinned.checked.prog.varsNamed 4) = true := by kernel_rfl
theorem closed : joinedFacts Tryz.pinned.checked.prog 4 Tryz.f4 (OpenSpec.ofChange Rows.tableMasksSpec).bare Rows.tableMasksRow = true := by
  unfold joinedFacts
  rw [closedA, closedB, closedC, closedD]
  kernel_rfl
end Go.Proofs.YtbkjcdocjfknfaaGreatDoor.TableMasks
