/-
  Own work: closed facts of the row of ChooseOne.
-/
import Derived.Test.YtbkjcdocjfknfaaGreatDoorTie
import Derived.Test.YtbkjcdocjfknfaaGreatDoorCards
import Derived.WalkKit
import Derived.ProofKit
import Derived.OpenShut
import Derived.Deep.DeepHandedRow
import Derived.LaidLaws
import Derived.MakeChecks
namespace Go.Proofs.YtbkjcdocjfknfaaGreatDoor.ChooseOne
open Go Go.RowKit Go.ChangeShapes Go.WideShapes Go.ChangeAt
set_option maxRecDepth 100000
theorem closedA : (Rows.chooseOneUptoRow.inPlace == Tryz.pinned.checked.prog.inPlace 8) = true := by kernel_rfl
theorem closedB : (Rows.chooseOneUptoRow.unfollowed == Tryz.pinned.checked.prog.unfollowed 8) = true := by kernel_rfl
theorem closedC : (Rows.chooseOneUptoRow.recurses == Tryz.pinned.checked.prog.recurses 8) = true := by kernel_rfl
theorem closedD : (Rows.chooseOneUptoRow.named == Tryz.pinned.checked.prog.varsNamed 8) = true := by kernel_rfl
theorem closed : joinedFacts Tryz.pinned.checked.prog 8 Tryz.f8 (Rows.OpenSpec.upto Rows.chooseOneSpec).bare Rows.chooseOneUptoRow = true := by
  unfold joinedFacts
  rw [closedA, closedB, closedC, closedD]
  kernel_rfl
end Go.Proofs.YtbkjcdocjfknfaaGreatDoor.ChooseOne
