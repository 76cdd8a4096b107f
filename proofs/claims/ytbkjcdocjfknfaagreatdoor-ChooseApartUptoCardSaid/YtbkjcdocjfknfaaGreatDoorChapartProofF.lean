/-
  Own work: closed facts of the row of ChooseApart.
-/
import Derived.Test.YtbkjcdocjfknfaaGreatDoorTie
import Derived.Test.YtbkjcdocjfknfaaGreatDoorCards
import Derived.WalkKit
import Derived.ProofKit
import Derived.OpenShut
import Derived.Deep.DeepHandedRow
import Derived.LaidLaws
import Derived.MakeChecks
namespace Go.Proofs.YtbkjcdocjfknfaaGreatDoor.ChooseApart
open Go Go.RowKit Go.ChangeShapes Go.WideShapes Go.ChangeAt
set_option maxRecDepth 100000
theorem closedA : (Rows.chooseApartUptoRow.inPlace == Tryz.pinned.checked.prog.inPlace 7) = true := by kernel_rfl
theorem closedB : (Rows.chooseApartUptoRow.unfollowed == Tryz.pinned.checked.prog.unfollowed 7) = true := by kernel_rfl
theorem closedC : (Rows.chooseApartUptoRow.recurses == Tryz.pinned.checked.prog.recurses 7) = true := by kernel_rfl
theorem closedD : (Rows.chooseApartUptoRow.named == Tryz.pinned.checked.prog.varsNamed 7) = true := by kernel_rfl
theorem closed : joinedFacts Tryz.pinned.checked.prog 7 Tryz.f7 (Rows.OpenSpec.upto Rows.chooseApartSpec).bare Rows.chooseApartUptoRow = true := by
  unfold joinedFacts
  rw [closedA, closedB, closedC, closedD]
  kernel_rfl
end Go.Proofs.YtbkjcdocjfknfaaGreatDoor.ChooseApart
