/-
  Own work: closed facts of the row of ForestLays.
-/
import Derived.Test.YtmhoiicofhlgbaaGreatDoorTie
import Derived.Test.YtmhoiicofhlgbaaGreatDoorCards
import Derived.WalkKit
import Derived.ProofKit
import Derived.OpenShut
import Derived.Deep.DeepHandedRow
import Derived.LaidLaws
import Derived.MakeChecks
namespace Go.Proofs.YtmhoiicofhlgbaaGreatDoor.ForestLays
open Go Go.RowKit Go.ChangeShapes Go.WideShapes Go.ChangeAt
set_option maxRecDepth 100000
theorem closedA : (Rows.forestLaysUptoRow.inPlace == Tryz.pinned.checked.prog.inPlace 4) = true := by kernel_rfl
theorem closedB : (Rows.forestLaysUptoRow.unfollowed == Tryz.pinned.checked.prog.unfollowed 4) = true := by kernel_rfl
theorem closedC : (Rows.forestLaysUptoRow.recurses == Tryz.pinned.checked.prog.recurses 4) = true := by kernel_rfl
theorem closedD : (Rows.forestLaysUptoRow.named == Tryz.pinned.checked.prog.varsNamed 4) = true := by kernel_rfl
theorem closed : joinedFacts Tryz.pinned.checked.prog 4 Tryz.f4 (Rows.OpenSpec.upto Rows.forestLaysSpec).bare Rows.forestLaysUptoRow = true := by
  unfold joinedFacts
  rw [closedA, closedB, closedC, closedD]
  kernel_rfl
end Go.Proofs.YtmhoiicofhlgbaaGreatDoor.ForestLays
