import Derived.Test.YteoblgpbapdhiaaGreatDoorTie
import Derived.Test.YteoblgpbapdhiaaGreatDoorCards
import Derived.WalkKit
import Derived.ProofKit
import Derived.OpenShut
import Derived.Deep.DeepHandedRow
import Derived.LaidLaws
import Derived.MakeChecks
namespace Go.Proofs.YteoblgpbapdhiaaGreatDoor.PathsTells
open Go Go.RowKit Go.ChangeShapes Go.WideShapes Go.ChangeAt
set_option maxRecDepth 100000
theorem closedA : (Rows.pathsTellsUptoRow.inPlace == Tryz.pinned.checked.prog.inPlace 3) = true:=by kernel_rfl
theorem closedB : (Rows.pathsTellsUptoRow.unfollowed == Tryz.pinned.checked.prog.unfollowed 3) = true:=by kernel_rfl
theorem closedC : (Rows.pathsTellsUptoRow.recurses == Tryz.pinned.checked.prog.recurses 3) = true:=by kernel_rfl
theorem closedD : (Rows.pathsTellsUptoRow.named == Tryz.pinned.checked.prog.varsNamed 3) = true:=by kernel_rfl
theorem closed : joinedFacts Tryz.pinned.checked.prog 3 Tryz.f3 (Rows.OpenSpec.upto Rows.pathsTellsSpec).bare Rows.pathsTellsUptoRow = true:=by
  unfold joinedFacts
  rw [closedA, closedB, closedC, closedD]
  kernel_rfl
end Go.Proofs.YteoblgpbapdhiaaGreatDoor.PathsTells
