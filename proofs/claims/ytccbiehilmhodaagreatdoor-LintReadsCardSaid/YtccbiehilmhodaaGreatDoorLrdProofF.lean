/-
  Own work: closed facts of the row of LintReads.
-/
import Derived.Test.YtccbiehilmhodaaGreatDoorTie
import Derived.Test.YtccbiehilmhodaaGreatDoorCards
import Derived.WalkKit
import Derived.ProofKit
import Derived.OpenShut
import Derived.Deep.DeepHandedRow
import Derived.LaidLaws
import Derived.MakeChecks
namespace Go.Proofs.YtccbiehilmhodaaGreatDoor.LintReads
open Go Go.RowKit Go.ChangeShapes Go.WideShapes Go.ChangeAt
set_option maxRecDepth 100000
theorem closedA : (Rows.lintReadsRow.inPlace == Tryz.pinned.checked.prog.inPlace 3) = true := by kernel_rfl
theorem closedB : (Rows.lintReadsRow.unfollowed == Tryz.pinned.checked.prog.unfollowed 3) = true := by kernel_rfl
theorem closedC : (Rows.lintReadsRow.recurses == Tryz.pinned.checked.prog.recurses 3) = true := by kernel_rfl
theorem closedD : (Rows.lintReadsRow.named == Tryz.pinned.checked.prog.varsNamed 3) = true := by kernel_rfl
theorem closed : joinedFacts Tryz.pinned.checked.prog 3 Tryz.f3 (OpenSpec.ofChange Rows.lintReadsSpec).bare Rows.lintReadsRow = true := by
  unfold joinedFacts
  rw [closedA, closedB, closedC, closedD]
  kernel_rfl
end Go.Proofs.YtccbiehilmhodaaGreatDoor.LintReads
