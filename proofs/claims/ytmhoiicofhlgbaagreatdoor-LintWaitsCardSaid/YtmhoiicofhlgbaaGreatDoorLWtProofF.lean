/-
  Own work: closed facts of the row of LintWaits.
-/
import Derived.Test.YtmhoiicofhlgbaaGreatDoorTie
import Derived.Test.YtmhoiicofhlgbaaGreatDoorCards
import Derived.WalkKit
import Derived.ProofKit
import Derived.OpenShut
import Derived.Deep.DeepHandedRow
import Derived.LaidLaws
import Derived.MakeChecks
namespace Go.Proofs.YtmhoiicofhlgbaaGreatDoor.LintWaits
open Go Go.RowKit Go.ChangeShapes Go.WideShapes Go.ChangeAt
set_option maxRecDepth 100000
theorem closedA : (Rows.lintWaitsRow.inPlace == Tryz.pinned.checked.prog.inPlace 7) = true := by kernel_rfl
theorem closedB : (Rows.lintWaitsRow.unfollowed == Tryz.pinned.checked.prog.unfollowed 7) = true := by kernel_rfl
theorem closedC : (Rows.lintWaitsRow.recurses == Tryz.pinned.checked.prog.recurses 7) = true := by kernel_rfl
theorem closedD : (Rows.lintWaitsRow.named == Tryz.pinned.checked.prog.varsNamed 7) = true := by kernel_rfl
theorem closed : joinedFacts Tryz.pinned.checked.prog 7 Tryz.f7 (OpenSpec.ofChange Rows.lintWaitsSpec).bare Rows.lintWaitsRow = true := by
  unfold joinedFacts
  rw [closedA, closedB, closedC, closedD]
  kernel_rfl
end Go.Proofs.YtmhoiicofhlgbaaGreatDoor.LintWaits
