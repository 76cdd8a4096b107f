/-
  Own work: closed facts of the row of ChooseStays.
-/
import Derived.Test.YtpbgcbdclnfpnaaGreatDoorTie
import Derived.Test.YtpbgcbdclnfpnaaGreatDoorCards
import Derived.WalkKit
import Derived.ProofKit
import Derived.OpenShut
import Derived.Deep.DeepHandedRow
import Derived.LaidLaws
import Derived.MakeChecks
namespace Go.Proofs.YtpbgcbdclnfpnaaGreatDoor.ChooseStays
open Go Go.RowKit Go.ChangeShapes Go.WideShapes Go.ChangeAt
set_option maxRecDepth 100000
theorem closedA : (Rows.chooseStaysUptoRow.inPlace == Tryz.pinned.checked.prog.inPlace 4) = true := by kernel_rfl
theorem closedB : (Rows.chooseStaysUptoRow.unfollowed == Tryz.pinned.checked.prog.unfollowed 4) = true := by kernel_rfl
theorem closedC : (Rows.chooseStaysUptoRow.recurses == Tryz.pinned.checked.prog.recurses 4) = true := by kernel_rfl
theorem closedD : (Rows.chooseStaysUptoRow.named == Tryz.pinned.checked.prog.varsNamed 4) = true := by kernel_rfl
theorem closed : joinedFacts Tryz.pinned.checked.prog 4 Tryz.f4 (Rows.OpenSpec.upto Rows.chooseStaysSpec).bare Rows.chooseStaysUptoRow = true := by
  unfold joinedFacts
  rw [closedA, closedB, closedC, closedD]
  kernel_rfl
end Go.Proofs.YtpbgcbdclnfpnaaGreatDoor.ChooseStays
