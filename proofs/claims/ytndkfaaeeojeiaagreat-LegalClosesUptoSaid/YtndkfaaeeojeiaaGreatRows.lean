/-
  NARROWER THAN 'FOR EVERY INPUT', by the rows' own cells (each row's printed sentence says how): LegalTells: loops · LegalCloses: loops.
  DERIVED. THE GIVEN ROWS OF THIS SEAT. 2 by the template 'for every input the law returns true; each argument reads behind the call as it read before'; 0 by the template 'total and deterministic' (their statements: YtndkfaaeeojeiaaGreatTotals.lean).
  GIVEN WITH THE SEED: the statements are not yours to turn. If you find one false, say at which input.
  Laid BY PROGRAM, IN A SANDBOX (cutbox-rows.mjs): the forced cells as the released guide's own fill.sh prints them over the translation 3bd5d42706483078… (all of the seat's roots in one cut). By AI agents, Wed Nov 11 2026. No macro, syntax, notation, axiom, sorry.
-/
import Derived.Test.YtndkfaaeeojeiaaGreatChecked
import GoSem.Claim
import GoSem.ClaimJoined
import GoSem.ClaimMapViews
import Derived.JoinedTies
import Derived.KernelRfl
namespace Go.Proofs.YtndkfaaeeojeiaaGreat
/- THE CELL 'sum', in the pinned program and in every row, IS THE sha256 OF THE DUMP (.gsa) THAT YtndkfaaeeojeiaaGreatProg.lean LOADS. Nothing in Lean hashes anything: it is a label: what it is worth is what the hold of that sum in a sandbox is worth. -/
noncomputable def Tryz.pinned : Pinned := { name := "ytndkfaaeeojeiaagreat", sum := "3bd5d42706483078081a64f60a1ce17387720193d9b3458921cb173cb4ad01d0", checked := Tryz.checked }
namespace Rows
def none {H : Type} : Left H := { results := [], args := [] }

/-- 'pavanelaw11.LegalTells': WHATEVER THE INPUT: true; the input reads as it did. -/
def legalTellsSpec : ChangeSpec := { name := "legalTells", fn := fun _ => fun
  | [d1, d2] => { results := [.lit (.bool true)], args := [d1, d2] }
  | _ => none }
def legalTellsRow : OpenClaim := { program := "ytndkfaaeeojeiaagreat", sum := "3bd5d42706483078081a64f60a1ce17387720193d9b3458921cb173cb4ad01d0", func := "pavane/pavanelaw11.LegalTells", spec := "legalTells", unfollowed := true, recurses := true, loops := true, apart := false }
def LegalTellsSaid : Prop := legalTellsRow.holds Tryz.pinned (OpenSpec.ofChange legalTellsSpec)

/-- ITS FALSE NEIGHBOUR: 'it returns false'. Refute it at one input. -/
def legalTellsWrong : ChangeSpec := { name := "legalTells", fn := fun _ => fun
  | [d1, d2] => { results := [.lit (.bool false)], args := [d1, d2] }
  | _ => none }
def LegalTellsWrongFalsely : Prop := legalTellsRow.holds Tryz.pinned (OpenSpec.ofChange legalTellsWrong)

/-- 'pavanelaw11.LegalCloses': WHATEVER THE INPUT: true; the input reads as it did. -/
def legalClosesSpec : ChangeSpec := { name := "legalCloses", fn := fun _ => fun
  | [d1, d2] => { results := [.lit (.bool true)], args := [d1, d2] }
  | _ => none }
def legalClosesRow : OpenClaim := { program := "ytndkfaaeeojeiaagreat", sum := "3bd5d42706483078081a64f60a1ce17387720193d9b3458921cb173cb4ad01d0", func := "pavane/pavanelaw11.LegalCloses", spec := "legalCloses", unfollowed := true, recurses := true, loops := true, apart := false }
def LegalClosesSaid : Prop := legalClosesRow.holds Tryz.pinned (OpenSpec.ofChange legalClosesSpec)

/-- ITS FALSE NEIGHBOUR: 'it returns false'. Refute it at one input. -/
def legalClosesWrong : ChangeSpec := { name := "legalCloses", fn := fun _ => fun
  | [d1, d2] => { results := [.lit (.bool false)], args := [d1, d2] }
  | _ => none }
def LegalClosesWrongFalsely : Prop := legalClosesRow.holds Tryz.pinned (OpenSpec.ofChange legalClosesWrong)

/- THE SECOND FORM. 'bulk': how many values and letters a reading holds, each counted each time it is reached (what is shared counts as often as it is met; a slice's spare places count too). A statement '..UptoSaid' is the law's where the arguments, and the package variables that the reading takes, are together of bulk at most 1048576: NARROWER than '..Said'. Prove '..Said' where nothing that the law and all that it calls make is longer than what came in: it says more and counts as full. Else prove '..UptoSaid'. A law counts once. -/
mutual
def uptoBulk {H : Type} : DataW H → Nat
  | .lit (.string bytes) => bytes.length + 1
  | .lit _ => 1
  | .nil => 1
  | .ptr d => uptoBulk d + 1
  | .slice elems spare => uptoBulkAll elems + uptoBulkAll spare + 1
  | .agg parts => uptoBulkAll parts + 1
  | .iface _ d => uptoBulk d + 1
  | .map entries => uptoBulkEntries entries + 1
  | .held _ => 1
def uptoBulkAll {H : Type} : List (DataW H) → Nat
  | [] => 0
  | d :: r => uptoBulk d + uptoBulkAll r
def uptoBulkEntries {H : Type} : List (Lit × DataW H) → Nat
  | [] => 0
  | x :: r => uptoBulkEntry x + uptoBulkEntries r
def uptoBulkEntry {H : Type} : Lit × DataW H → Nat
  | (.string bytes, d) => bytes.length + uptoBulk d + 1
  | (_, d) => uptoBulk d + 1
 end
def uptoSmall : (H : Type) → List (DataW H) → Bool := fun _ ds => decide (uptoBulkAll ds ≤ 1048576)
def OpenSpec.upto (s : _root_.Go.ChangeSpec) : _root_.Go.OpenSpec := { _root_.Go.OpenSpec.ofChange s with cond := some uptoSmall }

/-- 'pavanelaw11.LegalTells', WHERE WHAT IT READS IS OF BULK AT MOST 1048576: true; the input reads as it did. -/
def legalTellsUptoRow : OpenClaim := { program := "ytndkfaaeeojeiaagreat", sum := "3bd5d42706483078081a64f60a1ce17387720193d9b3458921cb173cb4ad01d0", func := "pavane/pavanelaw11.LegalTells", spec := "legalTells", unfollowed := true, recurses := true, loops := true, apart := false, narrowed := true }
def LegalTellsUptoSaid : Prop := legalTellsUptoRow.holds Tryz.pinned (OpenSpec.upto legalTellsSpec)

/-- 'pavanelaw11.LegalCloses', WHERE WHAT IT READS IS OF BULK AT MOST 1048576: true; the input reads as it did. -/
def legalClosesUptoRow : OpenClaim := { program := "ytndkfaaeeojeiaagreat", sum := "3bd5d42706483078081a64f60a1ce17387720193d9b3458921cb173cb4ad01d0", func := "pavane/pavanelaw11.LegalCloses", spec := "legalCloses", unfollowed := true, recurses := true, loops := true, apart := false, narrowed := true }
def LegalClosesUptoSaid : Prop := legalClosesUptoRow.holds Tryz.pinned (OpenSpec.upto legalClosesSpec)

end Rows
end Go.Proofs.YtndkfaaeeojeiaaGreat
