/-
  DERIVED. GIVEN WITH THE SEED: THE CARDS: each row of YtadlbafgkibipaaDoorRows.lean that lists a variable, with what it lists TIED to the program's text (the seventh form; the later family's looks); each row that meets fmt, with fmt's text TOLD by the authors' own Lean function (tested against real Go, not proved from fmt's source: count such statements apart). THE CARD IS WHAT COUNTS. Prove the row's statement (the work); the ties are given (YtadlbafgkibipaaDoorTie.lean); close each card by the builder's one call (the guide's Derived/Test/ToyasCard.lean, 'card_holds'). Laid BY PROGRAM, IN A SANDBOX (cutbox-door.mjs). By AI agents, Wed Nov 11 2026. No macro, syntax, notation, axiom, sorry.
-/
import Derived.Test.YtadlbafgkibipaaDoorRows
import GoSem.ClaimSeven
namespace Go.Proofs.YtadlbafgkibipaaDoor
namespace Rows

/-- THE TIED CARD OF 'pavanelaw06.EvalReckons'. -/
def evalReckonsCard : Claim7 := { stood := { row := evalReckonsRow, standIns := [], harness := (true, "fff2ce626cd376d0c083548374bef4ea81f2289bfbcfbf6ef943c42967e7ce41"), looks := true }, kinds := [], alts := [], laidByText := true, laidKinds := [.data, .data, .data, .sentinel, .sentinel], laidTests := true, laidLooks := .later }
def EvalReckonsCardSaid : Prop := Claim7.holds Tryd.pinned (.plain (OpenSpec.ofChange evalReckonsSpec)) evalReckonsCard

/-- THE SECOND FORM's CARD OF 'pavanelaw06.EvalReckons'. -/
def evalReckonsUptoCard : Claim7 := { stood := { row := evalReckonsUptoRow, standIns := [], harness := (true, "fff2ce626cd376d0c083548374bef4ea81f2289bfbcfbf6ef943c42967e7ce41"), looks := true }, kinds := [], alts := [], laidByText := true, laidKinds := [.data, .data, .data, .sentinel, .sentinel], laidTests := true, laidLooks := .later }
def EvalReckonsUptoCardSaid : Prop := Claim7.holds Tryd.pinned (.plain (OpenSpec.upto evalReckonsSpec)) evalReckonsUptoCard
end Rows
end Go.Proofs.YtadlbafgkibipaaDoor
