/-
  DERIVED. GIVEN WITH THE SEED: THE CARDS: each row of YtadlbafgkibipaaGreatDoorRows.lean that lists a variable, with what it lists TIED to the program's text (the seventh form; the later family's looks); each row that meets fmt, with fmt's text TOLD by the authors' own Lean function (tested against real Go, not proved from fmt's source: count such statements apart). THE CARD IS WHAT COUNTS. Prove the row's statement (the work); the ties are given (YtadlbafgkibipaaGreatDoorTie.lean); close each card by the builder's one call (the guide's Derived/Test/ToyasCard.lean, 'card_holds'). Laid BY PROGRAM, IN A SANDBOX (cutbox-door.mjs). By AI agents, Wed Nov 11 2026. No macro, syntax, notation, axiom, sorry.
-/
import Derived.Test.YtadlbafgkibipaaGreatDoorRows
import GoSem.ClaimSeven
namespace Go.Proofs.YtadlbafgkibipaaGreatDoor
namespace Rows

/-- THE TIED CARD OF 'pavanelaw06.EvalTells'. -/
def evalTellsCard : Claim7 := { stood := { row := evalTellsRow, standIns := [], harness := (true, "09c3bb77e979879cd5359d1cba7fef744382160992f5e14ca62c5b5035f7b1d3"), looks := true }, kinds := [], alts := [], laidByText := true, laidKinds := [.data, .data, .data, .sentinel, .sentinel], laidTests := true, laidLooks := .later }
def EvalTellsCardSaid : Prop := Claim7.holds Tryz.pinned (.plain (OpenSpec.ofChange evalTellsSpec)) evalTellsCard

/-- THE TIED CARD OF 'pavanelaw06.EvalAgain'. -/
def evalAgainCard : Claim7 := { stood := { row := evalAgainRow, standIns := [], harness := (true, "09c3bb77e979879cd5359d1cba7fef744382160992f5e14ca62c5b5035f7b1d3"), looks := true }, kinds := [], alts := [], laidByText := true, laidKinds := [.data, .data, .data, .sentinel, .sentinel], laidTests := true, laidLooks := .later }
def EvalAgainCardSaid : Prop := Claim7.holds Tryz.pinned (.plain (OpenSpec.ofChange evalAgainSpec)) evalAgainCard

/-- THE SECOND FORM's CARD OF 'pavanelaw06.EvalTells'. -/
def evalTellsUptoCard : Claim7 := { stood := { row := evalTellsUptoRow, standIns := [], harness := (true, "09c3bb77e979879cd5359d1cba7fef744382160992f5e14ca62c5b5035f7b1d3"), looks := true }, kinds := [], alts := [], laidByText := true, laidKinds := [.data, .data, .data, .sentinel, .sentinel], laidTests := true, laidLooks := .later }
def EvalTellsUptoCardSaid : Prop := Claim7.holds Tryz.pinned (.plain (OpenSpec.upto evalTellsSpec)) evalTellsUptoCard

/-- THE SECOND FORM's CARD OF 'pavanelaw06.EvalAgain'. -/
def evalAgainUptoCard : Claim7 := { stood := { row := evalAgainUptoRow, standIns := [], harness := (true, "09c3bb77e979879cd5359d1cba7fef744382160992f5e14ca62c5b5035f7b1d3"), looks := true }, kinds := [], alts := [], laidByText := true, laidKinds := [.data, .data, .data, .sentinel, .sentinel], laidTests := true, laidLooks := .later }
def EvalAgainUptoCardSaid : Prop := Claim7.holds Tryz.pinned (.plain (OpenSpec.upto evalAgainSpec)) evalAgainUptoCard
end Rows
end Go.Proofs.YtadlbafgkibipaaGreatDoor
