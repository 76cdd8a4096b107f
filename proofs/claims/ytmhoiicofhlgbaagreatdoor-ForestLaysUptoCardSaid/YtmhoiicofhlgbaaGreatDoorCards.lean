/-
  DERIVED. GIVEN WITH THE SEED: THE CARDS: each row of YtmhoiicofhlgbaaGreatDoorRows.lean that lists a variable, with what it lists TIED to the program's text (the seventh form; the later family's looks); each row that meets fmt, with fmt's text TOLD by the authors' own Lean function (tested against real Go, not proved from fmt's source: count such statements apart). THE CARD IS WHAT COUNTS. Prove the row's statement (the work); the ties are given (YtmhoiicofhlgbaaGreatDoorTie.lean); close each card by the builder's one call (the guide's Derived/Test/ToyasCard.lean, 'card_holds'). Laid BY PROGRAM, IN A SANDBOX (cutbox-door.mjs). By AI agents, Wed Nov 11 2026. No macro, syntax, notation, axiom, sorry.
-/
import Derived.Test.YtmhoiicofhlgbaaGreatDoorRows
import GoSem.ClaimSeven
namespace Go.Proofs.YtmhoiicofhlgbaaGreatDoor
namespace Rows

/-- THE TIED CARD OF 'pavanelaw08.PrintWrites'. -/
def printWritesCard : Claim7 := { stood := { row := printWritesRow, standIns := [], harness := (true, "6efa18dea6fcac557b99d984ab9967b2fb649e768fd3308f639f1247b70b3852"), looks := true }, kinds := [], alts := [], laidByText := true, laidKinds := [.data, .data, .data, .sentinel, .sentinel], laidTests := true, laidLooks := .later }
def PrintWritesCardSaid : Prop := Claim7.holds Tryz.pinned (.plain (OpenSpec.ofChange printWritesSpec)) printWritesCard

/-- THE TIED CARD OF 'pavanelaw09.ForestLays'. -/
def forestLaysCard : Claim7 := { stood := { row := forestLaysRow, standIns := [], harness := (true, "6efa18dea6fcac557b99d984ab9967b2fb649e768fd3308f639f1247b70b3852"), looks := true }, kinds := [], alts := [], laidByText := true, laidKinds := [.data, .data, .data, .sentinel, .sentinel], laidTests := true, laidLooks := .later }
def ForestLaysCardSaid : Prop := Claim7.holds Tryz.pinned (.plain (OpenSpec.ofChange forestLaysSpec)) forestLaysCard

/-- THE TIED CARD OF 'pavanelaw10.LintChecks'. -/
def lintChecksCard : Claim7 := { stood := { row := lintChecksRow, standIns := [], harness := (true, "6efa18dea6fcac557b99d984ab9967b2fb649e768fd3308f639f1247b70b3852"), looks := true }, kinds := [], alts := [], laidByText := true, laidKinds := [.data, .data, .data, .sentinel, .sentinel], laidTests := true, laidLooks := .later }
def LintChecksCardSaid : Prop := Claim7.holds Tryz.pinned (.plain (OpenSpec.ofChange lintChecksSpec)) lintChecksCard

/-- THE TIED CARD OF 'pavanelaw10.LintLess'. -/
def lintLessCard : Claim7 := { stood := { row := lintLessRow, standIns := [], harness := (true, "6efa18dea6fcac557b99d984ab9967b2fb649e768fd3308f639f1247b70b3852"), looks := true }, kinds := [], alts := [], laidByText := true, laidKinds := [.data, .data, .data, .sentinel, .sentinel], laidTests := true, laidLooks := .later }
def LintLessCardSaid : Prop := Claim7.holds Tryz.pinned (.plain (OpenSpec.ofChange lintLessSpec)) lintLessCard

/-- THE TIED CARD OF 'pavanelaw10.LintWaits'. -/
def lintWaitsCard : Claim7 := { stood := { row := lintWaitsRow, standIns := [], harness := (true, "6efa18dea6fcac557b99d984ab9967b2fb649e768fd3308f639f1247b70b3852"), looks := true }, kinds := [], alts := [], laidByText := true, laidKinds := [.data, .data, .data, .sentinel, .sentinel], laidTests := true, laidLooks := .later }
def LintWaitsCardSaid : Prop := Claim7.holds Tryz.pinned (.plain (OpenSpec.ofChange lintWaitsSpec)) lintWaitsCard

/-- THE TIED CARD OF 'pavanelaw10.LintFinds'. -/
def lintFindsCard : Claim7 := { stood := { row := lintFindsRow, standIns := [], harness := (true, "6efa18dea6fcac557b99d984ab9967b2fb649e768fd3308f639f1247b70b3852"), looks := true }, kinds := [], alts := [], laidByText := true, laidKinds := [.data, .data, .data, .sentinel, .sentinel], laidTests := true, laidLooks := .later }
def LintFindsCardSaid : Prop := Claim7.holds Tryz.pinned (.plain (OpenSpec.ofChange lintFindsSpec)) lintFindsCard

/-- THE TIED CARD OF 'pavanelaw08.PrintMoves'. -/
def printMovesCard : Claim7 := { stood := { row := printMovesRow, standIns := [], harness := (true, "6efa18dea6fcac557b99d984ab9967b2fb649e768fd3308f639f1247b70b3852"), looks := true }, kinds := [], alts := [], laidByText := true, laidKinds := [.data, .data, .data, .data, .sentinel, .sentinel, .pinned], laidTests := true, laidLooks := .later }
def PrintMovesCardSaid : Prop := Claim7.holds Tryz.pinned (.plain (OpenSpec.ofChange printMovesSpec)) printMovesCard

/-- THE TIED CARD OF 'pavanelaw10.LintReads'. -/
def lintReadsCard : Claim7 := { stood := { row := lintReadsRow, standIns := [], harness := (true, "6efa18dea6fcac557b99d984ab9967b2fb649e768fd3308f639f1247b70b3852"), looks := true }, kinds := [], alts := [], laidByText := true, laidKinds := [.data, .data, .data, .sentinel, .sentinel], laidTests := true, laidLooks := .later }
def LintReadsCardSaid : Prop := Claim7.holds Tryz.pinned (.plain (OpenSpec.ofChange lintReadsSpec)) lintReadsCard

/-- THE SECOND FORM's CARD OF 'pavanelaw08.PrintWrites'. -/
def printWritesUptoCard : Claim7 := { stood := { row := printWritesUptoRow, standIns := [], harness := (true, "6efa18dea6fcac557b99d984ab9967b2fb649e768fd3308f639f1247b70b3852"), looks := true }, kinds := [], alts := [], laidByText := true, laidKinds := [.data, .data, .data, .sentinel, .sentinel], laidTests := true, laidLooks := .later }
def PrintWritesUptoCardSaid : Prop := Claim7.holds Tryz.pinned (.plain (OpenSpec.upto printWritesSpec)) printWritesUptoCard

/-- THE SECOND FORM's CARD OF 'pavanelaw09.ForestLays'. -/
def forestLaysUptoCard : Claim7 := { stood := { row := forestLaysUptoRow, standIns := [], harness := (true, "6efa18dea6fcac557b99d984ab9967b2fb649e768fd3308f639f1247b70b3852"), looks := true }, kinds := [], alts := [], laidByText := true, laidKinds := [.data, .data, .data, .sentinel, .sentinel], laidTests := true, laidLooks := .later }
def ForestLaysUptoCardSaid : Prop := Claim7.holds Tryz.pinned (.plain (OpenSpec.upto forestLaysSpec)) forestLaysUptoCard

/-- THE SECOND FORM's CARD OF 'pavanelaw10.LintChecks'. -/
def lintChecksUptoCard : Claim7 := { stood := { row := lintChecksUptoRow, standIns := [], harness := (true, "6efa18dea6fcac557b99d984ab9967b2fb649e768fd3308f639f1247b70b3852"), looks := true }, kinds := [], alts := [], laidByText := true, laidKinds := [.data, .data, .data, .sentinel, .sentinel], laidTests := true, laidLooks := .later }
def LintChecksUptoCardSaid : Prop := Claim7.holds Tryz.pinned (.plain (OpenSpec.upto lintChecksSpec)) lintChecksUptoCard

/-- THE SECOND FORM's CARD OF 'pavanelaw10.LintLess'. -/
def lintLessUptoCard : Claim7 := { stood := { row := lintLessUptoRow, standIns := [], harness := (true, "6efa18dea6fcac557b99d984ab9967b2fb649e768fd3308f639f1247b70b3852"), looks := true }, kinds := [], alts := [], laidByText := true, laidKinds := [.data, .data, .data, .sentinel, .sentinel], laidTests := true, laidLooks := .later }
def LintLessUptoCardSaid : Prop := Claim7.holds Tryz.pinned (.plain (OpenSpec.upto lintLessSpec)) lintLessUptoCard

/-- THE SECOND FORM's CARD OF 'pavanelaw10.LintWaits'. -/
def lintWaitsUptoCard : Claim7 := { stood := { row := lintWaitsUptoRow, standIns := [], harness := (true, "6efa18dea6fcac557b99d984ab9967b2fb649e768fd3308f639f1247b70b3852"), looks := true }, kinds := [], alts := [], laidByText := true, laidKinds := [.data, .data, .data, .sentinel, .sentinel], laidTests := true, laidLooks := .later }
def LintWaitsUptoCardSaid : Prop := Claim7.holds Tryz.pinned (.plain (OpenSpec.upto lintWaitsSpec)) lintWaitsUptoCard

/-- THE SECOND FORM's CARD OF 'pavanelaw10.LintFinds'. -/
def lintFindsUptoCard : Claim7 := { stood := { row := lintFindsUptoRow, standIns := [], harness := (true, "6efa18dea6fcac557b99d984ab9967b2fb649e768fd3308f639f1247b70b3852"), looks := true }, kinds := [], alts := [], laidByText := true, laidKinds := [.data, .data, .data, .sentinel, .sentinel], laidTests := true, laidLooks := .later }
def LintFindsUptoCardSaid : Prop := Claim7.holds Tryz.pinned (.plain (OpenSpec.upto lintFindsSpec)) lintFindsUptoCard

/-- THE SECOND FORM's CARD OF 'pavanelaw08.PrintMoves'. -/
def printMovesUptoCard : Claim7 := { stood := { row := printMovesUptoRow, standIns := [], harness := (true, "6efa18dea6fcac557b99d984ab9967b2fb649e768fd3308f639f1247b70b3852"), looks := true }, kinds := [], alts := [], laidByText := true, laidKinds := [.data, .data, .data, .data, .sentinel, .sentinel, .pinned], laidTests := true, laidLooks := .later }
def PrintMovesUptoCardSaid : Prop := Claim7.holds Tryz.pinned (.plain (OpenSpec.upto printMovesSpec)) printMovesUptoCard

/-- THE SECOND FORM's CARD OF 'pavanelaw10.LintReads'. -/
def lintReadsUptoCard : Claim7 := { stood := { row := lintReadsUptoRow, standIns := [], harness := (true, "6efa18dea6fcac557b99d984ab9967b2fb649e768fd3308f639f1247b70b3852"), looks := true }, kinds := [], alts := [], laidByText := true, laidKinds := [.data, .data, .data, .sentinel, .sentinel], laidTests := true, laidLooks := .later }
def LintReadsUptoCardSaid : Prop := Claim7.holds Tryz.pinned (.plain (OpenSpec.upto lintReadsSpec)) lintReadsUptoCard
end Rows
end Go.Proofs.YtmhoiicofhlgbaaGreatDoor
