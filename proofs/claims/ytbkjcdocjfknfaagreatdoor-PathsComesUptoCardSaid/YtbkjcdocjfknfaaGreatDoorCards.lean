/-
  DERIVED. GIVEN WITH THE SEED: THE CARDS: each row of YtbkjcdocjfknfaaGreatDoorRows.lean that lists a variable, with what it lists TIED to the program's text (the seventh form; the later family's looks); each row that meets fmt, with fmt's text TOLD by the authors' own Lean function (tested against real Go, not proved from fmt's source: count such statements apart). THE CARD IS WHAT COUNTS. Prove the row's statement (the work); the ties are given (YtbkjcdocjfknfaaGreatDoorTie.lean); close each card by the builder's one call (the guide's Derived/Test/ToyasCard.lean, 'card_holds'). Laid BY PROGRAM, IN A SANDBOX (cutbox-door.mjs). By AI agents, Wed Nov 11 2026. No macro, syntax, notation, axiom, sorry.
-/
import Derived.Test.YtbkjcdocjfknfaaGreatDoorRows
import GoSem.ClaimSeven
namespace Go.Proofs.YtbkjcdocjfknfaaGreatDoor
namespace Rows

/-- THE TIED CARD OF 'pavanelaw16.TableHangs'. -/
def tableHangsCard : Claim7 := { stood := { row := tableHangsRow, standIns := [], harness := (true, "e9ee5bd85cc1fdb8a871bea50f9fb02dacb2f43d43f3b8c5bf44a577821c29e6"), looks := true }, kinds := [], alts := [], laidByText := true, laidKinds := [.data, .data, .data, .sentinel, .sentinel], laidTests := true, laidLooks := .later }
def TableHangsCardSaid : Prop := Claim7.holds Tryz.pinned (.plain (OpenSpec.ofChange tableHangsSpec)) tableHangsCard

/-- THE TIED CARD OF 'pavanelaw16.TableMasks'. -/
def tableMasksCard : Claim7 := { stood := { row := tableMasksRow, standIns := [], harness := (true, "e9ee5bd85cc1fdb8a871bea50f9fb02dacb2f43d43f3b8c5bf44a577821c29e6"), looks := true }, kinds := [], alts := [], laidByText := true, laidKinds := [.data, .data, .data, .sentinel, .sentinel], laidTests := true, laidLooks := .later }
def TableMasksCardSaid : Prop := Claim7.holds Tryz.pinned (.plain (OpenSpec.ofChange tableMasksSpec)) tableMasksCard

/-- THE TIED CARD OF 'pavanelaw16.TableBack'. -/
def tableBackCard : Claim7 := { stood := { row := tableBackRow, standIns := [], harness := (true, "e9ee5bd85cc1fdb8a871bea50f9fb02dacb2f43d43f3b8c5bf44a577821c29e6"), looks := true }, kinds := [], alts := [], laidByText := true, laidKinds := [.data, .data, .data, .sentinel, .sentinel], laidTests := true, laidLooks := .later }
def TableBackCardSaid : Prop := Claim7.holds Tryz.pinned (.plain (OpenSpec.ofChange tableBackSpec)) tableBackCard

/-- THE TIED CARD OF 'pavanelaw16.TableLeaves'. -/
def tableLeavesCard : Claim7 := { stood := { row := tableLeavesRow, standIns := [], harness := (true, "e9ee5bd85cc1fdb8a871bea50f9fb02dacb2f43d43f3b8c5bf44a577821c29e6"), looks := true }, kinds := [], alts := [], laidByText := true, laidKinds := [.data, .data, .data, .sentinel, .sentinel], laidTests := true, laidLooks := .later }
def TableLeavesCardSaid : Prop := Claim7.holds Tryz.pinned (.plain (OpenSpec.ofChange tableLeavesSpec)) tableLeavesCard

/-- THE TIED CARD OF 'pavanelaw13.ChooseApart'. -/
def chooseApartCard : Claim7 := { stood := { row := chooseApartRow, standIns := [], harness := (true, "e9ee5bd85cc1fdb8a871bea50f9fb02dacb2f43d43f3b8c5bf44a577821c29e6"), looks := true }, kinds := [], alts := [], laidByText := true, laidKinds := [.data, .data, .data, .sentinel, .sentinel], laidTests := true, laidLooks := .later }
def ChooseApartCardSaid : Prop := Claim7.holds Tryz.pinned (.plain (OpenSpec.ofChange chooseApartSpec)) chooseApartCard

/-- THE TIED CARD OF 'pavanelaw13.ChooseOne'. -/
def chooseOneCard : Claim7 := { stood := { row := chooseOneRow, standIns := [], harness := (true, "e9ee5bd85cc1fdb8a871bea50f9fb02dacb2f43d43f3b8c5bf44a577821c29e6"), looks := true }, kinds := [], alts := [], laidByText := true, laidKinds := [.data, .data, .data, .sentinel, .sentinel], laidTests := true, laidLooks := .later }
def ChooseOneCardSaid : Prop := Claim7.holds Tryz.pinned (.plain (OpenSpec.ofChange chooseOneSpec)) chooseOneCard

/-- THE TIED CARD OF 'pavanelaw12.PathsComes'. -/
def pathsComesCard : Claim7 := { stood := { row := pathsComesRow, standIns := [], harness := (true, "e9ee5bd85cc1fdb8a871bea50f9fb02dacb2f43d43f3b8c5bf44a577821c29e6"), looks := true }, kinds := [], alts := [], laidByText := true, laidKinds := [.data, .data, .data, .sentinel, .sentinel], laidTests := true, laidLooks := .later }
def PathsComesCardSaid : Prop := Claim7.holds Tryz.pinned (.plain (OpenSpec.ofChange pathsComesSpec)) pathsComesCard

/-- THE TIED CARD OF 'pavanelaw12.PathsStays'. -/
def pathsStaysCard : Claim7 := { stood := { row := pathsStaysRow, standIns := [], harness := (true, "e9ee5bd85cc1fdb8a871bea50f9fb02dacb2f43d43f3b8c5bf44a577821c29e6"), looks := true }, kinds := [], alts := [], laidByText := true, laidKinds := [.data, .data, .data, .sentinel, .sentinel], laidTests := true, laidLooks := .later }
def PathsStaysCardSaid : Prop := Claim7.holds Tryz.pinned (.plain (OpenSpec.ofChange pathsStaysSpec)) pathsStaysCard

/-- THE TIED CARD OF 'pavanelaw13.ChooseStays'. -/
def chooseStaysCard : Claim7 := { stood := { row := chooseStaysRow, standIns := [], harness := (true, "e9ee5bd85cc1fdb8a871bea50f9fb02dacb2f43d43f3b8c5bf44a577821c29e6"), looks := true }, kinds := [], alts := [], laidByText := true, laidKinds := [.data, .data, .data, .sentinel, .sentinel], laidTests := true, laidLooks := .later }
def ChooseStaysCardSaid : Prop := Claim7.holds Tryz.pinned (.plain (OpenSpec.ofChange chooseStaysSpec)) chooseStaysCard

/-- THE SECOND FORM's CARD OF 'pavanelaw16.TableHangs'. -/
def tableHangsUptoCard : Claim7 := { stood := { row := tableHangsUptoRow, standIns := [], harness := (true, "e9ee5bd85cc1fdb8a871bea50f9fb02dacb2f43d43f3b8c5bf44a577821c29e6"), looks := true }, kinds := [], alts := [], laidByText := true, laidKinds := [.data, .data, .data, .sentinel, .sentinel], laidTests := true, laidLooks := .later }
def TableHangsUptoCardSaid : Prop := Claim7.holds Tryz.pinned (.plain (OpenSpec.upto tableHangsSpec)) tableHangsUptoCard

/-- THE SECOND FORM's CARD OF 'pavanelaw16.TableMasks'. -/
def tableMasksUptoCard : Claim7 := { stood := { row := tableMasksUptoRow, standIns := [], harness := (true, "e9ee5bd85cc1fdb8a871bea50f9fb02dacb2f43d43f3b8c5bf44a577821c29e6"), looks := true }, kinds := [], alts := [], laidByText := true, laidKinds := [.data, .data, .data, .sentinel, .sentinel], laidTests := true, laidLooks := .later }
def TableMasksUptoCardSaid : Prop := Claim7.holds Tryz.pinned (.plain (OpenSpec.upto tableMasksSpec)) tableMasksUptoCard

/-- THE SECOND FORM's CARD OF 'pavanelaw16.TableBack'. -/
def tableBackUptoCard : Claim7 := { stood := { row := tableBackUptoRow, standIns := [], harness := (true, "e9ee5bd85cc1fdb8a871bea50f9fb02dacb2f43d43f3b8c5bf44a577821c29e6"), looks := true }, kinds := [], alts := [], laidByText := true, laidKinds := [.data, .data, .data, .sentinel, .sentinel], laidTests := true, laidLooks := .later }
def TableBackUptoCardSaid : Prop := Claim7.holds Tryz.pinned (.plain (OpenSpec.upto tableBackSpec)) tableBackUptoCard

/-- THE SECOND FORM's CARD OF 'pavanelaw16.TableLeaves'. -/
def tableLeavesUptoCard : Claim7 := { stood := { row := tableLeavesUptoRow, standIns := [], harness := (true, "e9ee5bd85cc1fdb8a871bea50f9fb02dacb2f43d43f3b8c5bf44a577821c29e6"), looks := true }, kinds := [], alts := [], laidByText := true, laidKinds := [.data, .data, .data, .sentinel, .sentinel], laidTests := true, laidLooks := .later }
def TableLeavesUptoCardSaid : Prop := Claim7.holds Tryz.pinned (.plain (OpenSpec.upto tableLeavesSpec)) tableLeavesUptoCard

/-- THE SECOND FORM's CARD OF 'pavanelaw13.ChooseApart'. -/
def chooseApartUptoCard : Claim7 := { stood := { row := chooseApartUptoRow, standIns := [], harness := (true, "e9ee5bd85cc1fdb8a871bea50f9fb02dacb2f43d43f3b8c5bf44a577821c29e6"), looks := true }, kinds := [], alts := [], laidByText := true, laidKinds := [.data, .data, .data, .sentinel, .sentinel], laidTests := true, laidLooks := .later }
def ChooseApartUptoCardSaid : Prop := Claim7.holds Tryz.pinned (.plain (OpenSpec.upto chooseApartSpec)) chooseApartUptoCard

/-- THE SECOND FORM's CARD OF 'pavanelaw13.ChooseOne'. -/
def chooseOneUptoCard : Claim7 := { stood := { row := chooseOneUptoRow, standIns := [], harness := (true, "e9ee5bd85cc1fdb8a871bea50f9fb02dacb2f43d43f3b8c5bf44a577821c29e6"), looks := true }, kinds := [], alts := [], laidByText := true, laidKinds := [.data, .data, .data, .sentinel, .sentinel], laidTests := true, laidLooks := .later }
def ChooseOneUptoCardSaid : Prop := Claim7.holds Tryz.pinned (.plain (OpenSpec.upto chooseOneSpec)) chooseOneUptoCard

/-- THE SECOND FORM's CARD OF 'pavanelaw12.PathsComes'. -/
def pathsComesUptoCard : Claim7 := { stood := { row := pathsComesUptoRow, standIns := [], harness := (true, "e9ee5bd85cc1fdb8a871bea50f9fb02dacb2f43d43f3b8c5bf44a577821c29e6"), looks := true }, kinds := [], alts := [], laidByText := true, laidKinds := [.data, .data, .data, .sentinel, .sentinel], laidTests := true, laidLooks := .later }
def PathsComesUptoCardSaid : Prop := Claim7.holds Tryz.pinned (.plain (OpenSpec.upto pathsComesSpec)) pathsComesUptoCard

/-- THE SECOND FORM's CARD OF 'pavanelaw12.PathsStays'. -/
def pathsStaysUptoCard : Claim7 := { stood := { row := pathsStaysUptoRow, standIns := [], harness := (true, "e9ee5bd85cc1fdb8a871bea50f9fb02dacb2f43d43f3b8c5bf44a577821c29e6"), looks := true }, kinds := [], alts := [], laidByText := true, laidKinds := [.data, .data, .data, .sentinel, .sentinel], laidTests := true, laidLooks := .later }
def PathsStaysUptoCardSaid : Prop := Claim7.holds Tryz.pinned (.plain (OpenSpec.upto pathsStaysSpec)) pathsStaysUptoCard

/-- THE SECOND FORM's CARD OF 'pavanelaw13.ChooseStays'. -/
def chooseStaysUptoCard : Claim7 := { stood := { row := chooseStaysUptoRow, standIns := [], harness := (true, "e9ee5bd85cc1fdb8a871bea50f9fb02dacb2f43d43f3b8c5bf44a577821c29e6"), looks := true }, kinds := [], alts := [], laidByText := true, laidKinds := [.data, .data, .data, .sentinel, .sentinel], laidTests := true, laidLooks := .later }
def ChooseStaysUptoCardSaid : Prop := Claim7.holds Tryz.pinned (.plain (OpenSpec.upto chooseStaysSpec)) chooseStaysUptoCard
end Rows
end Go.Proofs.YtbkjcdocjfknfaaGreatDoor
