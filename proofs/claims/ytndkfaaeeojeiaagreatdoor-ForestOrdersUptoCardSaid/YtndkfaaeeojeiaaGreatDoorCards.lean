/-
  DERIVED. GIVEN WITH THE SEED: THE CARDS: each row of YtndkfaaeeojeiaaGreatDoorRows.lean that lists a variable, with what it lists TIED to the program's text (the seventh form; the later family's looks); each row that meets fmt, with fmt's text TOLD by the authors' own Lean function (tested against real Go, not proved from fmt's source: count such statements apart). THE CARD IS WHAT COUNTS. Prove the row's statement (the work); the ties are given (YtndkfaaeeojeiaaGreatDoorTie.lean); close each card by the builder's one call (the guide's Derived/Test/ToyasCard.lean, 'card_holds'). Laid BY PROGRAM, IN A SANDBOX (cutbox-door.mjs). By AI agents, Wed Nov 11 2026. No macro, syntax, notation, axiom, sorry.
-/
import Derived.Test.YtndkfaaeeojeiaaGreatDoorRows
import GoSem.ClaimSeven
namespace Go.Proofs.YtndkfaaeeojeiaaGreatDoor
namespace Rows

/-- THE TIED CARD OF 'pavanelaw08.PrintBack'. -/
def printBackCard : Claim7 := { stood := { row := printBackRow, standIns := [], harness := (true, "32c7e0b91c02f0d61b7057f7dc4b53c439be0509b8752483c17df74dac9f8346"), looks := true }, kinds := [], alts := [], laidByText := true, laidKinds := [.data, .data, .data, .sentinel, .sentinel], laidTests := true, laidLooks := .later }
def PrintBackCardSaid : Prop := Claim7.holds Tryz.pinned (.plain (OpenSpec.ofChange printBackSpec)) printBackCard

/-- THE TIED CARD OF 'pavanelaw08.PrintWrites'. -/
def printWritesCard : Claim7 := { stood := { row := printWritesRow, standIns := [], harness := (true, "32c7e0b91c02f0d61b7057f7dc4b53c439be0509b8752483c17df74dac9f8346"), looks := true }, kinds := [], alts := [], laidByText := true, laidKinds := [.data, .data, .data, .sentinel, .sentinel], laidTests := true, laidLooks := .later }
def PrintWritesCardSaid : Prop := Claim7.holds Tryz.pinned (.plain (OpenSpec.ofChange printWritesSpec)) printWritesCard

/-- THE TIED CARD OF 'pavanelaw09.ForestLays'. -/
def forestLaysCard : Claim7 := { stood := { row := forestLaysRow, standIns := [], harness := (true, "32c7e0b91c02f0d61b7057f7dc4b53c439be0509b8752483c17df74dac9f8346"), looks := true }, kinds := [], alts := [], laidByText := true, laidKinds := [.data, .data, .data, .sentinel, .sentinel], laidTests := true, laidLooks := .later }
def ForestLaysCardSaid : Prop := Claim7.holds Tryz.pinned (.plain (OpenSpec.ofChange forestLaysSpec)) forestLaysCard

/-- THE TIED CARD OF 'pavanelaw09.ForestMeets'. -/
def forestMeetsCard : Claim7 := { stood := { row := forestMeetsRow, standIns := [], harness := (true, "32c7e0b91c02f0d61b7057f7dc4b53c439be0509b8752483c17df74dac9f8346"), looks := true }, kinds := [], alts := [], laidByText := true, laidKinds := [.data, .data, .data, .sentinel, .sentinel], laidTests := true, laidLooks := .later }
def ForestMeetsCardSaid : Prop := Claim7.holds Tryz.pinned (.plain (OpenSpec.ofChange forestMeetsSpec)) forestMeetsCard

/-- THE TIED CARD OF 'pavanelaw09.ForestEnds'. -/
def forestEndsCard : Claim7 := { stood := { row := forestEndsRow, standIns := [], harness := (true, "32c7e0b91c02f0d61b7057f7dc4b53c439be0509b8752483c17df74dac9f8346"), looks := true }, kinds := [], alts := [], laidByText := true, laidKinds := [.data, .data, .data, .sentinel, .sentinel], laidTests := true, laidLooks := .later }
def ForestEndsCardSaid : Prop := Claim7.holds Tryz.pinned (.plain (OpenSpec.ofChange forestEndsSpec)) forestEndsCard

/-- THE TIED CARD OF 'pavanelaw09.ForestOrders'. -/
def forestOrdersCard : Claim7 := { stood := { row := forestOrdersRow, standIns := [], harness := (true, "32c7e0b91c02f0d61b7057f7dc4b53c439be0509b8752483c17df74dac9f8346"), looks := true }, kinds := [], alts := [], laidByText := true, laidKinds := [.data, .data, .data, .sentinel, .sentinel], laidTests := true, laidLooks := .later }
def ForestOrdersCardSaid : Prop := Claim7.holds Tryz.pinned (.plain (OpenSpec.ofChange forestOrdersSpec)) forestOrdersCard

/-- THE TIED CARD OF 'pavanelaw09.ForestKids'. -/
def forestKidsCard : Claim7 := { stood := { row := forestKidsRow, standIns := [], harness := (true, "32c7e0b91c02f0d61b7057f7dc4b53c439be0509b8752483c17df74dac9f8346"), looks := true }, kinds := [], alts := [], laidByText := true, laidKinds := [.data, .data, .data, .sentinel, .sentinel], laidTests := true, laidLooks := .later }
def ForestKidsCardSaid : Prop := Claim7.holds Tryz.pinned (.plain (OpenSpec.ofChange forestKidsSpec)) forestKidsCard

/-- THE TIED CARD OF 'pavanelaw08.PrintMoves'. -/
def printMovesCard : Claim7 := { stood := { row := printMovesRow, standIns := [], harness := (true, "32c7e0b91c02f0d61b7057f7dc4b53c439be0509b8752483c17df74dac9f8346"), looks := true }, kinds := [], alts := [], laidByText := true, laidKinds := [.data, .data, .data, .data, .sentinel, .sentinel, .pinned], laidTests := true, laidLooks := .later }
def PrintMovesCardSaid : Prop := Claim7.holds Tryz.pinned (.plain (OpenSpec.ofChange printMovesSpec)) printMovesCard

/-- THE SECOND FORM's CARD OF 'pavanelaw08.PrintBack'. -/
def printBackUptoCard : Claim7 := { stood := { row := printBackUptoRow, standIns := [], harness := (true, "32c7e0b91c02f0d61b7057f7dc4b53c439be0509b8752483c17df74dac9f8346"), looks := true }, kinds := [], alts := [], laidByText := true, laidKinds := [.data, .data, .data, .sentinel, .sentinel], laidTests := true, laidLooks := .later }
def PrintBackUptoCardSaid : Prop := Claim7.holds Tryz.pinned (.plain (OpenSpec.upto printBackSpec)) printBackUptoCard

/-- THE SECOND FORM's CARD OF 'pavanelaw08.PrintWrites'. -/
def printWritesUptoCard : Claim7 := { stood := { row := printWritesUptoRow, standIns := [], harness := (true, "32c7e0b91c02f0d61b7057f7dc4b53c439be0509b8752483c17df74dac9f8346"), looks := true }, kinds := [], alts := [], laidByText := true, laidKinds := [.data, .data, .data, .sentinel, .sentinel], laidTests := true, laidLooks := .later }
def PrintWritesUptoCardSaid : Prop := Claim7.holds Tryz.pinned (.plain (OpenSpec.upto printWritesSpec)) printWritesUptoCard

/-- THE SECOND FORM's CARD OF 'pavanelaw09.ForestLays'. -/
def forestLaysUptoCard : Claim7 := { stood := { row := forestLaysUptoRow, standIns := [], harness := (true, "32c7e0b91c02f0d61b7057f7dc4b53c439be0509b8752483c17df74dac9f8346"), looks := true }, kinds := [], alts := [], laidByText := true, laidKinds := [.data, .data, .data, .sentinel, .sentinel], laidTests := true, laidLooks := .later }
def ForestLaysUptoCardSaid : Prop := Claim7.holds Tryz.pinned (.plain (OpenSpec.upto forestLaysSpec)) forestLaysUptoCard

/-- THE SECOND FORM's CARD OF 'pavanelaw09.ForestMeets'. -/
def forestMeetsUptoCard : Claim7 := { stood := { row := forestMeetsUptoRow, standIns := [], harness := (true, "32c7e0b91c02f0d61b7057f7dc4b53c439be0509b8752483c17df74dac9f8346"), looks := true }, kinds := [], alts := [], laidByText := true, laidKinds := [.data, .data, .data, .sentinel, .sentinel], laidTests := true, laidLooks := .later }
def ForestMeetsUptoCardSaid : Prop := Claim7.holds Tryz.pinned (.plain (OpenSpec.upto forestMeetsSpec)) forestMeetsUptoCard

/-- THE SECOND FORM's CARD OF 'pavanelaw09.ForestEnds'. -/
def forestEndsUptoCard : Claim7 := { stood := { row := forestEndsUptoRow, standIns := [], harness := (true, "32c7e0b91c02f0d61b7057f7dc4b53c439be0509b8752483c17df74dac9f8346"), looks := true }, kinds := [], alts := [], laidByText := true, laidKinds := [.data, .data, .data, .sentinel, .sentinel], laidTests := true, laidLooks := .later }
def ForestEndsUptoCardSaid : Prop := Claim7.holds Tryz.pinned (.plain (OpenSpec.upto forestEndsSpec)) forestEndsUptoCard

/-- THE SECOND FORM's CARD OF 'pavanelaw09.ForestOrders'. -/
def forestOrdersUptoCard : Claim7 := { stood := { row := forestOrdersUptoRow, standIns := [], harness := (true, "32c7e0b91c02f0d61b7057f7dc4b53c439be0509b8752483c17df74dac9f8346"), looks := true }, kinds := [], alts := [], laidByText := true, laidKinds := [.data, .data, .data, .sentinel, .sentinel], laidTests := true, laidLooks := .later }
def ForestOrdersUptoCardSaid : Prop := Claim7.holds Tryz.pinned (.plain (OpenSpec.upto forestOrdersSpec)) forestOrdersUptoCard

/-- THE SECOND FORM's CARD OF 'pavanelaw09.ForestKids'. -/
def forestKidsUptoCard : Claim7 := { stood := { row := forestKidsUptoRow, standIns := [], harness := (true, "32c7e0b91c02f0d61b7057f7dc4b53c439be0509b8752483c17df74dac9f8346"), looks := true }, kinds := [], alts := [], laidByText := true, laidKinds := [.data, .data, .data, .sentinel, .sentinel], laidTests := true, laidLooks := .later }
def ForestKidsUptoCardSaid : Prop := Claim7.holds Tryz.pinned (.plain (OpenSpec.upto forestKidsSpec)) forestKidsUptoCard

/-- THE SECOND FORM's CARD OF 'pavanelaw08.PrintMoves'. -/
def printMovesUptoCard : Claim7 := { stood := { row := printMovesUptoRow, standIns := [], harness := (true, "32c7e0b91c02f0d61b7057f7dc4b53c439be0509b8752483c17df74dac9f8346"), looks := true }, kinds := [], alts := [], laidByText := true, laidKinds := [.data, .data, .data, .data, .sentinel, .sentinel, .pinned], laidTests := true, laidLooks := .later }
def PrintMovesUptoCardSaid : Prop := Claim7.holds Tryz.pinned (.plain (OpenSpec.upto printMovesSpec)) printMovesUptoCard
end Rows
end Go.Proofs.YtndkfaaeeojeiaaGreatDoor
