/-
  DERIVED. GIVEN WITH THE SEED: THE CARDS: each row of YtdlcmgbidoabmaaDoorRows.lean that lists a variable, with what it lists TIED to the program's text (the seventh form; the later family's looks); each row that meets fmt, with fmt's text TOLD by the authors' own Lean function (tested against real Go, not proved from fmt's source: count such statements apart). THE CARD IS WHAT COUNTS. Prove the row's statement (the work); the ties are given (YtdlcmgbidoabmaaDoorTie.lean); close each card by the builder's one call (the guide's Derived/Test/ToyasCard.lean, 'card_holds'). Laid BY PROGRAM, IN A SANDBOX (cutbox-door.mjs). By AI agents, Wed Nov 11 2026. No macro, syntax, notation, axiom, sorry.
-/
import Derived.Test.YtdlcmgbidoabmaaDoorRows
import GoSem.ClaimSeven
namespace Go.Proofs.YtdlcmgbidoabmaaDoor
namespace Rows

/-- THE TIED CARD OF 'pavanelaw05.ExprWraps'. -/
def exprWrapsCard : Claim7 := { stood := { row := exprWrapsRow, standIns := [], harness := (true, "1f6422b9491749be69b219b2d798f85a93d898e0fa621c72bb260b74a91b5dcb"), looks := true }, kinds := [], alts := [], laidByText := true, laidKinds := [.data, .data, .data, .sentinel, .sentinel], laidTests := true, laidLooks := .later }
def ExprWrapsCardSaid : Prop := Claim7.holds Tryd.pinned (.plain (OpenSpec.ofChange exprWrapsSpec)) exprWrapsCard

/-- THE TIED CARD OF 'pavanelaw05.ExprLefts'. -/
def exprLeftsCard : Claim7 := { stood := { row := exprLeftsRow, standIns := [], harness := (true, "1f6422b9491749be69b219b2d798f85a93d898e0fa621c72bb260b74a91b5dcb"), looks := true }, kinds := [], alts := [], laidByText := true, laidKinds := [.data, .data, .data, .sentinel, .sentinel], laidTests := true, laidLooks := .later }
def ExprLeftsCardSaid : Prop := Claim7.holds Tryd.pinned (.plain (OpenSpec.ofChange exprLeftsSpec)) exprLeftsCard

/-- THE TIED CARD OF 'pavanelaw05.ExprDeeps'. -/
def exprDeepsCard : Claim7 := { stood := { row := exprDeepsRow, standIns := [], harness := (true, "1f6422b9491749be69b219b2d798f85a93d898e0fa621c72bb260b74a91b5dcb"), looks := true }, kinds := [], alts := [], laidByText := true, laidKinds := [.data, .data, .data, .sentinel, .sentinel], laidTests := true, laidLooks := .later }
def ExprDeepsCardSaid : Prop := Claim7.holds Tryd.pinned (.plain (OpenSpec.ofChange exprDeepsSpec)) exprDeepsCard

/-- THE TIED CARD OF 'pavanelaw05.ExprBack'. -/
def exprBackCard : Claim7 := { stood := { row := exprBackRow, standIns := [], harness := (true, "1f6422b9491749be69b219b2d798f85a93d898e0fa621c72bb260b74a91b5dcb"), looks := true }, kinds := [], alts := [], laidByText := true, laidKinds := [.data, .data, .data, .sentinel, .sentinel], laidTests := true, laidLooks := .later }
def ExprBackCardSaid : Prop := Claim7.holds Tryd.pinned (.plain (OpenSpec.ofChange exprBackSpec)) exprBackCard

/-- THE SECOND FORM's CARD OF 'pavanelaw05.ExprWraps'. -/
def exprWrapsUptoCard : Claim7 := { stood := { row := exprWrapsUptoRow, standIns := [], harness := (true, "1f6422b9491749be69b219b2d798f85a93d898e0fa621c72bb260b74a91b5dcb"), looks := true }, kinds := [], alts := [], laidByText := true, laidKinds := [.data, .data, .data, .sentinel, .sentinel], laidTests := true, laidLooks := .later }
def ExprWrapsUptoCardSaid : Prop := Claim7.holds Tryd.pinned (.plain (OpenSpec.upto exprWrapsSpec)) exprWrapsUptoCard

/-- THE SECOND FORM's CARD OF 'pavanelaw05.ExprLefts'. -/
def exprLeftsUptoCard : Claim7 := { stood := { row := exprLeftsUptoRow, standIns := [], harness := (true, "1f6422b9491749be69b219b2d798f85a93d898e0fa621c72bb260b74a91b5dcb"), looks := true }, kinds := [], alts := [], laidByText := true, laidKinds := [.data, .data, .data, .sentinel, .sentinel], laidTests := true, laidLooks := .later }
def ExprLeftsUptoCardSaid : Prop := Claim7.holds Tryd.pinned (.plain (OpenSpec.upto exprLeftsSpec)) exprLeftsUptoCard

/-- THE SECOND FORM's CARD OF 'pavanelaw05.ExprDeeps'. -/
def exprDeepsUptoCard : Claim7 := { stood := { row := exprDeepsUptoRow, standIns := [], harness := (true, "1f6422b9491749be69b219b2d798f85a93d898e0fa621c72bb260b74a91b5dcb"), looks := true }, kinds := [], alts := [], laidByText := true, laidKinds := [.data, .data, .data, .sentinel, .sentinel], laidTests := true, laidLooks := .later }
def ExprDeepsUptoCardSaid : Prop := Claim7.holds Tryd.pinned (.plain (OpenSpec.upto exprDeepsSpec)) exprDeepsUptoCard

/-- THE SECOND FORM's CARD OF 'pavanelaw05.ExprBack'. -/
def exprBackUptoCard : Claim7 := { stood := { row := exprBackUptoRow, standIns := [], harness := (true, "1f6422b9491749be69b219b2d798f85a93d898e0fa621c72bb260b74a91b5dcb"), looks := true }, kinds := [], alts := [], laidByText := true, laidKinds := [.data, .data, .data, .sentinel, .sentinel], laidTests := true, laidLooks := .later }
def ExprBackUptoCardSaid : Prop := Claim7.holds Tryd.pinned (.plain (OpenSpec.upto exprBackSpec)) exprBackUptoCard
end Rows
end Go.Proofs.YtdlcmgbidoabmaaDoor
