/-
  No cell of these rows narrows 'for every input' (looked for: loops, veiled, ifaces, maps, wideKeys, modest, calm, conditions, laid).
  DERIVED. THE GIVEN ROWS OF THIS SEAT. 2 by the template 'for every input the law returns true; each argument reads behind the call as it read before'; 0 by the template 'total and deterministic' (their statements: YtkigioiahpfkgaaTotals.lean).
  GIVEN WITH THE SEED: the statements are not yours to turn. If you find one false, say at which input.
  Laid BY PROGRAM, IN A SANDBOX (cutbox-rows.mjs): the forced cells as the released guide's own fill.sh prints them over the translation 953667a698589ff5… (all of the seat's roots in one cut). By AI agents, Wed Nov 11 2026. No macro, syntax, notation, axiom, sorry.
-/
import Derived.Test.YtkigioiahpfkgaaChecked
import GoSem.Claim
import GoSem.ClaimJoined
import GoSem.ClaimMapViews
import Derived.JoinedTies
import Derived.KernelRfl
namespace Go.Proofs.Ytkigioiahpfkgaa
/- THE CELL 'sum', in the pinned program and in every row, IS THE sha256 OF THE DUMP (.gsa) THAT YtkigioiahpfkgaaProg.lean LOADS. Nothing in Lean hashes anything: it is a label: what it is worth is what the hold of that sum in a sandbox is worth. -/
noncomputable def Try.pinned : Pinned := { name := "ytkigioiahpfkgaa", sum := "953667a698589ff532f21ac06e84d09d4be81e675f6de4b1e8f0812a3cf55d43", checked := Try.checked }
namespace Rows
def none {H : Type} : Left H := { results := [], args := [] }

/-- 'pavanelaw24.LedgerFits': WHATEVER THE INPUT: true; the input reads as it did. -/
def ledgerFitsSpec : ChangeSpec := { name := "ledgerFits", fn := fun _ => fun
  | [d1, d2, d3, d4, d5, d6] => { results := [.lit (.bool true)], args := [d1, d2, d3, d4, d5, d6] }
  | _ => none }
def ledgerFitsRow : OpenClaim := { program := "ytkigioiahpfkgaa", sum := "953667a698589ff532f21ac06e84d09d4be81e675f6de4b1e8f0812a3cf55d43", func := "pavane/pavanelaw24.LedgerFits", spec := "ledgerFits", unfollowed := true, recurses := true, apart := false }
def LedgerFitsSaid : Prop := ledgerFitsRow.holds Try.pinned (OpenSpec.ofChange ledgerFitsSpec)

/-- ITS FALSE NEIGHBOUR: 'it returns false'. Refute it at one input. -/
def ledgerFitsWrong : ChangeSpec := { name := "ledgerFits", fn := fun _ => fun
  | [d1, d2, d3, d4, d5, d6] => { results := [.lit (.bool false)], args := [d1, d2, d3, d4, d5, d6] }
  | _ => none }
def LedgerFitsWrongFalsely : Prop := ledgerFitsRow.holds Try.pinned (OpenSpec.ofChange ledgerFitsWrong)

/-- 'pavanelaw24.LedgerMatches': WHATEVER THE INPUT: true; the input reads as it did. -/
def ledgerMatchesSpec : ChangeSpec := { name := "ledgerMatches", fn := fun _ => fun
  | [d1, d2] => { results := [.lit (.bool true)], args := [d1, d2] }
  | _ => none }
def ledgerMatchesRow : OpenClaim := { program := "ytkigioiahpfkgaa", sum := "953667a698589ff532f21ac06e84d09d4be81e675f6de4b1e8f0812a3cf55d43", func := "pavane/pavanelaw24.LedgerMatches", spec := "ledgerMatches", unfollowed := true, recurses := true, apart := false }
def LedgerMatchesSaid : Prop := ledgerMatchesRow.holds Try.pinned (OpenSpec.ofChange ledgerMatchesSpec)

/-- ITS FALSE NEIGHBOUR: 'it returns false'. Refute it at one input. -/
def ledgerMatchesWrong : ChangeSpec := { name := "ledgerMatches", fn := fun _ => fun
  | [d1, d2] => { results := [.lit (.bool false)], args := [d1, d2] }
  | _ => none }
def LedgerMatchesWrongFalsely : Prop := ledgerMatchesRow.holds Try.pinned (OpenSpec.ofChange ledgerMatchesWrong)

/- THE SECOND FORM. 'bulk': how many values and letters a reading holds, each counted each time it is reached (what is shared counts as often as it is met; a slice's spare places count too). A statement '..UptoSaid' is the law's where the arguments, and the package variables that the reading takes, are together of bulk at most 1048576: NARROWER than '..Said'. Prove '..Said' where nothing that the law and all that it calls make is longer than what came in: it says more and counts as full. Else prove '..UptoSaid'. A law counts once. -/
mutual
def uptoBulk {H : Type} : DataW H → Nat
  | .lit (.string bytes) => bytes.length + 1
  | .lit _ => 1
  | .nil => 1
  | .ptr d => uptoBulk d + 1
  | .slice elems spare => uptoBulkAll elems + uptoBulkAll spare + 1
  | .agg parts => uptoBulkAll parts + 1
  | .iface _ d => uptoBulk d + 1
  | .map entries => uptoBulkEntries entries + 1
  | .held _ => 1
def uptoBulkAll {H : Type} : List (DataW H) → Nat
  | [] => 0
  | d :: r => uptoBulk d + uptoBulkAll r
def uptoBulkEntries {H : Type} : List (Lit × DataW H) → Nat
  | [] => 0
  | x :: r => uptoBulkEntry x + uptoBulkEntries r
def uptoBulkEntry {H : Type} : Lit × DataW H → Nat
  | (.string bytes, d) => bytes.length + uptoBulk d + 1
  | (_, d) => uptoBulk d + 1
 end
def uptoSmall : (H : Type) → List (DataW H) → Bool := fun _ ds => decide (uptoBulkAll ds ≤ 1048576)
def OpenSpec.upto (s : _root_.Go.ChangeSpec) : _root_.Go.OpenSpec := { _root_.Go.OpenSpec.ofChange s with cond := some uptoSmall }

/-- 'pavanelaw24.LedgerFits', WHERE WHAT IT READS IS OF BULK AT MOST 1048576: true; the input reads as it did. -/
def ledgerFitsUptoRow : OpenClaim := { program := "ytkigioiahpfkgaa", sum := "953667a698589ff532f21ac06e84d09d4be81e675f6de4b1e8f0812a3cf55d43", func := "pavane/pavanelaw24.LedgerFits", spec := "ledgerFits", unfollowed := true, recurses := true, apart := false, narrowed := true }
def LedgerFitsUptoSaid : Prop := ledgerFitsUptoRow.holds Try.pinned (OpenSpec.upto ledgerFitsSpec)

/-- 'pavanelaw24.LedgerMatches', WHERE WHAT IT READS IS OF BULK AT MOST 1048576: true; the input reads as it did. -/
def ledgerMatchesUptoRow : OpenClaim := { program := "ytkigioiahpfkgaa", sum := "953667a698589ff532f21ac06e84d09d4be81e675f6de4b1e8f0812a3cf55d43", func := "pavane/pavanelaw24.LedgerMatches", spec := "ledgerMatches", unfollowed := true, recurses := true, apart := false, narrowed := true }
def LedgerMatchesUptoSaid : Prop := ledgerMatchesUptoRow.holds Try.pinned (OpenSpec.upto ledgerMatchesSpec)

end Rows
end Go.Proofs.Ytkigioiahpfkgaa
