/-
  No cell of these rows narrows 'for every input' (looked for: loops, veiled, ifaces, maps, wideKeys, modest, calm, conditions, laid).
  DERIVED. THE GIVEN ROWS OF THIS SEAT. 5 by the template 'for every input the law returns true; each argument reads behind the call as it read before'; 0 by the template 'total and deterministic' (their statements: YtahncinfbhjkgaaTotals.lean).
  GIVEN WITH THE SEED: the statements are not yours to turn. If you find one false, say at which input.
  Laid BY PROGRAM, IN A SANDBOX (cutbox-rows.mjs): the forced cells as the released guide's own fill.sh prints them over the translation 307965cd1d6f9265… (all of the seat's roots in one cut). By AI agents, Wed Nov 11 2026. No macro, syntax, notation, axiom, sorry.
-/
import Derived.Test.YtahncinfbhjkgaaChecked
import GoSem.Claim
import GoSem.ClaimJoined
import GoSem.ClaimMapViews
import Derived.JoinedTies
import Derived.KernelRfl
namespace Go.Proofs.Ytahncinfbhjkgaa
/- THE CELL 'sum', in the pinned program and in every row, IS THE sha256 OF THE DUMP (.gsa) THAT YtahncinfbhjkgaaProg.lean LOADS. Nothing in Lean hashes anything: it is a label: what it is worth is what the hold of that sum in a sandbox is worth. -/
noncomputable def Try.pinned : Pinned := { name := "ytahncinfbhjkgaa", sum := "307965cd1d6f9265be081e3b1fec87e89bc70e1e944f6b2eac66a7fab8e46a4b", checked := Try.checked }
namespace Rows
def none {H : Type} : Left H := { results := [], args := [] }

/-- 'pavanelaw19.SessionOnce': WHATEVER THE INPUT: true; the input reads as it did. -/
def sessionOnceSpec : ChangeSpec := { name := "sessionOnce", fn := fun _ => fun
  | [d] => { results := [.lit (.bool true)], args := [d] }
  | _ => none }
def sessionOnceRow : OpenClaim := { program := "ytahncinfbhjkgaa", sum := "307965cd1d6f9265be081e3b1fec87e89bc70e1e944f6b2eac66a7fab8e46a4b", func := "pavane/pavanelaw19.SessionOnce", spec := "sessionOnce", unfollowed := true, recurses := true, apart := false }
def SessionOnceSaid : Prop := sessionOnceRow.holds Try.pinned (OpenSpec.ofChange sessionOnceSpec)

/-- ITS FALSE NEIGHBOUR: 'it returns false'. Refute it at one input. -/
def sessionOnceWrong : ChangeSpec := { name := "sessionOnce", fn := fun _ => fun
  | [d] => { results := [.lit (.bool false)], args := [d] }
  | _ => none }
def SessionOnceWrongFalsely : Prop := sessionOnceRow.holds Try.pinned (OpenSpec.ofChange sessionOnceWrong)

/-- 'pavanelaw19.SessionLeases': WHATEVER THE INPUT: true; the input reads as it did. -/
def sessionLeasesSpec : ChangeSpec := { name := "sessionLeases", fn := fun _ => fun
  | [d1, d2, d3] => { results := [.lit (.bool true)], args := [d1, d2, d3] }
  | _ => none }
def sessionLeasesRow : OpenClaim := { program := "ytahncinfbhjkgaa", sum := "307965cd1d6f9265be081e3b1fec87e89bc70e1e944f6b2eac66a7fab8e46a4b", func := "pavane/pavanelaw19.SessionLeases", spec := "sessionLeases", unfollowed := true, recurses := true, apart := false }
def SessionLeasesSaid : Prop := sessionLeasesRow.holds Try.pinned (OpenSpec.ofChange sessionLeasesSpec)

/-- ITS FALSE NEIGHBOUR: 'it returns false'. Refute it at one input. -/
def sessionLeasesWrong : ChangeSpec := { name := "sessionLeases", fn := fun _ => fun
  | [d1, d2, d3] => { results := [.lit (.bool false)], args := [d1, d2, d3] }
  | _ => none }
def SessionLeasesWrongFalsely : Prop := sessionLeasesRow.holds Try.pinned (OpenSpec.ofChange sessionLeasesWrong)

/-- 'pavanelaw19.SessionFew': WHATEVER THE INPUT: true; the input reads as it did. -/
def sessionFewSpec : ChangeSpec := { name := "sessionFew", fn := fun _ => fun
  | [d] => { results := [.lit (.bool true)], args := [d] }
  | _ => none }
def sessionFewRow : OpenClaim := { program := "ytahncinfbhjkgaa", sum := "307965cd1d6f9265be081e3b1fec87e89bc70e1e944f6b2eac66a7fab8e46a4b", func := "pavane/pavanelaw19.SessionFew", spec := "sessionFew", unfollowed := true, recurses := true, apart := false }
def SessionFewSaid : Prop := sessionFewRow.holds Try.pinned (OpenSpec.ofChange sessionFewSpec)

/-- ITS FALSE NEIGHBOUR: 'it returns false'. Refute it at one input. -/
def sessionFewWrong : ChangeSpec := { name := "sessionFew", fn := fun _ => fun
  | [d] => { results := [.lit (.bool false)], args := [d] }
  | _ => none }
def SessionFewWrongFalsely : Prop := sessionFewRow.holds Try.pinned (OpenSpec.ofChange sessionFewWrong)

/-- 'pavanelaw19.SessionPlays': WHATEVER THE INPUT: true; the input reads as it did. -/
def sessionPlaysSpec : ChangeSpec := { name := "sessionPlays", fn := fun _ => fun
  | [d1, d2, d3, d4] => { results := [.lit (.bool true)], args := [d1, d2, d3, d4] }
  | _ => none }
def sessionPlaysRow : OpenClaim := { program := "ytahncinfbhjkgaa", sum := "307965cd1d6f9265be081e3b1fec87e89bc70e1e944f6b2eac66a7fab8e46a4b", func := "pavane/pavanelaw19.SessionPlays", spec := "sessionPlays", unfollowed := true, recurses := true, apart := false }
def SessionPlaysSaid : Prop := sessionPlaysRow.holds Try.pinned (OpenSpec.ofChange sessionPlaysSpec)

/-- ITS FALSE NEIGHBOUR: 'it returns false'. Refute it at one input. -/
def sessionPlaysWrong : ChangeSpec := { name := "sessionPlays", fn := fun _ => fun
  | [d1, d2, d3, d4] => { results := [.lit (.bool false)], args := [d1, d2, d3, d4] }
  | _ => none }
def SessionPlaysWrongFalsely : Prop := sessionPlaysRow.holds Try.pinned (OpenSpec.ofChange sessionPlaysWrong)

/-- 'pavanelaw19.SessionAgain': WHATEVER THE INPUT: true; the input reads as it did. -/
def sessionAgainSpec : ChangeSpec := { name := "sessionAgain", fn := fun _ => fun
  | [d1, d2] => { results := [.lit (.bool true)], args := [d1, d2] }
  | _ => none }
def sessionAgainRow : OpenClaim := { program := "ytahncinfbhjkgaa", sum := "307965cd1d6f9265be081e3b1fec87e89bc70e1e944f6b2eac66a7fab8e46a4b", func := "pavane/pavanelaw19.SessionAgain", spec := "sessionAgain", unfollowed := true, recurses := true, apart := false }
def SessionAgainSaid : Prop := sessionAgainRow.holds Try.pinned (OpenSpec.ofChange sessionAgainSpec)

/-- ITS FALSE NEIGHBOUR: 'it returns false'. Refute it at one input. -/
def sessionAgainWrong : ChangeSpec := { name := "sessionAgain", fn := fun _ => fun
  | [d1, d2] => { results := [.lit (.bool false)], args := [d1, d2] }
  | _ => none }
def SessionAgainWrongFalsely : Prop := sessionAgainRow.holds Try.pinned (OpenSpec.ofChange sessionAgainWrong)

/- THE SECOND FORM. 'bulk': how many values and letters a reading holds, each counted each time it is reached (what is shared counts as often as it is met; a slice's spare places count too). A statement '..UptoSaid' is the law's where the arguments, and the package variables that the reading takes, are together of bulk at most 1048576: NARROWER than '..Said'. Prove '..Said' where nothing that the law and all that it calls make is longer than what came in: it says more and counts as full. Else prove '..UptoSaid'. A law counts once. -/
mutual
def uptoBulk {H : Type} : DataW H → Nat
  | .lit (.string bytes) => bytes.length + 1
  | .lit _ => 1
  | .nil => 1
  | .ptr d => uptoBulk d + 1
  | .slice elems spare => uptoBulkAll elems + uptoBulkAll spare + 1
  | .agg parts => uptoBulkAll parts + 1
  | .iface _ d => uptoBulk d + 1
  | .map entries => uptoBulkEntries entries + 1
  | .held _ => 1
def uptoBulkAll {H : Type} : List (DataW H) → Nat
  | [] => 0
  | d :: r => uptoBulk d + uptoBulkAll r
def uptoBulkEntries {H : Type} : List (Lit × DataW H) → Nat
  | [] => 0
  | x :: r => uptoBulkEntry x + uptoBulkEntries r
def uptoBulkEntry {H : Type} : Lit × DataW H → Nat
  | (.string bytes, d) => bytes.length + uptoBulk d + 1
  | (_, d) => uptoBulk d + 1
 end
def uptoSmall : (H : Type) → List (DataW H) → Bool := fun _ ds => decide (uptoBulkAll ds ≤ 1048576)
def OpenSpec.upto (s : _root_.Go.ChangeSpec) : _root_.Go.OpenSpec := { _root_.Go.OpenSpec.ofChange s with cond := some uptoSmall }

/-- 'pavanelaw19.SessionOnce', WHERE WHAT IT READS IS OF BULK AT MOST 1048576: true; the input reads as it did. -/
def sessionOnceUptoRow : OpenClaim := { program := "ytahncinfbhjkgaa", sum := "307965cd1d6f9265be081e3b1fec87e89bc70e1e944f6b2eac66a7fab8e46a4b", func := "pavane/pavanelaw19.SessionOnce", spec := "sessionOnce", unfollowed := true, recurses := true, apart := false, narrowed := true }
def SessionOnceUptoSaid : Prop := sessionOnceUptoRow.holds Try.pinned (OpenSpec.upto sessionOnceSpec)

/-- 'pavanelaw19.SessionLeases', WHERE WHAT IT READS IS OF BULK AT MOST 1048576: true; the input reads as it did. -/
def sessionLeasesUptoRow : OpenClaim := { program := "ytahncinfbhjkgaa", sum := "307965cd1d6f9265be081e3b1fec87e89bc70e1e944f6b2eac66a7fab8e46a4b", func := "pavane/pavanelaw19.SessionLeases", spec := "sessionLeases", unfollowed := true, recurses := true, apart := false, narrowed := true }
def SessionLeasesUptoSaid : Prop := sessionLeasesUptoRow.holds Try.pinned (OpenSpec.upto sessionLeasesSpec)

/-- 'pavanelaw19.SessionFew', WHERE WHAT IT READS IS OF BULK AT MOST 1048576: true; the input reads as it did. -/
def sessionFewUptoRow : OpenClaim := { program := "ytahncinfbhjkgaa", sum := "307965cd1d6f9265be081e3b1fec87e89bc70e1e944f6b2eac66a7fab8e46a4b", func := "pavane/pavanelaw19.SessionFew", spec := "sessionFew", unfollowed := true, recurses := true, apart := false, narrowed := true }
def SessionFewUptoSaid : Prop := sessionFewUptoRow.holds Try.pinned (OpenSpec.upto sessionFewSpec)

/-- 'pavanelaw19.SessionPlays', WHERE WHAT IT READS IS OF BULK AT MOST 1048576: true; the input reads as it did. -/
def sessionPlaysUptoRow : OpenClaim := { program := "ytahncinfbhjkgaa", sum := "307965cd1d6f9265be081e3b1fec87e89bc70e1e944f6b2eac66a7fab8e46a4b", func := "pavane/pavanelaw19.SessionPlays", spec := "sessionPlays", unfollowed := true, recurses := true, apart := false, narrowed := true }
def SessionPlaysUptoSaid : Prop := sessionPlaysUptoRow.holds Try.pinned (OpenSpec.upto sessionPlaysSpec)

/-- 'pavanelaw19.SessionAgain', WHERE WHAT IT READS IS OF BULK AT MOST 1048576: true; the input reads as it did. -/
def sessionAgainUptoRow : OpenClaim := { program := "ytahncinfbhjkgaa", sum := "307965cd1d6f9265be081e3b1fec87e89bc70e1e944f6b2eac66a7fab8e46a4b", func := "pavane/pavanelaw19.SessionAgain", spec := "sessionAgain", unfollowed := true, recurses := true, apart := false, narrowed := true }
def SessionAgainUptoSaid : Prop := sessionAgainUptoRow.holds Try.pinned (OpenSpec.upto sessionAgainSpec)

end Rows
end Go.Proofs.Ytahncinfbhjkgaa
