/-
  No cell of these rows narrows 'for every input' (looked for: loops, veiled, ifaces, maps, wideKeys, modest, calm, conditions, laid).
  DERIVED. THE GIVEN ROWS OF THIS SEAT. 4 by the template 'for every input the law returns true; each argument reads behind the call as it read before'; 0 by the template 'total and deterministic' (their statements: YtbklgfggodgddaaTotals.lean).
  GIVEN WITH THE SEED: the statements are not yours to turn. If you find one false, say at which input.
  Laid BY PROGRAM, IN A SANDBOX (cutbox-rows.mjs): the forced cells as the released guide's own fill.sh prints them over the translation 8f3841448be146c1… (all of the seat's roots in one cut). By AI agents, Wed Nov 11 2026. No macro, syntax, notation, axiom, sorry.
-/
import Derived.Test.YtbklgfggodgddaaChecked
import GoSem.Claim
import GoSem.ClaimJoined
import GoSem.ClaimMapViews
import Derived.JoinedTies
import Derived.KernelRfl
namespace Go.Proofs.Ytbklgfggodgddaa
/- THE CELL 'sum', in the pinned program and in every row, IS THE sha256 OF THE DUMP (.gsa) THAT YtbklgfggodgddaaProg.lean LOADS. Nothing in Lean hashes anything: it is a label: what it is worth is what the hold of that sum in a sandbox is worth. -/
noncomputable def Try.pinned : Pinned := { name := "ytbklgfggodgddaa", sum := "8f3841448be146c19b65cd33d3b65fb97b1e26750ef30da4d39976fcd5379cd7", checked := Try.checked }
namespace Rows
def none {H : Type} : Left H := { results := [], args := [] }

/-- 'pavanelaw14.TimersMixes': WHATEVER THE INPUT: true; the input reads as it did. -/
def timersMixesSpec : ChangeSpec := { name := "timersMixes", fn := fun _ => fun
  | [d1, d2, d3] => { results := [.lit (.bool true)], args := [d1, d2, d3] }
  | _ => none }
def timersMixesRow : OpenClaim := { program := "ytbklgfggodgddaa", sum := "8f3841448be146c19b65cd33d3b65fb97b1e26750ef30da4d39976fcd5379cd7", func := "pavane/pavanelaw14.TimersMixes", spec := "timersMixes", inPlace := ["slices.overlaps[pavane/api.Timer]"], unfollowed := true, recurses := true, plainKeys := false, apart := false }
def TimersMixesSaid : Prop := timersMixesRow.holds Try.pinned (OpenSpec.ofChange timersMixesSpec)

/-- ITS FALSE NEIGHBOUR: 'it returns false'. Refute it at one input. -/
def timersMixesWrong : ChangeSpec := { name := "timersMixes", fn := fun _ => fun
  | [d1, d2, d3] => { results := [.lit (.bool false)], args := [d1, d2, d3] }
  | _ => none }
def TimersMixesWrongFalsely : Prop := timersMixesRow.holds Try.pinned (OpenSpec.ofChange timersMixesWrong)

/-- 'pavanelaw14.TimersTells': WHATEVER THE INPUT: true; the input reads as it did. -/
def timersTellsSpec : ChangeSpec := { name := "timersTells", fn := fun _ => fun
  | [d1, d2, d3, d4] => { results := [.lit (.bool true)], args := [d1, d2, d3, d4] }
  | _ => none }
def timersTellsRow : OpenClaim := { program := "ytbklgfggodgddaa", sum := "8f3841448be146c19b65cd33d3b65fb97b1e26750ef30da4d39976fcd5379cd7", func := "pavane/pavanelaw14.TimersTells", spec := "timersTells", inPlace := ["slices.overlaps[pavane/api.Timer]"], unfollowed := true, recurses := true, plainKeys := false, apart := false }
def TimersTellsSaid : Prop := timersTellsRow.holds Try.pinned (OpenSpec.ofChange timersTellsSpec)

/-- ITS FALSE NEIGHBOUR: 'it returns false'. Refute it at one input. -/
def timersTellsWrong : ChangeSpec := { name := "timersTells", fn := fun _ => fun
  | [d1, d2, d3, d4] => { results := [.lit (.bool false)], args := [d1, d2, d3, d4] }
  | _ => none }
def TimersTellsWrongFalsely : Prop := timersTellsRow.holds Try.pinned (OpenSpec.ofChange timersTellsWrong)

/-- 'pavanelaw14.TimersCome': WHATEVER THE INPUT: true; the input reads as it did. -/
def timersComeSpec : ChangeSpec := { name := "timersCome", fn := fun _ => fun
  | [d1, d2] => { results := [.lit (.bool true)], args := [d1, d2] }
  | _ => none }
def timersComeRow : OpenClaim := { program := "ytbklgfggodgddaa", sum := "8f3841448be146c19b65cd33d3b65fb97b1e26750ef30da4d39976fcd5379cd7", func := "pavane/pavanelaw14.TimersCome", spec := "timersCome", inPlace := ["slices.overlaps[pavane/api.Timer]"], unfollowed := true, recurses := true, plainKeys := false, apart := false }
def TimersComeSaid : Prop := timersComeRow.holds Try.pinned (OpenSpec.ofChange timersComeSpec)

/-- ITS FALSE NEIGHBOUR: 'it returns false'. Refute it at one input. -/
def timersComeWrong : ChangeSpec := { name := "timersCome", fn := fun _ => fun
  | [d1, d2] => { results := [.lit (.bool false)], args := [d1, d2] }
  | _ => none }
def TimersComeWrongFalsely : Prop := timersComeRow.holds Try.pinned (OpenSpec.ofChange timersComeWrong)

/-- 'pavanelaw14.TimersDrops': WHATEVER THE INPUT: true; the input reads as it did. -/
def timersDropsSpec : ChangeSpec := { name := "timersDrops", fn := fun _ => fun
  | [d1, d2] => { results := [.lit (.bool true)], args := [d1, d2] }
  | _ => none }
def timersDropsRow : OpenClaim := { program := "ytbklgfggodgddaa", sum := "8f3841448be146c19b65cd33d3b65fb97b1e26750ef30da4d39976fcd5379cd7", func := "pavane/pavanelaw14.TimersDrops", spec := "timersDrops", inPlace := ["slices.overlaps[pavane/api.Timer]"], unfollowed := true, recurses := true, plainKeys := false, apart := false }
def TimersDropsSaid : Prop := timersDropsRow.holds Try.pinned (OpenSpec.ofChange timersDropsSpec)

/-- ITS FALSE NEIGHBOUR: 'it returns false'. Refute it at one input. -/
def timersDropsWrong : ChangeSpec := { name := "timersDrops", fn := fun _ => fun
  | [d1, d2] => { results := [.lit (.bool false)], args := [d1, d2] }
  | _ => none }
def TimersDropsWrongFalsely : Prop := timersDropsRow.holds Try.pinned (OpenSpec.ofChange timersDropsWrong)

/- THE SECOND FORM. 'bulk': how many values and letters a reading holds, each counted each time it is reached (what is shared counts as often as it is met; a slice's spare places count too). A statement '..UptoSaid' is the law's where the arguments, and the package variables that the reading takes, are together of bulk at most 1048576: NARROWER than '..Said'. Prove '..Said' where nothing that the law and all that it calls make is longer than what came in: it says more and counts as full. Else prove '..UptoSaid'. A law counts once. -/
mutual
def uptoBulk {H : Type} : DataW H → Nat
  | .lit (.string bytes) => bytes.length + 1
  | .lit _ => 1
  | .nil => 1
  | .ptr d => uptoBulk d + 1
  | .slice elems spare => uptoBulkAll elems + uptoBulkAll spare + 1
  | .agg parts => uptoBulkAll parts + 1
  | .iface _ d => uptoBulk d + 1
  | .map entries => uptoBulkEntries entries + 1
  | .held _ => 1
def uptoBulkAll {H : Type} : List (DataW H) → Nat
  | [] => 0
  | d :: r => uptoBulk d + uptoBulkAll r
def uptoBulkEntries {H : Type} : List (Lit × DataW H) → Nat
  | [] => 0
  | x :: r => uptoBulkEntry x + uptoBulkEntries r
def uptoBulkEntry {H : Type} : Lit × DataW H → Nat
  | (.string bytes, d) => bytes.length + uptoBulk d + 1
  | (_, d) => uptoBulk d + 1
 end
def uptoSmall : (H : Type) → List (DataW H) → Bool := fun _ ds => decide (uptoBulkAll ds ≤ 1048576)
def OpenSpec.upto (s : _root_.Go.ChangeSpec) : _root_.Go.OpenSpec := { _root_.Go.OpenSpec.ofChange s with cond := some uptoSmall }

/-- 'pavanelaw14.TimersMixes', WHERE WHAT IT READS IS OF BULK AT MOST 1048576: true; the input reads as it did. -/
def timersMixesUptoRow : OpenClaim := { program := "ytbklgfggodgddaa", sum := "8f3841448be146c19b65cd33d3b65fb97b1e26750ef30da4d39976fcd5379cd7", func := "pavane/pavanelaw14.TimersMixes", spec := "timersMixes", inPlace := ["slices.overlaps[pavane/api.Timer]"], unfollowed := true, recurses := true, plainKeys := false, apart := false, narrowed := true }
def TimersMixesUptoSaid : Prop := timersMixesUptoRow.holds Try.pinned (OpenSpec.upto timersMixesSpec)

/-- 'pavanelaw14.TimersTells', WHERE WHAT IT READS IS OF BULK AT MOST 1048576: true; the input reads as it did. -/
def timersTellsUptoRow : OpenClaim := { program := "ytbklgfggodgddaa", sum := "8f3841448be146c19b65cd33d3b65fb97b1e26750ef30da4d39976fcd5379cd7", func := "pavane/pavanelaw14.TimersTells", spec := "timersTells", inPlace := ["slices.overlaps[pavane/api.Timer]"], unfollowed := true, recurses := true, plainKeys := false, apart := false, narrowed := true }
def TimersTellsUptoSaid : Prop := timersTellsUptoRow.holds Try.pinned (OpenSpec.upto timersTellsSpec)

/-- 'pavanelaw14.TimersCome', WHERE WHAT IT READS IS OF BULK AT MOST 1048576: true; the input reads as it did. -/
def timersComeUptoRow : OpenClaim := { program := "ytbklgfggodgddaa", sum := "8f3841448be146c19b65cd33d3b65fb97b1e26750ef30da4d39976fcd5379cd7", func := "pavane/pavanelaw14.TimersCome", spec := "timersCome", inPlace := ["slices.overlaps[pavane/api.Timer]"], unfollowed := true, recurses := true, plainKeys := false, apart := false, narrowed := true }
def TimersComeUptoSaid : Prop := timersComeUptoRow.holds Try.pinned (OpenSpec.upto timersComeSpec)

/-- 'pavanelaw14.TimersDrops', WHERE WHAT IT READS IS OF BULK AT MOST 1048576: true; the input reads as it did. -/
def timersDropsUptoRow : OpenClaim := { program := "ytbklgfggodgddaa", sum := "8f3841448be146c19b65cd33d3b65fb97b1e26750ef30da4d39976fcd5379cd7", func := "pavane/pavanelaw14.TimersDrops", spec := "timersDrops", inPlace := ["slices.overlaps[pavane/api.Timer]"], unfollowed := true, recurses := true, plainKeys := false, apart := false, narrowed := true }
def TimersDropsUptoSaid : Prop := timersDropsUptoRow.holds Try.pinned (OpenSpec.upto timersDropsSpec)

end Rows
end Go.Proofs.Ytbklgfggodgddaa
