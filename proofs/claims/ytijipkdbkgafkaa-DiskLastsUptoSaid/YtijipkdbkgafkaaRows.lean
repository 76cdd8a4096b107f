/-
  No cell of these rows narrows 'for every input' (looked for: loops, veiled, ifaces, maps, wideKeys, modest, calm, conditions, laid).
  DERIVED. THE GIVEN ROWS OF THIS SEAT. 4 by the template 'for every input the law returns true; each argument reads behind the call as it read before'; 0 by the template 'total and deterministic' (their statements: YtijipkdbkgafkaaTotals.lean).
  GIVEN WITH THE SEED: the statements are not yours to turn. If you find one false, say at which input.
  Laid BY PROGRAM, IN A SANDBOX (cutbox-rows.mjs): the forced cells as the released guide's own fill.sh prints them over the translation 4fd804e9ad83884f… (all of the seat's roots in one cut). By AI agents, Wed Nov 11 2026. No macro, syntax, notation, axiom, sorry.
-/
import Derived.Test.YtijipkdbkgafkaaChecked
import GoSem.Claim
import GoSem.ClaimJoined
import GoSem.ClaimMapViews
import Derived.JoinedTies
import Derived.KernelRfl
namespace Go.Proofs.Ytijipkdbkgafkaa
/- THE CELL 'sum', in the pinned program and in every row, IS THE sha256 OF THE DUMP (.gsa) THAT YtijipkdbkgafkaaProg.lean LOADS. Nothing in Lean hashes anything: it is a label: what it is worth is what the hold of that sum in a sandbox is worth. -/
noncomputable def Try.pinned : Pinned := { name := "ytijipkdbkgafkaa", sum := "4fd804e9ad83884fd19a214fae07655841a2668e408bf17d4730333f013d06b2", checked := Try.checked }
namespace Rows
def none {H : Type} : Left H := { results := [], args := [] }

/-- 'pavanelaw21.DiskArms': WHATEVER THE INPUT: true; the input reads as it did. -/
def diskArmsSpec : ChangeSpec := { name := "diskArms", fn := fun _ => fun
  | [d1, d2, d3] => { results := [.lit (.bool true)], args := [d1, d2, d3] }
  | _ => none }
def diskArmsRow : OpenClaim := { program := "ytijipkdbkgafkaa", sum := "4fd804e9ad83884fd19a214fae07655841a2668e408bf17d4730333f013d06b2", func := "pavane/pavanelaw21.DiskArms", spec := "diskArms", inPlace := ["internal/bytealg.MakeNoZero"], unfollowed := true, recurses := true, apart := false }
def DiskArmsSaid : Prop := diskArmsRow.holds Try.pinned (OpenSpec.ofChange diskArmsSpec)

/-- ITS FALSE NEIGHBOUR: 'it returns false'. Refute it at one input. -/
def diskArmsWrong : ChangeSpec := { name := "diskArms", fn := fun _ => fun
  | [d1, d2, d3] => { results := [.lit (.bool false)], args := [d1, d2, d3] }
  | _ => none }
def DiskArmsWrongFalsely : Prop := diskArmsRow.holds Try.pinned (OpenSpec.ofChange diskArmsWrong)

/-- 'pavanelaw21.DiskRooms': WHATEVER THE INPUT: true; the input reads as it did. -/
def diskRoomsSpec : ChangeSpec := { name := "diskRooms", fn := fun _ => fun
  | [d1, d2] => { results := [.lit (.bool true)], args := [d1, d2] }
  | _ => none }
def diskRoomsRow : OpenClaim := { program := "ytijipkdbkgafkaa", sum := "4fd804e9ad83884fd19a214fae07655841a2668e408bf17d4730333f013d06b2", func := "pavane/pavanelaw21.DiskRooms", spec := "diskRooms", inPlace := ["internal/bytealg.MakeNoZero"], unfollowed := true, recurses := true, apart := false }
def DiskRoomsSaid : Prop := diskRoomsRow.holds Try.pinned (OpenSpec.ofChange diskRoomsSpec)

/-- ITS FALSE NEIGHBOUR: 'it returns false'. Refute it at one input. -/
def diskRoomsWrong : ChangeSpec := { name := "diskRooms", fn := fun _ => fun
  | [d1, d2] => { results := [.lit (.bool false)], args := [d1, d2] }
  | _ => none }
def DiskRoomsWrongFalsely : Prop := diskRoomsRow.holds Try.pinned (OpenSpec.ofChange diskRoomsWrong)

/-- 'pavanelaw21.DiskPlays': WHATEVER THE INPUT: true; the input reads as it did. -/
def diskPlaysSpec : ChangeSpec := { name := "diskPlays", fn := fun _ => fun
  | [d1, d2] => { results := [.lit (.bool true)], args := [d1, d2] }
  | _ => none }
def diskPlaysRow : OpenClaim := { program := "ytijipkdbkgafkaa", sum := "4fd804e9ad83884fd19a214fae07655841a2668e408bf17d4730333f013d06b2", func := "pavane/pavanelaw21.DiskPlays", spec := "diskPlays", inPlace := ["internal/bytealg.MakeNoZero"], unfollowed := true, recurses := true, apart := false }
def DiskPlaysSaid : Prop := diskPlaysRow.holds Try.pinned (OpenSpec.ofChange diskPlaysSpec)

/-- ITS FALSE NEIGHBOUR: 'it returns false'. Refute it at one input. -/
def diskPlaysWrong : ChangeSpec := { name := "diskPlays", fn := fun _ => fun
  | [d1, d2] => { results := [.lit (.bool false)], args := [d1, d2] }
  | _ => none }
def DiskPlaysWrongFalsely : Prop := diskPlaysRow.holds Try.pinned (OpenSpec.ofChange diskPlaysWrong)

/-- 'pavanelaw21.DiskLasts': WHATEVER THE INPUT: true; the input reads as it did. -/
def diskLastsSpec : ChangeSpec := { name := "diskLasts", fn := fun _ => fun
  | [d1, d2, d3] => { results := [.lit (.bool true)], args := [d1, d2, d3] }
  | _ => none }
def diskLastsRow : OpenClaim := { program := "ytijipkdbkgafkaa", sum := "4fd804e9ad83884fd19a214fae07655841a2668e408bf17d4730333f013d06b2", func := "pavane/pavanelaw21.DiskLasts", spec := "diskLasts", inPlace := ["internal/bytealg.MakeNoZero"], unfollowed := true, recurses := true, apart := false }
def DiskLastsSaid : Prop := diskLastsRow.holds Try.pinned (OpenSpec.ofChange diskLastsSpec)

/-- ITS FALSE NEIGHBOUR: 'it returns false'. Refute it at one input. -/
def diskLastsWrong : ChangeSpec := { name := "diskLasts", fn := fun _ => fun
  | [d1, d2, d3] => { results := [.lit (.bool false)], args := [d1, d2, d3] }
  | _ => none }
def DiskLastsWrongFalsely : Prop := diskLastsRow.holds Try.pinned (OpenSpec.ofChange diskLastsWrong)

/- THE SECOND FORM. 'bulk': how many values and letters a reading holds, each counted each time it is reached (what is shared counts as often as it is met; a slice's spare places count too). A statement '..UptoSaid' is the law's where the arguments, and the package variables that the reading takes, are together of bulk at most 1048576: NARROWER than '..Said'. Prove '..Said' where nothing that the law and all that it calls make is longer than what came in: it says more and counts as full. Else prove '..UptoSaid'. A law counts once. -/
mutual
def uptoBulk {H : Type} : DataW H → Nat
  | .lit (.string bytes) => bytes.length + 1
  | .lit _ => 1
  | .nil => 1
  | .ptr d => uptoBulk d + 1
  | .slice elems spare => uptoBulkAll elems + uptoBulkAll spare + 1
  | .agg parts => uptoBulkAll parts + 1
  | .iface _ d => uptoBulk d + 1
  | .map entries => uptoBulkEntries entries + 1
  | .held _ => 1
def uptoBulkAll {H : Type} : List (DataW H) → Nat
  | [] => 0
  | d :: r => uptoBulk d + uptoBulkAll r
def uptoBulkEntries {H : Type} : List (Lit × DataW H) → Nat
  | [] => 0
  | x :: r => uptoBulkEntry x + uptoBulkEntries r
def uptoBulkEntry {H : Type} : Lit × DataW H → Nat
  | (.string bytes, d) => bytes.length + uptoBulk d + 1
  | (_, d) => uptoBulk d + 1
 end
def uptoSmall : (H : Type) → List (DataW H) → Bool := fun _ ds => decide (uptoBulkAll ds ≤ 1048576)
def OpenSpec.upto (s : _root_.Go.ChangeSpec) : _root_.Go.OpenSpec := { _root_.Go.OpenSpec.ofChange s with cond := some uptoSmall }

/-- 'pavanelaw21.DiskArms', WHERE WHAT IT READS IS OF BULK AT MOST 1048576: true; the input reads as it did. -/
def diskArmsUptoRow : OpenClaim := { program := "ytijipkdbkgafkaa", sum := "4fd804e9ad83884fd19a214fae07655841a2668e408bf17d4730333f013d06b2", func := "pavane/pavanelaw21.DiskArms", spec := "diskArms", inPlace := ["internal/bytealg.MakeNoZero"], unfollowed := true, recurses := true, apart := false, narrowed := true }
def DiskArmsUptoSaid : Prop := diskArmsUptoRow.holds Try.pinned (OpenSpec.upto diskArmsSpec)

/-- 'pavanelaw21.DiskRooms', WHERE WHAT IT READS IS OF BULK AT MOST 1048576: true; the input reads as it did. -/
def diskRoomsUptoRow : OpenClaim := { program := "ytijipkdbkgafkaa", sum := "4fd804e9ad83884fd19a214fae07655841a2668e408bf17d4730333f013d06b2", func := "pavane/pavanelaw21.DiskRooms", spec := "diskRooms", inPlace := ["internal/bytealg.MakeNoZero"], unfollowed := true, recurses := true, apart := false, narrowed := true }
def DiskRoomsUptoSaid : Prop := diskRoomsUptoRow.holds Try.pinned (OpenSpec.upto diskRoomsSpec)

/-- 'pavanelaw21.DiskPlays', WHERE WHAT IT READS IS OF BULK AT MOST 1048576: true; the input reads as it did. -/
def diskPlaysUptoRow : OpenClaim := { program := "ytijipkdbkgafkaa", sum := "4fd804e9ad83884fd19a214fae07655841a2668e408bf17d4730333f013d06b2", func := "pavane/pavanelaw21.DiskPlays", spec := "diskPlays", inPlace := ["internal/bytealg.MakeNoZero"], unfollowed := true, recurses := true, apart := false, narrowed := true }
def DiskPlaysUptoSaid : Prop := diskPlaysUptoRow.holds Try.pinned (OpenSpec.upto diskPlaysSpec)

/-- 'pavanelaw21.DiskLasts', WHERE WHAT IT READS IS OF BULK AT MOST 1048576: true; the input reads as it did. -/
def diskLastsUptoRow : OpenClaim := { program := "ytijipkdbkgafkaa", sum := "4fd804e9ad83884fd19a214fae07655841a2668e408bf17d4730333f013d06b2", func := "pavane/pavanelaw21.DiskLasts", spec := "diskLasts", inPlace := ["internal/bytealg.MakeNoZero"], unfollowed := true, recurses := true, apart := false, narrowed := true }
def DiskLastsUptoSaid : Prop := diskLastsUptoRow.holds Try.pinned (OpenSpec.upto diskLastsSpec)

end Rows
end Go.Proofs.Ytijipkdbkgafkaa
