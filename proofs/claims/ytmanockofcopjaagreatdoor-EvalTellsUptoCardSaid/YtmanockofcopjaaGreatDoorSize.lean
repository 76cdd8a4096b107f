/-
  Own work: how large trees are.
-/
import Derived.Test.YtmanockofcopjaaGreatDoorTree0
namespace Go.Proofs.YtmanockofcopjaaGreatDoor.Con
open Go Go.RowKit Go.Kt Go.Kt.V Go.Proofs.YtmanockofcopjaaGreatDoor.Vc
set_option linter.unusedSimpArgs false
set_option linter.unusedVariables false
set_option maxHeartbeats 4000000

theorem rEx_cells {d : Nat} {w : World} {F : Nat → Prop} {x : Ex} {cs : List Value} (h : rEx d w F x cs) : ∃ sl : Sl, cs = exv x.k x.n x.s x.op sl x.a := by
  cases d with
  | zero => exact h.elim
  | succ d => obtain ⟨l, hcs, _⟩ := h; exact ⟨l, hcs⟩
/-- all texts in a tree are of a size -/
def lenOk : Nat → Ex → Prop
  | 0, _ => True
  | d + 1, x => x.s.length < 4611686018427387903 ∧ ∀ y, y ∈ x.subs → lenOk d y
def cntL (f : Ex → Nat) : List Ex → Nat
  | [] => 0
  | x :: xs => f x + cntL f xs
def cntM : Nat → Ex → Nat
  | 0, _ => 0
  | d + 1, x => 1 + cntL (cntM d) x.subs
/-- numbers are numbers of the machine -/
def numOk : Nat → Ex → Prop
  | 0, _ => True
  | d + 1, x => InI x.n ∧ ∀ y, y ∈ x.subs → numOk d y
/-! ## copies -/
theorem cnt_len {d : Nat} : ∀ {xs : List Ex}, xs.length ≤ cntL (cntM (d + 1)) xs
  | [] => Nat.le_refl _
  | x :: xs => by
    rw [cntL, List.length_cons]
    have := cnt_len (d := d) (xs := xs)
    rw [cntM]
    omega
theorem cnt_at {d : Nat} : ∀ {xs : List Ex} {x : Ex}, x ∈ xs → cntM d x ≤ cntL (cntM d) xs
  | [], _, h => by simp at h
  | y :: xs, x, h => by
    rw [cntL]
    rcases List.mem_cons.1 h with rfl | h
    · omega
    · have := cnt_at (d := d) h; omega
theorem diff_self (t : Bool) (x : Ex) : diffM t x x = false := by simp [diffM]
theorem same_self (t : Bool) : ∀ (d : Nat) (x : Ex), sameM t d x x = true
  | 0, _ => rfl
  | d + 1, x => by
    rw [sameM, if_neg (by rw [diff_self]; decide)]
    have : ∀ l : List Ex, all2 (sameM t d) l l = true := fun l => by
      induction l with
      | nil => rfl
      | cons y l ih => rw [all2, same_self t d y, ih]; rfl
    exact this _
end Go.Proofs.YtmanockofcopjaaGreatDoor.Con
