
/-
  Own work: where an expression's reading fails there is a fault. No program in sight.
-/
import Derived.Test.YtmanockofcopjaaGreatDoorExc5
namespace Go.Proofs.YtmanockofcopjaaGreatDoor.Con
open Go Go.RowKit Go.Kt Go.Kt.V
set_option linter.unusedSimpArgs false
set_option linter.unusedVariables false
set_option maxHeartbeats 4000000

/-! ## a fault is one -/
theorem inR_err {ts : List Tk} {i : Nat} {e : Int × Int} (h : inR ts i = .error e) : e.1 ≠ 0 := by
  unfold inR at h
  split at h
  · split at h
    · split at h
      · cases h
      · injection h with h; subst h; exact wrongF_ne
    · injection h with h; subst h; exact wrongF_ne
  · injection h with h; subst h; exact wrongF_ne
theorem andR_err {r : Pr} {g : Ex → Nat → Pr} {e : Int × Int} (h : andR r g = .error e) : r = .error e ∨ ∃ x j, r = .ok (x, j) ∧ g x j = .error e := by
  cases r with
  | error e' => exact .inl h
  | ok p => exact .inr ⟨p.1, p.2, rfl, h⟩
theorem nestR_err {d : Nat} {a : Int} {r : Pr} {e : Int × Int} (h : nestR d a r = .error e) : r = .error e ∨ e.1 = 21 := by
  unfold nestR at h
  split at h
  · injection h with h; subst h; exact .inr rfl
  · exact .inl h
theorem loopR_err {ts : List Tk} {E : Nat → Pr} {k : Int} {e : Int × Int} (hE : ∀ i, E i = .error e → e.1 ≠ 0) : ∀ (g : Nat) (x : Ex) (j : Nat), loopR ts E k g x j = .error e → e.1 ≠ 0
  | 0, x, j, h => by cases h
  | g + 1, x, j, h => by
    rw [loopR] at h
    split at h
    · cases h
    · rcases andR_err h with h1 | ⟨y, m, h1, h2⟩
      · exact hE _ h1
      · exact loopR_err hE g _ _ h2
theorem exprR_err {ts : List Tk} {e : Int × Int} : ∀ (f k d i : Nat), exprR ts f k d i = .error e → e.1 ≠ 0
  | 0, k, d, i, h => by
    rw [exprR] at h
    injection h with h; subst h; decide
  | f + 1, k, d, i, h => by
    rw [exprR] at h
    split at h
    · unfold oneR at h
      split at h
      · generalize hn : nestR d (tk ts i).a (exprR ts f 6 (d + 1) (i + 1)) = r at h
        cases r with
        | ok q => cases h
        | error e' =>
          simp only [mapR] at h
          injection h with h; subst h
          rcases nestR_err hn with h1 | h1
          · exact exprR_err f _ _ _ h1
          · rw [h1]; decide
      · split at h
        · rcases nestR_err h with h1 | h1
          · cases hr : exprR ts f 0 (d + 1) (i + 1) with
            | error e' =>
              rw [hr] at h1
              simp only [parR] at h1
              injection h1 with h1; subst h1
              exact exprR_err f _ _ _ hr
            | ok q =>
              rw [hr] at h1
              simp only [parR] at h1
              split at h1
              · cases h1
              · injection h1 with h1; subst h1; exact wrongF_ne
          · rw [h1]; decide
        · split at h
          · cases h
          · split at h
            · cases h
            · split at h
              · exact inR_err h
              · injection h with h; subst h; exact wrongF_ne
    · rcases andR_err h with h1 | ⟨y, m, h1, h2⟩
      · exact exprR_err f _ _ _ h1
      · exact loopR_err (fun i hi => exprR_err f _ _ _ hi) _ _ _ h2
end Go.Proofs.YtmanockofcopjaaGreatDoor.Con
