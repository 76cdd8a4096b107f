/-
  Own work: TimersCome: the plain law.
-/
import Derived.Test.YtbklgfggodgddaaMix
import Derived.Test.YtbklgfggodgddaaDrops
namespace Go.Proofs.Ytbklgfggodgddaa.Con
open Go Go.RowKit Go.Kt Go.Kt.V Go.Proofs.Ytbklgfggodgddaa.Vc
set_option linter.unusedSimpArgs false
set_option linter.unusedVariables false

def lastsList (node : Int) : List Tim → List Tim
  | [] => []
  | a :: r => (if a.n ≠ node ∧ ∀ x, x ∈ r → x.k ≠ a.k then [a] else []) ++ lastsList node r
theorem lasts_mem {node : Int} {x : Tim} : ∀ {add : List Tim}, x ∈ lastsList node add → x ∈ add ∧ x.n ≠ node
  | [], h => by simp [lastsList] at h
  | a :: r, h => by
    simp only [lastsList, List.mem_append] at h
    rcases h with h | h
    · split at h
      · rename_i hc
        simp only [List.mem_singleton] at h
        subst h
        exact ⟨by simp, hc.1⟩
      · simp at h
    · obtain ⟨h1, h2⟩ := lasts_mem h
      exact ⟨by simp [h1], h2⟩
theorem lasts_nodup {node : Int} : ∀ {add : List Tim}, (lastsList node add).Nodup
  | [] => by simp [lastsList]
  | a :: r => by
    simp only [lastsList]
    split
    · rename_i hc
      refine List.nodup_cons.2 ⟨fun h => hc.2 a (lasts_mem h).1 rfl, lasts_nodup⟩
    · simpa using lasts_nodup (add := r)
theorem right_nodup {l : List Tim} (h : RightT l) : l.Nodup := List.Pairwise.imp (fun h e => h.2 (by rw [e])) h
theorem setsT_mem {x : Tim} {node : Int} (hx : x.n ≠ node) : ∀ {add l : List Tim}, x ∈ setsT l add ↔ x ∈ lastsList node add ∨ (x ∈ l ∧ ∀ y, y ∈ add → y.k ≠ x.k)
  | [], l => by simp [setsT, lastsList]
  | a :: r, l => by
    have ih := setsT_mem hx (add := r) (l := setT l a)
    have e : setsT l (a :: r) = setsT (setT l a) r := rfl
    rw [e, ih, setT_mem]
    simp only [lastsList, List.mem_append, List.mem_cons]
    constructor
    · rintro (h | ⟨rfl | ⟨h1, h2⟩, h3⟩)
      · exact .inl (.inr h)
      · exact .inl (.inl (by rw [if_pos ⟨hx, h3⟩]; simp))
      · refine .inr ⟨h1, ?_⟩
        rintro y (rfl | hy)
        · exact h2.symm
        · exact h3 y hy
    · rintro ((h | h) | ⟨h1, h2⟩)
      · split at h
        · rename_i hc
          simp only [List.mem_singleton] at h
          subst h
          exact .inr ⟨.inl rfl, hc.2⟩
        · simp at h
      · exact .inl h
      · exact .inr ⟨.inr ⟨h1, (h2 a (.inl rfl)).symm⟩, fun y hy => h2 y (.inr hy)⟩
/-- what comes, and what was set last -/
theorem come_perm (node : Int) (add : List Tim) : (dropT (setsT [] add) [node]).Perm (lastsList node add) := by
  have hR : RightT (dropT (setsT [] add) [node]) := List.Pairwise.filter _ (setsT_right (by simp [RightT]))
  rw [List.perm_ext_iff_of_nodup (right_nodup hR) lasts_nodup]
  intro x
  rw [drop_mem, List.mem_filter]
  constructor
  · rintro ⟨h1, h2⟩
    have h2 : x.n ≠ node := by simpa using h2
    have := (setsT_mem h2).1 h1
    simpa using this
  · intro h
    have h2 := (lasts_mem h).2
    exact ⟨(setsT_mem h2).2 (.inl h), by simpa using h2⟩
end Go.Proofs.Ytbklgfggodgddaa.Con
