
/-
  Own work: trees of any kind in memory; when two are equal.
-/
import Derived.Test.YtmanockofcopjaaGreatDoorExc5
namespace Go.Proofs.YtmanockofcopjaaGreatDoor.Con
open Go Go.RowKit Go.Kt Go.Kt.V Go.Proofs.YtmanockofcopjaaGreatDoor.Vc
set_option linter.unusedSimpArgs false
set_option linter.unusedVariables false
set_option maxHeartbeats 4000000

/-- a tree, no deeper than so -/
def rEx : Nat → Rp Ex
  | 0 => fun _ _ _ _ => False
  | d + 1 => fun w F x cs => ∃ sl : Sl, cs = exv x.k x.n x.s x.op sl x.a ∧ SliceF (rEx d) 6 w F sl x.subs
theorem rEx_ok : ∀ d, (rEx d).Ok
  | 0 => ⟨fun h _ => h.elim, fun h => h.elim, fun h _ => h.elim, fun h => h.elim⟩
  | d + 1 => ⟨fun ⟨sl, h1, h2⟩ hk => ⟨sl, h1, SliceF.keep (rEx_ok d) h2 (by decide) hk⟩, fun ⟨sl, h1, h2⟩ => ⟨sl, h1, SliceF.inHeap (rEx_ok d) h2 (by decide)⟩, fun ⟨sl, h1, h2⟩ hk => ⟨sl, h1, SliceF.mono (rEx_ok d) h2 hk⟩, fun ⟨sl, h1, h2⟩ => by
    subst h1
    intro v hv
    simp only [List.mem_cons, List.not_mem_nil, or_false] at hv
    rcases hv with rfl | rfl | rfl | rfl | rfl | rfl <;> rfl⟩
theorem slImp {α : Type} {r q : Rp α} {size : Nat} {w : World} {F : Nat → Prop} {s : Sl} {xs : List α} (h : SliceF r size w F s xs) (hi : ∀ x cs, x ∈ xs → r w F x cs → q w F x cs) : SliceF q size w F s xs :=
  ⟨h.len, h.cap, h.nil0, h.big, fun j x hx => by
    obtain ⟨base, cs, h1, h2, h3, h4, h5⟩ := h.at_ j x hx
    exact ⟨base, cs, h1, h2, h3, h4, hi x cs (List.mem_of_getElem? hx) h5⟩⟩
section
variable {w w' : World} {F : Nat → Prop} {x y : Ex} {cs ds : List Value}
theorem rEx_up : ∀ {d : Nat} {x : Ex} {cs : List Value}, rEx d w F x cs → rEx (d + 1) w F x cs
  | 0, _, _, h => h.elim
  | d + 1, x, cs, ⟨sl, h1, h2⟩ => ⟨sl, h1, slImp h2 fun x cs _ h => rEx_up h⟩
theorem rEx_le {d e : Nat} (h : d ≤ e) (hx : rEx d w F x cs) : rEx e w F x cs := by
  induction e with
  | zero => have : d = 0 := by omega
            subst this; exact hx
  | succ e ih =>
    by_cases he : d = e + 1
    · subst he; exact hx
    · exact rEx_up (ih (by omega))
theorem rEx_only {d : Nat} (h : rEx d w F x cs) (hO : Only [] w w') : rEx d w' F x cs := (rEx_ok d).only h hO (by simp)
theorem RXN.ex {N : Nat → Prop} {lo hi : Nat} (h : RXN w N lo hi x cs) : ∃ d, rEx d w (fun k => lo ≤ k ∧ k < hi) x cs := by
  induction h with
  | leaf lo hi k n s op a => exact ⟨1, Sl.nil, rfl, SliceF.nil _ _ _ _⟩
  | one lo m g hi k n s op a x cs h1 h2 h3 h4 hn h5 ih =>
    obtain ⟨d, ih⟩ := ih
    obtain ⟨sl, hcs, _⟩ := h1.cells
    refine ⟨d + 1, _, rfl, rfl, Nat.le_refl _, fun h => (by cases h), (by decide : (1 : Nat) ≤ 9223372036854775807), fun j y hj => ?_⟩
    have hj0 : j = 0 := by
      have := (List.getElem?_eq_some_iff.1 hj).1
      simp only [Ex.subs, List.length_singleton] at this
      omega
    subst hj0
    simp only [Ex.subs, List.getElem?_cons_zero, Option.some.injEq] at hj
    subst hj
    exact ⟨⟨g, 0, none⟩, cs, rfl, ⟨h2, h4⟩, by rw [hcs]; rfl, by rw [Nat.zero_mul]; exact h5.cells 0 cs fun j v hv => by rw [Nat.zero_add]; exact hv, (rEx_ok d).mono ih fun k hk => ⟨hk.1, by omega⟩⟩
  | two lo m m' m2 g hi k n s op a x y cs ds h1 h2 h3 h4 h5 h6 h7 h8 hn h9 ih1 ih2 =>
    obtain ⟨d1, ih1⟩ := ih1
    obtain ⟨d2, ih2⟩ := ih2
    obtain ⟨sl, hcs, _⟩ := h1.cells
    obtain ⟨sl2, hds, _⟩ := h3.cells
    have e1 : cs.length = 6 := by rw [hcs]; rfl
    have e2 : ds.length = 6 := by rw [hds]; rfl
    refine ⟨max d1 d2 + 1, _, rfl, rfl, Nat.le_refl _, fun h => (by cases h), (by decide : (2 : Nat) ≤ 9223372036854775807), fun j y hj => ?_⟩
    rcases j with _ | _ | j
    · simp only [Ex.subs, List.getElem?_cons_zero, Option.some.injEq] at hj
      subst hj
      exact ⟨⟨g, 0, none⟩, cs, rfl, ⟨by dsimp only; omega, h8⟩, e1, by rw [Nat.zero_mul]; exact h9.cells 0 cs fun j v hv => by rw [Nat.zero_add, List.getElem?_append_left (List.getElem?_eq_some_iff.1 hv).1]; exact hv, (rEx_ok _).mono (rEx_le (Nat.le_max_left _ _) ih1) fun k hk => ⟨hk.1, by omega⟩⟩
    · simp only [Ex.subs, List.getElem?_cons_succ, List.getElem?_cons_zero, Option.some.injEq] at hj
      subst hj
      exact ⟨⟨g, 0, none⟩, ds, rfl, ⟨by dsimp only; omega, h8⟩, e2, by
        rw [addr_lit]
        exact h9.cells 6 ds fun j v hv => by rw [List.getElem?_append_right (by omega), e1, Nat.add_sub_cancel_left]; exact hv, (rEx_ok _).mono (rEx_le (Nat.le_max_right _ _) ih2) fun k hk => ⟨by omega, by omega⟩⟩
    · simp [Ex.subs] at hj
end

/-! ## Same -/
def all2 (f : Ex → Ex → Bool) : List Ex → List Ex → Bool
  | x :: xs, y :: ys => f x y && all2 f xs ys
  | _, _ => true
def diffM (t : Bool) (x y : Ex) : Bool := (((((x.k != y.k) || (x.n != y.n)) || (!decide (x.s = y.s))) || (x.op != y.op)) || (t && (x.a != y.a))) || ((x.subs.length : Int) != (y.subs.length : Int))
def sameM (t : Bool) : Nat → Ex → Ex → Bool
  | 0, _, _ => true
  | d + 1, x, y => if diffM t x y then false else all2 (sameM t d) x.subs y.subs
theorem all2_drop {f : Ex → Ex → Bool} {xs ys : List Ex} {n : Nat} {x y : Ex} (hx : xs[n]? = some x) (hy : ys[n]? = some y) : all2 f (xs.drop n) (ys.drop n) = (f x y && all2 f (xs.drop (n + 1)) (ys.drop (n + 1))) := by
  have e : ∀ {l : List Ex} {z : Ex}, l[n]? = some z → l.drop n = z :: l.drop (n + 1) := fun h => by
    rw [List.drop_eq_getElem_cons (List.getElem?_eq_some_iff.1 h).1, (List.getElem?_eq_some_iff.1 h).2]
  rw [e hx, e hy, all2]
theorem T_eq (l m : List UInt8) : ((T l).toList == (T m).toList) = decide (l = m) := ba_eq l m
end Go.Proofs.YtmanockofcopjaaGreatDoor.Con
