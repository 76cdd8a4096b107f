/-
  Own work: what the functions of the timers package do: Due; the law's small case.
-/
import Derived.Test.YtbklgfggodgddaaCon6
namespace Go.Proofs.Ytbklgfggodgddaa.Con
open Go Go.RowKit Go.Kt Go.Kt.V Go.Proofs.Ytbklgfggodgddaa.Vc
set_option linter.unusedSimpArgs false
set_option linter.unusedVariables false

def isDue (l : List Tim) (now : Int) (t : Tim) (r : List Tim) : Prop := l = t :: r ∧ t.d ≤ now ∧ RightT l
/-- what Due answers -/
def DueA (B : Nat) (w' : World) (l : List Tim) (now : Int) (t : Tim) (s' : Sl) (b : Bool) : Prop :=
  (∃ r, isDue l now t r ∧ b = true ∧ OwnU B w' s' r) ∨ ((∀ t r, ¬ isDue l now t r) ∧ b = false ∧ t = ⟨0, 0, 0⟩ ∧ s' = Sl.nil)
theorem due_c {w : World} {F : Nat → Prop} {s : Sl} {l : List Tim} (h : Tims w F s l) (hl : l.length * 24 ≤ 140737488355328) (now : Int) :
    Calls Try.prog 12 #[Sl.v s, .int .i64 now] w fun e w' => ∃ (t : Tim) (s' : Sl) (b : Bool), e = .returned (.tuple #[t.v, s'.v, .bool b]) ∧ Only [] w w' ∧ DueA w.heap.size w' l now t s' b := by
  refine (timers_Due_wp s now (fun v w' => ∃ (t : Tim) (s' : Sl) (b : Bool), v = (.tuple #[t.v, s'.v, .bool b]) ∧ Only [] w w' ∧ DueA w.heap.size w' l now t s' b) w ?_).mono (by
    rintro e w' ⟨v, rfl, t, s', b, rfl, h⟩; exact ⟨t, s', b, rfl, h⟩)
  unfold timers_Due_vc
  have hlen := h.len
  intro g w0 hg1 hg2 hO0
  have new : ∀ {u u' : World}, Only [] w u → Only [g] u u' → Only [] w u' := fun h k => h.trans k fun x hx => .inr (by simp only [List.mem_singleton] at hx; rw [hx]; exact hg1)
  have h0 := SliceF.only rTim_ok (by decide) h hO0 (by simp)
  refine ⟨fun b w1 => Only [] w0 w1 ∧ ((b = true ∧ ∀ t r, ¬ isDue l now t r) ∨ (b = false ∧ ∃ t r, isDue l now t r)), ?_, ?_⟩
  · rintro b w1 ⟨hO1, hb⟩
    refine ⟨fun hbt w2 hO2 => ?_, fun hbf w3 hO3 => ?_⟩
    · rcases hb with ⟨_, hb⟩ | ⟨e, _⟩
      · exact ⟨⟨0, 0, 0⟩, Sl.nil, false, rfl, new (hO0.tr0 hO1) hO2, .inr ⟨hb, rfl, rfl, rfl⟩⟩
      · rw [hbt] at e; cases e
    · rcases hb with ⟨e, _⟩ | ⟨_, t, r, rfl, ht, hR⟩
      · rw [hbf] at e; cases e
      have hlr : (t :: r).length = r.length + 1 := rfl
      have h3 := SliceF.only rTim_ok (by decide) h (hO0.tr0 (hO1.tr0 hO3)) (by simp)
      obtain ⟨ad, x, cs, g1, g2, g3, g4, g5, rfl, g6⟩ := h3.get (i := 0) (by omega) (by omega)
      simp only [Int.toNat_zero, List.getElem?_cons_zero, Option.some.injEq] at g2
      subst g2
      have hcut := h3.cut (lo := 1) (hi := s.n) (m := s.c) (by omega) h.cap (Nat.le_refl _) (Nat.le_refl _)
      have e : ((t :: r).drop 1).take (s.n - 1) = r := by
        rw [List.drop_succ_cons, List.drop_zero, List.take_of_length_le (by omega)]
      rw [e] at hcut
      refine ⟨fun _ => True, ad, g1, trivial, _, _, _, g5, ⟨by omega, h.cap⟩, (clone_T hcut (by omega)).mono ?_⟩
      rintro _ w4 ⟨s4, rfl, ho4, hO4⟩
      have hs1 := hO1.size
      have hs3 := hO3.size
      have hs0 := hO0.size
      refine ⟨s4, rfl, hO4.same (by simp; omega), Keeps.only hO4, fun w5 hO5 => ⟨t, s4, true, rfl, new (hO0.tr0 (hO1.tr0 (hO3.tr0 hO4))) hO5, .inl ⟨r, ⟨rfl, ht, hR⟩, rfl, ?_⟩⟩⟩
      have ho : OwnU w3.heap.size w4 s4 r := OwnU.of ho4
      have ho5 : OwnU w3.heap.size w5 s4 r := OwnU.keep ho fun k hk hlt => hO5.block k hlt (by simp only [List.mem_singleton]; rintro rfl; have := hk.1; omega)
      exact ho5.low (by omega)
  · by_cases hn : s.n = 0
    · have hl0 : l = [] := List.eq_nil_of_length_eq_zero (by omega)
      subst hl0
      refine ⟨⟨0, 0, none⟩, fun e => by simp [hn] at e, 0, fun e => by simp [hn] at e, fun _ => ⟨Only.refl _ _, .inl ⟨rfl, fun t r e => by cases e.1⟩⟩, fun e => by simp [hn] at e⟩
    · obtain ⟨ad, t, cs, g1, g2, g3, g4, g5, rfl, g6⟩ := h0.get (i := 0) (by omega) (by omega)
      have hl1 : ∃ r, l = t :: r := by
        cases l with
        | nil => simp at g2
        | cons x r =>
          simp only [Int.toNat_zero, List.getElem?_cons_zero, Option.some.injEq] at g2
          exact ⟨r, by rw [g2]⟩
      obtain ⟨r, rfl⟩ := hl1
      have hz : ((s.n : Int) == 0) = false := by simpa using hn
      refine ⟨ad, fun _ => g1, t.d, fun _ => g5.at1 0 _ rfl, ?_⟩
      rw [hz, Bool.false_or]
      refine ⟨fun hd => ⟨Only.refl _ _, .inl ⟨rfl, fun t' r' e => ?_⟩⟩, fun hd => ?_⟩
      · have hd : t.d > now := of_decide_eq_true hd
        obtain ⟨e1, e2, _⟩ := e
        injection e1 with e1 _
        subst e1
        omega
      · have hd : ¬ t.d > now := of_decide_eq_false hd
        refine (right_c h0 (by omega)).mono ?_
        rintro _ w6 ⟨rfl, hO6⟩
        refine ⟨_, rfl, hO6.same (by simp; omega), hO6, ?_⟩
        by_cases hR : RightT (t :: r)
        · exact .inr ⟨by simp [hR], t, r, rfl, by omega, hR⟩
        · exact .inl ⟨by simp [hR], fun t' r' e => hR e.2.2⟩
end Go.Proofs.Ytbklgfggodgddaa.Con
