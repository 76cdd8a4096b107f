/-
  Own work: an empty block is as none: the reader's steps behind, before and at the block. No program in sight.
-/
import Derived.Test.YtmanockofcopjaaGreatDoorSBlk
namespace Go.Proofs.YtmanockofcopjaaGreatDoor.Con
open Go Go.RowKit Go.Kt Go.Kt.V
set_option linter.unusedSimpArgs false
set_option linter.unusedVariables false
set_option linter.unusedSectionVars false
set_option maxHeartbeats 4000000

/-- readers that match -/
structure Lv (p : Nat) (s s' : Sx) : Prop where
  e : s' = { s with i := s'.i }
  m : Mt p s.i s'.i
/-- what is read matches, if nothing was wrong -/
def Wm {α : Type} (p : Nat) (o o' : α × Sx) : Prop := o.2.fc = 0 → o'.2.fc = 0 → o'.1 = o.1 ∧ Lv p o.2 o'.2
def Ws (p : Nat) (s s' : Sx) : Prop := s.fc = 0 → s'.fc = 0 → Lv p s s'
/-- a text that is neither word -/
def Nt (l : List (List UInt8)) : Prop := wEnter ∉ l ∧ wOn ∉ l
instance (l : List (List UInt8)) : Decidable (Nt l) := inferInstanceAs (Decidable (_ ∧ _))
theorem ixS_not {c : List UInt8} : ∀ {l : List (List UInt8)}, c ∉ l → ixS c l = l.length
  | [], _ => rfl
  | x :: l, h => by
    simp only [List.mem_cons, not_or] at h
    rw [ixS, if_neg h.1, ixS_not h.2, List.length_cons]
theorem Lv.fc {p : Nat} {s s' : Sx} (h : Lv p s s') : s'.fc = s.fc := by rw [h.e]
theorem Lv.next {p : Nat} {s s' : Sx} (h : Lv p s s') (m : Mt p (s.i + 1) (s'.i + 1)) : Lv p (nextS s) (nextS s') := ⟨by
  unfold nextS
  dsimp only
  have := h.e
  rw [Sx.mk.injEq] at this ⊢
  exact ⟨rfl, this.2⟩, m⟩
section
variable {A B : List Tk} {p : Nat} (h : Ct A B p) {s s' : Sx}
include h
theorem which_b (k : Lv p s s') {l : List (List UInt8)} (hl : Nt l) : whichS B s' l = whichS A s l ∧ (whichS A s l ≠ 0 → tk B s'.i = tk A s.i ∧ Mt p (s.i + 1) (s'.i + 1)) := by
  rcases h.look k.m with m | ⟨e1, e2⟩
  · refine ⟨?_, fun _ => m⟩
    unfold whichS
    rw [k.fc, m.1]
  · have z : whichS A s l = 0 := by
      unfold whichS
      rw [e1, h.a0]
      split
      · rfl
      · rw [ixS_not hl.1, if_neg (by omega)]
    have z' : whichS B s' l = 0 := by
      unfold whichS
      rw [e2, h.b0]
      split
      · rfl
      · rw [ixS_not hl.2, if_neg (by omega)]
    exact ⟨by rw [z, z'], fun e => absurd z e⟩
theorem must_b (k : Lv p s s') {x : List UInt8} (hx : Nt [x]) : Ws p (mustS A s x) (mustS B s' x) := by
  intro h1 h2
  obtain ⟨e, m⟩ := which_b h k hx
  unfold mustS at h1 h2 ⊢
  rw [e] at h2 ⊢
  by_cases z : whichS A s [x] = 0
  · rw [if_pos z] at h1
    exact absurd h1 wrong_fc
  · rw [if_neg z, if_neg z]
    exact k.next (m z).2
theorem kind_b (k : Lv p s s') {c : Int} (hc : c ≠ 2) : Wm p (kindS A s c) (kindS B s' c) := by
  intro h1 h2
  unfold kindS at h1 h2 ⊢
  by_cases z : s.fc ≠ 0 ∨ (tk A s.i).k ≠ c
  · rw [if_pos z] at h1
    exact absurd h1 wrong_fc
  · by_cases z' : s'.fc ≠ 0 ∨ (tk B s'.i).k ≠ c
    · rw [if_pos z'] at h2
      exact absurd h2 wrong_fc
    · rw [if_neg z, if_neg z']
      rcases h.look k.m with m | ⟨e1, e2⟩
      · exact ⟨m.1, k.next m.2⟩
      · simp only [not_or, Decidable.not_not] at z
        rw [e1, h.a0] at z
        exact absurd z.2.symm hc
theorem name_b (k : Lv p s s') : Wm p (nameS A s) (nameS B s') := by
  intro h1 h2
  obtain ⟨e, m⟩ := kind_b h k (c := 1) (by decide) h1 h2
  exact ⟨congrArg Tk.t e, m⟩
theorem expr_b (k : Lv p s s') : Wm p (exprS A s) (exprS B s') := by
  intro h1 h2
  unfold exprS at h1 h2 ⊢
  by_cases z : s.fc ≠ 0
  · rw [if_pos z] at h1
    exact absurd h1 z
  · have z' : ¬ s'.fc ≠ 0 := by rw [k.fc]; exact z
    rw [if_neg z] at h1 ⊢
    rw [if_neg z'] at h2 ⊢
    by_cases y : (parseA A s.i).2.2.1 ≠ 0
    · rw [if_pos y] at h1
      exact absurd h1 y
    · by_cases y' : (parseA B s'.i).2.2.1 ≠ 0
      · rw [if_pos y'] at h2
        exact absurd h2 y'
      · rw [if_neg y, if_neg y']
        obtain ⟨e, m⟩ := h.parse k.m (Decidable.not_not.1 y) (Decidable.not_not.1 y')
        refine ⟨e, ?_, m⟩
        have := k.e
        rw [Sx.mk.injEq] at this ⊢
        exact ⟨rfl, this.2⟩
theorem useA_b (k : Lv p s s') : Ws p (useA A s) (useA B s') := by
  intro h1 h2
  have e := k.e
  unfold useA at h1 h2 ⊢
  by_cases z : s.a = 0
  · rw [if_pos z] at h1
    exact absurd h1 (stop_fc (by decide))
  · have z' : s'.a ≠ 0 := by rw [e]; exact z
    rw [if_neg z, if_neg z']
    refine ⟨?_, k.m⟩
    rw [Sx.mk.injEq] at e ⊢
    simp only [e, and_self]
theorem useM_b (k : Lv p s s') : Ws p (useM A s) (useM B s') := by
  intro h1 h2
  have e := k.e
  unfold useM at h1 h2 ⊢
  by_cases z : s.m = 0
  · rw [if_pos z] at h1
    exact absurd h1 (stop_fc (by decide))
  · have z' : s'.m ≠ 0 := by rw [e]; exact z
    rw [if_neg z, if_neg z']
    refine ⟨?_, k.m⟩
    rw [Sx.mk.injEq] at e ⊢
    simp only [e, and_self]
theorem useN_b (k : Lv p s s') : Ws p (useN A s) (useN B s') := by
  intro h1 h2
  have e := k.e
  unfold useN at h1 h2 ⊢
  by_cases z : s.n = 0
  · rw [if_pos z] at h1
    exact absurd h1 (stop_fc (by decide))
  · have z' : s'.n ≠ 0 := by rw [e]; exact z
    rw [if_neg z, if_neg z']
    refine ⟨?_, k.m⟩
    rw [Sx.mk.injEq] at e ⊢
    simp only [e, and_self]
theorem useV_b (k : Lv p s s') : Ws p (useV A s) (useV B s') := by
  intro h1 h2
  have e := k.e
  unfold useV at h1 h2 ⊢
  by_cases z : s.v = 0
  · rw [if_pos z] at h1
    exact absurd h1 (stop_fc (by decide))
  · have z' : s'.v ≠ 0 := by rw [e]; exact z
    rw [if_neg z, if_neg z']
    refine ⟨?_, k.m⟩
    rw [Sx.mk.injEq] at e ⊢
    simp only [e, and_self]
theorem actT_b (k : Lv p s s') (c : Nat) (n : List UInt8) (a : Int) : Wm p (actT A s c n a) (actT B s' c n a) := by
  intro h1 h2
  unfold actT at h1 h2 ⊢
  split
  · rename_i hc
    rw [if_pos hc] at h1 h2
    exact ⟨rfl, must_b h k (by decide) h1 h2⟩
  · rename_i hc
    rw [if_neg hc] at h1 h2
    have f1 := ((must_on (ts := A) h.ea _).le h1).1
    have f2 := ((must_on (ts := B) h.eb _).le h2).1
    have g1 := ((expr_on h.ea _).le f1).1
    have g2 := ((expr_on h.eb _).le f2).1
    have m1 := must_b h k (x := [61]) (by decide) g1 g2
    obtain ⟨e, m2⟩ := expr_b h m1 f1 f2
    exact ⟨by dsimp only; rw [e], must_b h m2 (by decide) h1 h2⟩
theorem act_b (k : Lv p s s') : Wm p (actS A s) (actS B s') := by
  intro h1 h2
  obtain ⟨e, m⟩ := which_b h k (l := [wSet, wRaise, wEmit]) (by decide)
  unfold actS at h1 h2 ⊢
  rw [e] at h2 ⊢
  by_cases z : whichS A s [wSet, wRaise, wEmit] = 0
  · rw [if_pos z] at h1
    exact absurd h1 wrong_fc
  · rw [if_neg z] at h1 h2 ⊢
    rw [if_neg z]
    by_cases y : (useA A s).fc ≠ 0
    · rw [if_pos y] at h1
      exact absurd h1 y
    · by_cases y' : (useA B s').fc ≠ 0
      · rw [if_pos y'] at h2
        exact absurd h2 y'
      · rw [if_neg y] at h1 ⊢
        rw [if_neg y'] at h2 ⊢
        obtain ⟨t, m1⟩ := m z
        have u := useA_b h k (Decidable.not_not.1 y) (Decidable.not_not.1 y')
        have u1 := u.next (by rw [useA_i, useA_i]; exact m1)
        have f1 := ((actT_on h.ea _ _ _ _).le h1).1
        have f2 := ((actT_on h.eb _ _ _ _).le h2).1
        obtain ⟨e3, m3⟩ := name_b h u1 f1 f2
        rw [e3, t] at h2 ⊢
        exact actT_b h m3 _ _ _ h1 h2
theorem acts_b : ∀ (f f' : Nat) (acc : List Ac) {s s' : Sx}, Lv p s s' → s.i < A.length → s'.i < B.length → mu A s < f → mu B s' < f' → Wm p (actsS A f acc s) (actsS B f' acc s')
  | 0, _, _, _, _, _, _, _, hm, _ => by omega
  | _, 0, _, _, _, _, _, _, _, hm => by omega
  | f + 1, f' + 1, acc, s, s', k, hi, hi', hm, hm' => by
    intro h1 h2
    obtain ⟨e, m⟩ := which_b h k (l := [[125]]) (by decide)
    rw [actsS] at h1 h2 ⊢
    rw [actsS]
    rw [k.fc, e] at h2 ⊢
    by_cases z : s.fc ≠ 0
    · rw [if_pos z] at h1
      exact absurd h1 z
    · have z' : s'.fc = 0 := by rw [k.fc]; exact Decidable.not_not.1 z
      rw [if_neg z] at h1 h2 ⊢
      rw [if_neg z]
      by_cases y : whichS A s [[125]] ≠ 0
      · rw [if_pos y, if_pos y]
        exact ⟨rfl, k.next (m y).2⟩
      · rw [if_neg y] at h1 h2 ⊢
        rw [if_neg y]
        have f1 := ((acts_on h.ea _ _ _).le h1).1
        have f2 := ((acts_on h.eb _ _ _).le h2).1
        obtain ⟨e3, m3⟩ := act_b h k f1 f2
        have l1 := act_mu h.ea (Decidable.not_not.1 z) hi
        have l2 := act_mu h.eb z' hi'
        rw [e3] at h2 ⊢
        exact acts_b f f' _ m3 ((act_on h.ea s).lt hi) ((act_on h.eb s').lt hi') (by omega) (by omega) h1 h2
omit h in
theorem mu_lt1 (ts : List Tk) (s : Sx) : mu ts s < ts.length + 1 := by
  unfold mu
  split <;> omega
theorem block_b (k : Lv p s s') (hi : s.i < A.length) (hi' : s'.i < B.length) : Wm p (blockS A s) (blockS B s') := by
  intro h1 h2
  unfold blockS at h1 h2 ⊢
  have f1 := ((acts_on h.ea _ _ _).le h1).1
  have f2 := ((acts_on h.eb _ _ _).le h2).1
  have m1 := must_b h k (x := [123]) (by decide) f1 f2
  exact acts_b h _ _ _ m1 ((must_on h.ea _).lt hi) ((must_on h.eb _).lt hi') (mu_lt1 _ _) (mu_lt1 _ _) h1 h2
theorem targ_b : ∀ (f f' : Nat) (x : List UInt8) (acc : List (List UInt8)) {s s' : Sx}, Nt [x] → Lv p s s' → s.i < A.length → s'.i < B.length → mu A s < f → mu B s' < f' → Wm p (targS A f x acc s) (targS B f' x acc s')
  | 0, _, _, _, _, _, _, _, _, _, hm, _ => by omega
  | _, 0, _, _, _, _, _, _, _, _, _, hm => by omega
  | f + 1, f' + 1, x, acc, s, s', hx, k, hi, hi', hm, hm' => by
    intro h1 h2
    obtain ⟨e, m⟩ := which_b h k (l := [x]) hx
    rw [targS] at h1 h2 ⊢
    rw [targS]
    rw [e] at h2 ⊢
    by_cases y : whichS A s [x] = 0
    · rw [if_pos y, if_pos y]
      exact ⟨rfl, k⟩
    · rw [if_neg y] at h1 h2 ⊢
      rw [if_neg y]
      have y' : whichS B s' [x] ≠ 0 := by rw [e]; exact y
      have f1 := ((targ_on h.ea _ _ _ _).le h1).1
      have f2 := ((targ_on h.eb _ _ _ _).le h2).1
      obtain ⟨e3, m3⟩ := name_b h (k.next (m y).2) f1 f2
      have l1 := next_mu h.ea (which_ne y).1 hi (which_ne y).2 (name_on h.ea).toOn0
      have l2 := next_mu h.eb (which_ne y').1 hi' (which_ne y').2 (name_on h.eb).toOn0
      have i1 := (next_on h.ea (which_ne y).1 (which_ne y).2).lt hi
      have i2 := (next_on h.eb (which_ne y').1 (which_ne y').2).lt hi'
      rw [e3] at h2 ⊢
      exact targ_b f f' _ _ (by decide) m3 ((name_on h.ea).lt i1) ((name_on h.eb).lt i2) (by omega) (by omega) h1 h2
theorem moveC_b (k : Lv p s s') (hi : s.i < A.length) (hi' : s'.i < B.length) (v : Mv) : Wm p (moveC A v s) (moveC B v s') := by
  intro h1 h2
  unfold moveC at h1 h2 ⊢
  have f1 := ((must_on h.ea _).le h1).1
  have f2 := ((must_on h.eb _).le h2).1
  obtain ⟨e, m⟩ := targ_b h _ _ [45, 62] [] (by decide) k hi hi' (mu_lt1 _ _) (mu_lt1 _ _) f1 f2
  exact ⟨by dsimp only; rw [e], must_b h m (by decide) h1 h2⟩
theorem moveB_b (k : Lv p s s') (hi : s.i < A.length) (hi' : s'.i < B.length) (v : Mv) : Wm p (moveB A v s) (moveB B v s') := by
  intro h1 h2
  obtain ⟨e, m⟩ := which_b h k (l := [[123]]) (by decide)
  unfold moveB at h1 h2 ⊢
  rw [e] at h2 ⊢
  by_cases y : whichS A s [[123]] = 0
  · rw [if_pos y] at h1 h2 ⊢
    rw [if_pos y]
    exact moveC_b h k hi hi' v h1 h2
  · rw [if_neg y] at h1 h2 ⊢
    rw [if_neg y]
    have f1 := ((moveC_on h.ea _ _).le h1).1
    have f2 := ((moveC_on h.eb _ _).le h2).1
    obtain ⟨e2, m2⟩ := block_b h k hi hi' f1 f2
    rw [e2] at h2 ⊢
    exact moveC_b h m2 ((block_on h.ea _).lt hi) ((block_on h.eb _).lt hi') _ h1 h2
theorem moveA_b (k : Lv p s s') (hi : s.i < A.length) (hi' : s'.i < B.length) (v : Mv) : Wm p (moveA A v s) (moveA B v s') := by
  intro h1 h2
  obtain ⟨e, m⟩ := which_b h k (l := [[91]]) (by decide)
  unfold moveA at h1 h2 ⊢
  rw [e] at h2 ⊢
  by_cases y : whichS A s [[91]] = 0
  · rw [if_pos y] at h1 h2 ⊢
    rw [if_pos y]
    exact moveB_b h k hi hi' v h1 h2
  · rw [if_neg y] at h1 h2 ⊢
    rw [if_neg y]
    have y' : whichS B s' [[91]] ≠ 0 := by rw [e]; exact y
    have f1 := ((moveB_on h.ea _ _).le h1).1
    have f2 := ((moveB_on h.eb _ _).le h2).1
    have g1 := ((must_on h.ea _).le f1).1
    have g2 := ((must_on h.eb _).le f2).1
    obtain ⟨e2, m2⟩ := expr_b h (k.next (m y).2) g1 g2
    have m3 := must_b h m2 (x := [93]) (by decide) f1 f2
    have i1 := (next_on h.ea (which_ne y).1 (which_ne y).2).lt hi
    have i2 := (next_on h.eb (which_ne y').1 (which_ne y').2).lt hi'
    rw [e2] at h2 ⊢
    exact moveB_b h m3 ((must_on h.ea _).lt ((expr_on h.ea _).lt i1)) ((must_on h.eb _).lt ((expr_on h.eb _).lt i2)) _ h1 h2
/-- a move, where the same token stands -/
theorem move_b (k : Lv p s s') (hi : s.i < A.length) (hi' : s'.i < B.length) (c : Int) (t : tk B s'.i = tk A s.i) (m1 : Mt p (s.i + 1) (s'.i + 1)) (ht : (tk A s.i).k ≠ 5) : Wm p (moveS A c s) (moveS B c s') := by
  intro h1 h2
  unfold moveS at h1 h2 ⊢
  by_cases y : (useM A s).fc ≠ 0
  · rw [if_pos y] at h1
    exact absurd h1 y
  · by_cases y' : (useM B s').fc ≠ 0
    · rw [if_pos y'] at h2
      exact absurd h2 y'
    · rw [if_neg y] at h1 ⊢
      rw [if_neg y'] at h2 ⊢
      have u := useM_b h k (Decidable.not_not.1 y) (Decidable.not_not.1 y')
      have u1 := u.next (by rw [useM_i, useM_i]; exact m1)
      have i1 : (nextS (useM A s)).i < A.length := by
        show (useM A s).i + 1 < _
        rw [useM_i]
        exact h.ea.next hi ht
      have i2 : (nextS (useM B s')).i < B.length := by
        show (useM B s').i + 1 < _
        rw [useM_i]
        exact h.eb.next hi' (by rw [t]; exact ht)
      rw [t] at h2 ⊢
      by_cases c1 : c = 1
      · rw [if_pos c1] at h1 h2 ⊢
        rw [if_pos c1]
        have f1 := ((moveA_on h.ea _ _).le h1).1
        have f2 := ((moveA_on h.eb _ _).le h2).1
        obtain ⟨e3, m3⟩ := name_b h u1 f1 f2
        rw [e3] at h2 ⊢
        exact moveA_b h m3 ((name_on h.ea).lt i1) ((name_on h.eb).lt i2) _ h1 h2
      · rw [if_neg c1] at h1 h2 ⊢
        rw [if_neg c1]
        by_cases c3 : c = 3
        · rw [if_pos c3] at h1 h2 ⊢
          rw [if_pos c3]
          have f1 := ((moveA_on h.ea _ _).le h1).1
          have f2 := ((moveA_on h.eb _ _).le h2).1
          obtain ⟨e3, m3⟩ := kind_b h u1 (c := 3) (by decide) f1 f2
          rw [e3] at h2 ⊢
          exact moveA_b h m3 ((kind_on h.ea (by decide)).lt i1) ((kind_on h.eb (by decide)).lt i2) _ h1 h2
        · rw [if_neg c3] at h1 h2 ⊢
          rw [if_neg c3]
          exact moveA_b h u1 i1 i2 _ h1 h2
end
end Go.Proofs.YtmanockofcopjaaGreatDoor.Con
