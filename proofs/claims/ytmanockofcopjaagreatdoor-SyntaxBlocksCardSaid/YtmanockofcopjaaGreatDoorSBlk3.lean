/-
  Own work: an empty block is as none: clauses, nodes, the chart. No program in sight.
-/
import Derived.Test.YtmanockofcopjaaGreatDoorSBlk2
namespace Go.Proofs.YtmanockofcopjaaGreatDoor.Con
open Go Go.RowKit Go.Kt Go.Kt.V
set_option linter.unusedSimpArgs false
set_option linter.unusedVariables false
set_option linter.unusedSectionVars false
set_option maxHeartbeats 4000000

/-! ## steps at known tokens -/
section
variable {ts : List Tk} {s : Sx}
theorem which_at {t : List UInt8} (h0 : s.fc = 0) (hk : (tk ts s.i).k = 2 ∨ (tk ts s.i).k = 4) (e : (tk ts s.i).t = t) (l : List (List UInt8)) : whichS ts s l = if ixS t l < l.length then ixS t l + 1 else 0 := by
  unfold whichS
  rw [e, if_neg]
  rintro (hc | ⟨h1, h2⟩)
  · exact hc h0
  · rcases hk with hk | hk
    · exact h1 hk
    · exact h2 hk
theorem which_nm (hk : (tk ts s.i).k = 1) (l : List (List UInt8)) : whichS ts s l = 0 := by
  unfold whichS
  rw [if_pos (.inr (by rw [hk]; decide))]
theorem must_at {x : List UInt8} (h0 : s.fc = 0) (hk : (tk ts s.i).k = 2 ∨ (tk ts s.i).k = 4) (e : (tk ts s.i).t = x) : mustS ts s x = nextS s := by
  unfold mustS
  rw [which_at h0 hk e, if_neg]
  rw [ixS, if_pos rfl]
  simp
theorem name_at (h0 : s.fc = 0) (hk : (tk ts s.i).k = 1) : nameS ts s = ((tk ts s.i).t, nextS s) := by
  unfold nameS kindS
  rw [if_neg]
  rintro (hc | hc)
  · exact hc h0
  · exact hc hk
theorem block_at (h0 : s.fc = 0) (t1 : tk ts s.i = ⟨4, [123], 0, 0⟩) (t2 : tk ts (s.i + 1) = ⟨4, [125], 0, 0⟩) : blockS ts s = ([], { s with i := s.i + 2 }) := by
  unfold blockS
  rw [must_at h0 (.inr (by rw [t1])) (by rw [t1]), actsS, if_neg (fun hc => hc h0)]
  have e : whichS ts (nextS s) [[125]] = 1 := by
    rw [which_at (s := nextS s) (t := [125]) h0 (.inr (by rw [show tk ts (nextS s).i = _ from t2])) (by rw [show tk ts (nextS s).i = _ from t2])]
    rfl
  rw [if_pos (by rw [e]; decide)]
  rfl
theorem targ_at (h0 : s.fc = 0) (t1 : tk ts s.i = ⟨4, [45, 62], 0, 0⟩) (t2 : tk ts (s.i + 1) = ⟨1, wX, 0, 0⟩) (t3 : tk ts (s.i + 2) = ⟨4, [59], 0, 0⟩) (f : Nat) : targS ts (f + 2) [45, 62] [] s = ([wX], { s with i := s.i + 2 }) := by
  have e1 : whichS ts s [[45, 62]] = 1 := by
    rw [which_at (t := [45, 62]) h0 (.inr (by rw [t1])) (by rw [t1])]
    rfl
  have e2 : nameS ts (nextS s) = (wX, nextS (nextS s)) := by
    rw [name_at (s := nextS s) h0 (by rw [show tk ts (nextS s).i = _ from t2]), show tk ts (nextS s).i = _ from t2]
  have e3 : whichS ts (nextS (nextS s)) [[44]] = 0 := by
    rw [which_at (s := nextS (nextS s)) (t := [59]) h0 (.inr (by rw [show tk ts (nextS (nextS s)).i = _ from t3])) (by rw [show tk ts (nextS (nextS s)).i = _ from t3])]
    rfl
  rw [targS, e1, if_neg (by decide), e2, targS, e3, if_pos rfl]
  rfl
def mGo : Mv := ⟨1, wGo, 0, false, ex0, [], [wX], 0⟩
theorem moveC_at {v : Mv} (h0 : s.fc = 0) (t1 : tk ts s.i = ⟨4, [45, 62], 0, 0⟩) (t2 : tk ts (s.i + 1) = ⟨1, wX, 0, 0⟩) (t3 : tk ts (s.i + 2) = ⟨4, [59], 0, 0⟩) (hl : 0 < ts.length) : moveC ts v s = ({ v with tg := [wX] }, { s with i := s.i + 3 }) := by
  unfold moveC
  obtain ⟨g, hg⟩ : ∃ g, ts.length + 1 = g + 2 := ⟨ts.length - 1, by omega⟩
  rw [hg, targ_at h0 t1 t2 t3]
  dsimp only
  rw [must_at (s := { s with i := s.i + 2 }) h0 (.inr (by rw [show tk ts (s.i + 2) = _ from t3])) (by rw [show tk ts (s.i + 2) = _ from t3])]
  rfl
theorem moveA_p {v : Mv} (h0 : s.fc = 0) (t1 : tk ts s.i = ⟨4, [45, 62], 0, 0⟩) (t2 : tk ts (s.i + 1) = ⟨1, wX, 0, 0⟩) (t3 : tk ts (s.i + 2) = ⟨4, [59], 0, 0⟩) (hl : 0 < ts.length) : moveA ts v s = ({ v with tg := [wX] }, { s with i := s.i + 3 }) := by
  unfold moveA moveB
  have e : ∀ x, x ≠ [45, 62] → whichS ts s [x] = 0 := fun x hx => by
    have hix : ixS [45, 62] [x] = 1 := by rw [ixS, if_neg (fun e => hx e.symm)]; rfl
    rw [which_at (t := [45, 62]) h0 (.inr (by rw [t1])) (by rw [t1]), hix]
    rfl
  rw [e _ (by decide), if_pos rfl, e _ (by decide), if_pos rfl]
  exact moveC_at h0 t1 t2 t3 hl
theorem moveA_e {v : Mv} (h0 : s.fc = 0) (t1 : tk ts s.i = ⟨4, [123], 0, 0⟩) (t2 : tk ts (s.i + 1) = ⟨4, [125], 0, 0⟩) (t3 : tk ts (s.i + 2) = ⟨4, [45, 62], 0, 0⟩) (t4 : tk ts (s.i + 3) = ⟨1, wX, 0, 0⟩) (t5 : tk ts (s.i + 4) = ⟨4, [59], 0, 0⟩) (hl : 0 < ts.length) : moveA ts v s = ({ v with acts := [], tg := [wX] }, { s with i := s.i + 5 }) := by
  unfold moveA moveB
  have e1 : whichS ts s [[91]] = 0 := by
    rw [which_at (t := [123]) h0 (.inr (by rw [t1])) (by rw [t1])]
    rfl
  have e2 : whichS ts s [[123]] = 1 := by
    rw [which_at (t := [123]) h0 (.inr (by rw [t1])) (by rw [t1])]
    rfl
  rw [e1, if_pos rfl, e2, if_neg (by decide), block_at h0 t1 t2]
  exact moveC_at (s := { s with i := s.i + 2 }) h0 t3 t4 t5 hl
theorem move_pre (h0 : s.fc = 0) (hm : s.m ≠ 0) (t0 : tk ts s.i = ⟨2, wOn, 0, 0⟩) (t1 : tk ts (s.i + 1) = ⟨1, wGo, 0, 0⟩) : moveS ts 1 s = moveA ts { mv0 1 0 with ev := wGo } { s with i := s.i + 2, m := dec s.m } := by
  unfold moveS
  have eu : useM ts s = { s with m := dec s.m } := by unfold useM; rw [if_neg hm]
  rw [eu, if_neg (fun hc => hc h0), if_pos rfl, t0]
  rw [name_at (s := nextS { s with m := dec s.m }) h0 (by rw [show tk ts (nextS { s with m := dec s.m }).i = _ from t1]), show tk ts (nextS { s with m := dec s.m }).i = _ from t1]
  rfl
theorem move_no (h0 : s.fc = 0) (hm : s.m = 0) (k : Int) : (moveS ts k s).2.fc ≠ 0 := by
  unfold moveS
  have eu : (useM ts s).fc ≠ 0 := by
    unfold useM
    rw [if_pos hm]
    exact stop_fc (by decide)
  rw [if_pos eu]
  exact eu
end

/-! ## clauses -/
def clQ (ts : List Tk) (s : Sx) (n : Nb) (a : Had) (q : Nat) : Bool × Nb × Had × Sx := match q with
  | 0 => (false, n, a, s)
  | 1 => if a.i then (false, n, a, wrongS ts s) else (true, { n with ini := (nameS ts (nextS s)).1 }, { a with i := true }, mustS ts (nameS ts (nextS s)).2 [59])
  | 2 => if a.e then (false, n, a, wrongS ts s) else (true, { n with en := (blockS ts (nextS s)).1 }, { a with e := true }, (blockS ts (nextS s)).2)
  | _ => if a.l then (false, n, a, wrongS ts s) else (true, { n with lv := (blockS ts (nextS s)).1 }, { a with l := true }, (blockS ts (nextS s)).2)
theorem clause_q {ts : List Tk} {s : Sx} {n : Nb} {a : Had} (y : whichS ts s [wOn, wAlways, wAfter] = 0) {q : Nat} (hq : whichS ts s [wInitial, wEnter, wLeave] = q) : clauseS ts n a s = clQ ts s n a q := by
  subst hq
  unfold clauseS clQ
  rw [if_neg (fun hc => hc y)]
  generalize whichS ts s [wInitial, wEnter, wLeave] = q
  match q with
  | 0 => rfl
  | 1 => rfl
  | 2 => rfl
  | _ + 3 => rfl
structure Hd (n : Nb) (a b : Had) : Prop where
  i : b.i = a.i
  l : b.l = a.l
  e : b.e = true → a.e = true
  z : a.e = false → n.en = []
section
variable {A B : List Tk} {p : Nat} (h : Ct A B p) {s s' : Sx}
include h
theorem clause_b (k : Lv p s s') (hi : s.i < A.length) (hi' : s'.i < B.length) (t : tk B s'.i = tk A s.i) (m1 : Mt p (s.i + 1) (s'.i + 1)) {n : Nb} {a b : Had} (hd : Hd n a b)
    (h1 : (clauseS A n a s).2.2.2.fc = 0) (h2 : (clauseS B n b s').2.2.2.fc = 0) :
    (clauseS B n b s').1 = (clauseS A n a s).1 ∧ (clauseS B n b s').2.1 = (clauseS A n a s).2.1 ∧ Hd (clauseS A n a s).2.1 (clauseS A n a s).2.2.1 (clauseS B n b s').2.2.1 ∧ Lv p (clauseS A n a s).2.2.2 (clauseS B n b s').2.2.2 := by
  have hw : ∀ l, whichS B s' l = whichS A s l := fun l => by unfold whichS; rw [k.fc, t]
  by_cases y : whichS A s [wOn, wAlways, wAfter] ≠ 0
  · have eA : clauseS A n a s = (true, { n with mv := n.mv ++ [(moveS A (whichS A s [wOn, wAlways, wAfter] : Nat) s).1] }, a, (moveS A (whichS A s [wOn, wAlways, wAfter] : Nat) s).2) := by
      unfold clauseS
      rw [if_pos y]
    have eB : clauseS B n b s' = (true, { n with mv := n.mv ++ [(moveS B (whichS A s [wOn, wAlways, wAfter] : Nat) s').1] }, b, (moveS B (whichS A s [wOn, wAlways, wAfter] : Nat) s').2) := by
      unfold clauseS
      rw [hw, if_pos y]
    rw [eA] at h1 ⊢
    rw [eB] at h2 ⊢
    obtain ⟨e, m⟩ := move_b h k hi hi' (whichS A s [wOn, wAlways, wAfter] : Nat) t m1 (which_ne y).2 h1 h2
    exact ⟨rfl, by dsimp only; rw [e], ⟨hd.i, hd.l, hd.e, hd.z⟩, m⟩
  · have y0 : whichS A s [wOn, wAlways, wAfter] = 0 := Decidable.not_not.1 y
    have y1 : whichS B s' [wOn, wAlways, wAfter] = 0 := by rw [hw]; exact y0
    have kn := k.next m1
    have hz : whichS A s [wInitial, wEnter, wLeave] ≠ 0 → (nextS s).i < A.length ∧ (nextS s').i < B.length := fun z =>
      ⟨h.ea.next hi (which_ne z).2, h.eb.next hi' (by rw [t]; exact (which_ne z).2)⟩
    have hle := which_le (ts := A) (s := s) [wInitial, wEnter, wLeave]
    rcases Nat.lt_or_ge (whichS A s [wInitial, wEnter, wLeave]) 1 with q | q
    · have q0 : whichS A s [wInitial, wEnter, wLeave] = 0 := by omega
      rw [clause_q y0 q0, clause_q (q := 0) y1 (by rw [hw]; exact q0)]
      exact ⟨rfl, rfl, hd, k⟩
    · obtain ⟨i1, i2⟩ := hz (by omega)
      rcases Nat.lt_or_ge (whichS A s [wInitial, wEnter, wLeave]) 2 with q' | q'
      · have q0 : whichS A s [wInitial, wEnter, wLeave] = 1 := by omega
        have eA : clauseS A n a s = if a.i then (false, n, a, wrongS A s) else (true, { n with ini := (nameS A (nextS s)).1 }, { a with i := true }, mustS A (nameS A (nextS s)).2 [59]) := clause_q y0 q0
        have eB : clauseS B n b s' = if b.i then (false, n, b, wrongS B s') else (true, { n with ini := (nameS B (nextS s')).1 }, { b with i := true }, mustS B (nameS B (nextS s')).2 [59]) := clause_q (q := 1) y1 (by rw [hw]; exact q0)
        rw [eA] at h1 ⊢
        rw [eB] at h2 ⊢
        by_cases c : a.i = true
        · rw [if_pos c] at h1
          exact absurd h1 wrong_fc
        · have c' : ¬ b.i = true := by rw [hd.i]; exact c
          rw [if_neg c] at h1 ⊢
          rw [if_neg c'] at h2 ⊢
          have f1 := ((must_on h.ea _).le h1).1
          have f2 := ((must_on h.eb _).le h2).1
          obtain ⟨e, m⟩ := name_b h kn f1 f2
          exact ⟨rfl, by dsimp only; rw [e], ⟨rfl, hd.l, hd.e, hd.z⟩, must_b h m (by decide) h1 h2⟩
      · rcases Nat.lt_or_ge (whichS A s [wInitial, wEnter, wLeave]) 3 with q'' | q''
        · have q0 : whichS A s [wInitial, wEnter, wLeave] = 2 := by omega
          have eA : clauseS A n a s = if a.e then (false, n, a, wrongS A s) else (true, { n with en := (blockS A (nextS s)).1 }, { a with e := true }, (blockS A (nextS s)).2) := clause_q y0 q0
          have eB : clauseS B n b s' = if b.e then (false, n, b, wrongS B s') else (true, { n with en := (blockS B (nextS s')).1 }, { b with e := true }, (blockS B (nextS s')).2) := clause_q (q := 2) y1 (by rw [hw]; exact q0)
          rw [eA] at h1 ⊢
          rw [eB] at h2 ⊢
          by_cases c : a.e = true
          · rw [if_pos c] at h1
            exact absurd h1 wrong_fc
          · have c' : ¬ b.e = true := fun e => c (hd.e e)
            rw [if_neg c] at h1 ⊢
            rw [if_neg c'] at h2 ⊢
            obtain ⟨e, m⟩ := block_b h kn i1 i2 h1 h2
            exact ⟨rfl, by dsimp only; rw [e], ⟨hd.i, hd.l, fun _ => rfl, fun e => by cases e⟩, m⟩
        · have q0 : whichS A s [wInitial, wEnter, wLeave] = 3 := by
            simp only [List.length_cons, List.length_nil] at hle
            omega
          have eA : clauseS A n a s = if a.l then (false, n, a, wrongS A s) else (true, { n with lv := (blockS A (nextS s)).1 }, { a with l := true }, (blockS A (nextS s)).2) := clause_q y0 q0
          have eB : clauseS B n b s' = if b.l then (false, n, b, wrongS B s') else (true, { n with lv := (blockS B (nextS s')).1 }, { b with l := true }, (blockS B (nextS s')).2) := clause_q (q := 3) y1 (by rw [hw]; exact q0)
          rw [eA] at h1 ⊢
          rw [eB] at h2 ⊢
          by_cases c : a.l = true
          · rw [if_pos c] at h1
            exact absurd h1 wrong_fc
          · have c' : ¬ b.l = true := by rw [hd.l]; exact c
            rw [if_neg c] at h1 ⊢
            rw [if_neg c'] at h2 ⊢
            obtain ⟨e, m⟩ := block_b h kn i1 i2 h1 h2
            exact ⟨rfl, by dsimp only; rw [e], ⟨hd.i, rfl, hd.e, hd.z⟩, m⟩
/-- at the block, the one's first clause -/
theorem cut_a {n : Nb} {a : Had} (hp : s.i = p) (h0 : s.fc = 0) : clauseS A n a s = if a.e then (false, n, a, wrongS A s) else (true, { n with en := [] }, { a with e := true }, { s with i := p + 3 }) := by
  have t0 : tk A s.i = ⟨2, wEnter, 0, 0⟩ := by rw [hp]; exact h.a0
  have e1 : whichS A s [wOn, wAlways, wAfter] = 0 := by
    rw [which_at (t := wEnter) h0 (.inl (by rw [t0])) (by rw [t0])]
    decide
  have e2 : whichS A s [wInitial, wEnter, wLeave] = 2 := by
    rw [which_at (t := wEnter) h0 (.inl (by rw [t0])) (by rw [t0])]
    decide
  have eb : blockS A (nextS s) = ([], { s with i := p + 3 }) := by
    rw [block_at (s := nextS s) h0 (by show tk A (s.i + 1) = _; rw [hp]; exact h.a 1 _ rfl) (by show tk A (s.i + 1 + 1) = _; rw [hp]; exact h.a 2 _ rfl)]
    unfold nextS
    dsimp only
    rw [hp]
  unfold clauseS
  rw [e1, e2, eb]
  rfl
theorem move_A (hp : s.i = p + 3) (h0 : s.fc = 0) (hm : s.m ≠ 0) : moveS A 1 s = (mGo, { s with i := p + 8, m := dec s.m }) := by
  have hl : 0 < A.length := by have := h.la; omega
  have g : ∀ j q, ([(2, wEnter, 0), (4, [123], 0), (4, [125], 0), (2, wOn, 0), (1, wGo, 0), (4, [45, 62], 0), (1, wX, 0), (4, [59], 0)] : List K3)[j + 3]? = some q → tk A (s.i + j) = ⟨q.1, q.2.1, q.2.2, 0⟩ := fun j q e => by
    have := h.a (j + 3) q e
    rw [hp, show p + 3 + j = p + (j + 3) by omega]
    exact this
  rw [move_pre h0 hm (g 0 _ rfl) (g 1 _ rfl)]
  rw [moveA_p (s := { s with i := s.i + 2, m := dec s.m }) h0 (g 2 _ rfl) (g 3 _ rfl) (g 4 _ rfl) hl]
  dsimp only
  rw [hp]
  rfl
theorem move_B (hp : s.i = p) (h0 : s.fc = 0) (hm : s.m ≠ 0) : moveS B 1 s = (mGo, { s with i := p + 7, m := dec s.m }) := by
  have hl : 0 < B.length := by have := h.la; have := h.lb; omega
  have g : ∀ j q, ([(2, wOn, 0), (1, wGo, 0), (4, [123], 0), (4, [125], 0), (4, [45, 62], 0), (1, wX, 0), (4, [59], 0)] : List K3)[j]? = some q → tk B (s.i + j) = ⟨q.1, q.2.1, q.2.2, 0⟩ := fun j q e => by
    rw [hp]
    exact h.b j q e
  rw [move_pre h0 hm (g 0 _ rfl) (g 1 _ rfl)]
  rw [moveA_e (s := { s with i := s.i + 2, m := dec s.m }) h0 (g 2 _ rfl) (g 3 _ rfl) (g 4 _ rfl) (g 5 _ rfl) (g 6 _ rfl) hl]
  dsimp only
  rw [hp]
  rfl
theorem clauses_b : ∀ (f f' : Nat) {n : Nb} {a b : Had} {s s' : Sx}, Hd n a b → Lv p s s' → s.i < A.length → s'.i < B.length → mu A s < f → mu B s' < f' → Wm p (clausesS A f n a s) (clausesS B f' n b s') := by
  intro f
  induction f using Nat.strongRecOn with
  | _ f ih =>
    intro f' n a b s s' hd k hi hi' hm hm' h1 h2
    match f, f' with
    | 0, _ => omega
    | _, 0 => omega
    | f + 1, f' + 1 =>
      rw [clausesS] at h1 h2 ⊢
      rw [clausesS]
      by_cases z : s.fc ≠ 0
      · rw [if_pos z] at h1
        exact absurd h1 z
      · have z' : ¬ s'.fc ≠ 0 := by rw [k.fc]; exact z
        have z0 := Decidable.not_not.1 z
        have z0' := Decidable.not_not.1 z'
        rw [if_neg z] at h1 ⊢
        rw [if_neg z'] at h2 ⊢
        rcases h.look k.m with ⟨t, m1⟩ | ⟨e1, e2⟩
        · have g1 : (clauseS A n a s).2.2.2.fc = 0 := by
            by_cases c : (clauseS A n a s).1 = true
            · rw [if_pos c] at h1
              exact ((clauses_on h.ea _ _ _ _).le h1).1
            · rw [if_neg c] at h1
              exact h1
          have g2 : (clauseS B n b s').2.2.2.fc = 0 := by
            by_cases c : (clauseS B n b s').1 = true
            · rw [if_pos c] at h2
              exact ((clauses_on h.eb _ _ _ _).le h2).1
            · rw [if_neg c] at h2
              exact h2
          obtain ⟨r1, r2, r3, r4⟩ := clause_b h k hi hi' t m1 hd g1 g2
          rw [r1, r2] at h2 ⊢
          by_cases c : (clauseS A n a s).1 = true
          · rw [if_pos c] at h1 h2 ⊢
            rw [if_pos c]
            have l1 := clause_mu h.ea n a z0 hi c
            have l2 := clause_mu h.eb n b z0' hi' (by rw [r1]; exact c)
            exact ih f (by omega) f' r3 r4 ((clause_on h.ea n a s).lt hi) ((clause_on h.eb n b s').lt hi') (by omega) (by omega) h1 h2
          · rw [if_neg c] at h1 h2 ⊢
            rw [if_neg c]
            exact ⟨rfl, r4⟩
        · have es : s' = s := by
            have := k.e
            rw [e2, ← e1] at this
            exact this
          subst es
          have muA : mu A s' = A.length - p := by unfold mu; rw [if_pos z0, e1]
          have muB : mu B s' = B.length - p := by unfold mu; rw [if_pos z0, e1]
          have hla := h.la
          have hlb := h.lb
          rw [cut_a h e1 z0] at h1 ⊢
          by_cases c : a.e = true
          · rw [if_pos c] at h1
            exact absurd h1 wrong_fc
          · rw [if_neg c] at h1 ⊢
            rw [if_pos rfl] at h1 ⊢
            dsimp only at h1 ⊢
            obtain ⟨g, rfl⟩ : ∃ g, f = g + 1 := ⟨f - 1, by omega⟩
            rw [clausesS, if_neg z] at h1 ⊢
            have tA : tk A (p + 3) = ⟨2, wOn, 0, 0⟩ := h.a 3 _ rfl
            have wA : whichS A { s' with i := p + 3 } [wOn, wAlways, wAfter] = 1 := by
              rw [which_at (s := { s' with i := p + 3 }) (t := wOn) z0 (.inl (by rw [show tk A (p + 3) = _ from tA])) (by rw [show tk A (p + 3) = _ from tA])]
              decide
            have wB : whichS B s' [wOn, wAlways, wAfter] = 1 := by
              rw [which_at (t := wOn) z0 (.inl (by rw [e1, h.b0])) (by rw [e1, h.b0])]
              decide
            by_cases hm0 : s'.m = 0
            · exfalso
              have cB : clauseS B n b s' = (true, { n with mv := n.mv ++ [(moveS B (1 : Nat) s').1] }, b, (moveS B (1 : Nat) s').2) := by
                unfold clauseS
                rw [wB, if_pos (by decide)]
              rw [cB, if_pos rfl] at h2
              exact move_no z0 hm0 _ ((clauses_on h.eb _ _ _ _).le h2).1
            · have cA : clauseS A { n with en := [] } { a with e := true } { s' with i := p + 3 } = (true, { n with en := [], mv := n.mv ++ [mGo] }, { a with e := true }, { s' with i := p + 8, m := dec s'.m }) := by
                unfold clauseS
                rw [wA, if_pos (by decide), show ((1 : Nat) : Int) = 1 from rfl, move_A (s := { s' with i := p + 3 }) h rfl z0 hm0]
              have cB : clauseS B n b s' = (true, { n with mv := n.mv ++ [mGo] }, b, { s' with i := p + 7, m := dec s'.m }) := by
                unfold clauseS
                rw [wB, if_pos (by decide), show ((1 : Nat) : Int) = 1 from rfl, move_B h e1 z0 hm0]
              rw [cA, if_pos rfl] at h1 ⊢
              rw [cB, if_pos rfl] at h2 ⊢
              have en : n.en = [] := hd.z (by simpa using c)
              have nn : ({ n with en := [], mv := n.mv ++ [mGo] } : Nb) = { n with mv := n.mv ++ [mGo] } := by rw [← en]
              dsimp only at h1 h2 ⊢
              rw [nn] at h1 ⊢
              have mA : mu A { s' with i := p + 8, m := dec s'.m } = A.length - (p + 8) := by unfold mu; rw [if_pos z0]
              have mB : mu B { s' with i := p + 7, m := dec s'.m } = B.length - (p + 7) := by unfold mu; rw [if_pos z0]
              exact ih g (by omega) f' (a := { a with e := true }) (b := b) ⟨hd.i, hd.l, fun _ => rfl, fun e => by cases e⟩ ⟨rfl, .inr ⟨Nat.le_refl _, rfl⟩⟩ (by show p + 8 < _; omega) (by show p + 7 < _; omega) (by omega) (by omega) h1 h2
end
end Go.Proofs.YtmanockofcopjaaGreatDoor.Con
