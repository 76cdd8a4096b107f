/-
  Own work: an empty block is as none: nodes, variables, the chart. No program in sight.
-/
import Derived.Test.YtmanockofcopjaaGreatDoorSBlk3
namespace Go.Proofs.YtmanockofcopjaaGreatDoor.Con
open Go Go.RowKit Go.Kt Go.Kt.V
set_option linter.unusedSimpArgs false
set_option linter.unusedVariables false
set_option linter.unusedSectionVars false
set_option maxHeartbeats 4000000

section
variable {A B : List Tk} {p : Nat} (h : Ct A B p) {s s' : Sx}
include h
/-- what reads nodes: at a depth -/
structure NB (A B : List Tk) (p : Nat) (d : Int) (N N' : Int → Sx → Nd × Sx) : Prop where
  on : ∀ k s, s.d = d → s.fc = 0 → On A s (N k s).2
  on' : ∀ k s, s.d = d → s.fc = 0 → On B s (N' k s).2
  w : ∀ (k : Int) {s s' : Sx}, s.d = d → Lv p s s' → s.i < A.length → s'.i < B.length → Wm p (N k s) (N' k s')
theorem kids_b {d : Int} {N N' : Int → Sx → Nd × Sx} (hN : NB A B p d N N') : ∀ (f f' : Nat) (acc : List Nd) {s s' : Sx}, s.d = d → Lv p s s' → s.i < A.length → s'.i < B.length → mu A s < f → mu B s' < f' → Wm p (kidsS A N f acc s) (kidsS B N' f' acc s')
  | 0, _, _, _, _, _, _, _, _, hm, _ => by omega
  | _, 0, _, _, _, _, _, _, _, _, hm => by omega
  | f + 1, f' + 1, acc, s, s', hd, k, hi, hi', hm, hm' => by
    intro h1 h2
    obtain ⟨e, m⟩ := which_b h k (l := wKinds) (by decide)
    have hd' : s'.d = d := by rw [k.e]; exact hd
    rw [kidsS] at h1 h2 ⊢
    rw [kidsS]
    rw [e] at h2 ⊢
    by_cases y : whichS A s wKinds = 0
    · rw [if_pos y, if_pos y]
      exact ⟨rfl, k⟩
    · rw [if_neg y] at h1 h2 ⊢
      rw [if_neg y]
      have y' : whichS B s' wKinds ≠ 0 := by rw [e]; exact y
      have n1 := next_on h.ea (which_ne y).1 (which_ne y).2
      have n2 := next_on h.eb (which_ne y').1 (which_ne y').2
      have o1 := hN.on (whichS A s wKinds : Nat) (nextS s) hd (which_ne y).1
      have o2 := hN.on' (whichS A s wKinds : Nat) (nextS s') hd' (which_ne y').1
      have f1 := ((kids_on h.ea d hN.on _ _ _ (o1.d.trans hd)).le h1).1
      have f2 := ((kids_on h.eb d hN.on' _ _ _ (o2.d.trans hd')).le h2).1
      obtain ⟨e3, m3⟩ := hN.w (whichS A s wKinds : Nat) (s := nextS s) hd (k.next (m y).2) (n1.lt hi) (n2.lt hi') f1 f2
      have l1 := next_mu h.ea (which_ne y).1 hi (which_ne y).2 o1.toOn0
      have l2 := next_mu h.eb (which_ne y').1 hi' (which_ne y').2 o2.toOn0
      rw [e3] at h2 ⊢
      exact kids_b hN f f' _ (o1.d.trans hd) m3 (o1.lt (n1.lt hi)) (o2.lt (n2.lt hi')) (by omega) (by omega) h1 h2
omit h in
theorem Lv.dep (k : Lv p s s') (d : Int) : Lv p { s with d := d } { s' with d := d } := ⟨by
  have := k.e
  rw [Sx.mk.injEq] at this ⊢
  simp only [this, and_self], k.m⟩
theorem body_b {N N' : Int → Sx → Nd × Sx} {n : Nb} (hn : n.en = []) (k : Lv p s s') (hd : InI s.d) (hi : s.i < A.length) (hi' : s'.i < B.length) (hN : NB A B p (dec s.d) N N') : Wm p (bodyS A N n s) (bodyS B N' n s') := by
  intro h1 h2
  have ed : s'.d = s.d := by rw [k.e]
  unfold bodyS at h1 h2 ⊢
  rw [ed] at h2 ⊢
  dsimp only at h1 h2 ⊢
  have c1 := clauses_on h.ea (A.length + 1) n ⟨false, false, false⟩ { s with d := dec s.d }
  have c2 := clauses_on h.eb (B.length + 1) n ⟨false, false, false⟩ { s' with d := dec s.d }
  have k1 := kids_on h.ea (dec s.d) hN.on (A.length + 1) [] _ c1.d
  have k2 := kids_on h.eb (dec s.d) hN.on' (B.length + 1) [] _ c2.d
  have g1 := ((must_on h.ea _).le h1).1
  have g2 := ((must_on h.eb _).le h2).1
  have f1 := (k1.le g1).1
  have f2 := (k2.le g2).1
  have kd := k.dep (dec s.d)
  obtain ⟨e3, m3⟩ := clauses_b h (A.length + 1) (B.length + 1) (n := n) (a := ⟨false, false, false⟩) (b := ⟨false, false, false⟩) ⟨rfl, rfl, fun e => e, fun _ => hn⟩ kd hi hi' (mu_lt1 _ _) (mu_lt1 _ _) f1 f2
  obtain ⟨e4, m4⟩ := kids_b h hN (A.length + 1) (B.length + 1) [] c1.d m3 (c1.lt hi) (c2.lt hi') (mu_lt1 _ _) (mu_lt1 _ _) g1 g2
  have e5 : ∀ {u u' : Sx}, Lv p u u' → u'.d = u.d := fun {u u'} k => by rw [k.e]
  rw [e5 m4] at h2 ⊢
  exact ⟨by rw [e3, e4], must_b h (m4.dep _) (by decide) h1 h2⟩
theorem room_b (k : Lv p s s') : Ws p (roomS A s) (roomS B s') := by
  intro h1 h2
  rcases h.look k.m with ⟨t, m⟩ | ⟨e1, e2⟩
  · unfold roomS at h1 h2 ⊢
    rw [t] at h2 ⊢
    by_cases c : (tk A s.i).k = 1
    · rw [if_pos c] at h1 h2 ⊢
      rw [if_pos c]
      by_cases y : (useN A s).d = 0
      · rw [if_pos y] at h1
        exact absurd h1 (stop_fc (by decide))
      · by_cases y' : (useN B s').d = 0
        · rw [if_pos y'] at h2
          exact absurd h2 (stop_fc (by decide))
        · rw [if_neg y] at h1 ⊢
          rw [if_neg y'] at h2 ⊢
          exact useN_b h k h1 h2
    · rw [if_neg c, if_neg c]
      exact k
  · unfold roomS
    rw [e1, e2, h.a0, h.b0, if_neg (by decide), if_neg (by decide)]
    exact k
theorem named_b (k : Lv p s s') (c : Int) : Wm p (namedS A c s) (namedS B c s') := by
  intro h1 h2
  have f1 := ((kind_on h.ea (k := 1) (by decide)).le h1).1
  have f2 := ((kind_on h.eb (k := 1) (by decide)).le h2).1
  obtain ⟨e, m⟩ := kind_b h (room_b h k f1 f2) (c := 1) (by decide) h1 h2
  exact ⟨by unfold namedS; dsimp only; rw [e], m⟩
theorem node_b : ∀ (f : Nat) (c : Int) {s s' : Sx}, InI s.d → Lv p s s' → s.i < A.length → s'.i < B.length → Wm p (nodeS A f c s) (nodeS B f c s')
  | 0, _, _, _, _, k, _, _ => fun _ _ => ⟨rfl, k⟩
  | f + 1, c, s, s', hd, k, hi, hi' => by
    intro h1 h2
    rw [nodeS] at h1 h2 ⊢
    rw [nodeS]
    have o1 := named_on h.ea c s
    have o2 := named_on h.eb c s'
    by_cases hc : 3 ≤ c
    · rw [if_pos hc] at h1 h2 ⊢
      rw [if_pos hc]
      have f1 := ((must_on h.ea _).le h1).1
      have f2 := ((must_on h.eb _).le h2).1
      have g1 := ((name_on h.ea).le f1).1
      have g2 := ((name_on h.eb).le f2).1
      have i1 := ((must_on h.ea _).le g1).1
      have i2 := ((must_on h.eb _).le g2).1
      obtain ⟨e, m⟩ := named_b h k c i1 i2
      have m2 := must_b h m (x := [45, 62]) (by decide) g1 g2
      obtain ⟨e3, m3⟩ := name_b h m2 f1 f2
      exact ⟨by dsimp only; rw [e, e3], must_b h m3 (by decide) h1 h2⟩
    · rw [if_neg hc] at h1 h2 ⊢
      rw [if_neg hc]
      have d1 := o1.trans (must_on h.ea [123])
      have d2 := o2.trans (must_on h.eb [123])
      have ed : s'.d = s.d := by rw [k.e]
      have b1 := body_on h.ea (N := nodeS A f) (n := (namedS A c s).1) (s := mustS A (namedS A c s).2 [123]) (by rw [d1.d]; exact hd) fun k u hu _ => node_on h.ea f k u (by rw [hu]; exact wrapIn _)
      have b2 := body_on h.eb (N := nodeS B f) (n := (namedS B c s').1) (s := mustS B (namedS B c s').2 [123]) (by rw [d2.d, ed]; exact hd) fun k u hu _ => node_on h.eb f k u (by rw [hu]; exact wrapIn _)
      have f1 := (b1.le h1).1
      have f2 := (b2.le h2).1
      have g1 := ((must_on h.ea _).le f1).1
      have g2 := ((must_on h.eb _).le f2).1
      obtain ⟨e, m⟩ := named_b h k c g1 g2
      have m2 := must_b h m (x := [123]) (by decide) f1 f2
      rw [e] at h2 ⊢
      refine body_b h rfl m2 (by rw [d1.d]; exact hd) (d1.lt hi) (d2.lt hi') ⟨fun k u hu _ => node_on h.ea f k u (by rw [hu]; exact wrapIn _), fun k u hu _ => node_on h.eb f k u (by rw [hu]; exact wrapIn _), fun c {u u'} hu k hi hi' => node_b f c (by rw [hu]; exact wrapIn _) k hi hi'⟩ h1 h2
theorem var_b (k : Lv p s s') : Wm p (varS A s) (varS B s') := by
  intro h1 h2
  unfold varS at h1 h2 ⊢
  dsimp only at h1 h2 ⊢
  have hs : Ws p (if (tk A s.i).k = 1 then useV A s else s) (if (tk B s'.i).k = 1 then useV B s' else s') := by
    intro g1 g2
    rcases h.look k.m with ⟨t, m⟩ | ⟨e1, e2⟩
    · rw [t] at g2 ⊢
      by_cases c : (tk A s.i).k = 1
      · rw [if_pos c] at g1 g2 ⊢
        rw [if_pos c]
        exact useV_b h k g1 g2
      · rw [if_neg c, if_neg c]
        exact k
    · rw [e1, e2, h.a0, h.b0, if_neg (by decide), if_neg (by decide)]
      exact k
  revert h1 h2 hs
  generalize (if (tk A s.i).k = 1 then useV A s else s) = u
  generalize (if (tk B s'.i).k = 1 then useV B s' else s') = u'
  intro h1 h2 hs
  have n2 : ∀ (ts : List Tk) (hE : EndL ts) (u : Sx), On ts u (if whichS ts u [[45]] = 0 then u else nextS u) := fun ts hE u => by
    by_cases c : whichS ts u [[45]] = 0
    · rw [if_pos c]; exact On.refl _ _
    · rw [if_neg c]; exact next_on hE (which_ne c).1 (which_ne c).2
  have a5 := ((must_on h.ea _).le h1).1
  have b5 := ((must_on h.eb _).le h2).1
  have a4 := ((kind_on h.ea (by decide)).le a5).1
  have b4 := ((kind_on h.eb (by decide)).le b5).1
  have a3 := ((n2 A h.ea _).le a4).1
  have b3 := ((n2 B h.eb _).le b4).1
  have a2 := ((must_on h.ea _).le a3).1
  have b2 := ((must_on h.eb _).le b3).1
  have a1 := ((kind_on h.ea (by decide)).le a2).1
  have b1 := ((kind_on h.eb (by decide)).le b2).1
  obtain ⟨e1, m1⟩ := kind_b h (hs a1 b1) (c := 1) (by decide) a2 b2
  have m2 := must_b h m1 (x := [61]) (by decide) a3 b3
  obtain ⟨e2, q2⟩ := which_b h m2 (l := [[45]]) (by decide)
  have m3 : Lv p (if whichS A (mustS A (kindS A u 1).2 [61]) [[45]] = 0 then mustS A (kindS A u 1).2 [61] else nextS (mustS A (kindS A u 1).2 [61])) (if whichS B (mustS B (kindS B u' 1).2 [61]) [[45]] = 0 then mustS B (kindS B u' 1).2 [61] else nextS (mustS B (kindS B u' 1).2 [61])) := by
    rw [e2]
    by_cases c : whichS A (mustS A (kindS A u 1).2 [61]) [[45]] = 0
    · rw [if_pos c, if_pos c]; exact m2
    · rw [if_neg c, if_neg c]; exact m2.next (q2 c).2
  obtain ⟨e4, m4⟩ := kind_b h m3 (c := 3) (by decide) a5 b5
  exact ⟨by rw [e4, e1, e2], must_b h m4 (by decide) h1 h2⟩
theorem vars_b : ∀ (f f' : Nat) (acc : List Vr) {s s' : Sx}, Lv p s s' → s.i < A.length → s'.i < B.length → mu A s < f → mu B s' < f' → Wm p (varsS A f acc s) (varsS B f' acc s')
  | 0, _, _, _, _, _, _, _, hm, _ => by omega
  | _, 0, _, _, _, _, _, _, _, hm => by omega
  | f + 1, f' + 1, acc, s, s', k, hi, hi', hm, hm' => by
    intro h1 h2
    obtain ⟨e, m⟩ := which_b h k (l := [wVar]) (by decide)
    rw [varsS] at h1 h2 ⊢
    rw [varsS]
    rw [e] at h2 ⊢
    by_cases y : whichS A s [wVar] = 0
    · rw [if_pos y, if_pos y]
      exact ⟨rfl, k⟩
    · rw [if_neg y] at h1 h2 ⊢
      rw [if_neg y]
      have y' : whichS B s' [wVar] ≠ 0 := by rw [e]; exact y
      have n1 := next_on h.ea (which_ne y).1 (which_ne y).2
      have n2 := next_on h.eb (which_ne y').1 (which_ne y').2
      have f1 := ((vars_on h.ea _ _ _).le h1).1
      have f2 := ((vars_on h.eb _ _ _).le h2).1
      obtain ⟨e3, m3⟩ := var_b h (k.next (m y).2) f1 f2
      have l1 := next_mu h.ea (which_ne y).1 hi (which_ne y).2 (var_on h.ea _).toOn0
      have l2 := next_mu h.eb (which_ne y').1 hi' (which_ne y').2 (var_on h.eb _).toOn0
      rw [e3] at h2 ⊢
      exact vars_b f f' _ m3 ((var_on h.ea _).lt (n1.lt hi)) ((var_on h.eb _).lt (n2.lt hi')) (by omega) (by omega) h1 h2
omit h in
theorem end_fc {ts : List Tk} {s : Sx} (h0 : (endS ts s).fc = 0) : endS ts s = s ∧ (tk ts s.i).k = 5 := by
  unfold endS at h0 ⊢
  by_cases c : s.fc = 0 ∧ (tk ts s.i).k ≠ 5
  · rw [if_pos c] at h0
    exact absurd h0 wrong_fc
  · rw [if_neg c] at h0 ⊢
    exact ⟨rfl, Decidable.byContradiction fun hk => c ⟨h0, hk⟩⟩
/-- two rows of tokens that differ by an empty block alone: if both are charts, they are the same -/
theorem chart_b (h1 : (chartS A).2.fc = 0) (h2 : (chartS B).2.fc = 0) : (chartS B).1 = (chartS A).1 := by
  unfold chartS at h1 h2 ⊢
  dsimp only at h1 h2 ⊢
  rw [(end_fc h1).1] at h1
  rw [(end_fc h2).1] at h2
  have hla := h.la
  have hlb := h.lb
  have k0 : Lv p sx0 sx0 := ⟨rfl, .inl ⟨rfl, Nat.zero_le _⟩⟩
  have i0 : sx0.i < A.length := by show 0 < _; omega
  have i0' : sx0.i < B.length := by show 0 < _; omega
  have o1 := (must_on h.ea wChart (s := sx0)).trans (named_on h.ea 1 _)
  have o2 := (must_on h.eb wChart (s := sx0)).trans (named_on h.eb 1 _)
  have q1 := (o1.trans (must_on h.ea [123])).trans (vars_on h.ea (A.length + 1) [] _)
  have q2 := (o2.trans (must_on h.eb [123])).trans (vars_on h.eb (B.length + 1) [] _)
  have d0 : InI sx0.d := by unfold InI sx0; decide
  have b1 := body_on h.ea (N := nodeS A 14) (n := (namedS A 1 (mustS A sx0 wChart)).1) (s := (varsS A (A.length + 1) [] (mustS A (namedS A 1 (mustS A sx0 wChart)).2 [123])).2) (by rw [q1.d]; exact d0) fun k u hu _ => node_on h.ea 14 k u (by rw [hu]; exact wrapIn _)
  have b2 := body_on h.eb (N := nodeS B 14) (n := (namedS B 1 (mustS B sx0 wChart)).1) (s := (varsS B (B.length + 1) [] (mustS B (namedS B 1 (mustS B sx0 wChart)).2 [123])).2) (by rw [q2.d]; exact d0) fun k u hu _ => node_on h.eb 14 k u (by rw [hu]; exact wrapIn _)
  have f1 := (b1.le h1).1
  have f2 := (b2.le h2).1
  have g1 := ((vars_on h.ea _ _ _).le f1).1
  have g2 := ((vars_on h.eb _ _ _).le f2).1
  have r1 := ((must_on h.ea _).le g1).1
  have r2 := ((must_on h.eb _).le g2).1
  have t1 := ((named_on h.ea 1 _).le r1).1
  have t2 := ((named_on h.eb 1 _).le r2).1
  have m1 := must_b h k0 (x := wChart) (by decide) t1 t2
  obtain ⟨e2, m2⟩ := named_b h m1 1 r1 r2
  have m3 := must_b h m2 (x := [123]) (by decide) g1 g2
  obtain ⟨e4, m4⟩ := vars_b h (A.length + 1) (B.length + 1) [] m3 ((must_on h.ea _).lt (o1.lt i0)) ((must_on h.eb _).lt (o2.lt i0')) (mu_lt1 _ _) (mu_lt1 _ _) f1 f2
  rw [e2] at h2 ⊢
  obtain ⟨e5, _⟩ := body_b h rfl m4 (by rw [q1.d]; exact d0) (q1.lt i0) (q2.lt i0') ⟨fun k u hu _ => node_on h.ea 14 k u (by rw [hu]; exact wrapIn _), fun k u hu _ => node_on h.eb 14 k u (by rw [hu]; exact wrapIn _), fun c {u u'} hu k hi hi' => node_b h 14 c (by rw [hu]; exact wrapIn _) k hi hi'⟩ h1 h2
  rw [e4, e5]
end
end Go.Proofs.YtmanockofcopjaaGreatDoor.Con
