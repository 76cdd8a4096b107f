
/-
  Own work: a walk by reckoning, part 5: rows of operations that only reckon, under tests ('seqP'). No program in sight.
-/
import Derived.Test.YtmanockofcopjaaGreatDoorV4
namespace Go.Kt.V
open Go Go.RowKit Go.Kt
set_option linter.unusedSimpArgs false
set_option linter.unusedVariables false

/-- a frame holds what fr says -/
structure FrOk (β : Nat → Nat) (n : Nat) (fr : List (Nat × Nat × SV)) (D : List Deferred) (a : Act) : Prop where
  sz : a.tmps.size = n
  df : a.defers = D
  at_ : ∀ i p, lookS fr i = some p → i < n → a.tmps[i]? = some (val β p.2)
theorem frok_of {β : Nat → Nat} {n : Nat} {fr : List (Nat × Nat × SV)} {D : List Deferred} {a : Act} (h : FrOk β n fr D a) : ∃ us, a = frD n us (cv β fr) D := by
  refine ⟨fun i => (a.tmps[i]?).getD undef, ?_⟩
  obtain ⟨tmps, df⟩ := a
  obtain ⟨h1, h2, h3⟩ := h
  dsimp only at h1 h2 h3
  subst h2
  unfold frD
  congr 1
  apply Array.ext'
  apply List.ext_getElem?
  intro i
  rw [List.toList_toArray]
  by_cases hi : i < n
  · rw [tab_get _ _ _ _ _ hi, Nat.zero_add]
    cases hl : lookS fr i with
    | none =>
      rw [look_no (l := cv β fr) (by rw [lookO_cv, hl]; rfl)]
      have : i < tmps.size := by omega
      simp [this]
    | some p =>
      rw [look_of (l := cv β fr) (v := val β p.2) (by rw [lookO_cv, hl]; rfl)]
      have := h3 i p hl hi
      simpa using this
  · rw [List.getElem?_eq_none (by simp; omega), List.getElem?_eq_none (by rw [tab_len]; exact Nat.le_of_not_lt hi)]
theorem frok_to {β : Nat → Nat} {n : Nat} {fr : List (Nat × Nat × SV)} {D : List Deferred} {us : Nat → Value} : FrOk β n fr D (frD n us (cv β fr) D) := by
  refine ⟨by simp [frD, tab_len], rfl, fun i p hl hi => ?_⟩
  simp only [frD, List.getElem?_toArray]
  rw [tab_get _ _ _ _ _ hi, Nat.zero_add, look_of (l := cv β fr) (v := val β p.2) (by rw [lookO_cv, hl]; rfl)]
theorem Rep.ok {β : Nat → Nat} {st : St} {a : Act} {w : World} (h : Rep β st a w) : FrOk β st.n st.fr (dfs st.df) a := by
  obtain ⟨us, rfl⟩ := h.fr
  exact frok_to

/-- the test an operation hangs on -/
def tst (st : St) (ops : List Oper) (j : Nat) : Option (Nat × SV) := match nthO ops j with
  | some o => (match o.dst with
    | some d => (st.get d).map fun s => (d, s)
    | none => none)
  | none => none
theorem tst_ok {st : St} {ops : List Oper} {j d : Nat} {s : SV} (h : tst st ops j = some (d, s)) : ∃ oj, nthO ops j = some oj ∧ oj.dst = some d ∧ st.get d = some s := by
  unfold tst at h
  split at h
  · rename_i o ho
    split at h
    · rename_i e he
      cases hg : st.get e with
      | none => rw [hg] at h; cases h
      | some u =>
        rw [hg] at h
        simp only [Option.map_some, Option.some.injEq, Prod.mk.injEq] at h
        obtain ⟨rfl, rfl⟩ := h
        exact ⟨o, ho, he, hg⟩
    · cases h
  · cases h
section
variable {β : Nat → Nat} {st : St} {a : Act} {w : World} {ops : List Oper} {o : Oper} {j d : Nat} {want b : Bool}
theorem wanted_bl (hR : Rep β st a w) (hg : o.guard = some (j, want)) {s : SV} (ht : tst st ops j = some (d, s)) (hs : val β s = .bool b) : Region.wanted o (yielded ops.toArray a.tmps) = (b == want) := by
  obtain ⟨oj, h1, h2, h3⟩ := tst_ok ht
  obtain ⟨us, rfl⟩ := hR.fr
  show Region.wanted o (yielded ops.toArray (Kt.fr st.n us (cv β st.fr)).tmps) = _
  exact wtF hg h1 h2 (by rw [← hs]; exact St.evO β h3) rfl
theorem wanted_un (hR : Rep β st a w) (hg : o.guard = some (j, want)) (ht : tst st ops j = some (d, .un)) : Region.wanted o (yielded ops.toArray a.tmps) = false := by
  obtain ⟨oj, h1, h2, h3⟩ := tst_ok ht
  obtain ⟨us, rfl⟩ := hR.fr
  show Region.wanted o (yielded ops.toArray (Kt.fr st.n us (cv β st.fr)).tmps) = _
  exact wuF hg h1 h2 (St.evO β (x := .tmp d) (s := .un) h3)
/-- a slot by another word for the same -/
theorem Rep.set (hR : Rep β st a w) {s s' : SV} (hg : st.get d = some s) (hv : val β s = val β s') : Rep β (st.put (some d) s') a w := by
  refine ⟨frok_of ⟨hR.ok.sz, hR.ok.df, fun i p hl hi => ?_⟩, hR.bx, hR.ne, hR.only, hR.still⟩
  simp only [St.put, lookS] at hl
  cases hb : Nat.beq d i with
  | true =>
    rw [hb] at hl
    simp only [cond_true, Option.some.injEq] at hl
    subst hl
    have := Nat.eq_of_beq_eq_true hb
    subst this
    unfold St.get at hg
    cases hlt : Nat.blt d st.n with
    | false => rw [hlt] at hg; cases hg
    | true =>
      rw [hlt, cond_true] at hg
      cases hq : lookS st.fr d with
      | none => rw [hq] at hg; cases hg
      | some q =>
        rw [hq] at hg
        simp only [Option.map_some, Option.some.injEq] at hg
        rw [hR.ok.at_ d q hq hi, hg, hv]
  | false => rw [hb] at hl; exact hR.ok.at_ i p (by simpa using hl) hi
end

/-! ### what goes by itself -/
section
variable {P : Program} {ops : List Oper} {w : World}
/-- these operations lead from frame to frame, in w and in whatever has its memory -/
def Goes (P : Program) (ops : List Oper) (w : World) : List Oper → Act → Act → Prop
  | [], a, a' => a' = a
  | o :: r, a, a' => (Region.wanted o (yielded ops.toArray a.tmps) = true ∧ ∃ v, (∀ w' : World, w'.heap = w.heap → (execOp a.eval o).run P w' = .ok (.value v) w') ∧ Goes P ops w r (a.put o.dst v) a') ∨
      (Region.wanted o (yielded ops.toArray a.tmps) = false ∧ Goes P ops w r (a.put o.dst undef) a')
theorem goes_app : ∀ {l m : List Oper} {a b c : Act}, Goes P ops w l a b → Goes P ops w m b c → Goes P ops w (l ++ m) a c
  | [], _, _, _, _, h, k => by
    have h : _ = _ := h
    subst h; exact k
  | o :: r, m, a, b, c, h, k => by
    rcases h with ⟨h1, v, h2, h3⟩ | ⟨h1, h3⟩
    · exact .inl ⟨h1, v, h2, goes_app (l := r) h3 k⟩
    · exact .inr ⟨h1, goes_app (l := r) h3 k⟩
theorem goes_wp {Q : Exit → Act → World → Prop} : ∀ {l rest : List Oper} {a a' : Act}, Goes P ops w l a a' → wpList P ops.toArray Q rest a' w → wpList P ops.toArray Q (l ++ rest) a w
  | [], _, _, _, h, k => by
    have h : _ = _ := h
    subst h; exact k
  | o :: r, m, a, b, h, k => by
    rcases h with ⟨h1, v, h2, h3⟩ | ⟨h1, h3⟩
    · exact st_val v h1 (h2 w rfl) rfl (goes_wp (l := r) h3 k)
    · exact st_no h1 rfl (goes_wp (l := r) h3 k)
theorem goes_q {Q : Act → Prop} : ∀ {l rest : List Oper} {a a' : Act}, Goes P ops w l a a' → wpQuiet P ops.toArray (fun w' => ∃ n, w' = w.drewN n) Q rest a' → wpQuiet P ops.toArray (fun w' => ∃ n, w' = w.drewN n) Q (l ++ rest) a
  | [], _, _, _, h, k => by
    have h : _ = _ := h
    subst h; exact k
  | o :: r, m, a, b, h, k => by
    rcases h with ⟨h1, v, h2, h3⟩ | ⟨h1, h3⟩
    · exact q_val v h1 (by rintro _ ⟨n, rfl⟩; exact h2 _ rfl) rfl (goes_q (l := r) h3 k)
    · exact q_no h1 rfl (goes_q (l := r) h3 k)
def dsts : List Oper → List Nat
  | [] => []
  | o :: r => match o.dst with
    | some d => d :: dsts r
    | none => dsts r
theorem put_tmps (a : Act) (d : Option Tmp) (v : Value) : (a.put d v).tmps.size = a.tmps.size ∧ (a.put d v).defers = a.defers ∧ ∀ i, d ≠ some i → (a.put d v).tmps[i]? = a.tmps[i]? := by
  cases d with
  | none => exact ⟨rfl, rfl, fun _ _ => rfl⟩
  | some k =>
    refine ⟨by simp [Act.put], rfl, fun i hi => ?_⟩
    simp only [Act.put]
    rw [Array.getElem?_setIfInBounds_ne (fun e => hi (by rw [e]))]
theorem goes_frame : ∀ {l : List Oper} {a a' : Act}, Goes P ops w l a a' → a'.tmps.size = a.tmps.size ∧ a'.defers = a.defers ∧ ∀ i, (dsts l).elem i = false → a'.tmps[i]? = a.tmps[i]?
  | [], _, _, h => by
    have h : _ = _ := h
    subst h; exact ⟨rfl, rfl, fun _ _ => rfl⟩
  | o :: r, a, b, h => by
    have key : ∀ v, Goes P ops w r (a.put o.dst v) b → b.tmps.size = a.tmps.size ∧ b.defers = a.defers ∧ ∀ i, (dsts (o :: r)).elem i = false → b.tmps[i]? = a.tmps[i]? := fun v h3 => by
      obtain ⟨k1, k2, k3⟩ := goes_frame h3
      obtain ⟨p1, p2, p3⟩ := put_tmps a o.dst v
      refine ⟨k1.trans p1, k2.trans p2, fun i hi => ?_⟩
      cases hd : o.dst with
      | none =>
        simp only [dsts, hd] at hi
        rw [k3 i hi, p3 i (by rw [hd]; simp)]
      | some d =>
        simp only [dsts, hd, List.elem_cons] at hi
        split at hi
        · cases hi
        · rename_i hne
          rw [k3 i hi, p3 i (by rw [hd]; intro e; simp only [Option.some.injEq] at e; subst e; simp at hne)]
    rcases h with ⟨h1, v, h2, h3⟩ | ⟨h1, h3⟩
    · exact key v h3
    · exact key _ h3
end

/-! ### rows under tests -/
def inCh (ops : List Oper) : Nat → Nat → Nat → Bool
  | 0, _, _ => false
  | f + 1, q, j => bif Nat.beq q j then true else match nthO ops q with
    | some o => (match o.guard with
      | some (r, _) => inCh ops f r j
      | none => false)
    | none => false
def cntG (ops : List Oper) (j : Nat) : List Oper → Nat
  | [] => 0
  | o :: r => match o.guard with
    | some (q, _) => bif inCh ops 50 q j then cntG ops j r + 1 else 0
    | none => 0
def mrg (t : Bool) (a b : SV) : Option SV := match a, b with
  | .bl true, .bl false => some (.bt t)
  | .bl true, .bt y => some (.bt (t || y))
  | .bt x, .bl false => some (.bt (t && x))
  | .bl false, .bl true => some (.bt (!t))
  | .bl false, .bt y => some (.bt (!t && y))
  | .bt x, .bl true => some (.bt (!t || x))
  | .bt x, .bt y => some (.bt (bif t then x else y))
  | .bl true, .bl true => some (.bl true)
  | .bl false, .bl false => some (.bl false)
  | _, _ => none
theorem mrg_ok {t : Bool} {a b v : SV} (h : mrg t a b = some v) (β : Nat → Nat) : (t = true → val β v = val β a) ∧ (t = false → val β v = val β b) := by
  unfold mrg at h
  split at h <;> simp only [Option.some.injEq, reduceCtorEq] at h <;> subst h <;> refine ⟨fun e => ?_, fun e => ?_⟩ <;> subst e <;> simp [val, cvs]
def dropS (ds : List Nat) : List (Nat × Nat × SV) → List (Nat × Nat × SV)
  | [] => []
  | p :: r => bif ds.elem p.1 then dropS ds r else p :: dropS ds r
theorem lookS_drop {ds : List Nat} : ∀ {l : List (Nat × Nat × SV)} {i : Nat}, (ds.elem i = true → lookS (dropS ds l) i = none) ∧ (ds.elem i = false → lookS (dropS ds l) i = lookS l i)
  | [], i => ⟨fun _ => rfl, fun _ => rfl⟩
  | (k, p) :: r, i => by
    obtain ⟨h1, h2⟩ := lookS_drop (ds := ds) (l := r) (i := i)
    simp only [dropS]
    cases hk : ds.elem k with
    | true =>
      simp only [cond_true]
      refine ⟨h1, fun hi => ?_⟩
      rw [h2 hi]
      simp only [lookS]
      cases hb : Nat.beq k i with
      | true => have := Nat.eq_of_beq_eq_true hb; subst this; rw [hi] at hk; cases hk
      | false => rfl
    | false =>
      simp only [cond_false, lookS]
      cases hb : Nat.beq k i with
      | true =>
        have := Nat.eq_of_beq_eq_true hb
        subst this
        exact ⟨fun hi => (by rw [hi] at hk; cases hk), fun _ => rfl⟩
      | false => exact ⟨h1, h2⟩
def St.dropD (st : St) (ds : List Nat) : St := { st with fr := dropS ds st.fr }
theorem Ext.dropD (st : St) (ds : List Nat) : Ext st (st.dropD ds) :=
  ⟨rfl, Nat.le_refl _, fun i k v hl _ => by
    cases he : ds.elem i with
    | true => rw [show lookS (st.dropD ds).fr i = none from (lookS_drop (l := st.fr)).1 he] at hl; cases hl
    | false => rw [show lookS (st.dropD ds).fr i = lookS st.fr i from (lookS_drop (l := st.fr)).2 he] at hl; exact hl, fun i b h ho _ => ⟨b, h, ho, rfl, rfl, rfl, fun _ h => h⟩, psr, dfr⟩
/-- the same memory and own variables -/
structure Alike (s t : St) : Prop where
  bx : t.bx = s.bx
  w0 : t.w0 = s.w0
  mv : t.mv = s.mv
  dt : t.dt = s.dt
  n : t.n = s.n
  df : t.df = s.df
theorem Alike.refl (s : St) : Alike s s := ⟨rfl, rfl, rfl, rfl, rfl, rfl⟩
theorem Alike.trans {s t u : St} (h : Alike s t) (k : Alike t u) : Alike s u := ⟨k.bx.trans h.bx, k.w0.trans h.w0, k.mv.trans h.mv, k.dt.trans h.dt, k.n.trans h.n, k.df.trans h.df⟩
theorem Alike.put (s : St) (d : Option Tmp) (v : SV) : Alike s (s.put d v) := by cases d <;> exact ⟨rfl, rfl, rfl, rfl, rfl, rfl⟩
theorem Rep.alike {β : Nat → Nat} {s t : St} {a a' : Act} {w : World} (h : Rep β s a w) (k : Alike s t) (hf : FrOk β t.n t.fr (dfs t.df) a') : Rep β t a' w := by
  obtain ⟨k1, k2, k3, k4, k5, k6⟩ := k
  refine ⟨frok_of hf, fun i b hb ho => ?_, fun i j bi bj h1 h2 h3 h4 => ?_, ?_, fun hm => ?_⟩
  · rw [k1] at hb
    obtain ⟨g1, g2, g3⟩ := h.bx i b hb ho
    exact ⟨g1, g2, fun e => by rw [k2]; exact g3 e⟩
  · rw [k1] at h1 h2
    exact h.ne i j bi bj h1 h2 h3 h4
  · rw [k2, k4]; exact h.only
  · rw [k2]; exact h.still (by rw [← k3]; exact hm)
def seqP (P : Program) (ops : List Oper) : Nat → List (Bool × Bool) → List Oper → St → (St → Prop) → Prop
  | 0, _, _, _, _ => False
  | _ + 1, _, [], st, K => K st
  | f + 1, gs, o :: rest, st, K => match o.guard with
    | none => pur P gs st o.op fun v => seqP P ops f gs rest (st.put o.dst v) K
    | some (j, want) => (match tst st ops j with
      | some (_, .un) => seqP P ops f gs rest (st.put o.dst .un) K
      | some (_, .bl b) => bif b == want then pur P gs st o.op fun v => seqP P ops f gs rest (st.put o.dst v) K else seqP P ops f gs rest (st.put o.dst .un) K
      | some (d, .bt t) => (match (o :: rest)[cntG ops j (o :: rest)]? with
        | some pk => (match pk.dst with
          | some k =>
            seqP P ops f (gs ++ [(t, true)]) ((o :: rest).take (cntG ops j (o :: rest) + 1)) (st.put (some d) (.bl true)) fun sa =>
            elimO (sa.get k) fun va =>
            seqP P ops f (gs ++ [(t, false)]) ((o :: rest).take (cntG ops j (o :: rest) + 1)) (st.put (some d) (.bl false)) fun sb =>
            elimO (sb.get k) fun vb =>
            elimO (mrg t va vb) fun v =>
            seqP P ops f gs ((o :: rest).drop (cntG ops j (o :: rest) + 1)) ((st.dropD (dsts ((o :: rest).take (cntG ops j (o :: rest) + 1)))).put (some k) v) K
          | none => False)
        | none => False)
      | _ => False)
theorem gh_app : ∀ {gs : List (Bool × Bool)} {t b : Bool}, gh gs → t = b → gh (gs ++ [(t, b)])
  | [], _, _, _, h => ⟨h, trivial⟩
  | (_, _) :: r, _, _, h, k => ⟨h.1, gh_app (gs := r) h.2 k⟩
theorem seqP_ok {P : Program} {ops : List Oper} : ∀ {f : Nat} {gs : List (Bool × Bool)} {l : List Oper} {st : St} {K : St → Prop}, seqP P ops f gs l st K →
    ∃ st', K st' ∧ Ext st st' ∧ Alike st st' ∧ (gh gs → ∀ β a w, Rep β st a w → ∃ a', Goes P ops w l a a' ∧ Rep β st' a' w)
  | 0, _, _, _, _, h => h.elim
  | _ + 1, gs, [], st, K, h => ⟨st, h, Ext.refl _, Alike.refl _, fun _ β a w hR => ⟨a, rfl, hR⟩⟩
  | f + 1, gs, o :: rest, st, K, h => by
    have one : (Region.wanted o = fun _ => true) ∨ True → ∀ {K : St → Prop}, (pur P gs st o.op fun v => seqP P ops f gs rest (st.put o.dst v) K) →
        (gh gs → ∀ β a w, Rep β st a w → Region.wanted o (yielded ops.toArray a.tmps) = true) →
        ∃ st', K st' ∧ Ext st st' ∧ Alike st st' ∧ (gh gs → ∀ β a w, Rep β st a w → ∃ a', Goes P ops w (o :: rest) a a' ∧ Rep β st' a' w) := fun _ K h hw => by
      obtain ⟨v, h1, hy⟩ := pur_ok h
      obtain ⟨st', k1, k2, k3, k4⟩ := seqP_ok h1
      refine ⟨st', k1, (Ext.put _ _ _).trans k2, (Alike.put _ _ _).trans k3, fun hg β a w hR => ?_⟩
      obtain ⟨a', g1, g2⟩ := k4 hg β _ w (hR.put o.dst v)
      exact ⟨a', .inl ⟨hw hg β a w hR, _, fun w' hh => hy hg β a w hR _ _ _ _ _ w' fun _ => hh, g1⟩, g2⟩
    have no : ∀ {K : St → Prop}, seqP P ops f gs rest (st.put o.dst .un) K → (gh gs → ∀ β a w, Rep β st a w → Region.wanted o (yielded ops.toArray a.tmps) = false) →
        ∃ st', K st' ∧ Ext st st' ∧ Alike st st' ∧ (gh gs → ∀ β a w, Rep β st a w → ∃ a', Goes P ops w (o :: rest) a a' ∧ Rep β st' a' w) := fun h1 hw => by
      obtain ⟨st', k1, k2, k3, k4⟩ := seqP_ok h1
      refine ⟨st', k1, (Ext.put _ _ _).trans k2, (Alike.put _ _ _).trans k3, fun hg β a w hR => ?_⟩
      obtain ⟨a', g1, g2⟩ := k4 hg β _ w (hR.put o.dst .un)
      exact ⟨a', .inr ⟨hw hg β a w hR, g1⟩, g2⟩
    unfold seqP at h
    split at h
    · rename_i hg0
      exact one (.inr trivial) h fun _ β a w hR => wn hg0
    · rename_i j want hg0
      split at h
      · rename_i d ht
        exact no h fun _ β a w hR => wanted_un hR hg0 ht
      · rename_i d b ht
        cases hb : (b == want) with
        | true =>
          rw [hb] at h
          exact one (.inr trivial) h fun _ β a w hR => by rw [wanted_bl hR hg0 ht (b := b) rfl, hb]
        | false =>
          rw [hb] at h
          exact no h fun _ β a w hR => by rw [wanted_bl hR hg0 ht (b := b) rfl, hb]
      · rename_i d t ht
        obtain ⟨oj, hj1, hj2, hj3⟩ := tst_ok ht
        split at h
        · rename_i pk hpk
          split at h
          · rename_i k hk
            generalize cntG ops j (o :: rest) = m at h hpk
            obtain ⟨sa, ha, ea1, ea2, ea3⟩ := seqP_ok h
            obtain ⟨va, hva, ha⟩ := elimO_ex ha
            obtain ⟨sb, hb, eb1, eb2, eb3⟩ := seqP_ok ha
            obtain ⟨vb, hvb, hb⟩ := elimO_ex hb
            obtain ⟨v, hv, hb⟩ := elimO_ex hb
            obtain ⟨st', k1, k2, k3, k4⟩ := seqP_ok hb
            refine ⟨st', k1, ((Ext.dropD _ _).trans (Ext.put _ _ _)).trans k2, ((⟨rfl, rfl, rfl, rfl, rfl, rfl⟩ : Alike st (st.dropD _)).trans (Alike.put _ _ _)).trans k3, fun hg β a w hR => ?_⟩
            have fin : ∀ (s : SV) (u : St) (x : SV), Rep β u a w → (∃ a', Goes P ops w ((o :: rest).take (m + 1)) a a' ∧ ∃ u', Rep β u' a' w ∧ u'.n = st.n ∧ u'.get k = some x ∧ val β v = val β x) → ∃ a', Goes P ops w (o :: rest) a a' ∧ Rep β st' a' w := by
              rintro s u x hu ⟨a1, g1, u', r1, r2, r3, r4⟩
              obtain ⟨f1, f2, f3⟩ := goes_frame g1
              have hR1 : Rep β ((st.dropD (dsts ((o :: rest).take (m + 1)))).put (some k) v) a1 w := by
                refine hR.alike ((⟨rfl, rfl, rfl, rfl, rfl, rfl⟩ : Alike st (st.dropD _)).trans (Alike.put _ _ _)) ⟨f1.trans hR.ok.sz, f2.trans hR.ok.df, fun i p hl hi => ?_⟩
                simp only [St.put, lookS] at hl
                cases hbk : Nat.beq k i with
                | true =>
                  rw [hbk] at hl
                  simp only [cond_true, Option.some.injEq] at hl
                  subst hl
                  have := Nat.eq_of_beq_eq_true hbk
                  subst this
                  have e := r1.get r3
                  show a1.tmps[k]? = some (val β v)
                  rw [r4, ← e]
                  have hs : k < a1.tmps.size := by rw [f1, hR.ok.sz]; exact hi
                  simp [Act.eval, hs]
                | false =>
                  rw [hbk] at hl
                  simp only [cond_false] at hl
                  cases he : (dsts ((o :: rest).take (m + 1))).elem i with
                  | true => rw [show lookS (st.dropD _).fr i = none from (lookS_drop (l := st.fr)).1 he] at hl; cases hl
                  | false =>
                    rw [show lookS (st.dropD _).fr i = lookS st.fr i from (lookS_drop (l := st.fr)).2 he] at hl
                    rw [f3 i he]
                    exact hR.ok.at_ i p hl hi
              obtain ⟨a2, g2, g3⟩ := k4 hg β a1 w hR1
              refine ⟨a2, ?_, g3⟩
              have := goes_app g1 g2
              rwa [List.take_append_drop] at this
            cases t with
            | true =>
              have hu : Rep β (st.put (some d) (.bl true)) a w := hR.set hj3 rfl
              obtain ⟨a1, g1, g2⟩ := ea3 (gh_app hg rfl) β a w hu
              exact fin (.bl true) _ va hu ⟨a1, g1, sa, g2, ea2.n.trans rfl, hva, (mrg_ok hv β).1 rfl⟩
            | false =>
              have hu : Rep β (st.put (some d) (.bl false)) a w := hR.set hj3 rfl
              obtain ⟨a1, g1, g2⟩ := eb3 (gh_app hg rfl) β a w hu
              exact fin (.bl false) _ vb hu ⟨a1, g1, sb, g2, eb2.n.trans rfl, hvb, (mrg_ok hv β).2 rfl⟩
          · exact h.elim
        · exact h.elim
      · exact h.elim
end Go.Kt.V
