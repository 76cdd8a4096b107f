
/-
  Own work: a walk by reckoning, part 11: whoever comes to where ways meet is in the state that is told there. No program in sight.
-/
import Derived.Test.YtmanockofcopjaaGreatDoorV10
namespace Go.Kt.V
open Go Go.RowKit Go.Kt
set_option linter.unusedSimpArgs false
set_option linter.unusedVariables false

theorem lookS_app : ∀ (l m : List (Nat × Nat × SV)) (i : Nat), lookS (l ++ m) i = match lookS l i with
    | some p => some p
    | none => lookS m i
  | [], _, _ => rfl
  | (k, p) :: r, m, i => by
    simp only [List.cons_append, lookS]
    cases Nat.beq k i with
    | true => rfl
    | false => exact lookS_app r m i
theorem lookS_k {fr : List (Nat × Nat × SV)} : ∀ {kp : List Nat} {i : Nat} {p : Nat × SV}, lookS (kFr fr kp) i = some p → i ∈ kp ∧ lookS fr i = some p
  | j :: r, i, p, h => by
    unfold kFr at h
    split at h
    · rename_i q hq
      simp only [lookS] at h
      cases hb : Nat.beq j i with
      | true =>
        rw [hb] at h
        simp only [cond_true, Option.some.injEq] at h
        subst h
        have := Nat.eq_of_beq_eq_true hb
        subst this
        exact ⟨by simp, hq⟩
      | false =>
        rw [hb] at h
        obtain ⟨h1, h2⟩ := lookS_k (by simpa using h)
        exact ⟨by simp [h1], h2⟩
    · obtain ⟨h1, h2⟩ := lookS_k h
      exact ⟨by simp [h1], h2⟩
theorem lookS_k' {fr : List (Nat × Nat × SV)} {p : Nat × SV} : ∀ {kp : List Nat} {i : Nat}, i ∈ kp → lookS fr i = some p → lookS (kFr fr kp) i = some p
  | j :: r, i, hi, h => by
    unfold kFr
    cases hb : Nat.beq j i with
    | true =>
      have := Nat.eq_of_beq_eq_true hb
      subst this
      rw [h]
      simp only [lookS, Nat.beq_refl, cond_true]
    | false =>
      have hi' : i ∈ r := by
        rcases List.mem_cons.1 hi with e | e
        · subst e; simp at hb
        · exact e
      have ih := lookS_k' (p := p) hi' h
      split
      · simp only [lookS, hb, cond_false]; exact ih
      · exact ih
theorem mFr_slots {ct : Nat} : ∀ {ms : List MI} {vs : List SV} {i : Nat}, (mSl ms).elem i = false → lookS (mFr ct ms vs) i = none
  | [], vs, i, _ => by cases vs <;> rfl
  | .s j l :: r, [], i, _ => rfl
  | .s j l :: r, v :: vs, i, h => by
    simp only [mSl, List.elem_cons] at h
    split at h
    · cases h
    · rename_i hne
      simp only [mFr, lookS]
      have : Nat.beq j i = false := by
        cases hb : Nat.beq j i with
        | false => rfl
        | true => have := Nat.eq_of_beq_eq_true hb; subst this; simp at hne
      rw [this, cond_false]
      exact mFr_slots h
  | .a j ls :: r, vs, i, h => by
    simp only [mSl, List.elem_cons] at h
    split at h
    · cases h
    · rename_i hne
      simp only [mFr, lookS]
      have : Nat.beq j i = false := by
        cases hb : Nat.beq j i with
        | false => rfl
        | true => have := Nat.eq_of_beq_eq_true hb; subst this; simp at hne
      rw [this, cond_false]
      exact mFr_slots h
  | .b j ls :: r, vs, i, h => by
    simp only [mFr]
    exact mFr_slots h
theorem mFr_stamp {ct : Nat} : ∀ {ms : List MI} {vs : List SV} {i : Nat} {p : Nat × SV}, lookS (mFr ct ms vs) i = some p → p.1 = ct
  | [], vs, i, p, h => by cases vs <;> cases h
  | .s j l :: r, [], i, p, h => by cases h
  | .s j l :: r, v :: vs, i, p, h => by
    simp only [mFr, lookS] at h
    cases hb : Nat.beq j i with
    | true => rw [hb] at h; simp only [cond_true, Option.some.injEq] at h; subst h; rfl
    | false => rw [hb] at h; exact mFr_stamp (by simpa using h)
  | .a j ls :: r, vs, i, p, h => by
    simp only [mFr, lookS] at h
    cases hb : Nat.beq j i with
    | true => rw [hb] at h; simp only [cond_true, Option.some.injEq] at h; subst h; rfl
    | false => rw [hb] at h; exact mFr_stamp (by simpa using h)
  | .b j ls :: r, vs, i, p, h => by
    simp only [mFr] at h
    exact mFr_stamp h
/-- what is left of a box where ways meet -/
theorem mBx_shape {st : St} : ∀ (ms : List MI) (vs : List SV) (bx : List Box) (i : Nat) (b : Box), nthB bx i = some b → ∃ b', nthB (mBx st ms vs bx) i = some b' ∧ b'.ty = b.ty ∧ b'.ok = b.ok ∧ b'.blk = b.blk ∧ ((mBs st ms).elem i = false → b' = b) ∧ (b' = b ∨ b'.stp = st.ct)
  | [], vs, bx, i, b, h => ⟨b, by cases vs <;> exact h, rfl, rfl, rfl, fun _ => rfl, .inl rfl⟩
  | .s j l :: r, [], bx, i, b, h => ⟨b, h, rfl, rfl, rfl, fun _ => rfl, .inl rfl⟩
  | .s j l :: r, v :: vs, bx, i, b, h => mBx_shape r vs bx i b h
  | .a j ls :: r, vs, bx, i, b, h => mBx_shape r _ bx i b h
  | .b s ls :: r, vs, bx, i, b, h => by
    simp only [mBx, mBs]
    cases hj : bxi st s with
    | none => exact mBx_shape r _ bx i b h
    | some j =>
      dsimp only
      cases hc : nthB bx j with
      | none =>
        obtain ⟨b', h1, h2, h3, h4, h5, h6⟩ := mBx_shape (st := st) r (vs.drop ls.length) bx i b h
        refine ⟨b', h1, h2, h3, h4, fun he => h5 ?_, h6⟩
        simp only [List.elem_cons] at he
        split at he
        · cases he
        · exact he
      | some c =>
        dsimp only
        by_cases hij : i = j
        · subst hij
          rw [hc] at h
          injection h with h
          subst h
          obtain ⟨b', h1, h2, h3, h4, h5, h6⟩ := mBx_shape (st := st) r (vs.drop ls.length) (setB bx i { c with cells := vs.take ls.length, stp := st.ct }) i _ (by rw [nthB_set hc, if_pos rfl])
          refine ⟨b', h1, h2, h3, h4, fun he => ?_, ?_⟩
          · simp at he
          · rcases h6 with rfl | h6
            · exact .inr rfl
            · exact .inr h6
        · obtain ⟨b', h1, h2, h3, h4, h5, h6⟩ := mBx_shape (st := st) r (vs.drop ls.length) (setB bx j { c with cells := vs.take ls.length, stp := st.ct }) i b (by rw [nthB_set hc, if_neg hij]; exact h)
          refine ⟨b', h1, h2, h3, h4, fun he => h5 ?_, h6⟩
          simp only [List.elem_cons] at he
          split at he
          · cases he
          · exact he
theorem mBx_none {st : St} : ∀ (ms : List MI) (vs : List SV) (bx : List Box) (i : Nat), nthB bx i = none → nthB (mBx st ms vs bx) i = none
  | [], vs, bx, i, h => by cases vs <;> exact h
  | .s j l :: r, [], bx, i, h => h
  | .s j l :: r, v :: vs, bx, i, h => mBx_none r vs bx i h
  | .a j ls :: r, vs, bx, i, h => mBx_none r _ bx i h
  | .b s ls :: r, vs, bx, i, h => by
    simp only [mBx]
    cases hj : bxi st s with
    | none => exact mBx_none r _ bx i h
    | some j =>
      dsimp only
      cases hc : nthB bx j with
      | none => exact mBx_none r _ bx i h
      | some c =>
        dsimp only
        refine mBx_none r _ _ i ?_
        rw [nthB_set hc, if_neg]
        · exact h
        · rintro rfl; rw [h] at hc; cases hc
theorem Ext.meet {st : St} {kp : List Nat} {ms : List MI} {vs : List SV} {w : World} : Ext st (meetSt st kp ms vs w) := by
  refine ⟨rfl, Nat.le_succ _, fun i k v hl hlt => ?_, fun i b' hb ho hs => ?_, fun i b hb => ?_, dfr⟩
  · simp only [meetSt] at hl
    rw [lookS_app] at hl
    split at hl
    · rename_i p hp
      have := mFr_stamp hp
      simp only [Option.some.injEq] at hl
      subst hl
      dsimp only at this
      omega
    · exact (lookS_k hl).2
  · simp only [meetSt] at hb
    cases hn : nthB st.bx i with
    | none => rw [mBx_none _ _ _ _ hn] at hb; cases hb
    | some b =>
      obtain ⟨b2, h1, h2, h3, h4, h5, h6⟩ := mBx_shape (st := st) ms vs st.bx i b hn
      rw [h1] at hb
      injection hb with hb
      subst hb
      rcases h6 with rfl | h6
      · exact ⟨b2, rfl, ho, rfl, rfl, rfl, fun _ h => h⟩
      · omega
  · obtain ⟨b2, h1, h2, h3, h4, _⟩ := mBx_shape (st := st) ms vs st.bx i b hb
    exact ⟨b2, h1, h2, h3, fun k hk => by rw [h4]; exact hk⟩
/-- s came of st's meeting place, or is st -/
def Rel (st : St) (kp : List Nat) (ms : List MI) (s : St) : Prop := Ext st s ∨ ∃ vs w, Ext (meetSt st kp ms vs w) s
section
variable {st s : St} {kp : List Nat} {ms : List MI} {β : Nat → Nat} {a : Act} {w : World}
theorem Rel.n (h : Rel st kp ms s) : s.n = st.n := by
  rcases h with h | ⟨vs, w, h⟩
  · exact h.n
  · exact h.n
theorem Rel.df (h : Rel st kp ms s) : ∃ l, s.df = l ++ st.df := by
  rcases h with h | ⟨vs, w, h⟩
  · exact h.df
  · exact h.df
theorem Rel.slot (h : Rel st kp ms s) {i k : Nat} {v v' : SV} (hi : i ∈ kp) (h1 : lookS st.fr i = some (k, v)) (h2 : lookS s.fr i = some (k, v')) (hk : k < st.ct) (hs : (mSl ms).elem i = false) : v' = v := by
  rcases h with h | ⟨vs, w, h⟩
  · have := h.fr i k v' h2 hk
    rw [h1] at this
    simpa using this.symm
  · have := h.fr i k v' h2 (Nat.lt_succ_of_lt hk)
    simp only [meetSt] at this
    rw [lookS_app, mFr_slots hs] at this
    dsimp only at this
    rw [lookS_k' hi h1] at this
    simpa using this.symm
theorem Rel.ps (h : Rel st kp ms s) {i : Nat} {b : Box} (hb : nthB st.bx i = some b) : ∃ c, nthB s.bx i = some c ∧ c.ty = b.ty ∧ c.ok = b.ok ∧ ∀ k, b.blk = some k → c.blk = some k := by
  rcases h with h | ⟨vs, w, h⟩
  · exact h.ps i b hb
  · obtain ⟨b2, h1, h2, h3, h4, _⟩ := mBx_shape (st := st) ms vs st.bx i b hb
    obtain ⟨c, k1, k2, k3, k4⟩ := h.ps i b2 h1
    exact ⟨c, k1, k2.trans h2, k3.trans h3, fun k hk => k4 k (by rw [h4]; exact hk)⟩
theorem Rel.cells (h : Rel st kp ms s) {i : Nat} {b c : Box} (hb : nthB st.bx i = some b) (hc : nthB s.bx i = some c) (ho : b.ok = true) (hl : (mBs st ms).elem i = false) (hs : c.stp < st.ct) : c.cells = b.cells := by
  rcases h with h | ⟨vs, w, h⟩
  · obtain ⟨c', k1, k2, k3, k4⟩ := h.ps i b hb
    rw [hc] at k1
    injection k1 with k1
    subst k1
    obtain ⟨b3, m1, m2, m3, _⟩ := h.bx i c hc (k3.trans ho) hs
    rw [hb] at m1
    injection m1 with m1
    rw [m1, m3]
  · obtain ⟨b2, h1, h2, h3, h4, h5, _⟩ := mBx_shape (st := st) ms vs st.bx i b hb
    obtain ⟨c', k1, k2, k3, k4⟩ := h.ps i b2 h1
    rw [hc] at k1
    injection k1 with k1
    subst k1
    obtain ⟨b3, m1, m2, m3, m4, m5, m6⟩ := h.bx i c hc (k3.trans (h3.trans ho)) (Nat.lt_succ_of_lt hs)
    rw [show nthB (meetSt st kp ms vs w).bx i = nthB (mBx st ms vs st.bx) i from rfl, h1] at m1
    injection m1 with m1
    subst m1
    rw [← m3, h5 hl]
theorem kpOk_at {sl : List Nat} : ∀ {kp : List Nat}, kpOk st s sl kp = true → ∀ i ∈ kp, ∀ k v, lookS st.fr i = some (k, v) → ∃ v', lookS s.fr i = some (k, v') ∧ k < st.ct ∧ sl.elem i = false ∧ cln (clB st.bx) v = true
  | j :: r, h, i, hi, k, v, hl => by
    simp only [kpOk, Bool.and_eq_true] at h
    rcases List.mem_cons.1 hi with rfl | hi
    · have h1 := h.1
      rw [hl] at h1
      dsimp only at h1
      split at h1
      · rename_i k' v' hs
        simp only [Bool.and_eq_true, Bool.not_eq_true'] at h1
        have e := Nat.eq_of_beq_eq_true h1.1.1.1
        subst e
        exact ⟨v', hs, Nat.le_of_ble_eq_true h1.1.1.2, h1.1.2, h1.2⟩
      · cases h1
    · exact kpOk_at h.2 i hi k v hl
theorem bxOk_at {lst : List Nat} : ∀ {l m : List Box} {n : Nat}, bxOk st lst n l m = true → ∀ i b, nthB l i = some b → b.ok = true → b.blk.isSome = true ∧ (lst.elem (n + i) = true ∨ ∃ c, nthB m i = some c ∧ c.stp < st.ct ∧ clns (clB st.bx) b.cells = true)
  | b :: r, [], n, h, _, _, _, _ => by simp [bxOk] at h
  | b :: r, c :: q, n, h, 0, b', hb, ho => by
    simp only [bxOk, Bool.and_eq_true, Bool.or_eq_true, Bool.not_eq_true'] at h
    simp only [nthB, Option.some.injEq] at hb
    subst hb
    rcases h.1 with h1 | ⟨h1, h2⟩
    · rw [ho] at h1; cases h1
    · refine ⟨h1, ?_⟩
      rcases h2 with h2 | h2
      · exact .inl h2
      · exact .inr ⟨c, rfl, Nat.le_of_ble_eq_true h2.1, h2.2⟩
  | b :: r, c :: q, n, h, i + 1, b', hb, ho => by
    simp only [bxOk, Bool.and_eq_true] at h
    have := bxOk_at h.2 i b' hb ho
    rwa [show n + 1 + i = n + (i + 1) by omega] at this
theorem Rep.at (hR : Rep β s a w) {i : Nat} {v : SV} (h : s.get i = some v) : i < s.n ∧ a.tmps[i]? = some (V.val β v) := by
  unfold St.get at h
  cases hb : Nat.blt i s.n with
  | false => rw [hb] at h; cases h
  | true =>
    rw [hb, cond_true] at h
    cases hl : lookS s.fr i with
    | none => rw [hl] at h; cases h
    | some p =>
      rw [hl] at h
      simp only [Option.map_some, Option.some.injEq] at h
      subst h
      exact ⟨Nat.le_of_ble_eq_true hb, hR.ok.at_ i p hl (Nat.le_of_ble_eq_true hb)⟩
theorem clns_app {g : Nat → Bool} : ∀ {l m : List SV}, clns g (l ++ m) = true → clns g l = true ∧ clns g m = true
  | [], m, h => ⟨rfl, h⟩
  | s :: r, m, h => by
    simp only [List.cons_append, clns, Bool.and_eq_true] at h ⊢
    obtain ⟨h1, h2⟩ := clns_app h.2
    exact ⟨⟨h.1, h1⟩, h2⟩
theorem vals_split {γ b : Nat → Nat} {vs l m : List SV} {n : Nat} (hv : V.vals γ vs = V.vals b l ++ V.vals b m) (hl : l.length = n) : V.vals γ (vs.take n) = V.vals b l ∧ V.vals γ (vs.drop n) = V.vals b m := by
  have h1 : (V.vals γ vs).take n = V.vals γ (vs.take n) := by simp [V.vals, List.map_take]
  have h2 : (V.vals γ vs).drop n = V.vals γ (vs.drop n) := by simp [V.vals, List.map_drop]
  have hn : (V.vals b l).length = n := by rw [vals_len, hl]
  rw [← h1, ← h2, hv, ← hn]
  exact ⟨List.take_left, List.drop_left⟩
/-- slots -/
theorem mFr_ok (hR : Rep β s a w) {ct : Nat} {γ : Nat → Nat} : ∀ {ms : List MI} {ss vs : List SV}, atoms st s ms = some ss → clns (clB s.bx) ss = true → V.vals γ vs = V.vals (blB s.bx) ss → ∀ i p, lookS (mFr ct ms vs) i = some p → a.tmps[i]? = some (V.val γ p.2)
  | [], ss, vs, _, _, _, i, p, h => by cases vs <;> cases h
  | .s j l :: r, ss, [], _, _, _, i, p, h => by cases h
  | .s j l :: r, ss, v :: vs, ha, hc, hv, i, p, h => by
    simp only [atoms] at ha
    split at ha
    · rename_i v0 l0 h1 h2
      simp only [Option.some.injEq] at ha
      subst ha
      simp only [clns, Bool.and_eq_true] at hc
      simp only [V.vals, List.map_cons, List.cons.injEq] at hv
      simp only [mFr, lookS] at h
      cases hb : Nat.beq j i with
      | true =>
        rw [hb] at h
        simp only [cond_true, Option.some.injEq] at h
        subst h
        have := Nat.eq_of_beq_eq_true hb
        subst this
        rw [(hR.at h1).2, hv.1, hR.valE hc.1]
      | false =>
        rw [hb] at h
        exact mFr_ok hR h2 hc.2 hv.2 i p (by simpa using h)
    · cases ha
  | .a j ls :: r, ss, vs, ha, hc, hv, i, p, h => by
    simp only [atoms] at ha
    split at ha
    · rename_i l0 m0 h1 h2
      obtain ⟨h3, rfl⟩ := bifO ha
      simp only [Bool.and_eq_true] at h3
      have hlen := Nat.eq_of_beq_eq_true h3.2
      obtain ⟨c1, c2⟩ := clns_app hc
      rw [vals_app] at hv
      obtain ⟨e1, e2⟩ := vals_split hv hlen
      simp only [mFr, lookS] at h
      cases hb : Nat.beq j i with
      | true =>
        rw [hb] at h
        simp only [cond_true, Option.some.injEq] at h
        subst h
        have := Nat.eq_of_beq_eq_true hb
        subst this
        rw [(hR.at h1).2]
        show some (Value.agg (cvs β l0).toArray) = some (Value.agg (cvs γ (ofL _)).toArray)
        rw [cvs_ofL, e1, cvs_toL β h3.1, hR.valsE c1]
      | false =>
        rw [hb] at h
        exact mFr_ok hR h2 c2 e2 i p (by simpa using h)
    · cases ha
  | .b j ls :: r, ss, vs, ha, hc, hv, i, p, h => by
    simp only [atoms] at ha
    split at ha
    · split at ha
      · rename_i b m0 h1 h2
        obtain ⟨h3, rfl⟩ := bifO ha
        have hlen := Nat.eq_of_beq_eq_true h3
        obtain ⟨c1, c2⟩ := clns_app hc
        rw [vals_app] at hv
        obtain ⟨e1, e2⟩ := vals_split hv hlen
        simp only [mFr] at h
        exact mFr_ok hR h2 c2 e2 i p h
      · cases ha
    · cases ha
/-- boxes -/
theorem mBx_ok (hR : Rep β s a w) {γ : Nat → Nat} (hps : ∀ i b, nthB st.bx i = some b → ∃ c, nthB s.bx i = some c ∧ c.ty = b.ty ∧ c.ok = b.ok) (hγ : ∀ i b, nthB st.bx i = some b → b.ok = true → γ i = β i) : ∀ {ms : List MI} {ss vs : List SV} {bx : List Box}, atoms st s ms = some ss → clns (clB s.bx) ss = true → V.vals γ vs = V.vals (blB s.bx) ss →
    (∀ j b', nthB bx j = some b' → ∃ b, nthB st.bx j = some b ∧ b'.ty = b.ty ∧ b'.ok = b.ok) → (∀ j b', nthB bx j = some b' → b'.ok = true → Blk w (γ j) b'.ty (V.vals γ b'.cells) ∨ (mBs st ms).elem j = true) →
    ∀ j b', nthB (mBx st ms vs bx) j = some b' → b'.ok = true → Blk w (γ j) b'.ty (V.vals γ b'.cells)
  | [], ss, vs, bx, _, _, _, _, hi, j, b', hb, ho => by
    have : mBx st [] vs bx = bx := by cases vs <;> rfl
    rw [this] at hb
    rcases hi j b' hb ho with h | h
    · exact h
    · cases h
  | .s k l :: r, ss, [], bx, ha, hc, hv, h0, hi, j, b', hb, ho => by
    simp only [atoms] at ha
    split at ha
    · simp only [Option.some.injEq] at ha
      subst ha
      simp [V.vals] at hv
    · cases ha
  | .s k l :: r, ss, v :: vs, bx, ha, hc, hv, h0, hi, j, b', hb, ho => by
    simp only [atoms] at ha
    split at ha
    · rename_i v0 l0 h1 h2
      simp only [Option.some.injEq] at ha
      subst ha
      simp only [clns, Bool.and_eq_true] at hc
      simp only [V.vals, List.map_cons, List.cons.injEq] at hv
      exact mBx_ok hR hps hγ h2 hc.2 hv.2 h0 hi j b' hb ho
    · cases ha
  | .a k ls :: r, ss, vs, bx, ha, hc, hv, h0, hi, j, b', hb, ho => by
    simp only [atoms] at ha
    split at ha
    · rename_i l0 m0 h1 h2
      obtain ⟨h3, rfl⟩ := bifO ha
      simp only [Bool.and_eq_true] at h3
      have hlen := Nat.eq_of_beq_eq_true h3.2
      obtain ⟨c1, c2⟩ := clns_app hc
      rw [vals_app] at hv
      obtain ⟨e1, e2⟩ := vals_split hv hlen
      exact mBx_ok hR hps hγ h2 c2 e2 h0 hi j b' hb ho
    · cases ha
  | .b k ls :: r, ss, vs, bx, ha, hc, hv, h0, hi, j, b', hb, ho => by
    simp only [atoms] at ha
    split at ha
    · rename_i q hq
      split at ha
      · rename_i c m0 h1 h2
        obtain ⟨h3, rfl⟩ := bifO ha
        have hlen := Nat.eq_of_beq_eq_true h3
        obtain ⟨c1, c2⟩ := clns_app hc
        rw [vals_app] at hv
        obtain ⟨e1, e2⟩ := vals_split hv hlen
        simp only [mBx, hq] at hb
        cases hn : nthB bx q with
        | none =>
          rw [hn] at hb
          refine mBx_ok hR hps hγ h2 c2 e2 h0 (fun i b hb5 ho5 => ?_) j b' hb ho
          rcases hi i b hb5 ho5 with h | h
          · exact .inl h
          · simp only [mBs, hq, List.elem_cons] at h
            split at h
            · rename_i e
              have e : i = q := by simpa using e
              rw [e, hn] at hb5; cases hb5
            · exact .inr h
        | some b =>
          rw [hn] at hb
          obtain ⟨bs, g1, g2, g3⟩ := h0 q b hn
          refine mBx_ok hR hps hγ h2 c2 e2 (fun i b2 hb2 => ?_) (fun i b2 hb2 ho2 => ?_) j b' hb ho
          · rw [nthB_set hn] at hb2
            split at hb2
            · rename_i e
              subst e
              injection hb2 with hb2
              subst hb2
              exact ⟨bs, g1, g2, g3⟩
            · exact h0 i b2 hb2
          · rw [nthB_set hn] at hb2
            split at hb2
            · rename_i e
              subst e
              injection hb2 with hb2
              subst hb2
              left
              dsimp only at ho2 ⊢
              have hbo : bs.ok = true := by rw [← g3]; exact ho2
              obtain ⟨c', k1, k2, k3⟩ := hps i bs g1
              rw [h1] at k1
              injection k1 with k1
              subst k1
              have hB := (hR.bx i c h1 (k3.trans hbo)).blk
              rw [hγ i bs g1 hbo, g2, ← k2, e1, hR.valsE c1]
              exact hB
            · rename_i hne
              rcases hi i b2 hb2 ho2 with h | h
              · exact .inl h
              · simp only [mBs, hq, List.elem_cons] at h
                split at h
                · rename_i e
                  exact absurd (by simpa using e) hne
                · exact .inr h
      · cases ha
    · cases ha
theorem endJ_arr {J : JT (mLs ms)} (h : endJ st kp ms J s) (hR : Rep β s a w) (hm : s.mv = false) (hrel : Rel st kp ms s) {K : List SV → World → Prop} (hK : allJ (mLs ms) J K) :
    ∃ vs, K vs w ∧ Rep (blB st.bx) (meetSt st kp ms vs w) a w := by
  unfold endJ at h
  obtain ⟨h0, h⟩ := bif_ok h
  obtain ⟨ss, hss, h⟩ := elimO_ex h
  obtain ⟨hc, h⟩ := bif_ok h
  simp only [Bool.and_eq_true] at h0
  obtain ⟨h0, hdl⟩ := h0
  have hdf : s.df = st.df := by
    obtain ⟨l, hl⟩ := hrel.df
    have := Nat.eq_of_beq_eq_true hdl
    rw [hl, List.length_append] at this
    have : l = [] := List.length_eq_zero_iff.1 (by omega)
    rw [hl, this, List.nil_append]
  have hw := hR.still hm
  rw [← hw] at h
  obtain ⟨vs, k1, k2, k3, k4⟩ := apJ_ok h hK
  have hps : ∀ i b, nthB st.bx i = some b → ∃ c, nthB s.bx i = some c ∧ c.ty = b.ty ∧ c.ok = b.ok := fun i b hb => by
    obtain ⟨c, h1, h2, h3, _⟩ := hrel.ps hb
    exact ⟨c, h1, h2, h3⟩
  have hbl : ∀ i b, nthB st.bx i = some b → b.ok = true → b.blk = some (β i) := fun i b hb ho => by
    obtain ⟨hs, _⟩ := bxOk_at h0.2 i b hb ho
    obtain ⟨c, h1, h2, h3, h4⟩ := hrel.ps hb
    cases hk : b.blk with
    | none => rw [hk] at hs; cases hs
    | some k => rw [(hR.bx i c h1 (h3.trans ho)).at_ k (h4 k hk)]
  have hγ : ∀ i b, nthB st.bx i = some b → b.ok = true → blB st.bx i = β i := fun i b hb ho => by
    unfold blB; rw [hb]; dsimp only; rw [hbl i b hb ho]; rfl
  have hcl : ∀ i, clB st.bx i = true → blB st.bx i = β i := fun i hi => by
    unfold clB at hi
    cases hb : nthB st.bx i with
    | none => rw [hb] at hi; cases hi
    | some b =>
      rw [hb] at hi
      simp only [Bool.and_eq_true] at hi
      exact hγ i b hb hi.1
  have hshape : ∀ i b', nthB (mBx st ms vs st.bx) i = some b' → b'.ok = true → ∃ b, nthB st.bx i = some b ∧ b.ok = true ∧ b'.blk = b.blk := fun i b' hb ho => by
    cases hn : nthB st.bx i with
    | none => rw [mBx_none _ _ _ _ hn] at hb; cases hb
    | some b =>
      obtain ⟨b2, h1, h2, h3, h4, _⟩ := mBx_shape (st := st) ms vs st.bx i b hn
      rw [h1] at hb
      injection hb with hb
      subst hb
      exact ⟨b, rfl, by rw [← h3]; exact ho, h4⟩
  refine ⟨vs, k1, frok_of ⟨hR.ok.sz.trans hrel.n, hR.ok.df.trans (congrArg dfs hdf), fun i p hl hi => ?_⟩, fun i b' hb ho => ?_, fun i j bi bj g1 g2 g3 g4 hij => ?_, Only.refl _ _, fun _ => rfl⟩
  · simp only [meetSt] at hl
    rw [lookS_app] at hl
    split at hl
    · rename_i q hq
      simp only [Option.some.injEq] at hl
      subst hl
      exact mFr_ok hR hss hc (k3 _) i q hq
    · obtain ⟨m1, m2⟩ := lookS_k hl
      obtain ⟨k, v⟩ := p
      obtain ⟨v', n1, n2, n3, n4⟩ := kpOk_at h0.1 i m1 k v m2
      have := hrel.slot m1 m2 n1 n2 n3
      subst this
      rw [hR.ok.at_ i _ n1 (by rw [hrel.n]; exact hi)]
      congr 1
      exact (val_congr (g := clB st.bx) hcl _ n4).symm
  · have hB := mBx_ok hR hps hγ hss hc (k3 _) (bx := st.bx) (fun j b hb => ⟨b, hb, rfl, rfl⟩) (fun j b hb ho => by
      obtain ⟨_, h1⟩ := bxOk_at h0.2 j b hb ho
      rw [Nat.zero_add] at h1
      rcases h1 with h1 | ⟨c, h1, h2, h3⟩
      · exact .inr h1
      · cases hl : (mBs st ms).elem j with
        | true => exact .inr rfl
        | false =>
          left
          have e := hrel.cells hb h1 ho hl h2
          obtain ⟨c', e1, e2, e3⟩ := hps j b hb
          rw [h1] at e1
          injection e1 with e1
          subst e1
          have := (hR.bx j c h1 (e3.trans ho)).blk
          rw [hγ j b hb ho, ← e2, vals_congr (g := clB st.bx) hcl _ h3, ← e]
          exact this) i b' hb ho
    obtain ⟨b, g1, g2, g3⟩ := hshape i b' hb ho
    refine ⟨hB, fun k hk => ?_, fun hk => ?_⟩
    · rw [hγ i b g1 g2]
      rw [g3, hbl i b g1 g2] at hk
      simpa using hk
    · rw [g3, hbl i b g1 g2] at hk; cases hk
  · obtain ⟨b, e1, e2, _⟩ := hshape i bi g1 g3
    obtain ⟨c, f1, f2, _⟩ := hshape j bj g2 g4
    obtain ⟨b', p1, _, p3⟩ := hps i b e1
    obtain ⟨c', q1, _, q3⟩ := hps j c f1
    rw [hγ i b e1 e2, hγ j c f1 f2]
    exact hR.ne i j b' c' p1 q1 (p3.trans e2) (q3.trans f2) hij
end
end Go.Kt.V
