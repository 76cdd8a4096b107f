
/-
  Own work: a walk by reckoning, part 7: operations that turn the world: own variables made and written, writes through addresses, calls, raw operations. No program in sight.
-/
import Derived.Test.YtmanockofcopjaaGreatDoorV6
namespace Go.Kt.V
open Go Go.RowKit Go.Kt
set_option linter.unusedSimpArgs false
set_option linter.unusedVariables false

/-! ### no value speaks of own variable n -/
def noB (n : Nat) (s : SV) : Bool := cln (fun j => !Nat.beq j n) s
def noBs (n : Nat) (l : List SV) : Bool := clns (fun j => !Nat.beq j n) l
def noFr (n : Nat) : List (Nat × Nat × SV) → Bool
  | [] => true
  | p :: r => noB n p.2.2 && noFr n r
def noBx (n : Nat) : List Box → Bool
  | [] => true
  | b :: r => (!b.ok || noBs n b.cells) && noBx n r
theorem noFr_at {n : Nat} : ∀ {l : List (Nat × Nat × SV)}, noFr n l = true → ∀ i p, lookS l i = some p → noB n p.2 = true
  | [], _, i, p, h => by cases h
  | (k, q) :: r, h, i, p, hl => by
    simp only [noFr, Bool.and_eq_true] at h
    simp only [lookS] at hl
    cases hb : Nat.beq k i with
    | true => rw [hb] at hl; simp only [cond_true, Option.some.injEq] at hl; subst hl; exact h.1
    | false => rw [hb] at hl; exact noFr_at h.2 i p (by simpa using hl)
theorem noBx_at {n : Nat} : ∀ {l : List Box}, noBx n l = true → ∀ i b, nthB l i = some b → b.ok = true → noBs n b.cells = true
  | c :: r, h, 0, b, hb, ho => by
    simp only [noBx, Bool.and_eq_true, Bool.or_eq_true, Bool.not_eq_true'] at h
    simp only [nthB, Option.some.injEq] at hb
    subst hb
    rcases h.1 with h1 | h1
    · rw [ho] at h1; cases h1
    · exact h1
  | c :: r, h, i + 1, b, hb, ho => by
    simp only [noBx, Bool.and_eq_true] at h
    exact noBx_at h.2 i b hb ho
def upd (β : Nat → Nat) (n b : Nat) : Nat → Nat := fun i => if i = n then b else β i
theorem upd_no {β : Nat → Nat} {n b : Nat} : ∀ i, (!Nat.beq i n) = true → β i = upd β n b i := fun i h => by
  unfold upd
  rw [if_neg]
  rintro rfl
  simp at h
section
variable {β : Nat → Nat} {st : St} {a : Act} {w w1 : World}
/-- a new own variable -/
def St.newB (st : St) (d : Option Tmp) (t : TypeId) (zs : List SV) : St :=
  St.put { st with bx := st.bx ++ [⟨none, t, zs, st.ct, true, false, false⟩], mv := true, ct := st.ct + 1 } d (.box st.bx.length 0)
theorem Ext.newB (st : St) (d : Option Tmp) (t : TypeId) (zs : List SV) : Ext st (st.newB d t zs) := by
  refine Ext.trans (t := { st with bx := st.bx ++ [⟨none, t, zs, st.ct, true, false, false⟩], mv := true, ct := st.ct + 1 }) ⟨rfl, Nat.le_succ _, fun _ _ _ h _ => h, fun i b' hb ho hs => ?_, fun i b hb => ?_, dfr⟩ (Ext.put _ _ _)
  · dsimp only at hb
    rw [nthB_app] at hb
    split at hb
    · simp only [Option.some.injEq] at hb
      subst hb
      dsimp only at hs
      omega
    · exact ⟨b', hb, ho, rfl, rfl, rfl, fun _ h => h⟩
  · exact ⟨b, by dsimp only; rw [nthB_app, if_neg (by have := nthB_lt hb; omega)]; exact hb, rfl, rfl, fun _ h => h⟩
theorem Rep.newB (hR : Rep β st a w) {d : Option Tmp} {t : TypeId} {zs : List SV} {b : Nat} (h1 : noFr st.bx.length st.fr = true) (h2 : noBx st.bx.length st.bx = true) (h3 : noBs st.bx.length zs = true)
    (hb : w.heap.size ≤ b) (hO : Only [] w w1) (hB : Blk w1 b t (vals β zs)) (hdt : allOk st.bx st.dt = true) :
    Rep (upd β st.bx.length b) (st.newB d t zs) (a.put d (.pointer (some ⟨b, 0, none⟩))) w1 := by
  have hself : upd β st.bx.length b st.bx.length = b := by unfold upd; rw [if_pos rfl]
  have hlt : ∀ {i c}, nthB st.bx i = some c → upd β st.bx.length b i = β i := fun {i c} h => by
    unfold upd; rw [if_neg]; have := nthB_lt h; omega
  have base : Rep (upd β st.bx.length b) { st with bx := st.bx ++ [⟨none, t, zs, st.ct, true, false, false⟩], mv := true, ct := st.ct + 1 } a w1 := by
    refine ⟨frok_of ⟨hR.ok.sz, hR.ok.df, fun i p hl hi => ?_⟩, fun i c hc ho => ?_, fun i j bi bj g1 g2 g3 g4 hij => ?_, ?_, fun h => by cases h⟩
    · rw [hR.ok.at_ i p hl hi]
      congr 1
      exact val_congr (g := fun j => !Nat.beq j st.bx.length) upd_no _ (noFr_at h1 i p hl)
    · dsimp only at hc
      rw [nthB_app] at hc
      split at hc
      · rename_i he
        simp only [Option.some.injEq] at hc
        subst hc
        subst he
        refine ⟨?_, fun k hk => (by cases hk), fun _ => ?_⟩
        · rw [hself]
          dsimp only
          rw [← vals_congr (g := fun j => !Nat.beq j st.bx.length) (β := β) (β' := upd β st.bx.length b) upd_no _ h3]
          exact hB
        · rw [hself]
          exact Nat.le_trans hR.only.size hb
      · have e := hlt hc
        obtain ⟨k1, k2, k3⟩ := hR.bx i c hc ho
        refine ⟨?_, fun k hk => by rw [e]; exact k2 k hk, fun hk => by rw [e]; exact k3 hk⟩
        rw [e, ← vals_congr (g := fun j => !Nat.beq j st.bx.length) (β := β) (β' := upd β st.bx.length b) upd_no _ (noBx_at h2 i c hc ho)]
        exact hO.blk k1 (by simp)
    · dsimp only at g1 g2
      rw [nthB_app] at g1 g2
      split at g1
      · rename_i e1
        split at g2
        · omega
        · subst e1
          rw [hself, hlt g2]
          have := (hR.bx j bj g2 g4).blk.lt
          omega
      · split at g2
        · rename_i e2
          subst e2
          rw [hself, hlt g1]
          have := (hR.bx i bi g1 g3).blk.lt
          omega
        · rw [hlt g1, hlt g2]
          exact hR.ne i j bi bj g1 g2 g3 g4 hij
    · have e : st.dt.map (upd β st.bx.length b) = st.dt.map β := List.map_congr_left fun i hi => by
        obtain ⟨c, hc, _⟩ := allOk_mem hdt i hi
        exact hlt hc
      show Only (st.dt.map (upd β st.bx.length b)) st.w0 w1
      rw [e]
      exact hR.only.tr0 hO
  have := base.put d (.box st.bx.length 0)
  rw [show val (upd β st.bx.length b) (.box st.bx.length 0) = .pointer (some ⟨b, 0, none⟩) by
    show Value.pointer (some ⟨upd β st.bx.length b st.bx.length, 0, none⟩) = _
    rw [hself]] at this
  exact this
/-- an own variable is written -/
def St.setBx (st : St) (i : Nat) (b : Box) (cs : List SV) : St :=
  { st with bx := setB st.bx i { b with cells := cs, stp := st.ct, sh := false }, mv := true, dt := (bif b.blk.isSome && !st.dt.elem i then i :: st.dt else st.dt), ct := st.ct + 1 }
theorem Ext.setBx {st : St} {i : Nat} {b : Box} {cs : List SV} (h : nthB st.bx i = some b) : Ext st (st.setBx i b cs) := by
  refine ⟨rfl, Nat.le_succ _, fun _ _ _ h _ => h, fun j b' hb ho hs => ?_, fun j c hc => ?_, dfr⟩
  · simp only [St.setBx] at hb
    rw [nthB_set h] at hb
    split at hb
    · simp only [Option.some.injEq] at hb
      subst hb
      dsimp only at hs
      omega
    · exact ⟨b', hb, ho, rfl, rfl, rfl, fun _ h => h⟩
  · simp only [St.setBx]
    rw [nthB_set h]
    split
    · rename_i e
      subst e
      rw [h] at hc
      simp only [Option.some.injEq] at hc
      subst hc
      exact ⟨_, rfl, rfl, rfl, fun _ h => h⟩
    · exact ⟨c, hc, rfl, rfl, fun _ h => h⟩
theorem Rep.setBx (hR : Rep β st a w) {i : Nat} {b : Box} {cs : List SV} (h : nthB st.bx i = some b) (ho : b.ok = true) (hO : Only [β i] w w1) (hB : Blk w1 (β i) b.ty (vals β cs)) : Rep β (st.setBx i b cs) a w1 := by
  have hk := hR.bx i b h ho
  refine ⟨hR.fr, fun j c hc hok => ?_, fun j l bj bl g1 g2 g3 g4 hij => ?_, ?_, fun h => by cases h⟩
  · simp only [St.setBx] at hc
    rw [nthB_set h] at hc
    split at hc
    · rename_i e
      subst e
      simp only [Option.some.injEq] at hc
      subst hc
      exact ⟨hB, hk.at_, hk.new⟩
    · rename_i hne
      obtain ⟨k1, k2, k3⟩ := hR.bx j c hc hok
      exact ⟨hO.blk k1 (by simpa using hR.ne j i c b hc h hok ho hne), k2, k3⟩
  · simp only [St.setBx] at g1 g2
    rw [nthB_set h] at g1 g2
    have key : ∀ {j c}, (if j = i then some { b with cells := cs, stp := st.ct, sh := false } else nthB st.bx j) = some c → c.ok = true → ∃ c', nthB st.bx j = some c' ∧ c'.ok = true := fun {j c} g hc => by
      split at g
      · rename_i e; subst e; exact ⟨b, h, ho⟩
      · exact ⟨c, g, hc⟩
    obtain ⟨c1, e1, e2⟩ := key g1 g3
    obtain ⟨c2, f1, f2⟩ := key g2 g4
    exact hR.ne j l c1 c2 e1 f1 e2 f2 hij
  · show Only ((bif b.blk.isSome && !st.dt.elem i then i :: st.dt else st.dt).map β) st.w0 w1
    cases hb : (b.blk.isSome && !st.dt.elem i) with
    | true => exact hR.only.cons hO
    | false =>
      simp only [Bool.and_eq_false_iff, Bool.not_eq_false'] at hb
      rcases hb with hb | hb
      · refine hR.only.new hO (hk.new ?_)
        cases hn : b.blk with
        | none => rfl
        | some k => rw [hn] at hb; cases hb
      · refine hR.only.mem hO (List.mem_map.2 ⟨i, ?_, rfl⟩)
        simpa using hb
/-- told flags alone -/
structure Flg (l l' : List Box) : Prop where
  fw : ∀ i b, nthB l' i = some b → ∃ c, nthB l i = some c ∧ c.blk = b.blk ∧ c.ty = b.ty ∧ c.cells = b.cells ∧ c.stp = b.stp ∧ c.ok = b.ok
  bw : ∀ i b, nthB l i = some b → ∃ c, nthB l' i = some c ∧ c.ty = b.ty ∧ c.ok = b.ok ∧ ∀ k, b.blk = some k → c.blk = some k
theorem Flg.refl (l : List Box) : Flg l l := ⟨fun i b h => ⟨b, h, rfl, rfl, rfl, rfl, rfl⟩, psr⟩
theorem Flg.trans {l m n : List Box} (h : Flg l m) (k : Flg m n) : Flg l n := ⟨fun i b hb => by
  obtain ⟨c, c1, c2, c3, c4, c5, c6⟩ := k.fw i b hb
  obtain ⟨d, d1, d2, d3, d4, d5, d6⟩ := h.fw i c c1
  exact ⟨d, d1, d2.trans c2, d3.trans c3, d4.trans c4, d5.trans c5, d6.trans c6⟩, fun i b hb => by
  obtain ⟨c, c1, c2, c3, c4⟩ := h.bw i b hb
  obtain ⟨d, d1, d2, d3, d4⟩ := k.bw i c c1
  exact ⟨d, d1, d2.trans c2, d3.trans c3, fun m hm => d4 m (c4 m hm)⟩⟩
theorem Ext.flg {l' : List Box} (h : Flg st.bx l') : Ext st { st with bx := l' } := ⟨rfl, Nat.le_refl _, fun _ _ _ h _ => h, fun i b' hb ho _ => by
  obtain ⟨c, c1, c2, c3, c4, c5, c6⟩ := h.fw i b' hb
  exact ⟨c, c1, c6.trans ho, c4, c3, c5, fun k hk => by rw [← c2]; exact hk⟩, h.bw, dfr⟩
theorem Rep.flg {l' : List Box} (hR : Rep β st a w) (h : Flg st.bx l') : Rep β { st with bx := l' } a w := by
  refine ⟨hR.fr, fun i b hb ho => ?_, fun i j bi bj g1 g2 g3 g4 hij => ?_, hR.only, hR.still⟩
  · obtain ⟨c, c1, c2, c3, c4, c5, c6⟩ := h.fw i b hb
    obtain ⟨k1, k2, k3⟩ := hR.bx i c c1 (c6.trans ho)
    exact ⟨by rw [← c3, ← c4]; exact k1, fun k hk => k2 k (c2.trans hk), fun hk => k3 (c2.trans hk)⟩
  · obtain ⟨c, c1, _, _, _, _, c6⟩ := h.fw i bi g1
    obtain ⟨d, d1, _, _, _, _, d6⟩ := h.fw j bj g2
    exact hR.ne i j c d c1 d1 (c6.trans g3) (d6.trans g4) hij
def bxs : SV → List Nat
  | .box i _ => [i]
  | .fn _ fs cs => bxs fs ++ bxs cs
  | .agg l => bxs l
  | .tup l => bxs l
  | .c h t => bxs h ++ bxs t
  | _ => []
def escG : Nat → List Nat → List Box → List Box
  | 0, _, bx => bx
  | _ + 1, [], bx => bx
  | f + 1, i :: r, bx => match nthB bx i with
    | some b => bif b.esc then escG f r bx else escG f (flat bxs b.cells ++ r) (setB bx i { b with esc := true, sh := false })
    | none => escG f r bx
theorem escG_flg : ∀ (f : Nat) (l : List Nat) (bx : List Box), Flg bx (escG f l bx)
  | 0, _, bx => Flg.refl _
  | _ + 1, [], bx => Flg.refl _
  | f + 1, i :: r, bx => by
    unfold escG
    split
    · rename_i b hb
      cases he : b.esc with
      | true => exact escG_flg f r bx
      | false =>
        refine Flg.trans ⟨fun j c hc => ?_, fun j c hc => ?_⟩ (escG_flg f _ _)
        rotate_left
        · rw [nthB_set hb]
          split
          · rename_i e
            subst e
            rw [hb] at hc
            simp only [Option.some.injEq] at hc
            subst hc
            exact ⟨_, rfl, rfl, rfl, fun _ h => h⟩
          · exact ⟨c, hc, rfl, rfl, fun _ h => h⟩
        rw [nthB_set hb] at hc
        split at hc
        · rename_i e
          subst e
          simp only [Option.some.injEq] at hc
          subst hc
          exact ⟨b, hb, rfl, rfl, rfl, rfl, rfl⟩
        · exact ⟨c, hc, rfl, rfl, rfl, rfl, rfl⟩
    · exact escG_flg f r bx
def St.esc (st : St) (l : List SV) : St := { st with bx := escG 1000 (flat bxs l) st.bx }
theorem Ext.esc (st : St) (l : List SV) : Ext st (st.esc l) := Ext.flg (escG_flg _ _ _)
theorem Rep.esc (hR : Rep β st a w) (l : List SV) : Rep β (st.esc l) a w := hR.flg (escG_flg _ _ _)
end
end Go.Kt.V
