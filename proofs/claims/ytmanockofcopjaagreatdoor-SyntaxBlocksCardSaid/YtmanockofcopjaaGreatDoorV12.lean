
/-
  Own work: a walk by reckoning, part 12: rows of operations whose order is drawn ('drP'). No program in sight.
-/
import Derived.Test.YtmanockofcopjaaGreatDoorV11
namespace Go.Kt.V
open Go Go.RowKit Go.Kt
set_option linter.unusedSimpArgs false
set_option linter.unusedVariables false

/-- the blocks of S are as they were -/
def Keeps (S : Nat → Prop) (w w' : World) : Prop := ∀ k, S k → k < w.heap.size → w'.heap[k]? = w.heap[k]?
theorem Keeps.refl (S : Nat → Prop) (w : World) : Keeps S w w := fun _ _ _ => rfl
theorem Keeps.only {S : Nat → Prop} {w w' : World} (h : Only [] w w') : Keeps S w w' := fun k _ hk => h.block k hk (by simp)
/-- a block that is none of S -/
def Out (S : Nat → Prop) (k : Nat) : Prop := ¬ S k
def EE (P : Program) (ops : List Oper) (mb ms : Bool) (S : Nat → Prop) (j : Nat) (w w' : World) : Prop := match nthO ops j with
  | some o => bif isPure P o.op then w'.heap = w.heap else bif mb && (ms || !isSt o.op) then Keeps S w w' else True
  | none => False
def XB (mb ms : Bool) (S : Nat → Prop) (o : Op) : XT := fun w0 w1 p => bif mb && (ms || !isSt o) then Keeps S w0 w1 ∧ p else p
def YB (mb ms : Bool) (S : Nat → Prop) : YT := fun bk p => bif mb && ms then (match bk with
  | some k => Out S k ∧ p
  | none => False) else p
/-- the loud ones -/
def loudIx (P : Program) : Nat → List Oper → List Nat
  | _, [] => []
  | i, o :: r => bif isPure P o.op then loudIx P (i + 1) r else i :: loudIx P (i + 1) r
def waits (q : Nat) (seen : List Nat) : List Edge → Bool
  | [] => false
  | e :: r => (Region.binds .any e && (Nat.beq e.on q || seen.elem e.on)) || waits q seen r
/-- those that wait for q -/
def descs (q : Nat) : Nat → List Nat → List Oper → List Nat
  | _, seen, [] => seen
  | i, seen, o :: r => bif waits q seen o.after.toList then descs q (i + 1) (i :: seen) r else descs q (i + 1) seen r
def lsd (listed : Array Bool) : Nat → List Oper → List Nat
  | _, [] => []
  | i, _ :: r => bif listed.getD i true then i :: lsd listed (i + 1) r else lsd listed (i + 1) r
def outs (D N : List Nat) : List Nat → List Nat
  | [] => []
  | j :: r => bif D.elem j || N.elem j then outs D N r else j :: outs D N r
def noSts (ops : List Oper) : List Nat → Bool
  | [] => true
  | j :: r => (match nthO ops j with
    | some o => !isSt o.op
    | none => false) && noSts ops r
def Dq (ops : List Oper) (q : Nat) : List Nat := (descs q 0 [] ops).reverse
def bads (P : Program) (ops : List Oper) (listed : Array Bool) (q : Nat) : List Nat := outs (Dq ops q) (lsd listed 0 ops) (loudIx P 0 ops)
def isNl {α : Type} : List α → Bool
  | [] => true
  | _ => false
def okT (ops : List Oper) (listed : Array Bool) (q : Nat) : Bool :=
  Region.noSelect ops.toArray && Region.free .any ops.toArray listed q && closedB .any ops.toArray listed && descOk .any ops.toArray q [] (Dq ops q) && (lsd listed 0 ops).all (fun k => listed.getD k true)
def gdP (st : St) (ops : List Oper) (o : Oper) (yes no : St → Prop) : Prop := match o.guard with
  | none => yes st
  | some (j, want) => (match tst st ops j with
    | some (_, .un) => no st
    | some (_, .bl b) => bif b == want then yes st else no st
    | some (d, .bt t) => ((t = true → bif true == want then yes (st.put (some d) (.bl true)) else no (st.put (some d) (.bl true))) ∧
      (t = false → bif false == want then yes (st.put (some d) (.bl false)) else no (st.put (some d) (.bl false))))
    | _ => False)
/-- a load while others may be at work -/
def ldB (P : Program) (S : Nat → Prop) (st : St) (t : TypeId) (a : SV) (K : SV → Prop) : Prop := match P.underlying t with
  | none => False
  | some d => (match a with
    | .box i o => elimO (nthB st.bx i) fun b => bif b.ok && b.blk.isSome && sz P t ((b.cells.drop o).take (szO P t)).length && (isAg d || Nat.beq ((b.cells.drop o).take (szO P t)).length 1) then S (b.blk.getD 0) ∧ K (ofC (isAg d) ((b.cells.drop o).take (szO P t))) else False
    | .ad p => bif !st.mv && sz P t (shC P 12 t).length && (isAg d || Nat.beq (shC P 12 t).length 1) then S p.block ∧ exl (shC P 12 t) fun vs => Cells st.w0 p (vals β0 vs) ∧ K (ofC (isAg d) vs) else False
    | _ => False)
/-- bytes read as a text while others may be at work -/
def cvB (P : Program) (S : Nat → Prop) (st : St) (s d : TypeId) (a : SV) (K : SV → Prop) : Prop := match P.underlying s, P.underlying d with
  | some (.slice e), some .string => (match P.underlying e with
    | some (.int .u8) => elimO (osl a) fun u => bif st.mv then False else ∃ l : List UInt8, (∀ ad, u.a = some ad → S ad.block) ∧ Bytes st.w0 u l ∧ K (.str ⟨l.toArray⟩)
    | _ => False)
  | _, _ => False
/-- does an operation read memory? -/
def isLd (P : Program) : Op → Bool
  | .load _ _ => true
  | .convert s d _ => (match P.underlying s, P.underlying d with
    | some (.slice _), some .string => true
    | _, _ => false)
  | _ => false
/-- a conversion of numbers or of texts: it reads no memory -/
def cvI (P : Program) : Op → Bool
  | .convert s d _ => (match P.underlying s, P.underlying d with
    | some (.int _), some (.int _) => true
    | some .string, some .string => true
    | _, _ => false)
  | _ => false
def cvZ (P : Program) (s d : TypeId) (a : SV) (K : SV → Prop) : Prop := match P.underlying s, P.underlying d with
  | some (.int _), some (.int kd) => elimO (oint a) fun p => K (.int kd (kd.wrap p.2))
  | some .string, some .string => elimO (ostr a) fun u => K (.str u)
  | _, _ => False
def qP (P : Program) (ops : List Oper) (mb ms : Bool) (S : Nat → Prop) (listed : Array Bool) (q : Nat) (o : Oper) (st : St) (K : St → Prop) : Prop :=
  bif isPure P o.op then
    bif cvI P o.op then (match o.op with
      | .convert s d x => elimO (st.ev x) fun a => cvZ P s d a fun v => K (st.put o.dst v)
      | _ => False)
    else bif !mem o.op || isNl (bads P ops listed q) then exI (nd P st o.op) st fun st => pur P [] st o.op fun v => K (st.put o.dst v)
    else bif mb && (ms || noSts ops (bads P ops listed q)) then (match o.op with
      | .load t x => exI (nd P st o.op) st fun st => elimO (st.ev x) fun a => ldB P S st t a fun v => K (st.put o.dst v)
      | .convert s d x => exI (nd P st o.op) st fun st => elimO (st.ev x) fun a => cvB P S st s d a fun v => K (st.put o.dst v)
      | _ => False) else False
  else False
def fq (P : Program) (ops : List Oper) : List Nat → Option Nat
  | [] => none
  | i :: r => match nthO ops i with
    | some o => bif isPure P o.op then some i else fq P ops r
    | none => none
def drP (P : Program) (ops : List Oper) (mb ms : Bool) (S : Nat → Prop) : Nat → Array Bool → St → (St → Prop) → Prop
  | 0, listed, st, K => (match Region.ready .any ops.toArray listed with
    | [] => K st
    | _ => False)
  | g + 1, listed, st, K => (match Region.ready .any ops.toArray listed with
    | [] => K st
    | i :: r => (match fq P ops (i :: r) with
      | some q => elimO (nthO ops q) fun o => bif okT ops listed q && (i :: r).contains q then
          gdP st ops o (fun st => qP P ops mb ms S listed q o st fun st => drP P ops mb ms S g (listed.setIfInBounds q true) st K) (fun st => drP P ops mb ms S g (listed.setIfInBounds q true) (st.put o.dst .un) K) else False
      | none => (match r with
        | [] => elimO (nthO ops i) fun o => bif isPure P o.op then False else
            gdP st ops o (fun st => loud P (XB mb ms S o.op) (YB mb ms S) st o fun st => drP P ops mb ms S g (listed.setIfInBounds i true) st K) (fun st => drP P ops mb ms S g (listed.setIfInBounds i true) (st.put o.dst .un) K)
        | [j] => elimO (nthO ops i) fun o => elimO (nthO ops j) fun o' => bif isPure P o.op || isPure P o'.op then False else
            gdP st ops o (fun st => loud P (XB mb ms S o.op) (YB mb ms S) st o fun st => drP P ops mb ms S g (listed.setIfInBounds i true) st K) (fun st => drP P ops mb ms S g (listed.setIfInBounds i true) (st.put o.dst .un) K) ∧
            gdP st ops o' (fun st => loud P (XB mb ms S o'.op) (YB mb ms S) st o' fun st => drP P ops mb ms S g (listed.setIfInBounds j true) st K) (fun st => drP P ops mb ms S g (listed.setIfInBounds j true) (st.put o'.dst .un) K)
        | _ => False)))
/-- is a load at work while other things may happen? -/
def mbN (P : Program) (ops : List Oper) : Nat → List Oper → Bool
  | _, [] => false
  | i, o :: r => (bif isLd P o.op then (loudIx P 0 ops).any fun j => !(Dq ops i).elem j && !(Dq ops j).elem i
    else false) || mbN P ops (i + 1) r

/-- is a load at work while a store may happen? -/
def msN (P : Program) (ops : List Oper) : Nat → List Oper → Bool
  | _, [] => false
  | i, o :: r => (bif isLd P o.op then (loudIx P 0 ops).any fun j => !(Dq ops i).elem j && !(Dq ops j).elem i && (match nthO ops j with
      | some o' => isSt o'.op
      | none => false)
    else false) || msN P ops (i + 1) r

section
variable {P : Program} {ops : List Oper} {mb ms : Bool} {S : Nat → Prop} {β : Nat → Nat} {a : Act} {w : World}
theorem gdP_ok {st : St} {o : Oper} {yes no : St → Prop} (h : gdP st ops o yes no) (hR : Rep β st a w) :
    ∃ s, Ext st s ∧ Rep β s a w ∧ ((Region.wanted o (yielded ops.toArray a.tmps) = true ∧ yes s) ∨ (Region.wanted o (yielded ops.toArray a.tmps) = false ∧ no s)) := by
  unfold gdP at h
  split at h
  · rename_i hg
    exact ⟨st, Ext.refl _, hR, .inl ⟨wn hg, h⟩⟩
  · rename_i j want hg
    split at h
    · rename_i d ht
      exact ⟨st, Ext.refl _, hR, .inr ⟨wanted_un hR hg ht, h⟩⟩
    · rename_i d b ht
      have hw := wanted_bl hR hg ht (b := b) rfl
      rcases bif2 h with ⟨e, h⟩ | ⟨e, h⟩
      · exact ⟨st, Ext.refl _, hR, .inl ⟨hw.trans e, h⟩⟩
      · exact ⟨st, Ext.refl _, hR, .inr ⟨hw.trans e, h⟩⟩
    · rename_i d t ht
      obtain ⟨oj, hj1, hj2, hj3⟩ := tst_ok ht
      have hw := wanted_bl hR hg ht (b := t) rfl
      cases t with
      | true =>
        refine ⟨_, Ext.put _ (some d) (.bl true), hR.set hj3 rfl, ?_⟩
        rcases bif2 (h.1 rfl) with ⟨e, h⟩ | ⟨e, h⟩
        · exact .inl ⟨hw.trans e, h⟩
        · exact .inr ⟨hw.trans e, h⟩
      | false =>
        refine ⟨_, Ext.put _ (some d) (.bl false), hR.set hj3 rfl, ?_⟩
        rcases bif2 (h.2 rfl) with ⟨e, h⟩ | ⟨e, h⟩
        · exact .inl ⟨hw.trans e, h⟩
        · exact .inr ⟨hw.trans e, h⟩
    · exact h.elim
theorem ld_run {st : St} {d : TypeDesc} {t : TypeId} {x : Operand} {l : List SV} {ad : Addr} {w' : World} (hu : P.underlying t = some d) (hsz : sz P t l.length = true) (hone : isAg d = true ∨ Nat.beq l.length 1 = true)
    (hev : a.eval x = .pointer (some ad)) (hC : Cells w' ad (vals β l)) (dst : Option Tmp) (t' : TypeId) (p : String) (af : Array Edge) (g : Option (Nat × Bool)) :
    (execOp a.eval ⟨dst, .load t x, t', p, af, g⟩).run P w' = .ok (.value (val β (ofC (isAg d) l))) w' := by
  rcases hone with hag | hone
  · rw [ofC_agg hag]
    have := agg_run (P := P) hu w'
    rw [hag] at this
    exact r_loadN this (sz_run hsz w') (vals_len β l) hev hC
  · cases hag : isAg d with
    | true =>
      have e := ofC_agg hag β l
      rw [hag] at e
      rw [e]
      have := agg_run (P := P) hu w'
      rw [hag] at this
      exact r_loadN this (sz_run hsz w') (vals_len β l) hev hC
    | false =>
      obtain ⟨s, rfl⟩ := one_of hone
      have := agg_run (P := P) hu w'
      rw [hag] at this
      exact r_load1 this hev (Cells.one hC)
theorem loudIx_mem : ∀ {l : List Oper} {i j : Nat} {o : Oper}, nthO l j = some o → isPure P o.op = false → i + j ∈ loudIx P i l
  | [], _, _, _, h, _ => by cases h
  | c :: r, i, 0, o, h, hp => by
    simp only [nthO, Option.some.injEq] at h
    subst h
    simp [loudIx, hp]
  | c :: r, i, j + 1, o, h, hp => by
    have := loudIx_mem (l := r) (i := i + 1) (j := j) h hp
    rw [show i + 1 + j = i + (j + 1) by omega] at this
    simp only [loudIx]
    cases isPure P c.op with
    | true => exact this
    | false => exact List.mem_cons_of_mem _ this
theorem outs_mem {D N : List Nat} : ∀ {l : List Nat} {j : Nat}, j ∈ l → j ∉ D → j ∉ N → j ∈ outs D N l
  | c :: r, j, h, h1, h2 => by
    simp only [outs]
    rcases List.mem_cons.1 h with rfl | h
    · have e1 : D.elem j = false := by simpa using h1
      have e2 : N.elem j = false := by simpa using h2
      rw [e1, e2]; simp
    · cases (D.elem c || N.elem c) with
      | true => exact outs_mem h h1 h2
      | false => exact List.mem_cons_of_mem _ (outs_mem h h1 h2)
theorem noSts_at : ∀ {l : List Nat} {j : Nat} {o : Oper}, noSts ops l = true → j ∈ l → nthO ops j = some o → isSt o.op = false
  | [], j, o, _, hj, _ => by cases hj
  | c :: r, j, o, h, hj, ho => by
    simp only [noSts, Bool.and_eq_true] at h
    rcases List.mem_cons.1 hj with hc | hj
    · have h1 := h.1
      rw [← hc, ho] at h1
      cases he : isSt o.op with
      | false => rfl
      | true => dsimp only at h1; rw [he] at h1; cases h1
    · exact noSts_at h.2 hj ho
/-- what a quiet operation yields stays so -/
def Sta (P : Program) (ops : List Oper) (mb ms : Bool) (S : Nat → Prop) (D N : List Nat) (F : World → Prop) : Prop := ∀ j w w', j ∉ D → j ∉ N → F w → EE P ops mb ms S j w w' → F w'
theorem qP_ok {listed : Array Bool} {q : Nat} {o : Oper} {st : St} {K : St → Prop} (h : qP P ops mb ms S listed q o st K) (hR : Rep β st a w) :
    ∃ (v : Value) (s' : St) (F : World → Prop), K s' ∧ Ext st s' ∧ Rep β s' (a.put o.dst v) w ∧ F w ∧ Sta P ops mb ms S (Dq ops q) (lsd listed 0 ops) F ∧ isPure P o.op = true ∧ ∀ w', F w' → (execOp a.eval o).run P w' = .ok (.value v) w' := by
  unfold qP at h
  rcases bif2 h with ⟨hp, h⟩ | ⟨_, h⟩
  case inr => exact h.elim
  rcases bif2 h with ⟨_, h⟩ | ⟨_, h⟩
  · obtain ⟨dst, op, t', p, af, g⟩ := o
    cases op with
    | convert s d x =>
      dsimp only at h
      obtain ⟨ax, hx, h1⟩ := elimO_ex h
      unfold cvZ at h1
      split at h1
      · rename_i ks kd h2 h3
        obtain ⟨⟨k, n⟩, hp1, h1⟩ := elimO_ex h1
        exact ⟨_, _, fun _ => True, h1, Ext.put _ _ _, hR.put _ _, trivial, fun _ _ _ _ _ _ _ => trivial, hp, fun w' _ => r_convInt (run_underlying h2 w') (run_underlying h3 w') ((hR.ev hx).trans (oint_val hp1 β))⟩
      · rename_i h2 h3
        obtain ⟨u, hp1, h1⟩ := elimO_ex h1
        exact ⟨_, _, fun _ => True, h1, Ext.put _ _ _, hR.put _ _, trivial, fun _ _ _ _ _ _ _ => trivial, hp, fun w' _ => r_convStr (run_underlying h2 w') (run_underlying h3 w') ((hR.ev hx).trans (ostr_val hp1 β))⟩
      · exact h1.elim
    | _ => exact h.elim
  rcases bif2 h with ⟨hb, h⟩ | ⟨hb, h⟩
  · obtain ⟨s1, h1, e1, hR1, _⟩ := exI_ok h hR
    obtain ⟨v, hv, hy⟩ := pur_ok h1
    have hy := hy trivial β a w hR1
    obtain ⟨dst, op, t', p, af, g⟩ := o
    cases hm : mem op with
    | false =>
      exact ⟨val β v, _, fun _ => True, hv, e1.trans (Ext.put _ _ _), hR1.put _ v, trivial, fun _ _ _ _ _ _ _ => trivial, hp, fun w' _ => hy _ _ _ _ _ w' fun e => by rw [hm] at e; cases e⟩
    | true =>
      have hn : isNl (bads P ops listed q) = true := by simpa [hm] using hb
      refine ⟨val β v, _, fun w' => w'.heap = w.heap, hv, e1.trans (Ext.put _ _ _), hR1.put _ v, rfl, fun j w1 w2 hD hN hF hE => ?_, hp, fun w' hF => hy _ _ _ _ _ w' fun _ => hF⟩
      unfold EE at hE
      split at hE
      · rename_i oj hj
        rcases bif2 hE with ⟨_, e⟩ | ⟨e, _⟩
        · exact e.trans hF
        · have := outs_mem (by have := loudIx_mem (i := 0) hj e; rwa [Nat.zero_add] at this) hD hN
          unfold bads at hn
          revert hn this
          generalize outs (Dq ops q) (lsd listed 0 ops) (loudIx P 0 ops) = m
          intro hn this
          cases m with
          | nil => cases this
          | cons => cases hn
      · exact hE.elim
  · obtain ⟨h0, h⟩ := bif_ok h
    simp only [Bool.and_eq_true] at h0
    obtain ⟨dst, op, t', p, af, g⟩ := o
    have hst : ∀ F : World → Prop, ∀ k : Nat, S k → (∀ w1 w2 : World, F w1 → w2.heap[k]? = w1.heap[k]? → F w2) → (∀ w1, F w1 → k < w1.heap.size) → Sta P ops mb ms S (Dq ops q) (lsd listed 0 ops) F := by
      intro F k hk hF1 hF2 j w1 w2 hD hN hF hE
      unfold EE at hE
      split at hE
      · rename_i oj hj
        rcases bif2 hE with ⟨_, e⟩ | ⟨e, hE⟩
        · exact hF1 w1 w2 hF (by rw [e])
        · have := outs_mem (by have := loudIx_mem (i := 0) hj e; rwa [Nat.zero_add] at this) hD hN
          have hs : (ms || !isSt oj.op) = true := by
            rcases Bool.or_eq_true _ _ ▸ h0.2 with h2 | h2
            · rw [h2]; rfl
            · rw [noSts_at h2 this hj, Bool.not_false, Bool.or_true]
          rw [h0.1, hs] at hE
          exact hF1 w1 w2 hF (hE k hk (hF2 _ hF))
      · exact hE.elim
    cases op with
    | load t x =>
      dsimp only at h
      obtain ⟨s1, h1, e1, hR1, _⟩ := exI_ok h hR
      obtain ⟨ax, hx, h1⟩ := elimO_ex h1
      unfold ldB at h1
      split at h1
      · exact h1.elim
      · rename_i d hu
        split at h1
        · rename_i i off
          obtain ⟨b, hb1, h1⟩ := elimO_ex h1
          obtain ⟨hc, hS, hK⟩ := bif_ok h1
          simp only [Bool.and_eq_true, Bool.or_eq_true] at hc
          obtain ⟨⟨⟨hok, hbk⟩, hsz⟩, hone⟩ := hc
          have hBO := hR1.bx i b hb1 hok
          have hB := hBO.blk
          have hbe : b.blk.getD 0 = β i := by
            cases hk : b.blk with
            | none => rw [hk] at hbk; cases hbk
            | some k => rw [hBO.at_ k hk]; rfl
          rw [hbe] at hS
          have hev := hR1.ev hx
          refine ⟨_, _, fun w' => Blk w' (β i) b.ty (vals β b.cells), hK, e1.trans (Ext.put _ _ _), hR1.put _ _, hB, hst _ (β i) hS (fun w1 w2 hF e => by unfold Blk at hF ⊢; rw [e]; exact hF) (fun w1 hF => hF.lt), hp, fun w' hF => ?_⟩
          generalize hl : (b.cells.drop off).take (szO P t) = l at *
          have hC : Cells w' ⟨β i, off, none⟩ (vals β l) := hF.cellsAt off _ (by
            rw [vals_len, ← hl]
            simp only [vals, List.map_take, List.map_drop]
            rw [List.length_take, List.take_eq_take_iff]
            simp only [List.length_drop, List.length_map]
            omega)
          exact ld_run (st := st) hu hsz hone hev hC _ _ _ _ _
        · rename_i ad
          obtain ⟨hc, hS, h2⟩ := bif_ok h1
          simp only [Bool.and_eq_true, Bool.or_eq_true, Bool.not_eq_true'] at hc
          obtain ⟨⟨hmv, hsz⟩, hone⟩ := hc
          obtain ⟨vs, ⟨hF, hK⟩, hlen, hcl⟩ := exl_ex h2
          have hw := hR1.still hmv
          rw [← hw] at hF
          have hv : ∀ w', Cells w' ad (vals β0 vs) → Cells w' ad (vals β vs) := fun w' h => by
            rw [vals_congr (β := β) (β' := β0) (g := fun _ => false) (fun i h => (by cases h)) vs (hcl _)]
            exact h
          rw [← hlen] at hsz hone
          by_cases hnil : vals β0 vs = []
          · refine ⟨_, _, fun _ => True, hK, e1.trans (Ext.put _ _ _), hR1.put _ _, trivial, fun _ _ _ _ _ _ _ => trivial, hp, fun w' _ => ?_⟩
            exact ld_run (st := st) hu hsz hone (hR1.ev hx) (hv w' (by rw [hnil]; intro j v hj; simp at hj)) _ _ _ _ _
          · refine ⟨_, _, fun w' => Cells w' ad (vals β0 vs), hK, e1.trans (Ext.put _ _ _), hR1.put _ _, hF, hst _ ad.block hS (fun w1 w2 hF e => hF.keep e) (fun w1 hF => hF.lt' hnil), hp, fun w' hF => ?_⟩
            exact ld_run (st := st) hu hsz hone (hR1.ev hx) (hv w' hF) _ _ _ _ _
        · exact h1.elim
    | convert s d x =>
      dsimp only at h
      obtain ⟨s1, h1, e1, hR1, _⟩ := exI_ok h hR
      obtain ⟨ax, hx, h1⟩ := elimO_ex h1
      unfold cvB at h1
      split at h1
      · rename_i e hu1 hu2
        split at h1
        · rename_i hu3
          obtain ⟨u, hp1, h1⟩ := elimO_ex h1
          cases hm : s1.mv with
          | true => rw [hm] at h1; exact h1.elim
          | false =>
            rw [hm] at h1
            obtain ⟨l, hS, hF, hK⟩ := h1
            have hw := hR1.still hm
            rw [← hw] at hF
            refine ⟨_, _, fun w' => Bytes w' u l, hK, e1.trans (Ext.put _ _ _), hR1.put _ _, hF, ?_, hp, fun w' hF' => r_bytesStr hu1 hu3 hu2 ((hR1.ev hx).trans (osl_val hp1 β)) hF'⟩
            by_cases hl : l = []
            · subst hl
              exact fun j w1 w2 _ _ hF1 _ => ⟨hF1.1, fun hh => absurd rfl hh⟩
            · obtain ⟨ad, ha, _⟩ := hF.2 hl
              refine hst _ ad.block (hS ad ha) (fun w1 w2 hF1 e => ⟨hF1.1, fun hh => ?_⟩) (fun w1 hF1 => ?_)
              · obtain ⟨ad', ha', hC⟩ := hF1.2 hh
                rw [ha] at ha'
                injection ha' with ha'
                subst ha'
                exact ⟨ad, ha, hC.keep e⟩
              · obtain ⟨ad', ha', hC⟩ := hF1.2 hl
                rw [ha] at ha'
                injection ha' with ha'
                subst ha'
                exact hC.lt' (by cases l with
                  | nil => exact absurd rfl hl
                  | cons c l => simp)
        · exact h1.elim
      · exact h1.elim
    | _ => exact h.elim
theorem EE_refl {j : Nat} {o : Oper} (hj : nthO ops j = some o) (w : World) : EE P ops mb ms S j w w := by
  unfold EE
  rw [hj]
  dsimp only
  cases isPure P o.op with
  | true => rfl
  | false =>
    cases (mb && (ms || !isSt o.op)) with
    | true => exact Keeps.refl _ _
    | false => exact trivial
theorem loudD_ok {Q : Exit → Act → World → Prop} {j : Nat} {o : Oper} {st : St} {K : St → Prop} (hj : nthO ops j = some o) (hp : isPure P o.op = false) (h : loud P (XB mb ms S o.op) (YB mb ms S) st o K) (hR : Rep β st a w) : o.wp P a w (Aft (EE P ops mb ms S j) st K w) Q := by
  have hEE : EE P ops mb ms S j = fun w w' => bif mb && (ms || !isSt o.op) then Keeps S w w' else True := by
    funext w w'
    unfold EE
    rw [hj]
    dsimp only
    rw [hp]; rfl
  refine loud_ok (fun w0 w1 p hx => ?_) (fun w w1 hO => ?_) (fun hs bk k w w1 p hy hk hO => ?_) h hR
  · rw [hEE]
    unfold XB at hx
    dsimp only
    cases hb : (mb && (ms || !isSt o.op)) with
    | true => rw [hb] at hx; exact ⟨hx.2, hx.1⟩
    | false => rw [hb] at hx; exact ⟨hx, trivial⟩
  · rw [hEE]
    dsimp only
    cases (mb && (ms || !isSt o.op)) with
    | true => exact Keeps.only hO
    | false => exact trivial
  · rw [hEE]
    dsimp only
    rw [hs, Bool.not_true, Bool.or_false]
    unfold YB at hy
    cases hb : (mb && ms) with
    | true =>
      rw [hb] at hy
      cases bk with
      | none => exact hy.elim
      | some j =>
        refine ⟨hy.2, fun q hq hlt => hO.block q hlt ?_⟩
        have := hk j rfl
        subst this
        simp only [List.mem_singleton]
        rintro rfl
        exact hy.1 hq
    | false => rw [hb] at hy; exact ⟨hy, trivial⟩
theorem drP_ok {Q : Exit → Act → World → Prop} (hQ : ∀ c a w, ¬ Q (.panic c) a w) : ∀ {g : Nat} {listed : Array Bool} {st : St} {K : St → Prop} {β : Nat → Nat} {a : Act} {w : World}, drP P ops mb ms S g listed st K → Rep β st a w →
    (∀ β' st' a' w', K st' → Ext st st' → Rep β' st' a' w' → Q .normal a' w') → wpAnyE P .any ops.toArray Q (EE P ops mb ms S) g listed a w
  | 0, listed, st, K, β, a, w, h, hR, hK => by
    unfold drP at h
    split at h
    · rename_i hr
      exact ⟨hr, hK β st a w h (Ext.refl _) hR⟩
    · exact h.elim
  | g + 1, listed, st, K, β, a, w, h, hR, hK => by
    have L : ∀ {j : Nat} {o : Oper}, nthO ops j = some o → isPure P o.op = false →
        gdP st ops o (fun st => loud P (XB mb ms S o.op) (YB mb ms S) st o fun st => drP P ops mb ms S g (listed.setIfInBounds j true) st K) (fun st => drP P ops mb ms S g (listed.setIfInBounds j true) (st.put o.dst .un) K) →
        if Region.wanted o (yielded ops.toArray a.tmps) then o.wp P a w (fun a' w' => EE P ops mb ms S j w w' ∧ wpAnyE P .any ops.toArray Q (EE P ops mb ms S) g (listed.setIfInBounds j true) a' w') Q ∨ (o.asks P a w ∧ LetsOut Q)
        else (fun a' w' => EE P ops mb ms S j w w' ∧ wpAnyE P .any ops.toArray Q (EE P ops mb ms S) g (listed.setIfInBounds j true) a' w') (a.put o.dst undef) w := by
      intro j o ho hp h
      obtain ⟨s, e1, hR1, h1⟩ := gdP_ok h hR
      rcases h1 with ⟨hw, h1⟩ | ⟨hw, h1⟩
      · rw [if_pos hw]
        refine .inl (Oper.wp_mono ?_ (loudD_ok ho hp h1 hR1))
        rintro a' w' ⟨β', st', k1, k2, k3, k4⟩
        exact ⟨k3, drP_ok hQ k1 k4 fun β2 st2 a2 w2 m1 m2 m3 => hK β2 st2 a2 w2 m1 ((e1.trans k2).trans m2) m3⟩
      · rw [if_neg (by simp [hw])]
        exact ⟨EE_refl ho w, drP_ok hQ h1 (hR1.put o.dst .un) fun β2 st2 a2 w2 m1 m2 m3 => hK β2 st2 a2 w2 m1 ((e1.trans (Ext.put _ _ _)).trans m2) m3⟩
    unfold drP at h
    split at h
    · rename_i hr
      exact e_done hr (hK β st a w h (Ext.refl _) hR)
    · rename_i i r hr
      split at h
      · rename_i q hq
        obtain ⟨o, ho, h⟩ := elimO_ex h
        obtain ⟨hc, h⟩ := bif_ok h
        simp only [Bool.and_eq_true, okT] at hc
        obtain ⟨⟨⟨⟨⟨c1, c2⟩, c3⟩, c4⟩, c5⟩, c6⟩ := hc
        obtain ⟨s, e1, hR1, h1⟩ := gdP_ok h hR
        rcases h1 with ⟨hw, h1⟩ | ⟨hw, h1⟩
        · obtain ⟨v, s2, F, k1, k2, k3, k4, k5, k6, k7⟩ := qP_ok h1 hR1
          have hE : ∀ w1, F w1 → EE P ops mb ms S q w1 w1 := fun w1 _ => EE_refl ho w1
          exact e_take q (Dq ops q) (lsd listed 0 ops) v F ho c1 c2 (by rw [hr]; exact c6) c3 c4 c5 (fun c a w hp => (hQ _ _ _ hp).elim) k5 hE k4 (y_val hw k7) rfl
            (drP_ok hQ k1 k3 fun β2 st2 a2 w2 m1 m2 m3 => hK β2 st2 a2 w2 m1 ((e1.trans k2).trans m2) m3)
        · exact e_take q (Dq ops q) (lsd listed 0 ops) undef (fun _ => True) ho c1 c2 (by rw [hr]; exact c6) c3 c4 c5 (fun c a w hp => (hQ _ _ _ hp).elim) (fun _ _ _ _ _ _ _ => trivial) (fun w1 _ => EE_refl ho w1) trivial (y_no hw) rfl
            (drP_ok hQ h1 (hR1.put o.dst .un) fun β2 st2 a2 w2 m1 m2 m3 => hK β2 st2 a2 w2 m1 ((e1.trans (Ext.put _ _ _)).trans m2) m3)
      · split at h
        · obtain ⟨o, ho, h⟩ := elimO_ex h
          rcases bif2 h with ⟨_, h⟩ | ⟨hp, h⟩
          · exact h.elim
          obtain ⟨s, e1, hR1, h1⟩ := gdP_ok h hR
          rcases h1 with ⟨hw, h1⟩ | ⟨hw, h1⟩
          · refine e_one i ho hr hw (Oper.wp_mono ?_ (loudD_ok ho hp h1 hR1))
            rintro a' w' ⟨β', st', k1, k2, k3, k4⟩
            exact ⟨k3, drP_ok hQ k1 k4 fun β2 st2 a2 w2 m1 m2 m3 => hK β2 st2 a2 w2 m1 ((e1.trans k2).trans m2) m3⟩
          · exact e_oneNo i ho hr hw (EE_refl ho w) rfl (drP_ok hQ h1 (hR1.put o.dst .un) fun β2 st2 a2 w2 m1 m2 m3 => hK β2 st2 a2 w2 m1 ((e1.trans (Ext.put _ _ _)).trans m2) m3)
        · rename_i j _
          obtain ⟨o, ho, h⟩ := elimO_ex h
          obtain ⟨o', ho', h⟩ := elimO_ex h
          rcases bif2 h with ⟨_, h⟩ | ⟨hp, h⟩
          · exact h.elim
          simp only [Bool.or_eq_false_iff] at hp
          exact e_two i j ho ho' hr (L ho hp.1 h.1) (L ho' hp.2 h.2)
        · exact h.elim
end
end Go.Kt.V
