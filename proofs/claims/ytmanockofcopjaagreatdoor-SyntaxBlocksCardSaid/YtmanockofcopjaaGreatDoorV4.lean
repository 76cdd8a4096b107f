
/-
  Own work: a walk by reckoning, part 4: 'pur': what is asked of an operation that only reckons; that it suffices. No program in sight.
-/
import Derived.Test.YtmanockofcopjaaGreatDoorV3
namespace Go.Kt.V
open Go Go.RowKit Go.Kt
set_option linter.unusedSimpArgs false
set_option linter.unusedVariables false

def sz (P : Program) (t : TypeId) (n : Nat) : Bool := match P.info? t with
  | some i => Nat.beq i.size n
  | none => false
theorem sz_run {P : Program} {t : TypeId} {n : Nat} (h : sz P t n = true) (w : World) : (sizeOf t).run P w = .ok n w := by
  unfold sz at h
  cases hi : P.info? t with
  | none => rw [hi] at h; cases h
  | some i =>
    rw [hi] at h
    rw [← Nat.eq_of_beq_eq_true h]
    simp [sizeOf, typeInfo, hi]
def szO (P : Program) (t : TypeId) : Nat := match P.info? t with
  | some i => i.size
  | none => 0
theorem agg_run {P : Program} {t : TypeId} {d : TypeDesc} (h : P.underlying t = some d) (w : World) : (isAgg t).run P w = .ok (isAg d) w := by
  unfold isAgg
  rw [Sem.run_bind, run_underlying h, Result.andThen_ok]
  cases d <;> rfl
/-- a bound of a slice -/
def bnd (b : SV) (K : Nat → (Prop → Prop) → Prop) : Prop := match b with
  | .il _ n => bif decide (0 ≤ n) then K n.toNat id else False
  | .int _ n => ∃ v : Nat, K v fun p => n = v ∧ p
  | _ => False
theorem bnd_ok {b : SV} {K : Nat → (Prop → Prop) → Prop} (h : bnd b K) : ∃ (v : Nat) (e : Prop → Prop) (k : IntKind) (n : Int), K v e ∧ oint b = some (k, n) ∧ (∀ p, e p → n = v ∧ p) := by
  unfold bnd at h
  split at h
  · rename_i k n
    obtain ⟨h1, h2⟩ := bif_ok h
    have h1 := of_decide_eq_true h1
    exact ⟨_, _, k, n, h2, rfl, fun p hp => ⟨by omega, hp⟩⟩
  · rename_i k n
    obtain ⟨v, hv⟩ := h
    exact ⟨v, _, k, n, hv, rfl, fun p hp => hp⟩
  · exact h.elim
def slS (gs : List (Bool × Bool)) (s : Sl) (es : Nat) (st : St) (lo hi mx : Option Operand) (K : SV → Prop) : Prop := match lo, hi, mx with
  | some lo, none, none => elimO (st.ev lo) fun a => bnd a fun l e => gi gs (e (l ≤ s.n ∧ s.n ≤ s.c)) ∧ K (.sl (s.cut l s.n s.c es))
  | none, some hi, none => elimO (st.ev hi) fun a => bnd a fun h e => gi gs (e (h ≤ s.c)) ∧ K (.sl (s.cut 0 h s.c es))
  | some lo, some hi, none => elimO (st.ev lo) fun a => elimO (st.ev hi) fun b => bnd a fun l e => bnd b fun h f => gi gs (e (f (l ≤ h ∧ h ≤ s.c))) ∧ K (.sl (s.cut l h s.c es))
  | none, some hi, some mx => elimO (st.ev hi) fun b => elimO (st.ev mx) fun c => bnd b fun h e => bnd c fun m f => gi gs (e (f (h ≤ m ∧ m ≤ s.c))) ∧ K (.sl (s.cut 0 h m es))
  | some lo, some hi, some mx => elimO (st.ev lo) fun a => elimO (st.ev hi) fun b => elimO (st.ev mx) fun c => bnd a fun l e => bnd b fun h f => bnd c fun m g => gi gs (e (f (g (l ≤ h ∧ h ≤ m ∧ m ≤ s.c)))) ∧ K (.sl (s.cut l h m es))
  | _, _, _ => False
def slT (gs : List (Bool × Bool)) (s : ByteArray) (st : St) (lo hi mx : Option Operand) (K : SV → Prop) : Prop := match lo, hi, mx with
  | some lo, none, none => elimO (st.ev lo) fun a => bnd a fun l e => gi gs (e (l ≤ s.size)) ∧ K (.str (s.extract l s.size))
  | none, some hi, none => elimO (st.ev hi) fun a => bnd a fun h e => gi gs (e (h ≤ s.size)) ∧ K (.str (s.extract 0 h))
  | some lo, some hi, none => elimO (st.ev lo) fun a => elimO (st.ev hi) fun b => bnd a fun l e => bnd b fun h f => gi gs (e (f (l ≤ h ∧ h ≤ s.size))) ∧ K (.str (s.extract l h))
  | _, _, _ => False
def blT (P : Program) (b : Builtin) (xs : List Operand) (ts : List TypeId) (st : St) (K : SV → Prop) : Prop := match b, xs, ts with
  | .len, [x], [t] => elimO (st.ev x) fun a => (match P.underlying t with
    | some (.slice _) => elimO (osl a) fun s => K (.int .i64 s.n)
    | some .string => elimO (ostr a) fun s => K (.int .i64 s.size)
    | _ => False)
  | .cap, [x], [t] => elimO (st.ev x) fun a => (match P.underlying t with
    | some (.slice _) => elimO (osl a) fun s => K (.int .i64 s.c)
    | _ => False)
  | .min, [x, y], _ => elimO (st.ev x) fun a => elimO (st.ev y) fun b => elimO (oint a) fun p => elimO (oint b) fun q => K (.int p.1 (if q.2 < p.2 then q.2 else p.2))
  | .max, [x, y], _ => elimO (st.ev x) fun a => elimO (st.ev y) fun b => elimO (oint a) fun p => elimO (oint b) fun q => K (.int p.1 (if q.2 > p.2 then q.2 else p.2))
  | _, _, _ => False
def nif : TypeDesc → Bool
  | .interface _ => false
  | _ => true
def cvP (P : Program) (gs : List (Bool × Bool)) (st : St) (s d : TypeId) (a : SV) (K : SV → Prop) : Prop := match P.underlying s, P.underlying d with
  | some (.int _), some (.int kd) => elimO (oint a) fun p => K (.int kd (kd.wrap p.2))
  | some .string, some .string => elimO (ostr a) fun u => K (.str u)
  | some (.slice e), some .string => (match P.underlying e with
    | some (.int .u8) => elimO (osl a) fun u => bif st.mv then False else ∃ l : List UInt8, gi gs (Bytes st.w0 u l) ∧ K (.str ⟨l.toArray⟩)
    | _ => False)
  | _, _ => False
def ldP (P : Program) (gs : List (Bool × Bool)) (st : St) (t : TypeId) (a : SV) (K : SV → Prop) : Prop := match P.underlying t with
  | none => False
  | some d => (match a with
    | .box i o => elimO (nthB st.bx i) fun b => bif b.ok && sz P t ((b.cells.drop o).take (szO P t)).length && (isAg d || Nat.beq ((b.cells.drop o).take (szO P t)).length 1) then K (ofC (isAg d) ((b.cells.drop o).take (szO P t))) else False
    | .ad p => bif !st.mv && sz P t (shC P 12 t).length && (isAg d || Nat.beq (shC P 12 t).length 1) then exl (shC P 12 t) fun vs => gi gs (Cells st.w0 p (vals β0 vs)) ∧ K (ofC (isAg d) vs) else False
    | _ => False)
/-- the word nil of an interface's type -/
def isNIc : Operand → Bool
  | .const .nilIface => true
  | _ => false
def niV : Value → Bool
  | .nilIface => true
  | _ => false
def Ifc (v : Value) : Prop := v = .nilIface ∨ ∃ t x, v = .iface t x
/-- an interface against nil -/
def niP (P : Program) (gs : List (Bool × Bool)) (op : BinOp) (t : TypeId) (a : SV) (K : SV → Prop) : Prop := match a, P.underlying t, op with
  | .raw v, some (.interface _), .eql => gi gs (Ifc v.v) ∧ K (.bt (niV v.v))
  | .raw v, some (.interface _), .neq => gi gs (Ifc v.v) ∧ K (.bt (!niV v.v))
  | _, _, _ => False
theorem isNIc_ok {y : Operand} (h : isNIc y = true) : y = .const .nilIface := by
  unfold isNIc at h
  split at h
  · rfl
  · cases h
theorem ni_eq {P : Program} {t : TypeId} {ms : Array (String × TypeId)} {v : Value} (hu : P.underlying t = some (.interface ms)) (hv : Ifc v) (w : World) : (Op.equal t v .nilIface).run P w = .ok (niV v) w := by
  unfold Op.equal Op.maxDepth Op.equalIn
  rcases hv with rfl | ⟨tx, x, rfl⟩ <;> simp only [Sem.run_bind, run_underlying hu, Result.andThen_ok] <;> rfl
theorem ni_guard {P : Program} {op : BinOp} {t : TypeId} {x : Operand} {v : Value} (hv : Ifc v) (w : World) : (eqGuard op t x (.const .nilIface) v .nilIface).run P w = .ok () w := by
  unfold eqGuard
  rcases hv with rfl | ⟨tx, x, rfl⟩ <;> cases op <;> first | rfl | simp
theorem niP_ok {P : Program} {gs : List (Bool × Bool)} {st : St} {K : SV → Prop} {op : BinOp} {t ty : TypeId} {x : Operand} {a : SV} (hx : st.ev x = some a) (h : niP P gs op t a K) : ∃ v, K v ∧ (gh gs → ∀ (β : Nat → Nat) (c : Act) (w : World), Rep β st c w → ∀ (d : Option Tmp) (t' : TypeId) (p : String) (af : Array Edge) (g : Option (Nat × Bool)) (w' : World),
    (execOp c.eval ⟨d, .binOp op t x (.const .nilIface) ty, t', p, af, g⟩).run P w' = .ok (.value (val β v)) w') := by
  unfold niP at h
  split at h
  · rename_i v ms hu
    refine ⟨_, h.2, fun hg β c w hR d t' p af g w' => ?_⟩
    have hv := gi_use h.1 hg
    have e : c.eval x = v.v := hR.ev hx
    have e2 : c.eval (.const .nilIface) = .nilIface := rfl
    have hb : binOp .eql t v.v .nilIface = (do pure (.bool (← Op.equal t v.v .nilIface))) := by
      rcases hv with h | ⟨tx, x, h⟩ <;> rw [h] <;> rfl
    simp only [execOp, e, e2, hb, Sem.run_bind, ni_guard hv, Result.andThen_ok, ni_eq hu hv, Sem.run_pure]
    rfl
  · rename_i v ms hu
    refine ⟨_, h.2, fun hg β c w hR d t' p af g w' => ?_⟩
    have hv := gi_use h.1 hg
    have e : c.eval x = v.v := hR.ev hx
    have e2 : c.eval (.const .nilIface) = .nilIface := rfl
    have hb : binOp .neq t v.v .nilIface = (do pure (.bool (!(← Op.equal t v.v .nilIface)))) := by
      rcases hv with h | ⟨tx, x, h⟩ <;> rw [h] <;> rfl
    simp only [execOp, e, e2, hb, Sem.run_bind, ni_guard hv, Result.andThen_ok, ni_eq hu hv, Sem.run_pure]
    rfl
  · exact h.elim
/-- the place of an array's element -/
def PtrAt (p : Addr) (i : Int) (len size : Nat) (q : Addr) : Prop := 0 ≤ i ∧ i < len ∧ p.add (i.toNat * size) = q
/-- a place that is known when it runs: each one by itself -/
def dynP (n : Int) (F : Nat → Prop) : Nat → Prop
  | 0 => True
  | 1 => n = 0 → F 0
  | j + 2 => dynP n F (j + 1) ∧ (n = ((j + 1 : Nat) : Int) → F (j + 1))
theorem dynP_ok {n : Int} {F : Nat → Prop} : ∀ {m : Nat}, dynP n F m → 0 ≤ n → n < m → F n.toNat
  | 0, _, h0, h1 => by omega
  | 1, h, h0, h1 => by
    have e : n = 0 := by omega
    subst e
    exact h rfl
  | j + 2, h, h0, h1 => by
    by_cases e : n = ((j + 1 : Nat) : Int)
    · have := h.2 e
      rw [e]
      exact this
    · exact dynP_ok h.1 h0 (by omega)
def pur (P : Program) (gs : List (Bool × Bool)) (st : St) (o : Op) (K : SV → Prop) : Prop := match o with
  | .move x => elimO (st.ev x) K
  | .assign x => elimO (st.ev x) K
  | .pick c x y => elimO (st.ev c) fun c => (match c with
    | .bl true => elimO (st.ev x) K
    | .bl false => elimO (st.ev y) K
    | _ => False)
  | .binOp op t x y _ => elimO (st.ev x) fun a => elimO (st.ev y) fun b => bif isNIc y then niP P gs op t a K else binP P gs op t a b K
  | .unOp .not _ x => elimO (st.ev x) fun a => (match a with
    | .bl b => K (.bl (!b))
    | .bt b => K (.bt (!b))
    | _ => False)
  | .unOp .neg _ x => elimO (st.ev x) fun a => elimO (oint a) fun p => K (.int p.1 (p.1.wrap (0 - p.2)))
  | .convert s d x => elimO (st.ev x) fun a => cvP P gs st s d a K
  | .extract x i => elimO (st.ev x) fun a => (match a with
    | .tup l => bif isL l then elimO ((toL l)[i]?) K else False
    | _ => False)
  | .build t parts => elimO (st.evp parts.toList) fun ps => elimO (bltS P t ps) fun r => K (.agg (ofL r))
  | .makeFunc fn fs cs => (match fn with
    | .func f => elimO (st.evs fs.toList) fun a => elimO (st.evs cs.toList) fun b => K (.fn f (ofL a) (ofL b))
    | _ => False)
  | .makeInterface t x => elimO (st.ev x) fun a => elimO (P.underlying t) fun d => bif nif d && cln (fun _ => false) a then K (.raw ⟨.iface t (val β0 a), rfl⟩) else False
  | .nilCheck x => elimO (st.ev x) fun a => (match a with
    | .ad p => K (.ad p)
    | .box i o => K (.box i o)
    | .ptr p => ∃ q : Addr, gi gs (p = some q) ∧ K (.ad q)
    | .fn f .e cs => K (.fn f .e cs)
    | _ => False)
  | .fieldAddr s x k => elimO (st.ev x) fun a => (match P.underlying s with
    | some (.struct fs) => elimO (fs[k]?) fun f => bif Nat.ble 1 (szO P f.type) then (match a with
      | .ad p => K (.ad (p.add f.offset))
      | .box i o => K (.box i (o + f.offset))
      | _ => False) else False
    | _ => False)
  | .field t x k => elimO (st.ev x) fun a => (match a, P.underlying t with
    | .agg l, some (.struct fs) => elimO (fs[k]?) fun f => elimO (P.underlying f.type) fun d => bif isL l && sz P f.type (((toL l).drop f.offset).take (szO P f.type)).length && (isAg d || Nat.beq (((toL l).drop f.offset).take (szO P f.type)).length 1)
        then K (ofC (isAg d) (((toL l).drop f.offset).take (szO P f.type))) else False
    | _, _ => False)
  | .indexAddr t x i => elimO (st.ev x) fun a => elimO (st.ev i) fun j => elimO (oint j) fun n => (match P.underlying t with
    | some (.slice e) => elimO (osl a) fun s => bif (P.info? e).isSome then ∃ q : Addr, gi gs (SlAt s n.2 (szO P e) q) ∧ K (.ad q) else False
    | some (.array len e) => bif (P.info? e).isSome then (match a, j with
      | .box b o, .il _ n => bif decide (0 ≤ n) && decide (n < len) then K (.box b (o + n.toNat * szO P e)) else False
      | .ad p, .il _ n => bif decide (0 ≤ n) && decide (n < len) then K (.ad (p.add (n.toNat * szO P e))) else False
      | .ad p, _ => ∃ q : Addr, gi gs (PtrAt p n.2 len (szO P e) q) ∧ K (.ad q)
      | .box b o, _ => bif Nat.ble len 8 then (0 ≤ n.2 ∧ n.2 < (len : Int)) ∧ dynP n.2 (fun j => K (.box b (o + j * szO P e))) len else False
      | _, _ => False) else False
    | _ => False)
  | .load t x => elimO (st.ev x) fun a => ldP P gs st t a K
  | .index t x i => elimO (st.ev x) fun a => elimO (st.ev i) fun j => elimO (oint j) fun n => (match P.underlying t with
    | some .string => elimO (ostr a) fun s => ∃ c : UInt8, gi gs (0 ≤ n.2 ∧ s[n.2.toNat]? = some c) ∧ K (.int .u8 (c.toNat : Int))
    | _ => False)
  | .slice t x lo hi mx => elimO (st.ev x) fun a => (match P.underlying t with
    | some (.slice e) => elimO (osl a) fun s => bif (P.info? e).isSome then slS gs s (szO P e) st lo hi mx K else False
    | some .string => elimO (ostr a) fun s => slT gs s st lo hi mx K
    | _ => False)
  | .call c => (match c.callee with
    | .builtin b => blT P b c.args.toList c.argTypes.toList st K
    | _ => False)
  | _ => False
def mem : Op → Bool
  | .load _ _ => true
  | .convert _ _ _ => true
  | _ => false
/-- the operation yields v -/
def Y (P : Program) (st : St) (o : Op) (v : SV) : Prop := ∀ (β : Nat → Nat) (a : Act) (w : World), Rep β st a w → ∀ (d : Option Tmp) (t : TypeId) (p : String) (af : Array Edge) (g : Option (Nat × Bool)) (w' : World), (mem o = true → w'.heap = w.heap) →
  (execOp a.eval ⟨d, o, t, p, af, g⟩).run P w' = .ok (.value (val β v)) w'
theorem szO_run {P : Program} {t : TypeId} (h : (P.info? t).isSome = true) (w : World) : (sizeOf t).run P w = .ok (szO P t) w := by
  unfold szO
  cases hi : P.info? t with
  | none => rw [hi] at h; cases h
  | some i => simp [sizeOf, typeInfo, hi]
theorem lit_add (b o n : Nat) : (⟨b, o, none⟩ : Addr).add n = ⟨b, o + n, none⟩ := by unfold Addr.add; split <;> simp_all
theorem ofC_agg {d : TypeDesc} (h : isAg d = true) (β : Nat → Nat) (l : List SV) : val β (ofC (isAg d) l) = .agg (vals β l).toArray := by
  rw [h]
  show Value.agg (cvs β (ofL l)).toArray = _
  rw [cvs_ofL]
theorem one_of {l : List SV} (h : Nat.beq l.length 1 = true) : ∃ s, l = [s] := by
  have := Nat.eq_of_beq_eq_true h
  match l, this with
  | [s], _ => exact ⟨s, rfl⟩
section
variable {P : Program} {gs : List (Bool × Bool)} {st : St} {K : SV → Prop}
theorem ldP_ok {t : TypeId} {x : Operand} {a : SV} (hx : st.ev x = some a) (h : ldP P gs st t a K) : ∃ v, K v ∧ (gh gs → Y P st (.load t x) v) := by
  unfold ldP at h
  split at h
  · exact h.elim
  · rename_i d hu
    split at h
    · rename_i i o
      obtain ⟨b, hb, h⟩ := elimO_ex h
      obtain ⟨h1, h2⟩ := bif_ok h
      simp only [Bool.and_eq_true, Bool.or_eq_true] at h1
      obtain ⟨⟨hok, hsz⟩, hone⟩ := h1
      refine ⟨_, h2, fun _ β act w hR dst t' p af g w' hh => ?_⟩
      have hB := (hR.bx i b hb hok).blk
      have hB' : Blk w' (β i) b.ty (vals β b.cells) := by unfold Blk at hB ⊢; rw [hh rfl]; exact hB
      have hev := hR.ev hx
      generalize hl : (b.cells.drop o).take (szO P t) = l at *
      have hC : Cells w' ⟨β i, o, none⟩ (vals β l) := hB'.cellsAt o _ (by
        rw [vals_len, ← hl]
        simp only [vals, List.map_take, List.map_drop]
        rw [List.length_take, List.take_eq_take_iff]
        simp only [List.length_drop, List.length_map]
        omega)
      rcases hone with hag | hone
      · rw [ofC_agg hag]
        have := agg_run (P := P) hu w'
        rw [hag] at this
        exact r_loadN this (sz_run hsz w') (vals_len β l) hev hC
      · cases hag : isAg d with
        | true =>
          have e := ofC_agg hag β l
          rw [hag] at e
          rw [e]
          have := agg_run (P := P) hu w'
          rw [hag] at this
          exact r_loadN this (sz_run hsz w') (vals_len β l) hev hC
        | false =>
          obtain ⟨s, rfl⟩ := one_of hone
          have := agg_run (P := P) hu w'
          rw [hag] at this
          exact r_load1 this hev (Cells.one hC)
    · rename_i ad
      obtain ⟨h1, h2⟩ := bif_ok h
      simp only [Bool.and_eq_true, Bool.or_eq_true, Bool.not_eq_true'] at h1
      obtain ⟨⟨hmv, hsz⟩, hone⟩ := h1
      obtain ⟨vs, ⟨hF, hK⟩, hlen, hcl⟩ := exl_ex h2
      refine ⟨_, hK, fun hg β act w hR dst t' p af g w' hh => ?_⟩
      have hF := gi_use hF hg
      have hw := hR.still hmv
      subst hw
      have hC : Cells w' ad (vals β vs) := by
        rw [vals_congr (β := β) (β' := β0) (g := fun _ => false) (fun i h => (by cases h)) vs (hcl _)]
        exact hF.keep (by rw [hh rfl])
      have hev := hR.ev hx
      rw [← hlen] at hsz hone
      rcases hone with hag | hone
      · rw [ofC_agg hag]
        have := agg_run (P := P) hu w'
        rw [hag] at this
        exact r_loadN this (sz_run hsz w') (vals_len β vs) hev hC
      · cases hag : isAg d with
        | true =>
          have e := ofC_agg hag β vs
          rw [hag] at e
          rw [e]
          have := agg_run (P := P) hu w'
          rw [hag] at this
          exact r_loadN this (sz_run hsz w') (vals_len β vs) hev hC
        | false =>
          obtain ⟨s, rfl⟩ := one_of hone
          have := agg_run (P := P) hu w'
          rw [hag] at this
          exact r_load1 this hev (Cells.one hC)
    · exact h.elim
theorem cvP_ok {s d : TypeId} {x : Operand} {a : SV} (hx : st.ev x = some a) (h : cvP P gs st s d a K) : ∃ v, K v ∧ (gh gs → Y P st (.convert s d x) v) := by
  unfold cvP at h
  split at h
  · rename_i ks kd h1 h2
    obtain ⟨⟨k, n⟩, hp, h⟩ := elimO_ex h
    exact ⟨_, h, fun _ β act w hR dst t' p af g w' hh => r_convInt (run_underlying h1 w') (run_underlying h2 w') ((hR.ev hx).trans (oint_val hp β))⟩
  · rename_i h1 h2
    obtain ⟨u, hp, h⟩ := elimO_ex h
    exact ⟨_, h, fun _ β act w hR dst t' p af g w' hh => r_convStr (run_underlying h1 w') (run_underlying h2 w') ((hR.ev hx).trans (ostr_val hp β))⟩
  · rename_i e h1 h2
    split at h
    · rename_i h3
      obtain ⟨u, hp, h⟩ := elimO_ex h
      cases hm : st.mv with
      | true => rw [hm] at h; exact h.elim
      | false =>
        rw [hm] at h
        obtain ⟨l, hF, hK⟩ := h
        refine ⟨_, hK, fun hg β act w hR dst t' p af g w' hh => ?_⟩
        have hw := hR.still hm
        subst hw
        exact r_bytesStr h1 h3 h2 ((hR.ev hx).trans (osl_val hp β)) (keep_bytes _ _ (by rw [hh rfl]) (gi_use hF hg))
    · exact h.elim
  · exact h.elim
theorem blT_ok {b : Builtin} {xs : List Operand} {ts : List TypeId} (h : blT P b xs ts st K) : ∃ v, K v ∧ (gh gs → Y P st (.call ⟨.builtin b, xs.toArray, ts.toArray⟩) v) := by
  unfold blT at h
  split at h
  · obtain ⟨a, hx, h⟩ := elimO_ex h
    split at h
    · rename_i hu
      obtain ⟨s, hs, h⟩ := elimO_ex h
      exact ⟨_, h, fun _ β act w hR dst t' p af g w' hh => r_len (run_underlying hu w') ((hR.ev hx).trans (osl_val hs β))⟩
    · rename_i hu
      obtain ⟨s, hs, h⟩ := elimO_ex h
      exact ⟨_, h, fun _ β act w hR dst t' p af g w' hh => r_lenStr (run_underlying hu w') ((hR.ev hx).trans (ostr_val hs β))⟩
    · exact h.elim
  · obtain ⟨a, hx, h⟩ := elimO_ex h
    split at h
    · rename_i hu
      obtain ⟨s, hs, h⟩ := elimO_ex h
      exact ⟨_, h, fun _ β act w hR dst t' p af g w' hh => r_cap (run_underlying hu w') ((hR.ev hx).trans (osl_val hs β))⟩
    · exact h.elim
  · obtain ⟨a, hx, h⟩ := elimO_ex h
    obtain ⟨b, hy, h⟩ := elimO_ex h
    obtain ⟨⟨k, m⟩, hp, h⟩ := elimO_ex h
    obtain ⟨⟨k', n⟩, hq, h⟩ := elimO_ex h
    exact ⟨_, h, fun _ β act w hR dst t' p af g w' hh => r_min ((hR.ev hx).trans (oint_val hp β)) ((hR.ev hy).trans (oint_val hq β))⟩
  · obtain ⟨a, hx, h⟩ := elimO_ex h
    obtain ⟨b, hy, h⟩ := elimO_ex h
    obtain ⟨⟨k, m⟩, hp, h⟩ := elimO_ex h
    obtain ⟨⟨k', n⟩, hq, h⟩ := elimO_ex h
    exact ⟨_, h, fun _ β act w hR dst t' p af g w' hh => r_max ((hR.ev hx).trans (oint_val hp β)) ((hR.ev hy).trans (oint_val hq β))⟩
  · exact h.elim
theorem slS_ok {t e : TypeId} {x : Operand} {lo hi mx : Option Operand} {a : SV} {s : Sl} (hu : P.underlying t = some (.slice e)) (hi' : (P.info? e).isSome = true) (hx : st.ev x = some a) (hs : osl a = some s) (h : slS gs s (szO P e) st lo hi mx K) : ∃ v, K v ∧ (gh gs → Y P st (.slice t x lo hi mx) v) := by
  unfold slS at h
  split at h
  · obtain ⟨a1, h1, h⟩ := elimO_ex h
    obtain ⟨l, e1, k1, n1, ⟨hF, hK⟩, o1, u1⟩ := bnd_ok h
    refine ⟨_, hK, fun hg β act w hR dst t' p af g w' hh => ?_⟩
    obtain ⟨rfl, f1, f2⟩ := u1 _ (gi_use hF hg)
    exact r_slice100 (run_underlying hu w') (szO_run hi' w') ((hR.ev hx).trans (osl_val hs β)) ((hR.ev h1).trans (oint_val o1 β)) f1 f2 (Nat.le_refl _)
  · obtain ⟨a1, h1, h⟩ := elimO_ex h
    obtain ⟨l, e1, k1, n1, ⟨hF, hK⟩, o1, u1⟩ := bnd_ok h
    refine ⟨_, hK, fun hg β act w hR dst t' p af g w' hh => ?_⟩
    obtain ⟨rfl, f1⟩ := u1 _ (gi_use hF hg)
    exact r_slice010 (run_underlying hu w') (szO_run hi' w') ((hR.ev hx).trans (osl_val hs β)) ((hR.ev h1).trans (oint_val o1 β)) (Nat.zero_le _) f1 (Nat.le_refl _)
  · obtain ⟨a1, h1, h⟩ := elimO_ex h
    obtain ⟨a2, h2, h⟩ := elimO_ex h
    obtain ⟨l, e1, k1, n1, h, o1, u1⟩ := bnd_ok h
    obtain ⟨m, e2, k2, n2, ⟨hF, hK⟩, o2, u2⟩ := bnd_ok h
    refine ⟨_, hK, fun hg β act w hR dst t' p af g w' hh => ?_⟩
    obtain ⟨rfl, f1⟩ := u1 _ (gi_use hF hg)
    obtain ⟨rfl, f1, f2⟩ := u2 _ f1
    exact r_slice110 (run_underlying hu w') (szO_run hi' w') ((hR.ev hx).trans (osl_val hs β)) ((hR.ev h1).trans (oint_val o1 β)) ((hR.ev h2).trans (oint_val o2 β)) f1 f2 (Nat.le_refl _)
  · obtain ⟨a1, h1, h⟩ := elimO_ex h
    obtain ⟨a2, h2, h⟩ := elimO_ex h
    obtain ⟨l, e1, k1, n1, h, o1, u1⟩ := bnd_ok h
    obtain ⟨m, e2, k2, n2, ⟨hF, hK⟩, o2, u2⟩ := bnd_ok h
    refine ⟨_, hK, fun hg β act w hR dst t' p af g w' hh => ?_⟩
    obtain ⟨rfl, f1⟩ := u1 _ (gi_use hF hg)
    obtain ⟨rfl, f1, f2⟩ := u2 _ f1
    exact r_slice011 (run_underlying hu w') (szO_run hi' w') ((hR.ev hx).trans (osl_val hs β)) ((hR.ev h1).trans (oint_val o1 β)) ((hR.ev h2).trans (oint_val o2 β)) (Nat.zero_le _) f1 f2
  · obtain ⟨a1, h1, h⟩ := elimO_ex h
    obtain ⟨a2, h2, h⟩ := elimO_ex h
    obtain ⟨a3, h3, h⟩ := elimO_ex h
    obtain ⟨l, e1, k1, n1, h, o1, u1⟩ := bnd_ok h
    obtain ⟨m, e2, k2, n2, h, o2, u2⟩ := bnd_ok h
    obtain ⟨q, e3, k3, n3, ⟨hF, hK⟩, o3, u3⟩ := bnd_ok h
    refine ⟨_, hK, fun hg β act w hR dst t' p af g w' hh => ?_⟩
    obtain ⟨rfl, f1⟩ := u1 _ (gi_use hF hg)
    obtain ⟨rfl, f1⟩ := u2 _ f1
    obtain ⟨rfl, f1, f2, f3⟩ := u3 _ f1
    exact r_slice111 (run_underlying hu w') (szO_run hi' w') ((hR.ev hx).trans (osl_val hs β)) ((hR.ev h1).trans (oint_val o1 β)) ((hR.ev h2).trans (oint_val o2 β)) ((hR.ev h3).trans (oint_val o3 β)) f1 f2 f3
  · exact h.elim
theorem slT_ok {t : TypeId} {x : Operand} {lo hi mx : Option Operand} {a : SV} {s : ByteArray} (hu : P.underlying t = some .string) (hx : st.ev x = some a) (hs : ostr a = some s) (h : slT gs s st lo hi mx K) : ∃ v, K v ∧ (gh gs → Y P st (.slice t x lo hi mx) v) := by
  unfold slT at h
  split at h
  · obtain ⟨a1, h1, h⟩ := elimO_ex h
    obtain ⟨l, e1, k1, n1, ⟨hF, hK⟩, o1, u1⟩ := bnd_ok h
    refine ⟨_, hK, fun hg β act w hR dst t' p af g w' hh => ?_⟩
    obtain ⟨rfl, f1⟩ := u1 _ (gi_use hF hg)
    exact r_sliceStr10 (run_underlying hu w') ((hR.ev hx).trans (ostr_val hs β)) ((hR.ev h1).trans (oint_val o1 β)) f1 (Nat.le_refl _)
  · obtain ⟨a1, h1, h⟩ := elimO_ex h
    obtain ⟨l, e1, k1, n1, ⟨hF, hK⟩, o1, u1⟩ := bnd_ok h
    refine ⟨_, hK, fun hg β act w hR dst t' p af g w' hh => ?_⟩
    obtain ⟨rfl, f1⟩ := u1 _ (gi_use hF hg)
    exact r_sliceStr01 (run_underlying hu w') ((hR.ev hx).trans (ostr_val hs β)) ((hR.ev h1).trans (oint_val o1 β)) (Nat.zero_le _) f1
  · obtain ⟨a1, h1, h⟩ := elimO_ex h
    obtain ⟨a2, h2, h⟩ := elimO_ex h
    obtain ⟨l, e1, k1, n1, h, o1, u1⟩ := bnd_ok h
    obtain ⟨m, e2, k2, n2, ⟨hF, hK⟩, o2, u2⟩ := bnd_ok h
    refine ⟨_, hK, fun hg β act w hR dst t' p af g w' hh => ?_⟩
    obtain ⟨rfl, f1⟩ := u1 _ (gi_use hF hg)
    obtain ⟨rfl, f1, f2⟩ := u2 _ f1
    exact r_sliceStr11 (run_underlying hu w') ((hR.ev hx).trans (ostr_val hs β)) ((hR.ev h1).trans (oint_val o1 β)) ((hR.ev h2).trans (oint_val o2 β)) f1 f2
  · exact h.elim
theorem part_ok {t : TypeId} {d : TypeDesc} {l : List Value} {off n : Nat} (hu : P.underlying t = some d) (hn : sz P t n = true) (hag : isAg d = true) (w : World) : (part t l.toArray off).run P w = .ok (.agg ((l.drop off).take n).toArray) w := by
  have h := agg_run (P := P) hu w
  rw [hag] at h
  unfold part
  simp only [Sem.run_bind, h, Result.andThen_ok, if_true, sz_run hn w, Sem.run_pure]
  congr 2
  rw [List.extract_toArray, List.extract_eq_take_drop, Nat.add_sub_cancel_left]
theorem part_ok1 {t : TypeId} {d : TypeDesc} {l : List Value} {off : Nat} {v : Value} (hu : P.underlying t = some d) (hag : isAg d = false) (hv : l[off]? = some v) (w : World) : (part t l.toArray off).run P w = .ok v w := by
  have h := agg_run (P := P) hu w
  rw [hag] at h
  unfold part
  simp only [Sem.run_bind, h, Result.andThen_ok]
  simp [hv]
theorem pur_ok {o : Op} (h : pur P gs st o K) : ∃ v, K v ∧ (gh gs → Y P st o v) := by
  unfold pur at h
  split at h
  · obtain ⟨v, hx, hK⟩ := elimO_ex h
    exact ⟨v, hK, fun _ β act w hR dst t' p af g w' hh => by simp only [execOp, hR.ev hx, Sem.run_pure]⟩
  · obtain ⟨v, hx, hK⟩ := elimO_ex h
    exact ⟨v, hK, fun _ β act w hR dst t' p af g w' hh => by simp only [execOp, hR.ev hx, Sem.run_pure]⟩
  · obtain ⟨c, hc, h⟩ := elimO_ex h
    split at h
    · obtain ⟨v, hx, hK⟩ := elimO_ex h
      exact ⟨v, hK, fun _ β act w hR dst t' p af g w' hh => r_pickT (hR.ev hc) (hR.ev hx)⟩
    · obtain ⟨v, hx, hK⟩ := elimO_ex h
      exact ⟨v, hK, fun _ β act w hR dst t' p af g w' hh => r_pickF (hR.ev hc) (hR.ev hx)⟩
    · exact h.elim
  · rename_i op t x y ty
    obtain ⟨a, hx, h⟩ := elimO_ex h
    obtain ⟨b, hy, h⟩ := elimO_ex h
    cases hn : isNIc y with
    | true =>
      rw [hn] at h
      have e := isNIc_ok hn
      subst e
      obtain ⟨v, hK, hr⟩ := niP_ok hx h
      exact ⟨v, hK, fun hg β act w hR dst t' p af g w' hh => hr hg β act w hR _ _ _ _ _ _⟩
    | false =>
    rw [hn] at h
    obtain ⟨v, hK, hr⟩ := binP_ok h
    exact ⟨v, hK, fun hg β act w hR dst t' p af g w' hh => hr hg β act _ _ _ _ _ _ _ _ _ (hR.ev hx) (hR.ev hy)⟩
  · obtain ⟨a, hx, h⟩ := elimO_ex h
    split at h
    · exact ⟨_, h, fun _ β act w hR dst t' p af g w' hh => by simp only [execOp, hR.ev hx]; rfl⟩
    · exact ⟨_, h, fun _ β act w hR dst t' p af g w' hh => by simp only [execOp, hR.ev hx]; rfl⟩
    · exact h.elim
  · obtain ⟨a, hx, h⟩ := elimO_ex h
    obtain ⟨⟨k, n⟩, hp, h⟩ := elimO_ex h
    exact ⟨_, h, fun _ β act w hR dst t' p af g w' hh => by simp only [execOp, hR.ev hx, oint_val hp]; rfl⟩
  · obtain ⟨a, hx, h⟩ := elimO_ex h
    exact cvP_ok hx h
  · rename_i x i
    obtain ⟨a, hx, h⟩ := elimO_ex h
    split at h
    · rename_i l
      obtain ⟨h1, h⟩ := bif_ok h
      obtain ⟨v, hv, hK⟩ := elimO_ex h
      refine ⟨v, hK, fun _ β act w hR dst t' p af g w' hh => ?_⟩
      have e : act.eval _ = .tuple (vals β (toL l)).toArray := (hR.ev hx).trans (by
        show Value.tuple (cvs β l).toArray = _
        rw [cvs_toL β h1])
      have e2 : (vals β (toL l))[i]? = some (val β v) := by rw [vals, List.getElem?_map, hv]; rfl
      simp only [execOp, e, Instr.extract]
      simp [e2]
    · exact h.elim
  · rename_i t parts
    obtain ⟨ps, hp, h⟩ := elimO_ex h
    obtain ⟨r, hr, hK⟩ := elimO_ex h
    refine ⟨_, hK, fun _ β act w hR dst t' p af g w' hh => ?_⟩
    have e : val β (.agg (ofL r)) = .agg (vals β r).toArray := by
      show Value.agg (cvs β (ofL r)).toArray = _
      rw [cvs_ofL]
    rw [e]
    obtain ⟨pl⟩ := parts
    exact r_build (hR.evp hp) (bltS_ok hr β w')
  · rename_i fn fs cs
    split at h
    · rename_i f
      obtain ⟨a, ha, h⟩ := elimO_ex h
      obtain ⟨b, hb, hK⟩ := elimO_ex h
      refine ⟨_, hK, fun _ β act w hR dst t' p af g w' hh => ?_⟩
      obtain ⟨fl⟩ := fs
      obtain ⟨cl⟩ := cs
      have := r_makeFunc (P := P) (w := w') (dst := dst) (t' := t') (p := p) (af := af) (g := g) (fn := .func f) (hR.evs ha) (hR.evs hb)
      rw [← cvs_ofL, ← cvs_ofL] at this
      exact this
    · exact h.elim
  · obtain ⟨a, hx, h⟩ := elimO_ex h
    obtain ⟨d, hu, h⟩ := elimO_ex h
    obtain ⟨h1, hK⟩ := bif_ok h
    simp only [Bool.and_eq_true] at h1
    refine ⟨_, hK, fun _ β act w hR dst t' p af g w' hh => ?_⟩
    have e : val β a = val β0 a := val_congr (g := fun _ => false) (fun i h => (by cases h)) a h1.2
    exact r_iface (run_underlying hu w') (by unfold nif at h1; cases d <;> first | rfl | exact h1.1) ((hR.ev hx).trans e)
  · obtain ⟨a, hx, h⟩ := elimO_ex h
    split at h
    · exact ⟨_, h, fun _ β act w hR dst t' p af g w' hh => r_nil (hR.ev hx)⟩
    · exact ⟨_, h, fun _ β act w hR dst t' p af g w' hh => r_nil (hR.ev hx)⟩
    · obtain ⟨q, hF, hK⟩ := h
      refine ⟨_, hK, fun hg β act w hR dst t' p af g w' hh => r_nil ((hR.ev hx).trans ?_)⟩
      have := gi_use hF hg
      subst this; rfl
    · exact ⟨_, h, fun _ β act w hR dst t' p af g w' hh => by
        have e := hR.ev hx
        simp only [val, cvs, List.headD_cons] at e
        simp only [execOp, e, Sem.run_pure, val, cvs, List.headD_cons]⟩
    · exact h.elim
  · obtain ⟨a, hx, h⟩ := elimO_ex h
    split at h
    · rename_i fs hu
      obtain ⟨f, hf, h⟩ := elimO_ex h
      obtain ⟨hs, h⟩ := bif_ok h
      have hs := Nat.le_of_ble_eq_true hs
      have hso : (P.info? f.type).isSome = true := by
        unfold szO at hs
        split at hs
        · rename_i hi; rw [hi]; rfl
        · omega
      obtain ⟨m, hm⟩ : ∃ m, szO P f.type = m + 1 := ⟨szO P f.type - 1, by omega⟩
      split at h
      · exact ⟨_, h, fun _ β act w hR dst t' p af g w' hh => r_field (run_underlying hu w') hf (by rw [szO_run hso, hm]) (hR.ev hx) rfl⟩
      · exact ⟨_, h, fun _ β act w hR dst t' p af g w' hh => r_field (run_underlying hu w') hf (by rw [szO_run hso, hm]) (hR.ev hx) (lit_add _ _ _)⟩
      · exact h.elim
    · exact h.elim
  · obtain ⟨a, hx, h⟩ := elimO_ex h
    split at h
    · rename_i l fs hu
      obtain ⟨f, hf, h⟩ := elimO_ex h
      obtain ⟨d, hd, h⟩ := elimO_ex h
      obtain ⟨h1, hK⟩ := bif_ok h
      simp only [Bool.and_eq_true, Bool.or_eq_true] at h1
      obtain ⟨⟨hl, hsz⟩, hone⟩ := h1
      refine ⟨_, hK, fun _ β act w hR dst t' p af g w' hh => ?_⟩
      have e : act.eval _ = .agg (vals β (toL l)).toArray := (hR.ev hx).trans (by
        show Value.agg (cvs β l).toArray = _
        rw [cvs_toL β hl])
      have hv : vals β (((toL l).drop f.offset).take (szO P f.type)) = ((vals β (toL l)).drop f.offset).take (szO P f.type) := by
        simp only [vals, List.map_take, List.map_drop]
      have key : (part f.type (vals β (toL l)).toArray f.offset).run P w' = .ok (val β (ofC (isAg d) (((toL l).drop f.offset).take (szO P f.type)))) w' := by
        cases hag : isAg d with
        | true =>
          have e2 := ofC_agg hag β (((toL l).drop f.offset).take (szO P f.type))
          rw [hag] at e2
          rw [e2, hv]
          have h3 := part_ok (l := vals β (toL l)) (off := f.offset) hd hsz hag w'
          rw [h3]
          congr 3
          rw [List.take_eq_take_iff]
          simp only [List.length_take, List.length_drop, vals_len]
          omega
        | false =>
          rcases hone with hone | hone
          · rw [hag] at hone; cases hone
          obtain ⟨s, hs⟩ := one_of hone
          rw [hs]
          refine part_ok1 hd hag ?_ w'
          have h4 : (((toL l).drop f.offset).take (szO P f.type))[0]? = some s := by rw [hs]; rfl
          rw [List.getElem?_take] at h4
          split at h4
          · rw [List.getElem?_drop, Nat.add_zero] at h4
            rw [vals, List.getElem?_map, h4]; rfl
          · cases h4
      simp only [execOp, e, Instr.field, Sem.run_bind, run_underlying hu, Result.andThen_ok, hf, asAgg, Sem.run_pure, key]
    · exact h.elim
  · obtain ⟨a, hx, h⟩ := elimO_ex h
    obtain ⟨j, hj, h⟩ := elimO_ex h
    obtain ⟨⟨k, n⟩, hn, h⟩ := elimO_ex h
    split at h
    · rename_i e hu
      obtain ⟨s, hs, h⟩ := elimO_ex h
      obtain ⟨hi, h⟩ := bif_ok h
      obtain ⟨q, hF, hK⟩ := h
      exact ⟨_, hK, fun hg β act w hR dst t' p af g w' hh => r_indexS (run_underlying hu w') (szO_run hi w') ((hR.ev hx).trans (osl_val hs β)) ((hR.ev hj).trans (oint_val hn β)) (gi_use hF hg)⟩
    · rename_i len e hu
      obtain ⟨hi, h⟩ := bif_ok h
      split at h
      · obtain ⟨h1, hK⟩ := bif_ok h
        simp only [Bool.and_eq_true, decide_eq_true_eq] at h1
        exact ⟨_, hK, fun hg β act w hR dst t' p af g w' hh => r_indexA (run_underlying hu w') (szO_run hi w') (hR.ev hx) (hR.ev hj) h1.1 h1.2 (lit_add _ _ _)⟩
      · obtain ⟨h1, hK⟩ := bif_ok h
        simp only [Bool.and_eq_true, decide_eq_true_eq] at h1
        exact ⟨_, hK, fun hg β act w hR dst t' p af g w' hh => r_indexA (run_underlying hu w') (szO_run hi w') (hR.ev hx) (hR.ev hj) h1.1 h1.2 rfl⟩
      · obtain ⟨q, hF, hK⟩ := h
        exact ⟨_, hK, fun hg β act w hR dst t' p af g w' hh => r_indexA (run_underlying hu w') (szO_run hi w') (hR.ev hx) ((hR.ev hj).trans (oint_val hn β)) (gi_use hF hg).1 (gi_use hF hg).2.1 (gi_use hF hg).2.2⟩
      · obtain ⟨_, ⟨h0, h1⟩, hK⟩ := bif_ok h
        exact ⟨_, dynP_ok hK h0 h1, fun hg β act w hR dst t' p af g w' hh => r_indexA (run_underlying hu w') (szO_run hi w') (hR.ev hx) ((hR.ev hj).trans (oint_val hn β)) h0 h1 (lit_add _ _ _)⟩
      · exact h.elim
    · exact h.elim
  · obtain ⟨a, hx, h⟩ := elimO_ex h
    exact ldP_ok hx h
  · obtain ⟨a, hx, h⟩ := elimO_ex h
    obtain ⟨j, hj, h⟩ := elimO_ex h
    obtain ⟨⟨k, n⟩, hn, h⟩ := elimO_ex h
    split at h
    · rename_i hu
      obtain ⟨s, hs, h⟩ := elimO_ex h
      obtain ⟨c, hF, hK⟩ := h
      exact ⟨_, hK, fun hg β act w hR dst t' p af g w' hh => r_indexStr (run_underlying hu w') ((hR.ev hx).trans (ostr_val hs β)) ((hR.ev hj).trans (oint_val hn β)) (gi_use hF hg).1 (gi_use hF hg).2⟩
    · exact h.elim
  · obtain ⟨a, hx, h⟩ := elimO_ex h
    split at h
    · rename_i e hu
      obtain ⟨s, hs, h⟩ := elimO_ex h
      obtain ⟨hi, h⟩ := bif_ok h
      exact slS_ok hu hi hx hs h
    · rename_i hu
      obtain ⟨s, hs, h⟩ := elimO_ex h
      exact slT_ok hu hx hs h
    · exact h.elim
  · rename_i c
    obtain ⟨callee, ⟨xs⟩, ⟨ts⟩⟩ := c
    split at h
    · rename_i b hb
      dsimp only at hb
      subst hb
      exact blT_ok h
    · exact h.elim
  · exact h.elim
end
end Go.Kt.V
