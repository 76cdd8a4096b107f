
/-
  Own work: a walk by reckoning, part 1: values as a walk sees them ('SV'), its state ('St'), what a state says of a frame and a world ('Rep'), how states follow each other ('Ext'). No program in sight.
-/
import Derived.Test.YtmanockofcopjaaGreatDoorFr
import Derived.ChangeKeysEq
namespace Go.Kt.V
open Go Go.RowKit Go.Kt
set_option linter.unusedSimpArgs false
set_option linter.unusedVariables false

/-- a value of one cell -/
structure OV where
  v : Value
  one : v.oneCell' = true
inductive SV where
  | int (k : IntKind) (n : Int)
  | il (k : IntKind) (n : Int)
  | bl (b : Bool)
  | bt (t : Bool)
  | str (s : ByteArray)
  | np
  | ptr (p : Option Addr)
  | ad (a : Addr)
  | box (i o : Nat)
  | sl (s : Sl)
  | nsl
  | map (m : Option Nat)
  | raw (v : OV)
  | fn (f : FuncId) (fs cs : SV)
  | agg (l : SV)
  | tup (l : SV)
  | un
  | e
  | c (h t : SV)
/-- a value, or a row of values -/
def cvs (β : Nat → Nat) : SV → List Value
  | .int k n => [.int k n]
  | .il k n => [.int k n]
  | .bl b => [.bool b]
  | .bt t => [.bool t]
  | .str s => [.string s]
  | .np => [.pointer none]
  | .ptr p => [.pointer p]
  | .ad a => [.pointer (some a)]
  | .box i o => [.pointer (some ⟨β i, o, none⟩)]
  | .sl s => [s.v]
  | .nsl => [Sl.v Sl.nil]
  | .map m => [.map m]
  | .raw v => [v.v]
  | .fn f fs cs => [.func (.func f) (cvs β fs).toArray (cvs β cs).toArray]
  | .agg l => [.agg (cvs β l).toArray]
  | .tup l => [.tuple (cvs β l).toArray]
  | .un => [undef]
  | .e => []
  | .c h t => (cvs β h).headD undef :: cvs β t
def val (β : Nat → Nat) (s : SV) : Value := (cvs β s).headD undef
def vals (β : Nat → Nat) (l : List SV) : List Value := l.map (val β)
def toL : SV → List SV
  | .c h t => h :: toL t
  | _ => []
def ofL : List SV → SV
  | [] => .e
  | s :: r => .c s (ofL r)
def isL : SV → Bool
  | .c _ t => isL t
  | .e => true
  | _ => false
theorem cvs_ofL (β : Nat → Nat) : ∀ l, cvs β (ofL l) = vals β l
  | [] => rfl
  | s :: r => by simp only [ofL, cvs, cvs_ofL β r]; rfl
theorem cvs_toL (β : Nat → Nat) : ∀ {s : SV}, isL s = true → cvs β s = vals β (toL s)
  | .e, _ => rfl
  | .c h t, hl => by simp only [cvs, toL, cvs_toL β (s := t) hl]; rfl
/-- are all the own variables in a value such as g allows? -/
def cln (g : Nat → Bool) : SV → Bool
  | .box i _ => g i
  | .fn _ fs cs => cln g fs && cln g cs
  | .agg l => cln g l
  | .tup l => cln g l
  | .c h t => cln g h && cln g t
  | _ => true
def clns (g : Nat → Bool) : List SV → Bool
  | [] => true
  | s :: r => cln g s && clns g r
theorem cvs_congr {β β' : Nat → Nat} {g : Nat → Bool} (h : ∀ i, g i = true → β i = β' i) : ∀ s, cln g s = true → cvs β s = cvs β' s
  | .int .., _ | .il .., _ | .bl .., _ | .bt .., _ | .str .., _ | .np, _ | .ptr .., _ | .ad .., _ | .sl .., _ | .nsl, _ | .map .., _ | .raw .., _ | .un, _ | .e, _ => rfl
  | .box i o, hc => by simp only [cvs, h i hc]
  | .fn f fs cs, hc => by
    simp only [cln, Bool.and_eq_true] at hc
    simp only [cvs, cvs_congr h fs hc.1, cvs_congr h cs hc.2]
  | .agg l, hc => by simp only [cvs, cvs_congr h l hc]
  | .tup l, hc => by simp only [cvs, cvs_congr h l hc]
  | .c s t, hc => by
    simp only [cln, Bool.and_eq_true] at hc
    simp only [cvs, cvs_congr h s hc.1, cvs_congr h t hc.2]
theorem val_congr {β β' : Nat → Nat} {g : Nat → Bool} (h : ∀ i, g i = true → β i = β' i) (s : SV) (hc : cln g s = true) : val β s = val β' s := by
  unfold val; rw [cvs_congr h s hc]
theorem vals_congr {β β' : Nat → Nat} {g : Nat → Bool} (h : ∀ i, g i = true → β i = β' i) : ∀ l, clns g l = true → vals β l = vals β' l
  | [], _ => rfl
  | s :: r, hc => by
    simp only [clns, Bool.and_eq_true] at hc
    have := vals_congr h r hc.2
    simp only [vals, List.map_cons] at this ⊢
    rw [val_congr h s hc.1, this]
theorem vals_len (β : Nat → Nat) (l : List SV) : (vals β l).length = l.length := by rw [vals, List.length_map]

/-- constants -/
def ofV1 : Value → Option SV
  | .int k n => some (.il k n)
  | .bool b => some (.bl b)
  | .string s => some (.str s)
  | .pointer none => some .np
  | .slice none 0 0 => some .nsl
  | .map m => some (.map m)
  | v => if h : v.oneCell' = true then some (.raw ⟨v, h⟩) else none
def ofVs : List Value → Option SV
  | [] => some .e
  | v :: r => match ofV1 v, ofVs r with
    | some s, some l => some (.c s l)
    | _, _ => none
def ofV : Value → Option SV
  | .agg cs => (ofVs cs.toList).map .agg
  | .tuple cs => (ofVs cs.toList).map .tup
  | .func (.func f) fs cs => match ofVs fs.toList, ofVs cs.toList with
    | some a, some b => some (.fn f a b)
    | _, _ => none
  | v => ofV1 v
theorem val_ofV1 {v : Value} {s : SV} (h : ofV1 v = some s) (β : Nat → Nat) : val β s = v := by
  unfold ofV1 at h
  split at h
  all_goals first | (simp only [Option.some.injEq] at h; subst h; rfl) | skip
  split at h
  · simp only [Option.some.injEq] at h; subst h; rfl
  · cases h
theorem cvs_ofVs (β : Nat → Nat) : ∀ {l : List Value} {s : SV}, ofVs l = some s → cvs β s = l
  | [], s, h => by simp only [ofVs, Option.some.injEq] at h; subst h; rfl
  | v :: r, s, h => by
    simp only [ofVs] at h
    split at h
    · rename_i s' l' h1 h2
      simp only [Option.some.injEq] at h
      subst h
      simp only [cvs, cvs_ofVs β h2]
      rw [show (cvs β s').headD undef = v from val_ofV1 h1 β]
    · cases h
theorem val_ofV {v : Value} {s : SV} (h : ofV v = some s) (β : Nat → Nat) : val β s = v := by
  unfold ofV at h
  split at h
  · rename_i cs
    cases hl : ofVs cs.toList with
    | none => rw [hl] at h; cases h
    | some l =>
      rw [hl] at h
      simp only [Option.map_some, Option.some.injEq] at h
      subst h
      simp only [val, cvs, List.headD_cons, cvs_ofVs β hl]
  · rename_i cs
    cases hl : ofVs cs.toList with
    | none => rw [hl] at h; cases h
    | some l =>
      rw [hl] at h
      simp only [Option.map_some, Option.some.injEq] at h
      subst h
      simp only [val, cvs, List.headD_cons, cvs_ofVs β hl]
  · rename_i f fs cs
    split at h
    · rename_i a b h1 h2
      simp only [Option.some.injEq] at h
      subst h
      simp only [val, cvs, List.headD_cons, cvs_ofVs β h1, cvs_ofVs β h2]
    · cases h
  · exact val_ofV1 h β

/-- an own variable -/
structure Box where
  blk : Option Nat
  ty : TypeId
  cells : List SV
  stp : Nat
  ok : Bool
  esc : Bool
  sh : Bool
/-- what a walk knows: frame (slot, stamp, value), own variables, the world that was shown last, whether it has moved since, own variables written since, the next stamp -/
structure St where
  n : Nat
  fr : List (Nat × Nat × SV)
  bx : List Box
  w0 : World
  mv : Bool
  dt : List Nat
  ct : Nat
  /-- what is put off: a function, its arguments, what it has captured -/
  df : List (Nat × List Value × List Value)
/-- the same as the machine holds it -/
def dfs (l : List (Nat × List Value × List Value)) : List Deferred := l.map fun d => { target := .fn (.func d.1) d.2.2.toArray, args := d.2.1.toArray }
/-- a frame by what is known of it, with what is put off -/
def frD (n : Nat) (us : Nat → Value) (l : List (Nat × Value)) (D : List Deferred) : Act := ⟨(tab us l n 0).toArray, D⟩

def lookS : List (Nat × Nat × SV) → Nat → Option (Nat × SV)
  | [], _ => none
  | (k, s) :: r, i => bif Nat.beq k i then some s else lookS r i
def St.get (st : St) (i : Nat) : Option SV := bif Nat.blt i st.n then (lookS st.fr i).map (·.2) else none
def St.ev (st : St) : Operand → Option SV
  | .tmp k => st.get k
  | .const v => ofV v
  | .global g => some (.ad ⟨g, 0, none⟩)
  | .func f => some (.fn f .e .e)
def St.evs (st : St) : List Operand → Option (List SV)
  | [] => some []
  | x :: r => match st.ev x, st.evs r with
    | some v, some vs => some (v :: vs)
    | _, _ => none
def St.evp (st : St) : List (Nat × Operand) → Option (List (Nat × SV))
  | [] => some []
  | (i, x) :: r => match st.ev x, st.evp r with
    | some v, some vs => some ((i, v) :: vs)
    | _, _ => none
def St.put (st : St) (d : Option Tmp) (v : SV) : St := match d with
  | some k => { st with fr := (k, st.ct, v) :: st.fr, ct := st.ct + 1 }
  | none => st
def nthB : List Box → Nat → Option Box
  | [], _ => none
  | b :: _, 0 => some b
  | _ :: r, n + 1 => nthB r n
def setB : List Box → Nat → Box → List Box
  | [], _, _ => []
  | _ :: r, 0, b => b :: r
  | a :: r, n + 1, b => a :: setB r n b

def cv (β : Nat → Nat) (l : List (Nat × Nat × SV)) : List (Nat × Value) := l.map fun p => (p.1, val β p.2.2)
theorem lookO_cv (β : Nat → Nat) : ∀ l i, lookO (cv β l) i = (lookS l i).map fun p => val β p.2
  | [], _ => rfl
  | (k, s) :: r, i => by
    simp only [cv, List.map_cons, lookO, lookS]
    cases Nat.beq k i with
    | true => rfl
    | false => exact lookO_cv β r i

structure BoxOk (β : Nat → Nat) (w0 w : World) (i : Nat) (b : Box) : Prop where
  blk : Blk w (β i) b.ty (vals β b.cells)
  at_ : ∀ k, b.blk = some k → β i = k
  new : b.blk = none → w0.heap.size ≤ β i
structure Rep (β : Nat → Nat) (st : St) (a : Act) (w : World) : Prop where
  fr : ∃ us, a = frD st.n us (cv β st.fr) (dfs st.df)
  bx : ∀ i b, nthB st.bx i = some b → b.ok = true → BoxOk β st.w0 w i b
  ne : ∀ i j bi bj, nthB st.bx i = some bi → nthB st.bx j = some bj → bi.ok = true → bj.ok = true → i ≠ j → β i ≠ β j
  only : Only (st.dt.map β) st.w0 w
  still : st.mv = false → w = st.w0

structure Ext (s t : St) : Prop where
  n : t.n = s.n
  ct : s.ct ≤ t.ct
  fr : ∀ i k v, lookS t.fr i = some (k, v) → k < s.ct → lookS s.fr i = some (k, v)
  bx : ∀ i b', nthB t.bx i = some b' → b'.ok = true → b'.stp < s.ct → ∃ b, nthB s.bx i = some b ∧ b.ok = true ∧ b.cells = b'.cells ∧ b.ty = b'.ty ∧ b.stp = b'.stp ∧ (∀ k, b.blk = some k → b'.blk = some k)
  ps : ∀ i b, nthB s.bx i = some b → ∃ b', nthB t.bx i = some b' ∧ b'.ty = b.ty ∧ b'.ok = b.ok ∧ ∀ k, b.blk = some k → b'.blk = some k
  df : ∃ l, t.df = l ++ s.df
theorem dfr {s : St} : ∃ l, s.df = l ++ s.df := ⟨[], rfl⟩
theorem psr {l : List Box} : ∀ i b, nthB l i = some b → ∃ b', nthB l i = some b' ∧ b'.ty = b.ty ∧ b'.ok = b.ok ∧ ∀ k, b.blk = some k → b'.blk = some k := fun i b h => ⟨b, h, rfl, rfl, fun _ h => h⟩
theorem Ext.refl (s : St) : Ext s s := ⟨rfl, Nat.le_refl _, fun _ _ _ h _ => h, fun i b h ho _ => ⟨b, h, ho, rfl, rfl, rfl, fun _ h => h⟩, psr, dfr⟩
theorem Ext.trans {s t u : St} (h : Ext s t) (k : Ext t u) : Ext s u :=
  ⟨k.n.trans h.n, Nat.le_trans h.ct k.ct, fun i m v hl hlt => h.fr i m v (k.fr i m v hl (Nat.lt_of_lt_of_le hlt h.ct)) hlt, fun i b'' hb ho hs => by
    obtain ⟨b', k1, k2, k3, k4, k6, k5⟩ := k.bx i b'' hb ho (Nat.lt_of_lt_of_le hs h.ct)
    obtain ⟨b, h1, h2, h3, h4, h6, h5⟩ := h.bx i b' k1 k2 (by rw [k6]; exact hs)
    exact ⟨b, h1, h2, h3.trans k3, h4.trans k4, h6.trans k6, fun m hm => k5 m (h5 m hm)⟩, fun i b hb => by
    obtain ⟨b', h1, h2, h3, h4⟩ := h.ps i b hb
    obtain ⟨b'', k1, k2, k3, k4⟩ := k.ps i b' h1
    exact ⟨b'', k1, k2.trans h2, k3.trans h3, fun m hm => k4 m (h4 m hm)⟩, by
    obtain ⟨l, h1⟩ := h.df
    obtain ⟨m, k1⟩ := k.df
    exact ⟨m ++ l, by rw [k1, h1, List.append_assoc]⟩⟩

section
variable {β : Nat → Nat} {st : St} {a : Act} {w : World}
theorem Rep.get (h : Rep β st a w) {i : Nat} {s : SV} (hg : st.get i = some s) : a.eval (.tmp i) = val β s := by
  obtain ⟨us, rfl⟩ := h.fr
  show (Kt.fr st.n us (cv β st.fr)).eval (.tmp i) = _
  refine evE (n0 := st.n) (us0 := us) ?_
  unfold St.get at hg
  cases hb : Nat.blt i st.n with
  | false => rw [hb] at hg; cases hg
  | true =>
    rw [hb, cond_true] at hg
    simp only [evO, hb, cond_true, lookO_cv]
    cases hl : lookS st.fr i with
    | none => rw [hl] at hg; cases hg
    | some p =>
      rw [hl] at hg
      simp only [Option.map_some, Option.some.injEq] at hg
      rw [Option.map_some, hg]
theorem Rep.ev (h : Rep β st a w) {x : Operand} {s : SV} (hg : st.ev x = some s) : a.eval x = val β s := by
  cases x with
  | tmp k => exact h.get hg
  | const v => rw [val_ofV hg]; rfl
  | global g =>
    simp only [St.ev, Option.some.injEq] at hg
    subst hg; rfl
  | func f =>
    simp only [St.ev, Option.some.injEq] at hg
    subst hg; rfl
theorem Rep.evs (h : Rep β st a w) : ∀ {xs : List Operand} {l : List SV}, st.evs xs = some l → xs.map a.eval = vals β l
  | [], l, hg => by simp only [St.evs, Option.some.injEq] at hg; subst hg; rfl
  | x :: r, l, hg => by
    simp only [St.evs] at hg
    split at hg
    · rename_i v vs hx hr
      simp only [Option.some.injEq] at hg
      subst hg
      rw [List.map_cons, h.ev hx, h.evs hr]; rfl
    · cases hg
def pvals (β : Nat → Nat) (l : List (Nat × SV)) : List (Nat × Value) := l.map fun p => (p.1, val β p.2)
theorem Rep.evp (h : Rep β st a w) : ∀ {xs : List (Nat × Operand)} {l : List (Nat × SV)}, st.evp xs = some l → (xs.map fun q => (q.1, a.eval q.2)) = pvals β l
  | [], l, hg => by simp only [St.evp, Option.some.injEq] at hg; subst hg; rfl
  | (i, x) :: r, l, hg => by
    simp only [St.evp] at hg
    split at hg
    · rename_i v vs hx hr
      simp only [Option.some.injEq] at hg
      subst hg
      rw [List.map_cons, h.evp hr, h.ev hx]; rfl
    · cases hg
theorem St.evO {st : St} (β : Nat → Nat) {x : Operand} {s : SV} (hg : st.ev x = some s) : Kt.evO st.n (cv β st.fr) x = some (val β s) := by
  cases x with
  | tmp i =>
    have hg : st.get i = some s := hg
    unfold St.get at hg
    cases hb : Nat.blt i st.n with
    | false => rw [hb] at hg; cases hg
    | true =>
      rw [hb, cond_true] at hg
      simp only [Kt.evO, hb, cond_true, lookO_cv]
      cases hl : lookS st.fr i with
      | none => rw [hl] at hg; cases hg
      | some p =>
        rw [hl] at hg
        simp only [Option.map_some, Option.some.injEq] at hg
        rw [Option.map_some, hg]
  | const v => rw [val_ofV hg]; rfl
  | global g =>
    simp only [St.ev, Option.some.injEq] at hg
    subst hg; rfl
  | func f =>
    simp only [St.ev, Option.some.injEq] at hg
    subst hg; rfl
theorem St.evOs {st : St} (β : Nat → Nat) : ∀ {xs : List Operand} {l : List SV}, st.evs xs = some l → Kt.evOs st.n (cv β st.fr) xs = some (vals β l)
  | [], l, hg => by simp only [St.evs, Option.some.injEq] at hg; subst hg; rfl
  | x :: r, l, hg => by
    simp only [St.evs] at hg
    split at hg
    · rename_i v vs hx hr
      simp only [Option.some.injEq] at hg
      subst hg
      simp only [Kt.evOs, St.evO β hx, St.evOs β hr]; rfl
    · cases hg
theorem St.evPs {st : St} (β : Nat → Nat) : ∀ {xs : List (Nat × Operand)} {l : List (Nat × SV)}, st.evp xs = some l → Kt.evPs st.n (cv β st.fr) xs = some (pvals β l)
  | [], l, hg => by simp only [St.evp, Option.some.injEq] at hg; subst hg; rfl
  | (i, x) :: r, l, hg => by
    simp only [St.evp] at hg
    split at hg
    · rename_i v vs hx hr
      simp only [Option.some.injEq] at hg
      subst hg
      simp only [Kt.evPs, St.evO β hx, St.evPs β hr]; rfl
    · cases hg
theorem Rep.put (h : Rep β st a w) (d : Option Tmp) (v : SV) : Rep β (st.put d v) (a.put d (val β v)) w := by
  cases d with
  | none => exact h
  | some k =>
    obtain ⟨us, rfl⟩ := h.fr
    exact ⟨⟨us, congrArg (fun a : Act => (⟨a.tmps, dfs st.df⟩ : Act)) (putF (n0 := st.n) (us0 := us) (l0 := cv β st.fr) (k := k) (v := val β v))⟩, h.bx, h.ne, h.only, h.still⟩
theorem Ext.put (st : St) (d : Option Tmp) (v : SV) : Ext st (st.put d v) := by
  cases d with
  | none => exact Ext.refl _
  | some k =>
    refine ⟨rfl, Nat.le_succ _, fun i m u hl hlt => ?_, fun i b h ho _ => ⟨b, h, ho, rfl, rfl, rfl, fun _ h => h⟩, psr, dfr⟩
    simp only [St.put, lookS] at hl
    cases hb : Nat.beq k i with
    | true =>
      rw [hb] at hl
      simp only [cond_true, Option.some.injEq, Prod.mk.injEq] at hl
      omega
    | false => rw [hb] at hl; simpa using hl
/-- of the frame only what fr' knows -/
theorem Rep.frame (h : Rep β st a w) {fr' : List (Nat × Nat × SV)} (hs : ∀ i p, lookS fr' i = some p → ∃ q, lookS st.fr i = some q ∧ val β q.2 = val β p.2) : Rep β { st with fr := fr' } a w := by
  obtain ⟨us, rfl⟩ := h.fr
  refine ⟨?_, h.bx, h.ne, h.only, h.still⟩
  refine ⟨fun i => look us (cv β st.fr) i, ?_⟩
  unfold frD
  congr 2
  apply List.ext_getElem?
  intro i
  by_cases hi : i < st.n
  · rw [tab_get _ _ _ _ _ hi, tab_get _ _ _ _ _ hi, Nat.zero_add]
    congr 1
    cases hl : lookS fr' i with
    | none =>
      rw [look_no (l := cv β fr') (by rw [lookO_cv, hl]; rfl)]
    | some p =>
      obtain ⟨q, h1, h2⟩ := hs i p hl
      rw [look_of (l := cv β fr') (v := val β p.2) (by rw [lookO_cv, hl]; rfl), look_of (l := cv β st.fr) (v := val β p.2) (by rw [lookO_cv, h1, Option.map_some, h2])]
  · rw [List.getElem?_eq_none (by rw [tab_len]; exact Nat.le_of_not_lt hi), List.getElem?_eq_none (by rw [tab_len]; exact Nat.le_of_not_lt hi)]
end
end Go.Kt.V
