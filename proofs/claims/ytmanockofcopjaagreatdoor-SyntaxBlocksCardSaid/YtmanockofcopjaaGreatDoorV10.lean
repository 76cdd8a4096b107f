
/-
  Own work: a walk by reckoning, part 10: rows of operations in their order ('linP'); where ways meet ('meetSt', 'endJ'). No program in sight.
-/
import Derived.Test.YtmanockofcopjaaGreatDoorV9
namespace Go.Kt.V
open Go Go.RowKit Go.Kt
set_option linter.unusedSimpArgs false
set_option linter.unusedVariables false

def nd (P : Program) (st : St) (o : Op) : Bool := match o with
  | .load _ x => (match st.ev x with
    | some (.ad _) => true
    | _ => false)
  | .convert s _ _ => (match P.underlying s with
    | some (.slice _) => true
    | _ => false)
  | _ => false
def exI (b : Bool) (st : St) (K : St → Prop) : Prop := bif b && st.mv then expose st K else K st
theorem exI_ok {b : Bool} {st : St} {K : St → Prop} (h : exI b st K) {β : Nat → Nat} {a : Act} {w : World} (hR : Rep β st a w) : ∃ st', K st' ∧ Ext st st' ∧ Rep β st' a w ∧ st'.fr = st.fr ∧ st'.n = st.n := by
  unfold exI at h
  rcases bif2 h with ⟨_, h⟩ | ⟨_, h⟩
  · obtain ⟨s, h1, h2, h3, h4, h5, h6, _⟩ := expose_ok h hR
    exact ⟨s, h1, h2, h3, h5, h6⟩
  · exact ⟨st, h, Ext.refl _, hR, rfl, rfl⟩
def allPure (P : Program) : List Oper → Bool
  | [] => true
  | o :: r => isPure P o.op && allPure P r
def anyMem : List Oper → Bool
  | [] => false
  | o :: r => mem o.op || anyMem r
def X0 : XT := fun _ _ p => p
def Y0 : YT := fun _ p => p
def step1 (P : Program) (st : St) (o : Oper) (K : St → Prop) : Prop :=
  bif isPure P o.op then exI (nd P st o.op) st fun st => pur P [] st o.op fun v => K (st.put o.dst v) else loud P X0 Y0 st o K
def linP (P : Program) (ops : List Oper) : Nat → List Oper → St → (St → Prop) → Prop
  | 0, _, _, _ => False
  | _ + 1, [], st, K => K st
  | f + 1, o :: rest, st, K => match o.guard with
    | none => step1 P st o fun st => linP P ops f rest st K
    | some (j, want) => (match tst st ops j with
      | some (_, .un) => linP P ops f rest (st.put o.dst .un) K
      | some (_, .bl b) => bif b == want then step1 P st o fun st => linP P ops f rest st K else linP P ops f rest (st.put o.dst .un) K
      | some (d, .bt t) => bif allPure P ((o :: rest).take (cntG ops j (o :: rest) + 1))
        then exI (anyMem ((o :: rest).take (cntG ops j (o :: rest) + 1))) st fun st => seqP P ops f [] ((o :: rest).take (cntG ops j (o :: rest) + 1)) st fun st => linP P ops f ((o :: rest).drop (cntG ops j (o :: rest) + 1)) st K
        else ((t = true → linP P ops f (o :: rest) (st.put (some d) (.bl true)) K) ∧ (t = false → linP P ops f (o :: rest) (st.put (some d) (.bl false)) K))
      | _ => False)
section
variable {P : Program} {ops : List Oper} {Q : Exit → Act → World → Prop}
theorem step1_ok {st : St} {o : Oper} {rest : List Oper} {K : St → Prop} {β : Nat → Nat} {a : Act} {w : World} (h : step1 P st o K) (hR : Rep β st a w) (hw : Region.wanted o (yielded ops.toArray a.tmps) = true)
    (hK : ∀ β' st' a' w', K st' → Ext st st' → Rep β' st' a' w' → wpList P ops.toArray Q rest a' w') : wpList P ops.toArray Q (o :: rest) a w := by
  unfold step1 at h
  rcases bif2 h with ⟨_, h⟩ | ⟨_, h⟩
  · obtain ⟨s, h1, h2, h3, h4, h5⟩ := exI_ok h hR
    obtain ⟨v, hv, hy⟩ := pur_ok h1
    exact st_val _ hw (hy trivial β a w h3 _ _ _ _ _ w fun _ => rfl) rfl (hK β _ _ w hv (h2.trans (Ext.put _ _ _)) (h3.put o.dst v))
  · refine st_one hw (Oper.wp_mono ?_ (loud_ok (E := fun _ _ => True) (fun _ _ _ h => ⟨h, trivial⟩) (fun _ _ _ => trivial) (fun _ _ _ _ _ _ h _ _ => ⟨h, trivial⟩) h hR))
    rintro a' w' ⟨β', st', k1, k2, _, k4⟩
    exact hK β' st' a' w' k1 k2 k4
theorem linP_ok : ∀ {f : Nat} {l : List Oper} {st : St} {K : St → Prop}, linP P ops f l st K → ∀ {β : Nat → Nat} {a : Act} {w : World}, Rep β st a w →
    (∀ β' st' a' w', K st' → Ext st st' → Rep β' st' a' w' → Q .normal a' w') → wpList P ops.toArray Q l a w
  | 0, _, _, _, h, _, _, _, _, _ => h.elim
  | _ + 1, [], st, K, h, β, a, w, hR, hK => hK β st a w h (Ext.refl _) hR
  | f + 1, o :: rest, st, K, h, β, a, w, hR, hK => by
    have no : linP P ops f rest (st.put o.dst .un) K → Region.wanted o (yielded ops.toArray a.tmps) = false → wpList P ops.toArray Q (o :: rest) a w := fun h hw =>
      st_no hw rfl (linP_ok h (hR.put o.dst .un) fun β' st' a' w' k1 k2 k3 => hK β' st' a' w' k1 ((Ext.put _ _ _).trans k2) k3)
    have yes : (step1 P st o fun st => linP P ops f rest st K) → Region.wanted o (yielded ops.toArray a.tmps) = true → wpList P ops.toArray Q (o :: rest) a w := fun h hw =>
      step1_ok h hR hw fun β' st' a' w' k1 k2 k3 => linP_ok k1 k3 fun β2 st2 a2 w2 m1 m2 m3 => hK β2 st2 a2 w2 m1 (k2.trans m2) m3
    unfold linP at h
    split at h
    · rename_i hg
      exact yes h (wn hg)
    · rename_i j want hg
      split at h
      · rename_i d ht
        exact no h (wanted_un hR hg ht)
      · rename_i d b ht
        have hw := wanted_bl hR hg ht (b := b) rfl
        rcases bif2 h with ⟨e, h⟩ | ⟨e, h⟩
        · exact yes h (hw.trans e)
        · exact no h (hw.trans e)
      · rename_i d t ht
        obtain ⟨oj, hj1, hj2, hj3⟩ := tst_ok ht
        rcases bif2 h with ⟨_, h⟩ | ⟨_, h⟩
        · generalize cntG ops j (o :: rest) + 1 = m at h
          obtain ⟨s, h1, h2, h3, h4, h5⟩ := exI_ok h hR
          obtain ⟨s2, k1, k2, k3, k4⟩ := seqP_ok h1
          obtain ⟨a', g1, g2⟩ := k4 trivial β a w h3
          have := goes_wp (Q := Q) (rest := (o :: rest).drop m) g1 (linP_ok k1 g2 fun β2 st2 a2 w2 m1 m2 m3 => hK β2 st2 a2 w2 m1 ((h2.trans k2).trans m2) m3)
          rwa [List.take_append_drop] at this
        · cases t with
          | true => exact linP_ok (h.1 rfl) (hR.set hj3 rfl) fun β' st' a' w' k1 k2 k3 => hK β' st' a' w' k1 ((Ext.put _ _ _).trans k2) k3
          | false => exact linP_ok (h.2 rfl) (hR.set hj3 rfl) fun β' st' a' w' k1 k2 k3 => hK β' st' a' w' k1 ((Ext.put _ _ _).trans k2) k3
      · exact h.elim
end

/-! ### typed predicates -/
def JT : List Lf → Type
  | [] => World → Prop
  | l :: r => l.T → JT r
def allJ : (ls : List Lf) → JT ls → (List SV → World → Prop) → Prop
  | [], J, K => ∀ w : World, J w → K [] w
  | l :: r, J, K => ∀ x : l.T, allJ r (J x) fun vs w => K (l.sv x :: vs) w
def unI (k : IntKind) (s : SV) : Option Int := match oint s with
  | some (k', n) => bif decide (k' = k) then some n else none
  | none => none
def unP (bl : Nat → Nat) (s : SV) : Option (Option Addr) := match s with
  | .box i o => some (some ⟨bl i, o, none⟩)
  | s => opn s
def unM (s : SV) : Option (Option Nat) := match s with
  | .map m => some m
  | _ => none
def unR (bl : Nat → Nat) (s : SV) : Option OV := match s with
  | .raw v => some v
  | .fn f fs cs => some ⟨.func (.func f) (cvs bl fs).toArray (cvs bl cs).toArray, rfl⟩
  | _ => none
def un (bl : Nat → Nat) : (l : Lf) → SV → Option l.T
  | .int k => unI k
  | .bool => obool
  | .str => ostr
  | .ptr => unP bl
  | .sl => osl
  | .map => unM
  | .raw => unR bl
theorem un_ok {bl : Nat → Nat} {l : Lf} {s : SV} {x : l.T} (h : un bl l s = some x) (β : Nat → Nat) : val β (l.sv x) = val bl s := by
  cases l with
  | int k =>
    have h : unI k s = some x := h
    unfold unI at h
    split at h
    · rename_i k' n ho
      obtain ⟨e, rfl⟩ := bifO h
      have e := of_decide_eq_true e
      subst e
      rw [oint_val ho]; rfl
    · cases h
  | bool => rw [obool_val h]; rfl
  | str => rw [ostr_val h]; rfl
  | ptr =>
    have h : unP bl s = some x := h
    unfold unP at h
    split at h
    · injection h with h
      subst h; rfl
    · rw [opn_val h]; rfl
  | sl => rw [osl_val h]; rfl
  | map =>
    have h : unM s = some x := h
    unfold unM at h
    split at h
    · injection h with h
      subst h; rfl
    · cases h
  | raw =>
    have h : unR bl s = some x := h
    unfold unR at h
    split at h
    · injection h with h
      subst h; rfl
    · injection h with h
      subst h; rfl
    · cases h
def apJ : (ls : List Lf) → (Nat → Nat) → JT ls → List SV → World → Prop
  | [], _, J, [], w => J w
  | l :: r, bl, J, s :: ss, w => (match un bl l s with
    | some x => apJ r bl (J x) ss w
    | none => False)
  | _, _, _, _, _ => False
theorem apJ_ok {bl : Nat → Nat} {w : World} : ∀ {ls : List Lf} {J : JT ls} {ss : List SV} {K : List SV → World → Prop}, apJ ls bl J ss w → allJ ls J K → ∃ vs, K vs w ∧ vs.length = ls.length ∧ (∀ β, vals β vs = vals bl ss) ∧ ∀ g, clns g vs = true
  | [], J, [], K, h, k => ⟨[], k w h, rfl, fun _ => rfl, fun _ => rfl⟩
  | l :: r, J, s :: ss, K, h, k => by
    unfold apJ at h
    split at h
    · rename_i x hx
      obtain ⟨vs, h1, h2, h3, h4⟩ := apJ_ok h (k x)
      refine ⟨_, h1, by simp [h2], fun β => ?_, fun g => by simp only [clns, Lf.cln, h4 g, Bool.and_true]⟩
      have := h3 β
      simp only [vals, List.map_cons] at this ⊢
      rw [this, un_ok hx]
    · exact h.elim
  | [], _, _ :: _, _, h, _ => h.elim
  | _ :: _, _, [], _, h, _ => h.elim

/-! ### where ways meet -/
inductive MI where
  | s (slot : Nat) (l : Lf)
  | a (slot : Nat) (ls : List Lf)
  | b (slot : Nat) (ls : List Lf)
def mLs : List MI → List Lf
  | [] => []
  | .s _ l :: r => l :: mLs r
  | .a _ ls :: r => ls ++ mLs r
  | .b _ ls :: r => ls ++ mLs r
def bxi (st : St) (i : Nat) : Option Nat := match st.get i with
  | some (.box j _) => some j
  | _ => none
def atoms (st s : St) : List MI → Option (List SV)
  | [] => some []
  | .s i _ :: r => (match s.get i, atoms st s r with
    | some v, some l => some (v :: l)
    | _, _ => none)
  | .a i ls :: r => (match s.get i, atoms st s r with
    | some (.agg l), some m => bif isL l && Nat.beq (toL l).length ls.length then some (toL l ++ m) else none
    | _, _ => none)
  | .b i ls :: r => (match bxi st i with
    | some j => (match nthB s.bx j, atoms st s r with
      | some b, some m => bif Nat.beq b.cells.length ls.length then some (b.cells ++ m) else none
      | _, _ => none)
    | none => none)
def mFr (ct : Nat) : List MI → List SV → List (Nat × Nat × SV)
  | .s i _ :: r, v :: vs => (i, ct, v) :: mFr ct r vs
  | .a i ls :: r, vs => (i, ct, .agg (ofL (vs.take ls.length))) :: mFr ct r (vs.drop ls.length)
  | .b _ ls :: r, vs => mFr ct r (vs.drop ls.length)
  | _, _ => []
def mBx (st : St) : List MI → List SV → List Box → List Box
  | .s _ _ :: r, _ :: vs, bx => mBx st r vs bx
  | .a _ ls :: r, vs, bx => mBx st r (vs.drop ls.length) bx
  | .b i ls :: r, vs, bx => (match bxi st i with
    | some j => (match nthB bx j with
      | some b => mBx st r (vs.drop ls.length) (setB bx j { b with cells := vs.take ls.length, stp := st.ct })
      | none => mBx st r (vs.drop ls.length) bx)
    | none => mBx st r (vs.drop ls.length) bx)
  | _, _, bx => bx
def mSl : List MI → List Nat
  | [] => []
  | .s i _ :: r => i :: mSl r
  | .a i _ :: r => i :: mSl r
  | .b _ _ :: r => mSl r
def mBs (st : St) : List MI → List Nat
  | [] => []
  | .b i _ :: r => (match bxi st i with
    | some j => j :: mBs st r
    | none => mBs st r)
  | _ :: r => mBs st r
def kFr (fr : List (Nat × Nat × SV)) : List Nat → List (Nat × Nat × SV)
  | [] => []
  | i :: r => match lookS fr i with
    | some p => (i, p) :: kFr fr r
    | none => kFr fr r
def meetSt (st : St) (kp : List Nat) (ms : List MI) (vs : List SV) (w : World) : St :=
  { n := st.n, fr := mFr st.ct ms vs ++ kFr st.fr kp, bx := mBx st ms vs st.bx, w0 := w, mv := false, dt := [], ct := st.ct + 1, df := st.df }
/-- slots that were kept, by their stamps -/
def kpOk (st s : St) (sl : List Nat) : List Nat → Bool
  | [] => true
  | i :: r => (match lookS st.fr i with
    | some (k, v) => (match lookS s.fr i with
      | some (k', _) => Nat.beq k k' && Nat.blt k st.ct && !sl.elem i && cln (clB st.bx) v
      | none => false)
    | none => true) && kpOk st s sl r
def bxOk (st : St) (lst : List Nat) : Nat → List Box → List Box → Bool
  | _, [], _ => true
  | i, b :: r, c :: q => (!b.ok || (b.blk.isSome && (lst.elem i || (Nat.blt c.stp st.ct && clns (clB st.bx) b.cells)))) && bxOk st lst (i + 1) r q
  | _, _ :: _, [] => false
def endJ (st : St) (kp : List Nat) (ms : List MI) (J : JT (mLs ms)) (s : St) : Prop :=
  bif kpOk st s (mSl ms) kp && bxOk st (mBs st ms) 0 st.bx s.bx && Nat.beq s.df.length st.df.length then
    elimO (atoms st s ms) fun vs => bif clns (clB s.bx) vs then apJ (mLs ms) (blB s.bx) J vs s.w0 else False
  else False
end Go.Kt.V
