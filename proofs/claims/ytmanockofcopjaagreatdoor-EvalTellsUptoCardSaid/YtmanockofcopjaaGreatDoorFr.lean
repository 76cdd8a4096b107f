/-
  Own work: frames by what is known of them: 'fr n us l': n slots, those of l known, the others 'us'. One law for each kind of operation at such a frame. No program in sight.
-/
import Derived.Test.YtmanockofcopjaaGreatDoorBase
import Derived.KernelRfl
namespace Go.Kt
open Go Go.RowKit
set_option linter.unusedSimpArgs false
set_option linter.unusedVariables false

def look (us : Nat → Value) : List (Nat × Value) → Nat → Value
  | [], i => us i
  | (k, v) :: r, i => bif Nat.beq k i then v else look us r i
def lookO : List (Nat × Value) → Nat → Option Value
  | [], _ => none
  | (k, v) :: r, i => bif Nat.beq k i then some v else lookO r i
def tab (us : Nat → Value) (l : List (Nat × Value)) : Nat → Nat → List Value
  | 0, _ => []
  | n + 1, i => look us l i :: tab us l n (i + 1)
def fr (n : Nat) (us : Nat → Value) (l : List (Nat × Value)) : Act := ⟨(tab us l n 0).toArray, []⟩
def evO (n : Nat) (l : List (Nat × Value)) : Operand → Option Value
  | .tmp k => bif Nat.blt k n then lookO l k else none
  | .const v => some v
  | .global g => some (.pointer (some ⟨g, 0, none⟩))
  | .func f => some (.func (.func f) #[] #[])
def evOs (n : Nat) (l : List (Nat × Value)) : List Operand → Option (List Value)
  | [] => some []
  | x :: r => match evO n l x, evOs n l r with
    | some v, some vs => some (v :: vs)
    | _, _ => none
def evPs (n : Nat) (l : List (Nat × Value)) : List (Nat × Operand) → Option (List (Nat × Value))
  | [] => some []
  | (i, x) :: r => match evO n l x, evPs n l r with
    | some v, some vs => some ((i, v) :: vs)
    | _, _ => none
def pl : Option Tmp → Value → List (Nat × Value) → List (Nat × Value)
  | some k, v, l => (k, v) :: l
  | none, _, l => l
def numb : Nat → List Value → List (Nat × Value)
  | _, [] => []
  | i, v :: r => (i, v) :: numb (i + 1) r
/-- all that pat knows is so -/
def subF (l : List (Nat × Value)) : List (Nat × Value) → Prop
  | [] => True
  | (k, v) :: r => lookO l k = some v ∧ subF l r

section
variable {n0 : Nat} {us0 : Nat → Value} {l0 : List (Nat × Value)}
theorem tab_len (us : Nat → Value) (l : List (Nat × Value)) : ∀ n i, (tab us l n i).length = n
  | 0, _ => rfl
  | n + 1, i => by simp only [tab, List.length_cons, tab_len us l n (i + 1)]
theorem tab_get (us : Nat → Value) (l : List (Nat × Value)) : ∀ n i k, k < n → (tab us l n i)[k]? = some (look us l (i + k))
  | 0, _, _, h => by omega
  | n + 1, i, 0, _ => rfl
  | n + 1, i, k + 1, h => by
    simp only [tab, List.getElem?_cons_succ]
    rw [tab_get us l n (i + 1) k (by omega), show i + 1 + k = i + (k + 1) by omega]
theorem look_of {us : Nat → Value} : ∀ {l : List (Nat × Value)} {k : Nat} {v : Value}, lookO l k = some v → look us l k = v
  | [], _, _, h => by cases h
  | (j, u) :: r, k, v, h => by
    simp only [lookO, look] at h ⊢
    cases hb : Nat.beq j k with
    | true => rw [hb] at h; simpa using h
    | false => rw [hb] at h; exact look_of (l := r) (by simpa using h)
theorem look_no {us : Nat → Value} : ∀ {l : List (Nat × Value)} {k : Nat}, lookO l k = none → look us l k = us k
  | [], _, _ => rfl
  | (j, u) :: r, k, h => by
    simp only [lookO, look] at h ⊢
    cases hb : Nat.beq j k with
    | true => rw [hb] at h; simp at h
    | false => rw [hb] at h; exact look_no (l := r) (by simpa using h)
theorem ev_tmp {k : Nat} (hk : k < n0) : (fr n0 us0 l0).eval (.tmp k) = look us0 l0 k := by
  show (tab us0 l0 n0 0).toArray.getD k undef = _
  rw [Array.getD_eq_getD_getElem?, List.getElem?_toArray, tab_get _ _ _ _ _ hk, Nat.zero_add]
  rfl
theorem evE {x : Operand} {v : Value} (h : evO n0 l0 x = some v) : (fr n0 us0 l0).eval x = v := by
  cases x with
  | tmp k =>
    simp only [evO] at h
    cases hb : Nat.blt k n0 with
    | false => rw [hb] at h; cases h
    | true =>
      rw [hb] at h
      rw [ev_tmp (Nat.le_of_ble_eq_true hb)]
      exact look_of h
  | const u => simpa [evO, Act.eval] using h
  | global g => simpa [evO, Act.eval] using h
  | func f => simpa [evO, Act.eval] using h
theorem evC {x : Operand} {vs : Array Value} (h : (evO n0 l0 x).map Value.cells = some vs) : ((fr n0 us0 l0).eval x).cells = vs := by
  cases hx : evO n0 l0 x with
  | none => rw [hx] at h; cases h
  | some v => rw [hx] at h; rw [evE hx]; simpa using h
theorem evEs : ∀ {xs : List Operand} {vs : List Value}, evOs n0 l0 xs = some vs → xs.map (fr n0 us0 l0).eval = vs
  | [], vs, h => by simp only [evOs, Option.some.injEq] at h; subst h; rfl
  | x :: r, vs, h => by
    simp only [evOs] at h
    split at h
    · rename_i v us hx hr
      simp only [Option.some.injEq] at h
      subst h
      rw [List.map_cons, evE hx, evEs hr]
    · cases h
theorem evEp : ∀ {ps : List (Nat × Operand)} {vs : List (Nat × Value)}, evPs n0 l0 ps = some vs → (ps.map fun q => (q.1, (fr n0 us0 l0).eval q.2)) = vs
  | [], vs, h => by simp only [evPs, Option.some.injEq] at h; subst h; rfl
  | (i, x) :: r, vs, h => by
    simp only [evPs] at h
    split at h
    · rename_i v us hx hr
      simp only [Option.some.injEq] at h
      subst h
      rw [List.map_cons, evEp hr]
      simp only [evE hx]
    · cases h
theorem evEa {xs : List Operand} {first captured args : List Value} (h : (evOs n0 l0 xs).map (fun ys => first ++ ys ++ captured) = some args) : first ++ xs.map (fr n0 us0 l0).eval ++ captured = args := by
  cases hx : evOs n0 l0 xs with
  | none => rw [hx] at h; cases h
  | some v => rw [hx] at h; rw [evEs hx]; simpa using h
theorem look_cons_ne {us : Nat → Value} {l : List (Nat × Value)} {k i : Nat} {v : Value} (h : k ≠ i) : look us ((k, v) :: l) i = look us l i := by
  have : Nat.beq k i = false := by
    cases hb : Nat.beq k i with
    | false => rfl
    | true => exact absurd (Nat.eq_of_beq_eq_true hb) h
  simp only [look, this, cond_false]
theorem look_cons_eq {us : Nat → Value} {l : List (Nat × Value)} {k : Nat} {v : Value} : look us ((k, v) :: l) k = v := by
  simp only [look, Nat.beq_refl, cond_true]
theorem putF {k : Nat} {v : Value} : (fr n0 us0 l0).put (some k) v = fr n0 us0 ((k, v) :: l0) := by
  unfold fr
  rw [f0]
  congr 2
  apply List.ext_getElem?
  intro i
  rw [List.getElem?_set, tab_len]
  by_cases hi : i < n0
  · rw [tab_get _ _ _ _ _ hi, tab_get _ _ _ _ _ hi, Nat.zero_add]
    split
    · rename_i h
      subst h
      rw [if_pos hi, look_cons_eq]
    · rename_i h
      rw [look_cons_ne h]
  · rw [List.getElem?_eq_none (by rw [tab_len]; omega), List.getElem?_eq_none (by rw [tab_len]; omega)]
    split
    · rename_i h
      subst h
      rw [if_neg hi]
    · rfl
theorem putP {d : Option Tmp} {v : Value} : (fr n0 us0 l0).put d v = fr n0 us0 (pl d v l0) := by
  cases d with
  | none => rfl
  | some k => exact putF
theorem subF_at : ∀ {l pat : List (Nat × Value)}, subF l pat → ∀ {k : Nat} {v : Value}, lookO pat k = some v → lookO l k = some v
  | _, [], _, _, _, h => by cases h
  | l, (j, u) :: r, hs, k, v, h => by
    simp only [lookO] at h
    cases hb : Nat.beq j k with
    | true =>
      rw [hb] at h
      have hk := Nat.eq_of_beq_eq_true hb
      subst hk
      simp only [cond_true, Option.some.injEq] at h
      rw [← h]
      exact hs.1
    | false =>
      rw [hb] at h
      exact subF_at hs.2 (by simpa using h)
theorem fr_sub {pat : List (Nat × Value)} (h : subF l0 pat) : ∃ us, fr n0 us0 l0 = fr n0 us pat := by
  refine ⟨look us0 l0, ?_⟩
  unfold fr
  congr 2
  apply List.ext_getElem?
  intro i
  by_cases hi : i < n0
  · rw [tab_get _ _ _ _ _ hi, tab_get _ _ _ _ _ hi, Nat.zero_add]
    cases hp : lookO pat i with
    | none => rw [look_no hp]
    | some v => rw [look_of hp, look_of (subF_at h hp)]
  · rw [List.getElem?_eq_none (by rw [tab_len]; omega), List.getElem?_eq_none (by rw [tab_len]; omega)]
theorem look_numb : ∀ (args : List Value) (j i : Nat), look (fun _ => undef) (numb j args) i = if j ≤ i then (args[i - j]?).getD undef else undef
  | [], j, i => by simp [numb, look]
  | v :: r, j, i => by
    simp only [numb]
    by_cases hij : j = i
    · subst hij
      rw [look_cons_eq, if_pos (Nat.le_refl _)]
      simp
    · rw [look_cons_ne hij, look_numb r (j + 1) i]
      by_cases hle : j ≤ i
      · rw [if_pos hle, if_pos (by omega), show i - j = (i - (j + 1)) + 1 by omega, List.getElem?_cons_succ]
      · rw [if_neg hle, if_neg (by omega)]
end

section
variable {P : Program} {ops : Array Oper} {Q : Exit → Act → World → Prop} {rest : List Oper} {w w' : World} {n0 : Nat} {us0 : Nat → Value} {l0 : List (Nat × Value)}
theorem callsF {f : FuncId} {fn : Func} {c : Code} {args : List Value} {l : List (Nat × Value)} {n : Nat} {R : Value → World → Prop} (hf : P.funcs[f]? = some fn) (hb : fn.body = some c) (hn : fn.ntmps = n) (hk : args.length ≤ n)
    (hl : numb 0 args = l)
    (h : c.wp P (bodyPost P fn fun e w' => ∃ v, e = .returned v ∧ R v w') (fr n (fun _ => undef) l) w) : Calls P f args.toArray w fun e w' => ∃ v, e = .returned v ∧ R v w' := by
  subst hl
  refine calls_of (k := n - args.length) hf hb hn (by omega) rfl ?_
  have e : (⟨(args ++ List.replicate (n - args.length) undef).toArray, []⟩ : Act) = fr n (fun _ => undef) (numb 0 args) := by
    unfold fr
    congr 2
    apply List.ext_getElem?
    intro i
    by_cases hi : i < n
    · rw [tab_get _ _ _ _ _ hi, Nat.zero_add, look_numb, if_pos (Nat.zero_le _), Nat.sub_zero]
      by_cases hia : i < args.length
      · rw [List.getElem?_append_left hia, List.getElem?_eq_getElem hia]; rfl
      · rw [List.getElem?_append_right (by omega), List.getElem?_replicate, if_pos (by omega), List.getElem?_eq_none (by omega)]; rfl
    · rw [List.getElem?_eq_none (by simp; omega), List.getElem?_eq_none (by rw [tab_len]; omega)]
  rw [e]
  exact h

/-! ### guards -/
def asB : Value → Option Bool
  | .bool b => some b
  | _ => none
theorem yieldedF {opsl : List Oper} {j d : Nat} {oj : Oper} {v : Value} (h2 : nthO opsl j = some oj) (h3 : oj.dst = some d) (h4 : evO n0 l0 (.tmp d) = some v) :
    yielded opsl.toArray (fr n0 us0 l0).tmps j = asB v := by
  rw [nthO_eq] at h2
  have hd : d < n0 := by
    simp only [evO] at h4
    cases hb : Nat.blt d n0 with
    | false => rw [hb] at h4; cases h4
    | true => exact Nat.le_of_ble_eq_true hb
  have h5 := evE (us0 := us0) h4
  rw [ev_tmp hd] at h5
  have : (fr n0 us0 l0).tmps[d]? = some v := by
    show (tab us0 l0 n0 0).toArray[d]? = _
    rw [List.getElem?_toArray, tab_get _ _ _ _ _ hd, Nat.zero_add, h5]
  simp only [yielded, List.getElem?_toArray, h2, Option.bind_some, h3, this]
  cases v <;> rfl
theorem wtF {o oj : Oper} {opsl : List Oper} {j d : Nat} {want b r : Bool} (h1 : o.guard = some (j, want)) (h2 : nthO opsl j = some oj) (h3 : oj.dst = some d)
    (h4 : evO n0 l0 (.tmp d) = some (.bool b)) (h5 : (b == want) = r) : Region.wanted o (yielded opsl.toArray (fr n0 us0 l0).tmps) = r := by
  subst h5
  have e := yieldedF (us0 := us0) h2 h3 h4
  simp only [Region.wanted, h1, e, asB]
  cases b <;> cases want <;> rfl
theorem wuF {o oj : Oper} {opsl : List Oper} {j d : Nat} {want : Bool} (h1 : o.guard = some (j, want)) (h2 : nthO opsl j = some oj) (h3 : oj.dst = some d)
    (h4 : evO n0 l0 (.tmp d) = some undef) : Region.wanted o (yielded opsl.toArray (fr n0 us0 l0).tmps) = false := by
  have e := yieldedF (us0 := us0) h2 h3 h4
  simp [Region.wanted, h1, e, undef, asB]
theorem pg {x y : Option Addr} (h : x = y) : some (Value.pointer x) = some (.pointer y) := by rw [h]
theorem ig {k : IntKind} {x y : Int} (h : x = y) : some (Value.int k x) = some (.int k y) := by rw [h]
theorem ag {x y : Addr} (h : x = y) : some (Value.pointer (some x)) = some (.pointer (some y)) := by rw [h]
theorem bg {x y : Bool} (h : x = y) : some (Value.bool x) = some (.bool y) := by rw [h]

/-! ### one operation -/
theorem sv {k : Tmp} {op : Op} {t' : TypeId} {p : String} {af : Array Edge} {v : Value} (hr : (execOp (fr n0 us0 l0).eval ⟨some k, op, t', p, af, none⟩).run P w = .ok (.value v) w)
    (h : wpList P ops Q rest (fr n0 us0 ((k, v) :: l0)) w) : wpList P ops Q (⟨some k, op, t', p, af, none⟩ :: rest) (fr n0 us0 l0) w := st_val v (wn rfl) hr putF h
theorem sn {op : Op} {t' : TypeId} {p : String} {af : Array Edge} {v : Value} (hr : (execOp (fr n0 us0 l0).eval ⟨none, op, t', p, af, none⟩).run P w = .ok (.value v) w)
    (h : wpList P ops Q rest (fr n0 us0 l0) w) : wpList P ops Q (⟨none, op, t', p, af, none⟩ :: rest) (fr n0 us0 l0) w := st_val v (wn rfl) hr (f3 _ _) h
theorem svg {d : Option Tmp} {op : Op} {t' : TypeId} {p : String} {af : Array Edge} {g : Option (Nat × Bool)} {v : Value} (hg : Region.wanted ⟨d, op, t', p, af, g⟩ (yielded ops (fr n0 us0 l0).tmps) = true) (hr : (execOp (fr n0 us0 l0).eval ⟨d, op, t', p, af, g⟩).run P w = .ok (.value v) w)
    (h : wpList P ops Q rest (fr n0 us0 (pl d v l0)) w) : wpList P ops Q (⟨d, op, t', p, af, g⟩ :: rest) (fr n0 us0 l0) w := st_val v hg hr putP h
theorem sno {d : Option Tmp} {op : Op} {t' : TypeId} {p : String} {af : Array Edge} {g : Option (Nat × Bool)} (hg : Region.wanted ⟨d, op, t', p, af, g⟩ (yielded ops (fr n0 us0 l0).tmps) = false)
    (h : wpList P ops Q rest (fr n0 us0 (pl d undef l0)) w) : wpList P ops Q (⟨d, op, t', p, af, g⟩ :: rest) (fr n0 us0 l0) w := st_no hg putP h
theorem cutF {a : Act} {l : List Oper} (k : Nat) (n : Nat) (pat : List (Nat × Value)) (h1 : wpList P ops (Exit.then (fun a' w' => (∃ us, a' = fr n us pat) ∧ w = w') Q) (l.take k) a w)
    (h2 : ∀ us, wpList P ops Q (l.drop k) (fr n us pat) w) : wpList P ops Q l a w :=
  st_cut k _ h1 (by rintro _ _ ⟨⟨us, rfl⟩, rfl⟩; exact h2 us)
theorem cutEnd {pat : List (Nat × Value)} (h : subF l0 pat) : Exit.then (fun a' w' => (∃ us, a' = fr n0 us pat) ∧ w = w') Q .normal (fr n0 us0 l0) w := ⟨fr_sub h, rfl⟩

/-! ### in a region that draws and only reads -/
section
variable {Q : Act → Prop}
theorem qv {d : Option Tmp} {op : Op} {t' : TypeId} {p : String} {af : Array Edge} {g : Option (Nat × Bool)} {v : Value} (hg : Region.wanted ⟨d, op, t', p, af, g⟩ (yielded ops (fr n0 us0 l0).tmps) = true)
    (hr : ∀ nd, (execOp (fr n0 us0 l0).eval ⟨d, op, t', p, af, g⟩).run P (w.drewN nd) = .ok (.value v) (w.drewN nd))
    (h : wpQuiet P ops (fun w' => ∃ n, w' = w.drewN n) Q rest (fr n0 us0 (pl d v l0))) : wpQuiet P ops (fun w' => ∃ n, w' = w.drewN n) Q (⟨d, op, t', p, af, g⟩ :: rest) (fr n0 us0 l0) :=
  q_val v hg (by rintro _ ⟨nd, rfl⟩; exact hr nd) putP h
theorem qno {d : Option Tmp} {op : Op} {t' : TypeId} {p : String} {af : Array Edge} {g : Option (Nat × Bool)} (hg : Region.wanted ⟨d, op, t', p, af, g⟩ (yielded ops (fr n0 us0 l0).tmps) = false)
    (h : wpQuiet P ops (fun w' => ∃ n, w' = w.drewN n) Q rest (fr n0 us0 (pl d undef l0))) : wpQuiet P ops (fun w' => ∃ n, w' = w.drewN n) Q (⟨d, op, t', p, af, g⟩ :: rest) (fr n0 us0 l0) := q_no hg putP h
theorem qcutF {C : World → Prop} {a : Act} {l : List Oper} (k : Nat) (n : Nat) (pat : List (Nat × Value)) (h1 : wpQuiet P ops C (fun a' => ∃ us, a' = fr n us pat) (l.take k) a)
    (h2 : ∀ us, wpQuiet P ops C Q (l.drop k) (fr n us pat)) : wpQuiet P ops C Q l a := q_cut k _ h1 (by rintro _ ⟨us, rfl⟩; exact h2 us)
end

/-! ### operations that turn the world -/
section
variable {K : Act → World → Prop}
theorem O_val {d : Option Tmp} {op : Op} {t' : TypeId} {p : String} {af : Array Edge} {g : Option (Nat × Bool)} {v : Value} (hr : (execOp (fr n0 us0 l0).eval ⟨d, op, t', p, af, g⟩).run P w = .ok (.value v) w') (h : K (fr n0 us0 (pl d v l0)) w') :
    Oper.wp P ⟨d, op, t', p, af, g⟩ (fr n0 us0 l0) w K Q := o_val v hr putP h
theorem O_skip {d : Option Tmp} {op : Op} {t' : TypeId} {p : String} {af : Array Edge} {g : Option (Nat × Bool)} (hr : (execOp (fr n0 us0 l0).eval ⟨d, op, t', p, af, g⟩).run P w = .ok .skip w') (h : K (fr n0 us0 (pl d undef l0)) w') :
    Oper.wp P ⟨d, op, t', p, af, g⟩ (fr n0 us0 l0) w K Q := o_skip hr putP h
theorem O_enter {d : Option Tmp} {op : Op} {t' : TypeId} {p : String} {af : Array Edge} {g : Option (Nat × Bool)} {f : FuncId} {args : Array Value} (hr : (execOp (fr n0 us0 l0).eval ⟨d, op, t', p, af, g⟩).run P w = .ok (.enter f args) w)
    (h : Calls P f args w fun e w' => ∃ v, e = .returned v ∧ K (fr n0 us0 (pl d v l0)) w') : Oper.wp P ⟨d, op, t', p, af, g⟩ (fr n0 us0 l0) w K Q :=
  o_enter hr (h.mono (by rintro e w' ⟨v, h1, h2⟩; exact ⟨v, _, h1, putP, h2⟩))
theorem O_store {ty : TypeId} {x y : Operand} {t' : TypeId} {p : String} {af : Array Edge} {g : Option (Nat × Bool)} {b o : Nat} {cs vs cs' : List Value} {et : TypeId} {n : Nat}
    (hsz : (sizeOf ty).run P w = .ok n w) (hx : evO n0 l0 x = some (.pointer (some ⟨b, o, none⟩))) (hv : (evO n0 l0 y).map Value.cells = some vs.toArray) (hn : vs.length = n)
    (h1 : vs.all Value.oneCell' = true) (hb : Blk w b et cs) (hfit : o + vs.length ≤ cs.length) (hcs : splice cs o vs = cs')
    (h : ∀ w1, Only [b] w w1 → Blk w1 b et cs' → K (fr n0 us0 l0) w1) : Oper.wp P ⟨none, .store ty x y, t', p, af, g⟩ (fr n0 us0 l0) w K Q :=
  o_storeB hsz (evE hx) (evC hv) hn h1 hb hfit hcs (f3 _ _) h
theorem O_alloc {k : Tmp} {ty : TypeId} {t' : TypeId} {p : String} {af : Array Edge} {g : Option (Nat × Bool)} {z : Value} {zs : List Value}
    (hz : (zeroValue ty).run P w = .ok z w) (hc : z.cells = zs.toArray)
    (h : ∀ b w1, w.heap.size ≤ b → Only [] w w1 → Blk w1 b ty zs → K (fr n0 us0 ((k, .pointer (some ⟨b, 0, none⟩)) :: l0)) w1) : Oper.wp P ⟨some k, .alloc ty, t', p, af, g⟩ (fr n0 us0 l0) w K Q :=
  o_allocB hz hc (fun _ => putF) h
theorem O_box {k : Tmp} {ty : TypeId} {x : Operand} {t' : TypeId} {p : String} {af : Array Edge} {g : Option (Nat × Bool)} {zs : List Value}
    (hc : (evO n0 l0 x).map Value.cells = some zs.toArray)
    (h : ∀ b w1, w.heap.size ≤ b → Only [] w w1 → Blk w1 b ty zs → K (fr n0 us0 ((k, .pointer (some ⟨b, 0, none⟩)) :: l0)) w1) : Oper.wp P ⟨some k, .box ty x, t', p, af, g⟩ (fr n0 us0 l0) w K Q :=
  o_boxB (evC hc) (fun _ => putF) h
end

/-! ### plain operations -/
section
variable {dst : Option Tmp} {x y : Operand} {t ty t' : TypeId} {p : String} {af : Array Edge} {g : Option (Nat × Bool)} {k : IntKind} {m n : Int} {v : Value}
theorem R_mv (h : evO n0 l0 x = some v) : (execOp (fr n0 us0 l0).eval ⟨dst, .move x, t', p, af, g⟩).run P w = .ok (.value v) w := by
  simp only [execOp, evE h, Sem.run_pure]
theorem R_as (h : evO n0 l0 x = some v) : (execOp (fr n0 us0 l0).eval ⟨dst, .assign x, t', p, af, g⟩).run P w = .ok (.value v) w := by
  simp only [execOp, evE h, Sem.run_pure]
theorem R_add (hx : evO n0 l0 x = some (.int k m)) (hy : evO n0 l0 y = some (.int k n)) : (execOp (fr n0 us0 l0).eval ⟨dst, .binOp .add t x y ty, t', p, af, g⟩).run P w = .ok (.value (.int k (k.wrap (m + n)))) w := by
  simp only [execOp, evE hx, evE hy]; cases k <;> rfl
theorem R_sub (hx : evO n0 l0 x = some (.int k m)) (hy : evO n0 l0 y = some (.int k n)) : (execOp (fr n0 us0 l0).eval ⟨dst, .binOp .sub t x y ty, t', p, af, g⟩).run P w = .ok (.value (.int k (k.wrap (m - n)))) w := by
  simp only [execOp, evE hx, evE hy]; cases k <;> rfl
theorem R_mul (hx : evO n0 l0 x = some (.int k m)) (hy : evO n0 l0 y = some (.int k n)) : (execOp (fr n0 us0 l0).eval ⟨dst, .binOp .mul t x y ty, t', p, af, g⟩).run P w = .ok (.value (.int k (k.wrap (m * n)))) w := by
  simp only [execOp, evE hx, evE hy]; cases k <;> rfl
theorem R_eql (hx : evO n0 l0 x = some (.int k m)) (hy : evO n0 l0 y = some (.int k n)) : (execOp (fr n0 us0 l0).eval ⟨dst, .binOp .eql t x y ty, t', p, af, g⟩).run P w = .ok (.value (.bool (m == n))) w := by
  simp only [execOp, evE hx, evE hy]; cases k <;> rfl
theorem R_neq (hx : evO n0 l0 x = some (.int k m)) (hy : evO n0 l0 y = some (.int k n)) : (execOp (fr n0 us0 l0).eval ⟨dst, .binOp .neq t x y ty, t', p, af, g⟩).run P w = .ok (.value (.bool (m != n))) w := by
  simp only [execOp, evE hx, evE hy]; cases k <;> rfl
theorem R_lss (hx : evO n0 l0 x = some (.int k m)) (hy : evO n0 l0 y = some (.int k n)) : (execOp (fr n0 us0 l0).eval ⟨dst, .binOp .lss t x y ty, t', p, af, g⟩).run P w = .ok (.value (.bool (decide (m < n)))) w := by
  simp only [execOp, evE hx, evE hy]; cases k <;> rfl
theorem R_leq (hx : evO n0 l0 x = some (.int k m)) (hy : evO n0 l0 y = some (.int k n)) : (execOp (fr n0 us0 l0).eval ⟨dst, .binOp .leq t x y ty, t', p, af, g⟩).run P w = .ok (.value (.bool (decide (m ≤ n)))) w := by
  simp only [execOp, evE hx, evE hy]; cases k <;> rfl
theorem R_gtr (hx : evO n0 l0 x = some (.int k m)) (hy : evO n0 l0 y = some (.int k n)) : (execOp (fr n0 us0 l0).eval ⟨dst, .binOp .gtr t x y ty, t', p, af, g⟩).run P w = .ok (.value (.bool (decide (m > n)))) w := by
  simp only [execOp, evE hx, evE hy]; cases k <;> rfl
theorem R_geq (hx : evO n0 l0 x = some (.int k m)) (hy : evO n0 l0 y = some (.int k n)) : (execOp (fr n0 us0 l0).eval ⟨dst, .binOp .geq t x y ty, t', p, af, g⟩).run P w = .ok (.value (.bool (decide (m ≥ n)))) w := by
  simp only [execOp, evE hx, evE hy]; cases k <;> rfl
theorem R_and (hx : evO n0 l0 x = some (.int k m)) (hy : evO n0 l0 y = some (.int k n)) : (execOp (fr n0 us0 l0).eval ⟨dst, .binOp .and t x y ty, t', p, af, g⟩).run P w = .ok (.value (.int k (bits .and k m n))) w := by
  simp only [execOp, evE hx, evE hy]; cases k <;> rfl
theorem R_or (hx : evO n0 l0 x = some (.int k m)) (hy : evO n0 l0 y = some (.int k n)) : (execOp (fr n0 us0 l0).eval ⟨dst, .binOp .or t x y ty, t', p, af, g⟩).run P w = .ok (.value (.int k (bits .or k m n))) w := by
  simp only [execOp, evE hx, evE hy]; cases k <;> rfl
theorem R_xor (hx : evO n0 l0 x = some (.int k m)) (hy : evO n0 l0 y = some (.int k n)) : (execOp (fr n0 us0 l0).eval ⟨dst, .binOp .xor t x y ty, t', p, af, g⟩).run P w = .ok (.value (.int k (bits .xor k m n))) w := by
  simp only [execOp, evE hx, evE hy]; cases k <;> rfl
theorem R_andNot (hx : evO n0 l0 x = some (.int k m)) (hy : evO n0 l0 y = some (.int k n)) : (execOp (fr n0 us0 l0).eval ⟨dst, .binOp .andNot t x y ty, t', p, af, g⟩).run P w = .ok (.value (.int k (bits .andNot k m n))) w := by
  simp only [execOp, evE hx, evE hy]; cases k <;> rfl
theorem R_seql {s u : ByteArray} (hx : evO n0 l0 x = some (.string s)) (hy : evO n0 l0 y = some (.string u)) : (execOp (fr n0 us0 l0).eval ⟨dst, .binOp .eql t x y ty, t', p, af, g⟩).run P w = .ok (.value (.bool (s.toList == u.toList))) w := by
  simp only [execOp, evE hx, evE hy]; rfl
theorem R_sneq {s u : ByteArray} (hx : evO n0 l0 x = some (.string s)) (hy : evO n0 l0 y = some (.string u)) : (execOp (fr n0 us0 l0).eval ⟨dst, .binOp .neq t x y ty, t', p, af, g⟩).run P w = .ok (.value (.bool (!(s.toList == u.toList)))) w := by
  simp only [execOp, evE hx, evE hy]; rfl
theorem R_slss {s u : ByteArray} (hx : evO n0 l0 x = some (.string s)) (hy : evO n0 l0 y = some (.string u)) : (execOp (fr n0 us0 l0).eval ⟨dst, .binOp .lss t x y ty, t', p, af, g⟩).run P w = .ok (.value (.bool (Op.bytesLess s.toList u.toList))) w := by
  simp only [execOp, evE hx, evE hy]; rfl
theorem R_sgeq {s u : ByteArray} (hx : evO n0 l0 x = some (.string s)) (hy : evO n0 l0 y = some (.string u)) : (execOp (fr n0 us0 l0).eval ⟨dst, .binOp .geq t x y ty, t', p, af, g⟩).run P w = .ok (.value (.bool (!(Op.bytesLess s.toList u.toList)))) w := by
  simp only [execOp, evE hx, evE hy]; rfl
theorem R_sleq {s u : ByteArray} (hx : evO n0 l0 x = some (.string s)) (hy : evO n0 l0 y = some (.string u)) : (execOp (fr n0 us0 l0).eval ⟨dst, .binOp .leq t x y ty, t', p, af, g⟩).run P w = .ok (.value (.bool (Op.bytesLess s.toList u.toList || (s.toList == u.toList)))) w := by
  simp only [execOp, evE hx, evE hy]; rfl
theorem R_sgtr {s u : ByteArray} (hx : evO n0 l0 x = some (.string s)) (hy : evO n0 l0 y = some (.string u)) : (execOp (fr n0 us0 l0).eval ⟨dst, .binOp .gtr t x y ty, t', p, af, g⟩).run P w = .ok (.value (.bool (!(Op.bytesLess s.toList u.toList || (s.toList == u.toList))))) w := by
  simp only [execOp, evE hx, evE hy]; rfl
theorem R_not {b : Bool} (hx : evO n0 l0 x = some (.bool b)) : (execOp (fr n0 us0 l0).eval ⟨dst, .unOp .not t x, t', p, af, g⟩).run P w = .ok (.value (.bool (!b))) w := by
  simp only [execOp, evE hx]; rfl
theorem R_neg (hx : evO n0 l0 x = some (.int k m)) : (execOp (fr n0 us0 l0).eval ⟨dst, .unOp .neg t x, t', p, af, g⟩).run P w = .ok (.value (.int k (k.wrap (0 - m)))) w := by
  simp only [execOp, evE hx]; rfl
theorem R_ext {vs : List Value} {i : Nat} (hx : evO n0 l0 x = some (.tuple vs.toArray)) (hi : nthV vs i = some v) : (execOp (fr n0 us0 l0).eval ⟨dst, .extract x i, t', p, af, g⟩).run P w = .ok (.value v) w := by
  rw [nthV_eq] at hi
  simp only [execOp, evE hx, Instr.extract]
  simp [hi]
theorem R_nilF {cs : Array Value} {f : FuncId} (hx : evO n0 l0 x = some (.func (.func f) #[] cs)) : (execOp (fr n0 us0 l0).eval ⟨dst, .nilCheck x, t', p, af, g⟩).run P w = .ok (.value (.func (.func f) #[] cs)) w := by
  simp only [execOp, evE hx, Sem.run_pure]
end

/-! ### control -/
theorem C_split {c : Operand} {x y : Code} {t : Bool} (h : evO n0 l0 c = some (.bool t)) (ht : t = true → x.wp P Q (fr n0 us0 l0) w) (hf : t = false → y.wp P Q (fr n0 us0 l0) w) : (Code.cond c x y).wp P Q (fr n0 us0 l0) w :=
  wp_cond_split (evE h) ht hf
theorem C_true {c : Operand} {x y : Code} (h : evO n0 l0 c = some (.bool true)) (hx : x.wp P Q (fr n0 us0 l0) w) : (Code.cond c x y).wp P Q (fr n0 us0 l0) w := wp_cond_true (evE h) hx
theorem C_false {c : Operand} {x y : Code} (h : evO n0 l0 c = some (.bool false)) (hy : y.wp P Q (fr n0 us0 l0) w) : (Code.cond c x y).wp P Q (fr n0 us0 l0) w := wp_cond_false (evE h) hy
def resF (P : Program) (n : Nat) (l : List (Nat × Value)) (w : World) : List ResultVar → List Value → Prop
  | [], [] => True
  | .tmp t :: r, v :: vs => evO n l (.tmp t) = some v ∧ resF P n l w r vs
  | .cell p t :: r, v :: vs => (∃ ad, evO n l (.tmp p) = some (.pointer (some ad)) ∧ (loadVar t ad).run P w = .ok v w) ∧ resF P n l w r vs
  | _, _ => False
theorem resF_ok : ∀ {rs : List ResultVar} {vs : List Value}, resF P n0 l0 w rs vs → resOk P (fr n0 us0 l0) w rs vs
  | [], [], _ => trivial
  | [], _ :: _, h => h.elim
  | .tmp t :: r, [], h => h.elim
  | .cell _ _ :: r, [], h => h.elim
  | .tmp t :: r, v :: vs, h => ⟨evE h.1, resF_ok h.2⟩
  | .cell q t :: r, v :: vs, h => by
    obtain ⟨⟨ad, h1, h2⟩, h3⟩ := h
    exact ⟨⟨ad, evE h1, h2⟩, resF_ok h3⟩
theorem ret1 {fn : Func} {rs : List ResultVar} {v : Value} {R : Value → World → Prop} (h : fn.results = rs.toArray) (hr : resF P n0 l0 w rs [v]) (hR : R v w) : bodyPost P fn (fun e w' => ∃ v, e = .returned v ∧ R v w') .ret (fr n0 us0 l0) w := end_ret (r_res1 h (resF_ok hr)) rfl hR
theorem retN {fn : Func} {rs : List ResultVar} {vs : List Value} {R : Value → World → Prop} (h : fn.results = rs.toArray) (hn : (vs.length == 1) = false) (hr : resF P n0 l0 w rs vs) (hR : R (.tuple vs.toArray) w) : bodyPost P fn (fun e w' => ∃ v, e = .returned v ∧ R v w') .ret (fr n0 us0 l0) w := end_ret (r_resN h hn (resF_ok hr)) rfl hR
theorem norm1 {fn : Func} {rs : List ResultVar} {v : Value} {R : Value → World → Prop} (h : fn.results = rs.toArray) (hr : resF P n0 l0 w rs [v]) (hR : R v w) : bodyPost P fn (fun e w' => ∃ v, e = .returned v ∧ R v w') .normal (fr n0 us0 l0) w := end_normal (r_res1 h (resF_ok hr)) rfl hR
theorem normN {fn : Func} {rs : List ResultVar} {vs : List Value} {R : Value → World → Prop} (h : fn.results = rs.toArray) (hn : (vs.length == 1) = false) (hr : resF P n0 l0 w rs vs) (hR : R (.tuple vs.toArray) w) : bodyPost P fn (fun e w' => ∃ v, e = .returned v ∧ R v w') .normal (fr n0 us0 l0) w := end_normal (r_resN h hn (resF_ok hr)) rfl hR

/-! ### a region that draws, loud operations in it -/
section
variable {md : Region.Mode} {E : Nat → World → World → Prop} {F : World → Prop}
theorem eTake (i : Nat) {opsl : List Oper} {d : Option Tmp} {op : Op} {t' : TypeId} {p : String} {af : Array Edge} {g : Option (Nat × Bool)} {fuel : Nat} {listed : Array Bool} (D N : List Nat) (F : World → Prop) {v : Value} (hi : nthO opsl i = some ⟨d, op, t', p, af, g⟩)
    (hb : (Region.noSelect opsl.toArray && Region.free md opsl.toArray listed i && (Region.ready md opsl.toArray listed).contains i && closedB md opsl.toArray listed && descOk md opsl.toArray i [] D && (N.all fun k => listed.getD k true)) = true)
    (hQ : ∀ c a w, Q (.panic c) (Act.put a d v) w → Q (.panic c) a w) (hst : ∀ j w w', j ∉ D → j ∉ N → F w → E j w w' → F w') (hEi : ∀ w, F w → E i w w) (hF : F w)
    (hy : YieldsIf P opsl.toArray F ⟨d, op, t', p, af, g⟩ v (fr n0 us0 l0))
    (h : wpAnyE P md opsl.toArray Q E fuel (listed.setIfInBounds i true) (fr n0 us0 (pl d v l0)) w) : wpAnyE P md opsl.toArray Q E (fuel + 1) listed (fr n0 us0 l0) w := by
  simp only [Bool.and_eq_true] at hb
  obtain ⟨⟨⟨⟨⟨b1, b2⟩, b3⟩, b4⟩, b5⟩, b6⟩ := hb
  exact e_take i D N v F hi b1 b2 b3 b4 b5 b6 hQ hst hEi hF hy putP h
/-- a quiet operation that reads nothing -/
theorem eQ (i : Nat) {opsl : List Oper} {d : Option Tmp} {op : Op} {t' : TypeId} {p : String} {af : Array Edge} {g : Option (Nat × Bool)} {fuel : Nat} {listed : Array Bool} {ls : List (Nat × List Nat)} {v : Value} (hi : nthO opsl i = some ⟨d, op, t', p, af, g⟩)
    (hl : ls.lookup i = none) (hg : Region.wanted ⟨d, op, t', p, af, g⟩ (yielded opsl.toArray (fr n0 us0 l0).tmps) = true)
    (hr : ∀ w, (execOp (fr n0 us0 l0).eval ⟨d, op, t', p, af, g⟩).run P w = .ok (.value v) w)
    (h : wpAnyE P md opsl.toArray Q (EL ls) fuel (listed.setIfInBounds i true) (fr n0 us0 (pl d v l0)) w)
    (hb : (Region.noSelect opsl.toArray && Region.free md opsl.toArray listed i && (Region.ready md opsl.toArray listed).contains i && closedB md opsl.toArray listed && descOk md opsl.toArray i [] [] && (([] : List Nat).all fun k => listed.getD k true)) = true := by kernel_rfl)
    (hQ : ∀ c a w, Q (.panic c) (Act.put a d v) w → Q (.panic c) a w := by exact fun _ _ _ h => h) : wpAnyE P md opsl.toArray Q (EL ls) (fuel + 1) listed (fr n0 us0 l0) w :=
  eTake i [] [] (fun _ => True) hi hb hQ el_true (fun w _ => el_quiet hl w) trivial (y_val hg fun w _ => hr w) h
/-- a load among loud operations -/
theorem eL (i : Nat) {opsl : List Oper} {d : Option Tmp} {op : Op} {t' : TypeId} {p : String} {af : Array Edge} {g : Option (Nat × Bool)} {fuel : Nat} {listed : Array Bool} {ls : List (Nat × List Nat)} (D N : List Nat) (F : World → Prop) {v : Value} (hi : nthO opsl i = some ⟨d, op, t', p, af, g⟩)
    (hl : ls.lookup i = none) (hst : ∀ j w w', j ∉ D → j ∉ N → F w → EL ls j w w' → F w') (hF : F w)
    (hy : YieldsIf P opsl.toArray F ⟨d, op, t', p, af, g⟩ v (fr n0 us0 l0))
    (h : wpAnyE P md opsl.toArray Q (EL ls) fuel (listed.setIfInBounds i true) (fr n0 us0 (pl d v l0)) w)
    (hb : (Region.noSelect opsl.toArray && Region.free md opsl.toArray listed i && (Region.ready md opsl.toArray listed).contains i && closedB md opsl.toArray listed && descOk md opsl.toArray i [] D && (N.all fun k => listed.getD k true)) = true := by kernel_rfl)
    (hQ : ∀ c a w, Q (.panic c) (Act.put a d v) w → Q (.panic c) a w := by exact fun _ _ _ h => h) : wpAnyE P md opsl.toArray Q (EL ls) (fuel + 1) listed (fr n0 us0 l0) w :=
  eTake i D N F hi hb hQ hst (fun w _ => el_quiet hl w) hF hy h
/-- an operation that is not wanted -/
theorem eN (i : Nat) {opsl : List Oper} {d : Option Tmp} {op : Op} {t' : TypeId} {p : String} {af : Array Edge} {g : Option (Nat × Bool)} {fuel : Nat} {listed : Array Bool} {ls : List (Nat × List Nat)} (hi : nthO opsl i = some ⟨d, op, t', p, af, g⟩)
    (hE : ∀ w, EL ls i w w) (hg : Region.wanted ⟨d, op, t', p, af, g⟩ (yielded opsl.toArray (fr n0 us0 l0).tmps) = false)
    (h : wpAnyE P md opsl.toArray Q (EL ls) fuel (listed.setIfInBounds i true) (fr n0 us0 (pl d undef l0)) w)
    (hb : (Region.noSelect opsl.toArray && Region.free md opsl.toArray listed i && (Region.ready md opsl.toArray listed).contains i && closedB md opsl.toArray listed && descOk md opsl.toArray i [] [] && (([] : List Nat).all fun k => listed.getD k true)) = true := by kernel_rfl)
    (hQ : ∀ c a w, Q (.panic c) (Act.put a d undef) w → Q (.panic c) a w := by exact fun _ _ _ h => h) : wpAnyE P md opsl.toArray Q (EL ls) (fuel + 1) listed (fr n0 us0 l0) w :=
  eTake i [] [] (fun _ => True) hi hb hQ el_true (fun w _ => hE w) trivial (y_no hg) h
end
/-! ### the laws of XBase at such a frame -/
theorem R_load1 {dst : Option Tmp} {ty : TypeId} {x : Operand} {t' : TypeId} {p : String} {af : Array Edge} {g : Option (Nat × Bool)} {ad : Addr} {v : Value} (hagg : (isAgg ty).run P w = .ok false w) (hx : evO n0 l0 x = some (.pointer (some ad))) (hc : w.cell? ad = some v) :
    (execOp (fr n0 us0 l0).eval ⟨dst, .load ty x, t', p, af, g⟩).run P w = .ok (.value v) w := r_load1 hagg (evE hx) hc
theorem R_loadN {dst : Option Tmp} {ty : TypeId} {x : Operand} {t' : TypeId} {p : String} {af : Array Edge} {g : Option (Nat × Bool)} {ad : Addr} {cs : List Value} {n : Nat} (hagg : (isAgg ty).run P w = .ok true w) (hsz : (sizeOf ty).run P w = .ok n w) (hn : cs.length = n) (hx : evO n0 l0 x = some (.pointer (some ad))) (hc : Cells w ad cs) :
    (execOp (fr n0 us0 l0).eval ⟨dst, .load ty x, t', p, af, g⟩).run P w = .ok (.value (.agg cs.toArray)) w := r_loadN hagg hsz hn (evE hx) hc
theorem R_nil {dst : Option Tmp} {x : Operand} {t' : TypeId} {p : String} {af : Array Edge} {g : Option (Nat × Bool)} {ad : Addr} (hx : evO n0 l0 x = some (.pointer (some ad))) :
    (execOp (fr n0 us0 l0).eval ⟨dst, .nilCheck x, t', p, af, g⟩).run P w = .ok (.value (.pointer (some ad))) w := r_nil (evE hx)
theorem R_field {dst : Option Tmp} {s : TypeId} {x : Operand} {k : Nat} {t' : TypeId} {p : String} {af : Array Edge} {g : Option (Nat × Bool)} {ad ad' : Addr} {fs : Array Field} {f : Field} {n : Nat} (hu : (underlying s).run P w = .ok (.struct fs) w) (hf : fs[k]? = some f) (hsz : (sizeOf f.type).run P w = .ok (n + 1) w) (hx : evO n0 l0 x = some (.pointer (some ad))) (he : ad.add f.offset = ad') :
    (execOp (fr n0 us0 l0).eval ⟨dst, .fieldAddr s x k, t', p, af, g⟩).run P w = .ok (.value (.pointer (some ad'))) w := r_field hu hf hsz (evE hx) he
theorem R_pickT {dst : Option Tmp} {c x y : Operand} {t' : TypeId} {p : String} {af : Array Edge} {g : Option (Nat × Bool)} {v : Value} (hc : evO n0 l0 c = some (.bool true)) (hv : evO n0 l0 x = some (v)) :
    (execOp (fr n0 us0 l0).eval ⟨dst, .pick c x y, t', p, af, g⟩).run P w = .ok (.value v) w := r_pickT (evE hc) (evE hv)
theorem R_pickF {dst : Option Tmp} {c x y : Operand} {t' : TypeId} {p : String} {af : Array Edge} {g : Option (Nat × Bool)} {v : Value} (hc : evO n0 l0 c = some (.bool false)) (hv : evO n0 l0 y = some (v)) :
    (execOp (fr n0 us0 l0).eval ⟨dst, .pick c x y, t', p, af, g⟩).run P w = .ok (.value v) w := r_pickF (evE hc) (evE hv)
theorem R_build {dst : Option Tmp} {t : TypeId} {ps : List (Nat × Operand)} {t' : TypeId} {p : String} {af : Array Edge} {g : Option (Nat × Bool)} {ps' : List (Nat × Value)} {v : Value} (hp : evPs n0 l0 ps = some ps') (hr : (Instr.build t ps'.toArray).run P w = .ok v w) :
    (execOp (fr n0 us0 l0).eval ⟨dst, .build t ps.toArray, t', p, af, g⟩).run P w = .ok (.value v) w := r_build (evEp hp) hr
theorem R_indexS {dst : Option Tmp} {t e : TypeId} {x i : Operand} {t' : TypeId} {p : String} {af : Array Edge} {g : Option (Nat × Bool)} {s : Sl} {k : IntKind} {n : Int} {ad : Addr} {sz : Nat} (hu : (underlying t).run P w = .ok (.slice e) w) (hsz : (sizeOf e).run P w = .ok sz w) (hx : evO n0 l0 x = some (s.v)) (hi : evO n0 l0 i = some (.int k n)) (hat : SlAt s n sz ad) :
    (execOp (fr n0 us0 l0).eval ⟨dst, .indexAddr t x i, t', p, af, g⟩).run P w = .ok (.value (.pointer (some ad))) w := r_indexS hu hsz (evE hx) (evE hi) hat
theorem R_indexA {dst : Option Tmp} {t e : TypeId} {x i : Operand} {t' : TypeId} {p : String} {af : Array Edge} {g : Option (Nat × Bool)} {len : Nat} {k : IntKind} {n : Int} {ad ad' : Addr} {sz : Nat} (hu : (underlying t).run P w = .ok (.array len e) w) (hsz : (sizeOf e).run P w = .ok sz w) (hx : evO n0 l0 x = some (.pointer (some ad))) (hi : evO n0 l0 i = some (.int k n)) (h0 : 0 ≤ n) (h1 : n < len) (he : ad.add (n.toNat * sz) = ad') :
    (execOp (fr n0 us0 l0).eval ⟨dst, .indexAddr t x i, t', p, af, g⟩).run P w = .ok (.value (.pointer (some ad'))) w := r_indexA hu hsz (evE hx) (evE hi) h0 h1 he
theorem R_builtin_append {dst : Option Tmp} {xs : List Operand} {ts : Array TypeId} {t' : TypeId} {p : String} {af : Array Edge} {g : Option (Nat × Bool)} {v : Value} {vs : List Value} (hx : evOs n0 l0 xs = some (vs)) (hr : (Builtin.append_ ts t' vs.toArray).run P w = .ok v w') :
    (execOp (fr n0 us0 l0).eval ⟨dst, .call ⟨.builtin .append, xs.toArray, ts⟩, t', p, af, g⟩).run P w = .ok (.value v) w' := r_builtin_append (evEs hx) hr
theorem R_builtin_copy {dst : Option Tmp} {xs : List Operand} {ts : Array TypeId} {t' : TypeId} {p : String} {af : Array Edge} {g : Option (Nat × Bool)} {v : Value} {vs : List Value} (hx : evOs n0 l0 xs = some (vs)) (hr : (Builtin.copy_ ts t' vs.toArray).run P w = .ok v w') :
    (execOp (fr n0 us0 l0).eval ⟨dst, .call ⟨.builtin .copy, xs.toArray, ts⟩, t', p, af, g⟩).run P w = .ok (.value v) w' := r_builtin_copy (evEs hx) hr
theorem R_builtin_delete {dst : Option Tmp} {xs : List Operand} {ts : Array TypeId} {t' : TypeId} {p : String} {af : Array Edge} {g : Option (Nat × Bool)} {v : Value} {vs : List Value} (hx : evOs n0 l0 xs = some (vs)) (hr : (Builtin.delete_ ts t' vs.toArray).run P w = .ok v w') :
    (execOp (fr n0 us0 l0).eval ⟨dst, .call ⟨.builtin .delete, xs.toArray, ts⟩, t', p, af, g⟩).run P w = .ok (.value v) w' := r_builtin_delete (evEs hx) hr
theorem R_builtin_clear {dst : Option Tmp} {xs : List Operand} {ts : Array TypeId} {t' : TypeId} {p : String} {af : Array Edge} {g : Option (Nat × Bool)} {v : Value} {vs : List Value} (hx : evOs n0 l0 xs = some (vs)) (hr : (Builtin.clear_ ts t' vs.toArray).run P w = .ok v w') :
    (execOp (fr n0 us0 l0).eval ⟨dst, .call ⟨.builtin .clear, xs.toArray, ts⟩, t', p, af, g⟩).run P w = .ok (.value v) w' := r_builtin_clear (evEs hx) hr
theorem R_builtin_len {dst : Option Tmp} {xs : List Operand} {ts : Array TypeId} {t' : TypeId} {p : String} {af : Array Edge} {g : Option (Nat × Bool)} {v : Value} {vs : List Value} (hx : evOs n0 l0 xs = some (vs)) (hr : (Builtin.len_ ts t' vs.toArray).run P w = .ok v w') :
    (execOp (fr n0 us0 l0).eval ⟨dst, .call ⟨.builtin .len, xs.toArray, ts⟩, t', p, af, g⟩).run P w = .ok (.value v) w' := r_builtin_len (evEs hx) hr
theorem R_buildSlice {dst : Option Tmp} {t : TypeId} {t' : TypeId} {p : String} {af : Array Edge} {g : Option (Nat × Bool)} {v : Value} {n : Nat} {ps : List (Nat × Operand)} {ps' : List (Nat × Value)} (hp : evPs n0 l0 ps = some ps') (hr : (Instr.buildSlice t n ps'.toArray).run P w = .ok v w') :
    (execOp (fr n0 us0 l0).eval ⟨dst, .buildSlice t n ps.toArray, t', p, af, g⟩).run P w = .ok (.value v) w' := r_buildSlice (evEp hp) hr
theorem R_makeSlice {dst : Option Tmp} {x : Operand} {y : Operand} {t : TypeId} {t' : TypeId} {p : String} {af : Array Edge} {g : Option (Nat × Bool)} {v : Value} {vx : Value} {vy : Value} (hx : evO n0 l0 x = some (vx)) (hy : evO n0 l0 y = some (vy)) (hr : (Instr.makeSlice t vx vy).run P w = .ok v w') :
    (execOp (fr n0 us0 l0).eval ⟨dst, .makeSlice t x y, t', p, af, g⟩).run P w = .ok (.value v) w' := r_makeSlice (evE hx) (evE hy) hr
theorem R_makeMapS {dst : Option Tmp} {x : Operand} {t : TypeId} {t' : TypeId} {p : String} {af : Array Edge} {g : Option (Nat × Bool)} {v : Value} {vx : Value} (hx : evO n0 l0 x = some (vx)) (hr : (Instr.makeMap t (some vx)).run P w = .ok v w') :
    (execOp (fr n0 us0 l0).eval ⟨dst, .makeMap t (some x), t', p, af, g⟩).run P w = .ok (.value v) w' := r_makeMapS (evE hx) hr
theorem R_lookup {dst : Option Tmp} {x : Operand} {y : Operand} {t : TypeId} {t' : TypeId} {p : String} {af : Array Edge} {g : Option (Nat × Bool)} {v : Value} {vx : Value} {vy : Value} {b : Bool} (hx : evO n0 l0 x = some (vx)) (hy : evO n0 l0 y = some (vy)) (hr : (Instr.lookup t vx vy b).run P w = .ok v w') :
    (execOp (fr n0 us0 l0).eval ⟨dst, .lookup t x y b, t', p, af, g⟩).run P w = .ok (.value v) w' := r_lookup (evE hx) (evE hy) hr
theorem R_mapUpdate {dst : Option Tmp} {x : Operand} {y : Operand} {z : Operand} {t : TypeId} {t' : TypeId} {p : String} {af : Array Edge} {g : Option (Nat × Bool)} {vx : Value} {vy : Value} {vz : Value} (hx : evO n0 l0 x = some (vx)) (hy : evO n0 l0 y = some (vy)) (hz : evO n0 l0 z = some (vz)) (hr : (Instr.mapUpdate t vx vy vz).run P w = .ok () w') :
    (execOp (fr n0 us0 l0).eval ⟨dst, .mapUpdate t x y z, t', p, af, g⟩).run P w = .ok .skip w' := r_mapUpdate (evE hx) (evE hy) (evE hz) hr
theorem R_insert {dst : Option Tmp} {x : Operand} {y : Operand} {z : Operand} {t : TypeId} {t' : TypeId} {p : String} {af : Array Edge} {g : Option (Nat × Bool)} {vx : Value} {vy : Value} {vz : Value} (hx : evO n0 l0 x = some (vx)) (hy : evO n0 l0 y = some (vy)) (hz : evO n0 l0 z = some (vz)) (hr : (Instr.mapUpdate t vx vy vz).run P w = .ok () w') :
    (execOp (fr n0 us0 l0).eval ⟨dst, .insert t x y z, t', p, af, g⟩).run P w = .ok .skip w' := r_insert (evE hx) (evE hy) (evE hz) hr
theorem R_range {dst : Option Tmp} {x : Operand} {t : TypeId} {t' : TypeId} {p : String} {af : Array Edge} {g : Option (Nat × Bool)} {v : Value} {vx : Value} (hx : evO n0 l0 x = some (vx)) (hr : (Instr.range t vx).run P w = .ok v w') :
    (execOp (fr n0 us0 l0).eval ⟨dst, .range t x, t', p, af, g⟩).run P w = .ok (.value v) w' := r_range (evE hx) hr
theorem R_next {dst : Option Tmp} {x : Operand} {t' : TypeId} {p : String} {af : Array Edge} {g : Option (Nat × Bool)} {v : Value} {vx : Value} {b : Bool} (hx : evO n0 l0 x = some (vx)) (hr : (Instr.next vx b t').run P w = .ok v w') :
    (execOp (fr n0 us0 l0).eval ⟨dst, .next x b, t', p, af, g⟩).run P w = .ok (.value v) w' := r_next (evE hx) hr
theorem R_entry {dst : Option Tmp} {x : Operand} {t' : TypeId} {p : String} {af : Array Edge} {g : Option (Nat × Bool)} {v : Value} {vx : Value} (hx : evO n0 l0 x = some (vx)) (hr : (Instr.entry vx).run P w = .ok v w') :
    (execOp (fr n0 us0 l0).eval ⟨dst, .entry x, t', p, af, g⟩).run P w = .ok (.value v) w' := r_entry (evE hx) hr
theorem R_convert {dst : Option Tmp} {x : Operand} {t : TypeId} {t2 : TypeId} {t' : TypeId} {p : String} {af : Array Edge} {g : Option (Nat × Bool)} {v : Value} {vx : Value} (hx : evO n0 l0 x = some (vx)) (hr : (convert t t2 vx).run P w = .ok v w') :
    (execOp (fr n0 us0 l0).eval ⟨dst, .convert t t2 x, t', p, af, g⟩).run P w = .ok (.value v) w' := r_convert (evE hx) hr
theorem R_len {dst : Option Tmp} {t : TypeId} {e : TypeId} {x : Operand} {t' : TypeId} {p : String} {af : Array Edge} {g : Option (Nat × Bool)} {s : Sl} (hu : (underlying t).run P w = .ok (.slice e) w) (hx : evO n0 l0 x = some (s.v)) :
    (execOp (fr n0 us0 l0).eval ⟨dst, .call ⟨.builtin .len, #[x], #[t]⟩, t', p, af, g⟩).run P w = .ok (.value (.int .i64 s.n)) w := r_len hu (evE hx)
theorem R_enter {dst : Option Tmp} {f : FuncId} {xs : List Operand} {ats : Array TypeId} {t' : TypeId} {p : String} {af : Array Edge} {g : Option (Nat × Bool)} {args : List Value} (hc : ∀ (args : Array Value) (w : World), (callFunc f args).run P w = .ok (.enter f args) w) (ha : evOs n0 l0 xs = some (args)) :
    (execOp (fr n0 us0 l0).eval ⟨dst, .call ⟨.value (.func f), xs.toArray, ats⟩, t', p, af, g⟩).run P w = .ok (.enter f args.toArray) w := r_enter hc (evEs ha)
theorem R_enterC {dst : Option Tmp} {x : Operand} {f : FuncId} {first captured : List Value} {xs : List Operand} {ats : Array TypeId} {t' : TypeId} {p : String} {af : Array Edge} {g : Option (Nat × Bool)} {args : List Value} (hx : evO n0 l0 x = some (.func (.func f) first.toArray captured.toArray)) (hc : ∀ (args : Array Value) (w : World), (callFunc f args).run P w = .ok (.enter f args) w) (ha : (evOs n0 l0 xs).map (fun ys => first ++ ys ++ captured) = some args) :
    (execOp (fr n0 us0 l0).eval ⟨dst, .call ⟨.value x, xs.toArray, ats⟩, t', p, af, g⟩).run P w = .ok (.enter f args.toArray) w := r_enterC (evE hx) hc (evEa ha)
theorem R_bytesStr {dst : Option Tmp} {s d e : TypeId} {x : Operand} {t' : TypeId} {p : String} {af : Array Edge} {g : Option (Nat × Bool)} {sl : Sl} {l : List UInt8} (hs : P.underlying s = some (.slice e)) (he : P.underlying e = some (.int .u8)) (hd : P.underlying d = some .string) (hx : evO n0 l0 x = some (sl.v)) (hb : Bytes w sl l) :
    (execOp (fr n0 us0 l0).eval ⟨dst, .convert s d x, t', p, af, g⟩).run P w = .ok (.value (.string ⟨l.toArray⟩)) w := r_bytesStr hs he hd (evE hx) hb
theorem R_makeFunc {dst : Option Tmp} {fn : Fn} {fs cs : List Operand} {t' : TypeId} {p : String} {af : Array Edge} {g : Option (Nat × Bool)} {fv cv : List Value} (h1 : evOs n0 l0 fs = some (fv)) (h2 : evOs n0 l0 cs = some (cv)) :
    (execOp (fr n0 us0 l0).eval ⟨dst, .makeFunc fn fs.toArray cs.toArray, t', p, af, g⟩).run P w = .ok (.value (.func fn fv.toArray cv.toArray)) w := r_makeFunc (evEs h1) (evEs h2)
theorem R_quo {dst : Option Tmp} {t ty : TypeId} {x y : Operand} {t' : TypeId} {p : String} {af : Array Edge} {g : Option (Nat × Bool)} {k : IntKind} {m n : Int} (hx : evO n0 l0 x = some (.int k m)) (hy : evO n0 l0 y = some (.int k n)) (hn : n ≠ 0) :
    (execOp (fr n0 us0 l0).eval ⟨dst, .binOp .quo t x y ty, t', p, af, g⟩).run P w = .ok (.value (.int k (k.wrap (m.tdiv n)))) w := r_quo (evE hx) (evE hy) hn
theorem R_rem {dst : Option Tmp} {t ty : TypeId} {x y : Operand} {t' : TypeId} {p : String} {af : Array Edge} {g : Option (Nat × Bool)} {k : IntKind} {m n : Int} (hx : evO n0 l0 x = some (.int k m)) (hy : evO n0 l0 y = some (.int k n)) (hn : n ≠ 0) :
    (execOp (fr n0 us0 l0).eval ⟨dst, .binOp .rem t x y ty, t', p, af, g⟩).run P w = .ok (.value (.int k (m.tmod n))) w := r_rem (evE hx) (evE hy) hn
theorem R_shl {dst : Option Tmp} {t ty : TypeId} {x y : Operand} {t' : TypeId} {p : String} {af : Array Edge} {g : Option (Nat × Bool)} {k k' : IntKind} {m n : Int} (hx : evO n0 l0 x = some (.int k m)) (hy : evO n0 l0 y = some (.int k' n)) (hn : 0 ≤ n) :
    (execOp (fr n0 us0 l0).eval ⟨dst, .binOp .shl t x y ty, t', p, af, g⟩).run P w = .ok (.value (.int k (k.wrap (m * 2 ^ (min n.toNat k.bits))))) w := r_shl (evE hx) (evE hy) hn
theorem R_shr {dst : Option Tmp} {t ty : TypeId} {x y : Operand} {t' : TypeId} {p : String} {af : Array Edge} {g : Option (Nat × Bool)} {k k' : IntKind} {m n : Int} (hx : evO n0 l0 x = some (.int k m)) (hy : evO n0 l0 y = some (.int k' n)) (hn : 0 ≤ n) :
    (execOp (fr n0 us0 l0).eval ⟨dst, .binOp .shr t x y ty, t', p, af, g⟩).run P w = .ok (.value (.int k (m.fdiv (2 ^ (min n.toNat k.bits))))) w := r_shr (evE hx) (evE hy) hn
theorem R_indexStr {dst : Option Tmp} {t : TypeId} {x i : Operand} {t' : TypeId} {p : String} {af : Array Edge} {g : Option (Nat × Bool)} {s : ByteArray} {k : IntKind} {n : Int} {c : UInt8} (hu : (underlying t).run P w = .ok .string w) (hx : evO n0 l0 x = some (.string s)) (hi : evO n0 l0 i = some (.int k n)) (h0 : 0 ≤ n) (h1 : s[n.toNat]? = some c) :
    (execOp (fr n0 us0 l0).eval ⟨dst, .index t x i, t', p, af, g⟩).run P w = .ok (.value (.int .u8 (c.toNat : Int))) w := r_indexStr hu (evE hx) (evE hi) h0 h1
theorem R_strAdd {dst : Option Tmp} {t ty : TypeId} {x y : Operand} {t' : TypeId} {p : String} {af : Array Edge} {g : Option (Nat × Bool)} {s u : ByteArray} (hx : evO n0 l0 x = some (.string s)) (hy : evO n0 l0 y = some (.string u)) (hn : (s.size : Int) + u.size ≤ 9223372036854775807) :
    (execOp (fr n0 us0 l0).eval ⟨dst, .binOp .add t x y ty, t', p, af, g⟩).run P w = .ok (.value (.string (s ++ u))) w := r_strAdd (evE hx) (evE hy) hn
theorem R_cap {dst : Option Tmp} {t : TypeId} {e : TypeId} {x : Operand} {t' : TypeId} {p : String} {af : Array Edge} {g : Option (Nat × Bool)} {s : Sl} (hu : (underlying t).run P w = .ok (.slice e) w) (hx : evO n0 l0 x = some (s.v)) :
    (execOp (fr n0 us0 l0).eval ⟨dst, .call ⟨.builtin .cap, #[x], #[t]⟩, t', p, af, g⟩).run P w = .ok (.value (.int .i64 s.c)) w := r_cap hu (evE hx)
theorem R_sliceStr10 {dst : Option Tmp} {t : TypeId} {x lo : Operand} {t' : TypeId} {p : String} {af : Array Edge} {g : Option (Nat × Bool)} {s : ByteArray} {k : IntKind} {l : Nat} (hu : (underlying t).run P w = .ok .string w) (hx : evO n0 l0 x = some (.string s)) (hl : evO n0 l0 lo = some (.int k (l : Int))) (h1 : l ≤ s.size) (_h2 : s.size ≤ s.size) :
    (execOp (fr n0 us0 l0).eval ⟨dst, .slice t x (some lo) none none, t', p, af, g⟩).run P w = .ok (.value (.string (s.extract l s.size))) w := r_sliceStr10 hu (evE hx) (evE hl) h1 _h2
theorem R_sliceStr01 {dst : Option Tmp} {t : TypeId} {x hi : Operand} {t' : TypeId} {p : String} {af : Array Edge} {g : Option (Nat × Bool)} {s : ByteArray} {k : IntKind} {h : Nat} (hu : (underlying t).run P w = .ok .string w) (hx : evO n0 l0 x = some (.string s)) (hh : evO n0 l0 hi = some (.int k (h : Int))) (_h1 : 0 ≤ h) (h2 : h ≤ s.size) :
    (execOp (fr n0 us0 l0).eval ⟨dst, .slice t x none (some hi) none, t', p, af, g⟩).run P w = .ok (.value (.string (s.extract 0 h))) w := r_sliceStr01 hu (evE hx) (evE hh) _h1 h2
theorem R_sliceStr11 {dst : Option Tmp} {t : TypeId} {x lo hi : Operand} {t' : TypeId} {p : String} {af : Array Edge} {g : Option (Nat × Bool)} {s : ByteArray} {k k' : IntKind} {l h : Nat} (hu : (underlying t).run P w = .ok .string w) (hx : evO n0 l0 x = some (.string s)) (hl : evO n0 l0 lo = some (.int k (l : Int))) (hh : evO n0 l0 hi = some (.int k' (h : Int))) (h1 : l ≤ h) (h2 : h ≤ s.size) :
    (execOp (fr n0 us0 l0).eval ⟨dst, .slice t x (some lo) (some hi) none, t', p, af, g⟩).run P w = .ok (.value (.string (s.extract l h))) w := r_sliceStr11 hu (evE hx) (evE hl) (evE hh) h1 h2
theorem R_convInt {dst : Option Tmp} {s d : TypeId} {x : Operand} {t' : TypeId} {p : String} {af : Array Edge} {g : Option (Nat × Bool)} {ks kd k : IntKind} {n : Int} (hs : (underlying s).run P w = .ok (.int ks) w) (hd : (underlying d).run P w = .ok (.int kd) w) (hx : evO n0 l0 x = some (.int k n)) :
    (execOp (fr n0 us0 l0).eval ⟨dst, .convert s d x, t', p, af, g⟩).run P w = .ok (.value (.int kd (kd.wrap n))) w := r_convInt hs hd (evE hx)
theorem R_convStr {dst : Option Tmp} {s d : TypeId} {x : Operand} {t' : TypeId} {p : String} {af : Array Edge} {g : Option (Nat × Bool)} {n : ByteArray} (hs : (underlying s).run P w = .ok .string w) (hd : (underlying d).run P w = .ok .string w) (hx : evO n0 l0 x = some (.string n)) :
    (execOp (fr n0 us0 l0).eval ⟨dst, .convert s d x, t', p, af, g⟩).run P w = .ok (.value (.string n)) w := r_convStr hs hd (evE hx)
theorem R_iface {dst : Option Tmp} {t : TypeId} {x : Operand} {t' : TypeId} {p : String} {af : Array Edge} {g : Option (Nat × Bool)} {d : TypeDesc} {v : Value} (hu : (underlying t).run P w = .ok d w) (hd : (match d with | .interface _ => false | _ => true) = true) (hx : evO n0 l0 x = some (v)) :
    (execOp (fr n0 us0 l0).eval ⟨dst, .makeInterface t x, t', p, af, g⟩).run P w = .ok (.value (.iface t v)) w := r_iface hu hd (evE hx)
theorem R_lenStr {dst : Option Tmp} {t : TypeId} {x : Operand} {t' : TypeId} {p : String} {af : Array Edge} {g : Option (Nat × Bool)} {s : ByteArray} (hu : (underlying t).run P w = .ok .string w) (hx : evO n0 l0 x = some (.string s)) :
    (execOp (fr n0 us0 l0).eval ⟨dst, .call ⟨.builtin .len, #[x], #[t]⟩, t', p, af, g⟩).run P w = .ok (.value (.int .i64 s.size)) w := r_lenStr hu (evE hx)
theorem R_min {dst : Option Tmp} {ts : Array TypeId} {x y : Operand} {t' : TypeId} {p : String} {af : Array Edge} {g : Option (Nat × Bool)} {k k' : IntKind} {m n : Int} (hx : evO n0 l0 x = some (.int k m)) (hy : evO n0 l0 y = some (.int k' n)) :
    (execOp (fr n0 us0 l0).eval ⟨dst, .call ⟨.builtin .min, #[x, y], ts⟩, t', p, af, g⟩).run P w = .ok (.value (.int k (if n < m then n else m))) w := r_min (evE hx) (evE hy)
theorem R_max {dst : Option Tmp} {ts : Array TypeId} {x y : Operand} {t' : TypeId} {p : String} {af : Array Edge} {g : Option (Nat × Bool)} {k k' : IntKind} {m n : Int} (hx : evO n0 l0 x = some (.int k m)) (hy : evO n0 l0 y = some (.int k' n)) :
    (execOp (fr n0 us0 l0).eval ⟨dst, .call ⟨.builtin .max, #[x, y], ts⟩, t', p, af, g⟩).run P w = .ok (.value (.int k (if n > m then n else m))) w := r_max (evE hx) (evE hy)
theorem R_eqlPtrNilR {dst : Option Tmp} {t ty : TypeId} {x y : Operand} {t' : TypeId} {p : String} {af : Array Edge} {g : Option (Nat × Bool)} {e : TypeId} {q : Option Addr} {b : Bool} (hu : (underlying t).run P w = .ok (.pointer e) w) (hx : evO n0 l0 x = some (.pointer q)) (hy : evO n0 l0 y = some (.pointer none)) (hb : (q.isNone) = b) :
    (execOp (fr n0 us0 l0).eval ⟨dst, .binOp .eql t x y ty, t', p, af, g⟩).run P w = .ok (.value (.bool b)) w := r_eqlPtrNilR hu (evE hx) (evE hy) hb
theorem R_eqlPtrNilL {dst : Option Tmp} {t ty : TypeId} {x y : Operand} {t' : TypeId} {p : String} {af : Array Edge} {g : Option (Nat × Bool)} {e : TypeId} {q : Option Addr} {b : Bool} (hu : (underlying t).run P w = .ok (.pointer e) w) (hx : evO n0 l0 x = some (.pointer none)) (hy : evO n0 l0 y = some (.pointer q)) (hb : (q.isNone) = b) :
    (execOp (fr n0 us0 l0).eval ⟨dst, .binOp .eql t x y ty, t', p, af, g⟩).run P w = .ok (.value (.bool b)) w := r_eqlPtrNilL hu (evE hx) (evE hy) hb
theorem R_neqPtrNilR {dst : Option Tmp} {t ty : TypeId} {x y : Operand} {t' : TypeId} {p : String} {af : Array Edge} {g : Option (Nat × Bool)} {e : TypeId} {q : Option Addr} {b : Bool} (hu : (underlying t).run P w = .ok (.pointer e) w) (hx : evO n0 l0 x = some (.pointer q)) (hy : evO n0 l0 y = some (.pointer none)) (hb : (!q.isNone) = b) :
    (execOp (fr n0 us0 l0).eval ⟨dst, .binOp .neq t x y ty, t', p, af, g⟩).run P w = .ok (.value (.bool b)) w := r_neqPtrNilR hu (evE hx) (evE hy) hb
theorem R_neqPtrNilL {dst : Option Tmp} {t ty : TypeId} {x y : Operand} {t' : TypeId} {p : String} {af : Array Edge} {g : Option (Nat × Bool)} {e : TypeId} {q : Option Addr} {b : Bool} (hu : (underlying t).run P w = .ok (.pointer e) w) (hx : evO n0 l0 x = some (.pointer none)) (hy : evO n0 l0 y = some (.pointer q)) (hb : (!q.isNone) = b) :
    (execOp (fr n0 us0 l0).eval ⟨dst, .binOp .neq t x y ty, t', p, af, g⟩).run P w = .ok (.value (.bool b)) w := r_neqPtrNilL hu (evE hx) (evE hy) hb
theorem R_eqlBool {dst : Option Tmp} {t ty : TypeId} {x y : Operand} {t' : TypeId} {p : String} {af : Array Edge} {g : Option (Nat × Bool)} {m n : Bool} (hu : P.underlying t = some .bool) (hx : evO n0 l0 x = some (.bool m)) (hy : evO n0 l0 y = some (.bool n)) :
    (execOp (fr n0 us0 l0).eval ⟨dst, .binOp .eql t x y ty, t', p, af, g⟩).run P w = .ok (.value (.bool (m == n))) w := r_eqlBool hu (evE hx) (evE hy)
theorem R_neqBool {dst : Option Tmp} {t ty : TypeId} {x y : Operand} {t' : TypeId} {p : String} {af : Array Edge} {g : Option (Nat × Bool)} {m n : Bool} (hu : P.underlying t = some .bool) (hx : evO n0 l0 x = some (.bool m)) (hy : evO n0 l0 y = some (.bool n)) :
    (execOp (fr n0 us0 l0).eval ⟨dst, .binOp .neq t x y ty, t', p, af, g⟩).run P w = .ok (.value (.bool (!(m == n)))) w := r_neqBool hu (evE hx) (evE hy)
theorem R_eqlSlNilR {dst : Option Tmp} {t ty : TypeId} {x y : Operand} {t' : TypeId} {p : String} {af : Array Edge} {g : Option (Nat × Bool)} {e : TypeId} {s : Sl} (hu : (underlying t).run P w = .ok (.slice e) w) (hx : evO n0 l0 x = some (s.v)) (hy : evO n0 l0 y = some (.slice none 0 0)) :
    (execOp (fr n0 us0 l0).eval ⟨dst, .binOp .eql t x y ty, t', p, af, g⟩).run P w = .ok (.value (.bool (s.a.isNone))) w := r_eqlSlNilR hu (evE hx) (evE hy)
theorem R_eqlSlNilL {dst : Option Tmp} {t ty : TypeId} {x y : Operand} {t' : TypeId} {p : String} {af : Array Edge} {g : Option (Nat × Bool)} {e : TypeId} {s : Sl} (hu : (underlying t).run P w = .ok (.slice e) w) (hx : evO n0 l0 x = some (.slice none 0 0)) (hy : evO n0 l0 y = some (s.v)) :
    (execOp (fr n0 us0 l0).eval ⟨dst, .binOp .eql t x y ty, t', p, af, g⟩).run P w = .ok (.value (.bool (s.a.isNone))) w := r_eqlSlNilL hu (evE hx) (evE hy)
theorem R_neqSlNilR {dst : Option Tmp} {t ty : TypeId} {x y : Operand} {t' : TypeId} {p : String} {af : Array Edge} {g : Option (Nat × Bool)} {e : TypeId} {s : Sl} (hu : (underlying t).run P w = .ok (.slice e) w) (hx : evO n0 l0 x = some (s.v)) (hy : evO n0 l0 y = some (.slice none 0 0)) :
    (execOp (fr n0 us0 l0).eval ⟨dst, .binOp .neq t x y ty, t', p, af, g⟩).run P w = .ok (.value (.bool (!s.a.isNone))) w := r_neqSlNilR hu (evE hx) (evE hy)
theorem R_neqSlNilL {dst : Option Tmp} {t ty : TypeId} {x y : Operand} {t' : TypeId} {p : String} {af : Array Edge} {g : Option (Nat × Bool)} {e : TypeId} {s : Sl} (hu : (underlying t).run P w = .ok (.slice e) w) (hx : evO n0 l0 x = some (.slice none 0 0)) (hy : evO n0 l0 y = some (s.v)) :
    (execOp (fr n0 us0 l0).eval ⟨dst, .binOp .neq t x y ty, t', p, af, g⟩).run P w = .ok (.value (.bool (!s.a.isNone))) w := r_neqSlNilL hu (evE hx) (evE hy)
theorem R_slice100 {dst : Option Tmp} {t e : TypeId} {x lo : Operand} {t' : TypeId} {p : String} {af : Array Edge} {g : Option (Nat × Bool)} {s : Sl} {k : IntKind} {l sz : Nat} (hu : (underlying t).run P w = .ok (.slice e) w) (hsz : (sizeOf e).run P w = .ok sz w) (hx : evO n0 l0 x = some (s.v)) (hl : evO n0 l0 lo = some (.int k (l : Int))) (h1 : l ≤ s.n) (_h2 : s.n ≤ s.c) (_h3 : s.c ≤ s.c) :
    (execOp (fr n0 us0 l0).eval ⟨dst, .slice t x (some lo) none none, t', p, af, g⟩).run P w = .ok (.value (s.cut l s.n s.c sz).v) w := r_slice100 hu hsz (evE hx) (evE hl) h1 _h2 _h3
theorem R_slice010 {dst : Option Tmp} {t e : TypeId} {x hi : Operand} {t' : TypeId} {p : String} {af : Array Edge} {g : Option (Nat × Bool)} {s : Sl} {k : IntKind} {h sz : Nat} (hu : (underlying t).run P w = .ok (.slice e) w) (hsz : (sizeOf e).run P w = .ok sz w) (hx : evO n0 l0 x = some (s.v)) (hh : evO n0 l0 hi = some (.int k (h : Int))) (_h1 : 0 ≤ h) (h2 : h ≤ s.c) (_h3 : s.c ≤ s.c) :
    (execOp (fr n0 us0 l0).eval ⟨dst, .slice t x none (some hi) none, t', p, af, g⟩).run P w = .ok (.value (s.cut 0 h s.c sz).v) w := r_slice010 hu hsz (evE hx) (evE hh) _h1 h2 _h3
theorem R_slice110 {dst : Option Tmp} {t e : TypeId} {x lo hi : Operand} {t' : TypeId} {p : String} {af : Array Edge} {g : Option (Nat × Bool)} {s : Sl} {k k' : IntKind} {l h sz : Nat} (hu : (underlying t).run P w = .ok (.slice e) w) (hsz : (sizeOf e).run P w = .ok sz w) (hx : evO n0 l0 x = some (s.v)) (hl : evO n0 l0 lo = some (.int k (l : Int))) (hh : evO n0 l0 hi = some (.int k' (h : Int))) (h1 : l ≤ h) (h2 : h ≤ s.c) (_h3 : s.c ≤ s.c) :
    (execOp (fr n0 us0 l0).eval ⟨dst, .slice t x (some lo) (some hi) none, t', p, af, g⟩).run P w = .ok (.value (s.cut l h s.c sz).v) w := r_slice110 hu hsz (evE hx) (evE hl) (evE hh) h1 h2 _h3
theorem R_slice011 {dst : Option Tmp} {t e : TypeId} {x hi mx : Operand} {t' : TypeId} {p : String} {af : Array Edge} {g : Option (Nat × Bool)} {s : Sl} {k' k2 : IntKind} {h m sz : Nat} (hu : (underlying t).run P w = .ok (.slice e) w) (hsz : (sizeOf e).run P w = .ok sz w) (hx : evO n0 l0 x = some (s.v)) (hh : evO n0 l0 hi = some (.int k' (h : Int))) (hm : evO n0 l0 mx = some (.int k2 (m : Int))) (_h1 : 0 ≤ h) (h2 : h ≤ m) (h3 : m ≤ s.c) :
    (execOp (fr n0 us0 l0).eval ⟨dst, .slice t x none (some hi) (some mx), t', p, af, g⟩).run P w = .ok (.value (s.cut 0 h m sz).v) w := r_slice011 hu hsz (evE hx) (evE hh) (evE hm) _h1 h2 h3
theorem R_slice111 {dst : Option Tmp} {t e : TypeId} {x lo hi mx : Operand} {t' : TypeId} {p : String} {af : Array Edge} {g : Option (Nat × Bool)} {s : Sl} {k k' k2 : IntKind} {l h m sz : Nat} (hu : (underlying t).run P w = .ok (.slice e) w) (hsz : (sizeOf e).run P w = .ok sz w) (hx : evO n0 l0 x = some (s.v)) (hl : evO n0 l0 lo = some (.int k (l : Int))) (hh : evO n0 l0 hi = some (.int k' (h : Int))) (hm : evO n0 l0 mx = some (.int k2 (m : Int))) (h1 : l ≤ h) (h2 : h ≤ m) (h3 : m ≤ s.c) :
    (execOp (fr n0 us0 l0).eval ⟨dst, .slice t x (some lo) (some hi) (some mx), t', p, af, g⟩).run P w = .ok (.value (s.cut l h m sz).v) w := r_slice111 hu hsz (evE hx) (evE hl) (evE hh) (evE hm) h1 h2 h3
end
end Go.Kt
