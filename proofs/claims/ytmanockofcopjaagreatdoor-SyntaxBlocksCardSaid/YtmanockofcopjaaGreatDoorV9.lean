
/-
  Own work: a walk by reckoning, part 9: one operation that turns the world: 'loud'; rows of operations in their order: 'linP'. No program in sight.
-/
import Derived.Test.YtmanockofcopjaaGreatDoorV8
namespace Go.Kt.V
open Go Go.RowKit Go.Kt
set_option linter.unusedSimpArgs false
set_option linter.unusedVariables false

def nthD (l : List Value) (i : Nat) : Value := match l, i with
  | [], _ => undef
  | v :: _, 0 => v
  | _ :: r, i + 1 => nthD r i
def zp : List Nat → List Value → List (Nat × Value)
  | i :: r, v :: s => (i, v) :: zp r s
  | _, _ => []
def fsts : List (Nat × SV) → List Nat
  | [] => []
  | p :: r => p.1 :: fsts r
def snds : List (Nat × SV) → List SV
  | [] => []
  | p :: r => p.2 :: snds r
theorem zp_ok (β : Nat → Nat) : ∀ l : List (Nat × SV), zp (fsts l) (vals β (snds l)) = pvals β l
  | [] => rfl
  | p :: r => by
    have := zp_ok β r
    simp only [vals] at this
    simp only [fsts, snds, vals, List.map_cons, zp, pvals, this]
def isPtT (P : Program) (t : TypeId) : Bool := match P.underlying t with
  | some (.pointer _) => true
  | _ => false
def isCO : Operand → Bool
  | .const _ => true
  | _ => false
def ptS : SV → Bool
  | .ptr _ => true
  | .ad _ => true
  | _ => false
def isPure (P : Program) : Op → Bool
  | .move _ => true
  | .assign _ => true
  | .pick _ _ _ => true
  | .binOp _ t x y _ => !(isPtT P t) || isCO x || isCO y
  | .unOp _ _ _ => true
  | .extract _ _ => true
  | .build _ _ => true
  | .makeFunc _ _ _ => true
  | .makeInterface _ _ => true
  | .nilCheck _ => true
  | .fieldAddr _ _ _ => true
  | .field _ _ _ => true
  | .indexAddr _ _ _ => true
  | .load _ _ => true
  | .index _ _ _ => true
  | .slice _ _ _ _ _ => true
  | .convert s d _ => (match P.underlying s, P.underlying d with
    | some (.int _), some (.int _) => true
    | some .string, some .string => true
    | some (.slice e), some .string => (match P.underlying e with
      | some (.int .u8) => true
      | _ => false)
    | _, _ => false)
  | .call c => (match c.callee with
    | .builtin .len => (match c.argTypes.toList with
      | [t] => (match P.underlying t with
        | some (.slice _) => true
        | some .string => true
        | _ => false)
      | _ => false)
    | .builtin .cap => true
    | .builtin .min => true
    | .builtin .max => true
    | _ => false)
  | _ => false
def isSt : Op → Bool
  | .store _ _ _ => true
  | _ => false
def bltV (P : Program) (X : XT) (st : St) (o : Oper) (b : Builtin) (ts : Array TypeId) (vs : List SV) (K : St → Prop) : Prop := match b with
  | .append => rawP P X st o.dst (tupT P o.type) vs (fun l => Builtin.append_ ts o.type l.toArray) K
  | .copy => rawP P X st o.dst (tupT P o.type) vs (fun l => Builtin.copy_ ts o.type l.toArray) K
  | .delete => rawP P X st o.dst (tupT P o.type) vs (fun l => Builtin.delete_ ts o.type l.toArray) K
  | .clear => rawP P X st o.dst (tupT P o.type) vs (fun l => Builtin.clear_ ts o.type l.toArray) K
  | .len => rawP P X st o.dst (tupT P o.type) vs (fun l => Builtin.len_ ts o.type l.toArray) K
  | .unsafeSliceData => rawP P X st o.dst (tupT P o.type) vs (fun l => Builtin.unsafeSliceData_ ts o.type l.toArray) K
  | .unsafeString => rawP P X st o.dst (tupT P o.type) vs (fun l => Builtin.unsafeString_ ts o.type l.toArray) K
  | _ => False
/-- a function without a body -/
def extV (f : FuncId) (args : Array Value) : Sem Value := do
  match ← callFunc f args with
  | .value v => pure v
  | _ => stuck "extV"
theorem extV_inv {P : Program} {f : FuncId} {args : Array Value} {w w1 : World} {v : Value} (h : (extV f args).run P w = .ok v w1) : (callFunc f args).run P w = .ok (.value v) w1 := by
  unfold extV at h
  rw [Sem.run_bind] at h
  cases hc : (callFunc f args).run P w with
  | ok n w2 =>
    rw [hc, Result.andThen_ok] at h
    cases n <;> first | (simp [stuck] at h; done) | (simp only [Sem.run_pure, Result.ok.injEq] at h; obtain ⟨rfl, rfl⟩ := h; rfl) | (simp at h)
  | _ => rw [hc] at h; simp at h
theorem r_extC {P : Program} {a : Act} {w w1 : World} {v : Value} {dst : Option Tmp} {x : Operand} {f : FuncId} {first captured : List Value} {xs : List Operand} {ats : Array TypeId} {t' : TypeId} {p : String} {af : Array Edge} {g : Option (Nat × Bool)} {args : List Value}
    (hx : a.eval x = .func (.func f) first.toArray captured.toArray)
    (ha : first ++ xs.map a.eval ++ captured = args) (hc : (callFunc f args.toArray).run P w = .ok (.value v) w1) :
    (execOp a.eval ⟨dst, .call ⟨.value x, xs.toArray, ats⟩, t', p, af, g⟩).run P w = .ok (.value v) w1 := by
  subst ha
  simp only [execOp, resolve, hx, Deferred.ofValue, Sem.run_bind, Sem.run_pure, Result.andThen_ok, invoke]
  simp only [List.append_toArray, List.map_toArray] at hc ⊢
  simpa using hc
def calV (P : Program) (X : XT) (st : St) (o : Oper) (fv : SV) (vs : List SV) (K : St → Prop) : Prop := match fv with
  | .fn g fs cs => bif isL fs && isL cs && fnOk P g then expose (st.esc (toL fs ++ vs ++ toL cs)) fun st => callP P X st o.dst (resT P g) g (toL fs ++ vs ++ toL cs) [] K
    else bif isL fs && isL cs then expose (st.esc (toL fs ++ vs ++ toL cs)) fun st => rawP P X st o.dst (resT P g) (toL fs ++ vs ++ toL cs) (fun l => extV g l.toArray) K else False
  | .raw v => expose (st.esc vs) fun st => ∃ (g : FuncId) (fst cap : List Value), v.v = .func (.func g) fst.toArray cap.toArray ∧ (∀ (args : Array Value) (w : World), (callFunc g args).run P w = .ok (.enter g args) w) ∧ callQ P X st o.dst (tupT P o.type) g fst vs cap K
  | _ => False
/-- what is asked of a store into an own variable -/
abbrev YT := Option Nat → Prop → Prop
def strV (P : Program) (X : XT) (Y : YT) (st : St) (o : Oper) (p s : SV) (vs : List SV) (K : St → Prop) : Prop := match p with
  | .box i off => elimO (nthB st.bx i) fun b => bif b.ok && Nat.ble (off + vs.length) b.cells.length then Y b.blk (K ((st.setBx i b (spl b.cells off vs)).put o.dst .un)) else False
  | .ad p => expose (st.esc vs) fun st => ∃ (bk off : Nat) (cells : List Value) (ety : TypeId), p = (⟨bk, off, none⟩ : Addr) ∧ Blk st.w0 bk ety cells ∧ off + vs.length ≤ cells.length ∧
      bif clns st.clg vs && allBd st.bx then neB bk st.bx (∀ w1 : World, Only [bk] st.w0 w1 → Blk w1 bk ety (splice cells off (vals st.bl vs)) → X st.w0 w1 (K (St.put { st with w0 := w1 } o.dst .un))) else False
  | _ => False
/-- a call is put off -/
def defV (P : Program) (st : St) (o : Oper) (fv : SV) (vs : List SV) (K : St → Prop) : Prop := match fv with
  | .fn g fs cs => bif isL fs && isL cs && fnOk P g then expose (st.esc (toL fs ++ vs ++ toL cs)) fun st => bif clns st.clg (toL fs ++ vs) && clns st.clg (toL cs) then
      K (St.put { st with df := (g, vals st.bl (toL fs ++ vs), vals st.bl (toL cs)) :: st.df } o.dst .un) else False else False
  | _ => False
def loud (P : Program) (X : XT) (Y : YT) (st : St) (o : Oper) (K : St → Prop) : Prop := match o.op with
  | .binOp op t x y _ => elimO (st.ev x) fun a => elimO (st.ev y) fun b => bif ptS a && ptS b then expose (st.esc [a, b]) fun st => rawP P X st o.dst [o.type] [a, b] (fun vs => Go.binOp op t (nthD vs 0) (nthD vs 1)) K else False
  | .alloc t => elimO (zc P t) fun zs => bif chk st zs then K (st.newB o.dst t zs) else False
  | .box t x => elimO (st.ev x) fun s => elimO (cellsS s) fun zs => bif chk st zs then K (st.newB o.dst t zs) else False
  | .store t x y => elimO (st.ev x) fun p => elimO (st.ev y) fun s => elimO (cellsS s) fun vs => bif sz P t vs.length then strV P X Y st o p s vs K else False
  | .call c => elimO (st.evs c.args.toList) fun vs => (match c.callee with
    | .value f => elimO (st.ev f) fun fv => calV P X st o fv vs K
    | .builtin b => expose (st.esc vs) fun st => bltV P X st o b c.argTypes vs K
    | _ => False)
  | .defer c => elimO (st.evs c.args.toList) fun vs => (match c.callee with
    | .value f => elimO (st.ev f) fun fv => defV P st o fv vs K
    | _ => False)
  | .buildSlice t n ps => elimO (st.evp ps.toList) fun l => expose (st.esc (snds l)) fun st => rawP P X st o.dst [t] (snds l) (fun vs => Instr.buildSlice t n (zp (fsts l) vs).toArray) K
  | .makeSlice t x y => elimO (st.ev x) fun a => elimO (st.ev y) fun b => expose st fun st => rawP P X st o.dst [t] [a, b] (fun vs => Instr.makeSlice t (nthD vs 0) (nthD vs 1)) K
  | .makeMap t none => expose st fun st => rawP P X st o.dst [t] [] (fun _ => Instr.makeMap t none) K
  | .makeMap t (some x) => elimO (st.ev x) fun a => expose st fun st => rawP P X st o.dst [t] [a] (fun vs => Instr.makeMap t (some (nthD vs 0))) K
  | .lookup t x i ok => elimO (st.ev x) fun a => elimO (st.ev i) fun b => expose st fun st => rawP P X st o.dst (tupT P o.type) [a, b] (fun vs => Instr.lookup t (nthD vs 0) (nthD vs 1) ok) K
  | .mapUpdate t x y z => elimO (st.ev x) fun a => elimO (st.ev y) fun b => elimO (st.ev z) fun c => expose (st.esc [a, b, c]) fun st => rawU P X st o.dst [a, b, c] (fun vs => Instr.mapUpdate t (nthD vs 0) (nthD vs 1) (nthD vs 2)) K
  | .insert t x y z => elimO (st.ev x) fun a => elimO (st.ev y) fun b => elimO (st.ev z) fun c => expose (st.esc [a, b, c]) fun st => rawU P X st o.dst [a, b, c] (fun vs => Instr.mapUpdate t (nthD vs 0) (nthD vs 1) (nthD vs 2)) K
  | .convert s d x => elimO (st.ev x) fun a => expose (st.esc [a]) fun st => rawP P X st o.dst [d] [a] (fun vs => convert s d (nthD vs 0)) K
  | _ => False

section
variable {P : Program} {β : Nat → Nat} {st : St} {a : Act} {w w1 : World} {X : XT} {Y : YT} {E : World → World → Prop} {K : St → Prop} {Q : Exit → Act → World → Prop}
/-- what is to be shown of the frame and the world behind it -/
abbrev Aft (E : World → World → Prop) (st : St) (K : St → Prop) (w : World) (a' : Act) (w' : World) : Prop := ∃ β' st', K st' ∧ Ext st st' ∧ E w w' ∧ Rep β' st' a' w'
theorem raw_fin (hX : ∀ w0 w1 p, X w0 w1 p → p ∧ E w0 w1) {o : Oper} {rts : List TypeId} {args l : List SV} {run : List Value → Sem Value} (h : expose (st.esc l) fun st => rawP P X st o.dst rts args run K) (hR : Rep β st a w)
    (hx : ∀ v w1, (run (vals β args)).run P w = .ok v w1 → (execOp a.eval o).run P w = .ok (.value v) w1) : o.wp P a w (Aft E st K w) Q := by
  obtain ⟨s1, h1, e1, hR1, hm, _⟩ := expose_ok h (hR.esc l)
  obtain ⟨v, w', hr, st', k1, k2, k3, k4⟩ := rawP_ok hX h1 hm hR1
  exact o_val v (hx v w' hr) rfl ⟨β, st', k1, (Ext.esc st l).trans (e1.trans k2), k3, k4⟩
theorem raw_fin0 (hX : ∀ w0 w1 p, X w0 w1 p → p ∧ E w0 w1) {o : Oper} {rts : List TypeId} {args : List SV} {run : List Value → Sem Value} (h : expose st fun st => rawP P X st o.dst rts args run K) (hR : Rep β st a w)
    (hx : ∀ v w1, (run (vals β args)).run P w = .ok v w1 → (execOp a.eval o).run P w = .ok (.value v) w1) : o.wp P a w (Aft E st K w) Q := by
  obtain ⟨s1, h1, e1, hR1, hm, _⟩ := expose_ok h hR
  obtain ⟨v, w', hr, st', k1, k2, k3, k4⟩ := rawP_ok hX h1 hm hR1
  exact o_val v (hx v w' hr) rfl ⟨β, st', k1, e1.trans k2, k3, k4⟩
theorem rawU_fin (hX : ∀ w0 w1 p, X w0 w1 p → p ∧ E w0 w1) {o : Oper} {args l : List SV} {run : List Value → Sem Unit} (h : expose (st.esc l) fun st => rawU P X st o.dst args run K) (hR : Rep β st a w)
    (hx : ∀ w1, (run (vals β args)).run P w = .ok () w1 → (execOp a.eval o).run P w = .ok .skip w1) : o.wp P a w (Aft E st K w) Q := by
  obtain ⟨s1, h1, e1, hR1, hm, _⟩ := expose_ok h (hR.esc l)
  obtain ⟨w', hr, st', k1, k2, k3, k4⟩ := rawU_ok hX h1 hm hR1
  exact o_skip (hx w' hr) rfl ⟨β, st', k1, (Ext.esc st l).trans (e1.trans k2), k3, k4⟩
theorem new_fin (hE : ∀ w w1, Only [] w w1 → E w w1) {d : Option Tmp} {t : TypeId} {zs : List SV} (hc : chk st zs = true) (h : K (st.newB d t zs)) (hR : Rep β st a w) {b : Nat} (hb : w.heap.size ≤ b) (hO : Only [] w w1) (hB : Blk w1 b t (vals β zs)) :
    Aft E st K w (a.put d (.pointer (some ⟨b, 0, none⟩))) w1 := by
  simp only [chk, Bool.and_eq_true] at hc
  exact ⟨_, _, h, Ext.newB _ _ _ _, hE _ _ hO, hR.newB hc.1.1.1 hc.1.1.2 hc.1.2 hb hO hB hc.2⟩
theorem call_fin (hX : ∀ w0 w1 p, X w0 w1 p → p ∧ E w0 w1) {o : Oper} {rts : List TypeId} {f : FuncId} {args : List SV} {extra : List Value} {s1 : St} (h : callP P X s1 o.dst rts f args extra K) (hm : s1.mv = false) (e1 : Ext st s1) (hR : Rep β s1 a w)
    (hx : (execOp a.eval o).run P w = .ok (.enter f (vals β args ++ extra).toArray) w) : o.wp P a w (Aft E st K w) Q := by
  refine o_enter hx ((callP_ok hX h hm hR).mono ?_)
  rintro e w' ⟨v, rfl, st', k1, k2, k3, k4⟩
  exact ⟨v, _, rfl, rfl, β, st', k1, e1.trans k2, k3, k4⟩
theorem callQ_fin (hX : ∀ w0 w1 p, X w0 w1 p → p ∧ E w0 w1) {o : Oper} {rts : List TypeId} {f : FuncId} {fst : List Value} {args : List SV} {extra : List Value} {s1 : St} (h : callQ P X s1 o.dst rts f fst args extra K) (hm : s1.mv = false) (e1 : Ext st s1) (hR : Rep β s1 a w)
    (hx : (execOp a.eval o).run P w = .ok (.enter f (cat (cat fst (vals β args)) extra).toArray) w) : o.wp P a w (Aft E st K w) Q := by
  refine o_enter hx ((callQ_ok hX h hm hR).mono ?_)
  rintro e w' ⟨v, rfl, st', k1, k2, k3, k4⟩
  exact ⟨v, _, rfl, rfl, β, st', k1, e1.trans k2, k3, k4⟩
theorem ptS_ok {s : SV} (h : ptS s = true) (β : Nat → Nat) : ∃ q, val β s = .pointer q := by
  cases s <;> first | (cases h; done) | exact ⟨_, rfl⟩
theorem r_binPt {a : Act} {dst : Option Tmp} {op : BinOp} {t ty : TypeId} {x y : Operand} {t' : TypeId} {p : String} {af : Array Edge} {g : Option (Nat × Bool)} {u v r : Value} (hu : ∃ q, u = .pointer q) (hv : ∃ q, v = .pointer q) (hx : a.eval x = u) (hy : a.eval y = v) {w w1 : World}
    (hr : (Go.binOp op t u v).run P w = .ok r w1) : (execOp a.eval ⟨dst, .binOp op t x y ty, t', p, af, g⟩).run P w = .ok (.value r) w1 := by
  obtain ⟨q, rfl⟩ := hu
  obtain ⟨q', rfl⟩ := hv
  have hg : eqGuard op t x y (.pointer q) (.pointer q') = pure () := by cases op <;> rfl
  simp only [execOp, hx, hy, hg, Sem.run_bind, Sem.run_pure, Result.andThen_ok, hr]
theorem r_defer {a : Act} {dst : Option Tmp} {x : Operand} {fn : Fn} {first captured : List Value} {xs : List Operand} {ats : Array TypeId} {t' : TypeId} {p : String} {af : Array Edge} {g : Option (Nat × Bool)} {args : List Value} {w : World}
    (hx : a.eval x = .func fn first.toArray captured.toArray) (ha : first ++ xs.map a.eval = args) :
    (execOp a.eval ⟨dst, .defer ⟨.value x, xs.toArray, ats⟩, t', p, af, g⟩).run P w = .ok (.defer { target := .fn fn captured.toArray, args := args.toArray }) w := by
  subst ha
  simp only [execOp, resolve, hx, Deferred.ofValue, Sem.run_bind, Sem.run_pure, Result.andThen_ok]
  simp
theorem vals_app (β : Nat → Nat) (l m : List SV) : vals β (l ++ m) = vals β l ++ vals β m := by simp [vals]
theorem loud_ok (hX : ∀ w0 w1 p, X w0 w1 p → p ∧ E w0 w1) {o : Oper} (hE : ∀ w w1, Only [] w w1 → E w w1) (hS : isSt o.op = true → ∀ bk k w w1 p, Y bk p → (∀ j, bk = some j → k = j) → Only [k] w w1 → p ∧ E w w1) (h : loud P X Y st o K) (hR : Rep β st a w) : o.wp P a w (Aft E st K w) Q := by
  obtain ⟨dst, op, t', p, af, g⟩ := o
  unfold loud at h
  dsimp only at h
  split at h
  · obtain ⟨x, hx, h⟩ := elimO_ex h
    obtain ⟨y, hy, h⟩ := elimO_ex h
    obtain ⟨hp, h⟩ := bif_ok h
    simp only [Bool.and_eq_true] at hp
    exact raw_fin hX h hR fun v w1 hr => r_binPt (ptS_ok hp.1 β) (ptS_ok hp.2 β) (hR.ev hx) (hR.ev hy) hr
  · obtain ⟨zs, hz, h⟩ := elimO_ex h
    obtain ⟨hc, h⟩ := bif_ok h
    obtain ⟨z, z1, z2⟩ := zc_ok hz w
    exact o_allocB z1 (z2 β) (fun _ => rfl) fun b w1 hb hO hB => new_fin hE hc h hR hb hO hB
  · obtain ⟨s, hs, h⟩ := elimO_ex h
    obtain ⟨zs, hz, h⟩ := elimO_ex h
    obtain ⟨hc, h⟩ := bif_ok h
    exact o_boxB (by rw [hR.ev hs]; exact (cellsS_ok hz β).1) (fun _ => rfl) fun b w1 hb hO hB => new_fin hE hc h hR hb hO hB
  · obtain ⟨q, hx, h⟩ := elimO_ex h
    obtain ⟨s, hy, h⟩ := elimO_ex h
    obtain ⟨vs, hv, h⟩ := elimO_ex h
    obtain ⟨hsz, h⟩ := bif_ok h
    obtain ⟨c1, c2⟩ := cellsS_ok hv β
    have hE' := hS rfl
    cases q with
    | box i off =>
      obtain ⟨b, hb, h⟩ := elimO_ex h
      obtain ⟨h1, h⟩ := bif_ok h
      simp only [Bool.and_eq_true] at h1
      have h2 := Nat.le_of_ble_eq_true h1.2
      refine o_storeB (sz_run hsz w) (hR.ev hx) (by rw [hR.ev hy]; exact c1) (vals_len β vs) c2 (hR.bx i b hb h1.1).blk (by rw [vals_len, vals_len]; exact h2) rfl rfl fun w1 hO hB => ?_
      rw [← spl_vals] at hB
      obtain ⟨h, he⟩ := hE' _ (β i) _ w1 _ h (fun j hj => (hR.bx i b hb h1.1).at_ j hj) hO
      exact ⟨β, _, h, (Ext.setBx hb).trans (Ext.put _ _ _), he, (hR.setBx hb h1.1 hO hB).put dst .un⟩
    | ad ad =>
      simp only [strV] at h
      obtain ⟨s1, h1, e1, hR1, hm, _⟩ := expose_ok h (hR.esc vs)
      obtain ⟨bk, off, cells, ety, rfl, hB, hfit, h2⟩ := h1
      obtain ⟨h3, h2⟩ := bif_ok h2
      simp only [Bool.and_eq_true] at h3
      obtain ⟨h2, hne⟩ := neB_ok h2
      have hw := hR1.still hm
      rw [← hw, hR1.valsE h3.1] at h2
      rw [← hw] at hB
      refine o_storeB (sz_run hsz w) (hR.ev hx) (by rw [hR.ev hy]; exact c1) (vals_len β vs) c2 hB (by rw [vals_len]; exact hfit) rfl rfl fun w1 hO hB1 => ?_
      obtain ⟨h4, h5⟩ := hX _ _ _ (h2 w1 hO hB1)
      refine ⟨β, _, h4, ((Ext.esc st vs).trans e1).trans (Ext.trans (t := { s1 with w0 := w1 }) ⟨rfl, Nat.le_refl _, fun _ _ _ h _ => h, fun i b' hb' ho hs => ⟨b', hb', ho, rfl, rfl, rfl, fun _ h => h⟩, psr, dfr⟩ (Ext.put _ _ _)), h5, ?_⟩
      refine Rep.put (v := .un) (Rep.next (ct' := s1.ct) hR1 hm h3.2 fun i b' hb' ho => ⟨b', hb', ho, rfl, ?_⟩) _
      have eD := hR1.blkD h3.2 hb' ho
      have := hne i b' hb' ho
      rw [eD] at this
      exact hO.blk (hR1.bx i b' hb' ho).blk (by simpa using this)
    | _ => exact h.elim
  · rename_i c
    obtain ⟨callee, ⟨xs⟩, ts⟩ := c
    obtain ⟨vs, hv, h⟩ := elimO_ex h
    have hvs := hR.evs hv
    dsimp only at h
    cases callee with
    | value f =>
      obtain ⟨fv, hf, h⟩ := elimO_ex h
      cases fv with
      | fn g' fs cs =>
        have ef : isL fs = true → isL cs = true → a.eval f = .func (.func g') (vals β (toL fs)).toArray (vals β (toL cs)).toArray := fun k1 k2 => by
          rw [hR.ev hf]
          show Value.func (.func g') (cvs β fs).toArray (cvs β cs).toArray = _
          rw [cvs_toL β k1, cvs_toL β k2]
        have h' := h
        unfold calV at h'
        rcases bif2 h' with ⟨h0, h1⟩ | ⟨_, h1⟩
        · simp only [Bool.and_eq_true] at h0
          obtain ⟨s1, h1, e1, hR1, hm, _⟩ := expose_ok h1 (hR.esc _)
          refine call_fin hX h1 hm ((Ext.esc _ _).trans e1) hR1 ?_
          exact r_enterC (ef h0.1.1 h0.1.2) (fnOk_run h0.2) (by rw [hvs, vals_app, vals_app, List.append_nil])
        · obtain ⟨h0, h1⟩ := bif_ok h1
          simp only [Bool.and_eq_true] at h0
          exact raw_fin hX h1 hR fun v w1 hr => r_extC (ef h0.1 h0.2) (by rw [hvs, vals_app, vals_app]) (extV_inv hr)
      | raw v =>
        simp only [calV] at h
        obtain ⟨s1, ⟨g', fst, cap, h1, h2, h3⟩, e1, hR1, hm, _⟩ := expose_ok h (hR.esc vs)
        refine callQ_fin hX h3 hm ((Ext.esc _ _).trans e1) hR1 ?_
        have ef : a.eval f = .func (.func g') fst.toArray cap.toArray := (hR.ev hf).trans h1
        exact r_enterC ef h2 (by rw [hvs]; rfl)
      | _ => exact h.elim
    | builtin b =>
      unfold bltV at h
      cases b with
      | append => exact raw_fin hX h hR fun v w1 hr => r_builtin_append hvs hr
      | copy => exact raw_fin hX h hR fun v w1 hr => r_builtin_copy hvs hr
      | delete => exact raw_fin hX h hR fun v w1 hr => r_builtin_delete hvs hr
      | clear => exact raw_fin hX h hR fun v w1 hr => r_builtin_clear hvs hr
      | len => exact raw_fin hX h hR fun v w1 hr => r_builtin_len hvs hr
      | unsafeSliceData => exact raw_fin hX h hR fun v w1 hr => (by rw [← hvs] at hr; exact r_builtin (fun _ => rfl) hr)
      | unsafeString => exact raw_fin hX h hR fun v w1 hr => (by rw [← hvs] at hr; exact r_builtin (fun _ => rfl) hr)
      | _ =>
        obtain ⟨s1, h1, _⟩ := expose_ok h (hR.esc vs)
        exact h1.elim
    | _ => exact h.elim
  · rename_i c
    obtain ⟨callee, ⟨xs⟩, ts⟩ := c
    obtain ⟨vs, hv, h⟩ := elimO_ex h
    have hvs := hR.evs hv
    dsimp only at h
    cases callee with
    | value f =>
      obtain ⟨fv, hf, h⟩ := elimO_ex h
      cases fv with
      | fn g' fs cs =>
        unfold defV at h
        obtain ⟨h0, h1⟩ := bif_ok h
        simp only [Bool.and_eq_true] at h0
        have ef : a.eval f = .func (.func g') (vals β (toL fs)).toArray (vals β (toL cs)).toArray := by
          rw [hR.ev hf]
          show Value.func (.func g') (cvs β fs).toArray (cvs β cs).toArray = _
          rw [cvs_toL β h0.1.1, cvs_toL β h0.1.2]
        obtain ⟨s1, h1, e1, hR1, hm, _⟩ := expose_ok h1 (hR.esc _)
        obtain ⟨hc, h1⟩ := bif_ok h1
        simp only [Bool.and_eq_true] at hc
        rw [hR1.valsE hc.1, hR1.valsE hc.2] at h1
        have hr := r_defer (P := P) (dst := dst) (ats := ts) (t' := t') (p := p) (af := af) (g := g) (w := w) ef (by rw [hvs, ← vals_app])
        unfold Oper.wp
        rw [hr, Oper.upon_defer]
        have hRd : Rep β { s1 with df := (g', vals β (toL fs ++ vs), vals β (toL cs)) :: s1.df } { a with defers := { target := .fn (.func g') (vals β (toL cs)).toArray, args := (vals β (toL fs ++ vs)).toArray } :: a.defers } w := by
          obtain ⟨us, hu⟩ := hR1.fr
          exact ⟨⟨us, by rw [hu]; rfl⟩, hR1.bx, hR1.ne, hR1.only, hR1.still⟩
        exact ⟨β, _, h1, ((Ext.esc _ _).trans e1).trans (Ext.trans (t := { s1 with df := (g', vals β (toL fs ++ vs), vals β (toL cs)) :: s1.df }) ⟨rfl, Nat.le_refl _, fun _ _ _ h _ => h, fun i b' hb' ho hs => ⟨b', hb', ho, rfl, rfl, rfl, fun _ h => h⟩, psr, ⟨[_], rfl⟩⟩ (Ext.put _ _ _)), hE _ _ (Only.refl _ _), hRd.put dst .un⟩
      | _ => exact h.elim
    | _ => exact h.elim
  · rename_i t n ps
    obtain ⟨l, hl, h1⟩ := elimO_ex h
    clear h
    obtain ⟨ps⟩ := ps
    refine raw_fin hX h1 hR fun v w1 hr => ?_
    rw [zp_ok] at hr
    exact r_buildSlice (hR.evp hl) hr
  · obtain ⟨u, hx, h⟩ := elimO_ex h
    obtain ⟨v, hy, h⟩ := elimO_ex h
    exact raw_fin0 hX h hR fun _ w1 hr => r_makeSlice (hR.ev hx) (hR.ev hy) hr
  · exact raw_fin0 hX h hR fun _ w1 hr => r_makeMap hr
  · obtain ⟨u, hx, h⟩ := elimO_ex h
    exact raw_fin0 hX h hR fun _ w1 hr => r_makeMapS (hR.ev hx) hr
  · obtain ⟨u, hx, h⟩ := elimO_ex h
    obtain ⟨v, hy, h⟩ := elimO_ex h
    exact raw_fin0 hX h hR fun _ w1 hr => r_lookup (hR.ev hx) (hR.ev hy) hr
  · obtain ⟨u, hx, h⟩ := elimO_ex h
    obtain ⟨v, hy, h⟩ := elimO_ex h
    obtain ⟨z, hz, h⟩ := elimO_ex h
    exact rawU_fin hX h hR fun w1 hr => r_mapUpdate (hR.ev hx) (hR.ev hy) (hR.ev hz) hr
  · obtain ⟨u, hx, h⟩ := elimO_ex h
    obtain ⟨v, hy, h⟩ := elimO_ex h
    obtain ⟨z, hz, h⟩ := elimO_ex h
    exact rawU_fin hX h hR fun w1 hr => r_insert (hR.ev hx) (hR.ev hy) (hR.ev hz) hr
  · obtain ⟨u, hx, h⟩ := elimO_ex h
    exact raw_fin hX h hR fun _ w1 hr => r_convert (hR.ev hx) hr
  · exact h.elim
end
end Go.Kt.V
