
/-
  Own work: the ground of this seat's walks: what changes in memory ('Only'), blocks known whole ('Blk'), cells in a row ('Cells'), and one law for each kind of operation. No program in sight.
-/
import Derived.WalkKit
import Derived.Deep.Draws
import Derived.Deep.LoopGhost
import Derived.Deep.Quiet
import Derived.OrdersHeld
import Derived.Laws.Small
namespace Go.Kt
open Go Go.RowKit

/-- a slice value by its parts -/
structure Sl where
  a : Option Addr
  n : Nat
  c : Nat
@[reducible] def Sl.v (s : Sl) : Value := .slice s.a s.n s.c
@[reducible] def Sl.nil : Sl := ⟨none, 0, 0⟩
def Sl.cut (s : Sl) (l h m size : Nat) : Sl := ⟨if m = l then s.a else s.a.map (·.add (l * size)), h - l, m - l⟩
/-- 'ad' is where element i of s lies -/
def SlAt (s : Sl) (i : Int) (size : Nat) (ad : Addr) : Prop := ∃ base, s.a = some base ∧ 0 ≤ i ∧ i < s.n ∧ ad = base.add (i.toNat * size)

/-- of what was there only the blocks bs may have turned -/
structure Only (bs : List Nat) (w w' : World) : Prop where
  os : w'.os = w.os
  tape : w'.tape = w.tape
  output : w'.output = w.output
  size : w.heap.size ≤ w'.heap.size
  block : ∀ k, k < w.heap.size → k ∉ bs → w'.heap[k]? = w.heap[k]?

/-- block b is just the cells cs of element type t, none frozen -/
def Blk (w : World) (b : Nat) (t : TypeId) (cs : List Value) : Prop := w.heap[b]? = some (.cells cs.toArray t (0, 0))
/-- from address a on lie the cells cs -/
def Cells (w : World) (a : Addr) (cs : List Value) : Prop := ∀ j v, cs[j]? = some v → w.cell? (a.add j) = some v
/-- these blocks are as they were -/
def Same (bs : List Nat) (w w' : World) : Prop := ∀ b, b ∈ bs → w'.heap[b]? = w.heap[b]?
def byteV (b : UInt8) : Value := .int .u8 (b.toNat : Int)
/-- slice s reads as the bytes l -/
def Bytes (w : World) (s : Sl) (l : List UInt8) : Prop := s.n = l.length ∧ (l ≠ [] → ∃ ad, s.a = some ad ∧ Cells w ad (l.map byteV))
def Sl.blk (s : Sl) : Nat := match s.a with | some a => a.block | none => 0
/-- cs with vs laid over from place o on -/
def splice (cs : List Value) (o : Nat) (vs : List Value) : List Value := cs.take o ++ vs ++ cs.drop (o + vs.length)

section
variable {w w' w'' : World} {bs bs' : List Nat} {b : Nat} {t : TypeId} {cs : List Value}

theorem Blk.lt (h : Blk w b t cs) : b < w.heap.size := (Array.getElem?_eq_some_iff.1 h).1
theorem Only.refl (bs : List Nat) (w : World) : Only bs w w := ⟨rfl, rfl, rfl, Nat.le_refl _, fun _ _ _ => rfl⟩
theorem Only.weaken (h : Only bs w w') (hb : ∀ x, x ∈ bs → x ∈ bs' ∨ w.heap.size ≤ x) : Only bs' w w' :=
  ⟨h.os, h.tape, h.output, h.size, fun k hk hn => h.block k hk fun hm => by
    rcases hb k hm with h1 | h1
    · exact hn h1
    · omega⟩
theorem Only.trans (h : Only bs w w') (k : Only bs' w' w'') (hb : ∀ x, x ∈ bs' → x ∈ bs ∨ w.heap.size ≤ x) : Only bs w w'' :=
  ⟨k.os.trans h.os, k.tape.trans h.tape, k.output.trans h.output, Nat.le_trans h.size k.size, fun i hi hn =>
    (k.block i (Nat.lt_of_lt_of_le hi h.size) fun hm => by
      rcases hb i hm with h1 | h1
      · exact hn h1
      · omega).trans (h.block i hi hn)⟩
theorem Only.tr0 (h : Only bs w w') (k : Only [] w' w'') : Only bs w w'' := h.trans k (by simp)
theorem Only.cons (h : Only bs w w') (k : Only [b] w' w'') : Only (b :: bs) w w'' :=
  (h.weaken (bs' := b :: bs) fun _ hx => .inl (List.mem_cons_of_mem _ hx)).trans k fun x hx => .inl (by simp only [List.mem_singleton] at hx; simp [hx])
theorem Only.mem (h : Only bs w w') (k : Only [b] w' w'') (hb : b ∈ bs) : Only bs w w'' := h.trans k fun x hx => .inl (by simp only [List.mem_singleton] at hx; simpa [hx] using hb)
theorem Only.new (h : Only bs w w') (k : Only [b] w' w'') (hb : w.heap.size ≤ b) : Only bs w w'' := h.trans k fun x hx => .inr (by simp only [List.mem_singleton] at hx; simpa [hx] using hb)
theorem Only.blk (h : Only bs w w') (hb : Blk w b t cs) (hn : b ∉ bs) : Blk w' b t cs := (h.block b hb.lt hn).trans hb
theorem Only.below (h : Only bs w w') {B : Nat} (hB : B ≤ w.heap.size) (hb : ∀ x, x ∈ bs → B ≤ x) : Below B w w' :=
  ⟨h.os, h.tape, h.output, h.size, fun k hk => h.block k (by omega) fun hm => by have := hb k hm; omega⟩
theorem Only.of_below (h : Below w.heap.size w w') : Only [] w w' := ⟨h.os, h.tape, h.output, h.size, fun k hk _ => h.block k hk⟩
theorem Only.drew (w : World) : Only [] w w.drew := ⟨rfl, rfl, rfl, Nat.le_refl _, fun _ _ _ => rfl⟩
theorem Only.drewN (w : World) (n : Nat) : Only [] w (w.drewN n) := ⟨rfl, rfl, rfl, Nat.le_refl _, fun _ _ _ => rfl⟩
theorem Only.alloc (w : World) (o : Obj) : Only [] w (w.alloc o) := ⟨rfl, rfl, rfl, by simp, fun k hk _ => _root_.Go.heap_alloc_old w o hk⟩
theorem Only.setRow (w : World) (b : Nat) (cs : Array Value) : Only [b] w (w.setRow b cs) := ⟨rfl, rfl, rfl, by simp, fun k _ hn => setRow_other w b k cs (by simpa using hn)⟩
theorem Only.same (h : Only bs w w') (hl : ∀ x, x ∈ bs' → x < w.heap.size ∧ x ∉ bs) : Same bs' w w' := fun x hx => h.block x (hl x hx).1 (hl x hx).2
theorem Same.blk (h : Same bs w w') (hb : Blk w b t cs) (hm : b ∈ bs) : Blk w' b t cs := (h b hm).trans hb
theorem Blk.alloc (w : World) (t : TypeId) (cs : List Value) : Blk (w.alloc (.cells cs.toArray t)) w.heap.size t cs := heap_alloc_new w _
theorem Blk.setRow (h : Blk w b t cs) (cs' : List Value) : Blk (w.setRow b cs'.toArray) b t cs' := setRow_heap w b _ _ t _ h
theorem Blk.cell (h : Blk w b t cs) (i : Nat) : w.cell? ⟨b, i, none⟩ = cs[i]? := by rw [cell_of_row w b i cs.toArray t (0, 0) h]; simp
theorem Blk.cells (h : Blk w b t cs) (o : Nat) (vs : List Value) (hv : ∀ j v, vs[j]? = some v → cs[o + j]? = some v) : Cells w ⟨b, o, none⟩ vs := fun j v hj => by
  have hadd : (⟨b, o, none⟩ : Addr).add j = ⟨b, o + j, none⟩ := by unfold Addr.add; split <;> simp_all
  rw [hadd, h.cell]; exact hv j v hj
/-- the cells of a box, by looking -/
theorem Blk.cellsAt (h : Blk w b t cs) (o : Nat) (vs : List Value) (hv : (cs.drop o).take vs.length = vs) : Cells w ⟨b, o, none⟩ vs := h.cells o vs fun j v hj => by
  rw [← hv, List.getElem?_take] at hj
  split at hj
  · simpa using hj
  · cases hj
theorem Cells.one {a : Addr} {v : Value} (h : Cells w a [v]) : w.cell? a = some v := by have := h 0 v rfl; simpa [Addr.add] using this
theorem Cells.keep {a : Addr} (h : Cells w a cs) (hk : w'.heap[a.block]? = w.heap[a.block]?) : Cells w' a cs := fun j v hj => by
  rw [World.cell?_of_block (w := w) (w' := w') (a := a.add j)]
  · exact h j v hj
  · have : (a.add j).block = a.block := by unfold Addr.add; split <;> rfl
    rw [this, hk]
theorem Cells.lt' {a : Addr} (h : Cells w a cs) (hc : cs ≠ []) : a.block < w.heap.size := by
  cases cs with
  | nil => exact absurd rfl hc
  | cons v cs =>
    have h2 := block_lt_of_cell (h 0 v rfl)
    have e : (a.add 0).block = a.block := rfl
    omega
theorem Cells.lt {a : Addr} {v : Value} (h : Cells w a (v :: cs)) : a.block < w.heap.size := by
  have := h 0 v rfl
  have h2 := block_lt_of_cell this
  have e : (a.add 0).block = a.block := rfl
  omega
end

section
variable {P : Program} {ops : Array Oper} {Q : Exit → Act → World → Prop} {rest : List Oper} {a a' : Act} {w w' : World}

/-! ### the frame behind an operation -/
theorem f0 (l : List Value) (ds : List Deferred) (k : Nat) (v : Value) : Act.put ⟨l.toArray, ds⟩ (some k) v = ⟨(l.set k v).toArray, ds⟩ := by simp [Act.put]
theorem f1 (x : Value) (l : List Value) (v : Value) : (x :: l).set 0 v = v :: l := rfl
theorem f3 (a : Act) (v : Value) : a.put none v = a := rfl
theorem f2 (x : Value) (l : List Value) (k : Nat) (v : Value) : (x :: l).set (k + 1) v = x :: l.set k v := rfl

def nthO : List Oper → Nat → Option Oper
  | [], _ => none
  | v :: _, 0 => some v
  | _ :: r, n + 1 => nthO r n
theorem nthO_eq : ∀ (l : List Oper) (n : Nat), nthO l n = l[n]?
  | [], _ => rfl
  | _ :: _, 0 => rfl
  | _ :: r, n + 1 => nthO_eq r n

/-! ### is an operation wanted -/
def nthV : List Value → Nat → Option Value
  | [], _ => none
  | v :: _, 0 => some v
  | _ :: r, n + 1 => nthV r n
theorem nthV_eq : ∀ (l : List Value) (n : Nat), nthV l n = l[n]?
  | [], _ => rfl
  | _ :: _, 0 => rfl
  | _ :: r, n + 1 => nthV_eq r n
theorem wt {o oj : Oper} {opsl : List Oper} {l : List Value} {ds : List Deferred} {j d : Nat} {want b r : Bool} (h1 : o.guard = some (j, want)) (h2 : nthO opsl j = some oj) (h3 : oj.dst = some d)
    (h4 : nthV l d = some (.bool b)) (h5 : (b == want) = r) : Region.wanted o (yielded opsl.toArray (⟨l.toArray, ds⟩ : Act).tmps) = r := by
  subst h5
  rw [nthO_eq] at h2
  rw [nthV_eq] at h4
  have e : yielded opsl.toArray (⟨l.toArray, ds⟩ : Act).tmps j = some b := by simp [yielded, h2, h3, h4]
  simp only [Region.wanted, h1, e]
  cases b <;> cases want <;> rfl
theorem wn {o : Oper} {f : Nat → Option Bool} (h : o.guard = none) : Region.wanted o f = true := by simp [Region.wanted, h]

/-! ### one operation -/
theorem st_val {o : Oper} (v : Value) (hg : Region.wanted o (yielded ops a.tmps) = true)
    (hr : (execOp a.eval o).run P w = .ok (.value v) w') (ha : a.put o.dst v = a') (h : wpList P ops Q rest a' w') : wpList P ops Q (o :: rest) a w := by
  subst ha
  unfold wpList
  rw [if_pos hg]
  refine .inl ?_
  unfold Oper.wp
  rw [hr]
  exact h
theorem st_no {o : Oper} (hg : Region.wanted o (yielded ops a.tmps) = false) (ha : a.put o.dst undef = a') (h : wpList P ops Q rest a' w) : wpList P ops Q (o :: rest) a w := by
  subst ha
  unfold wpList
  rw [if_neg (by simp [hg])]
  exact h
/-! ### runs -/
theorem r_load1 {dst : Option Tmp} {ty : TypeId} {x : Operand} {t' : TypeId} {p : String} {af : Array Edge} {g : Option (Nat × Bool)} {ad : Addr} {v : Value}
    (hagg : (isAgg ty).run P w = .ok false w) (hx : a.eval x = .pointer (some ad)) (hc : w.cell? ad = some v) :
    (execOp a.eval ⟨dst, .load ty x, t', p, af, g⟩).run P w = .ok (.value v) w := by
  simp only [execOp, hx, Instr.loadAt, Instr.sureAddr, Sem.run_bind, Sem.run_pure, Result.andThen_ok, loadVar, hagg, Bool.false_eq_true, if_false, run_load, hc]
theorem r_loadN {dst : Option Tmp} {ty : TypeId} {x : Operand} {t' : TypeId} {p : String} {af : Array Edge} {g : Option (Nat × Bool)} {ad : Addr} {cs : List Value} {n : Nat}
    (hagg : (isAgg ty).run P w = .ok true w) (hsz : (sizeOf ty).run P w = .ok n w) (hn : cs.length = n) (hx : a.eval x = .pointer (some ad)) (hc : Cells w ad cs) :
    (execOp a.eval ⟨dst, .load ty x, t', p, af, g⟩).run P w = .ok (.value (.agg cs.toArray)) w := by
  have hl := run_loadCells_list (P := P) w ad cs hc
  rw [hn] at hl
  simp only [execOp, hx, Instr.loadAt, Instr.sureAddr, Sem.run_bind, Sem.run_pure, Result.andThen_ok, loadVar, hagg, if_true, hsz, hl]
theorem r_store {dst : Option Tmp} {ty : TypeId} {x y : Operand} {t' : TypeId} {p : String} {af : Array Edge} {g : Option (Nat × Bool)} {b o : Nat} {cs vs : List Value} {et : TypeId} {n : Nat}
    (hsz : (sizeOf ty).run P w = .ok n w) (hx : a.eval x = .pointer (some ⟨b, o, none⟩)) (hv : (a.eval y).cells = vs.toArray) (hn : vs.length = n)
    (h1 : ∀ v ∈ vs, v.oneCell' = true) (hb : Blk w b et cs) (hfit : o + vs.length ≤ cs.length) :
    (execOp a.eval ⟨dst, .store ty x y, t', p, af, g⟩).run P w = .ok .skip (w.setRow b (splice cs o vs).toArray) := by
  have hst := run_storeCells_at P b o et vs 0 cs.toArray w hb (by simpa using hfit) h1
  simp only [execOp, hx, Instr.storeAt, Instr.sureAddr, Sem.run_bind, Sem.run_pure, Result.andThen_ok, storeVar, hsz, hv, List.size_toArray, hn, ne_eq, not_true_eq_false, if_false, hst, splice, Nat.add_zero]
theorem r_alloc {dst : Option Tmp} {ty : TypeId} {t' : TypeId} {p : String} {af : Array Edge} {g : Option (Nat × Bool)} {z : Value} {zs : List Value}
    (hz : (zeroValue ty).run P w = .ok z w) (hc : z.cells = zs.toArray) :
    (execOp a.eval ⟨dst, .alloc ty, t', p, af, g⟩).run P w = .ok (.value (.pointer (some ⟨w.heap.size, 0, none⟩))) (w.alloc (.cells zs.toArray ty)) := by
  simp only [execOp, Instr.alloc, Sem.run_bind, hz, Result.andThen_ok, newVar, newRow, newObj, hc, Sem.run, Sem.run_pure]
  rfl
theorem r_box {dst : Option Tmp} {ty : TypeId} {x : Operand} {t' : TypeId} {p : String} {af : Array Edge} {g : Option (Nat × Bool)} {zs : List Value}
    (hc : (a.eval x).cells = zs.toArray) :
    (execOp a.eval ⟨dst, .box ty x, t', p, af, g⟩).run P w = .ok (.value (.pointer (some ⟨w.heap.size, 0, none⟩))) (w.alloc (.cells zs.toArray ty)) := by
  simp only [execOp, Instr.box, Sem.run_bind, Result.andThen_ok, newVar, newRow, newObj, hc, Sem.run, Sem.run_pure]
  rfl
theorem r_nil {dst : Option Tmp} {x : Operand} {t' : TypeId} {p : String} {af : Array Edge} {g : Option (Nat × Bool)} {ad : Addr} (hx : a.eval x = .pointer (some ad)) :
    (execOp a.eval ⟨dst, .nilCheck x, t', p, af, g⟩).run P w = .ok (.value (.pointer (some ad))) w := by
  simp only [execOp, hx, Sem.run_pure]
theorem r_field {dst : Option Tmp} {s : TypeId} {x : Operand} {k : Nat} {t' : TypeId} {p : String} {af : Array Edge} {g : Option (Nat × Bool)} {ad ad' : Addr} {fs : Array Field} {f : Field} {n : Nat}
    (hu : (underlying s).run P w = .ok (.struct fs) w) (hf : fs[k]? = some f) (hsz : (sizeOf f.type).run P w = .ok (n + 1) w) (hx : a.eval x = .pointer (some ad)) (he : ad.add f.offset = ad') :
    (execOp a.eval ⟨dst, .fieldAddr s x k, t', p, af, g⟩).run P w = .ok (.value (.pointer (some ad'))) w := by
  subst he
  simp [execOp, hx, Instr.fieldAt, Instr.sureAddr, hu, hf, fieldPlace, hsz]
theorem r_pickT {dst : Option Tmp} {c x y : Operand} {t' : TypeId} {p : String} {af : Array Edge} {g : Option (Nat × Bool)} {v : Value} (hc : a.eval c = .bool true) (hv : a.eval x = v) :
    (execOp a.eval ⟨dst, .pick c x y, t', p, af, g⟩).run P w = .ok (.value v) w := by
  subst hv
  simp [execOp, hc, asBool]
theorem r_pickF {dst : Option Tmp} {c x y : Operand} {t' : TypeId} {p : String} {af : Array Edge} {g : Option (Nat × Bool)} {v : Value} (hc : a.eval c = .bool false) (hv : a.eval y = v) :
    (execOp a.eval ⟨dst, .pick c x y, t', p, af, g⟩).run P w = .ok (.value v) w := by
  subst hv
  simp [execOp, hc, asBool]
theorem r_build {dst : Option Tmp} {t : TypeId} {ps : List (Nat × Operand)} {t' : TypeId} {p : String} {af : Array Edge} {g : Option (Nat × Bool)} {ps' : List (Nat × Value)} {v : Value}
    (hp : (ps.map fun q => (q.1, a.eval q.2)) = ps') (hr : (Instr.build t ps'.toArray).run P w = .ok v w) :
    (execOp a.eval ⟨dst, .build t ps.toArray, t', p, af, g⟩).run P w = .ok (.value v) w := by
  subst hp
  simp only [execOp, List.map_toArray, Sem.run_bind, hr, Result.andThen_ok, Sem.run_pure]
theorem r_indexS {dst : Option Tmp} {t e : TypeId} {x i : Operand} {t' : TypeId} {p : String} {af : Array Edge} {g : Option (Nat × Bool)} {s : Sl} {k : IntKind} {n : Int} {ad : Addr} {sz : Nat}
    (hu : (underlying t).run P w = .ok (.slice e) w) (hsz : (sizeOf e).run P w = .ok sz w) (hx : a.eval x = s.v) (hi : a.eval i = .int k n) (hat : SlAt s n sz ad) :
    (execOp a.eval ⟨dst, .indexAddr t x i, t', p, af, g⟩).run P w = .ok (.value (.pointer (some ad))) w := by
  obtain ⟨base, hb, h0, h1, rfl⟩ := hat
  simp [execOp, hx, hi, Instr.indexAt, asIntOf, hu, hsz, hb, h0, h1]
theorem r_indexA {dst : Option Tmp} {t e : TypeId} {x i : Operand} {t' : TypeId} {p : String} {af : Array Edge} {g : Option (Nat × Bool)} {len : Nat} {k : IntKind} {n : Int} {ad ad' : Addr} {sz : Nat}
    (hu : (underlying t).run P w = .ok (.array len e) w) (hsz : (sizeOf e).run P w = .ok sz w) (hx : a.eval x = .pointer (some ad)) (hi : a.eval i = .int k n) (h0 : 0 ≤ n) (h1 : n < len) (he : ad.add (n.toNat * sz) = ad') :
    (execOp a.eval ⟨dst, .indexAddr t x i, t', p, af, g⟩).run P w = .ok (.value (.pointer (some ad'))) w := by
  subst he
  simp [execOp, hx, hi, Instr.indexAt, asIntOf, hu, hsz, h0, h1, Instr.sureAddr]
theorem r_builtin {b : Builtin} {s : Sem Value} {dst : Option Tmp} {xs : List Operand} {ts : Array TypeId} {t' : TypeId} {p : String} {af : Array Edge} {g : Option (Nat × Bool)} {v : Value}
    (hb : ∀ consts, builtin b ts t' consts (xs.map a.eval).toArray = (do pure (.value (← s)))) (hr : s.run P w = .ok v w') :
    (execOp a.eval ⟨dst, .call ⟨.builtin b, xs.toArray, ts⟩, t', p, af, g⟩).run P w = .ok (.value v) w' := by
  simp only [execOp, resolve, Sem.run_bind, Sem.run_pure, Result.andThen_ok, invoke, List.map_toArray]
  rw [hb]
  simp only [Sem.run_bind, Sem.run_pure, hr, Result.andThen_ok]
theorem r_builtin_append {dst : Option Tmp} {xs : List Operand} {ts : Array TypeId} {t' : TypeId} {p : String} {af : Array Edge} {g : Option (Nat × Bool)} {v : Value} {vs : List Value} (hx : xs.map a.eval = vs)
    (hr : (Builtin.append_ ts t' vs.toArray).run P w = .ok v w') : (execOp a.eval ⟨dst, .call ⟨.builtin .append, xs.toArray, ts⟩, t', p, af, g⟩).run P w = .ok (.value v) w' := by
  subst hx
  exact r_builtin (fun _ => rfl) hr
theorem r_builtin_copy {dst : Option Tmp} {xs : List Operand} {ts : Array TypeId} {t' : TypeId} {p : String} {af : Array Edge} {g : Option (Nat × Bool)} {v : Value} {vs : List Value} (hx : xs.map a.eval = vs)
    (hr : (Builtin.copy_ ts t' vs.toArray).run P w = .ok v w') : (execOp a.eval ⟨dst, .call ⟨.builtin .copy, xs.toArray, ts⟩, t', p, af, g⟩).run P w = .ok (.value v) w' := by
  subst hx
  exact r_builtin (fun _ => rfl) hr
theorem r_builtin_delete {dst : Option Tmp} {xs : List Operand} {ts : Array TypeId} {t' : TypeId} {p : String} {af : Array Edge} {g : Option (Nat × Bool)} {v : Value} {vs : List Value} (hx : xs.map a.eval = vs)
    (hr : (Builtin.delete_ ts t' vs.toArray).run P w = .ok v w') : (execOp a.eval ⟨dst, .call ⟨.builtin .delete, xs.toArray, ts⟩, t', p, af, g⟩).run P w = .ok (.value v) w' := by
  subst hx
  exact r_builtin (fun _ => rfl) hr
theorem r_builtin_clear {dst : Option Tmp} {xs : List Operand} {ts : Array TypeId} {t' : TypeId} {p : String} {af : Array Edge} {g : Option (Nat × Bool)} {v : Value} {vs : List Value} (hx : xs.map a.eval = vs)
    (hr : (Builtin.clear_ ts t' vs.toArray).run P w = .ok v w') : (execOp a.eval ⟨dst, .call ⟨.builtin .clear, xs.toArray, ts⟩, t', p, af, g⟩).run P w = .ok (.value v) w' := by
  subst hx
  exact r_builtin (fun _ => rfl) hr
theorem r_builtin_len {dst : Option Tmp} {xs : List Operand} {ts : Array TypeId} {t' : TypeId} {p : String} {af : Array Edge} {g : Option (Nat × Bool)} {v : Value} {vs : List Value} (hx : xs.map a.eval = vs)
    (hr : (Builtin.len_ ts t' vs.toArray).run P w = .ok v w') : (execOp a.eval ⟨dst, .call ⟨.builtin .len, xs.toArray, ts⟩, t', p, af, g⟩).run P w = .ok (.value v) w' := by
  subst hx
  exact r_builtin (fun _ => rfl) hr
section
variable {dst : Option Tmp} {x y z : Operand} {t t2 : TypeId} {t' : TypeId} {p : String} {af : Array Edge} {g : Option (Nat × Bool)} {u v vx vy vz : Value}
theorem r_buildSlice {n : Nat} {ps : List (Nat × Operand)} {ps' : List (Nat × Value)} (hp : (ps.map fun q => (q.1, a.eval q.2)) = ps') (hr : (Instr.buildSlice t n ps'.toArray).run P w = .ok v w') :
    (execOp a.eval ⟨dst, .buildSlice t n ps.toArray, t', p, af, g⟩).run P w = .ok (.value v) w' := by
  subst hp
  simp only [execOp, List.map_toArray, Sem.run_bind, hr, Result.andThen_ok, Sem.run_pure]
theorem r_makeSlice (hx : a.eval x = vx) (hy : a.eval y = vy) (hr : (Instr.makeSlice t vx vy).run P w = .ok v w') : (execOp a.eval ⟨dst, .makeSlice t x y, t', p, af, g⟩).run P w = .ok (.value v) w' := by
  simp only [execOp, hx, hy, Sem.run_bind, hr, Result.andThen_ok, Sem.run_pure]
theorem r_makeMap (hr : (Instr.makeMap t none).run P w = .ok v w') : (execOp a.eval ⟨dst, .makeMap t none, t', p, af, g⟩).run P w = .ok (.value v) w' := by
  simp only [execOp, Option.map_none, Sem.run_bind, hr, Result.andThen_ok, Sem.run_pure]
theorem r_makeMapS (hx : a.eval x = vx) (hr : (Instr.makeMap t (some vx)).run P w = .ok v w') : (execOp a.eval ⟨dst, .makeMap t (some x), t', p, af, g⟩).run P w = .ok (.value v) w' := by
  simp only [execOp, Option.map_some, hx, Sem.run_bind, hr, Result.andThen_ok, Sem.run_pure]
theorem r_lookup {b : Bool} (hx : a.eval x = vx) (hy : a.eval y = vy) (hr : (Instr.lookup t vx vy b).run P w = .ok v w') : (execOp a.eval ⟨dst, .lookup t x y b, t', p, af, g⟩).run P w = .ok (.value v) w' := by
  simp only [execOp, hx, hy, Sem.run_bind, hr, Result.andThen_ok, Sem.run_pure]
theorem r_mapUpdate (hx : a.eval x = vx) (hy : a.eval y = vy) (hz : a.eval z = vz) (hr : (Instr.mapUpdate t vx vy vz).run P w = .ok () w') : (execOp a.eval ⟨dst, .mapUpdate t x y z, t', p, af, g⟩).run P w = .ok .skip w' := by
  simp only [execOp, hx, hy, hz, Sem.run_bind, hr, Result.andThen_ok, Sem.run_pure]
theorem r_insert (hx : a.eval x = vx) (hy : a.eval y = vy) (hz : a.eval z = vz) (hr : (Instr.mapUpdate t vx vy vz).run P w = .ok () w') : (execOp a.eval ⟨dst, .insert t x y z, t', p, af, g⟩).run P w = .ok .skip w' := by
  simp only [execOp, hx, hy, hz, Sem.run_bind, hr, Result.andThen_ok, Sem.run_pure]
theorem r_convert (hx : a.eval x = vx) (hr : (convert t t2 vx).run P w = .ok v w') : (execOp a.eval ⟨dst, .convert t t2 x, t', p, af, g⟩).run P w = .ok (.value v) w' := by
  simp only [execOp, hx, Sem.run_bind, hr, Result.andThen_ok, Sem.run_pure]
end
theorem r_len {dst : Option Tmp} {t : TypeId} {e : TypeId} {x : Operand} {t' : TypeId} {p : String} {af : Array Edge} {g : Option (Nat × Bool)} {s : Sl}
    (hu : (underlying t).run P w = .ok (.slice e) w) (hx : a.eval x = s.v) :
    (execOp a.eval ⟨dst, .call ⟨.builtin .len, #[x], #[t]⟩, t', p, af, g⟩).run P w = .ok (.value (.int .i64 s.n)) w := by
  simp [execOp, resolve, invoke, builtin, Builtin.len_, hu, hx, goInt]
theorem r_enterC {dst : Option Tmp} {x : Operand} {f : FuncId} {first captured : List Value} {xs : List Operand} {ats : Array TypeId} {t' : TypeId} {p : String} {af : Array Edge} {g : Option (Nat × Bool)} {args : List Value}
    (hx : a.eval x = .func (.func f) first.toArray captured.toArray)
    (hc : ∀ (args : Array Value) (w : World), (callFunc f args).run P w = .ok (.enter f args) w) (ha : first ++ xs.map a.eval ++ captured = args) :
    (execOp a.eval ⟨dst, .call ⟨.value x, xs.toArray, ats⟩, t', p, af, g⟩).run P w = .ok (.enter f args.toArray) w := by
  subst ha
  simp only [execOp, resolve, hx, Deferred.ofValue, Sem.run_bind, Sem.run_pure, Result.andThen_ok, invoke, hc]
  simp

theorem sbound {x : Value} {k : IntKind} {i y : Nat} {code : BoundsCode} (hx : x = .int k (i : Int)) (h : i ≤ y) : (Instr.sliceBound x y code).run P w = .ok i w := by
  subst hx
  have : (i : Int) ≤ (y : Int) := by omega
  simp [Instr.sliceBound, asIntOf, this]
theorem r_bytesStr {dst : Option Tmp} {s d e : TypeId} {x : Operand} {t' : TypeId} {p : String} {af : Array Edge} {g : Option (Nat × Bool)} {sl : Sl} {l : List UInt8}
    (hs : P.underlying s = some (.slice e)) (he : P.underlying e = some (.int .u8)) (hd : P.underlying d = some .string) (hx : a.eval x = sl.v) (hb : Bytes w sl l) :
    (execOp a.eval ⟨dst, .convert s d x, t', p, af, g⟩).run P w = .ok (.value (.string ⟨l.toArray⟩)) w := by
  obtain ⟨hn, hc⟩ := hb
  obtain ⟨sa, sn, sc⟩ := sl
  simp only at hn hc
  subst hn
  have key : (convert s d (.slice sa l.length sc)).run P w = .ok (.string ⟨l.toArray⟩) w := by
    cases sa with
    | none =>
      have : l = [] := Classical.byContradiction fun h => by obtain ⟨ad, h1, _⟩ := hc h; cases h1
      subst this
      exact run_convert_bytes_nil w s e hs he _ _ d hd
    | some ad =>
      refine run_convert_bytes_back w s d e ad sc l hs he hd fun j hj => ?_
      obtain ⟨ad', h1, h2⟩ := hc (fun h => by simp [h] at hj)
      injection h1 with h1
      subst h1
      exact h2 j _ (by simp [byteV, List.getElem?_eq_getElem hj])
  simp only [execOp, hx, Sem.run_bind, key, Result.andThen_ok, Sem.run_pure]
theorem r_makeFunc {dst : Option Tmp} {fn : Fn} {fs cs : List Operand} {t' : TypeId} {p : String} {af : Array Edge} {g : Option (Nat × Bool)} {fv cv : List Value} (h1 : fs.map a.eval = fv) (h2 : cs.map a.eval = cv) :
    (execOp a.eval ⟨dst, .makeFunc fn fs.toArray cs.toArray, t', p, af, g⟩).run P w = .ok (.value (.func fn fv.toArray cv.toArray)) w := by
  subst h1
  subst h2
  simp only [execOp, Instr.makeFunc, List.map_toArray, Sem.run_bind, Sem.run_pure, Result.andThen_ok]
theorem r_quo {dst : Option Tmp} {t ty : TypeId} {x y : Operand} {t' : TypeId} {p : String} {af : Array Edge} {g : Option (Nat × Bool)} {k : IntKind} {m n : Int} (hx : a.eval x = .int k m) (hy : a.eval y = .int k n) (hn : n ≠ 0) :
    (execOp a.eval ⟨dst, .binOp .quo t x y ty, t', p, af, g⟩).run P w = .ok (.value (.int k (k.wrap (m.tdiv n)))) w := by
  have e : binOp .quo t (.int k m) (.int k n) = Op.intDiv .quo k m n := by simp [binOp]
  have hg : eqGuard .quo t x y (.int k m) (.int k n) = pure () := rfl
  simp only [execOp, hx, hy, hg, e, Op.intDiv, hn, if_false, Sem.run_bind, Sem.run_pure, Result.andThen_ok]
theorem r_rem {dst : Option Tmp} {t ty : TypeId} {x y : Operand} {t' : TypeId} {p : String} {af : Array Edge} {g : Option (Nat × Bool)} {k : IntKind} {m n : Int} (hx : a.eval x = .int k m) (hy : a.eval y = .int k n) (hn : n ≠ 0) :
    (execOp a.eval ⟨dst, .binOp .rem t x y ty, t', p, af, g⟩).run P w = .ok (.value (.int k (m.tmod n))) w := by
  have e : binOp .rem t (.int k m) (.int k n) = Op.intDiv .rem k m n := by simp [binOp]
  have hg : eqGuard .rem t x y (.int k m) (.int k n) = pure () := rfl
  simp only [execOp, hx, hy, hg, e, Op.intDiv, hn, if_false, Sem.run_bind, Sem.run_pure, Result.andThen_ok]
theorem r_shl {dst : Option Tmp} {t ty : TypeId} {x y : Operand} {t' : TypeId} {p : String} {af : Array Edge} {g : Option (Nat × Bool)} {k k' : IntKind} {m n : Int} (hx : a.eval x = .int k m) (hy : a.eval y = .int k' n) (hn : 0 ≤ n) :
    (execOp a.eval ⟨dst, .binOp .shl t x y ty, t', p, af, g⟩).run P w = .ok (.value (.int k (k.wrap (m * 2 ^ (min n.toNat k.bits))))) w := by
  have hg : eqGuard .shl t x y (.int k m) (.int k' n) = pure () := rfl
  have e : binOp .shl t (.int k m) (.int k' n) = Op.shift .shl k m k' n := rfl
  have hn' : ¬ n < 0 := by omega
  simp only [execOp, hx, hy, hg, e, Op.shift, hn', if_false, Sem.run_bind, Sem.run_pure, Result.andThen_ok]
theorem r_shr {dst : Option Tmp} {t ty : TypeId} {x y : Operand} {t' : TypeId} {p : String} {af : Array Edge} {g : Option (Nat × Bool)} {k k' : IntKind} {m n : Int} (hx : a.eval x = .int k m) (hy : a.eval y = .int k' n) (hn : 0 ≤ n) :
    (execOp a.eval ⟨dst, .binOp .shr t x y ty, t', p, af, g⟩).run P w = .ok (.value (.int k (m.fdiv (2 ^ (min n.toNat k.bits))))) w := by
  have hg : eqGuard .shr t x y (.int k m) (.int k' n) = pure () := rfl
  have e : binOp .shr t (.int k m) (.int k' n) = Op.shift .shr k m k' n := rfl
  have hn' : ¬ n < 0 := by omega
  simp only [execOp, hx, hy, hg, e, Op.shift, hn', if_false, Sem.run_bind, Sem.run_pure, Result.andThen_ok]
theorem r_indexStr {dst : Option Tmp} {t : TypeId} {x i : Operand} {t' : TypeId} {p : String} {af : Array Edge} {g : Option (Nat × Bool)} {s : ByteArray} {k : IntKind} {n : Int} {c : UInt8}
    (hu : (underlying t).run P w = .ok .string w) (hx : a.eval x = .string s) (hi : a.eval i = .int k n) (h0 : 0 ≤ n) (h1 : s[n.toNat]? = some c) :
    (execOp a.eval ⟨dst, .index t x i, t', p, af, g⟩).run P w = .ok (.value (.int .u8 (c.toNat : Int))) w := by
  simp only [execOp, hx, hi, Instr.index, asIntOf, hu, Sem.run_bind, Sem.run_pure, Result.andThen_ok, h0, if_true, h1]
theorem r_strAdd {dst : Option Tmp} {t ty : TypeId} {x y : Operand} {t' : TypeId} {p : String} {af : Array Edge} {g : Option (Nat × Bool)} {s u : ByteArray} (hx : a.eval x = .string s) (hy : a.eval y = .string u) (hn : (s.size : Int) + u.size ≤ 9223372036854775807) :
    (execOp a.eval ⟨dst, .binOp .add t x y ty, t', p, af, g⟩).run P w = .ok (.value (.string (s ++ u))) w := by
  have hg : eqGuard .add t x y (.string s) (.string u) = pure () := rfl
  have e : binOp .add t (.string s) (.string u) = Op.stringOp .add s u := rfl
  have hn' : ¬ ((s.size + u.size : Nat) : Int) > IntKind.i64.max := by
    have : IntKind.i64.max = 9223372036854775807 := by decide
    rw [this]; omega
  simp only [execOp, hx, hy, hg, e, Op.stringOp, hn', if_false, Sem.run_bind, Sem.run_pure, Result.andThen_ok]
theorem r_cap {dst : Option Tmp} {t : TypeId} {e : TypeId} {x : Operand} {t' : TypeId} {p : String} {af : Array Edge} {g : Option (Nat × Bool)} {s : Sl}
    (hu : (underlying t).run P w = .ok (.slice e) w) (hx : a.eval x = s.v) :
    (execOp a.eval ⟨dst, .call ⟨.builtin .cap, #[x], #[t]⟩, t', p, af, g⟩).run P w = .ok (.value (.int .i64 s.c)) w := by
  simp [execOp, resolve, invoke, builtin, Builtin.cap_, hu, hx, goInt]
theorem r_sliceStr10 {dst : Option Tmp} {t : TypeId} {x lo : Operand} {t' : TypeId} {p : String} {af : Array Edge} {g : Option (Nat × Bool)} {s : ByteArray} {k : IntKind} {l : Nat}
    (hu : (underlying t).run P w = .ok .string w) (hx : a.eval x = .string s) (hl : a.eval lo = .int k (l : Int)) (h1 : l ≤ s.size) (_h2 : s.size ≤ s.size) :
    (execOp a.eval ⟨dst, .slice t x (some lo) none none, t', p, af, g⟩).run P w = .ok (.value (.string (s.extract l s.size))) w := by
  simp [execOp, hx, Instr.sliceAt, hu, Instr.slice, Instr.sliceBounds, sbound hl h1]
theorem r_sliceStr01 {dst : Option Tmp} {t : TypeId} {x hi : Operand} {t' : TypeId} {p : String} {af : Array Edge} {g : Option (Nat × Bool)} {s : ByteArray} {k : IntKind} {h : Nat}
    (hu : (underlying t).run P w = .ok .string w) (hx : a.eval x = .string s) (hh : a.eval hi = .int k (h : Int)) (_h1 : 0 ≤ h) (h2 : h ≤ s.size) :
    (execOp a.eval ⟨dst, .slice t x none (some hi) none, t', p, af, g⟩).run P w = .ok (.value (.string (s.extract 0 h))) w := by
  simp [execOp, hx, Instr.sliceAt, hu, Instr.slice, Instr.sliceBounds, sbound hh h2]
theorem r_sliceStr11 {dst : Option Tmp} {t : TypeId} {x lo hi : Operand} {t' : TypeId} {p : String} {af : Array Edge} {g : Option (Nat × Bool)} {s : ByteArray} {k k' : IntKind} {l h : Nat}
    (hu : (underlying t).run P w = .ok .string w) (hx : a.eval x = .string s) (hl : a.eval lo = .int k (l : Int)) (hh : a.eval hi = .int k' (h : Int)) (h1 : l ≤ h) (h2 : h ≤ s.size) :
    (execOp a.eval ⟨dst, .slice t x (some lo) (some hi) none, t', p, af, g⟩).run P w = .ok (.value (.string (s.extract l h))) w := by
  simp [execOp, hx, Instr.sliceAt, hu, Instr.slice, Instr.sliceBounds, sbound hh h2, sbound hl h1]
theorem r_convInt {dst : Option Tmp} {s d : TypeId} {x : Operand} {t' : TypeId} {p : String} {af : Array Edge} {g : Option (Nat × Bool)} {ks kd k : IntKind} {n : Int}
    (hs : (underlying s).run P w = .ok (.int ks) w) (hd : (underlying d).run P w = .ok (.int kd) w) (hx : a.eval x = .int k n) :
    (execOp a.eval ⟨dst, .convert s d x, t', p, af, g⟩).run P w = .ok (.value (.int kd (kd.wrap n))) w := by
  simp [execOp, hx, convert, hs, hd, Conv.intToInt]
theorem r_convStr {dst : Option Tmp} {s d : TypeId} {x : Operand} {t' : TypeId} {p : String} {af : Array Edge} {g : Option (Nat × Bool)} {n : ByteArray}
    (hs : (underlying s).run P w = .ok .string w) (hd : (underlying d).run P w = .ok .string w) (hx : a.eval x = .string n) :
    (execOp a.eval ⟨dst, .convert s d x, t', p, af, g⟩).run P w = .ok (.value (.string n)) w := by
  simp [execOp, hx, convert, hs, hd]
theorem r_iface {dst : Option Tmp} {t : TypeId} {x : Operand} {t' : TypeId} {p : String} {af : Array Edge} {g : Option (Nat × Bool)} {d : TypeDesc} {v : Value}
    (hu : (underlying t).run P w = .ok d w) (hd : (match d with | .interface _ => false | _ => true) = true) (hx : a.eval x = v) :
    (execOp a.eval ⟨dst, .makeInterface t x, t', p, af, g⟩).run P w = .ok (.value (.iface t v)) w := by
  subst hx
  cases d <;> first | (simp at hd; done) | simp [execOp, Instr.makeInterface, hu]
theorem r_lenStr {dst : Option Tmp} {t : TypeId} {x : Operand} {t' : TypeId} {p : String} {af : Array Edge} {g : Option (Nat × Bool)} {s : ByteArray}
    (hu : (underlying t).run P w = .ok .string w) (hx : a.eval x = .string s) :
    (execOp a.eval ⟨dst, .call ⟨.builtin .len, #[x], #[t]⟩, t', p, af, g⟩).run P w = .ok (.value (.int .i64 s.size)) w := by
  simp [execOp, resolve, invoke, builtin, Builtin.len_, hu, hx, goInt]
theorem r_min {dst : Option Tmp} {ts : Array TypeId} {x y : Operand} {t' : TypeId} {p : String} {af : Array Edge} {g : Option (Nat × Bool)} {k k' : IntKind} {m n : Int} (hx : a.eval x = .int k m) (hy : a.eval y = .int k' n) :
    (execOp a.eval ⟨dst, .call ⟨.builtin .min, #[x, y], ts⟩, t', p, af, g⟩).run P w = .ok (.value (.int k (if n < m then n else m))) w := by
  simp [execOp, resolve, invoke, builtin, hx, hy, run_min_int2]
theorem r_max {dst : Option Tmp} {ts : Array TypeId} {x y : Operand} {t' : TypeId} {p : String} {af : Array Edge} {g : Option (Nat × Bool)} {k k' : IntKind} {m n : Int} (hx : a.eval x = .int k m) (hy : a.eval y = .int k' n) :
    (execOp a.eval ⟨dst, .call ⟨.builtin .max, #[x, y], ts⟩, t', p, af, g⟩).run P w = .ok (.value (.int k (if n > m then n else m))) w := by
  simp [execOp, resolve, invoke, builtin, hx, hy, run_max_int2]
theorem r_eqlPtrNilR {dst : Option Tmp} {t ty : TypeId} {x y : Operand} {t' : TypeId} {p : String} {af : Array Edge} {g : Option (Nat × Bool)} {e : TypeId} {q : Option Addr} {b : Bool} (hu : (underlying t).run P w = .ok (.pointer e) w) (hx : a.eval x = .pointer q) (hy : a.eval y = .pointer none) (hb : (q.isNone) = b) :
    (execOp a.eval ⟨dst, .binOp .eql t x y ty, t', p, af, g⟩).run P w = .ok (.value (.bool b)) w := by
  subst hb
  have hE : ∀ d, (Op.equalIn (d + 1) t (.pointer q) (.pointer none)).run P w = .ok q.isNone w := fun d => by
    unfold Op.equalIn
    cases q <;> simp only [Sem.run_bind, hu, Result.andThen_ok] <;> rfl
  have hB : binOp .eql t (.pointer q) (.pointer none) = (do pure (.bool ((← Op.equal t (.pointer q) (.pointer none))))) := by cases q <;> rfl
  have hG : eqGuard .eql t x y (.pointer q) (.pointer none) = pure () := rfl
  simp only [execOp, hx, hy, hG, hB, Op.equal, Op.maxDepth, Sem.run_bind, Sem.run_pure, Result.andThen_ok, hE 9999]
theorem r_eqlPtrNilL {dst : Option Tmp} {t ty : TypeId} {x y : Operand} {t' : TypeId} {p : String} {af : Array Edge} {g : Option (Nat × Bool)} {e : TypeId} {q : Option Addr} {b : Bool} (hu : (underlying t).run P w = .ok (.pointer e) w) (hx : a.eval x = .pointer none) (hy : a.eval y = .pointer q) (hb : (q.isNone) = b) :
    (execOp a.eval ⟨dst, .binOp .eql t x y ty, t', p, af, g⟩).run P w = .ok (.value (.bool b)) w := by
  subst hb
  have hE : ∀ d, (Op.equalIn (d + 1) t (.pointer none) (.pointer q)).run P w = .ok q.isNone w := fun d => by
    unfold Op.equalIn
    cases q <;> simp only [Sem.run_bind, hu, Result.andThen_ok] <;> rfl
  have hB : binOp .eql t (.pointer none) (.pointer q) = (do pure (.bool ((← Op.equal t (.pointer none) (.pointer q))))) := by cases q <;> rfl
  have hG : eqGuard .eql t x y (.pointer none) (.pointer q) = pure () := rfl
  simp only [execOp, hx, hy, hG, hB, Op.equal, Op.maxDepth, Sem.run_bind, Sem.run_pure, Result.andThen_ok, hE 9999]
theorem r_neqPtrNilR {dst : Option Tmp} {t ty : TypeId} {x y : Operand} {t' : TypeId} {p : String} {af : Array Edge} {g : Option (Nat × Bool)} {e : TypeId} {q : Option Addr} {b : Bool} (hu : (underlying t).run P w = .ok (.pointer e) w) (hx : a.eval x = .pointer q) (hy : a.eval y = .pointer none) (hb : (!q.isNone) = b) :
    (execOp a.eval ⟨dst, .binOp .neq t x y ty, t', p, af, g⟩).run P w = .ok (.value (.bool b)) w := by
  subst hb
  have hE : ∀ d, (Op.equalIn (d + 1) t (.pointer q) (.pointer none)).run P w = .ok q.isNone w := fun d => by
    unfold Op.equalIn
    cases q <;> simp only [Sem.run_bind, hu, Result.andThen_ok] <;> rfl
  have hB : binOp .neq t (.pointer q) (.pointer none) = (do pure (.bool (!(← Op.equal t (.pointer q) (.pointer none))))) := by cases q <;> rfl
  have hG : eqGuard .neq t x y (.pointer q) (.pointer none) = pure () := rfl
  simp only [execOp, hx, hy, hG, hB, Op.equal, Op.maxDepth, Sem.run_bind, Sem.run_pure, Result.andThen_ok, hE 9999]
theorem r_neqPtrNilL {dst : Option Tmp} {t ty : TypeId} {x y : Operand} {t' : TypeId} {p : String} {af : Array Edge} {g : Option (Nat × Bool)} {e : TypeId} {q : Option Addr} {b : Bool} (hu : (underlying t).run P w = .ok (.pointer e) w) (hx : a.eval x = .pointer none) (hy : a.eval y = .pointer q) (hb : (!q.isNone) = b) :
    (execOp a.eval ⟨dst, .binOp .neq t x y ty, t', p, af, g⟩).run P w = .ok (.value (.bool b)) w := by
  subst hb
  have hE : ∀ d, (Op.equalIn (d + 1) t (.pointer none) (.pointer q)).run P w = .ok q.isNone w := fun d => by
    unfold Op.equalIn
    cases q <;> simp only [Sem.run_bind, hu, Result.andThen_ok] <;> rfl
  have hB : binOp .neq t (.pointer none) (.pointer q) = (do pure (.bool (!(← Op.equal t (.pointer none) (.pointer q))))) := by cases q <;> rfl
  have hG : eqGuard .neq t x y (.pointer none) (.pointer q) = pure () := rfl
  simp only [execOp, hx, hy, hG, hB, Op.equal, Op.maxDepth, Sem.run_bind, Sem.run_pure, Result.andThen_ok, hE 9999]
theorem r_eqlBool {dst : Option Tmp} {t ty : TypeId} {x y : Operand} {t' : TypeId} {p : String} {af : Array Edge} {g : Option (Nat × Bool)} {m n : Bool} (hu : P.underlying t = some .bool) (hx : a.eval x = .bool m) (hy : a.eval y = .bool n) :
    (execOp a.eval ⟨dst, .binOp .eql t x y ty, t', p, af, g⟩).run P w = .ok (.value (.bool (m == n))) w := by
  have hG : eqGuard .eql t x y (.bool m) (.bool n) = pure () := rfl
  simp only [execOp, hx, hy, hG, Sem.run_bind, Sem.run_pure, Result.andThen_ok, run_eql_bool w t m n hu]
theorem r_neqBool {dst : Option Tmp} {t ty : TypeId} {x y : Operand} {t' : TypeId} {p : String} {af : Array Edge} {g : Option (Nat × Bool)} {m n : Bool} (hu : P.underlying t = some .bool) (hx : a.eval x = .bool m) (hy : a.eval y = .bool n) :
    (execOp a.eval ⟨dst, .binOp .neq t x y ty, t', p, af, g⟩).run P w = .ok (.value (.bool (!(m == n)))) w := by
  have hG : eqGuard .neq t x y (.bool m) (.bool n) = pure () := rfl
  simp only [execOp, hx, hy, hG, Sem.run_bind, Sem.run_pure, Result.andThen_ok, run_neq_bool w t m n hu]
theorem r_eqlSlNilR {dst : Option Tmp} {t ty : TypeId} {x y : Operand} {t' : TypeId} {p : String} {af : Array Edge} {g : Option (Nat × Bool)} {e : TypeId} {s : Sl} (hu : (underlying t).run P w = .ok (.slice e) w) (hx : a.eval x = s.v) (hy : a.eval y = .slice none 0 0) :
    (execOp a.eval ⟨dst, .binOp .eql t x y ty, t', p, af, g⟩).run P w = .ok (.value (.bool (s.a.isNone))) w := by
  obtain ⟨sa, sn, sc⟩ := s
  have hE : ∀ d, (Op.equalIn (d + 1) t (.slice sa sn sc) (.slice none 0 0)).run P w = .ok sa.isNone w := fun d => by
    unfold Op.equalIn
    cases sa <;> simp only [Sem.run_bind, hu, Result.andThen_ok] <;> rfl
  have hB : binOp .eql t (.slice sa sn sc) (.slice none 0 0) = (do pure (.bool ((← Op.equal t (.slice sa sn sc) (.slice none 0 0))))) := by cases sa <;> rfl
  have hG : eqGuard .eql t x y (.slice sa sn sc) (.slice none 0 0) = pure () := rfl
  simp only [execOp, hx, hy, hG, hB, Op.equal, Op.maxDepth, Sem.run_bind, Sem.run_pure, Result.andThen_ok, hE 9999]
theorem r_eqlSlNilL {dst : Option Tmp} {t ty : TypeId} {x y : Operand} {t' : TypeId} {p : String} {af : Array Edge} {g : Option (Nat × Bool)} {e : TypeId} {s : Sl} (hu : (underlying t).run P w = .ok (.slice e) w) (hx : a.eval x = .slice none 0 0) (hy : a.eval y = s.v) :
    (execOp a.eval ⟨dst, .binOp .eql t x y ty, t', p, af, g⟩).run P w = .ok (.value (.bool (s.a.isNone))) w := by
  obtain ⟨sa, sn, sc⟩ := s
  have hE : ∀ d, (Op.equalIn (d + 1) t (.slice none 0 0) (.slice sa sn sc)).run P w = .ok sa.isNone w := fun d => by
    unfold Op.equalIn
    cases sa <;> simp only [Sem.run_bind, hu, Result.andThen_ok] <;> rfl
  have hB : binOp .eql t (.slice none 0 0) (.slice sa sn sc) = (do pure (.bool ((← Op.equal t (.slice none 0 0) (.slice sa sn sc))))) := by cases sa <;> rfl
  have hG : eqGuard .eql t x y (.slice none 0 0) (.slice sa sn sc) = pure () := rfl
  simp only [execOp, hx, hy, hG, hB, Op.equal, Op.maxDepth, Sem.run_bind, Sem.run_pure, Result.andThen_ok, hE 9999]
theorem r_neqSlNilR {dst : Option Tmp} {t ty : TypeId} {x y : Operand} {t' : TypeId} {p : String} {af : Array Edge} {g : Option (Nat × Bool)} {e : TypeId} {s : Sl} (hu : (underlying t).run P w = .ok (.slice e) w) (hx : a.eval x = s.v) (hy : a.eval y = .slice none 0 0) :
    (execOp a.eval ⟨dst, .binOp .neq t x y ty, t', p, af, g⟩).run P w = .ok (.value (.bool (!s.a.isNone))) w := by
  obtain ⟨sa, sn, sc⟩ := s
  have hE : ∀ d, (Op.equalIn (d + 1) t (.slice sa sn sc) (.slice none 0 0)).run P w = .ok sa.isNone w := fun d => by
    unfold Op.equalIn
    cases sa <;> simp only [Sem.run_bind, hu, Result.andThen_ok] <;> rfl
  have hB : binOp .neq t (.slice sa sn sc) (.slice none 0 0) = (do pure (.bool (!(← Op.equal t (.slice sa sn sc) (.slice none 0 0))))) := by cases sa <;> rfl
  have hG : eqGuard .neq t x y (.slice sa sn sc) (.slice none 0 0) = pure () := rfl
  simp only [execOp, hx, hy, hG, hB, Op.equal, Op.maxDepth, Sem.run_bind, Sem.run_pure, Result.andThen_ok, hE 9999]
theorem r_neqSlNilL {dst : Option Tmp} {t ty : TypeId} {x y : Operand} {t' : TypeId} {p : String} {af : Array Edge} {g : Option (Nat × Bool)} {e : TypeId} {s : Sl} (hu : (underlying t).run P w = .ok (.slice e) w) (hx : a.eval x = .slice none 0 0) (hy : a.eval y = s.v) :
    (execOp a.eval ⟨dst, .binOp .neq t x y ty, t', p, af, g⟩).run P w = .ok (.value (.bool (!s.a.isNone))) w := by
  obtain ⟨sa, sn, sc⟩ := s
  have hE : ∀ d, (Op.equalIn (d + 1) t (.slice none 0 0) (.slice sa sn sc)).run P w = .ok sa.isNone w := fun d => by
    unfold Op.equalIn
    cases sa <;> simp only [Sem.run_bind, hu, Result.andThen_ok] <;> rfl
  have hB : binOp .neq t (.slice none 0 0) (.slice sa sn sc) = (do pure (.bool (!(← Op.equal t (.slice none 0 0) (.slice sa sn sc))))) := by cases sa <;> rfl
  have hG : eqGuard .neq t x y (.slice none 0 0) (.slice sa sn sc) = pure () := rfl
  simp only [execOp, hx, hy, hG, hB, Op.equal, Op.maxDepth, Sem.run_bind, Sem.run_pure, Result.andThen_ok, hE 9999]
theorem r_slice100 {dst : Option Tmp} {t e : TypeId} {x lo : Operand} {t' : TypeId} {p : String} {af : Array Edge} {g : Option (Nat × Bool)} {s : Sl} {k : IntKind} {l sz : Nat}
    (hu : (underlying t).run P w = .ok (.slice e) w) (hsz : (sizeOf e).run P w = .ok sz w) (hx : a.eval x = s.v) (hl : a.eval lo = .int k (l : Int)) (h1 : l ≤ s.n) (_h2 : s.n ≤ s.c) (_h3 : s.c ≤ s.c) :
    (execOp a.eval ⟨dst, .slice t x (some lo) none none, t', p, af, g⟩).run P w = .ok (.value (s.cut l s.n s.c sz).v) w := by
  simp only [execOp, hx, Instr.sliceAt, hu, Sem.run_bind, Result.andThen_ok, Instr.slice, Instr.sliceBounds, Option.map_some, Option.map_none, Sem.run_pure, sbound hl h1, hsz, Sl.cut]
theorem r_slice010 {dst : Option Tmp} {t e : TypeId} {x hi : Operand} {t' : TypeId} {p : String} {af : Array Edge} {g : Option (Nat × Bool)} {s : Sl} {k : IntKind} {h sz : Nat}
    (hu : (underlying t).run P w = .ok (.slice e) w) (hsz : (sizeOf e).run P w = .ok sz w) (hx : a.eval x = s.v) (hh : a.eval hi = .int k (h : Int)) (_h1 : 0 ≤ h) (h2 : h ≤ s.c) (_h3 : s.c ≤ s.c) :
    (execOp a.eval ⟨dst, .slice t x none (some hi) none, t', p, af, g⟩).run P w = .ok (.value (s.cut 0 h s.c sz).v) w := by
  simp only [execOp, hx, Instr.sliceAt, hu, Sem.run_bind, Result.andThen_ok, Instr.slice, Instr.sliceBounds, Option.map_some, Option.map_none, Sem.run_pure, if_true, sbound hh h2, hsz, Sl.cut]
theorem r_slice110 {dst : Option Tmp} {t e : TypeId} {x lo hi : Operand} {t' : TypeId} {p : String} {af : Array Edge} {g : Option (Nat × Bool)} {s : Sl} {k k' : IntKind} {l h sz : Nat}
    (hu : (underlying t).run P w = .ok (.slice e) w) (hsz : (sizeOf e).run P w = .ok sz w) (hx : a.eval x = s.v) (hl : a.eval lo = .int k (l : Int)) (hh : a.eval hi = .int k' (h : Int)) (h1 : l ≤ h) (h2 : h ≤ s.c) (_h3 : s.c ≤ s.c) :
    (execOp a.eval ⟨dst, .slice t x (some lo) (some hi) none, t', p, af, g⟩).run P w = .ok (.value (s.cut l h s.c sz).v) w := by
  simp only [execOp, hx, Instr.sliceAt, hu, Sem.run_bind, Result.andThen_ok, Instr.slice, Instr.sliceBounds, Option.map_some, Option.map_none, Sem.run_pure, if_true, sbound hh h2, sbound hl h1, hsz, Sl.cut]
theorem r_slice011 {dst : Option Tmp} {t e : TypeId} {x hi mx : Operand} {t' : TypeId} {p : String} {af : Array Edge} {g : Option (Nat × Bool)} {s : Sl} {k' k2 : IntKind} {h m sz : Nat}
    (hu : (underlying t).run P w = .ok (.slice e) w) (hsz : (sizeOf e).run P w = .ok sz w) (hx : a.eval x = s.v) (hh : a.eval hi = .int k' (h : Int)) (hm : a.eval mx = .int k2 (m : Int)) (_h1 : 0 ≤ h) (h2 : h ≤ m) (h3 : m ≤ s.c) :
    (execOp a.eval ⟨dst, .slice t x none (some hi) (some mx), t', p, af, g⟩).run P w = .ok (.value (s.cut 0 h m sz).v) w := by
  simp only [execOp, hx, Instr.sliceAt, hu, Sem.run_bind, Result.andThen_ok, Instr.slice, Instr.sliceBounds, Option.map_some, Option.map_none, Sem.run_pure, if_true, sbound hm h3, sbound hh h2, hsz, Sl.cut]
theorem r_slice111 {dst : Option Tmp} {t e : TypeId} {x lo hi mx : Operand} {t' : TypeId} {p : String} {af : Array Edge} {g : Option (Nat × Bool)} {s : Sl} {k k' k2 : IntKind} {l h m sz : Nat}
    (hu : (underlying t).run P w = .ok (.slice e) w) (hsz : (sizeOf e).run P w = .ok sz w) (hx : a.eval x = s.v) (hl : a.eval lo = .int k (l : Int)) (hh : a.eval hi = .int k' (h : Int)) (hm : a.eval mx = .int k2 (m : Int)) (h1 : l ≤ h) (h2 : h ≤ m) (h3 : m ≤ s.c) :
    (execOp a.eval ⟨dst, .slice t x (some lo) (some hi) (some mx), t', p, af, g⟩).run P w = .ok (.value (s.cut l h m sz).v) w := by
  simp only [execOp, hx, Instr.sliceAt, hu, Sem.run_bind, Result.andThen_ok, Instr.slice, Instr.sliceBounds, Option.map_some, Sem.run_pure, sbound hm h3, sbound hh h2, sbound hl h1, hsz, Sl.cut, Option.isSome_some, if_true]

/-! ### an operation, whatever follows -/
section
variable {K : Act → World → Prop} {o : Oper}
theorem st_one (hg : Region.wanted o (yielded ops a.tmps) = true) (h : o.wp P a w (wpList P ops Q rest) Q) : wpList P ops Q (o :: rest) a w := by
  unfold wpList
  rw [if_pos hg]
  exact .inl h
theorem o_val (v : Value) (hr : (execOp a.eval o).run P w = .ok (.value v) w') (ha : a.put o.dst v = a') (h : K a' w') : o.wp P a w K Q := by
  subst ha
  unfold Oper.wp
  rw [hr]
  exact h
theorem o_skip (hr : (execOp a.eval o).run P w = .ok .skip w') (ha : a.put o.dst undef = a') (h : K a' w') : o.wp P a w K Q := by
  subst ha
  unfold Oper.wp
  rw [hr]
  exact h
theorem o_enter {f : FuncId} {args : Array Value} (hr : (execOp a.eval o).run P w = .ok (.enter f args) w)
    (h : Calls P f args w fun e w' => ∃ v a', e = .returned v ∧ a.put o.dst v = a' ∧ K a' w') : o.wp P a w K Q := by
  unfold Oper.wp
  rw [hr]
  refine h.mono ?_
  rintro e w' ⟨v, _, rfl, rfl, hk⟩
  exact hk
theorem o_storeB {dst : Option Tmp} {ty : TypeId} {x y : Operand} {t' : TypeId} {p : String} {af : Array Edge} {g : Option (Nat × Bool)} {b o : Nat} {cs vs cs' : List Value} {et : TypeId} {n : Nat}
    (hsz : (sizeOf ty).run P w = .ok n w) (hx : a.eval x = .pointer (some ⟨b, o, none⟩)) (hv : (a.eval y).cells = vs.toArray) (hn : vs.length = n)
    (h1 : vs.all Value.oneCell' = true) (hb : Blk w b et cs) (hfit : o + vs.length ≤ cs.length) (hcs : splice cs o vs = cs') (ha : a.put dst undef = a')
    (h : ∀ w1, Only [b] w w1 → Blk w1 b et cs' → K a' w1) : Oper.wp P ⟨dst, .store ty x y, t', p, af, g⟩ a w K Q :=
  o_skip (r_store hsz hx hv hn (List.all_eq_true.1 h1) hb hfit) ha (h _ (Only.setRow _ _ _) (by rw [← hcs]; exact hb.setRow _))
theorem o_allocB {dst : Option Tmp} {ty : TypeId} {t' : TypeId} {p : String} {af : Array Edge} {g : Option (Nat × Bool)} {z : Value} {zs : List Value} {a' : Nat → Act}
    (hz : (zeroValue ty).run P w = .ok z w) (hc : z.cells = zs.toArray) (ha : ∀ b, a.put dst (.pointer (some ⟨b, 0, none⟩)) = a' b)
    (h : ∀ b w1, w.heap.size ≤ b → Only [] w w1 → Blk w1 b ty zs → K (a' b) w1) : Oper.wp P ⟨dst, .alloc ty, t', p, af, g⟩ a w K Q :=
  o_val _ (r_alloc hz hc) (ha _) (h _ _ (Nat.le_refl _) (Only.alloc _ _) (Blk.alloc _ _ _))
theorem o_boxB {dst : Option Tmp} {ty : TypeId} {x : Operand} {t' : TypeId} {p : String} {af : Array Edge} {g : Option (Nat × Bool)} {zs : List Value} {a' : Nat → Act}
    (hc : (a.eval x).cells = zs.toArray) (ha : ∀ b, a.put dst (.pointer (some ⟨b, 0, none⟩)) = a' b)
    (h : ∀ b w1, w.heap.size ≤ b → Only [] w w1 → Blk w1 b ty zs → K (a' b) w1) : Oper.wp P ⟨dst, .box ty x, t', p, af, g⟩ a w K Q :=
  o_val _ (r_box hc) (ha _) (h _ _ (Nat.le_refl _) (Only.alloc _ _) (Blk.alloc _ _ _))
end

/-! ### a variable of the call's own -/
/-! ### control -/
theorem block_hit {id : Nat} (h : Q .normal a w) : Exit.inBlock id Q (.exit id) a w := by simpa [Exit.inBlock] using h
theorem block_miss {id id' : Nat} (hne : (id' == id) = false) (h : Q (.exit id') a w) : Exit.inBlock id Q (.exit id') a w := by simpa [Exit.inBlock, by simpa using hne] using h
/-- what a return hands back -/
def resOk (P : Program) (a : Act) (w : World) : List ResultVar → List Value → Prop
  | [], [] => True
  | .tmp t :: r, v :: vs => a.eval (.tmp t) = v ∧ resOk P a w r vs
  | .cell p t :: r, v :: vs => (∃ ad, a.eval (.tmp p) = .pointer (some ad) ∧ (loadVar t ad).run P w = .ok v w) ∧ resOk P a w r vs
  | _, _ => False
theorem run_mapM_res (f : ResultVar → Sem Value) (hf1 : ∀ t, f (.tmp t) = pure (a.tmps.getD t undef)) (hf2 : ∀ q t, f (.cell q t) = (do loadVar t (← asAddr (a.tmps.getD q undef)))) :
    ∀ (rs : List ResultVar) (vs : List Value), resOk P a w rs vs → (rs.mapM f).run P w = .ok vs w
  | [], [], _ => rfl
  | [], _ :: _, h => h.elim
  | .tmp t :: r, [], h => h.elim
  | .cell _ _ :: r, [], h => h.elim
  | .tmp t :: r, v :: vs, h => by
    have ih := run_mapM_res f hf1 hf2 r vs h.2
    have h1 : a.tmps.getD t undef = v := h.1
    rw [List.mapM_cons, hf1]
    simp only [Sem.run_bind, Sem.run_pure, Result.andThen_ok, h1, ih]
  | .cell q t :: r, v :: vs, h => by
    have ih := run_mapM_res f hf1 hf2 r vs h.2
    obtain ⟨⟨ad, h1, h2⟩, _⟩ := h
    have h1' : a.tmps.getD q undef = .pointer (some ad) := h1
    rw [List.mapM_cons, hf2]
    simp only [Sem.run_bind, Sem.run_pure, Result.andThen_ok, h1', asAddr, h2, ih]
theorem r_res1 {fn : Func} {rs : List ResultVar} {v : Value} (h : fn.results = rs.toArray) (hr : resOk P a w rs [v]) : (results fn a.tmps).run P w = .ok v w := by
  unfold results
  rw [h, List.mapM_toArray]
  simp only [Sem.run_bind, map_eq_pure_bind, Sem.run_pure]
  rw [run_mapM_res _ (fun _ => rfl) (fun _ _ => rfl) rs [v] hr]
  rfl
theorem r_resN {fn : Func} {rs : List ResultVar} {vs : List Value} (h : fn.results = rs.toArray) (hn : (vs.length == 1) = false) (hr : resOk P a w rs vs) : (results fn a.tmps).run P w = .ok (.tuple vs.toArray) w := by
  unfold results
  rw [h, List.mapM_toArray]
  have hn' : ¬ vs.length = 1 := by simpa using hn
  simp only [Sem.run_bind, map_eq_pure_bind, Sem.run_pure]
  rw [run_mapM_res _ (fun _ => rfl) (fun _ _ => rfl) rs vs hr]
  simp only [Result.andThen_ok, List.size_toArray, hn', dite_false]
/-- a result that lies in a variable -/
theorem r_resultCell {ty : TypeId} {ad : Addr} {cs : List Value} {n : Nat} (hagg : (isAgg ty).run P w = .ok true w) (hsz : (sizeOf ty).run P w = .ok n w) (hn : cs.length = n) (hc : Cells w ad cs) :
    (loadVar ty ad).run P w = .ok (.agg cs.toArray) w := by
  have hl := run_loadCells_list (P := P) w ad cs hc
  rw [hn] at hl
  simp only [Sem.run_bind, Result.andThen_ok, loadVar, hagg, if_true, hsz, hl, Sem.run_pure]
theorem r_resultCell1 {ty : TypeId} {ad : Addr} {v : Value} (hagg : (isAgg ty).run P w = .ok false w) (hc : w.cell? ad = some v) :
    (loadVar ty ad).run P w = .ok v w := by
  simp only [Sem.run_bind, Result.andThen_ok, loadVar, hagg, Bool.false_eq_true, if_false, run_load, hc]
end

/-! ### a region that draws its order and only reads -/
section
variable {P : Program} {ops : Array Oper} {rest : List Oper} {a a' : Act} {w : World} {Q : Act → Prop}
theorem q_val {o : Oper} (v : Value) (hg : Region.wanted o (yielded ops a.tmps) = true)
    (hr : ∀ w', (∃ n, w' = w.drewN n) → (execOp a.eval o).run P w' = .ok (.value v) w') (ha : a.put o.dst v = a')
    (h : wpQuiet P ops (fun w' => ∃ n, w' = w.drewN n) Q rest a') : wpQuiet P ops (fun w' => ∃ n, w' = w.drewN n) Q (o :: rest) a := by
  subst ha
  unfold wpQuiet
  rw [if_pos hg]
  refine ⟨v, fun w' hw' => ?_, h⟩
  unfold Oper.quietAt
  rw [hr w' hw']
  exact ⟨rfl, rfl⟩
theorem q_no {o : Oper} (hg : Region.wanted o (yielded ops a.tmps) = false) (ha : a.put o.dst undef = a')
    (h : wpQuiet P ops (fun w' => ∃ n, w' = w.drewN n) Q rest a') : wpQuiet P ops (fun w' => ∃ n, w' = w.drewN n) Q (o :: rest) a := by
  subst ha
  unfold wpQuiet
  rw [if_neg (by simp [hg])]
  exact h
end

/-! ### a region that draws its order, calls and writes among its operations: what is quiet is taken first; behind every operation is shown what it left alone -/
theorem same_nil {w w' : World} : Same [] w w' := fun _ h => by simp at h
theorem Same.refl (bs : List Nat) (w : World) : Same bs w w := fun _ _ => rfl
section
variable {P : Program} {ops : Array Oper} {Q : Exit → Act → World → Prop} {md : Region.Mode} {E : Nat → World → World → Prop} {F : World → Prop}
def wpAnyE (P : Program) (md : Region.Mode) (ops : Array Oper) (Q : Exit → Act → World → Prop) (E : Nat → World → World → Prop) : Nat → Array Bool → Act → World → Prop
  | 0, listed, a, w => Region.ready md ops listed = [] ∧ Q .normal a w
  | fuel + 1, listed, a, w =>
    (Region.ready md ops listed = [] → Q .normal a w) ∧
    ∀ i ∈ Region.ready md ops listed, wpOp P ops Q i (fun a' w' => E i w w' ∧ wpAnyE P md ops Q E fuel (listed.setIfInBounds i true) a' w') a w
theorem wpAny_of_E : ∀ (fuel : Nat) (listed : Array Bool) (a : Act) (w : World), wpAnyE P md ops Q E fuel listed a w → wpAny P md ops Q fuel listed a w
  | 0, _, _, _, h => h
  | fuel + 1, _, _, _, h => ⟨h.1, fun i hi => wpOp_mono (fun a' w' h' => wpAny_of_E fuel _ a' w' h'.2) (h.2 i hi)⟩
/-- what has come up came up in order -/
def Closed (md : Region.Mode) (ops : Array Oper) (listed : Array Bool) : Prop := ∀ k o, ops[k]? = some o → listed.getD k false = true → ∀ e ∈ o.after, Region.binds md e = true → listed.getD e.on false = true
def closedB (md : Region.Mode) (ops : Array Oper) (listed : Array Bool) : Bool :=
  (List.range ops.size).all fun k => !listed.getD k false || ((ops[k]?).map (·.after.all fun e => !Region.binds md e || listed.getD e.on false)).getD true
theorem closed_of {listed : Array Bool} (h : closedB md ops listed = true) : Closed md ops listed := by
  intro k o hk hl e he hb
  have hlt : k < ops.size := (Array.getElem?_eq_some_iff.1 hk).1
  have := (List.all_eq_true.1 h) k (List.mem_range.2 hlt)
  simp only [hl, Bool.not_true, Bool.false_or, hk, Option.map_some, Option.getD_some, Array.all_eq_true_iff_forall_mem, Bool.or_eq_true, Bool.not_eq_true'] at this
  rcases this e he with h1 | h1
  · rw [hb] at h1; cases h1
  · exact h1
theorem Closed.add {listed : Array Bool} {j : Nat} (h : Closed md ops listed) (hj : j ∈ Region.ready md ops listed) : Closed md ops (listed.setIfInBounds j true) := by
  intro k o hk hl e he hb
  obtain ⟨_, oj, hoj, hall⟩ := mem_ready.1 hj
  by_cases hkj : j = k
  · subst hkj
    rw [hoj] at hk
    injection hk with hk
    subst hk
    exact getD_set_true (hall e he hb)
  · rw [getD_set_ne false hkj] at hl
    exact getD_set_true (h k o hk hl e he hb)
/-- D: operations each of which waits, by itself or through others of D that stand ahead of it, for i -/
def descOk (md : Region.Mode) (ops : Array Oper) (i : Nat) : List Nat → List Nat → Bool
  | _, [] => true
  | seen, j :: r => ((ops[j]?).map fun o => o.after.any fun e => Region.binds md e && (e.on == i || seen.contains e.on)).getD false && descOk md ops i (j :: seen) r
theorem desc_listed {i : Nat} {listed : Array Bool} (hc : Closed md ops listed) : ∀ (D seen : List Nat), descOk md ops i seen D = true → (∀ k ∈ seen, listed.getD k false = true → listed.getD i false = true) → ∀ j ∈ D, ∀ o, ops[j]? = some o → (∀ e ∈ o.after, Region.binds md e = true → listed.getD e.on false = true) → listed.getD i false = true
  | [], _, _, _, j, hj, _, _, _ => by simp at hj
  | k :: r, seen, h, hs, j, hj, o, ho, hall => by
    simp only [descOk, Bool.and_eq_true] at h
    have hk : ∀ o, ops[k]? = some o → (∀ e ∈ o.after, Region.binds md e = true → listed.getD e.on false = true) → listed.getD i false = true := by
      intro o ho hall
      have h1 := h.1
      rw [ho] at h1
      simp only [Option.map_some, Option.getD_some, Array.any_eq_true', Bool.and_eq_true, Bool.or_eq_true, beq_iff_eq] at h1
      obtain ⟨e, he, hb, hon⟩ := h1
      rcases hon with hon | hon
      · rw [← hon]; exact hall e he hb
      · exact hs _ (by simpa using hon) (hall e he hb)
    rcases List.mem_cons.1 hj with rfl | hj
    · exact hk o ho hall
    · refine desc_listed hc r (k :: seen) h.2 ?_ j hj o ho hall
      intro x hx hl
      rcases List.mem_cons.1 hx with rfl | hx
      · have h1 := h.1
        cases hx2 : ops[x]? with
        | none => rw [hx2] at h1; simp at h1
        | some ox => exact hk ox hx2 (hc x ox hx2 hl)
      · exact hs x hx hl
theorem wpAnyE_first {i : Nat} {oi : Oper} {v : Value} {D : List Nat} (hi : ops[i]? = some oi) (hsel : ∀ (j : Nat) (o : Oper) cs b, ops[j]? = some o → o.op ≠ .select cs b)
    (hQ : ∀ c a w, Q (.panic c) (a.put oi.dst v) w → Q (.panic c) a w) (hD : descOk md ops i [] D = true)
    (N : List Nat) (hst : ∀ j w w', j ∉ D → j ∉ N → F w → E j w w' → F w') (hEi : ∀ w, F w → E i w w) :
    ∀ (fuel : Nat) (listed : Array Bool) (a : Act) (w : World), Closed md ops listed → (∀ k ∈ N, listed.getD k true = true) →
      (∀ j oj, ops[j]? = some oj → j ≠ i → listed.getD j true = false → (∀ e ∈ oj.after, Region.binds md e = true → e.on ≠ i) → oi.apart ops oj = true) →
      i ∈ Region.ready md ops listed → YieldsIf P ops F oi v a → F w →
      wpAnyE P md ops Q E fuel (listed.setIfInBounds i true) (a.put oi.dst v) w → wpAnyE P md ops Q E (fuel + 1) listed a w := by
  intro fuel
  induction fuel with
  | zero =>
    intro listed a w _ _ _ hr hy hF H
    refine ⟨fun h => (by rw [h] at hr; cases hr), fun j hj => ?_⟩
    by_cases hji : j = i
    · subst hji; exact hy.wpOp hi hF ⟨hEi w hF, H⟩
    · have := ready_mono hj hji
      rw [H.1] at this
      cases this
  | succ fuel ih =>
    intro listed a w hcl hN hfree hr hy hF H
    refine ⟨fun h => (by rw [h] at hr; cases hr), fun j hj => ?_⟩
    by_cases hji : j = i
    · subst hji; exact hy.wpOp hi hF ⟨hEi w hF, H⟩
    · have h1 := H.2 j (ready_mono hj hji)
      obtain ⟨hjun, oj, hoj, hall⟩ := mem_ready.1 hj
      have hun0 := (mem_ready.1 hr).1
      have hli : listed.getD i false = false := by
        rcases Nat.lt_or_ge i listed.size with h' | h'
        · simp [h'] at hun0 ⊢; exact hun0
        · simp [Array.getElem?_eq_none h'] at hun0
      have hnot : ∀ e ∈ oj.after, Region.binds md e = true → e.on ≠ i := fun e he hb heq => by
        have h1 := hall e he hb
        rw [heq, hli] at h1
        cases h1
      have hjD : j ∉ D := fun hm => by
        have := desc_listed hcl D [] hD (by simp) j hm oj hoj hall
        rw [hli] at this
        cases this
      have hjN : j ∉ N := fun hm => by
        have := hN j hm
        rw [hjun] at this
        cases this
      have hN' : ∀ k ∈ N, (listed.setIfInBounds j true).getD k true = true := fun k hk => by
        by_cases hjk : j = k
        · subst hjk; exact absurd hk hjN
        · rw [getD_set_ne true hjk]; exact hN k hk
      have h2 := wpOp_putIf hoj (hfree j oj hoj hji hjun hnot) (fun cs b => hsel i oi cs b hi) (fun cs b => hsel j oj cs b hoj) hQ hy h1
      have hfree' : ∀ k ok, ops[k]? = some ok → k ≠ i → (listed.setIfInBounds j true).getD k true = false →
          (∀ e ∈ ok.after, Region.binds md e = true → e.on ≠ i) → oi.apart ops ok = true := fun k ok hk hki hun hno => by
        refine hfree k ok hk hki ?_ hno
        by_cases hjk : j = k
        · subst hjk; exact hjun
        · rw [getD_set_ne true hjk] at hun; exact hun
      refine wpOp_mono (fun a' w' h3 => ⟨h3.2.1, ih (listed.setIfInBounds j true) a' w' (hcl.add hj) hN' hfree' (ready_mono hr (Ne.symm hji)) h3.1 (hst j w w' hjD hjN hF h3.2.1) ?_⟩) h2
      rw [Array.setIfInBounds_comm _ _ hji]
      exact h3.2.2
/-- take operation i first -/
theorem e_take (i : Nat) {opsl : List Oper} {oi : Oper} {a a' : Act} {w : World} {fuel : Nat} {listed : Array Bool} (D N : List Nat) (v : Value) (F : World → Prop) (hi : nthO opsl i = some oi)
    (hs : Region.noSelect opsl.toArray = true) (hf : Region.free md opsl.toArray listed i = true) (hr : (Region.ready md opsl.toArray listed).contains i = true) (hc : closedB md opsl.toArray listed = true) (hD : descOk md opsl.toArray i [] D = true) (hN : (N.all fun k => listed.getD k true) = true)
    (hQ : ∀ c a w, Q (.panic c) (a.put oi.dst v) w → Q (.panic c) a w) (hst : ∀ j w w', j ∉ D → j ∉ N → F w → E j w w' → F w') (hEi : ∀ w, F w → E i w w) (hF : F w)
    (hy : YieldsIf P opsl.toArray F oi v a) (ha : a.put oi.dst v = a')
    (h : wpAnyE P md opsl.toArray Q E fuel (listed.setIfInBounds i true) a' w) : wpAnyE P md opsl.toArray Q E (fuel + 1) listed a w := by
  subst ha
  have hi' : opsl.toArray[i]? = some oi := by rw [nthO_eq] at hi; simpa using hi
  exact wpAnyE_first hi' (Region.noSelect_spec hs) hQ hD N hst hEi fuel listed a w (closed_of hc) (fun k hk => by simpa using (List.all_eq_true.1 hN) k hk) (Region.free_spec hi' hf) (by simpa using hr) hy hF h
/-- one operation alone may come up -/
theorem e_one (i : Nat) {opsl : List Oper} {oi : Oper} {a : Act} {w : World} {fuel : Nat} {listed : Array Bool} (hi : nthO opsl i = some oi) (hr : Region.ready md opsl.toArray listed = [i])
    (hg : Region.wanted oi (yielded opsl.toArray a.tmps) = true)
    (h : oi.wp P a w (fun a' w' => E i w w' ∧ wpAnyE P md opsl.toArray Q E fuel (listed.setIfInBounds i true) a' w') Q) : wpAnyE P md opsl.toArray Q E (fuel + 1) listed a w := by
  have hi' : opsl.toArray[i]? = some oi := by rw [nthO_eq] at hi; simpa using hi
  refine ⟨fun h0 => (by rw [h0] at hr; cases hr), fun j hj => ?_⟩
  rw [hr] at hj
  obtain rfl : j = i := by simpa using hj
  unfold wpOp
  simp only [hi']
  rw [if_pos hg]
  exact .inl h
theorem e_oneNo (i : Nat) {opsl : List Oper} {oi : Oper} {a a' : Act} {w : World} {fuel : Nat} {listed : Array Bool} (hi : nthO opsl i = some oi) (hr : Region.ready md opsl.toArray listed = [i])
    (hg : Region.wanted oi (yielded opsl.toArray a.tmps) = false) (hE : E i w w) (ha : a.put oi.dst undef = a')
    (h : wpAnyE P md opsl.toArray Q E fuel (listed.setIfInBounds i true) a' w) : wpAnyE P md opsl.toArray Q E (fuel + 1) listed a w := by
  subst ha
  have hi' : opsl.toArray[i]? = some oi := by rw [nthO_eq] at hi; simpa using hi
  refine ⟨fun h0 => (by rw [h0] at hr; cases hr), fun j hj => ?_⟩
  rw [hr] at hj
  obtain rfl : j = i := by simpa using hj
  unfold wpOp
  simp only [hi']
  rw [if_neg (by simp [hg])]
  exact ⟨hE, h⟩
theorem e_two (i j : Nat) {opsl : List Oper} {oi oj : Oper} {a : Act} {w : World} {fuel : Nat} {listed : Array Bool} (hi : nthO opsl i = some oi) (hj : nthO opsl j = some oj) (hr : Region.ready md opsl.toArray listed = [i, j])
    (h1 : if Region.wanted oi (yielded opsl.toArray a.tmps) then oi.wp P a w (fun a' w' => E i w w' ∧ wpAnyE P md opsl.toArray Q E fuel (listed.setIfInBounds i true) a' w') Q ∨ (oi.asks P a w ∧ LetsOut Q)
      else (fun a' w' => E i w w' ∧ wpAnyE P md opsl.toArray Q E fuel (listed.setIfInBounds i true) a' w') (a.put oi.dst undef) w)
    (h2 : if Region.wanted oj (yielded opsl.toArray a.tmps) then oj.wp P a w (fun a' w' => E j w w' ∧ wpAnyE P md opsl.toArray Q E fuel (listed.setIfInBounds j true) a' w') Q ∨ (oj.asks P a w ∧ LetsOut Q)
      else (fun a' w' => E j w w' ∧ wpAnyE P md opsl.toArray Q E fuel (listed.setIfInBounds j true) a' w') (a.put oj.dst undef) w) : wpAnyE P md opsl.toArray Q E (fuel + 1) listed a w := by
  have hi' : opsl.toArray[i]? = some oi := by rw [nthO_eq] at hi; simpa using hi
  have hj' : opsl.toArray[j]? = some oj := by rw [nthO_eq] at hj; simpa using hj
  refine ⟨fun h0 => (by rw [h0] at hr; cases hr), fun k hk => ?_⟩
  rw [hr] at hk
  unfold wpOp
  rcases List.mem_cons.1 hk with rfl | hk
  · simp only [hi']; exact h1
  · obtain rfl : k = j := by simpa using hk
    simp only [hj']; exact h2
theorem e_done {listed : Array Bool} {a : Act} {w : World} {fuel : Nat} (hr : Region.ready md ops listed = []) (h : Q .normal a w) : wpAnyE P md ops Q E fuel listed a w := by
  cases fuel with
  | zero => exact ⟨hr, h⟩
  | succ n => exact ⟨fun _ => h, by rw [hr]; simp⟩
theorem e_region {id : Nat} {opsl : List Oper} {a : Act} {w : World} (E : Nat → World → World → Prop) (hm : P.follows .mixedOrders = true)
    (h : wpAnyE P .any opsl.toArray Q E opsl.length (Array.replicate opsl.length false) a w.drew) : (Code.region id opsl.toArray true).wp P Q a w := by
  refine wp_region_any hm (wpAny_of_E (E := E) _ _ _ _ ?_)
  simpa using h
theorem addr_blk (a : Addr) (n : Nat) : (a.add n).block = a.block := by unfold Addr.add; split <;> rfl
theorem SlAt.blk {s : Sl} {i : Int} {size : Nat} {ad : Addr} (h : SlAt s i size ad) : ad.block = s.blk := by
  obtain ⟨base, h1, _, _, h2⟩ := h
  rw [h2, addr_blk, Sl.blk, h1]
theorem keep_bytes {s : Sl} {l : List UInt8} (w w' : World) (h : w'.heap[s.blk]? = w.heap[s.blk]?) (hc : Bytes w s l) : Bytes w' s l :=
  ⟨hc.1, fun hl => by
    obtain ⟨ad, h1, h2⟩ := hc.2 hl
    refine ⟨ad, h1, h2.keep ?_⟩
    simpa [Sl.blk, h1] using h⟩
theorem y_val {opsl : List Oper} {o : Oper} {v : Value} {a : Act} (hg : Region.wanted o (yielded opsl.toArray a.tmps) = true) (h : ∀ w, F w → (execOp a.eval o).run P w = .ok (.value v) w) : YieldsIf P opsl.toArray F o v a := .inl ⟨hg, h⟩
theorem y_no {opsl : List Oper} {o : Oper} {a : Act} (hg : Region.wanted o (yielded opsl.toArray a.tmps) = false) : YieldsIf P opsl.toArray F o undef a := .inr ⟨hg, rfl⟩
end
end Go.Kt
