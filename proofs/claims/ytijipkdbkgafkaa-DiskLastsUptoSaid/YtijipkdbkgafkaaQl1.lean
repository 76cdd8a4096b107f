import Derived.WalkKit
import Derived.Deep.Draws
import Derived.Deep.LoopGhost
import Derived.Deep.Quiet
import Derived.OrdersHeld
import Derived.Laws.Small
import Derived.Laws.AppendOwn
import Derived.Great.BuildSlice
import Derived.Laws.MakeOwn
import Derived.MapKept
import Derived.Lib.Strings
import Derived.KernelRfl
import Derived.ChangeKeysEq
import Derived.Laws.Tables
import Derived.Defers
import Derived.Test.YtijipkdbkgafkaaRows
import Derived.Ground.SlbCloneProg
import Derived.Ground.SlbNamesProg
import Derived.Ground.SlgmProg
import Derived.Test.YtijipkdbkgafkaaProg
import Derived.Lib.ParseIntB
import Derived.Lib.Bytealg
import Derived.Lib.ItoaLen
import Derived.Lib.AtoiErrMem
import Derived.WideKeyElems
import Derived.Sort.KeysCollected
import Derived.Ground.GgzProg
import Derived.Maps.RangeRun
import Derived.Lib.Join
import Derived.ProofKit
import Derived.OpenShut
import Derived.SizedLaws
import Derived.Deep.Slices
import Derived.Laws.BitsLemmas
import Derived.JoinedCond
import Derived.Deep.CondSized
set_option linter.unusedSectionVars false
namespace Go.Kt
open Go Go.RowKit
structure Sl where
 a : Option Addr
 n : Nat
 c : Nat
@[reducible] def Sl.v (s : Sl) : Value := .slice s.a s.n s.c
@[reducible] def Sl.nil : Sl := ⟨none, 0, 0⟩
def Sl.cut (s : Sl) (l h m size : Nat) : Sl := ⟨if m = l then s.a else s.a.map (·.add (l * size)), h - l, m - l⟩
def SlAt (s : Sl) (i : Int) (size : Nat) (ad : Addr) : Prop := ∃ base, s.a = some base /\ 0 <= i /\ i < s.n /\ ad = base.add (i.toNat * size)
structure Only (bs : List Nat) (w w' : World) : Prop where
 os : w'.os = w.os
 tape : w'.tape = w.tape
 output : w'.output = w.output
 size : w.heap.size <= w'.heap.size
 block : ∀ k, k < w.heap.size -> k ∉ bs -> w'.heap[k]? = w.heap[k]?
def Blk (w : World) (b : Nat) (t : TypeId) (cs : List Value) : Prop := w.heap[b]? = some (.cells cs.toArray t (0, 0))
def Cells (w : World) (a : Addr) (cs : List Value) : Prop := ∀ j v, cs[j]? = some v -> w.cell? (a.add j) = some v
def Same (bs : List Nat) (w w' : World) : Prop := ∀ b, b ∈ bs -> w'.heap[b]? = w.heap[b]?
def byteV (b : UInt8) : Value := .int .u8 (b.toNat : Int)
def Bytes (w : World) (s : Sl) (l : List UInt8) : Prop := s.n = l.length /\ (l ≠ [] -> ∃ ad, s.a = some ad /\ Cells w ad (l.map byteV))
def Sl.blk (s : Sl) : Nat := match s.a with | some a => a.block | none => 0
def splice (cs : List Value) (o : Nat) (vs : List Value) : List Value := cs.take o ++ vs ++ cs.drop (o + vs.length)
section
variable {w w' w'' : World} {bs bs' : List Nat} {b : Nat} {t : TypeId} {cs : List Value}
theorem Blk.lt (h : Blk w b t cs) : b < w.heap.size := (Array.getElem?_eq_some_iff.1 h).1
theorem Only.refl (bs : List Nat) (w : World) : Only bs w w := ⟨rfl, rfl, rfl, Nat.le_refl _, fun _ _ _ => rfl⟩
theorem Only.weaken (h : Only bs w w') (hb : ∀ x, x ∈ bs -> x ∈ bs' ∨ w.heap.size <= x) : Only bs' w w' :=
 ⟨h.os, h.tape, h.output, h.size, fun k hk hn => h.block k hk fun hm => by
  rcases hb k hm with h1 | h1
  · exact hn h1
  · omega⟩
theorem Only.trans (h : Only bs w w') (k : Only bs' w' w'') (hb : ∀ x, x ∈ bs' -> x ∈ bs ∨ w.heap.size <= x) : Only bs w w'' :=
 ⟨k.os.trans h.os, k.tape.trans h.tape, k.output.trans h.output, Nat.le_trans h.size k.size, fun i hi hn =>
  (k.block i (Nat.lt_of_lt_of_le hi h.size) fun hm => by
   rcases hb i hm with h1 | h1
   · exact hn h1
   · omega).trans (h.block i hi hn)⟩
theorem Only.tr0 (h : Only bs w w') (k : Only [] w' w'') : Only bs w w'' := h.trans k (by simp)
theorem Only.cons (h : Only bs w w') (k : Only [b] w' w'') : Only (b :: bs) w w'' :=
 (h.weaken (bs' := b :: bs) fun _ hx => .inl (List.mem_cons_of_mem _ hx)).trans k fun x hx => .inl (by simp only [List.mem_singleton] at hx; simp [hx])
theorem Only.mem (h : Only bs w w') (k : Only [b] w' w'') (hb : b ∈ bs) : Only bs w w'' := h.trans k fun x hx => .inl (by simp only [List.mem_singleton] at hx; simpa [hx] using hb)
theorem Only.new (h : Only bs w w') (k : Only [b] w' w'') (hb : w.heap.size <= b) : Only bs w w'' := h.trans k fun x hx => .inr (by simp only [List.mem_singleton] at hx; simpa [hx] using hb)
theorem Only.blk (h : Only bs w w') (hb : Blk w b t cs) (hn : b ∉ bs) : Blk w' b t cs := (h.block b hb.lt hn).trans hb
theorem Only.below (h : Only bs w w') {B : Nat} (hB : B <= w.heap.size) (hb : ∀ x, x ∈ bs -> B <= x) : Below B w w' :=
 ⟨h.os, h.tape, h.output, h.size, fun k hk => h.block k (by omega) fun hm => by have := hb k hm; omega⟩
theorem Only.of_below (h : Below w.heap.size w w') : Only [] w w' := ⟨h.os, h.tape, h.output, h.size, fun k hk _ => h.block k hk⟩
theorem Only.drew (w : World) : Only [] w w.drew := ⟨rfl, rfl, rfl, Nat.le_refl _, fun _ _ _ => rfl⟩
theorem Only.drewN (w : World) (n : Nat) : Only [] w (w.drewN n) := ⟨rfl, rfl, rfl, Nat.le_refl _, fun _ _ _ => rfl⟩
theorem Only.alloc (w : World) (o : Obj) : Only [] w (w.alloc o) := ⟨rfl, rfl, rfl, by simp, fun k hk _ => _root_.Go.heap_alloc_old w o hk⟩
theorem Only.setRow (w : World) (b : Nat) (cs : Array Value) : Only [b] w (w.setRow b cs) := ⟨rfl, rfl, rfl, by simp, fun k _ hn => setRow_other w b k cs (by simpa using hn)⟩
theorem Only.same (h : Only bs w w') (hl : ∀ x, x ∈ bs' -> x < w.heap.size /\ x ∉ bs) : Same bs' w w' := fun x hx => h.block x (hl x hx).1 (hl x hx).2
theorem Same.blk (h : Same bs w w') (hb : Blk w b t cs) (hm : b ∈ bs) : Blk w' b t cs := (h b hm).trans hb
theorem Blk.alloc (w : World) (t : TypeId) (cs : List Value) : Blk (w.alloc (.cells cs.toArray t)) w.heap.size t cs := heap_alloc_new w _
theorem Blk.setRow (h : Blk w b t cs) (cs' : List Value) : Blk (w.setRow b cs'.toArray) b t cs' := setRow_heap w b _ _ t _ h
theorem Blk.cell (h : Blk w b t cs) (i : Nat) : w.cell? ⟨b, i, none⟩ = cs[i]? := by rw [cell_of_row w b i cs.toArray t (0, 0) h]; simp
theorem Blk.cells (h : Blk w b t cs) (o : Nat) (vs : List Value) (hv : ∀ j v, vs[j]? = some v -> cs[o + j]? = some v) : Cells w ⟨b, o, none⟩ vs := fun j v hj => by
 have hadd : (⟨b, o, none⟩ : Addr).add j = ⟨b, o + j, none⟩ := by unfold Addr.add; split <;> simp_all
 rw [hadd, h.cell]; exact hv j v hj
theorem Blk.cellsAt (h : Blk w b t cs) (o : Nat) (vs : List Value) (hv : (cs.drop o).take vs.length = vs) : Cells w ⟨b, o, none⟩ vs := h.cells o vs fun j v hj => by
 rw [<- hv, List.getElem?_take] at hj
 split at hj
 · simpa using hj
 · cases hj
theorem Cells.one {a : Addr} {v : Value} (h : Cells w a [v]) : w.cell? a = some v := by have := h 0 v rfl; simpa [Addr.add] using this
theorem Cells.keep {a : Addr} (h : Cells w a cs) (hk : w'.heap[a.block]? = w.heap[a.block]?) : Cells w' a cs := fun j v hj => by
 rw [World.cell?_of_block (w := w) (w' := w') (a := a.add j)]
 · exact h j v hj
 · have : (a.add j).block = a.block := by unfold Addr.add; split <;> rfl
   rw [this, hk]
theorem Cells.lt' {a : Addr} (h : Cells w a cs) (hc : cs ≠ []) : a.block < w.heap.size := by
 cases cs with
 | nil => exact absurd rfl hc
 | cons v cs =>
  have h2 := block_lt_of_cell (h 0 v rfl)
  have e : (a.add 0).block = a.block := rfl
  omega
theorem Cells.lt {a : Addr} {v : Value} (h : Cells w a (v :: cs)) : a.block < w.heap.size := by
 have := h 0 v rfl
 have h2 := block_lt_of_cell this
 have e : (a.add 0).block = a.block := rfl
 omega
end
section
variable {P : Program} {ops : Array Oper} {Q : Exit -> Act -> World -> Prop} {rest : List Oper} {a a' : Act} {w w' : World}
theorem f0 (l : List Value) (ds : List Deferred) (k : Nat) (v : Value) : Act.put ⟨l.toArray, ds⟩ (some k) v = ⟨(l.set k v).toArray, ds⟩ := by simp [Act.put]
theorem f1 (x : Value) (l : List Value) (v : Value) : (x :: l).set 0 v = v :: l := rfl
theorem f3 (a : Act) (v : Value) : a.put none v = a := rfl
theorem f2 (x : Value) (l : List Value) (k : Nat) (v : Value) : (x :: l).set (k + 1) v = x :: l.set k v := rfl
def nthO : List Oper -> Nat -> Option Oper
 | [], _ => none
 | v :: _, 0 => some v
 | _ :: r, n + 1 => nthO r n
theorem nthO_eq : ∀ (l : List Oper) (n : Nat), nthO l n = l[n]?
 | [], _ => rfl
 | _ :: _, 0 => rfl
 | _ :: r, n + 1 => nthO_eq r n
theorem wn {o : Oper} {f : Nat -> Option Bool} (h : o.guard = none) : Region.wanted o f = true := by simp [Region.wanted, h]
theorem st_val {o : Oper} (v : Value) (hg : Region.wanted o (yielded ops a.tmps) = true)
  (hr : (execOp a.eval o).run P w = .ok (.value v) w') (ha : a.put o.dst v = a') (h : wpList P ops Q rest a' w') : wpList P ops Q (o :: rest) a w := by
 subst ha
 unfold wpList
 rw [if_pos hg]
 refine .inl ?_
 unfold Oper.wp
 rw [hr]
 exact h
theorem st_no {o : Oper} (hg : Region.wanted o (yielded ops a.tmps) = false) (ha : a.put o.dst undef = a') (h : wpList P ops Q rest a' w) : wpList P ops Q (o :: rest) a w := by
 subst ha
 unfold wpList
 rw [if_neg (by simp [hg])]
 exact h
theorem r_load1 {dst : Option Tmp} {ty : TypeId} {x : Operand} {t' : TypeId} {p : String} {af : Array Edge} {g : Option (Nat × Bool)} {ad : Addr} {v : Value}
  (hagg : (isAgg ty).run P w = .ok false w) (hx : a.eval x = .pointer (some ad)) (hc : w.cell? ad = some v) :
  (execOp a.eval ⟨dst, .load ty x, t', p, af, g⟩).run P w = .ok (.value v) w := by
 simp only [execOp, hx, Instr.loadAt, Instr.sureAddr, Sem.run_bind, Sem.run_pure, Result.andThen_ok, loadVar, hagg, Bool.false_eq_true, if_false, run_load, hc]
theorem r_loadN {dst : Option Tmp} {ty : TypeId} {x : Operand} {t' : TypeId} {p : String} {af : Array Edge} {g : Option (Nat × Bool)} {ad : Addr} {cs : List Value} {n : Nat}
  (hagg : (isAgg ty).run P w = .ok true w) (hsz : (sizeOf ty).run P w = .ok n w) (hn : cs.length = n) (hx : a.eval x = .pointer (some ad)) (hc : Cells w ad cs) :
  (execOp a.eval ⟨dst, .load ty x, t', p, af, g⟩).run P w = .ok (.value (.agg cs.toArray)) w := by
 have hl := run_loadCells_list (P := P) w ad cs hc
 rw [hn] at hl
 simp only [execOp, hx, Instr.loadAt, Instr.sureAddr, Sem.run_bind, Sem.run_pure, Result.andThen_ok, loadVar, hagg, if_true, hsz, hl]
theorem r_store {dst : Option Tmp} {ty : TypeId} {x y : Operand} {t' : TypeId} {p : String} {af : Array Edge} {g : Option (Nat × Bool)} {b o : Nat} {cs vs : List Value} {et : TypeId} {n : Nat}
  (hsz : (sizeOf ty).run P w = .ok n w) (hx : a.eval x = .pointer (some ⟨b, o, none⟩)) (hv : (a.eval y).cells = vs.toArray) (hn : vs.length = n)
  (h1 : ∀ v ∈ vs, v.oneCell' = true) (hb : Blk w b et cs) (hfit : o + vs.length <= cs.length) :
  (execOp a.eval ⟨dst, .store ty x y, t', p, af, g⟩).run P w = .ok .skip (w.setRow b (splice cs o vs).toArray) := by
 have hst := run_storeCells_at P b o et vs 0 cs.toArray w hb (by simpa using hfit) h1
 simp only [execOp, hx, Instr.storeAt, Instr.sureAddr, Sem.run_bind, Sem.run_pure, Result.andThen_ok, storeVar, hsz, hv, List.size_toArray, hn, ne_eq, not_true_eq_false, if_false, hst, splice, Nat.add_zero]
theorem r_alloc {dst : Option Tmp} {ty : TypeId} {t' : TypeId} {p : String} {af : Array Edge} {g : Option (Nat × Bool)} {z : Value} {zs : List Value}
  (hz : (zeroValue ty).run P w = .ok z w) (hc : z.cells = zs.toArray) :
  (execOp a.eval ⟨dst, .alloc ty, t', p, af, g⟩).run P w = .ok (.value (.pointer (some ⟨w.heap.size, 0, none⟩))) (w.alloc (.cells zs.toArray ty)) := by
 simp only [execOp, Instr.alloc, Sem.run_bind, hz, Result.andThen_ok, newVar, newRow, newObj, hc, Sem.run, Sem.run_pure]
 rfl
theorem r_box {dst : Option Tmp} {ty : TypeId} {x : Operand} {t' : TypeId} {p : String} {af : Array Edge} {g : Option (Nat × Bool)} {zs : List Value}
  (hc : (a.eval x).cells = zs.toArray) :
  (execOp a.eval ⟨dst, .box ty x, t', p, af, g⟩).run P w = .ok (.value (.pointer (some ⟨w.heap.size, 0, none⟩))) (w.alloc (.cells zs.toArray ty)) := by
 simp only [execOp, Instr.box, Sem.run_bind, Result.andThen_ok, newVar, newRow, newObj, hc, Sem.run, Sem.run_pure]
 rfl
theorem r_nil {dst : Option Tmp} {x : Operand} {t' : TypeId} {p : String} {af : Array Edge} {g : Option (Nat × Bool)} {ad : Addr} (hx : a.eval x = .pointer (some ad)) :
  (execOp a.eval ⟨dst, .nilCheck x, t', p, af, g⟩).run P w = .ok (.value (.pointer (some ad))) w := by
 simp only [execOp, hx, Sem.run_pure]
theorem r_field {dst : Option Tmp} {s : TypeId} {x : Operand} {k : Nat} {t' : TypeId} {p : String} {af : Array Edge} {g : Option (Nat × Bool)} {ad ad' : Addr} {fs : Array Field} {f : Field} {n : Nat}
  (hu : (underlying s).run P w = .ok (.struct fs) w) (hf : fs[k]? = some f) (hsz : (sizeOf f.type).run P w = .ok (n + 1) w) (hx : a.eval x = .pointer (some ad)) (he : ad.add f.offset = ad') :
  (execOp a.eval ⟨dst, .fieldAddr s x k, t', p, af, g⟩).run P w = .ok (.value (.pointer (some ad'))) w := by
 subst he
 simp [execOp, hx, Instr.fieldAt, Instr.sureAddr, hu, hf, fieldPlace, hsz]
theorem r_pickT {dst : Option Tmp} {c x y : Operand} {t' : TypeId} {p : String} {af : Array Edge} {g : Option (Nat × Bool)} {v : Value} (hc : a.eval c = .bool true) (hv : a.eval x = v) :
  (execOp a.eval ⟨dst, .pick c x y, t', p, af, g⟩).run P w = .ok (.value v) w := by
 subst hv
 simp [execOp, hc, asBool]
theorem r_pickF {dst : Option Tmp} {c x y : Operand} {t' : TypeId} {p : String} {af : Array Edge} {g : Option (Nat × Bool)} {v : Value} (hc : a.eval c = .bool false) (hv : a.eval y = v) :
  (execOp a.eval ⟨dst, .pick c x y, t', p, af, g⟩).run P w = .ok (.value v) w := by
 subst hv
 simp [execOp, hc, asBool]
theorem r_build {dst : Option Tmp} {t : TypeId} {ps : List (Nat × Operand)} {t' : TypeId} {p : String} {af : Array Edge} {g : Option (Nat × Bool)} {ps' : List (Nat × Value)} {v : Value}
  (hp : (ps.map fun q => (q.1, a.eval q.2)) = ps') (hr : (Instr.build t ps'.toArray).run P w = .ok v w) :
  (execOp a.eval ⟨dst, .build t ps.toArray, t', p, af, g⟩).run P w = .ok (.value v) w := by
 subst hp
 simp only [execOp, List.map_toArray, Sem.run_bind, hr, Result.andThen_ok, Sem.run_pure]
theorem r_indexS {dst : Option Tmp} {t e : TypeId} {x i : Operand} {t' : TypeId} {p : String} {af : Array Edge} {g : Option (Nat × Bool)} {s : Sl} {k : IntKind} {n : Int} {ad : Addr} {sz : Nat}
  (hu : (underlying t).run P w = .ok (.slice e) w) (hsz : (sizeOf e).run P w = .ok sz w) (hx : a.eval x = s.v) (hi : a.eval i = .int k n) (hat : SlAt s n sz ad) :
  (execOp a.eval ⟨dst, .indexAddr t x i, t', p, af, g⟩).run P w = .ok (.value (.pointer (some ad))) w := by
 obtain ⟨base, hb, h0, h1, rfl⟩ := hat
 simp [execOp, hx, hi, Instr.indexAt, asIntOf, hu, hsz, hb, h0, h1]
theorem r_indexA {dst : Option Tmp} {t e : TypeId} {x i : Operand} {t' : TypeId} {p : String} {af : Array Edge} {g : Option (Nat × Bool)} {len : Nat} {k : IntKind} {n : Int} {ad ad' : Addr} {sz : Nat}
  (hu : (underlying t).run P w = .ok (.array len e) w) (hsz : (sizeOf e).run P w = .ok sz w) (hx : a.eval x = .pointer (some ad)) (hi : a.eval i = .int k n) (h0 : 0 <= n) (h1 : n < len) (he : ad.add (n.toNat * sz) = ad') :
  (execOp a.eval ⟨dst, .indexAddr t x i, t', p, af, g⟩).run P w = .ok (.value (.pointer (some ad'))) w := by
 subst he
 simp [execOp, hx, hi, Instr.indexAt, asIntOf, hu, hsz, h0, h1, Instr.sureAddr]
theorem r_builtin {b : Builtin} {s : Sem Value} {dst : Option Tmp} {xs : List Operand} {ts : Array TypeId} {t' : TypeId} {p : String} {af : Array Edge} {g : Option (Nat × Bool)} {v : Value}
  (hb : ∀ consts, builtin b ts t' consts (xs.map a.eval).toArray = (do pure (.value (<- s)))) (hr : s.run P w = .ok v w') :
  (execOp a.eval ⟨dst, .call ⟨.builtin b, xs.toArray, ts⟩, t', p, af, g⟩).run P w = .ok (.value v) w' := by
 simp only [execOp, resolve, Sem.run_bind, Sem.run_pure, Result.andThen_ok, invoke, List.map_toArray]
 rw [hb]
 simp only [Sem.run_bind, Sem.run_pure, hr, Result.andThen_ok]
theorem r_builtin_append {dst : Option Tmp} {xs : List Operand} {ts : Array TypeId} {t' : TypeId} {p : String} {af : Array Edge} {g : Option (Nat × Bool)} {v : Value} {vs : List Value} (hx : xs.map a.eval = vs)
  (hr : (Builtin.append_ ts t' vs.toArray).run P w = .ok v w') : (execOp a.eval ⟨dst, .call ⟨.builtin .append, xs.toArray, ts⟩, t', p, af, g⟩).run P w = .ok (.value v) w' := by
 subst hx
 exact r_builtin (fun _ => rfl) hr
theorem r_builtin_copy {dst : Option Tmp} {xs : List Operand} {ts : Array TypeId} {t' : TypeId} {p : String} {af : Array Edge} {g : Option (Nat × Bool)} {v : Value} {vs : List Value} (hx : xs.map a.eval = vs)
  (hr : (Builtin.copy_ ts t' vs.toArray).run P w = .ok v w') : (execOp a.eval ⟨dst, .call ⟨.builtin .copy, xs.toArray, ts⟩, t', p, af, g⟩).run P w = .ok (.value v) w' := by
 subst hx
 exact r_builtin (fun _ => rfl) hr
theorem r_builtin_delete {dst : Option Tmp} {xs : List Operand} {ts : Array TypeId} {t' : TypeId} {p : String} {af : Array Edge} {g : Option (Nat × Bool)} {v : Value} {vs : List Value} (hx : xs.map a.eval = vs)
  (hr : (Builtin.delete_ ts t' vs.toArray).run P w = .ok v w') : (execOp a.eval ⟨dst, .call ⟨.builtin .delete, xs.toArray, ts⟩, t', p, af, g⟩).run P w = .ok (.value v) w' := by
 subst hx
 exact r_builtin (fun _ => rfl) hr
theorem r_builtin_clear {dst : Option Tmp} {xs : List Operand} {ts : Array TypeId} {t' : TypeId} {p : String} {af : Array Edge} {g : Option (Nat × Bool)} {v : Value} {vs : List Value} (hx : xs.map a.eval = vs)
  (hr : (Builtin.clear_ ts t' vs.toArray).run P w = .ok v w') : (execOp a.eval ⟨dst, .call ⟨.builtin .clear, xs.toArray, ts⟩, t', p, af, g⟩).run P w = .ok (.value v) w' := by
 subst hx
 exact r_builtin (fun _ => rfl) hr
theorem r_builtin_len {dst : Option Tmp} {xs : List Operand} {ts : Array TypeId} {t' : TypeId} {p : String} {af : Array Edge} {g : Option (Nat × Bool)} {v : Value} {vs : List Value} (hx : xs.map a.eval = vs)
  (hr : (Builtin.len_ ts t' vs.toArray).run P w = .ok v w') : (execOp a.eval ⟨dst, .call ⟨.builtin .len, xs.toArray, ts⟩, t', p, af, g⟩).run P w = .ok (.value v) w' := by
 subst hx
 exact r_builtin (fun _ => rfl) hr
section
variable {dst : Option Tmp} {x y z : Operand} {t t2 : TypeId} {t' : TypeId} {p : String} {af : Array Edge} {g : Option (Nat × Bool)} {u v vx vy vz : Value}
theorem r_buildSlice {n : Nat} {ps : List (Nat × Operand)} {ps' : List (Nat × Value)} (hp : (ps.map fun q => (q.1, a.eval q.2)) = ps') (hr : (Instr.buildSlice t n ps'.toArray).run P w = .ok v w') :
  (execOp a.eval ⟨dst, .buildSlice t n ps.toArray, t', p, af, g⟩).run P w = .ok (.value v) w' := by
 subst hp
 simp only [execOp, List.map_toArray, Sem.run_bind, hr, Result.andThen_ok, Sem.run_pure]
theorem r_makeSlice (hx : a.eval x = vx) (hy : a.eval y = vy) (hr : (Instr.makeSlice t vx vy).run P w = .ok v w') : (execOp a.eval ⟨dst, .makeSlice t x y, t', p, af, g⟩).run P w = .ok (.value v) w' := by
 simp only [execOp, hx, hy, Sem.run_bind, hr, Result.andThen_ok, Sem.run_pure]
theorem r_makeMap (hr : (Instr.makeMap t none).run P w = .ok v w') : (execOp a.eval ⟨dst, .makeMap t none, t', p, af, g⟩).run P w = .ok (.value v) w' := by
 simp only [execOp, Option.map_none, Sem.run_bind, hr, Result.andThen_ok, Sem.run_pure]
theorem r_makeMapS (hx : a.eval x = vx) (hr : (Instr.makeMap t (some vx)).run P w = .ok v w') : (execOp a.eval ⟨dst, .makeMap t (some x), t', p, af, g⟩).run P w = .ok (.value v) w' := by
 simp only [execOp, Option.map_some, hx, Sem.run_bind, hr, Result.andThen_ok, Sem.run_pure]
theorem r_lookup {b : Bool} (hx : a.eval x = vx) (hy : a.eval y = vy) (hr : (Instr.lookup t vx vy b).run P w = .ok v w') : (execOp a.eval ⟨dst, .lookup t x y b, t', p, af, g⟩).run P w = .ok (.value v) w' := by
 simp only [execOp, hx, hy, Sem.run_bind, hr, Result.andThen_ok, Sem.run_pure]
theorem r_mapUpdate (hx : a.eval x = vx) (hy : a.eval y = vy) (hz : a.eval z = vz) (hr : (Instr.mapUpdate t vx vy vz).run P w = .ok () w') : (execOp a.eval ⟨dst, .mapUpdate t x y z, t', p, af, g⟩).run P w = .ok .skip w' := by
 simp only [execOp, hx, hy, hz, Sem.run_bind, hr, Result.andThen_ok, Sem.run_pure]
theorem r_insert (hx : a.eval x = vx) (hy : a.eval y = vy) (hz : a.eval z = vz) (hr : (Instr.mapUpdate t vx vy vz).run P w = .ok () w') : (execOp a.eval ⟨dst, .insert t x y z, t', p, af, g⟩).run P w = .ok .skip w' := by
 simp only [execOp, hx, hy, hz, Sem.run_bind, hr, Result.andThen_ok, Sem.run_pure]
theorem r_convert (hx : a.eval x = vx) (hr : (convert t t2 vx).run P w = .ok v w') : (execOp a.eval ⟨dst, .convert t t2 x, t', p, af, g⟩).run P w = .ok (.value v) w' := by
 simp only [execOp, hx, Sem.run_bind, hr, Result.andThen_ok, Sem.run_pure]
end
theorem r_len {dst : Option Tmp} {t : TypeId} {e : TypeId} {x : Operand} {t' : TypeId} {p : String} {af : Array Edge} {g : Option (Nat × Bool)} {s : Sl}
  (hu : (underlying t).run P w = .ok (.slice e) w) (hx : a.eval x = s.v) :
  (execOp a.eval ⟨dst, .call ⟨.builtin .len, #[x], #[t]⟩, t', p, af, g⟩).run P w = .ok (.value (.int .i64 s.n)) w := by
 simp [execOp, resolve, invoke, builtin, Builtin.len_, hu, hx, goInt]
theorem r_enterC {dst : Option Tmp} {x : Operand} {f : FuncId} {first captured : List Value} {xs : List Operand} {ats : Array TypeId} {t' : TypeId} {p : String} {af : Array Edge} {g : Option (Nat × Bool)} {args : List Value}
  (hx : a.eval x = .func (.func f) first.toArray captured.toArray)
  (hc : ∀ (args : Array Value) (w : World), (callFunc f args).run P w = .ok (.enter f args) w) (ha : first ++ xs.map a.eval ++ captured = args) :
  (execOp a.eval ⟨dst, .call ⟨.value x, xs.toArray, ats⟩, t', p, af, g⟩).run P w = .ok (.enter f args.toArray) w := by
 subst ha
 simp only [execOp, resolve, hx, Deferred.ofValue, Sem.run_bind, Sem.run_pure, Result.andThen_ok, invoke, hc]
 simp
theorem sbound {x : Value} {k : IntKind} {i y : Nat} {code : BoundsCode} (hx : x = .int k (i : Int)) (h : i <= y) : (Instr.sliceBound x y code).run P w = .ok i w := by
 subst hx
 have : (i : Int) <= (y : Int) := by omega
 simp [Instr.sliceBound, asIntOf, this]
theorem r_bytesStr {dst : Option Tmp} {s d e : TypeId} {x : Operand} {t' : TypeId} {p : String} {af : Array Edge} {g : Option (Nat × Bool)} {sl : Sl} {l : List UInt8}
  (hs : P.underlying s = some (.slice e)) (he : P.underlying e = some (.int .u8)) (hd : P.underlying d = some .string) (hx : a.eval x = sl.v) (hb : Bytes w sl l) :
  (execOp a.eval ⟨dst, .convert s d x, t', p, af, g⟩).run P w = .ok (.value (.string ⟨l.toArray⟩)) w := by
 obtain ⟨hn, hc⟩ := hb
 obtain ⟨sa, sn, sc⟩ := sl
 simp only at hn hc
 subst hn
 have key : (convert s d (.slice sa l.length sc)).run P w = .ok (.string ⟨l.toArray⟩) w := by
  cases sa with
  | none =>
   have : l = [] := Classical.byContradiction fun h => by obtain ⟨ad, h1, _⟩ := hc h; cases h1
   subst this
   exact run_convert_bytes_nil w s e hs he _ _ d hd
  | some ad =>
   refine run_convert_bytes_back w s d e ad sc l hs he hd fun j hj => ?_
   obtain ⟨ad', h1, h2⟩ := hc (fun h => by simp [h] at hj)
   injection h1 with h1
   subst h1
   exact h2 j _ (by simp [byteV, List.getElem?_eq_getElem hj])
 simp only [execOp, hx, Sem.run_bind, key, Result.andThen_ok, Sem.run_pure]
theorem r_makeFunc {dst : Option Tmp} {fn : Fn} {fs cs : List Operand} {t' : TypeId} {p : String} {af : Array Edge} {g : Option (Nat × Bool)} {fv cv : List Value} (h1 : fs.map a.eval = fv) (h2 : cs.map a.eval = cv) :
  (execOp a.eval ⟨dst, .makeFunc fn fs.toArray cs.toArray, t', p, af, g⟩).run P w = .ok (.value (.func fn fv.toArray cv.toArray)) w := by
 subst h1
 subst h2
 simp only [execOp, Instr.makeFunc, List.map_toArray, Sem.run_bind, Sem.run_pure, Result.andThen_ok]
theorem r_quo {dst : Option Tmp} {t ty : TypeId} {x y : Operand} {t' : TypeId} {p : String} {af : Array Edge} {g : Option (Nat × Bool)} {k : IntKind} {m n : Int} (hx : a.eval x = .int k m) (hy : a.eval y = .int k n) (hn : n ≠ 0) :
  (execOp a.eval ⟨dst, .binOp .quo t x y ty, t', p, af, g⟩).run P w = .ok (.value (.int k (k.wrap (m.tdiv n)))) w := by
 have e : binOp .quo t (.int k m) (.int k n) = Op.intDiv .quo k m n := by simp [binOp]
 have hg : eqGuard .quo t x y (.int k m) (.int k n) = pure () := rfl
 simp only [execOp, hx, hy, hg, e, Op.intDiv, hn, if_false, Sem.run_bind, Sem.run_pure, Result.andThen_ok]
theorem r_rem {dst : Option Tmp} {t ty : TypeId} {x y : Operand} {t' : TypeId} {p : String} {af : Array Edge} {g : Option (Nat × Bool)} {k : IntKind} {m n : Int} (hx : a.eval x = .int k m) (hy : a.eval y = .int k n) (hn : n ≠ 0) :
  (execOp a.eval ⟨dst, .binOp .rem t x y ty, t', p, af, g⟩).run P w = .ok (.value (.int k (m.tmod n))) w := by
 have e : binOp .rem t (.int k m) (.int k n) = Op.intDiv .rem k m n := by simp [binOp]
 have hg : eqGuard .rem t x y (.int k m) (.int k n) = pure () := rfl
 simp only [execOp, hx, hy, hg, e, Op.intDiv, hn, if_false, Sem.run_bind, Sem.run_pure, Result.andThen_ok]
theorem r_shl {dst : Option Tmp} {t ty : TypeId} {x y : Operand} {t' : TypeId} {p : String} {af : Array Edge} {g : Option (Nat × Bool)} {k k' : IntKind} {m n : Int} (hx : a.eval x = .int k m) (hy : a.eval y = .int k' n) (hn : 0 <= n) :
  (execOp a.eval ⟨dst, .binOp .shl t x y ty, t', p, af, g⟩).run P w = .ok (.value (.int k (k.wrap (m * 2 ^ (min n.toNat k.bits))))) w := by
 have hg : eqGuard .shl t x y (.int k m) (.int k' n) = pure () := rfl
 have e : binOp .shl t (.int k m) (.int k' n) = Op.shift .shl k m k' n := rfl
 have hn' : ¬ n < 0 := by omega
 simp only [execOp, hx, hy, hg, e, Op.shift, hn', if_false, Sem.run_bind, Sem.run_pure, Result.andThen_ok]
theorem r_shr {dst : Option Tmp} {t ty : TypeId} {x y : Operand} {t' : TypeId} {p : String} {af : Array Edge} {g : Option (Nat × Bool)} {k k' : IntKind} {m n : Int} (hx : a.eval x = .int k m) (hy : a.eval y = .int k' n) (hn : 0 <= n) :
  (execOp a.eval ⟨dst, .binOp .shr t x y ty, t', p, af, g⟩).run P w = .ok (.value (.int k (m.fdiv (2 ^ (min n.toNat k.bits))))) w := by
 have hg : eqGuard .shr t x y (.int k m) (.int k' n) = pure () := rfl
 have e : binOp .shr t (.int k m) (.int k' n) = Op.shift .shr k m k' n := rfl
 have hn' : ¬ n < 0 := by omega
 simp only [execOp, hx, hy, hg, e, Op.shift, hn', if_false, Sem.run_bind, Sem.run_pure, Result.andThen_ok]
theorem r_indexStr {dst : Option Tmp} {t : TypeId} {x i : Operand} {t' : TypeId} {p : String} {af : Array Edge} {g : Option (Nat × Bool)} {s : ByteArray} {k : IntKind} {n : Int} {c : UInt8}
  (hu : (underlying t).run P w = .ok .string w) (hx : a.eval x = .string s) (hi : a.eval i = .int k n) (h0 : 0 <= n) (h1 : s[n.toNat]? = some c) :
  (execOp a.eval ⟨dst, .index t x i, t', p, af, g⟩).run P w = .ok (.value (.int .u8 (c.toNat : Int))) w := by
 simp only [execOp, hx, hi, Instr.index, asIntOf, hu, Sem.run_bind, Sem.run_pure, Result.andThen_ok, h0, if_true, h1]
theorem r_strAdd {dst : Option Tmp} {t ty : TypeId} {x y : Operand} {t' : TypeId} {p : String} {af : Array Edge} {g : Option (Nat × Bool)} {s u : ByteArray} (hx : a.eval x = .string s) (hy : a.eval y = .string u) (hn : (s.size : Int) + u.size <= 9223372036854775807) :
  (execOp a.eval ⟨dst, .binOp .add t x y ty, t', p, af, g⟩).run P w = .ok (.value (.string (s ++ u))) w := by
 have hg : eqGuard .add t x y (.string s) (.string u) = pure () := rfl
 have e : binOp .add t (.string s) (.string u) = Op.stringOp .add s u := rfl
 have hn' : ¬ ((s.size + u.size : Nat) : Int) > IntKind.i64.max := by
  have : IntKind.i64.max = 9223372036854775807 := by decide
  rw [this]; omega
 simp only [execOp, hx, hy, hg, e, Op.stringOp, hn', if_false, Sem.run_bind, Sem.run_pure, Result.andThen_ok]
theorem r_cap {dst : Option Tmp} {t : TypeId} {e : TypeId} {x : Operand} {t' : TypeId} {p : String} {af : Array Edge} {g : Option (Nat × Bool)} {s : Sl}
  (hu : (underlying t).run P w = .ok (.slice e) w) (hx : a.eval x = s.v) :
  (execOp a.eval ⟨dst, .call ⟨.builtin .cap, #[x], #[t]⟩, t', p, af, g⟩).run P w = .ok (.value (.int .i64 s.c)) w := by
 simp [execOp, resolve, invoke, builtin, Builtin.cap_, hu, hx, goInt]
theorem r_sliceStr10 {dst : Option Tmp} {t : TypeId} {x lo : Operand} {t' : TypeId} {p : String} {af : Array Edge} {g : Option (Nat × Bool)} {s : ByteArray} {k : IntKind} {l : Nat}
  (hu : (underlying t).run P w = .ok .string w) (hx : a.eval x = .string s) (hl : a.eval lo = .int k (l : Int)) (h1 : l <= s.size) (_h2 : s.size <= s.size) :
  (execOp a.eval ⟨dst, .slice t x (some lo) none none, t', p, af, g⟩).run P w = .ok (.value (.string (s.extract l s.size))) w := by
 simp [execOp, hx, Instr.sliceAt, hu, Instr.slice, Instr.sliceBounds, sbound hl h1]
theorem r_sliceStr01 {dst : Option Tmp} {t : TypeId} {x hi : Operand} {t' : TypeId} {p : String} {af : Array Edge} {g : Option (Nat × Bool)} {s : ByteArray} {k : IntKind} {h : Nat}
  (hu : (underlying t).run P w = .ok .string w) (hx : a.eval x = .string s) (hh : a.eval hi = .int k (h : Int)) (_h1 : 0 <= h) (h2 : h <= s.size) :
  (execOp a.eval ⟨dst, .slice t x none (some hi) none, t', p, af, g⟩).run P w = .ok (.value (.string (s.extract 0 h))) w := by
 simp [execOp, hx, Instr.sliceAt, hu, Instr.slice, Instr.sliceBounds, sbound hh h2]
theorem r_sliceStr11 {dst : Option Tmp} {t : TypeId} {x lo hi : Operand} {t' : TypeId} {p : String} {af : Array Edge} {g : Option (Nat × Bool)} {s : ByteArray} {k k' : IntKind} {l h : Nat}
  (hu : (underlying t).run P w = .ok .string w) (hx : a.eval x = .string s) (hl : a.eval lo = .int k (l : Int)) (hh : a.eval hi = .int k' (h : Int)) (h1 : l <= h) (h2 : h <= s.size) :
  (execOp a.eval ⟨dst, .slice t x (some lo) (some hi) none, t', p, af, g⟩).run P w = .ok (.value (.string (s.extract l h))) w := by
 simp [execOp, hx, Instr.sliceAt, hu, Instr.slice, Instr.sliceBounds, sbound hh h2, sbound hl h1]
theorem r_convInt {dst : Option Tmp} {s d : TypeId} {x : Operand} {t' : TypeId} {p : String} {af : Array Edge} {g : Option (Nat × Bool)} {ks kd k : IntKind} {n : Int}
  (hs : (underlying s).run P w = .ok (.int ks) w) (hd : (underlying d).run P w = .ok (.int kd) w) (hx : a.eval x = .int k n) :
  (execOp a.eval ⟨dst, .convert s d x, t', p, af, g⟩).run P w = .ok (.value (.int kd (kd.wrap n))) w := by
 simp [execOp, hx, convert, hs, hd, Conv.intToInt]
theorem r_convStr {dst : Option Tmp} {s d : TypeId} {x : Operand} {t' : TypeId} {p : String} {af : Array Edge} {g : Option (Nat × Bool)} {n : ByteArray}
  (hs : (underlying s).run P w = .ok .string w) (hd : (underlying d).run P w = .ok .string w) (hx : a.eval x = .string n) :
  (execOp a.eval ⟨dst, .convert s d x, t', p, af, g⟩).run P w = .ok (.value (.string n)) w := by
 simp [execOp, hx, convert, hs, hd]
theorem r_iface {dst : Option Tmp} {t : TypeId} {x : Operand} {t' : TypeId} {p : String} {af : Array Edge} {g : Option (Nat × Bool)} {d : TypeDesc} {v : Value}
  (hu : (underlying t).run P w = .ok d w) (hd : (match d with | .interface _ => false | _ => true) = true) (hx : a.eval x = v) :
  (execOp a.eval ⟨dst, .makeInterface t x, t', p, af, g⟩).run P w = .ok (.value (.iface t v)) w := by
 subst hx
 cases d <;> first | (simp at hd; done) | simp [execOp, Instr.makeInterface, hu]
theorem r_lenStr {dst : Option Tmp} {t : TypeId} {x : Operand} {t' : TypeId} {p : String} {af : Array Edge} {g : Option (Nat × Bool)} {s : ByteArray}
  (hu : (underlying t).run P w = .ok .string w) (hx : a.eval x = .string s) :
  (execOp a.eval ⟨dst, .call ⟨.builtin .len, #[x], #[t]⟩, t', p, af, g⟩).run P w = .ok (.value (.int .i64 s.size)) w := by
 simp [execOp, resolve, invoke, builtin, Builtin.len_, hu, hx, goInt]
theorem r_min {dst : Option Tmp} {ts : Array TypeId} {x y : Operand} {t' : TypeId} {p : String} {af : Array Edge} {g : Option (Nat × Bool)} {k k' : IntKind} {m n : Int} (hx : a.eval x = .int k m) (hy : a.eval y = .int k' n) :
  (execOp a.eval ⟨dst, .call ⟨.builtin .min, #[x, y], ts⟩, t', p, af, g⟩).run P w = .ok (.value (.int k (if n < m then n else m))) w := by
 simp [execOp, resolve, invoke, builtin, hx, hy, run_min_int2]
theorem r_max {dst : Option Tmp} {ts : Array TypeId} {x y : Operand} {t' : TypeId} {p : String} {af : Array Edge} {g : Option (Nat × Bool)} {k k' : IntKind} {m n : Int} (hx : a.eval x = .int k m) (hy : a.eval y = .int k' n) :
  (execOp a.eval ⟨dst, .call ⟨.builtin .max, #[x, y], ts⟩, t', p, af, g⟩).run P w = .ok (.value (.int k (if n > m then n else m))) w := by
 simp [execOp, resolve, invoke, builtin, hx, hy, run_max_int2]
theorem r_eqlPtrNilR {dst : Option Tmp} {t ty : TypeId} {x y : Operand} {t' : TypeId} {p : String} {af : Array Edge} {g : Option (Nat × Bool)} {e : TypeId} {q : Option Addr} {b : Bool} (hu : (underlying t).run P w = .ok (.pointer e) w) (hx : a.eval x = .pointer q) (hy : a.eval y = .pointer none) (hb : (q.isNone) = b) :
  (execOp a.eval ⟨dst, .binOp .eql t x y ty, t', p, af, g⟩).run P w = .ok (.value (.bool b)) w := by
 subst hb
 have hE : ∀ d, (Op.equalIn (d + 1) t (.pointer q) (.pointer none)).run P w = .ok q.isNone w := fun d => by
  unfold Op.equalIn
  cases q <;> simp only [Sem.run_bind, hu, Result.andThen_ok] <;> rfl
 have hB : binOp .eql t (.pointer q) (.pointer none) = (do pure (.bool ((<- Op.equal t (.pointer q) (.pointer none))))) := by cases q <;> rfl
 have hG : eqGuard .eql t x y (.pointer q) (.pointer none) = pure () := rfl
 simp only [execOp, hx, hy, hG, hB, Op.equal, Op.maxDepth, Sem.run_bind, Sem.run_pure, Result.andThen_ok, hE 9999]
theorem r_eqlPtrNilL {dst : Option Tmp} {t ty : TypeId} {x y : Operand} {t' : TypeId} {p : String} {af : Array Edge} {g : Option (Nat × Bool)} {e : TypeId} {q : Option Addr} {b : Bool} (hu : (underlying t).run P w = .ok (.pointer e) w) (hx : a.eval x = .pointer none) (hy : a.eval y = .pointer q) (hb : (q.isNone) = b) :
  (execOp a.eval ⟨dst, .binOp .eql t x y ty, t', p, af, g⟩).run P w = .ok (.value (.bool b)) w := by
 subst hb
 have hE : ∀ d, (Op.equalIn (d + 1) t (.pointer none) (.pointer q)).run P w = .ok q.isNone w := fun d => by
  unfold Op.equalIn
  cases q <;> simp only [Sem.run_bind, hu, Result.andThen_ok] <;> rfl
 have hB : binOp .eql t (.pointer none) (.pointer q) = (do pure (.bool ((<- Op.equal t (.pointer none) (.pointer q))))) := by cases q <;> rfl
 have hG : eqGuard .eql t x y (.pointer none) (.pointer q) = pure () := rfl
 simp only [execOp, hx, hy, hG, hB, Op.equal, Op.maxDepth, Sem.run_bind, Sem.run_pure, Result.andThen_ok, hE 9999]
theorem r_neqPtrNilR {dst : Option Tmp} {t ty : TypeId} {x y : Operand} {t' : TypeId} {p : String} {af : Array Edge} {g : Option (Nat × Bool)} {e : TypeId} {q : Option Addr} {b : Bool} (hu : (underlying t).run P w = .ok (.pointer e) w) (hx : a.eval x = .pointer q) (hy : a.eval y = .pointer none) (hb : (!q.isNone) = b) :
  (execOp a.eval ⟨dst, .binOp .neq t x y ty, t', p, af, g⟩).run P w = .ok (.value (.bool b)) w := by
 subst hb
 have hE : ∀ d, (Op.equalIn (d + 1) t (.pointer q) (.pointer none)).run P w = .ok q.isNone w := fun d => by
  unfold Op.equalIn
  cases q <;> simp only [Sem.run_bind, hu, Result.andThen_ok] <;> rfl
 have hB : binOp .neq t (.pointer q) (.pointer none) = (do pure (.bool (!(<- Op.equal t (.pointer q) (.pointer none))))) := by cases q <;> rfl
 have hG : eqGuard .neq t x y (.pointer q) (.pointer none) = pure () := rfl
 simp only [execOp, hx, hy, hG, hB, Op.equal, Op.maxDepth, Sem.run_bind, Sem.run_pure, Result.andThen_ok, hE 9999]
theorem r_neqPtrNilL {dst : Option Tmp} {t ty : TypeId} {x y : Operand} {t' : TypeId} {p : String} {af : Array Edge} {g : Option (Nat × Bool)} {e : TypeId} {q : Option Addr} {b : Bool} (hu : (underlying t).run P w = .ok (.pointer e) w) (hx : a.eval x = .pointer none) (hy : a.eval y = .pointer q) (hb : (!q.isNone) = b) :
  (execOp a.eval ⟨dst, .binOp .neq t x y ty, t', p, af, g⟩).run P w = .ok (.value (.bool b)) w := by
 subst hb
 have hE : ∀ d, (Op.equalIn (d + 1) t (.pointer none) (.pointer q)).run P w = .ok q.isNone w := fun d => by
  unfold Op.equalIn
  cases q <;> simp only [Sem.run_bind, hu, Result.andThen_ok] <;> rfl
 have hB : binOp .neq t (.pointer none) (.pointer q) = (do pure (.bool (!(<- Op.equal t (.pointer none) (.pointer q))))) := by cases q <;> rfl
 have hG : eqGuard .neq t x y (.pointer none) (.pointer q) = pure () := rfl
 simp only [execOp, hx, hy, hG, hB, Op.equal, Op.maxDepth, Sem.run_bind, Sem.run_pure, Result.andThen_ok, hE 9999]
theorem r_eqlBool {dst : Option Tmp} {t ty : TypeId} {x y : Operand} {t' : TypeId} {p : String} {af : Array Edge} {g : Option (Nat × Bool)} {m n : Bool} (hu : P.underlying t = some .bool) (hx : a.eval x = .bool m) (hy : a.eval y = .bool n) :
  (execOp a.eval ⟨dst, .binOp .eql t x y ty, t', p, af, g⟩).run P w = .ok (.value (.bool (m == n))) w := by
 have hG : eqGuard .eql t x y (.bool m) (.bool n) = pure () := rfl
 simp only [execOp, hx, hy, hG, Sem.run_bind, Sem.run_pure, Result.andThen_ok, run_eql_bool w t m n hu]
theorem r_neqBool {dst : Option Tmp} {t ty : TypeId} {x y : Operand} {t' : TypeId} {p : String} {af : Array Edge} {g : Option (Nat × Bool)} {m n : Bool} (hu : P.underlying t = some .bool) (hx : a.eval x = .bool m) (hy : a.eval y = .bool n) :
  (execOp a.eval ⟨dst, .binOp .neq t x y ty, t', p, af, g⟩).run P w = .ok (.value (.bool (!(m == n)))) w := by
 have hG : eqGuard .neq t x y (.bool m) (.bool n) = pure () := rfl
 simp only [execOp, hx, hy, hG, Sem.run_bind, Sem.run_pure, Result.andThen_ok, run_neq_bool w t m n hu]
theorem r_eqlSlNilR {dst : Option Tmp} {t ty : TypeId} {x y : Operand} {t' : TypeId} {p : String} {af : Array Edge} {g : Option (Nat × Bool)} {e : TypeId} {s : Sl} (hu : (underlying t).run P w = .ok (.slice e) w) (hx : a.eval x = s.v) (hy : a.eval y = .slice none 0 0) :
  (execOp a.eval ⟨dst, .binOp .eql t x y ty, t', p, af, g⟩).run P w = .ok (.value (.bool (s.a.isNone))) w := by
 obtain ⟨sa, sn, sc⟩ := s
 have hE : ∀ d, (Op.equalIn (d + 1) t (.slice sa sn sc) (.slice none 0 0)).run P w = .ok sa.isNone w := fun d => by
  unfold Op.equalIn
  cases sa <;> simp only [Sem.run_bind, hu, Result.andThen_ok] <;> rfl
 have hB : binOp .eql t (.slice sa sn sc) (.slice none 0 0) = (do pure (.bool ((<- Op.equal t (.slice sa sn sc) (.slice none 0 0))))) := by cases sa <;> rfl
 have hG : eqGuard .eql t x y (.slice sa sn sc) (.slice none 0 0) = pure () := rfl
 simp only [execOp, hx, hy, hG, hB, Op.equal, Op.maxDepth, Sem.run_bind, Sem.run_pure, Result.andThen_ok, hE 9999]
theorem r_eqlSlNilL {dst : Option Tmp} {t ty : TypeId} {x y : Operand} {t' : TypeId} {p : String} {af : Array Edge} {g : Option (Nat × Bool)} {e : TypeId} {s : Sl} (hu : (underlying t).run P w = .ok (.slice e) w) (hx : a.eval x = .slice none 0 0) (hy : a.eval y = s.v) :
  (execOp a.eval ⟨dst, .binOp .eql t x y ty, t', p, af, g⟩).run P w = .ok (.value (.bool (s.a.isNone))) w := by
 obtain ⟨sa, sn, sc⟩ := s
 have hE : ∀ d, (Op.equalIn (d + 1) t (.slice none 0 0) (.slice sa sn sc)).run P w = .ok sa.isNone w := fun d => by
  unfold Op.equalIn
  cases sa <;> simp only [Sem.run_bind, hu, Result.andThen_ok] <;> rfl
 have hB : binOp .eql t (.slice none 0 0) (.slice sa sn sc) = (do pure (.bool ((<- Op.equal t (.slice none 0 0) (.slice sa sn sc))))) := by cases sa <;> rfl
 have hG : eqGuard .eql t x y (.slice none 0 0) (.slice sa sn sc) = pure () := rfl
 simp only [execOp, hx, hy, hG, hB, Op.equal, Op.maxDepth, Sem.run_bind, Sem.run_pure, Result.andThen_ok, hE 9999]
theorem r_neqSlNilR {dst : Option Tmp} {t ty : TypeId} {x y : Operand} {t' : TypeId} {p : String} {af : Array Edge} {g : Option (Nat × Bool)} {e : TypeId} {s : Sl} (hu : (underlying t).run P w = .ok (.slice e) w) (hx : a.eval x = s.v) (hy : a.eval y = .slice none 0 0) :
  (execOp a.eval ⟨dst, .binOp .neq t x y ty, t', p, af, g⟩).run P w = .ok (.value (.bool (!s.a.isNone))) w := by
 obtain ⟨sa, sn, sc⟩ := s
 have hE : ∀ d, (Op.equalIn (d + 1) t (.slice sa sn sc) (.slice none 0 0)).run P w = .ok sa.isNone w := fun d => by
  unfold Op.equalIn
  cases sa <;> simp only [Sem.run_bind, hu, Result.andThen_ok] <;> rfl
 have hB : binOp .neq t (.slice sa sn sc) (.slice none 0 0) = (do pure (.bool (!(<- Op.equal t (.slice sa sn sc) (.slice none 0 0))))) := by cases sa <;> rfl
 have hG : eqGuard .neq t x y (.slice sa sn sc) (.slice none 0 0) = pure () := rfl
 simp only [execOp, hx, hy, hG, hB, Op.equal, Op.maxDepth, Sem.run_bind, Sem.run_pure, Result.andThen_ok, hE 9999]
theorem r_neqSlNilL {dst : Option Tmp} {t ty : TypeId} {x y : Operand} {t' : TypeId} {p : String} {af : Array Edge} {g : Option (Nat × Bool)} {e : TypeId} {s : Sl} (hu : (underlying t).run P w = .ok (.slice e) w) (hx : a.eval x = .slice none 0 0) (hy : a.eval y = s.v) :
  (execOp a.eval ⟨dst, .binOp .neq t x y ty, t', p, af, g⟩).run P w = .ok (.value (.bool (!s.a.isNone))) w := by
 obtain ⟨sa, sn, sc⟩ := s
 have hE : ∀ d, (Op.equalIn (d + 1) t (.slice none 0 0) (.slice sa sn sc)).run P w = .ok sa.isNone w := fun d => by
  unfold Op.equalIn
  cases sa <;> simp only [Sem.run_bind, hu, Result.andThen_ok] <;> rfl
 have hB : binOp .neq t (.slice none 0 0) (.slice sa sn sc) = (do pure (.bool (!(<- Op.equal t (.slice none 0 0) (.slice sa sn sc))))) := by cases sa <;> rfl
 have hG : eqGuard .neq t x y (.slice none 0 0) (.slice sa sn sc) = pure () := rfl
 simp only [execOp, hx, hy, hG, hB, Op.equal, Op.maxDepth, Sem.run_bind, Sem.run_pure, Result.andThen_ok, hE 9999]
theorem r_slice100 {dst : Option Tmp} {t e : TypeId} {x lo : Operand} {t' : TypeId} {p : String} {af : Array Edge} {g : Option (Nat × Bool)} {s : Sl} {k : IntKind} {l sz : Nat}
  (hu : (underlying t).run P w = .ok (.slice e) w) (hsz : (sizeOf e).run P w = .ok sz w) (hx : a.eval x = s.v) (hl : a.eval lo = .int k (l : Int)) (h1 : l <= s.n) (_h2 : s.n <= s.c) (_h3 : s.c <= s.c) :
  (execOp a.eval ⟨dst, .slice t x (some lo) none none, t', p, af, g⟩).run P w = .ok (.value (s.cut l s.n s.c sz).v) w := by
 simp only [execOp, hx, Instr.sliceAt, hu, Sem.run_bind, Result.andThen_ok, Instr.slice, Instr.sliceBounds, Option.map_some, Option.map_none, Sem.run_pure, sbound hl h1, hsz, Sl.cut]
theorem r_slice010 {dst : Option Tmp} {t e : TypeId} {x hi : Operand} {t' : TypeId} {p : String} {af : Array Edge} {g : Option (Nat × Bool)} {s : Sl} {k : IntKind} {h sz : Nat}
  (hu : (underlying t).run P w = .ok (.slice e) w) (hsz : (sizeOf e).run P w = .ok sz w) (hx : a.eval x = s.v) (hh : a.eval hi = .int k (h : Int)) (_h1 : 0 <= h) (h2 : h <= s.c) (_h3 : s.c <= s.c) :
  (execOp a.eval ⟨dst, .slice t x none (some hi) none, t', p, af, g⟩).run P w = .ok (.value (s.cut 0 h s.c sz).v) w := by
 simp only [execOp, hx, Instr.sliceAt, hu, Sem.run_bind, Result.andThen_ok, Instr.slice, Instr.sliceBounds, Option.map_some, Option.map_none, Sem.run_pure, if_true, sbound hh h2, hsz, Sl.cut]
theorem r_slice110 {dst : Option Tmp} {t e : TypeId} {x lo hi : Operand} {t' : TypeId} {p : String} {af : Array Edge} {g : Option (Nat × Bool)} {s : Sl} {k k' : IntKind} {l h sz : Nat}
  (hu : (underlying t).run P w = .ok (.slice e) w) (hsz : (sizeOf e).run P w = .ok sz w) (hx : a.eval x = s.v) (hl : a.eval lo = .int k (l : Int)) (hh : a.eval hi = .int k' (h : Int)) (h1 : l <= h) (h2 : h <= s.c) (_h3 : s.c <= s.c) :
  (execOp a.eval ⟨dst, .slice t x (some lo) (some hi) none, t', p, af, g⟩).run P w = .ok (.value (s.cut l h s.c sz).v) w := by
 simp only [execOp, hx, Instr.sliceAt, hu, Sem.run_bind, Result.andThen_ok, Instr.slice, Instr.sliceBounds, Option.map_some, Option.map_none, Sem.run_pure, if_true, sbound hh h2, sbound hl h1, hsz, Sl.cut]
theorem r_slice011 {dst : Option Tmp} {t e : TypeId} {x hi mx : Operand} {t' : TypeId} {p : String} {af : Array Edge} {g : Option (Nat × Bool)} {s : Sl} {k' k2 : IntKind} {h m sz : Nat}
  (hu : (underlying t).run P w = .ok (.slice e) w) (hsz : (sizeOf e).run P w = .ok sz w) (hx : a.eval x = s.v) (hh : a.eval hi = .int k' (h : Int)) (hm : a.eval mx = .int k2 (m : Int)) (_h1 : 0 <= h) (h2 : h <= m) (h3 : m <= s.c) :
  (execOp a.eval ⟨dst, .slice t x none (some hi) (some mx), t', p, af, g⟩).run P w = .ok (.value (s.cut 0 h m sz).v) w := by
 simp only [execOp, hx, Instr.sliceAt, hu, Sem.run_bind, Result.andThen_ok, Instr.slice, Instr.sliceBounds, Option.map_some, Option.map_none, Sem.run_pure, if_true, sbound hm h3, sbound hh h2, hsz, Sl.cut]
theorem r_slice111 {dst : Option Tmp} {t e : TypeId} {x lo hi mx : Operand} {t' : TypeId} {p : String} {af : Array Edge} {g : Option (Nat × Bool)} {s : Sl} {k k' k2 : IntKind} {l h m sz : Nat}
  (hu : (underlying t).run P w = .ok (.slice e) w) (hsz : (sizeOf e).run P w = .ok sz w) (hx : a.eval x = s.v) (hl : a.eval lo = .int k (l : Int)) (hh : a.eval hi = .int k' (h : Int)) (hm : a.eval mx = .int k2 (m : Int)) (h1 : l <= h) (h2 : h <= m) (h3 : m <= s.c) :
  (execOp a.eval ⟨dst, .slice t x (some lo) (some hi) (some mx), t', p, af, g⟩).run P w = .ok (.value (s.cut l h m sz).v) w := by
 simp only [execOp, hx, Instr.sliceAt, hu, Sem.run_bind, Result.andThen_ok, Instr.slice, Instr.sliceBounds, Option.map_some, Sem.run_pure, sbound hm h3, sbound hh h2, sbound hl h1, hsz, Sl.cut, Option.isSome_some, if_true]
section
variable {K : Act -> World -> Prop} {o : Oper}
theorem st_one (hg : Region.wanted o (yielded ops a.tmps) = true) (h : o.wp P a w (wpList P ops Q rest) Q) : wpList P ops Q (o :: rest) a w := by
 unfold wpList
 rw [if_pos hg]
 exact .inl h
theorem o_val (v : Value) (hr : (execOp a.eval o).run P w = .ok (.value v) w') (ha : a.put o.dst v = a') (h : K a' w') : o.wp P a w K Q := by
 subst ha
 unfold Oper.wp
 rw [hr]
 exact h
theorem o_skip (hr : (execOp a.eval o).run P w = .ok .skip w') (ha : a.put o.dst undef = a') (h : K a' w') : o.wp P a w K Q := by
 subst ha
 unfold Oper.wp
 rw [hr]
 exact h
theorem o_enter {f : FuncId} {args : Array Value} (hr : (execOp a.eval o).run P w = .ok (.enter f args) w)
  (h : Calls P f args w fun e w' => ∃ v a', e = .returned v /\ a.put o.dst v = a' /\ K a' w') : o.wp P a w K Q := by
 unfold Oper.wp
 rw [hr]
 refine h.mono ?_
 rintro e w' ⟨v, _, rfl, rfl, hk⟩
 exact hk
theorem o_storeB {dst : Option Tmp} {ty : TypeId} {x y : Operand} {t' : TypeId} {p : String} {af : Array Edge} {g : Option (Nat × Bool)} {b o : Nat} {cs vs cs' : List Value} {et : TypeId} {n : Nat}
  (hsz : (sizeOf ty).run P w = .ok n w) (hx : a.eval x = .pointer (some ⟨b, o, none⟩)) (hv : (a.eval y).cells = vs.toArray) (hn : vs.length = n)
  (h1 : vs.all Value.oneCell' = true) (hb : Blk w b et cs) (hfit : o + vs.length <= cs.length) (hcs : splice cs o vs = cs') (ha : a.put dst undef = a')
  (h : ∀ w1, Only [b] w w1 -> Blk w1 b et cs' -> K a' w1) : Oper.wp P ⟨dst, .store ty x y, t', p, af, g⟩ a w K Q :=
 o_skip (r_store hsz hx hv hn (List.all_eq_true.1 h1) hb hfit) ha (h _ (Only.setRow _ _ _) (by rw [<- hcs]; exact hb.setRow _))
theorem o_allocB {dst : Option Tmp} {ty : TypeId} {t' : TypeId} {p : String} {af : Array Edge} {g : Option (Nat × Bool)} {z : Value} {zs : List Value} {a' : Nat -> Act}
  (hz : (zeroValue ty).run P w = .ok z w) (hc : z.cells = zs.toArray) (ha : ∀ b, a.put dst (.pointer (some ⟨b, 0, none⟩)) = a' b)
  (h : ∀ b w1, w.heap.size <= b -> Only [] w w1 -> Blk w1 b ty zs -> K (a' b) w1) : Oper.wp P ⟨dst, .alloc ty, t', p, af, g⟩ a w K Q :=
 o_val _ (r_alloc hz hc) (ha _) (h _ _ (Nat.le_refl _) (Only.alloc _ _) (Blk.alloc _ _ _))
theorem o_boxB {dst : Option Tmp} {ty : TypeId} {x : Operand} {t' : TypeId} {p : String} {af : Array Edge} {g : Option (Nat × Bool)} {zs : List Value} {a' : Nat -> Act}
  (hc : (a.eval x).cells = zs.toArray) (ha : ∀ b, a.put dst (.pointer (some ⟨b, 0, none⟩)) = a' b)
  (h : ∀ b w1, w.heap.size <= b -> Only [] w w1 -> Blk w1 b ty zs -> K (a' b) w1) : Oper.wp P ⟨dst, .box ty x, t', p, af, g⟩ a w K Q :=
 o_val _ (r_box hc) (ha _) (h _ _ (Nat.le_refl _) (Only.alloc _ _) (Blk.alloc _ _ _))
end
theorem block_hit {id : Nat} (h : Q .normal a w) : Exit.inBlock id Q (.exit id) a w := by simpa [Exit.inBlock] using h
theorem block_miss {id id' : Nat} (hne : (id' == id) = false) (h : Q (.exit id') a w) : Exit.inBlock id Q (.exit id') a w := by simpa [Exit.inBlock, by simpa using hne] using h
def resOk (P : Program) (a : Act) (w : World) : List ResultVar -> List Value -> Prop
 | [], [] => True
 | .tmp t :: r, v :: vs => a.eval (.tmp t) = v /\ resOk P a w r vs
 | .cell p t :: r, v :: vs => (∃ ad, a.eval (.tmp p) = .pointer (some ad) /\ (loadVar t ad).run P w = .ok v w) /\ resOk P a w r vs
 | _, _ => False
theorem run_mapM_res (f : ResultVar -> Sem Value) (hf1 : ∀ t, f (.tmp t) = pure (a.tmps.getD t undef)) (hf2 : ∀ q t, f (.cell q t) = (do loadVar t (<- asAddr (a.tmps.getD q undef)))) :
  ∀ (rs : List ResultVar) (vs : List Value), resOk P a w rs vs -> (rs.mapM f).run P w = .ok vs w
 | [], [], _ => rfl
 | [], _ :: _, h => h.elim
 | .tmp t :: r, [], h => h.elim
 | .cell _ _ :: r, [], h => h.elim
 | .tmp t :: r, v :: vs, h => by
  have ih := run_mapM_res f hf1 hf2 r vs h.2
  have h1 : a.tmps.getD t undef = v := h.1
  rw [List.mapM_cons, hf1]
  simp only [Sem.run_bind, Sem.run_pure, Result.andThen_ok, h1, ih]
 | .cell q t :: r, v :: vs, h => by
  have ih := run_mapM_res f hf1 hf2 r vs h.2
  obtain ⟨⟨ad, h1, h2⟩, _⟩ := h
  have h1' : a.tmps.getD q undef = .pointer (some ad) := h1
  rw [List.mapM_cons, hf2]
  simp only [Sem.run_bind, Sem.run_pure, Result.andThen_ok, h1', asAddr, h2, ih]
theorem r_res1 {fn : Func} {rs : List ResultVar} {v : Value} (h : fn.results = rs.toArray) (hr : resOk P a w rs [v]) : (results fn a.tmps).run P w = .ok v w := by
 unfold results
 rw [h, List.mapM_toArray]
 simp only [Sem.run_bind, map_eq_pure_bind, Sem.run_pure]
 rw [run_mapM_res _ (fun _ => rfl) (fun _ _ => rfl) rs [v] hr]
 rfl
theorem r_resN {fn : Func} {rs : List ResultVar} {vs : List Value} (h : fn.results = rs.toArray) (hn : (vs.length == 1) = false) (hr : resOk P a w rs vs) : (results fn a.tmps).run P w = .ok (.tuple vs.toArray) w := by
 unfold results
 rw [h, List.mapM_toArray]
 have hn' : ¬ vs.length = 1 := by simpa using hn
 simp only [Sem.run_bind, map_eq_pure_bind, Sem.run_pure]
 rw [run_mapM_res _ (fun _ => rfl) (fun _ _ => rfl) rs vs hr]
 simp only [Result.andThen_ok, List.size_toArray, hn', dite_false]
theorem r_resultCell {ty : TypeId} {ad : Addr} {cs : List Value} {n : Nat} (hagg : (isAgg ty).run P w = .ok true w) (hsz : (sizeOf ty).run P w = .ok n w) (hn : cs.length = n) (hc : Cells w ad cs) :
  (loadVar ty ad).run P w = .ok (.agg cs.toArray) w := by
 have hl := run_loadCells_list (P := P) w ad cs hc
 rw [hn] at hl
 simp only [Sem.run_bind, Result.andThen_ok, loadVar, hagg, if_true, hsz, hl, Sem.run_pure]
theorem r_resultCell1 {ty : TypeId} {ad : Addr} {v : Value} (hagg : (isAgg ty).run P w = .ok false w) (hc : w.cell? ad = some v) :
  (loadVar ty ad).run P w = .ok v w := by
 simp only [Sem.run_bind, Result.andThen_ok, loadVar, hagg, Bool.false_eq_true, if_false, run_load, hc]
end
section
variable {P : Program} {ops : Array Oper} {rest : List Oper} {a a' : Act} {w : World} {Q : Act -> Prop}
theorem q_val {o : Oper} (v : Value) (hg : Region.wanted o (yielded ops a.tmps) = true)
  (hr : ∀ w', (∃ n, w' = w.drewN n) -> (execOp a.eval o).run P w' = .ok (.value v) w') (ha : a.put o.dst v = a')
  (h : wpQuiet P ops (fun w' => ∃ n, w' = w.drewN n) Q rest a') : wpQuiet P ops (fun w' => ∃ n, w' = w.drewN n) Q (o :: rest) a := by
 subst ha
 unfold wpQuiet
 rw [if_pos hg]
 refine ⟨v, fun w' hw' => ?_, h⟩
 unfold Oper.quietAt
 rw [hr w' hw']
 exact ⟨rfl, rfl⟩
theorem q_no {o : Oper} (hg : Region.wanted o (yielded ops a.tmps) = false) (ha : a.put o.dst undef = a')
  (h : wpQuiet P ops (fun w' => ∃ n, w' = w.drewN n) Q rest a') : wpQuiet P ops (fun w' => ∃ n, w' = w.drewN n) Q (o :: rest) a := by
 subst ha
 unfold wpQuiet
 rw [if_neg (by simp [hg])]
 exact h
end
theorem same_nil {w w' : World} : Same [] w w' := fun _ h => by simp at h
theorem Same.refl (bs : List Nat) (w : World) : Same bs w w := fun _ _ => rfl
section
variable {P : Program} {ops : Array Oper} {Q : Exit -> Act -> World -> Prop} {md : Region.Mode} {E : Nat -> World -> World -> Prop} {F : World -> Prop}
def wpAnyE (P : Program) (md : Region.Mode) (ops : Array Oper) (Q : Exit -> Act -> World -> Prop) (E : Nat -> World -> World -> Prop) : Nat -> Array Bool -> Act -> World -> Prop
 | 0, listed, a, w => Region.ready md ops listed = [] /\ Q .normal a w
 | fuel + 1, listed, a, w =>
  (Region.ready md ops listed = [] -> Q .normal a w) /\
  ∀ i ∈ Region.ready md ops listed, wpOp P ops Q i (fun a' w' => E i w w' /\ wpAnyE P md ops Q E fuel (listed.setIfInBounds i true) a' w') a w
theorem wpAny_of_E : ∀ (fuel : Nat) (listed : Array Bool) (a : Act) (w : World), wpAnyE P md ops Q E fuel listed a w -> wpAny P md ops Q fuel listed a w
 | 0, _, _, _, h => h
 | fuel + 1, _, _, _, h => ⟨h.1, fun i hi => wpOp_mono (fun a' w' h' => wpAny_of_E fuel _ a' w' h'.2) (h.2 i hi)⟩
def Closed (md : Region.Mode) (ops : Array Oper) (listed : Array Bool) : Prop := ∀ k o, ops[k]? = some o -> listed.getD k false = true -> ∀ e ∈ o.after, Region.binds md e = true -> listed.getD e.on false = true
def closedB (md : Region.Mode) (ops : Array Oper) (listed : Array Bool) : Bool :=
 (List.range ops.size).all fun k => !listed.getD k false || ((ops[k]?).map (·.after.all fun e => !Region.binds md e || listed.getD e.on false)).getD true
theorem closed_of {listed : Array Bool} (h : closedB md ops listed = true) : Closed md ops listed := by
 intro k o hk hl e he hb
 have hlt : k < ops.size := (Array.getElem?_eq_some_iff.1 hk).1
 have := (List.all_eq_true.1 h) k (List.mem_range.2 hlt)
 simp only [hl, Bool.not_true, Bool.false_or, hk, Option.map_some, Option.getD_some, Array.all_eq_true_iff_forall_mem, Bool.or_eq_true, Bool.not_eq_true'] at this
 rcases this e he with h1 | h1
 · rw [hb] at h1; cases h1
 · exact h1
theorem Closed.add {listed : Array Bool} {j : Nat} (h : Closed md ops listed) (hj : j ∈ Region.ready md ops listed) : Closed md ops (listed.setIfInBounds j true) := by
 intro k o hk hl e he hb
 obtain ⟨_, oj, hoj, hall⟩ := mem_ready.1 hj
 by_cases hkj : j = k
 · subst hkj
   rw [hoj] at hk
   injection hk with hk
   subst hk
   exact getD_set_true (hall e he hb)
 · rw [getD_set_ne false hkj] at hl
   exact getD_set_true (h k o hk hl e he hb)
def descOk (md : Region.Mode) (ops : Array Oper) (i : Nat) : List Nat -> List Nat -> Bool
 | _, [] => true
 | seen, j :: r => ((ops[j]?).map fun o => o.after.any fun e => Region.binds md e && (e.on == i || seen.contains e.on)).getD false && descOk md ops i (j :: seen) r
theorem desc_listed {i : Nat} {listed : Array Bool} (hc : Closed md ops listed) : ∀ (D seen : List Nat), descOk md ops i seen D = true -> (∀ k ∈ seen, listed.getD k false = true -> listed.getD i false = true) -> ∀ j ∈ D, ∀ o, ops[j]? = some o -> (∀ e ∈ o.after, Region.binds md e = true -> listed.getD e.on false = true) -> listed.getD i false = true
 | [], _, _, _, j, hj, _, _, _ => by simp at hj
 | k :: r, seen, h, hs, j, hj, o, ho, hall => by
  simp only [descOk, Bool.and_eq_true] at h
  have hk : ∀ o, ops[k]? = some o -> (∀ e ∈ o.after, Region.binds md e = true -> listed.getD e.on false = true) -> listed.getD i false = true := by
   intro o ho hall
   have h1 := h.1
   rw [ho] at h1
   simp only [Option.map_some, Option.getD_some, Array.any_eq_true', Bool.and_eq_true, Bool.or_eq_true, beq_iff_eq] at h1
   obtain ⟨e, he, hb, hon⟩ := h1
   rcases hon with hon | hon
   · rw [<- hon]; exact hall e he hb
   · exact hs _ (by simpa using hon) (hall e he hb)
  rcases List.mem_cons.1 hj with rfl | hj
  · exact hk o ho hall
  · refine desc_listed hc r (k :: seen) h.2 ?_ j hj o ho hall
    intro x hx hl
    rcases List.mem_cons.1 hx with rfl | hx
    · have h1 := h.1
      cases hx2 : ops[x]? with
      | none => rw [hx2] at h1; simp at h1
      | some ox => exact hk ox hx2 (hc x ox hx2 hl)
    · exact hs x hx hl
theorem wpAnyE_first {i : Nat} {oi : Oper} {v : Value} {D : List Nat} (hi : ops[i]? = some oi) (hsel : ∀ (j : Nat) (o : Oper) cs b, ops[j]? = some o -> o.op ≠ .select cs b)
  (hQ : ∀ c a w, Q (.panic c) (a.put oi.dst v) w -> Q (.panic c) a w) (hD : descOk md ops i [] D = true)
  (N : List Nat) (hst : ∀ j w w', j ∉ D -> j ∉ N -> F w -> E j w w' -> F w') (hEi : ∀ w, F w -> E i w w) :
  ∀ (fuel : Nat) (listed : Array Bool) (a : Act) (w : World), Closed md ops listed -> (∀ k ∈ N, listed.getD k true = true) ->
   (∀ j oj, ops[j]? = some oj -> j ≠ i -> listed.getD j true = false -> (∀ e ∈ oj.after, Region.binds md e = true -> e.on ≠ i) -> oi.apart ops oj = true) ->
   i ∈ Region.ready md ops listed -> YieldsIf P ops F oi v a -> F w ->
   wpAnyE P md ops Q E fuel (listed.setIfInBounds i true) (a.put oi.dst v) w -> wpAnyE P md ops Q E (fuel + 1) listed a w := by
 intro fuel
 induction fuel with
 | zero =>
  intro listed a w _ _ _ hr hy hF H
  refine ⟨fun h => (by rw [h] at hr; cases hr), fun j hj => ?_⟩
  by_cases hji : j = i
  · subst hji; exact hy.wpOp hi hF ⟨hEi w hF, H⟩
  · have := ready_mono hj hji
    rw [H.1] at this
    cases this
 | succ fuel ih =>
  intro listed a w hcl hN hfree hr hy hF H
  refine ⟨fun h => (by rw [h] at hr; cases hr), fun j hj => ?_⟩
  by_cases hji : j = i
  · subst hji; exact hy.wpOp hi hF ⟨hEi w hF, H⟩
  · have h1 := H.2 j (ready_mono hj hji)
    obtain ⟨hjun, oj, hoj, hall⟩ := mem_ready.1 hj
    have hun0 := (mem_ready.1 hr).1
    have hli : listed.getD i false = false := by
     rcases Nat.lt_or_ge i listed.size with h' | h'
     · simp [h'] at hun0 ⊢; exact hun0
     · simp [Array.getElem?_eq_none h'] at hun0
    have hnot : ∀ e ∈ oj.after, Region.binds md e = true -> e.on ≠ i := fun e he hb heq => by
     have h1 := hall e he hb
     rw [heq, hli] at h1
     cases h1
    have hjD : j ∉ D := fun hm => by
     have := desc_listed hcl D [] hD (by simp) j hm oj hoj hall
     rw [hli] at this
     cases this
    have hjN : j ∉ N := fun hm => by
     have := hN j hm
     rw [hjun] at this
     cases this
    have hN' : ∀ k ∈ N, (listed.setIfInBounds j true).getD k true = true := fun k hk => by
     by_cases hjk : j = k
     · subst hjk; exact absurd hk hjN
     · rw [getD_set_ne true hjk]; exact hN k hk
    have h2 := wpOp_putIf hoj (hfree j oj hoj hji hjun hnot) (fun cs b => hsel i oi cs b hi) (fun cs b => hsel j oj cs b hoj) hQ hy h1
    have hfree' : ∀ k ok, ops[k]? = some ok -> k ≠ i -> (listed.setIfInBounds j true).getD k true = false ->
      (∀ e ∈ ok.after, Region.binds md e = true -> e.on ≠ i) -> oi.apart ops ok = true := fun k ok hk hki hun hno => by
     refine hfree k ok hk hki ?_ hno
     by_cases hjk : j = k
     · subst hjk; exact hjun
     · rw [getD_set_ne true hjk] at hun; exact hun
    refine wpOp_mono (fun a' w' h3 => ⟨h3.2.1, ih (listed.setIfInBounds j true) a' w' (hcl.add hj) hN' hfree' (ready_mono hr (Ne.symm hji)) h3.1 (hst j w w' hjD hjN hF h3.2.1) ?_⟩) h2
    rw [Array.setIfInBounds_comm _ _ hji]
    exact h3.2.2
theorem e_take (i : Nat) {opsl : List Oper} {oi : Oper} {a a' : Act} {w : World} {fuel : Nat} {listed : Array Bool} (D N : List Nat) (v : Value) (F : World -> Prop) (hi : nthO opsl i = some oi)
  (hs : Region.noSelect opsl.toArray = true) (hf : Region.free md opsl.toArray listed i = true) (hr : (Region.ready md opsl.toArray listed).contains i = true) (hc : closedB md opsl.toArray listed = true) (hD : descOk md opsl.toArray i [] D = true) (hN : (N.all fun k => listed.getD k true) = true)
  (hQ : ∀ c a w, Q (.panic c) (a.put oi.dst v) w -> Q (.panic c) a w) (hst : ∀ j w w', j ∉ D -> j ∉ N -> F w -> E j w w' -> F w') (hEi : ∀ w, F w -> E i w w) (hF : F w)
  (hy : YieldsIf P opsl.toArray F oi v a) (ha : a.put oi.dst v = a')
  (h : wpAnyE P md opsl.toArray Q E fuel (listed.setIfInBounds i true) a' w) : wpAnyE P md opsl.toArray Q E (fuel + 1) listed a w := by
 subst ha
 have hi' : opsl.toArray[i]? = some oi := by rw [nthO_eq] at hi; simpa using hi
 exact wpAnyE_first hi' (Region.noSelect_spec hs) hQ hD N hst hEi fuel listed a w (closed_of hc) (fun k hk => by simpa using (List.all_eq_true.1 hN) k hk) (Region.free_spec hi' hf) (by simpa using hr) hy hF h
theorem e_one (i : Nat) {opsl : List Oper} {oi : Oper} {a : Act} {w : World} {fuel : Nat} {listed : Array Bool} (hi : nthO opsl i = some oi) (hr : Region.ready md opsl.toArray listed = [i])
  (hg : Region.wanted oi (yielded opsl.toArray a.tmps) = true)
  (h : oi.wp P a w (fun a' w' => E i w w' /\ wpAnyE P md opsl.toArray Q E fuel (listed.setIfInBounds i true) a' w') Q) : wpAnyE P md opsl.toArray Q E (fuel + 1) listed a w := by
 have hi' : opsl.toArray[i]? = some oi := by rw [nthO_eq] at hi; simpa using hi
 refine ⟨fun h0 => (by rw [h0] at hr; cases hr), fun j hj => ?_⟩
 rw [hr] at hj
 obtain rfl : j = i := by simpa using hj
 unfold wpOp
 simp only [hi']
 rw [if_pos hg]
 exact .inl h
theorem e_oneNo (i : Nat) {opsl : List Oper} {oi : Oper} {a a' : Act} {w : World} {fuel : Nat} {listed : Array Bool} (hi : nthO opsl i = some oi) (hr : Region.ready md opsl.toArray listed = [i])
  (hg : Region.wanted oi (yielded opsl.toArray a.tmps) = false) (hE : E i w w) (ha : a.put oi.dst undef = a')
  (h : wpAnyE P md opsl.toArray Q E fuel (listed.setIfInBounds i true) a' w) : wpAnyE P md opsl.toArray Q E (fuel + 1) listed a w := by
 subst ha
 have hi' : opsl.toArray[i]? = some oi := by rw [nthO_eq] at hi; simpa using hi
 refine ⟨fun h0 => (by rw [h0] at hr; cases hr), fun j hj => ?_⟩
 rw [hr] at hj
 obtain rfl : j = i := by simpa using hj
 unfold wpOp
 simp only [hi']
 rw [if_neg (by simp [hg])]
 exact ⟨hE, h⟩
theorem e_two (i j : Nat) {opsl : List Oper} {oi oj : Oper} {a : Act} {w : World} {fuel : Nat} {listed : Array Bool} (hi : nthO opsl i = some oi) (hj : nthO opsl j = some oj) (hr : Region.ready md opsl.toArray listed = [i, j])
  (h1 : if Region.wanted oi (yielded opsl.toArray a.tmps) then oi.wp P a w (fun a' w' => E i w w' /\ wpAnyE P md opsl.toArray Q E fuel (listed.setIfInBounds i true) a' w') Q ∨ (oi.asks P a w /\ LetsOut Q)
   else (fun a' w' => E i w w' /\ wpAnyE P md opsl.toArray Q E fuel (listed.setIfInBounds i true) a' w') (a.put oi.dst undef) w)
  (h2 : if Region.wanted oj (yielded opsl.toArray a.tmps) then oj.wp P a w (fun a' w' => E j w w' /\ wpAnyE P md opsl.toArray Q E fuel (listed.setIfInBounds j true) a' w') Q ∨ (oj.asks P a w /\ LetsOut Q)
   else (fun a' w' => E j w w' /\ wpAnyE P md opsl.toArray Q E fuel (listed.setIfInBounds j true) a' w') (a.put oj.dst undef) w) : wpAnyE P md opsl.toArray Q E (fuel + 1) listed a w := by
 have hi' : opsl.toArray[i]? = some oi := by rw [nthO_eq] at hi; simpa using hi
 have hj' : opsl.toArray[j]? = some oj := by rw [nthO_eq] at hj; simpa using hj
 refine ⟨fun h0 => (by rw [h0] at hr; cases hr), fun k hk => ?_⟩
 rw [hr] at hk
 unfold wpOp
 rcases List.mem_cons.1 hk with rfl | hk
 · simp only [hi']; exact h1
 · obtain rfl : k = j := by simpa using hk
   simp only [hj']; exact h2
theorem e_done {listed : Array Bool} {a : Act} {w : World} {fuel : Nat} (hr : Region.ready md ops listed = []) (h : Q .normal a w) : wpAnyE P md ops Q E fuel listed a w := by
 cases fuel with
 | zero => exact ⟨hr, h⟩
 | succ n => exact ⟨fun _ => h, by rw [hr]; simp⟩
theorem e_region {id : Nat} {opsl : List Oper} {a : Act} {w : World} (E : Nat -> World -> World -> Prop) (hm : P.follows .mixedOrders = true)
  (h : wpAnyE P .any opsl.toArray Q E opsl.length (Array.replicate opsl.length false) a w.drew) : (Code.region id opsl.toArray true).wp P Q a w := by
 refine wp_region_any hm (wpAny_of_E (E := E) _ _ _ _ ?_)
 simpa using h
theorem addr_blk (a : Addr) (n : Nat) : (a.add n).block = a.block := by unfold Addr.add; split <;> rfl
theorem SlAt.blk {s : Sl} {i : Int} {size : Nat} {ad : Addr} (h : SlAt s i size ad) : ad.block = s.blk := by
 obtain ⟨base, h1, _, _, h2⟩ := h
 rw [h2, addr_blk, Sl.blk, h1]
theorem keep_bytes {s : Sl} {l : List UInt8} (w w' : World) (h : w'.heap[s.blk]? = w.heap[s.blk]?) (hc : Bytes w s l) : Bytes w' s l :=
 ⟨hc.1, fun hl => by
  obtain ⟨ad, h1, h2⟩ := hc.2 hl
  refine ⟨ad, h1, h2.keep ?_⟩
  simpa [Sl.blk, h1] using h⟩
theorem y_val {opsl : List Oper} {o : Oper} {v : Value} {a : Act} (hg : Region.wanted o (yielded opsl.toArray a.tmps) = true) (h : ∀ w, F w -> (execOp a.eval o).run P w = .ok (.value v) w) : YieldsIf P opsl.toArray F o v a := .inl ⟨hg, h⟩
theorem y_no {opsl : List Oper} {o : Oper} {a : Act} (hg : Region.wanted o (yielded opsl.toArray a.tmps) = false) : YieldsIf P opsl.toArray F o undef a := .inr ⟨hg, rfl⟩
end
end Go.Kt
namespace Go.Kt
open Go Go.RowKit
set_option linter.unusedSimpArgs false
set_option linter.unusedVariables false
def InI (x : Int) : Prop := -9223372036854775808 <= x /\ x <= 9223372036854775807
theorem wr {x : Int} (h : InI x) : IntKind.i64.wrap x = x := IntWalk.i64_in _ ⟨h.1, h.2⟩
theorem wr' {x : Int} (h1 : -9223372036854775808 <= x) (h2 : x <= 9223372036854775807) : IntKind.i64.wrap x = x := IntWalk.i64_in _ ⟨h1, h2⟩
abbrev Rp (α : Type) := World -> (Nat -> Prop) -> α -> List Value -> Prop
structure Rp.Ok {α : Type} (r : Rp α) : Prop where
 keep : ∀ {w w' : World} {F : Nat -> Prop} {x : α} {cs : List Value}, r w F x cs -> (∀ k, F k -> k < w.heap.size -> w'.heap[k]? = w.heap[k]?) -> r w' F x cs
 inHeap : ∀ {w : World} {F : Nat -> Prop} {x : α} {cs : List Value}, r w F x cs -> r w (fun k => F k /\ k < w.heap.size) x cs
 mono : ∀ {w : World} {F G : Nat -> Prop} {x : α} {cs : List Value}, r w F x cs -> (∀ k, F k -> G k) -> r w G x cs
 one : ∀ {w : World} {F : Nat -> Prop} {x : α} {cs : List Value}, r w F x cs -> ∀ v, v ∈ cs -> v.oneCell' = true
section
variable {α : Type} {r : Rp α} {size : Nat} {w w' : World} {F G : Nat -> Prop} {s : Sl} {xs : List α}
structure SliceF (r : Rp α) (size : Nat) (w : World) (F : Nat -> Prop) (s : Sl) (xs : List α) : Prop where
 len : s.n = xs.length
 cap : s.n <= s.c
 nil0 : s.a = none -> s.c = 0
 big : s.c <= 9223372036854775807
 at_ : ∀ j x, xs[j]? = some x -> ∃ base cs, s.a = some base /\ F base.block /\ cs.length = size /\ Cells w (base.add (j * size)) cs /\ r w F x cs
theorem addr_block (a : Addr) (n : Nat) : (a.add n).block = a.block := by unfold Addr.add; split <;> rfl
theorem addr_add (a : Addr) (i j : Nat) : (a.add i).add j = a.add (i + j) := by
 unfold Addr.add
 by_cases hi : i = 0 <;> by_cases hj : j = 0 <;> simp [hi, hj, Nat.add_assoc]
theorem addr_zero (a : Addr) : a.add 0 = a := rfl
theorem addr_lit (b o n : Nat) : (⟨b, o, none⟩ : Addr).add n = ⟨b, o + n, none⟩ := by unfold Addr.add; split <;> simp_all
theorem Cells.sub {a : Addr} {cs vs : List Value} (h : Cells w a cs) (k : Nat) (hv : ∀ j v, vs[j]? = some v -> cs[k + j]? = some v) : Cells w (a.add k) vs := fun j v hj => by
 rw [addr_add]; exact h _ v (hv j v hj)
theorem Cells.at1 {a : Addr} {cs : List Value} (h : Cells w a cs) (k : Nat) (v : Value) (hv : cs[k]? = some v) : Cells w (a.add k) [v] := h.sub k fun j u hj => by
 cases j with
 | zero => simpa [hv] using hj
 | succ j => simp at hj
theorem SliceF.nil (r : Rp α) (size : Nat) (w : World) (F : Nat -> Prop) : SliceF r size w F Sl.nil [] := ⟨rfl, Nat.le_refl _, fun _ => rfl, by decide, fun j x h => by simp at h⟩
theorem SliceF.keep (hr : r.Ok) (h : SliceF r size w F s xs) (hs : 0 < size) (hk : ∀ k, F k -> k < w.heap.size -> w'.heap[k]? = w.heap[k]?) : SliceF r size w' F s xs :=
 ⟨h.len, h.cap, h.nil0, h.big, fun j x hx => by
  obtain ⟨base, cs, h1, h2, h3, h4, h5⟩ := h.at_ j x hx
  refine ⟨base, cs, h1, h2, h3, h4.keep ?_, hr.keep h5 hk⟩
  have hlt : (base.add (j * size)).block < w.heap.size := by
   cases cs with
   | nil => simp at h3; omega
   | cons c cs => exact h4.lt
  rw [addr_block] at hlt ⊢
  exact hk _ h2 hlt⟩
theorem SliceF.mono (hr : r.Ok) (h : SliceF r size w F s xs) (hk : ∀ k, F k -> G k) : SliceF r size w G s xs :=
 ⟨h.len, h.cap, h.nil0, h.big, fun j x hx => by
  obtain ⟨base, cs, h1, h2, h3, h4, h5⟩ := h.at_ j x hx
  exact ⟨base, cs, h1, hk _ h2, h3, h4, hr.mono h5 hk⟩⟩
theorem SliceF.inHeap (hr : r.Ok) (h : SliceF r size w F s xs) (hs : 0 < size) : SliceF r size w (fun k => F k /\ k < w.heap.size) s xs :=
 ⟨h.len, h.cap, h.nil0, h.big, fun j x hx => by
  obtain ⟨base, cs, h1, h2, h3, h4, h5⟩ := h.at_ j x hx
  refine ⟨base, cs, h1, ⟨h2, ?_⟩, h3, h4, hr.inHeap h5⟩
  have hlt : (base.add (j * size)).block < w.heap.size := by
   cases cs with
   | nil => simp at h3; omega
   | cons c cs => exact h4.lt
  rwa [addr_block] at hlt⟩
theorem SliceF.get (h : SliceF r size w F s xs) {i : Int} (h0 : 0 <= i) (h1 : i < s.n) :
  ∃ ad x cs, SlAt s i size ad /\ xs[i.toNat]? = some x /\ F ad.block /\ cs.length = size /\ Cells w ad cs /\ r w F x cs := by
 have hl := h.len
 have hlt : i.toNat < xs.length := by omega
 obtain ⟨base, cs, g1, g2, g3, g4, g5⟩ := h.at_ i.toNat _ (List.getElem?_eq_getElem hlt)
 exact ⟨_, _, cs, ⟨base, g1, h0, h1, rfl⟩, List.getElem?_eq_getElem hlt, by rw [addr_block]; exact g2, g3, g4, g5⟩
theorem SliceF.mem (h : SliceF r size w F s xs) {x : α} (hx : x ∈ xs) : ∃ cs, r w F x cs := by
 obtain ⟨j, hj⟩ := List.getElem?_of_mem hx
 obtain ⟨_, cs, _, _, _, _, h5⟩ := h.at_ j x hj
 exact ⟨cs, h5⟩
theorem SliceF.cut (h : SliceF r size w F s xs) {lo hi m : Nat} (h1 : lo <= hi) (h2 : hi <= m) (h3 : hi <= s.n) (h4 : m <= s.c) : SliceF r size w F (s.cut lo hi m size) ((xs.drop lo).take (hi - lo)) := by
 have hl := h.len
 refine ⟨?_, ?_, fun ha => ?_, by have := h.big; simp only [Sl.cut]; omega, fun j x hx => ?_⟩
 · simp only [Sl.cut, List.length_take, List.length_drop]; omega
 · simp only [Sl.cut]; omega
 · simp only [Sl.cut] at ha ⊢
   split at ha
   · omega
   · have := h.nil0 (by simpa using ha); omega
 · rw [List.getElem?_take] at hx
   split at hx
   · rename_i hj
     rw [List.getElem?_drop] at hx
     obtain ⟨base, cs, g1, g2, g3, g4, g5⟩ := h.at_ _ _ hx
     refine ⟨base.add (lo * size), cs, ?_, by rw [addr_block]; exact g2, g3, ?_, g5⟩
     · simp only [Sl.cut]
       rw [if_neg (by omega), g1]
       rfl
     · rw [addr_add, <- Nat.add_mul]; exact g4
   · cases hx
end
structure BytesF (w : World) (F : Nat -> Prop) (s : Sl) (l : List UInt8) : Prop where
 rd : Bytes w s l
 cap : s.n <= s.c
 blk : ∀ ad, s.a = some ad -> l ≠ [] -> F ad.block
section
variable {w w' : World} {F G : Nat -> Prop} {s : Sl} {l : List UInt8}
theorem Bytes.lt (h : Bytes w s l) {ad : Addr} (ha : s.a = some ad) (hl : l ≠ []) : ad.block < w.heap.size := by
 obtain ⟨ad', h1, h2⟩ := h.2 hl
 rw [ha] at h1
 injection h1 with h1
 subst h1
 cases l with
 | nil => exact absurd rfl hl
 | cons c l => exact h2.lt
theorem BytesF.nil (w : World) (F : Nat -> Prop) : BytesF w F Sl.nil [] := ⟨⟨rfl, fun h => absurd rfl h⟩, Nat.le_refl _, fun _ _ h => absurd rfl h⟩
theorem BytesF.keep (h : BytesF w F s l) (hk : ∀ k, F k -> k < w.heap.size -> w'.heap[k]? = w.heap[k]?) : BytesF w' F s l :=
 ⟨⟨h.rd.1, fun hl => by
  obtain ⟨ad, h1, h2⟩ := h.rd.2 hl
  exact ⟨ad, h1, h2.keep (hk _ (h.blk ad h1 hl) (h.rd.lt h1 hl))⟩⟩, h.cap, h.blk⟩
theorem BytesF.mono (h : BytesF w F s l) (hk : ∀ k, F k -> G k) : BytesF w G s l := ⟨h.rd, h.cap, fun ad ha hl => hk _ (h.blk ad ha hl)⟩
theorem BytesF.inHeap (h : BytesF w F s l) : BytesF w (fun k => F k /\ k < w.heap.size) s l := ⟨h.rd, h.cap, fun ad ha hl => ⟨h.blk ad ha hl, h.rd.lt ha hl⟩⟩
end
theorem Only.old {bs : List Nat} {w w' : World} (h : Only bs w w') {B : Nat} (hb : ∀ b ∈ bs, B <= b) : ∀ k, k < B -> k < w.heap.size -> w'.heap[k]? = w.heap[k]? :=
 fun k hk hlt => h.block k hlt fun hm => by have := hb k hm; omega
def All2 {α : Type} (P : α -> List Value -> Prop) : List α -> List (List Value) -> Prop
 | [], [] => True
 | x :: xs, c :: cs => P x c /\ All2 P xs cs
 | _, _ => False
section
variable {α : Type} {P Q : α -> List Value -> Prop}
theorem All2.len : ∀ {xs : List α} {css : List (List Value)}, All2 P xs css -> xs.length = css.length
 | [], [], _ => rfl
 | x :: xs, c :: cs, h => by simp [All2.len (xs := xs) (css := cs) h.2]
 | [], _ :: _, h => h.elim
 | _ :: _, [], h => h.elim
theorem All2.imp (hi : ∀ x c, P x c -> Q x c) : ∀ {xs : List α} {css : List (List Value)}, All2 P xs css -> All2 Q xs css
 | [], [], _ => trivial
 | x :: xs, c :: cs, h => ⟨hi _ _ h.1, All2.imp hi (xs := xs) (css := cs) h.2⟩
 | [], _ :: _, h => h.elim
 | _ :: _, [], h => h.elim
theorem All2.app : ∀ {xs ys : List α} {css dss : List (List Value)}, All2 P xs css -> All2 P ys dss -> All2 P (xs ++ ys) (css ++ dss)
 | [], _, [], _, _, k => k
 | x :: xs, _, c :: cs, _, h, k => ⟨h.1, All2.app (xs := xs) (css := cs) h.2 k⟩
 | [], _, _ :: _, _, h, _ => h.elim
 | _ :: _, _, [], _, h, _ => h.elim
theorem All2.get : ∀ {xs : List α} {css : List (List Value)}, All2 P xs css -> ∀ {j : Nat} {x : α}, xs[j]? = some x -> ∃ cs, css[j]? = some cs /\ P x cs
 | [], [], _, j, x, h => by simp at h
 | y :: xs, c :: cs, k, 0, x, h => by
  simp only [List.getElem?_cons_zero, Option.some.injEq] at h
  subst h
  exact ⟨c, rfl, k.1⟩
 | y :: xs, c :: cs, k, j + 1, x, h => by
  simp only [List.getElem?_cons_succ] at h ⊢
  exact All2.get (xs := xs) (css := cs) k.2 h
 | [], _ :: _, h, _, _, _ => h.elim
 | _ :: _, [], h, _, _, _ => h.elim
theorem All2.mem : ∀ {xs : List α} {css : List (List Value)}, All2 P xs css -> ∀ c, c ∈ css -> ∃ x, P x c
 | [], [], _, c, h => by simp at h
 | y :: xs, d :: cs, k, c, h => by
  rcases List.mem_cons.1 h with rfl | h
  · exact ⟨y, k.1⟩
  · exact All2.mem (xs := xs) (css := cs) k.2 c h
 | [], _ :: _, h, _, _ => h.elim
 | _ :: _, [], h, _, _ => h.elim
theorem All2.take : ∀ (n : Nat) {xs : List α} {css : List (List Value)}, All2 P xs css -> All2 P (xs.take n) (css.take n)
 | 0, _, _, _ => by simp [All2]
 | _ + 1, [], [], _ => by simp [All2]
 | n + 1, x :: xs, c :: cs, h => by simp only [List.take_succ_cons]; exact ⟨h.1, All2.take n (xs := xs) (css := cs) h.2⟩
 | _, [], _ :: _, h => h.elim
 | _, _ :: _, [], h => h.elim
theorem All2.drop : ∀ (n : Nat) {xs : List α} {css : List (List Value)}, All2 P xs css -> All2 P (xs.drop n) (css.drop n)
 | 0, _, _, h => by simpa using h
 | _ + 1, [], [], _ => by simp [All2]
 | n + 1, x :: xs, c :: cs, h => by simp only [List.drop_succ_cons]; exact All2.drop n (xs := xs) (css := cs) h.2
 | _, [], _ :: _, h => h.elim
 | _, _ :: _, [], h => h.elim
theorem All2.set : ∀ {xs : List α} {css : List (List Value)} (j : Nat) {x : α} {c : List Value}, All2 P xs css -> P x c -> All2 P (xs.set j x) (css.set j c)
 | [], [], _, _, _, _, _ => by simp [All2]
 | y :: xs, d :: cs, 0, x, c, h, k => ⟨k, h.2⟩
 | y :: xs, d :: cs, j + 1, x, c, h, k => ⟨h.1, All2.set (xs := xs) (css := cs) j h.2 k⟩
 | [], _ :: _, _, _, _, h, _ => h.elim
 | _ :: _, [], _, _, _, h, _ => h.elim
end
theorem flat_len {css : List (List Value)} {size : Nat} (h : ∀ c, c ∈ css -> c.length = size) : css.flatten.length = css.length * size := by
 induction css with
 | nil => simp
 | cons c cs ih =>
  rw [List.flatten_cons, List.length_append, h c (by simp), ih (fun d hd => h d (by simp [hd])), List.length_cons, Nat.add_mul]
  omega
theorem flat_at {css : List (List Value)} {size : Nat} (h : ∀ c, c ∈ css -> c.length = size) : ∀ {j i : Nat} {cs : List Value} {v : Value}, css[j]? = some cs -> cs[i]? = some v -> css.flatten[j * size + i]? = some v := by
 induction css with
 | nil => intro j i cs v hj; simp at hj
 | cons c cs ih =>
  intro j i ds v hj hi
  have hc := h c (by simp)
  cases j with
  | zero =>
   simp only [List.getElem?_cons_zero, Option.some.injEq] at hj
   subst hj
   have hlt : i < c.length := (List.getElem?_eq_some_iff.1 hi).1
   simp only [Nat.zero_mul, Nat.zero_add, List.flatten_cons]
   rw [List.getElem?_append_left hlt]
   exact hi
  | succ j =>
   simp only [List.getElem?_cons_succ] at hj
   have := ih (fun d hd => h d (by simp [hd])) hj hi
   rw [List.flatten_cons, List.getElem?_append_right (by rw [hc, Nat.add_mul]; omega), hc]
   rw [show (j + 1) * size + i - size = j * size + i by rw [Nat.add_mul]; omega]
   exact this
theorem flat_take {css : List (List Value)} {size : Nat} (h : ∀ c, c ∈ css -> c.length = size) : ∀ (n : Nat), css.flatten.take (n * size) = (css.take n).flatten := by
 induction css with
 | nil => intro n; simp
 | cons c cs ih =>
  intro n
  cases n with
  | zero => simp
  | succ n =>
   have hc := h c (by simp)
   rw [List.flatten_cons, List.take_succ_cons, List.flatten_cons, List.take_append, <- ih (fun d hd => h d (by simp [hd])), hc, show (n + 1) * size - size = n * size by rw [Nat.add_mul]; omega, List.take_of_length_le (by rw [hc, Nat.add_mul]; omega)]
theorem splice_one {cs : List Value} {o : Nat} {v : Value} (h : o < cs.length) : splice cs o [v] = cs.set o v := by
 rw [splice, List.set_eq_take_append_cons_drop, if_pos h]
 simp
theorem flat_set {size : Nat} {tail : List Value} {i : Nat} {v : Value} : ∀ {css : List (List Value)} {n : Nat} {cs : List Value}, (∀ c, c ∈ css -> c.length = size) -> css[n]? = some cs -> i < size ->
  (css.flatten ++ tail).set (n * size + i) v = (css.set n (cs.set i v)).flatten ++ tail
 | [], n, cs, _, hn, _ => by simp at hn
 | c :: css, 0, cs, h, hn, hi => by
  simp only [List.getElem?_cons_zero, Option.some.injEq] at hn
  subst hn
  have hc := h c (by simp)
  simp only [Nat.zero_mul, Nat.zero_add, List.flatten_cons, List.set_cons_zero, List.append_assoc]
  rw [List.set_append_left _ _ (by omega)]
 | c :: css, n + 1, cs, h, hn, hi => by
  simp only [List.getElem?_cons_succ] at hn
  have hc := h c (by simp)
  have ih := flat_set (tail := tail) (v := v) (fun d hd => h d (by simp [hd])) hn hi
  simp only [List.flatten_cons, List.set_cons_succ, List.append_assoc]
  rw [List.set_append_right _ _ (by rw [hc, Nat.add_mul]; omega), hc, show (n + 1) * size + i - size = n * size + i by rw [Nat.add_mul]; omega, ih]
section
variable {w w' : World} {a : Addr} {cs ds : List Value}
theorem Cells.app (h : Cells w a cs) (k : Cells w (a.add cs.length) ds) : Cells w a (cs ++ ds) := fun j v hj => by
 by_cases hlt : j < cs.length
 · rw [List.getElem?_append_left hlt] at hj
   exact h j v hj
 · rw [List.getElem?_append_right (by omega)] at hj
   have := k _ v hj
   rw [addr_add, show cs.length + (j - cs.length) = j by omega] at this
   exact this
theorem Cells.nil (w : World) (a : Addr) : Cells w a [] := fun j v hj => by simp at hj
theorem Cells.take (h : Cells w a cs) (n : Nat) : Cells w a (cs.take n) := fun j v hj => by
 rw [List.getElem?_take] at hj
 split at hj
 · exact h j v hj
 · cases hj
theorem Cells.left (h : Cells w a (cs ++ ds)) : Cells w a cs := fun j v hj => h j v (by
 have hlt : j < cs.length := (List.getElem?_eq_some_iff.1 hj).1
 rw [List.getElem?_append_left hlt]; exact hj)
end
section
variable {α : Type} {r : Rp α} {size : Nat} {w w' : World} {F G : Nat -> Prop} {s y : Sl} {xs ys : List α} {e : TypeId} {B : Nat}
abbrev Els (r : Rp α) (size : Nat) (w : World) (F : Nat -> Prop) : List α -> List (List Value) -> Prop := All2 fun x cs => cs.length = size /\ r w F x cs
theorem Els.sz {css : List (List Value)} (h : Els r size w F xs css) : ∀ c, c ∈ css -> c.length = size := fun c hc => by
 obtain ⟨_, h1, _⟩ := h.mem c hc; exact h1
theorem Els.keep (hr : r.Ok) {css : List (List Value)} (h : Els r size w F xs css) (hk : ∀ k, F k -> k < w.heap.size -> w'.heap[k]? = w.heap[k]?) : Els r size w' F xs css :=
 h.imp fun _ _ h1 => ⟨h1.1, hr.keep h1.2 hk⟩
theorem Els.mono (hr : r.Ok) {css : List (List Value)} (h : Els r size w F xs css) (hk : ∀ k, F k -> G k) : Els r size w G xs css :=
 h.imp fun _ _ h1 => ⟨h1.1, hr.mono h1.2 hk⟩
theorem Els.inHeap (hr : r.Ok) {css : List (List Value)} (h : Els r size w F xs css) : Els r size w (fun k => F k /\ k < w.heap.size) xs css :=
 h.imp fun _ _ h1 => ⟨h1.1, hr.inHeap h1.2⟩
theorem SliceF.flatGo {base : Addr} : ∀ (xs : List α) (k : Nat), (∀ j x, xs[j]? = some x -> ∃ cs, cs.length = size /\ Cells w (base.add ((k + j) * size)) cs /\ r w F x cs) ->
  ∃ css, Els r size w F xs css /\ Cells w (base.add (k * size)) css.flatten
 | [], k, _ => ⟨[], trivial, Cells.nil _ _⟩
 | x :: xs, k, h => by
  obtain ⟨cs, h1, h2, h3⟩ := h 0 x rfl
  obtain ⟨css, k1, k2⟩ := SliceF.flatGo xs (k + 1) (fun j y hj => by
   obtain ⟨ds, g1, g2, g3⟩ := h (j + 1) y (by simpa using hj)
   exact ⟨ds, g1, by rw [show k + 1 + j = k + (j + 1) by omega]; exact g2, g3⟩)
  refine ⟨cs :: css, ⟨⟨h1, h3⟩, k1⟩, ?_⟩
  rw [List.flatten_cons]
  refine Cells.app (by simpa using h2) ?_
  rw [addr_add, h1, show k * size + size = (k + 1) * size by rw [Nat.add_mul]; omega]
  exact k2
theorem SliceF.flat (h : SliceF r size w F s xs) (hx : xs ≠ []) : ∃ base css, s.a = some base /\ F base.block /\ Els r size w F xs css /\ Cells w base css.flatten := by
 cases xs with
 | nil => exact absurd rfl hx
 | cons x xs =>
  obtain ⟨base, _, h1, h2, _⟩ := h.at_ 0 x rfl
  obtain ⟨css, k1, k2⟩ := SliceF.flatGo (r := r) (size := size) (w := w) (F := F) (base := base) (x :: xs) 0 (fun j y hj => by
   obtain ⟨b', cs, g1, g2, g3, g4, g5⟩ := h.at_ j y hj
   rw [h1] at g1
   injection g1 with g1
   subst g1
   exact ⟨cs, g3, by simpa using g4, g5⟩)
  exact ⟨base, css, h1, h2, k1, by rw [Nat.zero_mul, addr_zero] at k2; exact k2⟩
theorem SliceF.of {base : Addr} {css : List (List Value)} (he : Els r size w F xs css) (ha : s.a = some base) (hF : F base.block) (hc : Cells w base css.flatten) (hn : s.n = xs.length) (hc' : s.n <= s.c) (h63 : s.c <= 9223372036854775807) : SliceF r size w F s xs :=
 ⟨hn, hc', fun h => (by rw [ha] at h; cases h), h63, fun j x hx => by
  obtain ⟨cs, h1, h2, h3⟩ := he.get hx
  exact ⟨base, cs, ha, hF, h2, fun i v hi => by rw [addr_add]; exact hc _ v (flat_at he.sz h1 hi), h3⟩⟩
def Own (r : Rp α) (size : Nat) (e : TypeId) (B : Nat) (w : World) (F : Nat -> Prop) (s : Sl) (xs : List α) : Prop :=
 (s = Sl.nil /\ xs = []) ∨ ∃ g css tail, s.a = some ⟨g, 0, none⟩ /\ B <= g /\ Blk w g e (css.flatten ++ tail) /\ tail.length = (s.c - s.n) * size /\ s.n = xs.length /\ s.n <= s.c /\ s.c <= 9223372036854775807 /\ Els r size w (fun k => F k /\ k ≠ g) xs css
theorem Own.len (h : Own r size e B w F s xs) : s.n = xs.length := by
 rcases h with ⟨rfl, rfl⟩ | ⟨g, css, tail, _, _, _, _, h, _⟩
 · rfl
 · exact h
theorem Own.cap (h : Own r size e B w F s xs) : s.n <= s.c := by
 rcases h with ⟨rfl, rfl⟩ | ⟨g, css, tail, _, _, _, _, _, h, _, _⟩
 · exact Nat.le_refl _
 · exact h
theorem Own.slice (hr : r.Ok) (h : Own r size e B w F s xs) : SliceF r size w (fun k => F k ∨ (B <= k /\ s.a = some ⟨k, 0, none⟩)) s xs := by
 rcases h with ⟨rfl, rfl⟩ | ⟨g, css, tail, h1, h2, h4, h5, h6, h7, h9, h8⟩
 · exact SliceF.nil _ _ _ _
 · exact SliceF.of (h8.mono hr fun k hk => .inl hk.1) h1 (.inr ⟨h2, h1⟩) (h4.cells 0 _ fun j v hj => by
    rw [Nat.zero_add, List.getElem?_append_left (List.getElem?_eq_some_iff.1 hj).1]; exact hj) h6 h7 h9
theorem Own.keep (hr : r.Ok) (h : Own r size e B w F s xs) (hk : ∀ k, (F k ∨ (B <= k /\ s.a = some ⟨k, 0, none⟩)) -> k < w.heap.size -> w'.heap[k]? = w.heap[k]?) : Own r size e B w' F s xs := by
 rcases h with ⟨rfl, rfl⟩ | ⟨g, css, tail, h1, h2, h4, h5, h6, h7, h9, h8⟩
 · exact .inl ⟨rfl, rfl⟩
 · exact .inr ⟨g, css, tail, h1, h2, (hk g (.inr ⟨h2, h1⟩) h4.lt).trans h4, h5, h6, h7, h9, h8.keep hr fun k hF => hk k (.inl hF.1)⟩
theorem Own.mono (hr : r.Ok) (h : Own r size e B w F s xs) (hk : ∀ k, F k -> G k) : Own r size e B w G s xs := by
 rcases h with ⟨rfl, rfl⟩ | ⟨g, css, tail, h1, h2, h4, h5, h6, h7, h9, h8⟩
 · exact .inl ⟨rfl, rfl⟩
 · exact .inr ⟨g, css, tail, h1, h2, h4, h5, h6, h7, h9, h8.mono hr fun k h => ⟨hk k h.1, h.2⟩⟩
theorem Own.low {B' : Nat} (h : Own r size e B w F s xs) (hB : B' <= B) : Own r size e B' w F s xs := by
 rcases h with ⟨rfl, rfl⟩ | ⟨g, css, tail, h1, h2, h4⟩
 · exact .inl ⟨rfl, rfl⟩
 · exact .inr ⟨g, css, tail, h1, Nat.le_trans hB h2, h4⟩
theorem Own.nil (r : Rp α) (size : Nat) (e : TypeId) (B : Nat) (w : World) (F : Nat -> Prop) : Own r size e B w F Sl.nil [] := .inl ⟨rfl, rfl⟩
theorem Own.inHeap (hr : r.Ok) (h : Own r size e B w F s xs) : Own r size e B w (fun k => F k /\ k < w.heap.size) s xs := by
 rcases h with ⟨rfl, rfl⟩ | ⟨g, css, tail, h1, h2, h4, h5, h6, h7, h9, h8⟩
 · exact .inl ⟨rfl, rfl⟩
 · exact .inr ⟨g, css, tail, h1, h2, h4, h5, h6, h7, h9, (h8.inHeap hr).mono hr fun k h => ⟨⟨h.1.1, h.2⟩, h.1.2⟩⟩
theorem Own.blk (h : Own r size e B w F s xs) {ad : Addr} (ha : s.a = some ad) : B <= ad.block /\ ad.block < w.heap.size := by
 rcases h with ⟨rfl, rfl⟩ | ⟨g, css, tail, h1, h2, h4, _⟩
 · cases ha
 · rw [h1] at ha
   injection ha with ha
   subst ha
   exact ⟨h2, h4.lt⟩
theorem SliceF.flat' (h : SliceF r size w F s xs) : ∃ css, Els r size w F xs css /\ ∀ base, s.a = some base -> Cells w base css.flatten := by
 cases xs with
 | nil => exact ⟨[], trivial, fun b _ => Cells.nil _ _⟩
 | cons x xs =>
  obtain ⟨base, css, h1, h2, h3, h4⟩ := h.flat (by simp)
  exact ⟨css, h3, fun b hb => by rw [h1] at hb; injection hb with hb; subst hb; exact h4⟩
theorem Els.flen {css : List (List Value)} (h : Els r size w F xs css) : css.flatten.length = xs.length * size := by rw [flat_len h.sz, h.len]
theorem Els.one (hr : r.Ok) {css : List (List Value)} (h : Els r size w F xs css) : ∀ v, v ∈ css.flatten -> v.oneCell' = true := fun v hv => by
 obtain ⟨c, hc, hv⟩ := List.mem_flatten.1 hv
 obtain ⟨x, _, hx⟩ := h.mem c hc
 exact hr.one hx v hv
theorem toArr (l m : List Value) (z : Array Value) : (l.toArray ++ m.toArray ++ z) = (l ++ m ++ z.toList).toArray := by
 apply Array.ext'
 simp
section
variable {P : Program} {t ty : TypeId} {i : TypeInfo} {z : Value} {bytes : Nat}
theorem zero_len (w : World) (k : Nat) (hzs : z.cells.size = size) : (Builtin.zeroCells z.cells k).toList.length = k * size := by
 rw [Array.length_toList, size_zeroCells, hzs]
theorem app_growE (ht : P.underlying t = some (.slice e)) (hi : P.info? e = some i) (hz : i.zero = some z) (hsize : i.size = size) (hby : i.bytes = bytes) (hzs : z.cells.size = size)
  (hr : r.Ok) {css : List (List Value)} (k1 : Els r size w F xs css) (k2 : ∀ base, s.a = some base -> Cells w base css.flatten) (hs0 : s.a = none -> s.c = 0) (hsl : s.n = xs.length) (hsc : s.n <= s.c)
  (hy : SliceF r size w F y ys) (hroom : s.c < s.n + y.n) (hm : (xs.length + ys.length) * bytes <= 140737488355328) (hb0 : 0 < bytes) :
  ∃ s' w', (Builtin.append_ #[t, t] ty #[s.v, y.v]).run P w = .ok s'.v w' /\ Own r size e w.heap.size w' F s' (xs ++ ys) /\ Only [] w w' /\ s'.a = some ⟨w.heap.size, 0, none⟩ := by
 subst hsize
 subst hby
 have h63 : xs.length + ys.length <= 140737488355328 := Nat.le_trans (by have := Nat.mul_le_mul_left (xs.length + ys.length) hb0; omega) hm
 have hyl := hy.len
 have hyn : y.n ≠ 0 := by omega
 have hyx : ys ≠ [] := fun h => hyn (by rw [hyl, h]; rfl)
 obtain ⟨yb, dss, m1, m2, m3, m4⟩ := hy.flat hyx
 obtain ⟨sa, sn, sc⟩ := s
 obtain ⟨ya, yn, yc⟩ := y
 dsimp only at hsl hsc hs0 hyl hyn hroom m1 k2
 subst m1
 have hold : Only [] w w.drew := Only.drew w
 have key : ∀ (need old : Nat), need = sn + yn -> ∀ W', W' = w.drew.alloc (.cells (css.flatten.toArray ++ dss.flatten.toArray ++ Builtin.zeroCells z.cells (grownCap w need old e - need)) e) ->
   Own r i.size e w.heap.size W' F ⟨some ⟨w.heap.size, 0, none⟩, need, grownCap w need old e⟩ (xs ++ ys) /\ Only [] w W' := by
  rintro need old rfl W' rfl
  have hO : Only [] w (w.drew.alloc (.cells (css.flatten.toArray ++ dss.flatten.toArray ++ Builtin.zeroCells z.cells (grownCap w (sn + yn) old e - (sn + yn))) e)) := hold.tr0 (Only.alloc _ _)
  refine ⟨.inr ⟨w.heap.size, css ++ dss, (Builtin.zeroCells z.cells (grownCap w (sn + yn) old e - (sn + yn))).toList, rfl, Nat.le_refl _, ?_, zero_len w _ hzs, ?_, grownCap_ge _ _ _ _, grownCap_le_maxLen _ _ _ _ (by simp only [maxLen]; omega), ?_⟩, hO⟩
  · rw [toArr, List.flatten_append]
    exact Blk.alloc w.drew e _
  · simp only [List.length_append]; omega
  · refine ((Els.mono hr (Els.inHeap hr (All2.app k1 m3)) (G := fun k => F k /\ k ≠ w.heap.size) fun k h => ⟨h.1, by have := h.2; omega⟩)).keep hr fun k hk hlt => hO.block k hlt (by simp)
 cases sa with
 | none =>
  have hsc : sc = 0 := hs0 rfl
  subst hsc
  have hsn : sn = 0 := by omega
  subst hsn
  have hx : xs = [] := List.eq_nil_of_length_eq_zero hsl.symm
  subst hx
  cases css with
  | cons c css => exact k1.elim
  | nil =>
   have hrun := run_append_nil (P := P) w t ty e i z ht hi hz yb yn yc dss.flatten (by rw [m3.flen, hyl]) m4 (by omega) (by omega) (by
    have : (0 + ys.length) * i.bytes <= 140737488355328 := by simpa using hm
    rw [Nat.zero_add, <- hyl] at this; omega)
   obtain ⟨g1, g2⟩ := key yn 0 (by simp) _ rfl
   exact ⟨⟨some ⟨w.heap.size, 0, none⟩, yn, grownCap w yn 0 e⟩, _, hrun, by simpa using g1, by simpa using g2, rfl⟩
 | some b =>
  have hrun := run_append_grow (P := P) w t ty e i z ht hi hz b sn sc css.flatten (by rw [k1.flen, hsl]) (k2 b rfl) yb yn yc dss.flatten (by rw [m3.flen, hyl]) m4 hroom (by omega) (growslice_fits hroom (by rw [hsl, hyl]; exact hm))
  obtain ⟨g1, g2⟩ := key (sn + yn) sc rfl _ rfl
  exact ⟨⟨some ⟨w.heap.size, 0, none⟩, sn + yn, grownCap w (sn + yn) sc e⟩, _, hrun, g1, g2, rfl⟩
theorem app_grow (ht : P.underlying t = some (.slice e)) (hi : P.info? e = some i) (hz : i.zero = some z) (hsize : i.size = size) (hby : i.bytes = bytes) (hzs : z.cells.size = size)
  (hr : r.Ok) (hs : SliceF r size w F s xs) (hy : SliceF r size w F y ys) (hroom : s.c < s.n + y.n) (hm : (xs.length + ys.length) * bytes <= 140737488355328) (hb0 : 0 < bytes) :
  ∃ s' w', (Builtin.append_ #[t, t] ty #[s.v, y.v]).run P w = .ok s'.v w' /\ Own r size e w.heap.size w' F s' (xs ++ ys) /\ Only [] w w' /\ s'.a = some ⟨w.heap.size, 0, none⟩ := by
 obtain ⟨css, k1, k2⟩ := hs.flat'
 exact app_growE ht hi hz hsize hby hzs hr k1 k2 hs.nil0 hs.len hs.cap hy hroom hm hb0
theorem app_room (ht : P.underlying t = some (.slice e)) (hi : P.info? e = some i) (hsize : i.size = size)
  (hr : r.Ok) {g : Nat} {css : List (List Value)} {tail : List Value} (ha : s.a = some ⟨g, 0, none⟩) (hB : B <= g) (hb : Blk w g e (css.flatten ++ tail)) (htl : tail.length = (s.c - s.n) * size) (hn : s.n = xs.length) (hc : s.n <= s.c) (h63 : s.c <= 9223372036854775807)
  (hE : Els r size w (fun k => F k /\ k ≠ g) xs css) (hy : SliceF r size w (fun k => F k /\ k ≠ g) y ys) (hroom : s.n + y.n <= s.c) :
  ∃ w', (Builtin.append_ #[t, t] ty #[s.v, y.v]).run P w = .ok (Sl.v ⟨s.a, s.n + y.n, s.c⟩) w' /\ Own r size e B w' F ⟨s.a, s.n + y.n, s.c⟩ (xs ++ ys) /\ Only [g] w w' := by
 subst hsize
 have hyl := hy.len
 obtain ⟨sa, sn, sc⟩ := s
 obtain ⟨ya, yn, yc⟩ := y
 dsimp only at ha hn hc htl hroom hyl
 subst ha
 obtain ⟨dss, m3, m4⟩ := hy.flat'
 dsimp only at m4
 have hcl : css.flatten.length = sn * i.size := by rw [hE.flen, hn]
 have hdl : dss.flatten.length = yn * i.size := by rw [m3.flen, hyl]
 have hle : sn * i.size + yn * i.size <= sn * i.size + tail.length := by
  rw [htl, <- Nat.add_mul, <- Nat.add_mul]; exact Nat.mul_le_mul_right _ (by omega)
 have hrun : (Builtin.append_ #[t, t] ty #[.slice (some ⟨g, 0, none⟩) sn sc, .slice ya yn yc]).run P w =
   .ok (.slice (some ⟨g, 0, none⟩) (sn + yn) sc) (w.setRow g ((css.flatten ++ dss.flatten) ++ tail.drop (yn * i.size)).toArray) := by
  have hset : ((css.flatten ++ tail).toArray.toList.take (sn * i.size) ++ dss.flatten ++ (css.flatten ++ tail).toArray.toList.drop (sn * i.size + dss.flatten.length)) = (css.flatten ++ dss.flatten) ++ tail.drop (yn * i.size) := by
   rw [List.toList_toArray, <- hcl, List.take_left, hdl, List.drop_append]
   rw [List.drop_eq_nil_of_le (by omega), List.nil_append, Nat.add_sub_cancel_left]
  cases ya with
  | some ya =>
   have := run_append_room (P := P) w t ty e i ht hi g sn sc (css.flatten ++ tail).toArray hb ya yn yc dss.flatten hdl (m4 ya rfl) (m3.one hr) hroom (by
    rw [List.size_toArray, List.length_append, hdl, hcl]; exact hle)
   rw [this, hset]
  | none =>
   have hyx : ys = [] := by
    cases ys with
    | nil => rfl
    | cons x xs => obtain ⟨_, _, h, _⟩ := hy.at_ 0 x rfl; cases h
   subst hyx
   have hyn : yn = 0 := by simpa using hyl
   subst hyn
   cases dss with
   | cons c cs => exact m3.elim
   | nil =>
    have hself : w.setRow g ((css.flatten ++ ([] : List (List Value)).flatten) ++ tail.drop (0 * i.size)).toArray = w := by
     have := setRow_self w g (css.flatten ++ tail).toArray e (0, 0) hb
     simpa using this
    rw [hself]
    have hroom' : sn <= sc := hc
    simp [Builtin.append_, run_underlying ht, sizeOf, typeInfo, hi, Builtin.lenOf, Builtin.firstCells, hroom', storeCells]
 have hO : Only [g] w (w.setRow g ((css.flatten ++ dss.flatten) ++ tail.drop (yn * i.size)).toArray) := Only.setRow _ _ _
 refine ⟨_, hrun, .inr ⟨g, css ++ dss, tail.drop (yn * i.size), rfl, hB, ?_, ?_, ?_, hroom, h63, ?_⟩, hO⟩
 · rw [List.flatten_append]
   exact hb.setRow _
 · rw [List.length_drop, htl, <- Nat.sub_mul]; congr 1; dsimp only; omega
 · dsimp only; rw [List.length_append]; omega
 · exact Els.keep hr (All2.app hE m3) fun k hk hlt => hO.block k hlt (by simpa using hk.2)
theorem app_own (ht : P.underlying t = some (.slice e)) (hi : P.info? e = some i) (hz : i.zero = some z) (hsize : i.size = size) (hby : i.bytes = bytes) (hzs : z.cells.size = size)
  (hr : r.Ok) (hs : Own r size e B w F s xs) (hy : SliceF r size w (fun k => F k /\ s.a ≠ some ⟨k, 0, none⟩) y ys) (hB : B <= w.heap.size) (hm : (xs.length + ys.length) * bytes <= 140737488355328) (hb0 : 0 < bytes) :
  ∃ s' w', (Builtin.append_ #[t, t] ty #[s.v, y.v]).run P w = .ok s'.v w' /\ Own r size e B w' F s' (xs ++ ys) /\ ∃ gs, Only gs w w' /\ (∀ g, g ∈ gs -> s.a = some ⟨g, 0, none⟩ /\ B <= g /\ g < w.heap.size) /\ (s'.a = s.a ∨ s'.a = some ⟨w.heap.size, 0, none⟩) := by
 by_cases hroom : s.n + y.n <= s.c
 · rcases hs with ⟨rfl, rfl⟩ | ⟨g, css, tail, h1, h2, h4, h5, h6, h7, h9, h8⟩
   · have hyn : y.n = 0 := by simpa using hroom
     have hyx : ys = [] := by have := hy.len; rw [hyn] at this; exact List.eq_nil_of_length_eq_zero this.symm
     subst hyx
     refine ⟨Sl.nil, w, ?_, .inl ⟨rfl, rfl⟩, [], Only.refl _ _, by simp, .inl rfl⟩
     obtain ⟨ya, yn, yc⟩ := y
     dsimp only at hyn
     subst hyn
     cases ya <;> simp [Builtin.append_, run_underlying ht, sizeOf, typeInfo, hi, Builtin.lenOf, Builtin.firstCells, loadCells, loadCellsFrom]
   · obtain ⟨w', k1, k2, k3⟩ := app_room (ty := ty) ht hi hsize hr h1 h2 h4 h5 h6 h7 h9 h8 (hy.mono hr fun k hk => ⟨hk.1, fun h => hk.2 (by rw [h, h1])⟩) hroom
     exact ⟨_, w', k1, k2, [g], k3, fun g' hg' => by simp only [List.mem_singleton] at hg'; subst hg'; exact ⟨h1, h2, h4.lt⟩, .inl rfl⟩
 · have hsl := hs.len
   have hsc := hs.cap
   have hy' : SliceF r size w F y ys := hy.mono hr fun k hk => hk.1
   have go : ∀ css, Els r size w F xs css -> (∀ base, s.a = some base -> Cells w base css.flatten) -> (s.a = none -> s.c = 0) ->
     ∃ s' w', (Builtin.append_ #[t, t] ty #[s.v, y.v]).run P w = .ok s'.v w' /\ Own r size e B w' F s' (xs ++ ys) /\ ∃ gs, Only gs w w' /\ (∀ g, g ∈ gs -> s.a = some ⟨g, 0, none⟩ /\ B <= g /\ g < w.heap.size) /\ (s'.a = s.a ∨ s'.a = some ⟨w.heap.size, 0, none⟩) := by
    intro css k1 k2 k3
    obtain ⟨s', w', g1, g2, g3, g4⟩ := app_growE (ty := ty) ht hi hz hsize hby hzs hr k1 k2 k3 hsl hsc hy' (by omega) hm hb0
    exact ⟨s', w', g1, g2.low hB, [], g3, by simp, .inr g4⟩
   rcases hs with ⟨rfl, rfl⟩ | ⟨g, css, tail, h1, h2, h4, h5, h6, h7, h9, h8⟩
   · exact go [] trivial (fun _ h => by cases h) (fun _ => rfl)
   · refine go css (h8.mono hr fun k hk => hk.1) (fun base hb => ?_) (fun h => by rw [h1] at h; cases h)
     rw [h1] at hb
     injection hb with hb
     subst hb
     exact h4.cells 0 _ fun j v hj => by
      rw [Nat.zero_add, List.getElem?_append_left (List.getElem?_eq_some_iff.1 hj).1]; exact hj
theorem run_build0 (w : World) (ht : P.underlying t = some (.slice e)) (hi : P.info? e = some i) : (Instr.buildSlice t 0 #[]).run P w = .ok (.slice (some ⟨w.heap.size, 0, none⟩) 0 0) (w.alloc (.cells #[] e)) := by
 have h0 : Array.map (fun _ => (default : Value)) (Array.range 0) = #[] := Array.ext' (by simp)
 simp [Instr.buildSlice, run_underlying ht, sizeOf, typeInfo, hi, Instr.fill, newRow, h0]
theorem clone_own (ht : P.underlying t = some (.slice e)) (hi : P.info? e = some i) (hz : i.zero = some z) (hsize : i.size = size) (hby : i.bytes = bytes) (hzs : z.cells.size = size) (h0 : 0 < size)
  (hr : r.Ok) (hy : SliceF r size w F y ys) (hm : ys.length * bytes <= 140737488355328) (hb0 : 0 < bytes) :
  ∃ x1 w1, (Instr.buildSlice t 0 #[]).run P w = .ok (Sl.v x1) w1 /\ ∃ x2 w2, (Builtin.append_ #[t, t] ty #[Sl.v x1, Sl.v y]).run P w1 = .ok (Sl.v x2) w2 /\ Own r size e w.heap.size w2 F x2 ys /\ Only [] w w2 /\ x2.a ≠ none := by
 have hO : Only [] w (w.alloc (.cells #[] e)) := Only.alloc _ _
 have hown : Own r size e w.heap.size (w.alloc (.cells #[] e)) (fun k => F k /\ k < w.heap.size) (⟨some ⟨w.heap.size, 0, none⟩, 0, 0⟩ : Sl) [] :=
  .inr ⟨w.heap.size, [], [], rfl, Nat.le_refl _, Blk.alloc w e [], by simp, rfl, Nat.le_refl _, Nat.zero_le _, trivial⟩
 have hyk : SliceF r size (w.alloc (.cells #[] e)) (fun k => (F k /\ k < w.heap.size) /\ (⟨some ⟨w.heap.size, 0, none⟩, 0, 0⟩ : Sl).a ≠ some ⟨k, 0, none⟩) y ys :=
  ((hy.inHeap hr h0).keep hr h0 fun k _ hlt => hO.block k hlt (by simp)).mono hr fun k hk => ⟨hk, fun h => by
   injection h with h
   injection h with h
   have := hk.2
   omega⟩
 refine ⟨⟨some ⟨w.heap.size, 0, none⟩, 0, 0⟩, _, run_build0 w ht hi, ?_⟩
 obtain ⟨s', w', g1, g2, gs, g3, g4, g5⟩ := app_own (ty := ty) ht hi hz hsize hby hzs hr hown hyk hO.size (by simpa using hm) hb0
 refine ⟨s', w', g1, (by simpa using g2.mono hr fun k hk => hk.1), hO.trans g3 fun g hg => .inr (g4 g hg).2.1, ?_⟩
 rcases g5 with h | h <;> rw [h] <;> simp
theorem build_own (ht : P.underlying t = some (.slice e)) (hi : P.info? e = some i) (hz : i.zero = some z) (hsize : i.size = size) (h0 : 0 < size) {vs : List Value} {len : Nat} {parts : Array (Nat × Value)}
  (hp : parts = ((vs.zipIdx 0).map fun x => (x.2, x.1)).toArray) (hl : vs.length = len) (hl0 : 0 < len) (hsm : len * size <= 16777216)
  (hr : r.Ok) (hE : Els r size w F xs (vs.map fun v => v.cells.toList)) :
  ∃ s w', (Instr.buildSlice t len parts).run P w = .ok (Sl.v s) w' /\ Own r size e w.heap.size w' F s xs /\ Only [] w w' /\ s.a = some ⟨w.heap.size, 0, none⟩ /\ s.n = xs.length /\ s.c = xs.length := by
 subst hsize
 subst hp
 subst hl
 have hxl : xs.length = vs.length := by have := hE.len; rwa [List.length_map] at this
 have hsz : ∀ v, v ∈ vs -> v.cells.size = i.size := fun v hv => by
  have := hE.sz _ (List.mem_map.2 ⟨v, hv, rfl⟩)
  simpa using this
 have hrun := run_buildSlice (P := P) w t e vs.length ((vs.zipIdx 0).map fun x => (x.2, x.1)).toArray (vs.flatMap fun v => v.cells.toList).toArray i z ht hi hz (by omega)
  (by have := Nat.mul_lt_mul_of_pos_left h0 hl0; omega)
  (by rw [List.toList_toArray]; exact Go.Great.fill_whole h0 vs _ hsz (by simp))
 have hO : Only [] w (w.alloc (.cells (vs.flatMap fun v => v.cells.toList).toArray e)) := Only.alloc _ _
 refine ⟨⟨some ⟨w.heap.size, 0, none⟩, vs.length, vs.length⟩, _, hrun, .inr ⟨w.heap.size, vs.map (fun v => v.cells.toList), [], rfl, Nat.le_refl _, ?_, by simp, hxl.symm, Nat.le_refl _, ?_, ?_⟩, hO, rfl, hxl.symm, hxl.symm⟩
 · rw [List.append_nil, List.flatMap_def.symm.trans rfl]
   exact Blk.alloc w e _
 · have : vs.length <= vs.length * i.size := Nat.le_mul_of_pos_right _ h0
   dsimp only; omega
 · exact ((Els.mono hr (Els.inHeap hr hE) (G := fun k => F k /\ k ≠ w.heap.size) fun k h => ⟨h.1, by have := h.2; omega⟩)).keep hr fun k hk hlt => hO.block k hlt (by simp)
end
end
def rByte : Rp UInt8 := fun _ _ b cs => cs = [byteV b]
theorem rByte_ok : rByte.Ok where
 keep h _ := h
 inHeap h := h
 mono h _ := h
 one h v hv := by
  rw [show _ = [byteV _] from h] at hv
  simp only [List.mem_singleton] at hv
  subst hv
  rfl
theorem BytesF.slice {w : World} {F : Nat -> Prop} {s : Sl} {l : List UInt8} (h : BytesF w F s l) (h0 : s.a = none -> s.c = 0) (hb : s.c <= 9223372036854775807) : SliceF rByte 1 w F s l :=
 ⟨h.rd.1, h.cap, h0, hb, fun j x hx => by
  have hl : l ≠ [] := fun e => by rw [e] at hx; simp at hx
  obtain ⟨ad, h1, h2⟩ := h.rd.2 hl
  exact ⟨ad, [byteV x], h1, h.blk ad h1 hl, rfl, by rw [Nat.mul_one]; exact h2.at1 j _ (by rw [List.getElem?_map, hx]; rfl), rfl⟩⟩
theorem SliceF.bytes {w : World} {F : Nat -> Prop} {s : Sl} {l : List UInt8} (h : SliceF rByte 1 w F s l) : BytesF w F s l :=
 ⟨⟨h.len, fun hl => by
  obtain ⟨base, css, h1, h2, h3, h4⟩ := h.flat hl
  refine ⟨base, h1, ?_⟩
  have : ∀ (l : List UInt8) (css : List (List Value)), Els rByte 1 w F l css -> css.flatten = l.map byteV := by
   intro l
   induction l with
   | nil => intro css h; cases css with
    | nil => rfl
    | cons c cs => exact h.elim
   | cons b l ih => intro css h; cases css with
    | nil => exact h.elim
    | cons c cs =>
     obtain ⟨⟨_, h1⟩, h2⟩ := h
     rw [List.flatten_cons, ih cs h2, show c = [byteV b] from h1]
     rfl
  rw [<- this l css h3]
  exact h4⟩, h.cap, fun ad ha hl => by
   obtain ⟨base, css, h1, h2, _⟩ := h.flat hl
   rw [ha] at h1
   injection h1 with h1
   rw [h1]
   exact h2⟩
theorem Els.bytes {w : World} {F G : Nat -> Prop} {l : List UInt8} {css : List (List Value)} (h : Els rByte 1 w F l css) : Els rByte 1 w G l css := All2.imp (fun _ _ h => h) h
theorem Own.bytes {w : World} {F G : Nat -> Prop} {e : TypeId} {B : Nat} {s : Sl} {l : List UInt8} (h : Own rByte 1 e B w F s l) : Own rByte 1 e B w G s l := by
 rcases h with h | ⟨g, css, tail, h1, h2, h4, h5, h6, h7, h9, h8⟩
 · exact .inl h
 · exact .inr ⟨g, css, tail, h1, h2, h4, h5, h6, h7, h9, Els.bytes h8⟩
def rInt : Rp Int := fun _ _ x cs => cs = [.int .i64 x] /\ InI x
theorem rInt_ok : rInt.Ok where
 keep h _ := h
 inHeap h := h
 mono h _ := h
 one h v hv := by
  rw [h.1] at hv
  simp only [List.mem_singleton] at hv
  subst hv
  rfl
structure OnlyP (F : Nat -> Prop) (w w' : World) : Prop where
 os : w'.os = w.os
 tape : w'.tape = w.tape
 output : w'.output = w.output
 size : w.heap.size <= w'.heap.size
 block : ∀ k, k < w.heap.size -> ¬ F k -> w'.heap[k]? = w.heap[k]?
section
variable {w w' w'' : World} {F G : Nat -> Prop} {bs : List Nat}
theorem Only.p (h : Only bs w w') (hb : ∀ b, b ∈ bs -> F b ∨ w.heap.size <= b) : OnlyP F w w' :=
 ⟨h.os, h.tape, h.output, h.size, fun k hk hn => h.block k hk fun hm => (hb k hm).elim hn fun h => by omega⟩
theorem Only.p0 (h : Only [] w w') : OnlyP F w w' := h.p (by simp)
theorem OnlyP.refl (F : Nat -> Prop) (w : World) : OnlyP F w w := (Only.refl [] w).p0
theorem OnlyP.mono (h : OnlyP F w w') (hb : ∀ k, k < w.heap.size -> F k -> G k) : OnlyP G w w' := ⟨h.os, h.tape, h.output, h.size, fun k hk hn => h.block k hk fun hf => hn (hb k hk hf)⟩
theorem OnlyP.trans (h : OnlyP F w w') (k : OnlyP G w' w'') (hb : ∀ k, G k -> F k ∨ w.heap.size <= k) : OnlyP F w w'' :=
 ⟨k.os.trans h.os, k.tape.trans h.tape, k.output.trans h.output, Nat.le_trans h.size k.size, fun i hi hn =>
  (k.block i (Nat.lt_of_lt_of_le hi h.size) fun hg => (hb i hg).elim hn fun h => by omega).trans (h.block i hi hn)⟩
theorem OnlyP.tr0 (h : OnlyP F w w') (k : Only [] w' w'') : OnlyP F w w'' := h.trans (k.p0 (F := fun _ => False)) fun _ h => h.elim
theorem Only.trP (h : Only [] w w') (k : OnlyP F w' w'') : OnlyP F w w'' := (h.p0 (F := F)).trans k fun _ h => .inl h
theorem OnlyP.only (h : OnlyP F w w') (hb : ∀ k, F k -> w.heap.size <= k) : Only [] w w' :=
 ⟨h.os, h.tape, h.output, h.size, fun k hk _ => h.block k hk fun hf => by have := hb k hf; omega⟩
theorem OnlyP.keeps (h : OnlyP F w w') (hd : ∀ k, G k -> ¬ F k) : ∀ k, G k -> k < w.heap.size -> w'.heap[k]? = w.heap[k]? := fun k hk hlt => h.block k hlt (hd k hk)
theorem OnlyP.same (h : OnlyP F w w') (hl : ∀ x, x ∈ bs -> x < w.heap.size /\ ¬ F x) : Same bs w w' := fun x hx => h.block x (hl x hx).1 (hl x hx).2
theorem OnlyP.blk (h : OnlyP F w w') {b : Nat} {t : TypeId} {cs : List Value} (hb : Blk w b t cs) (hn : ¬ F b) : Blk w' b t cs := (h.block b hb.lt hn).trans hb
end
section
variable {α : Type} {r : Rp α} {size : Nat} {w w' : World} {F G : Nat -> Prop} {s : Sl} {xs : List α} {e : TypeId} {B : Nat} {bs : List Nat}
theorem SliceF.only (hr : r.Ok) (h0 : 0 < size) (h : SliceF r size w F s xs) (hO : Only bs w w') (hb : ∀ k, F k -> k < w.heap.size -> k ∉ bs) : SliceF r size w' F s xs :=
 h.keep hr h0 fun k hF hlt => hO.block k hlt (hb k hF hlt)
theorem SliceF.onlyP (hr : r.Ok) (h0 : 0 < size) (h : SliceF r size w F s xs) (hO : OnlyP G w w') (hb : ∀ k, F k -> k < w.heap.size -> ¬ G k) : SliceF r size w' F s xs :=
 h.keep hr h0 fun k hF hlt => hO.block k hlt (hb k hF hlt)
theorem Rp.Ok.only (hr : r.Ok) {x : α} {cs : List Value} (h : r w F x cs) (hO : Only bs w w') (hb : ∀ k, F k -> k < w.heap.size -> k ∉ bs) : r w' F x cs := hr.keep h fun k hF hlt => hO.block k hlt (hb k hF hlt)
theorem Els.at (h : ∃ css : List (List Value), Els r size w F xs css) : True := trivial
theorem Els.setAt {css : List (List Value)} (h : Els r size w F xs css) (j : Nat) {x : α} {c : List Value} (hc : c.length = size) (hx : r w F x c) : Els r size w F (xs.set j x) (css.set j c) := All2.set j h ⟨hc, hx⟩
theorem flat_splice {css : List (List Value)} {tail : List Value} : ∀ {n : Nat} {cs vs : List Value}, (∀ c, c ∈ css -> c.length = size) -> css[n]? = some cs -> vs.length = size ->
  splice (css.flatten ++ tail) (n * size) vs = (css.set n vs).flatten ++ tail := by
 induction css with
 | nil => intro n cs vs _ h; simp at h
 | cons c css ih =>
  intro n cs vs hs hn hv
  have hc := hs c (by simp)
  cases n with
  | zero =>
   simp only [splice, Nat.zero_mul, List.take_zero, List.nil_append, Nat.zero_add, List.set_cons_zero, List.flatten_cons, List.append_assoc, hv]
   rw [<- hc, List.drop_left]
  | succ n =>
   simp only [List.getElem?_cons_succ] at hn
   have := ih (fun d hd => hs d (by simp [hd])) hn hv
   have e : (n + 1) * size = c.length + n * size := by rw [Nat.add_mul, hc]; omega
   simp only [splice] at this ⊢
   simp only [List.flatten_cons, List.set_cons_succ, List.append_assoc]
   rw [e, List.take_length_add_append, Nat.add_assoc, List.drop_length_add_append, <- this]
   simp
end
section
variable {α : Type} {r : Rp α} {size : Nat} {w w' : World} {F G : Nat -> Prop} {s : Sl} {xs : List α} {e : TypeId} {B : Nat} {P : Program} {t ty : TypeId} {i : TypeInfo} {z v : Value} {bytes : Nat} {x : α}
theorem app_one (ht : P.underlying t = some (.slice e)) (hi : P.info? e = some i) (hz : i.zero = some z) (hsize : i.size = size) (hby : i.bytes = bytes) (hzs : z.cells.size = size) (h0 : 0 < size) (hb0 : 0 < bytes) (hsm : 1 * size <= 16777216)
  (hr : r.Ok) (hs : Own r size e B w F s xs) (hB : B <= w.heap.size) (hv : v.cells.toList.length = size) (hx : r w G x v.cells.toList) (hG : ∀ k, G k -> k < w.heap.size -> F k /\ s.a ≠ some ⟨k, 0, none⟩) (hm : (xs.length + 1) * bytes <= 140737488355328) :
  ∃ y w1, (Instr.buildSlice t 1 #[(0, v)]).run P w = .ok (Sl.v y) w1 /\ Only [] w w1 /\ ∃ s' w2, (Builtin.append_ #[t, t] ty #[Sl.v s, Sl.v y]).run P w1 = .ok (Sl.v s') w2 /\
   Own r size e B w2 (fun k => F k ∨ w.heap.size <= k) s' (xs ++ [x]) /\ (∃ gs, Only gs w1 w2 /\ ∀ g, g ∈ gs -> s.a = some ⟨g, 0, none⟩ /\ B <= g /\ g < w.heap.size) /\ (s'.a = s.a ∨ ∃ g, s'.a = some ⟨g, 0, none⟩ /\ w.heap.size <= g) := by
 obtain ⟨y, w1, k1, k2, k3, k4, k5, k6⟩ := build_own (P := P) (t := t) (e := e) (i := i) (z := z) (w := w) (F := fun k => G k /\ k < w.heap.size) (vs := [v]) (parts := #[(0, v)]) (len := 1) (xs := [x]) (r := r) (size := size) ht hi hz hsize h0 rfl rfl (by decide) hsm hr ⟨⟨hv, hr.inHeap hx⟩, trivial⟩
 have hs1 : Own r size e B w1 (fun k => F k ∨ w.heap.size <= k) s xs := ((hs.inHeap hr).keep hr fun k _ hlt => k3.block k hlt (by simp)).mono hr fun k hk => .inl hk.1
 have hy := (k2.slice hr).mono hr (G := fun k => (F k ∨ w.heap.size <= k) /\ s.a ≠ some ⟨k, 0, none⟩) fun k hk => by
  rcases hk with ⟨hk, hlt⟩ | ⟨hk, _⟩
  · exact ⟨.inl (hG k hk hlt).1, (hG k hk hlt).2⟩
  · exact ⟨.inr hk, fun ha => by have := (hs.blk ha).2; dsimp only at this; omega⟩
 obtain ⟨s', w2, g1, g2, gs, g3, g4, g5⟩ := app_own (ty := ty) ht hi hz hsize hby hzs hr hs1 hy (Nat.le_trans hB k3.size) hm hb0
 refine ⟨y, w1, k1, k3, s', w2, g1, g2, ⟨gs, g3, fun g hg => ⟨(g4 g hg).1, (g4 g hg).2.1, (hs.blk (g4 g hg).1).2⟩⟩, ?_⟩
 rcases g5 with h | h
 · exact .inl h
 · exact .inr ⟨_, h, k3.size⟩
theorem Own.store (hr : r.Ok) (hs : Own r size e B w F s xs) {n : Nat} (hn : n < xs.length) {x : α} {vs : List Value} (hv : vs.length = size) (hx : r w G x vs) (hG : ∀ k, G k -> k < w.heap.size -> F k /\ s.a ≠ some ⟨k, 0, none⟩) (h0 : 0 < size) :
  ∃ g cells, s.a = some ⟨g, 0, none⟩ /\ SlAt s n size ⟨g, n * size, none⟩ /\ Blk w g e cells /\ n * size + size <= cells.length /\
   ∀ w', Only [g] w w' -> Blk w' g e (splice cells (n * size) vs) -> Own r size e B w' F s (xs.set n x) := by
 rcases hs with ⟨rfl, rfl⟩ | ⟨g, css, tail, h1, h2, h4, h5, h6, h7, h9, h8⟩
 · simp at hn
 have hcl := h8.len
 have hcn : n < css.length := by omega
 have hfl : css.flatten.length = css.length * size := flat_len h8.sz
 have hle : n * size + size <= css.length * size := by
  have := Nat.mul_le_mul_right size (show n + 1 <= css.length by omega)
  rw [Nat.add_mul] at this; omega
 refine ⟨g, _, h1, ⟨_, h1, by omega, by omega, by rw [addr_lit, Int.toNat_natCast, Nat.zero_add]⟩, h4, by rw [List.length_append]; omega, fun w' hO hb => .inr ⟨g, css.set n vs, tail, h1, h2, ?_, h5, by rw [List.length_set]; exact h6, h7, h9, ?_⟩⟩
 · rw [flat_splice h8.sz (List.getElem?_eq_getElem hcn) hv] at hb
   exact hb
 · refine Els.setAt (h8.keep hr fun k hk hlt => hO.block k hlt (by simpa using hk.2)) n hv (hr.keep (w := w) (F := fun k => F k /\ k ≠ g) ?_ fun k hk hlt => hO.block k hlt (by simpa using hk.2))
   refine hr.mono (hr.inHeap hx) fun k hk => ?_
   obtain ⟨p1, p2⟩ := hG k hk.1 hk.2
   exact ⟨p1, fun e => p2 (by rw [h1, e])⟩
end
theorem Own.set1 {α : Type} {r : Rp α} {size : Nat} {w : World} {F : Nat -> Prop} {s : Sl} {xs : List α} {e : TypeId} {B : Nat} (hr : r.Ok) (hs : Own r size e B w F s xs) {n : Nat} {x : α} (hx : xs[n]? = some x) :
  ∃ g cells cs, s.a = some ⟨g, 0, none⟩ /\ SlAt s n size ⟨g, n * size, none⟩ /\ Blk w g e cells /\ cs.length = size /\ Cells w ⟨g, n * size, none⟩ cs /\ r w (fun k => F k /\ k ≠ g) x cs /\
   ∀ (off : Nat) (v : Value) (y : α) (G : Nat -> Prop), off < size -> r w G y (cs.set off v) -> (∀ k, G k -> k < w.heap.size -> F k /\ k ≠ g) ->
    n * size + off + 1 <= cells.length /\ ∀ w', Only [g] w w' -> Blk w' g e (splice cells (n * size + off) [v]) -> Own r size e B w' F s (xs.set n y) := by
 rcases hs with ⟨rfl, rfl⟩ | ⟨g, css, tail, h1, h2, h4, h5, h6, h7, h9, h8⟩
 · simp at hx
 obtain ⟨cs, k1, k2, k3⟩ := h8.get hx
 have hcl := h8.len
 have hn := (List.getElem?_eq_some_iff.1 hx).1
 have hfl : css.flatten.length = css.length * size := flat_len h8.sz
 have hle : n * size + size <= css.length * size := by
  have := Nat.mul_le_mul_right size (show n + 1 <= css.length by omega)
  rw [Nat.add_mul] at this; omega
 refine ⟨g, _, cs, h1, ⟨_, h1, by omega, by omega, by rw [addr_lit, Int.toNat_natCast, Nat.zero_add]⟩, h4, k2, h4.cells _ _ fun j v hj => ?_, k3, fun off v y G ho hy hG => ⟨by rw [List.length_append]; omega, fun w' hO hb => .inr ⟨g, css.set n (cs.set off v), tail, h1, h2, ?_, h5, by rw [List.length_set]; exact h6, h7, h9, ?_⟩⟩⟩
 · have := flat_at h8.sz k1 hj
   rw [List.getElem?_append_left (List.getElem?_eq_some_iff.1 this).1]
   exact this
 · rw [splice_one (by rw [List.length_append]; omega), flat_set h8.sz k1 ho] at hb
   exact hb
 · refine Els.setAt (h8.keep hr fun k hk hlt => hO.block k hlt (by simpa using hk.2)) n (by rw [List.length_set]; exact k2) ?_
   refine hr.mono (hr.keep (hr.inHeap hy) fun k hk hlt => hO.block k hlt (by simpa using (hG k hk.1 hk.2).2)) fun k hk => hG k hk.1 hk.2
theorem All2.mapL {α β : Type} {P : β -> List Value -> Prop} {f : α -> β} : ∀ {xs : List α} {css : List (List Value)}, All2 P (xs.map f) css ↔ All2 (fun x cs => P (f x) cs) xs css
 | [], [] => Iff.rfl
 | x :: xs, c :: cs => by simp only [List.map_cons, All2, All2.mapL (xs := xs) (css := cs)]
 | [], _ :: _ => Iff.rfl
 | _ :: _, [] => Iff.rfl
theorem All2.impM {α : Type} {P Q : α -> List Value -> Prop} : ∀ {xs : List α} {css : List (List Value)}, (∀ x c, x ∈ xs -> P x c -> Q x c) -> All2 P xs css -> All2 Q xs css
 | [], [], _, _ => trivial
 | x :: xs, c :: cs, hi, h => ⟨hi _ _ (by simp) h.1, All2.impM (xs := xs) (css := cs) (fun y d hy => hi y d (by simp [hy])) h.2⟩
 | [], _ :: _, _, h => h.elim
 | _ :: _, [], _, h => h.elim
theorem Own.map {α β : Type} {r : Rp α} {q : Rp β} {size : Nat} {w : World} {F G : Nat -> Prop} {s : Sl} {xs : List α} {e : TypeId} {B : Nat} (f : α -> β) (h : Own r size e B w F s xs) (hf : ∀ g x cs, x ∈ xs -> r w (fun k => F k /\ k ≠ g) x cs -> q w (fun k => G k /\ k ≠ g) (f x) cs) : Own q size e B w G s (xs.map f) := by
 rcases h with ⟨rfl, rfl⟩ | ⟨g, css, tail, h1, h2, h4, h5, h6, h7, h9, h8⟩
 · exact .inl ⟨rfl, rfl⟩
 · exact .inr ⟨g, css, tail, h1, h2, h4, h5, by rw [List.length_map]; exact h6, h7, h9, All2.mapL.2 (All2.impM (fun x c hx hc => ⟨hc.1, hf g x c hx hc.2⟩) h8)⟩
section
variable {P : Program} {w : World}
theorem zeroCells_one {z : Array Value} (hz : ∀ v, v ∈ z -> v.oneCell' = true) (h0 : 0 < z.size) (n : Nat) : ∀ v, v ∈ (Builtin.zeroCells z n).toList -> v.oneCell' = true := fun v hv => by
 have hv' : v ∈ Builtin.zeroCells z n := by simpa using hv
 simp only [Builtin.zeroCells, Array.mem_map, Array.mem_range] at hv'
 obtain ⟨i, hi, rfl⟩ := hv'
 have hlt : i % z.size < z.size := Nat.mod_lt _ h0
 rw [getElem!_pos z (i % z.size) hlt]
 exact hz _ (Array.getElem_mem hlt)
theorem run_clear_row {t e ty : TypeId} {z : Value} (ht : P.underlying t = some (.slice e)) (hv : ∀ w, (zeroValue e).run P w = .ok z w) (h1 : ∀ v, v ∈ z.cells -> v.oneCell' = true) (hz0 : 0 < z.cells.size) {g o n c : Nat} {bt : TypeId} {cs : List Value} (hn : 0 < n)
  (hb : Blk w g bt cs) (hfit : o + n * z.cells.size <= cs.length) :
  (Builtin.clear_ #[t] ty #[.slice (some ⟨g, o, none⟩) n c]).run P w = .ok (.tuple #[]) (w.setRow g (cs.take o ++ (Builtin.zeroCells z.cells n).toList ++ cs.drop (o + n * z.cells.size)).toArray) := by
 have hl : (Builtin.zeroCells z.cells n).toList.length = n * z.cells.size := by rw [Array.length_toList, size_zeroCells]
 have hst := run_storeCells_at P g o bt (Builtin.zeroCells z.cells n).toList 0 cs.toArray w hb (by rw [hl]; simpa using hfit) (zeroCells_one h1 hz0 n)
 simp only [Nat.add_zero, hl, List.toList_toArray] at hst
 obtain ⟨m, rfl⟩ : ∃ m, n = m + 1 := ⟨n - 1, by omega⟩
 simp [Builtin.clear_, run_underlying ht, hv, hst]
theorem Own.clear {α : Type} {r : Rp α} {size : Nat} {F : Nat -> Prop} {s : Sl} {xs : List α} {e : TypeId} {B : Nat} {t ty : TypeId} {z : Value} (hr : r.Ok) (h0 : 0 < size) (ht : P.underlying t = some (.slice e)) (hv : ∀ w, (zeroValue e).run P w = .ok z w) (h1 : ∀ v, v ∈ z.cells -> v.oneCell' = true) (hzs : z.cells.size = size)
  (hs : Own r size e B w F s xs) {i : Nat} (hi : i < xs.length) :
  ∃ w' g, (Builtin.clear_ #[t] ty #[Sl.v (Sl.cut s i s.n s.c size)]).run P w = .ok (.tuple #[]) w' /\ s.a = some ⟨g, 0, none⟩ /\ Only [g] w w' /\ Own r size e B w' F (Sl.cut s 0 i s.c size) (xs.take i) := by
 rcases hs with ⟨rfl, rfl⟩ | ⟨g, css, tail, a1, a2, a4, a5, a6, a7, a9, a8⟩
 · simp at hi
 obtain ⟨sa, sn, sc⟩ := s
 dsimp only at a1 a5 a6 a7 a9
 subst a1
 have hfl := a8.flen
 have hcut : Sl.cut ⟨some ⟨g, 0, none⟩, sn, sc⟩ i sn sc size = ⟨some ⟨g, i * size, none⟩, sn - i, sc - i⟩ := by
  simp only [Sl.cut]
  rw [if_neg (by omega)]
  simp only [Option.map_some, addr_lit, Nat.zero_add]
 have e1 : i * size + (sn - i) * size = sn * size := by rw [<- Nat.add_mul]; congr 1; omega
 have hrun := run_clear_row (P := P) (w := w) (t := t) (ty := ty) ht hv h1 (by omega) (g := g) (o := i * size) (n := sn - i) (c := sc - i) (by omega) a4 (by rw [hzs, e1, List.length_append, hfl, a6]; omega)
 have hO : Only [g] w _ := Only.setRow w g (((css.flatten ++ tail).take (i * size) ++ (Builtin.zeroCells z.cells (sn - i)).toList ++ (css.flatten ++ tail).drop (i * size + (sn - i) * z.cells.size)).toArray)
 refine ⟨_, g, by rw [hcut]; exact hrun, rfl, hO, ?_⟩
 have hcut0 : Sl.cut ⟨some ⟨g, 0, none⟩, sn, sc⟩ 0 i sc size = ⟨some ⟨g, 0, none⟩, i, sc⟩ := by
  simp only [Sl.cut]
  split <;> simp [Addr.add]
 rw [hcut0]
 have htk : (css.flatten ++ tail).take (i * size) = (css.take i).flatten := by
  rw [List.take_append_of_le_length (by rw [hfl, <- a6]; exact Nat.mul_le_mul_right _ (by omega)), flat_take a8.sz]
 refine .inr ⟨g, css.take i, (Builtin.zeroCells z.cells (sn - i)).toList ++ (css.flatten ++ tail).drop (i * size + (sn - i) * z.cells.size), rfl, a2, ?_, ?_, ?_, by dsimp only; omega, a9, ?_⟩
 · have := a4.setRow ((css.flatten ++ tail).take (i * size) ++ (Builtin.zeroCells z.cells (sn - i)).toList ++ (css.flatten ++ tail).drop (i * size + (sn - i) * z.cells.size))
   rw [List.append_assoc, htk] at this
   rw [htk]
   simpa only [List.append_assoc] using this
 · simp only [List.length_append, List.length_drop, hfl, <- a6, Array.length_toList, size_zeroCells, a5, hzs, e1]
   rw [Nat.add_sub_cancel_left, <- Nat.add_mul]
   congr 1
   omega
 · rw [List.length_take]; dsimp only; omega
 · refine Els.keep hr (All2.take i a8) fun k hk hlt => hO.block k hlt (by simpa using hk.2)
end
end Go.Kt
namespace Go.Kt
open Go Go.RowKit Go.MapKept
set_option linter.unusedSimpArgs false
set_option linter.unusedVariables false
structure MapI (w : World) (r : Nat) (m : Int -> Option Int) : Prop where
 mem : ∃ es clock, w.heap[r]? = some (.map es clock) /\ (∀ x, x ∈ es.toList -> ∃ k v, x.key = .int .i64 k /\ x.val = .int .i64 v) /\ es.toList.Pairwise (fun x y => x.key ≠ y.key) /\
  ∀ k v, m k = some v ↔ ∃ x, x ∈ es.toList /\ x.key = .int .i64 k /\ x.val = .int .i64 v
section
variable {P : Program} {w w' : World} {r : Nat} {m : Int -> Option Int} {mty kt et : TypeId}
theorem MapI.keep (h : MapI w r m) (hk : w'.heap[r]? = w.heap[r]?) : MapI w' r m := by
 obtain ⟨es, c, h1, h2⟩ := h.mem
 exact ⟨es, c, hk.trans h1, h2⟩
theorem MapI.lt (h : MapI w r m) : r < w.heap.size := by
 obtain ⟨es, c, h1, h2⟩ := h.mem
 exact (Array.getElem?_eq_some_iff.1 h1).1
theorem MapI.only (h : MapI w r m) {bs : List Nat} (hO : Only bs w w') (hn : r ∉ bs) : MapI w' r m := h.keep (hO.block r h.lt hn)
theorem isKeyI (k : Int) : IsKey (.int .i64) (.int .i64 k) := by simp [IsKey]
theorem MapI.make (w : World) : (Instr.makeMap mty none).run P w = .ok (.map (some w.heap.size)) (w.alloc (.map #[] 0)) /\ MapI (w.alloc (.map #[] 0)) w.heap.size (fun _ => none) /\ Only [] w (w.alloc (.map #[] 0)) :=
 ⟨rfl, ⟨#[], 0, heap_alloc_new w _, by simp, by simp, by simp⟩, Only.alloc _ _⟩
theorem keysI {es : Array MapEntry} (h : ∀ x, x ∈ es.toList -> ∃ k v, x.key = .int .i64 k /\ x.val = .int .i64 v) : ∀ x ∈ es.toList, IsKey (.int .i64) x.key := fun x hx => by
 obtain ⟨k, v, e, _⟩ := h x hx
 rw [e]; exact isKeyI k
theorem uniqI {l : List MapEntry} (h : l.Pairwise fun x y => x.key ≠ y.key) {x y : MapEntry} (hx : x ∈ l) (hy : y ∈ l) (hk : x.key = y.key) : x = y := by
 induction l with
 | nil => simp at hx
 | cons z l ih =>
  obtain ⟨h1, h2⟩ := List.pairwise_cons.1 h
  rcases List.mem_cons.1 hx with hx1 | hx1 <;> rcases List.mem_cons.1 hy with hy1 | hy1
  · rw [hx1, hy1]
  · rw [hx1] at hk
    exact absurd hk (h1 y hy1)
  · rw [hy1] at hk
    exact absurd hk.symm (h1 x hx1)
  · exact ih h2 hx1 hy1
theorem MapI.lookup (hm : P.underlying mty = some (.map kt et)) (hd : P.underlying kt = some (.int .i64)) (hz : ∀ w, (zeroValue et).run P w = .ok (.int .i64 0) w) (h : MapI w r m) (k : Int) :
  (Instr.lookup mty (.map (some r)) (.int .i64 k) true).run P w = .ok (.tuple #[.int .i64 ((m k).getD 0), .bool (m k).isSome]) w := by
 obtain ⟨es, c, h1, h2, h3, h4⟩ := h.mem
 rcases findNow_spec (isKeyI k) es.toList 0 (keysI h2) with ⟨g1, g2⟩ | ⟨j, e, g1, g2, g3⟩
 · have hn : m k = none := by
    cases hmk : m k with
    | none => rfl
    | some v =>
     obtain ⟨x, hx, hk, _⟩ := (h4 k v).1 hmk
     exact absurd hk (g2 x hx)
   simp [Instr.lookup, run_underlying hm, MapKept.run_getObj_map h1, MapKept.run_checkKey hd (isKeyI k), MapKept.run_findKey hd g1, Result.andThen, hz, hn]
 · have he := List.mem_of_getElem? g2
   obtain ⟨k', v, e1, e2⟩ := h2 e he
   have hmk : m k = some v := (h4 k v).2 ⟨e, he, g3, e2⟩
   simp [Instr.lookup, run_underlying hm, MapKept.run_getObj_map h1, MapKept.run_checkKey hd (isKeyI k), MapKept.run_findKey hd g1, Result.andThen, hmk, e2]
theorem only_set {w : World} {r : Nat} {o o' : Obj} (hb : w.heap[r]? = some o) : Only [r] w { w with heap := w.heap.setIfInBounds r o' } :=
 ⟨rfl, rfl, rfl, by simp, fun k _ hn => (heap_set hb).2 k (by simpa using hn)⟩
theorem modify_set {α : Type} {l : List α} {j : Nat} {f : α -> α} {e : α} (h : l[j]? = some e) : l.modify j f = l.set j (f e) := by
 apply List.ext_getElem?
 intro i
 rw [List.getElem?_modify, List.getElem?_set]
 by_cases hij : j = i
 · subst hij
   rw [if_pos rfl, if_pos (List.getElem?_eq_some_iff.1 h).1, h]
   simp
 · rw [if_neg hij]
   cases l[i]? <;> simp [hij]
theorem MapI.update (hm : P.underlying mty = some (.map kt et)) (hd : P.underlying kt = some (.int .i64)) (h : MapI w r m) (k v : Int) :
  ∃ w', (Instr.mapUpdate mty (.map (some r)) (.int .i64 k) (.int .i64 v)).run P w = .ok () w' /\ MapI w' r (fun x => if x = k then some v else m x) /\ Only [r] w w' := by
 obtain ⟨es, c, h1, h2, h3, h4⟩ := h.mem
 rcases findNow_spec (isKeyI k) es.toList 0 (keysI h2) with ⟨g1, g2⟩ | ⟨j, e, g1, g2, g3⟩
 · refine ⟨{ w with heap := w.heap.setIfInBounds r (.map (es.push { key := .int .i64 k, val := .int .i64 v, born := c }) (c + 1)) }, ?_, ⟨_, _, (heap_set h1).1, ?_, ?_, ?_⟩, only_set h1⟩
   · simp [Instr.mapUpdate, run_underlying hm, MapKept.run_getObj_map h1, MapKept.run_checkKey hd (isKeyI k), MapKept.run_findKey hd g1, MapKept.run_setObj_map _ h1, Result.andThen]
   · intro x hx
     simp only [Array.toList_push, List.mem_append, List.mem_singleton] at hx
     rcases hx with hx | rfl
     · exact h2 x hx
     · exact ⟨k, v, rfl, rfl⟩
   · rw [Array.toList_push, List.pairwise_append]
     exact ⟨h3, by simp, fun x hx y hy => by simp only [List.mem_singleton] at hy; rw [hy]; exact g2 x hx⟩
   · intro k' v'
     simp only [Array.toList_push, List.mem_append, List.mem_singleton]
     by_cases hk : k' = k
     · subst hk
       simp only [if_true, Option.some.injEq]
       constructor
       · rintro rfl
         exact ⟨_, .inr rfl, rfl, rfl⟩
       · rintro ⟨x, hx | rfl, e1, e2⟩
         · exact absurd e1 (g2 x hx)
         · simpa using e2
     · rw [if_neg hk, h4]
       constructor
       · rintro ⟨x, hx, e1, e2⟩
         exact ⟨x, .inl hx, e1, e2⟩
       · rintro ⟨x, hx | rfl, e1, e2⟩
         · exact ⟨x, hx, e1, e2⟩
         · simp only [Value.int.injEq, true_and] at e1
           exact absurd e1.symm hk
 · have hj : es[j]? = some e := by simpa using g2
   have hjl : j < es.toList.length := (List.getElem?_eq_some_iff.1 g2).1
   refine ⟨{ w with heap := w.heap.setIfInBounds r (.map (es.modify j fun e => { e with key := .int .i64 k, val := .int .i64 v }) c) }, ?_, ⟨_, _, (heap_set h1).1, ?_, ?_, ?_⟩, only_set h1⟩
   · simp [Instr.mapUpdate, run_underlying hm, MapKept.run_getObj_map h1, MapKept.run_checkKey hd (isKeyI k), MapKept.run_findKey hd g1, hj, g3, MapKept.run_keyThatStays (isKeyI k), MapKept.run_setObj_map _ h1, Result.andThen]
   all_goals rw [Array.toList_modify, modify_set g2]
   · intro x hx
     rcases List.mem_or_eq_of_mem_set hx with hx | rfl
     · exact h2 x hx
     · exact ⟨k, v, rfl, rfl⟩
   · have : (es.toList.set j { e with key := .int .i64 k, val := .int .i64 v }).map (·.key) = es.toList.map (·.key) := by
      rw [List.map_set]
      apply List.ext_getElem?
      intro i
      rw [List.getElem?_set]
      split
      · rename_i hi
        subst hi
        rw [List.length_map, if_pos hjl, List.getElem?_map, g2]
        simp [g3]
      · rfl
     have h5 : (es.toList.map (·.key)).Pairwise (· ≠ ·) := List.pairwise_map.2 h3
     rw [<- this] at h5
     exact List.pairwise_map.1 h5
   · intro k' v'
     by_cases hk : k' = k
     · subst hk
       simp only [if_true, Option.some.injEq]
       constructor
       · rintro rfl
         exact ⟨_, List.mem_set hjl _, rfl, rfl⟩
       · rintro ⟨x, hx, e1, e2⟩
         obtain ⟨i, hi⟩ := List.getElem?_of_mem hx
         rw [List.getElem?_set] at hi
         split at hi
         · injection hi with hi
           rw [<- hi] at e2
           simpa using e2
         · rename_i hij
           have hxm := List.mem_of_getElem? hi
           have := uniqI h3 hxm (List.mem_of_getElem? g2) (by rw [e1, g3])
           subst this
           have hil := (List.getElem?_eq_some_iff.1 hi).1
           have hne := List.pairwise_iff_getElem.1 h3
           rcases Nat.lt_or_gt_of_ne hij with hlt | hgt
           · exact absurd (by rw [(List.getElem?_eq_some_iff.1 g2).2, (List.getElem?_eq_some_iff.1 hi).2]) (hne j i hjl hil hlt)
           · exact absurd (by rw [(List.getElem?_eq_some_iff.1 g2).2, (List.getElem?_eq_some_iff.1 hi).2]) (hne i j hil hjl hgt)
     · rw [if_neg hk, h4]
       constructor
       · rintro ⟨x, hx, e1, e2⟩
         obtain ⟨i, hi⟩ := List.getElem?_of_mem hx
         refine ⟨x, List.mem_of_getElem? (i := i) ?_, e1, e2⟩
         rw [List.getElem?_set_ne]
         · exact hi
         · rintro rfl
           rw [g2] at hi
           injection hi with hi
           rw [<- hi, g3] at e1
           simp only [Value.int.injEq, true_and] at e1
           exact hk e1.symm
       · rintro ⟨x, hx, e1, e2⟩
         rcases List.mem_or_eq_of_mem_set hx with hx | rfl
         · exact ⟨x, hx, e1, e2⟩
         · simp only [Value.int.injEq, true_and] at e1
           exact absurd e1.symm hk
theorem MapI.delete (hm : P.underlying mty = some (.map kt et)) (hd : P.underlying kt = some (.int .i64)) (h : MapI w r m) (k : Int) (ty : TypeId) :
  ∃ w', (Builtin.delete_ #[mty, kt] ty #[.map (some r), .int .i64 k]).run P w = .ok (.tuple #[]) w' /\ MapI w' r (fun x => if x = k then none else m x) /\ Only [r] w w' := by
 obtain ⟨es, c, h1, h2, h3, h4⟩ := h.mem
 rcases findNow_spec (isKeyI k) es.toList 0 (keysI h2) with ⟨g1, g2⟩ | ⟨j, e, g1, g2, g3⟩
 · refine ⟨{ w with heap := w.heap.setIfInBounds r (.map es c) }, ?_, ⟨_, _, (heap_set h1).1, h2, h3, ?_⟩, only_set h1⟩
   · simp [Builtin.delete_, run_underlying hm, MapKept.run_getObj_map h1, MapKept.run_checkKey hd (isKeyI k), MapKept.run_findKey hd g1, MapKept.run_setObj_map _ h1, Result.andThen]
   · intro k' v'
     by_cases hk : k' = k
     · subst hk
       simp only [if_true]
       constructor
       · intro h; cases h
       · rintro ⟨x, hx, e1, _⟩
         exact absurd e1 (g2 x hx)
     · rw [if_neg hk, h4]
 · have hjl : j < es.toList.length := (List.getElem?_eq_some_iff.1 g2).1
   have hje := (List.getElem?_eq_some_iff.1 g2).2
   have hes : (es.eraseIdxIfInBounds j).toList = es.toList.eraseIdx j := by
    unfold Array.eraseIdxIfInBounds
    rw [dif_pos (by simpa using hjl), Array.toList_eraseIdx]
   refine ⟨{ w with heap := w.heap.setIfInBounds r (.map (es.eraseIdxIfInBounds j) c) }, ?_, ⟨_, _, (heap_set h1).1, ?_, ?_, ?_⟩, only_set h1⟩
   · simp [Builtin.delete_, run_underlying hm, MapKept.run_getObj_map h1, MapKept.run_checkKey hd (isKeyI k), MapKept.run_findKey hd g1, MapKept.run_setObj_map _ h1, Result.andThen]
   · rw [hes]
     exact fun x hx => h2 x ((List.eraseIdx_sublist _ _).subset hx)
   · rw [hes]
     exact h3.sublist (List.eraseIdx_sublist _ _)
   · intro k' v'
     rw [hes]
     have hne := List.pairwise_iff_getElem.1 h3
     by_cases hk : k' = k
     · subst hk
       simp only [if_true]
       constructor
       · intro h; cases h
       · rintro ⟨x, hx, e1, _⟩
         rw [List.mem_eraseIdx_iff_getElem] at hx
         obtain ⟨i, hi, hij, hxe⟩ := hx
         rcases Nat.lt_or_gt_of_ne hij with hlt | hgt
         · exact absurd (by rw [hje, hxe, e1, g3]) (hne i j hi hjl hlt)
         · exact absurd (by rw [hje, hxe, e1, g3]) (hne j i hjl hi hgt)
     · rw [if_neg hk, h4]
       constructor
       · rintro ⟨x, hx, e1, e2⟩
         refine ⟨x, ?_, e1, e2⟩
         rw [List.mem_eraseIdx_iff_getElem]
         obtain ⟨i, hi, hxe⟩ := List.getElem_of_mem hx
         refine ⟨i, hi, ?_, hxe⟩
         rintro rfl
         rw [hje] at hxe
         rw [<- hxe, g3] at e1
         simp only [Value.int.injEq, true_and] at e1
         exact hk e1.symm
       · rintro ⟨x, hx, e1, e2⟩
         exact ⟨x, (List.eraseIdx_sublist _ _).subset hx, e1, e2⟩
end
end Go.Kt
namespace Go.Kt
open Go Go.RowKit
set_option linter.unusedSimpArgs false
set_option linter.unusedVariables false
@[reducible] def T (l : List UInt8) : ByteArray := ⟨l.toArray⟩
theorem T_of (s : ByteArray) : s = T s.data.toList := by
 obtain ⟨⟨l⟩⟩ := s
 rfl
theorem T_size (l : List UInt8) : (T l).size = l.length := by simp [T, ByteArray.size]
def look (us : Nat -> Value) : List (Nat × Value) -> Nat -> Value
 | [], i => us i
 | (k, v) :: r, i => bif Nat.beq k i then v else look us r i
def lookO : List (Nat × Value) -> Nat -> Option Value
 | [], _ => none
 | (k, v) :: r, i => bif Nat.beq k i then some v else lookO r i
def tab (us : Nat -> Value) (l : List (Nat × Value)) : Nat -> Nat -> List Value
 | 0, _ => []
 | n + 1, i => look us l i :: tab us l n (i + 1)
def fr (n : Nat) (us : Nat -> Value) (l : List (Nat × Value)) : Act := ⟨(tab us l n 0).toArray, []⟩
def evO (n : Nat) (l : List (Nat × Value)) : Operand -> Option Value
 | .tmp k => bif Nat.blt k n then lookO l k else none
 | .const v => some v
 | .global g => some (.pointer (some ⟨g, 0, none⟩))
 | .func f => some (.func (.func f) #[] #[])
def evOs (n : Nat) (l : List (Nat × Value)) : List Operand -> Option (List Value)
 | [] => some []
 | x :: r => match evO n l x, evOs n l r with
  | some v, some vs => some (v :: vs)
  | _, _ => none
def evPs (n : Nat) (l : List (Nat × Value)) : List (Nat × Operand) -> Option (List (Nat × Value))
 | [] => some []
 | (i, x) :: r => match evO n l x, evPs n l r with
  | some v, some vs => some ((i, v) :: vs)
  | _, _ => none
def pl : Option Tmp -> Value -> List (Nat × Value) -> List (Nat × Value)
 | some k, v, l => (k, v) :: l
 | none, _, l => l
def numb : Nat -> List Value -> List (Nat × Value)
 | _, [] => []
 | i, v :: r => (i, v) :: numb (i + 1) r
section
variable {n0 : Nat} {us0 : Nat -> Value} {l0 : List (Nat × Value)}
theorem tab_len (us : Nat -> Value) (l : List (Nat × Value)) : ∀ n i, (tab us l n i).length = n
 | 0, _ => rfl
 | n + 1, i => by simp only [tab, List.length_cons, tab_len us l n (i + 1)]
theorem tab_get (us : Nat -> Value) (l : List (Nat × Value)) : ∀ n i k, k < n -> (tab us l n i)[k]? = some (look us l (i + k))
 | 0, _, _, h => by omega
 | n + 1, i, 0, _ => rfl
 | n + 1, i, k + 1, h => by
  simp only [tab, List.getElem?_cons_succ]
  rw [tab_get us l n (i + 1) k (by omega), show i + 1 + k = i + (k + 1) by omega]
theorem look_of {us : Nat -> Value} : ∀ {l : List (Nat × Value)} {k : Nat} {v : Value}, lookO l k = some v -> look us l k = v
 | [], _, _, h => by cases h
 | (j, u) :: r, k, v, h => by
  simp only [lookO, look] at h ⊢
  cases hb : Nat.beq j k with
  | true => rw [hb] at h; simpa using h
  | false => rw [hb] at h; exact look_of (l := r) (by simpa using h)
theorem look_no {us : Nat -> Value} : ∀ {l : List (Nat × Value)} {k : Nat}, lookO l k = none -> look us l k = us k
 | [], _, _ => rfl
 | (j, u) :: r, k, h => by
  simp only [lookO, look] at h ⊢
  cases hb : Nat.beq j k with
  | true => rw [hb] at h; simp at h
  | false => rw [hb] at h; exact look_no (l := r) (by simpa using h)
theorem ev_tmp {k : Nat} (hk : k < n0) : (fr n0 us0 l0).eval (.tmp k) = look us0 l0 k := by
 show (tab us0 l0 n0 0).toArray.getD k undef = _
 rw [Array.getD_eq_getD_getElem?, List.getElem?_toArray, tab_get _ _ _ _ _ hk, Nat.zero_add]
 rfl
theorem evE {x : Operand} {v : Value} (h : evO n0 l0 x = some v) : (fr n0 us0 l0).eval x = v := by
 cases x with
 | tmp k =>
  simp only [evO] at h
  cases hb : Nat.blt k n0 with
  | false => rw [hb] at h; cases h
  | true =>
   rw [hb] at h
   rw [ev_tmp (Nat.le_of_ble_eq_true hb)]
   exact look_of h
 | const u => simpa [evO, Act.eval] using h
 | global g => simpa [evO, Act.eval] using h
 | func f => simpa [evO, Act.eval] using h
theorem look_cons_ne {us : Nat -> Value} {l : List (Nat × Value)} {k i : Nat} {v : Value} (h : k ≠ i) : look us ((k, v) :: l) i = look us l i := by
 have : Nat.beq k i = false := by
  cases hb : Nat.beq k i with
  | false => rfl
  | true => exact absurd (Nat.eq_of_beq_eq_true hb) h
 simp only [look, this, cond_false]
theorem look_cons_eq {us : Nat -> Value} {l : List (Nat × Value)} {k : Nat} {v : Value} : look us ((k, v) :: l) k = v := by
 simp only [look, Nat.beq_refl, cond_true]
theorem putF {k : Nat} {v : Value} : (fr n0 us0 l0).put (some k) v = fr n0 us0 ((k, v) :: l0) := by
 unfold fr
 rw [f0]
 congr 2
 apply List.ext_getElem?
 intro i
 rw [List.getElem?_set, tab_len]
 by_cases hi : i < n0
 · rw [tab_get _ _ _ _ _ hi, tab_get _ _ _ _ _ hi, Nat.zero_add]
   split
   · rename_i h
     subst h
     rw [if_pos hi, look_cons_eq]
   · rename_i h
     rw [look_cons_ne h]
 · rw [List.getElem?_eq_none (by rw [tab_len]; omega), List.getElem?_eq_none (by rw [tab_len]; omega)]
   split
   · rename_i h
     subst h
     rw [if_neg hi]
   · rfl
theorem look_numb : ∀ (args : List Value) (j i : Nat), look (fun _ => undef) (numb j args) i = if j <= i then (args[i - j]?).getD undef else undef
 | [], j, i => by simp [numb, look]
 | v :: r, j, i => by
  simp only [numb]
  by_cases hij : j = i
  · subst hij
    rw [look_cons_eq, if_pos (Nat.le_refl _)]
    simp
  · rw [look_cons_ne hij, look_numb r (j + 1) i]
    by_cases hle : j <= i
    · rw [if_pos hle, if_pos (by omega), show i - j = (i - (j + 1)) + 1 by omega, List.getElem?_cons_succ]
    · rw [if_neg hle, if_neg (by omega)]
end
section
variable {P : Program} {ops : Array Oper} {Q : Exit -> Act -> World -> Prop} {rest : List Oper} {w w' : World} {n0 : Nat} {us0 : Nat -> Value} {l0 : List (Nat × Value)}
def asB : Value -> Option Bool
 | .bool b => some b
 | _ => none
theorem yieldedF {opsl : List Oper} {j d : Nat} {oj : Oper} {v : Value} (h2 : nthO opsl j = some oj) (h3 : oj.dst = some d) (h4 : evO n0 l0 (.tmp d) = some v) :
  yielded opsl.toArray (fr n0 us0 l0).tmps j = asB v := by
 rw [nthO_eq] at h2
 have hd : d < n0 := by
  simp only [evO] at h4
  cases hb : Nat.blt d n0 with
  | false => rw [hb] at h4; cases h4
  | true => exact Nat.le_of_ble_eq_true hb
 have h5 := evE (us0 := us0) h4
 rw [ev_tmp hd] at h5
 have : (fr n0 us0 l0).tmps[d]? = some v := by
  show (tab us0 l0 n0 0).toArray[d]? = _
  rw [List.getElem?_toArray, tab_get _ _ _ _ _ hd, Nat.zero_add, h5]
 simp only [yielded, List.getElem?_toArray, h2, Option.bind_some, h3, this]
 cases v <;> rfl
theorem wtF {o oj : Oper} {opsl : List Oper} {j d : Nat} {want b r : Bool} (h1 : o.guard = some (j, want)) (h2 : nthO opsl j = some oj) (h3 : oj.dst = some d)
  (h4 : evO n0 l0 (.tmp d) = some (.bool b)) (h5 : (b == want) = r) : Region.wanted o (yielded opsl.toArray (fr n0 us0 l0).tmps) = r := by
 subst h5
 have e := yieldedF (us0 := us0) h2 h3 h4
 simp only [Region.wanted, h1, e, asB]
 cases b <;> cases want <;> rfl
theorem wuF {o oj : Oper} {opsl : List Oper} {j d : Nat} {want : Bool} (h1 : o.guard = some (j, want)) (h2 : nthO opsl j = some oj) (h3 : oj.dst = some d)
  (h4 : evO n0 l0 (.tmp d) = some undef) : Region.wanted o (yielded opsl.toArray (fr n0 us0 l0).tmps) = false := by
 have e := yieldedF (us0 := us0) h2 h3 h4
 simp [Region.wanted, h1, e, undef, asB]
theorem ag {x y : Addr} (h : x = y) : some (Value.pointer (some x)) = some (.pointer (some y)) := by rw [h]
theorem sv {k : Tmp} {op : Op} {t' : TypeId} {p : String} {af : Array Edge} {v : Value} (hr : (execOp (fr n0 us0 l0).eval ⟨some k, op, t', p, af, none⟩).run P w = .ok (.value v) w)
  (h : wpList P ops Q rest (fr n0 us0 ((k, v) :: l0)) w) : wpList P ops Q (⟨some k, op, t', p, af, none⟩ :: rest) (fr n0 us0 l0) w := st_val v (wn rfl) hr putF h
theorem sn {op : Op} {t' : TypeId} {p : String} {af : Array Edge} {v : Value} (hr : (execOp (fr n0 us0 l0).eval ⟨none, op, t', p, af, none⟩).run P w = .ok (.value v) w)
  (h : wpList P ops Q rest (fr n0 us0 l0) w) : wpList P ops Q (⟨none, op, t', p, af, none⟩ :: rest) (fr n0 us0 l0) w := st_val v (wn rfl) hr (f3 _ _) h
end
end Go.Kt
namespace Go.Kt.V
open Go Go.RowKit Go.Kt
set_option linter.unusedSimpArgs false
set_option linter.unusedVariables false
structure OV where
 v : Value
 one : v.oneCell' = true
inductive SV where
 | int (k : IntKind) (n : Int)
 | il (k : IntKind) (n : Int)
 | bl (b : Bool)
 | bt (t : Bool)
 | str (s : ByteArray)
 | np
 | ptr (p : Option Addr)
 | ad (a : Addr)
 | box (i o : Nat)
 | sl (s : Sl)
 | nsl
 | map (m : Option Nat)
 | raw (v : OV)
 | fn (f : FuncId) (fs cs : SV)
 | agg (l : SV)
 | tup (l : SV)
 | un
 | e
 | c (h t : SV)
def cvs (β : Nat -> Nat) : SV -> List Value
 | .int k n => [.int k n]
 | .il k n => [.int k n]
 | .bl b => [.bool b]
 | .bt t => [.bool t]
 | .str s => [.string s]
 | .np => [.pointer none]
 | .ptr p => [.pointer p]
 | .ad a => [.pointer (some a)]
 | .box i o => [.pointer (some ⟨β i, o, none⟩)]
 | .sl s => [s.v]
 | .nsl => [Sl.v Sl.nil]
 | .map m => [.map m]
 | .raw v => [v.v]
 | .fn f fs cs => [.func (.func f) (cvs β fs).toArray (cvs β cs).toArray]
 | .agg l => [.agg (cvs β l).toArray]
 | .tup l => [.tuple (cvs β l).toArray]
 | .un => [undef]
 | .e => []
 | .c h t => (cvs β h).headD undef :: cvs β t
def val (β : Nat -> Nat) (s : SV) : Value := (cvs β s).headD undef
def vals (β : Nat -> Nat) (l : List SV) : List Value := l.map (val β)
def toL : SV -> List SV
 | .c h t => h :: toL t
 | _ => []
def ofL : List SV -> SV
 | [] => .e
 | s :: r => .c s (ofL r)
def isL : SV -> Bool
 | .c _ t => isL t
 | .e => true
 | _ => false
theorem cvs_ofL (β : Nat -> Nat) : ∀ l, cvs β (ofL l) = vals β l
 | [] => rfl
 | s :: r => by simp only [ofL, cvs, cvs_ofL β r]; rfl
theorem cvs_toL (β : Nat -> Nat) : ∀ {s : SV}, isL s = true -> cvs β s = vals β (toL s)
 | .e, _ => rfl
 | .c h t, hl => by simp only [cvs, toL, cvs_toL β (s := t) hl]; rfl
def cln (g : Nat -> Bool) : SV -> Bool
 | .box i _ => g i
 | .fn _ fs cs => cln g fs && cln g cs
 | .agg l => cln g l
 | .tup l => cln g l
 | .c h t => cln g h && cln g t
 | _ => true
def clns (g : Nat -> Bool) : List SV -> Bool
 | [] => true
 | s :: r => cln g s && clns g r
theorem cvs_congr {β β' : Nat -> Nat} {g : Nat -> Bool} (h : ∀ i, g i = true -> β i = β' i) : ∀ s, cln g s = true -> cvs β s = cvs β' s
 | .int .., _ | .il .., _ | .bl .., _ | .bt .., _ | .str .., _ | .np, _ | .ptr .., _ | .ad .., _ | .sl .., _ | .nsl, _ | .map .., _ | .raw .., _ | .un, _ | .e, _ => rfl
 | .box i o, hc => by simp only [cvs, h i hc]
 | .fn f fs cs, hc => by
  simp only [cln, Bool.and_eq_true] at hc
  simp only [cvs, cvs_congr h fs hc.1, cvs_congr h cs hc.2]
 | .agg l, hc => by simp only [cvs, cvs_congr h l hc]
 | .tup l, hc => by simp only [cvs, cvs_congr h l hc]
 | .c s t, hc => by
  simp only [cln, Bool.and_eq_true] at hc
  simp only [cvs, cvs_congr h s hc.1, cvs_congr h t hc.2]
theorem val_congr {β β' : Nat -> Nat} {g : Nat -> Bool} (h : ∀ i, g i = true -> β i = β' i) (s : SV) (hc : cln g s = true) : val β s = val β' s := by
 unfold val; rw [cvs_congr h s hc]
theorem vals_congr {β β' : Nat -> Nat} {g : Nat -> Bool} (h : ∀ i, g i = true -> β i = β' i) : ∀ l, clns g l = true -> vals β l = vals β' l
 | [], _ => rfl
 | s :: r, hc => by
  simp only [clns, Bool.and_eq_true] at hc
  have := vals_congr h r hc.2
  simp only [vals, List.map_cons] at this ⊢
  rw [val_congr h s hc.1, this]
theorem vals_len (β : Nat -> Nat) (l : List SV) : (vals β l).length = l.length := by rw [vals, List.length_map]
def ofV1 : Value -> Option SV
 | .int k n => some (.il k n)
 | .bool b => some (.bl b)
 | .string s => some (.str s)
 | .pointer none => some .np
 | .slice none 0 0 => some .nsl
 | .map m => some (.map m)
 | v => if h : v.oneCell' = true then some (.raw ⟨v, h⟩) else none
def ofVs : List Value -> Option SV
 | [] => some .e
 | v :: r => match ofV1 v, ofVs r with
  | some s, some l => some (.c s l)
  | _, _ => none
def ofV : Value -> Option SV
 | .agg cs => (ofVs cs.toList).map .agg
 | .tuple cs => (ofVs cs.toList).map .tup
 | .func (.func f) fs cs => match ofVs fs.toList, ofVs cs.toList with
  | some a, some b => some (.fn f a b)
  | _, _ => none
 | v => ofV1 v
theorem val_ofV1 {v : Value} {s : SV} (h : ofV1 v = some s) (β : Nat -> Nat) : val β s = v := by
 unfold ofV1 at h
 split at h
 all_goals first | (simp only [Option.some.injEq] at h; subst h; rfl) | skip
 split at h
 · simp only [Option.some.injEq] at h; subst h; rfl
 · cases h
theorem cvs_ofVs (β : Nat -> Nat) : ∀ {l : List Value} {s : SV}, ofVs l = some s -> cvs β s = l
 | [], s, h => by simp only [ofVs, Option.some.injEq] at h; subst h; rfl
 | v :: r, s, h => by
  simp only [ofVs] at h
  split at h
  · rename_i s' l' h1 h2
    simp only [Option.some.injEq] at h
    subst h
    simp only [cvs, cvs_ofVs β h2]
    rw [show (cvs β s').headD undef = v from val_ofV1 h1 β]
  · cases h
theorem val_ofV {v : Value} {s : SV} (h : ofV v = some s) (β : Nat -> Nat) : val β s = v := by
 unfold ofV at h
 split at h
 · rename_i cs
   cases hl : ofVs cs.toList with
   | none => rw [hl] at h; cases h
   | some l =>
    rw [hl] at h
    simp only [Option.map_some, Option.some.injEq] at h
    subst h
    simp only [val, cvs, List.headD_cons, cvs_ofVs β hl]
 · rename_i cs
   cases hl : ofVs cs.toList with
   | none => rw [hl] at h; cases h
   | some l =>
    rw [hl] at h
    simp only [Option.map_some, Option.some.injEq] at h
    subst h
    simp only [val, cvs, List.headD_cons, cvs_ofVs β hl]
 · rename_i f fs cs
   split at h
   · rename_i a b h1 h2
     simp only [Option.some.injEq] at h
     subst h
     simp only [val, cvs, List.headD_cons, cvs_ofVs β h1, cvs_ofVs β h2]
   · cases h
 · exact val_ofV1 h β
structure Box where
 blk : Option Nat
 ty : TypeId
 cells : List SV
 stp : Nat
 ok : Bool
 esc : Bool
 sh : Bool
structure St where
 n : Nat
 fr : List (Nat × Nat × SV)
 bx : List Box
 w0 : World
 mv : Bool
 dt : List Nat
 ct : Nat
 df : List (Nat × List Value × List Value)
def dfs (l : List (Nat × List Value × List Value)) : List Deferred := l.map fun d => { target := .fn (.func d.1) d.2.2.toArray, args := d.2.1.toArray }
def frD (n : Nat) (us : Nat -> Value) (l : List (Nat × Value)) (D : List Deferred) : Act := ⟨(tab us l n 0).toArray, D⟩
def lookS : List (Nat × Nat × SV) -> Nat -> Option (Nat × SV)
 | [], _ => none
 | (k, s) :: r, i => bif Nat.beq k i then some s else lookS r i
def St.get (st : St) (i : Nat) : Option SV := bif Nat.blt i st.n then (lookS st.fr i).map (·.2) else none
def St.ev (st : St) : Operand -> Option SV
 | .tmp k => st.get k
 | .const v => ofV v
 | .global g => some (.ad ⟨g, 0, none⟩)
 | .func f => some (.fn f .e .e)
def St.evs (st : St) : List Operand -> Option (List SV)
 | [] => some []
 | x :: r => match st.ev x, st.evs r with
  | some v, some vs => some (v :: vs)
  | _, _ => none
def St.evp (st : St) : List (Nat × Operand) -> Option (List (Nat × SV))
 | [] => some []
 | (i, x) :: r => match st.ev x, st.evp r with
  | some v, some vs => some ((i, v) :: vs)
  | _, _ => none
def St.put (st : St) (d : Option Tmp) (v : SV) : St := match d with
 | some k => { st with fr := (k, st.ct, v) :: st.fr, ct := st.ct + 1 }
 | none => st
def nthB : List Box -> Nat -> Option Box
 | [], _ => none
 | b :: _, 0 => some b
 | _ :: r, n + 1 => nthB r n
def setB : List Box -> Nat -> Box -> List Box
 | [], _, _ => []
 | _ :: r, 0, b => b :: r
 | a :: r, n + 1, b => a :: setB r n b
def cv (β : Nat -> Nat) (l : List (Nat × Nat × SV)) : List (Nat × Value) := l.map fun p => (p.1, val β p.2.2)
theorem lookO_cv (β : Nat -> Nat) : ∀ l i, lookO (cv β l) i = (lookS l i).map fun p => val β p.2
 | [], _ => rfl
 | (k, s) :: r, i => by
  simp only [cv, List.map_cons, lookO, lookS]
  cases Nat.beq k i with
  | true => rfl
  | false => exact lookO_cv β r i
structure BoxOk (β : Nat -> Nat) (w0 w : World) (i : Nat) (b : Box) : Prop where
 blk : Blk w (β i) b.ty (vals β b.cells)
 at_ : ∀ k, b.blk = some k -> β i = k
 new : b.blk = none -> w0.heap.size <= β i
structure Rep (β : Nat -> Nat) (st : St) (a : Act) (w : World) : Prop where
 fr : ∃ us, a = frD st.n us (cv β st.fr) (dfs st.df)
 bx : ∀ i b, nthB st.bx i = some b -> b.ok = true -> BoxOk β st.w0 w i b
 ne : ∀ i j bi bj, nthB st.bx i = some bi -> nthB st.bx j = some bj -> bi.ok = true -> bj.ok = true -> i ≠ j -> β i ≠ β j
 only : Only (st.dt.map β) st.w0 w
 still : st.mv = false -> w = st.w0
structure Ext (s t : St) : Prop where
 n : t.n = s.n
 ct : s.ct <= t.ct
 fr : ∀ i k v, lookS t.fr i = some (k, v) -> k < s.ct -> lookS s.fr i = some (k, v)
 bx : ∀ i b', nthB t.bx i = some b' -> b'.ok = true -> b'.stp < s.ct -> ∃ b, nthB s.bx i = some b /\ b.ok = true /\ b.cells = b'.cells /\ b.ty = b'.ty /\ b.stp = b'.stp /\ (∀ k, b.blk = some k -> b'.blk = some k)
 ps : ∀ i b, nthB s.bx i = some b -> ∃ b', nthB t.bx i = some b' /\ b'.ty = b.ty /\ b'.ok = b.ok /\ ∀ k, b.blk = some k -> b'.blk = some k
 df : ∃ l, t.df = l ++ s.df
theorem dfr {s : St} : ∃ l, s.df = l ++ s.df := ⟨[], rfl⟩
theorem psr {l : List Box} : ∀ i b, nthB l i = some b -> ∃ b', nthB l i = some b' /\ b'.ty = b.ty /\ b'.ok = b.ok /\ ∀ k, b.blk = some k -> b'.blk = some k := fun i b h => ⟨b, h, rfl, rfl, fun _ h => h⟩
theorem Ext.refl (s : St) : Ext s s := ⟨rfl, Nat.le_refl _, fun _ _ _ h _ => h, fun i b h ho _ => ⟨b, h, ho, rfl, rfl, rfl, fun _ h => h⟩, psr, dfr⟩
theorem Ext.trans {s t u : St} (h : Ext s t) (k : Ext t u) : Ext s u :=
 ⟨k.n.trans h.n, Nat.le_trans h.ct k.ct, fun i m v hl hlt => h.fr i m v (k.fr i m v hl (Nat.lt_of_lt_of_le hlt h.ct)) hlt, fun i b'' hb ho hs => by
  obtain ⟨b', k1, k2, k3, k4, k6, k5⟩ := k.bx i b'' hb ho (Nat.lt_of_lt_of_le hs h.ct)
  obtain ⟨b, h1, h2, h3, h4, h6, h5⟩ := h.bx i b' k1 k2 (by rw [k6]; exact hs)
  exact ⟨b, h1, h2, h3.trans k3, h4.trans k4, h6.trans k6, fun m hm => k5 m (h5 m hm)⟩, fun i b hb => by
  obtain ⟨b', h1, h2, h3, h4⟩ := h.ps i b hb
  obtain ⟨b'', k1, k2, k3, k4⟩ := k.ps i b' h1
  exact ⟨b'', k1, k2.trans h2, k3.trans h3, fun m hm => k4 m (h4 m hm)⟩, by
  obtain ⟨l, h1⟩ := h.df
  obtain ⟨m, k1⟩ := k.df
  exact ⟨m ++ l, by rw [k1, h1, List.append_assoc]⟩⟩
section
variable {β : Nat -> Nat} {st : St} {a : Act} {w : World}
theorem Rep.get (h : Rep β st a w) {i : Nat} {s : SV} (hg : st.get i = some s) : a.eval (.tmp i) = val β s := by
 obtain ⟨us, rfl⟩ := h.fr
 show (Kt.fr st.n us (cv β st.fr)).eval (.tmp i) = _
 refine evE (n0 := st.n) (us0 := us) ?_
 unfold St.get at hg
 cases hb : Nat.blt i st.n with
 | false => rw [hb] at hg; cases hg
 | true =>
  rw [hb, cond_true] at hg
  simp only [evO, hb, cond_true, lookO_cv]
  cases hl : lookS st.fr i with
  | none => rw [hl] at hg; cases hg
  | some p =>
   rw [hl] at hg
   simp only [Option.map_some, Option.some.injEq] at hg
   rw [Option.map_some, hg]
theorem Rep.ev (h : Rep β st a w) {x : Operand} {s : SV} (hg : st.ev x = some s) : a.eval x = val β s := by
 cases x with
 | tmp k => exact h.get hg
 | const v => rw [val_ofV hg]; rfl
 | global g =>
  simp only [St.ev, Option.some.injEq] at hg
  subst hg; rfl
 | func f =>
  simp only [St.ev, Option.some.injEq] at hg
  subst hg; rfl
theorem Rep.evs (h : Rep β st a w) : ∀ {xs : List Operand} {l : List SV}, st.evs xs = some l -> xs.map a.eval = vals β l
 | [], l, hg => by simp only [St.evs, Option.some.injEq] at hg; subst hg; rfl
 | x :: r, l, hg => by
  simp only [St.evs] at hg
  split at hg
  · rename_i v vs hx hr
    simp only [Option.some.injEq] at hg
    subst hg
    rw [List.map_cons, h.ev hx, h.evs hr]; rfl
  · cases hg
def pvals (β : Nat -> Nat) (l : List (Nat × SV)) : List (Nat × Value) := l.map fun p => (p.1, val β p.2)
theorem Rep.evp (h : Rep β st a w) : ∀ {xs : List (Nat × Operand)} {l : List (Nat × SV)}, st.evp xs = some l -> (xs.map fun q => (q.1, a.eval q.2)) = pvals β l
 | [], l, hg => by simp only [St.evp, Option.some.injEq] at hg; subst hg; rfl
 | (i, x) :: r, l, hg => by
  simp only [St.evp] at hg
  split at hg
  · rename_i v vs hx hr
    simp only [Option.some.injEq] at hg
    subst hg
    rw [List.map_cons, h.evp hr, h.ev hx]; rfl
  · cases hg
theorem St.evO {st : St} (β : Nat -> Nat) {x : Operand} {s : SV} (hg : st.ev x = some s) : Kt.evO st.n (cv β st.fr) x = some (val β s) := by
 cases x with
 | tmp i =>
  have hg : st.get i = some s := hg
  unfold St.get at hg
  cases hb : Nat.blt i st.n with
  | false => rw [hb] at hg; cases hg
  | true =>
   rw [hb, cond_true] at hg
   simp only [Kt.evO, hb, cond_true, lookO_cv]
   cases hl : lookS st.fr i with
   | none => rw [hl] at hg; cases hg
   | some p =>
    rw [hl] at hg
    simp only [Option.map_some, Option.some.injEq] at hg
    rw [Option.map_some, hg]
 | const v => rw [val_ofV hg]; rfl
 | global g =>
  simp only [St.ev, Option.some.injEq] at hg
  subst hg; rfl
 | func f =>
  simp only [St.ev, Option.some.injEq] at hg
  subst hg; rfl
theorem St.evOs {st : St} (β : Nat -> Nat) : ∀ {xs : List Operand} {l : List SV}, st.evs xs = some l -> Kt.evOs st.n (cv β st.fr) xs = some (vals β l)
 | [], l, hg => by simp only [St.evs, Option.some.injEq] at hg; subst hg; rfl
 | x :: r, l, hg => by
  simp only [St.evs] at hg
  split at hg
  · rename_i v vs hx hr
    simp only [Option.some.injEq] at hg
    subst hg
    simp only [Kt.evOs, St.evO β hx, St.evOs β hr]; rfl
  · cases hg
theorem St.evPs {st : St} (β : Nat -> Nat) : ∀ {xs : List (Nat × Operand)} {l : List (Nat × SV)}, st.evp xs = some l -> Kt.evPs st.n (cv β st.fr) xs = some (pvals β l)
 | [], l, hg => by simp only [St.evp, Option.some.injEq] at hg; subst hg; rfl
 | (i, x) :: r, l, hg => by
  simp only [St.evp] at hg
  split at hg
  · rename_i v vs hx hr
    simp only [Option.some.injEq] at hg
    subst hg
    simp only [Kt.evPs, St.evO β hx, St.evPs β hr]; rfl
  · cases hg
theorem Rep.put (h : Rep β st a w) (d : Option Tmp) (v : SV) : Rep β (st.put d v) (a.put d (val β v)) w := by
 cases d with
 | none => exact h
 | some k =>
  obtain ⟨us, rfl⟩ := h.fr
  exact ⟨⟨us, congrArg (fun a : Act => (⟨a.tmps, dfs st.df⟩ : Act)) (putF (n0 := st.n) (us0 := us) (l0 := cv β st.fr) (k := k) (v := val β v))⟩, h.bx, h.ne, h.only, h.still⟩
theorem Ext.put (st : St) (d : Option Tmp) (v : SV) : Ext st (st.put d v) := by
 cases d with
 | none => exact Ext.refl _
 | some k =>
  refine ⟨rfl, Nat.le_succ _, fun i m u hl hlt => ?_, fun i b h ho _ => ⟨b, h, ho, rfl, rfl, rfl, fun _ h => h⟩, psr, dfr⟩
  simp only [St.put, lookS] at hl
  cases hb : Nat.beq k i with
  | true =>
   rw [hb] at hl
   simp only [cond_true, Option.some.injEq, Prod.mk.injEq] at hl
   omega
  | false => rw [hb] at hl; simpa using hl
theorem Rep.frame (h : Rep β st a w) {fr' : List (Nat × Nat × SV)} (hs : ∀ i p, lookS fr' i = some p -> ∃ q, lookS st.fr i = some q /\ val β q.2 = val β p.2) : Rep β { st with fr := fr' } a w := by
 obtain ⟨us, rfl⟩ := h.fr
 refine ⟨?_, h.bx, h.ne, h.only, h.still⟩
 refine ⟨fun i => look us (cv β st.fr) i, ?_⟩
 unfold frD
 congr 2
 apply List.ext_getElem?
 intro i
 by_cases hi : i < st.n
 · rw [tab_get _ _ _ _ _ hi, tab_get _ _ _ _ _ hi, Nat.zero_add]
   congr 1
   cases hl : lookS fr' i with
   | none =>
    rw [look_no (l := cv β fr') (by rw [lookO_cv, hl]; rfl)]
   | some p =>
    obtain ⟨q, h1, h2⟩ := hs i p hl
    rw [look_of (l := cv β fr') (v := val β p.2) (by rw [lookO_cv, hl]; rfl), look_of (l := cv β st.fr) (v := val β p.2) (by rw [lookO_cv, h1, Option.map_some, h2])]
 · rw [List.getElem?_eq_none (by rw [tab_len]; exact Nat.le_of_not_lt hi), List.getElem?_eq_none (by rw [tab_len]; exact Nat.le_of_not_lt hi)]
end
def elimO {α : Type} (o : Option α) (K : α -> Prop) : Prop := match o with
 | some v => K v
 | none => False
theorem elimO_ex {α : Type} {o : Option α} {K : α -> Prop} (h : elimO o K) : ∃ v, o = some v /\ K v := by
 cases o with
 | none => exact h.elim
 | some v => exact ⟨v, rfl, h⟩
def gi : List (Bool × Bool) -> Prop -> Prop
 | [], p => p
 | (t, b) :: r, p => t = b -> gi r p
def gh : List (Bool × Bool) -> Prop
 | [] => True
 | (t, b) :: r => t = b /\ gh r
theorem gi_use : ∀ {gs : List (Bool × Bool)} {p : Prop}, gi gs p -> gh gs -> p
 | [], _, h, _ => h
 | (t, b) :: r, p, h, k => gi_use (gs := r) (h k.1) k.2
inductive Lf where
 | int (k : IntKind)
 | bool
 | str
 | ptr
 | sl
 | map
 | raw
def Lf.T : Lf -> Type
 | .int _ => Int
 | .bool => Bool
 | .str => ByteArray
 | .ptr => Option Addr
 | .sl => Sl
 | .map => Option Nat
 | .raw => OV
def Lf.sv : (l : Lf) -> l.T -> SV
 | .int k, x => .int k x
 | .bool, x => .bt x
 | .str, x => .str x
 | .ptr, x => .ptr x
 | .sl, x => .sl x
 | .map, x => .map x
 | .raw, x => .raw x
theorem Lf.cln (g : Nat -> Bool) (l : Lf) (x : l.T) : V.cln g (l.sv x) = true := by cases l <;> rfl
def exl : List Lf -> (List SV -> Prop) -> Prop
 | [], K => K []
 | l :: r, K => ∃ x : l.T, exl r fun vs => K (l.sv x :: vs)
theorem exl_ex : ∀ {ls : List Lf} {K : List SV -> Prop}, exl ls K -> ∃ vs, K vs /\ vs.length = ls.length /\ ∀ g, clns g vs = true
 | [], K, h => ⟨[], h, rfl, fun _ => rfl⟩
 | l :: r, K, h => by
  obtain ⟨x, h⟩ := h
  obtain ⟨vs, h1, h2, h3⟩ := exl_ex (ls := r) h
  exact ⟨_, h1, by simp [h2], fun g => by simp only [clns, Lf.cln, h3 g, Bool.and_true]⟩
def lfOf : TypeDesc -> Lf
 | .int k => .int k
 | .bool => .bool
 | .string => .str
 | .pointer _ => .ptr
 | .slice _ => .sl
 | .map _ _ => .map
 | _ => .raw
def rep {α : Type} : Nat -> List α -> List α
 | 0, _ => []
 | n + 1, l => l ++ rep n l
def flat {α β : Type} (f : α -> List β) : List α -> List β
 | [] => []
 | x :: r => f x ++ flat f r
def shC (P : Program) : Nat -> TypeId -> List Lf
 | 0, _ => []
 | n + 1, t => match P.underlying t with
  | some (.struct fs) => flat (fun f : Field => shC P n f.type) fs.toList
  | some (.array len e) => rep len (shC P n e)
  | some d => [lfOf d]
  | none => []
def isAg : TypeDesc -> Bool
 | .struct _ => true
 | .array _ _ => true
 | _ => false
def ofC (ag : Bool) (l : List SV) : SV := bif ag then .agg (ofL l) else l.headD .un
def β0 : Nat -> Nat := fun _ => 0
def oint : SV -> Option (IntKind × Int)
 | .int k n => some (k, n)
 | .il k n => some (k, n)
 | _ => none
theorem oint_val {s : SV} {k : IntKind} {n : Int} (h : oint s = some (k, n)) (β : Nat -> Nat) : val β s = .int k n := by
 cases s <;> simp only [oint, Option.some.injEq, Prod.mk.injEq, reduceCtorEq] at h
 all_goals obtain ⟨rfl, rfl⟩ := h; rfl
def obool : SV -> Option Bool
 | .bl b => some b
 | .bt b => some b
 | _ => none
theorem obool_val {s : SV} {b : Bool} (h : obool s = some b) (β : Nat -> Nat) : val β s = .bool b := by
 cases s <;> simp only [obool, Option.some.injEq, reduceCtorEq] at h
 all_goals subst h; rfl
def ostr : SV -> Option ByteArray
 | .str s => some s
 | _ => none
theorem ostr_val {s : SV} {b : ByteArray} (h : ostr s = some b) (β : Nat -> Nat) : val β s = .string b := by
 cases s <;> simp only [ostr, Option.some.injEq, reduceCtorEq] at h
 all_goals subst h; rfl
def osl : SV -> Option Sl
 | .sl s => some s
 | .nsl => some Sl.nil
 | _ => none
theorem osl_val {s : SV} {b : Sl} (h : osl s = some b) (β : Nat -> Nat) : val β s = b.v := by
 cases s <;> simp only [osl, Option.some.injEq, reduceCtorEq] at h
 all_goals subst h; rfl
def ib (op : BinOp) (k : IntKind) (m n : Int) : Option SV := match op with
 | .add => some (.int k (k.wrap (m + n)))
 | .sub => some (.int k (k.wrap (m - n)))
 | .mul => some (.int k (k.wrap (m * n)))
 | .eql => some (.bt (m == n))
 | .neq => some (.bt (m != n))
 | .lss => some (.bt (decide (m < n)))
 | .leq => some (.bt (decide (m <= n)))
 | .gtr => some (.bt (decide (m > n)))
 | .geq => some (.bt (decide (m >= n)))
 | .and => some (.int k (bits .and k m n))
 | .or => some (.int k (bits .or k m n))
 | .xor => some (.int k (bits .xor k m n))
 | .andNot => some (.int k (bits .andNot k m n))
 | _ => none
def sb (op : BinOp) (s u : ByteArray) : Option SV := match op with
 | .eql => some (.bt (s.toList == u.toList))
 | .neq => some (.bt (!(s.toList == u.toList)))
 | .lss => some (.bt (Op.bytesLess s.toList u.toList))
 | .geq => some (.bt (!(Op.bytesLess s.toList u.toList)))
 | .leq => some (.bt (Op.bytesLess s.toList u.toList || (s.toList == u.toList)))
 | .gtr => some (.bt (!(Op.bytesLess s.toList u.toList || (s.toList == u.toList))))
 | _ => none
def nz (gs : List (Bool × Bool)) (b : SV) (n : Int) (K : Prop) : Prop := match b with
 | .il _ _ => bif n == 0 then False else K
 | _ => gi gs (n ≠ 0) /\ K
def ge0 (gs : List (Bool × Bool)) (b : SV) (n : Int) (K : Prop) : Prop := match b with
 | .il _ _ => bif decide (0 <= n) then K else False
 | _ => gi gs (0 <= n) /\ K
def opn : SV -> Option (Option Addr)
 | .np => some none
 | .ptr p => some p
 | .ad a => some (some a)
 | _ => none
theorem opn_val {s : SV} {p : Option Addr} (h : opn s = some p) (β : Nat -> Nat) : val β s = .pointer p := by
 cases s <;> simp only [opn, Option.some.injEq, reduceCtorEq] at h
 all_goals subst h; rfl
def pn (op : BinOp) (a : SV) : Option SV := match op, a with
 | .eql, .ptr p => some (.bt p.isNone)
 | .neq, .ptr p => some (.bt (!p.isNone))
 | .eql, .ad _ => some (.bl false)
 | .neq, .ad _ => some (.bl true)
 | .eql, .box _ _ => some (.bl false)
 | .neq, .box _ _ => some (.bl true)
 | .eql, .np => some (.bl true)
 | .neq, .np => some (.bl false)
 | _, _ => none
def sn (op : BinOp) (s : Sl) : Option SV := match op with
 | .eql => some (.bt s.a.isNone)
 | .neq => some (.bt (!s.a.isNone))
 | _ => none
def isNp : SV -> Bool
 | .np => true
 | _ => false
def isNsl : SV -> Bool
 | .nsl => true
 | _ => false
def eq1 (P : Program) (t : TypeId) (x y : SV) : Option Bool := match P.underlying t with
 | some (.int _) => (match oint x, oint y with
  | some (k, m), some (k', n) => bif decide (k = k') then some (m == n) else none
  | _, _ => none)
 | some .string => (match ostr x, ostr y with
  | some s, some u => some (s == u)
  | _, _ => none)
 | some .bool => (match obool x, obool y with
  | some s, some u => some (s == u)
  | _, _ => none)
 | _ => none
def eqFs (P : Program) (xs ys : List SV) : List Field -> Option Bool
 | [] => some true
 | f :: r => bif f.name == "_" then none else match xs[f.offset]?, ys[f.offset]? with
  | some x, some y => (match eq1 P f.type x y, eqFs P xs ys r, r with
   | some b, some _, [] => some b
   | some b, some c, _ => some (b && c)
   | _, _, _ => none)
  | _, _ => none
def eqSt (P : Program) (t : TypeId) (fs : Array Field) (a b : SV) : Option Bool := match a, b with
 | .agg l, .agg m => bif isL l && isL m && !P.stoodInHeld t && !P.eqGuardType P.depth t then eqFs P (toL l) (toL m) fs.toList else none
 | _, _ => none
def eqOp (op : BinOp) (b : Bool) : Option SV := match op with
 | .eql => some (.bt b)
 | .neq => some (.bt (!b))
 | _ => none
def mn (op : BinOp) (a b : SV) : Option SV := match op, a, b with
 | .eql, .map m, .map none => some (.bt m.isNone)
 | .neq, .map m, .map none => some (.bt (!m.isNone))
 | _, _, _ => none
def binP (P : Program) (gs : List (Bool × Bool)) (op : BinOp) (t : TypeId) (a b : SV) (K : SV -> Prop) : Prop :=
 match oint a, oint b with
 | some (k, m), some (k', n) => (match op with
  | .shl => ge0 gs b n (K (.int k (k.wrap (m * 2 ^ (min n.toNat k.bits)))))
  | .shr => ge0 gs b n (K (.int k (m.fdiv (2 ^ (min n.toNat k.bits)))))
  | .quo => bif decide (k = k') then nz gs b n (K (.int k (k.wrap (m.tdiv n)))) else False
  | .rem => bif decide (k = k') then nz gs b n (K (.int k (m.tmod n))) else False
  | _ => bif decide (k = k') then elimO (ib op k m n) K else False)
 | _, _ => match ostr a, ostr b with
  | some s, some u => (match op with
   | .add => gi gs ((s.size : Int) + u.size <= 9223372036854775807) /\ K (.str (s ++ u))
   | _ => elimO (sb op s u) K)
  | _, _ => match obool a, obool b, P.underlying t with
   | some s, some u, some .bool => (match op with
    | .eql => K (.bt (s == u))
    | .neq => K (.bt (!(s == u)))
    | _ => False)
   | _, _, _ => match P.underlying t with
    | some (.pointer _) => bif isNp b then elimO (pn op a) K else bif isNp a then elimO (pn op b) K else False
    | some (.slice _) => bif isNsl b then elimO ((osl a).bind (sn op)) K else bif isNsl a then elimO ((osl b).bind (sn op)) K else False
    | some (.struct fs) => elimO (eqSt P t fs a b) fun r => elimO (eqOp op r) K
    | some (.map _ _) => elimO (mn op a b) K
    | _ => False
section
variable {P : Program} {gs : List (Bool × Bool)} {K : SV -> Prop}
theorem nz_ok {b : SV} {k : IntKind} {n : Int} {K : Prop} (hb : oint b = some (k, n)) (h : nz gs b n K) : K /\ (gh gs -> n ≠ 0) := by
 unfold nz at h
 split at h
 · cases hn : (n == 0) with
   | true => rw [hn] at h; exact h.elim
   | false => rw [hn] at h; exact ⟨h, fun _ => by simpa using hn⟩
 · exact ⟨h.2, fun g => gi_use h.1 g⟩
theorem ge0_ok {b : SV} {n : Int} {K : Prop} (h : ge0 gs b n K) : K /\ (gh gs -> 0 <= n) := by
 unfold ge0 at h
 split at h
 · by_cases hn : 0 <= n
   · rw [decide_eq_true hn] at h; exact ⟨h, fun _ => hn⟩
   · rw [decide_eq_false hn] at h; exact h.elim
 · exact ⟨h.2, fun g => gi_use h.1 g⟩
theorem bif_ok {b : Bool} {p : Prop} (h : bif b then p else False) : b = true /\ p := by
 cases b with
 | true => exact ⟨rfl, h⟩
 | false => exact h.elim
def BinRuns (P : Program) (op : BinOp) (t : TypeId) (a b v : SV) : Prop :=
 ∀ (β : Nat -> Nat) (act : Act) (x y : Operand) (dst : Option Tmp) (ty t' : TypeId) (p : String) (af : Array Edge) (g : Option (Nat × Bool)) (w : World), act.eval x = val β a -> act.eval y = val β b ->
  (execOp act.eval ⟨dst, .binOp op t x y ty, t', p, af, g⟩).run P w = .ok (.value (val β v)) w
theorem ib_ok {op : BinOp} {t : TypeId} {a b v : SV} {k : IntKind} {m n : Int} (ha : oint a = some (k, m)) (hb : oint b = some (k, n)) (h : ib op k m n = some v) : BinRuns P op t a b v := by
 intro β act x y dst ty t' p af g w hx hy
 rw [oint_val ha] at hx
 rw [oint_val hb] at hy
 cases op <;> simp only [ib, Option.some.injEq, reduceCtorEq] at h
 all_goals subst h; simp only [execOp, hx, hy]; cases k <;> rfl
theorem sb_ok {op : BinOp} {t : TypeId} {a b v : SV} {s u : ByteArray} (ha : ostr a = some s) (hb : ostr b = some u) (h : sb op s u = some v) : BinRuns P op t a b v := by
 intro β act x y dst ty t' p af g w hx hy
 rw [ostr_val ha] at hx
 rw [ostr_val hb] at hy
 cases op <;> simp only [sb, Option.some.injEq, reduceCtorEq] at h
 all_goals subst h; simp only [execOp, hx, hy]; rfl
theorem pn_ok {op : BinOp} {t e : TypeId} {a b v : SV} (hu : P.underlying t = some (.pointer e)) (hb : isNp b = true) (h : pn op a = some v) : BinRuns P op t a b v /\ BinRuns P op t b a v := by
 have hbv : ∀ β, val β b = .pointer none := fun β => by
  unfold isNp at hb
  split at hb
  · rfl
  · cases hb
 have key : ∀ (β : Nat -> Nat), ∃ (q : Option Addr) (r : Bool), val β a = .pointer q /\ val β v = .bool r /\ ((op = .eql /\ q.isNone = r) ∨ (op = .neq /\ (!q.isNone) = r)) := by
  intro β
  unfold pn at h
  split at h <;> simp only [Option.some.injEq, reduceCtorEq] at h <;> subst h
  · exact ⟨_, _, rfl, rfl, .inl ⟨rfl, rfl⟩⟩
  · exact ⟨_, _, rfl, rfl, .inr ⟨rfl, rfl⟩⟩
  · exact ⟨_, _, rfl, rfl, .inl ⟨rfl, rfl⟩⟩
  · exact ⟨_, _, rfl, rfl, .inr ⟨rfl, rfl⟩⟩
  · exact ⟨_, _, rfl, rfl, .inl ⟨rfl, rfl⟩⟩
  · exact ⟨_, _, rfl, rfl, .inr ⟨rfl, rfl⟩⟩
  · exact ⟨_, _, rfl, rfl, .inl ⟨rfl, rfl⟩⟩
  · exact ⟨_, _, rfl, rfl, .inr ⟨rfl, rfl⟩⟩
 constructor
 · intro β act x y dst ty t' p af g w hx hy
   obtain ⟨q, r, h1, h2, h3⟩ := key β
   rw [h1] at hx
   rw [hbv] at hy
   rw [h2]
   rcases h3 with ⟨rfl, h3⟩ | ⟨rfl, h3⟩
   · exact r_eqlPtrNilR (run_underlying hu w) hx hy h3
   · exact r_neqPtrNilR (run_underlying hu w) hx hy h3
 · intro β act x y dst ty t' p af g w hx hy
   obtain ⟨q, r, h1, h2, h3⟩ := key β
   rw [h1] at hy
   rw [hbv] at hx
   rw [h2]
   rcases h3 with ⟨rfl, h3⟩ | ⟨rfl, h3⟩
   · exact r_eqlPtrNilL (run_underlying hu w) hx hy h3
   · exact r_neqPtrNilL (run_underlying hu w) hx hy h3
theorem sn_ok {op : BinOp} {t e : TypeId} {a b v : SV} (hu : P.underlying t = some (.slice e)) (hb : isNsl b = true) (h : (osl a).bind (sn op) = some v) : BinRuns P op t a b v /\ BinRuns P op t b a v := by
 have hbv : ∀ β, val β b = .slice none 0 0 := fun β => by
  unfold isNsl at hb
  split at hb
  · rfl
  · cases hb
 cases hs : osl a with
 | none => rw [hs] at h; cases h
 | some s =>
  rw [hs] at h
  simp only [Option.bind_some] at h
  constructor
  · intro β act x y dst ty t' p af g w hx hy
    rw [osl_val hs] at hx
    rw [hbv] at hy
    cases op <;> simp only [sn, Option.some.injEq, reduceCtorEq] at h <;> subst h
    · exact r_eqlSlNilR (run_underlying hu w) hx hy
    · exact r_neqSlNilR (run_underlying hu w) hx hy
  · intro β act x y dst ty t' p af g w hx hy
    rw [osl_val hs] at hy
    rw [hbv] at hx
    cases op <;> simp only [sn, Option.some.injEq, reduceCtorEq] at h <;> subst h
    · exact r_eqlSlNilL (run_underlying hu w) hx hy
    · exact r_neqSlNilL (run_underlying hu w) hx hy
theorem mn_ok {op : BinOp} {t k e : TypeId} {a b v : SV} (hu : P.underlying t = some (.map k e)) (h : mn op a b = some v) : BinRuns P op t a b v := by
 intro β act x y dst ty t' p af g w hx hy
 unfold mn at h
 split at h <;> simp only [Option.some.injEq, reduceCtorEq] at h <;> subst h
 all_goals
  rename_i m
  change act.eval x = .map m at hx
  change act.eval y = .map none at hy
  have hE : ∀ d, (Op.equalIn (d + 1) t (.map m) (.map none)).run P w = .ok m.isNone w := fun d => by
   unfold Op.equalIn
   cases m <;> simp only [Sem.run_bind, run_underlying hu w, Result.andThen_ok] <;> rfl
 · have hB : binOp .eql t (.map m) (.map none) = (do pure (.bool ((<- Op.equal t (.map m) (.map none))))) := by cases m <;> rfl
   have hG : eqGuard .eql t x y (.map m) (.map none) = pure () := rfl
   simp only [execOp, hx, hy, hG, hB, Op.equal, Op.maxDepth, Sem.run_bind, Sem.run_pure, Result.andThen_ok, hE 9999]
   rfl
 · have hB : binOp .neq t (.map m) (.map none) = (do pure (.bool (!(<- Op.equal t (.map m) (.map none))))) := by cases m <;> rfl
   have hG : eqGuard .neq t x y (.map m) (.map none) = pure () := rfl
   simp only [execOp, hx, hy, hG, hB, Op.equal, Op.maxDepth, Sem.run_bind, Sem.run_pure, Result.andThen_ok, hE 9999]
   rfl
theorem eq1_run {t : TypeId} {x y : SV} {b : Bool} (h : eq1 P t x y = some b) (β : Nat -> Nat) (d : Nat) (w : World) : P.plainKey t = true /\ (Op.equalIn (d + 1) t (val β x) (val β y)).run P w = .ok b w := by
 unfold eq1 at h
 split at h
 · rename_i k hu
   refine ⟨by simp [Program.plainKey, hu], ?_⟩
   split at h
   · rename_i k1 m k2 n hx hy
     cases hk : decide (k1 = k2) with
     | false => rw [hk] at h; cases h
     | true =>
      rw [hk] at h
      injection h with h
      subst h
      have hk := of_decide_eq_true hk
      subst hk
      rw [oint_val hx, oint_val hy]
      simp [Op.equalIn, run_underlying hu]
   · cases h
 · rename_i hu
   refine ⟨by simp [Program.plainKey, hu], ?_⟩
   split at h
   · rename_i s u hx hy
     injection h with h
     subst h
     rw [ostr_val hx, ostr_val hy]
     simp [Op.equalIn, run_underlying hu]
   · cases h
 · rename_i hu
   refine ⟨by simp [Program.plainKey, hu], ?_⟩
   split at h
   · rename_i s u hx hy
     injection h with h
     subst h
     rw [obool_val hx, obool_val hy]
     simp [Op.equalIn, run_underlying hu]
   · cases h
 · cases h
theorem eqFs_run {xs ys : List SV} (β : Nat -> Nat) (d : Nat) (w : World) : ∀ {fs : List Field} {b : Bool}, eqFs P xs ys fs = some b -> (Op.eqFields (d + 1) (vals β xs).toArray (vals β ys).toArray fs).run P w = .ok b w
 | [], b, h => by
  simp only [eqFs, Option.some.injEq] at h
  subst h
  simp [Op.eqFields]
 | f :: r, b, h => by
  unfold eqFs at h
  cases hn : (f.name == "_") with
  | true => rw [hn] at h; cases h
  | false =>
   rw [hn, cond_false] at h
   have hn : f.name ≠ "_" := by simpa using hn
   split at h
   · rename_i x y hx hy
     have px : (vals β xs).toArray[f.offset]? = some (val β x) := by simp [vals, hx]
     have py : (vals β ys).toArray[f.offset]? = some (val β y) := by simp [vals, hy]
     have go : ∀ {b1 c : Bool}, eq1 P f.type x y = some b1 -> eqFs P xs ys r = some c -> (Op.eqFields (d + 1) (vals β xs).toArray (vals β ys).toArray (f :: r)).run P w = .ok (b1 && c) w := fun {b1 c} h1 h2 => by
      obtain ⟨k1, k2⟩ := eq1_run h1 β d w
      have k3 := eqFs_run β d w h2
      simp only [Op.eqFields, hn, ne_eq, not_false_eq_true, if_true, Sem.run_bind, run_part_plain w k1 px, run_part_plain w k1 py, k2, Result.andThen_ok]
      cases b1
      · simp
      · simpa using k3
     split at h
     · rename_i b1 c h1 h2
       injection h with h
       subst h
       have := go h1 h2
       simp only [eqFs, Option.some.injEq] at h2
       subst h2
       rwa [Bool.and_true] at this
     · rename_i b1 c h1 _ h2
       injection h with h
       subst h
       exact go h1 h2
     · cases h
   · cases h
theorem eqSt_ok {op : BinOp} {t : TypeId} {fs : Array Field} {a b v : SV} {r : Bool} (hu : P.underlying t = some (.struct fs)) (h : eqSt P t fs a b = some r) (hv : eqOp op r = some v) : BinRuns P op t a b v := by
 unfold eqSt at h
 split at h
 · rename_i l m
   obtain ⟨h0, h⟩ : (isL l && isL m && !P.stoodInHeld t && !P.eqGuardType P.depth t) = true /\ eqFs P (toL l) (toL m) fs.toList = some r := by
    cases hc : (isL l && isL m && !P.stoodInHeld t && !P.eqGuardType P.depth t) with
    | true => rw [hc] at h; exact ⟨rfl, h⟩
    | false => rw [hc] at h; cases h
   simp only [Bool.and_eq_true, Bool.not_eq_true'] at h0
   obtain ⟨⟨⟨h1, h2⟩, h3⟩, h4⟩ := h0
   intro β act x y dst ty t' p af g w hx hy
   have ea : ∀ {l : SV}, isL l = true -> val β (.agg l) = .agg (vals β (toL l)).toArray := fun hl => by
    show Value.agg (cvs β _).toArray = _
    rw [cvs_toL β hl]
   rw [ea h1] at hx
   rw [ea h2] at hy
   have hfs : P.fieldsOf t = fs := by simp [Program.fieldsOf, hu]
   have hE : (Op.equalIn 10000 t (.agg (vals β (toL l)).toArray) (.agg (vals β (toL m)).toArray)).run P w = .ok r w := by
    rw [show (10000 : Nat) = 9999 + 1 from rfl, run_equalIn_struct w 9999 t _ _ (by rw [hfs]; exact hu) h3, hfs]
    exact eqFs_run β 9998 w h
   have hG : ∀ op : BinOp, (eqGuard op t x y (.agg (vals β (toL l)).toArray) (.agg (vals β (toL m)).toArray)).run P w = .ok () w := fun op => by
    unfold eqGuard
    cases op <;> simp [run_program, h4]
   unfold eqOp at hv
   split at hv
   · injection hv with hv
     subst hv
     have hB : binOp .eql t (.agg (vals β (toL l)).toArray) (.agg (vals β (toL m)).toArray) = (do pure (.bool (<- Op.equal t (.agg (vals β (toL l)).toArray) (.agg (vals β (toL m)).toArray)))) := rfl
     simp only [execOp, hx, hy, hB, Op.equal, Op.maxDepth, Sem.run_bind, Sem.run_pure, Result.andThen_ok, hE, hG]
     rfl
   · injection hv with hv
     subst hv
     have hB : binOp .neq t (.agg (vals β (toL l)).toArray) (.agg (vals β (toL m)).toArray) = (do pure (.bool (!(<- Op.equal t (.agg (vals β (toL l)).toArray) (.agg (vals β (toL m)).toArray))))) := rfl
     simp only [execOp, hx, hy, hB, Op.equal, Op.maxDepth, Sem.run_bind, Sem.run_pure, Result.andThen_ok, hE, hG]
     rfl
   · cases hv
 · cases h
theorem binP_ok {op : BinOp} {t : TypeId} {a b : SV} (h : binP P gs op t a b K) : ∃ v, K v /\ (gh gs -> BinRuns P op t a b v) := by
 unfold binP at h
 split at h
 · rename_i k m k' n ha hb
   have gen : ∀ {K : SV -> Prop}, (bif decide (k = k') then elimO (ib op k m n) K else False) -> ∃ v, K v /\ (gh gs -> BinRuns P op t a b v) := fun h => by
    obtain ⟨hk0, h1⟩ := bif_ok h
    clear h
    have hk := of_decide_eq_true hk0
    clear hk0
    subst hk
    obtain ⟨v, hv, hK⟩ := elimO_ex h1
    exact ⟨v, hK, fun _ => ib_ok ha hb hv⟩
   split at h
   · obtain ⟨h, hn⟩ := ge0_ok h
     exact ⟨_, h, fun g β act x y dst ty t' p af gg w hx hy => r_shl (by rw [hx, oint_val ha]) (by rw [hy, oint_val hb]) (hn g)⟩
   · obtain ⟨h, hn⟩ := ge0_ok h
     exact ⟨_, h, fun g β act x y dst ty t' p af gg w hx hy => r_shr (by rw [hx, oint_val ha]) (by rw [hy, oint_val hb]) (hn g)⟩
   · obtain ⟨hk0, h1⟩ := bif_ok h
     clear h
     have hk := of_decide_eq_true hk0
     clear hk0
     subst hk
     obtain ⟨h2, hn⟩ := nz_ok hb h1
     exact ⟨_, h2, fun g β act x y dst ty t' p af gg w hx hy => r_quo (by rw [hx, oint_val ha]) (by rw [hy, oint_val hb]) (hn g)⟩
   · obtain ⟨hk0, h1⟩ := bif_ok h
     clear h
     have hk := of_decide_eq_true hk0
     clear hk0
     subst hk
     obtain ⟨h2, hn⟩ := nz_ok hb h1
     exact ⟨_, h2, fun g β act x y dst ty t' p af gg w hx hy => r_rem (by rw [hx, oint_val ha]) (by rw [hy, oint_val hb]) (hn g)⟩
   · exact gen h
 · split at h
   · rename_i s u ha hb
     split at h
     · exact ⟨_, h.2, fun g β act x y dst ty t' p af gg w hx hy => r_strAdd (by rw [hx, ostr_val ha]) (by rw [hy, ostr_val hb]) (gi_use h.1 g)⟩
     · obtain ⟨v, hv, hK⟩ := elimO_ex h
       exact ⟨v, hK, fun _ => sb_ok ha hb hv⟩
   · split at h
     · rename_i s u ha hb hu
       split at h
       · exact ⟨_, h, fun g β act x y dst ty t' p af gg w hx hy => r_eqlBool hu (by rw [hx, obool_val ha]) (by rw [hy, obool_val hb])⟩
       · exact ⟨_, h, fun g β act x y dst ty t' p af gg w hx hy => r_neqBool hu (by rw [hx, obool_val ha]) (by rw [hy, obool_val hb])⟩
       · exact h.elim
     · split at h
       · rename_i e hu
         cases hb : isNp b with
         | true =>
          rw [hb] at h
          obtain ⟨v, hv, hK⟩ := elimO_ex h
          exact ⟨v, hK, fun _ => (pn_ok hu hb hv).1⟩
         | false =>
          rw [hb] at h
          obtain ⟨ha, h⟩ := bif_ok h
          obtain ⟨v, hv, hK⟩ := elimO_ex h
          exact ⟨v, hK, fun _ => (pn_ok hu ha hv).2⟩
       · rename_i e hu
         cases hb : isNsl b with
         | true =>
          rw [hb] at h
          obtain ⟨v, hv, hK⟩ := elimO_ex h
          exact ⟨v, hK, fun _ => (sn_ok hu hb hv).1⟩
         | false =>
          rw [hb] at h
          obtain ⟨ha, h⟩ := bif_ok h
          obtain ⟨v, hv, hK⟩ := elimO_ex h
          exact ⟨v, hK, fun _ => (sn_ok hu ha hv).2⟩
       · rename_i fs hu
         obtain ⟨r, hr, h⟩ := elimO_ex h
         obtain ⟨v, hv, hK⟩ := elimO_ex h
         exact ⟨v, hK, fun _ => eqSt_ok hu hr hv⟩
       · rename_i kk ee hu
         obtain ⟨v, hv, hK⟩ := elimO_ex h
         exact ⟨v, hK, fun _ => mn_ok hu hv⟩
       · exact h.elim
end
def scal : SV -> Bool
 | .agg _ => false
 | .tup _ => false
 | .un => false
 | .e => false
 | .c _ _ => false
 | _ => true
def scals : List SV -> Bool
 | [] => true
 | s :: r => scal s && scals r
theorem scal_one {s : SV} (h : scal s = true) (β : Nat -> Nat) : (val β s).oneCell' = true /\ (val β s).cells = #[val β s] := by
 cases s with
 | raw v =>
  have e : val β (.raw v) = v.v := rfl
  rw [e]
  refine ⟨v.one, ?_⟩
  obtain ⟨v, hv⟩ := v
  cases v <;> first | rfl | (simp [Value.oneCell'] at hv)
 | _ => first | exact ⟨rfl, rfl⟩ | (simp [scal] at h)
theorem scals_one : ∀ {l : List SV}, scals l = true -> ∀ β, (vals β l).all Value.oneCell' = true
 | [], _, _ => rfl
 | s :: r, h, β => by
  simp only [scals, Bool.and_eq_true] at h
  simp only [vals, List.map_cons, List.all_cons, Bool.and_eq_true]
  exact ⟨(scal_one h.1 β).1, scals_one h.2 β⟩
def cellsS : SV -> Option (List SV)
 | .agg l => bif isL l && scals (toL l) then some (toL l) else none
 | s => bif scal s then some [s] else none
theorem bifO {α : Type} {b : Bool} {x : α} {y : α} (h : (bif b then some x else none) = some y) : b = true /\ x = y := by
 cases b with
 | true => exact ⟨rfl, by simpa using h⟩
 | false => cases h
theorem cellsS_ok {s : SV} {l : List SV} (h : cellsS s = some l) (β : Nat -> Nat) : (val β s).cells = (vals β l).toArray /\ (vals β l).all Value.oneCell' = true := by
 unfold cellsS at h
 split at h
 · obtain ⟨h1, rfl⟩ := bifO h
   simp only [Bool.and_eq_true] at h1
   refine ⟨?_, scals_one h1.2 β⟩
   show (cvs β _).toArray = _
   rw [cvs_toL β h1.1]
 · obtain ⟨h1, rfl⟩ := bifO h
   obtain ⟨h2, h3⟩ := scal_one h1 β
   exact ⟨h3, by simp [vals, h2]⟩
def ofVl : List Value -> Option (List SV)
 | [] => some []
 | v :: r => match ofV1 v, ofVl r with
  | some s, some l => some (s :: l)
  | _, _ => none
theorem ofVl_ok (β : Nat -> Nat) : ∀ {l : List Value} {s : List SV}, ofVl l = some s -> vals β s = l
 | [], s, h => by simp only [ofVl, Option.some.injEq] at h; subst h; rfl
 | v :: r, s, h => by
  simp only [ofVl] at h
  split at h
  · rename_i s' l' h1 h2
    simp only [Option.some.injEq] at h
    subst h
    have := ofVl_ok β h2
    simp only [vals, List.map_cons] at this ⊢
    rw [val_ofV1 h1, this]
  · cases h
def spl (cs : List SV) (o : Nat) (vs : List SV) : List SV := cs.take o ++ vs ++ cs.drop (o + vs.length)
theorem spl_vals (β : Nat -> Nat) (cs : List SV) (o : Nat) (vs : List SV) : vals β (spl cs o vs) = splice (vals β cs) o (vals β vs) := by
 simp only [vals, spl, splice, List.map_append, List.map_take, List.map_drop, List.length_map]
theorem fold_spl {off : Nat} : ∀ (vs : List Value) (k : Nat) (cs : List Value), off + k + vs.length <= cs.length ->
  (vs.zipIdx k).foldl (fun (cs : Array Value) (x : Value × Nat) => cs.setIfInBounds (off + x.2) x.1) cs.toArray = (splice cs (off + k) vs).toArray
 | [], k, cs, _ => by simp [splice]
 | v :: vs, k, cs, h => by
  simp only [List.length_cons] at h
  have e : cs.toArray.setIfInBounds (off + k) v = (cs.set (off + k) v).toArray := by simp
  rw [List.zipIdx_cons, List.foldl_cons]
  dsimp only
  rw [e, fold_spl vs (k + 1) _ (by rw [List.length_set]; omega)]
  congr 1
  simp only [splice, List.length_cons]
  rw [show off + (k + 1) = off + k + 1 by omega, List.take_add_one, List.getElem?_set_self (by omega), List.take_set_of_le (Nat.le_refl _), List.drop_set_of_lt (by omega), show off + k + 1 + vs.length = off + k + (vs.length + 1) by omega]
  simp
def fillS (place : Nat -> Option (Nat × Nat)) : List SV -> List (Nat × SV) -> Option (List SV)
 | cells, [] => some cells
 | cells, (i, v) :: rest => match place i, cellsS v with
  | some (off, size), some vs => bif Nat.beq vs.length size && Nat.ble (off + vs.length) cells.length then fillS place (spl cells off vs) rest else none
  | _, _ => none
theorem fillS_ok (β : Nat -> Nat) {place : Nat -> Option (Nat × Nat)} : ∀ {parts : List (Nat × SV)} {cells r : List SV}, fillS place cells parts = some r -> Instr.fill place (vals β cells).toArray (pvals β parts) = some (vals β r).toArray
 | [], cells, r, h => by simp only [fillS, Option.some.injEq] at h; subst h; rfl
 | (i, v) :: rest, cells, r, h => by
  simp only [fillS] at h
  split at h
  · rename_i off size vs hp hc
    cases hb : (Nat.beq vs.length size && Nat.ble (off + vs.length) cells.length) with
    | false => rw [hb] at h; cases h
    | true =>
     rw [hb] at h
     simp only [Bool.and_eq_true] at hb
     have h1 := Nat.eq_of_beq_eq_true hb.1
     have h2 := Nat.le_of_ble_eq_true hb.2
     obtain ⟨e1, _⟩ := cellsS_ok hc β
     have ih := fillS_ok β (parts := rest) (cells := spl cells off vs) h
     rw [spl_vals] at ih
     simp only [pvals, List.map_cons, Instr.fill, hp, e1, List.size_toArray, vals_len]
     rw [if_neg (by simp [h1]; omega)]
     have e2 := fold_spl (off := off) (vals β vs) 0 (vals β cells) (by rw [vals_len, vals_len]; omega)
     rw [Nat.add_zero] at e2
     have e3 : (vals β vs).toArray.zipIdx.foldl (fun (cs : Array Value) (x : Value × Nat) => cs.setIfInBounds (off + x.2) x.1) (vals β cells).toArray = (splice (vals β cells) off (vals β vs)).toArray := by
      rw [<- e2]
      simp
     exact (congrArg (fun a => Instr.fill place a (pvals β rest)) e3).trans ih
  · cases h
def bltS (P : Program) (t : TypeId) (parts : List (Nat × SV)) : Option (List SV) :=
 match P.info? t, P.underlying t with
 | some it, some (.array _ e) => (match it.zero, P.info? e with
  | some z, some ie => (match ofVl z.cells.toList with
   | some zs => fillS (fun i => some (i * ie.size, ie.size)) zs parts
   | none => none)
  | _, _ => none)
 | some it, some (.struct fields) => (match it.zero, fields.toList.mapM (fun f => (P.info? f.type).map fun i => (f.offset, i.size)) with
  | some z, some places => (match ofVl z.cells.toList with
   | some zs => fillS (places.toArray[·]?) zs parts
   | none => none)
  | _, _ => none)
 | _, _ => none
theorem bltS_ok {P : Program} {t : TypeId} {parts : List (Nat × SV)} {r : List SV} (h : bltS P t parts = some r) (β : Nat -> Nat) (w : World) : (Instr.build t (pvals β parts).toArray).run P w = .ok (.agg (vals β r).toArray) w := by
 refine run_build w t _ _ ?_
 unfold bltS at h
 split at h
 · rename_i it n e h1 h2
   split at h
   · rename_i z ie h3 h4
     split at h
     · rename_i zs h5
       have := fillS_ok β h
       rw [ofVl_ok β h5] at this
       simp only [Program.built, h1, h2, h3, h4]
       simpa using this
     · cases h
   · cases h
 · rename_i it fields h1 h2
   split at h
   · rename_i z places h3 h4
     split at h
     · rename_i zs h5
       have := fillS_ok β h
       rw [ofVl_ok β h5] at this
       simp only [Program.built, h1, h2, h3, h4]
       simpa using this
     · cases h
   · cases h
 · cases h
def sz (P : Program) (t : TypeId) (n : Nat) : Bool := match P.info? t with
 | some i => Nat.beq i.size n
 | none => false
theorem sz_run {P : Program} {t : TypeId} {n : Nat} (h : sz P t n = true) (w : World) : (sizeOf t).run P w = .ok n w := by
 unfold sz at h
 cases hi : P.info? t with
 | none => rw [hi] at h; cases h
 | some i =>
  rw [hi] at h
  rw [<- Nat.eq_of_beq_eq_true h]
  simp [sizeOf, typeInfo, hi]
def szO (P : Program) (t : TypeId) : Nat := match P.info? t with
 | some i => i.size
 | none => 0
theorem agg_run {P : Program} {t : TypeId} {d : TypeDesc} (h : P.underlying t = some d) (w : World) : (isAgg t).run P w = .ok (isAg d) w := by
 unfold isAgg
 rw [Sem.run_bind, run_underlying h, Result.andThen_ok]
 cases d <;> rfl
def bnd (b : SV) (K : Nat -> (Prop -> Prop) -> Prop) : Prop := match b with
 | .il _ n => bif decide (0 <= n) then K n.toNat id else False
 | .int _ n => ∃ v : Nat, K v fun p => n = v /\ p
 | _ => False
theorem bnd_ok {b : SV} {K : Nat -> (Prop -> Prop) -> Prop} (h : bnd b K) : ∃ (v : Nat) (e : Prop -> Prop) (k : IntKind) (n : Int), K v e /\ oint b = some (k, n) /\ (∀ p, e p -> n = v /\ p) := by
 unfold bnd at h
 split at h
 · rename_i k n
   obtain ⟨h1, h2⟩ := bif_ok h
   have h1 := of_decide_eq_true h1
   exact ⟨_, _, k, n, h2, rfl, fun p hp => ⟨by omega, hp⟩⟩
 · rename_i k n
   obtain ⟨v, hv⟩ := h
   exact ⟨v, _, k, n, hv, rfl, fun p hp => hp⟩
 · exact h.elim
def slS (gs : List (Bool × Bool)) (s : Sl) (es : Nat) (st : St) (lo hi mx : Option Operand) (K : SV -> Prop) : Prop := match lo, hi, mx with
 | some lo, none, none => elimO (st.ev lo) fun a => bnd a fun l e => gi gs (e (l <= s.n /\ s.n <= s.c)) /\ K (.sl (s.cut l s.n s.c es))
 | none, some hi, none => elimO (st.ev hi) fun a => bnd a fun h e => gi gs (e (h <= s.c)) /\ K (.sl (s.cut 0 h s.c es))
 | some lo, some hi, none => elimO (st.ev lo) fun a => elimO (st.ev hi) fun b => bnd a fun l e => bnd b fun h f => gi gs (e (f (l <= h /\ h <= s.c))) /\ K (.sl (s.cut l h s.c es))
 | none, some hi, some mx => elimO (st.ev hi) fun b => elimO (st.ev mx) fun c => bnd b fun h e => bnd c fun m f => gi gs (e (f (h <= m /\ m <= s.c))) /\ K (.sl (s.cut 0 h m es))
 | some lo, some hi, some mx => elimO (st.ev lo) fun a => elimO (st.ev hi) fun b => elimO (st.ev mx) fun c => bnd a fun l e => bnd b fun h f => bnd c fun m g => gi gs (e (f (g (l <= h /\ h <= m /\ m <= s.c)))) /\ K (.sl (s.cut l h m es))
 | _, _, _ => False
def slT (gs : List (Bool × Bool)) (s : ByteArray) (st : St) (lo hi mx : Option Operand) (K : SV -> Prop) : Prop := match lo, hi, mx with
 | some lo, none, none => elimO (st.ev lo) fun a => bnd a fun l e => gi gs (e (l <= s.size)) /\ K (.str (s.extract l s.size))
 | none, some hi, none => elimO (st.ev hi) fun a => bnd a fun h e => gi gs (e (h <= s.size)) /\ K (.str (s.extract 0 h))
 | some lo, some hi, none => elimO (st.ev lo) fun a => elimO (st.ev hi) fun b => bnd a fun l e => bnd b fun h f => gi gs (e (f (l <= h /\ h <= s.size))) /\ K (.str (s.extract l h))
 | _, _, _ => False
def blT (P : Program) (b : Builtin) (xs : List Operand) (ts : List TypeId) (st : St) (K : SV -> Prop) : Prop := match b, xs, ts with
 | .len, [x], [t] => elimO (st.ev x) fun a => (match P.underlying t with
  | some (.slice _) => elimO (osl a) fun s => K (.int .i64 s.n)
  | some .string => elimO (ostr a) fun s => K (.int .i64 s.size)
  | _ => False)
 | .cap, [x], [t] => elimO (st.ev x) fun a => (match P.underlying t with
  | some (.slice _) => elimO (osl a) fun s => K (.int .i64 s.c)
  | _ => False)
 | .min, [x, y], _ => elimO (st.ev x) fun a => elimO (st.ev y) fun b => elimO (oint a) fun p => elimO (oint b) fun q => K (.int p.1 (if q.2 < p.2 then q.2 else p.2))
 | .max, [x, y], _ => elimO (st.ev x) fun a => elimO (st.ev y) fun b => elimO (oint a) fun p => elimO (oint b) fun q => K (.int p.1 (if q.2 > p.2 then q.2 else p.2))
 | _, _, _ => False
def nif : TypeDesc -> Bool
 | .interface _ => false
 | _ => true
def cvP (P : Program) (gs : List (Bool × Bool)) (st : St) (s d : TypeId) (a : SV) (K : SV -> Prop) : Prop := match P.underlying s, P.underlying d with
 | some (.int _), some (.int kd) => elimO (oint a) fun p => K (.int kd (kd.wrap p.2))
 | some .string, some .string => elimO (ostr a) fun u => K (.str u)
 | some (.slice e), some .string => (match P.underlying e with
  | some (.int .u8) => elimO (osl a) fun u => bif st.mv then False else ∃ l : List UInt8, gi gs (Bytes st.w0 u l) /\ K (.str ⟨l.toArray⟩)
  | _ => False)
 | _, _ => False
def ldP (P : Program) (gs : List (Bool × Bool)) (st : St) (t : TypeId) (a : SV) (K : SV -> Prop) : Prop := match P.underlying t with
 | none => False
 | some d => (match a with
  | .box i o => elimO (nthB st.bx i) fun b => bif b.ok && sz P t ((b.cells.drop o).take (szO P t)).length && (isAg d || Nat.beq ((b.cells.drop o).take (szO P t)).length 1) then K (ofC (isAg d) ((b.cells.drop o).take (szO P t))) else False
  | .ad p => bif !st.mv && sz P t (shC P 12 t).length && (isAg d || Nat.beq (shC P 12 t).length 1) then exl (shC P 12 t) fun vs => gi gs (Cells st.w0 p (vals β0 vs)) /\ K (ofC (isAg d) vs) else False
  | _ => False)
def isNIc : Operand -> Bool
 | .const .nilIface => true
 | _ => false
def niV : Value -> Bool
 | .nilIface => true
 | _ => false
def Ifc (v : Value) : Prop := v = .nilIface ∨ ∃ t x, v = .iface t x
def niP (P : Program) (gs : List (Bool × Bool)) (op : BinOp) (t : TypeId) (a : SV) (K : SV -> Prop) : Prop := match a, P.underlying t, op with
 | .raw v, some (.interface _), .eql => gi gs (Ifc v.v) /\ K (.bt (niV v.v))
 | .raw v, some (.interface _), .neq => gi gs (Ifc v.v) /\ K (.bt (!niV v.v))
 | _, _, _ => False
theorem isNIc_ok {y : Operand} (h : isNIc y = true) : y = .const .nilIface := by
 unfold isNIc at h
 split at h
 · rfl
 · cases h
theorem ni_eq {P : Program} {t : TypeId} {ms : Array (String × TypeId)} {v : Value} (hu : P.underlying t = some (.interface ms)) (hv : Ifc v) (w : World) : (Op.equal t v .nilIface).run P w = .ok (niV v) w := by
 unfold Op.equal Op.maxDepth Op.equalIn
 rcases hv with rfl | ⟨tx, x, rfl⟩ <;> simp only [Sem.run_bind, run_underlying hu, Result.andThen_ok] <;> rfl
theorem ni_guard {P : Program} {op : BinOp} {t : TypeId} {x : Operand} {v : Value} (hv : Ifc v) (w : World) : (eqGuard op t x (.const .nilIface) v .nilIface).run P w = .ok () w := by
 unfold eqGuard
 rcases hv with rfl | ⟨tx, x, rfl⟩ <;> cases op <;> first | rfl | simp
theorem niP_ok {P : Program} {gs : List (Bool × Bool)} {st : St} {K : SV -> Prop} {op : BinOp} {t ty : TypeId} {x : Operand} {a : SV} (hx : st.ev x = some a) (h : niP P gs op t a K) : ∃ v, K v /\ (gh gs -> ∀ (β : Nat -> Nat) (c : Act) (w : World), Rep β st c w -> ∀ (d : Option Tmp) (t' : TypeId) (p : String) (af : Array Edge) (g : Option (Nat × Bool)) (w' : World),
  (execOp c.eval ⟨d, .binOp op t x (.const .nilIface) ty, t', p, af, g⟩).run P w' = .ok (.value (val β v)) w') := by
 unfold niP at h
 split at h
 · rename_i v ms hu
   refine ⟨_, h.2, fun hg β c w hR d t' p af g w' => ?_⟩
   have hv := gi_use h.1 hg
   have e : c.eval x = v.v := hR.ev hx
   have e2 : c.eval (.const .nilIface) = .nilIface := rfl
   have hb : binOp .eql t v.v .nilIface = (do pure (.bool (<- Op.equal t v.v .nilIface))) := by
    rcases hv with h | ⟨tx, x, h⟩ <;> rw [h] <;> rfl
   simp only [execOp, e, e2, hb, Sem.run_bind, ni_guard hv, Result.andThen_ok, ni_eq hu hv, Sem.run_pure]
   rfl
 · rename_i v ms hu
   refine ⟨_, h.2, fun hg β c w hR d t' p af g w' => ?_⟩
   have hv := gi_use h.1 hg
   have e : c.eval x = v.v := hR.ev hx
   have e2 : c.eval (.const .nilIface) = .nilIface := rfl
   have hb : binOp .neq t v.v .nilIface = (do pure (.bool (!(<- Op.equal t v.v .nilIface)))) := by
    rcases hv with h | ⟨tx, x, h⟩ <;> rw [h] <;> rfl
   simp only [execOp, e, e2, hb, Sem.run_bind, ni_guard hv, Result.andThen_ok, ni_eq hu hv, Sem.run_pure]
   rfl
 · exact h.elim
def PtrAt (p : Addr) (i : Int) (len size : Nat) (q : Addr) : Prop := 0 <= i /\ i < len /\ p.add (i.toNat * size) = q
def dynP (n : Int) (F : Nat -> Prop) : Nat -> Prop
 | 0 => True
 | 1 => n = 0 -> F 0
 | j + 2 => dynP n F (j + 1) /\ (n = ((j + 1 : Nat) : Int) -> F (j + 1))
theorem dynP_ok {n : Int} {F : Nat -> Prop} : ∀ {m : Nat}, dynP n F m -> 0 <= n -> n < m -> F n.toNat
 | 0, _, h0, h1 => by omega
 | 1, h, h0, h1 => by
  have e : n = 0 := by omega
  subst e
  exact h rfl
 | j + 2, h, h0, h1 => by
  by_cases e : n = ((j + 1 : Nat) : Int)
  · have := h.2 e
    rw [e]
    exact this
  · exact dynP_ok h.1 h0 (by omega)
def pur (P : Program) (gs : List (Bool × Bool)) (st : St) (o : Op) (K : SV -> Prop) : Prop := match o with
 | .move x => elimO (st.ev x) K
 | .assign x => elimO (st.ev x) K
 | .pick c x y => elimO (st.ev c) fun c => (match c with
  | .bl true => elimO (st.ev x) K
  | .bl false => elimO (st.ev y) K
  | _ => False)
 | .binOp op t x y _ => elimO (st.ev x) fun a => elimO (st.ev y) fun b => bif isNIc y then niP P gs op t a K else binP P gs op t a b K
 | .unOp .not _ x => elimO (st.ev x) fun a => (match a with
  | .bl b => K (.bl (!b))
  | .bt b => K (.bt (!b))
  | _ => False)
 | .unOp .neg _ x => elimO (st.ev x) fun a => elimO (oint a) fun p => K (.int p.1 (p.1.wrap (0 - p.2)))
 | .convert s d x => elimO (st.ev x) fun a => cvP P gs st s d a K
 | .extract x i => elimO (st.ev x) fun a => (match a with
  | .tup l => bif isL l then elimO ((toL l)[i]?) K else False
  | _ => False)
 | .build t parts => elimO (st.evp parts.toList) fun ps => elimO (bltS P t ps) fun r => K (.agg (ofL r))
 | .makeFunc fn fs cs => (match fn with
  | .func f => elimO (st.evs fs.toList) fun a => elimO (st.evs cs.toList) fun b => K (.fn f (ofL a) (ofL b))
  | _ => False)
 | .makeInterface t x => elimO (st.ev x) fun a => elimO (P.underlying t) fun d => bif nif d && cln (fun _ => false) a then K (.raw ⟨.iface t (val β0 a), rfl⟩) else False
 | .nilCheck x => elimO (st.ev x) fun a => (match a with
  | .ad p => K (.ad p)
  | .box i o => K (.box i o)
  | .ptr p => ∃ q : Addr, gi gs (p = some q) /\ K (.ad q)
  | .fn f .e cs => K (.fn f .e cs)
  | _ => False)
 | .fieldAddr s x k => elimO (st.ev x) fun a => (match P.underlying s with
  | some (.struct fs) => elimO (fs[k]?) fun f => bif Nat.ble 1 (szO P f.type) then (match a with
   | .ad p => K (.ad (p.add f.offset))
   | .box i o => K (.box i (o + f.offset))
   | _ => False) else False
  | _ => False)
 | .field t x k => elimO (st.ev x) fun a => (match a, P.underlying t with
  | .agg l, some (.struct fs) => elimO (fs[k]?) fun f => elimO (P.underlying f.type) fun d => bif isL l && sz P f.type (((toL l).drop f.offset).take (szO P f.type)).length && (isAg d || Nat.beq (((toL l).drop f.offset).take (szO P f.type)).length 1)
    then K (ofC (isAg d) (((toL l).drop f.offset).take (szO P f.type))) else False
  | _, _ => False)
 | .indexAddr t x i => elimO (st.ev x) fun a => elimO (st.ev i) fun j => elimO (oint j) fun n => (match P.underlying t with
  | some (.slice e) => elimO (osl a) fun s => bif (P.info? e).isSome then ∃ q : Addr, gi gs (SlAt s n.2 (szO P e) q) /\ K (.ad q) else False
  | some (.array len e) => bif (P.info? e).isSome then (match a, j with
   | .box b o, .il _ n => bif decide (0 <= n) && decide (n < len) then K (.box b (o + n.toNat * szO P e)) else False
   | .ad p, .il _ n => bif decide (0 <= n) && decide (n < len) then K (.ad (p.add (n.toNat * szO P e))) else False
   | .ad p, _ => ∃ q : Addr, gi gs (PtrAt p n.2 len (szO P e) q) /\ K (.ad q)
   | .box b o, _ => bif Nat.ble len 8 then (0 <= n.2 /\ n.2 < (len : Int)) /\ dynP n.2 (fun j => K (.box b (o + j * szO P e))) len else False
   | _, _ => False) else False
  | _ => False)
 | .load t x => elimO (st.ev x) fun a => ldP P gs st t a K
 | .index t x i => elimO (st.ev x) fun a => elimO (st.ev i) fun j => elimO (oint j) fun n => (match P.underlying t with
  | some .string => elimO (ostr a) fun s => ∃ c : UInt8, gi gs (0 <= n.2 /\ s[n.2.toNat]? = some c) /\ K (.int .u8 (c.toNat : Int))
  | _ => False)
 | .slice t x lo hi mx => elimO (st.ev x) fun a => (match P.underlying t with
  | some (.slice e) => elimO (osl a) fun s => bif (P.info? e).isSome then slS gs s (szO P e) st lo hi mx K else False
  | some .string => elimO (ostr a) fun s => slT gs s st lo hi mx K
  | _ => False)
 | .call c => (match c.callee with
  | .builtin b => blT P b c.args.toList c.argTypes.toList st K
  | _ => False)
 | _ => False
def mem : Op -> Bool
 | .load _ _ => true
 | .convert _ _ _ => true
 | _ => false
def Y (P : Program) (st : St) (o : Op) (v : SV) : Prop := ∀ (β : Nat -> Nat) (a : Act) (w : World), Rep β st a w -> ∀ (d : Option Tmp) (t : TypeId) (p : String) (af : Array Edge) (g : Option (Nat × Bool)) (w' : World), (mem o = true -> w'.heap = w.heap) ->
 (execOp a.eval ⟨d, o, t, p, af, g⟩).run P w' = .ok (.value (val β v)) w'
theorem szO_run {P : Program} {t : TypeId} (h : (P.info? t).isSome = true) (w : World) : (sizeOf t).run P w = .ok (szO P t) w := by
 unfold szO
 cases hi : P.info? t with
 | none => rw [hi] at h; cases h
 | some i => simp [sizeOf, typeInfo, hi]
theorem lit_add (b o n : Nat) : (⟨b, o, none⟩ : Addr).add n = ⟨b, o + n, none⟩ := by unfold Addr.add; split <;> simp_all
theorem ofC_agg {d : TypeDesc} (h : isAg d = true) (β : Nat -> Nat) (l : List SV) : val β (ofC (isAg d) l) = .agg (vals β l).toArray := by
 rw [h]
 show Value.agg (cvs β (ofL l)).toArray = _
 rw [cvs_ofL]
theorem one_of {l : List SV} (h : Nat.beq l.length 1 = true) : ∃ s, l = [s] := by
 have := Nat.eq_of_beq_eq_true h
 match l, this with
 | [s], _ => exact ⟨s, rfl⟩
section
variable {P : Program} {gs : List (Bool × Bool)} {st : St} {K : SV -> Prop}
theorem ldP_ok {t : TypeId} {x : Operand} {a : SV} (hx : st.ev x = some a) (h : ldP P gs st t a K) : ∃ v, K v /\ (gh gs -> Y P st (.load t x) v) := by
 unfold ldP at h
 split at h
 · exact h.elim
 · rename_i d hu
   split at h
   · rename_i i o
     obtain ⟨b, hb, h⟩ := elimO_ex h
     obtain ⟨h1, h2⟩ := bif_ok h
     simp only [Bool.and_eq_true, Bool.or_eq_true] at h1
     obtain ⟨⟨hok, hsz⟩, hone⟩ := h1
     refine ⟨_, h2, fun _ β act w hR dst t' p af g w' hh => ?_⟩
     have hB := (hR.bx i b hb hok).blk
     have hB' : Blk w' (β i) b.ty (vals β b.cells) := by unfold Blk at hB ⊢; rw [hh rfl]; exact hB
     have hev := hR.ev hx
     generalize hl : (b.cells.drop o).take (szO P t) = l at *
     have hC : Cells w' ⟨β i, o, none⟩ (vals β l) := hB'.cellsAt o _ (by
      rw [vals_len, <- hl]
      simp only [vals, List.map_take, List.map_drop]
      rw [List.length_take, List.take_eq_take_iff]
      simp only [List.length_drop, List.length_map]
      omega)
     rcases hone with hag | hone
     · rw [ofC_agg hag]
       have := agg_run (P := P) hu w'
       rw [hag] at this
       exact r_loadN this (sz_run hsz w') (vals_len β l) hev hC
     · cases hag : isAg d with
       | true =>
        have e := ofC_agg hag β l
        rw [hag] at e
        rw [e]
        have := agg_run (P := P) hu w'
        rw [hag] at this
        exact r_loadN this (sz_run hsz w') (vals_len β l) hev hC
       | false =>
        obtain ⟨s, rfl⟩ := one_of hone
        have := agg_run (P := P) hu w'
        rw [hag] at this
        exact r_load1 this hev (Cells.one hC)
   · rename_i ad
     obtain ⟨h1, h2⟩ := bif_ok h
     simp only [Bool.and_eq_true, Bool.or_eq_true, Bool.not_eq_true'] at h1
     obtain ⟨⟨hmv, hsz⟩, hone⟩ := h1
     obtain ⟨vs, ⟨hF, hK⟩, hlen, hcl⟩ := exl_ex h2
     refine ⟨_, hK, fun hg β act w hR dst t' p af g w' hh => ?_⟩
     have hF := gi_use hF hg
     have hw := hR.still hmv
     subst hw
     have hC : Cells w' ad (vals β vs) := by
      rw [vals_congr (β := β) (β' := β0) (g := fun _ => false) (fun i h => (by cases h)) vs (hcl _)]
      exact hF.keep (by rw [hh rfl])
     have hev := hR.ev hx
     rw [<- hlen] at hsz hone
     rcases hone with hag | hone
     · rw [ofC_agg hag]
       have := agg_run (P := P) hu w'
       rw [hag] at this
       exact r_loadN this (sz_run hsz w') (vals_len β vs) hev hC
     · cases hag : isAg d with
       | true =>
        have e := ofC_agg hag β vs
        rw [hag] at e
        rw [e]
        have := agg_run (P := P) hu w'
        rw [hag] at this
        exact r_loadN this (sz_run hsz w') (vals_len β vs) hev hC
       | false =>
        obtain ⟨s, rfl⟩ := one_of hone
        have := agg_run (P := P) hu w'
        rw [hag] at this
        exact r_load1 this hev (Cells.one hC)
   · exact h.elim
theorem cvP_ok {s d : TypeId} {x : Operand} {a : SV} (hx : st.ev x = some a) (h : cvP P gs st s d a K) : ∃ v, K v /\ (gh gs -> Y P st (.convert s d x) v) := by
 unfold cvP at h
 split at h
 · rename_i ks kd h1 h2
   obtain ⟨⟨k, n⟩, hp, h⟩ := elimO_ex h
   exact ⟨_, h, fun _ β act w hR dst t' p af g w' hh => r_convInt (run_underlying h1 w') (run_underlying h2 w') ((hR.ev hx).trans (oint_val hp β))⟩
 · rename_i h1 h2
   obtain ⟨u, hp, h⟩ := elimO_ex h
   exact ⟨_, h, fun _ β act w hR dst t' p af g w' hh => r_convStr (run_underlying h1 w') (run_underlying h2 w') ((hR.ev hx).trans (ostr_val hp β))⟩
 · rename_i e h1 h2
   split at h
   · rename_i h3
     obtain ⟨u, hp, h⟩ := elimO_ex h
     cases hm : st.mv with
     | true => rw [hm] at h; exact h.elim
     | false =>
      rw [hm] at h
      obtain ⟨l, hF, hK⟩ := h
      refine ⟨_, hK, fun hg β act w hR dst t' p af g w' hh => ?_⟩
      have hw := hR.still hm
      subst hw
      exact r_bytesStr h1 h3 h2 ((hR.ev hx).trans (osl_val hp β)) (keep_bytes _ _ (by rw [hh rfl]) (gi_use hF hg))
   · exact h.elim
 · exact h.elim
theorem blT_ok {b : Builtin} {xs : List Operand} {ts : List TypeId} (h : blT P b xs ts st K) : ∃ v, K v /\ (gh gs -> Y P st (.call ⟨.builtin b, xs.toArray, ts.toArray⟩) v) := by
 unfold blT at h
 split at h
 · obtain ⟨a, hx, h⟩ := elimO_ex h
   split at h
   · rename_i hu
     obtain ⟨s, hs, h⟩ := elimO_ex h
     exact ⟨_, h, fun _ β act w hR dst t' p af g w' hh => r_len (run_underlying hu w') ((hR.ev hx).trans (osl_val hs β))⟩
   · rename_i hu
     obtain ⟨s, hs, h⟩ := elimO_ex h
     exact ⟨_, h, fun _ β act w hR dst t' p af g w' hh => r_lenStr (run_underlying hu w') ((hR.ev hx).trans (ostr_val hs β))⟩
   · exact h.elim
 · obtain ⟨a, hx, h⟩ := elimO_ex h
   split at h
   · rename_i hu
     obtain ⟨s, hs, h⟩ := elimO_ex h
     exact ⟨_, h, fun _ β act w hR dst t' p af g w' hh => r_cap (run_underlying hu w') ((hR.ev hx).trans (osl_val hs β))⟩
   · exact h.elim
 · obtain ⟨a, hx, h⟩ := elimO_ex h
   obtain ⟨b, hy, h⟩ := elimO_ex h
   obtain ⟨⟨k, m⟩, hp, h⟩ := elimO_ex h
   obtain ⟨⟨k', n⟩, hq, h⟩ := elimO_ex h
   exact ⟨_, h, fun _ β act w hR dst t' p af g w' hh => r_min ((hR.ev hx).trans (oint_val hp β)) ((hR.ev hy).trans (oint_val hq β))⟩
 · obtain ⟨a, hx, h⟩ := elimO_ex h
   obtain ⟨b, hy, h⟩ := elimO_ex h
   obtain ⟨⟨k, m⟩, hp, h⟩ := elimO_ex h
   obtain ⟨⟨k', n⟩, hq, h⟩ := elimO_ex h
   exact ⟨_, h, fun _ β act w hR dst t' p af g w' hh => r_max ((hR.ev hx).trans (oint_val hp β)) ((hR.ev hy).trans (oint_val hq β))⟩
 · exact h.elim
theorem slS_ok {t e : TypeId} {x : Operand} {lo hi mx : Option Operand} {a : SV} {s : Sl} (hu : P.underlying t = some (.slice e)) (hi' : (P.info? e).isSome = true) (hx : st.ev x = some a) (hs : osl a = some s) (h : slS gs s (szO P e) st lo hi mx K) : ∃ v, K v /\ (gh gs -> Y P st (.slice t x lo hi mx) v) := by
 unfold slS at h
 split at h
 · obtain ⟨a1, h1, h⟩ := elimO_ex h
   obtain ⟨l, e1, k1, n1, ⟨hF, hK⟩, o1, u1⟩ := bnd_ok h
   refine ⟨_, hK, fun hg β act w hR dst t' p af g w' hh => ?_⟩
   obtain ⟨rfl, f1, f2⟩ := u1 _ (gi_use hF hg)
   exact r_slice100 (run_underlying hu w') (szO_run hi' w') ((hR.ev hx).trans (osl_val hs β)) ((hR.ev h1).trans (oint_val o1 β)) f1 f2 (Nat.le_refl _)
 · obtain ⟨a1, h1, h⟩ := elimO_ex h
   obtain ⟨l, e1, k1, n1, ⟨hF, hK⟩, o1, u1⟩ := bnd_ok h
   refine ⟨_, hK, fun hg β act w hR dst t' p af g w' hh => ?_⟩
   obtain ⟨rfl, f1⟩ := u1 _ (gi_use hF hg)
   exact r_slice010 (run_underlying hu w') (szO_run hi' w') ((hR.ev hx).trans (osl_val hs β)) ((hR.ev h1).trans (oint_val o1 β)) (Nat.zero_le _) f1 (Nat.le_refl _)
 · obtain ⟨a1, h1, h⟩ := elimO_ex h
   obtain ⟨a2, h2, h⟩ := elimO_ex h
   obtain ⟨l, e1, k1, n1, h, o1, u1⟩ := bnd_ok h
   obtain ⟨m, e2, k2, n2, ⟨hF, hK⟩, o2, u2⟩ := bnd_ok h
   refine ⟨_, hK, fun hg β act w hR dst t' p af g w' hh => ?_⟩
   obtain ⟨rfl, f1⟩ := u1 _ (gi_use hF hg)
   obtain ⟨rfl, f1, f2⟩ := u2 _ f1
   exact r_slice110 (run_underlying hu w') (szO_run hi' w') ((hR.ev hx).trans (osl_val hs β)) ((hR.ev h1).trans (oint_val o1 β)) ((hR.ev h2).trans (oint_val o2 β)) f1 f2 (Nat.le_refl _)
 · obtain ⟨a1, h1, h⟩ := elimO_ex h
   obtain ⟨a2, h2, h⟩ := elimO_ex h
   obtain ⟨l, e1, k1, n1, h, o1, u1⟩ := bnd_ok h
   obtain ⟨m, e2, k2, n2, ⟨hF, hK⟩, o2, u2⟩ := bnd_ok h
   refine ⟨_, hK, fun hg β act w hR dst t' p af g w' hh => ?_⟩
   obtain ⟨rfl, f1⟩ := u1 _ (gi_use hF hg)
   obtain ⟨rfl, f1, f2⟩ := u2 _ f1
   exact r_slice011 (run_underlying hu w') (szO_run hi' w') ((hR.ev hx).trans (osl_val hs β)) ((hR.ev h1).trans (oint_val o1 β)) ((hR.ev h2).trans (oint_val o2 β)) (Nat.zero_le _) f1 f2
 · obtain ⟨a1, h1, h⟩ := elimO_ex h
   obtain ⟨a2, h2, h⟩ := elimO_ex h
   obtain ⟨a3, h3, h⟩ := elimO_ex h
   obtain ⟨l, e1, k1, n1, h, o1, u1⟩ := bnd_ok h
   obtain ⟨m, e2, k2, n2, h, o2, u2⟩ := bnd_ok h
   obtain ⟨q, e3, k3, n3, ⟨hF, hK⟩, o3, u3⟩ := bnd_ok h
   refine ⟨_, hK, fun hg β act w hR dst t' p af g w' hh => ?_⟩
   obtain ⟨rfl, f1⟩ := u1 _ (gi_use hF hg)
   obtain ⟨rfl, f1⟩ := u2 _ f1
   obtain ⟨rfl, f1, f2, f3⟩ := u3 _ f1
   exact r_slice111 (run_underlying hu w') (szO_run hi' w') ((hR.ev hx).trans (osl_val hs β)) ((hR.ev h1).trans (oint_val o1 β)) ((hR.ev h2).trans (oint_val o2 β)) ((hR.ev h3).trans (oint_val o3 β)) f1 f2 f3
 · exact h.elim
theorem slT_ok {t : TypeId} {x : Operand} {lo hi mx : Option Operand} {a : SV} {s : ByteArray} (hu : P.underlying t = some .string) (hx : st.ev x = some a) (hs : ostr a = some s) (h : slT gs s st lo hi mx K) : ∃ v, K v /\ (gh gs -> Y P st (.slice t x lo hi mx) v) := by
 unfold slT at h
 split at h
 · obtain ⟨a1, h1, h⟩ := elimO_ex h
   obtain ⟨l, e1, k1, n1, ⟨hF, hK⟩, o1, u1⟩ := bnd_ok h
   refine ⟨_, hK, fun hg β act w hR dst t' p af g w' hh => ?_⟩
   obtain ⟨rfl, f1⟩ := u1 _ (gi_use hF hg)
   exact r_sliceStr10 (run_underlying hu w') ((hR.ev hx).trans (ostr_val hs β)) ((hR.ev h1).trans (oint_val o1 β)) f1 (Nat.le_refl _)
 · obtain ⟨a1, h1, h⟩ := elimO_ex h
   obtain ⟨l, e1, k1, n1, ⟨hF, hK⟩, o1, u1⟩ := bnd_ok h
   refine ⟨_, hK, fun hg β act w hR dst t' p af g w' hh => ?_⟩
   obtain ⟨rfl, f1⟩ := u1 _ (gi_use hF hg)
   exact r_sliceStr01 (run_underlying hu w') ((hR.ev hx).trans (ostr_val hs β)) ((hR.ev h1).trans (oint_val o1 β)) (Nat.zero_le _) f1
 · obtain ⟨a1, h1, h⟩ := elimO_ex h
   obtain ⟨a2, h2, h⟩ := elimO_ex h
   obtain ⟨l, e1, k1, n1, h, o1, u1⟩ := bnd_ok h
   obtain ⟨m, e2, k2, n2, ⟨hF, hK⟩, o2, u2⟩ := bnd_ok h
   refine ⟨_, hK, fun hg β act w hR dst t' p af g w' hh => ?_⟩
   obtain ⟨rfl, f1⟩ := u1 _ (gi_use hF hg)
   obtain ⟨rfl, f1, f2⟩ := u2 _ f1
   exact r_sliceStr11 (run_underlying hu w') ((hR.ev hx).trans (ostr_val hs β)) ((hR.ev h1).trans (oint_val o1 β)) ((hR.ev h2).trans (oint_val o2 β)) f1 f2
 · exact h.elim
theorem part_ok {t : TypeId} {d : TypeDesc} {l : List Value} {off n : Nat} (hu : P.underlying t = some d) (hn : sz P t n = true) (hag : isAg d = true) (w : World) : (part t l.toArray off).run P w = .ok (.agg ((l.drop off).take n).toArray) w := by
 have h := agg_run (P := P) hu w
 rw [hag] at h
 unfold part
 simp only [Sem.run_bind, h, Result.andThen_ok, if_true, sz_run hn w, Sem.run_pure]
 congr 2
 rw [List.extract_toArray, List.extract_eq_take_drop, Nat.add_sub_cancel_left]
theorem part_ok1 {t : TypeId} {d : TypeDesc} {l : List Value} {off : Nat} {v : Value} (hu : P.underlying t = some d) (hag : isAg d = false) (hv : l[off]? = some v) (w : World) : (part t l.toArray off).run P w = .ok v w := by
 have h := agg_run (P := P) hu w
 rw [hag] at h
 unfold part
 simp only [Sem.run_bind, h, Result.andThen_ok]
 simp [hv]
theorem pur_ok {o : Op} (h : pur P gs st o K) : ∃ v, K v /\ (gh gs -> Y P st o v) := by
 unfold pur at h
 split at h
 · obtain ⟨v, hx, hK⟩ := elimO_ex h
   exact ⟨v, hK, fun _ β act w hR dst t' p af g w' hh => by simp only [execOp, hR.ev hx, Sem.run_pure]⟩
 · obtain ⟨v, hx, hK⟩ := elimO_ex h
   exact ⟨v, hK, fun _ β act w hR dst t' p af g w' hh => by simp only [execOp, hR.ev hx, Sem.run_pure]⟩
 · obtain ⟨c, hc, h⟩ := elimO_ex h
   split at h
   · obtain ⟨v, hx, hK⟩ := elimO_ex h
     exact ⟨v, hK, fun _ β act w hR dst t' p af g w' hh => r_pickT (hR.ev hc) (hR.ev hx)⟩
   · obtain ⟨v, hx, hK⟩ := elimO_ex h
     exact ⟨v, hK, fun _ β act w hR dst t' p af g w' hh => r_pickF (hR.ev hc) (hR.ev hx)⟩
   · exact h.elim
 · rename_i op t x y ty
   obtain ⟨a, hx, h⟩ := elimO_ex h
   obtain ⟨b, hy, h⟩ := elimO_ex h
   cases hn : isNIc y with
   | true =>
    rw [hn] at h
    have e := isNIc_ok hn
    subst e
    obtain ⟨v, hK, hr⟩ := niP_ok hx h
    exact ⟨v, hK, fun hg β act w hR dst t' p af g w' hh => hr hg β act w hR _ _ _ _ _ _⟩
   | false =>
   rw [hn] at h
   obtain ⟨v, hK, hr⟩ := binP_ok h
   exact ⟨v, hK, fun hg β act w hR dst t' p af g w' hh => hr hg β act _ _ _ _ _ _ _ _ _ (hR.ev hx) (hR.ev hy)⟩
 · obtain ⟨a, hx, h⟩ := elimO_ex h
   split at h
   · exact ⟨_, h, fun _ β act w hR dst t' p af g w' hh => by simp only [execOp, hR.ev hx]; rfl⟩
   · exact ⟨_, h, fun _ β act w hR dst t' p af g w' hh => by simp only [execOp, hR.ev hx]; rfl⟩
   · exact h.elim
 · obtain ⟨a, hx, h⟩ := elimO_ex h
   obtain ⟨⟨k, n⟩, hp, h⟩ := elimO_ex h
   exact ⟨_, h, fun _ β act w hR dst t' p af g w' hh => by simp only [execOp, hR.ev hx, oint_val hp]; rfl⟩
 · obtain ⟨a, hx, h⟩ := elimO_ex h
   exact cvP_ok hx h
 · rename_i x i
   obtain ⟨a, hx, h⟩ := elimO_ex h
   split at h
   · rename_i l
     obtain ⟨h1, h⟩ := bif_ok h
     obtain ⟨v, hv, hK⟩ := elimO_ex h
     refine ⟨v, hK, fun _ β act w hR dst t' p af g w' hh => ?_⟩
     have e : act.eval _ = .tuple (vals β (toL l)).toArray := (hR.ev hx).trans (by
      show Value.tuple (cvs β l).toArray = _
      rw [cvs_toL β h1])
     have e2 : (vals β (toL l))[i]? = some (val β v) := by rw [vals, List.getElem?_map, hv]; rfl
     simp only [execOp, e, Instr.extract]
     simp [e2]
   · exact h.elim
 · rename_i t parts
   obtain ⟨ps, hp, h⟩ := elimO_ex h
   obtain ⟨r, hr, hK⟩ := elimO_ex h
   refine ⟨_, hK, fun _ β act w hR dst t' p af g w' hh => ?_⟩
   have e : val β (.agg (ofL r)) = .agg (vals β r).toArray := by
    show Value.agg (cvs β (ofL r)).toArray = _
    rw [cvs_ofL]
   rw [e]
   obtain ⟨pl⟩ := parts
   exact r_build (hR.evp hp) (bltS_ok hr β w')
 · rename_i fn fs cs
   split at h
   · rename_i f
     obtain ⟨a, ha, h⟩ := elimO_ex h
     obtain ⟨b, hb, hK⟩ := elimO_ex h
     refine ⟨_, hK, fun _ β act w hR dst t' p af g w' hh => ?_⟩
     obtain ⟨fl⟩ := fs
     obtain ⟨cl⟩ := cs
     have := r_makeFunc (P := P) (w := w') (dst := dst) (t' := t') (p := p) (af := af) (g := g) (fn := .func f) (hR.evs ha) (hR.evs hb)
     rw [<- cvs_ofL, <- cvs_ofL] at this
     exact this
   · exact h.elim
 · obtain ⟨a, hx, h⟩ := elimO_ex h
   obtain ⟨d, hu, h⟩ := elimO_ex h
   obtain ⟨h1, hK⟩ := bif_ok h
   simp only [Bool.and_eq_true] at h1
   refine ⟨_, hK, fun _ β act w hR dst t' p af g w' hh => ?_⟩
   have e : val β a = val β0 a := val_congr (g := fun _ => false) (fun i h => (by cases h)) a h1.2
   exact r_iface (run_underlying hu w') (by unfold nif at h1; cases d <;> first | rfl | exact h1.1) ((hR.ev hx).trans e)
 · obtain ⟨a, hx, h⟩ := elimO_ex h
   split at h
   · exact ⟨_, h, fun _ β act w hR dst t' p af g w' hh => r_nil (hR.ev hx)⟩
   · exact ⟨_, h, fun _ β act w hR dst t' p af g w' hh => r_nil (hR.ev hx)⟩
   · obtain ⟨q, hF, hK⟩ := h
     refine ⟨_, hK, fun hg β act w hR dst t' p af g w' hh => r_nil ((hR.ev hx).trans ?_)⟩
     have := gi_use hF hg
     subst this; rfl
   · exact ⟨_, h, fun _ β act w hR dst t' p af g w' hh => by
      have e := hR.ev hx
      simp only [val, cvs, List.headD_cons] at e
      simp only [execOp, e, Sem.run_pure, val, cvs, List.headD_cons]⟩
   · exact h.elim
 · obtain ⟨a, hx, h⟩ := elimO_ex h
   split at h
   · rename_i fs hu
     obtain ⟨f, hf, h⟩ := elimO_ex h
     obtain ⟨hs, h⟩ := bif_ok h
     have hs := Nat.le_of_ble_eq_true hs
     have hso : (P.info? f.type).isSome = true := by
      unfold szO at hs
      split at hs
      · rename_i hi; rw [hi]; rfl
      · omega
     obtain ⟨m, hm⟩ : ∃ m, szO P f.type = m + 1 := ⟨szO P f.type - 1, by omega⟩
     split at h
     · exact ⟨_, h, fun _ β act w hR dst t' p af g w' hh => r_field (run_underlying hu w') hf (by rw [szO_run hso, hm]) (hR.ev hx) rfl⟩
     · exact ⟨_, h, fun _ β act w hR dst t' p af g w' hh => r_field (run_underlying hu w') hf (by rw [szO_run hso, hm]) (hR.ev hx) (lit_add _ _ _)⟩
     · exact h.elim
   · exact h.elim
 · obtain ⟨a, hx, h⟩ := elimO_ex h
   split at h
   · rename_i l fs hu
     obtain ⟨f, hf, h⟩ := elimO_ex h
     obtain ⟨d, hd, h⟩ := elimO_ex h
     obtain ⟨h1, hK⟩ := bif_ok h
     simp only [Bool.and_eq_true, Bool.or_eq_true] at h1
     obtain ⟨⟨hl, hsz⟩, hone⟩ := h1
     refine ⟨_, hK, fun _ β act w hR dst t' p af g w' hh => ?_⟩
     have e : act.eval _ = .agg (vals β (toL l)).toArray := (hR.ev hx).trans (by
      show Value.agg (cvs β l).toArray = _
      rw [cvs_toL β hl])
     have hv : vals β (((toL l).drop f.offset).take (szO P f.type)) = ((vals β (toL l)).drop f.offset).take (szO P f.type) := by
      simp only [vals, List.map_take, List.map_drop]
     have key : (part f.type (vals β (toL l)).toArray f.offset).run P w' = .ok (val β (ofC (isAg d) (((toL l).drop f.offset).take (szO P f.type)))) w' := by
      cases hag : isAg d with
      | true =>
       have e2 := ofC_agg hag β (((toL l).drop f.offset).take (szO P f.type))
       rw [hag] at e2
       rw [e2, hv]
       have h3 := part_ok (l := vals β (toL l)) (off := f.offset) hd hsz hag w'
       rw [h3]
       congr 3
       rw [List.take_eq_take_iff]
       simp only [List.length_take, List.length_drop, vals_len]
       omega
      | false =>
       rcases hone with hone | hone
       · rw [hag] at hone; cases hone
       obtain ⟨s, hs⟩ := one_of hone
       rw [hs]
       refine part_ok1 hd hag ?_ w'
       have h4 : (((toL l).drop f.offset).take (szO P f.type))[0]? = some s := by rw [hs]; rfl
       rw [List.getElem?_take] at h4
       split at h4
       · rw [List.getElem?_drop, Nat.add_zero] at h4
         rw [vals, List.getElem?_map, h4]; rfl
       · cases h4
     simp only [execOp, e, Instr.field, Sem.run_bind, run_underlying hu, Result.andThen_ok, hf, asAgg, Sem.run_pure, key]
   · exact h.elim
 · obtain ⟨a, hx, h⟩ := elimO_ex h
   obtain ⟨j, hj, h⟩ := elimO_ex h
   obtain ⟨⟨k, n⟩, hn, h⟩ := elimO_ex h
   split at h
   · rename_i e hu
     obtain ⟨s, hs, h⟩ := elimO_ex h
     obtain ⟨hi, h⟩ := bif_ok h
     obtain ⟨q, hF, hK⟩ := h
     exact ⟨_, hK, fun hg β act w hR dst t' p af g w' hh => r_indexS (run_underlying hu w') (szO_run hi w') ((hR.ev hx).trans (osl_val hs β)) ((hR.ev hj).trans (oint_val hn β)) (gi_use hF hg)⟩
   · rename_i len e hu
     obtain ⟨hi, h⟩ := bif_ok h
     split at h
     · obtain ⟨h1, hK⟩ := bif_ok h
       simp only [Bool.and_eq_true, decide_eq_true_eq] at h1
       exact ⟨_, hK, fun hg β act w hR dst t' p af g w' hh => r_indexA (run_underlying hu w') (szO_run hi w') (hR.ev hx) (hR.ev hj) h1.1 h1.2 (lit_add _ _ _)⟩
     · obtain ⟨h1, hK⟩ := bif_ok h
       simp only [Bool.and_eq_true, decide_eq_true_eq] at h1
       exact ⟨_, hK, fun hg β act w hR dst t' p af g w' hh => r_indexA (run_underlying hu w') (szO_run hi w') (hR.ev hx) (hR.ev hj) h1.1 h1.2 rfl⟩
     · obtain ⟨q, hF, hK⟩ := h
       exact ⟨_, hK, fun hg β act w hR dst t' p af g w' hh => r_indexA (run_underlying hu w') (szO_run hi w') (hR.ev hx) ((hR.ev hj).trans (oint_val hn β)) (gi_use hF hg).1 (gi_use hF hg).2.1 (gi_use hF hg).2.2⟩
     · obtain ⟨_, ⟨h0, h1⟩, hK⟩ := bif_ok h
       exact ⟨_, dynP_ok hK h0 h1, fun hg β act w hR dst t' p af g w' hh => r_indexA (run_underlying hu w') (szO_run hi w') (hR.ev hx) ((hR.ev hj).trans (oint_val hn β)) h0 h1 (lit_add _ _ _)⟩
     · exact h.elim
   · exact h.elim
 · obtain ⟨a, hx, h⟩ := elimO_ex h
   exact ldP_ok hx h
 · obtain ⟨a, hx, h⟩ := elimO_ex h
   obtain ⟨j, hj, h⟩ := elimO_ex h
   obtain ⟨⟨k, n⟩, hn, h⟩ := elimO_ex h
   split at h
   · rename_i hu
     obtain ⟨s, hs, h⟩ := elimO_ex h
     obtain ⟨c, hF, hK⟩ := h
     exact ⟨_, hK, fun hg β act w hR dst t' p af g w' hh => r_indexStr (run_underlying hu w') ((hR.ev hx).trans (ostr_val hs β)) ((hR.ev hj).trans (oint_val hn β)) (gi_use hF hg).1 (gi_use hF hg).2⟩
   · exact h.elim
 · obtain ⟨a, hx, h⟩ := elimO_ex h
   split at h
   · rename_i e hu
     obtain ⟨s, hs, h⟩ := elimO_ex h
     obtain ⟨hi, h⟩ := bif_ok h
     exact slS_ok hu hi hx hs h
   · rename_i hu
     obtain ⟨s, hs, h⟩ := elimO_ex h
     exact slT_ok hu hx hs h
   · exact h.elim
 · rename_i c
   obtain ⟨callee, ⟨xs⟩, ⟨ts⟩⟩ := c
   split at h
   · rename_i b hb
     dsimp only at hb
     subst hb
     exact blT_ok h
   · exact h.elim
 · exact h.elim
end
structure FrOk (β : Nat -> Nat) (n : Nat) (fr : List (Nat × Nat × SV)) (D : List Deferred) (a : Act) : Prop where
 sz : a.tmps.size = n
 df : a.defers = D
 at_ : ∀ i p, lookS fr i = some p -> i < n -> a.tmps[i]? = some (val β p.2)
theorem frok_of {β : Nat -> Nat} {n : Nat} {fr : List (Nat × Nat × SV)} {D : List Deferred} {a : Act} (h : FrOk β n fr D a) : ∃ us, a = frD n us (cv β fr) D := by
 refine ⟨fun i => (a.tmps[i]?).getD undef, ?_⟩
 obtain ⟨tmps, df⟩ := a
 obtain ⟨h1, h2, h3⟩ := h
 dsimp only at h1 h2 h3
 subst h2
 unfold frD
 congr 1
 apply Array.ext'
 apply List.ext_getElem?
 intro i
 rw [List.toList_toArray]
 by_cases hi : i < n
 · rw [tab_get _ _ _ _ _ hi, Nat.zero_add]
   cases hl : lookS fr i with
   | none =>
    rw [look_no (l := cv β fr) (by rw [lookO_cv, hl]; rfl)]
    have : i < tmps.size := by omega
    simp [this]
   | some p =>
    rw [look_of (l := cv β fr) (v := val β p.2) (by rw [lookO_cv, hl]; rfl)]
    have := h3 i p hl hi
    simpa using this
 · rw [List.getElem?_eq_none (by simp; omega), List.getElem?_eq_none (by rw [tab_len]; exact Nat.le_of_not_lt hi)]
theorem frok_to {β : Nat -> Nat} {n : Nat} {fr : List (Nat × Nat × SV)} {D : List Deferred} {us : Nat -> Value} : FrOk β n fr D (frD n us (cv β fr) D) := by
 refine ⟨by simp [frD, tab_len], rfl, fun i p hl hi => ?_⟩
 simp only [frD, List.getElem?_toArray]
 rw [tab_get _ _ _ _ _ hi, Nat.zero_add, look_of (l := cv β fr) (v := val β p.2) (by rw [lookO_cv, hl]; rfl)]
theorem Rep.ok {β : Nat -> Nat} {st : St} {a : Act} {w : World} (h : Rep β st a w) : FrOk β st.n st.fr (dfs st.df) a := by
 obtain ⟨us, rfl⟩ := h.fr
 exact frok_to
def tst (st : St) (ops : List Oper) (j : Nat) : Option (Nat × SV) := match nthO ops j with
 | some o => (match o.dst with
  | some d => (st.get d).map fun s => (d, s)
  | none => none)
 | none => none
theorem tst_ok {st : St} {ops : List Oper} {j d : Nat} {s : SV} (h : tst st ops j = some (d, s)) : ∃ oj, nthO ops j = some oj /\ oj.dst = some d /\ st.get d = some s := by
 unfold tst at h
 split at h
 · rename_i o ho
   split at h
   · rename_i e he
     cases hg : st.get e with
     | none => rw [hg] at h; cases h
     | some u =>
      rw [hg] at h
      simp only [Option.map_some, Option.some.injEq, Prod.mk.injEq] at h
      obtain ⟨rfl, rfl⟩ := h
      exact ⟨o, ho, he, hg⟩
   · cases h
 · cases h
section
variable {β : Nat -> Nat} {st : St} {a : Act} {w : World} {ops : List Oper} {o : Oper} {j d : Nat} {want b : Bool}
theorem wanted_bl (hR : Rep β st a w) (hg : o.guard = some (j, want)) {s : SV} (ht : tst st ops j = some (d, s)) (hs : val β s = .bool b) : Region.wanted o (yielded ops.toArray a.tmps) = (b == want) := by
 obtain ⟨oj, h1, h2, h3⟩ := tst_ok ht
 obtain ⟨us, rfl⟩ := hR.fr
 show Region.wanted o (yielded ops.toArray (Kt.fr st.n us (cv β st.fr)).tmps) = _
 exact wtF hg h1 h2 (by rw [<- hs]; exact St.evO β h3) rfl
theorem wanted_un (hR : Rep β st a w) (hg : o.guard = some (j, want)) (ht : tst st ops j = some (d, .un)) : Region.wanted o (yielded ops.toArray a.tmps) = false := by
 obtain ⟨oj, h1, h2, h3⟩ := tst_ok ht
 obtain ⟨us, rfl⟩ := hR.fr
 show Region.wanted o (yielded ops.toArray (Kt.fr st.n us (cv β st.fr)).tmps) = _
 exact wuF hg h1 h2 (St.evO β (x := .tmp d) (s := .un) h3)
theorem Rep.set (hR : Rep β st a w) {s s' : SV} (hg : st.get d = some s) (hv : val β s = val β s') : Rep β (st.put (some d) s') a w := by
 refine ⟨frok_of ⟨hR.ok.sz, hR.ok.df, fun i p hl hi => ?_⟩, hR.bx, hR.ne, hR.only, hR.still⟩
 simp only [St.put, lookS] at hl
 cases hb : Nat.beq d i with
 | true =>
  rw [hb] at hl
  simp only [cond_true, Option.some.injEq] at hl
  subst hl
  have := Nat.eq_of_beq_eq_true hb
  subst this
  unfold St.get at hg
  cases hlt : Nat.blt d st.n with
  | false => rw [hlt] at hg; cases hg
  | true =>
   rw [hlt, cond_true] at hg
   cases hq : lookS st.fr d with
   | none => rw [hq] at hg; cases hg
   | some q =>
    rw [hq] at hg
    simp only [Option.map_some, Option.some.injEq] at hg
    rw [hR.ok.at_ d q hq hi, hg, hv]
 | false => rw [hb] at hl; exact hR.ok.at_ i p (by simpa using hl) hi
end
section
variable {P : Program} {ops : List Oper} {w : World}
def Goes (P : Program) (ops : List Oper) (w : World) : List Oper -> Act -> Act -> Prop
 | [], a, a' => a' = a
 | o :: r, a, a' => (Region.wanted o (yielded ops.toArray a.tmps) = true /\ ∃ v, (∀ w' : World, w'.heap = w.heap -> (execOp a.eval o).run P w' = .ok (.value v) w') /\ Goes P ops w r (a.put o.dst v) a') ∨
   (Region.wanted o (yielded ops.toArray a.tmps) = false /\ Goes P ops w r (a.put o.dst undef) a')
theorem goes_app : ∀ {l m : List Oper} {a b c : Act}, Goes P ops w l a b -> Goes P ops w m b c -> Goes P ops w (l ++ m) a c
 | [], _, _, _, _, h, k => by
  have h : _ = _ := h
  subst h; exact k
 | o :: r, m, a, b, c, h, k => by
  rcases h with ⟨h1, v, h2, h3⟩ | ⟨h1, h3⟩
  · exact .inl ⟨h1, v, h2, goes_app (l := r) h3 k⟩
  · exact .inr ⟨h1, goes_app (l := r) h3 k⟩
theorem goes_wp {Q : Exit -> Act -> World -> Prop} : ∀ {l rest : List Oper} {a a' : Act}, Goes P ops w l a a' -> wpList P ops.toArray Q rest a' w -> wpList P ops.toArray Q (l ++ rest) a w
 | [], _, _, _, h, k => by
  have h : _ = _ := h
  subst h; exact k
 | o :: r, m, a, b, h, k => by
  rcases h with ⟨h1, v, h2, h3⟩ | ⟨h1, h3⟩
  · exact st_val v h1 (h2 w rfl) rfl (goes_wp (l := r) h3 k)
  · exact st_no h1 rfl (goes_wp (l := r) h3 k)
theorem goes_q {Q : Act -> Prop} : ∀ {l rest : List Oper} {a a' : Act}, Goes P ops w l a a' -> wpQuiet P ops.toArray (fun w' => ∃ n, w' = w.drewN n) Q rest a' -> wpQuiet P ops.toArray (fun w' => ∃ n, w' = w.drewN n) Q (l ++ rest) a
 | [], _, _, _, h, k => by
  have h : _ = _ := h
  subst h; exact k
 | o :: r, m, a, b, h, k => by
  rcases h with ⟨h1, v, h2, h3⟩ | ⟨h1, h3⟩
  · exact q_val v h1 (by rintro _ ⟨n, rfl⟩; exact h2 _ rfl) rfl (goes_q (l := r) h3 k)
  · exact q_no h1 rfl (goes_q (l := r) h3 k)
def dsts : List Oper -> List Nat
 | [] => []
 | o :: r => match o.dst with
  | some d => d :: dsts r
  | none => dsts r
theorem put_tmps (a : Act) (d : Option Tmp) (v : Value) : (a.put d v).tmps.size = a.tmps.size /\ (a.put d v).defers = a.defers /\ ∀ i, d ≠ some i -> (a.put d v).tmps[i]? = a.tmps[i]? := by
 cases d with
 | none => exact ⟨rfl, rfl, fun _ _ => rfl⟩
 | some k =>
  refine ⟨by simp [Act.put], rfl, fun i hi => ?_⟩
  simp only [Act.put]
  rw [Array.getElem?_setIfInBounds_ne (fun e => hi (by rw [e]))]
theorem goes_frame : ∀ {l : List Oper} {a a' : Act}, Goes P ops w l a a' -> a'.tmps.size = a.tmps.size /\ a'.defers = a.defers /\ ∀ i, (dsts l).elem i = false -> a'.tmps[i]? = a.tmps[i]?
 | [], _, _, h => by
  have h : _ = _ := h
  subst h; exact ⟨rfl, rfl, fun _ _ => rfl⟩
 | o :: r, a, b, h => by
  have key : ∀ v, Goes P ops w r (a.put o.dst v) b -> b.tmps.size = a.tmps.size /\ b.defers = a.defers /\ ∀ i, (dsts (o :: r)).elem i = false -> b.tmps[i]? = a.tmps[i]? := fun v h3 => by
   obtain ⟨k1, k2, k3⟩ := goes_frame h3
   obtain ⟨p1, p2, p3⟩ := put_tmps a o.dst v
   refine ⟨k1.trans p1, k2.trans p2, fun i hi => ?_⟩
   cases hd : o.dst with
   | none =>
    simp only [dsts, hd] at hi
    rw [k3 i hi, p3 i (by rw [hd]; simp)]
   | some d =>
    simp only [dsts, hd, List.elem_cons] at hi
    split at hi
    · cases hi
    · rename_i hne
      rw [k3 i hi, p3 i (by rw [hd]; intro e; simp only [Option.some.injEq] at e; subst e; simp at hne)]
  rcases h with ⟨h1, v, h2, h3⟩ | ⟨h1, h3⟩
  · exact key v h3
  · exact key _ h3
end
def inCh (ops : List Oper) : Nat -> Nat -> Nat -> Bool
 | 0, _, _ => false
 | f + 1, q, j => bif Nat.beq q j then true else match nthO ops q with
  | some o => (match o.guard with
   | some (r, _) => inCh ops f r j
   | none => false)
  | none => false
def cntG (ops : List Oper) (j : Nat) : List Oper -> Nat
 | [] => 0
 | o :: r => match o.guard with
  | some (q, _) => bif inCh ops 50 q j then cntG ops j r + 1 else 0
  | none => 0
def mrg (t : Bool) (a b : SV) : Option SV := match a, b with
 | .bl true, .bl false => some (.bt t)
 | .bl true, .bt y => some (.bt (t || y))
 | .bt x, .bl false => some (.bt (t && x))
 | .bl false, .bl true => some (.bt (!t))
 | .bl false, .bt y => some (.bt (!t && y))
 | .bt x, .bl true => some (.bt (!t || x))
 | .bt x, .bt y => some (.bt (bif t then x else y))
 | .bl true, .bl true => some (.bl true)
 | .bl false, .bl false => some (.bl false)
 | _, _ => none
theorem mrg_ok {t : Bool} {a b v : SV} (h : mrg t a b = some v) (β : Nat -> Nat) : (t = true -> val β v = val β a) /\ (t = false -> val β v = val β b) := by
 unfold mrg at h
 split at h <;> simp only [Option.some.injEq, reduceCtorEq] at h <;> subst h <;> refine ⟨fun e => ?_, fun e => ?_⟩ <;> subst e <;> simp [val, cvs]
def dropS (ds : List Nat) : List (Nat × Nat × SV) -> List (Nat × Nat × SV)
 | [] => []
 | p :: r => bif ds.elem p.1 then dropS ds r else p :: dropS ds r
theorem lookS_drop {ds : List Nat} : ∀ {l : List (Nat × Nat × SV)} {i : Nat}, (ds.elem i = true -> lookS (dropS ds l) i = none) /\ (ds.elem i = false -> lookS (dropS ds l) i = lookS l i)
 | [], i => ⟨fun _ => rfl, fun _ => rfl⟩
 | (k, p) :: r, i => by
  obtain ⟨h1, h2⟩ := lookS_drop (ds := ds) (l := r) (i := i)
  simp only [dropS]
  cases hk : ds.elem k with
  | true =>
   simp only [cond_true]
   refine ⟨h1, fun hi => ?_⟩
   rw [h2 hi]
   simp only [lookS]
   cases hb : Nat.beq k i with
   | true => have := Nat.eq_of_beq_eq_true hb; subst this; rw [hi] at hk; cases hk
   | false => rfl
  | false =>
   simp only [cond_false, lookS]
   cases hb : Nat.beq k i with
   | true =>
    have := Nat.eq_of_beq_eq_true hb
    subst this
    exact ⟨fun hi => (by rw [hi] at hk; cases hk), fun _ => rfl⟩
   | false => exact ⟨h1, h2⟩
def St.dropD (st : St) (ds : List Nat) : St := { st with fr := dropS ds st.fr }
theorem Ext.dropD (st : St) (ds : List Nat) : Ext st (st.dropD ds) :=
 ⟨rfl, Nat.le_refl _, fun i k v hl _ => by
  cases he : ds.elem i with
  | true => rw [show lookS (st.dropD ds).fr i = none from (lookS_drop (l := st.fr)).1 he] at hl; cases hl
  | false => rw [show lookS (st.dropD ds).fr i = lookS st.fr i from (lookS_drop (l := st.fr)).2 he] at hl; exact hl, fun i b h ho _ => ⟨b, h, ho, rfl, rfl, rfl, fun _ h => h⟩, psr, dfr⟩
structure Alike (s t : St) : Prop where
 bx : t.bx = s.bx
 w0 : t.w0 = s.w0
 mv : t.mv = s.mv
 dt : t.dt = s.dt
 n : t.n = s.n
 df : t.df = s.df
theorem Alike.refl (s : St) : Alike s s := ⟨rfl, rfl, rfl, rfl, rfl, rfl⟩
theorem Alike.trans {s t u : St} (h : Alike s t) (k : Alike t u) : Alike s u := ⟨k.bx.trans h.bx, k.w0.trans h.w0, k.mv.trans h.mv, k.dt.trans h.dt, k.n.trans h.n, k.df.trans h.df⟩
theorem Alike.put (s : St) (d : Option Tmp) (v : SV) : Alike s (s.put d v) := by cases d <;> exact ⟨rfl, rfl, rfl, rfl, rfl, rfl⟩
theorem Rep.alike {β : Nat -> Nat} {s t : St} {a a' : Act} {w : World} (h : Rep β s a w) (k : Alike s t) (hf : FrOk β t.n t.fr (dfs t.df) a') : Rep β t a' w := by
 obtain ⟨k1, k2, k3, k4, k5, k6⟩ := k
 refine ⟨frok_of hf, fun i b hb ho => ?_, fun i j bi bj h1 h2 h3 h4 => ?_, ?_, fun hm => ?_⟩
 · rw [k1] at hb
   obtain ⟨g1, g2, g3⟩ := h.bx i b hb ho
   exact ⟨g1, g2, fun e => by rw [k2]; exact g3 e⟩
 · rw [k1] at h1 h2
   exact h.ne i j bi bj h1 h2 h3 h4
 · rw [k2, k4]; exact h.only
 · rw [k2]; exact h.still (by rw [<- k3]; exact hm)
def seqP (P : Program) (ops : List Oper) : Nat -> List (Bool × Bool) -> List Oper -> St -> (St -> Prop) -> Prop
 | 0, _, _, _, _ => False
 | _ + 1, _, [], st, K => K st
 | f + 1, gs, o :: rest, st, K => match o.guard with
  | none => pur P gs st o.op fun v => seqP P ops f gs rest (st.put o.dst v) K
  | some (j, want) => (match tst st ops j with
   | some (_, .un) => seqP P ops f gs rest (st.put o.dst .un) K
   | some (_, .bl b) => bif b == want then pur P gs st o.op fun v => seqP P ops f gs rest (st.put o.dst v) K else seqP P ops f gs rest (st.put o.dst .un) K
   | some (d, .bt t) => (match (o :: rest)[cntG ops j (o :: rest)]? with
    | some pk => (match pk.dst with
     | some k =>
      seqP P ops f (gs ++ [(t, true)]) ((o :: rest).take (cntG ops j (o :: rest) + 1)) (st.put (some d) (.bl true)) fun sa =>
      elimO (sa.get k) fun va =>
      seqP P ops f (gs ++ [(t, false)]) ((o :: rest).take (cntG ops j (o :: rest) + 1)) (st.put (some d) (.bl false)) fun sb =>
      elimO (sb.get k) fun vb =>
      elimO (mrg t va vb) fun v =>
      seqP P ops f gs ((o :: rest).drop (cntG ops j (o :: rest) + 1)) ((st.dropD (dsts ((o :: rest).take (cntG ops j (o :: rest) + 1)))).put (some k) v) K
     | none => False)
    | none => False)
   | _ => False)
theorem gh_app : ∀ {gs : List (Bool × Bool)} {t b : Bool}, gh gs -> t = b -> gh (gs ++ [(t, b)])
 | [], _, _, _, h => ⟨h, trivial⟩
 | (_, _) :: r, _, _, h, k => ⟨h.1, gh_app (gs := r) h.2 k⟩
theorem seqP_ok {P : Program} {ops : List Oper} : ∀ {f : Nat} {gs : List (Bool × Bool)} {l : List Oper} {st : St} {K : St -> Prop}, seqP P ops f gs l st K ->
  ∃ st', K st' /\ Ext st st' /\ Alike st st' /\ (gh gs -> ∀ β a w, Rep β st a w -> ∃ a', Goes P ops w l a a' /\ Rep β st' a' w)
 | 0, _, _, _, _, h => h.elim
 | _ + 1, gs, [], st, K, h => ⟨st, h, Ext.refl _, Alike.refl _, fun _ β a w hR => ⟨a, rfl, hR⟩⟩
 | f + 1, gs, o :: rest, st, K, h => by
  have one : (Region.wanted o = fun _ => true) ∨ True -> ∀ {K : St -> Prop}, (pur P gs st o.op fun v => seqP P ops f gs rest (st.put o.dst v) K) ->
    (gh gs -> ∀ β a w, Rep β st a w -> Region.wanted o (yielded ops.toArray a.tmps) = true) ->
    ∃ st', K st' /\ Ext st st' /\ Alike st st' /\ (gh gs -> ∀ β a w, Rep β st a w -> ∃ a', Goes P ops w (o :: rest) a a' /\ Rep β st' a' w) := fun _ K h hw => by
   obtain ⟨v, h1, hy⟩ := pur_ok h
   obtain ⟨st', k1, k2, k3, k4⟩ := seqP_ok h1
   refine ⟨st', k1, (Ext.put _ _ _).trans k2, (Alike.put _ _ _).trans k3, fun hg β a w hR => ?_⟩
   obtain ⟨a', g1, g2⟩ := k4 hg β _ w (hR.put o.dst v)
   exact ⟨a', .inl ⟨hw hg β a w hR, _, fun w' hh => hy hg β a w hR _ _ _ _ _ w' fun _ => hh, g1⟩, g2⟩
  have no : ∀ {K : St -> Prop}, seqP P ops f gs rest (st.put o.dst .un) K -> (gh gs -> ∀ β a w, Rep β st a w -> Region.wanted o (yielded ops.toArray a.tmps) = false) ->
    ∃ st', K st' /\ Ext st st' /\ Alike st st' /\ (gh gs -> ∀ β a w, Rep β st a w -> ∃ a', Goes P ops w (o :: rest) a a' /\ Rep β st' a' w) := fun h1 hw => by
   obtain ⟨st', k1, k2, k3, k4⟩ := seqP_ok h1
   refine ⟨st', k1, (Ext.put _ _ _).trans k2, (Alike.put _ _ _).trans k3, fun hg β a w hR => ?_⟩
   obtain ⟨a', g1, g2⟩ := k4 hg β _ w (hR.put o.dst .un)
   exact ⟨a', .inr ⟨hw hg β a w hR, g1⟩, g2⟩
  unfold seqP at h
  split at h
  · rename_i hg0
    exact one (.inr trivial) h fun _ β a w hR => wn hg0
  · rename_i j want hg0
    split at h
    · rename_i d ht
      exact no h fun _ β a w hR => wanted_un hR hg0 ht
    · rename_i d b ht
      cases hb : (b == want) with
      | true =>
       rw [hb] at h
       exact one (.inr trivial) h fun _ β a w hR => by rw [wanted_bl hR hg0 ht (b := b) rfl, hb]
      | false =>
       rw [hb] at h
       exact no h fun _ β a w hR => by rw [wanted_bl hR hg0 ht (b := b) rfl, hb]
    · rename_i d t ht
      obtain ⟨oj, hj1, hj2, hj3⟩ := tst_ok ht
      split at h
      · rename_i pk hpk
        split at h
        · rename_i k hk
          generalize cntG ops j (o :: rest) = m at h hpk
          obtain ⟨sa, ha, ea1, ea2, ea3⟩ := seqP_ok h
          obtain ⟨va, hva, ha⟩ := elimO_ex ha
          obtain ⟨sb, hb, eb1, eb2, eb3⟩ := seqP_ok ha
          obtain ⟨vb, hvb, hb⟩ := elimO_ex hb
          obtain ⟨v, hv, hb⟩ := elimO_ex hb
          obtain ⟨st', k1, k2, k3, k4⟩ := seqP_ok hb
          refine ⟨st', k1, ((Ext.dropD _ _).trans (Ext.put _ _ _)).trans k2, ((⟨rfl, rfl, rfl, rfl, rfl, rfl⟩ : Alike st (st.dropD _)).trans (Alike.put _ _ _)).trans k3, fun hg β a w hR => ?_⟩
          have fin : ∀ (s : SV) (u : St) (x : SV), Rep β u a w -> (∃ a', Goes P ops w ((o :: rest).take (m + 1)) a a' /\ ∃ u', Rep β u' a' w /\ u'.n = st.n /\ u'.get k = some x /\ val β v = val β x) -> ∃ a', Goes P ops w (o :: rest) a a' /\ Rep β st' a' w := by
           rintro s u x hu ⟨a1, g1, u', r1, r2, r3, r4⟩
           obtain ⟨f1, f2, f3⟩ := goes_frame g1
           have hR1 : Rep β ((st.dropD (dsts ((o :: rest).take (m + 1)))).put (some k) v) a1 w := by
            refine hR.alike ((⟨rfl, rfl, rfl, rfl, rfl, rfl⟩ : Alike st (st.dropD _)).trans (Alike.put _ _ _)) ⟨f1.trans hR.ok.sz, f2.trans hR.ok.df, fun i p hl hi => ?_⟩
            simp only [St.put, lookS] at hl
            cases hbk : Nat.beq k i with
            | true =>
             rw [hbk] at hl
             simp only [cond_true, Option.some.injEq] at hl
             subst hl
             have := Nat.eq_of_beq_eq_true hbk
             subst this
             have e := r1.get r3
             show a1.tmps[k]? = some (val β v)
             rw [r4, <- e]
             have hs : k < a1.tmps.size := by rw [f1, hR.ok.sz]; exact hi
             simp [Act.eval, hs]
            | false =>
             rw [hbk] at hl
             simp only [cond_false] at hl
             cases he : (dsts ((o :: rest).take (m + 1))).elem i with
             | true => rw [show lookS (st.dropD _).fr i = none from (lookS_drop (l := st.fr)).1 he] at hl; cases hl
             | false =>
              rw [show lookS (st.dropD _).fr i = lookS st.fr i from (lookS_drop (l := st.fr)).2 he] at hl
              rw [f3 i he]
              exact hR.ok.at_ i p hl hi
           obtain ⟨a2, g2, g3⟩ := k4 hg β a1 w hR1
           refine ⟨a2, ?_, g3⟩
           have := goes_app g1 g2
           rwa [List.take_append_drop] at this
          cases t with
          | true =>
           have hu : Rep β (st.put (some d) (.bl true)) a w := hR.set hj3 rfl
           obtain ⟨a1, g1, g2⟩ := ea3 (gh_app hg rfl) β a w hu
           exact fin (.bl true) _ va hu ⟨a1, g1, sa, g2, ea2.n.trans rfl, hva, (mrg_ok hv β).1 rfl⟩
          | false =>
           have hu : Rep β (st.put (some d) (.bl false)) a w := hR.set hj3 rfl
           obtain ⟨a1, g1, g2⟩ := eb3 (gh_app hg rfl) β a w hu
           exact fin (.bl false) _ vb hu ⟨a1, g1, sb, g2, eb2.n.trans rfl, hvb, (mrg_ok hv β).2 rfl⟩
        · exact h.elim
      · exact h.elim
    · exact h.elim
theorem nthB_app : ∀ (l : List Box) (b : Box) (i : Nat), nthB (l ++ [b]) i = if i = l.length then some b else nthB l i
 | [], b, 0 => rfl
 | [], b, i + 1 => by simp [nthB]
 | a :: r, b, 0 => rfl
 | a :: r, b, i + 1 => by
  simp only [List.cons_append, nthB, List.length_cons, Nat.add_right_cancel_iff]
  exact nthB_app r b i
theorem nthB_lt : ∀ {l : List Box} {i : Nat} {b : Box}, nthB l i = some b -> i < l.length
 | a :: r, 0, _, _ => by simp
 | a :: r, i + 1, b, h => by simp only [nthB] at h; have := nthB_lt h; simp; omega
theorem nthB_set : ∀ {l : List Box} {i : Nat} {b c : Box}, nthB l i = some b -> ∀ j, nthB (setB l i c) j = if j = i then some c else nthB l j
 | a :: r, 0, b, c, _, 0 => rfl
 | a :: r, 0, b, c, _, j + 1 => by simp [setB, nthB]
 | a :: r, i + 1, b, c, h, 0 => by simp [setB, nthB]
 | a :: r, i + 1, b, c, h, j + 1 => by
  simp only [nthB] at h
  simp only [setB, nthB, Nat.add_right_cancel_iff]
  exact nthB_set h j
theorem bif2 {b : Bool} {p q : Prop} (h : bif b then p else q) : (b = true /\ p) ∨ (b = false /\ q) := by
 cases b with
 | true => exact .inl ⟨rfl, h⟩
 | false => exact .inr ⟨rfl, h⟩
def blB (bx : List Box) (i : Nat) : Nat := match nthB bx i with
 | some b => b.blk.getD 0
 | none => 0
def clB (bx : List Box) (i : Nat) : Bool := match nthB bx i with
 | some b => b.ok && b.blk.isSome
 | none => false
abbrev St.bl (st : St) (i : Nat) : Nat := blB st.bx i
abbrev St.clg (st : St) (i : Nat) : Bool := clB st.bx i
theorem Rep.bl {β : Nat -> Nat} {st : St} {a : Act} {w : World} (h : Rep β st a w) (i : Nat) (hg : st.clg i = true) : st.bl i = β i := by
 unfold St.clg clB at hg
 unfold St.bl blB
 cases hb : nthB st.bx i with
 | none => rw [hb] at hg; cases hg
 | some b =>
  rw [hb] at hg
  simp only [Bool.and_eq_true] at hg
  cases hk : b.blk with
  | none => rw [hk] at hg; cases hg.2
  | some k =>
   have := (h.bx i b hb hg.1).at_ k hk
   simp [hk, this]
theorem Rep.valsE {β : Nat -> Nat} {st : St} {a : Act} {w : World} (h : Rep β st a w) {l : List SV} (hc : clns st.clg l = true) : vals st.bl l = vals β l := vals_congr (g := st.clg) h.bl l hc
theorem Rep.valE {β : Nat -> Nat} {st : St} {a : Act} {w : World} (h : Rep β st a w) {s : SV} (hc : cln st.clg s = true) : val st.bl s = val β s := val_congr (g := st.clg) h.bl s hc
def bindB : List Box -> (List Box -> Prop) -> Prop
 | [], K => K []
 | b :: r, K => match b.ok, b.blk with
  | true, none => ∀ k : Nat, bindB r fun r' => K ({ b with blk := some k } :: r')
  | _, _ => bindB r fun r' => K (b :: r')
def bnd1 (k : Nat) (b : Box) : Box := match b.ok, b.blk with
 | true, none => { b with blk := some k }
 | _, _ => b
def bindW (β : Nat -> Nat) : Nat -> List Box -> List Box
 | _, [] => []
 | n, b :: r => bnd1 (β n) b :: bindW β (n + 1) r
theorem bindB_ok (β : Nat -> Nat) : ∀ {bs : List Box} (n : Nat) {K : List Box -> Prop}, bindB bs K -> K (bindW β n bs)
 | [], _, _, h => h
 | b :: r, n, K, h => by
  unfold bindB at h
  unfold bindW
  split at h
  · rename_i h1 h2
    have := bindB_ok β (n + 1) (h (β n))
    have e : bnd1 (β n) b = { b with blk := some (β n) } := by unfold bnd1; split <;> simp_all
    rw [e]
    exact this
  · rename_i h1
    have := bindB_ok β (n + 1) h
    have e : bnd1 (β n) b = b := by
     unfold bnd1
     split
     · rename_i e1 e2; exact absurd e2 (fun e2 => h1 e1 e2)
     · rfl
    rw [e]
    exact this
theorem nthB_bindW (β : Nat -> Nat) : ∀ (bs : List Box) (n i : Nat), nthB (bindW β n bs) i = (nthB bs i).map (bnd1 (β (n + i)))
 | [], _, _ => rfl
 | b :: r, n, 0 => rfl
 | b :: r, n, i + 1 => by
  simp only [bindW, nthB]
  rw [nthB_bindW β r (n + 1) i, show n + 1 + i = n + (i + 1) by omega]
def condB (w0 w : World) : List Box -> List Box -> Prop -> Prop
 | b :: r, b' :: r', p => match b.ok, b.blk with
  | true, none => w0.heap.size <= b'.blk.getD 0 -> b'.blk.getD 0 < w.heap.size -> condB w0 w r r' p
  | _, _ => condB w0 w r r' p
 | _, _, p => p
theorem condB_ok {β : Nat -> Nat} {w0 w : World} : ∀ {bs : List Box} (n : Nat) {p : Prop}, condB w0 w bs (bindW β n bs) p -> (∀ i b, nthB bs i = some b -> b.ok = true -> b.blk = none -> w0.heap.size <= β (n + i) /\ β (n + i) < w.heap.size) -> p
 | [], _, _, h, _ => h
 | b :: r, n, p, h, hb => by
  simp only [bindW] at h
  unfold condB at h
  split at h
  · rename_i h1 h2
    obtain ⟨e1, e2⟩ := hb 0 b rfl h1 h2
    have e : (bnd1 (β n) b).blk.getD 0 = β n := by unfold bnd1; rw [h1, h2]; rfl
    rw [e] at h
    exact condB_ok (n + 1) (h e1 e2) fun i c hc => by have := hb (i + 1) c hc; rwa [show n + (i + 1) = n + 1 + i by omega] at this
  · exact condB_ok (n + 1) h fun i c hc => by have := hb (i + 1) c hc; rwa [show n + (i + 1) = n + 1 + i by omega] at this
def shB (g : Nat -> Bool) (bl : Nat -> Nat) (w : World) (all : Bool) : List Box -> Prop -> Prop
 | [], p => p
 | b :: r, p => bif b.ok && b.blk.isSome && b.esc && (all || !b.sh) && clns g b.cells then Blk w (b.blk.getD 0) b.ty (vals bl b.cells) -> shB g bl w all r p else shB g bl w all r p
theorem shB_ok {g : Nat -> Bool} {bl : Nat -> Nat} {w : World} {all : Bool} : ∀ {bs : List Box} {p : Prop}, shB g bl w all bs p -> (∀ i b, nthB bs i = some b -> b.ok = true -> b.blk.isSome = true -> clns g b.cells = true -> Blk w (b.blk.getD 0) b.ty (vals bl b.cells)) -> p
 | [], _, h, _ => h
 | b :: r, p, h, hb => by
  unfold shB at h
  cases hc : (b.ok && b.blk.isSome && b.esc && (all || !b.sh) && clns g b.cells) with
  | true =>
   rw [hc] at h
   simp only [Bool.and_eq_true] at hc
   exact shB_ok (h (hb 0 b rfl hc.1.1.1.1 hc.1.1.1.2 hc.2)) fun i c hi => hb (i + 1) c hi
  | false =>
   rw [hc] at h
   exact shB_ok h fun i c hi => hb (i + 1) c hi
def markB : List Box -> List Box
 | [] => []
 | b :: r => { b with sh := b.esc } :: markB r
theorem nthB_mark : ∀ (l : List Box) (i : Nat), nthB (markB l) i = (nthB l i).map fun b => { b with sh := b.esc }
 | [], _ => rfl
 | b :: r, 0 => rfl
 | b :: r, i + 1 => nthB_mark r i
def allOk (bs : List Box) : List Nat -> Bool
 | [] => true
 | i :: r => (match nthB bs i with
  | some b => b.ok
  | none => false) && allOk bs r
theorem allOk_mem {bs : List Box} : ∀ {l : List Nat}, allOk bs l = true -> ∀ i ∈ l, ∃ b, nthB bs i = some b /\ b.ok = true
 | i :: r, h, j, hj => by
  simp only [allOk, Bool.and_eq_true] at h
  rcases List.mem_cons.1 hj with rfl | hj
  · split at h
    · rename_i b hb; exact ⟨b, hb, h.1⟩
    · cases h.1
  · exact allOk_mem h.2 j hj
def newK : List Box -> List Box -> List (Nat × Bool)
 | b :: r, b' :: r' => bif b.ok && b.blk.isNone then (b'.blk.getD 0, b.esc) :: newK r r' else newK r r'
 | _, _ => []
def neE1 (k : Nat) : List (Nat × Bool) -> Prop -> Prop
 | [], p => p
 | x :: r, p => bif x.2 then neE1 k r p else (x.1 ≠ k -> neE1 k r p)
def neE2 (all : List (Nat × Bool)) : List (Nat × Bool) -> Prop -> Prop
 | [], p => p
 | x :: r, p => bif x.2 then neE1 x.1 all (neE2 all r p) else neE2 all r p
theorem neE1_ok {k : Nat} : ∀ {l : List (Nat × Bool)} {p : Prop}, neE1 k l p -> (∀ y, y ∈ l -> y.2 = false -> y.1 ≠ k) -> p
 | [], _, h, _ => h
 | x :: r, p, h, hd => by
  unfold neE1 at h
  cases hx : x.2 with
  | true => rw [hx] at h; exact neE1_ok h fun y hy => hd y (List.mem_cons_of_mem _ hy)
  | false => rw [hx] at h; exact neE1_ok (h (hd x List.mem_cons_self hx)) fun y hy => hd y (List.mem_cons_of_mem _ hy)
theorem neE2_ok {all : List (Nat × Bool)} : ∀ {l : List (Nat × Bool)} {p : Prop}, neE2 all l p -> (∀ x, x ∈ l -> x.2 = true -> ∀ y, y ∈ all -> y.2 = false -> y.1 ≠ x.1) -> p
 | [], _, h, _ => h
 | x :: r, p, h, hd => by
  unfold neE2 at h
  cases hx : x.2 with
  | true => rw [hx] at h; exact neE2_ok (neE1_ok h fun y hy hf => hd x List.mem_cons_self hx y hy hf) fun z hz => hd z (List.mem_cons_of_mem _ hz)
  | false => rw [hx] at h; exact neE2_ok h fun z hz => hd z (List.mem_cons_of_mem _ hz)
theorem newK_mem {β : Nat -> Nat} : ∀ {bs : List Box} (n : Nat) {x : Nat × Bool}, x ∈ newK bs (bindW β n bs) -> ∃ i b, nthB bs i = some b /\ b.ok = true /\ x = (β (n + i), b.esc)
 | [], _, _, h => by cases h
 | b :: r, n, x, h => by
  simp only [bindW, newK] at h
  cases hc : (b.ok && b.blk.isNone) with
  | true =>
   rw [hc] at h
   simp only [Bool.and_eq_true, Option.isNone_iff_eq_none] at hc
   rcases List.mem_cons.1 h with rfl | h
   · refine ⟨0, b, rfl, hc.1, ?_⟩
     have : (bnd1 (β n) b).blk.getD 0 = β n := by unfold bnd1; rw [hc.1, hc.2]; rfl
     rw [this]; rfl
   · obtain ⟨i, c, h1, h2, h3⟩ := newK_mem (n + 1) h
     exact ⟨i + 1, c, h1, h2, by rw [h3, show n + 1 + i = n + (i + 1) by omega]⟩
  | false =>
   rw [hc] at h
   obtain ⟨i, c, h1, h2, h3⟩ := newK_mem (n + 1) h
   exact ⟨i + 1, c, h1, h2, by rw [h3, show n + 1 + i = n + (i + 1) by omega]⟩
def lateK : List Box -> List Nat
 | [] => []
 | b :: r => bif b.ok && b.blk.isSome && b.esc && !b.sh then b.blk.getD 0 :: lateK r else lateK r
def mineK : List Box -> List Nat
 | [] => []
 | b :: r => bif b.ok && b.blk.isSome && !b.esc then b.blk.getD 0 :: mineK r else mineK r
def neL1 (k : Nat) : List Nat -> Prop -> Prop
 | [], p => p
 | x :: r, p => x ≠ k -> neL1 k r p
def neL2 (mine : List Nat) : List Nat -> Prop -> Prop
 | [], p => p
 | k :: r, p => neL1 k mine (neL2 mine r p)
theorem neL1_ok {k : Nat} : ∀ {l : List Nat} {p : Prop}, neL1 k l p -> (∀ y, y ∈ l -> y ≠ k) -> p
 | [], _, h, _ => h
 | x :: r, p, h, hd => neL1_ok (h (hd x List.mem_cons_self)) fun y hy => hd y (List.mem_cons_of_mem _ hy)
theorem neL2_ok {mine : List Nat} : ∀ {l : List Nat} {p : Prop}, neL2 mine l p -> (∀ k, k ∈ l -> ∀ y, y ∈ mine -> y ≠ k) -> p
 | [], _, h, _ => h
 | k :: r, p, h, hd => neL2_ok (neL1_ok h fun y hy => hd k List.mem_cons_self y hy) fun z hz => hd z (List.mem_cons_of_mem _ hz)
theorem lateK_mem : ∀ {bs : List Box} {x : Nat}, x ∈ lateK bs -> ∃ i b, nthB bs i = some b /\ b.ok = true /\ b.esc = true /\ b.blk = some x
 | [], _, h => by cases h
 | b :: r, x, h => by
  simp only [lateK] at h
  cases hc : (b.ok && b.blk.isSome && b.esc && !b.sh) with
  | true =>
   rw [hc] at h
   simp only [Bool.and_eq_true] at hc
   rcases List.mem_cons.1 h with rfl | h
   · obtain ⟨k, hk⟩ := Option.isSome_iff_exists.1 hc.1.1.2
     exact ⟨0, b, rfl, hc.1.1.1, hc.1.2, by rw [hk]; rfl⟩
   · obtain ⟨i, c, h1, h2⟩ := lateK_mem h
     exact ⟨i + 1, c, h1, h2⟩
  | false =>
   rw [hc] at h
   obtain ⟨i, c, h1, h2⟩ := lateK_mem h
   exact ⟨i + 1, c, h1, h2⟩
theorem mineK_mem : ∀ {bs : List Box} {x : Nat}, x ∈ mineK bs -> ∃ i b, nthB bs i = some b /\ b.ok = true /\ b.esc = false /\ b.blk = some x
 | [], _, h => by cases h
 | b :: r, x, h => by
  simp only [mineK] at h
  cases hc : (b.ok && b.blk.isSome && !b.esc) with
  | true =>
   rw [hc] at h
   simp only [Bool.and_eq_true, Bool.not_eq_true'] at hc
   rcases List.mem_cons.1 h with rfl | h
   · obtain ⟨k, hk⟩ := Option.isSome_iff_exists.1 hc.1.2
     exact ⟨0, b, rfl, hc.1.1, hc.2, by rw [hk]; rfl⟩
   · obtain ⟨i, c, h1, h2⟩ := mineK_mem h
     exact ⟨i + 1, c, h1, h2⟩
  | false =>
   rw [hc] at h
   obtain ⟨i, c, h1, h2⟩ := mineK_mem h
   exact ⟨i + 1, c, h1, h2⟩
theorem lateK_ne {β : Nat -> Nat} {st : St} {a : Act} {w : World} (hR : Rep β st a w) : ∀ k, k ∈ lateK st.bx -> ∀ y, y ∈ mineK st.bx -> y ≠ k := fun k hk y hy => by
 obtain ⟨i, b, i1, i2, i3, i4⟩ := lateK_mem hk
 obtain ⟨j, c, j1, j2, j3, j4⟩ := mineK_mem hy
 have e1 := (hR.bx i b i1 i2).at_ k i4
 have e2 := (hR.bx j c j1 j2).at_ y j4
 rw [<- e1, <- e2]
 refine hR.ne j i c b j1 i1 j2 i2 fun e => ?_
 subst e
 rw [i1] at j1
 injection j1 with j1
 subst j1
 rw [i3] at j3
 cases j3
def expose (st : St) (K : St -> Prop) : Prop :=
 bif st.mv then
  bif allOk st.bx st.dt then
   bindB st.bx fun bx => ∀ w : World, condB st.w0 w st.bx bx (Only (st.dt.map (blB bx)) st.w0 w ->
    shB (clB bx) (blB bx) w true bx (neE2 (newK st.bx bx) (newK st.bx bx) (neL2 (mineK st.bx) (lateK st.bx) (K { st with bx := markB bx, w0 := w, mv := false, dt := [] }))))
  else False
 else shB st.clg st.bl st.w0 false st.bx (neL2 (mineK st.bx) (lateK st.bx) (K { st with bx := markB st.bx }))
theorem expose_ok {st : St} {K : St -> Prop} (h : expose st K) {β : Nat -> Nat} {a : Act} {w : World} (hR : Rep β st a w) : ∃ st', K st' /\ Ext st st' /\ Rep β st' a w /\ st'.mv = false /\ st'.fr = st.fr /\ st'.n = st.n /\ st'.ct = st.ct /\ st'.bx.length = st.bx.length := by
 unfold expose at h
 rcases bif2 h with ⟨hm, h⟩ | ⟨hm, h⟩
 case inr =>
  have hk := shB_ok h fun i b hb ho hs hc => by
   have := (hR.bx i b hb ho).blk
   cases hk : b.blk with
   | none => rw [hk] at hs; cases hs
   | some k =>
    have e := (hR.bx i b hb ho).at_ k hk
    rw [hR.valsE hc, <- hR.still hm]
    rw [e] at this
    exact this
  have hk := neL2_ok hk (lateK_ne hR)
  have key : ∀ i b', nthB (markB st.bx) i = some b' -> ∃ b, nthB st.bx i = some b /\ b' = { b with sh := b.esc } := fun i b' hb => by
   rw [nthB_mark] at hb
   cases hn : nthB st.bx i with
   | none => rw [hn] at hb; cases hb
   | some b => rw [hn] at hb; exact ⟨b, rfl, by simpa using hb.symm⟩
  refine ⟨_, hk, ⟨rfl, Nat.le_refl _, fun _ _ _ h _ => h, fun i b' hb ho _ => ?_, fun i b hb => ?_, dfr⟩, ⟨hR.fr, fun i b' hb ho => ?_, fun i j bi bj h1 h2 h3 h4 hij => ?_, hR.only, hR.still⟩, hm, rfl, rfl, rfl, ?_⟩
  · obtain ⟨b, h1, rfl⟩ := key i b' hb
    exact ⟨b, h1, ho, rfl, rfl, rfl, fun _ h => h⟩
  · exact ⟨{ b with sh := b.esc }, by rw [nthB_mark, hb]; rfl, rfl, rfl, fun _ h => h⟩
  · obtain ⟨b, h1, rfl⟩ := key i b' hb
    have := hR.bx i b h1 ho
    exact ⟨this.blk, this.at_, this.new⟩
  · obtain ⟨b, g1, rfl⟩ := key i bi h1
    obtain ⟨c, g2, rfl⟩ := key j bj h2
    exact hR.ne i j b c g1 g2 h3 h4 hij
  · have : ∀ l : List Box, (markB l).length = l.length := fun l => by
     induction l with
     | nil => rfl
     | cons b r ih => simp [markB, ih]
    exact this _
 case inl =>
  obtain ⟨hall, h⟩ := bif_ok h
  have h := bindB_ok β 0 h w
  have hnb : ∀ i, nthB (bindW β 0 st.bx) i = (nthB st.bx i).map (bnd1 (β i)) := fun i => by rw [nthB_bindW, Nat.zero_add]
  have hbl : ∀ i b, nthB st.bx i = some b -> b.ok = true -> ∃ b', nthB (bindW β 0 st.bx) i = some b' /\ b'.ok = true /\ b'.blk = some (β i) /\ b'.cells = b.cells /\ b'.ty = b.ty /\ b'.stp = b.stp := fun i b hb ho => by
   refine ⟨bnd1 (β i) b, by rw [hnb, hb]; rfl, ?_⟩
   unfold bnd1
   split
   · exact ⟨ho, rfl, rfl, rfl, rfl⟩
   · rename_i hne
     refine ⟨ho, ?_, rfl, rfl, rfl⟩
     cases hk : b.blk with
     | none => exact absurd hk (fun e => hne ho e)
     | some k => rw [(hR.bx i b hb ho).at_ k hk]
  have hbl' : ∀ i b', nthB (bindW β 0 st.bx) i = some b' -> b'.ok = true -> ∃ b, nthB st.bx i = some b /\ b.ok = true /\ b'.blk = some (β i) /\ b'.cells = b.cells /\ b'.ty = b.ty /\ b'.stp = b.stp := fun i b' hb ho => by
   rw [hnb] at hb
   cases hn : nthB st.bx i with
   | none => rw [hn] at hb; cases hb
   | some b =>
    rw [hn] at hb
    simp only [Option.map_some, Option.some.injEq] at hb
    subst hb
    have hob : b.ok = true := by
     unfold bnd1 at ho
     split at ho
     · assumption
     · exact ho
    obtain ⟨b2, e1, e2, e3, e4, e5, e6⟩ := hbl i b hn hob
    rw [hnb, hn] at e1
    simp only [Option.map_some, Option.some.injEq] at e1
    subst e1
    exact ⟨b, rfl, hob, e3, e4, e5, e6⟩
  have h := condB_ok 0 h fun i b hb ho hk => by
   rw [Nat.zero_add]
   exact ⟨(hR.bx i b hb ho).new hk, (hR.bx i b hb ho).blk.lt⟩
  have edt : st.dt.map (blB (bindW β 0 st.bx)) = st.dt.map β := by
   refine List.map_congr_left fun i hi => ?_
   obtain ⟨b, h1, h2⟩ := allOk_mem hall i hi
   obtain ⟨b', e1, e2, e3, _⟩ := hbl i b h1 h2
   unfold blB
   rw [e1]
   simp [e3]
  have h := h (by rw [edt]; exact hR.only)
  have hcl : ∀ i, clB (bindW β 0 st.bx) i = true -> blB (bindW β 0 st.bx) i = β i := fun i hg => by
   unfold clB at hg
   unfold blB
   cases hn : nthB (bindW β 0 st.bx) i with
   | none => rw [hn] at hg; cases hg
   | some b' =>
    rw [hn] at hg
    simp only [Bool.and_eq_true] at hg
    obtain ⟨b, _, _, e3, _⟩ := hbl' i b' hn hg.1
    simp [e3]
  have hk := shB_ok h fun i b' hb ho hs hc => by
   obtain ⟨b, e1, e2, e3, e4, e5, e6⟩ := hbl' i b' hb ho
   rw [vals_congr hcl _ hc, e3, e4, e5]
   exact (hR.bx i b e1 e2).blk
  have hk := neE2_ok hk fun x hx hxe y hy hye => by
   obtain ⟨i, b, i1, i2, rfl⟩ := newK_mem 0 hx
   obtain ⟨j, c, j1, j2, rfl⟩ := newK_mem 0 hy
   rw [Nat.zero_add, Nat.zero_add]
   refine hR.ne j i c b j1 i1 j2 i2 fun e => ?_
   subst e
   rw [i1] at j1
   injection j1 with j1
   subst j1
   rw [hxe] at hye
   cases hye
  have hk := neL2_ok hk (lateK_ne hR)
  have key : ∀ i b', nthB (markB (bindW β 0 st.bx)) i = some b' -> b'.ok = true -> ∃ b, nthB st.bx i = some b /\ b.ok = true /\ b'.blk = some (β i) /\ b'.cells = b.cells /\ b'.ty = b.ty /\ b'.stp = b.stp := fun i b' hb ho => by
   rw [nthB_mark] at hb
   cases hn : nthB (bindW β 0 st.bx) i with
   | none => rw [hn] at hb; cases hb
   | some c =>
    rw [hn] at hb
    simp only [Option.map_some, Option.some.injEq] at hb
    subst hb
    exact hbl' i c hn ho
  refine ⟨_, hk, ⟨rfl, Nat.le_refl _, fun _ _ _ h _ => h, fun i b' hb ho _ => ?_, fun i b hb => ?_, dfr⟩, ⟨hR.fr, fun i b' hb ho => ?_, fun i j bi bj h1 h2 h3 h4 hij => ?_, Only.refl _ _, fun _ => rfl⟩, rfl, rfl, rfl, rfl, ?_⟩
  · obtain ⟨b, e1, e2, e3, e4, e5, e6⟩ := key i b' hb ho
    exact ⟨b, e1, e2, e4.symm, e5.symm, e6.symm, fun k hk => by rw [e3, (hR.bx i b e1 e2).at_ k hk]⟩
  · refine ⟨{ bnd1 (β i) b with sh := (bnd1 (β i) b).esc }, by rw [nthB_mark, hnb, hb]; rfl, ?_⟩
    unfold bnd1
    split
    · rename_i e1 e2
      exact ⟨rfl, rfl, fun k hk => by rw [e2] at hk; cases hk⟩
    · exact ⟨rfl, rfl, fun _ h => h⟩
  · obtain ⟨b, e1, e2, e3, e4, e5, e6⟩ := key i b' hb ho
    refine ⟨by rw [e4, e5]; exact (hR.bx i b e1 e2).blk, fun k hk => by rw [e3] at hk; simpa using hk, fun hk => by rw [e3] at hk; cases hk⟩
  · obtain ⟨b, e1, e2, _⟩ := key i bi h1 h3
    obtain ⟨c, f1, f2, _⟩ := key j bj h2 h4
    exact hR.ne i j b c e1 f1 e2 f2 hij
  · have l1 : ∀ l : List Box, (markB l).length = l.length := fun l => by
     induction l with
     | nil => rfl
     | cons b r ih => simp [markB, ih]
    have l2 : ∀ (l : List Box) n, (bindW β n l).length = l.length := fun l => by
     induction l with
     | nil => intro n; rfl
     | cons b r ih => intro n; simp [bindW, ih]
    exact (l1 _).trans (l2 _ _)
def noB (n : Nat) (s : SV) : Bool := cln (fun j => !Nat.beq j n) s
def noBs (n : Nat) (l : List SV) : Bool := clns (fun j => !Nat.beq j n) l
def noFr (n : Nat) : List (Nat × Nat × SV) -> Bool
 | [] => true
 | p :: r => noB n p.2.2 && noFr n r
def noBx (n : Nat) : List Box -> Bool
 | [] => true
 | b :: r => (!b.ok || noBs n b.cells) && noBx n r
theorem noFr_at {n : Nat} : ∀ {l : List (Nat × Nat × SV)}, noFr n l = true -> ∀ i p, lookS l i = some p -> noB n p.2 = true
 | [], _, i, p, h => by cases h
 | (k, q) :: r, h, i, p, hl => by
  simp only [noFr, Bool.and_eq_true] at h
  simp only [lookS] at hl
  cases hb : Nat.beq k i with
  | true => rw [hb] at hl; simp only [cond_true, Option.some.injEq] at hl; subst hl; exact h.1
  | false => rw [hb] at hl; exact noFr_at h.2 i p (by simpa using hl)
theorem noBx_at {n : Nat} : ∀ {l : List Box}, noBx n l = true -> ∀ i b, nthB l i = some b -> b.ok = true -> noBs n b.cells = true
 | c :: r, h, 0, b, hb, ho => by
  simp only [noBx, Bool.and_eq_true, Bool.or_eq_true, Bool.not_eq_true'] at h
  simp only [nthB, Option.some.injEq] at hb
  subst hb
  rcases h.1 with h1 | h1
  · rw [ho] at h1; cases h1
  · exact h1
 | c :: r, h, i + 1, b, hb, ho => by
  simp only [noBx, Bool.and_eq_true] at h
  exact noBx_at h.2 i b hb ho
def upd (β : Nat -> Nat) (n b : Nat) : Nat -> Nat := fun i => if i = n then b else β i
theorem upd_no {β : Nat -> Nat} {n b : Nat} : ∀ i, (!Nat.beq i n) = true -> β i = upd β n b i := fun i h => by
 unfold upd
 rw [if_neg]
 rintro rfl
 simp at h
section
variable {β : Nat -> Nat} {st : St} {a : Act} {w w1 : World}
def St.newB (st : St) (d : Option Tmp) (t : TypeId) (zs : List SV) : St :=
 St.put { st with bx := st.bx ++ [⟨none, t, zs, st.ct, true, false, false⟩], mv := true, ct := st.ct + 1 } d (.box st.bx.length 0)
theorem Ext.newB (st : St) (d : Option Tmp) (t : TypeId) (zs : List SV) : Ext st (st.newB d t zs) := by
 refine Ext.trans (t := { st with bx := st.bx ++ [⟨none, t, zs, st.ct, true, false, false⟩], mv := true, ct := st.ct + 1 }) ⟨rfl, Nat.le_succ _, fun _ _ _ h _ => h, fun i b' hb ho hs => ?_, fun i b hb => ?_, dfr⟩ (Ext.put _ _ _)
 · dsimp only at hb
   rw [nthB_app] at hb
   split at hb
   · simp only [Option.some.injEq] at hb
     subst hb
     dsimp only at hs
     omega
   · exact ⟨b', hb, ho, rfl, rfl, rfl, fun _ h => h⟩
 · exact ⟨b, by dsimp only; rw [nthB_app, if_neg (by have := nthB_lt hb; omega)]; exact hb, rfl, rfl, fun _ h => h⟩
theorem Rep.newB (hR : Rep β st a w) {d : Option Tmp} {t : TypeId} {zs : List SV} {b : Nat} (h1 : noFr st.bx.length st.fr = true) (h2 : noBx st.bx.length st.bx = true) (h3 : noBs st.bx.length zs = true)
  (hb : w.heap.size <= b) (hO : Only [] w w1) (hB : Blk w1 b t (vals β zs)) (hdt : allOk st.bx st.dt = true) :
  Rep (upd β st.bx.length b) (st.newB d t zs) (a.put d (.pointer (some ⟨b, 0, none⟩))) w1 := by
 have hself : upd β st.bx.length b st.bx.length = b := by unfold upd; rw [if_pos rfl]
 have hlt : ∀ {i c}, nthB st.bx i = some c -> upd β st.bx.length b i = β i := fun {i c} h => by
  unfold upd; rw [if_neg]; have := nthB_lt h; omega
 have base : Rep (upd β st.bx.length b) { st with bx := st.bx ++ [⟨none, t, zs, st.ct, true, false, false⟩], mv := true, ct := st.ct + 1 } a w1 := by
  refine ⟨frok_of ⟨hR.ok.sz, hR.ok.df, fun i p hl hi => ?_⟩, fun i c hc ho => ?_, fun i j bi bj g1 g2 g3 g4 hij => ?_, ?_, fun h => by cases h⟩
  · rw [hR.ok.at_ i p hl hi]
    congr 1
    exact val_congr (g := fun j => !Nat.beq j st.bx.length) upd_no _ (noFr_at h1 i p hl)
  · dsimp only at hc
    rw [nthB_app] at hc
    split at hc
    · rename_i he
      simp only [Option.some.injEq] at hc
      subst hc
      subst he
      refine ⟨?_, fun k hk => (by cases hk), fun _ => ?_⟩
      · rw [hself]
        dsimp only
        rw [<- vals_congr (g := fun j => !Nat.beq j st.bx.length) (β := β) (β' := upd β st.bx.length b) upd_no _ h3]
        exact hB
      · rw [hself]
        exact Nat.le_trans hR.only.size hb
    · have e := hlt hc
      obtain ⟨k1, k2, k3⟩ := hR.bx i c hc ho
      refine ⟨?_, fun k hk => by rw [e]; exact k2 k hk, fun hk => by rw [e]; exact k3 hk⟩
      rw [e, <- vals_congr (g := fun j => !Nat.beq j st.bx.length) (β := β) (β' := upd β st.bx.length b) upd_no _ (noBx_at h2 i c hc ho)]
      exact hO.blk k1 (by simp)
  · dsimp only at g1 g2
    rw [nthB_app] at g1 g2
    split at g1
    · rename_i e1
      split at g2
      · omega
      · subst e1
        rw [hself, hlt g2]
        have := (hR.bx j bj g2 g4).blk.lt
        omega
    · split at g2
      · rename_i e2
        subst e2
        rw [hself, hlt g1]
        have := (hR.bx i bi g1 g3).blk.lt
        omega
      · rw [hlt g1, hlt g2]
        exact hR.ne i j bi bj g1 g2 g3 g4 hij
  · have e : st.dt.map (upd β st.bx.length b) = st.dt.map β := List.map_congr_left fun i hi => by
     obtain ⟨c, hc, _⟩ := allOk_mem hdt i hi
     exact hlt hc
    show Only (st.dt.map (upd β st.bx.length b)) st.w0 w1
    rw [e]
    exact hR.only.tr0 hO
 have := base.put d (.box st.bx.length 0)
 rw [show val (upd β st.bx.length b) (.box st.bx.length 0) = .pointer (some ⟨b, 0, none⟩) by
  show Value.pointer (some ⟨upd β st.bx.length b st.bx.length, 0, none⟩) = _
  rw [hself]] at this
 exact this
def St.setBx (st : St) (i : Nat) (b : Box) (cs : List SV) : St :=
 { st with bx := setB st.bx i { b with cells := cs, stp := st.ct, sh := false }, mv := true, dt := (bif b.blk.isSome && !st.dt.elem i then i :: st.dt else st.dt), ct := st.ct + 1 }
theorem Ext.setBx {st : St} {i : Nat} {b : Box} {cs : List SV} (h : nthB st.bx i = some b) : Ext st (st.setBx i b cs) := by
 refine ⟨rfl, Nat.le_succ _, fun _ _ _ h _ => h, fun j b' hb ho hs => ?_, fun j c hc => ?_, dfr⟩
 · simp only [St.setBx] at hb
   rw [nthB_set h] at hb
   split at hb
   · simp only [Option.some.injEq] at hb
     subst hb
     dsimp only at hs
     omega
   · exact ⟨b', hb, ho, rfl, rfl, rfl, fun _ h => h⟩
 · simp only [St.setBx]
   rw [nthB_set h]
   split
   · rename_i e
     subst e
     rw [h] at hc
     simp only [Option.some.injEq] at hc
     subst hc
     exact ⟨_, rfl, rfl, rfl, fun _ h => h⟩
   · exact ⟨c, hc, rfl, rfl, fun _ h => h⟩
theorem Rep.setBx (hR : Rep β st a w) {i : Nat} {b : Box} {cs : List SV} (h : nthB st.bx i = some b) (ho : b.ok = true) (hO : Only [β i] w w1) (hB : Blk w1 (β i) b.ty (vals β cs)) : Rep β (st.setBx i b cs) a w1 := by
 have hk := hR.bx i b h ho
 refine ⟨hR.fr, fun j c hc hok => ?_, fun j l bj bl g1 g2 g3 g4 hij => ?_, ?_, fun h => by cases h⟩
 · simp only [St.setBx] at hc
   rw [nthB_set h] at hc
   split at hc
   · rename_i e
     subst e
     simp only [Option.some.injEq] at hc
     subst hc
     exact ⟨hB, hk.at_, hk.new⟩
   · rename_i hne
     obtain ⟨k1, k2, k3⟩ := hR.bx j c hc hok
     exact ⟨hO.blk k1 (by simpa using hR.ne j i c b hc h hok ho hne), k2, k3⟩
 · simp only [St.setBx] at g1 g2
   rw [nthB_set h] at g1 g2
   have key : ∀ {j c}, (if j = i then some { b with cells := cs, stp := st.ct, sh := false } else nthB st.bx j) = some c -> c.ok = true -> ∃ c', nthB st.bx j = some c' /\ c'.ok = true := fun {j c} g hc => by
    split at g
    · rename_i e; subst e; exact ⟨b, h, ho⟩
    · exact ⟨c, g, hc⟩
   obtain ⟨c1, e1, e2⟩ := key g1 g3
   obtain ⟨c2, f1, f2⟩ := key g2 g4
   exact hR.ne j l c1 c2 e1 f1 e2 f2 hij
 · show Only ((bif b.blk.isSome && !st.dt.elem i then i :: st.dt else st.dt).map β) st.w0 w1
   cases hb : (b.blk.isSome && !st.dt.elem i) with
   | true => exact hR.only.cons hO
   | false =>
    simp only [Bool.and_eq_false_iff, Bool.not_eq_false'] at hb
    rcases hb with hb | hb
    · refine hR.only.new hO (hk.new ?_)
      cases hn : b.blk with
      | none => rfl
      | some k => rw [hn] at hb; cases hb
    · refine hR.only.mem hO (List.mem_map.2 ⟨i, ?_, rfl⟩)
      simpa using hb
structure Flg (l l' : List Box) : Prop where
 fw : ∀ i b, nthB l' i = some b -> ∃ c, nthB l i = some c /\ c.blk = b.blk /\ c.ty = b.ty /\ c.cells = b.cells /\ c.stp = b.stp /\ c.ok = b.ok
 bw : ∀ i b, nthB l i = some b -> ∃ c, nthB l' i = some c /\ c.ty = b.ty /\ c.ok = b.ok /\ ∀ k, b.blk = some k -> c.blk = some k
theorem Flg.refl (l : List Box) : Flg l l := ⟨fun i b h => ⟨b, h, rfl, rfl, rfl, rfl, rfl⟩, psr⟩
theorem Flg.trans {l m n : List Box} (h : Flg l m) (k : Flg m n) : Flg l n := ⟨fun i b hb => by
 obtain ⟨c, c1, c2, c3, c4, c5, c6⟩ := k.fw i b hb
 obtain ⟨d, d1, d2, d3, d4, d5, d6⟩ := h.fw i c c1
 exact ⟨d, d1, d2.trans c2, d3.trans c3, d4.trans c4, d5.trans c5, d6.trans c6⟩, fun i b hb => by
 obtain ⟨c, c1, c2, c3, c4⟩ := h.bw i b hb
 obtain ⟨d, d1, d2, d3, d4⟩ := k.bw i c c1
 exact ⟨d, d1, d2.trans c2, d3.trans c3, fun m hm => d4 m (c4 m hm)⟩⟩
theorem Ext.flg {l' : List Box} (h : Flg st.bx l') : Ext st { st with bx := l' } := ⟨rfl, Nat.le_refl _, fun _ _ _ h _ => h, fun i b' hb ho _ => by
 obtain ⟨c, c1, c2, c3, c4, c5, c6⟩ := h.fw i b' hb
 exact ⟨c, c1, c6.trans ho, c4, c3, c5, fun k hk => by rw [<- c2]; exact hk⟩, h.bw, dfr⟩
theorem Rep.flg {l' : List Box} (hR : Rep β st a w) (h : Flg st.bx l') : Rep β { st with bx := l' } a w := by
 refine ⟨hR.fr, fun i b hb ho => ?_, fun i j bi bj g1 g2 g3 g4 hij => ?_, hR.only, hR.still⟩
 · obtain ⟨c, c1, c2, c3, c4, c5, c6⟩ := h.fw i b hb
   obtain ⟨k1, k2, k3⟩ := hR.bx i c c1 (c6.trans ho)
   exact ⟨by rw [<- c3, <- c4]; exact k1, fun k hk => k2 k (c2.trans hk), fun hk => k3 (c2.trans hk)⟩
 · obtain ⟨c, c1, _, _, _, _, c6⟩ := h.fw i bi g1
   obtain ⟨d, d1, _, _, _, _, d6⟩ := h.fw j bj g2
   exact hR.ne i j c d c1 d1 (c6.trans g3) (d6.trans g4) hij
def bxs : SV -> List Nat
 | .box i _ => [i]
 | .fn _ fs cs => bxs fs ++ bxs cs
 | .agg l => bxs l
 | .tup l => bxs l
 | .c h t => bxs h ++ bxs t
 | _ => []
def escG : Nat -> List Nat -> List Box -> List Box
 | 0, _, bx => bx
 | _ + 1, [], bx => bx
 | f + 1, i :: r, bx => match nthB bx i with
  | some b => bif b.esc then escG f r bx else escG f (flat bxs b.cells ++ r) (setB bx i { b with esc := true, sh := false })
  | none => escG f r bx
theorem escG_flg : ∀ (f : Nat) (l : List Nat) (bx : List Box), Flg bx (escG f l bx)
 | 0, _, bx => Flg.refl _
 | _ + 1, [], bx => Flg.refl _
 | f + 1, i :: r, bx => by
  unfold escG
  split
  · rename_i b hb
    cases he : b.esc with
    | true => exact escG_flg f r bx
    | false =>
     refine Flg.trans ⟨fun j c hc => ?_, fun j c hc => ?_⟩ (escG_flg f _ _)
     rotate_left
     · rw [nthB_set hb]
       split
       · rename_i e
         subst e
         rw [hb] at hc
         simp only [Option.some.injEq] at hc
         subst hc
         exact ⟨_, rfl, rfl, rfl, fun _ h => h⟩
       · exact ⟨c, hc, rfl, rfl, fun _ h => h⟩
     rw [nthB_set hb] at hc
     split at hc
     · rename_i e
       subst e
       simp only [Option.some.injEq] at hc
       subst hc
       exact ⟨b, hb, rfl, rfl, rfl, rfl, rfl⟩
     · exact ⟨c, hc, rfl, rfl, rfl, rfl, rfl⟩
  · exact escG_flg f r bx
def St.esc (st : St) (l : List SV) : St := { st with bx := escG 1000 (flat bxs l) st.bx }
theorem Ext.esc (st : St) (l : List SV) : Ext st (st.esc l) := Ext.flg (escG_flg _ _ _)
theorem Rep.esc (hR : Rep β st a w) (l : List SV) : Rep β (st.esc l) a w := hR.flg (escG_flg _ _ _)
end
end Go.Kt.V
