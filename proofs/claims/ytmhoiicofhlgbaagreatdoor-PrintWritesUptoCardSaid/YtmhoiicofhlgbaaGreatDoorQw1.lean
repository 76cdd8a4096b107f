import Derived.WalkKit
import Derived.Deep.Draws
import Derived.Deep.LoopGhost
import Derived.Deep.Quiet
import Derived.OrdersHeld
import Derived.Laws.Small
import Derived.Laws.AppendOwn
import Derived.Great.BuildSlice
import Derived.Laws.MakeOwn
import Derived.MapKept
import Derived.Lib.Strings
import Derived.KernelRfl
import Derived.ChangeKeysEq
import Derived.Laws.Tables
import Derived.Defers
import Derived.Test.YtmhoiicofhlgbaaGreatDoorRows
import Derived.Test.YtmhoiicofhlgbaaGreatDoorProg
import Derived.Lib.ParseIntB
import Derived.Lib.Bytealg
import Derived.Lib.ItoaLen
import Derived.Lib.AtoiErrMem
import Derived.Lib.Builder
import Derived.Lib.AppendStr
import Derived.Lib.UnsafeStr
import Derived.Lib.Join
import Derived.Lib.Repeat
import Derived.Laws.CopyRow
import Derived.WideKeyElems
import Derived.Sort.KeysCollected
import Derived.ProofKit
import Derived.OpenShut
import Derived.SizedLaws
import Derived.Deep.Slices
import Derived.JoinedCond
import Derived.Deep.CondSized
set_option linter.defProp false
def aD:=@List.length_append
def aE:=@Bool.and_eq_true
def aF:=@List.mem_singleton
def aG:=@of_decide_eq_true
def aH:=@List.length_cons
def aI:=@of_decide_eq_false
def aJ:=@Option.some.injEq
def aK:=@Nat.le_refl
def aL:=@List.mem_cons
def aM:=@Int.toNat_natCast
def aN:=@List.length_nil
def aO:=@Int.natCast_nonneg
def aP:=@List.getElem?_eq_some_iff
def aQ:=@Nat.zero_le
def aU:=@List.not_mem_nil
def aV:=@List.append_assoc
def aW:=@List.length_singleton
def aX:=@Nat.le_trans
def aZ:=@decide_eq_false
def bc:=@List.eq_nil_of_length_eq_zero
def bd:=@decide_eq_true_eq
def be:=@List.mem_of_getElem?
def bf:=@Decidable.byContradiction
def bg:=@List.map_cons
def bh:=@decide_eq_true
def bm:=@Nat.zero_add
def bn:=@List.take_add_one
def bp:=@congrArg
def bq:=@Bool.eq_iff_iff
def br:=@List.append_nil
def bA:=@List.getElem?_eq_getElem
def bB:=@List.take_of_length_le
def bC:=@Nat.eq_of_beq_eq_true
def bF:=@List.getElem?_append_left
def bK:=@Bool.true_and
def bL:=@List.length_map
def bM:=@or_false
def bN:=@List.length_drop
def bQ:=@List.sum_cons
def bS:=@Bool.or_eq_true
def bX:=@Bool.not_eq_true'
def cb:=@Nat.lt_of_lt_of_le
def cd:=@List.nil_append
def cj:=@List.getElem?_cons_zero
def cn:=@List.cons_append
def cq:=@List.mem_append
def cr:=@List.getElem?_eq_none
def cA:=@Bool.and_true
def cD:=@Option.map_some
def cE:=@List.flatten_cons
def cH:=@List.getElem?_map
def cI:=@List.takeWhile_cons
def cL:=@List.mem_cons_of_mem
def cM:=@List.length_take
def cN:=@Nat.le_of_ble_eq_true
def cQ:=@List.getElem?_append_right
def cW:=@Prod.mk.injEq
def cX:=@List.drop_of_length_le
def cZ:=@beq_iff_eq
def da:=@Bool.false_and
def di:=@List.map_append
def dj:=@Except.ok.injEq
def dr:=@List.take_zero
def du:=@List.mem_cons_self
def dv:=@List.getElem?_cons_succ
def dw:=@Nat.add_sub_cancel_left
def dB:=@List.all_eq_true
def dK:=@List.contains_iff_mem
def dL:=@List.singleton_append
def dW:=@Nat.mul_le_mul_right
def dX:=@Bool.or_eq_false_iff
def ei:=@List.filter_nil
def eE:=@List.take_append_drop
def eG:=@Option.toList_some
def eH:=@Nat.add_assoc
def eL:=@Array.getElem?_eq_none
def eM:=@Option.map_eq_some_iff
def eX:=@List.toList_toArray
def fe:=@cond_true
def ff:=@Option.isSome_iff_exists
def fg:=@List.drop_zero
def fm:=@Bool.false_eq_true
def fp:=@Nat.add_mul
def ft:=@decide_eq_false_iff_not
def fu:=@List.take_length
def fH:=@Bool.eq_false_iff
def fI:=@Bool.and_false
def fL:=@List.take_succ_cons
def fM:=@Int.toNat_of_nonneg
def fN:=@List.head?_cons
def fR:=@List.drop_eq_getElem_cons
def fZ:=@Option.getD_some
def ga:=@Bool.not_eq_false'
def gr:=@Nat.add_zero
def gu:=@List.map_nil
def gY:=@List.map_map
def gZ:=@List.sum_nil
def ic:=@Nat.le_succ
def ig:=@Int.le_refl
def iy:=@if_false
def iz:=@List.getElem?_drop
def iA:=@List.drop_drop
def iU:=@List.all_append
def jd:=@List.getElem?_of_mem
def jh:=@List.all_cons
def jx:=@Nat.add_le_add
def jP:=@Nat.lt_or_ge
def jQ:=@List.mem_map
def jR:=@Nat.add_comm
def kc:=@List.size_toArray
def kD:=@Array.getElem?_eq_some_iff
def kF:=@List.elem_cons
def ly:=@Nat.zero_mul
def lz:=@Option.bind_some
def lA:=@Bool.or_true
def lK:=@Array.length_toList
def lM:=@List.drop_succ_cons
def mE:=@cond_false
def mF:=@List.filter_append
def nE:=@List.ext_getElem?
def oo:=@Array.getElem?_setIfInBounds_ne
def ov:=@List.getElem?_toArray
def ow:=@List.take_eq_take_iff
def oy:=@Bool.and_eq_false_iff
def ph:=@List.map_toArray
def pj:=@List.map_take
def po:=@List.map_drop
def qs:=@Option.map_none
def qt:=@List.headD_cons
def qu:=@List.cons.injEq
def qv:=@List.map_congr_left
def rD:=@Nat.sub_zero
def sN:=@List.getElem?_take
def sO:=@Bool.and_assoc
def tL:=@Nat.mul_one
def tM:=@Decidable.not_not
def tN:=@List.foldl_append
def tP:=@Nat.lt_succ_of_le
def tQ:=@List.all_eq_false
def uK:=@Bool.false_or
def vN:=@Nat.le_max_right
def vO:=@List.filter_cons
def wN:=@Bool.not_and
def xr:=@Nat.le_max_left
def zd:=@Array.getElem?_modify
def zK:=@Bool.not_false
def CI:=@List.flatten_append
def CJ:=@List.length_pos_iff
def CK:=@beq_eq_false_iff_ne
def G2:=@Nat.le_of_eq
def G3:=@Nat.sub_self
def G4:=@Bool.true_or
def KB:=@Nat.le_of_not_lt
def KC:=@Array.toList_inj
def KD:=@decide_eq_decide
def KE:=@List.flatten_nil
def KF:=@Nat.succ_le_succ
def KG:=@Nat.lt_succ_self
def KH:=@List.map_id
def KZ:=@List.take_append_of_le_length
def Pc:=@List.length_set
def Pe:=@UInt8.toNat_inj
def Pf:=@List.sum_append
def Ph:=@Nat.not_lt_zero
def P1:=@List.take_length_add_append
def P2:=@List.drop_length_add_append
abbrev aA:=Go.Value->Go.World->Prop
abbrev aB:=List UInt8
abbrev asw:=ByteArray
set_option linter.unusedSectionVars false
namespace Go.Kt
open Go Go.RowKit
structure Sl where
 a:Option Addr
 n:Nat
 c:Nat
@[reducible] def Sl.v (s:Sl):Value:=.slice s.a s.n s.c
@[reducible] def Sl.nil:Sl:=⟨none,0,0⟩
def Sl.cut (s:Sl) (l h m size:Nat):Sl:=⟨if m=l then s.a else s.a.map (·.add (l*size)),h-l,m-l⟩
def ck (s:Sl) (i:Int) (size:Nat) (ad:Addr):Prop:=∃base,s.a=some base/\0<=i/\i<s.n/\ad=base.add (i.toNat*size)
structure Only (bs:List Nat) (w w':World):Prop where
 os:w'.os=w.os
 tape:w'.tape=w.tape
 output:w'.output=w.output
 size:w.heap.size<=w'.heap.size
 block:∀k,k<w.heap.size->k∉bs->w'.heap[k]? =w.heap[k]?
def Blk (w:World) (b:Nat) (t:TypeId) (cs:List Value):Prop:=w.heap[b]? =some (.cells cs.toArray t (0,0))
def Cells (w:World) (a:Addr) (cs:List Value):Prop:=∀j v,cs[j]? =some v->w.cell? (a.add j)=some v
def aR (bs:List Nat) (w w':World):Prop:=∀b,b∈bs->w'.heap[b]? =w.heap[b]?
def fx (b:UInt8):Value:=.int .u8 (b.toNat:Int)
def pY (w:World) (s:Sl) (l:List UInt8):Prop:=s.n=l.length/\(l≠[]->∃ad,s.a=some ad/\Cells w ad (l.map fx))
def Sl.blk (s:Sl):Nat:=match s.a with | some a=>a.block | none=>0
def bO (cs:List Value) (o:Nat) (vs:List Value):List Value:=cs.take o++vs++cs.drop (o+vs.length)
section
variable {w w' se:World} {bs bs':List Nat} {b:Nat} {t:TypeId} {cs:List Value}
theorem Blk.lt (h:Blk w b t cs):b<w.heap.size:=(kD.1 h).1
theorem Only.refl (bs:List Nat) (w:World):Only bs w w:=⟨rfl,rfl,rfl,aK _,fun _ _ _=>rfl⟩
theorem Only.weaken (h:Only bs w w') (hb:∀x,x∈bs->x∈bs'∨w.heap.size<=x):Only bs' w w':=
 ⟨h.os,h.tape,h.output,h.size,fun k hk hn=>h.block k hk fun hm=>by
  rcases hb k hm with h1 | h1
  ·exact hn h1
  ·omega⟩
theorem Only.trans (h:Only bs w w') (k:Only bs' w' se) (hb:∀x,x∈bs'->x∈bs∨w.heap.size<=x):Only bs w se:=
 ⟨k.os.trans h.os,k.tape.trans h.tape,k.output.trans h.output,aX h.size k.size,fun i hi hn=>
  (k.block i (cb hi h.size) fun hm=>by
   rcases hb i hm with h1 | h1
   ·exact hn h1
   ·omega).trans (h.block i hi hn)⟩
theorem Only.bP (h:Only bs w w') (k:Only [] w' se):Only bs w se:=h.trans k (by simp)
theorem Only.cons (h:Only bs w w') (k:Only [b] w' se):Only (b::bs) w se:=
 (h.weaken (bs':=b::bs) fun _ hx=>.inl (cL _ hx)).trans k fun x hx=>.inl (by simp only[aF]at hx;simp[hx])
theorem Only.mem (h:Only bs w w') (k:Only [b] w' se) (hb:b∈bs):Only bs w se:=h.trans k fun x hx=>.inl (by simp only[aF]at hx;simpa[hx]using hb)
theorem Only.new (h:Only bs w w') (k:Only [b] w' se) (hb:w.heap.size<=b):Only bs w se:=h.trans k fun x hx=>.inr (by simp only[aF]at hx;simpa[hx]using hb)
theorem Only.blk (h:Only bs w w') (hb:Blk w b t cs) (hn:b∉bs):Blk w' b t cs:=(h.block b hb.lt hn).trans hb
theorem Only.below (h:Only bs w w') {B:Nat} (hB:B<=w.heap.size) (hb:∀x,x∈bs->B<=x):Below B w w':=
 ⟨h.os,h.tape,h.output,h.size,fun k hk=>h.block k (by omega) fun hm=>by have:=hb k hm;omega⟩
theorem Only.uE (h:Below w.heap.size w w'):Only [] w w':=⟨h.os,h.tape,h.output,h.size,fun k hk _=>h.block k hk⟩
theorem Only.drew (w:World):Only [] w w.drew:=⟨rfl,rfl,rfl,aK _,fun _ _ _=>rfl⟩
theorem Only.drewN (w:World) (n:Nat):Only [] w (w.drewN n):=⟨rfl,rfl,rfl,aK _,fun _ _ _=>rfl⟩
theorem Only.alloc (w:World) (o:Obj):Only [] w (w.alloc o):=⟨rfl,rfl,rfl,by simp,fun k hk _=>_root_.Go.heap_alloc_old w o hk⟩
theorem Only.setRow (w:World) (b:Nat) (cs:Array Value):Only [b] w (w.setRow b cs):=⟨rfl,rfl,rfl,by simp,fun k _ hn=>setRow_other w b k cs (by simpa using hn)⟩
theorem Only.same (h:Only bs w w') (hl:∀x,x∈bs'->x<w.heap.size/\x∉bs):aR bs' w w':=fun x hx=>h.block x (hl x hx).1 (hl x hx).2
theorem Blk.alloc (w:World) (t:TypeId) (cs:List Value):Blk (w.alloc (.cells cs.toArray t)) w.heap.size t cs:=heap_alloc_new w _
theorem Blk.setRow (h:Blk w b t cs) (yV:List Value):Blk (w.setRow b yV.toArray) b t yV:=setRow_heap w b _ _ t _ h
theorem Blk.cell (h:Blk w b t cs) (i:Nat):w.cell? ⟨b,i,none⟩=cs[i]? :=by rw[cell_of_row w b i cs.toArray t (0,0) h];simp
theorem Blk.cells (h:Blk w b t cs) (o:Nat) (vs:List Value) (hv:∀j v,vs[j]? =some v->cs[o+j]? =some v):Cells w ⟨b,o,none⟩ vs:=fun j v hj=>by
 have ah0:(⟨b,o,none⟩:Addr).add j=⟨b,o+j,none⟩:=by unfold Addr.add;split<;>simp_all
 rw[ah0,h.cell];exact hv j v hj
theorem Blk.Cg (h:Blk w b t cs) (o:Nat) (vs:List Value) (hv:(cs.drop o).take vs.length=vs):Cells w ⟨b,o,none⟩ vs:=h.cells o vs fun j v hj=>by
 rw[<-hv,sN]at hj;split at hj
 ·simpa using hj
 ·cases hj
theorem Cells.one {a:Addr} {v:Value} (h:Cells w a [v]):w.cell? a=some v:=by have:=h 0 v rfl;simpa[Addr.add]using this
theorem Cells.keep {a:Addr} (h:Cells w a cs) (hk:w'.heap[a.block]? =w.heap[a.block]?):Cells w' a cs:=fun j v hj=>by
 rw[World.cell?_of_block (w:=w) (w':=w') (a:=a.add j)]
 ·exact h j v hj
 ·have:(a.add j).block=a.block:=by unfold Addr.add;split<;>rfl
  rw[this,hk]
theorem Cells.lt' {a:Addr} (h:Cells w a cs) (hc:cs≠[]):a.block<w.heap.size:=by
 cases cs with
 | nil=>exact absurd rfl hc
 | cons v cs=>
  have h2:=block_lt_of_cell (h 0 v rfl);have e:(a.add 0).block=a.block:=rfl;omega
theorem Cells.lt {a:Addr} {v:Value} (h:Cells w a (v::cs)):a.block<w.heap.size:=by
 have:=h 0 v rfl;have h2:=block_lt_of_cell this;have e:(a.add 0).block=a.block:=rfl;omega
end
section
variable {P:Program} {ops:Array Oper} {Q:Exit->Act->World->Prop} {rest:List Oper} {a a':Act} {w w':World}
theorem f0 (l:List Value) (ds:List Deferred) (k:Nat) (v:Value):Act.put ⟨l.toArray,ds⟩ (some k) v=⟨(l.set k v).toArray,ds⟩:=by simp[Act.put]
theorem f1 (x:Value) (l:List Value) (v:Value):(x::l).set 0 v=v::l:=rfl
theorem f3 (a:Act) (v:Value):a.put none v=a:=rfl
theorem f2 (x:Value) (l:List Value) (k:Nat) (v:Value):(x::l).set (k+1) v=x::l.set k v:=rfl
def fS:List Oper->Nat->Option Oper
 | [],_=>none
 | v::_,0=>some v
 | _::r,n+1=>fS r n
theorem je:∀(l:List Oper) (n:Nat),fS l n=l[n]?
 | [],_=>rfl
 | _::_,0=>rfl
 | _::r,n+1=>je r n
def P3:List Value->Nat->Option Value
 | [],_=>none
 | v::_,0=>some v
 | _::r,n+1=>P3 r n
theorem AR:∀(l:List Value) (n:Nat),P3 l n=l[n]?
 | [],_=>rfl
 | _::_,0=>rfl
 | _::r,n+1=>AR r n
theorem wt {o oj:Oper} {dx:List Oper} {l:List Value} {ds:List Deferred} {j d:Nat} {want b r:Bool} (h1:o.guard=some (j,want)) (h2:fS dx j=some oj) (h3:oj.dst=some d)
  (h4:P3 l d=some (.bool b)) (h5:(b==want)=r):Region.wanted o (yielded dx.toArray (⟨l.toArray,ds⟩:Act).tmps)=r:=by
 subst h5;rw[je]at h2;rw[AR]at h4;have e:yielded dx.toArray (⟨l.toArray,ds⟩:Act).tmps j=some b:=by simp[yielded,h2,h3,h4]
 simp only[Region.wanted,h1,e];cases b<;>cases want<;>rfl
theorem wu {o oj:Oper} {dx:List Oper} {l:List Value} {ds:List Deferred} {j d:Nat} {want:Bool} (h1:o.guard=some (j,want)) (h2:fS dx j=some oj) (h3:oj.dst=some d)
  (h4:P3 l d=some undef):Region.wanted o (yielded dx.toArray (⟨l.toArray,ds⟩:Act).tmps)=false:=by
 rw[je]at h2;rw[AR]at h4;have e:yielded dx.toArray (⟨l.toArray,ds⟩:Act).tmps j=none:=by simp[yielded,h2,h3,h4,undef]
 simp[Region.wanted,h1,e]
theorem wn {o:Oper} {f:Nat->Option Bool} (h:o.guard=none):Region.wanted o f=true:=by simp[Region.wanted,h]
theorem Fi {o:Oper} (v:Value) (hg:Region.wanted o (yielded ops a.tmps)=true)
  (hr:(execOp a.eval o).run P w=.ok (.value v) w') (ha:a.put o.dst v=a') (h:wpList P ops Q rest a' w'):wpList P ops Q (o::rest) a w:=by
 subst ha;unfold wpList;rw[if_pos hg];refine .inl ?_;unfold Oper.wp;rw[hr];exact h
theorem Sf {o:Oper} (hg:Region.wanted o (yielded ops a.tmps)=false) (ha:a.put o.dst undef=a') (h:wpList P ops Q rest a' w):wpList P ops Q (o::rest) a w:=by
 subst ha;unfold wpList;rw[if_neg (by simp[hg])];exact h
theorem AU {dst:Option Tmp} {ty:TypeId} {x:Operand} {t':TypeId} {p:String} {af:Array Edge} {g:Option (Nat×Bool)} {ad:Addr} {v:Value}
  (Gx:(isAgg ty).run P w=.ok false w) (hx:a.eval x=.pointer (some ad)) (hc:w.cell? ad=some v):
  (execOp a.eval ⟨dst,.load ty x,t',p,af,g⟩).run P w=.ok (.value v) w:=by
 simp only[execOp,hx,Instr.loadAt,Instr.sureAddr,Sem.run_bind,Sem.run_pure,Result.andThen_ok,loadVar,Gx,fm,iy,run_load,hc]
theorem rF {dst:Option Tmp} {ty:TypeId} {x:Operand} {t':TypeId} {p:String} {af:Array Edge} {g:Option (Nat×Bool)} {ad:Addr} {cs:List Value} {n:Nat}
  (Gx:(isAgg ty).run P w=.ok true w) (hsz:(sizeOf ty).run P w=.ok n w) (hn:cs.length=n) (hx:a.eval x=.pointer (some ad)) (hc:Cells w ad cs):
  (execOp a.eval ⟨dst,.load ty x,t',p,af,g⟩).run P w=.ok (.value (.agg cs.toArray)) w:=by
 have hl:=run_loadCells_list (P:=P) w ad cs hc;rw[hn]at hl;simp only[execOp,hx,Instr.loadAt,Instr.sureAddr,Sem.run_bind,Sem.run_pure,Result.andThen_ok,loadVar,Gx,if_true,hsz,hl]
theorem P4 {dst:Option Tmp} {ty:TypeId} {x y:Operand} {t':TypeId} {p:String} {af:Array Edge} {g:Option (Nat×Bool)} {b o:Nat} {cs vs:List Value} {et:TypeId} {n:Nat}
  (hsz:(sizeOf ty).run P w=.ok n w) (hx:a.eval x=.pointer (some ⟨b,o,none⟩)) (hv:(a.eval y).cells=vs.toArray) (hn:vs.length=n)
  (h1:∀v∈vs,v.oneCell'=true) (hb:Blk w b et cs) (Gy:o+vs.length<=cs.length):
  (execOp a.eval ⟨dst,.store ty x y,t',p,af,g⟩).run P w=.ok .skip (w.setRow b (bO cs o vs).toArray):=by
 have kb:=run_storeCells_at P b o et vs 0 cs.toArray w hb (by simpa using Gy) h1;simp only[execOp,hx,Instr.storeAt,Instr.sureAddr,Sem.run_bind,Sem.run_pure,Result.andThen_ok,storeVar,hsz,hv,kc,hn,ne_eq,not_true_eq_false,iy,kb,bO,gr]
theorem P5 {dst:Option Tmp} {ty:TypeId} {t':TypeId} {p:String} {af:Array Edge} {g:Option (Nat×Bool)} {z:Value} {zs:List Value}
  (hz:(zeroValue ty).run P w=.ok z w) (hc:z.cells=zs.toArray):
  (execOp a.eval ⟨dst,.alloc ty,t',p,af,g⟩).run P w=.ok (.value (.pointer (some ⟨w.heap.size,0,none⟩))) (w.alloc (.cells zs.toArray ty)):=by
 simp only[execOp,Instr.alloc,Sem.run_bind,hz,Result.andThen_ok,newVar,newRow,newObj,hc,Sem.run,Sem.run_pure];rfl
theorem YI {dst:Option Tmp} {ty:TypeId} {x:Operand} {t':TypeId} {p:String} {af:Array Edge} {g:Option (Nat×Bool)} {zs:List Value}
  (hc:(a.eval x).cells=zs.toArray):
  (execOp a.eval ⟨dst,.box ty x,t',p,af,g⟩).run P w=.ok (.value (.pointer (some ⟨w.heap.size,0,none⟩))) (w.alloc (.cells zs.toArray ty)):=by
 simp only[execOp,Instr.box,Sem.run_bind,Result.andThen_ok,newVar,newRow,newObj,hc,Sem.run,Sem.run_pure];rfl
theorem K0 {dst:Option Tmp} {x:Operand} {t':TypeId} {p:String} {af:Array Edge} {g:Option (Nat×Bool)} {ad:Addr} (hx:a.eval x=.pointer (some ad)):
  (execOp a.eval ⟨dst,.nilCheck x,t',p,af,g⟩).run P w=.ok (.value (.pointer (some ad))) w:=by
 simp only[execOp,hx,Sem.run_pure]
theorem G5 {dst:Option Tmp} {s:TypeId} {x:Operand} {k:Nat} {t':TypeId} {p:String} {af:Array Edge} {g:Option (Nat×Bool)} {ad Gz:Addr} {fs:Array Field} {f:Field} {n:Nat}
  (hu:(underlying s).run P w=.ok (.struct fs) w) (hf:fs[k]? =some f) (hsz:(sizeOf f.type).run P w=.ok (n+1) w) (hx:a.eval x=.pointer (some ad)) (he:ad.add f.offset=Gz):
  (execOp a.eval ⟨dst,.fieldAddr s x k,t',p,af,g⟩).run P w=.ok (.value (.pointer (some Gz))) w:=by
 subst he;simp[execOp,hx,Instr.fieldAt,Instr.sureAddr,hu,hf,fieldPlace,hsz]
theorem P6 {dst:Option Tmp} {c x y:Operand} {t':TypeId} {p:String} {af:Array Edge} {g:Option (Nat×Bool)} {v:Value} (hc:a.eval c=.bool true) (hv:a.eval x=v):
  (execOp a.eval ⟨dst,.pick c x y,t',p,af,g⟩).run P w=.ok (.value v) w:=by
 subst hv;simp[execOp,hc,asBool]
theorem P7 {dst:Option Tmp} {c x y:Operand} {t':TypeId} {p:String} {af:Array Edge} {g:Option (Nat×Bool)} {v:Value} (hc:a.eval c=.bool false) (hv:a.eval y=v):
  (execOp a.eval ⟨dst,.pick c x y,t',p,af,g⟩).run P w=.ok (.value v) w:=by
 subst hv;simp[execOp,hc,asBool]
theorem P8 {dst:Option Tmp} {t:TypeId} {ps:List (Nat×Operand)} {t':TypeId} {p:String} {af:Array Edge} {g:Option (Nat×Bool)} {ps':List (Nat×Value)} {v:Value}
  (hp:(ps.map fun q=>(q.1,a.eval q.2))=ps') (hr:(Instr.build t ps'.toArray).run P w=.ok v w):
  (execOp a.eval ⟨dst,.build t ps.toArray,t',p,af,g⟩).run P w=.ok (.value v) w:=by
 subst hp;simp only[execOp,ph,Sem.run_bind,hr,Result.andThen_ok,Sem.run_pure]
theorem K4 {dst:Option Tmp} {t e:TypeId} {x i:Operand} {t':TypeId} {p:String} {af:Array Edge} {g:Option (Nat×Bool)} {s:Sl} {k:IntKind} {n:Int} {ad:Addr} {sz:Nat}
  (hu:(underlying t).run P w=.ok (.slice e) w) (hsz:(sizeOf e).run P w=.ok sz w) (hx:a.eval x=s.v) (hi:a.eval i=.int k n) (cy:ck s n sz ad):
  (execOp a.eval ⟨dst,.indexAddr t x i,t',p,af,g⟩).run P w=.ok (.value (.pointer (some ad))) w:=by
 obtain⟨base,hb,h0,h1,rfl⟩:=cy;simp[execOp,hx,hi,Instr.indexAt,asIntOf,hu,hsz,hb,h0,h1]
theorem tR {dst:Option Tmp} {t e:TypeId} {x i:Operand} {t':TypeId} {p:String} {af:Array Edge} {g:Option (Nat×Bool)} {len:Nat} {k:IntKind} {n:Int} {ad Gz:Addr} {sz:Nat}
  (hu:(underlying t).run P w=.ok (.array len e) w) (hsz:(sizeOf e).run P w=.ok sz w) (hx:a.eval x=.pointer (some ad)) (hi:a.eval i=.int k n) (h0:0<=n) (h1:n<len) (he:ad.add (n.toNat*sz)=Gz):
  (execOp a.eval ⟨dst,.indexAddr t x i,t',p,af,g⟩).run P w=.ok (.value (.pointer (some Gz))) w:=by
 subst he;simp[execOp,hx,hi,Instr.indexAt,asIntOf,hu,hsz,h0,h1,Instr.sureAddr]
theorem kP {b:Builtin} {s:Sem Value} {dst:Option Tmp} {xs:List Operand} {ts:Array TypeId} {t':TypeId} {p:String} {af:Array Edge} {g:Option (Nat×Bool)} {v:Value}
  (hb:∀V8,builtin b ts t' V8 (xs.map a.eval).toArray=(do pure (.value (<-s)))) (hr:s.run P w=.ok v w'):
  (execOp a.eval ⟨dst,.call ⟨.builtin b,xs.toArray,ts⟩,t',p,af,g⟩).run P w=.ok (.value v) w':=by
 simp only[execOp,resolve,Sem.run_bind,Sem.run_pure,Result.andThen_ok,invoke,ph];rw[hb];simp only[Sem.run_bind,Sem.run_pure,hr,Result.andThen_ok]
theorem uV {dst:Option Tmp} {xs:List Operand} {ts:Array TypeId} {t':TypeId} {p:String} {af:Array Edge} {g:Option (Nat×Bool)} {v:Value} {vs:List Value} (hx:xs.map a.eval=vs)
  (hr:(Builtin.append_ ts t' vs.toArray).run P w=.ok v w'):(execOp a.eval ⟨dst,.call ⟨.builtin .append,xs.toArray,ts⟩,t',p,af,g⟩).run P w=.ok (.value v) w':=by
 subst hx;exact kP (fun _=>rfl) hr
theorem xt {dst:Option Tmp} {xs:List Operand} {ts:Array TypeId} {t':TypeId} {p:String} {af:Array Edge} {g:Option (Nat×Bool)} {v:Value} {vs:List Value} (hx:xs.map a.eval=vs)
  (hr:(Builtin.copy_ ts t' vs.toArray).run P w=.ok v w'):(execOp a.eval ⟨dst,.call ⟨.builtin .copy,xs.toArray,ts⟩,t',p,af,g⟩).run P w=.ok (.value v) w':=by
 subst hx;exact kP (fun _=>rfl) hr
theorem uW {dst:Option Tmp} {xs:List Operand} {ts:Array TypeId} {t':TypeId} {p:String} {af:Array Edge} {g:Option (Nat×Bool)} {v:Value} {vs:List Value} (hx:xs.map a.eval=vs)
  (hr:(Builtin.delete_ ts t' vs.toArray).run P w=.ok v w'):(execOp a.eval ⟨dst,.call ⟨.builtin .delete,xs.toArray,ts⟩,t',p,af,g⟩).run P w=.ok (.value v) w':=by
 subst hx;exact kP (fun _=>rfl) hr
theorem wo {dst:Option Tmp} {xs:List Operand} {ts:Array TypeId} {t':TypeId} {p:String} {af:Array Edge} {g:Option (Nat×Bool)} {v:Value} {vs:List Value} (hx:xs.map a.eval=vs)
  (hr:(Builtin.clear_ ts t' vs.toArray).run P w=.ok v w'):(execOp a.eval ⟨dst,.call ⟨.builtin .clear,xs.toArray,ts⟩,t',p,af,g⟩).run P w=.ok (.value v) w':=by
 subst hx;exact kP (fun _=>rfl) hr
theorem zh {dst:Option Tmp} {xs:List Operand} {ts:Array TypeId} {t':TypeId} {p:String} {af:Array Edge} {g:Option (Nat×Bool)} {v:Value} {vs:List Value} (hx:xs.map a.eval=vs)
  (hr:(Builtin.len_ ts t' vs.toArray).run P w=.ok v w'):(execOp a.eval ⟨dst,.call ⟨.builtin .len,xs.toArray,ts⟩,t',p,af,g⟩).run P w=.ok (.value v) w':=by
 subst hx;exact kP (fun _=>rfl) hr
section
variable {dst:Option Tmp} {x y z:Operand} {t t2:TypeId} {t':TypeId} {p:String} {af:Array Edge} {g:Option (Nat×Bool)} {u v vx vy vz:Value}
theorem AV {n:Nat} {ps:List (Nat×Operand)} {ps':List (Nat×Value)} (hp:(ps.map fun q=>(q.1,a.eval q.2))=ps') (hr:(Instr.buildSlice t n ps'.toArray).run P w=.ok v w'):
  (execOp a.eval ⟨dst,.buildSlice t n ps.toArray,t',p,af,g⟩).run P w=.ok (.value v) w':=by
 subst hp;simp only[execOp,ph,Sem.run_bind,hr,Result.andThen_ok,Sem.run_pure]
theorem CV (hx:a.eval x=vx) (hy:a.eval y=vy) (hr:(Instr.makeSlice t vx vy).run P w=.ok v w'):(execOp a.eval ⟨dst,.makeSlice t x y,t',p,af,g⟩).run P w=.ok (.value v) w':=by
 simp only[execOp,hx,hy,Sem.run_bind,hr,Result.andThen_ok,Sem.run_pure]
theorem Jg (hr:(Instr.makeMap t none).run P w=.ok v w'):(execOp a.eval ⟨dst,.makeMap t none,t',p,af,g⟩).run P w=.ok (.value v) w':=by
 simp only[execOp,qs,Sem.run_bind,hr,Result.andThen_ok,Sem.run_pure]
theorem Fj (hx:a.eval x=vx) (hr:(Instr.makeMap t (some vx)).run P w=.ok v w'):(execOp a.eval ⟨dst,.makeMap t (some x),t',p,af,g⟩).run P w=.ok (.value v) w':=by
 simp only[execOp,cD,hx,Sem.run_bind,hr,Result.andThen_ok,Sem.run_pure]
theorem K5 {b:Bool} (hx:a.eval x=vx) (hy:a.eval y=vy) (hr:(Instr.lookup t vx vy b).run P w=.ok v w'):(execOp a.eval ⟨dst,.lookup t x y b,t',p,af,g⟩).run P w=.ok (.value v) w':=by
 simp only[execOp,hx,hy,Sem.run_bind,hr,Result.andThen_ok,Sem.run_pure]
theorem CW (hx:a.eval x=vx) (hy:a.eval y=vy) (hz:a.eval z=vz) (hr:(Instr.mapUpdate t vx vy vz).run P w=.ok () w'):(execOp a.eval ⟨dst,.mapUpdate t x y z,t',p,af,g⟩).run P w=.ok .skip w':=by
 simp only[execOp,hx,hy,hz,Sem.run_bind,hr,Result.andThen_ok,Sem.run_pure]
theorem K6 (hx:a.eval x=vx) (hy:a.eval y=vy) (hz:a.eval z=vz) (hr:(Instr.mapUpdate t vx vy vz).run P w=.ok () w'):(execOp a.eval ⟨dst,.insert t x y z,t',p,af,g⟩).run P w=.ok .skip w':=by
 simp only[execOp,hx,hy,hz,Sem.run_bind,hr,Result.andThen_ok,Sem.run_pure]
theorem Jh (hx:a.eval x=vx) (hr:(convert t t2 vx).run P w=.ok v w'):(execOp a.eval ⟨dst,.convert t t2 x,t',p,af,g⟩).run P w=.ok (.value v) w':=by
 simp only[execOp,hx,Sem.run_bind,hr,Result.andThen_ok,Sem.run_pure]
end
theorem YJ {dst:Option Tmp} {t:TypeId} {e:TypeId} {x:Operand} {t':TypeId} {p:String} {af:Array Edge} {g:Option (Nat×Bool)} {s:Sl}
  (hu:(underlying t).run P w=.ok (.slice e) w) (hx:a.eval x=s.v):
  (execOp a.eval ⟨dst,.call ⟨.builtin .len,#[x],#[t]⟩,t',p,af,g⟩).run P w=.ok (.value (.int .i64 s.n)) w:=by
 simp[execOp,resolve,invoke,builtin,Builtin.len_,hu,hx,goInt]
theorem CX {dst:Option Tmp} {x:Operand} {f:FuncId} {first captured:List Value} {xs:List Operand} {ats:Array TypeId} {t':TypeId} {p:String} {af:Array Edge} {g:Option (Nat×Bool)} {args:List Value}
  (hx:a.eval x=.func (.func f) first.toArray captured.toArray)
  (hc:∀(args:Array Value) (w:World),(callFunc f args).run P w=.ok (.enter f args) w) (ha:first++xs.map a.eval++captured=args):
  (execOp a.eval ⟨dst,.call ⟨.value x,xs.toArray,ats⟩,t',p,af,g⟩).run P w=.ok (.enter f args.toArray) w:=by
 subst ha;simp only[execOp,resolve,hx,Deferred.ofValue,Sem.run_bind,Sem.run_pure,Result.andThen_ok,invoke,hc];simp
theorem kQ {x:Value} {k:IntKind} {i y:Nat} {code:BoundsCode} (hx:x=.int k (i:Int)) (h:i<=y):(Instr.sliceBound x y code).run P w=.ok i w:=by
 subst hx;have:(i:Int)<=(y:Int):=by omega
 simp[Instr.sliceBound,asIntOf,this]
theorem xu {dst:Option Tmp} {s d e:TypeId} {x:Operand} {t':TypeId} {p:String} {af:Array Edge} {g:Option (Nat×Bool)} {sl:Sl} {l:List UInt8}
  (hs:P.underlying s=some (.slice e)) (he:P.underlying e=some (.int .u8)) (hd:P.underlying d=some .string) (hx:a.eval x=sl.v) (hb:pY w sl l):
  (execOp a.eval ⟨dst,.convert s d x,t',p,af,g⟩).run P w=.ok (.value (.string ⟨l.toArray⟩)) w:=by
 obtain⟨hn,hc⟩:=hb;obtain⟨sa,sn,sc⟩:=sl;simp only at hn hc;subst hn;have key:(convert s d (.slice sa l.length sc)).run P w=.ok (.string ⟨l.toArray⟩) w:=by
  cases sa with
  | none=>
   have:l=[]:=Classical.byContradiction fun h=>by obtain⟨ad,h1,_⟩:=hc h;cases h1
   subst this;exact run_convert_bytes_nil w s e hs he _ _ d hd
  | some ad=>
   refine run_convert_bytes_back w s d e ad sc l hs he hd fun j hj=>?_;obtain⟨Gz,h1,h2⟩:=hc (fun h=>by simp[h]at hj);injection h1 with h1;subst h1;exact h2 j _ (by simp[fx,bA hj])
 simp only[execOp,hx,Sem.run_bind,key,Result.andThen_ok,Sem.run_pure]
theorem Fk {dst:Option Tmp} {fn:Fn} {fs cs:List Operand} {t':TypeId} {p:String} {af:Array Edge} {g:Option (Nat×Bool)} {fv cv:List Value} (h1:fs.map a.eval=fv) (h2:cs.map a.eval=cv):
  (execOp a.eval ⟨dst,.makeFunc fn fs.toArray cs.toArray,t',p,af,g⟩).run P w=.ok (.value (.func fn fv.toArray cv.toArray)) w:=by
 subst h1;subst h2;simp only[execOp,Instr.makeFunc,ph,Sem.run_bind,Sem.run_pure,Result.andThen_ok]
theorem YK {dst:Option Tmp} {t ty:TypeId} {x y:Operand} {t':TypeId} {p:String} {af:Array Edge} {g:Option (Nat×Bool)} {k:IntKind} {m n:Int} (hx:a.eval x=.int k m) (hy:a.eval y=.int k n) (hn:n≠0):
  (execOp a.eval ⟨dst,.binOp .quo t x y ty,t',p,af,g⟩).run P w=.ok (.value (.int k (k.wrap (m.tdiv n)))) w:=by
 have e:binOp .quo t (.int k m) (.int k n)=Op.intDiv .quo k m n:=by simp[binOp]
 have hg:eqGuard .quo t x y (.int k m) (.int k n)=pure ():=rfl;simp only[execOp,hx,hy,hg,e,Op.intDiv,hn,iy,Sem.run_bind,Sem.run_pure,Result.andThen_ok]
theorem YL {dst:Option Tmp} {t ty:TypeId} {x y:Operand} {t':TypeId} {p:String} {af:Array Edge} {g:Option (Nat×Bool)} {k:IntKind} {m n:Int} (hx:a.eval x=.int k m) (hy:a.eval y=.int k n) (hn:n≠0):
  (execOp a.eval ⟨dst,.binOp .rem t x y ty,t',p,af,g⟩).run P w=.ok (.value (.int k (m.tmod n))) w:=by
 have e:binOp .rem t (.int k m) (.int k n)=Op.intDiv .rem k m n:=by simp[binOp]
 have hg:eqGuard .rem t x y (.int k m) (.int k n)=pure ():=rfl;simp only[execOp,hx,hy,hg,e,Op.intDiv,hn,iy,Sem.run_bind,Sem.run_pure,Result.andThen_ok]
theorem YM {dst:Option Tmp} {t ty:TypeId} {x y:Operand} {t':TypeId} {p:String} {af:Array Edge} {g:Option (Nat×Bool)} {k k':IntKind} {m n:Int} (hx:a.eval x=.int k m) (hy:a.eval y=.int k' n) (hn:0<=n):
  (execOp a.eval ⟨dst,.binOp .shl t x y ty,t',p,af,g⟩).run P w=.ok (.value (.int k (k.wrap (m*2 ^ (min n.toNat k.bits))))) w:=by
 have hg:eqGuard .shl t x y (.int k m) (.int k' n)=pure ():=rfl;have e:binOp .shl t (.int k m) (.int k' n)=Op.shift .shl k m k' n:=rfl;have V9:¬n<0:=by omega
 simp only[execOp,hx,hy,hg,e,Op.shift,V9,iy,Sem.run_bind,Sem.run_pure,Result.andThen_ok]
theorem YN {dst:Option Tmp} {t ty:TypeId} {x y:Operand} {t':TypeId} {p:String} {af:Array Edge} {g:Option (Nat×Bool)} {k k':IntKind} {m n:Int} (hx:a.eval x=.int k m) (hy:a.eval y=.int k' n) (hn:0<=n):
  (execOp a.eval ⟨dst,.binOp .shr t x y ty,t',p,af,g⟩).run P w=.ok (.value (.int k (m.fdiv (2 ^ (min n.toNat k.bits))))) w:=by
 have hg:eqGuard .shr t x y (.int k m) (.int k' n)=pure ():=rfl;have e:binOp .shr t (.int k m) (.int k' n)=Op.shift .shr k m k' n:=rfl;have V9:¬n<0:=by omega
 simp only[execOp,hx,hy,hg,e,Op.shift,V9,iy,Sem.run_bind,Sem.run_pure,Result.andThen_ok]
theorem Fl {dst:Option Tmp} {t:TypeId} {x i:Operand} {t':TypeId} {p:String} {af:Array Edge} {g:Option (Nat×Bool)} {s:ByteArray} {k:IntKind} {n:Int} {c:UInt8}
  (hu:(underlying t).run P w=.ok .string w) (hx:a.eval x=.string s) (hi:a.eval i=.int k n) (h0:0<=n) (h1:s[n.toNat]? =some c):
  (execOp a.eval ⟨dst,.index t x i,t',p,af,g⟩).run P w=.ok (.value (.int .u8 (c.toNat:Int))) w:=by
 simp only[execOp,hx,hi,Instr.index,asIntOf,hu,Sem.run_bind,Sem.run_pure,Result.andThen_ok,h0,if_true,h1]
theorem K7 {dst:Option Tmp} {t ty:TypeId} {x y:Operand} {t':TypeId} {p:String} {af:Array Edge} {g:Option (Nat×Bool)} {s u:ByteArray} (hx:a.eval x=.string s) (hy:a.eval y=.string u) (hn:(s.size:Int)+u.size<=9223372036854775807):
  (execOp a.eval ⟨dst,.binOp .add t x y ty,t',p,af,g⟩).run P w=.ok (.value (.string (s++u))) w:=by
 have hg:eqGuard .add t x y (.string s) (.string u)=pure ():=rfl;have e:binOp .add t (.string s) (.string u)=Op.stringOp .add s u:=rfl;have V9:¬((s.size+u.size:Nat):Int)>IntKind.i64.max:=by
  have:IntKind.i64.max=9223372036854775807:=by decide
  rw[this];omega
 simp only[execOp,hx,hy,hg,e,Op.stringOp,V9,iy,Sem.run_bind,Sem.run_pure,Result.andThen_ok]
theorem YO {dst:Option Tmp} {t:TypeId} {e:TypeId} {x:Operand} {t':TypeId} {p:String} {af:Array Edge} {g:Option (Nat×Bool)} {s:Sl}
  (hu:(underlying t).run P w=.ok (.slice e) w) (hx:a.eval x=s.v):
  (execOp a.eval ⟨dst,.call ⟨.builtin .cap,#[x],#[t]⟩,t',p,af,g⟩).run P w=.ok (.value (.int .i64 s.c)) w:=by
 simp[execOp,resolve,invoke,builtin,Builtin.cap_,hu,hx,goInt]
theorem AW {dst:Option Tmp} {t:TypeId} {x lo:Operand} {t':TypeId} {p:String} {af:Array Edge} {g:Option (Nat×Bool)} {s:ByteArray} {k:IntKind} {l:Nat}
  (hu:(underlying t).run P w=.ok .string w) (hx:a.eval x=.string s) (hl:a.eval lo=.int k (l:Int)) (h1:l<=s.size) (_h2:s.size<=s.size):
  (execOp a.eval ⟨dst,.slice t x (some lo) none none,t',p,af,g⟩).run P w=.ok (.value (.string (s.extract l s.size))) w:=by
 simp[execOp,hx,Instr.sliceAt,hu,Instr.slice,Instr.sliceBounds,kQ hl h1]
theorem AX {dst:Option Tmp} {t:TypeId} {x hi:Operand} {t':TypeId} {p:String} {af:Array Edge} {g:Option (Nat×Bool)} {s:ByteArray} {k:IntKind} {h:Nat}
  (hu:(underlying t).run P w=.ok .string w) (hx:a.eval x=.string s) (hh:a.eval hi=.int k (h:Int)) (_h1:0<=h) (h2:h<=s.size):
  (execOp a.eval ⟨dst,.slice t x none (some hi) none,t',p,af,g⟩).run P w=.ok (.value (.string (s.extract 0 h))) w:=by
 simp[execOp,hx,Instr.sliceAt,hu,Instr.slice,Instr.sliceBounds,kQ hh h2]
theorem AY {dst:Option Tmp} {t:TypeId} {x lo hi:Operand} {t':TypeId} {p:String} {af:Array Edge} {g:Option (Nat×Bool)} {s:ByteArray} {k k':IntKind} {l h:Nat}
  (hu:(underlying t).run P w=.ok .string w) (hx:a.eval x=.string s) (hl:a.eval lo=.int k (l:Int)) (hh:a.eval hi=.int k' (h:Int)) (h1:l<=h) (h2:h<=s.size):
  (execOp a.eval ⟨dst,.slice t x (some lo) (some hi) none,t',p,af,g⟩).run P w=.ok (.value (.string (s.extract l h))) w:=by
 simp[execOp,hx,Instr.sliceAt,hu,Instr.slice,Instr.sliceBounds,kQ hh h2,kQ hl h1]
theorem zL {dst:Option Tmp} {s d:TypeId} {x:Operand} {t':TypeId} {p:String} {af:Array Edge} {g:Option (Nat×Bool)} {ks kd k:IntKind} {n:Int}
  (hs:(underlying s).run P w=.ok (.int ks) w) (hd:(underlying d).run P w=.ok (.int kd) w) (hx:a.eval x=.int k n):
  (execOp a.eval ⟨dst,.convert s d x,t',p,af,g⟩).run P w=.ok (.value (.int kd (kd.wrap n))) w:=by
 simp[execOp,hx,convert,hs,hd,Conv.intToInt]
theorem zM {dst:Option Tmp} {s d:TypeId} {x:Operand} {t':TypeId} {p:String} {af:Array Edge} {g:Option (Nat×Bool)} {n:ByteArray}
  (hs:(underlying s).run P w=.ok .string w) (hd:(underlying d).run P w=.ok .string w) (hx:a.eval x=.string n):
  (execOp a.eval ⟨dst,.convert s d x,t',p,af,g⟩).run P w=.ok (.value (.string n)) w:=by
 simp[execOp,hx,convert,hs,hd]
theorem P9 {dst:Option Tmp} {t:TypeId} {x:Operand} {t':TypeId} {p:String} {af:Array Edge} {g:Option (Nat×Bool)} {d:TypeDesc} {v:Value}
  (hu:(underlying t).run P w=.ok d w) (hd:(match d with | .interface _=>false | _=>true)=true) (hx:a.eval x=v):
  (execOp a.eval ⟨dst,.makeInterface t x,t',p,af,g⟩).run P w=.ok (.value (.iface t v)) w:=by
 subst hx;cases d<;>first | (simp at hd;done) | simp[execOp,Instr.makeInterface,hu]
theorem K8 {dst:Option Tmp} {t:TypeId} {x:Operand} {t':TypeId} {p:String} {af:Array Edge} {g:Option (Nat×Bool)} {s:ByteArray}
  (hu:(underlying t).run P w=.ok .string w) (hx:a.eval x=.string s):
  (execOp a.eval ⟨dst,.call ⟨.builtin .len,#[x],#[t]⟩,t',p,af,g⟩).run P w=.ok (.value (.int .i64 s.size)) w:=by
 simp[execOp,resolve,invoke,builtin,Builtin.len_,hu,hx,goInt]
theorem YP {dst:Option Tmp} {ts:Array TypeId} {x y:Operand} {t':TypeId} {p:String} {af:Array Edge} {g:Option (Nat×Bool)} {k k':IntKind} {m n:Int} (hx:a.eval x=.int k m) (hy:a.eval y=.int k' n):
  (execOp a.eval ⟨dst,.call ⟨.builtin .min,#[x,y],ts⟩,t',p,af,g⟩).run P w=.ok (.value (.int k (if n<m then n else m))) w:=by
 simp[execOp,resolve,invoke,builtin,hx,hy,run_min_int2]
theorem YQ {dst:Option Tmp} {ts:Array TypeId} {x y:Operand} {t':TypeId} {p:String} {af:Array Edge} {g:Option (Nat×Bool)} {k k':IntKind} {m n:Int} (hx:a.eval x=.int k m) (hy:a.eval y=.int k' n):
  (execOp a.eval ⟨dst,.call ⟨.builtin .max,#[x,y],ts⟩,t',p,af,g⟩).run P w=.ok (.value (.int k (if n>m then n else m))) w:=by
 simp[execOp,resolve,invoke,builtin,hx,hy,run_max_int2]
theorem AZ {dst:Option Tmp} {t ty:TypeId} {x y:Operand} {t':TypeId} {p:String} {af:Array Edge} {g:Option (Nat×Bool)} {e:TypeId} {q:Option Addr} {b:Bool} (hu:(underlying t).run P w=.ok (.pointer e) w) (hx:a.eval x=.pointer q) (hy:a.eval y=.pointer none) (hb:(q.isNone)=b):
  (execOp a.eval ⟨dst,.binOp .eql t x y ty,t',p,af,g⟩).run P w=.ok (.value (.bool b)) w:=by
 subst hb;have hE:∀d,(Op.equalIn (d+1) t (.pointer q) (.pointer none)).run P w=.ok q.isNone w:=fun d=>by
  unfold Op.equalIn;cases q<;>simp only[Sem.run_bind,hu,Result.andThen_ok]<;>rfl
 have hB:binOp .eql t (.pointer q) (.pointer none)=(do pure (.bool ((<-Op.equal t (.pointer q) (.pointer none))))):=by cases q<;>rfl
 have hG:eqGuard .eql t x y (.pointer q) (.pointer none)=pure ():=rfl;simp only[execOp,hx,hy,hG,hB,Op.equal,Op.maxDepth,Sem.run_bind,Sem.run_pure,Result.andThen_ok,hE 9999]
theorem A0 {dst:Option Tmp} {t ty:TypeId} {x y:Operand} {t':TypeId} {p:String} {af:Array Edge} {g:Option (Nat×Bool)} {e:TypeId} {q:Option Addr} {b:Bool} (hu:(underlying t).run P w=.ok (.pointer e) w) (hx:a.eval x=.pointer none) (hy:a.eval y=.pointer q) (hb:(q.isNone)=b):
  (execOp a.eval ⟨dst,.binOp .eql t x y ty,t',p,af,g⟩).run P w=.ok (.value (.bool b)) w:=by
 subst hb;have hE:∀d,(Op.equalIn (d+1) t (.pointer none) (.pointer q)).run P w=.ok q.isNone w:=fun d=>by
  unfold Op.equalIn;cases q<;>simp only[Sem.run_bind,hu,Result.andThen_ok]<;>rfl
 have hB:binOp .eql t (.pointer none) (.pointer q)=(do pure (.bool ((<-Op.equal t (.pointer none) (.pointer q))))):=by cases q<;>rfl
 have hG:eqGuard .eql t x y (.pointer none) (.pointer q)=pure ():=rfl;simp only[execOp,hx,hy,hG,hB,Op.equal,Op.maxDepth,Sem.run_bind,Sem.run_pure,Result.andThen_ok,hE 9999]
theorem A1 {dst:Option Tmp} {t ty:TypeId} {x y:Operand} {t':TypeId} {p:String} {af:Array Edge} {g:Option (Nat×Bool)} {e:TypeId} {q:Option Addr} {b:Bool} (hu:(underlying t).run P w=.ok (.pointer e) w) (hx:a.eval x=.pointer q) (hy:a.eval y=.pointer none) (hb:(!q.isNone)=b):
  (execOp a.eval ⟨dst,.binOp .neq t x y ty,t',p,af,g⟩).run P w=.ok (.value (.bool b)) w:=by
 subst hb;have hE:∀d,(Op.equalIn (d+1) t (.pointer q) (.pointer none)).run P w=.ok q.isNone w:=fun d=>by
  unfold Op.equalIn;cases q<;>simp only[Sem.run_bind,hu,Result.andThen_ok]<;>rfl
 have hB:binOp .neq t (.pointer q) (.pointer none)=(do pure (.bool (!(<-Op.equal t (.pointer q) (.pointer none))))):=by cases q<;>rfl
 have hG:eqGuard .neq t x y (.pointer q) (.pointer none)=pure ():=rfl;simp only[execOp,hx,hy,hG,hB,Op.equal,Op.maxDepth,Sem.run_bind,Sem.run_pure,Result.andThen_ok,hE 9999]
theorem A2 {dst:Option Tmp} {t ty:TypeId} {x y:Operand} {t':TypeId} {p:String} {af:Array Edge} {g:Option (Nat×Bool)} {e:TypeId} {q:Option Addr} {b:Bool} (hu:(underlying t).run P w=.ok (.pointer e) w) (hx:a.eval x=.pointer none) (hy:a.eval y=.pointer q) (hb:(!q.isNone)=b):
  (execOp a.eval ⟨dst,.binOp .neq t x y ty,t',p,af,g⟩).run P w=.ok (.value (.bool b)) w:=by
 subst hb;have hE:∀d,(Op.equalIn (d+1) t (.pointer none) (.pointer q)).run P w=.ok q.isNone w:=fun d=>by
  unfold Op.equalIn;cases q<;>simp only[Sem.run_bind,hu,Result.andThen_ok]<;>rfl
 have hB:binOp .neq t (.pointer none) (.pointer q)=(do pure (.bool (!(<-Op.equal t (.pointer none) (.pointer q))))):=by cases q<;>rfl
 have hG:eqGuard .neq t x y (.pointer none) (.pointer q)=pure ():=rfl;simp only[execOp,hx,hy,hG,hB,Op.equal,Op.maxDepth,Sem.run_bind,Sem.run_pure,Result.andThen_ok,hE 9999]
theorem Ji {dst:Option Tmp} {t ty:TypeId} {x y:Operand} {t':TypeId} {p:String} {af:Array Edge} {g:Option (Nat×Bool)} {m n:Bool} (hu:P.underlying t=some .bool) (hx:a.eval x=.bool m) (hy:a.eval y=.bool n):
  (execOp a.eval ⟨dst,.binOp .eql t x y ty,t',p,af,g⟩).run P w=.ok (.value (.bool (m==n))) w:=by
 have hG:eqGuard .eql t x y (.bool m) (.bool n)=pure ():=rfl;simp only[execOp,hx,hy,hG,Sem.run_bind,Sem.run_pure,Result.andThen_ok,run_eql_bool w t m n hu]
theorem Jj {dst:Option Tmp} {t ty:TypeId} {x y:Operand} {t':TypeId} {p:String} {af:Array Edge} {g:Option (Nat×Bool)} {m n:Bool} (hu:P.underlying t=some .bool) (hx:a.eval x=.bool m) (hy:a.eval y=.bool n):
  (execOp a.eval ⟨dst,.binOp .neq t x y ty,t',p,af,g⟩).run P w=.ok (.value (.bool (!(m==n)))) w:=by
 have hG:eqGuard .neq t x y (.bool m) (.bool n)=pure ():=rfl;simp only[execOp,hx,hy,hG,Sem.run_bind,Sem.run_pure,Result.andThen_ok,run_neq_bool w t m n hu]
theorem CY {dst:Option Tmp} {t ty:TypeId} {x y:Operand} {t':TypeId} {p:String} {af:Array Edge} {g:Option (Nat×Bool)} {e:TypeId} {s:Sl} (hu:(underlying t).run P w=.ok (.slice e) w) (hx:a.eval x=s.v) (hy:a.eval y=.slice none 0 0):
  (execOp a.eval ⟨dst,.binOp .eql t x y ty,t',p,af,g⟩).run P w=.ok (.value (.bool (s.a.isNone))) w:=by
 obtain⟨sa,sn,sc⟩:=s;have hE:∀d,(Op.equalIn (d+1) t (.slice sa sn sc) (.slice none 0 0)).run P w=.ok sa.isNone w:=fun d=>by
  unfold Op.equalIn;cases sa<;>simp only[Sem.run_bind,hu,Result.andThen_ok]<;>rfl
 have hB:binOp .eql t (.slice sa sn sc) (.slice none 0 0)=(do pure (.bool ((<-Op.equal t (.slice sa sn sc) (.slice none 0 0))))):=by cases sa<;>rfl
 have hG:eqGuard .eql t x y (.slice sa sn sc) (.slice none 0 0)=pure ():=rfl;simp only[execOp,hx,hy,hG,hB,Op.equal,Op.maxDepth,Sem.run_bind,Sem.run_pure,Result.andThen_ok,hE 9999]
theorem CZ {dst:Option Tmp} {t ty:TypeId} {x y:Operand} {t':TypeId} {p:String} {af:Array Edge} {g:Option (Nat×Bool)} {e:TypeId} {s:Sl} (hu:(underlying t).run P w=.ok (.slice e) w) (hx:a.eval x=.slice none 0 0) (hy:a.eval y=s.v):
  (execOp a.eval ⟨dst,.binOp .eql t x y ty,t',p,af,g⟩).run P w=.ok (.value (.bool (s.a.isNone))) w:=by
 obtain⟨sa,sn,sc⟩:=s;have hE:∀d,(Op.equalIn (d+1) t (.slice none 0 0) (.slice sa sn sc)).run P w=.ok sa.isNone w:=fun d=>by
  unfold Op.equalIn;cases sa<;>simp only[Sem.run_bind,hu,Result.andThen_ok]<;>rfl
 have hB:binOp .eql t (.slice none 0 0) (.slice sa sn sc)=(do pure (.bool ((<-Op.equal t (.slice none 0 0) (.slice sa sn sc))))):=by cases sa<;>rfl
 have hG:eqGuard .eql t x y (.slice none 0 0) (.slice sa sn sc)=pure ():=rfl;simp only[execOp,hx,hy,hG,hB,Op.equal,Op.maxDepth,Sem.run_bind,Sem.run_pure,Result.andThen_ok,hE 9999]
theorem C0 {dst:Option Tmp} {t ty:TypeId} {x y:Operand} {t':TypeId} {p:String} {af:Array Edge} {g:Option (Nat×Bool)} {e:TypeId} {s:Sl} (hu:(underlying t).run P w=.ok (.slice e) w) (hx:a.eval x=s.v) (hy:a.eval y=.slice none 0 0):
  (execOp a.eval ⟨dst,.binOp .neq t x y ty,t',p,af,g⟩).run P w=.ok (.value (.bool (!s.a.isNone))) w:=by
 obtain⟨sa,sn,sc⟩:=s;have hE:∀d,(Op.equalIn (d+1) t (.slice sa sn sc) (.slice none 0 0)).run P w=.ok sa.isNone w:=fun d=>by
  unfold Op.equalIn;cases sa<;>simp only[Sem.run_bind,hu,Result.andThen_ok]<;>rfl
 have hB:binOp .neq t (.slice sa sn sc) (.slice none 0 0)=(do pure (.bool (!(<-Op.equal t (.slice sa sn sc) (.slice none 0 0))))):=by cases sa<;>rfl
 have hG:eqGuard .neq t x y (.slice sa sn sc) (.slice none 0 0)=pure ():=rfl;simp only[execOp,hx,hy,hG,hB,Op.equal,Op.maxDepth,Sem.run_bind,Sem.run_pure,Result.andThen_ok,hE 9999]
theorem C1 {dst:Option Tmp} {t ty:TypeId} {x y:Operand} {t':TypeId} {p:String} {af:Array Edge} {g:Option (Nat×Bool)} {e:TypeId} {s:Sl} (hu:(underlying t).run P w=.ok (.slice e) w) (hx:a.eval x=.slice none 0 0) (hy:a.eval y=s.v):
  (execOp a.eval ⟨dst,.binOp .neq t x y ty,t',p,af,g⟩).run P w=.ok (.value (.bool (!s.a.isNone))) w:=by
 obtain⟨sa,sn,sc⟩:=s;have hE:∀d,(Op.equalIn (d+1) t (.slice none 0 0) (.slice sa sn sc)).run P w=.ok sa.isNone w:=fun d=>by
  unfold Op.equalIn;cases sa<;>simp only[Sem.run_bind,hu,Result.andThen_ok]<;>rfl
 have hB:binOp .neq t (.slice none 0 0) (.slice sa sn sc)=(do pure (.bool (!(<-Op.equal t (.slice none 0 0) (.slice sa sn sc))))):=by cases sa<;>rfl
 have hG:eqGuard .neq t x y (.slice none 0 0) (.slice sa sn sc)=pure ():=rfl;simp only[execOp,hx,hy,hG,hB,Op.equal,Op.maxDepth,Sem.run_bind,Sem.run_pure,Result.andThen_ok,hE 9999]
theorem Fm {dst:Option Tmp} {t e:TypeId} {x lo:Operand} {t':TypeId} {p:String} {af:Array Edge} {g:Option (Nat×Bool)} {s:Sl} {k:IntKind} {l sz:Nat}
  (hu:(underlying t).run P w=.ok (.slice e) w) (hsz:(sizeOf e).run P w=.ok sz w) (hx:a.eval x=s.v) (hl:a.eval lo=.int k (l:Int)) (h1:l<=s.n) (_h2:s.n<=s.c) (_h3:s.c<=s.c):
  (execOp a.eval ⟨dst,.slice t x (some lo) none none,t',p,af,g⟩).run P w=.ok (.value (s.cut l s.n s.c sz).v) w:=by
 simp only[execOp,hx,Instr.sliceAt,hu,Sem.run_bind,Result.andThen_ok,Instr.slice,Instr.sliceBounds,cD,qs,Sem.run_pure,kQ hl h1,hsz,Sl.cut]
theorem Fp {dst:Option Tmp} {t e:TypeId} {x hi:Operand} {t':TypeId} {p:String} {af:Array Edge} {g:Option (Nat×Bool)} {s:Sl} {k:IntKind} {h sz:Nat}
  (hu:(underlying t).run P w=.ok (.slice e) w) (hsz:(sizeOf e).run P w=.ok sz w) (hx:a.eval x=s.v) (hh:a.eval hi=.int k (h:Int)) (_h1:0<=h) (h2:h<=s.c) (_h3:s.c<=s.c):
  (execOp a.eval ⟨dst,.slice t x none (some hi) none,t',p,af,g⟩).run P w=.ok (.value (s.cut 0 h s.c sz).v) w:=by
 simp only[execOp,hx,Instr.sliceAt,hu,Sem.run_bind,Result.andThen_ok,Instr.slice,Instr.sliceBounds,cD,qs,Sem.run_pure,if_true,kQ hh h2,hsz,Sl.cut]
theorem Fq {dst:Option Tmp} {t e:TypeId} {x lo hi:Operand} {t':TypeId} {p:String} {af:Array Edge} {g:Option (Nat×Bool)} {s:Sl} {k k':IntKind} {l h sz:Nat}
  (hu:(underlying t).run P w=.ok (.slice e) w) (hsz:(sizeOf e).run P w=.ok sz w) (hx:a.eval x=s.v) (hl:a.eval lo=.int k (l:Int)) (hh:a.eval hi=.int k' (h:Int)) (h1:l<=h) (h2:h<=s.c) (_h3:s.c<=s.c):
  (execOp a.eval ⟨dst,.slice t x (some lo) (some hi) none,t',p,af,g⟩).run P w=.ok (.value (s.cut l h s.c sz).v) w:=by
 simp only[execOp,hx,Instr.sliceAt,hu,Sem.run_bind,Result.andThen_ok,Instr.slice,Instr.sliceBounds,cD,qs,Sem.run_pure,if_true,kQ hh h2,kQ hl h1,hsz,Sl.cut]
theorem Fs {dst:Option Tmp} {t e:TypeId} {x hi mx:Operand} {t':TypeId} {p:String} {af:Array Edge} {g:Option (Nat×Bool)} {s:Sl} {k' k2:IntKind} {h m sz:Nat}
  (hu:(underlying t).run P w=.ok (.slice e) w) (hsz:(sizeOf e).run P w=.ok sz w) (hx:a.eval x=s.v) (hh:a.eval hi=.int k' (h:Int)) (hm:a.eval mx=.int k2 (m:Int)) (_h1:0<=h) (h2:h<=m) (h3:m<=s.c):
  (execOp a.eval ⟨dst,.slice t x none (some hi) (some mx),t',p,af,g⟩).run P w=.ok (.value (s.cut 0 h m sz).v) w:=by
 simp only[execOp,hx,Instr.sliceAt,hu,Sem.run_bind,Result.andThen_ok,Instr.slice,Instr.sliceBounds,cD,qs,Sem.run_pure,if_true,kQ hm h3,kQ hh h2,hsz,Sl.cut]
theorem Fu {dst:Option Tmp} {t e:TypeId} {x lo hi mx:Operand} {t':TypeId} {p:String} {af:Array Edge} {g:Option (Nat×Bool)} {s:Sl} {k k' k2:IntKind} {l h m sz:Nat}
  (hu:(underlying t).run P w=.ok (.slice e) w) (hsz:(sizeOf e).run P w=.ok sz w) (hx:a.eval x=s.v) (hl:a.eval lo=.int k (l:Int)) (hh:a.eval hi=.int k' (h:Int)) (hm:a.eval mx=.int k2 (m:Int)) (h1:l<=h) (h2:h<=m) (h3:m<=s.c):
  (execOp a.eval ⟨dst,.slice t x (some lo) (some hi) (some mx),t',p,af,g⟩).run P w=.ok (.value (s.cut l h m sz).v) w:=by
 simp only[execOp,hx,Instr.sliceAt,hu,Sem.run_bind,Result.andThen_ok,Instr.slice,Instr.sliceBounds,cD,Sem.run_pure,kQ hm h3,kQ hh h2,kQ hl h1,hsz,Sl.cut,Option.isSome_some,if_true]
section
variable {K:Act->World->Prop} {o:Oper}
theorem UD (hg:Region.wanted o (yielded ops a.tmps)=true) (h:o.wp P a w (wpList P ops Q rest) Q):wpList P ops Q (o::rest) a w:=by
 unfold wpList;rw[if_pos hg];exact .inl h
theorem vP (v:Value) (hr:(execOp a.eval o).run P w=.ok (.value v) w') (ha:a.put o.dst v=a') (h:K a' w'):o.wp P a w K Q:=by
 subst ha;unfold Oper.wp;rw[hr];exact h
theorem K9 (hr:(execOp a.eval o).run P w=.ok .skip w') (ha:a.put o.dst undef=a') (h:K a' w'):o.wp P a w K Q:=by
 subst ha;unfold Oper.wp;rw[hr];exact h
theorem G6 {f:FuncId} {args:Array Value} (hr:(execOp a.eval o).run P w=.ok (.enter f args) w)
  (h:Calls P f args w fun e w'=>∃v a',e=.returned v/\a.put o.dst v=a'/\K a' w'):o.wp P a w K Q:=by
 unfold Oper.wp;rw[hr];refine h.mono ?_;rintro e w' ⟨v,_,rfl,rfl,hk⟩;exact hk
theorem C2 {dst:Option Tmp} {ty:TypeId} {x y:Operand} {t':TypeId} {p:String} {af:Array Edge} {g:Option (Nat×Bool)} {b o:Nat} {cs vs yV:List Value} {et:TypeId} {n:Nat}
  (hsz:(sizeOf ty).run P w=.ok n w) (hx:a.eval x=.pointer (some ⟨b,o,none⟩)) (hv:(a.eval y).cells=vs.toArray) (hn:vs.length=n)
  (h1:vs.all Value.oneCell'=true) (hb:Blk w b et cs) (Gy:o+vs.length<=cs.length) (kH:bO cs o vs=yV) (ha:a.put dst undef=a')
  (h:∀w1,Only [b] w w1->Blk w1 b et yV->K a' w1):Oper.wp P ⟨dst,.store ty x y,t',p,af,g⟩ a w K Q:=
 K9 (P4 hsz hx hv hn (dB.1 h1) hb Gy) ha (h _ (Only.setRow _ _ _) (by rw[<-kH];exact hb.setRow _))
theorem C3 {dst:Option Tmp} {ty:TypeId} {t':TypeId} {p:String} {af:Array Edge} {g:Option (Nat×Bool)} {z:Value} {zs:List Value} {a':Nat->Act}
  (hz:(zeroValue ty).run P w=.ok z w) (hc:z.cells=zs.toArray) (ha:∀b,a.put dst (.pointer (some ⟨b,0,none⟩))=a' b)
  (h:∀b w1,w.heap.size<=b->Only [] w w1->Blk w1 b ty zs->K (a' b) w1):Oper.wp P ⟨dst,.alloc ty,t',p,af,g⟩ a w K Q:=
 vP _ (P5 hz hc) (ha _) (h _ _ (aK _) (Only.alloc _ _) (Blk.alloc _ _ _))
theorem UE {dst:Option Tmp} {ty:TypeId} {x:Operand} {t':TypeId} {p:String} {af:Array Edge} {g:Option (Nat×Bool)} {zs:List Value} {a':Nat->Act}
  (hc:(a.eval x).cells=zs.toArray) (ha:∀b,a.put dst (.pointer (some ⟨b,0,none⟩))=a' b)
  (h:∀b w1,w.heap.size<=b->Only [] w w1->Blk w1 b ty zs->K (a' b) w1):Oper.wp P ⟨dst,.box ty x,t',p,af,g⟩ a w K Q:=
 vP _ (YI hc) (ha _) (h _ _ (aK _) (Only.alloc _ _) (Blk.alloc _ _ _))
end
theorem Jk {id:Nat} (h:Q .normal a w):Exit.inBlock id Q (.exit id) a w:=by simpa[Exit.inBlock]using h
theorem Fv {id PA:Nat} (gf:(PA==id)=false) (h:Q (.exit PA) a w):Exit.inBlock id Q (.exit PA) a w:=by simpa[Exit.inBlock,by simpa using gf]using h
def zN (P:Program) (a:Act) (w:World):List ResultVar->List Value->Prop
 | [],[]=>True
 | .tmp t::r,v::vs=>a.eval (.tmp t)=v/\zN P a w r vs
 | .cell p t::r,v::vs=>(∃ad,a.eval (.tmp p)=.pointer (some ad)/\(loadVar t ad).run P w=.ok v w)/\zN P a w r vs
 | _,_=>False
theorem mq (f:ResultVar->Sem Value) (Ub:∀t,f (.tmp t)=pure (a.tmps.getD t undef)) (hf2:∀q t,f (.cell q t)=(do loadVar t (<-asAddr (a.tmps.getD q undef)))):
  ∀(rs:List ResultVar) (vs:List Value),zN P a w rs vs->(rs.mapM f).run P w=.ok vs w
 | [],[],_=>rfl
 | [],_::_,h=>h.elim
 | .tmp t::r,[],h=>h.elim
 | .cell _ _::r,[],h=>h.elim
 | .tmp t::r,v::vs,h=>by
  have ih:=mq f Ub hf2 r vs h.2;have h1:a.tmps.getD t undef=v:=h.1;rw[List.mapM_cons,Ub];simp only[Sem.run_bind,Sem.run_pure,Result.andThen_ok,h1,ih]
 | .cell q t::r,v::vs,h=>by
  have ih:=mq f Ub hf2 r vs h.2;obtain⟨⟨ad,h1,h2⟩,_⟩:=h;have X2:a.tmps.getD q undef=.pointer (some ad):=h1;rw[List.mapM_cons,hf2];simp only[Sem.run_bind,Sem.run_pure,Result.andThen_ok,X2,asAddr,h2,ih]
theorem UF {fn:Func} {rs:List ResultVar} {v:Value} (h:fn.results=rs.toArray) (hr:zN P a w rs [v]):(results fn a.tmps).run P w=.ok v w:=by
 unfold results;rw[h,List.mapM_toArray];simp only[Sem.run_bind,map_eq_pure_bind,Sem.run_pure];rw[mq _ (fun _=>rfl) (fun _ _=>rfl) rs [v] hr];rfl
theorem Fw {fn:Func} {rs:List ResultVar} {vs:List Value} (h:fn.results=rs.toArray) (hn:(vs.length==1)=false) (hr:zN P a w rs vs):(results fn a.tmps).run P w=.ok (.tuple vs.toArray) w:=by
 unfold results;rw[h,List.mapM_toArray];have V9:¬vs.length=1:=by simpa using hn
 simp only[Sem.run_bind,map_eq_pure_bind,Sem.run_pure];rw[mq _ (fun _=>rfl) (fun _ _=>rfl) rs vs hr];simp only[Result.andThen_ok,kc,V9,dite_false]
theorem Qa {fn:Func} {R:Value->World->Prop} {v:Value} (hr:(results fn a.tmps).run P w=.ok v w) (hd:a.defers=[]) (h:R v w):
 bodyPost P fn (fun e w'=>∃v,e=.returned v/\R v w') .ret a w:=bodyPost_ret hr hd ⟨v,rfl,h⟩
theorem Fx {fn:Func} {R:Value->World->Prop} {v:Value} (hr:(results fn a.tmps).run P w=.ok v w) (hd:a.defers=[]) (h:R v w):
 bodyPost P fn (fun e w'=>∃v,e=.returned v/\R v w') .normal a w:=bodyPost_end hr hd ⟨v,rfl,h⟩
theorem A3 {ty:TypeId} {ad:Addr} {cs:List Value} {n:Nat} (Gx:(isAgg ty).run P w=.ok true w) (hsz:(sizeOf ty).run P w=.ok n w) (hn:cs.length=n) (hc:Cells w ad cs):
  (loadVar ty ad).run P w=.ok (.agg cs.toArray) w:=by
 have hl:=run_loadCells_list (P:=P) w ad cs hc;rw[hn]at hl;simp only[Sem.run_bind,Result.andThen_ok,loadVar,Gx,if_true,hsz,hl,Sem.run_pure]
theorem zi {ty:TypeId} {ad:Addr} {v:Value} (Gx:(isAgg ty).run P w=.ok false w) (hc:w.cell? ad=some v):
  (loadVar ty ad).run P w=.ok v w:=by
 simp only[Sem.run_bind,Result.andThen_ok,loadVar,Gx,fm,iy,run_load,hc]
end
section
variable {P:Program} {ops:Array Oper} {rest:List Oper} {a a':Act} {w:World} {Q:Act->Prop}
theorem YR {o:Oper} (v:Value) (hg:Region.wanted o (yielded ops a.tmps)=true)
  (hr:∀w',(∃n,w'=w.drewN n)->(execOp a.eval o).run P w'=.ok (.value v) w') (ha:a.put o.dst v=a')
  (h:wpQuiet P ops (fun w'=>∃n,w'=w.drewN n) Q rest a'):wpQuiet P ops (fun w'=>∃n,w'=w.drewN n) Q (o::rest) a:=by
 subst ha;unfold wpQuiet;rw[if_pos hg];refine⟨v,fun w' X3=>?_,h⟩;unfold Oper.quietAt;rw[hr w' X3];exact⟨rfl,rfl⟩
theorem afR {o:Oper} (hg:Region.wanted o (yielded ops a.tmps)=false) (ha:a.put o.dst undef=a')
  (h:wpQuiet P ops (fun w'=>∃n,w'=w.drewN n) Q rest a'):wpQuiet P ops (fun w'=>∃n,w'=w.drewN n) Q (o::rest) a:=by
 subst ha;unfold wpQuiet;rw[if_neg (by simp[hg])];exact h
end
theorem La {w w':World}:aR [] w w':=fun _ h=>by simp at h
theorem aR.refl (bs:List Nat) (w:World):aR bs w w:=fun _ _=>rfl
section
variable {P:Program} {ops:Array Oper} {Q:Exit->Act->World->Prop} {md:Region.Mode} {E:Nat->World->World->Prop} {F:World->Prop}
def eP (P:Program) (md:Region.Mode) (ops:Array Oper) (Q:Exit->Act->World->Prop) (E:Nat->World->World->Prop):Nat->Array Bool->Act->World->Prop
 | 0,ba,a,w=>Region.ready md ops ba=[]/\Q .normal a w
 | eo+1,ba,a,w=>
  (Region.ready md ops ba=[]->Q .normal a w)/\
  ∀i∈Region.ready md ops ba,wpOp P ops Q i (fun a' w'=>E i w w'/\eP P md ops Q E eo (ba.setIfInBounds i true) a' w') a w
theorem xv:∀(eo:Nat) (ba:Array Bool) (a:Act) (w:World),eP P md ops Q E eo ba a w->wpAny P md ops Q eo ba a w
 | 0,_,_,_,h=>h
 | eo+1,_,_,_,h=>⟨h.1,fun i hi=>wpOp_mono (fun a' w' h'=>xv eo _ a' w' h'.2) (h.2 i hi)⟩
def pq (md:Region.Mode) (ops:Array Oper) (ba:Array Bool):Prop:=∀k o,ops[k]? =some o->ba.getD k false=true->∀e∈o.after,Region.binds md e=true->ba.getD e.on false=true
def tS (md:Region.Mode) (ops:Array Oper) (ba:Array Bool):Bool:=
 (List.range ops.size).all fun k=>!ba.getD k false||((ops[k]?).map (·.after.all fun e=>!Region.binds md e||ba.getD e.on false)).getD true
theorem zO {ba:Array Bool} (h:tS md ops ba=true):pq md ops ba:=by
 intro k o hk hl e he hb;have bJ:k<ops.size:=(kD.1 hk).1;have:=(dB.1 h) k (List.mem_range.2 bJ);simp only[hl,Bool.not_true,uK,hk,cD,fZ,Array.all_eq_true_iff_forall_mem,bS,bX]at this;rcases this e he with h1 | h1
 ·rw[hb]at h1;cases h1
 ·exact h1
theorem pq.add {ba:Array Bool} {j:Nat} (h:pq md ops ba) (hj:j∈Region.ready md ops ba):pq md ops (ba.setIfInBounds j true):=by
 intro k o hk hl e he hb;obtain⟨_,oj,PB,eU⟩:=mem_ready.1 hj;by_cases hkj:j=k
 ·subst hkj;rw[PB]at hk;injection hk with hk;subst hk;exact getD_set_true (eU e he hb)
 ·rw[getD_set_ne false hkj]at hl;exact getD_set_true (h k o hk hl e he hb)
def qy (md:Region.Mode) (ops:Array Oper) (i:Nat):List Nat->List Nat->Bool
 | _,[]=>true
 | seen,j::r=>((ops[j]?).map fun o=>o.after.any fun e=>Region.binds md e&&(e.on==i||seen.contains e.on)).getD false&&qy md ops i (j::seen) r
theorem vQ {i:Nat} {ba:Array Bool} (hc:pq md ops ba):∀(D seen:List Nat),qy md ops i seen D=true->(∀k∈seen,ba.getD k false=true->ba.getD i false=true)->∀j∈D,∀o,ops[j]? =some o->(∀e∈o.after,Region.binds md e=true->ba.getD e.on false=true)->ba.getD i false=true
 | [],_,_,_,j,hj,_,_,_=>by simp at hj
 | k::r,seen,h,hs,j,hj,o,ho,eU=>by
  simp only[qy,aE]at h;have hk:∀o,ops[k]? =some o->(∀e∈o.after,Region.binds md e=true->ba.getD e.on false=true)->ba.getD i false=true:=by
   intro o ho eU;have h1:=h.1;rw[ho]at h1;simp only[cD,fZ,Array.any_eq_true',aE,bS,cZ]at h1;obtain⟨e,he,hb,Kk⟩:=h1;rcases Kk with Kk | Kk
   ·rw[<-Kk];exact eU e he hb
   ·exact hs _ (by simpa using Kk) (eU e he hb)
  rcases aL.1 hj with rfl | hj
  ·exact hk o ho eU
  ·refine vQ hc r (k::seen) h.2 ?_ j hj o ho eU;intro x hx hl;rcases aL.1 hx with rfl | hx
   ·have h1:=h.1;cases hx2:ops[x]? with
    | none=>rw[hx2]at h1;simp at h1
    | some ox=>exact hk ox hx2 (hc x ox hx2 hl)
   ·exact hs x hx hl
theorem pr {i:Nat} {oi:Oper} {v:Value} {D:List Nat} (hi:ops[i]? =some oi) (acE:∀(j:Nat) (o:Oper) cs b,ops[j]? =some o->o.op≠.select cs b)
  (hQ:∀c a w,Q (.panic c) (a.put oi.dst v) w->Q (.panic c) a w) (hD:qy md ops i [] D=true)
  (N:List Nat) (kb:∀j w w',j∉D->j∉N->F w->E j w w'->F w') (AH:∀w,F w->E i w w):
  ∀(eo:Nat) (ba:Array Bool) (a:Act) (w:World),pq md ops ba->(∀k∈N,ba.getD k true=true)->
   (∀j oj,ops[j]? =some oj->j≠i->ba.getD j true=false->(∀e∈oj.after,Region.binds md e=true->e.on≠i)->oi.apart ops oj=true)->
   i∈Region.ready md ops ba->YieldsIf P ops F oi v a->F w->
   eP P md ops Q E eo (ba.setIfInBounds i true) (a.put oi.dst v) w->eP P md ops Q E (eo+1) ba a w:=by
 intro eo
 induction eo with
 | zero=>
  intro ba a w _ _ _ hr hy hF H;refine⟨fun h=>(by rw[h]at hr;cases hr),fun j hj=>?_⟩;by_cases Uc:j=i
  ·subst Uc;exact hy.wpOp hi hF ⟨AH w hF,H⟩
  ·have:=ready_mono hj Uc;rw[H.1]at this;cases this
 | succ eo ih=>
  intro ba a w oY hN IW hr hy hF H;refine⟨fun h=>(by rw[h]at hr;cases hr),fun j hj=>?_⟩;by_cases Uc:j=i
  ·subst Uc;exact hy.wpOp hi hF ⟨AH w hF,H⟩
  ·have h1:=H.2 j (ready_mono hj Uc);obtain⟨Wa,oj,PB,eU⟩:=mem_ready.1 hj;have Wb:=(mem_ready.1 hr).1;have hli:ba.getD i false=false:=by
    rcases jP i ba.size with h' | h'
    ·simp[h']at Wb⊢;exact Wb
    ·simp[eL h']at Wb
   have ah3:∀e∈oj.after,Region.binds md e=true->e.on≠i:=fun e he hb heq=>by
    have h1:=eU e he hb;rw[heq,hli]at h1;cases h1
   have hjD:j∉D:=fun hm=>by
    have:=vQ oY D [] hD (by simp) j hm oj PB eU;rw[hli]at this;cases this
   have hjN:j∉N:=fun hm=>by
    have:=hN j hm;rw[Wa]at this;cases this
   have hN':∀k∈N,(ba.setIfInBounds j true).getD k true=true:=fun k hk=>by
    by_cases hjk:j=k
    ·subst hjk;exact absurd hk hjN
    ·rw[getD_set_ne true hjk];exact hN k hk
   have h2:=wpOp_putIf PB (IW j oj PB Uc Wa ah3) (fun cs b=>acE i oi cs b hi) (fun cs b=>acE j oj cs b PB) hQ hy h1;have Cp:∀k ok,ops[k]? =some ok->k≠i->(ba.setIfInBounds j true).getD k true=false->
     (∀e∈ok.after,Region.binds md e=true->e.on≠i)->oi.apart ops ok=true:=fun k ok hk hki X4 X5=>by
    refine IW k ok hk hki ?_ X5;by_cases hjk:j=k
    ·subst hjk;exact Wa
    ·rw[getD_set_ne true hjk]at X4;exact X4
   refine wpOp_mono (fun a' w' h3=>⟨h3.2.1,ih (ba.setIfInBounds j true) a' w' (oY.add hj) hN' Cp (ready_mono hr (Ne.symm Uc)) h3.1 (kb j w w' hjD hjN hF h3.2.1) ?_⟩) h2;rw[Array.setIfInBounds_comm _ _ Uc];exact h3.2.2
theorem Fy (i:Nat) {dx:List Oper} {oi:Oper} {a a':Act} {w:World} {eo:Nat} {ba:Array Bool} (D N:List Nat) (v:Value) (F:World->Prop) (hi:fS dx i=some oi)
  (hs:Region.noSelect dx.toArray=true) (hf:Region.free md dx.toArray ba i=true) (hr:(Region.ready md dx.toArray ba).contains i=true) (hc:tS md dx.toArray ba=true) (hD:qy md dx.toArray i [] D=true) (hN:(N.all fun k=>ba.getD k true)=true)
  (hQ:∀c a w,Q (.panic c) (a.put oi.dst v) w->Q (.panic c) a w) (kb:∀j w w',j∉D->j∉N->F w->E j w w'->F w') (AH:∀w,F w->E i w w) (hF:F w)
  (hy:YieldsIf P dx.toArray F oi v a) (ha:a.put oi.dst v=a')
  (h:eP P md dx.toArray Q E eo (ba.setIfInBounds i true) a' w):eP P md dx.toArray Q E (eo+1) ba a w:=by
 subst ha;have wj:dx.toArray[i]? =some oi:=by rw[je]at hi;simpa using hi
 exact pr wj (Region.noSelect_spec hs) hQ hD N kb AH eo ba a w (zO hc) (fun k hk=>by simpa using(dB.1 hN) k hk) (Region.free_spec wj hf) (by simpa using hr) hy hF h
theorem YS (i:Nat) {dx:List Oper} {oi:Oper} {a:Act} {w:World} {eo:Nat} {ba:Array Bool} (hi:fS dx i=some oi) (hr:Region.ready md dx.toArray ba=[i])
  (hg:Region.wanted oi (yielded dx.toArray a.tmps)=true)
  (h:oi.wp P a w (fun a' w'=>E i w w'/\eP P md dx.toArray Q E eo (ba.setIfInBounds i true) a' w') Q):eP P md dx.toArray Q E (eo+1) ba a w:=by
 have wj:dx.toArray[i]? =some oi:=by rw[je]at hi;simpa using hi
 refine⟨fun h0=>(by rw[h0]at hr;cases hr),fun j hj=>?_⟩;rw[hr]at hj;obtain rfl:j=i:=by simpa using hj
 unfold wpOp;simp only[wj];rw[if_pos hg];exact .inl h
theorem Qb (i:Nat) {dx:List Oper} {oi:Oper} {a a':Act} {w:World} {eo:Nat} {ba:Array Bool} (hi:fS dx i=some oi) (hr:Region.ready md dx.toArray ba=[i])
  (hg:Region.wanted oi (yielded dx.toArray a.tmps)=false) (hE:E i w w) (ha:a.put oi.dst undef=a')
  (h:eP P md dx.toArray Q E eo (ba.setIfInBounds i true) a' w):eP P md dx.toArray Q E (eo+1) ba a w:=by
 subst ha;have wj:dx.toArray[i]? =some oi:=by rw[je]at hi;simpa using hi
 refine⟨fun h0=>(by rw[h0]at hr;cases hr),fun j hj=>?_⟩;rw[hr]at hj;obtain rfl:j=i:=by simpa using hj
 unfold wpOp;simp only[wj];rw[if_neg (by simp[hg])];exact⟨hE,h⟩
theorem YU (i j:Nat) {dx:List Oper} {oi oj:Oper} {a:Act} {w:World} {eo:Nat} {ba:Array Bool} (hi:fS dx i=some oi) (hj:fS dx j=some oj) (hr:Region.ready md dx.toArray ba=[i,j])
  (h1:if Region.wanted oi (yielded dx.toArray a.tmps)then oi.wp P a w (fun a' w'=>E i w w'/\eP P md dx.toArray Q E eo (ba.setIfInBounds i true) a' w') Q∨(oi.asks P a w/\LetsOut Q)
   else(fun a' w'=>E i w w'/\eP P md dx.toArray Q E eo (ba.setIfInBounds i true) a' w') (a.put oi.dst undef) w)
  (h2:if Region.wanted oj (yielded dx.toArray a.tmps)then oj.wp P a w (fun a' w'=>E j w w'/\eP P md dx.toArray Q E eo (ba.setIfInBounds j true) a' w') Q∨(oj.asks P a w/\LetsOut Q)
   else(fun a' w'=>E j w w'/\eP P md dx.toArray Q E eo (ba.setIfInBounds j true) a' w') (a.put oj.dst undef) w):eP P md dx.toArray Q E (eo+1) ba a w:=by
 have wj:dx.toArray[i]? =some oi:=by rw[je]at hi;simpa using hi
 have hj':dx.toArray[j]? =some oj:=by rw[je]at hj;simpa using hj
 refine⟨fun h0=>(by rw[h0]at hr;cases hr),fun k hk=>?_⟩;rw[hr]at hk;unfold wpOp;rcases aL.1 hk with rfl | hk
 ·simp only[wj];exact h1
 ·obtain rfl:k=j:=by simpa using hk
  simp only[hj'];exact h2
theorem UG {ba:Array Bool} {a:Act} {w:World} {eo:Nat} (hr:Region.ready md ops ba=[]) (h:Q .normal a w):eP P md ops Q E eo ba a w:=by
 cases eo with
 | zero=>exact⟨hr,h⟩
 | succ n=>exact⟨fun _=>h,by rw[hr];simp⟩
theorem C4 {id:Nat} {dx:List Oper} {a:Act} {w:World} (E:Nat->World->World->Prop) (hm:P.follows .mixedOrders=true)
  (h:eP P .any dx.toArray Q E dx.length (Array.replicate dx.length false) a w.drew):(Code.region id dx.toArray true).wp P Q a w:=by
 refine wp_region_any hm (xv (E:=E) _ _ _ _ ?_);simpa using h
def EL (ls:List (Nat×List Nat)) (j:Nat) (w w':World):Prop:=match ls.lookup j with | some l=>aR l w w' | none=>w'.heap=w.heap
theorem Qc {ls:List (Nat×List Nat)} {D N:List Nat}:∀(j:Nat) (w w':World),j∉D->j∉N->True->EL ls j w w'->True:=fun _ _ _ _ _ h _=>h
theorem FA {s:Sl} {l:List UInt8} (w w':World) (h:w'.heap[s.blk]? =w.heap[s.blk]?) (hc:pY w s l):pY w' s l:=
 ⟨hc.1,fun hl=>by
  obtain⟨ad,h1,h2⟩:=hc.2 hl;refine⟨ad,h1,h2.keep ?_⟩;simpa[Sl.blk,h1]using h⟩
theorem Sg {dx:List Oper} {o:Oper} {v:Value} {a:Act} (hg:Region.wanted o (yielded dx.toArray a.tmps)=true) (h:∀w,F w->(execOp a.eval o).run P w=.ok (.value v) w):YieldsIf P dx.toArray F o v a:=.inl ⟨hg,h⟩
theorem UH {dx:List Oper} {o:Oper} {a:Act} (hg:Region.wanted o (yielded dx.toArray a.tmps)=false):YieldsIf P dx.toArray F o undef a:=.inr ⟨hg,rfl⟩
end
end Go.Kt
namespace Go.Kt
open Go Go.RowKit
set_option linter.unusedSimpArgs false
set_option linter.unusedVariables false
def vR (x:Int):Prop:= -9223372036854775808<=x/\x<=9223372036854775807
theorem wr {x:Int} (h:vR x):IntKind.i64.wrap x=x:=IntWalk.i64_in _ ⟨h.1,h.2⟩
theorem fy {x:Int} (h1: -9223372036854775808<=x) (h2:x<=9223372036854775807):IntKind.i64.wrap x=x:=IntWalk.i64_in _ ⟨h1,h2⟩
theorem Lb (x:Int):vR (IntKind.i64.wrap x):=by
 rw[IntKind.wrap_i64];constructor<;>omega
abbrev Rp (α:Type):=World->(Nat->Prop)->α->List Value->Prop
structure Rp.Ok {α:Type} (r:Rp α):Prop where
 keep:∀{w w':World} {F:Nat->Prop} {x:α} {cs:List Value},r w F x cs->(∀k,F k->k<w.heap.size->w'.heap[k]? =w.heap[k]?)->r w' F x cs
 inHeap:∀{w:World} {F:Nat->Prop} {x:α} {cs:List Value},r w F x cs->r w (fun k=>F k/\k<w.heap.size) x cs
 mono:∀{w:World} {F G:Nat->Prop} {x:α} {cs:List Value},r w F x cs->(∀k,F k->G k)->r w G x cs
 one:∀{w:World} {F:Nat->Prop} {x:α} {cs:List Value},r w F x cs->∀v,v∈cs->v.oneCell'=true
section
variable {α:Type} {r:Rp α} {size:Nat} {w w':World} {F G:Nat->Prop} {s:Sl} {xs:List α}
structure SliceF (r:Rp α) (size:Nat) (w:World) (F:Nat->Prop) (s:Sl) (xs:List α):Prop where
 len:s.n=xs.length
 cap:s.n<=s.c
 nil0:s.a=none->s.c=0
 big:s.c<=9223372036854775807
 at_:∀j x,xs[j]? =some x->∃base cs,s.a=some base/\F base.block/\cs.length=size/\Cells w (base.add (j*size)) cs/\r w F x cs
theorem mM (a:Addr) (n:Nat):(a.add n).block=a.block:=by unfold Addr.add;split<;>rfl
theorem qz (a:Addr) (i j:Nat):(a.add i).add j=a.add (i+j):=by
 unfold Addr.add;by_cases hi:i=0<;>by_cases hj:j=0<;>simp[hi,hj,eH]
theorem zP (a:Addr):a.add 0=a:=rfl
theorem gC (b o n:Nat):(⟨b,o,none⟩:Addr).add n=⟨b,o+n,none⟩:=by unfold Addr.add;split<;>simp_all
theorem Cells.sub {a:Addr} {cs vs:List Value} (h:Cells w a cs) (k:Nat) (hv:∀j v,vs[j]? =some v->cs[k+j]? =some v):Cells w (a.add k) vs:=fun j v hj=>by
 rw[qz];exact h _ v (hv j v hj)
theorem Cells.dI {a:Addr} {cs:List Value} (h:Cells w a cs) (k:Nat) (v:Value) (hv:cs[k]? =some v):Cells w (a.add k) [v]:=h.sub k fun j u hj=>by
 cases j with
 | zero=>simpa[hv]using hj
 | succ j=>simp at hj
theorem SliceF.nil (r:Rp α) (size:Nat) (w:World) (F:Nat->Prop):SliceF r size w F Sl.nil []:=⟨rfl,aK _,fun _=>rfl,by decide,fun j x h=>by simp at h⟩
theorem SliceF.keep (hr:r.Ok) (h:SliceF r size w F s xs) (hs:0<size) (hk:∀k,F k->k<w.heap.size->w'.heap[k]? =w.heap[k]?):SliceF r size w' F s xs:=
 ⟨h.len,h.cap,h.nil0,h.big,fun j x hx=>by
  obtain⟨base,cs,h1,h2,h3,h4,h5⟩:=h.at_ j x hx;refine⟨base,cs,h1,h2,h3,h4.keep ?_,hr.keep h5 hk⟩;have bJ:(base.add (j*size)).block<w.heap.size:=by
   cases cs with
   | nil=>simp at h3;omega
   | cons c cs=>exact h4.lt
  rw[mM]at bJ⊢;exact hk _ h2 bJ⟩
theorem SliceF.mono (hr:r.Ok) (h:SliceF r size w F s xs) (hk:∀k,F k->G k):SliceF r size w G s xs:=
 ⟨h.len,h.cap,h.nil0,h.big,fun j x hx=>by
  obtain⟨base,cs,h1,h2,h3,h4,h5⟩:=h.at_ j x hx;exact⟨base,cs,h1,hk _ h2,h3,h4,hr.mono h5 hk⟩⟩
theorem SliceF.inHeap (hr:r.Ok) (h:SliceF r size w F s xs) (hs:0<size):SliceF r size w (fun k=>F k/\k<w.heap.size) s xs:=
 ⟨h.len,h.cap,h.nil0,h.big,fun j x hx=>by
  obtain⟨base,cs,h1,h2,h3,h4,h5⟩:=h.at_ j x hx;refine⟨base,cs,h1,⟨h2,?_⟩,h3,h4,hr.inHeap h5⟩;have bJ:(base.add (j*size)).block<w.heap.size:=by
   cases cs with
   | nil=>simp at h3;omega
   | cons c cs=>exact h4.lt
  rwa[mM]at bJ⟩
theorem SliceF.get (h:SliceF r size w F s xs) {i:Int} (h0:0<=i) (h1:i<s.n):
  ∃ad x cs,ck s i size ad/\xs[i.toNat]? =some x/\F ad.block/\cs.length=size/\Cells w ad cs/\r w F x cs:=by
 have hl:=h.len;have bJ:i.toNat<xs.length:=by omega
 obtain⟨base,cs,g1,g2,g3,g4,g5⟩:=h.at_ i.toNat _ (bA bJ);exact⟨_,_,cs,⟨base,g1,h0,h1,rfl⟩,bA bJ,by rw[mM];exact g2,g3,g4,g5⟩
theorem SliceF.mem (h:SliceF r size w F s xs) {x:α} (hx:x∈xs):∃cs,r w F x cs:=by
 obtain⟨j,hj⟩:=jd hx;obtain⟨_,cs,_,_,_,_,h5⟩:=h.at_ j x hj;exact⟨cs,h5⟩
theorem ck.Ci {i:Int} {a b:Addr} (h:ck s i size a) (k:ck s i size b):a=b:=by
 obtain⟨x,h1,_,_,h2⟩:=h;obtain⟨y,k1,_,_,k2⟩:=k;rw[h1]at k1;injection k1 with k1;rw[h2,k2,k1]
end
structure BytesF (w:World) (F:Nat->Prop) (s:Sl) (l:List UInt8):Prop where
 rd:pY w s l
 cap:s.n<=s.c
 blk:∀ad,s.a=some ad->l≠[]->F ad.block
section
variable {w w':World} {F G:Nat->Prop} {s:Sl} {l:List UInt8}
theorem BytesF.nil (w:World) (F:Nat->Prop):BytesF w F Sl.nil []:=⟨⟨rfl,fun h=>absurd rfl h⟩,aK _,fun _ _ h=>absurd rfl h⟩
theorem BytesF.mono (h:BytesF w F s l) (hk:∀k,F k->G k):BytesF w G s l:=⟨h.rd,h.cap,fun ad ha hl=>hk _ (h.blk ad ha hl)⟩
end
def fG {α:Type} (P:α->List Value->Prop):List α->List (List Value)->Prop
 | [],[]=>True
 | x::xs,c::cs=>P x c/\fG P xs cs
 | _,_=>False
section
variable {α:Type} {P Q:α->List Value->Prop}
theorem fG.len:∀{xs:List α} {css:List (List Value)},fG P xs css->xs.length=css.length
 | [],[],_=>rfl
 | x::xs,c::cs,h=>by simp[fG.len (xs:=xs) (css:=cs) h.2]
 | [],_::_,h=>h.elim
 | _::_,[],h=>h.elim
theorem fG.imp (hi:∀x c,P x c->Q x c):∀{xs:List α} {css:List (List Value)},fG P xs css->fG Q xs css
 | [],[],_=>trivial
 | x::xs,c::cs,h=>⟨hi _ _ h.1,fG.imp hi (xs:=xs) (css:=cs) h.2⟩
 | [],_::_,h=>h.elim
 | _::_,[],h=>h.elim
theorem fG.AF:∀{xs ys:List α} {css CN:List (List Value)},fG P xs css->fG P ys CN->fG P (xs++ys) (css++CN)
 | [],_,[],_,_,k=>k
 | x::xs,_,c::cs,_,h,k=>⟨h.1,fG.AF (xs:=xs) (css:=cs) h.2 k⟩
 | [],_,_::_,_,h,_=>h.elim
 | _::_,_,[],_,h,_=>h.elim
theorem fG.get:∀{xs:List α} {css:List (List Value)},fG P xs css->∀{j:Nat} {x:α},xs[j]? =some x->∃cs,css[j]? =some cs/\P x cs
 | [],[],_,j,x,h=>by simp at h
 | y::xs,c::cs,k,0,x,h=>by
  simp only[cj,aJ]at h;subst h;exact⟨c,rfl,k.1⟩
 | y::xs,c::cs,k,j+1,x,h=>by
  simp only[dv]at h⊢;exact fG.get (xs:=xs) (css:=cs) k.2 h
 | [],_::_,h,_,_,_=>h.elim
 | _::_,[],h,_,_,_=>h.elim
theorem fG.mem:∀{xs:List α} {css:List (List Value)},fG P xs css->∀c,c∈css->∃x,P x c
 | [],[],_,c,h=>by simp at h
 | y::xs,d::cs,k,c,h=>by
  rcases aL.1 h with rfl | h
  ·exact⟨y,k.1⟩
  ·exact fG.mem (xs:=xs) (css:=cs) k.2 c h
 | [],_::_,h,_,_=>h.elim
 | _::_,[],h,_,_=>h.elim
theorem fG.take:∀(n:Nat) {xs:List α} {css:List (List Value)},fG P xs css->fG P (xs.take n) (css.take n)
 | 0,_,_,_=>by simp[fG]
 | _+1,[],[],_=>by simp[fG]
 | n+1,x::xs,c::cs,h=>by simp only[fL];exact⟨h.1,fG.take n (xs:=xs) (css:=cs) h.2⟩
 | _,[],_::_,h=>h.elim
 | _,_::_,[],h=>h.elim
theorem fG.set:∀{xs:List α} {css:List (List Value)} (j:Nat) {x:α} {c:List Value},fG P xs css->P x c->fG P (xs.set j x) (css.set j c)
 | [],[],_,_,_,_,_=>by simp[fG]
 | y::xs,d::cs,0,x,c,h,k=>⟨k,h.2⟩
 | y::xs,d::cs,j+1,x,c,h,k=>⟨h.1,fG.set (xs:=xs) (css:=cs) j h.2 k⟩
 | [],_::_,_,_,_,h,_=>h.elim
 | _::_,[],_,_,_,h,_=>h.elim
end
theorem C5 {css:List (List Value)} {size:Nat} (h:∀c,c∈css->c.length=size):css.flatten.length=css.length*size:=by
 induction css with
 | nil=>simp
 | cons c cs ih=>
  rw[cE,aD,h c (by simp),ih (fun d hd=>h d (by simp[hd])),aH,fp];omega
theorem Qd {css:List (List Value)} {size:Nat} (h:∀c,c∈css->c.length=size):∀{j i:Nat} {cs:List Value} {v:Value},css[j]? =some cs->cs[i]? =some v->css.flatten[j*size+i]? =some v:=by
 induction css with
 | nil=>intro j i cs v hj;simp at hj
 | cons c cs ih=>
  intro j i ds v hj hi;have hc:=h c (by simp);cases j with
  | zero=>
   simp only[cj,aJ]at hj;subst hj;have bJ:i<c.length:=(aP.1 hi).1;simp only[ly,bm,cE];rw[bF bJ];exact hi
  | succ j=>
   simp only[dv]at hj;have:=ih (fun d hd=>h d (by simp[hd])) hj hi;rw[cE,cQ (by rw[hc,fp];omega),hc];rw[show(j+1)*size+i-size=j*size+i by rw[fp];omega];exact this
theorem Jl {css:List (List Value)} {size:Nat} (h:∀c,c∈css->c.length=size):∀(n:Nat),css.flatten.take (n*size)=(css.take n).flatten:=by
 induction css with
 | nil=>intro n;simp
 | cons c cs ih=>
  intro n;cases n with
  | zero=>simp
  | succ n=>
   have hc:=h c (by simp);rw[cE,fL,cE,List.take_append,<-ih (fun d hd=>h d (by simp[hd])),hc,show(n+1)*size-size=n*size by rw[fp];omega,bB (by rw[hc,fp];omega)]
section
variable {w w':World} {a:Addr} {cs ds:List Value}
theorem Cells.AF (h:Cells w a cs) (k:Cells w (a.add cs.length) ds):Cells w a (cs++ds):=fun j v hj=>by
 by_cases bJ:j<cs.length
 ·rw[bF bJ]at hj;exact h j v hj
 ·rw[cQ (by omega)]at hj;have:=k _ v hj;rw[qz,show cs.length+(j-cs.length)=j by omega]at this;exact this
theorem Cells.nil (w:World) (a:Addr):Cells w a []:=fun j v hj=>by simp at hj
end
section
variable {α:Type} {r:Rp α} {size:Nat} {w w':World} {F G:Nat->Prop} {s y:Sl} {xs ys:List α} {e:TypeId} {B:Nat}
abbrev ny (r:Rp α) (size:Nat) (w:World) (F:Nat->Prop):List α->List (List Value)->Prop:=fG fun x cs=>cs.length=size/\r w F x cs
theorem ny.sz {css:List (List Value)} (h:ny r size w F xs css):∀c,c∈css->c.length=size:=fun c hc=>by
 obtain⟨_,h1,_⟩:=h.mem c hc;exact h1
theorem ny.keep (hr:r.Ok) {css:List (List Value)} (h:ny r size w F xs css) (hk:∀k,F k->k<w.heap.size->w'.heap[k]? =w.heap[k]?):ny r size w' F xs css:=
 h.imp fun _ _ h1=>⟨h1.1,hr.keep h1.2 hk⟩
theorem ny.mono (hr:r.Ok) {css:List (List Value)} (h:ny r size w F xs css) (hk:∀k,F k->G k):ny r size w G xs css:=
 h.imp fun _ _ h1=>⟨h1.1,hr.mono h1.2 hk⟩
theorem ny.inHeap (hr:r.Ok) {css:List (List Value)} (h:ny r size w F xs css):ny r size w (fun k=>F k/\k<w.heap.size) xs css:=
 h.imp fun _ _ h1=>⟨h1.1,hr.inHeap h1.2⟩
theorem SliceF.NR {base:Addr}:∀(xs:List α) (k:Nat),(∀j x,xs[j]? =some x->∃cs,cs.length=size/\Cells w (base.add ((k+j)*size)) cs/\r w F x cs)->
  ∃css,ny r size w F xs css/\Cells w (base.add (k*size)) css.flatten
 | [],k,_=>⟨[],trivial,Cells.nil _ _⟩
 | x::xs,k,h=>by
  obtain⟨cs,h1,h2,h3⟩:=h 0 x rfl;obtain⟨css,k1,k2⟩:=SliceF.NR xs (k+1) (fun j y hj=>by
   obtain⟨ds,g1,g2,g3⟩:=h (j+1) y (by simpa using hj);exact⟨ds,g1,by rw[show k+1+j=k+(j+1) by omega];exact g2,g3⟩)
  refine⟨cs::css,⟨⟨h1,h3⟩,k1⟩,?_⟩;rw[cE];refine Cells.AF (by simpa using h2) ?_;rw[qz,h1,show k*size+size=(k+1)*size by rw[fp];omega];exact k2
theorem SliceF.flat (h:SliceF r size w F s xs) (hx:xs≠[]):∃base css,s.a=some base/\F base.block/\ny r size w F xs css/\Cells w base css.flatten:=by
 cases xs with
 | nil=>exact absurd rfl hx
 | cons x xs=>
  obtain⟨base,_,h1,h2,_⟩:=h.at_ 0 x rfl;obtain⟨css,k1,k2⟩:=SliceF.NR (r:=r) (size:=size) (w:=w) (F:=F) (base:=base) (x::xs) 0 (fun j y hj=>by
   obtain⟨b',cs,g1,g2,g3,g4,g5⟩:=h.at_ j y hj;rw[h1]at g1;injection g1 with g1;subst g1;exact⟨cs,g3,by simpa using g4,g5⟩)
  exact⟨base,css,h1,h2,k1,by rw[ly,zP]at k2;exact k2⟩
theorem SliceF.of {base:Addr} {css:List (List Value)} (he:ny r size w F xs css) (ha:s.a=some base) (hF:F base.block) (hc:Cells w base css.flatten) (hn:s.n=xs.length) (xn:s.n<=s.c) (h63:s.c<=9223372036854775807):SliceF r size w F s xs:=
 ⟨hn,xn,fun h=>(by rw[ha]at h;cases h),h63,fun j x hx=>by
  obtain⟨cs,h1,h2,h3⟩:=he.get hx;exact⟨base,cs,ha,hF,h2,fun i v hi=>by rw[qz];exact hc _ v (Qd he.sz h1 hi),h3⟩⟩
def Own (r:Rp α) (size:Nat) (e:TypeId) (B:Nat) (w:World) (F:Nat->Prop) (s:Sl) (xs:List α):Prop:=
 (s=Sl.nil/\xs=[])∨∃g css tail,s.a=some ⟨g,0,none⟩/\B<=g/\Blk w g e (css.flatten++tail)/\tail.length=(s.c-s.n)*size/\s.n=xs.length/\s.n<=s.c/\s.c<=9223372036854775807/\ny r size w (fun k=>F k/\k≠g) xs css
theorem Own.len (h:Own r size e B w F s xs):s.n=xs.length:=by
 rcases h with⟨rfl,rfl⟩ | ⟨g,css,tail,_,_,_,_,h,_⟩
 ·rfl
 ·exact h
theorem Own.cap (h:Own r size e B w F s xs):s.n<=s.c:=by
 rcases h with⟨rfl,rfl⟩ | ⟨g,css,tail,_,_,_,_,_,h,_,_⟩
 ·exact aK _
 ·exact h
theorem Own.slice (hr:r.Ok) (h:Own r size e B w F s xs):SliceF r size w (fun k=>F k∨(B<=k/\s.a=some ⟨k,0,none⟩)) s xs:=by
 rcases h with⟨rfl,rfl⟩ | ⟨g,css,tail,h1,h2,h4,h5,h6,h7,h9,h8⟩
 ·exact SliceF.nil _ _ _ _
 ·exact SliceF.of (h8.mono hr fun k hk=>.inl hk.1) h1 (.inr ⟨h2,h1⟩) (h4.cells 0 _ fun j v hj=>by
   rw[bm,bF (aP.1 hj).1];exact hj) h6 h7 h9
theorem Own.keep (hr:r.Ok) (h:Own r size e B w F s xs) (hk:∀k,(F k∨(B<=k/\s.a=some ⟨k,0,none⟩))->k<w.heap.size->w'.heap[k]? =w.heap[k]?):Own r size e B w' F s xs:=by
 rcases h with⟨rfl,rfl⟩ | ⟨g,css,tail,h1,h2,h4,h5,h6,h7,h9,h8⟩
 ·exact .inl ⟨rfl,rfl⟩
 ·exact .inr ⟨g,css,tail,h1,h2,(hk g (.inr ⟨h2,h1⟩) h4.lt).trans h4,h5,h6,h7,h9,h8.keep hr fun k hF=>hk k (.inl hF.1)⟩
theorem Own.mono (hr:r.Ok) (h:Own r size e B w F s xs) (hk:∀k,F k->G k):Own r size e B w G s xs:=by
 rcases h with⟨rfl,rfl⟩ | ⟨g,css,tail,h1,h2,h4,h5,h6,h7,h9,h8⟩
 ·exact .inl ⟨rfl,rfl⟩
 ·exact .inr ⟨g,css,tail,h1,h2,h4,h5,h6,h7,h9,h8.mono hr fun k h=>⟨hk k h.1,h.2⟩⟩
theorem Own.low {B':Nat} (h:Own r size e B w F s xs) (hB:B'<=B):Own r size e B' w F s xs:=by
 rcases h with⟨rfl,rfl⟩ | ⟨g,css,tail,h1,h2,h4⟩
 ·exact .inl ⟨rfl,rfl⟩
 ·exact .inr ⟨g,css,tail,h1,aX hB h2,h4⟩
theorem Own.nil (r:Rp α) (size:Nat) (e:TypeId) (B:Nat) (w:World) (F:Nat->Prop):Own r size e B w F Sl.nil []:=.inl ⟨rfl,rfl⟩
theorem Own.inHeap (hr:r.Ok) (h:Own r size e B w F s xs):Own r size e B w (fun k=>F k/\k<w.heap.size) s xs:=by
 rcases h with⟨rfl,rfl⟩ | ⟨g,css,tail,h1,h2,h4,h5,h6,h7,h9,h8⟩
 ·exact .inl ⟨rfl,rfl⟩
 ·exact .inr ⟨g,css,tail,h1,h2,h4,h5,h6,h7,h9,(h8.inHeap hr).mono hr fun k h=>⟨⟨h.1.1,h.2⟩,h.1.2⟩⟩
theorem Own.blk (h:Own r size e B w F s xs) {ad:Addr} (ha:s.a=some ad):B<=ad.block/\ad.block<w.heap.size:=by
 rcases h with⟨rfl,rfl⟩ | ⟨g,css,tail,h1,h2,h4,_⟩
 ·cases ha
 ·rw[h1]at ha;injection ha with ha;subst ha;exact⟨h2,h4.lt⟩
theorem SliceF.acx (h:SliceF r size w F s xs):∃css,ny r size w F xs css/\∀base,s.a=some base->Cells w base css.flatten:=by
 cases xs with
 | nil=>exact⟨[],trivial,fun b _=>Cells.nil _ _⟩
 | cons x xs=>
  obtain⟨base,css,h1,h2,h3,h4⟩:=h.flat (by simp);exact⟨css,h3,fun b hb=>by rw[h1]at hb;injection hb with hb;subst hb;exact h4⟩
theorem ny.Gv {css:List (List Value)} (h:ny r size w F xs css):css.flatten.length=xs.length*size:=by rw[C5 h.sz,h.len]
theorem ny.one (hr:r.Ok) {css:List (List Value)} (h:ny r size w F xs css):∀v,v∈css.flatten->v.oneCell'=true:=fun v hv=>by
 obtain⟨c,hc,hv⟩:=List.mem_flatten.1 hv;obtain⟨x,_,hx⟩:=h.mem c hc;exact hr.one hx v hv
theorem YV (l m:List Value) (z:Array Value):(l.toArray++m.toArray++z)=(l++m++z.toList).toArray:=by
 apply Array.ext';simp
section
variable {P:Program} {t ty:TypeId} {i:TypeInfo} {z:Value} {bytes:Nat}
theorem C6 (w:World) (k:Nat) (Fc:z.cells.size=size):(Builtin.zeroCells z.cells k).toList.length=k*size:=by
 rw[lK,size_zeroCells,Fc]
theorem Jm (ht:P.underlying t=some (.slice e)) (hi:P.info? e=some i) (hz:i.zero=some z) (nq:i.size=size) (RF:i.bytes=bytes) (Fc:z.cells.size=size)
  (hr:r.Ok) {css:List (List Value)} (k1:ny r size w F xs css) (k2:∀base,s.a=some base->Cells w base css.flatten) (NX:s.a=none->s.c=0) (rj:s.n=xs.length) (hsc:s.n<=s.c)
  (hy:SliceF r size w F y ys) (oZ:s.c<s.n+y.n) (hm:(xs.length+ys.length)*bytes<=140737488355328) (EM:0<bytes):
  ∃s' w',(Builtin.append_ #[t,t] ty #[s.v,y.v]).run P w=.ok s'.v w'/\Own r size e w.heap.size w' F s' (xs++ys)/\Only [] w w'/\s'.a=some ⟨w.heap.size,0,none⟩:=by
 subst nq;subst RF;have h63:xs.length+ys.length<=140737488355328:=aX (by have:=Nat.mul_le_mul_left (xs.length+ys.length) EM;omega) hm;have PC:=hy.len;have RG:y.n≠0:=by omega
 have hyx:ys≠[]:=fun h=>RG (by rw[PC,h];rfl);obtain⟨yb,CN,m1,m2,m3,m4⟩:=hy.flat hyx;obtain⟨sa,sn,sc⟩:=s;obtain⟨ya,yn,yc⟩:=y;dsimp only at rj hsc NX PC RG oZ m1 k2;subst m1;have hold:Only [] w w.drew:=Only.drew w;have key:∀(eS IX:Nat),eS=sn+yn->∀W',W'=w.drew.alloc (.cells (css.flatten.toArray++CN.flatten.toArray++Builtin.zeroCells z.cells (grownCap w eS IX e-eS)) e)->
   Own r i.size e w.heap.size W' F ⟨some ⟨w.heap.size,0,none⟩,eS,grownCap w eS IX e⟩ (xs++ys)/\Only [] w W':=by
  rintro eS IX rfl W' rfl;have hO:Only [] w (w.drew.alloc (.cells (css.flatten.toArray++CN.flatten.toArray++Builtin.zeroCells z.cells (grownCap w (sn+yn) IX e-(sn+yn))) e)):=hold.bP (Only.alloc _ _);refine⟨.inr ⟨w.heap.size,css++CN,(Builtin.zeroCells z.cells (grownCap w (sn+yn) IX e-(sn+yn))).toList,rfl,aK _,?_,C6 w _ Fc,?_,grownCap_ge _ _ _ _,grownCap_le_maxLen _ _ _ _ (by simp only[maxLen];omega),?_⟩,hO⟩
  ·rw[YV,CI];exact Blk.alloc w.drew e _
  ·simp only[aD];omega
  ·refine((ny.mono hr (ny.inHeap hr (fG.AF k1 m3)) (G:=fun k=>F k/\k≠w.heap.size) fun k h=>⟨h.1,by have:=h.2;omega⟩)).keep hr fun k hk bJ=>hO.block k bJ (by simp)
 cases sa with
 | none=>
  have hsc:sc=0:=NX rfl;subst hsc;have Wc:sn=0:=by omega
  subst Wc;have hx:xs=[]:=bc rj.symm;subst hx;cases css with
  | cons c css=>exact k1.elim
  | nil=>
   have rl:=run_append_nil (P:=P) w t ty e i z ht hi hz yb yn yc CN.flatten (by rw[m3.Gv,PC]) m4 (by omega) (by omega) (by
    have:(0+ys.length)*i.bytes<=140737488355328:=by simpa using hm
    rw[bm,<-PC]at this;omega)
   obtain⟨g1,g2⟩:=key yn 0 (by simp) _ rfl;exact⟨⟨some ⟨w.heap.size,0,none⟩,yn,grownCap w yn 0 e⟩,_,rl,by simpa using g1,by simpa using g2,rfl⟩
 | some b=>
  have rl:=run_append_grow (P:=P) w t ty e i z ht hi hz b sn sc css.flatten (by rw[k1.Gv,rj]) (k2 b rfl) yb yn yc CN.flatten (by rw[m3.Gv,PC]) m4 oZ (by omega) (growslice_fits oZ (by rw[rj,PC];exact hm));obtain⟨g1,g2⟩:=key (sn+yn) sc rfl _ rfl;exact⟨⟨some ⟨w.heap.size,0,none⟩,sn+yn,grownCap w (sn+yn) sc e⟩,_,rl,g1,g2,rfl⟩
theorem Lc (ht:P.underlying t=some (.slice e)) (hi:P.info? e=some i) (nq:i.size=size)
  (hr:r.Ok) {g:Nat} {css:List (List Value)} {tail:List Value} (ha:s.a=some ⟨g,0,none⟩) (hB:B<=g) (hb:Blk w g e (css.flatten++tail)) (KO:tail.length=(s.c-s.n)*size) (hn:s.n=xs.length) (hc:s.n<=s.c) (h63:s.c<=9223372036854775807)
  (hE:ny r size w (fun k=>F k/\k≠g) xs css) (hy:SliceF r size w (fun k=>F k/\k≠g) y ys) (oZ:s.n+y.n<=s.c):
  ∃w',(Builtin.append_ #[t,t] ty #[s.v,y.v]).run P w=.ok (Sl.v ⟨s.a,s.n+y.n,s.c⟩) w'/\Own r size e B w' F ⟨s.a,s.n+y.n,s.c⟩ (xs++ys)/\Only [g] w w':=by
 subst nq;have PC:=hy.len;obtain⟨sa,sn,sc⟩:=s;obtain⟨ya,yn,yc⟩:=y;dsimp only at ha hn hc KO oZ PC;subst ha;obtain⟨CN,m3,m4⟩:=hy.acx;dsimp only at m4;have oY:css.flatten.length=sn*i.size:=by rw[hE.Gv,hn]
 have uR:CN.flatten.length=yn*i.size:=by rw[m3.Gv,PC]
 have IY:sn*i.size+yn*i.size<=sn*i.size+tail.length:=by
  rw[KO,<-fp,<-fp];exact dW _ (by omega)
 have rl:(Builtin.append_ #[t,t] ty #[.slice (some ⟨g,0,none⟩) sn sc,.slice ya yn yc]).run P w=
   .ok (.slice (some ⟨g,0,none⟩) (sn+yn) sc) (w.setRow g ((css.flatten++CN.flatten)++tail.drop (yn*i.size)).toArray):=by
  have EN:((css.flatten++tail).toArray.toList.take (sn*i.size)++CN.flatten++(css.flatten++tail).toArray.toList.drop (sn*i.size+CN.flatten.length))=(css.flatten++CN.flatten)++tail.drop (yn*i.size):=by
   rw[eX,<-oY,List.take_left,uR,List.drop_append];rw[List.drop_eq_nil_of_le (by omega),cd,dw]
  cases ya with
  | some ya=>
   have:=run_append_room (P:=P) w t ty e i ht hi g sn sc (css.flatten++tail).toArray hb ya yn yc CN.flatten uR (m4 ya rfl) (m3.one hr) oZ (by
    rw[kc,aD,uR,oY];exact IY)
   rw[this,EN]
  | none=>
   have hyx:ys=[]:=by
    cases ys with
    | nil=>rfl
    | cons x xs=>obtain⟨_,_,h,_⟩:=hy.at_ 0 x rfl;cases h
   subst hyx;have RG:yn=0:=by simpa using PC
   subst RG;cases CN with
   | cons c cs=>exact m3.elim
   | nil=>
    have pb:w.setRow g ((css.flatten++([]:List (List Value)).flatten)++tail.drop (0*i.size)).toArray=w:=by
     have:=setRow_self w g (css.flatten++tail).toArray e (0,0) hb;simpa using this
    rw[pb];have Wd:sn<=sc:=hc;simp[Builtin.append_,run_underlying ht,sizeOf,typeInfo,hi,Builtin.lenOf,Builtin.firstCells,Wd,storeCells]
 have hO:Only [g] w (w.setRow g ((css.flatten++CN.flatten)++tail.drop (yn*i.size)).toArray):=Only.setRow _ _ _;refine⟨_,rl,.inr ⟨g,css++CN,tail.drop (yn*i.size),rfl,hB,?_,?_,?_,oZ,h63,?_⟩,hO⟩
 ·rw[CI];exact hb.setRow _
 ·rw[bN,KO,<-Nat.sub_mul];congr 1;dsimp only;omega
 ·dsimp only;rw[aD];omega
 ·exact ny.keep hr (fG.AF hE m3) fun k hk bJ=>hO.block k bJ (by simpa using hk.2)
theorem pu (ht:P.underlying t=some (.slice e)) (hi:P.info? e=some i) (hz:i.zero=some z) (nq:i.size=size) (RF:i.bytes=bytes) (Fc:z.cells.size=size)
  (hr:r.Ok) (hs:Own r size e B w F s xs) (hy:SliceF r size w (fun k=>F k/\s.a≠some ⟨k,0,none⟩) y ys) (hB:B<=w.heap.size) (hm:(xs.length+ys.length)*bytes<=140737488355328) (EM:0<bytes):
  ∃s' w',(Builtin.append_ #[t,t] ty #[s.v,y.v]).run P w=.ok s'.v w'/\Own r size e B w' F s' (xs++ys)/\∃gs,Only gs w w'/\(∀g,g∈gs->s.a=some ⟨g,0,none⟩/\B<=g/\g<w.heap.size)/\(s'.a=s.a∨s'.a=some ⟨w.heap.size,0,none⟩):=by
 by_cases oZ:s.n+y.n<=s.c
 ·rcases hs with⟨rfl,rfl⟩ | ⟨g,css,tail,h1,h2,h4,h5,h6,h7,h9,h8⟩
  ·have RG:y.n=0:=by simpa using oZ
   have hyx:ys=[]:=by have:=hy.len;rw[RG]at this;exact bc this.symm
   subst hyx;refine⟨Sl.nil,w,?_,.inl ⟨rfl,rfl⟩,[],Only.refl _ _,by simp,.inl rfl⟩;obtain⟨ya,yn,yc⟩:=y;dsimp only at RG;subst RG;cases ya<;>simp[Builtin.append_,run_underlying ht,sizeOf,typeInfo,hi,Builtin.lenOf,Builtin.firstCells,loadCells,loadCellsFrom]
  ·obtain⟨w',k1,k2,k3⟩:=Lc (ty:=ty) ht hi nq hr h1 h2 h4 h5 h6 h7 h9 h8 (hy.mono hr fun k hk=>⟨hk.1,fun h=>hk.2 (by rw[h,h1])⟩) oZ;exact⟨_,w',k1,k2,[g],k3,fun g' hg'=>by simp only[aF]at hg';subst hg';exact⟨h1,h2,h4.lt⟩,.inl rfl⟩
 ·have rj:=hs.len;have hsc:=hs.cap;have hy':SliceF r size w F y ys:=hy.mono hr fun k hk=>hk.1;have go:∀css,ny r size w F xs css->(∀base,s.a=some base->Cells w base css.flatten)->(s.a=none->s.c=0)->
    ∃s' w',(Builtin.append_ #[t,t] ty #[s.v,y.v]).run P w=.ok s'.v w'/\Own r size e B w' F s' (xs++ys)/\∃gs,Only gs w w'/\(∀g,g∈gs->s.a=some ⟨g,0,none⟩/\B<=g/\g<w.heap.size)/\(s'.a=s.a∨s'.a=some ⟨w.heap.size,0,none⟩):=by
   intro css k1 k2 k3;obtain⟨s',w',g1,g2,g3,g4⟩:=Jm (ty:=ty) ht hi hz nq RF Fc hr k1 k2 k3 rj hsc hy' (by omega) hm EM;exact⟨s',w',g1,g2.low hB,[],g3,by simp,.inr g4⟩
  rcases hs with⟨rfl,rfl⟩ | ⟨g,css,tail,h1,h2,h4,h5,h6,h7,h9,h8⟩
  ·exact go [] trivial (fun _ h=>by cases h) (fun _=>rfl)
  ·refine go css (h8.mono hr fun k hk=>hk.1) (fun base hb=>?_) (fun h=>by rw[h1]at h;cases h);rw[h1]at hb;injection hb with hb;subst hb;exact h4.cells 0 _ fun j v hj=>by
    rw[bm,bF (aP.1 hj).1];exact hj
theorem xw (w:World) (ht:P.underlying t=some (.slice e)) (hi:P.info? e=some i):(Instr.buildSlice t 0 #[]).run P w=.ok (.slice (some ⟨w.heap.size,0,none⟩) 0 0) (w.alloc (.cells #[] e)):=by
 have h0:Array.map (fun _=>(default:Value)) (Array.range 0)=#[]:=Array.ext' (by simp);simp[Instr.buildSlice,run_underlying ht,sizeOf,typeInfo,hi,Instr.fill,newRow,h0]
theorem kR (ht:P.underlying t=some (.slice e)) (hi:P.info? e=some i) (hz:i.zero=some z) (nq:i.size=size) (h0:0<size) {vs:List Value} {len:Nat} {parts:Array (Nat×Value)}
  (hp:parts=((vs.zipIdx 0).map fun x=>(x.2,x.1)).toArray) (hl:vs.length=len) (hl0:0<len) (sI:len*size<=16777216)
  (hr:r.Ok) (hE:ny r size w F xs (vs.map fun v=>v.cells.toList)):
  ∃s w',(Instr.buildSlice t len parts).run P w=.ok (Sl.v s) w'/\Own r size e w.heap.size w' F s xs/\Only [] w w'/\s.a=some ⟨w.heap.size,0,none⟩/\s.n=xs.length/\s.c=xs.length:=by
 subst nq;subst hp;subst hl;have IZ:xs.length=vs.length:=by have:=hE.len;rwa[bL]at this
 have hsz:∀v,v∈vs->v.cells.size=i.size:=fun v hv=>by
  have:=hE.sz _ (jQ.2 ⟨v,hv,rfl⟩);simpa using this
 have rl:=run_buildSlice (P:=P) w t e vs.length ((vs.zipIdx 0).map fun x=>(x.2,x.1)).toArray (vs.flatMap fun v=>v.cells.toList).toArray i z ht hi hz (by omega)
  (by have:=Nat.mul_lt_mul_of_pos_left h0 hl0;omega)
  (by rw[eX];exact Go.Great.fill_whole h0 vs _ hsz (by simp))
 have hO:Only [] w (w.alloc (.cells (vs.flatMap fun v=>v.cells.toList).toArray e)):=Only.alloc _ _;refine⟨⟨some ⟨w.heap.size,0,none⟩,vs.length,vs.length⟩,_,rl,.inr ⟨w.heap.size,vs.map (fun v=>v.cells.toList),[],rfl,aK _,?_,by simp,IZ.symm,aK _,?_,?_⟩,hO,rfl,IZ.symm,IZ.symm⟩
 ·rw[br,List.flatMap_def.symm.trans rfl];exact Blk.alloc w e _
 ·have:vs.length<=vs.length*i.size:=Nat.le_mul_of_pos_right _ h0;dsimp only;omega
 ·exact((ny.mono hr (ny.inHeap hr hE) (G:=fun k=>F k/\k≠w.heap.size) fun k h=>⟨h.1,by have:=h.2;omega⟩)).keep hr fun k hk bJ=>hO.block k bJ (by simp)
end
end
def jE:Rp UInt8:=fun _ _ b cs=>cs=[fx b]
theorem oz:jE.Ok where
 keep h _:=h
 inHeap h:=h
 mono h _:=h
 one h v hv:=by
  rw[show _=[fx _]from h]at hv;simp only[aF]at hv;subst hv;rfl
theorem BytesF.slice {w:World} {F:Nat->Prop} {s:Sl} {l:List UInt8} (h:BytesF w F s l) (h0:s.a=none->s.c=0) (hb:s.c<=9223372036854775807):SliceF jE 1 w F s l:=
 ⟨h.rd.1,h.cap,h0,hb,fun j x hx=>by
  have hl:l≠[]:=fun e=>by rw[e]at hx;simp at hx
  obtain⟨ad,h1,h2⟩:=h.rd.2 hl;exact⟨ad,[fx x],h1,h.blk ad h1 hl,rfl,by rw[tL];exact h2.dI j _ (by rw[cH,hx];rfl),rfl⟩⟩
theorem SliceF.bytes {w:World} {F:Nat->Prop} {s:Sl} {l:List UInt8} (h:SliceF jE 1 w F s l):BytesF w F s l:=
 ⟨⟨h.len,fun hl=>by
  obtain⟨base,css,h1,h2,h3,h4⟩:=h.flat hl;refine⟨base,h1,?_⟩;have:∀(l:List UInt8) (css:List (List Value)),ny jE 1 w F l css->css.flatten=l.map fx:=by
   intro l
   induction l with
   | nil=>intro css h;cases css with
    | nil=>rfl
    | cons c cs=>exact h.elim
   | cons b l ih=>intro css h;cases css with
    | nil=>exact h.elim
    | cons c cs=>
     obtain⟨⟨_,h1⟩,h2⟩:=h;rw[cE,ih cs h2,show c=[fx b]from h1];rfl
  rw[<-this l css h3];exact h4⟩,h.cap,fun ad ha hl=>by
   obtain⟨base,css,h1,h2,_⟩:=h.flat hl;rw[ha]at h1;injection h1 with h1;rw[h1];exact h2⟩
def A4:Rp Int:=fun _ _ x cs=>cs=[.int .i64 x]/\vR x
structure OnlyP (F:Nat->Prop) (w w':World):Prop where
 os:w'.os=w.os
 tape:w'.tape=w.tape
 output:w'.output=w.output
 size:w.heap.size<=w'.heap.size
 block:∀k,k<w.heap.size->¬F k->w'.heap[k]? =w.heap[k]?
section
variable {w w' se:World} {F G:Nat->Prop} {bs:List Nat}
theorem Only.p (h:Only bs w w') (hb:∀b,b∈bs->F b∨w.heap.size<=b):OnlyP F w w':=
 ⟨h.os,h.tape,h.output,h.size,fun k hk hn=>h.block k hk fun hm=>(hb k hm).elim hn fun h=>by omega⟩
theorem Only.p0 (h:Only [] w w'):OnlyP F w w':=h.p (by simp)
theorem OnlyP.refl (F:Nat->Prop) (w:World):OnlyP F w w:=(Only.refl [] w).p0
theorem OnlyP.mono (h:OnlyP F w w') (hb:∀k,k<w.heap.size->F k->G k):OnlyP G w w':=⟨h.os,h.tape,h.output,h.size,fun k hk hn=>h.block k hk fun hf=>hn (hb k hk hf)⟩
theorem OnlyP.trans (h:OnlyP F w w') (k:OnlyP G w' se) (hb:∀k,G k->F k∨w.heap.size<=k):OnlyP F w se:=
 ⟨k.os.trans h.os,k.tape.trans h.tape,k.output.trans h.output,aX h.size k.size,fun i hi hn=>
  (k.block i (cb hi h.size) fun hg=>(hb i hg).elim hn fun h=>by omega).trans (h.block i hi hn)⟩
theorem OnlyP.bP (h:OnlyP F w w') (k:Only [] w' se):OnlyP F w se:=h.trans (k.p0 (F:=fun _=>False)) fun _ h=>h.elim
theorem Only.yT (h:Only [] w w') (k:OnlyP F w' se):OnlyP F w se:=(h.p0 (F:=F)).trans k fun _ h=>.inl h
theorem OnlyP.only (h:OnlyP F w w') (hb:∀k,F k->w.heap.size<=k):Only [] w w':=
 ⟨h.os,h.tape,h.output,h.size,fun k hk _=>h.block k hk fun hf=>by have:=hb k hf;omega⟩
theorem OnlyP.acy (h:OnlyP F w w') (hb:∀k,F k->k∈bs∨w.heap.size<=k):Only bs w w':=
 ⟨h.os,h.tape,h.output,h.size,fun k hk hn=>h.block k hk fun hf=>(hb k hf).elim hn fun h=>by omega⟩
theorem OnlyP.same (h:OnlyP F w w') (hl:∀x,x∈bs->x<w.heap.size/\¬F x):aR bs w w':=fun x hx=>h.block x (hl x hx).1 (hl x hx).2
theorem OnlyP.blk (h:OnlyP F w w') {b:Nat} {t:TypeId} {cs:List Value} (hb:Blk w b t cs) (hn:¬F b):Blk w' b t cs:=(h.block b hb.lt hn).trans hb
end
section
variable {α:Type} {r:Rp α} {size:Nat} {w w':World} {F G:Nat->Prop} {s:Sl} {xs:List α} {e:TypeId} {B:Nat} {bs:List Nat}
theorem SliceF.only (hr:r.Ok) (h0:0<size) (h:SliceF r size w F s xs) (hO:Only bs w w') (hb:∀k,F k->k<w.heap.size->k∉bs):SliceF r size w' F s xs:=
 h.keep hr h0 fun k hF bJ=>hO.block k bJ (hb k hF bJ)
theorem SliceF.wg (hr:r.Ok) (h0:0<size) (h:SliceF r size w F s xs) (hO:OnlyP G w w') (hb:∀k,F k->k<w.heap.size->¬G k):SliceF r size w' F s xs:=
 h.keep hr h0 fun k hF bJ=>hO.block k bJ (hb k hF bJ)
theorem Rp.Ok.only (hr:r.Ok) {x:α} {cs:List Value} (h:r w F x cs) (hO:Only bs w w') (hb:∀k,F k->k<w.heap.size->k∉bs):r w' F x cs:=hr.keep h fun k hF bJ=>hO.block k bJ (hb k hF bJ)
theorem ny.at (h:∃css:List (List Value),ny r size w F xs css):True:=trivial
theorem ny.setAt {css:List (List Value)} (h:ny r size w F xs css) (j:Nat) {x:α} {c:List Value} (hc:c.length=size) (hx:r w F x c):ny r size w F (xs.set j x) (css.set j c):=fG.set j h ⟨hc,hx⟩
theorem C7 {css:List (List Value)} {tail:List Value}:∀{n:Nat} {cs vs:List Value},(∀c,c∈css->c.length=size)->css[n]? =some cs->vs.length=size->
  bO (css.flatten++tail) (n*size) vs=(css.set n vs).flatten++tail:=by
 induction css with
 | nil=>intro n cs vs _ h;simp at h
 | cons c css ih=>
  intro n cs vs hs hn hv;have hc:=hs c (by simp);cases n with
  | zero=>
   simp only[bO,ly,dr,cd,bm,List.set_cons_zero,cE,aV,hv];rw[<-hc,List.drop_left]
  | succ n=>
   simp only[dv]at hn;have:=ih (fun d hd=>hs d (by simp[hd])) hn hv;have e:(n+1)*size=c.length+n*size:=by rw[fp,hc];omega
   simp only[bO]at this⊢;simp only[cE,List.set_cons_succ,aV];rw[e,P1,eH,P2,<-this];simp
end
section
variable {α:Type} {r:Rp α} {size:Nat} {w w':World} {F G:Nat->Prop} {s:Sl} {xs:List α} {e:TypeId} {B:Nat} {P:Program} {t ty:TypeId} {i:TypeInfo} {z v:Value} {bytes:Nat} {x:α}
theorem pv (ht:P.underlying t=some (.slice e)) (hi:P.info? e=some i) (hz:i.zero=some z) (nq:i.size=size) (RF:i.bytes=bytes) (Fc:z.cells.size=size) (h0:0<size) (EM:0<bytes) (sI:1*size<=16777216)
  (hr:r.Ok) (hs:Own r size e B w F s xs) (hB:B<=w.heap.size) (hv:v.cells.toList.length=size) (hx:r w G x v.cells.toList) (hG:∀k,G k->k<w.heap.size->F k/\s.a≠some ⟨k,0,none⟩) (hm:(xs.length+1)*bytes<=140737488355328):
  ∃y w1,(Instr.buildSlice t 1 #[(0,v)]).run P w=.ok (Sl.v y) w1/\Only [] w w1/\∃s' w2,(Builtin.append_ #[t,t] ty #[Sl.v s,Sl.v y]).run P w1=.ok (Sl.v s') w2/\
   Own r size e B w2 (fun k=>F k∨w.heap.size<=k) s' (xs++[x])/\(∃gs,Only gs w1 w2/\∀g,g∈gs->s.a=some ⟨g,0,none⟩/\B<=g/\g<w.heap.size)/\(s'.a=s.a∨∃g,s'.a=some ⟨g,0,none⟩/\w.heap.size<=g):=by
 obtain⟨y,w1,k1,k2,k3,k4,k5,k6⟩:=kR (P:=P) (t:=t) (e:=e) (i:=i) (z:=z) (w:=w) (F:=fun k=>G k/\k<w.heap.size) (vs:=[v]) (parts:=#[(0,v)]) (len:=1) (xs:=[x]) (r:=r) (size:=size) ht hi hz nq h0 rfl rfl (by decide) sI hr ⟨⟨hv,hr.inHeap hx⟩,trivial⟩;have NY:Own r size e B w1 (fun k=>F k∨w.heap.size<=k) s xs:=((hs.inHeap hr).keep hr fun k _ bJ=>k3.block k bJ (by simp)).mono hr fun k hk=>.inl hk.1;have hy:=(k2.slice hr).mono hr (G:=fun k=>(F k∨w.heap.size<=k)/\s.a≠some ⟨k,0,none⟩) fun k hk=>by
  rcases hk with⟨hk,bJ⟩ | ⟨hk,_⟩
  ·exact⟨.inl (hG k hk bJ).1,(hG k hk bJ).2⟩
  ·exact⟨.inr hk,fun ha=>by have:=(hs.blk ha).2;dsimp only at this;omega⟩
 obtain⟨s',w2,g1,g2,gs,g3,g4,g5⟩:=pu (ty:=ty) ht hi hz nq RF Fc hr NY hy (aX hB k3.size) hm EM;refine⟨y,w1,k1,k3,s',w2,g1,g2,⟨gs,g3,fun g hg=>⟨(g4 g hg).1,(g4 g hg).2.1,(hs.blk (g4 g hg).1).2⟩⟩,?_⟩;rcases g5 with h | h
 ·exact .inl h
 ·exact .inr ⟨_,h,k3.size⟩
theorem Own.store (hr:r.Ok) (hs:Own r size e B w F s xs) {n:Nat} (hn:n<xs.length) {x:α} {vs:List Value} (hv:vs.length=size) (hx:r w G x vs) (hG:∀k,G k->k<w.heap.size->F k/\s.a≠some ⟨k,0,none⟩) (h0:0<size):
  ∃g cells,s.a=some ⟨g,0,none⟩/\ck s n size ⟨g,n*size,none⟩/\Blk w g e cells/\n*size+size<=cells.length/\
   ∀w',Only [g] w w'->Blk w' g e (bO cells (n*size) vs)->Own r size e B w' F s (xs.set n x):=by
 rcases hs with⟨rfl,rfl⟩ | ⟨g,css,tail,h1,h2,h4,h5,h6,h7,h9,h8⟩
 ·simp at hn
 have oY:=h8.len;have hcn:n<css.length:=by omega
 have Ud:css.flatten.length=css.length*size:=C5 h8.sz;have IY:n*size+size<=css.length*size:=by
  have:=dW size (show n+1<=css.length by omega);rw[fp]at this;omega
 refine⟨g,_,h1,⟨_,h1,by omega,by omega,by rw[gC,aM,bm]⟩,h4,by rw[aD];omega,fun w' hO hb=>.inr ⟨g,css.set n vs,tail,h1,h2,?_,h5,by rw[Pc];exact h6,h7,h9,?_⟩⟩
 ·rw[C7 h8.sz (bA hcn) hv]at hb;exact hb
 ·refine ny.setAt (h8.keep hr fun k hk bJ=>hO.block k bJ (by simpa using hk.2)) n hv (hr.keep (w:=w) (F:=fun k=>F k/\k≠g) ?_ fun k hk bJ=>hO.block k bJ (by simpa using hk.2));refine hr.mono (hr.inHeap hx) fun k hk=>?_;obtain⟨p1,p2⟩:=hG k hk.1 hk.2;exact⟨p1,fun e=>p2 (by rw[h1,e])⟩
theorem Jn (ht:P.underlying t=some (.slice e)) (hi:P.info? e=some i) (r:Rp α) (size:Nat) (w:World) (F:Nat->Prop):
  ∃y w1,(Instr.buildSlice t 0 #[]).run P w=.ok (Sl.v y) w1/\Own r size e w.heap.size w1 F y []/\Only [] w w1:=
 ⟨⟨some ⟨w.heap.size,0,none⟩,0,0⟩,_,xw w ht hi,.inr ⟨w.heap.size,[],[],rfl,aK _,Blk.alloc w e [],by simp,rfl,aK _,aQ _,trivial⟩,Only.alloc _ _⟩
end
theorem fG.acz {α β:Type} {P:β->List Value->Prop} {f:α->β}:∀{xs:List α} {css:List (List Value)},fG P (xs.map f) css↔fG (fun x cs=>P (f x) cs) xs css
 | [],[]=>Iff.rfl
 | x::xs,c::cs=>by simp only[bg,fG,fG.acz (xs:=xs) (css:=cs)]
 | [],_::_=>Iff.rfl
 | _::_,[]=>Iff.rfl
theorem fG.NS {α:Type} {P Q:α->List Value->Prop}:∀{xs:List α} {css:List (List Value)},(∀x c,x∈xs->P x c->Q x c)->fG P xs css->fG Q xs css
 | [],[],_,_=>trivial
 | x::xs,c::cs,hi,h=>⟨hi _ _ (by simp) h.1,fG.NS (xs:=xs) (css:=cs) (fun y d hy=>hi y d (by simp[hy])) h.2⟩
 | [],_::_,_,h=>h.elim
 | _::_,[],_,h=>h.elim
theorem Own.map {α β:Type} {r:Rp α} {q:Rp β} {size:Nat} {w:World} {F G:Nat->Prop} {s:Sl} {xs:List α} {e:TypeId} {B:Nat} (f:α->β) (h:Own r size e B w F s xs) (hf:∀g x cs,x∈xs->r w (fun k=>F k/\k≠g) x cs->q w (fun k=>G k/\k≠g) (f x) cs):Own q size e B w G s (xs.map f):=by
 rcases h with⟨rfl,rfl⟩ | ⟨g,css,tail,h1,h2,h4,h5,h6,h7,h9,h8⟩
 ·exact .inl ⟨rfl,rfl⟩
 ·exact .inr ⟨g,css,tail,h1,h2,h4,h5,by rw[bL];exact h6,h7,h9,fG.acz.2 (fG.NS (fun x c hx hc=>⟨hc.1,hf g x c hx hc.2⟩) h8)⟩
section
variable {P:Program} {w:World}
theorem zj {z:Array Value} (hz:∀v,v∈z->v.oneCell'=true) (h0:0<z.size) (n:Nat):∀v,v∈(Builtin.zeroCells z n).toList->v.oneCell'=true:=fun v hv=>by
 have hv':v∈Builtin.zeroCells z n:=by simpa using hv
 simp only[Builtin.zeroCells,Array.mem_map,Array.mem_range]at hv';obtain⟨i,hi,rfl⟩:=hv';have bJ:i % z.size<z.size:=Nat.mod_lt _ h0;rw[getElem!_pos z (i % z.size) bJ];exact hz _ (Array.getElem_mem bJ)
theorem zl {t e ty:TypeId} {z:Value} (ht:P.underlying t=some (.slice e)) (hv:∀w,(zeroValue e).run P w=.ok z w) (h1:∀v,v∈z.cells->v.oneCell'=true) (We:0<z.cells.size) {g o n c:Nat} {bt:TypeId} {cs:List Value} (hn:0<n)
  (hb:Blk w g bt cs) (Gy:o+n*z.cells.size<=cs.length):
  (Builtin.clear_ #[t] ty #[.slice (some ⟨g,o,none⟩) n c]).run P w=.ok (.tuple #[]) (w.setRow g (cs.take o++(Builtin.zeroCells z.cells n).toList++cs.drop (o+n*z.cells.size)).toArray):=by
 have hl:(Builtin.zeroCells z.cells n).toList.length=n*z.cells.size:=by rw[lK,size_zeroCells]
 have kb:=run_storeCells_at P g o bt (Builtin.zeroCells z.cells n).toList 0 cs.toArray w hb (by rw[hl];simpa using Gy) (zj h1 We n);simp only[gr,hl,eX]at kb;obtain⟨m,rfl⟩:∃m,n=m+1:=⟨n-1,by omega⟩
 simp[Builtin.clear_,run_underlying ht,hv,kb]
theorem Own.clear {α:Type} {r:Rp α} {size:Nat} {F:Nat->Prop} {s:Sl} {xs:List α} {e:TypeId} {B:Nat} {t ty:TypeId} {z:Value} (hr:r.Ok) (h0:0<size) (ht:P.underlying t=some (.slice e)) (hv:∀w,(zeroValue e).run P w=.ok z w) (h1:∀v,v∈z.cells->v.oneCell'=true) (Fc:z.cells.size=size)
  (hs:Own r size e B w F s xs) {i:Nat} (hi:i<xs.length):
  ∃w' g,(Builtin.clear_ #[t] ty #[Sl.v (Sl.cut s i s.n s.c size)]).run P w=.ok (.tuple #[]) w'/\s.a=some ⟨g,0,none⟩/\Only [g] w w'/\Own r size e B w' F (Sl.cut s 0 i s.c size) (xs.take i):=by
 rcases hs with⟨rfl,rfl⟩ | ⟨g,css,tail,a1,a2,a4,a5,a6,a7,a9,a8⟩
 ·simp at hi
 obtain⟨sa,sn,sc⟩:=s;dsimp only at a1 a5 a6 a7 a9;subst a1;have Ud:=a8.Gv;have acL:Sl.cut ⟨some ⟨g,0,none⟩,sn,sc⟩ i sn sc size=⟨some ⟨g,i*size,none⟩,sn-i,sc-i⟩:=by
  simp only[Sl.cut];rw[if_neg (by omega)];simp only[cD,gC,bm]
 have e1:i*size+(sn-i)*size=sn*size:=by rw[<-fp];congr 1;omega
 have rl:=zl (P:=P) (w:=w) (t:=t) (ty:=ty) ht hv h1 (by omega) (g:=g) (o:=i*size) (n:=sn-i) (c:=sc-i) (by omega) a4 (by rw[Fc,e1,aD,Ud,a6];omega);have hO:Only [g] w _:=Only.setRow w g (((css.flatten++tail).take (i*size)++(Builtin.zeroCells z.cells (sn-i)).toList++(css.flatten++tail).drop (i*size+(sn-i)*z.cells.size)).toArray);refine⟨_,g,by rw[acL];exact rl,rfl,hO,?_⟩;have acM:Sl.cut ⟨some ⟨g,0,none⟩,sn,sc⟩ 0 i sc size=⟨some ⟨g,0,none⟩,i,sc⟩:=by
  simp only[Sl.cut];split<;>simp[Addr.add]
 rw[acM];have od:(css.flatten++tail).take (i*size)=(css.take i).flatten:=by
  rw[KZ (by rw[Ud,<-a6];exact dW _ (by omega)),Jl a8.sz]
 refine .inr ⟨g,css.take i,(Builtin.zeroCells z.cells (sn-i)).toList++(css.flatten++tail).drop (i*size+(sn-i)*z.cells.size),rfl,a2,?_,?_,?_,by dsimp only;omega,a9,?_⟩
 ·have:=a4.setRow ((css.flatten++tail).take (i*size)++(Builtin.zeroCells z.cells (sn-i)).toList++(css.flatten++tail).drop (i*size+(sn-i)*z.cells.size));rw[aV,od]at this;rw[od];simpa only[aV]using this
 ·simp only[aD,bN,Ud,<-a6,lK,size_zeroCells,a5,Fc,e1];rw[dw,<-fp];congr 1;omega
 ·rw[cM];dsimp only;omega
 ·refine ny.keep hr (fG.take i a8) fun k hk bJ=>hO.block k bJ (by simpa using hk.2)
end
theorem Sh (l m:List UInt8):((⟨List.toArray l⟩:ByteArray).toList==(⟨List.toArray m⟩:ByteArray).toList)=decide (l=m):=by
 have e:∀l:List UInt8,(⟨List.toArray l⟩:ByteArray).toList=l:=fun l=>by simp[ByteArray.toList_eq]
 rw[e,e];by_cases h:l=m<;>simp[h]
end Go.Kt
namespace Go.Kt
open Go Go.RowKit Go.MapKept
set_option linter.unusedSimpArgs false
set_option linter.unusedVariables false
structure MapI (w:World) (r:Nat) (m:Int->Option Int):Prop where
 mem:∃es clock,w.heap[r]? =some (.map es clock)/\(∀x,x∈es.toList->∃k v,x.key=.int .i64 k/\x.val=.int .i64 v)/\es.toList.Pairwise (fun x y=>x.key≠y.key)/\
  ∀k v,m k=some v↔∃x,x∈es.toList/\x.key=.int .i64 k/\x.val=.int .i64 v
section
variable {P:Program} {w w':World} {r:Nat} {m:Int->Option Int} {mty kt et:TypeId}
theorem MapI.keep (h:MapI w r m) (hk:w'.heap[r]? =w.heap[r]?):MapI w' r m:=by
 obtain⟨es,c,h1,h2⟩:=h.mem;exact⟨es,c,hk.trans h1,h2⟩
theorem MapI.lt (h:MapI w r m):r<w.heap.size:=by
 obtain⟨es,c,h1,h2⟩:=h.mem;exact(kD.1 h1).1
theorem MapI.only (h:MapI w r m) {bs:List Nat} (hO:Only bs w w') (hn:r∉bs):MapI w' r m:=h.keep (hO.block r h.lt hn)
end
end Go.Kt
namespace Go.Kt
open Go Go.RowKit
set_option linter.unusedSimpArgs false
set_option linter.unusedVariables false
@[reducible] def T (l:List UInt8):ByteArray:=⟨l.toArray⟩
theorem uX (s:ByteArray):s=T s.data.toList:=by
 obtain⟨⟨l⟩⟩:=s;rfl
theorem bI (l:List UInt8):(T l).size=l.length:=by simp[T,ByteArray.size]
theorem ke (l:List UInt8) (i:Nat):(T l)[i]? =l[i]? :=by
 by_cases h:i<l.length
 ·rw[bA h,getElem?_pos (T l) i (by rw[bI];exact h)];rfl
 ·rw[cr (by omega),getElem?_neg (T l) i (by rw[bI];exact h)]
theorem qA (l:List UInt8) (a b:Nat):(T l).extract a b=T ((l.drop a).take (b-a)):=by
 rw[uX ((T l).extract a b),Lib.extract_data]
theorem dH (l m:List UInt8):T l++T m=T (l++m):=by
 apply ByteArray.ext;simp[T]
theorem gV (l m:List UInt8):((T l).toList==(T m).toList)=decide (l=m):=Sh l m
def sf (us:Nat->Value):List (Nat×Value)->Nat->Value
 | [],i=>us i
 | (k,v)::r,i=>bif Nat.beq k i then v else sf us r i
def vS:List (Nat×Value)->Nat->Option Value
 | [],_=>none
 | (k,v)::r,i=>bif Nat.beq k i then some v else vS r i
def Qe (us:Nat->Value) (l:List (Nat×Value)):Nat->Nat->List Value
 | 0,_=>[]
 | n+1,i=>sf us l i::Qe us l n (i+1)
def fr (n:Nat) (us:Nat->Value) (l:List (Nat×Value)):Act:=⟨(Qe us l n 0).toArray,[]⟩
def evO (n:Nat) (l:List (Nat×Value)):Operand->Option Value
 | .tmp k=>bif Nat.blt k n then vS l k else none
 | .const v=>some v
 | .global g=>some (.pointer (some ⟨g,0,none⟩))
 | .func f=>some (.func (.func f) #[] #[])
def pl:Option Tmp->Value->List (Nat×Value)->List (Nat×Value)
 | some k,v,l=>(k,v)::l
 | none,_,l=>l
def A5:Nat->List Value->List (Nat×Value)
 | _,[]=>[]
 | i,v::r=>(i,v)::A5 (i+1) r
section
variable {n0:Nat} {us0:Nat->Value} {l0:List (Nat×Value)}
theorem mr (us:Nat->Value) (l:List (Nat×Value)):∀n i,(Qe us l n i).length=n
 | 0,_=>rfl
 | n+1,i=>by simp only[Qe,aH,mr us l n (i+1)]
theorem lC (us:Nat->Value) (l:List (Nat×Value)):∀n i k,k<n->(Qe us l n i)[k]? =some (sf us l (i+k))
 | 0,_,_,h=>by omega
 | n+1,i,0,_=>rfl
 | n+1,i,k+1,h=>by
  simp only[Qe,dv];rw[lC us l n (i+1) k (by omega),show i+1+k=i+(k+1) by omega]
theorem rG {us:Nat->Value}:∀{l:List (Nat×Value)} {k:Nat} {v:Value},vS l k=some v->sf us l k=v
 | [],_,_,h=>by cases h
 | (j,u)::r,k,v,h=>by
  simp only[vS,sf]at h⊢;cases hb:Nat.beq j k with
  | true=>rw[hb]at h;simpa using h
  | false=>rw[hb]at h;exact rG (l:=r) (by simpa using h)
theorem A6 {us:Nat->Value}:∀{l:List (Nat×Value)} {k:Nat},vS l k=none->sf us l k=us k
 | [],_,_=>rfl
 | (j,u)::r,k,h=>by
  simp only[vS,sf]at h⊢;cases hb:Nat.beq j k with
  | true=>rw[hb]at h;simp at h
  | false=>rw[hb]at h;exact A6 (l:=r) (by simpa using h)
theorem Ld {k:Nat} (hk:k<n0):(fr n0 us0 l0).eval (.tmp k)=sf us0 l0 k:=by
 show(Qe us0 l0 n0 0).toArray.getD k undef=_;rw[Array.getD_eq_getD_getElem?,ov,lC _ _ _ _ _ hk,bm];rfl
theorem evE {x:Operand} {v:Value} (h:evO n0 l0 x=some v):(fr n0 us0 l0).eval x=v:=by
 cases x with
 | tmp k=>
  simp only[evO]at h;cases hb:Nat.blt k n0 with
  | false=>rw[hb]at h;cases h
  | true=>
   rw[hb]at h;rw[Ld (cN hb)];exact rG h
 | const u=>simpa[evO,Act.eval]using h
 | global g=>simpa[evO,Act.eval]using h
 | func f=>simpa[evO,Act.eval]using h
theorem tT {us:Nat->Value} {l:List (Nat×Value)} {k i:Nat} {v:Value} (h:k≠i):sf us ((k,v)::l) i=sf us l i:=by
 have:Nat.beq k i=false:=by
  cases hb:Nat.beq k i with
  | false=>rfl
  | true=>exact absurd (bC hb) h
 simp only[sf,this,mE]
theorem tU {us:Nat->Value} {l:List (Nat×Value)} {k:Nat} {v:Value}:sf us ((k,v)::l) k=v:=by
 simp only[sf,Nat.beq_refl,fe]
theorem YW {k:Nat} {v:Value}:(fr n0 us0 l0).put (some k) v=fr n0 us0 ((k,v)::l0):=by
 unfold fr;rw[f0];congr 2;apply nE;intro i;rw[List.getElem?_set,mr];by_cases hi:i<n0
 ·rw[lC _ _ _ _ _ hi,lC _ _ _ _ _ hi,bm];split
  ·rename_i h;subst h;rw[if_pos hi,tU]
  ·rename_i h;rw[tT h]
 ·rw[cr (by rw[mr];omega),cr (by rw[mr];omega)];split
  ·rename_i h;subst h;rw[if_neg hi]
  ·rfl
theorem afS {d:Option Tmp} {v:Value}:(fr n0 us0 l0).put d v=fr n0 us0 (pl d v l0):=by
 cases d with
 | none=>rfl
 | some k=>exact YW
theorem zQ:∀(args:List Value) (j i:Nat),sf (fun _=>undef) (A5 j args) i=if j<=i then(args[i-j]?).getD undef else undef
 | [],j,i=>by simp[A5,sf]
 | v::r,j,i=>by
  simp only[A5];by_cases zy:j=i
  ·subst zy;rw[tU,if_pos (aK _)];simp
  ·rw[tT zy,zQ r (j+1) i];by_cases IY:j<=i
   ·rw[if_pos IY,if_pos (by omega),show i-j=(i-(j+1))+1 by omega,dv]
   ·rw[if_neg IY,if_neg (by omega)]
end
section
variable {P:Program} {ops:Array Oper} {Q:Exit->Act->World->Prop} {rest:List Oper} {w w':World} {n0:Nat} {us0:Nat->Value} {l0:List (Nat×Value)}
def asB:Value->Option Bool
 | .bool b=>some b
 | _=>none
theorem C8 {dx:List Oper} {j d:Nat} {oj:Oper} {v:Value} (h2:fS dx j=some oj) (h3:oj.dst=some d) (h4:evO n0 l0 (.tmp d)=some v):
  yielded dx.toArray (fr n0 us0 l0).tmps j=asB v:=by
 rw[je]at h2;have hd:d<n0:=by
  simp only[evO]at h4;cases hb:Nat.blt d n0 with
  | false=>rw[hb]at h4;cases h4
  | true=>exact cN hb
 have h5:=evE (us0:=us0) h4;rw[Ld hd]at h5;have:(fr n0 us0 l0).tmps[d]? =some v:=by
  show(Qe us0 l0 n0 0).toArray[d]? =_;rw[ov,lC _ _ _ _ _ hd,bm,h5]
 simp only[yielded,ov,h2,lz,h3,this];cases v<;>rfl
theorem wtF {o oj:Oper} {dx:List Oper} {j d:Nat} {want b r:Bool} (h1:o.guard=some (j,want)) (h2:fS dx j=some oj) (h3:oj.dst=some d)
  (h4:evO n0 l0 (.tmp d)=some (.bool b)) (h5:(b==want)=r):Region.wanted o (yielded dx.toArray (fr n0 us0 l0).tmps)=r:=by
 subst h5;have e:=C8 (us0:=us0) h2 h3 h4;simp only[Region.wanted,h1,e,asB];cases b<;>cases want<;>rfl
theorem wuF {o oj:Oper} {dx:List Oper} {j d:Nat} {want:Bool} (h1:o.guard=some (j,want)) (h2:fS dx j=some oj) (h3:oj.dst=some d)
  (h4:evO n0 l0 (.tmp d)=some undef):Region.wanted o (yielded dx.toArray (fr n0 us0 l0).tmps)=false:=by
 have e:=C8 (us0:=us0) h2 h3 h4;simp[Region.wanted,h1,e,undef,asB]
theorem pg {x y:Option Addr} (h:x=y):some (Value.pointer x)=some (.pointer y):=by rw[h]
theorem ag {x y:Addr} (h:x=y):some (Value.pointer (some x))=some (.pointer (some y)):=by rw[h]
theorem sn {op:Op} {t':TypeId} {p:String} {af:Array Edge} {v:Value} (hr:(execOp (fr n0 us0 l0).eval ⟨none,op,t',p,af,none⟩).run P w=.ok (.value v) w)
 (h:wpList P ops Q rest (fr n0 us0 l0) w):wpList P ops Q (⟨none,op,t',p,af,none⟩::rest) (fr n0 us0 l0) w:=Fi v (wn rfl) hr (f3 _ _) h
section
variable {md:Region.Mode} {E:Nat->World->World->Prop} {F:World->Prop}
theorem YX (i:Nat) {dx:List Oper} {d:Option Tmp} {op:Op} {t':TypeId} {p:String} {af:Array Edge} {g:Option (Nat×Bool)} {eo:Nat} {ba:Array Bool} (D N:List Nat) (F:World->Prop) {v:Value} (hi:fS dx i=some ⟨d,op,t',p,af,g⟩)
  (hb:(Region.noSelect dx.toArray&&Region.free md dx.toArray ba i&&(Region.ready md dx.toArray ba).contains i&&tS md dx.toArray ba&&qy md dx.toArray i [] D&&(N.all fun k=>ba.getD k true))=true)
  (hQ:∀c a w,Q (.panic c) (Act.put a d v) w->Q (.panic c) a w) (kb:∀j w w',j∉D->j∉N->F w->E j w w'->F w') (AH:∀w,F w->E i w w) (hF:F w)
  (hy:YieldsIf P dx.toArray F ⟨d,op,t',p,af,g⟩ v (fr n0 us0 l0))
  (h:eP P md dx.toArray Q E eo (ba.setIfInBounds i true) (fr n0 us0 (pl d v l0)) w):eP P md dx.toArray Q E (eo+1) ba (fr n0 us0 l0) w:=by
 simp only[aE]at hb;obtain⟨⟨⟨⟨⟨b1,b2⟩,b3⟩,b4⟩,b5⟩,b6⟩:=hb;exact Fy i D N v F hi b1 b2 b3 b4 b5 b6 hQ kb AH hF hy afS h
theorem eN (i:Nat) {dx:List Oper} {d:Option Tmp} {op:Op} {t':TypeId} {p:String} {af:Array Edge} {g:Option (Nat×Bool)} {eo:Nat} {ba:Array Bool} {ls:List (Nat×List Nat)} (hi:fS dx i=some ⟨d,op,t',p,af,g⟩)
  (hE:∀w,EL ls i w w) (hg:Region.wanted ⟨d,op,t',p,af,g⟩ (yielded dx.toArray (fr n0 us0 l0).tmps)=false)
  (h:eP P md dx.toArray Q (EL ls) eo (ba.setIfInBounds i true) (fr n0 us0 (pl d undef l0)) w)
  (hb:(Region.noSelect dx.toArray&&Region.free md dx.toArray ba i&&(Region.ready md dx.toArray ba).contains i&&tS md dx.toArray ba&&qy md dx.toArray i [] []&&(([]:List Nat).all fun k=>ba.getD k true))=true:=by kernel_rfl)
  (hQ:∀c a w,Q (.panic c) (Act.put a d undef) w->Q (.panic c) a w:=by exact fun _ _ _ h=>h):eP P md dx.toArray Q (EL ls) (eo+1) ba (fr n0 us0 l0) w:=
 YX i [] [] (fun _=>True) hi hb hQ Qc (fun w _=>hE w) trivial (UH hg) h
end
end
end Go.Kt
namespace Go.Kt.V
open Go Go.RowKit Go.Kt
set_option linter.unusedSimpArgs false
set_option linter.unusedVariables false
structure OV where
 v:Value
 one:v.oneCell'=true
inductive SV where
 | int (k:IntKind) (n:Int)
 | il (k:IntKind) (n:Int)
 | bl (b:Bool)
 | bt (t:Bool)
 | str (s:ByteArray)
 | np
 | ptr (p:Option Addr)
 | ad (a:Addr)
 | box (i o:Nat)
 | sl (s:Sl)
 | nsl
 | map (m:Option Nat)
 | raw (v:OV)
 | fn (f:FuncId) (fs cs:SV)
 | agg (l:SV)
 | tup (l:SV)
 | un
 | e
 | c (h t:SV)
def oq (β:Nat->Nat):SV->List Value
 | .int k n=>[.int k n]
 | .il k n=>[.int k n]
 | .bl b=>[.bool b]
 | .bt t=>[.bool t]
 | .str s=>[.string s]
 | .np=>[.pointer none]
 | .ptr p=>[.pointer p]
 | .ad a=>[.pointer (some a)]
 | .box i o=>[.pointer (some ⟨β i,o,none⟩)]
 | .sl s=>[s.v]
 | .nsl=>[Sl.v Sl.nil]
 | .map m=>[.map m]
 | .raw v=>[v.v]
 | .fn f fs cs=>[.func (.func f) (oq β fs).toArray (oq β cs).toArray]
 | .agg l=>[.agg (oq β l).toArray]
 | .tup l=>[.tuple (oq β l).toArray]
 | .un=>[undef]
 | .e=>[]
 | .c h t=>(oq β h).headD undef::oq β t
def val (β:Nat->Nat) (s:SV):Value:=(oq β s).headD undef
def bR (β:Nat->Nat) (l:List SV):List Value:=l.map (val β)
def j7:SV->List SV
 | .c h t=>h::j7 t
 | _=>[]
def jU:List SV->SV
 | []=>.e
 | s::r=>.c s (jU r)
def zm:SV->Bool
 | .c _ t=>zm t
 | .e=>true
 | _=>false
theorem pw (β:Nat->Nat):∀l,oq β (jU l)=bR β l
 | []=>rfl
 | s::r=>by simp only[jU,oq,pw β r];rfl
theorem lD (β:Nat->Nat):∀{s:SV},zm s=true->oq β s=bR β (j7 s)
 | .e,_=>rfl
 | .c h t,hl=>by simp only[oq,j7,lD β (s:=t) hl];rfl
def cln (g:Nat->Bool):SV->Bool
 | .box i _=>g i
 | .fn _ fs cs=>cln g fs&&cln g cs
 | .agg l=>cln g l
 | .tup l=>cln g l
 | .c h t=>cln g h&&cln g t
 | _=>true
def gD (g:Nat->Bool):List SV->Bool
 | []=>true
 | s::r=>cln g s&&gD g r
theorem kU {β β':Nat->Nat} {g:Nat->Bool} (h:∀i,g i=true->β i=β' i):∀s,cln g s=true->oq β s=oq β' s
 | .int ..,_ | .il ..,_ | .bl ..,_ | .bt ..,_ | .str ..,_ | .np,_ | .ptr ..,_ | .ad ..,_ | .sl ..,_ | .nsl,_ | .map ..,_ | .raw ..,_ | .un,_ | .e,_=>rfl
 | .box i o,hc=>by simp only[oq,h i hc]
 | .fn f fs cs,hc=>by
  simp only[cln,aE]at hc;simp only[oq,kU h fs hc.1,kU h cs hc.2]
 | .agg l,hc=>by simp only[oq,kU h l hc]
 | .tup l,hc=>by simp only[oq,kU h l hc]
 | .c s t,hc=>by
  simp only[cln,aE]at hc;simp only[oq,kU h s hc.1,kU h t hc.2]
theorem iQ {β β':Nat->Nat} {g:Nat->Bool} (h:∀i,g i=true->β i=β' i) (s:SV) (hc:cln g s=true):val β s=val β' s:=by
 unfold val;rw[kU h s hc]
theorem gj {β β':Nat->Nat} {g:Nat->Bool} (h:∀i,g i=true->β i=β' i):∀l,gD g l=true->bR β l=bR β' l
 | [],_=>rfl
 | s::r,hc=>by
  simp only[gD,aE]at hc;have:=gj h r hc.2;simp only[bR,bg]at this⊢;rw[iQ h s hc.1,this]
theorem ez (β:Nat->Nat) (l:List SV):(bR β l).length=l.length:=by rw[bR,bL]
def Lg:Value->Option SV
 | .int k n=>some (.il k n)
 | .bool b=>some (.bl b)
 | .string s=>some (.str s)
 | .pointer none=>some .np
 | .slice none 0 0=>some .nsl
 | .map m=>some (.map m)
 | v=>if h:v.oneCell'=true then some (.raw ⟨v,h⟩)else none
def zn:List Value->Option SV
 | []=>some .e
 | v::r=>match Lg v,zn r with
  | some s,some l=>some (.c s l)
  | _,_=>none
def ofV:Value->Option SV
 | .agg cs=>(zn cs.toList).map .agg
 | .tuple cs=>(zn cs.toList).map .tup
 | .func (.func f) fs cs=>match zn fs.toList,zn cs.toList with
  | some a,some b=>some (.fn f a b)
  | _,_=>none
 | v=>Lg v
theorem xx {v:Value} {s:SV} (h:Lg v=some s) (β:Nat->Nat):val β s=v:=by
 unfold Lg at h;split at h
 all_goals first | (simp only[aJ]at h;subst h;rfl) | skip
 split at h
 ·simp only[aJ]at h;subst h;rfl
 ·cases h
theorem qB (β:Nat->Nat):∀{l:List Value} {s:SV},zn l=some s->oq β s=l
 | [],s,h=>by simp only[zn,aJ]at h;subst h;rfl
 | v::r,s,h=>by
  simp only[zn]at h;split at h
  ·rename_i s' l' h1 h2;simp only[aJ]at h;subst h;simp only[oq,qB β h2];rw[show(oq β s').headD undef=v from xx h1 β]
  ·cases h
theorem G7 {v:Value} {s:SV} (h:ofV v=some s) (β:Nat->Nat):val β s=v:=by
 unfold ofV at h;split at h
 ·rename_i cs;cases hl:zn cs.toList with
  | none=>rw[hl]at h;cases h
  | some l=>
   rw[hl]at h;simp only[cD,aJ]at h;subst h;simp only[val,oq,qt,qB β hl]
 ·rename_i cs;cases hl:zn cs.toList with
  | none=>rw[hl]at h;cases h
  | some l=>
   rw[hl]at h;simp only[cD,aJ]at h;subst h;simp only[val,oq,qt,qB β hl]
 ·rename_i f fs cs;split at h
  ·rename_i a b h1 h2;simp only[aJ]at h;subst h;simp only[val,oq,qt,qB β h1,qB β h2]
  ·cases h
 ·exact xx h β
structure gR where
 blk:Option Nat
 ty:TypeId
 cells:List SV
 stp:Nat
 ok:Bool
 esc:Bool
 sh:Bool
structure St where
 n:Nat
 fr:List (Nat×Nat×SV)
 bx:List gR
 w0:World
 mv:Bool
 dt:List Nat
 ct:Nat
 df:List (Nat×List Value×List Value)
def Pj (l:List (Nat×List Value×List Value)):List Deferred:=l.map fun d=>{target:=.fn (.func d.1) d.2.2.toArray,args:=d.2.1.toArray}
def UI (n:Nat) (us:Nat->Value) (l:List (Nat×Value)) (D:List Deferred):Act:=⟨(Qe us l n 0).toArray,D⟩
def dk:List (Nat×Nat×SV)->Nat->Option (Nat×SV)
 | [],_=>none
 | (k,s)::r,i=>bif Nat.beq k i then some s else dk r i
def St.get (st:St) (i:Nat):Option SV:=bif Nat.blt i st.n then(dk st.fr i).map (·.2)else none
def St.ev (st:St):Operand->Option SV
 | .tmp k=>st.get k
 | .const v=>ofV v
 | .global g=>some (.ad ⟨g,0,none⟩)
 | .func f=>some (.fn f .e .e)
def St.IR (st:St):List Operand->Option (List SV)
 | []=>some []
 | x::r=>match st.ev x,st.IR r with
  | some v,some vs=>some (v::vs)
  | _,_=>none
def St.Py (st:St):List (Nat×Operand)->Option (List (Nat×SV))
 | []=>some []
 | (i,x)::r=>match st.ev x,st.Py r with
  | some v,some vs=>some ((i,v)::vs)
  | _,_=>none
def St.put (st:St) (d:Option Tmp) (v:SV):St:=match d with
 | some k=>{st with fr:=(k,st.ct,v)::st.fr,ct:=st.ct+1}
 | none=>st
def cu:List gR->Nat->Option gR
 | [],_=>none
 | b::_,0=>some b
 | _::r,n+1=>cu r n
def zo:List gR->Nat->gR->List gR
 | [],_,_=>[]
 | _::r,0,b=>b::r
 | a::r,n+1,b=>a::zo r n b
def cv (β:Nat->Nat) (l:List (Nat×Nat×SV)):List (Nat×Value):=l.map fun p=>(p.1,val β p.2.2)
theorem kf (β:Nat->Nat):∀l i,vS (cv β l) i=(dk l i).map fun p=>val β p.2
 | [],_=>rfl
 | (k,s)::r,i=>by
  simp only[cv,bg,vS,dk];cases Nat.beq k i with
  | true=>rfl
  | false=>exact kf β r i
structure acO (β:Nat->Nat) (w0 w:World) (i:Nat) (b:gR):Prop where
 blk:Blk w (β i) b.ty (bR β b.cells)
 at_:∀k,b.blk=some k->β i=k
 new:b.blk=none->w0.heap.size<=β i
structure Rep (β:Nat->Nat) (st:St) (a:Act) (w:World):Prop where
 fr:∃us,a=UI st.n us (cv β st.fr) (Pj st.df)
 bx:∀i b,cu st.bx i=some b->b.ok=true->acO β st.w0 w i b
 ne:∀i j bi bj,cu st.bx i=some bi->cu st.bx j=some bj->bi.ok=true->bj.ok=true->i≠j->β i≠β j
 only:Only (st.dt.map β) st.w0 w
 still:st.mv=false->w=st.w0
structure Ext (s t:St):Prop where
 n:t.n=s.n
 ct:s.ct<=t.ct
 fr:∀i k v,dk t.fr i=some (k,v)->k<s.ct->dk s.fr i=some (k,v)
 bx:∀i b',cu t.bx i=some b'->b'.ok=true->b'.stp<s.ct->∃b,cu s.bx i=some b/\b.ok=true/\b.cells=b'.cells/\b.ty=b'.ty/\b.stp=b'.stp/\(∀k,b.blk=some k->b'.blk=some k)
 ps:∀i b,cu s.bx i=some b->∃b',cu t.bx i=some b'/\b'.ty=b.ty/\b'.ok=b.ok/\∀k,b.blk=some k->b'.blk=some k
 df:∃l,t.df=l++s.df
theorem CL {s:St}:∃l,s.df=l++s.df:=⟨[],rfl⟩
theorem Lh {l:List gR}:∀i b,cu l i=some b->∃b',cu l i=some b'/\b'.ty=b.ty/\b'.ok=b.ok/\∀k,b.blk=some k->b'.blk=some k:=fun i b h=>⟨b,h,rfl,rfl,fun _ h=>h⟩
theorem Ext.refl (s:St):Ext s s:=⟨rfl,aK _,fun _ _ _ h _=>h,fun i b h ho _=>⟨b,h,ho,rfl,rfl,rfl,fun _ h=>h⟩,Lh,CL⟩
theorem Ext.trans {s t u:St} (h:Ext s t) (k:Ext t u):Ext s u:=
 ⟨k.n.trans h.n,aX h.ct k.ct,fun i m v hl bJ=>h.fr i m v (k.fr i m v hl (cb bJ h.ct)) bJ,fun i b'' hb ho hs=>by
  obtain⟨b',k1,k2,k3,k4,k6,k5⟩:=k.bx i b'' hb ho (cb hs h.ct);obtain⟨b,h1,h2,h3,h4,h6,h5⟩:=h.bx i b' k1 k2 (by rw[k6];exact hs);exact⟨b,h1,h2,h3.trans k3,h4.trans k4,h6.trans k6,fun m hm=>k5 m (h5 m hm)⟩,fun i b hb=>by
  obtain⟨b',h1,h2,h3,h4⟩:=h.ps i b hb;obtain⟨b'',k1,k2,k3,k4⟩:=k.ps i b' h1;exact⟨b'',k1,k2.trans h2,k3.trans h3,fun m hm=>k4 m (h4 m hm)⟩,by
  obtain⟨l,h1⟩:=h.df;obtain⟨m,k1⟩:=k.df;exact⟨m++l,by rw[k1,h1,aV]⟩⟩
section
variable {β:Nat->Nat} {st:St} {a:Act} {w:World}
theorem Rep.get (h:Rep β st a w) {i:Nat} {s:SV} (hg:st.get i=some s):a.eval (.tmp i)=val β s:=by
 obtain⟨us,rfl⟩:=h.fr;show(Kt.fr st.n us (cv β st.fr)).eval (.tmp i)=_;refine evE (n0:=st.n) (us0:=us) ?_;unfold St.get at hg;cases hb:Nat.blt i st.n with
 | false=>rw[hb]at hg;cases hg
 | true=>
  rw[hb,fe]at hg;simp only[evO,hb,fe,kf];cases hl:dk st.fr i with
  | none=>rw[hl]at hg;cases hg
  | some p=>
   rw[hl]at hg;simp only[cD,aJ]at hg;rw[cD,hg]
theorem Rep.ev (h:Rep β st a w) {x:Operand} {s:SV} (hg:st.ev x=some s):a.eval x=val β s:=by
 cases x with
 | tmp k=>exact h.get hg
 | const v=>rw[G7 hg];rfl
 | global g=>
  simp only[St.ev,aJ]at hg;subst hg;rfl
 | func f=>
  simp only[St.ev,aJ]at hg;subst hg;rfl
theorem Rep.IR (h:Rep β st a w):∀{xs:List Operand} {l:List SV},st.IR xs=some l->xs.map a.eval=bR β l
 | [],l,hg=>by simp only[St.IR,aJ]at hg;subst hg;rfl
 | x::r,l,hg=>by
  simp only[St.IR]at hg;split at hg
  ·rename_i v vs hx hr;simp only[aJ]at hg;subst hg;rw[bg,h.ev hx,h.IR hr];rfl
  ·cases hg
def xy (β:Nat->Nat) (l:List (Nat×SV)):List (Nat×Value):=l.map fun p=>(p.1,val β p.2)
theorem Rep.Py (h:Rep β st a w):∀{xs:List (Nat×Operand)} {l:List (Nat×SV)},st.Py xs=some l->(xs.map fun q=>(q.1,a.eval q.2))=xy β l
 | [],l,hg=>by simp only[St.Py,aJ]at hg;subst hg;rfl
 | (i,x)::r,l,hg=>by
  simp only[St.Py]at hg;split at hg
  ·rename_i v vs hx hr;simp only[aJ]at hg;subst hg;rw[bg,h.Py hr,h.ev hx];rfl
  ·cases hg
theorem St.evO {st:St} (β:Nat->Nat) {x:Operand} {s:SV} (hg:st.ev x=some s):Kt.evO st.n (cv β st.fr) x=some (val β s):=by
 cases x with
 | tmp i=>
  have hg:st.get i=some s:=hg;unfold St.get at hg;cases hb:Nat.blt i st.n with
  | false=>rw[hb]at hg;cases hg
  | true=>
   rw[hb,fe]at hg;simp only[Kt.evO,hb,fe,kf];cases hl:dk st.fr i with
   | none=>rw[hl]at hg;cases hg
   | some p=>
    rw[hl]at hg;simp only[cD,aJ]at hg;rw[cD,hg]
 | const v=>rw[G7 hg];rfl
 | global g=>
  simp only[St.ev,aJ]at hg;subst hg;rfl
 | func f=>
  simp only[St.ev,aJ]at hg;subst hg;rfl
theorem Rep.put (h:Rep β st a w) (d:Option Tmp) (v:SV):Rep β (st.put d v) (a.put d (val β v)) w:=by
 cases d with
 | none=>exact h
 | some k=>
  obtain⟨us,rfl⟩:=h.fr;exact⟨⟨us,bp (fun a:Act=>(⟨a.tmps,Pj st.df⟩:Act)) (YW (n0:=st.n) (us0:=us) (l0:=cv β st.fr) (k:=k) (v:=val β v))⟩,h.bx,h.ne,h.only,h.still⟩
theorem Ext.put (st:St) (d:Option Tmp) (v:SV):Ext st (st.put d v):=by
 cases d with
 | none=>exact Ext.refl _
 | some k=>
  refine⟨rfl,ic _,fun i m u hl bJ=>?_,fun i b h ho _=>⟨b,h,ho,rfl,rfl,rfl,fun _ h=>h⟩,Lh,CL⟩;simp only[St.put,dk]at hl;cases hb:Nat.beq k i with
  | true=>
   rw[hb]at hl;simp only[fe,aJ,cW]at hl;omega
  | false=>rw[hb]at hl;simpa using hl
theorem Rep.frame (h:Rep β st a w) {fr':List (Nat×Nat×SV)} (hs:∀i p,dk fr' i=some p->∃q,dk st.fr i=some q/\val β q.2=val β p.2):Rep β {st with fr:=fr'} a w:=by
 obtain⟨us,rfl⟩:=h.fr;refine⟨?_,h.bx,h.ne,h.only,h.still⟩;refine⟨fun i=>sf us (cv β st.fr) i,?_⟩;unfold UI;congr 2;apply nE;intro i;by_cases hi:i<st.n
 ·rw[lC _ _ _ _ _ hi,lC _ _ _ _ _ hi,bm];congr 1;cases hl:dk fr' i with
  | none=>
   rw[A6 (l:=cv β fr') (by rw[kf,hl];rfl)]
  | some p=>
   obtain⟨q,h1,h2⟩:=hs i p hl;rw[rG (l:=cv β fr') (v:=val β p.2) (by rw[kf,hl];rfl),rG (l:=cv β st.fr) (v:=val β p.2) (by rw[kf,h1,cD,h2])]
 ·rw[cr (by rw[mr];exact KB hi),cr (by rw[mr];exact KB hi)]
end
def bG {α:Type} (o:Option α) (K:α->Prop):Prop:=match o with
 | some v=>K v
 | none=>False
theorem aY {α:Type} {o:Option α} {K:α->Prop} (h:bG o K):∃v,o=some v/\K v:=by
 cases o with
 | none=>exact h.elim
 | some v=>exact⟨v,rfl,h⟩
def gi:List (Bool×Bool)->Prop->Prop
 | [],p=>p
 | (t,b)::r,p=>t=b->gi r p
def gh:List (Bool×Bool)->Prop
 | []=>True
 | (t,b)::r=>t=b/\gh r
theorem gn:∀{gs:List (Bool×Bool)} {p:Prop},gi gs p->gh gs->p
 | [],_,h,_=>h
 | (t,b)::r,p,h,k=>gn (gs:=r) (h k.1) k.2
inductive Lf where
 | int (k:IntKind)
 | bool
 | str
 | ptr
 | sl
 | map
 | raw
def Lf.T:Lf->Type
 | .int _=>Int
 | .bool=>Bool
 | .str=>ByteArray
 | .ptr=>Option Addr
 | .sl=>Sl
 | .map=>Option Nat
 | .raw=>OV
def Lf.sv:(l:Lf)->l.T->SV
 | .int k,x=>.int k x
 | .bool,x=>.bt x
 | .str,x=>.str x
 | .ptr,x=>.ptr x
 | .sl,x=>.sl x
 | .map,x=>.map x
 | .raw,x=>.raw x
theorem Lf.cln (g:Nat->Bool) (l:Lf) (x:l.T):V.cln g (l.sv x)=true:=by cases l<;>rfl
def XP:List Lf->(List SV->Prop)->Prop
 | [],K=>K []
 | l::r,K=>∃x:l.T,XP r fun vs=>K (l.sv x::vs)
theorem xz:∀{ls:List Lf} {K:List SV->Prop},XP ls K->∃vs,K vs/\vs.length=ls.length/\∀g,gD g vs=true
 | [],K,h=>⟨[],h,rfl,fun _=>rfl⟩
 | l::r,K,h=>by
  obtain⟨x,h⟩:=h;obtain⟨vs,h1,h2,h3⟩:=xz (ls:=r) h;exact⟨_,h1,by simp[h2],fun g=>by simp only[gD,Lf.cln,h3 g,cA]⟩
def afV:TypeDesc->Lf
 | .int k=>.int k
 | .bool=>.bool
 | .string=>.str
 | .pointer _=>.ptr
 | .slice _=>.sl
 | .map _ _=>.map
 | _=>.raw
def rep {α:Type}:Nat->List α->List α
 | 0,_=>[]
 | n+1,l=>l++rep n l
def flat {α β:Type} (f:α->List β):List α->List β
 | []=>[]
 | x::r=>f x++flat f r
def Pm (P:Program):Nat->TypeId->List Lf
 | 0,_=>[]
 | n+1,t=>match P.underlying t with
  | some (.struct fs)=>flat (fun f:Field=>Pm P n f.type) fs.toList
  | some (.array len e)=>rep len (Pm P n e)
  | some d=>[afV d]
  | none=>[]
def lN:TypeDesc->Bool
 | .struct _=>true
 | .array _ _=>true
 | _=>false
def Li (ag:Bool) (l:List SV):SV:=bif ag then .agg (jU l)else l.headD .un
def β0:Nat->Nat:=fun _=>0
def oA:SV->Option (IntKind×Int)
 | .int k n=>some (k,n)
 | .il k n=>some (k,n)
 | _=>none
theorem cP {s:SV} {k:IntKind} {n:Int} (h:oA s=some (k,n)) (β:Nat->Nat):val β s=.int k n:=by
 cases s<;>simp only[oA,aJ,cW,reduceCtorEq]at h
 all_goals obtain⟨rfl,rfl⟩:=h;rfl
def xA:SV->Option Bool
 | .bl b=>some b
 | .bt b=>some b
 | _=>none
theorem kX {s:SV} {b:Bool} (h:xA s=some b) (β:Nat->Nat):val β s=.bool b:=by
 cases s<;>simp only[xA,aJ,reduceCtorEq]at h
 all_goals subst h;rfl
def tf:SV->Option ByteArray
 | .str s=>some s
 | _=>none
theorem gF {s:SV} {b:ByteArray} (h:tf s=some b) (β:Nat->Nat):val β s=.string b:=by
 cases s<;>simp only[tf,aJ,reduceCtorEq]at h
 all_goals subst h;rfl
def G8:SV->Option Sl
 | .sl s=>some s
 | .nsl=>some Sl.nil
 | _=>none
theorem jr {s:SV} {b:Sl} (h:G8 s=some b) (β:Nat->Nat):val β s=b.v:=by
 cases s<;>simp only[G8,aJ,reduceCtorEq]at h
 all_goals subst h;rfl
def ib (op:BinOp) (k:IntKind) (m n:Int):Option SV:=match op with
 | .add=>some (.int k (k.wrap (m+n)))
 | .sub=>some (.int k (k.wrap (m-n)))
 | .mul=>some (.int k (k.wrap (m*n)))
 | .eql=>some (.bt (m==n))
 | .neq=>some (.bt (m !=n))
 | .lss=>some (.bt (decide (m<n)))
 | .leq=>some (.bt (decide (m<=n)))
 | .gtr=>some (.bt (decide (m>n)))
 | .geq=>some (.bt (decide (m>=n)))
 | .and=>some (.int k (bits .and k m n))
 | .or=>some (.int k (bits .or k m n))
 | .xor=>some (.int k (bits .xor k m n))
 | .andNot=>some (.int k (bits .andNot k m n))
 | _=>none
def sb (op:BinOp) (s u:ByteArray):Option SV:=match op with
 | .eql=>some (.bt (s.toList==u.toList))
 | .neq=>some (.bt (!(s.toList==u.toList)))
 | .lss=>some (.bt (Op.bytesLess s.toList u.toList))
 | .geq=>some (.bt (!(Op.bytesLess s.toList u.toList)))
 | .leq=>some (.bt (Op.bytesLess s.toList u.toList||(s.toList==u.toList)))
 | .gtr=>some (.bt (!(Op.bytesLess s.toList u.toList||(s.toList==u.toList))))
 | _=>none
def nz (gs:List (Bool×Bool)) (b:SV) (n:Int) (K:Prop):Prop:=match b with
 | .il _ _=>bif n==0 then False else K
 | _=>gi gs (n≠0)/\K
def ge0 (gs:List (Bool×Bool)) (b:SV) (n:Int) (K:Prop):Prop:=match b with
 | .il _ _=>bif decide (0<=n)then K else False
 | _=>gi gs (0<=n)/\K
def opn:SV->Option (Option Addr)
 | .np=>some none
 | .ptr p=>some p
 | .ad a=>some (some a)
 | _=>none
theorem Qf {s:SV} {p:Option Addr} (h:opn s=some p) (β:Nat->Nat):val β s=.pointer p:=by
 cases s<;>simp only[opn,aJ,reduceCtorEq]at h
 all_goals subst h;rfl
def pn (op:BinOp) (a:SV):Option SV:=match op,a with
 | .eql,.ptr p=>some (.bt p.isNone)
 | .neq,.ptr p=>some (.bt (!p.isNone))
 | .eql,.ad _=>some (.bl false)
 | .neq,.ad _=>some (.bl true)
 | .eql,.box _ _=>some (.bl false)
 | .neq,.box _ _=>some (.bl true)
 | .eql,.np=>some (.bl true)
 | .neq,.np=>some (.bl false)
 | _,_=>none
def sn (op:BinOp) (s:Sl):Option SV:=match op with
 | .eql=>some (.bt s.a.isNone)
 | .neq=>some (.bt (!s.a.isNone))
 | _=>none
def Lj:SV->Bool
 | .np=>true
 | _=>false
def C9:SV->Bool
 | .nsl=>true
 | _=>false
def eq1 (P:Program) (t:TypeId) (x y:SV):Option Bool:=match P.underlying t with
 | some (.int _)=>(match oA x,oA y with
  | some (k,m),some (k',n)=>bif decide (k=k')then some (m==n)else none
  | _,_=>none)
 | some .string=>(match tf x,tf y with
  | some s,some u=>some (s==u)
  | _,_=>none)
 | some .bool=>(match xA x,xA y with
  | some s,some u=>some (s==u)
  | _,_=>none)
 | _=>none
def Da (P:Program) (xs ys:List SV):List Field->Option Bool
 | []=>some true
 | f::r=>bif f.name== "_" then none else match xs[f.offset]?,ys[f.offset]? with
  | some x,some y=>(match eq1 P f.type x y,Da P xs ys r,r with
   | some b,some _,[]=>some b
   | some b,some c,_=>some (b&&c)
   | _,_,_=>none)
  | _,_=>none
def UJ (P:Program) (t:TypeId) (fs:Array Field) (a b:SV):Option Bool:=match a,b with
 | .agg l,.agg m=>bif zm l&&zm m&&!P.stoodInHeld t&&!P.eqGuardType P.depth t then Da P (j7 l) (j7 m) fs.toList else none
 | _,_=>none
def UK (op:BinOp) (b:Bool):Option SV:=match op with
 | .eql=>some (.bt b)
 | .neq=>some (.bt (!b))
 | _=>none
def mn (op:BinOp) (a b:SV):Option SV:=match op,a,b with
 | .eql,.map m,.map none=>some (.bt m.isNone)
 | .neq,.map m,.map none=>some (.bt (!m.isNone))
 | _,_,_=>none
def UL (P:Program) (gs:List (Bool×Bool)) (op:BinOp) (t:TypeId) (a b:SV) (K:SV->Prop):Prop:=
 match oA a,oA b with
 | some (k,m),some (k',n)=>(match op with
  | .shl=>ge0 gs b n (K (.int k (k.wrap (m*2 ^ (min n.toNat k.bits)))))
  | .shr=>ge0 gs b n (K (.int k (m.fdiv (2 ^ (min n.toNat k.bits)))))
  | .quo=>bif decide (k=k')then nz gs b n (K (.int k (k.wrap (m.tdiv n))))else False
  | .rem=>bif decide (k=k')then nz gs b n (K (.int k (m.tmod n)))else False
  | _=>bif decide (k=k')then bG (ib op k m n) K else False)
 | _,_=>match tf a,tf b with
  | some s,some u=>(match op with
   | .add=>gi gs ((s.size:Int)+u.size<=9223372036854775807)/\K (.str (s++u))
   | _=>bG (sb op s u) K)
  | _,_=>match xA a,xA b,P.underlying t with
   | some s,some u,some .bool=>(match op with
    | .eql=>K (.bt (s==u))
    | .neq=>K (.bt (!(s==u)))
    | _=>False)
   | _,_,_=>match P.underlying t with
    | some (.pointer _)=>bif Lj b then bG (pn op a) K else bif Lj a then bG (pn op b) K else False
    | some (.slice _)=>bif C9 b then bG ((G8 a).bind (sn op)) K else bif C9 a then bG ((G8 b).bind (sn op)) K else False
    | some (.struct fs)=>bG (UJ P t fs a b) fun r=>bG (UK op r) K
    | some (.map _ _)=>bG (mn op a b) K
    | _=>False
section
variable {P:Program} {gs:List (Bool×Bool)} {K:SV->Prop}
theorem Si {b:SV} {k:IntKind} {n:Int} {K:Prop} (hb:oA b=some (k,n)) (h:nz gs b n K):K/\(gh gs->n≠0):=by
 unfold nz at h;split at h
 ·cases hn:(n==0)with
  | true=>rw[hn]at h;exact h.elim
  | false=>rw[hn]at h;exact⟨h,fun _=>by simpa using hn⟩
 ·exact⟨h.2,fun g=>gn h.1 g⟩
theorem Lk {b:SV} {n:Int} {K:Prop} (h:ge0 gs b n K):K/\(gh gs->0<=n):=by
 unfold ge0 at h;split at h
 ·by_cases hn:0<=n
  ·rw[bh hn]at h;exact⟨h,fun _=>hn⟩
  ·rw[aZ hn]at h;exact h.elim
 ·exact⟨h.2,fun g=>gn h.1 g⟩
theorem cU {b:Bool} {p:Prop} (h:bif b then p else False):b=true/\p:=by
 cases b with
 | true=>exact⟨rfl,h⟩
 | false=>exact h.elim
def lG (P:Program) (op:BinOp) (t:TypeId) (a b v:SV):Prop:=
 ∀(β:Nat->Nat) (act:Act) (x y:Operand) (dst:Option Tmp) (ty t':TypeId) (p:String) (af:Array Edge) (g:Option (Nat×Bool)) (w:World),act.eval x=val β a->act.eval y=val β b->
  (execOp act.eval ⟨dst,.binOp op t x y ty,t',p,af,g⟩).run P w=.ok (.value (val β v)) w
theorem YY {op:BinOp} {t:TypeId} {a b v:SV} {k:IntKind} {m n:Int} (ha:oA a=some (k,m)) (hb:oA b=some (k,n)) (h:ib op k m n=some v):lG P op t a b v:=by
 intro β act x y dst ty t' p af g w hx hy;rw[cP ha]at hx;rw[cP hb]at hy;cases op<;>simp only[ib,aJ,reduceCtorEq]at h
 all_goals subst h;simp only[execOp,hx,hy];cases k<;>rfl
theorem YZ {op:BinOp} {t:TypeId} {a b v:SV} {s u:ByteArray} (ha:tf a=some s) (hb:tf b=some u) (h:sb op s u=some v):lG P op t a b v:=by
 intro β act x y dst ty t' p af g w hx hy;rw[gF ha]at hx;rw[gF hb]at hy;cases op<;>simp only[sb,aJ,reduceCtorEq]at h
 all_goals subst h;simp only[execOp,hx,hy];rfl
theorem Sj {op:BinOp} {t e:TypeId} {a b v:SV} (hu:P.underlying t=some (.pointer e)) (hb:Lj b=true) (h:pn op a=some v):lG P op t a b v/\lG P op t b a v:=by
 have hbv:∀β,val β b=.pointer none:=fun β=>by
  unfold Lj at hb;split at hb
  ·rfl
  ·cases hb
 have key:∀(β:Nat->Nat),∃(q:Option Addr) (r:Bool),val β a=.pointer q/\val β v=.bool r/\((op=.eql/\q.isNone=r)∨(op=.neq/\(!q.isNone)=r)):=by
  intro β;unfold pn at h;split at h<;>simp only[aJ,reduceCtorEq]at h<;>subst h
  ·exact⟨_,_,rfl,rfl,.inl ⟨rfl,rfl⟩⟩
  ·exact⟨_,_,rfl,rfl,.inr ⟨rfl,rfl⟩⟩
  ·exact⟨_,_,rfl,rfl,.inl ⟨rfl,rfl⟩⟩
  ·exact⟨_,_,rfl,rfl,.inr ⟨rfl,rfl⟩⟩
  ·exact⟨_,_,rfl,rfl,.inl ⟨rfl,rfl⟩⟩
  ·exact⟨_,_,rfl,rfl,.inr ⟨rfl,rfl⟩⟩
  ·exact⟨_,_,rfl,rfl,.inl ⟨rfl,rfl⟩⟩
  ·exact⟨_,_,rfl,rfl,.inr ⟨rfl,rfl⟩⟩
 constructor
 ·intro β act x y dst ty t' p af g w hx hy;obtain⟨q,r,h1,h2,h3⟩:=key β;rw[h1]at hx;rw[hbv]at hy;rw[h2];rcases h3 with⟨rfl,h3⟩ | ⟨rfl,h3⟩
  ·exact AZ (run_underlying hu w) hx hy h3
  ·exact A1 (run_underlying hu w) hx hy h3
 ·intro β act x y dst ty t' p af g w hx hy;obtain⟨q,r,h1,h2,h3⟩:=key β;rw[h1]at hy;rw[hbv]at hx;rw[h2];rcases h3 with⟨rfl,h3⟩ | ⟨rfl,h3⟩
  ·exact A0 (run_underlying hu w) hx hy h3
  ·exact A2 (run_underlying hu w) hx hy h3
theorem Sk {op:BinOp} {t e:TypeId} {a b v:SV} (hu:P.underlying t=some (.slice e)) (hb:C9 b=true) (h:(G8 a).bind (sn op)=some v):lG P op t a b v/\lG P op t b a v:=by
 have hbv:∀β,val β b=.slice none 0 0:=fun β=>by
  unfold C9 at hb;split at hb
  ·rfl
  ·cases hb
 cases hs:G8 a with
 | none=>rw[hs]at h;cases h
 | some s=>
  rw[hs]at h;simp only[lz]at h;constructor
  ·intro β act x y dst ty t' p af g w hx hy;rw[jr hs]at hx;rw[hbv]at hy;cases op<;>simp only[sn,aJ,reduceCtorEq]at h<;>subst h
   ·exact CY (run_underlying hu w) hx hy
   ·exact C0 (run_underlying hu w) hx hy
  ·intro β act x y dst ty t' p af g w hx hy;rw[jr hs]at hy;rw[hbv]at hx;cases op<;>simp only[sn,aJ,reduceCtorEq]at h<;>subst h
   ·exact CZ (run_underlying hu w) hx hy
   ·exact C1 (run_underlying hu w) hx hy
theorem Y1 {op:BinOp} {t k e:TypeId} {a b v:SV} (hu:P.underlying t=some (.map k e)) (h:mn op a b=some v):lG P op t a b v:=by
 intro β act x y dst ty t' p af g w hx hy;unfold mn at h;split at h<;>simp only[aJ,reduceCtorEq]at h<;>subst h
 all_goals
  rename_i m;change act.eval x=.map m at hx;change act.eval y=.map none at hy;have hE:∀d,(Op.equalIn (d+1) t (.map m) (.map none)).run P w=.ok m.isNone w:=fun d=>by
   unfold Op.equalIn;cases m<;>simp only[Sem.run_bind,run_underlying hu w,Result.andThen_ok]<;>rfl
 ·have hB:binOp .eql t (.map m) (.map none)=(do pure (.bool ((<-Op.equal t (.map m) (.map none))))):=by cases m<;>rfl
  have hG:eqGuard .eql t x y (.map m) (.map none)=pure ():=rfl;simp only[execOp,hx,hy,hG,hB,Op.equal,Op.maxDepth,Sem.run_bind,Sem.run_pure,Result.andThen_ok,hE 9999];rfl
 ·have hB:binOp .neq t (.map m) (.map none)=(do pure (.bool (!(<-Op.equal t (.map m) (.map none))))):=by cases m<;>rfl
  have hG:eqGuard .neq t x y (.map m) (.map none)=pure ():=rfl;simp only[execOp,hx,hy,hG,hB,Op.equal,Op.maxDepth,Sem.run_bind,Sem.run_pure,Result.andThen_ok,hE 9999];rfl
theorem Qg {t:TypeId} {x y:SV} {b:Bool} (h:eq1 P t x y=some b) (β:Nat->Nat) (d:Nat) (w:World):P.plainKey t=true/\(Op.equalIn (d+1) t (val β x) (val β y)).run P w=.ok b w:=by
 unfold eq1 at h;split at h
 ·rename_i k hu;refine⟨by simp[Program.plainKey,hu],?_⟩;split at h
  ·rename_i k1 m k2 n hx hy;cases hk:decide (k1=k2)with
   | false=>rw[hk]at h;cases h
   | true=>
    rw[hk]at h;injection h with h;subst h;have hk:=aG hk;subst hk;rw[cP hx,cP hy];simp[Op.equalIn,run_underlying hu]
  ·cases h
 ·rename_i hu;refine⟨by simp[Program.plainKey,hu],?_⟩;split at h
  ·rename_i s u hx hy;injection h with h;subst h;rw[gF hx,gF hy];simp[Op.equalIn,run_underlying hu]
  ·cases h
 ·rename_i hu;refine⟨by simp[Program.plainKey,hu],?_⟩;split at h
  ·rename_i s u hx hy;injection h with h;subst h;rw[kX hx,kX hy];simp[Op.equalIn,run_underlying hu]
  ·cases h
 ·cases h
theorem Db {xs ys:List SV} (β:Nat->Nat) (d:Nat) (w:World):∀{fs:List Field} {b:Bool},Da P xs ys fs=some b->(Op.eqFields (d+1) (bR β xs).toArray (bR β ys).toArray fs).run P w=.ok b w
 | [],b,h=>by
  simp only[Da,aJ]at h;subst h;simp[Op.eqFields]
 | f::r,b,h=>by
  unfold Da at h;cases hn:(f.name== "_")with
  | true=>rw[hn]at h;cases h
  | false=>
   rw[hn,mE]at h;have hn:f.name≠ "_" :=by simpa using hn
   split at h
   ·rename_i x y hx hy;have px:(bR β xs).toArray[f.offset]? =some (val β x):=by simp[bR,hx]
    have py:(bR β ys).toArray[f.offset]? =some (val β y):=by simp[bR,hy]
    have go:∀{b1 c:Bool},eq1 P f.type x y=some b1->Da P xs ys r=some c->(Op.eqFields (d+1) (bR β xs).toArray (bR β ys).toArray (f::r)).run P w=.ok (b1&&c) w:=fun{b1 c} h1 h2=>by
     obtain⟨k1,k2⟩:=Qg h1 β d w;have k3:=Db β d w h2;simp only[Op.eqFields,hn,ne_eq,not_false_eq_true,if_true,Sem.run_bind,run_part_plain w k1 px,run_part_plain w k1 py,k2,Result.andThen_ok];cases b1
     ·simp
     ·simpa using k3
    split at h
    ·rename_i b1 c h1 h2;injection h with h;subst h;have:=go h1 h2;simp only[Da,aJ]at h2;subst h2;rwa[cA]at this
    ·rename_i b1 c h1 _ h2;injection h with h;subst h;exact go h1 h2
    ·cases h
   ·cases h
theorem Qh {op:BinOp} {t:TypeId} {fs:Array Field} {a b v:SV} {r:Bool} (hu:P.underlying t=some (.struct fs)) (h:UJ P t fs a b=some r) (hv:UK op r=some v):lG P op t a b v:=by
 unfold UJ at h;split at h
 ·rename_i l m;obtain⟨h0,h⟩:(zm l&&zm m&&!P.stoodInHeld t&&!P.eqGuardType P.depth t)=true/\Da P (j7 l) (j7 m) fs.toList=some r:=by
   cases hc:(zm l&&zm m&&!P.stoodInHeld t&&!P.eqGuardType P.depth t)with
   | true=>rw[hc]at h;exact⟨rfl,h⟩
   | false=>rw[hc]at h;cases h
  simp only[aE,bX]at h0;obtain⟨⟨⟨h1,h2⟩,h3⟩,h4⟩:=h0;intro β act x y dst ty t' p af g w hx hy;have ea:∀{l:SV},zm l=true->val β (.agg l)=.agg (bR β (j7 l)).toArray:=fun hl=>by
   show Value.agg (oq β _).toArray=_;rw[lD β hl]
  rw[ea h1]at hx;rw[ea h2]at hy;have hfs:P.fieldsOf t=fs:=by simp[Program.fieldsOf,hu]
  have hE:(Op.equalIn 10000 t (.agg (bR β (j7 l)).toArray) (.agg (bR β (j7 m)).toArray)).run P w=.ok r w:=by
   rw[show(10000:Nat)=9999+1 from rfl,run_equalIn_struct w 9999 t _ _ (by rw[hfs];exact hu) h3,hfs];exact Db β 9998 w h
  have hG:∀op:BinOp,(eqGuard op t x y (.agg (bR β (j7 l)).toArray) (.agg (bR β (j7 m)).toArray)).run P w=.ok () w:=fun op=>by
   unfold eqGuard;cases op<;>simp[run_program,h4]
  unfold UK at hv;split at hv
  ·injection hv with hv;subst hv;have hB:binOp .eql t (.agg (bR β (j7 l)).toArray) (.agg (bR β (j7 m)).toArray)=(do pure (.bool (<-Op.equal t (.agg (bR β (j7 l)).toArray) (.agg (bR β (j7 m)).toArray)))):=rfl;simp only[execOp,hx,hy,hB,Op.equal,Op.maxDepth,Sem.run_bind,Sem.run_pure,Result.andThen_ok,hE,hG];rfl
  ·injection hv with hv;subst hv;have hB:binOp .neq t (.agg (bR β (j7 l)).toArray) (.agg (bR β (j7 m)).toArray)=(do pure (.bool (!(<-Op.equal t (.agg (bR β (j7 l)).toArray) (.agg (bR β (j7 m)).toArray))))):=rfl;simp only[execOp,hx,hy,hB,Op.equal,Op.maxDepth,Sem.run_bind,Sem.run_pure,Result.andThen_ok,hE,hG];rfl
  ·cases hv
 ·cases h
theorem Qi {op:BinOp} {t:TypeId} {a b:SV} (h:UL P gs op t a b K):∃v,K v/\(gh gs->lG P op t a b v):=by
 unfold UL at h;split at h
 ·rename_i k m k' n ha hb;have gen:∀{K:SV->Prop},(bif decide (k=k')then bG (ib op k m n) K else False)->∃v,K v/\(gh gs->lG P op t a b v):=fun h=>by
   obtain⟨gN,h1⟩:=cU h;clear h;have hk:=aG gN;clear gN;subst hk;obtain⟨v,hv,hK⟩:=aY h1;exact⟨v,hK,fun _=>YY ha hb hv⟩
  split at h
  ·obtain⟨h,hn⟩:=Lk h;exact⟨_,h,fun g β act x y dst ty t' p af gg w hx hy=>YM (by rw[hx,cP ha]) (by rw[hy,cP hb]) (hn g)⟩
  ·obtain⟨h,hn⟩:=Lk h;exact⟨_,h,fun g β act x y dst ty t' p af gg w hx hy=>YN (by rw[hx,cP ha]) (by rw[hy,cP hb]) (hn g)⟩
  ·obtain⟨gN,h1⟩:=cU h;clear h;have hk:=aG gN;clear gN;subst hk;obtain⟨h2,hn⟩:=Si hb h1;exact⟨_,h2,fun g β act x y dst ty t' p af gg w hx hy=>YK (by rw[hx,cP ha]) (by rw[hy,cP hb]) (hn g)⟩
  ·obtain⟨gN,h1⟩:=cU h;clear h;have hk:=aG gN;clear gN;subst hk;obtain⟨h2,hn⟩:=Si hb h1;exact⟨_,h2,fun g β act x y dst ty t' p af gg w hx hy=>YL (by rw[hx,cP ha]) (by rw[hy,cP hb]) (hn g)⟩
  ·exact gen h
 ·split at h
  ·rename_i s u ha hb;split at h
   ·exact⟨_,h.2,fun g β act x y dst ty t' p af gg w hx hy=>K7 (by rw[hx,gF ha]) (by rw[hy,gF hb]) (gn h.1 g)⟩
   ·obtain⟨v,hv,hK⟩:=aY h;exact⟨v,hK,fun _=>YZ ha hb hv⟩
  ·split at h
   ·rename_i s u ha hb hu;split at h
    ·exact⟨_,h,fun g β act x y dst ty t' p af gg w hx hy=>Ji hu (by rw[hx,kX ha]) (by rw[hy,kX hb])⟩
    ·exact⟨_,h,fun g β act x y dst ty t' p af gg w hx hy=>Jj hu (by rw[hx,kX ha]) (by rw[hy,kX hb])⟩
    ·exact h.elim
   ·split at h
    ·rename_i e hu;cases hb:Lj b with
     | true=>
      rw[hb]at h;obtain⟨v,hv,hK⟩:=aY h;exact⟨v,hK,fun _=>(Sj hu hb hv).1⟩
     | false=>
      rw[hb]at h;obtain⟨ha,h⟩:=cU h;obtain⟨v,hv,hK⟩:=aY h;exact⟨v,hK,fun _=>(Sj hu ha hv).2⟩
    ·rename_i e hu;cases hb:C9 b with
     | true=>
      rw[hb]at h;obtain⟨v,hv,hK⟩:=aY h;exact⟨v,hK,fun _=>(Sk hu hb hv).1⟩
     | false=>
      rw[hb]at h;obtain⟨ha,h⟩:=cU h;obtain⟨v,hv,hK⟩:=aY h;exact⟨v,hK,fun _=>(Sk hu ha hv).2⟩
    ·rename_i fs hu;obtain⟨r,hr,h⟩:=aY h;obtain⟨v,hv,hK⟩:=aY h;exact⟨v,hK,fun _=>Qh hu hr hv⟩
    ·rename_i kk ee hu;obtain⟨v,hv,hK⟩:=aY h;exact⟨v,hK,fun _=>Y1 hu hv⟩
    ·exact h.elim
end
def Qj:SV->Bool
 | .agg _=>false
 | .tup _=>false
 | .un=>false
 | .e=>false
 | .c _ _=>false
 | _=>true
def G9:List SV->Bool
 | []=>true
 | s::r=>Qj s&&G9 r
theorem Dc {s:SV} (h:Qj s=true) (β:Nat->Nat):(val β s).oneCell'=true/\(val β s).cells=#[val β s]:=by
 cases s with
 | raw v=>
  have e:val β (.raw v)=v.v:=rfl;rw[e];refine⟨v.one,?_⟩;obtain⟨v,hv⟩:=v;cases v<;>first | rfl | (simp[Value.oneCell']at hv)
 | _=>first | exact⟨rfl,rfl⟩ | (simp[Qj]at h)
theorem zR:∀{l:List SV},G9 l=true->∀β,(bR β l).all Value.oneCell'=true
 | [],_,_=>rfl
 | s::r,h,β=>by
  simp only[G9,aE]at h;simp only[bR,bg,jh,aE];exact⟨(Dc h.1 β).1,zR h.2 β⟩
def xB:SV->Option (List SV)
 | .agg l=>bif zm l&&G9 (j7 l)then some (j7 l)else none
 | s=>bif Qj s then some [s]else none
theorem A7 {α:Type} {b:Bool} {x:α} {y:α} (h:(bif b then some x else none)=some y):b=true/\x=y:=by
 cases b with
 | true=>exact⟨rfl,by simpa using h⟩
 | false=>cases h
theorem uY {s:SV} {l:List SV} (h:xB s=some l) (β:Nat->Nat):(val β s).cells=(bR β l).toArray/\(bR β l).all Value.oneCell'=true:=by
 unfold xB at h;split at h
 ·obtain⟨h1,rfl⟩:=A7 h;simp only[aE]at h1;refine⟨?_,zR h1.2 β⟩;show(oq β _).toArray=_;rw[lD β h1.1]
 ·obtain⟨h1,rfl⟩:=A7 h;obtain⟨h2,h3⟩:=Dc h1 β;exact⟨h3,by simp[bR,h2]⟩
def FB:List Value->Option (List SV)
 | []=>some []
 | v::r=>match Lg v,FB r with
  | some s,some l=>some (s::l)
  | _,_=>none
theorem wO (β:Nat->Nat):∀{l:List Value} {s:List SV},FB l=some s->bR β s=l
 | [],s,h=>by simp only[FB,aJ]at h;subst h;rfl
 | v::r,s,h=>by
  simp only[FB]at h;split at h
  ·rename_i s' l' h1 h2;simp only[aJ]at h;subst h;have:=wO β h2;simp only[bR,bg]at this⊢;rw[xx h1,this]
  ·cases h
def Y2 (cs:List SV) (o:Nat) (vs:List SV):List SV:=cs.take o++vs++cs.drop (o+vs.length)
theorem Dd (β:Nat->Nat) (cs:List SV) (o:Nat) (vs:List SV):bR β (Y2 cs o vs)=bO (bR β cs) o (bR β vs):=by
 simp only[bR,Y2,bO,di,pj,po,bL]
theorem Df {off:Nat}:∀(vs:List Value) (k:Nat) (cs:List Value),off+k+vs.length<=cs.length->
  (vs.zipIdx k).foldl (fun(cs:Array Value) (x:Value×Nat)=>cs.setIfInBounds (off+x.2) x.1) cs.toArray=(bO cs (off+k) vs).toArray
 | [],k,cs,_=>by simp[bO]
 | v::vs,k,cs,h=>by
  simp only[aH]at h;have e:cs.toArray.setIfInBounds (off+k) v=(cs.set (off+k) v).toArray:=by simp
  rw[List.zipIdx_cons,List.foldl_cons];dsimp only;rw[e,Df vs (k+1) _ (by rw[Pc];omega)];congr 1;simp only[bO,aH];rw[show off+(k+1)=off+k+1 by omega,bn,List.getElem?_set_self (by omega),List.take_set_of_le (aK _),List.drop_set_of_lt (by omega),show off+k+1+vs.length=off+k+(vs.length+1) by omega];simp
def zT (place:Nat->Option (Nat×Nat)):List SV->List (Nat×SV)->Option (List SV)
 | cells,[]=>some cells
 | cells,(i,v)::rest=>match place i,xB v with
  | some (off,size),some vs=>bif Nat.beq vs.length size&&Nat.ble (off+vs.length) cells.length then zT place (Y2 cells off vs) rest else none
  | _,_=>none
theorem xC (β:Nat->Nat) {place:Nat->Option (Nat×Nat)}:∀{parts:List (Nat×SV)} {cells r:List SV},zT place cells parts=some r->Instr.fill place (bR β cells).toArray (xy β parts)=some (bR β r).toArray
 | [],cells,r,h=>by simp only[zT,aJ]at h;subst h;rfl
 | (i,v)::rest,cells,r,h=>by
  simp only[zT]at h;split at h
  ·rename_i off size vs hp hc;cases hb:(Nat.beq vs.length size&&Nat.ble (off+vs.length) cells.length)with
   | false=>rw[hb]at h;cases h
   | true=>
    rw[hb]at h;simp only[aE]at hb;have h1:=bC hb.1;have h2:=cN hb.2;obtain⟨e1,_⟩:=uY hc β;have ih:=xC β (parts:=rest) (cells:=Y2 cells off vs) h;rw[Dd]at ih;simp only[xy,bg,Instr.fill,hp,e1,kc,ez];rw[if_neg (by simp[h1];omega)];have e2:=Df (off:=off) (bR β vs) 0 (bR β cells) (by rw[ez,ez];omega);rw[gr]at e2;have e3:(bR β vs).toArray.zipIdx.foldl (fun(cs:Array Value) (x:Value×Nat)=>cs.setIfInBounds (off+x.2) x.1) (bR β cells).toArray=(bO (bR β cells) off (bR β vs)).toArray:=by
     rw[<-e2];simp
    exact(bp (fun a=>Instr.fill place a (xy β rest)) e3).trans ih
  ·cases h
def UM (P:Program) (t:TypeId) (parts:List (Nat×SV)):Option (List SV):=
 match P.info? t,P.underlying t with
 | some it,some (.array _ e)=>(match it.zero,P.info? e with
  | some z,some ie=>(match FB z.cells.toList with
   | some zs=>zT (fun i=>some (i*ie.size,ie.size)) zs parts
   | none=>none)
  | _,_=>none)
 | some it,some (.struct fields)=>(match it.zero,fields.toList.mapM (fun f=>(P.info? f.type).map fun i=>(f.offset,i.size))with
  | some z,some places=>(match FB z.cells.toList with
   | some zs=>zT (places.toArray[·]?) zs parts
   | none=>none)
  | _,_=>none)
 | _,_=>none
theorem Qk {P:Program} {t:TypeId} {parts:List (Nat×SV)} {r:List SV} (h:UM P t parts=some r) (β:Nat->Nat) (w:World):(Instr.build t (xy β parts).toArray).run P w=.ok (.agg (bR β r).toArray) w:=by
 refine run_build w t _ _ ?_;unfold UM at h;split at h
 ·rename_i it n e h1 h2;split at h
  ·rename_i z ie h3 h4;split at h
   ·rename_i zs h5;have:=xC β h;rw[wO β h5]at this;simp only[Program.built,h1,h2,h3,h4];simpa using this
   ·cases h
  ·cases h
 ·rename_i it fields h1 h2;split at h
  ·rename_i z places h3 h4;split at h
   ·rename_i zs h5;have:=xC β h;rw[wO β h5]at this;simp only[Program.built,h1,h2,h3,h4];simpa using this
   ·cases h
  ·cases h
 ·cases h
def sz (P:Program) (t:TypeId) (n:Nat):Bool:=match P.info? t with
 | some i=>Nat.beq i.size n
 | none=>false
theorem nX {P:Program} {t:TypeId} {n:Nat} (h:sz P t n=true) (w:World):(sizeOf t).run P w=.ok n w:=by
 unfold sz at h;cases hi:P.info? t with
 | none=>rw[hi]at h;cases h
 | some i=>
  rw[hi]at h;rw[<-bC h];simp[sizeOf,typeInfo,hi]
def si (P:Program) (t:TypeId):Nat:=match P.info? t with
 | some i=>i.size
 | none=>0
theorem jS {P:Program} {t:TypeId} {d:TypeDesc} (h:P.underlying t=some d) (w:World):(isAgg t).run P w=.ok (lN d) w:=by
 unfold isAgg;rw[Sem.run_bind,run_underlying h,Result.andThen_ok];cases d<;>rfl
def FC (b:SV) (K:Nat->(Prop->Prop)->Prop):Prop:=match b with
 | .il _ n=>bif decide (0<=n)then K n.toNat id else False
 | .int _ n=>∃v:Nat,K v fun p=>n=v/\p
 | _=>False
theorem kY {b:SV} {K:Nat->(Prop->Prop)->Prop} (h:FC b K):∃(v:Nat) (e:Prop->Prop) (k:IntKind) (n:Int),K v e/\oA b=some (k,n)/\(∀p,e p->n=v/\p):=by
 unfold FC at h;split at h
 ·rename_i k n;obtain⟨h1,h2⟩:=cU h;have h1:=aG h1;exact⟨_,_,k,n,h2,rfl,fun p hp=>⟨by omega,hp⟩⟩
 ·rename_i k n;obtain⟨v,hv⟩:=h;exact⟨v,_,k,n,hv,rfl,fun p hp=>hp⟩
 ·exact h.elim
def slS (gs:List (Bool×Bool)) (s:Sl) (es:Nat) (st:St) (lo hi mx:Option Operand) (K:SV->Prop):Prop:=match lo,hi,mx with
 | some lo,none,none=>bG (st.ev lo) fun a=>FC a fun l e=>gi gs (e (l<=s.n/\s.n<=s.c))/\K (.sl (s.cut l s.n s.c es))
 | none,some hi,none=>bG (st.ev hi) fun a=>FC a fun h e=>gi gs (e (h<=s.c))/\K (.sl (s.cut 0 h s.c es))
 | some lo,some hi,none=>bG (st.ev lo) fun a=>bG (st.ev hi) fun b=>FC a fun l e=>FC b fun h f=>gi gs (e (f (l<=h/\h<=s.c)))/\K (.sl (s.cut l h s.c es))
 | none,some hi,some mx=>bG (st.ev hi) fun b=>bG (st.ev mx) fun c=>FC b fun h e=>FC c fun m f=>gi gs (e (f (h<=m/\m<=s.c)))/\K (.sl (s.cut 0 h m es))
 | some lo,some hi,some mx=>bG (st.ev lo) fun a=>bG (st.ev hi) fun b=>bG (st.ev mx) fun c=>FC a fun l e=>FC b fun h f=>FC c fun m g=>gi gs (e (f (g (l<=h/\h<=m/\m<=s.c))))/\K (.sl (s.cut l h m es))
 | _,_,_=>False
def slT (gs:List (Bool×Bool)) (s:ByteArray) (st:St) (lo hi mx:Option Operand) (K:SV->Prop):Prop:=match lo,hi,mx with
 | some lo,none,none=>bG (st.ev lo) fun a=>FC a fun l e=>gi gs (e (l<=s.size))/\K (.str (s.extract l s.size))
 | none,some hi,none=>bG (st.ev hi) fun a=>FC a fun h e=>gi gs (e (h<=s.size))/\K (.str (s.extract 0 h))
 | some lo,some hi,none=>bG (st.ev lo) fun a=>bG (st.ev hi) fun b=>FC a fun l e=>FC b fun h f=>gi gs (e (f (l<=h/\h<=s.size)))/\K (.str (s.extract l h))
 | _,_,_=>False
def sP (P:Program) (b:Builtin) (xs:List Operand) (ts:List TypeId) (st:St) (K:SV->Prop):Prop:=match b,xs,ts with
 | .len,[x],[t]=>bG (st.ev x) fun a=>(match P.underlying t with
  | some (.slice _)=>bG (G8 a) fun s=>K (.int .i64 s.n)
  | some .string=>bG (tf a) fun s=>K (.int .i64 s.size)
  | _=>False)
 | .cap,[x],[t]=>bG (st.ev x) fun a=>(match P.underlying t with
  | some (.slice _)=>bG (G8 a) fun s=>K (.int .i64 s.c)
  | _=>False)
 | .min,[x,y],_=>bG (st.ev x) fun a=>bG (st.ev y) fun b=>bG (oA a) fun p=>bG (oA b) fun q=>K (.int p.1 (if q.2<p.2 then q.2 else p.2))
 | .max,[x,y],_=>bG (st.ev x) fun a=>bG (st.ev y) fun b=>bG (oA a) fun p=>bG (oA b) fun q=>K (.int p.1 (if q.2>p.2 then q.2 else p.2))
 | _,_,_=>False
def nif:TypeDesc->Bool
 | .interface _=>false
 | _=>true
def cvP (P:Program) (gs:List (Bool×Bool)) (st:St) (s d:TypeId) (a:SV) (K:SV->Prop):Prop:=match P.underlying s,P.underlying d with
 | some (.int _),some (.int kd)=>bG (oA a) fun p=>K (.int kd (kd.wrap p.2))
 | some .string,some .string=>bG (tf a) fun u=>K (.str u)
 | some (.slice e),some .string=>(match P.underlying e with
  | some (.int .u8)=>bG (G8 a) fun u=>bif st.mv then False else ∃l:List UInt8,gi gs (pY st.w0 u l)/\K (.str ⟨l.toArray⟩)
  | _=>False)
 | _,_=>False
def ldP (P:Program) (gs:List (Bool×Bool)) (st:St) (t:TypeId) (a:SV) (K:SV->Prop):Prop:=match P.underlying t with
 | none=>False
 | some d=>(match a with
  | .box i o=>bG (cu st.bx i) fun b=>bif b.ok&&sz P t ((b.cells.drop o).take (si P t)).length&&(lN d||Nat.beq ((b.cells.drop o).take (si P t)).length 1)then K (Li (lN d) ((b.cells.drop o).take (si P t)))else False
  | .ad p=>bif !st.mv&&sz P t (Pm P 12 t).length&&(lN d||Nat.beq (Pm P 12 t).length 1)then XP (Pm P 12 t) fun vs=>gi gs (Cells st.w0 p (bR β0 vs))/\K (Li (lN d) vs)else False
  | _=>False)
def Ha:Operand->Bool
 | .const .nilIface=>true
 | _=>false
def Y3:Value->Bool
 | .nilIface=>true
 | _=>false
def Y4 (v:Value):Prop:=v=.nilIface∨∃t x,v=.iface t x
def niP (P:Program) (gs:List (Bool×Bool)) (op:BinOp) (t:TypeId) (a:SV) (K:SV->Prop):Prop:=match a,P.underlying t,op with
 | .raw v,some (.interface _),.eql=>gi gs (Y4 v.v)/\K (.bt (Y3 v.v))
 | .raw v,some (.interface _),.neq=>gi gs (Y4 v.v)/\K (.bt (!Y3 v.v))
 | _,_,_=>False
theorem Ll {y:Operand} (h:Ha y=true):y=.const .nilIface:=by
 unfold Ha at h;split at h
 ·rfl
 ·cases h
theorem Sm {P:Program} {t:TypeId} {ms:Array (String×TypeId)} {v:Value} (hu:P.underlying t=some (.interface ms)) (hv:Y4 v) (w:World):(Op.equal t v .nilIface).run P w=.ok (Y3 v) w:=by
 unfold Op.equal Op.maxDepth Op.equalIn;rcases hv with rfl | ⟨tx,x,rfl⟩<;>simp only[Sem.run_bind,run_underlying hu,Result.andThen_ok]<;>rfl
theorem Dg {P:Program} {op:BinOp} {t:TypeId} {x:Operand} {v:Value} (hv:Y4 v) (w:World):(eqGuard op t x (.const .nilIface) v .nilIface).run P w=.ok () w:=by
 unfold eqGuard;rcases hv with rfl | ⟨tx,x,rfl⟩<;>cases op<;>first | rfl | simp
theorem UN {P:Program} {gs:List (Bool×Bool)} {st:St} {K:SV->Prop} {op:BinOp} {t ty:TypeId} {x:Operand} {a:SV} (hx:st.ev x=some a) (h:niP P gs op t a K):∃v,K v/\(gh gs->∀(β:Nat->Nat) (c:Act) (w:World),Rep β st c w->∀(d:Option Tmp) (t':TypeId) (p:String) (af:Array Edge) (g:Option (Nat×Bool)) (w':World),
  (execOp c.eval ⟨d,.binOp op t x (.const .nilIface) ty,t',p,af,g⟩).run P w'=.ok (.value (val β v)) w'):=by
 unfold niP at h;split at h
 ·rename_i v ms hu;refine⟨_,h.2,fun hg β c w hR d t' p af g w'=>?_⟩;have hv:=gn h.1 hg;have e:c.eval x=v.v:=hR.ev hx;have e2:c.eval (.const .nilIface)=.nilIface:=rfl;have hb:binOp .eql t v.v .nilIface=(do pure (.bool (<-Op.equal t v.v .nilIface))):=by
   rcases hv with h | ⟨tx,x,h⟩<;>rw[h]<;>rfl
  simp only[execOp,e,e2,hb,Sem.run_bind,Dg hv,Result.andThen_ok,Sm hu hv,Sem.run_pure];rfl
 ·rename_i v ms hu;refine⟨_,h.2,fun hg β c w hR d t' p af g w'=>?_⟩;have hv:=gn h.1 hg;have e:c.eval x=v.v:=hR.ev hx;have e2:c.eval (.const .nilIface)=.nilIface:=rfl;have hb:binOp .neq t v.v .nilIface=(do pure (.bool (!(<-Op.equal t v.v .nilIface)))):=by
   rcases hv with h | ⟨tx,x,h⟩<;>rw[h]<;>rfl
  simp only[execOp,e,e2,hb,Sem.run_bind,Dg hv,Result.andThen_ok,Sm hu hv,Sem.run_pure];rfl
 ·exact h.elim
def Hb (p:Addr) (i:Int) (len size:Nat) (q:Addr):Prop:=0<=i/\i<len/\p.add (i.toNat*size)=q
def UO (n:Int) (F:Nat->Prop):Nat->Prop
 | 0=>True
 | 1=>n=0->F 0
 | j+2=>UO n F (j+1)/\(n=((j+1:Nat):Int)->F (j+1))
theorem Hc {n:Int} {F:Nat->Prop}:∀{m:Nat},UO n F m->0<=n->n<m->F n.toNat
 | 0,_,h0,h1=>by omega
 | 1,h,h0,h1=>by
  have e:n=0:=by omega
  subst e;exact h rfl
 | j+2,h,h0,h1=>by
  by_cases e:n=((j+1:Nat):Int)
  ·have:=h.2 e;rw[e];exact this
  ·exact Hc h.1 h0 (by omega)
def UQ (P:Program) (gs:List (Bool×Bool)) (st:St) (o:Op) (K:SV->Prop):Prop:=match o with
 | .move x=>bG (st.ev x) K
 | .assign x=>bG (st.ev x) K
 | .pick c x y=>bG (st.ev c) fun c=>(match c with
  | .bl true=>bG (st.ev x) K
  | .bl false=>bG (st.ev y) K
  | _=>False)
 | .binOp op t x y _=>bG (st.ev x) fun a=>bG (st.ev y) fun b=>bif Ha y then niP P gs op t a K else UL P gs op t a b K
 | .unOp .not _ x=>bG (st.ev x) fun a=>(match a with
  | .bl b=>K (.bl (!b))
  | .bt b=>K (.bt (!b))
  | _=>False)
 | .unOp .neg _ x=>bG (st.ev x) fun a=>bG (oA a) fun p=>K (.int p.1 (p.1.wrap (0-p.2)))
 | .convert s d x=>bG (st.ev x) fun a=>cvP P gs st s d a K
 | .extract x i=>bG (st.ev x) fun a=>(match a with
  | .tup l=>bif zm l then bG ((j7 l)[i]?) K else False
  | _=>False)
 | .build t parts=>bG (st.Py parts.toList) fun ps=>bG (UM P t ps) fun r=>K (.agg (jU r))
 | .makeFunc fn fs cs=>(match fn with
  | .func f=>bG (st.IR fs.toList) fun a=>bG (st.IR cs.toList) fun b=>K (.fn f (jU a) (jU b))
  | _=>False)
 | .makeInterface t x=>bG (st.ev x) fun a=>bG (P.underlying t) fun d=>bif nif d&&cln (fun _=>false) a then K (.raw ⟨.iface t (val β0 a),rfl⟩)else False
 | .nilCheck x=>bG (st.ev x) fun a=>(match a with
  | .ad p=>K (.ad p)
  | .box i o=>K (.box i o)
  | .ptr p=>∃q:Addr,gi gs (p=some q)/\K (.ad q)
  | .fn f .e cs=>K (.fn f .e cs)
  | _=>False)
 | .fieldAddr s x k=>bG (st.ev x) fun a=>(match P.underlying s with
  | some (.struct fs)=>bG (fs[k]?) fun f=>bif Nat.ble 1 (si P f.type)then(match a with
   | .ad p=>K (.ad (p.add f.offset))
   | .box i o=>K (.box i (o+f.offset))
   | _=>False)else False
  | _=>False)
 | .field t x k=>bG (st.ev x) fun a=>(match a,P.underlying t with
  | .agg l,some (.struct fs)=>bG (fs[k]?) fun f=>bG (P.underlying f.type) fun d=>bif zm l&&sz P f.type (((j7 l).drop f.offset).take (si P f.type)).length&&(lN d||Nat.beq (((j7 l).drop f.offset).take (si P f.type)).length 1)
   then K (Li (lN d) (((j7 l).drop f.offset).take (si P f.type)))else False
  | _,_=>False)
 | .indexAddr t x i=>bG (st.ev x) fun a=>bG (st.ev i) fun j=>bG (oA j) fun n=>(match P.underlying t with
  | some (.slice e)=>bG (G8 a) fun s=>bif (P.info? e).isSome then ∃q:Addr,gi gs (ck s n.2 (si P e) q)/\K (.ad q)else False
  | some (.array len e)=>bif (P.info? e).isSome then(match a,j with
   | .box b o,.il _ n=>bif decide (0<=n)&&decide (n<len)then K (.box b (o+n.toNat*si P e))else False
   | .ad p,.il _ n=>bif decide (0<=n)&&decide (n<len)then K (.ad (p.add (n.toNat*si P e)))else False
   | .ad p,_=>∃q:Addr,gi gs (Hb p n.2 len (si P e) q)/\K (.ad q)
   | .box b o,_=>bif Nat.ble len 8 then(0<=n.2/\n.2<(len:Int))/\UO n.2 (fun j=>K (.box b (o+j*si P e))) len else False
   | _,_=>False)else False
  | _=>False)
 | .load t x=>bG (st.ev x) fun a=>ldP P gs st t a K
 | .index t x i=>bG (st.ev x) fun a=>bG (st.ev i) fun j=>bG (oA j) fun n=>(match P.underlying t with
  | some .string=>bG (tf a) fun s=>∃c:UInt8,gi gs (0<=n.2/\s[n.2.toNat]? =some c)/\K (.int .u8 (c.toNat:Int))
  | _=>False)
 | .slice t x lo hi mx=>bG (st.ev x) fun a=>(match P.underlying t with
  | some (.slice e)=>bG (G8 a) fun s=>bif (P.info? e).isSome then slS gs s (si P e) st lo hi mx K else False
  | some .string=>bG (tf a) fun s=>slT gs s st lo hi mx K
  | _=>False)
 | .call c=>(match c.callee with
  | .builtin b=>sP P b c.args.toList c.argTypes.toList st K
  | _=>False)
 | _=>False
def mem:Op->Bool
 | .load _ _=>true
 | .convert _ _ _=>true
 | _=>false
def Y (P:Program) (st:St) (o:Op) (v:SV):Prop:=∀(β:Nat->Nat) (a:Act) (w:World),Rep β st a w->∀(d:Option Tmp) (t:TypeId) (p:String) (af:Array Edge) (g:Option (Nat×Bool)) (w':World),(mem o=true->w'.heap=w.heap)->
 (execOp a.eval ⟨d,o,t,p,af,g⟩).run P w'=.ok (.value (val β v)) w'
theorem jT {P:Program} {t:TypeId} (h:(P.info? t).isSome=true) (w:World):(sizeOf t).run P w=.ok (si P t) w:=by
 unfold si;cases hi:P.info? t with
 | none=>rw[hi]at h;cases h
 | some i=>simp[sizeOf,typeInfo,hi]
theorem A8 (b o n:Nat):(⟨b,o,none⟩:Addr).add n=⟨b,o+n,none⟩:=by unfold Addr.add;split<;>simp_all
theorem nG {d:TypeDesc} (h:lN d=true) (β:Nat->Nat) (l:List SV):val β (Li (lN d) l)=.agg (bR β l).toArray:=by
 rw[h];show Value.agg (oq β (jU l)).toArray=_;rw[pw]
theorem xD {l:List SV} (h:Nat.beq l.length 1=true):∃s,l=[s]:=by
 have:=bC h
 match l,this with
 | [s],_=>exact⟨s,rfl⟩
section
variable {P:Program} {gs:List (Bool×Bool)} {st:St} {K:SV->Prop}
theorem UR {t:TypeId} {x:Operand} {a:SV} (hx:st.ev x=some a) (h:ldP P gs st t a K):∃v,K v/\(gh gs->Y P st (.load t x) v):=by
 unfold ldP at h;split at h
 ·exact h.elim
 ·rename_i d hu;split at h
  ·rename_i i o;obtain⟨b,hb,h⟩:=aY h;obtain⟨h1,h2⟩:=cU h;simp only[aE,bS]at h1;obtain⟨⟨qx,hsz⟩,kI⟩:=h1;refine⟨_,h2,fun _ β act w hR dst t' p af g w' hh=>?_⟩;have hB:=(hR.bx i b hb qx).blk;have hB':Blk w' (β i) b.ty (bR β b.cells):=by unfold Blk at hB⊢;rw[hh rfl];exact hB
   have I0:=hR.ev hx;generalize hl:(b.cells.drop o).take (si P t)=l at*
   have hC:Cells w' ⟨β i,o,none⟩ (bR β l):=hB'.Cg o _ (by
    rw[ez,<-hl];simp only[bR,pj,po];rw[cM,ow];simp only[bN,bL];omega)
   rcases kI with qf | kI
   ·rw[nG qf];have:=jS (P:=P) hu w';rw[qf]at this;exact rF this (nX hsz w') (ez β l) I0 hC
   ·cases qf:lN d with
    | true=>
     have e:=nG qf β l;rw[qf]at e;rw[e];have:=jS (P:=P) hu w';rw[qf]at this;exact rF this (nX hsz w') (ez β l) I0 hC
    | false=>
     obtain⟨s,rfl⟩:=xD kI;have:=jS (P:=P) hu w';rw[qf]at this;exact AU this I0 (Cells.one hC)
  ·rename_i ad;obtain⟨h1,h2⟩:=cU h;simp only[aE,bS,bX]at h1;obtain⟨⟨qn,hsz⟩,kI⟩:=h1;obtain⟨vs,⟨hF,hK⟩,dN,oY⟩:=xz h2;refine⟨_,hK,fun hg β act w hR dst t' p af g w' hh=>?_⟩;have hF:=gn hF hg;have hw:=hR.still qn;subst hw;have hC:Cells w' ad (bR β vs):=by
    rw[gj (β:=β) (β':=β0) (g:=fun _=>false) (fun i h=>(by cases h)) vs (oY _)];exact hF.keep (by rw[hh rfl])
   have I0:=hR.ev hx;rw[<-dN]at hsz kI;rcases kI with qf | kI
   ·rw[nG qf];have:=jS (P:=P) hu w';rw[qf]at this;exact rF this (nX hsz w') (ez β vs) I0 hC
   ·cases qf:lN d with
    | true=>
     have e:=nG qf β vs;rw[qf]at e;rw[e];have:=jS (P:=P) hu w';rw[qf]at this;exact rF this (nX hsz w') (ez β vs) I0 hC
    | false=>
     obtain⟨s,rfl⟩:=xD kI;have:=jS (P:=P) hu w';rw[qf]at this;exact AU this I0 (Cells.one hC)
  ·exact h.elim
theorem US {s d:TypeId} {x:Operand} {a:SV} (hx:st.ev x=some a) (h:cvP P gs st s d a K):∃v,K v/\(gh gs->Y P st (.convert s d x) v):=by
 unfold cvP at h;split at h
 ·rename_i ks kd h1 h2;obtain⟨⟨k,n⟩,hp,h⟩:=aY h;exact⟨_,h,fun _ β act w hR dst t' p af g w' hh=>zL (run_underlying h1 w') (run_underlying h2 w') ((hR.ev hx).trans (cP hp β))⟩
 ·rename_i h1 h2;obtain⟨u,hp,h⟩:=aY h;exact⟨_,h,fun _ β act w hR dst t' p af g w' hh=>zM (run_underlying h1 w') (run_underlying h2 w') ((hR.ev hx).trans (gF hp β))⟩
 ·rename_i e h1 h2;split at h
  ·rename_i h3;obtain⟨u,hp,h⟩:=aY h;cases hm:st.mv with
   | true=>rw[hm]at h;exact h.elim
   | false=>
    rw[hm]at h;obtain⟨l,hF,hK⟩:=h;refine⟨_,hK,fun hg β act w hR dst t' p af g w' hh=>?_⟩;have hw:=hR.still hm;subst hw;exact xu h1 h3 h2 ((hR.ev hx).trans (jr hp β)) (FA _ _ (by rw[hh rfl]) (gn hF hg))
  ·exact h.elim
 ·exact h.elim
theorem UT {b:Builtin} {xs:List Operand} {ts:List TypeId} (h:sP P b xs ts st K):∃v,K v/\(gh gs->Y P st (.call ⟨.builtin b,xs.toArray,ts.toArray⟩) v):=by
 unfold sP at h;split at h
 ·obtain⟨a,hx,h⟩:=aY h;split at h
  ·rename_i hu;obtain⟨s,hs,h⟩:=aY h;exact⟨_,h,fun _ β act w hR dst t' p af g w' hh=>YJ (run_underlying hu w') ((hR.ev hx).trans (jr hs β))⟩
  ·rename_i hu;obtain⟨s,hs,h⟩:=aY h;exact⟨_,h,fun _ β act w hR dst t' p af g w' hh=>K8 (run_underlying hu w') ((hR.ev hx).trans (gF hs β))⟩
  ·exact h.elim
 ·obtain⟨a,hx,h⟩:=aY h;split at h
  ·rename_i hu;obtain⟨s,hs,h⟩:=aY h;exact⟨_,h,fun _ β act w hR dst t' p af g w' hh=>YO (run_underlying hu w') ((hR.ev hx).trans (jr hs β))⟩
  ·exact h.elim
 ·obtain⟨a,hx,h⟩:=aY h;obtain⟨b,hy,h⟩:=aY h;obtain⟨⟨k,m⟩,hp,h⟩:=aY h;obtain⟨⟨k',n⟩,hq,h⟩:=aY h;exact⟨_,h,fun _ β act w hR dst t' p af g w' hh=>YP ((hR.ev hx).trans (cP hp β)) ((hR.ev hy).trans (cP hq β))⟩
 ·obtain⟨a,hx,h⟩:=aY h;obtain⟨b,hy,h⟩:=aY h;obtain⟨⟨k,m⟩,hp,h⟩:=aY h;obtain⟨⟨k',n⟩,hq,h⟩:=aY h;exact⟨_,h,fun _ β act w hR dst t' p af g w' hh=>YQ ((hR.ev hx).trans (cP hp β)) ((hR.ev hy).trans (cP hq β))⟩
 ·exact h.elim
theorem UU {t e:TypeId} {x:Operand} {lo hi mx:Option Operand} {a:SV} {s:Sl} (hu:P.underlying t=some (.slice e)) (wj:(P.info? e).isSome=true) (hx:st.ev x=some a) (hs:G8 a=some s) (h:slS gs s (si P e) st lo hi mx K):∃v,K v/\(gh gs->Y P st (.slice t x lo hi mx) v):=by
 unfold slS at h;split at h
 ·obtain⟨a1,h1,h⟩:=aY h;obtain⟨l,e1,k1,n1,⟨hF,hK⟩,o1,u1⟩:=kY h;refine⟨_,hK,fun hg β act w hR dst t' p af g w' hh=>?_⟩;obtain⟨rfl,f1,f2⟩:=u1 _ (gn hF hg);exact Fm (run_underlying hu w') (jT wj w') ((hR.ev hx).trans (jr hs β)) ((hR.ev h1).trans (cP o1 β)) f1 f2 (aK _)
 ·obtain⟨a1,h1,h⟩:=aY h;obtain⟨l,e1,k1,n1,⟨hF,hK⟩,o1,u1⟩:=kY h;refine⟨_,hK,fun hg β act w hR dst t' p af g w' hh=>?_⟩;obtain⟨rfl,f1⟩:=u1 _ (gn hF hg);exact Fp (run_underlying hu w') (jT wj w') ((hR.ev hx).trans (jr hs β)) ((hR.ev h1).trans (cP o1 β)) (aQ _) f1 (aK _)
 ·obtain⟨a1,h1,h⟩:=aY h;obtain⟨a2,h2,h⟩:=aY h;obtain⟨l,e1,k1,n1,h,o1,u1⟩:=kY h;obtain⟨m,e2,k2,n2,⟨hF,hK⟩,o2,u2⟩:=kY h;refine⟨_,hK,fun hg β act w hR dst t' p af g w' hh=>?_⟩;obtain⟨rfl,f1⟩:=u1 _ (gn hF hg);obtain⟨rfl,f1,f2⟩:=u2 _ f1;exact Fq (run_underlying hu w') (jT wj w') ((hR.ev hx).trans (jr hs β)) ((hR.ev h1).trans (cP o1 β)) ((hR.ev h2).trans (cP o2 β)) f1 f2 (aK _)
 ·obtain⟨a1,h1,h⟩:=aY h;obtain⟨a2,h2,h⟩:=aY h;obtain⟨l,e1,k1,n1,h,o1,u1⟩:=kY h;obtain⟨m,e2,k2,n2,⟨hF,hK⟩,o2,u2⟩:=kY h;refine⟨_,hK,fun hg β act w hR dst t' p af g w' hh=>?_⟩;obtain⟨rfl,f1⟩:=u1 _ (gn hF hg);obtain⟨rfl,f1,f2⟩:=u2 _ f1;exact Fs (run_underlying hu w') (jT wj w') ((hR.ev hx).trans (jr hs β)) ((hR.ev h1).trans (cP o1 β)) ((hR.ev h2).trans (cP o2 β)) (aQ _) f1 f2
 ·obtain⟨a1,h1,h⟩:=aY h;obtain⟨a2,h2,h⟩:=aY h;obtain⟨a3,h3,h⟩:=aY h;obtain⟨l,e1,k1,n1,h,o1,u1⟩:=kY h;obtain⟨m,e2,k2,n2,h,o2,u2⟩:=kY h;obtain⟨q,e3,k3,n3,⟨hF,hK⟩,o3,u3⟩:=kY h;refine⟨_,hK,fun hg β act w hR dst t' p af g w' hh=>?_⟩;obtain⟨rfl,f1⟩:=u1 _ (gn hF hg);obtain⟨rfl,f1⟩:=u2 _ f1;obtain⟨rfl,f1,f2,f3⟩:=u3 _ f1;exact Fu (run_underlying hu w') (jT wj w') ((hR.ev hx).trans (jr hs β)) ((hR.ev h1).trans (cP o1 β)) ((hR.ev h2).trans (cP o2 β)) ((hR.ev h3).trans (cP o3 β)) f1 f2 f3
 ·exact h.elim
theorem UW {t:TypeId} {x:Operand} {lo hi mx:Option Operand} {a:SV} {s:ByteArray} (hu:P.underlying t=some .string) (hx:st.ev x=some a) (hs:tf a=some s) (h:slT gs s st lo hi mx K):∃v,K v/\(gh gs->Y P st (.slice t x lo hi mx) v):=by
 unfold slT at h;split at h
 ·obtain⟨a1,h1,h⟩:=aY h;obtain⟨l,e1,k1,n1,⟨hF,hK⟩,o1,u1⟩:=kY h;refine⟨_,hK,fun hg β act w hR dst t' p af g w' hh=>?_⟩;obtain⟨rfl,f1⟩:=u1 _ (gn hF hg);exact AW (run_underlying hu w') ((hR.ev hx).trans (gF hs β)) ((hR.ev h1).trans (cP o1 β)) f1 (aK _)
 ·obtain⟨a1,h1,h⟩:=aY h;obtain⟨l,e1,k1,n1,⟨hF,hK⟩,o1,u1⟩:=kY h;refine⟨_,hK,fun hg β act w hR dst t' p af g w' hh=>?_⟩;obtain⟨rfl,f1⟩:=u1 _ (gn hF hg);exact AX (run_underlying hu w') ((hR.ev hx).trans (gF hs β)) ((hR.ev h1).trans (cP o1 β)) (aQ _) f1
 ·obtain⟨a1,h1,h⟩:=aY h;obtain⟨a2,h2,h⟩:=aY h;obtain⟨l,e1,k1,n1,h,o1,u1⟩:=kY h;obtain⟨m,e2,k2,n2,⟨hF,hK⟩,o2,u2⟩:=kY h;refine⟨_,hK,fun hg β act w hR dst t' p af g w' hh=>?_⟩;obtain⟨rfl,f1⟩:=u1 _ (gn hF hg);obtain⟨rfl,f1,f2⟩:=u2 _ f1;exact AY (run_underlying hu w') ((hR.ev hx).trans (gF hs β)) ((hR.ev h1).trans (cP o1 β)) ((hR.ev h2).trans (cP o2 β)) f1 f2
 ·exact h.elim
theorem Ql {t:TypeId} {d:TypeDesc} {l:List Value} {off n:Nat} (hu:P.underlying t=some d) (hn:sz P t n=true) (qf:lN d=true) (w:World):(part t l.toArray off).run P w=.ok (.agg ((l.drop off).take n).toArray) w:=by
 have h:=jS (P:=P) hu w;rw[qf]at h;unfold part;simp only[Sem.run_bind,h,Result.andThen_ok,if_true,nX hn w,Sem.run_pure];congr 2;rw[List.extract_toArray,List.extract_eq_take_drop,dw]
theorem Lm {t:TypeId} {d:TypeDesc} {l:List Value} {off:Nat} {v:Value} (hu:P.underlying t=some d) (qf:lN d=false) (hv:l[off]? =some v) (w:World):(part t l.toArray off).run P w=.ok v w:=by
 have h:=jS (P:=P) hu w;rw[qf]at h;unfold part;simp only[Sem.run_bind,h,Result.andThen_ok];simp[hv]
theorem FD {o:Op} (h:UQ P gs st o K):∃v,K v/\(gh gs->Y P st o v):=by
 unfold UQ at h;split at h
 ·obtain⟨v,hx,hK⟩:=aY h;exact⟨v,hK,fun _ β act w hR dst t' p af g w' hh=>by simp only[execOp,hR.ev hx,Sem.run_pure]⟩
 ·obtain⟨v,hx,hK⟩:=aY h;exact⟨v,hK,fun _ β act w hR dst t' p af g w' hh=>by simp only[execOp,hR.ev hx,Sem.run_pure]⟩
 ·obtain⟨c,hc,h⟩:=aY h;split at h
  ·obtain⟨v,hx,hK⟩:=aY h;exact⟨v,hK,fun _ β act w hR dst t' p af g w' hh=>P6 (hR.ev hc) (hR.ev hx)⟩
  ·obtain⟨v,hx,hK⟩:=aY h;exact⟨v,hK,fun _ β act w hR dst t' p af g w' hh=>P7 (hR.ev hc) (hR.ev hx)⟩
  ·exact h.elim
 ·rename_i op t x y ty;obtain⟨a,hx,h⟩:=aY h;obtain⟨b,hy,h⟩:=aY h;cases hn:Ha y with
  | true=>
   rw[hn]at h;have e:=Ll hn;subst e;obtain⟨v,hK,hr⟩:=UN hx h;exact⟨v,hK,fun hg β act w hR dst t' p af g w' hh=>hr hg β act w hR _ _ _ _ _ _⟩
  | false=>
  rw[hn]at h;obtain⟨v,hK,hr⟩:=Qi h;exact⟨v,hK,fun hg β act w hR dst t' p af g w' hh=>hr hg β act _ _ _ _ _ _ _ _ _ (hR.ev hx) (hR.ev hy)⟩
 ·obtain⟨a,hx,h⟩:=aY h;split at h
  ·exact⟨_,h,fun _ β act w hR dst t' p af g w' hh=>by simp only[execOp,hR.ev hx];rfl⟩
  ·exact⟨_,h,fun _ β act w hR dst t' p af g w' hh=>by simp only[execOp,hR.ev hx];rfl⟩
  ·exact h.elim
 ·obtain⟨a,hx,h⟩:=aY h;obtain⟨⟨k,n⟩,hp,h⟩:=aY h;exact⟨_,h,fun _ β act w hR dst t' p af g w' hh=>by simp only[execOp,hR.ev hx,cP hp];rfl⟩
 ·obtain⟨a,hx,h⟩:=aY h;exact US hx h
 ·rename_i x i;obtain⟨a,hx,h⟩:=aY h;split at h
  ·rename_i l;obtain⟨h1,h⟩:=cU h;obtain⟨v,hv,hK⟩:=aY h;refine⟨v,hK,fun _ β act w hR dst t' p af g w' hh=>?_⟩;have e:act.eval _=.tuple (bR β (j7 l)).toArray:=(hR.ev hx).trans (by
    show Value.tuple (oq β l).toArray=_;rw[lD β h1])
   have e2:(bR β (j7 l))[i]? =some (val β v):=by rw[bR,cH,hv];rfl
   simp only[execOp,e,Instr.extract];simp[e2]
  ·exact h.elim
 ·rename_i t parts;obtain⟨ps,hp,h⟩:=aY h;obtain⟨r,hr,hK⟩:=aY h;refine⟨_,hK,fun _ β act w hR dst t' p af g w' hh=>?_⟩;have e:val β (.agg (jU r))=.agg (bR β r).toArray:=by
   show Value.agg (oq β (jU r)).toArray=_;rw[pw]
  rw[e];obtain⟨pl⟩:=parts;exact P8 (hR.Py hp) (Qk hr β w')
 ·rename_i fn fs cs;split at h
  ·rename_i f;obtain⟨a,ha,h⟩:=aY h;obtain⟨b,hb,hK⟩:=aY h;refine⟨_,hK,fun _ β act w hR dst t' p af g w' hh=>?_⟩;obtain⟨fl⟩:=fs;obtain⟨cl⟩:=cs;have:=Fk (P:=P) (w:=w') (dst:=dst) (t':=t') (p:=p) (af:=af) (g:=g) (fn:=.func f) (hR.IR ha) (hR.IR hb);rw[<-pw,<-pw]at this;exact this
  ·exact h.elim
 ·obtain⟨a,hx,h⟩:=aY h;obtain⟨d,hu,h⟩:=aY h;obtain⟨h1,hK⟩:=cU h;simp only[aE]at h1;refine⟨_,hK,fun _ β act w hR dst t' p af g w' hh=>?_⟩;have e:val β a=val β0 a:=iQ (g:=fun _=>false) (fun i h=>(by cases h)) a h1.2;exact P9 (run_underlying hu w') (by unfold nif at h1;cases d<;>first | rfl | exact h1.1) ((hR.ev hx).trans e)
 ·obtain⟨a,hx,h⟩:=aY h;split at h
  ·exact⟨_,h,fun _ β act w hR dst t' p af g w' hh=>K0 (hR.ev hx)⟩
  ·exact⟨_,h,fun _ β act w hR dst t' p af g w' hh=>K0 (hR.ev hx)⟩
  ·obtain⟨q,hF,hK⟩:=h;refine⟨_,hK,fun hg β act w hR dst t' p af g w' hh=>K0 ((hR.ev hx).trans ?_)⟩;have:=gn hF hg;subst this;rfl
  ·exact⟨_,h,fun _ β act w hR dst t' p af g w' hh=>by
    have e:=hR.ev hx;simp only[val,oq,qt]at e;simp only[execOp,e,Sem.run_pure,val,oq,qt]⟩
  ·exact h.elim
 ·obtain⟨a,hx,h⟩:=aY h;split at h
  ·rename_i fs hu;obtain⟨f,hf,h⟩:=aY h;obtain⟨hs,h⟩:=cU h;have hs:=cN hs;have hso:(P.info? f.type).isSome=true:=by
    unfold si at hs;split at hs
    ·rename_i hi;rw[hi];rfl
    ·omega
   obtain⟨m,hm⟩:∃m,si P f.type=m+1:=⟨si P f.type-1,by omega⟩
   split at h
   ·exact⟨_,h,fun _ β act w hR dst t' p af g w' hh=>G5 (run_underlying hu w') hf (by rw[jT hso,hm]) (hR.ev hx) rfl⟩
   ·exact⟨_,h,fun _ β act w hR dst t' p af g w' hh=>G5 (run_underlying hu w') hf (by rw[jT hso,hm]) (hR.ev hx) (A8 _ _ _)⟩
   ·exact h.elim
  ·exact h.elim
 ·obtain⟨a,hx,h⟩:=aY h;split at h
  ·rename_i l fs hu;obtain⟨f,hf,h⟩:=aY h;obtain⟨d,hd,h⟩:=aY h;obtain⟨h1,hK⟩:=cU h;simp only[aE,bS]at h1;obtain⟨⟨hl,hsz⟩,kI⟩:=h1;refine⟨_,hK,fun _ β act w hR dst t' p af g w' hh=>?_⟩;have e:act.eval _=.agg (bR β (j7 l)).toArray:=(hR.ev hx).trans (by
    show Value.agg (oq β l).toArray=_;rw[lD β hl])
   have hv:bR β (((j7 l).drop f.offset).take (si P f.type))=((bR β (j7 l)).drop f.offset).take (si P f.type):=by
    simp only[bR,pj,po]
   have key:(part f.type (bR β (j7 l)).toArray f.offset).run P w'=.ok (val β (Li (lN d) (((j7 l).drop f.offset).take (si P f.type)))) w':=by
    cases qf:lN d with
    | true=>
     have e2:=nG qf β (((j7 l).drop f.offset).take (si P f.type));rw[qf]at e2;rw[e2,hv];have h3:=Ql (l:=bR β (j7 l)) (off:=f.offset) hd hsz qf w';rw[h3];congr 3;rw[ow];simp only[cM,bN,ez];omega
    | false=>
     rcases kI with kI | kI
     ·rw[qf]at kI;cases kI
     obtain⟨s,hs⟩:=xD kI;rw[hs];refine Lm hd qf ?_ w';have h4:(((j7 l).drop f.offset).take (si P f.type))[0]? =some s:=by rw[hs];rfl
     rw[sN]at h4;split at h4
     ·rw[iz,gr]at h4;rw[bR,cH,h4];rfl
     ·cases h4
   simp only[execOp,e,Instr.field,Sem.run_bind,run_underlying hu,Result.andThen_ok,hf,asAgg,Sem.run_pure,key]
  ·exact h.elim
 ·obtain⟨a,hx,h⟩:=aY h;obtain⟨j,hj,h⟩:=aY h;obtain⟨⟨k,n⟩,hn,h⟩:=aY h;split at h
  ·rename_i e hu;obtain⟨s,hs,h⟩:=aY h;obtain⟨hi,h⟩:=cU h;obtain⟨q,hF,hK⟩:=h;exact⟨_,hK,fun hg β act w hR dst t' p af g w' hh=>K4 (run_underlying hu w') (jT hi w') ((hR.ev hx).trans (jr hs β)) ((hR.ev hj).trans (cP hn β)) (gn hF hg)⟩
  ·rename_i len e hu;obtain⟨hi,h⟩:=cU h;split at h
   ·obtain⟨h1,hK⟩:=cU h;simp only[aE,bd]at h1;exact⟨_,hK,fun hg β act w hR dst t' p af g w' hh=>tR (run_underlying hu w') (jT hi w') (hR.ev hx) (hR.ev hj) h1.1 h1.2 (A8 _ _ _)⟩
   ·obtain⟨h1,hK⟩:=cU h;simp only[aE,bd]at h1;exact⟨_,hK,fun hg β act w hR dst t' p af g w' hh=>tR (run_underlying hu w') (jT hi w') (hR.ev hx) (hR.ev hj) h1.1 h1.2 rfl⟩
   ·obtain⟨q,hF,hK⟩:=h;exact⟨_,hK,fun hg β act w hR dst t' p af g w' hh=>tR (run_underlying hu w') (jT hi w') (hR.ev hx) ((hR.ev hj).trans (cP hn β)) (gn hF hg).1 (gn hF hg).2.1 (gn hF hg).2.2⟩
   ·obtain⟨_,⟨h0,h1⟩,hK⟩:=cU h;exact⟨_,Hc hK h0 h1,fun hg β act w hR dst t' p af g w' hh=>tR (run_underlying hu w') (jT hi w') (hR.ev hx) ((hR.ev hj).trans (cP hn β)) h0 h1 (A8 _ _ _)⟩
   ·exact h.elim
  ·exact h.elim
 ·obtain⟨a,hx,h⟩:=aY h;exact UR hx h
 ·obtain⟨a,hx,h⟩:=aY h;obtain⟨j,hj,h⟩:=aY h;obtain⟨⟨k,n⟩,hn,h⟩:=aY h;split at h
  ·rename_i hu;obtain⟨s,hs,h⟩:=aY h;obtain⟨c,hF,hK⟩:=h;exact⟨_,hK,fun hg β act w hR dst t' p af g w' hh=>Fl (run_underlying hu w') ((hR.ev hx).trans (gF hs β)) ((hR.ev hj).trans (cP hn β)) (gn hF hg).1 (gn hF hg).2⟩
  ·exact h.elim
 ·obtain⟨a,hx,h⟩:=aY h;split at h
  ·rename_i e hu;obtain⟨s,hs,h⟩:=aY h;obtain⟨hi,h⟩:=cU h;exact UU hu hi hx hs h
  ·rename_i hu;obtain⟨s,hs,h⟩:=aY h;exact UW hu hx hs h
  ·exact h.elim
 ·rename_i c;obtain⟨callee,⟨xs⟩,⟨ts⟩⟩:=c;split at h
  ·rename_i b hb;dsimp only at hb;subst hb;exact UT h
  ·exact h.elim
 ·exact h.elim
end
structure RH (β:Nat->Nat) (n:Nat) (fr:List (Nat×Nat×SV)) (D:List Deferred) (a:Act):Prop where
 sz:a.tmps.size=n
 df:a.defers=D
 at_:∀i p,dk fr i=some p->i<n->a.tmps[i]? =some (val β p.2)
theorem pz {β:Nat->Nat} {n:Nat} {fr:List (Nat×Nat×SV)} {D:List Deferred} {a:Act} (h:RH β n fr D a):∃us,a=UI n us (cv β fr) D:=by
 refine⟨fun i=>(a.tmps[i]?).getD undef,?_⟩;obtain⟨tmps,df⟩:=a;obtain⟨h1,h2,h3⟩:=h;dsimp only at h1 h2 h3;subst h2;unfold UI;congr 1;apply Array.ext';apply nE;intro i;rw[eX];by_cases hi:i<n
 ·rw[lC _ _ _ _ _ hi,bm];cases hl:dk fr i with
  | none=>
   rw[A6 (l:=cv β fr) (by rw[kf,hl];rfl)];have:i<tmps.size:=by omega
   simp[this]
  | some p=>
   rw[rG (l:=cv β fr) (v:=val β p.2) (by rw[kf,hl];rfl)];have:=h3 i p hl hi;simpa using this
 ·rw[cr (by simp;omega),cr (by rw[mr];exact KB hi)]
theorem Qm {β:Nat->Nat} {n:Nat} {fr:List (Nat×Nat×SV)} {D:List Deferred} {us:Nat->Value}:RH β n fr D (UI n us (cv β fr) D):=by
 refine⟨by simp[UI,mr],rfl,fun i p hl hi=>?_⟩;simp only[UI,ov];rw[lC _ _ _ _ _ hi,bm,rG (l:=cv β fr) (v:=val β p.2) (by rw[kf,hl];rfl)]
theorem Rep.ok {β:Nat->Nat} {st:St} {a:Act} {w:World} (h:Rep β st a w):RH β st.n st.fr (Pj st.df) a:=by
 obtain⟨us,rfl⟩:=h.fr;exact Qm
def UX (st:St) (ops:List Oper) (j:Nat):Option (Nat×SV):=match fS ops j with
 | some o=>(match o.dst with
  | some d=>(st.get d).map fun s=>(d,s)
  | none=>none)
 | none=>none
theorem xE {st:St} {ops:List Oper} {j d:Nat} {s:SV} (h:UX st ops j=some (d,s)):∃oj,fS ops j=some oj/\oj.dst=some d/\st.get d=some s:=by
 unfold UX at h;split at h
 ·rename_i o ho;split at h
  ·rename_i e he;cases hg:st.get e with
   | none=>rw[hg]at h;cases h
   | some u=>
    rw[hg]at h;simp only[cD,aJ,cW]at h;obtain⟨rfl,rfl⟩:=h;exact⟨o,ho,he,hg⟩
  ·cases h
 ·cases h
section
variable {β:Nat->Nat} {st:St} {a:Act} {w:World} {ops:List Oper} {o:Oper} {j d:Nat} {want b:Bool}
theorem oB (hR:Rep β st a w) (hg:o.guard=some (j,want)) {s:SV} (ht:UX st ops j=some (d,s)) (hs:val β s=.bool b):Region.wanted o (yielded ops.toArray a.tmps)=(b==want):=by
 obtain⟨oj,h1,h2,h3⟩:=xE ht;obtain⟨us,rfl⟩:=hR.fr;show Region.wanted o (yielded ops.toArray (Kt.fr st.n us (cv β st.fr)).tmps)=_;exact wtF hg h1 h2 (by rw[<-hs];exact St.evO β h3) rfl
theorem uZ (hR:Rep β st a w) (hg:o.guard=some (j,want)) (ht:UX st ops j=some (d,.un)):Region.wanted o (yielded ops.toArray a.tmps)=false:=by
 obtain⟨oj,h1,h2,h3⟩:=xE ht;obtain⟨us,rfl⟩:=hR.fr;show Region.wanted o (yielded ops.toArray (Kt.fr st.n us (cv β st.fr)).tmps)=_;exact wuF hg h1 h2 (St.evO β (x:=.tmp d) (s:=.un) h3)
theorem Rep.set (hR:Rep β st a w) {s s':SV} (hg:st.get d=some s) (hv:val β s=val β s'):Rep β (st.put (some d) s') a w:=by
 refine⟨pz ⟨hR.ok.sz,hR.ok.df,fun i p hl hi=>?_⟩,hR.bx,hR.ne,hR.only,hR.still⟩;simp only[St.put,dk]at hl;cases hb:Nat.beq d i with
 | true=>
  rw[hb]at hl;simp only[fe,aJ]at hl;subst hl;have:=bC hb;subst this;unfold St.get at hg;cases bJ:Nat.blt d st.n with
  | false=>rw[bJ]at hg;cases hg
  | true=>
   rw[bJ,fe]at hg;cases hq:dk st.fr d with
   | none=>rw[hq]at hg;cases hg
   | some q=>
    rw[hq]at hg;simp only[cD,aJ]at hg;rw[hR.ok.at_ d q hq hi,hg,hv]
 | false=>rw[hb]at hl;exact hR.ok.at_ i p (by simpa using hl) hi
end
section
variable {P:Program} {ops:List Oper} {w:World}
def tV (P:Program) (ops:List Oper) (w:World):List Oper->Act->Act->Prop
 | [],a,a'=>a'=a
 | o::r,a,a'=>(Region.wanted o (yielded ops.toArray a.tmps)=true/\∃v,(∀w':World,w'.heap=w.heap->(execOp a.eval o).run P w'=.ok (.value v) w')/\tV P ops w r (a.put o.dst v) a')∨
  (Region.wanted o (yielded ops.toArray a.tmps)=false/\tV P ops w r (a.put o.dst undef) a')
theorem xF:∀{l m:List Oper} {a b c:Act},tV P ops w l a b->tV P ops w m b c->tV P ops w (l++m) a c
 | [],_,_,_,_,h,k=>by
  have h:_=_:=h;subst h;exact k
 | o::r,m,a,b,c,h,k=>by
  rcases h with⟨h1,v,h2,h3⟩ | ⟨h1,h3⟩
  ·exact .inl ⟨h1,v,h2,xF (l:=r) h3 k⟩
  ·exact .inr ⟨h1,xF (l:=r) h3 k⟩
theorem A9 {Q:Exit->Act->World->Prop}:∀{l rest:List Oper} {a a':Act},tV P ops w l a a'->wpList P ops.toArray Q rest a' w->wpList P ops.toArray Q (l++rest) a w
 | [],_,_,_,h,k=>by
  have h:_=_:=h;subst h;exact k
 | o::r,m,a,b,h,k=>by
  rcases h with⟨h1,v,h2,h3⟩ | ⟨h1,h3⟩
  ·exact Fi v h1 (h2 w rfl) rfl (A9 (l:=r) h3 k)
  ·exact Sf h1 rfl (A9 (l:=r) h3 k)
theorem FE {Q:Act->Prop}:∀{l rest:List Oper} {a a':Act},tV P ops w l a a'->wpQuiet P ops.toArray (fun w'=>∃n,w'=w.drewN n) Q rest a'->wpQuiet P ops.toArray (fun w'=>∃n,w'=w.drewN n) Q (l++rest) a
 | [],_,_,_,h,k=>by
  have h:_=_:=h;subst h;exact k
 | o::r,m,a,b,h,k=>by
  rcases h with⟨h1,v,h2,h3⟩ | ⟨h1,h3⟩
  ·exact YR v h1 (by rintro _ ⟨n,rfl⟩;exact h2 _ rfl) rfl (FE (l:=r) h3 k)
  ·exact afR h1 rfl (FE (l:=r) h3 k)
def Ba:List Oper->List Nat
 | []=>[]
 | o::r=>match o.dst with
  | some d=>d::Ba r
  | none=>Ba r
theorem jF (a:Act) (d:Option Tmp) (v:Value):(a.put d v).tmps.size=a.tmps.size/\(a.put d v).defers=a.defers/\∀i,d≠some i->(a.put d v).tmps[i]? =a.tmps[i]? :=by
 cases d with
 | none=>exact⟨rfl,rfl,fun _ _=>rfl⟩
 | some k=>
  refine⟨by simp[Act.put],rfl,fun i hi=>?_⟩;simp only[Act.put];rw[oo (fun e=>hi (by rw[e]))]
theorem xG:∀{l:List Oper} {a a':Act},tV P ops w l a a'->a'.tmps.size=a.tmps.size/\a'.defers=a.defers/\∀i,(Ba l).elem i=false->a'.tmps[i]? =a.tmps[i]?
 | [],_,_,h=>by
  have h:_=_:=h;subst h;exact⟨rfl,rfl,fun _ _=>rfl⟩
 | o::r,a,b,h=>by
  have key:∀v,tV P ops w r (a.put o.dst v) b->b.tmps.size=a.tmps.size/\b.defers=a.defers/\∀i,(Ba (o::r)).elem i=false->b.tmps[i]? =a.tmps[i]? :=fun v h3=>by
   obtain⟨k1,k2,k3⟩:=xG h3;obtain⟨p1,p2,p3⟩:=jF a o.dst v;refine⟨k1.trans p1,k2.trans p2,fun i hi=>?_⟩;cases hd:o.dst with
   | none=>
    simp only[Ba,hd]at hi;rw[k3 i hi,p3 i (by rw[hd];simp)]
   | some d=>
    simp only[Ba,hd,kF]at hi;split at hi
    ·cases hi
    ·rename_i gf;rw[k3 i hi,p3 i (by rw[hd];intro e;simp only[aJ]at e;subst e;simp at gf)]
  rcases h with⟨h1,v,h2,h3⟩ | ⟨h1,h3⟩
  ·exact key v h3
  ·exact key _ h3
end
def Y5 (ops:List Oper):Nat->Nat->Nat->Bool
 | 0,_,_=>false
 | f+1,q,j=>bif Nat.beq q j then true else match fS ops q with
  | some o=>(match o.guard with
   | some (r,_)=>Y5 ops f r j
   | none=>false)
  | none=>false
def wq (ops:List Oper) (j:Nat):List Oper->Nat
 | []=>0
 | o::r=>match o.guard with
  | some (q,_)=>bif Y5 ops 50 q j then wq ops j r+1 else 0
  | none=>0
def mrg (t:Bool) (a b:SV):Option SV:=match a,b with
 | .bl true,.bl false=>some (.bt t)
 | .bl true,.bt y=>some (.bt (t||y))
 | .bt x,.bl false=>some (.bt (t&&x))
 | .bl false,.bl true=>some (.bt (!t))
 | .bl false,.bt y=>some (.bt (!t&&y))
 | .bt x,.bl true=>some (.bt (!t||x))
 | .bt x,.bt y=>some (.bt (bif t then x else y))
 | .bl true,.bl true=>some (.bl true)
 | .bl false,.bl false=>some (.bl false)
 | _,_=>none
theorem Lp {t:Bool} {a b v:SV} (h:mrg t a b=some v) (β:Nat->Nat):(t=true->val β v=val β a)/\(t=false->val β v=val β b):=by
 unfold mrg at h;split at h<;>simp only[aJ,reduceCtorEq]at h<;>subst h<;>refine⟨fun e=>?_,fun e=>?_⟩<;>subst e<;>simp[val,oq]
def xH (ds:List Nat):List (Nat×Nat×SV)->List (Nat×Nat×SV)
 | []=>[]
 | p::r=>bif ds.elem p.1 then xH ds r else p::xH ds r
theorem jV {ds:List Nat}:∀{l:List (Nat×Nat×SV)} {i:Nat},(ds.elem i=true->dk (xH ds l) i=none)/\(ds.elem i=false->dk (xH ds l) i=dk l i)
 | [],i=>⟨fun _=>rfl,fun _=>rfl⟩
 | (k,p)::r,i=>by
  obtain⟨h1,h2⟩:=jV (ds:=ds) (l:=r) (i:=i);simp only[xH];cases hk:ds.elem k with
  | true=>
   simp only[fe];refine⟨h1,fun hi=>?_⟩;rw[h2 hi];simp only[dk];cases hb:Nat.beq k i with
   | true=>have:=bC hb;subst this;rw[hi]at hk;cases hk
   | false=>rfl
  | false=>
   simp only[mE,dk];cases hb:Nat.beq k i with
   | true=>
    have:=bC hb;subst this;exact⟨fun hi=>(by rw[hi]at hk;cases hk),fun _=>rfl⟩
   | false=>exact⟨h1,h2⟩
def St.mj (st:St) (ds:List Nat):St:={st with fr:=xH ds st.fr}
theorem Ext.mj (st:St) (ds:List Nat):Ext st (st.mj ds):=
 ⟨rfl,aK _,fun i k v hl _=>by
  cases he:ds.elem i with
  | true=>rw[show dk (st.mj ds).fr i=none from(jV (l:=st.fr)).1 he]at hl;cases hl
  | false=>rw[show dk (st.mj ds).fr i=dk st.fr i from(jV (l:=st.fr)).2 he]at hl;exact hl,fun i b h ho _=>⟨b,h,ho,rfl,rfl,rfl,fun _ h=>h⟩,Lh,CL⟩
structure Alike (s t:St):Prop where
 bx:t.bx=s.bx
 w0:t.w0=s.w0
 mv:t.mv=s.mv
 dt:t.dt=s.dt
 n:t.n=s.n
 df:t.df=s.df
theorem Alike.refl (s:St):Alike s s:=⟨rfl,rfl,rfl,rfl,rfl,rfl⟩
theorem Alike.trans {s t u:St} (h:Alike s t) (k:Alike t u):Alike s u:=⟨k.bx.trans h.bx,k.w0.trans h.w0,k.mv.trans h.mv,k.dt.trans h.dt,k.n.trans h.n,k.df.trans h.df⟩
theorem Alike.put (s:St) (d:Option Tmp) (v:SV):Alike s (s.put d v):=by cases d<;>exact⟨rfl,rfl,rfl,rfl,rfl,rfl⟩
theorem Rep.alike {β:Nat->Nat} {s t:St} {a a':Act} {w:World} (h:Rep β s a w) (k:Alike s t) (hf:RH β t.n t.fr (Pj t.df) a'):Rep β t a' w:=by
 obtain⟨k1,k2,k3,k4,k5,k6⟩:=k;refine⟨pz hf,fun i b hb ho=>?_,fun i j bi bj h1 h2 h3 h4=>?_,?_,fun hm=>?_⟩
 ·rw[k1]at hb;obtain⟨g1,g2,g3⟩:=h.bx i b hb ho;exact⟨g1,g2,fun e=>by rw[k2];exact g3 e⟩
 ·rw[k1]at h1 h2;exact h.ne i j bi bj h1 h2 h3 h4
 ·rw[k2,k4];exact h.only
 ·rw[k2];exact h.still (by rw[<-k3];exact hm)
def u6 (P:Program) (ops:List Oper):Nat->List (Bool×Bool)->List Oper->St->(St->Prop)->Prop
 | 0,_,_,_,_=>False
 | _+1,_,[],st,K=>K st
 | f+1,gs,o::rest,st,K=>match o.guard with
  | none=>UQ P gs st o.op fun v=>u6 P ops f gs rest (st.put o.dst v) K
  | some (j,want)=>(match UX st ops j with
   | some (_,.un)=>u6 P ops f gs rest (st.put o.dst .un) K
   | some (_,.bl b)=>bif b==want then UQ P gs st o.op fun v=>u6 P ops f gs rest (st.put o.dst v) K else u6 P ops f gs rest (st.put o.dst .un) K
   | some (d,.bt t)=>(match(o::rest)[wq ops j (o::rest)]? with
    | some pk=>(match pk.dst with
     | some k=>
      u6 P ops f (gs++[(t,true)]) ((o::rest).take (wq ops j (o::rest)+1)) (st.put (some d) (.bl true)) fun sa=>
      bG (sa.get k) fun va=>
      u6 P ops f (gs++[(t,false)]) ((o::rest).take (wq ops j (o::rest)+1)) (st.put (some d) (.bl false)) fun sb=>
      bG (sb.get k) fun vb=>
      bG (mrg t va vb) fun v=>
      u6 P ops f gs ((o::rest).drop (wq ops j (o::rest)+1)) ((st.mj (Ba ((o::rest).take (wq ops j (o::rest)+1)))).put (some k) v) K
     | none=>False)
    | none=>False)
   | _=>False)
theorem FF:∀{gs:List (Bool×Bool)} {t b:Bool},gh gs->t=b->gh (gs++[(t,b)])
 | [],_,_,_,h=>⟨h,trivial⟩
 | (_,_)::r,_,_,h,k=>⟨h.1,FF (gs:=r) h.2 k⟩
theorem pA {P:Program} {ops:List Oper}:∀{f:Nat} {gs:List (Bool×Bool)} {l:List Oper} {st:St} {K:St->Prop},u6 P ops f gs l st K->
  ∃ch,K ch/\Ext st ch/\Alike st ch/\(gh gs->∀β a w,Rep β st a w->∃a',tV P ops w l a a'/\Rep β ch a' w)
 | 0,_,_,_,_,h=>h.elim
 | _+1,gs,[],st,K,h=>⟨st,h,Ext.refl _,Alike.refl _,fun _ β a w hR=>⟨a,rfl,hR⟩⟩
 | f+1,gs,o::rest,st,K,h=>by
  have one:(Region.wanted o=fun _=>true)∨True->∀{K:St->Prop},(UQ P gs st o.op fun v=>u6 P ops f gs rest (st.put o.dst v) K)->
    (gh gs->∀β a w,Rep β st a w->Region.wanted o (yielded ops.toArray a.tmps)=true)->
    ∃ch,K ch/\Ext st ch/\Alike st ch/\(gh gs->∀β a w,Rep β st a w->∃a',tV P ops w (o::rest) a a'/\Rep β ch a' w):=fun _ K h hw=>by
   obtain⟨v,h1,hy⟩:=FD h;obtain⟨ch,k1,k2,k3,k4⟩:=pA h1;refine⟨ch,k1,(Ext.put _ _ _).trans k2,(Alike.put _ _ _).trans k3,fun hg β a w hR=>?_⟩;obtain⟨a',g1,g2⟩:=k4 hg β _ w (hR.put o.dst v);exact⟨a',.inl ⟨hw hg β a w hR,_,fun w' hh=>hy hg β a w hR _ _ _ _ _ w' fun _=>hh,g1⟩,g2⟩
  have no:∀{K:St->Prop},u6 P ops f gs rest (st.put o.dst .un) K->(gh gs->∀β a w,Rep β st a w->Region.wanted o (yielded ops.toArray a.tmps)=false)->
    ∃ch,K ch/\Ext st ch/\Alike st ch/\(gh gs->∀β a w,Rep β st a w->∃a',tV P ops w (o::rest) a a'/\Rep β ch a' w):=fun h1 hw=>by
   obtain⟨ch,k1,k2,k3,k4⟩:=pA h1;refine⟨ch,k1,(Ext.put _ _ _).trans k2,(Alike.put _ _ _).trans k3,fun hg β a w hR=>?_⟩;obtain⟨a',g1,g2⟩:=k4 hg β _ w (hR.put o.dst .un);exact⟨a',.inr ⟨hw hg β a w hR,g1⟩,g2⟩
  unfold u6 at h;split at h
  ·rename_i hg0;exact one (.inr trivial) h fun _ β a w hR=>wn hg0
  ·rename_i j want hg0;split at h
   ·rename_i d ht;exact no h fun _ β a w hR=>uZ hR hg0 ht
   ·rename_i d b ht;cases hb:(b==want)with
    | true=>
     rw[hb]at h;exact one (.inr trivial) h fun _ β a w hR=>by rw[oB hR hg0 ht (b:=b) rfl,hb]
    | false=>
     rw[hb]at h;exact no h fun _ β a w hR=>by rw[oB hR hg0 ht (b:=b) rfl,hb]
   ·rename_i d t ht;obtain⟨oj,Fe,RI,PD⟩:=xE ht;split at h
    ·rename_i pk hpk;split at h
     ·rename_i k hk;generalize wq ops j (o::rest)=m at h hpk;obtain⟨sa,ha,ea1,ea2,ea3⟩:=pA h;obtain⟨va,hva,ha⟩:=aY ha;obtain⟨sb,hb,eb1,eb2,eb3⟩:=pA ha;obtain⟨vb,hvb,hb⟩:=aY hb;obtain⟨v,hv,hb⟩:=aY hb;obtain⟨ch,k1,k2,k3,k4⟩:=pA hb;refine⟨ch,k1,((Ext.mj _ _).trans (Ext.put _ _ _)).trans k2,((⟨rfl,rfl,rfl,rfl,rfl,rfl⟩:Alike st (st.mj _)).trans (Alike.put _ _ _)).trans k3,fun hg β a w hR=>?_⟩;have fin:∀(s:SV) (u:St) (x:SV),Rep β u a w->(∃a',tV P ops w ((o::rest).take (m+1)) a a'/\∃u',Rep β u' a' w/\u'.n=st.n/\u'.get k=some x/\val β v=val β x)->∃a',tV P ops w (o::rest) a a'/\Rep β ch a' w:=by
       rintro s u x hu ⟨a1,g1,u',r1,r2,r3,r4⟩;obtain⟨f1,f2,f3⟩:=xG g1;have gA:Rep β ((st.mj (Ba ((o::rest).take (m+1)))).put (some k) v) a1 w:=by
        refine hR.alike ((⟨rfl,rfl,rfl,rfl,rfl,rfl⟩:Alike st (st.mj _)).trans (Alike.put _ _ _)) ⟨f1.trans hR.ok.sz,f2.trans hR.ok.df,fun i p hl hi=>?_⟩;simp only[St.put,dk]at hl;cases KP:Nat.beq k i with
        | true=>
         rw[KP]at hl;simp only[fe,aJ]at hl;subst hl;have:=bC KP;subst this;have e:=r1.get r3;show a1.tmps[k]? =some (val β v);rw[r4,<-e];have hs:k<a1.tmps.size:=by rw[f1,hR.ok.sz];exact hi
         simp[Act.eval,hs]
        | false=>
         rw[KP]at hl;simp only[mE]at hl;cases he:(Ba ((o::rest).take (m+1))).elem i with
         | true=>rw[show dk (st.mj _).fr i=none from(jV (l:=st.fr)).1 he]at hl;cases hl
         | false=>
          rw[show dk (st.mj _).fr i=dk st.fr i from(jV (l:=st.fr)).2 he]at hl;rw[f3 i he];exact hR.ok.at_ i p hl hi
       obtain⟨a2,g2,g3⟩:=k4 hg β a1 w gA;refine⟨a2,?_,g3⟩;have:=xF g1 g2;rwa[eE]at this
      cases t with
      | true=>
       have hu:Rep β (st.put (some d) (.bl true)) a w:=hR.set PD rfl;obtain⟨a1,g1,g2⟩:=ea3 (FF hg rfl) β a w hu;exact fin (.bl true) _ va hu ⟨a1,g1,sa,g2,ea2.n.trans rfl,hva,(Lp hv β).1 rfl⟩
      | false=>
       have hu:Rep β (st.put (some d) (.bl false)) a w:=hR.set PD rfl;obtain⟨a1,g1,g2⟩:=eb3 (FF hg rfl) β a w hu;exact fin (.bl false) _ vb hu ⟨a1,g1,sb,g2,eb2.n.trans rfl,hvb,(Lp hv β).2 rfl⟩
     ·exact h.elim
    ·exact h.elim
   ·exact h.elim
theorem jG:∀(l:List gR) (b:gR) (i:Nat),cu (l++[b]) i=if i=l.length then some b else cu l i
 | [],b,0=>rfl
 | [],b,i+1=>by simp[cu]
 | a::r,b,0=>rfl
 | a::r,b,i+1=>by
  simp only[cn,cu,aH,Nat.add_right_cancel_iff];exact jG r b i
theorem pB:∀{l:List gR} {i:Nat} {b:gR},cu l i=some b->i<l.length
 | a::r,0,_,_=>by simp
 | a::r,i+1,b,h=>by simp only[cu]at h;have:=pB h;simp;omega
theorem iK:∀{l:List gR} {i:Nat} {b c:gR},cu l i=some b->∀j,cu (zo l i c) j=if j=i then some c else cu l j
 | a::r,0,b,c,_,0=>rfl
 | a::r,0,b,c,_,j+1=>by simp[zo,cu]
 | a::r,i+1,b,c,h,0=>by simp[zo,cu]
 | a::r,i+1,b,c,h,j+1=>by
  simp only[cu]at h;simp only[zo,cu,Nat.add_right_cancel_iff];exact iK h j
theorem lO {b:Bool} {p q:Prop} (h:bif b then p else q):(b=true/\p)∨(b=false/\q):=by
 cases b with
 | true=>exact .inl ⟨rfl,h⟩
 | false=>exact .inr ⟨rfl,h⟩
def Dh (bx:List gR) (i:Nat):Nat:=match cu bx i with
 | some b=>b.blk.getD 0
 | none=>0
def Di (bx:List gR) (i:Nat):Bool:=match cu bx i with
 | some b=>b.ok&&b.blk.isSome
 | none=>false
abbrev St.bl (st:St) (i:Nat):Nat:=Dh st.bx i
abbrev St.Gw (st:St) (i:Nat):Bool:=Di st.bx i
theorem Rep.bl {β:Nat->Nat} {st:St} {a:Act} {w:World} (h:Rep β st a w) (i:Nat) (hg:st.Gw i=true):st.bl i=β i:=by
 unfold St.Gw Di at hg;unfold St.bl Dh;cases hb:cu st.bx i with
 | none=>rw[hb]at hg;cases hg
 | some b=>
  rw[hb]at hg;simp only[aE]at hg;cases hk:b.blk with
  | none=>rw[hk]at hg;cases hg.2
  | some k=>
   have:=(h.bx i b hb hg.1).at_ k hk;simp[hk,this]
theorem Rep.rh {β:Nat->Nat} {st:St} {a:Act} {w:World} (h:Rep β st a w) {l:List SV} (hc:gD st.Gw l=true):bR st.bl l=bR β l:=gj (g:=st.Gw) h.bl l hc
theorem Rep.acA {β:Nat->Nat} {st:St} {a:Act} {w:World} (h:Rep β st a w) {s:SV} (hc:cln st.Gw s=true):val st.bl s=val β s:=iQ (g:=st.Gw) h.bl s hc
def Dj:List gR->(List gR->Prop)->Prop
 | [],K=>K []
 | b::r,K=>match b.ok,b.blk with
  | true,none=>∀k:Nat,Dj r fun r'=>K ({b with blk:=some k}::r')
  | _,_=>Dj r fun r'=>K (b::r')
def qC (k:Nat) (b:gR):gR:=match b.ok,b.blk with
 | true,none=>{b with blk:=some k}
 | _,_=>b
def j8 (β:Nat->Nat):Nat->List gR->List gR
 | _,[]=>[]
 | n,b::r=>qC (β n) b::j8 β (n+1) r
theorem xI (β:Nat->Nat):∀{bs:List gR} (n:Nat) {K:List gR->Prop},Dj bs K->K (j8 β n bs)
 | [],_,_,h=>h
 | b::r,n,K,h=>by
  unfold Dj at h;unfold j8;split at h
  ·rename_i h1 h2;have:=xI β (n+1) (h (β n));have e:qC (β n) b={b with blk:=some (β n)}:=by unfold qC;split<;>simp_all
   rw[e];exact this
  ·rename_i h1;have:=xI β (n+1) h;have e:qC (β n) b=b:=by
    unfold qC;split
    ·rename_i e1 e2;exact absurd e2 (fun e2=>h1 e1 e2)
    ·rfl
   rw[e];exact this
theorem xJ (β:Nat->Nat):∀(bs:List gR) (n i:Nat),cu (j8 β n bs) i=(cu bs i).map (qC (β (n+i)))
 | [],_,_=>rfl
 | b::r,n,0=>rfl
 | b::r,n,i+1=>by
  simp only[j8,cu];rw[xJ β r (n+1) i,show n+1+i=n+(i+1) by omega]
def Dk (w0 w:World):List gR->List gR->Prop->Prop
 | b::r,b'::r',p=>match b.ok,b.blk with
  | true,none=>w0.heap.size<=b'.blk.getD 0->b'.blk.getD 0<w.heap.size->Dk w0 w r r' p
  | _,_=>Dk w0 w r r' p
 | _,_,p=>p
theorem xK {β:Nat->Nat} {w0 w:World}:∀{bs:List gR} (n:Nat) {p:Prop},Dk w0 w bs (j8 β n bs) p->(∀i b,cu bs i=some b->b.ok=true->b.blk=none->w0.heap.size<=β (n+i)/\β (n+i)<w.heap.size)->p
 | [],_,_,h,_=>h
 | b::r,n,p,h,hb=>by
  simp only[j8]at h;unfold Dk at h;split at h
  ·rename_i h1 h2;obtain⟨e1,e2⟩:=hb 0 b rfl h1 h2;have e:(qC (β n) b).blk.getD 0=β n:=by unfold qC;rw[h1,h2];rfl
   rw[e]at h;exact xK (n+1) (h e1 e2) fun i c hc=>by have:=hb (i+1) c hc;rwa[show n+(i+1)=n+1+i by omega]at this
  ·exact xK (n+1) h fun i c hc=>by have:=hb (i+1) c hc;rwa[show n+(i+1)=n+1+i by omega]at this
def XQ (g:Nat->Bool) (bl:Nat->Nat) (w:World) (all:Bool):List gR->Prop->Prop
 | [],p=>p
 | b::r,p=>bif b.ok&&b.blk.isSome&&b.esc&&(all||!b.sh)&&gD g b.cells then Blk w (b.blk.getD 0) b.ty (bR bl b.cells)->XQ g bl w all r p else XQ g bl w all r p
theorem Bb {g:Nat->Bool} {bl:Nat->Nat} {w:World} {all:Bool}:∀{bs:List gR} {p:Prop},XQ g bl w all bs p->(∀i b,cu bs i=some b->b.ok=true->b.blk.isSome=true->gD g b.cells=true->Blk w (b.blk.getD 0) b.ty (bR bl b.cells))->p
 | [],_,h,_=>h
 | b::r,p,h,hb=>by
  unfold XQ at h;cases hc:(b.ok&&b.blk.isSome&&b.esc&&(all||!b.sh)&&gD g b.cells)with
  | true=>
   rw[hc]at h;simp only[aE]at hc;exact Bb (h (hb 0 b rfl hc.1.1.1.1 hc.1.1.1.2 hc.2)) fun i c hi=>hb (i+1) c hi
  | false=>
   rw[hc]at h;exact Bb h fun i c hi=>hb (i+1) c hi
def sQ:List gR->List gR
 | []=>[]
 | b::r=>{b with sh:=b.esc}::sQ r
theorem oC:∀(l:List gR) (i:Nat),cu (sQ l) i=(cu l i).map fun b=>{b with sh:=b.esc}
 | [],_=>rfl
 | b::r,0=>rfl
 | b::r,i+1=>oC r i
def xL (bs:List gR):List Nat->Bool
 | []=>true
 | i::r=>(match cu bs i with
  | some b=>b.ok
  | none=>false)&&xL bs r
theorem rH {bs:List gR}:∀{l:List Nat},xL bs l=true->∀i∈l,∃b,cu bs i=some b/\b.ok=true
 | i::r,h,j,hj=>by
  simp only[xL,aE]at h;rcases aL.1 hj with rfl | hj
  ·split at h
   ·rename_i b hb;exact⟨b,hb,h.1⟩
   ·cases h.1
  ·exact rH h.2 j hj
def Jo:List gR->List gR->List (Nat×Bool)
 | b::r,b'::r'=>bif b.ok&&b.blk.isNone then(b'.blk.getD 0,b.esc)::Jo r r' else Jo r r'
 | _,_=>[]
def Lr (k:Nat):List (Nat×Bool)->Prop->Prop
 | [],p=>p
 | x::r,p=>bif x.2 then Lr k r p else(x.1≠k->Lr k r p)
def Ls (all:List (Nat×Bool)):List (Nat×Bool)->Prop->Prop
 | [],p=>p
 | x::r,p=>bif x.2 then Lr x.1 all (Ls all r p)else Ls all r p
theorem Bc {k:Nat}:∀{l:List (Nat×Bool)} {p:Prop},Lr k l p->(∀y,y∈l->y.2=false->y.1≠k)->p
 | [],_,h,_=>h
 | x::r,p,h,hd=>by
  unfold Lr at h;cases hx:x.2 with
  | true=>rw[hx]at h;exact Bc h fun y hy=>hd y (cL _ hy)
  | false=>rw[hx]at h;exact Bc (h (hd x du hx)) fun y hy=>hd y (cL _ hy)
theorem Bd {all:List (Nat×Bool)}:∀{l:List (Nat×Bool)} {p:Prop},Ls all l p->(∀x,x∈l->x.2=true->∀y,y∈all->y.2=false->y.1≠x.1)->p
 | [],_,h,_=>h
 | x::r,p,h,hd=>by
  unfold Ls at h;cases hx:x.2 with
  | true=>rw[hx]at h;exact Bd (Bc h fun y hy hf=>hd x du hx y hy hf) fun z hz=>hd z (cL _ hz)
  | false=>rw[hx]at h;exact Bd h fun z hz=>hd z (cL _ hz)
theorem tW {β:Nat->Nat}:∀{bs:List gR} (n:Nat) {x:Nat×Bool},x∈Jo bs (j8 β n bs)->∃i b,cu bs i=some b/\b.ok=true/\x=(β (n+i),b.esc)
 | [],_,_,h=>by cases h
 | b::r,n,x,h=>by
  simp only[j8,Jo]at h;cases hc:(b.ok&&b.blk.isNone)with
  | true=>
   rw[hc]at h;simp only[aE,Option.isNone_iff_eq_none]at hc;rcases aL.1 h with rfl | h
   ·refine⟨0,b,rfl,hc.1,?_⟩;have:(qC (β n) b).blk.getD 0=β n:=by unfold qC;rw[hc.1,hc.2];rfl
    rw[this];rfl
   ·obtain⟨i,c,h1,h2,h3⟩:=tW (n+1) h;exact⟨i+1,c,h1,h2,by rw[h3,show n+1+i=n+(i+1) by omega]⟩
  | false=>
   rw[hc]at h;obtain⟨i,c,h1,h2,h3⟩:=tW (n+1) h;exact⟨i+1,c,h1,h2,by rw[h3,show n+1+i=n+(i+1) by omega]⟩
def xM:List gR->List Nat
 | []=>[]
 | b::r=>bif b.ok&&b.blk.isSome&&b.esc&&!b.sh then b.blk.getD 0::xM r else xM r
def xN:List gR->List Nat
 | []=>[]
 | b::r=>bif b.ok&&b.blk.isSome&&!b.esc then b.blk.getD 0::xN r else xN r
def UY (k:Nat):List Nat->Prop->Prop
 | [],p=>p
 | x::r,p=>x≠k->UY k r p
def Qn (NZ:List Nat):List Nat->Prop->Prop
 | [],p=>p
 | k::r,p=>UY k NZ (Qn NZ r p)
theorem Hd {k:Nat}:∀{l:List Nat} {p:Prop},UY k l p->(∀y,y∈l->y≠k)->p
 | [],_,h,_=>h
 | x::r,p,h,hd=>Hd (h (hd x du)) fun y hy=>hd y (cL _ hy)
theorem Be {NZ:List Nat}:∀{l:List Nat} {p:Prop},Qn NZ l p->(∀k,k∈l->∀y,y∈NZ->y≠k)->p
 | [],_,h,_=>h
 | k::r,p,h,hd=>Be (Hd h fun y hy=>hd k du y hy) fun z hz=>hd z (cL _ hz)
theorem u7:∀{bs:List gR} {x:Nat},x∈xM bs->∃i b,cu bs i=some b/\b.ok=true/\b.esc=true/\b.blk=some x
 | [],_,h=>by cases h
 | b::r,x,h=>by
  simp only[xM]at h;cases hc:(b.ok&&b.blk.isSome&&b.esc&&!b.sh)with
  | true=>
   rw[hc]at h;simp only[aE]at hc;rcases aL.1 h with rfl | h
   ·obtain⟨k,hk⟩:=ff.1 hc.1.1.2;exact⟨0,b,rfl,hc.1.1.1,hc.1.2,by rw[hk];rfl⟩
   ·obtain⟨i,c,h1,h2⟩:=u7 h;exact⟨i+1,c,h1,h2⟩
  | false=>
   rw[hc]at h;obtain⟨i,c,h1,h2⟩:=u7 h;exact⟨i+1,c,h1,h2⟩
theorem u9:∀{bs:List gR} {x:Nat},x∈xN bs->∃i b,cu bs i=some b/\b.ok=true/\b.esc=false/\b.blk=some x
 | [],_,h=>by cases h
 | b::r,x,h=>by
  simp only[xN]at h;cases hc:(b.ok&&b.blk.isSome&&!b.esc)with
  | true=>
   rw[hc]at h;simp only[aE,bX]at hc;rcases aL.1 h with rfl | h
   ·obtain⟨k,hk⟩:=ff.1 hc.1.2;exact⟨0,b,rfl,hc.1.1,hc.2,by rw[hk];rfl⟩
   ·obtain⟨i,c,h1,h2⟩:=u9 h;exact⟨i+1,c,h1,h2⟩
  | false=>
   rw[hc]at h;obtain⟨i,c,h1,h2⟩:=u9 h;exact⟨i+1,c,h1,h2⟩
theorem Dl {β:Nat->Nat} {st:St} {a:Act} {w:World} (hR:Rep β st a w):∀k,k∈xM st.bx->∀y,y∈xN st.bx->y≠k:=fun k hk y hy=>by
 obtain⟨i,b,i1,i2,i3,i4⟩:=u7 hk;obtain⟨j,c,j1,j2,j3,j4⟩:=u9 hy;have e1:=(hR.bx i b i1 i2).at_ k i4;have e2:=(hR.bx j c j1 j2).at_ y j4;rw[<-e1,<-e2];refine hR.ne j i c b j1 i1 j2 i2 fun e=>?_;subst e;rw[i1]at j1;injection j1 with j1;subst j1;rw[i3]at j3;cases j3
def dQ (st:St) (K:St->Prop):Prop:=
 bif st.mv then
  bif xL st.bx st.dt then
   Dj st.bx fun bx=>∀w:World,Dk st.w0 w st.bx bx (Only (st.dt.map (Dh bx)) st.w0 w->
    XQ (Di bx) (Dh bx) w true bx (Ls (Jo st.bx bx) (Jo st.bx bx) (Qn (xN st.bx) (xM st.bx) (K {st with bx:=sQ bx,w0:=w,mv:=false,dt:=[]}))))
  else False
 else XQ st.Gw st.bl st.w0 false st.bx (Qn (xN st.bx) (xM st.bx) (K {st with bx:=sQ st.bx}))
theorem dl {st:St} {K:St->Prop} (h:dQ st K) {β:Nat->Nat} {a:Act} {w:World} (hR:Rep β st a w):∃ch,K ch/\Ext st ch/\Rep β ch a w/\ch.mv=false/\ch.fr=st.fr/\ch.n=st.n/\ch.ct=st.ct/\ch.bx.length=st.bx.length:=by
 unfold dQ at h;rcases lO h with⟨hm,h⟩ | ⟨hm,h⟩
 case inr=>
  have hk:=Bb h fun i b hb ho hs hc=>by
   have:=(hR.bx i b hb ho).blk;cases hk:b.blk with
   | none=>rw[hk]at hs;cases hs
   | some k=>
    have e:=(hR.bx i b hb ho).at_ k hk;rw[hR.rh hc,<-hR.still hm];rw[e]at this;exact this
  have hk:=Be hk (Dl hR);have key:∀i b',cu (sQ st.bx) i=some b'->∃b,cu st.bx i=some b/\b'={b with sh:=b.esc}:=fun i b' hb=>by
   rw[oC]at hb;cases hn:cu st.bx i with
   | none=>rw[hn]at hb;cases hb
   | some b=>rw[hn]at hb;exact⟨b,rfl,by simpa using hb.symm⟩
  refine⟨_,hk,⟨rfl,aK _,fun _ _ _ h _=>h,fun i b' hb ho _=>?_,fun i b hb=>?_,CL⟩,⟨hR.fr,fun i b' hb ho=>?_,fun i j bi bj h1 h2 h3 h4 zy=>?_,hR.only,hR.still⟩,hm,rfl,rfl,rfl,?_⟩
  ·obtain⟨b,h1,rfl⟩:=key i b' hb;exact⟨b,h1,ho,rfl,rfl,rfl,fun _ h=>h⟩
  ·exact⟨{b with sh:=b.esc},by rw[oC,hb];rfl,rfl,rfl,fun _ h=>h⟩
  ·obtain⟨b,h1,rfl⟩:=key i b' hb;have:=hR.bx i b h1 ho;exact⟨this.blk,this.at_,this.new⟩
  ·obtain⟨b,g1,rfl⟩:=key i bi h1;obtain⟨c,g2,rfl⟩:=key j bj h2;exact hR.ne i j b c g1 g2 h3 h4 zy
  ·have:∀l:List gR,(sQ l).length=l.length:=fun l=>by
    induction l with
    | nil=>rfl
    | cons b r ih=>simp[sQ,ih]
   exact this _
 case inl=>
  obtain⟨eU,h⟩:=cU h;have h:=xI β 0 h w;have sJ:∀i,cu (j8 β 0 st.bx) i=(cu st.bx i).map (qC (β i)):=fun i=>by rw[xJ,bm]
  have I1:∀i b,cu st.bx i=some b->b.ok=true->∃b',cu (j8 β 0 st.bx) i=some b'/\b'.ok=true/\b'.blk=some (β i)/\b'.cells=b.cells/\b'.ty=b.ty/\b'.stp=b.stp:=fun i b hb ho=>by
   refine⟨qC (β i) b,by rw[sJ,hb];rfl,?_⟩;unfold qC;split
   ·exact⟨ho,rfl,rfl,rfl,rfl⟩
   ·rename_i gf;refine⟨ho,?_,rfl,rfl,rfl⟩;cases hk:b.blk with
    | none=>exact absurd hk (fun e=>gf ho e)
    | some k=>rw[(hR.bx i b hb ho).at_ k hk]
  have Wf:∀i b',cu (j8 β 0 st.bx) i=some b'->b'.ok=true->∃b,cu st.bx i=some b/\b.ok=true/\b'.blk=some (β i)/\b'.cells=b.cells/\b'.ty=b.ty/\b'.stp=b.stp:=fun i b' hb ho=>by
   rw[sJ]at hb;cases hn:cu st.bx i with
   | none=>rw[hn]at hb;cases hb
   | some b=>
    rw[hn]at hb;simp only[cD,aJ]at hb;subst hb;have hob:b.ok=true:=by
     unfold qC at ho;split at ho
     ·assumption
     ·exact ho
    obtain⟨b2,e1,e2,e3,e4,e5,e6⟩:=I1 i b hn hob;rw[sJ,hn]at e1;simp only[cD,aJ]at e1;subst e1;exact⟨b,rfl,hob,e3,e4,e5,e6⟩
  have h:=xK 0 h fun i b hb ho hk=>by
   rw[bm];exact⟨(hR.bx i b hb ho).new hk,(hR.bx i b hb ho).blk.lt⟩
  have edt:st.dt.map (Dh (j8 β 0 st.bx))=st.dt.map β:=by
   refine qv fun i hi=>?_;obtain⟨b,h1,h2⟩:=rH eU i hi;obtain⟨b',e1,e2,e3,_⟩:=I1 i b h1 h2;unfold Dh;rw[e1];simp[e3]
  have h:=h (by rw[edt];exact hR.only);have oY:∀i,Di (j8 β 0 st.bx) i=true->Dh (j8 β 0 st.bx) i=β i:=fun i hg=>by
   unfold Di at hg;unfold Dh;cases hn:cu (j8 β 0 st.bx) i with
   | none=>rw[hn]at hg;cases hg
   | some b'=>
    rw[hn]at hg;simp only[aE]at hg;obtain⟨b,_,_,e3,_⟩:=Wf i b' hn hg.1;simp[e3]
  have hk:=Bb h fun i b' hb ho hs hc=>by
   obtain⟨b,e1,e2,e3,e4,e5,e6⟩:=Wf i b' hb ho;rw[gj oY _ hc,e3,e4,e5];exact(hR.bx i b e1 e2).blk
  have hk:=Bd hk fun x hx N0 y hy hye=>by
   obtain⟨i,b,i1,i2,rfl⟩:=tW 0 hx;obtain⟨j,c,j1,j2,rfl⟩:=tW 0 hy;rw[bm,bm];refine hR.ne j i c b j1 i1 j2 i2 fun e=>?_;subst e;rw[i1]at j1;injection j1 with j1;subst j1;rw[N0]at hye;cases hye
  have hk:=Be hk (Dl hR);have key:∀i b',cu (sQ (j8 β 0 st.bx)) i=some b'->b'.ok=true->∃b,cu st.bx i=some b/\b.ok=true/\b'.blk=some (β i)/\b'.cells=b.cells/\b'.ty=b.ty/\b'.stp=b.stp:=fun i b' hb ho=>by
   rw[oC]at hb;cases hn:cu (j8 β 0 st.bx) i with
   | none=>rw[hn]at hb;cases hb
   | some c=>
    rw[hn]at hb;simp only[cD,aJ]at hb;subst hb;exact Wf i c hn ho
  refine⟨_,hk,⟨rfl,aK _,fun _ _ _ h _=>h,fun i b' hb ho _=>?_,fun i b hb=>?_,CL⟩,⟨hR.fr,fun i b' hb ho=>?_,fun i j bi bj h1 h2 h3 h4 zy=>?_,Only.refl _ _,fun _=>rfl⟩,rfl,rfl,rfl,rfl,?_⟩
  ·obtain⟨b,e1,e2,e3,e4,e5,e6⟩:=key i b' hb ho;exact⟨b,e1,e2,e4.symm,e5.symm,e6.symm,fun k hk=>by rw[e3,(hR.bx i b e1 e2).at_ k hk]⟩
  ·refine⟨{qC (β i) b with sh:=(qC (β i) b).esc},by rw[oC,sJ,hb];rfl,?_⟩;unfold qC;split
   ·rename_i e1 e2;exact⟨rfl,rfl,fun k hk=>by rw[e2]at hk;cases hk⟩
   ·exact⟨rfl,rfl,fun _ h=>h⟩
  ·obtain⟨b,e1,e2,e3,e4,e5,e6⟩:=key i b' hb ho;refine⟨by rw[e4,e5];exact(hR.bx i b e1 e2).blk,fun k hk=>by rw[e3]at hk;simpa using hk,fun hk=>by rw[e3]at hk;cases hk⟩
  ·obtain⟨b,e1,e2,_⟩:=key i bi h1 h3;obtain⟨c,f1,f2,_⟩:=key j bj h2 h4;exact hR.ne i j b c e1 f1 e2 f2 zy
  ·have l1:∀l:List gR,(sQ l).length=l.length:=fun l=>by
    induction l with
    | nil=>rfl
    | cons b r ih=>simp[sQ,ih]
   have l2:∀(l:List gR) n,(j8 β n l).length=l.length:=fun l=>by
    induction l with
    | nil=>intro n;rfl
    | cons b r ih=>intro n;simp[j8,ih]
   exact(l1 _).trans (l2 _ _)
def noB (n:Nat) (s:SV):Bool:=cln (fun j=>!Nat.beq j n) s
def Qo (n:Nat) (l:List SV):Bool:=gD (fun j=>!Nat.beq j n) l
def Jp (n:Nat):List (Nat×Nat×SV)->Bool
 | []=>true
 | p::r=>noB n p.2.2&&Jp n r
def FG (n:Nat):List gR->Bool
 | []=>true
 | b::r=>(!b.ok||Qo n b.cells)&&FG n r
theorem Bg {n:Nat}:∀{l:List (Nat×Nat×SV)},Jp n l=true->∀i p,dk l i=some p->noB n p.2=true
 | [],_,i,p,h=>by cases h
 | (k,q)::r,h,i,p,hl=>by
  simp only[Jp,aE]at h;simp only[dk]at hl;cases hb:Nat.beq k i with
  | true=>rw[hb]at hl;simp only[fe,aJ]at hl;subst hl;exact h.1
  | false=>rw[hb]at hl;exact Bg h.2 i p (by simpa using hl)
theorem Bh {n:Nat}:∀{l:List gR},FG n l=true->∀i b,cu l i=some b->b.ok=true->Qo n b.cells=true
 | c::r,h,0,b,hb,ho=>by
  simp only[FG,aE,bS,bX]at h;simp only[cu,aJ]at hb;subst hb;rcases h.1 with h1 | h1
  ·rw[ho]at h1;cases h1
  ·exact h1
 | c::r,h,i+1,b,hb,ho=>by
  simp only[FG,aE]at h;exact Bh h.2 i b hb ho
def uL (β:Nat->Nat) (n b:Nat):Nat->Nat:=fun i=>if i=n then b else β i
theorem xO {β:Nat->Nat} {n b:Nat}:∀i,(!Nat.beq i n)=true->β i=uL β n b i:=fun i h=>by
 unfold uL;rw[if_neg];rintro rfl;simp at h
section
variable {β:Nat->Nat} {st:St} {a:Act} {w w1:World}
def St.Cj (st:St) (d:Option Tmp) (t:TypeId) (zs:List SV):St:=
 St.put {st with bx:=st.bx++[⟨none,t,zs,st.ct,true,false,false⟩],mv:=true,ct:=st.ct+1} d (.box st.bx.length 0)
theorem Ext.Cj (st:St) (d:Option Tmp) (t:TypeId) (zs:List SV):Ext st (st.Cj d t zs):=by
 refine Ext.trans (t:={st with bx:=st.bx++[⟨none,t,zs,st.ct,true,false,false⟩],mv:=true,ct:=st.ct+1}) ⟨rfl,ic _,fun _ _ _ h _=>h,fun i b' hb ho hs=>?_,fun i b hb=>?_,CL⟩ (Ext.put _ _ _)
 ·dsimp only at hb;rw[jG]at hb;split at hb
  ·simp only[aJ]at hb;subst hb;dsimp only at hs;omega
  ·exact⟨b',hb,ho,rfl,rfl,rfl,fun _ h=>h⟩
 ·exact⟨b,by dsimp only;rw[jG,if_neg (by have:=pB hb;omega)];exact hb,rfl,rfl,fun _ h=>h⟩
theorem Rep.Cj (hR:Rep β st a w) {d:Option Tmp} {t:TypeId} {zs:List SV} {b:Nat} (h1:Jp st.bx.length st.fr=true) (h2:FG st.bx.length st.bx=true) (h3:Qo st.bx.length zs=true)
  (hb:w.heap.size<=b) (hO:Only [] w w1) (hB:Blk w1 b t (bR β zs)) (hdt:xL st.bx st.dt=true):
  Rep (uL β st.bx.length b) (st.Cj d t zs) (a.put d (.pointer (some ⟨b,0,none⟩))) w1:=by
 have pb:uL β st.bx.length b st.bx.length=b:=by unfold uL;rw[if_pos rfl]
 have bJ:∀{i c},cu st.bx i=some c->uL β st.bx.length b i=β i:=fun{i c} h=>by
  unfold uL;rw[if_neg];have:=pB h;omega
 have base:Rep (uL β st.bx.length b) {st with bx:=st.bx++[⟨none,t,zs,st.ct,true,false,false⟩],mv:=true,ct:=st.ct+1} a w1:=by
  refine⟨pz ⟨hR.ok.sz,hR.ok.df,fun i p hl hi=>?_⟩,fun i c hc ho=>?_,fun i j bi bj g1 g2 g3 g4 zy=>?_,?_,fun h=>by cases h⟩
  ·rw[hR.ok.at_ i p hl hi];congr 1;exact iQ (g:=fun j=>!Nat.beq j st.bx.length) xO _ (Bg h1 i p hl)
  ·dsimp only at hc;rw[jG]at hc;split at hc
   ·rename_i he;simp only[aJ]at hc;subst hc;subst he;refine⟨?_,fun k hk=>(by cases hk),fun _=>?_⟩
    ·rw[pb];dsimp only;rw[<-gj (g:=fun j=>!Nat.beq j st.bx.length) (β:=β) (β':=uL β st.bx.length b) xO _ h3];exact hB
    ·rw[pb];exact aX hR.only.size hb
   ·have e:=bJ hc;obtain⟨k1,k2,k3⟩:=hR.bx i c hc ho;refine⟨?_,fun k hk=>by rw[e];exact k2 k hk,fun hk=>by rw[e];exact k3 hk⟩;rw[e,<-gj (g:=fun j=>!Nat.beq j st.bx.length) (β:=β) (β':=uL β st.bx.length b) xO _ (Bh h2 i c hc ho)];exact hO.blk k1 (by simp)
  ·dsimp only at g1 g2;rw[jG]at g1 g2;split at g1
   ·rename_i e1;split at g2
    ·omega
    ·subst e1;rw[pb,bJ g2];have:=(hR.bx j bj g2 g4).blk.lt;omega
   ·split at g2
    ·rename_i e2;subst e2;rw[pb,bJ g1];have:=(hR.bx i bi g1 g3).blk.lt;omega
    ·rw[bJ g1,bJ g2];exact hR.ne i j bi bj g1 g2 g3 g4 zy
  ·have e:st.dt.map (uL β st.bx.length b)=st.dt.map β:=qv fun i hi=>by
    obtain⟨c,hc,_⟩:=rH hdt i hi;exact bJ hc
   show Only (st.dt.map (uL β st.bx.length b)) st.w0 w1;rw[e];exact hR.only.bP hO
 have:=base.put d (.box st.bx.length 0);rw[show val (uL β st.bx.length b) (.box st.bx.length 0)=.pointer (some ⟨b,0,none⟩) by
  show Value.pointer (some ⟨uL β st.bx.length b st.bx.length,0,none⟩)=_;rw[pb]]at this
 exact this
def St.ri (st:St) (i:Nat) (b:gR) (cs:List SV):St:=
 {st with bx:=zo st.bx i {b with cells:=cs,stp:=st.ct,sh:=false},mv:=true,dt:=(bif b.blk.isSome&&!st.dt.elem i then i::st.dt else st.dt),ct:=st.ct+1}
theorem Ext.ri {st:St} {i:Nat} {b:gR} {cs:List SV} (h:cu st.bx i=some b):Ext st (st.ri i b cs):=by
 refine⟨rfl,ic _,fun _ _ _ h _=>h,fun j b' hb ho hs=>?_,fun j c hc=>?_,CL⟩
 ·simp only[St.ri]at hb;rw[iK h]at hb;split at hb
  ·simp only[aJ]at hb;subst hb;dsimp only at hs;omega
  ·exact⟨b',hb,ho,rfl,rfl,rfl,fun _ h=>h⟩
 ·simp only[St.ri];rw[iK h];split
  ·rename_i e;subst e;rw[h]at hc;simp only[aJ]at hc;subst hc;exact⟨_,rfl,rfl,rfl,fun _ h=>h⟩
  ·exact⟨c,hc,rfl,rfl,fun _ h=>h⟩
theorem Rep.ri (hR:Rep β st a w) {i:Nat} {b:gR} {cs:List SV} (h:cu st.bx i=some b) (ho:b.ok=true) (hO:Only [β i] w w1) (hB:Blk w1 (β i) b.ty (bR β cs)):Rep β (st.ri i b cs) a w1:=by
 have hk:=hR.bx i b h ho;refine⟨hR.fr,fun j c hc qx=>?_,fun j l bj bl g1 g2 g3 g4 zy=>?_,?_,fun h=>by cases h⟩
 ·simp only[St.ri]at hc;rw[iK h]at hc;split at hc
  ·rename_i e;subst e;simp only[aJ]at hc;subst hc;exact⟨hB,hk.at_,hk.new⟩
  ·rename_i gf;obtain⟨k1,k2,k3⟩:=hR.bx j c hc qx;exact⟨hO.blk k1 (by simpa using hR.ne j i c b hc h qx ho gf),k2,k3⟩
 ·simp only[St.ri]at g1 g2;rw[iK h]at g1 g2;have key:∀{j c},(if j=i then some {b with cells:=cs,stp:=st.ct,sh:=false}else cu st.bx j)=some c->c.ok=true->∃c',cu st.bx j=some c'/\c'.ok=true:=fun{j c} g hc=>by
   split at g
   ·rename_i e;subst e;exact⟨b,h,ho⟩
   ·exact⟨c,g,hc⟩
  obtain⟨c1,e1,e2⟩:=key g1 g3;obtain⟨c2,f1,f2⟩:=key g2 g4;exact hR.ne j l c1 c2 e1 f1 e2 f2 zy
 ·show Only ((bif b.blk.isSome&&!st.dt.elem i then i::st.dt else st.dt).map β) st.w0 w1;cases hb:(b.blk.isSome&&!st.dt.elem i)with
  | true=>exact hR.only.cons hO
  | false=>
   simp only[oy,ga]at hb;rcases hb with hb | hb
   ·refine hR.only.new hO (hk.new ?_);cases hn:b.blk with
    | none=>rfl
    | some k=>rw[hn]at hb;cases hb
   ·refine hR.only.mem hO (jQ.2 ⟨i,?_,rfl⟩);simpa using hb
structure Flg (l l':List gR):Prop where
 fw:∀i b,cu l' i=some b->∃c,cu l i=some c/\c.blk=b.blk/\c.ty=b.ty/\c.cells=b.cells/\c.stp=b.stp/\c.ok=b.ok
 bw:∀i b,cu l i=some b->∃c,cu l' i=some c/\c.ty=b.ty/\c.ok=b.ok/\∀k,b.blk=some k->c.blk=some k
theorem Flg.refl (l:List gR):Flg l l:=⟨fun i b h=>⟨b,h,rfl,rfl,rfl,rfl,rfl⟩,Lh⟩
theorem Flg.trans {l m n:List gR} (h:Flg l m) (k:Flg m n):Flg l n:=⟨fun i b hb=>by
 obtain⟨c,c1,c2,c3,c4,c5,c6⟩:=k.fw i b hb;obtain⟨d,d1,d2,d3,d4,d5,d6⟩:=h.fw i c c1;exact⟨d,d1,d2.trans c2,d3.trans c3,d4.trans c4,d5.trans c5,d6.trans c6⟩,fun i b hb=>by
 obtain⟨c,c1,c2,c3,c4⟩:=h.bw i b hb;obtain⟨d,d1,d2,d3,d4⟩:=k.bw i c c1;exact⟨d,d1,d2.trans c2,d3.trans c3,fun m hm=>d4 m (c4 m hm)⟩⟩
theorem Ext.flg {l':List gR} (h:Flg st.bx l'):Ext st {st with bx:=l'}:=⟨rfl,aK _,fun _ _ _ h _=>h,fun i b' hb ho _=>by
 obtain⟨c,c1,c2,c3,c4,c5,c6⟩:=h.fw i b' hb;exact⟨c,c1,c6.trans ho,c4,c3,c5,fun k hk=>by rw[<-c2];exact hk⟩,h.bw,CL⟩
theorem Rep.flg {l':List gR} (hR:Rep β st a w) (h:Flg st.bx l'):Rep β {st with bx:=l'} a w:=by
 refine⟨hR.fr,fun i b hb ho=>?_,fun i j bi bj g1 g2 g3 g4 zy=>?_,hR.only,hR.still⟩
 ·obtain⟨c,c1,c2,c3,c4,c5,c6⟩:=h.fw i b hb;obtain⟨k1,k2,k3⟩:=hR.bx i c c1 (c6.trans ho);exact⟨by rw[<-c3,<-c4];exact k1,fun k hk=>k2 k (c2.trans hk),fun hk=>k3 (c2.trans hk)⟩
 ·obtain⟨c,c1,_,_,_,_,c6⟩:=h.fw i bi g1;obtain⟨d,d1,_,_,_,_,d6⟩:=h.fw j bj g2;exact hR.ne i j c d c1 d1 (c6.trans g3) (d6.trans g4) zy
def Sn:SV->List Nat
 | .box i _=>[i]
 | .fn _ fs cs=>Sn fs++Sn cs
 | .agg l=>Sn l
 | .tup l=>Sn l
 | .c h t=>Sn h++Sn t
 | _=>[]
def Jq:Nat->List Nat->List gR->List gR
 | 0,_,bx=>bx
 | _+1,[],bx=>bx
 | f+1,i::r,bx=>match cu bx i with
  | some b=>bif b.esc then Jq f r bx else Jq f (flat Sn b.cells++r) (zo bx i {b with esc:=true,sh:=false})
  | none=>Jq f r bx
theorem qD:∀(f:Nat) (l:List Nat) (bx:List gR),Flg bx (Jq f l bx)
 | 0,_,bx=>Flg.refl _
 | _+1,[],bx=>Flg.refl _
 | f+1,i::r,bx=>by
  unfold Jq;split
  ·rename_i b hb;cases he:b.esc with
   | true=>exact qD f r bx
   | false=>
    refine Flg.trans ⟨fun j c hc=>?_,fun j c hc=>?_⟩ (qD f _ _);rotate_left
    ·rw[iK hb];split
     ·rename_i e;subst e;rw[hb]at hc;simp only[aJ]at hc;subst hc;exact⟨_,rfl,rfl,rfl,fun _ h=>h⟩
     ·exact⟨c,hc,rfl,rfl,fun _ h=>h⟩
    rw[iK hb]at hc;split at hc
    ·rename_i e;subst e;simp only[aJ]at hc;subst hc;exact⟨b,hb,rfl,rfl,rfl,rfl,rfl⟩
    ·exact⟨c,hc,rfl,rfl,rfl,rfl,rfl⟩
  ·exact qD f r bx
def St.esc (st:St) (l:List SV):St:={st with bx:=Jq 1000 (flat Sn l) st.bx}
theorem Ext.esc (st:St) (l:List SV):Ext st (st.esc l):=Ext.flg (qD _ _ _)
theorem Rep.esc (hR:Rep β st a w) (l:List SV):Rep β (st.esc l) a w:=hR.flg (qD _ _ _)
end
def zc (P:Program) (t:TypeId):Option (List SV):=match P.info? t with
 | some i=>(match i.zero with
  | some z=>FB z.cells.toList
  | none=>none)
 | none=>none
theorem So {P:Program} {t:TypeId} {zs:List SV} (h:zc P t=some zs) (w:World):∃z,(zeroValue t).run P w=.ok z w/\∀β,z.cells=(bR β zs).toArray:=by
 unfold zc at h;split at h
 ·rename_i i hi;split at h
  ·rename_i z hz;exact⟨z,by simp[zeroValue,typeInfo,hi,hz],fun β=>by rw[wO β h]⟩
  ·cases h
 ·cases h
def XR (st:St) (zs:List SV):Bool:=Jp st.bx.length st.fr&&FG st.bx.length st.bx&&Qo st.bx.length zs&&xL st.bx st.dt
def oE:List gR->Bool
 | []=>true
 | b::r=>(!b.ok||b.blk.isSome)&&oE r
theorem tX:∀{l:List gR},oE l=true->∀i b,cu l i=some b->b.ok=true->b.blk.isSome=true
 | c::r,h,0,b,hb,ho=>by
  simp only[oE,aE,bS,bX]at h;simp only[cu,aJ]at hb;subst hb;rcases h.1 with h1 | h1
  ·rw[ho]at h1;cases h1
  ·exact h1
 | c::r,h,i+1,b,hb,ho=>by
  simp only[oE,aE]at h;exact tX h.2 i b hb ho
def Y6 (bk:Nat):List gR->Prop->Prop
 | [],p=>p
 | b::r,p=>bif b.ok then b.blk.getD 0≠bk/\Y6 bk r p else Y6 bk r p
theorem FH {bk:Nat}:∀{l:List gR} {p:Prop},Y6 bk l p->p/\∀i b,cu l i=some b->b.ok=true->b.blk.getD 0≠bk
 | [],p,h=>⟨h,fun i b hb=>by cases hb⟩
 | c::r,p,h=>by
  unfold Y6 at h;rcases lO h with⟨hc,h⟩ | ⟨hc,h⟩
  ·obtain⟨h1,h2⟩:=h;obtain⟨h3,h4⟩:=FH h2;refine⟨h3,fun i b hb ho=>?_⟩;cases i with
   | zero=>simp only[cu,aJ]at hb;subst hb;exact h1
   | succ i=>exact h4 i b hb ho
  ·obtain⟨h3,h4⟩:=FH h;refine⟨h3,fun i b hb ho=>?_⟩;cases i with
   | zero=>simp only[cu,aJ]at hb;subst hb;rw[hc]at ho;cases ho
   | succ i=>exact h4 i b hb ho
def sR (esc:Bool):List gR->List Nat
 | []=>[]
 | b::r=>bif b.ok&&(esc||!b.esc)then b.blk.getD 0::sR esc r else sR esc r
theorem mG {esc:Bool}:∀{l:List gR} {i:Nat} {b:gR},cu l i=some b->b.ok=true->(esc||!b.esc)=true->b.blk.getD 0∈sR esc l
 | c::r,0,b,h,ho,he=>by
  simp only[cu,aJ]at h;subst h;simp[sR,ho,he]
 | c::r,i+1,b,h,ho,he=>by
  have:=mG (l:=r) (i:=i) h ho he;simp only[sR];cases(c.ok&&(esc||!c.esc))with
  | true=>simp[this]
  | false=>exact this
def xP (l:List Nat) (w0 w1:World) (p:Prop):Prop:=match l with
 | []=>p
 | _=>aR l w0 w1/\p
theorem qE {l:List Nat} {w0 w1:World} {p:Prop} (h:xP l w0 w1 p):p/\aR l w0 w1:=by
 unfold xP at h;split at h
 ·exact⟨h,La⟩
 ·exact⟨h.2,h.1⟩
def Jr (P:Program) (w1:World) (ct:Nat):List gR->(List gR->Prop)->Prop
 | [],K=>K []
 | b::r,K=>bif b.ok&&b.esc then XP (Pm P 12 b.ty) fun vs=>Blk w1 (b.blk.getD 0) b.ty (bR β0 vs)/\Jr P w1 ct r fun r'=>K ({b with cells:=vs,stp:=ct,sh:=true}::r')
  else Jr P w1 ct r fun r'=>K (b::r')
theorem wP {P:Program} {w1:World} {ct:Nat}:∀{l:List gR} {K:List gR->Prop},Jr P w1 ct l K->∃l',K l'/\(∀i b',cu l' i=some b'->∃b,cu l i=some b/\b'.ok=b.ok/\b'.blk=b.blk/\b'.ty=b.ty/\
  ((b'=b/\(b.ok&&b.esc)=false)∨(b'.stp=ct/\(∀β,bR β b'.cells=bR β0 b'.cells)/\Blk w1 (b.blk.getD 0) b.ty (bR β0 b'.cells))))/\
  ∀i b,cu l i=some b->∃b',cu l' i=some b'/\b'.ty=b.ty/\b'.ok=b.ok/\∀k,b.blk=some k->b'.blk=some k
 | [],K,h=>⟨[],h,fun i b' hb=>(by cases hb),fun i b hb=>(by cases hb)⟩
 | c::r,K,h=>by
  unfold Jr at h;rcases lO h with⟨hc,h⟩ | ⟨hc,h⟩
  ·obtain⟨vs,⟨hB,h⟩,_,oY⟩:=xz h;obtain⟨l',h1,h2,h3⟩:=wP h;refine⟨_,h1,fun i b' hb=>?_,fun i b hb=>?_⟩;rotate_left
   ·cases i with
    | zero=>simp only[cu,aJ]at hb;subst hb;exact⟨_,rfl,rfl,rfl,fun _ h=>h⟩
    | succ i=>exact h3 i b hb
   cases i with
   | zero=>
    simp only[cu,aJ]at hb;subst hb;exact⟨c,rfl,rfl,rfl,rfl,.inr ⟨rfl,fun β=>gj (g:=fun _=>false) (fun i h=>(by cases h)) vs (oY _),hB⟩⟩
   | succ i=>exact h2 i b' hb
  ·obtain⟨l',h1,h2,h3⟩:=wP h;refine⟨_,h1,fun i b' hb=>?_,fun i b hb=>?_⟩;rotate_left
   ·cases i with
    | zero=>simp only[cu,aJ]at hb;subst hb;exact⟨_,rfl,rfl,rfl,fun _ h=>h⟩
    | succ i=>exact h3 i b hb
   cases i with
   | zero=>
    simp only[cu,aJ]at hb;subst hb;exact⟨c,rfl,rfl,rfl,rfl,.inl ⟨rfl,hc⟩⟩
   | succ i=>exact h2 i b' hb
def Y7 (P:Program):List TypeId->(List SV->Prop)->Prop
 | [],K=>K []
 | t::r,K=>XP (Pm P 12 t) fun vs=>Y7 P r fun rs=>K (Li (match P.underlying t with | some d=>lN d | none=>false) vs::rs)
theorem Bi (g:Nat->Bool):∀l,cln g (jU l)=gD g l
 | []=>rfl
 | s::r=>by simp only[jU,cln,gD,Bi g r]
theorem Qp (g:Nat->Bool) (ag:Bool) {l:List SV} (h:gD g l=true):cln g (Li ag l)=true:=by
 cases ag with
 | true=>show cln g (jU l)=true;rw[Bi];exact h
 | false=>
  cases l with
  | nil=>rfl
  | cons s r=>simp only[gD,aE]at h;exact h.1
theorem Bj {P:Program}:∀{ts:List TypeId} {K:List SV->Prop},Y7 P ts K->∃rs,K rs/\∀g,gD g rs=true
 | [],K,h=>⟨[],h,fun _=>rfl⟩
 | t::r,K,h=>by
  obtain⟨vs,h,_,h2⟩:=xz h;obtain⟨rs,h3,h4⟩:=Bj h;exact⟨_,h3,fun g=>by simp only[gD,Qp g _ (h2 g),h4 g,cA]⟩
def qF (rs:List SV):SV:=match rs with
 | [r]=>r
 | rs=>.tup (jU rs)
theorem tY {g:Nat->Bool} {rs:List SV} (h:gD g rs=true):cln g (qF rs)=true:=by
 unfold qF;split
 ·simp only[gD,aE]at h;exact h.1
 ·show cln g (jU _)=true;rw[Bi];exact h
def Bk (P:Program) (t:TypeId):List TypeId:=match P.underlying t with
 | some (.tuple ts)=>ts.toList
 | _=>[t]
def Lu (P:Program) (f:FuncId):Bool:=match P.funcs[f]? with
 | some fn=>!(fn.name== "runtime.NumGoroutine")&&fn.body.isSome
 | none=>false
theorem kg {P:Program} {f:FuncId} (h:Lu P f=true) (args:Array Value) (w:World):(callFunc f args).run P w=.ok (.enter f args) w:=by
 unfold Lu at h;split at h
 ·rename_i fn hf;simp only[aE,bX]at h;have hb:fn.body≠none:=by
   intro hq;rw[hq]at h;cases h.2
  have hn:fn.name≠ "runtime.NumGoroutine" :=by
   intro hq;rw[hq]at h;simp at h
  simp[callFunc,hf,hn,hb]
 ·cases h
def Y8 (P:Program) (f:FuncId):List TypeId:=match P.funcs[f]? with
 | some fn=>fn.resultTypes.toList
 | none=>[]
abbrev XT:=World->World->Prop->Prop
section
variable {P:Program} {β:Nat->Nat} {st:St} {a:Act} {w w1:World}
theorem Rep.next (hR:Rep β st a w) (hm:st.mv=false) (hb:oE st.bx=true) {X6:List gR} {ct':Nat}
  (h:∀i b',cu X6 i=some b'->b'.ok=true->∃b,cu st.bx i=some b/\b.ok=true/\b'.blk=b.blk/\Blk w1 (β i) b'.ty (bR β b'.cells)):Rep β {st with bx:=X6,w0:=w1,ct:=ct'} a w1:=by
 have key:∀i b,cu st.bx i=some b->b.ok=true->b.blk=some (β i):=fun i b h1 h2=>by
  have:=tX hb i b h1 h2;cases hk:b.blk with
  | none=>rw[hk]at this;cases this
  | some k=>rw[(hR.bx i b h1 h2).at_ k hk]
 refine⟨hR.fr,fun i b' ml ho=>?_,fun i j bi bj g1 g2 g3 g4 zy=>?_,Only.refl _ _,fun _=>rfl⟩
 ·obtain⟨b,h1,h2,h3,h4⟩:=h i b' ml ho;exact⟨h4,fun k hk=>by rw[h3,key i b h1 h2]at hk;simpa using hk,fun hk=>by rw[h3,key i b h1 h2]at hk;cases hk⟩
 ·obtain⟨b,h1,h2,_⟩:=h i bi g1 g3;obtain⟨c,k1,k2,_⟩:=h j bj g2 g4;exact hR.ne i j b c h1 k1 h2 k2 zy
theorem Rep.Kj (hR:Rep β st a w) (hb:oE st.bx=true) {i:Nat} {b:gR} (h1:cu st.bx i=some b) (h2:b.ok=true):b.blk.getD 0=β i:=by
 have:=tX hb i b h1 h2;cases hk:b.blk with
 | none=>rw[hk]at this;cases this
 | some k=>rw[(hR.bx i b h1 h2).at_ k hk];rfl
def He (P:Program) (X:XT) (st:St) (d:Option Tmp) (Cq:List TypeId) (f:FuncId) (args:List SV) (nr:List Value) (K:St->Prop):Prop:=
 bif gD st.Gw args&&oE st.bx then
  Calls P f (bR st.bl args++nr).toArray st.w0 fun e w1=>Y7 P Cq fun rs=>e=.returned (val β0 (qF rs))/\
   xP (sR false st.bx) st.w0 w1 (Jr P w1 st.ct st.bx fun bx=>X st.w0 w1 (K (St.put {st with bx:=bx,w0:=w1,ct:=st.ct+1} d (qF rs))))
 else False
theorem Lv {X:XT} {E:World->World->Prop} (hX:∀w0 w1 p,X w0 w1 p->p/\E w0 w1) {d:Option Tmp} {Cq:List TypeId} {f:FuncId} {args:List SV} {nr:List Value} {K:St->Prop} (h:He P X st d Cq f args nr K) (hm:st.mv=false) (hR:Rep β st a w):
  Calls P f (bR β args++nr).toArray w fun e w'=>∃v,e=.returned v/\∃ch,K ch/\Ext st ch/\E w w'/\Rep β ch (a.put d v) w':=by
 unfold He at h;obtain⟨h0,h⟩:=cU h;simp only[aE]at h0;rw[hR.rh h0.1,<-hR.still hm]at h;refine h.mono ?_;rintro e w1 h;obtain⟨rs,⟨rfl,h1⟩,oY⟩:=Bj h;clear h;obtain⟨h2,hS⟩:=qE h1;obtain⟨X6,h3,hb,Ff⟩:=wP h2;obtain⟨h,hE⟩:=hX _ _ _ h3;have ev:val β0 (qF rs)=val β (qF rs):=iQ (g:=fun _=>false) (fun i h=>(by cases h)) _ (tY (oY _));refine⟨_,rfl,_,h,?_,hE,?_⟩
 ·refine Ext.trans (t:={st with bx:=X6,w0:=w1,ct:=st.ct+1}) ⟨rfl,ic _,fun _ _ _ h _=>h,fun i b' ml ho hs=>?_,Ff,CL⟩ (Ext.put _ _ _);obtain⟨b,h1,h2,h3,h4,h5⟩:=hb i b' ml;rcases h5 with⟨rfl,_⟩ | ⟨h5,_⟩
  ·exact⟨b',h1,ho,rfl,rfl,rfl,fun _ h=>h⟩
  ·omega
 ·rw[ev];refine Rep.put (Rep.next hR hm h0.2 fun i b' ml ho=>?_) _ _;obtain⟨b,h1,h2,h3,h4,h5⟩:=hb i b' ml;have CO:b.ok=true:=by rw[<-h2];exact ho
  refine⟨b,h1,CO,h3,?_⟩;have eD:=hR.Kj h0.2 h1 CO;rcases h5 with⟨rfl,h6⟩ | ⟨_,h6,h7⟩
  ·have hk:=(hR.bx i b' h1 CO).blk;have uH:=mG (esc:=false) h1 CO (by rw[CO]at h6;simpa using h6);rw[eD]at uH;exact(hS _ uH).trans hk
  ·rw[h4,h6 β,<-eD];exact h7
def zq (a b:List Value):List Value:=a++b
def Hf (P:Program) (X:XT) (st:St) (d:Option Tmp) (Cq:List TypeId) (f:FuncId) (fst:List Value) (args:List SV) (nr:List Value) (K:St->Prop):Prop:=
 bif gD st.Gw args&&oE st.bx then
  Calls P f (zq (zq fst (bR st.bl args)) nr).toArray st.w0 fun e w1=>Y7 P Cq fun rs=>e=.returned (val β0 (qF rs))/\
   xP (sR false st.bx) st.w0 w1 (Jr P w1 st.ct st.bx fun bx=>X st.w0 w1 (K (St.put {st with bx:=bx,w0:=w1,ct:=st.ct+1} d (qF rs))))
 else False
theorem Lw {X:XT} {E:World->World->Prop} (hX:∀w0 w1 p,X w0 w1 p->p/\E w0 w1) {d:Option Tmp} {Cq:List TypeId} {f:FuncId} {fst:List Value} {args:List SV} {nr:List Value} {K:St->Prop} (h:Hf P X st d Cq f fst args nr K) (hm:st.mv=false) (hR:Rep β st a w):
  Calls P f (zq (zq fst (bR β args)) nr).toArray w fun e w'=>∃v,e=.returned v/\∃ch,K ch/\Ext st ch/\E w w'/\Rep β ch (a.put d v) w':=by
 unfold Hf at h;obtain⟨h0,h⟩:=cU h;simp only[aE]at h0;rw[hR.rh h0.1,<-hR.still hm]at h;refine h.mono ?_;rintro e w1 h;obtain⟨rs,⟨rfl,h1⟩,oY⟩:=Bj h;clear h;obtain⟨h2,hS⟩:=qE h1;obtain⟨X6,h3,hb,Ff⟩:=wP h2;obtain⟨h,hE⟩:=hX _ _ _ h3;have ev:val β0 (qF rs)=val β (qF rs):=iQ (g:=fun _=>false) (fun i h=>(by cases h)) _ (tY (oY _));refine⟨_,rfl,_,h,?_,hE,?_⟩
 ·refine Ext.trans (t:={st with bx:=X6,w0:=w1,ct:=st.ct+1}) ⟨rfl,ic _,fun _ _ _ h _=>h,fun i b' ml ho hs=>?_,Ff,CL⟩ (Ext.put _ _ _);obtain⟨b,h1,h2,h3,h4,h5⟩:=hb i b' ml;rcases h5 with⟨rfl,_⟩ | ⟨h5,_⟩
  ·exact⟨b',h1,ho,rfl,rfl,rfl,fun _ h=>h⟩
  ·omega
 ·rw[ev];refine Rep.put (Rep.next hR hm h0.2 fun i b' ml ho=>?_) _ _;obtain⟨b,h1,h2,h3,h4,h5⟩:=hb i b' ml;have CO:b.ok=true:=by rw[<-h2];exact ho
  refine⟨b,h1,CO,h3,?_⟩;have eD:=hR.Kj h0.2 h1 CO;rcases h5 with⟨rfl,h6⟩ | ⟨_,h6,h7⟩
  ·have hk:=(hR.bx i b' h1 CO).blk;have uH:=mG (esc:=false) h1 CO (by rw[CO]at h6;simpa using h6);rw[eD]at uH;exact(hS _ uH).trans hk
  ·rw[h4,h6 β,<-eD];exact h7
def pC (P:Program) (X:XT) (st:St) (d:Option Tmp) (Cq:List TypeId) (args:List SV) (run:List Value->Sem Value) (K:St->Prop):Prop:=
 bif gD st.Gw args&&oE st.bx then
  Y7 P Cq fun rs=>∃w1:World,(run (bR st.bl args)).run P st.w0=.ok (val β0 (qF rs)) w1/\xP (sR true st.bx) st.w0 w1 (X st.w0 w1 (K (St.put {st with w0:=w1} d (qF rs))))
 else False
theorem Hg {X:XT} {E:World->World->Prop} (hX:∀w0 w1 p,X w0 w1 p->p/\E w0 w1) {d:Option Tmp} {Cq:List TypeId} {args:List SV} {run:List Value->Sem Value} {K:St->Prop} (h:pC P X st d Cq args run K) (hm:st.mv=false) (hR:Rep β st a w):
  ∃v w',(run (bR β args)).run P w=.ok v w'/\∃ch,K ch/\Ext st ch/\E w w'/\Rep β ch (a.put d v) w':=by
 unfold pC at h;obtain⟨h0,h⟩:=cU h;simp only[aE]at h0;rw[hR.rh h0.1,<-hR.still hm]at h;obtain⟨rs,⟨w1,hr,h⟩,oY⟩:=Bj h;obtain⟨h,hS⟩:=qE h;obtain⟨h,hE⟩:=hX _ _ _ h;have ev:val β0 (qF rs)=val β (qF rs):=iQ (g:=fun _=>false) (fun i h=>(by cases h)) _ (tY (oY _));refine⟨_,w1,hr,_,h,?_,hE,?_⟩
 ·refine Ext.trans (t:={st with w0:=w1}) ⟨rfl,aK _,fun _ _ _ h _=>h,fun i b' ml ho hs=>⟨b',ml,ho,rfl,rfl,rfl,fun _ h=>h⟩,Lh,CL⟩ (Ext.put _ _ _)
 ·rw[ev];refine Rep.put (Rep.next (ct':=st.ct) hR hm h0.2 fun i b' ml ho=>⟨b',ml,ho,rfl,?_⟩) _ _;have eD:=hR.Kj h0.2 ml ho;have uH:=mG (esc:=true) ml ho rfl;rw[eD]at uH;exact(hS _ uH).trans (hR.bx i b' ml ho).blk
def Js (P:Program) (X:XT) (st:St) (d:Option Tmp) (args:List SV) (run:List Value->Sem Value) (rs:SV) (K:St->Prop):Prop:=
 bif gD st.Gw args&&oE st.bx&&cln (fun _=>false) rs then
  ∃w1:World,(run (bR st.bl args)).run P st.w0=.ok (val β0 rs) w1/\xP (sR true st.bx) st.w0 w1 (X st.w0 w1 (K (St.put {st with w0:=w1} d rs)))
 else False
theorem wQ {X:XT} {E:World->World->Prop} (hX:∀w0 w1 p,X w0 w1 p->p/\E w0 w1) {d:Option Tmp} {args:List SV} {run:List Value->Sem Value} {rs:SV} {K:St->Prop} (h:Js P X st d args run rs K) (hm:st.mv=false) (hR:Rep β st a w):
  ∃v w',(run (bR β args)).run P w=.ok v w'/\∃ch,K ch/\Ext st ch/\E w w'/\Rep β ch (a.put d v) w':=by
 unfold Js at h;obtain⟨h0,h⟩:=cU h;simp only[aE]at h0;rw[hR.rh h0.1.1,<-hR.still hm]at h;obtain⟨w1,hr,h⟩:=h;obtain⟨h,hS⟩:=qE h;obtain⟨h,hE⟩:=hX _ _ _ h;have ev:val β0 rs=val β rs:=iQ (g:=fun _=>false) (fun i h=>(by cases h)) _ h0.2;refine⟨_,w1,hr,_,h,?_,hE,?_⟩
 ·refine Ext.trans (t:={st with w0:=w1}) ⟨rfl,aK _,fun _ _ _ h _=>h,fun i b' ml ho hs=>⟨b',ml,ho,rfl,rfl,rfl,fun _ h=>h⟩,Lh,CL⟩ (Ext.put _ _ _)
 ·rw[ev];refine Rep.put (Rep.next (ct':=st.ct) hR hm h0.1.2 fun i b' ml ho=>⟨b',ml,ho,rfl,?_⟩) _ _;have eD:=hR.Kj h0.1.2 ml ho;have uH:=mG (esc:=true) ml ho rfl;rw[eD]at uH;exact(hS _ uH).trans (hR.bx i b' ml ho).blk
def Ly (P:Program) (X:XT) (st:St) (d:Option Tmp) (args:List SV) (run:List Value->Sem Unit) (K:St->Prop):Prop:=
 bif gD st.Gw args&&oE st.bx then
  ∃w1:World,(run (bR st.bl args)).run P st.w0=.ok () w1/\xP (sR true st.bx) st.w0 w1 (X st.w0 w1 (K (St.put {st with w0:=w1} d .un)))
 else False
theorem Qq {X:XT} {E:World->World->Prop} (hX:∀w0 w1 p,X w0 w1 p->p/\E w0 w1) {d:Option Tmp} {args:List SV} {run:List Value->Sem Unit} {K:St->Prop} (h:Ly P X st d args run K) (hm:st.mv=false) (hR:Rep β st a w):
  ∃w',(run (bR β args)).run P w=.ok () w'/\∃ch,K ch/\Ext st ch/\E w w'/\Rep β ch (a.put d undef) w':=by
 unfold Ly at h;obtain⟨h0,h⟩:=cU h;simp only[aE]at h0;rw[hR.rh h0.1,<-hR.still hm]at h;obtain⟨w1,hr,h⟩:=h;obtain⟨h,hS⟩:=qE h;obtain⟨h,hE⟩:=hX _ _ _ h;refine⟨w1,hr,_,h,?_,hE,?_⟩
 ·refine Ext.trans (t:={st with w0:=w1}) ⟨rfl,aK _,fun _ _ _ h _=>h,fun i b' ml ho hs=>⟨b',ml,ho,rfl,rfl,rfl,fun _ h=>h⟩,Lh,CL⟩ (Ext.put _ _ _)
 ·refine Rep.put (v:=.un) (Rep.next (ct':=st.ct) hR hm h0.2 fun i b' ml ho=>⟨b',ml,ho,rfl,?_⟩) _;have eD:=hR.Kj h0.2 ml ho;have uH:=mG (esc:=true) ml ho rfl;rw[eD]at uH;exact(hS _ uH).trans (hR.bx i b' ml ho).blk
end
end Go.Kt.V
