import Derived.WalkKit
import Derived.Deep.Draws
import Derived.Deep.LoopGhost
import Derived.Deep.Quiet
import Derived.OrdersHeld
import Derived.Laws.Small
import Derived.Laws.AppendOwn
import Derived.Great.BuildSlice
import Derived.Laws.MakeOwn
import Derived.MapKept
import Derived.Lib.Strings
import Derived.KernelRfl
import Derived.ChangeKeysEq
import Derived.Laws.Tables
import Derived.Defers
import Derived.Test.YtmhoiicofhlgbaaGreatDoorRows
import Derived.Test.YtmhoiicofhlgbaaGreatDoorProg
import Derived.Lib.ParseIntB
import Derived.Lib.Bytealg
import Derived.Lib.ItoaLen
import Derived.Lib.AtoiErrMem
import Derived.Lib.Builder
import Derived.Lib.AppendStr
import Derived.Lib.UnsafeStr
import Derived.Lib.Join
import Derived.Lib.Repeat
import Derived.WideKeyElems
import Derived.Sort.KeysCollected
import Derived.ProofKit
import Derived.OpenShut
import Derived.SizedLaws
import Derived.Deep.Slices
import Derived.JoinedCond
import Derived.Deep.CondSized
set_option linter.defProp false
def ab:=@Bool.and_eq_true
def ae:=@List.mem_singleton
def ah:=@List.length_append
def ai:=@Option.some.injEq
def aj:=@of_decide_eq_true
def ak:=@List.mem_cons
def ao:=@List.length_cons
def aq:=@Nat.le_refl
def ar:=@of_decide_eq_false
def au:=@List.getElem?_eq_some_iff
def av:=@List.append_assoc
def aw:=@List.not_mem_nil
def ay:=@Nat.le_trans
def az:=@Int.toNat_natCast
def aE:=@List.mem_of_getElem?
def aF:=@Nat.zero_le
def aG:=@Int.natCast_nonneg
def aI:=@List.map_cons
def aJ:=@Nat.zero_add
def aK:=@decide_eq_false
def aL:=@List.length_singleton
def aM:=@List.length_nil
def aN:=@List.append_nil
def aO:=@List.take_of_length_le
def aP:=@Decidable.byContradiction
def aQ:=@List.length_map
def aR:=@List.getElem?_append_left
def aU:=@congrArg
def aV:=@List.nil_append
def aW:=@List.eq_nil_of_length_eq_zero
def aX:=@Nat.eq_of_beq_eq_true
def aY:=@List.take_add_one
def aZ:=@decide_eq_true
def bc:=@List.cons_append
def bd:=@List.sum_cons
def bf:=@or_false
def bh:=@List.getElem?_append_right
def bm:=@List.getElem?_cons_zero
def bn:=@List.getElem?_eq_getElem
def br:=@Bool.eq_iff_iff
def bB:=@decide_eq_true_eq
def bC:=@Nat.lt_of_lt_of_le
def bD:=@List.getElem?_map
def bG:=@List.append_eq_nil_iff
def bJ:=@List.mem_append
def bK:=@List.length_drop
def bP:=@Option.map_some
def bQ:=@List.getElem?_cons_succ
def bS:=@List.mem_cons_of_mem
def bT:=@List.flatten_cons
def bZ:=@List.getElem?_eq_none
def ca:=@Nat.le_of_ble_eq_true
def cb:=@Nat.add_assoc
def ch:=@Bool.not_eq_true'
def ck:=@List.length_take
def cn:=@List.takeWhile_cons
def cp:=@Bool.or_eq_true
def cq:=@List.map_append
def cr:=@Prod.mk.injEq
def cB:=@Except.ok.injEq
def cJ:=@List.all_eq_true
def cQ:=@List.take_zero
def cR:=@List.mem_cons_self
def cT:=@Nat.add_sub_cancel_left
def cY:=@Option.map_eq_some_iff
def da:=@List.singleton_append
def db:=@Nat.add_zero
def dc:=@List.filter_nil
def dk:=@Bool.and_true
def dl:=@Bool.true_and
def du:=@List.drop_of_length_le
def dv:=@decide_eq_true_iff
def dC:=@List.take_append_drop
def dE:=@decide_eq_false_iff_not
def dG:=@Bool.false_eq_true
def dH:=@Nat.add_mul
def dI:=@Bool.false_and
def dP:=@Array.getElem?_eq_none
def dS:=@List.toList_toArray
def dT:=@Int.toNat_of_nonneg
def dY:=@cond_true
def eb:=@Option.isSome_iff_exists
def ec:=@Nat.add_le_add
def ep:=@List.map_nil
def eF:=@List.getElem?_of_mem
def eL:=@List.drop_zero
def eM:=@List.Sublist.refl
def fI:=@if_false
def fJ:=@List.take_succ_cons
def fK:=@Array.length_toList
def fM:=@List.mem_map
def fN:=@List.map_map
def fO:=@List.sum_nil
def fS:=@Nat.le_succ
def gA:=@List.head?_cons
def gI:=@Nat.mul_le_mul_right
def gJ:=@List.ext_getElem?
def gK:=@Bool.or_eq_false_iff
def gL:=@Bool.eq_false_iff
def gM:=@Decidable.not_not
def gY:=@List.all_cons
def im:=@List.drop_succ_cons
def iy:=@Option.getD_some
def iH:=@List.mem_eraseIdx_iff_getElem
def iR:=@beq_iff_eq
def iT:=@List.getElem?_drop
def iU:=@Nat.add_comm
def iV:=@List.filter_append
def jq:=@List.eraseIdx_sublist
def jr:=@List.size_toArray
def jL:=@Array.getElem?_eq_some_iff
def jM:=@List.elem_cons
def jQ:=@Int.le_refl
def ki:=@Nat.zero_mul
def kj:=@Option.bind_some
def kx:=@List.pairwise_iff_getElem
def ky:=@List.flatMap_append
def kQ:=@List.map_take
def lq:=@cond_false
def me:=@Nat.lt_or_ge
def mf:=@List.getElem?_set
def mg:=@Array.toList_push
def mh:=@Bool.or_true
def mj:=@List.drop_drop
def mU:=@Array.getElem?_setIfInBounds_ne
def nc:=@List.getElem?_toArray
def nf:=@List.take_eq_take_iff
def nj:=@List.contains_iff_mem
def nV:=@List.map_toArray
def nW:=@Bool.not_eq_true
def nX:=@List.filter_cons
def nZ:=@List.map_drop
def oW:=@Option.map_none
def oX:=@List.length_set
def oY:=@List.headD_cons
def oZ:=@List.map_congr_left
def o8:=@List.length_pos_iff
def qm:=@Nat.sub_zero
def qn:=@Nat.sub_self
def qY:=@List.getElem?_take
def qZ:=@true_and
def ra:=@Nat.lt_or_gt_of_ne
def rc:=@Option.toList_some
def re:=@Bool.and_false
def rW:=@List.mem_or_eq_of_mem_set
def rX:=@List.drop_eq_getElem_cons
def rY:=@Nat.mul_one
def rZ:=@List.flatMap_cons
def sd:=@Nat.lt_succ_of_le
def uJ:=@Nat.le_max_right
def uK:=@List.flatMap_nil
def uL:=@List.flatMap_eq_nil_iff
def wo:=@List.cons.injEq
def wq:=@List.nodup_cons
def wu:=@Nat.le_max_left
def wv:=@List.all_append
def yr:=@List.set_append_right
def yt:=@Bool.and_eq_false_iff
def yu:=@Array.getElem?_modify
def yP:=@List.getElem?_set_ne
def yQ:=@Bool.and_assoc
def yR:=@List.mem_append_left
def BD:=@List.flatten_append
def Ed:=@List.set_cons_zero
def Ee:=@Bool.not_eq_false'
def Gb:=@List.foldl_append
def Gc:=@Nat.le_of_eq
def JK:=@Nat.le_of_not_lt
def JL:=@Array.toList_inj
def JM:=@Nat.succ_le_succ
def JN:=@List.eq_nil_iff_forall_not_mem
def JO:=@Nat.lt_succ_self
def JP:=@List.map_id
def Kg:=@List.take_append_of_le_length
def Oi:=@UInt8.toNat_inj
def O2:=@List.take_length_add_append
def O3:=@List.drop_length_add_append
set_option linter.unusedSectionVars false
namespace Go.Kt
open Go Go.RowKit
structure Sl where
 a:Option Addr
 n:Nat
 c:Nat
@[reducible] def Sl.v (s:Sl):Value:=.slice s.a s.n s.c
@[reducible] def Sl.nil:Sl:=⟨none,0,0⟩
def Sl.cut (s:Sl) (l h m size:Nat):Sl:=⟨if m=l then s.a else s.a.map (·.add (l*size)),h-l,m-l⟩
def cD (s:Sl) (i:Int) (size:Nat) (ad:Addr):Prop:=∃base,s.a=some base/\0<=i/\i<s.n/\ad=base.add (i.toNat*size)
structure Only (bs:List Nat) (w w':World):Prop where
 os:w'.os=w.os
 tape:w'.tape=w.tape
 output:w'.output=w.output
 size:w.heap.size<=w'.heap.size
 block:∀k,k<w.heap.size->k∉bs->w'.heap[k]? =w.heap[k]?
def Blk (w:World) (b:Nat) (t:TypeId) (cs:List Value):Prop:=w.heap[b]? =some (.cells cs.toArray t (0,0))
def aB (w:World) (a:Addr) (cs:List Value):Prop:=∀j v,cs[j]? =some v->w.cell? (a.add j)=some v
def aD (bs:List Nat) (w w':World):Prop:=∀b,b∈bs->w'.heap[b]? =w.heap[b]?
def eN (b:UInt8):Value:=.int .u8 (b.toNat:Int)
def se (w:World) (s:Sl) (l:List UInt8):Prop:=s.n=l.length/\(l≠[]->∃ad,s.a=some ad/\aB w ad (l.map eN))
def Sl.blk (s:Sl):Nat:=match s.a with | some a=>a.block | none=>0
def bF (cs:List Value) (o:Nat) (vs:List Value):List Value:=cs.take o++vs++cs.drop (o+vs.length)
section
variable {w w' rQ:World} {bs bs':List Nat} {b:Nat} {t:TypeId} {cs:List Value}
theorem Blk.lt (h:Blk w b t cs):b<w.heap.size:=(jL.1 h).1
theorem Only.refl (bs:List Nat) (w:World):Only bs w w:=⟨rfl,rfl,rfl,aq _,fun _ _ _=>rfl⟩
theorem Only.weaken (h:Only bs w w') (hb:∀x,x∈bs->x∈bs'∨w.heap.size<=x):Only bs' w w':=
 ⟨h.os,h.tape,h.output,h.size,fun k hk hn=>h.block k hk fun hm=>by
  rcases hb k hm with h1 | h1
  ·exact hn h1
  ·omega⟩
theorem Only.trans (h:Only bs w w') (k:Only bs' w' rQ) (hb:∀x,x∈bs'->x∈bs∨w.heap.size<=x):Only bs w rQ:=
 ⟨k.os.trans h.os,k.tape.trans h.tape,k.output.trans h.output,ay h.size k.size,fun i hi hn=>
  (k.block i (bC hi h.size) fun hm=>by
   rcases hb i hm with h1 | h1
   ·exact hn h1
   ·omega).trans (h.block i hi hn)⟩
theorem Only.cf (h:Only bs w w') (k:Only [] w' rQ):Only bs w rQ:=h.trans k (by simp)
theorem Only.cons (h:Only bs w w') (k:Only [b] w' rQ):Only (b::bs) w rQ:=
 (h.weaken (bs':=b::bs) fun _ hx=>.inl (bS _ hx)).trans k fun x hx=>.inl (by simp only[ae]at hx;simp[hx])
theorem Only.mem (h:Only bs w w') (k:Only [b] w' rQ) (hb:b∈bs):Only bs w rQ:=h.trans k fun x hx=>.inl (by simp only[ae]at hx;simpa[hx]using hb)
theorem Only.new (h:Only bs w w') (k:Only [b] w' rQ) (hb:w.heap.size<=b):Only bs w rQ:=h.trans k fun x hx=>.inr (by simp only[ae]at hx;simpa[hx]using hb)
theorem Only.blk (h:Only bs w w') (hb:Blk w b t cs) (hn:b∉bs):Blk w' b t cs:=(h.block b hb.lt hn).trans hb
theorem Only.below (h:Only bs w w') {B:Nat} (hB:B<=w.heap.size) (hb:∀x,x∈bs->B<=x):Below B w w':=
 ⟨h.os,h.tape,h.output,h.size,fun k hk=>h.block k (by omega) fun hm=>by have:=hb k hm;omega⟩
theorem Only.tD (h:Below w.heap.size w w'):Only [] w w':=⟨h.os,h.tape,h.output,h.size,fun k hk _=>h.block k hk⟩
theorem Only.drew (w:World):Only [] w w.drew:=⟨rfl,rfl,rfl,aq _,fun _ _ _=>rfl⟩
theorem Only.drewN (w:World) (n:Nat):Only [] w (w.drewN n):=⟨rfl,rfl,rfl,aq _,fun _ _ _=>rfl⟩
theorem Only.alloc (w:World) (o:Obj):Only [] w (w.alloc o):=⟨rfl,rfl,rfl,by simp,fun k hk _=>_root_.Go.heap_alloc_old w o hk⟩
theorem Only.setRow (w:World) (b:Nat) (cs:Array Value):Only [b] w (w.setRow b cs):=⟨rfl,rfl,rfl,by simp,fun k _ hn=>setRow_other w b k cs (by simpa using hn)⟩
theorem Only.same (h:Only bs w w') (hl:∀x,x∈bs'->x<w.heap.size/\x∉bs):aD bs' w w':=fun x hx=>h.block x (hl x hx).1 (hl x hx).2
theorem aD.blk (h:aD bs w w') (hb:Blk w b t cs) (hm:b∈bs):Blk w' b t cs:=(h b hm).trans hb
theorem Blk.alloc (w:World) (t:TypeId) (cs:List Value):Blk (w.alloc (.cells cs.toArray t)) w.heap.size t cs:=heap_alloc_new w _
theorem Blk.setRow (h:Blk w b t cs) (Bn:List Value):Blk (w.setRow b Bn.toArray) b t Bn:=setRow_heap w b _ _ t _ h
theorem Blk.cell (h:Blk w b t cs) (i:Nat):w.cell? ⟨b,i,none⟩=cs[i]? :=by rw[cell_of_row w b i cs.toArray t (0,0) h];simp
theorem Blk.cells (h:Blk w b t cs) (o:Nat) (vs:List Value) (hv:∀j v,vs[j]? =some v->cs[o+j]? =some v):aB w ⟨b,o,none⟩ vs:=fun j v hj=>by
 have agD:(⟨b,o,none⟩:Addr).add j=⟨b,o+j,none⟩:=by unfold Addr.add;split<;>simp_all
 rw[agD,h.cell];exact hv j v hj
theorem Blk.Bh (h:Blk w b t cs) (o:Nat) (vs:List Value) (hv:(cs.drop o).take vs.length=vs):aB w ⟨b,o,none⟩ vs:=h.cells o vs fun j v hj=>by
 rw[<-hv,qY]at hj;split at hj
 ·simpa using hj
 ·cases hj
theorem aB.one {a:Addr} {v:Value} (h:aB w a [v]):w.cell? a=some v:=by have:=h 0 v rfl;simpa[Addr.add]using this
theorem aB.keep {a:Addr} (h:aB w a cs) (hk:w'.heap[a.block]? =w.heap[a.block]?):aB w' a cs:=fun j v hj=>by
 rw[World.cell?_of_block (w:=w) (w':=w') (a:=a.add j)]
 ·exact h j v hj
 ·have:(a.add j).block=a.block:=by unfold Addr.add;split<;>rfl
  rw[this,hk]
theorem aB.lt' {a:Addr} (h:aB w a cs) (hc:cs≠[]):a.block<w.heap.size:=by
 cases cs with
 | nil=>exact absurd rfl hc
 | cons v cs=>
  have h2:=block_lt_of_cell (h 0 v rfl);have e:(a.add 0).block=a.block:=rfl;omega
theorem aB.lt {a:Addr} {v:Value} (h:aB w a (v::cs)):a.block<w.heap.size:=by
 have:=h 0 v rfl;have h2:=block_lt_of_cell this;have e:(a.add 0).block=a.block:=rfl;omega
end
section
variable {P:Program} {ops:Array Oper} {Q:Exit->Act->World->Prop} {rest:List Oper} {a a':Act} {w w':World}
theorem f0 (l:List Value) (ds:List Deferred) (k:Nat) (v:Value):Act.put ⟨l.toArray,ds⟩ (some k) v=⟨(l.set k v).toArray,ds⟩:=by simp[Act.put]
theorem f1 (x:Value) (l:List Value) (v:Value):(x::l).set 0 v=v::l:=rfl
theorem f3 (a:Act) (v:Value):a.put none v=a:=rfl
theorem f2 (x:Value) (l:List Value) (k:Nat) (v:Value):(x::l).set (k+1) v=x::l.set k v:=rfl
def fm:List Oper->Nat->Option Oper
 | [],_=>none
 | v::_,0=>some v
 | _::r,n+1=>fm r n
theorem io:∀(l:List Oper) (n:Nat),fm l n=l[n]?
 | [],_=>rfl
 | _::_,0=>rfl
 | _::r,n+1=>io r n
def Tt:List Value->Nat->Option Value
 | [],_=>none
 | v::_,0=>some v
 | _::r,n+1=>Tt r n
theorem Gd:∀(l:List Value) (n:Nat),Tt l n=l[n]?
 | [],_=>rfl
 | _::_,0=>rfl
 | _::r,n+1=>Gd r n
theorem wt {o oj:Oper} {dQ:List Oper} {l:List Value} {ds:List Deferred} {j d:Nat} {want b r:Bool} (h1:o.guard=some (j,want)) (h2:fm dQ j=some oj) (h3:oj.dst=some d)
  (h4:Tt l d=some (.bool b)) (h5:(b==want)=r):Region.wanted o (yielded dQ.toArray (⟨l.toArray,ds⟩:Act).tmps)=r:=by
 subst h5;rw[io]at h2;rw[Gd]at h4;have e:yielded dQ.toArray (⟨l.toArray,ds⟩:Act).tmps j=some b:=by simp[yielded,h2,h3,h4]
 simp only[Region.wanted,h1,e];cases b<;>cases want<;>rfl
theorem wn {o:Oper} {f:Nat->Option Bool} (h:o.guard=none):Region.wanted o f=true:=by simp[Region.wanted,h]
theorem zO {o:Oper} (v:Value) (hg:Region.wanted o (yielded ops a.tmps)=true)
  (hr:(execOp a.eval o).run P w=.ok (.value v) w') (ha:a.put o.dst v=a') (h:wpList P ops Q rest a' w'):wpList P ops Q (o::rest) a w:=by
 subst ha;unfold wpList;rw[if_pos hg];refine .inl ?_;unfold Oper.wp;rw[hr];exact h
theorem Rh {o:Oper} (hg:Region.wanted o (yielded ops a.tmps)=false) (ha:a.put o.dst undef=a') (h:wpList P ops Q rest a' w):wpList P ops Q (o::rest) a w:=by
 subst ha;unfold wpList;rw[if_neg (by simp[hg])];exact h
theorem zP {dst:Option Tmp} {ty:TypeId} {x:Operand} {t':TypeId} {p:String} {af:Array Edge} {g:Option (Nat×Bool)} {ad:Addr} {v:Value}
  (FJ:(isAgg ty).run P w=.ok false w) (hx:a.eval x=.pointer (some ad)) (hc:w.cell? ad=some v):
  (execOp a.eval ⟨dst,.load ty x,t',p,af,g⟩).run P w=.ok (.value v) w:=by
 simp only[execOp,hx,Instr.loadAt,Instr.sureAddr,Sem.run_bind,Sem.run_pure,Result.andThen_ok,loadVar,FJ,dG,fI,run_load,hc]
theorem qo {dst:Option Tmp} {ty:TypeId} {x:Operand} {t':TypeId} {p:String} {af:Array Edge} {g:Option (Nat×Bool)} {ad:Addr} {cs:List Value} {n:Nat}
  (FJ:(isAgg ty).run P w=.ok true w) (hsz:(sizeOf ty).run P w=.ok n w) (hn:cs.length=n) (hx:a.eval x=.pointer (some ad)) (hc:aB w ad cs):
  (execOp a.eval ⟨dst,.load ty x,t',p,af,g⟩).run P w=.ok (.value (.agg cs.toArray)) w:=by
 have hl:=run_loadCells_list (P:=P) w ad cs hc;rw[hn]at hl;simp only[execOp,hx,Instr.loadAt,Instr.sureAddr,Sem.run_bind,Sem.run_pure,Result.andThen_ok,loadVar,FJ,if_true,hsz,hl]
theorem O4 {dst:Option Tmp} {ty:TypeId} {x y:Operand} {t':TypeId} {p:String} {af:Array Edge} {g:Option (Nat×Bool)} {b o:Nat} {cs vs:List Value} {et:TypeId} {n:Nat}
  (hsz:(sizeOf ty).run P w=.ok n w) (hx:a.eval x=.pointer (some ⟨b,o,none⟩)) (hv:(a.eval y).cells=vs.toArray) (hn:vs.length=n)
  (h1:∀v∈vs,v.oneCell'=true) (hb:Blk w b et cs) (DX:o+vs.length<=cs.length):
  (execOp a.eval ⟨dst,.store ty x y,t',p,af,g⟩).run P w=.ok .skip (w.setRow b (bF cs o vs).toArray):=by
 have oJ:=run_storeCells_at P b o et vs 0 cs.toArray w hb (by simpa using DX) h1;simp only[execOp,hx,Instr.storeAt,Instr.sureAddr,Sem.run_bind,Sem.run_pure,Result.andThen_ok,storeVar,hsz,hv,jr,hn,ne_eq,not_true_eq_false,fI,oJ,bF,db]
theorem O5 {dst:Option Tmp} {ty:TypeId} {t':TypeId} {p:String} {af:Array Edge} {g:Option (Nat×Bool)} {z:Value} {zs:List Value}
  (hz:(zeroValue ty).run P w=.ok z w) (hc:z.cells=zs.toArray):
  (execOp a.eval ⟨dst,.alloc ty,t',p,af,g⟩).run P w=.ok (.value (.pointer (some ⟨w.heap.size,0,none⟩))) (w.alloc (.cells zs.toArray ty)):=by
 simp only[execOp,Instr.alloc,Sem.run_bind,hz,Result.andThen_ok,newVar,newRow,newObj,hc,Sem.run,Sem.run_pure];rfl
theorem Xs {dst:Option Tmp} {ty:TypeId} {x:Operand} {t':TypeId} {p:String} {af:Array Edge} {g:Option (Nat×Bool)} {zs:List Value}
  (hc:(a.eval x).cells=zs.toArray):
  (execOp a.eval ⟨dst,.box ty x,t',p,af,g⟩).run P w=.ok (.value (.pointer (some ⟨w.heap.size,0,none⟩))) (w.alloc (.cells zs.toArray ty)):=by
 simp only[execOp,Instr.box,Sem.run_bind,Result.andThen_ok,newVar,newRow,newObj,hc,Sem.run,Sem.run_pure];rfl
theorem Kh {dst:Option Tmp} {x:Operand} {t':TypeId} {p:String} {af:Array Edge} {g:Option (Nat×Bool)} {ad:Addr} (hx:a.eval x=.pointer (some ad)):
  (execOp a.eval ⟨dst,.nilCheck x,t',p,af,g⟩).run P w=.ok (.value (.pointer (some ad))) w:=by
 simp only[execOp,hx,Sem.run_pure]
theorem Gf {dst:Option Tmp} {s:TypeId} {x:Operand} {k:Nat} {t':TypeId} {p:String} {af:Array Edge} {g:Option (Nat×Bool)} {ad Ox:Addr} {fs:Array Field} {f:Field} {n:Nat}
  (hu:(underlying s).run P w=.ok (.struct fs) w) (hf:fs[k]? =some f) (hsz:(sizeOf f.type).run P w=.ok (n+1) w) (hx:a.eval x=.pointer (some ad)) (he:ad.add f.offset=Ox):
  (execOp a.eval ⟨dst,.fieldAddr s x k,t',p,af,g⟩).run P w=.ok (.value (.pointer (some Ox))) w:=by
 subst he;simp[execOp,hx,Instr.fieldAt,Instr.sureAddr,hu,hf,fieldPlace,hsz]
theorem O6 {dst:Option Tmp} {c x y:Operand} {t':TypeId} {p:String} {af:Array Edge} {g:Option (Nat×Bool)} {v:Value} (hc:a.eval c=.bool true) (hv:a.eval x=v):
  (execOp a.eval ⟨dst,.pick c x y,t',p,af,g⟩).run P w=.ok (.value v) w:=by
 subst hv;simp[execOp,hc,asBool]
theorem O7 {dst:Option Tmp} {c x y:Operand} {t':TypeId} {p:String} {af:Array Edge} {g:Option (Nat×Bool)} {v:Value} (hc:a.eval c=.bool false) (hv:a.eval y=v):
  (execOp a.eval ⟨dst,.pick c x y,t',p,af,g⟩).run P w=.ok (.value v) w:=by
 subst hv;simp[execOp,hc,asBool]
theorem O8 {dst:Option Tmp} {t:TypeId} {ps:List (Nat×Operand)} {t':TypeId} {p:String} {af:Array Edge} {g:Option (Nat×Bool)} {ps':List (Nat×Value)} {v:Value}
  (hp:(ps.map fun q=>(q.1,a.eval q.2))=ps') (hr:(Instr.build t ps'.toArray).run P w=.ok v w):
  (execOp a.eval ⟨dst,.build t ps.toArray,t',p,af,g⟩).run P w=.ok (.value v) w:=by
 subst hp;simp only[execOp,nV,Sem.run_bind,hr,Result.andThen_ok,Sem.run_pure]
theorem Ki {dst:Option Tmp} {t e:TypeId} {x i:Operand} {t':TypeId} {p:String} {af:Array Edge} {g:Option (Nat×Bool)} {s:Sl} {k:IntKind} {n:Int} {ad:Addr} {sz:Nat}
  (hu:(underlying t).run P w=.ok (.slice e) w) (hsz:(sizeOf e).run P w=.ok sz w) (hx:a.eval x=s.v) (hi:a.eval i=.int k n) (bN:cD s n sz ad):
  (execOp a.eval ⟨dst,.indexAddr t x i,t',p,af,g⟩).run P w=.ok (.value (.pointer (some ad))) w:=by
 obtain⟨base,hb,h0,h1,rfl⟩:=bN;simp[execOp,hx,hi,Instr.indexAt,asIntOf,hu,hsz,hb,h0,h1]
theorem sf {dst:Option Tmp} {t e:TypeId} {x i:Operand} {t':TypeId} {p:String} {af:Array Edge} {g:Option (Nat×Bool)} {len:Nat} {k:IntKind} {n:Int} {ad Ox:Addr} {sz:Nat}
  (hu:(underlying t).run P w=.ok (.array len e) w) (hsz:(sizeOf e).run P w=.ok sz w) (hx:a.eval x=.pointer (some ad)) (hi:a.eval i=.int k n) (h0:0<=n) (h1:n<len) (he:ad.add (n.toNat*sz)=Ox):
  (execOp a.eval ⟨dst,.indexAddr t x i,t',p,af,g⟩).run P w=.ok (.value (.pointer (some Ox))) w:=by
 subst he;simp[execOp,hx,hi,Instr.indexAt,asIntOf,hu,hsz,h0,h1,Instr.sureAddr]
theorem jU {b:Builtin} {s:Sem Value} {dst:Option Tmp} {xs:List Operand} {ts:Array TypeId} {t':TypeId} {p:String} {af:Array Edge} {g:Option (Nat×Bool)} {v:Value}
  (hb:∀U6,builtin b ts t' U6 (xs.map a.eval).toArray=(do pure (.value (<-s)))) (hr:s.run P w=.ok v w'):
  (execOp a.eval ⟨dst,.call ⟨.builtin b,xs.toArray,ts⟩,t',p,af,g⟩).run P w=.ok (.value v) w':=by
 simp only[execOp,resolve,Sem.run_bind,Sem.run_pure,Result.andThen_ok,invoke,nV];rw[hb];simp only[Sem.run_bind,Sem.run_pure,hr,Result.andThen_ok]
theorem tT {dst:Option Tmp} {xs:List Operand} {ts:Array TypeId} {t':TypeId} {p:String} {af:Array Edge} {g:Option (Nat×Bool)} {v:Value} {vs:List Value} (hx:xs.map a.eval=vs)
  (hr:(Builtin.append_ ts t' vs.toArray).run P w=.ok v w'):(execOp a.eval ⟨dst,.call ⟨.builtin .append,xs.toArray,ts⟩,t',p,af,g⟩).run P w=.ok (.value v) w':=by
 subst hx;exact jU (fun _=>rfl) hr
theorem ww {dst:Option Tmp} {xs:List Operand} {ts:Array TypeId} {t':TypeId} {p:String} {af:Array Edge} {g:Option (Nat×Bool)} {v:Value} {vs:List Value} (hx:xs.map a.eval=vs)
  (hr:(Builtin.copy_ ts t' vs.toArray).run P w=.ok v w'):(execOp a.eval ⟨dst,.call ⟨.builtin .copy,xs.toArray,ts⟩,t',p,af,g⟩).run P w=.ok (.value v) w':=by
 subst hx;exact jU (fun _=>rfl) hr
theorem tU {dst:Option Tmp} {xs:List Operand} {ts:Array TypeId} {t':TypeId} {p:String} {af:Array Edge} {g:Option (Nat×Bool)} {v:Value} {vs:List Value} (hx:xs.map a.eval=vs)
  (hr:(Builtin.delete_ ts t' vs.toArray).run P w=.ok v w'):(execOp a.eval ⟨dst,.call ⟨.builtin .delete,xs.toArray,ts⟩,t',p,af,g⟩).run P w=.ok (.value v) w':=by
 subst hx;exact jU (fun _=>rfl) hr
theorem vf {dst:Option Tmp} {xs:List Operand} {ts:Array TypeId} {t':TypeId} {p:String} {af:Array Edge} {g:Option (Nat×Bool)} {v:Value} {vs:List Value} (hx:xs.map a.eval=vs)
  (hr:(Builtin.clear_ ts t' vs.toArray).run P w=.ok v w'):(execOp a.eval ⟨dst,.call ⟨.builtin .clear,xs.toArray,ts⟩,t',p,af,g⟩).run P w=.ok (.value v) w':=by
 subst hx;exact jU (fun _=>rfl) hr
theorem yv {dst:Option Tmp} {xs:List Operand} {ts:Array TypeId} {t':TypeId} {p:String} {af:Array Edge} {g:Option (Nat×Bool)} {v:Value} {vs:List Value} (hx:xs.map a.eval=vs)
  (hr:(Builtin.len_ ts t' vs.toArray).run P w=.ok v w'):(execOp a.eval ⟨dst,.call ⟨.builtin .len,xs.toArray,ts⟩,t',p,af,g⟩).run P w=.ok (.value v) w':=by
 subst hx;exact jU (fun _=>rfl) hr
section
variable {dst:Option Tmp} {x y z:Operand} {t t2:TypeId} {t':TypeId} {p:String} {af:Array Edge} {g:Option (Nat×Bool)} {u v vx vy vz:Value}
theorem zQ {n:Nat} {ps:List (Nat×Operand)} {ps':List (Nat×Value)} (hp:(ps.map fun q=>(q.1,a.eval q.2))=ps') (hr:(Instr.buildSlice t n ps'.toArray).run P w=.ok v w'):
  (execOp a.eval ⟨dst,.buildSlice t n ps.toArray,t',p,af,g⟩).run P w=.ok (.value v) w':=by
 subst hp;simp only[execOp,nV,Sem.run_bind,hr,Result.andThen_ok,Sem.run_pure]
theorem BO (hx:a.eval x=vx) (hy:a.eval y=vy) (hr:(Instr.makeSlice t vx vy).run P w=.ok v w'):(execOp a.eval ⟨dst,.makeSlice t x y,t',p,af,g⟩).run P w=.ok (.value v) w':=by
 simp only[execOp,hx,hy,Sem.run_bind,hr,Result.andThen_ok,Sem.run_pure]
theorem Iw (hr:(Instr.makeMap t none).run P w=.ok v w'):(execOp a.eval ⟨dst,.makeMap t none,t',p,af,g⟩).run P w=.ok (.value v) w':=by
 simp only[execOp,oW,Sem.run_bind,hr,Result.andThen_ok,Sem.run_pure]
theorem Es (hx:a.eval x=vx) (hr:(Instr.makeMap t (some vx)).run P w=.ok v w'):(execOp a.eval ⟨dst,.makeMap t (some x),t',p,af,g⟩).run P w=.ok (.value v) w':=by
 simp only[execOp,bP,hx,Sem.run_bind,hr,Result.andThen_ok,Sem.run_pure]
theorem Kj {b:Bool} (hx:a.eval x=vx) (hy:a.eval y=vy) (hr:(Instr.lookup t vx vy b).run P w=.ok v w'):(execOp a.eval ⟨dst,.lookup t x y b,t',p,af,g⟩).run P w=.ok (.value v) w':=by
 simp only[execOp,hx,hy,Sem.run_bind,hr,Result.andThen_ok,Sem.run_pure]
theorem BP (hx:a.eval x=vx) (hy:a.eval y=vy) (hz:a.eval z=vz) (hr:(Instr.mapUpdate t vx vy vz).run P w=.ok () w'):(execOp a.eval ⟨dst,.mapUpdate t x y z,t',p,af,g⟩).run P w=.ok .skip w':=by
 simp only[execOp,hx,hy,hz,Sem.run_bind,hr,Result.andThen_ok,Sem.run_pure]
theorem Kk (hx:a.eval x=vx) (hy:a.eval y=vy) (hz:a.eval z=vz) (hr:(Instr.mapUpdate t vx vy vz).run P w=.ok () w'):(execOp a.eval ⟨dst,.insert t x y z,t',p,af,g⟩).run P w=.ok .skip w':=by
 simp only[execOp,hx,hy,hz,Sem.run_bind,hr,Result.andThen_ok,Sem.run_pure]
theorem Ix (hx:a.eval x=vx) (hr:(convert t t2 vx).run P w=.ok v w'):(execOp a.eval ⟨dst,.convert t t2 x,t',p,af,g⟩).run P w=.ok (.value v) w':=by
 simp only[execOp,hx,Sem.run_bind,hr,Result.andThen_ok,Sem.run_pure]
end
theorem Xt {dst:Option Tmp} {t:TypeId} {e:TypeId} {x:Operand} {t':TypeId} {p:String} {af:Array Edge} {g:Option (Nat×Bool)} {s:Sl}
  (hu:(underlying t).run P w=.ok (.slice e) w) (hx:a.eval x=s.v):
  (execOp a.eval ⟨dst,.call ⟨.builtin .len,#[x],#[t]⟩,t',p,af,g⟩).run P w=.ok (.value (.int .i64 s.n)) w:=by
 simp[execOp,resolve,invoke,builtin,Builtin.len_,hu,hx,goInt]
theorem BQ {dst:Option Tmp} {x:Operand} {f:FuncId} {first captured:List Value} {xs:List Operand} {ats:Array TypeId} {t':TypeId} {p:String} {af:Array Edge} {g:Option (Nat×Bool)} {args:List Value}
  (hx:a.eval x=.func (.func f) first.toArray captured.toArray)
  (hc:∀(args:Array Value) (w:World),(callFunc f args).run P w=.ok (.enter f args) w) (ha:first++xs.map a.eval++captured=args):
  (execOp a.eval ⟨dst,.call ⟨.value x,xs.toArray,ats⟩,t',p,af,g⟩).run P w=.ok (.enter f args.toArray) w:=by
 subst ha;simp only[execOp,resolve,hx,Deferred.ofValue,Sem.run_bind,Sem.run_pure,Result.andThen_ok,invoke,hc];simp
theorem jV {x:Value} {k:IntKind} {i y:Nat} {code:BoundsCode} (hx:x=.int k (i:Int)) (h:i<=y):(Instr.sliceBound x y code).run P w=.ok i w:=by
 subst hx;have:(i:Int)<=(y:Int):=by omega
 simp[Instr.sliceBound,asIntOf,this]
theorem wx {dst:Option Tmp} {s d e:TypeId} {x:Operand} {t':TypeId} {p:String} {af:Array Edge} {g:Option (Nat×Bool)} {sl:Sl} {l:List UInt8}
  (hs:P.underlying s=some (.slice e)) (he:P.underlying e=some (.int .u8)) (hd:P.underlying d=some .string) (hx:a.eval x=sl.v) (hb:se w sl l):
  (execOp a.eval ⟨dst,.convert s d x,t',p,af,g⟩).run P w=.ok (.value (.string ⟨l.toArray⟩)) w:=by
 obtain⟨hn,hc⟩:=hb;obtain⟨sa,sn,sc⟩:=sl;simp only at hn hc;subst hn;have key:(convert s d (.slice sa l.length sc)).run P w=.ok (.string ⟨l.toArray⟩) w:=by
  cases sa with
  | none=>
   have:l=[]:=Classical.byContradiction fun h=>by obtain⟨ad,h1,_⟩:=hc h;cases h1
   subst this;exact run_convert_bytes_nil w s e hs he _ _ d hd
  | some ad=>
   refine run_convert_bytes_back w s d e ad sc l hs he hd fun j hj=>?_;obtain⟨Ox,h1,h2⟩:=hc (fun h=>by simp[h]at hj);injection h1 with h1;subst h1;exact h2 j _ (by simp[eN,bn hj])
 simp only[execOp,hx,Sem.run_bind,key,Result.andThen_ok,Sem.run_pure]
theorem Et {dst:Option Tmp} {fn:Fn} {fs cs:List Operand} {t':TypeId} {p:String} {af:Array Edge} {g:Option (Nat×Bool)} {fv cv:List Value} (h1:fs.map a.eval=fv) (h2:cs.map a.eval=cv):
  (execOp a.eval ⟨dst,.makeFunc fn fs.toArray cs.toArray,t',p,af,g⟩).run P w=.ok (.value (.func fn fv.toArray cv.toArray)) w:=by
 subst h1;subst h2;simp only[execOp,Instr.makeFunc,nV,Sem.run_bind,Sem.run_pure,Result.andThen_ok]
theorem Xu {dst:Option Tmp} {t ty:TypeId} {x y:Operand} {t':TypeId} {p:String} {af:Array Edge} {g:Option (Nat×Bool)} {k:IntKind} {m n:Int} (hx:a.eval x=.int k m) (hy:a.eval y=.int k n) (hn:n≠0):
  (execOp a.eval ⟨dst,.binOp .quo t x y ty,t',p,af,g⟩).run P w=.ok (.value (.int k (k.wrap (m.tdiv n)))) w:=by
 have e:binOp .quo t (.int k m) (.int k n)=Op.intDiv .quo k m n:=by simp[binOp]
 have hg:eqGuard .quo t x y (.int k m) (.int k n)=pure ():=rfl;simp only[execOp,hx,hy,hg,e,Op.intDiv,hn,fI,Sem.run_bind,Sem.run_pure,Result.andThen_ok]
theorem Xv {dst:Option Tmp} {t ty:TypeId} {x y:Operand} {t':TypeId} {p:String} {af:Array Edge} {g:Option (Nat×Bool)} {k:IntKind} {m n:Int} (hx:a.eval x=.int k m) (hy:a.eval y=.int k n) (hn:n≠0):
  (execOp a.eval ⟨dst,.binOp .rem t x y ty,t',p,af,g⟩).run P w=.ok (.value (.int k (m.tmod n))) w:=by
 have e:binOp .rem t (.int k m) (.int k n)=Op.intDiv .rem k m n:=by simp[binOp]
 have hg:eqGuard .rem t x y (.int k m) (.int k n)=pure ():=rfl;simp only[execOp,hx,hy,hg,e,Op.intDiv,hn,fI,Sem.run_bind,Sem.run_pure,Result.andThen_ok]
theorem Xw {dst:Option Tmp} {t ty:TypeId} {x y:Operand} {t':TypeId} {p:String} {af:Array Edge} {g:Option (Nat×Bool)} {k k':IntKind} {m n:Int} (hx:a.eval x=.int k m) (hy:a.eval y=.int k' n) (hn:0<=n):
  (execOp a.eval ⟨dst,.binOp .shl t x y ty,t',p,af,g⟩).run P w=.ok (.value (.int k (k.wrap (m*2 ^ (min n.toNat k.bits))))) w:=by
 have hg:eqGuard .shl t x y (.int k m) (.int k' n)=pure ():=rfl;have e:binOp .shl t (.int k m) (.int k' n)=Op.shift .shl k m k' n:=rfl;have U7:¬n<0:=by omega
 simp only[execOp,hx,hy,hg,e,Op.shift,U7,fI,Sem.run_bind,Sem.run_pure,Result.andThen_ok]
theorem Xx {dst:Option Tmp} {t ty:TypeId} {x y:Operand} {t':TypeId} {p:String} {af:Array Edge} {g:Option (Nat×Bool)} {k k':IntKind} {m n:Int} (hx:a.eval x=.int k m) (hy:a.eval y=.int k' n) (hn:0<=n):
  (execOp a.eval ⟨dst,.binOp .shr t x y ty,t',p,af,g⟩).run P w=.ok (.value (.int k (m.fdiv (2 ^ (min n.toNat k.bits))))) w:=by
 have hg:eqGuard .shr t x y (.int k m) (.int k' n)=pure ():=rfl;have e:binOp .shr t (.int k m) (.int k' n)=Op.shift .shr k m k' n:=rfl;have U7:¬n<0:=by omega
 simp only[execOp,hx,hy,hg,e,Op.shift,U7,fI,Sem.run_bind,Sem.run_pure,Result.andThen_ok]
theorem Eu {dst:Option Tmp} {t:TypeId} {x i:Operand} {t':TypeId} {p:String} {af:Array Edge} {g:Option (Nat×Bool)} {s:ByteArray} {k:IntKind} {n:Int} {c:UInt8}
  (hu:(underlying t).run P w=.ok .string w) (hx:a.eval x=.string s) (hi:a.eval i=.int k n) (h0:0<=n) (h1:s[n.toNat]? =some c):
  (execOp a.eval ⟨dst,.index t x i,t',p,af,g⟩).run P w=.ok (.value (.int .u8 (c.toNat:Int))) w:=by
 simp only[execOp,hx,hi,Instr.index,asIntOf,hu,Sem.run_bind,Sem.run_pure,Result.andThen_ok,h0,if_true,h1]
theorem Kl {dst:Option Tmp} {t ty:TypeId} {x y:Operand} {t':TypeId} {p:String} {af:Array Edge} {g:Option (Nat×Bool)} {s u:ByteArray} (hx:a.eval x=.string s) (hy:a.eval y=.string u) (hn:(s.size:Int)+u.size<=9223372036854775807):
  (execOp a.eval ⟨dst,.binOp .add t x y ty,t',p,af,g⟩).run P w=.ok (.value (.string (s++u))) w:=by
 have hg:eqGuard .add t x y (.string s) (.string u)=pure ():=rfl;have e:binOp .add t (.string s) (.string u)=Op.stringOp .add s u:=rfl;have U7:¬((s.size+u.size:Nat):Int)>IntKind.i64.max:=by
  have:IntKind.i64.max=9223372036854775807:=by decide
  rw[this];omega
 simp only[execOp,hx,hy,hg,e,Op.stringOp,U7,fI,Sem.run_bind,Sem.run_pure,Result.andThen_ok]
theorem Xy {dst:Option Tmp} {t:TypeId} {e:TypeId} {x:Operand} {t':TypeId} {p:String} {af:Array Edge} {g:Option (Nat×Bool)} {s:Sl}
  (hu:(underlying t).run P w=.ok (.slice e) w) (hx:a.eval x=s.v):
  (execOp a.eval ⟨dst,.call ⟨.builtin .cap,#[x],#[t]⟩,t',p,af,g⟩).run P w=.ok (.value (.int .i64 s.c)) w:=by
 simp[execOp,resolve,invoke,builtin,Builtin.cap_,hu,hx,goInt]
theorem zR {dst:Option Tmp} {t:TypeId} {x lo:Operand} {t':TypeId} {p:String} {af:Array Edge} {g:Option (Nat×Bool)} {s:ByteArray} {k:IntKind} {l:Nat}
  (hu:(underlying t).run P w=.ok .string w) (hx:a.eval x=.string s) (hl:a.eval lo=.int k (l:Int)) (h1:l<=s.size) (_h2:s.size<=s.size):
  (execOp a.eval ⟨dst,.slice t x (some lo) none none,t',p,af,g⟩).run P w=.ok (.value (.string (s.extract l s.size))) w:=by
 simp[execOp,hx,Instr.sliceAt,hu,Instr.slice,Instr.sliceBounds,jV hl h1]
theorem zT {dst:Option Tmp} {t:TypeId} {x hi:Operand} {t':TypeId} {p:String} {af:Array Edge} {g:Option (Nat×Bool)} {s:ByteArray} {k:IntKind} {h:Nat}
  (hu:(underlying t).run P w=.ok .string w) (hx:a.eval x=.string s) (hh:a.eval hi=.int k (h:Int)) (_h1:0<=h) (h2:h<=s.size):
  (execOp a.eval ⟨dst,.slice t x none (some hi) none,t',p,af,g⟩).run P w=.ok (.value (.string (s.extract 0 h))) w:=by
 simp[execOp,hx,Instr.sliceAt,hu,Instr.slice,Instr.sliceBounds,jV hh h2]
theorem zU {dst:Option Tmp} {t:TypeId} {x lo hi:Operand} {t':TypeId} {p:String} {af:Array Edge} {g:Option (Nat×Bool)} {s:ByteArray} {k k':IntKind} {l h:Nat}
  (hu:(underlying t).run P w=.ok .string w) (hx:a.eval x=.string s) (hl:a.eval lo=.int k (l:Int)) (hh:a.eval hi=.int k' (h:Int)) (h1:l<=h) (h2:h<=s.size):
  (execOp a.eval ⟨dst,.slice t x (some lo) (some hi) none,t',p,af,g⟩).run P w=.ok (.value (.string (s.extract l h))) w:=by
 simp[execOp,hx,Instr.sliceAt,hu,Instr.slice,Instr.sliceBounds,jV hh h2,jV hl h1]
theorem yS {dst:Option Tmp} {s d:TypeId} {x:Operand} {t':TypeId} {p:String} {af:Array Edge} {g:Option (Nat×Bool)} {ks kd k:IntKind} {n:Int}
  (hs:(underlying s).run P w=.ok (.int ks) w) (hd:(underlying d).run P w=.ok (.int kd) w) (hx:a.eval x=.int k n):
  (execOp a.eval ⟨dst,.convert s d x,t',p,af,g⟩).run P w=.ok (.value (.int kd (kd.wrap n))) w:=by
 simp[execOp,hx,convert,hs,hd,Conv.intToInt]
theorem yT {dst:Option Tmp} {s d:TypeId} {x:Operand} {t':TypeId} {p:String} {af:Array Edge} {g:Option (Nat×Bool)} {n:ByteArray}
  (hs:(underlying s).run P w=.ok .string w) (hd:(underlying d).run P w=.ok .string w) (hx:a.eval x=.string n):
  (execOp a.eval ⟨dst,.convert s d x,t',p,af,g⟩).run P w=.ok (.value (.string n)) w:=by
 simp[execOp,hx,convert,hs,hd]
theorem O9 {dst:Option Tmp} {t:TypeId} {x:Operand} {t':TypeId} {p:String} {af:Array Edge} {g:Option (Nat×Bool)} {d:TypeDesc} {v:Value}
  (hu:(underlying t).run P w=.ok d w) (hd:(match d with | .interface _=>false | _=>true)=true) (hx:a.eval x=v):
  (execOp a.eval ⟨dst,.makeInterface t x,t',p,af,g⟩).run P w=.ok (.value (.iface t v)) w:=by
 subst hx;cases d<;>first | (simp at hd;done) | simp[execOp,Instr.makeInterface,hu]
theorem Km {dst:Option Tmp} {t:TypeId} {x:Operand} {t':TypeId} {p:String} {af:Array Edge} {g:Option (Nat×Bool)} {s:ByteArray}
  (hu:(underlying t).run P w=.ok .string w) (hx:a.eval x=.string s):
  (execOp a.eval ⟨dst,.call ⟨.builtin .len,#[x],#[t]⟩,t',p,af,g⟩).run P w=.ok (.value (.int .i64 s.size)) w:=by
 simp[execOp,resolve,invoke,builtin,Builtin.len_,hu,hx,goInt]
theorem Xz {dst:Option Tmp} {ts:Array TypeId} {x y:Operand} {t':TypeId} {p:String} {af:Array Edge} {g:Option (Nat×Bool)} {k k':IntKind} {m n:Int} (hx:a.eval x=.int k m) (hy:a.eval y=.int k' n):
  (execOp a.eval ⟨dst,.call ⟨.builtin .min,#[x,y],ts⟩,t',p,af,g⟩).run P w=.ok (.value (.int k (if n<m then n else m))) w:=by
 simp[execOp,resolve,invoke,builtin,hx,hy,run_min_int2]
theorem XA {dst:Option Tmp} {ts:Array TypeId} {x y:Operand} {t':TypeId} {p:String} {af:Array Edge} {g:Option (Nat×Bool)} {k k':IntKind} {m n:Int} (hx:a.eval x=.int k m) (hy:a.eval y=.int k' n):
  (execOp a.eval ⟨dst,.call ⟨.builtin .max,#[x,y],ts⟩,t',p,af,g⟩).run P w=.ok (.value (.int k (if n>m then n else m))) w:=by
 simp[execOp,resolve,invoke,builtin,hx,hy,run_max_int2]
theorem zV {dst:Option Tmp} {t ty:TypeId} {x y:Operand} {t':TypeId} {p:String} {af:Array Edge} {g:Option (Nat×Bool)} {e:TypeId} {q:Option Addr} {b:Bool} (hu:(underlying t).run P w=.ok (.pointer e) w) (hx:a.eval x=.pointer q) (hy:a.eval y=.pointer none) (hb:(q.isNone)=b):
  (execOp a.eval ⟨dst,.binOp .eql t x y ty,t',p,af,g⟩).run P w=.ok (.value (.bool b)) w:=by
 subst hb;have hE:∀d,(Op.equalIn (d+1) t (.pointer q) (.pointer none)).run P w=.ok q.isNone w:=fun d=>by
  unfold Op.equalIn;cases q<;>simp only[Sem.run_bind,hu,Result.andThen_ok]<;>rfl
 have hB:binOp .eql t (.pointer q) (.pointer none)=(do pure (.bool ((<-Op.equal t (.pointer q) (.pointer none))))):=by cases q<;>rfl
 have hG:eqGuard .eql t x y (.pointer q) (.pointer none)=pure ():=rfl;simp only[execOp,hx,hy,hG,hB,Op.equal,Op.maxDepth,Sem.run_bind,Sem.run_pure,Result.andThen_ok,hE 9999]
theorem zW {dst:Option Tmp} {t ty:TypeId} {x y:Operand} {t':TypeId} {p:String} {af:Array Edge} {g:Option (Nat×Bool)} {e:TypeId} {q:Option Addr} {b:Bool} (hu:(underlying t).run P w=.ok (.pointer e) w) (hx:a.eval x=.pointer none) (hy:a.eval y=.pointer q) (hb:(q.isNone)=b):
  (execOp a.eval ⟨dst,.binOp .eql t x y ty,t',p,af,g⟩).run P w=.ok (.value (.bool b)) w:=by
 subst hb;have hE:∀d,(Op.equalIn (d+1) t (.pointer none) (.pointer q)).run P w=.ok q.isNone w:=fun d=>by
  unfold Op.equalIn;cases q<;>simp only[Sem.run_bind,hu,Result.andThen_ok]<;>rfl
 have hB:binOp .eql t (.pointer none) (.pointer q)=(do pure (.bool ((<-Op.equal t (.pointer none) (.pointer q))))):=by cases q<;>rfl
 have hG:eqGuard .eql t x y (.pointer none) (.pointer q)=pure ():=rfl;simp only[execOp,hx,hy,hG,hB,Op.equal,Op.maxDepth,Sem.run_bind,Sem.run_pure,Result.andThen_ok,hE 9999]
theorem zX {dst:Option Tmp} {t ty:TypeId} {x y:Operand} {t':TypeId} {p:String} {af:Array Edge} {g:Option (Nat×Bool)} {e:TypeId} {q:Option Addr} {b:Bool} (hu:(underlying t).run P w=.ok (.pointer e) w) (hx:a.eval x=.pointer q) (hy:a.eval y=.pointer none) (hb:(!q.isNone)=b):
  (execOp a.eval ⟨dst,.binOp .neq t x y ty,t',p,af,g⟩).run P w=.ok (.value (.bool b)) w:=by
 subst hb;have hE:∀d,(Op.equalIn (d+1) t (.pointer q) (.pointer none)).run P w=.ok q.isNone w:=fun d=>by
  unfold Op.equalIn;cases q<;>simp only[Sem.run_bind,hu,Result.andThen_ok]<;>rfl
 have hB:binOp .neq t (.pointer q) (.pointer none)=(do pure (.bool (!(<-Op.equal t (.pointer q) (.pointer none))))):=by cases q<;>rfl
 have hG:eqGuard .neq t x y (.pointer q) (.pointer none)=pure ():=rfl;simp only[execOp,hx,hy,hG,hB,Op.equal,Op.maxDepth,Sem.run_bind,Sem.run_pure,Result.andThen_ok,hE 9999]
theorem zY {dst:Option Tmp} {t ty:TypeId} {x y:Operand} {t':TypeId} {p:String} {af:Array Edge} {g:Option (Nat×Bool)} {e:TypeId} {q:Option Addr} {b:Bool} (hu:(underlying t).run P w=.ok (.pointer e) w) (hx:a.eval x=.pointer none) (hy:a.eval y=.pointer q) (hb:(!q.isNone)=b):
  (execOp a.eval ⟨dst,.binOp .neq t x y ty,t',p,af,g⟩).run P w=.ok (.value (.bool b)) w:=by
 subst hb;have hE:∀d,(Op.equalIn (d+1) t (.pointer none) (.pointer q)).run P w=.ok q.isNone w:=fun d=>by
  unfold Op.equalIn;cases q<;>simp only[Sem.run_bind,hu,Result.andThen_ok]<;>rfl
 have hB:binOp .neq t (.pointer none) (.pointer q)=(do pure (.bool (!(<-Op.equal t (.pointer none) (.pointer q))))):=by cases q<;>rfl
 have hG:eqGuard .neq t x y (.pointer none) (.pointer q)=pure ():=rfl;simp only[execOp,hx,hy,hG,hB,Op.equal,Op.maxDepth,Sem.run_bind,Sem.run_pure,Result.andThen_ok,hE 9999]
theorem Iy {dst:Option Tmp} {t ty:TypeId} {x y:Operand} {t':TypeId} {p:String} {af:Array Edge} {g:Option (Nat×Bool)} {m n:Bool} (hu:P.underlying t=some .bool) (hx:a.eval x=.bool m) (hy:a.eval y=.bool n):
  (execOp a.eval ⟨dst,.binOp .eql t x y ty,t',p,af,g⟩).run P w=.ok (.value (.bool (m==n))) w:=by
 have hG:eqGuard .eql t x y (.bool m) (.bool n)=pure ():=rfl;simp only[execOp,hx,hy,hG,Sem.run_bind,Sem.run_pure,Result.andThen_ok,run_eql_bool w t m n hu]
theorem Iz {dst:Option Tmp} {t ty:TypeId} {x y:Operand} {t':TypeId} {p:String} {af:Array Edge} {g:Option (Nat×Bool)} {m n:Bool} (hu:P.underlying t=some .bool) (hx:a.eval x=.bool m) (hy:a.eval y=.bool n):
  (execOp a.eval ⟨dst,.binOp .neq t x y ty,t',p,af,g⟩).run P w=.ok (.value (.bool (!(m==n)))) w:=by
 have hG:eqGuard .neq t x y (.bool m) (.bool n)=pure ():=rfl;simp only[execOp,hx,hy,hG,Sem.run_bind,Sem.run_pure,Result.andThen_ok,run_neq_bool w t m n hu]
theorem BR {dst:Option Tmp} {t ty:TypeId} {x y:Operand} {t':TypeId} {p:String} {af:Array Edge} {g:Option (Nat×Bool)} {e:TypeId} {s:Sl} (hu:(underlying t).run P w=.ok (.slice e) w) (hx:a.eval x=s.v) (hy:a.eval y=.slice none 0 0):
  (execOp a.eval ⟨dst,.binOp .eql t x y ty,t',p,af,g⟩).run P w=.ok (.value (.bool (s.a.isNone))) w:=by
 obtain⟨sa,sn,sc⟩:=s;have hE:∀d,(Op.equalIn (d+1) t (.slice sa sn sc) (.slice none 0 0)).run P w=.ok sa.isNone w:=fun d=>by
  unfold Op.equalIn;cases sa<;>simp only[Sem.run_bind,hu,Result.andThen_ok]<;>rfl
 have hB:binOp .eql t (.slice sa sn sc) (.slice none 0 0)=(do pure (.bool ((<-Op.equal t (.slice sa sn sc) (.slice none 0 0))))):=by cases sa<;>rfl
 have hG:eqGuard .eql t x y (.slice sa sn sc) (.slice none 0 0)=pure ():=rfl;simp only[execOp,hx,hy,hG,hB,Op.equal,Op.maxDepth,Sem.run_bind,Sem.run_pure,Result.andThen_ok,hE 9999]
theorem BS {dst:Option Tmp} {t ty:TypeId} {x y:Operand} {t':TypeId} {p:String} {af:Array Edge} {g:Option (Nat×Bool)} {e:TypeId} {s:Sl} (hu:(underlying t).run P w=.ok (.slice e) w) (hx:a.eval x=.slice none 0 0) (hy:a.eval y=s.v):
  (execOp a.eval ⟨dst,.binOp .eql t x y ty,t',p,af,g⟩).run P w=.ok (.value (.bool (s.a.isNone))) w:=by
 obtain⟨sa,sn,sc⟩:=s;have hE:∀d,(Op.equalIn (d+1) t (.slice none 0 0) (.slice sa sn sc)).run P w=.ok sa.isNone w:=fun d=>by
  unfold Op.equalIn;cases sa<;>simp only[Sem.run_bind,hu,Result.andThen_ok]<;>rfl
 have hB:binOp .eql t (.slice none 0 0) (.slice sa sn sc)=(do pure (.bool ((<-Op.equal t (.slice none 0 0) (.slice sa sn sc))))):=by cases sa<;>rfl
 have hG:eqGuard .eql t x y (.slice none 0 0) (.slice sa sn sc)=pure ():=rfl;simp only[execOp,hx,hy,hG,hB,Op.equal,Op.maxDepth,Sem.run_bind,Sem.run_pure,Result.andThen_ok,hE 9999]
theorem BT {dst:Option Tmp} {t ty:TypeId} {x y:Operand} {t':TypeId} {p:String} {af:Array Edge} {g:Option (Nat×Bool)} {e:TypeId} {s:Sl} (hu:(underlying t).run P w=.ok (.slice e) w) (hx:a.eval x=s.v) (hy:a.eval y=.slice none 0 0):
  (execOp a.eval ⟨dst,.binOp .neq t x y ty,t',p,af,g⟩).run P w=.ok (.value (.bool (!s.a.isNone))) w:=by
 obtain⟨sa,sn,sc⟩:=s;have hE:∀d,(Op.equalIn (d+1) t (.slice sa sn sc) (.slice none 0 0)).run P w=.ok sa.isNone w:=fun d=>by
  unfold Op.equalIn;cases sa<;>simp only[Sem.run_bind,hu,Result.andThen_ok]<;>rfl
 have hB:binOp .neq t (.slice sa sn sc) (.slice none 0 0)=(do pure (.bool (!(<-Op.equal t (.slice sa sn sc) (.slice none 0 0))))):=by cases sa<;>rfl
 have hG:eqGuard .neq t x y (.slice sa sn sc) (.slice none 0 0)=pure ():=rfl;simp only[execOp,hx,hy,hG,hB,Op.equal,Op.maxDepth,Sem.run_bind,Sem.run_pure,Result.andThen_ok,hE 9999]
theorem BU {dst:Option Tmp} {t ty:TypeId} {x y:Operand} {t':TypeId} {p:String} {af:Array Edge} {g:Option (Nat×Bool)} {e:TypeId} {s:Sl} (hu:(underlying t).run P w=.ok (.slice e) w) (hx:a.eval x=.slice none 0 0) (hy:a.eval y=s.v):
  (execOp a.eval ⟨dst,.binOp .neq t x y ty,t',p,af,g⟩).run P w=.ok (.value (.bool (!s.a.isNone))) w:=by
 obtain⟨sa,sn,sc⟩:=s;have hE:∀d,(Op.equalIn (d+1) t (.slice none 0 0) (.slice sa sn sc)).run P w=.ok sa.isNone w:=fun d=>by
  unfold Op.equalIn;cases sa<;>simp only[Sem.run_bind,hu,Result.andThen_ok]<;>rfl
 have hB:binOp .neq t (.slice none 0 0) (.slice sa sn sc)=(do pure (.bool (!(<-Op.equal t (.slice none 0 0) (.slice sa sn sc))))):=by cases sa<;>rfl
 have hG:eqGuard .neq t x y (.slice none 0 0) (.slice sa sn sc)=pure ():=rfl;simp only[execOp,hx,hy,hG,hB,Op.equal,Op.maxDepth,Sem.run_bind,Sem.run_pure,Result.andThen_ok,hE 9999]
theorem Ev {dst:Option Tmp} {t e:TypeId} {x lo:Operand} {t':TypeId} {p:String} {af:Array Edge} {g:Option (Nat×Bool)} {s:Sl} {k:IntKind} {l sz:Nat}
  (hu:(underlying t).run P w=.ok (.slice e) w) (hsz:(sizeOf e).run P w=.ok sz w) (hx:a.eval x=s.v) (hl:a.eval lo=.int k (l:Int)) (h1:l<=s.n) (_h2:s.n<=s.c) (_h3:s.c<=s.c):
  (execOp a.eval ⟨dst,.slice t x (some lo) none none,t',p,af,g⟩).run P w=.ok (.value (s.cut l s.n s.c sz).v) w:=by
 simp only[execOp,hx,Instr.sliceAt,hu,Sem.run_bind,Result.andThen_ok,Instr.slice,Instr.sliceBounds,bP,oW,Sem.run_pure,jV hl h1,hsz,Sl.cut]
theorem Ew {dst:Option Tmp} {t e:TypeId} {x hi:Operand} {t':TypeId} {p:String} {af:Array Edge} {g:Option (Nat×Bool)} {s:Sl} {k:IntKind} {h sz:Nat}
  (hu:(underlying t).run P w=.ok (.slice e) w) (hsz:(sizeOf e).run P w=.ok sz w) (hx:a.eval x=s.v) (hh:a.eval hi=.int k (h:Int)) (_h1:0<=h) (h2:h<=s.c) (_h3:s.c<=s.c):
  (execOp a.eval ⟨dst,.slice t x none (some hi) none,t',p,af,g⟩).run P w=.ok (.value (s.cut 0 h s.c sz).v) w:=by
 simp only[execOp,hx,Instr.sliceAt,hu,Sem.run_bind,Result.andThen_ok,Instr.slice,Instr.sliceBounds,bP,oW,Sem.run_pure,if_true,jV hh h2,hsz,Sl.cut]
theorem Ey {dst:Option Tmp} {t e:TypeId} {x lo hi:Operand} {t':TypeId} {p:String} {af:Array Edge} {g:Option (Nat×Bool)} {s:Sl} {k k':IntKind} {l h sz:Nat}
  (hu:(underlying t).run P w=.ok (.slice e) w) (hsz:(sizeOf e).run P w=.ok sz w) (hx:a.eval x=s.v) (hl:a.eval lo=.int k (l:Int)) (hh:a.eval hi=.int k' (h:Int)) (h1:l<=h) (h2:h<=s.c) (_h3:s.c<=s.c):
  (execOp a.eval ⟨dst,.slice t x (some lo) (some hi) none,t',p,af,g⟩).run P w=.ok (.value (s.cut l h s.c sz).v) w:=by
 simp only[execOp,hx,Instr.sliceAt,hu,Sem.run_bind,Result.andThen_ok,Instr.slice,Instr.sliceBounds,bP,oW,Sem.run_pure,if_true,jV hh h2,jV hl h1,hsz,Sl.cut]
theorem Ez {dst:Option Tmp} {t e:TypeId} {x hi mx:Operand} {t':TypeId} {p:String} {af:Array Edge} {g:Option (Nat×Bool)} {s:Sl} {k' k2:IntKind} {h m sz:Nat}
  (hu:(underlying t).run P w=.ok (.slice e) w) (hsz:(sizeOf e).run P w=.ok sz w) (hx:a.eval x=s.v) (hh:a.eval hi=.int k' (h:Int)) (hm:a.eval mx=.int k2 (m:Int)) (_h1:0<=h) (h2:h<=m) (h3:m<=s.c):
  (execOp a.eval ⟨dst,.slice t x none (some hi) (some mx),t',p,af,g⟩).run P w=.ok (.value (s.cut 0 h m sz).v) w:=by
 simp only[execOp,hx,Instr.sliceAt,hu,Sem.run_bind,Result.andThen_ok,Instr.slice,Instr.sliceBounds,bP,oW,Sem.run_pure,if_true,jV hm h3,jV hh h2,hsz,Sl.cut]
theorem EA {dst:Option Tmp} {t e:TypeId} {x lo hi mx:Operand} {t':TypeId} {p:String} {af:Array Edge} {g:Option (Nat×Bool)} {s:Sl} {k k' k2:IntKind} {l h m sz:Nat}
  (hu:(underlying t).run P w=.ok (.slice e) w) (hsz:(sizeOf e).run P w=.ok sz w) (hx:a.eval x=s.v) (hl:a.eval lo=.int k (l:Int)) (hh:a.eval hi=.int k' (h:Int)) (hm:a.eval mx=.int k2 (m:Int)) (h1:l<=h) (h2:h<=m) (h3:m<=s.c):
  (execOp a.eval ⟨dst,.slice t x (some lo) (some hi) (some mx),t',p,af,g⟩).run P w=.ok (.value (s.cut l h m sz).v) w:=by
 simp only[execOp,hx,Instr.sliceAt,hu,Sem.run_bind,Result.andThen_ok,Instr.slice,Instr.sliceBounds,bP,Sem.run_pure,jV hm h3,jV hh h2,jV hl h1,hsz,Sl.cut,Option.isSome_some,if_true]
section
variable {K:Act->World->Prop} {o:Oper}
theorem Tu (hg:Region.wanted o (yielded ops a.tmps)=true) (h:o.wp P a w (wpList P ops Q rest) Q):wpList P ops Q (o::rest) a w:=by
 unfold wpList;rw[if_pos hg];exact .inl h
theorem uM (v:Value) (hr:(execOp a.eval o).run P w=.ok (.value v) w') (ha:a.put o.dst v=a') (h:K a' w'):o.wp P a w K Q:=by
 subst ha;unfold Oper.wp;rw[hr];exact h
theorem Kn (hr:(execOp a.eval o).run P w=.ok .skip w') (ha:a.put o.dst undef=a') (h:K a' w'):o.wp P a w K Q:=by
 subst ha;unfold Oper.wp;rw[hr];exact h
theorem Gh {f:FuncId} {args:Array Value} (hr:(execOp a.eval o).run P w=.ok (.enter f args) w)
  (h:Calls P f args w fun e w'=>∃v a',e=.returned v/\a.put o.dst v=a'/\K a' w'):o.wp P a w K Q:=by
 unfold Oper.wp;rw[hr];refine h.mono ?_;rintro e w' ⟨v,_,rfl,rfl,hk⟩;exact hk
theorem BW {dst:Option Tmp} {ty:TypeId} {x y:Operand} {t':TypeId} {p:String} {af:Array Edge} {g:Option (Nat×Bool)} {b o:Nat} {cs vs Bn:List Value} {et:TypeId} {n:Nat}
  (hsz:(sizeOf ty).run P w=.ok n w) (hx:a.eval x=.pointer (some ⟨b,o,none⟩)) (hv:(a.eval y).cells=vs.toArray) (hn:vs.length=n)
  (h1:vs.all Value.oneCell'=true) (hb:Blk w b et cs) (DX:o+vs.length<=cs.length) (kK:bF cs o vs=Bn) (ha:a.put dst undef=a')
  (h:∀w1,Only [b] w w1->Blk w1 b et Bn->K a' w1):Oper.wp P ⟨dst,.store ty x y,t',p,af,g⟩ a w K Q:=
 Kn (O4 hsz hx hv hn (cJ.1 h1) hb DX) ha (h _ (Only.setRow _ _ _) (by rw[<-kK];exact hb.setRow _))
theorem BX {dst:Option Tmp} {ty:TypeId} {t':TypeId} {p:String} {af:Array Edge} {g:Option (Nat×Bool)} {z:Value} {zs:List Value} {a':Nat->Act}
  (hz:(zeroValue ty).run P w=.ok z w) (hc:z.cells=zs.toArray) (ha:∀b,a.put dst (.pointer (some ⟨b,0,none⟩))=a' b)
  (h:∀b w1,w.heap.size<=b->Only [] w w1->Blk w1 b ty zs->K (a' b) w1):Oper.wp P ⟨dst,.alloc ty,t',p,af,g⟩ a w K Q:=
 uM _ (O5 hz hc) (ha _) (h _ _ (aq _) (Only.alloc _ _) (Blk.alloc _ _ _))
theorem Tv {dst:Option Tmp} {ty:TypeId} {x:Operand} {t':TypeId} {p:String} {af:Array Edge} {g:Option (Nat×Bool)} {zs:List Value} {a':Nat->Act}
  (hc:(a.eval x).cells=zs.toArray) (ha:∀b,a.put dst (.pointer (some ⟨b,0,none⟩))=a' b)
  (h:∀b w1,w.heap.size<=b->Only [] w w1->Blk w1 b ty zs->K (a' b) w1):Oper.wp P ⟨dst,.box ty x,t',p,af,g⟩ a w K Q:=
 uM _ (Xs hc) (ha _) (h _ _ (aq _) (Only.alloc _ _) (Blk.alloc _ _ _))
end
theorem IA {id:Nat} (h:Q .normal a w):Exit.inBlock id Q (.exit id) a w:=by simpa[Exit.inBlock]using h
theorem EB {id Oy:Nat} (eI:(Oy==id)=false) (h:Q (.exit Oy) a w):Exit.inBlock id Q (.exit Oy) a w:=by simpa[Exit.inBlock,by simpa using eI]using h
def yU (P:Program) (a:Act) (w:World):List ResultVar->List Value->Prop
 | [],[]=>True
 | .tmp t::r,v::vs=>a.eval (.tmp t)=v/\yU P a w r vs
 | .cell p t::r,v::vs=>(∃ad,a.eval (.tmp p)=.pointer (some ad)/\(loadVar t ad).run P w=.ok v w)/\yU P a w r vs
 | _,_=>False
theorem kX (f:ResultVar->Sem Value) (SN:∀t,f (.tmp t)=pure (a.tmps.getD t undef)) (hf2:∀q t,f (.cell q t)=(do loadVar t (<-asAddr (a.tmps.getD q undef)))):
  ∀(rs:List ResultVar) (vs:List Value),yU P a w rs vs->(rs.mapM f).run P w=.ok vs w
 | [],[],_=>rfl
 | [],_::_,h=>h.elim
 | .tmp t::r,[],h=>h.elim
 | .cell _ _::r,[],h=>h.elim
 | .tmp t::r,v::vs,h=>by
  have ih:=kX f SN hf2 r vs h.2;have h1:a.tmps.getD t undef=v:=h.1;rw[List.mapM_cons,SN];simp only[Sem.run_bind,Sem.run_pure,Result.andThen_ok,h1,ih]
 | .cell q t::r,v::vs,h=>by
  have ih:=kX f SN hf2 r vs h.2;obtain⟨⟨ad,h1,h2⟩,_⟩:=h;have h1':a.tmps.getD q undef=.pointer (some ad):=h1;rw[List.mapM_cons,hf2];simp only[Sem.run_bind,Sem.run_pure,Result.andThen_ok,h1',asAddr,h2,ih]
theorem Tw {fn:Func} {rs:List ResultVar} {v:Value} (h:fn.results=rs.toArray) (hr:yU P a w rs [v]):(results fn a.tmps).run P w=.ok v w:=by
 unfold results;rw[h,List.mapM_toArray];simp only[Sem.run_bind,map_eq_pure_bind,Sem.run_pure];rw[kX _ (fun _=>rfl) (fun _ _=>rfl) rs [v] hr];rfl
theorem EC {fn:Func} {rs:List ResultVar} {vs:List Value} (h:fn.results=rs.toArray) (hn:(vs.length==1)=false) (hr:yU P a w rs vs):(results fn a.tmps).run P w=.ok (.tuple vs.toArray) w:=by
 unfold results;rw[h,List.mapM_toArray];have U7:¬vs.length=1:=by simpa using hn
 simp only[Sem.run_bind,map_eq_pure_bind,Sem.run_pure];rw[kX _ (fun _=>rfl) (fun _ _=>rfl) rs vs hr];simp only[Result.andThen_ok,jr,U7,dite_false]
theorem Pa {fn:Func} {R:Value->World->Prop} {v:Value} (hr:(results fn a.tmps).run P w=.ok v w) (hd:a.defers=[]) (h:R v w):
 bodyPost P fn (fun e w'=>∃v,e=.returned v/\R v w') .ret a w:=bodyPost_ret hr hd ⟨v,rfl,h⟩
theorem ED {fn:Func} {R:Value->World->Prop} {v:Value} (hr:(results fn a.tmps).run P w=.ok v w) (hd:a.defers=[]) (h:R v w):
 bodyPost P fn (fun e w'=>∃v,e=.returned v/\R v w') .normal a w:=bodyPost_end hr hd ⟨v,rfl,h⟩
theorem zZ {ty:TypeId} {ad:Addr} {cs:List Value} {n:Nat} (FJ:(isAgg ty).run P w=.ok true w) (hsz:(sizeOf ty).run P w=.ok n w) (hn:cs.length=n) (hc:aB w ad cs):
  (loadVar ty ad).run P w=.ok (.agg cs.toArray) w:=by
 have hl:=run_loadCells_list (P:=P) w ad cs hc;rw[hn]at hl;simp only[Sem.run_bind,Result.andThen_ok,loadVar,FJ,if_true,hsz,hl,Sem.run_pure]
theorem yw {ty:TypeId} {ad:Addr} {v:Value} (FJ:(isAgg ty).run P w=.ok false w) (hc:w.cell? ad=some v):
  (loadVar ty ad).run P w=.ok v w:=by
 simp only[Sem.run_bind,Result.andThen_ok,loadVar,FJ,dG,fI,run_load,hc]
end
section
variable {P:Program} {ops:Array Oper} {rest:List Oper} {a a':Act} {w:World} {Q:Act->Prop}
theorem XC {o:Oper} (v:Value) (hg:Region.wanted o (yielded ops a.tmps)=true)
  (hr:∀w',(∃n,w'=w.drewN n)->(execOp a.eval o).run P w'=.ok (.value v) w') (ha:a.put o.dst v=a')
  (h:wpQuiet P ops (fun w'=>∃n,w'=w.drewN n) Q rest a'):wpQuiet P ops (fun w'=>∃n,w'=w.drewN n) Q (o::rest) a:=by
 subst ha;unfold wpQuiet;rw[if_pos hg];refine⟨v,fun w' WO=>?_,h⟩;unfold Oper.quietAt;rw[hr w' WO];exact⟨rfl,rfl⟩
theorem aeu {o:Oper} (hg:Region.wanted o (yielded ops a.tmps)=false) (ha:a.put o.dst undef=a')
  (h:wpQuiet P ops (fun w'=>∃n,w'=w.drewN n) Q rest a'):wpQuiet P ops (fun w'=>∃n,w'=w.drewN n) Q (o::rest) a:=by
 subst ha;unfold wpQuiet;rw[if_neg (by simp[hg])];exact h
end
theorem Ko {w w':World}:aD [] w w':=fun _ h=>by simp at h
theorem aD.refl (bs:List Nat) (w:World):aD bs w w:=fun _ _=>rfl
section
variable {P:Program} {ops:Array Oper} {Q:Exit->Act->World->Prop} {md:Region.Mode} {E:Nat->World->World->Prop} {F:World->Prop}
def eH (P:Program) (md:Region.Mode) (ops:Array Oper) (Q:Exit->Act->World->Prop) (E:Nat->World->World->Prop):Nat->Array Bool->Act->World->Prop
 | 0,aH,a,w=>Region.ready md ops aH=[]/\Q .normal a w
 | dJ+1,aH,a,w=>
  (Region.ready md ops aH=[]->Q .normal a w)/\
  ∀i∈Region.ready md ops aH,wpOp P ops Q i (fun a' w'=>E i w w'/\eH P md ops Q E dJ (aH.setIfInBounds i true) a' w') a w
theorem wy:∀(dJ:Nat) (aH:Array Bool) (a:Act) (w:World),eH P md ops Q E dJ aH a w->wpAny P md ops Q dJ aH a w
 | 0,_,_,_,h=>h
 | dJ+1,_,_,_,h=>⟨h.1,fun i hi=>wpOp_mono (fun a' w' h'=>wy dJ _ a' w' h'.2) (h.2 i hi)⟩
def n8 (md:Region.Mode) (ops:Array Oper) (aH:Array Bool):Prop:=∀k o,ops[k]? =some o->aH.getD k false=true->∀e∈o.after,Region.binds md e=true->aH.getD e.on false=true
def Aa (md:Region.Mode) (ops:Array Oper) (aH:Array Bool):Bool:=
 (List.range ops.size).all fun k=>!aH.getD k false||((ops[k]?).map (·.after.all fun e=>!Region.binds md e||aH.getD e.on false)).getD true
theorem yV {aH:Array Bool} (h:Aa md ops aH=true):n8 md ops aH:=by
 intro k o hk hl e he hb;have bp:k<ops.size:=(jL.1 hk).1;have:=(cJ.1 h) k (List.mem_range.2 bp);simp only[hl,Bool.not_true,Bool.false_or,hk,bP,iy,Array.all_eq_true_iff_forall_mem,cp,ch]at this;rcases this e he with h1 | h1
 ·rw[hb]at h1;cases h1
 ·exact h1
theorem n8.add {aH:Array Bool} {j:Nat} (h:n8 md ops aH) (hj:j∈Region.ready md ops aH):n8 md ops (aH.setIfInBounds j true):=by
 intro k o hk hl e he hb;obtain⟨_,oj,SO,ij⟩:=mem_ready.1 hj;by_cases hkj:j=k
 ·subst hkj;rw[SO]at hk;injection hk with hk;subst hk;exact getD_set_true (ij e he hb)
 ·rw[getD_set_ne false hkj]at hl;exact getD_set_true (h k o hk hl e he hb)
def tV (md:Region.Mode) (ops:Array Oper) (i:Nat):List Nat->List Nat->Bool
 | _,[]=>true
 | seen,j::r=>((ops[j]?).map fun o=>o.after.any fun e=>Region.binds md e&&(e.on==i||seen.contains e.on)).getD false&&tV md ops i (j::seen) r
theorem uN {i:Nat} {aH:Array Bool} (hc:n8 md ops aH):∀(D seen:List Nat),tV md ops i seen D=true->(∀k∈seen,aH.getD k false=true->aH.getD i false=true)->∀j∈D,∀o,ops[j]? =some o->(∀e∈o.after,Region.binds md e=true->aH.getD e.on false=true)->aH.getD i false=true
 | [],_,_,_,j,hj,_,_,_=>by simp at hj
 | k::r,seen,h,hs,j,hj,o,ho,ij=>by
  simp only[tV,ab]at h;have hk:∀o,ops[k]? =some o->(∀e∈o.after,Region.binds md e=true->aH.getD e.on false=true)->aH.getD i false=true:=by
   intro o ho ij;have h1:=h.1;rw[ho]at h1;simp only[bP,iy,Array.any_eq_true',ab,cp,iR]at h1;obtain⟨e,he,hb,Jv⟩:=h1;rcases Jv with Jv | Jv
   ·rw[<-Jv];exact ij e he hb
   ·exact hs _ (by simpa using Jv) (ij e he hb)
  rcases ak.1 hj with rfl | hj
  ·exact hk o ho ij
  ·refine uN hc r (k::seen) h.2 ?_ j hj o ho ij;intro x hx hl;rcases ak.1 hx with rfl | hx
   ·have h1:=h.1;cases hx2:ops[x]? with
    | none=>rw[hx2]at h1;simp at h1
    | some ox=>exact hk ox hx2 (hc x ox hx2 hl)
   ·exact hs x hx hl
theorem n9 {i:Nat} {oi:Oper} {v:Value} {D:List Nat} (hi:ops[i]? =some oi) (aaZ:∀(j:Nat) (o:Oper) cs b,ops[j]? =some o->o.op≠.select cs b)
  (hQ:∀c a w,Q (.panic c) (a.put oi.dst v) w->Q (.panic c) a w) (hD:tV md ops i [] D=true)
  (N:List Nat) (oJ:∀j w w',j∉D->j∉N->F w->E j w w'->F w') (NB:∀w,F w->E i w w):
  ∀(dJ:Nat) (aH:Array Bool) (a:Act) (w:World),n8 md ops aH->(∀k∈N,aH.getD k true=true)->
   (∀j oj,ops[j]? =some oj->j≠i->aH.getD j true=false->(∀e∈oj.after,Region.binds md e=true->e.on≠i)->oi.apart ops oj=true)->
   i∈Region.ready md ops aH->YieldsIf P ops F oi v a->F w->
   eH P md ops Q E dJ (aH.setIfInBounds i true) (a.put oi.dst v) w->eH P md ops Q E (dJ+1) aH a w:=by
 intro dJ
 induction dJ with
 | zero=>
  intro aH a w _ _ _ hr hy hF H;refine⟨fun h=>(by rw[h]at hr;cases hr),fun j hj=>?_⟩;by_cases SP:j=i
  ·subst SP;exact hy.wpOp hi hF ⟨NB w hF,H⟩
  ·have:=ready_mono hj SP;rw[H.1]at this;cases this
 | succ dJ ih=>
  intro aH a w nY hN Ig hr hy hF H;refine⟨fun h=>(by rw[h]at hr;cases hr),fun j hj=>?_⟩;by_cases SP:j=i
  ·subst SP;exact hy.wpOp hi hF ⟨NB w hF,H⟩
  ·have h1:=H.2 j (ready_mono hj SP);obtain⟨U8,oj,SO,ij⟩:=mem_ready.1 hj;have U9:=(mem_ready.1 hr).1;have hli:aH.getD i false=false:=by
    rcases me i aH.size with h' | h'
    ·simp[h']at U9⊢;exact U9
    ·simp[dP h']at U9
   have agG:∀e∈oj.after,Region.binds md e=true->e.on≠i:=fun e he hb heq=>by
    have h1:=ij e he hb;rw[heq,hli]at h1;cases h1
   have hjD:j∉D:=fun hm=>by
    have:=uN nY D [] hD (by simp) j hm oj SO ij;rw[hli]at this;cases this
   have hjN:j∉N:=fun hm=>by
    have:=hN j hm;rw[U8]at this;cases this
   have hN':∀k∈N,(aH.setIfInBounds j true).getD k true=true:=fun k hk=>by
    by_cases hjk:j=k
    ·subst hjk;exact absurd hk hjN
    ·rw[getD_set_ne true hjk];exact hN k hk
   have h2:=wpOp_putIf SO (Ig j oj SO SP U8 agG) (fun cs b=>aaZ i oi cs b hi) (fun cs b=>aaZ j oj cs b SO) hQ hy h1;have Bo:∀k ok,ops[k]? =some ok->k≠i->(aH.setIfInBounds j true).getD k true=false->
     (∀e∈ok.after,Region.binds md e=true->e.on≠i)->oi.apart ops ok=true:=fun k ok hk hki WQ hno=>by
    refine Ig k ok hk hki ?_ hno;by_cases hjk:j=k
    ·subst hjk;exact U8
    ·rw[getD_set_ne true hjk]at WQ;exact WQ
   refine wpOp_mono (fun a' w' h3=>⟨h3.2.1,ih (aH.setIfInBounds j true) a' w' (nY.add hj) hN' Bo (ready_mono hr (Ne.symm SP)) h3.1 (oJ j w w' hjD hjN hF h3.2.1) ?_⟩) h2;rw[Array.setIfInBounds_comm _ _ SP];exact h3.2.2
theorem Kp (i:Nat) {dQ:List Oper} {oi:Oper} {a a':Act} {w:World} {dJ:Nat} {aH:Array Bool} (D N:List Nat) (v:Value) (F:World->Prop) (hi:fm dQ i=some oi)
  (hs:Region.noSelect dQ.toArray=true) (hf:Region.free md dQ.toArray aH i=true) (hr:(Region.ready md dQ.toArray aH).contains i=true) (hc:Aa md dQ.toArray aH=true) (hD:tV md dQ.toArray i [] D=true) (hN:(N.all fun k=>aH.getD k true)=true)
  (hQ:∀c a w,Q (.panic c) (a.put oi.dst v) w->Q (.panic c) a w) (oJ:∀j w w',j∉D->j∉N->F w->E j w w'->F w') (NB:∀w,F w->E i w w) (hF:F w)
  (hy:YieldsIf P dQ.toArray F oi v a) (ha:a.put oi.dst v=a')
  (h:eH P md dQ.toArray Q E dJ (aH.setIfInBounds i true) a' w):eH P md dQ.toArray Q E (dJ+1) aH a w:=by
 subst ha;have u7:dQ.toArray[i]? =some oi:=by rw[io]at hi;simpa using hi
 exact n9 u7 (Region.noSelect_spec hs) hQ hD N oJ NB dJ aH a w (yV hc) (fun k hk=>by simpa using(cJ.1 hN) k hk) (Region.free_spec u7 hf) (by simpa using hr) hy hF h
theorem XD (i:Nat) {dQ:List Oper} {oi:Oper} {a:Act} {w:World} {dJ:Nat} {aH:Array Bool} (hi:fm dQ i=some oi) (hr:Region.ready md dQ.toArray aH=[i])
  (hg:Region.wanted oi (yielded dQ.toArray a.tmps)=true)
  (h:oi.wp P a w (fun a' w'=>E i w w'/\eH P md dQ.toArray Q E dJ (aH.setIfInBounds i true) a' w') Q):eH P md dQ.toArray Q E (dJ+1) aH a w:=by
 have u7:dQ.toArray[i]? =some oi:=by rw[io]at hi;simpa using hi
 refine⟨fun h0=>(by rw[h0]at hr;cases hr),fun j hj=>?_⟩;rw[hr]at hj;obtain rfl:j=i:=by simpa using hj
 unfold wpOp;simp only[u7];rw[if_pos hg];exact .inl h
theorem Pb (i:Nat) {dQ:List Oper} {oi:Oper} {a a':Act} {w:World} {dJ:Nat} {aH:Array Bool} (hi:fm dQ i=some oi) (hr:Region.ready md dQ.toArray aH=[i])
  (hg:Region.wanted oi (yielded dQ.toArray a.tmps)=false) (hE:E i w w) (ha:a.put oi.dst undef=a')
  (h:eH P md dQ.toArray Q E dJ (aH.setIfInBounds i true) a' w):eH P md dQ.toArray Q E (dJ+1) aH a w:=by
 subst ha;have u7:dQ.toArray[i]? =some oi:=by rw[io]at hi;simpa using hi
 refine⟨fun h0=>(by rw[h0]at hr;cases hr),fun j hj=>?_⟩;rw[hr]at hj;obtain rfl:j=i:=by simpa using hj
 unfold wpOp;simp only[u7];rw[if_neg (by simp[hg])];exact⟨hE,h⟩
theorem XE (i j:Nat) {dQ:List Oper} {oi oj:Oper} {a:Act} {w:World} {dJ:Nat} {aH:Array Bool} (hi:fm dQ i=some oi) (hj:fm dQ j=some oj) (hr:Region.ready md dQ.toArray aH=[i,j])
  (h1:if Region.wanted oi (yielded dQ.toArray a.tmps)then oi.wp P a w (fun a' w'=>E i w w'/\eH P md dQ.toArray Q E dJ (aH.setIfInBounds i true) a' w') Q∨(oi.asks P a w/\LetsOut Q)
   else(fun a' w'=>E i w w'/\eH P md dQ.toArray Q E dJ (aH.setIfInBounds i true) a' w') (a.put oi.dst undef) w)
  (h2:if Region.wanted oj (yielded dQ.toArray a.tmps)then oj.wp P a w (fun a' w'=>E j w w'/\eH P md dQ.toArray Q E dJ (aH.setIfInBounds j true) a' w') Q∨(oj.asks P a w/\LetsOut Q)
   else(fun a' w'=>E j w w'/\eH P md dQ.toArray Q E dJ (aH.setIfInBounds j true) a' w') (a.put oj.dst undef) w):eH P md dQ.toArray Q E (dJ+1) aH a w:=by
 have u7:dQ.toArray[i]? =some oi:=by rw[io]at hi;simpa using hi
 have Oz:dQ.toArray[j]? =some oj:=by rw[io]at hj;simpa using hj
 refine⟨fun h0=>(by rw[h0]at hr;cases hr),fun k hk=>?_⟩;rw[hr]at hk;unfold wpOp;rcases ak.1 hk with rfl | hk
 ·simp only[u7];exact h1
 ·obtain rfl:k=j:=by simpa using hk
  simp only[Oz];exact h2
theorem Tx {aH:Array Bool} {a:Act} {w:World} {dJ:Nat} (hr:Region.ready md ops aH=[]) (h:Q .normal a w):eH P md ops Q E dJ aH a w:=by
 cases dJ with
 | zero=>exact⟨hr,h⟩
 | succ n=>exact⟨fun _=>h,by rw[hr];simp⟩
theorem BZ {id:Nat} {dQ:List Oper} {a:Act} {w:World} (E:Nat->World->World->Prop) (hm:P.follows .mixedOrders=true)
  (h:eH P .any dQ.toArray Q E dQ.length (Array.replicate dQ.length false) a w.drew):(Code.region id dQ.toArray true).wp P Q a w:=by
 refine wp_region_any hm (wy (E:=E) _ _ _ _ ?_);simpa using h
theorem Kq (a:Addr) (n:Nat):(a.add n).block=a.block:=by unfold Addr.add;split<;>rfl
theorem cD.blk {s:Sl} {i:Int} {size:Nat} {ad:Addr} (h:cD s i size ad):ad.block=s.blk:=by
 obtain⟨base,h1,_,_,h2⟩:=h;rw[h2,Kq,Sl.blk,h1]
theorem EF {s:Sl} {l:List UInt8} (w w':World) (h:w'.heap[s.blk]? =w.heap[s.blk]?) (hc:se w s l):se w' s l:=
 ⟨hc.1,fun hl=>by
  obtain⟨ad,h1,h2⟩:=hc.2 hl;refine⟨ad,h1,h2.keep ?_⟩;simpa[Sl.blk,h1]using h⟩
theorem Ri {dQ:List Oper} {o:Oper} {v:Value} {a:Act} (hg:Region.wanted o (yielded dQ.toArray a.tmps)=true) (h:∀w,F w->(execOp a.eval o).run P w=.ok (.value v) w):YieldsIf P dQ.toArray F o v a:=.inl ⟨hg,h⟩
theorem XF {dQ:List Oper} {o:Oper} {a:Act} (hg:Region.wanted o (yielded dQ.toArray a.tmps)=false):YieldsIf P dQ.toArray F o undef a:=.inr ⟨hg,rfl⟩
end
end Go.Kt
namespace Go.Kt
open Go Go.RowKit
set_option linter.unusedSimpArgs false
set_option linter.unusedVariables false
def InI (x:Int):Prop:= -9223372036854775808<=x/\x<=9223372036854775807
theorem wr {x:Int} (h:InI x):IntKind.i64.wrap x=x:=IntWalk.i64_in _ ⟨h.1,h.2⟩
theorem gV {x:Int} (h1: -9223372036854775808<=x) (h2:x<=9223372036854775807):IntKind.i64.wrap x=x:=IntWalk.i64_in _ ⟨h1,h2⟩
theorem Kr (x:Int):InI (IntKind.i64.wrap x):=by
 rw[IntKind.wrap_i64];constructor<;>omega
abbrev Rp (α:Type):=World->(Nat->Prop)->α->List Value->Prop
structure Rp.Ok {α:Type} (r:Rp α):Prop where
 keep:∀{w w':World} {F:Nat->Prop} {x:α} {cs:List Value},r w F x cs->(∀k,F k->k<w.heap.size->w'.heap[k]? =w.heap[k]?)->r w' F x cs
 inHeap:∀{w:World} {F:Nat->Prop} {x:α} {cs:List Value},r w F x cs->r w (fun k=>F k/\k<w.heap.size) x cs
 mono:∀{w:World} {F G:Nat->Prop} {x:α} {cs:List Value},r w F x cs->(∀k,F k->G k)->r w G x cs
 one:∀{w:World} {F:Nat->Prop} {x:α} {cs:List Value},r w F x cs->∀v,v∈cs->v.oneCell'=true
section
variable {α:Type} {r:Rp α} {size:Nat} {w w':World} {F G:Nat->Prop} {s:Sl} {xs:List α}
structure SliceF (r:Rp α) (size:Nat) (w:World) (F:Nat->Prop) (s:Sl) (xs:List α):Prop where
 len:s.n=xs.length
 cap:s.n<=s.c
 nil0:s.a=none->s.c=0
 big:s.c<=9223372036854775807
 at_:∀j x,xs[j]? =some x->∃base cs,s.a=some base/\F base.block/\cs.length=size/\aB w (base.add (j*size)) cs/\r w F x cs
theorem oa (a:Addr) (n:Nat):(a.add n).block=a.block:=by unfold Addr.add;split<;>rfl
theorem nq (a:Addr) (i j:Nat):(a.add i).add j=a.add (i+j):=by
 unfold Addr.add;by_cases hi:i=0<;>by_cases hj:j=0<;>simp[hi,hj,cb]
theorem yW (a:Addr):a.add 0=a:=rfl
theorem eV (b o n:Nat):(⟨b,o,none⟩:Addr).add n=⟨b,o+n,none⟩:=by unfold Addr.add;split<;>simp_all
theorem aB.sub {a:Addr} {cs vs:List Value} (h:aB w a cs) (k:Nat) (hv:∀j v,vs[j]? =some v->cs[k+j]? =some v):aB w (a.add k) vs:=fun j v hj=>by
 rw[nq];exact h _ v (hv j v hj)
theorem aB.eo {a:Addr} {cs:List Value} (h:aB w a cs) (k:Nat) (v:Value) (hv:cs[k]? =some v):aB w (a.add k) [v]:=h.sub k fun j u hj=>by
 cases j with
 | zero=>simpa[hv]using hj
 | succ j=>simp at hj
theorem SliceF.nil (r:Rp α) (size:Nat) (w:World) (F:Nat->Prop):SliceF r size w F Sl.nil []:=⟨rfl,aq _,fun _=>rfl,by decide,fun j x h=>by simp at h⟩
theorem SliceF.keep (hr:r.Ok) (h:SliceF r size w F s xs) (hs:0<size) (hk:∀k,F k->k<w.heap.size->w'.heap[k]? =w.heap[k]?):SliceF r size w' F s xs:=
 ⟨h.len,h.cap,h.nil0,h.big,fun j x hx=>by
  obtain⟨base,cs,h1,h2,h3,h4,h5⟩:=h.at_ j x hx;refine⟨base,cs,h1,h2,h3,h4.keep ?_,hr.keep h5 hk⟩;have bp:(base.add (j*size)).block<w.heap.size:=by
   cases cs with
   | nil=>simp at h3;omega
   | cons c cs=>exact h4.lt
  rw[oa]at bp⊢;exact hk _ h2 bp⟩
theorem SliceF.mono (hr:r.Ok) (h:SliceF r size w F s xs) (hk:∀k,F k->G k):SliceF r size w G s xs:=
 ⟨h.len,h.cap,h.nil0,h.big,fun j x hx=>by
  obtain⟨base,cs,h1,h2,h3,h4,h5⟩:=h.at_ j x hx;exact⟨base,cs,h1,hk _ h2,h3,h4,hr.mono h5 hk⟩⟩
theorem SliceF.inHeap (hr:r.Ok) (h:SliceF r size w F s xs) (hs:0<size):SliceF r size w (fun k=>F k/\k<w.heap.size) s xs:=
 ⟨h.len,h.cap,h.nil0,h.big,fun j x hx=>by
  obtain⟨base,cs,h1,h2,h3,h4,h5⟩:=h.at_ j x hx;refine⟨base,cs,h1,⟨h2,?_⟩,h3,h4,hr.inHeap h5⟩;have bp:(base.add (j*size)).block<w.heap.size:=by
   cases cs with
   | nil=>simp at h3;omega
   | cons c cs=>exact h4.lt
  rwa[oa]at bp⟩
theorem SliceF.get (h:SliceF r size w F s xs) {i:Int} (h0:0<=i) (h1:i<s.n):
  ∃ad x cs,cD s i size ad/\xs[i.toNat]? =some x/\F ad.block/\cs.length=size/\aB w ad cs/\r w F x cs:=by
 have hl:=h.len;have bp:i.toNat<xs.length:=by omega
 obtain⟨base,cs,g1,g2,g3,g4,g5⟩:=h.at_ i.toNat _ (bn bp);exact⟨_,_,cs,⟨base,g1,h0,h1,rfl⟩,bn bp,by rw[oa];exact g2,g3,g4,g5⟩
theorem SliceF.mem (h:SliceF r size w F s xs) {x:α} (hx:x∈xs):∃cs,r w F x cs:=by
 obtain⟨j,hj⟩:=eF hx;obtain⟨_,cs,_,_,_,_,h5⟩:=h.at_ j x hj;exact⟨cs,h5⟩
theorem cD.QL {i:Int} {a b:Addr} (h:cD s i size a) (k:cD s i size b):a=b:=by
 obtain⟨x,h1,_,_,h2⟩:=h;obtain⟨y,k1,_,_,k2⟩:=k;rw[h1]at k1;injection k1 with k1;rw[h2,k2,k1]
theorem SliceF.cut (h:SliceF r size w F s xs) {lo hi m:Nat} (h1:lo<=hi) (h2:hi<=m) (h3:hi<=s.n) (h4:m<=s.c):SliceF r size w F (s.cut lo hi m size) ((xs.drop lo).take (hi-lo)):=by
 have hl:=h.len;refine⟨?_,?_,fun ha=>?_,by have:=h.big;simp only[Sl.cut];omega,fun j x hx=>?_⟩
 ·simp only[Sl.cut,ck,bK];omega
 ·simp only[Sl.cut];omega
 ·simp only[Sl.cut]at ha⊢;split at ha
  ·omega
  ·have:=h.nil0 (by simpa using ha);omega
 ·rw[qY]at hx;split at hx
  ·rename_i hj;rw[iT]at hx;obtain⟨base,cs,g1,g2,g3,g4,g5⟩:=h.at_ _ _ hx;refine⟨base.add (lo*size),cs,?_,by rw[oa];exact g2,g3,?_,g5⟩
   ·simp only[Sl.cut];rw[if_neg (by omega),g1];rfl
   ·rw[nq,<-dH];exact g4
  ·cases hx
end
structure BytesF (w:World) (F:Nat->Prop) (s:Sl) (l:List UInt8):Prop where
 rd:se w s l
 cap:s.n<=s.c
 blk:∀ad,s.a=some ad->l≠[]->F ad.block
section
variable {w w':World} {F G:Nat->Prop} {s:Sl} {l:List UInt8}
theorem se.lt (h:se w s l) {ad:Addr} (ha:s.a=some ad) (hl:l≠[]):ad.block<w.heap.size:=by
 obtain⟨Ox,h1,h2⟩:=h.2 hl;rw[ha]at h1;injection h1 with h1;subst h1;cases l with
 | nil=>exact absurd rfl hl
 | cons c l=>exact h2.lt
theorem BytesF.nil (w:World) (F:Nat->Prop):BytesF w F Sl.nil []:=⟨⟨rfl,fun h=>absurd rfl h⟩,aq _,fun _ _ h=>absurd rfl h⟩
theorem BytesF.keep (h:BytesF w F s l) (hk:∀k,F k->k<w.heap.size->w'.heap[k]? =w.heap[k]?):BytesF w' F s l:=
 ⟨⟨h.rd.1,fun hl=>by
  obtain⟨ad,h1,h2⟩:=h.rd.2 hl;exact⟨ad,h1,h2.keep (hk _ (h.blk ad h1 hl) (h.rd.lt h1 hl))⟩⟩,h.cap,h.blk⟩
theorem BytesF.mono (h:BytesF w F s l) (hk:∀k,F k->G k):BytesF w G s l:=⟨h.rd,h.cap,fun ad ha hl=>hk _ (h.blk ad ha hl)⟩
theorem BytesF.inHeap (h:BytesF w F s l):BytesF w (fun k=>F k/\k<w.heap.size) s l:=⟨h.rd,h.cap,fun ad ha hl=>⟨h.blk ad ha hl,h.rd.lt ha hl⟩⟩
end
theorem Only.old {bs:List Nat} {w w':World} (h:Only bs w w') {B:Nat} (hb:∀b∈bs,B<=b):∀k,k<B->k<w.heap.size->w'.heap[k]? =w.heap[k]? :=
 fun k hk bp=>h.block k bp fun hm=>by have:=hb k hm;omega
def ey {α:Type} (P:α->List Value->Prop):List α->List (List Value)->Prop
 | [],[]=>True
 | x::xs,c::cs=>P x c/\ey P xs cs
 | _,_=>False
section
variable {α:Type} {P Q:α->List Value->Prop}
theorem ey.len:∀{xs:List α} {css:List (List Value)},ey P xs css->xs.length=css.length
 | [],[],_=>rfl
 | x::xs,c::cs,h=>by simp[ey.len (xs:=xs) (css:=cs) h.2]
 | [],_::_,h=>h.elim
 | _::_,[],h=>h.elim
theorem ey.imp (hi:∀x c,P x c->Q x c):∀{xs:List α} {css:List (List Value)},ey P xs css->ey Q xs css
 | [],[],_=>trivial
 | x::xs,c::cs,h=>⟨hi _ _ h.1,ey.imp hi (xs:=xs) (css:=cs) h.2⟩
 | [],_::_,h=>h.elim
 | _::_,[],h=>h.elim
theorem ey.oT:∀{xs ys:List α} {css BI:List (List Value)},ey P xs css->ey P ys BI->ey P (xs++ys) (css++BI)
 | [],_,[],_,_,k=>k
 | x::xs,_,c::cs,_,h,k=>⟨h.1,ey.oT (xs:=xs) (css:=cs) h.2 k⟩
 | [],_,_::_,_,h,_=>h.elim
 | _::_,_,[],_,h,_=>h.elim
theorem ey.get:∀{xs:List α} {css:List (List Value)},ey P xs css->∀{j:Nat} {x:α},xs[j]? =some x->∃cs,css[j]? =some cs/\P x cs
 | [],[],_,j,x,h=>by simp at h
 | y::xs,c::cs,k,0,x,h=>by
  simp only[bm,ai]at h;subst h;exact⟨c,rfl,k.1⟩
 | y::xs,c::cs,k,j+1,x,h=>by
  simp only[bQ]at h⊢;exact ey.get (xs:=xs) (css:=cs) k.2 h
 | [],_::_,h,_,_,_=>h.elim
 | _::_,[],h,_,_,_=>h.elim
theorem ey.mem:∀{xs:List α} {css:List (List Value)},ey P xs css->∀c,c∈css->∃x,P x c
 | [],[],_,c,h=>by simp at h
 | y::xs,d::cs,k,c,h=>by
  rcases ak.1 h with rfl | h
  ·exact⟨y,k.1⟩
  ·exact ey.mem (xs:=xs) (css:=cs) k.2 c h
 | [],_::_,h,_,_=>h.elim
 | _::_,[],h,_,_=>h.elim
theorem ey.take:∀(n:Nat) {xs:List α} {css:List (List Value)},ey P xs css->ey P (xs.take n) (css.take n)
 | 0,_,_,_=>by simp[ey]
 | _+1,[],[],_=>by simp[ey]
 | n+1,x::xs,c::cs,h=>by simp only[fJ];exact⟨h.1,ey.take n (xs:=xs) (css:=cs) h.2⟩
 | _,[],_::_,h=>h.elim
 | _,_::_,[],h=>h.elim
theorem ey.drop:∀(n:Nat) {xs:List α} {css:List (List Value)},ey P xs css->ey P (xs.drop n) (css.drop n)
 | 0,_,_,h=>by simpa using h
 | _+1,[],[],_=>by simp[ey]
 | n+1,x::xs,c::cs,h=>by simp only[im];exact ey.drop n (xs:=xs) (css:=cs) h.2
 | _,[],_::_,h=>h.elim
 | _,_::_,[],h=>h.elim
theorem ey.set:∀{xs:List α} {css:List (List Value)} (j:Nat) {x:α} {c:List Value},ey P xs css->P x c->ey P (xs.set j x) (css.set j c)
 | [],[],_,_,_,_,_=>by simp[ey]
 | y::xs,d::cs,0,x,c,h,k=>⟨k,h.2⟩
 | y::xs,d::cs,j+1,x,c,h,k=>⟨h.1,ey.set (xs:=xs) (css:=cs) j h.2 k⟩
 | [],_::_,_,_,_,h,_=>h.elim
 | _::_,[],_,_,_,h,_=>h.elim
end
theorem wz {css:List (List Value)} {size:Nat} (h:∀c,c∈css->c.length=size):css.flatten.length=css.length*size:=by
 induction css with
 | nil=>simp
 | cons c cs ih=>
  rw[bT,ah,h c (by simp),ih (fun d hd=>h d (by simp[hd])),ao,dH];omega
theorem Gi {css:List (List Value)} {size:Nat} (h:∀c,c∈css->c.length=size):∀{j i:Nat} {cs:List Value} {v:Value},css[j]? =some cs->cs[i]? =some v->css.flatten[j*size+i]? =some v:=by
 induction css with
 | nil=>intro j i cs v hj;simp at hj
 | cons c cs ih=>
  intro j i ds v hj hi;have hc:=h c (by simp);cases j with
  | zero=>
   simp only[bm,ai]at hj;subst hj;have bp:i<c.length:=(au.1 hi).1;simp only[ki,aJ,bT];rw[aR bp];exact hi
  | succ j=>
   simp only[bQ]at hj;have:=ih (fun d hd=>h d (by simp[hd])) hj hi;rw[bT,bh (by rw[hc,dH];omega),hc];rw[show(j+1)*size+i-size=j*size+i by rw[dH];omega];exact this
theorem IB {css:List (List Value)} {size:Nat} (h:∀c,c∈css->c.length=size):∀(n:Nat),css.flatten.take (n*size)=(css.take n).flatten:=by
 induction css with
 | nil=>intro n;simp
 | cons c cs ih=>
  intro n;cases n with
  | zero=>simp
  | succ n=>
   have hc:=h c (by simp);rw[bT,fJ,bT,List.take_append,<-ih (fun d hd=>h d (by simp[hd])),hc,show(n+1)*size-size=n*size by rw[dH];omega,aO (by rw[hc,dH];omega)]
theorem EG {cs:List Value} {o:Nat} {v:Value} (h:o<cs.length):bF cs o [v]=cs.set o v:=by
 rw[bF,List.set_eq_take_append_cons_drop,if_pos h];simp
theorem B0 {size:Nat} {tail:List Value} {i:Nat} {v:Value}:∀{css:List (List Value)} {n:Nat} {cs:List Value},(∀c,c∈css->c.length=size)->css[n]? =some cs->i<size->
  (css.flatten++tail).set (n*size+i) v=(css.set n (cs.set i v)).flatten++tail
 | [],n,cs,_,hn,_=>by simp at hn
 | c::css,0,cs,h,hn,hi=>by
  simp only[bm,ai]at hn;subst hn;have hc:=h c (by simp);simp only[ki,aJ,bT,Ed,av];rw[List.set_append_left _ _ (by omega)]
 | c::css,n+1,cs,h,hn,hi=>by
  simp only[bQ]at hn;have hc:=h c (by simp);have ih:=B0 (tail:=tail) (v:=v) (fun d hd=>h d (by simp[hd])) hn hi;simp only[bT,List.set_cons_succ,av];rw[yr _ _ (by rw[hc,dH];omega),hc,show(n+1)*size+i-size=n*size+i by rw[dH];omega,ih]
section
variable {w w':World} {a:Addr} {cs ds:List Value}
theorem aB.oT (h:aB w a cs) (k:aB w (a.add cs.length) ds):aB w a (cs++ds):=fun j v hj=>by
 by_cases bp:j<cs.length
 ·rw[aR bp]at hj;exact h j v hj
 ·rw[bh (by omega)]at hj;have:=k _ v hj;rw[nq,show cs.length+(j-cs.length)=j by omega]at this;exact this
theorem aB.nil (w:World) (a:Addr):aB w a []:=fun j v hj=>by simp at hj
theorem aB.take (h:aB w a cs) (n:Nat):aB w a (cs.take n):=fun j v hj=>by
 rw[qY]at hj;split at hj
 ·exact h j v hj
 ·cases hj
theorem aB.left (h:aB w a (cs++ds)):aB w a cs:=fun j v hj=>h j v (by
 have bp:j<cs.length:=(au.1 hj).1;rw[aR bp];exact hj)
end
section
variable {α:Type} {r:Rp α} {size:Nat} {w w':World} {F G:Nat->Prop} {s y:Sl} {xs ys:List α} {e:TypeId} {B:Nat}
abbrev kY (r:Rp α) (size:Nat) (w:World) (F:Nat->Prop):List α->List (List Value)->Prop:=ey fun x cs=>cs.length=size/\r w F x cs
theorem kY.sz {css:List (List Value)} (h:kY r size w F xs css):∀c,c∈css->c.length=size:=fun c hc=>by
 obtain⟨_,h1,_⟩:=h.mem c hc;exact h1
theorem kY.keep (hr:r.Ok) {css:List (List Value)} (h:kY r size w F xs css) (hk:∀k,F k->k<w.heap.size->w'.heap[k]? =w.heap[k]?):kY r size w' F xs css:=
 h.imp fun _ _ h1=>⟨h1.1,hr.keep h1.2 hk⟩
theorem kY.mono (hr:r.Ok) {css:List (List Value)} (h:kY r size w F xs css) (hk:∀k,F k->G k):kY r size w G xs css:=
 h.imp fun _ _ h1=>⟨h1.1,hr.mono h1.2 hk⟩
theorem kY.inHeap (hr:r.Ok) {css:List (List Value)} (h:kY r size w F xs css):kY r size w (fun k=>F k/\k<w.heap.size) xs css:=
 h.imp fun _ _ h1=>⟨h1.1,hr.inHeap h1.2⟩
theorem SliceF.Nt {base:Addr}:∀(xs:List α) (k:Nat),(∀j x,xs[j]? =some x->∃cs,cs.length=size/\aB w (base.add ((k+j)*size)) cs/\r w F x cs)->
  ∃css,kY r size w F xs css/\aB w (base.add (k*size)) css.flatten
 | [],k,_=>⟨[],trivial,aB.nil _ _⟩
 | x::xs,k,h=>by
  obtain⟨cs,h1,h2,h3⟩:=h 0 x rfl;obtain⟨css,k1,k2⟩:=SliceF.Nt xs (k+1) (fun j y hj=>by
   obtain⟨ds,g1,g2,g3⟩:=h (j+1) y (by simpa using hj);exact⟨ds,g1,by rw[show k+1+j=k+(j+1) by omega];exact g2,g3⟩)
  refine⟨cs::css,⟨⟨h1,h3⟩,k1⟩,?_⟩;rw[bT];refine aB.oT (by simpa using h2) ?_;rw[nq,h1,show k*size+size=(k+1)*size by rw[dH];omega];exact k2
theorem SliceF.flat (h:SliceF r size w F s xs) (hx:xs≠[]):∃base css,s.a=some base/\F base.block/\kY r size w F xs css/\aB w base css.flatten:=by
 cases xs with
 | nil=>exact absurd rfl hx
 | cons x xs=>
  obtain⟨base,_,h1,h2,_⟩:=h.at_ 0 x rfl;obtain⟨css,k1,k2⟩:=SliceF.Nt (r:=r) (size:=size) (w:=w) (F:=F) (base:=base) (x::xs) 0 (fun j y hj=>by
   obtain⟨b',cs,g1,g2,g3,g4,g5⟩:=h.at_ j y hj;rw[h1]at g1;injection g1 with g1;subst g1;exact⟨cs,g3,by simpa using g4,g5⟩)
  exact⟨base,css,h1,h2,k1,by rw[ki,yW]at k2;exact k2⟩
theorem SliceF.of {base:Addr} {css:List (List Value)} (he:kY r size w F xs css) (ha:s.a=some base) (hF:F base.block) (hc:aB w base css.flatten) (hn:s.n=xs.length) (Bp:s.n<=s.c) (WR:s.c<=9223372036854775807):SliceF r size w F s xs:=
 ⟨hn,Bp,fun h=>(by rw[ha]at h;cases h),WR,fun j x hx=>by
  obtain⟨cs,h1,h2,h3⟩:=he.get hx;exact⟨base,cs,ha,hF,h2,fun i v hi=>by rw[nq];exact hc _ v (Gi he.sz h1 hi),h3⟩⟩
def Own (r:Rp α) (size:Nat) (e:TypeId) (B:Nat) (w:World) (F:Nat->Prop) (s:Sl) (xs:List α):Prop:=
 (s=Sl.nil/\xs=[])∨∃g css tail,s.a=some ⟨g,0,none⟩/\B<=g/\Blk w g e (css.flatten++tail)/\tail.length=(s.c-s.n)*size/\s.n=xs.length/\s.n<=s.c/\s.c<=9223372036854775807/\kY r size w (fun k=>F k/\k≠g) xs css
theorem Own.len (h:Own r size e B w F s xs):s.n=xs.length:=by
 rcases h with⟨rfl,rfl⟩ | ⟨g,css,tail,_,_,_,_,h,_⟩
 ·rfl
 ·exact h
theorem Own.cap (h:Own r size e B w F s xs):s.n<=s.c:=by
 rcases h with⟨rfl,rfl⟩ | ⟨g,css,tail,_,_,_,_,_,h,_,_⟩
 ·exact aq _
 ·exact h
theorem Own.slice (hr:r.Ok) (h:Own r size e B w F s xs):SliceF r size w (fun k=>F k∨(B<=k/\s.a=some ⟨k,0,none⟩)) s xs:=by
 rcases h with⟨rfl,rfl⟩ | ⟨g,css,tail,h1,h2,h4,h5,h6,h7,h9,h8⟩
 ·exact SliceF.nil _ _ _ _
 ·exact SliceF.of (h8.mono hr fun k hk=>.inl hk.1) h1 (.inr ⟨h2,h1⟩) (h4.cells 0 _ fun j v hj=>by
   rw[aJ,aR (au.1 hj).1];exact hj) h6 h7 h9
theorem Own.keep (hr:r.Ok) (h:Own r size e B w F s xs) (hk:∀k,(F k∨(B<=k/\s.a=some ⟨k,0,none⟩))->k<w.heap.size->w'.heap[k]? =w.heap[k]?):Own r size e B w' F s xs:=by
 rcases h with⟨rfl,rfl⟩ | ⟨g,css,tail,h1,h2,h4,h5,h6,h7,h9,h8⟩
 ·exact .inl ⟨rfl,rfl⟩
 ·exact .inr ⟨g,css,tail,h1,h2,(hk g (.inr ⟨h2,h1⟩) h4.lt).trans h4,h5,h6,h7,h9,h8.keep hr fun k hF=>hk k (.inl hF.1)⟩
theorem Own.mono (hr:r.Ok) (h:Own r size e B w F s xs) (hk:∀k,F k->G k):Own r size e B w G s xs:=by
 rcases h with⟨rfl,rfl⟩ | ⟨g,css,tail,h1,h2,h4,h5,h6,h7,h9,h8⟩
 ·exact .inl ⟨rfl,rfl⟩
 ·exact .inr ⟨g,css,tail,h1,h2,h4,h5,h6,h7,h9,h8.mono hr fun k h=>⟨hk k h.1,h.2⟩⟩
theorem Own.low {B':Nat} (h:Own r size e B w F s xs) (hB:B'<=B):Own r size e B' w F s xs:=by
 rcases h with⟨rfl,rfl⟩ | ⟨g,css,tail,h1,h2,h4⟩
 ·exact .inl ⟨rfl,rfl⟩
 ·exact .inr ⟨g,css,tail,h1,ay hB h2,h4⟩
theorem Own.nil (r:Rp α) (size:Nat) (e:TypeId) (B:Nat) (w:World) (F:Nat->Prop):Own r size e B w F Sl.nil []:=.inl ⟨rfl,rfl⟩
theorem Own.inHeap (hr:r.Ok) (h:Own r size e B w F s xs):Own r size e B w (fun k=>F k/\k<w.heap.size) s xs:=by
 rcases h with⟨rfl,rfl⟩ | ⟨g,css,tail,h1,h2,h4,h5,h6,h7,h9,h8⟩
 ·exact .inl ⟨rfl,rfl⟩
 ·exact .inr ⟨g,css,tail,h1,h2,h4,h5,h6,h7,h9,(h8.inHeap hr).mono hr fun k h=>⟨⟨h.1.1,h.2⟩,h.1.2⟩⟩
theorem Own.blk (h:Own r size e B w F s xs) {ad:Addr} (ha:s.a=some ad):B<=ad.block/\ad.block<w.heap.size:=by
 rcases h with⟨rfl,rfl⟩ | ⟨g,css,tail,h1,h2,h4,_⟩
 ·cases ha
 ·rw[h1]at ha;injection ha with ha;subst ha;exact⟨h2,h4.lt⟩
theorem SliceF.aaP (h:SliceF r size w F s xs):∃css,kY r size w F xs css/\∀base,s.a=some base->aB w base css.flatten:=by
 cases xs with
 | nil=>exact⟨[],trivial,fun b _=>aB.nil _ _⟩
 | cons x xs=>
  obtain⟨base,css,h1,h2,h3,h4⟩:=h.flat (by simp);exact⟨css,h3,fun b hb=>by rw[h1]at hb;injection hb with hb;subst hb;exact h4⟩
theorem kY.FG {css:List (List Value)} (h:kY r size w F xs css):css.flatten.length=xs.length*size:=by rw[wz h.sz,h.len]
theorem kY.one (hr:r.Ok) {css:List (List Value)} (h:kY r size w F xs css):∀v,v∈css.flatten->v.oneCell'=true:=fun v hv=>by
 obtain⟨c,hc,hv⟩:=List.mem_flatten.1 hv;obtain⟨x,_,hx⟩:=h.mem c hc;exact hr.one hx v hv
theorem XG (l m:List Value) (z:Array Value):(l.toArray++m.toArray++z)=(l++m++z.toList).toArray:=by
 apply Array.ext';simp
section
variable {P:Program} {t ty:TypeId} {i:TypeInfo} {z:Value} {bytes:Nat}
theorem si (w:World) (k:Nat) (FK:z.cells.size=size):(Builtin.zeroCells z.cells k).toList.length=k*size:=by
 rw[fK,size_zeroCells,FK]
theorem IC (ht:P.underlying t=some (.slice e)) (hi:P.info? e=some i) (hz:i.zero=some z) (nQ:i.size=size) (QU:i.bytes=bytes) (FK:z.cells.size=size)
  (hr:r.Ok) {css:List (List Value)} (k1:kY r size w F xs css) (k2:∀base,s.a=some base->aB w base css.flatten) (Jw:s.a=none->s.c=0) (qL:s.n=xs.length) (hsc:s.n<=s.c)
  (hy:SliceF r size w F y ys) (nR:s.c<s.n+y.n) (hm:(xs.length+ys.length)*bytes<=140737488355328) (BJ:0<bytes):
  ∃s' w',(Builtin.append_ #[t,t] ty #[s.v,y.v]).run P w=.ok s'.v w'/\Own r size e w.heap.size w' F s' (xs++ys)/\Only [] w w'/\s'.a=some ⟨w.heap.size,0,none⟩:=by
 subst nQ;subst QU;have WR:xs.length+ys.length<=140737488355328:=ay (by have:=Nat.mul_le_mul_left (xs.length+ys.length) BJ;omega) hm;have OA:=hy.len;have SQ:y.n≠0:=by omega
 have hyx:ys≠[]:=fun h=>SQ (by rw[OA,h];rfl);obtain⟨yb,BI,m1,m2,m3,m4⟩:=hy.flat hyx;obtain⟨sa,sn,sc⟩:=s;obtain⟨ya,yn,yc⟩:=y;dsimp only at qL hsc Jw OA SQ nR m1 k2;subst m1;have hold:Only [] w w.drew:=Only.drew w;have key:∀(dL old:Nat),dL=sn+yn->∀W',W'=w.drew.alloc (.cells (css.flatten.toArray++BI.flatten.toArray++Builtin.zeroCells z.cells (grownCap w dL old e-dL)) e)->
   Own r i.size e w.heap.size W' F ⟨some ⟨w.heap.size,0,none⟩,dL,grownCap w dL old e⟩ (xs++ys)/\Only [] w W':=by
  rintro dL old rfl W' rfl;have hO:Only [] w (w.drew.alloc (.cells (css.flatten.toArray++BI.flatten.toArray++Builtin.zeroCells z.cells (grownCap w (sn+yn) old e-(sn+yn))) e)):=hold.cf (Only.alloc _ _);refine⟨.inr ⟨w.heap.size,css++BI,(Builtin.zeroCells z.cells (grownCap w (sn+yn) old e-(sn+yn))).toList,rfl,aq _,?_,si w _ FK,?_,grownCap_ge _ _ _ _,grownCap_le_maxLen _ _ _ _ (by simp only[maxLen];omega),?_⟩,hO⟩
  ·rw[XG,BD];exact Blk.alloc w.drew e _
  ·simp only[ah];omega
  ·refine((kY.mono hr (kY.inHeap hr (ey.oT k1 m3)) (G:=fun k=>F k/\k≠w.heap.size) fun k h=>⟨h.1,by have:=h.2;omega⟩)).keep hr fun k hk bp=>hO.block k bp (by simp)
 cases sa with
 | none=>
  have hsc:sc=0:=Jw rfl;subst hsc;have Va:sn=0:=by omega
  subst Va;have hx:xs=[]:=aW qL.symm;subst hx;cases css with
  | cons c css=>exact k1.elim
  | nil=>
   have qc:=run_append_nil (P:=P) w t ty e i z ht hi hz yb yn yc BI.flatten (by rw[m3.FG,OA]) m4 (by omega) (by omega) (by
    have:(0+ys.length)*i.bytes<=140737488355328:=by simpa using hm
    rw[aJ,<-OA]at this;omega)
   obtain⟨g1,g2⟩:=key yn 0 (by simp) _ rfl;exact⟨⟨some ⟨w.heap.size,0,none⟩,yn,grownCap w yn 0 e⟩,_,qc,by simpa using g1,by simpa using g2,rfl⟩
 | some b=>
  have qc:=run_append_grow (P:=P) w t ty e i z ht hi hz b sn sc css.flatten (by rw[k1.FG,qL]) (k2 b rfl) yb yn yc BI.flatten (by rw[m3.FG,OA]) m4 nR (by omega) (growslice_fits nR (by rw[qL,OA];exact hm));obtain⟨g1,g2⟩:=key (sn+yn) sc rfl _ rfl;exact⟨⟨some ⟨w.heap.size,0,none⟩,sn+yn,grownCap w (sn+yn) sc e⟩,_,qc,g1,g2,rfl⟩
theorem Ks (ht:P.underlying t=some (.slice e)) (hi:P.info? e=some i) (nQ:i.size=size)
  (hr:r.Ok) {g:Nat} {css:List (List Value)} {tail:List Value} (ha:s.a=some ⟨g,0,none⟩) (hB:B<=g) (hb:Blk w g e (css.flatten++tail)) (Ih:tail.length=(s.c-s.n)*size) (hn:s.n=xs.length) (hc:s.n<=s.c) (WR:s.c<=9223372036854775807)
  (hE:kY r size w (fun k=>F k/\k≠g) xs css) (hy:SliceF r size w (fun k=>F k/\k≠g) y ys) (nR:s.n+y.n<=s.c):
  ∃w',(Builtin.append_ #[t,t] ty #[s.v,y.v]).run P w=.ok (Sl.v ⟨s.a,s.n+y.n,s.c⟩) w'/\Own r size e B w' F ⟨s.a,s.n+y.n,s.c⟩ (xs++ys)/\Only [g] w w':=by
 subst nQ;have OA:=hy.len;obtain⟨sa,sn,sc⟩:=s;obtain⟨ya,yn,yc⟩:=y;dsimp only at ha hn hc Ih nR OA;subst ha;obtain⟨BI,m3,m4⟩:=hy.aaP;dsimp only at m4;have nY:css.flatten.length=sn*i.size:=by rw[hE.FG,hn]
 have Ek:BI.flatten.length=yn*i.size:=by rw[m3.FG,OA]
 have tH:sn*i.size+yn*i.size<=sn*i.size+tail.length:=by
  rw[Ih,<-dH,<-dH];exact gI _ (by omega)
 have qc:(Builtin.append_ #[t,t] ty #[.slice (some ⟨g,0,none⟩) sn sc,.slice ya yn yc]).run P w=
   .ok (.slice (some ⟨g,0,none⟩) (sn+yn) sc) (w.setRow g ((css.flatten++BI.flatten)++tail.drop (yn*i.size)).toArray):=by
  have DY:((css.flatten++tail).toArray.toList.take (sn*i.size)++BI.flatten++(css.flatten++tail).toArray.toList.drop (sn*i.size+BI.flatten.length))=(css.flatten++BI.flatten)++tail.drop (yn*i.size):=by
   rw[dS,<-nY,List.take_left,Ek,List.drop_append];rw[List.drop_eq_nil_of_le (by omega),aV,cT]
  cases ya with
  | some ya=>
   have:=run_append_room (P:=P) w t ty e i ht hi g sn sc (css.flatten++tail).toArray hb ya yn yc BI.flatten Ek (m4 ya rfl) (m3.one hr) nR (by
    rw[jr,ah,Ek,nY];exact tH)
   rw[this,DY]
  | none=>
   have hyx:ys=[]:=by
    cases ys with
    | nil=>rfl
    | cons x xs=>obtain⟨_,_,h,_⟩:=hy.at_ 0 x rfl;cases h
   subst hyx;have SQ:yn=0:=by simpa using OA
   subst SQ;cases BI with
   | cons c cs=>exact m3.elim
   | nil=>
    have nS:w.setRow g ((css.flatten++([]:List (List Value)).flatten)++tail.drop (0*i.size)).toArray=w:=by
     have:=setRow_self w g (css.flatten++tail).toArray e (0,0) hb;simpa using this
    rw[nS];have Vb:sn<=sc:=hc;simp[Builtin.append_,run_underlying ht,sizeOf,typeInfo,hi,Builtin.lenOf,Builtin.firstCells,Vb,storeCells]
 have hO:Only [g] w (w.setRow g ((css.flatten++BI.flatten)++tail.drop (yn*i.size)).toArray):=Only.setRow _ _ _;refine⟨_,qc,.inr ⟨g,css++BI,tail.drop (yn*i.size),rfl,hB,?_,?_,?_,nR,WR,?_⟩,hO⟩
 ·rw[BD];exact hb.setRow _
 ·rw[bK,Ih,<-Nat.sub_mul];congr 1;dsimp only;omega
 ·dsimp only;rw[ah];omega
 ·exact kY.keep hr (ey.oT hE m3) fun k hk bp=>hO.block k bp (by simpa using hk.2)
theorem vO (ht:P.underlying t=some (.slice e)) (hi:P.info? e=some i) (hz:i.zero=some z) (nQ:i.size=size) (QU:i.bytes=bytes) (FK:z.cells.size=size)
  (hr:r.Ok) (hs:Own r size e B w F s xs) (hy:SliceF r size w (fun k=>F k/\s.a≠some ⟨k,0,none⟩) y ys) (hB:B<=w.heap.size) (hm:(xs.length+ys.length)*bytes<=140737488355328) (BJ:0<bytes):
  ∃s' w',(Builtin.append_ #[t,t] ty #[s.v,y.v]).run P w=.ok s'.v w'/\Own r size e B w' F s' (xs++ys)/\∃gs,Only gs w w'/\(∀g,g∈gs->s.a=some ⟨g,0,none⟩/\B<=g/\g<w.heap.size)/\(s'.a=s.a∨s'.a=some ⟨w.heap.size,0,none⟩):=by
 by_cases nR:s.n+y.n<=s.c
 ·rcases hs with⟨rfl,rfl⟩ | ⟨g,css,tail,h1,h2,h4,h5,h6,h7,h9,h8⟩
  ·have SQ:y.n=0:=by simpa using nR
   have hyx:ys=[]:=by have:=hy.len;rw[SQ]at this;exact aW this.symm
   subst hyx;refine⟨Sl.nil,w,?_,.inl ⟨rfl,rfl⟩,[],Only.refl _ _,by simp,.inl rfl⟩;obtain⟨ya,yn,yc⟩:=y;dsimp only at SQ;subst SQ;cases ya<;>simp[Builtin.append_,run_underlying ht,sizeOf,typeInfo,hi,Builtin.lenOf,Builtin.firstCells,loadCells,loadCellsFrom]
  ·obtain⟨w',k1,k2,k3⟩:=Ks (ty:=ty) ht hi nQ hr h1 h2 h4 h5 h6 h7 h9 h8 (hy.mono hr fun k hk=>⟨hk.1,fun h=>hk.2 (by rw[h,h1])⟩) nR;exact⟨_,w',k1,k2,[g],k3,fun g' hg'=>by simp only[ae]at hg';subst hg';exact⟨h1,h2,h4.lt⟩,.inl rfl⟩
 ·have qL:=hs.len;have hsc:=hs.cap;have hy':SliceF r size w F y ys:=hy.mono hr fun k hk=>hk.1;have go:∀css,kY r size w F xs css->(∀base,s.a=some base->aB w base css.flatten)->(s.a=none->s.c=0)->
    ∃s' w',(Builtin.append_ #[t,t] ty #[s.v,y.v]).run P w=.ok s'.v w'/\Own r size e B w' F s' (xs++ys)/\∃gs,Only gs w w'/\(∀g,g∈gs->s.a=some ⟨g,0,none⟩/\B<=g/\g<w.heap.size)/\(s'.a=s.a∨s'.a=some ⟨w.heap.size,0,none⟩):=by
   intro css k1 k2 k3;obtain⟨s',w',g1,g2,g3,g4⟩:=IC (ty:=ty) ht hi hz nQ QU FK hr k1 k2 k3 qL hsc hy' (by omega) hm BJ;exact⟨s',w',g1,g2.low hB,[],g3,by simp,.inr g4⟩
  rcases hs with⟨rfl,rfl⟩ | ⟨g,css,tail,h1,h2,h4,h5,h6,h7,h9,h8⟩
  ·exact go [] trivial (fun _ h=>by cases h) (fun _=>rfl)
  ·refine go css (h8.mono hr fun k hk=>hk.1) (fun base hb=>?_) (fun h=>by rw[h1]at h;cases h);rw[h1]at hb;injection hb with hb;subst hb;exact h4.cells 0 _ fun j v hj=>by
    rw[aJ,aR (au.1 hj).1];exact hj
theorem jf (ht:P.underlying t=some (.slice e)) (hi:P.info? e=some i) (hz:i.zero=some z) (nQ:i.size=size) (h0:0<size) {vs:List Value} {len:Nat} {parts:Array (Nat×Value)}
  (hp:parts=((vs.zipIdx 0).map fun x=>(x.2,x.1)).toArray) (hl:vs.length=len) (OB:0<len) (zK:len*size<=16777216)
  (hr:r.Ok) (hE:kY r size w F xs (vs.map fun v=>v.cells.toList)):
  ∃s w',(Instr.buildSlice t len parts).run P w=.ok (Sl.v s) w'/\Own r size e w.heap.size w' F s xs/\Only [] w w'/\s.a=some ⟨w.heap.size,0,none⟩/\s.n=xs.length/\s.c=xs.length:=by
 subst nQ;subst hp;subst hl;have QV:xs.length=vs.length:=by have:=hE.len;rwa[aQ]at this
 have hsz:∀v,v∈vs->v.cells.size=i.size:=fun v hv=>by
  have:=hE.sz _ (fM.2 ⟨v,hv,rfl⟩);simpa using this
 have qc:=run_buildSlice (P:=P) w t e vs.length ((vs.zipIdx 0).map fun x=>(x.2,x.1)).toArray (vs.flatMap fun v=>v.cells.toList).toArray i z ht hi hz (by omega)
  (by have:=Nat.mul_lt_mul_of_pos_left h0 OB;omega)
  (by rw[dS];exact Go.Great.fill_whole h0 vs _ hsz (by simp))
 have hO:Only [] w (w.alloc (.cells (vs.flatMap fun v=>v.cells.toList).toArray e)):=Only.alloc _ _;refine⟨⟨some ⟨w.heap.size,0,none⟩,vs.length,vs.length⟩,_,qc,.inr ⟨w.heap.size,vs.map (fun v=>v.cells.toList),[],rfl,aq _,?_,by simp,QV.symm,aq _,?_,?_⟩,hO,rfl,QV.symm,QV.symm⟩
 ·rw[aN,List.flatMap_def.symm.trans rfl];exact Blk.alloc w e _
 ·have:vs.length<=vs.length*i.size:=Nat.le_mul_of_pos_right _ h0;dsimp only;omega
 ·exact((kY.mono hr (kY.inHeap hr hE) (G:=fun k=>F k/\k≠w.heap.size) fun k h=>⟨h.1,by have:=h.2;omega⟩)).keep hr fun k hk bp=>hO.block k bp (by simp)
end
end
def gN:Rp UInt8:=fun _ _ b cs=>cs=[eN b]
theorem su:gN.Ok where
 keep h _:=h
 inHeap h:=h
 mono h _:=h
 one h v hv:=by
  rw[show _=[eN _]from h]at hv;simp only[ae]at hv;subst hv;rfl
theorem BytesF.slice {w:World} {F:Nat->Prop} {s:Sl} {l:List UInt8} (h:BytesF w F s l) (h0:s.a=none->s.c=0) (hb:s.c<=9223372036854775807):SliceF gN 1 w F s l:=
 ⟨h.rd.1,h.cap,h0,hb,fun j x hx=>by
  have hl:l≠[]:=fun e=>by rw[e]at hx;simp at hx
  obtain⟨ad,h1,h2⟩:=h.rd.2 hl;exact⟨ad,[eN x],h1,h.blk ad h1 hl,rfl,by rw[rY];exact h2.eo j _ (by rw[bD,hx];rfl),rfl⟩⟩
theorem SliceF.bytes {w:World} {F:Nat->Prop} {s:Sl} {l:List UInt8} (h:SliceF gN 1 w F s l):BytesF w F s l:=
 ⟨⟨h.len,fun hl=>by
  obtain⟨base,css,h1,h2,h3,h4⟩:=h.flat hl;refine⟨base,h1,?_⟩;have:∀(l:List UInt8) (css:List (List Value)),kY gN 1 w F l css->css.flatten=l.map eN:=by
   intro l
   induction l with
   | nil=>intro css h;cases css with
    | nil=>rfl
    | cons c cs=>exact h.elim
   | cons b l ih=>intro css h;cases css with
    | nil=>exact h.elim
    | cons c cs=>
     obtain⟨⟨_,h1⟩,h2⟩:=h;rw[bT,ih cs h2,show c=[eN b]from h1];rfl
  rw[<-this l css h3];exact h4⟩,h.cap,fun ad ha hl=>by
   obtain⟨base,css,h1,h2,_⟩:=h.flat hl;rw[ha]at h1;injection h1 with h1;rw[h1];exact h2⟩
theorem kY.bytes {w:World} {F G:Nat->Prop} {l:List UInt8} {css:List (List Value)} (h:kY gN 1 w F l css):kY gN 1 w G l css:=ey.imp (fun _ _ h=>h) h
theorem Own.bytes {w:World} {F G:Nat->Prop} {e:TypeId} {B:Nat} {s:Sl} {l:List UInt8} (h:Own gN 1 e B w F s l):Own gN 1 e B w G s l:=by
 rcases h with h | ⟨g,css,tail,h1,h2,h4,h5,h6,h7,h9,h8⟩
 ·exact .inl h
 ·exact .inr ⟨g,css,tail,h1,h2,h4,h5,h6,h7,h9,kY.bytes h8⟩
def pe:Rp Int:=fun _ _ x cs=>cs=[.int .i64 x]/\InI x
theorem kZ:pe.Ok where
 keep h _:=h
 inHeap h:=h
 mono h _:=h
 one h v hv:=by
  rw[h.1]at hv;simp only[ae]at hv;subst hv;rfl
structure OnlyP (F:Nat->Prop) (w w':World):Prop where
 os:w'.os=w.os
 tape:w'.tape=w.tape
 output:w'.output=w.output
 size:w.heap.size<=w'.heap.size
 block:∀k,k<w.heap.size->¬F k->w'.heap[k]? =w.heap[k]?
section
variable {w w' rQ:World} {F G:Nat->Prop} {bs:List Nat}
theorem Only.p (h:Only bs w w') (hb:∀b,b∈bs->F b∨w.heap.size<=b):OnlyP F w w':=
 ⟨h.os,h.tape,h.output,h.size,fun k hk hn=>h.block k hk fun hm=>(hb k hm).elim hn fun h=>by omega⟩
theorem Only.p0 (h:Only [] w w'):OnlyP F w w':=h.p (by simp)
theorem OnlyP.refl (F:Nat->Prop) (w:World):OnlyP F w w:=(Only.refl [] w).p0
theorem OnlyP.mono (h:OnlyP F w w') (hb:∀k,k<w.heap.size->F k->G k):OnlyP G w w':=⟨h.os,h.tape,h.output,h.size,fun k hk hn=>h.block k hk fun hf=>hn (hb k hk hf)⟩
theorem OnlyP.trans (h:OnlyP F w w') (k:OnlyP G w' rQ) (hb:∀k,G k->F k∨w.heap.size<=k):OnlyP F w rQ:=
 ⟨k.os.trans h.os,k.tape.trans h.tape,k.output.trans h.output,ay h.size k.size,fun i hi hn=>
  (k.block i (bC hi h.size) fun hg=>(hb i hg).elim hn fun h=>by omega).trans (h.block i hi hn)⟩
theorem OnlyP.cf (h:OnlyP F w w') (k:Only [] w' rQ):OnlyP F w rQ:=h.trans (k.p0 (F:=fun _=>False)) fun _ h=>h.elim
theorem Only.BH (h:Only [] w w') (k:OnlyP F w' rQ):OnlyP F w rQ:=(h.p0 (F:=F)).trans k fun _ h=>.inl h
theorem OnlyP.only (h:OnlyP F w w') (hb:∀k,F k->w.heap.size<=k):Only [] w w':=
 ⟨h.os,h.tape,h.output,h.size,fun k hk _=>h.block k hk fun hf=>by have:=hb k hf;omega⟩
theorem OnlyP.aaQ (h:OnlyP F w w') (hb:∀k,F k->k∈bs∨w.heap.size<=k):Only bs w w':=
 ⟨h.os,h.tape,h.output,h.size,fun k hk hn=>h.block k hk fun hf=>(hb k hf).elim hn fun h=>by omega⟩
theorem OnlyP.same (h:OnlyP F w w') (hl:∀x,x∈bs->x<w.heap.size/\¬F x):aD bs w w':=fun x hx=>h.block x (hl x hx).1 (hl x hx).2
theorem OnlyP.blk (h:OnlyP F w w') {b:Nat} {t:TypeId} {cs:List Value} (hb:Blk w b t cs) (hn:¬F b):Blk w' b t cs:=(h.block b hb.lt hn).trans hb
end
section
variable {α:Type} {r:Rp α} {size:Nat} {w w':World} {F G:Nat->Prop} {s:Sl} {xs:List α} {e:TypeId} {B:Nat} {bs:List Nat}
theorem SliceF.only (hr:r.Ok) (h0:0<size) (h:SliceF r size w F s xs) (hO:Only bs w w') (hb:∀k,F k->k<w.heap.size->k∉bs):SliceF r size w' F s xs:=
 h.keep hr h0 fun k hF bp=>hO.block k bp (hb k hF bp)
theorem SliceF.tE (hr:r.Ok) (h0:0<size) (h:SliceF r size w F s xs) (hO:OnlyP G w w') (hb:∀k,F k->k<w.heap.size->¬G k):SliceF r size w' F s xs:=
 h.keep hr h0 fun k hF bp=>hO.block k bp (hb k hF bp)
theorem Rp.Ok.only (hr:r.Ok) {x:α} {cs:List Value} (h:r w F x cs) (hO:Only bs w w') (hb:∀k,F k->k<w.heap.size->k∉bs):r w' F x cs:=hr.keep h fun k hF bp=>hO.block k bp (hb k hF bp)
theorem kY.at (h:∃css:List (List Value),kY r size w F xs css):True:=trivial
theorem kY.setAt {css:List (List Value)} (h:kY r size w F xs css) (j:Nat) {x:α} {c:List Value} (hc:c.length=size) (hx:r w F x c):kY r size w F (xs.set j x) (css.set j c):=ey.set j h ⟨hc,hx⟩
theorem B1 {css:List (List Value)} {tail:List Value}:∀{n:Nat} {cs vs:List Value},(∀c,c∈css->c.length=size)->css[n]? =some cs->vs.length=size->
  bF (css.flatten++tail) (n*size) vs=(css.set n vs).flatten++tail:=by
 induction css with
 | nil=>intro n cs vs _ h;simp at h
 | cons c css ih=>
  intro n cs vs hs hn hv;have hc:=hs c (by simp);cases n with
  | zero=>
   simp only[bF,ki,cQ,aV,aJ,Ed,bT,av,hv];rw[<-hc,List.drop_left]
  | succ n=>
   simp only[bQ]at hn;have:=ih (fun d hd=>hs d (by simp[hd])) hn hv;have e:(n+1)*size=c.length+n*size:=by rw[dH,hc];omega
   simp only[bF]at this⊢;simp only[bT,List.set_cons_succ,av];rw[e,O2,cb,O3,<-this];simp
end
section
variable {α:Type} {r:Rp α} {size:Nat} {w w':World} {F G:Nat->Prop} {s:Sl} {xs:List α} {e:TypeId} {B:Nat} {P:Program} {t ty:TypeId} {i:TypeInfo} {z v:Value} {bytes:Nat} {x:α}
theorem js (ht:P.underlying t=some (.slice e)) (hi:P.info? e=some i) (hz:i.zero=some z) (nQ:i.size=size) (QU:i.bytes=bytes) (FK:z.cells.size=size) (h0:0<size) (BJ:0<bytes) (zK:1*size<=16777216)
  (hr:r.Ok) (hs:Own r size e B w F s xs) (hB:B<=w.heap.size) (hv:v.cells.toList.length=size) (hx:r w G x v.cells.toList) (hG:∀k,G k->k<w.heap.size->F k/\s.a≠some ⟨k,0,none⟩) (hm:(xs.length+1)*bytes<=140737488355328):
  ∃y w1,(Instr.buildSlice t 1 #[(0,v)]).run P w=.ok (Sl.v y) w1/\Only [] w w1/\∃s' w2,(Builtin.append_ #[t,t] ty #[Sl.v s,Sl.v y]).run P w1=.ok (Sl.v s') w2/\
   Own r size e B w2 (fun k=>F k∨w.heap.size<=k) s' (xs++[x])/\(∃gs,Only gs w1 w2/\∀g,g∈gs->s.a=some ⟨g,0,none⟩/\B<=g/\g<w.heap.size)/\(s'.a=s.a∨∃g,s'.a=some ⟨g,0,none⟩/\w.heap.size<=g):=by
 obtain⟨y,w1,k1,k2,k3,k4,k5,k6⟩:=jf (P:=P) (t:=t) (e:=e) (i:=i) (z:=z) (w:=w) (F:=fun k=>G k/\k<w.heap.size) (vs:=[v]) (parts:=#[(0,v)]) (len:=1) (xs:=[x]) (r:=r) (size:=size) ht hi hz nQ h0 rfl rfl (by decide) zK hr ⟨⟨hv,hr.inHeap hx⟩,trivial⟩;have NC:Own r size e B w1 (fun k=>F k∨w.heap.size<=k) s xs:=((hs.inHeap hr).keep hr fun k _ bp=>k3.block k bp (by simp)).mono hr fun k hk=>.inl hk.1;have hy:=(k2.slice hr).mono hr (G:=fun k=>(F k∨w.heap.size<=k)/\s.a≠some ⟨k,0,none⟩) fun k hk=>by
  rcases hk with⟨hk,bp⟩ | ⟨hk,_⟩
  ·exact⟨.inl (hG k hk bp).1,(hG k hk bp).2⟩
  ·exact⟨.inr hk,fun ha=>by have:=(hs.blk ha).2;dsimp only at this;omega⟩
 obtain⟨s',w2,g1,g2,gs,g3,g4,g5⟩:=vO (ty:=ty) ht hi hz nQ QU FK hr NC hy (ay hB k3.size) hm BJ;refine⟨y,w1,k1,k3,s',w2,g1,g2,⟨gs,g3,fun g hg=>⟨(g4 g hg).1,(g4 g hg).2.1,(hs.blk (g4 g hg).1).2⟩⟩,?_⟩;rcases g5 with h | h
 ·exact .inl h
 ·exact .inr ⟨_,h,k3.size⟩
theorem Own.store (hr:r.Ok) (hs:Own r size e B w F s xs) {n:Nat} (hn:n<xs.length) {x:α} {vs:List Value} (hv:vs.length=size) (hx:r w G x vs) (hG:∀k,G k->k<w.heap.size->F k/\s.a≠some ⟨k,0,none⟩) (h0:0<size):
  ∃g cells,s.a=some ⟨g,0,none⟩/\cD s n size ⟨g,n*size,none⟩/\Blk w g e cells/\n*size+size<=cells.length/\
   ∀w',Only [g] w w'->Blk w' g e (bF cells (n*size) vs)->Own r size e B w' F s (xs.set n x):=by
 rcases hs with⟨rfl,rfl⟩ | ⟨g,css,tail,h1,h2,h4,h5,h6,h7,h9,h8⟩
 ·simp at hn
 have nY:=h8.len;have hcn:n<css.length:=by omega
 have QW:css.flatten.length=css.length*size:=wz h8.sz;have tH:n*size+size<=css.length*size:=by
  have:=gI size (show n+1<=css.length by omega);rw[dH]at this;omega
 refine⟨g,_,h1,⟨_,h1,by omega,by omega,by rw[eV,az,aJ]⟩,h4,by rw[ah];omega,fun w' hO hb=>.inr ⟨g,css.set n vs,tail,h1,h2,?_,h5,by rw[oX];exact h6,h7,h9,?_⟩⟩
 ·rw[B1 h8.sz (bn hcn) hv]at hb;exact hb
 ·refine kY.setAt (h8.keep hr fun k hk bp=>hO.block k bp (by simpa using hk.2)) n hv (hr.keep (w:=w) (F:=fun k=>F k/\k≠g) ?_ fun k hk bp=>hO.block k bp (by simpa using hk.2));refine hr.mono (hr.inHeap hx) fun k hk=>?_;obtain⟨p1,p2⟩:=hG k hk.1 hk.2;exact⟨p1,fun e=>p2 (by rw[h1,e])⟩
end
theorem Own.agA {α:Type} {r:Rp α} {size:Nat} {w:World} {F:Nat->Prop} {s:Sl} {xs:List α} {e:TypeId} {B:Nat} (hr:r.Ok) (hs:Own r size e B w F s xs) {n:Nat} {x:α} (hx:xs[n]? =some x):
  ∃g cells cs,s.a=some ⟨g,0,none⟩/\cD s n size ⟨g,n*size,none⟩/\Blk w g e cells/\cs.length=size/\aB w ⟨g,n*size,none⟩ cs/\r w (fun k=>F k/\k≠g) x cs/\
   ∀(off:Nat) (v:Value) (y:α) (G:Nat->Prop),off<size->r w G y (cs.set off v)->(∀k,G k->k<w.heap.size->F k/\k≠g)->
    n*size+off+1<=cells.length/\∀w',Only [g] w w'->Blk w' g e (bF cells (n*size+off) [v])->Own r size e B w' F s (xs.set n y):=by
 rcases hs with⟨rfl,rfl⟩ | ⟨g,css,tail,h1,h2,h4,h5,h6,h7,h9,h8⟩
 ·simp at hx
 obtain⟨cs,k1,k2,k3⟩:=h8.get hx;have nY:=h8.len;have hn:=(au.1 hx).1;have QW:css.flatten.length=css.length*size:=wz h8.sz;have tH:n*size+size<=css.length*size:=by
  have:=gI size (show n+1<=css.length by omega);rw[dH]at this;omega
 refine⟨g,_,cs,h1,⟨_,h1,by omega,by omega,by rw[eV,az,aJ]⟩,h4,k2,h4.cells _ _ fun j v hj=>?_,k3,fun off v y G ho hy hG=>⟨by rw[ah];omega,fun w' hO hb=>.inr ⟨g,css.set n (cs.set off v),tail,h1,h2,?_,h5,by rw[oX];exact h6,h7,h9,?_⟩⟩⟩
 ·have:=Gi h8.sz k1 hj;rw[aR (au.1 this).1];exact this
 ·rw[EG (by rw[ah];omega),B0 h8.sz k1 ho]at hb;exact hb
 ·refine kY.setAt (h8.keep hr fun k hk bp=>hO.block k bp (by simpa using hk.2)) n (by rw[oX];exact k2) ?_;refine hr.mono (hr.keep (hr.inHeap hy) fun k hk bp=>hO.block k bp (by simpa using(hG k hk.1 hk.2).2)) fun k hk=>hG k hk.1 hk.2
theorem ey.aaR {α β:Type} {P:β->List Value->Prop} {f:α->β}:∀{xs:List α} {css:List (List Value)},ey P (xs.map f) css↔ey (fun x cs=>P (f x) cs) xs css
 | [],[]=>Iff.rfl
 | x::xs,c::cs=>by simp only[aI,ey,ey.aaR (xs:=xs) (css:=cs)]
 | [],_::_=>Iff.rfl
 | _::_,[]=>Iff.rfl
theorem ey.QM {α:Type} {P Q:α->List Value->Prop}:∀{xs:List α} {css:List (List Value)},(∀x c,x∈xs->P x c->Q x c)->ey P xs css->ey Q xs css
 | [],[],_,_=>trivial
 | x::xs,c::cs,hi,h=>⟨hi _ _ (by simp) h.1,ey.QM (xs:=xs) (css:=cs) (fun y d hy=>hi y d (by simp[hy])) h.2⟩
 | [],_::_,_,h=>h.elim
 | _::_,[],_,h=>h.elim
theorem Own.map {α β:Type} {r:Rp α} {q:Rp β} {size:Nat} {w:World} {F G:Nat->Prop} {s:Sl} {xs:List α} {e:TypeId} {B:Nat} (f:α->β) (h:Own r size e B w F s xs) (hf:∀g x cs,x∈xs->r w (fun k=>F k/\k≠g) x cs->q w (fun k=>G k/\k≠g) (f x) cs):Own q size e B w G s (xs.map f):=by
 rcases h with⟨rfl,rfl⟩ | ⟨g,css,tail,h1,h2,h4,h5,h6,h7,h9,h8⟩
 ·exact .inl ⟨rfl,rfl⟩
 ·exact .inr ⟨g,css,tail,h1,h2,h4,h5,by rw[aQ];exact h6,h7,h9,ey.aaR.2 (ey.QM (fun x c hx hc=>⟨hc.1,hf g x c hx hc.2⟩) h8)⟩
section
variable {P:Program} {w:World}
theorem yx {z:Array Value} (hz:∀v,v∈z->v.oneCell'=true) (h0:0<z.size) (n:Nat):∀v,v∈(Builtin.zeroCells z n).toList->v.oneCell'=true:=fun v hv=>by
 have hv':v∈Builtin.zeroCells z n:=by simpa using hv
 simp only[Builtin.zeroCells,Array.mem_map,Array.mem_range]at hv';obtain⟨i,hi,rfl⟩:=hv';have bp:i % z.size<z.size:=Nat.mod_lt _ h0;rw[getElem!_pos z (i % z.size) bp];exact hz _ (Array.getElem_mem bp)
theorem yy {t e ty:TypeId} {z:Value} (ht:P.underlying t=some (.slice e)) (hv:∀w,(zeroValue e).run P w=.ok z w) (h1:∀v,v∈z.cells->v.oneCell'=true) (ND:0<z.cells.size) {g o n c:Nat} {bt:TypeId} {cs:List Value} (hn:0<n)
  (hb:Blk w g bt cs) (DX:o+n*z.cells.size<=cs.length):
  (Builtin.clear_ #[t] ty #[.slice (some ⟨g,o,none⟩) n c]).run P w=.ok (.tuple #[]) (w.setRow g (cs.take o++(Builtin.zeroCells z.cells n).toList++cs.drop (o+n*z.cells.size)).toArray):=by
 have hl:(Builtin.zeroCells z.cells n).toList.length=n*z.cells.size:=by rw[fK,size_zeroCells]
 have oJ:=run_storeCells_at P g o bt (Builtin.zeroCells z.cells n).toList 0 cs.toArray w hb (by rw[hl];simpa using DX) (yx h1 ND n);simp only[db,hl,dS]at oJ;obtain⟨m,rfl⟩:∃m,n=m+1:=⟨n-1,by omega⟩
 simp[Builtin.clear_,run_underlying ht,hv,oJ]
theorem Own.clear {α:Type} {r:Rp α} {size:Nat} {F:Nat->Prop} {s:Sl} {xs:List α} {e:TypeId} {B:Nat} {t ty:TypeId} {z:Value} (hr:r.Ok) (h0:0<size) (ht:P.underlying t=some (.slice e)) (hv:∀w,(zeroValue e).run P w=.ok z w) (h1:∀v,v∈z.cells->v.oneCell'=true) (FK:z.cells.size=size)
  (hs:Own r size e B w F s xs) {i:Nat} (hi:i<xs.length):
  ∃w' g,(Builtin.clear_ #[t] ty #[Sl.v (Sl.cut s i s.n s.c size)]).run P w=.ok (.tuple #[]) w'/\s.a=some ⟨g,0,none⟩/\Only [g] w w'/\Own r size e B w' F (Sl.cut s 0 i s.c size) (xs.take i):=by
 rcases hs with⟨rfl,rfl⟩ | ⟨g,css,tail,a1,a2,a4,a5,a6,a7,a9,a8⟩
 ·simp at hi
 obtain⟨sa,sn,sc⟩:=s;dsimp only at a1 a5 a6 a7 a9;subst a1;have QW:=a8.FG;have NE:Sl.cut ⟨some ⟨g,0,none⟩,sn,sc⟩ i sn sc size=⟨some ⟨g,i*size,none⟩,sn-i,sc-i⟩:=by
  simp only[Sl.cut];rw[if_neg (by omega)];simp only[bP,eV,aJ]
 have e1:i*size+(sn-i)*size=sn*size:=by rw[<-dH];congr 1;omega
 have qc:=yy (P:=P) (w:=w) (t:=t) (ty:=ty) ht hv h1 (by omega) (g:=g) (o:=i*size) (n:=sn-i) (c:=sc-i) (by omega) a4 (by rw[FK,e1,ah,QW,a6];omega);have hO:Only [g] w _:=Only.setRow w g (((css.flatten++tail).take (i*size)++(Builtin.zeroCells z.cells (sn-i)).toList++(css.flatten++tail).drop (i*size+(sn-i)*z.cells.size)).toArray);refine⟨_,g,by rw[NE];exact qc,rfl,hO,?_⟩;have aa3:Sl.cut ⟨some ⟨g,0,none⟩,sn,sc⟩ 0 i sc size=⟨some ⟨g,0,none⟩,i,sc⟩:=by
  simp only[Sl.cut];split<;>simp[Addr.add]
 rw[aa3];have pc:(css.flatten++tail).take (i*size)=(css.take i).flatten:=by
  rw[Kg (by rw[QW,<-a6];exact gI _ (by omega)),IB a8.sz]
 refine .inr ⟨g,css.take i,(Builtin.zeroCells z.cells (sn-i)).toList++(css.flatten++tail).drop (i*size+(sn-i)*z.cells.size),rfl,a2,?_,?_,?_,by dsimp only;omega,a9,?_⟩
 ·have:=a4.setRow ((css.flatten++tail).take (i*size)++(Builtin.zeroCells z.cells (sn-i)).toList++(css.flatten++tail).drop (i*size+(sn-i)*z.cells.size));rw[av,pc]at this;rw[pc];simpa only[av]using this
 ·simp only[ah,bK,QW,<-a6,fK,size_zeroCells,a5,FK,e1];rw[cT,<-dH];congr 1;omega
 ·rw[ck];dsimp only;omega
 ·refine kY.keep hr (ey.take i a8) fun k hk bp=>hO.block k bp (by simpa using hk.2)
end
theorem Rj (l m:List UInt8):((⟨List.toArray l⟩:ByteArray).toList==(⟨List.toArray m⟩:ByteArray).toList)=decide (l=m):=by
 have e:∀l:List UInt8,(⟨List.toArray l⟩:ByteArray).toList=l:=fun l=>by simp[ByteArray.toList_eq]
 rw[e,e];by_cases h:l=m<;>simp[h]
end Go.Kt
namespace Go.Kt
open Go Go.RowKit Go.MapKept
set_option linter.unusedSimpArgs false
set_option linter.unusedVariables false
structure MapI (w:World) (r:Nat) (m:Int->Option Int):Prop where
 mem:∃es clock,w.heap[r]? =some (.map es clock)/\(∀x,x∈es.toList->∃k v,x.key=.int .i64 k/\x.val=.int .i64 v)/\es.toList.Pairwise (fun x y=>x.key≠y.key)/\
  ∀k v,m k=some v↔∃x,x∈es.toList/\x.key=.int .i64 k/\x.val=.int .i64 v
section
variable {P:Program} {w w':World} {r:Nat} {m:Int->Option Int} {mty kt et:TypeId}
theorem MapI.keep (h:MapI w r m) (hk:w'.heap[r]? =w.heap[r]?):MapI w' r m:=by
 obtain⟨es,c,h1,h2⟩:=h.mem;exact⟨es,c,hk.trans h1,h2⟩
theorem MapI.lt (h:MapI w r m):r<w.heap.size:=by
 obtain⟨es,c,h1,h2⟩:=h.mem;exact(jL.1 h1).1
theorem MapI.only (h:MapI w r m) {bs:List Nat} (hO:Only bs w w') (hn:r∉bs):MapI w' r m:=h.keep (hO.block r h.lt hn)
theorem lC (k:Int):IsKey (.int .i64) (.int .i64 k):=by simp[IsKey]
theorem MapI.make (w:World):(Instr.makeMap mty none).run P w=.ok (.map (some w.heap.size)) (w.alloc (.map #[] 0))/\MapI (w.alloc (.map #[] 0)) w.heap.size (fun _=>none)/\Only [] w (w.alloc (.map #[] 0)):=
 ⟨rfl,⟨#[],0,heap_alloc_new w _,by simp,by simp,by simp⟩,Only.alloc _ _⟩
theorem Ku {es:Array MapEntry} (h:∀x,x∈es.toList->∃k v,x.key=.int .i64 k/\x.val=.int .i64 v):∀x∈es.toList,IsKey (.int .i64) x.key:=fun x hx=>by
 obtain⟨k,v,e,_⟩:=h x hx;rw[e];exact lC k
theorem XH {l:List MapEntry} (h:l.Pairwise fun x y=>x.key≠y.key) {x y:MapEntry} (hx:x∈l) (hy:y∈l) (hk:x.key=y.key):x=y:=by
 induction l with
 | nil=>simp at hx
 | cons z l ih=>
  obtain⟨h1,h2⟩:=List.pairwise_cons.1 h;rcases ak.1 hx with SR | SR<;>rcases ak.1 hy with hy1 | hy1
  ·rw[SR,hy1]
  ·rw[SR]at hk;exact absurd hk (h1 y hy1)
  ·rw[hy1]at hk;exact absurd hk.symm (h1 x SR)
  ·exact ih h2 SR hy1
theorem MapI.lookup (hm:P.underlying mty=some (.map kt et)) (hd:P.underlying kt=some (.int .i64)) (hz:∀w,(zeroValue et).run P w=.ok (.int .i64 0) w) (h:MapI w r m) (k:Int):
  (Instr.lookup mty (.map (some r)) (.int .i64 k) true).run P w=.ok (.tuple #[.int .i64 ((m k).getD 0),.bool (m k).isSome]) w:=by
 obtain⟨es,c,h1,h2,h3,h4⟩:=h.mem;rcases findNow_spec (lC k) es.toList 0 (Ku h2)with⟨g1,g2⟩ | ⟨j,e,g1,g2,g3⟩
 ·have hn:m k=none:=by
   cases Bq:m k with
   | none=>rfl
   | some v=>
    obtain⟨x,hx,hk,_⟩:=(h4 k v).1 Bq;exact absurd hk (g2 x hx)
  simp[Instr.lookup,run_underlying hm,MapKept.run_getObj_map h1,MapKept.run_checkKey hd (lC k),MapKept.run_findKey hd g1,Result.andThen,hz,hn]
 ·have he:=aE g2;obtain⟨k',v,e1,e2⟩:=h2 e he;have Bq:m k=some v:=(h4 k v).2 ⟨e,he,g3,e2⟩;simp[Instr.lookup,run_underlying hm,MapKept.run_getObj_map h1,MapKept.run_checkKey hd (lC k),MapKept.run_findKey hd g1,Result.andThen,Bq,e2]
theorem kz {w:World} {r:Nat} {o o':Obj} (hb:w.heap[r]? =some o):Only [r] w {w with heap:=w.heap.setIfInBounds r o'}:=
 ⟨rfl,rfl,rfl,by simp,fun k _ hn=>(heap_set hb).2 k (by simpa using hn)⟩
theorem wA {α:Type} {l:List α} {j:Nat} {f:α->α} {e:α} (h:l[j]? =some e):l.modify j f=l.set j (f e):=by
 apply gJ;intro i;rw[List.getElem?_modify,mf];by_cases qd:j=i
 ·subst qd;rw[if_pos rfl,if_pos (au.1 h).1,h];simp
 ·rw[if_neg qd];cases l[i]? <;>simp[qd]
theorem MapI.update (hm:P.underlying mty=some (.map kt et)) (hd:P.underlying kt=some (.int .i64)) (h:MapI w r m) (k v:Int):
  ∃w',(Instr.mapUpdate mty (.map (some r)) (.int .i64 k) (.int .i64 v)).run P w=.ok () w'/\MapI w' r (fun x=>if x=k then some v else m x)/\Only [r] w w':=by
 obtain⟨es,c,h1,h2,h3,h4⟩:=h.mem;rcases findNow_spec (lC k) es.toList 0 (Ku h2)with⟨g1,g2⟩ | ⟨j,e,g1,g2,g3⟩
 ·refine⟨{w with heap:=w.heap.setIfInBounds r (.map (es.push {key:=.int .i64 k,val:=.int .i64 v,born:=c}) (c+1))},?_,⟨_,_,(heap_set h1).1,?_,?_,?_⟩,kz h1⟩
  ·simp[Instr.mapUpdate,run_underlying hm,MapKept.run_getObj_map h1,MapKept.run_checkKey hd (lC k),MapKept.run_findKey hd g1,MapKept.run_setObj_map _ h1,Result.andThen]
  ·intro x hx;simp only[mg,bJ,ae]at hx;rcases hx with hx | rfl
   ·exact h2 x hx
   ·exact⟨k,v,rfl,rfl⟩
  ·rw[mg,List.pairwise_append];exact⟨h3,by simp,fun x hx y hy=>by simp only[ae]at hy;rw[hy];exact g2 x hx⟩
  ·intro k' v';simp only[mg,bJ,ae];by_cases hk:k'=k
   ·subst hk;simp only[if_true,ai];constructor
    ·rintro rfl;exact⟨_,.inr rfl,rfl,rfl⟩
    ·rintro⟨x,hx | rfl,e1,e2⟩
     ·exact absurd e1 (g2 x hx)
     ·simpa using e2
   ·rw[if_neg hk,h4];constructor
    ·rintro⟨x,hx,e1,e2⟩;exact⟨x,.inl hx,e1,e2⟩
    ·rintro⟨x,hx | rfl,e1,e2⟩
     ·exact⟨x,hx,e1,e2⟩
     ·simp only[Value.int.injEq,qZ]at e1;exact absurd e1.symm hk
 ·have hj:es[j]? =some e:=by simpa using g2
  have mF:j<es.toList.length:=(au.1 g2).1;refine⟨{w with heap:=w.heap.setIfInBounds r (.map (es.modify j fun e=>{e with key:=.int .i64 k,val:=.int .i64 v}) c)},?_,⟨_,_,(heap_set h1).1,?_,?_,?_⟩,kz h1⟩
  ·simp[Instr.mapUpdate,run_underlying hm,MapKept.run_getObj_map h1,MapKept.run_checkKey hd (lC k),MapKept.run_findKey hd g1,hj,g3,MapKept.run_keyThatStays (lC k),MapKept.run_setObj_map _ h1,Result.andThen]
  all_goals rw[Array.toList_modify,wA g2]
  ·intro x hx;rcases rW hx with hx | rfl
   ·exact h2 x hx
   ·exact⟨k,v,rfl,rfl⟩
  ·have:(es.toList.set j {e with key:=.int .i64 k,val:=.int .i64 v}).map (·.key)=es.toList.map (·.key):=by
    rw[List.map_set];apply gJ;intro i;rw[mf];split
    ·rename_i hi;subst hi;rw[aQ,if_pos mF,bD,g2];simp[g3]
    ·rfl
   have h5:(es.toList.map (·.key)).Pairwise (· ≠·):=List.pairwise_map.2 h3;rw[<-this]at h5;exact List.pairwise_map.1 h5
  ·intro k' v';by_cases hk:k'=k
   ·subst hk;simp only[if_true,ai];constructor
    ·rintro rfl;exact⟨_,List.mem_set mF _,rfl,rfl⟩
    ·rintro⟨x,hx,e1,e2⟩;obtain⟨i,hi⟩:=eF hx;rw[mf]at hi;split at hi
     ·injection hi with hi;rw[<-hi]at e2;simpa using e2
     ·rename_i qd;have hxm:=aE hi;have:=XH h3 hxm (aE g2) (by rw[e1,g3]);subst this;have Jx:=(au.1 hi).1;have eI:=kx.1 h3;rcases ra qd with bp | Vd
      ·exact absurd (by rw[(au.1 g2).2,(au.1 hi).2]) (eI j i mF Jx bp)
      ·exact absurd (by rw[(au.1 g2).2,(au.1 hi).2]) (eI i j Jx mF Vd)
   ·rw[if_neg hk,h4];constructor
    ·rintro⟨x,hx,e1,e2⟩;obtain⟨i,hi⟩:=eF hx;refine⟨x,aE (i:=i) ?_,e1,e2⟩;rw[yP]
     ·exact hi
     ·rintro rfl;rw[g2]at hi;injection hi with hi;rw[<-hi,g3]at e1;simp only[Value.int.injEq,qZ]at e1;exact hk e1.symm
    ·rintro⟨x,hx,e1,e2⟩;rcases rW hx with hx | rfl
     ·exact⟨x,hx,e1,e2⟩
     ·simp only[Value.int.injEq,qZ]at e1;exact absurd e1.symm hk
theorem MapI.delete (hm:P.underlying mty=some (.map kt et)) (hd:P.underlying kt=some (.int .i64)) (h:MapI w r m) (k:Int) (ty:TypeId):
  ∃w',(Builtin.delete_ #[mty,kt] ty #[.map (some r),.int .i64 k]).run P w=.ok (.tuple #[]) w'/\MapI w' r (fun x=>if x=k then none else m x)/\Only [r] w w':=by
 obtain⟨es,c,h1,h2,h3,h4⟩:=h.mem;rcases findNow_spec (lC k) es.toList 0 (Ku h2)with⟨g1,g2⟩ | ⟨j,e,g1,g2,g3⟩
 ·refine⟨{w with heap:=w.heap.setIfInBounds r (.map es c)},?_,⟨_,_,(heap_set h1).1,h2,h3,?_⟩,kz h1⟩
  ·simp[Builtin.delete_,run_underlying hm,MapKept.run_getObj_map h1,MapKept.run_checkKey hd (lC k),MapKept.run_findKey hd g1,MapKept.run_setObj_map _ h1,Result.andThen]
  ·intro k' v';by_cases hk:k'=k
   ·subst hk;simp only[if_true];constructor
    ·intro h;cases h
    ·rintro⟨x,hx,e1,_⟩;exact absurd e1 (g2 x hx)
   ·rw[if_neg hk,h4]
 ·have mF:j<es.toList.length:=(au.1 g2).1;have mc:=(au.1 g2).2;have Ve:(es.eraseIdxIfInBounds j).toList=es.toList.eraseIdx j:=by
   unfold Array.eraseIdxIfInBounds;rw[dif_pos (by simpa using mF),Array.toList_eraseIdx]
  refine⟨{w with heap:=w.heap.setIfInBounds r (.map (es.eraseIdxIfInBounds j) c)},?_,⟨_,_,(heap_set h1).1,?_,?_,?_⟩,kz h1⟩
  ·simp[Builtin.delete_,run_underlying hm,MapKept.run_getObj_map h1,MapKept.run_checkKey hd (lC k),MapKept.run_findKey hd g1,MapKept.run_setObj_map _ h1,Result.andThen]
  ·rw[Ve];exact fun x hx=>h2 x ((jq _ _).subset hx)
  ·rw[Ve];exact h3.sublist (jq _ _)
  ·intro k' v';rw[Ve];have eI:=kx.1 h3;by_cases hk:k'=k
   ·subst hk;simp only[if_true];constructor
    ·intro h;cases h
    ·rintro⟨x,hx,e1,_⟩;rw[iH]at hx;obtain⟨i,hi,qd,DZ⟩:=hx;rcases ra qd with bp | Vd
     ·exact absurd (by rw[mc,DZ,e1,g3]) (eI i j hi mF bp)
     ·exact absurd (by rw[mc,DZ,e1,g3]) (eI j i mF hi Vd)
   ·rw[if_neg hk,h4];constructor
    ·rintro⟨x,hx,e1,e2⟩;refine⟨x,?_,e1,e2⟩;rw[iH];obtain⟨i,hi,DZ⟩:=List.getElem_of_mem hx;refine⟨i,hi,?_,DZ⟩;rintro rfl;rw[mc]at DZ;rw[<-DZ,g3]at e1;simp only[Value.int.injEq,qZ]at e1;exact hk e1.symm
    ·rintro⟨x,hx,e1,e2⟩;exact⟨x,(jq _ _).subset hx,e1,e2⟩
end
end Go.Kt
namespace Go.Kt
open Go Go.RowKit
set_option linter.unusedSimpArgs false
set_option linter.unusedVariables false
@[reducible] def T (l:List UInt8):ByteArray:=⟨l.toArray⟩
theorem vg (s:ByteArray):s=T s.data.toList:=by
 obtain⟨⟨l⟩⟩:=s;rfl
theorem cK (l:List UInt8):(T l).size=l.length:=by simp[T,ByteArray.size]
theorem uO (l:List UInt8) (i:Nat):(T l)[i]? =l[i]? :=by
 by_cases h:i<l.length
 ·rw[bn h,getElem?_pos (T l) i (by rw[cK];exact h)];rfl
 ·rw[bZ (by omega),getElem?_neg (T l) i (by rw[cK];exact h)]
theorem wB (l:List UInt8) (a b:Nat):(T l).extract a b=T ((l.drop a).take (b-a)):=by
 rw[vg ((T l).extract a b),Lib.extract_data]
theorem jR (l m:List UInt8):T l++T m=T (l++m):=by
 apply ByteArray.ext;simp[T]
theorem jW (l m:List UInt8):((T l).toList==(T m).toList)=decide (l=m):=Rj l m
def qN (us:Nat->Value):List (Nat×Value)->Nat->Value
 | [],i=>us i
 | (k,v)::r,i=>bif Nat.beq k i then v else qN us r i
def uQ:List (Nat×Value)->Nat->Option Value
 | [],_=>none
 | (k,v)::r,i=>bif Nat.beq k i then some v else uQ r i
def Pc (us:Nat->Value) (l:List (Nat×Value)):Nat->Nat->List Value
 | 0,_=>[]
 | n+1,i=>qN us l i::Pc us l n (i+1)
def fr (n:Nat) (us:Nat->Value) (l:List (Nat×Value)):Act:=⟨(Pc us l n 0).toArray,[]⟩
def evO (n:Nat) (l:List (Nat×Value)):Operand->Option Value
 | .tmp k=>bif Nat.blt k n then uQ l k else none
 | .const v=>some v
 | .global g=>some (.pointer (some ⟨g,0,none⟩))
 | .func f=>some (.func (.func f) #[] #[])
def evOs (n:Nat) (l:List (Nat×Value)):List Operand->Option (List Value)
 | []=>some []
 | x::r=>match evO n l x,evOs n l r with
  | some v,some vs=>some (v::vs)
  | _,_=>none
def evPs (n:Nat) (l:List (Nat×Value)):List (Nat×Operand)->Option (List (Nat×Value))
 | []=>some []
 | (i,x)::r=>match evO n l x,evPs n l r with
  | some v,some vs=>some ((i,v)::vs)
  | _,_=>none
def pl:Option Tmp->Value->List (Nat×Value)->List (Nat×Value)
 | some k,v,l=>(k,v)::l
 | none,_,l=>l
def Ab:Nat->List Value->List (Nat×Value)
 | _,[]=>[]
 | i,v::r=>(i,v)::Ab (i+1) r
section
variable {n0:Nat} {us0:Nat->Value} {l0:List (Nat×Value)}
theorem lc (us:Nat->Value) (l:List (Nat×Value)):∀n i,(Pc us l n i).length=n
 | 0,_=>rfl
 | n+1,i=>by simp only[Pc,ao,lc us l n (i+1)]
theorem kl (us:Nat->Value) (l:List (Nat×Value)):∀n i k,k<n->(Pc us l n i)[k]? =some (qN us l (i+k))
 | 0,_,_,h=>by omega
 | n+1,i,0,_=>rfl
 | n+1,i,k+1,h=>by
  simp only[Pc,bQ];rw[kl us l n (i+1) k (by omega),show i+1+k=i+(k+1) by omega]
theorem qp {us:Nat->Value}:∀{l:List (Nat×Value)} {k:Nat} {v:Value},uQ l k=some v->qN us l k=v
 | [],_,_,h=>by cases h
 | (j,u)::r,k,v,h=>by
  simp only[uQ,qN]at h⊢;cases hb:Nat.beq j k with
  | true=>rw[hb]at h;simpa using h
  | false=>rw[hb]at h;exact qp (l:=r) (by simpa using h)
theorem Ad {us:Nat->Value}:∀{l:List (Nat×Value)} {k:Nat},uQ l k=none->qN us l k=us k
 | [],_,_=>rfl
 | (j,u)::r,k,h=>by
  simp only[uQ,qN]at h⊢;cases hb:Nat.beq j k with
  | true=>rw[hb]at h;simp at h
  | false=>rw[hb]at h;exact Ad (l:=r) (by simpa using h)
theorem Kv {k:Nat} (hk:k<n0):(fr n0 us0 l0).eval (.tmp k)=qN us0 l0 k:=by
 show(Pc us0 l0 n0 0).toArray.getD k undef=_;rw[Array.getD_eq_getD_getElem?,nc,kl _ _ _ _ _ hk,aJ];rfl
theorem evE {x:Operand} {v:Value} (h:evO n0 l0 x=some v):(fr n0 us0 l0).eval x=v:=by
 cases x with
 | tmp k=>
  simp only[evO]at h;cases hb:Nat.blt k n0 with
  | false=>rw[hb]at h;cases h
  | true=>
   rw[hb]at h;rw[Kv (ca hb)];exact qp h
 | const u=>simpa[evO,Act.eval]using h
 | global g=>simpa[evO,Act.eval]using h
 | func f=>simpa[evO,Act.eval]using h
theorem sw {us:Nat->Value} {l:List (Nat×Value)} {k i:Nat} {v:Value} (h:k≠i):qN us ((k,v)::l) i=qN us l i:=by
 have:Nat.beq k i=false:=by
  cases hb:Nat.beq k i with
  | false=>rfl
  | true=>exact absurd (aX hb) h
 simp only[qN,this,lq]
theorem sA {us:Nat->Value} {l:List (Nat×Value)} {k:Nat} {v:Value}:qN us ((k,v)::l) k=v:=by
 simp only[qN,Nat.beq_refl,dY]
theorem XI {k:Nat} {v:Value}:(fr n0 us0 l0).put (some k) v=fr n0 us0 ((k,v)::l0):=by
 unfold fr;rw[f0];congr 2;apply gJ;intro i;rw[mf,lc];by_cases hi:i<n0
 ·rw[kl _ _ _ _ _ hi,kl _ _ _ _ _ hi,aJ];split
  ·rename_i h;subst h;rw[if_pos hi,sA]
  ·rename_i h;rw[sw h]
 ·rw[bZ (by rw[lc];omega),bZ (by rw[lc];omega)];split
  ·rename_i h;subst h;rw[if_neg hi]
  ·rfl
theorem yX:∀(args:List Value) (j i:Nat),qN (fun _=>undef) (Ab j args) i=if j<=i then(args[i-j]?).getD undef else undef
 | [],j,i=>by simp[Ab,qN]
 | v::r,j,i=>by
  simp only[Ab];by_cases qd:j=i
  ·subst qd;rw[sA,if_pos (aq _)];simp
  ·rw[sw qd,yX r (j+1) i];by_cases tH:j<=i
   ·rw[if_pos tH,if_pos (by omega),show i-j=(i-(j+1))+1 by omega,bQ]
   ·rw[if_neg tH,if_neg (by omega)]
end
section
variable {P:Program} {ops:Array Oper} {Q:Exit->Act->World->Prop} {rest:List Oper} {w w':World} {n0:Nat} {us0:Nat->Value} {l0:List (Nat×Value)}
def asB:Value->Option Bool
 | .bool b=>some b
 | _=>none
theorem B3 {dQ:List Oper} {j d:Nat} {oj:Oper} {v:Value} (h2:fm dQ j=some oj) (h3:oj.dst=some d) (h4:evO n0 l0 (.tmp d)=some v):
  yielded dQ.toArray (fr n0 us0 l0).tmps j=asB v:=by
 rw[io]at h2;have hd:d<n0:=by
  simp only[evO]at h4;cases hb:Nat.blt d n0 with
  | false=>rw[hb]at h4;cases h4
  | true=>exact ca hb
 have h5:=evE (us0:=us0) h4;rw[Kv hd]at h5;have:(fr n0 us0 l0).tmps[d]? =some v:=by
  show(Pc us0 l0 n0 0).toArray[d]? =_;rw[nc,kl _ _ _ _ _ hd,aJ,h5]
 simp only[yielded,nc,h2,kj,h3,this];cases v<;>rfl
theorem wtF {o oj:Oper} {dQ:List Oper} {j d:Nat} {want b r:Bool} (h1:o.guard=some (j,want)) (h2:fm dQ j=some oj) (h3:oj.dst=some d)
  (h4:evO n0 l0 (.tmp d)=some (.bool b)) (h5:(b==want)=r):Region.wanted o (yielded dQ.toArray (fr n0 us0 l0).tmps)=r:=by
 subst h5;have e:=B3 (us0:=us0) h2 h3 h4;simp only[Region.wanted,h1,e,asB];cases b<;>cases want<;>rfl
theorem wuF {o oj:Oper} {dQ:List Oper} {j d:Nat} {want:Bool} (h1:o.guard=some (j,want)) (h2:fm dQ j=some oj) (h3:oj.dst=some d)
  (h4:evO n0 l0 (.tmp d)=some undef):Region.wanted o (yielded dQ.toArray (fr n0 us0 l0).tmps)=false:=by
 have e:=B3 (us0:=us0) h2 h3 h4;simp[Region.wanted,h1,e,undef,asB]
theorem pg {x y:Option Addr} (h:x=y):some (Value.pointer x)=some (.pointer y):=by rw[h]
theorem ag {x y:Addr} (h:x=y):some (Value.pointer (some x))=some (.pointer (some y)):=by rw[h]
theorem bg {x y:Bool} (h:x=y):some (Value.bool x)=some (.bool y):=by rw[h]
theorem sv {k:Tmp} {op:Op} {t':TypeId} {p:String} {af:Array Edge} {v:Value} (hr:(execOp (fr n0 us0 l0).eval ⟨some k,op,t',p,af,none⟩).run P w=.ok (.value v) w)
 (h:wpList P ops Q rest (fr n0 us0 ((k,v)::l0)) w):wpList P ops Q (⟨some k,op,t',p,af,none⟩::rest) (fr n0 us0 l0) w:=zO v (wn rfl) hr XI h
theorem sn {op:Op} {t':TypeId} {p:String} {af:Array Edge} {v:Value} (hr:(execOp (fr n0 us0 l0).eval ⟨none,op,t',p,af,none⟩).run P w=.ok (.value v) w)
 (h:wpList P ops Q rest (fr n0 us0 l0) w):wpList P ops Q (⟨none,op,t',p,af,none⟩::rest) (fr n0 us0 l0) w:=zO v (wn rfl) hr (f3 _ _) h
end
end Go.Kt
namespace Go.Kt.V
open Go Go.RowKit Go.Kt
set_option linter.unusedSimpArgs false
set_option linter.unusedVariables false
structure OV where
 v:Value
 one:v.oneCell'=true
inductive SV where
 | int (k:IntKind) (n:Int)
 | il (k:IntKind) (n:Int)
 | bl (b:Bool)
 | bt (t:Bool)
 | str (s:ByteArray)
 | np
 | ptr (p:Option Addr)
 | ad (a:Addr)
 | box (i o:Nat)
 | sl (s:Sl)
 | nsl
 | map (m:Option Nat)
 | raw (v:OV)
 | fn (f:FuncId) (fs cs:SV)
 | agg (l:SV)
 | tup (l:SV)
 | un
 | e
 | c (h t:SV)
def mV (β:Nat->Nat):SV->List Value
 | .int k n=>[.int k n]
 | .il k n=>[.int k n]
 | .bl b=>[.bool b]
 | .bt t=>[.bool t]
 | .str s=>[.string s]
 | .np=>[.pointer none]
 | .ptr p=>[.pointer p]
 | .ad a=>[.pointer (some a)]
 | .box i o=>[.pointer (some ⟨β i,o,none⟩)]
 | .sl s=>[s.v]
 | .nsl=>[Sl.v Sl.nil]
 | .map m=>[.map m]
 | .raw v=>[v.v]
 | .fn f fs cs=>[.func (.func f) (mV β fs).toArray (mV β cs).toArray]
 | .agg l=>[.agg (mV β l).toArray]
 | .tup l=>[.tuple (mV β l).toArray]
 | .un=>[undef]
 | .e=>[]
 | .c h t=>(mV β h).headD undef::mV β t
def val (β:Nat->Nat) (s:SV):Value:=(mV β s).headD undef
def bq (β:Nat->Nat) (l:List SV):List Value:=l.map (val β)
def jg:SV->List SV
 | .c h t=>h::jg t
 | _=>[]
def ld:List SV->SV
 | []=>.e
 | s::r=>.c s (ld r)
def yz:SV->Bool
 | .c _ t=>yz t
 | .e=>true
 | _=>false
theorem ob (β:Nat->Nat):∀l,mV β (ld l)=bq β l
 | []=>rfl
 | s::r=>by simp only[ld,mV,ob β r];rfl
theorem kn (β:Nat->Nat):∀{s:SV},yz s=true->mV β s=bq β (jg s)
 | .e,_=>rfl
 | .c h t,hl=>by simp only[mV,jg,kn β (s:=t) hl];rfl
def cln (g:Nat->Bool):SV->Bool
 | .box i _=>g i
 | .fn _ fs cs=>cln g fs&&cln g cs
 | .agg l=>cln g l
 | .tup l=>cln g l
 | .c h t=>cln g h&&cln g t
 | _=>true
def fz (g:Nat->Bool):List SV->Bool
 | []=>true
 | s::r=>cln g s&&fz g r
theorem jX {β β':Nat->Nat} {g:Nat->Bool} (h:∀i,g i=true->β i=β' i):∀s,cln g s=true->mV β s=mV β' s
 | .int ..,_ | .il ..,_ | .bl ..,_ | .bt ..,_ | .str ..,_ | .np,_ | .ptr ..,_ | .ad ..,_ | .sl ..,_ | .nsl,_ | .map ..,_ | .raw ..,_ | .un,_ | .e,_=>rfl
 | .box i o,hc=>by simp only[mV,h i hc]
 | .fn f fs cs,hc=>by
  simp only[cln,ab]at hc;simp only[mV,jX h fs hc.1,jX h cs hc.2]
 | .agg l,hc=>by simp only[mV,jX h l hc]
 | .tup l,hc=>by simp only[mV,jX h l hc]
 | .c s t,hc=>by
  simp only[cln,ab]at hc;simp only[mV,jX h s hc.1,jX h t hc.2]
theorem gy {β β':Nat->Nat} {g:Nat->Bool} (h:∀i,g i=true->β i=β' i) (s:SV) (hc:cln g s=true):val β s=val β' s:=by
 unfold val;rw[jX h s hc]
theorem fh {β β':Nat->Nat} {g:Nat->Bool} (h:∀i,g i=true->β i=β' i):∀l,fz g l=true->bq β l=bq β' l
 | [],_=>rfl
 | s::r,hc=>by
  simp only[fz,ab]at hc;have:=fh h r hc.2;simp only[bq,aI]at this⊢;rw[gy h s hc.1,this]
theorem dA (β:Nat->Nat) (l:List SV):(bq β l).length=l.length:=by rw[bq,aQ]
def Kw:Value->Option SV
 | .int k n=>some (.il k n)
 | .bool b=>some (.bl b)
 | .string s=>some (.str s)
 | .pointer none=>some .np
 | .slice none 0 0=>some .nsl
 | .map m=>some (.map m)
 | v=>if h:v.oneCell'=true then some (.raw ⟨v,h⟩)else none
def yA:List Value->Option SV
 | []=>some .e
 | v::r=>match Kw v,yA r with
  | some s,some l=>some (.c s l)
  | _,_=>none
def ofV:Value->Option SV
 | .agg cs=>(yA cs.toList).map .agg
 | .tuple cs=>(yA cs.toList).map .tup
 | .func (.func f) fs cs=>match yA fs.toList,yA cs.toList with
  | some a,some b=>some (.fn f a b)
  | _,_=>none
 | v=>Kw v
theorem wC {v:Value} {s:SV} (h:Kw v=some s) (β:Nat->Nat):val β s=v:=by
 unfold Kw at h;split at h
 all_goals first | (simp only[ai]at h;subst h;rfl) | skip
 split at h
 ·simp only[ai]at h;subst h;rfl
 ·cases h
theorem pf (β:Nat->Nat):∀{l:List Value} {s:SV},yA l=some s->mV β s=l
 | [],s,h=>by simp only[yA,ai]at h;subst h;rfl
 | v::r,s,h=>by
  simp only[yA]at h;split at h
  ·rename_i s' l' h1 h2;simp only[ai]at h;subst h;simp only[mV,pf β h2];rw[show(mV β s').headD undef=v from wC h1 β]
  ·cases h
theorem Gj {v:Value} {s:SV} (h:ofV v=some s) (β:Nat->Nat):val β s=v:=by
 unfold ofV at h;split at h
 ·rename_i cs;cases hl:yA cs.toList with
  | none=>rw[hl]at h;cases h
  | some l=>
   rw[hl]at h;simp only[bP,ai]at h;subst h;simp only[val,mV,oY,pf β hl]
 ·rename_i cs;cases hl:yA cs.toList with
  | none=>rw[hl]at h;cases h
  | some l=>
   rw[hl]at h;simp only[bP,ai]at h;subst h;simp only[val,mV,oY,pf β hl]
 ·rename_i f fs cs;split at h
  ·rename_i a b h1 h2;simp only[ai]at h;subst h;simp only[val,mV,oY,pf β h1,pf β h2]
  ·cases h
 ·exact wC h β
structure fH where
 blk:Option Nat
 ty:TypeId
 cells:List SV
 stp:Nat
 ok:Bool
 esc:Bool
 sh:Bool
structure St where
 n:Nat
 fr:List (Nat×Nat×SV)
 bx:List fH
 w0:World
 mv:Bool
 dt:List Nat
 ct:Nat
 df:List (Nat×List Value×List Value)
def Oj (l:List (Nat×List Value×List Value)):List Deferred:=l.map fun d=>{target:=.fn (.func d.1) d.2.2.toArray,args:=d.2.1.toArray}
def Ty (n:Nat) (us:Nat->Value) (l:List (Nat×Value)) (D:List Deferred):Act:=⟨(Pc us l n 0).toArray,D⟩
def cM:List (Nat×Nat×SV)->Nat->Option (Nat×SV)
 | [],_=>none
 | (k,s)::r,i=>bif Nat.beq k i then some s else cM r i
def St.get (st:St) (i:Nat):Option SV:=bif Nat.blt i st.n then(cM st.fr i).map (·.2)else none
def St.ev (st:St):Operand->Option SV
 | .tmp k=>st.get k
 | .const v=>ofV v
 | .global g=>some (.ad ⟨g,0,none⟩)
 | .func f=>some (.fn f .e .e)
def St.DU (st:St):List Operand->Option (List SV)
 | []=>some []
 | x::r=>match st.ev x,st.DU r with
  | some v,some vs=>some (v::vs)
  | _,_=>none
def St.Jt (st:St):List (Nat×Operand)->Option (List (Nat×SV))
 | []=>some []
 | (i,x)::r=>match st.ev x,st.Jt r with
  | some v,some vs=>some ((i,v)::vs)
  | _,_=>none
def St.put (st:St) (d:Option Tmp) (v:SV):St:=match d with
 | some k=>{st with fr:=(k,st.ct,v)::st.fr,ct:=st.ct+1}
 | none=>st
def bL:List fH->Nat->Option fH
 | [],_=>none
 | b::_,0=>some b
 | _::r,n+1=>bL r n
def yB:List fH->Nat->fH->List fH
 | [],_,_=>[]
 | _::r,0,b=>b::r
 | a::r,n+1,b=>a::yB r n b
def cv (β:Nat->Nat) (l:List (Nat×Nat×SV)):List (Nat×Value):=l.map fun p=>(p.1,val β p.2.2)
theorem jt (β:Nat->Nat):∀l i,uQ (cv β l) i=(cM l i).map fun p=>val β p.2
 | [],_=>rfl
 | (k,s)::r,i=>by
  simp only[cv,aI,uQ,cM];cases Nat.beq k i with
  | true=>rfl
  | false=>exact jt β r i
structure aa5 (β:Nat->Nat) (w0 w:World) (i:Nat) (b:fH):Prop where
 blk:Blk w (β i) b.ty (bq β b.cells)
 at_:∀k,b.blk=some k->β i=k
 new:b.blk=none->w0.heap.size<=β i
structure Rep (β:Nat->Nat) (st:St) (a:Act) (w:World):Prop where
 fr:∃us,a=Ty st.n us (cv β st.fr) (Oj st.df)
 bx:∀i b,bL st.bx i=some b->b.ok=true->aa5 β st.w0 w i b
 ne:∀i j bi bj,bL st.bx i=some bi->bL st.bx j=some bj->bi.ok=true->bj.ok=true->i≠j->β i≠β j
 only:Only (st.dt.map β) st.w0 w
 still:st.mv=false->w=st.w0
structure Ext (s t:St):Prop where
 n:t.n=s.n
 ct:s.ct<=t.ct
 fr:∀i k v,cM t.fr i=some (k,v)->k<s.ct->cM s.fr i=some (k,v)
 bx:∀i b',bL t.bx i=some b'->b'.ok=true->b'.stp<s.ct->∃b,bL s.bx i=some b/\b.ok=true/\b.cells=b'.cells/\b.ty=b'.ty/\b.stp=b'.stp/\(∀k,b.blk=some k->b'.blk=some k)
 ps:∀i b,bL s.bx i=some b->∃b',bL t.bx i=some b'/\b'.ty=b.ty/\b'.ok=b.ok/\∀k,b.blk=some k->b'.blk=some k
 df:∃l,t.df=l++s.df
theorem BE {s:St}:∃l,s.df=l++s.df:=⟨[],rfl⟩
theorem Kx {l:List fH}:∀i b,bL l i=some b->∃b',bL l i=some b'/\b'.ty=b.ty/\b'.ok=b.ok/\∀k,b.blk=some k->b'.blk=some k:=fun i b h=>⟨b,h,rfl,rfl,fun _ h=>h⟩
theorem Ext.refl (s:St):Ext s s:=⟨rfl,aq _,fun _ _ _ h _=>h,fun i b h ho _=>⟨b,h,ho,rfl,rfl,rfl,fun _ h=>h⟩,Kx,BE⟩
theorem Ext.trans {s t u:St} (h:Ext s t) (k:Ext t u):Ext s u:=
 ⟨k.n.trans h.n,ay h.ct k.ct,fun i m v hl bp=>h.fr i m v (k.fr i m v hl (bC bp h.ct)) bp,fun i b'' hb ho hs=>by
  obtain⟨b',k1,k2,k3,k4,k6,k5⟩:=k.bx i b'' hb ho (bC hs h.ct);obtain⟨b,h1,h2,h3,h4,h6,h5⟩:=h.bx i b' k1 k2 (by rw[k6];exact hs);exact⟨b,h1,h2,h3.trans k3,h4.trans k4,h6.trans k6,fun m hm=>k5 m (h5 m hm)⟩,fun i b hb=>by
  obtain⟨b',h1,h2,h3,h4⟩:=h.ps i b hb;obtain⟨b'',k1,k2,k3,k4⟩:=k.ps i b' h1;exact⟨b'',k1,k2.trans h2,k3.trans h3,fun m hm=>k4 m (h4 m hm)⟩,by
  obtain⟨l,h1⟩:=h.df;obtain⟨m,k1⟩:=k.df;exact⟨m++l,by rw[k1,h1,av]⟩⟩
section
variable {β:Nat->Nat} {st:St} {a:Act} {w:World}
theorem Rep.get (h:Rep β st a w) {i:Nat} {s:SV} (hg:st.get i=some s):a.eval (.tmp i)=val β s:=by
 obtain⟨us,rfl⟩:=h.fr;show(Kt.fr st.n us (cv β st.fr)).eval (.tmp i)=_;refine evE (n0:=st.n) (us0:=us) ?_;unfold St.get at hg;cases hb:Nat.blt i st.n with
 | false=>rw[hb]at hg;cases hg
 | true=>
  rw[hb,dY]at hg;simp only[evO,hb,dY,jt];cases hl:cM st.fr i with
  | none=>rw[hl]at hg;cases hg
  | some p=>
   rw[hl]at hg;simp only[bP,ai]at hg;rw[bP,hg]
theorem Rep.ev (h:Rep β st a w) {x:Operand} {s:SV} (hg:st.ev x=some s):a.eval x=val β s:=by
 cases x with
 | tmp k=>exact h.get hg
 | const v=>rw[Gj hg];rfl
 | global g=>
  simp only[St.ev,ai]at hg;subst hg;rfl
 | func f=>
  simp only[St.ev,ai]at hg;subst hg;rfl
theorem Rep.DU (h:Rep β st a w):∀{xs:List Operand} {l:List SV},st.DU xs=some l->xs.map a.eval=bq β l
 | [],l,hg=>by simp only[St.DU,ai]at hg;subst hg;rfl
 | x::r,l,hg=>by
  simp only[St.DU]at hg;split at hg
  ·rename_i v vs hx hr;simp only[ai]at hg;subst hg;rw[aI,h.ev hx,h.DU hr];rfl
  ·cases hg
def uR (β:Nat->Nat) (l:List (Nat×SV)):List (Nat×Value):=l.map fun p=>(p.1,val β p.2)
theorem Rep.Jt (h:Rep β st a w):∀{xs:List (Nat×Operand)} {l:List (Nat×SV)},st.Jt xs=some l->(xs.map fun q=>(q.1,a.eval q.2))=uR β l
 | [],l,hg=>by simp only[St.Jt,ai]at hg;subst hg;rfl
 | (i,x)::r,l,hg=>by
  simp only[St.Jt]at hg;split at hg
  ·rename_i v vs hx hr;simp only[ai]at hg;subst hg;rw[aI,h.Jt hr,h.ev hx];rfl
  ·cases hg
theorem St.evO {st:St} (β:Nat->Nat) {x:Operand} {s:SV} (hg:st.ev x=some s):Kt.evO st.n (cv β st.fr) x=some (val β s):=by
 cases x with
 | tmp i=>
  have hg:st.get i=some s:=hg;unfold St.get at hg;cases hb:Nat.blt i st.n with
  | false=>rw[hb]at hg;cases hg
  | true=>
   rw[hb,dY]at hg;simp only[Kt.evO,hb,dY,jt];cases hl:cM st.fr i with
   | none=>rw[hl]at hg;cases hg
   | some p=>
    rw[hl]at hg;simp only[bP,ai]at hg;rw[bP,hg]
 | const v=>rw[Gj hg];rfl
 | global g=>
  simp only[St.ev,ai]at hg;subst hg;rfl
 | func f=>
  simp only[St.ev,ai]at hg;subst hg;rfl
theorem St.evOs {st:St} (β:Nat->Nat):∀{xs:List Operand} {l:List SV},st.DU xs=some l->Kt.evOs st.n (cv β st.fr) xs=some (bq β l)
 | [],l,hg=>by simp only[St.DU,ai]at hg;subst hg;rfl
 | x::r,l,hg=>by
  simp only[St.DU]at hg;split at hg
  ·rename_i v vs hx hr;simp only[ai]at hg;subst hg;simp only[Kt.evOs,St.evO β hx,St.evOs β hr];rfl
  ·cases hg
theorem St.evPs {st:St} (β:Nat->Nat):∀{xs:List (Nat×Operand)} {l:List (Nat×SV)},st.Jt xs=some l->Kt.evPs st.n (cv β st.fr) xs=some (uR β l)
 | [],l,hg=>by simp only[St.Jt,ai]at hg;subst hg;rfl
 | (i,x)::r,l,hg=>by
  simp only[St.Jt]at hg;split at hg
  ·rename_i v vs hx hr;simp only[ai]at hg;subst hg;simp only[Kt.evPs,St.evO β hx,St.evPs β hr];rfl
  ·cases hg
theorem Rep.put (h:Rep β st a w) (d:Option Tmp) (v:SV):Rep β (st.put d v) (a.put d (val β v)) w:=by
 cases d with
 | none=>exact h
 | some k=>
  obtain⟨us,rfl⟩:=h.fr;exact⟨⟨us,aU (fun a:Act=>(⟨a.tmps,Oj st.df⟩:Act)) (XI (n0:=st.n) (us0:=us) (l0:=cv β st.fr) (k:=k) (v:=val β v))⟩,h.bx,h.ne,h.only,h.still⟩
theorem Ext.put (st:St) (d:Option Tmp) (v:SV):Ext st (st.put d v):=by
 cases d with
 | none=>exact Ext.refl _
 | some k=>
  refine⟨rfl,fS _,fun i m u hl bp=>?_,fun i b h ho _=>⟨b,h,ho,rfl,rfl,rfl,fun _ h=>h⟩,Kx,BE⟩;simp only[St.put,cM]at hl;cases hb:Nat.beq k i with
  | true=>
   rw[hb]at hl;simp only[dY,ai,cr]at hl;omega
  | false=>rw[hb]at hl;simpa using hl
theorem Rep.frame (h:Rep β st a w) {fr':List (Nat×Nat×SV)} (hs:∀i p,cM fr' i=some p->∃q,cM st.fr i=some q/\val β q.2=val β p.2):Rep β {st with fr:=fr'} a w:=by
 obtain⟨us,rfl⟩:=h.fr;refine⟨?_,h.bx,h.ne,h.only,h.still⟩;refine⟨fun i=>qN us (cv β st.fr) i,?_⟩;unfold Ty;congr 2;apply gJ;intro i;by_cases hi:i<st.n
 ·rw[kl _ _ _ _ _ hi,kl _ _ _ _ _ hi,aJ];congr 1;cases hl:cM fr' i with
  | none=>
   rw[Ad (l:=cv β fr') (by rw[jt,hl];rfl)]
  | some p=>
   obtain⟨q,h1,h2⟩:=hs i p hl;rw[qp (l:=cv β fr') (v:=val β p.2) (by rw[jt,hl];rfl),qp (l:=cv β st.fr) (v:=val β p.2) (by rw[jt,h1,bP,h2])]
 ·rw[bZ (by rw[lc];exact JK hi),bZ (by rw[lc];exact JK hi)]
end
def ba {α:Type} (o:Option α) (K:α->Prop):Prop:=match o with
 | some v=>K v
 | none=>False
theorem aA {α:Type} {o:Option α} {K:α->Prop} (h:ba o K):∃v,o=some v/\K v:=by
 cases o with
 | none=>exact h.elim
 | some v=>exact⟨v,rfl,h⟩
def gi:List (Bool×Bool)->Prop->Prop
 | [],p=>p
 | (t,b)::r,p=>t=b->gi r p
def gh:List (Bool×Bool)->Prop
 | []=>True
 | (t,b)::r=>t=b/\gh r
theorem fi:∀{gs:List (Bool×Bool)} {p:Prop},gi gs p->gh gs->p
 | [],_,h,_=>h
 | (t,b)::r,p,h,k=>fi (gs:=r) (h k.1) k.2
inductive Lf where
 | int (k:IntKind)
 | bool
 | str
 | ptr
 | sl
 | map
 | raw
def Lf.T:Lf->Type
 | .int _=>Int
 | .bool=>Bool
 | .str=>ByteArray
 | .ptr=>Option Addr
 | .sl=>Sl
 | .map=>Option Nat
 | .raw=>OV
def Lf.sv:(l:Lf)->l.T->SV
 | .int k,x=>.int k x
 | .bool,x=>.bt x
 | .str,x=>.str x
 | .ptr,x=>.ptr x
 | .sl,x=>.sl x
 | .map,x=>.map x
 | .raw,x=>.raw x
theorem Lf.cln (g:Nat->Bool) (l:Lf) (x:l.T):V.cln g (l.sv x)=true:=by cases l<;>rfl
def WE:List Lf->(List SV->Prop)->Prop
 | [],K=>K []
 | l::r,K=>∃x:l.T,WE r fun vs=>K (l.sv x::vs)
theorem wD:∀{ls:List Lf} {K:List SV->Prop},WE ls K->∃vs,K vs/\vs.length=ls.length/\∀g,fz g vs=true
 | [],K,h=>⟨[],h,rfl,fun _=>rfl⟩
 | l::r,K,h=>by
  obtain⟨x,h⟩:=h;obtain⟨vs,h1,h2,h3⟩:=wD (ls:=r) h;exact⟨_,h1,by simp[h2],fun g=>by simp only[fz,Lf.cln,h3 g,dk]⟩
def aex:TypeDesc->Lf
 | .int k=>.int k
 | .bool=>.bool
 | .string=>.str
 | .pointer _=>.ptr
 | .slice _=>.sl
 | .map _ _=>.map
 | _=>.raw
def rep {α:Type}:Nat->List α->List α
 | 0,_=>[]
 | n+1,l=>l++rep n l
def flat {α β:Type} (f:α->List β):List α->List β
 | []=>[]
 | x::r=>f x++flat f r
def Ol (P:Program):Nat->TypeId->List Lf
 | 0,_=>[]
 | n+1,t=>match P.underlying t with
  | some (.struct fs)=>flat (fun f:Field=>Ol P n f.type) fs.toList
  | some (.array len e)=>rep len (Ol P n e)
  | some d=>[aex d]
  | none=>[]
def kA:TypeDesc->Bool
 | .struct _=>true
 | .array _ _=>true
 | _=>false
def Ky (ag:Bool) (l:List SV):SV:=bif ag then .agg (ld l)else l.headD .un
def β0:Nat->Nat:=fun _=>0
def nr:SV->Option (IntKind×Int)
 | .int k n=>some (k,n)
 | .il k n=>some (k,n)
 | _=>none
theorem cj {s:SV} {k:IntKind} {n:Int} (h:nr s=some (k,n)) (β:Nat->Nat):val β s=.int k n:=by
 cases s<;>simp only[nr,ai,cr,reduceCtorEq]at h
 all_goals obtain⟨rfl,rfl⟩:=h;rfl
def wE:SV->Option Bool
 | .bl b=>some b
 | .bt b=>some b
 | _=>none
theorem jY {s:SV} {b:Bool} (h:wE s=some b) (β:Nat->Nat):val β s=.bool b:=by
 cases s<;>simp only[wE,ai,reduceCtorEq]at h
 all_goals subst h;rfl
def rA:SV->Option ByteArray
 | .str s=>some s
 | _=>none
theorem fA {s:SV} {b:ByteArray} (h:rA s=some b) (β:Nat->Nat):val β s=.string b:=by
 cases s<;>simp only[rA,ai,reduceCtorEq]at h
 all_goals subst h;rfl
def Gk:SV->Option Sl
 | .sl s=>some s
 | .nsl=>some Sl.nil
 | _=>none
theorem iq {s:SV} {b:Sl} (h:Gk s=some b) (β:Nat->Nat):val β s=b.v:=by
 cases s<;>simp only[Gk,ai,reduceCtorEq]at h
 all_goals subst h;rfl
def ib (op:BinOp) (k:IntKind) (m n:Int):Option SV:=match op with
 | .add=>some (.int k (k.wrap (m+n)))
 | .sub=>some (.int k (k.wrap (m-n)))
 | .mul=>some (.int k (k.wrap (m*n)))
 | .eql=>some (.bt (m==n))
 | .neq=>some (.bt (m !=n))
 | .lss=>some (.bt (decide (m<n)))
 | .leq=>some (.bt (decide (m<=n)))
 | .gtr=>some (.bt (decide (m>n)))
 | .geq=>some (.bt (decide (m>=n)))
 | .and=>some (.int k (bits .and k m n))
 | .or=>some (.int k (bits .or k m n))
 | .xor=>some (.int k (bits .xor k m n))
 | .andNot=>some (.int k (bits .andNot k m n))
 | _=>none
def sb (op:BinOp) (s u:ByteArray):Option SV:=match op with
 | .eql=>some (.bt (s.toList==u.toList))
 | .neq=>some (.bt (!(s.toList==u.toList)))
 | .lss=>some (.bt (Op.bytesLess s.toList u.toList))
 | .geq=>some (.bt (!(Op.bytesLess s.toList u.toList)))
 | .leq=>some (.bt (Op.bytesLess s.toList u.toList||(s.toList==u.toList)))
 | .gtr=>some (.bt (!(Op.bytesLess s.toList u.toList||(s.toList==u.toList))))
 | _=>none
def nz (gs:List (Bool×Bool)) (b:SV) (n:Int) (K:Prop):Prop:=match b with
 | .il _ _=>bif n==0 then False else K
 | _=>gi gs (n≠0)/\K
def ge0 (gs:List (Bool×Bool)) (b:SV) (n:Int) (K:Prop):Prop:=match b with
 | .il _ _=>bif decide (0<=n)then K else False
 | _=>gi gs (0<=n)/\K
def nt:SV->Option (Option Addr)
 | .np=>some none
 | .ptr p=>some p
 | .ad a=>some (some a)
 | _=>none
theorem Pe {s:SV} {p:Option Addr} (h:nt s=some p) (β:Nat->Nat):val β s=.pointer p:=by
 cases s<;>simp only[nt,ai,reduceCtorEq]at h
 all_goals subst h;rfl
def pn (op:BinOp) (a:SV):Option SV:=match op,a with
 | .eql,.ptr p=>some (.bt p.isNone)
 | .neq,.ptr p=>some (.bt (!p.isNone))
 | .eql,.ad _=>some (.bl false)
 | .neq,.ad _=>some (.bl true)
 | .eql,.box _ _=>some (.bl false)
 | .neq,.box _ _=>some (.bl true)
 | .eql,.np=>some (.bl true)
 | .neq,.np=>some (.bl false)
 | _,_=>none
def sn (op:BinOp) (s:Sl):Option SV:=match op with
 | .eql=>some (.bt s.a.isNone)
 | .neq=>some (.bt (!s.a.isNone))
 | _=>none
def Kz:SV->Bool
 | .np=>true
 | _=>false
def B4:SV->Bool
 | .nsl=>true
 | _=>false
def eq1 (P:Program) (t:TypeId) (x y:SV):Option Bool:=match P.underlying t with
 | some (.int _)=>(match nr x,nr y with
  | some (k,m),some (k',n)=>bif decide (k=k')then some (m==n)else none
  | _,_=>none)
 | some .string=>(match rA x,rA y with
  | some s,some u=>some (s==u)
  | _,_=>none)
 | some .bool=>(match wE x,wE y with
  | some s,some u=>some (s==u)
  | _,_=>none)
 | _=>none
def B5 (P:Program) (xs ys:List SV):List Field->Option Bool
 | []=>some true
 | f::r=>bif f.name== "_" then none else match xs[f.offset]?,ys[f.offset]? with
  | some x,some y=>(match eq1 P f.type x y,B5 P xs ys r,r with
   | some b,some _,[]=>some b
   | some b,some c,_=>some (b&&c)
   | _,_,_=>none)
  | _,_=>none
def Tz (P:Program) (t:TypeId) (fs:Array Field) (a b:SV):Option Bool:=match a,b with
 | .agg l,.agg m=>bif yz l&&yz m&&!P.stoodInHeld t&&!P.eqGuardType P.depth t then B5 P (jg l) (jg m) fs.toList else none
 | _,_=>none
def TA (op:BinOp) (b:Bool):Option SV:=match op with
 | .eql=>some (.bt b)
 | .neq=>some (.bt (!b))
 | _=>none
def mn (op:BinOp) (a b:SV):Option SV:=match op,a,b with
 | .eql,.map m,.map none=>some (.bt m.isNone)
 | .neq,.map m,.map none=>some (.bt (!m.isNone))
 | _,_,_=>none
def TB (P:Program) (gs:List (Bool×Bool)) (op:BinOp) (t:TypeId) (a b:SV) (K:SV->Prop):Prop:=
 match nr a,nr b with
 | some (k,m),some (k',n)=>(match op with
  | .shl=>ge0 gs b n (K (.int k (k.wrap (m*2 ^ (min n.toNat k.bits)))))
  | .shr=>ge0 gs b n (K (.int k (m.fdiv (2 ^ (min n.toNat k.bits)))))
  | .quo=>bif decide (k=k')then nz gs b n (K (.int k (k.wrap (m.tdiv n))))else False
  | .rem=>bif decide (k=k')then nz gs b n (K (.int k (m.tmod n)))else False
  | _=>bif decide (k=k')then ba (ib op k m n) K else False)
 | _,_=>match rA a,rA b with
  | some s,some u=>(match op with
   | .add=>gi gs ((s.size:Int)+u.size<=9223372036854775807)/\K (.str (s++u))
   | _=>ba (sb op s u) K)
  | _,_=>match wE a,wE b,P.underlying t with
   | some s,some u,some .bool=>(match op with
    | .eql=>K (.bt (s==u))
    | .neq=>K (.bt (!(s==u)))
    | _=>False)
   | _,_,_=>match P.underlying t with
    | some (.pointer _)=>bif Kz b then ba (pn op a) K else bif Kz a then ba (pn op b) K else False
    | some (.slice _)=>bif B4 b then ba ((Gk a).bind (sn op)) K else bif B4 a then ba ((Gk b).bind (sn op)) K else False
    | some (.struct fs)=>ba (Tz P t fs a b) fun r=>ba (TA op r) K
    | some (.map _ _)=>ba (mn op a b) K
    | _=>False
section
variable {P:Program} {gs:List (Bool×Bool)} {K:SV->Prop}
theorem Rk {b:SV} {k:IntKind} {n:Int} {K:Prop} (hb:nr b=some (k,n)) (h:nz gs b n K):K/\(gh gs->n≠0):=by
 unfold nz at h;split at h
 ·cases hn:(n==0)with
  | true=>rw[hn]at h;exact h.elim
  | false=>rw[hn]at h;exact⟨h,fun _=>by simpa using hn⟩
 ·exact⟨h.2,fun g=>fi h.1 g⟩
theorem KA {b:SV} {n:Int} {K:Prop} (h:ge0 gs b n K):K/\(gh gs->0<=n):=by
 unfold ge0 at h;split at h
 ·by_cases hn:0<=n
  ·rw[aZ hn]at h;exact⟨h,fun _=>hn⟩
  ·rw[aK hn]at h;exact h.elim
 ·exact⟨h.2,fun g=>fi h.1 g⟩
theorem cw {b:Bool} {p:Prop} (h:bif b then p else False):b=true/\p:=by
 cases b with
 | true=>exact⟨rfl,h⟩
 | false=>exact h.elim
def kq (P:Program) (op:BinOp) (t:TypeId) (a b v:SV):Prop:=
 ∀(β:Nat->Nat) (act:Act) (x y:Operand) (dst:Option Tmp) (ty t':TypeId) (p:String) (af:Array Edge) (g:Option (Nat×Bool)) (w:World),act.eval x=val β a->act.eval y=val β b->
  (execOp act.eval ⟨dst,.binOp op t x y ty,t',p,af,g⟩).run P w=.ok (.value (val β v)) w
theorem XJ {op:BinOp} {t:TypeId} {a b v:SV} {k:IntKind} {m n:Int} (ha:nr a=some (k,m)) (hb:nr b=some (k,n)) (h:ib op k m n=some v):kq P op t a b v:=by
 intro β act x y dst ty t' p af g w hx hy;rw[cj ha]at hx;rw[cj hb]at hy;cases op<;>simp only[ib,ai,reduceCtorEq]at h
 all_goals subst h;simp only[execOp,hx,hy];cases k<;>rfl
theorem XK {op:BinOp} {t:TypeId} {a b v:SV} {s u:ByteArray} (ha:rA a=some s) (hb:rA b=some u) (h:sb op s u=some v):kq P op t a b v:=by
 intro β act x y dst ty t' p af g w hx hy;rw[fA ha]at hx;rw[fA hb]at hy;cases op<;>simp only[sb,ai,reduceCtorEq]at h
 all_goals subst h;simp only[execOp,hx,hy];rfl
theorem Rl {op:BinOp} {t e:TypeId} {a b v:SV} (hu:P.underlying t=some (.pointer e)) (hb:Kz b=true) (h:pn op a=some v):kq P op t a b v/\kq P op t b a v:=by
 have hbv:∀β,val β b=.pointer none:=fun β=>by
  unfold Kz at hb;split at hb
  ·rfl
  ·cases hb
 have key:∀(β:Nat->Nat),∃(q:Option Addr) (r:Bool),val β a=.pointer q/\val β v=.bool r/\((op=.eql/\q.isNone=r)∨(op=.neq/\(!q.isNone)=r)):=by
  intro β;unfold pn at h;split at h<;>simp only[ai,reduceCtorEq]at h<;>subst h
  ·exact⟨_,_,rfl,rfl,.inl ⟨rfl,rfl⟩⟩
  ·exact⟨_,_,rfl,rfl,.inr ⟨rfl,rfl⟩⟩
  ·exact⟨_,_,rfl,rfl,.inl ⟨rfl,rfl⟩⟩
  ·exact⟨_,_,rfl,rfl,.inr ⟨rfl,rfl⟩⟩
  ·exact⟨_,_,rfl,rfl,.inl ⟨rfl,rfl⟩⟩
  ·exact⟨_,_,rfl,rfl,.inr ⟨rfl,rfl⟩⟩
  ·exact⟨_,_,rfl,rfl,.inl ⟨rfl,rfl⟩⟩
  ·exact⟨_,_,rfl,rfl,.inr ⟨rfl,rfl⟩⟩
 constructor
 ·intro β act x y dst ty t' p af g w hx hy;obtain⟨q,r,h1,h2,h3⟩:=key β;rw[h1]at hx;rw[hbv]at hy;rw[h2];rcases h3 with⟨rfl,h3⟩ | ⟨rfl,h3⟩
  ·exact zV (run_underlying hu w) hx hy h3
  ·exact zX (run_underlying hu w) hx hy h3
 ·intro β act x y dst ty t' p af g w hx hy;obtain⟨q,r,h1,h2,h3⟩:=key β;rw[h1]at hy;rw[hbv]at hx;rw[h2];rcases h3 with⟨rfl,h3⟩ | ⟨rfl,h3⟩
  ·exact zW (run_underlying hu w) hx hy h3
  ·exact zY (run_underlying hu w) hx hy h3
theorem Rn {op:BinOp} {t e:TypeId} {a b v:SV} (hu:P.underlying t=some (.slice e)) (hb:B4 b=true) (h:(Gk a).bind (sn op)=some v):kq P op t a b v/\kq P op t b a v:=by
 have hbv:∀β,val β b=.slice none 0 0:=fun β=>by
  unfold B4 at hb;split at hb
  ·rfl
  ·cases hb
 cases hs:Gk a with
 | none=>rw[hs]at h;cases h
 | some s=>
  rw[hs]at h;simp only[kj]at h;constructor
  ·intro β act x y dst ty t' p af g w hx hy;rw[iq hs]at hx;rw[hbv]at hy;cases op<;>simp only[sn,ai,reduceCtorEq]at h<;>subst h
   ·exact BR (run_underlying hu w) hx hy
   ·exact BT (run_underlying hu w) hx hy
  ·intro β act x y dst ty t' p af g w hx hy;rw[iq hs]at hy;rw[hbv]at hx;cases op<;>simp only[sn,ai,reduceCtorEq]at h<;>subst h
   ·exact BS (run_underlying hu w) hx hy
   ·exact BU (run_underlying hu w) hx hy
theorem XM {op:BinOp} {t k e:TypeId} {a b v:SV} (hu:P.underlying t=some (.map k e)) (h:mn op a b=some v):kq P op t a b v:=by
 intro β act x y dst ty t' p af g w hx hy;unfold mn at h;split at h<;>simp only[ai,reduceCtorEq]at h<;>subst h
 all_goals
  rename_i m;change act.eval x=.map m at hx;change act.eval y=.map none at hy;have hE:∀d,(Op.equalIn (d+1) t (.map m) (.map none)).run P w=.ok m.isNone w:=fun d=>by
   unfold Op.equalIn;cases m<;>simp only[Sem.run_bind,run_underlying hu w,Result.andThen_ok]<;>rfl
 ·have hB:binOp .eql t (.map m) (.map none)=(do pure (.bool ((<-Op.equal t (.map m) (.map none))))):=by cases m<;>rfl
  have hG:eqGuard .eql t x y (.map m) (.map none)=pure ():=rfl;simp only[execOp,hx,hy,hG,hB,Op.equal,Op.maxDepth,Sem.run_bind,Sem.run_pure,Result.andThen_ok,hE 9999];rfl
 ·have hB:binOp .neq t (.map m) (.map none)=(do pure (.bool (!(<-Op.equal t (.map m) (.map none))))):=by cases m<;>rfl
  have hG:eqGuard .neq t x y (.map m) (.map none)=pure ():=rfl;simp only[execOp,hx,hy,hG,hB,Op.equal,Op.maxDepth,Sem.run_bind,Sem.run_pure,Result.andThen_ok,hE 9999];rfl
theorem Pf {t:TypeId} {x y:SV} {b:Bool} (h:eq1 P t x y=some b) (β:Nat->Nat) (d:Nat) (w:World):P.plainKey t=true/\(Op.equalIn (d+1) t (val β x) (val β y)).run P w=.ok b w:=by
 unfold eq1 at h;split at h
 ·rename_i k hu;refine⟨by simp[Program.plainKey,hu],?_⟩;split at h
  ·rename_i k1 m k2 n hx hy;cases hk:decide (k1=k2)with
   | false=>rw[hk]at h;cases h
   | true=>
    rw[hk]at h;injection h with h;subst h;have hk:=aj hk;subst hk;rw[cj hx,cj hy];simp[Op.equalIn,run_underlying hu]
  ·cases h
 ·rename_i hu;refine⟨by simp[Program.plainKey,hu],?_⟩;split at h
  ·rename_i s u hx hy;injection h with h;subst h;rw[fA hx,fA hy];simp[Op.equalIn,run_underlying hu]
  ·cases h
 ·rename_i hu;refine⟨by simp[Program.plainKey,hu],?_⟩;split at h
  ·rename_i s u hx hy;injection h with h;subst h;rw[jY hx,jY hy];simp[Op.equalIn,run_underlying hu]
  ·cases h
 ·cases h
theorem B6 {xs ys:List SV} (β:Nat->Nat) (d:Nat) (w:World):∀{fs:List Field} {b:Bool},B5 P xs ys fs=some b->(Op.eqFields (d+1) (bq β xs).toArray (bq β ys).toArray fs).run P w=.ok b w
 | [],b,h=>by
  simp only[B5,ai]at h;subst h;simp[Op.eqFields]
 | f::r,b,h=>by
  unfold B5 at h;cases hn:(f.name== "_")with
  | true=>rw[hn]at h;cases h
  | false=>
   rw[hn,lq]at h;have hn:f.name≠ "_" :=by simpa using hn
   split at h
   ·rename_i x y hx hy;have px:(bq β xs).toArray[f.offset]? =some (val β x):=by simp[bq,hx]
    have py:(bq β ys).toArray[f.offset]? =some (val β y):=by simp[bq,hy]
    have go:∀{b1 c:Bool},eq1 P f.type x y=some b1->B5 P xs ys r=some c->(Op.eqFields (d+1) (bq β xs).toArray (bq β ys).toArray (f::r)).run P w=.ok (b1&&c) w:=fun{b1 c} h1 h2=>by
     obtain⟨k1,k2⟩:=Pf h1 β d w;have k3:=B6 β d w h2;simp only[Op.eqFields,hn,ne_eq,not_false_eq_true,if_true,Sem.run_bind,run_part_plain w k1 px,run_part_plain w k1 py,k2,Result.andThen_ok];cases b1
     ·simp
     ·simpa using k3
    split at h
    ·rename_i b1 c h1 h2;injection h with h;subst h;have:=go h1 h2;simp only[B5,ai]at h2;subst h2;rwa[dk]at this
    ·rename_i b1 c h1 _ h2;injection h with h;subst h;exact go h1 h2
    ·cases h
   ·cases h
theorem Ph {op:BinOp} {t:TypeId} {fs:Array Field} {a b v:SV} {r:Bool} (hu:P.underlying t=some (.struct fs)) (h:Tz P t fs a b=some r) (hv:TA op r=some v):kq P op t a b v:=by
 unfold Tz at h;split at h
 ·rename_i l m;obtain⟨h0,h⟩:(yz l&&yz m&&!P.stoodInHeld t&&!P.eqGuardType P.depth t)=true/\B5 P (jg l) (jg m) fs.toList=some r:=by
   cases hc:(yz l&&yz m&&!P.stoodInHeld t&&!P.eqGuardType P.depth t)with
   | true=>rw[hc]at h;exact⟨rfl,h⟩
   | false=>rw[hc]at h;cases h
  simp only[ab,ch]at h0;obtain⟨⟨⟨h1,h2⟩,h3⟩,h4⟩:=h0;intro β act x y dst ty t' p af g w hx hy;have ea:∀{l:SV},yz l=true->val β (.agg l)=.agg (bq β (jg l)).toArray:=fun hl=>by
   show Value.agg (mV β _).toArray=_;rw[kn β hl]
  rw[ea h1]at hx;rw[ea h2]at hy;have hfs:P.fieldsOf t=fs:=by simp[Program.fieldsOf,hu]
  have hE:(Op.equalIn 10000 t (.agg (bq β (jg l)).toArray) (.agg (bq β (jg m)).toArray)).run P w=.ok r w:=by
   rw[show(10000:Nat)=9999+1 from rfl,run_equalIn_struct w 9999 t _ _ (by rw[hfs];exact hu) h3,hfs];exact B6 β 9998 w h
  have hG:∀op:BinOp,(eqGuard op t x y (.agg (bq β (jg l)).toArray) (.agg (bq β (jg m)).toArray)).run P w=.ok () w:=fun op=>by
   unfold eqGuard;cases op<;>simp[run_program,h4]
  unfold TA at hv;split at hv
  ·injection hv with hv;subst hv;have hB:binOp .eql t (.agg (bq β (jg l)).toArray) (.agg (bq β (jg m)).toArray)=(do pure (.bool (<-Op.equal t (.agg (bq β (jg l)).toArray) (.agg (bq β (jg m)).toArray)))):=rfl;simp only[execOp,hx,hy,hB,Op.equal,Op.maxDepth,Sem.run_bind,Sem.run_pure,Result.andThen_ok,hE,hG];rfl
  ·injection hv with hv;subst hv;have hB:binOp .neq t (.agg (bq β (jg l)).toArray) (.agg (bq β (jg m)).toArray)=(do pure (.bool (!(<-Op.equal t (.agg (bq β (jg l)).toArray) (.agg (bq β (jg m)).toArray))))):=rfl;simp only[execOp,hx,hy,hB,Op.equal,Op.maxDepth,Sem.run_bind,Sem.run_pure,Result.andThen_ok,hE,hG];rfl
  ·cases hv
 ·cases h
theorem Pj {op:BinOp} {t:TypeId} {a b:SV} (h:TB P gs op t a b K):∃v,K v/\(gh gs->kq P op t a b v):=by
 unfold TB at h;split at h
 ·rename_i k m k' n ha hb;have gen:∀{K:SV->Prop},(bif decide (k=k')then ba (ib op k m n) K else False)->∃v,K v/\(gh gs->kq P op t a b v):=fun h=>by
   obtain⟨fQ,h1⟩:=cw h;clear h;have hk:=aj fQ;clear fQ;subst hk;obtain⟨v,hv,hK⟩:=aA h1;exact⟨v,hK,fun _=>XJ ha hb hv⟩
  split at h
  ·obtain⟨h,hn⟩:=KA h;exact⟨_,h,fun g β act x y dst ty t' p af gg w hx hy=>Xw (by rw[hx,cj ha]) (by rw[hy,cj hb]) (hn g)⟩
  ·obtain⟨h,hn⟩:=KA h;exact⟨_,h,fun g β act x y dst ty t' p af gg w hx hy=>Xx (by rw[hx,cj ha]) (by rw[hy,cj hb]) (hn g)⟩
  ·obtain⟨fQ,h1⟩:=cw h;clear h;have hk:=aj fQ;clear fQ;subst hk;obtain⟨h2,hn⟩:=Rk hb h1;exact⟨_,h2,fun g β act x y dst ty t' p af gg w hx hy=>Xu (by rw[hx,cj ha]) (by rw[hy,cj hb]) (hn g)⟩
  ·obtain⟨fQ,h1⟩:=cw h;clear h;have hk:=aj fQ;clear fQ;subst hk;obtain⟨h2,hn⟩:=Rk hb h1;exact⟨_,h2,fun g β act x y dst ty t' p af gg w hx hy=>Xv (by rw[hx,cj ha]) (by rw[hy,cj hb]) (hn g)⟩
  ·exact gen h
 ·split at h
  ·rename_i s u ha hb;split at h
   ·exact⟨_,h.2,fun g β act x y dst ty t' p af gg w hx hy=>Kl (by rw[hx,fA ha]) (by rw[hy,fA hb]) (fi h.1 g)⟩
   ·obtain⟨v,hv,hK⟩:=aA h;exact⟨v,hK,fun _=>XK ha hb hv⟩
  ·split at h
   ·rename_i s u ha hb hu;split at h
    ·exact⟨_,h,fun g β act x y dst ty t' p af gg w hx hy=>Iy hu (by rw[hx,jY ha]) (by rw[hy,jY hb])⟩
    ·exact⟨_,h,fun g β act x y dst ty t' p af gg w hx hy=>Iz hu (by rw[hx,jY ha]) (by rw[hy,jY hb])⟩
    ·exact h.elim
   ·split at h
    ·rename_i e hu;cases hb:Kz b with
     | true=>
      rw[hb]at h;obtain⟨v,hv,hK⟩:=aA h;exact⟨v,hK,fun _=>(Rl hu hb hv).1⟩
     | false=>
      rw[hb]at h;obtain⟨ha,h⟩:=cw h;obtain⟨v,hv,hK⟩:=aA h;exact⟨v,hK,fun _=>(Rl hu ha hv).2⟩
    ·rename_i e hu;cases hb:B4 b with
     | true=>
      rw[hb]at h;obtain⟨v,hv,hK⟩:=aA h;exact⟨v,hK,fun _=>(Rn hu hb hv).1⟩
     | false=>
      rw[hb]at h;obtain⟨ha,h⟩:=cw h;obtain⟨v,hv,hK⟩:=aA h;exact⟨v,hK,fun _=>(Rn hu ha hv).2⟩
    ·rename_i fs hu;obtain⟨r,hr,h⟩:=aA h;obtain⟨v,hv,hK⟩:=aA h;exact⟨v,hK,fun _=>Ph hu hr hv⟩
    ·rename_i kk ee hu;obtain⟨v,hv,hK⟩:=aA h;exact⟨v,hK,fun _=>XM hu hv⟩
    ·exact h.elim
end
def Pm:SV->Bool
 | .agg _=>false
 | .tup _=>false
 | .un=>false
 | .e=>false
 | .c _ _=>false
 | _=>true
def Gl:List SV->Bool
 | []=>true
 | s::r=>Pm s&&Gl r
theorem B7 {s:SV} (h:Pm s=true) (β:Nat->Nat):(val β s).oneCell'=true/\(val β s).cells=#[val β s]:=by
 cases s with
 | raw v=>
  have e:val β (.raw v)=v.v:=rfl;rw[e];refine⟨v.one,?_⟩;obtain⟨v,hv⟩:=v;cases v<;>first | rfl | (simp[Value.oneCell']at hv)
 | _=>first | exact⟨rfl,rfl⟩ | (simp[Pm]at h)
theorem yY:∀{l:List SV},Gl l=true->∀β,(bq β l).all Value.oneCell'=true
 | [],_,_=>rfl
 | s::r,h,β=>by
  simp only[Gl,ab]at h;simp only[bq,aI,gY,ab];exact⟨(B7 h.1 β).1,yY h.2 β⟩
def wF:SV->Option (List SV)
 | .agg l=>bif yz l&&Gl (jg l)then some (jg l)else none
 | s=>bif Pm s then some [s]else none
theorem Ae {α:Type} {b:Bool} {x:α} {y:α} (h:(bif b then some x else none)=some y):b=true/\x=y:=by
 cases b with
 | true=>exact⟨rfl,by simpa using h⟩
 | false=>cases h
theorem tW {s:SV} {l:List SV} (h:wF s=some l) (β:Nat->Nat):(val β s).cells=(bq β l).toArray/\(bq β l).all Value.oneCell'=true:=by
 unfold wF at h;split at h
 ·obtain⟨h1,rfl⟩:=Ae h;simp only[ab]at h1;refine⟨?_,yY h1.2 β⟩;show(mV β _).toArray=_;rw[kn β h1.1]
 ·obtain⟨h1,rfl⟩:=Ae h;obtain⟨h2,h3⟩:=B7 h1 β;exact⟨h3,by simp[bq,h2]⟩
def EH:List Value->Option (List SV)
 | []=>some []
 | v::r=>match Kw v,EH r with
  | some s,some l=>some (s::l)
  | _,_=>none
theorem vP (β:Nat->Nat):∀{l:List Value} {s:List SV},EH l=some s->bq β s=l
 | [],s,h=>by simp only[EH,ai]at h;subst h;rfl
 | v::r,s,h=>by
  simp only[EH]at h;split at h
  ·rename_i s' l' h1 h2;simp only[ai]at h;subst h;have:=vP β h2;simp only[bq,aI]at this⊢;rw[wC h1,this]
  ·cases h
def XN (cs:List SV) (o:Nat) (vs:List SV):List SV:=cs.take o++vs++cs.drop (o+vs.length)
theorem B8 (β:Nat->Nat) (cs:List SV) (o:Nat) (vs:List SV):bq β (XN cs o vs)=bF (bq β cs) o (bq β vs):=by
 simp only[bq,XN,bF,cq,kQ,nZ,aQ]
theorem B9 {off:Nat}:∀(vs:List Value) (k:Nat) (cs:List Value),off+k+vs.length<=cs.length->
  (vs.zipIdx k).foldl (fun(cs:Array Value) (x:Value×Nat)=>cs.setIfInBounds (off+x.2) x.1) cs.toArray=(bF cs (off+k) vs).toArray
 | [],k,cs,_=>by simp[bF]
 | v::vs,k,cs,h=>by
  simp only[ao]at h;have e:cs.toArray.setIfInBounds (off+k) v=(cs.set (off+k) v).toArray:=by simp
  rw[List.zipIdx_cons,List.foldl_cons];dsimp only;rw[e,B9 vs (k+1) _ (by rw[oX];omega)];congr 1;simp only[bF,ao];rw[show off+(k+1)=off+k+1 by omega,aY,List.getElem?_set_self (by omega),List.take_set_of_le (aq _),List.drop_set_of_lt (by omega),show off+k+1+vs.length=off+k+(vs.length+1) by omega];simp
def yZ (place:Nat->Option (Nat×Nat)):List SV->List (Nat×SV)->Option (List SV)
 | cells,[]=>some cells
 | cells,(i,v)::rest=>match place i,wF v with
  | some (off,size),some vs=>bif Nat.beq vs.length size&&Nat.ble (off+vs.length) cells.length then yZ place (XN cells off vs) rest else none
  | _,_=>none
theorem wG (β:Nat->Nat) {place:Nat->Option (Nat×Nat)}:∀{parts:List (Nat×SV)} {cells r:List SV},yZ place cells parts=some r->Instr.fill place (bq β cells).toArray (uR β parts)=some (bq β r).toArray
 | [],cells,r,h=>by simp only[yZ,ai]at h;subst h;rfl
 | (i,v)::rest,cells,r,h=>by
  simp only[yZ]at h;split at h
  ·rename_i off size vs hp hc;cases hb:(Nat.beq vs.length size&&Nat.ble (off+vs.length) cells.length)with
   | false=>rw[hb]at h;cases h
   | true=>
    rw[hb]at h;simp only[ab]at hb;have h1:=aX hb.1;have h2:=ca hb.2;obtain⟨e1,_⟩:=tW hc β;have ih:=wG β (parts:=rest) (cells:=XN cells off vs) h;rw[B8]at ih;simp only[uR,aI,Instr.fill,hp,e1,jr,dA];rw[if_neg (by simp[h1];omega)];have e2:=B9 (off:=off) (bq β vs) 0 (bq β cells) (by rw[dA,dA];omega);rw[db]at e2;have e3:(bq β vs).toArray.zipIdx.foldl (fun(cs:Array Value) (x:Value×Nat)=>cs.setIfInBounds (off+x.2) x.1) (bq β cells).toArray=(bF (bq β cells) off (bq β vs)).toArray:=by
     rw[<-e2];simp
    exact(aU (fun a=>Instr.fill place a (uR β rest)) e3).trans ih
  ·cases h
def TC (P:Program) (t:TypeId) (parts:List (Nat×SV)):Option (List SV):=
 match P.info? t,P.underlying t with
 | some it,some (.array _ e)=>(match it.zero,P.info? e with
  | some z,some ie=>(match EH z.cells.toList with
   | some zs=>yZ (fun i=>some (i*ie.size,ie.size)) zs parts
   | none=>none)
  | _,_=>none)
 | some it,some (.struct fields)=>(match it.zero,fields.toList.mapM (fun f=>(P.info? f.type).map fun i=>(f.offset,i.size))with
  | some z,some places=>(match EH z.cells.toList with
   | some zs=>yZ (places.toArray[·]?) zs parts
   | none=>none)
  | _,_=>none)
 | _,_=>none
theorem Pn {P:Program} {t:TypeId} {parts:List (Nat×SV)} {r:List SV} (h:TC P t parts=some r) (β:Nat->Nat) (w:World):(Instr.build t (uR β parts).toArray).run P w=.ok (.agg (bq β r).toArray) w:=by
 refine run_build w t _ _ ?_;unfold TC at h;split at h
 ·rename_i it n e h1 h2;split at h
  ·rename_i z ie h3 h4;split at h
   ·rename_i zs h5;have:=wG β h;rw[vP β h5]at this;simp only[Program.built,h1,h2,h3,h4];simpa using this
   ·cases h
  ·cases h
 ·rename_i it fields h1 h2;split at h
  ·rename_i z places h3 h4;split at h
   ·rename_i zs h5;have:=wG β h;rw[vP β h5]at this;simp only[Program.built,h1,h2,h3,h4];simpa using this
   ·cases h
  ·cases h
 ·cases h
def sz (P:Program) (t:TypeId) (n:Nat):Bool:=match P.info? t with
 | some i=>Nat.beq i.size n
 | none=>false
theorem mH {P:Program} {t:TypeId} {n:Nat} (h:sz P t n=true) (w:World):(sizeOf t).run P w=.ok n w:=by
 unfold sz at h;cases hi:P.info? t with
 | none=>rw[hi]at h;cases h
 | some i=>
  rw[hi]at h;rw[<-aX h];simp[sizeOf,typeInfo,hi]
def qO (P:Program) (t:TypeId):Nat:=match P.info? t with
 | some i=>i.size
 | none=>0
theorem iW {P:Program} {t:TypeId} {d:TypeDesc} (h:P.underlying t=some d) (w:World):(isAgg t).run P w=.ok (kA d) w:=by
 unfold isAgg;rw[Sem.run_bind,run_underlying h,Result.andThen_ok];cases d<;>rfl
def EI (b:SV) (K:Nat->(Prop->Prop)->Prop):Prop:=match b with
 | .il _ n=>bif decide (0<=n)then K n.toNat id else False
 | .int _ n=>∃v:Nat,K v fun p=>n=v/\p
 | _=>False
theorem jZ {b:SV} {K:Nat->(Prop->Prop)->Prop} (h:EI b K):∃(v:Nat) (e:Prop->Prop) (k:IntKind) (n:Int),K v e/\nr b=some (k,n)/\(∀p,e p->n=v/\p):=by
 unfold EI at h;split at h
 ·rename_i k n;obtain⟨h1,h2⟩:=cw h;have h1:=aj h1;exact⟨_,_,k,n,h2,rfl,fun p hp=>⟨by omega,hp⟩⟩
 ·rename_i k n;obtain⟨v,hv⟩:=h;exact⟨v,_,k,n,hv,rfl,fun p hp=>hp⟩
 ·exact h.elim
def slS (gs:List (Bool×Bool)) (s:Sl) (es:Nat) (st:St) (lo hi mx:Option Operand) (K:SV->Prop):Prop:=match lo,hi,mx with
 | some lo,none,none=>ba (st.ev lo) fun a=>EI a fun l e=>gi gs (e (l<=s.n/\s.n<=s.c))/\K (.sl (s.cut l s.n s.c es))
 | none,some hi,none=>ba (st.ev hi) fun a=>EI a fun h e=>gi gs (e (h<=s.c))/\K (.sl (s.cut 0 h s.c es))
 | some lo,some hi,none=>ba (st.ev lo) fun a=>ba (st.ev hi) fun b=>EI a fun l e=>EI b fun h f=>gi gs (e (f (l<=h/\h<=s.c)))/\K (.sl (s.cut l h s.c es))
 | none,some hi,some mx=>ba (st.ev hi) fun b=>ba (st.ev mx) fun c=>EI b fun h e=>EI c fun m f=>gi gs (e (f (h<=m/\m<=s.c)))/\K (.sl (s.cut 0 h m es))
 | some lo,some hi,some mx=>ba (st.ev lo) fun a=>ba (st.ev hi) fun b=>ba (st.ev mx) fun c=>EI a fun l e=>EI b fun h f=>EI c fun m g=>gi gs (e (f (g (l<=h/\h<=m/\m<=s.c))))/\K (.sl (s.cut l h m es))
 | _,_,_=>False
def slT (gs:List (Bool×Bool)) (s:ByteArray) (st:St) (lo hi mx:Option Operand) (K:SV->Prop):Prop:=match lo,hi,mx with
 | some lo,none,none=>ba (st.ev lo) fun a=>EI a fun l e=>gi gs (e (l<=s.size))/\K (.str (s.extract l s.size))
 | none,some hi,none=>ba (st.ev hi) fun a=>EI a fun h e=>gi gs (e (h<=s.size))/\K (.str (s.extract 0 h))
 | some lo,some hi,none=>ba (st.ev lo) fun a=>ba (st.ev hi) fun b=>EI a fun l e=>EI b fun h f=>gi gs (e (f (l<=h/\h<=s.size)))/\K (.str (s.extract l h))
 | _,_,_=>False
def yC (P:Program) (b:Builtin) (xs:List Operand) (ts:List TypeId) (st:St) (K:SV->Prop):Prop:=match b,xs,ts with
 | .len,[x],[t]=>ba (st.ev x) fun a=>(match P.underlying t with
  | some (.slice _)=>ba (Gk a) fun s=>K (.int .i64 s.n)
  | some .string=>ba (rA a) fun s=>K (.int .i64 s.size)
  | _=>False)
 | .cap,[x],[t]=>ba (st.ev x) fun a=>(match P.underlying t with
  | some (.slice _)=>ba (Gk a) fun s=>K (.int .i64 s.c)
  | _=>False)
 | .min,[x,y],_=>ba (st.ev x) fun a=>ba (st.ev y) fun b=>ba (nr a) fun p=>ba (nr b) fun q=>K (.int p.1 (if q.2<p.2 then q.2 else p.2))
 | .max,[x,y],_=>ba (st.ev x) fun a=>ba (st.ev y) fun b=>ba (nr a) fun p=>ba (nr b) fun q=>K (.int p.1 (if q.2>p.2 then q.2 else p.2))
 | _,_,_=>False
def nif:TypeDesc->Bool
 | .interface _=>false
 | _=>true
def cvP (P:Program) (gs:List (Bool×Bool)) (st:St) (s d:TypeId) (a:SV) (K:SV->Prop):Prop:=match P.underlying s,P.underlying d with
 | some (.int _),some (.int kd)=>ba (nr a) fun p=>K (.int kd (kd.wrap p.2))
 | some .string,some .string=>ba (rA a) fun u=>K (.str u)
 | some (.slice e),some .string=>(match P.underlying e with
  | some (.int .u8)=>ba (Gk a) fun u=>bif st.mv then False else ∃l:List UInt8,gi gs (se st.w0 u l)/\K (.str ⟨l.toArray⟩)
  | _=>False)
 | _,_=>False
def ldP (P:Program) (gs:List (Bool×Bool)) (st:St) (t:TypeId) (a:SV) (K:SV->Prop):Prop:=match P.underlying t with
 | none=>False
 | some d=>(match a with
  | .box i o=>ba (bL st.bx i) fun b=>bif b.ok&&sz P t ((b.cells.drop o).take (qO P t)).length&&(kA d||Nat.beq ((b.cells.drop o).take (qO P t)).length 1)then K (Ky (kA d) ((b.cells.drop o).take (qO P t)))else False
  | .ad p=>bif !st.mv&&sz P t (Ol P 12 t).length&&(kA d||Nat.beq (Ol P 12 t).length 1)then WE (Ol P 12 t) fun vs=>gi gs (aB st.w0 p (bq β0 vs))/\K (Ky (kA d) vs)else False
  | _=>False)
def Gm:Operand->Bool
 | .const .nilIface=>true
 | _=>false
def XO:Value->Bool
 | .nilIface=>true
 | _=>false
def XP (v:Value):Prop:=v=.nilIface∨∃t x,v=.iface t x
def niP (P:Program) (gs:List (Bool×Bool)) (op:BinOp) (t:TypeId) (a:SV) (K:SV->Prop):Prop:=match a,P.underlying t,op with
 | .raw v,some (.interface _),.eql=>gi gs (XP v.v)/\K (.bt (XO v.v))
 | .raw v,some (.interface _),.neq=>gi gs (XP v.v)/\K (.bt (!XO v.v))
 | _,_,_=>False
theorem KB {y:Operand} (h:Gm y=true):y=.const .nilIface:=by
 unfold Gm at h;split at h
 ·rfl
 ·cases h
theorem Ro {P:Program} {t:TypeId} {ms:Array (String×TypeId)} {v:Value} (hu:P.underlying t=some (.interface ms)) (hv:XP v) (w:World):(Op.equal t v .nilIface).run P w=.ok (XO v) w:=by
 unfold Op.equal Op.maxDepth Op.equalIn;rcases hv with rfl | ⟨tx,x,rfl⟩<;>simp only[Sem.run_bind,run_underlying hu,Result.andThen_ok]<;>rfl
theorem Ca {P:Program} {op:BinOp} {t:TypeId} {x:Operand} {v:Value} (hv:XP v) (w:World):(eqGuard op t x (.const .nilIface) v .nilIface).run P w=.ok () w:=by
 unfold eqGuard;rcases hv with rfl | ⟨tx,x,rfl⟩<;>cases op<;>first | rfl | simp
theorem TD {P:Program} {gs:List (Bool×Bool)} {st:St} {K:SV->Prop} {op:BinOp} {t ty:TypeId} {x:Operand} {a:SV} (hx:st.ev x=some a) (h:niP P gs op t a K):∃v,K v/\(gh gs->∀(β:Nat->Nat) (c:Act) (w:World),Rep β st c w->∀(d:Option Tmp) (t':TypeId) (p:String) (af:Array Edge) (g:Option (Nat×Bool)) (w':World),
  (execOp c.eval ⟨d,.binOp op t x (.const .nilIface) ty,t',p,af,g⟩).run P w'=.ok (.value (val β v)) w'):=by
 unfold niP at h;split at h
 ·rename_i v ms hu;refine⟨_,h.2,fun hg β c w hR d t' p af g w'=>?_⟩;have hv:=fi h.1 hg;have e:c.eval x=v.v:=hR.ev hx;have e2:c.eval (.const .nilIface)=.nilIface:=rfl;have hb:binOp .eql t v.v .nilIface=(do pure (.bool (<-Op.equal t v.v .nilIface))):=by
   rcases hv with h | ⟨tx,x,h⟩<;>rw[h]<;>rfl
  simp only[execOp,e,e2,hb,Sem.run_bind,Ca hv,Result.andThen_ok,Ro hu hv,Sem.run_pure];rfl
 ·rename_i v ms hu;refine⟨_,h.2,fun hg β c w hR d t' p af g w'=>?_⟩;have hv:=fi h.1 hg;have e:c.eval x=v.v:=hR.ev hx;have e2:c.eval (.const .nilIface)=.nilIface:=rfl;have hb:binOp .neq t v.v .nilIface=(do pure (.bool (!(<-Op.equal t v.v .nilIface)))):=by
   rcases hv with h | ⟨tx,x,h⟩<;>rw[h]<;>rfl
  simp only[execOp,e,e2,hb,Sem.run_bind,Ca hv,Result.andThen_ok,Ro hu hv,Sem.run_pure];rfl
 ·exact h.elim
def Gn (p:Addr) (i:Int) (len size:Nat) (q:Addr):Prop:=0<=i/\i<len/\p.add (i.toNat*size)=q
def TE (n:Int) (F:Nat->Prop):Nat->Prop
 | 0=>True
 | 1=>n=0->F 0
 | j+2=>TE n F (j+1)/\(n=((j+1:Nat):Int)->F (j+1))
theorem Gp {n:Int} {F:Nat->Prop}:∀{m:Nat},TE n F m->0<=n->n<m->F n.toNat
 | 0,_,h0,h1=>by omega
 | 1,h,h0,h1=>by
  have e:n=0:=by omega
  subst e;exact h rfl
 | j+2,h,h0,h1=>by
  by_cases e:n=((j+1:Nat):Int)
  ·have:=h.2 e;rw[e];exact this
  ·exact Gp h.1 h0 (by omega)
def TF (P:Program) (gs:List (Bool×Bool)) (st:St) (o:Op) (K:SV->Prop):Prop:=match o with
 | .move x=>ba (st.ev x) K
 | .assign x=>ba (st.ev x) K
 | .pick c x y=>ba (st.ev c) fun c=>(match c with
  | .bl true=>ba (st.ev x) K
  | .bl false=>ba (st.ev y) K
  | _=>False)
 | .binOp op t x y _=>ba (st.ev x) fun a=>ba (st.ev y) fun b=>bif Gm y then niP P gs op t a K else TB P gs op t a b K
 | .unOp .not _ x=>ba (st.ev x) fun a=>(match a with
  | .bl b=>K (.bl (!b))
  | .bt b=>K (.bt (!b))
  | _=>False)
 | .unOp .neg _ x=>ba (st.ev x) fun a=>ba (nr a) fun p=>K (.int p.1 (p.1.wrap (0-p.2)))
 | .convert s d x=>ba (st.ev x) fun a=>cvP P gs st s d a K
 | .extract x i=>ba (st.ev x) fun a=>(match a with
  | .tup l=>bif yz l then ba ((jg l)[i]?) K else False
  | _=>False)
 | .build t parts=>ba (st.Jt parts.toList) fun ps=>ba (TC P t ps) fun r=>K (.agg (ld r))
 | .makeFunc fn fs cs=>(match fn with
  | .func f=>ba (st.DU fs.toList) fun a=>ba (st.DU cs.toList) fun b=>K (.fn f (ld a) (ld b))
  | _=>False)
 | .makeInterface t x=>ba (st.ev x) fun a=>ba (P.underlying t) fun d=>bif nif d&&cln (fun _=>false) a then K (.raw ⟨.iface t (val β0 a),rfl⟩)else False
 | .nilCheck x=>ba (st.ev x) fun a=>(match a with
  | .ad p=>K (.ad p)
  | .box i o=>K (.box i o)
  | .ptr p=>∃q:Addr,gi gs (p=some q)/\K (.ad q)
  | .fn f .e cs=>K (.fn f .e cs)
  | _=>False)
 | .fieldAddr s x k=>ba (st.ev x) fun a=>(match P.underlying s with
  | some (.struct fs)=>ba (fs[k]?) fun f=>bif Nat.ble 1 (qO P f.type)then(match a with
   | .ad p=>K (.ad (p.add f.offset))
   | .box i o=>K (.box i (o+f.offset))
   | _=>False)else False
  | _=>False)
 | .field t x k=>ba (st.ev x) fun a=>(match a,P.underlying t with
  | .agg l,some (.struct fs)=>ba (fs[k]?) fun f=>ba (P.underlying f.type) fun d=>bif yz l&&sz P f.type (((jg l).drop f.offset).take (qO P f.type)).length&&(kA d||Nat.beq (((jg l).drop f.offset).take (qO P f.type)).length 1)
   then K (Ky (kA d) (((jg l).drop f.offset).take (qO P f.type)))else False
  | _,_=>False)
 | .indexAddr t x i=>ba (st.ev x) fun a=>ba (st.ev i) fun j=>ba (nr j) fun n=>(match P.underlying t with
  | some (.slice e)=>ba (Gk a) fun s=>bif (P.info? e).isSome then ∃q:Addr,gi gs (cD s n.2 (qO P e) q)/\K (.ad q)else False
  | some (.array len e)=>bif (P.info? e).isSome then(match a,j with
   | .box b o,.il _ n=>bif decide (0<=n)&&decide (n<len)then K (.box b (o+n.toNat*qO P e))else False
   | .ad p,.il _ n=>bif decide (0<=n)&&decide (n<len)then K (.ad (p.add (n.toNat*qO P e)))else False
   | .ad p,_=>∃q:Addr,gi gs (Gn p n.2 len (qO P e) q)/\K (.ad q)
   | .box b o,_=>bif Nat.ble len 8 then(0<=n.2/\n.2<(len:Int))/\TE n.2 (fun j=>K (.box b (o+j*qO P e))) len else False
   | _,_=>False)else False
  | _=>False)
 | .load t x=>ba (st.ev x) fun a=>ldP P gs st t a K
 | .index t x i=>ba (st.ev x) fun a=>ba (st.ev i) fun j=>ba (nr j) fun n=>(match P.underlying t with
  | some .string=>ba (rA a) fun s=>∃c:UInt8,gi gs (0<=n.2/\s[n.2.toNat]? =some c)/\K (.int .u8 (c.toNat:Int))
  | _=>False)
 | .slice t x lo hi mx=>ba (st.ev x) fun a=>(match P.underlying t with
  | some (.slice e)=>ba (Gk a) fun s=>bif (P.info? e).isSome then slS gs s (qO P e) st lo hi mx K else False
  | some .string=>ba (rA a) fun s=>slT gs s st lo hi mx K
  | _=>False)
 | .call c=>(match c.callee with
  | .builtin b=>yC P b c.args.toList c.argTypes.toList st K
  | _=>False)
 | _=>False
def mem:Op->Bool
 | .load _ _=>true
 | .convert _ _ _=>true
 | _=>false
def Y (P:Program) (st:St) (o:Op) (v:SV):Prop:=∀(β:Nat->Nat) (a:Act) (w:World),Rep β st a w->∀(d:Option Tmp) (t:TypeId) (p:String) (af:Array Edge) (g:Option (Nat×Bool)) (w':World),(mem o=true->w'.heap=w.heap)->
 (execOp a.eval ⟨d,o,t,p,af,g⟩).run P w'=.ok (.value (val β v)) w'
theorem iX {P:Program} {t:TypeId} (h:(P.info? t).isSome=true) (w:World):(sizeOf t).run P w=.ok (qO P t) w:=by
 unfold qO;cases hi:P.info? t with
 | none=>rw[hi]at h;cases h
 | some i=>simp[sizeOf,typeInfo,hi]
theorem Af (b o n:Nat):(⟨b,o,none⟩:Addr).add n=⟨b,o+n,none⟩:=by unfold Addr.add;split<;>simp_all
theorem ml {d:TypeDesc} (h:kA d=true) (β:Nat->Nat) (l:List SV):val β (Ky (kA d) l)=.agg (bq β l).toArray:=by
 rw[h];show Value.agg (mV β (ld l)).toArray=_;rw[ob]
theorem wH {l:List SV} (h:Nat.beq l.length 1=true):∃s,l=[s]:=by
 have:=aX h
 match l,this with
 | [s],_=>exact⟨s,rfl⟩
section
variable {P:Program} {gs:List (Bool×Bool)} {st:St} {K:SV->Prop}
theorem TG {t:TypeId} {x:Operand} {a:SV} (hx:st.ev x=some a) (h:ldP P gs st t a K):∃v,K v/\(gh gs->Y P st (.load t x) v):=by
 unfold ldP at h;split at h
 ·exact h.elim
 ·rename_i d hu;split at h
  ·rename_i i o;obtain⟨b,hb,h⟩:=aA h;obtain⟨h1,h2⟩:=cw h;simp only[ab,cp]at h1;obtain⟨⟨oB,hsz⟩,jO⟩:=h1;refine⟨_,h2,fun _ β act w hR dst t' p af g w' hh=>?_⟩;have hB:=(hR.bx i b hb oB).blk;have hB':Blk w' (β i) b.ty (bq β b.cells):=by unfold Blk at hB⊢;rw[hh rfl];exact hB
   have Ii:=hR.ev hx;generalize hl:(b.cells.drop o).take (qO P t)=l at*
   have hC:aB w' ⟨β i,o,none⟩ (bq β l):=hB'.Bh o _ (by
    rw[dA,<-hl];simp only[bq,kQ,nZ];rw[ck,nf];simp only[bK,aQ];omega)
   rcases jO with oK | jO
   ·rw[ml oK];have:=iW (P:=P) hu w';rw[oK]at this;exact qo this (mH hsz w') (dA β l) Ii hC
   ·cases oK:kA d with
    | true=>
     have e:=ml oK β l;rw[oK]at e;rw[e];have:=iW (P:=P) hu w';rw[oK]at this;exact qo this (mH hsz w') (dA β l) Ii hC
    | false=>
     obtain⟨s,rfl⟩:=wH jO;have:=iW (P:=P) hu w';rw[oK]at this;exact zP this Ii (aB.one hC)
  ·rename_i ad;obtain⟨h1,h2⟩:=cw h;simp only[ab,cp,ch]at h1;obtain⟨⟨lA,hsz⟩,jO⟩:=h1;obtain⟨vs,⟨hF,hK⟩,dN,nY⟩:=wD h2;refine⟨_,hK,fun hg β act w hR dst t' p af g w' hh=>?_⟩;have hF:=fi hF hg;have hw:=hR.still lA;subst hw;have hC:aB w' ad (bq β vs):=by
    rw[fh (β:=β) (β':=β0) (g:=fun _=>false) (fun i h=>(by cases h)) vs (nY _)];exact hF.keep (by rw[hh rfl])
   have Ii:=hR.ev hx;rw[<-dN]at hsz jO;rcases jO with oK | jO
   ·rw[ml oK];have:=iW (P:=P) hu w';rw[oK]at this;exact qo this (mH hsz w') (dA β vs) Ii hC
   ·cases oK:kA d with
    | true=>
     have e:=ml oK β vs;rw[oK]at e;rw[e];have:=iW (P:=P) hu w';rw[oK]at this;exact qo this (mH hsz w') (dA β vs) Ii hC
    | false=>
     obtain⟨s,rfl⟩:=wH jO;have:=iW (P:=P) hu w';rw[oK]at this;exact zP this Ii (aB.one hC)
  ·exact h.elim
theorem TH {s d:TypeId} {x:Operand} {a:SV} (hx:st.ev x=some a) (h:cvP P gs st s d a K):∃v,K v/\(gh gs->Y P st (.convert s d x) v):=by
 unfold cvP at h;split at h
 ·rename_i ks kd h1 h2;obtain⟨⟨k,n⟩,hp,h⟩:=aA h;exact⟨_,h,fun _ β act w hR dst t' p af g w' hh=>yS (run_underlying h1 w') (run_underlying h2 w') ((hR.ev hx).trans (cj hp β))⟩
 ·rename_i h1 h2;obtain⟨u,hp,h⟩:=aA h;exact⟨_,h,fun _ β act w hR dst t' p af g w' hh=>yT (run_underlying h1 w') (run_underlying h2 w') ((hR.ev hx).trans (fA hp β))⟩
 ·rename_i e h1 h2;split at h
  ·rename_i h3;obtain⟨u,hp,h⟩:=aA h;cases hm:st.mv with
   | true=>rw[hm]at h;exact h.elim
   | false=>
    rw[hm]at h;obtain⟨l,hF,hK⟩:=h;refine⟨_,hK,fun hg β act w hR dst t' p af g w' hh=>?_⟩;have hw:=hR.still hm;subst hw;exact wx h1 h3 h2 ((hR.ev hx).trans (iq hp β)) (EF _ _ (by rw[hh rfl]) (fi hF hg))
  ·exact h.elim
 ·exact h.elim
theorem TI {b:Builtin} {xs:List Operand} {ts:List TypeId} (h:yC P b xs ts st K):∃v,K v/\(gh gs->Y P st (.call ⟨.builtin b,xs.toArray,ts.toArray⟩) v):=by
 unfold yC at h;split at h
 ·obtain⟨a,hx,h⟩:=aA h;split at h
  ·rename_i hu;obtain⟨s,hs,h⟩:=aA h;exact⟨_,h,fun _ β act w hR dst t' p af g w' hh=>Xt (run_underlying hu w') ((hR.ev hx).trans (iq hs β))⟩
  ·rename_i hu;obtain⟨s,hs,h⟩:=aA h;exact⟨_,h,fun _ β act w hR dst t' p af g w' hh=>Km (run_underlying hu w') ((hR.ev hx).trans (fA hs β))⟩
  ·exact h.elim
 ·obtain⟨a,hx,h⟩:=aA h;split at h
  ·rename_i hu;obtain⟨s,hs,h⟩:=aA h;exact⟨_,h,fun _ β act w hR dst t' p af g w' hh=>Xy (run_underlying hu w') ((hR.ev hx).trans (iq hs β))⟩
  ·exact h.elim
 ·obtain⟨a,hx,h⟩:=aA h;obtain⟨b,hy,h⟩:=aA h;obtain⟨⟨k,m⟩,hp,h⟩:=aA h;obtain⟨⟨k',n⟩,hq,h⟩:=aA h;exact⟨_,h,fun _ β act w hR dst t' p af g w' hh=>Xz ((hR.ev hx).trans (cj hp β)) ((hR.ev hy).trans (cj hq β))⟩
 ·obtain⟨a,hx,h⟩:=aA h;obtain⟨b,hy,h⟩:=aA h;obtain⟨⟨k,m⟩,hp,h⟩:=aA h;obtain⟨⟨k',n⟩,hq,h⟩:=aA h;exact⟨_,h,fun _ β act w hR dst t' p af g w' hh=>XA ((hR.ev hx).trans (cj hp β)) ((hR.ev hy).trans (cj hq β))⟩
 ·exact h.elim
theorem TJ {t e:TypeId} {x:Operand} {lo hi mx:Option Operand} {a:SV} {s:Sl} (hu:P.underlying t=some (.slice e)) (u7:(P.info? e).isSome=true) (hx:st.ev x=some a) (hs:Gk a=some s) (h:slS gs s (qO P e) st lo hi mx K):∃v,K v/\(gh gs->Y P st (.slice t x lo hi mx) v):=by
 unfold slS at h;split at h
 ·obtain⟨a1,h1,h⟩:=aA h;obtain⟨l,e1,k1,n1,⟨hF,hK⟩,o1,u1⟩:=jZ h;refine⟨_,hK,fun hg β act w hR dst t' p af g w' hh=>?_⟩;obtain⟨rfl,f1,f2⟩:=u1 _ (fi hF hg);exact Ev (run_underlying hu w') (iX u7 w') ((hR.ev hx).trans (iq hs β)) ((hR.ev h1).trans (cj o1 β)) f1 f2 (aq _)
 ·obtain⟨a1,h1,h⟩:=aA h;obtain⟨l,e1,k1,n1,⟨hF,hK⟩,o1,u1⟩:=jZ h;refine⟨_,hK,fun hg β act w hR dst t' p af g w' hh=>?_⟩;obtain⟨rfl,f1⟩:=u1 _ (fi hF hg);exact Ew (run_underlying hu w') (iX u7 w') ((hR.ev hx).trans (iq hs β)) ((hR.ev h1).trans (cj o1 β)) (aF _) f1 (aq _)
 ·obtain⟨a1,h1,h⟩:=aA h;obtain⟨a2,h2,h⟩:=aA h;obtain⟨l,e1,k1,n1,h,o1,u1⟩:=jZ h;obtain⟨m,e2,k2,n2,⟨hF,hK⟩,o2,u2⟩:=jZ h;refine⟨_,hK,fun hg β act w hR dst t' p af g w' hh=>?_⟩;obtain⟨rfl,f1⟩:=u1 _ (fi hF hg);obtain⟨rfl,f1,f2⟩:=u2 _ f1;exact Ey (run_underlying hu w') (iX u7 w') ((hR.ev hx).trans (iq hs β)) ((hR.ev h1).trans (cj o1 β)) ((hR.ev h2).trans (cj o2 β)) f1 f2 (aq _)
 ·obtain⟨a1,h1,h⟩:=aA h;obtain⟨a2,h2,h⟩:=aA h;obtain⟨l,e1,k1,n1,h,o1,u1⟩:=jZ h;obtain⟨m,e2,k2,n2,⟨hF,hK⟩,o2,u2⟩:=jZ h;refine⟨_,hK,fun hg β act w hR dst t' p af g w' hh=>?_⟩;obtain⟨rfl,f1⟩:=u1 _ (fi hF hg);obtain⟨rfl,f1,f2⟩:=u2 _ f1;exact Ez (run_underlying hu w') (iX u7 w') ((hR.ev hx).trans (iq hs β)) ((hR.ev h1).trans (cj o1 β)) ((hR.ev h2).trans (cj o2 β)) (aF _) f1 f2
 ·obtain⟨a1,h1,h⟩:=aA h;obtain⟨a2,h2,h⟩:=aA h;obtain⟨a3,h3,h⟩:=aA h;obtain⟨l,e1,k1,n1,h,o1,u1⟩:=jZ h;obtain⟨m,e2,k2,n2,h,o2,u2⟩:=jZ h;obtain⟨q,e3,k3,n3,⟨hF,hK⟩,o3,u3⟩:=jZ h;refine⟨_,hK,fun hg β act w hR dst t' p af g w' hh=>?_⟩;obtain⟨rfl,f1⟩:=u1 _ (fi hF hg);obtain⟨rfl,f1⟩:=u2 _ f1;obtain⟨rfl,f1,f2,f3⟩:=u3 _ f1;exact EA (run_underlying hu w') (iX u7 w') ((hR.ev hx).trans (iq hs β)) ((hR.ev h1).trans (cj o1 β)) ((hR.ev h2).trans (cj o2 β)) ((hR.ev h3).trans (cj o3 β)) f1 f2 f3
 ·exact h.elim
theorem TK {t:TypeId} {x:Operand} {lo hi mx:Option Operand} {a:SV} {s:ByteArray} (hu:P.underlying t=some .string) (hx:st.ev x=some a) (hs:rA a=some s) (h:slT gs s st lo hi mx K):∃v,K v/\(gh gs->Y P st (.slice t x lo hi mx) v):=by
 unfold slT at h;split at h
 ·obtain⟨a1,h1,h⟩:=aA h;obtain⟨l,e1,k1,n1,⟨hF,hK⟩,o1,u1⟩:=jZ h;refine⟨_,hK,fun hg β act w hR dst t' p af g w' hh=>?_⟩;obtain⟨rfl,f1⟩:=u1 _ (fi hF hg);exact zR (run_underlying hu w') ((hR.ev hx).trans (fA hs β)) ((hR.ev h1).trans (cj o1 β)) f1 (aq _)
 ·obtain⟨a1,h1,h⟩:=aA h;obtain⟨l,e1,k1,n1,⟨hF,hK⟩,o1,u1⟩:=jZ h;refine⟨_,hK,fun hg β act w hR dst t' p af g w' hh=>?_⟩;obtain⟨rfl,f1⟩:=u1 _ (fi hF hg);exact zT (run_underlying hu w') ((hR.ev hx).trans (fA hs β)) ((hR.ev h1).trans (cj o1 β)) (aF _) f1
 ·obtain⟨a1,h1,h⟩:=aA h;obtain⟨a2,h2,h⟩:=aA h;obtain⟨l,e1,k1,n1,h,o1,u1⟩:=jZ h;obtain⟨m,e2,k2,n2,⟨hF,hK⟩,o2,u2⟩:=jZ h;refine⟨_,hK,fun hg β act w hR dst t' p af g w' hh=>?_⟩;obtain⟨rfl,f1⟩:=u1 _ (fi hF hg);obtain⟨rfl,f1,f2⟩:=u2 _ f1;exact zU (run_underlying hu w') ((hR.ev hx).trans (fA hs β)) ((hR.ev h1).trans (cj o1 β)) ((hR.ev h2).trans (cj o2 β)) f1 f2
 ·exact h.elim
theorem Po {t:TypeId} {d:TypeDesc} {l:List Value} {off n:Nat} (hu:P.underlying t=some d) (hn:sz P t n=true) (oK:kA d=true) (w:World):(part t l.toArray off).run P w=.ok (.agg ((l.drop off).take n).toArray) w:=by
 have h:=iW (P:=P) hu w;rw[oK]at h;unfold part;simp only[Sem.run_bind,h,Result.andThen_ok,if_true,mH hn w,Sem.run_pure];congr 2;rw[List.extract_toArray,List.extract_eq_take_drop,cT]
theorem KC {t:TypeId} {d:TypeDesc} {l:List Value} {off:Nat} {v:Value} (hu:P.underlying t=some d) (oK:kA d=false) (hv:l[off]? =some v) (w:World):(part t l.toArray off).run P w=.ok v w:=by
 have h:=iW (P:=P) hu w;rw[oK]at h;unfold part;simp only[Sem.run_bind,h,Result.andThen_ok];simp[hv]
theorem EJ {o:Op} (h:TF P gs st o K):∃v,K v/\(gh gs->Y P st o v):=by
 unfold TF at h;split at h
 ·obtain⟨v,hx,hK⟩:=aA h;exact⟨v,hK,fun _ β act w hR dst t' p af g w' hh=>by simp only[execOp,hR.ev hx,Sem.run_pure]⟩
 ·obtain⟨v,hx,hK⟩:=aA h;exact⟨v,hK,fun _ β act w hR dst t' p af g w' hh=>by simp only[execOp,hR.ev hx,Sem.run_pure]⟩
 ·obtain⟨c,hc,h⟩:=aA h;split at h
  ·obtain⟨v,hx,hK⟩:=aA h;exact⟨v,hK,fun _ β act w hR dst t' p af g w' hh=>O6 (hR.ev hc) (hR.ev hx)⟩
  ·obtain⟨v,hx,hK⟩:=aA h;exact⟨v,hK,fun _ β act w hR dst t' p af g w' hh=>O7 (hR.ev hc) (hR.ev hx)⟩
  ·exact h.elim
 ·rename_i op t x y ty;obtain⟨a,hx,h⟩:=aA h;obtain⟨b,hy,h⟩:=aA h;cases hn:Gm y with
  | true=>
   rw[hn]at h;have e:=KB hn;subst e;obtain⟨v,hK,hr⟩:=TD hx h;exact⟨v,hK,fun hg β act w hR dst t' p af g w' hh=>hr hg β act w hR _ _ _ _ _ _⟩
  | false=>
  rw[hn]at h;obtain⟨v,hK,hr⟩:=Pj h;exact⟨v,hK,fun hg β act w hR dst t' p af g w' hh=>hr hg β act _ _ _ _ _ _ _ _ _ (hR.ev hx) (hR.ev hy)⟩
 ·obtain⟨a,hx,h⟩:=aA h;split at h
  ·exact⟨_,h,fun _ β act w hR dst t' p af g w' hh=>by simp only[execOp,hR.ev hx];rfl⟩
  ·exact⟨_,h,fun _ β act w hR dst t' p af g w' hh=>by simp only[execOp,hR.ev hx];rfl⟩
  ·exact h.elim
 ·obtain⟨a,hx,h⟩:=aA h;obtain⟨⟨k,n⟩,hp,h⟩:=aA h;exact⟨_,h,fun _ β act w hR dst t' p af g w' hh=>by simp only[execOp,hR.ev hx,cj hp];rfl⟩
 ·obtain⟨a,hx,h⟩:=aA h;exact TH hx h
 ·rename_i x i;obtain⟨a,hx,h⟩:=aA h;split at h
  ·rename_i l;obtain⟨h1,h⟩:=cw h;obtain⟨v,hv,hK⟩:=aA h;refine⟨v,hK,fun _ β act w hR dst t' p af g w' hh=>?_⟩;have e:act.eval _=.tuple (bq β (jg l)).toArray:=(hR.ev hx).trans (by
    show Value.tuple (mV β l).toArray=_;rw[kn β h1])
   have e2:(bq β (jg l))[i]? =some (val β v):=by rw[bq,bD,hv];rfl
   simp only[execOp,e,Instr.extract];simp[e2]
  ·exact h.elim
 ·rename_i t parts;obtain⟨ps,hp,h⟩:=aA h;obtain⟨r,hr,hK⟩:=aA h;refine⟨_,hK,fun _ β act w hR dst t' p af g w' hh=>?_⟩;have e:val β (.agg (ld r))=.agg (bq β r).toArray:=by
   show Value.agg (mV β (ld r)).toArray=_;rw[ob]
  rw[e];obtain⟨pl⟩:=parts;exact O8 (hR.Jt hp) (Pn hr β w')
 ·rename_i fn fs cs;split at h
  ·rename_i f;obtain⟨a,ha,h⟩:=aA h;obtain⟨b,hb,hK⟩:=aA h;refine⟨_,hK,fun _ β act w hR dst t' p af g w' hh=>?_⟩;obtain⟨fl⟩:=fs;obtain⟨cl⟩:=cs;have:=Et (P:=P) (w:=w') (dst:=dst) (t':=t') (p:=p) (af:=af) (g:=g) (fn:=.func f) (hR.DU ha) (hR.DU hb);rw[<-ob,<-ob]at this;exact this
  ·exact h.elim
 ·obtain⟨a,hx,h⟩:=aA h;obtain⟨d,hu,h⟩:=aA h;obtain⟨h1,hK⟩:=cw h;simp only[ab]at h1;refine⟨_,hK,fun _ β act w hR dst t' p af g w' hh=>?_⟩;have e:val β a=val β0 a:=gy (g:=fun _=>false) (fun i h=>(by cases h)) a h1.2;exact O9 (run_underlying hu w') (by unfold nif at h1;cases d<;>first | rfl | exact h1.1) ((hR.ev hx).trans e)
 ·obtain⟨a,hx,h⟩:=aA h;split at h
  ·exact⟨_,h,fun _ β act w hR dst t' p af g w' hh=>Kh (hR.ev hx)⟩
  ·exact⟨_,h,fun _ β act w hR dst t' p af g w' hh=>Kh (hR.ev hx)⟩
  ·obtain⟨q,hF,hK⟩:=h;refine⟨_,hK,fun hg β act w hR dst t' p af g w' hh=>Kh ((hR.ev hx).trans ?_)⟩;have:=fi hF hg;subst this;rfl
  ·exact⟨_,h,fun _ β act w hR dst t' p af g w' hh=>by
    have e:=hR.ev hx;simp only[val,mV,oY]at e;simp only[execOp,e,Sem.run_pure,val,mV,oY]⟩
  ·exact h.elim
 ·obtain⟨a,hx,h⟩:=aA h;split at h
  ·rename_i fs hu;obtain⟨f,hf,h⟩:=aA h;obtain⟨hs,h⟩:=cw h;have hs:=ca hs;have hso:(P.info? f.type).isSome=true:=by
    unfold qO at hs;split at hs
    ·rename_i hi;rw[hi];rfl
    ·omega
   obtain⟨m,hm⟩:∃m,qO P f.type=m+1:=⟨qO P f.type-1,by omega⟩
   split at h
   ·exact⟨_,h,fun _ β act w hR dst t' p af g w' hh=>Gf (run_underlying hu w') hf (by rw[iX hso,hm]) (hR.ev hx) rfl⟩
   ·exact⟨_,h,fun _ β act w hR dst t' p af g w' hh=>Gf (run_underlying hu w') hf (by rw[iX hso,hm]) (hR.ev hx) (Af _ _ _)⟩
   ·exact h.elim
  ·exact h.elim
 ·obtain⟨a,hx,h⟩:=aA h;split at h
  ·rename_i l fs hu;obtain⟨f,hf,h⟩:=aA h;obtain⟨d,hd,h⟩:=aA h;obtain⟨h1,hK⟩:=cw h;simp only[ab,cp]at h1;obtain⟨⟨hl,hsz⟩,jO⟩:=h1;refine⟨_,hK,fun _ β act w hR dst t' p af g w' hh=>?_⟩;have e:act.eval _=.agg (bq β (jg l)).toArray:=(hR.ev hx).trans (by
    show Value.agg (mV β l).toArray=_;rw[kn β hl])
   have hv:bq β (((jg l).drop f.offset).take (qO P f.type))=((bq β (jg l)).drop f.offset).take (qO P f.type):=by
    simp only[bq,kQ,nZ]
   have key:(part f.type (bq β (jg l)).toArray f.offset).run P w'=.ok (val β (Ky (kA d) (((jg l).drop f.offset).take (qO P f.type)))) w':=by
    cases oK:kA d with
    | true=>
     have e2:=ml oK β (((jg l).drop f.offset).take (qO P f.type));rw[oK]at e2;rw[e2,hv];have h3:=Po (l:=bq β (jg l)) (off:=f.offset) hd hsz oK w';rw[h3];congr 3;rw[nf];simp only[ck,bK,dA];omega
    | false=>
     rcases jO with jO | jO
     ·rw[oK]at jO;cases jO
     obtain⟨s,hs⟩:=wH jO;rw[hs];refine KC hd oK ?_ w';have h4:(((jg l).drop f.offset).take (qO P f.type))[0]? =some s:=by rw[hs];rfl
     rw[qY]at h4;split at h4
     ·rw[iT,db]at h4;rw[bq,bD,h4];rfl
     ·cases h4
   simp only[execOp,e,Instr.field,Sem.run_bind,run_underlying hu,Result.andThen_ok,hf,asAgg,Sem.run_pure,key]
  ·exact h.elim
 ·obtain⟨a,hx,h⟩:=aA h;obtain⟨j,hj,h⟩:=aA h;obtain⟨⟨k,n⟩,hn,h⟩:=aA h;split at h
  ·rename_i e hu;obtain⟨s,hs,h⟩:=aA h;obtain⟨hi,h⟩:=cw h;obtain⟨q,hF,hK⟩:=h;exact⟨_,hK,fun hg β act w hR dst t' p af g w' hh=>Ki (run_underlying hu w') (iX hi w') ((hR.ev hx).trans (iq hs β)) ((hR.ev hj).trans (cj hn β)) (fi hF hg)⟩
  ·rename_i len e hu;obtain⟨hi,h⟩:=cw h;split at h
   ·obtain⟨h1,hK⟩:=cw h;simp only[ab,bB]at h1;exact⟨_,hK,fun hg β act w hR dst t' p af g w' hh=>sf (run_underlying hu w') (iX hi w') (hR.ev hx) (hR.ev hj) h1.1 h1.2 (Af _ _ _)⟩
   ·obtain⟨h1,hK⟩:=cw h;simp only[ab,bB]at h1;exact⟨_,hK,fun hg β act w hR dst t' p af g w' hh=>sf (run_underlying hu w') (iX hi w') (hR.ev hx) (hR.ev hj) h1.1 h1.2 rfl⟩
   ·obtain⟨q,hF,hK⟩:=h;exact⟨_,hK,fun hg β act w hR dst t' p af g w' hh=>sf (run_underlying hu w') (iX hi w') (hR.ev hx) ((hR.ev hj).trans (cj hn β)) (fi hF hg).1 (fi hF hg).2.1 (fi hF hg).2.2⟩
   ·obtain⟨_,⟨h0,h1⟩,hK⟩:=cw h;exact⟨_,Gp hK h0 h1,fun hg β act w hR dst t' p af g w' hh=>sf (run_underlying hu w') (iX hi w') (hR.ev hx) ((hR.ev hj).trans (cj hn β)) h0 h1 (Af _ _ _)⟩
   ·exact h.elim
  ·exact h.elim
 ·obtain⟨a,hx,h⟩:=aA h;exact TG hx h
 ·obtain⟨a,hx,h⟩:=aA h;obtain⟨j,hj,h⟩:=aA h;obtain⟨⟨k,n⟩,hn,h⟩:=aA h;split at h
  ·rename_i hu;obtain⟨s,hs,h⟩:=aA h;obtain⟨c,hF,hK⟩:=h;exact⟨_,hK,fun hg β act w hR dst t' p af g w' hh=>Eu (run_underlying hu w') ((hR.ev hx).trans (fA hs β)) ((hR.ev hj).trans (cj hn β)) (fi hF hg).1 (fi hF hg).2⟩
  ·exact h.elim
 ·obtain⟨a,hx,h⟩:=aA h;split at h
  ·rename_i e hu;obtain⟨s,hs,h⟩:=aA h;obtain⟨hi,h⟩:=cw h;exact TJ hu hi hx hs h
  ·rename_i hu;obtain⟨s,hs,h⟩:=aA h;exact TK hu hx hs h
  ·exact h.elim
 ·rename_i c;obtain⟨callee,⟨xs⟩,⟨ts⟩⟩:=c;split at h
  ·rename_i b hb;dsimp only at hb;subst hb;exact TI h
  ·exact h.elim
 ·exact h.elim
end
structure QX (β:Nat->Nat) (n:Nat) (fr:List (Nat×Nat×SV)) (D:List Deferred) (a:Act):Prop where
 sz:a.tmps.size=n
 df:a.defers=D
 at_:∀i p,cM fr i=some p->i<n->a.tmps[i]? =some (val β p.2)
theorem oc {β:Nat->Nat} {n:Nat} {fr:List (Nat×Nat×SV)} {D:List Deferred} {a:Act} (h:QX β n fr D a):∃us,a=Ty n us (cv β fr) D:=by
 refine⟨fun i=>(a.tmps[i]?).getD undef,?_⟩;obtain⟨tmps,df⟩:=a;obtain⟨h1,h2,h3⟩:=h;dsimp only at h1 h2 h3;subst h2;unfold Ty;congr 1;apply Array.ext';apply gJ;intro i;rw[dS];by_cases hi:i<n
 ·rw[kl _ _ _ _ _ hi,aJ];cases hl:cM fr i with
  | none=>
   rw[Ad (l:=cv β fr) (by rw[jt,hl];rfl)];have:i<tmps.size:=by omega
   simp[this]
  | some p=>
   rw[qp (l:=cv β fr) (v:=val β p.2) (by rw[jt,hl];rfl)];have:=h3 i p hl hi;simpa using this
 ·rw[bZ (by simp;omega),bZ (by rw[lc];exact JK hi)]
theorem Pq {β:Nat->Nat} {n:Nat} {fr:List (Nat×Nat×SV)} {D:List Deferred} {us:Nat->Value}:QX β n fr D (Ty n us (cv β fr) D):=by
 refine⟨by simp[Ty,lc],rfl,fun i p hl hi=>?_⟩;simp only[Ty,nc];rw[kl _ _ _ _ _ hi,aJ,qp (l:=cv β fr) (v:=val β p.2) (by rw[jt,hl];rfl)]
theorem Rep.ok {β:Nat->Nat} {st:St} {a:Act} {w:World} (h:Rep β st a w):QX β st.n st.fr (Oj st.df) a:=by
 obtain⟨us,rfl⟩:=h.fr;exact Pq
def TL (st:St) (ops:List Oper) (j:Nat):Option (Nat×SV):=match fm ops j with
 | some o=>(match o.dst with
  | some d=>(st.get d).map fun s=>(d,s)
  | none=>none)
 | none=>none
theorem wI {st:St} {ops:List Oper} {j d:Nat} {s:SV} (h:TL st ops j=some (d,s)):∃oj,fm ops j=some oj/\oj.dst=some d/\st.get d=some s:=by
 unfold TL at h;split at h
 ·rename_i o ho;split at h
  ·rename_i e he;cases hg:st.get e with
   | none=>rw[hg]at h;cases h
   | some u=>
    rw[hg]at h;simp only[bP,ai,cr]at h;obtain⟨rfl,rfl⟩:=h;exact⟨o,ho,he,hg⟩
  ·cases h
 ·cases h
section
variable {β:Nat->Nat} {st:St} {a:Act} {w:World} {ops:List Oper} {o:Oper} {j d:Nat} {want b:Bool}
theorem nu (hR:Rep β st a w) (hg:o.guard=some (j,want)) {s:SV} (ht:TL st ops j=some (d,s)) (hs:val β s=.bool b):Region.wanted o (yielded ops.toArray a.tmps)=(b==want):=by
 obtain⟨oj,h1,h2,h3⟩:=wI ht;obtain⟨us,rfl⟩:=hR.fr;show Region.wanted o (yielded ops.toArray (Kt.fr st.n us (cv β st.fr)).tmps)=_;exact wtF hg h1 h2 (by rw[<-hs];exact St.evO β h3) rfl
theorem tX (hR:Rep β st a w) (hg:o.guard=some (j,want)) (ht:TL st ops j=some (d,.un)):Region.wanted o (yielded ops.toArray a.tmps)=false:=by
 obtain⟨oj,h1,h2,h3⟩:=wI ht;obtain⟨us,rfl⟩:=hR.fr;show Region.wanted o (yielded ops.toArray (Kt.fr st.n us (cv β st.fr)).tmps)=_;exact wuF hg h1 h2 (St.evO β (x:=.tmp d) (s:=.un) h3)
theorem Rep.set (hR:Rep β st a w) {s s':SV} (hg:st.get d=some s) (hv:val β s=val β s'):Rep β (st.put (some d) s') a w:=by
 refine⟨oc ⟨hR.ok.sz,hR.ok.df,fun i p hl hi=>?_⟩,hR.bx,hR.ne,hR.only,hR.still⟩;simp only[St.put,cM]at hl;cases hb:Nat.beq d i with
 | true=>
  rw[hb]at hl;simp only[dY,ai]at hl;subst hl;have:=aX hb;subst this;unfold St.get at hg;cases bp:Nat.blt d st.n with
  | false=>rw[bp]at hg;cases hg
  | true=>
   rw[bp,dY]at hg;cases hq:cM st.fr d with
   | none=>rw[hq]at hg;cases hg
   | some q=>
    rw[hq]at hg;simp only[bP,ai]at hg;rw[hR.ok.at_ d q hq hi,hg,hv]
 | false=>rw[hb]at hl;exact hR.ok.at_ i p (by simpa using hl) hi
end
section
variable {P:Program} {ops:List Oper} {w:World}
def sB (P:Program) (ops:List Oper) (w:World):List Oper->Act->Act->Prop
 | [],a,a'=>a'=a
 | o::r,a,a'=>(Region.wanted o (yielded ops.toArray a.tmps)=true/\∃v,(∀w':World,w'.heap=w.heap->(execOp a.eval o).run P w'=.ok (.value v) w')/\sB P ops w r (a.put o.dst v) a')∨
  (Region.wanted o (yielded ops.toArray a.tmps)=false/\sB P ops w r (a.put o.dst undef) a')
theorem wJ:∀{l m:List Oper} {a b c:Act},sB P ops w l a b->sB P ops w m b c->sB P ops w (l++m) a c
 | [],_,_,_,_,h,k=>by
  have h:_=_:=h;subst h;exact k
 | o::r,m,a,b,c,h,k=>by
  rcases h with⟨h1,v,h2,h3⟩ | ⟨h1,h3⟩
  ·exact .inl ⟨h1,v,h2,wJ (l:=r) h3 k⟩
  ·exact .inr ⟨h1,wJ (l:=r) h3 k⟩
theorem Ag {Q:Exit->Act->World->Prop}:∀{l rest:List Oper} {a a':Act},sB P ops w l a a'->wpList P ops.toArray Q rest a' w->wpList P ops.toArray Q (l++rest) a w
 | [],_,_,_,h,k=>by
  have h:_=_:=h;subst h;exact k
 | o::r,m,a,b,h,k=>by
  rcases h with⟨h1,v,h2,h3⟩ | ⟨h1,h3⟩
  ·exact zO v h1 (h2 w rfl) rfl (Ag (l:=r) h3 k)
  ·exact Rh h1 rfl (Ag (l:=r) h3 k)
theorem EK {Q:Act->Prop}:∀{l rest:List Oper} {a a':Act},sB P ops w l a a'->wpQuiet P ops.toArray (fun w'=>∃n,w'=w.drewN n) Q rest a'->wpQuiet P ops.toArray (fun w'=>∃n,w'=w.drewN n) Q (l++rest) a
 | [],_,_,_,h,k=>by
  have h:_=_:=h;subst h;exact k
 | o::r,m,a,b,h,k=>by
  rcases h with⟨h1,v,h2,h3⟩ | ⟨h1,h3⟩
  ·exact XC v h1 (by rintro _ ⟨n,rfl⟩;exact h2 _ rfl) rfl (EK (l:=r) h3 k)
  ·exact aeu h1 rfl (EK (l:=r) h3 k)
def Ah:List Oper->List Nat
 | []=>[]
 | o::r=>match o.dst with
  | some d=>d::Ah r
  | none=>Ah r
theorem iI (a:Act) (d:Option Tmp) (v:Value):(a.put d v).tmps.size=a.tmps.size/\(a.put d v).defers=a.defers/\∀i,d≠some i->(a.put d v).tmps[i]? =a.tmps[i]? :=by
 cases d with
 | none=>exact⟨rfl,rfl,fun _ _=>rfl⟩
 | some k=>
  refine⟨by simp[Act.put],rfl,fun i hi=>?_⟩;simp only[Act.put];rw[mU (fun e=>hi (by rw[e]))]
theorem wK:∀{l:List Oper} {a a':Act},sB P ops w l a a'->a'.tmps.size=a.tmps.size/\a'.defers=a.defers/\∀i,(Ah l).elem i=false->a'.tmps[i]? =a.tmps[i]?
 | [],_,_,h=>by
  have h:_=_:=h;subst h;exact⟨rfl,rfl,fun _ _=>rfl⟩
 | o::r,a,b,h=>by
  have key:∀v,sB P ops w r (a.put o.dst v) b->b.tmps.size=a.tmps.size/\b.defers=a.defers/\∀i,(Ah (o::r)).elem i=false->b.tmps[i]? =a.tmps[i]? :=fun v h3=>by
   obtain⟨k1,k2,k3⟩:=wK h3;obtain⟨p1,p2,p3⟩:=iI a o.dst v;refine⟨k1.trans p1,k2.trans p2,fun i hi=>?_⟩;cases hd:o.dst with
   | none=>
    simp only[Ah,hd]at hi;rw[k3 i hi,p3 i (by rw[hd];simp)]
   | some d=>
    simp only[Ah,hd,jM]at hi;split at hi
    ·cases hi
    ·rename_i eI;rw[k3 i hi,p3 i (by rw[hd];intro e;simp only[ai]at e;subst e;simp at eI)]
  rcases h with⟨h1,v,h2,h3⟩ | ⟨h1,h3⟩
  ·exact key v h3
  ·exact key _ h3
end
def XQ (ops:List Oper):Nat->Nat->Nat->Bool
 | 0,_,_=>false
 | f+1,q,j=>bif Nat.beq q j then true else match fm ops q with
  | some o=>(match o.guard with
   | some (r,_)=>XQ ops f r j
   | none=>false)
  | none=>false
def vh (ops:List Oper) (j:Nat):List Oper->Nat
 | []=>0
 | o::r=>match o.guard with
  | some (q,_)=>bif XQ ops 50 q j then vh ops j r+1 else 0
  | none=>0
def mrg (t:Bool) (a b:SV):Option SV:=match a,b with
 | .bl true,.bl false=>some (.bt t)
 | .bl true,.bt y=>some (.bt (t||y))
 | .bt x,.bl false=>some (.bt (t&&x))
 | .bl false,.bl true=>some (.bt (!t))
 | .bl false,.bt y=>some (.bt (!t&&y))
 | .bt x,.bl true=>some (.bt (!t||x))
 | .bt x,.bt y=>some (.bt (bif t then x else y))
 | .bl true,.bl true=>some (.bl true)
 | .bl false,.bl false=>some (.bl false)
 | _,_=>none
theorem KD {t:Bool} {a b v:SV} (h:mrg t a b=some v) (β:Nat->Nat):(t=true->val β v=val β a)/\(t=false->val β v=val β b):=by
 unfold mrg at h;split at h<;>simp only[ai,reduceCtorEq]at h<;>subst h<;>refine⟨fun e=>?_,fun e=>?_⟩<;>subst e<;>simp[val,mV]
def wL (ds:List Nat):List (Nat×Nat×SV)->List (Nat×Nat×SV)
 | []=>[]
 | p::r=>bif ds.elem p.1 then wL ds r else p::wL ds r
theorem iY {ds:List Nat}:∀{l:List (Nat×Nat×SV)} {i:Nat},(ds.elem i=true->cM (wL ds l) i=none)/\(ds.elem i=false->cM (wL ds l) i=cM l i)
 | [],i=>⟨fun _=>rfl,fun _=>rfl⟩
 | (k,p)::r,i=>by
  obtain⟨h1,h2⟩:=iY (ds:=ds) (l:=r) (i:=i);simp only[wL];cases hk:ds.elem k with
  | true=>
   simp only[dY];refine⟨h1,fun hi=>?_⟩;rw[h2 hi];simp only[cM];cases hb:Nat.beq k i with
   | true=>have:=aX hb;subst this;rw[hi]at hk;cases hk
   | false=>rfl
  | false=>
   simp only[lq,cM];cases hb:Nat.beq k i with
   | true=>
    have:=aX hb;subst this;exact⟨fun hi=>(by rw[hi]at hk;cases hk),fun _=>rfl⟩
   | false=>exact⟨h1,h2⟩
def St.kT (st:St) (ds:List Nat):St:={st with fr:=wL ds st.fr}
theorem Ext.kT (st:St) (ds:List Nat):Ext st (st.kT ds):=
 ⟨rfl,aq _,fun i k v hl _=>by
  cases he:ds.elem i with
  | true=>rw[show cM (st.kT ds).fr i=none from(iY (l:=st.fr)).1 he]at hl;cases hl
  | false=>rw[show cM (st.kT ds).fr i=cM st.fr i from(iY (l:=st.fr)).2 he]at hl;exact hl,fun i b h ho _=>⟨b,h,ho,rfl,rfl,rfl,fun _ h=>h⟩,Kx,BE⟩
structure Alike (s t:St):Prop where
 bx:t.bx=s.bx
 w0:t.w0=s.w0
 mv:t.mv=s.mv
 dt:t.dt=s.dt
 n:t.n=s.n
 df:t.df=s.df
theorem Alike.refl (s:St):Alike s s:=⟨rfl,rfl,rfl,rfl,rfl,rfl⟩
theorem Alike.trans {s t u:St} (h:Alike s t) (k:Alike t u):Alike s u:=⟨k.bx.trans h.bx,k.w0.trans h.w0,k.mv.trans h.mv,k.dt.trans h.dt,k.n.trans h.n,k.df.trans h.df⟩
theorem Alike.put (s:St) (d:Option Tmp) (v:SV):Alike s (s.put d v):=by cases d<;>exact⟨rfl,rfl,rfl,rfl,rfl,rfl⟩
theorem Rep.alike {β:Nat->Nat} {s t:St} {a a':Act} {w:World} (h:Rep β s a w) (k:Alike s t) (hf:QX β t.n t.fr (Oj t.df) a'):Rep β t a' w:=by
 obtain⟨k1,k2,k3,k4,k5,k6⟩:=k;refine⟨oc hf,fun i b hb ho=>?_,fun i j bi bj h1 h2 h3 h4=>?_,?_,fun hm=>?_⟩
 ·rw[k1]at hb;obtain⟨g1,g2,g3⟩:=h.bx i b hb ho;exact⟨g1,g2,fun e=>by rw[k2];exact g3 e⟩
 ·rw[k1]at h1 h2;exact h.ne i j bi bj h1 h2 h3 h4
 ·rw[k2,k4];exact h.only
 ·rw[k2];exact h.still (by rw[<-k3];exact hm)
def tY (P:Program) (ops:List Oper):Nat->List (Bool×Bool)->List Oper->St->(St->Prop)->Prop
 | 0,_,_,_,_=>False
 | _+1,_,[],st,K=>K st
 | f+1,gs,o::rest,st,K=>match o.guard with
  | none=>TF P gs st o.op fun v=>tY P ops f gs rest (st.put o.dst v) K
  | some (j,want)=>(match TL st ops j with
   | some (_,.un)=>tY P ops f gs rest (st.put o.dst .un) K
   | some (_,.bl b)=>bif b==want then TF P gs st o.op fun v=>tY P ops f gs rest (st.put o.dst v) K else tY P ops f gs rest (st.put o.dst .un) K
   | some (d,.bt t)=>(match(o::rest)[vh ops j (o::rest)]? with
    | some pk=>(match pk.dst with
     | some k=>
      tY P ops f (gs++[(t,true)]) ((o::rest).take (vh ops j (o::rest)+1)) (st.put (some d) (.bl true)) fun sa=>
      ba (sa.get k) fun va=>
      tY P ops f (gs++[(t,false)]) ((o::rest).take (vh ops j (o::rest)+1)) (st.put (some d) (.bl false)) fun sb=>
      ba (sb.get k) fun vb=>
      ba (mrg t va vb) fun v=>
      tY P ops f gs ((o::rest).drop (vh ops j (o::rest)+1)) ((st.kT (Ah ((o::rest).take (vh ops j (o::rest)+1)))).put (some k) v) K
     | none=>False)
    | none=>False)
   | _=>False)
theorem EL:∀{gs:List (Bool×Bool)} {t b:Bool},gh gs->t=b->gh (gs++[(t,b)])
 | [],_,_,_,h=>⟨h,trivial⟩
 | (_,_)::r,_,_,h,k=>⟨h.1,EL (gs:=r) h.2 k⟩
theorem od {P:Program} {ops:List Oper}:∀{f:Nat} {gs:List (Bool×Bool)} {l:List Oper} {st:St} {K:St->Prop},tY P ops f gs l st K->
  ∃bH,K bH/\Ext st bH/\Alike st bH/\(gh gs->∀β a w,Rep β st a w->∃a',sB P ops w l a a'/\Rep β bH a' w)
 | 0,_,_,_,_,h=>h.elim
 | _+1,gs,[],st,K,h=>⟨st,h,Ext.refl _,Alike.refl _,fun _ β a w hR=>⟨a,rfl,hR⟩⟩
 | f+1,gs,o::rest,st,K,h=>by
  have one:(Region.wanted o=fun _=>true)∨True->∀{K:St->Prop},(TF P gs st o.op fun v=>tY P ops f gs rest (st.put o.dst v) K)->
    (gh gs->∀β a w,Rep β st a w->Region.wanted o (yielded ops.toArray a.tmps)=true)->
    ∃bH,K bH/\Ext st bH/\Alike st bH/\(gh gs->∀β a w,Rep β st a w->∃a',sB P ops w (o::rest) a a'/\Rep β bH a' w):=fun _ K h hw=>by
   obtain⟨v,h1,hy⟩:=EJ h;obtain⟨bH,k1,k2,k3,k4⟩:=od h1;refine⟨bH,k1,(Ext.put _ _ _).trans k2,(Alike.put _ _ _).trans k3,fun hg β a w hR=>?_⟩;obtain⟨a',g1,g2⟩:=k4 hg β _ w (hR.put o.dst v);exact⟨a',.inl ⟨hw hg β a w hR,_,fun w' hh=>hy hg β a w hR _ _ _ _ _ w' fun _=>hh,g1⟩,g2⟩
  have no:∀{K:St->Prop},tY P ops f gs rest (st.put o.dst .un) K->(gh gs->∀β a w,Rep β st a w->Region.wanted o (yielded ops.toArray a.tmps)=false)->
    ∃bH,K bH/\Ext st bH/\Alike st bH/\(gh gs->∀β a w,Rep β st a w->∃a',sB P ops w (o::rest) a a'/\Rep β bH a' w):=fun h1 hw=>by
   obtain⟨bH,k1,k2,k3,k4⟩:=od h1;refine⟨bH,k1,(Ext.put _ _ _).trans k2,(Alike.put _ _ _).trans k3,fun hg β a w hR=>?_⟩;obtain⟨a',g1,g2⟩:=k4 hg β _ w (hR.put o.dst .un);exact⟨a',.inr ⟨hw hg β a w hR,g1⟩,g2⟩
  unfold tY at h;split at h
  ·rename_i hg0;exact one (.inr trivial) h fun _ β a w hR=>wn hg0
  ·rename_i j want hg0;split at h
   ·rename_i d ht;exact no h fun _ β a w hR=>tX hR hg0 ht
   ·rename_i d b ht;cases hb:(b==want)with
    | true=>
     rw[hb]at h;exact one (.inr trivial) h fun _ β a w hR=>by rw[nu hR hg0 ht (b:=b) rfl,hb]
    | false=>
     rw[hb]at h;exact no h fun _ β a w hR=>by rw[nu hR hg0 ht (b:=b) rfl,hb]
   ·rename_i d t ht;obtain⟨oj,FL,OC,OD⟩:=wI ht;split at h
    ·rename_i pk hpk;split at h
     ·rename_i k hk;generalize vh ops j (o::rest)=m at h hpk;obtain⟨sa,ha,ea1,ea2,ea3⟩:=od h;obtain⟨va,hva,ha⟩:=aA ha;obtain⟨sb,hb,eb1,eb2,eb3⟩:=od ha;obtain⟨vb,hvb,hb⟩:=aA hb;obtain⟨v,hv,hb⟩:=aA hb;obtain⟨bH,k1,k2,k3,k4⟩:=od hb;refine⟨bH,k1,((Ext.kT _ _).trans (Ext.put _ _ _)).trans k2,((⟨rfl,rfl,rfl,rfl,rfl,rfl⟩:Alike st (st.kT _)).trans (Alike.put _ _ _)).trans k3,fun hg β a w hR=>?_⟩;have fin:∀(s:SV) (u:St) (x:SV),Rep β u a w->(∃a',sB P ops w ((o::rest).take (m+1)) a a'/\∃u',Rep β u' a' w/\u'.n=st.n/\u'.get k=some x/\val β v=val β x)->∃a',sB P ops w (o::rest) a a'/\Rep β bH a' w:=by
       rintro s u x hu ⟨a1,g1,u',r1,r2,r3,r4⟩;obtain⟨f1,f2,f3⟩:=wK g1;have fx:Rep β ((st.kT (Ah ((o::rest).take (m+1)))).put (some k) v) a1 w:=by
        refine hR.alike ((⟨rfl,rfl,rfl,rfl,rfl,rfl⟩:Alike st (st.kT _)).trans (Alike.put _ _ _)) ⟨f1.trans hR.ok.sz,f2.trans hR.ok.df,fun i p hl hi=>?_⟩;simp only[St.put,cM]at hl;cases JX:Nat.beq k i with
        | true=>
         rw[JX]at hl;simp only[dY,ai]at hl;subst hl;have:=aX JX;subst this;have e:=r1.get r3;show a1.tmps[k]? =some (val β v);rw[r4,<-e];have hs:k<a1.tmps.size:=by rw[f1,hR.ok.sz];exact hi
         simp[Act.eval,hs]
        | false=>
         rw[JX]at hl;simp only[lq]at hl;cases he:(Ah ((o::rest).take (m+1))).elem i with
         | true=>rw[show cM (st.kT _).fr i=none from(iY (l:=st.fr)).1 he]at hl;cases hl
         | false=>
          rw[show cM (st.kT _).fr i=cM st.fr i from(iY (l:=st.fr)).2 he]at hl;rw[f3 i he];exact hR.ok.at_ i p hl hi
       obtain⟨a2,g2,g3⟩:=k4 hg β a1 w fx;refine⟨a2,?_,g3⟩;have:=wJ g1 g2;rwa[dC]at this
      cases t with
      | true=>
       have hu:Rep β (st.put (some d) (.bl true)) a w:=hR.set OD rfl;obtain⟨a1,g1,g2⟩:=ea3 (EL hg rfl) β a w hu;exact fin (.bl true) _ va hu ⟨a1,g1,sa,g2,ea2.n.trans rfl,hva,(KD hv β).1 rfl⟩
      | false=>
       have hu:Rep β (st.put (some d) (.bl false)) a w:=hR.set OD rfl;obtain⟨a1,g1,g2⟩:=eb3 (EL hg rfl) β a w hu;exact fin (.bl false) _ vb hu ⟨a1,g1,sb,g2,eb2.n.trans rfl,hvb,(KD hv β).2 rfl⟩
     ·exact h.elim
    ·exact h.elim
   ·exact h.elim
theorem iJ:∀(l:List fH) (b:fH) (i:Nat),bL (l++[b]) i=if i=l.length then some b else bL l i
 | [],b,0=>rfl
 | [],b,i+1=>by simp[bL]
 | a::r,b,0=>rfl
 | a::r,b,i+1=>by
  simp only[bc,bL,ao,Nat.add_right_cancel_iff];exact iJ r b i
theorem oe:∀{l:List fH} {i:Nat} {b:fH},bL l i=some b->i<l.length
 | a::r,0,_,_=>by simp
 | a::r,i+1,b,h=>by simp only[bL]at h;have:=oe h;simp;omega
theorem gq:∀{l:List fH} {i:Nat} {b c:fH},bL l i=some b->∀j,bL (yB l i c) j=if j=i then some c else bL l j
 | a::r,0,b,c,_,0=>rfl
 | a::r,0,b,c,_,j+1=>by simp[yB,bL]
 | a::r,i+1,b,c,h,0=>by simp[yB,bL]
 | a::r,i+1,b,c,h,j+1=>by
  simp only[bL]at h;simp only[yB,bL,Nat.add_right_cancel_iff];exact gq h j
theorem kB {b:Bool} {p q:Prop} (h:bif b then p else q):(b=true/\p)∨(b=false/\q):=by
 cases b with
 | true=>exact .inl ⟨rfl,h⟩
 | false=>exact .inr ⟨rfl,h⟩
def Cb (bx:List fH) (i:Nat):Nat:=match bL bx i with
 | some b=>b.blk.getD 0
 | none=>0
def Ce (bx:List fH) (i:Nat):Bool:=match bL bx i with
 | some b=>b.ok&&b.blk.isSome
 | none=>false
abbrev St.bl (st:St) (i:Nat):Nat:=Cb st.bx i
abbrev St.FH (st:St) (i:Nat):Bool:=Ce st.bx i
theorem Rep.bl {β:Nat->Nat} {st:St} {a:Act} {w:World} (h:Rep β st a w) (i:Nat) (hg:st.FH i=true):st.bl i=β i:=by
 unfold St.FH Ce at hg;unfold St.bl Cb;cases hb:bL st.bx i with
 | none=>rw[hb]at hg;cases hg
 | some b=>
  rw[hb]at hg;simp only[ab]at hg;cases hk:b.blk with
  | none=>rw[hk]at hg;cases hg.2
  | some k=>
   have:=(h.bx i b hb hg.1).at_ k hk;simp[hk,this]
theorem Rep.pZ {β:Nat->Nat} {st:St} {a:Act} {w:World} (h:Rep β st a w) {l:List SV} (hc:fz st.FH l=true):bq st.bl l=bq β l:=fh (g:=st.FH) h.bl l hc
theorem Rep.aaS {β:Nat->Nat} {st:St} {a:Act} {w:World} (h:Rep β st a w) {s:SV} (hc:cln st.FH s=true):val st.bl s=val β s:=gy (g:=st.FH) h.bl s hc
def Cf:List fH->(List fH->Prop)->Prop
 | [],K=>K []
 | b::r,K=>match b.ok,b.blk with
  | true,none=>∀k:Nat,Cf r fun r'=>K ({b with blk:=some k}::r')
  | _,_=>Cf r fun r'=>K (b::r')
def ph (k:Nat) (b:fH):fH:=match b.ok,b.blk with
 | true,none=>{b with blk:=some k}
 | _,_=>b
def jh (β:Nat->Nat):Nat->List fH->List fH
 | _,[]=>[]
 | n,b::r=>ph (β n) b::jh β (n+1) r
theorem wM (β:Nat->Nat):∀{bs:List fH} (n:Nat) {K:List fH->Prop},Cf bs K->K (jh β n bs)
 | [],_,_,h=>h
 | b::r,n,K,h=>by
  unfold Cf at h;unfold jh;split at h
  ·rename_i h1 h2;have:=wM β (n+1) (h (β n));have e:ph (β n) b={b with blk:=some (β n)}:=by unfold ph;split<;>simp_all
   rw[e];exact this
  ·rename_i h1;have:=wM β (n+1) h;have e:ph (β n) b=b:=by
    unfold ph;split
    ·rename_i e1 e2;exact absurd e2 (fun e2=>h1 e1 e2)
    ·rfl
   rw[e];exact this
theorem wN (β:Nat->Nat):∀(bs:List fH) (n i:Nat),bL (jh β n bs) i=(bL bs i).map (ph (β (n+i)))
 | [],_,_=>rfl
 | b::r,n,0=>rfl
 | b::r,n,i+1=>by
  simp only[jh,bL];rw[wN β r (n+1) i,show n+1+i=n+(i+1) by omega]
def Cg (w0 w:World):List fH->List fH->Prop->Prop
 | b::r,b'::r',p=>match b.ok,b.blk with
  | true,none=>w0.heap.size<=b'.blk.getD 0->b'.blk.getD 0<w.heap.size->Cg w0 w r r' p
  | _,_=>Cg w0 w r r' p
 | _,_,p=>p
theorem wO {β:Nat->Nat} {w0 w:World}:∀{bs:List fH} (n:Nat) {p:Prop},Cg w0 w bs (jh β n bs) p->(∀i b,bL bs i=some b->b.ok=true->b.blk=none->w0.heap.size<=β (n+i)/\β (n+i)<w.heap.size)->p
 | [],_,_,h,_=>h
 | b::r,n,p,h,hb=>by
  simp only[jh]at h;unfold Cg at h;split at h
  ·rename_i h1 h2;obtain⟨e1,e2⟩:=hb 0 b rfl h1 h2;have e:(ph (β n) b).blk.getD 0=β n:=by unfold ph;rw[h1,h2];rfl
   rw[e]at h;exact wO (n+1) (h e1 e2) fun i c hc=>by have:=hb (i+1) c hc;rwa[show n+(i+1)=n+1+i by omega]at this
  ·exact wO (n+1) h fun i c hc=>by have:=hb (i+1) c hc;rwa[show n+(i+1)=n+1+i by omega]at this
def WG (g:Nat->Bool) (bl:Nat->Nat) (w:World) (all:Bool):List fH->Prop->Prop
 | [],p=>p
 | b::r,p=>bif b.ok&&b.blk.isSome&&b.esc&&(all||!b.sh)&&fz g b.cells then Blk w (b.blk.getD 0) b.ty (bq bl b.cells)->WG g bl w all r p else WG g bl w all r p
theorem Ai {g:Nat->Bool} {bl:Nat->Nat} {w:World} {all:Bool}:∀{bs:List fH} {p:Prop},WG g bl w all bs p->(∀i b,bL bs i=some b->b.ok=true->b.blk.isSome=true->fz g b.cells=true->Blk w (b.blk.getD 0) b.ty (bq bl b.cells))->p
 | [],_,h,_=>h
 | b::r,p,h,hb=>by
  unfold WG at h;cases hc:(b.ok&&b.blk.isSome&&b.esc&&(all||!b.sh)&&fz g b.cells)with
  | true=>
   rw[hc]at h;simp only[ab]at hc;exact Ai (h (hb 0 b rfl hc.1.1.1.1 hc.1.1.1.2 hc.2)) fun i c hi=>hb (i+1) c hi
  | false=>
   rw[hc]at h;exact Ai h fun i c hi=>hb (i+1) c hi
def rf:List fH->List fH
 | []=>[]
 | b::r=>{b with sh:=b.esc}::rf r
theorem nw:∀(l:List fH) (i:Nat),bL (rf l) i=(bL l i).map fun b=>{b with sh:=b.esc}
 | [],_=>rfl
 | b::r,0=>rfl
 | b::r,i+1=>nw r i
def wP (bs:List fH):List Nat->Bool
 | []=>true
 | i::r=>(match bL bs i with
  | some b=>b.ok
  | none=>false)&&wP bs r
theorem qs {bs:List fH}:∀{l:List Nat},wP bs l=true->∀i∈l,∃b,bL bs i=some b/\b.ok=true
 | i::r,h,j,hj=>by
  simp only[wP,ab]at h;rcases ak.1 hj with rfl | hj
  ·split at h
   ·rename_i b hb;exact⟨b,hb,h.1⟩
   ·cases h.1
  ·exact qs h.2 j hj
def IE:List fH->List fH->List (Nat×Bool)
 | b::r,b'::r'=>bif b.ok&&b.blk.isNone then(b'.blk.getD 0,b.esc)::IE r r' else IE r r'
 | _,_=>[]
def KE (k:Nat):List (Nat×Bool)->Prop->Prop
 | [],p=>p
 | x::r,p=>bif x.2 then KE k r p else(x.1≠k->KE k r p)
def KF (all:List (Nat×Bool)):List (Nat×Bool)->Prop->Prop
 | [],p=>p
 | x::r,p=>bif x.2 then KE x.1 all (KF all r p)else KF all r p
theorem Aj {k:Nat}:∀{l:List (Nat×Bool)} {p:Prop},KE k l p->(∀y,y∈l->y.2=false->y.1≠k)->p
 | [],_,h,_=>h
 | x::r,p,h,hd=>by
  unfold KE at h;cases hx:x.2 with
  | true=>rw[hx]at h;exact Aj h fun y hy=>hd y (bS _ hy)
  | false=>rw[hx]at h;exact Aj (h (hd x cR hx)) fun y hy=>hd y (bS _ hy)
theorem Ak {all:List (Nat×Bool)}:∀{l:List (Nat×Bool)} {p:Prop},KF all l p->(∀x,x∈l->x.2=true->∀y,y∈all->y.2=false->y.1≠x.1)->p
 | [],_,h,_=>h
 | x::r,p,h,hd=>by
  unfold KF at h;cases hx:x.2 with
  | true=>rw[hx]at h;exact Ak (Aj h fun y hy hf=>hd x cR hx y hy hf) fun z hz=>hd z (bS _ hz)
  | false=>rw[hx]at h;exact Ak h fun z hz=>hd z (bS _ hz)
theorem sC {β:Nat->Nat}:∀{bs:List fH} (n:Nat) {x:Nat×Bool},x∈IE bs (jh β n bs)->∃i b,bL bs i=some b/\b.ok=true/\x=(β (n+i),b.esc)
 | [],_,_,h=>by cases h
 | b::r,n,x,h=>by
  simp only[jh,IE]at h;cases hc:(b.ok&&b.blk.isNone)with
  | true=>
   rw[hc]at h;simp only[ab,Option.isNone_iff_eq_none]at hc;rcases ak.1 h with rfl | h
   ·refine⟨0,b,rfl,hc.1,?_⟩;have:(ph (β n) b).blk.getD 0=β n:=by unfold ph;rw[hc.1,hc.2];rfl
    rw[this];rfl
   ·obtain⟨i,c,h1,h2,h3⟩:=sC (n+1) h;exact⟨i+1,c,h1,h2,by rw[h3,show n+1+i=n+(i+1) by omega]⟩
  | false=>
   rw[hc]at h;obtain⟨i,c,h1,h2,h3⟩:=sC (n+1) h;exact⟨i+1,c,h1,h2,by rw[h3,show n+1+i=n+(i+1) by omega]⟩
def wQ:List fH->List Nat
 | []=>[]
 | b::r=>bif b.ok&&b.blk.isSome&&b.esc&&!b.sh then b.blk.getD 0::wQ r else wQ r
def wR:List fH->List Nat
 | []=>[]
 | b::r=>bif b.ok&&b.blk.isSome&&!b.esc then b.blk.getD 0::wR r else wR r
def TM (k:Nat):List Nat->Prop->Prop
 | [],p=>p
 | x::r,p=>x≠k->TM k r p
def Ps (NF:List Nat):List Nat->Prop->Prop
 | [],p=>p
 | k::r,p=>TM k NF (Ps NF r p)
theorem Gq {k:Nat}:∀{l:List Nat} {p:Prop},TM k l p->(∀y,y∈l->y≠k)->p
 | [],_,h,_=>h
 | x::r,p,h,hd=>Gq (h (hd x cR)) fun y hy=>hd y (bS _ hy)
theorem Al {NF:List Nat}:∀{l:List Nat} {p:Prop},Ps NF l p->(∀k,k∈l->∀y,y∈NF->y≠k)->p
 | [],_,h,_=>h
 | k::r,p,h,hd=>Al (Gq h fun y hy=>hd k cR y hy) fun z hz=>hd z (bS _ hz)
theorem tZ:∀{bs:List fH} {x:Nat},x∈wQ bs->∃i b,bL bs i=some b/\b.ok=true/\b.esc=true/\b.blk=some x
 | [],_,h=>by cases h
 | b::r,x,h=>by
  simp only[wQ]at h;cases hc:(b.ok&&b.blk.isSome&&b.esc&&!b.sh)with
  | true=>
   rw[hc]at h;simp only[ab]at hc;rcases ak.1 h with rfl | h
   ·obtain⟨k,hk⟩:=eb.1 hc.1.1.2;exact⟨0,b,rfl,hc.1.1.1,hc.1.2,by rw[hk];rfl⟩
   ·obtain⟨i,c,h1,h2⟩:=tZ h;exact⟨i+1,c,h1,h2⟩
  | false=>
   rw[hc]at h;obtain⟨i,c,h1,h2⟩:=tZ h;exact⟨i+1,c,h1,h2⟩
theorem ua:∀{bs:List fH} {x:Nat},x∈wR bs->∃i b,bL bs i=some b/\b.ok=true/\b.esc=false/\b.blk=some x
 | [],_,h=>by cases h
 | b::r,x,h=>by
  simp only[wR]at h;cases hc:(b.ok&&b.blk.isSome&&!b.esc)with
  | true=>
   rw[hc]at h;simp only[ab,ch]at hc;rcases ak.1 h with rfl | h
   ·obtain⟨k,hk⟩:=eb.1 hc.1.2;exact⟨0,b,rfl,hc.1.1,hc.2,by rw[hk];rfl⟩
   ·obtain⟨i,c,h1,h2⟩:=ua h;exact⟨i+1,c,h1,h2⟩
  | false=>
   rw[hc]at h;obtain⟨i,c,h1,h2⟩:=ua h;exact⟨i+1,c,h1,h2⟩
theorem Ci {β:Nat->Nat} {st:St} {a:Act} {w:World} (hR:Rep β st a w):∀k,k∈wQ st.bx->∀y,y∈wR st.bx->y≠k:=fun k hk y hy=>by
 obtain⟨i,b,i1,i2,i3,i4⟩:=tZ hk;obtain⟨j,c,j1,j2,j3,j4⟩:=ua hy;have e1:=(hR.bx i b i1 i2).at_ k i4;have e2:=(hR.bx j c j1 j2).at_ y j4;rw[<-e1,<-e2];refine hR.ne j i c b j1 i1 j2 i2 fun e=>?_;subst e;rw[i1]at j1;injection j1 with j1;subst j1;rw[i3]at j3;cases j3
def dh (st:St) (K:St->Prop):Prop:=
 bif st.mv then
  bif wP st.bx st.dt then
   Cf st.bx fun bx=>∀w:World,Cg st.w0 w st.bx bx (Only (st.dt.map (Cb bx)) st.w0 w->
    WG (Ce bx) (Cb bx) w true bx (KF (IE st.bx bx) (IE st.bx bx) (Ps (wR st.bx) (wQ st.bx) (K {st with bx:=rf bx,w0:=w,mv:=false,dt:=[]}))))
  else False
 else WG st.FH st.bl st.w0 false st.bx (Ps (wR st.bx) (wQ st.bx) (K {st with bx:=rf st.bx}))
theorem cP {st:St} {K:St->Prop} (h:dh st K) {β:Nat->Nat} {a:Act} {w:World} (hR:Rep β st a w):∃bH,K bH/\Ext st bH/\Rep β bH a w/\bH.mv=false/\bH.fr=st.fr/\bH.n=st.n/\bH.ct=st.ct/\bH.bx.length=st.bx.length:=by
 unfold dh at h;rcases kB h with⟨hm,h⟩ | ⟨hm,h⟩
 case inr=>
  have hk:=Ai h fun i b hb ho hs hc=>by
   have:=(hR.bx i b hb ho).blk;cases hk:b.blk with
   | none=>rw[hk]at hs;cases hs
   | some k=>
    have e:=(hR.bx i b hb ho).at_ k hk;rw[hR.pZ hc,<-hR.still hm];rw[e]at this;exact this
  have hk:=Al hk (Ci hR);have key:∀i b',bL (rf st.bx) i=some b'->∃b,bL st.bx i=some b/\b'={b with sh:=b.esc}:=fun i b' hb=>by
   rw[nw]at hb;cases hn:bL st.bx i with
   | none=>rw[hn]at hb;cases hb
   | some b=>rw[hn]at hb;exact⟨b,rfl,by simpa using hb.symm⟩
  refine⟨_,hk,⟨rfl,aq _,fun _ _ _ h _=>h,fun i b' hb ho _=>?_,fun i b hb=>?_,BE⟩,⟨hR.fr,fun i b' hb ho=>?_,fun i j bi bj h1 h2 h3 h4 qd=>?_,hR.only,hR.still⟩,hm,rfl,rfl,rfl,?_⟩
  ·obtain⟨b,h1,rfl⟩:=key i b' hb;exact⟨b,h1,ho,rfl,rfl,rfl,fun _ h=>h⟩
  ·exact⟨{b with sh:=b.esc},by rw[nw,hb];rfl,rfl,rfl,fun _ h=>h⟩
  ·obtain⟨b,h1,rfl⟩:=key i b' hb;have:=hR.bx i b h1 ho;exact⟨this.blk,this.at_,this.new⟩
  ·obtain⟨b,g1,rfl⟩:=key i bi h1;obtain⟨c,g2,rfl⟩:=key j bj h2;exact hR.ne i j b c g1 g2 h3 h4 qd
  ·have:∀l:List fH,(rf l).length=l.length:=fun l=>by
    induction l with
    | nil=>rfl
    | cons b r ih=>simp[rf,ih]
   exact this _
 case inl=>
  obtain⟨ij,h⟩:=cw h;have h:=wM β 0 h w;have vF:∀i,bL (jh β 0 st.bx) i=(bL st.bx i).map (ph (β i)):=fun i=>by rw[wN,aJ]
  have D0:∀i b,bL st.bx i=some b->b.ok=true->∃b',bL (jh β 0 st.bx) i=some b'/\b'.ok=true/\b'.blk=some (β i)/\b'.cells=b.cells/\b'.ty=b.ty/\b'.stp=b.stp:=fun i b hb ho=>by
   refine⟨ph (β i) b,by rw[vF,hb];rfl,?_⟩;unfold ph;split
   ·exact⟨ho,rfl,rfl,rfl,rfl⟩
   ·rename_i eI;refine⟨ho,?_,rfl,rfl,rfl⟩;cases hk:b.blk with
    | none=>exact absurd hk (fun e=>eI ho e)
    | some k=>rw[(hR.bx i b hb ho).at_ k hk]
  have Vf:∀i b',bL (jh β 0 st.bx) i=some b'->b'.ok=true->∃b,bL st.bx i=some b/\b.ok=true/\b'.blk=some (β i)/\b'.cells=b.cells/\b'.ty=b.ty/\b'.stp=b.stp:=fun i b' hb ho=>by
   rw[vF]at hb;cases hn:bL st.bx i with
   | none=>rw[hn]at hb;cases hb
   | some b=>
    rw[hn]at hb;simp only[bP,ai]at hb;subst hb;have hob:b.ok=true:=by
     unfold ph at ho;split at ho
     ·assumption
     ·exact ho
    obtain⟨b2,e1,e2,e3,e4,e5,e6⟩:=D0 i b hn hob;rw[vF,hn]at e1;simp only[bP,ai]at e1;subst e1;exact⟨b,rfl,hob,e3,e4,e5,e6⟩
  have h:=wO 0 h fun i b hb ho hk=>by
   rw[aJ];exact⟨(hR.bx i b hb ho).new hk,(hR.bx i b hb ho).blk.lt⟩
  have edt:st.dt.map (Cb (jh β 0 st.bx))=st.dt.map β:=by
   refine oZ fun i hi=>?_;obtain⟨b,h1,h2⟩:=qs ij i hi;obtain⟨b',e1,e2,e3,_⟩:=D0 i b h1 h2;unfold Cb;rw[e1];simp[e3]
  have h:=h (by rw[edt];exact hR.only);have nY:∀i,Ce (jh β 0 st.bx) i=true->Cb (jh β 0 st.bx) i=β i:=fun i hg=>by
   unfold Ce at hg;unfold Cb;cases hn:bL (jh β 0 st.bx) i with
   | none=>rw[hn]at hg;cases hg
   | some b'=>
    rw[hn]at hg;simp only[ab]at hg;obtain⟨b,_,_,e3,_⟩:=Vf i b' hn hg.1;simp[e3]
  have hk:=Ai h fun i b' hb ho hs hc=>by
   obtain⟨b,e1,e2,e3,e4,e5,e6⟩:=Vf i b' hb ho;rw[fh nY _ hc,e3,e4,e5];exact(hR.bx i b e1 e2).blk
  have hk:=Ak hk fun x hx DZ y hy hye=>by
   obtain⟨i,b,i1,i2,rfl⟩:=sC 0 hx;obtain⟨j,c,j1,j2,rfl⟩:=sC 0 hy;rw[aJ,aJ];refine hR.ne j i c b j1 i1 j2 i2 fun e=>?_;subst e;rw[i1]at j1;injection j1 with j1;subst j1;rw[DZ]at hye;cases hye
  have hk:=Al hk (Ci hR);have key:∀i b',bL (rf (jh β 0 st.bx)) i=some b'->b'.ok=true->∃b,bL st.bx i=some b/\b.ok=true/\b'.blk=some (β i)/\b'.cells=b.cells/\b'.ty=b.ty/\b'.stp=b.stp:=fun i b' hb ho=>by
   rw[nw]at hb;cases hn:bL (jh β 0 st.bx) i with
   | none=>rw[hn]at hb;cases hb
   | some c=>
    rw[hn]at hb;simp only[bP,ai]at hb;subst hb;exact Vf i c hn ho
  refine⟨_,hk,⟨rfl,aq _,fun _ _ _ h _=>h,fun i b' hb ho _=>?_,fun i b hb=>?_,BE⟩,⟨hR.fr,fun i b' hb ho=>?_,fun i j bi bj h1 h2 h3 h4 qd=>?_,Only.refl _ _,fun _=>rfl⟩,rfl,rfl,rfl,rfl,?_⟩
  ·obtain⟨b,e1,e2,e3,e4,e5,e6⟩:=key i b' hb ho;exact⟨b,e1,e2,e4.symm,e5.symm,e6.symm,fun k hk=>by rw[e3,(hR.bx i b e1 e2).at_ k hk]⟩
  ·refine⟨{ph (β i) b with sh:=(ph (β i) b).esc},by rw[nw,vF,hb];rfl,?_⟩;unfold ph;split
   ·rename_i e1 e2;exact⟨rfl,rfl,fun k hk=>by rw[e2]at hk;cases hk⟩
   ·exact⟨rfl,rfl,fun _ h=>h⟩
  ·obtain⟨b,e1,e2,e3,e4,e5,e6⟩:=key i b' hb ho;refine⟨by rw[e4,e5];exact(hR.bx i b e1 e2).blk,fun k hk=>by rw[e3]at hk;simpa using hk,fun hk=>by rw[e3]at hk;cases hk⟩
  ·obtain⟨b,e1,e2,_⟩:=key i bi h1 h3;obtain⟨c,f1,f2,_⟩:=key j bj h2 h4;exact hR.ne i j b c e1 f1 e2 f2 qd
  ·have l1:∀l:List fH,(rf l).length=l.length:=fun l=>by
    induction l with
    | nil=>rfl
    | cons b r ih=>simp[rf,ih]
   have l2:∀(l:List fH) n,(jh β n l).length=l.length:=fun l=>by
    induction l with
    | nil=>intro n;rfl
    | cons b r ih=>intro n;simp[jh,ih]
   exact(l1 _).trans (l2 _ _)
def noB (n:Nat) (s:SV):Bool:=cln (fun j=>!Nat.beq j n) s
def Pu (n:Nat) (l:List SV):Bool:=fz (fun j=>!Nat.beq j n) l
def IG (n:Nat):List (Nat×Nat×SV)->Bool
 | []=>true
 | p::r=>noB n p.2.2&&IG n r
def EM (n:Nat):List fH->Bool
 | []=>true
 | b::r=>(!b.ok||Pu n b.cells)&&EM n r
theorem Am {n:Nat}:∀{l:List (Nat×Nat×SV)},IG n l=true->∀i p,cM l i=some p->noB n p.2=true
 | [],_,i,p,h=>by cases h
 | (k,q)::r,h,i,p,hl=>by
  simp only[IG,ab]at h;simp only[cM]at hl;cases hb:Nat.beq k i with
  | true=>rw[hb]at hl;simp only[dY,ai]at hl;subst hl;exact h.1
  | false=>rw[hb]at hl;exact Am h.2 i p (by simpa using hl)
theorem An {n:Nat}:∀{l:List fH},EM n l=true->∀i b,bL l i=some b->b.ok=true->Pu n b.cells=true
 | c::r,h,0,b,hb,ho=>by
  simp only[EM,ab,cp,ch]at h;simp only[bL,ai]at hb;subst hb;rcases h.1 with h1 | h1
  ·rw[ho]at h1;cases h1
  ·exact h1
 | c::r,h,i+1,b,hb,ho=>by
  simp only[EM,ab]at h;exact An h.2 i b hb ho
def tP (β:Nat->Nat) (n b:Nat):Nat->Nat:=fun i=>if i=n then b else β i
theorem wS {β:Nat->Nat} {n b:Nat}:∀i,(!Nat.beq i n)=true->β i=tP β n b i:=fun i h=>by
 unfold tP;rw[if_neg];rintro rfl;simp at h
section
variable {β:Nat->Nat} {st:St} {a:Act} {w w1:World}
def St.Bi (st:St) (d:Option Tmp) (t:TypeId) (zs:List SV):St:=
 St.put {st with bx:=st.bx++[⟨none,t,zs,st.ct,true,false,false⟩],mv:=true,ct:=st.ct+1} d (.box st.bx.length 0)
theorem Ext.Bi (st:St) (d:Option Tmp) (t:TypeId) (zs:List SV):Ext st (st.Bi d t zs):=by
 refine Ext.trans (t:={st with bx:=st.bx++[⟨none,t,zs,st.ct,true,false,false⟩],mv:=true,ct:=st.ct+1}) ⟨rfl,fS _,fun _ _ _ h _=>h,fun i b' hb ho hs=>?_,fun i b hb=>?_,BE⟩ (Ext.put _ _ _)
 ·dsimp only at hb;rw[iJ]at hb;split at hb
  ·simp only[ai]at hb;subst hb;dsimp only at hs;omega
  ·exact⟨b',hb,ho,rfl,rfl,rfl,fun _ h=>h⟩
 ·exact⟨b,by dsimp only;rw[iJ,if_neg (by have:=oe hb;omega)];exact hb,rfl,rfl,fun _ h=>h⟩
theorem Rep.Bi (hR:Rep β st a w) {d:Option Tmp} {t:TypeId} {zs:List SV} {b:Nat} (h1:IG st.bx.length st.fr=true) (h2:EM st.bx.length st.bx=true) (h3:Pu st.bx.length zs=true)
  (hb:w.heap.size<=b) (hO:Only [] w w1) (hB:Blk w1 b t (bq β zs)) (hdt:wP st.bx st.dt=true):
  Rep (tP β st.bx.length b) (st.Bi d t zs) (a.put d (.pointer (some ⟨b,0,none⟩))) w1:=by
 have nS:tP β st.bx.length b st.bx.length=b:=by unfold tP;rw[if_pos rfl]
 have bp:∀{i c},bL st.bx i=some c->tP β st.bx.length b i=β i:=fun{i c} h=>by
  unfold tP;rw[if_neg];have:=oe h;omega
 have base:Rep (tP β st.bx.length b) {st with bx:=st.bx++[⟨none,t,zs,st.ct,true,false,false⟩],mv:=true,ct:=st.ct+1} a w1:=by
  refine⟨oc ⟨hR.ok.sz,hR.ok.df,fun i p hl hi=>?_⟩,fun i c hc ho=>?_,fun i j bi bj g1 g2 g3 g4 qd=>?_,?_,fun h=>by cases h⟩
  ·rw[hR.ok.at_ i p hl hi];congr 1;exact gy (g:=fun j=>!Nat.beq j st.bx.length) wS _ (Am h1 i p hl)
  ·dsimp only at hc;rw[iJ]at hc;split at hc
   ·rename_i he;simp only[ai]at hc;subst hc;subst he;refine⟨?_,fun k hk=>(by cases hk),fun _=>?_⟩
    ·rw[nS];dsimp only;rw[<-fh (g:=fun j=>!Nat.beq j st.bx.length) (β:=β) (β':=tP β st.bx.length b) wS _ h3];exact hB
    ·rw[nS];exact ay hR.only.size hb
   ·have e:=bp hc;obtain⟨k1,k2,k3⟩:=hR.bx i c hc ho;refine⟨?_,fun k hk=>by rw[e];exact k2 k hk,fun hk=>by rw[e];exact k3 hk⟩;rw[e,<-fh (g:=fun j=>!Nat.beq j st.bx.length) (β:=β) (β':=tP β st.bx.length b) wS _ (An h2 i c hc ho)];exact hO.blk k1 (by simp)
  ·dsimp only at g1 g2;rw[iJ]at g1 g2;split at g1
   ·rename_i e1;split at g2
    ·omega
    ·subst e1;rw[nS,bp g2];have:=(hR.bx j bj g2 g4).blk.lt;omega
   ·split at g2
    ·rename_i e2;subst e2;rw[nS,bp g1];have:=(hR.bx i bi g1 g3).blk.lt;omega
    ·rw[bp g1,bp g2];exact hR.ne i j bi bj g1 g2 g3 g4 qd
  ·have e:st.dt.map (tP β st.bx.length b)=st.dt.map β:=oZ fun i hi=>by
    obtain⟨c,hc,_⟩:=qs hdt i hi;exact bp hc
   show Only (st.dt.map (tP β st.bx.length b)) st.w0 w1;rw[e];exact hR.only.cf hO
 have:=base.put d (.box st.bx.length 0);rw[show val (tP β st.bx.length b) (.box st.bx.length 0)=.pointer (some ⟨b,0,none⟩) by
  show Value.pointer (some ⟨tP β st.bx.length b st.bx.length,0,none⟩)=_;rw[nS]]at this
 exact this
def St.qb (st:St) (i:Nat) (b:fH) (cs:List SV):St:=
 {st with bx:=yB st.bx i {b with cells:=cs,stp:=st.ct,sh:=false},mv:=true,dt:=(bif b.blk.isSome&&!st.dt.elem i then i::st.dt else st.dt),ct:=st.ct+1}
theorem Ext.qb {st:St} {i:Nat} {b:fH} {cs:List SV} (h:bL st.bx i=some b):Ext st (st.qb i b cs):=by
 refine⟨rfl,fS _,fun _ _ _ h _=>h,fun j b' hb ho hs=>?_,fun j c hc=>?_,BE⟩
 ·simp only[St.qb]at hb;rw[gq h]at hb;split at hb
  ·simp only[ai]at hb;subst hb;dsimp only at hs;omega
  ·exact⟨b',hb,ho,rfl,rfl,rfl,fun _ h=>h⟩
 ·simp only[St.qb];rw[gq h];split
  ·rename_i e;subst e;rw[h]at hc;simp only[ai]at hc;subst hc;exact⟨_,rfl,rfl,rfl,fun _ h=>h⟩
  ·exact⟨c,hc,rfl,rfl,fun _ h=>h⟩
theorem Rep.qb (hR:Rep β st a w) {i:Nat} {b:fH} {cs:List SV} (h:bL st.bx i=some b) (ho:b.ok=true) (hO:Only [β i] w w1) (hB:Blk w1 (β i) b.ty (bq β cs)):Rep β (st.qb i b cs) a w1:=by
 have hk:=hR.bx i b h ho;refine⟨hR.fr,fun j c hc oB=>?_,fun j l bj bl g1 g2 g3 g4 qd=>?_,?_,fun h=>by cases h⟩
 ·simp only[St.qb]at hc;rw[gq h]at hc;split at hc
  ·rename_i e;subst e;simp only[ai]at hc;subst hc;exact⟨hB,hk.at_,hk.new⟩
  ·rename_i eI;obtain⟨k1,k2,k3⟩:=hR.bx j c hc oB;exact⟨hO.blk k1 (by simpa using hR.ne j i c b hc h oB ho eI),k2,k3⟩
 ·simp only[St.qb]at g1 g2;rw[gq h]at g1 g2;have key:∀{j c},(if j=i then some {b with cells:=cs,stp:=st.ct,sh:=false}else bL st.bx j)=some c->c.ok=true->∃c',bL st.bx j=some c'/\c'.ok=true:=fun{j c} g hc=>by
   split at g
   ·rename_i e;subst e;exact⟨b,h,ho⟩
   ·exact⟨c,g,hc⟩
  obtain⟨c1,e1,e2⟩:=key g1 g3;obtain⟨c2,f1,f2⟩:=key g2 g4;exact hR.ne j l c1 c2 e1 f1 e2 f2 qd
 ·show Only ((bif b.blk.isSome&&!st.dt.elem i then i::st.dt else st.dt).map β) st.w0 w1;cases hb:(b.blk.isSome&&!st.dt.elem i)with
  | true=>exact hR.only.cons hO
  | false=>
   simp only[yt,Ee]at hb;rcases hb with hb | hb
   ·refine hR.only.new hO (hk.new ?_);cases hn:b.blk with
    | none=>rfl
    | some k=>rw[hn]at hb;cases hb
   ·refine hR.only.mem hO (fM.2 ⟨i,?_,rfl⟩);simpa using hb
structure Flg (l l':List fH):Prop where
 fw:∀i b,bL l' i=some b->∃c,bL l i=some c/\c.blk=b.blk/\c.ty=b.ty/\c.cells=b.cells/\c.stp=b.stp/\c.ok=b.ok
 bw:∀i b,bL l i=some b->∃c,bL l' i=some c/\c.ty=b.ty/\c.ok=b.ok/\∀k,b.blk=some k->c.blk=some k
theorem Flg.refl (l:List fH):Flg l l:=⟨fun i b h=>⟨b,h,rfl,rfl,rfl,rfl,rfl⟩,Kx⟩
theorem Flg.trans {l m n:List fH} (h:Flg l m) (k:Flg m n):Flg l n:=⟨fun i b hb=>by
 obtain⟨c,c1,c2,c3,c4,c5,c6⟩:=k.fw i b hb;obtain⟨d,d1,d2,d3,d4,d5,d6⟩:=h.fw i c c1;exact⟨d,d1,d2.trans c2,d3.trans c3,d4.trans c4,d5.trans c5,d6.trans c6⟩,fun i b hb=>by
 obtain⟨c,c1,c2,c3,c4⟩:=h.bw i b hb;obtain⟨d,d1,d2,d3,d4⟩:=k.bw i c c1;exact⟨d,d1,d2.trans c2,d3.trans c3,fun m hm=>d4 m (c4 m hm)⟩⟩
theorem Ext.flg {l':List fH} (h:Flg st.bx l'):Ext st {st with bx:=l'}:=⟨rfl,aq _,fun _ _ _ h _=>h,fun i b' hb ho _=>by
 obtain⟨c,c1,c2,c3,c4,c5,c6⟩:=h.fw i b' hb;exact⟨c,c1,c6.trans ho,c4,c3,c5,fun k hk=>by rw[<-c2];exact hk⟩,h.bw,BE⟩
theorem Rep.flg {l':List fH} (hR:Rep β st a w) (h:Flg st.bx l'):Rep β {st with bx:=l'} a w:=by
 refine⟨hR.fr,fun i b hb ho=>?_,fun i j bi bj g1 g2 g3 g4 qd=>?_,hR.only,hR.still⟩
 ·obtain⟨c,c1,c2,c3,c4,c5,c6⟩:=h.fw i b hb;obtain⟨k1,k2,k3⟩:=hR.bx i c c1 (c6.trans ho);exact⟨by rw[<-c3,<-c4];exact k1,fun k hk=>k2 k (c2.trans hk),fun hk=>k3 (c2.trans hk)⟩
 ·obtain⟨c,c1,_,_,_,_,c6⟩:=h.fw i bi g1;obtain⟨d,d1,_,_,_,_,d6⟩:=h.fw j bj g2;exact hR.ne i j c d c1 d1 (c6.trans g3) (d6.trans g4) qd
def Rq:SV->List Nat
 | .box i _=>[i]
 | .fn _ fs cs=>Rq fs++Rq cs
 | .agg l=>Rq l
 | .tup l=>Rq l
 | .c h t=>Rq h++Rq t
 | _=>[]
def IH:Nat->List Nat->List fH->List fH
 | 0,_,bx=>bx
 | _+1,[],bx=>bx
 | f+1,i::r,bx=>match bL bx i with
  | some b=>bif b.esc then IH f r bx else IH f (flat Rq b.cells++r) (yB bx i {b with esc:=true,sh:=false})
  | none=>IH f r bx
theorem pi:∀(f:Nat) (l:List Nat) (bx:List fH),Flg bx (IH f l bx)
 | 0,_,bx=>Flg.refl _
 | _+1,[],bx=>Flg.refl _
 | f+1,i::r,bx=>by
  unfold IH;split
  ·rename_i b hb;cases he:b.esc with
   | true=>exact pi f r bx
   | false=>
    refine Flg.trans ⟨fun j c hc=>?_,fun j c hc=>?_⟩ (pi f _ _);rotate_left
    ·rw[gq hb];split
     ·rename_i e;subst e;rw[hb]at hc;simp only[ai]at hc;subst hc;exact⟨_,rfl,rfl,rfl,fun _ h=>h⟩
     ·exact⟨c,hc,rfl,rfl,fun _ h=>h⟩
    rw[gq hb]at hc;split at hc
    ·rename_i e;subst e;simp only[ai]at hc;subst hc;exact⟨b,hb,rfl,rfl,rfl,rfl,rfl⟩
    ·exact⟨c,hc,rfl,rfl,rfl,rfl,rfl⟩
  ·exact pi f r bx
def St.esc (st:St) (l:List SV):St:={st with bx:=IH 1000 (flat Rq l) st.bx}
theorem Ext.esc (st:St) (l:List SV):Ext st (st.esc l):=Ext.flg (pi _ _ _)
theorem Rep.esc (hR:Rep β st a w) (l:List SV):Rep β (st.esc l) a w:=hR.flg (pi _ _ _)
end
end Go.Kt.V
