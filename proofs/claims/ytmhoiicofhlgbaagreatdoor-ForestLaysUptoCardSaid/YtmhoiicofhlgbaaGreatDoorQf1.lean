import Derived.WalkKit
import Derived.Deep.Draws
import Derived.Deep.LoopGhost
import Derived.Deep.Quiet
import Derived.OrdersHeld
import Derived.Laws.Small
import Derived.Laws.AppendOwn
import Derived.Great.BuildSlice
import Derived.Laws.MakeOwn
import Derived.MapKept
import Derived.Lib.Strings
import Derived.KernelRfl
import Derived.ChangeKeysEq
import Derived.Laws.Tables
import Derived.Defers
import Derived.Test.YtmhoiicofhlgbaaGreatDoorRows
import Derived.Test.YtmhoiicofhlgbaaGreatDoorProg
import Derived.Lib.ParseIntB
import Derived.Lib.Bytealg
import Derived.Lib.ItoaLen
import Derived.Lib.AtoiErrMem
import Derived.Lib.Builder
import Derived.Lib.AppendStr
import Derived.Lib.UnsafeStr
import Derived.Lib.Join
import Derived.Lib.Repeat
import Derived.Laws.CopyRow
import Derived.WideKeyElems
import Derived.Sort.KeysCollected
import Derived.ProofKit
import Derived.OpenShut
import Derived.SizedLaws
import Derived.Deep.Slices
import Derived.JoinedCond
import Derived.Deep.CondSized
set_option linter.defProp false
def aN:=@List.length_append
def aO:=@List.mem_singleton
def aP:=@Bool.and_eq_true
def aQ:=@of_decide_eq_true
def aR:=@List.length_cons
def aU:=@of_decide_eq_false
def aV:=@Option.some.injEq
def aW:=@Nat.le_refl
def aX:=@Int.toNat_natCast
def aY:=@List.mem_cons
def aZ:=@List.length_nil
def ba:=@Int.natCast_nonneg
def bc:=@List.getElem?_eq_some_iff
def bd:=@Nat.zero_le
def be:=@List.append_assoc
def bf:=@List.not_mem_nil
def bg:=@List.length_singleton
def bh:=@Nat.le_trans
def bn:=@decide_eq_false
def bp:=@List.eq_nil_of_length_eq_zero
def br:=@List.mem_of_getElem?
def bA:=@decide_eq_true_eq
def bB:=@List.take_add_one
def bC:=@Decidable.byContradiction
def bD:=@Nat.zero_add
def bE:=@List.map_cons
def bF:=@decide_eq_true
def bG:=@List.getElem?_eq_getElem
def bH:=@List.take_of_length_le
def bI:=@Bool.eq_iff_iff
def bJ:=@List.getElem?_append_left
def bK:=@congrArg
def bL:=@List.append_nil
def bM:=@Nat.eq_of_beq_eq_true
def bP:=@List.getElem?_cons_zero
def bT:=@Bool.true_and
def bX:=@List.length_drop
def bZ:=@List.length_map
def cb:=@or_false
def cf:=@List.getElem?_append_right
def ci:=@List.nil_append
def ck:=@List.sum_cons
def cq:=@Bool.or_eq_true
def cr:=@List.cons_append
def cx:=@Bool.not_eq_true'
def cD:=@Nat.lt_of_lt_of_le
def cH:=@List.mem_append
def cJ:=@List.flatten_cons
def cK:=@List.getElem?_eq_none
def cP:=@List.length_take
def cR:=@Bool.and_true
def cV:=@Option.map_some
def cW:=@List.getElem?_cons_succ
def cX:=@List.getElem?_map
def da:=@List.takeWhile_cons
def dc:=@List.mem_cons_of_mem
def de:=@Nat.le_of_ble_eq_true
def dk:=@Prod.mk.injEq
def dr:=@List.take_zero
def du:=@Bool.false_and
def dy:=@List.drop_of_length_le
def dz:=@beq_iff_eq
def dE:=@Nat.add_sub_cancel_left
def dF:=@List.map_append
def dG:=@Except.ok.injEq
def dN:=@List.mem_cons_self
def dT:=@List.all_eq_true
def dU:=@Nat.mul_le_mul_right
def ei:=@List.contains_iff_mem
def eo:=@List.singleton_append
def eJ:=@Nat.add_mul
def eK:=@Bool.or_eq_false_iff
def eP:=@Option.map_eq_some_iff
def eW:=@List.filter_nil
def fe:=@Nat.add_assoc
def fg:=@List.take_append_drop
def fi:=@Option.toList_some
def fp:=@Nat.add_zero
def ft:=@Array.getElem?_eq_none
def fC:=@List.take_succ_cons
def fD:=@List.toList_toArray
def fI:=@cond_true
def fJ:=@Option.isSome_iff_exists
def fK:=@List.drop_zero
def fR:=@Bool.false_eq_true
def fS:=@List.getElem?_drop
def fU:=@decide_eq_false_iff_not
def fV:=@List.take_length
def gr:=@Bool.eq_false_iff
def gu:=@Bool.and_false
def gw:=@Int.toNat_of_nonneg
def gx:=@List.head?_cons
def gF:=@List.drop_eq_getElem_cons
def gN:=@Option.getD_some
def gP:=@Bool.not_eq_false'
def gW:=@List.map_nil
def iH:=@List.map_map
def iI:=@List.sum_nil
def iL:=@Nat.le_succ
def iM:=@Int.le_refl
def jb:=@if_false
def jc:=@List.drop_drop
def jz:=@List.all_append
def jG:=@List.getElem?_of_mem
def jH:=@Nat.add_comm
def jN:=@List.all_cons
def jZ:=@Nat.add_le_add
def kC:=@Nat.lt_or_ge
def kD:=@Nat.zero_mul
def kF:=@List.mem_map
def kH:=@decide_eq_true_iff
def lp:=@List.size_toArray
def lK:=@Array.getElem?_eq_some_iff
def lM:=@List.elem_cons
def mz:=@Option.bind_some
def mA:=@Bool.or_true
def mB:=@Nat.sub_self
def mL:=@Array.length_toList
def mM:=@List.drop_succ_cons
def nD:=@List.length_set
def nT:=@List.getElem?_take
def nU:=@cond_false
def nV:=@List.filter_append
def oH:=@List.ext_getElem?
def pz:=@Array.getElem?_setIfInBounds_ne
def pF:=@List.set_append_right
def pG:=@List.getElem?_toArray
def pH:=@List.take_eq_take_iff
def pI:=@Bool.and_eq_false_iff
def qo:=@List.map_toArray
def qt:=@List.map_take
def qu:=@List.map_drop
def rz:=@Option.map_none
def rA:=@List.headD_cons
def rB:=@List.cons.injEq
def rC:=@List.map_congr_left
def rD:=@List.length_pos_iff
def sQ:=@Nat.sub_zero
def ua:=@List.set_cons_zero
def ub:=@Bool.and_assoc
def uT:=@Nat.mul_one
def uU:=@Decidable.not_not
def uV:=@List.foldl_append
def uW:=@Nat.lt_succ_of_le
def uX:=@List.all_eq_false
def vZ:=@Bool.false_or
def xf:=@Nat.le_max_right
def xh:=@List.filter_cons
def xi:=@Bool.not_eq_true
def xY:=@Bool.not_and
def yG:=@Nat.le_max_left
def AD:=@Array.getElem?_modify
def A7:=@Bool.not_false
def DP:=@List.flatten_append
def DQ:=@beq_eq_false_iff_ne
def Io:=@Nat.le_of_eq
def Ip:=@Bool.true_or
def Ma:=@Nat.le_of_not_lt
def Mb:=@Array.toList_inj
def Mc:=@decide_eq_decide
def Md:=@List.flatten_nil
def Me:=@Nat.succ_le_succ
def Mf:=@Nat.lt_succ_self
def Mg:=@beq_self_eq_true
def Mh:=@List.map_id
def MH:=@List.take_append_of_le_length
def QS:=@UInt8.toNat_inj
def QT:=@List.sum_append
def QU:=@Nat.not_lt_zero
def Ru:=@List.take_length_add_append
def Rv:=@List.drop_length_add_append
abbrev asH(w v:Go.World)(k:Nat)(p:Prop):Prop:=w.heap.size<=k->k<v.heap.size->p
abbrev aG:=Go.Value->Go.World->Prop
abbrev aH:=List UInt8
abbrev aI:=List Go.Value
abbrev aJ:=Nat->Prop
abbrev aK:=ByteArray
set_option linter.unusedSectionVars false
namespace Go.Kt
open Go renaming World->av,Value->aw
open Go Go.RowKit
set_option linter.unusedSimpArgs false
set_option linter.unusedVariables false
structure Sl where
 a:Option Addr
 n:Nat
 c:Nat
@[reducible] def Sl.v(s:Sl):aw:=.slice s.a s.n s.c
@[reducible] def Sl.nil:Sl:=⟨none,0,0⟩
def Sl.cut(s:Sl)(l h m size:Nat):Sl:=⟨if m=l then s.a else s.a.map (·.add (l*size)),h-l,m-l⟩
def dl(s:Sl)(i:Int)(size:Nat)(ad:Addr):Prop:=∃base,s.a=some base/\0<=i/\i<s.n/\ad=base.add (i.toNat*size)
structure Only (bs:List Nat) (w w':av):Prop where
 os:w'.os=w.os
 tape:w'.tape=w.tape
 output:w'.output=w.output
 size:w.heap.size<=w'.heap.size
 block:∀k,k<w.heap.size->k∉bs->w'.heap[k]? =w.heap[k]?
def Blk(w:av)(b:Nat)(t:TypeId)(cs:List aw):Prop:=w.heap[b]? =some (.cells cs.toArray t (0,0))
def Cells(w:av)(a:Addr)(cs:List aw):Prop:=∀j v,cs[j]? =some v->w.cell? (a.add j)=some v
def bS(bs:List Nat)(w w':av):Prop:=∀b,b∈bs->w'.heap[b]? =w.heap[b]?
def fW(b:UInt8):aw:=.int .u8 (b.toNat:Int)
def qW(w:av)(s:Sl)(l:List UInt8):Prop:=s.n=l.length/\(l≠[]->∃ad,s.a=some ad/\Cells w ad (l.map fW))
def Sl.blk(s:Sl):Nat:=match s.a with | some a=>a.block | none=>0
def ca(cs:List aw)(o:Nat)(vs:List aw):List aw:=cs.take o++vs++cs.drop (o+vs.length)
section
variable {w w' rn:av} {bs bs':List Nat} {b:Nat} {t:TypeId} {cs:List aw}
theorem Blk.lt(h:Blk w b t cs):b<w.heap.size:=(lK.1 h).1
theorem Only.refl(bs:List Nat)(w:av):Only bs w w:=⟨rfl,rfl,rfl,aW _,fun _ _ _=>rfl⟩
theorem Only.weaken(h:Only bs w w')(hb:∀x,x∈bs->x∈bs'∨w.heap.size<=x):Only bs' w w':=
 ⟨h.os,h.tape,h.output,h.size,fun k hk hn=>h.block k hk fun hm=>by
  rcases hb k hm with h1 | h1
  ·exact hn h1
  ·omega⟩
theorem Only.trans(h:Only bs w w')(k:Only bs' w' rn)(hb:∀x,x∈bs'->x∈bs∨w.heap.size<=x):Only bs w rn:=
 ⟨k.os.trans h.os,k.tape.trans h.tape,k.output.trans h.output,bh h.size k.size,fun i hi hn=>
  (k.block i (cD hi h.size) fun hm=>by
   rcases hb i hm with h1 | h1
   ·exact hn h1
   ·omega).trans (h.block i hi hn)⟩
theorem Only.cd(h:Only bs w w')(k:Only [] w' rn):Only bs w rn:=h.trans k (by simp)
theorem Only.cons(h:Only bs w w')(k:Only [b] w' rn):Only (b::bs) w rn:=
 (h.weaken (bs':=b::bs) fun _ hx=>.inl (dc _ hx)).trans k fun x hx=>.inl (by simp only[aO]at hx;simp[hx])
theorem Only.mem(h:Only bs w w')(k:Only [b] w' rn)(hb:b∈bs):Only bs w rn:=h.trans k fun x hx=>.inl (by simp only[aO]at hx;simpa[hx]using hb)
theorem Only.new(h:Only bs w w')(k:Only [b] w' rn)(hb:w.heap.size<=b):Only bs w rn:=h.trans k fun x hx=>.inr (by simp only[aO]at hx;simpa[hx]using hb)
theorem Only.blk(h:Only bs w w')(hb:Blk w b t cs)(hn:b∉bs):Blk w' b t cs:=(h.block b hb.lt hn).trans hb
theorem Only.below(h:Only bs w w'){B:Nat}(hB:B<=w.heap.size)(hb:∀x,x∈bs->B<=x):Below B w w':=
 ⟨h.os,h.tape,h.output,h.size,fun k hk=>h.block k (by omega) fun hm=>by have:=hb k hm;omega⟩
theorem Only.vS(h:Below w.heap.size w w'):Only [] w w':=⟨h.os,h.tape,h.output,h.size,fun k hk _=>h.block k hk⟩
theorem Only.drew(w:av):Only [] w w.drew:=⟨rfl,rfl,rfl,aW _,fun _ _ _=>rfl⟩
theorem Only.drewN(w:av)(n:Nat):Only [] w (w.drewN n):=⟨rfl,rfl,rfl,aW _,fun _ _ _=>rfl⟩
theorem Only.alloc(w:av)(o:Obj):Only [] w (w.alloc o):=⟨rfl,rfl,rfl,by simp,fun k hk _=>_root_.Go.heap_alloc_old w o hk⟩
theorem Only.setRow(w:av)(b:Nat)(cs:Array aw):Only [b] w (w.setRow b cs):=⟨rfl,rfl,rfl,by simp,fun k _ hn=>setRow_other w b k cs (by simpa using hn)⟩
theorem Only.same(h:Only bs w w')(hl:∀x,x∈bs'->x<w.heap.size/\x∉bs):bS bs' w w':=fun x hx=>h.block x (hl x hx).1 (hl x hx).2
theorem Blk.alloc(w:av)(t:TypeId)(cs:List aw):Blk (w.alloc (.cells cs.toArray t)) w.heap.size t cs:=heap_alloc_new w _
theorem Blk.setRow(h:Blk w b t cs)(wU:List aw):Blk (w.setRow b wU.toArray) b t wU:=setRow_heap w b _ _ t _ h
theorem Blk.cell(h:Blk w b t cs)(i:Nat):w.cell? ⟨b,i,none⟩=cs[i]? :=by rw[cell_of_row w b i cs.toArray t (0,0) h];simp
theorem Blk.cells(h:Blk w b t cs)(o:Nat)(vs:List aw)(hv:∀j v,vs[j]? =some v->cs[o+j]? =some v):Cells w ⟨b,o,none⟩ vs:=fun j v hj=>by
 have ahU:(⟨b,o,none⟩:Addr).add j=⟨b,o+j,none⟩:=by unfold Addr.add;split<;>simp_all
 rw[ahU,h.cell];exact hv j v hj
theorem Blk.Dt(h:Blk w b t cs)(o:Nat)(vs:List aw)(hv:(cs.drop o).take vs.length=vs):Cells w ⟨b,o,none⟩ vs:=h.cells o vs fun j v hj=>by
 rw[<-hv,nT]at hj;split at hj
 ·simpa using hj
 ·cases hj
theorem Cells.one{a:Addr}{v:aw}(h:Cells w a [v]):w.cell? a=some v:=by have:=h 0 v rfl;simpa[Addr.add]using this
theorem Cells.keep{a:Addr}(h:Cells w a cs)(hk:w'.heap[a.block]? =w.heap[a.block]?):Cells w' a cs:=fun j v hj=>by
 rw[World.cell?_of_block (w:=w) (w':=w') (a:=a.add j)]
 ·exact h j v hj
 ·have:(a.add j).block=a.block:=by unfold Addr.add;split<;>rfl
  rw[this,hk]
theorem Cells.lt'{a:Addr}(h:Cells w a cs)(hc:cs≠[]):a.block<w.heap.size:=by
 cases cs with
 | nil=>exact absurd rfl hc
 | cons v cs=>
  have h2:=block_lt_of_cell (h 0 v rfl);have e:(a.add 0).block=a.block:=rfl;omega
theorem Cells.lt{a:Addr}{v:aw}(h:Cells w a (v::cs)):a.block<w.heap.size:=by
 have:=h 0 v rfl;have h2:=block_lt_of_cell this;have e:(a.add 0).block=a.block:=rfl;omega
end
section
variable {P:Program} {ops:Array Oper} {Q:Exit->Act->av->Prop} {rest:List Oper} {a a':Act} {w w':av}
theorem f0(l:List aw)(ds:List Deferred)(k:Nat)(v:aw):Act.put ⟨l.toArray,ds⟩ (some k) v=⟨(l.set k v).toArray,ds⟩:=by simp[Act.put]
theorem f1(x:aw)(l:List aw)(v:aw):(x::l).set 0 v=v::l:=rfl
theorem f3(a:Act)(v:aw):a.put none v=a:=rfl
theorem f2(x:aw)(l:List aw)(k:Nat)(v:aw):(x::l).set (k+1) v=x::l.set k v:=rfl
def gH:List Oper->Nat->Option Oper
 | [],_=>none
 | v::_,0=>some v
 | _::r,n+1=>gH r n
theorem jI:∀(l:List Oper) (n:Nat),gH l n=l[n]?
 | [],_=>rfl
 | _::_,0=>rfl
 | _::r,n+1=>jI r n
def Rw:List aw->Nat->Option aw
 | [],_=>none
 | v::_,0=>some v
 | _::r,n+1=>Rw r n
theorem B5:∀(l:List aw) (n:Nat),Rw l n=l[n]?
 | [],_=>rfl
 | _::_,0=>rfl
 | _::r,n+1=>B5 r n
theorem wt{o oj:Oper}{dP:List Oper}{l:List aw}{ds:List Deferred}{j d:Nat}{want b r:Bool}(h1:o.guard=some (j,want))(h2:gH dP j=some oj)(h3:oj.dst=some d)
  (h4:Rw l d=some (.bool b)) (h5:(b==want)=r):Region.wanted o (yielded dP.toArray (⟨l.toArray,ds⟩:Act).tmps)=r:=by
 subst h5;rw[jI]at h2;rw[B5]at h4;have e:yielded dP.toArray (⟨l.toArray,ds⟩:Act).tmps j=some b:=by simp[yielded,h2,h3,h4]
 simp only[Region.wanted,h1,e];cases b<;>cases want<;>rfl
theorem wu{o oj:Oper}{dP:List Oper}{l:List aw}{ds:List Deferred}{j d:Nat}{want:Bool}(h1:o.guard=some (j,want))(h2:gH dP j=some oj)(h3:oj.dst=some d)
  (h4:Rw l d=some undef):Region.wanted o (yielded dP.toArray (⟨l.toArray,ds⟩:Act).tmps)=false:=by
 rw[jI]at h2;rw[B5]at h4;have e:yielded dP.toArray (⟨l.toArray,ds⟩:Act).tmps j=none:=by simp[yielded,h2,h3,h4,undef]
 simp[Region.wanted,h1,e]
theorem wn{o:Oper}{f:Nat->Option Bool}(h:o.guard=none):Region.wanted o f=true:=by simp[Region.wanted,h]
theorem GF{o:Oper}(v:aw)(hg:Region.wanted o (yielded ops a.tmps)=true)
  (hr:(execOp a.eval o).run P w=.ok (.value v) w') (ha:a.put o.dst v=a') (h:wpList P ops Q rest a' w'):wpList P ops Q (o::rest) a w:=by
 subst ha;unfold wpList;rw[if_pos hg];refine .inl ?_;unfold Oper.wp;rw[hr];exact h
theorem TS{o:Oper}(hg:Region.wanted o (yielded ops a.tmps)=false)(ha:a.put o.dst undef=a')(h:wpList P ops Q rest a' w):wpList P ops Q (o::rest) a w:=by
 subst ha;unfold wpList;rw[if_neg (by simp[hg])];exact h
theorem B6{dst:Option Tmp}{ty:TypeId}{x:Operand}{t':TypeId}{p:String}{af:Array Edge}{g:Option (Nat×Bool)}{ad:Addr}{v:aw}
  (HR:(isAgg ty).run P w=.ok false w) (hx:a.eval x=.pointer (some ad)) (hc:w.cell? ad=some v):
  (execOp a.eval ⟨dst,.load ty x,t',p,af,g⟩).run P w=.ok (.value v) w:=by
 simp only[execOp,hx,Instr.loadAt,Instr.sureAddr,Sem.run_bind,Sem.run_pure,Result.andThen_ok,loadVar,HR,fR,jb,run_load,hc]
theorem sR{dst:Option Tmp}{ty:TypeId}{x:Operand}{t':TypeId}{p:String}{af:Array Edge}{g:Option (Nat×Bool)}{ad:Addr}{cs:List aw}{n:Nat}
  (HR:(isAgg ty).run P w=.ok true w) (hsz:(sizeOf ty).run P w=.ok n w) (hn:cs.length=n) (hx:a.eval x=.pointer (some ad)) (hc:Cells w ad cs):
  (execOp a.eval ⟨dst,.load ty x,t',p,af,g⟩).run P w=.ok (.value (.agg cs.toArray)) w:=by
 have hl:=run_loadCells_list (P:=P) w ad cs hc;rw[hn]at hl;simp only[execOp,hx,Instr.loadAt,Instr.sureAddr,Sem.run_bind,Sem.run_pure,Result.andThen_ok,loadVar,HR,if_true,hsz,hl]
theorem Rx{dst:Option Tmp}{ty:TypeId}{x y:Operand}{t':TypeId}{p:String}{af:Array Edge}{g:Option (Nat×Bool)}{b o:Nat}{cs vs:List aw}{et:TypeId}{n:Nat}
  (hsz:(sizeOf ty).run P w=.ok n w) (hx:a.eval x=.pointer (some ⟨b,o,none⟩)) (hv:(a.eval y).cells=vs.toArray) (hn:vs.length=n)
  (h1:∀v∈vs,v.oneCell'=true) (hb:Blk w b et cs) (HS:o+vs.length<=cs.length):
  (execOp a.eval ⟨dst,.store ty x y,t',p,af,g⟩).run P w=.ok .skip (w.setRow b (ca cs o vs).toArray):=by
 have lj:=run_storeCells_at P b o et vs 0 cs.toArray w hb (by simpa using HS) h1;simp only[execOp,hx,Instr.storeAt,Instr.sureAddr,Sem.run_bind,Sem.run_pure,Result.andThen_ok,storeVar,hsz,hv,lp,hn,ne_eq,not_true_eq_false,jb,lj,ca,fp]
theorem Ry{dst:Option Tmp}{ty:TypeId}{t':TypeId}{p:String}{af:Array Edge}{g:Option (Nat×Bool)}{z:aw}{zs:List aw}
  (hz:(zeroValue ty).run P w=.ok z w) (hc:z.cells=zs.toArray):
  (execOp a.eval ⟨dst,.alloc ty,t',p,af,g⟩).run P w=.ok (.value (.pointer (some ⟨w.heap.size,0,none⟩))) (w.alloc (.cells zs.toArray ty)):=by
 simp only[execOp,Instr.alloc,Sem.run_bind,hz,Result.andThen_ok,newVar,newRow,newObj,hc,Sem.run,Sem.run_pure];rfl
theorem ZG{dst:Option Tmp}{ty:TypeId}{x:Operand}{t':TypeId}{p:String}{af:Array Edge}{g:Option (Nat×Bool)}{zs:List aw}
  (hc:(a.eval x).cells=zs.toArray):
  (execOp a.eval ⟨dst,.box ty x,t',p,af,g⟩).run P w=.ok (.value (.pointer (some ⟨w.heap.size,0,none⟩))) (w.alloc (.cells zs.toArray ty)):=by
 simp only[execOp,Instr.box,Sem.run_bind,Result.andThen_ok,newVar,newRow,newObj,hc,Sem.run,Sem.run_pure];rfl
theorem MJ{dst:Option Tmp}{x:Operand}{t':TypeId}{p:String}{af:Array Edge}{g:Option (Nat×Bool)}{ad:Addr}(hx:a.eval x=.pointer (some ad)):
  (execOp a.eval ⟨dst,.nilCheck x,t',p,af,g⟩).run P w=.ok (.value (.pointer (some ad))) w:=by
 simp only[execOp,hx,Sem.run_pure]
theorem Iq{dst:Option Tmp}{s:TypeId}{x:Operand}{k:Nat}{t':TypeId}{p:String}{af:Array Edge}{g:Option (Nat×Bool)}{ad F3:Addr}{fs:Array Field}{f:Field}{n:Nat}
  (hu:(underlying s).run P w=.ok (.struct fs) w) (hf:fs[k]? =some f) (hsz:(sizeOf f.type).run P w=.ok (n+1) w) (hx:a.eval x=.pointer (some ad)) (he:ad.add f.offset=F3):
  (execOp a.eval ⟨dst,.fieldAddr s x k,t',p,af,g⟩).run P w=.ok (.value (.pointer (some F3))) w:=by
 subst he;simp[execOp,hx,Instr.fieldAt,Instr.sureAddr,hu,hf,fieldPlace,hsz]
theorem Rz{dst:Option Tmp}{c x y:Operand}{t':TypeId}{p:String}{af:Array Edge}{g:Option (Nat×Bool)}{v:aw}(hc:a.eval c=.bool true)(hv:a.eval x=v):
  (execOp a.eval ⟨dst,.pick c x y,t',p,af,g⟩).run P w=.ok (.value v) w:=by
 subst hv;simp[execOp,hc,asBool]
theorem RA{dst:Option Tmp}{c x y:Operand}{t':TypeId}{p:String}{af:Array Edge}{g:Option (Nat×Bool)}{v:aw}(hc:a.eval c=.bool false)(hv:a.eval y=v):
  (execOp a.eval ⟨dst,.pick c x y,t',p,af,g⟩).run P w=.ok (.value v) w:=by
 subst hv;simp[execOp,hc,asBool]
theorem RB{dst:Option Tmp}{t:TypeId}{ps:List (Nat×Operand)}{t':TypeId}{p:String}{af:Array Edge}{g:Option (Nat×Bool)}{ps':List (Nat×aw)}{v:aw}
  (hp:(ps.map fun q=>(q.1,a.eval q.2))=ps') (hr:(Instr.build t ps'.toArray).run P w=.ok v w):
  (execOp a.eval ⟨dst,.build t ps.toArray,t',p,af,g⟩).run P w=.ok (.value v) w:=by
 subst hp;simp only[execOp,qo,Sem.run_bind,hr,Result.andThen_ok,Sem.run_pure]
theorem ML{dst:Option Tmp}{t e:TypeId}{x i:Operand}{t':TypeId}{p:String}{af:Array Edge}{g:Option (Nat×Bool)}{s:Sl}{k:IntKind}{n:Int}{ad:Addr}{sz:Nat}
  (hu:(underlying t).run P w=.ok (.slice e) w) (hsz:(sizeOf e).run P w=.ok sz w) (hx:a.eval x=s.v) (hi:a.eval i=.int k n) (cO:dl s n sz ad):
  (execOp a.eval ⟨dst,.indexAddr t x i,t',p,af,g⟩).run P w=.ok (.value (.pointer (some ad))) w:=by
 obtain⟨base,hb,h0,h1,rfl⟩:=cO;simp[execOp,hx,hi,Instr.indexAt,asIntOf,hu,hsz,hb,h0,h1]
theorem uY{dst:Option Tmp}{t e:TypeId}{x i:Operand}{t':TypeId}{p:String}{af:Array Edge}{g:Option (Nat×Bool)}{len:Nat}{k:IntKind}{n:Int}{ad F3:Addr}{sz:Nat}
  (hu:(underlying t).run P w=.ok (.array len e) w) (hsz:(sizeOf e).run P w=.ok sz w) (hx:a.eval x=.pointer (some ad)) (hi:a.eval i=.int k n) (h0:0<=n) (h1:n<len) (he:ad.add (n.toNat*sz)=F3):
  (execOp a.eval ⟨dst,.indexAddr t x i,t',p,af,g⟩).run P w=.ok (.value (.pointer (some F3))) w:=by
 subst he;simp[execOp,hx,hi,Instr.indexAt,asIntOf,hu,hsz,h0,h1,Instr.sureAddr]
theorem lS{b:Builtin}{s:Sem aw}{dst:Option Tmp}{xs:List Operand}{ts:Array TypeId}{t':TypeId}{p:String}{af:Array Edge}{g:Option (Nat×Bool)}{v:aw}
  (hb:∀WU,builtin b ts t' WU (xs.map a.eval).toArray=(do pure (.value (<-s)))) (hr:s.run P w=.ok v w'):
  (execOp a.eval ⟨dst,.call ⟨.builtin b,xs.toArray,ts⟩,t',p,af,g⟩).run P w=.ok (.value v) w':=by
 simp only[execOp,resolve,Sem.run_bind,Sem.run_pure,Result.andThen_ok,invoke,qo];rw[hb];simp only[Sem.run_bind,Sem.run_pure,hr,Result.andThen_ok]
theorem wj{dst:Option Tmp}{xs:List Operand}{ts:Array TypeId}{t':TypeId}{p:String}{af:Array Edge}{g:Option (Nat×Bool)}{v:aw}{vs:List aw}(hx:xs.map a.eval=vs)
  (hr:(Builtin.append_ ts t' vs.toArray).run P w=.ok v w'):(execOp a.eval ⟨dst,.call ⟨.builtin .append,xs.toArray,ts⟩,t',p,af,g⟩).run P w=.ok (.value v) w':=by
 subst hx;exact lS (fun _=>rfl) hr
theorem yH{dst:Option Tmp}{xs:List Operand}{ts:Array TypeId}{t':TypeId}{p:String}{af:Array Edge}{g:Option (Nat×Bool)}{v:aw}{vs:List aw}(hx:xs.map a.eval=vs)
  (hr:(Builtin.copy_ ts t' vs.toArray).run P w=.ok v w'):(execOp a.eval ⟨dst,.call ⟨.builtin .copy,xs.toArray,ts⟩,t',p,af,g⟩).run P w=.ok (.value v) w':=by
 subst hx;exact lS (fun _=>rfl) hr
theorem wk{dst:Option Tmp}{xs:List Operand}{ts:Array TypeId}{t':TypeId}{p:String}{af:Array Edge}{g:Option (Nat×Bool)}{v:aw}{vs:List aw}(hx:xs.map a.eval=vs)
  (hr:(Builtin.delete_ ts t' vs.toArray).run P w=.ok v w'):(execOp a.eval ⟨dst,.call ⟨.builtin .delete,xs.toArray,ts⟩,t',p,af,g⟩).run P w=.ok (.value v) w':=by
 subst hx;exact lS (fun _=>rfl) hr
theorem xG{dst:Option Tmp}{xs:List Operand}{ts:Array TypeId}{t':TypeId}{p:String}{af:Array Edge}{g:Option (Nat×Bool)}{v:aw}{vs:List aw}(hx:xs.map a.eval=vs)
  (hr:(Builtin.clear_ ts t' vs.toArray).run P w=.ok v w'):(execOp a.eval ⟨dst,.call ⟨.builtin .clear,xs.toArray,ts⟩,t',p,af,g⟩).run P w=.ok (.value v) w':=by
 subst hx;exact lS (fun _=>rfl) hr
theorem AG{dst:Option Tmp}{xs:List Operand}{ts:Array TypeId}{t':TypeId}{p:String}{af:Array Edge}{g:Option (Nat×Bool)}{v:aw}{vs:List aw}(hx:xs.map a.eval=vs)
  (hr:(Builtin.len_ ts t' vs.toArray).run P w=.ok v w'):(execOp a.eval ⟨dst,.call ⟨.builtin .len,xs.toArray,ts⟩,t',p,af,g⟩).run P w=.ok (.value v) w':=by
 subst hx;exact lS (fun _=>rfl) hr
section
variable {dst:Option Tmp} {x y z:Operand} {t t2:TypeId} {t':TypeId} {p:String} {af:Array Edge} {g:Option (Nat×Bool)} {u v vx vy vz:aw}
theorem B7{n:Nat}{ps:List (Nat×Operand)}{ps':List (Nat×aw)}(hp:(ps.map fun q=>(q.1,a.eval q.2))=ps')(hr:(Instr.buildSlice t n ps'.toArray).run P w=.ok v w'):
  (execOp a.eval ⟨dst,.buildSlice t n ps.toArray,t',p,af,g⟩).run P w=.ok (.value v) w':=by
 subst hp;simp only[execOp,qo,Sem.run_bind,hr,Result.andThen_ok,Sem.run_pure]
theorem D1(hx:a.eval x=vx)(hy:a.eval y=vy)(hr:(Instr.makeSlice t vx vy).run P w=.ok v w'):(execOp a.eval ⟨dst,.makeSlice t x y,t',p,af,g⟩).run P w=.ok (.value v) w':=by
 simp only[execOp,hx,hy,Sem.run_bind,hr,Result.andThen_ok,Sem.run_pure]
theorem KI(hr:(Instr.makeMap t none).run P w=.ok v w'):(execOp a.eval ⟨dst,.makeMap t none,t',p,af,g⟩).run P w=.ok (.value v) w':=by
 simp only[execOp,rz,Sem.run_bind,hr,Result.andThen_ok,Sem.run_pure]
theorem GH(hx:a.eval x=vx)(hr:(Instr.makeMap t (some vx)).run P w=.ok v w'):(execOp a.eval ⟨dst,.makeMap t (some x),t',p,af,g⟩).run P w=.ok (.value v) w':=by
 simp only[execOp,cV,hx,Sem.run_bind,hr,Result.andThen_ok,Sem.run_pure]
theorem MM{b:Bool}(hx:a.eval x=vx)(hy:a.eval y=vy)(hr:(Instr.lookup t vx vy b).run P w=.ok v w'):(execOp a.eval ⟨dst,.lookup t x y b,t',p,af,g⟩).run P w=.ok (.value v) w':=by
 simp only[execOp,hx,hy,Sem.run_bind,hr,Result.andThen_ok,Sem.run_pure]
theorem D2(hx:a.eval x=vx)(hy:a.eval y=vy)(hz:a.eval z=vz)(hr:(Instr.mapUpdate t vx vy vz).run P w=.ok () w'):(execOp a.eval ⟨dst,.mapUpdate t x y z,t',p,af,g⟩).run P w=.ok .skip w':=by
 simp only[execOp,hx,hy,hz,Sem.run_bind,hr,Result.andThen_ok,Sem.run_pure]
theorem MN(hx:a.eval x=vx)(hy:a.eval y=vy)(hz:a.eval z=vz)(hr:(Instr.mapUpdate t vx vy vz).run P w=.ok () w'):(execOp a.eval ⟨dst,.insert t x y z,t',p,af,g⟩).run P w=.ok .skip w':=by
 simp only[execOp,hx,hy,hz,Sem.run_bind,hr,Result.andThen_ok,Sem.run_pure]
theorem KJ(hx:a.eval x=vx)(hr:(convert t t2 vx).run P w=.ok v w'):(execOp a.eval ⟨dst,.convert t t2 x,t',p,af,g⟩).run P w=.ok (.value v) w':=by
 simp only[execOp,hx,Sem.run_bind,hr,Result.andThen_ok,Sem.run_pure]
end
theorem ZH{dst:Option Tmp}{t:TypeId}{e:TypeId}{x:Operand}{t':TypeId}{p:String}{af:Array Edge}{g:Option (Nat×Bool)}{s:Sl}
  (hu:(underlying t).run P w=.ok (.slice e) w) (hx:a.eval x=s.v):
  (execOp a.eval ⟨dst,.call ⟨.builtin .len,#[x],#[t]⟩,t',p,af,g⟩).run P w=.ok (.value (.int .i64 s.n)) w:=by
 simp[execOp,resolve,invoke,builtin,Builtin.len_,hu,hx,goInt]
theorem D3{dst:Option Tmp}{x:Operand}{f:FuncId}{first captured:List aw}{xs:List Operand}{ats:Array TypeId}{t':TypeId}{p:String}{af:Array Edge}{g:Option (Nat×Bool)}{args:List aw}
  (hx:a.eval x=.func (.func f) first.toArray captured.toArray)
  (hc:∀(args:Array aw) (w:av),(callFunc f args).run P w=.ok (.enter f args) w) (ha:first++xs.map a.eval++captured=args):
  (execOp a.eval ⟨dst,.call ⟨.value x,xs.toArray,ats⟩,t',p,af,g⟩).run P w=.ok (.enter f args.toArray) w:=by
 subst ha;simp only[execOp,resolve,hx,Deferred.ofValue,Sem.run_bind,Sem.run_pure,Result.andThen_ok,invoke,hc];simp
theorem lU{x:aw}{k:IntKind}{i y:Nat}{code:BoundsCode}(hx:x=.int k (i:Int))(h:i<=y):(Instr.sliceBound x y code).run P w=.ok i w:=by
 subst hx;have:(i:Int)<=(y:Int):=by omega
 simp[Instr.sliceBound,asIntOf,this]
theorem yI{dst:Option Tmp}{s d e:TypeId}{x:Operand}{t':TypeId}{p:String}{af:Array Edge}{g:Option (Nat×Bool)}{sl:Sl}{l:List UInt8}
  (hs:P.underlying s=some (.slice e)) (he:P.underlying e=some (.int .u8)) (hd:P.underlying d=some .string) (hx:a.eval x=sl.v) (hb:qW w sl l):
  (execOp a.eval ⟨dst,.convert s d x,t',p,af,g⟩).run P w=.ok (.value (.string ⟨l.toArray⟩)) w:=by
 obtain⟨hn,hc⟩:=hb;obtain⟨sa,sn,sc⟩:=sl;simp only at hn hc;subst hn;have key:(convert s d (.slice sa l.length sc)).run P w=.ok (.string ⟨l.toArray⟩) w:=by
  cases sa with
  | none=>
   have:l=[]:=Classical.byContradiction fun h=>by obtain⟨ad,h1,_⟩:=hc h;cases h1
   subst this;exact run_convert_bytes_nil w s e hs he _ _ d hd
  | some ad=>
   refine run_convert_bytes_back w s d e ad sc l hs he hd fun j hj=>?_;obtain⟨F3,h1,h2⟩:=hc (fun h=>by simp[h]at hj);injection h1 with h1;subst h1;exact h2 j _ (by simp[fW,bG hj])
 simp only[execOp,hx,Sem.run_bind,key,Result.andThen_ok,Sem.run_pure]
theorem GI{dst:Option Tmp}{fn:Fn}{fs cs:List Operand}{t':TypeId}{p:String}{af:Array Edge}{g:Option (Nat×Bool)}{fv cv:List aw}(h1:fs.map a.eval=fv)(h2:cs.map a.eval=cv):
  (execOp a.eval ⟨dst,.makeFunc fn fs.toArray cs.toArray,t',p,af,g⟩).run P w=.ok (.value (.func fn fv.toArray cv.toArray)) w:=by
 subst h1;subst h2;simp only[execOp,Instr.makeFunc,qo,Sem.run_bind,Sem.run_pure,Result.andThen_ok]
theorem ZI{dst:Option Tmp}{t ty:TypeId}{x y:Operand}{t':TypeId}{p:String}{af:Array Edge}{g:Option (Nat×Bool)}{k:IntKind}{m n:Int}(hx:a.eval x=.int k m)(hy:a.eval y=.int k n)(hn:n≠0):
  (execOp a.eval ⟨dst,.binOp .quo t x y ty,t',p,af,g⟩).run P w=.ok (.value (.int k (k.wrap (m.tdiv n)))) w:=by
 have e:binOp .quo t (.int k m) (.int k n)=Op.intDiv .quo k m n:=by simp[binOp]
 have hg:eqGuard .quo t x y (.int k m) (.int k n)=pure ():=rfl;simp only[execOp,hx,hy,hg,e,Op.intDiv,hn,jb,Sem.run_bind,Sem.run_pure,Result.andThen_ok]
theorem ZJ{dst:Option Tmp}{t ty:TypeId}{x y:Operand}{t':TypeId}{p:String}{af:Array Edge}{g:Option (Nat×Bool)}{k:IntKind}{m n:Int}(hx:a.eval x=.int k m)(hy:a.eval y=.int k n)(hn:n≠0):
  (execOp a.eval ⟨dst,.binOp .rem t x y ty,t',p,af,g⟩).run P w=.ok (.value (.int k (m.tmod n))) w:=by
 have e:binOp .rem t (.int k m) (.int k n)=Op.intDiv .rem k m n:=by simp[binOp]
 have hg:eqGuard .rem t x y (.int k m) (.int k n)=pure ():=rfl;simp only[execOp,hx,hy,hg,e,Op.intDiv,hn,jb,Sem.run_bind,Sem.run_pure,Result.andThen_ok]
theorem ZK{dst:Option Tmp}{t ty:TypeId}{x y:Operand}{t':TypeId}{p:String}{af:Array Edge}{g:Option (Nat×Bool)}{k k':IntKind}{m n:Int}(hx:a.eval x=.int k m)(hy:a.eval y=.int k' n)(hn:0<=n):
  (execOp a.eval ⟨dst,.binOp .shl t x y ty,t',p,af,g⟩).run P w=.ok (.value (.int k (k.wrap (m*2 ^ (min n.toNat k.bits))))) w:=by
 have hg:eqGuard .shl t x y (.int k m) (.int k' n)=pure ():=rfl;have e:binOp .shl t (.int k m) (.int k' n)=Op.shift .shl k m k' n:=rfl;have WV:¬n<0:=by omega
 simp only[execOp,hx,hy,hg,e,Op.shift,WV,jb,Sem.run_bind,Sem.run_pure,Result.andThen_ok]
theorem ZL{dst:Option Tmp}{t ty:TypeId}{x y:Operand}{t':TypeId}{p:String}{af:Array Edge}{g:Option (Nat×Bool)}{k k':IntKind}{m n:Int}(hx:a.eval x=.int k m)(hy:a.eval y=.int k' n)(hn:0<=n):
  (execOp a.eval ⟨dst,.binOp .shr t x y ty,t',p,af,g⟩).run P w=.ok (.value (.int k (m.fdiv (2 ^ (min n.toNat k.bits))))) w:=by
 have hg:eqGuard .shr t x y (.int k m) (.int k' n)=pure ():=rfl;have e:binOp .shr t (.int k m) (.int k' n)=Op.shift .shr k m k' n:=rfl;have WV:¬n<0:=by omega
 simp only[execOp,hx,hy,hg,e,Op.shift,WV,jb,Sem.run_bind,Sem.run_pure,Result.andThen_ok]
theorem GJ{dst:Option Tmp}{t:TypeId}{x i:Operand}{t':TypeId}{p:String}{af:Array Edge}{g:Option (Nat×Bool)}{s:ByteArray}{k:IntKind}{n:Int}{c:UInt8}
  (hu:(underlying t).run P w=.ok .string w) (hx:a.eval x=.string s) (hi:a.eval i=.int k n) (h0:0<=n) (h1:s[n.toNat]? =some c):
  (execOp a.eval ⟨dst,.index t x i,t',p,af,g⟩).run P w=.ok (.value (.int .u8 (c.toNat:Int))) w:=by
 simp only[execOp,hx,hi,Instr.index,asIntOf,hu,Sem.run_bind,Sem.run_pure,Result.andThen_ok,h0,if_true,h1]
theorem MO{dst:Option Tmp}{t ty:TypeId}{x y:Operand}{t':TypeId}{p:String}{af:Array Edge}{g:Option (Nat×Bool)}{s u:ByteArray}(hx:a.eval x=.string s)(hy:a.eval y=.string u)(hn:(s.size:Int)+u.size<=9223372036854775807):
  (execOp a.eval ⟨dst,.binOp .add t x y ty,t',p,af,g⟩).run P w=.ok (.value (.string (s++u))) w:=by
 have hg:eqGuard .add t x y (.string s) (.string u)=pure ():=rfl;have e:binOp .add t (.string s) (.string u)=Op.stringOp .add s u:=rfl;have WV:¬((s.size+u.size:Nat):Int)>IntKind.i64.max:=by
  have:IntKind.i64.max=9223372036854775807:=by decide
  rw[this];omega
 simp only[execOp,hx,hy,hg,e,Op.stringOp,WV,jb,Sem.run_bind,Sem.run_pure,Result.andThen_ok]
theorem ZM{dst:Option Tmp}{t:TypeId}{e:TypeId}{x:Operand}{t':TypeId}{p:String}{af:Array Edge}{g:Option (Nat×Bool)}{s:Sl}
  (hu:(underlying t).run P w=.ok (.slice e) w) (hx:a.eval x=s.v):
  (execOp a.eval ⟨dst,.call ⟨.builtin .cap,#[x],#[t]⟩,t',p,af,g⟩).run P w=.ok (.value (.int .i64 s.c)) w:=by
 simp[execOp,resolve,invoke,builtin,Builtin.cap_,hu,hx,goInt]
theorem B8{dst:Option Tmp}{t:TypeId}{x lo:Operand}{t':TypeId}{p:String}{af:Array Edge}{g:Option (Nat×Bool)}{s:ByteArray}{k:IntKind}{l:Nat}
  (hu:(underlying t).run P w=.ok .string w) (hx:a.eval x=.string s) (hl:a.eval lo=.int k (l:Int)) (h1:l<=s.size) (_h2:s.size<=s.size):
  (execOp a.eval ⟨dst,.slice t x (some lo) none none,t',p,af,g⟩).run P w=.ok (.value (.string (s.extract l s.size))) w:=by
 simp[execOp,hx,Instr.sliceAt,hu,Instr.slice,Instr.sliceBounds,lU hl h1]
theorem B9{dst:Option Tmp}{t:TypeId}{x hi:Operand}{t':TypeId}{p:String}{af:Array Edge}{g:Option (Nat×Bool)}{s:ByteArray}{k:IntKind}{h:Nat}
  (hu:(underlying t).run P w=.ok .string w) (hx:a.eval x=.string s) (hh:a.eval hi=.int k (h:Int)) (_h1:0<=h) (h2:h<=s.size):
  (execOp a.eval ⟨dst,.slice t x none (some hi) none,t',p,af,g⟩).run P w=.ok (.value (.string (s.extract 0 h))) w:=by
 simp[execOp,hx,Instr.sliceAt,hu,Instr.slice,Instr.sliceBounds,lU hh h2]
theorem Ca{dst:Option Tmp}{t:TypeId}{x lo hi:Operand}{t':TypeId}{p:String}{af:Array Edge}{g:Option (Nat×Bool)}{s:ByteArray}{k k':IntKind}{l h:Nat}
  (hu:(underlying t).run P w=.ok .string w) (hx:a.eval x=.string s) (hl:a.eval lo=.int k (l:Int)) (hh:a.eval hi=.int k' (h:Int)) (h1:l<=h) (h2:h<=s.size):
  (execOp a.eval ⟨dst,.slice t x (some lo) (some hi) none,t',p,af,g⟩).run P w=.ok (.value (.string (s.extract l h))) w:=by
 simp[execOp,hx,Instr.sliceAt,hu,Instr.slice,Instr.sliceBounds,lU hh h2,lU hl h1]
theorem A8{dst:Option Tmp}{s d:TypeId}{x:Operand}{t':TypeId}{p:String}{af:Array Edge}{g:Option (Nat×Bool)}{ks kd k:IntKind}{n:Int}
  (hs:(underlying s).run P w=.ok (.int ks) w) (hd:(underlying d).run P w=.ok (.int kd) w) (hx:a.eval x=.int k n):
  (execOp a.eval ⟨dst,.convert s d x,t',p,af,g⟩).run P w=.ok (.value (.int kd (kd.wrap n))) w:=by
 simp[execOp,hx,convert,hs,hd,Conv.intToInt]
theorem A9{dst:Option Tmp}{s d:TypeId}{x:Operand}{t':TypeId}{p:String}{af:Array Edge}{g:Option (Nat×Bool)}{n:ByteArray}
  (hs:(underlying s).run P w=.ok .string w) (hd:(underlying d).run P w=.ok .string w) (hx:a.eval x=.string n):
  (execOp a.eval ⟨dst,.convert s d x,t',p,af,g⟩).run P w=.ok (.value (.string n)) w:=by
 simp[execOp,hx,convert,hs,hd]
theorem RC{dst:Option Tmp}{t:TypeId}{x:Operand}{t':TypeId}{p:String}{af:Array Edge}{g:Option (Nat×Bool)}{d:TypeDesc}{v:aw}
  (hu:(underlying t).run P w=.ok d w) (hd:(match d with | .interface _=>false | _=>true)=true) (hx:a.eval x=v):
  (execOp a.eval ⟨dst,.makeInterface t x,t',p,af,g⟩).run P w=.ok (.value (.iface t v)) w:=by
 subst hx;cases d<;>first | (simp at hd;done) | simp[execOp,Instr.makeInterface,hu]
theorem MP{dst:Option Tmp}{t:TypeId}{x:Operand}{t':TypeId}{p:String}{af:Array Edge}{g:Option (Nat×Bool)}{s:ByteArray}
  (hu:(underlying t).run P w=.ok .string w) (hx:a.eval x=.string s):
  (execOp a.eval ⟨dst,.call ⟨.builtin .len,#[x],#[t]⟩,t',p,af,g⟩).run P w=.ok (.value (.int .i64 s.size)) w:=by
 simp[execOp,resolve,invoke,builtin,Builtin.len_,hu,hx,goInt]
theorem ZN{dst:Option Tmp}{ts:Array TypeId}{x y:Operand}{t':TypeId}{p:String}{af:Array Edge}{g:Option (Nat×Bool)}{k k':IntKind}{m n:Int}(hx:a.eval x=.int k m)(hy:a.eval y=.int k' n):
  (execOp a.eval ⟨dst,.call ⟨.builtin .min,#[x,y],ts⟩,t',p,af,g⟩).run P w=.ok (.value (.int k (if n<m then n else m))) w:=by
 simp[execOp,resolve,invoke,builtin,hx,hy,run_min_int2]
theorem ZO{dst:Option Tmp}{ts:Array TypeId}{x y:Operand}{t':TypeId}{p:String}{af:Array Edge}{g:Option (Nat×Bool)}{k k':IntKind}{m n:Int}(hx:a.eval x=.int k m)(hy:a.eval y=.int k' n):
  (execOp a.eval ⟨dst,.call ⟨.builtin .max,#[x,y],ts⟩,t',p,af,g⟩).run P w=.ok (.value (.int k (if n>m then n else m))) w:=by
 simp[execOp,resolve,invoke,builtin,hx,hy,run_max_int2]
theorem Cb{dst:Option Tmp}{t ty:TypeId}{x y:Operand}{t':TypeId}{p:String}{af:Array Edge}{g:Option (Nat×Bool)}{e:TypeId}{q:Option Addr}{b:Bool}(hu:(underlying t).run P w=.ok (.pointer e) w)(hx:a.eval x=.pointer q)(hy:a.eval y=.pointer none)(hb:(q.isNone)=b):
  (execOp a.eval ⟨dst,.binOp .eql t x y ty,t',p,af,g⟩).run P w=.ok (.value (.bool b)) w:=by
 subst hb;have hE:∀d,(Op.equalIn (d+1) t (.pointer q) (.pointer none)).run P w=.ok q.isNone w:=fun d=>by
  unfold Op.equalIn;cases q<;>simp only[Sem.run_bind,hu,Result.andThen_ok]<;>rfl
 have hB:binOp .eql t (.pointer q) (.pointer none)=(do pure (.bool ((<-Op.equal t (.pointer q) (.pointer none))))):=by cases q<;>rfl
 have hG:eqGuard .eql t x y (.pointer q) (.pointer none)=pure ():=rfl;simp only[execOp,hx,hy,hG,hB,Op.equal,Op.maxDepth,Sem.run_bind,Sem.run_pure,Result.andThen_ok,hE 9999]
theorem Ce{dst:Option Tmp}{t ty:TypeId}{x y:Operand}{t':TypeId}{p:String}{af:Array Edge}{g:Option (Nat×Bool)}{e:TypeId}{q:Option Addr}{b:Bool}(hu:(underlying t).run P w=.ok (.pointer e) w)(hx:a.eval x=.pointer none)(hy:a.eval y=.pointer q)(hb:(q.isNone)=b):
  (execOp a.eval ⟨dst,.binOp .eql t x y ty,t',p,af,g⟩).run P w=.ok (.value (.bool b)) w:=by
 subst hb;have hE:∀d,(Op.equalIn (d+1) t (.pointer none) (.pointer q)).run P w=.ok q.isNone w:=fun d=>by
  unfold Op.equalIn;cases q<;>simp only[Sem.run_bind,hu,Result.andThen_ok]<;>rfl
 have hB:binOp .eql t (.pointer none) (.pointer q)=(do pure (.bool ((<-Op.equal t (.pointer none) (.pointer q))))):=by cases q<;>rfl
 have hG:eqGuard .eql t x y (.pointer none) (.pointer q)=pure ():=rfl;simp only[execOp,hx,hy,hG,hB,Op.equal,Op.maxDepth,Sem.run_bind,Sem.run_pure,Result.andThen_ok,hE 9999]
theorem Cf{dst:Option Tmp}{t ty:TypeId}{x y:Operand}{t':TypeId}{p:String}{af:Array Edge}{g:Option (Nat×Bool)}{e:TypeId}{q:Option Addr}{b:Bool}(hu:(underlying t).run P w=.ok (.pointer e) w)(hx:a.eval x=.pointer q)(hy:a.eval y=.pointer none)(hb:(!q.isNone)=b):
  (execOp a.eval ⟨dst,.binOp .neq t x y ty,t',p,af,g⟩).run P w=.ok (.value (.bool b)) w:=by
 subst hb;have hE:∀d,(Op.equalIn (d+1) t (.pointer q) (.pointer none)).run P w=.ok q.isNone w:=fun d=>by
  unfold Op.equalIn;cases q<;>simp only[Sem.run_bind,hu,Result.andThen_ok]<;>rfl
 have hB:binOp .neq t (.pointer q) (.pointer none)=(do pure (.bool (!(<-Op.equal t (.pointer q) (.pointer none))))):=by cases q<;>rfl
 have hG:eqGuard .neq t x y (.pointer q) (.pointer none)=pure ():=rfl;simp only[execOp,hx,hy,hG,hB,Op.equal,Op.maxDepth,Sem.run_bind,Sem.run_pure,Result.andThen_ok,hE 9999]
theorem Cg{dst:Option Tmp}{t ty:TypeId}{x y:Operand}{t':TypeId}{p:String}{af:Array Edge}{g:Option (Nat×Bool)}{e:TypeId}{q:Option Addr}{b:Bool}(hu:(underlying t).run P w=.ok (.pointer e) w)(hx:a.eval x=.pointer none)(hy:a.eval y=.pointer q)(hb:(!q.isNone)=b):
  (execOp a.eval ⟨dst,.binOp .neq t x y ty,t',p,af,g⟩).run P w=.ok (.value (.bool b)) w:=by
 subst hb;have hE:∀d,(Op.equalIn (d+1) t (.pointer none) (.pointer q)).run P w=.ok q.isNone w:=fun d=>by
  unfold Op.equalIn;cases q<;>simp only[Sem.run_bind,hu,Result.andThen_ok]<;>rfl
 have hB:binOp .neq t (.pointer none) (.pointer q)=(do pure (.bool (!(<-Op.equal t (.pointer none) (.pointer q))))):=by cases q<;>rfl
 have hG:eqGuard .neq t x y (.pointer none) (.pointer q)=pure ():=rfl;simp only[execOp,hx,hy,hG,hB,Op.equal,Op.maxDepth,Sem.run_bind,Sem.run_pure,Result.andThen_ok,hE 9999]
theorem KK{dst:Option Tmp}{t ty:TypeId}{x y:Operand}{t':TypeId}{p:String}{af:Array Edge}{g:Option (Nat×Bool)}{m n:Bool}(hu:P.underlying t=some .bool)(hx:a.eval x=.bool m)(hy:a.eval y=.bool n):
  (execOp a.eval ⟨dst,.binOp .eql t x y ty,t',p,af,g⟩).run P w=.ok (.value (.bool (m==n))) w:=by
 have hG:eqGuard .eql t x y (.bool m) (.bool n)=pure ():=rfl;simp only[execOp,hx,hy,hG,Sem.run_bind,Sem.run_pure,Result.andThen_ok,run_eql_bool w t m n hu]
theorem KL{dst:Option Tmp}{t ty:TypeId}{x y:Operand}{t':TypeId}{p:String}{af:Array Edge}{g:Option (Nat×Bool)}{m n:Bool}(hu:P.underlying t=some .bool)(hx:a.eval x=.bool m)(hy:a.eval y=.bool n):
  (execOp a.eval ⟨dst,.binOp .neq t x y ty,t',p,af,g⟩).run P w=.ok (.value (.bool (!(m==n)))) w:=by
 have hG:eqGuard .neq t x y (.bool m) (.bool n)=pure ():=rfl;simp only[execOp,hx,hy,hG,Sem.run_bind,Sem.run_pure,Result.andThen_ok,run_neq_bool w t m n hu]
theorem D4{dst:Option Tmp}{t ty:TypeId}{x y:Operand}{t':TypeId}{p:String}{af:Array Edge}{g:Option (Nat×Bool)}{e:TypeId}{s:Sl}(hu:(underlying t).run P w=.ok (.slice e) w)(hx:a.eval x=s.v)(hy:a.eval y=.slice none 0 0):
  (execOp a.eval ⟨dst,.binOp .eql t x y ty,t',p,af,g⟩).run P w=.ok (.value (.bool (s.a.isNone))) w:=by
 obtain⟨sa,sn,sc⟩:=s;have hE:∀d,(Op.equalIn (d+1) t (.slice sa sn sc) (.slice none 0 0)).run P w=.ok sa.isNone w:=fun d=>by
  unfold Op.equalIn;cases sa<;>simp only[Sem.run_bind,hu,Result.andThen_ok]<;>rfl
 have hB:binOp .eql t (.slice sa sn sc) (.slice none 0 0)=(do pure (.bool ((<-Op.equal t (.slice sa sn sc) (.slice none 0 0))))):=by cases sa<;>rfl
 have hG:eqGuard .eql t x y (.slice sa sn sc) (.slice none 0 0)=pure ():=rfl;simp only[execOp,hx,hy,hG,hB,Op.equal,Op.maxDepth,Sem.run_bind,Sem.run_pure,Result.andThen_ok,hE 9999]
theorem D5{dst:Option Tmp}{t ty:TypeId}{x y:Operand}{t':TypeId}{p:String}{af:Array Edge}{g:Option (Nat×Bool)}{e:TypeId}{s:Sl}(hu:(underlying t).run P w=.ok (.slice e) w)(hx:a.eval x=.slice none 0 0)(hy:a.eval y=s.v):
  (execOp a.eval ⟨dst,.binOp .eql t x y ty,t',p,af,g⟩).run P w=.ok (.value (.bool (s.a.isNone))) w:=by
 obtain⟨sa,sn,sc⟩:=s;have hE:∀d,(Op.equalIn (d+1) t (.slice none 0 0) (.slice sa sn sc)).run P w=.ok sa.isNone w:=fun d=>by
  unfold Op.equalIn;cases sa<;>simp only[Sem.run_bind,hu,Result.andThen_ok]<;>rfl
 have hB:binOp .eql t (.slice none 0 0) (.slice sa sn sc)=(do pure (.bool ((<-Op.equal t (.slice none 0 0) (.slice sa sn sc))))):=by cases sa<;>rfl
 have hG:eqGuard .eql t x y (.slice none 0 0) (.slice sa sn sc)=pure ():=rfl;simp only[execOp,hx,hy,hG,hB,Op.equal,Op.maxDepth,Sem.run_bind,Sem.run_pure,Result.andThen_ok,hE 9999]
theorem D6{dst:Option Tmp}{t ty:TypeId}{x y:Operand}{t':TypeId}{p:String}{af:Array Edge}{g:Option (Nat×Bool)}{e:TypeId}{s:Sl}(hu:(underlying t).run P w=.ok (.slice e) w)(hx:a.eval x=s.v)(hy:a.eval y=.slice none 0 0):
  (execOp a.eval ⟨dst,.binOp .neq t x y ty,t',p,af,g⟩).run P w=.ok (.value (.bool (!s.a.isNone))) w:=by
 obtain⟨sa,sn,sc⟩:=s;have hE:∀d,(Op.equalIn (d+1) t (.slice sa sn sc) (.slice none 0 0)).run P w=.ok sa.isNone w:=fun d=>by
  unfold Op.equalIn;cases sa<;>simp only[Sem.run_bind,hu,Result.andThen_ok]<;>rfl
 have hB:binOp .neq t (.slice sa sn sc) (.slice none 0 0)=(do pure (.bool (!(<-Op.equal t (.slice sa sn sc) (.slice none 0 0))))):=by cases sa<;>rfl
 have hG:eqGuard .neq t x y (.slice sa sn sc) (.slice none 0 0)=pure ():=rfl;simp only[execOp,hx,hy,hG,hB,Op.equal,Op.maxDepth,Sem.run_bind,Sem.run_pure,Result.andThen_ok,hE 9999]
theorem D7{dst:Option Tmp}{t ty:TypeId}{x y:Operand}{t':TypeId}{p:String}{af:Array Edge}{g:Option (Nat×Bool)}{e:TypeId}{s:Sl}(hu:(underlying t).run P w=.ok (.slice e) w)(hx:a.eval x=.slice none 0 0)(hy:a.eval y=s.v):
  (execOp a.eval ⟨dst,.binOp .neq t x y ty,t',p,af,g⟩).run P w=.ok (.value (.bool (!s.a.isNone))) w:=by
 obtain⟨sa,sn,sc⟩:=s;have hE:∀d,(Op.equalIn (d+1) t (.slice none 0 0) (.slice sa sn sc)).run P w=.ok sa.isNone w:=fun d=>by
  unfold Op.equalIn;cases sa<;>simp only[Sem.run_bind,hu,Result.andThen_ok]<;>rfl
 have hB:binOp .neq t (.slice none 0 0) (.slice sa sn sc)=(do pure (.bool (!(<-Op.equal t (.slice none 0 0) (.slice sa sn sc))))):=by cases sa<;>rfl
 have hG:eqGuard .neq t x y (.slice none 0 0) (.slice sa sn sc)=pure ():=rfl;simp only[execOp,hx,hy,hG,hB,Op.equal,Op.maxDepth,Sem.run_bind,Sem.run_pure,Result.andThen_ok,hE 9999]
theorem GK{dst:Option Tmp}{t e:TypeId}{x lo:Operand}{t':TypeId}{p:String}{af:Array Edge}{g:Option (Nat×Bool)}{s:Sl}{k:IntKind}{l sz:Nat}
  (hu:(underlying t).run P w=.ok (.slice e) w) (hsz:(sizeOf e).run P w=.ok sz w) (hx:a.eval x=s.v) (hl:a.eval lo=.int k (l:Int)) (h1:l<=s.n) (_h2:s.n<=s.c) (_h3:s.c<=s.c):
  (execOp a.eval ⟨dst,.slice t x (some lo) none none,t',p,af,g⟩).run P w=.ok (.value (s.cut l s.n s.c sz).v) w:=by
 simp only[execOp,hx,Instr.sliceAt,hu,Sem.run_bind,Result.andThen_ok,Instr.slice,Instr.sliceBounds,cV,rz,Sem.run_pure,lU hl h1,hsz,Sl.cut]
theorem GL{dst:Option Tmp}{t e:TypeId}{x hi:Operand}{t':TypeId}{p:String}{af:Array Edge}{g:Option (Nat×Bool)}{s:Sl}{k:IntKind}{h sz:Nat}
  (hu:(underlying t).run P w=.ok (.slice e) w) (hsz:(sizeOf e).run P w=.ok sz w) (hx:a.eval x=s.v) (hh:a.eval hi=.int k (h:Int)) (_h1:0<=h) (h2:h<=s.c) (_h3:s.c<=s.c):
  (execOp a.eval ⟨dst,.slice t x none (some hi) none,t',p,af,g⟩).run P w=.ok (.value (s.cut 0 h s.c sz).v) w:=by
 simp only[execOp,hx,Instr.sliceAt,hu,Sem.run_bind,Result.andThen_ok,Instr.slice,Instr.sliceBounds,cV,rz,Sem.run_pure,if_true,lU hh h2,hsz,Sl.cut]
theorem GM{dst:Option Tmp}{t e:TypeId}{x lo hi:Operand}{t':TypeId}{p:String}{af:Array Edge}{g:Option (Nat×Bool)}{s:Sl}{k k':IntKind}{l h sz:Nat}
  (hu:(underlying t).run P w=.ok (.slice e) w) (hsz:(sizeOf e).run P w=.ok sz w) (hx:a.eval x=s.v) (hl:a.eval lo=.int k (l:Int)) (hh:a.eval hi=.int k' (h:Int)) (h1:l<=h) (h2:h<=s.c) (_h3:s.c<=s.c):
  (execOp a.eval ⟨dst,.slice t x (some lo) (some hi) none,t',p,af,g⟩).run P w=.ok (.value (s.cut l h s.c sz).v) w:=by
 simp only[execOp,hx,Instr.sliceAt,hu,Sem.run_bind,Result.andThen_ok,Instr.slice,Instr.sliceBounds,cV,rz,Sem.run_pure,if_true,lU hh h2,lU hl h1,hsz,Sl.cut]
theorem GN{dst:Option Tmp}{t e:TypeId}{x hi mx:Operand}{t':TypeId}{p:String}{af:Array Edge}{g:Option (Nat×Bool)}{s:Sl}{k' k2:IntKind}{h m sz:Nat}
  (hu:(underlying t).run P w=.ok (.slice e) w) (hsz:(sizeOf e).run P w=.ok sz w) (hx:a.eval x=s.v) (hh:a.eval hi=.int k' (h:Int)) (hm:a.eval mx=.int k2 (m:Int)) (_h1:0<=h) (h2:h<=m) (h3:m<=s.c):
  (execOp a.eval ⟨dst,.slice t x none (some hi) (some mx),t',p,af,g⟩).run P w=.ok (.value (s.cut 0 h m sz).v) w:=by
 simp only[execOp,hx,Instr.sliceAt,hu,Sem.run_bind,Result.andThen_ok,Instr.slice,Instr.sliceBounds,cV,rz,Sem.run_pure,if_true,lU hm h3,lU hh h2,hsz,Sl.cut]
theorem GP{dst:Option Tmp}{t e:TypeId}{x lo hi mx:Operand}{t':TypeId}{p:String}{af:Array Edge}{g:Option (Nat×Bool)}{s:Sl}{k k' k2:IntKind}{l h m sz:Nat}
  (hu:(underlying t).run P w=.ok (.slice e) w) (hsz:(sizeOf e).run P w=.ok sz w) (hx:a.eval x=s.v) (hl:a.eval lo=.int k (l:Int)) (hh:a.eval hi=.int k' (h:Int)) (hm:a.eval mx=.int k2 (m:Int)) (h1:l<=h) (h2:h<=m) (h3:m<=s.c):
  (execOp a.eval ⟨dst,.slice t x (some lo) (some hi) (some mx),t',p,af,g⟩).run P w=.ok (.value (s.cut l h m sz).v) w:=by
 simp only[execOp,hx,Instr.sliceAt,hu,Sem.run_bind,Result.andThen_ok,Instr.slice,Instr.sliceBounds,cV,Sem.run_pure,lU hm h3,lU hh h2,lU hl h1,hsz,Sl.cut,Option.isSome_some,if_true]
section
variable {K:Act->av->Prop} {o:Oper}
theorem Vl(hg:Region.wanted o (yielded ops a.tmps)=true)(h:o.wp P a w (wpList P ops Q rest) Q):wpList P ops Q (o::rest) a w:=by
 unfold wpList;rw[if_pos hg];exact .inl h
theorem xj(v:aw)(hr:(execOp a.eval o).run P w=.ok (.value v) w')(ha:a.put o.dst v=a')(h:K a' w'):o.wp P a w K Q:=by
 subst ha;unfold Oper.wp;rw[hr];exact h
theorem MQ(hr:(execOp a.eval o).run P w=.ok .skip w')(ha:a.put o.dst undef=a')(h:K a' w'):o.wp P a w K Q:=by
 subst ha;unfold Oper.wp;rw[hr];exact h
theorem Ir{f:FuncId}{args:Array aw}(hr:(execOp a.eval o).run P w=.ok (.enter f args) w)
  (h:Calls P f args w fun e w'=>∃v a',e=.returned v/\a.put o.dst v=a'/\K a' w'):o.wp P a w K Q:=by
 unfold Oper.wp;rw[hr];refine h.mono ?_;rintro e w' ⟨v,_,rfl,rfl,hk⟩;exact hk
theorem D8{dst:Option Tmp}{ty:TypeId}{x y:Operand}{t':TypeId}{p:String}{af:Array Edge}{g:Option (Nat×Bool)}{b o:Nat}{cs vs wU:List aw}{et:TypeId}{n:Nat}
  (hsz:(sizeOf ty).run P w=.ok n w) (hx:a.eval x=.pointer (some ⟨b,o,none⟩)) (hv:(a.eval y).cells=vs.toArray) (hn:vs.length=n)
  (h1:vs.all Value.oneCell'=true) (hb:Blk w b et cs) (HS:o+vs.length<=cs.length) (jY:ca cs o vs=wU) (ha:a.put dst undef=a')
  (h:∀w1,Only [b] w w1->Blk w1 b et wU->K a' w1):Oper.wp P ⟨dst,.store ty x y,t',p,af,g⟩ a w K Q:=
 MQ (Rx hsz hx hv hn (dT.1 h1) hb HS) ha (h _ (Only.setRow _ _ _) (by rw[<-jY];exact hb.setRow _))
theorem D9{dst:Option Tmp}{ty:TypeId}{t':TypeId}{p:String}{af:Array Edge}{g:Option (Nat×Bool)}{z:aw}{zs:List aw}{a':Nat->Act}
  (hz:(zeroValue ty).run P w=.ok z w) (hc:z.cells=zs.toArray) (ha:∀b,a.put dst (.pointer (some ⟨b,0,none⟩))=a' b)
  (h:∀b w1,w.heap.size<=b->Only [] w w1->Blk w1 b ty zs->K (a' b) w1):Oper.wp P ⟨dst,.alloc ty,t',p,af,g⟩ a w K Q:=
 xj _ (Ry hz hc) (ha _) (h _ _ (aW _) (Only.alloc _ _) (Blk.alloc _ _ _))
theorem Vm{dst:Option Tmp}{ty:TypeId}{x:Operand}{t':TypeId}{p:String}{af:Array Edge}{g:Option (Nat×Bool)}{zs:List aw}{a':Nat->Act}
  (hc:(a.eval x).cells=zs.toArray) (ha:∀b,a.put dst (.pointer (some ⟨b,0,none⟩))=a' b)
  (h:∀b w1,w.heap.size<=b->Only [] w w1->Blk w1 b ty zs->K (a' b) w1):Oper.wp P ⟨dst,.box ty x,t',p,af,g⟩ a w K Q:=
 xj _ (ZG hc) (ha _) (h _ _ (aW _) (Only.alloc _ _) (Blk.alloc _ _ _))
end
theorem KM{id:Nat}(h:Q .normal a w):Exit.inBlock id Q (.exit id) a w:=by simpa[Exit.inBlock]using h
theorem GQ{id Q5:Nat}(gC:(Q5==id)=false)(h:Q (.exit Q5) a w):Exit.inBlock id Q (.exit Q5) a w:=by simpa[Exit.inBlock,by simpa using gC]using h
def Ba(P:Program)(a:Act)(w:av):List ResultVar->List aw->Prop
 | [],[]=>True
 | .tmp t::r,v::vs=>a.eval (.tmp t)=v/\Ba P a w r vs
 | .cell p t::r,v::vs=>(∃ad,a.eval (.tmp p)=.pointer (some ad)/\(loadVar t ad).run P w=.ok v w)/\Ba P a w r vs
 | _,_=>False
theorem nE(f:ResultVar->Sem aw)(UR:∀t,f (.tmp t)=pure (a.tmps.getD t undef))(hf2:∀q t,f (.cell q t)=(do loadVar t (<-asAddr (a.tmps.getD q undef)))):
  ∀(rs:List ResultVar) (vs:List aw),Ba P a w rs vs->(rs.mapM f).run P w=.ok vs w
 | [],[],_=>rfl
 | [],_::_,h=>h.elim
 | .tmp t::r,[],h=>h.elim
 | .cell _ _::r,[],h=>h.elim
 | .tmp t::r,v::vs,h=>by
  have ih:=nE f UR hf2 r vs h.2;have h1:a.tmps.getD t undef=v:=h.1;rw[List.mapM_cons,UR];simp only[Sem.run_bind,Sem.run_pure,Result.andThen_ok,h1,ih]
 | .cell q t::r,v::vs,h=>by
  have ih:=nE f UR hf2 r vs h.2;obtain⟨⟨ad,h1,h2⟩,_⟩:=h;have YX:a.tmps.getD q undef=.pointer (some ad):=h1;rw[List.mapM_cons,hf2];simp only[Sem.run_bind,Sem.run_pure,Result.andThen_ok,YX,asAddr,h2,ih]
theorem Vn{fn:Func}{rs:List ResultVar}{v:aw}(h:fn.results=rs.toArray)(hr:Ba P a w rs [v]):(results fn a.tmps).run P w=.ok v w:=by
 unfold results;rw[h,List.mapM_toArray];simp only[Sem.run_bind,map_eq_pure_bind,Sem.run_pure];rw[nE _ (fun _=>rfl) (fun _ _=>rfl) rs [v] hr];rfl
theorem GR{fn:Func}{rs:List ResultVar}{vs:List aw}(h:fn.results=rs.toArray)(hn:(vs.length==1)=false)(hr:Ba P a w rs vs):(results fn a.tmps).run P w=.ok (.tuple vs.toArray) w:=by
 unfold results;rw[h,List.mapM_toArray];have WV:¬vs.length=1:=by simpa using hn
 simp only[Sem.run_bind,map_eq_pure_bind,Sem.run_pure];rw[nE _ (fun _=>rfl) (fun _ _=>rfl) rs vs hr];simp only[Result.andThen_ok,lp,WV,dite_false]
theorem RD{fn:Func}{R:aw->av->Prop}{v:aw}(hr:(results fn a.tmps).run P w=.ok v w)(hd:a.defers=[])(h:R v w):
 bodyPost P fn (fun e w'=>∃v,e=.returned v/\R v w') .ret a w:=bodyPost_ret hr hd ⟨v,rfl,h⟩
theorem GS{fn:Func}{R:aw->av->Prop}{v:aw}(hr:(results fn a.tmps).run P w=.ok v w)(hd:a.defers=[])(h:R v w):
 bodyPost P fn (fun e w'=>∃v,e=.returned v/\R v w') .normal a w:=bodyPost_end hr hd ⟨v,rfl,h⟩
theorem Ci{ty:TypeId}{ad:Addr}{cs:List aw}{n:Nat}(HR:(isAgg ty).run P w=.ok true w)(hsz:(sizeOf ty).run P w=.ok n w)(hn:cs.length=n)(hc:Cells w ad cs):
  (loadVar ty ad).run P w=.ok (.agg cs.toArray) w:=by
 have hl:=run_loadCells_list (P:=P) w ad cs hc;rw[hn]at hl;simp only[Sem.run_bind,Result.andThen_ok,loadVar,HR,if_true,hsz,hl,Sem.run_pure]
theorem AH{ty:TypeId}{ad:Addr}{v:aw}(HR:(isAgg ty).run P w=.ok false w)(hc:w.cell? ad=some v):
  (loadVar ty ad).run P w=.ok v w:=by
 simp only[Sem.run_bind,Result.andThen_ok,loadVar,HR,fR,jb,run_load,hc]
end
section
variable {P:Program} {ops:Array Oper} {rest:List Oper} {a a':Act} {w:av} {Q:Act->Prop}
theorem ZP{o:Oper}(v:aw)(hg:Region.wanted o (yielded ops a.tmps)=true)
  (hr:∀w',(∃n,w'=w.drewN n)->(execOp a.eval o).run P w'=.ok (.value v) w') (ha:a.put o.dst v=a')
  (h:wpQuiet P ops (fun w'=>∃n,w'=w.drewN n) Q rest a'):wpQuiet P ops (fun w'=>∃n,w'=w.drewN n) Q (o::rest) a:=by
 subst ha;unfold wpQuiet;rw[if_pos hg];refine⟨v,fun w' YY=>?_,h⟩;unfold Oper.quietAt;rw[hr w' YY];exact⟨rfl,rfl⟩
theorem afL{o:Oper}(hg:Region.wanted o (yielded ops a.tmps)=false)(ha:a.put o.dst undef=a')
  (h:wpQuiet P ops (fun w'=>∃n,w'=w.drewN n) Q rest a'):wpQuiet P ops (fun w'=>∃n,w'=w.drewN n) Q (o::rest) a:=by
 subst ha;unfold wpQuiet;rw[if_neg (by simp[hg])];exact h
end
theorem MR{w w':av}:bS [] w w':=fun _ h=>by simp at h
theorem bS.refl(bs:List Nat)(w:av):bS bs w w:=fun _ _=>rfl
section
variable {P:Program} {ops:Array Oper} {Q:Exit->Act->av->Prop} {md:Region.Mode} {E:Nat->av->av->Prop} {F:av->Prop}
def fu(P:Program)(md:Region.Mode)(ops:Array Oper)(Q:Exit->Act->av->Prop)(E:Nat->av->av->Prop):Nat->Array Bool->Act->av->Prop
 | 0,bq,a,w=>Region.ready md ops bq=[]/\Q .normal a w
 | eX+1,bq,a,w=>
  (Region.ready md ops bq=[]->Q .normal a w)/\
  ∀i∈Region.ready md ops bq,wpOp P ops Q i (fun a' w'=>E i w w'/\fu P md ops Q E eX (bq.setIfInBounds i true) a' w') a w
theorem yJ:∀(eX:Nat) (bq:Array Bool) (a:Act) (w:av),fu P md ops Q E eX bq a w->wpAny P md ops Q eX bq a w
 | 0,_,_,_,h=>h
 | eX+1,_,_,_,h=>⟨h.1,fun i hi=>wpOp_mono (fun a' w' h'=>yJ eX _ a' w' h'.2) (h.2 i hi)⟩
def qv(md:Region.Mode)(ops:Array Oper)(bq:Array Bool):Prop:=∀k o,ops[k]? =some o->bq.getD k false=true->∀e∈o.after,Region.binds md e=true->bq.getD e.on false=true
def uZ(md:Region.Mode)(ops:Array Oper)(bq:Array Bool):Bool:=
 (List.range ops.size).all fun k=>!bq.getD k false||((ops[k]?).map (·.after.all fun e=>!Region.binds md e||bq.getD e.on false)).getD true
theorem Bb{bq:Array Bool}(h:uZ md ops bq=true):qv md ops bq:=by
 intro k o hk hl e he hb;have bQ:k<ops.size:=(lK.1 hk).1;have:=(dT.1 h) k (List.mem_range.2 bQ);simp only[hl,Bool.not_true,vZ,hk,cV,gN,Array.all_eq_true_iff_forall_mem,cq,cx]at this;rcases this e he with h1 | h1
 ·rw[hb]at h1;cases h1
 ·exact h1
theorem qv.add{bq:Array Bool}{j:Nat}(h:qv md ops bq)(hj:j∈Region.ready md ops bq):qv md ops (bq.setIfInBounds j true):=by
 intro k o hk hl e he hb;obtain⟨_,oj,Q6,fy⟩:=mem_ready.1 hj;by_cases hkj:j=k
 ·subst hkj;rw[Q6]at hk;injection hk with hk;subst hk;exact getD_set_true (fy e he hb)
 ·rw[getD_set_ne false hkj]at hl;exact getD_set_true (h k o hk hl e he hb)
def rH(md:Region.Mode)(ops:Array Oper)(i:Nat):List Nat->List Nat->Bool
 | _,[]=>true
 | seen,j::r=>((ops[j]?).map fun o=>o.after.any fun e=>Region.binds md e&&(e.on==i||seen.contains e.on)).getD false&&rH md ops i (j::seen) r
theorem xn{i:Nat}{bq:Array Bool}(hc:qv md ops bq):∀(D seen:List Nat),rH md ops i seen D=true->(∀k∈seen,bq.getD k false=true->bq.getD i false=true)->∀j∈D,∀o,ops[j]? =some o->(∀e∈o.after,Region.binds md e=true->bq.getD e.on false=true)->bq.getD i false=true
 | [],_,_,_,j,hj,_,_,_=>by simp at hj
 | k::r,seen,h,hs,j,hj,o,ho,fy=>by
  simp only[rH,aP]at h;have hk:∀o,ops[k]? =some o->(∀e∈o.after,Region.binds md e=true->bq.getD e.on false=true)->bq.getD i false=true:=by
   intro o ho fy;have h1:=h.1;rw[ho]at h1;simp only[cV,gN,Array.any_eq_true',aP,cq,dz]at h1;obtain⟨e,he,hb,LR⟩:=h1;rcases LR with LR | LR
   ·rw[<-LR];exact fy e he hb
   ·exact hs _ (by simpa using LR) (fy e he hb)
  rcases aY.1 hj with rfl | hj
  ·exact hk o ho fy
  ·refine xn hc r (k::seen) h.2 ?_ j hj o ho fy;intro x hx hl;rcases aY.1 hx with rfl | hx
   ·have h1:=h.1;cases hx2:ops[x]? with
    | none=>rw[hx2]at h1;simp at h1
    | some ox=>exact hk ox hx2 (hc x ox hx2 hl)
   ·exact hs x hx hl
theorem qw{i:Nat}{oi:Oper}{v:aw}{D:List Nat}(hi:ops[i]? =some oi)(acu:∀(j:Nat) (o:Oper) cs b,ops[j]? =some o->o.op≠.select cs b)
  (hQ:∀c a w,Q (.panic c) (a.put oi.dst v) w->Q (.panic c) a w) (hD:rH md ops i [] D=true)
  (N:List Nat) (lj:∀j w w',j∉D->j∉N->F w->E j w w'->F w') (BU:∀w,F w->E i w w):
  ∀(eX:Nat) (bq:Array Bool) (a:Act) (w:av),qv md ops bq->(∀k∈N,bq.getD k true=true)->
   (∀j oj,ops[j]? =some oj->j≠i->bq.getD j true=false->(∀e∈oj.after,Region.binds md e=true->e.on≠i)->oi.apart ops oj=true)->
   i∈Region.ready md ops bq->YieldsIf P ops F oi v a->F w->
   fu P md ops Q E eX (bq.setIfInBounds i true) (a.put oi.dst v) w->fu P md ops Q E (eX+1) bq a w:=by
 intro eX
 induction eX with
 | zero=>
  intro bq a w _ _ _ hr hy hF H;refine⟨fun h=>(by rw[h]at hr;cases hr),fun j hj=>?_⟩;by_cases US:j=i
  ·subst US;exact hy.wpOp hi hF ⟨BU w hF,H⟩
  ·have:=ready_mono hj US;rw[H.1]at this;cases this
 | succ eX ih=>
  intro bq a w pj hN Kp hr hy hF H;refine⟨fun h=>(by rw[h]at hr;cases hr),fun j hj=>?_⟩;by_cases US:j=i
  ·subst US;exact hy.wpOp hi hF ⟨BU w hF,H⟩
  ·have h1:=H.2 j (ready_mono hj US);obtain⟨WW,oj,Q6,fy⟩:=mem_ready.1 hj;have WX:=(mem_ready.1 hr).1;have hli:bq.getD i false=false:=by
    rcases kC i bq.size with h' | h'
    ·simp[h']at WX⊢;exact WX
    ·simp[ft h']at WX
   have ahX:∀e∈oj.after,Region.binds md e=true->e.on≠i:=fun e he hb heq=>by
    have h1:=fy e he hb;rw[heq,hli]at h1;cases h1
   have hjD:j∉D:=fun hm=>by
    have:=xn pj D [] hD (by simp) j hm oj Q6 fy;rw[hli]at this;cases this
   have hjN:j∉N:=fun hm=>by
    have:=hN j hm;rw[WW]at this;cases this
   have hN':∀k∈N,(bq.setIfInBounds j true).getD k true=true:=fun k hk=>by
    by_cases hjk:j=k
    ·subst hjk;exact absurd hk hjN
    ·rw[getD_set_ne true hjk];exact hN k hk
   have h2:=wpOp_putIf Q6 (Kp j oj Q6 US WW ahX) (fun cs b=>acu i oi cs b hi) (fun cs b=>acu j oj cs b Q6) hQ hy h1;have Dz:∀k ok,ops[k]? =some ok->k≠i->(bq.setIfInBounds j true).getD k true=false->
     (∀e∈ok.after,Region.binds md e=true->e.on≠i)->oi.apart ops ok=true:=fun k ok hk hki YZ Y1=>by
    refine Kp k ok hk hki ?_ Y1;by_cases hjk:j=k
    ·subst hjk;exact WW
    ·rw[getD_set_ne true hjk]at YZ;exact YZ
   refine wpOp_mono (fun a' w' h3=>⟨h3.2.1,ih (bq.setIfInBounds j true) a' w' (pj.add hj) hN' Dz (ready_mono hr (Ne.symm US)) h3.1 (lj j w w' hjD hjN hF h3.2.1) ?_⟩) h2;rw[Array.setIfInBounds_comm _ _ US];exact h3.2.2
theorem GU(i:Nat){dP:List Oper}{oi:Oper}{a a':Act}{w:av}{eX:Nat}{bq:Array Bool}(D N:List Nat)(v:aw)(F:av->Prop)(hi:gH dP i=some oi)
  (hs:Region.noSelect dP.toArray=true) (hf:Region.free md dP.toArray bq i=true) (hr:(Region.ready md dP.toArray bq).contains i=true) (hc:uZ md dP.toArray bq=true) (hD:rH md dP.toArray i [] D=true) (hN:(N.all fun k=>bq.getD k true)=true)
  (hQ:∀c a w,Q (.panic c) (a.put oi.dst v) w->Q (.panic c) a w) (lj:∀j w w',j∉D->j∉N->F w->E j w w'->F w') (BU:∀w,F w->E i w w) (hF:F w)
  (hy:YieldsIf P dP.toArray F oi v a) (ha:a.put oi.dst v=a')
  (h:fu P md dP.toArray Q E eX (bq.setIfInBounds i true) a' w):fu P md dP.toArray Q E (eX+1) bq a w:=by
 subst ha;have xD:dP.toArray[i]? =some oi:=by rw[jI]at hi;simpa using hi
 exact qw xD (Region.noSelect_spec hs) hQ hD N lj BU eX bq a w (Bb hc) (fun k hk=>by simpa using(dT.1 hN) k hk) (Region.free_spec xD hf) (by simpa using hr) hy hF h
theorem ZQ(i:Nat){dP:List Oper}{oi:Oper}{a:Act}{w:av}{eX:Nat}{bq:Array Bool}(hi:gH dP i=some oi)(hr:Region.ready md dP.toArray bq=[i])
  (hg:Region.wanted oi (yielded dP.toArray a.tmps)=true)
  (h:oi.wp P a w (fun a' w'=>E i w w'/\fu P md dP.toArray Q E eX (bq.setIfInBounds i true) a' w') Q):fu P md dP.toArray Q E (eX+1) bq a w:=by
 have xD:dP.toArray[i]? =some oi:=by rw[jI]at hi;simpa using hi
 refine⟨fun h0=>(by rw[h0]at hr;cases hr),fun j hj=>?_⟩;rw[hr]at hj;obtain rfl:j=i:=by simpa using hj
 unfold wpOp;simp only[xD];rw[if_pos hg];exact .inl h
theorem RE(i:Nat){dP:List Oper}{oi:Oper}{a a':Act}{w:av}{eX:Nat}{bq:Array Bool}(hi:gH dP i=some oi)(hr:Region.ready md dP.toArray bq=[i])
  (hg:Region.wanted oi (yielded dP.toArray a.tmps)=false) (hE:E i w w) (ha:a.put oi.dst undef=a')
  (h:fu P md dP.toArray Q E eX (bq.setIfInBounds i true) a' w):fu P md dP.toArray Q E (eX+1) bq a w:=by
 subst ha;have xD:dP.toArray[i]? =some oi:=by rw[jI]at hi;simpa using hi
 refine⟨fun h0=>(by rw[h0]at hr;cases hr),fun j hj=>?_⟩;rw[hr]at hj;obtain rfl:j=i:=by simpa using hj
 unfold wpOp;simp only[xD];rw[if_neg (by simp[hg])];exact⟨hE,h⟩
theorem ZR(i j:Nat){dP:List Oper}{oi oj:Oper}{a:Act}{w:av}{eX:Nat}{bq:Array Bool}(hi:gH dP i=some oi)(hj:gH dP j=some oj)(hr:Region.ready md dP.toArray bq=[i,j])
  (h1:if Region.wanted oi (yielded dP.toArray a.tmps)then oi.wp P a w (fun a' w'=>E i w w'/\fu P md dP.toArray Q E eX (bq.setIfInBounds i true) a' w') Q∨(oi.asks P a w/\LetsOut Q)
   else(fun a' w'=>E i w w'/\fu P md dP.toArray Q E eX (bq.setIfInBounds i true) a' w') (a.put oi.dst undef) w)
  (h2:if Region.wanted oj (yielded dP.toArray a.tmps)then oj.wp P a w (fun a' w'=>E j w w'/\fu P md dP.toArray Q E eX (bq.setIfInBounds j true) a' w') Q∨(oj.asks P a w/\LetsOut Q)
   else(fun a' w'=>E j w w'/\fu P md dP.toArray Q E eX (bq.setIfInBounds j true) a' w') (a.put oj.dst undef) w):fu P md dP.toArray Q E (eX+1) bq a w:=by
 have xD:dP.toArray[i]? =some oi:=by rw[jI]at hi;simpa using hi
 have Q7:dP.toArray[j]? =some oj:=by rw[jI]at hj;simpa using hj
 refine⟨fun h0=>(by rw[h0]at hr;cases hr),fun k hk=>?_⟩;rw[hr]at hk;unfold wpOp;rcases aY.1 hk with rfl | hk
 ·simp only[xD];exact h1
 ·obtain rfl:k=j:=by simpa using hk
  simp only[Q7];exact h2
theorem Vo{bq:Array Bool}{a:Act}{w:av}{eX:Nat}(hr:Region.ready md ops bq=[])(h:Q .normal a w):fu P md ops Q E eX bq a w:=by
 cases eX with
 | zero=>exact⟨hr,h⟩
 | succ n=>exact⟨fun _=>h,by rw[hr];simp⟩
theorem Ea{id:Nat}{dP:List Oper}{a:Act}{w:av}(E:Nat->av->av->Prop)(hm:P.follows .mixedOrders=true)
  (h:fu P .any dP.toArray Q E dP.length (Array.replicate dP.length false) a w.drew):(Code.region id dP.toArray true).wp P Q a w:=by
 refine wp_region_any hm (yJ (E:=E) _ _ _ _ ?_);simpa using h
def EL(ls:List (Nat×List Nat))(j:Nat)(w w':av):Prop:=match ls.lookup j with | some l=>bS l w w' | none=>w'.heap=w.heap
theorem RF{ls:List (Nat×List Nat)}{D N:List Nat}:∀(j:Nat) (w w':av),j∉D->j∉N->True->EL ls j w w'->True:=fun _ _ _ _ _ h _=>h
theorem GV{s:Sl}{l:List UInt8}(w w':av)(h:w'.heap[s.blk]? =w.heap[s.blk]?)(hc:qW w s l):qW w' s l:=
 ⟨hc.1,fun hl=>by
  obtain⟨ad,h1,h2⟩:=hc.2 hl;refine⟨ad,h1,h2.keep ?_⟩;simpa[Sl.blk,h1]using h⟩
theorem TT{dP:List Oper}{o:Oper}{v:aw}{a:Act}(hg:Region.wanted o (yielded dP.toArray a.tmps)=true)(h:∀w,F w->(execOp a.eval o).run P w=.ok (.value v) w):YieldsIf P dP.toArray F o v a:=.inl ⟨hg,h⟩
theorem Vp{dP:List Oper}{o:Oper}{a:Act}(hg:Region.wanted o (yielded dP.toArray a.tmps)=false):YieldsIf P dP.toArray F o undef a:=.inr ⟨hg,rfl⟩
end
def wa(x:Int):Prop:= -9223372036854775808<=x/\x<=9223372036854775807
theorem wr{x:Int}(h:wa x):IntKind.i64.wrap x=x:=IntWalk.i64_in _ ⟨h.1,h.2⟩
theorem fH{x:Int}(h1: -9223372036854775808<=x)(h2:x<=9223372036854775807):IntKind.i64.wrap x=x:=IntWalk.i64_in _ ⟨h1,h2⟩
theorem MS(x:Int):wa (IntKind.i64.wrap x):=by
 rw[IntKind.wrap_i64];constructor<;>omega
abbrev Rp(α:Type):=av->(Nat->Prop)->α->List aw->Prop
structure Rp.Ok {α:Type} (r:Rp α):Prop where
 keep:∀{w w':av} {F:Nat->Prop} {x:α} {cs:List aw},r w F x cs->(∀k,F k->k<w.heap.size->w'.heap[k]? =w.heap[k]?)->r w' F x cs
 inHeap:∀{w:av} {F:Nat->Prop} {x:α} {cs:List aw},r w F x cs->r w (fun k=>F k/\k<w.heap.size) x cs
 mono:∀{w:av} {F G:Nat->Prop} {x:α} {cs:List aw},r w F x cs->(∀k,F k->G k)->r w G x cs
 one:∀{w:av} {F:Nat->Prop} {x:α} {cs:List aw},r w F x cs->∀v,v∈cs->v.oneCell'=true
section
variable {α:Type} {r:Rp α} {size:Nat} {w w':av} {F G:Nat->Prop} {s:Sl} {xs:List α}
structure SliceF (r:Rp α) (size:Nat) (w:av) (F:Nat->Prop) (s:Sl) (xs:List α):Prop where
 len:s.n=xs.length
 cap:s.n<=s.c
 nil0:s.a=none->s.c=0
 big:s.c<=9223372036854775807
 at_:∀j x,xs[j]? =some x->∃base cs,s.a=some base/\F base.block/\cs.length=size/\Cells w (base.add (j*size)) cs/\r w F x cs
theorem lV(a:Addr)(n:Nat):(a.add n).block=a.block:=by unfold Addr.add;split<;>rfl
theorem n8(a:Addr)(i j:Nat):(a.add i).add j=a.add (i+j):=by
 unfold Addr.add;by_cases hi:i=0<;>by_cases hj:j=0<;>simp[hi,hj,fe]
theorem Bc(a:Addr):a.add 0=a:=rfl
theorem fZ(b o n:Nat):(⟨b,o,none⟩:Addr).add n=⟨b,o+n,none⟩:=by unfold Addr.add;split<;>simp_all
theorem Cells.sub{a:Addr}{cs vs:List aw}(h:Cells w a cs)(k:Nat)(hv:∀j v,vs[j]? =some v->cs[k+j]? =some v):Cells w (a.add k) vs:=fun j v hj=>by
 rw[n8];exact h _ v (hv j v hj)
theorem Cells.ec{a:Addr}{cs:List aw}(h:Cells w a cs)(k:Nat)(v:aw)(hv:cs[k]? =some v):Cells w (a.add k) [v]:=h.sub k fun j u hj=>by
 cases j with
 | zero=>simpa[hv]using hj
 | succ j=>simp at hj
theorem SliceF.nil(r:Rp α)(size:Nat)(w:av)(F:Nat->Prop):SliceF r size w F Sl.nil []:=⟨rfl,aW _,fun _=>rfl,by decide,fun j x h=>by simp at h⟩
theorem SliceF.keep(hr:r.Ok)(h:SliceF r size w F s xs)(hs:0<size)(hk:∀k,F k->k<w.heap.size->w'.heap[k]? =w.heap[k]?):SliceF r size w' F s xs:=
 ⟨h.len,h.cap,h.nil0,h.big,fun j x hx=>by
  obtain⟨base,cs,h1,h2,h3,h4,h5⟩:=h.at_ j x hx;refine⟨base,cs,h1,h2,h3,h4.keep ?_,hr.keep h5 hk⟩;have bQ:(base.add (j*size)).block<w.heap.size:=by
   cases cs with
   | nil=>simp at h3;omega
   | cons c cs=>exact h4.lt
  rw[lV]at bQ⊢;exact hk _ h2 bQ⟩
theorem SliceF.mono(hr:r.Ok)(h:SliceF r size w F s xs)(hk:∀k,F k->G k):SliceF r size w G s xs:=
 ⟨h.len,h.cap,h.nil0,h.big,fun j x hx=>by
  obtain⟨base,cs,h1,h2,h3,h4,h5⟩:=h.at_ j x hx;exact⟨base,cs,h1,hk _ h2,h3,h4,hr.mono h5 hk⟩⟩
theorem SliceF.inHeap(hr:r.Ok)(h:SliceF r size w F s xs)(hs:0<size):SliceF r size w (fun k=>F k/\k<w.heap.size) s xs:=
 ⟨h.len,h.cap,h.nil0,h.big,fun j x hx=>by
  obtain⟨base,cs,h1,h2,h3,h4,h5⟩:=h.at_ j x hx;refine⟨base,cs,h1,⟨h2,?_⟩,h3,h4,hr.inHeap h5⟩;have bQ:(base.add (j*size)).block<w.heap.size:=by
   cases cs with
   | nil=>simp at h3;omega
   | cons c cs=>exact h4.lt
  rwa[lV]at bQ⟩
theorem SliceF.get(h:SliceF r size w F s xs){i:Int}(h0:0<=i)(h1:i<s.n):
  ∃ad x cs,dl s i size ad/\xs[i.toNat]? =some x/\F ad.block/\cs.length=size/\Cells w ad cs/\r w F x cs:=by
 have hl:=h.len;have bQ:i.toNat<xs.length:=by omega
 obtain⟨base,cs,g1,g2,g3,g4,g5⟩:=h.at_ i.toNat _ (bG bQ);exact⟨_,_,cs,⟨base,g1,h0,h1,rfl⟩,bG bQ,by rw[lV];exact g2,g3,g4,g5⟩
theorem SliceF.mem(h:SliceF r size w F s xs){x:α}(hx:x∈xs):∃cs,r w F x cs:=by
 obtain⟨j,hj⟩:=jG hx;obtain⟨_,cs,_,_,_,_,h5⟩:=h.at_ j x hj;exact⟨cs,h5⟩
theorem dl.Aq{i:Int}{a b:Addr}(h:dl s i size a)(k:dl s i size b):a=b:=by
 obtain⟨x,h1,_,_,h2⟩:=h;obtain⟨y,k1,_,_,k2⟩:=k;rw[h1]at k1;injection k1 with k1;rw[h2,k2,k1]
theorem SliceF.cut(h:SliceF r size w F s xs){lo hi m:Nat}(h1:lo<=hi)(h2:hi<=m)(h3:hi<=s.n)(h4:m<=s.c):SliceF r size w F (s.cut lo hi m size) ((xs.drop lo).take (hi-lo)):=by
 have hl:=h.len;refine⟨?_,?_,fun ha=>?_,by have:=h.big;simp only[Sl.cut];omega,fun j x hx=>?_⟩
 ·simp only[Sl.cut,cP,bX];omega
 ·simp only[Sl.cut];omega
 ·simp only[Sl.cut]at ha⊢;split at ha
  ·omega
  ·have:=h.nil0 (by simpa using ha);omega
 ·rw[nT]at hx;split at hx
  ·rename_i hj;rw[fS]at hx;obtain⟨base,cs,g1,g2,g3,g4,g5⟩:=h.at_ _ _ hx;refine⟨base.add (lo*size),cs,?_,by rw[lV];exact g2,g3,?_,g5⟩
   ·simp only[Sl.cut];rw[if_neg (by omega),g1];rfl
   ·rw[n8,<-eJ];exact g4
  ·cases hx
end
structure BytesF (w:av) (F:Nat->Prop) (s:Sl) (l:List UInt8):Prop where
 rd:qW w s l
 cap:s.n<=s.c
 blk:∀ad,s.a=some ad->l≠[]->F ad.block
section
variable {w w':av} {F G:Nat->Prop} {s:Sl} {l:List UInt8}
theorem BytesF.nil(w:av)(F:Nat->Prop):BytesF w F Sl.nil []:=⟨⟨rfl,fun h=>absurd rfl h⟩,aW _,fun _ _ h=>absurd rfl h⟩
theorem BytesF.mono(h:BytesF w F s l)(hk:∀k,F k->G k):BytesF w G s l:=⟨h.rd,h.cap,fun ad ha hl=>hk _ (h.blk ad ha hl)⟩
end
def gq{α:Type}(P:α->List aw->Prop):List α->List (List aw)->Prop
 | [],[]=>True
 | x::xs,c::cs=>P x c/\gq P xs cs
 | _,_=>False
section
variable {α:Type} {P Q:α->List aw->Prop}
theorem gq.len:∀{xs:List α} {css:List (List aw)},gq P xs css->xs.length=css.length
 | [],[],_=>rfl
 | x::xs,c::cs,h=>by simp[gq.len (xs:=xs) (css:=cs) h.2]
 | [],_::_,h=>h.elim
 | _::_,[],h=>h.elim
theorem gq.imp(hi:∀x c,P x c->Q x c):∀{xs:List α} {css:List (List aw)},gq P xs css->gq Q xs css
 | [],[],_=>trivial
 | x::xs,c::cs,h=>⟨hi _ _ h.1,gq.imp hi (xs:=xs) (css:=cs) h.2⟩
 | [],_::_,h=>h.elim
 | _::_,[],h=>h.elim
theorem gq.AF:∀{xs ys:List α} {css DU:List (List aw)},gq P xs css->gq P ys DU->gq P (xs++ys) (css++DU)
 | [],_,[],_,_,k=>k
 | x::xs,_,c::cs,_,h,k=>⟨h.1,gq.AF (xs:=xs) (css:=cs) h.2 k⟩
 | [],_,_::_,_,h,_=>h.elim
 | _::_,_,[],_,h,_=>h.elim
theorem gq.get:∀{xs:List α} {css:List (List aw)},gq P xs css->∀{j:Nat} {x:α},xs[j]? =some x->∃cs,css[j]? =some cs/\P x cs
 | [],[],_,j,x,h=>by simp at h
 | y::xs,c::cs,k,0,x,h=>by
  simp only[bP,aV]at h;subst h;exact⟨c,rfl,k.1⟩
 | y::xs,c::cs,k,j+1,x,h=>by
  simp only[cW]at h⊢;exact gq.get (xs:=xs) (css:=cs) k.2 h
 | [],_::_,h,_,_,_=>h.elim
 | _::_,[],h,_,_,_=>h.elim
theorem gq.mem:∀{xs:List α} {css:List (List aw)},gq P xs css->∀c,c∈css->∃x,P x c
 | [],[],_,c,h=>by simp at h
 | y::xs,d::cs,k,c,h=>by
  rcases aY.1 h with rfl | h
  ·exact⟨y,k.1⟩
  ·exact gq.mem (xs:=xs) (css:=cs) k.2 c h
 | [],_::_,h,_,_=>h.elim
 | _::_,[],h,_,_=>h.elim
theorem gq.take:∀(n:Nat) {xs:List α} {css:List (List aw)},gq P xs css->gq P (xs.take n) (css.take n)
 | 0,_,_,_=>by simp[gq]
 | _+1,[],[],_=>by simp[gq]
 | n+1,x::xs,c::cs,h=>by simp only[fC];exact⟨h.1,gq.take n (xs:=xs) (css:=cs) h.2⟩
 | _,[],_::_,h=>h.elim
 | _,_::_,[],h=>h.elim
theorem gq.set:∀{xs:List α} {css:List (List aw)} (j:Nat) {x:α} {c:List aw},gq P xs css->P x c->gq P (xs.set j x) (css.set j c)
 | [],[],_,_,_,_,_=>by simp[gq]
 | y::xs,d::cs,0,x,c,h,k=>⟨k,h.2⟩
 | y::xs,d::cs,j+1,x,c,h,k=>⟨h.1,gq.set (xs:=xs) (css:=cs) j h.2 k⟩
 | [],_::_,_,_,_,h,_=>h.elim
 | _::_,[],_,_,_,h,_=>h.elim
end
theorem yK{css:List (List aw)}{size:Nat}(h:∀c,c∈css->c.length=size):css.flatten.length=css.length*size:=by
 induction css with
 | nil=>simp
 | cons c cs ih=>
  rw[cJ,aN,h c (by simp),ih (fun d hd=>h d (by simp[hd])),aR,eJ];omega
theorem It{css:List (List aw)}{size:Nat}(h:∀c,c∈css->c.length=size):∀{j i:Nat} {cs:List aw} {v:aw},css[j]? =some cs->cs[i]? =some v->css.flatten[j*size+i]? =some v:=by
 induction css with
 | nil=>intro j i cs v hj;simp at hj
 | cons c cs ih=>
  intro j i ds v hj hi;have hc:=h c (by simp);cases j with
  | zero=>
   simp only[bP,aV]at hj;subst hj;have bQ:i<c.length:=(bc.1 hi).1;simp only[kD,bD,cJ];rw[bJ bQ];exact hi
  | succ j=>
   simp only[cW]at hj;have:=ih (fun d hd=>h d (by simp[hd])) hj hi;rw[cJ,cf (by rw[hc,eJ];omega),hc];rw[show(j+1)*size+i-size=j*size+i by rw[eJ];omega];exact this
theorem KN{css:List (List aw)}{size:Nat}(h:∀c,c∈css->c.length=size):∀(n:Nat),css.flatten.take (n*size)=(css.take n).flatten:=by
 induction css with
 | nil=>intro n;simp
 | cons c cs ih=>
  intro n;cases n with
  | zero=>simp
  | succ n=>
   have hc:=h c (by simp);rw[cJ,fC,cJ,List.take_append,<-ih (fun d hd=>h d (by simp[hd])),hc,show(n+1)*size-size=n*size by rw[eJ];omega,bH (by rw[hc,eJ];omega)]
theorem GW{cs:List aw}{o:Nat}{v:aw}(h:o<cs.length):ca cs o [v]=cs.set o v:=by
 rw[ca,List.set_eq_take_append_cons_drop,if_pos h];simp
theorem Eb{size:Nat}{tail:List aw}{i:Nat}{v:aw}:∀{css:List (List aw)} {n:Nat} {cs:List aw},(∀c,c∈css->c.length=size)->css[n]? =some cs->i<size->
  (css.flatten++tail).set (n*size+i) v=(css.set n (cs.set i v)).flatten++tail
 | [],n,cs,_,hn,_=>by simp at hn
 | c::css,0,cs,h,hn,hi=>by
  simp only[bP,aV]at hn;subst hn;have hc:=h c (by simp);simp only[kD,bD,cJ,ua,be];rw[List.set_append_left _ _ (by omega)]
 | c::css,n+1,cs,h,hn,hi=>by
  simp only[cW]at hn;have hc:=h c (by simp);have ih:=Eb (tail:=tail) (v:=v) (fun d hd=>h d (by simp[hd])) hn hi;simp only[cJ,List.set_cons_succ,be];rw[pF _ _ (by rw[hc,eJ];omega),hc,show(n+1)*size+i-size=n*size+i by rw[eJ];omega,ih]
section
variable {w w':av} {a:Addr} {cs ds:List aw}
theorem Cells.AF(h:Cells w a cs)(k:Cells w (a.add cs.length) ds):Cells w a (cs++ds):=fun j v hj=>by
 by_cases bQ:j<cs.length
 ·rw[bJ bQ]at hj;exact h j v hj
 ·rw[cf (by omega)]at hj;have:=k _ v hj;rw[n8,show cs.length+(j-cs.length)=j by omega]at this;exact this
theorem Cells.nil(w:av)(a:Addr):Cells w a []:=fun j v hj=>by simp at hj
end
section
variable {α:Type} {r:Rp α} {size:Nat} {w w':av} {F G:Nat->Prop} {s y:Sl} {xs ys:List α} {e:TypeId} {B:Nat}
abbrev n9(r:Rp α)(size:Nat)(w:av)(F:Nat->Prop):List α->List (List aw)->Prop:=gq fun x cs=>cs.length=size/\r w F x cs
theorem n9.sz{css:List (List aw)}(h:n9 r size w F xs css):∀c,c∈css->c.length=size:=fun c hc=>by
 obtain⟨_,h1,_⟩:=h.mem c hc;exact h1
theorem n9.keep(hr:r.Ok){css:List (List aw)}(h:n9 r size w F xs css)(hk:∀k,F k->k<w.heap.size->w'.heap[k]? =w.heap[k]?):n9 r size w' F xs css:=
 h.imp fun _ _ h1=>⟨h1.1,hr.keep h1.2 hk⟩
theorem n9.mono(hr:r.Ok){css:List (List aw)}(h:n9 r size w F xs css)(hk:∀k,F k->G k):n9 r size w G xs css:=
 h.imp fun _ _ h1=>⟨h1.1,hr.mono h1.2 hk⟩
theorem n9.inHeap(hr:r.Ok){css:List (List aw)}(h:n9 r size w F xs css):n9 r size w (fun k=>F k/\k<w.heap.size) xs css:=
 h.imp fun _ _ h1=>⟨h1.1,hr.inHeap h1.2⟩
theorem SliceF.PE{base:Addr}:∀(xs:List α) (k:Nat),(∀j x,xs[j]? =some x->∃cs,cs.length=size/\Cells w (base.add ((k+j)*size)) cs/\r w F x cs)->
  ∃css,n9 r size w F xs css/\Cells w (base.add (k*size)) css.flatten
 | [],k,_=>⟨[],trivial,Cells.nil _ _⟩
 | x::xs,k,h=>by
  obtain⟨cs,h1,h2,h3⟩:=h 0 x rfl;obtain⟨css,k1,k2⟩:=SliceF.PE xs (k+1) (fun j y hj=>by
   obtain⟨ds,g1,g2,g3⟩:=h (j+1) y (by simpa using hj);exact⟨ds,g1,by rw[show k+1+j=k+(j+1) by omega];exact g2,g3⟩)
  refine⟨cs::css,⟨⟨h1,h3⟩,k1⟩,?_⟩;rw[cJ];refine Cells.AF (by simpa using h2) ?_;rw[n8,h1,show k*size+size=(k+1)*size by rw[eJ];omega];exact k2
theorem SliceF.flat(h:SliceF r size w F s xs)(hx:xs≠[]):∃base css,s.a=some base/\F base.block/\n9 r size w F xs css/\Cells w base css.flatten:=by
 cases xs with
 | nil=>exact absurd rfl hx
 | cons x xs=>
  obtain⟨base,_,h1,h2,_⟩:=h.at_ 0 x rfl;obtain⟨css,k1,k2⟩:=SliceF.PE (r:=r) (size:=size) (w:=w) (F:=F) (base:=base) (x::xs) 0 (fun j y hj=>by
   obtain⟨b',cs,g1,g2,g3,g4,g5⟩:=h.at_ j y hj;rw[h1]at g1;injection g1 with g1;subst g1;exact⟨cs,g3,by simpa using g4,g5⟩)
  exact⟨base,css,h1,h2,k1,by rw[kD,Bc]at k2;exact k2⟩
theorem SliceF.of{base:Addr}{css:List (List aw)}(he:n9 r size w F xs css)(ha:s.a=some base)(hF:F base.block)(hc:Cells w base css.flatten)(hn:s.n=xs.length)(vV:s.n<=s.c)(h63:s.c<=9223372036854775807):SliceF r size w F s xs:=
 ⟨hn,vV,fun h=>(by rw[ha]at h;cases h),h63,fun j x hx=>by
  obtain⟨cs,h1,h2,h3⟩:=he.get hx;exact⟨base,cs,ha,hF,h2,fun i v hi=>by rw[n8];exact hc _ v (It he.sz h1 hi),h3⟩⟩
def Own(r:Rp α)(size:Nat)(e:TypeId)(B:Nat)(w:av)(F:Nat->Prop)(s:Sl)(xs:List α):Prop:=
 (s=Sl.nil/\xs=[])∨∃g css tail,s.a=some ⟨g,0,none⟩/\B<=g/\Blk w g e (css.flatten++tail)/\tail.length=(s.c-s.n)*size/\s.n=xs.length/\s.n<=s.c/\s.c<=9223372036854775807/\n9 r size w (fun k=>F k/\k≠g) xs css
theorem Own.len(h:Own r size e B w F s xs):s.n=xs.length:=by
 rcases h with⟨rfl,rfl⟩ | ⟨g,css,tail,_,_,_,_,h,_⟩
 ·rfl
 ·exact h
theorem Own.cap(h:Own r size e B w F s xs):s.n<=s.c:=by
 rcases h with⟨rfl,rfl⟩ | ⟨g,css,tail,_,_,_,_,_,h,_,_⟩
 ·exact aW _
 ·exact h
theorem Own.slice(hr:r.Ok)(h:Own r size e B w F s xs):SliceF r size w (fun k=>F k∨(B<=k/\s.a=some ⟨k,0,none⟩)) s xs:=by
 rcases h with⟨rfl,rfl⟩ | ⟨g,css,tail,h1,h2,h4,h5,h6,h7,h9,h8⟩
 ·exact SliceF.nil _ _ _ _
 ·exact SliceF.of (h8.mono hr fun k hk=>.inl hk.1) h1 (.inr ⟨h2,h1⟩) (h4.cells 0 _ fun j v hj=>by
   rw[bD,bJ (bc.1 hj).1];exact hj) h6 h7 h9
theorem Own.keep(hr:r.Ok)(h:Own r size e B w F s xs)(hk:∀k,(F k∨(B<=k/\s.a=some ⟨k,0,none⟩))->k<w.heap.size->w'.heap[k]? =w.heap[k]?):Own r size e B w' F s xs:=by
 rcases h with⟨rfl,rfl⟩ | ⟨g,css,tail,h1,h2,h4,h5,h6,h7,h9,h8⟩
 ·exact .inl ⟨rfl,rfl⟩
 ·exact .inr ⟨g,css,tail,h1,h2,(hk g (.inr ⟨h2,h1⟩) h4.lt).trans h4,h5,h6,h7,h9,h8.keep hr fun k hF=>hk k (.inl hF.1)⟩
theorem Own.mono(hr:r.Ok)(h:Own r size e B w F s xs)(hk:∀k,F k->G k):Own r size e B w G s xs:=by
 rcases h with⟨rfl,rfl⟩ | ⟨g,css,tail,h1,h2,h4,h5,h6,h7,h9,h8⟩
 ·exact .inl ⟨rfl,rfl⟩
 ·exact .inr ⟨g,css,tail,h1,h2,h4,h5,h6,h7,h9,h8.mono hr fun k h=>⟨hk k h.1,h.2⟩⟩
theorem Own.low{B':Nat}(h:Own r size e B w F s xs)(hB:B'<=B):Own r size e B' w F s xs:=by
 rcases h with⟨rfl,rfl⟩ | ⟨g,css,tail,h1,h2,h4⟩
 ·exact .inl ⟨rfl,rfl⟩
 ·exact .inr ⟨g,css,tail,h1,bh hB h2,h4⟩
theorem Own.nil(r:Rp α)(size:Nat)(e:TypeId)(B:Nat)(w:av)(F:Nat->Prop):Own r size e B w F Sl.nil []:=.inl ⟨rfl,rfl⟩
theorem Own.inHeap(hr:r.Ok)(h:Own r size e B w F s xs):Own r size e B w (fun k=>F k/\k<w.heap.size) s xs:=by
 rcases h with⟨rfl,rfl⟩ | ⟨g,css,tail,h1,h2,h4,h5,h6,h7,h9,h8⟩
 ·exact .inl ⟨rfl,rfl⟩
 ·exact .inr ⟨g,css,tail,h1,h2,h4,h5,h6,h7,h9,(h8.inHeap hr).mono hr fun k h=>⟨⟨h.1.1,h.2⟩,h.1.2⟩⟩
theorem Own.blk(h:Own r size e B w F s xs){ad:Addr}(ha:s.a=some ad):B<=ad.block/\ad.block<w.heap.size:=by
 rcases h with⟨rfl,rfl⟩ | ⟨g,css,tail,h1,h2,h4,_⟩
 ·cases ha
 ·rw[h1]at ha;injection ha with ha;subst ha;exact⟨h2,h4.lt⟩
theorem SliceF.aci(h:SliceF r size w F s xs):∃css,n9 r size w F xs css/\∀base,s.a=some base->Cells w base css.flatten:=by
 cases xs with
 | nil=>exact⟨[],trivial,fun b _=>Cells.nil _ _⟩
 | cons x xs=>
  obtain⟨base,css,h1,h2,h3,h4⟩:=h.flat (by simp);exact⟨css,h3,fun b hb=>by rw[h1]at hb;injection hb with hb;subst hb;exact h4⟩
theorem n9.HP{css:List (List aw)}(h:n9 r size w F xs css):css.flatten.length=xs.length*size:=by rw[yK h.sz,h.len]
theorem n9.one(hr:r.Ok){css:List (List aw)}(h:n9 r size w F xs css):∀v,v∈css.flatten->v.oneCell'=true:=fun v hv=>by
 obtain⟨c,hc,hv⟩:=List.mem_flatten.1 hv;obtain⟨x,_,hx⟩:=h.mem c hc;exact hr.one hx v hv
theorem ZS(l m:List aw)(z:Array aw):(l.toArray++m.toArray++z)=(l++m++z.toList).toArray:=by
 apply Array.ext';simp
section
variable {P:Program} {t ty:TypeId} {i:TypeInfo} {z:aw} {bytes:Nat}
theorem Ec(w:av)(k:Nat)(Gw:z.cells.size=size):(Builtin.zeroCells z.cells k).toList.length=k*size:=by
 rw[mL,size_zeroCells,Gw]
theorem KO(ht:P.underlying t=some (.slice e))(hi:P.info? e=some i)(hz:i.zero=some z)(oz:i.size=size)(Tf:i.bytes=bytes)(Gw:z.cells.size=size)
  (hr:r.Ok) {css:List (List aw)} (k1:n9 r size w F xs css) (k2:∀base,s.a=some base->Cells w base css.flatten) (PM:s.a=none->s.c=0) (sI:s.n=xs.length) (hsc:s.n<=s.c)
  (hy:SliceF r size w F y ys) (qk:s.c<s.n+y.n) (hm:(xs.length+ys.length)*bytes<=140737488355328) (DA:0<bytes):
  ∃s' w',(Builtin.append_ #[t,t] ty #[s.v,y.v]).run P w=.ok s'.v w'/\Own r size e w.heap.size w' F s' (xs++ys)/\Only [] w w'/\s'.a=some ⟨w.heap.size,0,none⟩:=by
 subst oz;subst Tf;have h63:xs.length+ys.length<=140737488355328:=bh (by have:=Nat.mul_le_mul_left (xs.length+ys.length) DA;omega) hm;have Q8:=hy.len;have Tg:y.n≠0:=by omega
 have hyx:ys≠[]:=fun h=>Tg (by rw[Q8,h];rfl);obtain⟨yb,DU,m1,m2,m3,m4⟩:=hy.flat hyx;obtain⟨sa,sn,sc⟩:=s;obtain⟨ya,yn,yc⟩:=y;dsimp only at sI hsc PM Q8 Tg qk m1 k2;subst m1;have hold:Only [] w w.drew:=Only.drew w;have key:∀(fx Kq:Nat),fx=sn+yn->∀W',W'=w.drew.alloc (.cells (css.flatten.toArray++DU.flatten.toArray++Builtin.zeroCells z.cells (grownCap w fx Kq e-fx)) e)->
   Own r i.size e w.heap.size W' F ⟨some ⟨w.heap.size,0,none⟩,fx,grownCap w fx Kq e⟩ (xs++ys)/\Only [] w W':=by
  rintro fx Kq rfl W' rfl;have hO:Only [] w (w.drew.alloc (.cells (css.flatten.toArray++DU.flatten.toArray++Builtin.zeroCells z.cells (grownCap w (sn+yn) Kq e-(sn+yn))) e)):=hold.cd (Only.alloc _ _);refine⟨.inr ⟨w.heap.size,css++DU,(Builtin.zeroCells z.cells (grownCap w (sn+yn) Kq e-(sn+yn))).toList,rfl,aW _,?_,Ec w _ Gw,?_,grownCap_ge _ _ _ _,grownCap_le_maxLen _ _ _ _ (by simp only[maxLen];omega),?_⟩,hO⟩
  ·rw[ZS,DP];exact Blk.alloc w.drew e _
  ·simp only[aN];omega
  ·refine((n9.mono hr (n9.inHeap hr (gq.AF k1 m3)) (G:=fun k=>F k/\k≠w.heap.size) fun k h=>⟨h.1,by have:=h.2;omega⟩)).keep hr fun k hk bQ=>hO.block k bQ (by simp)
 cases sa with
 | none=>
  have hsc:sc=0:=PM rfl;subst hsc;have Th:sn=0:=by omega
  subst Th;have hx:xs=[]:=bp sI.symm;subst hx;cases css with
  | cons c css=>exact k1.elim
  | nil=>
   have sJ:=run_append_nil (P:=P) w t ty e i z ht hi hz yb yn yc DU.flatten (by rw[m3.HP,Q8]) m4 (by omega) (by omega) (by
    have:(0+ys.length)*i.bytes<=140737488355328:=by simpa using hm
    rw[bD,<-Q8]at this;omega)
   obtain⟨g1,g2⟩:=key yn 0 (by simp) _ rfl;exact⟨⟨some ⟨w.heap.size,0,none⟩,yn,grownCap w yn 0 e⟩,_,sJ,by simpa using g1,by simpa using g2,rfl⟩
 | some b=>
  have sJ:=run_append_grow (P:=P) w t ty e i z ht hi hz b sn sc css.flatten (by rw[k1.HP,sI]) (k2 b rfl) yb yn yc DU.flatten (by rw[m3.HP,Q8]) m4 qk (by omega) (growslice_fits qk (by rw[sI,Q8];exact hm));obtain⟨g1,g2⟩:=key (sn+yn) sc rfl _ rfl;exact⟨⟨some ⟨w.heap.size,0,none⟩,sn+yn,grownCap w (sn+yn) sc e⟩,_,sJ,g1,g2,rfl⟩
theorem MT(ht:P.underlying t=some (.slice e))(hi:P.info? e=some i)(oz:i.size=size)
  (hr:r.Ok) {g:Nat} {css:List (List aw)} {tail:List aw} (ha:s.a=some ⟨g,0,none⟩) (hB:B<=g) (hb:Blk w g e (css.flatten++tail)) (Kr:tail.length=(s.c-s.n)*size) (hn:s.n=xs.length) (hc:s.n<=s.c) (h63:s.c<=9223372036854775807)
  (hE:n9 r size w (fun k=>F k/\k≠g) xs css) (hy:SliceF r size w (fun k=>F k/\k≠g) y ys) (qk:s.n+y.n<=s.c):
  ∃w',(Builtin.append_ #[t,t] ty #[s.v,y.v]).run P w=.ok (Sl.v ⟨s.a,s.n+y.n,s.c⟩) w'/\Own r size e B w' F ⟨s.a,s.n+y.n,s.c⟩ (xs++ys)/\Only [g] w w':=by
 subst oz;have Q8:=hy.len;obtain⟨sa,sn,sc⟩:=s;obtain⟨ya,yn,yc⟩:=y;dsimp only at ha hn hc Kr qk Q8;subst ha;obtain⟨DU,m3,m4⟩:=hy.aci;dsimp only at m4;have pj:css.flatten.length=sn*i.size:=by rw[hE.HP,hn]
 have wi:DU.flatten.length=yn*i.size:=by rw[m3.HP,Q8]
 have AX:sn*i.size+yn*i.size<=sn*i.size+tail.length:=by
  rw[Kr,<-eJ,<-eJ];exact dU _ (by omega)
 have sJ:(Builtin.append_ #[t,t] ty #[.slice (some ⟨g,0,none⟩) sn sc,.slice ya yn yc]).run P w=
   .ok (.slice (some ⟨g,0,none⟩) (sn+yn) sc) (w.setRow g ((css.flatten++DU.flatten)++tail.drop (yn*i.size)).toArray):=by
  have F4:((css.flatten++tail).toArray.toList.take (sn*i.size)++DU.flatten++(css.flatten++tail).toArray.toList.drop (sn*i.size+DU.flatten.length))=(css.flatten++DU.flatten)++tail.drop (yn*i.size):=by
   rw[fD,<-pj,List.take_left,wi,List.drop_append];rw[List.drop_eq_nil_of_le (by omega),ci,dE]
  cases ya with
  | some ya=>
   have:=run_append_room (P:=P) w t ty e i ht hi g sn sc (css.flatten++tail).toArray hb ya yn yc DU.flatten wi (m4 ya rfl) (m3.one hr) qk (by
    rw[lp,aN,wi,pj];exact AX)
   rw[this,F4]
  | none=>
   have hyx:ys=[]:=by
    cases ys with
    | nil=>rfl
    | cons x xs=>obtain⟨_,_,h,_⟩:=hy.at_ 0 x rfl;cases h
   subst hyx;have Tg:yn=0:=by simpa using Q8
   subst Tg;cases DU with
   | cons c cs=>exact m3.elim
   | nil=>
    have ql:w.setRow g ((css.flatten++([]:List (List aw)).flatten)++tail.drop (0*i.size)).toArray=w:=by
     have:=setRow_self w g (css.flatten++tail).toArray e (0,0) hb;simpa using this
    rw[ql];have WY:sn<=sc:=hc;simp[Builtin.append_,run_underlying ht,sizeOf,typeInfo,hi,Builtin.lenOf,Builtin.firstCells,WY,storeCells]
 have hO:Only [g] w (w.setRow g ((css.flatten++DU.flatten)++tail.drop (yn*i.size)).toArray):=Only.setRow _ _ _;refine⟨_,sJ,.inr ⟨g,css++DU,tail.drop (yn*i.size),rfl,hB,?_,?_,?_,qk,h63,?_⟩,hO⟩
 ·rw[DP];exact hb.setRow _
 ·rw[bX,Kr,<-Nat.sub_mul];congr 1;dsimp only;omega
 ·dsimp only;rw[aN];omega
 ·exact n9.keep hr (gq.AF hE m3) fun k hk bQ=>hO.block k bQ (by simpa using hk.2)
theorem qx(ht:P.underlying t=some (.slice e))(hi:P.info? e=some i)(hz:i.zero=some z)(oz:i.size=size)(Tf:i.bytes=bytes)(Gw:z.cells.size=size)
  (hr:r.Ok) (hs:Own r size e B w F s xs) (hy:SliceF r size w (fun k=>F k/\s.a≠some ⟨k,0,none⟩) y ys) (hB:B<=w.heap.size) (hm:(xs.length+ys.length)*bytes<=140737488355328) (DA:0<bytes):
  ∃s' w',(Builtin.append_ #[t,t] ty #[s.v,y.v]).run P w=.ok s'.v w'/\Own r size e B w' F s' (xs++ys)/\∃gs,Only gs w w'/\(∀g,g∈gs->s.a=some ⟨g,0,none⟩/\B<=g/\g<w.heap.size)/\(s'.a=s.a∨s'.a=some ⟨w.heap.size,0,none⟩):=by
 by_cases qk:s.n+y.n<=s.c
 ·rcases hs with⟨rfl,rfl⟩ | ⟨g,css,tail,h1,h2,h4,h5,h6,h7,h9,h8⟩
  ·have Tg:y.n=0:=by simpa using qk
   have hyx:ys=[]:=by have:=hy.len;rw[Tg]at this;exact bp this.symm
   subst hyx;refine⟨Sl.nil,w,?_,.inl ⟨rfl,rfl⟩,[],Only.refl _ _,by simp,.inl rfl⟩;obtain⟨ya,yn,yc⟩:=y;dsimp only at Tg;subst Tg;cases ya<;>simp[Builtin.append_,run_underlying ht,sizeOf,typeInfo,hi,Builtin.lenOf,Builtin.firstCells,loadCells,loadCellsFrom]
  ·obtain⟨w',k1,k2,k3⟩:=MT (ty:=ty) ht hi oz hr h1 h2 h4 h5 h6 h7 h9 h8 (hy.mono hr fun k hk=>⟨hk.1,fun h=>hk.2 (by rw[h,h1])⟩) qk;exact⟨_,w',k1,k2,[g],k3,fun g' hg'=>by simp only[aO]at hg';subst hg';exact⟨h1,h2,h4.lt⟩,.inl rfl⟩
 ·have sI:=hs.len;have hsc:=hs.cap;have hy':SliceF r size w F y ys:=hy.mono hr fun k hk=>hk.1;have go:∀css,n9 r size w F xs css->(∀base,s.a=some base->Cells w base css.flatten)->(s.a=none->s.c=0)->
    ∃s' w',(Builtin.append_ #[t,t] ty #[s.v,y.v]).run P w=.ok s'.v w'/\Own r size e B w' F s' (xs++ys)/\∃gs,Only gs w w'/\(∀g,g∈gs->s.a=some ⟨g,0,none⟩/\B<=g/\g<w.heap.size)/\(s'.a=s.a∨s'.a=some ⟨w.heap.size,0,none⟩):=by
   intro css k1 k2 k3;obtain⟨s',w',g1,g2,g3,g4⟩:=KO (ty:=ty) ht hi hz oz Tf Gw hr k1 k2 k3 sI hsc hy' (by omega) hm DA;exact⟨s',w',g1,g2.low hB,[],g3,by simp,.inr g4⟩
  rcases hs with⟨rfl,rfl⟩ | ⟨g,css,tail,h1,h2,h4,h5,h6,h7,h9,h8⟩
  ·exact go [] trivial (fun _ h=>by cases h) (fun _=>rfl)
  ·refine go css (h8.mono hr fun k hk=>hk.1) (fun base hb=>?_) (fun h=>by rw[h1]at h;cases h);rw[h1]at hb;injection hb with hb;subst hb;exact h4.cells 0 _ fun j v hj=>by
    rw[bD,bJ (bc.1 hj).1];exact hj
theorem yL(w:av)(ht:P.underlying t=some (.slice e))(hi:P.info? e=some i):(Instr.buildSlice t 0 #[]).run P w=.ok (.slice (some ⟨w.heap.size,0,none⟩) 0 0) (w.alloc (.cells #[] e)):=by
 have h0:Array.map (fun _=>(default:aw)) (Array.range 0)=#[]:=Array.ext' (by simp);simp[Instr.buildSlice,run_underlying ht,sizeOf,typeInfo,hi,Instr.fill,newRow,h0]
theorem lf(ht:P.underlying t=some (.slice e))(hi:P.info? e=some i)(hz:i.zero=some z)(oz:i.size=size)(h0:0<size){vs:List aw}{len:Nat}{parts:Array (Nat×aw)}
  (hp:parts=((vs.zipIdx 0).map fun x=>(x.2,x.1)).toArray) (hl:vs.length=len) (hl0:0<len) (tT:len*size<=16777216)
  (hr:r.Ok) (hE:n9 r size w F xs (vs.map fun v=>v.cells.toList)):
  ∃s w',(Instr.buildSlice t len parts).run P w=.ok (Sl.v s) w'/\Own r size e w.heap.size w' F s xs/\Only [] w w'/\s.a=some ⟨w.heap.size,0,none⟩/\s.n=xs.length/\s.c=xs.length:=by
 subst oz;subst hp;subst hl;have HT:xs.length=vs.length:=by have:=hE.len;rwa[bZ]at this
 have hsz:∀v,v∈vs->v.cells.size=i.size:=fun v hv=>by
  have:=hE.sz _ (kF.2 ⟨v,hv,rfl⟩);simpa using this
 have sJ:=run_buildSlice (P:=P) w t e vs.length ((vs.zipIdx 0).map fun x=>(x.2,x.1)).toArray (vs.flatMap fun v=>v.cells.toList).toArray i z ht hi hz (by omega)
  (by have:=Nat.mul_lt_mul_of_pos_left h0 hl0;omega)
  (by rw[fD];exact Go.Great.fill_whole h0 vs _ hsz (by simp))
 have hO:Only [] w (w.alloc (.cells (vs.flatMap fun v=>v.cells.toList).toArray e)):=Only.alloc _ _;refine⟨⟨some ⟨w.heap.size,0,none⟩,vs.length,vs.length⟩,_,sJ,.inr ⟨w.heap.size,vs.map (fun v=>v.cells.toList),[],rfl,aW _,?_,by simp,HT.symm,aW _,?_,?_⟩,hO,rfl,HT.symm,HT.symm⟩
 ·rw[bL,List.flatMap_def.symm.trans rfl];exact Blk.alloc w e _
 ·have:vs.length<=vs.length*i.size:=Nat.le_mul_of_pos_right _ h0;dsimp only;omega
 ·exact((n9.mono hr (n9.inHeap hr hE) (G:=fun k=>F k/\k≠w.heap.size) fun k h=>⟨h.1,by have:=h.2;omega⟩)).keep hr fun k hk bQ=>hO.block k bQ (by simp)
end
end
def ki:Rp UInt8:=fun _ _ b cs=>cs=[fW b]
theorem pJ:ki.Ok where
 keep h _:=h
 inHeap h:=h
 mono h _:=h
 one h v hv:=by
  rw[show _=[fW _]from h]at hv;simp only[aO]at hv;subst hv;rfl
theorem BytesF.slice{w:av}{F:Nat->Prop}{s:Sl}{l:List UInt8}(h:BytesF w F s l)(h0:s.a=none->s.c=0)(hb:s.c<=9223372036854775807):SliceF ki 1 w F s l:=
 ⟨h.rd.1,h.cap,h0,hb,fun j x hx=>by
  have hl:l≠[]:=fun e=>by rw[e]at hx;simp at hx
  obtain⟨ad,h1,h2⟩:=h.rd.2 hl;exact⟨ad,[fW x],h1,h.blk ad h1 hl,rfl,by rw[uT];exact h2.ec j _ (by rw[cX,hx];rfl),rfl⟩⟩
theorem SliceF.bytes{w:av}{F:Nat->Prop}{s:Sl}{l:List UInt8}(h:SliceF ki 1 w F s l):BytesF w F s l:=
 ⟨⟨h.len,fun hl=>by
  obtain⟨base,css,h1,h2,h3,h4⟩:=h.flat hl;refine⟨base,h1,?_⟩;have:∀(l:List UInt8) (css:List (List aw)),n9 ki 1 w F l css->css.flatten=l.map fW:=by
   intro l
   induction l with
   | nil=>intro css h;cases css with
    | nil=>rfl
    | cons c cs=>exact h.elim
   | cons b l ih=>intro css h;cases css with
    | nil=>exact h.elim
    | cons c cs=>
     obtain⟨⟨_,h1⟩,h2⟩:=h;rw[cJ,ih cs h2,show c=[fW b]from h1];rfl
  rw[<-this l css h3];exact h4⟩,h.cap,fun ad ha hl=>by
   obtain⟨base,css,h1,h2,_⟩:=h.flat hl;rw[ha]at h1;injection h1 with h1;rw[h1];exact h2⟩
def uv:Rp Int:=fun _ _ x cs=>cs=[.int .i64 x]/\wa x
theorem xZ:uv.Ok where
 keep h _:=h
 inHeap h:=h
 mono h _:=h
 one h v hv:=by
  rw[h.1]at hv;simp only[aO]at hv;subst hv;rfl
structure OnlyP (F:Nat->Prop) (w w':av):Prop where
 os:w'.os=w.os
 tape:w'.tape=w.tape
 output:w'.output=w.output
 size:w.heap.size<=w'.heap.size
 block:∀k,k<w.heap.size->¬F k->w'.heap[k]? =w.heap[k]?
section
variable {w w' rn:av} {F G:Nat->Prop} {bs:List Nat}
theorem Only.p(h:Only bs w w')(hb:∀b,b∈bs->F b∨w.heap.size<=b):OnlyP F w w':=
 ⟨h.os,h.tape,h.output,h.size,fun k hk hn=>h.block k hk fun hm=>(hb k hm).elim hn fun h=>by omega⟩
theorem Only.p0(h:Only [] w w'):OnlyP F w w':=h.p (by simp)
theorem OnlyP.refl(F:Nat->Prop)(w:av):OnlyP F w w:=(Only.refl [] w).p0
theorem OnlyP.mono(h:OnlyP F w w')(hb:∀k,k<w.heap.size->F k->G k):OnlyP G w w':=⟨h.os,h.tape,h.output,h.size,fun k hk hn=>h.block k hk fun hf=>hn (hb k hk hf)⟩
theorem OnlyP.trans(h:OnlyP F w w')(k:OnlyP G w' rn)(hb:∀k,G k->F k∨w.heap.size<=k):OnlyP F w rn:=
 ⟨k.os.trans h.os,k.tape.trans h.tape,k.output.trans h.output,bh h.size k.size,fun i hi hn=>
  (k.block i (cD hi h.size) fun hg=>(hb i hg).elim hn fun h=>by omega).trans (h.block i hi hn)⟩
theorem OnlyP.cd(h:OnlyP F w w')(k:Only [] w' rn):OnlyP F w rn:=h.trans (k.p0 (F:=fun _=>False)) fun _ h=>h.elim
theorem Only.wT(h:Only [] w w')(k:OnlyP F w' rn):OnlyP F w rn:=(h.p0 (F:=F)).trans k fun _ h=>.inl h
theorem OnlyP.only(h:OnlyP F w w')(hb:∀k,F k->w.heap.size<=k):Only [] w w':=
 ⟨h.os,h.tape,h.output,h.size,fun k hk _=>h.block k hk fun hf=>by have:=hb k hf;omega⟩
theorem OnlyP.acj(h:OnlyP F w w')(hb:∀k,F k->k∈bs∨w.heap.size<=k):Only bs w w':=
 ⟨h.os,h.tape,h.output,h.size,fun k hk hn=>h.block k hk fun hf=>(hb k hf).elim hn fun h=>by omega⟩
theorem OnlyP.same(h:OnlyP F w w')(hl:∀x,x∈bs->x<w.heap.size/\¬F x):bS bs w w':=fun x hx=>h.block x (hl x hx).1 (hl x hx).2
theorem OnlyP.blk(h:OnlyP F w w'){b:Nat}{t:TypeId}{cs:List aw}(hb:Blk w b t cs)(hn:¬F b):Blk w' b t cs:=(h.block b hb.lt hn).trans hb
end
section
variable {α:Type} {r:Rp α} {size:Nat} {w w':av} {F G:Nat->Prop} {s:Sl} {xs:List α} {e:TypeId} {B:Nat} {bs:List Nat}
theorem SliceF.only(hr:r.Ok)(h0:0<size)(h:SliceF r size w F s xs)(hO:Only bs w w')(hb:∀k,F k->k<w.heap.size->k∉bs):SliceF r size w' F s xs:=
 h.keep hr h0 fun k hF bQ=>hO.block k bQ (hb k hF bQ)
theorem SliceF.rc(hr:r.Ok)(h0:0<size)(h:SliceF r size w F s xs)(hO:OnlyP G w w')(hb:∀k,F k->k<w.heap.size->¬G k):SliceF r size w' F s xs:=
 h.keep hr h0 fun k hF bQ=>hO.block k bQ (hb k hF bQ)
theorem Rp.Ok.only(hr:r.Ok){x:α}{cs:List aw}(h:r w F x cs)(hO:Only bs w w')(hb:∀k,F k->k<w.heap.size->k∉bs):r w' F x cs:=hr.keep h fun k hF bQ=>hO.block k bQ (hb k hF bQ)
theorem n9.at(h:∃css:List (List aw),n9 r size w F xs css):True:=trivial
theorem n9.setAt{css:List (List aw)}(h:n9 r size w F xs css)(j:Nat){x:α}{c:List aw}(hc:c.length=size)(hx:r w F x c):n9 r size w F (xs.set j x) (css.set j c):=gq.set j h ⟨hc,hx⟩
theorem Ed{css:List (List aw)}{tail:List aw}:∀{n:Nat} {cs vs:List aw},(∀c,c∈css->c.length=size)->css[n]? =some cs->vs.length=size->
  ca (css.flatten++tail) (n*size) vs=(css.set n vs).flatten++tail:=by
 induction css with
 | nil=>intro n cs vs _ h;simp at h
 | cons c css ih=>
  intro n cs vs hs hn hv;have hc:=hs c (by simp);cases n with
  | zero=>
   simp only[ca,kD,dr,ci,bD,ua,cJ,be,hv];rw[<-hc,List.drop_left]
  | succ n=>
   simp only[cW]at hn;have:=ih (fun d hd=>hs d (by simp[hd])) hn hv;have e:(n+1)*size=c.length+n*size:=by rw[eJ,hc];omega
   simp only[ca]at this⊢;simp only[cJ,List.set_cons_succ,be];rw[e,Ru,fe,Rv,<-this];simp
end
section
variable {α:Type} {r:Rp α} {size:Nat} {w w':av} {F G:Nat->Prop} {s:Sl} {xs:List α} {e:TypeId} {B:Nat} {P:Program} {t ty:TypeId} {i:TypeInfo} {z v:aw} {bytes:Nat} {x:α}
theorem nG(ht:P.underlying t=some (.slice e))(hi:P.info? e=some i)(hz:i.zero=some z)(oz:i.size=size)(Tf:i.bytes=bytes)(Gw:z.cells.size=size)(h0:0<size)(DA:0<bytes)(tT:1*size<=16777216)
  (hr:r.Ok) (hs:Own r size e B w F s xs) (hB:B<=w.heap.size) (hv:v.cells.toList.length=size) (hx:r w G x v.cells.toList) (hG:∀k,G k->k<w.heap.size->F k/\s.a≠some ⟨k,0,none⟩) (hm:(xs.length+1)*bytes<=140737488355328):
  ∃y w1,(Instr.buildSlice t 1 #[(0,v)]).run P w=.ok (Sl.v y) w1/\Only [] w w1/\∃s' w2,(Builtin.append_ #[t,t] ty #[Sl.v s,Sl.v y]).run P w1=.ok (Sl.v s') w2/\
   Own r size e B w2 (fun k=>F k∨w.heap.size<=k) s' (xs++[x])/\(∃gs,Only gs w1 w2/\∀g,g∈gs->s.a=some ⟨g,0,none⟩/\B<=g/\g<w.heap.size)/\(s'.a=s.a∨∃g,s'.a=some ⟨g,0,none⟩/\w.heap.size<=g):=by
 obtain⟨y,w1,k1,k2,k3,k4,k5,k6⟩:=lf (P:=P) (t:=t) (e:=e) (i:=i) (z:=z) (w:=w) (F:=fun k=>G k/\k<w.heap.size) (vs:=[v]) (parts:=#[(0,v)]) (len:=1) (xs:=[x]) (r:=r) (size:=size) ht hi hz oz h0 rfl rfl (by decide) tT hr ⟨⟨hv,hr.inHeap hx⟩,trivial⟩;have PN:Own r size e B w1 (fun k=>F k∨w.heap.size<=k) s xs:=((hs.inHeap hr).keep hr fun k _ bQ=>k3.block k bQ (by simp)).mono hr fun k hk=>.inl hk.1;have hy:=(k2.slice hr).mono hr (G:=fun k=>(F k∨w.heap.size<=k)/\s.a≠some ⟨k,0,none⟩) fun k hk=>by
  rcases hk with⟨hk,bQ⟩ | ⟨hk,_⟩
  ·exact⟨.inl (hG k hk bQ).1,(hG k hk bQ).2⟩
  ·exact⟨.inr hk,fun ha=>by have:=(hs.blk ha).2;dsimp only at this;omega⟩
 obtain⟨s',w2,g1,g2,gs,g3,g4,g5⟩:=qx (ty:=ty) ht hi hz oz Tf Gw hr PN hy (bh hB k3.size) hm DA;refine⟨y,w1,k1,k3,s',w2,g1,g2,⟨gs,g3,fun g hg=>⟨(g4 g hg).1,(g4 g hg).2.1,(hs.blk (g4 g hg).1).2⟩⟩,?_⟩;rcases g5 with h | h
 ·exact .inl h
 ·exact .inr ⟨_,h,k3.size⟩
theorem Own.store(hr:r.Ok)(hs:Own r size e B w F s xs){n:Nat}(hn:n<xs.length){x:α}{vs:List aw}(hv:vs.length=size)(hx:r w G x vs)(hG:∀k,G k->k<w.heap.size->F k/\s.a≠some ⟨k,0,none⟩)(h0:0<size):
  ∃g cells,s.a=some ⟨g,0,none⟩/\dl s n size ⟨g,n*size,none⟩/\Blk w g e cells/\n*size+size<=cells.length/\
   ∀w',Only [g] w w'->Blk w' g e (ca cells (n*size) vs)->Own r size e B w' F s (xs.set n x):=by
 rcases hs with⟨rfl,rfl⟩ | ⟨g,css,tail,h1,h2,h4,h5,h6,h7,h9,h8⟩
 ·simp at hn
 have pj:=h8.len;have hcn:n<css.length:=by omega
 have Ti:css.flatten.length=css.length*size:=yK h8.sz;have AX:n*size+size<=css.length*size:=by
  have:=dU size (show n+1<=css.length by omega);rw[eJ]at this;omega
 refine⟨g,_,h1,⟨_,h1,by omega,by omega,by rw[fZ,aX,bD]⟩,h4,by rw[aN];omega,fun w' hO hb=>.inr ⟨g,css.set n vs,tail,h1,h2,?_,h5,by rw[nD];exact h6,h7,h9,?_⟩⟩
 ·rw[Ed h8.sz (bG hcn) hv]at hb;exact hb
 ·refine n9.setAt (h8.keep hr fun k hk bQ=>hO.block k bQ (by simpa using hk.2)) n hv (hr.keep (w:=w) (F:=fun k=>F k/\k≠g) ?_ fun k hk bQ=>hO.block k bQ (by simpa using hk.2));refine hr.mono (hr.inHeap hx) fun k hk=>?_;obtain⟨p1,p2⟩:=hG k hk.1 hk.2;exact⟨p1,fun e=>p2 (by rw[h1,e])⟩
theorem KP(ht:P.underlying t=some (.slice e))(hi:P.info? e=some i)(r:Rp α)(size:Nat)(w:av)(F:Nat->Prop):
  ∃y w1,(Instr.buildSlice t 0 #[]).run P w=.ok (Sl.v y) w1/\Own r size e w.heap.size w1 F y []/\Only [] w w1:=
 ⟨⟨some ⟨w.heap.size,0,none⟩,0,0⟩,_,yL w ht hi,.inr ⟨w.heap.size,[],[],rfl,aW _,Blk.alloc w e [],by simp,rfl,aW _,bd _,trivial⟩,Only.alloc _ _⟩
end
theorem Own.ack{α:Type}{r:Rp α}{size:Nat}{w:av}{F:Nat->Prop}{s:Sl}{xs:List α}{e:TypeId}{B:Nat}(hr:r.Ok)(hs:Own r size e B w F s xs){n:Nat}{x:α}(hx:xs[n]? =some x):
  ∃g cells cs,s.a=some ⟨g,0,none⟩/\dl s n size ⟨g,n*size,none⟩/\Blk w g e cells/\cs.length=size/\Cells w ⟨g,n*size,none⟩ cs/\r w (fun k=>F k/\k≠g) x cs/\
   ∀(off:Nat) (v:aw) (y:α) (G:Nat->Prop),off<size->r w G y (cs.set off v)->(∀k,G k->k<w.heap.size->F k/\k≠g)->
    n*size+off+1<=cells.length/\∀w',Only [g] w w'->Blk w' g e (ca cells (n*size+off) [v])->Own r size e B w' F s (xs.set n y):=by
 rcases hs with⟨rfl,rfl⟩ | ⟨g,css,tail,h1,h2,h4,h5,h6,h7,h9,h8⟩
 ·simp at hx
 obtain⟨cs,k1,k2,k3⟩:=h8.get hx;have pj:=h8.len;have hn:=(bc.1 hx).1;have Ti:css.flatten.length=css.length*size:=yK h8.sz;have AX:n*size+size<=css.length*size:=by
  have:=dU size (show n+1<=css.length by omega);rw[eJ]at this;omega
 refine⟨g,_,cs,h1,⟨_,h1,by omega,by omega,by rw[fZ,aX,bD]⟩,h4,k2,h4.cells _ _ fun j v hj=>?_,k3,fun off v y G ho hy hG=>⟨by rw[aN];omega,fun w' hO hb=>.inr ⟨g,css.set n (cs.set off v),tail,h1,h2,?_,h5,by rw[nD];exact h6,h7,h9,?_⟩⟩⟩
 ·have:=It h8.sz k1 hj;rw[bJ (bc.1 this).1];exact this
 ·rw[GW (by rw[aN];omega),Eb h8.sz k1 ho]at hb;exact hb
 ·refine n9.setAt (h8.keep hr fun k hk bQ=>hO.block k bQ (by simpa using hk.2)) n (by rw[nD];exact k2) ?_;refine hr.mono (hr.keep (hr.inHeap hy) fun k hk bQ=>hO.block k bQ (by simpa using(hG k hk.1 hk.2).2)) fun k hk=>hG k hk.1 hk.2
theorem gq.acm{α β:Type}{P:β->List aw->Prop}{f:α->β}:∀{xs:List α} {css:List (List aw)},gq P (xs.map f) css↔gq (fun x cs=>P (f x) cs) xs css
 | [],[]=>Iff.rfl
 | x::xs,c::cs=>by simp only[bE,gq,gq.acm (xs:=xs) (css:=cs)]
 | [],_::_=>Iff.rfl
 | _::_,[]=>Iff.rfl
theorem gq.PF{α:Type}{P Q:α->List aw->Prop}:∀{xs:List α} {css:List (List aw)},(∀x c,x∈xs->P x c->Q x c)->gq P xs css->gq Q xs css
 | [],[],_,_=>trivial
 | x::xs,c::cs,hi,h=>⟨hi _ _ (by simp) h.1,gq.PF (xs:=xs) (css:=cs) (fun y d hy=>hi y d (by simp[hy])) h.2⟩
 | [],_::_,_,h=>h.elim
 | _::_,[],_,h=>h.elim
theorem Own.map{α β:Type}{r:Rp α}{q:Rp β}{size:Nat}{w:av}{F G:Nat->Prop}{s:Sl}{xs:List α}{e:TypeId}{B:Nat}(f:α->β)(h:Own r size e B w F s xs)(hf:∀g x cs,x∈xs->r w (fun k=>F k/\k≠g) x cs->q w (fun k=>G k/\k≠g) (f x) cs):Own q size e B w G s (xs.map f):=by
 rcases h with⟨rfl,rfl⟩ | ⟨g,css,tail,h1,h2,h4,h5,h6,h7,h9,h8⟩
 ·exact .inl ⟨rfl,rfl⟩
 ·exact .inr ⟨g,css,tail,h1,h2,h4,h5,by rw[bZ];exact h6,h7,h9,gq.acm.2 (gq.PF (fun x c hx hc=>⟨hc.1,hf g x c hx hc.2⟩) h8)⟩
section
variable {P:Program} {w:av}
theorem AI{z:Array aw}(hz:∀v,v∈z->v.oneCell'=true)(h0:0<z.size)(n:Nat):∀v,v∈(Builtin.zeroCells z n).toList->v.oneCell'=true:=fun v hv=>by
 have hv':v∈Builtin.zeroCells z n:=by simpa using hv
 simp only[Builtin.zeroCells,Array.mem_map,Array.mem_range]at hv';obtain⟨i,hi,rfl⟩:=hv';have bQ:i % z.size<z.size:=Nat.mod_lt _ h0;rw[getElem!_pos z (i % z.size) bQ];exact hz _ (Array.getElem_mem bQ)
theorem AJ{t e ty:TypeId}{z:aw}(ht:P.underlying t=some (.slice e))(hv:∀w,(zeroValue e).run P w=.ok z w)(h1:∀v,v∈z.cells->v.oneCell'=true)(WZ:0<z.cells.size){g o n c:Nat}{bt:TypeId}{cs:List aw}(hn:0<n)
  (hb:Blk w g bt cs) (HS:o+n*z.cells.size<=cs.length):
  (Builtin.clear_ #[t] ty #[.slice (some ⟨g,o,none⟩) n c]).run P w=.ok (.tuple #[]) (w.setRow g (cs.take o++(Builtin.zeroCells z.cells n).toList++cs.drop (o+n*z.cells.size)).toArray):=by
 have hl:(Builtin.zeroCells z.cells n).toList.length=n*z.cells.size:=by rw[mL,size_zeroCells]
 have lj:=run_storeCells_at P g o bt (Builtin.zeroCells z.cells n).toList 0 cs.toArray w hb (by rw[hl];simpa using HS) (AI h1 WZ n);simp only[fp,hl,fD]at lj;obtain⟨m,rfl⟩:∃m,n=m+1:=⟨n-1,by omega⟩
 simp[Builtin.clear_,run_underlying ht,hv,lj]
theorem Own.clear{α:Type}{r:Rp α}{size:Nat}{F:Nat->Prop}{s:Sl}{xs:List α}{e:TypeId}{B:Nat}{t ty:TypeId}{z:aw}(hr:r.Ok)(h0:0<size)(ht:P.underlying t=some (.slice e))(hv:∀w,(zeroValue e).run P w=.ok z w)(h1:∀v,v∈z.cells->v.oneCell'=true)(Gw:z.cells.size=size)
  (hs:Own r size e B w F s xs) {i:Nat} (hi:i<xs.length):
  ∃w' g,(Builtin.clear_ #[t] ty #[Sl.v (Sl.cut s i s.n s.c size)]).run P w=.ok (.tuple #[]) w'/\s.a=some ⟨g,0,none⟩/\Only [g] w w'/\Own r size e B w' F (Sl.cut s 0 i s.c size) (xs.take i):=by
 rcases hs with⟨rfl,rfl⟩ | ⟨g,css,tail,a1,a2,a4,a5,a6,a7,a9,a8⟩
 ·simp at hi
 obtain⟨sa,sn,sc⟩:=s;dsimp only at a1 a5 a6 a7 a9;subst a1;have Ti:=a8.HP;have PO:Sl.cut ⟨some ⟨g,0,none⟩,sn,sc⟩ i sn sc size=⟨some ⟨g,i*size,none⟩,sn-i,sc-i⟩:=by
  simp only[Sl.cut];rw[if_neg (by omega)];simp only[cV,fZ,bD]
 have e1:i*size+(sn-i)*size=sn*size:=by rw[<-eJ];congr 1;omega
 have sJ:=AJ (P:=P) (w:=w) (t:=t) (ty:=ty) ht hv h1 (by omega) (g:=g) (o:=i*size) (n:=sn-i) (c:=sc-i) (by omega) a4 (by rw[Gw,e1,aN,Ti,a6];omega);have hO:Only [g] w _:=Only.setRow w g (((css.flatten++tail).take (i*size)++(Builtin.zeroCells z.cells (sn-i)).toList++(css.flatten++tail).drop (i*size+(sn-i)*z.cells.size)).toArray);refine⟨_,g,by rw[PO];exact sJ,rfl,hO,?_⟩;have acB:Sl.cut ⟨some ⟨g,0,none⟩,sn,sc⟩ 0 i sc size=⟨some ⟨g,0,none⟩,i,sc⟩:=by
  simp only[Sl.cut];split<;>simp[Addr.add]
 rw[acB];have nZ:(css.flatten++tail).take (i*size)=(css.take i).flatten:=by
  rw[MH (by rw[Ti,<-a6];exact dU _ (by omega)),KN a8.sz]
 refine .inr ⟨g,css.take i,(Builtin.zeroCells z.cells (sn-i)).toList++(css.flatten++tail).drop (i*size+(sn-i)*z.cells.size),rfl,a2,?_,?_,?_,by dsimp only;omega,a9,?_⟩
 ·have:=a4.setRow ((css.flatten++tail).take (i*size)++(Builtin.zeroCells z.cells (sn-i)).toList++(css.flatten++tail).drop (i*size+(sn-i)*z.cells.size));rw[be,nZ]at this;rw[nZ];simpa only[be]using this
 ·simp only[aN,bX,Ti,<-a6,mL,size_zeroCells,a5,Gw,e1];rw[dE,<-eJ];congr 1;omega
 ·rw[cP];dsimp only;omega
 ·refine n9.keep hr (gq.take i a8) fun k hk bQ=>hO.block k bQ (by simpa using hk.2)
end
theorem TU(l m:List UInt8):((⟨List.toArray l⟩:ByteArray).toList==(⟨List.toArray m⟩:ByteArray).toList)=decide (l=m):=by
 have e:∀l:List UInt8,(⟨List.toArray l⟩:ByteArray).toList=l:=fun l=>by simp[ByteArray.toList_eq]
 rw[e,e];by_cases h:l=m<;>simp[h]
end Go.Kt
namespace Go.Kt
open Go renaming World->av,Value->aw
open Go Go.RowKit Go.MapKept
set_option linter.unusedSimpArgs false
set_option linter.unusedVariables false
structure MapI (w:av) (r:Nat) (m:Int->Option Int):Prop where
 mem:∃es clock,w.heap[r]? =some (.map es clock)/\(∀x,x∈es.toList->∃k v,x.key=.int .i64 k/\x.val=.int .i64 v)/\es.toList.Pairwise (fun x y=>x.key≠y.key)/\
  ∀k v,m k=some v↔∃x,x∈es.toList/\x.key=.int .i64 k/\x.val=.int .i64 v
section
variable {P:Program} {w w':av} {r:Nat} {m:Int->Option Int} {mty kt et:TypeId}
theorem MapI.keep(h:MapI w r m)(hk:w'.heap[r]? =w.heap[r]?):MapI w' r m:=by
 obtain⟨es,c,h1,h2⟩:=h.mem;exact⟨es,c,hk.trans h1,h2⟩
theorem MapI.lt(h:MapI w r m):r<w.heap.size:=by
 obtain⟨es,c,h1,h2⟩:=h.mem;exact(lK.1 h1).1
theorem MapI.only(h:MapI w r m){bs:List Nat}(hO:Only bs w w')(hn:r∉bs):MapI w' r m:=h.keep (hO.block r h.lt hn)
end
end Go.Kt
namespace Go.Kt
open Go renaming World->av,Value->aw
open Go Go.RowKit
set_option linter.unusedSimpArgs false
set_option linter.unusedVariables false
@[reducible] def T(l:List UInt8):ByteArray:=⟨l.toArray⟩
theorem wl(s:ByteArray):s=T s.data.toList:=by
 obtain⟨⟨l⟩⟩:=s;rfl
theorem bW(l:List UInt8):(T l).size=l.length:=by simp[T,ByteArray.size]
theorem lq(l:List UInt8)(i:Nat):(T l)[i]? =l[i]? :=by
 by_cases h:i<l.length
 ·rw[bG h,getElem?_pos (T l) i (by rw[bW];exact h)];rfl
 ·rw[cK (by omega),getElem?_neg (T l) i (by rw[bW];exact h)]
theorem rI(l:List UInt8)(a b:Nat):(T l).extract a b=T ((l.drop a).take (b-a)):=by
 rw[wl ((T l).extract a b),Lib.extract_data]
theorem dZ(l m:List UInt8):T l++T m=T (l++m):=by
 apply ByteArray.ext;simp[T]
theorem iO(l m:List UInt8):((T l).toList==(T m).toList)=decide (l=m):=TU l m
def tH(us:Nat->aw):List (Nat×aw)->Nat->aw
 | [],i=>us i
 | (k,v)::r,i=>bif Nat.beq k i then v else tH us r i
def xo:List (Nat×aw)->Nat->Option aw
 | [],_=>none
 | (k,v)::r,i=>bif Nat.beq k i then some v else xo r i
def RG(us:Nat->aw)(l:List (Nat×aw)):Nat->Nat->List aw
 | 0,_=>[]
 | n+1,i=>tH us l i::RG us l n (i+1)
def fr(n:Nat)(us:Nat->aw)(l:List (Nat×aw)):Act:=⟨(RG us l n 0).toArray,[]⟩
def evO(n:Nat)(l:List (Nat×aw)):Operand->Option aw
 | .tmp k=>bif Nat.blt k n then xo l k else none
 | .const v=>some v
 | .global g=>some (.pointer (some ⟨g,0,none⟩))
 | .func f=>some (.func (.func f) #[] #[])
def pl:Option Tmp->aw->List (Nat×aw)->List (Nat×aw)
 | some k,v,l=>(k,v)::l
 | none,_,l=>l
def Cj:Nat->List aw->List (Nat×aw)
 | _,[]=>[]
 | i,v::r=>(i,v)::Cj (i+1) r
section
variable {n0:Nat} {us0:Nat->aw} {l0:List (Nat×aw)}
theorem nH(us:Nat->aw)(l:List (Nat×aw)):∀n i,(RG us l n i).length=n
 | 0,_=>rfl
 | n+1,i=>by simp only[RG,aR,nH us l n (i+1)]
theorem mC(us:Nat->aw)(l:List (Nat×aw)):∀n i k,k<n->(RG us l n i)[k]? =some (tH us l (i+k))
 | 0,_,_,h=>by omega
 | n+1,i,0,_=>rfl
 | n+1,i,k+1,h=>by
  simp only[RG,cW];rw[mC us l n (i+1) k (by omega),show i+1+k=i+(k+1) by omega]
theorem sS{us:Nat->aw}:∀{l:List (Nat×aw)} {k:Nat} {v:aw},xo l k=some v->tH us l k=v
 | [],_,_,h=>by cases h
 | (j,u)::r,k,v,h=>by
  simp only[xo,tH]at h⊢;cases hb:Nat.beq j k with
  | true=>rw[hb]at h;simpa using h
  | false=>rw[hb]at h;exact sS (l:=r) (by simpa using h)
theorem Ck{us:Nat->aw}:∀{l:List (Nat×aw)} {k:Nat},xo l k=none->tH us l k=us k
 | [],_,_=>rfl
 | (j,u)::r,k,h=>by
  simp only[xo,tH]at h⊢;cases hb:Nat.beq j k with
  | true=>rw[hb]at h;simp at h
  | false=>rw[hb]at h;exact Ck (l:=r) (by simpa using h)
theorem MU{k:Nat}(hk:k<n0):(fr n0 us0 l0).eval (.tmp k)=tH us0 l0 k:=by
 show(RG us0 l0 n0 0).toArray.getD k undef=_;rw[Array.getD_eq_getD_getElem?,pG,mC _ _ _ _ _ hk,bD];rfl
theorem evE{x:Operand}{v:aw}(h:evO n0 l0 x=some v):(fr n0 us0 l0).eval x=v:=by
 cases x with
 | tmp k=>
  simp only[evO]at h;cases hb:Nat.blt k n0 with
  | false=>rw[hb]at h;cases h
  | true=>
   rw[hb]at h;rw[MU (de hb)];exact sS h
 | const u=>simpa[evO,Act.eval]using h
 | global g=>simpa[evO,Act.eval]using h
 | func f=>simpa[evO,Act.eval]using h
theorem u6{us:Nat->aw}{l:List (Nat×aw)}{k i:Nat}{v:aw}(h:k≠i):tH us ((k,v)::l) i=tH us l i:=by
 have:Nat.beq k i=false:=by
  cases hb:Nat.beq k i with
  | false=>rfl
  | true=>exact absurd (bM hb) h
 simp only[tH,this,nU]
theorem u7{us:Nat->aw}{l:List (Nat×aw)}{k:Nat}{v:aw}:tH us ((k,v)::l) k=v:=by
 simp only[tH,Nat.beq_refl,fI]
theorem ZT{k:Nat}{v:aw}:(fr n0 us0 l0).put (some k) v=fr n0 us0 ((k,v)::l0):=by
 unfold fr;rw[f0];congr 2;apply oH;intro i;rw[List.getElem?_set,nH];by_cases hi:i<n0
 ·rw[mC _ _ _ _ _ hi,mC _ _ _ _ _ hi,bD];split
  ·rename_i h;subst h;rw[if_pos hi,u7]
  ·rename_i h;rw[u6 h]
 ·rw[cK (by rw[nH];omega),cK (by rw[nH];omega)];split
  ·rename_i h;subst h;rw[if_neg hi]
  ·rfl
theorem afM{d:Option Tmp}{v:aw}:(fr n0 us0 l0).put d v=fr n0 us0 (pl d v l0):=by
 cases d with
 | none=>rfl
 | some k=>exact ZT
theorem Bd:∀(args:List aw) (j i:Nat),tH (fun _=>undef) (Cj j args) i=if j<=i then(args[i-j]?).getD undef else undef
 | [],j,i=>by simp[Cj,tH]
 | v::r,j,i=>by
  simp only[Cj];by_cases Au:j=i
  ·subst Au;rw[u7,if_pos (aW _)];simp
  ·rw[u6 Au,Bd r (j+1) i];by_cases AX:j<=i
   ·rw[if_pos AX,if_pos (by omega),show i-j=(i-(j+1))+1 by omega,cW]
   ·rw[if_neg AX,if_neg (by omega)]
end
section
variable {P:Program} {ops:Array Oper} {Q:Exit->Act->av->Prop} {rest:List Oper} {w w':av} {n0:Nat} {us0:Nat->aw} {l0:List (Nat×aw)}
def asB:aw->Option Bool
 | .bool b=>some b
 | _=>none
theorem Ee{dP:List Oper}{j d:Nat}{oj:Oper}{v:aw}(h2:gH dP j=some oj)(h3:oj.dst=some d)(h4:evO n0 l0 (.tmp d)=some v):
  yielded dP.toArray (fr n0 us0 l0).tmps j=asB v:=by
 rw[jI]at h2;have hd:d<n0:=by
  simp only[evO]at h4;cases hb:Nat.blt d n0 with
  | false=>rw[hb]at h4;cases h4
  | true=>exact de hb
 have h5:=evE (us0:=us0) h4;rw[MU hd]at h5;have:(fr n0 us0 l0).tmps[d]? =some v:=by
  show(RG us0 l0 n0 0).toArray[d]? =_;rw[pG,mC _ _ _ _ _ hd,bD,h5]
 simp only[yielded,pG,h2,mz,h3,this];cases v<;>rfl
theorem wtF{o oj:Oper}{dP:List Oper}{j d:Nat}{want b r:Bool}(h1:o.guard=some (j,want))(h2:gH dP j=some oj)(h3:oj.dst=some d)
  (h4:evO n0 l0 (.tmp d)=some (.bool b)) (h5:(b==want)=r):Region.wanted o (yielded dP.toArray (fr n0 us0 l0).tmps)=r:=by
 subst h5;have e:=Ee (us0:=us0) h2 h3 h4;simp only[Region.wanted,h1,e,asB];cases b<;>cases want<;>rfl
theorem wuF{o oj:Oper}{dP:List Oper}{j d:Nat}{want:Bool}(h1:o.guard=some (j,want))(h2:gH dP j=some oj)(h3:oj.dst=some d)
  (h4:evO n0 l0 (.tmp d)=some undef):Region.wanted o (yielded dP.toArray (fr n0 us0 l0).tmps)=false:=by
 have e:=Ee (us0:=us0) h2 h3 h4;simp[Region.wanted,h1,e,undef,asB]
theorem pg{x y:Option Addr}(h:x=y):some (Value.pointer x)=some (.pointer y):=by rw[h]
theorem ag{x y:Addr}(h:x=y):some (Value.pointer (some x))=some (.pointer (some y)):=by rw[h]
theorem sn{op:Op}{t':TypeId}{p:String}{af:Array Edge}{v:aw}(hr:(execOp (fr n0 us0 l0).eval ⟨none,op,t',p,af,none⟩).run P w=.ok (.value v) w)
 (h:wpList P ops Q rest (fr n0 us0 l0) w):wpList P ops Q (⟨none,op,t',p,af,none⟩::rest) (fr n0 us0 l0) w:=GF v (wn rfl) hr (f3 _ _) h
section
variable {md:Region.Mode} {E:Nat->av->av->Prop} {F:av->Prop}
theorem ZU(i:Nat){dP:List Oper}{d:Option Tmp}{op:Op}{t':TypeId}{p:String}{af:Array Edge}{g:Option (Nat×Bool)}{eX:Nat}{bq:Array Bool}(D N:List Nat)(F:av->Prop){v:aw}(hi:gH dP i=some ⟨d,op,t',p,af,g⟩)
  (hb:(Region.noSelect dP.toArray&&Region.free md dP.toArray bq i&&(Region.ready md dP.toArray bq).contains i&&uZ md dP.toArray bq&&rH md dP.toArray i [] D&&(N.all fun k=>bq.getD k true))=true)
  (hQ:∀c a w,Q (.panic c) (Act.put a d v) w->Q (.panic c) a w) (lj:∀j w w',j∉D->j∉N->F w->E j w w'->F w') (BU:∀w,F w->E i w w) (hF:F w)
  (hy:YieldsIf P dP.toArray F ⟨d,op,t',p,af,g⟩ v (fr n0 us0 l0))
  (h:fu P md dP.toArray Q E eX (bq.setIfInBounds i true) (fr n0 us0 (pl d v l0)) w):fu P md dP.toArray Q E (eX+1) bq (fr n0 us0 l0) w:=by
 simp only[aP]at hb;obtain⟨⟨⟨⟨⟨b1,b2⟩,b3⟩,b4⟩,b5⟩,b6⟩:=hb;exact GU i D N v F hi b1 b2 b3 b4 b5 b6 hQ lj BU hF hy afM h
theorem eN(i:Nat){dP:List Oper}{d:Option Tmp}{op:Op}{t':TypeId}{p:String}{af:Array Edge}{g:Option (Nat×Bool)}{eX:Nat}{bq:Array Bool}{ls:List (Nat×List Nat)}(hi:gH dP i=some ⟨d,op,t',p,af,g⟩)
  (hE:∀w,EL ls i w w) (hg:Region.wanted ⟨d,op,t',p,af,g⟩ (yielded dP.toArray (fr n0 us0 l0).tmps)=false)
  (h:fu P md dP.toArray Q (EL ls) eX (bq.setIfInBounds i true) (fr n0 us0 (pl d undef l0)) w)
  (hb:(Region.noSelect dP.toArray&&Region.free md dP.toArray bq i&&(Region.ready md dP.toArray bq).contains i&&uZ md dP.toArray bq&&rH md dP.toArray i [] []&&(([]:List Nat).all fun k=>bq.getD k true))=true:=by kernel_rfl)
  (hQ:∀c a w,Q (.panic c) (Act.put a d undef) w->Q (.panic c) a w:=by exact fun _ _ _ h=>h):fu P md dP.toArray Q (EL ls) (eX+1) bq (fr n0 us0 l0) w:=
 ZU i [] [] (fun _=>True) hi hb hQ RF (fun w _=>hE w) trivial (Vp hg) h
end
end
end Go.Kt
namespace Go.Kt.V
open Go renaming World->av,Value->aw
open Go Go.RowKit Go.Kt
set_option linter.unusedSimpArgs false
set_option linter.unusedVariables false
structure OV where
 v:aw
 one:v.oneCell'=true
inductive SV where
 | int (k:IntKind) (n:Int)
 | il (k:IntKind) (n:Int)
 | bl (b:Bool)
 | bt (t:Bool)
 | str (s:ByteArray)
 | np
 | ptr (p:Option Addr)
 | ad (a:Addr)
 | box (i o:Nat)
 | sl (s:Sl)
 | nsl
 | map (m:Option Nat)
 | raw (v:OV)
 | fn (f:FuncId) (fs cs:SV)
 | agg (l:SV)
 | tup (l:SV)
 | un
 | e
 | c (h t:SV)
def pA(β:Nat->Nat):SV->List aw
 | .int k n=>[.int k n]
 | .il k n=>[.int k n]
 | .bl b=>[.bool b]
 | .bt t=>[.bool t]
 | .str s=>[.string s]
 | .np=>[.pointer none]
 | .ptr p=>[.pointer p]
 | .ad a=>[.pointer (some a)]
 | .box i o=>[.pointer (some ⟨β i,o,none⟩)]
 | .sl s=>[s.v]
 | .nsl=>[Sl.v Sl.nil]
 | .map m=>[.map m]
 | .raw v=>[v.v]
 | .fn f fs cs=>[.func (.func f) (pA β fs).toArray (pA β cs).toArray]
 | .agg l=>[.agg (pA β l).toArray]
 | .tup l=>[.tuple (pA β l).toArray]
 | .un=>[undef]
 | .e=>[]
 | .c h t=>(pA β h).headD undef::pA β t
def val(β:Nat->Nat)(s:SV):aw:=(pA β s).headD undef
def cp(β:Nat->Nat)(l:List SV):List aw:=l.map (val β)
def lg:SV->List SV
 | .c h t=>h::lg t
 | _=>[]
def j5:List SV->SV
 | []=>.e
 | s::r=>.c s (j5 r)
def AK:SV->Bool
 | .c _ t=>AK t
 | .e=>true
 | _=>false
theorem qy(β:Nat->Nat):∀l,pA β (j5 l)=cp β l
 | []=>rfl
 | s::r=>by simp only[j5,pA,qy β r];rfl
theorem mD(β:Nat->Nat):∀{s:SV},AK s=true->pA β s=cp β (lg s)
 | .e,_=>rfl
 | .c h t,hl=>by simp only[pA,lg,mD β (s:=t) hl];rfl
def cln(g:Nat->Bool):SV->Bool
 | .box i _=>g i
 | .fn _ fs cs=>cln g fs&&cln g cs
 | .agg l=>cln g l
 | .tup l=>cln g l
 | .c h t=>cln g h&&cln g t
 | _=>true
def ij(g:Nat->Bool):List SV->Bool
 | []=>true
 | s::r=>cln g s&&ij g r
theorem lW{β β':Nat->Nat}{g:Nat->Bool}(h:∀i,g i=true->β i=β' i):∀s,cln g s=true->pA β s=pA β' s
 | .int ..,_ | .il ..,_ | .bl ..,_ | .bt ..,_ | .str ..,_ | .np,_ | .ptr ..,_ | .ad ..,_ | .sl ..,_ | .nsl,_ | .map ..,_ | .raw ..,_ | .un,_ | .e,_=>rfl
 | .box i o,hc=>by simp only[pA,h i hc]
 | .fn f fs cs,hc=>by
  simp only[cln,aP]at hc;simp only[pA,lW h fs hc.1,lW h cs hc.2]
 | .agg l,hc=>by simp only[pA,lW h l hc]
 | .tup l,hc=>by simp only[pA,lW h l hc]
 | .c s t,hc=>by
  simp only[cln,aP]at hc;simp only[pA,lW h s hc.1,lW h t hc.2]
theorem jw{β β':Nat->Nat}{g:Nat->Bool}(h:∀i,g i=true->β i=β' i)(s:SV)(hc:cln g s=true):val β s=val β' s:=by
 unfold val;rw[lW h s hc]
theorem gQ{β β':Nat->Nat}{g:Nat->Bool}(h:∀i,g i=true->β i=β' i):∀l,ij g l=true->cp β l=cp β' l
 | [],_=>rfl
 | s::r,hc=>by
  simp only[ij,aP]at hc;have:=gQ h r hc.2;simp only[cp,bE]at this⊢;rw[jw h s hc.1,this]
theorem ff(β:Nat->Nat)(l:List SV):(cp β l).length=l.length:=by rw[cp,bZ]
def MV:aw->Option SV
 | .int k n=>some (.il k n)
 | .bool b=>some (.bl b)
 | .string s=>some (.str s)
 | .pointer none=>some .np
 | .slice none 0 0=>some .nsl
 | .map m=>some (.map m)
 | v=>if h:v.oneCell'=true then some (.raw ⟨v,h⟩)else none
def AM:List aw->Option SV
 | []=>some .e
 | v::r=>match MV v,AM r with
  | some s,some l=>some (.c s l)
  | _,_=>none
def ofV:aw->Option SV
 | .agg cs=>(AM cs.toList).map .agg
 | .tuple cs=>(AM cs.toList).map .tup
 | .func (.func f) fs cs=>match AM fs.toList,AM cs.toList with
  | some a,some b=>some (.fn f a b)
  | _,_=>none
 | v=>MV v
theorem yM{v:aw}{s:SV}(h:MV v=some s)(β:Nat->Nat):val β s=v:=by
 unfold MV at h;split at h
 all_goals first | (simp only[aV]at h;subst h;rfl) | skip
 split at h
 ·simp only[aV]at h;subst h;rfl
 ·cases h
theorem rJ(β:Nat->Nat):∀{l:List aw} {s:SV},AM l=some s->pA β s=l
 | [],s,h=>by simp only[AM,aV]at h;subst h;rfl
 | v::r,s,h=>by
  simp only[AM]at h;split at h
  ·rename_i s' l' h1 h2;simp only[aV]at h;subst h;simp only[pA,rJ β h2];rw[show(pA β s').headD undef=v from yM h1 β]
  ·cases h
theorem Iu{v:aw}{s:SV}(h:ofV v=some s)(β:Nat->Nat):val β s=v:=by
 unfold ofV at h;split at h
 ·rename_i cs;cases hl:AM cs.toList with
  | none=>rw[hl]at h;cases h
  | some l=>
   rw[hl]at h;simp only[cV,aV]at h;subst h;simp only[val,pA,rA,rJ β hl]
 ·rename_i cs;cases hl:AM cs.toList with
  | none=>rw[hl]at h;cases h
  | some l=>
   rw[hl]at h;simp only[cV,aV]at h;subst h;simp only[val,pA,rA,rJ β hl]
 ·rename_i f fs cs;split at h
  ·rename_i a b h1 h2;simp only[aV]at h;subst h;simp only[val,pA,rA,rJ β h1,rJ β h2]
  ·cases h
 ·exact yM h β
structure iB where
 blk:Option Nat
 ty:TypeId
 cells:List SV
 stp:Nat
 ok:Bool
 esc:Bool
 sh:Bool
structure St where
 n:Nat
 fr:List (Nat×Nat×SV)
 bx:List iB
 w0:av
 mv:Bool
 dt:List Nat
 ct:Nat
 df:List (Nat×List aw×List aw)
def QV(l:List (Nat×List aw×List aw)):List Deferred:=l.map fun d=>{target:=.fn (.func d.1) d.2.2.toArray,args:=d.2.1.toArray}
def Vq(n:Nat)(us:Nat->aw)(l:List (Nat×aw))(D:List Deferred):Act:=⟨(RG us l n 0).toArray,D⟩
def dH:List (Nat×Nat×SV)->Nat->Option (Nat×SV)
 | [],_=>none
 | (k,s)::r,i=>bif Nat.beq k i then some s else dH r i
def St.get(st:St)(i:Nat):Option SV:=bif Nat.blt i st.n then(dH st.fr i).map (·.2)else none
def St.ev(st:St):Operand->Option SV
 | .tmp k=>st.get k
 | .const v=>ofV v
 | .global g=>some (.ad ⟨g,0,none⟩)
 | .func f=>some (.fn f .e .e)
def St.Kl(st:St):List Operand->Option (List SV)
 | []=>some []
 | x::r=>match st.ev x,st.Kl r with
  | some v,some vs=>some (v::vs)
  | _,_=>none
def St.Q4(st:St):List (Nat×Operand)->Option (List (Nat×SV))
 | []=>some []
 | (i,x)::r=>match st.ev x,st.Q4 r with
  | some v,some vs=>some ((i,v)::vs)
  | _,_=>none
def St.put(st:St)(d:Option Tmp)(v:SV):St:=match d with
 | some k=>{st with fr:=(k,st.ct,v)::st.fr,ct:=st.ct+1}
 | none=>st
def cM:List iB->Nat->Option iB
 | [],_=>none
 | b::_,0=>some b
 | _::r,n+1=>cM r n
def AN:List iB->Nat->iB->List iB
 | [],_,_=>[]
 | _::r,0,b=>b::r
 | a::r,n+1,b=>a::AN r n b
def cv(β:Nat->Nat)(l:List (Nat×Nat×SV)):List (Nat×aw):=l.map fun p=>(p.1,val β p.2.2)
theorem lr(β:Nat->Nat):∀l i,xo (cv β l) i=(dH l i).map fun p=>val β p.2
 | [],_=>rfl
 | (k,s)::r,i=>by
  simp only[cv,bE,xo,dH];cases Nat.beq k i with
  | true=>rfl
  | false=>exact lr β r i
structure acC (β:Nat->Nat) (w0 w:av) (i:Nat) (b:iB):Prop where
 blk:Blk w (β i) b.ty (cp β b.cells)
 at_:∀k,b.blk=some k->β i=k
 new:b.blk=none->w0.heap.size<=β i
structure Rep (β:Nat->Nat) (st:St) (a:Act) (w:av):Prop where
 fr:∃us,a=Vq st.n us (cv β st.fr) (QV st.df)
 bx:∀i b,cM st.bx i=some b->b.ok=true->acC β st.w0 w i b
 ne:∀i j bi bj,cM st.bx i=some bi->cM st.bx j=some bj->bi.ok=true->bj.ok=true->i≠j->β i≠β j
 only:Only (st.dt.map β) st.w0 w
 still:st.mv=false->w=st.w0
structure Ext (s t:St):Prop where
 n:t.n=s.n
 ct:s.ct<=t.ct
 fr:∀i k v,dH t.fr i=some (k,v)->k<s.ct->dH s.fr i=some (k,v)
 bx:∀i b',cM t.bx i=some b'->b'.ok=true->b'.stp<s.ct->∃b,cM s.bx i=some b/\b.ok=true/\b.cells=b'.cells/\b.ty=b'.ty/\b.stp=b'.stp/\(∀k,b.blk=some k->b'.blk=some k)
 ps:∀i b,cM s.bx i=some b->∃b',cM t.bx i=some b'/\b'.ty=b.ty/\b'.ok=b.ok/\∀k,b.blk=some k->b'.blk=some k
 df:∃l,t.df=l++s.df
theorem DR{s:St}:∃l,s.df=l++s.df:=⟨[],rfl⟩
theorem MW{l:List iB}:∀i b,cM l i=some b->∃b',cM l i=some b'/\b'.ty=b.ty/\b'.ok=b.ok/\∀k,b.blk=some k->b'.blk=some k:=fun i b h=>⟨b,h,rfl,rfl,fun _ h=>h⟩
theorem Ext.refl(s:St):Ext s s:=⟨rfl,aW _,fun _ _ _ h _=>h,fun i b h ho _=>⟨b,h,ho,rfl,rfl,rfl,fun _ h=>h⟩,MW,DR⟩
theorem Ext.trans{s t u:St}(h:Ext s t)(k:Ext t u):Ext s u:=
 ⟨k.n.trans h.n,bh h.ct k.ct,fun i m v hl bQ=>h.fr i m v (k.fr i m v hl (cD bQ h.ct)) bQ,fun i b'' hb ho hs=>by
  obtain⟨b',k1,k2,k3,k4,k6,k5⟩:=k.bx i b'' hb ho (cD hs h.ct);obtain⟨b,h1,h2,h3,h4,h6,h5⟩:=h.bx i b' k1 k2 (by rw[k6];exact hs);exact⟨b,h1,h2,h3.trans k3,h4.trans k4,h6.trans k6,fun m hm=>k5 m (h5 m hm)⟩,fun i b hb=>by
  obtain⟨b',h1,h2,h3,h4⟩:=h.ps i b hb;obtain⟨b'',k1,k2,k3,k4⟩:=k.ps i b' h1;exact⟨b'',k1,k2.trans h2,k3.trans h3,fun m hm=>k4 m (h4 m hm)⟩,by
  obtain⟨l,h1⟩:=h.df;obtain⟨m,k1⟩:=k.df;exact⟨m++l,by rw[k1,h1,be]⟩⟩
section
variable {β:Nat->Nat} {st:St} {a:Act} {w:av}
theorem Rep.get(h:Rep β st a w){i:Nat}{s:SV}(hg:st.get i=some s):a.eval (.tmp i)=val β s:=by
 obtain⟨us,rfl⟩:=h.fr;show(Kt.fr st.n us (cv β st.fr)).eval (.tmp i)=_;refine evE (n0:=st.n) (us0:=us) ?_;unfold St.get at hg;cases hb:Nat.blt i st.n with
 | false=>rw[hb]at hg;cases hg
 | true=>
  rw[hb,fI]at hg;simp only[evO,hb,fI,lr];cases hl:dH st.fr i with
  | none=>rw[hl]at hg;cases hg
  | some p=>
   rw[hl]at hg;simp only[cV,aV]at hg;rw[cV,hg]
theorem Rep.ev(h:Rep β st a w){x:Operand}{s:SV}(hg:st.ev x=some s):a.eval x=val β s:=by
 cases x with
 | tmp k=>exact h.get hg
 | const v=>rw[Iu hg];rfl
 | global g=>
  simp only[St.ev,aV]at hg;subst hg;rfl
 | func f=>
  simp only[St.ev,aV]at hg;subst hg;rfl
theorem Rep.Kl(h:Rep β st a w):∀{xs:List Operand} {l:List SV},st.Kl xs=some l->xs.map a.eval=cp β l
 | [],l,hg=>by simp only[St.Kl,aV]at hg;subst hg;rfl
 | x::r,l,hg=>by
  simp only[St.Kl]at hg;split at hg
  ·rename_i v vs hx hr;simp only[aV]at hg;subst hg;rw[bE,h.ev hx,h.Kl hr];rfl
  ·cases hg
def yN(β:Nat->Nat)(l:List (Nat×SV)):List (Nat×aw):=l.map fun p=>(p.1,val β p.2)
theorem Rep.Q4(h:Rep β st a w):∀{xs:List (Nat×Operand)} {l:List (Nat×SV)},st.Q4 xs=some l->(xs.map fun q=>(q.1,a.eval q.2))=yN β l
 | [],l,hg=>by simp only[St.Q4,aV]at hg;subst hg;rfl
 | (i,x)::r,l,hg=>by
  simp only[St.Q4]at hg;split at hg
  ·rename_i v vs hx hr;simp only[aV]at hg;subst hg;rw[bE,h.Q4 hr,h.ev hx];rfl
  ·cases hg
theorem St.evO{st:St}(β:Nat->Nat){x:Operand}{s:SV}(hg:st.ev x=some s):Kt.evO st.n (cv β st.fr) x=some (val β s):=by
 cases x with
 | tmp i=>
  have hg:st.get i=some s:=hg;unfold St.get at hg;cases hb:Nat.blt i st.n with
  | false=>rw[hb]at hg;cases hg
  | true=>
   rw[hb,fI]at hg;simp only[Kt.evO,hb,fI,lr];cases hl:dH st.fr i with
   | none=>rw[hl]at hg;cases hg
   | some p=>
    rw[hl]at hg;simp only[cV,aV]at hg;rw[cV,hg]
 | const v=>rw[Iu hg];rfl
 | global g=>
  simp only[St.ev,aV]at hg;subst hg;rfl
 | func f=>
  simp only[St.ev,aV]at hg;subst hg;rfl
theorem Rep.put(h:Rep β st a w)(d:Option Tmp)(v:SV):Rep β (st.put d v) (a.put d (val β v)) w:=by
 cases d with
 | none=>exact h
 | some k=>
  obtain⟨us,rfl⟩:=h.fr;exact⟨⟨us,bK (fun a:Act=>(⟨a.tmps,QV st.df⟩:Act)) (ZT (n0:=st.n) (us0:=us) (l0:=cv β st.fr) (k:=k) (v:=val β v))⟩,h.bx,h.ne,h.only,h.still⟩
theorem Ext.put(st:St)(d:Option Tmp)(v:SV):Ext st (st.put d v):=by
 cases d with
 | none=>exact Ext.refl _
 | some k=>
  refine⟨rfl,iL _,fun i m u hl bQ=>?_,fun i b h ho _=>⟨b,h,ho,rfl,rfl,rfl,fun _ h=>h⟩,MW,DR⟩;simp only[St.put,dH]at hl;cases hb:Nat.beq k i with
  | true=>
   rw[hb]at hl;simp only[fI,aV,dk]at hl;omega
  | false=>rw[hb]at hl;simpa using hl
theorem Rep.frame(h:Rep β st a w){fr':List (Nat×Nat×SV)}(hs:∀i p,dH fr' i=some p->∃q,dH st.fr i=some q/\val β q.2=val β p.2):Rep β {st with fr:=fr'} a w:=by
 obtain⟨us,rfl⟩:=h.fr;refine⟨?_,h.bx,h.ne,h.only,h.still⟩;refine⟨fun i=>tH us (cv β st.fr) i,?_⟩;unfold Vq;congr 2;apply oH;intro i;by_cases hi:i<st.n
 ·rw[mC _ _ _ _ _ hi,mC _ _ _ _ _ hi,bD];congr 1;cases hl:dH fr' i with
  | none=>
   rw[Ck (l:=cv β fr') (by rw[lr,hl];rfl)]
  | some p=>
   obtain⟨q,h1,h2⟩:=hs i p hl;rw[sS (l:=cv β fr') (v:=val β p.2) (by rw[lr,hl];rfl),sS (l:=cv β st.fr) (v:=val β p.2) (by rw[lr,h1,cV,h2])]
 ·rw[cK (by rw[nH];exact Ma hi),cK (by rw[nH];exact Ma hi)]
end
def bR{α:Type}(o:Option α)(K:α->Prop):Prop:=match o with
 | some v=>K v
 | none=>False
theorem bm{α:Type}{o:Option α}{K:α->Prop}(h:bR o K):∃v,o=some v/\K v:=by
 cases o with
 | none=>exact h.elim
 | some v=>exact⟨v,rfl,h⟩
def gi:List (Bool×Bool)->Prop->Prop
 | [],p=>p
 | (t,b)::r,p=>t=b->gi r p
def gh:List (Bool×Bool)->Prop
 | []=>True
 | (t,b)::r=>t=b/\gh r
theorem gR:∀{gs:List (Bool×Bool)} {p:Prop},gi gs p->gh gs->p
 | [],_,h,_=>h
 | (t,b)::r,p,h,k=>gR (gs:=r) (h k.1) k.2
inductive Lf where
 | int (k:IntKind)
 | bool
 | str
 | ptr
 | sl
 | map
 | raw
def Lf.T:Lf->Type
 | .int _=>Int
 | .bool=>Bool
 | .str=>ByteArray
 | .ptr=>Option Addr
 | .sl=>Sl
 | .map=>Option Nat
 | .raw=>OV
def Lf.sv:(l:Lf)->l.T->SV
 | .int k,x=>.int k x
 | .bool,x=>.bt x
 | .str,x=>.str x
 | .ptr,x=>.ptr x
 | .sl,x=>.sl x
 | .map,x=>.map x
 | .raw,x=>.raw x
theorem Lf.cln(g:Nat->Bool)(l:Lf)(x:l.T):V.cln g (l.sv x)=true:=by cases l<;>rfl
def YK:List Lf->(List SV->Prop)->Prop
 | [],K=>K []
 | l::r,K=>∃x:l.T,YK r fun vs=>K (l.sv x::vs)
theorem yO:∀{ls:List Lf} {K:List SV->Prop},YK ls K->∃vs,K vs/\vs.length=ls.length/\∀g,ij g vs=true
 | [],K,h=>⟨[],h,rfl,fun _=>rfl⟩
 | l::r,K,h=>by
  obtain⟨x,h⟩:=h;obtain⟨vs,h1,h2,h3⟩:=yO (ls:=r) h;exact⟨_,h1,by simp[h2],fun g=>by simp only[ij,Lf.cln,h3 g,cR]⟩
def afP:TypeDesc->Lf
 | .int k=>.int k
 | .bool=>.bool
 | .string=>.str
 | .pointer _=>.ptr
 | .slice _=>.sl
 | .map _ _=>.map
 | _=>.raw
def rep{α:Type}:Nat->List α->List α
 | 0,_=>[]
 | n+1,l=>l++rep n l
def flat{α β:Type}(f:α->List β):List α->List β
 | []=>[]
 | x::r=>f x++flat f r
def QW(P:Program):Nat->TypeId->List Lf
 | 0,_=>[]
 | n+1,t=>match P.underlying t with
  | some (.struct fs)=>flat (fun f:Field=>QW P n f.type) fs.toList
  | some (.array len e)=>rep len (QW P n e)
  | some d=>[afP d]
  | none=>[]
def mN:TypeDesc->Bool
 | .struct _=>true
 | .array _ _=>true
 | _=>false
def MX(ag:Bool)(l:List SV):SV:=bif ag then .agg (j5 l)else l.headD .un
def β0:Nat->Nat:=fun _=>0
def pK:SV->Option (IntKind×Int)
 | .int k n=>some (k,n)
 | .il k n=>some (k,n)
 | _=>none
theorem di{s:SV}{k:IntKind}{n:Int}(h:pK s=some (k,n))(β:Nat->Nat):val β s=.int k n:=by
 cases s<;>simp only[pK,aV,dk,reduceCtorEq]at h
 all_goals obtain⟨rfl,rfl⟩:=h;rfl
def yP:SV->Option Bool
 | .bl b=>some b
 | .bt b=>some b
 | _=>none
theorem lX{s:SV}{b:Bool}(h:yP s=some b)(β:Nat->Nat):val β s=.bool b:=by
 cases s<;>simp only[yP,aV,reduceCtorEq]at h
 all_goals subst h;rfl
def uw:SV->Option ByteArray
 | .str s=>some s
 | _=>none
theorem ik{s:SV}{b:ByteArray}(h:uw s=some b)(β:Nat->Nat):val β s=.string b:=by
 cases s<;>simp only[uw,aV,reduceCtorEq]at h
 all_goals subst h;rfl
def Iv:SV->Option Sl
 | .sl s=>some s
 | .nsl=>some Sl.nil
 | _=>none
theorem jT{s:SV}{b:Sl}(h:Iv s=some b)(β:Nat->Nat):val β s=b.v:=by
 cases s<;>simp only[Iv,aV,reduceCtorEq]at h
 all_goals subst h;rfl
def ib(op:BinOp)(k:IntKind)(m n:Int):Option SV:=match op with
 | .add=>some (.int k (k.wrap (m+n)))
 | .sub=>some (.int k (k.wrap (m-n)))
 | .mul=>some (.int k (k.wrap (m*n)))
 | .eql=>some (.bt (m==n))
 | .neq=>some (.bt (m !=n))
 | .lss=>some (.bt (decide (m<n)))
 | .leq=>some (.bt (decide (m<=n)))
 | .gtr=>some (.bt (decide (m>n)))
 | .geq=>some (.bt (decide (m>=n)))
 | .and=>some (.int k (bits .and k m n))
 | .or=>some (.int k (bits .or k m n))
 | .xor=>some (.int k (bits .xor k m n))
 | .andNot=>some (.int k (bits .andNot k m n))
 | _=>none
def sb(op:BinOp)(s u:ByteArray):Option SV:=match op with
 | .eql=>some (.bt (s.toList==u.toList))
 | .neq=>some (.bt (!(s.toList==u.toList)))
 | .lss=>some (.bt (Op.bytesLess s.toList u.toList))
 | .geq=>some (.bt (!(Op.bytesLess s.toList u.toList)))
 | .leq=>some (.bt (Op.bytesLess s.toList u.toList||(s.toList==u.toList)))
 | .gtr=>some (.bt (!(Op.bytesLess s.toList u.toList||(s.toList==u.toList))))
 | _=>none
def nz(gs:List (Bool×Bool))(b:SV)(n:Int)(K:Prop):Prop:=match b with
 | .il _ _=>bif n==0 then False else K
 | _=>gi gs (n≠0)/\K
def ge0(gs:List (Bool×Bool))(b:SV)(n:Int)(K:Prop):Prop:=match b with
 | .il _ _=>bif decide (0<=n)then K else False
 | _=>gi gs (0<=n)/\K
def opn:SV->Option (Option Addr)
 | .np=>some none
 | .ptr p=>some p
 | .ad a=>some (some a)
 | _=>none
theorem RH{s:SV}{p:Option Addr}(h:opn s=some p)(β:Nat->Nat):val β s=.pointer p:=by
 cases s<;>simp only[opn,aV,reduceCtorEq]at h
 all_goals subst h;rfl
def pn(op:BinOp)(a:SV):Option SV:=match op,a with
 | .eql,.ptr p=>some (.bt p.isNone)
 | .neq,.ptr p=>some (.bt (!p.isNone))
 | .eql,.ad _=>some (.bl false)
 | .neq,.ad _=>some (.bl true)
 | .eql,.box _ _=>some (.bl false)
 | .neq,.box _ _=>some (.bl true)
 | .eql,.np=>some (.bl true)
 | .neq,.np=>some (.bl false)
 | _,_=>none
def sn(op:BinOp)(s:Sl):Option SV:=match op with
 | .eql=>some (.bt s.a.isNone)
 | .neq=>some (.bt (!s.a.isNone))
 | _=>none
def MY:SV->Bool
 | .np=>true
 | _=>false
def Ef:SV->Bool
 | .nsl=>true
 | _=>false
def eq1(P:Program)(t:TypeId)(x y:SV):Option Bool:=match P.underlying t with
 | some (.int _)=>(match pK x,pK y with
  | some (k,m),some (k',n)=>bif decide (k=k')then some (m==n)else none
  | _,_=>none)
 | some .string=>(match uw x,uw y with
  | some s,some u=>some (s==u)
  | _,_=>none)
 | some .bool=>(match yP x,yP y with
  | some s,some u=>some (s==u)
  | _,_=>none)
 | _=>none
def Eg(P:Program)(xs ys:List SV):List Field->Option Bool
 | []=>some true
 | f::r=>bif f.name== "_" then none else match xs[f.offset]?,ys[f.offset]? with
  | some x,some y=>(match eq1 P f.type x y,Eg P xs ys r,r with
   | some b,some _,[]=>some b
   | some b,some c,_=>some (b&&c)
   | _,_,_=>none)
  | _,_=>none
def Vs(P:Program)(t:TypeId)(fs:Array Field)(a b:SV):Option Bool:=match a,b with
 | .agg l,.agg m=>bif AK l&&AK m&&!P.stoodInHeld t&&!P.eqGuardType P.depth t then Eg P (lg l) (lg m) fs.toList else none
 | _,_=>none
def Vt(op:BinOp)(b:Bool):Option SV:=match op with
 | .eql=>some (.bt b)
 | .neq=>some (.bt (!b))
 | _=>none
def mn(op:BinOp)(a b:SV):Option SV:=match op,a,b with
 | .eql,.map m,.map none=>some (.bt m.isNone)
 | .neq,.map m,.map none=>some (.bt (!m.isNone))
 | _,_,_=>none
def Vu(P:Program)(gs:List (Bool×Bool))(op:BinOp)(t:TypeId)(a b:SV)(K:SV->Prop):Prop:=
 match pK a,pK b with
 | some (k,m),some (k',n)=>(match op with
  | .shl=>ge0 gs b n (K (.int k (k.wrap (m*2 ^ (min n.toNat k.bits)))))
  | .shr=>ge0 gs b n (K (.int k (m.fdiv (2 ^ (min n.toNat k.bits)))))
  | .quo=>bif decide (k=k')then nz gs b n (K (.int k (k.wrap (m.tdiv n))))else False
  | .rem=>bif decide (k=k')then nz gs b n (K (.int k (m.tmod n)))else False
  | _=>bif decide (k=k')then bR (ib op k m n) K else False)
 | _,_=>match uw a,uw b with
  | some s,some u=>(match op with
   | .add=>gi gs ((s.size:Int)+u.size<=9223372036854775807)/\K (.str (s++u))
   | _=>bR (sb op s u) K)
  | _,_=>match yP a,yP b,P.underlying t with
   | some s,some u,some .bool=>(match op with
    | .eql=>K (.bt (s==u))
    | .neq=>K (.bt (!(s==u)))
    | _=>False)
   | _,_,_=>match P.underlying t with
    | some (.pointer _)=>bif MY b then bR (pn op a) K else bif MY a then bR (pn op b) K else False
    | some (.slice _)=>bif Ef b then bR ((Iv a).bind (sn op)) K else bif Ef a then bR ((Iv b).bind (sn op)) K else False
    | some (.struct fs)=>bR (Vs P t fs a b) fun r=>bR (Vt op r) K
    | some (.map _ _)=>bR (mn op a b) K
    | _=>False
section
variable {P:Program} {gs:List (Bool×Bool)} {K:SV->Prop}
theorem TV{b:SV}{k:IntKind}{n:Int}{K:Prop}(hb:pK b=some (k,n))(h:nz gs b n K):K/\(gh gs->n≠0):=by
 unfold nz at h;split at h
 ·cases hn:(n==0)with
  | true=>rw[hn]at h;exact h.elim
  | false=>rw[hn]at h;exact⟨h,fun _=>by simpa using hn⟩
 ·exact⟨h.2,fun g=>gR h.1 g⟩
theorem MZ{b:SV}{n:Int}{K:Prop}(h:ge0 gs b n K):K/\(gh gs->0<=n):=by
 unfold ge0 at h;split at h
 ·by_cases hn:0<=n
  ·rw[bF hn]at h;exact⟨h,fun _=>hn⟩
  ·rw[bn hn]at h;exact h.elim
 ·exact⟨h.2,fun g=>gR h.1 g⟩
theorem dv{b:Bool}{p:Prop}(h:bif b then p else False):b=true/\p:=by
 cases b with
 | true=>exact⟨rfl,h⟩
 | false=>exact h.elim
def mE(P:Program)(op:BinOp)(t:TypeId)(a b v:SV):Prop:=
 ∀(β:Nat->Nat) (act:Act) (x y:Operand) (dst:Option Tmp) (ty t':TypeId) (p:String) (af:Array Edge) (g:Option (Nat×Bool)) (w:av),act.eval x=val β a->act.eval y=val β b->
  (execOp act.eval ⟨dst,.binOp op t x y ty,t',p,af,g⟩).run P w=.ok (.value (val β v)) w
theorem ZV{op:BinOp}{t:TypeId}{a b v:SV}{k:IntKind}{m n:Int}(ha:pK a=some (k,m))(hb:pK b=some (k,n))(h:ib op k m n=some v):mE P op t a b v:=by
 intro β act x y dst ty t' p af g w hx hy;rw[di ha]at hx;rw[di hb]at hy;cases op<;>simp only[ib,aV,reduceCtorEq]at h
 all_goals subst h;simp only[execOp,hx,hy];cases k<;>rfl
theorem ZW{op:BinOp}{t:TypeId}{a b v:SV}{s u:ByteArray}(ha:uw a=some s)(hb:uw b=some u)(h:sb op s u=some v):mE P op t a b v:=by
 intro β act x y dst ty t' p af g w hx hy;rw[ik ha]at hx;rw[ik hb]at hy;cases op<;>simp only[sb,aV,reduceCtorEq]at h
 all_goals subst h;simp only[execOp,hx,hy];rfl
theorem TW{op:BinOp}{t e:TypeId}{a b v:SV}(hu:P.underlying t=some (.pointer e))(hb:MY b=true)(h:pn op a=some v):mE P op t a b v/\mE P op t b a v:=by
 have hbv:∀β,val β b=.pointer none:=fun β=>by
  unfold MY at hb;split at hb
  ·rfl
  ·cases hb
 have key:∀(β:Nat->Nat),∃(q:Option Addr) (r:Bool),val β a=.pointer q/\val β v=.bool r/\((op=.eql/\q.isNone=r)∨(op=.neq/\(!q.isNone)=r)):=by
  intro β;unfold pn at h;split at h<;>simp only[aV,reduceCtorEq]at h<;>subst h
  ·exact⟨_,_,rfl,rfl,.inl ⟨rfl,rfl⟩⟩
  ·exact⟨_,_,rfl,rfl,.inr ⟨rfl,rfl⟩⟩
  ·exact⟨_,_,rfl,rfl,.inl ⟨rfl,rfl⟩⟩
  ·exact⟨_,_,rfl,rfl,.inr ⟨rfl,rfl⟩⟩
  ·exact⟨_,_,rfl,rfl,.inl ⟨rfl,rfl⟩⟩
  ·exact⟨_,_,rfl,rfl,.inr ⟨rfl,rfl⟩⟩
  ·exact⟨_,_,rfl,rfl,.inl ⟨rfl,rfl⟩⟩
  ·exact⟨_,_,rfl,rfl,.inr ⟨rfl,rfl⟩⟩
 constructor
 ·intro β act x y dst ty t' p af g w hx hy;obtain⟨q,r,h1,h2,h3⟩:=key β;rw[h1]at hx;rw[hbv]at hy;rw[h2];rcases h3 with⟨rfl,h3⟩ | ⟨rfl,h3⟩
  ·exact Cb (run_underlying hu w) hx hy h3
  ·exact Cf (run_underlying hu w) hx hy h3
 ·intro β act x y dst ty t' p af g w hx hy;obtain⟨q,r,h1,h2,h3⟩:=key β;rw[h1]at hy;rw[hbv]at hx;rw[h2];rcases h3 with⟨rfl,h3⟩ | ⟨rfl,h3⟩
  ·exact Ce (run_underlying hu w) hx hy h3
  ·exact Cg (run_underlying hu w) hx hy h3
theorem TX{op:BinOp}{t e:TypeId}{a b v:SV}(hu:P.underlying t=some (.slice e))(hb:Ef b=true)(h:(Iv a).bind (sn op)=some v):mE P op t a b v/\mE P op t b a v:=by
 have hbv:∀β,val β b=.slice none 0 0:=fun β=>by
  unfold Ef at hb;split at hb
  ·rfl
  ·cases hb
 cases hs:Iv a with
 | none=>rw[hs]at h;cases h
 | some s=>
  rw[hs]at h;simp only[mz]at h;constructor
  ·intro β act x y dst ty t' p af g w hx hy;rw[jT hs]at hx;rw[hbv]at hy;cases op<;>simp only[sn,aV,reduceCtorEq]at h<;>subst h
   ·exact D4 (run_underlying hu w) hx hy
   ·exact D6 (run_underlying hu w) hx hy
  ·intro β act x y dst ty t' p af g w hx hy;rw[jT hs]at hy;rw[hbv]at hx;cases op<;>simp only[sn,aV,reduceCtorEq]at h<;>subst h
   ·exact D5 (run_underlying hu w) hx hy
   ·exact D7 (run_underlying hu w) hx hy
theorem ZX{op:BinOp}{t k e:TypeId}{a b v:SV}(hu:P.underlying t=some (.map k e))(h:mn op a b=some v):mE P op t a b v:=by
 intro β act x y dst ty t' p af g w hx hy;unfold mn at h;split at h<;>simp only[aV,reduceCtorEq]at h<;>subst h
 all_goals
  rename_i m;change act.eval x=.map m at hx;change act.eval y=.map none at hy;have hE:∀d,(Op.equalIn (d+1) t (.map m) (.map none)).run P w=.ok m.isNone w:=fun d=>by
   unfold Op.equalIn;cases m<;>simp only[Sem.run_bind,run_underlying hu w,Result.andThen_ok]<;>rfl
 ·have hB:binOp .eql t (.map m) (.map none)=(do pure (.bool ((<-Op.equal t (.map m) (.map none))))):=by cases m<;>rfl
  have hG:eqGuard .eql t x y (.map m) (.map none)=pure ():=rfl;simp only[execOp,hx,hy,hG,hB,Op.equal,Op.maxDepth,Sem.run_bind,Sem.run_pure,Result.andThen_ok,hE 9999];rfl
 ·have hB:binOp .neq t (.map m) (.map none)=(do pure (.bool (!(<-Op.equal t (.map m) (.map none))))):=by cases m<;>rfl
  have hG:eqGuard .neq t x y (.map m) (.map none)=pure ():=rfl;simp only[execOp,hx,hy,hG,hB,Op.equal,Op.maxDepth,Sem.run_bind,Sem.run_pure,Result.andThen_ok,hE 9999];rfl
theorem RI{t:TypeId}{x y:SV}{b:Bool}(h:eq1 P t x y=some b)(β:Nat->Nat)(d:Nat)(w:av):P.plainKey t=true/\(Op.equalIn (d+1) t (val β x) (val β y)).run P w=.ok b w:=by
 unfold eq1 at h;split at h
 ·rename_i k hu;refine⟨by simp[Program.plainKey,hu],?_⟩;split at h
  ·rename_i k1 m k2 n hx hy;cases hk:decide (k1=k2)with
   | false=>rw[hk]at h;cases h
   | true=>
    rw[hk]at h;injection h with h;subst h;have hk:=aQ hk;subst hk;rw[di hx,di hy];simp[Op.equalIn,run_underlying hu]
  ·cases h
 ·rename_i hu;refine⟨by simp[Program.plainKey,hu],?_⟩;split at h
  ·rename_i s u hx hy;injection h with h;subst h;rw[ik hx,ik hy];simp[Op.equalIn,run_underlying hu]
  ·cases h
 ·rename_i hu;refine⟨by simp[Program.plainKey,hu],?_⟩;split at h
  ·rename_i s u hx hy;injection h with h;subst h;rw[lX hx,lX hy];simp[Op.equalIn,run_underlying hu]
  ·cases h
 ·cases h
theorem Eh{xs ys:List SV}(β:Nat->Nat)(d:Nat)(w:av):∀{fs:List Field} {b:Bool},Eg P xs ys fs=some b->(Op.eqFields (d+1) (cp β xs).toArray (cp β ys).toArray fs).run P w=.ok b w
 | [],b,h=>by
  simp only[Eg,aV]at h;subst h;simp[Op.eqFields]
 | f::r,b,h=>by
  unfold Eg at h;cases hn:(f.name== "_")with
  | true=>rw[hn]at h;cases h
  | false=>
   rw[hn,nU]at h;have hn:f.name≠ "_" :=by simpa using hn
   split at h
   ·rename_i x y hx hy;have px:(cp β xs).toArray[f.offset]? =some (val β x):=by simp[cp,hx]
    have py:(cp β ys).toArray[f.offset]? =some (val β y):=by simp[cp,hy]
    have go:∀{b1 c:Bool},eq1 P f.type x y=some b1->Eg P xs ys r=some c->(Op.eqFields (d+1) (cp β xs).toArray (cp β ys).toArray (f::r)).run P w=.ok (b1&&c) w:=fun{b1 c} h1 h2=>by
     obtain⟨k1,k2⟩:=RI h1 β d w;have k3:=Eh β d w h2;simp only[Op.eqFields,hn,ne_eq,not_false_eq_true,if_true,Sem.run_bind,run_part_plain w k1 px,run_part_plain w k1 py,k2,Result.andThen_ok];cases b1
     ·simp
     ·simpa using k3
    split at h
    ·rename_i b1 c h1 h2;injection h with h;subst h;have:=go h1 h2;simp only[Eg,aV]at h2;subst h2;rwa[cR]at this
    ·rename_i b1 c h1 _ h2;injection h with h;subst h;exact go h1 h2
    ·cases h
   ·cases h
theorem RJ{op:BinOp}{t:TypeId}{fs:Array Field}{a b v:SV}{r:Bool}(hu:P.underlying t=some (.struct fs))(h:Vs P t fs a b=some r)(hv:Vt op r=some v):mE P op t a b v:=by
 unfold Vs at h;split at h
 ·rename_i l m;obtain⟨h0,h⟩:(AK l&&AK m&&!P.stoodInHeld t&&!P.eqGuardType P.depth t)=true/\Eg P (lg l) (lg m) fs.toList=some r:=by
   cases hc:(AK l&&AK m&&!P.stoodInHeld t&&!P.eqGuardType P.depth t)with
   | true=>rw[hc]at h;exact⟨rfl,h⟩
   | false=>rw[hc]at h;cases h
  simp only[aP,cx]at h0;obtain⟨⟨⟨h1,h2⟩,h3⟩,h4⟩:=h0;intro β act x y dst ty t' p af g w hx hy;have ea:∀{l:SV},AK l=true->val β (.agg l)=.agg (cp β (lg l)).toArray:=fun hl=>by
   show Value.agg (pA β _).toArray=_;rw[mD β hl]
  rw[ea h1]at hx;rw[ea h2]at hy;have hfs:P.fieldsOf t=fs:=by simp[Program.fieldsOf,hu]
  have hE:(Op.equalIn 10000 t (.agg (cp β (lg l)).toArray) (.agg (cp β (lg m)).toArray)).run P w=.ok r w:=by
   rw[show(10000:Nat)=9999+1 from rfl,run_equalIn_struct w 9999 t _ _ (by rw[hfs];exact hu) h3,hfs];exact Eh β 9998 w h
  have hG:∀op:BinOp,(eqGuard op t x y (.agg (cp β (lg l)).toArray) (.agg (cp β (lg m)).toArray)).run P w=.ok () w:=fun op=>by
   unfold eqGuard;cases op<;>simp[run_program,h4]
  unfold Vt at hv;split at hv
  ·injection hv with hv;subst hv;have hB:binOp .eql t (.agg (cp β (lg l)).toArray) (.agg (cp β (lg m)).toArray)=(do pure (.bool (<-Op.equal t (.agg (cp β (lg l)).toArray) (.agg (cp β (lg m)).toArray)))):=rfl;simp only[execOp,hx,hy,hB,Op.equal,Op.maxDepth,Sem.run_bind,Sem.run_pure,Result.andThen_ok,hE,hG];rfl
  ·injection hv with hv;subst hv;have hB:binOp .neq t (.agg (cp β (lg l)).toArray) (.agg (cp β (lg m)).toArray)=(do pure (.bool (!(<-Op.equal t (.agg (cp β (lg l)).toArray) (.agg (cp β (lg m)).toArray))))):=rfl;simp only[execOp,hx,hy,hB,Op.equal,Op.maxDepth,Sem.run_bind,Sem.run_pure,Result.andThen_ok,hE,hG];rfl
  ·cases hv
 ·cases h
theorem RL{op:BinOp}{t:TypeId}{a b:SV}(h:Vu P gs op t a b K):∃v,K v/\(gh gs->mE P op t a b v):=by
 unfold Vu at h;split at h
 ·rename_i k m k' n ha hb;have gen:∀{K:SV->Prop},(bif decide (k=k')then bR (ib op k m n) K else False)->∃v,K v/\(gh gs->mE P op t a b v):=fun h=>by
   obtain⟨gD,h1⟩:=dv h;clear h;have hk:=aQ gD;clear gD;subst hk;obtain⟨v,hv,hK⟩:=bm h1;exact⟨v,hK,fun _=>ZV ha hb hv⟩
  split at h
  ·obtain⟨h,hn⟩:=MZ h;exact⟨_,h,fun g β act x y dst ty t' p af gg w hx hy=>ZK (by rw[hx,di ha]) (by rw[hy,di hb]) (hn g)⟩
  ·obtain⟨h,hn⟩:=MZ h;exact⟨_,h,fun g β act x y dst ty t' p af gg w hx hy=>ZL (by rw[hx,di ha]) (by rw[hy,di hb]) (hn g)⟩
  ·obtain⟨gD,h1⟩:=dv h;clear h;have hk:=aQ gD;clear gD;subst hk;obtain⟨h2,hn⟩:=TV hb h1;exact⟨_,h2,fun g β act x y dst ty t' p af gg w hx hy=>ZI (by rw[hx,di ha]) (by rw[hy,di hb]) (hn g)⟩
  ·obtain⟨gD,h1⟩:=dv h;clear h;have hk:=aQ gD;clear gD;subst hk;obtain⟨h2,hn⟩:=TV hb h1;exact⟨_,h2,fun g β act x y dst ty t' p af gg w hx hy=>ZJ (by rw[hx,di ha]) (by rw[hy,di hb]) (hn g)⟩
  ·exact gen h
 ·split at h
  ·rename_i s u ha hb;split at h
   ·exact⟨_,h.2,fun g β act x y dst ty t' p af gg w hx hy=>MO (by rw[hx,ik ha]) (by rw[hy,ik hb]) (gR h.1 g)⟩
   ·obtain⟨v,hv,hK⟩:=bm h;exact⟨v,hK,fun _=>ZW ha hb hv⟩
  ·split at h
   ·rename_i s u ha hb hu;split at h
    ·exact⟨_,h,fun g β act x y dst ty t' p af gg w hx hy=>KK hu (by rw[hx,lX ha]) (by rw[hy,lX hb])⟩
    ·exact⟨_,h,fun g β act x y dst ty t' p af gg w hx hy=>KL hu (by rw[hx,lX ha]) (by rw[hy,lX hb])⟩
    ·exact h.elim
   ·split at h
    ·rename_i e hu;cases hb:MY b with
     | true=>
      rw[hb]at h;obtain⟨v,hv,hK⟩:=bm h;exact⟨v,hK,fun _=>(TW hu hb hv).1⟩
     | false=>
      rw[hb]at h;obtain⟨ha,h⟩:=dv h;obtain⟨v,hv,hK⟩:=bm h;exact⟨v,hK,fun _=>(TW hu ha hv).2⟩
    ·rename_i e hu;cases hb:Ef b with
     | true=>
      rw[hb]at h;obtain⟨v,hv,hK⟩:=bm h;exact⟨v,hK,fun _=>(TX hu hb hv).1⟩
     | false=>
      rw[hb]at h;obtain⟨ha,h⟩:=dv h;obtain⟨v,hv,hK⟩:=bm h;exact⟨v,hK,fun _=>(TX hu ha hv).2⟩
    ·rename_i fs hu;obtain⟨r,hr,h⟩:=bm h;obtain⟨v,hv,hK⟩:=bm h;exact⟨v,hK,fun _=>RJ hu hr hv⟩
    ·rename_i kk ee hu;obtain⟨v,hv,hK⟩:=bm h;exact⟨v,hK,fun _=>ZX hu hv⟩
    ·exact h.elim
end
def RM:SV->Bool
 | .agg _=>false
 | .tup _=>false
 | .un=>false
 | .e=>false
 | .c _ _=>false
 | _=>true
def Iw:List SV->Bool
 | []=>true
 | s::r=>RM s&&Iw r
theorem Ei{s:SV}(h:RM s=true)(β:Nat->Nat):(val β s).oneCell'=true/\(val β s).cells=#[val β s]:=by
 cases s with
 | raw v=>
  have e:val β (.raw v)=v.v:=rfl;rw[e];refine⟨v.one,?_⟩;obtain⟨v,hv⟩:=v;cases v<;>first | rfl | (simp[Value.oneCell']at hv)
 | _=>first | exact⟨rfl,rfl⟩ | (simp[RM]at h)
theorem Be:∀{l:List SV},Iw l=true->∀β,(cp β l).all Value.oneCell'=true
 | [],_,_=>rfl
 | s::r,h,β=>by
  simp only[Iw,aP]at h;simp only[cp,bE,jN,aP];exact⟨(Ei h.1 β).1,Be h.2 β⟩
def yQ:SV->Option (List SV)
 | .agg l=>bif AK l&&Iw (lg l)then some (lg l)else none
 | s=>bif RM s then some [s]else none
theorem Cm{α:Type}{b:Bool}{x:α}{y:α}(h:(bif b then some x else none)=some y):b=true/\x=y:=by
 cases b with
 | true=>exact⟨rfl,by simpa using h⟩
 | false=>cases h
theorem wm{s:SV}{l:List SV}(h:yQ s=some l)(β:Nat->Nat):(val β s).cells=(cp β l).toArray/\(cp β l).all Value.oneCell'=true:=by
 unfold yQ at h;split at h
 ·obtain⟨h1,rfl⟩:=Cm h;simp only[aP]at h1;refine⟨?_,Be h1.2 β⟩;show(pA β _).toArray=_;rw[mD β h1.1]
 ·obtain⟨h1,rfl⟩:=Cm h;obtain⟨h2,h3⟩:=Ei h1 β;exact⟨h3,by simp[cp,h2]⟩
def GX:List aw->Option (List SV)
 | []=>some []
 | v::r=>match MV v,GX r with
  | some s,some l=>some (s::l)
  | _,_=>none
theorem yd(β:Nat->Nat):∀{l:List aw} {s:List SV},GX l=some s->cp β s=l
 | [],s,h=>by simp only[GX,aV]at h;subst h;rfl
 | v::r,s,h=>by
  simp only[GX]at h;split at h
  ·rename_i s' l' h1 h2;simp only[aV]at h;subst h;have:=yd β h2;simp only[cp,bE]at this⊢;rw[yM h1,this]
  ·cases h
def ZY(cs:List SV)(o:Nat)(vs:List SV):List SV:=cs.take o++vs++cs.drop (o+vs.length)
theorem Ej(β:Nat->Nat)(cs:List SV)(o:Nat)(vs:List SV):cp β (ZY cs o vs)=ca (cp β cs) o (cp β vs):=by
 simp only[cp,ZY,ca,dF,qt,qu,bZ]
theorem Ek{off:Nat}:∀(vs:List aw) (k:Nat) (cs:List aw),off+k+vs.length<=cs.length->
  (vs.zipIdx k).foldl (fun(cs:Array aw) (x:aw×Nat)=>cs.setIfInBounds (off+x.2) x.1) cs.toArray=(ca cs (off+k) vs).toArray
 | [],k,cs,_=>by simp[ca]
 | v::vs,k,cs,h=>by
  simp only[aR]at h;have e:cs.toArray.setIfInBounds (off+k) v=(cs.set (off+k) v).toArray:=by simp
  rw[List.zipIdx_cons,List.foldl_cons];dsimp only;rw[e,Ek vs (k+1) _ (by rw[nD];omega)];congr 1;simp only[ca,aR];rw[show off+(k+1)=off+k+1 by omega,bB,List.getElem?_set_self (by omega),List.take_set_of_le (aW _),List.drop_set_of_lt (by omega),show off+k+1+vs.length=off+k+(vs.length+1) by omega];simp
def Bg(place:Nat->Option (Nat×Nat)):List SV->List (Nat×SV)->Option (List SV)
 | cells,[]=>some cells
 | cells,(i,v)::rest=>match place i,yQ v with
  | some (off,size),some vs=>bif Nat.beq vs.length size&&Nat.ble (off+vs.length) cells.length then Bg place (ZY cells off vs) rest else none
  | _,_=>none
theorem yR(β:Nat->Nat){place:Nat->Option (Nat×Nat)}:∀{parts:List (Nat×SV)} {cells r:List SV},Bg place cells parts=some r->Instr.fill place (cp β cells).toArray (yN β parts)=some (cp β r).toArray
 | [],cells,r,h=>by simp only[Bg,aV]at h;subst h;rfl
 | (i,v)::rest,cells,r,h=>by
  simp only[Bg]at h;split at h
  ·rename_i off size vs hp hc;cases hb:(Nat.beq vs.length size&&Nat.ble (off+vs.length) cells.length)with
   | false=>rw[hb]at h;cases h
   | true=>
    rw[hb]at h;simp only[aP]at hb;have h1:=bM hb.1;have h2:=de hb.2;obtain⟨e1,_⟩:=wm hc β;have ih:=yR β (parts:=rest) (cells:=ZY cells off vs) h;rw[Ej]at ih;simp only[yN,bE,Instr.fill,hp,e1,lp,ff];rw[if_neg (by simp[h1];omega)];have e2:=Ek (off:=off) (cp β vs) 0 (cp β cells) (by rw[ff,ff];omega);rw[fp]at e2;have e3:(cp β vs).toArray.zipIdx.foldl (fun(cs:Array aw) (x:aw×Nat)=>cs.setIfInBounds (off+x.2) x.1) (cp β cells).toArray=(ca (cp β cells) off (cp β vs)).toArray:=by
     rw[<-e2];simp
    exact(bK (fun a=>Instr.fill place a (yN β rest)) e3).trans ih
  ·cases h
def Vv(P:Program)(t:TypeId)(parts:List (Nat×SV)):Option (List SV):=
 match P.info? t,P.underlying t with
 | some it,some (.array _ e)=>(match it.zero,P.info? e with
  | some z,some ie=>(match GX z.cells.toList with
   | some zs=>Bg (fun i=>some (i*ie.size,ie.size)) zs parts
   | none=>none)
  | _,_=>none)
 | some it,some (.struct fields)=>(match it.zero,fields.toList.mapM (fun f=>(P.info? f.type).map fun i=>(f.offset,i.size))with
  | some z,some places=>(match GX z.cells.toList with
   | some zs=>Bg (places.toArray[·]?) zs parts
   | none=>none)
  | _,_=>none)
 | _,_=>none
theorem RN{P:Program}{t:TypeId}{parts:List (Nat×SV)}{r:List SV}(h:Vv P t parts=some r)(β:Nat->Nat)(w:av):(Instr.build t (yN β parts).toArray).run P w=.ok (.agg (cp β r).toArray) w:=by
 refine run_build w t _ _ ?_;unfold Vv at h;split at h
 ·rename_i it n e h1 h2;split at h
  ·rename_i z ie h3 h4;split at h
   ·rename_i zs h5;have:=yR β h;rw[yd β h5]at this;simp only[Program.built,h1,h2,h3,h4];simpa using this
   ·cases h
  ·cases h
 ·rename_i it fields h1 h2;split at h
  ·rename_i z places h3 h4;split at h
   ·rename_i zs h5;have:=yR β h;rw[yd β h5]at this;simp only[Program.built,h1,h2,h3,h4];simpa using this
   ·cases h
  ·cases h
 ·cases h
def sz(P:Program)(t:TypeId)(n:Nat):Bool:=match P.info? t with
 | some i=>Nat.beq i.size n
 | none=>false
theorem oZ{P:Program}{t:TypeId}{n:Nat}(h:sz P t n=true)(w:av):(sizeOf t).run P w=.ok n w:=by
 unfold sz at h;cases hi:P.info? t with
 | none=>rw[hi]at h;cases h
 | some i=>
  rw[hi]at h;rw[<-bM h];simp[sizeOf,typeInfo,hi]
def tI(P:Program)(t:TypeId):Nat:=match P.info? t with
 | some i=>i.size
 | none=>0
theorem kI{P:Program}{t:TypeId}{d:TypeDesc}(h:P.underlying t=some d)(w:av):(isAgg t).run P w=.ok (mN d) w:=by
 unfold isAgg;rw[Sem.run_bind,run_underlying h,Result.andThen_ok];cases d<;>rfl
def GY(b:SV)(K:Nat->(Prop->Prop)->Prop):Prop:=match b with
 | .il _ n=>bif decide (0<=n)then K n.toNat id else False
 | .int _ n=>∃v:Nat,K v fun p=>n=v/\p
 | _=>False
theorem lY{b:SV}{K:Nat->(Prop->Prop)->Prop}(h:GY b K):∃(v:Nat) (e:Prop->Prop) (k:IntKind) (n:Int),K v e/\pK b=some (k,n)/\(∀p,e p->n=v/\p):=by
 unfold GY at h;split at h
 ·rename_i k n;obtain⟨h1,h2⟩:=dv h;have h1:=aQ h1;exact⟨_,_,k,n,h2,rfl,fun p hp=>⟨by omega,hp⟩⟩
 ·rename_i k n;obtain⟨v,hv⟩:=h;exact⟨v,_,k,n,hv,rfl,fun p hp=>hp⟩
 ·exact h.elim
def slS(gs:List (Bool×Bool))(s:Sl)(es:Nat)(st:St)(lo hi mx:Option Operand)(K:SV->Prop):Prop:=match lo,hi,mx with
 | some lo,none,none=>bR (st.ev lo) fun a=>GY a fun l e=>gi gs (e (l<=s.n/\s.n<=s.c))/\K (.sl (s.cut l s.n s.c es))
 | none,some hi,none=>bR (st.ev hi) fun a=>GY a fun h e=>gi gs (e (h<=s.c))/\K (.sl (s.cut 0 h s.c es))
 | some lo,some hi,none=>bR (st.ev lo) fun a=>bR (st.ev hi) fun b=>GY a fun l e=>GY b fun h f=>gi gs (e (f (l<=h/\h<=s.c)))/\K (.sl (s.cut l h s.c es))
 | none,some hi,some mx=>bR (st.ev hi) fun b=>bR (st.ev mx) fun c=>GY b fun h e=>GY c fun m f=>gi gs (e (f (h<=m/\m<=s.c)))/\K (.sl (s.cut 0 h m es))
 | some lo,some hi,some mx=>bR (st.ev lo) fun a=>bR (st.ev hi) fun b=>bR (st.ev mx) fun c=>GY a fun l e=>GY b fun h f=>GY c fun m g=>gi gs (e (f (g (l<=h/\h<=m/\m<=s.c))))/\K (.sl (s.cut l h m es))
 | _,_,_=>False
def slT(gs:List (Bool×Bool))(s:ByteArray)(st:St)(lo hi mx:Option Operand)(K:SV->Prop):Prop:=match lo,hi,mx with
 | some lo,none,none=>bR (st.ev lo) fun a=>GY a fun l e=>gi gs (e (l<=s.size))/\K (.str (s.extract l s.size))
 | none,some hi,none=>bR (st.ev hi) fun a=>GY a fun h e=>gi gs (e (h<=s.size))/\K (.str (s.extract 0 h))
 | some lo,some hi,none=>bR (st.ev lo) fun a=>bR (st.ev hi) fun b=>GY a fun l e=>GY b fun h f=>gi gs (e (f (l<=h/\h<=s.size)))/\K (.str (s.extract l h))
 | _,_,_=>False
def uc(P:Program)(b:Builtin)(xs:List Operand)(ts:List TypeId)(st:St)(K:SV->Prop):Prop:=match b,xs,ts with
 | .len,[x],[t]=>bR (st.ev x) fun a=>(match P.underlying t with
  | some (.slice _)=>bR (Iv a) fun s=>K (.int .i64 s.n)
  | some .string=>bR (uw a) fun s=>K (.int .i64 s.size)
  | _=>False)
 | .cap,[x],[t]=>bR (st.ev x) fun a=>(match P.underlying t with
  | some (.slice _)=>bR (Iv a) fun s=>K (.int .i64 s.c)
  | _=>False)
 | .min,[x,y],_=>bR (st.ev x) fun a=>bR (st.ev y) fun b=>bR (pK a) fun p=>bR (pK b) fun q=>K (.int p.1 (if q.2<p.2 then q.2 else p.2))
 | .max,[x,y],_=>bR (st.ev x) fun a=>bR (st.ev y) fun b=>bR (pK a) fun p=>bR (pK b) fun q=>K (.int p.1 (if q.2>p.2 then q.2 else p.2))
 | _,_,_=>False
def nif:TypeDesc->Bool
 | .interface _=>false
 | _=>true
def cvP(P:Program)(gs:List (Bool×Bool))(st:St)(s d:TypeId)(a:SV)(K:SV->Prop):Prop:=match P.underlying s,P.underlying d with
 | some (.int _),some (.int kd)=>bR (pK a) fun p=>K (.int kd (kd.wrap p.2))
 | some .string,some .string=>bR (uw a) fun u=>K (.str u)
 | some (.slice e),some .string=>(match P.underlying e with
  | some (.int .u8)=>bR (Iv a) fun u=>bif st.mv then False else ∃l:List UInt8,gi gs (qW st.w0 u l)/\K (.str ⟨l.toArray⟩)
  | _=>False)
 | _,_=>False
def ldP(P:Program)(gs:List (Bool×Bool))(st:St)(t:TypeId)(a:SV)(K:SV->Prop):Prop:=match P.underlying t with
 | none=>False
 | some d=>(match a with
  | .box i o=>bR (cM st.bx i) fun b=>bif b.ok&&sz P t ((b.cells.drop o).take (tI P t)).length&&(mN d||Nat.beq ((b.cells.drop o).take (tI P t)).length 1)then K (MX (mN d) ((b.cells.drop o).take (tI P t)))else False
  | .ad p=>bif !st.mv&&sz P t (QW P 12 t).length&&(mN d||Nat.beq (QW P 12 t).length 1)then YK (QW P 12 t) fun vs=>gi gs (Cells st.w0 p (cp β0 vs))/\K (MX (mN d) vs)else False
  | _=>False)
def Ix:Operand->Bool
 | .const .nilIface=>true
 | _=>false
def niV:aw->Bool
 | .nilIface=>true
 | _=>false
def ZZ(v:aw):Prop:=v=.nilIface∨∃t x,v=.iface t x
def niP(P:Program)(gs:List (Bool×Bool))(op:BinOp)(t:TypeId)(a:SV)(K:SV->Prop):Prop:=match a,P.underlying t,op with
 | .raw v,some (.interface _),.eql=>gi gs (ZZ v.v)/\K (.bt (niV v.v))
 | .raw v,some (.interface _),.neq=>gi gs (ZZ v.v)/\K (.bt (!niV v.v))
 | _,_,_=>False
theorem M0{y:Operand}(h:Ix y=true):y=.const .nilIface:=by
 unfold Ix at h;split at h
 ·rfl
 ·cases h
theorem TY{P:Program}{t:TypeId}{ms:Array (String×TypeId)}{v:aw}(hu:P.underlying t=some (.interface ms))(hv:ZZ v)(w:av):(Op.equal t v .nilIface).run P w=.ok (niV v) w:=by
 unfold Op.equal Op.maxDepth Op.equalIn;rcases hv with rfl | ⟨tx,x,rfl⟩<;>simp only[Sem.run_bind,run_underlying hu,Result.andThen_ok]<;>rfl
theorem El{P:Program}{op:BinOp}{t:TypeId}{x:Operand}{v:aw}(hv:ZZ v)(w:av):(eqGuard op t x (.const .nilIface) v .nilIface).run P w=.ok () w:=by
 unfold eqGuard;rcases hv with rfl | ⟨tx,x,rfl⟩<;>cases op<;>first | rfl | simp
theorem Vw{P:Program}{gs:List (Bool×Bool)}{st:St}{K:SV->Prop}{op:BinOp}{t ty:TypeId}{x:Operand}{a:SV}(hx:st.ev x=some a)(h:niP P gs op t a K):∃v,K v/\(gh gs->∀(β:Nat->Nat) (c:Act) (w:av),Rep β st c w->∀(d:Option Tmp) (t':TypeId) (p:String) (af:Array Edge) (g:Option (Nat×Bool)) (w':av),
  (execOp c.eval ⟨d,.binOp op t x (.const .nilIface) ty,t',p,af,g⟩).run P w'=.ok (.value (val β v)) w'):=by
 unfold niP at h;split at h
 ·rename_i v ms hu;refine⟨_,h.2,fun hg β c w hR d t' p af g w'=>?_⟩;have hv:=gR h.1 hg;have e:c.eval x=v.v:=hR.ev hx;have e2:c.eval (.const .nilIface)=.nilIface:=rfl;have hb:binOp .eql t v.v .nilIface=(do pure (.bool (<-Op.equal t v.v .nilIface))):=by
   rcases hv with h | ⟨tx,x,h⟩<;>rw[h]<;>rfl
  simp only[execOp,e,e2,hb,Sem.run_bind,El hv,Result.andThen_ok,TY hu hv,Sem.run_pure];rfl
 ·rename_i v ms hu;refine⟨_,h.2,fun hg β c w hR d t' p af g w'=>?_⟩;have hv:=gR h.1 hg;have e:c.eval x=v.v:=hR.ev hx;have e2:c.eval (.const .nilIface)=.nilIface:=rfl;have hb:binOp .neq t v.v .nilIface=(do pure (.bool (!(<-Op.equal t v.v .nilIface)))):=by
   rcases hv with h | ⟨tx,x,h⟩<;>rw[h]<;>rfl
  simp only[execOp,e,e2,hb,Sem.run_bind,El hv,Result.andThen_ok,TY hu hv,Sem.run_pure];rfl
 ·exact h.elim
def Iy(p:Addr)(i:Int)(len size:Nat)(q:Addr):Prop:=0<=i/\i<len/\p.add (i.toNat*size)=q
def Vx(n:Int)(F:Nat->Prop):Nat->Prop
 | 0=>True
 | 1=>n=0->F 0
 | j+2=>Vx n F (j+1)/\(n=((j+1:Nat):Int)->F (j+1))
theorem Iz{n:Int}{F:Nat->Prop}:∀{m:Nat},Vx n F m->0<=n->n<m->F n.toNat
 | 0,_,h0,h1=>by omega
 | 1,h,h0,h1=>by
  have e:n=0:=by omega
  subst e;exact h rfl
 | j+2,h,h0,h1=>by
  by_cases e:n=((j+1:Nat):Int)
  ·have:=h.2 e;rw[e];exact this
  ·exact Iz h.1 h0 (by omega)
def Vy(P:Program)(gs:List (Bool×Bool))(st:St)(o:Op)(K:SV->Prop):Prop:=match o with
 | .move x=>bR (st.ev x) K
 | .assign x=>bR (st.ev x) K
 | .pick c x y=>bR (st.ev c) fun c=>(match c with
  | .bl true=>bR (st.ev x) K
  | .bl false=>bR (st.ev y) K
  | _=>False)
 | .binOp op t x y _=>bR (st.ev x) fun a=>bR (st.ev y) fun b=>bif Ix y then niP P gs op t a K else Vu P gs op t a b K
 | .unOp .not _ x=>bR (st.ev x) fun a=>(match a with
  | .bl b=>K (.bl (!b))
  | .bt b=>K (.bt (!b))
  | _=>False)
 | .unOp .neg _ x=>bR (st.ev x) fun a=>bR (pK a) fun p=>K (.int p.1 (p.1.wrap (0-p.2)))
 | .convert s d x=>bR (st.ev x) fun a=>cvP P gs st s d a K
 | .extract x i=>bR (st.ev x) fun a=>(match a with
  | .tup l=>bif AK l then bR ((lg l)[i]?) K else False
  | _=>False)
 | .build t parts=>bR (st.Q4 parts.toList) fun ps=>bR (Vv P t ps) fun r=>K (.agg (j5 r))
 | .makeFunc fn fs cs=>(match fn with
  | .func f=>bR (st.Kl fs.toList) fun a=>bR (st.Kl cs.toList) fun b=>K (.fn f (j5 a) (j5 b))
  | _=>False)
 | .makeInterface t x=>bR (st.ev x) fun a=>bR (P.underlying t) fun d=>bif nif d&&cln (fun _=>false) a then K (.raw ⟨.iface t (val β0 a),rfl⟩)else False
 | .nilCheck x=>bR (st.ev x) fun a=>(match a with
  | .ad p=>K (.ad p)
  | .box i o=>K (.box i o)
  | .ptr p=>∃q:Addr,gi gs (p=some q)/\K (.ad q)
  | .fn f .e cs=>K (.fn f .e cs)
  | _=>False)
 | .fieldAddr s x k=>bR (st.ev x) fun a=>(match P.underlying s with
  | some (.struct fs)=>bR (fs[k]?) fun f=>bif Nat.ble 1 (tI P f.type)then(match a with
   | .ad p=>K (.ad (p.add f.offset))
   | .box i o=>K (.box i (o+f.offset))
   | _=>False)else False
  | _=>False)
 | .field t x k=>bR (st.ev x) fun a=>(match a,P.underlying t with
  | .agg l,some (.struct fs)=>bR (fs[k]?) fun f=>bR (P.underlying f.type) fun d=>bif AK l&&sz P f.type (((lg l).drop f.offset).take (tI P f.type)).length&&(mN d||Nat.beq (((lg l).drop f.offset).take (tI P f.type)).length 1)
   then K (MX (mN d) (((lg l).drop f.offset).take (tI P f.type)))else False
  | _,_=>False)
 | .indexAddr t x i=>bR (st.ev x) fun a=>bR (st.ev i) fun j=>bR (pK j) fun n=>(match P.underlying t with
  | some (.slice e)=>bR (Iv a) fun s=>bif (P.info? e).isSome then ∃q:Addr,gi gs (dl s n.2 (tI P e) q)/\K (.ad q)else False
  | some (.array len e)=>bif (P.info? e).isSome then(match a,j with
   | .box b o,.il _ n=>bif decide (0<=n)&&decide (n<len)then K (.box b (o+n.toNat*tI P e))else False
   | .ad p,.il _ n=>bif decide (0<=n)&&decide (n<len)then K (.ad (p.add (n.toNat*tI P e)))else False
   | .ad p,_=>∃q:Addr,gi gs (Iy p n.2 len (tI P e) q)/\K (.ad q)
   | .box b o,_=>bif Nat.ble len 8 then(0<=n.2/\n.2<(len:Int))/\Vx n.2 (fun j=>K (.box b (o+j*tI P e))) len else False
   | _,_=>False)else False
  | _=>False)
 | .load t x=>bR (st.ev x) fun a=>ldP P gs st t a K
 | .index t x i=>bR (st.ev x) fun a=>bR (st.ev i) fun j=>bR (pK j) fun n=>(match P.underlying t with
  | some .string=>bR (uw a) fun s=>∃c:UInt8,gi gs (0<=n.2/\s[n.2.toNat]? =some c)/\K (.int .u8 (c.toNat:Int))
  | _=>False)
 | .slice t x lo hi mx=>bR (st.ev x) fun a=>(match P.underlying t with
  | some (.slice e)=>bR (Iv a) fun s=>bif (P.info? e).isSome then slS gs s (tI P e) st lo hi mx K else False
  | some .string=>bR (uw a) fun s=>slT gs s st lo hi mx K
  | _=>False)
 | .call c=>(match c.callee with
  | .builtin b=>uc P b c.args.toList c.argTypes.toList st K
  | _=>False)
 | _=>False
def mem:Op->Bool
 | .load _ _=>true
 | .convert _ _ _=>true
 | _=>false
def Y(P:Program)(st:St)(o:Op)(v:SV):Prop:=∀(β:Nat->Nat) (a:Act) (w:av),Rep β st a w->∀(d:Option Tmp) (t:TypeId) (p:String) (af:Array Edge) (g:Option (Nat×Bool)) (w':av),(mem o=true->w'.heap=w.heap)->
 (execOp a.eval ⟨d,o,t,p,af,g⟩).run P w'=.ok (.value (val β v)) w'
theorem kJ{P:Program}{t:TypeId}(h:(P.info? t).isSome=true)(w:av):(sizeOf t).run P w=.ok (tI P t) w:=by
 unfold tI;cases hi:P.info? t with
 | none=>rw[hi]at h;cases h
 | some i=>simp[sizeOf,typeInfo,hi]
theorem Cn(b o n:Nat):(⟨b,o,none⟩:Addr).add n=⟨b,o+n,none⟩:=by unfold Addr.add;split<;>simp_all
theorem oI{d:TypeDesc}(h:mN d=true)(β:Nat->Nat)(l:List SV):val β (MX (mN d) l)=.agg (cp β l).toArray:=by
 rw[h];show Value.agg (pA β (j5 l)).toArray=_;rw[qy]
theorem yS{l:List SV}(h:Nat.beq l.length 1=true):∃s,l=[s]:=by
 have:=bM h
 match l,this with
 | [s],_=>exact⟨s,rfl⟩
section
variable {P:Program} {gs:List (Bool×Bool)} {st:St} {K:SV->Prop}
theorem Vz{t:TypeId}{x:Operand}{a:SV}(hx:st.ev x=some a)(h:ldP P gs st t a K):∃v,K v/\(gh gs->Y P st (.load t x) v):=by
 unfold ldP at h;split at h
 ·exact h.elim
 ·rename_i d hu;split at h
  ·rename_i i o;obtain⟨b,hb,h⟩:=bm h;obtain⟨h1,h2⟩:=dv h;simp only[aP,cq]at h1;obtain⟨⟨tU,hsz⟩,lN⟩:=h1;refine⟨_,h2,fun _ β act w hR dst t' p af g w' hh=>?_⟩;have hB:=(hR.bx i b hb tU).blk;have hB':Blk w' (β i) b.ty (cp β b.cells):=by unfold Blk at hB⊢;rw[hh rfl];exact hB
   have Ks:=hR.ev hx;generalize hl:(b.cells.drop o).take (tI P t)=l at*
   have hC:Cells w' ⟨β i,o,none⟩ (cp β l):=hB'.Dt o _ (by
    rw[ff,<-hl];simp only[cp,qt,qu];rw[cP,pH];simp only[bX,bZ];omega)
   rcases lN with re | lN
   ·rw[oI re];have:=kI (P:=P) hu w';rw[re]at this;exact sR this (oZ hsz w') (ff β l) Ks hC
   ·cases re:mN d with
    | true=>
     have e:=oI re β l;rw[re]at e;rw[e];have:=kI (P:=P) hu w';rw[re]at this;exact sR this (oZ hsz w') (ff β l) Ks hC
    | false=>
     obtain⟨s,rfl⟩:=yS lN;have:=kI (P:=P) hu w';rw[re]at this;exact B6 this Ks (Cells.one hC)
  ·rename_i ad;obtain⟨h1,h2⟩:=dv h;simp only[aP,cq,cx]at h1;obtain⟨⟨rq,hsz⟩,lN⟩:=h1;obtain⟨vs,⟨hF,hK⟩,ey,pj⟩:=yO h2;refine⟨_,hK,fun hg β act w hR dst t' p af g w' hh=>?_⟩;have hF:=gR hF hg;have hw:=hR.still rq;subst hw;have hC:Cells w' ad (cp β vs):=by
    rw[gQ (β:=β) (β':=β0) (g:=fun _=>false) (fun i h=>(by cases h)) vs (pj _)];exact hF.keep (by rw[hh rfl])
   have Ks:=hR.ev hx;rw[<-ey]at hsz lN;rcases lN with re | lN
   ·rw[oI re];have:=kI (P:=P) hu w';rw[re]at this;exact sR this (oZ hsz w') (ff β vs) Ks hC
   ·cases re:mN d with
    | true=>
     have e:=oI re β vs;rw[re]at e;rw[e];have:=kI (P:=P) hu w';rw[re]at this;exact sR this (oZ hsz w') (ff β vs) Ks hC
    | false=>
     obtain⟨s,rfl⟩:=yS lN;have:=kI (P:=P) hu w';rw[re]at this;exact B6 this Ks (Cells.one hC)
  ·exact h.elim
theorem VA{s d:TypeId}{x:Operand}{a:SV}(hx:st.ev x=some a)(h:cvP P gs st s d a K):∃v,K v/\(gh gs->Y P st (.convert s d x) v):=by
 unfold cvP at h;split at h
 ·rename_i ks kd h1 h2;obtain⟨⟨k,n⟩,hp,h⟩:=bm h;exact⟨_,h,fun _ β act w hR dst t' p af g w' hh=>A8 (run_underlying h1 w') (run_underlying h2 w') ((hR.ev hx).trans (di hp β))⟩
 ·rename_i h1 h2;obtain⟨u,hp,h⟩:=bm h;exact⟨_,h,fun _ β act w hR dst t' p af g w' hh=>A9 (run_underlying h1 w') (run_underlying h2 w') ((hR.ev hx).trans (ik hp β))⟩
 ·rename_i e h1 h2;split at h
  ·rename_i h3;obtain⟨u,hp,h⟩:=bm h;cases hm:st.mv with
   | true=>rw[hm]at h;exact h.elim
   | false=>
    rw[hm]at h;obtain⟨l,hF,hK⟩:=h;refine⟨_,hK,fun hg β act w hR dst t' p af g w' hh=>?_⟩;have hw:=hR.still hm;subst hw;exact yI h1 h3 h2 ((hR.ev hx).trans (jT hp β)) (GV _ _ (by rw[hh rfl]) (gR hF hg))
  ·exact h.elim
 ·exact h.elim
theorem VB{b:Builtin}{xs:List Operand}{ts:List TypeId}(h:uc P b xs ts st K):∃v,K v/\(gh gs->Y P st (.call ⟨.builtin b,xs.toArray,ts.toArray⟩) v):=by
 unfold uc at h;split at h
 ·obtain⟨a,hx,h⟩:=bm h;split at h
  ·rename_i hu;obtain⟨s,hs,h⟩:=bm h;exact⟨_,h,fun _ β act w hR dst t' p af g w' hh=>ZH (run_underlying hu w') ((hR.ev hx).trans (jT hs β))⟩
  ·rename_i hu;obtain⟨s,hs,h⟩:=bm h;exact⟨_,h,fun _ β act w hR dst t' p af g w' hh=>MP (run_underlying hu w') ((hR.ev hx).trans (ik hs β))⟩
  ·exact h.elim
 ·obtain⟨a,hx,h⟩:=bm h;split at h
  ·rename_i hu;obtain⟨s,hs,h⟩:=bm h;exact⟨_,h,fun _ β act w hR dst t' p af g w' hh=>ZM (run_underlying hu w') ((hR.ev hx).trans (jT hs β))⟩
  ·exact h.elim
 ·obtain⟨a,hx,h⟩:=bm h;obtain⟨b,hy,h⟩:=bm h;obtain⟨⟨k,m⟩,hp,h⟩:=bm h;obtain⟨⟨k',n⟩,hq,h⟩:=bm h;exact⟨_,h,fun _ β act w hR dst t' p af g w' hh=>ZN ((hR.ev hx).trans (di hp β)) ((hR.ev hy).trans (di hq β))⟩
 ·obtain⟨a,hx,h⟩:=bm h;obtain⟨b,hy,h⟩:=bm h;obtain⟨⟨k,m⟩,hp,h⟩:=bm h;obtain⟨⟨k',n⟩,hq,h⟩:=bm h;exact⟨_,h,fun _ β act w hR dst t' p af g w' hh=>ZO ((hR.ev hx).trans (di hp β)) ((hR.ev hy).trans (di hq β))⟩
 ·exact h.elim
theorem VC{t e:TypeId}{x:Operand}{lo hi mx:Option Operand}{a:SV}{s:Sl}(hu:P.underlying t=some (.slice e))(xD:(P.info? e).isSome=true)(hx:st.ev x=some a)(hs:Iv a=some s)(h:slS gs s (tI P e) st lo hi mx K):∃v,K v/\(gh gs->Y P st (.slice t x lo hi mx) v):=by
 unfold slS at h;split at h
 ·obtain⟨a1,h1,h⟩:=bm h;obtain⟨l,e1,k1,n1,⟨hF,hK⟩,o1,u1⟩:=lY h;refine⟨_,hK,fun hg β act w hR dst t' p af g w' hh=>?_⟩;obtain⟨rfl,f1,f2⟩:=u1 _ (gR hF hg);exact GK (run_underlying hu w') (kJ xD w') ((hR.ev hx).trans (jT hs β)) ((hR.ev h1).trans (di o1 β)) f1 f2 (aW _)
 ·obtain⟨a1,h1,h⟩:=bm h;obtain⟨l,e1,k1,n1,⟨hF,hK⟩,o1,u1⟩:=lY h;refine⟨_,hK,fun hg β act w hR dst t' p af g w' hh=>?_⟩;obtain⟨rfl,f1⟩:=u1 _ (gR hF hg);exact GL (run_underlying hu w') (kJ xD w') ((hR.ev hx).trans (jT hs β)) ((hR.ev h1).trans (di o1 β)) (bd _) f1 (aW _)
 ·obtain⟨a1,h1,h⟩:=bm h;obtain⟨a2,h2,h⟩:=bm h;obtain⟨l,e1,k1,n1,h,o1,u1⟩:=lY h;obtain⟨m,e2,k2,n2,⟨hF,hK⟩,o2,u2⟩:=lY h;refine⟨_,hK,fun hg β act w hR dst t' p af g w' hh=>?_⟩;obtain⟨rfl,f1⟩:=u1 _ (gR hF hg);obtain⟨rfl,f1,f2⟩:=u2 _ f1;exact GM (run_underlying hu w') (kJ xD w') ((hR.ev hx).trans (jT hs β)) ((hR.ev h1).trans (di o1 β)) ((hR.ev h2).trans (di o2 β)) f1 f2 (aW _)
 ·obtain⟨a1,h1,h⟩:=bm h;obtain⟨a2,h2,h⟩:=bm h;obtain⟨l,e1,k1,n1,h,o1,u1⟩:=lY h;obtain⟨m,e2,k2,n2,⟨hF,hK⟩,o2,u2⟩:=lY h;refine⟨_,hK,fun hg β act w hR dst t' p af g w' hh=>?_⟩;obtain⟨rfl,f1⟩:=u1 _ (gR hF hg);obtain⟨rfl,f1,f2⟩:=u2 _ f1;exact GN (run_underlying hu w') (kJ xD w') ((hR.ev hx).trans (jT hs β)) ((hR.ev h1).trans (di o1 β)) ((hR.ev h2).trans (di o2 β)) (bd _) f1 f2
 ·obtain⟨a1,h1,h⟩:=bm h;obtain⟨a2,h2,h⟩:=bm h;obtain⟨a3,h3,h⟩:=bm h;obtain⟨l,e1,k1,n1,h,o1,u1⟩:=lY h;obtain⟨m,e2,k2,n2,h,o2,u2⟩:=lY h;obtain⟨q,e3,k3,n3,⟨hF,hK⟩,o3,u3⟩:=lY h;refine⟨_,hK,fun hg β act w hR dst t' p af g w' hh=>?_⟩;obtain⟨rfl,f1⟩:=u1 _ (gR hF hg);obtain⟨rfl,f1⟩:=u2 _ f1;obtain⟨rfl,f1,f2,f3⟩:=u3 _ f1;exact GP (run_underlying hu w') (kJ xD w') ((hR.ev hx).trans (jT hs β)) ((hR.ev h1).trans (di o1 β)) ((hR.ev h2).trans (di o2 β)) ((hR.ev h3).trans (di o3 β)) f1 f2 f3
 ·exact h.elim
theorem VD{t:TypeId}{x:Operand}{lo hi mx:Option Operand}{a:SV}{s:ByteArray}(hu:P.underlying t=some .string)(hx:st.ev x=some a)(hs:uw a=some s)(h:slT gs s st lo hi mx K):∃v,K v/\(gh gs->Y P st (.slice t x lo hi mx) v):=by
 unfold slT at h;split at h
 ·obtain⟨a1,h1,h⟩:=bm h;obtain⟨l,e1,k1,n1,⟨hF,hK⟩,o1,u1⟩:=lY h;refine⟨_,hK,fun hg β act w hR dst t' p af g w' hh=>?_⟩;obtain⟨rfl,f1⟩:=u1 _ (gR hF hg);exact B8 (run_underlying hu w') ((hR.ev hx).trans (ik hs β)) ((hR.ev h1).trans (di o1 β)) f1 (aW _)
 ·obtain⟨a1,h1,h⟩:=bm h;obtain⟨l,e1,k1,n1,⟨hF,hK⟩,o1,u1⟩:=lY h;refine⟨_,hK,fun hg β act w hR dst t' p af g w' hh=>?_⟩;obtain⟨rfl,f1⟩:=u1 _ (gR hF hg);exact B9 (run_underlying hu w') ((hR.ev hx).trans (ik hs β)) ((hR.ev h1).trans (di o1 β)) (bd _) f1
 ·obtain⟨a1,h1,h⟩:=bm h;obtain⟨a2,h2,h⟩:=bm h;obtain⟨l,e1,k1,n1,h,o1,u1⟩:=lY h;obtain⟨m,e2,k2,n2,⟨hF,hK⟩,o2,u2⟩:=lY h;refine⟨_,hK,fun hg β act w hR dst t' p af g w' hh=>?_⟩;obtain⟨rfl,f1⟩:=u1 _ (gR hF hg);obtain⟨rfl,f1,f2⟩:=u2 _ f1;exact Ca (run_underlying hu w') ((hR.ev hx).trans (ik hs β)) ((hR.ev h1).trans (di o1 β)) ((hR.ev h2).trans (di o2 β)) f1 f2
 ·exact h.elim
theorem RO{t:TypeId}{d:TypeDesc}{l:List aw}{off n:Nat}(hu:P.underlying t=some d)(hn:sz P t n=true)(re:mN d=true)(w:av):(part t l.toArray off).run P w=.ok (.agg ((l.drop off).take n).toArray) w:=by
 have h:=kI (P:=P) hu w;rw[re]at h;unfold part;simp only[Sem.run_bind,h,Result.andThen_ok,if_true,oZ hn w,Sem.run_pure];congr 2;rw[List.extract_toArray,List.extract_eq_take_drop,dE]
theorem M1{t:TypeId}{d:TypeDesc}{l:List aw}{off:Nat}{v:aw}(hu:P.underlying t=some d)(re:mN d=false)(hv:l[off]? =some v)(w:av):(part t l.toArray off).run P w=.ok v w:=by
 have h:=kI (P:=P) hu w;rw[re]at h;unfold part;simp only[Sem.run_bind,h,Result.andThen_ok];simp[hv]
theorem GZ{o:Op}(h:Vy P gs st o K):∃v,K v/\(gh gs->Y P st o v):=by
 unfold Vy at h;split at h
 ·obtain⟨v,hx,hK⟩:=bm h;exact⟨v,hK,fun _ β act w hR dst t' p af g w' hh=>by simp only[execOp,hR.ev hx,Sem.run_pure]⟩
 ·obtain⟨v,hx,hK⟩:=bm h;exact⟨v,hK,fun _ β act w hR dst t' p af g w' hh=>by simp only[execOp,hR.ev hx,Sem.run_pure]⟩
 ·obtain⟨c,hc,h⟩:=bm h;split at h
  ·obtain⟨v,hx,hK⟩:=bm h;exact⟨v,hK,fun _ β act w hR dst t' p af g w' hh=>Rz (hR.ev hc) (hR.ev hx)⟩
  ·obtain⟨v,hx,hK⟩:=bm h;exact⟨v,hK,fun _ β act w hR dst t' p af g w' hh=>RA (hR.ev hc) (hR.ev hx)⟩
  ·exact h.elim
 ·rename_i op t x y ty;obtain⟨a,hx,h⟩:=bm h;obtain⟨b,hy,h⟩:=bm h;cases hn:Ix y with
  | true=>
   rw[hn]at h;have e:=M0 hn;subst e;obtain⟨v,hK,hr⟩:=Vw hx h;exact⟨v,hK,fun hg β act w hR dst t' p af g w' hh=>hr hg β act w hR _ _ _ _ _ _⟩
  | false=>
  rw[hn]at h;obtain⟨v,hK,hr⟩:=RL h;exact⟨v,hK,fun hg β act w hR dst t' p af g w' hh=>hr hg β act _ _ _ _ _ _ _ _ _ (hR.ev hx) (hR.ev hy)⟩
 ·obtain⟨a,hx,h⟩:=bm h;split at h
  ·exact⟨_,h,fun _ β act w hR dst t' p af g w' hh=>by simp only[execOp,hR.ev hx];rfl⟩
  ·exact⟨_,h,fun _ β act w hR dst t' p af g w' hh=>by simp only[execOp,hR.ev hx];rfl⟩
  ·exact h.elim
 ·obtain⟨a,hx,h⟩:=bm h;obtain⟨⟨k,n⟩,hp,h⟩:=bm h;exact⟨_,h,fun _ β act w hR dst t' p af g w' hh=>by simp only[execOp,hR.ev hx,di hp];rfl⟩
 ·obtain⟨a,hx,h⟩:=bm h;exact VA hx h
 ·rename_i x i;obtain⟨a,hx,h⟩:=bm h;split at h
  ·rename_i l;obtain⟨h1,h⟩:=dv h;obtain⟨v,hv,hK⟩:=bm h;refine⟨v,hK,fun _ β act w hR dst t' p af g w' hh=>?_⟩;have e:act.eval _=.tuple (cp β (lg l)).toArray:=(hR.ev hx).trans (by
    show Value.tuple (pA β l).toArray=_;rw[mD β h1])
   have e2:(cp β (lg l))[i]? =some (val β v):=by rw[cp,cX,hv];rfl
   simp only[execOp,e,Instr.extract];simp[e2]
  ·exact h.elim
 ·rename_i t parts;obtain⟨ps,hp,h⟩:=bm h;obtain⟨r,hr,hK⟩:=bm h;refine⟨_,hK,fun _ β act w hR dst t' p af g w' hh=>?_⟩;have e:val β (.agg (j5 r))=.agg (cp β r).toArray:=by
   show Value.agg (pA β (j5 r)).toArray=_;rw[qy]
  rw[e];obtain⟨pl⟩:=parts;exact RB (hR.Q4 hp) (RN hr β w')
 ·rename_i fn fs cs;split at h
  ·rename_i f;obtain⟨a,ha,h⟩:=bm h;obtain⟨b,hb,hK⟩:=bm h;refine⟨_,hK,fun _ β act w hR dst t' p af g w' hh=>?_⟩;obtain⟨fl⟩:=fs;obtain⟨cl⟩:=cs;have:=GI (P:=P) (w:=w') (dst:=dst) (t':=t') (p:=p) (af:=af) (g:=g) (fn:=.func f) (hR.Kl ha) (hR.Kl hb);rw[<-qy,<-qy]at this;exact this
  ·exact h.elim
 ·obtain⟨a,hx,h⟩:=bm h;obtain⟨d,hu,h⟩:=bm h;obtain⟨h1,hK⟩:=dv h;simp only[aP]at h1;refine⟨_,hK,fun _ β act w hR dst t' p af g w' hh=>?_⟩;have e:val β a=val β0 a:=jw (g:=fun _=>false) (fun i h=>(by cases h)) a h1.2;exact RC (run_underlying hu w') (by unfold nif at h1;cases d<;>first | rfl | exact h1.1) ((hR.ev hx).trans e)
 ·obtain⟨a,hx,h⟩:=bm h;split at h
  ·exact⟨_,h,fun _ β act w hR dst t' p af g w' hh=>MJ (hR.ev hx)⟩
  ·exact⟨_,h,fun _ β act w hR dst t' p af g w' hh=>MJ (hR.ev hx)⟩
  ·obtain⟨q,hF,hK⟩:=h;refine⟨_,hK,fun hg β act w hR dst t' p af g w' hh=>MJ ((hR.ev hx).trans ?_)⟩;have:=gR hF hg;subst this;rfl
  ·exact⟨_,h,fun _ β act w hR dst t' p af g w' hh=>by
    have e:=hR.ev hx;simp only[val,pA,rA]at e;simp only[execOp,e,Sem.run_pure,val,pA,rA]⟩
  ·exact h.elim
 ·obtain⟨a,hx,h⟩:=bm h;split at h
  ·rename_i fs hu;obtain⟨f,hf,h⟩:=bm h;obtain⟨hs,h⟩:=dv h;have hs:=de hs;have hso:(P.info? f.type).isSome=true:=by
    unfold tI at hs;split at hs
    ·rename_i hi;rw[hi];rfl
    ·omega
   obtain⟨m,hm⟩:∃m,tI P f.type=m+1:=⟨tI P f.type-1,by omega⟩
   split at h
   ·exact⟨_,h,fun _ β act w hR dst t' p af g w' hh=>Iq (run_underlying hu w') hf (by rw[kJ hso,hm]) (hR.ev hx) rfl⟩
   ·exact⟨_,h,fun _ β act w hR dst t' p af g w' hh=>Iq (run_underlying hu w') hf (by rw[kJ hso,hm]) (hR.ev hx) (Cn _ _ _)⟩
   ·exact h.elim
  ·exact h.elim
 ·obtain⟨a,hx,h⟩:=bm h;split at h
  ·rename_i l fs hu;obtain⟨f,hf,h⟩:=bm h;obtain⟨d,hd,h⟩:=bm h;obtain⟨h1,hK⟩:=dv h;simp only[aP,cq]at h1;obtain⟨⟨hl,hsz⟩,lN⟩:=h1;refine⟨_,hK,fun _ β act w hR dst t' p af g w' hh=>?_⟩;have e:act.eval _=.agg (cp β (lg l)).toArray:=(hR.ev hx).trans (by
    show Value.agg (pA β l).toArray=_;rw[mD β hl])
   have hv:cp β (((lg l).drop f.offset).take (tI P f.type))=((cp β (lg l)).drop f.offset).take (tI P f.type):=by
    simp only[cp,qt,qu]
   have key:(part f.type (cp β (lg l)).toArray f.offset).run P w'=.ok (val β (MX (mN d) (((lg l).drop f.offset).take (tI P f.type)))) w':=by
    cases re:mN d with
    | true=>
     have e2:=oI re β (((lg l).drop f.offset).take (tI P f.type));rw[re]at e2;rw[e2,hv];have h3:=RO (l:=cp β (lg l)) (off:=f.offset) hd hsz re w';rw[h3];congr 3;rw[pH];simp only[cP,bX,ff];omega
    | false=>
     rcases lN with lN | lN
     ·rw[re]at lN;cases lN
     obtain⟨s,hs⟩:=yS lN;rw[hs];refine M1 hd re ?_ w';have h4:(((lg l).drop f.offset).take (tI P f.type))[0]? =some s:=by rw[hs];rfl
     rw[nT]at h4;split at h4
     ·rw[fS,fp]at h4;rw[cp,cX,h4];rfl
     ·cases h4
   simp only[execOp,e,Instr.field,Sem.run_bind,run_underlying hu,Result.andThen_ok,hf,asAgg,Sem.run_pure,key]
  ·exact h.elim
 ·obtain⟨a,hx,h⟩:=bm h;obtain⟨j,hj,h⟩:=bm h;obtain⟨⟨k,n⟩,hn,h⟩:=bm h;split at h
  ·rename_i e hu;obtain⟨s,hs,h⟩:=bm h;obtain⟨hi,h⟩:=dv h;obtain⟨q,hF,hK⟩:=h;exact⟨_,hK,fun hg β act w hR dst t' p af g w' hh=>ML (run_underlying hu w') (kJ hi w') ((hR.ev hx).trans (jT hs β)) ((hR.ev hj).trans (di hn β)) (gR hF hg)⟩
  ·rename_i len e hu;obtain⟨hi,h⟩:=dv h;split at h
   ·obtain⟨h1,hK⟩:=dv h;simp only[aP,bA]at h1;exact⟨_,hK,fun hg β act w hR dst t' p af g w' hh=>uY (run_underlying hu w') (kJ hi w') (hR.ev hx) (hR.ev hj) h1.1 h1.2 (Cn _ _ _)⟩
   ·obtain⟨h1,hK⟩:=dv h;simp only[aP,bA]at h1;exact⟨_,hK,fun hg β act w hR dst t' p af g w' hh=>uY (run_underlying hu w') (kJ hi w') (hR.ev hx) (hR.ev hj) h1.1 h1.2 rfl⟩
   ·obtain⟨q,hF,hK⟩:=h;exact⟨_,hK,fun hg β act w hR dst t' p af g w' hh=>uY (run_underlying hu w') (kJ hi w') (hR.ev hx) ((hR.ev hj).trans (di hn β)) (gR hF hg).1 (gR hF hg).2.1 (gR hF hg).2.2⟩
   ·obtain⟨_,⟨h0,h1⟩,hK⟩:=dv h;exact⟨_,Iz hK h0 h1,fun hg β act w hR dst t' p af g w' hh=>uY (run_underlying hu w') (kJ hi w') (hR.ev hx) ((hR.ev hj).trans (di hn β)) h0 h1 (Cn _ _ _)⟩
   ·exact h.elim
  ·exact h.elim
 ·obtain⟨a,hx,h⟩:=bm h;exact Vz hx h
 ·obtain⟨a,hx,h⟩:=bm h;obtain⟨j,hj,h⟩:=bm h;obtain⟨⟨k,n⟩,hn,h⟩:=bm h;split at h
  ·rename_i hu;obtain⟨s,hs,h⟩:=bm h;obtain⟨c,hF,hK⟩:=h;exact⟨_,hK,fun hg β act w hR dst t' p af g w' hh=>GJ (run_underlying hu w') ((hR.ev hx).trans (ik hs β)) ((hR.ev hj).trans (di hn β)) (gR hF hg).1 (gR hF hg).2⟩
  ·exact h.elim
 ·obtain⟨a,hx,h⟩:=bm h;split at h
  ·rename_i e hu;obtain⟨s,hs,h⟩:=bm h;obtain⟨hi,h⟩:=dv h;exact VC hu hi hx hs h
  ·rename_i hu;obtain⟨s,hs,h⟩:=bm h;exact VD hu hx hs h
  ·exact h.elim
 ·rename_i c;obtain⟨callee,⟨xs⟩,⟨ts⟩⟩:=c;split at h
  ·rename_i b hb;dsimp only at hb;subst hb;exact VB h
  ·exact h.elim
 ·exact h.elim
end
structure Tj (β:Nat->Nat) (n:Nat) (fr:List (Nat×Nat×SV)) (D:List Deferred) (a:Act):Prop where
 sz:a.tmps.size=n
 df:a.defers=D
 at_:∀i p,dH fr i=some p->i<n->a.tmps[i]? =some (val β p.2)
theorem qz{β:Nat->Nat}{n:Nat}{fr:List (Nat×Nat×SV)}{D:List Deferred}{a:Act}(h:Tj β n fr D a):∃us,a=Vq n us (cv β fr) D:=by
 refine⟨fun i=>(a.tmps[i]?).getD undef,?_⟩;obtain⟨tmps,df⟩:=a;obtain⟨h1,h2,h3⟩:=h;dsimp only at h1 h2 h3;subst h2;unfold Vq;congr 1;apply Array.ext';apply oH;intro i;rw[fD];by_cases hi:i<n
 ·rw[mC _ _ _ _ _ hi,bD];cases hl:dH fr i with
  | none=>
   rw[Ck (l:=cv β fr) (by rw[lr,hl];rfl)];have:i<tmps.size:=by omega
   simp[this]
  | some p=>
   rw[sS (l:=cv β fr) (v:=val β p.2) (by rw[lr,hl];rfl)];have:=h3 i p hl hi;simpa using this
 ·rw[cK (by simp;omega),cK (by rw[nH];exact Ma hi)]
theorem RP{β:Nat->Nat}{n:Nat}{fr:List (Nat×Nat×SV)}{D:List Deferred}{us:Nat->aw}:Tj β n fr D (Vq n us (cv β fr) D):=by
 refine⟨by simp[Vq,nH],rfl,fun i p hl hi=>?_⟩;simp only[Vq,pG];rw[mC _ _ _ _ _ hi,bD,sS (l:=cv β fr) (v:=val β p.2) (by rw[lr,hl];rfl)]
theorem Rep.ok{β:Nat->Nat}{st:St}{a:Act}{w:av}(h:Rep β st a w):Tj β st.n st.fr (QV st.df) a:=by
 obtain⟨us,rfl⟩:=h.fr;exact RP
def VE(st:St)(ops:List Oper)(j:Nat):Option (Nat×SV):=match gH ops j with
 | some o=>(match o.dst with
  | some d=>(st.get d).map fun s=>(d,s)
  | none=>none)
 | none=>none
theorem yT{st:St}{ops:List Oper}{j d:Nat}{s:SV}(h:VE st ops j=some (d,s)):∃oj,gH ops j=some oj/\oj.dst=some d/\st.get d=some s:=by
 unfold VE at h;split at h
 ·rename_i o ho;split at h
  ·rename_i e he;cases hg:st.get e with
   | none=>rw[hg]at h;cases h
   | some u=>
    rw[hg]at h;simp only[cV,aV,dk]at h;obtain⟨rfl,rfl⟩:=h;exact⟨o,ho,he,hg⟩
  ·cases h
 ·cases h
section
variable {β:Nat->Nat} {st:St} {a:Act} {w:av} {ops:List Oper} {o:Oper} {j d:Nat} {want b:Bool}
theorem pL(hR:Rep β st a w)(hg:o.guard=some (j,want)){s:SV}(ht:VE st ops j=some (d,s))(hs:val β s=.bool b):Region.wanted o (yielded ops.toArray a.tmps)=(b==want):=by
 obtain⟨oj,h1,h2,h3⟩:=yT ht;obtain⟨us,rfl⟩:=hR.fr;show Region.wanted o (yielded ops.toArray (Kt.fr st.n us (cv β st.fr)).tmps)=_;exact wtF hg h1 h2 (by rw[<-hs];exact St.evO β h3) rfl
theorem wo(hR:Rep β st a w)(hg:o.guard=some (j,want))(ht:VE st ops j=some (d,.un)):Region.wanted o (yielded ops.toArray a.tmps)=false:=by
 obtain⟨oj,h1,h2,h3⟩:=yT ht;obtain⟨us,rfl⟩:=hR.fr;show Region.wanted o (yielded ops.toArray (Kt.fr st.n us (cv β st.fr)).tmps)=_;exact wuF hg h1 h2 (St.evO β (x:=.tmp d) (s:=.un) h3)
theorem Rep.set(hR:Rep β st a w){s s':SV}(hg:st.get d=some s)(hv:val β s=val β s'):Rep β (st.put (some d) s') a w:=by
 refine⟨qz ⟨hR.ok.sz,hR.ok.df,fun i p hl hi=>?_⟩,hR.bx,hR.ne,hR.only,hR.still⟩;simp only[St.put,dH]at hl;cases hb:Nat.beq d i with
 | true=>
  rw[hb]at hl;simp only[fI,aV]at hl;subst hl;have:=bM hb;subst this;unfold St.get at hg;cases bQ:Nat.blt d st.n with
  | false=>rw[bQ]at hg;cases hg
  | true=>
   rw[bQ,fI]at hg;cases hq:dH st.fr d with
   | none=>rw[hq]at hg;cases hg
   | some q=>
    rw[hq]at hg;simp only[cV,aV]at hg;rw[hR.ok.at_ d q hq hi,hg,hv]
 | false=>rw[hb]at hl;exact hR.ok.at_ i p (by simpa using hl) hi
end
section
variable {P:Program} {ops:List Oper} {w:av}
def u9(P:Program)(ops:List Oper)(w:av):List Oper->Act->Act->Prop
 | [],a,a'=>a'=a
 | o::r,a,a'=>(Region.wanted o (yielded ops.toArray a.tmps)=true/\∃v,(∀w':av,w'.heap=w.heap->(execOp a.eval o).run P w'=.ok (.value v) w')/\u9 P ops w r (a.put o.dst v) a')∨
  (Region.wanted o (yielded ops.toArray a.tmps)=false/\u9 P ops w r (a.put o.dst undef) a')
theorem yU:∀{l m:List Oper} {a b c:Act},u9 P ops w l a b->u9 P ops w m b c->u9 P ops w (l++m) a c
 | [],_,_,_,_,h,k=>by
  have h:_=_:=h;subst h;exact k
 | o::r,m,a,b,c,h,k=>by
  rcases h with⟨h1,v,h2,h3⟩ | ⟨h1,h3⟩
  ·exact .inl ⟨h1,v,h2,yU (l:=r) h3 k⟩
  ·exact .inr ⟨h1,yU (l:=r) h3 k⟩
theorem Co{Q:Exit->Act->av->Prop}:∀{l rest:List Oper} {a a':Act},u9 P ops w l a a'->wpList P ops.toArray Q rest a' w->wpList P ops.toArray Q (l++rest) a w
 | [],_,_,_,h,k=>by
  have h:_=_:=h;subst h;exact k
 | o::r,m,a,b,h,k=>by
  rcases h with⟨h1,v,h2,h3⟩ | ⟨h1,h3⟩
  ·exact GF v h1 (h2 w rfl) rfl (Co (l:=r) h3 k)
  ·exact TS h1 rfl (Co (l:=r) h3 k)
theorem G0{Q:Act->Prop}:∀{l rest:List Oper} {a a':Act},u9 P ops w l a a'->wpQuiet P ops.toArray (fun w'=>∃n,w'=w.drewN n) Q rest a'->wpQuiet P ops.toArray (fun w'=>∃n,w'=w.drewN n) Q (l++rest) a
 | [],_,_,_,h,k=>by
  have h:_=_:=h;subst h;exact k
 | o::r,m,a,b,h,k=>by
  rcases h with⟨h1,v,h2,h3⟩ | ⟨h1,h3⟩
  ·exact ZP v h1 (by rintro _ ⟨n,rfl⟩;exact h2 _ rfl) rfl (G0 (l:=r) h3 k)
  ·exact afL h1 rfl (G0 (l:=r) h3 k)
def Cp:List Oper->List Nat
 | []=>[]
 | o::r=>match o.dst with
  | some d=>d::Cp r
  | none=>Cp r
theorem kj(a:Act)(d:Option Tmp)(v:aw):(a.put d v).tmps.size=a.tmps.size/\(a.put d v).defers=a.defers/\∀i,d≠some i->(a.put d v).tmps[i]? =a.tmps[i]? :=by
 cases d with
 | none=>exact⟨rfl,rfl,fun _ _=>rfl⟩
 | some k=>
  refine⟨by simp[Act.put],rfl,fun i hi=>?_⟩;simp only[Act.put];rw[pz (fun e=>hi (by rw[e]))]
theorem yV:∀{l:List Oper} {a a':Act},u9 P ops w l a a'->a'.tmps.size=a.tmps.size/\a'.defers=a.defers/\∀i,(Cp l).elem i=false->a'.tmps[i]? =a.tmps[i]?
 | [],_,_,h=>by
  have h:_=_:=h;subst h;exact⟨rfl,rfl,fun _ _=>rfl⟩
 | o::r,a,b,h=>by
  have key:∀v,u9 P ops w r (a.put o.dst v) b->b.tmps.size=a.tmps.size/\b.defers=a.defers/\∀i,(Cp (o::r)).elem i=false->b.tmps[i]? =a.tmps[i]? :=fun v h3=>by
   obtain⟨k1,k2,k3⟩:=yV h3;obtain⟨p1,p2,p3⟩:=kj a o.dst v;refine⟨k1.trans p1,k2.trans p2,fun i hi=>?_⟩;cases hd:o.dst with
   | none=>
    simp only[Cp,hd]at hi;rw[k3 i hi,p3 i (by rw[hd];simp)]
   | some d=>
    simp only[Cp,hd,lM]at hi;split at hi
    ·cases hi
    ·rename_i gC;rw[k3 i hi,p3 i (by rw[hd];intro e;simp only[aV]at e;subst e;simp at gC)]
  rcases h with⟨h1,v,h2,h3⟩ | ⟨h1,h3⟩
  ·exact key v h3
  ·exact key _ h3
end
def Z0(ops:List Oper):Nat->Nat->Nat->Bool
 | 0,_,_=>false
 | f+1,q,j=>bif Nat.beq q j then true else match gH ops q with
  | some o=>(match o.guard with
   | some (r,_)=>Z0 ops f r j
   | none=>false)
  | none=>false
def xH(ops:List Oper)(j:Nat):List Oper->Nat
 | []=>0
 | o::r=>match o.guard with
  | some (q,_)=>bif Z0 ops 50 q j then xH ops j r+1 else 0
  | none=>0
def mrg(t:Bool)(a b:SV):Option SV:=match a,b with
 | .bl true,.bl false=>some (.bt t)
 | .bl true,.bt y=>some (.bt (t||y))
 | .bt x,.bl false=>some (.bt (t&&x))
 | .bl false,.bl true=>some (.bt (!t))
 | .bl false,.bt y=>some (.bt (!t&&y))
 | .bt x,.bl true=>some (.bt (!t||x))
 | .bt x,.bt y=>some (.bt (bif t then x else y))
 | .bl true,.bl true=>some (.bl true)
 | .bl false,.bl false=>some (.bl false)
 | _,_=>none
theorem M2{t:Bool}{a b v:SV}(h:mrg t a b=some v)(β:Nat->Nat):(t=true->val β v=val β a)/\(t=false->val β v=val β b):=by
 unfold mrg at h;split at h<;>simp only[aV,reduceCtorEq]at h<;>subst h<;>refine⟨fun e=>?_,fun e=>?_⟩<;>subst e<;>simp[val,pA]
def yW(ds:List Nat):List (Nat×Nat×SV)->List (Nat×Nat×SV)
 | []=>[]
 | p::r=>bif ds.elem p.1 then yW ds r else p::yW ds r
theorem kQ{ds:List Nat}:∀{l:List (Nat×Nat×SV)} {i:Nat},(ds.elem i=true->dH (yW ds l) i=none)/\(ds.elem i=false->dH (yW ds l) i=dH l i)
 | [],i=>⟨fun _=>rfl,fun _=>rfl⟩
 | (k,p)::r,i=>by
  obtain⟨h1,h2⟩:=kQ (ds:=ds) (l:=r) (i:=i);simp only[yW];cases hk:ds.elem k with
  | true=>
   simp only[fI];refine⟨h1,fun hi=>?_⟩;rw[h2 hi];simp only[dH];cases hb:Nat.beq k i with
   | true=>have:=bM hb;subst this;rw[hi]at hk;cases hk
   | false=>rfl
  | false=>
   simp only[nU,dH];cases hb:Nat.beq k i with
   | true=>
    have:=bM hb;subst this;exact⟨fun hi=>(by rw[hi]at hk;cases hk),fun _=>rfl⟩
   | false=>exact⟨h1,h2⟩
def St.nB(st:St)(ds:List Nat):St:={st with fr:=yW ds st.fr}
theorem Ext.nB(st:St)(ds:List Nat):Ext st (st.nB ds):=
 ⟨rfl,aW _,fun i k v hl _=>by
  cases he:ds.elem i with
  | true=>rw[show dH (st.nB ds).fr i=none from(kQ (l:=st.fr)).1 he]at hl;cases hl
  | false=>rw[show dH (st.nB ds).fr i=dH st.fr i from(kQ (l:=st.fr)).2 he]at hl;exact hl,fun i b h ho _=>⟨b,h,ho,rfl,rfl,rfl,fun _ h=>h⟩,MW,DR⟩
structure Alike (s t:St):Prop where
 bx:t.bx=s.bx
 w0:t.w0=s.w0
 mv:t.mv=s.mv
 dt:t.dt=s.dt
 n:t.n=s.n
 df:t.df=s.df
theorem Alike.refl(s:St):Alike s s:=⟨rfl,rfl,rfl,rfl,rfl,rfl⟩
theorem Alike.trans{s t u:St}(h:Alike s t)(k:Alike t u):Alike s u:=⟨k.bx.trans h.bx,k.w0.trans h.w0,k.mv.trans h.mv,k.dt.trans h.dt,k.n.trans h.n,k.df.trans h.df⟩
theorem Alike.put(s:St)(d:Option Tmp)(v:SV):Alike s (s.put d v):=by cases d<;>exact⟨rfl,rfl,rfl,rfl,rfl,rfl⟩
theorem Rep.alike{β:Nat->Nat}{s t:St}{a a':Act}{w:av}(h:Rep β s a w)(k:Alike s t)(hf:Tj β t.n t.fr (QV t.df) a'):Rep β t a' w:=by
 obtain⟨k1,k2,k3,k4,k5,k6⟩:=k;refine⟨qz hf,fun i b hb ho=>?_,fun i j bi bj h1 h2 h3 h4=>?_,?_,fun hm=>?_⟩
 ·rw[k1]at hb;obtain⟨g1,g2,g3⟩:=h.bx i b hb ho;exact⟨g1,g2,fun e=>by rw[k2];exact g3 e⟩
 ·rw[k1]at h1 h2;exact h.ne i j bi bj h1 h2 h3 h4
 ·rw[k2,k4];exact h.only
 ·rw[k2];exact h.still (by rw[<-k3];exact hm)
def wq(P:Program)(ops:List Oper):Nat->List (Bool×Bool)->List Oper->St->(St->Prop)->Prop
 | 0,_,_,_,_=>False
 | _+1,_,[],st,K=>K st
 | f+1,gs,o::rest,st,K=>match o.guard with
  | none=>Vy P gs st o.op fun v=>wq P ops f gs rest (st.put o.dst v) K
  | some (j,want)=>(match VE st ops j with
   | some (_,.un)=>wq P ops f gs rest (st.put o.dst .un) K
   | some (_,.bl b)=>bif b==want then Vy P gs st o.op fun v=>wq P ops f gs rest (st.put o.dst v) K else wq P ops f gs rest (st.put o.dst .un) K
   | some (d,.bt t)=>(match(o::rest)[xH ops j (o::rest)]? with
    | some pk=>(match pk.dst with
     | some k=>
      wq P ops f (gs++[(t,true)]) ((o::rest).take (xH ops j (o::rest)+1)) (st.put (some d) (.bl true)) fun sa=>
      bR (sa.get k) fun va=>
      wq P ops f (gs++[(t,false)]) ((o::rest).take (xH ops j (o::rest)+1)) (st.put (some d) (.bl false)) fun sb=>
      bR (sb.get k) fun vb=>
      bR (mrg t va vb) fun v=>
      wq P ops f gs ((o::rest).drop (xH ops j (o::rest)+1)) ((st.nB (Cp ((o::rest).take (xH ops j (o::rest)+1)))).put (some k) v) K
     | none=>False)
    | none=>False)
   | _=>False)
theorem G1:∀{gs:List (Bool×Bool)} {t b:Bool},gh gs->t=b->gh (gs++[(t,b)])
 | [],_,_,_,h=>⟨h,trivial⟩
 | (_,_)::r,_,_,h,k=>⟨h.1,G1 (gs:=r) h.2 k⟩
theorem qA{P:Program}{ops:List Oper}:∀{f:Nat} {gs:List (Bool×Bool)} {l:List Oper} {st:St} {K:St->Prop},wq P ops f gs l st K->
  ∃cE,K cE/\Ext st cE/\Alike st cE/\(gh gs->∀β a w,Rep β st a w->∃a',u9 P ops w l a a'/\Rep β cE a' w)
 | 0,_,_,_,_,h=>h.elim
 | _+1,gs,[],st,K,h=>⟨st,h,Ext.refl _,Alike.refl _,fun _ β a w hR=>⟨a,rfl,hR⟩⟩
 | f+1,gs,o::rest,st,K,h=>by
  have one:(Region.wanted o=fun _=>true)∨True->∀{K:St->Prop},(Vy P gs st o.op fun v=>wq P ops f gs rest (st.put o.dst v) K)->
    (gh gs->∀β a w,Rep β st a w->Region.wanted o (yielded ops.toArray a.tmps)=true)->
    ∃cE,K cE/\Ext st cE/\Alike st cE/\(gh gs->∀β a w,Rep β st a w->∃a',u9 P ops w (o::rest) a a'/\Rep β cE a' w):=fun _ K h hw=>by
   obtain⟨v,h1,hy⟩:=GZ h;obtain⟨cE,k1,k2,k3,k4⟩:=qA h1;refine⟨cE,k1,(Ext.put _ _ _).trans k2,(Alike.put _ _ _).trans k3,fun hg β a w hR=>?_⟩;obtain⟨a',g1,g2⟩:=k4 hg β _ w (hR.put o.dst v);exact⟨a',.inl ⟨hw hg β a w hR,_,fun w' hh=>hy hg β a w hR _ _ _ _ _ w' fun _=>hh,g1⟩,g2⟩
  have no:∀{K:St->Prop},wq P ops f gs rest (st.put o.dst .un) K->(gh gs->∀β a w,Rep β st a w->Region.wanted o (yielded ops.toArray a.tmps)=false)->
    ∃cE,K cE/\Ext st cE/\Alike st cE/\(gh gs->∀β a w,Rep β st a w->∃a',u9 P ops w (o::rest) a a'/\Rep β cE a' w):=fun h1 hw=>by
   obtain⟨cE,k1,k2,k3,k4⟩:=qA h1;refine⟨cE,k1,(Ext.put _ _ _).trans k2,(Alike.put _ _ _).trans k3,fun hg β a w hR=>?_⟩;obtain⟨a',g1,g2⟩:=k4 hg β _ w (hR.put o.dst .un);exact⟨a',.inr ⟨hw hg β a w hR,g1⟩,g2⟩
  unfold wq at h;split at h
  ·rename_i hg0;exact one (.inr trivial) h fun _ β a w hR=>wn hg0
  ·rename_i j want hg0;split at h
   ·rename_i d ht;exact no h fun _ β a w hR=>wo hR hg0 ht
   ·rename_i d b ht;cases hb:(b==want)with
    | true=>
     rw[hb]at h;exact one (.inr trivial) h fun _ β a w hR=>by rw[pL hR hg0 ht (b:=b) rfl,hb]
    | false=>
     rw[hb]at h;exact no h fun _ β a w hR=>by rw[pL hR hg0 ht (b:=b) rfl,hb]
   ·rename_i d t ht;obtain⟨oj,Gx,Q9,Ra⟩:=yT ht;split at h
    ·rename_i pk hpk;split at h
     ·rename_i k hk;generalize xH ops j (o::rest)=m at h hpk;obtain⟨sa,ha,ea1,ea2,ea3⟩:=qA h;obtain⟨va,hva,ha⟩:=bm ha;obtain⟨sb,hb,eb1,eb2,eb3⟩:=qA ha;obtain⟨vb,hvb,hb⟩:=bm hb;obtain⟨v,hv,hb⟩:=bm hb;obtain⟨cE,k1,k2,k3,k4⟩:=qA hb;refine⟨cE,k1,((Ext.nB _ _).trans (Ext.put _ _ _)).trans k2,((⟨rfl,rfl,rfl,rfl,rfl,rfl⟩:Alike st (st.nB _)).trans (Alike.put _ _ _)).trans k3,fun hg β a w hR=>?_⟩;have fin:∀(s:SV) (u:St) (x:SV),Rep β u a w->(∃a',u9 P ops w ((o::rest).take (m+1)) a a'/\∃u',Rep β u' a' w/\u'.n=st.n/\u'.get k=some x/\val β v=val β x)->∃a',u9 P ops w (o::rest) a a'/\Rep β cE a' w:=by
       rintro s u x hu ⟨a1,g1,u',r1,r2,r3,r4⟩;obtain⟨f1,f2,f3⟩:=yV g1;have ig:Rep β ((st.nB (Cp ((o::rest).take (m+1)))).put (some k) v) a1 w:=by
        refine hR.alike ((⟨rfl,rfl,rfl,rfl,rfl,rfl⟩:Alike st (st.nB _)).trans (Alike.put _ _ _)) ⟨f1.trans hR.ok.sz,f2.trans hR.ok.df,fun i p hl hi=>?_⟩;simp only[St.put,dH]at hl;cases Mp:Nat.beq k i with
        | true=>
         rw[Mp]at hl;simp only[fI,aV]at hl;subst hl;have:=bM Mp;subst this;have e:=r1.get r3;show a1.tmps[k]? =some (val β v);rw[r4,<-e];have hs:k<a1.tmps.size:=by rw[f1,hR.ok.sz];exact hi
         simp[Act.eval,hs]
        | false=>
         rw[Mp]at hl;simp only[nU]at hl;cases he:(Cp ((o::rest).take (m+1))).elem i with
         | true=>rw[show dH (st.nB _).fr i=none from(kQ (l:=st.fr)).1 he]at hl;cases hl
         | false=>
          rw[show dH (st.nB _).fr i=dH st.fr i from(kQ (l:=st.fr)).2 he]at hl;rw[f3 i he];exact hR.ok.at_ i p hl hi
       obtain⟨a2,g2,g3⟩:=k4 hg β a1 w ig;refine⟨a2,?_,g3⟩;have:=yU g1 g2;rwa[fg]at this
      cases t with
      | true=>
       have hu:Rep β (st.put (some d) (.bl true)) a w:=hR.set Ra rfl;obtain⟨a1,g1,g2⟩:=ea3 (G1 hg rfl) β a w hu;exact fin (.bl true) _ va hu ⟨a1,g1,sa,g2,ea2.n.trans rfl,hva,(M2 hv β).1 rfl⟩
      | false=>
       have hu:Rep β (st.put (some d) (.bl false)) a w:=hR.set Ra rfl;obtain⟨a1,g1,g2⟩:=eb3 (G1 hg rfl) β a w hu;exact fin (.bl false) _ vb hu ⟨a1,g1,sb,g2,eb2.n.trans rfl,hvb,(M2 hv β).2 rfl⟩
     ·exact h.elim
    ·exact h.elim
   ·exact h.elim
theorem kl:∀(l:List iB) (b:iB) (i:Nat),cM (l++[b]) i=if i=l.length then some b else cM l i
 | [],b,0=>rfl
 | [],b,i+1=>by simp[cM]
 | a::r,b,0=>rfl
 | a::r,b,i+1=>by
  simp only[cr,cM,aR,Nat.add_right_cancel_iff];exact kl r b i
theorem qB:∀{l:List iB} {i:Nat} {b:iB},cM l i=some b->i<l.length
 | a::r,0,_,_=>by simp
 | a::r,i+1,b,h=>by simp only[cM]at h;have:=qB h;simp;omega
theorem jm:∀{l:List iB} {i:Nat} {b c:iB},cM l i=some b->∀j,cM (AN l i c) j=if j=i then some c else cM l j
 | a::r,0,b,c,_,0=>rfl
 | a::r,0,b,c,_,j+1=>by simp[AN,cM]
 | a::r,i+1,b,c,h,0=>by simp[AN,cM]
 | a::r,i+1,b,c,h,j+1=>by
  simp only[cM]at h;simp only[AN,cM,Nat.add_right_cancel_iff];exact jm h j
theorem mO{b:Bool}{p q:Prop}(h:bif b then p else q):(b=true/\p)∨(b=false/\q):=by
 cases b with
 | true=>exact .inl ⟨rfl,h⟩
 | false=>exact .inr ⟨rfl,h⟩
def En(bx:List iB)(i:Nat):Nat:=match cM bx i with
 | some b=>b.blk.getD 0
 | none=>0
def Eo(bx:List iB)(i:Nat):Bool:=match cM bx i with
 | some b=>b.ok&&b.blk.isSome
 | none=>false
abbrev St.bl(st:St)(i:Nat):Nat:=En st.bx i
abbrev St.HQ(st:St)(i:Nat):Bool:=Eo st.bx i
theorem Rep.bl{β:Nat->Nat}{st:St}{a:Act}{w:av}(h:Rep β st a w)(i:Nat)(hg:st.HQ i=true):st.bl i=β i:=by
 unfold St.HQ Eo at hg;unfold St.bl En;cases hb:cM st.bx i with
 | none=>rw[hb]at hg;cases hg
 | some b=>
  rw[hb]at hg;simp only[aP]at hg;cases hk:b.blk with
  | none=>rw[hk]at hg;cases hg.2
  | some k=>
   have:=(h.bx i b hb hg.1).at_ k hk;simp[hk,this]
theorem Rep.sF{β:Nat->Nat}{st:St}{a:Act}{w:av}(h:Rep β st a w){l:List SV}(hc:ij st.HQ l=true):cp st.bl l=cp β l:=gQ (g:=st.HQ) h.bl l hc
theorem Rep.acn{β:Nat->Nat}{st:St}{a:Act}{w:av}(h:Rep β st a w){s:SV}(hc:cln st.HQ s=true):val st.bl s=val β s:=jw (g:=st.HQ) h.bl s hc
def Ep:List iB->(List iB->Prop)->Prop
 | [],K=>K []
 | b::r,K=>match b.ok,b.blk with
  | true,none=>∀k:Nat,Ep r fun r'=>K ({b with blk:=some k}::r')
  | _,_=>Ep r fun r'=>K (b::r')
def rK(k:Nat)(b:iB):iB:=match b.ok,b.blk with
 | true,none=>{b with blk:=some k}
 | _,_=>b
def lh(β:Nat->Nat):Nat->List iB->List iB
 | _,[]=>[]
 | n,b::r=>rK (β n) b::lh β (n+1) r
theorem yX(β:Nat->Nat):∀{bs:List iB} (n:Nat) {K:List iB->Prop},Ep bs K->K (lh β n bs)
 | [],_,_,h=>h
 | b::r,n,K,h=>by
  unfold Ep at h;unfold lh;split at h
  ·rename_i h1 h2;have:=yX β (n+1) (h (β n));have e:rK (β n) b={b with blk:=some (β n)}:=by unfold rK;split<;>simp_all
   rw[e];exact this
  ·rename_i h1;have:=yX β (n+1) h;have e:rK (β n) b=b:=by
    unfold rK;split
    ·rename_i e1 e2;exact absurd e2 (fun e2=>h1 e1 e2)
    ·rfl
   rw[e];exact this
theorem yY(β:Nat->Nat):∀(bs:List iB) (n i:Nat),cM (lh β n bs) i=(cM bs i).map (rK (β (n+i)))
 | [],_,_=>rfl
 | b::r,n,0=>rfl
 | b::r,n,i+1=>by
  simp only[lh,cM];rw[yY β r (n+1) i,show n+1+i=n+(i+1) by omega]
def Es(w0 w:av):List iB->List iB->Prop->Prop
 | b::r,b'::r',p=>match b.ok,b.blk with
  | true,none=>w0.heap.size<=b'.blk.getD 0->b'.blk.getD 0<w.heap.size->Es w0 w r r' p
  | _,_=>Es w0 w r r' p
 | _,_,p=>p
theorem yZ{β:Nat->Nat}{w0 w:av}:∀{bs:List iB} (n:Nat) {p:Prop},Es w0 w bs (lh β n bs) p->(∀i b,cM bs i=some b->b.ok=true->b.blk=none->w0.heap.size<=β (n+i)/\β (n+i)<w.heap.size)->p
 | [],_,_,h,_=>h
 | b::r,n,p,h,hb=>by
  simp only[lh]at h;unfold Es at h;split at h
  ·rename_i h1 h2;obtain⟨e1,e2⟩:=hb 0 b rfl h1 h2;have e:(rK (β n) b).blk.getD 0=β n:=by unfold rK;rw[h1,h2];rfl
   rw[e]at h;exact yZ (n+1) (h e1 e2) fun i c hc=>by have:=hb (i+1) c hc;rwa[show n+(i+1)=n+1+i by omega]at this
  ·exact yZ (n+1) h fun i c hc=>by have:=hb (i+1) c hc;rwa[show n+(i+1)=n+1+i by omega]at this
def YL(g:Nat->Bool)(bl:Nat->Nat)(w:av)(all:Bool):List iB->Prop->Prop
 | [],p=>p
 | b::r,p=>bif b.ok&&b.blk.isSome&&b.esc&&(all||!b.sh)&&ij g b.cells then Blk w (b.blk.getD 0) b.ty (cp bl b.cells)->YL g bl w all r p else YL g bl w all r p
theorem Cq{g:Nat->Bool}{bl:Nat->Nat}{w:av}{all:Bool}:∀{bs:List iB} {p:Prop},YL g bl w all bs p->(∀i b,cM bs i=some b->b.ok=true->b.blk.isSome=true->ij g b.cells=true->Blk w (b.blk.getD 0) b.ty (cp bl b.cells))->p
 | [],_,h,_=>h
 | b::r,p,h,hb=>by
  unfold YL at h;cases hc:(b.ok&&b.blk.isSome&&b.esc&&(all||!b.sh)&&ij g b.cells)with
  | true=>
   rw[hc]at h;simp only[aP]at hc;exact Cq (h (hb 0 b rfl hc.1.1.1.1 hc.1.1.1.2 hc.2)) fun i c hi=>hb (i+1) c hi
  | false=>
   rw[hc]at h;exact Cq h fun i c hi=>hb (i+1) c hi
def ud:List iB->List iB
 | []=>[]
 | b::r=>{b with sh:=b.esc}::ud r
theorem pM:∀(l:List iB) (i:Nat),cM (ud l) i=(cM l i).map fun b=>{b with sh:=b.esc}
 | [],_=>rfl
 | b::r,0=>rfl
 | b::r,i+1=>pM r i
def za(bs:List iB):List Nat->Bool
 | []=>true
 | i::r=>(match cM bs i with
  | some b=>b.ok
  | none=>false)&&za bs r
theorem sT{bs:List iB}:∀{l:List Nat},za bs l=true->∀i∈l,∃b,cM bs i=some b/\b.ok=true
 | i::r,h,j,hj=>by
  simp only[za,aP]at h;rcases aY.1 hj with rfl | hj
  ·split at h
   ·rename_i b hb;exact⟨b,hb,h.1⟩
   ·cases h.1
  ·exact sT h.2 j hj
def KQ:List iB->List iB->List (Nat×Bool)
 | b::r,b'::r'=>bif b.ok&&b.blk.isNone then(b'.blk.getD 0,b.esc)::KQ r r' else KQ r r'
 | _,_=>[]
def M3(k:Nat):List (Nat×Bool)->Prop->Prop
 | [],p=>p
 | x::r,p=>bif x.2 then M3 k r p else(x.1≠k->M3 k r p)
def M4(all:List (Nat×Bool)):List (Nat×Bool)->Prop->Prop
 | [],p=>p
 | x::r,p=>bif x.2 then M3 x.1 all (M4 all r p)else M4 all r p
theorem Cs{k:Nat}:∀{l:List (Nat×Bool)} {p:Prop},M3 k l p->(∀y,y∈l->y.2=false->y.1≠k)->p
 | [],_,h,_=>h
 | x::r,p,h,hd=>by
  unfold M3 at h;cases hx:x.2 with
  | true=>rw[hx]at h;exact Cs h fun y hy=>hd y (dc _ hy)
  | false=>rw[hx]at h;exact Cs (h (hd x dN hx)) fun y hy=>hd y (dc _ hy)
theorem Ct{all:List (Nat×Bool)}:∀{l:List (Nat×Bool)} {p:Prop},M4 all l p->(∀x,x∈l->x.2=true->∀y,y∈all->y.2=false->y.1≠x.1)->p
 | [],_,h,_=>h
 | x::r,p,h,hd=>by
  unfold M4 at h;cases hx:x.2 with
  | true=>rw[hx]at h;exact Ct (Cs h fun y hy hf=>hd x dN hx y hy hf) fun z hz=>hd z (dc _ hz)
  | false=>rw[hx]at h;exact Ct h fun z hz=>hd z (dc _ hz)
theorem vd{β:Nat->Nat}:∀{bs:List iB} (n:Nat) {x:Nat×Bool},x∈KQ bs (lh β n bs)->∃i b,cM bs i=some b/\b.ok=true/\x=(β (n+i),b.esc)
 | [],_,_,h=>by cases h
 | b::r,n,x,h=>by
  simp only[lh,KQ]at h;cases hc:(b.ok&&b.blk.isNone)with
  | true=>
   rw[hc]at h;simp only[aP,Option.isNone_iff_eq_none]at hc;rcases aY.1 h with rfl | h
   ·refine⟨0,b,rfl,hc.1,?_⟩;have:(rK (β n) b).blk.getD 0=β n:=by unfold rK;rw[hc.1,hc.2];rfl
    rw[this];rfl
   ·obtain⟨i,c,h1,h2,h3⟩:=vd (n+1) h;exact⟨i+1,c,h1,h2,by rw[h3,show n+1+i=n+(i+1) by omega]⟩
  | false=>
   rw[hc]at h;obtain⟨i,c,h1,h2,h3⟩:=vd (n+1) h;exact⟨i+1,c,h1,h2,by rw[h3,show n+1+i=n+(i+1) by omega]⟩
def zd:List iB->List Nat
 | []=>[]
 | b::r=>bif b.ok&&b.blk.isSome&&b.esc&&!b.sh then b.blk.getD 0::zd r else zd r
def ze:List iB->List Nat
 | []=>[]
 | b::r=>bif b.ok&&b.blk.isSome&&!b.esc then b.blk.getD 0::ze r else ze r
def VF(k:Nat):List Nat->Prop->Prop
 | [],p=>p
 | x::r,p=>x≠k->VF k r p
def RQ(PQ:List Nat):List Nat->Prop->Prop
 | [],p=>p
 | k::r,p=>VF k PQ (RQ PQ r p)
theorem IA{k:Nat}:∀{l:List Nat} {p:Prop},VF k l p->(∀y,y∈l->y≠k)->p
 | [],_,h,_=>h
 | x::r,p,h,hd=>IA (h (hd x dN)) fun y hy=>hd y (dc _ hy)
theorem Cu{PQ:List Nat}:∀{l:List Nat} {p:Prop},RQ PQ l p->(∀k,k∈l->∀y,y∈PQ->y≠k)->p
 | [],_,h,_=>h
 | k::r,p,h,hd=>Cu (IA h fun y hy=>hd k dN y hy) fun z hz=>hd z (dc _ hz)
theorem wv:∀{bs:List iB} {x:Nat},x∈zd bs->∃i b,cM bs i=some b/\b.ok=true/\b.esc=true/\b.blk=some x
 | [],_,h=>by cases h
 | b::r,x,h=>by
  simp only[zd]at h;cases hc:(b.ok&&b.blk.isSome&&b.esc&&!b.sh)with
  | true=>
   rw[hc]at h;simp only[aP]at hc;rcases aY.1 h with rfl | h
   ·obtain⟨k,hk⟩:=fJ.1 hc.1.1.2;exact⟨0,b,rfl,hc.1.1.1,hc.1.2,by rw[hk];rfl⟩
   ·obtain⟨i,c,h1,h2⟩:=wv h;exact⟨i+1,c,h1,h2⟩
  | false=>
   rw[hc]at h;obtain⟨i,c,h1,h2⟩:=wv h;exact⟨i+1,c,h1,h2⟩
theorem ww:∀{bs:List iB} {x:Nat},x∈ze bs->∃i b,cM bs i=some b/\b.ok=true/\b.esc=false/\b.blk=some x
 | [],_,h=>by cases h
 | b::r,x,h=>by
  simp only[ze]at h;cases hc:(b.ok&&b.blk.isSome&&!b.esc)with
  | true=>
   rw[hc]at h;simp only[aP,cx]at hc;rcases aY.1 h with rfl | h
   ·obtain⟨k,hk⟩:=fJ.1 hc.1.2;exact⟨0,b,rfl,hc.1.1,hc.2,by rw[hk];rfl⟩
   ·obtain⟨i,c,h1,h2⟩:=ww h;exact⟨i+1,c,h1,h2⟩
  | false=>
   rw[hc]at h;obtain⟨i,c,h1,h2⟩:=ww h;exact⟨i+1,c,h1,h2⟩
theorem Et{β:Nat->Nat}{st:St}{a:Act}{w:av}(hR:Rep β st a w):∀k,k∈zd st.bx->∀y,y∈ze st.bx->y≠k:=fun k hk y hy=>by
 obtain⟨i,b,i1,i2,i3,i4⟩:=wv hk;obtain⟨j,c,j1,j2,j3,j4⟩:=ww hy;have e1:=(hR.bx i b i1 i2).at_ k i4;have e2:=(hR.bx j c j1 j2).at_ y j4;rw[<-e1,<-e2];refine hR.ne j i c b j1 i1 j2 i2 fun e=>?_;subst e;rw[i1]at j1;injection j1 with j1;subst j1;rw[i3]at j3;cases j3
def ez(st:St)(K:St->Prop):Prop:=
 bif st.mv then
  bif za st.bx st.dt then
   Ep st.bx fun bx=>∀w:av,Es st.w0 w st.bx bx (Only (st.dt.map (En bx)) st.w0 w->
    YL (Eo bx) (En bx) w true bx (M4 (KQ st.bx bx) (KQ st.bx bx) (RQ (ze st.bx) (zd st.bx) (K {st with bx:=ud bx,w0:=w,mv:=false,dt:=[]}))))
  else False
 else YL st.HQ st.bl st.w0 false st.bx (RQ (ze st.bx) (zd st.bx) (K {st with bx:=ud st.bx}))
theorem dK{st:St}{K:St->Prop}(h:ez st K){β:Nat->Nat}{a:Act}{w:av}(hR:Rep β st a w):∃cE,K cE/\Ext st cE/\Rep β cE a w/\cE.mv=false/\cE.fr=st.fr/\cE.n=st.n/\cE.ct=st.ct/\cE.bx.length=st.bx.length:=by
 unfold ez at h;rcases mO h with⟨hm,h⟩ | ⟨hm,h⟩
 case inr=>
  have hk:=Cq h fun i b hb ho hs hc=>by
   have:=(hR.bx i b hb ho).blk;cases hk:b.blk with
   | none=>rw[hk]at hs;cases hs
   | some k=>
    have e:=(hR.bx i b hb ho).at_ k hk;rw[hR.sF hc,<-hR.still hm];rw[e]at this;exact this
  have hk:=Cu hk (Et hR);have key:∀i b',cM (ud st.bx) i=some b'->∃b,cM st.bx i=some b/\b'={b with sh:=b.esc}:=fun i b' hb=>by
   rw[pM]at hb;cases hn:cM st.bx i with
   | none=>rw[hn]at hb;cases hb
   | some b=>rw[hn]at hb;exact⟨b,rfl,by simpa using hb.symm⟩
  refine⟨_,hk,⟨rfl,aW _,fun _ _ _ h _=>h,fun i b' hb ho _=>?_,fun i b hb=>?_,DR⟩,⟨hR.fr,fun i b' hb ho=>?_,fun i j bi bj h1 h2 h3 h4 Au=>?_,hR.only,hR.still⟩,hm,rfl,rfl,rfl,?_⟩
  ·obtain⟨b,h1,rfl⟩:=key i b' hb;exact⟨b,h1,ho,rfl,rfl,rfl,fun _ h=>h⟩
  ·exact⟨{b with sh:=b.esc},by rw[pM,hb];rfl,rfl,rfl,fun _ h=>h⟩
  ·obtain⟨b,h1,rfl⟩:=key i b' hb;have:=hR.bx i b h1 ho;exact⟨this.blk,this.at_,this.new⟩
  ·obtain⟨b,g1,rfl⟩:=key i bi h1;obtain⟨c,g2,rfl⟩:=key j bj h2;exact hR.ne i j b c g1 g2 h3 h4 Au
  ·have:∀l:List iB,(ud l).length=l.length:=fun l=>by
    induction l with
    | nil=>rfl
    | cons b r ih=>simp[ud,ih]
   exact this _
 case inl=>
  obtain⟨fy,h⟩:=dv h;have h:=yX β 0 h w;have tV:∀i,cM (lh β 0 st.bx) i=(cM st.bx i).map (rK (β i)):=fun i=>by rw[yY,bD]
  have HU:∀i b,cM st.bx i=some b->b.ok=true->∃b',cM (lh β 0 st.bx) i=some b'/\b'.ok=true/\b'.blk=some (β i)/\b'.cells=b.cells/\b'.ty=b.ty/\b'.stp=b.stp:=fun i b hb ho=>by
   refine⟨rK (β i) b,by rw[tV,hb];rfl,?_⟩;unfold rK;split
   ·exact⟨ho,rfl,rfl,rfl,rfl⟩
   ·rename_i gC;refine⟨ho,?_,rfl,rfl,rfl⟩;cases hk:b.blk with
    | none=>exact absurd hk (fun e=>gC ho e)
    | some k=>rw[(hR.bx i b hb ho).at_ k hk]
  have W0:∀i b',cM (lh β 0 st.bx) i=some b'->b'.ok=true->∃b,cM st.bx i=some b/\b.ok=true/\b'.blk=some (β i)/\b'.cells=b.cells/\b'.ty=b.ty/\b'.stp=b.stp:=fun i b' hb ho=>by
   rw[tV]at hb;cases hn:cM st.bx i with
   | none=>rw[hn]at hb;cases hb
   | some b=>
    rw[hn]at hb;simp only[cV,aV]at hb;subst hb;have hob:b.ok=true:=by
     unfold rK at ho;split at ho
     ·assumption
     ·exact ho
    obtain⟨b2,e1,e2,e3,e4,e5,e6⟩:=HU i b hn hob;rw[tV,hn]at e1;simp only[cV,aV]at e1;subst e1;exact⟨b,rfl,hob,e3,e4,e5,e6⟩
  have h:=yZ 0 h fun i b hb ho hk=>by
   rw[bD];exact⟨(hR.bx i b hb ho).new hk,(hR.bx i b hb ho).blk.lt⟩
  have edt:st.dt.map (En (lh β 0 st.bx))=st.dt.map β:=by
   refine rC fun i hi=>?_;obtain⟨b,h1,h2⟩:=sT fy i hi;obtain⟨b',e1,e2,e3,_⟩:=HU i b h1 h2;unfold En;rw[e1];simp[e3]
  have h:=h (by rw[edt];exact hR.only);have pj:∀i,Eo (lh β 0 st.bx) i=true->En (lh β 0 st.bx) i=β i:=fun i hg=>by
   unfold Eo at hg;unfold En;cases hn:cM (lh β 0 st.bx) i with
   | none=>rw[hn]at hg;cases hg
   | some b'=>
    rw[hn]at hg;simp only[aP]at hg;obtain⟨b,_,_,e3,_⟩:=W0 i b' hn hg.1;simp[e3]
  have hk:=Cq h fun i b' hb ho hs hc=>by
   obtain⟨b,e1,e2,e3,e4,e5,e6⟩:=W0 i b' hb ho;rw[gQ pj _ hc,e3,e4,e5];exact(hR.bx i b e1 e2).blk
  have hk:=Ct hk fun x hx PR y hy hye=>by
   obtain⟨i,b,i1,i2,rfl⟩:=vd 0 hx;obtain⟨j,c,j1,j2,rfl⟩:=vd 0 hy;rw[bD,bD];refine hR.ne j i c b j1 i1 j2 i2 fun e=>?_;subst e;rw[i1]at j1;injection j1 with j1;subst j1;rw[PR]at hye;cases hye
  have hk:=Cu hk (Et hR);have key:∀i b',cM (ud (lh β 0 st.bx)) i=some b'->b'.ok=true->∃b,cM st.bx i=some b/\b.ok=true/\b'.blk=some (β i)/\b'.cells=b.cells/\b'.ty=b.ty/\b'.stp=b.stp:=fun i b' hb ho=>by
   rw[pM]at hb;cases hn:cM (lh β 0 st.bx) i with
   | none=>rw[hn]at hb;cases hb
   | some c=>
    rw[hn]at hb;simp only[cV,aV]at hb;subst hb;exact W0 i c hn ho
  refine⟨_,hk,⟨rfl,aW _,fun _ _ _ h _=>h,fun i b' hb ho _=>?_,fun i b hb=>?_,DR⟩,⟨hR.fr,fun i b' hb ho=>?_,fun i j bi bj h1 h2 h3 h4 Au=>?_,Only.refl _ _,fun _=>rfl⟩,rfl,rfl,rfl,rfl,?_⟩
  ·obtain⟨b,e1,e2,e3,e4,e5,e6⟩:=key i b' hb ho;exact⟨b,e1,e2,e4.symm,e5.symm,e6.symm,fun k hk=>by rw[e3,(hR.bx i b e1 e2).at_ k hk]⟩
  ·refine⟨{rK (β i) b with sh:=(rK (β i) b).esc},by rw[pM,tV,hb];rfl,?_⟩;unfold rK;split
   ·rename_i e1 e2;exact⟨rfl,rfl,fun k hk=>by rw[e2]at hk;cases hk⟩
   ·exact⟨rfl,rfl,fun _ h=>h⟩
  ·obtain⟨b,e1,e2,e3,e4,e5,e6⟩:=key i b' hb ho;refine⟨by rw[e4,e5];exact(hR.bx i b e1 e2).blk,fun k hk=>by rw[e3]at hk;simpa using hk,fun hk=>by rw[e3]at hk;cases hk⟩
  ·obtain⟨b,e1,e2,_⟩:=key i bi h1 h3;obtain⟨c,f1,f2,_⟩:=key j bj h2 h4;exact hR.ne i j b c e1 f1 e2 f2 Au
  ·have l1:∀l:List iB,(ud l).length=l.length:=fun l=>by
    induction l with
    | nil=>rfl
    | cons b r ih=>simp[ud,ih]
   have l2:∀(l:List iB) n,(lh β n l).length=l.length:=fun l=>by
    induction l with
    | nil=>intro n;rfl
    | cons b r ih=>intro n;simp[lh,ih]
   exact(l1 _).trans (l2 _ _)
def noB(n:Nat)(s:SV):Bool:=cln (fun j=>!Nat.beq j n) s
def RR(n:Nat)(l:List SV):Bool:=ij (fun j=>!Nat.beq j n) l
def KR(n:Nat):List (Nat×Nat×SV)->Bool
 | []=>true
 | p::r=>noB n p.2.2&&KR n r
def G2(n:Nat):List iB->Bool
 | []=>true
 | b::r=>(!b.ok||RR n b.cells)&&G2 n r
theorem Cv{n:Nat}:∀{l:List (Nat×Nat×SV)},KR n l=true->∀i p,dH l i=some p->noB n p.2=true
 | [],_,i,p,h=>by cases h
 | (k,q)::r,h,i,p,hl=>by
  simp only[KR,aP]at h;simp only[dH]at hl;cases hb:Nat.beq k i with
  | true=>rw[hb]at hl;simp only[fI,aV]at hl;subst hl;exact h.1
  | false=>rw[hb]at hl;exact Cv h.2 i p (by simpa using hl)
theorem Cw{n:Nat}:∀{l:List iB},G2 n l=true->∀i b,cM l i=some b->b.ok=true->RR n b.cells=true
 | c::r,h,0,b,hb,ho=>by
  simp only[G2,aP,cq,cx]at h;simp only[cM,aV]at hb;subst hb;rcases h.1 with h1 | h1
  ·rw[ho]at h1;cases h1
  ·exact h1
 | c::r,h,i+1,b,hb,ho=>by
  simp only[G2,aP]at h;exact Cw h.2 i b hb ho
def wb(β:Nat->Nat)(n b:Nat):Nat->Nat:=fun i=>if i=n then b else β i
theorem zf{β:Nat->Nat}{n b:Nat}:∀i,(!Nat.beq i n)=true->β i=wb β n b i:=fun i h=>by
 unfold wb;rw[if_neg];rintro rfl;simp at h
section
variable {β:Nat->Nat} {st:St} {a:Act} {w w1:av}
def St.Du(st:St)(d:Option Tmp)(t:TypeId)(zs:List SV):St:=
 St.put {st with bx:=st.bx++[⟨none,t,zs,st.ct,true,false,false⟩],mv:=true,ct:=st.ct+1} d (.box st.bx.length 0)
theorem Ext.Du(st:St)(d:Option Tmp)(t:TypeId)(zs:List SV):Ext st (st.Du d t zs):=by
 refine Ext.trans (t:={st with bx:=st.bx++[⟨none,t,zs,st.ct,true,false,false⟩],mv:=true,ct:=st.ct+1}) ⟨rfl,iL _,fun _ _ _ h _=>h,fun i b' hb ho hs=>?_,fun i b hb=>?_,DR⟩ (Ext.put _ _ _)
 ·dsimp only at hb;rw[kl]at hb;split at hb
  ·simp only[aV]at hb;subst hb;dsimp only at hs;omega
  ·exact⟨b',hb,ho,rfl,rfl,rfl,fun _ h=>h⟩
 ·exact⟨b,by dsimp only;rw[kl,if_neg (by have:=qB hb;omega)];exact hb,rfl,rfl,fun _ h=>h⟩
theorem Rep.Du(hR:Rep β st a w){d:Option Tmp}{t:TypeId}{zs:List SV}{b:Nat}(h1:KR st.bx.length st.fr=true)(h2:G2 st.bx.length st.bx=true)(h3:RR st.bx.length zs=true)
  (hb:w.heap.size<=b) (hO:Only [] w w1) (hB:Blk w1 b t (cp β zs)) (hdt:za st.bx st.dt=true):
  Rep (wb β st.bx.length b) (st.Du d t zs) (a.put d (.pointer (some ⟨b,0,none⟩))) w1:=by
 have ql:wb β st.bx.length b st.bx.length=b:=by unfold wb;rw[if_pos rfl]
 have bQ:∀{i c},cM st.bx i=some c->wb β st.bx.length b i=β i:=fun{i c} h=>by
  unfold wb;rw[if_neg];have:=qB h;omega
 have base:Rep (wb β st.bx.length b) {st with bx:=st.bx++[⟨none,t,zs,st.ct,true,false,false⟩],mv:=true,ct:=st.ct+1} a w1:=by
  refine⟨qz ⟨hR.ok.sz,hR.ok.df,fun i p hl hi=>?_⟩,fun i c hc ho=>?_,fun i j bi bj g1 g2 g3 g4 Au=>?_,?_,fun h=>by cases h⟩
  ·rw[hR.ok.at_ i p hl hi];congr 1;exact jw (g:=fun j=>!Nat.beq j st.bx.length) zf _ (Cv h1 i p hl)
  ·dsimp only at hc;rw[kl]at hc;split at hc
   ·rename_i he;simp only[aV]at hc;subst hc;subst he;refine⟨?_,fun k hk=>(by cases hk),fun _=>?_⟩
    ·rw[ql];dsimp only;rw[<-gQ (g:=fun j=>!Nat.beq j st.bx.length) (β:=β) (β':=wb β st.bx.length b) zf _ h3];exact hB
    ·rw[ql];exact bh hR.only.size hb
   ·have e:=bQ hc;obtain⟨k1,k2,k3⟩:=hR.bx i c hc ho;refine⟨?_,fun k hk=>by rw[e];exact k2 k hk,fun hk=>by rw[e];exact k3 hk⟩;rw[e,<-gQ (g:=fun j=>!Nat.beq j st.bx.length) (β:=β) (β':=wb β st.bx.length b) zf _ (Cw h2 i c hc ho)];exact hO.blk k1 (by simp)
  ·dsimp only at g1 g2;rw[kl]at g1 g2;split at g1
   ·rename_i e1;split at g2
    ·omega
    ·subst e1;rw[ql,bQ g2];have:=(hR.bx j bj g2 g4).blk.lt;omega
   ·split at g2
    ·rename_i e2;subst e2;rw[ql,bQ g1];have:=(hR.bx i bi g1 g3).blk.lt;omega
    ·rw[bQ g1,bQ g2];exact hR.ne i j bi bj g1 g2 g3 g4 Au
  ·have e:st.dt.map (wb β st.bx.length b)=st.dt.map β:=rC fun i hi=>by
    obtain⟨c,hc,_⟩:=sT hdt i hi;exact bQ hc
   show Only (st.dt.map (wb β st.bx.length b)) st.w0 w1;rw[e];exact hR.only.cd hO
 have:=base.put d (.box st.bx.length 0);rw[show val (wb β st.bx.length b) (.box st.bx.length 0)=.pointer (some ⟨b,0,none⟩) by
  show Value.pointer (some ⟨wb β st.bx.length b st.bx.length,0,none⟩)=_;rw[ql]]at this
 exact this
def St.sH(st:St)(i:Nat)(b:iB)(cs:List SV):St:=
 {st with bx:=AN st.bx i {b with cells:=cs,stp:=st.ct,sh:=false},mv:=true,dt:=(bif b.blk.isSome&&!st.dt.elem i then i::st.dt else st.dt),ct:=st.ct+1}
theorem Ext.sH{st:St}{i:Nat}{b:iB}{cs:List SV}(h:cM st.bx i=some b):Ext st (st.sH i b cs):=by
 refine⟨rfl,iL _,fun _ _ _ h _=>h,fun j b' hb ho hs=>?_,fun j c hc=>?_,DR⟩
 ·simp only[St.sH]at hb;rw[jm h]at hb;split at hb
  ·simp only[aV]at hb;subst hb;dsimp only at hs;omega
  ·exact⟨b',hb,ho,rfl,rfl,rfl,fun _ h=>h⟩
 ·simp only[St.sH];rw[jm h];split
  ·rename_i e;subst e;rw[h]at hc;simp only[aV]at hc;subst hc;exact⟨_,rfl,rfl,rfl,fun _ h=>h⟩
  ·exact⟨c,hc,rfl,rfl,fun _ h=>h⟩
theorem Rep.sH(hR:Rep β st a w){i:Nat}{b:iB}{cs:List SV}(h:cM st.bx i=some b)(ho:b.ok=true)(hO:Only [β i] w w1)(hB:Blk w1 (β i) b.ty (cp β cs)):Rep β (st.sH i b cs) a w1:=by
 have hk:=hR.bx i b h ho;refine⟨hR.fr,fun j c hc tU=>?_,fun j l bj bl g1 g2 g3 g4 Au=>?_,?_,fun h=>by cases h⟩
 ·simp only[St.sH]at hc;rw[jm h]at hc;split at hc
  ·rename_i e;subst e;simp only[aV]at hc;subst hc;exact⟨hB,hk.at_,hk.new⟩
  ·rename_i gC;obtain⟨k1,k2,k3⟩:=hR.bx j c hc tU;exact⟨hO.blk k1 (by simpa using hR.ne j i c b hc h tU ho gC),k2,k3⟩
 ·simp only[St.sH]at g1 g2;rw[jm h]at g1 g2;have key:∀{j c},(if j=i then some {b with cells:=cs,stp:=st.ct,sh:=false}else cM st.bx j)=some c->c.ok=true->∃c',cM st.bx j=some c'/\c'.ok=true:=fun{j c} g hc=>by
   split at g
   ·rename_i e;subst e;exact⟨b,h,ho⟩
   ·exact⟨c,g,hc⟩
  obtain⟨c1,e1,e2⟩:=key g1 g3;obtain⟨c2,f1,f2⟩:=key g2 g4;exact hR.ne j l c1 c2 e1 f1 e2 f2 Au
 ·show Only ((bif b.blk.isSome&&!st.dt.elem i then i::st.dt else st.dt).map β) st.w0 w1;cases hb:(b.blk.isSome&&!st.dt.elem i)with
  | true=>exact hR.only.cons hO
  | false=>
   simp only[pI,gP]at hb;rcases hb with hb | hb
   ·refine hR.only.new hO (hk.new ?_);cases hn:b.blk with
    | none=>rfl
    | some k=>rw[hn]at hb;cases hb
   ·refine hR.only.mem hO (kF.2 ⟨i,?_,rfl⟩);simpa using hb
structure Flg (l l':List iB):Prop where
 fw:∀i b,cM l' i=some b->∃c,cM l i=some c/\c.blk=b.blk/\c.ty=b.ty/\c.cells=b.cells/\c.stp=b.stp/\c.ok=b.ok
 bw:∀i b,cM l i=some b->∃c,cM l' i=some c/\c.ty=b.ty/\c.ok=b.ok/\∀k,b.blk=some k->c.blk=some k
theorem Flg.refl(l:List iB):Flg l l:=⟨fun i b h=>⟨b,h,rfl,rfl,rfl,rfl,rfl⟩,MW⟩
theorem Flg.trans{l m n:List iB}(h:Flg l m)(k:Flg m n):Flg l n:=⟨fun i b hb=>by
 obtain⟨c,c1,c2,c3,c4,c5,c6⟩:=k.fw i b hb;obtain⟨d,d1,d2,d3,d4,d5,d6⟩:=h.fw i c c1;exact⟨d,d1,d2.trans c2,d3.trans c3,d4.trans c4,d5.trans c5,d6.trans c6⟩,fun i b hb=>by
 obtain⟨c,c1,c2,c3,c4⟩:=h.bw i b hb;obtain⟨d,d1,d2,d3,d4⟩:=k.bw i c c1;exact⟨d,d1,d2.trans c2,d3.trans c3,fun m hm=>d4 m (c4 m hm)⟩⟩
theorem Ext.flg{l':List iB}(h:Flg st.bx l'):Ext st {st with bx:=l'}:=⟨rfl,aW _,fun _ _ _ h _=>h,fun i b' hb ho _=>by
 obtain⟨c,c1,c2,c3,c4,c5,c6⟩:=h.fw i b' hb;exact⟨c,c1,c6.trans ho,c4,c3,c5,fun k hk=>by rw[<-c2];exact hk⟩,h.bw,DR⟩
theorem Rep.flg{l':List iB}(hR:Rep β st a w)(h:Flg st.bx l'):Rep β {st with bx:=l'} a w:=by
 refine⟨hR.fr,fun i b hb ho=>?_,fun i j bi bj g1 g2 g3 g4 Au=>?_,hR.only,hR.still⟩
 ·obtain⟨c,c1,c2,c3,c4,c5,c6⟩:=h.fw i b hb;obtain⟨k1,k2,k3⟩:=hR.bx i c c1 (c6.trans ho);exact⟨by rw[<-c3,<-c4];exact k1,fun k hk=>k2 k (c2.trans hk),fun hk=>k3 (c2.trans hk)⟩
 ·obtain⟨c,c1,_,_,_,_,c6⟩:=h.fw i bi g1;obtain⟨d,d1,_,_,_,_,d6⟩:=h.fw j bj g2;exact hR.ne i j c d c1 d1 (c6.trans g3) (d6.trans g4) Au
def TZ:SV->List Nat
 | .box i _=>[i]
 | .fn _ fs cs=>TZ fs++TZ cs
 | .agg l=>TZ l
 | .tup l=>TZ l
 | .c h t=>TZ h++TZ t
 | _=>[]
def KS:Nat->List Nat->List iB->List iB
 | 0,_,bx=>bx
 | _+1,[],bx=>bx
 | f+1,i::r,bx=>match cM bx i with
  | some b=>bif b.esc then KS f r bx else KS f (flat TZ b.cells++r) (AN bx i {b with esc:=true,sh:=false})
  | none=>KS f r bx
theorem rL:∀(f:Nat) (l:List Nat) (bx:List iB),Flg bx (KS f l bx)
 | 0,_,bx=>Flg.refl _
 | _+1,[],bx=>Flg.refl _
 | f+1,i::r,bx=>by
  unfold KS;split
  ·rename_i b hb;cases he:b.esc with
   | true=>exact rL f r bx
   | false=>
    refine Flg.trans ⟨fun j c hc=>?_,fun j c hc=>?_⟩ (rL f _ _);rotate_left
    ·rw[jm hb];split
     ·rename_i e;subst e;rw[hb]at hc;simp only[aV]at hc;subst hc;exact⟨_,rfl,rfl,rfl,fun _ h=>h⟩
     ·exact⟨c,hc,rfl,rfl,fun _ h=>h⟩
    rw[jm hb]at hc;split at hc
    ·rename_i e;subst e;simp only[aV]at hc;subst hc;exact⟨b,hb,rfl,rfl,rfl,rfl,rfl⟩
    ·exact⟨c,hc,rfl,rfl,rfl,rfl,rfl⟩
  ·exact rL f r bx
def St.esc(st:St)(l:List SV):St:={st with bx:=KS 1000 (flat TZ l) st.bx}
theorem Ext.esc(st:St)(l:List SV):Ext st (st.esc l):=Ext.flg (rL _ _ _)
theorem Rep.esc(hR:Rep β st a w)(l:List SV):Rep β (st.esc l) a w:=hR.flg (rL _ _ _)
end
end Go.Kt.V
