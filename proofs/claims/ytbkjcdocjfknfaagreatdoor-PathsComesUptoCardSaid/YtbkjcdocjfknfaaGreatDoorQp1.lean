import Derived.WalkKit
import Derived.Deep.Draws
import Derived.Deep.LoopGhost
import Derived.Deep.Quiet
import Derived.OrdersHeld
import Derived.Laws.Small
import Derived.Laws.AppendOwn
import Derived.Great.BuildSlice
import Derived.Laws.MakeOwn
import Derived.MapKept
import Derived.Lib.Strings
import Derived.KernelRfl
import Derived.Test.YtbkjcdocjfknfaaGreatDoorRows
import Derived.ChangeKeysEq
import Derived.Laws.Tables
import Derived.Defers
import Derived.Ground.Names2Prog
import Derived.Ground.SlgnProg
import Derived.Test.YtbkjcdocjfknfaaGreatDoorProg
import Derived.Lib.ParseIntB
import Derived.Lib.Bytealg
import Derived.Lib.ItoaLen
import Derived.Lib.AtoiErrMem
import Derived.Lib.Builder
import Derived.Lib.AppendStr
import Derived.Lib.UnsafeStr
import Derived.Lib.Join
import Derived.Lib.Repeat
import Derived.WideKeyElems
import Derived.Sort.KeysCollected
import Derived.ProofKit
import Derived.OpenShut
import Derived.SizedLaws
import Derived.Deep.Slices
import Derived.JoinedCond
import Derived.Deep.CondSized
import Derived.Lib.TrailingZeros
import Derived.Laws.BitsAllLaws
import Derived.Maps.RangeRun
import Derived.Lib.SlKeysI
import Derived.Ground.GgzProg
import Derived.Ground.SlgmProg
import Derived.Ground.SlsfProg
import Derived.Ground.SlgcProg
import Derived.Lib.LaidTab
import Derived.Laws.CopyRow
import Derived.Laws.Bits128
import Derived.Laws.OwnMore
set_option linter.defProp false
def aO:=@List.mem_singleton
def aP:=@of_decide_eq_true
def aQ:=@Bool.and_eq_true
def aR:=@List.mem_cons
def aU:=@List.length_append
def aV:=@List.getElem?_eq_getElem
def aW:=@of_decide_eq_false
def aX:=@Int.toNat_natCast
def aY:=@Nat.le_refl
def aZ:=@List.getElem?_eq_some_iff
def ba:=@Option.some.injEq
def bf:=@List.not_mem_nil
def bh:=@Nat.le_trans
def bm:=@congrArg
def bp:=@List.length_cons
def bq:=@List.length_map
def bA:=@Nat.zero_le
def bC:=@List.take_of_length_le
def bD:=@List.mem_of_getElem?
def bE:=@Int.natCast_nonneg
def bF:=@List.map_cons
def bG:=@decide_eq_false
def bI:=@List.take_add_one
def bJ:=@List.getElem?_append_left
def bK:=@decide_eq_true
def bL:=@decide_eq_true_eq
def bM:=@Nat.zero_add
def bO:=@List.eq_nil_of_length_eq_zero
def bP:=@List.length_singleton
def bQ:=@List.append_assoc
def bR:=@List.append_nil
def bT:=@Bool.eq_iff_iff
def bU:=@or_false
def bW:=@Nat.eq_of_beq_eq_true
def bZ:=@List.getElem?_map
def cd:=@List.getElem?_append_right
def ch:=@List.mem_append
def ck:=@List.cons_append
def cm:=@decide_eq_true_iff
def cp:=@Bool.or_eq_true
def cq:=@Decidable.byContradiction
def cr:=@List.nil_append
def cx:=@Nat.lt_of_lt_of_le
def cy:=@List.sum_cons
def cE:=@List.getElem?_cons_zero
def cG:=@List.length_drop
def cJ:=@List.mem_map
def cO:=@List.length_nil
def cP:=@Nat.le_of_ble_eq_true
def cQ:=@List.length_filter_le
def cY:=@Bool.true_and
def da:=@List.map_append
def dc:=@List.mem_cons_of_mem
def dd:=@List.length_take
def de:=@List.getElem?_cons_succ
def dj:=@List.flatten_cons
def dk:=@Option.map_some
def dr:=@List.take_zero
def du:=@List.getElem?_eq_none
def dv:=@List.take_append_drop
def dy:=@Bool.not_eq_true'
def dF:=@decide_eq_false_iff_not
def dG:=@List.mem_filter
def dM:=@List.append_eq_nil_iff
def dQ:=@Option.isSome_iff_exists
def dS:=@List.all_eq_true
def dV:=@List.mem_cons_self
def dW:=@beq_iff_eq
def dY:=@Nat.add_sub_cancel_left
def eh:=@List.size_toArray
def eu:=@Bool.false_and
def eC:=@Nat.add_mul
def eF:=@List.takeWhile_cons
def eG:=@List.filter_nil
def eI:=@List.mem_flatMap
def eJ:=@List.getElem_mem
def eM:=@Nat.add_assoc
def eT:=@List.getElem?_of_mem
def eU:=@List.pairwise_iff_getElem
def eW:=@Array.getElem?_eq_none
def fe:=@Array.length_toList
def fh:=@Bool.eq_false_iff
def fm:=@List.filter_append
def fp:=@List.pairwise_cons
def ft:=@Except.ok.injEq
def fx:=@Nat.add_zero
def fy:=@List.any_eq_true
def fA:=@List.exists_mem_of_ne_nil
def fD:=@List.take_succ_cons
def fE:=@List.length_range
def fJ:=@Prod.mk.injEq
def fM:=@List.map_nil
def fS:=@decide_eq_decide
def fX:=@Array.getElem?_eq_some_iff
def fY:=@List.drop_zero
def fZ:=@Option.map_eq_some_iff
def gu:=@Array.getElem?_setIfInBounds_ne
def gw:=@Classical.byContradiction
def gx:=@List.drop_eq_getElem_cons
def gA:=@Array.getElem?_modify
def gC:=@List.length_replicate
def gP:=@Bool.or_eq_false_iff
def ii:=@List.length_set
def im:=@List.toList_toArray
def io:=@List.length_pos_iff
def iq:=@Int.toNat_of_nonneg
def iw:=@List.map_map
def ix:=@List.sum_nil
def iy:=@Nat.le_succ
def iM:=@List.getElem?_toArray
def iZ:=@List.getElem?_zip_eq_some
def jg:=@Nat.mul_le_mul_right
def jh:=@List.ext_getElem?
def jB:=@List.flatMap_append
def jI:=@if_false
def jJ:=@Option.getD_some
def jK:=@List.eq_nil_iff_forall_not_mem
def jP:=@Nat.mul_one
def jY:=@Bool.false_eq_true
def jZ:=@List.getElem?_drop
def j5:=@List.drop_of_length_le
def j6:=@Nat.add_comm
def j7:=@Bool.not_not
def j8:=@List.ne_nil_of_mem
def kw:=@List.nodup_cons
def kX:=@List.mem_range
def kY:=@List.elem_cons
def kZ:=@Nat.add_le_add
def lP:=@Option.bind_some
def lQ:=@Nat.sub_zero
def lR:=@Bool.not_eq_true
def lS:=@Nat.zero_testBit
def me:=@List.drop_succ_cons
def mN:=@Bool.false_or
def mO:=@Bool.and_true
def mP:=@List.map_take
def mY:=@List.foldl_cons
def nC:=@Option.toList_some
def nI:=@cond_true
def nJ:=@Int.le_refl
def nK:=@List.length_eq_zero_iff
def ov:=@List.drop_eq_nil_of_le
def oy:=@getElem!_pos
def oz:=@List.getElem?_set_self
def oA:=@List.drop_drop
def oB:=@List.foldl_append
def oC:=@Nat.le_of_eq
def oE:=@List.pairwise_map
def oG:=@or_congr_right
def pv:=@List.take_eq_take_iff
def pw:=@List.contains_iff_mem
def qp:=@Nat.le_of_not_lt
def qs:=@List.filter_cons
def qt:=@List.map_drop
def rr:=@List.cons.injEq
def ru:=@List.map_congr_left
def rv:=@List.getElem_of_mem
def tH:=@cond_false
def uA:=@List.flatMap_cons
def uB:=@Decidable.not_not
def uC:=@Nat.lt_succ_of_le
def wR:=@List.take_length
def wS:=@List.mem_reverse
def xX:=@Nat.zero_mul
def xY:=@Bool.or_true
def yz:=@Option.map_none
def yA:=@List.headD_cons
def yB:=@Option.some.inj
def yC:=@List.all_append
def AF:=@List.set_append_right
def Ba:=@Bool.and_assoc
def Bb:=@List.pairwise_append
def Bc:=@List.getElem?_set_ne
def Bd:=@List.mem_append_left
def Be:=@Nat.pow_le_pow_right
def Em:=@Nat.mul_le_mul_left
def En:=@List.flatten_append
def Eo:=@List.take_set_of_le
def Ep:=@List.drop_set_of_lt
def Es:=@List.filter_eq_self
def EF:=@Int.ofNat.inj
def EG:=@Nat.mul_assoc
def G6:=@Bool.not_eq_false'
def G7:=@Nat.lt_or_gt_of_ne
def I9:=@List.getElem?_set
def Ja:=@Nat.sub_self
def Nl:=@Array.toList_inj
def Nn:=@Nat.le_max_right
def Np:=@Nat.succ_le_succ
def Nq:=@Nat.lt_succ_self
def Nr:=@List.flatMap_nil
def Ns:=@List.map_id
def N0:=@List.take_append_of_le_length
def N1:=@List.mem_eraseIdx_iff_getElem
def R9:=@UInt8.toNat_inj
def Sa:=@Nat.le_max_left
def Sc:=@List.any_append
def Se:=@List.of_mem_zip
def SL:=@List.take_length_add_append
def SM:=@List.drop_length_add_append
abbrev awK(w v:Go.World)(k:Nat)(p:Prop):Prop:=w.heap.size<=k->k<v.heap.size->p
abbrev aI:=Go.Value->Go.World->Prop
abbrev aJ:=List UInt8
abbrev aK:=List Go.Value
abbrev aL:=Nat->Prop
abbrev aM:=ByteArray
set_option linter.unusedSectionVars false
namespace Go.Kt
open Go renaming World->ay,Value->az
open Go Go.RowKit
set_option linter.unusedSimpArgs false
set_option linter.unusedVariables false
structure Sl where
 a:Option Addr
 n:Nat
 c:Nat
@[reducible] def Sl.v(s:Sl):az:=.slice s.a s.n s.c
@[reducible] def Sl.nil:Sl:=⟨none,0,0⟩
def Sl.cut(s:Sl)(l h m size:Nat):Sl:=⟨if m=l then s.a else s.a.map (·.add (l*size)),h-l,m-l⟩
def dL(s:Sl)(i:Int)(size:Nat)(ad:Addr):Prop:=∃base,s.a=some base/\0<=i/\i<s.n/\ad=base.add (i.toNat*size)
structure Only (bs:List Nat) (w w':ay):Prop where
 os:w'.os=w.os
 tape:w'.tape=w.tape
 output:w'.output=w.output
 size:w.heap.size<=w'.heap.size
 block:∀k,k<w.heap.size->k∉bs->w'.heap[k]? =w.heap[k]?
def Blk(w:ay)(b:Nat)(t:TypeId)(cs:List az):Prop:=w.heap[b]? =some (.cells cs.toArray t (0,0))
def Cells(w:ay)(a:Addr)(cs:List az):Prop:=∀j v,cs[j]? =some v->w.cell? (a.add j)=some v
def ci(bs:List Nat)(w w':ay):Prop:=∀b,b∈bs->w'.heap[b]? =w.heap[b]?
def ga(b:UInt8):az:=.int .u8 b.toNat
def yD(w:ay)(s:Sl)(l:List UInt8):Prop:=s.n=l.length/\(l≠[]->∃ad,s.a=some ad/\Cells w ad (l.map ga))
def Sl.blk(s:Sl):Nat:=match s.a with | some a=>a.block | none=>0
def cD(cs:List az)(o:Nat)(vs:List az):List az:=cs.take o++vs++cs.drop (o+vs.length)
section
variable {w w' th:ay} {bs bs':List Nat} {b:Nat} {t:TypeId} {cs:List az}
theorem Blk.lt(h:Blk w b t cs):b<w.heap.size:=(fX.1 h).1
theorem Only.refl bs w:Only bs w w:=⟨rfl,rfl,rfl,aY _,fun _ _ _=>rfl⟩
theorem Only.weaken(h:Only bs w w')(hb:∀x,x∈bs->x∈bs'∨w.heap.size<=x):Only bs' w w':=
 ⟨h.os,h.tape,h.output,h.size,fun k hk hn=>h.block k hk fun hm=>by grind⟩
theorem Only.trans(h:Only bs w w')(k:Only bs' w' th)(hb:∀x,x∈bs'->x∈bs∨w.heap.size<=x):Only bs w th:=
 ⟨k.os.trans h.os,k.tape.trans h.tape,k.output.trans h.output,bh h.size k.size,fun i hi hn=>
  (k.block i (cx hi h.size) fun hm=>by grind).trans (h.block i hi hn)⟩
theorem Only.cz(h:Only bs w w')(k:Only [] w' th):Only bs w th:=h.trans k (by simp)
theorem Only.cons(h:Only bs w w')(k:Only [b] w' th):Only (b::bs) w th:=
 (h.weaken (bs':=b::bs) fun _ hx=>.inl (dc _ hx)).trans k fun x hx=>.inl (by grind)
theorem Only.mem(h:Only bs w w')(k:Only [b] w' th)(hb:b∈bs):Only bs w th:=h.trans k fun x hx=>.inl (by grind)
theorem Only.new(h:Only bs w w')(k:Only [b] w' th)(hb:w.heap.size<=b):Only bs w th:=h.trans k fun x hx=>.inr (by grind)
theorem Only.blk(h:Only bs w w')(hb:Blk w b t cs)(hn:b∉bs):Blk w' b t cs:=(h.block b hb.lt hn).trans hb
theorem Only.below(h:Only bs w w'){B}(hB:B<=w.heap.size)(hb:∀x,x∈bs->B<=x):Below B w w':=
 ⟨h.os,h.tape,h.output,h.size,fun k hk=>h.block k (by omega) fun hm=>by have:=hb k hm;omega⟩
theorem Only.oa(h:Below w.heap.size w w'):Only [] w w':=⟨h.os,h.tape,h.output,h.size,fun k hk _=>h.block k hk⟩
theorem Only.QZ{row}(h:w.grownBy w' row):Only row.toList w w':=⟨h.os,h.tape,h.output,h.size,fun k hk hn=>h.block k hk fun e=>hn (by simp[<-e])⟩
theorem Only.drew w:Only [] w w.drew:=⟨rfl,rfl,rfl,aY _,fun _ _ _=>rfl⟩
theorem Only.drewN w n:Only [] w (w.drewN n):=⟨rfl,rfl,rfl,aY _,fun _ _ _=>rfl⟩
theorem Only.alloc w o:Only [] w (w.alloc o):=⟨rfl,rfl,rfl,by simp,fun k hk _=>_root_.Go.heap_alloc_old w o hk⟩
theorem Only.setRow w b cs:Only [b] w (w.setRow b cs):=⟨rfl,rfl,rfl,by simp,fun k _ hn=>setRow_other w b k cs (by simpa using hn)⟩
theorem Only.same(h:Only bs w w')(hl:∀x,x∈bs'->x<w.heap.size/\x∉bs):ci bs' w w':=fun x hx=>h.block x (hl x hx).1 (hl x hx).2
theorem Blk.alloc(w:ay) t cs:Blk (w.alloc (.cells cs.toArray t)) w.heap.size t cs:=heap_alloc_new w _
theorem Blk.setRow(h:Blk w b t cs) D7:Blk (w.setRow b D7.toArray) b t D7:=setRow_heap w b _ _ t _ h
theorem Blk.cell(h:Blk w b t cs) i:w.cell? ⟨b,i,none⟩=cs[i]? :=by rw[cell_of_row w b i cs.toArray t _ h];simp
theorem Blk.cells(h:Blk w b t cs) o vs (hv:∀j v,vs[j]? =some v->cs[o+j]? =some v):Cells w ⟨b,o,none⟩ vs:=fun j v hj=>by
 have akK:(⟨b,o,none⟩:Addr).add j=⟨b,o+j,none⟩:=by unfold Addr.add<;>simp_all
 rw[akK,h.cell];exact hv j v hj
theorem Blk.DY(h:Blk w b t cs) o vs (hv:(cs.drop o).take vs.length=vs):Cells w ⟨b,o,none⟩ vs:=h.cells o vs fun j v hj=>by grind
theorem Cells.one{a}{v}(h:Cells w a [v]):w.cell? a=some v:=by have:=h 0 v rfl;simpa[Addr.add]using this
theorem Cells.keep{a}(h:Cells w a cs)(hk:w'.heap[a.block]? =w.heap[a.block]?):Cells w' a cs:=fun j v hj=>by
 rw[World.cell?_of_block (w:=w) _ (a:=a.add j)]
 ·exact h j v hj
 ·have:(a.add j).block=a.block:=by unfold Addr.add;split<;>rfl
  rw[this,hk]
theorem Cells.lt'{a}(h:Cells w a cs)(hc:cs≠[]):a.block<w.heap.size:=by
 cases cs with
 | nil=>exact absurd rfl hc
 | cons v cs=>
  have h2:=block_lt_of_cell (h 0 v rfl);have e:(a.add 0).block=a.block:=rfl;omega
theorem Cells.lt{a}{v}(h:Cells w a (v::cs)):a.block<w.heap.size:=by
 have:=h 0 v rfl;have h2:=block_lt_of_cell this;have e:(a.add 0).block=a.block:=rfl;omega
end
section
variable {P:Program} {ops:Array Oper} {Q:Exit->Act->ay->Prop} {rest:List Oper} {a a':Act} {w w':ay}
theorem f0(l:List az) ds (k:Nat) v:Act.put ⟨l.toArray,ds⟩ (some k) v=⟨(l.set k v).toArray,ds⟩:=by simp[Act.put]
theorem f1 x l (v:az):(x::l).set 0 v=v::l:=rfl
theorem f3(a:Act) v:a.put none v=a:=rfl
theorem f2 x l k (v:az):(x::l).set (k+1) v=x::l.set k v:=rfl
def gM:List Oper->Nat->Option Oper
 | [],_=>none
 | v::_,0=>some v
 | _::r,n+1=>gM r n
theorem jC:∀l n,gM l n=l[n]?
 | [],_=>rfl
 | _::_,0=>rfl
 | _::r,n+1=>jC r n
def Xf:List az->Nat->Option az
 | [],_=>none
 | v::_,0=>some v
 | _::r,n+1=>Xf r n
theorem Jb:∀l n,Xf l n=l[n]?
 | [],_=>rfl
 | _::_,0=>rfl
 | _::r,n+1=>Jb r n
theorem wt{o oj}{fz}{l}{ds}{j d:Nat}{want b r}(h1:o.guard=some (j,want))(h2:gM fz j=some oj)(h3:oj.dst=some d)
  (h4:Xf l d=some (.bool b)) (h5:(b==want)=r):Region.wanted o (yielded fz.toArray (⟨l.toArray,ds⟩:Act).tmps)=r:=by
 subst h5;rw[jC]at h2;rw[Jb]at h4;have e:yielded fz.toArray (⟨l.toArray,ds⟩:Act).tmps j=some b:=by simp[yielded,h2,h3,h4]
 simp only[Region.wanted,h1,e];rfl
theorem wn{o}{f}(h:o.guard=none):Region.wanted o f=true:=by simp[Region.wanted,h]
theorem Cv{o} v (hg:Region.wanted o (yielded ops a.tmps)=true)
  (hr:(execOp a.eval o).run P w=.ok (.value v) w') (ha:a.put o.dst v=a') (h:wpList P ops Q rest a' w'):wpList P ops Q (o::rest) a w:=by
 subst ha;unfold wpList;rw[if_pos hg];refine .inl ?_;unfold Oper.wp;rw[hr];exact h
theorem Vu{o}(hg:Region.wanted o (yielded ops a.tmps)=false)(ha:a.put o.dst undef=a')(h:wpList P ops Q rest a' w):wpList P ops Q (o::rest) a w:=by
 subst ha;unfold wpList;simp_all
theorem Cw{dst}{ty}{x}{t'}{p}{af}{g}{ad}{v}
  (IC:(isAgg ty).run P w=.ok false w) (hx:a.eval x=.pointer (some ad)) (hc:w.cell? ad=some v):
  (execOp a.eval ⟨dst,.load ty x,t',p,af,g⟩).run P w=.ok (.value v) w:=by
 simp[execOp,hx,Instr.loadAt,Instr.sureAddr,Sem.run_bind,Sem.run_pure,Result.andThen_ok,loadVar,IC,jY,jI,run_load,hc]
theorem sJ{dst}{ty}{x}{t'}{p}{af}{g}{ad}{cs}{n}
  (IC:(isAgg ty).run P w=.ok true w) (hsz:(sizeOf ty).run P w=.ok n w) (hn:cs.length=n) (hx:a.eval x=.pointer (some ad)) (hc:Cells w ad cs):
  (execOp a.eval ⟨dst,.load ty x,t',p,af,g⟩).run P w=.ok (.value (.agg cs.toArray)) w:=by
 have hl:=run_loadCells_list (P:=P) w ad cs hc;rw[hn]at hl;simp[execOp,hx,Instr.loadAt,Instr.sureAddr,Sem.run_bind,Sem.run_pure,Result.andThen_ok,loadVar,IC,if_true,hsz,hl]
theorem SN{dst}{ty}{x y}{t'}{p}{af}{g}{b o}{cs vs}{et}{n}
  (hsz:(sizeOf ty).run P w=.ok n w) (hx:a.eval x=.pointer (some ⟨b,o,none⟩)) (hv:(a.eval y).cells=vs.toArray) (hn:vs.length=n)
  (h1:∀v∈vs,v.oneCell'=true) (hb:Blk w b et cs) (IE:o+vs.length<=cs.length):
  (execOp a.eval ⟨dst,.store ty x y,t',p,af,g⟩).run P w=.ok .skip (w.setRow b (cD cs o vs).toArray):=by
 simp[execOp,hx,Instr.storeAt,Instr.sureAddr,Sem.run_bind,Sem.run_pure,Result.andThen_ok,storeVar,hsz,hv,eh,hn,ne_eq,not_true_eq_false,jI,run_storeCells_at P b o et vs 0 cs.toArray w hb (by omega) h1,cD]
theorem SO{dst}{ty}{t'}{p}{af}{g}{z}{zs:List az}
  (hz:(zeroValue ty).run P w=.ok z w) (hc:z.cells=zs.toArray):
  (execOp a.eval ⟨dst,.alloc ty,t',p,af,g⟩).run P w=.ok (.value (.pointer (some ⟨w.heap.size,0,none⟩))) (w.alloc (.cells zs.toArray ty)):=by
 simp only[execOp,Instr.alloc,Sem.run_bind,hz,Result.andThen_ok,newVar,hc];rfl
theorem abN{dst}{ty}{x}{t'}{p}{af}{g}{zs:List az}
  (hc:(a.eval x).cells=zs.toArray):
  (execOp a.eval ⟨dst,.box ty x,t',p,af,g⟩).run P w=.ok (.value (.pointer (some ⟨w.heap.size,0,none⟩))) (w.alloc (.cells zs.toArray ty)):=by
 simp only[execOp,Instr.box,newVar,hc];rfl
theorem N2{dst}{x}{t'}{p}{af}{g}{ad}(hx:a.eval x=.pointer (some ad)):
  (execOp a.eval ⟨dst,.nilCheck x,t',p,af,g⟩).run P w=.ok (.value (.pointer (some ad))) w:=by
 simp[execOp,hx]
theorem Jc{dst}{s}{x}{k}{t'}{p}{af}{g}{ad M4}{fs}{f}{n}
  (hu:(underlying s).run P w=.ok (.struct fs) w) (hf:fs[k]? =some f) (hsz:(sizeOf f.type).run P w=.ok (n+1) w) (hx:a.eval x=.pointer (some ad)) (he:ad.add f.offset=M4):
  (execOp a.eval ⟨dst,.fieldAddr s x k,t',p,af,g⟩).run P w=.ok (.value (.pointer (some M4))) w:=by
 subst he;simp[execOp,hx,Instr.fieldAt,Instr.sureAddr,hu,hf,fieldPlace,hsz]
theorem SP{dst}{c x y}{t'}{p}{af}{g}{v}(hc:a.eval c=.bool true)(hv:a.eval x=v):
  (execOp a.eval ⟨dst,.pick c x y,t',p,af,g⟩).run P w=.ok (.value v) w:=by
 subst hv;simp[execOp,hc,asBool]
theorem SQ{dst}{c x y}{t'}{p}{af}{g}{v}(hc:a.eval c=.bool false)(hv:a.eval y=v):
  (execOp a.eval ⟨dst,.pick c x y,t',p,af,g⟩).run P w=.ok (.value v) w:=by
 subst hv;simp[execOp,hc,asBool]
theorem SR{dst}{t}{ps:List _}{t'}{p}{af}{g}{ps'}{v}
  (hp:(ps.map fun q=>(q.1,a.eval q.2))=ps') (hr:(Instr.build t ps'.toArray).run P w=.ok v w):
  (execOp a.eval ⟨dst,.build t ps.toArray,t',p,af,g⟩).run P w=.ok (.value v) w:=by
 subst hp;simp[execOp,hr]
theorem N3{dst}{t e}{x i}{t'}{p}{af}{g}{s}{k}{n}{ad}{sz}
  (hu:(underlying t).run P w=.ok (.slice e) w) (hsz:(sizeOf e).run P w=.ok sz w) (hx:a.eval x=s.v) (hi:a.eval i=.int k n) (Zk:dL s n sz ad):
  (execOp a.eval ⟨dst,.indexAddr t x i,t',p,af,g⟩).run P w=.ok (.value (.pointer (some ad))) w:=by
 obtain⟨base,hb,h0,h1,rfl⟩:=Zk;simp[execOp,hx,hi,Instr.indexAt,asIntOf,hu,hsz,hb,h0,h1]
theorem uD{dst:Option Tmp}{t e:TypeId}{x i:Operand}{t'}{p}{af}{g}{len}{k}{n}{ad M4}{sz}
  (hu:(underlying t).run P w=.ok (.array len e) w) (hsz:(sizeOf e).run P w=.ok sz w) (hx:a.eval x=.pointer (some ad)) (hi:a.eval i=.int k n) (h0:0<=n) (h1:n<len) (he:ad.add (n.toNat*sz)=M4):
  (execOp a.eval ⟨dst,.indexAddr t x i,t',p,af,g⟩).run P w=.ok (.value (.pointer (some M4))) w:=by
 subst he;simp[execOp,hx,hi,Instr.indexAt,asIntOf,hu,hsz,h0,h1,Instr.sureAddr]
theorem lj{b}{s}{dst}{xs:List Operand}{ts}{t'}{p}{af}{g}{v}
  (hb:∀Zl,builtin b ts t' Zl (xs.map a.eval).toArray=(do pure (.value (<-s)))) (hr:s.run P w=.ok v w'):
  (execOp a.eval ⟨dst,.call ⟨.builtin b,xs.toArray,ts⟩,t',p,af,g⟩).run P w=.ok (.value v) w':=by
 simp[execOp,resolve,invoke,List.map_toArray];simp_all
theorem vM{dst}{xs:List Operand}{ts}{t'}{p}{af}{g}{v}{vs}(hx:xs.map a.eval=vs)
  (hr:(Builtin.append_ ts t' vs.toArray).run P w=.ok v w'):(execOp a.eval ⟨dst,.call ⟨.builtin .append,xs.toArray,ts⟩,t',p,af,g⟩).run P w=.ok (.value v) w':=by
 subst hx;exact lj (fun _=>rfl) hr
theorem yE{dst}{xs:List Operand}{ts}{t'}{p}{af}{g}{v}{vs}(hx:xs.map a.eval=vs)
  (hr:(Builtin.copy_ ts t' vs.toArray).run P w=.ok v w'):(execOp a.eval ⟨dst,.call ⟨.builtin .copy,xs.toArray,ts⟩,t',p,af,g⟩).run P w=.ok (.value v) w':=by
 subst hx;exact lj (fun _=>rfl) hr
theorem vN{dst}{xs:List Operand}{ts}{t'}{p}{af}{g}{v}{vs}(hx:xs.map a.eval=vs)
  (hr:(Builtin.delete_ ts t' vs.toArray).run P w=.ok v w'):(execOp a.eval ⟨dst,.call ⟨.builtin .delete,xs.toArray,ts⟩,t',p,af,g⟩).run P w=.ok (.value v) w':=by
 subst hx;exact lj (fun _=>rfl) hr
theorem xA{dst}{xs:List Operand}{ts}{t'}{p}{af}{g}{v}{vs}(hx:xs.map a.eval=vs)
  (hr:(Builtin.clear_ ts t' vs.toArray).run P w=.ok v w'):(execOp a.eval ⟨dst,.call ⟨.builtin .clear,xs.toArray,ts⟩,t',p,af,g⟩).run P w=.ok (.value v) w':=by
 subst hx;exact lj (fun _=>rfl) hr
theorem AN{dst}{xs:List Operand}{ts}{t'}{p}{af}{g}{v}{vs}(hx:xs.map a.eval=vs)
  (hr:(Builtin.len_ ts t' vs.toArray).run P w=.ok v w'):(execOp a.eval ⟨dst,.call ⟨.builtin .len,xs.toArray,ts⟩,t',p,af,g⟩).run P w=.ok (.value v) w':=by
 subst hx;exact lj (fun _=>rfl) hr
section
variable {dst:Option Tmp} {x y z:Operand} {t t2:TypeId} {t':TypeId} {p:String} {af:Array Edge} {g:Option (Nat×Bool)} {u v vx vy vz:az}
theorem Cx{n}{ps:List _}{ps'}(hp:(ps.map fun q=>(q.1,a.eval q.2))=ps')(hr:(Instr.buildSlice t n ps'.toArray).run P w=.ok v w'):
  (execOp a.eval ⟨dst,.buildSlice t n ps.toArray,t',p,af,g⟩).run P w=.ok (.value v) w':=by
 subst hp;simp[execOp,hr]
theorem EH(hx:a.eval x=vx)(hy:a.eval y=vy)(hr:(Instr.makeSlice t vx vy).run P w=.ok v w'):(execOp a.eval ⟨dst,.makeSlice t x y,t',p,af,g⟩).run P w=.ok (.value v) w':=by simp[execOp,hx,hy,hr]
theorem LS(hr:(Instr.makeMap t none).run P w=.ok v w'):(execOp a.eval ⟨dst,.makeMap t none,t',p,af,g⟩).run P w=.ok (.value v) w':=by simp[execOp,hr]
theorem Hl(hx:a.eval x=vx)(hr:(Instr.makeMap t (some vx)).run P w=.ok v w'):(execOp a.eval ⟨dst,.makeMap t (some x),t',p,af,g⟩).run P w=.ok (.value v) w':=by simp[execOp,hx,hr]
theorem N4{b}(hx:a.eval x=vx)(hy:a.eval y=vy)(hr:(Instr.lookup t vx vy b).run P w=.ok v w'):(execOp a.eval ⟨dst,.lookup t x y b,t',p,af,g⟩).run P w=.ok (.value v) w':=by simp[execOp,hx,hy,hr]
theorem EI(hx:a.eval x=vx)(hy:a.eval y=vy)(hz:a.eval z=vz)(hr:(Instr.mapUpdate t vx vy vz).run P w=.ok () w'):(execOp a.eval ⟨dst,.mapUpdate t x y z,t',p,af,g⟩).run P w=.ok .skip w':=by simp[execOp,hx,hy,hz,hr]
theorem N5(hx:a.eval x=vx)(hy:a.eval y=vy)(hz:a.eval z=vz)(hr:(Instr.mapUpdate t vx vy vz).run P w=.ok () w'):(execOp a.eval ⟨dst,.insert t x y z,t',p,af,g⟩).run P w=.ok .skip w':=by simp[execOp,hx,hy,hz,hr]
theorem LU(hx:a.eval x=vx)(hr:(convert t t2 vx).run P w=.ok v w'):(execOp a.eval ⟨dst,.convert t t2 x,t',p,af,g⟩).run P w=.ok (.value v) w':=by simp[execOp,hx,hr]
end
theorem abO{dst:Option Tmp}{t:TypeId}{e:TypeId}{x:Operand}{t':TypeId}{p:String}{af:Array Edge}{g}{s:Sl}
  (hu:(underlying t).run P w=.ok (.slice e) w) (hx:a.eval x=s.v):
  (execOp a.eval ⟨dst,.call ⟨.builtin .len,#[x],#[t]⟩,t',p,af,g⟩).run P w=.ok (.value (.int .i64 s.n)) w:=by
 simp[execOp,resolve,invoke,builtin,Builtin.len_,hu,hx,goInt]
theorem EJ{dst}{x}{f}{first captured}{xs:List Operand}{ats}{t'}{p}{af}{g}{args}
  (hx:a.eval x=.func (.func f) first.toArray captured.toArray)
  (hc:∀args w,(callFunc f args).run P w=.ok (.enter f args) w) (ha:first++xs.map a.eval++captured=args):
  (execOp a.eval ⟨dst,.call ⟨.value x,xs.toArray,ats⟩,t',p,af,g⟩).run P w=.ok (.enter f args.toArray) w:=by
 subst ha;simp only[execOp,resolve,hx,Deferred.ofValue,Sem.run_bind,Sem.run_pure,Result.andThen_ok,invoke,hc];simp
theorem lk{x}{k}{i y}{code}(hx:x=.int k i)(h:i<=y):(Instr.sliceBound x y code).run P w=.ok i w:=by
 subst hx;have:=by omega
 simp[Instr.sliceBound,asIntOf,this]
theorem yF{dst}{s d e}{x}{t'}{p}{af}{g}{sl}{l}
  (hs:P.underlying s=some (.slice e)) (he:P.underlying e=some (.int .u8)) (hd:P.underlying d=some .string) (hx:a.eval x=sl.v) (hb:yD w sl l):
  (execOp a.eval ⟨dst,.convert s d x,t',p,af,g⟩).run P w=.ok (.value (.string ⟨l.toArray⟩)) w:=by
 obtain⟨hn,hc⟩:=hb;obtain⟨sa,sn,sc⟩:=sl;subst hn;have key:(convert s d (.slice sa l.length sc)).run P w=.ok (.string ⟨l.toArray⟩) w:=by
  cases sa with
  | none=>
   have:l=[]:=gw fun h=>by grind
   subst this;exact run_convert_bytes_nil w s e hs he _ _ d hd
  | some ad=>
   refine run_convert_bytes_back w s d e ad sc l hs he hd fun j hj=>?_;obtain⟨M4,h1,h2⟩:=hc (fun h=>by simp[h]at hj);injection h1 with h1;subst h1;exact h2 j _ (by simp[ga,aV hj])
 simp[execOp,hx,key]
theorem Hm{dst}{fn}{fs cs:List Operand}{t'}{p}{af}{g}{fv cv}(h1:fs.map a.eval=fv)(h2:cs.map a.eval=cv):
  (execOp a.eval ⟨dst,.makeFunc fn fs.toArray cs.toArray,t',p,af,g⟩).run P w=.ok (.value (.func fn fv.toArray cv.toArray)) w:=by
 subst h1;subst h2;simp[execOp,Instr.makeFunc]
theorem abP{dst}{t ty}{x y}{t'}{p}{af}{g}{k}{m n}(hx:a.eval x=.int k m)(hy:a.eval y=.int k n)(hn:n≠0):
  (execOp a.eval ⟨dst,.binOp .quo t x y ty,t',p,af,g⟩).run P w=.ok (.value (.int k (k.wrap (m.tdiv n)))) w:=by
 have e:binOp .quo t (.int k m) (.int k n)=Op.intDiv .quo k m n:=by simp[binOp]
 have hg:eqGuard .quo t x y (.int k m) (.int k n)=pure _:=rfl;simp[execOp,hx,hy,hg,e,Op.intDiv,hn,jI,Sem.run_bind,Sem.run_pure,Result.andThen_ok]
theorem abQ{dst}{t ty}{x y}{t'}{p}{af}{g}{k}{m n}(hx:a.eval x=.int k m)(hy:a.eval y=.int k n)(hn:n≠0):
  (execOp a.eval ⟨dst,.binOp .rem t x y ty,t',p,af,g⟩).run P w=.ok (.value (.int k (m.tmod n))) w:=by
 have e:binOp .rem t (.int k m) (.int k n)=Op.intDiv .rem k m n:=by simp[binOp]
 have hg:eqGuard .rem t x y (.int k m) (.int k n)=pure _:=rfl;simp[execOp,hx,hy,hg,e,Op.intDiv,hn,jI,Sem.run_bind,Sem.run_pure,Result.andThen_ok]
theorem abR{dst}{t ty}{x y}{t'}{p}{af}{g}{k k'}{m n}(hx:a.eval x=.int k m)(hy:a.eval y=.int k' n)(hn:0<=n):
  (execOp a.eval ⟨dst,.binOp .shl t x y ty,t',p,af,g⟩).run P w=.ok (.value (.int k (k.wrap (m*2 ^ (min n.toNat k.bits))))) w:=by
 have hg:eqGuard .shl t x y (.int k m) (.int k' n)=pure _:=rfl;have e:binOp .shl t (.int k m) (.int k' n)=Op.shift .shl k m k' n:=rfl;have hn':¬n<0:=by omega
 simp[execOp,hx,hy,hg,e,Op.shift,hn',jI,Sem.run_bind,Sem.run_pure,Result.andThen_ok]
theorem abT{dst}{t ty}{x y}{t'}{p}{af}{g}{k k'}{m n}(hx:a.eval x=.int k m)(hy:a.eval y=.int k' n)(hn:0<=n):
  (execOp a.eval ⟨dst,.binOp .shr t x y ty,t',p,af,g⟩).run P w=.ok (.value (.int k (m.fdiv (2 ^ (min n.toNat k.bits))))) w:=by
 have hg:eqGuard .shr t x y (.int k m) (.int k' n)=pure _:=rfl;have e:binOp .shr t (.int k m) (.int k' n)=Op.shift .shr k m k' n:=rfl;have hn':¬n<0:=by omega
 simp[execOp,hx,hy,hg,e,Op.shift,hn',jI,Sem.run_bind,Sem.run_pure,Result.andThen_ok]
theorem Hn{dst}{t}{x i}{t'}{p}{af}{g}{s}{k}{n}{c}
  (hu:(underlying t).run P w=.ok .string w) (hx:a.eval x=.string s) (hi:a.eval i=.int k n) (h0:0<=n) (h1:s[n.toNat]? =some c):
  (execOp a.eval ⟨dst,.index t x i,t',p,af,g⟩).run P w=.ok (.value (.int .u8 c.toNat)) w:=by
 simp[execOp,hx,hi,Instr.index,asIntOf,hu,Sem.run_bind,Sem.run_pure,Result.andThen_ok,h0,if_true,h1]
theorem N6{dst}{t ty}{x y}{t'}{p}{af}{g}{s u}(hx:a.eval x=.string s)(hy:a.eval y=.string u)(hn:(s.size:Int)+u.size<=9223372036854775807):
  (execOp a.eval ⟨dst,.binOp .add t x y ty,t',p,af,g⟩).run P w=.ok (.value (.string (s++u))) w:=by
 have hg:eqGuard .add t x y (.string s) (.string u)=pure _:=rfl;have e:binOp .add t (.string s) (.string u)=Op.stringOp .add s u:=rfl;have hn':¬((s.size+u.size:Nat))>IntKind.i64.max:=by simp_all
 simp only[execOp,hx,hy,hg,e,Op.stringOp,hn',jI,Sem.run_bind,Sem.run_pure,Result.andThen_ok]
theorem abU{dst}{t}{e}{x}{t'}{p}{af}{g}{s:Sl}
  (hu:(underlying t).run P w=.ok (.slice e) w) (hx:a.eval x=s.v):
  (execOp a.eval ⟨dst,.call ⟨.builtin .cap,#[x],#[t]⟩,t',p,af,g⟩).run P w=.ok (.value (.int .i64 s.c)) w:=by
 simp[execOp,resolve,invoke,builtin,Builtin.cap_,hu,hx,goInt]
theorem Cy{dst:Option Tmp}{t:TypeId}{x lo:Operand}{t':TypeId}{p:String}{af:Array Edge}{g:Option (Nat×Bool)}{s:ByteArray}{k:IntKind}{l:Nat}
  (hu:(underlying t).run P w=.ok .string w) (hx:a.eval x=.string s) (hl:a.eval lo=.int k (l:Int)) (h1:l<=s.size) (_h2:s.size<=s.size):
  (execOp a.eval ⟨dst,.slice t x (some lo) none none,t',p,af,g⟩).run P w=.ok (.value (.string (s.extract l s.size))) w:=by
 simp[execOp,hx,Instr.sliceAt,hu,Instr.slice,Instr.sliceBounds,lk hl h1]
theorem Cz{dst}{t}{x hi}{t'}{p}{af}{g}{s}{k}{h:Nat}
  (hu:(underlying t).run P w=.ok .string w) (hx:a.eval x=.string s) (hh:a.eval hi=.int k h) (_h1:0<=h) (h2:h<=s.size):
  (execOp a.eval ⟨dst,.slice t x none (some hi) none,t',p,af,g⟩).run P w=.ok (.value (.string (s.extract 0 h))) w:=by
 simp[execOp,hx,Instr.sliceAt,hu,Instr.slice,Instr.sliceBounds,lk hh h2]
theorem CA{dst}{t}{x lo hi}{t'}{p}{af}{g}{s}{k k'}{l h:Nat}
  (hu:(underlying t).run P w=.ok .string w) (hx:a.eval x=.string s) (hl:a.eval lo=.int k l) (hh:a.eval hi=.int k' h) (h1:l<=h) (h2:h<=s.size):
  (execOp a.eval ⟨dst,.slice t x (some lo) (some hi) none,t',p,af,g⟩).run P w=.ok (.value (.string (s.extract l h))) w:=by
 simp[execOp,hx,Instr.sliceAt,hu,Instr.slice,Instr.sliceBounds,lk hh h2,lk hl h1]
theorem Bg{dst}{s d}{x}{t'}{p}{af}{g}{ks kd k}{n}
  (hs:(underlying s).run P w=.ok (.int ks) w) (hd:(underlying d).run P w=.ok (.int kd) w) (hx:a.eval x=.int k n):
  (execOp a.eval ⟨dst,.convert s d x,t',p,af,g⟩).run P w=.ok (.value (.int kd (kd.wrap n))) w:=by
 simp[execOp,hx,convert,hs,hd,Conv.intToInt]
theorem Bh{dst:Option Tmp}{s d:TypeId}{x:Operand}{t':TypeId}{p:String}{af:Array Edge}{g:Option (Nat×Bool)}{n:ByteArray}
  (hs:(underlying s).run P w=.ok .string w) (hd:(underlying d).run P w=.ok .string w) (hx:a.eval x=.string n):
  (execOp a.eval ⟨dst,.convert s d x,t',p,af,g⟩).run P w=.ok (.value (.string n)) w:=by
 simp[execOp,hx,convert,hs,hd]
theorem SU{dst}{t}{x}{t'}{p}{af}{g}{d}{v}
  (hu:(underlying t).run P w=.ok d w) (hd:(match d with | .interface _=>false | _=>true)=true) (hx:a.eval x=v):
  (execOp a.eval ⟨dst,.makeInterface t x,t',p,af,g⟩).run P w=.ok (.value (.iface t v)) w:=by
 subst hx;cases d<;>first | (simp at hd;done) | simp[execOp,Instr.makeInterface,hu]
theorem N7{dst:Option Tmp}{t:TypeId}{x:Operand}{t':TypeId}{p:String}{af:Array Edge}{g:Option (Nat×Bool)}{s:ByteArray}
  (hu:(underlying t).run P w=.ok .string w) (hx:a.eval x=.string s):
  (execOp a.eval ⟨dst,.call ⟨.builtin .len,#[x],#[t]⟩,t',p,af,g⟩).run P w=.ok (.value (.int .i64 s.size)) w:=by
 simp[execOp,resolve,invoke,builtin,Builtin.len_,hu,hx,goInt]
theorem abV{dst}{ts}{x y}{t'}{p}{af}{g}{k k'}{m n}(hx:a.eval x=.int k m)(hy:a.eval y=.int k' n):
  (execOp a.eval ⟨dst,.call ⟨.builtin .min,#[x,y],ts⟩,t',p,af,g⟩).run P w=.ok (.value (.int k (if n<m then n else m))) w:=by
 simp[execOp,resolve,invoke,builtin,hx,hy,run_min_int2]
theorem abW{dst:Option Tmp}{ts}{x y}{t'}{p}{af}{g}{k k'}{m n}(hx:a.eval x=.int k m)(hy:a.eval y=.int k' n):
  (execOp a.eval ⟨dst,.call ⟨.builtin .max,#[x,y],ts⟩,t',p,af,g⟩).run P w=.ok (.value (.int k (if n>m then n else m))) w:=by
 simp[execOp,resolve,invoke,builtin,hx,hy,run_max_int2]
theorem CB{dst:Option Tmp}{t ty:TypeId}{x y:Operand}{t':TypeId}{p:String}{af:Array Edge}{g:Option (Nat×Bool)}{e:TypeId}{q:Option Addr}{b:Bool}(hu:(underlying t).run P w=.ok (.pointer e) w)(hx:a.eval x=.pointer q)(hy:a.eval y=.pointer none)(hb:(q.isNone)=b):
  (execOp a.eval ⟨dst,.binOp .eql t x y ty,t',p,af,g⟩).run P w=.ok (.value (.bool b)) w:=by
 subst hb;have hE:∀d,(Op.equalIn (d+1) t (.pointer q) (.pointer none)).run P w=.ok q.isNone w:=fun d=>by
  unfold Op.equalIn;cases q<;>simp only[Sem.run_bind,hu,Result.andThen_ok]<;>rfl
 have hB:binOp .eql t (.pointer q) (.pointer none)=(do pure (.bool ((<-Op.equal t (.pointer q) (.pointer none))))):=by cases q<;>rfl
 have hG:eqGuard .eql t x y (.pointer q) (.pointer none)=pure ():=rfl;simp only[execOp,hx,hy,hG,hB,Op.equal,Op.maxDepth,Sem.run_bind,Sem.run_pure,Result.andThen_ok,hE 9999]
theorem CD{dst}{t ty}{x y}{t'}{p}{af}{g}{e}{q}{b}(hu:(underlying t).run P w=.ok (.pointer e) w)(hx:a.eval x=.pointer none)(hy:a.eval y=.pointer q)(hb:(q.isNone)=b):
  (execOp a.eval ⟨dst,.binOp .eql t x y ty,t',p,af,g⟩).run P w=.ok (.value (.bool b)) w:=by
 subst hb;have hE:∀d,(Op.equalIn (d+1) t (.pointer none) (.pointer q)).run P w=.ok q.isNone w:=fun d=>by simp[Op.equalIn,hu]
 have hB:binOp .eql t (.pointer none) (.pointer q)=(do pure (.bool ((<-Op.equal t (.pointer none) (.pointer q))))):=rfl;have hG:eqGuard .eql t x y (.pointer none) (.pointer q)=pure _:=rfl;simp[execOp,hx,hy,hG,hB,Op.equal,Op.maxDepth,Sem.run_bind,Sem.run_pure,Result.andThen_ok,hE 9999]
theorem CE{dst}{t ty}{x y}{t'}{p}{af}{g}{e}{q}{b}(hu:(underlying t).run P w=.ok (.pointer e) w)(hx:a.eval x=.pointer q)(hy:a.eval y=.pointer none)(hb:(!q.isNone)=b):
  (execOp a.eval ⟨dst,.binOp .neq t x y ty,t',p,af,g⟩).run P w=.ok (.value (.bool b)) w:=by
 subst hb;have hE:∀d,(Op.equalIn (d+1) t (.pointer q) (.pointer none)).run P w=.ok q.isNone w:=fun d=>by
  unfold Op.equalIn;cases q<;>simp only[Sem.run_bind,hu]<;>rfl
 have hB:binOp .neq t (.pointer q) (.pointer none)=(do pure (.bool (!(<-Op.equal t (.pointer q) (.pointer none))))):=rfl;have hG:eqGuard .neq t x y (.pointer q) (.pointer none)=pure _:=rfl;simp[execOp,hx,hy,hG,hB,Op.equal,Op.maxDepth,Sem.run_bind,Sem.run_pure,Result.andThen_ok,hE 9999]
theorem CF{dst:Option Tmp}{t ty}{x y}{t'}{p}{af}{g}{e}{q}{b}(hu:(underlying t).run P w=.ok (.pointer e) w)(hx:a.eval x=.pointer none)(hy:a.eval y=.pointer q)(hb:(!q.isNone)=b):
  (execOp a.eval ⟨dst,.binOp .neq t x y ty,t',p,af,g⟩).run P w=.ok (.value (.bool b)) w:=by
 subst hb;have hE:∀d,(Op.equalIn (d+1) t (.pointer none) (.pointer q)).run P w=.ok q.isNone w:=fun d=>by simp[Op.equalIn,hu]
 have hB:binOp .neq t (.pointer none) (.pointer q)=(do pure (.bool (!(<-Op.equal t (.pointer none) (.pointer q))))):=by cases q<;>rfl
 have hG:eqGuard .neq t x y (.pointer none) (.pointer q)=pure _:=rfl;simp[execOp,hx,hy,hG,hB,Op.equal,Op.maxDepth,Sem.run_bind,Sem.run_pure,Result.andThen_ok,hE 9999]
theorem LV{dst}{t ty}{x y}{t'}{p}{af}{g}{m n}(hu:P.underlying t=some .bool)(hx:a.eval x=.bool m)(hy:a.eval y=.bool n):
  (execOp a.eval ⟨dst,.binOp .eql t x y ty,t',p,af,g⟩).run P w=.ok (.value (.bool (m==n))) w:=by
 have hG:eqGuard .eql t x y (.bool m) (.bool n)=pure _:=rfl;simp[execOp,hx,hy,hG,run_eql_bool w t m n hu]
theorem LW{dst}{t ty}{x y}{t'}{p}{af}{g}{m n}(hu:P.underlying t=some .bool)(hx:a.eval x=.bool m)(hy:a.eval y=.bool n):
  (execOp a.eval ⟨dst,.binOp .neq t x y ty,t',p,af,g⟩).run P w=.ok (.value (.bool (!(m==n)))) w:=by
 have hG:eqGuard .neq t x y (.bool m) (.bool n)=pure _:=rfl;simp[execOp,hx,hy,hG,run_neq_bool w t m n hu]
theorem EK{dst:Option Tmp}{t ty:TypeId}{x y:Operand}{t'}{p}{af}{g}{e}{s:Sl}(hu:(underlying t).run P w=.ok (.slice e) w)(hx:a.eval x=s.v)(hy:a.eval y=.slice none 0 0):
  (execOp a.eval ⟨dst,.binOp .eql t x y ty,t',p,af,g⟩).run P w=.ok (.value (.bool (s.a.isNone))) w:=by
 obtain⟨sa,sn,sc⟩:=s;have hE:∀d,(Op.equalIn (d+1) t (.slice sa sn sc) (.slice none 0 0)).run P w=.ok sa.isNone w:=fun d=>by
  unfold Op.equalIn;cases sa<;>simp only[Sem.run_bind,hu]<;>rfl
 have hB:binOp .eql t (.slice sa sn sc) (.slice none 0 0)=(do pure (.bool ((<-Op.equal t (.slice sa sn sc) (.slice none 0 0))))):=by cases sa<;>rfl
 have hG:eqGuard .eql t x y (.slice sa sn sc) (.slice none 0 0)=pure _:=rfl;simp[execOp,hx,hy,hG,hB,Op.equal,Op.maxDepth,Sem.run_bind,Sem.run_pure,Result.andThen_ok,hE 9999]
theorem EL{dst}{t ty}{x y}{t'}{p}{af}{g}{e}{s:Sl}(hu:(underlying t).run P w=.ok (.slice e) w)(hx:a.eval x=.slice none 0 0)(hy:a.eval y=s.v):
  (execOp a.eval ⟨dst,.binOp .eql t x y ty,t',p,af,g⟩).run P w=.ok (.value (.bool (s.a.isNone))) w:=by
 obtain⟨sa,sn,sc⟩:=s;have hE:∀d,(Op.equalIn (d+1) t (.slice none 0 0) (.slice sa sn sc)).run P w=.ok sa.isNone w:=fun d=>by simp[Op.equalIn,hu]
 have hB:binOp .eql t (.slice none 0 0) (.slice sa sn sc)=(do pure (.bool ((<-Op.equal t (.slice none 0 0) (.slice sa sn sc))))):=rfl;have hG:eqGuard .eql t x y (.slice none 0 0) (.slice sa sn sc)=pure _:=rfl;simp[execOp,hx,hy,hG,hB,Op.equal,Op.maxDepth,Sem.run_bind,Sem.run_pure,Result.andThen_ok,hE 9999]
theorem EM{dst}{t ty}{x y}{t'}{p}{af}{g}{e}{s:Sl}(hu:(underlying t).run P w=.ok (.slice e) w)(hx:a.eval x=s.v)(hy:a.eval y=.slice none 0 0):
  (execOp a.eval ⟨dst,.binOp .neq t x y ty,t',p,af,g⟩).run P w=.ok (.value (.bool (!s.a.isNone))) w:=by
 obtain⟨sa,sn,sc⟩:=s;have hE:∀d,(Op.equalIn (d+1) t (.slice sa sn sc) (.slice none 0 0)).run P w=.ok sa.isNone w:=fun d=>by
  unfold Op.equalIn;cases sa<;>simp only[Sem.run_bind,hu]<;>rfl
 have hB:binOp .neq t (.slice sa sn sc) (.slice none 0 0)=(do pure (.bool (!(<-Op.equal t (.slice sa sn sc) (.slice none 0 0))))):=by cases sa<;>rfl
 have hG:eqGuard .neq t x y (.slice sa sn sc) (.slice none 0 0)=pure _:=rfl;simp[execOp,hx,hy,hG,hB,Op.equal,Op.maxDepth,Sem.run_bind,Sem.run_pure,Result.andThen_ok,hE 9999]
theorem EN{dst:Option Tmp}{t ty:TypeId}{x y:Operand}{t':TypeId}{p:String}{af}{g}{e}{s:Sl}(hu:(underlying t).run P w=.ok (.slice e) w)(hx:a.eval x=.slice none 0 0)(hy:a.eval y=s.v):
  (execOp a.eval ⟨dst,.binOp .neq t x y ty,t',p,af,g⟩).run P w=.ok (.value (.bool (!s.a.isNone))) w:=by
 obtain⟨sa,sn,sc⟩:=s;have hE:∀d,(Op.equalIn (d+1) t (.slice none 0 0) (.slice sa sn sc)).run P w=.ok sa.isNone w:=fun d=>by simp[Op.equalIn,hu]
 have hB:binOp .neq t (.slice none 0 0) (.slice sa sn sc)=(do pure (.bool (!(<-Op.equal t (.slice none 0 0) (.slice sa sn sc))))):=by cases sa<;>rfl
 have hG:eqGuard .neq t x y (.slice none 0 0) (.slice sa sn sc)=pure _:=rfl;simp[execOp,hx,hy,hG,hB,Op.equal,Op.maxDepth,Sem.run_bind,Sem.run_pure,Result.andThen_ok,hE 9999]
theorem Ho{dst}{t e}{x lo}{t'}{p}{af}{g}{s:Sl}{k}{l sz:Nat}
  (hu:(underlying t).run P w=.ok (.slice e) w) (hsz:(sizeOf e).run P w=.ok sz w) (hx:a.eval x=s.v) (hl:a.eval lo=.int k l) (h1:l<=s.n) (_h2:s.n<=s.c) (_h3:s.c<=s.c):
  (execOp a.eval ⟨dst,.slice t x (some lo) none none,t',p,af,g⟩).run P w=.ok (.value (s.cut l s.n s.c sz).v) w:=by
 simp[execOp,hx,Instr.sliceAt,hu,Sem.run_bind,Result.andThen_ok,Instr.slice,Instr.sliceBounds,dk,yz,Sem.run_pure,lk hl h1,hsz,Sl.cut]
theorem Hp{dst}{t e}{x hi}{t'}{p}{af}{g}{s:Sl}{k}{h sz:Nat}
  (hu:(underlying t).run P w=.ok (.slice e) w) (hsz:(sizeOf e).run P w=.ok sz w) (hx:a.eval x=s.v) (hh:a.eval hi=.int k h) (_h1:0<=h) (h2:h<=s.c) (_h3:s.c<=s.c):
  (execOp a.eval ⟨dst,.slice t x none (some hi) none,t',p,af,g⟩).run P w=.ok (.value (s.cut 0 h s.c sz).v) w:=by
 simp[execOp,hx,Instr.sliceAt,hu,Sem.run_bind,Result.andThen_ok,Instr.slice,Instr.sliceBounds,dk,yz,Sem.run_pure,lk hh h2,hsz,Sl.cut]
theorem Hq{dst}{t e}{x lo hi}{t'}{p}{af}{g}{s:Sl}{k k'}{l h sz:Nat}
  (hu:(underlying t).run P w=.ok (.slice e) w) (hsz:(sizeOf e).run P w=.ok sz w) (hx:a.eval x=s.v) (hl:a.eval lo=.int k l) (hh:a.eval hi=.int k' h) (h1:l<=h) (h2:h<=s.c) (_h3:s.c<=s.c):
  (execOp a.eval ⟨dst,.slice t x (some lo) (some hi) none,t',p,af,g⟩).run P w=.ok (.value (s.cut l h s.c sz).v) w:=by
 simp[execOp,hx,Instr.sliceAt,hu,Sem.run_bind,Result.andThen_ok,Instr.slice,Instr.sliceBounds,dk,yz,Sem.run_pure,lk hh h2,lk hl h1,hsz,Sl.cut]
theorem Hr{dst}{t e}{x hi mx}{t'}{p}{af}{g}{s:Sl}{k' k2}{h m sz:Nat}
  (hu:(underlying t).run P w=.ok (.slice e) w) (hsz:(sizeOf e).run P w=.ok sz w) (hx:a.eval x=s.v) (hh:a.eval hi=.int k' h) (hm:a.eval mx=.int k2 m) (_h1:0<=h) (h2:h<=m) (h3:m<=s.c):
  (execOp a.eval ⟨dst,.slice t x none (some hi) (some mx),t',p,af,g⟩).run P w=.ok (.value (s.cut 0 h m sz).v) w:=by
 simp[execOp,hx,Instr.sliceAt,hu,Sem.run_bind,Result.andThen_ok,Instr.slice,Instr.sliceBounds,dk,yz,Sem.run_pure,lk hm h3,lk hh h2,hsz,Sl.cut]
theorem Hs{dst}{t e}{x lo hi mx}{t'}{p}{af}{g}{s:Sl}{k k' k2}{l h m sz:Nat}
  (hu:(underlying t).run P w=.ok (.slice e) w) (hsz:(sizeOf e).run P w=.ok sz w) (hx:a.eval x=s.v) (hl:a.eval lo=.int k l) (hh:a.eval hi=.int k' h) (hm:a.eval mx=.int k2 m) (h1:l<=h) (h2:h<=m) (h3:m<=s.c):
  (execOp a.eval ⟨dst,.slice t x (some lo) (some hi) (some mx),t',p,af,g⟩).run P w=.ok (.value (s.cut l h m sz).v) w:=by
 simp only[execOp,hx,Instr.sliceAt,hu,Sem.run_bind,Result.andThen_ok,Instr.slice,Instr.sliceBounds,dk,Sem.run_pure,lk hm h3,lk hh h2,lk hl h1,hsz,Sl.cut]
section
variable {K:Act->ay->Prop} {o:Oper}
theorem Xg(hg:Region.wanted o (yielded ops a.tmps)=true)(h:o.wp P a w (wpList P ops Q rest) Q):wpList P ops Q (o::rest) a w:=by
 unfold wpList;simp_all
theorem wT v (hr:(execOp a.eval o).run P w=.ok (.value v) w') (ha:a.put o.dst v=a') (h:K a' w'):o.wp P a w K Q:=by
 subst ha;unfold Oper.wp;rw[hr];exact h
theorem N8(hr:(execOp a.eval o).run P w=.ok .skip w')(ha:a.put o.dst undef=a')(h:K a' w'):o.wp P a w K Q:=by
 subst ha;unfold Oper.wp;rw[hr];exact h
theorem Jd{f}{args}(hr:(execOp a.eval o).run P w=.ok (.enter f args) w)
  (h:Calls P f args w fun e w'=>∃v a',e=.returned v/\a.put o.dst v=a'/\K a' w'):o.wp P a w K Q:=by
 unfold Oper.wp;rw[hr];refine h.mono ?_;simp_all
theorem EO{dst}{ty}{x y}{t'}{p}{af}{g}{b o}{cs vs D7}{et}{n}
  (hsz:(sizeOf ty).run P w=.ok n w) (hx:a.eval x=.pointer (some ⟨b,o,none⟩)) (hv:(a.eval y).cells=vs.toArray) (hn:vs.length=n)
  (h1:vs.all Value.oneCell'=true) (hb:Blk w b et cs) (IE:o+vs.length<=cs.length) (pe:cD cs o vs=D7) (ha:a.put dst undef=a')
  (h:∀w1,Only [b] w w1->Blk w1 b et D7->K a' w1):Oper.wp P ⟨dst,.store ty x y,t',p,af,g⟩ a w K Q:=
 N8 (SN hsz hx hv hn (dS.1 h1) hb IE) ha (h _ (Only.setRow _ _ _) (by rw[<-pe];exact hb.setRow _))
theorem EP{dst}{ty}{t'}{p}{af}{g}{z}{zs}{a':Nat->Act}
  (hz:(zeroValue ty).run P w=.ok z w) (hc:z.cells=zs.toArray) (ha:∀b,a.put dst (.pointer (some ⟨b,0,none⟩))=a' b)
  (h:∀b w1,w.heap.size<=b->Only [] w w1->Blk w1 b ty zs->K (a' b) w1):Oper.wp P ⟨dst,.alloc ty,t',p,af,g⟩ a w K Q:=
 wT _ (SO hz hc) (ha _) (h _ _ (aY _) (Only.alloc _ _) (Blk.alloc _ _ _))
theorem Xh{dst}{ty}{x}{t'}{p}{af}{g}{zs}{a':Nat->Act}
  (hc:(a.eval x).cells=zs.toArray) (ha:∀b,a.put dst (.pointer (some ⟨b,0,none⟩))=a' b)
  (h:∀b w1,w.heap.size<=b->Only [] w w1->Blk w1 b ty zs->K (a' b) w1):Oper.wp P ⟨dst,.box ty x,t',p,af,g⟩ a w K Q:=
 wT _ (abN hc) (ha _) (h _ _ (aY _) (Only.alloc _ _) (Blk.alloc _ _ _))
end
theorem LX{id}(h:Q .normal a w):Exit.inBlock id Q (.exit id) a w:=by simpa[Exit.inBlock]using h
theorem Ht{id Wy}(gz:(Wy==id)=false)(h:Q (.exit Wy) a w):Exit.inBlock id Q (.exit Wy) a w:=by simpa[Exit.inBlock,by simpa using gz]using h
def Bi(P:Program)(a:Act)(w:ay):List ResultVar->List az->Prop
 | [],[]=>True
 | .tmp t::r,v::vs=>a.eval (.tmp t)=v/\Bi P a w r vs
 | .cell p t::r,v::vs=>(∃ad,a.eval (.tmp p)=.pointer (some ad)/\(loadVar t ad).run P w=.ok v w)/\Bi P a w r vs
 | _,_=>False
theorem mZ(f:ResultVar->Sem az)(Zm:∀t,f (.tmp t)=pure (a.tmps.getD t undef))(hf2:∀q t,f (.cell q t)=(do loadVar t (<-asAddr (a.tmps.getD q undef)))):
  ∀rs vs,Bi P a w rs vs->(rs.mapM f).run P w=.ok vs w
 | [],[],_=>rfl
 | [],_::_,h=>h.elim
 | .tmp t::r,[],h=>h.elim
 | .cell _ _::r,[],h=>h.elim
 | .tmp t::r,v::vs,h=>by
  have ih:=mZ f Zm hf2 r vs h.2;have h1:a.tmps.getD t undef=v:=h.1;simp_all
 | .cell q t::r,v::vs,h=>by
  have ih:=mZ f Zm hf2 r vs h.2;obtain⟨⟨ad,h1,h2⟩,_⟩:=h;have h1':a.tmps.getD q undef=.pointer _:=h1;rw[List.mapM_cons,hf2];simp[h1',asAddr,h2,ih]
theorem Xi{fn}{rs}{v}(h:fn.results=rs.toArray)(hr:Bi P a w rs [v]):(results fn a.tmps).run P w=.ok v w:=by
 unfold results;rw[h,List.mapM_toArray];simp only[Sem.run_bind,map_eq_pure_bind];rw[mZ _ (fun _=>rfl) (fun _ _=>rfl) rs [v] hr];rfl
theorem Hu{fn}{rs}{vs}(h:fn.results=rs.toArray)(hn:(vs.length==1)=false)(hr:Bi P a w rs vs):(results fn a.tmps).run P w=.ok (.tuple vs.toArray) w:=by
 unfold results;rw[h,List.mapM_toArray];simp only[Sem.run_bind,map_eq_pure_bind,Sem.run_pure];rw[mZ _ (fun _=>rfl) (fun _ _=>rfl) rs vs hr];simp_all
theorem SX{fn}{R:az->ay->Prop}{v}(hr:(results fn a.tmps).run P w=.ok v w)(hd:a.defers=[])(h:R v w):
 bodyPost P fn (fun e w'=>∃v,e=.returned v/\R v w') .ret a w:=bodyPost_ret hr hd ⟨v,rfl,h⟩
theorem Hv{fn}{R:az->ay->Prop}{v}(hr:(results fn a.tmps).run P w=.ok v w)(hd:a.defers=[])(h:R v w):
 bodyPost P fn (fun e w'=>∃v,e=.returned v/\R v w') .normal a w:=bodyPost_end hr hd ⟨v,rfl,h⟩
theorem CG{ty}{ad}{cs}{n}(IC:(isAgg ty).run P w=.ok true w)(hsz:(sizeOf ty).run P w=.ok n w)(hn:cs.length=n)(hc:Cells w ad cs):
  (loadVar ty ad).run P w=.ok (.agg cs.toArray) w:=by
 have hl:=run_loadCells_list (P:=P) w ad cs hc;rw[hn]at hl;simp[loadVar,IC,hsz,hl,Sem.run_pure]
theorem AO{ty}{ad}{v}(IC:(isAgg ty).run P w=.ok false w)(hc:w.cell? ad=some v):
  (loadVar ty ad).run P w=.ok v w:=by
 simp[loadVar,IC,jI,run_load,hc]
end
section
variable {P:Program} {ops:Array Oper} {rest:List Oper} {a a':Act} {w:ay} {Q:Act->Prop}
theorem abX{o} v (hg:Region.wanted o (yielded ops a.tmps)=true)
  (hr:∀w',(∃n,w'=w.drewN n)->(execOp a.eval o).run P w'=.ok (.value v) w') (ha:a.put o.dst v=a')
  (h:wpQuiet P ops (fun w'=>∃n,w'=w.drewN n) Q rest a'):wpQuiet P ops (fun w'=>∃n,w'=w.drewN n) Q (o::rest) a:=by
 subst ha;unfold wpQuiet;rw[if_pos hg];refine⟨v,fun w' hw'=>?_,h⟩;unfold Oper.quietAt;rw[hr w' hw'];exact⟨rfl,rfl⟩
theorem aiq{o}(hg:Region.wanted o (yielded ops a.tmps)=false)(ha:a.put o.dst undef=a')
  (h:wpQuiet P ops (fun w'=>∃n,w'=w.drewN n) Q rest a'):wpQuiet P ops (fun w'=>∃n,w'=w.drewN n) Q (o::rest) a:=by
 subst ha;unfold wpQuiet;simp_all
end
theorem N9{w w'}:ci [] w w':=fun _ h=>by simp at h
theorem ci.refl bs w:ci bs w w:=fun _ _=>rfl
section
variable {P:Program} {ops:Array Oper} {Q:Exit->Act->ay->Prop} {md:Region.Mode} {E:Nat->ay->ay->Prop} {F:ay->Prop}
def fU(P:Program)(md:Region.Mode)(ops:Array Oper)(Q:Exit->Act->ay->Prop)(E:Nat->ay->ay->Prop):Nat->Array Bool->Act->ay->Prop
 | 0,bH,a,w=>Region.ready md ops bH=[]/\Q .normal a w
 | fl+1,bH,a,w=>
  (Region.ready md ops bH=[]->Q .normal a w)/\
  ∀i∈Region.ready md ops bH,wpOp P ops Q i (fun a' w'=>E i w w'/\fU P md ops Q E fl (bH.setIfInBounds i true) a' w') a w
theorem yG:∀fl bH a w,fU P md ops Q E fl bH a w->wpAny P md ops Q fl bH a w
 | 0,_,_,_,h=>h
 | fl+1,_,_,_,h=>⟨h.1,fun i hi=>wpOp_mono (fun a' w' h'=>yG fl _ a' w' h'.2) (h.2 i hi)⟩
def qu(md:Region.Mode)(ops:Array Oper)(bH:Array Bool):Prop:=∀k o,ops[k]? =some o->bH.getD k false=true->∀e∈o.after,Region.binds md e=true->bH.getD e.on false=true
def CH(md:Region.Mode)(ops:Array Oper)(bH:Array Bool):Bool:=
 (List.range ops.size).all fun k=>!bH.getD k false||((ops[k]?).map (·.after.all fun e=>!Region.binds md e||bH.getD e.on false)).getD true
theorem Bj{bH}(h:CH md ops bH=true):qu md ops bH:=by
 intro k o hk hl e he hb;have:=(dS.1 h) k (kX.2 (fX.1 hk).1);simp only[hl,mN,hk,dk,jJ,Array.all_eq_true_iff_forall_mem,cp]at this
 grind
theorem qu.add{bH}{j}(h:qu md ops bH)(hj:j∈Region.ready md ops bH):qu md ops (bH.setIfInBounds j true):=by
 intro k o hk hl e he hb;obtain⟨_,oj,Wz,jw⟩:=mem_ready.1 hj;by_cases hkj:j=k
 ·subst hkj;rw[Wz]at hk;injection hk with hk;subst hk;exact getD_set_true (jw e he hb)
 ·rw[getD_set_ne false hkj]at hl;exact getD_set_true (h k o hk hl e he hb)
def vO(md:Region.Mode)(ops:Array Oper)(i:Nat):List Nat->List Nat->Bool
 | _,[]=>true
 | seen,j::r=>((ops[j]?).map fun o=>o.after.any fun e=>Region.binds md e&&(e.on==i||seen.contains e.on)).getD false&&vO md ops i (j::seen) r
theorem wU{i}{bH}(hc:qu md ops bH):∀D seen,vO md ops i seen D=true->(∀k∈seen,bH.getD k false=true->bH.getD i false=true)->∀j∈D,∀o,ops[j]? =some o->(∀e∈o.after,Region.binds md e=true->bH.getD e.on false=true)->bH.getD i false=true
 | [],_,_,_,j,hj,_,_,_=>by simp at hj
 | k::r,seen,h,hs,j,hj,o,ho,jw=>by
  simp[vO,aQ]at h;have hk:∀o,ops[k]? =some o->(∀e∈o.after,Region.binds md e=true->bH.getD e.on false=true)->bH.getD i false=true:=by grind
  rcases aR.1 hj with rfl | hj
  ·exact hk o ho jw
  ·refine wU hc r _ h.2 ?_ j hj o ho jw;intro x hx hl;rcases aR.1 hx with rfl | hx
   ·have h1:=h.1;cases hx2:ops[x]? with
    | none=>rw[hx2]at h1;simp at h1
    | some ox=>exact hk ox hx2 (hc x ox hx2 hl)
   ·exact hs x hx hl
theorem qv{i}{oi}{v}{D}(hi:ops[i]? =some oi)(aer:∀(j:Nat) o cs b,ops[j]? =some o->o.op≠.select cs b)
  (hQ:∀c a w,Q (.panic c) (a.put oi.dst v) w->Q (.panic c) a w) (hD:vO md ops i [] D=true)
  (N:List Nat) (nA:∀j w w',j∉D->j∉N->F w->E j w w'->F w') (Rf:∀w,F w->E i w w):
  ∀fl bH a w,qu md ops bH->(∀k∈N,bH.getD k true=true)->
   (∀j oj,ops[j]? =some oj->j≠i->bH.getD j true=false->(∀e∈oj.after,Region.binds md e=true->e.on≠i)->oi.apart ops oj=true)->
   i∈Region.ready md ops bH->YieldsIf P ops F oi v a->F w->
   fU P md ops Q E fl (bH.setIfInBounds i true) (a.put oi.dst v) w->fU P md ops Q E (fl+1) bH a w:=by
 intro fl
 induction fl with
 | zero=>
  intro bH a w _ _ _ hr hy hF H;refine⟨fun h=>(by rw[h]at hr;cases hr),fun j hj=>?_⟩;by_cases WA:j=i
  ·subst WA;exact hy.wpOp hi hF ⟨Rf w hF,H⟩
  ·have:=ready_mono hj WA;rw[H.1]at this;cases this
 | succ fl ih=>
  intro bH a w qf hN LA hr hy hF H;refine⟨fun h=>(by rw[h]at hr;cases hr),fun j hj=>?_⟩;by_cases WA:j=i
  ·subst WA;exact hy.wpOp hi hF ⟨Rf w hF,H⟩
  ·have h1:=H.2 j (ready_mono hj WA);obtain⟨Zn,oj,Wz,jw⟩:=mem_ready.1 hj;have arI:=(mem_ready.1 hr).1;have hli:bH.getD i false=false:=by grind
   have akN:∀e∈oj.after,Region.binds md e=true->e.on≠i:=fun e he hb heq=>by grind
   have hjD:j∉D:=fun hm=>by
    have:=wU qf D [] hD (by simp) j hm oj Wz jw;rw[hli]at this;cases this
   have hjN:j∉N:=fun hm=>by
    have:=hN j hm;rw[Zn]at this;cases this
   have hN':∀k∈N,(bH.setIfInBounds j true).getD k true=true:=fun k hk=>by
    by_cases hjk:j=k
    ·subst hjk;exact absurd hk hjN
    ·rw[getD_set_ne true hjk];exact hN k hk
   have h2:=wpOp_putIf Wz (LA j oj Wz WA Zn akN) (fun cs b=>aer i oi cs b hi) (fun cs b=>aer j oj cs b Wz) hQ hy h1;have D8:∀k ok,ops[k]? =some ok->k≠i->(bH.setIfInBounds j true).getD k true=false->
     _->oi.apart ops ok=true:=fun k ok hk hki hun Zo=>by
    refine LA k ok hk hki ?_ Zo;by_cases hjk:j=k
    ·subst hjk;exact Zn
    ·rw[getD_set_ne true hjk]at hun;exact hun
   refine wpOp_mono (fun a' w' h3=>⟨h3.2.1,ih _ a' w' (qf.add hj) hN' D8 (ready_mono hr (Ne.symm WA)) h3.1 (nA j w w' hjD hjN hF h3.2.1) ?_⟩) h2;rw[Array.setIfInBounds_comm _ _ WA];exact h3.2.2
theorem Oa i {fz} {oi} {a a'} {w} {fl} {bH} (D N:List Nat) v F (hi:gM fz i=some oi)
  (hs:Region.noSelect fz.toArray=true) (hf:Region.free md fz.toArray bH i=true) (hr:(Region.ready md fz.toArray bH).contains i=true) (hc:CH md fz.toArray bH=true) (hD:vO md fz.toArray i [] D=true) (hN:(N.all fun k=>bH.getD k true)=true)
  (hQ:∀c a w,Q (.panic c) (a.put oi.dst v) w->Q (.panic c) a w) (nA:∀j w w',j∉D->j∉N->F w->E j w w'->F w') (Rf:∀w,F w->E i w w) (hF:F w)
  (hy:YieldsIf P fz.toArray F oi v a) (ha:a.put oi.dst v=a')
  (h:fU P md fz.toArray Q E fl (bH.setIfInBounds i true) a' w):fU P md fz.toArray Q E (fl+1) bH a w:=by
 subst ha;have Au:fz.toArray[i]? =some oi:=by rw[jC]at hi;simpa using hi
 exact qv Au (Region.noSelect_spec hs) hQ hD N nA Rf fl bH a w (Bj hc) (fun k hk=>by grind) (Region.free_spec Au hf) (by simpa using hr) hy hF h
theorem abY i {fz} {oi} {a} {w} {fl} {bH} (hi:gM fz i=some oi) (hr:Region.ready md fz.toArray bH=[i])
  (hg:Region.wanted oi (yielded fz.toArray a.tmps)=true)
  (h:oi.wp P a w (fun a' w'=>E i w w'/\fU P md fz.toArray Q E fl (bH.setIfInBounds i true) a' w') Q):fU P md fz.toArray Q E (fl+1) bH a w:=by
 have Au:fz.toArray[i]? =some oi:=by rw[jC]at hi;simpa using hi
 refine⟨fun h0=>(by rw[h0]at hr;cases hr),fun j hj=>?_⟩;rw[hr]at hj;obtain rfl:j=i:=by simpa using hj
 unfold wpOp;simp_all
theorem SY i {fz} {oi} {a a'} {w} {fl} {bH} (hi:gM fz i=some oi) (hr:Region.ready md fz.toArray bH=[i])
  (hg:Region.wanted oi (yielded fz.toArray a.tmps)=false) (hE:E i w w) (ha:a.put oi.dst undef=a')
  (h:fU P md fz.toArray Q E fl (bH.setIfInBounds i true) a' w):fU P md fz.toArray Q E (fl+1) bH a w:=by
 subst ha;have Au:fz.toArray[i]? =some oi:=by rw[jC]at hi;simpa using hi
 refine⟨fun h0=>(by rw[h0]at hr;cases hr),fun j hj=>?_⟩;rw[hr]at hj;obtain rfl:j=i:=by simpa using hj
 unfold wpOp;simp_all
theorem abZ i j {fz} {oi oj} {a} {w} {fl} {bH} (hi:gM fz i=some oi) (hj:gM fz j=some oj) (hr:Region.ready md fz.toArray bH=[i,j])
  (h1:if Region.wanted oi (yielded fz.toArray a.tmps)then oi.wp P a w (fun a' w'=>E i w w'/\fU P md fz.toArray Q E fl (bH.setIfInBounds i true) a' w') Q∨(oi.asks P a w/\LetsOut Q)
   else(fun a' w'=>E i w w'/\fU P md fz.toArray Q E fl (bH.setIfInBounds i true) a' w') (a.put oi.dst undef) w)
  (h2:if Region.wanted oj (yielded fz.toArray a.tmps)then oj.wp P a w (fun a' w'=>E j w w'/\fU P md fz.toArray Q E fl (bH.setIfInBounds j true) a' w') Q∨(oj.asks P a w/\LetsOut Q)
   else(fun a' w'=>E j w w'/\fU P md fz.toArray Q E fl (bH.setIfInBounds j true) a' w') (a.put oj.dst undef) w):fU P md fz.toArray Q E (fl+1) bH a w:=by
 have Au:fz.toArray[i]? =some oi:=by rw[jC]at hi;simpa using hi
 have NE:fz.toArray[j]? =some oj:=by rw[jC]at hj;simpa using hj
 refine⟨fun h0=>(by rw[h0]at hr;cases hr),fun k hk=>?_⟩;rw[hr]at hk;unfold wpOp;rcases aR.1 hk with rfl | hk<;>simp_all
theorem Xj{bH}{a}{w}{fl}(hr:Region.ready md ops bH=[])(h:Q .normal a w):fU P md ops Q E fl bH a w:=by
 cases fl with
 | zero=>exact⟨hr,h⟩
 | succ n=>exact⟨fun _=>h,by rw[hr];simp⟩
theorem ER{id}{fz:List Oper}{a}{w} E (hm:P.follows .mixedOrders=true)
  (h:fU P .any fz.toArray Q E fz.length (Array.replicate fz.length false) a w.drew):(Code.region id fz.toArray true).wp P Q a w:=by
 refine wp_region_any hm (yG (E:=E) _ _ _ _ ?_);simpa using h
theorem Hw{s}{l} w w' (h:w'.heap[s.blk]? =w.heap[s.blk]?) (hc:yD w s l):yD w' s l:=
 ⟨hc.1,fun hl=>by
  obtain⟨ad,h1,h2⟩:=hc.2 hl;refine⟨ad,h1,h2.keep ?_⟩;simpa[Sl.blk,h1]using h⟩
theorem Vv{fz:List Oper}{o}{v}{a}(hg:Region.wanted o (yielded fz.toArray a.tmps)=true)(h:∀w,F w->(execOp a.eval o).run P w=.ok (.value v) w):YieldsIf P fz.toArray F o v a:=.inl ⟨hg,h⟩
theorem ab0{fz:List Oper}{o}{a}(hg:Region.wanted o (yielded fz.toArray a.tmps)=false):YieldsIf P fz.toArray F o undef a:=.inr ⟨hg,rfl⟩
end
def ry(x:Int):Prop:= -9223372036854775808<=x/\x<=9223372036854775807
theorem wr{x}(h:ry x):IntKind.i64.wrap x=x:=IntWalk.i64_in _ ⟨h.1,h.2⟩
theorem gD{x}(h1: -9223372036854775808<=x)(h2:x<=9223372036854775807):IntKind.i64.wrap x=x:=IntWalk.i64_in _ ⟨h1,h2⟩
theorem Ob x:ry (IntKind.i64.wrap x):=by
 rw[IntKind.wrap_i64];constructor<;>omega
abbrev Rp(α:Type):=ay->(Nat->Prop)->α->List az->Prop
structure Rp.Ok {α:Type} (r:Rp α):Prop where
 keep:∀{w w':ay} {F:Nat->Prop} {x:α} {cs:List az},r w F x cs->(∀k,F k->k<w.heap.size->w'.heap[k]? =w.heap[k]?)->r w' F x cs
 inHeap:∀{w:ay} {F:Nat->Prop} {x:α} {cs:List az},r w F x cs->r w (fun k=>F k/\k<w.heap.size) x cs
 mono:∀{w:ay} {F G:Nat->Prop} {x:α} {cs:List az},r w F x cs->(∀k,F k->G k)->r w G x cs
 one:∀{w:ay} {F:Nat->Prop} {x:α} {cs:List az},r w F x cs->∀v,v∈cs->v.oneCell'=true
section
variable {α:Type} {r:Rp α} {size:Nat} {w w':ay} {F G:Nat->Prop} {s:Sl} {xs:List α}
structure SliceF (r:Rp α) (size:Nat) (w:ay) (F:Nat->Prop) (s:Sl) (xs:List α):Prop where
 len:s.n=xs.length
 cap:s.n<=s.c
 nil0:s.a=none->s.c=0
 big:s.c<=9223372036854775807
 at_:∀j x,xs[j]? =some x->∃base cs,s.a=some base/\F base.block/\cs.length=size/\Cells w (base.add (j*size)) cs/\r w F x cs
theorem qw(a:Addr) n:(a.add n).block=a.block:=by unfold Addr.add;split<;>rfl
theorem pz(a:Addr) i j:(a.add i).add j=a.add (i+j):=by
 unfold Addr.add;by_cases hi:i=0<;>by_cases hj:j=0<;>simp[hi,hj,eM]
theorem Bk(a:Addr):a.add 0=a:=rfl
theorem fV b o n:(⟨b,o,none⟩:Addr).add n=⟨b,o+n,none⟩:=by unfold Addr.add;split<;>simp_all
theorem Cells.sub{a}{cs vs}(h:Cells w a cs) k (hv:∀j v,vs[j]? =some v->cs[k+j]? =some v):Cells w (a.add k) vs:=fun j v hj=>by
 rw[pz];exact h _ v (hv j v hj)
theorem Cells.dZ{a}{cs}(h:Cells w a cs) k v (hv:cs[k]? =some v):Cells w (a.add k) [v]:=h.sub k fun j u hj=>by
 cases j with
 | zero=>simpa[hv]using hj
 | succ j=>simp at hj
theorem SliceF.nil(r:Rp α) size w F:SliceF r size w F Sl.nil []:=⟨rfl,aY _,fun _=>rfl,by decide,fun j x h=>by simp at h⟩
theorem SliceF.keep(hr:r.Ok)(h:SliceF r size w F s xs)(hs:0<size)(hk:∀k,F k->k<w.heap.size->w'.heap[k]? =w.heap[k]?):SliceF r size w' F s xs:=
 ⟨h.len,h.cap,h.nil0,h.big,fun j x hx=>by
  obtain⟨base,cs,h1,h2,h3,h4,h5⟩:=h.at_ j x hx;refine⟨base,cs,h1,h2,h3,h4.keep ?_,hr.keep h5 hk⟩;have bX:(base.add (j*size)).block<w.heap.size:=by
   cases cs with
   | nil=>simp at h3;omega
   | cons c cs=>exact h4.lt
  rw[qw]at bX⊢;exact hk _ h2 bX⟩
theorem SliceF.mono(hr:r.Ok)(h:SliceF r size w F s xs)(hk:∀k,F k->G k):SliceF r size w G s xs:=
 ⟨h.len,h.cap,h.nil0,h.big,fun j x hx=>by
  obtain⟨base,cs,h1,h2,h3,h4,h5⟩:=h.at_ j x hx;exact⟨base,cs,h1,hk _ h2,h3,h4,hr.mono h5 hk⟩⟩
theorem SliceF.inHeap(hr:r.Ok)(h:SliceF r size w F s xs)(hs:0<size):SliceF r size w (fun k=>F k/\k<w.heap.size) s xs:=
 ⟨h.len,h.cap,h.nil0,h.big,fun j x hx=>by
  obtain⟨base,cs,h1,h2,h3,h4,h5⟩:=h.at_ j x hx;refine⟨base,cs,h1,⟨h2,?_⟩,h3,h4,hr.inHeap h5⟩;have bX:(base.add (j*size)).block<w.heap.size:=by
   cases cs with
   | nil=>simp at h3;omega
   | cons c cs=>exact h4.lt
  rwa[qw]at bX⟩
theorem SliceF.get(h:SliceF r size w F s xs){i:Int}(h0:0<=i)(h1:i<s.n):
  ∃ad x cs,dL s i size ad/\xs[i.toNat]? =some x/\F ad.block/\cs.length=size/\Cells w ad cs/\r w F x cs:=by
 have hl:=h.len;have bX:i.toNat<xs.length:=by omega
 obtain⟨base,cs,g1,g2,g3,g4,g5⟩:=h.at_ i.toNat _ (aV bX);exact⟨_,_,cs,⟨base,g1,h0,h1,rfl⟩,aV bX,by rw[qw];exact g2,g3,g4,g5⟩
theorem SliceF.mem(h:SliceF r size w F s xs){x}(hx:x∈xs):∃cs,r w F x cs:=by
 obtain⟨j,hj⟩:=eT hx;obtain⟨_,cs,_,_,_,_,h5⟩:=h.at_ j x hj;exact⟨cs,h5⟩
theorem dL.akC{i}{a b}(h:dL s i size a)(k:dL s i size b):a=b:=by
 obtain⟨x,h1,_,_,h2⟩:=h;obtain⟨y,k1,_,_,k2⟩:=k;rw[h1]at k1;injection k1 with k1;rw[h2,k2,k1]
theorem SliceF.cut(h:SliceF r size w F s xs){lo hi m}(h1:lo<=hi)(h2:hi<=m)(h3:hi<=s.n)(h4:m<=s.c):SliceF r size w F (s.cut lo hi m size) ((xs.drop lo).take (hi-lo)):=by
 have hl:=h.len;refine⟨?_,?_,fun ha=>?_,by have:=h.big;simp[Sl.cut];omega,fun j x hx=>?_⟩
 ·simp[Sl.cut,dd,cG];omega
 ·simp[Sl.cut];omega
 ·simp[Sl.cut]at ha⊢;split at ha
  ·omega
  ·have:=h.nil0 (by simpa using ha);omega
 ·rw[List.getElem?_take]at hx;split at hx
  ·rw[jZ]at hx;obtain⟨base,cs,g1,g2,g3,g4,g5⟩:=h.at_ _ _ hx;refine⟨base.add (lo*size),cs,?_,by rw[qw];exact g2,g3,?_,g5⟩
   ·simp[Sl.cut];rw[if_neg (by omega),g1];rfl
   ·rw[pz,<-eC];exact g4
  ·cases hx
end
structure BytesF (w:ay) (F:Nat->Prop) (s:Sl) (l:List UInt8):Prop where
 rd:yD w s l
 cap:s.n<=s.c
 blk:∀ad,s.a=some ad->l≠[]->F ad.block
section
variable {w w':ay} {F G:Nat->Prop} {s:Sl} {l:List UInt8}
theorem BytesF.nil w F:BytesF w F Sl.nil []:=⟨⟨rfl,fun h=>absurd rfl h⟩,aY _,fun _ _ h=>absurd rfl h⟩
theorem BytesF.mono(h:BytesF w F s l)(hk:∀k,F k->G k):BytesF w G s l:=⟨h.rd,h.cap,fun ad ha hl=>hk _ (h.blk ad ha hl)⟩
end
def gp{α:Type}(P:α->List az->Prop):List α->List (List az)->Prop
 | [],[]=>True
 | x::xs,c::cs=>P x c/\gp P xs cs
 | _,_=>False
section
variable {α:Type} {P Q:α->List az->Prop}
theorem gp.len:∀{xs:List α} {css:List _},gp P xs css->xs.length=css.length
 | [],[],_=>rfl
 | x::xs,c::cs,h=>by simp[gp.len (xs:=xs) (css:=cs) h.2]
 | [],_::_,h=>h.elim
 | _::_,[],h=>h.elim
theorem gp.imp(hi:∀x c,P x c->Q x c):∀{xs:List α} {css:List _},gp P xs css->gp Q xs css
 | [],[],_=>trivial
 | x::xs,c::cs,h=>⟨hi _ _ h.1,gp.imp hi (xs:=xs) (css:=cs) h.2⟩
 | [],_::_,h=>h.elim
 | _::_,[],h=>h.elim
theorem gp.yv:∀{xs ys:List α} {css Ez:List _},gp P xs css->gp P ys Ez->gp P (xs++ys) (css++Ez)
 | [],_,[],_,_,k=>k
 | x::xs,_,c::cs,_,h,k=>⟨h.1,gp.yv (xs:=xs) (css:=cs) h.2 k⟩
 | [],_,_::_,_,h,_=>h.elim
 | _::_,_,[],_,h,_=>h.elim
theorem gp.get:∀{xs:List α} {css:List _},gp P xs css->∀{j:Nat} {x:α},xs[j]? =some x->∃cs,css[j]? =some cs/\P x cs
 | [],[],_,j,x,h=>by simp at h
 | y::xs,c::cs,k,0,x,h=>by
  simp at h;subst h;exact⟨c,rfl,k.1⟩
 | y::xs,c::cs,k,j+1,x,h=>by
  exact gp.get (xs:=xs) (css:=cs) k.2 h
 | [],_::_,h,_,_,_=>h.elim
 | _::_,[],h,_,_,_=>h.elim
theorem gp.mem:∀{xs:List α} {css:List _},gp P xs css->∀c,c∈css->∃x,P x c
 | [],[],_,c,h=>by simp at h
 | y::xs,d::cs,k,c,h=>by
  rcases aR.1 h with rfl | h
  ·exact⟨y,k.1⟩
  ·exact gp.mem (xs:=xs) (css:=cs) k.2 c h
 | [],_::_,h,_,_=>h.elim
 | _::_,[],h,_,_=>h.elim
theorem gp.take:∀n {xs:List α} {css:List _},gp P xs css->gp P (xs.take n) (css.take n)
 | 0,_,_,_=>by simp[gp]
 | _+1,[],[],_=>by simp[gp]
 | n+1,x::xs,c::cs,h=>by simp;exact⟨h.1,gp.take n (xs:=xs) (css:=cs) h.2⟩
 | _,[],_::_,h=>h.elim
 | _,_::_,[],h=>h.elim
theorem gp.set:∀{xs:List α} {css:List _} j {x:α} {c:List az},gp P xs css->P x c->gp P (xs.set j x) (css.set j c)
 | [],[],_,_,_,_,_=>by simp[gp]
 | y::xs,d::cs,0,x,c,h,k=>⟨k,h.2⟩
 | y::xs,d::cs,j+1,x,c,h,k=>⟨h.1,gp.set (xs:=xs) (css:=cs) j h.2 k⟩
 | [],_::_,_,_,_,h,_=>h.elim
 | _::_,[],_,_,_,h,_=>h.elim
end
theorem pA{css:List (List az)}{size}(h:∀c,c∈css->c.length=size):css.flatten.length=css.length*size:=by
 induction css with
 | nil=>simp
 | cons c cs ih=>
  rw[dj,aU,h c (by simp),ih (fun d hd=>h d (by simp[hd])),bp,eC];omega
theorem CI{css:List _}{size}(h:∀c,c∈css->c.length=size):∀{j i:Nat} {cs:List az} {v:az},css[j]? =some cs->cs[i]? =some v->css.flatten[j*size+i]? =some v:=by
 induction css with
 | nil=>intro j i cs v hj;simp at hj
 | cons c cs ih=>
  intro j i ds v hj hi;have hc:=h c (by simp);cases j with
  | zero=>
   simp at hj;subst hj;simp;rw[bJ (aZ.1 hi).1];exact hi
  | succ j=>
   have:=ih (fun d hd=>h d (by simp[hd])) hj hi;rw[dj,cd (by rw[hc,eC];omega),hc];rw[show _*size+i-size=j*size+i by rw[eC];omega];exact this
theorem LY{css:List (List az)}{size}(h:∀c,c∈css->c.length=size):∀n,css.flatten.take (n*size)=(css.take n).flatten:=by
 induction css with
 | nil=>intro n;simp
 | cons c cs ih=>
  intro n;cases n with
  | zero=>simp
  | succ n=>
   have hc:=h c (by simp);rw[dj,fD,dj,List.take_append,<-ih (fun d hd=>h d (by simp[hd])),hc,show _*size-size=n*size by rw[eC];omega,bC (by rw[hc,eC];omega)]
theorem Hx{cs}{o}{v}(h:o<cs.length):cD cs o [v]=cs.set o v:=by
 rw[cD,List.set_eq_take_append_cons_drop,if_pos h];simp
theorem ES{size}{tail}{i}{v}:∀{css:List _} {n:Nat} {cs:List az},(∀c,c∈css->c.length=size)->css[n]? =some cs->i<size->
  (css.flatten++tail).set (n*size+i) v=(css.set n (cs.set i v)).flatten++tail
 | [],n,cs,_,hn,_=>by simp at hn
 | c::css,0,cs,h,hn,hi=>by
  simp at hn;subst hn;have hc:=h c (by simp);simp;rw[List.set_append_left _ _ (by omega)]
 | c::css,n+1,cs,h,hn,hi=>by
  simp at hn;have hc:=h c (by simp);simp;rw[AF _ _ (by rw[hc,eC];omega),hc,show(n+1)*size+i-size=n*size+i by rw[eC];omega,ES (tail:=tail) (v:=v) (fun d hd=>h d (by simp[hd])) hn hi]
section
variable {w w':ay} {a:Addr} {cs ds:List az}
theorem Cells.yv(h:Cells w a cs)(k:Cells w (a.add cs.length) ds):Cells w a (cs++ds):=fun j v hj=>by
 by_cases bX:j<cs.length
 ·rw[bJ bX]at hj;exact h j v hj
 ·rw[cd (by omega)]at hj;have:=k _ v hj;rw[pz,show cs.length+_=j by omega]at this;exact this
theorem Cells.nil w a:Cells w a []:=fun j v hj=>by simp at hj
end
section
variable {α:Type} {r:Rp α} {size:Nat} {w w':ay} {F G:Nat->Prop} {s y:Sl} {xs ys:List α} {e:TypeId} {B:Nat}
abbrev lm(r:Rp α)(size:Nat)(w:ay)(F:Nat->Prop):List α->List (List az)->Prop:=gp fun x cs=>cs.length=size/\r w F x cs
theorem lm.sz{css}(h:lm r size w F xs css):∀c,c∈css->c.length=size:=fun c hc=>by
 obtain⟨_,h1,_⟩:=h.mem c hc;exact h1
theorem lm.keep(hr:r.Ok){css}(h:lm r size w F xs css)(hk:∀k,F k->k<w.heap.size->w'.heap[k]? =w.heap[k]?):lm r size w' F xs css:=
 h.imp fun _ _ h1=>⟨h1.1,hr.keep h1.2 hk⟩
theorem lm.mono(hr:r.Ok){css}(h:lm r size w F xs css)(hk:∀k,F k->G k):lm r size w G xs css:=
 h.imp fun _ _ h1=>⟨h1.1,hr.mono h1.2 hk⟩
theorem lm.inHeap(hr:r.Ok){css}(h:lm r size w F xs css):lm r size w (fun k=>F k/\k<w.heap.size) xs css:=
 h.imp fun _ _ h1=>⟨h1.1,hr.inHeap h1.2⟩
theorem SliceF.Q0{base:Addr}:∀xs k,(∀j x,xs[j]? =some x->∃cs,cs.length=size/\Cells w (base.add ((k+j)*size)) cs/\r w F x cs)->
  ∃css,lm r size w F xs css/\Cells w (base.add (k*size)) css.flatten
 | [],k,_=>⟨[],trivial,Cells.nil _ _⟩
 | x::xs,k,h=>by
  obtain⟨cs,h1,h2,h3⟩:=h 0 x rfl;obtain⟨css,k1,k2⟩:=SliceF.Q0 xs _ (fun j y hj=>by
   obtain⟨ds,g1,g2,g3⟩:=h (j+1) y (by simpa using hj);exact⟨ds,g1,by rw[show k+1+j=k+(j+1) by omega];exact g2,g3⟩)
  refine⟨cs::css,⟨⟨h1,h3⟩,k1⟩,?_⟩;refine Cells.yv (by simpa using h2) ?_;rw[pz,h1,show k*size+size=(k+1)*size by rw[eC];omega];exact k2
theorem SliceF.flat(h:SliceF r size w F s xs)(hx:xs≠[]):∃base css,s.a=some base/\F base.block/\lm r size w F xs css/\Cells w base css.flatten:=by
 cases xs with
 | nil=>exact absurd rfl hx
 | cons x xs=>
  obtain⟨base,_,h1,h2,_⟩:=h.at_ 0 x rfl;obtain⟨css,k1,k2⟩:=SliceF.Q0 (r:=r) (size:=size) (w:=w) (F:=F) (base:=base) _ 0 (fun j y hj=>by
   obtain⟨b',cs,g1,g2,g3,g4,g5⟩:=h.at_ j y hj;rw[h1]at g1;injection g1 with g1;subst g1;exact⟨cs,g3,by simpa using g4,g5⟩)
  exact⟨base,css,h1,h2,k1,by rw[xX,Bk]at k2;exact k2⟩
theorem SliceF.of{base}{css}(he:lm r size w F xs css)(ha:s.a=some base)(hF:F base.block)(hc:Cells w base css.flatten)(hn:s.n=xs.length)(qg:s.n<=s.c)(Rg:s.c<=9223372036854775807):SliceF r size w F s xs:=
 ⟨hn,qg,fun h=>(by rw[ha]at h;cases h),Rg,fun j x hx=>by
  obtain⟨cs,h1,h2,h3⟩:=he.get hx;exact⟨base,cs,ha,hF,h2,fun i v hi=>by rw[pz];exact hc _ v (CI he.sz h1 hi),h3⟩⟩
def Own(r:Rp α)(size:Nat)(e:TypeId)(B:Nat)(w:ay)(F:Nat->Prop)(s:Sl)(xs:List α):Prop:=
 (s=Sl.nil/\xs=[])∨∃g css tail,s.a=some ⟨g,0,none⟩/\B<=g/\Blk w g e (css.flatten++tail)/\tail.length=(s.c-s.n)*size/\s.n=xs.length/\s.n<=s.c/\s.c<=9223372036854775807/\lm r size w (fun k=>F k/\k≠g) xs css
theorem Own.len(h:Own r size e B w F s xs):s.n=xs.length:=by
 rcases h with⟨rfl,rfl⟩ | ⟨g,css,tail,_,_,_,_,h,_⟩
 ·rfl
 ·exact h
theorem Own.cap(h:Own r size e B w F s xs):s.n<=s.c:=by
 rcases h with⟨rfl,rfl⟩ | ⟨g,css,tail,_,_,_,_,_,h,_,_⟩
 ·exact aY _
 ·exact h
theorem Own.slice(hr:r.Ok)(h:Own r size e B w F s xs):SliceF r size w (fun k=>F k∨(B<=k/\s.a=some ⟨k,0,none⟩)) s xs:=by
 rcases h with⟨rfl,rfl⟩ | ⟨g,css,tail,h1,h2,h4,h5,h6,h7,h9,h8⟩
 ·exact SliceF.nil _ _ _ _
 ·exact SliceF.of (h8.mono hr fun k hk=>.inl hk.1) h1 (.inr ⟨h2,h1⟩) (h4.cells 0 _ fun j v hj=>by
   rw[bM,bJ (aZ.1 hj).1];exact hj) h6 h7 h9
theorem Own.keep(hr:r.Ok)(h:Own r size e B w F s xs)(hk:∀k,(F k∨(B<=k/\s.a=some ⟨k,0,none⟩))->k<w.heap.size->w'.heap[k]? =w.heap[k]?):Own r size e B w' F s xs:=by
 rcases h with⟨rfl,rfl⟩ | ⟨g,css,tail,h1,h2,h4,h5,h6,h7,h9,h8⟩
 ·exact .inl ⟨rfl,rfl⟩
 ·exact .inr ⟨g,css,tail,h1,h2,(hk g (.inr ⟨h2,h1⟩) h4.lt).trans h4,h5,h6,h7,h9,h8.keep hr fun k hF=>hk k (.inl hF.1)⟩
theorem Own.mono(hr:r.Ok)(h:Own r size e B w F s xs)(hk:∀k,F k->G k):Own r size e B w G s xs:=by
 rcases h with⟨rfl,rfl⟩ | ⟨g,css,tail,h1,h2,h4,h5,h6,h7,h9,h8⟩
 ·exact .inl ⟨rfl,rfl⟩
 ·exact .inr ⟨g,css,tail,h1,h2,h4,h5,h6,h7,h9,h8.mono hr fun k h=>⟨hk k h.1,h.2⟩⟩
theorem Own.low{B'}(h:Own r size e B w F s xs)(hB:B'<=B):Own r size e B' w F s xs:=by
 rcases h with⟨rfl,rfl⟩ | ⟨g,css,tail,h1,h2,h4⟩
 ·exact .inl ⟨rfl,rfl⟩
 ·exact .inr ⟨g,css,tail,h1,bh hB h2,h4⟩
theorem Own.nil(r:Rp α) size e B w F:Own r size e B w F Sl.nil []:=.inl ⟨rfl,rfl⟩
theorem Own.inHeap(hr:r.Ok)(h:Own r size e B w F s xs):Own r size e B w (fun k=>F k/\k<w.heap.size) s xs:=by
 rcases h with⟨rfl,rfl⟩ | ⟨g,css,tail,h1,h2,h4,h5,h6,h7,h9,h8⟩
 ·exact .inl ⟨rfl,rfl⟩
 ·exact .inr ⟨g,css,tail,h1,h2,h4,h5,h6,h7,h9,(h8.inHeap hr).mono hr fun k h=>⟨⟨h.1.1,h.2⟩,h.1.2⟩⟩
theorem Own.blk(h:Own r size e B w F s xs){ad}(ha:s.a=some ad):B<=ad.block/\ad.block<w.heap.size:=by
 rcases h with⟨rfl,rfl⟩ | ⟨g,css,tail,h1,h2,h4,_⟩
 ·cases ha
 ·rw[h1]at ha;injection ha with ha;subst ha;exact⟨h2,h4.lt⟩
theorem SliceF.aef(h:SliceF r size w F s xs):∃css,lm r size w F xs css/\∀base,s.a=some base->Cells w base css.flatten:=by
 cases xs with
 | nil=>exact⟨[],trivial,fun b _=>Cells.nil _ _⟩
 | cons x xs=>
  obtain⟨base,css,h1,h2,h3,h4⟩:=h.flat (by simp);exact⟨css,h3,fun b hb=>by rw[h1]at hb;injection hb with hb;subst hb;exact h4⟩
theorem lm.Iw{css}(h:lm r size w F xs css):css.flatten.length=xs.length*size:=by rw[pA h.sz,h.len]
theorem lm.one(hr:r.Ok){css}(h:lm r size w F xs css):∀v,v∈css.flatten->v.oneCell'=true:=fun v hv=>by
 obtain⟨c,hc,hv⟩:=List.mem_flatten.1 hv;obtain⟨x,_,hx⟩:=h.mem c hc;exact hr.one hx v hv
theorem ab1(l m:List az) z:(l.toArray++m.toArray++z)=(l++m++z.toList).toArray:=by
 simp
section
variable {P:Program} {t ty:TypeId} {i:TypeInfo} {z:az} {bytes:Nat}
theorem uE(w:ay) k (M5:z.cells.size=size):(Builtin.zeroCells z.cells k).toList.length=k*size:=by
 rw[fe,size_zeroCells,M5]
theorem L0(ht:P.underlying t=some (.slice e))(hi:P.info? e=some i)(hz:i.zero=some z)(qh:i.size=size)(UL:i.bytes=bytes)(M5:z.cells.size=size)
  (hr:r.Ok) {css} (k1:lm r size w F xs css) (k2:∀base,s.a=some base->Cells w base css.flatten) (EA:s.a=none->s.c=0) (rA:s.n=xs.length) (hsc:s.n<=s.c)
  (hy:SliceF r size w F y ys) (qj:s.c<s.n+y.n) (hm:(xs.length+ys.length)*bytes<=140737488355328) (Av:0<bytes):
  ∃s' w',(Builtin.append_ #[t,t] ty #[s.v,y.v]).run P w=.ok s'.v w'/\Own r size e w.heap.size w' F s' (xs++ys)/\Only [] w w'/\s'.a=some ⟨w.heap.size,0,none⟩:=by
 subst qh;subst UL;have Rg:=bh (by have:=Em (xs.length+ys.length) Av;omega) hm;have M6:=hy.len;have WB:y.n≠0:=by omega
 have hyx:ys≠[]:=fun h=>WB (by rw[M6,h];rfl);obtain⟨yb,Ez,m1,m2,m3,m4⟩:=hy.flat hyx;obtain⟨sa,sn,sc⟩:=s;obtain⟨ya,yn,yc⟩:=y;dsimp only at rA hsc EA M6 WB qj m1 k2;subst m1;have hold:=Only.drew w;have key:∀kH NF,kH=sn+yn->∀W',W'=w.drew.alloc (.cells (css.flatten.toArray++Ez.flatten.toArray++Builtin.zeroCells z.cells (grownCap w kH NF e-kH)) e)->
   Own r i.size e w.heap.size W' F ⟨some ⟨w.heap.size,0,none⟩,kH,grownCap w kH NF e⟩ (xs++ys)/\Only [] w W':=by
  rintro kH NF rfl W' rfl;have hO:Only [] w (w.drew.alloc (.cells (css.flatten.toArray++Ez.flatten.toArray++Builtin.zeroCells z.cells (grownCap w (sn+yn) NF e-(sn+yn))) e)):=hold.cz (Only.alloc _ _);refine⟨.inr ⟨w.heap.size,css++Ez,(Builtin.zeroCells z.cells _).toList,rfl,aY _,?_,uE w _ M5,?_,grownCap_ge _ _ _ _,grownCap_le_maxLen _ _ _ _ (by simp[maxLen];omega),?_⟩,hO⟩
  ·rw[ab1,En];exact Blk.alloc w.drew e _
  ·simp;omega
  ·refine((lm.mono hr (lm.inHeap hr (gp.yv k1 m3)) (G:=fun k=>F k/\k≠w.heap.size) fun k h=>⟨h.1,by have:=h.2;omega⟩)).keep hr fun k hk bX=>hO.block k bX (by simp)
 cases sa with
 | none=>
  have hsc:=EA rfl;subst hsc;have Ss:sn=0:=by omega
  subst Ss;have hx:=bO rA.symm;subst hx;cases css with
  | cons c css=>exact k1.elim
  | nil=>
   have uo:=run_append_nil (P:=P) w t ty e i z ht hi hz yb yn yc Ez.flatten (by rw[m3.Iw,M6]) m4 (by omega) (by omega) (by
    have:(0+ys.length)*i.bytes<=140737488355328:=by simpa using hm
    rw[bM,<-M6]at this;omega)
   obtain⟨g1,g2⟩:=key yn 0 (by simp) _ rfl;exact⟨_,_,uo,by simpa using g1,by simpa using g2,rfl⟩
 | some b=>
  have uo:=run_append_grow (P:=P) w t ty e i z ht hi hz b sn sc css.flatten (by rw[k1.Iw,rA]) (k2 b rfl) yb yn yc Ez.flatten (by rw[m3.Iw,M6]) m4 qj (by omega) (growslice_fits qj (by rw[rA,M6];exact hm));obtain⟨g1,g2⟩:=key _ sc rfl _ rfl;exact⟨_,_,uo,g1,g2,rfl⟩
theorem Oc(ht:P.underlying t=some (.slice e))(hi:P.info? e=some i)(qh:i.size=size)
  (hr:r.Ok) {g} {css} {tail} (ha:s.a=some ⟨g,0,none⟩) (hB:B<=g) (hb:Blk w g e (css.flatten++tail)) (yw:tail.length=(s.c-s.n)*size) (hn:s.n=xs.length) (hc:s.n<=s.c) (Rg:s.c<=9223372036854775807)
  (hE:lm r size w (fun k=>F k/\k≠g) xs css) (hy:SliceF r size w (fun k=>F k/\k≠g) y ys) (qj:s.n+y.n<=s.c):
  ∃w',(Builtin.append_ #[t,t] ty #[s.v,y.v]).run P w=.ok (Sl.v ⟨s.a,s.n+y.n,s.c⟩) w'/\Own r size e B w' F ⟨s.a,s.n+y.n,s.c⟩ (xs++ys)/\Only [g] w w':=by
 subst qh;have M6:=hy.len;obtain⟨sa,sn,sc⟩:=s;obtain⟨ya,yn,yc⟩:=y;dsimp only at ha hn hc yw qj M6;subst ha;obtain⟨Ez,m3,m4⟩:=hy.aef;have qf:css.flatten.length=sn*i.size:=by rw[hE.Iw,hn]
 have xP:Ez.flatten.length=yn*i.size:=by rw[m3.Iw,M6]
 have ma:sn*i.size+yn*i.size<=sn*i.size+tail.length:=by
  rw[yw,<-eC,<-eC];exact jg _ (by omega)
 have uo:(Builtin.append_ #[t,t] ty #[.slice (some ⟨g,0,none⟩) sn sc,.slice ya yn yc]).run P w=
   .ok (.slice (some ⟨g,0,none⟩) (sn+yn) sc) (w.setRow g ((css.flatten++Ez.flatten)++tail.drop (yn*i.size)).toArray):=by
  have xQ:((css.flatten++tail).toArray.toList.take (sn*i.size)++Ez.flatten++(css.flatten++tail).toArray.toList.drop (sn*i.size+Ez.flatten.length))=(css.flatten++Ez.flatten)++tail.drop (yn*i.size):=by
   rw[im,<-qf,List.take_left,xP,List.drop_append];rw[ov (by omega),cr,dY]
  cases ya with
  | some ya=>
   have:=run_append_room (P:=P) w t ty e i ht hi g sn sc (css.flatten++tail).toArray hb ya yn yc Ez.flatten xP (m4 ya rfl) (m3.one hr) qj (by
    rw[eh,aU,xP,qf];exact ma)
   rw[this,xQ]
  | none=>
   have hyx:ys=[]:=by
    cases ys with
    | nil=>rfl
    | cons x xs=>obtain⟨_,_,h,_⟩:=hy.at_ 0 x rfl;cases h
   subst hyx;have WB:=by simpa using M6
   subst WB;cases Ez with
   | cons c cs=>exact m3.elim
   | nil=>
    have tR:w.setRow g ((css.flatten++([]).flatten)++tail.drop (0*i.size)).toArray=w:=by
     have:=setRow_self w g (css.flatten++tail).toArray e (0,0) hb;simpa using this
    rw[tR];simp[Builtin.append_,run_underlying ht,sizeOf,typeInfo,hi,Builtin.lenOf,Builtin.firstCells,hc,storeCells]
 have hO:Only [g] w (w.setRow g ((css.flatten++Ez.flatten)++tail.drop (yn*i.size)).toArray):=Only.setRow _ _ _;refine⟨_,uo,.inr ⟨g,css++Ez,tail.drop (yn*i.size),rfl,hB,?_,?_,?_,qj,Rg,?_⟩,hO⟩
 ·rw[En];exact hb.setRow _
 ·rw[cG,yw,<-Nat.sub_mul];congr 1;dsimp only;omega
 ·dsimp only;rw[aU];omega
 ·exact lm.keep hr (gp.yv hE m3) fun k hk bX=>hO.block k bX (by simpa using hk.2)
theorem uF(ht:P.underlying t=some (.slice e))(hi:P.info? e=some i)(hz:i.zero=some z)(qh:i.size=size)(UL:i.bytes=bytes)(M5:z.cells.size=size)
  (hr:r.Ok) (hs:Own r size e B w F s xs) (hy:SliceF r size w (fun k=>F k/\s.a≠some ⟨k,0,none⟩) y ys) (hB:B<=w.heap.size) (hm:(xs.length+ys.length)*bytes<=140737488355328) (Av:0<bytes):
  ∃s' w',(Builtin.append_ #[t,t] ty #[s.v,y.v]).run P w=.ok s'.v w'/\Own r size e B w' F s' (xs++ys)/\∃gs,Only gs w w'/\(∀g,g∈gs->s.a=some ⟨g,0,none⟩/\B<=g/\g<w.heap.size)/\(s'.a=s.a∨s'.a=some ⟨w.heap.size,0,none⟩):=by
 by_cases qj:s.n+y.n<=s.c
 ·rcases hs with⟨rfl,rfl⟩ | ⟨g,css,tail,h1,h2,h4,h5,h6,h7,h9,h8⟩
  ·have WB:y.n=0:=by simpa using qj
   have hyx:ys=[]:=by have:=hy.len;rw[WB]at this;exact bO this.symm
   subst hyx;refine⟨Sl.nil,w,?_,.inl ⟨rfl,rfl⟩,[],Only.refl _ _,by simp,.inl rfl⟩;obtain⟨ya,yn,yc⟩:=y;dsimp only at WB;subst WB;cases ya<;>simp[Builtin.append_,run_underlying ht,sizeOf,typeInfo,hi,Builtin.lenOf,Builtin.firstCells,loadCells,loadCellsFrom]
  ·obtain⟨w',k1,k2,k3⟩:=Oc (ty:=ty) ht hi qh hr h1 h2 h4 h5 h6 h7 h9 h8 (hy.mono hr fun k hk=>⟨hk.1,fun h=>hk.2 (by rw[h,h1])⟩) qj;exact⟨_,w',k1,k2,[g],k3,fun g' xv=>by simp at xv;subst xv;exact⟨h1,h2,h4.lt⟩,.inl rfl⟩
 ·have rA:=hs.len;have hsc:=hs.cap;have hy':SliceF r size w F y ys:=hy.mono hr fun k hk=>hk.1;have go:∀css,lm r size w F xs css->(∀base,s.a=some base->Cells w base css.flatten)->(s.a=none->s.c=0)->
    ∃s' w',(Builtin.append_ #[t,t] ty #[s.v,y.v]).run P w=.ok s'.v w'/\Own r size e B w' F s' (xs++ys)/\∃gs,Only gs w w'/\(∀g,g∈gs->s.a=some ⟨g,0,none⟩/\B<=g/\g<w.heap.size)/\(s'.a=s.a∨s'.a=some ⟨w.heap.size,0,none⟩):=by
   intro css k1 k2 k3;obtain⟨s',w',g1,g2,g3,g4⟩:=L0 (ty:=ty) ht hi hz qh UL M5 hr k1 k2 k3 rA hsc hy' (by omega) hm Av;exact⟨s',w',g1,g2.low hB,[],g3,by simp,.inr g4⟩
  rcases hs with⟨rfl,rfl⟩ | ⟨g,css,tail,h1,h2,h4,h5,h6,h7,h9,h8⟩
  ·exact go [] trivial (fun _ h=>by cases h) (fun _=>rfl)
  ·refine go css (h8.mono hr fun k hk=>hk.1) (fun base hb=>?_) (fun h=>by rw[h1]at h;cases h);rw[h1]at hb;injection hb with hb;subst hb;exact h4.cells 0 _ fun j v hj=>by
    rw[bM,bJ (aZ.1 hj).1];exact hj
theorem Hy w (ht:P.underlying t=some (.slice e)) (hi:P.info? e=some i):(Instr.buildSlice t 0 #[]).run P w=.ok (.slice (some ⟨w.heap.size,0,none⟩) 0 0) (w.alloc (.cells #[] e)):=by
 have h0:Array.map (fun _=>(default:az)) (Array.range 0)=#[]:=Array.ext' (by simp);simp[Instr.buildSlice,run_underlying ht,sizeOf,typeInfo,hi,Instr.fill,newRow,h0]
theorem kx(ht:P.underlying t=some (.slice e))(hi:P.info? e=some i)(hz:i.zero=some z)(qh:i.size=size)(h0:0<size){vs:List az}{len}{parts}
  (hp:parts=((vs.zipIdx 0).map fun x=>(x.2,x.1)).toArray) (hl:vs.length=len) (hl0:0<len) (A4:len*size<=16777216)
  (hr:r.Ok) (hE:lm r size w F xs (vs.map fun v=>v.cells.toList)):
  ∃s w',(Instr.buildSlice t len parts).run P w=.ok (Sl.v s) w'/\Own r size e w.heap.size w' F s xs/\Only [] w w'/\s.a=some ⟨w.heap.size,0,none⟩/\s.n=xs.length/\s.c=xs.length:=by
 subst qh;subst hp;subst hl;have IG:=by have:=hE.len;rwa[bq]at this
 have hsz:=fun v hv=>by
  have:=hE.sz _ (cJ.2 ⟨v,hv,rfl⟩);simpa using this
 have uo:=run_buildSlice (P:=P) w t e vs.length ((vs.zipIdx 0).map fun x=>_).toArray (vs.flatMap fun v=>v.cells.toList).toArray i z ht hi hz (by omega)
  (by have:=Nat.mul_lt_mul_of_pos_left h0 hl0;omega)
  (by rw[im];exact Go.Great.fill_whole h0 vs _ hsz (by simp))
 have hO:Only [] w (w.alloc (.cells (vs.flatMap fun v=>v.cells.toList).toArray e)):=Only.alloc _ _;refine⟨⟨some _,vs.length,vs.length⟩,_,uo,.inr ⟨w.heap.size,vs.map (fun v=>v.cells.toList),[],rfl,aY _,?_,by simp,IG.symm,aY _,?_,?_⟩,hO,rfl,IG.symm,IG.symm⟩
 ·rw[bR,List.flatMap_def.symm.trans rfl];exact Blk.alloc w e _
 ·have:vs.length<=vs.length*i.size:=Nat.le_mul_of_pos_right _ h0;dsimp only;omega
 ·exact((lm.mono hr (lm.inHeap hr hE) (G:=fun k=>F k/\k≠w.heap.size) fun k h=>⟨h.1,by have:=h.2;omega⟩)).keep hr fun k hk bX=>hO.block k bX (by simp)
end
end
def ji:Rp UInt8:=fun _ _ b cs=>cs=[ga b]
theorem uG:ji.Ok where
 keep h _:=h
 inHeap h:=h
 mono h _:=h
 one h v hv:=by
  rw[show _=[ga _]from h]at hv;simp at hv;subst hv;rfl
theorem BytesF.slice{w}{F}{s}{l}(h:BytesF w F s l)(h0:s.a=none->s.c=0)(hb:s.c<=9223372036854775807):SliceF ji 1 w F s l:=
 ⟨h.rd.1,h.cap,h0,hb,fun j x hx=>by
  have hl:l≠[]:=fun e=>by rw[e]at hx;simp at hx
  obtain⟨ad,h1,h2⟩:=h.rd.2 hl;exact⟨ad,[ga x],h1,h.blk ad h1 hl,rfl,by rw[jP];exact h2.dZ j _ (by rw[bZ,hx];rfl),rfl⟩⟩
theorem SliceF.bytes{w}{F}{s}{l}(h:SliceF ji 1 w F s l):BytesF w F s l:=
 ⟨⟨h.len,fun hl=>by
  obtain⟨base,css,h1,h2,h3,h4⟩:=h.flat hl;refine⟨base,h1,?_⟩;have:∀l css,lm ji 1 w F l css->css.flatten=l.map ga:=by
   intro l
   induction l with
   | nil=>intro css h;cases css with
    | nil=>rfl
    | cons c cs=>exact h.elim
   | cons b l ih=>intro css h;cases css with
    | nil=>exact h.elim
    | cons c cs=>
     obtain⟨⟨_,h1⟩,h2⟩:=h;rw[dj,ih cs h2,show c=[ga b]from h1];rfl
  rw[<-this l css h3];exact h4⟩,h.cap,fun ad ha hl=>by
   obtain⟨base,css,h1,h2,_⟩:=h.flat hl;rw[ha]at h1;injection h1 with h1;rw[h1];exact h2⟩
theorem lm.bytes{w}{F G}{l}{css}(h:lm ji 1 w F l css):lm ji 1 w G l css:=gp.imp (fun _ _ h=>h) h
theorem Own.bytes{w}{F G}{e}{B}{s}{l}(h:Own ji 1 e B w F s l):Own ji 1 e B w G s l:=by
 rcases h with h | ⟨g,css,tail,h1,h2,h4,h5,h6,h7,h9,h8⟩
 ·exact .inl h
 ·exact .inr ⟨g,css,tail,h1,h2,h4,h5,h6,h7,h9,lm.bytes h8⟩
def rInt:Rp Int:=fun _ _ x cs=>cs=[.int .i64 x]/\ry x
theorem bN:rInt.Ok where
 keep h _:=h
 inHeap h:=h
 mono h _:=h
 one h v hv:=by
  rw[h.1]at hv;simp at hv;subst hv;rfl
structure OnlyP (F:Nat->Prop) (w w':ay):Prop where
 os:w'.os=w.os
 tape:w'.tape=w.tape
 output:w'.output=w.output
 size:w.heap.size<=w'.heap.size
 block:∀k,k<w.heap.size->¬F k->w'.heap[k]? =w.heap[k]?
section
variable {w w' th:ay} {F G:Nat->Prop} {bs:List Nat}
theorem Only.p(h:Only bs w w')(hb:∀b,b∈bs->F b∨w.heap.size<=b):OnlyP F w w':=
 ⟨h.os,h.tape,h.output,h.size,fun k hk hn=>h.block k hk fun hm=>(hb k hm).elim hn fun h=>by omega⟩
theorem Only.p0(h:Only [] w w'):OnlyP F w w':=h.p (by simp)
theorem OnlyP.refl F w:OnlyP F w w:=(Only.refl [] w).p0
theorem OnlyP.mono(h:OnlyP F w w')(hb:∀k,k<w.heap.size->F k->G k):OnlyP G w w':=⟨h.os,h.tape,h.output,h.size,fun k hk hn=>h.block k hk fun hf=>hn (hb k hk hf)⟩
theorem OnlyP.trans(h:OnlyP F w w')(k:OnlyP G w' th)(hb:∀k,G k->F k∨w.heap.size<=k):OnlyP F w th:=
 ⟨k.os.trans h.os,k.tape.trans h.tape,k.output.trans h.output,bh h.size k.size,fun i hi hn=>
  (k.block i (cx hi h.size) fun hg=>(hb i hg).elim hn fun h=>by omega).trans (h.block i hi hn)⟩
theorem OnlyP.cz(h:OnlyP F w w')(k:Only [] w' th):OnlyP F w th:=h.trans (k.p0 (F:=fun _=>False)) fun _ h=>h.elim
theorem Only.pd(h:Only [] w w')(k:OnlyP F w' th):OnlyP F w th:=(h.p0 (F:=F)).trans k fun _ h=>.inl h
theorem OnlyP.only(h:OnlyP F w w')(hb:∀k,F k->w.heap.size<=k):Only [] w w':=
 ⟨h.os,h.tape,h.output,h.size,fun k hk _=>h.block k hk fun hf=>by have:=hb k hf;omega⟩
theorem OnlyP.aeg(h:OnlyP F w w')(hb:∀k,F k->k∈bs∨w.heap.size<=k):Only bs w w':=
 ⟨h.os,h.tape,h.output,h.size,fun k hk hn=>h.block k hk fun hf=>(hb k hf).elim hn fun h=>by omega⟩
theorem OnlyP.same(h:OnlyP F w w')(hl:∀x,x∈bs->x<w.heap.size/\¬F x):ci bs w w':=fun x hx=>h.block x (hl x hx).1 (hl x hx).2
theorem OnlyP.blk(h:OnlyP F w w'){b}{t}{cs}(hb:Blk w b t cs)(hn:¬F b):Blk w' b t cs:=(h.block b hb.lt hn).trans hb
end
section
variable {α:Type} {r:Rp α} {size:Nat} {w w':ay} {F G:Nat->Prop} {s:Sl} {xs:List α} {e:TypeId} {B:Nat} {bs:List Nat}
theorem SliceF.only(hr:r.Ok)(h0:0<size)(h:SliceF r size w F s xs)(hO:Only bs w w')(hb:∀k,F k->k<w.heap.size->k∉bs):SliceF r size w' F s xs:=
 h.keep hr h0 fun k hF bX=>hO.block k bX (hb k hF bX)
theorem SliceF.mw(hr:r.Ok)(h0:0<size)(h:SliceF r size w F s xs)(hO:OnlyP G w w')(hb:∀k,F k->k<w.heap.size->¬G k):SliceF r size w' F s xs:=
 h.keep hr h0 fun k hF bX=>hO.block k bX (hb k hF bX)
theorem Rp.Ok.only(hr:r.Ok){x}{cs}(h:r w F x cs)(hO:Only bs w w')(hb:∀k,F k->k<w.heap.size->k∉bs):r w' F x cs:=hr.keep h fun k hF bX=>hO.block k bX (hb k hF bX)
theorem Xk{s}(h:SliceF r size w F s xs)(ha:s.a=none):xs=[]:=by
 have h0:=h.nil0 ha;have h1:=h.cap;have h2:=h.len;exact bO (by omega)
theorem lm.at(h:∃css,lm r size w F xs css):True:=trivial
theorem lm.setAt{css}(h:lm r size w F xs css) j {x} {c} (hc:c.length=size) (hx:r w F x c):lm r size w F (xs.set j x) (css.set j c):=gp.set j h ⟨hc,hx⟩
theorem ET{css:List _}{tail}:∀{n:Nat} {cs vs:List az},(∀c,c∈css->c.length=size)->css[n]? =some cs->vs.length=size->
  cD (css.flatten++tail) (n*size) vs=(css.set n vs).flatten++tail:=by
 induction css with
 | nil=>intro n cs vs _ h;simp at h
 | cons c css ih=>
  intro n cs vs hs hn hv;have hc:=hs c (by simp);cases n with
  | zero=>
   simp[cD,xX,dr,cr,bM,List.set_cons_zero,dj,bQ,hv];rw[<-hc,List.drop_left]
  | succ n=>
   have:=ih (fun d hd=>hs d (by simp[hd])) hn hv;have e:(n+1)*size=c.length+n*size:=by rw[eC,hc];omega
   simp only[cD]at this⊢;simp;rw[e,SL,eM,SM,<-this];simp
end
section
variable {α:Type} {r:Rp α} {size:Nat} {w w':ay} {F G:Nat->Prop} {s:Sl} {xs:List α} {e:TypeId} {B:Nat} {P:Program} {t ty:TypeId} {i:TypeInfo} {z v:az} {bytes:Nat} {x:α}
theorem jj(ht:P.underlying t=some (.slice e))(hi:P.info? e=some i)(hz:i.zero=some z)(qh:i.size=size)(UL:i.bytes=bytes)(M5:z.cells.size=size)(h0:0<size)(Av:0<bytes)(A4:1*size<=16777216)
  (hr:r.Ok) (hs:Own r size e B w F s xs) (hB:B<=w.heap.size) (hv:v.cells.toList.length=size) (hx:r w G x v.cells.toList) (hG:∀k,G k->k<w.heap.size->F k/\s.a≠some ⟨k,0,none⟩) (hm:(xs.length+1)*bytes<=140737488355328):
  ∃y w1,(Instr.buildSlice t 1 #[(0,v)]).run P w=.ok (Sl.v y) w1/\Only [] w w1/\∃s' w2,(Builtin.append_ #[t,t] ty #[Sl.v s,Sl.v y]).run P w1=.ok (Sl.v s') w2/\
   Own r size e B w2 (fun k=>F k∨w.heap.size<=k) s' (xs++[x])/\(∃gs,Only gs w1 w2/\∀g,g∈gs->s.a=some ⟨g,0,none⟩/\B<=g/\g<w.heap.size)/\(s'.a=s.a∨∃g,s'.a=some ⟨g,0,none⟩/\w.heap.size<=g):=by
 obtain⟨y,w1,k1,k2,k3,k4,k5,k6⟩:=kx (P:=P) (t:=t) (e:=e) (i:=i) (z:=z) (w:=w) (F:=fun k=>G k/\k<w.heap.size) (vs:=[v]) (parts:=#[_]) (len:=1) (xs:=[x]) (r:=r) (size:=size) ht hi hz qh h0 rfl rfl (by decide) A4 hr ⟨⟨hv,hr.inHeap hx⟩,trivial⟩;have ux:Own r size e B w1 (fun k=>F k∨w.heap.size<=k) s xs:=((hs.inHeap hr).keep hr fun k _ bX=>k3.block k bX (by simp)).mono hr fun k hk=>.inl hk.1;have hy:=(k2.slice hr).mono hr (G:=fun k=>(F k∨w.heap.size<=k)/\s.a≠some _) fun k hk=>by
  rcases hk with⟨hk,bX⟩ | ⟨hk,_⟩
  ·exact⟨.inl (hG k hk bX).1,(hG k hk bX).2⟩
  ·exact⟨.inr hk,fun ha=>by have:=(hs.blk ha).2;dsimp only at this;omega⟩
 obtain⟨s',w2,g1,g2,gs,g3,g4,g5⟩:=uF (ty:=ty) ht hi hz qh UL M5 hr ux hy (bh hB k3.size) hm Av;refine⟨y,w1,k1,k3,s',w2,g1,g2,⟨gs,g3,fun g hg=>⟨(g4 g hg).1,(g4 g hg).2.1,(hs.blk (g4 g hg).1).2⟩⟩,?_⟩;rcases g5 with h | h
 ·exact .inl h
 ·exact .inr ⟨_,h,k3.size⟩
theorem Own.store(hr:r.Ok)(hs:Own r size e B w F s xs){n}(hn:n<xs.length){x}{vs}(hv:vs.length=size)(hx:r w G x vs)(hG:∀k,G k->k<w.heap.size->F k/\s.a≠some ⟨k,0,none⟩)(h0:0<size):
  ∃g cells,s.a=some ⟨g,0,none⟩/\dL s n size ⟨g,n*size,none⟩/\Blk w g e cells/\n*size+size<=cells.length/\
   ∀w',Only [g] w w'->Blk w' g e (cD cells (n*size) vs)->Own r size e B w' F s (xs.set n x):=by
 rcases hs with⟨rfl,rfl⟩ | ⟨g,css,tail,h1,h2,h4,h5,h6,h7,h9,h8⟩
 ·simp at hn
 have qf:=h8.len;have hcn:n<css.length:=by omega
 have LB:=pA h8.sz;have ma:=by
  have:=jg size (show n+1<=css.length by omega);rw[eC]at this;omega
 refine⟨g,_,h1,⟨_,h1,by omega,by omega,by rw[fV,aX,bM]⟩,h4,by rw[aU];omega,fun w' hO hb=>.inr ⟨g,css.set n vs,tail,h1,h2,?_,h5,by rw[ii];exact h6,h7,h9,?_⟩⟩
 ·rw[ET h8.sz (aV hcn) hv]at hb;exact hb
 ·refine lm.setAt (h8.keep hr fun k hk bX=>hO.block k bX (by simpa using hk.2)) n hv (hr.keep (w:=w) (F:=fun k=>F k/\k≠g) ?_ fun k hk bX=>hO.block k bX (by simpa using hk.2));refine hr.mono (hr.inHeap hx) fun k hk=>?_;obtain⟨p1,p2⟩:=hG k hk.1 hk.2;exact⟨p1,fun e=>p2 (by rw[h1,e])⟩
theorem L1(ht:P.underlying t=some (.slice e))(hi:P.info? e=some i)(r:Rp α) size w F:
  ∃y w1,(Instr.buildSlice t 0 #[]).run P w=.ok (Sl.v y) w1/\Own r size e w.heap.size w1 F y []/\Only [] w w1:=
 ⟨⟨some _,0,0⟩,_,Hy w ht hi,.inr ⟨w.heap.size,[],[],rfl,aY _,Blk.alloc w e [],by simp,rfl,aY _,bA _,trivial⟩,Only.alloc _ _⟩
end
theorem Own.akD{α}{r}{size}{w}{F}{s}{xs}{e}{B}(hr:r.Ok)(hs:Own r size e B w F s xs){n:Nat}{x:α}(hx:xs[n]? =some x):
  ∃g cells cs,s.a=some ⟨g,0,none⟩/\dL s n size ⟨g,n*size,none⟩/\Blk w g e cells/\cs.length=size/\Cells w ⟨g,n*size,none⟩ cs/\r w (fun k=>F k/\k≠g) x cs/\
   ∀off v y G,off<size->r w G y (cs.set off v)->(∀k,G k->k<w.heap.size->F k/\k≠g)->
    n*size+off+1<=cells.length/\∀w',Only [g] w w'->Blk w' g e (cD cells (n*size+off) [v])->Own r size e B w' F s (xs.set n y):=by
 rcases hs with⟨rfl,rfl⟩ | ⟨g,css,tail,h1,h2,h4,h5,h6,h7,h9,h8⟩
 ·simp at hx
 obtain⟨cs,k1,k2,k3⟩:=h8.get hx;have qf:=h8.len;have hn:=(aZ.1 hx).1;have LB:=pA h8.sz;have ma:=by
  have:=jg size (show n+1<=css.length by omega);rw[eC]at this;omega
 refine⟨g,_,cs,h1,⟨_,h1,by omega,by omega,by rw[fV,aX,bM]⟩,h4,k2,h4.cells _ _ fun j v hj=>?_,k3,fun off v y G ho hy hG=>⟨by rw[aU];omega,fun w' hO hb=>.inr ⟨g,css.set n (cs.set off v),tail,h1,h2,?_,h5,by rw[ii];exact h6,h7,h9,?_⟩⟩⟩
 ·have:=CI h8.sz k1 hj;rw[bJ (aZ.1 this).1];exact this
 ·rw[Hx (by rw[aU];omega),ES h8.sz k1 ho]at hb;exact hb
 ·refine lm.setAt (h8.keep hr fun k hk bX=>hO.block k bX (by simpa using hk.2)) n (by rw[ii];exact k2) ?_;refine hr.mono (hr.keep (hr.inHeap hy) fun k hk bX=>hO.block k bX (by simpa using(hG k hk.1 hk.2).2)) fun k hk=>hG k hk.1 hk.2
theorem gp.aeh{α β}{P}{f:α->β}:∀{xs:List α} {css:List _},gp P (xs.map f) css↔gp (fun x cs=>P (f x) cs) xs css
 | [],[]=>Iff.rfl
 | x::xs,c::cs=>by simp[bF,gp,gp.aeh (xs:=xs) (css:=cs)]
 | [],_::_=>Iff.rfl
 | _::_,[]=>Iff.rfl
theorem gp.Uy{α}{P Q}:∀{xs:List α} {css:List _},(∀x c,x∈xs->P x c->Q x c)->gp P xs css->gp Q xs css
 | [],[],_,_=>trivial
 | x::xs,c::cs,hi,h=>⟨hi _ _ (by simp) h.1,gp.Uy (xs:=xs) (css:=cs) (fun y d hy=>hi y d (by simp[hy])) h.2⟩
 | [],_::_,_,h=>h.elim
 | _::_,[],_,h=>h.elim
theorem Own.map{α β}{r:Rp α}{q:Rp β}{size}{w}{F G}{s}{xs}{e}{B} f (h:Own r size e B w F s xs) (hf:∀g x cs,x∈xs->r w (fun k=>F k/\k≠g) x cs->q w (fun k=>G k/\k≠g) (f x) cs):Own q size e B w G s (xs.map f):=by
 rcases h with⟨rfl,rfl⟩ | ⟨g,css,tail,h1,h2,h4,h5,h6,h7,h9,h8⟩
 ·exact .inl ⟨rfl,rfl⟩
 ·exact .inr ⟨g,css,tail,h1,h2,h4,h5,by rw[bq];exact h6,h7,h9,gp.aeh.2 (gp.Uy (fun x c hx hc=>⟨hc.1,hf g x c hx hc.2⟩) h8)⟩
section
variable {P:Program} {w:ay}
theorem AP{z}(hz:∀v,v∈z->v.oneCell'=true)(h0:0<z.size) n:∀v,v∈(Builtin.zeroCells z n).toList->v.oneCell'=true:=fun v hv=>by
 have hv':=by simpa using hv
 simp[Builtin.zeroCells,Array.mem_map,Array.mem_range]at hv';obtain⟨i,hi,rfl⟩:=hv';have bX:i % z.size<z.size:=Nat.mod_lt _ h0;rw[oy z _ bX];exact hz _ (Array.getElem_mem bX)
theorem AQ{t e ty}{z}(ht:P.underlying t=some (.slice e))(hv:∀w,(zeroValue e).run P w=.ok z w)(h1:∀v,v∈z.cells->v.oneCell'=true)(UM:0<z.cells.size){g o n c}{bt}{cs}(hn:0<n)
  (hb:Blk w g bt cs) (IE:o+n*z.cells.size<=cs.length):
  (Builtin.clear_ #[t] ty #[.slice (some ⟨g,o,none⟩) n c]).run P w=.ok (.tuple #[]) (w.setRow g (cs.take o++(Builtin.zeroCells z.cells n).toList++cs.drop (o+n*z.cells.size)).toArray):=by
 have hl:(Builtin.zeroCells z.cells n).toList.length=n*z.cells.size:=by rw[fe,size_zeroCells]
 have nA:=run_storeCells_at P g o bt (Builtin.zeroCells z.cells n).toList 0 cs.toArray w hb (by rw[hl];simpa using IE) (AP h1 UM n);simp[fx,hl,im]at nA;obtain⟨m,rfl⟩:∃m,n=m+1:=⟨n-1,by omega⟩
 simp[Builtin.clear_,run_underlying ht,hv,nA]
theorem Own.clear{α}{r:Rp α}{size}{F}{s}{xs}{e}{B}{t ty}{z}(hr:r.Ok)(h0:0<size)(ht:P.underlying t=some (.slice e))(hv:∀w,(zeroValue e).run P w=.ok z w)(h1:∀v,v∈z.cells->v.oneCell'=true)(M5:z.cells.size=size)
  (hs:Own r size e B w F s xs) {i} (hi:i<xs.length):
  ∃w' g,(Builtin.clear_ #[t] ty #[Sl.v (Sl.cut s i s.n s.c size)]).run P w=.ok (.tuple #[]) w'/\s.a=some ⟨g,0,none⟩/\Only [g] w w'/\Own r size e B w' F (Sl.cut s 0 i s.c size) (xs.take i):=by
 rcases hs with⟨rfl,rfl⟩ | ⟨g,css,tail,a1,a2,a4,a5,a6,a7,a9,a8⟩
 ·simp at hi
 obtain⟨sa,sn,sc⟩:=s;dsimp only at a1 a5 a6 a7 a9;subst a1;have LB:=a8.Iw;have Rh:Sl.cut ⟨some ⟨g,0,none⟩,sn,sc⟩ i sn sc size=⟨some ⟨g,i*size,none⟩,sn-i,sc-i⟩:=by
  simp[Sl.cut];rw[if_neg (by omega)];simp[dk,fV,bM]
 have e1:i*size+(sn-i)*size=sn*size:=by rw[<-eC];congr 1;omega
 have hO:=Only.setRow w g (((css.flatten++tail).take (i*size)++(Builtin.zeroCells z.cells (sn-i)).toList++(css.flatten++tail).drop (i*size+(sn-i)*z.cells.size)).toArray);refine⟨_,g,by rw[Rh];exact AQ (P:=P) (w:=w) (t:=t) (ty:=ty) ht hv h1 (by omega) (g:=g) (o:=i*size) (n:=sn-i) (c:=sc-i) (by omega) a4 (by rw[M5,e1,aU,LB,a6];omega),rfl,hO,?_⟩;have aev:Sl.cut ⟨some ⟨g,0,none⟩,sn,sc⟩ 0 i sc size=⟨some ⟨g,0,none⟩,i,sc⟩:=by
  simp only[Sl.cut];split<;>simp[Addr.add]
 rw[aev];have og:(css.flatten++tail).take (i*size)=(css.take i).flatten:=by
  rw[N0 (by rw[LB,<-a6];exact jg _ (by omega)),LY a8.sz]
 refine .inr ⟨g,css.take i,(Builtin.zeroCells z.cells (sn-i)).toList++(css.flatten++tail).drop (i*size+(sn-i)*z.cells.size),rfl,a2,?_,?_,?_,by dsimp only;omega,a9,?_⟩
 ·have:=a4.setRow ((css.flatten++tail).take (i*size)++(Builtin.zeroCells z.cells (sn-i)).toList++(css.flatten++tail).drop (i*size+(sn-i)*z.cells.size));rw[bQ,og]at this;rw[og];simpa using this
 ·simp only[aU,cG,LB,<-a6,fe,size_zeroCells,a5,M5,e1];rw[dY,<-eC];congr 1;omega
 ·rw[dd];dsimp only;omega
 ·refine lm.keep hr (gp.take i a8) fun k hk bX=>hO.block k bX (by simpa using hk.2)
end
theorem Vw l m:((⟨List.toArray l⟩:ByteArray).toList==(⟨List.toArray m⟩:ByteArray).toList)=decide (l=m):=by
 by_cases h:l=m<;>simp[h]
end Go.Kt
namespace Go.Kt
open Go renaming World->ay,Value->az
open Go Go.RowKit Go.MapKept
set_option linter.unusedSimpArgs false
set_option linter.unusedVariables false
structure MapI (w:ay) (r:Nat) (m:Int->Option Int):Prop where
 mem:∃es clock,w.heap[r]? =some (.map es clock)/\(∀x,x∈es.toList->∃k v,x.key=.int .i64 k/\x.val=.int .i64 v)/\es.toList.Pairwise (fun x y=>x.key≠y.key)/\
  ∀k v,m k=some v↔∃x,x∈es.toList/\x.key=.int .i64 k/\x.val=.int .i64 v
section
variable {P:Program} {w w':ay} {r:Nat} {m:Int->Option Int} {mty kt et:TypeId}
theorem MapI.keep(h:MapI w r m)(hk:w'.heap[r]? =w.heap[r]?):MapI w' r m:=by
 obtain⟨es,c,h1,h2⟩:=h.mem;exact⟨es,c,hk.trans h1,h2⟩
theorem MapI.lt(h:MapI w r m):r<w.heap.size:=by
 obtain⟨es,c,h1,h2⟩:=h.mem;exact(fX.1 h1).1
theorem MapI.only(h:MapI w r m){bs}(hO:Only bs w w')(hn:r∉bs):MapI w' r m:=h.keep (hO.block r h.lt hn)
theorem uH{w}{r}{o o'}(hb:w.heap[r]? =some o):Only [r] w {w with heap:=w.heap.setIfInBounds r o'}:=
 ⟨rfl,rfl,rfl,by simp,fun k _ hn=>(heap_set hb).2 k (by simpa using hn)⟩
theorem Hz{α:Type}{l:List α}{j}{f}{e}(h:l[j]? =some e):l.modify j f=l.set j (f e):=by
 apply jh;intro i;rw[List.getElem?_modify,I9];by_cases rk:j=i
 ·subst rk;rw[if_pos rfl,if_pos (aZ.1 h).1,h];simp
 ·cases l[i]? <;>simp[rk]
end
end Go.Kt
namespace Go.Kt
open Go renaming World->ay,Value->az
open Go Go.RowKit
set_option linter.unusedSimpArgs false
set_option linter.unusedVariables false
@[reducible] def T(l:List UInt8):ByteArray:=⟨l.toArray⟩
theorem xB(s:ByteArray):s=T s.data.toList:=by
 obtain⟨⟨l⟩⟩:=s;rfl
theorem dH(l:List UInt8):(T l).size=l.length:=by simp[T,ByteArray.size]
theorem wV(l:List UInt8)(i:Nat):(T l)[i]? =l[i]? :=by
 by_cases h:i<l.length
 ·rw[aV h,getElem?_pos (T l) i (by rw[dH];exact h)];rfl
 ·rw[du (by omega),getElem?_neg (T l) i (by rw[dH];exact h)]
theorem yH(l:List UInt8)(a b:Nat):(T l).extract a b=T ((l.drop a).take (b-a)):=by
 rw[xB ((T l).extract a b),Lib.extract_data]
theorem lf(l m:List UInt8):T l++T m=T (l++m):=by
 apply ByteArray.ext;simp[T]
theorem mf(l m:List UInt8):((T l).toList==(T m).toList)=decide (l=m):=Vw l m
def tt(us:Nat->az):List (Nat×az)->Nat->az
 | [],i=>us i
 | (k,v)::r,i=>bif Nat.beq k i then v else tt us r i
def wW:List (Nat×az)->Nat->Option az
 | [],_=>none
 | (k,v)::r,i=>bif Nat.beq k i then some v else wW r i
def SZ(us:Nat->az)(l:List (Nat×az)):Nat->Nat->List az
 | 0,_=>[]
 | n+1,i=>tt us l i::SZ us l n (i+1)
def fr(n:Nat)(us:Nat->az)(l:List (Nat×az)):Act:=⟨(SZ us l n 0).toArray,[]⟩
def evO(n:Nat)(l:List (Nat×az)):Operand->Option az
 | .tmp k=>bif Nat.blt k n then wW l k else none
 | .const v=>some v
 | .global g=>some (.pointer (some ⟨g,0,none⟩))
 | .func f=>some (.func (.func f) #[] #[])
def pl:Option Tmp->az->List (Nat×az)->List (Nat×az)
 | some k,v,l=>(k,v)::l
 | none,_,l=>l
def CJ:Nat->List az->List (Nat×az)
 | _,[]=>[]
 | i,v::r=>(i,v)::CJ (i+1) r
section
variable {n0:Nat} {us0:Nat->az} {l0:List (Nat×az)}
theorem nc(us:Nat->az)(l:List (Nat×az)):∀n i,(SZ us l n i).length=n
 | 0,_=>rfl
 | n+1,i=>by simp only[SZ,bp,nc us l n (i+1)]
theorem lU(us:Nat->az)(l:List (Nat×az)):∀n i k,k<n->(SZ us l n i)[k]? =some (tt us l (i+k))
 | 0,_,_,h=>by omega
 | n+1,i,0,_=>rfl
 | n+1,i,k+1,h=>by
  simp only[SZ,de];rw[lU us l n (i+1) k (by omega),show i+1+k=i+(k+1) by omega]
theorem sK{us:Nat->az}:∀{l:List (Nat×az)} {k:Nat} {v:az},wW l k=some v->tt us l k=v
 | [],_,_,h=>by cases h
 | (j,u)::r,k,v,h=>by
  simp only[wW,tt]at h⊢;cases hb:Nat.beq j k with
  | true=>rw[hb]at h;simpa using h
  | false=>rw[hb]at h;exact sK (l:=r) (by simpa using h)
theorem CK{us:Nat->az}:∀{l:List (Nat×az)} {k:Nat},wW l k=none->tt us l k=us k
 | [],_,_=>rfl
 | (j,u)::r,k,h=>by
  simp only[wW,tt]at h⊢;cases hb:Nat.beq j k with
  | true=>rw[hb]at h;simp at h
  | false=>rw[hb]at h;exact CK (l:=r) (by simpa using h)
theorem Od{k:Nat}(hk:k<n0):(fr n0 us0 l0).eval (.tmp k)=tt us0 l0 k:=by
 show(SZ us0 l0 n0 0).toArray.getD k undef=_;rw[Array.getD_eq_getD_getElem?,iM,lU _ _ _ _ _ hk,bM];rfl
theorem evE{x:Operand}{v:az}(h:evO n0 l0 x=some v):(fr n0 us0 l0).eval x=v:=by
 cases x with
 | tmp k=>
  simp only[evO]at h;cases hb:Nat.blt k n0 with
  | false=>rw[hb]at h;cases h
  | true=>
   rw[hb]at h;rw[Od (cP hb)];exact sK h
 | const u=>simpa[evO,Act.eval]using h
 | global g=>simpa[evO,Act.eval]using h
 | func f=>simpa[evO,Act.eval]using h
theorem uI{us:Nat->az}{l:List (Nat×az)}{k i:Nat}{v:az}(h:k≠i):tt us ((k,v)::l) i=tt us l i:=by
 have:Nat.beq k i=false:=by
  cases hb:Nat.beq k i with
  | false=>rfl
  | true=>exact absurd (bW hb) h
 simp only[tt,this,tH]
theorem uJ{us:Nat->az}{l:List (Nat×az)}{k:Nat}{v:az}:tt us ((k,v)::l) k=v:=by
 simp only[tt,Nat.beq_refl,nI]
theorem ab2{k:Nat}{v:az}:(fr n0 us0 l0).put (some k) v=fr n0 us0 ((k,v)::l0):=by
 unfold fr;rw[f0];congr 2;apply jh;intro i;rw[I9,nc];by_cases hi:i<n0
 ·rw[lU _ _ _ _ _ hi,lU _ _ _ _ _ hi,bM];split
  ·rename_i h;subst h;rw[if_pos hi,uJ]
  ·rename_i h;rw[uI h]
 ·rw[du (by rw[nc];omega),du (by rw[nc];omega)];split
  ·rename_i h;subst h;rw[if_neg hi]
  ·rfl
theorem Bl:∀(args:List az) (j i:Nat),tt (fun _=>undef) (CJ j args) i=if j<=i then(args[i-j]?).getD undef else undef
 | [],j,i=>by simp[CJ,tt]
 | v::r,j,i=>by
  simp only[CJ];by_cases rk:j=i
  ·subst rk;rw[uJ,if_pos (aY _)];simp
  ·rw[uI rk,Bl r (j+1) i];by_cases ma:j<=i
   ·rw[if_pos ma,if_pos (by omega),show i-j=(i-(j+1))+1 by omega,de]
   ·rw[if_neg ma,if_neg (by omega)]
end
section
variable {P:Program} {ops:Array Oper} {Q:Exit->Act->ay->Prop} {rest:List Oper} {w w':ay} {n0:Nat} {us0:Nat->az} {l0:List (Nat×az)}
def asB:az->Option Bool
 | .bool b=>some b
 | _=>none
theorem EU{fz:List Oper}{j d:Nat}{oj:Oper}{v:az}(h2:gM fz j=some oj)(h3:oj.dst=some d)(h4:evO n0 l0 (.tmp d)=some v):
  yielded fz.toArray (fr n0 us0 l0).tmps j=asB v:=by
 rw[jC]at h2;have hd:d<n0:=by
  simp only[evO]at h4;cases hb:Nat.blt d n0 with
  | false=>rw[hb]at h4;cases h4
  | true=>exact cP hb
 have h5:=evE (us0:=us0) h4;rw[Od hd]at h5;have:(fr n0 us0 l0).tmps[d]? =some v:=by
  show(SZ us0 l0 n0 0).toArray[d]? =_;rw[iM,lU _ _ _ _ _ hd,bM,h5]
 simp only[yielded,iM,h2,lP,h3,this];cases v<;>rfl
theorem wtF{o oj:Oper}{fz:List Oper}{j d:Nat}{want b r:Bool}(h1:o.guard=some (j,want))(h2:gM fz j=some oj)(h3:oj.dst=some d)
  (h4:evO n0 l0 (.tmp d)=some (.bool b)) (h5:(b==want)=r):Region.wanted o (yielded fz.toArray (fr n0 us0 l0).tmps)=r:=by
 subst h5;have e:=EU (us0:=us0) h2 h3 h4;simp only[Region.wanted,h1,e,asB];cases b<;>cases want<;>rfl
theorem wuF{o oj:Oper}{fz:List Oper}{j d:Nat}{want:Bool}(h1:o.guard=some (j,want))(h2:gM fz j=some oj)(h3:oj.dst=some d)
  (h4:evO n0 l0 (.tmp d)=some undef):Region.wanted o (yielded fz.toArray (fr n0 us0 l0).tmps)=false:=by
 have e:=EU (us0:=us0) h2 h3 h4;simp[Region.wanted,h1,e,undef,asB]
theorem pg{x y:Option Addr}(h:x=y):some (Value.pointer x)=some (.pointer y):=by rw[h]
theorem ag{x y:Addr}(h:x=y):some (Value.pointer (some x))=some (.pointer (some y)):=by rw[h]
theorem bg{x y:Bool}(h:x=y):some (Value.bool x)=some (.bool y):=by rw[h]
theorem sv{k:Tmp}{op:Op}{t':TypeId}{p:String}{af:Array Edge}{v:az}(hr:(execOp (fr n0 us0 l0).eval ⟨some k,op,t',p,af,none⟩).run P w=.ok (.value v) w)
 (h:wpList P ops Q rest (fr n0 us0 ((k,v)::l0)) w):wpList P ops Q (⟨some k,op,t',p,af,none⟩::rest) (fr n0 us0 l0) w:=Cv v (wn rfl) hr ab2 h
theorem sn{op:Op}{t':TypeId}{p:String}{af:Array Edge}{v:az}(hr:(execOp (fr n0 us0 l0).eval ⟨none,op,t',p,af,none⟩).run P w=.ok (.value v) w)
 (h:wpList P ops Q rest (fr n0 us0 l0) w):wpList P ops Q (⟨none,op,t',p,af,none⟩::rest) (fr n0 us0 l0) w:=Cv v (wn rfl) hr (f3 _ _) h
end
end Go.Kt
namespace Go.Proofs.YtbkjcdocjfknfaaGreatDoor.Vc
open Go.Value renaming int->O,string->ah,pointer->ai,agg->aj,tuple->ak,bool->ao
open Go.IntKind renaming i64->ae,wrap->av
open Go.Ending renaming returned->aq
open _root_.ByteArray renaming mk->ar
open _root_.Go.Proofs.Tryz renaming prog->au
open Go.Instr renaming buildSlice->aw
open Go renaming World->ay,Value->az,Calls->aB
open Go.Kt renaming Only->aA,SliceF->aD,Cells->aE,OnlyP->aF,Blk->aH
open Go Go.RowKit Go.Kt
set_option linter.unusedSimpArgs false
set_option linter.unusedVariables false
set_option maxRecDepth 100000
set_option maxHeartbeats 40000000
attribute [local irreducible] wpList
end Go.Proofs.YtbkjcdocjfknfaaGreatDoor.Vc
namespace Go.Kt.V
open Go renaming World->ay,Value->az
open Go Go.RowKit Go.Kt
set_option linter.unusedSimpArgs false
set_option linter.unusedVariables false
structure OV where
 v:az
 one:v.oneCell'=true
inductive SV where
 | int (k:IntKind) (n:Int)
 | il (k:IntKind) (n:Int)
 | bl (b:Bool)
 | bt (t:Bool)
 | str (s:ByteArray)
 | np
 | ptr (p:Option Addr)
 | ad (a:Addr)
 | box (i o:Nat)
 | sl (s:Sl)
 | nsl
 | map (m:Option Nat)
 | raw (v:OV)
 | fn (f:FuncId) (fs cs:SV)
 | agg (l:SV)
 | tup (l:SV)
 | un
 | e
 | c (h t:SV)
def pB(β:Nat->Nat):SV->List az
 | .int k n=>[.int k n]
 | .il k n=>[.int k n]
 | .bl b=>[.bool b]
 | .bt t=>[.bool t]
 | .str s=>[.string s]
 | .np=>[.pointer none]
 | .ptr p=>[.pointer p]
 | .ad a=>[.pointer (some a)]
 | .box i o=>[.pointer (some ⟨β i,o,none⟩)]
 | .sl s=>[s.v]
 | .nsl=>[Sl.v Sl.nil]
 | .map m=>[.map m]
 | .raw v=>[v.v]
 | .fn f fs cs=>[.func (.func f) (pB β fs).toArray (pB β cs).toArray]
 | .agg l=>[.agg (pB β l).toArray]
 | .tup l=>[.tuple (pB β l).toArray]
 | .un=>[undef]
 | .e=>[]
 | .c h t=>(pB β h).headD undef::pB β t
def val(β:Nat->Nat)(s:SV):az:=(pB β s).headD undef
def cu(β:Nat->Nat)(l:List SV):List az:=l.map (val β)
def mg:SV->List SV
 | .c h t=>h::mg t
 | _=>[]
def mA:List SV->SV
 | []=>.e
 | s::r=>.c s (mA r)
def AR:SV->Bool
 | .c _ t=>AR t
 | .e=>true
 | _=>false
theorem qx β:∀l,pB β (mA l)=cu β l
 | []=>rfl
 | s::r=>by simp only[mA,pB,qx β r];rfl
theorem lV β:∀{s:SV},AR s=true->pB β s=cu β (mg s)
 | .e,_=>rfl
 | .c h t,hl=>by simp only[pB,mg,lV β (s:=t) hl];rfl
def cln(g:Nat->Bool):SV->Bool
 | .box i _=>g i
 | .fn _ fs cs=>cln g fs&&cln g cs
 | .agg l=>cln g l
 | .tup l=>cln g l
 | .c h t=>cln g h&&cln g t
 | _=>true
def gZ(g:Nat->Bool):List SV->Bool
 | []=>true
 | s::r=>cln g s&&gZ g r
theorem lp{β β'}{g}(h:∀i,g i=true->β i=β' i):∀s,cln g s=true->pB β s=pB β' s
 | .int ..,_ | .il ..,_ | .bl ..,_ | .bt ..,_ | .str ..,_ | .np,_ | .ptr ..,_ | .ad ..,_ | .sl ..,_ | .nsl,_ | .map ..,_ | .raw ..,_ | .un,_ | .e,_=>rfl
 | .box i o,hc=>by simp[pB,h i hc]
 | .fn f fs cs,hc=>by
  simp[cln,aQ]at hc;simp[pB,lp h fs hc.1,lp h cs hc.2]
 | .agg l,hc=>by simp[pB,lp h l hc]
 | .tup l,hc=>by simp[pB,lp h l hc]
 | .c s t,hc=>by
  simp[cln,aQ]at hc;simp[pB,lp h s hc.1,lp h t hc.2]
theorem iz{β β'}{g}(h:∀i,g i=true->β i=β' i) s (hc:cln g s=true):val β s=val β' s:=by
 unfold val;rw[lp h s hc]
theorem gH{β β'}{g}(h:∀i,g i=true->β i=β' i):∀l,gZ g l=true->cu β l=cu β' l
 | [],_=>rfl
 | s::r,hc=>by
  simp[gZ,aQ]at hc;have:=gH h r hc.2;simp only[cu,bF]at this⊢;rw[iz h s hc.1,this]
theorem fk β l:(cu β l).length=l.length:=by rw[cu,bq]
def Oe:az->Option SV
 | .int k n=>some (.il k n)
 | .bool b=>some (.bl b)
 | .string s=>some (.str s)
 | .pointer none=>some .np
 | .slice none 0 0=>some .nsl
 | .map m=>some (.map m)
 | v=>if h:v.oneCell'=true then some (.raw ⟨v,h⟩)else none
def AU:List az->Option SV
 | []=>some .e
 | v::r=>match Oe v,AU r with
  | some s,some l=>some (.c s l)
  | _,_=>none
def ofV:az->Option SV
 | .agg cs=>(AU cs.toList).map .agg
 | .tuple cs=>(AU cs.toList).map .tup
 | .func (.func f) fs cs=>match AU fs.toList,AU cs.toList with
  | some a,some b=>some (.fn f a b)
  | _,_=>none
 | v=>Oe v
theorem yI{v}{s}(h:Oe v=some s) β:val β s=v:=by
 unfold Oe at h;split at h
 all_goals first | (simp at h;subst h;rfl) | skip
 split at h
 ·simp at h;subst h;rfl
 ·cases h
theorem rC β:∀{l:List az} {s:SV},AU l=some s->pB β s=l
 | [],s,h=>by simp[AU,ba]at h;subst h;rfl
 | v::r,s,h=>by
  simp[AU]at h;split at h
  ·rename_i s' l' h1 h2;simp at h;subst h;simp only[pB,rC β h2];rw[show(pB β s').headD undef=v from yI h1 β]
  ·cases h
theorem Je{v}{s}(h:ofV v=some s) β:val β s=v:=by
 unfold ofV at h;split at h
 ·rename_i cs;cases hl:AU cs.toList with
  | none=>rw[hl]at h;cases h
  | some l=>
   rw[hl]at h;simp at h;subst h;simp[val,pB,yA,rC β hl]
 ·rename_i cs;cases hl:AU cs.toList with
  | none=>rw[hl]at h;cases h
  | some l=>
   rw[hl]at h;simp at h;subst h;simp[val,pB,yA,rC β hl]
 ·split at h
  ·rename_i a b h1 h2;simp at h;subst h;simp[val,pB,yA,rC β h1,rC β h2]
  ·cases h
 ·exact yI h β
structure jN where
 blk:Option Nat
 ty:TypeId
 cells:List SV
 stp:Nat
 ok:Bool
 esc:Bool
 sh:Bool
structure St where
 n:Nat
 fr:List (Nat×Nat×SV)
 bx:List jN
 w0:ay
 mv:Bool
 dt:List Nat
 ct:Nat
 df:List (Nat×List az×List az)
def Vx(l:List (Nat×List az×List az)):List Deferred:=l.map fun d=>{target:=.fn (.func d.1) d.2.2.toArray,args:=d.2.1.toArray}
def frD(n:Nat)(us:Nat->az)(l:List (Nat×az))(D:List Deferred):Act:=⟨(SZ us l n 0).toArray,D⟩
def dK:List (Nat×Nat×SV)->Nat->Option (Nat×SV)
 | [],_=>none
 | (k,s)::r,i=>bif Nat.beq k i then some s else dK r i
def St.get(st:St)(i:Nat):Option SV:=bif Nat.blt i st.n then(dK st.fr i).map (·.2)else none
def St.ev(st:St):Operand->Option SV
 | .tmp k=>st.get k
 | .const v=>ofV v
 | .global g=>some (.ad ⟨g,0,none⟩)
 | .func f=>some (.fn f .e .e)
def St.Lp(st:St):List Operand->Option (List SV)
 | []=>some []
 | x::r=>match st.ev x,st.Lp r with
  | some v,some vs=>some (v::vs)
  | _,_=>none
def St.Sq(st:St):List (Nat×Operand)->Option (List (Nat×SV))
 | []=>some []
 | (i,x)::r=>match st.ev x,st.Sq r with
  | some v,some vs=>some ((i,v)::vs)
  | _,_=>none
def St.put(st:St)(d:Option Tmp)(v:SV):St:=match d with
 | some k=>{st with fr:=(k,st.ct,v)::st.fr,ct:=st.ct+1}
 | none=>st
def cV:List jN->Nat->Option jN
 | [],_=>none
 | b::_,0=>some b
 | _::r,n+1=>cV r n
def L2:List jN->Nat->jN->List jN
 | [],_,_=>[]
 | _::r,0,b=>b::r
 | a::r,n+1,b=>a::L2 r n b
def cv(β:Nat->Nat)(l:List (Nat×Nat×SV)):List (Nat×az):=l.map fun p=>(p.1,val β p.2.2)
theorem kD β:∀l i,wW (cv β l) i=(dK l i).map fun p=>val β p.2
 | [],_=>rfl
 | (k,s)::r,i=>by
  simp[cv,bF,wW,dK];cases Nat.beq k i with
  | true=>rfl
  | false=>exact kD β r i
structure aew (β:Nat->Nat) (w0 w:ay) (i:Nat) (b:jN):Prop where
 blk:Blk w (β i) b.ty (cu β b.cells)
 at_:∀k,b.blk=some k->β i=k
 new:b.blk=none->w0.heap.size<=β i
structure Rep (β:Nat->Nat) (st:St) (a:Act) (w:ay):Prop where
 fr:∃us,a=frD st.n us (cv β st.fr) (Vx st.df)
 bx:∀i b,cV st.bx i=some b->b.ok=true->aew β st.w0 w i b
 ne:∀i j bi bj,cV st.bx i=some bi->cV st.bx j=some bj->bi.ok=true->bj.ok=true->i≠j->β i≠β j
 only:Only (st.dt.map β) st.w0 w
 still:st.mv=false->w=st.w0
structure Ext (s t:St):Prop where
 n:t.n=s.n
 ct:s.ct<=t.ct
 fr:∀i k v,dK t.fr i=some (k,v)->k<s.ct->dK s.fr i=some (k,v)
 bx:∀i b',cV t.bx i=some b'->b'.ok=true->b'.stp<s.ct->∃b,cV s.bx i=some b/\b.ok=true/\b.cells=b'.cells/\b.ty=b'.ty/\b.stp=b'.stp/\(∀k,b.blk=some k->b'.blk=some k)
 ps:∀i b,cV s.bx i=some b->∃b',cV t.bx i=some b'/\b'.ty=b.ty/\b'.ok=b.ok/\∀k,b.blk=some k->b'.blk=some k
 df:∃l,t.df=l++s.df
theorem Et{s:St}:∃l,s.df=l++s.df:=⟨[],rfl⟩
theorem Og{l}:∀i b,cV l i=some b->∃b',cV l i=some b'/\b'.ty=b.ty/\b'.ok=b.ok/\∀k,b.blk=some k->b'.blk=some k:=fun i b h=>⟨b,h,rfl,rfl,fun _ h=>h⟩
theorem Ext.refl s:Ext s s:=⟨rfl,aY _,fun _ _ _ h _=>h,fun i b h ho _=>⟨b,h,ho,rfl,rfl,rfl,fun _ h=>h⟩,Og,Et⟩
theorem Ext.trans{s t u}(h:Ext s t)(k:Ext t u):Ext s u:=
 ⟨k.n.trans h.n,bh h.ct k.ct,fun i m v hl bX=>h.fr i m v (k.fr i m v hl (cx bX h.ct)) bX,fun i b'' hb ho hs=>by
  obtain⟨b',k1,k2,k3,k4,k6,k5⟩:=k.bx i b'' hb ho (cx hs h.ct);obtain⟨b,h1,h2,h3,h4,h6,h5⟩:=h.bx i b' k1 k2 (by rw[k6];exact hs);exact⟨b,h1,h2,h3.trans k3,h4.trans k4,h6.trans k6,fun m hm=>k5 m (h5 m hm)⟩,fun i b hb=>by
  obtain⟨b',h1,h2,h3,h4⟩:=h.ps i b hb;obtain⟨b'',k1,k2,k3,k4⟩:=k.ps i b' h1;exact⟨b'',k1,k2.trans h2,k3.trans h3,fun m hm=>k4 m (h4 m hm)⟩,by
  obtain⟨l,h1⟩:=h.df;obtain⟨m,k1⟩:=k.df;exact⟨m++l,by rw[k1,h1,bQ]⟩⟩
section
variable {β:Nat->Nat} {st:St} {a:Act} {w:ay}
theorem Rep.get(h:Rep β st a w){i}{s}(hg:st.get i=some s):a.eval (.tmp i)=val β s:=by
 obtain⟨us,rfl⟩:=h.fr;show(Kt.fr st.n us _).eval (.tmp i)=_;refine evE (n0:=st.n) (us0:=us) ?_;unfold St.get at hg;cases hb:Nat.blt i st.n with
 | false=>rw[hb]at hg;cases hg
 | true=>
  rw[hb,nI]at hg;simp only[evO,hb,nI,kD];cases hl:dK st.fr i with
  | none=>rw[hl]at hg;cases hg
  | some p=>
   rw[hl]at hg;simp at hg;rw[dk,hg]
theorem Rep.ev(h:Rep β st a w){x}{s}(hg:st.ev x=some s):a.eval x=val β s:=by
 cases x with
 | tmp k=>exact h.get hg
 | const v=>rw[Je hg];rfl
 | global g=>
  simp[St.ev,ba]at hg;subst hg;rfl
 | func f=>
  simp[St.ev,ba]at hg;subst hg;rfl
theorem Rep.Lp(h:Rep β st a w):∀{xs:List Operand} {l:List SV},st.Lp xs=some l->xs.map a.eval=cu β l
 | [],l,hg=>by simp[St.Lp,ba]at hg;subst hg;rfl
 | x::r,l,hg=>by
  simp[St.Lp]at hg;split at hg
  ·rename_i v vs hx hr;simp at hg;subst hg;rw[bF,h.ev hx,h.Lp hr];rfl
  ·cases hg
def Bm(β:Nat->Nat)(l:List (Nat×SV)):List (Nat×az):=l.map fun p=>(p.1,val β p.2)
theorem Rep.Sq(h:Rep β st a w):∀{xs:List _} {l:List _},st.Sq xs=some l->(xs.map fun q=>(q.1,a.eval q.2))=Bm β l
 | [],l,hg=>by simp[St.Sq,ba]at hg;subst hg;rfl
 | _::r,l,hg=>by
  simp[St.Sq]at hg;split at hg
  ·rename_i v vs hx hr;simp at hg;subst hg;rw[bF,h.Sq hr,h.ev hx];rfl
  ·cases hg
theorem St.evO{st:St} β {x} {s} (hg:st.ev x=some s):Kt.evO st.n (cv β st.fr) x=some (val β s):=by
 cases x with
 | tmp i=>
  have hg:st.get i=some s:=hg;unfold St.get at hg;cases hb:Nat.blt i st.n with
  | false=>rw[hb]at hg;cases hg
  | true=>
   rw[hb,nI]at hg;simp only[Kt.evO,hb,nI,kD];cases hl:dK st.fr i with
   | none=>rw[hl]at hg;cases hg
   | some p=>
    rw[hl]at hg;simp at hg;rw[dk,hg]
 | const v=>rw[Je hg];rfl
 | global g=>
  simp[St.ev,ba]at hg;subst hg;rfl
 | func f=>
  simp[St.ev,ba]at hg;subst hg;rfl
theorem Rep.put(h:Rep β st a w) d v:Rep β (st.put d v) (a.put d (val β v)) w:=by
 cases d with
 | none=>exact h
 | some k=>
  obtain⟨us,rfl⟩:=h.fr;exact⟨⟨us,bm (fun a:Act=>(⟨a.tmps,Vx st.df⟩:Act)) (ab2 (n0:=st.n) (us0:=us) (l0:=cv β st.fr) (k:=k) (v:=val β v))⟩,h.bx,h.ne,h.only,h.still⟩
theorem Ext.put st d v:Ext st (st.put d v):=by
 cases d with
 | none=>exact Ext.refl _
 | some k=>
  refine⟨rfl,iy _,fun i m u hl bX=>?_,fun i b h ho _=>⟨b,h,ho,rfl,rfl,rfl,fun _ h=>h⟩,Og,Et⟩;simp[St.put,dK]at hl;cases hb:Nat.beq k i with
  | true=>
   rw[hb]at hl;simp at hl;omega
  | false=>rw[hb]at hl;simpa using hl
theorem Rep.frame(h:Rep β st a w){fr'}(hs:∀i p,dK fr' i=some p->∃q,dK st.fr i=some q/\val β q.2=val β p.2):Rep β {st with fr:=fr'} a w:=by
 obtain⟨us,rfl⟩:=h.fr;refine⟨?_,h.bx,h.ne,h.only,h.still⟩;refine⟨fun i=>tt us (cv β st.fr) i,?_⟩;unfold frD;congr 2;apply jh;intro i;by_cases hi:i<st.n
 ·rw[lU _ _ _ _ _ hi,lU _ _ _ _ _ hi,bM];cases hl:dK fr' i with
  | none=>
   rw[CK (l:=cv β fr') (by rw[kD,hl];rfl)]
  | some p=>
   obtain⟨q,h1,h2⟩:=hs i p hl;rw[sK (l:=cv β fr') (v:=val β p.2) (by rw[kD,hl];rfl),sK (l:=cv β st.fr) (v:=val β p.2) (by rw[kD,h1,dk,h2])]
 ·rw[du (by rw[nc];exact qp hi),du (by rw[nc];exact qp hi)]
end
end Go.Kt.V
