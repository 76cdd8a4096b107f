import Derived.WalkKit
import Derived.Deep.Draws
import Derived.Deep.LoopGhost
import Derived.Deep.Quiet
import Derived.OrdersHeld
import Derived.Laws.Small
import Derived.Laws.AppendOwn
import Derived.Great.BuildSlice
import Derived.Laws.MakeOwn
import Derived.MapKept
import Derived.Lib.Strings
import Derived.KernelRfl
import Derived.ChangeKeysEq
import Derived.Laws.Tables
import Derived.Defers
import Derived.Test.YtbkjcdocjfknfaaGreatDoorRows
import Derived.Ground.Names2Prog
import Derived.Ground.SlgnProg
import Derived.Test.YtbkjcdocjfknfaaGreatDoorProg
import Derived.Lib.ParseIntB
import Derived.Lib.Bytealg
import Derived.Lib.ItoaLen
import Derived.Lib.AtoiErrMem
import Derived.Lib.Builder
import Derived.Lib.AppendStr
import Derived.Lib.UnsafeStr
import Derived.Lib.Join
import Derived.Lib.Repeat
import Derived.WideKeyElems
import Derived.Sort.KeysCollected
import Derived.ProofKit
import Derived.OpenShut
import Derived.SizedLaws
import Derived.Deep.Slices
import Derived.JoinedCond
import Derived.Deep.CondSized
import Derived.Lib.TrailingZeros
import Derived.Laws.BitsAllLaws
import Derived.Lib.LaidTab
import Derived.Laws.CopyRow
import Derived.Laws.Bits128
import Derived.Laws.OwnMore
set_option linter.defProp false
def aN:=@List.mem_singleton
def aO:=@of_decide_eq_true
def aP:=@List.length_append
def aQ:=@Bool.and_eq_true
def aR:=@of_decide_eq_false
def aU:=@List.mem_cons
def aV:=@List.getElem?_eq_some_iff
def aW:=@List.getElem?_eq_getElem
def aX:=@Nat.le_refl
def aY:=@Int.toNat_natCast
def aZ:=@Option.some.injEq
def ba:=@List.not_mem_nil
def bf:=@List.length_cons
def bh:=@Nat.zero_le
def bm:=@List.length_map
def bp:=@Nat.le_trans
def bq:=@List.take_of_length_le
def bA:=@Int.natCast_nonneg
def bC:=@decide_eq_false
def bD:=@List.map_cons
def bF:=@List.mem_of_getElem?
def bG:=@List.length_singleton
def bH:=@List.append_assoc
def bI:=@congrArg
def bJ:=@List.take_add_one
def bK:=@List.getElem?_append_left
def bL:=@decide_eq_true
def bM:=@decide_eq_true_eq
def bO:=@Nat.zero_add
def bQ:=@List.append_nil
def bR:=@List.mem_append
def bT:=@List.getElem?_append_right
def bW:=@or_false
def bX:=@Bool.eq_iff_iff
def bZ:=@List.cons_append
def ca:=@Nat.eq_of_beq_eq_true
def cb:=@List.eq_nil_of_length_eq_zero
def ch:=@List.getElem?_map
def ci:=@List.getElem?_cons_zero
def ck:=@List.nil_append
def cm:=@Nat.lt_of_lt_of_le
def cn:=@Bool.or_eq_true
def cp:=@List.sum_cons
def cu:=@List.getElem?_cons_succ
def cx:=@Decidable.byContradiction
def cy:=@Nat.le_of_ble_eq_true
def cz:=@List.length_nil
def cA:=@decide_eq_true_iff
def cH:=@List.length_drop
def cJ:=@List.map_append
def cM:=@List.take_zero
def cO:=@Bool.true_and
def cT:=@List.length_take
def cX:=@List.mem_cons_of_mem
def cY:=@decide_eq_false_iff_not
def cZ:=@List.take_append_drop
def da:=@List.length_filter_le
def db:=@List.length_replicate
def di:=@List.flatten_cons
def dx:=@Bool.eq_false_iff
def dA:=@Nat.add_assoc
def dF:=@Nat.add_sub_cancel_left
def dG:=@Nat.add_zero
def dH:=@List.getElem?_eq_none
def dR:=@Option.map_some
def dS:=@Bool.not_eq_true'
def dT:=@List.mem_cons_self
def dU:=@Bool.false_and
def dV:=@List.take_succ_cons
def dW:=@List.drop_eq_getElem_cons
def dX:=@List.pairwise_iff_getElem
def dY:=@List.all_eq_true
def dZ:=@List.getElem_mem
def eb:=@Bool.or_eq_false_iff
def ey:=@beq_iff_eq
def eC:=@Nat.add_mul
def eE:=@List.mem_map
def eF:=@List.takeWhile_cons
def eG:=@List.filter_nil
def eT:=@List.getElem?_of_mem
def eU:=@Array.getElem?_eq_none
def eV:=@List.map_nil
def fj:=@List.filter_append
def fm:=@Prod.mk.injEq
def fp:=@Except.ok.injEq
def ft:=@List.mem_filter
def fG:=@List.mem_range
def fH:=@Option.isSome_iff_exists
def fK:=@Nat.add_comm
def fN:=@List.pairwise_cons
def fV:=@List.drop_zero
def fW:=@Option.map_eq_some_iff
def fX:=@List.append_eq_nil_iff
def gj:=@Nat.mul_one
def gq:=@Classical.byContradiction
def gD:=@List.map_map
def gF:=@List.sum_nil
def gM:=@List.pairwise_append
def gN:=@Nat.eq_of_testBit_eq
def gZ:=@List.length_range
def ij:=@List.length_set
def iq:=@List.toList_toArray
def iA:=@Nat.le_succ
def iB:=@Int.le_refl
def iP:=@decide_eq_decide
def je:=@List.getElem?_zip_eq_some
def jo:=@Nat.mul_le_mul_right
def jp:=@List.ext_getElem?
def jq:=@Nat.testBit_eq_decide_div_mod_eq
def jG:=@Array.length_toList
def jH:=@List.length_pos_iff
def jI:=@List.flatMap_append
def jQ:=@if_false
def jR:=@Nat.add_le_add
def jS:=@List.eq_nil_iff_forall_not_mem
def jT:=@Nat.zero_testBit
def jU:=@Nat.and_le_right
def kf:=@Bool.false_eq_true
def kg:=@List.getElem?_drop
def ki:=@List.drop_of_length_le
def kj:=@Nat.div_div_eq_div_mul
def kF:=@Nat.testBit_and
def kM:=@Bool.and_true
def kO:=@List.getElem?_toArray
def kP:=@Array.getElem?_modify
def kQ:=@List.size_toArray
def ly:=@Array.getElem?_eq_some_iff
def lz:=@List.elem_cons
def lA:=@List.findSome?_eq_none_iff
def me:=@Option.getD_some
def mf:=@Option.bind_some
def mw:=@List.map_congr_left
def my:=@List.drop_succ_cons
def mz:=@Int.toNat_of_nonneg
def mX:=@Bool.false_or
def mY:=@List.map_take
def nK:=@Option.toList_some
def nQ:=@cond_true
def oA:=@List.drop_eq_nil_of_le
def oB:=@List.getElem?_set_self
def oC:=@Nat.sub_zero
def oE:=@List.drop_drop
def oG:=@Nat.sub_self
def pq:=@Array.getElem?_setIfInBounds_ne
def pw:=@List.set_append_right
def pz:=@List.take_eq_take_iff
def pA:=@List.contains_iff_mem
def qu:=@List.mem_flatMap
def qv:=@Bool.not_eq_true
def qw:=@List.filter_cons
def qx:=@List.any_eq_true
def qA:=@List.map_drop
def rq:=@Nat.pow_le_pow_right
def rM:=@List.foldl_cons
def rN:=@List.cons.injEq
def tw:=@Nat.testBit_two_pow_mul_add
def uk:=@cond_false
def ul:=@List.getD_eq_getElem?_getD
def um:=@Nat.lt_of_le_of_lt
def vf:=@Option.isNone_iff_eq_none
def vg:=@List.mem_or_eq_of_mem_set
def vw:=@Nat.pow_add
def vA:=@List.getElem?_set
def vB:=@List.flatMap_cons
def vC:=@List.foldl_append
def vD:=@Nat.lt_succ_of_le
def xJ:=@Nat.le_of_not_lt
def xK:=@List.pairwise_singleton
def xL:=@Nat.div_eq_of_lt
def yL:=@Nat.zero_mul
def zj:=@Option.map_none
def zl:=@List.headD_cons
def zm:=@Option.some.inj
def zn:=@List.all_append
def BW:=@Bool.and_assoc
def BX:=@List.getElem?_set_ne
def BZ:=@List.mem_append_left
def Fk:=@Nat.mul_le_mul_left
def Fl:=@List.flatten_append
def Fm:=@List.take_set_of_le
def Fp:=@List.drop_set_of_lt
def Fq:=@List.getElem_of_mem
def FD:=@Nat.mul_assoc
def H4:=@List.set_cons_zero
def H5:=@Bool.not_eq_false'
def H6:=@Nat.pos_of_ne_zero
def H7:=@List.find?_eq_none
def H8:=@Int.tmod_lt_of_pos
def Iw:=@List.exists_of_findSome?_eq_some
def KE:=@Bool.or_true
def KF:=@Bool.not_not
def KG:=@Decidable.not_not
def KH:=@Nat.le_of_eq
def KI:=@Nat.mul_comm
def O3:=@Array.toList_inj
def O4:=@Nat.le_max_right
def O5:=@Nat.succ_le_succ
def O6:=@Nat.lt_succ_self
def O7:=@List.flatMap_nil
def O8:=@Nat.and_two_pow_sub_one_eq_mod
def O9:=@List.map_id
def PN:=@List.take_append_of_le_length
def T7:=@UInt8.toNat_inj
def T8:=@Nat.le_max_left
def T9:=@Nat.and_le_left
def Ua:=@List.countP_eq_length_filter
def Ub:=@List.of_mem_zip
def Uc:=@Int.tmod_nonneg
def UW:=@List.take_length_add_append
def UX:=@List.drop_length_add_append
abbrev azu(w v:Go.World)(k:Nat)(p:Prop):Prop:=w.heap.size<=k->k<v.heap.size->p
abbrev aG:=Go.Value->Go.World->Prop
abbrev aH:=List UInt8
abbrev aI:=List Go.Value
abbrev aJ:=Nat->Prop
abbrev aK:=ByteArray
set_option linter.unusedSectionVars false
namespace Go.Kt
open Go renaming World->av,Value->aw
open Go Go.RowKit
set_option linter.unusedSimpArgs false
set_option linter.unusedVariables false
structure Sl where
 a:Option Addr
 n:Nat
 c:Nat
@[reducible] def Sl.v(s:Sl):aw:=.slice s.a s.n s.c
@[reducible] def Sl.nil:Sl:=⟨none,0,0⟩
def Sl.cut(s:Sl)(l h m size:Nat):Sl:=⟨if m=l then s.a else s.a.map (·.add (l*size)),h-l,m-l⟩
def cW(s:Sl)(i:Int)(size:Nat)(ad:Addr):Prop:=∃base,s.a=some base/\0<=i/\i<s.n/\ad=base.add (i.toNat*size)
structure Only (bs:List Nat) (w w':av):Prop where
 os:w'.os=w.os
 tape:w'.tape=w.tape
 output:w'.output=w.output
 size:w.heap.size<=w'.heap.size
 block:∀k,k<w.heap.size->k∉bs->w'.heap[k]? =w.heap[k]?
def Blk(w:av)(b:Nat)(t:TypeId)(cs:List aw):Prop:=w.heap[b]? =some (.cells cs.toArray t (0,0))
def Cells(w:av)(a:Addr)(cs:List aw):Prop:=∀j v,cs[j]? =some v->w.cell? (a.add j)=some v
def bU(bs:List Nat)(w w':av):Prop:=∀b,b∈bs->w'.heap[b]? =w.heap[b]?
def fY(b:UInt8):aw:=.int .u8 b.toNat
def zo(w:av)(s:Sl)(l:List UInt8):Prop:=s.n=l.length/\(l≠[]->∃ad,s.a=some ad/\Cells w ad (l.map fY))
def Sl.blk(s:Sl):Nat:=match s.a with | some a=>a.block | none=>0
def cj(cs:List aw)(o:Nat)(vs:List aw):List aw:=cs.take o++vs++cs.drop (o+vs.length)
section
variable {w w' tV:av} {bs bs':List Nat} {b:Nat} {t:TypeId} {cs:List aw}
theorem Blk.lt(h:Blk w b t cs):b<w.heap.size:=(ly.1 h).1
theorem Only.refl bs w:Only bs w w:=⟨rfl,rfl,rfl,aX _,fun _ _ _=>rfl⟩
theorem Only.weaken(h:Only bs w w')(hb:∀x,x∈bs->x∈bs'∨w.heap.size<=x):Only bs' w w':=
 ⟨h.os,h.tape,h.output,h.size,fun k hk hn=>h.block k hk fun hm=>by grind⟩
theorem Only.trans(h:Only bs w w')(k:Only bs' w' tV)(hb:∀x,x∈bs'->x∈bs∨w.heap.size<=x):Only bs w tV:=
 ⟨k.os.trans h.os,k.tape.trans h.tape,k.output.trans h.output,bp h.size k.size,fun i hi hn=>
  (k.block i (cm hi h.size) fun hm=>by grind).trans (h.block i hi hn)⟩
theorem Only.cf(h:Only bs w w')(k:Only [] w' tV):Only bs w tV:=h.trans k (by simp)
theorem Only.cons(h:Only bs w w')(k:Only [b] w' tV):Only (b::bs) w tV:=
 (h.weaken (bs':=b::bs) fun _ hx=>.inl (cX _ hx)).trans k fun x hx=>.inl (by grind)
theorem Only.mem(h:Only bs w w')(k:Only [b] w' tV)(hb:b∈bs):Only bs w tV:=h.trans k fun x hx=>.inl (by grind)
theorem Only.new(h:Only bs w w')(k:Only [b] w' tV)(hb:w.heap.size<=b):Only bs w tV:=h.trans k fun x hx=>.inr (by grind)
theorem Only.blk(h:Only bs w w')(hb:Blk w b t cs)(hn:b∉bs):Blk w' b t cs:=(h.block b hb.lt hn).trans hb
theorem Only.below(h:Only bs w w'){B}(hB:B<=w.heap.size)(hb:∀x,x∈bs->B<=x):Below B w w':=
 ⟨h.os,h.tape,h.output,h.size,fun k hk=>h.block k (by omega) fun hm=>by have:=hb k hm;omega⟩
theorem Only.qk(h:Below w.heap.size w w'):Only [] w w':=⟨h.os,h.tape,h.output,h.size,fun k hk _=>h.block k hk⟩
theorem Only.HP{row}(h:w.grownBy w' row):Only row.toList w w':=⟨h.os,h.tape,h.output,h.size,fun k hk hn=>h.block k hk fun e=>hn (by simp[<-e])⟩
theorem Only.drew w:Only [] w w.drew:=⟨rfl,rfl,rfl,aX _,fun _ _ _=>rfl⟩
theorem Only.drewN w n:Only [] w (w.drewN n):=⟨rfl,rfl,rfl,aX _,fun _ _ _=>rfl⟩
theorem Only.alloc w o:Only [] w (w.alloc o):=⟨rfl,rfl,rfl,by simp,fun k hk _=>_root_.Go.heap_alloc_old w o hk⟩
theorem Only.setRow w b cs:Only [b] w (w.setRow b cs):=⟨rfl,rfl,rfl,by simp,fun k _ hn=>setRow_other w b k cs (by simpa using hn)⟩
theorem Only.same(h:Only bs w w')(hl:∀x,x∈bs'->x<w.heap.size/\x∉bs):bU bs' w w':=fun x hx=>h.block x (hl x hx).1 (hl x hx).2
theorem Blk.alloc(w:av) t cs:Blk (w.alloc (.cells cs.toArray t)) w.heap.size t cs:=heap_alloc_new w _
theorem Blk.setRow(h:Blk w b t cs) EY:Blk (w.setRow b EY.toArray) b t EY:=setRow_heap w b _ _ t _ h
theorem Blk.cell(h:Blk w b t cs) i:w.cell? ⟨b,i,none⟩=cs[i]? :=by rw[cell_of_row w b i cs.toArray t _ h];simp
theorem Blk.cells(h:Blk w b t cs) o vs (hv:∀j v,vs[j]? =some v->cs[o+j]? =some v):Cells w ⟨b,o,none⟩ vs:=fun j v hj=>by
 have am1:(⟨b,o,none⟩:Addr).add j=⟨b,o+j,none⟩:=by unfold Addr.add<;>simp_all
 rw[am1,h.cell];exact hv j v hj
theorem Blk.EP(h:Blk w b t cs) o vs (hv:(cs.drop o).take vs.length=vs):Cells w ⟨b,o,none⟩ vs:=h.cells o vs fun j v hj=>by grind
theorem Cells.one{a}{v}(h:Cells w a [v]):w.cell? a=some v:=by have:=h 0 v rfl;simpa[Addr.add]using this
theorem Cells.keep{a}(h:Cells w a cs)(hk:w'.heap[a.block]? =w.heap[a.block]?):Cells w' a cs:=fun j v hj=>by
 rw[World.cell?_of_block (w:=w) _ (a:=a.add j)]
 ·exact h j v hj
 ·have:(a.add j).block=a.block:=by unfold Addr.add;split<;>rfl
  rw[this,hk]
theorem Cells.lt'{a}(h:Cells w a cs)(hc:cs≠[]):a.block<w.heap.size:=by
 cases cs with
 | nil=>exact absurd rfl hc
 | cons v cs=>
  have h2:=block_lt_of_cell (h 0 v rfl);have e:(a.add 0).block=a.block:=rfl;omega
theorem Cells.lt{a}{v}(h:Cells w a (v::cs)):a.block<w.heap.size:=by
 have:=h 0 v rfl;have h2:=block_lt_of_cell this;have e:(a.add 0).block=a.block:=rfl;omega
end
section
variable {P:Program} {ops:Array Oper} {Q:Exit->Act->av->Prop} {rest:List Oper} {a a':Act} {w w':av}
theorem f0(l:List aw) ds (k:Nat) v:Act.put ⟨l.toArray,ds⟩ (some k) v=⟨(l.set k v).toArray,ds⟩:=by simp[Act.put]
theorem f1 x l (v:aw):(x::l).set 0 v=v::l:=rfl
theorem f3(a:Act) v:a.put none v=a:=rfl
theorem f2 x l k (v:aw):(x::l).set (k+1) v=x::l.set k v:=rfl
def gv:List Oper->Nat->Option Oper
 | [],_=>none
 | v::_,0=>some v
 | _::r,n+1=>gv r n
theorem jJ:∀l n,gv l n=l[n]?
 | [],_=>rfl
 | _::_,0=>rfl
 | _::r,n+1=>jJ r n
def Zo:List aw->Nat->Option aw
 | [],_=>none
 | v::_,0=>some v
 | _::r,n+1=>Zo r n
theorem KJ:∀l n,Zo l n=l[n]?
 | [],_=>rfl
 | _::_,0=>rfl
 | _::r,n+1=>KJ r n
theorem wt{o oj}{eh}{l}{ds}{j d:Nat}{want b r}(h1:o.guard=some (j,want))(h2:gv eh j=some oj)(h3:oj.dst=some d)
  (h4:Zo l d=some (.bool b)) (h5:(b==want)=r):Region.wanted o (yielded eh.toArray (⟨l.toArray,ds⟩:Act).tmps)=r:=by
 subst h5;rw[jJ]at h2;rw[KJ]at h4;have e:yielded eh.toArray (⟨l.toArray,ds⟩:Act).tmps j=some b:=by simp[yielded,h2,h3,h4]
 simp only[Region.wanted,h1,e];rfl
theorem wn{o}{f}(h:o.guard=none):Region.wanted o f=true:=by simp[Region.wanted,h]
theorem Dc{o} v (hg:Region.wanted o (yielded ops a.tmps)=true)
  (hr:(execOp a.eval o).run P w=.ok (.value v) w') (ha:a.put o.dst v=a') (h:wpList P ops Q rest a' w'):wpList P ops Q (o::rest) a w:=by
 subst ha;unfold wpList;rw[if_pos hg];refine .inl ?_;unfold Oper.wp;rw[hr];exact h
theorem Xt{o}(hg:Region.wanted o (yielded ops a.tmps)=false)(ha:a.put o.dst undef=a')(h:wpList P ops Q rest a' w):wpList P ops Q (o::rest) a w:=by
 subst ha;unfold wpList;simp_all
theorem Dd{dst}{ty}{x}{t'}{p}{af}{g}{ad}{v}
  (JS:(isAgg ty).run P w=.ok false w) (hx:a.eval x=.pointer (some ad)) (hc:w.cell? ad=some v):
  (execOp a.eval ⟨dst,.load ty x,t',p,af,g⟩).run P w=.ok (.value v) w:=by
 simp[execOp,hx,Instr.loadAt,Instr.sureAddr,Sem.run_bind,Sem.run_pure,Result.andThen_ok,loadVar,JS,kf,jQ,run_load,hc]
theorem tz{dst}{ty}{x}{t'}{p}{af}{g}{ad}{cs}{n}
  (JS:(isAgg ty).run P w=.ok true w) (hsz:(sizeOf ty).run P w=.ok n w) (hn:cs.length=n) (hx:a.eval x=.pointer (some ad)) (hc:Cells w ad cs):
  (execOp a.eval ⟨dst,.load ty x,t',p,af,g⟩).run P w=.ok (.value (.agg cs.toArray)) w:=by
 have hl:=run_loadCells_list (P:=P) w ad cs hc;rw[hn]at hl;simp[execOp,hx,Instr.loadAt,Instr.sureAddr,Sem.run_bind,Sem.run_pure,Result.andThen_ok,loadVar,JS,if_true,hsz,hl]
theorem UY{dst}{ty}{x y}{t'}{p}{af}{g}{b o}{cs vs}{et}{n}
  (hsz:(sizeOf ty).run P w=.ok n w) (hx:a.eval x=.pointer (some ⟨b,o,none⟩)) (hv:(a.eval y).cells=vs.toArray) (hn:vs.length=n)
  (h1:∀v∈vs,v.oneCell'=true) (hb:Blk w b et cs) (JU:o+vs.length<=cs.length):
  (execOp a.eval ⟨dst,.store ty x y,t',p,af,g⟩).run P w=.ok .skip (w.setRow b (cj cs o vs).toArray):=by
 simp[execOp,hx,Instr.storeAt,Instr.sureAddr,Sem.run_bind,Sem.run_pure,Result.andThen_ok,storeVar,hsz,hv,kQ,hn,ne_eq,not_true_eq_false,jQ,run_storeCells_at P b o et vs 0 cs.toArray w hb (by omega) h1,cj]
theorem UZ{dst}{ty}{t'}{p}{af}{g}{z}{zs:List aw}
  (hz:(zeroValue ty).run P w=.ok z w) (hc:z.cells=zs.toArray):
  (execOp a.eval ⟨dst,.alloc ty,t',p,af,g⟩).run P w=.ok (.value (.pointer (some ⟨w.heap.size,0,none⟩))) (w.alloc (.cells zs.toArray ty)):=by
 simp only[execOp,Instr.alloc,Sem.run_bind,hz,Result.andThen_ok,newVar,hc];rfl
theorem aef{dst}{ty}{x}{t'}{p}{af}{g}{zs:List aw}
  (hc:(a.eval x).cells=zs.toArray):
  (execOp a.eval ⟨dst,.box ty x,t',p,af,g⟩).run P w=.ok (.value (.pointer (some ⟨w.heap.size,0,none⟩))) (w.alloc (.cells zs.toArray ty)):=by
 simp only[execOp,Instr.box,newVar,hc];rfl
theorem PO{dst}{x}{t'}{p}{af}{g}{ad}(hx:a.eval x=.pointer (some ad)):
  (execOp a.eval ⟨dst,.nilCheck x,t',p,af,g⟩).run P w=.ok (.value (.pointer (some ad))) w:=by
 simp[execOp,hx]
theorem KK{dst}{s}{x}{k}{t'}{p}{af}{g}{ad EZ}{fs}{f}{n}
  (hu:(underlying s).run P w=.ok (.struct fs) w) (hf:fs[k]? =some f) (hsz:(sizeOf f.type).run P w=.ok (n+1) w) (hx:a.eval x=.pointer (some ad)) (he:ad.add f.offset=EZ):
  (execOp a.eval ⟨dst,.fieldAddr s x k,t',p,af,g⟩).run P w=.ok (.value (.pointer (some EZ))) w:=by
 subst he;simp[execOp,hx,Instr.fieldAt,Instr.sureAddr,hu,hf,fieldPlace,hsz]
theorem U0{dst}{c x y}{t'}{p}{af}{g}{v}(hc:a.eval c=.bool true)(hv:a.eval x=v):
  (execOp a.eval ⟨dst,.pick c x y,t',p,af,g⟩).run P w=.ok (.value v) w:=by
 subst hv;simp[execOp,hc,asBool]
theorem U1{dst}{c x y}{t'}{p}{af}{g}{v}(hc:a.eval c=.bool false)(hv:a.eval y=v):
  (execOp a.eval ⟨dst,.pick c x y,t',p,af,g⟩).run P w=.ok (.value v) w:=by
 subst hv;simp[execOp,hc,asBool]
theorem U2{dst}{t}{ps:List _}{t'}{p}{af}{g}{ps'}{v}
  (hp:(ps.map fun q=>(q.1,a.eval q.2))=ps') (hr:(Instr.build t ps'.toArray).run P w=.ok v w):
  (execOp a.eval ⟨dst,.build t ps.toArray,t',p,af,g⟩).run P w=.ok (.value v) w:=by
 subst hp;simp[execOp,hr]
theorem PQ{dst}{t e}{x i}{t'}{p}{af}{g}{s}{k}{n}{ad}{sz}
  (hu:(underlying t).run P w=.ok (.slice e) w) (hsz:(sizeOf e).run P w=.ok sz w) (hx:a.eval x=s.v) (hi:a.eval i=.int k n) (hat:cW s n sz ad):
  (execOp a.eval ⟨dst,.indexAddr t x i,t',p,af,g⟩).run P w=.ok (.value (.pointer (some ad))) w:=by
 obtain⟨base,hb,h0,h1,rfl⟩:=hat;simp[execOp,hx,hi,Instr.indexAt,asIntOf,hu,hsz,hb,h0,h1]
theorem vE{dst:Option Tmp}{t e:TypeId}{x i:Operand}{t'}{p}{af}{g}{len}{k}{n}{ad EZ}{sz}
  (hu:(underlying t).run P w=.ok (.array len e) w) (hsz:(sizeOf e).run P w=.ok sz w) (hx:a.eval x=.pointer (some ad)) (hi:a.eval i=.int k n) (h0:0<=n) (h1:n<len) (he:ad.add (n.toNat*sz)=EZ):
  (execOp a.eval ⟨dst,.indexAddr t x i,t',p,af,g⟩).run P w=.ok (.value (.pointer (some EZ))) w:=by
 subst he;simp[execOp,hx,hi,Instr.indexAt,asIntOf,hu,hsz,h0,h1,Instr.sureAddr]
theorem lH{b}{s}{dst}{xs:List Operand}{ts}{t'}{p}{af}{g}{v}
  (hb:∀abd,builtin b ts t' abd (xs.map a.eval).toArray=(do pure (.value (<-s)))) (hr:s.run P w=.ok v w'):
  (execOp a.eval ⟨dst,.call ⟨.builtin b,xs.toArray,ts⟩,t',p,af,g⟩).run P w=.ok (.value v) w':=by
 simp[execOp,resolve,invoke,List.map_toArray];simp_all
theorem wP{dst}{xs:List Operand}{ts}{t'}{p}{af}{g}{v}{vs}(hx:xs.map a.eval=vs)
  (hr:(Builtin.append_ ts t' vs.toArray).run P w=.ok v w'):(execOp a.eval ⟨dst,.call ⟨.builtin .append,xs.toArray,ts⟩,t',p,af,g⟩).run P w=.ok (.value v) w':=by
 subst hx;exact lH (fun _=>rfl) hr
theorem zq{dst}{xs:List Operand}{ts}{t'}{p}{af}{g}{v}{vs}(hx:xs.map a.eval=vs)
  (hr:(Builtin.copy_ ts t' vs.toArray).run P w=.ok v w'):(execOp a.eval ⟨dst,.call ⟨.builtin .copy,xs.toArray,ts⟩,t',p,af,g⟩).run P w=.ok (.value v) w':=by
 subst hx;exact lH (fun _=>rfl) hr
theorem wQ{dst}{xs:List Operand}{ts}{t'}{p}{af}{g}{v}{vs}(hx:xs.map a.eval=vs)
  (hr:(Builtin.delete_ ts t' vs.toArray).run P w=.ok v w'):(execOp a.eval ⟨dst,.call ⟨.builtin .delete,xs.toArray,ts⟩,t',p,af,g⟩).run P w=.ok (.value v) w':=by
 subst hx;exact lH (fun _=>rfl) hr
theorem yt{dst}{xs:List Operand}{ts}{t'}{p}{af}{g}{v}{vs}(hx:xs.map a.eval=vs)
  (hr:(Builtin.clear_ ts t' vs.toArray).run P w=.ok v w'):(execOp a.eval ⟨dst,.call ⟨.builtin .clear,xs.toArray,ts⟩,t',p,af,g⟩).run P w=.ok (.value v) w':=by
 subst hx;exact lH (fun _=>rfl) hr
theorem BA{dst}{xs:List Operand}{ts}{t'}{p}{af}{g}{v}{vs}(hx:xs.map a.eval=vs)
  (hr:(Builtin.len_ ts t' vs.toArray).run P w=.ok v w'):(execOp a.eval ⟨dst,.call ⟨.builtin .len,xs.toArray,ts⟩,t',p,af,g⟩).run P w=.ok (.value v) w':=by
 subst hx;exact lH (fun _=>rfl) hr
section
variable {dst:Option Tmp} {x y z:Operand} {t t2:TypeId} {t':TypeId} {p:String} {af:Array Edge} {g:Option (Nat×Bool)} {u v vx vy vz:aw}
theorem De{n}{ps:List _}{ps'}(hp:(ps.map fun q=>(q.1,a.eval q.2))=ps')(hr:(Instr.buildSlice t n ps'.toArray).run P w=.ok v w'):
  (execOp a.eval ⟨dst,.buildSlice t n ps.toArray,t',p,af,g⟩).run P w=.ok (.value v) w':=by
 subst hp;simp[execOp,hr]
theorem FE(hx:a.eval x=vx)(hy:a.eval y=vy)(hr:(Instr.makeSlice t vx vy).run P w=.ok v w'):(execOp a.eval ⟨dst,.makeSlice t x y,t',p,af,g⟩).run P w=.ok (.value v) w':=by simp[execOp,hx,hy,hr]
theorem Nu(hr:(Instr.makeMap t none).run P w=.ok v w'):(execOp a.eval ⟨dst,.makeMap t none,t',p,af,g⟩).run P w=.ok (.value v) w':=by simp[execOp,hr]
theorem Ix(hx:a.eval x=vx)(hr:(Instr.makeMap t (some vx)).run P w=.ok v w'):(execOp a.eval ⟨dst,.makeMap t (some x),t',p,af,g⟩).run P w=.ok (.value v) w':=by simp[execOp,hx,hr]
theorem PR{b}(hx:a.eval x=vx)(hy:a.eval y=vy)(hr:(Instr.lookup t vx vy b).run P w=.ok v w'):(execOp a.eval ⟨dst,.lookup t x y b,t',p,af,g⟩).run P w=.ok (.value v) w':=by simp[execOp,hx,hy,hr]
theorem FF(hx:a.eval x=vx)(hy:a.eval y=vy)(hz:a.eval z=vz)(hr:(Instr.mapUpdate t vx vy vz).run P w=.ok () w'):(execOp a.eval ⟨dst,.mapUpdate t x y z,t',p,af,g⟩).run P w=.ok .skip w':=by simp[execOp,hx,hy,hz,hr]
theorem PS(hx:a.eval x=vx)(hy:a.eval y=vy)(hz:a.eval z=vz)(hr:(Instr.mapUpdate t vx vy vz).run P w=.ok () w'):(execOp a.eval ⟨dst,.insert t x y z,t',p,af,g⟩).run P w=.ok .skip w':=by simp[execOp,hx,hy,hz,hr]
theorem Nv(hx:a.eval x=vx)(hr:(convert t t2 vx).run P w=.ok v w'):(execOp a.eval ⟨dst,.convert t t2 x,t',p,af,g⟩).run P w=.ok (.value v) w':=by simp[execOp,hx,hr]
end
theorem aeg{dst:Option Tmp}{t:TypeId}{e:TypeId}{x:Operand}{t':TypeId}{p:String}{af:Array Edge}{g}{s:Sl}
  (hu:(underlying t).run P w=.ok (.slice e) w) (hx:a.eval x=s.v):
  (execOp a.eval ⟨dst,.call ⟨.builtin .len,#[x],#[t]⟩,t',p,af,g⟩).run P w=.ok (.value (.int .i64 s.n)) w:=by
 simp[execOp,resolve,invoke,builtin,Builtin.len_,hu,hx,goInt]
theorem FG{dst}{x}{f}{first captured}{xs:List Operand}{ats}{t'}{p}{af}{g}{args}
  (hx:a.eval x=.func (.func f) first.toArray captured.toArray)
  (hc:∀args w,(callFunc f args).run P w=.ok (.enter f args) w) (ha:first++xs.map a.eval++captured=args):
  (execOp a.eval ⟨dst,.call ⟨.value x,xs.toArray,ats⟩,t',p,af,g⟩).run P w=.ok (.enter f args.toArray) w:=by
 subst ha;simp only[execOp,resolve,hx,Deferred.ofValue,Sem.run_bind,Sem.run_pure,Result.andThen_ok,invoke,hc];simp
theorem lI{x}{k}{i y}{code}(hx:x=.int k i)(h:i<=y):(Instr.sliceBound x y code).run P w=.ok i w:=by
 subst hx;have:=by omega
 simp[Instr.sliceBound,asIntOf,this]
theorem zr{dst}{s d e}{x}{t'}{p}{af}{g}{sl}{l}
  (hs:P.underlying s=some (.slice e)) (he:P.underlying e=some (.int .u8)) (hd:P.underlying d=some .string) (hx:a.eval x=sl.v) (hb:zo w sl l):
  (execOp a.eval ⟨dst,.convert s d x,t',p,af,g⟩).run P w=.ok (.value (.string ⟨l.toArray⟩)) w:=by
 obtain⟨hn,hc⟩:=hb;obtain⟨sa,sn,sc⟩:=sl;subst hn;have key:(convert s d (.slice sa l.length sc)).run P w=.ok (.string ⟨l.toArray⟩) w:=by
  cases sa with
  | none=>
   have:l=[]:=gq fun h=>by grind
   subst this;exact run_convert_bytes_nil w s e hs he _ _ d hd
  | some ad=>
   refine run_convert_bytes_back w s d e ad sc l hs he hd fun j hj=>?_;obtain⟨EZ,h1,h2⟩:=hc (fun h=>by simp[h]at hj);injection h1 with h1;subst h1;exact h2 j _ (by simp[fY,aW hj])
 simp[execOp,hx,key]
theorem Iy{dst}{fn}{fs cs:List Operand}{t'}{p}{af}{g}{fv cv}(h1:fs.map a.eval=fv)(h2:cs.map a.eval=cv):
  (execOp a.eval ⟨dst,.makeFunc fn fs.toArray cs.toArray,t',p,af,g⟩).run P w=.ok (.value (.func fn fv.toArray cv.toArray)) w:=by
 subst h1;subst h2;simp[execOp,Instr.makeFunc]
theorem aeh{dst}{t ty}{x y}{t'}{p}{af}{g}{k}{m n}(hx:a.eval x=.int k m)(hy:a.eval y=.int k n)(hn:n≠0):
  (execOp a.eval ⟨dst,.binOp .quo t x y ty,t',p,af,g⟩).run P w=.ok (.value (.int k (k.wrap (m.tdiv n)))) w:=by
 have e:binOp .quo t (.int k m) (.int k n)=Op.intDiv .quo k m n:=by simp[binOp]
 have hg:eqGuard .quo t x y (.int k m) (.int k n)=pure _:=rfl;simp[execOp,hx,hy,hg,e,Op.intDiv,hn,jQ,Sem.run_bind,Sem.run_pure,Result.andThen_ok]
theorem aei{dst}{t ty}{x y}{t'}{p}{af}{g}{k}{m n}(hx:a.eval x=.int k m)(hy:a.eval y=.int k n)(hn:n≠0):
  (execOp a.eval ⟨dst,.binOp .rem t x y ty,t',p,af,g⟩).run P w=.ok (.value (.int k (m.tmod n))) w:=by
 have e:binOp .rem t (.int k m) (.int k n)=Op.intDiv .rem k m n:=by simp[binOp]
 have hg:eqGuard .rem t x y (.int k m) (.int k n)=pure _:=rfl;simp[execOp,hx,hy,hg,e,Op.intDiv,hn,jQ,Sem.run_bind,Sem.run_pure,Result.andThen_ok]
theorem aej{dst}{t ty}{x y}{t'}{p}{af}{g}{k k'}{m n}(hx:a.eval x=.int k m)(hy:a.eval y=.int k' n)(hn:0<=n):
  (execOp a.eval ⟨dst,.binOp .shl t x y ty,t',p,af,g⟩).run P w=.ok (.value (.int k (k.wrap (m*2 ^ (min n.toNat k.bits))))) w:=by
 have hg:eqGuard .shl t x y (.int k m) (.int k' n)=pure _:=rfl;have e:binOp .shl t (.int k m) (.int k' n)=Op.shift .shl k m k' n:=rfl;have hn':¬n<0:=by omega
 simp[execOp,hx,hy,hg,e,Op.shift,hn',jQ,Sem.run_bind,Sem.run_pure,Result.andThen_ok]
theorem aek{dst}{t ty}{x y}{t'}{p}{af}{g}{k k'}{m n}(hx:a.eval x=.int k m)(hy:a.eval y=.int k' n)(hn:0<=n):
  (execOp a.eval ⟨dst,.binOp .shr t x y ty,t',p,af,g⟩).run P w=.ok (.value (.int k (m.fdiv (2 ^ (min n.toNat k.bits))))) w:=by
 have hg:eqGuard .shr t x y (.int k m) (.int k' n)=pure _:=rfl;have e:binOp .shr t (.int k m) (.int k' n)=Op.shift .shr k m k' n:=rfl;have hn':¬n<0:=by omega
 simp[execOp,hx,hy,hg,e,Op.shift,hn',jQ,Sem.run_bind,Sem.run_pure,Result.andThen_ok]
theorem Iz{dst}{t}{x i}{t'}{p}{af}{g}{s}{k}{n}{c}
  (hu:(underlying t).run P w=.ok .string w) (hx:a.eval x=.string s) (hi:a.eval i=.int k n) (h0:0<=n) (h1:s[n.toNat]? =some c):
  (execOp a.eval ⟨dst,.index t x i,t',p,af,g⟩).run P w=.ok (.value (.int .u8 c.toNat)) w:=by
 simp[execOp,hx,hi,Instr.index,asIntOf,hu,Sem.run_bind,Sem.run_pure,Result.andThen_ok,h0,if_true,h1]
theorem PT{dst}{t ty}{x y}{t'}{p}{af}{g}{s u}(hx:a.eval x=.string s)(hy:a.eval y=.string u)(hn:(s.size:Int)+u.size<=9223372036854775807):
  (execOp a.eval ⟨dst,.binOp .add t x y ty,t',p,af,g⟩).run P w=.ok (.value (.string (s++u))) w:=by
 have hg:eqGuard .add t x y (.string s) (.string u)=pure _:=rfl;have e:binOp .add t (.string s) (.string u)=Op.stringOp .add s u:=rfl;have hn':¬((s.size+u.size:Nat))>IntKind.i64.max:=by simp_all
 simp only[execOp,hx,hy,hg,e,Op.stringOp,hn',jQ,Sem.run_bind,Sem.run_pure,Result.andThen_ok]
theorem ael{dst}{t}{e}{x}{t'}{p}{af}{g}{s:Sl}
  (hu:(underlying t).run P w=.ok (.slice e) w) (hx:a.eval x=s.v):
  (execOp a.eval ⟨dst,.call ⟨.builtin .cap,#[x],#[t]⟩,t',p,af,g⟩).run P w=.ok (.value (.int .i64 s.c)) w:=by
 simp[execOp,resolve,invoke,builtin,Builtin.cap_,hu,hx,goInt]
theorem Df{dst:Option Tmp}{t:TypeId}{x lo:Operand}{t':TypeId}{p:String}{af:Array Edge}{g:Option (Nat×Bool)}{s:ByteArray}{k:IntKind}{l:Nat}
  (hu:(underlying t).run P w=.ok .string w) (hx:a.eval x=.string s) (hl:a.eval lo=.int k (l:Int)) (h1:l<=s.size) (_h2:s.size<=s.size):
  (execOp a.eval ⟨dst,.slice t x (some lo) none none,t',p,af,g⟩).run P w=.ok (.value (.string (s.extract l s.size))) w:=by
 simp[execOp,hx,Instr.sliceAt,hu,Instr.slice,Instr.sliceBounds,lI hl h1]
theorem Dg{dst}{t}{x hi}{t'}{p}{af}{g}{s}{k}{h:Nat}
  (hu:(underlying t).run P w=.ok .string w) (hx:a.eval x=.string s) (hh:a.eval hi=.int k h) (_h1:0<=h) (h2:h<=s.size):
  (execOp a.eval ⟨dst,.slice t x none (some hi) none,t',p,af,g⟩).run P w=.ok (.value (.string (s.extract 0 h))) w:=by
 simp[execOp,hx,Instr.sliceAt,hu,Instr.slice,Instr.sliceBounds,lI hh h2]
theorem Dh{dst}{t}{x lo hi}{t'}{p}{af}{g}{s}{k k'}{l h:Nat}
  (hu:(underlying t).run P w=.ok .string w) (hx:a.eval x=.string s) (hl:a.eval lo=.int k l) (hh:a.eval hi=.int k' h) (h1:l<=h) (h2:h<=s.size):
  (execOp a.eval ⟨dst,.slice t x (some lo) (some hi) none,t',p,af,g⟩).run P w=.ok (.value (.string (s.extract l h))) w:=by
 simp[execOp,hx,Instr.sliceAt,hu,Instr.slice,Instr.sliceBounds,lI hh h2,lI hl h1]
theorem B0{dst}{s d}{x}{t'}{p}{af}{g}{ks kd k}{n}
  (hs:(underlying s).run P w=.ok (.int ks) w) (hd:(underlying d).run P w=.ok (.int kd) w) (hx:a.eval x=.int k n):
  (execOp a.eval ⟨dst,.convert s d x,t',p,af,g⟩).run P w=.ok (.value (.int kd (kd.wrap n))) w:=by
 simp[execOp,hx,convert,hs,hd,Conv.intToInt]
theorem B1{dst:Option Tmp}{s d:TypeId}{x:Operand}{t':TypeId}{p:String}{af:Array Edge}{g:Option (Nat×Bool)}{n:ByteArray}
  (hs:(underlying s).run P w=.ok .string w) (hd:(underlying d).run P w=.ok .string w) (hx:a.eval x=.string n):
  (execOp a.eval ⟨dst,.convert s d x,t',p,af,g⟩).run P w=.ok (.value (.string n)) w:=by
 simp[execOp,hx,convert,hs,hd]
theorem U3{dst}{t}{x}{t'}{p}{af}{g}{d}{v}
  (hu:(underlying t).run P w=.ok d w) (hd:(match d with | .interface _=>false | _=>true)=true) (hx:a.eval x=v):
  (execOp a.eval ⟨dst,.makeInterface t x,t',p,af,g⟩).run P w=.ok (.value (.iface t v)) w:=by
 subst hx;cases d<;>first | (simp at hd;done) | simp[execOp,Instr.makeInterface,hu]
theorem PU{dst:Option Tmp}{t:TypeId}{x:Operand}{t':TypeId}{p:String}{af:Array Edge}{g:Option (Nat×Bool)}{s:ByteArray}
  (hu:(underlying t).run P w=.ok .string w) (hx:a.eval x=.string s):
  (execOp a.eval ⟨dst,.call ⟨.builtin .len,#[x],#[t]⟩,t',p,af,g⟩).run P w=.ok (.value (.int .i64 s.size)) w:=by
 simp[execOp,resolve,invoke,builtin,Builtin.len_,hu,hx,goInt]
theorem aem{dst}{ts}{x y}{t'}{p}{af}{g}{k k'}{m n}(hx:a.eval x=.int k m)(hy:a.eval y=.int k' n):
  (execOp a.eval ⟨dst,.call ⟨.builtin .min,#[x,y],ts⟩,t',p,af,g⟩).run P w=.ok (.value (.int k (if n<m then n else m))) w:=by
 simp[execOp,resolve,invoke,builtin,hx,hy,run_min_int2]
theorem aen{dst:Option Tmp}{ts}{x y}{t'}{p}{af}{g}{k k'}{m n}(hx:a.eval x=.int k m)(hy:a.eval y=.int k' n):
  (execOp a.eval ⟨dst,.call ⟨.builtin .max,#[x,y],ts⟩,t',p,af,g⟩).run P w=.ok (.value (.int k (if n>m then n else m))) w:=by
 simp[execOp,resolve,invoke,builtin,hx,hy,run_max_int2]
theorem Di{dst:Option Tmp}{t ty:TypeId}{x y:Operand}{t':TypeId}{p:String}{af:Array Edge}{g:Option (Nat×Bool)}{e:TypeId}{q:Option Addr}{b:Bool}(hu:(underlying t).run P w=.ok (.pointer e) w)(hx:a.eval x=.pointer q)(hy:a.eval y=.pointer none)(hb:(q.isNone)=b):
  (execOp a.eval ⟨dst,.binOp .eql t x y ty,t',p,af,g⟩).run P w=.ok (.value (.bool b)) w:=by
 subst hb;have hE:∀d,(Op.equalIn (d+1) t (.pointer q) (.pointer none)).run P w=.ok q.isNone w:=fun d=>by
  unfold Op.equalIn;cases q<;>simp only[Sem.run_bind,hu,Result.andThen_ok]<;>rfl
 have hB:binOp .eql t (.pointer q) (.pointer none)=(do pure (.bool ((<-Op.equal t (.pointer q) (.pointer none))))):=by cases q<;>rfl
 have hG:eqGuard .eql t x y (.pointer q) (.pointer none)=pure ():=rfl;simp only[execOp,hx,hy,hG,hB,Op.equal,Op.maxDepth,Sem.run_bind,Sem.run_pure,Result.andThen_ok,hE 9999]
theorem Dk{dst}{t ty}{x y}{t'}{p}{af}{g}{e}{q}{b}(hu:(underlying t).run P w=.ok (.pointer e) w)(hx:a.eval x=.pointer none)(hy:a.eval y=.pointer q)(hb:(q.isNone)=b):
  (execOp a.eval ⟨dst,.binOp .eql t x y ty,t',p,af,g⟩).run P w=.ok (.value (.bool b)) w:=by
 subst hb;have hE:∀d,(Op.equalIn (d+1) t (.pointer none) (.pointer q)).run P w=.ok q.isNone w:=fun d=>by simp[Op.equalIn,hu]
 have hB:binOp .eql t (.pointer none) (.pointer q)=(do pure (.bool ((<-Op.equal t (.pointer none) (.pointer q))))):=rfl;have hG:eqGuard .eql t x y (.pointer none) (.pointer q)=pure _:=rfl;simp[execOp,hx,hy,hG,hB,Op.equal,Op.maxDepth,Sem.run_bind,Sem.run_pure,Result.andThen_ok,hE 9999]
theorem Dl{dst}{t ty}{x y}{t'}{p}{af}{g}{e}{q}{b}(hu:(underlying t).run P w=.ok (.pointer e) w)(hx:a.eval x=.pointer q)(hy:a.eval y=.pointer none)(hb:(!q.isNone)=b):
  (execOp a.eval ⟨dst,.binOp .neq t x y ty,t',p,af,g⟩).run P w=.ok (.value (.bool b)) w:=by
 subst hb;have hE:∀d,(Op.equalIn (d+1) t (.pointer q) (.pointer none)).run P w=.ok q.isNone w:=fun d=>by
  unfold Op.equalIn;cases q<;>simp only[Sem.run_bind,hu]<;>rfl
 have hB:binOp .neq t (.pointer q) (.pointer none)=(do pure (.bool (!(<-Op.equal t (.pointer q) (.pointer none))))):=rfl;have hG:eqGuard .neq t x y (.pointer q) (.pointer none)=pure _:=rfl;simp[execOp,hx,hy,hG,hB,Op.equal,Op.maxDepth,Sem.run_bind,Sem.run_pure,Result.andThen_ok,hE 9999]
theorem Dm{dst:Option Tmp}{t ty}{x y}{t'}{p}{af}{g}{e}{q}{b}(hu:(underlying t).run P w=.ok (.pointer e) w)(hx:a.eval x=.pointer none)(hy:a.eval y=.pointer q)(hb:(!q.isNone)=b):
  (execOp a.eval ⟨dst,.binOp .neq t x y ty,t',p,af,g⟩).run P w=.ok (.value (.bool b)) w:=by
 subst hb;have hE:∀d,(Op.equalIn (d+1) t (.pointer none) (.pointer q)).run P w=.ok q.isNone w:=fun d=>by simp[Op.equalIn,hu]
 have hB:binOp .neq t (.pointer none) (.pointer q)=(do pure (.bool (!(<-Op.equal t (.pointer none) (.pointer q))))):=by cases q<;>rfl
 have hG:eqGuard .neq t x y (.pointer none) (.pointer q)=pure _:=rfl;simp[execOp,hx,hy,hG,hB,Op.equal,Op.maxDepth,Sem.run_bind,Sem.run_pure,Result.andThen_ok,hE 9999]
theorem Nw{dst}{t ty}{x y}{t'}{p}{af}{g}{m n}(hu:P.underlying t=some .bool)(hx:a.eval x=.bool m)(hy:a.eval y=.bool n):
  (execOp a.eval ⟨dst,.binOp .eql t x y ty,t',p,af,g⟩).run P w=.ok (.value (.bool (m==n))) w:=by
 have hG:eqGuard .eql t x y (.bool m) (.bool n)=pure _:=rfl;simp[execOp,hx,hy,hG,run_eql_bool w t m n hu]
theorem Nx{dst}{t ty}{x y}{t'}{p}{af}{g}{m n}(hu:P.underlying t=some .bool)(hx:a.eval x=.bool m)(hy:a.eval y=.bool n):
  (execOp a.eval ⟨dst,.binOp .neq t x y ty,t',p,af,g⟩).run P w=.ok (.value (.bool (!(m==n)))) w:=by
 have hG:eqGuard .neq t x y (.bool m) (.bool n)=pure _:=rfl;simp[execOp,hx,hy,hG,run_neq_bool w t m n hu]
theorem FH{dst:Option Tmp}{t ty:TypeId}{x y:Operand}{t'}{p}{af}{g}{e}{s:Sl}(hu:(underlying t).run P w=.ok (.slice e) w)(hx:a.eval x=s.v)(hy:a.eval y=.slice none 0 0):
  (execOp a.eval ⟨dst,.binOp .eql t x y ty,t',p,af,g⟩).run P w=.ok (.value (.bool (s.a.isNone))) w:=by
 obtain⟨sa,sn,sc⟩:=s;have hE:∀d,(Op.equalIn (d+1) t (.slice sa sn sc) (.slice none 0 0)).run P w=.ok sa.isNone w:=fun d=>by
  unfold Op.equalIn;cases sa<;>simp only[Sem.run_bind,hu]<;>rfl
 have hB:binOp .eql t (.slice sa sn sc) (.slice none 0 0)=(do pure (.bool ((<-Op.equal t (.slice sa sn sc) (.slice none 0 0))))):=by cases sa<;>rfl
 have hG:eqGuard .eql t x y (.slice sa sn sc) (.slice none 0 0)=pure _:=rfl;simp[execOp,hx,hy,hG,hB,Op.equal,Op.maxDepth,Sem.run_bind,Sem.run_pure,Result.andThen_ok,hE 9999]
theorem FI{dst}{t ty}{x y}{t'}{p}{af}{g}{e}{s:Sl}(hu:(underlying t).run P w=.ok (.slice e) w)(hx:a.eval x=.slice none 0 0)(hy:a.eval y=s.v):
  (execOp a.eval ⟨dst,.binOp .eql t x y ty,t',p,af,g⟩).run P w=.ok (.value (.bool (s.a.isNone))) w:=by
 obtain⟨sa,sn,sc⟩:=s;have hE:∀d,(Op.equalIn (d+1) t (.slice none 0 0) (.slice sa sn sc)).run P w=.ok sa.isNone w:=fun d=>by simp[Op.equalIn,hu]
 have hB:binOp .eql t (.slice none 0 0) (.slice sa sn sc)=(do pure (.bool ((<-Op.equal t (.slice none 0 0) (.slice sa sn sc))))):=rfl;have hG:eqGuard .eql t x y (.slice none 0 0) (.slice sa sn sc)=pure _:=rfl;simp[execOp,hx,hy,hG,hB,Op.equal,Op.maxDepth,Sem.run_bind,Sem.run_pure,Result.andThen_ok,hE 9999]
theorem FJ{dst}{t ty}{x y}{t'}{p}{af}{g}{e}{s:Sl}(hu:(underlying t).run P w=.ok (.slice e) w)(hx:a.eval x=s.v)(hy:a.eval y=.slice none 0 0):
  (execOp a.eval ⟨dst,.binOp .neq t x y ty,t',p,af,g⟩).run P w=.ok (.value (.bool (!s.a.isNone))) w:=by
 obtain⟨sa,sn,sc⟩:=s;have hE:∀d,(Op.equalIn (d+1) t (.slice sa sn sc) (.slice none 0 0)).run P w=.ok sa.isNone w:=fun d=>by
  unfold Op.equalIn;cases sa<;>simp only[Sem.run_bind,hu]<;>rfl
 have hB:binOp .neq t (.slice sa sn sc) (.slice none 0 0)=(do pure (.bool (!(<-Op.equal t (.slice sa sn sc) (.slice none 0 0))))):=by cases sa<;>rfl
 have hG:eqGuard .neq t x y (.slice sa sn sc) (.slice none 0 0)=pure _:=rfl;simp[execOp,hx,hy,hG,hB,Op.equal,Op.maxDepth,Sem.run_bind,Sem.run_pure,Result.andThen_ok,hE 9999]
theorem FK{dst:Option Tmp}{t ty:TypeId}{x y:Operand}{t':TypeId}{p:String}{af}{g}{e}{s:Sl}(hu:(underlying t).run P w=.ok (.slice e) w)(hx:a.eval x=.slice none 0 0)(hy:a.eval y=s.v):
  (execOp a.eval ⟨dst,.binOp .neq t x y ty,t',p,af,g⟩).run P w=.ok (.value (.bool (!s.a.isNone))) w:=by
 obtain⟨sa,sn,sc⟩:=s;have hE:∀d,(Op.equalIn (d+1) t (.slice none 0 0) (.slice sa sn sc)).run P w=.ok sa.isNone w:=fun d=>by simp[Op.equalIn,hu]
 have hB:binOp .neq t (.slice none 0 0) (.slice sa sn sc)=(do pure (.bool (!(<-Op.equal t (.slice none 0 0) (.slice sa sn sc))))):=by cases sa<;>rfl
 have hG:eqGuard .neq t x y (.slice none 0 0) (.slice sa sn sc)=pure _:=rfl;simp[execOp,hx,hy,hG,hB,Op.equal,Op.maxDepth,Sem.run_bind,Sem.run_pure,Result.andThen_ok,hE 9999]
theorem IA{dst}{t e}{x lo}{t'}{p}{af}{g}{s:Sl}{k}{l sz:Nat}
  (hu:(underlying t).run P w=.ok (.slice e) w) (hsz:(sizeOf e).run P w=.ok sz w) (hx:a.eval x=s.v) (hl:a.eval lo=.int k l) (h1:l<=s.n) (_h2:s.n<=s.c) (_h3:s.c<=s.c):
  (execOp a.eval ⟨dst,.slice t x (some lo) none none,t',p,af,g⟩).run P w=.ok (.value (s.cut l s.n s.c sz).v) w:=by
 simp[execOp,hx,Instr.sliceAt,hu,Sem.run_bind,Result.andThen_ok,Instr.slice,Instr.sliceBounds,dR,zj,Sem.run_pure,lI hl h1,hsz,Sl.cut]
theorem IB{dst}{t e}{x hi}{t'}{p}{af}{g}{s:Sl}{k}{h sz:Nat}
  (hu:(underlying t).run P w=.ok (.slice e) w) (hsz:(sizeOf e).run P w=.ok sz w) (hx:a.eval x=s.v) (hh:a.eval hi=.int k h) (_h1:0<=h) (h2:h<=s.c) (_h3:s.c<=s.c):
  (execOp a.eval ⟨dst,.slice t x none (some hi) none,t',p,af,g⟩).run P w=.ok (.value (s.cut 0 h s.c sz).v) w:=by
 simp[execOp,hx,Instr.sliceAt,hu,Sem.run_bind,Result.andThen_ok,Instr.slice,Instr.sliceBounds,dR,zj,Sem.run_pure,lI hh h2,hsz,Sl.cut]
theorem IC{dst}{t e}{x lo hi}{t'}{p}{af}{g}{s:Sl}{k k'}{l h sz:Nat}
  (hu:(underlying t).run P w=.ok (.slice e) w) (hsz:(sizeOf e).run P w=.ok sz w) (hx:a.eval x=s.v) (hl:a.eval lo=.int k l) (hh:a.eval hi=.int k' h) (h1:l<=h) (h2:h<=s.c) (_h3:s.c<=s.c):
  (execOp a.eval ⟨dst,.slice t x (some lo) (some hi) none,t',p,af,g⟩).run P w=.ok (.value (s.cut l h s.c sz).v) w:=by
 simp[execOp,hx,Instr.sliceAt,hu,Sem.run_bind,Result.andThen_ok,Instr.slice,Instr.sliceBounds,dR,zj,Sem.run_pure,lI hh h2,lI hl h1,hsz,Sl.cut]
theorem IE{dst}{t e}{x hi mx}{t'}{p}{af}{g}{s:Sl}{k' k2}{h m sz:Nat}
  (hu:(underlying t).run P w=.ok (.slice e) w) (hsz:(sizeOf e).run P w=.ok sz w) (hx:a.eval x=s.v) (hh:a.eval hi=.int k' h) (hm:a.eval mx=.int k2 m) (_h1:0<=h) (h2:h<=m) (h3:m<=s.c):
  (execOp a.eval ⟨dst,.slice t x none (some hi) (some mx),t',p,af,g⟩).run P w=.ok (.value (s.cut 0 h m sz).v) w:=by
 simp[execOp,hx,Instr.sliceAt,hu,Sem.run_bind,Result.andThen_ok,Instr.slice,Instr.sliceBounds,dR,zj,Sem.run_pure,lI hm h3,lI hh h2,hsz,Sl.cut]
theorem IG{dst}{t e}{x lo hi mx}{t'}{p}{af}{g}{s:Sl}{k k' k2}{l h m sz:Nat}
  (hu:(underlying t).run P w=.ok (.slice e) w) (hsz:(sizeOf e).run P w=.ok sz w) (hx:a.eval x=s.v) (hl:a.eval lo=.int k l) (hh:a.eval hi=.int k' h) (hm:a.eval mx=.int k2 m) (h1:l<=h) (h2:h<=m) (h3:m<=s.c):
  (execOp a.eval ⟨dst,.slice t x (some lo) (some hi) (some mx),t',p,af,g⟩).run P w=.ok (.value (s.cut l h m sz).v) w:=by
 simp only[execOp,hx,Instr.sliceAt,hu,Sem.run_bind,Result.andThen_ok,Instr.slice,Instr.sliceBounds,dR,Sem.run_pure,lI hm h3,lI hh h2,lI hl h1,hsz,Sl.cut]
section
variable {K:Act->av->Prop} {o:Oper}
theorem Zp(hg:Region.wanted o (yielded ops a.tmps)=true)(h:o.wp P a w (wpList P ops Q rest) Q):wpList P ops Q (o::rest) a w:=by
 unfold wpList;simp_all
theorem xM v (hr:(execOp a.eval o).run P w=.ok (.value v) w') (ha:a.put o.dst v=a') (h:K a' w'):o.wp P a w K Q:=by
 subst ha;unfold Oper.wp;rw[hr];exact h
theorem PV(hr:(execOp a.eval o).run P w=.ok .skip w')(ha:a.put o.dst undef=a')(h:K a' w'):o.wp P a w K Q:=by
 subst ha;unfold Oper.wp;rw[hr];exact h
theorem KL{f}{args}(hr:(execOp a.eval o).run P w=.ok (.enter f args) w)
  (h:Calls P f args w fun e w'=>∃v a',e=.returned v/\a.put o.dst v=a'/\K a' w'):o.wp P a w K Q:=by
 unfold Oper.wp;rw[hr];refine h.mono ?_;simp_all
theorem FL{dst}{ty}{x y}{t'}{p}{af}{g}{b o}{cs vs EY}{et}{n}
  (hsz:(sizeOf ty).run P w=.ok n w) (hx:a.eval x=.pointer (some ⟨b,o,none⟩)) (hv:(a.eval y).cells=vs.toArray) (hn:vs.length=n)
  (h1:vs.all Value.oneCell'=true) (hb:Blk w b et cs) (JU:o+vs.length<=cs.length) (nP:cj cs o vs=EY) (ha:a.put dst undef=a')
  (h:∀w1,Only [b] w w1->Blk w1 b et EY->K a' w1):Oper.wp P ⟨dst,.store ty x y,t',p,af,g⟩ a w K Q:=
 PV (UY hsz hx hv hn (dY.1 h1) hb JU) ha (h _ (Only.setRow _ _ _) (by rw[<-nP];exact hb.setRow _))
theorem FM{dst}{ty}{t'}{p}{af}{g}{z}{zs}{a':Nat->Act}
  (hz:(zeroValue ty).run P w=.ok z w) (hc:z.cells=zs.toArray) (ha:∀b,a.put dst (.pointer (some ⟨b,0,none⟩))=a' b)
  (h:∀b w1,w.heap.size<=b->Only [] w w1->Blk w1 b ty zs->K (a' b) w1):Oper.wp P ⟨dst,.alloc ty,t',p,af,g⟩ a w K Q:=
 xM _ (UZ hz hc) (ha _) (h _ _ (aX _) (Only.alloc _ _) (Blk.alloc _ _ _))
theorem Zr{dst}{ty}{x}{t'}{p}{af}{g}{zs}{a':Nat->Act}
  (hc:(a.eval x).cells=zs.toArray) (ha:∀b,a.put dst (.pointer (some ⟨b,0,none⟩))=a' b)
  (h:∀b w1,w.heap.size<=b->Only [] w w1->Blk w1 b ty zs->K (a' b) w1):Oper.wp P ⟨dst,.box ty x,t',p,af,g⟩ a w K Q:=
 xM _ (aef hc) (ha _) (h _ _ (aX _) (Only.alloc _ _) (Blk.alloc _ _ _))
end
theorem Ny{id}(h:Q .normal a w):Exit.inBlock id Q (.exit id) a w:=by simpa[Exit.inBlock]using h
theorem IH{id YC}(ik:(YC==id)=false)(h:Q (.exit YC) a w):Exit.inBlock id Q (.exit YC) a w:=by simpa[Exit.inBlock,by simpa using ik]using h
def B3(P:Program)(a:Act)(w:av):List ResultVar->List aw->Prop
 | [],[]=>True
 | .tmp t::r,v::vs=>a.eval (.tmp t)=v/\B3 P a w r vs
 | .cell p t::r,v::vs=>(∃ad,a.eval (.tmp p)=.pointer (some ad)/\(loadVar t ad).run P w=.ok v w)/\B3 P a w r vs
 | _,_=>False
theorem nu(f:ResultVar->Sem aw)(hf1:∀t,f (.tmp t)=pure (a.tmps.getD t undef))(hf2:∀q t,f (.cell q t)=(do loadVar t (<-asAddr (a.tmps.getD q undef)))):
  ∀rs vs,B3 P a w rs vs->(rs.mapM f).run P w=.ok vs w
 | [],[],_=>rfl
 | [],_::_,h=>h.elim
 | .tmp t::r,[],h=>h.elim
 | .cell _ _::r,[],h=>h.elim
 | .tmp t::r,v::vs,h=>by
  have ih:=nu f hf1 hf2 r vs h.2;have h1:a.tmps.getD t undef=v:=h.1;simp_all
 | .cell q t::r,v::vs,h=>by
  have ih:=nu f hf1 hf2 r vs h.2;obtain⟨⟨ad,h1,h2⟩,_⟩:=h;have h1':a.tmps.getD q undef=.pointer _:=h1;rw[List.mapM_cons,hf2];simp[h1',asAddr,h2,ih]
theorem Zs{fn}{rs}{v}(h:fn.results=rs.toArray)(hr:B3 P a w rs [v]):(results fn a.tmps).run P w=.ok v w:=by
 unfold results;rw[h,List.mapM_toArray];simp only[Sem.run_bind,map_eq_pure_bind];rw[nu _ (fun _=>rfl) (fun _ _=>rfl) rs [v] hr];rfl
theorem II{fn}{rs}{vs}(h:fn.results=rs.toArray)(hn:(vs.length==1)=false)(hr:B3 P a w rs vs):(results fn a.tmps).run P w=.ok (.tuple vs.toArray) w:=by
 unfold results;rw[h,List.mapM_toArray];simp only[Sem.run_bind,map_eq_pure_bind,Sem.run_pure];rw[nu _ (fun _=>rfl) (fun _ _=>rfl) rs vs hr];simp_all
theorem U4{fn}{R:aw->av->Prop}{v}(hr:(results fn a.tmps).run P w=.ok v w)(hd:a.defers=[])(h:R v w):
 bodyPost P fn (fun e w'=>∃v,e=.returned v/\R v w') .ret a w:=bodyPost_ret hr hd ⟨v,rfl,h⟩
theorem IJ{fn}{R:aw->av->Prop}{v}(hr:(results fn a.tmps).run P w=.ok v w)(hd:a.defers=[])(h:R v w):
 bodyPost P fn (fun e w'=>∃v,e=.returned v/\R v w') .normal a w:=bodyPost_end hr hd ⟨v,rfl,h⟩
theorem Dp{ty}{ad}{cs}{n}(JS:(isAgg ty).run P w=.ok true w)(hsz:(sizeOf ty).run P w=.ok n w)(hn:cs.length=n)(hc:Cells w ad cs):
  (loadVar ty ad).run P w=.ok (.agg cs.toArray) w:=by
 have hl:=run_loadCells_list (P:=P) w ad cs hc;rw[hn]at hl;simp[loadVar,JS,hsz,hl,Sem.run_pure]
theorem BB{ty}{ad}{v}(JS:(isAgg ty).run P w=.ok false w)(hc:w.cell? ad=some v):
  (loadVar ty ad).run P w=.ok v w:=by
 simp[loadVar,JS,jQ,run_load,hc]
end
section
variable {P:Program} {ops:Array Oper} {rest:List Oper} {a a':Act} {w:av} {Q:Act->Prop}
theorem aeo{o} v (hg:Region.wanted o (yielded ops a.tmps)=true)
  (hr:∀w',(∃n,w'=w.drewN n)->(execOp a.eval o).run P w'=.ok (.value v) w') (ha:a.put o.dst v=a')
  (h:wpQuiet P ops (fun w'=>∃n,w'=w.drewN n) Q rest a'):wpQuiet P ops (fun w'=>∃n,w'=w.drewN n) Q (o::rest) a:=by
 subst ha;unfold wpQuiet;rw[if_pos hg];refine⟨v,fun w' hw'=>?_,h⟩;unfold Oper.quietAt;rw[hr w' hw'];exact⟨rfl,rfl⟩
theorem akz{o}(hg:Region.wanted o (yielded ops a.tmps)=false)(ha:a.put o.dst undef=a')
  (h:wpQuiet P ops (fun w'=>∃n,w'=w.drewN n) Q rest a'):wpQuiet P ops (fun w'=>∃n,w'=w.drewN n) Q (o::rest) a:=by
 subst ha;unfold wpQuiet;simp_all
end
theorem PW{w w'}:bU [] w w':=fun _ h=>by simp at h
theorem bU.refl bs w:bU bs w w:=fun _ _=>rfl
section
variable {P:Program} {ops:Array Oper} {Q:Exit->Act->av->Prop} {md:Region.Mode} {E:Nat->av->av->Prop} {F:av->Prop}
def fx(P:Program)(md:Region.Mode)(ops:Array Oper)(Q:Exit->Act->av->Prop)(E:Nat->av->av->Prop):Nat->Array Bool->Act->av->Prop
 | 0,bE,a,w=>Region.ready md ops bE=[]/\Q .normal a w
 | eY+1,bE,a,w=>
  (Region.ready md ops bE=[]->Q .normal a w)/\
  ∀i∈Region.ready md ops bE,wpOp P ops Q i (fun a' w'=>E i w w'/\fx P md ops Q E eY (bE.setIfInBounds i true) a' w') a w
theorem zu:∀eY bE a w,fx P md ops Q E eY bE a w->wpAny P md ops Q eY bE a w
 | 0,_,_,_,h=>h
 | eY+1,_,_,_,h=>⟨h.1,fun i hi=>wpOp_mono (fun a' w' h'=>zu eY _ a' w' h'.2) (h.2 i hi)⟩
def qB(md:Region.Mode)(ops:Array Oper)(bE:Array Bool):Prop:=∀k o,ops[k]? =some o->bE.getD k false=true->∀e∈o.after,Region.binds md e=true->bE.getD e.on false=true
def vF(md:Region.Mode)(ops:Array Oper)(bE:Array Bool):Bool:=
 (List.range ops.size).all fun k=>!bE.getD k false||((ops[k]?).map (·.after.all fun e=>!Region.binds md e||bE.getD e.on false)).getD true
theorem B4{bE}(h:vF md ops bE=true):qB md ops bE:=by
 intro k o hk hl e he hb;have:=(dY.1 h) k (fG.2 (ly.1 hk).1);simp only[hl,mX,hk,dR,me,Array.all_eq_true_iff_forall_mem,cn]at this
 grind
theorem qB.add{bE}{j}(h:qB md ops bE)(hj:j∈Region.ready md ops bE):qB md ops (bE.setIfInBounds j true):=by
 intro k o hk hl e he hb;obtain⟨_,oj,YD,mc⟩:=mem_ready.1 hj;by_cases hkj:j=k
 ·subst hkj;rw[YD]at hk;injection hk with hk;subst hk;exact getD_set_true (mc e he hb)
 ·rw[getD_set_ne false hkj]at hl;exact getD_set_true (h k o hk hl e he hb)
def rR(md:Region.Mode)(ops:Array Oper)(i:Nat):List Nat->List Nat->Bool
 | _,[]=>true
 | seen,j::r=>((ops[j]?).map fun o=>o.after.any fun e=>Region.binds md e&&(e.on==i||seen.contains e.on)).getD false&&rR md ops i (j::seen) r
theorem xN{i}{bE}(hc:qB md ops bE):∀D seen,rR md ops i seen D=true->(∀k∈seen,bE.getD k false=true->bE.getD i false=true)->∀j∈D,∀o,ops[j]? =some o->(∀e∈o.after,Region.binds md e=true->bE.getD e.on false=true)->bE.getD i false=true
 | [],_,_,_,j,hj,_,_,_=>by simp at hj
 | k::r,seen,h,hs,j,hj,o,ho,mc=>by
  simp[rR,aQ]at h;have hk:∀o,ops[k]? =some o->(∀e∈o.after,Region.binds md e=true->bE.getD e.on false=true)->bE.getD i false=true:=by grind
  rcases aU.1 hj with rfl | hj
  ·exact hk o ho mc
  ·refine xN hc r _ h.2 ?_ j hj o ho mc;intro x hx hl;rcases aU.1 hx with rfl | hx
   ·have h1:=h.1;cases hx2:ops[x]? with
    | none=>rw[hx2]at h1;simp at h1
    | some ox=>exact hk ox hx2 (hc x ox hx2 hl)
   ·exact hs x hx hl
theorem qC{i}{oi}{v}{D}(hi:ops[i]? =some oi)(agH:∀(j:Nat) o cs b,ops[j]? =some o->o.op≠.select cs b)
  (hQ:∀c a w,Q (.panic c) (a.put oi.dst v) w->Q (.panic c) a w) (hD:rR md ops i [] D=true)
  (N:List Nat) (ph:∀j w w',j∉D->j∉N->F w->E j w w'->F w') (Oz:∀w,F w->E i w w):
  ∀eY bE a w,qB md ops bE->(∀k∈N,bE.getD k true=true)->
   (∀j oj,ops[j]? =some oj->j≠i->bE.getD j true=false->(∀e∈oj.after,Region.binds md e=true->e.on≠i)->oi.apart ops oj=true)->
   i∈Region.ready md ops bE->YieldsIf P ops F oi v a->F w->
   fx P md ops Q E eY (bE.setIfInBounds i true) (a.put oi.dst v) w->fx P md ops Q E (eY+1) bE a w:=by
 intro eY
 induction eY with
 | zero=>
  intro bE a w _ _ _ hr hy hF H;refine⟨fun h=>(by rw[h]at hr;cases hr),fun j hj=>?_⟩;by_cases YE:j=i
  ·subst YE;exact hy.wpOp hi hF ⟨Oz w hF,H⟩
  ·have:=ready_mono hj YE;rw[H.1]at this;cases this
 | succ eY ih=>
  intro bE a w mT hN Nf hr hy hF H;refine⟨fun h=>(by rw[h]at hr;cases hr),fun j hj=>?_⟩;by_cases YE:j=i
  ·subst YE;exact hy.wpOp hi hF ⟨Oz w hF,H⟩
  ·have h1:=H.2 j (ready_mono hj YE);obtain⟨abf,oj,YD,mc⟩:=mem_ready.1 hj;have atK:=(mem_ready.1 hr).1;have hli:bE.getD i false=false:=by grind
   have am4:∀e∈oj.after,Region.binds md e=true->e.on≠i:=fun e he hb heq=>by grind
   have hjD:j∉D:=fun hm=>by
    have:=xN mT D [] hD (by simp) j hm oj YD mc;rw[hli]at this;cases this
   have hjN:j∉N:=fun hm=>by
    have:=hN j hm;rw[abf]at this;cases this
   have hN':∀k∈N,(bE.setIfInBounds j true).getD k true=true:=fun k hk=>by
    by_cases hjk:j=k
    ·subst hjk;exact absurd hk hjN
    ·rw[getD_set_ne true hjk];exact hN k hk
   have h2:=wpOp_putIf YD (Nf j oj YD YE abf am4) (fun cs b=>agH i oi cs b hi) (fun cs b=>agH j oj cs b YD) hQ hy h1;have E1:∀k ok,ops[k]? =some ok->k≠i->(bE.setIfInBounds j true).getD k true=false->
     _->oi.apart ops ok=true:=fun k ok hk hki hun hno=>by
    refine Nf k ok hk hki ?_ hno;by_cases hjk:j=k
    ·subst hjk;exact abf
    ·rw[getD_set_ne true hjk]at hun;exact hun
   refine wpOp_mono (fun a' w' h3=>⟨h3.2.1,ih _ a' w' (mT.add hj) hN' E1 (ready_mono hr (Ne.symm YE)) h3.1 (ph j w w' hjD hjN hF h3.2.1) ?_⟩) h2;rw[Array.setIfInBounds_comm _ _ YE];exact h3.2.2
theorem IK i {eh} {oi} {a a'} {w} {eY} {bE} (D N:List Nat) v F (hi:gv eh i=some oi)
  (hs:Region.noSelect eh.toArray=true) (hf:Region.free md eh.toArray bE i=true) (hr:(Region.ready md eh.toArray bE).contains i=true) (hc:vF md eh.toArray bE=true) (hD:rR md eh.toArray i [] D=true) (hN:(N.all fun k=>bE.getD k true)=true)
  (hQ:∀c a w,Q (.panic c) (a.put oi.dst v) w->Q (.panic c) a w) (ph:∀j w w',j∉D->j∉N->F w->E j w w'->F w') (Oz:∀w,F w->E i w w) (hF:F w)
  (hy:YieldsIf P eh.toArray F oi v a) (ha:a.put oi.dst v=a')
  (h:fx P md eh.toArray Q E eY (bE.setIfInBounds i true) a' w):fx P md eh.toArray Q E (eY+1) bE a w:=by
 subst ha;have Be:eh.toArray[i]? =some oi:=by rw[jJ]at hi;simpa using hi
 exact qC Be (Region.noSelect_spec hs) hQ hD N ph Oz eY bE a w (B4 hc) (fun k hk=>by grind) (Region.free_spec Be hf) (by simpa using hr) hy hF h
theorem aep i {eh} {oi} {a} {w} {eY} {bE} (hi:gv eh i=some oi) (hr:Region.ready md eh.toArray bE=[i])
  (hg:Region.wanted oi (yielded eh.toArray a.tmps)=true)
  (h:oi.wp P a w (fun a' w'=>E i w w'/\fx P md eh.toArray Q E eY (bE.setIfInBounds i true) a' w') Q):fx P md eh.toArray Q E (eY+1) bE a w:=by
 have Be:eh.toArray[i]? =some oi:=by rw[jJ]at hi;simpa using hi
 refine⟨fun h0=>(by rw[h0]at hr;cases hr),fun j hj=>?_⟩;rw[hr]at hj;obtain rfl:j=i:=by simpa using hj
 unfold wpOp;simp_all
theorem U5 i {eh} {oi} {a a'} {w} {eY} {bE} (hi:gv eh i=some oi) (hr:Region.ready md eh.toArray bE=[i])
  (hg:Region.wanted oi (yielded eh.toArray a.tmps)=false) (hE:E i w w) (ha:a.put oi.dst undef=a')
  (h:fx P md eh.toArray Q E eY (bE.setIfInBounds i true) a' w):fx P md eh.toArray Q E (eY+1) bE a w:=by
 subst ha;have Be:eh.toArray[i]? =some oi:=by rw[jJ]at hi;simpa using hi
 refine⟨fun h0=>(by rw[h0]at hr;cases hr),fun j hj=>?_⟩;rw[hr]at hj;obtain rfl:j=i:=by simpa using hj
 unfold wpOp;simp_all
theorem aeq i j {eh} {oi oj} {a} {w} {eY} {bE} (hi:gv eh i=some oi) (hj:gv eh j=some oj) (hr:Region.ready md eh.toArray bE=[i,j])
  (h1:if Region.wanted oi (yielded eh.toArray a.tmps)then oi.wp P a w (fun a' w'=>E i w w'/\fx P md eh.toArray Q E eY (bE.setIfInBounds i true) a' w') Q∨(oi.asks P a w/\LetsOut Q)
   else(fun a' w'=>E i w w'/\fx P md eh.toArray Q E eY (bE.setIfInBounds i true) a' w') (a.put oi.dst undef) w)
  (h2:if Region.wanted oj (yielded eh.toArray a.tmps)then oj.wp P a w (fun a' w'=>E j w w'/\fx P md eh.toArray Q E eY (bE.setIfInBounds j true) a' w') Q∨(oj.asks P a w/\LetsOut Q)
   else(fun a' w'=>E j w w'/\fx P md eh.toArray Q E eY (bE.setIfInBounds j true) a' w') (a.put oj.dst undef) w):fx P md eh.toArray Q E (eY+1) bE a w:=by
 have Be:eh.toArray[i]? =some oi:=by rw[jJ]at hi;simpa using hi
 have OA:eh.toArray[j]? =some oj:=by rw[jJ]at hj;simpa using hj
 refine⟨fun h0=>(by rw[h0]at hr;cases hr),fun k hk=>?_⟩;rw[hr]at hk;unfold wpOp;rcases aU.1 hk with rfl | hk<;>simp_all
theorem Zu{bE}{a}{w}{eY}(hr:Region.ready md ops bE=[])(h:Q .normal a w):fx P md ops Q E eY bE a w:=by
 cases eY with
 | zero=>exact⟨hr,h⟩
 | succ n=>exact⟨fun _=>h,by rw[hr];simp⟩
theorem FN{id}{eh:List Oper}{a}{w} E (hm:P.follows .mixedOrders=true)
  (h:fx P .any eh.toArray Q E eh.length (Array.replicate eh.length false) a w.drew):(Code.region id eh.toArray true).wp P Q a w:=by
 refine wp_region_any hm (zu (E:=E) _ _ _ _ ?_);simpa using h
def EL(ls:List (Nat×List Nat))(j:Nat)(w w':av):Prop:=match ls.lookup j with | some l=>bU l w w' | none=>w'.heap=w.heap
theorem PX{ls}{i}(h:ls.lookup i=none) w:EL ls i w w:=by unfold EL;rw[h]
theorem IL{s}{l} w w' (h:w'.heap[s.blk]? =w.heap[s.blk]?) (hc:zo w s l):zo w' s l:=
 ⟨hc.1,fun hl=>by
  obtain⟨ad,h1,h2⟩:=hc.2 hl;refine⟨ad,h1,h2.keep ?_⟩;simpa[Sl.blk,h1]using h⟩
theorem Xu{eh:List Oper}{o}{v}{a}(hg:Region.wanted o (yielded eh.toArray a.tmps)=true)(h:∀w,F w->(execOp a.eval o).run P w=.ok (.value v) w):YieldsIf P eh.toArray F o v a:=.inl ⟨hg,h⟩
theorem aer{eh:List Oper}{o}{a}(hg:Region.wanted o (yielded eh.toArray a.tmps)=false):YieldsIf P eh.toArray F o undef a:=.inr ⟨hg,rfl⟩
end
def rS(x:Int):Prop:= -9223372036854775808<=x/\x<=9223372036854775807
theorem wr{x}(h:rS x):IntKind.i64.wrap x=x:=IntWalk.i64_in _ ⟨h.1,h.2⟩
theorem fR{x}(h1: -9223372036854775808<=x)(h2:x<=9223372036854775807):IntKind.i64.wrap x=x:=IntWalk.i64_in _ ⟨h1,h2⟩
theorem PY x:rS (IntKind.i64.wrap x):=by
 rw[IntKind.wrap_i64];constructor<;>omega
abbrev Rp(α:Type):=av->(Nat->Prop)->α->List aw->Prop
structure Rp.Ok {α:Type} (r:Rp α):Prop where
 keep:∀{w w':av} {F:Nat->Prop} {x:α} {cs:List aw},r w F x cs->(∀k,F k->k<w.heap.size->w'.heap[k]? =w.heap[k]?)->r w' F x cs
 inHeap:∀{w:av} {F:Nat->Prop} {x:α} {cs:List aw},r w F x cs->r w (fun k=>F k/\k<w.heap.size) x cs
 mono:∀{w:av} {F G:Nat->Prop} {x:α} {cs:List aw},r w F x cs->(∀k,F k->G k)->r w G x cs
 one:∀{w:av} {F:Nat->Prop} {x:α} {cs:List aw},r w F x cs->∀v,v∈cs->v.oneCell'=true
section
variable {α:Type} {r:Rp α} {size:Nat} {w w':av} {F G:Nat->Prop} {s:Sl} {xs:List α}
structure SliceF (r:Rp α) (size:Nat) (w:av) (F:Nat->Prop) (s:Sl) (xs:List α):Prop where
 len:s.n=xs.length
 cap:s.n<=s.c
 nil0:s.a=none->s.c=0
 big:s.c<=9223372036854775807
 at_:∀j x,xs[j]? =some x->∃base cs,s.a=some base/\F base.block/\cs.length=size/\Cells w (base.add (j*size)) cs/\r w F x cs
theorem qD(a:Addr) n:(a.add n).block=a.block:=by unfold Addr.add;split<;>rfl
theorem pB(a:Addr) i j:(a.add i).add j=a.add (i+j):=by
 unfold Addr.add;by_cases hi:i=0<;>by_cases hj:j=0<;>simp[hi,hj,dA]
theorem B5(a:Addr):a.add 0=a:=rfl
theorem fL b o n:(⟨b,o,none⟩:Addr).add n=⟨b,o+n,none⟩:=by unfold Addr.add;split<;>simp_all
theorem Cells.sub{a}{cs vs}(h:Cells w a cs) k (hv:∀j v,vs[j]? =some v->cs[k+j]? =some v):Cells w (a.add k) vs:=fun j v hj=>by
 rw[pB];exact h _ v (hv j v hj)
theorem Cells.dQ{a}{cs}(h:Cells w a cs) k v (hv:cs[k]? =some v):Cells w (a.add k) [v]:=h.sub k fun j u hj=>by
 cases j with
 | zero=>simpa[hv]using hj
 | succ j=>simp at hj
theorem SliceF.nil(r:Rp α) size w F:SliceF r size w F Sl.nil []:=⟨rfl,aX _,fun _=>rfl,by decide,fun j x h=>by simp at h⟩
theorem SliceF.keep(hr:r.Ok)(h:SliceF r size w F s xs)(hs:0<size)(hk:∀k,F k->k<w.heap.size->w'.heap[k]? =w.heap[k]?):SliceF r size w' F s xs:=
 ⟨h.len,h.cap,h.nil0,h.big,fun j x hx=>by
  obtain⟨base,cs,h1,h2,h3,h4,h5⟩:=h.at_ j x hx;refine⟨base,cs,h1,h2,h3,h4.keep ?_,hr.keep h5 hk⟩;have bS:(base.add (j*size)).block<w.heap.size:=by
   cases cs with
   | nil=>simp at h3;omega
   | cons c cs=>exact h4.lt
  rw[qD]at bS⊢;exact hk _ h2 bS⟩
theorem SliceF.mono(hr:r.Ok)(h:SliceF r size w F s xs)(hk:∀k,F k->G k):SliceF r size w G s xs:=
 ⟨h.len,h.cap,h.nil0,h.big,fun j x hx=>by
  obtain⟨base,cs,h1,h2,h3,h4,h5⟩:=h.at_ j x hx;exact⟨base,cs,h1,hk _ h2,h3,h4,hr.mono h5 hk⟩⟩
theorem SliceF.inHeap(hr:r.Ok)(h:SliceF r size w F s xs)(hs:0<size):SliceF r size w (fun k=>F k/\k<w.heap.size) s xs:=
 ⟨h.len,h.cap,h.nil0,h.big,fun j x hx=>by
  obtain⟨base,cs,h1,h2,h3,h4,h5⟩:=h.at_ j x hx;refine⟨base,cs,h1,⟨h2,?_⟩,h3,h4,hr.inHeap h5⟩;have bS:(base.add (j*size)).block<w.heap.size:=by
   cases cs with
   | nil=>simp at h3;omega
   | cons c cs=>exact h4.lt
  rwa[qD]at bS⟩
theorem SliceF.get(h:SliceF r size w F s xs){i:Int}(h0:0<=i)(h1:i<s.n):
  ∃ad x cs,cW s i size ad/\xs[i.toNat]? =some x/\F ad.block/\cs.length=size/\Cells w ad cs/\r w F x cs:=by
 have hl:=h.len;have bS:i.toNat<xs.length:=by omega
 obtain⟨base,cs,g1,g2,g3,g4,g5⟩:=h.at_ i.toNat _ (aW bS);exact⟨_,_,cs,⟨base,g1,h0,h1,rfl⟩,aW bS,by rw[qD];exact g2,g3,g4,g5⟩
theorem SliceF.mem(h:SliceF r size w F s xs){x}(hx:x∈xs):∃cs,r w F x cs:=by
 obtain⟨j,hj⟩:=eT hx;obtain⟨_,cs,_,_,_,_,h5⟩:=h.at_ j x hj;exact⟨cs,h5⟩
theorem cW.amU{i}{a b}(h:cW s i size a)(k:cW s i size b):a=b:=by
 obtain⟨x,h1,_,_,h2⟩:=h;obtain⟨y,k1,_,_,k2⟩:=k;rw[h1]at k1;injection k1 with k1;rw[h2,k2,k1]
theorem SliceF.cut(h:SliceF r size w F s xs){lo hi m}(h1:lo<=hi)(h2:hi<=m)(h3:hi<=s.n)(h4:m<=s.c):SliceF r size w F (s.cut lo hi m size) ((xs.drop lo).take (hi-lo)):=by
 have hl:=h.len;refine⟨?_,?_,fun ha=>?_,by have:=h.big;simp[Sl.cut];omega,fun j x hx=>?_⟩
 ·simp[Sl.cut,cT,cH];omega
 ·simp[Sl.cut];omega
 ·simp[Sl.cut]at ha⊢;split at ha
  ·omega
  ·have:=h.nil0 (by simpa using ha);omega
 ·rw[List.getElem?_take]at hx;split at hx
  ·rw[kg]at hx;obtain⟨base,cs,g1,g2,g3,g4,g5⟩:=h.at_ _ _ hx;refine⟨base.add (lo*size),cs,?_,by rw[qD];exact g2,g3,?_,g5⟩
   ·simp[Sl.cut];rw[if_neg (by omega),g1];rfl
   ·rw[pB,<-eC];exact g4
  ·cases hx
end
structure BytesF (w:av) (F:Nat->Prop) (s:Sl) (l:List UInt8):Prop where
 rd:zo w s l
 cap:s.n<=s.c
 blk:∀ad,s.a=some ad->l≠[]->F ad.block
section
variable {w w':av} {F G:Nat->Prop} {s:Sl} {l:List UInt8}
theorem BytesF.nil w F:BytesF w F Sl.nil []:=⟨⟨rfl,fun h=>absurd rfl h⟩,aX _,fun _ _ h=>absurd rfl h⟩
theorem BytesF.mono(h:BytesF w F s l)(hk:∀k,F k->G k):BytesF w G s l:=⟨h.rd,h.cap,fun ad ha hl=>hk _ (h.blk ad ha hl)⟩
end
def fS{α:Type}(P:α->List aw->Prop):List α->List (List aw)->Prop
 | [],[]=>True
 | x::xs,c::cs=>P x c/\fS P xs cs
 | _,_=>False
section
variable {α:Type} {P Q:α->List aw->Prop}
theorem fS.len:∀{xs:List α} {css:List _},fS P xs css->xs.length=css.length
 | [],[],_=>rfl
 | x::xs,c::cs,h=>by simp[fS.len (xs:=xs) (css:=cs) h.2]
 | [],_::_,h=>h.elim
 | _::_,[],h=>h.elim
theorem fS.imp(hi:∀x c,P x c->Q x c):∀{xs:List α} {css:List _},fS P xs css->fS Q xs css
 | [],[],_=>trivial
 | x::xs,c::cs,h=>⟨hi _ _ h.1,fS.imp hi (xs:=xs) (css:=cs) h.2⟩
 | [],_::_,h=>h.elim
 | _::_,[],h=>h.elim
theorem fS.ze:∀{xs ys:List α} {css Fw:List _},fS P xs css->fS P ys Fw->fS P (xs++ys) (css++Fw)
 | [],_,[],_,_,k=>k
 | x::xs,_,c::cs,_,h,k=>⟨h.1,fS.ze (xs:=xs) (css:=cs) h.2 k⟩
 | [],_,_::_,_,h,_=>h.elim
 | _::_,_,[],_,h,_=>h.elim
theorem fS.get:∀{xs:List α} {css:List _},fS P xs css->∀{j:Nat} {x:α},xs[j]? =some x->∃cs,css[j]? =some cs/\P x cs
 | [],[],_,j,x,h=>by simp at h
 | y::xs,c::cs,k,0,x,h=>by
  simp at h;subst h;exact⟨c,rfl,k.1⟩
 | y::xs,c::cs,k,j+1,x,h=>by
  exact fS.get (xs:=xs) (css:=cs) k.2 h
 | [],_::_,h,_,_,_=>h.elim
 | _::_,[],h,_,_,_=>h.elim
theorem fS.mem:∀{xs:List α} {css:List _},fS P xs css->∀c,c∈css->∃x,P x c
 | [],[],_,c,h=>by simp at h
 | y::xs,d::cs,k,c,h=>by
  rcases aU.1 h with rfl | h
  ·exact⟨y,k.1⟩
  ·exact fS.mem (xs:=xs) (css:=cs) k.2 c h
 | [],_::_,h,_,_=>h.elim
 | _::_,[],h,_,_=>h.elim
theorem fS.take:∀n {xs:List α} {css:List _},fS P xs css->fS P (xs.take n) (css.take n)
 | 0,_,_,_=>by simp[fS]
 | _+1,[],[],_=>by simp[fS]
 | n+1,x::xs,c::cs,h=>by simp;exact⟨h.1,fS.take n (xs:=xs) (css:=cs) h.2⟩
 | _,[],_::_,h=>h.elim
 | _,_::_,[],h=>h.elim
theorem fS.set:∀{xs:List α} {css:List _} j {x:α} {c:List aw},fS P xs css->P x c->fS P (xs.set j x) (css.set j c)
 | [],[],_,_,_,_,_=>by simp[fS]
 | y::xs,d::cs,0,x,c,h,k=>⟨k,h.2⟩
 | y::xs,d::cs,j+1,x,c,h,k=>⟨h.1,fS.set (xs:=xs) (css:=cs) j h.2 k⟩
 | [],_::_,_,_,_,h,_=>h.elim
 | _::_,[],_,_,_,h,_=>h.elim
end
theorem zw{css:List (List aw)}{size}(h:∀c,c∈css->c.length=size):css.flatten.length=css.length*size:=by
 induction css with
 | nil=>simp
 | cons c cs ih=>
  rw[di,aP,h c (by simp),ih (fun d hd=>h d (by simp[hd])),bf,eC];omega
theorem KM{css:List _}{size}(h:∀c,c∈css->c.length=size):∀{j i:Nat} {cs:List aw} {v:aw},css[j]? =some cs->cs[i]? =some v->css.flatten[j*size+i]? =some v:=by
 induction css with
 | nil=>intro j i cs v hj;simp at hj
 | cons c cs ih=>
  intro j i ds v hj hi;have hc:=h c (by simp);cases j with
  | zero=>
   simp at hj;subst hj;simp;rw[bK (aV.1 hi).1];exact hi
  | succ j=>
   have:=ih (fun d hd=>h d (by simp[hd])) hj hi;rw[di,bT (by rw[hc,eC];omega),hc];rw[show _*size+i-size=j*size+i by rw[eC];omega];exact this
theorem Nz{css:List (List aw)}{size}(h:∀c,c∈css->c.length=size):∀n,css.flatten.take (n*size)=(css.take n).flatten:=by
 induction css with
 | nil=>intro n;simp
 | cons c cs ih=>
  intro n;cases n with
  | zero=>simp
  | succ n=>
   have hc:=h c (by simp);rw[di,dV,di,List.take_append,<-ih (fun d hd=>h d (by simp[hd])),hc,show _*size-size=n*size by rw[eC];omega,bq (by rw[hc,eC];omega)]
theorem IM{cs}{o}{v}(h:o<cs.length):cj cs o [v]=cs.set o v:=by
 rw[cj,List.set_eq_take_append_cons_drop,if_pos h];simp
theorem FO{size}{tail}{i}{v}:∀{css:List _} {n:Nat} {cs:List aw},(∀c,c∈css->c.length=size)->css[n]? =some cs->i<size->
  (css.flatten++tail).set (n*size+i) v=(css.set n (cs.set i v)).flatten++tail
 | [],n,cs,_,hn,_=>by simp at hn
 | c::css,0,cs,h,hn,hi=>by
  simp at hn;subst hn;have hc:=h c (by simp);simp;rw[List.set_append_left _ _ (by omega)]
 | c::css,n+1,cs,h,hn,hi=>by
  simp at hn;have hc:=h c (by simp);simp;rw[pw _ _ (by rw[hc,eC];omega),hc,show(n+1)*size+i-size=n*size+i by rw[eC];omega,FO (tail:=tail) (v:=v) (fun d hd=>h d (by simp[hd])) hn hi]
section
variable {w w':av} {a:Addr} {cs ds:List aw}
theorem Cells.ze(h:Cells w a cs)(k:Cells w (a.add cs.length) ds):Cells w a (cs++ds):=fun j v hj=>by
 by_cases bS:j<cs.length
 ·rw[bK bS]at hj;exact h j v hj
 ·rw[bT (by omega)]at hj;have:=k _ v hj;rw[pB,show cs.length+_=j by omega]at this;exact this
theorem Cells.nil w a:Cells w a []:=fun j v hj=>by simp at hj
end
section
variable {α:Type} {r:Rp α} {size:Nat} {w w':av} {F G:Nat->Prop} {s y:Sl} {xs ys:List α} {e:TypeId} {B:Nat}
abbrev mN(r:Rp α)(size:Nat)(w:av)(F:Nat->Prop):List α->List (List aw)->Prop:=fS fun x cs=>cs.length=size/\r w F x cs
theorem mN.sz{css}(h:mN r size w F xs css):∀c,c∈css->c.length=size:=fun c hc=>by
 obtain⟨_,h1,_⟩:=h.mem c hc;exact h1
theorem mN.keep(hr:r.Ok){css}(h:mN r size w F xs css)(hk:∀k,F k->k<w.heap.size->w'.heap[k]? =w.heap[k]?):mN r size w' F xs css:=
 h.imp fun _ _ h1=>⟨h1.1,hr.keep h1.2 hk⟩
theorem mN.mono(hr:r.Ok){css}(h:mN r size w F xs css)(hk:∀k,F k->G k):mN r size w G xs css:=
 h.imp fun _ _ h1=>⟨h1.1,hr.mono h1.2 hk⟩
theorem mN.inHeap(hr:r.Ok){css}(h:mN r size w F xs css):mN r size w (fun k=>F k/\k<w.heap.size) xs css:=
 h.imp fun _ _ h1=>⟨h1.1,hr.inHeap h1.2⟩
theorem SliceF.SX{base:Addr}:∀xs k,(∀j x,xs[j]? =some x->∃cs,cs.length=size/\Cells w (base.add ((k+j)*size)) cs/\r w F x cs)->
  ∃css,mN r size w F xs css/\Cells w (base.add (k*size)) css.flatten
 | [],k,_=>⟨[],trivial,Cells.nil _ _⟩
 | x::xs,k,h=>by
  obtain⟨cs,h1,h2,h3⟩:=h 0 x rfl;obtain⟨css,k1,k2⟩:=SliceF.SX xs _ (fun j y hj=>by
   obtain⟨ds,g1,g2,g3⟩:=h (j+1) y (by simpa using hj);exact⟨ds,g1,by rw[show k+1+j=k+(j+1) by omega];exact g2,g3⟩)
  refine⟨cs::css,⟨⟨h1,h3⟩,k1⟩,?_⟩;refine Cells.ze (by simpa using h2) ?_;rw[pB,h1,show k*size+size=(k+1)*size by rw[eC];omega];exact k2
theorem SliceF.flat(h:SliceF r size w F s xs)(hx:xs≠[]):∃base css,s.a=some base/\F base.block/\mN r size w F xs css/\Cells w base css.flatten:=by
 cases xs with
 | nil=>exact absurd rfl hx
 | cons x xs=>
  obtain⟨base,_,h1,h2,_⟩:=h.at_ 0 x rfl;obtain⟨css,k1,k2⟩:=SliceF.SX (r:=r) (size:=size) (w:=w) (F:=F) (base:=base) _ 0 (fun j y hj=>by
   obtain⟨b',cs,g1,g2,g3,g4,g5⟩:=h.at_ j y hj;rw[h1]at g1;injection g1 with g1;subst g1;exact⟨cs,g3,by simpa using g4,g5⟩)
  exact⟨base,css,h1,h2,k1,by rw[yL,B5]at k2;exact k2⟩
theorem SliceF.of{base}{css}(he:mN r size w F xs css)(ha:s.a=some base)(hF:F base.block)(hc:Cells w base css.flatten)(hn:s.n=xs.length)(BQ:s.n<=s.c)(YG:s.c<=9223372036854775807):SliceF r size w F s xs:=
 ⟨hn,BQ,fun h=>(by rw[ha]at h;cases h),YG,fun j x hx=>by
  obtain⟨cs,h1,h2,h3⟩:=he.get hx;exact⟨base,cs,ha,hF,h2,fun i v hi=>by rw[pB];exact hc _ v (KM he.sz h1 hi),h3⟩⟩
def Own(r:Rp α)(size:Nat)(e:TypeId)(B:Nat)(w:av)(F:Nat->Prop)(s:Sl)(xs:List α):Prop:=
 (s=Sl.nil/\xs=[])∨∃g css tail,s.a=some ⟨g,0,none⟩/\B<=g/\Blk w g e (css.flatten++tail)/\tail.length=(s.c-s.n)*size/\s.n=xs.length/\s.n<=s.c/\s.c<=9223372036854775807/\mN r size w (fun k=>F k/\k≠g) xs css
theorem Own.len(h:Own r size e B w F s xs):s.n=xs.length:=by
 rcases h with⟨rfl,rfl⟩ | ⟨g,css,tail,_,_,_,_,h,_⟩
 ·rfl
 ·exact h
theorem Own.cap(h:Own r size e B w F s xs):s.n<=s.c:=by
 rcases h with⟨rfl,rfl⟩ | ⟨g,css,tail,_,_,_,_,_,h,_,_⟩
 ·exact aX _
 ·exact h
theorem Own.slice(hr:r.Ok)(h:Own r size e B w F s xs):SliceF r size w (fun k=>F k∨(B<=k/\s.a=some ⟨k,0,none⟩)) s xs:=by
 rcases h with⟨rfl,rfl⟩ | ⟨g,css,tail,h1,h2,h4,h5,h6,h7,h9,h8⟩
 ·exact SliceF.nil _ _ _ _
 ·exact SliceF.of (h8.mono hr fun k hk=>.inl hk.1) h1 (.inr ⟨h2,h1⟩) (h4.cells 0 _ fun j v hj=>by
   rw[bO,bK (aV.1 hj).1];exact hj) h6 h7 h9
theorem Own.keep(hr:r.Ok)(h:Own r size e B w F s xs)(hk:∀k,(F k∨(B<=k/\s.a=some ⟨k,0,none⟩))->k<w.heap.size->w'.heap[k]? =w.heap[k]?):Own r size e B w' F s xs:=by
 rcases h with⟨rfl,rfl⟩ | ⟨g,css,tail,h1,h2,h4,h5,h6,h7,h9,h8⟩
 ·exact .inl ⟨rfl,rfl⟩
 ·exact .inr ⟨g,css,tail,h1,h2,(hk g (.inr ⟨h2,h1⟩) h4.lt).trans h4,h5,h6,h7,h9,h8.keep hr fun k hF=>hk k (.inl hF.1)⟩
theorem Own.mono(hr:r.Ok)(h:Own r size e B w F s xs)(hk:∀k,F k->G k):Own r size e B w G s xs:=by
 rcases h with⟨rfl,rfl⟩ | ⟨g,css,tail,h1,h2,h4,h5,h6,h7,h9,h8⟩
 ·exact .inl ⟨rfl,rfl⟩
 ·exact .inr ⟨g,css,tail,h1,h2,h4,h5,h6,h7,h9,h8.mono hr fun k h=>⟨hk k h.1,h.2⟩⟩
theorem Own.low{B'}(h:Own r size e B w F s xs)(hB:B'<=B):Own r size e B' w F s xs:=by
 rcases h with⟨rfl,rfl⟩ | ⟨g,css,tail,h1,h2,h4⟩
 ·exact .inl ⟨rfl,rfl⟩
 ·exact .inr ⟨g,css,tail,h1,bp hB h2,h4⟩
theorem Own.nil(r:Rp α) size e B w F:Own r size e B w F Sl.nil []:=.inl ⟨rfl,rfl⟩
theorem Own.inHeap(hr:r.Ok)(h:Own r size e B w F s xs):Own r size e B w (fun k=>F k/\k<w.heap.size) s xs:=by
 rcases h with⟨rfl,rfl⟩ | ⟨g,css,tail,h1,h2,h4,h5,h6,h7,h9,h8⟩
 ·exact .inl ⟨rfl,rfl⟩
 ·exact .inr ⟨g,css,tail,h1,h2,h4,h5,h6,h7,h9,(h8.inHeap hr).mono hr fun k h=>⟨⟨h.1.1,h.2⟩,h.1.2⟩⟩
theorem Own.blk(h:Own r size e B w F s xs){ad}(ha:s.a=some ad):B<=ad.block/\ad.block<w.heap.size:=by
 rcases h with⟨rfl,rfl⟩ | ⟨g,css,tail,h1,h2,h4,_⟩
 ·cases ha
 ·rw[h1]at ha;injection ha with ha;subst ha;exact⟨h2,h4.lt⟩
theorem SliceF.agw(h:SliceF r size w F s xs):∃css,mN r size w F xs css/\∀base,s.a=some base->Cells w base css.flatten:=by
 cases xs with
 | nil=>exact⟨[],trivial,fun b _=>Cells.nil _ _⟩
 | cons x xs=>
  obtain⟨base,css,h1,h2,h3,h4⟩:=h.flat (by simp);exact⟨css,h3,fun b hb=>by rw[h1]at hb;injection hb with hb;subst hb;exact h4⟩
theorem mN.JP{css}(h:mN r size w F xs css):css.flatten.length=xs.length*size:=by rw[zw h.sz,h.len]
theorem mN.one(hr:r.Ok){css}(h:mN r size w F xs css):∀v,v∈css.flatten->v.oneCell'=true:=fun v hv=>by
 obtain⟨c,hc,hv⟩:=List.mem_flatten.1 hv;obtain⟨x,_,hx⟩:=h.mem c hc;exact hr.one hx v hv
theorem aes(l m:List aw) z:(l.toArray++m.toArray++z)=(l++m++z.toList).toArray:=by
 simp
section
variable {P:Program} {t ty:TypeId} {i:TypeInfo} {z:aw} {bytes:Nat}
theorem vG(w:av) k (HT:z.cells.size=size):(Builtin.zeroCells z.cells k).toList.length=k*size:=by
 rw[jG,size_zeroCells,HT]
theorem NA(ht:P.underlying t=some (.slice e))(hi:P.info? e=some i)(hz:i.zero=some z)(lq:i.size=size)(OB:i.bytes=bytes)(HT:z.cells.size=size)
  (hr:r.Ok) {css} (k1:mN r size w F xs css) (k2:∀base,s.a=some base->Cells w base css.flatten) (yh:s.a=none->s.c=0) (rO:s.n=xs.length) (hsc:s.n<=s.c)
  (hy:SliceF r size w F y ys) (ql:s.c<s.n+y.n) (hm:(xs.length+ys.length)*bytes<=140737488355328) (yi:0<bytes):
  ∃s' w',(Builtin.append_ #[t,t] ty #[s.v,y.v]).run P w=.ok s'.v w'/\Own r size e w.heap.size w' F s' (xs++ys)/\Only [] w w'/\s'.a=some ⟨w.heap.size,0,none⟩:=by
 subst lq;subst OB;have YG:=bp (by have:=Fk (xs.length+ys.length) yi;omega) hm;have JV:=hy.len;have YH:y.n≠0:=by omega
 have hyx:ys≠[]:=fun h=>YH (by rw[JV,h];rfl);obtain⟨yb,Fw,m1,m2,m3,m4⟩:=hy.flat hyx;obtain⟨sa,sn,sc⟩:=s;obtain⟨ya,yn,yc⟩:=y;dsimp only at rO hsc yh JV YH ql m1 k2;subst m1;have hold:=Only.drew w;have key:∀kX Ps,kX=sn+yn->∀W',W'=w.drew.alloc (.cells (css.flatten.toArray++Fw.flatten.toArray++Builtin.zeroCells z.cells (grownCap w kX Ps e-kX)) e)->
   Own r i.size e w.heap.size W' F ⟨some ⟨w.heap.size,0,none⟩,kX,grownCap w kX Ps e⟩ (xs++ys)/\Only [] w W':=by
  rintro kX Ps rfl W' rfl;have hO:Only [] w (w.drew.alloc (.cells (css.flatten.toArray++Fw.flatten.toArray++Builtin.zeroCells z.cells (grownCap w (sn+yn) Ps e-(sn+yn))) e)):=hold.cf (Only.alloc _ _);refine⟨.inr ⟨w.heap.size,css++Fw,(Builtin.zeroCells z.cells _).toList,rfl,aX _,?_,vG w _ HT,?_,grownCap_ge _ _ _ _,grownCap_le_maxLen _ _ _ _ (by simp[maxLen];omega),?_⟩,hO⟩
  ·rw[aes,Fl];exact Blk.alloc w.drew e _
  ·simp;omega
  ·refine((mN.mono hr (mN.inHeap hr (fS.ze k1 m3)) (G:=fun k=>F k/\k≠w.heap.size) fun k h=>⟨h.1,by have:=h.2;omega⟩)).keep hr fun k hk bS=>hO.block k bS (by simp)
 cases sa with
 | none=>
  have hsc:=yh rfl;subst hsc;have Uo:sn=0:=by omega
  subst Uo;have hx:=cb rO.symm;subst hx;cases css with
  | cons c css=>exact k1.elim
  | nil=>
   have tf:=run_append_nil (P:=P) w t ty e i z ht hi hz yb yn yc Fw.flatten (by rw[m3.JP,JV]) m4 (by omega) (by omega) (by
    have:(0+ys.length)*i.bytes<=140737488355328:=by simpa using hm
    rw[bO,<-JV]at this;omega)
   obtain⟨g1,g2⟩:=key yn 0 (by simp) _ rfl;exact⟨_,_,tf,by simpa using g1,by simpa using g2,rfl⟩
 | some b=>
  have tf:=run_append_grow (P:=P) w t ty e i z ht hi hz b sn sc css.flatten (by rw[k1.JP,rO]) (k2 b rfl) yb yn yc Fw.flatten (by rw[m3.JP,JV]) m4 ql (by omega) (growslice_fits ql (by rw[rO,JV];exact hm));obtain⟨g1,g2⟩:=key _ sc rfl _ rfl;exact⟨_,_,tf,g1,g2,rfl⟩
theorem PZ(ht:P.underlying t=some (.slice e))(hi:P.info? e=some i)(lq:i.size=size)
  (hr:r.Ok) {g} {css} {tail} (ha:s.a=some ⟨g,0,none⟩) (hB:B<=g) (hb:Blk w g e (css.flatten++tail)) (BR:tail.length=(s.c-s.n)*size) (hn:s.n=xs.length) (hc:s.n<=s.c) (YG:s.c<=9223372036854775807)
  (hE:mN r size w (fun k=>F k/\k≠g) xs css) (hy:SliceF r size w (fun k=>F k/\k≠g) y ys) (ql:s.n+y.n<=s.c):
  ∃w',(Builtin.append_ #[t,t] ty #[s.v,y.v]).run P w=.ok (Sl.v ⟨s.a,s.n+y.n,s.c⟩) w'/\Own r size e B w' F ⟨s.a,s.n+y.n,s.c⟩ (xs++ys)/\Only [g] w w':=by
 subst lq;have JV:=hy.len;obtain⟨sa,sn,sc⟩:=s;obtain⟨ya,yn,yc⟩:=y;dsimp only at ha hn hc BR ql JV;subst ha;obtain⟨Fw,m3,m4⟩:=hy.agw;have mT:css.flatten.length=sn*i.size:=by rw[hE.JP,hn]
 have zf:Fw.flatten.length=yn*i.size:=by rw[m3.JP,JV]
 have lC:sn*i.size+yn*i.size<=sn*i.size+tail.length:=by
  rw[BR,<-eC,<-eC];exact jo _ (by omega)
 have tf:(Builtin.append_ #[t,t] ty #[.slice (some ⟨g,0,none⟩) sn sc,.slice ya yn yc]).run P w=
   .ok (.slice (some ⟨g,0,none⟩) (sn+yn) sc) (w.setRow g ((css.flatten++Fw.flatten)++tail.drop (yn*i.size)).toArray):=by
  have HU:((css.flatten++tail).toArray.toList.take (sn*i.size)++Fw.flatten++(css.flatten++tail).toArray.toList.drop (sn*i.size+Fw.flatten.length))=(css.flatten++Fw.flatten)++tail.drop (yn*i.size):=by
   rw[iq,<-mT,List.take_left,zf,List.drop_append];rw[oA (by omega),ck,dF]
  cases ya with
  | some ya=>
   have:=run_append_room (P:=P) w t ty e i ht hi g sn sc (css.flatten++tail).toArray hb ya yn yc Fw.flatten zf (m4 ya rfl) (m3.one hr) ql (by
    rw[kQ,aP,zf,mT];exact lC)
   rw[this,HU]
  | none=>
   have hyx:ys=[]:=by
    cases ys with
    | nil=>rfl
    | cons x xs=>obtain⟨_,_,h,_⟩:=hy.at_ 0 x rfl;cases h
   subst hyx;have YH:=by simpa using JV
   subst YH;cases Fw with
   | cons c cs=>exact m3.elim
   | nil=>
    have uz:w.setRow g ((css.flatten++([]).flatten)++tail.drop (0*i.size)).toArray=w:=by
     have:=setRow_self w g (css.flatten++tail).toArray e (0,0) hb;simpa using this
    rw[uz];simp[Builtin.append_,run_underlying ht,sizeOf,typeInfo,hi,Builtin.lenOf,Builtin.firstCells,hc,storeCells]
 have hO:Only [g] w (w.setRow g ((css.flatten++Fw.flatten)++tail.drop (yn*i.size)).toArray):=Only.setRow _ _ _;refine⟨_,tf,.inr ⟨g,css++Fw,tail.drop (yn*i.size),rfl,hB,?_,?_,?_,ql,YG,?_⟩,hO⟩
 ·rw[Fl];exact hb.setRow _
 ·rw[cH,BR,<-Nat.sub_mul];congr 1;dsimp only;omega
 ·dsimp only;rw[aP];omega
 ·exact mN.keep hr (fS.ze hE m3) fun k hk bS=>hO.block k bS (by simpa using hk.2)
theorem qE(ht:P.underlying t=some (.slice e))(hi:P.info? e=some i)(hz:i.zero=some z)(lq:i.size=size)(OB:i.bytes=bytes)(HT:z.cells.size=size)
  (hr:r.Ok) (hs:Own r size e B w F s xs) (hy:SliceF r size w (fun k=>F k/\s.a≠some ⟨k,0,none⟩) y ys) (hB:B<=w.heap.size) (hm:(xs.length+ys.length)*bytes<=140737488355328) (yi:0<bytes):
  ∃s' w',(Builtin.append_ #[t,t] ty #[s.v,y.v]).run P w=.ok s'.v w'/\Own r size e B w' F s' (xs++ys)/\∃gs,Only gs w w'/\(∀g,g∈gs->s.a=some ⟨g,0,none⟩/\B<=g/\g<w.heap.size)/\(s'.a=s.a∨s'.a=some ⟨w.heap.size,0,none⟩):=by
 by_cases ql:s.n+y.n<=s.c
 ·rcases hs with⟨rfl,rfl⟩ | ⟨g,css,tail,h1,h2,h4,h5,h6,h7,h9,h8⟩
  ·have YH:y.n=0:=by simpa using ql
   have hyx:ys=[]:=by have:=hy.len;rw[YH]at this;exact cb this.symm
   subst hyx;refine⟨Sl.nil,w,?_,.inl ⟨rfl,rfl⟩,[],Only.refl _ _,by simp,.inl rfl⟩;obtain⟨ya,yn,yc⟩:=y;dsimp only at YH;subst YH;cases ya<;>simp[Builtin.append_,run_underlying ht,sizeOf,typeInfo,hi,Builtin.lenOf,Builtin.firstCells,loadCells,loadCellsFrom]
  ·obtain⟨w',k1,k2,k3⟩:=PZ (ty:=ty) ht hi lq hr h1 h2 h4 h5 h6 h7 h9 h8 (hy.mono hr fun k hk=>⟨hk.1,fun h=>hk.2 (by rw[h,h1])⟩) ql;exact⟨_,w',k1,k2,[g],k3,fun g' hg'=>by simp at hg';subst hg';exact⟨h1,h2,h4.lt⟩,.inl rfl⟩
 ·have rO:=hs.len;have hsc:=hs.cap;have hy':SliceF r size w F y ys:=hy.mono hr fun k hk=>hk.1;have go:∀css,mN r size w F xs css->(∀base,s.a=some base->Cells w base css.flatten)->(s.a=none->s.c=0)->
    ∃s' w',(Builtin.append_ #[t,t] ty #[s.v,y.v]).run P w=.ok s'.v w'/\Own r size e B w' F s' (xs++ys)/\∃gs,Only gs w w'/\(∀g,g∈gs->s.a=some ⟨g,0,none⟩/\B<=g/\g<w.heap.size)/\(s'.a=s.a∨s'.a=some ⟨w.heap.size,0,none⟩):=by
   intro css k1 k2 k3;obtain⟨s',w',g1,g2,g3,g4⟩:=NA (ty:=ty) ht hi hz lq OB HT hr k1 k2 k3 rO hsc hy' (by omega) hm yi;exact⟨s',w',g1,g2.low hB,[],g3,by simp,.inr g4⟩
  rcases hs with⟨rfl,rfl⟩ | ⟨g,css,tail,h1,h2,h4,h5,h6,h7,h9,h8⟩
  ·exact go [] trivial (fun _ h=>by cases h) (fun _=>rfl)
  ·refine go css (h8.mono hr fun k hk=>hk.1) (fun base hb=>?_) (fun h=>by rw[h1]at h;cases h);rw[h1]at hb;injection hb with hb;subst hb;exact h4.cells 0 _ fun j v hj=>by
    rw[bO,bK (aV.1 hj).1];exact hj
theorem IP w (ht:P.underlying t=some (.slice e)) (hi:P.info? e=some i):(Instr.buildSlice t 0 #[]).run P w=.ok (.slice (some ⟨w.heap.size,0,none⟩) 0 0) (w.alloc (.cells #[] e)):=by
 have h0:Array.map (fun _=>(default:aw)) (Array.range 0)=#[]:=Array.ext' (by simp);simp[Instr.buildSlice,run_underlying ht,sizeOf,typeInfo,hi,Instr.fill,newRow,h0]
theorem gY(ht:P.underlying t=some (.slice e))(hi:P.info? e=some i)(hz:i.zero=some z)(lq:i.size=size)(h0:0<size){vs:List aw}{len}{parts}
  (hp:parts=((vs.zipIdx 0).map fun x=>(x.2,x.1)).toArray) (hl:vs.length=len) (hl0:0<len) (zg:len*size<=16777216)
  (hr:r.Ok) (hE:mN r size w F xs (vs.map fun v=>v.cells.toList)):
  ∃s w',(Instr.buildSlice t len parts).run P w=.ok (Sl.v s) w'/\Own r size e w.heap.size w' F s xs/\Only [] w w'/\s.a=some ⟨w.heap.size,0,none⟩/\s.n=xs.length/\s.c=xs.length:=by
 subst lq;subst hp;subst hl;have yH:=by have:=hE.len;rwa[bm]at this
 have hsz:=fun v hv=>by
  have:=hE.sz _ (eE.2 ⟨v,hv,rfl⟩);simpa using this
 have tf:=run_buildSlice (P:=P) w t e vs.length ((vs.zipIdx 0).map fun x=>_).toArray (vs.flatMap fun v=>v.cells.toList).toArray i z ht hi hz (by omega)
  (by have:=Nat.mul_lt_mul_of_pos_left h0 hl0;omega)
  (by rw[iq];exact Go.Great.fill_whole h0 vs _ hsz (by simp))
 have hO:Only [] w (w.alloc (.cells (vs.flatMap fun v=>v.cells.toList).toArray e)):=Only.alloc _ _;refine⟨⟨some _,vs.length,vs.length⟩,_,tf,.inr ⟨w.heap.size,vs.map (fun v=>v.cells.toList),[],rfl,aX _,?_,by simp,yH.symm,aX _,?_,?_⟩,hO,rfl,yH.symm,yH.symm⟩
 ·rw[bQ,List.flatMap_def.symm.trans rfl];exact Blk.alloc w e _
 ·have:vs.length<=vs.length*i.size:=Nat.le_mul_of_pos_right _ h0;dsimp only;omega
 ·exact((mN.mono hr (mN.inHeap hr hE) (G:=fun k=>F k/\k≠w.heap.size) fun k h=>⟨h.1,by have:=h.2;omega⟩)).keep hr fun k hk bS=>hO.block k bS (by simp)
end
end
def jr:Rp UInt8:=fun _ _ b cs=>cs=[fY b]
theorem vH:jr.Ok where
 keep h _:=h
 inHeap h:=h
 mono h _:=h
 one h v hv:=by
  rw[show _=[fY _]from h]at hv;simp at hv;subst hv;rfl
theorem BytesF.slice{w}{F}{s}{l}(h:BytesF w F s l)(h0:s.a=none->s.c=0)(hb:s.c<=9223372036854775807):SliceF jr 1 w F s l:=
 ⟨h.rd.1,h.cap,h0,hb,fun j x hx=>by
  have hl:l≠[]:=fun e=>by rw[e]at hx;simp at hx
  obtain⟨ad,h1,h2⟩:=h.rd.2 hl;exact⟨ad,[fY x],h1,h.blk ad h1 hl,rfl,by rw[gj];exact h2.dQ j _ (by rw[ch,hx];rfl),rfl⟩⟩
theorem SliceF.bytes{w}{F}{s}{l}(h:SliceF jr 1 w F s l):BytesF w F s l:=
 ⟨⟨h.len,fun hl=>by
  obtain⟨base,css,h1,h2,h3,h4⟩:=h.flat hl;refine⟨base,h1,?_⟩;have:∀l css,mN jr 1 w F l css->css.flatten=l.map fY:=by
   intro l
   induction l with
   | nil=>intro css h;cases css with
    | nil=>rfl
    | cons c cs=>exact h.elim
   | cons b l ih=>intro css h;cases css with
    | nil=>exact h.elim
    | cons c cs=>
     obtain⟨⟨_,h1⟩,h2⟩:=h;rw[di,ih cs h2,show c=[fY b]from h1];rfl
  rw[<-this l css h3];exact h4⟩,h.cap,fun ad ha hl=>by
   obtain⟨base,css,h1,h2,_⟩:=h.flat hl;rw[ha]at h1;injection h1 with h1;rw[h1];exact h2⟩
theorem mN.bytes{w}{F G}{l}{css}(h:mN jr 1 w F l css):mN jr 1 w G l css:=fS.imp (fun _ _ h=>h) h
theorem Own.bytes{w}{F G}{e}{B}{s}{l}(h:Own jr 1 e B w F s l):Own jr 1 e B w G s l:=by
 rcases h with h | ⟨g,css,tail,h1,h2,h4,h5,h6,h7,h9,h8⟩
 ·exact .inl h
 ·exact .inr ⟨g,css,tail,h1,h2,h4,h5,h6,h7,h9,mN.bytes h8⟩
def fz:Rp Int:=fun _ _ x cs=>cs=[.int .i64 x]/\rS x
theorem bN:fz.Ok where
 keep h _:=h
 inHeap h:=h
 mono h _:=h
 one h v hv:=by
  rw[h.1]at hv;simp at hv;subst hv;rfl
structure OnlyP (F:Nat->Prop) (w w':av):Prop where
 os:w'.os=w.os
 tape:w'.tape=w.tape
 output:w'.output=w.output
 size:w.heap.size<=w'.heap.size
 block:∀k,k<w.heap.size->¬F k->w'.heap[k]? =w.heap[k]?
section
variable {w w' tV:av} {F G:Nat->Prop} {bs:List Nat}
theorem Only.p(h:Only bs w w')(hb:∀b,b∈bs->F b∨w.heap.size<=b):OnlyP F w w':=
 ⟨h.os,h.tape,h.output,h.size,fun k hk hn=>h.block k hk fun hm=>(hb k hm).elim hn fun h=>by omega⟩
theorem Only.p0(h:Only [] w w'):OnlyP F w w':=h.p (by simp)
theorem OnlyP.refl F w:OnlyP F w w:=(Only.refl [] w).p0
theorem OnlyP.mono(h:OnlyP F w w')(hb:∀k,k<w.heap.size->F k->G k):OnlyP G w w':=⟨h.os,h.tape,h.output,h.size,fun k hk hn=>h.block k hk fun hf=>hn (hb k hk hf)⟩
theorem OnlyP.trans(h:OnlyP F w w')(k:OnlyP G w' tV)(hb:∀k,G k->F k∨w.heap.size<=k):OnlyP F w tV:=
 ⟨k.os.trans h.os,k.tape.trans h.tape,k.output.trans h.output,bp h.size k.size,fun i hi hn=>
  (k.block i (cm hi h.size) fun hg=>(hb i hg).elim hn fun h=>by omega).trans (h.block i hi hn)⟩
theorem OnlyP.cf(h:OnlyP F w w')(k:Only [] w' tV):OnlyP F w tV:=h.trans (k.p0 (F:=fun _=>False)) fun _ h=>h.elim
theorem Only.mL(h:Only [] w w')(k:OnlyP F w' tV):OnlyP F w tV:=(h.p0 (F:=F)).trans k fun _ h=>.inl h
theorem OnlyP.only(h:OnlyP F w w')(hb:∀k,F k->w.heap.size<=k):Only [] w w':=
 ⟨h.os,h.tape,h.output,h.size,fun k hk _=>h.block k hk fun hf=>by have:=hb k hf;omega⟩
theorem OnlyP.agx(h:OnlyP F w w')(hb:∀k,F k->k∈bs∨w.heap.size<=k):Only bs w w':=
 ⟨h.os,h.tape,h.output,h.size,fun k hk hn=>h.block k hk fun hf=>(hb k hf).elim hn fun h=>by omega⟩
theorem OnlyP.same(h:OnlyP F w w')(hl:∀x,x∈bs->x<w.heap.size/\¬F x):bU bs w w':=fun x hx=>h.block x (hl x hx).1 (hl x hx).2
theorem OnlyP.blk(h:OnlyP F w w'){b}{t}{cs}(hb:Blk w b t cs)(hn:¬F b):Blk w' b t cs:=(h.block b hb.lt hn).trans hb
end
section
variable {α:Type} {r:Rp α} {size:Nat} {w w':av} {F G:Nat->Prop} {s:Sl} {xs:List α} {e:TypeId} {B:Nat} {bs:List Nat}
theorem SliceF.only(hr:r.Ok)(h0:0<size)(h:SliceF r size w F s xs)(hO:Only bs w w')(hb:∀k,F k->k<w.heap.size->k∉bs):SliceF r size w' F s xs:=
 h.keep hr h0 fun k hF bS=>hO.block k bS (hb k hF bS)
theorem SliceF.jV(hr:r.Ok)(h0:0<size)(h:SliceF r size w F s xs)(hO:OnlyP G w w')(hb:∀k,F k->k<w.heap.size->¬G k):SliceF r size w' F s xs:=
 h.keep hr h0 fun k hF bS=>hO.block k bS (hb k hF bS)
theorem Rp.Ok.only(hr:r.Ok){x}{cs}(h:r w F x cs)(hO:Only bs w w')(hb:∀k,F k->k<w.heap.size->k∉bs):r w' F x cs:=hr.keep h fun k hF bS=>hO.block k bS (hb k hF bS)
theorem IQ{s}(h:SliceF r size w F s xs)(ha:s.a=none):xs=[]:=by
 have h0:=h.nil0 ha;have h1:=h.cap;have h2:=h.len;exact cb (by omega)
theorem mN.at(h:∃css,mN r size w F xs css):True:=trivial
theorem mN.setAt{css}(h:mN r size w F xs css) j {x} {c} (hc:c.length=size) (hx:r w F x c):mN r size w F (xs.set j x) (css.set j c):=fS.set j h ⟨hc,hx⟩
theorem FP{css:List _}{tail}:∀{n:Nat} {cs vs:List aw},(∀c,c∈css->c.length=size)->css[n]? =some cs->vs.length=size->
  cj (css.flatten++tail) (n*size) vs=(css.set n vs).flatten++tail:=by
 induction css with
 | nil=>intro n cs vs _ h;simp at h
 | cons c css ih=>
  intro n cs vs hs hn hv;have hc:=hs c (by simp);cases n with
  | zero=>
   simp[cj,yL,cM,ck,bO,H4,di,bH,hv];rw[<-hc,List.drop_left]
  | succ n=>
   have:=ih (fun d hd=>hs d (by simp[hd])) hn hv;have e:(n+1)*size=c.length+n*size:=by rw[eC,hc];omega
   simp only[cj]at this⊢;simp;rw[e,UW,dA,UX,<-this];simp
end
section
variable {α:Type} {r:Rp α} {size:Nat} {w w':av} {F G:Nat->Prop} {s:Sl} {xs:List α} {e:TypeId} {B:Nat} {P:Program} {t ty:TypeId} {i:TypeInfo} {z v:aw} {bytes:Nat} {x:α}
theorem jK(ht:P.underlying t=some (.slice e))(hi:P.info? e=some i)(hz:i.zero=some z)(lq:i.size=size)(OB:i.bytes=bytes)(HT:z.cells.size=size)(h0:0<size)(yi:0<bytes)(zg:1*size<=16777216)
  (hr:r.Ok) (hs:Own r size e B w F s xs) (hB:B<=w.heap.size) (hv:v.cells.toList.length=size) (hx:r w G x v.cells.toList) (hG:∀k,G k->k<w.heap.size->F k/\s.a≠some ⟨k,0,none⟩) (hm:(xs.length+1)*bytes<=140737488355328):
  ∃y w1,(Instr.buildSlice t 1 #[(0,v)]).run P w=.ok (Sl.v y) w1/\Only [] w w1/\∃s' w2,(Builtin.append_ #[t,t] ty #[Sl.v s,Sl.v y]).run P w1=.ok (Sl.v s') w2/\
   Own r size e B w2 (fun k=>F k∨w.heap.size<=k) s' (xs++[x])/\(∃gs,Only gs w1 w2/\∀g,g∈gs->s.a=some ⟨g,0,none⟩/\B<=g/\g<w.heap.size)/\(s'.a=s.a∨∃g,s'.a=some ⟨g,0,none⟩/\w.heap.size<=g):=by
 obtain⟨y,w1,k1,k2,k3,k4,k5,k6⟩:=gY (P:=P) (t:=t) (e:=e) (i:=i) (z:=z) (w:=w) (F:=fun k=>G k/\k<w.heap.size) (vs:=[v]) (parts:=#[_]) (len:=1) (xs:=[x]) (r:=r) (size:=size) ht hi hz lq h0 rfl rfl (by decide) zg hr ⟨⟨hv,hr.inHeap hx⟩,trivial⟩;have C3:Own r size e B w1 (fun k=>F k∨w.heap.size<=k) s xs:=((hs.inHeap hr).keep hr fun k _ bS=>k3.block k bS (by simp)).mono hr fun k hk=>.inl hk.1;have hy:=(k2.slice hr).mono hr (G:=fun k=>(F k∨w.heap.size<=k)/\s.a≠some _) fun k hk=>by
  rcases hk with⟨hk,bS⟩ | ⟨hk,_⟩
  ·exact⟨.inl (hG k hk bS).1,(hG k hk bS).2⟩
  ·exact⟨.inr hk,fun ha=>by have:=(hs.blk ha).2;dsimp only at this;omega⟩
 obtain⟨s',w2,g1,g2,gs,g3,g4,g5⟩:=qE (ty:=ty) ht hi hz lq OB HT hr C3 hy (bp hB k3.size) hm yi;refine⟨y,w1,k1,k3,s',w2,g1,g2,⟨gs,g3,fun g hg=>⟨(g4 g hg).1,(g4 g hg).2.1,(hs.blk (g4 g hg).1).2⟩⟩,?_⟩;rcases g5 with h | h
 ·exact .inl h
 ·exact .inr ⟨_,h,k3.size⟩
theorem Own.store(hr:r.Ok)(hs:Own r size e B w F s xs){n}(hn:n<xs.length){x}{vs}(hv:vs.length=size)(hx:r w G x vs)(hG:∀k,G k->k<w.heap.size->F k/\s.a≠some ⟨k,0,none⟩)(h0:0<size):
  ∃g cells,s.a=some ⟨g,0,none⟩/\cW s n size ⟨g,n*size,none⟩/\Blk w g e cells/\n*size+size<=cells.length/\
   ∀w',Only [g] w w'->Blk w' g e (cj cells (n*size) vs)->Own r size e B w' F s (xs.set n x):=by
 rcases hs with⟨rfl,rfl⟩ | ⟨g,css,tail,h1,h2,h4,h5,h6,h7,h9,h8⟩
 ·simp at hn
 have mT:=h8.len;have hcn:n<css.length:=by omega
 have Pu:=zw h8.sz;have lC:=by
  have:=jo size (show n+1<=css.length by omega);rw[eC]at this;omega
 refine⟨g,_,h1,⟨_,h1,by omega,by omega,by rw[fL,aY,bO]⟩,h4,by rw[aP];omega,fun w' hO hb=>.inr ⟨g,css.set n vs,tail,h1,h2,?_,h5,by rw[ij];exact h6,h7,h9,?_⟩⟩
 ·rw[FP h8.sz (aW hcn) hv]at hb;exact hb
 ·refine mN.setAt (h8.keep hr fun k hk bS=>hO.block k bS (by simpa using hk.2)) n hv (hr.keep (w:=w) (F:=fun k=>F k/\k≠g) ?_ fun k hk bS=>hO.block k bS (by simpa using hk.2));refine hr.mono (hr.inHeap hx) fun k hk=>?_;obtain⟨p1,p2⟩:=hG k hk.1 hk.2;exact⟨p1,fun e=>p2 (by rw[h1,e])⟩
end
theorem Own.SY{α}{r}{size}{w}{F}{s}{xs}{e}{B}(hr:r.Ok)(hs:Own r size e B w F s xs){n:Nat}{x:α}(hx:xs[n]? =some x):
  ∃g cells cs,s.a=some ⟨g,0,none⟩/\cW s n size ⟨g,n*size,none⟩/\Blk w g e cells/\cs.length=size/\Cells w ⟨g,n*size,none⟩ cs/\r w (fun k=>F k/\k≠g) x cs/\
   ∀off v y G,off<size->r w G y (cs.set off v)->(∀k,G k->k<w.heap.size->F k/\k≠g)->
    n*size+off+1<=cells.length/\∀w',Only [g] w w'->Blk w' g e (cj cells (n*size+off) [v])->Own r size e B w' F s (xs.set n y):=by
 rcases hs with⟨rfl,rfl⟩ | ⟨g,css,tail,h1,h2,h4,h5,h6,h7,h9,h8⟩
 ·simp at hx
 obtain⟨cs,k1,k2,k3⟩:=h8.get hx;have mT:=h8.len;have hn:=(aV.1 hx).1;have Pu:=zw h8.sz;have lC:=by
  have:=jo size (show n+1<=css.length by omega);rw[eC]at this;omega
 refine⟨g,_,cs,h1,⟨_,h1,by omega,by omega,by rw[fL,aY,bO]⟩,h4,k2,h4.cells _ _ fun j v hj=>?_,k3,fun off v y G ho hy hG=>⟨by rw[aP];omega,fun w' hO hb=>.inr ⟨g,css.set n (cs.set off v),tail,h1,h2,?_,h5,by rw[ij];exact h6,h7,h9,?_⟩⟩⟩
 ·have:=KM h8.sz k1 hj;rw[bK (aV.1 this).1];exact this
 ·rw[IM (by rw[aP];omega),FO h8.sz k1 ho]at hb;exact hb
 ·refine mN.setAt (h8.keep hr fun k hk bS=>hO.block k bS (by simpa using hk.2)) n (by rw[ij];exact k2) ?_;refine hr.mono (hr.keep (hr.inHeap hy) fun k hk bS=>hO.block k bS (by simpa using(hG k hk.1 hk.2).2)) fun k hk=>hG k hk.1 hk.2
theorem fS.agy{α β}{P}{f:α->β}:∀{xs:List α} {css:List _},fS P (xs.map f) css↔fS (fun x cs=>P (f x) cs) xs css
 | [],[]=>Iff.rfl
 | x::xs,c::cs=>by simp[bD,fS,fS.agy (xs:=xs) (css:=cs)]
 | [],_::_=>Iff.rfl
 | _::_,[]=>Iff.rfl
theorem fS.SZ{α}{P Q}:∀{xs:List α} {css:List _},(∀x c,x∈xs->P x c->Q x c)->fS P xs css->fS Q xs css
 | [],[],_,_=>trivial
 | x::xs,c::cs,hi,h=>⟨hi _ _ (by simp) h.1,fS.SZ (xs:=xs) (css:=cs) (fun y d hy=>hi y d (by simp[hy])) h.2⟩
 | [],_::_,_,h=>h.elim
 | _::_,[],_,h=>h.elim
theorem Own.map{α β}{r:Rp α}{q:Rp β}{size}{w}{F G}{s}{xs}{e}{B} f (h:Own r size e B w F s xs) (hf:∀g x cs,x∈xs->r w (fun k=>F k/\k≠g) x cs->q w (fun k=>G k/\k≠g) (f x) cs):Own q size e B w G s (xs.map f):=by
 rcases h with⟨rfl,rfl⟩ | ⟨g,css,tail,h1,h2,h4,h5,h6,h7,h9,h8⟩
 ·exact .inl ⟨rfl,rfl⟩
 ·exact .inr ⟨g,css,tail,h1,h2,h4,h5,by rw[bm];exact h6,h7,h9,fS.agy.2 (fS.SZ (fun x c hx hc=>⟨hc.1,hf g x c hx hc.2⟩) h8)⟩
section
variable {P:Program} {w:av}
theorem BC{z}(hz:∀v,v∈z->v.oneCell'=true)(h0:0<z.size) n:∀v,v∈(Builtin.zeroCells z n).toList->v.oneCell'=true:=fun v hv=>by
 have hv':=by simpa using hv
 simp[Builtin.zeroCells,Array.mem_map,Array.mem_range]at hv';obtain⟨i,hi,rfl⟩:=hv';have bS:i % z.size<z.size:=Nat.mod_lt _ h0;rw[getElem!_pos z _ bS];exact hz _ (Array.getElem_mem bS)
theorem BD{t e ty}{z}(ht:P.underlying t=some (.slice e))(hv:∀w,(zeroValue e).run P w=.ok z w)(h1:∀v,v∈z.cells->v.oneCell'=true)(WK:0<z.cells.size){g o n c}{bt}{cs}(hn:0<n)
  (hb:Blk w g bt cs) (JU:o+n*z.cells.size<=cs.length):
  (Builtin.clear_ #[t] ty #[.slice (some ⟨g,o,none⟩) n c]).run P w=.ok (.tuple #[]) (w.setRow g (cs.take o++(Builtin.zeroCells z.cells n).toList++cs.drop (o+n*z.cells.size)).toArray):=by
 have hl:(Builtin.zeroCells z.cells n).toList.length=n*z.cells.size:=by rw[jG,size_zeroCells]
 have ph:=run_storeCells_at P g o bt (Builtin.zeroCells z.cells n).toList 0 cs.toArray w hb (by rw[hl];simpa using JU) (BC h1 WK n);simp[dG,hl,iq]at ph;obtain⟨m,rfl⟩:∃m,n=m+1:=⟨n-1,by omega⟩
 simp[Builtin.clear_,run_underlying ht,hv,ph]
theorem Own.clear{α}{r:Rp α}{size}{F}{s}{xs}{e}{B}{t ty}{z}(hr:r.Ok)(h0:0<size)(ht:P.underlying t=some (.slice e))(hv:∀w,(zeroValue e).run P w=.ok z w)(h1:∀v,v∈z.cells->v.oneCell'=true)(HT:z.cells.size=size)
  (hs:Own r size e B w F s xs) {i} (hi:i<xs.length):
  ∃w' g,(Builtin.clear_ #[t] ty #[Sl.v (Sl.cut s i s.n s.c size)]).run P w=.ok (.tuple #[]) w'/\s.a=some ⟨g,0,none⟩/\Only [g] w w'/\Own r size e B w' F (Sl.cut s 0 i s.c size) (xs.take i):=by
 rcases hs with⟨rfl,rfl⟩ | ⟨g,css,tail,a1,a2,a4,a5,a6,a7,a9,a8⟩
 ·simp at hi
 obtain⟨sa,sn,sc⟩:=s;dsimp only at a1 a5 a6 a7 a9;subst a1;have Pu:=a8.JP;have S9:Sl.cut ⟨some ⟨g,0,none⟩,sn,sc⟩ i sn sc size=⟨some ⟨g,i*size,none⟩,sn-i,sc-i⟩:=by
  simp[Sl.cut];rw[if_neg (by omega)];simp[dR,fL,bO]
 have e1:i*size+(sn-i)*size=sn*size:=by rw[<-eC];congr 1;omega
 have hO:=Only.setRow w g (((css.flatten++tail).take (i*size)++(Builtin.zeroCells z.cells (sn-i)).toList++(css.flatten++tail).drop (i*size+(sn-i)*z.cells.size)).toArray);refine⟨_,g,by rw[S9];exact BD (P:=P) (w:=w) (t:=t) (ty:=ty) ht hv h1 (by omega) (g:=g) (o:=i*size) (n:=sn-i) (c:=sc-i) (by omega) a4 (by rw[HT,e1,aP,Pu,a6];omega),rfl,hO,?_⟩;have agL:Sl.cut ⟨some ⟨g,0,none⟩,sn,sc⟩ 0 i sc size=⟨some ⟨g,0,none⟩,i,sc⟩:=by
  simp only[Sl.cut];split<;>simp[Addr.add]
 rw[agL];have nt:(css.flatten++tail).take (i*size)=(css.take i).flatten:=by
  rw[PN (by rw[Pu,<-a6];exact jo _ (by omega)),Nz a8.sz]
 refine .inr ⟨g,css.take i,(Builtin.zeroCells z.cells (sn-i)).toList++(css.flatten++tail).drop (i*size+(sn-i)*z.cells.size),rfl,a2,?_,?_,?_,by dsimp only;omega,a9,?_⟩
 ·have:=a4.setRow ((css.flatten++tail).take (i*size)++(Builtin.zeroCells z.cells (sn-i)).toList++(css.flatten++tail).drop (i*size+(sn-i)*z.cells.size));rw[bH,nt]at this;rw[nt];simpa using this
 ·simp only[aP,cH,Pu,<-a6,jG,size_zeroCells,a5,HT,e1];rw[dF,<-eC];congr 1;omega
 ·rw[cT];dsimp only;omega
 ·refine mN.keep hr (fS.take i a8) fun k hk bS=>hO.block k bS (by simpa using hk.2)
end
theorem Xv l m:((⟨List.toArray l⟩:ByteArray).toList==(⟨List.toArray m⟩:ByteArray).toList)=decide (l=m):=by
 by_cases h:l=m<;>simp[h]
end Go.Kt
namespace Go.Kt
open Go renaming World->av,Value->aw
open Go Go.RowKit Go.MapKept
set_option linter.unusedSimpArgs false
set_option linter.unusedVariables false
structure MapI (w:av) (r:Nat) (m:Int->Option Int):Prop where
 mem:∃es clock,w.heap[r]? =some (.map es clock)/\(∀x,x∈es.toList->∃k v,x.key=.int .i64 k/\x.val=.int .i64 v)/\es.toList.Pairwise (fun x y=>x.key≠y.key)/\
  ∀k v,m k=some v↔∃x,x∈es.toList/\x.key=.int .i64 k/\x.val=.int .i64 v
section
variable {P:Program} {w w':av} {r:Nat} {m:Int->Option Int} {mty kt et:TypeId}
theorem MapI.keep(h:MapI w r m)(hk:w'.heap[r]? =w.heap[r]?):MapI w' r m:=by
 obtain⟨es,c,h1,h2⟩:=h.mem;exact⟨es,c,hk.trans h1,h2⟩
theorem MapI.lt(h:MapI w r m):r<w.heap.size:=by
 obtain⟨es,c,h1,h2⟩:=h.mem;exact(ly.1 h1).1
theorem MapI.only(h:MapI w r m){bs}(hO:Only bs w w')(hn:r∉bs):MapI w' r m:=h.keep (hO.block r h.lt hn)
theorem FQ{w}{r}{o o'}(hb:w.heap[r]? =some o):Only [r] w {w with heap:=w.heap.setIfInBounds r o'}:=
 ⟨rfl,rfl,rfl,by simp,fun k _ hn=>(heap_set hb).2 k (by simpa using hn)⟩
theorem IR{α:Type}{l:List α}{j}{f}{e}(h:l[j]? =some e):l.modify j f=l.set j (f e):=by
 apply jp;intro i;rw[List.getElem?_modify,vA];by_cases tW:j=i
 ·subst tW;rw[if_pos rfl,if_pos (aV.1 h).1,h];simp
 ·cases l[i]? <;>simp[tW]
end
end Go.Kt
namespace Go.Kt
open Go renaming World->av,Value->aw
open Go Go.RowKit
set_option linter.unusedSimpArgs false
set_option linter.unusedVariables false
@[reducible] def T(l:List UInt8):ByteArray:=⟨l.toArray⟩
theorem yu(s:ByteArray):s=T s.data.toList:=by
 obtain⟨⟨l⟩⟩:=s;rfl
theorem dI(l:List UInt8):(T l).size=l.length:=by simp[T,ByteArray.size]
theorem xO(l:List UInt8)(i:Nat):(T l)[i]? =l[i]? :=by
 by_cases h:i<l.length
 ·rw[aW h,getElem?_pos (T l) i (by rw[dI];exact h)];rfl
 ·rw[dH (by omega),getElem?_neg (T l) i (by rw[dI];exact h)]
theorem zx(l:List UInt8)(a b:Nat):(T l).extract a b=T ((l.drop a).take (b-a)):=by
 rw[yu ((T l).extract a b),Lib.extract_data]
theorem lD(l m:List UInt8):T l++T m=T (l++m):=by
 apply ByteArray.ext;simp[T]
theorem mA(l m:List UInt8):((T l).toList==(T m).toList)=decide (l=m):=Xv l m
def ua(us:Nat->aw):List (Nat×aw)->Nat->aw
 | [],i=>us i
 | (k,v)::r,i=>bif Nat.beq k i then v else ua us r i
def xP:List (Nat×aw)->Nat->Option aw
 | [],_=>none
 | (k,v)::r,i=>bif Nat.beq k i then some v else xP r i
def U6(us:Nat->aw)(l:List (Nat×aw)):Nat->Nat->List aw
 | 0,_=>[]
 | n+1,i=>ua us l i::U6 us l n (i+1)
def fr(n:Nat)(us:Nat->aw)(l:List (Nat×aw)):Act:=⟨(U6 us l n 0).toArray,[]⟩
def evO(n:Nat)(l:List (Nat×aw)):Operand->Option aw
 | .tmp k=>bif Nat.blt k n then xP l k else none
 | .const v=>some v
 | .global g=>some (.pointer (some ⟨g,0,none⟩))
 | .func f=>some (.func (.func f) #[] #[])
def pl:Option Tmp->aw->List (Nat×aw)->List (Nat×aw)
 | some k,v,l=>(k,v)::l
 | none,_,l=>l
def Dr:Nat->List aw->List (Nat×aw)
 | _,[]=>[]
 | i,v::r=>(i,v)::Dr (i+1) r
section
variable {n0:Nat} {us0:Nat->aw} {l0:List (Nat×aw)}
theorem ny(us:Nat->aw)(l:List (Nat×aw)):∀n i,(U6 us l n i).length=n
 | 0,_=>rfl
 | n+1,i=>by simp only[U6,bf,ny us l n (i+1)]
theorem mg(us:Nat->aw)(l:List (Nat×aw)):∀n i k,k<n->(U6 us l n i)[k]? =some (ua us l (i+k))
 | 0,_,_,h=>by omega
 | n+1,i,0,_=>rfl
 | n+1,i,k+1,h=>by
  simp only[U6,cu];rw[mg us l n (i+1) k (by omega),show i+1+k=i+(k+1) by omega]
theorem tA{us:Nat->aw}:∀{l:List (Nat×aw)} {k:Nat} {v:aw},xP l k=some v->ua us l k=v
 | [],_,_,h=>by cases h
 | (j,u)::r,k,v,h=>by
  simp only[xP,ua]at h⊢;cases hb:Nat.beq j k with
  | true=>rw[hb]at h;simpa using h
  | false=>rw[hb]at h;exact tA (l:=r) (by simpa using h)
theorem Ds{us:Nat->aw}:∀{l:List (Nat×aw)} {k:Nat},xP l k=none->ua us l k=us k
 | [],_,_=>rfl
 | (j,u)::r,k,h=>by
  simp only[xP,ua]at h⊢;cases hb:Nat.beq j k with
  | true=>rw[hb]at h;simp at h
  | false=>rw[hb]at h;exact Ds (l:=r) (by simpa using h)
theorem P0{k:Nat}(hk:k<n0):(fr n0 us0 l0).eval (.tmp k)=ua us0 l0 k:=by
 show(U6 us0 l0 n0 0).toArray.getD k undef=_;rw[Array.getD_eq_getD_getElem?,kO,mg _ _ _ _ _ hk,bO];rfl
theorem evE{x:Operand}{v:aw}(h:evO n0 l0 x=some v):(fr n0 us0 l0).eval x=v:=by
 cases x with
 | tmp k=>
  simp only[evO]at h;cases hb:Nat.blt k n0 with
  | false=>rw[hb]at h;cases h
  | true=>
   rw[hb]at h;rw[P0 (cy hb)];exact tA h
 | const u=>simpa[evO,Act.eval]using h
 | global g=>simpa[evO,Act.eval]using h
 | func f=>simpa[evO,Act.eval]using h
theorem vI{us:Nat->aw}{l:List (Nat×aw)}{k i:Nat}{v:aw}(h:k≠i):ua us ((k,v)::l) i=ua us l i:=by
 have:Nat.beq k i=false:=by
  cases hb:Nat.beq k i with
  | false=>rfl
  | true=>exact absurd (ca hb) h
 simp only[ua,this,uk]
theorem vJ{us:Nat->aw}{l:List (Nat×aw)}{k:Nat}{v:aw}:ua us ((k,v)::l) k=v:=by
 simp only[ua,Nat.beq_refl,nQ]
theorem Zv{k:Nat}{v:aw}:(fr n0 us0 l0).put (some k) v=fr n0 us0 ((k,v)::l0):=by
 unfold fr;rw[f0];congr 2;apply jp;intro i;rw[vA,ny];by_cases hi:i<n0
 ·rw[mg _ _ _ _ _ hi,mg _ _ _ _ _ hi,bO];split
  ·rename_i h;subst h;rw[if_pos hi,vJ]
  ·rename_i h;rw[vI h]
 ·rw[dH (by rw[ny];omega),dH (by rw[ny];omega)];split
  ·rename_i h;subst h;rw[if_neg hi]
  ·rfl
theorem akA{d:Option Tmp}{v:aw}:(fr n0 us0 l0).put d v=fr n0 us0 (pl d v l0):=by
 cases d with
 | none=>rfl
 | some k=>exact Zv
theorem B6:∀(args:List aw) (j i:Nat),ua (fun _=>undef) (Dr j args) i=if j<=i then(args[i-j]?).getD undef else undef
 | [],j,i=>by simp[Dr,ua]
 | v::r,j,i=>by
  simp only[Dr];by_cases tW:j=i
  ·subst tW;rw[vJ,if_pos (aX _)];simp
  ·rw[vI tW,B6 r (j+1) i];by_cases lC:j<=i
   ·rw[if_pos lC,if_pos (by omega),show i-j=(i-(j+1))+1 by omega,cu]
   ·rw[if_neg lC,if_neg (by omega)]
end
section
variable {P:Program} {ops:Array Oper} {Q:Exit->Act->av->Prop} {rest:List Oper} {w w':av} {n0:Nat} {us0:Nat->aw} {l0:List (Nat×aw)}
def asB:aw->Option Bool
 | .bool b=>some b
 | _=>none
theorem FR{eh:List Oper}{j d:Nat}{oj:Oper}{v:aw}(h2:gv eh j=some oj)(h3:oj.dst=some d)(h4:evO n0 l0 (.tmp d)=some v):
  yielded eh.toArray (fr n0 us0 l0).tmps j=asB v:=by
 rw[jJ]at h2;have hd:d<n0:=by
  simp only[evO]at h4;cases hb:Nat.blt d n0 with
  | false=>rw[hb]at h4;cases h4
  | true=>exact cy hb
 have h5:=evE (us0:=us0) h4;rw[P0 hd]at h5;have:(fr n0 us0 l0).tmps[d]? =some v:=by
  show(U6 us0 l0 n0 0).toArray[d]? =_;rw[kO,mg _ _ _ _ _ hd,bO,h5]
 simp only[yielded,kO,h2,mf,h3,this];cases v<;>rfl
theorem wtF{o oj:Oper}{eh:List Oper}{j d:Nat}{want b r:Bool}(h1:o.guard=some (j,want))(h2:gv eh j=some oj)(h3:oj.dst=some d)
  (h4:evO n0 l0 (.tmp d)=some (.bool b)) (h5:(b==want)=r):Region.wanted o (yielded eh.toArray (fr n0 us0 l0).tmps)=r:=by
 subst h5;have e:=FR (us0:=us0) h2 h3 h4;simp only[Region.wanted,h1,e,asB];cases b<;>cases want<;>rfl
theorem wuF{o oj:Oper}{eh:List Oper}{j d:Nat}{want:Bool}(h1:o.guard=some (j,want))(h2:gv eh j=some oj)(h3:oj.dst=some d)
  (h4:evO n0 l0 (.tmp d)=some undef):Region.wanted o (yielded eh.toArray (fr n0 us0 l0).tmps)=false:=by
 have e:=FR (us0:=us0) h2 h3 h4;simp[Region.wanted,h1,e,undef,asB]
theorem pg{x y:Option Addr}(h:x=y):some (Value.pointer x)=some (.pointer y):=by rw[h]
theorem ag{x y:Addr}(h:x=y):some (Value.pointer (some x))=some (.pointer (some y)):=by rw[h]
theorem bg{x y:Bool}(h:x=y):some (Value.bool x)=some (.bool y):=by rw[h]
theorem sv{k:Tmp}{op:Op}{t':TypeId}{p:String}{af:Array Edge}{v:aw}(hr:(execOp (fr n0 us0 l0).eval ⟨some k,op,t',p,af,none⟩).run P w=.ok (.value v) w)
 (h:wpList P ops Q rest (fr n0 us0 ((k,v)::l0)) w):wpList P ops Q (⟨some k,op,t',p,af,none⟩::rest) (fr n0 us0 l0) w:=Dc v (wn rfl) hr Zv h
theorem sn{op:Op}{t':TypeId}{p:String}{af:Array Edge}{v:aw}(hr:(execOp (fr n0 us0 l0).eval ⟨none,op,t',p,af,none⟩).run P w=.ok (.value v) w)
 (h:wpList P ops Q rest (fr n0 us0 l0) w):wpList P ops Q (⟨none,op,t',p,af,none⟩::rest) (fr n0 us0 l0) w:=Dc v (wn rfl) hr (f3 _ _) h
section
variable {md:Region.Mode} {E:Nat->av->av->Prop} {F:av->Prop}
theorem aet(i:Nat){eh:List Oper}{d:Option Tmp}{op:Op}{t':TypeId}{p:String}{af:Array Edge}{g:Option (Nat×Bool)}{eY:Nat}{bE:Array Bool}(D N:List Nat)(F:av->Prop){v:aw}(hi:gv eh i=some ⟨d,op,t',p,af,g⟩)
  (hb:(Region.noSelect eh.toArray&&Region.free md eh.toArray bE i&&(Region.ready md eh.toArray bE).contains i&&vF md eh.toArray bE&&rR md eh.toArray i [] D&&(N.all fun k=>bE.getD k true))=true)
  (hQ:∀c a w,Q (.panic c) (Act.put a d v) w->Q (.panic c) a w) (ph:∀j w w',j∉D->j∉N->F w->E j w w'->F w') (Oz:∀w,F w->E i w w) (hF:F w)
  (hy:YieldsIf P eh.toArray F ⟨d,op,t',p,af,g⟩ v (fr n0 us0 l0))
  (h:fx P md eh.toArray Q E eY (bE.setIfInBounds i true) (fr n0 us0 (pl d v l0)) w):fx P md eh.toArray Q E (eY+1) bE (fr n0 us0 l0) w:=by
 simp only[aQ]at hb;obtain⟨⟨⟨⟨⟨b1,b2⟩,b3⟩,b4⟩,b5⟩,b6⟩:=hb;exact IK i D N v F hi b1 b2 b3 b4 b5 b6 hQ ph Oz hF hy akA h
theorem eL(i:Nat){eh:List Oper}{d:Option Tmp}{op:Op}{t':TypeId}{p:String}{af:Array Edge}{g:Option (Nat×Bool)}{eY:Nat}{bE:Array Bool}{ls:List (Nat×List Nat)}(D N:List Nat)(F:av->Prop){v:aw}(hi:gv eh i=some ⟨d,op,t',p,af,g⟩)
  (hl:ls.lookup i=none) (ph:∀j w w',j∉D->j∉N->F w->EL ls j w w'->F w') (hF:F w)
  (hy:YieldsIf P eh.toArray F ⟨d,op,t',p,af,g⟩ v (fr n0 us0 l0))
  (h:fx P md eh.toArray Q (EL ls) eY (bE.setIfInBounds i true) (fr n0 us0 (pl d v l0)) w)
  (hb:(Region.noSelect eh.toArray&&Region.free md eh.toArray bE i&&(Region.ready md eh.toArray bE).contains i&&vF md eh.toArray bE&&rR md eh.toArray i [] D&&(N.all fun k=>bE.getD k true))=true:=by kernel_rfl)
  (hQ:∀c a w,Q (.panic c) (Act.put a d v) w->Q (.panic c) a w:=by exact fun _ _ _ h=>h):fx P md eh.toArray Q (EL ls) (eY+1) bE (fr n0 us0 l0) w:=
 aet i D N F hi hb hQ ph (fun w _=>PX hl w) hF hy h
end
end
end Go.Kt
namespace Go.Kt.V
open Go renaming World->av,Value->aw
open Go Go.RowKit Go.Kt
set_option linter.unusedSimpArgs false
set_option linter.unusedVariables false
structure OV where
 v:aw
 one:v.oneCell'=true
inductive SV where
 | int (k:IntKind) (n:Int)
 | il (k:IntKind) (n:Int)
 | bl (b:Bool)
 | bt (t:Bool)
 | str (s:ByteArray)
 | np
 | ptr (p:Option Addr)
 | ad (a:Addr)
 | box (i o:Nat)
 | sl (s:Sl)
 | nsl
 | map (m:Option Nat)
 | raw (v:OV)
 | fn (f:FuncId) (fs cs:SV)
 | agg (l:SV)
 | tup (l:SV)
 | un
 | e
 | c (h t:SV)
def pC(β:Nat->Nat):SV->List aw
 | .int k n=>[.int k n]
 | .il k n=>[.int k n]
 | .bl b=>[.bool b]
 | .bt t=>[.bool t]
 | .str s=>[.string s]
 | .np=>[.pointer none]
 | .ptr p=>[.pointer p]
 | .ad a=>[.pointer (some a)]
 | .box i o=>[.pointer (some ⟨β i,o,none⟩)]
 | .sl s=>[s.v]
 | .nsl=>[Sl.v Sl.nil]
 | .map m=>[.map m]
 | .raw v=>[v.v]
 | .fn f fs cs=>[.func (.func f) (pC β fs).toArray (pC β cs).toArray]
 | .agg l=>[.agg (pC β l).toArray]
 | .tup l=>[.tuple (pC β l).toArray]
 | .un=>[undef]
 | .e=>[]
 | .c h t=>(pC β h).headD undef::pC β t
def val(β:Nat->Nat)(s:SV):aw:=(pC β s).headD undef
def cw(β:Nat->Nat)(l:List SV):List aw:=l.map (val β)
def mB:SV->List SV
 | .c h t=>h::mB t
 | _=>[]
def lJ:List SV->SV
 | []=>.e
 | s::r=>.c s (lJ r)
def BE:SV->Bool
 | .c _ t=>BE t
 | .e=>true
 | _=>false
theorem qF β:∀l,pC β (lJ l)=cw β l
 | []=>rfl
 | s::r=>by simp only[lJ,pC,qF β r];rfl
theorem mh β:∀{s:SV},BE s=true->pC β s=cw β (mB s)
 | .e,_=>rfl
 | .c h t,hl=>by simp only[pC,mB,mh β (s:=t) hl];rfl
def cln(g:Nat->Bool):SV->Bool
 | .box i _=>g i
 | .fn _ fs cs=>cln g fs&&cln g cs
 | .agg l=>cln g l
 | .tup l=>cln g l
 | .c h t=>cln g h&&cln g t
 | _=>true
def ia(g:Nat->Bool):List SV->Bool
 | []=>true
 | s::r=>cln g s&&ia g r
theorem lK{β β'}{g}(h:∀i,g i=true->β i=β' i):∀s,cln g s=true->pC β s=pC β' s
 | .int ..,_ | .il ..,_ | .bl ..,_ | .bt ..,_ | .str ..,_ | .np,_ | .ptr ..,_ | .ad ..,_ | .sl ..,_ | .nsl,_ | .map ..,_ | .raw ..,_ | .un,_ | .e,_=>rfl
 | .box i o,hc=>by simp[pC,h i hc]
 | .fn f fs cs,hc=>by
  simp[cln,aQ]at hc;simp[pC,lK h fs hc.1,lK h cs hc.2]
 | .agg l,hc=>by simp[pC,lK h l hc]
 | .tup l,hc=>by simp[pC,lK h l hc]
 | .c s t,hc=>by
  simp[cln,aQ]at hc;simp[pC,lK h s hc.1,lK h t hc.2]
theorem iC{β β'}{g}(h:∀i,g i=true->β i=β' i) s (hc:cln g s=true):val β s=val β' s:=by
 unfold val;rw[lK h s hc]
theorem gx{β β'}{g}(h:∀i,g i=true->β i=β' i):∀l,ia g l=true->cw β l=cw β' l
 | [],_=>rfl
 | s::r,hc=>by
  simp[ia,aQ]at hc;have:=gx h r hc.2;simp only[cw,bD]at this⊢;rw[iC h s hc.1,this]
theorem fh β l:(cw β l).length=l.length:=by rw[cw,bm]
def P1:aw->Option SV
 | .int k n=>some (.il k n)
 | .bool b=>some (.bl b)
 | .string s=>some (.str s)
 | .pointer none=>some .np
 | .slice none 0 0=>some .nsl
 | .map m=>some (.map m)
 | v=>if h:v.oneCell'=true then some (.raw ⟨v,h⟩)else none
def BF:List aw->Option SV
 | []=>some .e
 | v::r=>match P1 v,BF r with
  | some s,some l=>some (.c s l)
  | _,_=>none
def ofV:aw->Option SV
 | .agg cs=>(BF cs.toList).map .agg
 | .tuple cs=>(BF cs.toList).map .tup
 | .func (.func f) fs cs=>match BF fs.toList,BF cs.toList with
  | some a,some b=>some (.fn f a b)
  | _,_=>none
 | v=>P1 v
theorem zy{v}{s}(h:P1 v=some s) β:val β s=v:=by
 unfold P1 at h;split at h
 all_goals first | (simp at h;subst h;rfl) | skip
 split at h
 ·simp at h;subst h;rfl
 ·cases h
theorem rT β:∀{l:List aw} {s:SV},BF l=some s->pC β s=l
 | [],s,h=>by simp[BF,aZ]at h;subst h;rfl
 | v::r,s,h=>by
  simp[BF]at h;split at h
  ·rename_i s' l' h1 h2;simp at h;subst h;simp only[pC,rT β h2];rw[show(pC β s').headD undef=v from zy h1 β]
  ·cases h
theorem KN{v}{s}(h:ofV v=some s) β:val β s=v:=by
 unfold ofV at h;split at h
 ·rename_i cs;cases hl:BF cs.toList with
  | none=>rw[hl]at h;cases h
  | some l=>
   rw[hl]at h;simp at h;subst h;simp[val,pC,zl,rT β hl]
 ·rename_i cs;cases hl:BF cs.toList with
  | none=>rw[hl]at h;cases h
  | some l=>
   rw[hl]at h;simp at h;subst h;simp[val,pC,zl,rT β hl]
 ·split at h
  ·rename_i a b h1 h2;simp at h;subst h;simp[val,pC,zl,rT β h1,rT β h2]
  ·cases h
 ·exact zy h β
structure jY where
 blk:Option Nat
 ty:TypeId
 cells:List SV
 stp:Nat
 ok:Bool
 esc:Bool
 sh:Bool
structure St where
 n:Nat
 fr:List (Nat×Nat×SV)
 bx:List jY
 w0:av
 mv:Bool
 dt:List Nat
 ct:Nat
 df:List (Nat×List aw×List aw)
def Xw(l:List (Nat×List aw×List aw)):List Deferred:=l.map fun d=>{target:=.fn (.func d.1) d.2.2.toArray,args:=d.2.1.toArray}
def frD(n:Nat)(us:Nat->aw)(l:List (Nat×aw))(D:List Deferred):Act:=⟨(U6 us l n 0).toArray,D⟩
def dK:List (Nat×Nat×SV)->Nat->Option (Nat×SV)
 | [],_=>none
 | (k,s)::r,i=>bif Nat.beq k i then some s else dK r i
def St.get(st:St)(i:Nat):Option SV:=bif Nat.blt i st.n then(dK st.fr i).map (·.2)else none
def St.ev(st:St):Operand->Option SV
 | .tmp k=>st.get k
 | .const v=>ofV v
 | .global g=>some (.ad ⟨g,0,none⟩)
 | .func f=>some (.fn f .e .e)
def St.M5(st:St):List Operand->Option (List SV)
 | []=>some []
 | x::r=>match st.ev x,st.M5 r with
  | some v,some vs=>some (v::vs)
  | _,_=>none
def St.Un(st:St):List (Nat×Operand)->Option (List (Nat×SV))
 | []=>some []
 | (i,x)::r=>match st.ev x,st.Un r with
  | some v,some vs=>some ((i,v)::vs)
  | _,_=>none
def St.put(st:St)(d:Option Tmp)(v:SV):St:=match d with
 | some k=>{st with fr:=(k,st.ct,v)::st.fr,ct:=st.ct+1}
 | none=>st
def cV:List jY->Nat->Option jY
 | [],_=>none
 | b::_,0=>some b
 | _::r,n+1=>cV r n
def NB:List jY->Nat->jY->List jY
 | [],_,_=>[]
 | _::r,0,b=>b::r
 | a::r,n+1,b=>a::NB r n b
def cv(β:Nat->Nat)(l:List (Nat×Nat×SV)):List (Nat×aw):=l.map fun p=>(p.1,val β p.2.2)
theorem kR β:∀l i,xP (cv β l) i=(dK l i).map fun p=>val β p.2
 | [],_=>rfl
 | (k,s)::r,i=>by
  simp[cv,bD,xP,dK];cases Nat.beq k i with
  | true=>rfl
  | false=>exact kR β r i
structure agM (β:Nat->Nat) (w0 w:av) (i:Nat) (b:jY):Prop where
 blk:Blk w (β i) b.ty (cw β b.cells)
 at_:∀k,b.blk=some k->β i=k
 new:b.blk=none->w0.heap.size<=β i
structure Rep (β:Nat->Nat) (st:St) (a:Act) (w:av):Prop where
 fr:∃us,a=frD st.n us (cv β st.fr) (Xw st.df)
 bx:∀i b,cV st.bx i=some b->b.ok=true->agM β st.w0 w i b
 ne:∀i j bi bj,cV st.bx i=some bi->cV st.bx j=some bj->bi.ok=true->bj.ok=true->i≠j->β i≠β j
 only:Only (st.dt.map β) st.w0 w
 still:st.mv=false->w=st.w0
structure Ext (s t:St):Prop where
 n:t.n=s.n
 ct:s.ct<=t.ct
 fr:∀i k v,dK t.fr i=some (k,v)->k<s.ct->dK s.fr i=some (k,v)
 bx:∀i b',cV t.bx i=some b'->b'.ok=true->b'.stp<s.ct->∃b,cV s.bx i=some b/\b.ok=true/\b.cells=b'.cells/\b.ty=b'.ty/\b.stp=b'.stp/\(∀k,b.blk=some k->b'.blk=some k)
 ps:∀i b,cV s.bx i=some b->∃b',cV t.bx i=some b'/\b'.ty=b.ty/\b'.ok=b.ok/\∀k,b.blk=some k->b'.blk=some k
 df:∃l,t.df=l++s.df
theorem Fs{s:St}:∃l,s.df=l++s.df:=⟨[],rfl⟩
theorem P2{l}:∀i b,cV l i=some b->∃b',cV l i=some b'/\b'.ty=b.ty/\b'.ok=b.ok/\∀k,b.blk=some k->b'.blk=some k:=fun i b h=>⟨b,h,rfl,rfl,fun _ h=>h⟩
theorem Ext.refl s:Ext s s:=⟨rfl,aX _,fun _ _ _ h _=>h,fun i b h ho _=>⟨b,h,ho,rfl,rfl,rfl,fun _ h=>h⟩,P2,Fs⟩
theorem Ext.trans{s t u}(h:Ext s t)(k:Ext t u):Ext s u:=
 ⟨k.n.trans h.n,bp h.ct k.ct,fun i m v hl bS=>h.fr i m v (k.fr i m v hl (cm bS h.ct)) bS,fun i b'' hb ho hs=>by
  obtain⟨b',k1,k2,k3,k4,k6,k5⟩:=k.bx i b'' hb ho (cm hs h.ct);obtain⟨b,h1,h2,h3,h4,h6,h5⟩:=h.bx i b' k1 k2 (by rw[k6];exact hs);exact⟨b,h1,h2,h3.trans k3,h4.trans k4,h6.trans k6,fun m hm=>k5 m (h5 m hm)⟩,fun i b hb=>by
  obtain⟨b',h1,h2,h3,h4⟩:=h.ps i b hb;obtain⟨b'',k1,k2,k3,k4⟩:=k.ps i b' h1;exact⟨b'',k1,k2.trans h2,k3.trans h3,fun m hm=>k4 m (h4 m hm)⟩,by
  obtain⟨l,h1⟩:=h.df;obtain⟨m,k1⟩:=k.df;exact⟨m++l,by rw[k1,h1,bH]⟩⟩
section
variable {β:Nat->Nat} {st:St} {a:Act} {w:av}
theorem Rep.get(h:Rep β st a w){i}{s}(hg:st.get i=some s):a.eval (.tmp i)=val β s:=by
 obtain⟨us,rfl⟩:=h.fr;show(Kt.fr st.n us _).eval (.tmp i)=_;refine evE (n0:=st.n) (us0:=us) ?_;unfold St.get at hg;cases hb:Nat.blt i st.n with
 | false=>rw[hb]at hg;cases hg
 | true=>
  rw[hb,nQ]at hg;simp only[evO,hb,nQ,kR];cases hl:dK st.fr i with
  | none=>rw[hl]at hg;cases hg
  | some p=>
   rw[hl]at hg;simp at hg;rw[dR,hg]
theorem Rep.ev(h:Rep β st a w){x}{s}(hg:st.ev x=some s):a.eval x=val β s:=by
 cases x with
 | tmp k=>exact h.get hg
 | const v=>rw[KN hg];rfl
 | global g=>
  simp[St.ev,aZ]at hg;subst hg;rfl
 | func f=>
  simp[St.ev,aZ]at hg;subst hg;rfl
theorem Rep.M5(h:Rep β st a w):∀{xs:List Operand} {l:List SV},st.M5 xs=some l->xs.map a.eval=cw β l
 | [],l,hg=>by simp[St.M5,aZ]at hg;subst hg;rfl
 | x::r,l,hg=>by
  simp[St.M5]at hg;split at hg
  ·rename_i v vs hx hr;simp at hg;subst hg;rw[bD,h.ev hx,h.M5 hr];rfl
  ·cases hg
def B7(β:Nat->Nat)(l:List (Nat×SV)):List (Nat×aw):=l.map fun p=>(p.1,val β p.2)
theorem Rep.Un(h:Rep β st a w):∀{xs:List _} {l:List _},st.Un xs=some l->(xs.map fun q=>(q.1,a.eval q.2))=B7 β l
 | [],l,hg=>by simp[St.Un,aZ]at hg;subst hg;rfl
 | _::r,l,hg=>by
  simp[St.Un]at hg;split at hg
  ·rename_i v vs hx hr;simp at hg;subst hg;rw[bD,h.Un hr,h.ev hx];rfl
  ·cases hg
theorem St.evO{st:St} β {x} {s} (hg:st.ev x=some s):Kt.evO st.n (cv β st.fr) x=some (val β s):=by
 cases x with
 | tmp i=>
  have hg:st.get i=some s:=hg;unfold St.get at hg;cases hb:Nat.blt i st.n with
  | false=>rw[hb]at hg;cases hg
  | true=>
   rw[hb,nQ]at hg;simp only[Kt.evO,hb,nQ,kR];cases hl:dK st.fr i with
   | none=>rw[hl]at hg;cases hg
   | some p=>
    rw[hl]at hg;simp at hg;rw[dR,hg]
 | const v=>rw[KN hg];rfl
 | global g=>
  simp[St.ev,aZ]at hg;subst hg;rfl
 | func f=>
  simp[St.ev,aZ]at hg;subst hg;rfl
theorem Rep.put(h:Rep β st a w) d v:Rep β (st.put d v) (a.put d (val β v)) w:=by
 cases d with
 | none=>exact h
 | some k=>
  obtain⟨us,rfl⟩:=h.fr;exact⟨⟨us,bI (fun a:Act=>(⟨a.tmps,Xw st.df⟩:Act)) (Zv (n0:=st.n) (us0:=us) (l0:=cv β st.fr) (k:=k) (v:=val β v))⟩,h.bx,h.ne,h.only,h.still⟩
theorem Ext.put st d v:Ext st (st.put d v):=by
 cases d with
 | none=>exact Ext.refl _
 | some k=>
  refine⟨rfl,iA _,fun i m u hl bS=>?_,fun i b h ho _=>⟨b,h,ho,rfl,rfl,rfl,fun _ h=>h⟩,P2,Fs⟩;simp[St.put,dK]at hl;cases hb:Nat.beq k i with
  | true=>
   rw[hb]at hl;simp at hl;omega
  | false=>rw[hb]at hl;simpa using hl
theorem Rep.frame(h:Rep β st a w){fr'}(hs:∀i p,dK fr' i=some p->∃q,dK st.fr i=some q/\val β q.2=val β p.2):Rep β {st with fr:=fr'} a w:=by
 obtain⟨us,rfl⟩:=h.fr;refine⟨?_,h.bx,h.ne,h.only,h.still⟩;refine⟨fun i=>ua us (cv β st.fr) i,?_⟩;unfold frD;congr 2;apply jp;intro i;by_cases hi:i<st.n
 ·rw[mg _ _ _ _ _ hi,mg _ _ _ _ _ hi,bO];cases hl:dK fr' i with
  | none=>
   rw[Ds (l:=cv β fr') (by rw[kR,hl];rfl)]
  | some p=>
   obtain⟨q,h1,h2⟩:=hs i p hl;rw[tA (l:=cv β fr') (v:=val β p.2) (by rw[kR,hl];rfl),tA (l:=cv β st.fr) (v:=val β p.2) (by rw[kR,h1,dR,h2])]
 ·rw[dH (by rw[ny];exact xJ hi),dH (by rw[ny];exact xJ hi)]
end
end Go.Kt.V
