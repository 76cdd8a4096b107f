import Derived.WalkKit
import Derived.Deep.Draws
import Derived.Deep.LoopGhost
import Derived.Deep.Quiet
import Derived.OrdersHeld
import Derived.Laws.Small
import Derived.Laws.AppendOwn
import Derived.Great.BuildSlice
import Derived.Laws.MakeOwn
import Derived.MapKept
import Derived.Lib.Strings
import Derived.KernelRfl
import Derived.ChangeKeysEq
import Derived.Laws.Tables
import Derived.Defers
import Derived.Test.YtbkjcdocjfknfaaGreatDoorRows
import Derived.Ground.Names2Prog
import Derived.Ground.SlgnProg
import Derived.Test.YtbkjcdocjfknfaaGreatDoorProg
import Derived.Lib.ParseIntB
import Derived.Lib.Bytealg
import Derived.Lib.ItoaLen
import Derived.Lib.AtoiErrMem
import Derived.Lib.Builder
import Derived.Lib.AppendStr
import Derived.Lib.UnsafeStr
import Derived.Lib.Join
import Derived.Lib.Repeat
import Derived.WideKeyElems
import Derived.Sort.KeysCollected
import Derived.ProofKit
import Derived.OpenShut
import Derived.SizedLaws
import Derived.Deep.Slices
import Derived.JoinedCond
import Derived.Deep.CondSized
import Derived.Lib.TrailingZeros
import Derived.Laws.BitsAllLaws
import Derived.Lib.LaidTab
import Derived.Laws.CopyRow
set_option linter.defProp false
def aN:=@List.mem_singleton
def aO:=@List.length_append
def aP:=@of_decide_eq_true
def aQ:=@List.mem_cons
def aR:=@Bool.and_eq_true
def aU:=@of_decide_eq_false
def aV:=@Nat.le_refl
def aW:=@List.not_mem_nil
def aX:=@Option.some.injEq
def aY:=@List.getElem?_eq_some_iff
def aZ:=@Int.toNat_natCast
def bf:=@List.length_cons
def bh:=@Nat.le_trans
def bm:=@Int.natCast_nonneg
def bp:=@Nat.zero_le
def bq:=@decide_eq_false
def bA:=@List.take_of_length_le
def bB:=@List.getElem?_eq_getElem
def bC:=@List.length_map
def bE:=@List.map_cons
def bF:=@List.append_assoc
def bG:=@List.mem_of_getElem?
def bH:=@List.take_add_one
def bI:=@decide_eq_true
def bJ:=@Nat.zero_add
def bK:=@List.length_singleton
def bM:=@List.getElem?_append_left
def bN:=@List.append_nil
def bO:=@congrArg
def bP:=@or_false
def bR:=@Nat.eq_of_beq_eq_true
def bT:=@Bool.eq_iff_iff
def bW:=@decide_eq_true_eq
def bX:=@List.getElem?_append_right
def bZ:=@List.cons_append
def ca:=@List.eq_nil_of_length_eq_zero
def cb:=@Nat.lt_of_lt_of_le
def cf:=@List.nil_append
def ch:=@Decidable.byContradiction
def ci:=@Nat.le_of_ble_eq_true
def cj:=@List.sum_cons
def ck:=@List.getElem?_cons_zero
def cr:=@List.mem_append
def cu:=@List.length_nil
def cy:=@List.length_drop
def cz:=@List.getElem?_cons_succ
def cD:=@Bool.or_eq_true
def cF:=@List.getElem?_map
def cK:=@List.take_zero
def cN:=@List.map_append
def cO:=@List.length_take
def cP:=@List.mem_cons_of_mem
def cY:=@List.flatten_cons
def dc:=@List.mem_cons_self
def dk:=@Bool.true_and
def dx:=@Nat.add_zero
def dz:=@decide_eq_true_iff
def dC:=@List.getElem?_eq_none
def dD:=@List.take_append_drop
def dF:=@List.takeWhile_cons
def dG:=@List.filter_nil
def dH:=@Nat.add_sub_cancel_left
def dJ:=@Nat.add_assoc
def dK:=@Bool.not_eq_true'
def dL:=@Bool.eq_false_iff
def dU:=@Array.getElem?_eq_none
def dV:=@List.map_nil
def dZ:=@Bool.false_and
def eb:=@List.all_eq_true
def ec:=@List.take_succ_cons
def eA:=@Nat.add_mul
def eB:=@Prod.mk.injEq
def eC:=@Except.ok.injEq
def eO:=@Option.isSome_iff_exists
def eT:=@List.mem_map
def eX:=@Nat.eq_of_testBit_eq
def fg:=@Option.map_eq_some_iff
def fh:=@Nat.testBit_eq_decide_div_mod_eq
def fk:=@Option.map_some
def fE:=@Nat.mul_le_mul_right
def fK:=@decide_eq_false_iff_not
def fV:=@List.toList_toArray
def fY:=@List.sum_nil
def fZ:=@Nat.le_succ
def gw:=@decide_eq_decide
def gx:=@Nat.zero_testBit
def gz:=@List.filter_append
def gD:=@List.length_replicate
def gU:=@List.drop_eq_getElem_cons
def ig:=@List.getElem?_of_mem
def ii:=@List.map_map
def iI:=@if_false
def iJ:=@List.drop_zero
def iK:=@Nat.add_le_add
def iR:=@Nat.mul_one
def iX:=@Bool.false_eq_true
def iY:=@List.getElem?_drop
def iZ:=@List.drop_of_length_le
def jw:=@Bool.and_true
def jz:=@List.ext_getElem?
def jP:=@Array.getElem?_eq_some_iff
def jQ:=@List.mem_range
def jR:=@List.elem_cons
def kq:=@Option.getD_some
def kr:=@Option.bind_some
def ku:=@Nat.add_comm
def kE:=@Array.length_toList
def kF:=@List.drop_succ_cons
def kG:=@Int.toNat_of_nonneg
def lg:=@List.map_take
def lM:=@Option.toList_some
def lS:=@cond_true
def lU:=@Int.le_refl
def mC:=@List.size_toArray
def mD:=@Nat.sub_self
def mE:=@Nat.div_div_eq_div_mul
def nc:=@Array.getElem?_setIfInBounds_ne
def ni:=@List.set_append_right
def nj:=@List.getElem?_toArray
def nl:=@List.take_eq_take_iff
def nq:=@List.contains_iff_mem
def oh:=@Nat.le_of_not_lt
def ol:=@beq_iff_eq
def om:=@Bool.not_eq_true
def oo:=@List.filter_cons
def oq:=@List.getElem_mem
def ov:=@List.map_drop
def pb:=@Bool.or_eq_false_iff
def pF:=@List.length_set
def pG:=@List.cons.injEq
def pH:=@List.mem_filter
def pI:=@List.map_congr_left
def pJ:=@List.length_pos_iff
def pK:=@List.flatMap_append
def rk:=@cond_false
def rl:=@List.drop_drop
def rm:=@List.getD_eq_getElem?_getD
def sH:=@Option.isNone_iff_eq_none
def sI:=@List.mem_or_eq_of_mem_set
def sQ:=@Nat.lt_succ_of_le
def vX:=@Nat.sub_zero
def wz:=@Option.map_none
def wA:=@List.headD_cons
def wB:=@List.all_append
def yx:=@Array.getElem?_modify
def yy:=@List.length_filter_le
def yX:=@Bool.and_assoc
def BZ:=@List.flatten_append
def Ek:=@List.set_cons_zero
def El:=@Bool.not_eq_false'
def Em:=@Nat.pos_of_ne_zero
def Gc:=@Nat.zero_mul
def Gd:=@List.getElem?_set
def Gf:=@Bool.or_true
def Gh:=@List.flatMap_cons
def Gi:=@Decidable.not_not
def Gj:=@List.foldl_append
def Gk:=@Nat.le_of_eq
def Gl:=@List.length_range
def Kk:=@Array.toList_inj
def Kl:=@Nat.le_max_right
def Km:=@Nat.succ_le_succ
def Kn:=@Nat.lt_succ_self
def Ko:=@List.any_eq_true
def Kp:=@List.flatMap_nil
def Kq:=@List.map_id
def Kr:=@Nat.pow_add
def KT:=@List.take_append_of_le_length
def OY:=@UInt8.toNat_inj
def OZ:=@Nat.le_max_left
def O0:=@Nat.testBit_and
def O1:=@Nat.min_eq_left
def PI:=@List.take_length_add_append
def PJ:=@List.drop_length_add_append
abbrev aq0(w v:Go.World)(k:Nat)(p:Prop):Prop:=w.heap.size<=k->k<v.heap.size->p
abbrev aG:=Go.Value->Go.World->Prop
abbrev aH:=List UInt8
abbrev aI:=List Go.Value
abbrev aJ:=Nat->Prop
abbrev aK:=ByteArray
set_option linter.unusedSectionVars false
namespace Go.Kt
open Go renaming World->av,Value->aw
open Go Go.RowKit
set_option linter.unusedSimpArgs false
set_option linter.unusedVariables false
structure Sl where
 a:Option Addr
 n:Nat
 c:Nat
@[reducible] def Sl.v(s:Sl):aw:=.slice s.a s.n s.c
@[reducible] def Sl.nil:Sl:=⟨none,0,0⟩
def Sl.cut(s:Sl)(l h m size:Nat):Sl:=⟨if m=l then s.a else s.a.map (·.add (l*size)),h-l,m-l⟩
def dy(s:Sl)(i:Int)(size:Nat)(ad:Addr):Prop:=∃base,s.a=some base/\0<=i/\i<s.n/\ad=base.add (i.toNat*size)
structure Only (bs:List Nat) (w w':av):Prop where
 os:w'.os=w.os
 tape:w'.tape=w.tape
 output:w'.output=w.output
 size:w.heap.size<=w'.heap.size
 block:∀k,k<w.heap.size->k∉bs->w'.heap[k]? =w.heap[k]?
def Blk(w:av)(b:Nat)(t:TypeId)(cs:List aw):Prop:=w.heap[b]? =some (.cells cs.toArray t (0,0))
def Cells(w:av)(a:Addr)(cs:List aw):Prop:=∀j v,cs[j]? =some v->w.cell? (a.add j)=some v
def bS(bs:List Nat)(w w':av):Prop:=∀b,b∈bs->w'.heap[b]? =w.heap[b]?
def fi(b:UInt8):aw:=.int .u8 b.toNat
def wC(w:av)(s:Sl)(l:List UInt8):Prop:=s.n=l.length/\(l≠[]->∃ad,s.a=some ad/\Cells w ad (l.map fi))
def Sl.blk(s:Sl):Nat:=match s.a with | some a=>a.block | none=>0
def cd(cs:List aw)(o:Nat)(vs:List aw):List aw:=cs.take o++vs++cs.drop (o+vs.length)
section
variable {w w' sA:av} {bs bs':List Nat} {b:Nat} {t:TypeId} {cs:List aw}
theorem Blk.lt(h:Blk w b t cs):b<w.heap.size:=(jP.1 h).1
theorem Only.refl bs w:Only bs w w:=⟨rfl,rfl,rfl,aV _,fun _ _ _=>rfl⟩
theorem Only.weaken(h:Only bs w w')(hb:∀x,x∈bs->x∈bs'∨w.heap.size<=x):Only bs' w w':=
 ⟨h.os,h.tape,h.output,h.size,fun k hk hn=>h.block k hk fun hm=>by grind⟩
theorem Only.trans(h:Only bs w w')(k:Only bs' w' sA)(hb:∀x,x∈bs'->x∈bs∨w.heap.size<=x):Only bs w sA:=
 ⟨k.os.trans h.os,k.tape.trans h.tape,k.output.trans h.output,bh h.size k.size,fun i hi hn=>
  (k.block i (cb hi h.size) fun hm=>by grind).trans (h.block i hi hn)⟩
theorem Only.cp(h:Only bs w w')(k:Only [] w' sA):Only bs w sA:=h.trans k (by simp)
theorem Only.cons(h:Only bs w w')(k:Only [b] w' sA):Only (b::bs) w sA:=
 (h.weaken (bs':=b::bs) fun _ hx=>.inl (cP _ hx)).trans k fun x hx=>.inl (by grind)
theorem Only.mem(h:Only bs w w')(k:Only [b] w' sA)(hb:b∈bs):Only bs w sA:=h.trans k fun x hx=>.inl (by grind)
theorem Only.new(h:Only bs w w')(k:Only [b] w' sA)(hb:w.heap.size<=b):Only bs w sA:=h.trans k fun x hx=>.inr (by grind)
theorem Only.blk(h:Only bs w w')(hb:Blk w b t cs)(hn:b∉bs):Blk w' b t cs:=(h.block b hb.lt hn).trans hb
theorem Only.below(h:Only bs w w'){B}(hB:B<=w.heap.size)(hb:∀x,x∈bs->B<=x):Below B w w':=
 ⟨h.os,h.tape,h.output,h.size,fun k hk=>h.block k (by omega) fun hm=>by have:=hb k hm;omega⟩
theorem Only.nZ(h:Below w.heap.size w w'):Only [] w w':=⟨h.os,h.tape,h.output,h.size,fun k hk _=>h.block k hk⟩
theorem Only.drew w:Only [] w w.drew:=⟨rfl,rfl,rfl,aV _,fun _ _ _=>rfl⟩
theorem Only.drewN w n:Only [] w (w.drewN n):=⟨rfl,rfl,rfl,aV _,fun _ _ _=>rfl⟩
theorem Only.alloc w o:Only [] w (w.alloc o):=⟨rfl,rfl,rfl,by simp,fun k hk _=>_root_.Go.heap_alloc_old w o hk⟩
theorem Only.setRow w b cs:Only [b] w (w.setRow b cs):=⟨rfl,rfl,rfl,by simp,fun k _ hn=>setRow_other w b k cs (by simpa using hn)⟩
theorem Only.same(h:Only bs w w')(hl:∀x,x∈bs'->x<w.heap.size/\x∉bs):bS bs' w w':=fun x hx=>h.block x (hl x hx).1 (hl x hx).2
theorem Blk.alloc(w:av) t cs:Blk (w.alloc (.cells cs.toArray t)) w.heap.size t cs:=heap_alloc_new w _
theorem Blk.setRow(h:Blk w b t cs) ui:Blk (w.setRow b ui.toArray) b t ui:=setRow_heap w b _ _ t _ h
theorem Blk.cell(h:Blk w b t cs) i:w.cell? ⟨b,i,none⟩=cs[i]? :=by rw[cell_of_row w b i cs.toArray t _ h];simp
theorem Blk.cells(h:Blk w b t cs) o vs (hv:∀j v,vs[j]? =some v->cs[o+j]? =some v):Cells w ⟨b,o,none⟩ vs:=fun j v hj=>by
 have agq:(⟨b,o,none⟩:Addr).add j=⟨b,o+j,none⟩:=by unfold Addr.add<;>simp_all
 rw[agq,h.cell];exact hv j v hj
theorem Blk.BE(h:Blk w b t cs) o vs (hv:(cs.drop o).take vs.length=vs):Cells w ⟨b,o,none⟩ vs:=h.cells o vs fun j v hj=>by grind
theorem Cells.one{a}{v}(h:Cells w a [v]):w.cell? a=some v:=by have:=h 0 v rfl;simpa[Addr.add]using this
theorem Cells.keep{a}(h:Cells w a cs)(hk:w'.heap[a.block]? =w.heap[a.block]?):Cells w' a cs:=fun j v hj=>by
 rw[World.cell?_of_block (w:=w) _ (a:=a.add j)]
 ·exact h j v hj
 ·have:(a.add j).block=a.block:=by unfold Addr.add;split<;>rfl
  rw[this,hk]
theorem Cells.lt'{a}(h:Cells w a cs)(hc:cs≠[]):a.block<w.heap.size:=by
 cases cs with
 | nil=>exact absurd rfl hc
 | cons v cs=>
  have h2:=block_lt_of_cell (h 0 v rfl);have e:(a.add 0).block=a.block:=rfl;omega
theorem Cells.lt{a}{v}(h:Cells w a (v::cs)):a.block<w.heap.size:=by
 have:=h 0 v rfl;have h2:=block_lt_of_cell this;have e:(a.add 0).block=a.block:=rfl;omega
end
section
variable {P:Program} {ops:Array Oper} {Q:Exit->Act->av->Prop} {rest:List Oper} {a a':Act} {w w':av}
theorem f0(l:List aw) ds (k:Nat) v:Act.put ⟨l.toArray,ds⟩ (some k) v=⟨(l.set k v).toArray,ds⟩:=by simp[Act.put]
theorem f1 x l (v:aw):(x::l).set 0 v=v::l:=rfl
theorem f3(a:Act) v:a.put none v=a:=rfl
theorem f2 x l k (v:aw):(x::l).set (k+1) v=x::l.set k v:=rfl
def fA:List Oper->Nat->Option Oper
 | [],_=>none
 | v::_,0=>some v
 | _::r,n+1=>fA r n
theorem iB:∀l n,fA l n=l[n]?
 | [],_=>rfl
 | _::_,0=>rfl
 | _::r,n+1=>iB r n
def TV:List aw->Nat->Option aw
 | [],_=>none
 | v::_,0=>some v
 | _::r,n+1=>TV r n
theorem Gm:∀l n,TV l n=l[n]?
 | [],_=>rfl
 | _::_,0=>rfl
 | _::r,n+1=>Gm r n
theorem wt{o oj}{eF}{l}{ds}{j d:Nat}{want b r}(h1:o.guard=some (j,want))(h2:fA eF j=some oj)(h3:oj.dst=some d)
  (h4:TV l d=some (.bool b)) (h5:(b==want)=r):Region.wanted o (yielded eF.toArray (⟨l.toArray,ds⟩:Act).tmps)=r:=by
 subst h5;rw[iB]at h2;rw[Gm]at h4;have e:yielded eF.toArray (⟨l.toArray,ds⟩:Act).tmps j=some b:=by simp[yielded,h2,h3,h4]
 simp only[Region.wanted,h1,e];rfl
theorem wn{o}{f}(h:o.guard=none):Region.wanted o f=true:=by simp[Region.wanted,h]
theorem zW{o} v (hg:Region.wanted o (yielded ops a.tmps)=true)
  (hr:(execOp a.eval o).run P w=.ok (.value v) w') (ha:a.put o.dst v=a') (h:wpList P ops Q rest a' w'):wpList P ops Q (o::rest) a w:=by
 subst ha;unfold wpList;rw[if_pos hg];refine .inl ?_;unfold Oper.wp;rw[hr];exact h
theorem R5{o}(hg:Region.wanted o (yielded ops a.tmps)=false)(ha:a.put o.dst undef=a')(h:wpList P ops Q rest a' w):wpList P ops Q (o::rest) a w:=by
 subst ha;unfold wpList;simp_all
theorem zX{dst}{ty}{x}{t'}{p}{af}{g}{ad}{v}
  (FO:(isAgg ty).run P w=.ok false w) (hx:a.eval x=.pointer (some ad)) (hc:w.cell? ad=some v):
  (execOp a.eval ⟨dst,.load ty x,t',p,af,g⟩).run P w=.ok (.value v) w:=by
 simp[execOp,hx,Instr.loadAt,Instr.sureAddr,Sem.run_bind,Sem.run_pure,Result.andThen_ok,loadVar,FO,iX,iI,run_load,hc]
theorem qD{dst}{ty}{x}{t'}{p}{af}{g}{ad}{cs}{n}
  (FO:(isAgg ty).run P w=.ok true w) (hsz:(sizeOf ty).run P w=.ok n w) (hn:cs.length=n) (hx:a.eval x=.pointer (some ad)) (hc:Cells w ad cs):
  (execOp a.eval ⟨dst,.load ty x,t',p,af,g⟩).run P w=.ok (.value (.agg cs.toArray)) w:=by
 have hl:=run_loadCells_list (P:=P) w ad cs hc;rw[hn]at hl;simp[execOp,hx,Instr.loadAt,Instr.sureAddr,Sem.run_bind,Sem.run_pure,Result.andThen_ok,loadVar,FO,if_true,hsz,hl]
theorem PK{dst}{ty}{x y}{t'}{p}{af}{g}{b o}{cs vs}{et}{n}
  (hsz:(sizeOf ty).run P w=.ok n w) (hx:a.eval x=.pointer (some ⟨b,o,none⟩)) (hv:(a.eval y).cells=vs.toArray) (hn:vs.length=n)
  (h1:∀v∈vs,v.oneCell'=true) (hb:Blk w b et cs) (FP:o+vs.length<=cs.length):
  (execOp a.eval ⟨dst,.store ty x y,t',p,af,g⟩).run P w=.ok .skip (w.setRow b (cd cs o vs).toArray):=by
 simp[execOp,hx,Instr.storeAt,Instr.sureAddr,Sem.run_bind,Sem.run_pure,Result.andThen_ok,storeVar,hsz,hv,mC,hn,ne_eq,not_true_eq_false,iI,run_storeCells_at P b o et vs 0 cs.toArray w hb (by omega) h1,cd]
theorem PL{dst}{ty}{t'}{p}{af}{g}{z}{zs:List aw}
  (hz:(zeroValue ty).run P w=.ok z w) (hc:z.cells=zs.toArray):
  (execOp a.eval ⟨dst,.alloc ty,t',p,af,g⟩).run P w=.ok (.value (.pointer (some ⟨w.heap.size,0,none⟩))) (w.alloc (.cells zs.toArray ty)):=by
 simp only[execOp,Instr.alloc,Sem.run_bind,hz,Result.andThen_ok,newVar,hc];rfl
theorem Ym{dst}{ty}{x}{t'}{p}{af}{g}{zs:List aw}
  (hc:(a.eval x).cells=zs.toArray):
  (execOp a.eval ⟨dst,.box ty x,t',p,af,g⟩).run P w=.ok (.value (.pointer (some ⟨w.heap.size,0,none⟩))) (w.alloc (.cells zs.toArray ty)):=by
 simp only[execOp,Instr.box,newVar,hc];rfl
theorem KU{dst}{x}{t'}{p}{af}{g}{ad}(hx:a.eval x=.pointer (some ad)):
  (execOp a.eval ⟨dst,.nilCheck x,t',p,af,g⟩).run P w=.ok (.value (.pointer (some ad))) w:=by
 simp[execOp,hx]
theorem Gn{dst}{s}{x}{k}{t'}{p}{af}{g}{ad JK}{fs}{f}{n}
  (hu:(underlying s).run P w=.ok (.struct fs) w) (hf:fs[k]? =some f) (hsz:(sizeOf f.type).run P w=.ok (n+1) w) (hx:a.eval x=.pointer (some ad)) (he:ad.add f.offset=JK):
  (execOp a.eval ⟨dst,.fieldAddr s x k,t',p,af,g⟩).run P w=.ok (.value (.pointer (some JK))) w:=by
 subst he;simp[execOp,hx,Instr.fieldAt,Instr.sureAddr,hu,hf,fieldPlace,hsz]
theorem PM{dst}{c x y}{t'}{p}{af}{g}{v}(hc:a.eval c=.bool true)(hv:a.eval x=v):
  (execOp a.eval ⟨dst,.pick c x y,t',p,af,g⟩).run P w=.ok (.value v) w:=by
 subst hv;simp[execOp,hc,asBool]
theorem PN{dst}{c x y}{t'}{p}{af}{g}{v}(hc:a.eval c=.bool false)(hv:a.eval y=v):
  (execOp a.eval ⟨dst,.pick c x y,t',p,af,g⟩).run P w=.ok (.value v) w:=by
 subst hv;simp[execOp,hc,asBool]
theorem PO{dst}{t}{ps:List _}{t'}{p}{af}{g}{ps'}{v}
  (hp:(ps.map fun q=>(q.1,a.eval q.2))=ps') (hr:(Instr.build t ps'.toArray).run P w=.ok v w):
  (execOp a.eval ⟨dst,.build t ps.toArray,t',p,af,g⟩).run P w=.ok (.value v) w:=by
 subst hp;simp[execOp,hr]
theorem KV{dst}{t e}{x i}{t'}{p}{af}{g}{s}{k}{n}{ad}{sz}
  (hu:(underlying t).run P w=.ok (.slice e) w) (hsz:(sizeOf e).run P w=.ok sz w) (hx:a.eval x=s.v) (hi:a.eval i=.int k n) (VE:dy s n sz ad):
  (execOp a.eval ⟨dst,.indexAddr t x i,t',p,af,g⟩).run P w=.ok (.value (.pointer (some ad))) w:=by
 obtain⟨base,hb,h0,h1,rfl⟩:=VE;simp[execOp,hx,hi,Instr.indexAt,asIntOf,hu,hsz,hb,h0,h1]
theorem sR{dst:Option Tmp}{t e:TypeId}{x i:Operand}{t'}{p}{af}{g}{len}{k}{n}{ad JK}{sz}
  (hu:(underlying t).run P w=.ok (.array len e) w) (hsz:(sizeOf e).run P w=.ok sz w) (hx:a.eval x=.pointer (some ad)) (hi:a.eval i=.int k n) (h0:0<=n) (h1:n<len) (he:ad.add (n.toNat*sz)=JK):
  (execOp a.eval ⟨dst,.indexAddr t x i,t',p,af,g⟩).run P w=.ok (.value (.pointer (some JK))) w:=by
 subst he;simp[execOp,hx,hi,Instr.indexAt,asIntOf,hu,hsz,h0,h1,Instr.sureAddr]
theorem jV{b}{s}{dst}{xs:List Operand}{ts}{t'}{p}{af}{g}{v}
  (hb:∀VF,builtin b ts t' VF (xs.map a.eval).toArray=(do pure (.value (<-s)))) (hr:s.run P w=.ok v w'):
  (execOp a.eval ⟨dst,.call ⟨.builtin b,xs.toArray,ts⟩,t',p,af,g⟩).run P w=.ok (.value v) w':=by
 simp[execOp,resolve,invoke,List.map_toArray];simp_all
theorem uo{dst}{xs:List Operand}{ts}{t'}{p}{af}{g}{v}{vs}(hx:xs.map a.eval=vs)
  (hr:(Builtin.append_ ts t' vs.toArray).run P w=.ok v w'):(execOp a.eval ⟨dst,.call ⟨.builtin .append,xs.toArray,ts⟩,t',p,af,g⟩).run P w=.ok (.value v) w':=by
 subst hx;exact jV (fun _=>rfl) hr
theorem wD{dst}{xs:List Operand}{ts}{t'}{p}{af}{g}{v}{vs}(hx:xs.map a.eval=vs)
  (hr:(Builtin.copy_ ts t' vs.toArray).run P w=.ok v w'):(execOp a.eval ⟨dst,.call ⟨.builtin .copy,xs.toArray,ts⟩,t',p,af,g⟩).run P w=.ok (.value v) w':=by
 subst hx;exact jV (fun _=>rfl) hr
theorem uq{dst}{xs:List Operand}{ts}{t'}{p}{af}{g}{v}{vs}(hx:xs.map a.eval=vs)
  (hr:(Builtin.delete_ ts t' vs.toArray).run P w=.ok v w'):(execOp a.eval ⟨dst,.call ⟨.builtin .delete,xs.toArray,ts⟩,t',p,af,g⟩).run P w=.ok (.value v) w':=by
 subst hx;exact jV (fun _=>rfl) hr
theorem vD{dst}{xs:List Operand}{ts}{t'}{p}{af}{g}{v}{vs}(hx:xs.map a.eval=vs)
  (hr:(Builtin.clear_ ts t' vs.toArray).run P w=.ok v w'):(execOp a.eval ⟨dst,.call ⟨.builtin .clear,xs.toArray,ts⟩,t',p,af,g⟩).run P w=.ok (.value v) w':=by
 subst hx;exact jV (fun _=>rfl) hr
theorem yG{dst}{xs:List Operand}{ts}{t'}{p}{af}{g}{v}{vs}(hx:xs.map a.eval=vs)
  (hr:(Builtin.len_ ts t' vs.toArray).run P w=.ok v w'):(execOp a.eval ⟨dst,.call ⟨.builtin .len,xs.toArray,ts⟩,t',p,af,g⟩).run P w=.ok (.value v) w':=by
 subst hx;exact jV (fun _=>rfl) hr
section
variable {dst:Option Tmp} {x y z:Operand} {t t2:TypeId} {t':TypeId} {p:String} {af:Array Edge} {g:Option (Nat×Bool)} {u v vx vy vz:aw}
theorem zY{n}{ps:List _}{ps'}(hp:(ps.map fun q=>(q.1,a.eval q.2))=ps')(hr:(Instr.buildSlice t n ps'.toArray).run P w=.ok v w'):
  (execOp a.eval ⟨dst,.buildSlice t n ps.toArray,t',p,af,g⟩).run P w=.ok (.value v) w':=by
 subst hp;simp[execOp,hr]
theorem Cb(hx:a.eval x=vx)(hy:a.eval y=vy)(hr:(Instr.makeSlice t vx vy).run P w=.ok v w'):(execOp a.eval ⟨dst,.makeSlice t x y,t',p,af,g⟩).run P w=.ok (.value v) w':=by simp[execOp,hx,hy,hr]
theorem IQ(hr:(Instr.makeMap t none).run P w=.ok v w'):(execOp a.eval ⟨dst,.makeMap t none,t',p,af,g⟩).run P w=.ok (.value v) w':=by simp[execOp,hr]
theorem EB(hx:a.eval x=vx)(hr:(Instr.makeMap t (some vx)).run P w=.ok v w'):(execOp a.eval ⟨dst,.makeMap t (some x),t',p,af,g⟩).run P w=.ok (.value v) w':=by simp[execOp,hx,hr]
theorem KW{b}(hx:a.eval x=vx)(hy:a.eval y=vy)(hr:(Instr.lookup t vx vy b).run P w=.ok v w'):(execOp a.eval ⟨dst,.lookup t x y b,t',p,af,g⟩).run P w=.ok (.value v) w':=by simp[execOp,hx,hy,hr]
theorem Cf(hx:a.eval x=vx)(hy:a.eval y=vy)(hz:a.eval z=vz)(hr:(Instr.mapUpdate t vx vy vz).run P w=.ok () w'):(execOp a.eval ⟨dst,.mapUpdate t x y z,t',p,af,g⟩).run P w=.ok .skip w':=by simp[execOp,hx,hy,hz,hr]
theorem KX(hx:a.eval x=vx)(hy:a.eval y=vy)(hz:a.eval z=vz)(hr:(Instr.mapUpdate t vx vy vz).run P w=.ok () w'):(execOp a.eval ⟨dst,.insert t x y z,t',p,af,g⟩).run P w=.ok .skip w':=by simp[execOp,hx,hy,hz,hr]
theorem IR(hx:a.eval x=vx)(hr:(convert t t2 vx).run P w=.ok v w'):(execOp a.eval ⟨dst,.convert t t2 x,t',p,af,g⟩).run P w=.ok (.value v) w':=by simp[execOp,hx,hr]
end
theorem Yn{dst:Option Tmp}{t:TypeId}{e:TypeId}{x:Operand}{t':TypeId}{p:String}{af:Array Edge}{g}{s:Sl}
  (hu:(underlying t).run P w=.ok (.slice e) w) (hx:a.eval x=s.v):
  (execOp a.eval ⟨dst,.call ⟨.builtin .len,#[x],#[t]⟩,t',p,af,g⟩).run P w=.ok (.value (.int .i64 s.n)) w:=by
 simp[execOp,resolve,invoke,builtin,Builtin.len_,hu,hx,goInt]
theorem Cg{dst}{x}{f}{first captured}{xs:List Operand}{ats}{t'}{p}{af}{g}{args}
  (hx:a.eval x=.func (.func f) first.toArray captured.toArray)
  (hc:∀args w,(callFunc f args).run P w=.ok (.enter f args) w) (ha:first++xs.map a.eval++captured=args):
  (execOp a.eval ⟨dst,.call ⟨.value x,xs.toArray,ats⟩,t',p,af,g⟩).run P w=.ok (.enter f args.toArray) w:=by
 subst ha;simp only[execOp,resolve,hx,Deferred.ofValue,Sem.run_bind,Sem.run_pure,Result.andThen_ok,invoke,hc];simp
theorem jW{x}{k}{i y}{code}(hx:x=.int k i)(h:i<=y):(Instr.sliceBound x y code).run P w=.ok i w:=by
 subst hx;have:=by omega
 simp[Instr.sliceBound,asIntOf,this]
theorem wF{dst}{s d e}{x}{t'}{p}{af}{g}{sl}{l}
  (hs:P.underlying s=some (.slice e)) (he:P.underlying e=some (.int .u8)) (hd:P.underlying d=some .string) (hx:a.eval x=sl.v) (hb:wC w sl l):
  (execOp a.eval ⟨dst,.convert s d x,t',p,af,g⟩).run P w=.ok (.value (.string ⟨l.toArray⟩)) w:=by
 obtain⟨hn,hc⟩:=hb;obtain⟨sa,sn,sc⟩:=sl;subst hn;have key:(convert s d (.slice sa l.length sc)).run P w=.ok (.string ⟨l.toArray⟩) w:=by
  cases sa with
  | none=>
   have:l=[]:=Classical.byContradiction fun h=>by grind
   subst this;exact run_convert_bytes_nil w s e hs he _ _ d hd
  | some ad=>
   refine run_convert_bytes_back w s d e ad sc l hs he hd fun j hj=>?_;obtain⟨JK,h1,h2⟩:=hc (fun h=>by simp[h]at hj);injection h1 with h1;subst h1;exact h2 j _ (by simp[fi,bB hj])
 simp[execOp,hx,key]
theorem EC{dst}{fn}{fs cs:List Operand}{t'}{p}{af}{g}{fv cv}(h1:fs.map a.eval=fv)(h2:cs.map a.eval=cv):
  (execOp a.eval ⟨dst,.makeFunc fn fs.toArray cs.toArray,t',p,af,g⟩).run P w=.ok (.value (.func fn fv.toArray cv.toArray)) w:=by
 subst h1;subst h2;simp[execOp,Instr.makeFunc]
theorem Yo{dst}{t ty}{x y}{t'}{p}{af}{g}{k}{m n}(hx:a.eval x=.int k m)(hy:a.eval y=.int k n)(hn:n≠0):
  (execOp a.eval ⟨dst,.binOp .quo t x y ty,t',p,af,g⟩).run P w=.ok (.value (.int k (k.wrap (m.tdiv n)))) w:=by
 have e:binOp .quo t (.int k m) (.int k n)=Op.intDiv .quo k m n:=by simp[binOp]
 have hg:eqGuard .quo t x y (.int k m) (.int k n)=pure _:=rfl;simp[execOp,hx,hy,hg,e,Op.intDiv,hn,iI,Sem.run_bind,Sem.run_pure,Result.andThen_ok]
theorem Yp{dst}{t ty}{x y}{t'}{p}{af}{g}{k}{m n}(hx:a.eval x=.int k m)(hy:a.eval y=.int k n)(hn:n≠0):
  (execOp a.eval ⟨dst,.binOp .rem t x y ty,t',p,af,g⟩).run P w=.ok (.value (.int k (m.tmod n))) w:=by
 have e:binOp .rem t (.int k m) (.int k n)=Op.intDiv .rem k m n:=by simp[binOp]
 have hg:eqGuard .rem t x y (.int k m) (.int k n)=pure _:=rfl;simp[execOp,hx,hy,hg,e,Op.intDiv,hn,iI,Sem.run_bind,Sem.run_pure,Result.andThen_ok]
theorem Yq{dst}{t ty}{x y}{t'}{p}{af}{g}{k k'}{m n}(hx:a.eval x=.int k m)(hy:a.eval y=.int k' n)(hn:0<=n):
  (execOp a.eval ⟨dst,.binOp .shl t x y ty,t',p,af,g⟩).run P w=.ok (.value (.int k (k.wrap (m*2 ^ (min n.toNat k.bits))))) w:=by
 have hg:eqGuard .shl t x y (.int k m) (.int k' n)=pure _:=rfl;have e:binOp .shl t (.int k m) (.int k' n)=Op.shift .shl k m k' n:=rfl;have hn':¬n<0:=by omega
 simp[execOp,hx,hy,hg,e,Op.shift,hn',iI,Sem.run_bind,Sem.run_pure,Result.andThen_ok]
theorem Yr{dst}{t ty}{x y}{t'}{p}{af}{g}{k k'}{m n}(hx:a.eval x=.int k m)(hy:a.eval y=.int k' n)(hn:0<=n):
  (execOp a.eval ⟨dst,.binOp .shr t x y ty,t',p,af,g⟩).run P w=.ok (.value (.int k (m.fdiv (2 ^ (min n.toNat k.bits))))) w:=by
 have hg:eqGuard .shr t x y (.int k m) (.int k' n)=pure _:=rfl;have e:binOp .shr t (.int k m) (.int k' n)=Op.shift .shr k m k' n:=rfl;have hn':¬n<0:=by omega
 simp[execOp,hx,hy,hg,e,Op.shift,hn',iI,Sem.run_bind,Sem.run_pure,Result.andThen_ok]
theorem ED{dst}{t}{x i}{t'}{p}{af}{g}{s}{k}{n}{c}
  (hu:(underlying t).run P w=.ok .string w) (hx:a.eval x=.string s) (hi:a.eval i=.int k n) (h0:0<=n) (h1:s[n.toNat]? =some c):
  (execOp a.eval ⟨dst,.index t x i,t',p,af,g⟩).run P w=.ok (.value (.int .u8 c.toNat)) w:=by
 simp[execOp,hx,hi,Instr.index,asIntOf,hu,Sem.run_bind,Sem.run_pure,Result.andThen_ok,h0,if_true,h1]
theorem KY{dst}{t ty}{x y}{t'}{p}{af}{g}{s u}(hx:a.eval x=.string s)(hy:a.eval y=.string u)(hn:(s.size:Int)+u.size<=9223372036854775807):
  (execOp a.eval ⟨dst,.binOp .add t x y ty,t',p,af,g⟩).run P w=.ok (.value (.string (s++u))) w:=by
 have hg:eqGuard .add t x y (.string s) (.string u)=pure _:=rfl;have e:binOp .add t (.string s) (.string u)=Op.stringOp .add s u:=rfl;have hn':¬((s.size+u.size:Nat))>IntKind.i64.max:=by simp_all
 simp only[execOp,hx,hy,hg,e,Op.stringOp,hn',iI,Sem.run_bind,Sem.run_pure,Result.andThen_ok]
theorem Ys{dst}{t}{e}{x}{t'}{p}{af}{g}{s:Sl}
  (hu:(underlying t).run P w=.ok (.slice e) w) (hx:a.eval x=s.v):
  (execOp a.eval ⟨dst,.call ⟨.builtin .cap,#[x],#[t]⟩,t',p,af,g⟩).run P w=.ok (.value (.int .i64 s.c)) w:=by
 simp[execOp,resolve,invoke,builtin,Builtin.cap_,hu,hx,goInt]
theorem zZ{dst:Option Tmp}{t:TypeId}{x lo:Operand}{t':TypeId}{p:String}{af:Array Edge}{g:Option (Nat×Bool)}{s:ByteArray}{k:IntKind}{l:Nat}
  (hu:(underlying t).run P w=.ok .string w) (hx:a.eval x=.string s) (hl:a.eval lo=.int k (l:Int)) (h1:l<=s.size) (_h2:s.size<=s.size):
  (execOp a.eval ⟨dst,.slice t x (some lo) none none,t',p,af,g⟩).run P w=.ok (.value (.string (s.extract l s.size))) w:=by
 simp[execOp,hx,Instr.sliceAt,hu,Instr.slice,Instr.sliceBounds,jW hl h1]
theorem Aa{dst}{t}{x hi}{t'}{p}{af}{g}{s}{k}{h:Nat}
  (hu:(underlying t).run P w=.ok .string w) (hx:a.eval x=.string s) (hh:a.eval hi=.int k h) (_h1:0<=h) (h2:h<=s.size):
  (execOp a.eval ⟨dst,.slice t x none (some hi) none,t',p,af,g⟩).run P w=.ok (.value (.string (s.extract 0 h))) w:=by
 simp[execOp,hx,Instr.sliceAt,hu,Instr.slice,Instr.sliceBounds,jW hh h2]
theorem Ab{dst}{t}{x lo hi}{t'}{p}{af}{g}{s}{k k'}{l h:Nat}
  (hu:(underlying t).run P w=.ok .string w) (hx:a.eval x=.string s) (hl:a.eval lo=.int k l) (hh:a.eval hi=.int k' h) (h1:l<=h) (h2:h<=s.size):
  (execOp a.eval ⟨dst,.slice t x (some lo) (some hi) none,t',p,af,g⟩).run P w=.ok (.value (.string (s.extract l h))) w:=by
 simp[execOp,hx,Instr.sliceAt,hu,Instr.slice,Instr.sliceBounds,jW hh h2,jW hl h1]
theorem yY{dst}{s d}{x}{t'}{p}{af}{g}{ks kd k}{n}
  (hs:(underlying s).run P w=.ok (.int ks) w) (hd:(underlying d).run P w=.ok (.int kd) w) (hx:a.eval x=.int k n):
  (execOp a.eval ⟨dst,.convert s d x,t',p,af,g⟩).run P w=.ok (.value (.int kd (kd.wrap n))) w:=by
 simp[execOp,hx,convert,hs,hd,Conv.intToInt]
theorem yZ{dst:Option Tmp}{s d:TypeId}{x:Operand}{t':TypeId}{p:String}{af:Array Edge}{g:Option (Nat×Bool)}{n:ByteArray}
  (hs:(underlying s).run P w=.ok .string w) (hd:(underlying d).run P w=.ok .string w) (hx:a.eval x=.string n):
  (execOp a.eval ⟨dst,.convert s d x,t',p,af,g⟩).run P w=.ok (.value (.string n)) w:=by
 simp[execOp,hx,convert,hs,hd]
theorem PQ{dst}{t}{x}{t'}{p}{af}{g}{d}{v}
  (hu:(underlying t).run P w=.ok d w) (hd:(match d with | .interface _=>false | _=>true)=true) (hx:a.eval x=v):
  (execOp a.eval ⟨dst,.makeInterface t x,t',p,af,g⟩).run P w=.ok (.value (.iface t v)) w:=by
 subst hx;cases d<;>first | (simp at hd;done) | simp[execOp,Instr.makeInterface,hu]
theorem KZ{dst:Option Tmp}{t:TypeId}{x:Operand}{t':TypeId}{p:String}{af:Array Edge}{g:Option (Nat×Bool)}{s:ByteArray}
  (hu:(underlying t).run P w=.ok .string w) (hx:a.eval x=.string s):
  (execOp a.eval ⟨dst,.call ⟨.builtin .len,#[x],#[t]⟩,t',p,af,g⟩).run P w=.ok (.value (.int .i64 s.size)) w:=by
 simp[execOp,resolve,invoke,builtin,Builtin.len_,hu,hx,goInt]
theorem Yt{dst}{ts}{x y}{t'}{p}{af}{g}{k k'}{m n}(hx:a.eval x=.int k m)(hy:a.eval y=.int k' n):
  (execOp a.eval ⟨dst,.call ⟨.builtin .min,#[x,y],ts⟩,t',p,af,g⟩).run P w=.ok (.value (.int k (if n<m then n else m))) w:=by
 simp[execOp,resolve,invoke,builtin,hx,hy,run_min_int2]
theorem Yu{dst:Option Tmp}{ts}{x y}{t'}{p}{af}{g}{k k'}{m n}(hx:a.eval x=.int k m)(hy:a.eval y=.int k' n):
  (execOp a.eval ⟨dst,.call ⟨.builtin .max,#[x,y],ts⟩,t',p,af,g⟩).run P w=.ok (.value (.int k (if n>m then n else m))) w:=by
 simp[execOp,resolve,invoke,builtin,hx,hy,run_max_int2]
theorem Ad{dst:Option Tmp}{t ty:TypeId}{x y:Operand}{t':TypeId}{p:String}{af:Array Edge}{g:Option (Nat×Bool)}{e:TypeId}{q:Option Addr}{b:Bool}(hu:(underlying t).run P w=.ok (.pointer e) w)(hx:a.eval x=.pointer q)(hy:a.eval y=.pointer none)(hb:(q.isNone)=b):
  (execOp a.eval ⟨dst,.binOp .eql t x y ty,t',p,af,g⟩).run P w=.ok (.value (.bool b)) w:=by
 subst hb;have hE:∀d,(Op.equalIn (d+1) t (.pointer q) (.pointer none)).run P w=.ok q.isNone w:=fun d=>by
  unfold Op.equalIn;cases q<;>simp only[Sem.run_bind,hu,Result.andThen_ok]<;>rfl
 have hB:binOp .eql t (.pointer q) (.pointer none)=(do pure (.bool ((<-Op.equal t (.pointer q) (.pointer none))))):=by cases q<;>rfl
 have hG:eqGuard .eql t x y (.pointer q) (.pointer none)=pure ():=rfl;simp only[execOp,hx,hy,hG,hB,Op.equal,Op.maxDepth,Sem.run_bind,Sem.run_pure,Result.andThen_ok,hE 9999]
theorem Ae{dst}{t ty}{x y}{t'}{p}{af}{g}{e}{q}{b}(hu:(underlying t).run P w=.ok (.pointer e) w)(hx:a.eval x=.pointer none)(hy:a.eval y=.pointer q)(hb:(q.isNone)=b):
  (execOp a.eval ⟨dst,.binOp .eql t x y ty,t',p,af,g⟩).run P w=.ok (.value (.bool b)) w:=by
 subst hb;have hE:∀d,(Op.equalIn (d+1) t (.pointer none) (.pointer q)).run P w=.ok q.isNone w:=fun d=>by simp[Op.equalIn,hu]
 have hB:binOp .eql t (.pointer none) (.pointer q)=(do pure (.bool ((<-Op.equal t (.pointer none) (.pointer q))))):=rfl;have hG:eqGuard .eql t x y (.pointer none) (.pointer q)=pure _:=rfl;simp[execOp,hx,hy,hG,hB,Op.equal,Op.maxDepth,Sem.run_bind,Sem.run_pure,Result.andThen_ok,hE 9999]
theorem Af{dst}{t ty}{x y}{t'}{p}{af}{g}{e}{q}{b}(hu:(underlying t).run P w=.ok (.pointer e) w)(hx:a.eval x=.pointer q)(hy:a.eval y=.pointer none)(hb:(!q.isNone)=b):
  (execOp a.eval ⟨dst,.binOp .neq t x y ty,t',p,af,g⟩).run P w=.ok (.value (.bool b)) w:=by
 subst hb;have hE:∀d,(Op.equalIn (d+1) t (.pointer q) (.pointer none)).run P w=.ok q.isNone w:=fun d=>by
  unfold Op.equalIn;cases q<;>simp only[Sem.run_bind,hu]<;>rfl
 have hB:binOp .neq t (.pointer q) (.pointer none)=(do pure (.bool (!(<-Op.equal t (.pointer q) (.pointer none))))):=rfl;have hG:eqGuard .neq t x y (.pointer q) (.pointer none)=pure _:=rfl;simp[execOp,hx,hy,hG,hB,Op.equal,Op.maxDepth,Sem.run_bind,Sem.run_pure,Result.andThen_ok,hE 9999]
theorem Ag{dst:Option Tmp}{t ty}{x y}{t'}{p}{af}{g}{e}{q}{b}(hu:(underlying t).run P w=.ok (.pointer e) w)(hx:a.eval x=.pointer none)(hy:a.eval y=.pointer q)(hb:(!q.isNone)=b):
  (execOp a.eval ⟨dst,.binOp .neq t x y ty,t',p,af,g⟩).run P w=.ok (.value (.bool b)) w:=by
 subst hb;have hE:∀d,(Op.equalIn (d+1) t (.pointer none) (.pointer q)).run P w=.ok q.isNone w:=fun d=>by simp[Op.equalIn,hu]
 have hB:binOp .neq t (.pointer none) (.pointer q)=(do pure (.bool (!(<-Op.equal t (.pointer none) (.pointer q))))):=by cases q<;>rfl
 have hG:eqGuard .neq t x y (.pointer none) (.pointer q)=pure _:=rfl;simp[execOp,hx,hy,hG,hB,Op.equal,Op.maxDepth,Sem.run_bind,Sem.run_pure,Result.andThen_ok,hE 9999]
theorem IT{dst}{t ty}{x y}{t'}{p}{af}{g}{m n}(hu:P.underlying t=some .bool)(hx:a.eval x=.bool m)(hy:a.eval y=.bool n):
  (execOp a.eval ⟨dst,.binOp .eql t x y ty,t',p,af,g⟩).run P w=.ok (.value (.bool (m==n))) w:=by
 have hG:eqGuard .eql t x y (.bool m) (.bool n)=pure _:=rfl;simp[execOp,hx,hy,hG,run_eql_bool w t m n hu]
theorem IU{dst}{t ty}{x y}{t'}{p}{af}{g}{m n}(hu:P.underlying t=some .bool)(hx:a.eval x=.bool m)(hy:a.eval y=.bool n):
  (execOp a.eval ⟨dst,.binOp .neq t x y ty,t',p,af,g⟩).run P w=.ok (.value (.bool (!(m==n)))) w:=by
 have hG:eqGuard .neq t x y (.bool m) (.bool n)=pure _:=rfl;simp[execOp,hx,hy,hG,run_neq_bool w t m n hu]
theorem Ci{dst:Option Tmp}{t ty:TypeId}{x y:Operand}{t'}{p}{af}{g}{e}{s:Sl}(hu:(underlying t).run P w=.ok (.slice e) w)(hx:a.eval x=s.v)(hy:a.eval y=.slice none 0 0):
  (execOp a.eval ⟨dst,.binOp .eql t x y ty,t',p,af,g⟩).run P w=.ok (.value (.bool (s.a.isNone))) w:=by
 obtain⟨sa,sn,sc⟩:=s;have hE:∀d,(Op.equalIn (d+1) t (.slice sa sn sc) (.slice none 0 0)).run P w=.ok sa.isNone w:=fun d=>by
  unfold Op.equalIn;cases sa<;>simp only[Sem.run_bind,hu]<;>rfl
 have hB:binOp .eql t (.slice sa sn sc) (.slice none 0 0)=(do pure (.bool ((<-Op.equal t (.slice sa sn sc) (.slice none 0 0))))):=by cases sa<;>rfl
 have hG:eqGuard .eql t x y (.slice sa sn sc) (.slice none 0 0)=pure _:=rfl;simp[execOp,hx,hy,hG,hB,Op.equal,Op.maxDepth,Sem.run_bind,Sem.run_pure,Result.andThen_ok,hE 9999]
theorem Cj{dst}{t ty}{x y}{t'}{p}{af}{g}{e}{s:Sl}(hu:(underlying t).run P w=.ok (.slice e) w)(hx:a.eval x=.slice none 0 0)(hy:a.eval y=s.v):
  (execOp a.eval ⟨dst,.binOp .eql t x y ty,t',p,af,g⟩).run P w=.ok (.value (.bool (s.a.isNone))) w:=by
 obtain⟨sa,sn,sc⟩:=s;have hE:∀d,(Op.equalIn (d+1) t (.slice none 0 0) (.slice sa sn sc)).run P w=.ok sa.isNone w:=fun d=>by simp[Op.equalIn,hu]
 have hB:binOp .eql t (.slice none 0 0) (.slice sa sn sc)=(do pure (.bool ((<-Op.equal t (.slice none 0 0) (.slice sa sn sc))))):=rfl;have hG:eqGuard .eql t x y (.slice none 0 0) (.slice sa sn sc)=pure _:=rfl;simp[execOp,hx,hy,hG,hB,Op.equal,Op.maxDepth,Sem.run_bind,Sem.run_pure,Result.andThen_ok,hE 9999]
theorem Ck{dst}{t ty}{x y}{t'}{p}{af}{g}{e}{s:Sl}(hu:(underlying t).run P w=.ok (.slice e) w)(hx:a.eval x=s.v)(hy:a.eval y=.slice none 0 0):
  (execOp a.eval ⟨dst,.binOp .neq t x y ty,t',p,af,g⟩).run P w=.ok (.value (.bool (!s.a.isNone))) w:=by
 obtain⟨sa,sn,sc⟩:=s;have hE:∀d,(Op.equalIn (d+1) t (.slice sa sn sc) (.slice none 0 0)).run P w=.ok sa.isNone w:=fun d=>by
  unfold Op.equalIn;cases sa<;>simp only[Sem.run_bind,hu]<;>rfl
 have hB:binOp .neq t (.slice sa sn sc) (.slice none 0 0)=(do pure (.bool (!(<-Op.equal t (.slice sa sn sc) (.slice none 0 0))))):=by cases sa<;>rfl
 have hG:eqGuard .neq t x y (.slice sa sn sc) (.slice none 0 0)=pure _:=rfl;simp[execOp,hx,hy,hG,hB,Op.equal,Op.maxDepth,Sem.run_bind,Sem.run_pure,Result.andThen_ok,hE 9999]
theorem Cm{dst:Option Tmp}{t ty:TypeId}{x y:Operand}{t':TypeId}{p:String}{af}{g}{e}{s:Sl}(hu:(underlying t).run P w=.ok (.slice e) w)(hx:a.eval x=.slice none 0 0)(hy:a.eval y=s.v):
  (execOp a.eval ⟨dst,.binOp .neq t x y ty,t',p,af,g⟩).run P w=.ok (.value (.bool (!s.a.isNone))) w:=by
 obtain⟨sa,sn,sc⟩:=s;have hE:∀d,(Op.equalIn (d+1) t (.slice none 0 0) (.slice sa sn sc)).run P w=.ok sa.isNone w:=fun d=>by simp[Op.equalIn,hu]
 have hB:binOp .neq t (.slice none 0 0) (.slice sa sn sc)=(do pure (.bool (!(<-Op.equal t (.slice none 0 0) (.slice sa sn sc))))):=by cases sa<;>rfl
 have hG:eqGuard .neq t x y (.slice none 0 0) (.slice sa sn sc)=pure _:=rfl;simp[execOp,hx,hy,hG,hB,Op.equal,Op.maxDepth,Sem.run_bind,Sem.run_pure,Result.andThen_ok,hE 9999]
theorem EF{dst}{t e}{x lo}{t'}{p}{af}{g}{s:Sl}{k}{l sz:Nat}
  (hu:(underlying t).run P w=.ok (.slice e) w) (hsz:(sizeOf e).run P w=.ok sz w) (hx:a.eval x=s.v) (hl:a.eval lo=.int k l) (h1:l<=s.n) (_h2:s.n<=s.c) (_h3:s.c<=s.c):
  (execOp a.eval ⟨dst,.slice t x (some lo) none none,t',p,af,g⟩).run P w=.ok (.value (s.cut l s.n s.c sz).v) w:=by
 simp[execOp,hx,Instr.sliceAt,hu,Sem.run_bind,Result.andThen_ok,Instr.slice,Instr.sliceBounds,fk,wz,Sem.run_pure,jW hl h1,hsz,Sl.cut]
theorem EG{dst}{t e}{x hi}{t'}{p}{af}{g}{s:Sl}{k}{h sz:Nat}
  (hu:(underlying t).run P w=.ok (.slice e) w) (hsz:(sizeOf e).run P w=.ok sz w) (hx:a.eval x=s.v) (hh:a.eval hi=.int k h) (_h1:0<=h) (h2:h<=s.c) (_h3:s.c<=s.c):
  (execOp a.eval ⟨dst,.slice t x none (some hi) none,t',p,af,g⟩).run P w=.ok (.value (s.cut 0 h s.c sz).v) w:=by
 simp[execOp,hx,Instr.sliceAt,hu,Sem.run_bind,Result.andThen_ok,Instr.slice,Instr.sliceBounds,fk,wz,Sem.run_pure,jW hh h2,hsz,Sl.cut]
theorem EH{dst}{t e}{x lo hi}{t'}{p}{af}{g}{s:Sl}{k k'}{l h sz:Nat}
  (hu:(underlying t).run P w=.ok (.slice e) w) (hsz:(sizeOf e).run P w=.ok sz w) (hx:a.eval x=s.v) (hl:a.eval lo=.int k l) (hh:a.eval hi=.int k' h) (h1:l<=h) (h2:h<=s.c) (_h3:s.c<=s.c):
  (execOp a.eval ⟨dst,.slice t x (some lo) (some hi) none,t',p,af,g⟩).run P w=.ok (.value (s.cut l h s.c sz).v) w:=by
 simp[execOp,hx,Instr.sliceAt,hu,Sem.run_bind,Result.andThen_ok,Instr.slice,Instr.sliceBounds,fk,wz,Sem.run_pure,jW hh h2,jW hl h1,hsz,Sl.cut]
theorem EI{dst}{t e}{x hi mx}{t'}{p}{af}{g}{s:Sl}{k' k2}{h m sz:Nat}
  (hu:(underlying t).run P w=.ok (.slice e) w) (hsz:(sizeOf e).run P w=.ok sz w) (hx:a.eval x=s.v) (hh:a.eval hi=.int k' h) (hm:a.eval mx=.int k2 m) (_h1:0<=h) (h2:h<=m) (h3:m<=s.c):
  (execOp a.eval ⟨dst,.slice t x none (some hi) (some mx),t',p,af,g⟩).run P w=.ok (.value (s.cut 0 h m sz).v) w:=by
 simp[execOp,hx,Instr.sliceAt,hu,Sem.run_bind,Result.andThen_ok,Instr.slice,Instr.sliceBounds,fk,wz,Sem.run_pure,jW hm h3,jW hh h2,hsz,Sl.cut]
theorem EJ{dst}{t e}{x lo hi mx}{t'}{p}{af}{g}{s:Sl}{k k' k2}{l h m sz:Nat}
  (hu:(underlying t).run P w=.ok (.slice e) w) (hsz:(sizeOf e).run P w=.ok sz w) (hx:a.eval x=s.v) (hl:a.eval lo=.int k l) (hh:a.eval hi=.int k' h) (hm:a.eval mx=.int k2 m) (h1:l<=h) (h2:h<=m) (h3:m<=s.c):
  (execOp a.eval ⟨dst,.slice t x (some lo) (some hi) (some mx),t',p,af,g⟩).run P w=.ok (.value (s.cut l h m sz).v) w:=by
 simp only[execOp,hx,Instr.sliceAt,hu,Sem.run_bind,Result.andThen_ok,Instr.slice,Instr.sliceBounds,fk,Sem.run_pure,jW hm h3,jW hh h2,jW hl h1,hsz,Sl.cut]
section
variable {K:Act->av->Prop} {o:Oper}
theorem TW(hg:Region.wanted o (yielded ops a.tmps)=true)(h:o.wp P a w (wpList P ops Q rest) Q):wpList P ops Q (o::rest) a w:=by
 unfold wpList;simp_all
theorem u7 v (hr:(execOp a.eval o).run P w=.ok (.value v) w') (ha:a.put o.dst v=a') (h:K a' w'):o.wp P a w K Q:=by
 subst ha;unfold Oper.wp;rw[hr];exact h
theorem K0(hr:(execOp a.eval o).run P w=.ok .skip w')(ha:a.put o.dst undef=a')(h:K a' w'):o.wp P a w K Q:=by
 subst ha;unfold Oper.wp;rw[hr];exact h
theorem Gp{f}{args}(hr:(execOp a.eval o).run P w=.ok (.enter f args) w)
  (h:Calls P f args w fun e w'=>∃v a',e=.returned v/\a.put o.dst v=a'/\K a' w'):o.wp P a w K Q:=by
 unfold Oper.wp;rw[hr];refine h.mono ?_;simp_all
theorem Co{dst}{ty}{x y}{t'}{p}{af}{g}{b o}{cs vs ui}{et}{n}
  (hsz:(sizeOf ty).run P w=.ok n w) (hx:a.eval x=.pointer (some ⟨b,o,none⟩)) (hv:(a.eval y).cells=vs.toArray) (hn:vs.length=n)
  (h1:vs.all Value.oneCell'=true) (hb:Blk w b et cs) (FP:o+vs.length<=cs.length) (lQ:cd cs o vs=ui) (ha:a.put dst undef=a')
  (h:∀w1,Only [b] w w1->Blk w1 b et ui->K a' w1):Oper.wp P ⟨dst,.store ty x y,t',p,af,g⟩ a w K Q:=
 K0 (PK hsz hx hv hn (eb.1 h1) hb FP) ha (h _ (Only.setRow _ _ _) (by rw[<-lQ];exact hb.setRow _))
theorem Cp{dst}{ty}{t'}{p}{af}{g}{z}{zs}{a':Nat->Act}
  (hz:(zeroValue ty).run P w=.ok z w) (hc:z.cells=zs.toArray) (ha:∀b,a.put dst (.pointer (some ⟨b,0,none⟩))=a' b)
  (h:∀b w1,w.heap.size<=b->Only [] w w1->Blk w1 b ty zs->K (a' b) w1):Oper.wp P ⟨dst,.alloc ty,t',p,af,g⟩ a w K Q:=
 u7 _ (PL hz hc) (ha _) (h _ _ (aV _) (Only.alloc _ _) (Blk.alloc _ _ _))
theorem TX{dst}{ty}{x}{t'}{p}{af}{g}{zs}{a':Nat->Act}
  (hc:(a.eval x).cells=zs.toArray) (ha:∀b,a.put dst (.pointer (some ⟨b,0,none⟩))=a' b)
  (h:∀b w1,w.heap.size<=b->Only [] w w1->Blk w1 b ty zs->K (a' b) w1):Oper.wp P ⟨dst,.box ty x,t',p,af,g⟩ a w K Q:=
 u7 _ (Ym hc) (ha _) (h _ _ (aV _) (Only.alloc _ _) (Blk.alloc _ _ _))
end
theorem IV{id}(h:Q .normal a w):Exit.inBlock id Q (.exit id) a w:=by simpa[Exit.inBlock]using h
theorem EK{id Tg}(gL:(Tg==id)=false)(h:Q (.exit Tg) a w):Exit.inBlock id Q (.exit Tg) a w:=by simpa[Exit.inBlock,by simpa using gL]using h
def y0(P:Program)(a:Act)(w:av):List ResultVar->List aw->Prop
 | [],[]=>True
 | .tmp t::r,v::vs=>a.eval (.tmp t)=v/\y0 P a w r vs
 | .cell p t::r,v::vs=>(∃ad,a.eval (.tmp p)=.pointer (some ad)/\(loadVar t ad).run P w=.ok v w)/\y0 P a w r vs
 | _,_=>False
theorem lu(f:ResultVar->Sem aw)(VG:∀t,f (.tmp t)=pure (a.tmps.getD t undef))(hf2:∀q t,f (.cell q t)=(do loadVar t (<-asAddr (a.tmps.getD q undef)))):
  ∀rs vs,y0 P a w rs vs->(rs.mapM f).run P w=.ok vs w
 | [],[],_=>rfl
 | [],_::_,h=>h.elim
 | .tmp t::r,[],h=>h.elim
 | .cell _ _::r,[],h=>h.elim
 | .tmp t::r,v::vs,h=>by
  have ih:=lu f VG hf2 r vs h.2;have h1:a.tmps.getD t undef=v:=h.1;simp_all
 | .cell q t::r,v::vs,h=>by
  have ih:=lu f VG hf2 r vs h.2;obtain⟨⟨ad,h1,h2⟩,_⟩:=h;have h1':a.tmps.getD q undef=.pointer _:=h1;rw[List.mapM_cons,hf2];simp[h1',asAddr,h2,ih]
theorem TY{fn}{rs}{v}(h:fn.results=rs.toArray)(hr:y0 P a w rs [v]):(results fn a.tmps).run P w=.ok v w:=by
 unfold results;rw[h,List.mapM_toArray];simp only[Sem.run_bind,map_eq_pure_bind];rw[lu _ (fun _=>rfl) (fun _ _=>rfl) rs [v] hr];rfl
theorem EL{fn}{rs}{vs}(h:fn.results=rs.toArray)(hn:(vs.length==1)=false)(hr:y0 P a w rs vs):(results fn a.tmps).run P w=.ok (.tuple vs.toArray) w:=by
 unfold results;rw[h,List.mapM_toArray];simp only[Sem.run_bind,map_eq_pure_bind,Sem.run_pure];rw[lu _ (fun _=>rfl) (fun _ _=>rfl) rs vs hr];simp_all
theorem PR{fn}{R:aw->av->Prop}{v}(hr:(results fn a.tmps).run P w=.ok v w)(hd:a.defers=[])(h:R v w):
 bodyPost P fn (fun e w'=>∃v,e=.returned v/\R v w') .ret a w:=bodyPost_ret hr hd ⟨v,rfl,h⟩
theorem EM{fn}{R:aw->av->Prop}{v}(hr:(results fn a.tmps).run P w=.ok v w)(hd:a.defers=[])(h:R v w):
 bodyPost P fn (fun e w'=>∃v,e=.returned v/\R v w') .normal a w:=bodyPost_end hr hd ⟨v,rfl,h⟩
theorem Ah{ty}{ad}{cs}{n}(FO:(isAgg ty).run P w=.ok true w)(hsz:(sizeOf ty).run P w=.ok n w)(hn:cs.length=n)(hc:Cells w ad cs):
  (loadVar ty ad).run P w=.ok (.agg cs.toArray) w:=by
 have hl:=run_loadCells_list (P:=P) w ad cs hc;rw[hn]at hl;simp[loadVar,FO,hsz,hl,Sem.run_pure]
theorem yH{ty}{ad}{v}(FO:(isAgg ty).run P w=.ok false w)(hc:w.cell? ad=some v):
  (loadVar ty ad).run P w=.ok v w:=by
 simp[loadVar,FO,iI,run_load,hc]
end
section
variable {P:Program} {ops:Array Oper} {rest:List Oper} {a a':Act} {w:av} {Q:Act->Prop}
theorem Yv{o} v (hg:Region.wanted o (yielded ops a.tmps)=true)
  (hr:∀w',(∃n,w'=w.drewN n)->(execOp a.eval o).run P w'=.ok (.value v) w') (ha:a.put o.dst v=a')
  (h:wpQuiet P ops (fun w'=>∃n,w'=w.drewN n) Q rest a'):wpQuiet P ops (fun w'=>∃n,w'=w.drewN n) Q (o::rest) a:=by
 subst ha;unfold wpQuiet;rw[if_pos hg];refine⟨v,fun w' XG=>?_,h⟩;unfold Oper.quietAt;rw[hr w' XG];exact⟨rfl,rfl⟩
theorem adW{o}(hg:Region.wanted o (yielded ops a.tmps)=false)(ha:a.put o.dst undef=a')
  (h:wpQuiet P ops (fun w'=>∃n,w'=w.drewN n) Q rest a'):wpQuiet P ops (fun w'=>∃n,w'=w.drewN n) Q (o::rest) a:=by
 subst ha;unfold wpQuiet;simp_all
end
theorem K1{w w'}:bS [] w w':=fun _ h=>by simp at h
theorem bS.refl bs w:bS bs w w:=fun _ _=>rfl
section
variable {P:Program} {ops:Array Oper} {Q:Exit->Act->av->Prop} {md:Region.Mode} {E:Nat->av->av->Prop} {F:av->Prop}
def fb(P:Program)(md:Region.Mode)(ops:Array Oper)(Q:Exit->Act->av->Prop)(E:Nat->av->av->Prop):Nat->Array Bool->Act->av->Prop
 | 0,bD,a,w=>Region.ready md ops bD=[]/\Q .normal a w
 | ep+1,bD,a,w=>
  (Region.ready md ops bD=[]->Q .normal a w)/\
  ∀i∈Region.ready md ops bD,wpOp P ops Q i (fun a' w'=>E i w w'/\fb P md ops Q E ep (bD.setIfInBounds i true) a' w') a w
theorem wG:∀ep bD a w,fb P md ops Q E ep bD a w->wpAny P md ops Q ep bD a w
 | 0,_,_,_,h=>h
 | ep+1,_,_,_,h=>⟨h.1,fun i hi=>wpOp_mono (fun a' w' h'=>wG ep _ a' w' h'.2) (h.2 i hi)⟩
def ow(md:Region.Mode)(ops:Array Oper)(bD:Array Bool):Prop:=∀k o,ops[k]? =some o->bD.getD k false=true->∀e∈o.after,Region.binds md e=true->bD.getD e.on false=true
def Ai(md:Region.Mode)(ops:Array Oper)(bD:Array Bool):Bool:=
 (List.range ops.size).all fun k=>!bD.getD k false||((ops[k]?).map (·.after.all fun e=>!Region.binds md e||bD.getD e.on false)).getD true
theorem za{bD}(h:Ai md ops bD=true):ow md ops bD:=by
 intro k o hk hl e he hb;have:=(eb.1 h) k (jQ.2 (jP.1 hk).1);simp only[hl,Bool.false_or,hk,fk,kq,Array.all_eq_true_iff_forall_mem,cD]at this
 grind
theorem ow.add{bD}{j}(h:ow md ops bD)(hj:j∈Region.ready md ops bD):ow md ops (bD.setIfInBounds j true):=by
 intro k o hk hl e he hb;obtain⟨_,oj,Th,kl⟩:=mem_ready.1 hj;by_cases hkj:j=k
 ·subst hkj;rw[Th]at hk;injection hk with hk;subst hk;exact getD_set_true (kl e he hb)
 ·rw[getD_set_ne false hkj]at hl;exact getD_set_true (h k o hk hl e he hb)
def ur(md:Region.Mode)(ops:Array Oper)(i:Nat):List Nat->List Nat->Bool
 | _,[]=>true
 | seen,j::r=>((ops[j]?).map fun o=>o.after.any fun e=>Region.binds md e&&(e.on==i||seen.contains e.on)).getD false&&ur md ops i (j::seen) r
theorem u9{i}{bD}(hc:ow md ops bD):∀D seen,ur md ops i seen D=true->(∀k∈seen,bD.getD k false=true->bD.getD i false=true)->∀j∈D,∀o,ops[j]? =some o->(∀e∈o.after,Region.binds md e=true->bD.getD e.on false=true)->bD.getD i false=true
 | [],_,_,_,j,hj,_,_,_=>by simp at hj
 | k::r,seen,h,hs,j,hj,o,ho,kl=>by
  simp[ur,aR]at h;have hk:∀o,ops[k]? =some o->(∀e∈o.after,Region.binds md e=true->bD.getD e.on false=true)->bD.getD i false=true:=by grind
  rcases aQ.1 hj with rfl | hj
  ·exact hk o ho kl
  ·refine u9 hc r _ h.2 ?_ j hj o ho kl;intro x hx hl;rcases aQ.1 hx with rfl | hx
   ·have h1:=h.1;cases hx2:ops[x]? with
    | none=>rw[hx2]at h1;simp at h1
    | some ox=>exact hk ox hx2 (hc x ox hx2 hl)
   ·exact hs x hx hl
theorem oy{i}{oi}{v}{D}(hi:ops[i]? =some oi)(aan:∀(j:Nat) o cs b,ops[j]? =some o->o.op≠.select cs b)
  (hQ:∀c a w,Q (.panic c) (a.put oi.dst v) w->Q (.panic c) a w) (hD:ur md ops i [] D=true)
  (N:List Nat) (uj:∀j w w',j∉D->j∉N->F w->E j w w'->F w') (NY:∀w,F w->E i w w):
  ∀ep bD a w,ow md ops bD->(∀k∈N,bD.getD k true=true)->
   (∀j oj,ops[j]? =some oj->j≠i->bD.getD j true=false->(∀e∈oj.after,Region.binds md e=true->e.on≠i)->oi.apart ops oj=true)->
   i∈Region.ready md ops bD->YieldsIf P ops F oi v a->F w->
   fb P md ops Q E ep (bD.setIfInBounds i true) (a.put oi.dst v) w->fb P md ops Q E (ep+1) bD a w:=by
 intro ep
 induction ep with
 | zero=>
  intro bD a w _ _ _ hr hy hF H;refine⟨fun h=>(by rw[h]at hr;cases hr),fun j hj=>?_⟩;by_cases Ti:j=i
  ·subst Ti;exact hy.wpOp hi hF ⟨NY w hF,H⟩
  ·have:=ready_mono hj Ti;rw[H.1]at this;cases this
 | succ ep ih=>
  intro bD a w lq hN Iy hr hy hF H;refine⟨fun h=>(by rw[h]at hr;cases hr),fun j hj=>?_⟩;by_cases Ti:j=i
  ·subst Ti;exact hy.wpOp hi hF ⟨NY w hF,H⟩
  ·have h1:=H.2 j (ready_mono hj Ti);obtain⟨VH,oj,Th,kl⟩:=mem_ready.1 hj;have amh:=(mem_ready.1 hr).1;have hli:bD.getD i false=false:=by grind
   have agt:∀e∈oj.after,Region.binds md e=true->e.on≠i:=fun e he hb heq=>by grind
   have hjD:j∉D:=fun hm=>by
    have:=u9 lq D [] hD (by simp) j hm oj Th kl;rw[hli]at this;cases this
   have hjN:j∉N:=fun hm=>by
    have:=hN j hm;rw[VH]at this;cases this
   have hN':∀k∈N,(bD.setIfInBounds j true).getD k true=true:=fun k hk=>by
    by_cases hjk:j=k
    ·subst hjk;exact absurd hk hjN
    ·rw[getD_set_ne true hjk];exact hN k hk
   have h2:=wpOp_putIf Th (Iy j oj Th Ti VH agt) (fun cs b=>aan i oi cs b hi) (fun cs b=>aan j oj cs b Th) hQ hy h1;have BK:∀k ok,ops[k]? =some ok->k≠i->(bD.setIfInBounds j true).getD k true=false->
     _->oi.apart ops ok=true:=fun k ok hk hki XH hno=>by
    refine Iy k ok hk hki ?_ hno;by_cases hjk:j=k
    ·subst hjk;exact VH
    ·rw[getD_set_ne true hjk]at XH;exact XH
   refine wpOp_mono (fun a' w' h3=>⟨h3.2.1,ih _ a' w' (lq.add hj) hN' BK (ready_mono hr (Ne.symm Ti)) h3.1 (uj j w w' hjD hjN hF h3.2.1) ?_⟩) h2;rw[Array.setIfInBounds_comm _ _ Ti];exact h3.2.2
theorem K2 i {eF} {oi} {a a'} {w} {ep} {bD} (D N:List Nat) v F (hi:fA eF i=some oi)
  (hs:Region.noSelect eF.toArray=true) (hf:Region.free md eF.toArray bD i=true) (hr:(Region.ready md eF.toArray bD).contains i=true) (hc:Ai md eF.toArray bD=true) (hD:ur md eF.toArray i [] D=true) (hN:(N.all fun k=>bD.getD k true)=true)
  (hQ:∀c a w,Q (.panic c) (a.put oi.dst v) w->Q (.panic c) a w) (uj:∀j w w',j∉D->j∉N->F w->E j w w'->F w') (NY:∀w,F w->E i w w) (hF:F w)
  (hy:YieldsIf P eF.toArray F oi v a) (ha:a.put oi.dst v=a')
  (h:fb P md eF.toArray Q E ep (bD.setIfInBounds i true) a' w):fb P md eF.toArray Q E (ep+1) bD a w:=by
 subst ha;have zP:eF.toArray[i]? =some oi:=by rw[iB]at hi;simpa using hi
 exact oy zP (Region.noSelect_spec hs) hQ hD N uj NY ep bD a w (za hc) (fun k hk=>by grind) (Region.free_spec zP hf) (by simpa using hr) hy hF h
theorem Yw i {eF} {oi} {a} {w} {ep} {bD} (hi:fA eF i=some oi) (hr:Region.ready md eF.toArray bD=[i])
  (hg:Region.wanted oi (yielded eF.toArray a.tmps)=true)
  (h:oi.wp P a w (fun a' w'=>E i w w'/\fb P md eF.toArray Q E ep (bD.setIfInBounds i true) a' w') Q):fb P md eF.toArray Q E (ep+1) bD a w:=by
 have zP:eF.toArray[i]? =some oi:=by rw[iB]at hi;simpa using hi
 refine⟨fun h0=>(by rw[h0]at hr;cases hr),fun j hj=>?_⟩;rw[hr]at hj;obtain rfl:j=i:=by simpa using hj
 unfold wpOp;simp_all
theorem PS i {eF} {oi} {a a'} {w} {ep} {bD} (hi:fA eF i=some oi) (hr:Region.ready md eF.toArray bD=[i])
  (hg:Region.wanted oi (yielded eF.toArray a.tmps)=false) (hE:E i w w) (ha:a.put oi.dst undef=a')
  (h:fb P md eF.toArray Q E ep (bD.setIfInBounds i true) a' w):fb P md eF.toArray Q E (ep+1) bD a w:=by
 subst ha;have zP:eF.toArray[i]? =some oi:=by rw[iB]at hi;simpa using hi
 refine⟨fun h0=>(by rw[h0]at hr;cases hr),fun j hj=>?_⟩;rw[hr]at hj;obtain rfl:j=i:=by simpa using hj
 unfold wpOp;simp_all
theorem Yx i j {eF} {oi oj} {a} {w} {ep} {bD} (hi:fA eF i=some oi) (hj:fA eF j=some oj) (hr:Region.ready md eF.toArray bD=[i,j])
  (h1:if Region.wanted oi (yielded eF.toArray a.tmps)then oi.wp P a w (fun a' w'=>E i w w'/\fb P md eF.toArray Q E ep (bD.setIfInBounds i true) a' w') Q∨(oi.asks P a w/\LetsOut Q)
   else(fun a' w'=>E i w w'/\fb P md eF.toArray Q E ep (bD.setIfInBounds i true) a' w') (a.put oi.dst undef) w)
  (h2:if Region.wanted oj (yielded eF.toArray a.tmps)then oj.wp P a w (fun a' w'=>E j w w'/\fb P md eF.toArray Q E ep (bD.setIfInBounds j true) a' w') Q∨(oj.asks P a w/\LetsOut Q)
   else(fun a' w'=>E j w w'/\fb P md eF.toArray Q E ep (bD.setIfInBounds j true) a' w') (a.put oj.dst undef) w):fb P md eF.toArray Q E (ep+1) bD a w:=by
 have zP:eF.toArray[i]? =some oi:=by rw[iB]at hi;simpa using hi
 have Rr:eF.toArray[j]? =some oj:=by rw[iB]at hj;simpa using hj
 refine⟨fun h0=>(by rw[h0]at hr;cases hr),fun k hk=>?_⟩;rw[hr]at hk;unfold wpOp;rcases aQ.1 hk with rfl | hk<;>simp_all
theorem TZ{bD}{a}{w}{ep}(hr:Region.ready md ops bD=[])(h:Q .normal a w):fb P md ops Q E ep bD a w:=by
 cases ep with
 | zero=>exact⟨hr,h⟩
 | succ n=>exact⟨fun _=>h,by rw[hr];simp⟩
theorem Cq{id}{eF:List Oper}{a}{w} E (hm:P.follows .mixedOrders=true)
  (h:fb P .any eF.toArray Q E eF.length (Array.replicate eF.length false) a w.drew):(Code.region id eF.toArray true).wp P Q a w:=by
 refine wp_region_any hm (wG (E:=E) _ _ _ _ ?_);simpa using h
theorem EN{s}{l} w w' (h:w'.heap[s.blk]? =w.heap[s.blk]?) (hc:wC w s l):wC w' s l:=
 ⟨hc.1,fun hl=>by
  obtain⟨ad,h1,h2⟩:=hc.2 hl;refine⟨ad,h1,h2.keep ?_⟩;simpa[Sl.blk,h1]using h⟩
theorem R6{eF:List Oper}{o}{v}{a}(hg:Region.wanted o (yielded eF.toArray a.tmps)=true)(h:∀w,F w->(execOp a.eval o).run P w=.ok (.value v) w):YieldsIf P eF.toArray F o v a:=.inl ⟨hg,h⟩
theorem Yy{eF:List Oper}{o}{a}(hg:Region.wanted o (yielded eF.toArray a.tmps)=false):YieldsIf P eF.toArray F o undef a:=.inr ⟨hg,rfl⟩
end
def rn(x:Int):Prop:= -9223372036854775808<=x/\x<=9223372036854775807
theorem wr{x}(h:rn x):IntKind.i64.wrap x=x:=IntWalk.i64_in _ ⟨h.1,h.2⟩
theorem fQ{x}(h1: -9223372036854775808<=x)(h2:x<=9223372036854775807):IntKind.i64.wrap x=x:=IntWalk.i64_in _ ⟨h1,h2⟩
theorem K3 x:rn (IntKind.i64.wrap x):=by
 rw[IntKind.wrap_i64];constructor<;>omega
abbrev Rp(α:Type):=av->(Nat->Prop)->α->List aw->Prop
structure Rp.Ok {α:Type} (r:Rp α):Prop where
 keep:∀{w w':av} {F:Nat->Prop} {x:α} {cs:List aw},r w F x cs->(∀k,F k->k<w.heap.size->w'.heap[k]? =w.heap[k]?)->r w' F x cs
 inHeap:∀{w:av} {F:Nat->Prop} {x:α} {cs:List aw},r w F x cs->r w (fun k=>F k/\k<w.heap.size) x cs
 mono:∀{w:av} {F G:Nat->Prop} {x:α} {cs:List aw},r w F x cs->(∀k,F k->G k)->r w G x cs
 one:∀{w:av} {F:Nat->Prop} {x:α} {cs:List aw},r w F x cs->∀v,v∈cs->v.oneCell'=true
section
variable {α:Type} {r:Rp α} {size:Nat} {w w':av} {F G:Nat->Prop} {s:Sl} {xs:List α}
structure SliceF (r:Rp α) (size:Nat) (w:av) (F:Nat->Prop) (s:Sl) (xs:List α):Prop where
 len:s.n=xs.length
 cap:s.n<=s.c
 nil0:s.a=none->s.c=0
 big:s.c<=9223372036854775807
 at_:∀j x,xs[j]? =some x->∃base cs,s.a=some base/\F base.block/\cs.length=size/\Cells w (base.add (j*size)) cs/\r w F x cs
theorem oz(a:Addr) n:(a.add n).block=a.block:=by unfold Addr.add;split<;>rfl
theorem nr(a:Addr) i j:(a.add i).add j=a.add (i+j):=by
 unfold Addr.add;by_cases hi:i=0<;>by_cases hj:j=0<;>simp[hi,hj,dJ]
theorem zd(a:Addr):a.add 0=a:=rfl
theorem eU b o n:(⟨b,o,none⟩:Addr).add n=⟨b,o+n,none⟩:=by unfold Addr.add;split<;>simp_all
theorem Cells.sub{a}{cs vs}(h:Cells w a cs) k (hv:∀j v,vs[j]? =some v->cs[k+j]? =some v):Cells w (a.add k) vs:=fun j v hj=>by
 rw[nr];exact h _ v (hv j v hj)
theorem Cells.dT{a}{cs}(h:Cells w a cs) k v (hv:cs[k]? =some v):Cells w (a.add k) [v]:=h.sub k fun j u hj=>by
 cases j with
 | zero=>simpa[hv]using hj
 | succ j=>simp at hj
theorem SliceF.nil(r:Rp α) size w F:SliceF r size w F Sl.nil []:=⟨rfl,aV _,fun _=>rfl,by decide,fun j x h=>by simp at h⟩
theorem SliceF.keep(hr:r.Ok)(h:SliceF r size w F s xs)(hs:0<size)(hk:∀k,F k->k<w.heap.size->w'.heap[k]? =w.heap[k]?):SliceF r size w' F s xs:=
 ⟨h.len,h.cap,h.nil0,h.big,fun j x hx=>by
  obtain⟨base,cs,h1,h2,h3,h4,h5⟩:=h.at_ j x hx;refine⟨base,cs,h1,h2,h3,h4.keep ?_,hr.keep h5 hk⟩;have bQ:(base.add (j*size)).block<w.heap.size:=by
   cases cs with
   | nil=>simp at h3;omega
   | cons c cs=>exact h4.lt
  rw[oz]at bQ⊢;exact hk _ h2 bQ⟩
theorem SliceF.mono(hr:r.Ok)(h:SliceF r size w F s xs)(hk:∀k,F k->G k):SliceF r size w G s xs:=
 ⟨h.len,h.cap,h.nil0,h.big,fun j x hx=>by
  obtain⟨base,cs,h1,h2,h3,h4,h5⟩:=h.at_ j x hx;exact⟨base,cs,h1,hk _ h2,h3,h4,hr.mono h5 hk⟩⟩
theorem SliceF.inHeap(hr:r.Ok)(h:SliceF r size w F s xs)(hs:0<size):SliceF r size w (fun k=>F k/\k<w.heap.size) s xs:=
 ⟨h.len,h.cap,h.nil0,h.big,fun j x hx=>by
  obtain⟨base,cs,h1,h2,h3,h4,h5⟩:=h.at_ j x hx;refine⟨base,cs,h1,⟨h2,?_⟩,h3,h4,hr.inHeap h5⟩;have bQ:(base.add (j*size)).block<w.heap.size:=by
   cases cs with
   | nil=>simp at h3;omega
   | cons c cs=>exact h4.lt
  rwa[oz]at bQ⟩
theorem SliceF.get(h:SliceF r size w F s xs){i:Int}(h0:0<=i)(h1:i<s.n):
  ∃ad x cs,dy s i size ad/\xs[i.toNat]? =some x/\F ad.block/\cs.length=size/\Cells w ad cs/\r w F x cs:=by
 have hl:=h.len;have bQ:i.toNat<xs.length:=by omega
 obtain⟨base,cs,g1,g2,g3,g4,g5⟩:=h.at_ i.toNat _ (bB bQ);exact⟨_,_,cs,⟨base,g1,h0,h1,rfl⟩,bB bQ,by rw[oz];exact g2,g3,g4,g5⟩
theorem SliceF.mem(h:SliceF r size w F s xs){x}(hx:x∈xs):∃cs,r w F x cs:=by
 obtain⟨j,hj⟩:=ig hx;obtain⟨_,cs,_,_,_,_,h5⟩:=h.at_ j x hj;exact⟨cs,h5⟩
theorem dy.agk{i}{a b}(h:dy s i size a)(k:dy s i size b):a=b:=by
 obtain⟨x,h1,_,_,h2⟩:=h;obtain⟨y,k1,_,_,k2⟩:=k;rw[h1]at k1;injection k1 with k1;rw[h2,k2,k1]
theorem SliceF.cut(h:SliceF r size w F s xs){lo hi m}(h1:lo<=hi)(h2:hi<=m)(h3:hi<=s.n)(h4:m<=s.c):SliceF r size w F (s.cut lo hi m size) ((xs.drop lo).take (hi-lo)):=by
 have hl:=h.len;refine⟨?_,?_,fun ha=>?_,by have:=h.big;simp[Sl.cut];omega,fun j x hx=>?_⟩
 ·simp[Sl.cut,cO,cy];omega
 ·simp[Sl.cut];omega
 ·simp[Sl.cut]at ha⊢;split at ha
  ·omega
  ·have:=h.nil0 (by simpa using ha);omega
 ·rw[List.getElem?_take]at hx;split at hx
  ·rw[iY]at hx;obtain⟨base,cs,g1,g2,g3,g4,g5⟩:=h.at_ _ _ hx;refine⟨base.add (lo*size),cs,?_,by rw[oz];exact g2,g3,?_,g5⟩
   ·simp[Sl.cut];rw[if_neg (by omega),g1];rfl
   ·rw[nr,<-eA];exact g4
  ·cases hx
end
structure BytesF (w:av) (F:Nat->Prop) (s:Sl) (l:List UInt8):Prop where
 rd:wC w s l
 cap:s.n<=s.c
 blk:∀ad,s.a=some ad->l≠[]->F ad.block
section
variable {w w':av} {F G:Nat->Prop} {s:Sl} {l:List UInt8}
theorem BytesF.nil w F:BytesF w F Sl.nil []:=⟨⟨rfl,fun h=>absurd rfl h⟩,aV _,fun _ _ h=>absurd rfl h⟩
theorem BytesF.mono(h:BytesF w F s l)(hk:∀k,F k->G k):BytesF w G s l:=⟨h.rd,h.cap,fun ad ha hl=>hk _ (h.blk ad ha hl)⟩
end
def ff{α:Type}(P:α->List aw->Prop):List α->List (List aw)->Prop
 | [],[]=>True
 | x::xs,c::cs=>P x c/\ff P xs cs
 | _,_=>False
section
variable {α:Type} {P Q:α->List aw->Prop}
theorem ff.len:∀{xs:List α} {css:List _},ff P xs css->xs.length=css.length
 | [],[],_=>rfl
 | x::xs,c::cs,h=>by simp[ff.len (xs:=xs) (css:=cs) h.2]
 | [],_::_,h=>h.elim
 | _::_,[],h=>h.elim
theorem ff.imp(hi:∀x c,P x c->Q x c):∀{xs:List α} {css:List _},ff P xs css->ff Q xs css
 | [],[],_=>trivial
 | x::xs,c::cs,h=>⟨hi _ _ h.1,ff.imp hi (xs:=xs) (css:=cs) h.2⟩
 | [],_::_,h=>h.elim
 | _::_,[],h=>h.elim
theorem ff.ww:∀{xs ys:List α} {css B5:List _},ff P xs css->ff P ys B5->ff P (xs++ys) (css++B5)
 | [],_,[],_,_,k=>k
 | x::xs,_,c::cs,_,h,k=>⟨h.1,ff.ww (xs:=xs) (css:=cs) h.2 k⟩
 | [],_,_::_,_,h,_=>h.elim
 | _::_,_,[],_,h,_=>h.elim
theorem ff.get:∀{xs:List α} {css:List _},ff P xs css->∀{j:Nat} {x:α},xs[j]? =some x->∃cs,css[j]? =some cs/\P x cs
 | [],[],_,j,x,h=>by simp at h
 | y::xs,c::cs,k,0,x,h=>by
  simp at h;subst h;exact⟨c,rfl,k.1⟩
 | y::xs,c::cs,k,j+1,x,h=>by
  exact ff.get (xs:=xs) (css:=cs) k.2 h
 | [],_::_,h,_,_,_=>h.elim
 | _::_,[],h,_,_,_=>h.elim
theorem ff.mem:∀{xs:List α} {css:List _},ff P xs css->∀c,c∈css->∃x,P x c
 | [],[],_,c,h=>by simp at h
 | y::xs,d::cs,k,c,h=>by
  rcases aQ.1 h with rfl | h
  ·exact⟨y,k.1⟩
  ·exact ff.mem (xs:=xs) (css:=cs) k.2 c h
 | [],_::_,h,_,_=>h.elim
 | _::_,[],h,_,_=>h.elim
theorem ff.take:∀n {xs:List α} {css:List _},ff P xs css->ff P (xs.take n) (css.take n)
 | 0,_,_,_=>by simp[ff]
 | _+1,[],[],_=>by simp[ff]
 | n+1,x::xs,c::cs,h=>by simp;exact⟨h.1,ff.take n (xs:=xs) (css:=cs) h.2⟩
 | _,[],_::_,h=>h.elim
 | _,_::_,[],h=>h.elim
theorem ff.set:∀{xs:List α} {css:List _} j {x:α} {c:List aw},ff P xs css->P x c->ff P (xs.set j x) (css.set j c)
 | [],[],_,_,_,_,_=>by simp[ff]
 | y::xs,d::cs,0,x,c,h,k=>⟨k,h.2⟩
 | y::xs,d::cs,j+1,x,c,h,k=>⟨h.1,ff.set (xs:=xs) (css:=cs) j h.2 k⟩
 | [],_::_,_,_,_,h,_=>h.elim
 | _::_,[],_,_,_,h,_=>h.elim
end
theorem wH{css:List (List aw)}{size}(h:∀c,c∈css->c.length=size):css.flatten.length=css.length*size:=by
 induction css with
 | nil=>simp
 | cons c cs ih=>
  rw[cY,aO,h c (by simp),ih (fun d hd=>h d (by simp[hd])),bf,eA];omega
theorem Gq{css:List _}{size}(h:∀c,c∈css->c.length=size):∀{j i:Nat} {cs:List aw} {v:aw},css[j]? =some cs->cs[i]? =some v->css.flatten[j*size+i]? =some v:=by
 induction css with
 | nil=>intro j i cs v hj;simp at hj
 | cons c cs ih=>
  intro j i ds v hj hi;have hc:=h c (by simp);cases j with
  | zero=>
   simp at hj;subst hj;simp;rw[bM (aY.1 hi).1];exact hi
  | succ j=>
   have:=ih (fun d hd=>h d (by simp[hd])) hj hi;rw[cY,bX (by rw[hc,eA];omega),hc];rw[show _*size+i-size=j*size+i by rw[eA];omega];exact this
theorem IW{css:List (List aw)}{size}(h:∀c,c∈css->c.length=size):∀n,css.flatten.take (n*size)=(css.take n).flatten:=by
 induction css with
 | nil=>intro n;simp
 | cons c cs ih=>
  intro n;cases n with
  | zero=>simp
  | succ n=>
   have hc:=h c (by simp);rw[cY,ec,cY,List.take_append,<-ih (fun d hd=>h d (by simp[hd])),hc,show _*size-size=n*size by rw[eA];omega,bA (by rw[hc,eA];omega)]
theorem EO{cs}{o}{v}(h:o<cs.length):cd cs o [v]=cs.set o v:=by
 rw[cd,List.set_eq_take_append_cons_drop,if_pos h];simp
theorem Cs{size}{tail}{i}{v}:∀{css:List _} {n:Nat} {cs:List aw},(∀c,c∈css->c.length=size)->css[n]? =some cs->i<size->
  (css.flatten++tail).set (n*size+i) v=(css.set n (cs.set i v)).flatten++tail
 | [],n,cs,_,hn,_=>by simp at hn
 | c::css,0,cs,h,hn,hi=>by
  simp at hn;subst hn;have hc:=h c (by simp);simp;rw[List.set_append_left _ _ (by omega)]
 | c::css,n+1,cs,h,hn,hi=>by
  simp at hn;have hc:=h c (by simp);simp;rw[ni _ _ (by rw[hc,eA];omega),hc,show(n+1)*size+i-size=n*size+i by rw[eA];omega,Cs (tail:=tail) (v:=v) (fun d hd=>h d (by simp[hd])) hn hi]
section
variable {w w':av} {a:Addr} {cs ds:List aw}
theorem Cells.ww(h:Cells w a cs)(k:Cells w (a.add cs.length) ds):Cells w a (cs++ds):=fun j v hj=>by
 by_cases bQ:j<cs.length
 ·rw[bM bQ]at hj;exact h j v hj
 ·rw[bX (by omega)]at hj;have:=k _ v hj;rw[nr,show cs.length+_=j by omega]at this;exact this
theorem Cells.nil w a:Cells w a []:=fun j v hj=>by simp at hj
end
section
variable {α:Type} {r:Rp α} {size:Nat} {w w':av} {F G:Nat->Prop} {s y:Sl} {xs ys:List α} {e:TypeId} {B:Nat}
abbrev kY(r:Rp α)(size:Nat)(w:av)(F:Nat->Prop):List α->List (List aw)->Prop:=ff fun x cs=>cs.length=size/\r w F x cs
theorem kY.sz{css}(h:kY r size w F xs css):∀c,c∈css->c.length=size:=fun c hc=>by
 obtain⟨_,h1,_⟩:=h.mem c hc;exact h1
theorem kY.keep(hr:r.Ok){css}(h:kY r size w F xs css)(hk:∀k,F k->k<w.heap.size->w'.heap[k]? =w.heap[k]?):kY r size w' F xs css:=
 h.imp fun _ _ h1=>⟨h1.1,hr.keep h1.2 hk⟩
theorem kY.mono(hr:r.Ok){css}(h:kY r size w F xs css)(hk:∀k,F k->G k):kY r size w G xs css:=
 h.imp fun _ _ h1=>⟨h1.1,hr.mono h1.2 hk⟩
theorem kY.inHeap(hr:r.Ok){css}(h:kY r size w F xs css):kY r size w (fun k=>F k/\k<w.heap.size) xs css:=
 h.imp fun _ _ h1=>⟨h1.1,hr.inHeap h1.2⟩
theorem SliceF.NJ{base:Addr}:∀xs k,(∀j x,xs[j]? =some x->∃cs,cs.length=size/\Cells w (base.add ((k+j)*size)) cs/\r w F x cs)->
  ∃css,kY r size w F xs css/\Cells w (base.add (k*size)) css.flatten
 | [],k,_=>⟨[],trivial,Cells.nil _ _⟩
 | x::xs,k,h=>by
  obtain⟨cs,h1,h2,h3⟩:=h 0 x rfl;obtain⟨css,k1,k2⟩:=SliceF.NJ xs _ (fun j y hj=>by
   obtain⟨ds,g1,g2,g3⟩:=h (j+1) y (by simpa using hj);exact⟨ds,g1,by rw[show k+1+j=k+(j+1) by omega];exact g2,g3⟩)
  refine⟨cs::css,⟨⟨h1,h3⟩,k1⟩,?_⟩;refine Cells.ww (by simpa using h2) ?_;rw[nr,h1,show k*size+size=(k+1)*size by rw[eA];omega];exact k2
theorem SliceF.flat(h:SliceF r size w F s xs)(hx:xs≠[]):∃base css,s.a=some base/\F base.block/\kY r size w F xs css/\Cells w base css.flatten:=by
 cases xs with
 | nil=>exact absurd rfl hx
 | cons x xs=>
  obtain⟨base,_,h1,h2,_⟩:=h.at_ 0 x rfl;obtain⟨css,k1,k2⟩:=SliceF.NJ (r:=r) (size:=size) (w:=w) (F:=F) (base:=base) _ 0 (fun j y hj=>by
   obtain⟨b',cs,g1,g2,g3,g4,g5⟩:=h.at_ j y hj;rw[h1]at g1;injection g1 with g1;subst g1;exact⟨cs,g3,by simpa using g4,g5⟩)
  exact⟨base,css,h1,h2,k1,by rw[Gc,zd]at k2;exact k2⟩
theorem SliceF.of{base}{css}(he:kY r size w F xs css)(ha:s.a=some base)(hF:F base.block)(hc:Cells w base css.flatten)(hn:s.n=xs.length)(BL:s.n<=s.c)(Tj:s.c<=9223372036854775807):SliceF r size w F s xs:=
 ⟨hn,BL,fun h=>(by rw[ha]at h;cases h),Tj,fun j x hx=>by
  obtain⟨cs,h1,h2,h3⟩:=he.get hx;exact⟨base,cs,ha,hF,h2,fun i v hi=>by rw[nr];exact hc _ v (Gq he.sz h1 hi),h3⟩⟩
def Own(r:Rp α)(size:Nat)(e:TypeId)(B:Nat)(w:av)(F:Nat->Prop)(s:Sl)(xs:List α):Prop:=
 (s=Sl.nil/\xs=[])∨∃g css tail,s.a=some ⟨g,0,none⟩/\B<=g/\Blk w g e (css.flatten++tail)/\tail.length=(s.c-s.n)*size/\s.n=xs.length/\s.n<=s.c/\s.c<=9223372036854775807/\kY r size w (fun k=>F k/\k≠g) xs css
theorem Own.len(h:Own r size e B w F s xs):s.n=xs.length:=by
 rcases h with⟨rfl,rfl⟩ | ⟨g,css,tail,_,_,_,_,h,_⟩
 ·rfl
 ·exact h
theorem Own.cap(h:Own r size e B w F s xs):s.n<=s.c:=by
 rcases h with⟨rfl,rfl⟩ | ⟨g,css,tail,_,_,_,_,_,h,_,_⟩
 ·exact aV _
 ·exact h
theorem Own.slice(hr:r.Ok)(h:Own r size e B w F s xs):SliceF r size w (fun k=>F k∨(B<=k/\s.a=some ⟨k,0,none⟩)) s xs:=by
 rcases h with⟨rfl,rfl⟩ | ⟨g,css,tail,h1,h2,h4,h5,h6,h7,h9,h8⟩
 ·exact SliceF.nil _ _ _ _
 ·exact SliceF.of (h8.mono hr fun k hk=>.inl hk.1) h1 (.inr ⟨h2,h1⟩) (h4.cells 0 _ fun j v hj=>by
   rw[bJ,bM (aY.1 hj).1];exact hj) h6 h7 h9
theorem Own.keep(hr:r.Ok)(h:Own r size e B w F s xs)(hk:∀k,(F k∨(B<=k/\s.a=some ⟨k,0,none⟩))->k<w.heap.size->w'.heap[k]? =w.heap[k]?):Own r size e B w' F s xs:=by
 rcases h with⟨rfl,rfl⟩ | ⟨g,css,tail,h1,h2,h4,h5,h6,h7,h9,h8⟩
 ·exact .inl ⟨rfl,rfl⟩
 ·exact .inr ⟨g,css,tail,h1,h2,(hk g (.inr ⟨h2,h1⟩) h4.lt).trans h4,h5,h6,h7,h9,h8.keep hr fun k hF=>hk k (.inl hF.1)⟩
theorem Own.mono(hr:r.Ok)(h:Own r size e B w F s xs)(hk:∀k,F k->G k):Own r size e B w G s xs:=by
 rcases h with⟨rfl,rfl⟩ | ⟨g,css,tail,h1,h2,h4,h5,h6,h7,h9,h8⟩
 ·exact .inl ⟨rfl,rfl⟩
 ·exact .inr ⟨g,css,tail,h1,h2,h4,h5,h6,h7,h9,h8.mono hr fun k h=>⟨hk k h.1,h.2⟩⟩
theorem Own.low{B'}(h:Own r size e B w F s xs)(hB:B'<=B):Own r size e B' w F s xs:=by
 rcases h with⟨rfl,rfl⟩ | ⟨g,css,tail,h1,h2,h4⟩
 ·exact .inl ⟨rfl,rfl⟩
 ·exact .inr ⟨g,css,tail,h1,bh hB h2,h4⟩
theorem Own.nil(r:Rp α) size e B w F:Own r size e B w F Sl.nil []:=.inl ⟨rfl,rfl⟩
theorem Own.inHeap(hr:r.Ok)(h:Own r size e B w F s xs):Own r size e B w (fun k=>F k/\k<w.heap.size) s xs:=by
 rcases h with⟨rfl,rfl⟩ | ⟨g,css,tail,h1,h2,h4,h5,h6,h7,h9,h8⟩
 ·exact .inl ⟨rfl,rfl⟩
 ·exact .inr ⟨g,css,tail,h1,h2,h4,h5,h6,h7,h9,(h8.inHeap hr).mono hr fun k h=>⟨⟨h.1.1,h.2⟩,h.1.2⟩⟩
theorem Own.blk(h:Own r size e B w F s xs){ad}(ha:s.a=some ad):B<=ad.block/\ad.block<w.heap.size:=by
 rcases h with⟨rfl,rfl⟩ | ⟨g,css,tail,h1,h2,h4,_⟩
 ·cases ha
 ·rw[h1]at ha;injection ha with ha;subst ha;exact⟨h2,h4.lt⟩
theorem SliceF.aac(h:SliceF r size w F s xs):∃css,kY r size w F xs css/\∀base,s.a=some base->Cells w base css.flatten:=by
 cases xs with
 | nil=>exact⟨[],trivial,fun b _=>Cells.nil _ _⟩
 | cons x xs=>
  obtain⟨base,css,h1,h2,h3,h4⟩:=h.flat (by simp);exact⟨css,h3,fun b hb=>by rw[h1]at hb;injection hb with hb;subst hb;exact h4⟩
theorem kY.FM{css}(h:kY r size w F xs css):css.flatten.length=xs.length*size:=by rw[wH h.sz,h.len]
theorem kY.one(hr:r.Ok){css}(h:kY r size w F xs css):∀v,v∈css.flatten->v.oneCell'=true:=fun v hv=>by
 obtain⟨c,hc,hv⟩:=List.mem_flatten.1 hv;obtain⟨x,_,hx⟩:=h.mem c hc;exact hr.one hx v hv
theorem Yz(l m:List aw) z:(l.toArray++m.toArray++z)=(l++m++z.toList).toArray:=by
 simp
section
variable {P:Program} {t ty:TypeId} {i:TypeInfo} {z:aw} {bytes:Nat}
theorem sS(w:av) k (D7:z.cells.size=size):(Builtin.zeroCells z.cells k).toList.length=k*size:=by
 rw[kE,size_zeroCells,D7]
theorem IX(ht:P.underlying t=some (.slice e))(hi:P.info? e=some i)(hz:i.zero=some z)(jM:i.size=size)(JL:i.bytes=bytes)(D7:z.cells.size=size)
  (hr:r.Ok) {css} (k1:kY r size w F xs css) (k2:∀base,s.a=some base->Cells w base css.flatten) (JM:s.a=none->s.c=0) (pL:s.n=xs.length) (hsc:s.n<=s.c)
  (hy:SliceF r size w F y ys) (oa:s.c<s.n+y.n) (hm:(xs.length+ys.length)*bytes<=140737488355328) (yj:0<bytes):
  ∃s' w',(Builtin.append_ #[t,t] ty #[s.v,y.v]).run P w=.ok s'.v w'/\Own r size e w.heap.size w' F s' (xs++ys)/\Only [] w w'/\s'.a=some ⟨w.heap.size,0,none⟩:=by
 subst jM;subst JL;have Tj:=bh (by have:=Nat.mul_le_mul_left (xs.length+ys.length) yj;omega) hm;have Pc:=hy.len;have Tl:y.n≠0:=by omega
 have hyx:ys≠[]:=fun h=>Tl (by rw[Pc,h];rfl);obtain⟨yb,B5,m1,m2,m3,m4⟩:=hy.flat hyx;obtain⟨sa,sn,sc⟩:=s;obtain⟨ya,yn,yc⟩:=y;dsimp only at pL hsc JM Pc Tl oa m1 k2;subst m1;have hold:=Only.drew w;have key:∀jE KA,jE=sn+yn->∀W',W'=w.drew.alloc (.cells (css.flatten.toArray++B5.flatten.toArray++Builtin.zeroCells z.cells (grownCap w jE KA e-jE)) e)->
   Own r i.size e w.heap.size W' F ⟨some ⟨w.heap.size,0,none⟩,jE,grownCap w jE KA e⟩ (xs++ys)/\Only [] w W':=by
  rintro jE KA rfl W' rfl;have hO:Only [] w (w.drew.alloc (.cells (css.flatten.toArray++B5.flatten.toArray++Builtin.zeroCells z.cells (grownCap w (sn+yn) KA e-(sn+yn))) e)):=hold.cp (Only.alloc _ _);refine⟨.inr ⟨w.heap.size,css++B5,(Builtin.zeroCells z.cells _).toList,rfl,aV _,?_,sS w _ D7,?_,grownCap_ge _ _ _ _,grownCap_le_maxLen _ _ _ _ (by simp[maxLen];omega),?_⟩,hO⟩
  ·rw[Yz,BZ];exact Blk.alloc w.drew e _
  ·simp;omega
  ·refine((kY.mono hr (kY.inHeap hr (ff.ww k1 m3)) (G:=fun k=>F k/\k≠w.heap.size) fun k h=>⟨h.1,by have:=h.2;omega⟩)).keep hr fun k hk bQ=>hO.block k bQ (by simp)
 cases sa with
 | none=>
  have hsc:=JM rfl;subst hsc;have Pe:sn=0:=by omega
  subst Pe;have hx:=ca pL.symm;subst hx;cases css with
  | cons c css=>exact k1.elim
  | nil=>
   have sB:=run_append_nil (P:=P) w t ty e i z ht hi hz yb yn yc B5.flatten (by rw[m3.FM,Pc]) m4 (by omega) (by omega) (by
    have:(0+ys.length)*i.bytes<=140737488355328:=by simpa using hm
    rw[bJ,<-Pc]at this;omega)
   obtain⟨g1,g2⟩:=key yn 0 (by simp) _ rfl;exact⟨_,_,sB,by simpa using g1,by simpa using g2,rfl⟩
 | some b=>
  have sB:=run_append_grow (P:=P) w t ty e i z ht hi hz b sn sc css.flatten (by rw[k1.FM,pL]) (k2 b rfl) yb yn yc B5.flatten (by rw[m3.FM,Pc]) m4 oa (by omega) (growslice_fits oa (by rw[pL,Pc];exact hm));obtain⟨g1,g2⟩:=key _ sc rfl _ rfl;exact⟨_,_,sB,g1,g2,rfl⟩
theorem K4(ht:P.underlying t=some (.slice e))(hi:P.info? e=some i)(jM:i.size=size)
  (hr:r.Ok) {g} {css} {tail} (ha:s.a=some ⟨g,0,none⟩) (hB:B<=g) (hb:Blk w g e (css.flatten++tail)) (NZ:tail.length=(s.c-s.n)*size) (hn:s.n=xs.length) (hc:s.n<=s.c) (Tj:s.c<=9223372036854775807)
  (hE:kY r size w (fun k=>F k/\k≠g) xs css) (hy:SliceF r size w (fun k=>F k/\k≠g) y ys) (oa:s.n+y.n<=s.c):
  ∃w',(Builtin.append_ #[t,t] ty #[s.v,y.v]).run P w=.ok (Sl.v ⟨s.a,s.n+y.n,s.c⟩) w'/\Own r size e B w' F ⟨s.a,s.n+y.n,s.c⟩ (xs++ys)/\Only [g] w w':=by
 subst jM;have Pc:=hy.len;obtain⟨sa,sn,sc⟩:=s;obtain⟨ya,yn,yc⟩:=y;dsimp only at ha hn hc NZ oa Pc;subst ha;obtain⟨B5,m3,m4⟩:=hy.aac;have lq:css.flatten.length=sn*i.size:=by rw[hE.FM,hn]
 have zQ:B5.flatten.length=yn*i.size:=by rw[m3.FM,Pc]
 have pC:sn*i.size+yn*i.size<=sn*i.size+tail.length:=by
  rw[NZ,<-eA,<-eA];exact fE _ (by omega)
 have sB:(Builtin.append_ #[t,t] ty #[.slice (some ⟨g,0,none⟩) sn sc,.slice ya yn yc]).run P w=
   .ok (.slice (some ⟨g,0,none⟩) (sn+yn) sc) (w.setRow g ((css.flatten++B5.flatten)++tail.drop (yn*i.size)).toArray):=by
  have D8:((css.flatten++tail).toArray.toList.take (sn*i.size)++B5.flatten++(css.flatten++tail).toArray.toList.drop (sn*i.size+B5.flatten.length))=(css.flatten++B5.flatten)++tail.drop (yn*i.size):=by
   rw[fV,<-lq,List.take_left,zQ,List.drop_append];rw[List.drop_eq_nil_of_le (by omega),cf,dH]
  cases ya with
  | some ya=>
   have:=run_append_room (P:=P) w t ty e i ht hi g sn sc (css.flatten++tail).toArray hb ya yn yc B5.flatten zQ (m4 ya rfl) (m3.one hr) oa (by
    rw[mC,aO,zQ,lq];exact pC)
   rw[this,D8]
  | none=>
   have hyx:ys=[]:=by
    cases ys with
    | nil=>rfl
    | cons x xs=>obtain⟨_,_,h,_⟩:=hy.at_ 0 x rfl;cases h
   subst hyx;have Tl:=by simpa using Pc
   subst Tl;cases B5 with
   | cons c cs=>exact m3.elim
   | nil=>
    have rF:w.setRow g ((css.flatten++([]).flatten)++tail.drop (0*i.size)).toArray=w:=by
     have:=setRow_self w g (css.flatten++tail).toArray e (0,0) hb;simpa using this
    rw[rF];simp[Builtin.append_,run_underlying ht,sizeOf,typeInfo,hi,Builtin.lenOf,Builtin.firstCells,hc,storeCells]
 have hO:Only [g] w (w.setRow g ((css.flatten++B5.flatten)++tail.drop (yn*i.size)).toArray):=Only.setRow _ _ _;refine⟨_,sB,.inr ⟨g,css++B5,tail.drop (yn*i.size),rfl,hB,?_,?_,?_,oa,Tj,?_⟩,hO⟩
 ·rw[BZ];exact hb.setRow _
 ·rw[cy,NZ,<-Nat.sub_mul];congr 1;dsimp only;omega
 ·dsimp only;rw[aO];omega
 ·exact kY.keep hr (ff.ww hE m3) fun k hk bQ=>hO.block k bQ (by simpa using hk.2)
theorem oA(ht:P.underlying t=some (.slice e))(hi:P.info? e=some i)(hz:i.zero=some z)(jM:i.size=size)(JL:i.bytes=bytes)(D7:z.cells.size=size)
  (hr:r.Ok) (hs:Own r size e B w F s xs) (hy:SliceF r size w (fun k=>F k/\s.a≠some ⟨k,0,none⟩) y ys) (hB:B<=w.heap.size) (hm:(xs.length+ys.length)*bytes<=140737488355328) (yj:0<bytes):
  ∃s' w',(Builtin.append_ #[t,t] ty #[s.v,y.v]).run P w=.ok s'.v w'/\Own r size e B w' F s' (xs++ys)/\∃gs,Only gs w w'/\(∀g,g∈gs->s.a=some ⟨g,0,none⟩/\B<=g/\g<w.heap.size)/\(s'.a=s.a∨s'.a=some ⟨w.heap.size,0,none⟩):=by
 by_cases oa:s.n+y.n<=s.c
 ·rcases hs with⟨rfl,rfl⟩ | ⟨g,css,tail,h1,h2,h4,h5,h6,h7,h9,h8⟩
  ·have Tl:y.n=0:=by simpa using oa
   have hyx:ys=[]:=by have:=hy.len;rw[Tl]at this;exact ca this.symm
   subst hyx;refine⟨Sl.nil,w,?_,.inl ⟨rfl,rfl⟩,[],Only.refl _ _,by simp,.inl rfl⟩;obtain⟨ya,yn,yc⟩:=y;dsimp only at Tl;subst Tl;cases ya<;>simp[Builtin.append_,run_underlying ht,sizeOf,typeInfo,hi,Builtin.lenOf,Builtin.firstCells,loadCells,loadCellsFrom]
  ·obtain⟨w',k1,k2,k3⟩:=K4 (ty:=ty) ht hi jM hr h1 h2 h4 h5 h6 h7 h9 h8 (hy.mono hr fun k hk=>⟨hk.1,fun h=>hk.2 (by rw[h,h1])⟩) oa;exact⟨_,w',k1,k2,[g],k3,fun g' hg'=>by simp at hg';subst hg';exact⟨h1,h2,h4.lt⟩,.inl rfl⟩
 ·have pL:=hs.len;have hsc:=hs.cap;have hy':SliceF r size w F y ys:=hy.mono hr fun k hk=>hk.1;have go:∀css,kY r size w F xs css->(∀base,s.a=some base->Cells w base css.flatten)->(s.a=none->s.c=0)->
    ∃s' w',(Builtin.append_ #[t,t] ty #[s.v,y.v]).run P w=.ok s'.v w'/\Own r size e B w' F s' (xs++ys)/\∃gs,Only gs w w'/\(∀g,g∈gs->s.a=some ⟨g,0,none⟩/\B<=g/\g<w.heap.size)/\(s'.a=s.a∨s'.a=some ⟨w.heap.size,0,none⟩):=by
   intro css k1 k2 k3;obtain⟨s',w',g1,g2,g3,g4⟩:=IX (ty:=ty) ht hi hz jM JL D7 hr k1 k2 k3 pL hsc hy' (by omega) hm yj;exact⟨s',w',g1,g2.low hB,[],g3,by simp,.inr g4⟩
  rcases hs with⟨rfl,rfl⟩ | ⟨g,css,tail,h1,h2,h4,h5,h6,h7,h9,h8⟩
  ·exact go [] trivial (fun _ h=>by cases h) (fun _=>rfl)
  ·refine go css (h8.mono hr fun k hk=>hk.1) (fun base hb=>?_) (fun h=>by rw[h1]at h;cases h);rw[h1]at hb;injection hb with hb;subst hb;exact h4.cells 0 _ fun j v hj=>by
    rw[bJ,bM (aY.1 hj).1];exact hj
theorem EP w (ht:P.underlying t=some (.slice e)) (hi:P.info? e=some i):(Instr.buildSlice t 0 #[]).run P w=.ok (.slice (some ⟨w.heap.size,0,none⟩) 0 0) (w.alloc (.cells #[] e)):=by
 have h0:Array.map (fun _=>(default:aw)) (Array.range 0)=#[]:=Array.ext' (by simp);simp[Instr.buildSlice,run_underlying ht,sizeOf,typeInfo,hi,Instr.fill,newRow,h0]
theorem gV(ht:P.underlying t=some (.slice e))(hi:P.info? e=some i)(hz:i.zero=some z)(jM:i.size=size)(h0:0<size){vs:List aw}{len}{parts}
  (hp:parts=((vs.zipIdx 0).map fun x=>(x.2,x.1)).toArray) (hl:vs.length=len) (XI:0<len) (wx:len*size<=16777216)
  (hr:r.Ok) (hE:kY r size w F xs (vs.map fun v=>v.cells.toList)):
  ∃s w',(Instr.buildSlice t len parts).run P w=.ok (Sl.v s) w'/\Own r size e w.heap.size w' F s xs/\Only [] w w'/\s.a=some ⟨w.heap.size,0,none⟩/\s.n=xs.length/\s.c=xs.length:=by
 subst jM;subst hp;subst hl;have tY:=by have:=hE.len;rwa[bC]at this
 have hsz:=fun v hv=>by
  have:=hE.sz _ (eT.2 ⟨v,hv,rfl⟩);simpa using this
 have sB:=run_buildSlice (P:=P) w t e vs.length ((vs.zipIdx 0).map fun x=>_).toArray (vs.flatMap fun v=>v.cells.toList).toArray i z ht hi hz (by omega)
  (by have:=Nat.mul_lt_mul_of_pos_left h0 XI;omega)
  (by rw[fV];exact Go.Great.fill_whole h0 vs _ hsz (by simp))
 have hO:Only [] w (w.alloc (.cells (vs.flatMap fun v=>v.cells.toList).toArray e)):=Only.alloc _ _;refine⟨⟨some _,vs.length,vs.length⟩,_,sB,.inr ⟨w.heap.size,vs.map (fun v=>v.cells.toList),[],rfl,aV _,?_,by simp,tY.symm,aV _,?_,?_⟩,hO,rfl,tY.symm,tY.symm⟩
 ·rw[bN,List.flatMap_def.symm.trans rfl];exact Blk.alloc w e _
 ·have:vs.length<=vs.length*i.size:=Nat.le_mul_of_pos_right _ h0;dsimp only;omega
 ·exact((kY.mono hr (kY.inHeap hr hE) (G:=fun k=>F k/\k≠w.heap.size) fun k h=>⟨h.1,by have:=h.2;omega⟩)).keep hr fun k hk bQ=>hO.block k bQ (by simp)
end
end
def ij:Rp UInt8:=fun _ _ b cs=>cs=[fi b]
theorem sU:ij.Ok where
 keep h _:=h
 inHeap h:=h
 mono h _:=h
 one h v hv:=by
  rw[show _=[fi _]from h]at hv;simp at hv;subst hv;rfl
theorem BytesF.slice{w}{F}{s}{l}(h:BytesF w F s l)(h0:s.a=none->s.c=0)(hb:s.c<=9223372036854775807):SliceF ij 1 w F s l:=
 ⟨h.rd.1,h.cap,h0,hb,fun j x hx=>by
  have hl:l≠[]:=fun e=>by rw[e]at hx;simp at hx
  obtain⟨ad,h1,h2⟩:=h.rd.2 hl;exact⟨ad,[fi x],h1,h.blk ad h1 hl,rfl,by rw[iR];exact h2.dT j _ (by rw[cF,hx];rfl),rfl⟩⟩
theorem SliceF.bytes{w}{F}{s}{l}(h:SliceF ij 1 w F s l):BytesF w F s l:=
 ⟨⟨h.len,fun hl=>by
  obtain⟨base,css,h1,h2,h3,h4⟩:=h.flat hl;refine⟨base,h1,?_⟩;have:∀l css,kY ij 1 w F l css->css.flatten=l.map fi:=by
   intro l
   induction l with
   | nil=>intro css h;cases css with
    | nil=>rfl
    | cons c cs=>exact h.elim
   | cons b l ih=>intro css h;cases css with
    | nil=>exact h.elim
    | cons c cs=>
     obtain⟨⟨_,h1⟩,h2⟩:=h;rw[cY,ih cs h2,show c=[fi b]from h1];rfl
  rw[<-this l css h3];exact h4⟩,h.cap,fun ad ha hl=>by
   obtain⟨base,css,h1,h2,_⟩:=h.flat hl;rw[ha]at h1;injection h1 with h1;rw[h1];exact h2⟩
theorem kY.bytes{w}{F G}{l}{css}(h:kY ij 1 w F l css):kY ij 1 w G l css:=ff.imp (fun _ _ h=>h) h
theorem Own.bytes{w}{F G}{e}{B}{s}{l}(h:Own ij 1 e B w F s l):Own ij 1 e B w G s l:=by
 rcases h with h | ⟨g,css,tail,h1,h2,h4,h5,h6,h7,h9,h8⟩
 ·exact .inl h
 ·exact .inr ⟨g,css,tail,h1,h2,h4,h5,h6,h7,h9,kY.bytes h8⟩
def rInt:Rp Int:=fun _ _ x cs=>cs=[.int .i64 x]/\rn x
theorem cx:rInt.Ok where
 keep h _:=h
 inHeap h:=h
 mono h _:=h
 one h v hv:=by
  rw[h.1]at hv;simp at hv;subst hv;rfl
structure OnlyP (F:Nat->Prop) (w w':av):Prop where
 os:w'.os=w.os
 tape:w'.tape=w.tape
 output:w'.output=w.output
 size:w.heap.size<=w'.heap.size
 block:∀k,k<w.heap.size->¬F k->w'.heap[k]? =w.heap[k]?
section
variable {w w' sA:av} {F G:Nat->Prop} {bs:List Nat}
theorem Only.p(h:Only bs w w')(hb:∀b,b∈bs->F b∨w.heap.size<=b):OnlyP F w w':=
 ⟨h.os,h.tape,h.output,h.size,fun k hk hn=>h.block k hk fun hm=>(hb k hm).elim hn fun h=>by omega⟩
theorem Only.p0(h:Only [] w w'):OnlyP F w w':=h.p (by simp)
theorem OnlyP.refl F w:OnlyP F w w:=(Only.refl [] w).p0
theorem OnlyP.mono(h:OnlyP F w w')(hb:∀k,k<w.heap.size->F k->G k):OnlyP G w w':=⟨h.os,h.tape,h.output,h.size,fun k hk hn=>h.block k hk fun hf=>hn (hb k hk hf)⟩
theorem OnlyP.trans(h:OnlyP F w w')(k:OnlyP G w' sA)(hb:∀k,G k->F k∨w.heap.size<=k):OnlyP F w sA:=
 ⟨k.os.trans h.os,k.tape.trans h.tape,k.output.trans h.output,bh h.size k.size,fun i hi hn=>
  (k.block i (cb hi h.size) fun hg=>(hb i hg).elim hn fun h=>by omega).trans (h.block i hi hn)⟩
theorem OnlyP.cp(h:OnlyP F w w')(k:Only [] w' sA):OnlyP F w sA:=h.trans (k.p0 (F:=fun _=>False)) fun _ h=>h.elim
theorem Only.oZ(h:Only [] w w')(k:OnlyP F w' sA):OnlyP F w sA:=(h.p0 (F:=F)).trans k fun _ h=>.inl h
theorem OnlyP.only(h:OnlyP F w w')(hb:∀k,F k->w.heap.size<=k):Only [] w w':=
 ⟨h.os,h.tape,h.output,h.size,fun k hk _=>h.block k hk fun hf=>by have:=hb k hf;omega⟩
theorem OnlyP.aad(h:OnlyP F w w')(hb:∀k,F k->k∈bs∨w.heap.size<=k):Only bs w w':=
 ⟨h.os,h.tape,h.output,h.size,fun k hk hn=>h.block k hk fun hf=>(hb k hf).elim hn fun h=>by omega⟩
theorem OnlyP.same(h:OnlyP F w w')(hl:∀x,x∈bs->x<w.heap.size/\¬F x):bS bs w w':=fun x hx=>h.block x (hl x hx).1 (hl x hx).2
theorem OnlyP.blk(h:OnlyP F w w'){b}{t}{cs}(hb:Blk w b t cs)(hn:¬F b):Blk w' b t cs:=(h.block b hb.lt hn).trans hb
end
section
variable {α:Type} {r:Rp α} {size:Nat} {w w':av} {F G:Nat->Prop} {s:Sl} {xs:List α} {e:TypeId} {B:Nat} {bs:List Nat}
theorem SliceF.only(hr:r.Ok)(h0:0<size)(h:SliceF r size w F s xs)(hO:Only bs w w')(hb:∀k,F k->k<w.heap.size->k∉bs):SliceF r size w' F s xs:=
 h.keep hr h0 fun k hF bQ=>hO.block k bQ (hb k hF bQ)
theorem SliceF.kU(hr:r.Ok)(h0:0<size)(h:SliceF r size w F s xs)(hO:OnlyP G w w')(hb:∀k,F k->k<w.heap.size->¬G k):SliceF r size w' F s xs:=
 h.keep hr h0 fun k hF bQ=>hO.block k bQ (hb k hF bQ)
theorem Rp.Ok.only(hr:r.Ok){x}{cs}(h:r w F x cs)(hO:Only bs w w')(hb:∀k,F k->k<w.heap.size->k∉bs):r w' F x cs:=hr.keep h fun k hF bQ=>hO.block k bQ (hb k hF bQ)
theorem ER{s}(h:SliceF r size w F s xs)(ha:s.a=none):xs=[]:=by
 have h0:=h.nil0 ha;have h1:=h.cap;have h2:=h.len;exact ca (by omega)
theorem kY.at(h:∃css,kY r size w F xs css):True:=trivial
theorem kY.setAt{css}(h:kY r size w F xs css) j {x} {c} (hc:c.length=size) (hx:r w F x c):kY r size w F (xs.set j x) (css.set j c):=ff.set j h ⟨hc,hx⟩
theorem Ct{css:List _}{tail}:∀{n:Nat} {cs vs:List aw},(∀c,c∈css->c.length=size)->css[n]? =some cs->vs.length=size->
  cd (css.flatten++tail) (n*size) vs=(css.set n vs).flatten++tail:=by
 induction css with
 | nil=>intro n cs vs _ h;simp at h
 | cons c css ih=>
  intro n cs vs hs hn hv;have hc:=hs c (by simp);cases n with
  | zero=>
   simp[cd,Gc,cK,cf,bJ,Ek,cY,bF,hv];rw[<-hc,List.drop_left]
  | succ n=>
   have:=ih (fun d hd=>hs d (by simp[hd])) hn hv;have e:(n+1)*size=c.length+n*size:=by rw[eA,hc];omega
   simp only[cd]at this⊢;simp;rw[e,PI,dJ,PJ,<-this];simp
end
section
variable {α:Type} {r:Rp α} {size:Nat} {w w':av} {F G:Nat->Prop} {s:Sl} {xs:List α} {e:TypeId} {B:Nat} {P:Program} {t ty:TypeId} {i:TypeInfo} {z v:aw} {bytes:Nat} {x:α}
theorem ja(ht:P.underlying t=some (.slice e))(hi:P.info? e=some i)(hz:i.zero=some z)(jM:i.size=size)(JL:i.bytes=bytes)(D7:z.cells.size=size)(h0:0<size)(yj:0<bytes)(wx:1*size<=16777216)
  (hr:r.Ok) (hs:Own r size e B w F s xs) (hB:B<=w.heap.size) (hv:v.cells.toList.length=size) (hx:r w G x v.cells.toList) (hG:∀k,G k->k<w.heap.size->F k/\s.a≠some ⟨k,0,none⟩) (hm:(xs.length+1)*bytes<=140737488355328):
  ∃y w1,(Instr.buildSlice t 1 #[(0,v)]).run P w=.ok (Sl.v y) w1/\Only [] w w1/\∃s' w2,(Builtin.append_ #[t,t] ty #[Sl.v s,Sl.v y]).run P w1=.ok (Sl.v s') w2/\
   Own r size e B w2 (fun k=>F k∨w.heap.size<=k) s' (xs++[x])/\(∃gs,Only gs w1 w2/\∀g,g∈gs->s.a=some ⟨g,0,none⟩/\B<=g/\g<w.heap.size)/\(s'.a=s.a∨∃g,s'.a=some ⟨g,0,none⟩/\w.heap.size<=g):=by
 obtain⟨y,w1,k1,k2,k3,k4,k5,k6⟩:=gV (P:=P) (t:=t) (e:=e) (i:=i) (z:=z) (w:=w) (F:=fun k=>G k/\k<w.heap.size) (vs:=[v]) (parts:=#[_]) (len:=1) (xs:=[x]) (r:=r) (size:=size) ht hi hz jM h0 rfl rfl (by decide) wx hr ⟨⟨hv,hr.inHeap hx⟩,trivial⟩;have Tm:Own r size e B w1 (fun k=>F k∨w.heap.size<=k) s xs:=((hs.inHeap hr).keep hr fun k _ bQ=>k3.block k bQ (by simp)).mono hr fun k hk=>.inl hk.1;have hy:=(k2.slice hr).mono hr (G:=fun k=>(F k∨w.heap.size<=k)/\s.a≠some _) fun k hk=>by
  rcases hk with⟨hk,bQ⟩ | ⟨hk,_⟩
  ·exact⟨.inl (hG k hk bQ).1,(hG k hk bQ).2⟩
  ·exact⟨.inr hk,fun ha=>by have:=(hs.blk ha).2;dsimp only at this;omega⟩
 obtain⟨s',w2,g1,g2,gs,g3,g4,g5⟩:=oA (ty:=ty) ht hi hz jM JL D7 hr Tm hy (bh hB k3.size) hm yj;refine⟨y,w1,k1,k3,s',w2,g1,g2,⟨gs,g3,fun g hg=>⟨(g4 g hg).1,(g4 g hg).2.1,(hs.blk (g4 g hg).1).2⟩⟩,?_⟩;rcases g5 with h | h
 ·exact .inl h
 ·exact .inr ⟨_,h,k3.size⟩
theorem Own.store(hr:r.Ok)(hs:Own r size e B w F s xs){n}(hn:n<xs.length){x}{vs}(hv:vs.length=size)(hx:r w G x vs)(hG:∀k,G k->k<w.heap.size->F k/\s.a≠some ⟨k,0,none⟩)(h0:0<size):
  ∃g cells,s.a=some ⟨g,0,none⟩/\dy s n size ⟨g,n*size,none⟩/\Blk w g e cells/\n*size+size<=cells.length/\
   ∀w',Only [g] w w'->Blk w' g e (cd cells (n*size) vs)->Own r size e B w' F s (xs.set n x):=by
 rcases hs with⟨rfl,rfl⟩ | ⟨g,css,tail,h1,h2,h4,h5,h6,h7,h9,h8⟩
 ·simp at hn
 have lq:=h8.len;have hcn:n<css.length:=by omega
 have N0:=wH h8.sz;have pC:=by
  have:=fE size (show n+1<=css.length by omega);rw[eA]at this;omega
 refine⟨g,_,h1,⟨_,h1,by omega,by omega,by rw[eU,aZ,bJ]⟩,h4,by rw[aO];omega,fun w' hO hb=>.inr ⟨g,css.set n vs,tail,h1,h2,?_,h5,by rw[pF];exact h6,h7,h9,?_⟩⟩
 ·rw[Ct h8.sz (bB hcn) hv]at hb;exact hb
 ·refine kY.setAt (h8.keep hr fun k hk bQ=>hO.block k bQ (by simpa using hk.2)) n hv (hr.keep (w:=w) (F:=fun k=>F k/\k≠g) ?_ fun k hk bQ=>hO.block k bQ (by simpa using hk.2));refine hr.mono (hr.inHeap hx) fun k hk=>?_;obtain⟨p1,p2⟩:=hG k hk.1 hk.2;exact⟨p1,fun e=>p2 (by rw[h1,e])⟩
end
theorem Own.NK{α}{r}{size}{w}{F}{s}{xs}{e}{B}(hr:r.Ok)(hs:Own r size e B w F s xs){n:Nat}{x:α}(hx:xs[n]? =some x):
  ∃g cells cs,s.a=some ⟨g,0,none⟩/\dy s n size ⟨g,n*size,none⟩/\Blk w g e cells/\cs.length=size/\Cells w ⟨g,n*size,none⟩ cs/\r w (fun k=>F k/\k≠g) x cs/\
   ∀off v y G,off<size->r w G y (cs.set off v)->(∀k,G k->k<w.heap.size->F k/\k≠g)->
    n*size+off+1<=cells.length/\∀w',Only [g] w w'->Blk w' g e (cd cells (n*size+off) [v])->Own r size e B w' F s (xs.set n y):=by
 rcases hs with⟨rfl,rfl⟩ | ⟨g,css,tail,h1,h2,h4,h5,h6,h7,h9,h8⟩
 ·simp at hx
 obtain⟨cs,k1,k2,k3⟩:=h8.get hx;have lq:=h8.len;have hn:=(aY.1 hx).1;have N0:=wH h8.sz;have pC:=by
  have:=fE size (show n+1<=css.length by omega);rw[eA]at this;omega
 refine⟨g,_,cs,h1,⟨_,h1,by omega,by omega,by rw[eU,aZ,bJ]⟩,h4,k2,h4.cells _ _ fun j v hj=>?_,k3,fun off v y G ho hy hG=>⟨by rw[aO];omega,fun w' hO hb=>.inr ⟨g,css.set n (cs.set off v),tail,h1,h2,?_,h5,by rw[pF];exact h6,h7,h9,?_⟩⟩⟩
 ·have:=Gq h8.sz k1 hj;rw[bM (aY.1 this).1];exact this
 ·rw[EO (by rw[aO];omega),Cs h8.sz k1 ho]at hb;exact hb
 ·refine kY.setAt (h8.keep hr fun k hk bQ=>hO.block k bQ (by simpa using hk.2)) n (by rw[pF];exact k2) ?_;refine hr.mono (hr.keep (hr.inHeap hy) fun k hk bQ=>hO.block k bQ (by simpa using(hG k hk.1 hk.2).2)) fun k hk=>hG k hk.1 hk.2
theorem ff.aae{α β}{P}{f:α->β}:∀{xs:List α} {css:List _},ff P (xs.map f) css↔ff (fun x cs=>P (f x) cs) xs css
 | [],[]=>Iff.rfl
 | x::xs,c::cs=>by simp[bE,ff,ff.aae (xs:=xs) (css:=cs)]
 | [],_::_=>Iff.rfl
 | _::_,[]=>Iff.rfl
theorem ff.NL{α}{P Q}:∀{xs:List α} {css:List _},(∀x c,x∈xs->P x c->Q x c)->ff P xs css->ff Q xs css
 | [],[],_,_=>trivial
 | x::xs,c::cs,hi,h=>⟨hi _ _ (by simp) h.1,ff.NL (xs:=xs) (css:=cs) (fun y d hy=>hi y d (by simp[hy])) h.2⟩
 | [],_::_,_,h=>h.elim
 | _::_,[],_,h=>h.elim
theorem Own.map{α β}{r:Rp α}{q:Rp β}{size}{w}{F G}{s}{xs}{e}{B} f (h:Own r size e B w F s xs) (hf:∀g x cs,x∈xs->r w (fun k=>F k/\k≠g) x cs->q w (fun k=>G k/\k≠g) (f x) cs):Own q size e B w G s (xs.map f):=by
 rcases h with⟨rfl,rfl⟩ | ⟨g,css,tail,h1,h2,h4,h5,h6,h7,h9,h8⟩
 ·exact .inl ⟨rfl,rfl⟩
 ·exact .inr ⟨g,css,tail,h1,h2,h4,h5,by rw[bC];exact h6,h7,h9,ff.aae.2 (ff.NL (fun x c hx hc=>⟨hc.1,hf g x c hx hc.2⟩) h8)⟩
section
variable {P:Program} {w:av}
theorem yI{z}(hz:∀v,v∈z->v.oneCell'=true)(h0:0<z.size) n:∀v,v∈(Builtin.zeroCells z n).toList->v.oneCell'=true:=fun v hv=>by
 have hv':=by simpa using hv
 simp[Builtin.zeroCells,Array.mem_map,Array.mem_range]at hv';obtain⟨i,hi,rfl⟩:=hv';have bQ:i % z.size<z.size:=Nat.mod_lt _ h0;rw[getElem!_pos z _ bQ];exact hz _ (Array.getElem_mem bQ)
theorem yJ{t e ty}{z}(ht:P.underlying t=some (.slice e))(hv:∀w,(zeroValue e).run P w=.ok z w)(h1:∀v,v∈z.cells->v.oneCell'=true)(Rs:0<z.cells.size){g o n c}{bt}{cs}(hn:0<n)
  (hb:Blk w g bt cs) (FP:o+n*z.cells.size<=cs.length):
  (Builtin.clear_ #[t] ty #[.slice (some ⟨g,o,none⟩) n c]).run P w=.ok (.tuple #[]) (w.setRow g (cs.take o++(Builtin.zeroCells z.cells n).toList++cs.drop (o+n*z.cells.size)).toArray):=by
 have hl:(Builtin.zeroCells z.cells n).toList.length=n*z.cells.size:=by rw[kE,size_zeroCells]
 have uj:=run_storeCells_at P g o bt (Builtin.zeroCells z.cells n).toList 0 cs.toArray w hb (by rw[hl];simpa using FP) (yI h1 Rs n);simp[dx,hl,fV]at uj;obtain⟨m,rfl⟩:∃m,n=m+1:=⟨n-1,by omega⟩
 simp[Builtin.clear_,run_underlying ht,hv,uj]
theorem Own.clear{α}{r:Rp α}{size}{F}{s}{xs}{e}{B}{t ty}{z}(hr:r.Ok)(h0:0<size)(ht:P.underlying t=some (.slice e))(hv:∀w,(zeroValue e).run P w=.ok z w)(h1:∀v,v∈z.cells->v.oneCell'=true)(D7:z.cells.size=size)
  (hs:Own r size e B w F s xs) {i} (hi:i<xs.length):
  ∃w' g,(Builtin.clear_ #[t] ty #[Sl.v (Sl.cut s i s.n s.c size)]).run P w=.ok (.tuple #[]) w'/\s.a=some ⟨g,0,none⟩/\Only [g] w w'/\Own r size e B w' F (Sl.cut s 0 i s.c size) (xs.take i):=by
 rcases hs with⟨rfl,rfl⟩ | ⟨g,css,tail,a1,a2,a4,a5,a6,a7,a9,a8⟩
 ·simp at hi
 obtain⟨sa,sn,sc⟩:=s;dsimp only at a1 a5 a6 a7 a9;subst a1;have N0:=a8.FM;have N1:Sl.cut ⟨some ⟨g,0,none⟩,sn,sc⟩ i sn sc size=⟨some ⟨g,i*size,none⟩,sn-i,sc-i⟩:=by
  simp[Sl.cut];rw[if_neg (by omega)];simp[fk,eU,bJ]
 have e1:i*size+(sn-i)*size=sn*size:=by rw[<-eA];congr 1;omega
 have hO:=Only.setRow w g (((css.flatten++tail).take (i*size)++(Builtin.zeroCells z.cells (sn-i)).toList++(css.flatten++tail).drop (i*size+(sn-i)*z.cells.size)).toArray);refine⟨_,g,by rw[N1];exact yJ (P:=P) (w:=w) (t:=t) (ty:=ty) ht hv h1 (by omega) (g:=g) (o:=i*size) (n:=sn-i) (c:=sc-i) (by omega) a4 (by rw[D7,e1,aO,N0,a6];omega),rfl,hO,?_⟩;have aar:Sl.cut ⟨some ⟨g,0,none⟩,sn,sc⟩ 0 i sc size=⟨some ⟨g,0,none⟩,i,sc⟩:=by
  simp only[Sl.cut];split<;>simp[Addr.add]
 rw[aar];have pM:(css.flatten++tail).take (i*size)=(css.take i).flatten:=by
  rw[KT (by rw[N0,<-a6];exact fE _ (by omega)),IW a8.sz]
 refine .inr ⟨g,css.take i,(Builtin.zeroCells z.cells (sn-i)).toList++(css.flatten++tail).drop (i*size+(sn-i)*z.cells.size),rfl,a2,?_,?_,?_,by dsimp only;omega,a9,?_⟩
 ·have:=a4.setRow ((css.flatten++tail).take (i*size)++(Builtin.zeroCells z.cells (sn-i)).toList++(css.flatten++tail).drop (i*size+(sn-i)*z.cells.size));rw[bF,pM]at this;rw[pM];simpa using this
 ·simp only[aO,cy,N0,<-a6,kE,size_zeroCells,a5,D7,e1];rw[dH,<-eA];congr 1;omega
 ·rw[cO];dsimp only;omega
 ·refine kY.keep hr (ff.take i a8) fun k hk bQ=>hO.block k bQ (by simpa using hk.2)
end
theorem R7 l m:((⟨List.toArray l⟩:ByteArray).toList==(⟨List.toArray m⟩:ByteArray).toList)=decide (l=m):=by
 by_cases h:l=m<;>simp[h]
end Go.Kt
namespace Go.Kt
open Go renaming World->av,Value->aw
open Go Go.RowKit Go.MapKept
set_option linter.unusedSimpArgs false
set_option linter.unusedVariables false
structure MapI (w:av) (r:Nat) (m:Int->Option Int):Prop where
 mem:∃es clock,w.heap[r]? =some (.map es clock)/\(∀x,x∈es.toList->∃k v,x.key=.int .i64 k/\x.val=.int .i64 v)/\es.toList.Pairwise (fun x y=>x.key≠y.key)/\
  ∀k v,m k=some v↔∃x,x∈es.toList/\x.key=.int .i64 k/\x.val=.int .i64 v
section
variable {P:Program} {w w':av} {r:Nat} {m:Int->Option Int} {mty kt et:TypeId}
theorem MapI.keep(h:MapI w r m)(hk:w'.heap[r]? =w.heap[r]?):MapI w' r m:=by
 obtain⟨es,c,h1,h2⟩:=h.mem;exact⟨es,c,hk.trans h1,h2⟩
theorem MapI.lt(h:MapI w r m):r<w.heap.size:=by
 obtain⟨es,c,h1,h2⟩:=h.mem;exact(jP.1 h1).1
theorem MapI.only(h:MapI w r m){bs}(hO:Only bs w w')(hn:r∉bs):MapI w' r m:=h.keep (hO.block r h.lt hn)
theorem Cu{w}{r}{o o'}(hb:w.heap[r]? =some o):Only [r] w {w with heap:=w.heap.setIfInBounds r o'}:=
 ⟨rfl,rfl,rfl,by simp,fun k _ hn=>(heap_set hb).2 k (by simpa using hn)⟩
theorem ES{α:Type}{l:List α}{j}{f}{e}(h:l[j]? =some e):l.modify j f=l.set j (f e):=by
 apply jz;intro i;rw[List.getElem?_modify,Gd];by_cases uk:j=i
 ·subst uk;rw[if_pos rfl,if_pos (aY.1 h).1,h];simp
 ·cases l[i]? <;>simp[uk]
end
end Go.Kt
namespace Go.Kt
open Go renaming World->av,Value->aw
open Go Go.RowKit
set_option linter.unusedSimpArgs false
set_option linter.unusedVariables false
@[reducible] def T(l:List UInt8):ByteArray:=⟨l.toArray⟩
theorem vE(s:ByteArray):s=T s.data.toList:=by
 obtain⟨⟨l⟩⟩:=s;rfl
theorem de(l:List UInt8):(T l).size=l.length:=by simp[T,ByteArray.size]
theorem vd(l:List UInt8)(i:Nat):(T l)[i]? =l[i]? :=by
 by_cases h:i<l.length
 ·rw[bB h,getElem?_pos (T l) i (by rw[de];exact h)];rfl
 ·rw[dC (by omega),getElem?_neg (T l) i (by rw[de];exact h)]
theorem wJ(l:List UInt8)(a b:Nat):(T l).extract a b=T ((l.drop a).take (b-a)):=by
 rw[vE ((T l).extract a b),Lib.extract_data]
theorem jT(l m:List UInt8):T l++T m=T (l++m):=by
 apply ByteArray.ext;simp[T]
theorem kH(l m:List UInt8):((T l).toList==(T m).toList)=decide (l=m):=R7 l m
def ra(us:Nat->aw):List (Nat×aw)->Nat->aw
 | [],i=>us i
 | (k,v)::r,i=>bif Nat.beq k i then v else ra us r i
def ve:List (Nat×aw)->Nat->Option aw
 | [],_=>none
 | (k,v)::r,i=>bif Nat.beq k i then some v else ve r i
def PT(us:Nat->aw)(l:List (Nat×aw)):Nat->Nat->List aw
 | 0,_=>[]
 | n+1,i=>ra us l i::PT us l n (i+1)
def fr(n:Nat)(us:Nat->aw)(l:List (Nat×aw)):Act:=⟨(PT us l n 0).toArray,[]⟩
def evO(n:Nat)(l:List (Nat×aw)):Operand->Option aw
 | .tmp k=>bif Nat.blt k n then ve l k else none
 | .const v=>some v
 | .global g=>some (.pointer (some ⟨g,0,none⟩))
 | .func f=>some (.func (.func f) #[] #[])
def pl:Option Tmp->aw->List (Nat×aw)->List (Nat×aw)
 | some k,v,l=>(k,v)::l
 | none,_,l=>l
def Aj:Nat->List aw->List (Nat×aw)
 | _,[]=>[]
 | i,v::r=>(i,v)::Aj (i+1) r
section
variable {n0:Nat} {us0:Nat->aw} {l0:List (Nat×aw)}
theorem lw(us:Nat->aw)(l:List (Nat×aw)):∀n i,(PT us l n i).length=n
 | 0,_=>rfl
 | n+1,i=>by simp only[PT,bf,lw us l n (i+1)]
theorem kw(us:Nat->aw)(l:List (Nat×aw)):∀n i k,k<n->(PT us l n i)[k]? =some (ra us l (i+k))
 | 0,_,_,h=>by omega
 | n+1,i,0,_=>rfl
 | n+1,i,k+1,h=>by
  simp only[PT,cz];rw[kw us l n (i+1) k (by omega),show i+1+k=i+(k+1) by omega]
theorem qE{us:Nat->aw}:∀{l:List (Nat×aw)} {k:Nat} {v:aw},ve l k=some v->ra us l k=v
 | [],_,_,h=>by cases h
 | (j,u)::r,k,v,h=>by
  simp only[ve,ra]at h⊢;cases hb:Nat.beq j k with
  | true=>rw[hb]at h;simpa using h
  | false=>rw[hb]at h;exact qE (l:=r) (by simpa using h)
theorem Ak{us:Nat->aw}:∀{l:List (Nat×aw)} {k:Nat},ve l k=none->ra us l k=us k
 | [],_,_=>rfl
 | (j,u)::r,k,h=>by
  simp only[ve,ra]at h⊢;cases hb:Nat.beq j k with
  | true=>rw[hb]at h;simp at h
  | false=>rw[hb]at h;exact Ak (l:=r) (by simpa using h)
theorem K5{k:Nat}(hk:k<n0):(fr n0 us0 l0).eval (.tmp k)=ra us0 l0 k:=by
 show(PT us0 l0 n0 0).toArray.getD k undef=_;rw[Array.getD_eq_getD_getElem?,nj,kw _ _ _ _ _ hk,bJ];rfl
theorem evE{x:Operand}{v:aw}(h:evO n0 l0 x=some v):(fr n0 us0 l0).eval x=v:=by
 cases x with
 | tmp k=>
  simp only[evO]at h;cases hb:Nat.blt k n0 with
  | false=>rw[hb]at h;cases h
  | true=>
   rw[hb]at h;rw[K5 (ci hb)];exact qE h
 | const u=>simpa[evO,Act.eval]using h
 | global g=>simpa[evO,Act.eval]using h
 | func f=>simpa[evO,Act.eval]using h
theorem sV{us:Nat->aw}{l:List (Nat×aw)}{k i:Nat}{v:aw}(h:k≠i):ra us ((k,v)::l) i=ra us l i:=by
 have:Nat.beq k i=false:=by
  cases hb:Nat.beq k i with
  | false=>rfl
  | true=>exact absurd (bR hb) h
 simp only[ra,this,rk]
theorem sW{us:Nat->aw}{l:List (Nat×aw)}{k:Nat}{v:aw}:ra us ((k,v)::l) k=v:=by
 simp only[ra,Nat.beq_refl,lS]
theorem YA{k:Nat}{v:aw}:(fr n0 us0 l0).put (some k) v=fr n0 us0 ((k,v)::l0):=by
 unfold fr;rw[f0];congr 2;apply jz;intro i;rw[Gd,lw];by_cases hi:i<n0
 ·rw[kw _ _ _ _ _ hi,kw _ _ _ _ _ hi,bJ];split
  ·rename_i h;subst h;rw[if_pos hi,sW]
  ·rename_i h;rw[sV h]
 ·rw[dC (by rw[lw];omega),dC (by rw[lw];omega)];split
  ·rename_i h;subst h;rw[if_neg hi]
  ·rfl
theorem ze:∀(args:List aw) (j i:Nat),ra (fun _=>undef) (Aj j args) i=if j<=i then(args[i-j]?).getD undef else undef
 | [],j,i=>by simp[Aj,ra]
 | v::r,j,i=>by
  simp only[Aj];by_cases uk:j=i
  ·subst uk;rw[sW,if_pos (aV _)];simp
  ·rw[sV uk,ze r (j+1) i];by_cases pC:j<=i
   ·rw[if_pos pC,if_pos (by omega),show i-j=(i-(j+1))+1 by omega,cz]
   ·rw[if_neg pC,if_neg (by omega)]
end
section
variable {P:Program} {ops:Array Oper} {Q:Exit->Act->av->Prop} {rest:List Oper} {w w':av} {n0:Nat} {us0:Nat->aw} {l0:List (Nat×aw)}
def asB:aw->Option Bool
 | .bool b=>some b
 | _=>none
theorem Cv{eF:List Oper}{j d:Nat}{oj:Oper}{v:aw}(h2:fA eF j=some oj)(h3:oj.dst=some d)(h4:evO n0 l0 (.tmp d)=some v):
  yielded eF.toArray (fr n0 us0 l0).tmps j=asB v:=by
 rw[iB]at h2;have hd:d<n0:=by
  simp only[evO]at h4;cases hb:Nat.blt d n0 with
  | false=>rw[hb]at h4;cases h4
  | true=>exact ci hb
 have h5:=evE (us0:=us0) h4;rw[K5 hd]at h5;have:(fr n0 us0 l0).tmps[d]? =some v:=by
  show(PT us0 l0 n0 0).toArray[d]? =_;rw[nj,kw _ _ _ _ _ hd,bJ,h5]
 simp only[yielded,nj,h2,kr,h3,this];cases v<;>rfl
theorem wtF{o oj:Oper}{eF:List Oper}{j d:Nat}{want b r:Bool}(h1:o.guard=some (j,want))(h2:fA eF j=some oj)(h3:oj.dst=some d)
  (h4:evO n0 l0 (.tmp d)=some (.bool b)) (h5:(b==want)=r):Region.wanted o (yielded eF.toArray (fr n0 us0 l0).tmps)=r:=by
 subst h5;have e:=Cv (us0:=us0) h2 h3 h4;simp only[Region.wanted,h1,e,asB];cases b<;>cases want<;>rfl
theorem wuF{o oj:Oper}{eF:List Oper}{j d:Nat}{want:Bool}(h1:o.guard=some (j,want))(h2:fA eF j=some oj)(h3:oj.dst=some d)
  (h4:evO n0 l0 (.tmp d)=some undef):Region.wanted o (yielded eF.toArray (fr n0 us0 l0).tmps)=false:=by
 have e:=Cv (us0:=us0) h2 h3 h4;simp[Region.wanted,h1,e,undef,asB]
theorem pg{x y:Option Addr}(h:x=y):some (Value.pointer x)=some (.pointer y):=by rw[h]
theorem ag{x y:Addr}(h:x=y):some (Value.pointer (some x))=some (.pointer (some y)):=by rw[h]
theorem bg{x y:Bool}(h:x=y):some (Value.bool x)=some (.bool y):=by rw[h]
theorem sv{k:Tmp}{op:Op}{t':TypeId}{p:String}{af:Array Edge}{v:aw}(hr:(execOp (fr n0 us0 l0).eval ⟨some k,op,t',p,af,none⟩).run P w=.ok (.value v) w)
 (h:wpList P ops Q rest (fr n0 us0 ((k,v)::l0)) w):wpList P ops Q (⟨some k,op,t',p,af,none⟩::rest) (fr n0 us0 l0) w:=zW v (wn rfl) hr YA h
theorem sn{op:Op}{t':TypeId}{p:String}{af:Array Edge}{v:aw}(hr:(execOp (fr n0 us0 l0).eval ⟨none,op,t',p,af,none⟩).run P w=.ok (.value v) w)
 (h:wpList P ops Q rest (fr n0 us0 l0) w):wpList P ops Q (⟨none,op,t',p,af,none⟩::rest) (fr n0 us0 l0) w:=zW v (wn rfl) hr (f3 _ _) h
end
end Go.Kt
namespace Go.Kt.V
open Go renaming World->av,Value->aw
open Go Go.RowKit Go.Kt
set_option linter.unusedSimpArgs false
set_option linter.unusedVariables false
structure OV where
 v:aw
 one:v.oneCell'=true
inductive SV where
 | int (k:IntKind) (n:Int)
 | il (k:IntKind) (n:Int)
 | bl (b:Bool)
 | bt (t:Bool)
 | str (s:ByteArray)
 | np
 | ptr (p:Option Addr)
 | ad (a:Addr)
 | box (i o:Nat)
 | sl (s:Sl)
 | nsl
 | map (m:Option Nat)
 | raw (v:OV)
 | fn (f:FuncId) (fs cs:SV)
 | agg (l:SV)
 | tup (l:SV)
 | un
 | e
 | c (h t:SV)
def nt(β:Nat->Nat):SV->List aw
 | .int k n=>[.int k n]
 | .il k n=>[.int k n]
 | .bl b=>[.bool b]
 | .bt t=>[.bool t]
 | .str s=>[.string s]
 | .np=>[.pointer none]
 | .ptr p=>[.pointer p]
 | .ad a=>[.pointer (some a)]
 | .box i o=>[.pointer (some ⟨β i,o,none⟩)]
 | .sl s=>[s.v]
 | .nsl=>[Sl.v Sl.nil]
 | .map m=>[.map m]
 | .raw v=>[v.v]
 | .fn f fs cs=>[.func (.func f) (nt β fs).toArray (nt β cs).toArray]
 | .agg l=>[.agg (nt β l).toArray]
 | .tup l=>[.tuple (nt β l).toArray]
 | .un=>[undef]
 | .e=>[]
 | .c h t=>(nt β h).headD undef::nt β t
def val(β:Nat->Nat)(s:SV):aw:=(nt β s).headD undef
def cm(β:Nat->Nat)(l:List SV):List aw:=l.map (val β)
def kJ:SV->List SV
 | .c h t=>h::kJ t
 | _=>[]
def lV:List SV->SV
 | []=>.e
 | s::r=>.c s (lV r)
def yK:SV->Bool
 | .c _ t=>yK t
 | .e=>true
 | _=>false
theorem oB β:∀l,nt β (lV l)=cm β l
 | []=>rfl
 | s::r=>by simp only[lV,nt,oB β r];rfl
theorem kx β:∀{s:SV},yK s=true->nt β s=cm β (kJ s)
 | .e,_=>rfl
 | .c h t,hl=>by simp only[nt,kJ,kx β (s:=t) hl];rfl
def cln(g:Nat->Bool):SV->Bool
 | .box i _=>g i
 | .fn _ fs cs=>cln g fs&&cln g cs
 | .agg l=>cln g l
 | .tup l=>cln g l
 | .c h t=>cln g h&&cln g t
 | _=>true
def fL(g:Nat->Bool):List SV->Bool
 | []=>true
 | s::r=>cln g s&&fL g r
theorem jX{β β'}{g}(h:∀i,g i=true->β i=β' i):∀s,cln g s=true->nt β s=nt β' s
 | .int ..,_ | .il ..,_ | .bl ..,_ | .bt ..,_ | .str ..,_ | .np,_ | .ptr ..,_ | .ad ..,_ | .sl ..,_ | .nsl,_ | .map ..,_ | .raw ..,_ | .un,_ | .e,_=>rfl
 | .box i o,hc=>by simp[nt,h i hc]
 | .fn f fs cs,hc=>by
  simp[cln,aR]at hc;simp[nt,jX h fs hc.1,jX h cs hc.2]
 | .agg l,hc=>by simp[nt,jX h l hc]
 | .tup l,hc=>by simp[nt,jX h l hc]
 | .c s t,hc=>by
  simp[cln,aR]at hc;simp[nt,jX h s hc.1,jX h t hc.2]
theorem ga{β β'}{g}(h:∀i,g i=true->β i=β' i) s (hc:cln g s=true):val β s=val β' s:=by
 unfold val;rw[jX h s hc]
theorem ft{β β'}{g}(h:∀i,g i=true->β i=β' i):∀l,fL g l=true->cm β l=cm β' l
 | [],_=>rfl
 | s::r,hc=>by
  simp[fL,aR]at hc;have:=ft h r hc.2;simp only[cm,bE]at this⊢;rw[ga h s hc.1,this]
theorem eu β l:(cm β l).length=l.length:=by rw[cm,bC]
def K6:aw->Option SV
 | .int k n=>some (.il k n)
 | .bool b=>some (.bl b)
 | .string s=>some (.str s)
 | .pointer none=>some .np
 | .slice none 0 0=>some .nsl
 | .map m=>some (.map m)
 | v=>if h:v.oneCell'=true then some (.raw ⟨v,h⟩)else none
def yL:List aw->Option SV
 | []=>some .e
 | v::r=>match K6 v,yL r with
  | some s,some l=>some (.c s l)
  | _,_=>none
def ofV:aw->Option SV
 | .agg cs=>(yL cs.toList).map .agg
 | .tuple cs=>(yL cs.toList).map .tup
 | .func (.func f) fs cs=>match yL fs.toList,yL cs.toList with
  | some a,some b=>some (.fn f a b)
  | _,_=>none
 | v=>K6 v
theorem wK{v}{s}(h:K6 v=some s) β:val β s=v:=by
 unfold K6 at h;split at h
 all_goals first | (simp at h;subst h;rfl) | skip
 split at h
 ·simp at h;subst h;rfl
 ·cases h
theorem pQ β:∀{l:List aw} {s:SV},yL l=some s->nt β s=l
 | [],s,h=>by simp[yL,aX]at h;subst h;rfl
 | v::r,s,h=>by
  simp[yL]at h;split at h
  ·rename_i s' l' h1 h2;simp at h;subst h;simp only[nt,pQ β h2];rw[show(nt β s').headD undef=v from wK h1 β]
  ·cases h
theorem Gr{v}{s}(h:ofV v=some s) β:val β s=v:=by
 unfold ofV at h;split at h
 ·rename_i cs;cases hl:yL cs.toList with
  | none=>rw[hl]at h;cases h
  | some l=>
   rw[hl]at h;simp at h;subst h;simp[val,nt,wA,pQ β hl]
 ·rename_i cs;cases hl:yL cs.toList with
  | none=>rw[hl]at h;cases h
  | some l=>
   rw[hl]at h;simp at h;subst h;simp[val,nt,wA,pQ β hl]
 ·split at h
  ·rename_i a b h1 h2;simp at h;subst h;simp[val,nt,wA,pQ β h1,pQ β h2]
  ·cases h
 ·exact wK h β
structure iQ where
 blk:Option Nat
 ty:TypeId
 cells:List SV
 stp:Nat
 ok:Bool
 esc:Bool
 sh:Bool
structure St where
 n:Nat
 fr:List (Nat×Nat×SV)
 bx:List iQ
 w0:av
 mv:Bool
 dt:List Nat
 ct:Nat
 df:List (Nat×List aw×List aw)
def R8(l:List (Nat×List aw×List aw)):List Deferred:=l.map fun d=>{target:=.fn (.func d.1) d.2.2.toArray,args:=d.2.1.toArray}
def Xt(n:Nat)(us:Nat->aw)(l:List (Nat×aw))(D:List Deferred):Act:=⟨(PT us l n 0).toArray,D⟩
def dh:List (Nat×Nat×SV)->Nat->Option (Nat×SV)
 | [],_=>none
 | (k,s)::r,i=>bif Nat.beq k i then some s else dh r i
def St.get(st:St)(i:Nat):Option SV:=bif Nat.blt i st.n then(dh st.fr i).map (·.2)else none
def St.ev(st:St):Operand->Option SV
 | .tmp k=>st.get k
 | .const v=>ofV v
 | .global g=>some (.ad ⟨g,0,none⟩)
 | .func f=>some (.fn f .e .e)
def St.Iv(st:St):List Operand->Option (List SV)
 | []=>some []
 | x::r=>match st.ev x,st.Iv r with
  | some v,some vs=>some (v::vs)
  | _,_=>none
def St.Pb(st:St):List (Nat×Operand)->Option (List (Nat×SV))
 | []=>some []
 | (i,x)::r=>match st.ev x,st.Pb r with
  | some v,some vs=>some ((i,v)::vs)
  | _,_=>none
def St.put(st:St)(d:Option Tmp)(v:SV):St:=match d with
 | some k=>{st with fr:=(k,st.ct,v)::st.fr,ct:=st.ct+1}
 | none=>st
def cJ:List iQ->Nat->Option iQ
 | [],_=>none
 | b::_,0=>some b
 | _::r,n+1=>cJ r n
def IY:List iQ->Nat->iQ->List iQ
 | [],_,_=>[]
 | _::r,0,b=>b::r
 | a::r,n+1,b=>a::IY r n b
def cv(β:Nat->Nat)(l:List (Nat×Nat×SV)):List (Nat×aw):=l.map fun p=>(p.1,val β p.2.2)
theorem jA β:∀l i,ve (cv β l) i=(dh l i).map fun p=>val β p.2
 | [],_=>rfl
 | (k,s)::r,i=>by
  simp[cv,bE,ve,dh];cases Nat.beq k i with
  | true=>rfl
  | false=>exact jA β r i
structure aas (β:Nat->Nat) (w0 w:av) (i:Nat) (b:iQ):Prop where
 blk:Blk w (β i) b.ty (cm β b.cells)
 at_:∀k,b.blk=some k->β i=k
 new:b.blk=none->w0.heap.size<=β i
structure Rep (β:Nat->Nat) (st:St) (a:Act) (w:av):Prop where
 fr:∃us,a=Xt st.n us (cv β st.fr) (R8 st.df)
 bx:∀i b,cJ st.bx i=some b->b.ok=true->aas β st.w0 w i b
 ne:∀i j bi bj,cJ st.bx i=some bi->cJ st.bx j=some bj->bi.ok=true->bj.ok=true->i≠j->β i≠β j
 only:Only (st.dt.map β) st.w0 w
 still:st.mv=false->w=st.w0
structure Ext (s t:St):Prop where
 n:t.n=s.n
 ct:s.ct<=t.ct
 fr:∀i k v,dh t.fr i=some (k,v)->k<s.ct->dh s.fr i=some (k,v)
 bx:∀i b',cJ t.bx i=some b'->b'.ok=true->b'.stp<s.ct->∃b,cJ s.bx i=some b/\b.ok=true/\b.cells=b'.cells/\b.ty=b'.ty/\b.stp=b'.stp/\(∀k,b.blk=some k->b'.blk=some k)
 ps:∀i b,cJ s.bx i=some b->∃b',cJ t.bx i=some b'/\b'.ty=b.ty/\b'.ok=b.ok/\∀k,b.blk=some k->b'.blk=some k
 df:∃l,t.df=l++s.df
theorem B0{s:St}:∃l,s.df=l++s.df:=⟨[],rfl⟩
theorem K7{l}:∀i b,cJ l i=some b->∃b',cJ l i=some b'/\b'.ty=b.ty/\b'.ok=b.ok/\∀k,b.blk=some k->b'.blk=some k:=fun i b h=>⟨b,h,rfl,rfl,fun _ h=>h⟩
theorem Ext.refl s:Ext s s:=⟨rfl,aV _,fun _ _ _ h _=>h,fun i b h ho _=>⟨b,h,ho,rfl,rfl,rfl,fun _ h=>h⟩,K7,B0⟩
theorem Ext.trans{s t u}(h:Ext s t)(k:Ext t u):Ext s u:=
 ⟨k.n.trans h.n,bh h.ct k.ct,fun i m v hl bQ=>h.fr i m v (k.fr i m v hl (cb bQ h.ct)) bQ,fun i b'' hb ho hs=>by
  obtain⟨b',k1,k2,k3,k4,k6,k5⟩:=k.bx i b'' hb ho (cb hs h.ct);obtain⟨b,h1,h2,h3,h4,h6,h5⟩:=h.bx i b' k1 k2 (by rw[k6];exact hs);exact⟨b,h1,h2,h3.trans k3,h4.trans k4,h6.trans k6,fun m hm=>k5 m (h5 m hm)⟩,fun i b hb=>by
  obtain⟨b',h1,h2,h3,h4⟩:=h.ps i b hb;obtain⟨b'',k1,k2,k3,k4⟩:=k.ps i b' h1;exact⟨b'',k1,k2.trans h2,k3.trans h3,fun m hm=>k4 m (h4 m hm)⟩,by
  obtain⟨l,h1⟩:=h.df;obtain⟨m,k1⟩:=k.df;exact⟨m++l,by rw[k1,h1,bF]⟩⟩
section
variable {β:Nat->Nat} {st:St} {a:Act} {w:av}
theorem Rep.get(h:Rep β st a w){i}{s}(hg:st.get i=some s):a.eval (.tmp i)=val β s:=by
 obtain⟨us,rfl⟩:=h.fr;show(Kt.fr st.n us _).eval (.tmp i)=_;refine evE (n0:=st.n) (us0:=us) ?_;unfold St.get at hg;cases hb:Nat.blt i st.n with
 | false=>rw[hb]at hg;cases hg
 | true=>
  rw[hb,lS]at hg;simp only[evO,hb,lS,jA];cases hl:dh st.fr i with
  | none=>rw[hl]at hg;cases hg
  | some p=>
   rw[hl]at hg;simp at hg;rw[fk,hg]
theorem Rep.ev(h:Rep β st a w){x}{s}(hg:st.ev x=some s):a.eval x=val β s:=by
 cases x with
 | tmp k=>exact h.get hg
 | const v=>rw[Gr hg];rfl
 | global g=>
  simp[St.ev,aX]at hg;subst hg;rfl
 | func f=>
  simp[St.ev,aX]at hg;subst hg;rfl
theorem Rep.Iv(h:Rep β st a w):∀{xs:List Operand} {l:List SV},st.Iv xs=some l->xs.map a.eval=cm β l
 | [],l,hg=>by simp[St.Iv,aX]at hg;subst hg;rfl
 | x::r,l,hg=>by
  simp[St.Iv]at hg;split at hg
  ·rename_i v vs hx hr;simp at hg;subst hg;rw[bE,h.ev hx,h.Iv hr];rfl
  ·cases hg
def zf(β:Nat->Nat)(l:List (Nat×SV)):List (Nat×aw):=l.map fun p=>(p.1,val β p.2)
theorem Rep.Pb(h:Rep β st a w):∀{xs:List _} {l:List _},st.Pb xs=some l->(xs.map fun q=>(q.1,a.eval q.2))=zf β l
 | [],l,hg=>by simp[St.Pb,aX]at hg;subst hg;rfl
 | _::r,l,hg=>by
  simp[St.Pb]at hg;split at hg
  ·rename_i v vs hx hr;simp at hg;subst hg;rw[bE,h.Pb hr,h.ev hx];rfl
  ·cases hg
theorem St.evO{st:St} β {x} {s} (hg:st.ev x=some s):Kt.evO st.n (cv β st.fr) x=some (val β s):=by
 cases x with
 | tmp i=>
  have hg:st.get i=some s:=hg;unfold St.get at hg;cases hb:Nat.blt i st.n with
  | false=>rw[hb]at hg;cases hg
  | true=>
   rw[hb,lS]at hg;simp only[Kt.evO,hb,lS,jA];cases hl:dh st.fr i with
   | none=>rw[hl]at hg;cases hg
   | some p=>
    rw[hl]at hg;simp at hg;rw[fk,hg]
 | const v=>rw[Gr hg];rfl
 | global g=>
  simp[St.ev,aX]at hg;subst hg;rfl
 | func f=>
  simp[St.ev,aX]at hg;subst hg;rfl
theorem Rep.put(h:Rep β st a w) d v:Rep β (st.put d v) (a.put d (val β v)) w:=by
 cases d with
 | none=>exact h
 | some k=>
  obtain⟨us,rfl⟩:=h.fr;exact⟨⟨us,bO (fun a:Act=>(⟨a.tmps,R8 st.df⟩:Act)) (YA (n0:=st.n) (us0:=us) (l0:=cv β st.fr) (k:=k) (v:=val β v))⟩,h.bx,h.ne,h.only,h.still⟩
theorem Ext.put st d v:Ext st (st.put d v):=by
 cases d with
 | none=>exact Ext.refl _
 | some k=>
  refine⟨rfl,fZ _,fun i m u hl bQ=>?_,fun i b h ho _=>⟨b,h,ho,rfl,rfl,rfl,fun _ h=>h⟩,K7,B0⟩;simp[St.put,dh]at hl;cases hb:Nat.beq k i with
  | true=>
   rw[hb]at hl;simp at hl;omega
  | false=>rw[hb]at hl;simpa using hl
theorem Rep.frame(h:Rep β st a w){fr'}(hs:∀i p,dh fr' i=some p->∃q,dh st.fr i=some q/\val β q.2=val β p.2):Rep β {st with fr:=fr'} a w:=by
 obtain⟨us,rfl⟩:=h.fr;refine⟨?_,h.bx,h.ne,h.only,h.still⟩;refine⟨fun i=>ra us (cv β st.fr) i,?_⟩;unfold Xt;congr 2;apply jz;intro i;by_cases hi:i<st.n
 ·rw[kw _ _ _ _ _ hi,kw _ _ _ _ _ hi,bJ];cases hl:dh fr' i with
  | none=>
   rw[Ak (l:=cv β fr') (by rw[jA,hl];rfl)]
  | some p=>
   obtain⟨q,h1,h2⟩:=hs i p hl;rw[qE (l:=cv β fr') (v:=val β p.2) (by rw[jA,hl];rfl),qE (l:=cv β st.fr) (v:=val β p.2) (by rw[jA,h1,fk,h2])]
 ·rw[dC (by rw[lw];exact oh hi),dC (by rw[lw];exact oh hi)]
end
end Go.Kt.V
