import Derived.WalkKit
import Derived.Deep.Draws
import Derived.Deep.LoopGhost
import Derived.Deep.Quiet
import Derived.OrdersHeld
import Derived.Laws.Small
import Derived.Laws.AppendOwn
import Derived.Great.BuildSlice
import Derived.Laws.MakeOwn
import Derived.MapKept
import Derived.Lib.Strings
import Derived.KernelRfl
import Derived.ChangeKeysEq
import Derived.Laws.Tables
import Derived.Defers
import Derived.Test.YtpbgcbdclnfpnaaGreatDoorRows
import Derived.Ground.Names2Prog
import Derived.Ground.SlgnProg
import Derived.Ground.SlgcProg
import Derived.Test.YtpbgcbdclnfpnaaGreatDoorProg
import Derived.Lib.ParseIntB
import Derived.Lib.Bytealg
import Derived.Lib.ItoaLen
import Derived.Lib.AtoiErrMem
import Derived.Lib.Builder
import Derived.Lib.AppendStr
import Derived.Lib.UnsafeStr
import Derived.Lib.Join
import Derived.Lib.Repeat
import Derived.WideKeyElems
import Derived.Sort.KeysCollected
import Derived.ProofKit
import Derived.OpenShut
import Derived.SizedLaws
import Derived.Deep.Slices
import Derived.JoinedCond
import Derived.Deep.CondSized
import Derived.Lib.TrailingZeros
import Derived.Laws.BitsAllLaws
import Derived.Maps.RangeRun
import Derived.Lib.SlKeysI
import Derived.Ground.GgzProg
import Derived.Ground.SlgmProg
import Derived.Ground.SlsfProg
import Derived.Lib.LaidTab
import Derived.Laws.CopyRow
import Derived.Laws.Bits128
import Derived.Laws.OwnMore
set_option linter.unusedSectionVars false
set_option linter.unusedSimpArgs false
set_option linter.unusedVariables false
theorem aG{P:Prop}(h:P:=by omega):P:=h
theorem aN{P:Prop}(h:P:=by decide):P:=h
theorem aac{P:Prop}(h:P:=by simp):P:=h
theorem aad{P:Prop}(h:P:=by rw[gx (by omega) (by omega)];rfl):P:=h
theorem aae{P:Prop}(h:P:=by simp;omega):P:=h
theorem aai{P:Prop}(h:P:=by simpa using hc):P:=h
theorem aaj{P:Prop}(h:P:=by simp only[aO]at hx;omega):P:=h
theorem aal{P:Prop}(h:P:=by cases h):P:=h
theorem aam{P:Prop}(h:P:=by simp only[aV,bp,cm]at hx;omega):P:=h
theorem aan{P:Prop}(h:P:=by simp only[aO]at hx;simp[hx]):P:=h
theorem aas{P:Prop}(h:P:=by simpa using hk):P:=h
theorem aat{P:Prop}(h:P:=by simp only[aO];omega):P:=h
theorem aau{P:Prop}(h:P:=by rintro _ w' ⟨v,rfl,⟨s,rfl,h⟩,h'⟩;exact⟨⟨s,rfl,h⟩,h'⟩):P:=h
theorem aav{P:Prop}(h:P:=by rintro _ w' ⟨v,rfl,rfl,h⟩;exact⟨rfl,h⟩):P:=h
theorem aaw{P:Prop}(h:P:=by dsimp only;omega):P:=h
theorem aaz{P:Prop}(h:P:=by simpa using hb):P:=h
theorem aaA{P:Prop}(h:P:=by simpa using h):P:=h
theorem aaB{P:Prop}(h:P:=by simp at h):P:=h
theorem aaC{P:Prop}(h:P:=by dsimp only;decide):P:=h
theorem aaE{P:Prop}(h:P:=by rw[aW,bK];omega):P:=h
theorem aaT{P:Prop}(h:P:=by rintro _ w' ⟨v,rfl,⟨t,rfl,h⟩,h'⟩;exact⟨⟨t,rfl,h⟩,h'⟩):P:=h
theorem aaZ{P:Prop}(h:P:=by have:=h.hG k hk;simp only[aO]at hm;omega):P:=h
theorem aa3{P:Prop}(h:P:=by simpa using hx):P:=h
theorem aa5{P:Prop}(h:P:=by have:=lz e;omega):P:=h
theorem aa8{P:Prop}(h:P:=by simp at hx;simp[hx]):P:=h
theorem abp{P:Prop}(h:P:=by have:=aP hc;omega):P:=h
theorem aby{P:Prop}(h:P:=by have:=aX hc;omega):P:=h
theorem abz{P:Prop}(h:P:=by simpa using hm):P:=h
theorem abA{P:Prop}(h:P:=by rw[aW];omega):P:=h
theorem abB{P:Prop}(h:P:=by simpa using h1):P:=h
theorem abQ{P:Prop}(h:P:=by rw[dP];omega):P:=h
theorem abS{P:Prop}(h:P:=by simp only[aV,bp,cm]at hx⊢;omega):P:=h
theorem abX{P:Prop}(h:P:=by rintro _ w' ⟨v,rfl,t,rfl,h⟩;exact⟨t,rfl,h⟩):P:=h
theorem ab4{P:Prop}(h:P:=by rw[bA];omega):P:=h
theorem acf{P:Prop}(h:P:=by rw[<-e];exact hk):P:=h
theorem acq{P:Prop}(h:P:=by rintro _ w' ⟨c,rfl,rfl,h⟩;exact⟨rfl,h⟩):P:=h
theorem acD{P:Prop}(h:P:=by have:=(hS.blk e).2;dsimp only at this;omega):P:=h
theorem acE{P:Prop}(h:P:=by obtain⟨z,_,rfl⟩:=cQ.1 hc;rfl):P:=h
theorem acH{P:Prop}(h:P:=by simpa using hn):P:=h
theorem acI{P:Prop}(h:P:=by simp only[aO]at hk;omega):P:=h
theorem acJ{P:Prop}(h:P:=by have:=(h.hF k vh).1;have:=hO.size;omega):P:=h
theorem acK{P:Prop}(h:P:=by rw[hy]at ha;simpa[qp]using ha):P:=h
theorem acL{P:Prop}(h:P:=by rintro(h | ⟨h,_⟩)<;>omega):P:=h
theorem acM{P:Prop}(h:P:=by simpa using h2):P:=h
theorem acN{P:Prop}(h:P:=by rw[show ar #[59]=T [59]from rfl,lM]):P:=h
theorem acO{P:Prop}(h:P:=by rw[jX]at hi;simpa using hi):P:=h
theorem acP{P:Prop}(h:P:=by unfold V at h;exact h.elim):P:=h
theorem acQ{P:Prop}(h:P:=by simpa using he):P:=h
theorem acR{P:Prop}(h:P:=by simpa using hi):P:=h
theorem acS{P:Prop}(h:P:=by simpa using hf):P:=h
theorem acT{P:Prop}(h:P:=by rw[bE,aQ iA];rfl):P:=h
theorem acU{P:Prop}(h:P:=by have:=(sH x hx).1;omega):P:=h
theorem acV{P:Prop}(h:P:=by rw[bO,bM (aZ.1 hj).1];exact hj):P:=h
theorem acW{P:Prop}(h:P:=by unfold fU;exact bI (by omega)):P:=h
theorem acX{P:Prop}(h:P:=by grind):P:=h
theorem acY{P:Prop}(h:P:=by rw[fE];exact ba _):P:=h
theorem acZ{P:Prop}(h:P:=by rw[<-hm];exact hk):P:=h
theorem ac6{P:Prop}(h:P:=by simpa using hj):P:=h
theorem ac7{P:Prop}(h:P:=by unfold iw;split<;>rfl):P:=h
theorem ac9{P:Prop}(h:P:=by rw[cJ];omega):P:=h
theorem adi{P:Prop}(h:P:=by simpa using hh):P:=h
theorem adj{P:Prop}(h:P:=by rintro⟨_,h⟩;omega):P:=h
theorem adl{P:Prop}(h:P:=by rw[aO]at hz;rw[hz];exact Jg):P:=h
theorem adv{P:Prop}(h:P:=by simpa using hk.2):P:=h
theorem adD{P:Prop}(h:P:=by have:=hk.2;omega):P:=h
theorem adK{P:Prop}(h:P:=by cases hx):P:=h
theorem adO{P:Prop}(h:P:=by rw[jX]at ho;simpa using ho):P:=h
theorem adP{P:Prop}(h:P:=by simp[Op.equalIn,hu]):P:=h
theorem adS{P:Prop}(h:P:=by simp at hk;simp[hk]):P:=h
theorem adU{P:Prop}(h:P:=by simp[Program.plainKey,hu]):P:=h
theorem adV{P:Prop}(h:P:=by rw[bO];exact hj):P:=h
theorem adW{P:Prop}(h:P:=by have:=(h.hF k vh).1;omega):P:=h
theorem adX{P:Prop}(h:P:=by rw[kF];omega):P:=h
theorem adY{P:Prop}(h:P:=by have:=xd g hg;simp;omega):P:=h
theorem ad1{P:Prop}(h:P:=by rw[cZ];omega):P:=h
theorem ad2{P:Prop}(h:P:=by simpa using hr):P:=h
theorem aea{P:Prop}(h:P:=by simpa using h4):P:=h
theorem aec{P:Prop}(h:P:=by have:=(xn.lt e).1;omega):P:=h
theorem aed{P:Prop}(h:P:=by unfold mu;split<;>omega):P:=h
theorem aee{P:Prop}(h:P:=by rw[hy];simp):P:=h
theorem aej{P:Prop}(h:P:=by rw[cZ,bO];exact rW _ _):P:=h
theorem aen{P:Prop}(h:P:=by rw[lc,hl];rfl):P:=h
theorem aet{P:Prop}(h:P:=by rw[hh];decide):P:=h
theorem aev{P:Prop}(h:P:=by simp[hx]):P:=h
theorem aew{P:Prop}(h:P:=by have:=E8 x;omega):P:=h
theorem aex{P:Prop}(h:P:=by have:=zz.br _ e;omega):P:=h
theorem aey{P:Prop}(h:P:=by rw[h0]at hr;cases hr):P:=h
theorem aez{P:Prop}(h:P:=by rw[hb]at hh;cases hh):P:=h
theorem aeA{P:Prop}(h:P:=by rw[hy];simp[uC]):P:=h
theorem aeB{P:Prop}(h:P:=by rw[hy];rfl):P:=h
theorem aeC{P:Prop}(h:P:=by simpa using hv):P:=h
theorem aeD{P:Prop}(h:P:=by simpa using hl):P:=h
theorem aeE{P:Prop}(h:P:=by cases hb):P:=h
theorem aeF{P:Prop}(h:P:=by cases e):P:=h
theorem aeG{P:Prop}(h:P:=by simpa using zY):P:=h
theorem aeH{P:Prop}(h:P:=by simpa using oh):P:=h
theorem aeI{P:Prop}(h:P:=by simp[Addr.add]):P:=h
theorem aeJ{P:Prop}(h:P:=by simpa using hp):P:=h
theorem aeK{P:Prop}(h:P:=by rw[ch,hx];rfl):P:=h
theorem aeL{P:Prop}(h:P:=by rw[hsz];omega):P:=h
theorem aeM{P:Prop}(h:P:=by rw[hw];decide):P:=h
theorem aeN{P:Prop}(h:P:=by rw[bE,a2];rfl):P:=h
theorem aeO{P:Prop}(h:P:=by cases hk):P:=h
theorem aeP{P:Prop}(h:P:=by simp[h1]):P:=h
set_option linter.defProp false
def aO:=@List.mem_singleton
def aP:=@of_decide_eq_true
def aQ:=@List.getElem?_eq_getElem
def aR:=@Bool.and_eq_true
def aU:=@Int.toNat_natCast
def aV:=@List.mem_cons
def aW:=@List.length_append
def aX:=@of_decide_eq_false
def aY:=@if_neg
def aZ:=@List.getElem?_eq_some_iff
def ba:=@Nat.le_refl
def bc:=@if_pos
def be:=@Option.some.injEq
def bf:=@Nat.le_trans
def bh:=@Nat.zero_le
def bm:=@congrArg
def bn:=@List.length_cons
def bp:=@List.not_mem_nil
def bq:=@List.take_of_length_le
def bA:=@List.length_map
def bB:=@List.mem_of_getElem?
def bD:=@Int.natCast_nonneg
def bE:=@List.take_add_one
def bH:=@List.map_cons
def bI:=@decide_eq_false
def bJ:=@decide_eq_true
def bK:=@List.length_singleton
def bL:=@decide_eq_true_eq
def bM:=@List.getElem?_append_left
def bN:=@List.mem_append
def bO:=@Nat.zero_add
def bP:=@List.append_assoc
def bQ:=@List.append_nil
def bR:=@List.eq_nil_of_length_eq_zero
def bU:=@Bool.or_eq_true
def bW:=@Bool.eq_iff_iff
def bX:=@decide_eq_true_iff
def bZ:=@List.getElem?_append_right
def cd:=@Nat.eq_of_beq_eq_true
def ch:=@List.getElem?_map
def cm:=@or_false
def cp:=@List.cons_append
def cq:=@Nat.lt_of_lt_of_le
def cu:=@List.length_filter_le
def cy:=@Decidable.byContradiction
def cE:=@List.sum_cons
def cF:=@List.nil_append
def cH:=@Nat.le_of_ble_eq_true
def cJ:=@List.length_take
def cN:=@List.getElem?_eq_none
def cP:=@List.length_drop
def cQ:=@List.mem_map
def cR:=@List.getElem?_cons_zero
def cT:=@Bool.true_and
def cZ:=@List.length_nil
def da:=@Bool.not_eq_true'
def de:=@List.take_zero
def dh:=@List.map_append
def di:=@List.mem_filter
def dj:=@List.mem_cons_of_mem
def dl:=@List.take_append_drop
def dq:=@beq_iff_eq
def du:=@List.getElem?_cons_succ
def dv:=@decide_eq_false_iff_not
def dy:=@List.flatten_cons
def dB:=@List.pairwise_iff_getElem
def dF:=@List.all_eq_true
def dG:=@List.pairwise_cons
def dH:=@Option.map_some
def dS:=@List.append_eq_nil_iff
def dU:=@Option.isSome_iff_exists
def dY:=@List.mem_flatMap
def dZ:=@List.getElem_mem
def eu:=@Bool.eq_false_iff
def eB:=@List.mem_cons_self
def eC:=@List.filter_append
def eE:=@Nat.add_sub_cancel_left
def eF:=@List.take_succ_cons
def eI:=@List.filter_nil
def eK:=@List.size_toArray
def eM:=@Nat.add_mul
def eN:=@Bool.false_and
def eV:=@List.takeWhile_cons
def eY:=@Nat.add_assoc
def fh:=@List.getElem?_of_mem
def fm:=@Array.getElem?_eq_none
def fx:=@List.drop_zero
def fz:=@List.any_eq_true
def fA:=@Array.length_toList
def fE:=@List.length_range
def fJ:=@Nat.add_zero
def fM:=@List.drop_eq_getElem_cons
def fO:=@List.flatMap_append
def fT:=@List.length_replicate
def fV:=@List.map_nil
def ga:=@decide_eq_decide
def gf:=@List.pairwise_append
def gr:=@Array.getElem?_eq_some_iff
def gu:=@List.ext_getElem?
def gv:=@Option.map_eq_some_iff
def gy:=@List.drop_succ_cons
def gz:=@List.length_pos_iff
def gK:=@Array.getElem?_setIfInBounds_ne
def gL:=@Classical.byContradiction
def gM:=@List.exists_mem_of_ne_nil
def gQ:=@Array.getElem?_modify
def ii:=@Bool.or_eq_false_iff
def iB:=@List.length_set
def iC:=@List.foldl_cons
def iG:=@List.toList_toArray
def iK:=@List.map_map
def iL:=@List.sum_nil
def iM:=@Nat.le_succ
def jb:=@List.mem_range
def jc:=@List.getElem?_drop
def je:=@List.getElem?_toArray
def ju:=@List.getElem?_zip_eq_some
def jw:=@Except.ok.injEq
def jD:=@Nat.mul_le_mul_right
def jE:=@Nat.add_comm
def jP:=@Prod.mk.injEq
def jV:=@Int.toNat_of_nonneg
def jW:=@List.getElem_of_mem
def ka:=@if_false
def kb:=@Option.getD_some
def kl:=@Nat.mul_one
def kq:=@Int.le_refl
def kB:=@Bool.false_eq_true
def kD:=@Nat.sub_zero
def kE:=@Bool.not_not
def kV:=@List.nodup_cons
def kZ:=@List.foldl_append
def lA:=@List.elem_cons
def lC:=@Nat.add_le_add
def lK:=@Nat.pow_le_pow_right
def my:=@cond_true
def mz:=@List.filter_cons
def nA:=@Bool.false_or
def nB:=@Bool.and_true
def nC:=@List.map_take
def nD:=@Bool.eq_false_or_eq_true
def oc:=@Option.toList_some
def od:=@List.ne_nil_of_mem
def ol:=@List.length_eq_zero_iff
def oS:=@List.drop_eq_nil_of_le
def oT:=@getElem!_pos
def oU:=@List.getElem?_set_self
def oV:=@List.drop_drop
def oW:=@List.drop_of_length_le
def oX:=@Nat.le_of_eq
def oY:=@List.pairwise_map
def oZ:=@or_congr_right
def pc:=@List.getElem_take
def pX:=@List.take_eq_take_iff
def pY:=@List.contains_iff_mem
def qV:=@Nat.le_of_not_lt
def qW:=@Bool.not_eq_true
def qX:=@List.eq_nil_iff_forall_not_mem
def qY:=@List.take_length
def ra:=@List.map_drop
def sK:=@List.cons.injEq
def sL:=@List.map_congr_left
def sM:=@List.mergeSort_perm
def tZ:=@exists_congr
def uL:=@cond_false
def vN:=@Ne.symm
def vO:=@List.flatMap_cons
def vP:=@Nat.lt_succ_of_le
def xp:=@List.getElem?_take_of_lt
def yy:=@Option.bind_some
def yz:=@List.pairwise_singleton
def yA:=@Nat.zero_testBit
def yB:=@List.countP_cons_of_pos
def yC:=@List.mem_reverse
def zC:=@if_true
def zD:=@Nat.zero_mul
def zE:=@Iff.rfl
def Aa:=@Option.map_none
def Ab:=@List.headD_cons
def Ad:=@Option.some.inj
def Ae:=@List.all_append
def Ck:=@List.set_append_right
def CR:=@List.take_left
def CS:=@Bool.and_assoc
def CT:=@List.getElem?_set_ne
def CU:=@List.mem_append_left
def CV:=@Nat.mul_le_mul
def Gc:=@Nat.mul_le_mul_left
def Gf:=@List.flatten_append
def Gh:=@List.take_set_of_le
def Gi:=@List.drop_set_of_lt
def Gj:=@List.filter_eq_self
def Gy:=@Int.ofNat.inj
def Gz:=@Nat.mul_assoc
def I0:=@Bool.not_eq_false'
def I1:=@Nat.lt_or_gt_of_ne
def I2:=@List.mem_replicate
def Jh:=@List.exists_of_findSome?_eq_some
def K5:=@List.getElem?_set
def K6:=@Bool.or_true
def K7:=@Nat.sub_self
def P7:=@Array.toList_inj
def P8:=@Nat.le_max_right
def P9:=@Nat.succ_le_succ
def Qa:=@Nat.lt_succ_self
def Qb:=@Nat.lt_of_not_le
def Qc:=@List.countP_cons
def Qd:=@List.map_id
def QM:=@List.take_append_of_le_length
def QN:=@List.mem_eraseIdx_iff_getElem
def Vf:=@UInt8.toNat_inj
def Vg:=@Nat.le_max_left
def Vh:=@List.any_append
def Vi:=@List.of_mem_zip
def VO:=@List.take_length_add_append
def VP:=@List.drop_length_add_append
abbrev aBu(w v:Go.World)(k:Nat)(p:Prop):Prop:=w.heap.size<=k->k<v.heap.size->p
abbrev aI:=Go.Value->Go.World->Prop
abbrev aJ:=List UInt8
abbrev aK:=List Go.Value
abbrev aL:=Nat->Prop
abbrev aM:=ByteArray
namespace Go.Kt
open Go renaming World->ay,Value->az
open Go Go.RowKit
structure Sl where
 a:Option Addr
 n:Nat
 c:Nat
@[reducible] def Sl.v(s:Sl):az:=.slice s.a s.n s.c
@[reducible] def Sl.nil:Sl:=⟨none,0,0⟩
def Sl.cut(s:Sl)(l h m size:Nat):Sl:=⟨if m=l then s.a else s.a.map (·.add (l*size)),h-l,m-l⟩
def dE(s:Sl)(i:Int)(size:Nat)(ad:Addr):Prop:=∃base,s.a=some base/\0<=i/\i<s.n/\ad=base.add (i.toNat*size)
structure Only (bs:List Nat) (w w':ay):Prop where
 os:w'.os=w.os
 tape:w'.tape=w.tape
 output:w'.output=w.output
 size:w.heap.size<=w'.heap.size
 block:∀k,k<w.heap.size->k∉bs->w'.heap[k]? =w.heap[k]?
def Blk(w:ay)(b:Nat)(t:TypeId)(cs:List az):Prop:=w.heap[b]? =some (.cells cs.toArray t (0,0))
def Cells(w:ay)(a:Addr)(cs:List az):Prop:=∀j v,cs[j]? =some v->w.cell? (a.add j)=some v
def ci(bs:List Nat)(w w':ay):Prop:=∀b,b∈bs->w'.heap[b]? =w.heap[b]?
def gw(b:UInt8):az:=.int .u8 b.toNat
def Af(w:ay)(s:Sl)(l:List UInt8):Prop:=s.n=l.length/\(l≠[]->∃ad,s.a=some ad/\Cells w ad (l.map gw))
def Sl.blk(s:Sl):Nat:=match s.a with | some a=>a.block | none=>0
def cz(cs:List az)(o:Nat)(vs:List az):List az:=cs.take o++vs++cs.drop (o+vs.length)
section
variable {w w' tT:ay} {bs bs':List Nat} {b:Nat} {t:TypeId} {cs:List az}
theorem Blk.lt(h:Blk w b t cs):b<w.heap.size:=(gr.1 h).1
theorem Only.refl bs w:Only bs w w:=⟨rfl,rfl,rfl,ba _,λ_ _ _=>rfl⟩
theorem Only.weaken(h:Only bs w w')(hb:∀x,x∈bs->x∈bs'∨w.heap.size<=x):Only bs' w w':=
 ⟨h.os,h.tape,h.output,h.size,λk hk hn=>h.block k hk λhm=>acX⟩
theorem Only.trans(h:Only bs w w')(k:Only bs' w' tT)(hb:∀x,x∈bs'->x∈bs∨w.heap.size<=x):Only bs w tT:=
 ⟨k.os.trans h.os,k.tape.trans h.tape,k.output.trans h.output,bf h.size k.size,λi hi hn=>
  (k.block i (cq hi h.size) λhm=>acX).trans (h.block i hi hn)⟩
theorem Only.cr(h:Only bs w w')(k:Only [] w' tT):Only bs w tT:=h.trans k aac
theorem Only.cons(h:Only bs w w')(k:Only [b] w' tT):Only (b::bs) w tT:=
 (h.weaken (bs':=b::bs) λ_ hx=>.inl (dj _ hx)).trans k λx hx=>.inl acX
theorem Only.mem(h:Only bs w w')(k:Only [b] w' tT)(hb:b∈bs):Only bs w tT:=h.trans k λx hx=>.inl acX
theorem Only.new(h:Only bs w w')(k:Only [b] w' tT)(hb:w.heap.size<=b):Only bs w tT:=h.trans k λx hx=>.inr acX
theorem Only.blk(h:Only bs w w')(hb:Blk w b t cs)(hn:b∉bs):Blk w' b t cs:=(h.block b hb.lt hn).trans hb
theorem Only.below(h:Only bs w w'){B}(hB:B<=w.heap.size)(hb:∀x,x∈bs->B<=x):Below B w w':=
 ⟨h.os,h.tape,h.output,h.size,λk hk=>h.block k aG λhm=>by have:=hb k hm;omega⟩
theorem Only.oH(h:Below w.heap.size w w'):Only [] w w':=⟨h.os,h.tape,h.output,h.size,λk hk _=>h.block k hk⟩
theorem Only.T5{row}(h:w.grownBy w' row):Only row.toList w w':=⟨h.os,h.tape,h.output,h.size,λk hk hn=>h.block k hk λe=>hn (by simp[<-e])⟩
theorem Only.drew w:Only [] w w.drew:=⟨rfl,rfl,rfl,ba _,λ_ _ _=>rfl⟩
theorem Only.drewN w n:Only [] w (w.drewN n):=⟨rfl,rfl,rfl,ba _,λ_ _ _=>rfl⟩
theorem Only.alloc w o:Only [] w (w.alloc o):=⟨rfl,rfl,rfl,aac,λk hk _=>_root_.Go.heap_alloc_old w o hk⟩
theorem Only.setRow w b cs:Only [b] w (w.setRow b cs):=⟨rfl,rfl,rfl,aac,λk _ hn=>setRow_other w b k cs acH⟩
theorem Only.same(h:Only bs w w')(hl:∀x,x∈bs'->x<w.heap.size/\x∉bs):ci bs' w w':=λx hx=>h.block x (hl x hx).1 (hl x hx).2
theorem ci.blk(h:ci bs w w')(hb:Blk w b t cs)(hm:b∈bs):Blk w' b t cs:=(h b hm).trans hb
theorem Blk.alloc(w:ay) t cs:Blk (w.alloc (.cells cs.toArray t)) w.heap.size t cs:=heap_alloc_new w _
theorem Blk.setRow(h:Blk w b t cs) cs':Blk (w.setRow b cs'.toArray) b t cs':=setRow_heap w b _ _ t _ h
theorem Blk.cell(h:Blk w b t cs) i:w.cell? ⟨b,i,none⟩=cs[i]? :=by rw[cell_of_row w b i cs.toArray t _ h];simp
theorem Blk.cells(h:Blk w b t cs) o vs (hv:∀j v,vs[j]? =some v->cs[o+j]? =some v):Cells w ⟨b,o,none⟩ vs:=λj v hj=>by
 have aon:(⟨b,o,none⟩:Addr).add j=⟨b,o+j,none⟩:=by unfold Addr.add<;>simp_all
 rw[aon,h.cell];exact hv j v hj
theorem Blk.FL(h:Blk w b t cs) o vs (hv:(cs.drop o).take vs.length=vs):Cells w ⟨b,o,none⟩ vs:=h.cells o vs λj v hj=>acX
theorem Cells.one{a}{v}(h:Cells w a [v]):w.cell? a=some v:=by have:=h 0 v rfl;simpa[Addr.add]using this
theorem Cells.keep{a}(h:Cells w a cs)(hk:w'.heap[a.block]? =w.heap[a.block]?):Cells w' a cs:=λj v hj=>by
 rw[World.cell?_of_block (w:=w) _ (a:=a.add j)]
 ·exact h j v hj
 have:(a.add j).block=a.block:=by unfold Addr.add;split<;>rfl
 rw[this,hk]
theorem Cells.lt'{a}(h:Cells w a cs)(hc:cs≠[]):a.block<w.heap.size:=by
 cases cs with
 | nil=>exact absurd rfl hc
 | cons v cs=>
  have h2:=block_lt_of_cell (h 0 v rfl);have e:(a.add 0).block=a.block:=rfl;omega
theorem Cells.lt{a}{v}(h:Cells w a (v::cs)):a.block<w.heap.size:=by
 have:=h 0 v rfl;have h2:=block_lt_of_cell this;have e:(a.add 0).block=a.block:=rfl;omega
end
section
variable {P:Program} {ops:Array Oper} {Q:Exit->Act->ay->Prop} {rest:List Oper} {a a':Act} {w w':ay}
theorem f0(l:List az) ds (k:Nat) v:Act.put ⟨l.toArray,ds⟩ (some k) v=⟨(l.set k v).toArray,ds⟩:=by simp[Act.put]
theorem f1 x l (v:az):(x::l).set 0 v=v::l:=rfl
theorem f3(a:Act) v:a.put none v=a:=rfl
theorem f2 x l k (v:az):(x::l).set (k+1) v=x::l.set k v:=rfl
def gR:List Oper->Nat->Option Oper
 | [],_=>none
 | v::_,0=>some v
 | _::r,n+1=>gR r n
theorem jX:∀l n,gR l n=l[n]?
 | [],_=>rfl
 | _::_,0=>rfl
 | _::r,n+1=>jX r n
def aaG:List az->Nat->Option az
 | [],_=>none
 | v::_,0=>some v
 | _::r,n+1=>aaG r n
theorem K8:∀l n,aaG l n=l[n]?
 | [],_=>rfl
 | _::_,0=>rfl
 | _::r,n+1=>K8 r n
theorem wt{o oj}{eP}{l}{ds}{j d:Nat}{want b r}(h1:o.guard=some (j,want))(h2:gR eP j=some oj)(h3:oj.dst=some d)
  (h4:aaG l d=some (.bool b)) (h5:(b==want)=r):Region.wanted o (yielded eP.toArray (⟨l.toArray,ds⟩:Act).tmps)=r:=by
 subst h5;rw[jX]at h2;rw[K8]at h4;have e:yielded eP.toArray (⟨l.toArray,ds⟩:Act).tmps j=some b:=by simp[yielded,h2,h3,h4]
 simp only[Region.wanted,h1,e];rfl
theorem wn{o}{f}(h:o.guard=none):Region.wanted o f=true:=by simp[Region.wanted,h]
theorem Ag{o} v (hg:Region.wanted o (yielded ops a.tmps)=true)
  (hr:(execOp a.eval o).run P w=.ok (.value v) w') (ha:a.put o.dst v=a') (h:wpList P ops Q rest a' w'):wpList P ops Q (o::rest) a w:=by
 subst ha;unfold wpList;rw[bc hg];refine .inl ?_;unfold Oper.wp;rw[hr];exact h
theorem QO{o}(hg:Region.wanted o (yielded ops a.tmps)=false)(ha:a.put o.dst undef=a')(h:wpList P ops Q rest a' w):wpList P ops Q (o::rest) a w:=by
 subst ha;unfold wpList;simp_all
theorem aaH k J:∀{l:List Oper} {Q:Exit->Act->ay->Prop} {a:Act} {w:ay},wpList P ops (Exit.then J Q) (l.take k) a w->(∀a w,J a w->wpList P ops Q (l.drop k) a w)->wpList P ops Q l a w:=by
 induction k with
 | zero=>intro l Q a w h1 h2;exact h2 _ _ h1
 | succ k ih=>
  intro l Q a w h1 h2;cases l with
  | nil=>exact h2 _ _ h1
  | cons o l=>
   simp at h1 h2;unfold wpList at h1⊢;split at h1
   ·rename_i hg;rw[bc hg];refine h1.imp (λh=>?_) (λh=>⟨h.1,?_⟩)
    ·have h':=Oper.wp_mono (λa w hh=>ih hh h2) h;unfold Oper.wp at h'⊢;generalize (execOp a.eval o).run P w=r at h'⊢;cases r with
     | ok n w'=>
      cases n<;>first | exact h' | exact Calls.mono h' λe tT he=>rfl
     | halt x w'=>cases x<;>exact h'
    obtain⟨a',w',ho⟩:=h.2;exact⟨a',w',ho⟩
   grind
theorem zF{dst}{ty}{x}{t'}{p}{af}{g}{ad}{v}
  (FT:(isAgg ty).run P w=.ok false w) (hx:a.eval x=.pointer (some ad)) (hc:w.cell? ad=some v):
  (execOp a.eval ⟨dst,.load ty x,t',p,af,g⟩).run P w=.ok (.value v) w:=by
 simp[execOp,hx,Instr.loadAt,Instr.sureAddr,Sem.run_bind,Sem.run_pure,Result.andThen_ok,loadVar,FT,kB,ka,run_load,hc]
theorem ua{dst}{ty}{x}{t'}{p}{af}{g}{ad}{cs}{n}
  (FT:(isAgg ty).run P w=.ok true w) (hsz:(sizeOf ty).run P w=.ok n w) (hn:cs.length=n) (hx:a.eval x=.pointer (some ad)) (hc:Cells w ad cs):
  (execOp a.eval ⟨dst,.load ty x,t',p,af,g⟩).run P w=.ok (.value (.agg cs.toArray)) w:=by
 have hl:=run_loadCells_list (P:=P) w ad cs hc;rw[hn]at hl;simp[execOp,hx,Instr.loadAt,Instr.sureAddr,Sem.run_bind,Sem.run_pure,Result.andThen_ok,loadVar,FT,zC,hsz,hl]
theorem VQ{dst}{ty}{x y}{t'}{p}{af}{g}{b o}{cs vs}{et}{n}
  (hsz:(sizeOf ty).run P w=.ok n w) (hx:a.eval x=.pointer (some ⟨b,o,none⟩)) (hv:(a.eval y).cells=vs.toArray) (hn:vs.length=n)
  (h1:∀v∈vs,v.oneCell'=true) (hb:Blk w b et cs) (FU:o+vs.length<=cs.length):
  (execOp a.eval ⟨dst,.store ty x y,t',p,af,g⟩).run P w=.ok .skip (w.setRow b (cz cs o vs).toArray):=by
 simp[execOp,hx,Instr.storeAt,Instr.sureAddr,Sem.run_bind,Sem.run_pure,Result.andThen_ok,storeVar,hsz,hv,eK,hn,ne_eq,not_true_eq_false,ka,run_storeCells_at P b o et vs 0 cs.toArray w hb aG h1,cz]
theorem VR{dst}{ty}{t'}{p}{af}{g}{z}{zs:List az}
  (hz:(zeroValue ty).run P w=.ok z w) (hc:z.cells=zs.toArray):
  (execOp a.eval ⟨dst,.alloc ty,t',p,af,g⟩).run P w=.ok (.value (.pointer (some ⟨w.heap.size,0,none⟩))) (w.alloc (.cells zs.toArray ty)):=by
 simp only[execOp,Instr.alloc,Sem.run_bind,hz,Result.andThen_ok,newVar,hc];rfl
theorem afn{dst}{ty}{x}{t'}{p}{af}{g}{zs:List az}
  (hc:(a.eval x).cells=zs.toArray):
  (execOp a.eval ⟨dst,.box ty x,t',p,af,g⟩).run P w=.ok (.value (.pointer (some ⟨w.heap.size,0,none⟩))) (w.alloc (.cells zs.toArray ty)):=by
 simp only[execOp,Instr.box,newVar,hc];rfl
theorem QP{dst}{x}{t'}{p}{af}{g}{ad}(hx:a.eval x=.pointer (some ad)):
  (execOp a.eval ⟨dst,.nilCheck x,t',p,af,g⟩).run P w=.ok (.value (.pointer (some ad))) w:=by
 simp[execOp,hx]
theorem K9{dst}{s}{x}{k}{t'}{p}{af}{g}{ad FV}{fs}{f}{n}
  (hu:(underlying s).run P w=.ok (.struct fs) w) (hf:fs[k]? =some f) (hsz:(sizeOf f.type).run P w=.ok (n+1) w) (hx:a.eval x=.pointer (some ad)) (he:ad.add f.offset=FV):
  (execOp a.eval ⟨dst,.fieldAddr s x k,t',p,af,g⟩).run P w=.ok (.value (.pointer (some FV))) w:=by
 subst he;simp[execOp,hx,Instr.fieldAt,Instr.sureAddr,hu,hf,fieldPlace,hsz]
theorem Lc{dst}{c x y}{t'}{p}{af}{g}{v}(hc:a.eval c=.bool true)(hv:a.eval x=v):
  (execOp a.eval ⟨dst,.pick c x y,t',p,af,g⟩).run P w=.ok (.value v) w:=by
 subst hv;simp[execOp,hc,asBool]
theorem Ld{dst}{c x y}{t'}{p}{af}{g}{v}(hc:a.eval c=.bool false)(hv:a.eval y=v):
  (execOp a.eval ⟨dst,.pick c x y,t',p,af,g⟩).run P w=.ok (.value v) w:=by
 subst hv;simp[execOp,hc,asBool]
theorem VS{dst}{t}{ps:List _}{t'}{p}{af}{g}{ps'}{v}
  (hp:(ps.map λq=>(q.1,a.eval q.2))=ps') (hr:(Instr.build t ps'.toArray).run P w=.ok v w):
  (execOp a.eval ⟨dst,.build t ps.toArray,t',p,af,g⟩).run P w=.ok (.value v) w:=by
 subst hp;simp[execOp,hr]
theorem GA{dst}{t e}{x i}{t'}{p}{af}{g}{s}{k}{n}{ad}{sz}
  (hu:(underlying t).run P w=.ok (.slice e) w) (hsz:(sizeOf e).run P w=.ok sz w) (hx:a.eval x=s.v) (hi:a.eval i=.int k n) (XZ:dE s n sz ad):
  (execOp a.eval ⟨dst,.indexAddr t x i,t',p,af,g⟩).run P w=.ok (.value (.pointer (some ad))) w:=by
 obtain⟨base,hb,h0,h1,rfl⟩:=XZ;simp[execOp,hx,hi,Instr.indexAt,asIntOf,hu,hsz,hb,h0,h1]
theorem vQ{dst:Option Tmp}{t e:TypeId}{x i:Operand}{t'}{p}{af}{g}{len}{k}{n}{ad FV}{sz}
  (hu:(underlying t).run P w=.ok (.array len e) w) (hsz:(sizeOf e).run P w=.ok sz w) (hx:a.eval x=.pointer (some ad)) (hi:a.eval i=.int k n) (h0:0<=n) (h1:n<len) (he:ad.add (n.toNat*sz)=FV):
  (execOp a.eval ⟨dst,.indexAddr t x i,t',p,af,g⟩).run P w=.ok (.value (.pointer (some FV))) w:=by
 subst he;simp[execOp,hx,hi,Instr.indexAt,asIntOf,hu,hsz,h0,h1,Instr.sureAddr]
theorem lS{b}{s}{dst}{xs:List Operand}{ts}{t'}{p}{af}{g}{v}
  (hb:∀acC,builtin b ts t' acC (xs.map a.eval).toArray=(do pure (.value (<-s)))) (hr:s.run P w=.ok v w'):
  (execOp a.eval ⟨dst,.call ⟨.builtin b,xs.toArray,ts⟩,t',p,af,g⟩).run P w=.ok (.value v) w':=by
 simp[execOp,resolve,invoke,List.map_toArray];simp_all
theorem xy{dst}{xs:List Operand}{ts}{t'}{p}{af}{g}{v}{vs}(hx:xs.map a.eval=vs)
  (hr:(Builtin.append_ ts t' vs.toArray).run P w=.ok v w'):(execOp a.eval ⟨dst,.call ⟨.builtin .append,xs.toArray,ts⟩,t',p,af,g⟩).run P w=.ok (.value v) w':=by
 subst hx;exact lS (λ_=>rfl) hr
theorem Ah{dst}{xs:List Operand}{ts}{t'}{p}{af}{g}{v}{vs}(hx:xs.map a.eval=vs)
  (hr:(Builtin.copy_ ts t' vs.toArray).run P w=.ok v w'):(execOp a.eval ⟨dst,.call ⟨.builtin .copy,xs.toArray,ts⟩,t',p,af,g⟩).run P w=.ok (.value v) w':=by
 subst hx;exact lS (λ_=>rfl) hr
theorem xz{dst}{xs:List Operand}{ts}{t'}{p}{af}{g}{v}{vs}(hx:xs.map a.eval=vs)
  (hr:(Builtin.delete_ ts t' vs.toArray).run P w=.ok v w'):(execOp a.eval ⟨dst,.call ⟨.builtin .delete,xs.toArray,ts⟩,t',p,af,g⟩).run P w=.ok (.value v) w':=by
 subst hx;exact lS (λ_=>rfl) hr
theorem yY{dst}{xs:List Operand}{ts}{t'}{p}{af}{g}{v}{vs}(hx:xs.map a.eval=vs)
  (hr:(Builtin.clear_ ts t' vs.toArray).run P w=.ok v w'):(execOp a.eval ⟨dst,.call ⟨.builtin .clear,xs.toArray,ts⟩,t',p,af,g⟩).run P w=.ok (.value v) w':=by
 subst hx;exact lS (λ_=>rfl) hr
theorem Cu{dst}{xs:List Operand}{ts}{t'}{p}{af}{g}{v}{vs}(hx:xs.map a.eval=vs)
  (hr:(Builtin.len_ ts t' vs.toArray).run P w=.ok v w'):(execOp a.eval ⟨dst,.call ⟨.builtin .len,xs.toArray,ts⟩,t',p,af,g⟩).run P w=.ok (.value v) w':=by
 subst hx;exact lS (λ_=>rfl) hr
section
variable {dst:Option Tmp} {x y z:Operand} {t t2:TypeId} {t':TypeId} {p:String} {af:Array Edge} {g:Option (Nat×Bool)} {u v vx vy vz:az}
theorem D5{n}{ps:List _}{ps'}(hp:(ps.map λq=>(q.1,a.eval q.2))=ps')(hr:(Instr.buildSlice t n ps'.toArray).run P w=.ok v w'):
  (execOp a.eval ⟨dst,.buildSlice t n ps.toArray,t',p,af,g⟩).run P w=.ok (.value v) w':=by
 subst hp;simp[execOp,hr]
theorem GB(hx:a.eval x=vx)(hy:a.eval y=vy)(hr:(Instr.makeSlice t vx vy).run P w=.ok v w'):(execOp a.eval ⟨dst,.makeSlice t x y,t',p,af,g⟩).run P w=.ok (.value v) w':=by simp[execOp,hx,hy,hr]
theorem N7(hr:(Instr.makeMap t none).run P w=.ok v w'):(execOp a.eval ⟨dst,.makeMap t none,t',p,af,g⟩).run P w=.ok (.value v) w':=by simp[execOp,hr]
theorem Ji(hx:a.eval x=vx)(hr:(Instr.makeMap t (some vx)).run P w=.ok v w'):(execOp a.eval ⟨dst,.makeMap t (some x),t',p,af,g⟩).run P w=.ok (.value v) w':=by simp[execOp,hx,hr]
theorem QQ{b}(hx:a.eval x=vx)(hy:a.eval y=vy)(hr:(Instr.lookup t vx vy b).run P w=.ok v w'):(execOp a.eval ⟨dst,.lookup t x y b,t',p,af,g⟩).run P w=.ok (.value v) w':=by simp[execOp,hx,hy,hr]
theorem GC(hx:a.eval x=vx)(hy:a.eval y=vy)(hz:a.eval z=vz)(hr:(Instr.mapUpdate t vx vy vz).run P w=.ok () w'):(execOp a.eval ⟨dst,.mapUpdate t x y z,t',p,af,g⟩).run P w=.ok .skip w':=by simp[execOp,hx,hy,hz,hr]
theorem QS(hx:a.eval x=vx)(hy:a.eval y=vy)(hz:a.eval z=vz)(hr:(Instr.mapUpdate t vx vy vz).run P w=.ok () w'):(execOp a.eval ⟨dst,.insert t x y z,t',p,af,g⟩).run P w=.ok .skip w':=by simp[execOp,hx,hy,hz,hr]
theorem N8(hx:a.eval x=vx)(hr:(convert t t2 vx).run P w=.ok v w'):(execOp a.eval ⟨dst,.convert t t2 x,t',p,af,g⟩).run P w=.ok (.value v) w':=by simp[execOp,hx,hr]
end
theorem YI{dst:Option Tmp}{t:TypeId}{e:TypeId}{x:Operand}{t':TypeId}{p:String}{af:Array Edge}{g}{s:Sl}
  (hu:(underlying t).run P w=.ok (.slice e) w) (hx:a.eval x=s.v):
  (execOp a.eval ⟨dst,.call ⟨.builtin .len,#[x],#[t]⟩,t',p,af,g⟩).run P w=.ok (.value (.int .i64 s.n)) w:=by
 simp[execOp,resolve,invoke,builtin,Builtin.len_,hu,hx,goInt]
theorem Ai{dst}{x}{f}{first captured}{xs:List Operand}{ats}{t'}{p}{af}{g}{args}
  (hx:a.eval x=.func (.func f) first.toArray captured.toArray)
  (hc:∀args w,(callFunc f args).run P w=.ok (.enter f args) w) (ha:first++xs.map a.eval++captured=args):
  (execOp a.eval ⟨dst,.call ⟨.value x,xs.toArray,ats⟩,t',p,af,g⟩).run P w=.ok (.enter f args.toArray) w:=by
 subst ha;simp only[execOp,resolve,hx,Deferred.ofValue,Sem.run_bind,Sem.run_pure,Result.andThen_ok,invoke,hc];simp
theorem lU{x}{k}{i y}{code}(hx:x=.int k i)(h:i<=y):(Instr.sliceBound x y code).run P w=.ok i w:=by
 subst hx;have:=aG
 simp[Instr.sliceBound,asIntOf,this]
theorem Aj{dst}{s d e}{x}{t'}{p}{af}{g}{sl}{l}
  (hs:P.underlying s=some (.slice e)) (he:P.underlying e=some (.int .u8)) (hd:P.underlying d=some .string) (hx:a.eval x=sl.v) (hb:Af w sl l):
  (execOp a.eval ⟨dst,.convert s d x,t',p,af,g⟩).run P w=.ok (.value (.string ⟨l.toArray⟩)) w:=by
 obtain⟨hn,hc⟩:=hb;obtain⟨sa,sn,sc⟩:=sl;subst hn;have key:(convert s d (.slice sa l.length sc)).run P w=.ok (.string ⟨l.toArray⟩) w:=by
  cases sa with
  | none=>
   have:l=[]:=gL λh=>acX
   subst this;exact run_convert_bytes_nil w s e hs he _ _ d hd
  | some ad=>
   refine run_convert_bytes_back w s d e ad sc l hs he hd λj hj=>?_;obtain⟨FV,h1,h2⟩:=hc (λh=>by simp[h]at hj);injection h1 with h1;subst h1;exact h2 j _ (by simp[gw,aQ hj])
 simp[execOp,hx,key]
theorem Ak{dst}{fn}{fs cs:List Operand}{t'}{p}{af}{g}{fv cv}(h1:fs.map a.eval=fv)(h2:cs.map a.eval=cv):
  (execOp a.eval ⟨dst,.makeFunc fn fs.toArray cs.toArray,t',p,af,g⟩).run P w=.ok (.value (.func fn fv.toArray cv.toArray)) w:=by
 subst h1;subst h2;simp[execOp,Instr.makeFunc]
theorem afo{dst}{t ty}{x y}{t'}{p}{af}{g}{k}{m n}(hx:a.eval x=.int k m)(hy:a.eval y=.int k n)(hn:n≠0):
  (execOp a.eval ⟨dst,.binOp .quo t x y ty,t',p,af,g⟩).run P w=.ok (.value (.int k (k.wrap (m.tdiv n)))) w:=by
 have e:binOp .quo t (.int k m) (.int k n)=Op.intDiv .quo k m n:=by simp[binOp]
 have hg:eqGuard .quo t x y (.int k m) (.int k n)=pure _:=rfl;simp[execOp,hx,hy,hg,e,Op.intDiv,hn,ka,Sem.run_bind,Sem.run_pure,Result.andThen_ok]
theorem afp{dst}{t ty}{x y}{t'}{p}{af}{g}{k}{m n}(hx:a.eval x=.int k m)(hy:a.eval y=.int k n)(hn:n≠0):
  (execOp a.eval ⟨dst,.binOp .rem t x y ty,t',p,af,g⟩).run P w=.ok (.value (.int k (m.tmod n))) w:=by
 have e:binOp .rem t (.int k m) (.int k n)=Op.intDiv .rem k m n:=by simp[binOp]
 have hg:eqGuard .rem t x y (.int k m) (.int k n)=pure _:=rfl;simp[execOp,hx,hy,hg,e,Op.intDiv,hn,ka,Sem.run_bind,Sem.run_pure,Result.andThen_ok]
theorem afq{dst}{t ty}{x y}{t'}{p}{af}{g}{k k'}{m n}(hx:a.eval x=.int k m)(hy:a.eval y=.int k' n)(hn:0<=n):
  (execOp a.eval ⟨dst,.binOp .shl t x y ty,t',p,af,g⟩).run P w=.ok (.value (.int k (k.wrap (m*2 ^ (min n.toNat k.bits))))) w:=by
 have hg:eqGuard .shl t x y (.int k m) (.int k' n)=pure _:=rfl;have e:binOp .shl t (.int k m) (.int k' n)=Op.shift .shl k m k' n:=rfl;have hn':¬n<0:=aG
 simp[execOp,hx,hy,hg,e,Op.shift,hn',ka,Sem.run_bind,Sem.run_pure,Result.andThen_ok]
theorem afr{dst}{t ty}{x y}{t'}{p}{af}{g}{k k'}{m n}(hx:a.eval x=.int k m)(hy:a.eval y=.int k' n)(hn:0<=n):
  (execOp a.eval ⟨dst,.binOp .shr t x y ty,t',p,af,g⟩).run P w=.ok (.value (.int k (m.fdiv (2 ^ (min n.toNat k.bits))))) w:=by
 have hg:eqGuard .shr t x y (.int k m) (.int k' n)=pure _:=rfl;have e:binOp .shr t (.int k m) (.int k' n)=Op.shift .shr k m k' n:=rfl;have hn':¬n<0:=aG
 simp[execOp,hx,hy,hg,e,Op.shift,hn',ka,Sem.run_bind,Sem.run_pure,Result.andThen_ok]
theorem Jj{dst}{t}{x i}{t'}{p}{af}{g}{s}{k}{n}{c}
  (hu:(underlying t).run P w=.ok .string w) (hx:a.eval x=.string s) (hi:a.eval i=.int k n) (h0:0<=n) (h1:s[n.toNat]? =some c):
  (execOp a.eval ⟨dst,.index t x i,t',p,af,g⟩).run P w=.ok (.value (.int .u8 c.toNat)) w:=by
 simp[execOp,hx,hi,Instr.index,asIntOf,hu,Sem.run_bind,Sem.run_pure,Result.andThen_ok,h0,zC,h1]
theorem QT{dst}{t ty}{x y}{t'}{p}{af}{g}{s u}(hx:a.eval x=.string s)(hy:a.eval y=.string u)(hn:(s.size:Int)+u.size<=9223372036854775807):
  (execOp a.eval ⟨dst,.binOp .add t x y ty,t',p,af,g⟩).run P w=.ok (.value (.string (s++u))) w:=by
 have hg:eqGuard .add t x y (.string s) (.string u)=pure _:=rfl;have e:binOp .add t (.string s) (.string u)=Op.stringOp .add s u:=rfl;have hn':¬((s.size+u.size:Nat))>IntKind.i64.max:=by simp_all
 simp only[execOp,hx,hy,hg,e,Op.stringOp,hn',ka,Sem.run_bind,Sem.run_pure,Result.andThen_ok]
theorem afs{dst}{t}{e}{x}{t'}{p}{af}{g}{s:Sl}
  (hu:(underlying t).run P w=.ok (.slice e) w) (hx:a.eval x=s.v):
  (execOp a.eval ⟨dst,.call ⟨.builtin .cap,#[x],#[t]⟩,t',p,af,g⟩).run P w=.ok (.value (.int .i64 s.c)) w:=by
 simp[execOp,resolve,invoke,builtin,Builtin.cap_,hu,hx,goInt]
theorem D6{dst:Option Tmp}{t:TypeId}{x lo:Operand}{t':TypeId}{p:String}{af:Array Edge}{g:Option (Nat×Bool)}{s:ByteArray}{k:IntKind}{l:Nat}
  (hu:(underlying t).run P w=.ok .string w) (hx:a.eval x=.string s) (hl:a.eval lo=.int k (l:Int)) (h1:l<=s.size) (_h2:s.size<=s.size):
  (execOp a.eval ⟨dst,.slice t x (some lo) none none,t',p,af,g⟩).run P w=.ok (.value (.string (s.extract l s.size))) w:=by
 simp[execOp,hx,Instr.sliceAt,hu,Instr.slice,Instr.sliceBounds,lU hl h1]
theorem D7{dst}{t}{x hi}{t'}{p}{af}{g}{s}{k}{h:Nat}
  (hu:(underlying t).run P w=.ok .string w) (hx:a.eval x=.string s) (hh:a.eval hi=.int k h) (_h1:0<=h) (h2:h<=s.size):
  (execOp a.eval ⟨dst,.slice t x none (some hi) none,t',p,af,g⟩).run P w=.ok (.value (.string (s.extract 0 h))) w:=by
 simp[execOp,hx,Instr.sliceAt,hu,Instr.slice,Instr.sliceBounds,lU hh h2]
theorem D8{dst}{t}{x lo hi}{t'}{p}{af}{g}{s}{k k'}{l h:Nat}
  (hu:(underlying t).run P w=.ok .string w) (hx:a.eval x=.string s) (hl:a.eval lo=.int k l) (hh:a.eval hi=.int k' h) (h1:l<=h) (h2:h<=s.size):
  (execOp a.eval ⟨dst,.slice t x (some lo) (some hi) none,t',p,af,g⟩).run P w=.ok (.value (.string (s.extract l h))) w:=by
 simp[execOp,hx,Instr.sliceAt,hu,Instr.slice,Instr.sliceBounds,lU hh h2,lU hl h1]
theorem CW{dst}{s d}{x}{t'}{p}{af}{g}{ks kd k}{n}
  (hs:(underlying s).run P w=.ok (.int ks) w) (hd:(underlying d).run P w=.ok (.int kd) w) (hx:a.eval x=.int k n):
  (execOp a.eval ⟨dst,.convert s d x,t',p,af,g⟩).run P w=.ok (.value (.int kd (kd.wrap n))) w:=by
 simp[execOp,hx,convert,hs,hd,Conv.intToInt]
theorem CX{dst:Option Tmp}{s d:TypeId}{x:Operand}{t':TypeId}{p:String}{af:Array Edge}{g:Option (Nat×Bool)}{n:ByteArray}
  (hs:(underlying s).run P w=.ok .string w) (hd:(underlying d).run P w=.ok .string w) (hx:a.eval x=.string n):
  (execOp a.eval ⟨dst,.convert s d x,t',p,af,g⟩).run P w=.ok (.value (.string n)) w:=by
 simp[execOp,hx,convert,hs,hd]
theorem VT{dst}{t}{x}{t'}{p}{af}{g}{d}{v}
  (hu:(underlying t).run P w=.ok d w) (hd:(match d with | .interface _=>false | _=>true)=true) (hx:a.eval x=v):
  (execOp a.eval ⟨dst,.makeInterface t x,t',p,af,g⟩).run P w=.ok (.value (.iface t v)) w:=by
 subst hx;cases d<;>first | (simp at hd;done) | simp[execOp,Instr.makeInterface,hu]
theorem QU{dst:Option Tmp}{t:TypeId}{x:Operand}{t':TypeId}{p:String}{af:Array Edge}{g:Option (Nat×Bool)}{s:ByteArray}
  (hu:(underlying t).run P w=.ok .string w) (hx:a.eval x=.string s):
  (execOp a.eval ⟨dst,.call ⟨.builtin .len,#[x],#[t]⟩,t',p,af,g⟩).run P w=.ok (.value (.int .i64 s.size)) w:=by
 simp[execOp,resolve,invoke,builtin,Builtin.len_,hu,hx,goInt]
theorem aft{dst}{ts}{x y}{t'}{p}{af}{g}{k k'}{m n}(hx:a.eval x=.int k m)(hy:a.eval y=.int k' n):
  (execOp a.eval ⟨dst,.call ⟨.builtin .min,#[x,y],ts⟩,t',p,af,g⟩).run P w=.ok (.value (.int k (if n<m then n else m))) w:=by
 simp[execOp,resolve,invoke,builtin,hx,hy,run_min_int2]
theorem afu{dst:Option Tmp}{ts}{x y}{t'}{p}{af}{g}{k k'}{m n}(hx:a.eval x=.int k m)(hy:a.eval y=.int k' n):
  (execOp a.eval ⟨dst,.call ⟨.builtin .max,#[x,y],ts⟩,t',p,af,g⟩).run P w=.ok (.value (.int k (if n>m then n else m))) w:=by
 simp[execOp,resolve,invoke,builtin,hx,hy,run_max_int2]
theorem D9{dst:Option Tmp}{t ty:TypeId}{x y:Operand}{t':TypeId}{p:String}{af:Array Edge}{g:Option (Nat×Bool)}{e:TypeId}{q:Option Addr}{b:Bool}(hu:(underlying t).run P w=.ok (.pointer e) w)(hx:a.eval x=.pointer q)(hy:a.eval y=.pointer none)(hb:(q.isNone)=b):
  (execOp a.eval ⟨dst,.binOp .eql t x y ty,t',p,af,g⟩).run P w=.ok (.value (.bool b)) w:=by
 subst hb;have hE:∀d,(Op.equalIn (d+1) t (.pointer q) (.pointer none)).run P w=.ok q.isNone w:=λd=>by
  unfold Op.equalIn;cases q<;>simp only[Sem.run_bind,hu,Result.andThen_ok]<;>rfl
 have hB:binOp .eql t (.pointer q) (.pointer none)=(do pure (.bool ((<-Op.equal t (.pointer q) (.pointer none))))):=by cases q<;>rfl
 have hG:eqGuard .eql t x y (.pointer q) (.pointer none)=pure ():=rfl;simp only[execOp,hx,hy,hG,hB,Op.equal,Op.maxDepth,Sem.run_bind,Sem.run_pure,Result.andThen_ok,hE 9999]
theorem Ea{dst}{t ty}{x y}{t'}{p}{af}{g}{e}{q}{b}(hu:(underlying t).run P w=.ok (.pointer e) w)(hx:a.eval x=.pointer none)(hy:a.eval y=.pointer q)(hb:(q.isNone)=b):
  (execOp a.eval ⟨dst,.binOp .eql t x y ty,t',p,af,g⟩).run P w=.ok (.value (.bool b)) w:=by
 subst hb;have hE:∀d,(Op.equalIn (d+1) t (.pointer none) (.pointer q)).run P w=.ok q.isNone w:=λd=>adP
 have hB:binOp .eql t (.pointer none) (.pointer q)=(do pure (.bool ((<-Op.equal t (.pointer none) (.pointer q))))):=rfl;have hG:eqGuard .eql t x y (.pointer none) (.pointer q)=pure _:=rfl;simp[execOp,hx,hy,hG,hB,Op.equal,Op.maxDepth,Sem.run_bind,Sem.run_pure,Result.andThen_ok,hE 9999]
theorem Eb{dst}{t ty}{x y}{t'}{p}{af}{g}{e}{q}{b}(hu:(underlying t).run P w=.ok (.pointer e) w)(hx:a.eval x=.pointer q)(hy:a.eval y=.pointer none)(hb:(!q.isNone)=b):
  (execOp a.eval ⟨dst,.binOp .neq t x y ty,t',p,af,g⟩).run P w=.ok (.value (.bool b)) w:=by
 subst hb;have hE:∀d,(Op.equalIn (d+1) t (.pointer q) (.pointer none)).run P w=.ok q.isNone w:=λd=>by
  unfold Op.equalIn;cases q<;>simp only[Sem.run_bind,hu]<;>rfl
 have hB:binOp .neq t (.pointer q) (.pointer none)=(do pure (.bool (!(<-Op.equal t (.pointer q) (.pointer none))))):=rfl;have hG:eqGuard .neq t x y (.pointer q) (.pointer none)=pure _:=rfl;simp[execOp,hx,hy,hG,hB,Op.equal,Op.maxDepth,Sem.run_bind,Sem.run_pure,Result.andThen_ok,hE 9999]
theorem Ec{dst:Option Tmp}{t ty}{x y}{t'}{p}{af}{g}{e}{q}{b}(hu:(underlying t).run P w=.ok (.pointer e) w)(hx:a.eval x=.pointer none)(hy:a.eval y=.pointer q)(hb:(!q.isNone)=b):
  (execOp a.eval ⟨dst,.binOp .neq t x y ty,t',p,af,g⟩).run P w=.ok (.value (.bool b)) w:=by
 subst hb;have hE:∀d,(Op.equalIn (d+1) t (.pointer none) (.pointer q)).run P w=.ok q.isNone w:=λd=>adP
 have hB:binOp .neq t (.pointer none) (.pointer q)=(do pure (.bool (!(<-Op.equal t (.pointer none) (.pointer q))))):=by cases q<;>rfl
 have hG:eqGuard .neq t x y (.pointer none) (.pointer q)=pure _:=rfl;simp[execOp,hx,hy,hG,hB,Op.equal,Op.maxDepth,Sem.run_bind,Sem.run_pure,Result.andThen_ok,hE 9999]
theorem N9{dst}{t ty}{x y}{t'}{p}{af}{g}{m n}(hu:P.underlying t=some .bool)(hx:a.eval x=.bool m)(hy:a.eval y=.bool n):
  (execOp a.eval ⟨dst,.binOp .eql t x y ty,t',p,af,g⟩).run P w=.ok (.value (.bool (m==n))) w:=by
 have hG:eqGuard .eql t x y (.bool m) (.bool n)=pure _:=rfl;simp[execOp,hx,hy,hG,run_eql_bool w t m n hu]
theorem Oa{dst}{t ty}{x y}{t'}{p}{af}{g}{m n}(hu:P.underlying t=some .bool)(hx:a.eval x=.bool m)(hy:a.eval y=.bool n):
  (execOp a.eval ⟨dst,.binOp .neq t x y ty,t',p,af,g⟩).run P w=.ok (.value (.bool (!(m==n)))) w:=by
 have hG:eqGuard .neq t x y (.bool m) (.bool n)=pure _:=rfl;simp[execOp,hx,hy,hG,run_neq_bool w t m n hu]
theorem GD{dst:Option Tmp}{t ty:TypeId}{x y:Operand}{t'}{p}{af}{g}{e}{s:Sl}(hu:(underlying t).run P w=.ok (.slice e) w)(hx:a.eval x=s.v)(hy:a.eval y=.slice none 0 0):
  (execOp a.eval ⟨dst,.binOp .eql t x y ty,t',p,af,g⟩).run P w=.ok (.value (.bool (s.a.isNone))) w:=by
 obtain⟨sa,sn,sc⟩:=s;have hE:∀d,(Op.equalIn (d+1) t (.slice sa sn sc) (.slice none 0 0)).run P w=.ok sa.isNone w:=λd=>by
  unfold Op.equalIn;cases sa<;>simp only[Sem.run_bind,hu]<;>rfl
 have hB:binOp .eql t (.slice sa sn sc) (.slice none 0 0)=(do pure (.bool ((<-Op.equal t (.slice sa sn sc) (.slice none 0 0))))):=by cases sa<;>rfl
 have hG:eqGuard .eql t x y (.slice sa sn sc) (.slice none 0 0)=pure _:=rfl;simp[execOp,hx,hy,hG,hB,Op.equal,Op.maxDepth,Sem.run_bind,Sem.run_pure,Result.andThen_ok,hE 9999]
theorem GF{dst}{t ty}{x y}{t'}{p}{af}{g}{e}{s:Sl}(hu:(underlying t).run P w=.ok (.slice e) w)(hx:a.eval x=.slice none 0 0)(hy:a.eval y=s.v):
  (execOp a.eval ⟨dst,.binOp .eql t x y ty,t',p,af,g⟩).run P w=.ok (.value (.bool (s.a.isNone))) w:=by
 obtain⟨sa,sn,sc⟩:=s;have hE:∀d,(Op.equalIn (d+1) t (.slice none 0 0) (.slice sa sn sc)).run P w=.ok sa.isNone w:=λd=>adP
 have hB:binOp .eql t (.slice none 0 0) (.slice sa sn sc)=(do pure (.bool ((<-Op.equal t (.slice none 0 0) (.slice sa sn sc))))):=rfl;have hG:eqGuard .eql t x y (.slice none 0 0) (.slice sa sn sc)=pure _:=rfl;simp[execOp,hx,hy,hG,hB,Op.equal,Op.maxDepth,Sem.run_bind,Sem.run_pure,Result.andThen_ok,hE 9999]
theorem GH{dst}{t ty}{x y}{t'}{p}{af}{g}{e}{s:Sl}(hu:(underlying t).run P w=.ok (.slice e) w)(hx:a.eval x=s.v)(hy:a.eval y=.slice none 0 0):
  (execOp a.eval ⟨dst,.binOp .neq t x y ty,t',p,af,g⟩).run P w=.ok (.value (.bool (!s.a.isNone))) w:=by
 obtain⟨sa,sn,sc⟩:=s;have hE:∀d,(Op.equalIn (d+1) t (.slice sa sn sc) (.slice none 0 0)).run P w=.ok sa.isNone w:=λd=>by
  unfold Op.equalIn;cases sa<;>simp only[Sem.run_bind,hu]<;>rfl
 have hB:binOp .neq t (.slice sa sn sc) (.slice none 0 0)=(do pure (.bool (!(<-Op.equal t (.slice sa sn sc) (.slice none 0 0))))):=by cases sa<;>rfl
 have hG:eqGuard .neq t x y (.slice sa sn sc) (.slice none 0 0)=pure _:=rfl;simp[execOp,hx,hy,hG,hB,Op.equal,Op.maxDepth,Sem.run_bind,Sem.run_pure,Result.andThen_ok,hE 9999]
theorem GI{dst:Option Tmp}{t ty:TypeId}{x y:Operand}{t':TypeId}{p:String}{af}{g}{e}{s:Sl}(hu:(underlying t).run P w=.ok (.slice e) w)(hx:a.eval x=.slice none 0 0)(hy:a.eval y=s.v):
  (execOp a.eval ⟨dst,.binOp .neq t x y ty,t',p,af,g⟩).run P w=.ok (.value (.bool (!s.a.isNone))) w:=by
 obtain⟨sa,sn,sc⟩:=s;have hE:∀d,(Op.equalIn (d+1) t (.slice none 0 0) (.slice sa sn sc)).run P w=.ok sa.isNone w:=λd=>adP
 have hB:binOp .neq t (.slice none 0 0) (.slice sa sn sc)=(do pure (.bool (!(<-Op.equal t (.slice none 0 0) (.slice sa sn sc))))):=by cases sa<;>rfl
 have hG:eqGuard .neq t x y (.slice none 0 0) (.slice sa sn sc)=pure _:=rfl;simp[execOp,hx,hy,hG,hB,Op.equal,Op.maxDepth,Sem.run_bind,Sem.run_pure,Result.andThen_ok,hE 9999]
theorem Al{dst}{t e}{x lo}{t'}{p}{af}{g}{s:Sl}{k}{l sz:Nat}
  (hu:(underlying t).run P w=.ok (.slice e) w) (hsz:(sizeOf e).run P w=.ok sz w) (hx:a.eval x=s.v) (hl:a.eval lo=.int k l) (h1:l<=s.n) (_h2:s.n<=s.c) (_h3:s.c<=s.c):
  (execOp a.eval ⟨dst,.slice t x (some lo) none none,t',p,af,g⟩).run P w=.ok (.value (s.cut l s.n s.c sz).v) w:=by
 simp[execOp,hx,Instr.sliceAt,hu,Sem.run_bind,Result.andThen_ok,Instr.slice,Instr.sliceBounds,dH,Aa,Sem.run_pure,lU hl h1,hsz,Sl.cut]
theorem Jk{dst}{t e}{x hi}{t'}{p}{af}{g}{s:Sl}{k}{h sz:Nat}
  (hu:(underlying t).run P w=.ok (.slice e) w) (hsz:(sizeOf e).run P w=.ok sz w) (hx:a.eval x=s.v) (hh:a.eval hi=.int k h) (_h1:0<=h) (h2:h<=s.c) (_h3:s.c<=s.c):
  (execOp a.eval ⟨dst,.slice t x none (some hi) none,t',p,af,g⟩).run P w=.ok (.value (s.cut 0 h s.c sz).v) w:=by
 simp[execOp,hx,Instr.sliceAt,hu,Sem.run_bind,Result.andThen_ok,Instr.slice,Instr.sliceBounds,dH,Aa,Sem.run_pure,lU hh h2,hsz,Sl.cut]
theorem Jl{dst}{t e}{x lo hi}{t'}{p}{af}{g}{s:Sl}{k k'}{l h sz:Nat}
  (hu:(underlying t).run P w=.ok (.slice e) w) (hsz:(sizeOf e).run P w=.ok sz w) (hx:a.eval x=s.v) (hl:a.eval lo=.int k l) (hh:a.eval hi=.int k' h) (h1:l<=h) (h2:h<=s.c) (_h3:s.c<=s.c):
  (execOp a.eval ⟨dst,.slice t x (some lo) (some hi) none,t',p,af,g⟩).run P w=.ok (.value (s.cut l h s.c sz).v) w:=by
 simp[execOp,hx,Instr.sliceAt,hu,Sem.run_bind,Result.andThen_ok,Instr.slice,Instr.sliceBounds,dH,Aa,Sem.run_pure,lU hh h2,lU hl h1,hsz,Sl.cut]
theorem Jm{dst}{t e}{x hi mx}{t'}{p}{af}{g}{s:Sl}{k' k2}{h m sz:Nat}
  (hu:(underlying t).run P w=.ok (.slice e) w) (hsz:(sizeOf e).run P w=.ok sz w) (hx:a.eval x=s.v) (hh:a.eval hi=.int k' h) (hm:a.eval mx=.int k2 m) (_h1:0<=h) (h2:h<=m) (h3:m<=s.c):
  (execOp a.eval ⟨dst,.slice t x none (some hi) (some mx),t',p,af,g⟩).run P w=.ok (.value (s.cut 0 h m sz).v) w:=by
 simp[execOp,hx,Instr.sliceAt,hu,Sem.run_bind,Result.andThen_ok,Instr.slice,Instr.sliceBounds,dH,Aa,Sem.run_pure,lU hm h3,lU hh h2,hsz,Sl.cut]
theorem Jn{dst}{t e}{x lo hi mx}{t'}{p}{af}{g}{s:Sl}{k k' k2}{l h m sz:Nat}
  (hu:(underlying t).run P w=.ok (.slice e) w) (hsz:(sizeOf e).run P w=.ok sz w) (hx:a.eval x=s.v) (hl:a.eval lo=.int k l) (hh:a.eval hi=.int k' h) (hm:a.eval mx=.int k2 m) (h1:l<=h) (h2:h<=m) (h3:m<=s.c):
  (execOp a.eval ⟨dst,.slice t x (some lo) (some hi) (some mx),t',p,af,g⟩).run P w=.ok (.value (s.cut l h m sz).v) w:=by
 simp only[execOp,hx,Instr.sliceAt,hu,Sem.run_bind,Result.andThen_ok,Instr.slice,Instr.sliceBounds,dH,Sem.run_pure,lU hm h3,lU hh h2,lU hl h1,hsz,Sl.cut]
section
variable {K:Act->ay->Prop} {o:Oper}
theorem sU(hg:Region.wanted o (yielded ops a.tmps)=true)(h:o.wp P a w (wpList P ops Q rest) Q):wpList P ops Q (o::rest) a w:=by
 unfold wpList;simp_all
theorem yD v (hr:(execOp a.eval o).run P w=.ok (.value v) w') (ha:a.put o.dst v=a') (h:K a' w'):o.wp P a w K Q:=by
 subst ha;unfold Oper.wp;rw[hr];exact h
theorem QV(hr:(execOp a.eval o).run P w=.ok .skip w')(ha:a.put o.dst undef=a')(h:K a' w'):o.wp P a w K Q:=by
 subst ha;unfold Oper.wp;rw[hr];exact h
theorem Ed{f}{args}(hr:(execOp a.eval o).run P w=.ok (.enter f args) w)
  (h:Calls P f args w λe w'=>∃v a',e=.returned v/\a.put o.dst v=a'/\K a' w'):o.wp P a w K Q:=by
 unfold Oper.wp;rw[hr];refine h.mono ?_;simp_all
theorem Am{dst}{ty}{x y}{t'}{p}{af}{g}{b o}{cs vs cs'}{et}{n}
  (hsz:(sizeOf ty).run P w=.ok n w) (hx:a.eval x=.pointer (some ⟨b,o,none⟩)) (hv:(a.eval y).cells=vs.toArray) (hn:vs.length=n)
  (h1:vs.all Value.oneCell'=true) (hb:Blk w b et cs) (FU:o+vs.length<=cs.length) (oP:cz cs o vs=cs') (ha:a.put dst undef=a')
  (h:∀w1,Only [b] w w1->Blk w1 b et cs'->K a' w1):Oper.wp P ⟨dst,.store ty x y,t',p,af,g⟩ a w K Q:=
 QV (VQ hsz hx hv hn (dF.1 h1) hb FU) ha (h _ (Only.setRow _ _ _) (by rw[<-oP];exact hb.setRow _))
theorem An{dst}{ty}{t'}{p}{af}{g}{z}{zs}{a':Nat->Act}
  (hz:(zeroValue ty).run P w=.ok z w) (hc:z.cells=zs.toArray) (ha:∀b,a.put dst (.pointer (some ⟨b,0,none⟩))=a' b)
  (h:∀b w1,w.heap.size<=b->Only [] w w1->Blk w1 b ty zs->K (a' b) w1):Oper.wp P ⟨dst,.alloc ty,t',p,af,g⟩ a w K Q:=
 yD _ (VR hz hc) (ha _) (h _ _ (ba _) (Only.alloc _ _) (Blk.alloc _ _ _))
theorem QW{dst}{ty}{x}{t'}{p}{af}{g}{zs}{a':Nat->Act}
  (hc:(a.eval x).cells=zs.toArray) (ha:∀b,a.put dst (.pointer (some ⟨b,0,none⟩))=a' b)
  (h:∀b w1,w.heap.size<=b->Only [] w w1->Blk w1 b ty zs->K (a' b) w1):Oper.wp P ⟨dst,.box ty x,t',p,af,g⟩ a w K Q:=
 yD _ (afn hc) (ha _) (h _ _ (ba _) (Only.alloc _ _) (Blk.alloc _ _ _))
end
theorem eG{K}(h:K a w):Exit.then K Q .normal a w:=h
theorem CY{K}{id}(h:Q (.exit id) a w):Exit.then K Q (.exit id) a w:=h
theorem QX{K}(h:Q .ret a w):Exit.then K Q .ret a w:=h
theorem Ee{id}(h:Q .normal a w):Exit.inBlock id Q .normal a w:=h
theorem CZ{id}(h:Q .normal a w):Exit.inBlock id Q (.exit id) a w:=by simpa[Exit.inBlock]using h
theorem Jo{id ZS}(gq:(ZS==id)=false)(h:Q (.exit ZS) a w):Exit.inBlock id Q (.exit ZS) a w:=by simpa[Exit.inBlock,by simpa using gq]using h
theorem aaI{c:Code} J (hJ:∀a w,J a w->Q .normal a w) (h:c.wp P (Exit.then J Q) a w):c.wp P Q a w:=by
 refine wp_mono h λe a w q=>?_;cases e<;>first | exact hJ _ _ q | exact q
theorem QY{f}{fn}{c}{args l}{n k}{R:az->ay->Prop}(hf:P.funcs[f]? =some fn)(hb:fn.body=some c)(hn:fn.ntmps=n)(hk:n=args.length+k)
  (hl:args++List.replicate k undef=l)
  (h:c.wp P (bodyPost P fn λe w'=>∃v,e=.returned v/\R v w') ⟨l.toArray,[]⟩ w):Calls P f args.toArray w λe w'=>∃v,e=.returned v/\R v w':=by
 refine calls_of_wp hf hb ?_;have e:args.toArray++Array.replicate (fn.ntmps-args.toArray.size) undef=l.toArray:=acX
 rw[e];exact h
def Ao(P:Program)(a:Act)(w:ay):List ResultVar->List az->Prop
 | [],[]=>True
 | .tmp t::r,v::vs=>a.eval (.tmp t)=v/\Ao P a w r vs
 | .cell p t::r,v::vs=>(∃ad,a.eval (.tmp p)=.pointer (some ad)/\(loadVar t ad).run P w=.ok v w)/\Ao P a w r vs
 | _,_=>False
theorem nQ(f:ResultVar->Sem az)(hf1:∀t,f (.tmp t)=pure (a.tmps.getD t undef))(hf2:∀q t,f (.cell q t)=(do loadVar t (<-asAddr (a.tmps.getD q undef)))):
  ∀rs vs,Ao P a w rs vs->(rs.mapM f).run P w=.ok vs w
 | [],[],_=>rfl
 | [],_::_,h=>h.elim
 | .tmp t::r,[],h=>h.elim
 | .cell _ _::r,[],h=>h.elim
 | .tmp t::r,v::vs,h=>by
  have ih:=nQ f hf1 hf2 r vs h.2;have h1:a.tmps.getD t undef=v:=h.1;simp_all
 | .cell q t::r,v::vs,h=>by
  have ih:=nQ f hf1 hf2 r vs h.2;obtain⟨⟨ad,h1,h2⟩,_⟩:=h;have h1':a.tmps.getD q undef=.pointer _:=h1;rw[List.mapM_cons,hf2];simp[h1',asAddr,h2,ih]
theorem QZ{fn}{rs}{v}(h:fn.results=rs.toArray)(hr:Ao P a w rs [v]):(results fn a.tmps).run P w=.ok v w:=by
 unfold results;rw[h,List.mapM_toArray];simp only[Sem.run_bind,map_eq_pure_bind];rw[nQ _ (λ_=>rfl) (λ_ _=>rfl) rs [v] hr];rfl
theorem Jp{fn}{rs}{vs}(h:fn.results=rs.toArray)(hn:(vs.length==1)=false)(hr:Ao P a w rs vs):(results fn a.tmps).run P w=.ok (.tuple vs.toArray) w:=by
 unfold results;rw[h,List.mapM_toArray];simp only[Sem.run_bind,map_eq_pure_bind,Sem.run_pure];rw[nQ _ (λ_=>rfl) (λ_ _=>rfl) rs vs hr];simp_all
theorem Lh{fn}{R:az->ay->Prop}{v}(hr:(results fn a.tmps).run P w=.ok v w)(hd:a.defers=[])(h:R v w):
 bodyPost P fn (λe w'=>∃v,e=.returned v/\R v w') .ret a w:=bodyPost_ret hr hd ⟨v,rfl,h⟩
theorem Jq{fn}{R:az->ay->Prop}{v}(hr:(results fn a.tmps).run P w=.ok v w)(hd:a.defers=[])(h:R v w):
 bodyPost P fn (λe w'=>∃v,e=.returned v/\R v w') .normal a w:=bodyPost_end hr hd ⟨v,rfl,h⟩
theorem Ef{ty}{ad}{cs}{n}(FT:(isAgg ty).run P w=.ok true w)(hsz:(sizeOf ty).run P w=.ok n w)(hn:cs.length=n)(hc:Cells w ad cs):
  (loadVar ty ad).run P w=.ok (.agg cs.toArray) w:=by
 have hl:=run_loadCells_list (P:=P) w ad cs hc;rw[hn]at hl;simp[loadVar,FT,hsz,hl,Sem.run_pure]
theorem Cv{ty}{ad}{v}(FT:(isAgg ty).run P w=.ok false w)(hc:w.cell? ad=some v):
  (loadVar ty ad).run P w=.ok v w:=by
 simp[loadVar,FT,ka,run_load,hc]
end
section
variable {P:Program} {ops:Array Oper} {rest:List Oper} {a a':Act} {w:ay} {Q:Act->Prop}
theorem afv{o} v (hg:Region.wanted o (yielded ops a.tmps)=true)
  (hr:∀w',(∃n,w'=w.drewN n)->(execOp a.eval o).run P w'=.ok (.value v) w') (ha:a.put o.dst v=a')
  (h:wpQuiet P ops (λw'=>∃n,w'=w.drewN n) Q rest a'):wpQuiet P ops (λw'=>∃n,w'=w.drewN n) Q (o::rest) a:=by
 subst ha;unfold wpQuiet;rw[bc hg];refine⟨v,λw' hw'=>?_,h⟩;unfold Oper.quietAt;rw[hr w' hw'];exact⟨rfl,rfl⟩
theorem al0{o}(hg:Region.wanted o (yielded ops a.tmps)=false)(ha:a.put o.dst undef=a')
  (h:wpQuiet P ops (λw'=>∃n,w'=w.drewN n) Q rest a'):wpQuiet P ops (λw'=>∃n,w'=w.drewN n) Q (o::rest) a:=by
 subst ha;unfold wpQuiet;simp_all
end
theorem Q0{w w'}:ci [] w w':=λ_ h=>aaB
theorem ci.refl bs w:ci bs w w:=λ_ _=>rfl
section
variable {P:Program} {ops:Array Oper} {Q:Exit->Act->ay->Prop} {md:Region.Mode} {E:Nat->ay->ay->Prop} {F:ay->Prop}
def fK(P:Program)(md:Region.Mode)(ops:Array Oper)(Q:Exit->Act->ay->Prop)(E:Nat->ay->ay->Prop):Nat->Array Bool->Act->ay->Prop
 | 0,bG,a,w=>Region.ready md ops bG=[]/\Q .normal a w
 | ft+1,bG,a,w=>
  (Region.ready md ops bG=[]->Q .normal a w)/\
  ∀i∈Region.ready md ops bG,wpOp P ops Q i (λa' w'=>E i w w'/\fK P md ops Q E ft (bG.setIfInBounds i true) a' w') a w
theorem Aq:∀ft bG a w,fK P md ops Q E ft bG a w->wpAny P md ops Q ft bG a w
 | 0,_,_,_,h=>h
 | ft+1,_,_,_,h=>⟨h.1,λi hi=>wpOp_mono (λa' w' h'=>Aq ft _ a' w' h'.2) (h.2 i hi)⟩
def rb(md:Region.Mode)(ops:Array Oper)(bG:Array Bool):Prop:=∀k o,ops[k]? =some o->bG.getD k false=true->∀e∈o.after,Region.binds md e=true->bG.getD e.on false=true
def vR(md:Region.Mode)(ops:Array Oper)(bG:Array Bool):Bool:=
 (List.range ops.size).all λk=>!bG.getD k false||((ops[k]?).map (·.after.all λe=>!Region.binds md e||bG.getD e.on false)).getD true
theorem C0{bG}(h:vR md ops bG=true):rb md ops bG:=by
 intro k o hk hl e he hb;have:=(dF.1 h) k (jb.2 (gr.1 hk).1);simp only[hl,nA,hk,dH,kb,Array.all_eq_true_iff_forall_mem,bU]at this
 grind
theorem rb.add{bG}{j}(h:rb md ops bG)(hj:j∈Region.ready md ops bG):rb md ops (bG.setIfInBounds j true):=by
 intro k o hk hl e he hb;obtain⟨_,oj,ZT,jh⟩:=mem_ready.1 hj;by_cases hkj:j=k
 ·subst hkj;rw[ZT]at hk;injection hk with hk;subst hk;exact getD_set_true (jh e he hb)
 rw[getD_set_ne false hkj]at hl;exact getD_set_true (h k o hk hl e he hb)
def sV(md:Region.Mode)(ops:Array Oper)(i:Nat):List Nat->List Nat->Bool
 | _,[]=>true
 | seen,j::r=>((ops[j]?).map λo=>o.after.any λe=>Region.binds md e&&(e.on==i||seen.contains e.on)).getD false&&sV md ops i (j::seen) r
theorem yE{i}{bG}(hc:rb md ops bG):∀D seen,sV md ops i seen D=true->(∀k∈seen,bG.getD k false=true->bG.getD i false=true)->∀j∈D,∀o,ops[j]? =some o->(∀e∈o.after,Region.binds md e=true->bG.getD e.on false=true)->bG.getD i false=true
 | [],_,_,_,j,hj,_,_,_=>by simp at hj
 | k::r,seen,h,hs,j,hj,o,ho,jh=>by
  simp[sV,aR]at h;have hk:∀o,ops[k]? =some o->(∀e∈o.after,Region.binds md e=true->bG.getD e.on false=true)->bG.getD i false=true:=acX
  rcases aV.1 hj with rfl | hj
  ·exact hk o ho jh
  refine yE hc r _ h.2 ?_ j hj o ho jh;intro x hx hl;rcases aV.1 hx with rfl | hx
  ·have h1:=h.1;cases hx2:ops[x]? with
   | none=>rw[hx2]at h1;simp at h1
   | some ox=>exact hk ox hx2 (hc x ox hx2 hl)
  exact hs x hx hl
theorem re{i}{oi}{v}{D}(hi:ops[i]? =some oi)(ah2:∀(j:Nat) o cs b,ops[j]? =some o->o.op≠.select cs b)
  (hQ:∀c a w,Q (.panic c) (a.put oi.dst v) w->Q (.panic c) a w) (hD:sV md ops i [] D=true)
  (N:List Nat) (lH:∀j w w',j∉D->j∉N->F w->E j w w'->F w') (PA:∀w,F w->E i w w):
  ∀ft bG a w,rb md ops bG->(∀k∈N,bG.getD k true=true)->
   (∀j oj,ops[j]? =some oj->j≠i->bG.getD j true=false->(∀e∈oj.after,Region.binds md e=true->e.on≠i)->oi.apart ops oj=true)->
   i∈Region.ready md ops bG->YieldsIf P ops F oi v a->F w->
   fK P md ops Q E ft (bG.setIfInBounds i true) (a.put oi.dst v) w->fK P md ops Q E (ft+1) bG a w:=by
 intro ft
 induction ft with
 | zero=>
  intro bG a w _ _ _ hr hy hF H;refine⟨λh=>(by rw[h]at hr;cases hr),λj hj=>?_⟩;by_cases ZU:j=i
  ·subst ZU;exact hy.wpOp hi hF ⟨PA w hF,H⟩
  have:=ready_mono hj ZU;rw[H.1]at this;cases this
 | succ ft ih=>
  intro bG a w pC hN NM hr hy hF H;refine⟨λh=>(by rw[h]at hr;cases hr),λj hj=>?_⟩;by_cases ZU:j=i
  ·subst ZU;exact hy.wpOp hi hF ⟨PA w hF,H⟩
  have h1:=H.2 j (ready_mono hj ZU);obtain⟨acG,oj,ZT,jh⟩:=mem_ready.1 hj;have av3:=(mem_ready.1 hr).1;have hli:bG.getD i false=false:=acX
  have aop:∀e∈oj.after,Region.binds md e=true->e.on≠i:=λe he hb heq=>acX
  have hjD:j∉D:=λhm=>by
   have:=yE pC D [] hD aac j hm oj ZT jh;rw[hli]at this;cases this
  have hjN:j∉N:=λhm=>by
   have:=hN j hm;rw[acG]at this;cases this
  have hN':∀k∈N,(bG.setIfInBounds j true).getD k true=true:=λk hk=>by
   by_cases hjk:j=k
   ·subst hjk;exact absurd hk hjN
   rw[getD_set_ne true hjk];exact hN k hk
  have h2:=wpOp_putIf ZT (NM j oj ZT ZU acG aop) (λcs b=>ah2 i oi cs b hi) (λcs b=>ah2 j oj cs b ZT) hQ hy h1;have FW:∀k ok,ops[k]? =some ok->k≠i->(bG.setIfInBounds j true).getD k true=false->
    _->oi.apart ops ok=true:=λk ok hk hki hun PB=>by
   refine NM k ok hk hki ?_ PB;by_cases hjk:j=k
   ·subst hjk;exact acG
   rw[getD_set_ne true hjk]at hun;exact hun
  refine wpOp_mono (λa' w' h3=>⟨h3.2.1,ih _ a' w' (pC.add hj) hN' FW (ready_mono hr (vN ZU)) h3.1 (lH j w w' hjD hjN hF h3.2.1) ?_⟩) h2;rw[Array.setIfInBounds_comm _ _ ZU];exact h3.2.2
theorem Jr i {eP} {oi} {a a'} {w} {ft} {bG} (D N:List Nat) v F (hi:gR eP i=some oi)
  (hs:Region.noSelect eP.toArray=true) (hf:Region.free md eP.toArray bG i=true) (hr:(Region.ready md eP.toArray bG).contains i=true) (hc:vR md eP.toArray bG=true) (hD:sV md eP.toArray i [] D=true) (hN:(N.all λk=>bG.getD k true)=true)
  (hQ:∀c a w,Q (.panic c) (a.put oi.dst v) w->Q (.panic c) a w) (lH:∀j w w',j∉D->j∉N->F w->E j w w'->F w') (PA:∀w,F w->E i w w) (hF:F w)
  (hy:YieldsIf P eP.toArray F oi v a) (ha:a.put oi.dst v=a')
  (h:fK P md eP.toArray Q E ft (bG.setIfInBounds i true) a' w):fK P md eP.toArray Q E (ft+1) bG a w:=by
 subst ha;have B7:eP.toArray[i]? =some oi:=acO
 exact re B7 (Region.noSelect_spec hs) hQ hD N lH PA ft bG a w (C0 hc) (λk hk=>acX) (Region.free_spec B7 hf) ad2 hy hF h
theorem afw i {eP} {oi} {a} {w} {ft} {bG} (hi:gR eP i=some oi) (hr:Region.ready md eP.toArray bG=[i])
  (hg:Region.wanted oi (yielded eP.toArray a.tmps)=true)
  (h:oi.wp P a w (λa' w'=>E i w w'/\fK P md eP.toArray Q E ft (bG.setIfInBounds i true) a' w') Q):fK P md eP.toArray Q E (ft+1) bG a w:=by
 have B7:eP.toArray[i]? =some oi:=acO
 refine⟨λh0=>aey,λj hj=>?_⟩;rw[hr]at hj;obtain rfl:j=i:=ac6
 unfold wpOp;simp_all
theorem VU i {eP} {oi} {a a'} {w} {ft} {bG} (hi:gR eP i=some oi) (hr:Region.ready md eP.toArray bG=[i])
  (hg:Region.wanted oi (yielded eP.toArray a.tmps)=false) (hE:E i w w) (ha:a.put oi.dst undef=a')
  (h:fK P md eP.toArray Q E ft (bG.setIfInBounds i true) a' w):fK P md eP.toArray Q E (ft+1) bG a w:=by
 subst ha;have B7:eP.toArray[i]? =some oi:=acO
 refine⟨λh0=>aey,λj hj=>?_⟩;rw[hr]at hj;obtain rfl:j=i:=ac6
 unfold wpOp;simp_all
theorem afx i j {eP} {oi oj} {a} {w} {ft} {bG} (hi:gR eP i=some oi) (hj:gR eP j=some oj) (hr:Region.ready md eP.toArray bG=[i,j])
  (h1:if Region.wanted oi (yielded eP.toArray a.tmps)then oi.wp P a w (λa' w'=>E i w w'/\fK P md eP.toArray Q E ft (bG.setIfInBounds i true) a' w') Q∨(oi.asks P a w/\LetsOut Q)
   else(λa' w'=>E i w w'/\fK P md eP.toArray Q E ft (bG.setIfInBounds i true) a' w') (a.put oi.dst undef) w)
  (h2:if Region.wanted oj (yielded eP.toArray a.tmps)then oj.wp P a w (λa' w'=>E j w w'/\fK P md eP.toArray Q E ft (bG.setIfInBounds j true) a' w') Q∨(oj.asks P a w/\LetsOut Q)
   else(λa' w'=>E j w w'/\fK P md eP.toArray Q E ft (bG.setIfInBounds j true) a' w') (a.put oj.dst undef) w):fK P md eP.toArray Q E (ft+1) bG a w:=by
 have B7:eP.toArray[i]? =some oi:=acO
 have Qn:eP.toArray[j]? =some oj:=by rw[jX]at hj;simpa using hj
 refine⟨λh0=>aey,λk hk=>?_⟩;rw[hr]at hk;unfold wpOp;rcases aV.1 hk with rfl | hk<;>simp_all
theorem aaJ{bG}{a}{w}{ft}(hr:Region.ready md ops bG=[])(h:Q .normal a w):fK P md ops Q E ft bG a w:=by
 cases ft with
 | zero=>exact⟨hr,h⟩
 | succ n=>exact⟨λ_=>h,by rw[hr];simp⟩
theorem GJ{id}{eP:List Oper}{a}{w} E (hm:P.follows .mixedOrders=true)
  (h:fK P .any eP.toArray Q E eP.length (Array.replicate eP.length false) a w.drew):(Code.region id eP.toArray true).wp P Q a w:=by
 refine wp_region_any hm (Aq (E:=E) _ _ _ _ ?_);simpa using h
def EL(ls:List (Nat×List Nat))(j:Nat)(w w':ay):Prop:=match ls.lookup j with | some l=>ci l w w' | none=>w'.heap=w.heap
theorem Q1{ls}{i}(h:ls.lookup i=none) w:EL ls i w w:=by unfold EL;rw[h]
theorem Js{s}{l} w w' (h:w'.heap[s.blk]? =w.heap[s.blk]?) (hc:Af w s l):Af w' s l:=
 ⟨hc.1,λhl=>by
  obtain⟨ad,h1,h2⟩:=hc.2 hl;refine⟨ad,h1,h2.keep ?_⟩;simpa[Sl.blk,h1]using h⟩
theorem YJ{eP:List Oper}{o}{v}{a}(hg:Region.wanted o (yielded eP.toArray a.tmps)=true)(h:∀w,F w->(execOp a.eval o).run P w=.ok (.value v) w):YieldsIf P eP.toArray F o v a:=.inl ⟨hg,h⟩
theorem afy{eP:List Oper}{o}{a}(hg:Region.wanted o (yielded eP.toArray a.tmps)=false):YieldsIf P eP.toArray F o undef a:=.inr ⟨hg,rfl⟩
end
def rf(x:Int):Prop:= -9223372036854775808<=x/\x<=9223372036854775807
theorem wr{x}(h:rf x):IntKind.i64.wrap x=x:=IntWalk.i64_in _ ⟨h.1,h.2⟩
theorem gx{x}(h1: -9223372036854775808<=x)(h2:x<=9223372036854775807):IntKind.i64.wrap x=x:=IntWalk.i64_in _ ⟨h1,h2⟩
theorem Q2 x:rf (IntKind.i64.wrap x):=by
 rw[IntKind.wrap_i64];constructor<;>omega
abbrev Rp(α:Type):=ay->(Nat->Prop)->α->List az->Prop
structure Rp.Ok {α:Type} (r:Rp α):Prop where
 keep:∀{w w':ay} {F:Nat->Prop} {x:α} {cs:List az},r w F x cs->(∀k,F k->k<w.heap.size->w'.heap[k]? =w.heap[k]?)->r w' F x cs
 inHeap:∀{w:ay} {F:Nat->Prop} {x:α} {cs:List az},r w F x cs->r w (λk=>F k/\k<w.heap.size) x cs
 mono:∀{w:ay} {F G:Nat->Prop} {x:α} {cs:List az},r w F x cs->(∀k,F k->G k)->r w G x cs
 one:∀{w:ay} {F:Nat->Prop} {x:α} {cs:List az},r w F x cs->∀v,v∈cs->v.oneCell'=true
section
variable {α:Type} {r:Rp α} {size:Nat} {w w':ay} {F G:Nat->Prop} {s:Sl} {xs:List α}
structure SliceF (r:Rp α) (size:Nat) (w:ay) (F:Nat->Prop) (s:Sl) (xs:List α):Prop where
 len:s.n=xs.length
 cap:s.n<=s.c
 nil0:s.a=none->s.c=0
 big:s.c<=9223372036854775807
 at_:∀j x,xs[j]? =some x->∃base cs,s.a=some base/\F base.block/\cs.length=size/\Cells w (base.add (j*size)) cs/\r w F x cs
theorem rh(a:Addr) n:(a.add n).block=a.block:=by unfold Addr.add;split<;>rfl
theorem pZ(a:Addr) i j:(a.add i).add j=a.add (i+j):=by
 unfold Addr.add;by_cases hi:i=0<;>by_cases hj:j=0<;>simp[hi,hj,eY]
theorem C1(a:Addr):a.add 0=a:=rfl
theorem fP b o n:(⟨b,o,none⟩:Addr).add n=⟨b,o+n,none⟩:=by unfold Addr.add;split<;>simp_all
theorem Cells.sub{a}{cs vs}(h:Cells w a cs) k (hv:∀j v,vs[j]? =some v->cs[k+j]? =some v):Cells w (a.add k) vs:=λj v hj=>by
 rw[pZ];exact h _ v (hv j v hj)
theorem Cells.eh{a}{cs}(h:Cells w a cs) k v (hv:cs[k]? =some v):Cells w (a.add k) [v]:=h.sub k λj u hj=>by
 cases j with
 | zero=>simpa[hv]using hj
 | succ j=>simp at hj
theorem SliceF.nil(r:Rp α) size w F:SliceF r size w F Sl.nil []:=⟨rfl,ba _,λ_=>rfl,aN,λj x h=>aaB⟩
theorem SliceF.keep(hr:r.Ok)(h:SliceF r size w F s xs)(hs:0<size)(hk:∀k,F k->k<w.heap.size->w'.heap[k]? =w.heap[k]?):SliceF r size w' F s xs:=
 ⟨h.len,h.cap,h.nil0,h.big,λj x hx=>by
  obtain⟨base,cs,h1,h2,h3,h4,h5⟩:=h.at_ j x hx;refine⟨base,cs,h1,h2,h3,h4.keep ?_,hr.keep h5 hk⟩;have bT:(base.add (j*size)).block<w.heap.size:=by
   cases cs with
   | nil=>simp at h3;omega
   | cons c cs=>exact h4.lt
  rw[rh]at bT⊢;exact hk _ h2 bT⟩
theorem SliceF.mono(hr:r.Ok)(h:SliceF r size w F s xs)(hk:∀k,F k->G k):SliceF r size w G s xs:=
 ⟨h.len,h.cap,h.nil0,h.big,λj x hx=>by
  obtain⟨base,cs,h1,h2,h3,h4,h5⟩:=h.at_ j x hx;exact⟨base,cs,h1,hk _ h2,h3,h4,hr.mono h5 hk⟩⟩
theorem SliceF.inHeap(hr:r.Ok)(h:SliceF r size w F s xs)(hs:0<size):SliceF r size w (λk=>F k/\k<w.heap.size) s xs:=
 ⟨h.len,h.cap,h.nil0,h.big,λj x hx=>by
  obtain⟨base,cs,h1,h2,h3,h4,h5⟩:=h.at_ j x hx;refine⟨base,cs,h1,⟨h2,?_⟩,h3,h4,hr.inHeap h5⟩;have bT:(base.add (j*size)).block<w.heap.size:=by
   cases cs with
   | nil=>simp at h3;omega
   | cons c cs=>exact h4.lt
  rwa[rh]at bT⟩
theorem SliceF.get(h:SliceF r size w F s xs){i:Int}(h0:0<=i)(h1:i<s.n):
  ∃ad x cs,dE s i size ad/\xs[i.toNat]? =some x/\F ad.block/\cs.length=size/\Cells w ad cs/\r w F x cs:=by
 have hl:=h.len;have bT:i.toNat<xs.length:=aG
 obtain⟨base,cs,g1,g2,g3,g4,g5⟩:=h.at_ i.toNat _ (aQ bT);exact⟨_,_,cs,⟨base,g1,h0,h1,rfl⟩,aQ bT,by rw[rh];exact g2,g3,g4,g5⟩
theorem SliceF.mem(h:SliceF r size w F s xs){x}(hx:x∈xs):∃cs,r w F x cs:=by
 obtain⟨j,hj⟩:=fh hx;obtain⟨_,cs,_,_,_,_,h5⟩:=h.at_ j x hj;exact⟨cs,h5⟩
theorem dE.aoi{i}{a b}(h:dE s i size a)(k:dE s i size b):a=b:=by
 obtain⟨x,h1,_,_,h2⟩:=h;obtain⟨y,k1,_,_,k2⟩:=k;rw[h1]at k1;injection k1 with k1;rw[h2,k2,k1]
theorem SliceF.cut(h:SliceF r size w F s xs){lo hi m}(h1:lo<=hi)(h2:hi<=m)(h3:hi<=s.n)(h4:m<=s.c):SliceF r size w F (s.cut lo hi m size) ((xs.drop lo).take (hi-lo)):=by
 have hl:=h.len;refine⟨?_,?_,λha=>?_,by have:=h.big;simp[Sl.cut];omega,λj x hx=>?_⟩
 ·simp[Sl.cut,cJ,cP];omega
 ·simp[Sl.cut];omega
 ·simp[Sl.cut]at ha⊢;split at ha
  ·omega
  have:=h.nil0 (by simpa using ha);omega
 rw[List.getElem?_take]at hx;split at hx
 ·rw[jc]at hx;obtain⟨base,cs,g1,g2,g3,g4,g5⟩:=h.at_ _ _ hx;refine⟨base.add (lo*size),cs,?_,by rw[rh];exact g2,g3,?_,g5⟩
  ·simp[Sl.cut];rw[aY aG,g1];rfl
  rw[pZ,<-eM];exact g4
 cases hx
end
structure BytesF (w:ay) (F:Nat->Prop) (s:Sl) (l:List UInt8):Prop where
 rd:Af w s l
 cap:s.n<=s.c
 blk:∀ad,s.a=some ad->l≠[]->F ad.block
section
variable {w w':ay} {F G:Nat->Prop} {s:Sl} {l:List UInt8}
theorem BytesF.nil w F:BytesF w F Sl.nil []:=⟨⟨rfl,λh=>absurd rfl h⟩,ba _,λ_ _ h=>absurd rfl h⟩
theorem BytesF.mono(h:BytesF w F s l)(hk:∀k,F k->G k):BytesF w G s l:=⟨h.rd,h.cap,λad ha hl=>hk _ (h.blk ad ha hl)⟩
end
def gA{α:Type}(P:α->List az->Prop):List α->List (List az)->Prop
 | [],[]=>True
 | x::xs,c::cs=>P x c/\gA P xs cs
 | _,_=>False
section
variable {α:Type} {P Q:α->List az->Prop}
theorem gA.len:∀{xs:List α} {css:List _},gA P xs css->xs.length=css.length
 | [],[],_=>rfl
 | x::xs,c::cs,h=>by simp[gA.len (xs:=xs) (css:=cs) h.2]
 | [],_::_,h=>h.elim
 | _::_,[],h=>h.elim
theorem gA.imp(hi:∀x c,P x c->Q x c):∀{xs:List α} {css:List _},gA P xs css->gA Q xs css
 | [],[],_=>trivial
 | x::xs,c::cs,h=>⟨hi _ _ h.1,gA.imp hi (xs:=xs) (css:=cs) h.2⟩
 | [],_::_,h=>h.elim
 | _::_,[],h=>h.elim
theorem gA.zX:∀{xs ys:List α} {css Gq:List _},gA P xs css->gA P ys Gq->gA P (xs++ys) (css++Gq)
 | [],_,[],_,_,k=>k
 | x::xs,_,c::cs,_,h,k=>⟨h.1,gA.zX (xs:=xs) (css:=cs) h.2 k⟩
 | [],_,_::_,_,h,_=>h.elim
 | _::_,_,[],_,h,_=>h.elim
theorem gA.get:∀{xs:List α} {css:List _},gA P xs css->∀{j:Nat} {x:α},xs[j]? =some x->∃cs,css[j]? =some cs/\P x cs
 | [],[],_,j,x,h=>aaB
 | y::xs,c::cs,k,0,x,h=>by
  simp at h;subst h;exact⟨c,rfl,k.1⟩
 | y::xs,c::cs,k,j+1,x,h=>by
  exact gA.get (xs:=xs) (css:=cs) k.2 h
 | [],_::_,h,_,_,_=>h.elim
 | _::_,[],h,_,_,_=>h.elim
theorem gA.mem:∀{xs:List α} {css:List _},gA P xs css->∀c,c∈css->∃x,P x c
 | [],[],_,c,h=>aaB
 | y::xs,d::cs,k,c,h=>by
  rcases aV.1 h with rfl | h
  ·exact⟨y,k.1⟩
  exact gA.mem (xs:=xs) (css:=cs) k.2 c h
 | [],_::_,h,_,_=>h.elim
 | _::_,[],h,_,_=>h.elim
theorem gA.take:∀n {xs:List α} {css:List _},gA P xs css->gA P (xs.take n) (css.take n)
 | 0,_,_,_=>by simp[gA]
 | _+1,[],[],_=>by simp[gA]
 | n+1,x::xs,c::cs,h=>by simp;exact⟨h.1,gA.take n (xs:=xs) (css:=cs) h.2⟩
 | _,[],_::_,h=>h.elim
 | _,_::_,[],h=>h.elim
theorem gA.set:∀{xs:List α} {css:List _} j {x:α} {c:List az},gA P xs css->P x c->gA P (xs.set j x) (css.set j c)
 | [],[],_,_,_,_,_=>by simp[gA]
 | y::xs,d::cs,0,x,c,h,k=>⟨k,h.2⟩
 | y::xs,d::cs,j+1,x,c,h,k=>⟨h.1,gA.set (xs:=xs) (css:=cs) j h.2 k⟩
 | [],_::_,_,_,_,h,_=>h.elim
 | _::_,[],_,_,_,h,_=>h.elim
end
theorem qb{css:List (List az)}{size}(h:∀c,c∈css->c.length=size):css.flatten.length=css.length*size:=by
 induction css with
 | nil=>simp
 | cons c cs ih=>
  rw[dy,aW,h c aac,ih (λd hd=>h d (by simp[hd])),bn,eM];omega
theorem Eg{css:List _}{size}(h:∀c,c∈css->c.length=size):∀{j i:Nat} {cs:List az} {v:az},css[j]? =some cs->cs[i]? =some v->css.flatten[j*size+i]? =some v:=by
 induction css with
 | nil=>intro j i cs v hj;simp at hj
 | cons c cs ih=>
  intro j i ds v hj hi;have hc:=h c aac;cases j with
  | zero=>
   simp at hj;subst hj;simp;rw[bM (aZ.1 hi).1];exact hi
  | succ j=>
   have:=ih (λd hd=>h d (by simp[hd])) hj hi;rw[dy,bZ (by rw[hc,eM];omega),hc];rw[show _*size+i-size=j*size+i by rw[eM];omega];exact this
theorem Ob{css:List (List az)}{size}(h:∀c,c∈css->c.length=size):∀n,css.flatten.take (n*size)=(css.take n).flatten:=by
 induction css with
 | nil=>intro n;simp
 | cons c cs ih=>
  intro n;cases n with
  | zero=>simp
  | succ n=>
   have hc:=h c aac;rw[dy,eF,dy,List.take_append,<-ih (λd hd=>h d (by simp[hd])),hc,show _*size-size=n*size by rw[eM];omega,bq (by rw[hc,eM];omega)]
theorem Jt{cs}{o}{v}(h:o<cs.length):cz cs o [v]=cs.set o v:=by
 rw[cz,List.set_eq_take_append_cons_drop,bc h];simp
theorem GK{size}{tail}{i}{v}:∀{css:List _} {n:Nat} {cs:List az},(∀c,c∈css->c.length=size)->css[n]? =some cs->i<size->
  (css.flatten++tail).set (n*size+i) v=(css.set n (cs.set i v)).flatten++tail
 | [],n,cs,_,hn,_=>by simp at hn
 | c::css,0,cs,h,hn,hi=>by
  simp at hn;subst hn;have hc:=h c aac;simp;rw[List.set_append_left _ _ aG]
 | c::css,n+1,cs,h,hn,hi=>by
  simp at hn;have hc:=h c aac;simp;rw[Ck _ _ (by rw[hc,eM];omega),hc,show(n+1)*size+i-size=n*size+i by rw[eM];omega,GK (tail:=tail) (v:=v) (λd hd=>h d (by simp[hd])) hn hi]
section
variable {w w':ay} {a:Addr} {cs ds:List az}
theorem Cells.zX(h:Cells w a cs)(k:Cells w (a.add cs.length) ds):Cells w a (cs++ds):=λj v hj=>by
 by_cases bT:j<cs.length
 ·rw[bM bT]at hj;exact h j v hj
 rw[bZ aG]at hj;have:=k _ v hj;rw[pZ,show cs.length+_=j by omega]at this;exact this
theorem Cells.nil w a:Cells w a []:=λj v hj=>by simp at hj
end
section
variable {α:Type} {r:Rp α} {size:Nat} {w w':ay} {F G:Nat->Prop} {s y:Sl} {xs ys:List α} {e:TypeId} {B:Nat}
abbrev lV(r:Rp α)(size:Nat)(w:ay)(F:Nat->Prop):List α->List (List az)->Prop:=gA λx cs=>cs.length=size/\r w F x cs
theorem lV.sz{css}(h:lV r size w F xs css):∀c,c∈css->c.length=size:=λc hc=>by
 obtain⟨_,h1,_⟩:=h.mem c hc;exact h1
theorem lV.keep(hr:r.Ok){css}(h:lV r size w F xs css)(hk:∀k,F k->k<w.heap.size->w'.heap[k]? =w.heap[k]?):lV r size w' F xs css:=
 h.imp λ_ _ h1=>⟨h1.1,hr.keep h1.2 hk⟩
theorem lV.mono(hr:r.Ok){css}(h:lV r size w F xs css)(hk:∀k,F k->G k):lV r size w G xs css:=
 h.imp λ_ _ h1=>⟨h1.1,hr.mono h1.2 hk⟩
theorem lV.inHeap(hr:r.Ok){css}(h:lV r size w F xs css):lV r size w (λk=>F k/\k<w.heap.size) xs css:=
 h.imp λ_ _ h1=>⟨h1.1,hr.inHeap h1.2⟩
theorem SliceF.T6{base:Addr}:∀xs k,(∀j x,xs[j]? =some x->∃cs,cs.length=size/\Cells w (base.add ((k+j)*size)) cs/\r w F x cs)->
  ∃css,lV r size w F xs css/\Cells w (base.add (k*size)) css.flatten
 | [],k,_=>⟨[],trivial,Cells.nil _ _⟩
 | x::xs,k,h=>by
  obtain⟨cs,h1,h2,h3⟩:=h 0 x rfl;obtain⟨css,k1,k2⟩:=SliceF.T6 xs _ (λj y hj=>by
   obtain⟨ds,g1,g2,g3⟩:=h (j+1) y ac6;exact⟨ds,g1,by rw[show k+1+j=k+(j+1) by omega];exact g2,g3⟩)
  refine⟨cs::css,⟨⟨h1,h3⟩,k1⟩,?_⟩;refine Cells.zX acM ?_;rw[pZ,h1,show k*size+size=(k+1)*size by rw[eM];omega];exact k2
theorem SliceF.flat(h:SliceF r size w F s xs)(hx:xs≠[]):∃base css,s.a=some base/\F base.block/\lV r size w F xs css/\Cells w base css.flatten:=by
 cases xs with
 | nil=>exact absurd rfl hx
 | cons x xs=>
  obtain⟨base,_,h1,h2,_⟩:=h.at_ 0 x rfl;obtain⟨css,k1,k2⟩:=SliceF.T6 (r:=r) (size:=size) (w:=w) (F:=F) (base:=base) _ 0 (λj y hj=>by
   obtain⟨b',cs,g1,g2,g3,g4,g5⟩:=h.at_ j y hj;rw[h1]at g1;injection g1 with g1;subst g1;exact⟨cs,g3,by simpa using g4,g5⟩)
  exact⟨base,css,h1,h2,k1,by rw[zD,C1]at k2;exact k2⟩
theorem SliceF.of{base}{css}(he:lV r size w F xs css)(ha:s.a=some base)(hF:F base.block)(hc:Cells w base css.flatten)(hn:s.n=xs.length)(sC:s.n<=s.c)(Ul:s.c<=9223372036854775807):SliceF r size w F s xs:=
 ⟨hn,sC,λh=>(by rw[ha]at h;cases h),Ul,λj x hx=>by
  obtain⟨cs,h1,h2,h3⟩:=he.get hx;exact⟨base,cs,ha,hF,h2,λi v hi=>by rw[pZ];exact hc _ v (Eg he.sz h1 hi),h3⟩⟩
def Own(r:Rp α)(size:Nat)(e:TypeId)(B:Nat)(w:ay)(F:Nat->Prop)(s:Sl)(xs:List α):Prop:=
 (s=Sl.nil/\xs=[])∨∃g css tail,s.a=some ⟨g,0,none⟩/\B<=g/\Blk w g e (css.flatten++tail)/\tail.length=(s.c-s.n)*size/\s.n=xs.length/\s.n<=s.c/\s.c<=9223372036854775807/\lV r size w (λk=>F k/\k≠g) xs css
theorem Own.len(h:Own r size e B w F s xs):s.n=xs.length:=by
 rcases h with⟨rfl,rfl⟩ | ⟨g,css,tail,_,_,_,_,h,_⟩
 ·rfl
 exact h
theorem Own.cap(h:Own r size e B w F s xs):s.n<=s.c:=by
 rcases h with⟨rfl,rfl⟩ | ⟨g,css,tail,_,_,_,_,_,h,_,_⟩
 ·exact ba _
 exact h
theorem Own.slice(hr:r.Ok)(h:Own r size e B w F s xs):SliceF r size w (λk=>F k∨(B<=k/\s.a=some ⟨k,0,none⟩)) s xs:=by
 rcases h with⟨rfl,rfl⟩ | ⟨g,css,tail,h1,h2,h4,h5,h6,h7,h9,h8⟩
 ·exact SliceF.nil _ _ _ _
 exact SliceF.of (h8.mono hr λk hk=>.inl hk.1) h1 (.inr ⟨h2,h1⟩) (h4.cells 0 _ λj v hj=>by
  rw[bO,bM (aZ.1 hj).1];exact hj) h6 h7 h9
theorem Own.keep(hr:r.Ok)(h:Own r size e B w F s xs)(hk:∀k,(F k∨(B<=k/\s.a=some ⟨k,0,none⟩))->k<w.heap.size->w'.heap[k]? =w.heap[k]?):Own r size e B w' F s xs:=by
 rcases h with⟨rfl,rfl⟩ | ⟨g,css,tail,h1,h2,h4,h5,h6,h7,h9,h8⟩
 ·exact .inl ⟨rfl,rfl⟩
 exact .inr ⟨g,css,tail,h1,h2,(hk g (.inr ⟨h2,h1⟩) h4.lt).trans h4,h5,h6,h7,h9,h8.keep hr λk hF=>hk k (.inl hF.1)⟩
theorem Own.mono(hr:r.Ok)(h:Own r size e B w F s xs)(hk:∀k,F k->G k):Own r size e B w G s xs:=by
 rcases h with⟨rfl,rfl⟩ | ⟨g,css,tail,h1,h2,h4,h5,h6,h7,h9,h8⟩
 ·exact .inl ⟨rfl,rfl⟩
 exact .inr ⟨g,css,tail,h1,h2,h4,h5,h6,h7,h9,h8.mono hr λk h=>⟨hk k h.1,h.2⟩⟩
theorem Own.low{B'}(h:Own r size e B w F s xs)(hB:B'<=B):Own r size e B' w F s xs:=by
 rcases h with⟨rfl,rfl⟩ | ⟨g,css,tail,h1,h2,h4⟩
 ·exact .inl ⟨rfl,rfl⟩
 exact .inr ⟨g,css,tail,h1,bf hB h2,h4⟩
theorem Own.nil(r:Rp α) size e B w F:Own r size e B w F Sl.nil []:=.inl ⟨rfl,rfl⟩
theorem Own.inHeap(hr:r.Ok)(h:Own r size e B w F s xs):Own r size e B w (λk=>F k/\k<w.heap.size) s xs:=by
 rcases h with⟨rfl,rfl⟩ | ⟨g,css,tail,h1,h2,h4,h5,h6,h7,h9,h8⟩
 ·exact .inl ⟨rfl,rfl⟩
 exact .inr ⟨g,css,tail,h1,h2,h4,h5,h6,h7,h9,(h8.inHeap hr).mono hr λk h=>⟨⟨h.1.1,h.2⟩,h.1.2⟩⟩
theorem Own.blk(h:Own r size e B w F s xs){ad}(ha:s.a=some ad):B<=ad.block/\ad.block<w.heap.size:=by
 rcases h with⟨rfl,rfl⟩ | ⟨g,css,tail,h1,h2,h4,_⟩
 ·cases ha
 rw[h1]at ha;injection ha with ha;subst ha;exact⟨h2,h4.lt⟩
theorem SliceF.ahQ(h:SliceF r size w F s xs):∃css,lV r size w F xs css/\∀base,s.a=some base->Cells w base css.flatten:=by
 cases xs with
 | nil=>exact⟨[],trivial,λb _=>Cells.nil _ _⟩
 | cons x xs=>
  obtain⟨base,css,h1,h2,h3,h4⟩:=h.flat aac;exact⟨css,h3,λb hb=>by rw[h1]at hb;injection hb with hb;subst hb;exact h4⟩
theorem lV.Ky{css}(h:lV r size w F xs css):css.flatten.length=xs.length*size:=by rw[qb h.sz,h.len]
theorem lV.one(hr:r.Ok){css}(h:lV r size w F xs css):∀v,v∈css.flatten->v.oneCell'=true:=λv hv=>by
 obtain⟨c,hc,hv⟩:=List.mem_flatten.1 hv;obtain⟨x,_,hx⟩:=h.mem c hc;exact hr.one hx v hv
theorem afz(l m:List az) z:(l.toArray++m.toArray++z)=(l++m++z.toList).toArray:=by
 simp
section
variable {P:Program} {t ty:TypeId} {i:TypeInfo} {z:az} {bytes:Nat}
theorem vS(w:ay) k (PC:z.cells.size=size):(Builtin.zeroCells z.cells k).toList.length=k*size:=by
 rw[fA,size_zeroCells,PC]
theorem Oc(ht:P.underlying t=some (.slice e))(hi:P.info? e=some i)(hz:i.zero=some z)(qL:i.size=size)(X1:i.bytes=bytes)(PC:z.cells.size=size)
  (hr:r.Ok) {css} (k1:lV r size w F xs css) (k2:∀base,s.a=some base->Cells w base css.flatten) (Cq:s.a=none->s.c=0) (sQ:s.n=xs.length) (hsc:s.n<=s.c)
  (hy:SliceF r size w F y ys) (qM:s.c<s.n+y.n) (hm:(xs.length+ys.length)*bytes<=140737488355328) (xt:0<bytes):
  ∃s' w',(Builtin.append_ #[t,t] ty #[s.v,y.v]).run P w=.ok s'.v w'/\Own r size e w.heap.size w' F s' (xs++ys)/\Only [] w w'/\s'.a=some ⟨w.heap.size,0,none⟩:=by
 subst qL;subst X1;have Ul:=bf (by have:=Gc (xs.length+ys.length) xt;omega) hm;have PD:=hy.len;have ZV:y.n≠0:=aG
 have hyx:ys≠[]:=λh=>ZV (by rw[PD,h];rfl);obtain⟨yb,Gq,m1,m2,m3,m4⟩:=hy.flat hyx;obtain⟨sa,sn,sc⟩:=s;obtain⟨ya,yn,yc⟩:=y;dsimp only at sQ hsc Cq PD ZV qM m1 k2;subst m1;have hold:=Only.drew w;have key:∀lG Qo,lG=sn+yn->∀W',W'=w.drew.alloc (.cells (css.flatten.toArray++Gq.flatten.toArray++Builtin.zeroCells z.cells (grownCap w lG Qo e-lG)) e)->
   Own r i.size e w.heap.size W' F ⟨some ⟨w.heap.size,0,none⟩,lG,grownCap w lG Qo e⟩ (xs++ys)/\Only [] w W':=by
  rintro lG Qo rfl W' rfl;have hO:Only [] w (w.drew.alloc (.cells (css.flatten.toArray++Gq.flatten.toArray++Builtin.zeroCells z.cells (grownCap w (sn+yn) Qo e-(sn+yn))) e)):=hold.cr (Only.alloc _ _);refine⟨.inr ⟨w.heap.size,css++Gq,(Builtin.zeroCells z.cells _).toList,rfl,ba _,?_,vS w _ PC,?_,grownCap_ge _ _ _ _,grownCap_le_maxLen _ _ _ _ (by simp[maxLen];omega),?_⟩,hO⟩
  ·rw[afz,Gf];exact Blk.alloc w.drew e _
  ·simp;omega
  refine((lV.mono hr (lV.inHeap hr (gA.zX k1 m3)) (G:=λk=>F k/\k≠w.heap.size) λk h=>⟨h.1,by have:=h.2;omega⟩)).keep hr λk hk bT=>hO.block k bT aac
 cases sa with
 | none=>
  have hsc:=Cq rfl;subst hsc;have Vw:sn=0:=aG
  subst Vw;have hx:=bR sQ.symm;subst hx;cases css with
  | cons c css=>exact k1.elim
  | nil=>
   have tU:=run_append_nil (P:=P) w t ty e i z ht hi hz yb yn yc Gq.flatten (by rw[m3.Ky,PD]) m4 aG aG (by
    have:(0+ys.length)*i.bytes<=140737488355328:=abz
    rw[bO,<-PD]at this;omega)
   obtain⟨g1,g2⟩:=key yn 0 aac _ rfl;exact⟨_,_,tU,by simpa using g1,by simpa using g2,rfl⟩
 | some b=>
  have tU:=run_append_grow (P:=P) w t ty e i z ht hi hz b sn sc css.flatten (by rw[k1.Ky,sQ]) (k2 b rfl) yb yn yc Gq.flatten (by rw[m3.Ky,PD]) m4 qM aG (growslice_fits qM (by rw[sQ,PD];exact hm));obtain⟨g1,g2⟩:=key _ sc rfl _ rfl;exact⟨_,_,tU,g1,g2,rfl⟩
theorem Q4(ht:P.underlying t=some (.slice e))(hi:P.info? e=some i)(qL:i.size=size)
  (hr:r.Ok) {g} {css} {tail} (ha:s.a=some ⟨g,0,none⟩) (hB:B<=g) (hb:Blk w g e (css.flatten++tail)) (ux:tail.length=(s.c-s.n)*size) (hn:s.n=xs.length) (hc:s.n<=s.c) (Ul:s.c<=9223372036854775807)
  (hE:lV r size w (λk=>F k/\k≠g) xs css) (hy:SliceF r size w (λk=>F k/\k≠g) y ys) (qM:s.n+y.n<=s.c):
  ∃w',(Builtin.append_ #[t,t] ty #[s.v,y.v]).run P w=.ok (Sl.v ⟨s.a,s.n+y.n,s.c⟩) w'/\Own r size e B w' F ⟨s.a,s.n+y.n,s.c⟩ (xs++ys)/\Only [g] w w':=by
 subst qL;have PD:=hy.len;obtain⟨sa,sn,sc⟩:=s;obtain⟨ya,yn,yc⟩:=y;dsimp only at ha hn hc ux qM PD;subst ha;obtain⟨Gq,m3,m4⟩:=hy.ahQ;have pC:css.flatten.length=sn*i.size:=by rw[hE.Ky,hn]
 have zm:Gq.flatten.length=yn*i.size:=by rw[m3.Ky,PD]
 have kA:sn*i.size+yn*i.size<=sn*i.size+tail.length:=by
  rw[ux,<-eM,<-eM];exact jD _ aG
 have tU:(Builtin.append_ #[t,t] ty #[.slice (some ⟨g,0,none⟩) sn sc,.slice ya yn yc]).run P w=
   .ok (.slice (some ⟨g,0,none⟩) (sn+yn) sc) (w.setRow g ((css.flatten++Gq.flatten)++tail.drop (yn*i.size)).toArray):=by
  have zo:((css.flatten++tail).toArray.toList.take (sn*i.size)++Gq.flatten++(css.flatten++tail).toArray.toList.drop (sn*i.size+Gq.flatten.length))=(css.flatten++Gq.flatten)++tail.drop (yn*i.size):=by
   rw[iG,<-pC,CR,zm,List.drop_append];rw[oS aG,cF,eE]
  cases ya with
  | some ya=>
   have:=run_append_room (P:=P) w t ty e i ht hi g sn sc (css.flatten++tail).toArray hb ya yn yc Gq.flatten zm (m4 ya rfl) (m3.one hr) qM (by
    rw[eK,aW,zm,pC];exact kA)
   rw[this,zo]
  | none=>
   have hyx:ys=[]:=by
    cases ys with
    | nil=>rfl
    | cons x xs=>obtain⟨_,_,h,_⟩:=hy.at_ 0 x rfl;cases h
   subst hyx;have ZV:=by simpa using PD
   subst ZV;cases Gq with
   | cons c cs=>exact m3.elim
   | nil=>
    have uZ:w.setRow g ((css.flatten++([]).flatten)++tail.drop (0*i.size)).toArray=w:=by
     have:=setRow_self w g (css.flatten++tail).toArray e (0,0) hb;simpa using this
    rw[uZ];simp[Builtin.append_,run_underlying ht,sizeOf,typeInfo,hi,Builtin.lenOf,Builtin.firstCells,hc,storeCells]
 have hO:Only [g] w (w.setRow g ((css.flatten++Gq.flatten)++tail.drop (yn*i.size)).toArray):=Only.setRow _ _ _;refine⟨_,tU,.inr ⟨g,css++Gq,tail.drop (yn*i.size),rfl,hB,?_,?_,?_,qM,Ul,?_⟩,hO⟩
 ·rw[Gf];exact hb.setRow _
 ·rw[cP,ux,<-Nat.sub_mul];congr 1;dsimp only;omega
 ·dsimp only;rw[aW];omega
 exact lV.keep hr (gA.zX hE m3) λk hk bT=>hO.block k bT adv
theorem vT(ht:P.underlying t=some (.slice e))(hi:P.info? e=some i)(hz:i.zero=some z)(qL:i.size=size)(X1:i.bytes=bytes)(PC:z.cells.size=size)
  (hr:r.Ok) (hs:Own r size e B w F s xs) (hy:SliceF r size w (λk=>F k/\s.a≠some ⟨k,0,none⟩) y ys) (hB:B<=w.heap.size) (hm:(xs.length+ys.length)*bytes<=140737488355328) (xt:0<bytes):
  ∃s' w',(Builtin.append_ #[t,t] ty #[s.v,y.v]).run P w=.ok s'.v w'/\Own r size e B w' F s' (xs++ys)/\∃gs,Only gs w w'/\(∀g,g∈gs->s.a=some ⟨g,0,none⟩/\B<=g/\g<w.heap.size)/\(s'.a=s.a∨s'.a=some ⟨w.heap.size,0,none⟩):=by
 by_cases qM:s.n+y.n<=s.c
 ·rcases hs with⟨rfl,rfl⟩ | ⟨g,css,tail,h1,h2,h4,h5,h6,h7,h9,h8⟩
  ·have ZV:y.n=0:=by simpa using qM
   have hyx:ys=[]:=by have:=hy.len;rw[ZV]at this;exact bR this.symm
   subst hyx;refine⟨Sl.nil,w,?_,.inl ⟨rfl,rfl⟩,[],Only.refl _ _,aac,.inl rfl⟩;obtain⟨ya,yn,yc⟩:=y;dsimp only at ZV;subst ZV;cases ya<;>simp[Builtin.append_,run_underlying ht,sizeOf,typeInfo,hi,Builtin.lenOf,Builtin.firstCells,loadCells,loadCellsFrom]
  obtain⟨w',k1,k2,k3⟩:=Q4 (ty:=ty) ht hi qL hr h1 h2 h4 h5 h6 h7 h9 h8 (hy.mono hr λk hk=>⟨hk.1,λh=>hk.2 (by rw[h,h1])⟩) qM;exact⟨_,w',k1,k2,[g],k3,λg' yU=>by simp at yU;subst yU;exact⟨h1,h2,h4.lt⟩,.inl rfl⟩
 have sQ:=hs.len;have hsc:=hs.cap;have hy':SliceF r size w F y ys:=hy.mono hr λk hk=>hk.1;have go:∀css,lV r size w F xs css->(∀base,s.a=some base->Cells w base css.flatten)->(s.a=none->s.c=0)->
   ∃s' w',(Builtin.append_ #[t,t] ty #[s.v,y.v]).run P w=.ok s'.v w'/\Own r size e B w' F s' (xs++ys)/\∃gs,Only gs w w'/\(∀g,g∈gs->s.a=some ⟨g,0,none⟩/\B<=g/\g<w.heap.size)/\(s'.a=s.a∨s'.a=some ⟨w.heap.size,0,none⟩):=by
  intro css k1 k2 k3;obtain⟨s',w',g1,g2,g3,g4⟩:=Oc (ty:=ty) ht hi hz qL X1 PC hr k1 k2 k3 sQ hsc hy' aG hm xt;exact⟨s',w',g1,g2.low hB,[],g3,aac,.inr g4⟩
 rcases hs with⟨rfl,rfl⟩ | ⟨g,css,tail,h1,h2,h4,h5,h6,h7,h9,h8⟩
 ·exact go [] trivial (λ_ h=>aal) (λ_=>rfl)
 refine go css (h8.mono hr λk hk=>hk.1) (λbase hb=>?_) (λh=>by rw[h1]at h;cases h);rw[h1]at hb;injection hb with hb;subst hb;exact h4.cells 0 _ λj v hj=>by
  rw[bO,bM (aZ.1 hj).1];exact hj
theorem jv(ht:P.underlying t=some (.slice e))(hi:P.info? e=some i)(hz:i.zero=some z)(qL:i.size=size)(h0:0<size){vs:List az}{len}{parts}
  (hp:parts=((vs.zipIdx 0).map λx=>(x.2,x.1)).toArray) (hl:vs.length=len) (ZW:0<len) (CK:len*size<=16777216)
  (hr:r.Ok) (hE:lV r size w F xs (vs.map λv=>v.cells.toList)):
  ∃s w',(Instr.buildSlice t len parts).run P w=.ok (Sl.v s) w'/\Own r size e w.heap.size w' F s xs/\Only [] w w'/\s.a=some ⟨w.heap.size,0,none⟩/\s.n=xs.length/\s.c=xs.length:=by
 subst qL;subst hp;subst hl;have Gs:=by have:=hE.len;rwa[bA]at this
 have hsz:=λv hv=>by
  have:=hE.sz _ (cQ.2 ⟨v,hv,rfl⟩);simpa using this
 have tU:=run_buildSlice (P:=P) w t e vs.length ((vs.zipIdx 0).map λx=>_).toArray (vs.flatMap λv=>v.cells.toList).toArray i z ht hi hz aG
  (by have:=Nat.mul_lt_mul_of_pos_left h0 ZW;omega)
  (by rw[iG];exact Go.Great.fill_whole h0 vs _ hsz aac)
 have hO:Only [] w (w.alloc (.cells (vs.flatMap λv=>v.cells.toList).toArray e)):=Only.alloc _ _;refine⟨⟨some _,vs.length,vs.length⟩,_,tU,.inr ⟨w.heap.size,vs.map (λv=>v.cells.toList),[],rfl,ba _,?_,aac,Gs.symm,ba _,?_,?_⟩,hO,rfl,Gs.symm,Gs.symm⟩
 ·rw[bQ,List.flatMap_def.symm.trans rfl];exact Blk.alloc w e _
 ·have:vs.length<=vs.length*i.size:=Nat.le_mul_of_pos_right _ h0;dsimp only;omega
 exact((lV.mono hr (lV.inHeap hr hE) (G:=λk=>F k/\k≠w.heap.size) λk h=>⟨h.1,by have:=h.2;omega⟩)).keep hr λk hk bT=>hO.block k bT aac
end
end
def jF:Rp UInt8:=λ_ _ b cs=>cs=[gw b]
theorem vU:jF.Ok where
 keep h _:=h
 inHeap h:=h
 mono h _:=h
 one h v hv:=by
  rw[show _=[gw _]from h]at hv;simp at hv;subst hv;rfl
theorem BytesF.slice{w}{F}{s}{l}(h:BytesF w F s l)(h0:s.a=none->s.c=0)(hb:s.c<=9223372036854775807):SliceF jF 1 w F s l:=
 ⟨h.rd.1,h.cap,h0,hb,λj x hx=>by
  have hl:l≠[]:=λe=>by rw[e]at hx;simp at hx
  obtain⟨ad,h1,h2⟩:=h.rd.2 hl;exact⟨ad,[gw x],h1,h.blk ad h1 hl,rfl,by rw[kl];exact h2.eh j _ aeK,rfl⟩⟩
theorem SliceF.bytes{w}{F}{s}{l}(h:SliceF jF 1 w F s l):BytesF w F s l:=
 ⟨⟨h.len,λhl=>by
  obtain⟨base,css,h1,h2,h3,h4⟩:=h.flat hl;refine⟨base,h1,?_⟩;have:∀l css,lV jF 1 w F l css->css.flatten=l.map gw:=by
   intro l
   induction l with
   | nil=>intro css h;cases css with
    | nil=>rfl
    | cons c cs=>exact h.elim
   | cons b l ih=>intro css h;cases css with
    | nil=>exact h.elim
    | cons c cs=>
     obtain⟨⟨_,h1⟩,h2⟩:=h;rw[dy,ih cs h2,show c=[gw b]from h1];rfl
  rw[<-this l css h3];exact h4⟩,h.cap,λad ha hl=>by
   obtain⟨base,css,h1,h2,_⟩:=h.flat hl;rw[ha]at h1;injection h1 with h1;rw[h1];exact h2⟩
theorem lV.bytes{w}{F G}{l}{css}(h:lV jF 1 w F l css):lV jF 1 w G l css:=gA.imp (λ_ _ h=>h) h
theorem Own.bytes{w}{F G}{e}{B}{s}{l}(h:Own jF 1 e B w F s l):Own jF 1 e B w G s l:=by
 rcases h with h | ⟨g,css,tail,h1,h2,h4,h5,h6,h7,h9,h8⟩
 ·exact .inl h
 exact .inr ⟨g,css,tail,h1,h2,h4,h5,h6,h7,h9,lV.bytes h8⟩
def rInt:Rp Int:=λ_ _ x cs=>cs=[.int .i64 x]/\rf x
theorem bF:rInt.Ok where
 keep h _:=h
 inHeap h:=h
 mono h _:=h
 one h v hv:=by
  rw[h.1]at hv;simp at hv;subst hv;rfl
structure OnlyP (F:Nat->Prop) (w w':ay):Prop where
 os:w'.os=w.os
 tape:w'.tape=w.tape
 output:w'.output=w.output
 size:w.heap.size<=w'.heap.size
 block:∀k,k<w.heap.size->¬F k->w'.heap[k]? =w.heap[k]?
section
variable {w w' tT:ay} {F G:Nat->Prop} {bs:List Nat}
theorem Only.p(h:Only bs w w')(hb:∀b,b∈bs->F b∨w.heap.size<=b):OnlyP F w w':=
 ⟨h.os,h.tape,h.output,h.size,λk hk hn=>h.block k hk λhm=>(hb k hm).elim hn λh=>aG⟩
theorem Only.p0(h:Only [] w w'):OnlyP F w w':=h.p aac
theorem OnlyP.refl F w:OnlyP F w w:=(Only.refl [] w).p0
theorem OnlyP.mono(h:OnlyP F w w')(hb:∀k,k<w.heap.size->F k->G k):OnlyP G w w':=⟨h.os,h.tape,h.output,h.size,λk hk hn=>h.block k hk λhf=>hn (hb k hk hf)⟩
theorem OnlyP.trans(h:OnlyP F w w')(k:OnlyP G w' tT)(hb:∀k,G k->F k∨w.heap.size<=k):OnlyP F w tT:=
 ⟨k.os.trans h.os,k.tape.trans h.tape,k.output.trans h.output,bf h.size k.size,λi hi hn=>
  (k.block i (cq hi h.size) λhg=>(hb i hg).elim hn λh=>aG).trans (h.block i hi hn)⟩
theorem OnlyP.cr(h:OnlyP F w w')(k:Only [] w' tT):OnlyP F w tT:=h.trans (k.p0 (F:=λ_=>False)) λ_ h=>h.elim
theorem Only.mZ(h:Only [] w w')(k:OnlyP F w' tT):OnlyP F w tT:=(h.p0 (F:=F)).trans k λ_ h=>.inl h
theorem OnlyP.only(h:OnlyP F w w')(hb:∀k,F k->w.heap.size<=k):Only [] w w':=
 ⟨h.os,h.tape,h.output,h.size,λk hk _=>h.block k hk λhf=>by have:=hb k hf;omega⟩
theorem OnlyP.ahR(h:OnlyP F w w')(hb:∀k,F k->k∈bs∨w.heap.size<=k):Only bs w w':=
 ⟨h.os,h.tape,h.output,h.size,λk hk hn=>h.block k hk λhf=>(hb k hf).elim hn λh=>aG⟩
theorem OnlyP.same(h:OnlyP F w w')(hl:∀x,x∈bs->x<w.heap.size/\¬F x):ci bs w w':=λx hx=>h.block x (hl x hx).1 (hl x hx).2
theorem OnlyP.blk(h:OnlyP F w w'){b}{t}{cs}(hb:Blk w b t cs)(hn:¬F b):Blk w' b t cs:=(h.block b hb.lt hn).trans hb
end
section
variable {α:Type} {r:Rp α} {size:Nat} {w w':ay} {F G:Nat->Prop} {s:Sl} {xs:List α} {e:TypeId} {B:Nat} {bs:List Nat}
theorem SliceF.only(hr:r.Ok)(h0:0<size)(h:SliceF r size w F s xs)(hO:Only bs w w')(hb:∀k,F k->k<w.heap.size->k∉bs):SliceF r size w' F s xs:=
 h.keep hr h0 λk hF bT=>hO.block k bT (hb k hF bT)
theorem SliceF.nP(hr:r.Ok)(h0:0<size)(h:SliceF r size w F s xs)(hO:OnlyP G w w')(hb:∀k,F k->k<w.heap.size->¬G k):SliceF r size w' F s xs:=
 h.keep hr h0 λk hF bT=>hO.block k bT (hb k hF bT)
theorem Rp.Ok.only(hr:r.Ok){x}{cs}(h:r w F x cs)(hO:Only bs w w')(hb:∀k,F k->k<w.heap.size->k∉bs):r w' F x cs:=hr.keep h λk hF bT=>hO.block k bT (hb k hF bT)
theorem aaK{s}(h:SliceF r size w F s xs)(ha:s.a=none):xs=[]:=by
 have h0:=h.nil0 ha;have h1:=h.cap;have h2:=h.len;exact bR aG
theorem lV.at(h:∃css,lV r size w F xs css):True:=trivial
theorem lV.setAt{css}(h:lV r size w F xs css) j {x} {c} (hc:c.length=size) (hx:r w F x c):lV r size w F (xs.set j x) (css.set j c):=gA.set j h ⟨hc,hx⟩
theorem GL{css:List _}{tail}:∀{n:Nat} {cs vs:List az},(∀c,c∈css->c.length=size)->css[n]? =some cs->vs.length=size->
  cz (css.flatten++tail) (n*size) vs=(css.set n vs).flatten++tail:=by
 induction css with
 | nil=>intro n cs vs _ h;simp at h
 | cons c css ih=>
  intro n cs vs hs hn hv;have hc:=hs c aac;cases n with
  | zero=>
   simp[cz,zD,de,cF,bO,List.set_cons_zero,dy,bP,hv];rw[<-hc,List.drop_left]
  | succ n=>
   have:=ih (λd hd=>hs d (by simp[hd])) hn hv;have e:(n+1)*size=c.length+n*size:=by rw[eM,hc];omega
   simp only[cz]at this⊢;simp;rw[e,VO,eY,VP,<-this];simp
end
section
variable {α:Type} {r:Rp α} {size:Nat} {w w':ay} {F G:Nat->Prop} {s:Sl} {xs:List α} {e:TypeId} {B:Nat} {P:Program} {t ty:TypeId} {i:TypeInfo} {z v:az} {bytes:Nat} {x:α}
theorem jG(ht:P.underlying t=some (.slice e))(hi:P.info? e=some i)(hz:i.zero=some z)(qL:i.size=size)(X1:i.bytes=bytes)(PC:z.cells.size=size)(h0:0<size)(xt:0<bytes)(CK:1*size<=16777216)
  (hr:r.Ok) (hs:Own r size e B w F s xs) (hB:B<=w.heap.size) (hv:v.cells.toList.length=size) (hx:r w G x v.cells.toList) (hG:∀k,G k->k<w.heap.size->F k/\s.a≠some ⟨k,0,none⟩) (hm:(xs.length+1)*bytes<=140737488355328):
  ∃y w1,(Instr.buildSlice t 1 #[(0,v)]).run P w=.ok (Sl.v y) w1/\Only [] w w1/\∃s' w2,(Builtin.append_ #[t,t] ty #[Sl.v s,Sl.v y]).run P w1=.ok (Sl.v s') w2/\
   Own r size e B w2 (λk=>F k∨w.heap.size<=k) s' (xs++[x])/\(∃gs,Only gs w1 w2/\∀g,g∈gs->s.a=some ⟨g,0,none⟩/\B<=g/\g<w.heap.size)/\(s'.a=s.a∨∃g,s'.a=some ⟨g,0,none⟩/\w.heap.size<=g):=by
 obtain⟨y,w1,k1,k2,k3,k4,k5,k6⟩:=jv (P:=P) (t:=t) (e:=e) (i:=i) (z:=z) (w:=w) (F:=λk=>G k/\k<w.heap.size) (vs:=[v]) (parts:=#[_]) (len:=1) (xs:=[x]) (r:=r) (size:=size) ht hi hz qL h0 rfl rfl aN CK hr ⟨⟨hv,hr.inHeap hx⟩,trivial⟩;have vL:Own r size e B w1 (λk=>F k∨w.heap.size<=k) s xs:=((hs.inHeap hr).keep hr λk _ bT=>k3.block k bT aac).mono hr λk hk=>.inl hk.1;have hy:=(k2.slice hr).mono hr (G:=λk=>(F k∨w.heap.size<=k)/\s.a≠some _) λk hk=>by
  rcases hk with⟨hk,bT⟩ | ⟨hk,_⟩
  ·exact⟨.inl (hG k hk bT).1,(hG k hk bT).2⟩
  exact⟨.inr hk,λha=>by have:=(hs.blk ha).2;dsimp only at this;omega⟩
 obtain⟨s',w2,g1,g2,gs,g3,g4,g5⟩:=vT (ty:=ty) ht hi hz qL X1 PC hr vL hy (bf hB k3.size) hm xt;refine⟨y,w1,k1,k3,s',w2,g1,g2,⟨gs,g3,λg hg=>⟨(g4 g hg).1,(g4 g hg).2.1,(hs.blk (g4 g hg).1).2⟩⟩,?_⟩;rcases g5 with h | h
 ·exact .inl h
 exact .inr ⟨_,h,k3.size⟩
theorem Own.store(hr:r.Ok)(hs:Own r size e B w F s xs){n}(hn:n<xs.length){x}{vs}(hv:vs.length=size)(hx:r w G x vs)(hG:∀k,G k->k<w.heap.size->F k/\s.a≠some ⟨k,0,none⟩)(h0:0<size):
  ∃g cells,s.a=some ⟨g,0,none⟩/\dE s n size ⟨g,n*size,none⟩/\Blk w g e cells/\n*size+size<=cells.length/\
   ∀w',Only [g] w w'->Blk w' g e (cz cells (n*size) vs)->Own r size e B w' F s (xs.set n x):=by
 rcases hs with⟨rfl,rfl⟩ | ⟨g,css,tail,h1,h2,h4,h5,h6,h7,h9,h8⟩
 ·simp at hn
 have pC:=h8.len;have hcn:n<css.length:=aG
 have KE:=qb h8.sz;have kA:=by
  have:=jD size (show n+1<=css.length by omega);rw[eM]at this;omega
 refine⟨g,_,h1,⟨_,h1,aG,aG,by rw[fP,aU,bO]⟩,h4,abA,λw' hO hb=>.inr ⟨g,css.set n vs,tail,h1,h2,?_,h5,by rw[iB];exact h6,h7,h9,?_⟩⟩
 ·rw[GL h8.sz (aQ hcn) hv]at hb;exact hb
 refine lV.setAt (h8.keep hr λk hk bT=>hO.block k bT adv) n hv (hr.keep (w:=w) (F:=λk=>F k/\k≠g) ?_ λk hk bT=>hO.block k bT adv);refine hr.mono (hr.inHeap hx) λk hk=>?_;obtain⟨p1,p2⟩:=hG k hk.1 hk.2;exact⟨p1,λe=>p2 (by rw[h1,e])⟩
end
theorem Own.aoj{α}{r}{size}{w}{F}{s}{xs}{e}{B}(hr:r.Ok)(hs:Own r size e B w F s xs){n:Nat}{x:α}(hx:xs[n]? =some x):
  ∃g cells cs,s.a=some ⟨g,0,none⟩/\dE s n size ⟨g,n*size,none⟩/\Blk w g e cells/\cs.length=size/\Cells w ⟨g,n*size,none⟩ cs/\r w (λk=>F k/\k≠g) x cs/\
   ∀off v y G,off<size->r w G y (cs.set off v)->(∀k,G k->k<w.heap.size->F k/\k≠g)->
    n*size+off+1<=cells.length/\∀w',Only [g] w w'->Blk w' g e (cz cells (n*size+off) [v])->Own r size e B w' F s (xs.set n y):=by
 rcases hs with⟨rfl,rfl⟩ | ⟨g,css,tail,h1,h2,h4,h5,h6,h7,h9,h8⟩
 ·simp at hx
 obtain⟨cs,k1,k2,k3⟩:=h8.get hx;have pC:=h8.len;have hn:=(aZ.1 hx).1;have KE:=qb h8.sz;have kA:=by
  have:=jD size (show n+1<=css.length by omega);rw[eM]at this;omega
 refine⟨g,_,cs,h1,⟨_,h1,aG,aG,by rw[fP,aU,bO]⟩,h4,k2,h4.cells _ _ λj v hj=>?_,k3,λoff v y G ho hy hG=>⟨abA,λw' hO hb=>.inr ⟨g,css.set n (cs.set off v),tail,h1,h2,?_,h5,by rw[iB];exact h6,h7,h9,?_⟩⟩⟩
 ·have:=Eg h8.sz k1 hj;rw[bM (aZ.1 this).1];exact this
 ·rw[Jt abA,GK h8.sz k1 ho]at hb;exact hb
 refine lV.setAt (h8.keep hr λk hk bT=>hO.block k bT adv) n (by rw[iB];exact k2) ?_;refine hr.mono (hr.keep (hr.inHeap hy) λk hk bT=>hO.block k bT (by simpa using(hG k hk.1 hk.2).2)) λk hk=>hG k hk.1 hk.2
theorem gA.ahS{α β}{P}{f:α->β}:∀{xs:List α} {css:List _},gA P (xs.map f) css↔gA (λx cs=>P (f x) cs) xs css
 | [],[]=>zE
 | x::xs,c::cs=>by simp[bH,gA,gA.ahS (xs:=xs) (css:=cs)]
 | [],_::_=>zE
 | _::_,[]=>zE
theorem gA.XJ{α}{P Q}:∀{xs:List α} {css:List _},(∀x c,x∈xs->P x c->Q x c)->gA P xs css->gA Q xs css
 | [],[],_,_=>trivial
 | x::xs,c::cs,hi,h=>⟨hi _ _ aac h.1,gA.XJ (xs:=xs) (css:=cs) (λy d hy=>hi y d (by simp[hy])) h.2⟩
 | [],_::_,_,h=>h.elim
 | _::_,[],_,h=>h.elim
theorem Own.map{α β}{r:Rp α}{q:Rp β}{size}{w}{F G}{s}{xs}{e}{B} f (h:Own r size e B w F s xs) (hf:∀g x cs,x∈xs->r w (λk=>F k/\k≠g) x cs->q w (λk=>G k/\k≠g) (f x) cs):Own q size e B w G s (xs.map f):=by
 rcases h with⟨rfl,rfl⟩ | ⟨g,css,tail,h1,h2,h4,h5,h6,h7,h9,h8⟩
 ·exact .inl ⟨rfl,rfl⟩
 exact .inr ⟨g,css,tail,h1,h2,h4,h5,by rw[bA];exact h6,h7,h9,gA.ahS.2 (gA.XJ (λx c hx hc=>⟨hc.1,hf g x c hx hc.2⟩) h8)⟩
section
variable {P:Program} {w:ay}
theorem Cw{z}(hz:∀v,v∈z->v.oneCell'=true)(h0:0<z.size) n:∀v,v∈(Builtin.zeroCells z n).toList->v.oneCell'=true:=λv hv=>by
 have hv':=aeC
 simp[Builtin.zeroCells,Array.mem_map,Array.mem_range]at hv';obtain⟨i,hi,rfl⟩:=hv';have bT:i % z.size<z.size:=Nat.mod_lt _ h0;rw[oT z _ bT];exact hz _ (Array.getElem_mem bT)
theorem Cx{t e ty}{z}(ht:P.underlying t=some (.slice e))(hv:∀w,(zeroValue e).run P w=.ok z w)(h1:∀v,v∈z.cells->v.oneCell'=true)(X2:0<z.cells.size){g o n c}{bt}{cs}(hn:0<n)
  (hb:Blk w g bt cs) (FU:o+n*z.cells.size<=cs.length):
  (Builtin.clear_ #[t] ty #[.slice (some ⟨g,o,none⟩) n c]).run P w=.ok (.tuple #[]) (w.setRow g (cs.take o++(Builtin.zeroCells z.cells n).toList++cs.drop (o+n*z.cells.size)).toArray):=by
 have hl:(Builtin.zeroCells z.cells n).toList.length=n*z.cells.size:=by rw[fA,size_zeroCells]
 have lH:=run_storeCells_at P g o bt (Builtin.zeroCells z.cells n).toList 0 cs.toArray w hb (by rw[hl];simpa using FU) (Cw h1 X2 n);simp[fJ,hl,iG]at lH;obtain⟨m,rfl⟩:∃m,n=m+1:=⟨n-1,aG⟩
 simp[Builtin.clear_,run_underlying ht,hv,lH]
theorem Own.clear{α}{r:Rp α}{size}{F}{s}{xs}{e}{B}{t ty}{z}(hr:r.Ok)(h0:0<size)(ht:P.underlying t=some (.slice e))(hv:∀w,(zeroValue e).run P w=.ok z w)(h1:∀v,v∈z.cells->v.oneCell'=true)(PC:z.cells.size=size)
  (hs:Own r size e B w F s xs) {i} (hi:i<xs.length):
  ∃w' g,(Builtin.clear_ #[t] ty #[Sl.v (Sl.cut s i s.n s.c size)]).run P w=.ok (.tuple #[]) w'/\s.a=some ⟨g,0,none⟩/\Only [g] w w'/\Own r size e B w' F (Sl.cut s 0 i s.c size) (xs.take i):=by
 rcases hs with⟨rfl,rfl⟩ | ⟨g,css,tail,a1,a2,a4,a5,a6,a7,a9,a8⟩
 ·simp at hi
 obtain⟨sa,sn,sc⟩:=s;dsimp only at a1 a5 a6 a7 a9;subst a1;have KE:=a8.Ky;have KF:Sl.cut ⟨some ⟨g,0,none⟩,sn,sc⟩ i sn sc size=⟨some ⟨g,i*size,none⟩,sn-i,sc-i⟩:=by
  simp[Sl.cut];rw[aY aG];simp[dH,fP,bO]
 have e1:i*size+(sn-i)*size=sn*size:=by rw[<-eM];congr 1;omega
 have hO:=Only.setRow w g (((css.flatten++tail).take (i*size)++(Builtin.zeroCells z.cells (sn-i)).toList++(css.flatten++tail).drop (i*size+(sn-i)*z.cells.size)).toArray);refine⟨_,g,by rw[KF];exact Cx (P:=P) (w:=w) (t:=t) (ty:=ty) ht hv h1 aG (g:=g) (o:=i*size) (n:=sn-i) (c:=sc-i) aG a4 (by rw[PC,e1,aW,KE,a6];omega),rfl,hO,?_⟩;have ah6:Sl.cut ⟨some ⟨g,0,none⟩,sn,sc⟩ 0 i sc size=⟨some ⟨g,0,none⟩,i,sc⟩:=by
  simp only[Sl.cut];split<;>simp[Addr.add]
 rw[ah6];have mJ:(css.flatten++tail).take (i*size)=(css.take i).flatten:=by
  rw[QM (by rw[KE,<-a6];exact jD _ aG),Ob a8.sz]
 refine .inr ⟨g,css.take i,(Builtin.zeroCells z.cells (sn-i)).toList++(css.flatten++tail).drop (i*size+(sn-i)*z.cells.size),rfl,a2,?_,?_,?_,aaw,a9,?_⟩
 ·have:=a4.setRow ((css.flatten++tail).take (i*size)++(Builtin.zeroCells z.cells (sn-i)).toList++(css.flatten++tail).drop (i*size+(sn-i)*z.cells.size));rw[bP,mJ]at this;rw[mJ];simpa using this
 ·simp only[aW,cP,KE,<-a6,fA,size_zeroCells,a5,PC,e1];rw[eE,<-eM];congr 1;omega
 ·rw[cJ];dsimp only;omega
 refine lV.keep hr (gA.take i a8) λk hk bT=>hO.block k bT adv
end
theorem YK l m:((⟨List.toArray l⟩:ByteArray).toList==(⟨List.toArray m⟩:ByteArray).toList)=decide (l=m):=by
 by_cases h:l=m<;>simp[h]
end Go.Kt
namespace Go.Kt
open Go renaming World->ay,Value->az
open Go Go.RowKit Go.MapKept
structure MapI (w:ay) (r:Nat) (m:Int->Option Int):Prop where
 mem:∃es clock,w.heap[r]? =some (.map es clock)/\(∀x,x∈es.toList->∃k v,x.key=.int .i64 k/\x.val=.int .i64 v)/\es.toList.Pairwise (λx y=>x.key≠y.key)/\
  ∀k v,m k=some v↔∃x,x∈es.toList/\x.key=.int .i64 k/\x.val=.int .i64 v
section
variable {P:Program} {w w':ay} {r:Nat} {m:Int->Option Int} {mty kt et:TypeId}
theorem MapI.keep(h:MapI w r m)(hk:w'.heap[r]? =w.heap[r]?):MapI w' r m:=by
 obtain⟨es,c,h1,h2⟩:=h.mem;exact⟨es,c,hk.trans h1,h2⟩
theorem MapI.lt(h:MapI w r m):r<w.heap.size:=by
 obtain⟨es,c,h1,h2⟩:=h.mem;exact(gr.1 h1).1
theorem MapI.only(h:MapI w r m){bs}(hO:Only bs w w')(hn:r∉bs):MapI w' r m:=h.keep (hO.block r h.lt hn)
theorem vV{w}{r}{o o'}(hb:w.heap[r]? =some o):Only [r] w {w with heap:=w.heap.setIfInBounds r o'}:=
 ⟨rfl,rfl,rfl,aac,λk _ hn=>(heap_set hb).2 k acH⟩
theorem Ju{α:Type}{l:List α}{j}{f}{e}(h:l[j]? =some e):l.modify j f=l.set j (f e):=by
 apply gu;intro i;rw[List.getElem?_modify,K5];by_cases sD:j=i
 ·subst sD;rw[bc rfl,bc (aZ.1 h).1,h];simp
 cases l[i]? <;>simp[sD]
end
end Go.Kt
namespace Go.Kt
open Go renaming World->ay,Value->az
open Go Go.RowKit
@[reducible] def T(l:List UInt8):ByteArray:=⟨l.toArray⟩
theorem Ar(s:ByteArray):s=T s.data.toList:=by
 obtain⟨⟨l⟩⟩:=s;rfl
theorem dP(l:List UInt8):(T l).size=l.length:=by simp[T,ByteArray.size]
theorem yF(l:List UInt8)(i:Nat):(T l)[i]? =l[i]? :=by
 by_cases h:i<l.length
 ·rw[aQ h,getElem?_pos (T l) i (by rw[dP];exact h)];rfl
 rw[cN aG,getElem?_neg (T l) i (by rw[dP];exact h)]
theorem Au(l:List UInt8)(a b:Nat):(T l).extract a b=T ((l.drop a).take (b-a)):=by
 rw[Ar ((T l).extract a b),Lib.extract_data]
theorem lM(l m:List UInt8):T l++T m=T (l++m):=by
 apply ByteArray.ext;simp[T]
theorem mM(l m:List UInt8):((T l).toList==(T m).toList)=decide (l=m):=YK l m
def sW(us:Nat->az):List (Nat×az)->Nat->az
 | [],i=>us i
 | (k,v)::r,i=>bif Nat.beq k i then v else sW us r i
def qc:List (Nat×az)->Nat->Option az
 | [],_=>none
 | (k,v)::r,i=>bif Nat.beq k i then some v else qc r i
def VV(us:Nat->az)(l:List (Nat×az)):Nat->Nat->List az
 | 0,_=>[]
 | n+1,i=>sW us l i::VV us l n (i+1)
def fr(n:Nat)(us:Nat->az)(l:List (Nat×az)):Act:=⟨(VV us l n 0).toArray,[]⟩
def evO(n:Nat)(l:List (Nat×az)):Operand->Option az
 | .tmp k=>bif Nat.blt k n then qc l k else none
 | .const v=>some v
 | .global g=>some (.pointer (some ⟨g,0,none⟩))
 | .func f=>some (.func (.func f) #[] #[])
def Eh(n:Nat)(l:List (Nat×az)):List Operand->Option (List az)
 | []=>some []
 | x::r=>match evO n l x,Eh n l r with
  | some v,some vs=>some (v::vs)
  | _,_=>none
def pl:Option Tmp->az->List (Nat×az)->List (Nat×az)
 | some k,v,l=>(k,v)::l
 | none,_,l=>l
def Av:Nat->List az->List (Nat×az)
 | _,[]=>[]
 | i,v::r=>(i,v)::Av (i+1) r
def VW(l:List (Nat×az)):List (Nat×az)->Prop
 | []=>True
 | (k,v)::r=>qc l k=some v/\VW l r
section
variable {n0:Nat} {us0:Nat->az} {l0:List (Nat×az)}
theorem kF(us:Nat->az)(l:List (Nat×az)):∀n i,(VV us l n i).length=n
 | 0,_=>rfl
 | n+1,i=>by simp only[VV,bn,kF us l n (i+1)]
theorem jY(us:Nat->az)(l:List (Nat×az)):∀n i k,k<n->(VV us l n i)[k]? =some (sW us l (i+k))
 | 0,_,_,h=>aG
 | n+1,i,0,_=>rfl
 | n+1,i,k+1,h=>by
  simp only[VV,du];rw[jY us l n (i+1) k aG,show i+1+k=i+(k+1) by omega]
theorem pd{us:Nat->az}:∀{l:List (Nat×az)} {k:Nat} {v:az},qc l k=some v->sW us l k=v
 | [],_,_,h=>aal
 | (j,u)::r,k,v,h=>by
  simp only[qc,sW]at h⊢;cases hb:Nat.beq j k with
  | true=>rw[hb]at h;simpa using h
  | false=>rw[hb]at h;exact pd (l:=r) aaA
theorem zG{us:Nat->az}:∀{l:List (Nat×az)} {k:Nat},qc l k=none->sW us l k=us k
 | [],_,_=>rfl
 | (j,u)::r,k,h=>by
  simp only[qc,sW]at h⊢;cases hb:Nat.beq j k with
  | true=>rw[hb]at h;simp at h
  | false=>rw[hb]at h;exact zG (l:=r) aaA
theorem Q5{k:Nat}(hk:k<n0):(fr n0 us0 l0).eval (.tmp k)=sW us0 l0 k:=by
 show(VV us0 l0 n0 0).toArray.getD k undef=_;rw[Array.getD_eq_getD_getElem?,je,jY _ _ _ _ _ hk,bO];rfl
theorem vi{x:Operand}{v:az}(h:evO n0 l0 x=some v):(fr n0 us0 l0).eval x=v:=by
 cases x with
 | tmp k=>
  simp only[evO]at h;cases hb:Nat.blt k n0 with
  | false=>rw[hb]at h;cases h
  | true=>
   rw[hb]at h;rw[Q5 (cH hb)];exact pd h
 | const u=>simpa[evO,Act.eval]using h
 | global g=>simpa[evO,Act.eval]using h
 | func f=>simpa[evO,Act.eval]using h
theorem evC{x:Operand}{vs:Array az}(h:(evO n0 l0 x).map Value.cells=some vs):((fr n0 us0 l0).eval x).cells=vs:=by
 cases hx:evO n0 l0 x with
 | none=>rw[hx]at h;cases h
 | some v=>rw[hx]at h;rw[vi hx];simpa using h
theorem VX:∀{xs:List Operand} {vs:List az},Eh n0 l0 xs=some vs->xs.map (fr n0 us0 l0).eval=vs
 | [],vs,h=>by simp only[Eh,be]at h;subst h;rfl
 | x::r,vs,h=>by
  simp only[Eh]at h;split at h
  ·rename_i v us hx hr;simp only[be]at h;subst h;rw[bH,vi hx,VX hr]
  cases h
theorem al1{xs:List Operand}{first captured args:List az}(h:(Eh n0 l0 xs).map (λys=>first++ys++captured)=some args):first++xs.map (fr n0 us0 l0).eval++captured=args:=by
 cases hx:Eh n0 l0 xs with
 | none=>rw[hx]at h;cases h
 | some v=>rw[hx]at h;rw[VX hx];simpa using h
theorem vW{us:Nat->az}{l:List (Nat×az)}{k i:Nat}{v:az}(h:k≠i):sW us ((k,v)::l) i=sW us l i:=by
 have:Nat.beq k i=false:=by
  cases hb:Nat.beq k i with
  | false=>rfl
  | true=>exact absurd (cd hb) h
 simp only[sW,this,uL]
theorem vX{us:Nat->az}{l:List (Nat×az)}{k:Nat}{v:az}:sW us ((k,v)::l) k=v:=by
 simp only[sW,Nat.beq_refl,my]
theorem Q6{k:Nat}{v:az}:(fr n0 us0 l0).put (some k) v=fr n0 us0 ((k,v)::l0):=by
 unfold fr;rw[f0];congr 2;apply gu;intro i;rw[K5,kF];by_cases hi:i<n0
 ·rw[jY _ _ _ _ _ hi,jY _ _ _ _ _ hi,bO];split
  ·rename_i h;subst h;rw[bc hi,vX]
  rename_i h;rw[vW h]
 rw[cN adX,cN adX];split
 ·rename_i h;subst h;rw[aY hi]
 rfl
theorem VY{d:Option Tmp}{v:az}:(fr n0 us0 l0).put d v=fr n0 us0 (pl d v l0):=by
 cases d with
 | none=>rfl
 | some k=>exact Q6
theorem Li:∀{l Qp:List (Nat×az)},VW l Qp->∀{k:Nat} {v:az},qc Qp k=some v->qc l k=some v
 | _,[],_,_,_,h=>aal
 | l,(j,u)::r,hs,k,v,h=>by
  simp only[qc]at h;cases hb:Nat.beq j k with
  | true=>
   rw[hb]at h;have hk:=cd hb;subst hk;simp only[my,be]at h;rw[<-h];exact hs.1
  | false=>
   rw[hb]at h;exact Li hs.2 aaA
theorem Aw{Qp:List (Nat×az)}(h:VW l0 Qp):∃us,fr n0 us0 l0=fr n0 us Qp:=by
 refine⟨sW us0 l0,?_⟩;unfold fr;congr 2;apply gu;intro i;by_cases hi:i<n0
 ·rw[jY _ _ _ _ _ hi,jY _ _ _ _ _ hi,bO];cases hp:qc Qp i with
  | none=>rw[zG hp]
  | some v=>rw[pd hp,pd (Li h hp)]
 rw[cN adX,cN adX]
theorem xA:∀(args:List az) (j i:Nat),sW (λ_=>undef) (Av j args) i=if j<=i then(args[i-j]?).getD undef else undef
 | [],j,i=>by simp[Av,sW]
 | v::r,j,i=>by
  simp only[Av];by_cases sD:j=i
  ·subst sD;rw[vX,bc (ba _)];simp
  rw[vW sD,xA r (j+1) i];by_cases kA:j<=i
  ·rw[bc kA,bc aG,show i-j=(i-(j+1))+1 by omega,du]
  rw[aY kA,aY aG]
end
section
variable {P:Program} {ops:Array Oper} {Q:Exit->Act->ay->Prop} {rest:List Oper} {w w':ay} {n0:Nat} {us0:Nat->az} {l0:List (Nat×az)}
theorem aaL{f:FuncId}{fn:Func}{c:Code}{args:List az}{l:List (Nat×az)}{n:Nat}{R:az->ay->Prop}(hf:P.funcs[f]? =some fn)(hb:fn.body=some c)(hn:fn.ntmps=n)(hk:args.length<=n)
  (hl:Av 0 args=l)
  (h:c.wp P (bodyPost P fn λe w'=>∃v,e=.returned v/\R v w') (fr n (λ_=>undef) l) w):Calls P f args.toArray w λe w'=>∃v,e=.returned v/\R v w':=by
 subst hl;refine QY (k:=n-args.length) hf hb hn aG rfl ?_;have e:(⟨(args++List.replicate (n-args.length) undef).toArray,[]⟩:Act)=fr n (λ_=>undef) (Av 0 args):=by
  unfold fr;congr 2;apply gu;intro i;by_cases hi:i<n
  ·rw[jY _ _ _ _ _ hi,bO,xA,bc (bh _),kD];by_cases hia:i<args.length
   ·rw[bM hia,aQ hia];rfl
   rw[bZ aG,List.getElem?_replicate,bc aG,cN aG];rfl
  rw[cN aae,cN adX]
 rw[e];exact h
def asB:az->Option Bool
 | .bool b=>some b
 | _=>none
theorem GM{eP:List Oper}{j d:Nat}{oj:Oper}{v:az}(h2:gR eP j=some oj)(h3:oj.dst=some d)(h4:evO n0 l0 (.tmp d)=some v):
  yielded eP.toArray (fr n0 us0 l0).tmps j=asB v:=by
 rw[jX]at h2;have hd:d<n0:=by
  simp only[evO]at h4;cases hb:Nat.blt d n0 with
  | false=>rw[hb]at h4;cases h4
  | true=>exact cH hb
 have h5:=vi (us0:=us0) h4;rw[Q5 hd]at h5;have:(fr n0 us0 l0).tmps[d]? =some v:=by
  show(VV us0 l0 n0 0).toArray[d]? =_;rw[je,jY _ _ _ _ _ hd,bO,h5]
 simp only[yielded,je,h2,yy,h3,this];cases v<;>rfl
theorem vj{o oj:Oper}{eP:List Oper}{j d:Nat}{want b r:Bool}(h1:o.guard=some (j,want))(h2:gR eP j=some oj)(h3:oj.dst=some d)
  (h4:evO n0 l0 (.tmp d)=some (.bool b)) (h5:(b==want)=r):Region.wanted o (yielded eP.toArray (fr n0 us0 l0).tmps)=r:=by
 subst h5;have e:=GM (us0:=us0) h2 h3 h4;simp only[Region.wanted,h1,e,asB];cases b<;>cases want<;>rfl
theorem wuF{o oj:Oper}{eP:List Oper}{j d:Nat}{want:Bool}(h1:o.guard=some (j,want))(h2:gR eP j=some oj)(h3:oj.dst=some d)
  (h4:evO n0 l0 (.tmp d)=some undef):Region.wanted o (yielded eP.toArray (fr n0 us0 l0).tmps)=false:=by
 have e:=GM (us0:=us0) h2 h3 h4;simp[Region.wanted,h1,e,undef,asB]
theorem pg{x y:Option Addr}(h:x=y):some (Value.pointer x)=some (.pointer y):=by rw[h]
theorem ag{x y:Addr}(h:x=y):some (Value.pointer (some x))=some (.pointer (some y)):=by rw[h]
theorem bg{x y:Bool}(h:x=y):some (Value.bool x)=some (.bool y):=by rw[h]
theorem sv{k:Tmp}{op:Op}{t':TypeId}{p:String}{af:Array Edge}{v:az}(hr:(execOp (fr n0 us0 l0).eval ⟨some k,op,t',p,af,none⟩).run P w=.ok (.value v) w)
 (h:wpList P ops Q rest (fr n0 us0 ((k,v)::l0)) w):wpList P ops Q (⟨some k,op,t',p,af,none⟩::rest) (fr n0 us0 l0) w:=Ag v (wn rfl) hr Q6 h
theorem sn{op:Op}{t':TypeId}{p:String}{af:Array Edge}{v:az}(hr:(execOp (fr n0 us0 l0).eval ⟨none,op,t',p,af,none⟩).run P w=.ok (.value v) w)
 (h:wpList P ops Q rest (fr n0 us0 l0) w):wpList P ops Q (⟨none,op,t',p,af,none⟩::rest) (fr n0 us0 l0) w:=Ag v (wn rfl) hr (f3 _ _) h
theorem Od{d:Option Tmp}{op:Op}{t':TypeId}{p:String}{af:Array Edge}{g:Option (Nat×Bool)}{v:az}(hg:Region.wanted ⟨d,op,t',p,af,g⟩ (yielded ops (fr n0 us0 l0).tmps)=true)(hr:(execOp (fr n0 us0 l0).eval ⟨d,op,t',p,af,g⟩).run P w=.ok (.value v) w)
 (h:wpList P ops Q rest (fr n0 us0 (pl d v l0)) w):wpList P ops Q (⟨d,op,t',p,af,g⟩::rest) (fr n0 us0 l0) w:=Ag v hg hr VY h
theorem I3{d:Option Tmp}{op:Op}{t':TypeId}{p:String}{af:Array Edge}{g:Option (Nat×Bool)}(hg:Region.wanted ⟨d,op,t',p,af,g⟩ (yielded ops (fr n0 us0 l0).tmps)=false)
 (h:wpList P ops Q rest (fr n0 us0 (pl d undef l0)) w):wpList P ops Q (⟨d,op,t',p,af,g⟩::rest) (fr n0 us0 l0) w:=QO hg VY h
theorem aaM{a:Act}{l:List Oper}(k:Nat)(n:Nat)(Qp:List (Nat×az))(h1:wpList P ops (Exit.then (λa' w'=>(∃us,a'=fr n us Qp)/\w=w') Q) (l.take k) a w)
  (h2:∀us,wpList P ops Q (l.drop k) (fr n us Qp) w):wpList P ops Q l a w:=
 aaH k _ h1 (by rintro _ _ ⟨⟨us,rfl⟩,rfl⟩;exact h2 us)
theorem xB{Qp:List (Nat×az)}(h:VW l0 Qp):Exit.then (λa' w'=>(∃us,a'=fr n0 us Qp)/\w=w') Q .normal (fr n0 us0 l0) w:=⟨Aw h,rfl⟩
section
variable {K:Act->ay->Prop}
theorem VZ{d:Option Tmp}{op:Op}{t':TypeId}{p:String}{af:Array Edge}{g:Option (Nat×Bool)}{f:FuncId}{args:Array az}(hr:(execOp (fr n0 us0 l0).eval ⟨d,op,t',p,af,g⟩).run P w=.ok (.enter f args) w)
  (h:Calls P f args w λe w'=>∃v,e=.returned v/\K (fr n0 us0 (pl d v l0)) w'):Oper.wp P ⟨d,op,t',p,af,g⟩ (fr n0 us0 l0) w K Q:=
 Ed hr (h.mono (by rintro e w' ⟨v,h1,h2⟩;exact⟨v,_,h1,VY,h2⟩))
theorem Lj{ty:TypeId}{x y:Operand}{t':TypeId}{p:String}{af:Array Edge}{g:Option (Nat×Bool)}{b o:Nat}{cs vs cs':List az}{et:TypeId}{n:Nat}
  (hsz:(sizeOf ty).run P w=.ok n w) (hx:evO n0 l0 x=some (.pointer (some ⟨b,o,none⟩))) (hv:(evO n0 l0 y).map Value.cells=some vs.toArray) (hn:vs.length=n)
  (h1:vs.all Value.oneCell'=true) (hb:Blk w b et cs) (FU:o+vs.length<=cs.length) (oP:cz cs o vs=cs')
  (h:∀w1,Only [b] w w1->Blk w1 b et cs'->K (fr n0 us0 l0) w1):Oper.wp P ⟨none,.store ty x y,t',p,af,g⟩ (fr n0 us0 l0) w K Q:=
 Am hsz (vi hx) (evC hv) hn h1 hb FU oP (f3 _ _) h
theorem Lk{k:Tmp}{ty:TypeId}{t':TypeId}{p:String}{af:Array Edge}{g:Option (Nat×Bool)}{z:az}{zs:List az}
  (hz:(zeroValue ty).run P w=.ok z w) (hc:z.cells=zs.toArray)
  (h:∀b w1,w.heap.size<=b->Only [] w w1->Blk w1 b ty zs->K (fr n0 us0 ((k,.pointer (some ⟨b,0,none⟩))::l0)) w1):Oper.wp P ⟨some k,.alloc ty,t',p,af,g⟩ (fr n0 us0 l0) w K Q:=
 An hz hc (λ_=>Q6) h
theorem YL{k:Tmp}{ty:TypeId}{x:Operand}{t':TypeId}{p:String}{af:Array Edge}{g:Option (Nat×Bool)}{zs:List az}
  (hc:(evO n0 l0 x).map Value.cells=some zs.toArray)
  (h:∀b w1,w.heap.size<=b->Only [] w w1->Blk w1 b ty zs->K (fr n0 us0 ((k,.pointer (some ⟨b,0,none⟩))::l0)) w1):Oper.wp P ⟨some k,.box ty x,t',p,af,g⟩ (fr n0 us0 l0) w K Q:=
 QW (evC hc) (λ_=>Q6) h
end
section
variable {dst:Option Tmp} {x y:Operand} {t ty t':TypeId} {p:String} {af:Array Edge} {g:Option (Nat×Bool)} {k:IntKind} {m n:Int} {v:az}
theorem yZ(h:evO n0 l0 x=some v):(execOp (fr n0 us0 l0).eval ⟨dst,.move x,t',p,af,g⟩).run P w=.ok (.value v) w:=by
 simp only[execOp,vi h,Sem.run_pure]
theorem GN(h:evO n0 l0 x=some v):(execOp (fr n0 us0 l0).eval ⟨dst,.assign x,t',p,af,g⟩).run P w=.ok (.value v) w:=by
 simp only[execOp,vi h,Sem.run_pure]
theorem afA(hx:evO n0 l0 x=some (.int k m))(hy:evO n0 l0 y=some (.int k n)):(execOp (fr n0 us0 l0).eval ⟨dst,.binOp .add t x y ty,t',p,af,g⟩).run P w=.ok (.value (.int k (k.wrap (m+n)))) w:=by
 simp only[execOp,vi hx,vi hy];cases k<;>rfl
theorem YM(hx:evO n0 l0 x=some (.int k m))(hy:evO n0 l0 y=some (.int k n)):(execOp (fr n0 us0 l0).eval ⟨dst,.binOp .eql t x y ty,t',p,af,g⟩).run P w=.ok (.value (.bool (m==n))) w:=by
 simp only[execOp,vi hx,vi hy];cases k<;>rfl
theorem afB(hx:evO n0 l0 x=some (.int k m))(hy:evO n0 l0 y=some (.int k n)):(execOp (fr n0 us0 l0).eval ⟨dst,.binOp .neq t x y ty,t',p,af,g⟩).run P w=.ok (.value (.bool (m !=n))) w:=by
 simp only[execOp,vi hx,vi hy];cases k<;>rfl
theorem afC(hx:evO n0 l0 x=some (.int k m))(hy:evO n0 l0 y=some (.int k n)):(execOp (fr n0 us0 l0).eval ⟨dst,.binOp .lss t x y ty,t',p,af,g⟩).run P w=.ok (.value (.bool (decide (m<n)))) w:=by
 simp only[execOp,vi hx,vi hy];cases k<;>rfl
theorem afD(hx:evO n0 l0 x=some (.int k m))(hy:evO n0 l0 y=some (.int k n)):(execOp (fr n0 us0 l0).eval ⟨dst,.binOp .gtr t x y ty,t',p,af,g⟩).run P w=.ok (.value (.bool (decide (m>n)))) w:=by
 simp only[execOp,vi hx,vi hy];cases k<;>rfl
end
theorem Ll{c:Operand}{x y:Code}{t:Bool}(h:evO n0 l0 c=some (.bool t))(ht:t=true->x.wp P Q (fr n0 us0 l0) w)(hf:t=false->y.wp P Q (fr n0 us0 l0) w):(Code.cond c x y).wp P Q (fr n0 us0 l0) w:=
 wp_cond_split (vi h) ht hf
def V0(P:Program)(n:Nat)(l:List (Nat×az))(w:ay):List ResultVar->List az->Prop
 | [],[]=>True
 | .tmp t::r,v::vs=>evO n l (.tmp t)=some v/\V0 P n l w r vs
 | .cell p t::r,v::vs=>(∃ad,evO n l (.tmp p)=some (.pointer (some ad))/\(loadVar t ad).run P w=.ok v w)/\V0 P n l w r vs
 | _,_=>False
theorem Ei:∀{rs:List ResultVar} {vs:List az},V0 P n0 l0 w rs vs->Ao P (fr n0 us0 l0) w rs vs
 | [],[],_=>trivial
 | [],_::_,h=>h.elim
 | .tmp t::r,[],h=>h.elim
 | .cell _ _::r,[],h=>h.elim
 | .tmp t::r,v::vs,h=>⟨vi h.1,Ei h.2⟩
 | .cell q t::r,v::vs,h=>by
  obtain⟨⟨ad,h1,h2⟩,h3⟩:=h;exact⟨⟨ad,vi h1,h2⟩,Ei h3⟩
theorem afE{fn:Func}{rs:List ResultVar}{v:az}{R:az->ay->Prop}(h:fn.results=rs.toArray)(hr:V0 P n0 l0 w rs [v])(hR:R v w):bodyPost P fn (λe w'=>∃v,e=.returned v/\R v w') .ret (fr n0 us0 l0) w:=Lh (QZ h (Ei hr)) rfl hR
section
variable {md:Region.Mode} {E:Nat->ay->ay->Prop} {F:ay->Prop}
theorem afF(i:Nat){eP:List Oper}{d:Option Tmp}{op:Op}{t':TypeId}{p:String}{af:Array Edge}{g:Option (Nat×Bool)}{ft:Nat}{bG:Array Bool}(D N:List Nat)(F:ay->Prop){v:az}(hi:gR eP i=some ⟨d,op,t',p,af,g⟩)
  (hb:(Region.noSelect eP.toArray&&Region.free md eP.toArray bG i&&(Region.ready md eP.toArray bG).contains i&&vR md eP.toArray bG&&sV md eP.toArray i [] D&&(N.all λk=>bG.getD k true))=true)
  (hQ:∀c a w,Q (.panic c) (Act.put a d v) w->Q (.panic c) a w) (lH:∀j w w',j∉D->j∉N->F w->E j w w'->F w') (PA:∀w,F w->E i w w) (hF:F w)
  (hy:YieldsIf P eP.toArray F ⟨d,op,t',p,af,g⟩ v (fr n0 us0 l0))
  (h:fK P md eP.toArray Q E ft (bG.setIfInBounds i true) (fr n0 us0 (pl d v l0)) w):fK P md eP.toArray Q E (ft+1) bG (fr n0 us0 l0) w:=by
 simp only[aR]at hb;obtain⟨⟨⟨⟨⟨b1,b2⟩,b3⟩,b4⟩,b5⟩,b6⟩:=hb;exact Jr i D N v F hi b1 b2 b3 b4 b5 b6 hQ lH PA hF hy VY h
theorem eL(i:Nat){eP:List Oper}{d:Option Tmp}{op:Op}{t':TypeId}{p:String}{af:Array Edge}{g:Option (Nat×Bool)}{ft:Nat}{bG:Array Bool}{ls:List (Nat×List Nat)}(D N:List Nat)(F:ay->Prop){v:az}(hi:gR eP i=some ⟨d,op,t',p,af,g⟩)
  (hl:ls.lookup i=none) (lH:∀j w w',j∉D->j∉N->F w->EL ls j w w'->F w') (hF:F w)
  (hy:YieldsIf P eP.toArray F ⟨d,op,t',p,af,g⟩ v (fr n0 us0 l0))
  (h:fK P md eP.toArray Q (EL ls) ft (bG.setIfInBounds i true) (fr n0 us0 (pl d v l0)) w)
  (hb:(Region.noSelect eP.toArray&&Region.free md eP.toArray bG i&&(Region.ready md eP.toArray bG).contains i&&vR md eP.toArray bG&&sV md eP.toArray i [] D&&(N.all λk=>bG.getD k true))=true:=by kernel_rfl)
  (hQ:∀c a w,Q (.panic c) (Act.put a d v) w->Q (.panic c) a w:=by exact λ_ _ _ h=>h):fK P md eP.toArray Q (EL ls) (ft+1) bG (fr n0 us0 l0) w:=
 afF i D N F hi hb hQ lH (λw _=>Q1 hl w) hF hy h
end
theorem mA{dst:Option Tmp}{ty:TypeId}{x:Operand}{t':TypeId}{p:String}{af:Array Edge}{g:Option (Nat×Bool)}{ad:Addr}{v:az}(FT:(isAgg ty).run P w=.ok false w)(hx:evO n0 l0 x=some (.pointer (some ad)))(hc:w.cell? ad=some v):
 (execOp (fr n0 us0 l0).eval ⟨dst,.load ty x,t',p,af,g⟩).run P w=.ok (.value v) w:=zF FT (vi hx) hc
theorem zH{dst:Option Tmp}{c x y:Operand}{t':TypeId}{p:String}{af:Array Edge}{g:Option (Nat×Bool)}{v:az}(hc:evO n0 l0 c=some (.bool true))(hv:evO n0 l0 x=some (v)):
 (execOp (fr n0 us0 l0).eval ⟨dst,.pick c x y,t',p,af,g⟩).run P w=.ok (.value v) w:=Lc (vi hc) (vi hv)
theorem vY{dst:Option Tmp}{c x y:Operand}{t':TypeId}{p:String}{af:Array Edge}{g:Option (Nat×Bool)}{v:az}(hc:evO n0 l0 c=some (.bool false))(hv:evO n0 l0 y=some (v)):
 (execOp (fr n0 us0 l0).eval ⟨dst,.pick c x y,t',p,af,g⟩).run P w=.ok (.value v) w:=Ld (vi hc) (vi hv)
theorem Ax{dst:Option Tmp}{t e:TypeId}{x i:Operand}{t':TypeId}{p:String}{af:Array Edge}{g:Option (Nat×Bool)}{s:Sl}{k:IntKind}{n:Int}{ad:Addr}{sz:Nat}(hu:(underlying t).run P w=.ok (.slice e) w)(hsz:(sizeOf e).run P w=.ok sz w)(hx:evO n0 l0 x=some (s.v))(hi:evO n0 l0 i=some (.int k n))(XZ:dE s n sz ad):
 (execOp (fr n0 us0 l0).eval ⟨dst,.indexAddr t x i,t',p,af,g⟩).run P w=.ok (.value (.pointer (some ad))) w:=GA hu hsz (vi hx) (vi hi) XZ
theorem Q7{dst:Option Tmp}{t:TypeId}{e:TypeId}{x:Operand}{t':TypeId}{p:String}{af:Array Edge}{g:Option (Nat×Bool)}{s:Sl}(hu:(underlying t).run P w=.ok (.slice e) w)(hx:evO n0 l0 x=some (s.v)):
 (execOp (fr n0 us0 l0).eval ⟨dst,.call ⟨.builtin .len,#[x],#[t]⟩,t',p,af,g⟩).run P w=.ok (.value (.int .i64 s.n)) w:=YI hu (vi hx)
theorem Q8{dst:Option Tmp}{x:Operand}{f:FuncId}{first captured:List az}{xs:List Operand}{ats:Array TypeId}{t':TypeId}{p:String}{af:Array Edge}{g:Option (Nat×Bool)}{args:List az}(hx:evO n0 l0 x=some (.func (.func f) first.toArray captured.toArray))(hc:∀(args:Array az) (w:ay),(callFunc f args).run P w=.ok (.enter f args) w)(ha:(Eh n0 l0 xs).map (λys=>first++ys++captured)=some args):
 (execOp (fr n0 us0 l0).eval ⟨dst,.call ⟨.value x,xs.toArray,ats⟩,t',p,af,g⟩).run P w=.ok (.enter f args.toArray) w:=Ai (vi hx) hc (al1 ha)
theorem Jv{dst:Option Tmp}{fn:Fn}{fs cs:List Operand}{t':TypeId}{p:String}{af:Array Edge}{g:Option (Nat×Bool)}{fv cv:List az}(h1:Eh n0 l0 fs=some (fv))(h2:Eh n0 l0 cs=some (cv)):
 (execOp (fr n0 us0 l0).eval ⟨dst,.makeFunc fn fs.toArray cs.toArray,t',p,af,g⟩).run P w=.ok (.value (.func fn fv.toArray cv.toArray)) w:=Ak (VX h1) (VX h2)
theorem Jw{dst:Option Tmp}{t e:TypeId}{x lo:Operand}{t':TypeId}{p:String}{af:Array Edge}{g:Option (Nat×Bool)}{s:Sl}{k:IntKind}{l sz:Nat}(hu:(underlying t).run P w=.ok (.slice e) w)(hsz:(sizeOf e).run P w=.ok sz w)(hx:evO n0 l0 x=some (s.v))(hl:evO n0 l0 lo=some (.int k (l:Int)))(h1:l<=s.n)(_h2:s.n<=s.c)(_h3:s.c<=s.c):
 (execOp (fr n0 us0 l0).eval ⟨dst,.slice t x (some lo) none none,t',p,af,g⟩).run P w=.ok (.value (s.cut l s.n s.c sz).v) w:=Al hu hsz (vi hx) (vi hl) h1 _h2 _h3
end
end Go.Kt
namespace Go.Kt.V
open Go renaming World->ay,Value->az
open Go Go.RowKit Go.Kt
structure OV where
 v:az
 one:v.oneCell'=true
inductive SV where
 | int (k:IntKind) (n:Int)
 | il (k:IntKind) (n:Int)
 | bl (b:Bool)
 | bt (t:Bool)
 | str (s:ByteArray)
 | np
 | ptr (p:Option Addr)
 | ad (a:Addr)
 | box (i o:Nat)
 | sl (s:Sl)
 | nsl
 | map (m:Option Nat)
 | raw (v:OV)
 | fn (f:FuncId) (fs cs:SV)
 | agg (l:SV)
 | tup (l:SV)
 | un
 | e
 | c (h t:SV)
def qe(β:Nat->Nat):SV->List az
 | .int k n=>[.int k n]
 | .il k n=>[.int k n]
 | .bl b=>[.bool b]
 | .bt t=>[.bool t]
 | .str s=>[.string s]
 | .np=>[.pointer none]
 | .ptr p=>[.pointer p]
 | .ad a=>[.pointer (some a)]
 | .box i o=>[.pointer (some ⟨β i,o,none⟩)]
 | .sl s=>[s.v]
 | .nsl=>[Sl.v Sl.nil]
 | .map m=>[.map m]
 | .raw v=>[v.v]
 | .fn f fs cs=>[.func (.func f) (qe β fs).toArray (qe β cs).toArray]
 | .agg l=>[.agg (qe β l).toArray]
 | .tup l=>[.tuple (qe β l).toArray]
 | .un=>[undef]
 | .e=>[]
 | .c h t=>(qe β h).headD undef::qe β t
def val(β:Nat->Nat)(s:SV):az:=(qe β s).headD undef
def cD(β:Nat->Nat)(l:List SV):List az:=l.map (val β)
def mN:SV->List SV
 | .c h t=>h::mN t
 | _=>[]
def mO:List SV->SV
 | []=>.e
 | s::r=>.c s (mO r)
def Cy:SV->Bool
 | .c _ t=>Cy t
 | .e=>true
 | _=>false
theorem rl β:∀l,qe β (mO l)=cD β l
 | []=>rfl
 | s::r=>by simp only[mO,qe,rl β r];rfl
theorem mC β:∀{s:SV},Cy s=true->qe β s=cD β (mN s)
 | .e,_=>rfl
 | .c h t,hl=>by simp only[qe,mN,mC β (s:=t) hl];rfl
def cln(g:Nat->Bool):SV->Bool
 | .box i _=>g i
 | .fn _ fs cs=>cln g fs&&cln g cs
 | .agg l=>cln g l
 | .tup l=>cln g l
 | .c h t=>cln g h&&cln g t
 | _=>true
def iq(g:Nat->Bool):List SV->Bool
 | []=>true
 | s::r=>cln g s&&iq g r
theorem lW{β β'}{g}(h:∀i,g i=true->β i=β' i):∀s,cln g s=true->qe β s=qe β' s
 | .int ..,_ | .il ..,_ | .bl ..,_ | .bt ..,_ | .str ..,_ | .np,_ | .ptr ..,_ | .ad ..,_ | .sl ..,_ | .nsl,_ | .map ..,_ | .raw ..,_ | .un,_ | .e,_=>rfl
 | .box i o,hc=>by simp[qe,h i hc]
 | .fn f fs cs,hc=>by
  simp[cln,aR]at hc;simp[qe,lW h fs hc.1,lW h cs hc.2]
 | .agg l,hc=>by simp[qe,lW h l hc]
 | .tup l,hc=>by simp[qe,lW h l hc]
 | .c s t,hc=>by
  simp[cln,aR]at hc;simp[qe,lW h s hc.1,lW h t hc.2]
theorem iO{β β'}{g}(h:∀i,g i=true->β i=β' i) s (hc:cln g s=true):val β s=val β' s:=by
 unfold val;rw[lW h s hc]
theorem gW{β β'}{g}(h:∀i,g i=true->β i=β' i):∀l,iq g l=true->cD β l=cD β' l
 | [],_=>rfl
 | s::r,hc=>by
  simp[iq,aR]at hc;have:=gW h r hc.2;simp only[cD,bH]at this⊢;rw[iO h s hc.1,this]
theorem fF β l:(cD β l).length=l.length:=by rw[cD,bA]
def Q9:az->Option SV
 | .int k n=>some (.il k n)
 | .bool b=>some (.bl b)
 | .string s=>some (.str s)
 | .pointer none=>some .np
 | .slice none 0 0=>some .nsl
 | .map m=>some (.map m)
 | v=>if h:v.oneCell'=true then some (.raw ⟨v,h⟩)else none
def Cz:List az->Option SV
 | []=>some .e
 | v::r=>match Q9 v,Cz r with
  | some s,some l=>some (.c s l)
  | _,_=>none
def ofV:az->Option SV
 | .agg cs=>(Cz cs.toList).map .agg
 | .tuple cs=>(Cz cs.toList).map .tup
 | .func (.func f) fs cs=>match Cz fs.toList,Cz cs.toList with
  | some a,some b=>some (.fn f a b)
  | _,_=>none
 | v=>Q9 v
theorem Ay{v}{s}(h:Q9 v=some s) β:val β s=v:=by
 unfold Q9 at h;split at h
 all_goals first | (simp at h;subst h;rfl) | skip
 split at h
 ·simp at h;subst h;rfl
 cases h
theorem sX β:∀{l:List az} {s:SV},Cz l=some s->qe β s=l
 | [],s,h=>by simp[Cz,be]at h;subst h;rfl
 | v::r,s,h=>by
  simp[Cz]at h;split at h
  ·rename_i s' l' h1 h2;simp at h;subst h;simp only[qe,sX β h2];rw[show(qe β s').headD undef=v from Ay h1 β]
  cases h
theorem Lm{v}{s}(h:ofV v=some s) β:val β s=v:=by
 unfold ofV at h;split at h
 ·rename_i cs;cases hl:Cz cs.toList with
  | none=>rw[hl]at h;cases h
  | some l=>
   rw[hl]at h;simp at h;subst h;simp[val,qe,Ab,sX β hl]
 ·rename_i cs;cases hl:Cz cs.toList with
  | none=>rw[hl]at h;cases h
  | some l=>
   rw[hl]at h;simp at h;subst h;simp[val,qe,Ab,sX β hl]
 ·split at h
  ·rename_i a b h1 h2;simp at h;subst h;simp[val,qe,Ab,sX β h1,sX β h2]
  cases h
 exact Ay h β
structure ki where
 blk:Option Nat
 ty:TypeId
 cells:List SV
 stp:Nat
 ok:Bool
 esc:Bool
 sh:Bool
structure St where
 n:Nat
 fr:List (Nat×Nat×SV)
 bx:List ki
 w0:ay
 mv:Bool
 dt:List Nat
 ct:Nat
 df:List (Nat×List az×List az)
def YN(l:List (Nat×List az×List az)):List Deferred:=l.map λd=>{target:=.fn (.func d.1) d.2.2.toArray,args:=d.2.1.toArray}
def frD(n:Nat)(us:Nat->az)(l:List (Nat×az))(D:List Deferred):Act:=⟨(VV us l n 0).toArray,D⟩
def dQ:List (Nat×Nat×SV)->Nat->Option (Nat×SV)
 | [],_=>none
 | (k,s)::r,i=>bif Nat.beq k i then some s else dQ r i
def St.get(st:St)(i:Nat):Option SV:=bif Nat.blt i st.n then(dQ st.fr i).map (·.2)else none
def St.ev(st:St):Operand->Option SV
 | .tmp k=>st.get k
 | .const v=>ofV v
 | .global g=>some (.ad ⟨g,0,none⟩)
 | .func f=>some (.fn f .e .e)
def St.ND(st:St):List Operand->Option (List SV)
 | []=>some []
 | x::r=>match st.ev x,st.ND r with
  | some v,some vs=>some (v::vs)
  | _,_=>none
def St.Vv(st:St):List (Nat×Operand)->Option (List (Nat×SV))
 | []=>some []
 | (i,x)::r=>match st.ev x,st.Vv r with
  | some v,some vs=>some ((i,v)::vs)
  | _,_=>none
def St.put(st:St)(d:Option Tmp)(v:SV):St:=match d with
 | some k=>{st with fr:=(k,st.ct,v)::st.fr,ct:=st.ct+1}
 | none=>st
def dc:List ki->Nat->Option ki
 | [],_=>none
 | b::_,0=>some b
 | _::r,n+1=>dc r n
def Oe:List ki->Nat->ki->List ki
 | [],_,_=>[]
 | _::r,0,b=>b::r
 | a::r,n+1,b=>a::Oe r n b
def cv(β:Nat->Nat)(l:List (Nat×Nat×SV)):List (Nat×az):=l.map λp=>(p.1,val β p.2.2)
theorem lc β:∀l i,qc (cv β l) i=(dQ l i).map λp=>val β p.2
 | [],_=>rfl
 | (k,s)::r,i=>by
  simp[cv,bH,qc,dQ];cases Nat.beq k i with
  | true=>rfl
  | false=>exact lc β r i
structure ah7 (β:Nat->Nat) (w0 w:ay) (i:Nat) (b:ki):Prop where
 blk:Blk w (β i) b.ty (cD β b.cells)
 at_:∀k,b.blk=some k->β i=k
 new:b.blk=none->w0.heap.size<=β i
structure Rep (β:Nat->Nat) (st:St) (a:Act) (w:ay):Prop where
 fr:∃us,a=frD st.n us (cv β st.fr) (YN st.df)
 bx:∀i b,dc st.bx i=some b->b.ok=true->ah7 β st.w0 w i b
 ne:∀i j bi bj,dc st.bx i=some bi->dc st.bx j=some bj->bi.ok=true->bj.ok=true->i≠j->β i≠β j
 only:Only (st.dt.map β) st.w0 w
 still:st.mv=false->w=st.w0
structure Ext (s t:St):Prop where
 n:t.n=s.n
 ct:s.ct<=t.ct
 fr:∀i k v,dQ t.fr i=some (k,v)->k<s.ct->dQ s.fr i=some (k,v)
 bx:∀i b',dc t.bx i=some b'->b'.ok=true->b'.stp<s.ct->∃b,dc s.bx i=some b/\b.ok=true/\b.cells=b'.cells/\b.ty=b'.ty/\b.stp=b'.stp/\(∀k,b.blk=some k->b'.blk=some k)
 ps:∀i b,dc s.bx i=some b->∃b',dc t.bx i=some b'/\b'.ty=b.ty/\b'.ok=b.ok/\∀k,b.blk=some k->b'.blk=some k
 df:∃l,t.df=l++s.df
theorem Gk{s:St}:∃l,s.df=l++s.df:=⟨[],rfl⟩
theorem Ra{l}:∀i b,dc l i=some b->∃b',dc l i=some b'/\b'.ty=b.ty/\b'.ok=b.ok/\∀k,b.blk=some k->b'.blk=some k:=λi b h=>⟨b,h,rfl,rfl,λ_ h=>h⟩
theorem Ext.refl s:Ext s s:=⟨rfl,ba _,λ_ _ _ h _=>h,λi b h ho _=>⟨b,h,ho,rfl,rfl,rfl,λ_ h=>h⟩,Ra,Gk⟩
theorem Ext.trans{s t u}(h:Ext s t)(k:Ext t u):Ext s u:=
 ⟨k.n.trans h.n,bf h.ct k.ct,λi m v hl bT=>h.fr i m v (k.fr i m v hl (cq bT h.ct)) bT,λi b'' hb ho hs=>by
  obtain⟨b',k1,k2,k3,k4,k6,k5⟩:=k.bx i b'' hb ho (cq hs h.ct);obtain⟨b,h1,h2,h3,h4,h6,h5⟩:=h.bx i b' k1 k2 (by rw[k6];exact hs);exact⟨b,h1,h2,h3.trans k3,h4.trans k4,h6.trans k6,λm hm=>k5 m (h5 m hm)⟩,λi b hb=>by
  obtain⟨b',h1,h2,h3,h4⟩:=h.ps i b hb;obtain⟨b'',k1,k2,k3,k4⟩:=k.ps i b' h1;exact⟨b'',k1,k2.trans h2,k3.trans h3,λm hm=>k4 m (h4 m hm)⟩,by
  obtain⟨l,h1⟩:=h.df;obtain⟨m,k1⟩:=k.df;exact⟨m++l,by rw[k1,h1,bP]⟩⟩
section
variable {β:Nat->Nat} {st:St} {a:Act} {w:ay}
theorem Rep.get(h:Rep β st a w){i}{s}(hg:st.get i=some s):a.eval (.tmp i)=val β s:=by
 obtain⟨us,rfl⟩:=h.fr;show(Kt.fr st.n us _).eval (.tmp i)=_;refine vi (n0:=st.n) (us0:=us) ?_;unfold St.get at hg;cases hb:Nat.blt i st.n with
 | false=>rw[hb]at hg;cases hg
 | true=>
  rw[hb,my]at hg;simp only[evO,hb,my,lc];cases hl:dQ st.fr i with
  | none=>rw[hl]at hg;cases hg
  | some p=>
   rw[hl]at hg;simp at hg;rw[dH,hg]
theorem Rep.ev(h:Rep β st a w){x}{s}(hg:st.ev x=some s):a.eval x=val β s:=by
 cases x with
 | tmp k=>exact h.get hg
 | const v=>rw[Lm hg];rfl
 | global g=>
  simp[St.ev,be]at hg;subst hg;rfl
 | func f=>
  simp[St.ev,be]at hg;subst hg;rfl
theorem Rep.ND(h:Rep β st a w):∀{xs:List Operand} {l:List SV},st.ND xs=some l->xs.map a.eval=cD β l
 | [],l,hg=>by simp[St.ND,be]at hg;subst hg;rfl
 | x::r,l,hg=>by
  simp[St.ND]at hg;split at hg
  ·rename_i v vs hx hr;simp at hg;subst hg;rw[bH,h.ev hx,h.ND hr];rfl
  cases hg
def C2(β:Nat->Nat)(l:List (Nat×SV)):List (Nat×az):=l.map λp=>(p.1,val β p.2)
theorem Rep.Vv(h:Rep β st a w):∀{xs:List _} {l:List _},st.Vv xs=some l->(xs.map λq=>(q.1,a.eval q.2))=C2 β l
 | [],l,hg=>by simp[St.Vv,be]at hg;subst hg;rfl
 | _::r,l,hg=>by
  simp[St.Vv]at hg;split at hg
  ·rename_i v vs hx hr;simp at hg;subst hg;rw[bH,h.Vv hr,h.ev hx];rfl
  cases hg
theorem St.evO{st:St} β {x} {s} (hg:st.ev x=some s):Kt.evO st.n (cv β st.fr) x=some (val β s):=by
 cases x with
 | tmp i=>
  have hg:st.get i=some s:=hg;unfold St.get at hg;cases hb:Nat.blt i st.n with
  | false=>rw[hb]at hg;cases hg
  | true=>
   rw[hb,my]at hg;simp only[Kt.evO,hb,my,lc];cases hl:dQ st.fr i with
   | none=>rw[hl]at hg;cases hg
   | some p=>
    rw[hl]at hg;simp at hg;rw[dH,hg]
 | const v=>rw[Lm hg];rfl
 | global g=>
  simp[St.ev,be]at hg;subst hg;rfl
 | func f=>
  simp[St.ev,be]at hg;subst hg;rfl
theorem Rep.put(h:Rep β st a w) d v:Rep β (st.put d v) (a.put d (val β v)) w:=by
 cases d with
 | none=>exact h
 | some k=>
  obtain⟨us,rfl⟩:=h.fr;exact⟨⟨us,bm (λa:Act=>(⟨a.tmps,YN st.df⟩:Act)) (Q6 (n0:=st.n) (us0:=us) (l0:=cv β st.fr) (k:=k) (v:=val β v))⟩,h.bx,h.ne,h.only,h.still⟩
theorem Ext.put st d v:Ext st (st.put d v):=by
 cases d with
 | none=>exact Ext.refl _
 | some k=>
  refine⟨rfl,iM _,λi m u hl bT=>?_,λi b h ho _=>⟨b,h,ho,rfl,rfl,rfl,λ_ h=>h⟩,Ra,Gk⟩;simp[St.put,dQ]at hl;cases hb:Nat.beq k i with
  | true=>
   rw[hb]at hl;simp at hl;omega
  | false=>rw[hb]at hl;simpa using hl
theorem Rep.frame(h:Rep β st a w){fr'}(hs:∀i p,dQ fr' i=some p->∃q,dQ st.fr i=some q/\val β q.2=val β p.2):Rep β {st with fr:=fr'} a w:=by
 obtain⟨us,rfl⟩:=h.fr;refine⟨?_,h.bx,h.ne,h.only,h.still⟩;refine⟨λi=>sW us (cv β st.fr) i,?_⟩;unfold frD;congr 2;apply gu;intro i;by_cases hi:i<st.n
 ·rw[jY _ _ _ _ _ hi,jY _ _ _ _ _ hi,bO];cases hl:dQ fr' i with
  | none=>
   rw[zG (l:=cv β fr') aen]
  | some p=>
   obtain⟨q,h1,h2⟩:=hs i p hl;rw[pd (l:=cv β fr') (v:=val β p.2) aen,pd (l:=cv β st.fr) (v:=val β p.2) (by rw[lc,h1,dH,h2])]
 rw[cN (by rw[kF];exact qV hi),cN (by rw[kF];exact qV hi)]
end
def cj{α:Type}(o:Option α)(K:α->Prop):Prop:=match o with
 | some v=>K v
 | none=>False
theorem bC{α}{o:Option α}{K}(h:cj o K):∃v,o=some v/\K v:=by
 cases o with
 | none=>exact h.elim
 | some v=>exact⟨v,rfl,h⟩
def gi:List (Bool×Bool)->Prop->Prop
 | [],p=>p
 | (t,b)::r,p=>t=b->gi r p
def gh:List (Bool×Bool)->Prop
 | []=>True
 | (t,b)::r=>t=b/\gh r
theorem gX:∀{gs:List _} {p:Prop},gi gs p->gh gs->p
 | [],_,h,_=>h
 | _::r,p,h,k=>gX (gs:=r) (h k.1) k.2
inductive Lf where
 | int (k:IntKind)
 | bool
 | str
 | ptr
 | sl
 | map
 | raw
def Lf.T:Lf->Type
 | .int _=>Int
 | .bool=>Bool
 | .str=>ByteArray
 | .ptr=>Option Addr
 | .sl=>Sl
 | .map=>Option Nat
 | .raw=>OV
def Lf.sv:(l:Lf)->l.T->SV
 | .int k,x=>.int k x
 | .bool,x=>.bt x
 | .str,x=>.str x
 | .ptr,x=>.ptr x
 | .sl,x=>.sl x
 | .map,x=>.map x
 | .raw,x=>.raw x
theorem Lf.cln g (l:Lf) x:V.cln g (l.sv x)=true:=by cases l<;>rfl
def V1:List Lf->(List SV->Prop)->Prop
 | [],K=>K []
 | l::r,K=>∃x,V1 r λvs=>K (l.sv x::vs)
theorem sY:∀{ls:List Lf} {K:List SV->Prop},V1 ls K->∃vs,K vs/\vs.length=ls.length/\∀g,iq g vs=true
 | [],K,h=>⟨[],h,rfl,λ_=>rfl⟩
 | l::r,K,h=>by
  obtain⟨x,h⟩:=h;obtain⟨vs,h1,h2,h3⟩:=sY (ls:=r) h;exact⟨_,h1,by simp[h2],λg=>by simp[iq,Lf.cln,h3 g,nB]⟩
def al4:TypeDesc->Lf
 | .int k=>.int k
 | .bool=>.bool
 | .string=>.str
 | .pointer _=>.ptr
 | .slice _=>.sl
 | .map _ _=>.map
 | _=>.raw
def rep{α:Type}:Nat->List α->List α
 | 0,_=>[]
 | n+1,l=>l++rep n l
def flat{α β:Type}(f:α->List β):List α->List β
 | []=>[]
 | x::r=>f x++flat f r
def Rb(P:Program):Nat->TypeId->List Lf
 | 0,_=>[]
 | n+1,t=>match P.underlying t with
  | some (.struct fs)=>flat (λf:Field=>Rb P n f.type) fs.toList
  | some (.array len e)=>rep len (Rb P n e)
  | some d=>[al4 d]
  | none=>[]
def lX:TypeDesc->Bool
 | .struct _=>true
 | .array _ _=>true
 | _=>false
def Og(ag:Bool)(l:List SV):SV:=bif ag then .agg (mO l)else l.headD .un
def β0:Nat->Nat:=λ_=>0
def qf:SV->Option (IntKind×Int)
 | .int k n=>some (k,n)
 | .il k n=>some (k,n)
 | _=>none
theorem dw{s}{k}{n}(h:qf s=some (k,n)) β:val β s=.int k n:=by
 cases s<;>simp[qf,be,jP,reduceCtorEq]at h
 all_goals obtain⟨rfl,rfl⟩:=h;rfl
def Az:SV->Option Bool
 | .bl b=>some b
 | .bt b=>some b
 | _=>none
theorem lY{s}{b}(h:Az s=some b) β:val β s=.bool b:=by
 cases s<;>simp[Az,be,reduceCtorEq]at h
 all_goals subst h;rfl
def vm:SV->Option ByteArray
 | .str s=>some s
 | _=>none
theorem ir{s}{b}(h:vm s=some b) β:val β s=.string b:=by
 cases s<;>simp[vm,be,reduceCtorEq]at h
 all_goals subst h;rfl
def Lp:SV->Option Sl
 | .sl s=>some s
 | .nsl=>some Sl.nil
 | _=>none
theorem jZ{s}{b}(h:Lp s=some b) β:val β s=b.v:=by
 cases s<;>simp[Lp,be,reduceCtorEq]at h
 all_goals subst h;rfl
def ib(op:BinOp)(k:IntKind)(m n:Int):Option SV:=match op with
 | .add=>some (.int k (k.wrap (m+n)))
 | .sub=>some (.int k (k.wrap (m-n)))
 | .mul=>some (.int k (k.wrap (m*n)))
 | .eql=>some (.bt (m==n))
 | .neq=>some (.bt (m !=n))
 | .lss=>some (.bt (decide (m<n)))
 | .leq=>some (.bt (decide (m<=n)))
 | .gtr=>some (.bt (decide (m>n)))
 | .geq=>some (.bt (decide (m>=n)))
 | .and=>some (.int k (bits .and k m n))
 | .or=>some (.int k (bits .or k m n))
 | .xor=>some (.int k (bits .xor k m n))
 | .andNot=>some (.int k (bits .andNot k m n))
 | _=>none
def sb(op:BinOp)(s u:ByteArray):Option SV:=match op with
 | .eql=>some (.bt (s.toList==u.toList))
 | .neq=>some (.bt (!(s.toList==u.toList)))
 | .lss=>some (.bt (Op.bytesLess s.toList u.toList))
 | .geq=>some (.bt (!(Op.bytesLess s.toList u.toList)))
 | .leq=>some (.bt (Op.bytesLess s.toList u.toList||(s.toList==u.toList)))
 | .gtr=>some (.bt (!(Op.bytesLess s.toList u.toList||(s.toList==u.toList))))
 | _=>none
def nz(gs:List (Bool×Bool))(b:SV)(n:Int)(K:Prop):Prop:=match b with
 | .il _ _=>bif n==0 then False else K
 | _=>gi gs (n≠0)/\K
def ge0(gs:List (Bool×Bool))(b:SV)(n:Int)(K:Prop):Prop:=match b with
 | .il _ _=>bif decide (0<=n)then K else False
 | _=>gi gs (0<=n)/\K
def vJ:SV->Option (Option Addr)
 | .np=>some none
 | .ptr p=>some p
 | .ad a=>some (some a)
 | _=>none
theorem V2{s}{p}(h:vJ s=some p) β:val β s=.pointer p:=by
 cases s<;>simp[vJ,be,reduceCtorEq]at h
 all_goals subst h;rfl
def pn(op:BinOp)(a:SV):Option SV:=match op,a with
 | .eql,.ptr p=>some (.bt p.isNone)
 | .neq,.ptr p=>some (.bt (!p.isNone))
 | .eql,.ad _=>some (.bl false)
 | .neq,.ad _=>some (.bl true)
 | .eql,.box _ _=>some (.bl false)
 | .neq,.box _ _=>some (.bl true)
 | .eql,.np=>some (.bl true)
 | .neq,.np=>some (.bl false)
 | _,_=>none
def sn(op:BinOp)(s:Sl):Option SV:=match op with
 | .eql=>some (.bt s.a.isNone)
 | .neq=>some (.bt (!s.a.isNone))
 | _=>none
def Rc:SV->Bool
 | .np=>true
 | _=>false
def GP:SV->Bool
 | .nsl=>true
 | _=>false
def eq1(P:Program)(t:TypeId)(x y:SV):Option Bool:=match P.underlying t with
 | some (.int _)=>(match qf x,qf y with
  | some (k,m),some (k',n)=>bif decide (k=k')then some (m==n)else none
  | _,_=>none)
 | some .string=>(match vm x,vm y with
  | some s,some u=>some (s==u)
  | _,_=>none)
 | some .bool=>(match Az x,Az y with
  | some s,some u=>some (s==u)
  | _,_=>none)
 | _=>none
def GQ(P:Program)(xs ys:List SV):List Field->Option Bool
 | []=>some true
 | f::r=>bif f.name== "_" then none else match xs[f.offset]?,ys[f.offset]? with
  | some x,some y=>(match eq1 P f.type x y,GQ P xs ys r,r with
   | some b,some _,[]=>some b
   | some b,some c,_=>some (b&&c)
   | _,_,_=>none)
  | _,_=>none
def aaN(P:Program)(t:TypeId)(fs:Array Field)(a b:SV):Option Bool:=match a,b with
 | .agg l,.agg m=>bif Cy l&&Cy m&&!P.stoodInHeld t&&!P.eqGuardType P.depth t then GQ P (mN l) (mN m) fs.toList else none
 | _,_=>none
def aaO(op:BinOp)(b:Bool):Option SV:=match op with
 | .eql=>some (.bt b)
 | .neq=>some (.bt (!b))
 | _=>none
def mn(op:BinOp)(a b:SV):Option SV:=match op,a,b with
 | .eql,.map m,.map none=>some (.bt m.isNone)
 | .neq,.map m,.map none=>some (.bt (!m.isNone))
 | _,_,_=>none
def aaP(P:Program)(gs:List (Bool×Bool))(op:BinOp)(t:TypeId)(a b:SV)(K:SV->Prop):Prop:=
 match qf a,qf b with
 | some (k,m),some (k',n)=>(match op with
  | .shl=>ge0 gs b n (K (.int k (k.wrap (m*2 ^ (min n.toNat k.bits)))))
  | .shr=>ge0 gs b n (K (.int k (m.fdiv (2 ^ (min n.toNat k.bits)))))
  | .quo=>bif decide (k=k')then nz gs b n (K (.int k (k.wrap (m.tdiv n))))else False
  | .rem=>bif decide (k=k')then nz gs b n (K (.int k (m.tmod n)))else False
  | _=>bif decide (k=k')then cj (ib op k m n) K else False)
 | _,_=>match vm a,vm b with
  | some s,some u=>(match op with
   | .add=>gi gs ((s.size:Int)+u.size<=9223372036854775807)/\K (.str (s++u))
   | _=>cj (sb op s u) K)
  | _,_=>match Az a,Az b,P.underlying t with
   | some s,some u,some .bool=>(match op with
    | .eql=>K (.bt (s==u))
    | .neq=>K (.bt (!(s==u)))
    | _=>False)
   | _,_,_=>match P.underlying t with
    | some (.pointer _)=>bif Rc b then cj (pn op a) K else bif Rc a then cj (pn op b) K else False
    | some (.slice _)=>bif GP b then cj ((Lp a).bind (sn op)) K else bif GP a then cj ((Lp b).bind (sn op)) K else False
    | some (.struct fs)=>cj (aaN P t fs a b) λr=>cj (aaO op r) K
    | some (.map _ _)=>cj (mn op a b) K
    | _=>False
section
variable {P:Program} {gs:List (Bool×Bool)} {K:SV->Prop}
theorem YO{b}{k}{n}{K}(hb:qf b=some (k,n))(h:nz gs b n K):K/\(gh gs->n≠0):=by
 unfold nz at h;split at h
 ·cases hn:(n==0)with
  | true=>rw[hn]at h;exact h.elim
  | false=>rw[hn]at h;exact⟨h,λ_=>acH⟩
 exact⟨h.2,λg=>gX h.1 g⟩
theorem Re{b}{n}{K}(h:ge0 gs b n K):K/\(gh gs->0<=n):=by
 unfold ge0 at h;split at h
 ·by_cases hn:0<=n
  ·rw[bJ hn]at h;exact⟨h,λ_=>hn⟩
  rw[bI hn]at h;exact h.elim
 exact⟨h.2,λg=>gX h.1 g⟩
theorem dD{b}{p}(h:bif b then p else False):b=true/\p:=by
 cases b with
 | true=>exact⟨rfl,h⟩
 | false=>exact h.elim
def mD(P:Program)(op:BinOp)(t:TypeId)(a b v:SV):Prop:=
 ∀β (act:Act) x y dst ty t' p af g w,act.eval x=val β a->act.eval y=val β b->
  (execOp act.eval ⟨dst,.binOp op t x y ty,t',p,af,g⟩).run P w=.ok (.value (val β v)) w
theorem afG{op}{t}{a b v}{k}{m n}(ha:qf a=some (k,m))(hb:qf b=some (k,n))(h:ib op k m n=some v):mD P op t a b v:=by
 intro β act x y dst ty t' p af g w hx hy;rw[dw ha]at hx;rw[dw hb]at hy;cases op<;>simp[ib,be,reduceCtorEq]at h
 all_goals subst h;simp[execOp,hx,hy];cases k<;>rfl
theorem afH{op}{t}{a b v}{s u}(ha:vm a=some s)(hb:vm b=some u)(h:sb op s u=some v):mD P op t a b v:=by
 intro β act x y dst ty t' p af g w hx hy;rw[ir ha]at hx;rw[ir hb]at hy;cases op<;>simp only[sb,be,reduceCtorEq]at h
 all_goals subst h;simp only[execOp,hx,hy];rfl
theorem YP{op}{t e}{a b v}(hu:P.underlying t=some (.pointer e))(hb:Rc b=true)(h:pn op a=some v):mD P op t a b v/\mD P op t b a v:=by
 have hbv:∀β,val β b=.pointer none:=λβ=>by
  unfold Rc at hb;split at hb
  ·rfl
  cases hb
 have key:∀β,∃(q:Option Addr) (r:Bool),val β a=.pointer q/\val β v=.bool r/\((op=.eql/\q.isNone=r)∨(op=.neq/\(!q.isNone)=r)):=by
  intro β;unfold pn at h;split at h<;>simp only[be,reduceCtorEq]at h<;>subst h
  ·exact⟨_,_,rfl,rfl,.inl ⟨rfl,rfl⟩⟩
  ·exact⟨_,_,rfl,rfl,.inr ⟨rfl,rfl⟩⟩
  ·exact⟨_,_,rfl,rfl,.inl ⟨rfl,rfl⟩⟩
  ·exact⟨_,_,rfl,rfl,.inr ⟨rfl,rfl⟩⟩
  ·exact⟨_,_,rfl,rfl,.inl ⟨rfl,rfl⟩⟩
  ·exact⟨_,_,rfl,rfl,.inr ⟨rfl,rfl⟩⟩
  ·exact⟨_,_,rfl,rfl,.inl ⟨rfl,rfl⟩⟩
  exact⟨_,_,rfl,rfl,.inr ⟨rfl,rfl⟩⟩
 constructor
 ·intro β act x y dst ty t' p af g w hx hy;obtain⟨q,r,h1,h2,h3⟩:=key β;rw[h1]at hx;rw[hbv]at hy;rw[h2];rcases h3 with⟨rfl,h3⟩ | ⟨rfl,h3⟩
  ·exact D9 (run_underlying hu w) hx hy h3
  exact Eb (run_underlying hu w) hx hy h3
 intro β act x y dst ty t' p af g w hx hy;obtain⟨q,r,h1,h2,h3⟩:=key β;rw[h1]at hy;rw[hbv]at hx;rw[h2];rcases h3 with⟨rfl,h3⟩ | ⟨rfl,h3⟩
 ·exact Ea (run_underlying hu w) hx hy h3
 exact Ec (run_underlying hu w) hx hy h3
theorem YQ{op}{t e}{a b v}(hu:P.underlying t=some (.slice e))(hb:GP b=true)(h:(Lp a).bind (sn op)=some v):mD P op t a b v/\mD P op t b a v:=by
 have hbv:∀β,val β b=.slice none 0 0:=λβ=>by
  unfold GP at hb;split at hb
  ·rfl
  cases hb
 cases hs:Lp a with
 | none=>rw[hs]at h;cases h
 | some s=>
  rw[hs]at h;simp at h;constructor
  ·intro β act x y dst ty t' p af g w hx hy;rw[jZ hs]at hx;rw[hbv]at hy;cases op<;>simp only[sn,be,reduceCtorEq]at h<;>subst h
   ·exact GD (run_underlying hu w) hx hy
   exact GH (run_underlying hu w) hx hy
  intro β act x y dst ty t' p af g w hx hy;rw[jZ hs]at hy;rw[hbv]at hx;cases op<;>simp only[sn,be,reduceCtorEq]at h<;>subst h
  ·exact GF (run_underlying hu w) hx hy
  exact GI (run_underlying hu w) hx hy
theorem afI{op:BinOp}{t k e:TypeId}{a b v}(hu:P.underlying t=some (.map k e))(h:mn op a b=some v):mD P op t a b v:=by
 intro β act x y dst ty t' p af g w hx hy;unfold mn at h;split at h<;>simp only[be,reduceCtorEq]at h<;>subst h
 all_goals
  rename_i m;change act.eval x=.map m at hx;change act.eval y=.map none at hy;have hE:∀d,(Op.equalIn (d+1) t (.map m) (.map none)).run P w=.ok m.isNone w:=λd=>by
   unfold Op.equalIn;cases m<;>simp[Sem.run_bind,run_underlying hu w,Result.andThen_ok]<;>rfl
 ·have hB:binOp .eql t (.map m) (.map none)=(do pure (.bool ((<-Op.equal t (.map m) (.map none))))):=by cases m<;>rfl
  have hG:eqGuard .eql t x y (.map m) (.map none)=pure _:=rfl;simp[execOp,hx,hy,hG,hB,Op.equal,Op.maxDepth,Sem.run_bind,Sem.run_pure,Result.andThen_ok,hE 9999];rfl
 have hB:binOp .neq t (.map m) (.map none)=(do pure (.bool (!(<-Op.equal t (.map m) (.map none))))):=by cases m<;>rfl
 have hG:eqGuard .neq t x y (.map m) (.map none)=pure _:=rfl;simp[execOp,hx,hy,hG,hB,Op.equal,Op.maxDepth,Sem.run_bind,Sem.run_pure,Result.andThen_ok,hE 9999];rfl
theorem V3{t}{x y}{b}(h:eq1 P t x y=some b) β d w:P.plainKey t=true/\(Op.equalIn (d+1) t (val β x) (val β y)).run P w=.ok b w:=by
 unfold eq1 at h;split at h
 ·rename_i k hu;refine⟨adU,?_⟩;split at h
  ·rename_i k1 m k2 n hx hy;cases hk:decide (k1=k2)with
   | false=>rw[hk]at h;cases h
   | true=>
    rw[hk]at h;injection h with h;subst h;have hk:=aP hk;subst hk;rw[dw hx,dw hy];simp[Op.equalIn,run_underlying hu]
  cases h
 ·rename_i hu;refine⟨adU,?_⟩;split at h
  ·rename_i s u hx hy;injection h with h;subst h;rw[ir hx,ir hy];simp[Op.equalIn,run_underlying hu]
  cases h
 ·rename_i hu;refine⟨adU,?_⟩;split at h
  ·rename_i s u hx hy;injection h with h;subst h;rw[lY hx,lY hy];simp[Op.equalIn,run_underlying hu]
  cases h
 cases h
theorem GR{xs ys} β d w:∀{fs:List Field} {b:Bool},GQ P xs ys fs=some b->(Op.eqFields (d+1) (cD β xs).toArray (cD β ys).toArray fs).run P w=.ok b w
 | [],b,h=>by
  simp[GQ,be]at h;subst h;simp[Op.eqFields]
 | f::r,b,h=>by
  unfold GQ at h;cases hn:(f.name== "_")with
  | true=>rw[hn]at h;cases h
  | false=>
   rw[hn,uL]at h;split at h
   ·rename_i x y hx hy;have px:(cD β xs).toArray[f.offset]? =some (val β x):=by simp[cD,hx]
    have py:(cD β ys).toArray[f.offset]? =some (val β y):=by simp[cD,hy]
    have go:∀{b1 c:Bool},eq1 P f.type x y=some b1->GQ P xs ys r=some c->(Op.eqFields (d+1) (cD β xs).toArray (cD β ys).toArray (f::r)).run P w=.ok (b1&&c) w:=fun{b1 c} h1 h2=>by
     obtain⟨k1,k2⟩:=V3 h1 β d w;simp only[Op.eqFields,by simpa using hn,ne_eq,not_false_eq_true,zC,Sem.run_bind,run_part_plain w k1 px,run_part_plain w k1 py,k2,Result.andThen_ok];cases b1
     ·simp
     simpa using GR β d w h2
    split at h
    ·rename_i b1 c h1 h2;injection h with h;subst h;have:=go h1 h2;simp[GQ,be]at h2;subst h2;rwa[nB]at this
    ·rename_i b1 c h1 _ h2;injection h with h;subst h;exact go h1 h2
    cases h
   cases h
theorem V4{op}{t}{fs}{a b v}{r}(hu:P.underlying t=some (.struct fs))(h:aaN P t fs a b=some r)(hv:aaO op r=some v):mD P op t a b v:=by
 unfold aaN at h;split at h
 ·rename_i l m;obtain⟨h0,h⟩:(Cy l&&Cy m&&!P.stoodInHeld t&&!P.eqGuardType P.depth t)=true/\GQ P _ _ fs.toList=some r:=by
   cases hc:(Cy l&&Cy m&&!P.stoodInHeld t&&!P.eqGuardType P.depth t)with
   | true=>rw[hc]at h;exact⟨rfl,h⟩
   | false=>rw[hc]at h;cases h
  simp at h0;obtain⟨⟨⟨h1,h2⟩,h3⟩,h4⟩:=h0;intro β act x y dst ty t' p af g w hx hy;have ea:∀{l:SV},Cy l=true->val β (.agg l)=.agg (cD β _).toArray:=λhl=>by
   show Value.agg (qe β _).toArray=_;rw[mC β hl]
  rw[ea h1]at hx;rw[ea h2]at hy;have hfs:P.fieldsOf t=fs:=by simp[Program.fieldsOf,hu]
  have hE:(Op.equalIn 10000 t (.agg (cD β (mN l)).toArray) (.agg (cD β (mN m)).toArray)).run P w=.ok r w:=by
   rw[show 10000=9999+1 from rfl,run_equalIn_struct w 9999 t _ _ (by rw[hfs];exact hu) h3,hfs];exact GR β 9998 w h
  have hG:∀op,(eqGuard op t x y (.agg (cD β (mN l)).toArray) (.agg (cD β (mN m)).toArray)).run P w=.ok () w:=λop=>by
   unfold eqGuard;cases op<;>simp[run_program,h4]
  unfold aaO at hv;split at hv
  ·injection hv with hv;subst hv;have hB:binOp .eql t (.agg (cD β (mN l)).toArray) _=(do pure (.bool (<-Op.equal t _ (.agg (cD β (mN m)).toArray)))):=rfl;simp[execOp,hx,hy,hB,Op.equal,Op.maxDepth,Sem.run_bind,Sem.run_pure,Result.andThen_ok,hE,hG];rfl
  ·injection hv with hv;subst hv;have hB:binOp .neq t (.agg (cD β (mN l)).toArray) _=(do pure (.bool (!(<-Op.equal t _ (.agg (cD β (mN m)).toArray))))):=rfl;simp[execOp,hx,hy,hB,Op.equal,Op.maxDepth,Sem.run_bind,Sem.run_pure,Result.andThen_ok,hE,hG];rfl
  cases hv
 cases h
theorem V5{op}{t}{a b}(h:aaP P gs op t a b K):∃v,K v/\(gh gs->mD P op t a b v):=by
 unfold aaP at h;split at h
 ·rename_i k m k' n ha hb;have gen:∀{K:SV->Prop},(bif decide (k=k')then cj _ K else False)->∃v,K v/\(gh gs->mD P op t a b v):=λh=>by
   obtain⟨gU,h1⟩:=dD h;have hk:=aP gU;subst hk;obtain⟨v,hv,hK⟩:=bC h1;exact⟨v,hK,λ_=>afG ha hb hv⟩
  split at h
  ·obtain⟨h,hn⟩:=Re h;exact⟨_,h,λg β act x y dst ty t' p af gg w hx hy=>afq (by rw[hx,dw ha]) (by rw[hy,dw hb]) (hn g)⟩
  ·obtain⟨h,hn⟩:=Re h;exact⟨_,h,λg β act x y dst ty t' p af gg w hx hy=>afr (by rw[hx,dw ha]) (by rw[hy,dw hb]) (hn g)⟩
  ·obtain⟨gU,h1⟩:=dD h;have hk:=aP gU;subst hk;obtain⟨h2,hn⟩:=YO hb h1;exact⟨_,h2,λg β act x y dst ty t' p af gg w hx hy=>afo (by rw[hx,dw ha]) (by rw[hy,dw hb]) (hn g)⟩
  ·obtain⟨gU,h1⟩:=dD h;have hk:=aP gU;subst hk;obtain⟨h2,hn⟩:=YO hb h1;exact⟨_,h2,λg β act x y dst ty t' p af gg w hx hy=>afp (by rw[hx,dw ha]) (by rw[hy,dw hb]) (hn g)⟩
  exact gen h
 split at h
 ·rename_i s u ha hb;split at h
  ·exact⟨_,h.2,λg β act x y dst ty t' p af gg w hx hy=>QT (by rw[hx,ir ha]) (by rw[hy,ir hb]) (gX h.1 g)⟩
  obtain⟨v,hv,hK⟩:=bC h;exact⟨v,hK,λ_=>afH ha hb hv⟩
 split at h
 ·rename_i s u ha hb hu;split at h
  ·exact⟨_,h,λg β act x y dst ty t' p af gg w hx hy=>N9 hu (by rw[hx,lY ha]) (by rw[hy,lY hb])⟩
  ·exact⟨_,h,λg β act x y dst ty t' p af gg w hx hy=>Oa hu (by rw[hx,lY ha]) (by rw[hy,lY hb])⟩
  exact h.elim
 split at h
 ·rename_i e hu;cases hb:Rc b with
  | true=>
   rw[hb]at h;obtain⟨v,hv,hK⟩:=bC h;exact⟨v,hK,λ_=>(YP hu hb hv).1⟩
  | false=>
   rw[hb]at h;obtain⟨ha,h⟩:=dD h;obtain⟨v,hv,hK⟩:=bC h;exact⟨v,hK,λ_=>(YP hu ha hv).2⟩
 ·rename_i e hu;cases hb:GP b with
  | true=>
   rw[hb]at h;obtain⟨v,hv,hK⟩:=bC h;exact⟨v,hK,λ_=>(YQ hu hb hv).1⟩
  | false=>
   rw[hb]at h;obtain⟨ha,h⟩:=dD h;obtain⟨v,hv,hK⟩:=bC h;exact⟨v,hK,λ_=>(YQ hu ha hv).2⟩
 ·rename_i fs hu;obtain⟨r,hr,h⟩:=bC h;obtain⟨v,hv,hK⟩:=bC h;exact⟨v,hK,λ_=>V4 hu hr hv⟩
 ·rename_i kk ee hu;obtain⟨v,hv,hK⟩:=bC h;exact⟨v,hK,λ_=>afI hu hv⟩
 exact h.elim
end
def V6:SV->Bool
 | .agg _=>false
 | .tup _=>false
 | .un=>false
 | .e=>false
 | .c _ _=>false
 | _=>true
def Lq:List SV->Bool
 | []=>true
 | s::r=>V6 s&&Lq r
theorem GS{s}(h:V6 s=true) β:(val β s).oneCell'=true/\(val β s).cells=#[val β s]:=by
 cases s with
 | raw v=>
  have e:val β (.raw v)=v.v:=rfl;refine⟨v.one,?_⟩;obtain⟨v,hv⟩:=v;cases v<;>first | rfl | (simp[Value.oneCell']at hv)
 | _=>first | exact⟨rfl,rfl⟩ | (simp[V6]at h)
theorem C3:∀{l:List SV},Lq l=true->∀β,(cD β l).all Value.oneCell'=true
 | [],_,_=>rfl
 | s::r,h,β=>by
  simp[Lq,aR]at h;simp only[cD,bH,List.all_cons,aR];exact⟨(GS h.1 β).1,C3 h.2 β⟩
def AA:SV->Option (List SV)
 | .agg l=>bif Cy l&&Lq (mN l)then some (mN l)else none
 | s=>bif V6 s then some [s]else none
theorem Ej{α:Type}{b}{x}{y:α}(h:(bif b then some x else none)=some y):b=true/\x=y:=by
 cases b with
 | true=>exact⟨rfl,aaA⟩
 | false=>cases h
theorem xC{s}{l}(h:AA s=some l) β:(val β s).cells=(cD β l).toArray/\(cD β l).all Value.oneCell'=true:=by
 unfold AA at h;split at h
 ·obtain⟨h1,rfl⟩:=Ej h;simp at h1;refine⟨?_,C3 h1.2 β⟩;show(qe β _).toArray=_;rw[mC β h1.1]
 obtain⟨h1,rfl⟩:=Ej h;obtain⟨h2,h3⟩:=GS h1 β;exact⟨h3,by simp[cD,h2]⟩
def Jx:List az->Option (List SV)
 | []=>some []
 | v::r=>match Q9 v,Jx r with
  | some s,some l=>some (s::l)
  | _,_=>none
theorem zI β:∀{l:List az} {s:List SV},Jx l=some s->cD β s=l
 | [],s,h=>by simp[Jx,be]at h;subst h;rfl
 | v::r,s,h=>by
  simp[Jx]at h;split at h
  ·rename_i s' l' h1 h2;simp at h;subst h;have:=zI β h2;simp only[cD,bH]at this⊢;rw[Ay h1,this]
  cases h
def spl(cs:List SV)(o:Nat)(vs:List SV):List SV:=cs.take o++vs++cs.drop (o+vs.length)
theorem GU β cs o vs:cD β (spl cs o vs)=cz (cD β cs) o (cD β vs):=by
 simp[cD,spl,cz,dh,nC,ra,bA]
theorem GV{off}:∀vs k cs,off+k+vs.length<=cs.length->
  (vs.zipIdx k).foldl (λcs x=>cs.setIfInBounds (off+x.2) x.1) cs.toArray=(cz cs (off+k) vs).toArray
 | [],k,cs,_=>by simp[cz]
 | v::vs,k,cs,h=>by
  simp at h;have e:cs.toArray.setIfInBounds (off+k) v=(cs.set (off+k) v).toArray:=aac
  rw[List.zipIdx_cons,iC];rw[e,GV vs _ _ (by rw[iB];omega)];simp[cz,bn];rw[show off+_=off+k+1 by omega,bE,oU aG,Gh (ba _),Gi aG,show off+k+1+vs.length=off+k+(vs.length+1) by omega];simp
def C4(place:Nat->Option (Nat×Nat)):List SV->List (Nat×SV)->Option (List SV)
 | cells,[]=>some cells
 | cells,(i,v)::rest=>match place i,AA v with
  | some (off,size),some vs=>bif Nat.beq vs.length size&&Nat.ble (off+vs.length) cells.length then C4 place (spl cells off vs) rest else none
  | _,_=>none
theorem AB β {place}:∀{parts:List _} {cells r:List SV},C4 place cells parts=some r->Instr.fill place (cD β cells).toArray (C2 β parts)=some (cD β r).toArray
 | [],cells,r,h=>by simp[C4,be]at h;subst h;rfl
 | _::rest,cells,r,h=>by
  simp[C4]at h;split at h
  ·rename_i off size vs hp hc;cases hb:(Nat.beq vs.length size&&Nat.ble _ cells.length)with
   | false=>rw[hb]at h;cases h
   | true=>
    rw[hb]at h;simp only[aR]at hb;have h1:=cd hb.1;have h2:=cH hb.2;obtain⟨e1,_⟩:=xC hc β;have ih:=AB β (parts:=rest) (cells:=spl cells off vs) h;rw[GU]at ih;simp only[C2,bH,Instr.fill,hp,e1,eK,fF];rw[aY aae];have e2:=GV (off:=off) (cD β vs) 0 (cD β cells) (by rw[fF,fF];omega);rw[fJ]at e2;have e3:(cD β vs).toArray.zipIdx.foldl (λcs x=>cs.setIfInBounds (off+x.2) x.1) (cD β cells).toArray=(cz (cD β cells) off (cD β vs)).toArray:=by
     rw[<-e2];simp
    exact(bm (λa=>Instr.fill place a _) e3).trans ih
  cases h
def aaQ(P:Program)(t:TypeId)(parts:List (Nat×SV)):Option (List SV):=
 match P.info? t,P.underlying t with
 | some it,some (.array _ e)=>(match it.zero,P.info? e with
  | some z,some ie=>(match Jx z.cells.toList with
   | some zs=>C4 (λi=>some (i*ie.size,ie.size)) zs parts
   | none=>none)
  | _,_=>none)
 | some it,some (.struct fields)=>(match it.zero,fields.toList.mapM (λf=>(P.info? f.type).map λi=>(f.offset,i.size))with
  | some z,some places=>(match Jx z.cells.toList with
   | some zs=>C4 (places.toArray[·]?) zs parts
   | none=>none)
  | _,_=>none)
 | _,_=>none
theorem V7{P}{t}{parts}{r}(h:aaQ P t parts=some r) β w:(Instr.build t (C2 β parts).toArray).run P w=.ok (.agg (cD β r).toArray) w:=by
 refine run_build w t _ _ ?_;unfold aaQ at h;split at h
 ·rename_i it n e h1 h2;split at h
  ·rename_i z ie h3 h4;split at h
   ·rename_i zs h5;have:=AB β h;rw[zI β h5]at this;simp[Program.built,h1,h2,h3,h4];simpa using this
   cases h
  cases h
 ·rename_i it fields h1 h2;split at h
  ·rename_i z places h3 h4;split at h
   ·rename_i zs h5;have:=AB β h;rw[zI β h5]at this;simp[Program.built,h1,h2,h3,h4];simpa using this
   cases h
  cases h
 cases h
end Go.Kt.V
