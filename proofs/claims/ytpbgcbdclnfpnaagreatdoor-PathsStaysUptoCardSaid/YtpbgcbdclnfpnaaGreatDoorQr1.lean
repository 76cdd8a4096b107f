import Derived.WalkKit
import Derived.Deep.Draws
import Derived.Deep.LoopGhost
import Derived.Deep.Quiet
import Derived.OrdersHeld
import Derived.Laws.Small
import Derived.Laws.AppendOwn
import Derived.Great.BuildSlice
import Derived.Laws.MakeOwn
import Derived.MapKept
import Derived.Lib.Strings
import Derived.KernelRfl
import Derived.ChangeKeysEq
import Derived.Laws.Tables
import Derived.Defers
import Derived.Test.YtpbgcbdclnfpnaaGreatDoorRows
import Derived.Ground.Names2Prog
import Derived.Ground.SlgnProg
import Derived.Ground.SlgcProg
import Derived.Test.YtpbgcbdclnfpnaaGreatDoorProg
import Derived.Lib.ParseIntB
import Derived.Lib.Bytealg
import Derived.Lib.ItoaLen
import Derived.Lib.AtoiErrMem
import Derived.Lib.Builder
import Derived.Lib.AppendStr
import Derived.Lib.UnsafeStr
import Derived.Lib.Join
import Derived.Lib.Repeat
import Derived.WideKeyElems
import Derived.Sort.KeysCollected
import Derived.ProofKit
import Derived.OpenShut
import Derived.SizedLaws
import Derived.Deep.Slices
import Derived.JoinedCond
import Derived.Deep.CondSized
import Derived.Lib.TrailingZeros
import Derived.Laws.BitsAllLaws
import Derived.Maps.RangeRun
import Derived.Lib.SlKeysI
import Derived.Ground.GgzProg
import Derived.Ground.SlgmProg
import Derived.Ground.SlsfProg
import Derived.Lib.LaidTab
import Derived.Laws.CopyRow
import Derived.Laws.Bits128
import Derived.Laws.OwnMore
set_option linter.unusedSectionVars false
set_option linter.unusedSimpArgs false
set_option linter.unusedVariables false
theorem aG{P:Prop}(h:P:=by omega):P:=h
theorem aN{P:Prop}(h:P:=by decide):P:=h
theorem aaa{P:Prop}(h:P:=by simp):P:=h
theorem aab{P:Prop}(h:P:=by simp;omega):P:=h
theorem aaq{P:Prop}(h:P:=by rw[gF (by omega) (by omega)];rfl):P:=h
theorem aaw{P:Prop}(h:P:=by simpa using hc):P:=h
theorem aaD{P:Prop}(h:P:=by simp only[aO]at hx;omega):P:=h
theorem aaH{P:Prop}(h:P:=by cases h):P:=h
theorem aaJ{P:Prop}(h:P:=by simp only[aR,bn,cm]at hx;omega):P:=h
theorem aaQ{P:Prop}(h:P:=by simp only[aO]at hx;simp[hx]):P:=h
theorem aa2{P:Prop}(h:P:=by simpa using hk):P:=h
theorem abd{P:Prop}(h:P:=by simp only[aO];omega):P:=h
theorem abe{P:Prop}(h:P:=by rintro _ w' ⟨v,rfl,⟨s,rfl,h⟩,h'⟩;exact⟨⟨s,rfl,h⟩,h'⟩):P:=h
theorem abg{P:Prop}(h:P:=by rintro _ w' ⟨v,rfl,rfl,h⟩;exact⟨rfl,h⟩):P:=h
theorem abh{P:Prop}(h:P:=by dsimp only;omega):P:=h
theorem abi{P:Prop}(h:P:=by simpa using h):P:=h
theorem abj{P:Prop}(h:P:=by simpa using hb):P:=h
theorem abk{P:Prop}(h:P:=by simp at h):P:=h
theorem abl{P:Prop}(h:P:=by dsimp only;decide):P:=h
theorem abm{P:Prop}(h:P:=by rintro _ w' ⟨v,rfl,⟨t,rfl,h⟩,h'⟩;exact⟨⟨t,rfl,h⟩,h'⟩):P:=h
theorem abn{P:Prop}(h:P:=by have:=h.hG k hk;simp only[aO]at hm;omega):P:=h
theorem abo{P:Prop}(h:P:=by rw[aW,bO];omega):P:=h
theorem abp{P:Prop}(h:P:=by have:=mQ e;omega):P:=h
theorem abq{P:Prop}(h:P:=by simpa using hx):P:=h
theorem abr{P:Prop}(h:P:=by simp at hx;simp[hx]):P:=h
theorem abt{P:Prop}(h:P:=by have:=aP hc;omega):P:=h
theorem abu{P:Prop}(h:P:=by simpa using hm):P:=h
theorem abv{P:Prop}(h:P:=by simpa using h1):P:=h
theorem abC{P:Prop}(h:P:=by rw[dP];omega):P:=h
theorem abD{P:Prop}(h:P:=by simp only[aR,bn,cm]at hx⊢;omega):P:=h
theorem abJ{P:Prop}(h:P:=by rw[aW];omega):P:=h
theorem abN{P:Prop}(h:P:=by have:=aY hc;omega):P:=h
theorem abO{P:Prop}(h:P:=by rintro _ w' ⟨v,rfl,t,rfl,h⟩;exact⟨t,rfl,h⟩):P:=h
theorem abQ{P:Prop}(h:P:=by rintro(h | ⟨h,_⟩)<;>omega):P:=h
theorem abS{P:Prop}(h:P:=by rw[bA];omega):P:=h
theorem ab1{P:Prop}(h:P:=by rw[<-e];exact hk):P:=h
theorem acg{P:Prop}(h:P:=by rintro _ w' ⟨c,rfl,rfl,h⟩;exact⟨rfl,h⟩):P:=h
theorem acn{P:Prop}(h:P:=by have:=(hS.blk e).2;dsimp only at this;omega):P:=h
theorem acp{P:Prop}(h:P:=by obtain⟨z,_,rfl⟩:=cP.1 hc;rfl):P:=h
theorem acq{P:Prop}(h:P:=by simpa using hn):P:=h
theorem acr{P:Prop}(h:P:=by simp only[aO]at hk;omega):P:=h
theorem acs{P:Prop}(h:P:=by have:=(h.hF k uD).1;have:=hO.size;omega):P:=h
theorem acu{P:Prop}(h:P:=by rw[hy]at ha;simpa[qf]using ha):P:=h
theorem acD{P:Prop}(h:P:=by simpa using h2):P:=h
theorem acG{P:Prop}(h:P:=by rw[show ar #[59]=T [59]from rfl,lG]):P:=h
theorem acH{P:Prop}(h:P:=by rw[jO]at hi;simpa using hi):P:=h
theorem acJ{P:Prop}(h:P:=by unfold V at h;exact h.elim):P:=h
theorem acN{P:Prop}(h:P:=by simpa using he):P:=h
theorem acO{P:Prop}(h:P:=by simpa using hi):P:=h
theorem acT{P:Prop}(h:P:=by simpa using hf):P:=h
theorem acU{P:Prop}(h:P:=by have:=(rR x hx).1;omega):P:=h
theorem acV{P:Prop}(h:P:=by rw[bM,bK (be.1 hj).1];exact hj):P:=h
theorem acW{P:Prop}(h:P:=by unfold fM;exact bH (by omega)):P:=h
theorem ac3{P:Prop}(h:P:=by grind):P:=h
theorem ac4{P:Prop}(h:P:=by rw[fH];exact ba _):P:=h
theorem ac5{P:Prop}(h:P:=by rw[<-hm];exact hk):P:=h
theorem ac6{P:Prop}(h:P:=by simpa using hj):P:=h
theorem ac7{P:Prop}(h:P:=by unfold ij;split<;>rfl):P:=h
theorem ac8{P:Prop}(h:P:=by simpa using hh):P:=h
theorem ac9{P:Prop}(h:P:=by rintro⟨_,h⟩;omega):P:=h
theorem ada{P:Prop}(h:P:=by rw[aO]at hz;rw[hz];exact Ig):P:=h
theorem adb{P:Prop}(h:P:=by simpa using hk.2):P:=h
theorem ade{P:Prop}(h:P:=by have:=hk.2;omega):P:=h
theorem adf{P:Prop}(h:P:=by cases hx):P:=h
theorem adg{P:Prop}(h:P:=by rw[jO]at ho;simpa using ho):P:=h
theorem adh{P:Prop}(h:P:=by rw[nQ,<-N.len];exact eT ht):P:=h
theorem adi{P:Prop}(h:P:=by simp[Op.equalIn,hu]):P:=h
theorem adj{P:Prop}(h:P:=by simp at hk;simp[hk]):P:=h
theorem adk{P:Prop}(h:P:=by simp[Program.plainKey,hu]):P:=h
theorem adl{P:Prop}(h:P:=by rw[bM];exact hj):P:=h
theorem adm{P:Prop}(h:P:=by have:=(h.hF k uD).1;omega):P:=h
theorem adn{P:Prop}(h:P:=by rw[kx];omega):P:=h
theorem ado{P:Prop}(h:P:=by have:=wx g hg;simp;omega):P:=h
theorem adp{P:Prop}(h:P:=by rw[cK];omega):P:=h
theorem adq{P:Prop}(h:P:=by simpa using hr):P:=h
theorem adr{P:Prop}(h:P:=by simpa using h4):P:=h
theorem ads{P:Prop}(h:P:=by have:=(wA.lt e).1;omega):P:=h
theorem adt{P:Prop}(h:P:=by unfold mu;split<;>omega):P:=h
theorem adu{P:Prop}(h:P:=by rw[hy];simp):P:=h
theorem adv{P:Prop}(h:P:=by rw[di,bM];exact rD _ _):P:=h
theorem adw{P:Prop}(h:P:=by rw[kV,hl];rfl):P:=h
theorem adx{P:Prop}(h:P:=by rw[hh];decide):P:=h
theorem ady{P:Prop}(h:P:=by simp[hx]):P:=h
theorem adz{P:Prop}(h:P:=by have:=Eh x;omega):P:=h
theorem adA{P:Prop}(h:P:=by have:=yR.br _ e;omega):P:=h
theorem adB{P:Prop}(h:P:=by rw[h0]at hr;cases hr):P:=h
theorem adC{P:Prop}(h:P:=by rw[hb]at hh;cases hh):P:=h
theorem adD{P:Prop}(h:P:=by rw[hy];simp[tY]):P:=h
theorem adE{P:Prop}(h:P:=by rw[hy];rfl):P:=h
theorem adF{P:Prop}(h:P:=by rw[di];omega):P:=h
theorem adG{P:Prop}(h:P:=by simpa using hv):P:=h
theorem adH{P:Prop}(h:P:=by simpa using hl):P:=h
theorem adI{P:Prop}(h:P:=by cases hb):P:=h
theorem adJ{P:Prop}(h:P:=by cases e):P:=h
theorem adK{P:Prop}(h:P:=by simpa using zq):P:=h
theorem adL{P:Prop}(h:P:=by simpa using nZ):P:=h
theorem adM{P:Prop}(h:P:=by simp[Addr.add]):P:=h
theorem adN{P:Prop}(h:P:=by simpa using hp):P:=h
theorem adO{P:Prop}(h:P:=by rw[bW,hx];rfl):P:=h
theorem adP{P:Prop}(h:P:=by rw[hsz];omega):P:=h
theorem adQ{P:Prop}(h:P:=by rw[hw];decide):P:=h
theorem adR{P:Prop}(h:P:=by rw[bF,a2];rfl):P:=h
theorem adS{P:Prop}(h:P:=by cases hk):P:=h
theorem adT{P:Prop}(h:P:=by simp[h1]):P:=h
set_option linter.defProp false
def aO:=@List.mem_singleton
def aP:=@of_decide_eq_true
def aQ:=@List.getElem?_eq_getElem
def aR:=@List.mem_cons
def aU:=@Bool.and_eq_true
def aV:=@Int.toNat_natCast
def aW:=@List.length_append
def aX:=@if_neg
def aY:=@of_decide_eq_false
def aZ:=@if_pos
def ba:=@Nat.le_refl
def bc:=@Option.some.injEq
def be:=@List.getElem?_eq_some_iff
def bf:=@Nat.le_trans
def bh:=@congrArg
def bn:=@List.not_mem_nil
def bp:=@List.length_cons
def bq:=@List.take_of_length_le
def bA:=@List.length_map
def bB:=@Nat.zero_le
def bD:=@List.mem_of_getElem?
def bE:=@Int.natCast_nonneg
def bF:=@List.take_add_one
def bG:=@List.map_cons
def bH:=@decide_eq_false
def bJ:=@decide_eq_true_eq
def bK:=@List.getElem?_append_left
def bL:=@decide_eq_true
def bM:=@Nat.zero_add
def bO:=@List.length_singleton
def bQ:=@List.eq_nil_of_length_eq_zero
def bR:=@List.append_assoc
def bS:=@List.append_nil
def bT:=@Bool.eq_iff_iff
def bU:=@Bool.or_eq_true
def bW:=@List.getElem?_map
def bX:=@List.getElem?_append_right
def bZ:=@Nat.eq_of_beq_eq_true
def ch:=@decide_eq_true_iff
def ci:=@List.mem_append
def cm:=@or_false
def cp:=@List.cons_append
def cq:=@Nat.lt_of_lt_of_le
def cr:=@Decidable.byContradiction
def cD:=@List.sum_cons
def cE:=@List.nil_append
def cF:=@List.getElem?_eq_none
def cG:=@Nat.le_of_ble_eq_true
def cK:=@List.length_take
def cM:=@List.length_drop
def cO:=@List.getElem?_cons_zero
def cP:=@List.mem_map
def cY:=@List.length_filter_le
def da:=@List.take_zero
def db:=@Bool.true_and
def dc:=@List.map_append
def dd:=@List.mem_cons_of_mem
def de:=@beq_iff_eq
def di:=@List.length_nil
def dj:=@Bool.not_eq_true'
def dl:=@List.getElem?_cons_succ
def dq:=@decide_eq_false_iff_not
def dr:=@List.mem_flatMap
def du:=@List.take_append_drop
def dv:=@List.mem_filter
def dy:=@List.flatten_cons
def dz:=@Option.map_some
def dM:=@List.pairwise_cons
def dN:=@List.pairwise_iff_getElem
def dU:=@List.append_eq_nil_iff
def dW:=@Option.isSome_iff_exists
def dY:=@List.all_eq_true
def eh:=@List.mem_cons_self
def eu:=@List.filter_append
def ez:=@Nat.add_sub_cancel_left
def eB:=@List.take_succ_cons
def eF:=@List.getElem_mem
def eG:=@List.filter_nil
def eJ:=@List.size_toArray
def eM:=@Nat.add_mul
def eN:=@List.takeWhile_cons
def eU:=@Nat.add_assoc
def eY:=@List.getElem?_of_mem
def ff:=@Array.getElem?_eq_none
def fi:=@List.drop_zero
def fj:=@Bool.false_and
def fk:=@Array.length_toList
def ft:=@Bool.eq_false_iff
def fE:=@Nat.add_zero
def fF:=@List.any_eq_true
def fH:=@List.length_range
def fN:=@List.map_nil
def fS:=@decide_eq_decide
def fT:=@Bool.or_eq_false_iff
def ga:=@Array.getElem?_eq_some_iff
def gf:=@List.ext_getElem?
def gj:=@Option.map_eq_some_iff
def gp:=@List.drop_succ_cons
def gq:=@List.length_pos_iff
def gr:=@List.flatMap_append
def gz:=@Array.getElem?_setIfInBounds_ne
def gA:=@Classical.byContradiction
def gC:=@List.drop_eq_getElem_cons
def gD:=@List.exists_mem_of_ne_nil
def gJ:=@Array.getElem?_modify
def gK:=@List.length_replicate
def iq:=@List.length_set
def iw:=@List.toList_toArray
def iA:=@List.map_map
def iB:=@List.sum_nil
def iC:=@Nat.le_succ
def iO:=@Nat.zero_testBit
def iQ:=@List.getElem?_drop
def iT:=@List.getElem?_toArray
def jf:=@List.getElem?_zip_eq_some
def jg:=@Except.ok.injEq
def jo:=@Nat.mul_le_mul_right
def jp:=@Nat.add_comm
def jE:=@Prod.mk.injEq
def jM:=@Int.toNat_of_nonneg
def jN:=@List.getElem_of_mem
def jX:=@if_false
def jY:=@Option.getD_some
def jZ:=@List.eq_nil_iff_forall_not_mem
def ka:=@Nat.mul_one
def kq:=@Bool.false_eq_true
def kr:=@Nat.sub_zero
def ku:=@Bool.not_not
def kw:=@List.ne_nil_of_mem
def kM:=@List.foldl_cons
def kO:=@List.nodup_cons
def lr:=@List.mem_range
def lu:=@List.elem_cons
def lw:=@Nat.add_le_add
def lD:=@Nat.pow_le_pow_right
def mj:=@cond_true
def ml:=@List.filter_cons
def nf:=@Bool.false_or
def ni:=@Bool.and_true
def nj:=@List.map_take
def nl:=@Bool.eq_false_or_eq_true
def nU:=@Option.toList_some
def oa:=@Int.le_refl
def ob:=@List.length_eq_zero_iff
def oJ:=@List.drop_eq_nil_of_le
def oK:=@getElem!_pos
def oL:=@List.getElem?_set_self
def oM:=@List.drop_drop
def oO:=@List.drop_of_length_le
def oP:=@List.foldl_append
def oQ:=@Nat.le_of_eq
def oS:=@List.pairwise_map
def oT:=@or_congr_right
def oU:=@exists_congr
def oV:=@List.getElem_take
def pN:=@List.take_eq_take_iff
def pO:=@List.contains_iff_mem
def qL:=@Nat.le_of_not_lt
def qM:=@Bool.not_eq_true
def qN:=@List.map_drop
def rv:=@List.pairwise_append
def rT:=@List.cons.injEq
def rU:=@List.map_congr_left
def ui:=@cond_false
def u9:=@Ne.symm
def vd:=@Nat.lt_succ_of_le
def wD:=@List.getElem?_take_of_lt
def xQ:=@Option.bind_some
def xR:=@List.countP_cons_of_pos
def xS:=@List.take_length
def xT:=@List.mem_reverse
def yS:=@if_true
def yT:=@Nat.zero_mul
def zr:=@Option.map_none
def zv:=@List.headD_cons
def zw:=@Option.some.inj
def zx:=@List.all_append
def zy:=@and_congr_right
def BA:=@List.set_append_right
def B3:=@Bool.and_assoc
def B4:=@List.getElem?_set_ne
def B5:=@List.mem_append_left
def Fk:=@Nat.mul_le_mul_left
def Fl:=@List.flatten_append
def Fm:=@List.take_set_of_le
def Fp:=@List.drop_set_of_lt
def Fq:=@List.filter_eq_self
def FC:=@Int.ofNat.inj
def FD:=@Nat.mul_assoc
def HY:=@Bool.not_eq_false'
def HZ:=@Nat.lt_or_gt_of_ne
def J9:=@Iff.rfl
def Ka:=@List.getElem?_set
def Kb:=@Bool.or_true
def Ke:=@List.flatMap_cons
def Kf:=@Nat.sub_self
def OW:=@Array.toList_inj
def OX:=@Nat.le_max_right
def OY:=@Nat.succ_le_succ
def OZ:=@Nat.lt_succ_self
def O0:=@Nat.lt_of_not_le
def O1:=@List.countP_cons
def O2:=@List.map_id
def PJ:=@List.take_append_of_le_length
def PK:=@List.mem_eraseIdx_iff_getElem
def T3:=@UInt8.toNat_inj
def T4:=@Nat.le_max_left
def T5:=@List.any_append
def T6:=@List.of_mem_zip
def Ux:=@List.take_length_add_append
def Uy:=@List.drop_length_add_append
abbrev ay6(w v:Go.World)(k:Nat)(p:Prop):Prop:=w.heap.size<=k->k<v.heap.size->p
abbrev aI:=Go.Value->Go.World->Prop
abbrev aJ:=List UInt8
abbrev aK:=List Go.Value
abbrev aL:=Nat->Prop
abbrev aM:=ByteArray
namespace Go.Kt
open Go renaming World->ay,Value->az
open Go Go.RowKit
structure Sl where
 a:Option Addr
 n:Nat
 c:Nat
@[reducible] def Sl.v(s:Sl):az:=.slice s.a s.n s.c
@[reducible] def Sl.nil:Sl:=⟨none,0,0⟩
def Sl.cut(s:Sl)(l h m size:Nat):Sl:=⟨if m=l then s.a else s.a.map (·.add (l*size)),h-l,m-l⟩
def dI(s:Sl)(i:Int)(size:Nat)(ad:Addr):Prop:=∃base,s.a=some base/\0<=i/\i<s.n/\ad=base.add (i.toNat*size)
structure Only (bs:List Nat) (w w':ay):Prop where
 os:w'.os=w.os
 tape:w'.tape=w.tape
 output:w'.output=w.output
 size:w.heap.size<=w'.heap.size
 block:∀k,k<w.heap.size->k∉bs->w'.heap[k]? =w.heap[k]?
def Blk(w:ay)(b:Nat)(t:TypeId)(cs:List az):Prop:=w.heap[b]? =some (.cells cs.toArray t (0,0))
def Cells(w:ay)(a:Addr)(cs:List az):Prop:=∀j v,cs[j]? =some v->w.cell? (a.add j)=some v
def cj(bs:List Nat)(w w':ay):Prop:=∀b,b∈bs->w'.heap[b]? =w.heap[b]?
def gn(b:UInt8):az:=.int .u8 b.toNat
def zz(w:ay)(s:Sl)(l:List UInt8):Prop:=s.n=l.length/\(l≠[]->∃ad,s.a=some ad/\Cells w ad (l.map gn))
def Sl.blk(s:Sl):Nat:=match s.a with | some a=>a.block | none=>0
def cx(cs:List az)(o:Nat)(vs:List az):List az:=cs.take o++vs++cs.drop (o+vs.length)
section
variable {w w' tt:ay} {bs bs':List Nat} {b:Nat} {t:TypeId} {cs:List az}
theorem Blk.lt(h:Blk w b t cs):b<w.heap.size:=(ga.1 h).1
theorem Only.refl bs w:Only bs w w:=⟨rfl,rfl,rfl,ba _,λ_ _ _=>rfl⟩
theorem Only.weaken(h:Only bs w w')(hb:∀x,x∈bs->x∈bs'∨w.heap.size<=x):Only bs' w w':=
 ⟨h.os,h.tape,h.output,h.size,λk hk hn=>h.block k hk λhm=>ac3⟩
theorem Only.trans(h:Only bs w w')(k:Only bs' w' tt)(hb:∀x,x∈bs'->x∈bs∨w.heap.size<=x):Only bs w tt:=
 ⟨k.os.trans h.os,k.tape.trans h.tape,k.output.trans h.output,bf h.size k.size,λi hi hn=>
  (k.block i (cq hi h.size) λhm=>ac3).trans (h.block i hi hn)⟩
theorem Only.cy(h:Only bs w w')(k:Only [] w' tt):Only bs w tt:=h.trans k aaa
theorem Only.cons(h:Only bs w w')(k:Only [b] w' tt):Only (b::bs) w tt:=
 (h.weaken (bs':=b::bs) λ_ hx=>.inl (dd _ hx)).trans k λx hx=>.inl ac3
theorem Only.mem(h:Only bs w w')(k:Only [b] w' tt)(hb:b∈bs):Only bs w tt:=h.trans k λx hx=>.inl ac3
theorem Only.new(h:Only bs w w')(k:Only [b] w' tt)(hb:w.heap.size<=b):Only bs w tt:=h.trans k λx hx=>.inr ac3
theorem Only.blk(h:Only bs w w')(hb:Blk w b t cs)(hn:b∉bs):Blk w' b t cs:=(h.block b hb.lt hn).trans hb
theorem Only.below(h:Only bs w w'){B}(hB:B<=w.heap.size)(hb:∀x,x∈bs->B<=x):Below B w w':=
 ⟨h.os,h.tape,h.output,h.size,λk hk=>h.block k aG λhm=>by have:=hb k hm;omega⟩
theorem Only.ov(h:Below w.heap.size w w'):Only [] w w':=⟨h.os,h.tape,h.output,h.size,λk hk _=>h.block k hk⟩
theorem Only.SQ{row}(h:w.grownBy w' row):Only row.toList w w':=⟨h.os,h.tape,h.output,h.size,λk hk hn=>h.block k hk λe=>hn (by simp[<-e])⟩
theorem Only.drew w:Only [] w w.drew:=⟨rfl,rfl,rfl,ba _,λ_ _ _=>rfl⟩
theorem Only.drewN w n:Only [] w (w.drewN n):=⟨rfl,rfl,rfl,ba _,λ_ _ _=>rfl⟩
theorem Only.alloc w o:Only [] w (w.alloc o):=⟨rfl,rfl,rfl,aaa,λk hk _=>_root_.Go.heap_alloc_old w o hk⟩
theorem Only.setRow w b cs:Only [b] w (w.setRow b cs):=⟨rfl,rfl,rfl,aaa,λk _ hn=>setRow_other w b k cs acq⟩
theorem Only.same(h:Only bs w w')(hl:∀x,x∈bs'->x<w.heap.size/\x∉bs):cj bs' w w':=λx hx=>h.block x (hl x hx).1 (hl x hx).2
theorem cj.blk(h:cj bs w w')(hb:Blk w b t cs)(hm:b∈bs):Blk w' b t cs:=(h b hm).trans hb
theorem Blk.alloc(w:ay) t cs:Blk (w.alloc (.cells cs.toArray t)) w.heap.size t cs:=heap_alloc_new w _
theorem Blk.setRow(h:Blk w b t cs) cs':Blk (w.setRow b cs'.toArray) b t cs':=setRow_heap w b _ _ t _ h
theorem Blk.cell(h:Blk w b t cs) i:w.cell? ⟨b,i,none⟩=cs[i]? :=by rw[cell_of_row w b i cs.toArray t _ h];simp
theorem Blk.cells(h:Blk w b t cs) o vs (hv:∀j v,vs[j]? =some v->cs[o+j]? =some v):Cells w ⟨b,o,none⟩ vs:=λj v hj=>by
 have amR:(⟨b,o,none⟩:Addr).add j=⟨b,o+j,none⟩:=by unfold Addr.add<;>simp_all
 rw[amR,h.cell];exact hv j v hj
theorem Blk.EV(h:Blk w b t cs) o vs (hv:(cs.drop o).take vs.length=vs):Cells w ⟨b,o,none⟩ vs:=h.cells o vs λj v hj=>ac3
theorem Cells.one{a}{v}(h:Cells w a [v]):w.cell? a=some v:=by have:=h 0 v rfl;simpa[Addr.add]using this
theorem Cells.keep{a}(h:Cells w a cs)(hk:w'.heap[a.block]? =w.heap[a.block]?):Cells w' a cs:=λj v hj=>by
 rw[World.cell?_of_block (w:=w) _ (a:=a.add j)]
 ·exact h j v hj
 have:(a.add j).block=a.block:=by unfold Addr.add;split<;>rfl
 rw[this,hk]
theorem Cells.lt'{a}(h:Cells w a cs)(hc:cs≠[]):a.block<w.heap.size:=by
 cases cs with
 | nil=>exact absurd rfl hc
 | cons v cs=>
  have h2:=block_lt_of_cell (h 0 v rfl);have e:(a.add 0).block=a.block:=rfl;omega
theorem Cells.lt{a}{v}(h:Cells w a (v::cs)):a.block<w.heap.size:=by
 have:=h 0 v rfl;have h2:=block_lt_of_cell this;have e:(a.add 0).block=a.block:=rfl;omega
end
section
variable {P:Program} {ops:Array Oper} {Q:Exit->Act->ay->Prop} {rest:List Oper} {a a':Act} {w w':ay}
theorem f0(l:List az) ds (k:Nat) v:Act.put ⟨l.toArray,ds⟩ (some k) v=⟨(l.set k v).toArray,ds⟩:=by simp[Act.put]
theorem f1 x l (v:az):(x::l).set 0 v=v::l:=rfl
theorem f3(a:Act) v:a.put none v=a:=rfl
theorem f2 x l k (v:az):(x::l).set (k+1) v=x::l.set k v:=rfl
def gU:List Oper->Nat->Option Oper
 | [],_=>none
 | v::_,0=>some v
 | _::r,n+1=>gU r n
theorem jO:∀l n,gU l n=l[n]?
 | [],_=>rfl
 | _::_,0=>rfl
 | _::r,n+1=>jO r n
def Ze:List az->Nat->Option az
 | [],_=>none
 | v::_,0=>some v
 | _::r,n+1=>Ze r n
theorem Kg:∀l n,Ze l n=l[n]?
 | [],_=>rfl
 | _::_,0=>rfl
 | _::r,n+1=>Kg r n
theorem wt{o oj}{fG}{l}{ds}{j d:Nat}{want b r}(h1:o.guard=some (j,want))(h2:gU fG j=some oj)(h3:oj.dst=some d)
  (h4:Ze l d=some (.bool b)) (h5:(b==want)=r):Region.wanted o (yielded fG.toArray (⟨l.toArray,ds⟩:Act).tmps)=r:=by
 subst h5;rw[jO]at h2;rw[Kg]at h4;have e:yielded fG.toArray (⟨l.toArray,ds⟩:Act).tmps j=some b:=by simp[yielded,h2,h3,h4]
 simp only[Region.wanted,h1,e];rfl
theorem wn{o}{f}(h:o.guard=none):Region.wanted o f=true:=by simp[Region.wanted,h]
theorem zA{o} v (hg:Region.wanted o (yielded ops a.tmps)=true)
  (hr:(execOp a.eval o).run P w=.ok (.value v) w') (ha:a.put o.dst v=a') (h:wpList P ops Q rest a' w'):wpList P ops Q (o::rest) a w:=by
 subst ha;unfold wpList;rw[aZ hg];refine .inl ?_;unfold Oper.wp;rw[hr];exact h
theorem PL{o}(hg:Region.wanted o (yielded ops a.tmps)=false)(ha:a.put o.dst undef=a')(h:wpList P ops Q rest a' w):wpList P ops Q (o::rest) a w:=by
 subst ha;unfold wpList;simp_all
theorem Zf k J:∀{l:List Oper} {Q:Exit->Act->ay->Prop} {a:Act} {w:ay},wpList P ops (Exit.then J Q) (l.take k) a w->(∀a w,J a w->wpList P ops Q (l.drop k) a w)->wpList P ops Q l a w:=by
 induction k with
 | zero=>intro l Q a w h1 h2;exact h2 _ _ h1
 | succ k ih=>
  intro l Q a w h1 h2;cases l with
  | nil=>exact h2 _ _ h1
  | cons o l=>
   simp at h1 h2;unfold wpList at h1⊢;split at h1
   ·rename_i hg;rw[aZ hg];refine h1.imp (λh=>?_) (λh=>⟨h.1,?_⟩)
    ·have h':=Oper.wp_mono (λa w hh=>ih hh h2) h;unfold Oper.wp at h'⊢;generalize (execOp a.eval o).run P w=r at h'⊢;cases r with
     | ok n w'=>
      cases n<;>first | exact h' | exact Calls.mono h' λe tt he=>rfl
     | halt x w'=>cases x<;>exact h'
    obtain⟨a',w',ho⟩:=h.2;exact⟨a',w',ho⟩
   grind
theorem yU{dst}{ty}{x}{t'}{p}{af}{g}{ad}{v}
  (E3:(isAgg ty).run P w=.ok false w) (hx:a.eval x=.pointer (some ad)) (hc:w.cell? ad=some v):
  (execOp a.eval ⟨dst,.load ty x,t',p,af,g⟩).run P w=.ok (.value v) w:=by
 simp[execOp,hx,Instr.loadAt,Instr.sureAddr,Sem.run_bind,Sem.run_pure,Result.andThen_ok,loadVar,E3,kq,jX,run_load,hc]
theorem tw{dst}{ty}{x}{t'}{p}{af}{g}{ad}{cs}{n}
  (E3:(isAgg ty).run P w=.ok true w) (hsz:(sizeOf ty).run P w=.ok n w) (hn:cs.length=n) (hx:a.eval x=.pointer (some ad)) (hc:Cells w ad cs):
  (execOp a.eval ⟨dst,.load ty x,t',p,af,g⟩).run P w=.ok (.value (.agg cs.toArray)) w:=by
 have hl:=run_loadCells_list (P:=P) w ad cs hc;rw[hn]at hl;simp[execOp,hx,Instr.loadAt,Instr.sureAddr,Sem.run_bind,Sem.run_pure,Result.andThen_ok,loadVar,E3,yS,hsz,hl]
theorem Uz{dst}{ty}{x y}{t'}{p}{af}{g}{b o}{cs vs}{et}{n}
  (hsz:(sizeOf ty).run P w=.ok n w) (hx:a.eval x=.pointer (some ⟨b,o,none⟩)) (hv:(a.eval y).cells=vs.toArray) (hn:vs.length=n)
  (h1:∀v∈vs,v.oneCell'=true) (hb:Blk w b et cs) (E4:o+vs.length<=cs.length):
  (execOp a.eval ⟨dst,.store ty x y,t',p,af,g⟩).run P w=.ok .skip (w.setRow b (cx cs o vs).toArray):=by
 simp[execOp,hx,Instr.storeAt,Instr.sureAddr,Sem.run_bind,Sem.run_pure,Result.andThen_ok,storeVar,hsz,hv,eJ,hn,ne_eq,not_true_eq_false,jX,run_storeCells_at P b o et vs 0 cs.toArray w hb aG h1,cx]
theorem UA{dst}{ty}{t'}{p}{af}{g}{z}{zs:List az}
  (hz:(zeroValue ty).run P w=.ok z w) (hc:z.cells=zs.toArray):
  (execOp a.eval ⟨dst,.alloc ty,t',p,af,g⟩).run P w=.ok (.value (.pointer (some ⟨w.heap.size,0,none⟩))) (w.alloc (.cells zs.toArray ty)):=by
 simp only[execOp,Instr.alloc,Sem.run_bind,hz,Result.andThen_ok,newVar,hc];rfl
theorem adW{dst}{ty}{x}{t'}{p}{af}{g}{zs:List az}
  (hc:(a.eval x).cells=zs.toArray):
  (execOp a.eval ⟨dst,.box ty x,t',p,af,g⟩).run P w=.ok (.value (.pointer (some ⟨w.heap.size,0,none⟩))) (w.alloc (.cells zs.toArray ty)):=by
 simp only[execOp,Instr.box,newVar,hc];rfl
theorem PM{dst}{x}{t'}{p}{af}{g}{ad}(hx:a.eval x=.pointer (some ad)):
  (execOp a.eval ⟨dst,.nilCheck x,t',p,af,g⟩).run P w=.ok (.value (.pointer (some ad))) w:=by
 simp[execOp,hx]
theorem Kh{dst}{s}{x}{k}{t'}{p}{af}{g}{ad Ot}{fs}{f}{n}
  (hu:(underlying s).run P w=.ok (.struct fs) w) (hf:fs[k]? =some f) (hsz:(sizeOf f.type).run P w=.ok (n+1) w) (hx:a.eval x=.pointer (some ad)) (he:ad.add f.offset=Ot):
  (execOp a.eval ⟨dst,.fieldAddr s x k,t',p,af,g⟩).run P w=.ok (.value (.pointer (some Ot))) w:=by
 subst he;simp[execOp,hx,Instr.fieldAt,Instr.sureAddr,hu,hf,fieldPlace,hsz]
theorem Ki{dst}{c x y}{t'}{p}{af}{g}{v}(hc:a.eval c=.bool true)(hv:a.eval x=v):
  (execOp a.eval ⟨dst,.pick c x y,t',p,af,g⟩).run P w=.ok (.value v) w:=by
 subst hv;simp[execOp,hc,asBool]
theorem Kj{dst}{c x y}{t'}{p}{af}{g}{v}(hc:a.eval c=.bool false)(hv:a.eval y=v):
  (execOp a.eval ⟨dst,.pick c x y,t',p,af,g⟩).run P w=.ok (.value v) w:=by
 subst hv;simp[execOp,hc,asBool]
theorem UB{dst}{t}{ps:List _}{t'}{p}{af}{g}{ps'}{v}
  (hp:(ps.map λq=>(q.1,a.eval q.2))=ps') (hr:(Instr.build t ps'.toArray).run P w=.ok v w):
  (execOp a.eval ⟨dst,.build t ps.toArray,t',p,af,g⟩).run P w=.ok (.value v) w:=by
 subst hp;simp[execOp,hr]
theorem FE{dst}{t e}{x i}{t'}{p}{af}{g}{s}{k}{n}{ad}{sz}
  (hu:(underlying t).run P w=.ok (.slice e) w) (hsz:(sizeOf e).run P w=.ok sz w) (hx:a.eval x=s.v) (hi:a.eval i=.int k n) (Wu:dI s n sz ad):
  (execOp a.eval ⟨dst,.indexAddr t x i,t',p,af,g⟩).run P w=.ok (.value (.pointer (some ad))) w:=by
 obtain⟨base,hb,h0,h1,rfl⟩:=Wu;simp[execOp,hx,hi,Instr.indexAt,asIntOf,hu,hsz,hb,h0,h1]
theorem ve{dst:Option Tmp}{t e:TypeId}{x i:Operand}{t'}{p}{af}{g}{len}{k}{n}{ad Ot}{sz}
  (hu:(underlying t).run P w=.ok (.array len e) w) (hsz:(sizeOf e).run P w=.ok sz w) (hx:a.eval x=.pointer (some ad)) (hi:a.eval i=.int k n) (h0:0<=n) (h1:n<len) (he:ad.add (n.toNat*sz)=Ot):
  (execOp a.eval ⟨dst,.indexAddr t x i,t',p,af,g⟩).run P w=.ok (.value (.pointer (some Ot))) w:=by
 subst he;simp[execOp,hx,hi,Instr.indexAt,asIntOf,hu,hsz,h0,h1,Instr.sureAddr]
theorem lM{b}{s}{dst}{xs:List Operand}{ts}{t'}{p}{af}{g}{v}
  (hb:∀abc,builtin b ts t' abc (xs.map a.eval).toArray=(do pure (.value (<-s)))) (hr:s.run P w=.ok v w'):
  (execOp a.eval ⟨dst,.call ⟨.builtin b,xs.toArray,ts⟩,t',p,af,g⟩).run P w=.ok (.value v) w':=by
 simp[execOp,resolve,invoke,List.map_toArray];simp_all
theorem wK{dst}{xs:List Operand}{ts}{t'}{p}{af}{g}{v}{vs}(hx:xs.map a.eval=vs)
  (hr:(Builtin.append_ ts t' vs.toArray).run P w=.ok v w'):(execOp a.eval ⟨dst,.call ⟨.builtin .append,xs.toArray,ts⟩,t',p,af,g⟩).run P w=.ok (.value v) w':=by
 subst hx;exact lM (λ_=>rfl) hr
theorem zC{dst}{xs:List Operand}{ts}{t'}{p}{af}{g}{v}{vs}(hx:xs.map a.eval=vs)
  (hr:(Builtin.copy_ ts t' vs.toArray).run P w=.ok v w'):(execOp a.eval ⟨dst,.call ⟨.builtin .copy,xs.toArray,ts⟩,t',p,af,g⟩).run P w=.ok (.value v) w':=by
 subst hx;exact lM (λ_=>rfl) hr
theorem wL{dst}{xs:List Operand}{ts}{t'}{p}{af}{g}{v}{vs}(hx:xs.map a.eval=vs)
  (hr:(Builtin.delete_ ts t' vs.toArray).run P w=.ok v w'):(execOp a.eval ⟨dst,.call ⟨.builtin .delete,xs.toArray,ts⟩,t',p,af,g⟩).run P w=.ok (.value v) w':=by
 subst hx;exact lM (λ_=>rfl) hr
theorem yx{dst}{xs:List Operand}{ts}{t'}{p}{af}{g}{v}{vs}(hx:xs.map a.eval=vs)
  (hr:(Builtin.clear_ ts t' vs.toArray).run P w=.ok v w'):(execOp a.eval ⟨dst,.call ⟨.builtin .clear,xs.toArray,ts⟩,t',p,af,g⟩).run P w=.ok (.value v) w':=by
 subst hx;exact lM (λ_=>rfl) hr
theorem BF{dst}{xs:List Operand}{ts}{t'}{p}{af}{g}{v}{vs}(hx:xs.map a.eval=vs)
  (hr:(Builtin.len_ ts t' vs.toArray).run P w=.ok v w'):(execOp a.eval ⟨dst,.call ⟨.builtin .len,xs.toArray,ts⟩,t',p,af,g⟩).run P w=.ok (.value v) w':=by
 subst hx;exact lM (λ_=>rfl) hr
section
variable {dst:Option Tmp} {x y z:Operand} {t t2:TypeId} {t':TypeId} {p:String} {af:Array Edge} {g:Option (Nat×Bool)} {u v vx vy vz:az}
theorem Df{n}{ps:List _}{ps'}(hp:(ps.map λq=>(q.1,a.eval q.2))=ps')(hr:(Instr.buildSlice t n ps'.toArray).run P w=.ok v w'):
  (execOp a.eval ⟨dst,.buildSlice t n ps.toArray,t',p,af,g⟩).run P w=.ok (.value v) w':=by
 subst hp;simp[execOp,hr]
theorem FF(hx:a.eval x=vx)(hy:a.eval y=vy)(hr:(Instr.makeSlice t vx vy).run P w=.ok v w'):(execOp a.eval ⟨dst,.makeSlice t x y,t',p,af,g⟩).run P w=.ok (.value v) w':=by simp[execOp,hx,hy,hr]
theorem Na(hr:(Instr.makeMap t none).run P w=.ok v w'):(execOp a.eval ⟨dst,.makeMap t none,t',p,af,g⟩).run P w=.ok (.value v) w':=by simp[execOp,hr]
theorem Ii(hx:a.eval x=vx)(hr:(Instr.makeMap t (some vx)).run P w=.ok v w'):(execOp a.eval ⟨dst,.makeMap t (some x),t',p,af,g⟩).run P w=.ok (.value v) w':=by simp[execOp,hx,hr]
theorem PN{b}(hx:a.eval x=vx)(hy:a.eval y=vy)(hr:(Instr.lookup t vx vy b).run P w=.ok v w'):(execOp a.eval ⟨dst,.lookup t x y b,t',p,af,g⟩).run P w=.ok (.value v) w':=by simp[execOp,hx,hy,hr]
theorem FG(hx:a.eval x=vx)(hy:a.eval y=vy)(hz:a.eval z=vz)(hr:(Instr.mapUpdate t vx vy vz).run P w=.ok () w'):(execOp a.eval ⟨dst,.mapUpdate t x y z,t',p,af,g⟩).run P w=.ok .skip w':=by simp[execOp,hx,hy,hz,hr]
theorem PO(hx:a.eval x=vx)(hy:a.eval y=vy)(hz:a.eval z=vz)(hr:(Instr.mapUpdate t vx vy vz).run P w=.ok () w'):(execOp a.eval ⟨dst,.insert t x y z,t',p,af,g⟩).run P w=.ok .skip w':=by simp[execOp,hx,hy,hz,hr]
theorem Nc(hx:a.eval x=vx)(hr:(convert t t2 vx).run P w=.ok v w'):(execOp a.eval ⟨dst,.convert t t2 x,t',p,af,g⟩).run P w=.ok (.value v) w':=by simp[execOp,hx,hr]
end
theorem Xh{dst:Option Tmp}{t:TypeId}{e:TypeId}{x:Operand}{t':TypeId}{p:String}{af:Array Edge}{g}{s:Sl}
  (hu:(underlying t).run P w=.ok (.slice e) w) (hx:a.eval x=s.v):
  (execOp a.eval ⟨dst,.call ⟨.builtin .len,#[x],#[t]⟩,t',p,af,g⟩).run P w=.ok (.value (.int .i64 s.n)) w:=by
 simp[execOp,resolve,invoke,builtin,Builtin.len_,hu,hx,goInt]
theorem zD{dst}{x}{f}{first captured}{xs:List Operand}{ats}{t'}{p}{af}{g}{args}
  (hx:a.eval x=.func (.func f) first.toArray captured.toArray)
  (hc:∀args w,(callFunc f args).run P w=.ok (.enter f args) w) (ha:first++xs.map a.eval++captured=args):
  (execOp a.eval ⟨dst,.call ⟨.value x,xs.toArray,ats⟩,t',p,af,g⟩).run P w=.ok (.enter f args.toArray) w:=by
 subst ha;simp only[execOp,resolve,hx,Deferred.ofValue,Sem.run_bind,Sem.run_pure,Result.andThen_ok,invoke,hc];simp
theorem lN{x}{k}{i y}{code}(hx:x=.int k i)(h:i<=y):(Instr.sliceBound x y code).run P w=.ok i w:=by
 subst hx;have:=aG
 simp[Instr.sliceBound,asIntOf,this]
theorem zE{dst}{s d e}{x}{t'}{p}{af}{g}{sl}{l}
  (hs:P.underlying s=some (.slice e)) (he:P.underlying e=some (.int .u8)) (hd:P.underlying d=some .string) (hx:a.eval x=sl.v) (hb:zz w sl l):
  (execOp a.eval ⟨dst,.convert s d x,t',p,af,g⟩).run P w=.ok (.value (.string ⟨l.toArray⟩)) w:=by
 obtain⟨hn,hc⟩:=hb;obtain⟨sa,sn,sc⟩:=sl;subst hn;have key:(convert s d (.slice sa l.length sc)).run P w=.ok (.string ⟨l.toArray⟩) w:=by
  cases sa with
  | none=>
   have:l=[]:=gA λh=>ac3
   subst this;exact run_convert_bytes_nil w s e hs he _ _ d hd
  | some ad=>
   refine run_convert_bytes_back w s d e ad sc l hs he hd λj hj=>?_;obtain⟨Ot,h1,h2⟩:=hc (λh=>by simp[h]at hj);injection h1 with h1;subst h1;exact h2 j _ (by simp[gn,aQ hj])
 simp[execOp,hx,key]
theorem zF{dst}{fn}{fs cs:List Operand}{t'}{p}{af}{g}{fv cv}(h1:fs.map a.eval=fv)(h2:cs.map a.eval=cv):
  (execOp a.eval ⟨dst,.makeFunc fn fs.toArray cs.toArray,t',p,af,g⟩).run P w=.ok (.value (.func fn fv.toArray cv.toArray)) w:=by
 subst h1;subst h2;simp[execOp,Instr.makeFunc]
theorem adX{dst}{t ty}{x y}{t'}{p}{af}{g}{k}{m n}(hx:a.eval x=.int k m)(hy:a.eval y=.int k n)(hn:n≠0):
  (execOp a.eval ⟨dst,.binOp .quo t x y ty,t',p,af,g⟩).run P w=.ok (.value (.int k (k.wrap (m.tdiv n)))) w:=by
 have e:binOp .quo t (.int k m) (.int k n)=Op.intDiv .quo k m n:=by simp[binOp]
 have hg:eqGuard .quo t x y (.int k m) (.int k n)=pure _:=rfl;simp[execOp,hx,hy,hg,e,Op.intDiv,hn,jX,Sem.run_bind,Sem.run_pure,Result.andThen_ok]
theorem adY{dst}{t ty}{x y}{t'}{p}{af}{g}{k}{m n}(hx:a.eval x=.int k m)(hy:a.eval y=.int k n)(hn:n≠0):
  (execOp a.eval ⟨dst,.binOp .rem t x y ty,t',p,af,g⟩).run P w=.ok (.value (.int k (m.tmod n))) w:=by
 have e:binOp .rem t (.int k m) (.int k n)=Op.intDiv .rem k m n:=by simp[binOp]
 have hg:eqGuard .rem t x y (.int k m) (.int k n)=pure _:=rfl;simp[execOp,hx,hy,hg,e,Op.intDiv,hn,jX,Sem.run_bind,Sem.run_pure,Result.andThen_ok]
theorem adZ{dst}{t ty}{x y}{t'}{p}{af}{g}{k k'}{m n}(hx:a.eval x=.int k m)(hy:a.eval y=.int k' n)(hn:0<=n):
  (execOp a.eval ⟨dst,.binOp .shl t x y ty,t',p,af,g⟩).run P w=.ok (.value (.int k (k.wrap (m*2 ^ (min n.toNat k.bits))))) w:=by
 have hg:eqGuard .shl t x y (.int k m) (.int k' n)=pure _:=rfl;have e:binOp .shl t (.int k m) (.int k' n)=Op.shift .shl k m k' n:=rfl;have hn':¬n<0:=aG
 simp[execOp,hx,hy,hg,e,Op.shift,hn',jX,Sem.run_bind,Sem.run_pure,Result.andThen_ok]
theorem ad0{dst}{t ty}{x y}{t'}{p}{af}{g}{k k'}{m n}(hx:a.eval x=.int k m)(hy:a.eval y=.int k' n)(hn:0<=n):
  (execOp a.eval ⟨dst,.binOp .shr t x y ty,t',p,af,g⟩).run P w=.ok (.value (.int k (m.fdiv (2 ^ (min n.toNat k.bits))))) w:=by
 have hg:eqGuard .shr t x y (.int k m) (.int k' n)=pure _:=rfl;have e:binOp .shr t (.int k m) (.int k' n)=Op.shift .shr k m k' n:=rfl;have hn':¬n<0:=aG
 simp[execOp,hx,hy,hg,e,Op.shift,hn',jX,Sem.run_bind,Sem.run_pure,Result.andThen_ok]
theorem Ij{dst}{t}{x i}{t'}{p}{af}{g}{s}{k}{n}{c}
  (hu:(underlying t).run P w=.ok .string w) (hx:a.eval x=.string s) (hi:a.eval i=.int k n) (h0:0<=n) (h1:s[n.toNat]? =some c):
  (execOp a.eval ⟨dst,.index t x i,t',p,af,g⟩).run P w=.ok (.value (.int .u8 c.toNat)) w:=by
 simp[execOp,hx,hi,Instr.index,asIntOf,hu,Sem.run_bind,Sem.run_pure,Result.andThen_ok,h0,yS,h1]
theorem PQ{dst}{t ty}{x y}{t'}{p}{af}{g}{s u}(hx:a.eval x=.string s)(hy:a.eval y=.string u)(hn:(s.size:Int)+u.size<=9223372036854775807):
  (execOp a.eval ⟨dst,.binOp .add t x y ty,t',p,af,g⟩).run P w=.ok (.value (.string (s++u))) w:=by
 have hg:eqGuard .add t x y (.string s) (.string u)=pure _:=rfl;have e:binOp .add t (.string s) (.string u)=Op.stringOp .add s u:=rfl;have hn':¬((s.size+u.size:Nat))>IntKind.i64.max:=by simp_all
 simp only[execOp,hx,hy,hg,e,Op.stringOp,hn',jX,Sem.run_bind,Sem.run_pure,Result.andThen_ok]
theorem ad4{dst}{t}{e}{x}{t'}{p}{af}{g}{s:Sl}
  (hu:(underlying t).run P w=.ok (.slice e) w) (hx:a.eval x=s.v):
  (execOp a.eval ⟨dst,.call ⟨.builtin .cap,#[x],#[t]⟩,t',p,af,g⟩).run P w=.ok (.value (.int .i64 s.c)) w:=by
 simp[execOp,resolve,invoke,builtin,Builtin.cap_,hu,hx,goInt]
theorem Dg{dst:Option Tmp}{t:TypeId}{x lo:Operand}{t':TypeId}{p:String}{af:Array Edge}{g:Option (Nat×Bool)}{s:ByteArray}{k:IntKind}{l:Nat}
  (hu:(underlying t).run P w=.ok .string w) (hx:a.eval x=.string s) (hl:a.eval lo=.int k (l:Int)) (h1:l<=s.size) (_h2:s.size<=s.size):
  (execOp a.eval ⟨dst,.slice t x (some lo) none none,t',p,af,g⟩).run P w=.ok (.value (.string (s.extract l s.size))) w:=by
 simp[execOp,hx,Instr.sliceAt,hu,Instr.slice,Instr.sliceBounds,lN hl h1]
theorem Dh{dst}{t}{x hi}{t'}{p}{af}{g}{s}{k}{h:Nat}
  (hu:(underlying t).run P w=.ok .string w) (hx:a.eval x=.string s) (hh:a.eval hi=.int k h) (_h1:0<=h) (h2:h<=s.size):
  (execOp a.eval ⟨dst,.slice t x none (some hi) none,t',p,af,g⟩).run P w=.ok (.value (.string (s.extract 0 h))) w:=by
 simp[execOp,hx,Instr.sliceAt,hu,Instr.slice,Instr.sliceBounds,lN hh h2]
theorem Di{dst}{t}{x lo hi}{t'}{p}{af}{g}{s}{k k'}{l h:Nat}
  (hu:(underlying t).run P w=.ok .string w) (hx:a.eval x=.string s) (hl:a.eval lo=.int k l) (hh:a.eval hi=.int k' h) (h1:l<=h) (h2:h<=s.size):
  (execOp a.eval ⟨dst,.slice t x (some lo) (some hi) none,t',p,af,g⟩).run P w=.ok (.value (.string (s.extract l h))) w:=by
 simp[execOp,hx,Instr.sliceAt,hu,Instr.slice,Instr.sliceBounds,lN hh h2,lN hl h1]
theorem B6{dst}{s d}{x}{t'}{p}{af}{g}{ks kd k}{n}
  (hs:(underlying s).run P w=.ok (.int ks) w) (hd:(underlying d).run P w=.ok (.int kd) w) (hx:a.eval x=.int k n):
  (execOp a.eval ⟨dst,.convert s d x,t',p,af,g⟩).run P w=.ok (.value (.int kd (kd.wrap n))) w:=by
 simp[execOp,hx,convert,hs,hd,Conv.intToInt]
theorem B7{dst:Option Tmp}{s d:TypeId}{x:Operand}{t':TypeId}{p:String}{af:Array Edge}{g:Option (Nat×Bool)}{n:ByteArray}
  (hs:(underlying s).run P w=.ok .string w) (hd:(underlying d).run P w=.ok .string w) (hx:a.eval x=.string n):
  (execOp a.eval ⟨dst,.convert s d x,t',p,af,g⟩).run P w=.ok (.value (.string n)) w:=by
 simp[execOp,hx,convert,hs,hd]
theorem UC{dst}{t}{x}{t'}{p}{af}{g}{d}{v}
  (hu:(underlying t).run P w=.ok d w) (hd:(match d with | .interface _=>false | _=>true)=true) (hx:a.eval x=v):
  (execOp a.eval ⟨dst,.makeInterface t x,t',p,af,g⟩).run P w=.ok (.value (.iface t v)) w:=by
 subst hx;cases d<;>first | (simp at hd;done) | simp[execOp,Instr.makeInterface,hu]
theorem PR{dst:Option Tmp}{t:TypeId}{x:Operand}{t':TypeId}{p:String}{af:Array Edge}{g:Option (Nat×Bool)}{s:ByteArray}
  (hu:(underlying t).run P w=.ok .string w) (hx:a.eval x=.string s):
  (execOp a.eval ⟨dst,.call ⟨.builtin .len,#[x],#[t]⟩,t',p,af,g⟩).run P w=.ok (.value (.int .i64 s.size)) w:=by
 simp[execOp,resolve,invoke,builtin,Builtin.len_,hu,hx,goInt]
theorem ad5{dst}{ts}{x y}{t'}{p}{af}{g}{k k'}{m n}(hx:a.eval x=.int k m)(hy:a.eval y=.int k' n):
  (execOp a.eval ⟨dst,.call ⟨.builtin .min,#[x,y],ts⟩,t',p,af,g⟩).run P w=.ok (.value (.int k (if n<m then n else m))) w:=by
 simp[execOp,resolve,invoke,builtin,hx,hy,run_min_int2]
theorem ad6{dst:Option Tmp}{ts}{x y}{t'}{p}{af}{g}{k k'}{m n}(hx:a.eval x=.int k m)(hy:a.eval y=.int k' n):
  (execOp a.eval ⟨dst,.call ⟨.builtin .max,#[x,y],ts⟩,t',p,af,g⟩).run P w=.ok (.value (.int k (if n>m then n else m))) w:=by
 simp[execOp,resolve,invoke,builtin,hx,hy,run_max_int2]
theorem Dk{dst:Option Tmp}{t ty:TypeId}{x y:Operand}{t':TypeId}{p:String}{af:Array Edge}{g:Option (Nat×Bool)}{e:TypeId}{q:Option Addr}{b:Bool}(hu:(underlying t).run P w=.ok (.pointer e) w)(hx:a.eval x=.pointer q)(hy:a.eval y=.pointer none)(hb:(q.isNone)=b):
  (execOp a.eval ⟨dst,.binOp .eql t x y ty,t',p,af,g⟩).run P w=.ok (.value (.bool b)) w:=by
 subst hb;have hE:∀d,(Op.equalIn (d+1) t (.pointer q) (.pointer none)).run P w=.ok q.isNone w:=λd=>by
  unfold Op.equalIn;cases q<;>simp only[Sem.run_bind,hu,Result.andThen_ok]<;>rfl
 have hB:binOp .eql t (.pointer q) (.pointer none)=(do pure (.bool ((<-Op.equal t (.pointer q) (.pointer none))))):=by cases q<;>rfl
 have hG:eqGuard .eql t x y (.pointer q) (.pointer none)=pure ():=rfl;simp only[execOp,hx,hy,hG,hB,Op.equal,Op.maxDepth,Sem.run_bind,Sem.run_pure,Result.andThen_ok,hE 9999]
theorem Dl{dst}{t ty}{x y}{t'}{p}{af}{g}{e}{q}{b}(hu:(underlying t).run P w=.ok (.pointer e) w)(hx:a.eval x=.pointer none)(hy:a.eval y=.pointer q)(hb:(q.isNone)=b):
  (execOp a.eval ⟨dst,.binOp .eql t x y ty,t',p,af,g⟩).run P w=.ok (.value (.bool b)) w:=by
 subst hb;have hE:∀d,(Op.equalIn (d+1) t (.pointer none) (.pointer q)).run P w=.ok q.isNone w:=λd=>adi
 have hB:binOp .eql t (.pointer none) (.pointer q)=(do pure (.bool ((<-Op.equal t (.pointer none) (.pointer q))))):=rfl;have hG:eqGuard .eql t x y (.pointer none) (.pointer q)=pure _:=rfl;simp[execOp,hx,hy,hG,hB,Op.equal,Op.maxDepth,Sem.run_bind,Sem.run_pure,Result.andThen_ok,hE 9999]
theorem Dm{dst}{t ty}{x y}{t'}{p}{af}{g}{e}{q}{b}(hu:(underlying t).run P w=.ok (.pointer e) w)(hx:a.eval x=.pointer q)(hy:a.eval y=.pointer none)(hb:(!q.isNone)=b):
  (execOp a.eval ⟨dst,.binOp .neq t x y ty,t',p,af,g⟩).run P w=.ok (.value (.bool b)) w:=by
 subst hb;have hE:∀d,(Op.equalIn (d+1) t (.pointer q) (.pointer none)).run P w=.ok q.isNone w:=λd=>by
  unfold Op.equalIn;cases q<;>simp only[Sem.run_bind,hu]<;>rfl
 have hB:binOp .neq t (.pointer q) (.pointer none)=(do pure (.bool (!(<-Op.equal t (.pointer q) (.pointer none))))):=rfl;have hG:eqGuard .neq t x y (.pointer q) (.pointer none)=pure _:=rfl;simp[execOp,hx,hy,hG,hB,Op.equal,Op.maxDepth,Sem.run_bind,Sem.run_pure,Result.andThen_ok,hE 9999]
theorem Dp{dst:Option Tmp}{t ty}{x y}{t'}{p}{af}{g}{e}{q}{b}(hu:(underlying t).run P w=.ok (.pointer e) w)(hx:a.eval x=.pointer none)(hy:a.eval y=.pointer q)(hb:(!q.isNone)=b):
  (execOp a.eval ⟨dst,.binOp .neq t x y ty,t',p,af,g⟩).run P w=.ok (.value (.bool b)) w:=by
 subst hb;have hE:∀d,(Op.equalIn (d+1) t (.pointer none) (.pointer q)).run P w=.ok q.isNone w:=λd=>adi
 have hB:binOp .neq t (.pointer none) (.pointer q)=(do pure (.bool (!(<-Op.equal t (.pointer none) (.pointer q))))):=by cases q<;>rfl
 have hG:eqGuard .neq t x y (.pointer none) (.pointer q)=pure _:=rfl;simp[execOp,hx,hy,hG,hB,Op.equal,Op.maxDepth,Sem.run_bind,Sem.run_pure,Result.andThen_ok,hE 9999]
theorem Nf{dst}{t ty}{x y}{t'}{p}{af}{g}{m n}(hu:P.underlying t=some .bool)(hx:a.eval x=.bool m)(hy:a.eval y=.bool n):
  (execOp a.eval ⟨dst,.binOp .eql t x y ty,t',p,af,g⟩).run P w=.ok (.value (.bool (m==n))) w:=by
 have hG:eqGuard .eql t x y (.bool m) (.bool n)=pure _:=rfl;simp[execOp,hx,hy,hG,run_eql_bool w t m n hu]
theorem Ng{dst}{t ty}{x y}{t'}{p}{af}{g}{m n}(hu:P.underlying t=some .bool)(hx:a.eval x=.bool m)(hy:a.eval y=.bool n):
  (execOp a.eval ⟨dst,.binOp .neq t x y ty,t',p,af,g⟩).run P w=.ok (.value (.bool (!(m==n)))) w:=by
 have hG:eqGuard .neq t x y (.bool m) (.bool n)=pure _:=rfl;simp[execOp,hx,hy,hG,run_neq_bool w t m n hu]
theorem FH{dst:Option Tmp}{t ty:TypeId}{x y:Operand}{t'}{p}{af}{g}{e}{s:Sl}(hu:(underlying t).run P w=.ok (.slice e) w)(hx:a.eval x=s.v)(hy:a.eval y=.slice none 0 0):
  (execOp a.eval ⟨dst,.binOp .eql t x y ty,t',p,af,g⟩).run P w=.ok (.value (.bool (s.a.isNone))) w:=by
 obtain⟨sa,sn,sc⟩:=s;have hE:∀d,(Op.equalIn (d+1) t (.slice sa sn sc) (.slice none 0 0)).run P w=.ok sa.isNone w:=λd=>by
  unfold Op.equalIn;cases sa<;>simp only[Sem.run_bind,hu]<;>rfl
 have hB:binOp .eql t (.slice sa sn sc) (.slice none 0 0)=(do pure (.bool ((<-Op.equal t (.slice sa sn sc) (.slice none 0 0))))):=by cases sa<;>rfl
 have hG:eqGuard .eql t x y (.slice sa sn sc) (.slice none 0 0)=pure _:=rfl;simp[execOp,hx,hy,hG,hB,Op.equal,Op.maxDepth,Sem.run_bind,Sem.run_pure,Result.andThen_ok,hE 9999]
theorem FI{dst}{t ty}{x y}{t'}{p}{af}{g}{e}{s:Sl}(hu:(underlying t).run P w=.ok (.slice e) w)(hx:a.eval x=.slice none 0 0)(hy:a.eval y=s.v):
  (execOp a.eval ⟨dst,.binOp .eql t x y ty,t',p,af,g⟩).run P w=.ok (.value (.bool (s.a.isNone))) w:=by
 obtain⟨sa,sn,sc⟩:=s;have hE:∀d,(Op.equalIn (d+1) t (.slice none 0 0) (.slice sa sn sc)).run P w=.ok sa.isNone w:=λd=>adi
 have hB:binOp .eql t (.slice none 0 0) (.slice sa sn sc)=(do pure (.bool ((<-Op.equal t (.slice none 0 0) (.slice sa sn sc))))):=rfl;have hG:eqGuard .eql t x y (.slice none 0 0) (.slice sa sn sc)=pure _:=rfl;simp[execOp,hx,hy,hG,hB,Op.equal,Op.maxDepth,Sem.run_bind,Sem.run_pure,Result.andThen_ok,hE 9999]
theorem FJ{dst}{t ty}{x y}{t'}{p}{af}{g}{e}{s:Sl}(hu:(underlying t).run P w=.ok (.slice e) w)(hx:a.eval x=s.v)(hy:a.eval y=.slice none 0 0):
  (execOp a.eval ⟨dst,.binOp .neq t x y ty,t',p,af,g⟩).run P w=.ok (.value (.bool (!s.a.isNone))) w:=by
 obtain⟨sa,sn,sc⟩:=s;have hE:∀d,(Op.equalIn (d+1) t (.slice sa sn sc) (.slice none 0 0)).run P w=.ok sa.isNone w:=λd=>by
  unfold Op.equalIn;cases sa<;>simp only[Sem.run_bind,hu]<;>rfl
 have hB:binOp .neq t (.slice sa sn sc) (.slice none 0 0)=(do pure (.bool (!(<-Op.equal t (.slice sa sn sc) (.slice none 0 0))))):=by cases sa<;>rfl
 have hG:eqGuard .neq t x y (.slice sa sn sc) (.slice none 0 0)=pure _:=rfl;simp[execOp,hx,hy,hG,hB,Op.equal,Op.maxDepth,Sem.run_bind,Sem.run_pure,Result.andThen_ok,hE 9999]
theorem FK{dst:Option Tmp}{t ty:TypeId}{x y:Operand}{t':TypeId}{p:String}{af}{g}{e}{s:Sl}(hu:(underlying t).run P w=.ok (.slice e) w)(hx:a.eval x=.slice none 0 0)(hy:a.eval y=s.v):
  (execOp a.eval ⟨dst,.binOp .neq t x y ty,t',p,af,g⟩).run P w=.ok (.value (.bool (!s.a.isNone))) w:=by
 obtain⟨sa,sn,sc⟩:=s;have hE:∀d,(Op.equalIn (d+1) t (.slice none 0 0) (.slice sa sn sc)).run P w=.ok sa.isNone w:=λd=>adi
 have hB:binOp .neq t (.slice none 0 0) (.slice sa sn sc)=(do pure (.bool (!(<-Op.equal t (.slice none 0 0) (.slice sa sn sc))))):=by cases sa<;>rfl
 have hG:eqGuard .neq t x y (.slice none 0 0) (.slice sa sn sc)=pure _:=rfl;simp[execOp,hx,hy,hG,hB,Op.equal,Op.maxDepth,Sem.run_bind,Sem.run_pure,Result.andThen_ok,hE 9999]
theorem zG{dst}{t e}{x lo}{t'}{p}{af}{g}{s:Sl}{k}{l sz:Nat}
  (hu:(underlying t).run P w=.ok (.slice e) w) (hsz:(sizeOf e).run P w=.ok sz w) (hx:a.eval x=s.v) (hl:a.eval lo=.int k l) (h1:l<=s.n) (_h2:s.n<=s.c) (_h3:s.c<=s.c):
  (execOp a.eval ⟨dst,.slice t x (some lo) none none,t',p,af,g⟩).run P w=.ok (.value (s.cut l s.n s.c sz).v) w:=by
 simp[execOp,hx,Instr.sliceAt,hu,Sem.run_bind,Result.andThen_ok,Instr.slice,Instr.sliceBounds,dz,zr,Sem.run_pure,lN hl h1,hsz,Sl.cut]
theorem Ik{dst}{t e}{x hi}{t'}{p}{af}{g}{s:Sl}{k}{h sz:Nat}
  (hu:(underlying t).run P w=.ok (.slice e) w) (hsz:(sizeOf e).run P w=.ok sz w) (hx:a.eval x=s.v) (hh:a.eval hi=.int k h) (_h1:0<=h) (h2:h<=s.c) (_h3:s.c<=s.c):
  (execOp a.eval ⟨dst,.slice t x none (some hi) none,t',p,af,g⟩).run P w=.ok (.value (s.cut 0 h s.c sz).v) w:=by
 simp[execOp,hx,Instr.sliceAt,hu,Sem.run_bind,Result.andThen_ok,Instr.slice,Instr.sliceBounds,dz,zr,Sem.run_pure,lN hh h2,hsz,Sl.cut]
theorem Il{dst}{t e}{x lo hi}{t'}{p}{af}{g}{s:Sl}{k k'}{l h sz:Nat}
  (hu:(underlying t).run P w=.ok (.slice e) w) (hsz:(sizeOf e).run P w=.ok sz w) (hx:a.eval x=s.v) (hl:a.eval lo=.int k l) (hh:a.eval hi=.int k' h) (h1:l<=h) (h2:h<=s.c) (_h3:s.c<=s.c):
  (execOp a.eval ⟨dst,.slice t x (some lo) (some hi) none,t',p,af,g⟩).run P w=.ok (.value (s.cut l h s.c sz).v) w:=by
 simp[execOp,hx,Instr.sliceAt,hu,Sem.run_bind,Result.andThen_ok,Instr.slice,Instr.sliceBounds,dz,zr,Sem.run_pure,lN hh h2,lN hl h1,hsz,Sl.cut]
theorem Im{dst}{t e}{x hi mx}{t'}{p}{af}{g}{s:Sl}{k' k2}{h m sz:Nat}
  (hu:(underlying t).run P w=.ok (.slice e) w) (hsz:(sizeOf e).run P w=.ok sz w) (hx:a.eval x=s.v) (hh:a.eval hi=.int k' h) (hm:a.eval mx=.int k2 m) (_h1:0<=h) (h2:h<=m) (h3:m<=s.c):
  (execOp a.eval ⟨dst,.slice t x none (some hi) (some mx),t',p,af,g⟩).run P w=.ok (.value (s.cut 0 h m sz).v) w:=by
 simp[execOp,hx,Instr.sliceAt,hu,Sem.run_bind,Result.andThen_ok,Instr.slice,Instr.sliceBounds,dz,zr,Sem.run_pure,lN hm h3,lN hh h2,hsz,Sl.cut]
theorem Io{dst}{t e}{x lo hi mx}{t'}{p}{af}{g}{s:Sl}{k k' k2}{l h m sz:Nat}
  (hu:(underlying t).run P w=.ok (.slice e) w) (hsz:(sizeOf e).run P w=.ok sz w) (hx:a.eval x=s.v) (hl:a.eval lo=.int k l) (hh:a.eval hi=.int k' h) (hm:a.eval mx=.int k2 m) (h1:l<=h) (h2:h<=m) (h3:m<=s.c):
  (execOp a.eval ⟨dst,.slice t x (some lo) (some hi) (some mx),t',p,af,g⟩).run P w=.ok (.value (s.cut l h m sz).v) w:=by
 simp only[execOp,hx,Instr.sliceAt,hu,Sem.run_bind,Result.andThen_ok,Instr.slice,Instr.sliceBounds,dz,Sem.run_pure,lN hm h3,lN hh h2,lN hl h1,hsz,Sl.cut]
section
variable {K:Act->ay->Prop} {o:Oper}
theorem rX(hg:Region.wanted o (yielded ops a.tmps)=true)(h:o.wp P a w (wpList P ops Q rest) Q):wpList P ops Q (o::rest) a w:=by
 unfold wpList;simp_all
theorem xU v (hr:(execOp a.eval o).run P w=.ok (.value v) w') (ha:a.put o.dst v=a') (h:K a' w'):o.wp P a w K Q:=by
 subst ha;unfold Oper.wp;rw[hr];exact h
theorem PS(hr:(execOp a.eval o).run P w=.ok .skip w')(ha:a.put o.dst undef=a')(h:K a' w'):o.wp P a w K Q:=by
 subst ha;unfold Oper.wp;rw[hr];exact h
theorem Dr{f}{args}(hr:(execOp a.eval o).run P w=.ok (.enter f args) w)
  (h:Calls P f args w λe w'=>∃v a',e=.returned v/\a.put o.dst v=a'/\K a' w'):o.wp P a w K Q:=by
 unfold Oper.wp;rw[hr];refine h.mono ?_;simp_all
theorem zH{dst}{ty}{x y}{t'}{p}{af}{g}{b o}{cs vs cs'}{et}{n}
  (hsz:(sizeOf ty).run P w=.ok n w) (hx:a.eval x=.pointer (some ⟨b,o,none⟩)) (hv:(a.eval y).cells=vs.toArray) (hn:vs.length=n)
  (h1:vs.all Value.oneCell'=true) (hb:Blk w b et cs) (E4:o+vs.length<=cs.length) (oI:cx cs o vs=cs') (ha:a.put dst undef=a')
  (h:∀w1,Only [b] w w1->Blk w1 b et cs'->K a' w1):Oper.wp P ⟨dst,.store ty x y,t',p,af,g⟩ a w K Q:=
 PS (Uz hsz hx hv hn (dY.1 h1) hb E4) ha (h _ (Only.setRow _ _ _) (by rw[<-oI];exact hb.setRow _))
theorem zI{dst}{ty}{t'}{p}{af}{g}{z}{zs}{a':Nat->Act}
  (hz:(zeroValue ty).run P w=.ok z w) (hc:z.cells=zs.toArray) (ha:∀b,a.put dst (.pointer (some ⟨b,0,none⟩))=a' b)
  (h:∀b w1,w.heap.size<=b->Only [] w w1->Blk w1 b ty zs->K (a' b) w1):Oper.wp P ⟨dst,.alloc ty,t',p,af,g⟩ a w K Q:=
 xU _ (UA hz hc) (ha _) (h _ _ (ba _) (Only.alloc _ _) (Blk.alloc _ _ _))
theorem PT{dst}{ty}{x}{t'}{p}{af}{g}{zs}{a':Nat->Act}
  (hc:(a.eval x).cells=zs.toArray) (ha:∀b,a.put dst (.pointer (some ⟨b,0,none⟩))=a' b)
  (h:∀b w1,w.heap.size<=b->Only [] w w1->Blk w1 b ty zs->K (a' b) w1):Oper.wp P ⟨dst,.box ty x,t',p,af,g⟩ a w K Q:=
 xU _ (adW hc) (ha _) (h _ _ (ba _) (Only.alloc _ _) (Blk.alloc _ _ _))
end
theorem eC{K}(h:K a w):Exit.then K Q .normal a w:=h
theorem B8{K}{id}(h:Q (.exit id) a w):Exit.then K Q (.exit id) a w:=h
theorem PU{K}(h:Q .ret a w):Exit.then K Q .ret a w:=h
theorem Ds{id}(h:Q .normal a w):Exit.inBlock id Q .normal a w:=h
theorem B9{id}(h:Q .normal a w):Exit.inBlock id Q (.exit id) a w:=by simpa[Exit.inBlock]using h
theorem Ip{id Yr}(fX:(Yr==id)=false)(h:Q (.exit Yr) a w):Exit.inBlock id Q (.exit Yr) a w:=by simpa[Exit.inBlock,by simpa using fX]using h
theorem Zg{c:Code} J (hJ:∀a w,J a w->Q .normal a w) (h:c.wp P (Exit.then J Q) a w):c.wp P Q a w:=by
 refine wp_mono h λe a w q=>?_;cases e<;>first | exact hJ _ _ q | exact q
theorem PV{f}{fn}{c}{args l}{n k}{R:az->ay->Prop}(hf:P.funcs[f]? =some fn)(hb:fn.body=some c)(hn:fn.ntmps=n)(hk:n=args.length+k)
  (hl:args++List.replicate k undef=l)
  (h:c.wp P (bodyPost P fn λe w'=>∃v,e=.returned v/\R v w') ⟨l.toArray,[]⟩ w):Calls P f args.toArray w λe w'=>∃v,e=.returned v/\R v w':=by
 refine calls_of_wp hf hb ?_;have e:args.toArray++Array.replicate (fn.ntmps-args.toArray.size) undef=l.toArray:=ac3
 rw[e];exact h
def zJ(P:Program)(a:Act)(w:ay):List ResultVar->List az->Prop
 | [],[]=>True
 | .tmp t::r,v::vs=>a.eval (.tmp t)=v/\zJ P a w r vs
 | .cell p t::r,v::vs=>(∃ad,a.eval (.tmp p)=.pointer (some ad)/\(loadVar t ad).run P w=.ok v w)/\zJ P a w r vs
 | _,_=>False
theorem nJ(f:ResultVar->Sem az)(hf1:∀t,f (.tmp t)=pure (a.tmps.getD t undef))(hf2:∀q t,f (.cell q t)=(do loadVar t (<-asAddr (a.tmps.getD q undef)))):
  ∀rs vs,zJ P a w rs vs->(rs.mapM f).run P w=.ok vs w
 | [],[],_=>rfl
 | [],_::_,h=>h.elim
 | .tmp t::r,[],h=>h.elim
 | .cell _ _::r,[],h=>h.elim
 | .tmp t::r,v::vs,h=>by
  have ih:=nJ f hf1 hf2 r vs h.2;have h1:a.tmps.getD t undef=v:=h.1;simp_all
 | .cell q t::r,v::vs,h=>by
  have ih:=nJ f hf1 hf2 r vs h.2;obtain⟨⟨ad,h1,h2⟩,_⟩:=h;have h1':a.tmps.getD q undef=.pointer _:=h1;rw[List.mapM_cons,hf2];simp[h1',asAddr,h2,ih]
theorem PW{fn}{rs}{v}(h:fn.results=rs.toArray)(hr:zJ P a w rs [v]):(results fn a.tmps).run P w=.ok v w:=by
 unfold results;rw[h,List.mapM_toArray];simp only[Sem.run_bind,map_eq_pure_bind];rw[nJ _ (λ_=>rfl) (λ_ _=>rfl) rs [v] hr];rfl
theorem Iq{fn}{rs}{vs}(h:fn.results=rs.toArray)(hn:(vs.length==1)=false)(hr:zJ P a w rs vs):(results fn a.tmps).run P w=.ok (.tuple vs.toArray) w:=by
 unfold results;rw[h,List.mapM_toArray];simp only[Sem.run_bind,map_eq_pure_bind,Sem.run_pure];rw[nJ _ (λ_=>rfl) (λ_ _=>rfl) rs vs hr];simp_all
theorem Kk{fn}{R:az->ay->Prop}{v}(hr:(results fn a.tmps).run P w=.ok v w)(hd:a.defers=[])(h:R v w):
 bodyPost P fn (λe w'=>∃v,e=.returned v/\R v w') .ret a w:=bodyPost_ret hr hd ⟨v,rfl,h⟩
theorem Ir{fn}{R:az->ay->Prop}{v}(hr:(results fn a.tmps).run P w=.ok v w)(hd:a.defers=[])(h:R v w):
 bodyPost P fn (λe w'=>∃v,e=.returned v/\R v w') .normal a w:=bodyPost_end hr hd ⟨v,rfl,h⟩
theorem Dt{ty}{ad}{cs}{n}(E3:(isAgg ty).run P w=.ok true w)(hsz:(sizeOf ty).run P w=.ok n w)(hn:cs.length=n)(hc:Cells w ad cs):
  (loadVar ty ad).run P w=.ok (.agg cs.toArray) w:=by
 have hl:=run_loadCells_list (P:=P) w ad cs hc;rw[hn]at hl;simp[loadVar,E3,hsz,hl,Sem.run_pure]
theorem BG{ty}{ad}{v}(E3:(isAgg ty).run P w=.ok false w)(hc:w.cell? ad=some v):
  (loadVar ty ad).run P w=.ok v w:=by
 simp[loadVar,E3,jX,run_load,hc]
end
section
variable {P:Program} {ops:Array Oper} {rest:List Oper} {a a':Act} {w:ay} {Q:Act->Prop}
theorem ad7{o} v (hg:Region.wanted o (yielded ops a.tmps)=true)
  (hr:∀w',(∃n,w'=w.drewN n)->(execOp a.eval o).run P w'=.ok (.value v) w') (ha:a.put o.dst v=a')
  (h:wpQuiet P ops (λw'=>∃n,w'=w.drewN n) Q rest a'):wpQuiet P ops (λw'=>∃n,w'=w.drewN n) Q (o::rest) a:=by
 subst ha;unfold wpQuiet;rw[aZ hg];refine⟨v,λw' hw'=>?_,h⟩;unfold Oper.quietAt;rw[hr w' hw'];exact⟨rfl,rfl⟩
theorem akw{o}(hg:Region.wanted o (yielded ops a.tmps)=false)(ha:a.put o.dst undef=a')
  (h:wpQuiet P ops (λw'=>∃n,w'=w.drewN n) Q rest a'):wpQuiet P ops (λw'=>∃n,w'=w.drewN n) Q (o::rest) a:=by
 subst ha;unfold wpQuiet;simp_all
end
theorem PX{w w'}:cj [] w w':=λ_ h=>abk
theorem cj.refl bs w:cj bs w w:=λ_ _=>rfl
section
variable {P:Program} {ops:Array Oper} {Q:Exit->Act->ay->Prop} {md:Region.Mode} {E:Nat->ay->ay->Prop} {F:ay->Prop}
def fW(P:Program)(md:Region.Mode)(ops:Array Oper)(Q:Exit->Act->ay->Prop)(E:Nat->ay->ay->Prop):Nat->Array Bool->Act->ay->Prop
 | 0,bI,a,w=>Region.ready md ops bI=[]/\Q .normal a w
 | fy+1,bI,a,w=>
  (Region.ready md ops bI=[]->Q .normal a w)/\
  ∀i∈Region.ready md ops bI,wpOp P ops Q i (λa' w'=>E i w w'/\fW P md ops Q E fy (bI.setIfInBounds i true) a' w') a w
theorem zK:∀fy bI a w,fW P md ops Q E fy bI a w->wpAny P md ops Q fy bI a w
 | 0,_,_,_,h=>h
 | fy+1,_,_,_,h=>⟨h.1,λi hi=>wpOp_mono (λa' w' h'=>zK fy _ a' w' h'.2) (h.2 i hi)⟩
def qO(md:Region.Mode)(ops:Array Oper)(bI:Array Bool):Prop:=∀k o,ops[k]? =some o->bI.getD k false=true->∀e∈o.after,Region.binds md e=true->bI.getD e.on false=true
def Du(md:Region.Mode)(ops:Array Oper)(bI:Array Bool):Bool:=
 (List.range ops.size).all λk=>!bI.getD k false||((ops[k]?).map (·.after.all λe=>!Region.binds md e||bI.getD e.on false)).getD true
theorem Ca{bI}(h:Du md ops bI=true):qO md ops bI:=by
 intro k o hk hl e he hb;have:=(dY.1 h) k (lr.2 (ga.1 hk).1);simp only[hl,nf,hk,dz,jY,Array.all_eq_true_iff_forall_mem,bU]at this
 grind
theorem qO.add{bI}{j}(h:qO md ops bI)(hj:j∈Region.ready md ops bI):qO md ops (bI.setIfInBounds j true):=by
 intro k o hk hl e he hb;obtain⟨_,oj,Ys,iW⟩:=mem_ready.1 hj;by_cases hkj:j=k
 ·subst hkj;rw[Ys]at hk;injection hk with hk;subst hk;exact getD_set_true (iW e he hb)
 rw[getD_set_ne false hkj]at hl;exact getD_set_true (h k o hk hl e he hb)
def wM(md:Region.Mode)(ops:Array Oper)(i:Nat):List Nat->List Nat->Bool
 | _,[]=>true
 | seen,j::r=>((ops[j]?).map λo=>o.after.any λe=>Region.binds md e&&(e.on==i||seen.contains e.on)).getD false&&wM md ops i (j::seen) r
theorem xV{i}{bI}(hc:qO md ops bI):∀D seen,wM md ops i seen D=true->(∀k∈seen,bI.getD k false=true->bI.getD i false=true)->∀j∈D,∀o,ops[j]? =some o->(∀e∈o.after,Region.binds md e=true->bI.getD e.on false=true)->bI.getD i false=true
 | [],_,_,_,j,hj,_,_,_=>by simp at hj
 | k::r,seen,h,hs,j,hj,o,ho,iW=>by
  simp[wM,aU]at h;have hk:∀o,ops[k]? =some o->(∀e∈o.after,Region.binds md e=true->bI.getD e.on false=true)->bI.getD i false=true:=ac3
  rcases aR.1 hj with rfl | hj
  ·exact hk o ho iW
  refine xV hc r _ h.2 ?_ j hj o ho iW;intro x hx hl;rcases aR.1 hx with rfl | hx
  ·have h1:=h.1;cases hx2:ops[x]? with
   | none=>rw[hx2]at h1;simp at h1
   | some ox=>exact hk ox hx2 (hc x ox hx2 hl)
  exact hs x hx hl
theorem qQ{i}{oi}{v}{D}(hi:ops[i]? =some oi)(agt:∀(j:Nat) o cs b,ops[j]? =some o->o.op≠.select cs b)
  (hQ:∀c a w,Q (.panic c) (a.put oi.dst v) w->Q (.panic c) a w) (hD:wM md ops i [] D=true)
  (N:List Nat) (nS:∀j w w',j∉D->j∉N->F w->E j w w'->F w') (Tc:∀w,F w->E i w w):
  ∀fy bI a w,qO md ops bI->(∀k∈N,bI.getD k true=true)->
   (∀j oj,ops[j]? =some oj->j≠i->bI.getD j true=false->(∀e∈oj.after,Region.binds md e=true->e.on≠i)->oi.apart ops oj=true)->
   i∈Region.ready md ops bI->YieldsIf P ops F oi v a->F w->
   fW P md ops Q E fy (bI.setIfInBounds i true) (a.put oi.dst v) w->fW P md ops Q E (fy+1) bI a w:=by
 intro fy
 induction fy with
 | zero=>
  intro bI a w _ _ _ hr hy hF H;refine⟨λh=>(by rw[h]at hr;cases hr),λj hj=>?_⟩;by_cases Yt:j=i
  ·subst Yt;exact hy.wpOp hi hF ⟨Tc w hF,H⟩
  have:=ready_mono hj Yt;rw[H.1]at this;cases this
 | succ fy ih=>
  intro bI a w pJ hN MP hr hy hF H;refine⟨λh=>(by rw[h]at hr;cases hr),λj hj=>?_⟩;by_cases Yt:j=i
  ·subst Yt;exact hy.wpOp hi hF ⟨Tc w hF,H⟩
  have h1:=H.2 j (ready_mono hj Yt);obtain⟨abf,oj,Ys,iW⟩:=mem_ready.1 hj;have auj:=(mem_ready.1 hr).1;have hli:bI.getD i false=false:=ac3
  have amT:∀e∈oj.after,Region.binds md e=true->e.on≠i:=λe he hb heq=>ac3
  have hjD:j∉D:=λhm=>by
   have:=xV pJ D [] hD aaa j hm oj Ys iW;rw[hli]at this;cases this
  have hjN:j∉N:=λhm=>by
   have:=hN j hm;rw[abf]at this;cases this
  have hN':∀k∈N,(bI.setIfInBounds j true).getD k true=true:=λk hk=>by
   by_cases hjk:j=k
   ·subst hjk;exact absurd hk hjN
   rw[getD_set_ne true hjk];exact hN k hk
  have h2:=wpOp_putIf Ys (MP j oj Ys Yt abf amT) (λcs b=>agt i oi cs b hi) (λcs b=>agt j oj cs b Ys) hQ hy h1;have E5:∀k ok,ops[k]? =some ok->k≠i->(bI.setIfInBounds j true).getD k true=false->
    _->oi.apart ops ok=true:=λk ok hk hki hun hno=>by
   refine MP k ok hk hki ?_ hno;by_cases hjk:j=k
   ·subst hjk;exact abf
   rw[getD_set_ne true hjk]at hun;exact hun
  refine wpOp_mono (λa' w' h3=>⟨h3.2.1,ih _ a' w' (pJ.add hj) hN' E5 (ready_mono hr (u9 Yt)) h3.1 (nS j w w' hjD hjN hF h3.2.1) ?_⟩) h2;rw[Array.setIfInBounds_comm _ _ Yt];exact h3.2.2
theorem PY i {fG} {oi} {a a'} {w} {fy} {bI} (D N:List Nat) v F (hi:gU fG i=some oi)
  (hs:Region.noSelect fG.toArray=true) (hf:Region.free md fG.toArray bI i=true) (hr:(Region.ready md fG.toArray bI).contains i=true) (hc:Du md fG.toArray bI=true) (hD:wM md fG.toArray i [] D=true) (hN:(N.all λk=>bI.getD k true)=true)
  (hQ:∀c a w,Q (.panic c) (a.put oi.dst v) w->Q (.panic c) a w) (nS:∀j w w',j∉D->j∉N->F w->E j w w'->F w') (Tc:∀w,F w->E i w w) (hF:F w)
  (hy:YieldsIf P fG.toArray F oi v a) (ha:a.put oi.dst v=a')
  (h:fW P md fG.toArray Q E fy (bI.setIfInBounds i true) a' w):fW P md fG.toArray Q E (fy+1) bI a w:=by
 subst ha;have Bp:fG.toArray[i]? =some oi:=acH
 exact qQ Bp (Region.noSelect_spec hs) hQ hD N nS Tc fy bI a w (Ca hc) (λk hk=>ac3) (Region.free_spec Bp hf) adq hy hF h
theorem ad8 i {fG} {oi} {a} {w} {fy} {bI} (hi:gU fG i=some oi) (hr:Region.ready md fG.toArray bI=[i])
  (hg:Region.wanted oi (yielded fG.toArray a.tmps)=true)
  (h:oi.wp P a w (λa' w'=>E i w w'/\fW P md fG.toArray Q E fy (bI.setIfInBounds i true) a' w') Q):fW P md fG.toArray Q E (fy+1) bI a w:=by
 have Bp:fG.toArray[i]? =some oi:=acH
 refine⟨λh0=>adB,λj hj=>?_⟩;rw[hr]at hj;obtain rfl:j=i:=ac6
 unfold wpOp;simp_all
theorem UD i {fG} {oi} {a a'} {w} {fy} {bI} (hi:gU fG i=some oi) (hr:Region.ready md fG.toArray bI=[i])
  (hg:Region.wanted oi (yielded fG.toArray a.tmps)=false) (hE:E i w w) (ha:a.put oi.dst undef=a')
  (h:fW P md fG.toArray Q E fy (bI.setIfInBounds i true) a' w):fW P md fG.toArray Q E (fy+1) bI a w:=by
 subst ha;have Bp:fG.toArray[i]? =some oi:=acH
 refine⟨λh0=>adB,λj hj=>?_⟩;rw[hr]at hj;obtain rfl:j=i:=ac6
 unfold wpOp;simp_all
theorem ad9 i j {fG} {oi oj} {a} {w} {fy} {bI} (hi:gU fG i=some oi) (hj:gU fG j=some oj) (hr:Region.ready md fG.toArray bI=[i,j])
  (h1:if Region.wanted oi (yielded fG.toArray a.tmps)then oi.wp P a w (λa' w'=>E i w w'/\fW P md fG.toArray Q E fy (bI.setIfInBounds i true) a' w') Q∨(oi.asks P a w/\LetsOut Q)
   else(λa' w'=>E i w w'/\fW P md fG.toArray Q E fy (bI.setIfInBounds i true) a' w') (a.put oi.dst undef) w)
  (h2:if Region.wanted oj (yielded fG.toArray a.tmps)then oj.wp P a w (λa' w'=>E j w w'/\fW P md fG.toArray Q E fy (bI.setIfInBounds j true) a' w') Q∨(oj.asks P a w/\LetsOut Q)
   else(λa' w'=>E j w w'/\fW P md fG.toArray Q E fy (bI.setIfInBounds j true) a' w') (a.put oj.dst undef) w):fW P md fG.toArray Q E (fy+1) bI a w:=by
 have Bp:fG.toArray[i]? =some oi:=acH
 have Pe:fG.toArray[j]? =some oj:=by rw[jO]at hj;simpa using hj
 refine⟨λh0=>adB,λk hk=>?_⟩;rw[hr]at hk;unfold wpOp;rcases aR.1 hk with rfl | hk<;>simp_all
theorem Zh{bI}{a}{w}{fy}(hr:Region.ready md ops bI=[])(h:Q .normal a w):fW P md ops Q E fy bI a w:=by
 cases fy with
 | zero=>exact⟨hr,h⟩
 | succ n=>exact⟨λ_=>h,by rw[hr];simp⟩
theorem FL{id}{fG:List Oper}{a}{w} E (hm:P.follows .mixedOrders=true)
  (h:fW P .any fG.toArray Q E fG.length (Array.replicate fG.length false) a w.drew):(Code.region id fG.toArray true).wp P Q a w:=by
 refine wp_region_any hm (zK (E:=E) _ _ _ _ ?_);simpa using h
theorem It{s}{l} w w' (h:w'.heap[s.blk]? =w.heap[s.blk]?) (hc:zz w s l):zz w' s l:=
 ⟨hc.1,λhl=>by
  obtain⟨ad,h1,h2⟩:=hc.2 hl;refine⟨ad,h1,h2.keep ?_⟩;simpa[Sl.blk,h1]using h⟩
theorem Xi{fG:List Oper}{o}{v}{a}(hg:Region.wanted o (yielded fG.toArray a.tmps)=true)(h:∀w,F w->(execOp a.eval o).run P w=.ok (.value v) w):YieldsIf P fG.toArray F o v a:=.inl ⟨hg,h⟩
theorem aea{fG:List Oper}{o}{a}(hg:Region.wanted o (yielded fG.toArray a.tmps)=false):YieldsIf P fG.toArray F o undef a:=.inr ⟨hg,rfl⟩
end
def InI(x:Int):Prop:= -9223372036854775808<=x/\x<=9223372036854775807
theorem wr{x}(h:InI x):IntKind.i64.wrap x=x:=IntWalk.i64_in _ ⟨h.1,h.2⟩
theorem gF{x}(h1: -9223372036854775808<=x)(h2:x<=9223372036854775807):IntKind.i64.wrap x=x:=IntWalk.i64_in _ ⟨h1,h2⟩
theorem PZ x:InI (IntKind.i64.wrap x):=by
 rw[IntKind.wrap_i64];constructor<;>omega
abbrev Rp(α:Type):=ay->(Nat->Prop)->α->List az->Prop
structure Rp.Ok {α:Type} (r:Rp α):Prop where
 keep:∀{w w':ay} {F:Nat->Prop} {x:α} {cs:List az},r w F x cs->(∀k,F k->k<w.heap.size->w'.heap[k]? =w.heap[k]?)->r w' F x cs
 inHeap:∀{w:ay} {F:Nat->Prop} {x:α} {cs:List az},r w F x cs->r w (λk=>F k/\k<w.heap.size) x cs
 mono:∀{w:ay} {F G:Nat->Prop} {x:α} {cs:List az},r w F x cs->(∀k,F k->G k)->r w G x cs
 one:∀{w:ay} {F:Nat->Prop} {x:α} {cs:List az},r w F x cs->∀v,v∈cs->v.oneCell'=true
section
variable {α:Type} {r:Rp α} {size:Nat} {w w':ay} {F G:Nat->Prop} {s:Sl} {xs:List α}
structure SliceF (r:Rp α) (size:Nat) (w:ay) (F:Nat->Prop) (s:Sl) (xs:List α):Prop where
 len:s.n=xs.length
 cap:s.n<=s.c
 nil0:s.a=none->s.c=0
 big:s.c<=9223372036854775807
 at_:∀j x,xs[j]? =some x->∃base cs,s.a=some base/\F base.block/\cs.length=size/\Cells w (base.add (j*size)) cs/\r w F x cs
theorem qR(a:Addr) n:(a.add n).block=a.block:=by unfold Addr.add;split<;>rfl
theorem pQ(a:Addr) i j:(a.add i).add j=a.add (i+j):=by
 unfold Addr.add;by_cases hi:i=0<;>by_cases hj:j=0<;>simp[hi,hj,eU]
theorem Cf(a:Addr):a.add 0=a:=rfl
theorem fI b o n:(⟨b,o,none⟩:Addr).add n=⟨b,o+n,none⟩:=by unfold Addr.add;split<;>simp_all
theorem Cells.sub{a}{cs vs}(h:Cells w a cs) k (hv:∀j v,vs[j]? =some v->cs[k+j]? =some v):Cells w (a.add k) vs:=λj v hj=>by
 rw[pQ];exact h _ v (hv j v hj)
theorem Cells.eE{a}{cs}(h:Cells w a cs) k v (hv:cs[k]? =some v):Cells w (a.add k) [v]:=h.sub k λj u hj=>by
 cases j with
 | zero=>simpa[hv]using hj
 | succ j=>simp at hj
theorem SliceF.nil(r:Rp α) size w F:SliceF r size w F Sl.nil []:=⟨rfl,ba _,λ_=>rfl,aN,λj x h=>abk⟩
theorem SliceF.keep(hr:r.Ok)(h:SliceF r size w F s xs)(hs:0<size)(hk:∀k,F k->k<w.heap.size->w'.heap[k]? =w.heap[k]?):SliceF r size w' F s xs:=
 ⟨h.len,h.cap,h.nil0,h.big,λj x hx=>by
  obtain⟨base,cs,h1,h2,h3,h4,h5⟩:=h.at_ j x hx;refine⟨base,cs,h1,h2,h3,h4.keep ?_,hr.keep h5 hk⟩;have cd:(base.add (j*size)).block<w.heap.size:=by
   cases cs with
   | nil=>simp at h3;omega
   | cons c cs=>exact h4.lt
  rw[qR]at cd⊢;exact hk _ h2 cd⟩
theorem SliceF.mono(hr:r.Ok)(h:SliceF r size w F s xs)(hk:∀k,F k->G k):SliceF r size w G s xs:=
 ⟨h.len,h.cap,h.nil0,h.big,λj x hx=>by
  obtain⟨base,cs,h1,h2,h3,h4,h5⟩:=h.at_ j x hx;exact⟨base,cs,h1,hk _ h2,h3,h4,hr.mono h5 hk⟩⟩
theorem SliceF.inHeap(hr:r.Ok)(h:SliceF r size w F s xs)(hs:0<size):SliceF r size w (λk=>F k/\k<w.heap.size) s xs:=
 ⟨h.len,h.cap,h.nil0,h.big,λj x hx=>by
  obtain⟨base,cs,h1,h2,h3,h4,h5⟩:=h.at_ j x hx;refine⟨base,cs,h1,⟨h2,?_⟩,h3,h4,hr.inHeap h5⟩;have cd:(base.add (j*size)).block<w.heap.size:=by
   cases cs with
   | nil=>simp at h3;omega
   | cons c cs=>exact h4.lt
  rwa[qR]at cd⟩
theorem SliceF.get(h:SliceF r size w F s xs){i:Int}(h0:0<=i)(h1:i<s.n):
  ∃ad x cs,dI s i size ad/\xs[i.toNat]? =some x/\F ad.block/\cs.length=size/\Cells w ad cs/\r w F x cs:=by
 have hl:=h.len;have cd:i.toNat<xs.length:=aG
 obtain⟨base,cs,g1,g2,g3,g4,g5⟩:=h.at_ i.toNat _ (aQ cd);exact⟨_,_,cs,⟨base,g1,h0,h1,rfl⟩,aQ cd,by rw[qR];exact g2,g3,g4,g5⟩
theorem SliceF.mem(h:SliceF r size w F s xs){x}(hx:x∈xs):∃cs,r w F x cs:=by
 obtain⟨j,hj⟩:=eY hx;obtain⟨_,cs,_,_,_,_,h5⟩:=h.at_ j x hj;exact⟨cs,h5⟩
theorem dI.amM{i}{a b}(h:dI s i size a)(k:dI s i size b):a=b:=by
 obtain⟨x,h1,_,_,h2⟩:=h;obtain⟨y,k1,_,_,k2⟩:=k;rw[h1]at k1;injection k1 with k1;rw[h2,k2,k1]
theorem SliceF.cut(h:SliceF r size w F s xs){lo hi m}(h1:lo<=hi)(h2:hi<=m)(h3:hi<=s.n)(h4:m<=s.c):SliceF r size w F (s.cut lo hi m size) ((xs.drop lo).take (hi-lo)):=by
 have hl:=h.len;refine⟨?_,?_,λha=>?_,by have:=h.big;simp[Sl.cut];omega,λj x hx=>?_⟩
 ·simp[Sl.cut,cK,cM];omega
 ·simp[Sl.cut];omega
 ·simp[Sl.cut]at ha⊢;split at ha
  ·omega
  have:=h.nil0 (by simpa using ha);omega
 rw[List.getElem?_take]at hx;split at hx
 ·rw[iQ]at hx;obtain⟨base,cs,g1,g2,g3,g4,g5⟩:=h.at_ _ _ hx;refine⟨base.add (lo*size),cs,?_,by rw[qR];exact g2,g3,?_,g5⟩
  ·simp[Sl.cut];rw[aX aG,g1];rfl
  rw[pQ,<-eM];exact g4
 cases hx
end
structure BytesF (w:ay) (F:Nat->Prop) (s:Sl) (l:List UInt8):Prop where
 rd:zz w s l
 cap:s.n<=s.c
 blk:∀ad,s.a=some ad->l≠[]->F ad.block
section
variable {w w':ay} {F G:Nat->Prop} {s:Sl} {l:List UInt8}
theorem BytesF.nil w F:BytesF w F Sl.nil []:=⟨⟨rfl,λh=>absurd rfl h⟩,ba _,λ_ _ h=>absurd rfl h⟩
theorem BytesF.mono(h:BytesF w F s l)(hk:∀k,F k->G k):BytesF w G s l:=⟨h.rd,h.cap,λad ha hl=>hk _ (h.blk ad ha hl)⟩
end
def gu{α:Type}(P:α->List az->Prop):List α->List (List az)->Prop
 | [],[]=>True
 | x::xs,c::cs=>P x c/\gu P xs cs
 | _,_=>False
section
variable {α:Type} {P Q:α->List az->Prop}
theorem gu.len:∀{xs:List α} {css:List _},gu P xs css->xs.length=css.length
 | [],[],_=>rfl
 | x::xs,c::cs,h=>by simp[gu.len (xs:=xs) (css:=cs) h.2]
 | [],_::_,h=>h.elim
 | _::_,[],h=>h.elim
theorem gu.imp(hi:∀x c,P x c->Q x c):∀{xs:List α} {css:List _},gu P xs css->gu Q xs css
 | [],[],_=>trivial
 | x::xs,c::cs,h=>⟨hi _ _ h.1,gu.imp hi (xs:=xs) (css:=cs) h.2⟩
 | [],_::_,h=>h.elim
 | _::_,[],h=>h.elim
theorem gu.zm:∀{xs ys:List α} {css Fw:List _},gu P xs css->gu P ys Fw->gu P (xs++ys) (css++Fw)
 | [],_,[],_,_,k=>k
 | x::xs,_,c::cs,_,h,k=>⟨h.1,gu.zm (xs:=xs) (css:=cs) h.2 k⟩
 | [],_,_::_,_,h,_=>h.elim
 | _::_,_,[],_,h,_=>h.elim
theorem gu.get:∀{xs:List α} {css:List _},gu P xs css->∀{j:Nat} {x:α},xs[j]? =some x->∃cs,css[j]? =some cs/\P x cs
 | [],[],_,j,x,h=>abk
 | y::xs,c::cs,k,0,x,h=>by
  simp at h;subst h;exact⟨c,rfl,k.1⟩
 | y::xs,c::cs,k,j+1,x,h=>by
  exact gu.get (xs:=xs) (css:=cs) k.2 h
 | [],_::_,h,_,_,_=>h.elim
 | _::_,[],h,_,_,_=>h.elim
theorem gu.mem:∀{xs:List α} {css:List _},gu P xs css->∀c,c∈css->∃x,P x c
 | [],[],_,c,h=>abk
 | y::xs,d::cs,k,c,h=>by
  rcases aR.1 h with rfl | h
  ·exact⟨y,k.1⟩
  exact gu.mem (xs:=xs) (css:=cs) k.2 c h
 | [],_::_,h,_,_=>h.elim
 | _::_,[],h,_,_=>h.elim
theorem gu.take:∀n {xs:List α} {css:List _},gu P xs css->gu P (xs.take n) (css.take n)
 | 0,_,_,_=>by simp[gu]
 | _+1,[],[],_=>by simp[gu]
 | n+1,x::xs,c::cs,h=>by simp;exact⟨h.1,gu.take n (xs:=xs) (css:=cs) h.2⟩
 | _,[],_::_,h=>h.elim
 | _,_::_,[],h=>h.elim
theorem gu.set:∀{xs:List α} {css:List _} j {x:α} {c:List az},gu P xs css->P x c->gu P (xs.set j x) (css.set j c)
 | [],[],_,_,_,_,_=>by simp[gu]
 | y::xs,d::cs,0,x,c,h,k=>⟨k,h.2⟩
 | y::xs,d::cs,j+1,x,c,h,k=>⟨h.1,gu.set (xs:=xs) (css:=cs) j h.2 k⟩
 | [],_::_,_,_,_,h,_=>h.elim
 | _::_,[],_,_,_,h,_=>h.elim
end
theorem pR{css:List (List az)}{size}(h:∀c,c∈css->c.length=size):css.flatten.length=css.length*size:=by
 induction css with
 | nil=>simp
 | cons c cs ih=>
  rw[dy,aW,h c aaa,ih (λd hd=>h d (by simp[hd])),bp,eM];omega
theorem Dv{css:List _}{size}(h:∀c,c∈css->c.length=size):∀{j i:Nat} {cs:List az} {v:az},css[j]? =some cs->cs[i]? =some v->css.flatten[j*size+i]? =some v:=by
 induction css with
 | nil=>intro j i cs v hj;simp at hj
 | cons c cs ih=>
  intro j i ds v hj hi;have hc:=h c aaa;cases j with
  | zero=>
   simp at hj;subst hj;simp;rw[bK (be.1 hi).1];exact hi
  | succ j=>
   have:=ih (λd hd=>h d (by simp[hd])) hj hi;rw[dy,bX (by rw[hc,eM];omega),hc];rw[show _*size+i-size=j*size+i by rw[eM];omega];exact this
theorem Nh{css:List (List az)}{size}(h:∀c,c∈css->c.length=size):∀n,css.flatten.take (n*size)=(css.take n).flatten:=by
 induction css with
 | nil=>intro n;simp
 | cons c cs ih=>
  intro n;cases n with
  | zero=>simp
  | succ n=>
   have hc:=h c aaa;rw[dy,eB,dy,List.take_append,<-ih (λd hd=>h d (by simp[hd])),hc,show _*size-size=n*size by rw[eM];omega,bq (by rw[hc,eM];omega)]
theorem Iu{cs}{o}{v}(h:o<cs.length):cx cs o [v]=cs.set o v:=by
 rw[cx,List.set_eq_take_append_cons_drop,aZ h];simp
theorem FM{size}{tail}{i}{v}:∀{css:List _} {n:Nat} {cs:List az},(∀c,c∈css->c.length=size)->css[n]? =some cs->i<size->
  (css.flatten++tail).set (n*size+i) v=(css.set n (cs.set i v)).flatten++tail
 | [],n,cs,_,hn,_=>by simp at hn
 | c::css,0,cs,h,hn,hi=>by
  simp at hn;subst hn;have hc:=h c aaa;simp;rw[List.set_append_left _ _ aG]
 | c::css,n+1,cs,h,hn,hi=>by
  simp at hn;have hc:=h c aaa;simp;rw[BA _ _ (by rw[hc,eM];omega),hc,show(n+1)*size+i-size=n*size+i by rw[eM];omega,FM (tail:=tail) (v:=v) (λd hd=>h d (by simp[hd])) hn hi]
section
variable {w w':ay} {a:Addr} {cs ds:List az}
theorem Cells.zm(h:Cells w a cs)(k:Cells w (a.add cs.length) ds):Cells w a (cs++ds):=λj v hj=>by
 by_cases cd:j<cs.length
 ·rw[bK cd]at hj;exact h j v hj
 rw[bX aG]at hj;have:=k _ v hj;rw[pQ,show cs.length+_=j by omega]at this;exact this
theorem Cells.nil w a:Cells w a []:=λj v hj=>by simp at hj
end
section
variable {α:Type} {r:Rp α} {size:Nat} {w w':ay} {F G:Nat->Prop} {s y:Sl} {xs ys:List α} {e:TypeId} {B:Nat}
abbrev lO(r:Rp α)(size:Nat)(w:ay)(F:Nat->Prop):List α->List (List az)->Prop:=gu λx cs=>cs.length=size/\r w F x cs
theorem lO.sz{css}(h:lO r size w F xs css):∀c,c∈css->c.length=size:=λc hc=>by
 obtain⟨_,h1,_⟩:=h.mem c hc;exact h1
theorem lO.keep(hr:r.Ok){css}(h:lO r size w F xs css)(hk:∀k,F k->k<w.heap.size->w'.heap[k]? =w.heap[k]?):lO r size w' F xs css:=
 h.imp λ_ _ h1=>⟨h1.1,hr.keep h1.2 hk⟩
theorem lO.mono(hr:r.Ok){css}(h:lO r size w F xs css)(hk:∀k,F k->G k):lO r size w G xs css:=
 h.imp λ_ _ h1=>⟨h1.1,hr.mono h1.2 hk⟩
theorem lO.inHeap(hr:r.Ok){css}(h:lO r size w F xs css):lO r size w (λk=>F k/\k<w.heap.size) xs css:=
 h.imp λ_ _ h1=>⟨h1.1,hr.inHeap h1.2⟩
theorem SliceF.SR{base:Addr}:∀xs k,(∀j x,xs[j]? =some x->∃cs,cs.length=size/\Cells w (base.add ((k+j)*size)) cs/\r w F x cs)->
  ∃css,lO r size w F xs css/\Cells w (base.add (k*size)) css.flatten
 | [],k,_=>⟨[],trivial,Cells.nil _ _⟩
 | x::xs,k,h=>by
  obtain⟨cs,h1,h2,h3⟩:=h 0 x rfl;obtain⟨css,k1,k2⟩:=SliceF.SR xs _ (λj y hj=>by
   obtain⟨ds,g1,g2,g3⟩:=h (j+1) y ac6;exact⟨ds,g1,by rw[show k+1+j=k+(j+1) by omega];exact g2,g3⟩)
  refine⟨cs::css,⟨⟨h1,h3⟩,k1⟩,?_⟩;refine Cells.zm acD ?_;rw[pQ,h1,show k*size+size=(k+1)*size by rw[eM];omega];exact k2
theorem SliceF.flat(h:SliceF r size w F s xs)(hx:xs≠[]):∃base css,s.a=some base/\F base.block/\lO r size w F xs css/\Cells w base css.flatten:=by
 cases xs with
 | nil=>exact absurd rfl hx
 | cons x xs=>
  obtain⟨base,_,h1,h2,_⟩:=h.at_ 0 x rfl;obtain⟨css,k1,k2⟩:=SliceF.SR (r:=r) (size:=size) (w:=w) (F:=F) (base:=base) _ 0 (λj y hj=>by
   obtain⟨b',cs,g1,g2,g3,g4,g5⟩:=h.at_ j y hj;rw[h1]at g1;injection g1 with g1;subst g1;exact⟨cs,g3,by simpa using g4,g5⟩)
  exact⟨base,css,h1,h2,k1,by rw[yT,Cf]at k2;exact k2⟩
theorem SliceF.of{base}{css}(he:lO r size w F xs css)(ha:s.a=some base)(hF:F base.block)(hc:Cells w base css.flatten)(hn:s.n=xs.length)(rN:s.n<=s.c)(Td:s.c<=9223372036854775807):SliceF r size w F s xs:=
 ⟨hn,rN,λh=>(by rw[ha]at h;cases h),Td,λj x hx=>by
  obtain⟨cs,h1,h2,h3⟩:=he.get hx;exact⟨base,cs,ha,hF,h2,λi v hi=>by rw[pQ];exact hc _ v (Dv he.sz h1 hi),h3⟩⟩
def Own(r:Rp α)(size:Nat)(e:TypeId)(B:Nat)(w:ay)(F:Nat->Prop)(s:Sl)(xs:List α):Prop:=
 (s=Sl.nil/\xs=[])∨∃g css tail,s.a=some ⟨g,0,none⟩/\B<=g/\Blk w g e (css.flatten++tail)/\tail.length=(s.c-s.n)*size/\s.n=xs.length/\s.n<=s.c/\s.c<=9223372036854775807/\lO r size w (λk=>F k/\k≠g) xs css
theorem Own.len(h:Own r size e B w F s xs):s.n=xs.length:=by
 rcases h with⟨rfl,rfl⟩ | ⟨g,css,tail,_,_,_,_,h,_⟩
 ·rfl
 exact h
theorem Own.cap(h:Own r size e B w F s xs):s.n<=s.c:=by
 rcases h with⟨rfl,rfl⟩ | ⟨g,css,tail,_,_,_,_,_,h,_,_⟩
 ·exact ba _
 exact h
theorem Own.slice(hr:r.Ok)(h:Own r size e B w F s xs):SliceF r size w (λk=>F k∨(B<=k/\s.a=some ⟨k,0,none⟩)) s xs:=by
 rcases h with⟨rfl,rfl⟩ | ⟨g,css,tail,h1,h2,h4,h5,h6,h7,h9,h8⟩
 ·exact SliceF.nil _ _ _ _
 exact SliceF.of (h8.mono hr λk hk=>.inl hk.1) h1 (.inr ⟨h2,h1⟩) (h4.cells 0 _ λj v hj=>by
  rw[bM,bK (be.1 hj).1];exact hj) h6 h7 h9
theorem Own.keep(hr:r.Ok)(h:Own r size e B w F s xs)(hk:∀k,(F k∨(B<=k/\s.a=some ⟨k,0,none⟩))->k<w.heap.size->w'.heap[k]? =w.heap[k]?):Own r size e B w' F s xs:=by
 rcases h with⟨rfl,rfl⟩ | ⟨g,css,tail,h1,h2,h4,h5,h6,h7,h9,h8⟩
 ·exact .inl ⟨rfl,rfl⟩
 exact .inr ⟨g,css,tail,h1,h2,(hk g (.inr ⟨h2,h1⟩) h4.lt).trans h4,h5,h6,h7,h9,h8.keep hr λk hF=>hk k (.inl hF.1)⟩
theorem Own.mono(hr:r.Ok)(h:Own r size e B w F s xs)(hk:∀k,F k->G k):Own r size e B w G s xs:=by
 rcases h with⟨rfl,rfl⟩ | ⟨g,css,tail,h1,h2,h4,h5,h6,h7,h9,h8⟩
 ·exact .inl ⟨rfl,rfl⟩
 exact .inr ⟨g,css,tail,h1,h2,h4,h5,h6,h7,h9,h8.mono hr λk h=>⟨hk k h.1,h.2⟩⟩
theorem Own.low{B'}(h:Own r size e B w F s xs)(hB:B'<=B):Own r size e B' w F s xs:=by
 rcases h with⟨rfl,rfl⟩ | ⟨g,css,tail,h1,h2,h4⟩
 ·exact .inl ⟨rfl,rfl⟩
 exact .inr ⟨g,css,tail,h1,bf hB h2,h4⟩
theorem Own.nil(r:Rp α) size e B w F:Own r size e B w F Sl.nil []:=.inl ⟨rfl,rfl⟩
theorem Own.inHeap(hr:r.Ok)(h:Own r size e B w F s xs):Own r size e B w (λk=>F k/\k<w.heap.size) s xs:=by
 rcases h with⟨rfl,rfl⟩ | ⟨g,css,tail,h1,h2,h4,h5,h6,h7,h9,h8⟩
 ·exact .inl ⟨rfl,rfl⟩
 exact .inr ⟨g,css,tail,h1,h2,h4,h5,h6,h7,h9,(h8.inHeap hr).mono hr λk h=>⟨⟨h.1.1,h.2⟩,h.1.2⟩⟩
theorem Own.blk(h:Own r size e B w F s xs){ad}(ha:s.a=some ad):B<=ad.block/\ad.block<w.heap.size:=by
 rcases h with⟨rfl,rfl⟩ | ⟨g,css,tail,h1,h2,h4,_⟩
 ·cases ha
 rw[h1]at ha;injection ha with ha;subst ha;exact⟨h2,h4.lt⟩
theorem SliceF.agh(h:SliceF r size w F s xs):∃css,lO r size w F xs css/\∀base,s.a=some base->Cells w base css.flatten:=by
 cases xs with
 | nil=>exact⟨[],trivial,λb _=>Cells.nil _ _⟩
 | cons x xs=>
  obtain⟨base,css,h1,h2,h3,h4⟩:=h.flat aaa;exact⟨css,h3,λb hb=>by rw[h1]at hb;injection hb with hb;subst hb;exact h4⟩
theorem lO.Ju{css}(h:lO r size w F xs css):css.flatten.length=xs.length*size:=by rw[pR h.sz,h.len]
theorem lO.one(hr:r.Ok){css}(h:lO r size w F xs css):∀v,v∈css.flatten->v.oneCell'=true:=λv hv=>by
 obtain⟨c,hc,hv⟩:=List.mem_flatten.1 hv;obtain⟨x,_,hx⟩:=h.mem c hc;exact hr.one hx v hv
theorem aeb(l m:List az) z:(l.toArray++m.toArray++z)=(l++m++z.toList).toArray:=by
 simp
section
variable {P:Program} {t ty:TypeId} {i:TypeInfo} {z:az} {bytes:Nat}
theorem vf(w:ay) k (Ou:z.cells.size=size):(Builtin.zeroCells z.cells k).toList.length=k*size:=by
 rw[fk,size_zeroCells,Ou]
theorem Ni(ht:P.underlying t=some (.slice e))(hi:P.info? e=some i)(hz:i.zero=some z)(qA:i.size=size)(Wv:i.bytes=bytes)(Ou:z.cells.size=size)
  (hr:r.Ok) {css} (k1:lO r size w F xs css) (k2:∀base,s.a=some base->Cells w base css.flatten) (Fx:s.a=none->s.c=0) (rV:s.n=xs.length) (hsc:s.n<=s.c)
  (hy:SliceF r size w F y ys) (qB:s.c<s.n+y.n) (hm:(xs.length+ys.length)*bytes<=140737488355328) (yK:0<bytes):
  ∃s' w',(Builtin.append_ #[t,t] ty #[s.v,y.v]).run P w=.ok s'.v w'/\Own r size e w.heap.size w' F s' (xs++ys)/\Only [] w w'/\s'.a=some ⟨w.heap.size,0,none⟩:=by
 subst qA;subst Wv;have Td:=bf (by have:=Fk (xs.length+ys.length) yK;omega) hm;have Ov:=hy.len;have Yu:y.n≠0:=aG
 have hyx:ys≠[]:=λh=>Yu (by rw[Ov,h];rfl);obtain⟨yb,Fw,m1,m2,m3,m4⟩:=hy.flat hyx;obtain⟨sa,sn,sc⟩:=s;obtain⟨ya,yn,yc⟩:=y;dsimp only at rV hsc Fx Ov Yu qB m1 k2;subst m1;have hold:=Only.drew w;have key:∀lA Pf,lA=sn+yn->∀W',W'=w.drew.alloc (.cells (css.flatten.toArray++Fw.flatten.toArray++Builtin.zeroCells z.cells (grownCap w lA Pf e-lA)) e)->
   Own r i.size e w.heap.size W' F ⟨some ⟨w.heap.size,0,none⟩,lA,grownCap w lA Pf e⟩ (xs++ys)/\Only [] w W':=by
  rintro lA Pf rfl W' rfl;have hO:Only [] w (w.drew.alloc (.cells (css.flatten.toArray++Fw.flatten.toArray++Builtin.zeroCells z.cells (grownCap w (sn+yn) Pf e-(sn+yn))) e)):=hold.cy (Only.alloc _ _);refine⟨.inr ⟨w.heap.size,css++Fw,(Builtin.zeroCells z.cells _).toList,rfl,ba _,?_,vf w _ Ou,?_,grownCap_ge _ _ _ _,grownCap_le_maxLen _ _ _ _ (by simp[maxLen];omega),?_⟩,hO⟩
  ·rw[aeb,Fl];exact Blk.alloc w.drew e _
  ·simp;omega
  refine((lO.mono hr (lO.inHeap hr (gu.zm k1 m3)) (G:=λk=>F k/\k≠w.heap.size) λk h=>⟨h.1,by have:=h.2;omega⟩)).keep hr λk hk cd=>hO.block k cd aaa
 cases sa with
 | none=>
  have hsc:=Fx rfl;subst hsc;have Uh:sn=0:=aG
  subst Uh;have hx:=bQ rV.symm;subst hx;cases css with
  | cons c css=>exact k1.elim
  | nil=>
   have uV:=run_append_nil (P:=P) w t ty e i z ht hi hz yb yn yc Fw.flatten (by rw[m3.Ju,Ov]) m4 aG aG (by
    have:(0+ys.length)*i.bytes<=140737488355328:=abu
    rw[bM,<-Ov]at this;omega)
   obtain⟨g1,g2⟩:=key yn 0 aaa _ rfl;exact⟨_,_,uV,by simpa using g1,by simpa using g2,rfl⟩
 | some b=>
  have uV:=run_append_grow (P:=P) w t ty e i z ht hi hz b sn sc css.flatten (by rw[k1.Ju,rV]) (k2 b rfl) yb yn yc Fw.flatten (by rw[m3.Ju,Ov]) m4 qB aG (growslice_fits qB (by rw[rV,Ov];exact hm));obtain⟨g1,g2⟩:=key _ sc rfl _ rfl;exact⟨_,_,uV,g1,g2,rfl⟩
theorem P0(ht:P.underlying t=some (.slice e))(hi:P.info? e=some i)(qA:i.size=size)
  (hr:r.Ok) {g} {css} {tail} (ha:s.a=some ⟨g,0,none⟩) (hB:B<=g) (hb:Blk w g e (css.flatten++tail)) (tT:tail.length=(s.c-s.n)*size) (hn:s.n=xs.length) (hc:s.n<=s.c) (Td:s.c<=9223372036854775807)
  (hE:lO r size w (λk=>F k/\k≠g) xs css) (hy:SliceF r size w (λk=>F k/\k≠g) y ys) (qB:s.n+y.n<=s.c):
  ∃w',(Builtin.append_ #[t,t] ty #[s.v,y.v]).run P w=.ok (Sl.v ⟨s.a,s.n+y.n,s.c⟩) w'/\Own r size e B w' F ⟨s.a,s.n+y.n,s.c⟩ (xs++ys)/\Only [g] w w':=by
 subst qA;have Ov:=hy.len;obtain⟨sa,sn,sc⟩:=s;obtain⟨ya,yn,yc⟩:=y;dsimp only at ha hn hc tT qB Ov;subst ha;obtain⟨Fw,m3,m4⟩:=hy.agh;have pJ:css.flatten.length=sn*i.size:=by rw[hE.Ju,hn]
 have yL:Fw.flatten.length=yn*i.size:=by rw[m3.Ju,Ov]
 have kB:sn*i.size+yn*i.size<=sn*i.size+tail.length:=by
  rw[tT,<-eM,<-eM];exact jo _ aG
 have uV:(Builtin.append_ #[t,t] ty #[.slice (some ⟨g,0,none⟩) sn sc,.slice ya yn yc]).run P w=
   .ok (.slice (some ⟨g,0,none⟩) (sn+yn) sc) (w.setRow g ((css.flatten++Fw.flatten)++tail.drop (yn*i.size)).toArray):=by
  have yM:((css.flatten++tail).toArray.toList.take (sn*i.size)++Fw.flatten++(css.flatten++tail).toArray.toList.drop (sn*i.size+Fw.flatten.length))=(css.flatten++Fw.flatten)++tail.drop (yn*i.size):=by
   rw[iw,<-pJ,List.take_left,yL,List.drop_append];rw[oJ aG,cE,ez]
  cases ya with
  | some ya=>
   have:=run_append_room (P:=P) w t ty e i ht hi g sn sc (css.flatten++tail).toArray hb ya yn yc Fw.flatten yL (m4 ya rfl) (m3.one hr) qB (by
    rw[eJ,aW,yL,pJ];exact kB)
   rw[this,yM]
  | none=>
   have hyx:ys=[]:=by
    cases ys with
    | nil=>rfl
    | cons x xs=>obtain⟨_,_,h,_⟩:=hy.at_ 0 x rfl;cases h
   subst hyx;have Yu:=by simpa using Ov
   subst Yu;cases Fw with
   | cons c cs=>exact m3.elim
   | nil=>
    have uv:w.setRow g ((css.flatten++([]).flatten)++tail.drop (0*i.size)).toArray=w:=by
     have:=setRow_self w g (css.flatten++tail).toArray e (0,0) hb;simpa using this
    rw[uv];simp[Builtin.append_,run_underlying ht,sizeOf,typeInfo,hi,Builtin.lenOf,Builtin.firstCells,hc,storeCells]
 have hO:Only [g] w (w.setRow g ((css.flatten++Fw.flatten)++tail.drop (yn*i.size)).toArray):=Only.setRow _ _ _;refine⟨_,uV,.inr ⟨g,css++Fw,tail.drop (yn*i.size),rfl,hB,?_,?_,?_,qB,Td,?_⟩,hO⟩
 ·rw[Fl];exact hb.setRow _
 ·rw[cM,tT,<-Nat.sub_mul];congr 1;dsimp only;omega
 ·dsimp only;rw[aW];omega
 exact lO.keep hr (gu.zm hE m3) λk hk cd=>hO.block k cd adb
theorem vg(ht:P.underlying t=some (.slice e))(hi:P.info? e=some i)(hz:i.zero=some z)(qA:i.size=size)(Wv:i.bytes=bytes)(Ou:z.cells.size=size)
  (hr:r.Ok) (hs:Own r size e B w F s xs) (hy:SliceF r size w (λk=>F k/\s.a≠some ⟨k,0,none⟩) y ys) (hB:B<=w.heap.size) (hm:(xs.length+ys.length)*bytes<=140737488355328) (yK:0<bytes):
  ∃s' w',(Builtin.append_ #[t,t] ty #[s.v,y.v]).run P w=.ok s'.v w'/\Own r size e B w' F s' (xs++ys)/\∃gs,Only gs w w'/\(∀g,g∈gs->s.a=some ⟨g,0,none⟩/\B<=g/\g<w.heap.size)/\(s'.a=s.a∨s'.a=some ⟨w.heap.size,0,none⟩):=by
 by_cases qB:s.n+y.n<=s.c
 ·rcases hs with⟨rfl,rfl⟩ | ⟨g,css,tail,h1,h2,h4,h5,h6,h7,h9,h8⟩
  ·have Yu:y.n=0:=by simpa using qB
   have hyx:ys=[]:=by have:=hy.len;rw[Yu]at this;exact bQ this.symm
   subst hyx;refine⟨Sl.nil,w,?_,.inl ⟨rfl,rfl⟩,[],Only.refl _ _,aaa,.inl rfl⟩;obtain⟨ya,yn,yc⟩:=y;dsimp only at Yu;subst Yu;cases ya<;>simp[Builtin.append_,run_underlying ht,sizeOf,typeInfo,hi,Builtin.lenOf,Builtin.firstCells,loadCells,loadCellsFrom]
  obtain⟨w',k1,k2,k3⟩:=P0 (ty:=ty) ht hi qA hr h1 h2 h4 h5 h6 h7 h9 h8 (hy.mono hr λk hk=>⟨hk.1,λh=>hk.2 (by rw[h,h1])⟩) qB;exact⟨_,w',k1,k2,[g],k3,λg' yt=>by simp at yt;subst yt;exact⟨h1,h2,h4.lt⟩,.inl rfl⟩
 have rV:=hs.len;have hsc:=hs.cap;have hy':SliceF r size w F y ys:=hy.mono hr λk hk=>hk.1;have go:∀css,lO r size w F xs css->(∀base,s.a=some base->Cells w base css.flatten)->(s.a=none->s.c=0)->
   ∃s' w',(Builtin.append_ #[t,t] ty #[s.v,y.v]).run P w=.ok s'.v w'/\Own r size e B w' F s' (xs++ys)/\∃gs,Only gs w w'/\(∀g,g∈gs->s.a=some ⟨g,0,none⟩/\B<=g/\g<w.heap.size)/\(s'.a=s.a∨s'.a=some ⟨w.heap.size,0,none⟩):=by
  intro css k1 k2 k3;obtain⟨s',w',g1,g2,g3,g4⟩:=Ni (ty:=ty) ht hi hz qA Wv Ou hr k1 k2 k3 rV hsc hy' aG hm yK;exact⟨s',w',g1,g2.low hB,[],g3,aaa,.inr g4⟩
 rcases hs with⟨rfl,rfl⟩ | ⟨g,css,tail,h1,h2,h4,h5,h6,h7,h9,h8⟩
 ·exact go [] trivial (λ_ h=>aaH) (λ_=>rfl)
 refine go css (h8.mono hr λk hk=>hk.1) (λbase hb=>?_) (λh=>by rw[h1]at h;cases h);rw[h1]at hb;injection hb with hb;subst hb;exact h4.cells 0 _ λj v hj=>by
  rw[bM,bK (be.1 hj).1];exact hj
theorem kP(ht:P.underlying t=some (.slice e))(hi:P.info? e=some i)(hz:i.zero=some z)(qA:i.size=size)(h0:0<size){vs:List az}{len}{parts}
  (hp:parts=((vs.zipIdx 0).map λx=>(x.2,x.1)).toArray) (hl:vs.length=len) (Yv:0<len) (BU:len*size<=16777216)
  (hr:r.Ok) (hE:lO r size w F xs (vs.map λv=>v.cells.toList)):
  ∃s w',(Instr.buildSlice t len parts).run P w=.ok (Sl.v s) w'/\Own r size e w.heap.size w' F s xs/\Only [] w w'/\s.a=some ⟨w.heap.size,0,none⟩/\s.n=xs.length/\s.c=xs.length:=by
 subst qA;subst hp;subst hl;have JB:=by have:=hE.len;rwa[bA]at this
 have hsz:=λv hv=>by
  have:=hE.sz _ (cP.2 ⟨v,hv,rfl⟩);simpa using this
 have uV:=run_buildSlice (P:=P) w t e vs.length ((vs.zipIdx 0).map λx=>_).toArray (vs.flatMap λv=>v.cells.toList).toArray i z ht hi hz aG
  (by have:=Nat.mul_lt_mul_of_pos_left h0 Yv;omega)
  (by rw[iw];exact Go.Great.fill_whole h0 vs _ hsz aaa)
 have hO:Only [] w (w.alloc (.cells (vs.flatMap λv=>v.cells.toList).toArray e)):=Only.alloc _ _;refine⟨⟨some _,vs.length,vs.length⟩,_,uV,.inr ⟨w.heap.size,vs.map (λv=>v.cells.toList),[],rfl,ba _,?_,aaa,JB.symm,ba _,?_,?_⟩,hO,rfl,JB.symm,JB.symm⟩
 ·rw[bS,List.flatMap_def.symm.trans rfl];exact Blk.alloc w e _
 ·have:vs.length<=vs.length*i.size:=Nat.le_mul_of_pos_right _ h0;dsimp only;omega
 exact((lO.mono hr (lO.inHeap hr hE) (G:=λk=>F k/\k≠w.heap.size) λk h=>⟨h.1,by have:=h.2;omega⟩)).keep hr λk hk cd=>hO.block k cd aaa
end
end
def jq:Rp UInt8:=λ_ _ b cs=>cs=[gn b]
theorem vh:jq.Ok where
 keep h _:=h
 inHeap h:=h
 mono h _:=h
 one h v hv:=by
  rw[show _=[gn _]from h]at hv;simp at hv;subst hv;rfl
theorem BytesF.slice{w}{F}{s}{l}(h:BytesF w F s l)(h0:s.a=none->s.c=0)(hb:s.c<=9223372036854775807):SliceF jq 1 w F s l:=
 ⟨h.rd.1,h.cap,h0,hb,λj x hx=>by
  have hl:l≠[]:=λe=>by rw[e]at hx;simp at hx
  obtain⟨ad,h1,h2⟩:=h.rd.2 hl;exact⟨ad,[gn x],h1,h.blk ad h1 hl,rfl,by rw[ka];exact h2.eE j _ adO,rfl⟩⟩
theorem SliceF.bytes{w}{F}{s}{l}(h:SliceF jq 1 w F s l):BytesF w F s l:=
 ⟨⟨h.len,λhl=>by
  obtain⟨base,css,h1,h2,h3,h4⟩:=h.flat hl;refine⟨base,h1,?_⟩;have:∀l css,lO jq 1 w F l css->css.flatten=l.map gn:=by
   intro l
   induction l with
   | nil=>intro css h;cases css with
    | nil=>rfl
    | cons c cs=>exact h.elim
   | cons b l ih=>intro css h;cases css with
    | nil=>exact h.elim
    | cons c cs=>
     obtain⟨⟨_,h1⟩,h2⟩:=h;rw[dy,ih cs h2,show c=[gn b]from h1];rfl
  rw[<-this l css h3];exact h4⟩,h.cap,λad ha hl=>by
   obtain⟨base,css,h1,h2,_⟩:=h.flat hl;rw[ha]at h1;injection h1 with h1;rw[h1];exact h2⟩
theorem lO.bytes{w}{F G}{l}{css}(h:lO jq 1 w F l css):lO jq 1 w G l css:=gu.imp (λ_ _ h=>h) h
theorem Own.bytes{w}{F G}{e}{B}{s}{l}(h:Own jq 1 e B w F s l):Own jq 1 e B w G s l:=by
 rcases h with h | ⟨g,css,tail,h1,h2,h4,h5,h6,h7,h9,h8⟩
 ·exact .inl h
 exact .inr ⟨g,css,tail,h1,h2,h4,h5,h6,h7,h9,lO.bytes h8⟩
def rInt:Rp Int:=λ_ _ x cs=>cs=[.int .i64 x]/\InI x
theorem bN:rInt.Ok where
 keep h _:=h
 inHeap h:=h
 mono h _:=h
 one h v hv:=by
  rw[h.1]at hv;simp at hv;subst hv;rfl
structure OnlyP (F:Nat->Prop) (w w':ay):Prop where
 os:w'.os=w.os
 tape:w'.tape=w.tape
 output:w'.output=w.output
 size:w.heap.size<=w'.heap.size
 block:∀k,k<w.heap.size->¬F k->w'.heap[k]? =w.heap[k]?
section
variable {w w' tt:ay} {F G:Nat->Prop} {bs:List Nat}
theorem Only.p(h:Only bs w w')(hb:∀b,b∈bs->F b∨w.heap.size<=b):OnlyP F w w':=
 ⟨h.os,h.tape,h.output,h.size,λk hk hn=>h.block k hk λhm=>(hb k hm).elim hn λh=>aG⟩
theorem Only.p0(h:Only [] w w'):OnlyP F w w':=h.p aaa
theorem OnlyP.refl F w:OnlyP F w w:=(Only.refl [] w).p0
theorem OnlyP.mono(h:OnlyP F w w')(hb:∀k,k<w.heap.size->F k->G k):OnlyP G w w':=⟨h.os,h.tape,h.output,h.size,λk hk hn=>h.block k hk λhf=>hn (hb k hk hf)⟩
theorem OnlyP.trans(h:OnlyP F w w')(k:OnlyP G w' tt)(hb:∀k,G k->F k∨w.heap.size<=k):OnlyP F w tt:=
 ⟨k.os.trans h.os,k.tape.trans h.tape,k.output.trans h.output,bf h.size k.size,λi hi hn=>
  (k.block i (cq hi h.size) λhg=>(hb i hg).elim hn λh=>aG).trans (h.block i hi hn)⟩
theorem OnlyP.cy(h:OnlyP F w w')(k:Only [] w' tt):OnlyP F w tt:=h.trans (k.p0 (F:=λ_=>False)) λ_ h=>h.elim
theorem Only.oH(h:Only [] w w')(k:OnlyP F w' tt):OnlyP F w tt:=(h.p0 (F:=F)).trans k λ_ h=>.inl h
theorem OnlyP.only(h:OnlyP F w w')(hb:∀k,F k->w.heap.size<=k):Only [] w w':=
 ⟨h.os,h.tape,h.output,h.size,λk hk _=>h.block k hk λhf=>by have:=hb k hf;omega⟩
theorem OnlyP.agi(h:OnlyP F w w')(hb:∀k,F k->k∈bs∨w.heap.size<=k):Only bs w w':=
 ⟨h.os,h.tape,h.output,h.size,λk hk hn=>h.block k hk λhf=>(hb k hf).elim hn λh=>aG⟩
theorem OnlyP.same(h:OnlyP F w w')(hl:∀x,x∈bs->x<w.heap.size/\¬F x):cj bs w w':=λx hx=>h.block x (hl x hx).1 (hl x hx).2
theorem OnlyP.blk(h:OnlyP F w w'){b}{t}{cs}(hb:Blk w b t cs)(hn:¬F b):Blk w' b t cs:=(h.block b hb.lt hn).trans hb
end
section
variable {α:Type} {r:Rp α} {size:Nat} {w w':ay} {F G:Nat->Prop} {s:Sl} {xs:List α} {e:TypeId} {B:Nat} {bs:List Nat}
theorem SliceF.only(hr:r.Ok)(h0:0<size)(h:SliceF r size w F s xs)(hO:Only bs w w')(hb:∀k,F k->k<w.heap.size->k∉bs):SliceF r size w' F s xs:=
 h.keep hr h0 λk hF cd=>hO.block k cd (hb k hF cd)
theorem SliceF.nH(hr:r.Ok)(h0:0<size)(h:SliceF r size w F s xs)(hO:OnlyP G w w')(hb:∀k,F k->k<w.heap.size->¬G k):SliceF r size w' F s xs:=
 h.keep hr h0 λk hF cd=>hO.block k cd (hb k hF cd)
theorem Rp.Ok.only(hr:r.Ok){x}{cs}(h:r w F x cs)(hO:Only bs w w')(hb:∀k,F k->k<w.heap.size->k∉bs):r w' F x cs:=hr.keep h λk hF cd=>hO.block k cd (hb k hF cd)
theorem Zj{s}(h:SliceF r size w F s xs)(ha:s.a=none):xs=[]:=by
 have h0:=h.nil0 ha;have h1:=h.cap;have h2:=h.len;exact bQ aG
theorem lO.at(h:∃css,lO r size w F xs css):True:=trivial
theorem lO.setAt{css}(h:lO r size w F xs css) j {x} {c} (hc:c.length=size) (hx:r w F x c):lO r size w F (xs.set j x) (css.set j c):=gu.set j h ⟨hc,hx⟩
theorem FN{css:List _}{tail}:∀{n:Nat} {cs vs:List az},(∀c,c∈css->c.length=size)->css[n]? =some cs->vs.length=size->
  cx (css.flatten++tail) (n*size) vs=(css.set n vs).flatten++tail:=by
 induction css with
 | nil=>intro n cs vs _ h;simp at h
 | cons c css ih=>
  intro n cs vs hs hn hv;have hc:=hs c aaa;cases n with
  | zero=>
   simp[cx,yT,da,cE,bM,List.set_cons_zero,dy,bR,hv];rw[<-hc,List.drop_left]
  | succ n=>
   have:=ih (λd hd=>hs d (by simp[hd])) hn hv;have e:(n+1)*size=c.length+n*size:=by rw[eM,hc];omega
   simp only[cx]at this⊢;simp;rw[e,Ux,eU,Uy,<-this];simp
end
section
variable {α:Type} {r:Rp α} {size:Nat} {w w':ay} {F G:Nat->Prop} {s:Sl} {xs:List α} {e:TypeId} {B:Nat} {P:Program} {t ty:TypeId} {i:TypeInfo} {z v:az} {bytes:Nat} {x:α}
theorem jr(ht:P.underlying t=some (.slice e))(hi:P.info? e=some i)(hz:i.zero=some z)(qA:i.size=size)(Wv:i.bytes=bytes)(Ou:z.cells.size=size)(h0:0<size)(yK:0<bytes)(BU:1*size<=16777216)
  (hr:r.Ok) (hs:Own r size e B w F s xs) (hB:B<=w.heap.size) (hv:v.cells.toList.length=size) (hx:r w G x v.cells.toList) (hG:∀k,G k->k<w.heap.size->F k/\s.a≠some ⟨k,0,none⟩) (hm:(xs.length+1)*bytes<=140737488355328):
  ∃y w1,(Instr.buildSlice t 1 #[(0,v)]).run P w=.ok (Sl.v y) w1/\Only [] w w1/\∃s' w2,(Builtin.append_ #[t,t] ty #[Sl.v s,Sl.v y]).run P w1=.ok (Sl.v s') w2/\
   Own r size e B w2 (λk=>F k∨w.heap.size<=k) s' (xs++[x])/\(∃gs,Only gs w1 w2/\∀g,g∈gs->s.a=some ⟨g,0,none⟩/\B<=g/\g<w.heap.size)/\(s'.a=s.a∨∃g,s'.a=some ⟨g,0,none⟩/\w.heap.size<=g):=by
 obtain⟨y,w1,k1,k2,k3,k4,k5,k6⟩:=kP (P:=P) (t:=t) (e:=e) (i:=i) (z:=z) (w:=w) (F:=λk=>G k/\k<w.heap.size) (vs:=[v]) (parts:=#[_]) (len:=1) (xs:=[x]) (r:=r) (size:=size) ht hi hz qA h0 rfl rfl aN BU hr ⟨⟨hv,hr.inHeap hx⟩,trivial⟩;have u7:Own r size e B w1 (λk=>F k∨w.heap.size<=k) s xs:=((hs.inHeap hr).keep hr λk _ cd=>k3.block k cd aaa).mono hr λk hk=>.inl hk.1;have hy:=(k2.slice hr).mono hr (G:=λk=>(F k∨w.heap.size<=k)/\s.a≠some _) λk hk=>by
  rcases hk with⟨hk,cd⟩ | ⟨hk,_⟩
  ·exact⟨.inl (hG k hk cd).1,(hG k hk cd).2⟩
  exact⟨.inr hk,λha=>by have:=(hs.blk ha).2;dsimp only at this;omega⟩
 obtain⟨s',w2,g1,g2,gs,g3,g4,g5⟩:=vg (ty:=ty) ht hi hz qA Wv Ou hr u7 hy (bf hB k3.size) hm yK;refine⟨y,w1,k1,k3,s',w2,g1,g2,⟨gs,g3,λg hg=>⟨(g4 g hg).1,(g4 g hg).2.1,(hs.blk (g4 g hg).1).2⟩⟩,?_⟩;rcases g5 with h | h
 ·exact .inl h
 exact .inr ⟨_,h,k3.size⟩
theorem Own.store(hr:r.Ok)(hs:Own r size e B w F s xs){n}(hn:n<xs.length){x}{vs}(hv:vs.length=size)(hx:r w G x vs)(hG:∀k,G k->k<w.heap.size->F k/\s.a≠some ⟨k,0,none⟩)(h0:0<size):
  ∃g cells,s.a=some ⟨g,0,none⟩/\dI s n size ⟨g,n*size,none⟩/\Blk w g e cells/\n*size+size<=cells.length/\
   ∀w',Only [g] w w'->Blk w' g e (cx cells (n*size) vs)->Own r size e B w' F s (xs.set n x):=by
 rcases hs with⟨rfl,rfl⟩ | ⟨g,css,tail,h1,h2,h4,h5,h6,h7,h9,h8⟩
 ·simp at hn
 have pJ:=h8.len;have hcn:n<css.length:=aG
 have MQ:=pR h8.sz;have kB:=by
  have:=jo size (show n+1<=css.length by omega);rw[eM]at this;omega
 refine⟨g,_,h1,⟨_,h1,aG,aG,by rw[fI,aV,bM]⟩,h4,abJ,λw' hO hb=>.inr ⟨g,css.set n vs,tail,h1,h2,?_,h5,by rw[iq];exact h6,h7,h9,?_⟩⟩
 ·rw[FN h8.sz (aQ hcn) hv]at hb;exact hb
 refine lO.setAt (h8.keep hr λk hk cd=>hO.block k cd adb) n hv (hr.keep (w:=w) (F:=λk=>F k/\k≠g) ?_ λk hk cd=>hO.block k cd adb);refine hr.mono (hr.inHeap hx) λk hk=>?_;obtain⟨p1,p2⟩:=hG k hk.1 hk.2;exact⟨p1,λe=>p2 (by rw[h1,e])⟩
end
theorem Own.amN{α}{r}{size}{w}{F}{s}{xs}{e}{B}(hr:r.Ok)(hs:Own r size e B w F s xs){n:Nat}{x:α}(hx:xs[n]? =some x):
  ∃g cells cs,s.a=some ⟨g,0,none⟩/\dI s n size ⟨g,n*size,none⟩/\Blk w g e cells/\cs.length=size/\Cells w ⟨g,n*size,none⟩ cs/\r w (λk=>F k/\k≠g) x cs/\
   ∀off v y G,off<size->r w G y (cs.set off v)->(∀k,G k->k<w.heap.size->F k/\k≠g)->
    n*size+off+1<=cells.length/\∀w',Only [g] w w'->Blk w' g e (cx cells (n*size+off) [v])->Own r size e B w' F s (xs.set n y):=by
 rcases hs with⟨rfl,rfl⟩ | ⟨g,css,tail,h1,h2,h4,h5,h6,h7,h9,h8⟩
 ·simp at hx
 obtain⟨cs,k1,k2,k3⟩:=h8.get hx;have pJ:=h8.len;have hn:=(be.1 hx).1;have MQ:=pR h8.sz;have kB:=by
  have:=jo size (show n+1<=css.length by omega);rw[eM]at this;omega
 refine⟨g,_,cs,h1,⟨_,h1,aG,aG,by rw[fI,aV,bM]⟩,h4,k2,h4.cells _ _ λj v hj=>?_,k3,λoff v y G ho hy hG=>⟨abJ,λw' hO hb=>.inr ⟨g,css.set n (cs.set off v),tail,h1,h2,?_,h5,by rw[iq];exact h6,h7,h9,?_⟩⟩⟩
 ·have:=Dv h8.sz k1 hj;rw[bK (be.1 this).1];exact this
 ·rw[Iu abJ,FM h8.sz k1 ho]at hb;exact hb
 refine lO.setAt (h8.keep hr λk hk cd=>hO.block k cd adb) n (by rw[iq];exact k2) ?_;refine hr.mono (hr.keep (hr.inHeap hy) λk hk cd=>hO.block k cd (by simpa using(hG k hk.1 hk.2).2)) λk hk=>hG k hk.1 hk.2
theorem gu.agj{α β}{P}{f:α->β}:∀{xs:List α} {css:List _},gu P (xs.map f) css↔gu (λx cs=>P (f x) cs) xs css
 | [],[]=>J9
 | x::xs,c::cs=>by simp[bG,gu,gu.agj (xs:=xs) (css:=cs)]
 | [],_::_=>J9
 | _::_,[]=>J9
theorem gu.Wf{α}{P Q}:∀{xs:List α} {css:List _},(∀x c,x∈xs->P x c->Q x c)->gu P xs css->gu Q xs css
 | [],[],_,_=>trivial
 | x::xs,c::cs,hi,h=>⟨hi _ _ aaa h.1,gu.Wf (xs:=xs) (css:=cs) (λy d hy=>hi y d (by simp[hy])) h.2⟩
 | [],_::_,_,h=>h.elim
 | _::_,[],_,h=>h.elim
theorem Own.map{α β}{r:Rp α}{q:Rp β}{size}{w}{F G}{s}{xs}{e}{B} f (h:Own r size e B w F s xs) (hf:∀g x cs,x∈xs->r w (λk=>F k/\k≠g) x cs->q w (λk=>G k/\k≠g) (f x) cs):Own q size e B w G s (xs.map f):=by
 rcases h with⟨rfl,rfl⟩ | ⟨g,css,tail,h1,h2,h4,h5,h6,h7,h9,h8⟩
 ·exact .inl ⟨rfl,rfl⟩
 exact .inr ⟨g,css,tail,h1,h2,h4,h5,by rw[bA];exact h6,h7,h9,gu.agj.2 (gu.Wf (λx c hx hc=>⟨hc.1,hf g x c hx hc.2⟩) h8)⟩
section
variable {P:Program} {w:ay}
theorem BH{z}(hz:∀v,v∈z->v.oneCell'=true)(h0:0<z.size) n:∀v,v∈(Builtin.zeroCells z n).toList->v.oneCell'=true:=λv hv=>by
 have hv':=adG
 simp[Builtin.zeroCells,Array.mem_map,Array.mem_range]at hv';obtain⟨i,hi,rfl⟩:=hv';have cd:i % z.size<z.size:=Nat.mod_lt _ h0;rw[oK z _ cd];exact hz _ (Array.getElem_mem cd)
theorem BI{t e ty}{z}(ht:P.underlying t=some (.slice e))(hv:∀w,(zeroValue e).run P w=.ok z w)(h1:∀v,v∈z.cells->v.oneCell'=true)(Ww:0<z.cells.size){g o n c}{bt}{cs}(hn:0<n)
  (hb:Blk w g bt cs) (E4:o+n*z.cells.size<=cs.length):
  (Builtin.clear_ #[t] ty #[.slice (some ⟨g,o,none⟩) n c]).run P w=.ok (.tuple #[]) (w.setRow g (cs.take o++(Builtin.zeroCells z.cells n).toList++cs.drop (o+n*z.cells.size)).toArray):=by
 have hl:(Builtin.zeroCells z.cells n).toList.length=n*z.cells.size:=by rw[fk,size_zeroCells]
 have nS:=run_storeCells_at P g o bt (Builtin.zeroCells z.cells n).toList 0 cs.toArray w hb (by rw[hl];simpa using E4) (BH h1 Ww n);simp[fE,hl,iw]at nS;obtain⟨m,rfl⟩:∃m,n=m+1:=⟨n-1,aG⟩
 simp[Builtin.clear_,run_underlying ht,hv,nS]
theorem Own.clear{α}{r:Rp α}{size}{F}{s}{xs}{e}{B}{t ty}{z}(hr:r.Ok)(h0:0<size)(ht:P.underlying t=some (.slice e))(hv:∀w,(zeroValue e).run P w=.ok z w)(h1:∀v,v∈z.cells->v.oneCell'=true)(Ou:z.cells.size=size)
  (hs:Own r size e B w F s xs) {i} (hi:i<xs.length):
  ∃w' g,(Builtin.clear_ #[t] ty #[Sl.v (Sl.cut s i s.n s.c size)]).run P w=.ok (.tuple #[]) w'/\s.a=some ⟨g,0,none⟩/\Only [g] w w'/\Own r size e B w' F (Sl.cut s 0 i s.c size) (xs.take i):=by
 rcases hs with⟨rfl,rfl⟩ | ⟨g,css,tail,a1,a2,a4,a5,a6,a7,a9,a8⟩
 ·simp at hi
 obtain⟨sa,sn,sc⟩:=s;dsimp only at a1 a5 a6 a7 a9;subst a1;have MQ:=a8.Ju;have JC:Sl.cut ⟨some ⟨g,0,none⟩,sn,sc⟩ i sn sc size=⟨some ⟨g,i*size,none⟩,sn-i,sc-i⟩:=by
  simp[Sl.cut];rw[aX aG];simp[dz,fI,bM]
 have e1:i*size+(sn-i)*size=sn*size:=by rw[<-eM];congr 1;omega
 have hO:=Only.setRow w g (((css.flatten++tail).take (i*size)++(Builtin.zeroCells z.cells (sn-i)).toList++(css.flatten++tail).drop (i*size+(sn-i)*z.cells.size)).toArray);refine⟨_,g,by rw[JC];exact BI (P:=P) (w:=w) (t:=t) (ty:=ty) ht hv h1 aG (g:=g) (o:=i*size) (n:=sn-i) (c:=sc-i) aG a4 (by rw[Ou,e1,aW,MQ,a6];omega),rfl,hO,?_⟩;have agy:Sl.cut ⟨some ⟨g,0,none⟩,sn,sc⟩ 0 i sc size=⟨some ⟨g,0,none⟩,i,sc⟩:=by
  simp only[Sl.cut];split<;>simp[Addr.add]
 rw[agy];have nI:(css.flatten++tail).take (i*size)=(css.take i).flatten:=by
  rw[PJ (by rw[MQ,<-a6];exact jo _ aG),Nh a8.sz]
 refine .inr ⟨g,css.take i,(Builtin.zeroCells z.cells (sn-i)).toList++(css.flatten++tail).drop (i*size+(sn-i)*z.cells.size),rfl,a2,?_,?_,?_,abh,a9,?_⟩
 ·have:=a4.setRow ((css.flatten++tail).take (i*size)++(Builtin.zeroCells z.cells (sn-i)).toList++(css.flatten++tail).drop (i*size+(sn-i)*z.cells.size));rw[bR,nI]at this;rw[nI];simpa using this
 ·simp only[aW,cM,MQ,<-a6,fk,size_zeroCells,a5,Ou,e1];rw[ez,<-eM];congr 1;omega
 ·rw[cK];dsimp only;omega
 refine lO.keep hr (gu.take i a8) λk hk cd=>hO.block k cd adb
end
theorem Xj l m:((⟨List.toArray l⟩:ByteArray).toList==(⟨List.toArray m⟩:ByteArray).toList)=decide (l=m):=by
 by_cases h:l=m<;>simp[h]
end Go.Kt
namespace Go.Kt
open Go renaming World->ay,Value->az
open Go Go.RowKit Go.MapKept
structure MapI (w:ay) (r:Nat) (m:Int->Option Int):Prop where
 mem:∃es clock,w.heap[r]? =some (.map es clock)/\(∀x,x∈es.toList->∃k v,x.key=.int .i64 k/\x.val=.int .i64 v)/\es.toList.Pairwise (λx y=>x.key≠y.key)/\
  ∀k v,m k=some v↔∃x,x∈es.toList/\x.key=.int .i64 k/\x.val=.int .i64 v
section
variable {P:Program} {w w':ay} {r:Nat} {m:Int->Option Int} {mty kt et:TypeId}
theorem MapI.keep(h:MapI w r m)(hk:w'.heap[r]? =w.heap[r]?):MapI w' r m:=by
 obtain⟨es,c,h1,h2⟩:=h.mem;exact⟨es,c,hk.trans h1,h2⟩
theorem MapI.lt(h:MapI w r m):r<w.heap.size:=by
 obtain⟨es,c,h1,h2⟩:=h.mem;exact(ga.1 h1).1
theorem MapI.only(h:MapI w r m){bs}(hO:Only bs w w')(hn:r∉bs):MapI w' r m:=h.keep (hO.block r h.lt hn)
theorem vi{w}{r}{o o'}(hb:w.heap[r]? =some o):Only [r] w {w with heap:=w.heap.setIfInBounds r o'}:=
 ⟨rfl,rfl,rfl,aaa,λk _ hn=>(heap_set hb).2 k acq⟩
theorem Iv{α:Type}{l:List α}{j}{f}{e}(h:l[j]? =some e):l.modify j f=l.set j (f e):=by
 apply gf;intro i;rw[List.getElem?_modify,Ka];by_cases rO:j=i
 ·subst rO;rw[aZ rfl,aZ (be.1 h).1,h];simp
 cases l[i]? <;>simp[rO]
end
end Go.Kt
namespace Go.Kt
open Go renaming World->ay,Value->az
open Go Go.RowKit
@[reducible] def T(l:List UInt8):ByteArray:=⟨l.toArray⟩
theorem zL(s:ByteArray):s=T s.data.toList:=by
 obtain⟨⟨l⟩⟩:=s;rfl
theorem dP(l:List UInt8):(T l).size=l.length:=by simp[T,ByteArray.size]
theorem xW(l:List UInt8)(i:Nat):(T l)[i]? =l[i]? :=by
 by_cases h:i<l.length
 ·rw[aQ h,getElem?_pos (T l) i (by rw[dP];exact h)];rfl
 rw[cF aG,getElem?_neg (T l) i (by rw[dP];exact h)]
theorem zM(l:List UInt8)(a b:Nat):(T l).extract a b=T ((l.drop a).take (b-a)):=by
 rw[zL ((T l).extract a b),Lib.extract_data]
theorem lG(l m:List UInt8):T l++T m=T (l++m):=by
 apply ByteArray.ext;simp[T]
theorem mE(l m:List UInt8):((T l).toList==(T m).toList)=decide (l=m):=Xj l m
def rY(us:Nat->az):List (Nat×az)->Nat->az
 | [],i=>us i
 | (k,v)::r,i=>bif Nat.beq k i then v else rY us r i
def pS:List (Nat×az)->Nat->Option az
 | [],_=>none
 | (k,v)::r,i=>bif Nat.beq k i then some v else pS r i
def UE(us:Nat->az)(l:List (Nat×az)):Nat->Nat->List az
 | 0,_=>[]
 | n+1,i=>rY us l i::UE us l n (i+1)
def fr(n:Nat)(us:Nat->az)(l:List (Nat×az)):Act:=⟨(UE us l n 0).toArray,[]⟩
def evO(n:Nat)(l:List (Nat×az)):Operand->Option az
 | .tmp k=>bif Nat.blt k n then pS l k else none
 | .const v=>some v
 | .global g=>some (.pointer (some ⟨g,0,none⟩))
 | .func f=>some (.func (.func f) #[] #[])
def Dw(n:Nat)(l:List (Nat×az)):List Operand->Option (List az)
 | []=>some []
 | x::r=>match evO n l x,Dw n l r with
  | some v,some vs=>some (v::vs)
  | _,_=>none
def pl:Option Tmp->az->List (Nat×az)->List (Nat×az)
 | some k,v,l=>(k,v)::l
 | none,_,l=>l
def zN:Nat->List az->List (Nat×az)
 | _,[]=>[]
 | i,v::r=>(i,v)::zN (i+1) r
def UF(l:List (Nat×az)):List (Nat×az)->Prop
 | []=>True
 | (k,v)::r=>pS l k=some v/\UF l r
section
variable {n0:Nat} {us0:Nat->az} {l0:List (Nat×az)}
theorem kx(us:Nat->az)(l:List (Nat×az)):∀n i,(UE us l n i).length=n
 | 0,_=>rfl
 | n+1,i=>by simp only[UE,bp,kx us l n (i+1)]
theorem jP(us:Nat->az)(l:List (Nat×az)):∀n i k,k<n->(UE us l n i)[k]? =some (rY us l (i+k))
 | 0,_,_,h=>aG
 | n+1,i,0,_=>rfl
 | n+1,i,k+1,h=>by
  simp only[UE,dl];rw[jP us l n (i+1) k aG,show i+1+k=i+(k+1) by omega]
theorem oW{us:Nat->az}:∀{l:List (Nat×az)} {k:Nat} {v:az},pS l k=some v->rY us l k=v
 | [],_,_,h=>aaH
 | (j,u)::r,k,v,h=>by
  simp only[pS,rY]at h⊢;cases hb:Nat.beq j k with
  | true=>rw[hb]at h;simpa using h
  | false=>rw[hb]at h;exact oW (l:=r) abi
theorem yV{us:Nat->az}:∀{l:List (Nat×az)} {k:Nat},pS l k=none->rY us l k=us k
 | [],_,_=>rfl
 | (j,u)::r,k,h=>by
  simp only[pS,rY]at h⊢;cases hb:Nat.beq j k with
  | true=>rw[hb]at h;simp at h
  | false=>rw[hb]at h;exact yV (l:=r) abi
theorem P1{k:Nat}(hk:k<n0):(fr n0 us0 l0).eval (.tmp k)=rY us0 l0 k:=by
 show(UE us0 l0 n0 0).toArray.getD k undef=_;rw[Array.getD_eq_getD_getElem?,iT,jP _ _ _ _ _ hk,bM];rfl
theorem uE{x:Operand}{v:az}(h:evO n0 l0 x=some v):(fr n0 us0 l0).eval x=v:=by
 cases x with
 | tmp k=>
  simp only[evO]at h;cases hb:Nat.blt k n0 with
  | false=>rw[hb]at h;cases h
  | true=>
   rw[hb]at h;rw[P1 (cG hb)];exact oW h
 | const u=>simpa[evO,Act.eval]using h
 | global g=>simpa[evO,Act.eval]using h
 | func f=>simpa[evO,Act.eval]using h
theorem evC{x:Operand}{vs:Array az}(h:(evO n0 l0 x).map Value.cells=some vs):((fr n0 us0 l0).eval x).cells=vs:=by
 cases hx:evO n0 l0 x with
 | none=>rw[hx]at h;cases h
 | some v=>rw[hx]at h;rw[uE hx];simpa using h
theorem UG:∀{xs:List Operand} {vs:List az},Dw n0 l0 xs=some vs->xs.map (fr n0 us0 l0).eval=vs
 | [],vs,h=>by simp only[Dw,bc]at h;subst h;rfl
 | x::r,vs,h=>by
  simp only[Dw]at h;split at h
  ·rename_i v us hx hr;simp only[bc]at h;subst h;rw[bG,uE hx,UG hr]
  cases h
theorem akx{xs:List Operand}{first captured args:List az}(h:(Dw n0 l0 xs).map (λys=>first++ys++captured)=some args):first++xs.map (fr n0 us0 l0).eval++captured=args:=by
 cases hx:Dw n0 l0 xs with
 | none=>rw[hx]at h;cases h
 | some v=>rw[hx]at h;rw[UG hx];simpa using h
theorem vj{us:Nat->az}{l:List (Nat×az)}{k i:Nat}{v:az}(h:k≠i):rY us ((k,v)::l) i=rY us l i:=by
 have:Nat.beq k i=false:=by
  cases hb:Nat.beq k i with
  | false=>rfl
  | true=>exact absurd (bZ hb) h
 simp only[rY,this,ui]
theorem vm{us:Nat->az}{l:List (Nat×az)}{k:Nat}{v:az}:rY us ((k,v)::l) k=v:=by
 simp only[rY,Nat.beq_refl,mj]
theorem P4{k:Nat}{v:az}:(fr n0 us0 l0).put (some k) v=fr n0 us0 ((k,v)::l0):=by
 unfold fr;rw[f0];congr 2;apply gf;intro i;rw[Ka,kx];by_cases hi:i<n0
 ·rw[jP _ _ _ _ _ hi,jP _ _ _ _ _ hi,bM];split
  ·rename_i h;subst h;rw[aZ hi,vm]
  rename_i h;rw[vj h]
 rw[cF adn,cF adn];split
 ·rename_i h;subst h;rw[aX hi]
 rfl
theorem Zk{d:Option Tmp}{v:az}:(fr n0 us0 l0).put d v=fr n0 us0 (pl d v l0):=by
 cases d with
 | none=>rfl
 | some k=>exact P4
theorem Kl:∀{l Ph:List (Nat×az)},UF l Ph->∀{k:Nat} {v:az},pS Ph k=some v->pS l k=some v
 | _,[],_,_,_,h=>aaH
 | l,(j,u)::r,hs,k,v,h=>by
  simp only[pS]at h;cases hb:Nat.beq j k with
  | true=>
   rw[hb]at h;have hk:=bZ hb;subst hk;simp only[mj,bc]at h;rw[<-h];exact hs.1
  | false=>
   rw[hb]at h;exact Kl hs.2 abi
theorem zO{Ph:List (Nat×az)}(h:UF l0 Ph):∃us,fr n0 us0 l0=fr n0 us Ph:=by
 refine⟨rY us0 l0,?_⟩;unfold fr;congr 2;apply gf;intro i;by_cases hi:i<n0
 ·rw[jP _ _ _ _ _ hi,jP _ _ _ _ _ hi,bM];cases hp:pS Ph i with
  | none=>rw[yV hp]
  | some v=>rw[oW hp,oW (Kl h hp)]
 rw[cF adn,cF adn]
theorem wN:∀(args:List az) (j i:Nat),rY (λ_=>undef) (zN j args) i=if j<=i then(args[i-j]?).getD undef else undef
 | [],j,i=>by simp[zN,rY]
 | v::r,j,i=>by
  simp only[zN];by_cases rO:j=i
  ·subst rO;rw[vm,aZ (ba _)];simp
  rw[vj rO,wN r (j+1) i];by_cases kB:j<=i
  ·rw[aZ kB,aZ aG,show i-j=(i-(j+1))+1 by omega,dl]
  rw[aX kB,aX aG]
end
section
variable {P:Program} {ops:Array Oper} {Q:Exit->Act->ay->Prop} {rest:List Oper} {w w':ay} {n0:Nat} {us0:Nat->az} {l0:List (Nat×az)}
theorem Zl{f:FuncId}{fn:Func}{c:Code}{args:List az}{l:List (Nat×az)}{n:Nat}{R:az->ay->Prop}(hf:P.funcs[f]? =some fn)(hb:fn.body=some c)(hn:fn.ntmps=n)(hk:args.length<=n)
  (hl:zN 0 args=l)
  (h:c.wp P (bodyPost P fn λe w'=>∃v,e=.returned v/\R v w') (fr n (λ_=>undef) l) w):Calls P f args.toArray w λe w'=>∃v,e=.returned v/\R v w':=by
 subst hl;refine PV (k:=n-args.length) hf hb hn aG rfl ?_;have e:(⟨(args++List.replicate (n-args.length) undef).toArray,[]⟩:Act)=fr n (λ_=>undef) (zN 0 args):=by
  unfold fr;congr 2;apply gf;intro i;by_cases hi:i<n
  ·rw[jP _ _ _ _ _ hi,bM,wN,aZ (bB _),kr];by_cases hia:i<args.length
   ·rw[bK hia,aQ hia];rfl
   rw[bX aG,List.getElem?_replicate,aZ aG,cF aG];rfl
  rw[cF aab,cF adn]
 rw[e];exact h
def asB:az->Option Bool
 | .bool b=>some b
 | _=>none
theorem FO{fG:List Oper}{j d:Nat}{oj:Oper}{v:az}(h2:gU fG j=some oj)(h3:oj.dst=some d)(h4:evO n0 l0 (.tmp d)=some v):
  yielded fG.toArray (fr n0 us0 l0).tmps j=asB v:=by
 rw[jO]at h2;have hd:d<n0:=by
  simp only[evO]at h4;cases hb:Nat.blt d n0 with
  | false=>rw[hb]at h4;cases h4
  | true=>exact cG hb
 have h5:=uE (us0:=us0) h4;rw[P1 hd]at h5;have:(fr n0 us0 l0).tmps[d]? =some v:=by
  show(UE us0 l0 n0 0).toArray[d]? =_;rw[iT,jP _ _ _ _ _ hd,bM,h5]
 simp only[yielded,iT,h2,xQ,h3,this];cases v<;>rfl
theorem uF{o oj:Oper}{fG:List Oper}{j d:Nat}{want b r:Bool}(h1:o.guard=some (j,want))(h2:gU fG j=some oj)(h3:oj.dst=some d)
  (h4:evO n0 l0 (.tmp d)=some (.bool b)) (h5:(b==want)=r):Region.wanted o (yielded fG.toArray (fr n0 us0 l0).tmps)=r:=by
 subst h5;have e:=FO (us0:=us0) h2 h3 h4;simp only[Region.wanted,h1,e,asB];cases b<;>cases want<;>rfl
theorem wuF{o oj:Oper}{fG:List Oper}{j d:Nat}{want:Bool}(h1:o.guard=some (j,want))(h2:gU fG j=some oj)(h3:oj.dst=some d)
  (h4:evO n0 l0 (.tmp d)=some undef):Region.wanted o (yielded fG.toArray (fr n0 us0 l0).tmps)=false:=by
 have e:=FO (us0:=us0) h2 h3 h4;simp[Region.wanted,h1,e,undef,asB]
theorem pg{x y:Option Addr}(h:x=y):some (Value.pointer x)=some (.pointer y):=by rw[h]
theorem ag{x y:Addr}(h:x=y):some (Value.pointer (some x))=some (.pointer (some y)):=by rw[h]
theorem bg{x y:Bool}(h:x=y):some (Value.bool x)=some (.bool y):=by rw[h]
theorem sv{k:Tmp}{op:Op}{t':TypeId}{p:String}{af:Array Edge}{v:az}(hr:(execOp (fr n0 us0 l0).eval ⟨some k,op,t',p,af,none⟩).run P w=.ok (.value v) w)
 (h:wpList P ops Q rest (fr n0 us0 ((k,v)::l0)) w):wpList P ops Q (⟨some k,op,t',p,af,none⟩::rest) (fr n0 us0 l0) w:=zA v (wn rfl) hr P4 h
theorem sn{op:Op}{t':TypeId}{p:String}{af:Array Edge}{v:az}(hr:(execOp (fr n0 us0 l0).eval ⟨none,op,t',p,af,none⟩).run P w=.ok (.value v) w)
 (h:wpList P ops Q rest (fr n0 us0 l0) w):wpList P ops Q (⟨none,op,t',p,af,none⟩::rest) (fr n0 us0 l0) w:=zA v (wn rfl) hr (f3 _ _) h
theorem Nj{d:Option Tmp}{op:Op}{t':TypeId}{p:String}{af:Array Edge}{g:Option (Nat×Bool)}{v:az}(hg:Region.wanted ⟨d,op,t',p,af,g⟩ (yielded ops (fr n0 us0 l0).tmps)=true)(hr:(execOp (fr n0 us0 l0).eval ⟨d,op,t',p,af,g⟩).run P w=.ok (.value v) w)
 (h:wpList P ops Q rest (fr n0 us0 (pl d v l0)) w):wpList P ops Q (⟨d,op,t',p,af,g⟩::rest) (fr n0 us0 l0) w:=zA v hg hr Zk h
theorem H0{d:Option Tmp}{op:Op}{t':TypeId}{p:String}{af:Array Edge}{g:Option (Nat×Bool)}(hg:Region.wanted ⟨d,op,t',p,af,g⟩ (yielded ops (fr n0 us0 l0).tmps)=false)
 (h:wpList P ops Q rest (fr n0 us0 (pl d undef l0)) w):wpList P ops Q (⟨d,op,t',p,af,g⟩::rest) (fr n0 us0 l0) w:=PL hg Zk h
theorem Zm{a:Act}{l:List Oper}(k:Nat)(n:Nat)(Ph:List (Nat×az))(h1:wpList P ops (Exit.then (λa' w'=>(∃us,a'=fr n us Ph)/\w=w') Q) (l.take k) a w)
  (h2:∀us,wpList P ops Q (l.drop k) (fr n us Ph) w):wpList P ops Q l a w:=
 Zf k _ h1 (by rintro _ _ ⟨⟨us,rfl⟩,rfl⟩;exact h2 us)
theorem wO{Ph:List (Nat×az)}(h:UF l0 Ph):Exit.then (λa' w'=>(∃us,a'=fr n0 us Ph)/\w=w') Q .normal (fr n0 us0 l0) w:=⟨zO h,rfl⟩
section
variable {K:Act->ay->Prop}
theorem UH{d:Option Tmp}{op:Op}{t':TypeId}{p:String}{af:Array Edge}{g:Option (Nat×Bool)}{f:FuncId}{args:Array az}(hr:(execOp (fr n0 us0 l0).eval ⟨d,op,t',p,af,g⟩).run P w=.ok (.enter f args) w)
  (h:Calls P f args w λe w'=>∃v,e=.returned v/\K (fr n0 us0 (pl d v l0)) w'):Oper.wp P ⟨d,op,t',p,af,g⟩ (fr n0 us0 l0) w K Q:=
 Dr hr (h.mono (by rintro e w' ⟨v,h1,h2⟩;exact⟨v,_,h1,Zk,h2⟩))
theorem Km{ty:TypeId}{x y:Operand}{t':TypeId}{p:String}{af:Array Edge}{g:Option (Nat×Bool)}{b o:Nat}{cs vs cs':List az}{et:TypeId}{n:Nat}
  (hsz:(sizeOf ty).run P w=.ok n w) (hx:evO n0 l0 x=some (.pointer (some ⟨b,o,none⟩))) (hv:(evO n0 l0 y).map Value.cells=some vs.toArray) (hn:vs.length=n)
  (h1:vs.all Value.oneCell'=true) (hb:Blk w b et cs) (E4:o+vs.length<=cs.length) (oI:cx cs o vs=cs')
  (h:∀w1,Only [b] w w1->Blk w1 b et cs'->K (fr n0 us0 l0) w1):Oper.wp P ⟨none,.store ty x y,t',p,af,g⟩ (fr n0 us0 l0) w K Q:=
 zH hsz (uE hx) (evC hv) hn h1 hb E4 oI (f3 _ _) h
theorem Kn{k:Tmp}{ty:TypeId}{t':TypeId}{p:String}{af:Array Edge}{g:Option (Nat×Bool)}{z:az}{zs:List az}
  (hz:(zeroValue ty).run P w=.ok z w) (hc:z.cells=zs.toArray)
  (h:∀b w1,w.heap.size<=b->Only [] w w1->Blk w1 b ty zs->K (fr n0 us0 ((k,.pointer (some ⟨b,0,none⟩))::l0)) w1):Oper.wp P ⟨some k,.alloc ty,t',p,af,g⟩ (fr n0 us0 l0) w K Q:=
 zI hz hc (λ_=>P4) h
theorem Xk{k:Tmp}{ty:TypeId}{x:Operand}{t':TypeId}{p:String}{af:Array Edge}{g:Option (Nat×Bool)}{zs:List az}
  (hc:(evO n0 l0 x).map Value.cells=some zs.toArray)
  (h:∀b w1,w.heap.size<=b->Only [] w w1->Blk w1 b ty zs->K (fr n0 us0 ((k,.pointer (some ⟨b,0,none⟩))::l0)) w1):Oper.wp P ⟨some k,.box ty x,t',p,af,g⟩ (fr n0 us0 l0) w K Q:=
 PT (evC hc) (λ_=>P4) h
end
section
variable {dst:Option Tmp} {x y:Operand} {t ty t':TypeId} {p:String} {af:Array Edge} {g:Option (Nat×Bool)} {k:IntKind} {m n:Int} {v:az}
theorem yy(h:evO n0 l0 x=some v):(execOp (fr n0 us0 l0).eval ⟨dst,.move x,t',p,af,g⟩).run P w=.ok (.value v) w:=by
 simp only[execOp,uE h,Sem.run_pure]
theorem FP(h:evO n0 l0 x=some v):(execOp (fr n0 us0 l0).eval ⟨dst,.assign x,t',p,af,g⟩).run P w=.ok (.value v) w:=by
 simp only[execOp,uE h,Sem.run_pure]
theorem aec(hx:evO n0 l0 x=some (.int k m))(hy:evO n0 l0 y=some (.int k n)):(execOp (fr n0 us0 l0).eval ⟨dst,.binOp .add t x y ty,t',p,af,g⟩).run P w=.ok (.value (.int k (k.wrap (m+n)))) w:=by
 simp only[execOp,uE hx,uE hy];cases k<;>rfl
theorem Xl(hx:evO n0 l0 x=some (.int k m))(hy:evO n0 l0 y=some (.int k n)):(execOp (fr n0 us0 l0).eval ⟨dst,.binOp .eql t x y ty,t',p,af,g⟩).run P w=.ok (.value (.bool (m==n))) w:=by
 simp only[execOp,uE hx,uE hy];cases k<;>rfl
theorem aed(hx:evO n0 l0 x=some (.int k m))(hy:evO n0 l0 y=some (.int k n)):(execOp (fr n0 us0 l0).eval ⟨dst,.binOp .neq t x y ty,t',p,af,g⟩).run P w=.ok (.value (.bool (m !=n))) w:=by
 simp only[execOp,uE hx,uE hy];cases k<;>rfl
theorem aee(hx:evO n0 l0 x=some (.int k m))(hy:evO n0 l0 y=some (.int k n)):(execOp (fr n0 us0 l0).eval ⟨dst,.binOp .lss t x y ty,t',p,af,g⟩).run P w=.ok (.value (.bool (decide (m<n)))) w:=by
 simp only[execOp,uE hx,uE hy];cases k<;>rfl
theorem aef(hx:evO n0 l0 x=some (.int k m))(hy:evO n0 l0 y=some (.int k n)):(execOp (fr n0 us0 l0).eval ⟨dst,.binOp .gtr t x y ty,t',p,af,g⟩).run P w=.ok (.value (.bool (decide (m>n)))) w:=by
 simp only[execOp,uE hx,uE hy];cases k<;>rfl
end
theorem Ko{c:Operand}{x y:Code}{t:Bool}(h:evO n0 l0 c=some (.bool t))(ht:t=true->x.wp P Q (fr n0 us0 l0) w)(hf:t=false->y.wp P Q (fr n0 us0 l0) w):(Code.cond c x y).wp P Q (fr n0 us0 l0) w:=
 wp_cond_split (uE h) ht hf
def UI(P:Program)(n:Nat)(l:List (Nat×az))(w:ay):List ResultVar->List az->Prop
 | [],[]=>True
 | .tmp t::r,v::vs=>evO n l (.tmp t)=some v/\UI P n l w r vs
 | .cell p t::r,v::vs=>(∃ad,evO n l (.tmp p)=some (.pointer (some ad))/\(loadVar t ad).run P w=.ok v w)/\UI P n l w r vs
 | _,_=>False
theorem Dx:∀{rs:List ResultVar} {vs:List az},UI P n0 l0 w rs vs->zJ P (fr n0 us0 l0) w rs vs
 | [],[],_=>trivial
 | [],_::_,h=>h.elim
 | .tmp t::r,[],h=>h.elim
 | .cell _ _::r,[],h=>h.elim
 | .tmp t::r,v::vs,h=>⟨uE h.1,Dx h.2⟩
 | .cell q t::r,v::vs,h=>by
  obtain⟨⟨ad,h1,h2⟩,h3⟩:=h;exact⟨⟨ad,uE h1,h2⟩,Dx h3⟩
theorem aeg{fn:Func}{rs:List ResultVar}{v:az}{R:az->ay->Prop}(h:fn.results=rs.toArray)(hr:UI P n0 l0 w rs [v])(hR:R v w):bodyPost P fn (λe w'=>∃v,e=.returned v/\R v w') .ret (fr n0 us0 l0) w:=Kk (PW h (Dx hr)) rfl hR
theorem mo{dst:Option Tmp}{ty:TypeId}{x:Operand}{t':TypeId}{p:String}{af:Array Edge}{g:Option (Nat×Bool)}{ad:Addr}{v:az}(E3:(isAgg ty).run P w=.ok false w)(hx:evO n0 l0 x=some (.pointer (some ad)))(hc:w.cell? ad=some v):
 (execOp (fr n0 us0 l0).eval ⟨dst,.load ty x,t',p,af,g⟩).run P w=.ok (.value v) w:=yU E3 (uE hx) hc
theorem yW{dst:Option Tmp}{c x y:Operand}{t':TypeId}{p:String}{af:Array Edge}{g:Option (Nat×Bool)}{v:az}(hc:evO n0 l0 c=some (.bool true))(hv:evO n0 l0 x=some (v)):
 (execOp (fr n0 us0 l0).eval ⟨dst,.pick c x y,t',p,af,g⟩).run P w=.ok (.value v) w:=Ki (uE hc) (uE hv)
theorem vp{dst:Option Tmp}{c x y:Operand}{t':TypeId}{p:String}{af:Array Edge}{g:Option (Nat×Bool)}{v:az}(hc:evO n0 l0 c=some (.bool false))(hv:evO n0 l0 y=some (v)):
 (execOp (fr n0 us0 l0).eval ⟨dst,.pick c x y,t',p,af,g⟩).run P w=.ok (.value v) w:=Kj (uE hc) (uE hv)
theorem zP{dst:Option Tmp}{t e:TypeId}{x i:Operand}{t':TypeId}{p:String}{af:Array Edge}{g:Option (Nat×Bool)}{s:Sl}{k:IntKind}{n:Int}{ad:Addr}{sz:Nat}(hu:(underlying t).run P w=.ok (.slice e) w)(hsz:(sizeOf e).run P w=.ok sz w)(hx:evO n0 l0 x=some (s.v))(hi:evO n0 l0 i=some (.int k n))(Wu:dI s n sz ad):
 (execOp (fr n0 us0 l0).eval ⟨dst,.indexAddr t x i,t',p,af,g⟩).run P w=.ok (.value (.pointer (some ad))) w:=FE hu hsz (uE hx) (uE hi) Wu
theorem P5{dst:Option Tmp}{t:TypeId}{e:TypeId}{x:Operand}{t':TypeId}{p:String}{af:Array Edge}{g:Option (Nat×Bool)}{s:Sl}(hu:(underlying t).run P w=.ok (.slice e) w)(hx:evO n0 l0 x=some (s.v)):
 (execOp (fr n0 us0 l0).eval ⟨dst,.call ⟨.builtin .len,#[x],#[t]⟩,t',p,af,g⟩).run P w=.ok (.value (.int .i64 s.n)) w:=Xh hu (uE hx)
theorem P6{dst:Option Tmp}{x:Operand}{f:FuncId}{first captured:List az}{xs:List Operand}{ats:Array TypeId}{t':TypeId}{p:String}{af:Array Edge}{g:Option (Nat×Bool)}{args:List az}(hx:evO n0 l0 x=some (.func (.func f) first.toArray captured.toArray))(hc:∀(args:Array az) (w:ay),(callFunc f args).run P w=.ok (.enter f args) w)(ha:(Dw n0 l0 xs).map (λys=>first++ys++captured)=some args):
 (execOp (fr n0 us0 l0).eval ⟨dst,.call ⟨.value x,xs.toArray,ats⟩,t',p,af,g⟩).run P w=.ok (.enter f args.toArray) w:=zD (uE hx) hc (akx ha)
theorem Iw{dst:Option Tmp}{fn:Fn}{fs cs:List Operand}{t':TypeId}{p:String}{af:Array Edge}{g:Option (Nat×Bool)}{fv cv:List az}(h1:Dw n0 l0 fs=some (fv))(h2:Dw n0 l0 cs=some (cv)):
 (execOp (fr n0 us0 l0).eval ⟨dst,.makeFunc fn fs.toArray cs.toArray,t',p,af,g⟩).run P w=.ok (.value (.func fn fv.toArray cv.toArray)) w:=zF (UG h1) (UG h2)
theorem Ix{dst:Option Tmp}{t e:TypeId}{x lo:Operand}{t':TypeId}{p:String}{af:Array Edge}{g:Option (Nat×Bool)}{s:Sl}{k:IntKind}{l sz:Nat}(hu:(underlying t).run P w=.ok (.slice e) w)(hsz:(sizeOf e).run P w=.ok sz w)(hx:evO n0 l0 x=some (s.v))(hl:evO n0 l0 lo=some (.int k (l:Int)))(h1:l<=s.n)(_h2:s.n<=s.c)(_h3:s.c<=s.c):
 (execOp (fr n0 us0 l0).eval ⟨dst,.slice t x (some lo) none none,t',p,af,g⟩).run P w=.ok (.value (s.cut l s.n s.c sz).v) w:=zG hu hsz (uE hx) (uE hl) h1 _h2 _h3
end
end Go.Kt
namespace Go.Kt.V
open Go renaming World->ay,Value->az
open Go Go.RowKit Go.Kt
structure OV where
 v:az
 one:v.oneCell'=true
inductive SV where
 | int (k:IntKind) (n:Int)
 | il (k:IntKind) (n:Int)
 | bl (b:Bool)
 | bt (t:Bool)
 | str (s:ByteArray)
 | np
 | ptr (p:Option Addr)
 | ad (a:Addr)
 | box (i o:Nat)
 | sl (s:Sl)
 | nsl
 | map (m:Option Nat)
 | raw (v:OV)
 | fn (f:FuncId) (fs cs:SV)
 | agg (l:SV)
 | tup (l:SV)
 | un
 | e
 | c (h t:SV)
def pT(β:Nat->Nat):SV->List az
 | .int k n=>[.int k n]
 | .il k n=>[.int k n]
 | .bl b=>[.bool b]
 | .bt t=>[.bool t]
 | .str s=>[.string s]
 | .np=>[.pointer none]
 | .ptr p=>[.pointer p]
 | .ad a=>[.pointer (some a)]
 | .box i o=>[.pointer (some ⟨β i,o,none⟩)]
 | .sl s=>[s.v]
 | .nsl=>[Sl.v Sl.nil]
 | .map m=>[.map m]
 | .raw v=>[v.v]
 | .fn f fs cs=>[.func (.func f) (pT β fs).toArray (pT β cs).toArray]
 | .agg l=>[.agg (pT β l).toArray]
 | .tup l=>[.tuple (pT β l).toArray]
 | .un=>[undef]
 | .e=>[]
 | .c h t=>(pT β h).headD undef::pT β t
def val(β:Nat->Nat)(s:SV):az:=(pT β s).headD undef
def cz(β:Nat->Nat)(l:List SV):List az:=l.map (val β)
def mF:SV->List SV
 | .c h t=>h::mF t
 | _=>[]
def nq:List SV->SV
 | []=>.e
 | s::r=>.c s (nq r)
def BJ:SV->Bool
 | .c _ t=>BJ t
 | .e=>true
 | _=>false
theorem qS β:∀l,pT β (nq l)=cz β l
 | []=>rfl
 | s::r=>by simp only[nq,pT,qS β r];rfl
theorem mq β:∀{s:SV},BJ s=true->pT β s=cz β (mF s)
 | .e,_=>rfl
 | .c h t,hl=>by simp only[pT,mF,mq β (s:=t) hl];rfl
def cln(g:Nat->Bool):SV->Bool
 | .box i _=>g i
 | .fn _ fs cs=>cln g fs&&cln g cs
 | .agg l=>cln g l
 | .tup l=>cln g l
 | .c h t=>cln g h&&cln g t
 | _=>true
def ia(g:Nat->Bool):List SV->Bool
 | []=>true
 | s::r=>cln g s&&ia g r
theorem lP{β β'}{g}(h:∀i,g i=true->β i=β' i):∀s,cln g s=true->pT β s=pT β' s
 | .int ..,_ | .il ..,_ | .bl ..,_ | .bt ..,_ | .str ..,_ | .np,_ | .ptr ..,_ | .ad ..,_ | .sl ..,_ | .nsl,_ | .map ..,_ | .raw ..,_ | .un,_ | .e,_=>rfl
 | .box i o,hc=>by simp[pT,h i hc]
 | .fn f fs cs,hc=>by
  simp[cln,aU]at hc;simp[pT,lP h fs hc.1,lP h cs hc.2]
 | .agg l,hc=>by simp[pT,lP h l hc]
 | .tup l,hc=>by simp[pT,lP h l hc]
 | .c s t,hc=>by
  simp[cln,aU]at hc;simp[pT,lP h s hc.1,lP h t hc.2]
theorem iE{β β'}{g}(h:∀i,g i=true->β i=β' i) s (hc:cln g s=true):val β s=val β' s:=by
 unfold val;rw[lP h s hc]
theorem gP{β β'}{g}(h:∀i,g i=true->β i=β' i):∀l,ia g l=true->cz β l=cz β' l
 | [],_=>rfl
 | s::r,hc=>by
  simp[ia,aU]at hc;have:=gP h r hc.2;simp only[cz,bG]at this⊢;rw[iE h s hc.1,this]
theorem fx β l:(cz β l).length=l.length:=by rw[cz,bA]
def P7:az->Option SV
 | .int k n=>some (.il k n)
 | .bool b=>some (.bl b)
 | .string s=>some (.str s)
 | .pointer none=>some .np
 | .slice none 0 0=>some .nsl
 | .map m=>some (.map m)
 | v=>if h:v.oneCell'=true then some (.raw ⟨v,h⟩)else none
def BK:List az->Option SV
 | []=>some .e
 | v::r=>match P7 v,BK r with
  | some s,some l=>some (.c s l)
  | _,_=>none
def ofV:az->Option SV
 | .agg cs=>(BK cs.toList).map .agg
 | .tuple cs=>(BK cs.toList).map .tup
 | .func (.func f) fs cs=>match BK fs.toList,BK cs.toList with
  | some a,some b=>some (.fn f a b)
  | _,_=>none
 | v=>P7 v
theorem zQ{v}{s}(h:P7 v=some s) β:val β s=v:=by
 unfold P7 at h;split at h
 all_goals first | (simp at h;subst h;rfl) | skip
 split at h
 ·simp at h;subst h;rfl
 cases h
theorem rZ β:∀{l:List az} {s:SV},BK l=some s->pT β s=l
 | [],s,h=>by simp[BK,bc]at h;subst h;rfl
 | v::r,s,h=>by
  simp[BK]at h;split at h
  ·rename_i s' l' h1 h2;simp at h;subst h;simp only[pT,rZ β h2];rw[show(pT β s').headD undef=v from zQ h1 β]
  cases h
theorem Kp{v}{s}(h:ofV v=some s) β:val β s=v:=by
 unfold ofV at h;split at h
 ·rename_i cs;cases hl:BK cs.toList with
  | none=>rw[hl]at h;cases h
  | some l=>
   rw[hl]at h;simp at h;subst h;simp[val,pT,zv,rZ β hl]
 ·rename_i cs;cases hl:BK cs.toList with
  | none=>rw[hl]at h;cases h
  | some l=>
   rw[hl]at h;simp at h;subst h;simp[val,pT,zv,rZ β hl]
 ·split at h
  ·rename_i a b h1 h2;simp at h;subst h;simp[val,pT,zv,rZ β h1,rZ β h2]
  cases h
 exact zQ h β
structure j8 where
 blk:Option Nat
 ty:TypeId
 cells:List SV
 stp:Nat
 ok:Bool
 esc:Bool
 sh:Bool
structure St where
 n:Nat
 fr:List (Nat×Nat×SV)
 bx:List j8
 w0:ay
 mv:Bool
 dt:List Nat
 ct:Nat
 df:List (Nat×List az×List az)
def Xm(l:List (Nat×List az×List az)):List Deferred:=l.map λd=>{target:=.fn (.func d.1) d.2.2.toArray,args:=d.2.1.toArray}
def frD(n:Nat)(us:Nat->az)(l:List (Nat×az))(D:List Deferred):Act:=⟨(UE us l n 0).toArray,D⟩
def dQ:List (Nat×Nat×SV)->Nat->Option (Nat×SV)
 | [],_=>none
 | (k,s)::r,i=>bif Nat.beq k i then some s else dQ r i
def St.get(st:St)(i:Nat):Option SV:=bif Nat.blt i st.n then(dQ st.fr i).map (·.2)else none
def St.ev(st:St):Operand->Option SV
 | .tmp k=>st.get k
 | .const v=>ofV v
 | .global g=>some (.ad ⟨g,0,none⟩)
 | .func f=>some (.fn f .e .e)
def St.ME(st:St):List Operand->Option (List SV)
 | []=>some []
 | x::r=>match st.ev x,st.ME r with
  | some v,some vs=>some (v::vs)
  | _,_=>none
def St.Ug(st:St):List (Nat×Operand)->Option (List (Nat×SV))
 | []=>some []
 | (i,x)::r=>match st.ev x,st.Ug r with
  | some v,some vs=>some ((i,v)::vs)
  | _,_=>none
def St.put(st:St)(d:Option Tmp)(v:SV):St:=match d with
 | some k=>{st with fr:=(k,st.ct,v)::st.fr,ct:=st.ct+1}
 | none=>st
def cZ:List j8->Nat->Option j8
 | [],_=>none
 | b::_,0=>some b
 | _::r,n+1=>cZ r n
def Nk:List j8->Nat->j8->List j8
 | [],_,_=>[]
 | _::r,0,b=>b::r
 | a::r,n+1,b=>a::Nk r n b
def cv(β:Nat->Nat)(l:List (Nat×Nat×SV)):List (Nat×az):=l.map λp=>(p.1,val β p.2.2)
theorem kV β:∀l i,pS (cv β l) i=(dQ l i).map λp=>val β p.2
 | [],_=>rfl
 | (k,s)::r,i=>by
  simp[cv,bG,pS,dQ];cases Nat.beq k i with
  | true=>rfl
  | false=>exact kV β r i
structure agz (β:Nat->Nat) (w0 w:ay) (i:Nat) (b:j8):Prop where
 blk:Blk w (β i) b.ty (cz β b.cells)
 at_:∀k,b.blk=some k->β i=k
 new:b.blk=none->w0.heap.size<=β i
structure Rep (β:Nat->Nat) (st:St) (a:Act) (w:ay):Prop where
 fr:∃us,a=frD st.n us (cv β st.fr) (Xm st.df)
 bx:∀i b,cZ st.bx i=some b->b.ok=true->agz β st.w0 w i b
 ne:∀i j bi bj,cZ st.bx i=some bi->cZ st.bx j=some bj->bi.ok=true->bj.ok=true->i≠j->β i≠β j
 only:Only (st.dt.map β) st.w0 w
 still:st.mv=false->w=st.w0
structure Ext (s t:St):Prop where
 n:t.n=s.n
 ct:s.ct<=t.ct
 fr:∀i k v,dQ t.fr i=some (k,v)->k<s.ct->dQ s.fr i=some (k,v)
 bx:∀i b',cZ t.bx i=some b'->b'.ok=true->b'.stp<s.ct->∃b,cZ s.bx i=some b/\b.ok=true/\b.cells=b'.cells/\b.ty=b'.ty/\b.stp=b'.stp/\(∀k,b.blk=some k->b'.blk=some k)
 ps:∀i b,cZ s.bx i=some b->∃b',cZ t.bx i=some b'/\b'.ty=b.ty/\b'.ok=b.ok/\∀k,b.blk=some k->b'.blk=some k
 df:∃l,t.df=l++s.df
theorem Fs{s:St}:∃l,s.df=l++s.df:=⟨[],rfl⟩
theorem P8{l}:∀i b,cZ l i=some b->∃b',cZ l i=some b'/\b'.ty=b.ty/\b'.ok=b.ok/\∀k,b.blk=some k->b'.blk=some k:=λi b h=>⟨b,h,rfl,rfl,λ_ h=>h⟩
theorem Ext.refl s:Ext s s:=⟨rfl,ba _,λ_ _ _ h _=>h,λi b h ho _=>⟨b,h,ho,rfl,rfl,rfl,λ_ h=>h⟩,P8,Fs⟩
theorem Ext.trans{s t u}(h:Ext s t)(k:Ext t u):Ext s u:=
 ⟨k.n.trans h.n,bf h.ct k.ct,λi m v hl cd=>h.fr i m v (k.fr i m v hl (cq cd h.ct)) cd,λi b'' hb ho hs=>by
  obtain⟨b',k1,k2,k3,k4,k6,k5⟩:=k.bx i b'' hb ho (cq hs h.ct);obtain⟨b,h1,h2,h3,h4,h6,h5⟩:=h.bx i b' k1 k2 (by rw[k6];exact hs);exact⟨b,h1,h2,h3.trans k3,h4.trans k4,h6.trans k6,λm hm=>k5 m (h5 m hm)⟩,λi b hb=>by
  obtain⟨b',h1,h2,h3,h4⟩:=h.ps i b hb;obtain⟨b'',k1,k2,k3,k4⟩:=k.ps i b' h1;exact⟨b'',k1,k2.trans h2,k3.trans h3,λm hm=>k4 m (h4 m hm)⟩,by
  obtain⟨l,h1⟩:=h.df;obtain⟨m,k1⟩:=k.df;exact⟨m++l,by rw[k1,h1,bR]⟩⟩
section
variable {β:Nat->Nat} {st:St} {a:Act} {w:ay}
theorem Rep.get(h:Rep β st a w){i}{s}(hg:st.get i=some s):a.eval (.tmp i)=val β s:=by
 obtain⟨us,rfl⟩:=h.fr;show(Kt.fr st.n us _).eval (.tmp i)=_;refine uE (n0:=st.n) (us0:=us) ?_;unfold St.get at hg;cases hb:Nat.blt i st.n with
 | false=>rw[hb]at hg;cases hg
 | true=>
  rw[hb,mj]at hg;simp only[evO,hb,mj,kV];cases hl:dQ st.fr i with
  | none=>rw[hl]at hg;cases hg
  | some p=>
   rw[hl]at hg;simp at hg;rw[dz,hg]
theorem Rep.ev(h:Rep β st a w){x}{s}(hg:st.ev x=some s):a.eval x=val β s:=by
 cases x with
 | tmp k=>exact h.get hg
 | const v=>rw[Kp hg];rfl
 | global g=>
  simp[St.ev,bc]at hg;subst hg;rfl
 | func f=>
  simp[St.ev,bc]at hg;subst hg;rfl
theorem Rep.ME(h:Rep β st a w):∀{xs:List Operand} {l:List SV},st.ME xs=some l->xs.map a.eval=cz β l
 | [],l,hg=>by simp[St.ME,bc]at hg;subst hg;rfl
 | x::r,l,hg=>by
  simp[St.ME]at hg;split at hg
  ·rename_i v vs hx hr;simp at hg;subst hg;rw[bG,h.ev hx,h.ME hr];rfl
  cases hg
def Cg(β:Nat->Nat)(l:List (Nat×SV)):List (Nat×az):=l.map λp=>(p.1,val β p.2)
theorem Rep.Ug(h:Rep β st a w):∀{xs:List _} {l:List _},st.Ug xs=some l->(xs.map λq=>(q.1,a.eval q.2))=Cg β l
 | [],l,hg=>by simp[St.Ug,bc]at hg;subst hg;rfl
 | _::r,l,hg=>by
  simp[St.Ug]at hg;split at hg
  ·rename_i v vs hx hr;simp at hg;subst hg;rw[bG,h.Ug hr,h.ev hx];rfl
  cases hg
theorem St.evO{st:St} β {x} {s} (hg:st.ev x=some s):Kt.evO st.n (cv β st.fr) x=some (val β s):=by
 cases x with
 | tmp i=>
  have hg:st.get i=some s:=hg;unfold St.get at hg;cases hb:Nat.blt i st.n with
  | false=>rw[hb]at hg;cases hg
  | true=>
   rw[hb,mj]at hg;simp only[Kt.evO,hb,mj,kV];cases hl:dQ st.fr i with
   | none=>rw[hl]at hg;cases hg
   | some p=>
    rw[hl]at hg;simp at hg;rw[dz,hg]
 | const v=>rw[Kp hg];rfl
 | global g=>
  simp[St.ev,bc]at hg;subst hg;rfl
 | func f=>
  simp[St.ev,bc]at hg;subst hg;rfl
theorem Rep.put(h:Rep β st a w) d v:Rep β (st.put d v) (a.put d (val β v)) w:=by
 cases d with
 | none=>exact h
 | some k=>
  obtain⟨us,rfl⟩:=h.fr;exact⟨⟨us,bh (λa:Act=>(⟨a.tmps,Xm st.df⟩:Act)) (P4 (n0:=st.n) (us0:=us) (l0:=cv β st.fr) (k:=k) (v:=val β v))⟩,h.bx,h.ne,h.only,h.still⟩
theorem Ext.put st d v:Ext st (st.put d v):=by
 cases d with
 | none=>exact Ext.refl _
 | some k=>
  refine⟨rfl,iC _,λi m u hl cd=>?_,λi b h ho _=>⟨b,h,ho,rfl,rfl,rfl,λ_ h=>h⟩,P8,Fs⟩;simp[St.put,dQ]at hl;cases hb:Nat.beq k i with
  | true=>
   rw[hb]at hl;simp at hl;omega
  | false=>rw[hb]at hl;simpa using hl
theorem Rep.frame(h:Rep β st a w){fr'}(hs:∀i p,dQ fr' i=some p->∃q,dQ st.fr i=some q/\val β q.2=val β p.2):Rep β {st with fr:=fr'} a w:=by
 obtain⟨us,rfl⟩:=h.fr;refine⟨?_,h.bx,h.ne,h.only,h.still⟩;refine⟨λi=>rY us (cv β st.fr) i,?_⟩;unfold frD;congr 2;apply gf;intro i;by_cases hi:i<st.n
 ·rw[jP _ _ _ _ _ hi,jP _ _ _ _ _ hi,bM];cases hl:dQ fr' i with
  | none=>
   rw[yV (l:=cv β fr') adw]
  | some p=>
   obtain⟨q,h1,h2⟩:=hs i p hl;rw[oW (l:=cv β fr') (v:=val β p.2) adw,oW (l:=cv β st.fr) (v:=val β p.2) (by rw[kV,h1,dz,h2])]
 rw[cF (by rw[kx];exact qL hi),cF (by rw[kx];exact qL hi)]
end
def ck{α:Type}(o:Option α)(K:α->Prop):Prop:=match o with
 | some v=>K v
 | none=>False
theorem bC{α}{o:Option α}{K}(h:ck o K):∃v,o=some v/\K v:=by
 cases o with
 | none=>exact h.elim
 | some v=>exact⟨v,rfl,h⟩
def gi:List (Bool×Bool)->Prop->Prop
 | [],p=>p
 | (t,b)::r,p=>t=b->gi r p
def gh:List (Bool×Bool)->Prop
 | []=>True
 | (t,b)::r=>t=b/\gh r
theorem gQ:∀{gs:List _} {p:Prop},gi gs p->gh gs->p
 | [],_,h,_=>h
 | _::r,p,h,k=>gQ (gs:=r) (h k.1) k.2
inductive Lf where
 | int (k:IntKind)
 | bool
 | str
 | ptr
 | sl
 | map
 | raw
def Lf.T:Lf->Type
 | .int _=>Int
 | .bool=>Bool
 | .str=>ByteArray
 | .ptr=>Option Addr
 | .sl=>Sl
 | .map=>Option Nat
 | .raw=>OV
def Lf.sv:(l:Lf)->l.T->SV
 | .int k,x=>.int k x
 | .bool,x=>.bt x
 | .str,x=>.str x
 | .ptr,x=>.ptr x
 | .sl,x=>.sl x
 | .map,x=>.map x
 | .raw,x=>.raw x
theorem Lf.cln g (l:Lf) x:V.cln g (l.sv x)=true:=by cases l<;>rfl
def UJ:List Lf->(List SV->Prop)->Prop
 | [],K=>K []
 | l::r,K=>∃x,UJ r λvs=>K (l.sv x::vs)
theorem sf:∀{ls:List Lf} {K:List SV->Prop},UJ ls K->∃vs,K vs/\vs.length=ls.length/\∀g,ia g vs=true
 | [],K,h=>⟨[],h,rfl,λ_=>rfl⟩
 | l::r,K,h=>by
  obtain⟨x,h⟩:=h;obtain⟨vs,h1,h2,h3⟩:=sf (ls:=r) h;exact⟨_,h1,by simp[h2],λg=>by simp[ia,Lf.cln,h3 g,ni]⟩
def akA:TypeDesc->Lf
 | .int k=>.int k
 | .bool=>.bool
 | .string=>.str
 | .pointer _=>.ptr
 | .slice _=>.sl
 | .map _ _=>.map
 | _=>.raw
def rep{α:Type}:Nat->List α->List α
 | 0,_=>[]
 | n+1,l=>l++rep n l
def flat{α β:Type}(f:α->List β):List α->List β
 | []=>[]
 | x::r=>f x++flat f r
def P9(P:Program):Nat->TypeId->List Lf
 | 0,_=>[]
 | n+1,t=>match P.underlying t with
  | some (.struct fs)=>flat (λf:Field=>P9 P n f.type) fs.toList
  | some (.array len e)=>rep len (P9 P n e)
  | some d=>[akA d]
  | none=>[]
def lQ:TypeDesc->Bool
 | .struct _=>true
 | .array _ _=>true
 | _=>false
def Nl(ag:Bool)(l:List SV):SV:=bif ag then .agg (nq l)else l.headD .un
def β0:Nat->Nat:=λ_=>0
def pU:SV->Option (IntKind×Int)
 | .int k n=>some (k,n)
 | .il k n=>some (k,n)
 | _=>none
theorem dx{s}{k}{n}(h:pU s=some (k,n)) β:val β s=.int k n:=by
 cases s<;>simp[pU,bc,jE,reduceCtorEq]at h
 all_goals obtain⟨rfl,rfl⟩:=h;rfl
def zR:SV->Option Bool
 | .bl b=>some b
 | .bt b=>some b
 | _=>none
theorem lR{s}{b}(h:zR s=some b) β:val β s=.bool b:=by
 cases s<;>simp[zR,bc,reduceCtorEq]at h
 all_goals subst h;rfl
def uG:SV->Option ByteArray
 | .str s=>some s
 | _=>none
theorem ic{s}{b}(h:uG s=some b) β:val β s=.string b:=by
 cases s<;>simp[uG,bc,reduceCtorEq]at h
 all_goals subst h;rfl
def Kq:SV->Option Sl
 | .sl s=>some s
 | .nsl=>some Sl.nil
 | _=>none
theorem jQ{s}{b}(h:Kq s=some b) β:val β s=b.v:=by
 cases s<;>simp[Kq,bc,reduceCtorEq]at h
 all_goals subst h;rfl
def ib(op:BinOp)(k:IntKind)(m n:Int):Option SV:=match op with
 | .add=>some (.int k (k.wrap (m+n)))
 | .sub=>some (.int k (k.wrap (m-n)))
 | .mul=>some (.int k (k.wrap (m*n)))
 | .eql=>some (.bt (m==n))
 | .neq=>some (.bt (m !=n))
 | .lss=>some (.bt (decide (m<n)))
 | .leq=>some (.bt (decide (m<=n)))
 | .gtr=>some (.bt (decide (m>n)))
 | .geq=>some (.bt (decide (m>=n)))
 | .and=>some (.int k (bits .and k m n))
 | .or=>some (.int k (bits .or k m n))
 | .xor=>some (.int k (bits .xor k m n))
 | .andNot=>some (.int k (bits .andNot k m n))
 | _=>none
def sb(op:BinOp)(s u:ByteArray):Option SV:=match op with
 | .eql=>some (.bt (s.toList==u.toList))
 | .neq=>some (.bt (!(s.toList==u.toList)))
 | .lss=>some (.bt (Op.bytesLess s.toList u.toList))
 | .geq=>some (.bt (!(Op.bytesLess s.toList u.toList)))
 | .leq=>some (.bt (Op.bytesLess s.toList u.toList||(s.toList==u.toList)))
 | .gtr=>some (.bt (!(Op.bytesLess s.toList u.toList||(s.toList==u.toList))))
 | _=>none
def nz(gs:List (Bool×Bool))(b:SV)(n:Int)(K:Prop):Prop:=match b with
 | .il _ _=>bif n==0 then False else K
 | _=>gi gs (n≠0)/\K
def ge0(gs:List (Bool×Bool))(b:SV)(n:Int)(K:Prop):Prop:=match b with
 | .il _ _=>bif decide (0<=n)then K else False
 | _=>gi gs (0<=n)/\K
def uZ:SV->Option (Option Addr)
 | .np=>some none
 | .ptr p=>some p
 | .ad a=>some (some a)
 | _=>none
theorem UK{s}{p}(h:uZ s=some p) β:val β s=.pointer p:=by
 cases s<;>simp[uZ,bc,reduceCtorEq]at h
 all_goals subst h;rfl
def pn(op:BinOp)(a:SV):Option SV:=match op,a with
 | .eql,.ptr p=>some (.bt p.isNone)
 | .neq,.ptr p=>some (.bt (!p.isNone))
 | .eql,.ad _=>some (.bl false)
 | .neq,.ad _=>some (.bl true)
 | .eql,.box _ _=>some (.bl false)
 | .neq,.box _ _=>some (.bl true)
 | .eql,.np=>some (.bl true)
 | .neq,.np=>some (.bl false)
 | _,_=>none
def sn(op:BinOp)(s:Sl):Option SV:=match op with
 | .eql=>some (.bt s.a.isNone)
 | .neq=>some (.bt (!s.a.isNone))
 | _=>none
def Qa:SV->Bool
 | .np=>true
 | _=>false
def FQ:SV->Bool
 | .nsl=>true
 | _=>false
def eq1(P:Program)(t:TypeId)(x y:SV):Option Bool:=match P.underlying t with
 | some (.int _)=>(match pU x,pU y with
  | some (k,m),some (k',n)=>bif decide (k=k')then some (m==n)else none
  | _,_=>none)
 | some .string=>(match uG x,uG y with
  | some s,some u=>some (s==u)
  | _,_=>none)
 | some .bool=>(match zR x,zR y with
  | some s,some u=>some (s==u)
  | _,_=>none)
 | _=>none
def FR(P:Program)(xs ys:List SV):List Field->Option Bool
 | []=>some true
 | f::r=>bif f.name== "_" then none else match xs[f.offset]?,ys[f.offset]? with
  | some x,some y=>(match eq1 P f.type x y,FR P xs ys r,r with
   | some b,some _,[]=>some b
   | some b,some c,_=>some (b&&c)
   | _,_,_=>none)
  | _,_=>none
def Zn(P:Program)(t:TypeId)(fs:Array Field)(a b:SV):Option Bool:=match a,b with
 | .agg l,.agg m=>bif BJ l&&BJ m&&!P.stoodInHeld t&&!P.eqGuardType P.depth t then FR P (mF l) (mF m) fs.toList else none
 | _,_=>none
def Zo(op:BinOp)(b:Bool):Option SV:=match op with
 | .eql=>some (.bt b)
 | .neq=>some (.bt (!b))
 | _=>none
def mn(op:BinOp)(a b:SV):Option SV:=match op,a,b with
 | .eql,.map m,.map none=>some (.bt m.isNone)
 | .neq,.map m,.map none=>some (.bt (!m.isNone))
 | _,_,_=>none
def Zp(P:Program)(gs:List (Bool×Bool))(op:BinOp)(t:TypeId)(a b:SV)(K:SV->Prop):Prop:=
 match pU a,pU b with
 | some (k,m),some (k',n)=>(match op with
  | .shl=>ge0 gs b n (K (.int k (k.wrap (m*2 ^ (min n.toNat k.bits)))))
  | .shr=>ge0 gs b n (K (.int k (m.fdiv (2 ^ (min n.toNat k.bits)))))
  | .quo=>bif decide (k=k')then nz gs b n (K (.int k (k.wrap (m.tdiv n))))else False
  | .rem=>bif decide (k=k')then nz gs b n (K (.int k (m.tmod n)))else False
  | _=>bif decide (k=k')then ck (ib op k m n) K else False)
 | _,_=>match uG a,uG b with
  | some s,some u=>(match op with
   | .add=>gi gs ((s.size:Int)+u.size<=9223372036854775807)/\K (.str (s++u))
   | _=>ck (sb op s u) K)
  | _,_=>match zR a,zR b,P.underlying t with
   | some s,some u,some .bool=>(match op with
    | .eql=>K (.bt (s==u))
    | .neq=>K (.bt (!(s==u)))
    | _=>False)
   | _,_,_=>match P.underlying t with
    | some (.pointer _)=>bif Qa b then ck (pn op a) K else bif Qa a then ck (pn op b) K else False
    | some (.slice _)=>bif FQ b then ck ((Kq a).bind (sn op)) K else bif FQ a then ck ((Kq b).bind (sn op)) K else False
    | some (.struct fs)=>ck (Zn P t fs a b) λr=>ck (Zo op r) K
    | some (.map _ _)=>ck (mn op a b) K
    | _=>False
section
variable {P:Program} {gs:List (Bool×Bool)} {K:SV->Prop}
theorem Xn{b}{k}{n}{K}(hb:pU b=some (k,n))(h:nz gs b n K):K/\(gh gs->n≠0):=by
 unfold nz at h;split at h
 ·cases hn:(n==0)with
  | true=>rw[hn]at h;exact h.elim
  | false=>rw[hn]at h;exact⟨h,λ_=>acq⟩
 exact⟨h.2,λg=>gQ h.1 g⟩
theorem Qb{b}{n}{K}(h:ge0 gs b n K):K/\(gh gs->0<=n):=by
 unfold ge0 at h;split at h
 ·by_cases hn:0<=n
  ·rw[bL hn]at h;exact⟨h,λ_=>hn⟩
  rw[bH hn]at h;exact h.elim
 exact⟨h.2,λg=>gQ h.1 g⟩
theorem dD{b}{p}(h:bif b then p else False):b=true/\p:=by
 cases b with
 | true=>exact⟨rfl,h⟩
 | false=>exact h.elim
def mr(P:Program)(op:BinOp)(t:TypeId)(a b v:SV):Prop:=
 ∀β (act:Act) x y dst ty t' p af g w,act.eval x=val β a->act.eval y=val β b->
  (execOp act.eval ⟨dst,.binOp op t x y ty,t',p,af,g⟩).run P w=.ok (.value (val β v)) w
theorem aeh{op}{t}{a b v}{k}{m n}(ha:pU a=some (k,m))(hb:pU b=some (k,n))(h:ib op k m n=some v):mr P op t a b v:=by
 intro β act x y dst ty t' p af g w hx hy;rw[dx ha]at hx;rw[dx hb]at hy;cases op<;>simp[ib,bc,reduceCtorEq]at h
 all_goals subst h;simp[execOp,hx,hy];cases k<;>rfl
theorem aei{op}{t}{a b v}{s u}(ha:uG a=some s)(hb:uG b=some u)(h:sb op s u=some v):mr P op t a b v:=by
 intro β act x y dst ty t' p af g w hx hy;rw[ic ha]at hx;rw[ic hb]at hy;cases op<;>simp only[sb,bc,reduceCtorEq]at h
 all_goals subst h;simp only[execOp,hx,hy];rfl
theorem Xo{op}{t e}{a b v}(hu:P.underlying t=some (.pointer e))(hb:Qa b=true)(h:pn op a=some v):mr P op t a b v/\mr P op t b a v:=by
 have hbv:∀β,val β b=.pointer none:=λβ=>by
  unfold Qa at hb;split at hb
  ·rfl
  cases hb
 have key:∀β,∃(q:Option Addr) (r:Bool),val β a=.pointer q/\val β v=.bool r/\((op=.eql/\q.isNone=r)∨(op=.neq/\(!q.isNone)=r)):=by
  intro β;unfold pn at h;split at h<;>simp only[bc,reduceCtorEq]at h<;>subst h
  ·exact⟨_,_,rfl,rfl,.inl ⟨rfl,rfl⟩⟩
  ·exact⟨_,_,rfl,rfl,.inr ⟨rfl,rfl⟩⟩
  ·exact⟨_,_,rfl,rfl,.inl ⟨rfl,rfl⟩⟩
  ·exact⟨_,_,rfl,rfl,.inr ⟨rfl,rfl⟩⟩
  ·exact⟨_,_,rfl,rfl,.inl ⟨rfl,rfl⟩⟩
  ·exact⟨_,_,rfl,rfl,.inr ⟨rfl,rfl⟩⟩
  ·exact⟨_,_,rfl,rfl,.inl ⟨rfl,rfl⟩⟩
  exact⟨_,_,rfl,rfl,.inr ⟨rfl,rfl⟩⟩
 constructor
 ·intro β act x y dst ty t' p af g w hx hy;obtain⟨q,r,h1,h2,h3⟩:=key β;rw[h1]at hx;rw[hbv]at hy;rw[h2];rcases h3 with⟨rfl,h3⟩ | ⟨rfl,h3⟩
  ·exact Dk (run_underlying hu w) hx hy h3
  exact Dm (run_underlying hu w) hx hy h3
 intro β act x y dst ty t' p af g w hx hy;obtain⟨q,r,h1,h2,h3⟩:=key β;rw[h1]at hy;rw[hbv]at hx;rw[h2];rcases h3 with⟨rfl,h3⟩ | ⟨rfl,h3⟩
 ·exact Dl (run_underlying hu w) hx hy h3
 exact Dp (run_underlying hu w) hx hy h3
theorem Xp{op}{t e}{a b v}(hu:P.underlying t=some (.slice e))(hb:FQ b=true)(h:(Kq a).bind (sn op)=some v):mr P op t a b v/\mr P op t b a v:=by
 have hbv:∀β,val β b=.slice none 0 0:=λβ=>by
  unfold FQ at hb;split at hb
  ·rfl
  cases hb
 cases hs:Kq a with
 | none=>rw[hs]at h;cases h
 | some s=>
  rw[hs]at h;simp at h;constructor
  ·intro β act x y dst ty t' p af g w hx hy;rw[jQ hs]at hx;rw[hbv]at hy;cases op<;>simp only[sn,bc,reduceCtorEq]at h<;>subst h
   ·exact FH (run_underlying hu w) hx hy
   exact FJ (run_underlying hu w) hx hy
  intro β act x y dst ty t' p af g w hx hy;rw[jQ hs]at hy;rw[hbv]at hx;cases op<;>simp only[sn,bc,reduceCtorEq]at h<;>subst h
  ·exact FI (run_underlying hu w) hx hy
  exact FK (run_underlying hu w) hx hy
theorem aej{op:BinOp}{t k e:TypeId}{a b v}(hu:P.underlying t=some (.map k e))(h:mn op a b=some v):mr P op t a b v:=by
 intro β act x y dst ty t' p af g w hx hy;unfold mn at h;split at h<;>simp only[bc,reduceCtorEq]at h<;>subst h
 all_goals
  rename_i m;change act.eval x=.map m at hx;change act.eval y=.map none at hy;have hE:∀d,(Op.equalIn (d+1) t (.map m) (.map none)).run P w=.ok m.isNone w:=λd=>by
   unfold Op.equalIn;cases m<;>simp[Sem.run_bind,run_underlying hu w,Result.andThen_ok]<;>rfl
 ·have hB:binOp .eql t (.map m) (.map none)=(do pure (.bool ((<-Op.equal t (.map m) (.map none))))):=by cases m<;>rfl
  have hG:eqGuard .eql t x y (.map m) (.map none)=pure _:=rfl;simp[execOp,hx,hy,hG,hB,Op.equal,Op.maxDepth,Sem.run_bind,Sem.run_pure,Result.andThen_ok,hE 9999];rfl
 have hB:binOp .neq t (.map m) (.map none)=(do pure (.bool (!(<-Op.equal t (.map m) (.map none))))):=by cases m<;>rfl
 have hG:eqGuard .neq t x y (.map m) (.map none)=pure _:=rfl;simp[execOp,hx,hy,hG,hB,Op.equal,Op.maxDepth,Sem.run_bind,Sem.run_pure,Result.andThen_ok,hE 9999];rfl
theorem UL{t}{x y}{b}(h:eq1 P t x y=some b) β d w:P.plainKey t=true/\(Op.equalIn (d+1) t (val β x) (val β y)).run P w=.ok b w:=by
 unfold eq1 at h;split at h
 ·rename_i k hu;refine⟨adk,?_⟩;split at h
  ·rename_i k1 m k2 n hx hy;cases hk:decide (k1=k2)with
   | false=>rw[hk]at h;cases h
   | true=>
    rw[hk]at h;injection h with h;subst h;have hk:=aP hk;subst hk;rw[dx hx,dx hy];simp[Op.equalIn,run_underlying hu]
  cases h
 ·rename_i hu;refine⟨adk,?_⟩;split at h
  ·rename_i s u hx hy;injection h with h;subst h;rw[ic hx,ic hy];simp[Op.equalIn,run_underlying hu]
  cases h
 ·rename_i hu;refine⟨adk,?_⟩;split at h
  ·rename_i s u hx hy;injection h with h;subst h;rw[lR hx,lR hy];simp[Op.equalIn,run_underlying hu]
  cases h
 cases h
theorem FT{xs ys} β d w:∀{fs:List Field} {b:Bool},FR P xs ys fs=some b->(Op.eqFields (d+1) (cz β xs).toArray (cz β ys).toArray fs).run P w=.ok b w
 | [],b,h=>by
  simp[FR,bc]at h;subst h;simp[Op.eqFields]
 | f::r,b,h=>by
  unfold FR at h;cases hn:(f.name== "_")with
  | true=>rw[hn]at h;cases h
  | false=>
   rw[hn,ui]at h;split at h
   ·rename_i x y hx hy;have px:(cz β xs).toArray[f.offset]? =some (val β x):=by simp[cz,hx]
    have py:(cz β ys).toArray[f.offset]? =some (val β y):=by simp[cz,hy]
    have go:∀{b1 c:Bool},eq1 P f.type x y=some b1->FR P xs ys r=some c->(Op.eqFields (d+1) (cz β xs).toArray (cz β ys).toArray (f::r)).run P w=.ok (b1&&c) w:=fun{b1 c} h1 h2=>by
     obtain⟨k1,k2⟩:=UL h1 β d w;simp only[Op.eqFields,by simpa using hn,ne_eq,not_false_eq_true,yS,Sem.run_bind,run_part_plain w k1 px,run_part_plain w k1 py,k2,Result.andThen_ok];cases b1
     ·simp
     simpa using FT β d w h2
    split at h
    ·rename_i b1 c h1 h2;injection h with h;subst h;have:=go h1 h2;simp[FR,bc]at h2;subst h2;rwa[ni]at this
    ·rename_i b1 c h1 _ h2;injection h with h;subst h;exact go h1 h2
    cases h
   cases h
theorem UM{op}{t}{fs}{a b v}{r}(hu:P.underlying t=some (.struct fs))(h:Zn P t fs a b=some r)(hv:Zo op r=some v):mr P op t a b v:=by
 unfold Zn at h;split at h
 ·rename_i l m;obtain⟨h0,h⟩:(BJ l&&BJ m&&!P.stoodInHeld t&&!P.eqGuardType P.depth t)=true/\FR P _ _ fs.toList=some r:=by
   cases hc:(BJ l&&BJ m&&!P.stoodInHeld t&&!P.eqGuardType P.depth t)with
   | true=>rw[hc]at h;exact⟨rfl,h⟩
   | false=>rw[hc]at h;cases h
  simp at h0;obtain⟨⟨⟨h1,h2⟩,h3⟩,h4⟩:=h0;intro β act x y dst ty t' p af g w hx hy;have ea:∀{l:SV},BJ l=true->val β (.agg l)=.agg (cz β _).toArray:=λhl=>by
   show Value.agg (pT β _).toArray=_;rw[mq β hl]
  rw[ea h1]at hx;rw[ea h2]at hy;have hfs:P.fieldsOf t=fs:=by simp[Program.fieldsOf,hu]
  have hE:(Op.equalIn 10000 t (.agg (cz β (mF l)).toArray) (.agg (cz β (mF m)).toArray)).run P w=.ok r w:=by
   rw[show 10000=9999+1 from rfl,run_equalIn_struct w 9999 t _ _ (by rw[hfs];exact hu) h3,hfs];exact FT β 9998 w h
  have hG:∀op,(eqGuard op t x y (.agg (cz β (mF l)).toArray) (.agg (cz β (mF m)).toArray)).run P w=.ok () w:=λop=>by
   unfold eqGuard;cases op<;>simp[run_program,h4]
  unfold Zo at hv;split at hv
  ·injection hv with hv;subst hv;have hB:binOp .eql t (.agg (cz β (mF l)).toArray) _=(do pure (.bool (<-Op.equal t _ (.agg (cz β (mF m)).toArray)))):=rfl;simp[execOp,hx,hy,hB,Op.equal,Op.maxDepth,Sem.run_bind,Sem.run_pure,Result.andThen_ok,hE,hG];rfl
  ·injection hv with hv;subst hv;have hB:binOp .neq t (.agg (cz β (mF l)).toArray) _=(do pure (.bool (!(<-Op.equal t _ (.agg (cz β (mF m)).toArray))))):=rfl;simp[execOp,hx,hy,hB,Op.equal,Op.maxDepth,Sem.run_bind,Sem.run_pure,Result.andThen_ok,hE,hG];rfl
  cases hv
 cases h
theorem UN{op}{t}{a b}(h:Zp P gs op t a b K):∃v,K v/\(gh gs->mr P op t a b v):=by
 unfold Zp at h;split at h
 ·rename_i k m k' n ha hb;have gen:∀{K:SV->Prop},(bif decide (k=k')then ck _ K else False)->∃v,K v/\(gh gs->mr P op t a b v):=λh=>by
   obtain⟨hY,h1⟩:=dD h;have hk:=aP hY;subst hk;obtain⟨v,hv,hK⟩:=bC h1;exact⟨v,hK,λ_=>aeh ha hb hv⟩
  split at h
  ·obtain⟨h,hn⟩:=Qb h;exact⟨_,h,λg β act x y dst ty t' p af gg w hx hy=>adZ (by rw[hx,dx ha]) (by rw[hy,dx hb]) (hn g)⟩
  ·obtain⟨h,hn⟩:=Qb h;exact⟨_,h,λg β act x y dst ty t' p af gg w hx hy=>ad0 (by rw[hx,dx ha]) (by rw[hy,dx hb]) (hn g)⟩
  ·obtain⟨hY,h1⟩:=dD h;have hk:=aP hY;subst hk;obtain⟨h2,hn⟩:=Xn hb h1;exact⟨_,h2,λg β act x y dst ty t' p af gg w hx hy=>adX (by rw[hx,dx ha]) (by rw[hy,dx hb]) (hn g)⟩
  ·obtain⟨hY,h1⟩:=dD h;have hk:=aP hY;subst hk;obtain⟨h2,hn⟩:=Xn hb h1;exact⟨_,h2,λg β act x y dst ty t' p af gg w hx hy=>adY (by rw[hx,dx ha]) (by rw[hy,dx hb]) (hn g)⟩
  exact gen h
 split at h
 ·rename_i s u ha hb;split at h
  ·exact⟨_,h.2,λg β act x y dst ty t' p af gg w hx hy=>PQ (by rw[hx,ic ha]) (by rw[hy,ic hb]) (gQ h.1 g)⟩
  obtain⟨v,hv,hK⟩:=bC h;exact⟨v,hK,λ_=>aei ha hb hv⟩
 split at h
 ·rename_i s u ha hb hu;split at h
  ·exact⟨_,h,λg β act x y dst ty t' p af gg w hx hy=>Nf hu (by rw[hx,lR ha]) (by rw[hy,lR hb])⟩
  ·exact⟨_,h,λg β act x y dst ty t' p af gg w hx hy=>Ng hu (by rw[hx,lR ha]) (by rw[hy,lR hb])⟩
  exact h.elim
 split at h
 ·rename_i e hu;cases hb:Qa b with
  | true=>
   rw[hb]at h;obtain⟨v,hv,hK⟩:=bC h;exact⟨v,hK,λ_=>(Xo hu hb hv).1⟩
  | false=>
   rw[hb]at h;obtain⟨ha,h⟩:=dD h;obtain⟨v,hv,hK⟩:=bC h;exact⟨v,hK,λ_=>(Xo hu ha hv).2⟩
 ·rename_i e hu;cases hb:FQ b with
  | true=>
   rw[hb]at h;obtain⟨v,hv,hK⟩:=bC h;exact⟨v,hK,λ_=>(Xp hu hb hv).1⟩
  | false=>
   rw[hb]at h;obtain⟨ha,h⟩:=dD h;obtain⟨v,hv,hK⟩:=bC h;exact⟨v,hK,λ_=>(Xp hu ha hv).2⟩
 ·rename_i fs hu;obtain⟨r,hr,h⟩:=bC h;obtain⟨v,hv,hK⟩:=bC h;exact⟨v,hK,λ_=>UM hu hr hv⟩
 ·rename_i kk ee hu;obtain⟨v,hv,hK⟩:=bC h;exact⟨v,hK,λ_=>aej hu hv⟩
 exact h.elim
end
def UO:SV->Bool
 | .agg _=>false
 | .tup _=>false
 | .un=>false
 | .e=>false
 | .c _ _=>false
 | _=>true
def Kr:List SV->Bool
 | []=>true
 | s::r=>UO s&&Kr r
theorem FU{s}(h:UO s=true) β:(val β s).oneCell'=true/\(val β s).cells=#[val β s]:=by
 cases s with
 | raw v=>
  have e:val β (.raw v)=v.v:=rfl;refine⟨v.one,?_⟩;obtain⟨v,hv⟩:=v;cases v<;>first | rfl | (simp[Value.oneCell']at hv)
 | _=>first | exact⟨rfl,rfl⟩ | (simp[UO]at h)
theorem Ci:∀{l:List SV},Kr l=true->∀β,(cz β l).all Value.oneCell'=true
 | [],_,_=>rfl
 | s::r,h,β=>by
  simp[Kr,aU]at h;simp only[cz,bG,List.all_cons,aU];exact⟨(FU h.1 β).1,Ci h.2 β⟩
def zT:SV->Option (List SV)
 | .agg l=>bif BJ l&&Kr (mF l)then some (mF l)else none
 | s=>bif UO s then some [s]else none
theorem Dy{α:Type}{b}{x}{y:α}(h:(bif b then some x else none)=some y):b=true/\x=y:=by
 cases b with
 | true=>exact⟨rfl,abi⟩
 | false=>cases h
theorem wP{s}{l}(h:zT s=some l) β:(val β s).cells=(cz β l).toArray/\(cz β l).all Value.oneCell'=true:=by
 unfold zT at h;split at h
 ·obtain⟨h1,rfl⟩:=Dy h;simp at h1;refine⟨?_,Ci h1.2 β⟩;show(pT β _).toArray=_;rw[mq β h1.1]
 obtain⟨h1,rfl⟩:=Dy h;obtain⟨h2,h3⟩:=FU h1 β;exact⟨h3,by simp[cz,h2]⟩
def Iy:List az->Option (List SV)
 | []=>some []
 | v::r=>match P7 v,Iy r with
  | some s,some l=>some (s::l)
  | _,_=>none
theorem yX β:∀{l:List az} {s:List SV},Iy l=some s->cz β s=l
 | [],s,h=>by simp[Iy,bc]at h;subst h;rfl
 | v::r,s,h=>by
  simp[Iy]at h;split at h
  ·rename_i s' l' h1 h2;simp at h;subst h;have:=yX β h2;simp only[cz,bG]at this⊢;rw[zQ h1,this]
  cases h
def spl(cs:List SV)(o:Nat)(vs:List SV):List SV:=cs.take o++vs++cs.drop (o+vs.length)
theorem FV β cs o vs:cz β (spl cs o vs)=cx (cz β cs) o (cz β vs):=by
 simp[cz,spl,cx,dc,nj,qN,bA]
theorem FW{off}:∀vs k cs,off+k+vs.length<=cs.length->
  (vs.zipIdx k).foldl (λcs x=>cs.setIfInBounds (off+x.2) x.1) cs.toArray=(cx cs (off+k) vs).toArray
 | [],k,cs,_=>by simp[cx]
 | v::vs,k,cs,h=>by
  simp at h;have e:cs.toArray.setIfInBounds (off+k) v=(cs.set (off+k) v).toArray:=aaa
  rw[List.zipIdx_cons,kM];rw[e,FW vs _ _ (by rw[iq];omega)];simp[cx,bp];rw[show off+_=off+k+1 by omega,bF,oL aG,Fm (ba _),Fp aG,show off+k+1+vs.length=off+k+(vs.length+1) by omega];simp
def Cj(place:Nat->Option (Nat×Nat)):List SV->List (Nat×SV)->Option (List SV)
 | cells,[]=>some cells
 | cells,(i,v)::rest=>match place i,zT v with
  | some (off,size),some vs=>bif Nat.beq vs.length size&&Nat.ble (off+vs.length) cells.length then Cj place (spl cells off vs) rest else none
  | _,_=>none
theorem zU β {place}:∀{parts:List _} {cells r:List SV},Cj place cells parts=some r->Instr.fill place (cz β cells).toArray (Cg β parts)=some (cz β r).toArray
 | [],cells,r,h=>by simp[Cj,bc]at h;subst h;rfl
 | _::rest,cells,r,h=>by
  simp[Cj]at h;split at h
  ·rename_i off size vs hp hc;cases hb:(Nat.beq vs.length size&&Nat.ble _ cells.length)with
   | false=>rw[hb]at h;cases h
   | true=>
    rw[hb]at h;simp only[aU]at hb;have h1:=bZ hb.1;have h2:=cG hb.2;obtain⟨e1,_⟩:=wP hc β;have ih:=zU β (parts:=rest) (cells:=spl cells off vs) h;rw[FV]at ih;simp only[Cg,bG,Instr.fill,hp,e1,eJ,fx];rw[aX aab];have e2:=FW (off:=off) (cz β vs) 0 (cz β cells) (by rw[fx,fx];omega);rw[fE]at e2;have e3:(cz β vs).toArray.zipIdx.foldl (λcs x=>cs.setIfInBounds (off+x.2) x.1) (cz β cells).toArray=(cx (cz β cells) off (cz β vs)).toArray:=by
     rw[<-e2];simp
    exact(bh (λa=>Instr.fill place a _) e3).trans ih
  cases h
def Zr(P:Program)(t:TypeId)(parts:List (Nat×SV)):Option (List SV):=
 match P.info? t,P.underlying t with
 | some it,some (.array _ e)=>(match it.zero,P.info? e with
  | some z,some ie=>(match Iy z.cells.toList with
   | some zs=>Cj (λi=>some (i*ie.size,ie.size)) zs parts
   | none=>none)
  | _,_=>none)
 | some it,some (.struct fields)=>(match it.zero,fields.toList.mapM (λf=>(P.info? f.type).map λi=>(f.offset,i.size))with
  | some z,some places=>(match Iy z.cells.toList with
   | some zs=>Cj (places.toArray[·]?) zs parts
   | none=>none)
  | _,_=>none)
 | _,_=>none
theorem UQ{P}{t}{parts}{r}(h:Zr P t parts=some r) β w:(Instr.build t (Cg β parts).toArray).run P w=.ok (.agg (cz β r).toArray) w:=by
 refine run_build w t _ _ ?_;unfold Zr at h;split at h
 ·rename_i it n e h1 h2;split at h
  ·rename_i z ie h3 h4;split at h
   ·rename_i zs h5;have:=zU β h;rw[yX β h5]at this;simp[Program.built,h1,h2,h3,h4];simpa using this
   cases h
  cases h
 ·rename_i it fields h1 h2;split at h
  ·rename_i z places h3 h4;split at h
   ·rename_i zs h5;have:=zU β h;rw[yX β h5]at this;simp[Program.built,h1,h2,h3,h4];simpa using this
   cases h
  cases h
 cases h
end Go.Kt.V
