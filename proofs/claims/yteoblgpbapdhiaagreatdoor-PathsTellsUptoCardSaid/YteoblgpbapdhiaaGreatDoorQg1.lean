import Derived.WalkKit
import Derived.Deep.LoopGhost
import Derived.Deep.Quiet
import Derived.OrdersHeld
import Derived.Great.BuildSlice
import Derived.Test.YteoblgpbapdhiaaGreatDoorRows
import Derived.Ground.Names2Prog
import Derived.Ground.SlgcProg
import Derived.Lib.ParseIntB
import Derived.Lib.Bytealg
import Derived.Lib.ItoaLen
import Derived.Lib.AtoiErrMem
import Derived.Lib.Builder
import Derived.Lib.Join
import Derived.Lib.Repeat
import Derived.ProofKit
import Derived.OpenShut
import Derived.Deep.CondSized
import Derived.Lib.SlicesCompact
import Derived.Lib.TrailingZeros
import Derived.Lib.SlKeysI
import Derived.Ground.GgzProg
import Derived.Ground.SlgmProg
import Derived.Ground.SlsfProg
set_option linter.all false
open Go.Proofs Go.Proofs.Tryz
open Bool renaming true->aE,false->aL
open Option renaming some->aM,none->VM
open List renaming length->WS
open Decidable renaming decide->JW
abbrev Kaa:ByteArray:=⟨#[99,104,97,114,116]⟩
abbrev Kab:ByteArray:=⟨#[118,97,114]⟩
abbrev Kac:ByteArray:=⟨#[115,116,97,116,101]⟩
abbrev Kad:ByteArray:=⟨#[112,97,114,97,108,108,101,108]⟩
abbrev Kae:ByteArray:=⟨#[104,105,115,116,111,114,121]⟩
abbrev Kaf:ByteArray:=⟨#[100,101,101,112]⟩
abbrev Kag:ByteArray:=⟨#[99,104,97,114,116,32]⟩
abbrev Kah:ByteArray:=⟨#[32,123]⟩
abbrev Kai:ByteArray:=⟨#[118,97,114,32]⟩
abbrev Kaj:ByteArray:=⟨#[32,61,32]⟩
abbrev Kak:ByteArray:=⟨#[97,102,116,101,114]⟩
abbrev Kal:ByteArray:=⟨#[97,108,119,97,121,115]⟩
abbrev Kam:ByteArray:=⟨#[101,109,105,116]⟩
abbrev Kan:ByteArray:=⟨#[101,110,116,101,114]⟩
abbrev Kao:ByteArray:=⟨#[105,110]⟩
abbrev Kap:ByteArray:=⟨#[105,110,105,116,105,97,108]⟩
abbrev Kaq:ByteArray:=⟨#[108,101,97,118,101]⟩
abbrev Kar:ByteArray:=⟨#[111,110]⟩
abbrev Kas:ByteArray:=⟨#[114,97,105,115,101]⟩
abbrev Kat:ByteArray:=⟨#[115,101,116]⟩
abbrev Kau:ByteArray:=⟨#[45,62]⟩
abbrev Kav:ByteArray:=⟨#[108,101,97,118,101,32]⟩
abbrev Kaw:ByteArray:=⟨#[101,110,116,101,114,32]⟩
abbrev Kax:ByteArray:=⟨#[105,110,105,116,105,97,108,32]⟩
abbrev Kay:ByteArray:=⟨#[32,45,62,32]⟩
abbrev Kaz:ByteArray:=⟨#[32,91]⟩
abbrev Ka0:ByteArray:=⟨#[97,102,116,101,114,32]⟩
abbrev Ka1:ByteArray:=⟨#[104,105,115,116,111,114,121,32]⟩
abbrev Ka2:ByteArray:=⟨#[100,101,101,112,32]⟩
abbrev Ka3:ByteArray:=⟨#[115,116,97,116,101,32]⟩
abbrev Ka4:ByteArray:=⟨#[112,97,114,97,108,108,101,108,32]⟩
abbrev Ka5:ByteArray:=⟨#[115,101,116,32]⟩
abbrev Ka6:ByteArray:=⟨#[114,97,105,115,101,32]⟩
abbrev Ka7:ByteArray:=⟨#[101,109,105,116,32]⟩
abbrev Ka8:ByteArray:=⟨#[60,61]⟩
abbrev Ka9:ByteArray:=⟨#[62,61]⟩
abbrev Kba:ByteArray:=⟨#[61,61]⟩
abbrev Kbb:ByteArray:=⟨#[33,61]⟩
abbrev Kbc:ByteArray:=⟨#[38,38]⟩
abbrev Kbd:ByteArray:=⟨#[124,124]⟩
abbrev Kbe:ByteArray:=⟨#[105,110,40]⟩
abbrev Kbf:ByteArray:=⟨#[123,125,40,41,91,93,59,44,61,43,45,42,47,37,60,62,33]⟩
def X{P:Prop}(h:P:=by omega):P:=h
def Y5:=@X
def Z{P:Prop}(h:P:=by decide):P:=h
def R{P:Prop}(h:P:=by grind):P:=h
def W5:=@R
def N0{P:Prop}(h:P:=by rw[eI (by omega) (by omega)];rfl):P:=h
def D{P:Prop}(h:P:=by kernel_rfl):P:=h
def ZQ:=@D
def N{P:Prop}(h:P:=by simp):P:=h
def W0:=@N
def o{P:Prop}(h:P:=by simp;omega):P:=h
def V6:=@o
def A{P:Prop}(h:P:=by simp_all):P:=h
def Rl:=@A
section
variable{P:Prop}
def WT(h:P:=by unfold eF;dsimp only;omega):=h
def WH(h:P:=by simpa using hc):=h
def P9(h:P:=by assumption):=h
def Wq(h:P:=by simpa using hk):=h
def VI(h:P:=by cases h):=h
def Mi(h:P:=by rfl):=h
def Hn(h:P:=by rw[cE];omega):=h
def PZ(h:P:=by have:=aN hc;omega):=h
def TB(h:P:=by have:=h.k0;have:=h.k1;have:=h1.o.size;simp;omega):=h
def YI(h:P:=by simp at h):=h
def YD(h:P:=by have:=aQ hc;omega):=h
def Rs(h:P:=by dsimp only;decide):=h
def P0(h:P:=by dsimp only;omega):=h
def zg(h:P:=by unfold eF zL;dsimp only;omega):=h
def Rg(h:P:=by simpa using hb):=h
def QT(h:P:=by simp only[bh]at hk;omega):=h
def Ze(h:P:=by simpa using he):=h
def Rc(h:P:=by rw[hy]at ha;simpa[lw]using ha):=h
def YW(h:P:=by simpa using h):=h
def Q1(h:P:=by simpa using h1):=h
def Jl(h:P:=by unfold iw at hf;omega):=h
def Bb(h:P:=by have:=h.hG k hk;simp at hm;omega):=h
def JX(h:P:=by simpa using hi):=h
def bW(h:P:=by simp only[bh];omega):=h
def Oe(h:P:=by rw[eI (by omega) (by omega)];omega):=h
def Ts(h:P:=by rw[bh]at hb;subst hb;exact .inl e1):=h
def UZ(h:P:=by have:=(hP.buf.lt e).2;omega):=h
def W4(h:P:=by rw[aU,bI];omega):=h
def WQ(h:P:=by rw[eK h0 dM];decide):=h
def WD(h:P:=by simpa using rr):=h
def X0(h:P:=by simpa using hm):=h
def Q4(h:P:=by unfold iw;omega):=h
def YV(h:P:=by have:=(h.hF k zd).1;have:=hO.size;omega):=h
def Ov(h:P:=by simp only[li,E6,bN]at hc;exact hc▸rfl):=h
def OS(h:P:=by simp at hx;omega):=h
def PW(h:P:=by have:=hk.2;omega):=h
def Zu(h:P:=by simpa using hf):=h
def ZY(h:P:=by simpa using h2):=h
def IZ(h:P:=by let⟨q,hq,_⟩:=hS.rt;exact fG hq):=h
def Ww(h:P:=by rw[aU];omega):=h
def SQ(h:P:=by rw[show ao #[59]=T [59]from rfl,gA]):=h
def Ta(h:P:=by rw[lX]at hi;simpa using hi):=h
def NP(h:P:=by unfold V at h;exact h.elim):=h
def Bt(h:P:=by rw[hy];rfl):=h
def YK(h:P:=by rw[hy];simp):=h
def ZP(h:P:=by simpa using hn):=h
def VK(h:P:=by simpa using hh):=h
def Mp(h:P:=by rw[tJ,aV,hx]):=h
def Ui(h:P:=by have:=h.hF k hk;simp at hm;omega):=h
def Tg(h:P:=by have:=(hS.blk e).2;grind):=h
def Tz(h:P:=by simp at hx;exact .inl<|by omega):=h
def Du(h:P:=by have:=hs.2.2;have:=hO.size;omega):=h
def OP(h:P:=by simp only[bh]at hm;omega):=h
def GR(h:P:=by have:=(G5 x hx).1;omega):=h
def eL(h:P:=by rw[hs];decide):=h
def Nk(h:P:=by simp only[ba,cy,fQ]at hx;omega):=h
def Jn(h:P:=by simpa using h4):=h
def Uh(h:P:=by unfold iw at hn;omega):=h
def Q5(h:P:=by simpa using k1):=h
def WU(h:P:=by simpa using k3):=h
def WI(h:P:=by simpa using k4):=h
def OG(h:P:=by unfold jX;split<;>rfl):=h
def OI(h:P:=by simp only[bh]at hx;simp[hx]):=h
def NS(h:P:=by simpa using hk.2):=h
def I0(h:P:=by rw[lX]at ho;simpa using ho):=h
def Dr(h:P:=by simp[Op.equalIn,hu]):=h
def NE(h:P:=by simp at hk;simp[hk]):=h
def T5(h:P:=by simpa using hG k hk):=h
def TQ(h:P:=by simp[Program.plainKey,hu]):=h
def TX(h:P:=by have:=(h.hF k zd).1;omega):=h
def H2(h:P:=by simp only[bh]at hx;omega):=h
def Uy(h:P:=by simpa using hr):=h
def UU(h:P:=by simpa using hv):=h
def ND(h:P:=by simpa using hx):=h
def H7(h:P:=by have:=(B4.lt e).1;omega):=h
def xC(h:P:=by have:=yr.lt;omega):=h
def Uv(h:P:=by rw[ck,bS];exact xT _ _):=h
def Z8(h:P:=by rw[oG,hl];rfl):=h
def Ks(h:P:=by decide+kernel):=h
def UM(h:P:=by rw[hb];decide):=h
def MO(h:P:=by simp at hq;omega):=h
def SR(h:P:=by have:=hk.1;omega):=h
def ME(h:P:=by have:=agn x;omega):=h
def MV(h:P:=by have:=h.hF k hk;grind):=h
def Ng(h:P:=by have:=HR.br _ e;omega):=h
def OQ(h:P:=by first|rfl|trivial):=h
def ZW(h:P:=by rw[rB];omega):=h
def Mh(h:P:=by rw[hk];rfl):=h
def FP(h:P:=by rw[hy];simp[zl]):=h
def Te(h:P:=by rw[ck];omega):=h
def Z0(h:P:=by have:=hks k hk;omega):=h
def UG(h:P:=by simpa using ux):=h
def Dz(h:P:=by simpa using tA):=h
def UI(h:P:=by simpa using k2):=h
def Fl(h:P:=by simpa using hs):=h
def Ox(h:P:=by simpa using iH):=h
def Tu(h:P:=by simpa using hp):=h
def NT(h:P:=by simpa using dM):=h
def Tn(h:P:=by rw[hp];decide):=h
def TU(h:P:=by rw[hw];decide):=h
def SM(h:P:=by rw[hh];decide):=h
def Nh(h:P:=by rw[aX,hy];rfl):=h
def Nl(h:P:=by rw[aX,a2];rfl):=h
def TE(h:P:=by rw[h1];rfl):=h
def Ho(h:P:=by cases hb):=h
def V3(h:P:=by cases hx):=h
end
universe u
def I{z:Sort u}{a:z}:a=a:=rfl
abbrev J:=List
abbrev Y7:=@J
abbrev C:=Bool
def S:=@of_decide_eq_true
def aN:=@S
def aO:=@Bool.and_eq_true
def Q:=@if_neg
def aP:=@Q
def aQ:=@of_decide_eq_false
def aR:=@List.getElem?_eq_getElem
def aU:=@List.length_append
def aV:=@Int.toNat_natCast
def E:=@if_pos
def aW:=@E
def aX:=@List.take_add_one
def aY:=@List.length_cons
def aZ:=@List.getElem?_eq_some_iff
def ba:=@List.mem_cons
def bc:=@Nat.le_refl
def be:=@List.mem_of_getElem?
def bf:=@Int.natCast_nonneg
def bh:=@List.mem_singleton
def bm:=@List.take_of_length_le
def bn:=@congrArg
def bp:=@List.append_assoc
def bq:=@List.append_nil
def bB:=@decide_eq_true_eq
def bC:=@Nat.le_trans
def bE:=@Nat.zero_le
def bI:=@List.length_singleton
def bK:=@Decidable.byContradiction
def bM:=@Bool.eq_iff_iff
def bN:=@Option.some.injEq
def bO:=@decide_eq_true
def bP:=@List.length_map
def bR:=@decide_eq_false
def bS:=@Nat.zero_add
def bZ:=@List.cons_append
def cd:=@Bool.true_and
def ch:=@List.map_cons
def cj:=@Bool.or_eq_true
def ck:=@List.length_nil
def cr:=@List.take_zero
def cu:=@List.getElem?_eq_none
def cy:=@List.not_mem_nil
def cD:=@Nat.lt_of_lt_of_le
def cJ:=@List.nil_append
def cK:=@List.map_append
def cM:=@List.eq_nil_of_length_eq_zero
def cP:=@List.getElem?_map
def cT:=@List.length_drop
def cX:=@List.getElem?_cons_zero
def cZ:=@List.mem_append
def db:=@Nat.eq_of_beq_eq_true
def de:=@List.getElem?_append_left
def dj:=@List.length_take
def dk:=@decide_eq_false_iff_not
def dw:=@beq_iff_eq
def dx:=@decide_eq_true_iff
def dA:=@List.take_length
def dD:=@List.append_eq_nil_iff
def dK:=@List.mem_map
def dR:=@List.getElem?_append_right
def dS:=@Bool.not_eq_true'
def dT:=@Bool.false_and
def dW:=@Bool.and_true
def ez:=@Nat.add_assoc
def eH:=@Bool.or_eq_false_iff
def eS:=@List.take_append_drop
def eU:=@List.filter_append
def eV:=@List.drop_eq_getElem_cons
def fk:=@List.getElem?_of_mem
def fl:=@Option.isSome_iff_exists
def fm:=@List.sum_cons
def fy:=@List.pairwise_iff_getElem
def fE:=@List.flatten_cons
def fF:=@List.drop_of_length_le
def fJ:=@Nat.le_of_ble_eq_true
def fL:=@List.take_succ_cons
def fM:=@List.takeWhile_cons
def fN:=@List.filter_nil
def fO:=@List.mem_filter
def fP:=@List.getElem?_cons_succ
def fQ:=@or_false
def gj:=@List.exists_mem_of_ne_nil
def gp:=@Option.map_eq_some_iff
def gv:=@List.all_eq_true
def gH:=@Nat.add_sub_cancel_left
def gM:=@List.pairwise_cons
def gN:=@Option.map_some
def gV:=@List.map_map
def gW:=@List.any_eq_true
def gZ:=@List.foldl_append
def ij:=@List.length_filter_le
def iq:=@List.all_append
def iB:=@List.mem_cons_self
def iM:=@Bool.eq_false_iff
def iX:=@Nat.add_mul
def jm:=@Option.getD_some
def jo:=@Bool.not_eq_false'
def jp:=@List.mem_flatMap
def jG:=@List.drop_drop
def jH:=@Bool.and_false
def jR:=@List.ext_getElem?
def kg:=@Array.length_toList
def ki:=@List.drop_succ_cons
def kj:=@List.flatMap_append
def ku:=@Nat.add_zero
def kB:=@Nat.le_succ
def lg:=@List.drop_zero
def li:=@List.singleton_append
def lU:=@Nat.mul_one
def lV:=@List.map_nil
def lW:=@List.pairwise_map
def mf:=@List.all_cons
def mg:=@List.map_take
def mM:=@List.toList_toArray
def mX:=@List.getElem_mem
def mY:=@List.length_eq_zero_iff
def nN:=@List.getElem?_drop
def nP:=@Array.getElem?_eq_none
def oe:=@if_false
def oA:=@List.getElem?_toArray
def oB:=@Bool.and_eq_false_iff
def oE:=@List.size_toArray
def pj:=@Nat.add_le_add
def qm:=@Nat.add_comm
def qn:=@Bool.not_eq_true
def qo:=@decide_eq_decide
def qp:=@Nat.le_of_not_lt
def qB:=@Classical.byContradiction
def qC:=@List.getElem?_zip_eq_some
def ru:=@List.foldl_cons
def ry:=@Except.ok.injEq
def rN:=@Bool.false_eq_true
def rU:=@Int.le_refl
def tF:=@List.flatMap_cons
def tG:=@Nat.lt_or_ge
def tH:=@List.sum_nil
def tI:=@or_congr_right
def uy:=@Array.getElem?_modify
def vD:=@List.eq_nil_iff_forall_not_mem
def vK:=@Prod.mk.injEq
def wZ:=@List.nodup_cons
def xa:=@List.any_append
def xb:=@List.map_congr_left
def xd:=@List.length_pos_iff
def xf:=@Int.toNat_of_nonneg
def xh:=@List.getElem_of_mem
def yw:=@Nat.zero_mul
def yx:=@Nat.sub_zero
def zE:=@List.mem_range
def zF:=@List.getElem?_take
def zG:=@List.elem_cons
def zH:=@Bool.and_assoc
def AJ:=@Nat.lt_succ_of_le
def AK:=@List.length_range
def AM:=@Decidable.not_not
def B6:=@List.map_drop
def Dm:=@List.flatMap_nil
def Ec:=@List.drop_eq_nil_of_le
def Ed:=@List.getElem?_set_self
def Ee:=@Nat.sub_self
def Ef:=@List.getElem_cons_drop
def E5:=@Option.map_none
def E6:=@List.head?_cons
def G9:=@List.set_append_right
def Ha:=@List.length_replicate
def HS:=@Nat.mul_le_mul_right
def HT:=@List.mem_cons_of_mem
def HU:=@List.pairwise_append
def HV:=@Nat.testBit_or
def HW:=@Nat.eq_of_testBit_eq
def LN:=@Nat.mul_le_mul_left
def LO:=@List.take_set_of_le
def LP:=@beq_eq_false_iff_ne
def Mb:=@Bool.false_or
def Mc:=@Int.ofNat.inj
def R6:=@if_true
def R7:=@List.getElem?_set
def R8:=@List.filter_congr
def R9:=@Bool.not_not
def Sa:=@List.all_eq_false
def cx:=@Array.getElem?_setIfInBounds_ne
def XM:=@Array.toList_inj
def XN:=@Nat.succ_le_succ
def XO:=@Nat.zero_testBit
def XP:=@beq_self_eq_true
def or3:=@List.take_append_of_le_length
def YA:=@List.mem_eraseIdx_iff_getElem
def MS:=@List.cons.injEq
def a7:=@UInt8.toNat_inj
def UT:=@List.range_succ
def Uw:=@List.length_set
def Ud:=@List.head?_drop
def DD:=@List.of_mem_zip
def II:=@Option.some.inj
def re:=@List.take_length_add_append
abbrev aRd(w v:Go.World)(k:Nat)(p:Prop):Prop:=w.heap.size<=k->k<v.heap.size->p
abbrev aG:=Go.Value->Go.World->Prop
abbrev L:=J UInt8
abbrev aI:=J Go.Value
abbrev h:=Nat->Prop
abbrev aJ:=@h
abbrev M:=ByteArray
namespace Go.Kt
open Go renaming World->av,Value->aw
open Go Go.RowKit
structure Sl where
 a:Option Addr
 n:Nat
 c:Nat
@[reducible] def Sl.v(s:Sl):aw:=.slice s.a s.n s.c
@[reducible] def Sl.nil:Sl:=⟨VM,0,0⟩
def Sl.cut(s:Sl)(l h m i:Nat):Sl:=⟨if m=l then s.a else s.a.map (·.add (l*i)),h-l,m-l⟩
def ci(s:Sl)(i:Int)(size:Nat)(ad:Addr):=∃b,s.a=aM b/\0<=i/\i<s.n/\ad=b.add (i.toNat*size)
structure Only (bs:List Nat) (w w':av):Prop where
 os:w'.os=w.os
 tape:w'.tape=w.tape
 output:w'.output=w.output
 size:w.heap.size<=w'.heap.size
 block:∀k,k<w.heap.size->k∉bs->w'.heap[k]? =w.heap[k]?
def Blk(w:av)(b:Nat)(t:TypeId)(c:J aw):Prop:=w.heap[b]? =aM (.cells c.toArray t (0,0))
def Cells(w:av)(a:Addr)(c:J aw):=∀j v,c[j]? =aM v->w.cell? (a.add j)=aM v
def bX(s:J Nat)(w a:av):=∀b∈s,a.heap[b]? =w.heap[b]?
def jq(b:UInt8):aw:=.int .u8 b.toNat
def wE(w:av)(s:Sl)(l:J UInt8):Prop:=s.n=WS l/\(l≠[]->∃ad,s.a=aM ad/\Cells w ad (l.map jq))
def Sl.blk(s:Sl):Nat:=match s.a with|some a=>a.block|none=>0
def fX(c:J aw)(o:Nat)(v:J aw):J aw:=c.take o++v++c.drop (o+WS v)
section
variable{w w' wU:av}{bs bs':J Nat}{b:Nat}{t:TypeId}{cs:J aw}
def Blk.lt(h:Blk w b t cs):b<w.heap.size:=(Array.getElem?_eq_some_iff.1 h).1
def Only.refl bs w:Only bs w w:=⟨I,I,I,X,λ_ _ _=>I⟩
def qE:=@Only.refl
theorem Only.weaken(h:Only bs w w')(b:∀x∈bs,x∈bs'∨w.heap.size<=x):Only bs' w w':=
 ⟨h.os,h.tape,h.output,h.size,λk hk n=>h.block k hk R⟩
theorem Only.trans(h:Only bs w w')(k:Only bs' w' wU)(b:∀x∈bs',x∈bs∨w.heap.size<=x):Only bs w wU:=
 ⟨k.os.trans h.os,k.tape.trans h.tape,k.output.trans h.output,bC h.size k.size,λa i n=>
  (k.block a (cD i h.size) R).trans (h.block a i n)⟩
def Only.bG(h:Only bs w w')(k:Only [] w' wU):Only bs w wU:=h.trans k N
theorem Only.cons(h:Only bs w w')(k:Only [b] w' wU):Only (b::bs) w wU:=
 (h.weaken (bs':=b::bs) A).trans k R
theorem Only.mem(h:Only bs w w')(k:Only [b] w' wU)(a:b∈bs):Only bs w wU:=h.trans k R
theorem Only.new(h:Only bs w w')(k:Only [b] w' wU)(a:w.heap.size<=b):Only bs w wU:=h.trans k R
def Only.blk(a:Only bs w w')(h:Blk w b t cs)(n:b∉bs):Blk w' b t cs:=(a.block b h.lt n).trans h
theorem Only.below(h:Only bs w w'){B}(a:B<=w.heap.size)(b:∀x∈bs,B<=x):Below B w w':=
 ⟨h.os,h.tape,h.output,h.size,λk hk=>h.block k X R⟩
def Only.tj(h:Below w.heap.size w w'):Only [] w w':=⟨h.os,h.tape,h.output,h.size,λk hk _=>h.block k hk⟩
def YO:=@Only.tj
theorem Only.acp{row}(h:w.grownBy w' row):Only row.toList w w':=⟨h.os,h.tape,h.output,h.size,λk hk n=>h.block k hk R⟩
def Only.drew w:Only [] w w.drew:=⟨I,I,I,bc _,λ_ _ _=>I⟩
def Only.drewN w n:Only [] w (w.drewN n):=⟨I,I,I,bc _,λ_ _ _=>I⟩
def Us:=@Only.drewN
def Only.alloc w o:Only [] w (w.alloc o):=⟨I,I,I,N,λk hk _=>_root_.Go.heap_alloc_old w o hk⟩
def Rk:=@Only.alloc
def Only.setRow w b cs:Only [b] w (w.setRow b cs):=⟨I,I,I,N,λk _ hn=>setRow_other w b k cs ZP⟩
def SG:=@Only.setRow
def Only.same(b:Only bs w w')(h:∀x∈bs',x<w.heap.size/\x∉bs):bX bs' w w':=λx a=>b.block x (h x a).1 (h x a).2
def Blk.alloc(w:av) t cs:Blk (w.alloc<|.cells cs.toArray t) w.heap.size t cs:=heap_alloc_new w _
def Jp:=@Blk.alloc
def Blk.setRow(h:Blk w b t cs) HE:Blk (w.setRow b HE.toArray) b t HE:=setRow_heap w b _ _ t _ h
def Blk.cell(h:Blk w b t cs) i:w.cell? ⟨b,i,VM⟩=cs[i]? :=by rw[cell_of_row w b i cs.toArray t _ h];simp
def Blk.cells(h:Blk w b t cs) o vs (d:∀j v,vs[j]? =aM v->cs[o+j]? =aM v):Cells w ⟨b,o,VM⟩ vs:=λj v c=>by
 let a:(⟨b,o,VM⟩:Addr).add j=⟨b,o+j,VM⟩:=by unfold Addr.add<;>simp_all
 rw[a,h.cell];exact d j v c
theorem Blk.Lp(h:Blk w b t cs) o vs (v:(cs.drop o).take (WS vs)=vs):Cells w ⟨b,o,VM⟩ vs:=h.cells o vs R
def Cells.one{a}{v}(h:Cells w a [v]):w.cell? a=aM v:=by have:=h 0 v I;assumption
def H8:=@Cells.one
def Cells.keep{a}(h:Cells w a cs)(hk:w'.heap[a.block]? =w.heap[a.block]?):Cells w' a cs:=λj v b=>by
 rw[World.cell?_of_block (w:=w) _ (a:=a.add j)]
 .exact h j v b
 have:(a.add j).block=a.block:=by unfold Addr.add;split<;>rfl
 rw[this,hk]
def Cells.lt'{a}(h:Cells w a cs)(c:cs≠[]):a.block<w.heap.size:=by
 cases cs with
 |nil=>exact absurd I c
 |cons v cs=>
  have:=block_lt_of_cell<|h 0 v I;assumption
def Cells.lt{a}{v}(h:Cells w a (v::cs)):a.block<w.heap.size:=by
 have:=h 0 v I;let b:=block_lt_of_cell this;assumption
end
section
variable{P:Program}{ops:Array Oper}{Q:Exit->Act->av->Prop}{rest:J Oper}{a a':Act}{w w':av}
def f0(l:J aw) ds (k:Nat) v:Act.put ⟨l.toArray,ds⟩ (aM k) v=⟨(l.set k v).toArray,ds⟩:=by simp[Act.put]
def f1 x l (v:aw):(x::l).set 0 v=v::l:=rfl
def f3(a:Act) v:a.put VM v=a:=rfl
def f2 x l k (v:aw):(x::l).set (k+1) v=x::l.set k v:=rfl
def iY:J Oper->Nat->Option Oper
 |[],_=>VM
 |v::_,0=>aM v
 |_::r,n+1=>iY r n
def lX:∀l n,iY l n=l[n]?
 |[],_=>rfl
 |_::_,0=>rfl
 |_::r,n+1=>lX r n
def UW:J aw->Nat->Option aw
 |[],_=>VM
 |v::_,0=>aM v
 |_::r,n+1=>UW r n
def Ji:∀l n,UW l n=l[n]?
 |[],_=>rfl
 |_::_,0=>rfl
 |_::r,n+1=>Ji r n
def wt{o oj}{eY}{l}{ds}{j d:Nat}{want b r}(c:o.guard=aM (j,want))(h:iY eY j=aM oj)(f:oj.dst=aM d)
  (a:UW l d=aM (.bool b)) (g:(b==want)=r):Region.wanted o (yielded eY.toArray (⟨l.toArray,ds⟩:Act).tmps)=r:=by
 subst g;rw[lX]at h;rw[Ji]at a;let e:yielded eY.toArray (⟨l.toArray,ds⟩:Act).tmps j=aM b:=by simp[yielded,h,f,a]
 simp only[Region.wanted,c,e];rfl
def wu{o oj}{eY}{l}{ds}{j d:Nat}{want}(b:o.guard=aM (j,want))(h:iY eY j=aM oj)(c:oj.dst=aM d)
  (a:UW l d=aM undef):Region.wanted o (yielded eY.toArray (⟨l.toArray,ds⟩:Act).tmps)=aL:=by
 rw[lX]at h;rw[Ji]at a;let e:yielded eY.toArray (⟨l.toArray,ds⟩:Act).tmps j=VM:=by simp[yielded,h,c,a,undef]
 simp[Region.wanted,b,e]
def wn{o}{f}(h:o.guard=VM):Region.wanted o f=aE:=by simp[Region.wanted,h]
def Jj{o} v (g:Region.wanted o (yielded ops a.tmps)=aE)
  (r:(execOp a.eval o).run P w=.ok (.value v) w') (b:a.put o.dst v=a') (h:wpList P ops Q rest a' w'):wpList P ops Q (o::rest) a w:=by
 subst b;unfold wpList;rw[E g];refine .inl ?_;unfold Oper.wp;rw[r];exact h
def O9{o}(g:Region.wanted o (yielded ops a.tmps)=aL)(h:a.put o.dst undef=a')(b:wpList P ops Q rest a' w):wpList P ops Q (o::rest) a w:=by
 subst h;unfold wpList;simp_all
def Jk{dst}{ty}{x}{t'}{p}{af}{g}{ad}{v}
  (R:(isAgg ty).run P w=.ok aL w) (b:a.eval x=.pointer (aM ad)) (h:w.cell? ad=aM v):
  (execOp a.eval ⟨dst,.load ty x,t',p,af,g⟩).run P w=.ok (.value v) w:=by
 simp[execOp,b,Instr.loadAt,Instr.sureAddr,Sem.run_bind,Sem.run_pure,Result.andThen_ok,loadVar,R,rN,oe,run_load,h]
def yy{dst}{ty}{x}{t'}{p}{af}{g}{ad}{cs}{n}
  (R:(isAgg ty).run P w=.ok aE w) (h:(sizeOf ty).run P w=.ok n w) (b:WS cs=n) (d:a.eval x=.pointer (aM ad)) (c:Cells w ad cs):
  (execOp a.eval ⟨dst,.load ty x,t',p,af,g⟩).run P w=.ok (.value<|.agg cs.toArray) w:=by
 have l:=run_loadCells_list (P:=P) w ad cs c;rw[b]at l;simp[execOp,d,Instr.loadAt,Instr.sureAddr,Sem.run_bind,Sem.run_pure,Result.andThen_ok,loadVar,R,R6,h,l]
def ae2{dst}{ty}{x y}{t'}{p}{af}{g}{b o}{cs vs}{et}{n}
  (h:(sizeOf ty).run P w=.ok n w) (j:a.eval x=.pointer (aM ⟨b,o,VM⟩)) (i:(a.eval y).cells=vs.toArray) (f:WS vs=n)
  (d:∀v∈vs,v.oneCell'=aE) (e:Blk w b et cs) (c:o+WS vs<=WS cs):
  (execOp a.eval ⟨dst,.store ty x y,t',p,af,g⟩).run P w=.ok .skip (w.setRow b (fX cs o vs).toArray):=by
 simp[execOp,j,Instr.storeAt,Instr.sureAddr,Sem.run_bind,Sem.run_pure,Result.andThen_ok,storeVar,h,i,oE,f,ne_eq,not_true_eq_false,oe,run_storeCells_at P b o et vs 0 cs.toArray w e X d,fX]
def ae3{dst}{ty}{t'}{p}{af}{g}{z}{s:J aw}
  (b:(zeroValue ty).run P w=.ok z w) (h:z.cells=s.toArray):
  (execOp a.eval ⟨dst,.alloc ty,t',p,af,g⟩).run P w=.ok (.value<|.pointer<|aM ⟨w.heap.size,0,VM⟩) (w.alloc<|.cells s.toArray ty):=by
 simp only[execOp,Instr.alloc,Sem.run_bind,b,Result.andThen_ok,newVar,h];rfl
def apT{dst}{ty}{x}{t'}{p}{af}{g}{z:J aw}
  (h:(a.eval x).cells=z.toArray):
  (execOp a.eval ⟨dst,.box ty x,t',p,af,g⟩).run P w=.ok (.value<|.pointer<|aM ⟨w.heap.size,0,VM⟩) (w.alloc<|.cells z.toArray ty):=by
 simp only[execOp,Instr.box,newVar,h];rfl
def YC{dst}{x}{t'}{p}{af}{g}{ad}(h:a.eval x=.pointer (aM ad)):
  (execOp a.eval ⟨dst,.nilCheck x,t',p,af,g⟩).run P w=.ok (.value<|.pointer<|aM ad) w:=by
 simp[execOp,h]
def Sc{dst}{s}{x}{k}{t'}{p}{af}{g}{ad zT}{fs}{f}{n}
  (u:(underlying s).run P w=.ok (.struct fs) w) (b:fs[k]? =aM f) (h:(sizeOf f.type).run P w=.ok (n+1) w) (c:a.eval x=.pointer (aM ad)) (e:ad.add f.offset=zT):
  (execOp a.eval ⟨dst,.fieldAddr s x k,t',p,af,g⟩).run P w=.ok (.value<|.pointer<|aM zT) w:=by
 subst e;simp[execOp,c,Instr.fieldAt,Instr.sureAddr,u,b,fieldPlace,h]
def ae4{dst}{c x y}{t'}{p}{af}{g}{v}(h:a.eval c=.bool aE)(b:a.eval x=v):
  (execOp a.eval ⟨dst,.pick c x y,t',p,af,g⟩).run P w=.ok (.value v) w:=by
 subst b;simp[execOp,h,asBool]
def ae5{dst}{c x y}{t'}{p}{af}{g}{v}(h:a.eval c=.bool aL)(b:a.eval y=v):
  (execOp a.eval ⟨dst,.pick c x y,t',p,af,g⟩).run P w=.ok (.value v) w:=by
 subst b;simp[execOp,h,asBool]
def ae6{dst}{t}{ps:J _}{t'}{p}{af}{g}{ps'}{v}
  (h:(ps.map λq=>(q.1,a.eval q.2))=ps') (r:(Instr.build t ps'.toArray).run P w=.ok v w):
  (execOp a.eval ⟨dst,.build t ps.toArray,t',p,af,g⟩).run P w=.ok (.value v) w:=by
 subst h;simp[execOp,r]
def adf{dst}{t e}{x i}{t'}{p}{af}{g}{s}{k}{n}{ad}{sz}
  (u:(underlying t).run P w=.ok (.slice e) w) (h:(sizeOf e).run P w=.ok sz w) (m:a.eval x=s.v) (l:a.eval i=.int k n) (d:ci s n sz ad):
  (execOp a.eval ⟨dst,.indexAddr t x i,t',p,af,g⟩).run P w=.ok (.value<|.pointer<|aM ad) w:=by
 obtain⟨b,j,c,f,rfl⟩:=d;simp[execOp,m,l,Instr.indexAt,asIntOf,u,h,j,c,f]
def AN{d:Option Tmp}{t e:TypeId}{x i:Operand}{t'}{p}{af}{g}{len}{k}{n}{ad zT}{sz}
  (u:(underlying t).run P w=.ok (.array len e) w) (h:(sizeOf e).run P w=.ok sz w) (l:a.eval x=.pointer (aM ad)) (j:a.eval i=.int k n) (b:0<=n) (c:n<len) (f:ad.add (n.toNat*sz)=zT):
  (execOp a.eval ⟨d,.indexAddr t x i,t',p,af,g⟩).run P w=.ok (.value<|.pointer<|aM zT) w:=by
 subst f;simp[execOp,l,j,Instr.indexAt,asIntOf,u,h,b,c,Instr.sureAddr]
def pG{b}{s}{dst}{x:J Operand}{ts}{t'}{p}{af}{g}{v}
  (h:∀m,builtin b ts t' m (x.map a.eval).toArray=(do pure (.value<|<-s))) (r:s.run P w=.ok v w'):
  (execOp a.eval ⟨dst,.call ⟨.builtin b,x.toArray,ts⟩,t',p,af,g⟩).run P w=.ok (.value v) w':=by
 simp[execOp,resolve,invoke,List.map_toArray];simp_all
def ajM{dst}{x:J Operand}{ts}{t'}{p}{af}{g}{v}{vs}(b:x.map a.eval=vs)
  (h:(Builtin.append_ ts t' vs.toArray).run P w=.ok v w'):(execOp a.eval ⟨dst,.call ⟨.builtin .append,x.toArray,ts⟩,t',p,af,g⟩).run P w=.ok (.value v) w':=by
 subst b;exact pG (λ_=>I) h
def aiq{dst}{x:J Operand}{ts}{t'}{p}{af}{g}{v}{vs}(b:x.map a.eval=vs)
  (h:(Builtin.copy_ ts t' vs.toArray).run P w=.ok v w'):(execOp a.eval ⟨dst,.call ⟨.builtin .copy,x.toArray,ts⟩,t',p,af,g⟩).run P w=.ok (.value v) w':=by
 subst b;exact pG (λ_=>I) h
def inb{dst}{x:J Operand}{ts}{t'}{p}{af}{g}{v}{vs}(b:x.map a.eval=vs)
  (h:(Builtin.delete_ ts t' vs.toArray).run P w=.ok v w'):(execOp a.eval ⟨dst,.call ⟨.builtin .delete,x.toArray,ts⟩,t',p,af,g⟩).run P w=.ok (.value v) w':=by
 subst b;exact pG (λ_=>I) h
def kTo{dst}{x:J Operand}{ts}{t'}{p}{af}{g}{v}{vs}(b:x.map a.eval=vs)
  (h:(Builtin.clear_ ts t' vs.toArray).run P w=.ok v w'):(execOp a.eval ⟨dst,.call ⟨.builtin .clear,x.toArray,ts⟩,t',p,af,g⟩).run P w=.ok (.value v) w':=by
 subst b;exact pG (λ_=>I) h
def ajE{dst}{x:J Operand}{ts}{t'}{p}{af}{g}{v}{vs}(b:x.map a.eval=vs)
  (h:(Builtin.len_ ts t' vs.toArray).run P w=.ok v w'):(execOp a.eval ⟨dst,.call ⟨.builtin .len,x.toArray,ts⟩,t',p,af,g⟩).run P w=.ok (.value v) w':=by
 subst b;exact pG (λ_=>I) h
section
variable{dst:Option Tmp}{x y z:Operand}{t t2:TypeId}{t':TypeId}{p:String}{af:Array Edge}{g:Option (Nat×C)}{u v vx vy vz:aw}
def ad2{n}{ps:J _}{ps'}(h:(ps.map λq=>(q.1,a.eval q.2))=ps')(r:(Instr.buildSlice t n ps'.toArray).run P w=.ok v w'):
  (execOp a.eval ⟨dst,.buildSlice t n ps.toArray,t',p,af,g⟩).run P w=.ok (.value v) w':=by
 subst h;simp[execOp,r]
def abV(b:a.eval x=vx)(c:a.eval y=vy)(h:(Instr.makeSlice t vx vy).run P w=.ok v w'):(execOp a.eval ⟨dst,.makeSlice t x y,t',p,af,g⟩).run P w=.ok (.value v) w':=by simp[execOp,b,c,h]
def ajn(h:(Instr.makeMap t VM).run P w=.ok v w'):(execOp a.eval ⟨dst,.makeMap t VM,t',p,af,g⟩).run P w=.ok (.value v) w':=by simp[execOp,h]
def cd1(b:a.eval x=vx)(h:(Instr.makeMap t<|aM vx).run P w=.ok v w'):(execOp a.eval ⟨dst,.makeMap t<|aM x,t',p,af,g⟩).run P w=.ok (.value v) w':=by simp[execOp,b,h]
def ah8{b}(c:a.eval x=vx)(d:a.eval y=vy)(h:(Instr.lookup t vx vy b).run P w=.ok v w'):(execOp a.eval ⟨dst,.lookup t x y b,t',p,af,g⟩).run P w=.ok (.value v) w':=by simp[execOp,c,d,h]
def lsd(b:a.eval x=vx)(c:a.eval y=vy)(d:a.eval z=vz)(h:(Instr.mapUpdate t vx vy vz).run P w=.ok () w'):(execOp a.eval ⟨dst,.mapUpdate t x y z,t',p,af,g⟩).run P w=.ok .skip w':=by simp[execOp,b,c,d,h]
def spv(b:a.eval x=vx)(c:a.eval y=vy)(d:a.eval z=vz)(h:(Instr.mapUpdate t vx vy vz).run P w=.ok () w'):(execOp a.eval ⟨dst,.insert t x y z,t',p,af,g⟩).run P w=.ok .skip w':=by simp[execOp,b,c,d,h]
def ac1(b:a.eval x=vx)(h:(convert t t2 vx).run P w=.ok v w'):(execOp a.eval ⟨dst,.convert t t2 x,t',p,af,g⟩).run P w=.ok (.value v) w':=by simp[execOp,b,h]
end
def apU{d:Option Tmp}{t e:TypeId}{x:Operand}{c:TypeId}{p:String}{f:Array Edge}{g}{s:Sl}
  (h:(underlying t).run P w=.ok (.slice e) w) (b:a.eval x=s.v):
  (execOp a.eval ⟨d,.call ⟨.builtin .len,#[x],#[t]⟩,c,p,f,g⟩).run P w=.ok (.value<|.int .i64 s.n) w:=by
 simp[execOp,resolve,invoke,builtin,Builtin.len_,h,b,goInt]
def neN{dst}{x}{f}{first captured}{s:J Operand}{ats}{t'}{p}{af}{g}{r}
  (b:a.eval x=.func (.func f) first.toArray captured.toArray)
  (c:∀r w,(callFunc f r).run P w=.ok (.enter f r) w) (h:first++s.map a.eval++captured=r):
  (execOp a.eval ⟨dst,.call ⟨.value x,s.toArray,ats⟩,t',p,af,g⟩).run P w=.ok (.enter f r.toArray) w:=by
 subst h;simp only[execOp,resolve,b,Deferred.ofValue,Sem.run_bind,Sem.run_pure,Result.andThen_ok,invoke,c];simp
def pH{x}{k}{i y}{code}(h:x=.int k i)(a:i<=y):(Instr.sliceBound x y code).run P w=.ok i w:=by
 subst h;have:=X
 simp[Instr.sliceBound,asIntOf,this]
theorem mkB{dst}{s d e}{x}{t'}{p}{af}{g}{sl}{l}
  (b:P.underlying s=aM (.slice e)) (h:P.underlying e=aM (.int .u8)) (hd:P.underlying d=aM .string) (j:a.eval x=sl.v) (f:wE w sl l):
  (execOp a.eval ⟨dst,.convert s d x,t',p,af,g⟩).run P w=.ok (.value<|.string ⟨l.toArray⟩) w:=by
 let⟨n,i⟩:=f;let⟨c,sn,sc⟩:=sl;subst n;let k:(convert s d<|.slice c (WS l) sc).run P w=.ok (.string ⟨l.toArray⟩) w:=by
  rcases c with _|ad
  .have:l=[]:=A
   subst this;exact run_convert_bytes_nil w s e b h _ _ d hd
  refine run_convert_bytes_back w s d e ad sc l b h hd λo m=>?_;let⟨z,a,g⟩:=i R;injection a with a;subst a;exact g o _ (by simp[jq,aR m])
 simp[execOp,j,k]
def aeq{dst}{fn}{f c:J Operand}{t'}{p}{af}{g}{fv cv}(h:f.map a.eval=fv)(b:c.map a.eval=cv):
  (execOp a.eval ⟨dst,.makeFunc fn f.toArray c.toArray,t',p,af,g⟩).run P w=.ok (.value<|.func fn fv.toArray cv.toArray) w:=by
 subst h;subst b;simp[execOp,Instr.makeFunc]
def apV{dst}{t ty}{x y}{t'}{p}{af}{g}{k}{m n}(c:a.eval x=.int k m)(d:a.eval y=.int k n)(b:n≠0):
  (execOp a.eval ⟨dst,.binOp .quo t x y ty,t',p,af,g⟩).run P w=.ok (.value<|.int k<|k.wrap<|m.tdiv n) w:=by
 let e:binOp .quo t (.int k m) (.int k n)=Op.intDiv .quo k m n:=by simp[binOp]
 let h:eqGuard .quo t x y (.int k m) (.int k n)=pure _:=I;simp[execOp,c,d,h,e,Op.intDiv,b,oe,Sem.run_bind,Sem.run_pure,Result.andThen_ok]
def apW{dst}{t ty}{x y}{t'}{p}{af}{g}{k}{m n}(c:a.eval x=.int k m)(d:a.eval y=.int k n)(b:n≠0):
  (execOp a.eval ⟨dst,.binOp .rem t x y ty,t',p,af,g⟩).run P w=.ok (.value<|.int k<|m.tmod n) w:=by
 let e:binOp .rem t (.int k m) (.int k n)=Op.intDiv .rem k m n:=by simp[binOp]
 let h:eqGuard .rem t x y (.int k m) (.int k n)=pure _:=I;simp[execOp,c,d,h,e,Op.intDiv,b,oe,Sem.run_bind,Sem.run_pure,Result.andThen_ok]
def apX{dst}{t ty}{x y}{t'}{p}{af}{g}{k k'}{m n}(c:a.eval x=.int k m)(d:a.eval y=.int k' n)(f:0<=n):
  (execOp a.eval ⟨dst,.binOp .shl t x y ty,t',p,af,g⟩).run P w=.ok (.value<|.int k<|k.wrap<|m*2 ^ (min n.toNat k.bits)) w:=by
 let b:eqGuard .shl t x y (.int k m) (.int k' n)=pure _:=I;let e:binOp .shl t (.int k m) (.int k' n)=Op.shift .shl k m k' n:=I;let h:¬n<0:=X
 simp[execOp,c,d,b,e,Op.shift,h,oe,Sem.run_bind,Sem.run_pure,Result.andThen_ok]
def apY{dst}{t ty}{x y}{t'}{p}{af}{g}{k k'}{m n}(c:a.eval x=.int k m)(d:a.eval y=.int k' n)(f:0<=n):
  (execOp a.eval ⟨dst,.binOp .shr t x y ty,t',p,af,g⟩).run P w=.ok (.value<|.int k<|m.fdiv<|2 ^ (min n.toNat k.bits)) w:=by
 let b:eqGuard .shr t x y (.int k m) (.int k' n)=pure _:=I;let e:binOp .shr t (.int k m) (.int k' n)=Op.shift .shr k m k' n:=I;let h:¬n<0:=X
 simp[execOp,c,d,b,e,Op.shift,h,oe,Sem.run_bind,Sem.run_pure,Result.andThen_ok]
def aiT{dst}{t}{x i}{t'}{p}{af}{g}{s}{k}{n}{c}
  (u:(underlying t).run P w=.ok .string w) (e:a.eval x=.string s) (d:a.eval i=.int k n) (h:0<=n) (b:s[n.toNat]? =aM c):
  (execOp a.eval ⟨dst,.index t x i,t',p,af,g⟩).run P w=.ok (.value<|.int .u8 c.toNat) w:=by
 simp[execOp,e,d,Instr.index,asIntOf,u,Sem.run_bind,Sem.run_pure,Result.andThen_ok,h,R6,b]
def Cur{dst}{t ty}{x y}{t'}{p}{af}{g}{s u}(c:a.eval x=.string s)(d:a.eval y=.string u)(n:(s.size:Int)+u.size<=9223372036854775807):
  (execOp a.eval ⟨dst,.binOp .add t x y ty,t',p,af,g⟩).run P w=.ok (.value<|.string<|s++u) w:=by
 let b:eqGuard .add t x y (.string s) (.string u)=pure _:=I;let e:binOp .add t (.string s) (.string u)=Op.stringOp .add s u:=I;let h:¬((s.size+u.size:Nat))>IntKind.i64.max:=A
 simp only[execOp,c,d,b,e,Op.stringOp,h,oe,Sem.run_bind,Sem.run_pure,Result.andThen_ok]
def apZ{dst}{t}{e}{x}{t'}{p}{af}{g}{s:Sl}
  (h:(underlying t).run P w=.ok (.slice e) w) (b:a.eval x=s.v):
  (execOp a.eval ⟨dst,.call ⟨.builtin .cap,#[x],#[t]⟩,t',p,af,g⟩).run P w=.ok (.value<|.int .i64 s.c) w:=by
 simp[execOp,resolve,invoke,builtin,Builtin.cap_,h,b,goInt]
def chk{d:Option Tmp}{t:TypeId}{x o:Operand}{e:TypeId}{p:String}{f:Array Edge}{g:Option (Nat×C)}{s:ByteArray}{k:IntKind}{l:Nat}
  (u:(underlying t).run P w=.ok .string w) (c:a.eval x=.string s) (b:a.eval o=.int k (l:Int)) (h:l<=s.size) (_h2:s.size<=s.size):
  (execOp a.eval ⟨d,.slice t x (aM o) VM VM,e,p,f,g⟩).run P w=.ok (.value<|.string<|s.extract l s.size) w:=by
 simp[execOp,c,Instr.sliceAt,u,Instr.slice,Instr.sliceBounds,pH b h]
def aeL{dst}{t}{x hi}{t'}{p}{af}{g}{s}{k}{h:Nat}
  (u:(underlying t).run P w=.ok .string w) (d:a.eval x=.string s) (c:a.eval hi=.int k h) (_h1:0<=h) (b:h<=s.size):
  (execOp a.eval ⟨dst,.slice t x VM (aM hi) VM,t',p,af,g⟩).run P w=.ok (.value<|.string<|s.extract 0 h) w:=by
 simp[execOp,d,Instr.sliceAt,u,Instr.slice,Instr.sliceBounds,pH c b]
def zOk{dst}{t}{x lo hi}{t'}{p}{af}{g}{s}{k k'}{l h:Nat}
  (u:(underlying t).run P w=.ok .string w) (f:a.eval x=.string s) (e:a.eval lo=.int k l) (d:a.eval hi=.int k' h) (b:l<=h) (c:h<=s.size):
  (execOp a.eval ⟨dst,.slice t x (aM lo) (aM hi) VM,t',p,af,g⟩).run P w=.ok (.value<|.string<|s.extract l h) w:=by
 simp[execOp,f,Instr.sliceAt,u,Instr.slice,Instr.sliceBounds,pH d c,pH e b]
def HX{dst}{s d}{x}{t'}{p}{af}{g}{ks kd k}{n}
  (h:(underlying s).run P w=.ok (.int ks) w) (hd:(underlying d).run P w=.ok (.int kd) w) (b:a.eval x=.int k n):
  (execOp a.eval ⟨dst,.convert s d x,t',p,af,g⟩).run P w=.ok (.value<|.int kd<|kd.wrap n) w:=by
 simp[execOp,b,convert,h,hd,Conv.intToInt]
def yn{t:Option Tmp}{s d:TypeId}{x:Operand}{c:TypeId}{p:String}{f:Array Edge}{g:Option (Nat×C)}{n:ByteArray}
  (h:(underlying s).run P w=.ok .string w) (hd:(underlying d).run P w=.ok .string w) (b:a.eval x=.string n):
  (execOp a.eval ⟨t,.convert s d x,c,p,f,g⟩).run P w=.ok (.value<|.string n) w:=by
 simp[execOp,b,convert,h,hd]
def ae7{dst}{t}{x}{t'}{p}{af}{g}{d}{v}
  (h:(underlying t).run P w=.ok d w) (hd:(match d with|.interface _=>aL|_=>aE)=aE) (b:a.eval x=v):
  (execOp a.eval ⟨dst,.makeInterface t x,t',p,af,g⟩).run P w=.ok (.value<|.iface t v) w:=by
 subst b;cases d<;>first|(simp at hd;done)|simp[execOp,Instr.makeInterface,h]
def ada{d:Option Tmp}{t:TypeId}{x:Operand}{c:TypeId}{p:String}{f:Array Edge}{g:Option (Nat×C)}{s:ByteArray}
  (h:(underlying t).run P w=.ok .string w) (b:a.eval x=.string s):
  (execOp a.eval ⟨d,.call ⟨.builtin .len,#[x],#[t]⟩,c,p,f,g⟩).run P w=.ok (.value<|.int .i64 s.size) w:=by
 simp[execOp,resolve,invoke,builtin,Builtin.len_,h,b,goInt]
def ap0{dst}{ts}{x y}{t'}{p}{af}{g}{k k'}{m n}(h:a.eval x=.int k m)(b:a.eval y=.int k' n):
  (execOp a.eval ⟨dst,.call ⟨.builtin .min,#[x,y],ts⟩,t',p,af,g⟩).run P w=.ok (.value<|.int k<|if n<m then n else m) w:=by
 simp[execOp,resolve,invoke,builtin,h,b,run_min_int2]
def ap1{d:Option Tmp}{ts}{x y}{t'}{p}{af}{g}{k k'}{m n}(h:a.eval x=.int k m)(b:a.eval y=.int k' n):
  (execOp a.eval ⟨d,.call ⟨.builtin .max,#[x,y],ts⟩,t',p,af,g⟩).run P w=.ok (.value<|.int k<|if n>m then n else m) w:=by
 simp[execOp,resolve,invoke,builtin,h,b,run_max_int2]
def ahY{s:Option Tmp}{t l:TypeId}{x y:Operand}{k:TypeId}{p:String}{f:Array Edge}{g:Option (Nat×C)}{e:TypeId}{q:Option Addr}{b:C}(u:(underlying t).run P w=.ok (.pointer e) w)(i:a.eval x=.pointer q)(j:a.eval y=.pointer VM)(c:(q.isNone)=b):
  (execOp a.eval ⟨s,.binOp .eql t x y l,k,p,f,g⟩).run P w=.ok (.value<|.bool b) w:=by
 subst c;let E:∀d,(Op.equalIn (d+1) t (.pointer q)<|.pointer VM).run P w=.ok q.isNone w:=λd=>by
  unfold Op.equalIn;cases q<;>simp only[Sem.run_bind,u,Result.andThen_ok]<;>rfl
 let h:binOp .eql t (.pointer q) (.pointer VM)=(do pure (.bool<|(<-Op.equal t (.pointer q) (.pointer VM)))):=Mi
 let G:eqGuard .eql t x y (.pointer q) (.pointer VM)=pure ():=I;simp only[execOp,i,j,G,h,Op.equal,Op.maxDepth,Sem.run_bind,Sem.run_pure,Result.andThen_ok,E 9999]
def kdN{dst}{t ty}{x y}{t'}{p}{af}{g}{e}{q}{b}(hu:(underlying t).run P w=.ok (.pointer e) w)(f:a.eval x=.pointer VM)(i:a.eval y=.pointer q)(c:(q.isNone)=b):
  (execOp a.eval ⟨dst,.binOp .eql t x y ty,t',p,af,g⟩).run P w=.ok (.value<|.bool b) w:=by
 subst c;let E:∀d,(Op.equalIn (d+1) t (.pointer VM)<|.pointer q).run P w=.ok q.isNone w:=λd=>Dr
 let h:binOp .eql t (.pointer VM) (.pointer q)=(do pure (.bool<|(<-Op.equal t (.pointer VM) (.pointer q)))):=I;let G:eqGuard .eql t x y (.pointer VM) (.pointer q)=pure _:=I;simp[execOp,f,i,G,h,Op.equal,Op.maxDepth,Sem.run_bind,Sem.run_pure,Result.andThen_ok,E 9999]
def sxv{dst}{t ty}{x y}{t'}{p}{af}{g}{e}{q}{b}(u:(underlying t).run P w=.ok (.pointer e) w)(f:a.eval x=.pointer q)(i:a.eval y=.pointer VM)(c:(!q.isNone)=b):
  (execOp a.eval ⟨dst,.binOp .neq t x y ty,t',p,af,g⟩).run P w=.ok (.value<|.bool b) w:=by
 subst c;let E:∀d,(Op.equalIn (d+1) t (.pointer q)<|.pointer VM).run P w=.ok q.isNone w:=λd=>by
  unfold Op.equalIn;cases q<;>simp only[Sem.run_bind,u]<;>rfl
 let h:binOp .neq t (.pointer q) (.pointer VM)=(do pure (.bool<|!(<-Op.equal t (.pointer q) (.pointer VM)))):=I;let G:eqGuard .neq t x y (.pointer q) (.pointer VM)=pure _:=I;simp[execOp,f,i,G,h,Op.equal,Op.maxDepth,Sem.run_bind,Sem.run_pure,Result.andThen_ok,E 9999]
def ajl{s:Option Tmp}{t ty}{x y}{t'}{p}{af}{g}{e}{q}{b}(hu:(underlying t).run P w=.ok (.pointer e) w)(f:a.eval x=.pointer VM)(i:a.eval y=.pointer q)(c:(!q.isNone)=b):
  (execOp a.eval ⟨s,.binOp .neq t x y ty,t',p,af,g⟩).run P w=.ok (.value<|.bool b) w:=by
 subst c;let E:∀d,(Op.equalIn (d+1) t (.pointer VM)<|.pointer q).run P w=.ok q.isNone w:=λd=>Dr
 let h:binOp .neq t (.pointer VM) (.pointer q)=(do pure (.bool<|!(<-Op.equal t (.pointer VM) (.pointer q)))):=Mi
 let G:eqGuard .neq t x y (.pointer VM) (.pointer q)=pure _:=I;simp[execOp,f,i,G,h,Op.equal,Op.maxDepth,Sem.run_bind,Sem.run_pure,Result.andThen_ok,E 9999]
def st0{dst}{t ty}{x y}{t'}{p}{af}{g}{m n}(u:P.underlying t=aM .bool)(b:a.eval x=.bool m)(c:a.eval y=.bool n):
  (execOp a.eval ⟨dst,.binOp .eql t x y ty,t',p,af,g⟩).run P w=.ok (.value<|.bool<|m==n) w:=by
 let h:eqGuard .eql t x y (.bool m) (.bool n)=pure _:=I;simp[execOp,b,c,h,run_eql_bool w t m n u]
def aeB{dst}{t ty}{x y}{t'}{p}{af}{g}{m n}(u:P.underlying t=aM .bool)(b:a.eval x=.bool m)(c:a.eval y=.bool n):
  (execOp a.eval ⟨dst,.binOp .neq t x y ty,t',p,af,g⟩).run P w=.ok (.value<|.bool<|!(m==n)) w:=by
 let h:eqGuard .neq t x y (.bool m) (.bool n)=pure _:=I;simp[execOp,b,c,h,run_neq_bool w t m n u]
def jn2{c:Option Tmp}{t j:TypeId}{x y:Operand}{t'}{p}{af}{g}{e}{s:Sl}(u:(underlying t).run P w=.ok (.slice e) w)(f:a.eval x=s.v)(i:a.eval y=.slice VM 0 0):
  (execOp a.eval ⟨c,.binOp .eql t x y j,t',p,af,g⟩).run P w=.ok (.value<|.bool<|s.a.isNone) w:=by
 let⟨b,sn,sc⟩:=s;let E:∀d,(Op.equalIn (d+1) t (.slice b sn sc)<|.slice VM 0 0).run P w=.ok b.isNone w:=λd=>by
  unfold Op.equalIn;cases b<;>simp only[Sem.run_bind,u]<;>rfl
 let h:binOp .eql t (.slice b sn sc) (.slice VM 0 0)=(do pure (.bool<|(<-Op.equal t (.slice b sn sc) (.slice VM 0 0)))):=Mi
 let G:eqGuard .eql t x y (.slice b sn sc) (.slice VM 0 0)=pure _:=I;simp[execOp,f,i,G,h,Op.equal,Op.maxDepth,Sem.run_bind,Sem.run_pure,Result.andThen_ok,E 9999]
def ahq{dst}{t ty}{x y}{t'}{p}{af}{g}{e}{s:Sl}(hu:(underlying t).run P w=.ok (.slice e) w)(c:a.eval x=.slice VM 0 0)(f:a.eval y=s.v):
  (execOp a.eval ⟨dst,.binOp .eql t x y ty,t',p,af,g⟩).run P w=.ok (.value<|.bool<|s.a.isNone) w:=by
 let⟨b,sn,sc⟩:=s;let E:∀d,(Op.equalIn (d+1) t (.slice VM 0 0)<|.slice b sn sc).run P w=.ok b.isNone w:=λd=>Dr
 let h:binOp .eql t (.slice VM 0 0) (.slice b sn sc)=(do pure (.bool<|(<-Op.equal t (.slice VM 0 0) (.slice b sn sc)))):=I;let G:eqGuard .eql t x y (.slice VM 0 0) (.slice b sn sc)=pure _:=I;simp[execOp,c,f,G,h,Op.equal,Op.maxDepth,Sem.run_bind,Sem.run_pure,Result.andThen_ok,E 9999]
def ac2{dst}{t ty}{x y}{t'}{p}{af}{g}{e}{s:Sl}(u:(underlying t).run P w=.ok (.slice e) w)(c:a.eval x=s.v)(f:a.eval y=.slice VM 0 0):
  (execOp a.eval ⟨dst,.binOp .neq t x y ty,t',p,af,g⟩).run P w=.ok (.value<|.bool<|!s.a.isNone) w:=by
 let⟨b,sn,sc⟩:=s;let E:∀d,(Op.equalIn (d+1) t (.slice b sn sc)<|.slice VM 0 0).run P w=.ok b.isNone w:=λd=>by
  unfold Op.equalIn;cases b<;>simp only[Sem.run_bind,u]<;>rfl
 let h:binOp .neq t (.slice b sn sc) (.slice VM 0 0)=(do pure (.bool<|!(<-Op.equal t (.slice b sn sc) (.slice VM 0 0)))):=Mi
 let G:eqGuard .neq t x y (.slice b sn sc) (.slice VM 0 0)=pure _:=I;simp[execOp,c,f,G,h,Op.equal,Op.maxDepth,Sem.run_bind,Sem.run_pure,Result.andThen_ok,E 9999]
def roM{c:Option Tmp}{t k:TypeId}{x y:Operand}{j:TypeId}{p:String}{af}{g}{e}{s:Sl}(hu:(underlying t).run P w=.ok (.slice e) w)(f:a.eval x=.slice VM 0 0)(i:a.eval y=s.v):
  (execOp a.eval ⟨c,.binOp .neq t x y k,j,p,af,g⟩).run P w=.ok (.value<|.bool<|!s.a.isNone) w:=by
 let⟨b,sn,sc⟩:=s;let E:∀d,(Op.equalIn (d+1) t (.slice VM 0 0)<|.slice b sn sc).run P w=.ok b.isNone w:=λd=>Dr
 let h:binOp .neq t (.slice VM 0 0) (.slice b sn sc)=(do pure (.bool<|!(<-Op.equal t (.slice VM 0 0) (.slice b sn sc)))):=Mi
 let G:eqGuard .neq t x y (.slice VM 0 0) (.slice b sn sc)=pure _:=I;simp[execOp,f,i,G,h,Op.equal,Op.maxDepth,Sem.run_bind,Sem.run_pure,Result.andThen_ok,E 9999]
def aii{dst}{t e}{x lo}{t'}{p}{af}{g}{s:Sl}{k}{l sz:Nat}
  (u:(underlying t).run P w=.ok (.slice e) w) (h:(sizeOf e).run P w=.ok sz w) (d:a.eval x=s.v) (c:a.eval lo=.int k l) (b:l<=s.n) (_h2:s.n<=s.c) (_h3:s.c<=s.c):
  (execOp a.eval ⟨dst,.slice t x (aM lo) VM VM,t',p,af,g⟩).run P w=.ok (.value (s.cut l s.n s.c sz).v) w:=by
 simp[execOp,d,Instr.sliceAt,u,Sem.run_bind,Result.andThen_ok,Instr.slice,Instr.sliceBounds,gN,E5,Sem.run_pure,pH c b,h,Sl.cut]
def ac4{dst}{t e}{x hi}{t'}{p}{af}{g}{s:Sl}{k}{h sz:Nat}
  (u:(underlying t).run P w=.ok (.slice e) w) (z:(sizeOf e).run P w=.ok sz w) (d:a.eval x=s.v) (c:a.eval hi=.int k h) (_h1:0<=h) (b:h<=s.c) (_h3:s.c<=s.c):
  (execOp a.eval ⟨dst,.slice t x VM (aM hi) VM,t',p,af,g⟩).run P w=.ok (.value (s.cut 0 h s.c sz).v) w:=by
 simp[execOp,d,Instr.sliceAt,u,Sem.run_bind,Result.andThen_ok,Instr.slice,Instr.sliceBounds,gN,E5,Sem.run_pure,pH c b,z,Sl.cut]
def adt{dst}{t e}{x lo hi}{t'}{p}{af}{g}{s:Sl}{k k'}{l h sz:Nat}
  (u:(underlying t).run P w=.ok (.slice e) w) (z:(sizeOf e).run P w=.ok sz w) (i:a.eval x=s.v) (f:a.eval lo=.int k l) (d:a.eval hi=.int k' h) (b:l<=h) (c:h<=s.c) (_h3:s.c<=s.c):
  (execOp a.eval ⟨dst,.slice t x (aM lo) (aM hi) VM,t',p,af,g⟩).run P w=.ok (.value (s.cut l h s.c sz).v) w:=by
 simp[execOp,i,Instr.sliceAt,u,Sem.run_bind,Result.andThen_ok,Instr.slice,Instr.sliceBounds,gN,E5,Sem.run_pure,pH d c,pH f b,z,Sl.cut]
def enK{dst}{t e}{x hi mx}{t'}{p}{af}{g}{s:Sl}{k' k2}{h m sz:Nat}
  (u:(underlying t).run P w=.ok (.slice e) w) (z:(sizeOf e).run P w=.ok sz w) (i:a.eval x=s.v) (d:a.eval hi=.int k' h) (f:a.eval mx=.int k2 m) (_h1:0<=h) (b:h<=m) (c:m<=s.c):
  (execOp a.eval ⟨dst,.slice t x VM (aM hi)<|aM mx,t',p,af,g⟩).run P w=.ok (.value (s.cut 0 h m sz).v) w:=by
 simp[execOp,i,Instr.sliceAt,u,Sem.run_bind,Result.andThen_ok,Instr.slice,Instr.sliceBounds,gN,E5,Sem.run_pure,pH f c,pH d b,z,Sl.cut]
def ajJ{dst}{t e}{x lo hi mx}{t'}{p}{af}{g}{s:Sl}{k k' k2}{l h m sz:Nat}
  (u:(underlying t).run P w=.ok (.slice e) w) (z:(sizeOf e).run P w=.ok sz w) (n:a.eval x=s.v) (i:a.eval lo=.int k l) (f:a.eval hi=.int k' h) (j:a.eval mx=.int k2 m) (b:l<=h) (c:h<=m) (d:m<=s.c):
  (execOp a.eval ⟨dst,.slice t x (aM lo) (aM hi)<|aM mx,t',p,af,g⟩).run P w=.ok (.value (s.cut l h m sz).v) w:=by
 simp only[execOp,n,Instr.sliceAt,u,Sem.run_bind,Result.andThen_ok,Instr.slice,Instr.sliceBounds,gN,Sem.run_pure,pH j d,pH f c,pH i b,z,Sl.cut]
section
variable{K:Act->av->Prop}{o:Oper}
def akl(g:Region.wanted o (yielded ops a.tmps)=aE)(h:o.wp P a w (wpList P ops Q rest) Q):wpList P ops Q (o::rest) a w:=by
 unfold wpList;simp_all
def Dp v (r:(execOp a.eval o).run P w=.ok (.value v) w') (b:a.put o.dst v=a') (h:K a' w'):o.wp P a w K Q:=by
 subst b;unfold Oper.wp;rw[r];exact h
def unI(r:(execOp a.eval o).run P w=.ok .skip w')(b:a.put o.dst undef=a')(h:K a' w'):o.wp P a w K Q:=by
 subst b;unfold Oper.wp;rw[r];exact h
def S0{f}{args}(r:(execOp a.eval o).run P w=.ok (.enter f args) w)
  (h:Calls P f args w λe w'=>∃v a',e=.returned v/\a.put o.dst v=a'/\K a' w'):o.wp P a w K Q:=by
 unfold Oper.wp;rw[r];refine h.mono ?_;simp_all
theorem Ml{dst}{ty}{x y}{t'}{p}{af}{g}{b o}{cs vs HE}{et}{n}
  (h:(sizeOf ty).run P w=.ok n w) (k:a.eval x=.pointer (aM ⟨b,o,VM⟩)) (v:(a.eval y).cells=vs.toArray) (j:WS vs=n)
  (m:vs.all Value.oneCell'=aE) (e:Blk w b et cs) (c:o+WS vs<=WS cs) (l:fX cs o vs=HE) (i:a.put dst undef=a')
  (f:∀d,Only [b] w d->Blk d b et HE->K a' d):Oper.wp P ⟨dst,.store ty x y,t',p,af,g⟩ a w K Q:=
 unI (ae2 h k v j R e c) i (f _ (SG ..)<|by rw[<-l];exact e.setRow _)
def lp0{dst}{ty}{t'}{p}{af}{g}{z}{zs}{d:Nat->Act}
  (i:(zeroValue ty).run P w=.ok z w) (f:z.cells=zs.toArray) (e:∀b,a.put dst (.pointer<|aM ⟨b,0,VM⟩)=d b)
  (h:∀b c,w.heap.size<=b->Only [] w c->Blk c b ty zs->K (d b) c):Oper.wp P ⟨dst,.alloc ty,t',p,af,g⟩ a w K Q:=
 Dp _ (ae3 i f) (e _) (h _ _ X (Rk _ _)<|Jp _ _ _)
def akm{dst}{ty}{x}{t'}{p}{af}{g}{zs}{d:Nat->Act}
  (f:(a.eval x).cells=zs.toArray) (e:∀b,a.put dst (.pointer<|aM ⟨b,0,VM⟩)=d b)
  (h:∀b c,w.heap.size<=b->Only [] w c->Blk c b ty zs->K (d b) c):Oper.wp P ⟨dst,.box ty x,t',p,af,g⟩ a w K Q:=
 Dp _ (apT f) (e _) (h _ _ X (Rk _ _)<|Jp _ _ _)
end
def acW{id}(h:Q .normal a w):Exit.inBlock id Q (.exit id) a w:=by simpa[Exit.inBlock]using h
def vrT{id id'}(i:(id'==id)=aL)(h:Q (.exit id') a w):Exit.inBlock id Q (.exit id') a w:=by simpa[Exit.inBlock,by simpa using i]using h
def HZ(P:Program)(a:Act)(w:av):J ResultVar->J aw->Prop
 |[],[]=>True
 |.tmp t::r,v::s=>a.eval (.tmp t)=v/\HZ P a w r s
 |.cell p t::r,v::s=>(∃ad,a.eval (.tmp p)=.pointer (aM ad)/\(loadVar t ad).run P w=.ok v w)/\HZ P a w r s
 |_,_=>False
def rz(f:ResultVar->Sem aw)(b:∀t,f (.tmp t)=pure (a.tmps.getD t undef))(h:∀q t,f (.cell q t)=(do loadVar t (<-asAddr (a.tmps.getD q undef)))):
  ∀c s,HZ P a w c s->(c.mapM f).run P w=.ok s w
 |[],[],_=>rfl
 |[],_::_,a=>a.elim
 |.tmp t::r,[],a=>a.elim
 |.cell _ _::r,[],a=>a.elim
 |.tmp t::r,v::s,d=>by
  let i:=rz f b h r s d.2;let e:a.tmps.getD t undef=v:=d.1;simp_all
 |.cell q t::r,v::s,e=>by
  let⟨⟨ad,g,i⟩,_⟩:=e;let d:a.tmps.getD q undef=.pointer _:=g;rw[List.mapM_cons,h];simp[d,asAddr,i,(rz f b h r s e.2)]
def akn{fn}{rs}{v}(h:fn.results=rs.toArray)(r:HZ P a w rs [v]):(results fn a.tmps).run P w=.ok v w:=by
 unfold results;rw[h,List.mapM_toArray];simp only[Sem.run_bind,map_eq_pure_bind];rw[rz _ (λ_=>I) (λ_ _=>I) rs [v] r];rfl
def P6{fn}{rs}{vs}(h:fn.results=rs.toArray)(n:(WS vs==1)=aL)(r:HZ P a w rs vs):(results fn a.tmps).run P w=.ok (.tuple vs.toArray) w:=by
 unfold results;rw[h,List.mapM_toArray];simp only[Sem.run_bind,map_eq_pure_bind,Sem.run_pure];rw[rz _ (λ_=>I) (λ_ _=>I) rs vs r];simp_all
def ae8{fn}{R:aw->av->Prop}{v}(r:(results fn a.tmps).run P w=.ok v w)(hd:a.defers=[])(h:R v w):
 bodyPost P fn (λe w'=>∃v,e=.returned v/\R v w') .ret a w:=bodyPost_ret r hd ⟨v,I,h⟩
def inc{fn}{R:aw->av->Prop}{v}(r:(results fn a.tmps).run P w=.ok v w)(hd:a.defers=[])(h:R v w):
 bodyPost P fn (λe w'=>∃v,e=.returned v/\R v w') .normal a w:=bodyPost_end r hd ⟨v,I,h⟩
def bxi{ty}{ad}{cs}{n}(R:(isAgg ty).run P w=.ok aE w)(h:(sizeOf ty).run P w=.ok n w)(a:WS cs=n)(c:Cells w ad cs):
  (loadVar ty ad).run P w=.ok (.agg cs.toArray) w:=by
 have l:=run_loadCells_list (P:=P) w ad cs c;rw[a]at l;simp[loadVar,R,h,l,Sem.run_pure]
def drv{ty}{ad}{v}(R:(isAgg ty).run P w=.ok aL w)(h:w.cell? ad=aM v):
  (loadVar ty ad).run P w=.ok v w:=by
 simp[loadVar,R,oe,run_load,h]
end
section
variable{P:Program}{ops:Array Oper}{rest:J Oper}{a a':Act}{w:av}{Q:Act->Prop}
def ap3{o} v (g:Region.wanted o (yielded ops a.tmps)=aE)
  (r:∀b,(∃n,b=w.drewN n)->(execOp a.eval o).run P b=.ok (.value v) b) (d:a.put o.dst v=a')
  (c:wpQuiet P ops (λb=>∃n,b=w.drewN n) Q rest a'):wpQuiet P ops (λb=>∃n,b=w.drewN n) Q (o::rest) a:=by
 subst d;unfold wpQuiet;rw[E g];refine⟨v,λb h=>?_,c⟩;unfold Oper.quietAt;rw[r b h];exact⟨I,I⟩
def azy{o}(g:Region.wanted o (yielded ops a.tmps)=aL)(h:a.put o.dst undef=a')
  (c:wpQuiet P ops (λb=>∃n,b=w.drewN n) Q rest a'):wpQuiet P ops (λb=>∃n,b=w.drewN n) Q (o::rest) a:=by
 subst h;unfold wpQuiet;simp_all
end
def aez{w w'}:bX [] w w':=λ_ h=>YI
def bX.refl bs w:bX bs w w:=λ_ _=>I
def Zm:=@bX.refl
section
variable{P:Program}{ops:Array Oper}{Q:Exit->Act->av->Prop}{md:Region.Mode}{E:Nat->av->av->Prop}{F:av->Prop}
def gJ(P:Program)(m:Region.Mode)(o:Array Oper)(Q:Exit->Act->av->Prop)(E:Nat->av->av->Prop):Nat->Array C->Act->av->Prop
 |0,b,a,w=>Region.ready m o b=[]/\Q .normal a w
 |fT+1,b,a,w=>
  (Region.ready m o b=[]->Q .normal a w)/\
  ∀i∈Region.ready m o b,wpOp P o Q i (λd c=>E i w c/\gJ P m o Q E fT (b.setIfInBounds i aE) d c) a w
def E9:∀fT b a w,gJ P md ops Q E fT b a w->wpAny P md ops Q fT b a w
 |0,_,_,_,h=>h
 |fT+1,_,_,_,h=>⟨h.1,λd i=>wpOp_mono (λa e c=>E9 fT _ a e c.2)<|h.2 d i⟩
def vL(m:Region.Mode)(o:Array Oper)(b:Array C):=∀k a,o[k]? =aM a->b.getD k aL=aE->∀e∈a.after,Region.binds m e=aE->b.getD e.on aL=aE
def yz(m:Region.Mode)(o:Array Oper)(b:Array C):C:=
 (List.range o.size).all λk=>!b.getD k aL||((o[k]?).map (·.after.all λe=>!Region.binds m e||b.getD e.on aL)).getD aE
theorem jj{bF}(h:yz md ops bF=aE):vL md ops bF:=by
 intro k o hk l e a b;have:=(gv.1 h) k<|zE.2 (Array.getElem?_eq_some_iff.1 hk).1;simp only[l,Mb,hk,gN,jm,Array.all_eq_true_iff_forall_mem,cj]at this
 grind
def vL.add{bF}{j}(c:vL md ops bF)(d:j∈Region.ready md ops bF):vL md ops (bF.setIfInBounds j aE):=by
 intro k f hk l e a b;let⟨_,g,o,i⟩:=mem_ready.1 d;by_cases h:j=k
 .subst h;rw[o]at hk;injection hk with hk;subst hk;exact getD_set_true<|i e a b
 rw[getD_set_ne aL h]at l;exact getD_set_true<|c k f hk l e a b
def vM(m:Region.Mode)(o:Array Oper)(i:Nat):J Nat->J Nat->C
 |_,[]=>aE
 |s,j::r=>((o[j]?).map λa=>a.after.any λe=>Region.binds m e&&(e.on==i||s.contains e.on)).getD aL&&vM m o i (j::s) r
theorem tx{i}{bF}(h:vL md ops bF):∀D s,vM md ops i s D=aE->(∀k∈s,bF.getD k aL=aE->bF.getD i aL=aE)->∀j∈D,∀o,ops[j]? =aM o->(∀e∈o.after,Region.binds md e=aE->bF.getD e.on aL=aE)->bF.getD i aL=aE
 |[],_,_,_,j,a,_,_,_=>by simp at a
 |k::r,s,a,d,j,b,o,c,C=>by
  simp[vM,aO]at a;let hk:∀o,ops[k]? =aM o->(∀e∈o.after,Region.binds md e=aE->bF.getD e.on aL=aE)->bF.getD i aL=aE:=R
  rcases ba.1 b with rfl|b
  .exact hk o c C
  refine tx h r _ a.2 ?_ j b o c C;intro x e l;rcases ba.1 e with rfl|e
  .have g:=a.1;rcases hx2:ops[x]? with _|f
   .grind
   exact hk f hx2<|h x f hx2 l
  exact d x e l
def vN{i}{oi}{v}{D}(h:ops[i]? =aM oi)(K:∀(j:Nat) o s b,ops[j]? =aM o->o.op≠.select s b)
  (m:∀c a w,Q (.panic c) (a.put oi.dst v) w->Q (.panic c) a w) (l:vM md ops i [] D=aE)
  (f:J Nat) (n:∀j w g,j∉D->j∉f->F w->E j w g->F g) (I:∀w,F w->E i w w):
  ∀fT d a w,vL md ops d->(∀k∈f,d.getD k aE=aE)->
   (∀j b,ops[j]? =aM b->j≠i->d.getD j aE=aL->(∀e∈b.after,Region.binds md e=aE->e.on≠i)->oi.apart ops b=aE)->
   i∈Region.ready md ops d->YieldsIf P ops F oi v a->F w->
   gJ P md ops Q E fT (d.setIfInBounds i aE) (a.put oi.dst v) w->gJ P md ops Q E (fT+1) d a w:=by
 intro fT
 induction fT with
 |zero=>
  intro d a w _ _ _ r y F H;refine⟨R,λj c=>?_⟩;by_cases b:j=i
  .subst b;exact y.wpOp h F ⟨I w F,H⟩
  have:=ready_mono c b;rw[H.1]at this;cases this
 |succ fT q=>
  intro d a w u t c r y F H;refine⟨R,λj p=>?_⟩;by_cases b:j=i
  .subst b;exact y.wpOp h F ⟨I w F,H⟩
  let G:=H.2 j<|ready_mono p b;let⟨B,z,a,V⟩:=mem_ready.1 p;have:=(mem_ready.1 r).1;have:d.getD i aL=aL:=R
  have:∀e∈z.after,Region.binds md e=aE->e.on≠i:=R
  have:j∉D:=λT=>by
   have:=tx u D [] l N j T z a V;simp_all
  have:j∉f:=R
  let x:∀k∈f,(d.setIfInBounds j aE).getD k aE=aE:=λk hk=>by
   by_cases e:j=k
   .simp_all
   simp_all
  let L:∀k ok,ops[k]? =aM ok->k≠i->(d.setIfInBounds j aE).getD k aE=aL->
    _->oi.apart ops ok=aE:=λk ok hk D i W=>by
   refine c k ok hk D ?_ W;by_cases e:j=k
   .subst e;exact B
   rw[getD_set_ne aE e]at i;exact i
  refine wpOp_mono (λA g v=>⟨v.2.1,q _ A g (u.add p) x L (ready_mono r X) v.1 R ?_⟩)<|wpOp_putIf a R R R m y G;rw[Array.setIfInBounds_comm _ _ b];exact v.2.2
theorem P8 i {eY} {oi} {a a'} {w} {fT} {bF} (D N:J Nat) v F (hi:iY eY i=aM oi)
  (s:Region.noSelect eY.toArray=aE) (n:Region.free md eY.toArray bF i=aE) (hr:(Region.ready md eY.toArray bF).contains i=aE) (m:yz md eY.toArray bF=aE) (e:vM md eY.toArray i [] D=aE) (p:(N.all λk=>bF.getD k aE)=aE)
  (g:∀c a w,Q (.panic c) (a.put oi.dst v) w->Q (.panic c) a w) (o:∀j w d,j∉D->j∉N->F w->E j w d->F d) (I:∀w,F w->E i w w) (f:F w)
  (y:YieldsIf P eY.toArray F oi v a) (l:a.put oi.dst v=a')
  (h:gJ P md eY.toArray Q E fT (bF.setIfInBounds i aE) a' w):gJ P md eY.toArray Q E (fT+1) bF a w:=by
 subst l;let b:eY.toArray[i]? =aM oi:=Ta
 exact vN b (Region.noSelect_spec s) g e N o I fT bF a w (jj m) R (Region.free_spec b n) Uy y f h
def ap4 i {eY} {oi} {a} {w} {fT} {bF} (hi:iY eY i=aM oi) (r:Region.ready md eY.toArray bF=[i])
  (g:Region.wanted oi (yielded eY.toArray a.tmps)=aE)
  (d:oi.wp P a w (λc b=>E i w b/\gJ P md eY.toArray Q E fT (bF.setIfInBounds i aE) c b) Q):gJ P md eY.toArray Q E (fT+1) bF a w:=by
 have:eY.toArray[i]? =aM oi:=Ta
 refine⟨A,λj h=>?_⟩;rw[r]at h;obtain rfl:j=i:=by simpa using h
 unfold wpOp;simp_all
def ae9 i {eY} {oi} {a a'} {w} {fT} {bF} (hi:iY eY i=aM oi) (r:Region.ready md eY.toArray bF=[i])
  (g:Region.wanted oi (yielded eY.toArray a.tmps)=aL) (d:E i w w) (b:a.put oi.dst undef=a')
  (c:gJ P md eY.toArray Q E fT (bF.setIfInBounds i aE) a' w):gJ P md eY.toArray Q E (fT+1) bF a w:=by
 subst b;have:eY.toArray[i]? =aM oi:=Ta
 refine⟨A,λj h=>?_⟩;rw[r]at h;obtain rfl:j=i:=by simpa using h
 unfold wpOp;simp_all
def ap5 i j {eY} {oi oj} {a} {w} {fT} {bF} (hi:iY eY i=aM oi) (h:iY eY j=aM oj) (r:Region.ready md eY.toArray bF=[i,j])
  (d:if Region.wanted oi (yielded eY.toArray a.tmps)then oi.wp P a w (λc b=>E i w b/\gJ P md eY.toArray Q E fT (bF.setIfInBounds i aE) c b) Q∨(oi.asks P a w/\LetsOut Q)
   else(λc b=>E i w b/\gJ P md eY.toArray Q E fT (bF.setIfInBounds i aE) c b) (a.put oi.dst undef) w)
  (e:if Region.wanted oj (yielded eY.toArray a.tmps)then oj.wp P a w (λc b=>E j w b/\gJ P md eY.toArray Q E fT (bF.setIfInBounds j aE) c b) Q∨(oj.asks P a w/\LetsOut Q)
   else(λc b=>E j w b/\gJ P md eY.toArray Q E fT (bF.setIfInBounds j aE) c b) (a.put oj.dst undef) w):gJ P md eY.toArray Q E (fT+1) bF a w:=by
 have:eY.toArray[i]? =aM oi:=Ta
 have:eY.toArray[j]? =aM oj:=by rw[lX]at h;simpa using h
 refine⟨A,λk hk=>?_⟩;rw[r]at hk;unfold wpOp;rcases ba.1 hk with rfl|hk<;>simp_all
def ako{bF}{a}{w}{fT}(r:Region.ready md ops bF=[])(h:Q .normal a w):gJ P md ops Q E fT bF a w:=by
 cases fT with
 |zero=>exact⟨r,h⟩
 |succ n=>exact⟨λ_=>h,by rw[r];simp⟩
def PR{id}{e:J Oper}{a}{w} E (h:P.follows .mixedOrders=aE)
  (b:gJ P .any e.toArray Q E (WS e) (Array.replicate (WS e) aL) a w.drew):(Code.region id e.toArray aE).wp P Q a w:=by
 refine wp_region_any h<|E9 (E:=E) _ _ _ _ ?_;assumption
def EL(s:J (Nat×J Nat))(j:Nat)(w a:av):Prop:=match s.lookup j with|some l=>bX l w a|none=>a.heap=w.heap
def aj0{ls}{i}(h:ls.lookup i=VM) w:EL ls i w w:=by unfold EL;rw[h]
theorem afa{ls}{D N:J Nat}:∀j w a,j∉D->j∉N->True->EL ls j w a->True:=R
def acX{s}{l} w w' (a:w'.heap[s.blk]? =w.heap[s.blk]?) (h:wE w s l):wE w' s l:=
 ⟨h.1,λb=>by
  let⟨ad,c,d⟩:=h.2 b;refine⟨ad,c,d.keep ?_⟩;simpa[Sl.blk,c]using a⟩
def Pb{e:J Oper}{o}{v}{a}(g:Region.wanted o (yielded e.toArray a.tmps)=aE)(h:∀w,F w->(execOp a.eval o).run P w=.ok (.value v) w):YieldsIf P e.toArray F o v a:=.inl ⟨g,h⟩
def S6{e:J Oper}{o}{a}(h:Region.wanted o (yielded e.toArray a.tmps)=aL):YieldsIf P e.toArray F o undef a:=.inr ⟨h,I⟩
end
def ri(x:Int):Prop:= -9223372036854775808<=x/\x<=9223372036854775807
def wr{x}(h:ri x):IntKind.i64.wrap x=x:=IntWalk.i64_in _ ⟨h.1,h.2⟩
def eI{x}(h: -9223372036854775808<=x)(a:x<=9223372036854775807):IntKind.i64.wrap x=x:=IntWalk.i64_in _ X
def YM x:ri (IntKind.i64.wrap x):=by
 rw[IntKind.wrap_i64];constructor<;>omega
abbrev Rp(a:Type):=av->(Nat->Prop)->a->J aw->Prop
structure Rp.Ok {α:Type} (r:Rp α):Prop where
 keep:∀{w w':av} {F:Nat->Prop} {x:α} {cs:List aw},r w F x cs->(∀k,F k->k<w.heap.size->w'.heap[k]? =w.heap[k]?)->r w' F x cs
 inHeap:∀{w:av} {F:Nat->Prop} {x:α} {cs:List aw},r w F x cs->r w (λk=>F k/\k<w.heap.size) x cs
 mono:∀{w:av} {F G:Nat->Prop} {x:α} {cs:List aw},r w F x cs->(∀k,F k->G k)->r w G x cs
 one:∀{w:av} {F:Nat->Prop} {x:α} {cs:List aw},r w F x cs->∀v,v∈cs->v.oneCell'=aE
section
variable{α:Type}{r:Rp α}{size:Nat}{w w':av}{F G:Nat->Prop}{s:Sl}{xs:J α}
structure SliceF (r:Rp α) (size:Nat) (w:av) (F:Nat->Prop) (s:Sl) (xs:List α):Prop where
 len:s.n=WS xs
 cap:s.n<=s.c
 nil0:s.a=VM->s.c=0
 big:s.c<=9223372036854775807
 at_:∀j x,xs[j]? =aM x->∃base cs,s.a=aM base/\F base.block/\WS cs=size/\Cells w (base.add (j*size)) cs/\r w F x cs
def pI(a:Addr) n:(a.add n).block=a.block:=by unfold Addr.add;split<;>rfl
theorem uz(a:Addr) i j:(a.add i).add j=a.add (i+j):=by
 unfold Addr.add
 grind
def jS b o n:(⟨b,o,VM⟩:Addr).add n=⟨b,o+n,VM⟩:=by unfold Addr.add;split<;>simp_all
def Cells.sub{a}{cs vs}(h:Cells w a cs) k (c:∀j v,vs[j]? =aM v->cs[k+j]? =aM v):Cells w (a.add k) vs:=λj v b=>by
 rw[uz];exact h _ v<|c j v b
theorem Cells.dv{a}{cs}(h:Cells w a cs) k v (b:cs[k]? =aM v):Cells w (a.add k) [v]:=h.sub k R
theorem SliceF.nil(r:Rp α) size w F:SliceF r size w F Sl.nil []:=⟨I,bc _,λ_=>I,Z,R⟩
def WB:=@SliceF.nil
def SliceF.keep(a:r.Ok)(h:SliceF r size w F s xs)(d:0<size)(hk:∀k,F k->k<w.heap.size->w'.heap[k]? =w.heap[k]?):SliceF r size w' F s xs:=
 ⟨h.len,h.cap,h.nil0,h.big,λj x b=>by
  let⟨s,e,k,f,g,i,l⟩:=h.at_ j x b;refine⟨s,e,k,f,g,i.keep ?_,a.keep l hk⟩;have J:(s.add<|j*size).block<w.heap.size:=by
   cases e with
   |nil=>simp at g;omega
   |cons c e=>exact i.lt
  rw[pI]at J⊢;exact hk _ f J⟩
def WJ:=@SliceF.keep
def SliceF.mono(a:r.Ok)(h:SliceF r size w F s xs)(hk:∀k,F k->G k):SliceF r size w G s xs:=
 ⟨h.len,h.cap,h.nil0,h.big,λj x b=>by
  let⟨s,c,d,e,f,g,i⟩:=h.at_ j x b;exact⟨s,c,d,hk _ e,f,g,a.mono i hk⟩⟩
def YE:=@SliceF.mono
def SliceF.inHeap(a:r.Ok)(h:SliceF r size w F s xs)(d:0<size):SliceF r size w (λk=>F k/\k<w.heap.size) s xs:=
 ⟨h.len,h.cap,h.nil0,h.big,λj x b=>by
  let⟨s,e,i,k,f,g,l⟩:=h.at_ j x b;refine⟨s,e,i,⟨k,?_⟩,f,g,a.inHeap l⟩;have J:(s.add<|j*size).block<w.heap.size:=by
   cases e with
   |nil=>simp at f;omega
   |cons c e=>exact g.lt
  rwa[pI]at J⟩
def PY:=@SliceF.inHeap
def SliceF.get(h:SliceF r size w F s xs){i:Int}(j:0<=i)(k:i<s.n):
  ∃ad x c,ci s i size ad/\xs[i.toNat]? =aM x/\F ad.block/\WS c=size/\Cells w ad c/\r w F x c:=by
 have:=h.len;let J:i.toNat<WS xs:=X
 let⟨b,c,g,a,d,e,f⟩:=h.at_ i.toNat _<|aR J;exact⟨_,_,c,⟨b,g,j,k,I⟩,aR J,by rw[pI];exact a,d,e,f⟩
def SliceF.mem(h:SliceF r size w F s xs){x}(b:x∈xs):∃c,r w F x c:=by
 let⟨d,j⟩:=fk b;let⟨_,c,_,_,_,_,a⟩:=h.at_ d x j;exact⟨c,a⟩
def ci.OW{i}{a b}(h:ci s i size a)(k:ci s i size b):a=b:=by
 let⟨x,c,_,_,d⟩:=h;let⟨y,e,_,_,f⟩:=k;simp_all
theorem SliceF.cut(a:SliceF r size w F s xs){lo hi m}(c:lo<=hi)(d:hi<=m)(e:hi<=s.n)(f:m<=s.c):SliceF r size w F (s.cut lo hi m size) ((xs.drop lo).take<|hi-lo):=by
 have:=a.len;refine⟨?_,?_,λb=>?_,by have:=a.big;simp[Sl.cut];omega,λj x h=>?_⟩
 .simp[Sl.cut,dj,cT];omega
 .simp[Sl.cut];omega
 .simp[Sl.cut]at b⊢;split at b
  .omega
  have:=a.nil0 (by simpa using b);omega
 rw[zF]at h;split at h
 .rw[nN]at h;let⟨s,g,o,i,k,m,n⟩:=a.at_ _ _ h;refine⟨s.add<|lo*size,g,?_,by rw[pI];exact i,k,?_,n⟩
  .simp[Sl.cut]
   grind
  rw[uz,<-iX];exact m
 cases h
end
structure BytesF (w:av) (F:Nat->Prop) (s:Sl) (l:List UInt8):Prop where
 rd:wE w s l
 cap:s.n<=s.c
 blk:∀ad,s.a=aM ad->l≠[]->F ad.block
section
variable{w w':av}{F G:Nat->Prop}{s:Sl}{l:J UInt8}
theorem BytesF.nil w F:BytesF w F Sl.nil []:=⟨⟨I,λh=>absurd I h⟩,bc _,R⟩
def BytesF.mono(h:BytesF w F s l)(hk:∀k,F k->G k):BytesF w G s l:=⟨h.rd,h.cap,λad a b=>hk _<|h.blk ad a b⟩
end
def jk{a:Type}(P:a->J aw->Prop):J a->J (J aw)->Prop
 |[],[]=>True
 |x::b,c::s=>P x c/\jk P b s
 |_,_=>False
section
variable{α:Type}{P Q:α->J aw->Prop}
def jk.len:∀{xs:J α} {css:J _},jk P xs css->WS xs=WS css
 |[],[],_=>rfl
 |x::xs,c::s,h=>by simp[jk.len (xs:=xs) (css:=s) h.2]
 |[],_::_,h=>h.elim
 |_::_,[],h=>h.elim
def jk.imp(h:∀x c,P x c->Q x c):∀{xs:J α} {css:J _},jk P xs css->jk Q xs css
 |[],[],_=>trivial
 |x::xs,c::s,a=>⟨h _ _ a.1,jk.imp h (xs:=xs) (css:=s) a.2⟩
 |[],_::_,a=>a.elim
 |_::_,[],a=>a.elim
def jk.wT:∀{xs y:J α} {css L:J _},jk P xs css->jk P y L->jk P (xs++y) (css++L)
 |[],_,[],_,_,k=>k
 |x::xs,_,c::s,_,h,k=>⟨h.1,jk.wT (xs:=xs) (css:=s) h.2 k⟩
 |[],_,_::_,_,h,_=>h.elim
 |_::_,_,[],_,h,_=>h.elim
def jk.get:∀{xs:J α} {css:J _},jk P xs css->∀{j:Nat} {x:α},xs[j]? =aM x->∃s,css[j]? =aM s/\P x s
 |[],[],_,j,x,h=>YI
 |y::xs,c::s,k,0,x,h=>by
  simp at h;subst h;exact⟨c,I,k.1⟩
 |y::xs,c::s,k,j+1,x,h=>by
  exact jk.get (xs:=xs) (css:=s) k.2 h
 |[],_::_,h,_,_,_=>h.elim
 |_::_,[],h,_,_,_=>h.elim
def jk.mem:∀{xs:J α} {css:J _},jk P xs css->∀c∈css,∃x,P x c
 |[],[],_,c,h=>YI
 |y::xs,d::s,k,c,h=>by
  rcases ba.1 h with rfl|h
  .exact⟨y,k.1⟩
  exact jk.mem (xs:=xs) (css:=s) k.2 c h
 |[],_::_,h,_,_=>h.elim
 |_::_,[],h,_,_=>h.elim
def jk.take:∀n {xs:J α} {css:J _},jk P xs css->jk P (xs.take n) (css.take n)
 |0,_,_,_=>by simp[jk]
 |_+1,[],[],_=>by simp[jk]
 |n+1,x::xs,c::s,h=>by simp;exact⟨h.1,jk.take n (xs:=xs) (css:=s) h.2⟩
 |_,[],_::_,h=>h.elim
 |_,_::_,[],h=>h.elim
def jk.set:∀{xs:J α} {css:J _} j {x:α} {c:J aw},jk P xs css->P x c->jk P (xs.set j x) (css.set j c)
 |[],[],_,_,_,_,_=>by simp[jk]
 |y::xs,d::s,0,x,c,h,k=>⟨k,h.2⟩
 |y::xs,d::s,j+1,x,c,h,k=>⟨h.1,jk.set (xs:=xs) (css:=s) j h.2 k⟩
 |[],_::_,_,_,_,h,_=>h.elim
 |_::_,[],_,_,_,h,_=>h.elim
end
def AO{s:J (J aw)}{size}(h:∀c∈s,WS c=size):WS s.flatten=WS s*size:=by
 induction s<;>grind
def Ju{s:J _}{size}(h:∀c∈s,WS c=size):∀{j i:Nat} {a:J aw} {v:aw},s[j]? =aM a->a[i]? =aM v->s.flatten[j*size+i]? =aM v:=by
 induction s with
 |nil=>grind
 |cons c a g=>
  intro j i d v f e;have:=h c N;cases j<;>grind
def abO{s:J (J aw)}{size}(h:∀c∈s,WS c=size):∀n,s.flatten.take (n*size)=(s.take n).flatten:=by
 induction s with
 |nil=>intro n;simp
 |cons c a i=>
  intro n;cases n with
  |zero=>simp
  |succ n=>
   rw[fE,fL,fE,List.take_append,<-i (λd hd=>h d<|by simp[hd]),h c N,show _*size-size=n*size by rw[iX];omega,bm R]
def zW{cs}{o}{v}(h:o<WS cs):fX cs o [v]=cs.set o v:=by
 rw[fX,List.set_eq_take_append_cons_drop,E h];simp
def nr{size}{tail}{i}{v}:∀{s:J _} {n:Nat} {a:J aw},(∀c∈s,WS c=size)->s[n]? =aM a->i<size->
  (s.flatten++tail).set (n*size+i) v=(s.set n<|a.set i v).flatten++tail
 |[],n,a,_,h,_=>by simp at h
 |c::s,0,a,h,n,i=>R
 |c::s,n+1,a,b,h,d=>by
  simp at h;simp;rw[G9 _ _ R,b c N,show _*size+i-size=n*size+i by rw[iX];omega,nr (tail:=tail) (v:=v) R h d]
section
variable{w w':av}{a:Addr}{cs ds:J aw}
def Cells.wT(c:Cells w a cs)(k:Cells w (a.add<|WS cs) ds):Cells w a (cs++ds):=λj v h=>by
 by_cases b:j<WS cs
 .rw[de b]at h;exact c j v h
 rw[dR X]at h;have:=k _ v h;rw[uz,show (WS cs)+_=j by omega]at this;omega
def Cells.nil w a:Cells w a []:=λj v h=>by simp at h
end
section
variable{α:Type}{r:Rp α}{size:Nat}{w w':av}{F G:Nat->Prop}{s y:Sl}{xs ys:J α}{e:TypeId}{B:Nat}
abbrev pJ(r:Rp α)(size:Nat)(w:av)(F:Nat->Prop):J α->J (J aw)->Prop:=jk λx c=>WS c=size/\r w F x c
def pJ.sz{css}(h:pJ r size w F xs css):∀c∈css,WS c=size:=λc b=>by
 let⟨_,a,_⟩:=h.mem c b;exact a
def pJ.keep(b:r.Ok){css}(a:pJ r size w F xs css)(hk:∀k,F k->k<w.heap.size->w'.heap[k]? =w.heap[k]?):pJ r size w' F xs css:=
 a.imp λ_ _ h=>⟨h.1,b.keep h.2 hk⟩
def pJ.mono(b:r.Ok){css}(a:pJ r size w F xs css)(hk:∀k,F k->G k):pJ r size w G xs css:=
 a.imp λ_ _ h=>⟨h.1,b.mono h.2 hk⟩
def pJ.inHeap(b:r.Ok){css}(a:pJ r size w F xs css):pJ r size w (λk=>F k/\k<w.heap.size) xs css:=
 a.imp λ_ _ h=>⟨h.1,b.inHeap h.2⟩
def SliceF.acq{base:Addr}:∀xs k,(∀j x,xs[j]? =aM x->∃s,WS s=size/\Cells w (base.add<|(k+j)*size) s/\r w F x s)->
  ∃c,pJ r size w F xs c/\Cells w (base.add<|k*size) c.flatten
 |[],k,_=>⟨[],trivial,Cells.nil _ _⟩
 |x::xs,k,h=>by
  obtain⟨s,a,f,b⟩:=h 0 x I;obtain⟨c,d,e⟩:=SliceF.acq xs _ (λj y g=>by
   obtain⟨i,l,m,n⟩:=h (j+1) y P9;exact⟨i,l,by rw[show k+1+j=k+(j+1) by omega];exact m,n⟩)
  refine⟨s::c,⟨⟨a,b⟩,d⟩,Cells.wT X ?_⟩;rw[uz,a,show k*size+size=(k+1)*size by rw[iX];omega];exact e
theorem SliceF.flat(h:SliceF r size w F s xs)(a:xs≠[]):∃b c,s.a=aM b/\F b.block/\pJ r size w F xs c/\Cells w b c.flatten:=by
 cases xs with
 |nil=>exact absurd I a
 |cons x xs=>
  obtain⟨b,_,d,e,_⟩:=h.at_ 0 x I;obtain⟨c,g,k⟩:=SliceF.acq (r:=r) (size:=size) (w:=w) (F:=F) (base:=b) _ 0 (λf y j=>by
   obtain⟨i,s,l,m,n,o,p⟩:=h.at_ f y j
   grind)
  exact⟨b,c,d,e,g,by rw[yw]at k;exact k⟩
theorem SliceF.of{base}{css}(e:pJ r size w F xs css)(b:s.a=aM base)(a:F base.block)(c:Cells w base css.flatten)(n:s.n=WS xs)(t:s.n<=s.c)(h:s.c<=9223372036854775807):SliceF r size w F s xs:=
 ⟨n,t,R,h,λj x d=>by
  let⟨s,f,g,i⟩:=e.get d;exact⟨base,s,b,a,g,λl v k=>by rw[uz];exact c _ v<|Ju e.sz f k,i⟩⟩
def Own(r:Rp α)(size:Nat)(e:TypeId)(B:Nat)(w:av)(F:Nat->Prop)(s:Sl)(x:J α):Prop:=
 (s=Sl.nil/\x=[])∨∃g c tail,s.a=aM ⟨g,0,VM⟩/\B<=g/\Blk w g e (c.flatten++tail)/\WS tail=(s.c-s.n)*size/\s.n=WS x/\s.n<=s.c/\s.c<=9223372036854775807/\pJ r size w (λk=>F k/\k≠g) x c
theorem Own.len(h:Own r size e B w F s xs):s.n=WS xs:=by
 rcases h with⟨rfl,rfl⟩|⟨g,c,tail,_,_,_,_,h,_⟩<;>grind
theorem Own.cap(h:Own r size e B w F s xs):s.n<=s.c:=by
 rcases h with⟨rfl,rfl⟩|⟨g,c,tail,_,_,_,_,_,h,_,_⟩<;>grind
theorem Own.slice(l:r.Ok)(h:Own r size e B w F s xs):SliceF r size w (λk=>F k∨(B<=k/\s.a=aM ⟨k,0,VM⟩)) s xs:=by
 rcases h with⟨rfl,rfl⟩|⟨g,c,tail,a,m,b,n,d,f,j,i⟩
 .exact WB ..
 exact SliceF.of (i.mono l R) a R (b.cells 0 _ R) d f j
theorem Own.keep(n:r.Ok)(a:Own r size e B w F s xs)(hk:∀k,(F k∨(B<=k/\s.a=aM ⟨k,0,VM⟩))->k<w.heap.size->w'.heap[k]? =w.heap[k]?):Own r size e B w' F s xs:=by
 rcases a with⟨rfl,rfl⟩|⟨g,c,tail,b,d,h,f,i,j,m,l⟩
 .exact .inl ⟨I,I⟩
 exact .inr ⟨g,c,tail,b,d,(hk g R h.lt).trans h,f,i,j,m,l.keep n R⟩
def Own.mono(n:r.Ok)(h:Own r size e B w F s xs)(hk:∀k,F k->G k):Own r size e B w G s xs:=by
 rcases h with⟨rfl,rfl⟩|⟨g,c,tail,a,b,d,f,i,j,m,l⟩
 .exact .inl ⟨I,I⟩
 exact .inr ⟨g,c,tail,a,b,d,f,i,j,m,l.mono n λk h=>⟨hk k h.1,h.2⟩⟩
def Own.low{B'}(h:Own r size e B w F s xs)(f:B'<=B):Own r size e B' w F s xs:=by
 rcases h with⟨rfl,rfl⟩|⟨g,c,tail,a,b,d⟩
 .exact .inl ⟨I,I⟩
 exact .inr ⟨g,c,tail,a,bC f b,d⟩
def Zd:=@Own.low
def Own.nil(r:Rp α) size e B w F:Own r size e B w F Sl.nil []:=.inl ⟨I,I⟩
def E7:=@Own.nil
def Own.inHeap(h:r.Ok)(a:Own r size e B w F s xs):Own r size e B w (λk=>F k/\k<w.heap.size) s xs:=by
 rcases a with⟨rfl,rfl⟩|⟨g,c,tail,b,d,f,i,j,l,n,m⟩
 .exact .inl ⟨I,I⟩
 exact .inr ⟨g,c,tail,b,d,f,i,j,l,n,(m.inHeap h).mono h A⟩
def Own.blk(a:Own r size e B w F s xs){ad}(h:s.a=aM ad):B<=ad.block/\ad.block<w.heap.size:=by
 rcases a with⟨rfl,rfl⟩|⟨g,c,tail,b,d,f,_⟩
 .cases h
 rw[b]at h;injection h with h;subst h;exact⟨d,f.lt⟩
theorem SliceF.ajv(h:SliceF r size w F s xs):∃c,pJ r size w F xs c/\∀a,s.a=aM a->Cells w a c.flatten:=by
 cases xs with
 |nil=>exact⟨[],trivial,λb _=>Cells.nil _ _⟩
 |cons x xs=>
  let⟨a,c,b,d,e,f⟩:=h.flat N
  grind
def pJ.OX{css}(h:pJ r size w F xs css):WS css.flatten=WS xs*size:=by rw[AO h.sz,h.len]
def pJ.one(d:r.Ok){css}(a:pJ r size w F xs css):∀v∈css.flatten,v.oneCell'=aE:=λv h=>by
 let⟨c,b,h⟩:=List.mem_flatten.1 h;let⟨x,_,e⟩:=a.mem c b;exact d.one e v h
def ap6(l m:J aw) z:(l.toArray++m.toArray++z)=(l++m++z.toList).toArray:=by
 simp
section
variable{P:Program}{t ty:TypeId}{i:TypeInfo}{z:aw}{bytes:Nat}
def AP(w:av) k (H:z.cells.size=size):(Builtin.zeroCells z.cells k).toList.length=k*size:=by
 rw[kg,size_zeroCells,H]
theorem uo(A:P.underlying t=aM (.slice e))(v:P.info? e=aM i)(C:i.zero=aM z)(ff:i.size=size)(T:i.bytes=bytes)(S:z.cells.size=size)
  (f:r.Ok) {a} (j:pJ r size w F xs a) (D:∀d,s.a=aM d->Cells w d a.flatten) (E:s.a=VM->s.c=0) (q:s.n=WS xs) (h:s.n<=s.c)
  (B:SliceF r size w F y ys) (u:s.c<s.n+y.n) (Y:(WS xs+WS ys)*bytes<=140737488355328) (Q:0<bytes):
  ∃p w',(Builtin.append_ #[t,t] ty #[s.v,y.v]).run P w=.ok p.v w'/\Own r size e w.heap.size w' F p (xs++ys)/\Only [] w w'/\p.a=aM ⟨w.heap.size,0,VM⟩:=by
 subst ff;subst T;have:=bC (by have:=LN (WS xs+WS ys) Q;omega) Y;have l:=B.len;have g:y.n≠0:=X
 let x:ys≠[]:=R
 let⟨K,L,H,m2,m,J⟩:=B.flat x;let⟨sa,sn,sc⟩:=s;let⟨bJ,n,M⟩:=y;dsimp only at q h E l g u H D;subst H;have:∀iw o,iw=sn+n->∀W,W=w.drew.alloc (.cells (a.flatten.toArray++L.flatten.toArray++Builtin.zeroCells z.cells (grownCap w iw o e-iw)) e)->
   Own r i.size e w.heap.size W F ⟨aM ⟨w.heap.size,0,VM⟩,iw,grownCap w iw o e⟩ (xs++ys)/\Only [] w W:=by
  rintro iw o rfl W rfl;have b:Only [] w (w.drew.alloc<|.cells (a.flatten.toArray++L.flatten.toArray++Builtin.zeroCells z.cells (grownCap w (sn+n) o e-(sn+n))) e):=(Only.drew w).bG<|Rk _ _;refine⟨.inr ⟨w.heap.size,a++L,(Builtin.zeroCells z.cells _).toList,I,X,?_,AP w _ S,?_,grownCap_ge ..,grownCap_le_maxLen _ _ _ _<|by simp[maxLen];omega,?_⟩,b⟩
  .rw[ap6,List.flatten_append];exact Jp w.drew e _
  .simp;omega
  refine((pJ.mono f (pJ.inHeap f<|jk.wT j m) (G:=λk=>F k/\k≠w.heap.size) R)).keep f λk hk c=>b.block k c N
 rcases sa with _|b
 .have h:=E I;subst h;have b:sn=0:=X
  subst b;have k:=cM q.symm;subst k;cases a with
  |cons c a=>exact j.elim
  |nil=>
   let c:=run_append_nil (P:=P) w t ty e i z A v C K n M L.flatten (by rw[m.OX,l]) J X X R
   grind
 have:=run_append_grow (P:=P) w t ty e i z A v C b sn sc a.flatten (by rw[j.OX,q]) (D b I) K n M L.flatten (by rw[m.OX,l]) J u X (growslice_fits u R)
 grind
def vrK(f:P.underlying t=aM (.slice e))(b:P.info? e=aM i)(j:i.zero=aM z)(n:i.size=size)(O:i.bytes=bytes)(H:z.cells.size=size)
  (d:r.Ok) (h:SliceF r size w F s xs) (g:SliceF r size w F y ys) (u:s.c<s.n+y.n) (m:(WS xs+WS ys)*bytes<=140737488355328) (B:0<bytes):
  ∃a w',(Builtin.append_ #[t,t] ty #[s.v,y.v]).run P w=.ok a.v w'/\Own r size e w.heap.size w' F a (xs++ys)/\Only [] w w'/\a.a=aM ⟨w.heap.size,0,VM⟩:=by
 let⟨c,k,l⟩:=h.ajv;exact uo f b j n O H d k l h.nil0 h.len h.cap g u m B
theorem ahQ(C:P.underlying t=aM (.slice e))(v:P.info? e=aM i)(K:i.size=size)
  (A:r.Ok) {g} {css} {tail} (p:s.a=aM ⟨g,0,VM⟩) (H:B<=g) (f:Blk w g e (css.flatten++tail)) (b:WS tail=(s.c-s.n)*size) (z:s.n=WS xs) (q:s.n<=s.c) (d:s.c<=9223372036854775807)
  (E:pJ r size w (λk=>F k/\k≠g) xs css) (j:SliceF r size w (λk=>F k/\k≠g) y ys) (u:s.n+y.n<=s.c):
  ∃w',(Builtin.append_ #[t,t] ty #[s.v,y.v]).run P w=.ok (Sl.v ⟨s.a,s.n+y.n,s.c⟩) w'/\Own r size e B w' F ⟨s.a,s.n+y.n,s.c⟩ (xs++ys)/\Only [g] w w':=by
 subst K;have h:=j.len;let⟨Q,sn,sc⟩:=s;let⟨a,n,D⟩:=y;dsimp only at p z q b u h;subst p;let⟨L,m,J⟩:=j.ajv;let M:WS css.flatten=sn*i.size:=by rw[E.OX,z]
 let l:WS L.flatten=n*i.size:=by rw[m.OX,h]
 have:sn*i.size+n*i.size<=sn*i.size+WS tail:=by
  rw[b,<-iX,<-iX];exact HS _ X
 let G:(Builtin.append_ #[t,t] ty #[.slice (aM ⟨g,0,VM⟩) sn sc,.slice a n D]).run P w=
   .ok (.slice (aM ⟨g,0,VM⟩) (sn+n) sc) (w.setRow g ((css.flatten++L.flatten)++tail.drop (n*i.size)).toArray):=by
  let k:((css.flatten++tail).toArray.toList.take (sn*i.size)++L.flatten++(css.flatten++tail).toArray.toList.drop (sn*i.size+WS L.flatten))=(css.flatten++L.flatten)++tail.drop (n*i.size):=by simp[mM,M,List.take_left,l,List.drop_append,Ec,cJ,gH]
  cases a with
  |some a=>
   have:=run_append_room (P:=P) w t ty e i C v g sn sc (css.flatten++tail).toArray f a n D L.flatten l (J a I) (m.one A) u R;rw[this,k]
  |none=>
   have r:ys=[]:=by
    cases ys with
    |nil=>rfl
    |cons x xs=>let⟨_,_,c,_⟩:=j.at_ 0 x I;cases c
   subst r;have y:=by simpa using h
   subst y;cases L with
   |cons c s=>exact m.elim
   |nil=>
    let P:w.setRow g ((css.flatten++([]).flatten)++tail.drop (0*i.size)).toArray=w:=by
     have:=setRow_self w g (css.flatten++tail).toArray e _ f;simpa using this
    rw[P];simp[Builtin.append_,run_underlying C,Go.sizeOf,typeInfo,v,Builtin.lenOf,Builtin.firstCells,q,storeCells]
 let o:Only [g] w (w.setRow g ((css.flatten++L.flatten)++tail.drop (n*i.size)).toArray):=SG ..;refine⟨_,G,.inr ⟨g,css++L,tail.drop<|n*i.size,I,H,?_,?_,?_,u,d,?_⟩,o⟩
 .rw[List.flatten_append];exact f.setRow _
 .rw[cT,b,<-Nat.sub_mul];grind
 .grind
 exact pJ.keep A (jk.wT E m) λk hk c=>o.block k c NS
theorem rA(f:P.underlying t=aM (.slice e))(d:P.info? e=aM i)(p:i.zero=aM z)(n:i.size=size)(O:i.bytes=bytes)(H:z.cells.size=size)
  (h:r.Ok) (c:Own r size e B w F s xs) (j:SliceF r size w (λk=>F k/\s.a≠aM ⟨k,0,VM⟩) y ys) (m:B<=w.heap.size) (o:(WS xs+WS ys)*bytes<=140737488355328) (l:0<bytes):
  ∃a w',(Builtin.append_ #[t,t] ty #[s.v,y.v]).run P w=.ok a.v w'/\Own r size e B w' F a (xs++ys)/\∃b,Only b w w'/\(∀g∈b,s.a=aM ⟨g,0,VM⟩/\B<=g/\g<w.heap.size)/\(a.a=s.a∨a.a=aM ⟨w.heap.size,0,VM⟩):=by
 by_cases u:s.n+y.n<=s.c
 .rcases c with⟨rfl,rfl⟩|⟨g,s,tail,e,i,q,r,t,v,z,x⟩
  .have g:=by simpa using u
   have k:=by have:=j.len;rw[g]at this;exact cM this.symm
   subst k;refine⟨Sl.nil,w,?_,.inl ⟨I,I⟩,[],qE _ _,N,.inl I⟩;let⟨A,C,B⟩:=y;dsimp only at g;subst g;cases A<;>simp[Builtin.append_,run_underlying f,Go.sizeOf,typeInfo,d,Builtin.lenOf,Builtin.firstCells,loadCells,loadCellsFrom]
  let⟨w',y,A,k3⟩:=ahQ (ty:=ty) f d n h e i q r t v z x (j.mono h λk hk=>⟨hk.1,λw=>hk.2<|by rw[w,e]⟩) u;exact⟨_,w',y,A,[g],k3,λB D=>by simp at D;subst D;exact⟨e,i,q.lt⟩,.inl I⟩
 let E:=c.len;let x:=c.cap;let z:SliceF r size w F y ys:=j.mono h λk hk=>hk.1;let go:∀q,pJ r size w F xs q->(∀i,s.a=aM i->Cells w i q.flatten)->(s.a=VM->s.c=0)->
   ∃a w',(Builtin.append_ #[t,t] ty #[s.v,y.v]).run P w=.ok a.v w'/\Own r size e B w' F a (xs++ys)/\∃b,Only b w w'/\(∀g∈b,s.a=aM ⟨g,0,VM⟩/\B<=g/\g<w.heap.size)/\(a.a=s.a∨a.a=aM ⟨w.heap.size,0,VM⟩):=by
  intro q T U k3;let⟨a,w',k,v,Q,S⟩:=uo (ty:=ty) f d p n O H h T U k3 E x z X o l;exact⟨a,w',k,v.low m,[],Q,N,.inr S⟩
 rcases c with⟨rfl,rfl⟩|⟨g,q,tail,A,G,C,J,K,L,M,D⟩
 .exact go [] trivial R (λ_=>I)
 refine go q (D.mono h λk hk=>hk.1) (λi e=>?_) R;rw[A]at e;injection e with e;subst e;exact C.cells 0 _ λr v g=>by
  grind
theorem zX w (b:P.underlying t=aM (.slice e)) (a:P.info? e=aM i):(Instr.buildSlice t 0 #[]).run P w=.ok (.slice (aM ⟨w.heap.size,0,VM⟩) 0 0) (w.alloc<|.cells #[] e):=by
 let h:Array.map (λ_=>(default:aw)) (Array.range 0)=#[]:=R
 simp[Instr.buildSlice,run_underlying b,Go.sizeOf,typeInfo,a,Instr.fill,newRow,h]
theorem jP(f:P.underlying t=aM (.slice e))(c:P.info? e=aM i)(j:i.zero=aM z)(n:i.size=size)(h:0<size){vs:J aw}{len}{parts}
  (p:parts=((vs.zipIdx 0).map λx=>(x.2,x.1)).toArray) (d:WS vs=len) (l:0<len) (A:len*size<=16777216)
  (a:r.Ok) (E:pJ r size w F xs (vs.map λv=>v.cells.toList)):
  ∃s w',(Instr.buildSlice t len parts).run P w=.ok (Sl.v s) w'/\Own r size e w.heap.size w' F s xs/\Only [] w w'/\s.a=aM ⟨w.heap.size,0,VM⟩/\s.n=WS xs/\s.c=WS xs:=by
 subst n;subst p;subst d;let L:=by have:=E.len;rwa[bP]at this
 let b:=λv g=>by
  have:=E.sz _<|dK.2 ⟨v,g,I⟩;simpa using this
 let D:=run_buildSlice (P:=P) w t e (WS vs) ((vs.zipIdx 0).map λx=>_).toArray (vs.flatMap λv=>v.cells.toList).toArray i z f c j X
  (by have:=Nat.mul_lt_mul_of_pos_left h l;omega)
  (by rw[mM];exact Go.Great.fill_whole h vs _ b N)
 let O:Only [] w (w.alloc<|.cells (vs.flatMap λv=>v.cells.toList).toArray e):=Rk _ _;refine⟨⟨aM _,WS vs,WS vs⟩,_,D,.inr ⟨w.heap.size,vs.map<|λv=>v.cells.toList,[],I,X,?_,N,L.symm,bc _,?_,?_⟩,O,I,L.symm,L.symm⟩
 .rw[bq];exact Jp w e _
 .have:WS vs<=WS vs*i.size:=Nat.le_mul_of_pos_right _ h;dsimp only;omega
 exact((pJ.mono a (pJ.inHeap a E) (G:=λk=>F k/\k≠w.heap.size) R)).keep a λk hk e=>O.block k e N
end
end
def lY:Rp UInt8:=λ_ _ b c=>c=[jq b]
def uA:lY.Ok where
 keep h _:=h
 inHeap h:=h
 mono h _:=h
 one h v hv:=by
  rw[show _=[jq _]from h]at hv;simp at hv;subst hv;rfl
def BytesF.slice{w}{F}{s}{l}(h:BytesF w F s l)(a:s.a=VM->s.c=0)(b:s.c<=9223372036854775807):SliceF lY 1 w F s l:=
 ⟨h.rd.1,h.cap,a,b,λj x c=>by
  let e:l≠[]:=R
  let⟨ad,d,f⟩:=h.rd.2 e;exact⟨ad,[jq x],d,h.blk ad d e,I,by rw[lU];exact f.dv j _ A,I⟩⟩
def SliceF.bytes{w}{F}{s}{l}(h:SliceF lY 1 w F s l):BytesF w F s l:=
 ⟨⟨h.len,λa=>by
  let⟨e,s,d,f,g,i⟩:=h.flat a;refine⟨e,d,?_⟩;have:∀l s,pJ lY 1 w F l s->s.flatten=l.map jq:=by
   intro l
   induction l with
   |nil=>intro s h;cases s with
    |nil=>rfl
    |cons c b=>exact h.elim
   |cons b l k=>intro s h;cases s with
    |nil=>exact h.elim
    |cons c m=>
     let⟨⟨_,d⟩,f⟩:=h;rw[fE,k m f,show c=[jq b]from d];rfl
  grind⟩,h.cap,λad j a=>by
   let⟨e,s,d,f,_⟩:=h.flat a;simp_all⟩
def pJ.bytes{w}{F G}{l}{css}(h:pJ lY 1 w F l css):pJ lY 1 w G l css:=P9
def Own.bytes{w}{F G}{e}{B}{s}{l}(h:Own lY 1 e B w F s l):Own lY 1 e B w G s l:=by
 assumption
def rInt:Rp Int:=λ_ _ x c=>c=[.int .i64 x]/\ri x
def bA:rInt.Ok where
 keep h _:=h
 inHeap h:=h
 mono h _:=h
 one h v hv:=by
  rw[h.1]at hv;simp at hv;subst hv;rfl
structure OnlyP (F:Nat->Prop) (w w':av):Prop where
 os:w'.os=w.os
 tape:w'.tape=w.tape
 output:w'.output=w.output
 size:w.heap.size<=w'.heap.size
 block:∀k,k<w.heap.size->¬F k->w'.heap[k]? =w.heap[k]?
section
variable{w w' wU:av}{F G:Nat->Prop}{bs:J Nat}
theorem Only.p(h:Only bs w w')(a:∀b∈bs,F b∨w.heap.size<=b):OnlyP F w w':=
 ⟨h.os,h.tape,h.output,h.size,λk hk n=>h.block k hk R⟩
def Only.p0(h:Only [] w w'):OnlyP F w w':=h.p N
def OnlyP.refl F w:OnlyP F w w:=(qE [] w).p0
def V8:=@OnlyP.refl
theorem OnlyP.mono(h:OnlyP F w w')(b:∀k<w.heap.size,F k->G k):OnlyP G w w':=⟨h.os,h.tape,h.output,h.size,λk hk n=>h.block k hk R⟩
theorem OnlyP.trans(h:OnlyP F w w')(k:OnlyP G w' wU)(b:∀k,G k->F k∨w.heap.size<=k):OnlyP F w wU:=
 ⟨k.os.trans h.os,k.tape.trans h.tape,k.output.trans h.output,bC h.size k.size,λa i n=>
  (k.block a (cD i h.size) R).trans (h.block a i n)⟩
def OnlyP.bG(h:OnlyP F w w')(k:Only [] w' wU):OnlyP F w wU:=h.trans (k.p0 (F:=λ_=>False)) λ_ h=>h.elim
def Only.ph(h:Only [] w w')(k:OnlyP F w' wU):OnlyP F w wU:=(h.p0 (F:=F)).trans k λ_ h=>.inl h
theorem OnlyP.only(h:OnlyP F w w')(b:∀k,F k->w.heap.size<=k):Only [] w w':=
 ⟨h.os,h.tape,h.output,h.size,λk hk _=>h.block k hk R⟩
theorem OnlyP.auk(h:OnlyP F w w')(b:∀k,F k->k∈bs∨w.heap.size<=k):Only bs w w':=
 ⟨h.os,h.tape,h.output,h.size,λk hk n=>h.block k hk R⟩
def OnlyP.same(b:OnlyP F w w')(h:∀x∈bs,x<w.heap.size/\¬F x):bX bs w w':=λx a=>b.block x (h x a).1 (h x a).2
def OnlyP.blk(a:OnlyP F w w'){b}{t}{cs}(h:Blk w b t cs)(n:¬F b):Blk w' b t cs:=(a.block b h.lt n).trans h
end
section
variable{α:Type}{r:Rp α}{size:Nat}{w w':av}{F G:Nat->Prop}{s:Sl}{xs:J α}{e:TypeId}{B:Nat}{bs:J Nat}
def SliceF.only(e:r.Ok)(a:0<size)(h:SliceF r size w F s xs)(O:Only bs w w')(d:∀k,F k->k<w.heap.size->k∉bs):SliceF r size w' F s xs:=
 h.keep e a λk c b=>O.block k b<|d k c b
def ZH:=@SliceF.only
def SliceF.jJ(e:r.Ok)(a:0<size)(h:SliceF r size w F s xs)(O:OnlyP G w w')(d:∀k,F k->k<w.heap.size->¬G k):SliceF r size w' F s xs:=
 h.keep e a λk c b=>O.block k b<|d k c b
def Zz:=@SliceF.jJ
def Rp.Ok.only(d:r.Ok){x}{cs}(h:r w F x cs)(O:Only bs w w')(c:∀k,F k->k<w.heap.size->k∉bs):r w' F x cs:=d.keep h λk a b=>O.block k b<|c k a b
def akq{s}(h:SliceF r size w F s xs)(a:s.a=VM):xs=[]:=by
 have:=h.nil0 a;have:=h.cap;have:=h.len;simp_all
def pJ.at(h:∃c,pJ r size w F xs c):True:=trivial
def pJ.setAt{css}(h:pJ r size w F xs css) j {x} {c} (a:WS c=size) (b:r w F x c):pJ r size w F (xs.set j x) (css.set j c):=jk.set j h ⟨a,b⟩
theorem aeC{s:J _}{tail}:∀{n:Nat} {a v:J aw},(∀c∈s,WS c=size)->s[n]? =aM a->WS v=size->
  fX (s.flatten++tail) (n*size) v=(s.set n v).flatten++tail:=by
 induction s with
 |nil=>grind
 |cons c s i=>
  intro n a v h b f;have:=h c N;cases n with
  |zero=>
   simp[fX];simp_all
  |succ n=>
   have:=i (λd hd=>h d<|by simp[hd]) b f;let e:(n+1)*size=WS c+n*size:=R
   simp only[fX]at this⊢;simp;rw[e,re,ez,<-this];simp
end
section
variable{α:Type}{r:Rp α}{size:Nat}{w w':av}{F G:Nat->Prop}{s:Sl}{xs:J α}{e:TypeId}{B:Nat}{P:Program}{t ty:TypeId}{i:TypeInfo}{z v:aw}{bytes:Nat}{x:α}
theorem iO(p:P.underlying t=aM (.slice e))(o:P.info? e=aM i)(q:i.zero=aM z)(u:i.size=size)(O:i.bytes=bytes)(H:z.cells.size=size)(Q:0<size)(C:0<bytes)(A:1*size<=16777216)
  (h:r.Ok) (m:Own r size e B w F s xs) (S:B<=w.heap.size) (U:WS v.cells.toList=size) (V:r w G x v.cells.toList) (n:∀k,G k->k<w.heap.size->F k/\s.a≠aM ⟨k,0,VM⟩) (T:(WS xs+1)*bytes<=140737488355328):
  ∃y a,(Instr.buildSlice t 1 #[(0,v)]).run P w=.ok (Sl.v y) a/\Only [] w a/\∃b c,(Builtin.append_ #[t,t] ty #[Sl.v s,Sl.v y]).run P a=.ok (Sl.v b) c/\
   Own r size e B c (λk=>F k∨w.heap.size<=k) b (xs++[x])/\(∃d,Only d a c/\∀g∈d,s.a=aM ⟨g,0,VM⟩/\B<=g/\g<w.heap.size)/\(b.a=s.a∨∃g,b.a=aM ⟨g,0,VM⟩/\w.heap.size<=g):=by
 let⟨y,a,X,Y,k3,k4,k5,k6⟩:=jP (P:=P) (t:=t) (e:=e) (i:=i) (z:=z) (w:=w) (F:=λk=>G k/\k<w.heap.size) (vs:=[v]) (parts:=#[_]) (len:=1) (xs:=[x]) (r:=r) (size:=size) p o q u Q I I Z A h ⟨⟨U,h.inHeap V⟩,trivial⟩;let D:Own r size e B a (λk=>F k∨w.heap.size<=k) s xs:=((m.inHeap h).keep h λk _ J=>k3.block k J N).mono h R;let W:=(Y.slice h).mono h (G:=λk=>(F k∨w.heap.size<=k)/\s.a≠aM _) λk hk=>by
  rcases hk with⟨hk,J⟩|⟨hk,_⟩
  .exact⟨.inl (n k hk J).1,(n k hk J).2⟩
  exact⟨.inr hk,λe=>by have:=(m.blk e).2;dsimp only at this;omega⟩
 let⟨b,c,E,K,d,L,f,M⟩:=rA (ty:=ty) p o q u O H h D W (bC S k3.size) T C;refine⟨y,a,X,k3,b,c,E,K,⟨d,L,λg l=>⟨(f g l).1,(f g l).2.1,(m.blk (f g l).1).2⟩⟩,?_⟩;rcases M with j|j
 .exact .inl j
 exact .inr ⟨_,j,k3.size⟩
theorem Own.store(a:r.Ok)(o:Own r size e B w F s xs){n}(m:n<WS xs){x}{vs}(v:WS vs=size)(p:r w G x vs)(u:∀k,G k->k<w.heap.size->F k/\s.a≠aM ⟨k,0,VM⟩)(q:0<size):
  ∃g cells,s.a=aM ⟨g,0,VM⟩/\ci s n size ⟨g,n*size,VM⟩/\Blk w g e cells/\n*size+size<=WS cells/\
   ∀w',Only [g] w w'->Blk w' g e (fX cells (n*size) vs)->Own r size e B w' F s (xs.set n x):=by
 rcases o with⟨rfl,rfl⟩|⟨g,c,tail,b,d,f,i,t,j,l,h⟩
 .simp at m
 have:=h.len;let e:n<WS c:=X
 have:=AO h.sz;have:=by
  have:=HS size (show n+1<=(WS c) by omega);rw[iX]at this;omega
 refine⟨g,_,b,⟨_,b,X,X,by rw[jS,aV,bS]⟩,f,R,λw' O r=>.inr ⟨g,c.set n vs,tail,b,d,?_,i,R,j,l,?_⟩⟩
 .rw[aeC h.sz (aR e) v]at r;exact r
 refine pJ.setAt (h.keep a λk hk J=>O.block k J NS) n v<|a.keep (w:=w) (F:=λk=>F k/\k≠g) ?_ λk hk J=>O.block k J NS;refine a.mono (a.inHeap p) λk hk=>?_
 grind
def MT:=@Own.store
def hdT(b:P.underlying t=aM (.slice e))(h:P.info? e=aM i)(r:Rp α) size w F:
  ∃y a,(Instr.buildSlice t 0 #[]).run P w=.ok (Sl.v y) a/\Own r size e w.heap.size a F y []/\Only [] w a:=
 ⟨⟨aM _,0,0⟩,_,zX w b h,.inr ⟨w.heap.size,[],[],I,bc _,Jp w e [],N,I,bc _,bE _,trivial⟩,Rk _ _⟩
end
def Own.aul{α}{r}{size}{w}{F}{s}{xs}{e}{B}(b:r.Ok)(p:Own r size e B w F s xs){n:Nat}{x:α}(f:xs[n]? =aM x):
  ∃g cells c,s.a=aM ⟨g,0,VM⟩/\ci s n size ⟨g,n*size,VM⟩/\Blk w g e cells/\WS c=size/\Cells w ⟨g,n*size,VM⟩ c/\r w (λk=>F k/\k≠g) x c/\
   ∀off v y G,off<size->r w G y (c.set off v)->(∀k,G k->k<w.heap.size->F k/\k≠g)->
    n*size+off+1<=WS cells/\∀k,Only [g] w k->Blk k g e (fX cells (n*size+off) [v])->Own r size e B k F s (xs.set n y):=by
 rcases p with⟨rfl,rfl⟩|⟨g,a,tail,d,j,i,l,q,m,o,h⟩
 .simp at f
 let⟨c,r,x,k3⟩:=h.get f;have:=h.len;have:=(aZ.1 f).1;have:=AO h.sz;have:=by
  have:=HS size (show n+1<=(WS a) by omega);rw[iX]at this;omega
 refine⟨g,_,c,d,⟨_,d,X,X,by rw[jS,aV,bS]⟩,i,x,i.cells _ _ λB v t=>?_,k3,λoff v y G u w z=>⟨R,λE O e=>.inr ⟨g,a.set n<|c.set off v,tail,d,j,?_,l,R,m,o,?_⟩⟩⟩
 .have:=Ju h.sz r t
  grind
 .rw[zW R,nr h.sz r u]at e;exact e
 exact pJ.setAt (h.keep b λk hk J=>O.block k J NS) n R<|b.mono (b.keep (b.inHeap w) λk hk J=>O.block k J R) R
def jk.aum{α β}{P}{f:α->β}:∀{xs:J α} {css:J _},jk P (xs.map f) css↔jk (λx s=>P (f x) s) xs css
 |[],[]=>Iff.rfl
 |x::xs,c::s=>by simp[jk,jk.aum (xs:=xs) (css:=s)]
 |[],_::_=>Iff.rfl
 |_::_,[]=>Iff.rfl
def jk.aun{α}{P Q}:∀{xs:J α} {css:J _},(∀x c,x∈xs->P x c->Q x c)->jk P xs css->jk Q xs css
 |[],[],_,_=>trivial
 |x::xs,c::s,i,h=>⟨i _ _ N h.1,jk.aun (xs:=xs) (css:=s) A h.2⟩
 |[],_::_,_,h=>h.elim
 |_::_,[],_,h=>h.elim
def Own.map{α β}{r:Rp α}{q:Rp β}{size}{w}{F G}{s}{xs}{e}{B} f (h:Own r size e B w F s xs) (p:∀g x a,x∈xs->r w (λk=>F k/\k≠g) x a->q w (λk=>G k/\k≠g) (f x) a):Own q size e B w G s (xs.map f):=by
 rcases h with⟨rfl,rfl⟩|⟨g,c,tail,b,d,i,j,o,l,n,m⟩
 .exact .inl ⟨I,I⟩
 exact .inr ⟨g,c,tail,b,d,i,j,R,l,n,jk.aum.2<|jk.aun A m⟩
section
variable{P:Program}{w:av}
theorem ac3{z}(e:∀v∈z,v.oneCell'=aE)(a:0<z.size) n:∀v,v∈(Builtin.zeroCells z n).toList->v.oneCell'=aE:=λv d=>by
 have h:=X
 simp[Builtin.zeroCells]at h;obtain⟨i,c,rfl⟩:=h;have:i % z.size<z.size:=Nat.mod_lt _ a
 grind
def ahL{t e ty}{z}(i:P.underlying t=aM (.slice e))(j:∀w,(zeroValue e).run P w=.ok z w)(b:∀v∈z.cells,v.oneCell'=aE)(h:0<z.cells.size){g o n c}{bt}{cs}(k:0<n)
  (d:Blk w g bt cs) (a:o+n*z.cells.size<=WS cs):
  (Builtin.clear_ #[t] ty #[.slice (aM ⟨g,o,VM⟩) n c]).run P w=.ok (.tuple #[]) (w.setRow g (cs.take o++(Builtin.zeroCells z.cells n).toList++cs.drop (o+n*z.cells.size)).toArray):=by
 let f:(Builtin.zeroCells z.cells n).toList.length=n*z.cells.size:=by rw[kg,size_zeroCells]
 have l:=run_storeCells_at P g o bt (Builtin.zeroCells z.cells n).toList 0 cs.toArray w d R<|ac3 b h n;simp[f]at l;obtain⟨m,rfl⟩:∃m,n=m+1:=⟨n-1,X⟩
 simp[Builtin.clear_,run_underlying i,j,l]
def Own.clear{α}{r:Rp α}{size}{F}{s}{xs}{e}{B}{t ty}{z}(y:r.Ok)(E:0<size)(C:P.underlying t=aM (.slice e))(D:∀w,(zeroValue e).run P w=.ok z w)(u:∀v∈z.cells,v.oneCell'=aE)(H:z.cells.size=size)
  (A:Own r size e B w F s xs) {i} (x:i<WS xs):
  ∃d g,(Builtin.clear_ #[t] ty #[Sl.v (Sl.cut s i s.n s.c size)]).run P w=.ok (.tuple #[]) d/\s.a=aM ⟨g,0,VM⟩/\Only [g] w d/\Own r size e B d F (Sl.cut s 0 i s.c size) (xs.take i):=by
 rcases A with⟨rfl,rfl⟩|⟨g,a,tail,f,p,h,j,l,q,m,b⟩
 .simp at x
 let⟨G,sn,sc⟩:=s;dsimp only at f j l q m;subst f;let v:=b.OX;let e:Sl.cut ⟨aM ⟨g,0,VM⟩,sn,sc⟩ i sn sc size=⟨aM ⟨g,i*size,VM⟩,sn-i,sc-i⟩:=by
  simp[Sl.cut];rw[Q X];simp[jS]
 let B:i*size+(sn-i)*size=sn*size:=by rw[<-iX];congr 1;omega
 let O:=SG w g<|((a.flatten++tail).take (i*size)++(Builtin.zeroCells z.cells<|sn-i).toList++(a.flatten++tail).drop (i*size+(sn-i)*z.cells.size)).toArray;refine⟨_,g,by rw[e];exact ahL (P:=P) (w:=w) (t:=t) (ty:=ty) C D u X (g:=g) (o:=i*size) (n:=sn-i) (c:=sc-i) X h R,I,O,?_⟩;let r:Sl.cut ⟨aM ⟨g,0,VM⟩,sn,sc⟩ 0 i sc size=⟨aM ⟨g,0,VM⟩,i,sc⟩:=by simp[Sl.cut,Addr.add]
 rw[r];have:(a.flatten++tail).take (i*size)=(a.take i).flatten:=by
  rw[or3 R,abO b.sz]
 refine .inr ⟨g,a.take i,(Builtin.zeroCells z.cells<|sn-i).toList++(a.flatten++tail).drop (i*size+(sn-i)*z.cells.size),I,p,?_,?_,?_,P0,m,?_⟩
 .have:=h.setRow ((a.flatten++tail).take (i*size)++(Builtin.zeroCells z.cells<|sn-i).toList++(a.flatten++tail).drop (i*size+(sn-i)*z.cells.size))
  grind
 .simp only[aU,cT,v,<-l,kg,size_zeroCells,j,H,B];rw[gH,<-iX];congr 1;omega
 .grind
 refine pJ.keep y (jk.take i b) λk hk J=>O.block k J NS
end
def Pc l m:((⟨List.toArray l⟩:ByteArray).toList==(⟨List.toArray m⟩:ByteArray).toList)=JW (l=m):=by
 by_cases h:l=m<;>simp[h]
end Go.Kt
namespace Go.Kt
open Go renaming World->av,Value->aw
open Go Go.RowKit Go.MapKept
structure MapI (w:av) (r:Nat) (m:Int->Option Int):Prop where
 mem:∃es clock,w.heap[r]? =aM (.map es clock)/\(∀x,x∈es.toList->∃k v,x.key=.int .i64 k/\x.val=.int .i64 v)/\es.toList.Pairwise (λx y=>x.key≠y.key)/\
  ∀k v,m k=aM v↔∃x,x∈es.toList/\x.key=.int .i64 k/\x.val=.int .i64 v
section
variable{P:Program}{w w':av}{r:Nat}{m:Int->Option Int}{mty kt et:TypeId}
def MapI.keep(h:MapI w r m)(hk:w'.heap[r]? =w.heap[r]?):MapI w' r m:=by
 let⟨e,c,a,b⟩:=h.mem;exact⟨e,c,hk.trans a,b⟩
theorem MapI.lt(h:MapI w r m):r<w.heap.size:=by
 let⟨e,c,a,b⟩:=h.mem
 grind
def MapI.only(h:MapI w r m){bs}(O:Only bs w w')(n:r∉bs):MapI w' r m:=h.keep<|O.block r h.lt n
theorem AQ{w}{r}{o o'}(h:w.heap[r]? =aM o):Only [r] w {w with heap:=w.heap.setIfInBounds r o'}:=
 ⟨I,I,I,N,R⟩
theorem atB{a:Type}{l:J a}{j}{f}{e}(h:l[j]? =aM e):l.modify j f=l.set j (f e):=by
 apply jR
 grind
end
end Go.Kt
namespace Go.Kt
open Go renaming World->av,Value->aw
open Go Go.RowKit
@[reducible] def T(l:List UInt8):ByteArray:=⟨l.toArray⟩
def UK s:s=T s.data.toList:=rfl
def cE l:(T l).size=WS l:=rfl
def tJ l (i:Nat):(T l)[i]? =l[i]? :=by
 by_cases h:i<WS l
 .rw[aR h,getElem?_pos _ i _];rfl
 rw[cu X,getElem?_neg _ i<|by rw[cE];exact h]
def xr l a b:(T l).extract a b=T ((l.drop a).take<|b-a):=by
 rw[UK ((T l).extract a b),Lib.extract_data]
def gA l m:T l++T m=T (l++m):=rfl
def jC l m:((T l).toList==(T m).toList)=JW (l=m):=Pc l m
def ze(u:Nat->aw):J (Nat×aw)->Nat->aw
 |[],i=>u i
 |(k,v)::r,i=>bif Nat.beq k i then v else ze u r i
def Ds:J (Nat×aw)->Nat->Option aw
 |[],_=>VM
 |(k,v)::r,i=>bif Nat.beq k i then aM v else Ds r i
def WA(u:Nat->aw)(l:J (Nat×aw)):Nat->Nat->J aw
 |0,_=>[]
 |n+1,i=>ze u l i::WA u l n (i+1)
def fr(n:Nat)(u:Nat->aw)(l:J (Nat×aw)):Act:=⟨(WA u l n 0).toArray,[]⟩
def evO(n:Nat)(l:J (Nat×aw)):Operand->Option aw
 |.tmp k=>bif Nat.blt k n then Ds l k else VM
 |.const v=>aM v
 |.global g=>aM<|.pointer<|aM ⟨g,0,VM⟩
 |.func f=>aM<|.func (.func f) #[] #[]
def pl:Option Tmp->aw->J (Nat×aw)->J (Nat×aw)
 |some k,v,l=>(k,v)::l
 |none,_,l=>l
def Jv:Nat->J aw->J (Nat×aw)
 |_,[]=>[]
 |i,v::r=>(i,v)::Jv (i+1) r
section
variable{n0:Nat}{us0:Nat->aw}{l0:J (Nat×aw)}
def rB(u:Nat->aw)(l:J (Nat×aw)):∀n i,WS (WA u l n i)=n
 |0,_=>rfl
 |n+1,i=>by simp only[WA,aY,rB u l n<|i+1]
def qs(u:Nat->aw)(l:J (Nat×aw)):∀n i k,k<n->(WA u l n i)[k]? =aM (ze u l<|i+k)
 |0,_,_,h=>X
 |n+1,i,0,_=>rfl
 |n+1,i,k+1,h=>by
  simp only[WA,fP];rw[qs u l n (i+1) k X,show i+1+k=i+(k+1) by omega]
def yA{u:Nat->aw}:∀{l:J (Nat×aw)} {k:Nat} {v:aw},Ds l k=aM v->ze u l k=v
 |[],_,_,h=>VI
 |(j,a)::r,k,v,h=>by
  simp only[Ds,ze]at h⊢;cases b:Nat.beq j k
  .rw[b]at h;exact yA (l:=r) YW
  rw[b]at h;simpa using h
def Jw{u:Nat->aw}:∀{l:J (Nat×aw)} {k:Nat},Ds l k=VM->ze u l k=u k
 |[],_,_=>rfl
 |(j,a)::r,k,h=>by
  simp only[Ds,ze]at h⊢;cases b:Nat.beq j k
  .rw[b]at h;exact Jw (l:=r) YW
  rw[b]at h;simp at h
def YP{k:Nat}(hk:k<n0):(fr n0 us0 l0).eval (.tmp k)=ze us0 l0 k:=by
 show(WA us0 l0 n0 0).toArray.getD k undef=_;rw[Array.getD_eq_getD_getElem?,oA,qs _ _ _ _ _ hk,bS];rfl
def evE{x:Operand}{v:aw}(h:evO n0 l0 x=aM v):(fr n0 us0 l0).eval x=v:=by
 cases x with
 |tmp k=>
  simp only[evO]at h;cases b:Nat.blt k n0
  .rw[b]at h;cases h
  rw[b]at h;rw[YP (fJ b)];exact yA h
 |const u=>simpa[evO,Act.eval]using h
 |global g=>simpa[evO,Act.eval]using h
 |func f=>simpa[evO,Act.eval]using h
def ly{u:Nat->aw}{l:J (Nat×aw)}{k i:Nat}{v:aw}(h:k≠i):ze u ((k,v)::l) i=ze u l i:=by
 have:Nat.beq k i=aL:=by
  cases b:Nat.beq k i
  .rfl
  exact absurd (db b) h
 simp only[ze,this,cond_false]
def AU{u:Nat->aw}{l:J (Nat×aw)}{k:Nat}{v:aw}:ze u ((k,v)::l) k=v:=by
 simp only[ze,Nat.beq_refl,cond_true]
def NH{k:Nat}{v:aw}:(fr n0 us0 l0).put (aM k) v=fr n0 us0 ((k,v)::l0):=by
 unfold fr;rw[f0];congr 2;apply jR;intro i;rw[R7,rB];by_cases h:i<n0
 .rw[qs _ _ _ _ _ h,qs _ _ _ _ _ h,bS];split
  .rename_i a;subst a;rw[E h,AU]
  rename_i a;rw[ly a]
 rw[cu ZW,cu ZW];split
 .rename_i a;subst a;rw[Q h]
 rfl
def azz{d:Option Tmp}{v:aw}:(fr n0 us0 l0).put d v=fr n0 us0 (pl d v l0):=by
 rcases d with _|k
 .rfl
 exact NH
def H3:∀(a:J aw) (j i:Nat),ze (λ_=>undef) (Jv j a) i=if j<=i then(a[i-j]?).getD undef else undef
 |[],j,i=>by simp[Jv,ze]
 |v::r,j,i=>by
  simp only[Jv];by_cases y:j=i
  .subst y;rw[AU,E<|bc _];simp
  rw[ly y,H3 r (j+1) i];by_cases l:j<=i
  .rw[E l,E X,show i-j=(i-(j+1))+1 by omega,fP]
  rw[Q l,Q X]
end
section
variable{P:Program}{ops:Array Oper}{Q:Exit->Act->av->Prop}{rest:J Oper}{w w':av}{n0:Nat}{us0:Nat->aw}{l0:J (Nat×aw)}
def S8:aw->Option C
 |.bool b=>aM b
 |_=>VM
def sv0{e:J Oper}{j d:Nat}{o:Oper}{v:aw}(a:iY e j=aM o)(c:o.dst=aM d)(h:evO n0 l0 (.tmp d)=aM v):
  yielded e.toArray (fr n0 us0 l0).tmps j=S8 v:=by
 rw[lX]at a;let hd:d<n0:=by
  simp only[evO]at h;cases f:Nat.blt d n0
  .rw[f]at h;cases h
  exact fJ f
 have b:=evE (us0:=us0) h;rw[YP hd]at b;have:(fr n0 us0 l0).tmps[d]? =aM v:=by
  show(WA us0 l0 n0 0).toArray[d]? =_;rw[oA,qs _ _ _ _ _ hd,bS,b]
 simp only[yielded,oA,a,Option.bind_some,c,this];cases v<;>rfl
def wtF{o a:Oper}{Y:J Oper}{j d:Nat}{w b r:C}(h:o.guard=aM (j,w))(c:iY Y j=aM a)(f:a.dst=aM d)
  (g:evO n0 l0 (.tmp d)=aM (.bool b)) (i:(b==w)=r):Region.wanted o (yielded Y.toArray (fr n0 us0 l0).tmps)=r:=by
 subst i;simp only[Region.wanted,h,sv0 (us0:=us0) c f g,S8];cases b<;>cases w<;>rfl
def wuF{o a:Oper}{Y:J Oper}{j d:Nat}{want:C}(h:o.guard=aM (j,want))(b:iY Y j=aM a)(c:a.dst=aM d)
  (f:evO n0 l0 (.tmp d)=aM undef):Region.wanted o (yielded Y.toArray (fr n0 us0 l0).tmps)=aL:=by
 simp[Region.wanted,h,sv0 (us0:=us0) b c f,undef,S8]
def pg{x y:Option Addr}(h:x=y):aM (Value.pointer x)=aM (.pointer y):=by rw[h]
def ag{x y:Addr}(h:x=y):aM (Value.pointer<|aM x)=aM (.pointer<|aM y):=by rw[h]
def a8{x y:C}(h:x=y):aM (Value.bool x)=aM (.bool y):=by rw[h]
def sv{k:Tmp}{op:Op}{t:TypeId}{p:String}{a:Array Edge}{v:aw}(r:(execOp (fr n0 us0 l0).eval ⟨aM k,op,t,p,a,VM⟩).run P w=.ok (.value v) w)
 (h:wpList P ops Q rest (fr n0 us0 ((k,v)::l0)) w):wpList P ops Q (⟨aM k,op,t,p,a,VM⟩::rest) (fr n0 us0 l0) w:=Jj v (wn I) r NH h
def sn{op:Op}{t:TypeId}{p:String}{a:Array Edge}{v:aw}(r:(execOp (fr n0 us0 l0).eval ⟨VM,op,t,p,a,VM⟩).run P w=.ok (.value v) w)
 (h:wpList P ops Q rest (fr n0 us0 l0) w):wpList P ops Q (⟨VM,op,t,p,a,VM⟩::rest) (fr n0 us0 l0) w:=Jj v (wn I) r (f3 _ _) h
section
variable{md:Region.Mode}{E:Nat->av->av->Prop}{F:av->Prop}
def Pe(i:Nat){e:J Oper}{d:Option Tmp}{op:Op}{t:TypeId}{p:String}{f:Array Edge}{g:Option (Nat×C)}{fT:Nat}{b:Array C}(D N:J Nat)(F:av->Prop){v:aw}(y:iY e i=aM ⟨d,op,t,p,f,g⟩)
  (h:(Region.noSelect e.toArray&&Region.free md e.toArray b i&&(Region.ready md e.toArray b).contains i&&yz md e.toArray b&&vM md e.toArray i [] D&&(N.all λk=>b.getD k aE))=aE)
  (x:∀c a w,Q (.panic c) (Act.put a d v) w->Q (.panic c) a w) (A:∀j w w',j∉D->j∉N->F w->E j w w'->F w') (I:∀w,F w->E i w w) (u:F w)
  (z:YieldsIf P e.toArray F ⟨d,op,t,p,f,g⟩ v (fr n0 us0 l0))
  (s:gJ P md e.toArray Q E fT (b.setIfInBounds i aE) (fr n0 us0<|pl d v l0) w):gJ P md e.toArray Q E (fT+1) b (fr n0 us0 l0) w:=by
 simp only[aO]at h;let⟨⟨⟨⟨⟨l,m⟩,n⟩,o⟩,q⟩,r⟩:=h;exact P8 i D N v F y l m n o q r x A I u z azz s
def aeJ(i:Nat){e:J Oper}{d:Option Tmp}{op:Op}{t:TypeId}{p:String}{f:Array Edge}{g:Option (Nat×C)}{fT:Nat}{b:Array C}{l:J (Nat×J Nat)}(D N:J Nat)(F:av->Prop){v:aw}(q:iY e i=aM ⟨d,op,t,p,f,g⟩)
  (r:l.lookup i=VM) (s:∀j w w',j∉D->j∉N->F w->EL l j w w'->F w') (m:F w)
  (y:YieldsIf P e.toArray F ⟨d,op,t,p,f,g⟩ v (fr n0 us0 l0))
  (h:gJ P md e.toArray Q (EL l) fT (b.setIfInBounds i aE) (fr n0 us0<|pl d v l0) w)
  (o:(Region.noSelect e.toArray&&Region.free md e.toArray b i&&(Region.ready md e.toArray b).contains i&&yz md e.toArray b&&vM md e.toArray i [] D&&(N.all λk=>b.getD k aE))=aE:=by kernel_rfl)
  (n:∀c a w,Q (.panic c) (Act.put a d v) w->Q (.panic c) a w:=by exact λ_ _ _ h=>h):gJ P md e.toArray Q (EL l) (fT+1) b (fr n0 us0 l0) w:=
 Pe i D N F q o n s (λw _=>aj0 r w) m y h
def eN(i:Nat){e:J Oper}{d:Option Tmp}{op:Op}{t:TypeId}{p:String}{f:Array Edge}{g:Option (Nat×C)}{fT:Nat}{b:Array C}{l:J (Nat×J Nat)}(o:iY e i=aM ⟨d,op,t,p,f,g⟩)
  (E:∀w,EL l i w w) (n:Region.wanted ⟨d,op,t,p,f,g⟩ (yielded e.toArray (fr n0 us0 l0).tmps)=aL)
  (h:gJ P md e.toArray Q (EL l) fT (b.setIfInBounds i aE) (fr n0 us0<|pl d undef l0) w)
  (m:(Region.noSelect e.toArray&&Region.free md e.toArray b i&&(Region.ready md e.toArray b).contains i&&yz md e.toArray b&&vM md e.toArray i [] []&&(([]:J Nat).all λk=>b.getD k aE))=aE:=by kernel_rfl)
  (j:∀c a w,Q (.panic c) (Act.put a d undef) w->Q (.panic c) a w:=by exact λ_ _ _ h=>h):gJ P md e.toArray Q (EL l) (fT+1) b (fr n0 us0 l0) w:=
 Pe i [] [] (λ_=>True) o m j afa (λw _=>E w) trivial (S6 n) h
end
end
end Go.Kt
namespace Go.Kt.V
open Go renaming World->av,Value->aw
open Go Go.RowKit Go.Kt
structure OV where
 v:aw
 one:v.oneCell'=aE
inductive SV where
 |int (k:IntKind) (n:Int)
 |il (k:IntKind) (n:Int)
 |bl (b:Bool)
 |bt (t:Bool)
 |str (s:ByteArray)
 |np
 |ptr (p:Option Addr)
 |ad (a:Addr)
 |box (i o:Nat)
 |sl (s:Sl)
 |nsl
 |map (m:Option Nat)
 |raw (v:OV)
 |fn (f:FuncId) (fs cs:SV)
 |agg (l:SV)
 |tup (l:SV)
 |un
 |e
 |c (h t:SV)
def uB(c:Nat->Nat):SV->J aw
 |.int k n=>[.int k n]
 |.il k n=>[.int k n]
 |.bl b=>[.bool b]
 |.bt t=>[.bool t]
 |.str s=>[.string s]
 |.np=>[.pointer VM]
 |.ptr p=>[.pointer p]
 |.ad a=>[.pointer (aM a)]
 |.box i o=>[.pointer (aM ⟨c i,o,VM⟩)]
 |.sl s=>[s.v]
 |.nsl=>[Sl.v Sl.nil]
 |.map m=>[.map m]
 |.raw v=>[v.v]
 |.fn f a s=>[.func (.func f) (uB c a).toArray (uB c s).toArray]
 |.agg l=>[.agg (uB c l).toArray]
 |.tup l=>[.tuple (uB c l).toArray]
 |.un=>[undef]
 |.e=>[]
 |.c h t=>(uB c h).headD undef::uB c t
def val(a:Nat->Nat)(s:SV):aw:=(uB a s).headD undef
def cO(a:Nat->Nat)(l:J SV):J aw:=l.map<|val a
def qR:SV->J SV
 |.c h t=>h::qR t
 |_=>[]
def Jx:J SV->SV
 |[]=>.e
 |s::r=>.c s<|Jx r
def Hp:SV->C
 |.c _ t=>Hp t
 |.e=>aE
 |_=>aL
def vO β:∀l,uB β (Jx l)=cO β l
 |[]=>rfl
 |s::r=>by simp only[Jx,uB,vO β r];rfl
def qt β:∀{s:SV},Hp s=aE->uB β s=cO β (qR s)
 |.e,_=>rfl
 |.c a t,h=>by simp only[uB,qt β (s:=t) h];rfl
def cln(g:Nat->C):SV->C
 |.box i _=>g i
 |.fn _ f c=>cln g f&&cln g c
 |.agg l=>cln g l
 |.tup l=>cln g l
 |.c h t=>cln g h&&cln g t
 |_=>aE
def jT(g:Nat->C):J SV->C
 |[]=>aE
 |s::r=>cln g s&&jT g r
def pK{β β'}{g}(h:∀i,g i=aE->β i=β' i):∀s,cln g s=aE->uB β s=uB β' s
 |.int ..,_|.il ..,_|.bl ..,_|.bt ..,_|.str ..,_|.np,_|.ptr ..,_|.ad ..,_|.sl ..,_|.nsl,_|.map ..,_|.raw ..,_|.un,_|.e,_=>rfl
 |.box i o,c=>by simp[uB,h i c]
 |.fn f a s,c=>by
  simp[cln]at c;simp[uB,pK h a c.1,pK h s c.2]
 |.agg l,c=>by simp[uB,pK h l c]
 |.tup l,c=>by simp[uB,pK h l c]
 |.c s t,c=>by
  simp[cln]at c;simp[uB,pK h s c.1,pK h t c.2]
def kD{β β'}{g}(h:∀i,g i=aE->β i=β' i) s (c:cln g s=aE):val β s=val β' s:=by
 unfold val;rw[pK h s c]
def jr{β β'}{g}(h:∀i,g i=aE->β i=β' i):∀l,jT g l=aE->cO β l=cO β' l
 |[],_=>rfl
 |s::r,c=>by
  simp[jT]at c;have:=jr h r c.2;simp only[cO,ch]at this⊢;rw[kD h s c.1,this]
def gP β l:WS (cO β l)=WS l:=by rw[cO,bP]
def YQ:aw->Option SV
 |.int k n=>aM<|.il k n
 |.bool b=>aM<|.bl b
 |.string s=>aM<|.str s
 |.pointer VM=>aM .np
 |.slice VM 0 0=>aM .nsl
 |.map m=>aM<|.map m
 |v=>if h:v.oneCell'=aE then aM (.raw ⟨v,h⟩)else VM
def Hq:J aw->Option SV
 |[]=>aM .e
 |v::r=>match YQ v,Hq r with
  |some s,aM l=>aM<|.c s l
  |_,_=>VM
def Z9:aw->Option SV
 |.agg c=>(Hq c.toList).map .agg
 |.tuple c=>(Hq c.toList).map .tup
 |.func (.func f) s c=>match Hq s.toList,Hq c.toList with
  |some a,aM b=>aM<|.fn f a b
  |_,_=>VM
 |v=>YQ v
def Fa{v}{s}(h:YQ v=aM s) β:val β s=v:=by
 unfold YQ at h;split at h
 all_goals first|(simp at h;subst h;rfl)|skip
 split at h
 .simp at h;subst h;rfl
 cases h
def xt β:∀{l:J aw} {s:SV},Hq l=aM s->uB β s=l
 |[],s,h=>by simp[Hq]at h;subst h;rfl
 |v::r,s,h=>by
  simp[Hq]at h;split at h
  .rename_i s c a b;simp at h;subst h;simp only[uB,xt β b];rw[show(uB β s).headD undef=v from Fa a β]
  cases h
def Sf{v}{s}(h:Z9 v=aM s) β:val β s=v:=by
 unfold Z9 at h;split at h
 .rename_i c;rcases hl:Hq c.toList with _|l
  .grind
  rw[hl]at h;simp at h;subst h;simp[val,uB,xt β hl]
 .rename_i c;rcases hl:Hq c.toList with _|l
  .grind
  rw[hl]at h;simp at h;subst h;simp[val,uB,xt β hl]
 .split at h
  .rename_i a b c d;simp at h;subst h;simp[val,uB,xt β c,xt β d]
  cases h
 exact Fa h β
structure nu where
 blk:Option Nat
 ty:TypeId
 cells:List SV
 stp:Nat
 ok:Bool
 esc:Bool
 sh:Bool
structure St where
 n:Nat
 fr:List (Nat×Nat×SV)
 bx:List nu
 w0:av
 mv:Bool
 dt:List Nat
 ct:Nat
 df:List (Nat×List aw×List aw)
def WG(l:J (Nat×J aw×J aw)):J Deferred:=l.map λd=>{target:=.fn (.func d.1) d.2.2.toArray,args:=d.2.1.toArray}
def NU(n:Nat)(u:Nat->aw)(l:J (Nat×aw))(D:J Deferred):Act:=⟨(WA u l n 0).toArray,D⟩
def eZ:J (Nat×Nat×SV)->Nat->Option (Nat×SV)
 |[],_=>VM
 |(k,s)::r,i=>bif Nat.beq k i then aM s else eZ r i
def St.get(st:St)(i:Nat):Option SV:=bif Nat.blt i st.n then(eZ st.fr i).map (·.2)else VM
def St.ev(st:St):Operand->Option SV
 |.tmp k=>st.get k
 |.const v=>Z9 v
 |.global g=>aM<|.ad ⟨g,0,VM⟩
 |.func f=>aM<|.fn f .e .e
def St.U1(st:St):J Operand->Option (J SV)
 |[]=>aM []
 |x::r=>match st.ev x,st.U1 r with
  |some v,aM s=>aM (v::s)
  |_,_=>VM
def St.evp(st:St):J (Nat×Operand)->Option (J<|Nat×SV)
 |[]=>aM []
 |(i,x)::r=>match st.ev x,st.evp r with
  |some v,aM s=>aM ((i,v)::s)
  |_,_=>VM
def St.put(st:St)(d:Option Tmp)(v:SV):St:=match d with
 |some k=>{st with fr:=(k,st.ct,v)::st.fr,ct:=st.ct+1}
 |none=>st
def dq:J nu->Nat->Option nu
 |[],_=>VM
 |b::_,0=>aM b
 |_::r,n+1=>dq r n
def VO:J nu->Nat->nu->J nu
 |[],_,_=>[]
 |_::r,0,b=>b::r
 |a::r,n+1,b=>a::VO r n b
def cv(a:Nat->Nat)(l:J (Nat×Nat×SV)):J (Nat×aw):=l.map λp=>(p.1,val a p.2.2)
def oG β:∀l i,Ds (cv β l) i=(eZ l i).map λp=>val β p.2
 |[],_=>rfl
 |(k,s)::r,i=>by
  simp[cv,Ds,eZ];cases Nat.beq k i
  .exact oG β r i
  rfl
structure auE (β:Nat->Nat) (w0 w:av) (i:Nat) (b:nu):Prop where
 blk:Blk w (β i) b.ty (cO β b.cells)
 at_:∀k,b.blk=aM k->β i=k
 new:b.blk=VM->w0.heap.size<=β i
structure Rep (β:Nat->Nat) (st:St) (a:Act) (w:av):Prop where
 fr:∃us,a=NU st.n us (cv β st.fr) (WG st.df)
 bx:∀i b,dq st.bx i=aM b->b.ok=aE->auE β st.w0 w i b
 ne:∀i j bi bj,dq st.bx i=aM bi->dq st.bx j=aM bj->bi.ok=aE->bj.ok=aE->i≠j->β i≠β j
 only:Only (st.dt.map β) st.w0 w
 still:st.mv=aL->w=st.w0
structure Ext (s t:St):Prop where
 n:t.n=s.n
 ct:s.ct<=t.ct
 fr:∀i k v,eZ t.fr i=aM (k,v)->k<s.ct->eZ s.fr i=aM (k,v)
 bx:∀i b',dq t.bx i=aM b'->b'.ok=aE->b'.stp<s.ct->∃b,dq s.bx i=aM b/\b.ok=aE/\b.cells=b'.cells/\b.ty=b'.ty/\b.stp=b'.stp/\(∀k,b.blk=aM k->b'.blk=aM k)
 ps:∀i b,dq s.bx i=aM b->∃b',dq t.bx i=aM b'/\b'.ty=b.ty/\b'.ok=b.ok/\∀k,b.blk=aM k->b'.blk=aM k
 df:∃l,t.df=l++s.df
def LQ{s:St}:∃l,s.df=l++s.df:=⟨[],I⟩
def YR{l}:∀i b,dq l i=aM b->∃a,dq l i=aM a/\a.ty=b.ty/\a.ok=b.ok/\∀k,b.blk=aM k->a.blk=aM k:=A
def Ext.refl s:Ext s s:=⟨I,X,R,A,YR,LQ⟩
def Wp:=@Ext.refl
def Ext.trans{s t u}(h:Ext s t)(k:Ext t u):Ext s u:=
 ⟨k.n.trans h.n,bC h.ct k.ct,λi m v l J=>h.fr i m v (k.fr i m v l<|cD J h.ct) J,λi a c o d=>by
  let⟨e,g,j,k3,r,v,u⟩:=k.bx i a c o<|cD d h.ct;let⟨b,f,n,p,q,t,s⟩:=h.bx i e g j X;simp_all,λi b c=>by
  let⟨e,f,n,p,q⟩:=h.ps i b c;let⟨a,g,j,k3,r⟩:=k.ps i e f;simp_all,by
  let⟨w,f⟩:=h.df;let⟨m,g⟩:=k.df
  grind⟩
def PX:=@Ext.trans
section
variable{β:Nat->Nat}{st:St}{a:Act}{w:av}
def Rep.get(h:Rep β st a w){i}{s}(g:st.get i=aM s):a.eval (.tmp i)=val β s:=by
 obtain⟨u,rfl⟩:=h.fr;show(Kt.fr st.n u _).eval (.tmp i)=_;refine evE (n0:=st.n) (us0:=u) ?_;unfold St.get at g;cases b:Nat.blt i st.n
 .grind
 simp[evO,oG];cases l:eZ st.fr i<;>grind
def Rep.ev(b:Rep β st a w){x}{s}(h:st.ev x=aM s):a.eval x=val β s:=by
 cases x with
 |tmp k=>exact b.get h
 |const v=>rw[Sf h];rfl
 |global g=>
  simp[St.ev]at h;subst h;rfl
 |func f=>
  simp[St.ev]at h;subst h;rfl
def Rep.U1(h:Rep β st a w):∀{s:J Operand} {l:J SV},st.U1 s=aM l->s.map a.eval=cO β l
 |[],l,g=>by simp[St.U1]at g;subst g;rfl
 |x::r,l,g=>by
  simp[St.U1]at g;split at g
  .rename_i v a x r;simp at g;subst g;rw[ch,h.ev x,h.U1 r];rfl
  cases g
def H4(a:Nat->Nat)(l:J (Nat×SV)):J (Nat×aw):=l.map λp=>(p.1,val a p.2)
def Rep.evp(h:Rep β st a w):∀{x:J _} {l:J _},st.evp x=aM l->(x.map λq=>(q.1,a.eval q.2))=H4 β l
 |[],l,g=>by simp[St.evp]at g;subst g;rfl
 |_::r,l,g=>by
  simp[St.evp]at g;split at g
  .rename_i v s a r;simp at g;subst g;rw[ch,h.evp r,h.ev a];rfl
  cases g
theorem St.evO{st:St} β {x} {s} (h:st.ev x=aM s):Kt.evO st.n (cv β st.fr) x=aM (val β s):=by
 cases x with
 |tmp i=>
  have h:st.get i=aM s:=h;unfold St.get at h;cases b:Nat.blt i st.n
  .grind
  simp[Kt.evO,oG];cases l:eZ st.fr i<;>grind
 |const v=>rw[Sf h];rfl
 |global g=>
  simp[St.ev]at h;subst h;rfl
 |func f=>
  simp[St.ev]at h;subst h;rfl
def Rep.put(h:Rep β st a w) d v:Rep β (st.put d v) (a.put d<|val β v) w:=by
 rcases d with _|k
 .exact h
 obtain⟨u,rfl⟩:=h.fr;exact⟨⟨u,bn (λa:Act=>(⟨a.tmps,WG st.df⟩:Act))<|NH (n0:=st.n) (us0:=u) (l0:=cv β st.fr) (k:=k) (v:=val β v)⟩,h.bx,h.ne,h.only,h.still⟩
def Wi:=@Rep.put
theorem Ext.put st d v:Ext st (st.put d v):=by
 rcases d with _|k
 .exact Wp _
 refine⟨I,kB _,λi m u l J=>?_,λi b h o _=>⟨b,h,o,I,I,I,λ_ h=>h⟩,YR,LQ⟩;simp[St.put,eZ]at l
 grind
def WV:=@Ext.put
def Rep.frame(h:Rep β st a w){fr'}(s:∀i p,eZ fr' i=aM p->∃q,eZ st.fr i=aM q/\val β q.2=val β p.2):Rep β {st with fr:=fr'} a w:=by
 obtain⟨u,rfl⟩:=h.fr;refine⟨?_,h.bx,h.ne,h.only,h.still⟩;refine⟨λi=>ze u (cv β st.fr) i,?_⟩;unfold NU;congr 2;apply jR;intro i;by_cases b:i<st.n
 .rw[qs _ _ _ _ _ b,qs _ _ _ _ _ b,bS];rcases hl:eZ fr' i with _|p
  .rw[Jw (l:=cv β fr') Z8]
  let⟨q,a,c⟩:=s i p hl;rw[yA (l:=cv β fr') (v:=val β p.2) Z8,yA (l:=cv β st.fr) (v:=val β p.2)<|by rw[oG,a,gN,c]]
 rw[cu ZW,cu<|by rw[rB];grind]
end
def cn{a:Type}(o:Option a)(K:a->Prop):Prop:=match o with
 |some v=>K v
 |none=>False
def bD{α}{o:Option α}{K}(h:cn o K):∃v,o=aM v/\K v:=by
 rcases o with _|v
 .exact h.elim
 exact⟨v,I,h⟩
def gi:J (C×C)->Prop->Prop
 |[],p=>p
 |(t,b)::r,p=>t=b->gi r p
def gh:J (C×C)->Prop
 |[]=>True
 |(t,b)::r=>t=b/\gh r
def jt:∀{gs:J _} {p:Prop},gi gs p->gh gs->p
 |[],_,h,_=>h
 |_::r,p,h,k=>jt (gs:=r) (h k.1) k.2
inductive Lf where
 |int (k:IntKind)
 |bool
 |str
 |ptr
 |sl
 |map
 |raw
def Lf.T:Lf->Type
 |.int _=>Int
 |.bool=>C
 |.str=>ByteArray
 |.ptr=>Option Addr
 |.sl=>Sl
 |.map=>Option Nat
 |.raw=>OV
def Lf.sv:(l:Lf)->l.T->SV
 |.int k,x=>.int k x
 |.bool,x=>.bt x
 |.str,x=>.str x
 |.ptr,x=>.ptr x
 |.sl,x=>.sl x
 |.map,x=>.map x
 |.raw,x=>.raw x
def Lf.cln g (l:Lf) x:V.cln g (l.sv x)=aE:=by cases l<;>rfl
def Wt:J Lf->(J SV->Prop)->Prop
 |[],K=>K []
 |l::r,K=>∃x,Wt r λv=>K (l.sv x::v)
def xu:∀{ls:J Lf} {K:J SV->Prop},Wt ls K->∃v,K v/\WS v=WS ls/\∀g,jT g v=aE
 |[],K,h=>⟨[],h,I,λ_=>I⟩
 |l::r,K,h=>by
  let⟨x,h⟩:=h;let⟨v,a,b,c⟩:=xu (ls:=r) h;exact⟨_,a,by simp[b],λg=>by simp[jT,Lf.cln,c g]⟩
def azC:TypeDesc->Lf
 |.int k=>.int k
 |.bool=>.bool
 |.string=>.str
 |.pointer _=>.ptr
 |.slice _=>.sl
 |.map _ _=>.map
 |_=>.raw
def rep{a:Type}:Nat->J a->J a
 |0,_=>[]
 |n+1,l=>l++rep n l
def flat{a b:Type}(f:a->J b):J a->J b
 |[]=>[]
 |x::r=>f x++flat f r
def YS(P:Program):Nat->TypeId->J Lf
 |0,_=>[]
 |n+1,t=>match P.underlying t with
  |some (.struct fs)=>flat (λf:Field=>YS P n f.type) fs.toList
  |some (.array len e)=>rep len<|YS P n e
  |some d=>[azC d]
  |none=>[]
def pL:TypeDesc->C
 |.struct _=>aE
 |.array _ _=>aE
 |_=>aL
def VQ(ag:C)(l:J SV):SV:=bif ag then .agg (Jx l)else l.headD .un
def β0:Nat->Nat:=λ_=>0
def uC:SV->Option (IntKind×Int)
 |.int k n=>aM (k,n)
 |.il k n=>aM (k,n)
 |_=>VM
def dN{s}{k}{n}(h:uC s=aM (k,n)) β:val β s=.int k n:=by
 cases s<;>simp[uC]at h
 all_goals obtain⟨rfl,rfl⟩:=h;rfl
def Fb:SV->Option C
 |.bl b=>aM b
 |.bt b=>aM b
 |_=>VM
def pM{s}{b}(h:Fb s=aM b) β:val β s=.bool b:=by
 cases s<;>simp[Fb]at h
 all_goals subst h;rfl
def zY:SV->Option ByteArray
 |.str s=>aM s
 |_=>VM
def jU{s}{b}(h:zY s=aM b) β:val β s=.string b:=by
 cases s<;>simp[zY]at h
 all_goals subst h;rfl
def Sg:SV->Option Sl
 |.sl s=>aM s
 |.nsl=>aM Sl.nil
 |_=>VM
def mN{s}{b}(h:Sg s=aM b) β:val β s=b.v:=by
 cases s<;>simp[Sg]at h
 all_goals subst h;rfl
def ib(op:BinOp)(k:IntKind)(m n:Int):Option SV:=match op with
 |.add=>aM<|.int k<|k.wrap<|m+n
 |.sub=>aM<|.int k<|k.wrap<|m-n
 |.mul=>aM<|.int k<|k.wrap<|m*n
 |.eql=>aM<|.bt<|m==n
 |.neq=>aM<|.bt<|m !=n
 |.lss=>aM<|.bt<|JW<|m<n
 |.leq=>aM<|.bt<|JW<|m<=n
 |.gtr=>aM<|.bt<|JW<|m>n
 |.geq=>aM<|.bt<|JW<|m>=n
 |.and=>aM<|.int k<|bits .and k m n
 |.or=>aM<|.int k<|bits .or k m n
 |.xor=>aM<|.int k<|bits .xor k m n
 |.andNot=>aM<|.int k<|bits .andNot k m n
 |_=>VM
def sb(op:BinOp)(s u:ByteArray):Option SV:=match op with
 |.eql=>aM<|.bt<|s.toList==u.toList
 |.neq=>aM<|.bt<|!(s.toList==u.toList)
 |.lss=>aM<|.bt<|Op.bytesLess s.toList u.toList
 |.geq=>aM<|.bt<|!(Op.bytesLess s.toList u.toList)
 |.leq=>aM<|.bt<|Op.bytesLess s.toList u.toList||(s.toList==u.toList)
 |.gtr=>aM<|.bt<|!(Op.bytesLess s.toList u.toList||(s.toList==u.toList))
 |_=>VM
def nz(g:J (C×C))(b:SV)(n:Int)(K:Prop):Prop:=match b with
 |.il _ _=>bif n==0 then False else K
 |_=>gi g (n≠0)/\K
def Ih(g:J (C×C))(b:SV)(n:Int)(K:Prop):Prop:=match b with
 |.il _ _=>bif JW (0<=n)then K else False
 |_=>gi g (0<=n)/\K
def opn:SV->Option (Option Addr)
 |.np=>aM VM
 |.ptr p=>aM p
 |.ad a=>aM<|aM a
 |_=>VM
def afe{s}{p}(h:opn s=aM p) β:val β s=.pointer p:=by
 cases s<;>simp[opn]at h
 all_goals subst h;rfl
def pn(op:BinOp)(a:SV):Option SV:=match op,a with
 |.eql,.ptr p=>aM<|.bt p.isNone
 |.neq,.ptr p=>aM<|.bt<|!p.isNone
 |.eql,.ad _=>aM<|.bl aL
 |.neq,.ad _=>aM<|.bl aE
 |.eql,.box _ _=>aM<|.bl aL
 |.neq,.box _ _=>aM<|.bl aE
 |.eql,.np=>aM<|.bl aE
 |.neq,.np=>aM<|.bl aL
 |_,_=>VM
def sn(op:BinOp)(s:Sl):Option SV:=match op with
 |.eql=>aM<|.bt s.a.isNone
 |.neq=>aM<|.bt<|!s.a.isNone
 |_=>VM
def YU:SV->C
 |.np=>aE
 |_=>aL
def Mr:SV->C
 |.nsl=>aE
 |_=>aL
def Z4(P:Program)(t:TypeId)(x y:SV):Option C:=match P.underlying t with
 |some (.int _)=>(match uC x,uC y with
  |some (k,m),aM (k',n)=>bif JW (k=k')then aM (m==n)else VM
  |_,_=>VM)
 |some .string=>(match zY x,zY y with
  |some s,aM u=>aM<|s==u
  |_,_=>VM)
 |some .bool=>(match Fb x,Fb y with
  |some s,aM u=>aM<|s==u
  |_,_=>VM)
 |_=>VM
def Ms(P:Program)(s a:J SV):J Field->Option C
 |[]=>aM aE
 |f::r=>bif f.name== "_" then VM else match s[f.offset]?,a[f.offset]? with
  |some x,aM y=>(match Z4 P f.type x y,Ms P s a r,r with
   |some b,aM _,[]=>aM b
   |some b,aM c,_=>aM<|b&&c
   |_,_,_=>VM)
  |_,_=>VM
def MM(P:Program)(t:TypeId)(f:Array Field)(a b:SV):Option C:=match a,b with
 |.agg l,.agg m=>bif Hp l&&Hp m&&!P.stoodInHeld t&&!P.eqGuardType P.depth t then Ms P (qR l) (qR m) f.toList else VM
 |_,_=>VM
def Iy(op:BinOp)(b:C):Option SV:=match op with
 |.eql=>aM<|.bt b
 |.neq=>aM<|.bt<|!b
 |_=>VM
def mn(op:BinOp)(a b:SV):Option SV:=match op,a,b with
 |.eql,.map m,.map VM=>aM<|.bt m.isNone
 |.neq,.map m,.map VM=>aM<|.bt<|!m.isNone
 |_,_,_=>VM
def vh(P:Program)(g:J (C×C))(op:BinOp)(t:TypeId)(a b:SV)(K:SV->Prop):Prop:=
 match uC a,uC b with
 |some (k,m),aM (k',n)=>(match op with
  |.shl=>Ih g b n<|K<|.int k<|k.wrap<|m*2 ^ (min n.toNat k.bits)
  |.shr=>Ih g b n<|K<|.int k<|m.fdiv<|2 ^ (min n.toNat k.bits)
  |.quo=>bif JW (k=k')then nz g b n (K<|.int k<|k.wrap<|m.tdiv n)else False
  |.rem=>bif JW (k=k')then nz g b n (K<|.int k<|m.tmod n)else False
  |_=>bif JW (k=k')then cn (ib op k m n) K else False)
 |_,_=>match zY a,zY b with
  |some s,aM u=>(match op with
   |.add=>gi g ((s.size:Int)+u.size<=9223372036854775807)/\K (.str<|s++u)
   |_=>cn (sb op s u) K)
  |_,_=>match Fb a,Fb b,P.underlying t with
   |some s,aM u,aM .bool=>(match op with
    |.eql=>K<|.bt<|s==u
    |.neq=>K<|.bt<|!(s==u)
    |_=>False)
   |_,_,_=>match P.underlying t with
    |some (.pointer _)=>bif YU b then cn (pn op a) K else bif YU a then cn (pn op b) K else False
    |some (.slice _)=>bif Mr b then cn ((Sg a).bind<|sn op) K else bif Mr a then cn ((Sg b).bind<|sn op) K else False
    |some (.struct fs)=>cn (MM P t fs a b) λr=>cn (Iy op r) K
    |some (.map _ _)=>cn (mn op a b) K
    |_=>False
section
variable{P:Program}{gs:J (C×C)}{K:SV->Prop}
theorem Pf{b}{k}{n}{K}(a:uC b=aM (k,n))(h:nz gs b n K):K/\(gh gs->n≠0):=by
 unfold nz at h;split at h
 .grind
 exact⟨h.2,λg=>jt h.1 g⟩
theorem vA{b}{n}{K}(h:Ih gs b n K):K/\(gh gs->0<=n):=by
 unfold Ih at h;split at h
 .grind
 exact⟨h.2,λg=>jt h.1 g⟩
theorem eh{b}{p}(h:bif b then p else False):b=aE/\p:=R
def qu(P:Program)(op:BinOp)(t:TypeId)(a b v:SV):=
 ∀c (act:Act) x y d h e p f g w,act.eval x=val c a->act.eval y=val c b->
  (execOp act.eval ⟨d,.binOp op t x y h,e,p,f,g⟩).run P w=.ok (.value<|val c v) w
def ap7{op}{t}{a b v}{k}{m n}(e:uC a=aM (k,m))(f:uC b=aM (k,n))(h:ib op k m n=aM v):qu P op t a b v:=by
 intro o act x y s l j p i g w c d;rw[dN e]at c;rw[dN f]at d;cases op<;>simp[ib]at h
 all_goals subst h;simp[execOp,c,d];cases k<;>rfl
def ap8{op}{t}{a b v}{s u}(f:zY a=aM s)(i:zY b=aM u)(h:sb op s u=aM v):qu P op t a b v:=by
 intro m act x y e l k p j g w c d;rw[jU f]at c;rw[jU i]at d;cases op<;>simp only[sb,bN,reduceCtorEq]at h
 all_goals subst h;simp only[execOp,c,d];rfl
theorem Ph{op}{t e}{a b v}(u:P.underlying t=aM (.pointer e))(f:YU b=aE)(d:pn op a=aM v):qu P op t a b v/\qu P op t b a v:=by
 let h:∀c,val c b=.pointer VM:=λc=>by
  unfold YU at f;split at f
  .rfl
  cases f
 let k:∀c,∃(q:Option Addr) (r:C),val c a=.pointer q/\val c v=.bool r/\((op=.eql/\q.isNone=r)∨(op=.neq/\(!q.isNone)=r)):=by
  intro c;unfold pn at d;split at d<;>simp only[bN,reduceCtorEq]at d<;>subst d
  .exact⟨_,_,I,I,.inl ⟨I,I⟩⟩
  .exact⟨_,_,I,I,.inr ⟨I,I⟩⟩
  .exact⟨_,_,I,I,R⟩
  .exact⟨_,_,I,I,R⟩
  .exact⟨_,_,I,I,R⟩
  .exact⟨_,_,I,I,R⟩
  .exact⟨_,_,I,I,.inl ⟨I,I⟩⟩
  exact⟨_,_,I,I,R⟩
 constructor
 .intro c act x y s m t p l g w b e;let⟨q,r,i,j,a⟩:=k c;rw[i]at b;rw[h]at e;rw[j];rcases a with⟨rfl,a⟩|⟨rfl,a⟩
  .exact ahY (run_underlying u w) b e a
  exact sxv (run_underlying u w) b e a
 intro c act x y s m t p l g w b e;let⟨q,r,i,j,a⟩:=k c;rw[i]at e;rw[h]at b;rw[j];rcases a with⟨rfl,a⟩|⟨rfl,a⟩
 .exact kdN (run_underlying u w) b e a
 exact ajl (run_underlying u w) b e a
theorem Pm{op}{t e}{a b v}(u:P.underlying t=aM (.slice e))(f:Mr b=aE)(h:(Sg a).bind (sn op)=aM v):qu P op t a b v/\qu P op t b a v:=by
 let c:∀d,val d b=.slice VM 0 0:=λd=>by
  unfold Mr at f;split at f
  .rfl
  cases f
 rcases hs:Sg a with _|s
 .grind
 rw[hs]at h;simp at h;constructor
 .intro d act x y s i t p e g w a b;rw[mN hs]at a;rw[c]at b;cases op<;>simp only[sn,bN,reduceCtorEq]at h<;>subst h
  .exact jn2 (run_underlying u w) a b
  exact ac2 (run_underlying u w) a b
 intro d act x y s i t p e g w a b;rw[mN hs]at b;rw[c]at a;cases op<;>simp only[sn,bN,reduceCtorEq]at h<;>subst h
 .exact ahq (run_underlying u w) a b
 exact roM (run_underlying u w) a b
def ap9{op}{t k e}{a b v}(u:P.underlying t=aM (.map k e))(h:mn op a b=aM v):qu P op t a b v:=by
 intro n act x y s l j p i g w c f;unfold mn at h;split at h<;>simp at h<;>subst h
 all_goals
  rename_i m;change act.eval x=.map m at c;change act.eval y=.map VM at f;let E:∀d,(Op.equalIn (d+1) t (.map m)<|.map VM).run P w=.ok m.isNone w:=λd=>by
   unfold Op.equalIn;cases m<;>simp[run_underlying u w]
 .have B:binOp .eql t (.map m) (.map VM)=(do pure (.bool<|(<-Op.equal t (.map m) (.map VM)))):=Mi
  let G:eqGuard .eql t x y (.map m) (.map VM)=pure _:=I;simp[execOp,c,f,G,B,Op.equal,Op.maxDepth,E 9999];rfl
 let B:binOp .neq t (.map m) (.map VM)=(do pure (.bool<|!(<-Op.equal t (.map m) (.map VM)))):=Mi
 let G:eqGuard .neq t x y (.map m) (.map VM)=pure _:=I;simp[execOp,c,f,G,B,Op.equal,Op.maxDepth,E 9999];rfl
theorem aff{t}{x y}{b}(h:Z4 P t x y=aM b) β d w:P.plainKey t=aE/\(Op.equalIn (d+1) t (val β x)<|val β y).run P w=.ok b w:=by
 unfold Z4 at h;split at h
 .rename_i k hu;refine⟨TQ,?_⟩;split at h
  .rename_i k m a n x y;cases hk:JW (k=a)with
   |false=>grind
   |true=>
    rw[hk]at h;injection h with h;subst h;have hk:=S hk;subst hk;rw[dN x,dN y];simp[Op.equalIn,run_underlying hu]
  cases h
 .rename_i hu;refine⟨TQ,?_⟩;split at h
  .rename_i s u x y;injection h with h;subst h;rw[jU x,jU y];simp[Op.equalIn,run_underlying hu]
  cases h
 .rename_i hu;refine⟨TQ,?_⟩;split at h
  .rename_i s u x y;injection h with h;subst h;rw[pM x,pM y];simp[Op.equalIn,run_underlying hu]
  cases h
 cases h
theorem hdK{xs ys} β d w:∀{s:J Field} {b:C},Ms P xs ys s=aM b->(Op.eqFields (d+1) (cO β xs).toArray (cO β ys).toArray s).run P w=.ok b w
 |[],b,h=>by
  simp[Ms]at h;subst h;rfl
 |f::r,b,h=>by
  unfold Ms at h;cases n:(f.name== "_")with
  |true=>grind
  |false=>
   rw[n]at h;split at h
   .rename_i x y g i;have p:(cO β xs).toArray[f.offset]? =aM (val β x):=by simp[cO,g]
    have j:(cO β ys).toArray[f.offset]? =aM (val β y):=by simp[cO,i]
    have go:∀{b c:C},Z4 P f.type x y=aM b->Ms P xs ys r=aM c->(Op.eqFields (d+1) (cO β xs).toArray (cO β ys).toArray (f::r)).run P w=.ok (b&&c) w:=fun{b c} e a=>by
     obtain⟨k,c⟩:=aff e β d w;simp[Op.eqFields,by simpa using n,ne_eq,not_false_eq_true,R6,Sem.run_bind,run_part_plain w k p,run_part_plain w k j,c,Result.andThen_ok];cases b
     .simp
     simpa using hdK β d w a
    split at h
    .rename_i b c e a;injection h with h;subst h;have:=go e a;simp[Ms]at a
     grind
    .grind
    cases h
   cases h
theorem afg{op}{t}{fs}{a b v}{r}(u:P.underlying t=aM (.struct fs))(c:MM P t fs a b=aM r)(h:Iy op r=aM v):qu P op t a b v:=by
 unfold MM at c;split at c
 .rename_i l m;obtain⟨a,c⟩:(Hp l&&Hp m&&!P.stoodInHeld t&&!P.eqGuardType P.depth t)=aE/\Ms P _ _ fs.toList=aM r:=by
   cases b:(Hp l&&Hp m&&!P.stoodInHeld t&&!P.eqGuardType P.depth t)with
   |true=>rw[b]at c;exact⟨I,c⟩
   |false=>grind
  simp at a;let⟨⟨⟨j,k⟩,n⟩,o⟩:=a;intro d act x y s A z p v g w e f;let i:∀{l:SV},Hp l=aE->val d (.agg l)=.agg (cO d _).toArray:=λq=>by
   show Value.agg (uB d _).toArray=_;rw[qt d q]
  rw[i j]at e;rw[i k]at f;let X:P.fieldsOf t=fs:=by simp[Program.fieldsOf,u]
  let E:(Op.equalIn 10000 t (.agg (cO d<|qR l).toArray)<|.agg (cO d<|qR m).toArray).run P w=.ok r w:=by
   rw[run_equalIn_struct w 9999 t _ _ (by rw[X];exact u) n,X];exact hdK d 9998 w c
  let G:∀op,(eqGuard op t x y (.agg (cO d<|qR l).toArray)<|.agg (cO d<|qR m).toArray).run P w=.ok () w:=λop=>by simp[eqGuard,o]
  unfold Iy at h;split at h
  .injection h with h;subst h;let B:binOp .eql t (.agg (cO d<|qR l).toArray) _=(do pure (.bool<|<-Op.equal t _ (.agg (cO d<|qR m).toArray))):=I;simp[execOp,e,f,B,Op.equal,Op.maxDepth,E,G];rfl
  .injection h with h;subst h;let B:binOp .neq t (.agg (cO d<|qR l).toArray) _=(do pure (.bool<|!(<-Op.equal t _ (.agg (cO d<|qR m).toArray)))):=I;simp[execOp,e,f,B,Op.equal,Op.maxDepth,E,G];rfl
  cases h
 cases c
def afh{op}{t}{a b}(h:vh P gs op t a b K):∃v,K v/\(gh gs->qu P op t a b v):=by
 unfold vh at h;split at h
 .rename_i k o m n e c;have i:∀{K:SV->Prop},(bif JW (k=m)then cn _ K else False)->∃v,K v/\(gh gs->qu P op t a b v):=λh=>by
   obtain⟨f,d⟩:=eh h;have hk:=S f;subst hk;obtain⟨v,l,j⟩:=bD d;exact⟨v,j,λ_=>ap7 e c l⟩
  split at h
  .obtain⟨h,n⟩:=vA h;exact⟨_,h,λg u act x y s r t p k q w a b=>apX (by rw[a,dN e]) (by rw[b,dN c])<|n g⟩
  .obtain⟨h,n⟩:=vA h;exact⟨_,h,λg u act x y s r t p k q w a b=>apY (by rw[a,dN e]) (by rw[b,dN c])<|n g⟩
  .obtain⟨f,d⟩:=eh h;have hk:=S f;subst hk;obtain⟨a,n⟩:=Pf c d;exact⟨_,a,λg v act x y s u t p q r w b k=>apV (by rw[b,dN e]) (by rw[k,dN c])<|n g⟩
  .obtain⟨f,d⟩:=eh h;have hk:=S f;subst hk;obtain⟨a,n⟩:=Pf c d;exact⟨_,a,λg v act x y s u t p q r w b k=>apW (by rw[b,dN e]) (by rw[k,dN c])<|n g⟩
  exact i h
 split at h
 .rename_i s u a b;split at h
  .exact⟨_,h.2,λg k act x y d j t p f i w c e=>Cur (by rw[c,jU a]) (by rw[e,jU b])<|jt h.1 g⟩
  obtain⟨v,c,K⟩:=bD h;exact⟨v,K,λ_=>ap8 a b c⟩
 split at h
 .rename_i s c a b u;split at h
  .exact⟨_,h,λg l act x y d k t p i j w e f=>st0 u (by rw[e,pM a])<|by rw[f,pM b]⟩
  .exact⟨_,h,λg l act x y d k t p i j w e f=>aeB u (by rw[e,pM a])<|by rw[f,pM b]⟩
  exact h.elim
 split at h
 .rename_i e u;cases a:YU b
  .rw[a]at h;obtain⟨b,h⟩:=eh h;obtain⟨v,c,K⟩:=bD h;exact⟨v,K,λ_=>(Ph u b c).2⟩
  rw[a]at h;obtain⟨v,b,K⟩:=bD h;exact⟨v,K,λ_=>(Ph u a b).1⟩
 .rename_i e u;cases a:Mr b
  .rw[a]at h;obtain⟨b,h⟩:=eh h;obtain⟨v,c,K⟩:=bD h;exact⟨v,K,λ_=>(Pm u b c).2⟩
  rw[a]at h;obtain⟨v,b,K⟩:=bD h;exact⟨v,K,λ_=>(Pm u a b).1⟩
 .rename_i f u;obtain⟨r,a,h⟩:=bD h;obtain⟨v,b,K⟩:=bD h;exact⟨v,K,λ_=>afg u a b⟩
 .rename_i k e u;obtain⟨v,a,K⟩:=bD h;exact⟨v,K,λ_=>ap9 u a⟩
 exact h.elim
end
def Sk:SV->C
 |.agg _=>aL
 |.tup _=>aL
 |.un=>aL
 |.e=>aL
 |.c _ _=>aL
 |_=>aE
def Sh:J SV->C
 |[]=>aE
 |s::r=>Sk s&&Sh r
def Mx{s}(h:Sk s=aE) β:(val β s).oneCell'=aE/\(val β s).cells=#[val β s]:=by
 cases s with
 |raw v=>
  have:val β (.raw v)=v.v:=I;refine⟨v.one,?_⟩;let⟨v,a⟩:=v;cases v<;>first|rfl|(simp[Value.oneCell']at a)
 |_=>first|exact⟨I,I⟩|(simp[Sk]at h)
def H5:∀{l:J SV},Sh l=aE->∀a,(cO a l).all Value.oneCell'=aE
 |[],_,_=>rfl
 |s::r,h,a=>by
  simp[Sh,aO]at h;simp only[cO,ch,mf,aO];exact⟨(Mx h.1 a).1,H5 h.2 a⟩
def Fc:SV->Option (J SV)
 |.agg l=>bif Hp l&&Sh (qR l)then aM (qR l)else VM
 |s=>bif Sk s then aM [s]else VM
def Jy{a:Type}{b}{x}{y:a}(h:(bif b then aM x else VM)=aM y):b=aE/\x=y:=by
 grind
def Ci{s}{l}(h:Fc s=aM l) β:(val β s).cells=(cO β l).toArray/\(cO β l).all Value.oneCell'=aE:=by
 unfold Fc at h;split at h
 .obtain⟨a,rfl⟩:=Jy h;simp at a;refine⟨?_,H5 a.2 β⟩;show(uB β _).toArray=_;rw[qt β a.1]
 obtain⟨a,rfl⟩:=Jy h;let⟨b,c⟩:=Mx a β;exact⟨c,by simp[cO,b]⟩
def Qd:J aw->Option (J SV)
 |[]=>aM []
 |v::r=>match YQ v,Qd r with
  |some s,aM l=>aM (s::l)
  |_,_=>VM
def Eg β:∀{l:J aw} {s:J SV},Qd l=aM s->cO β s=l
 |[],s,h=>by simp[Qd,bN]at h;subst h;rfl
 |v::r,s,h=>by
  simp[Qd]at h;split at h
  .rename_i s c a b;simp at h;subst h;have:=Eg β b;simp only[cO,ch]at this⊢;rw[Fa a,this]
  cases h
def ZV(c:J SV)(o:Nat)(v:J SV):J SV:=c.take o++v++c.drop (o+WS v)
def ej β cs o vs:cO β (ZV cs o vs)=fX (cO β cs) o (cO β vs):=by
 simp[cO,ZV,fX,cK,mg,B6,bP]
def Mz{off}:∀s k c,off+k+WS s<=(WS c)->
  (s.zipIdx k).foldl (λc x=>c.setIfInBounds (off+x.2) x.1) c.toArray=(fX c (off+k) s).toArray
 |[],k,c,_=>by simp[fX]
 |v::s,k,c,h=>by
  simp at h;let e:c.toArray.setIfInBounds (off+k) v=(c.set (off+k) v).toArray:=N
  rw[List.zipIdx_cons,ru,e,Mz s _ _ R];simp[fX,aY];rw[show off+_=off+k+1 by omega,aX,Ed X,LO X,List.drop_set_of_lt X,show off+k+1+WS s=off+k+(WS s+1) by omega];simp
def H6(place:Nat->Option (Nat×Nat)):J SV->J (Nat×SV)->Option (J SV)
 |cells,[]=>aM cells
 |cells,(i,v)::r=>match place i,Fc v with
  |some (off,size),aM v=>bif Nat.beq (WS v) size&&Nat.ble (off+WS v) (WS cells) then H6 place (ZV cells off v) r else VM
  |_,_=>VM
def Fe β {place}:∀{parts:J _} {cells r:J SV},H6 place cells parts=aM r->Instr.fill place (cO β cells).toArray (H4 β parts)=aM (cO β r).toArray
 |[],cells,r,h=>by simp[H6,bN]at h;subst h;rfl
 |_::e,cells,r,h=>by
  simp[H6]at h;split at h
  .rename_i off s v p c;cases b:(Nat.beq (WS v) s&&Nat.ble _ (WS cells))with
   |false=>rw[b]at h;cases h
   |true=>
    rw[b]at h;simp only[aO]at b;have:=db b.1;have:=fJ b.2;let⟨f,_⟩:=Ci c β;have i:=Fe β (parts:=e) (cells:=ZV cells off v) h;rw[ej]at i;simp only[H4,ch,Instr.fill,p,f,oE,gP];rw[Q o];have g:=Mz (off:=off) (cO β v) 0 (cO β cells) (by rw[gP,gP];omega);rw[ku]at g;let j:(cO β v).toArray.zipIdx.foldl (λd x=>d.setIfInBounds (off+x.2) x.1) (cO β cells).toArray=(fX (cO β cells) off<|cO β v).toArray:=by
     grind
    exact(bn (λa=>Instr.fill place a _) j).trans i
  cases h
def Ug(P:Program)(t:TypeId)(parts:J (Nat×SV)):Option (J SV):=
 match P.info? t,P.underlying t with
 |some i,aM (.array _ e)=>(match i.zero,P.info? e with
  |some z,aM e=>(match Qd z.cells.toList with
   |some z=>H6 (λa=>aM (a*e.size,e.size)) z parts
   |none=>VM)
  |_,_=>VM)
 |some t,aM (.struct fields)=>(match t.zero,fields.toList.mapM (λf=>(P.info? f.type).map λi=>(f.offset,i.size))with
  |some z,aM p=>(match Qd z.cells.toList with
   |some z=>H6 (p.toArray[·]?) z parts
   |none=>VM)
  |_,_=>VM)
 |_,_=>VM
def afj{P}{t}{parts}{r}(h:Ug P t parts=aM r) β w:(Instr.build t (H4 β parts).toArray).run P w=.ok (.agg (cO β r).toArray) w:=by
 refine run_build w t _ _ ?_;unfold Ug at h;split at h
 .rename_i i n e a b;split at h
  .rename_i z e c d;split at h
   .rename_i z f;have:=Fe β h;rw[Eg β f]at this;simp[Program.built,a,b,c,d];assumption
   cases h
  cases h
 .rename_i i f a b;split at h
  .rename_i z p c d;split at h
   .rename_i z e;have:=Fe β h;rw[Eg β e]at this;simp[Program.built,a,b,c,d];simpa using this
   cases h
  cases h
 cases h
def sz(P:Program)(t:TypeId)(n:Nat):C:=match P.info? t with
 |some i=>Nat.beq i.size n
 |none=>aL
def ue{P}{t}{n}(h:sz P t n=aE) w:(sizeOf t).run P w=.ok n w:=by
 unfold sz at h;rcases hi:P.info? t with _|i
 .rw[hi]at h;cases h
 rw[hi]at h;rw[<-db h];simp[Go.sizeOf,typeInfo,hi]
def rj(P:Program)(t:TypeId):Nat:=match P.info? t with
 |some i=>i.size
 |none=>0
def nQ{P}{t}{d}(h:P.underlying t=aM d) w:(isAgg t).run P w=.ok (pL d) w:=by
 unfold isAgg;rw[Sem.run_bind,run_underlying h];cases d<;>rfl
def Qe(b:SV)(K:Nat->(Prop->Prop)->Prop):Prop:=match b with
 |.il _ n=>bif JW (0<=n)then K n.toNat id else False
 |.int _ n=>∃v,K v λp=>n=v/\p
 |_=>False
def pN{b}{K}(h:Qe b K):∃(v:Nat) (e:Prop->Prop) (k:IntKind) (n:Int),K v e/\uC b=aM (k,n)/\(∀p,e p->n=v/\p):=by
 unfold Qe at h;split at h
 .rename_i k n;let⟨a,b⟩:=eh h;let a:=S a;exact⟨_,_,k,n,b,I,λp c=>⟨X,c⟩⟩
 .rename_i k n;let⟨v,b⟩:=h;exact⟨v,_,k,n,b,I,λp a=>a⟩
 exact h.elim
def FN(i:J (C×C))(s:Sl)(d:Nat)(st:St)(l h m:Option Operand)(K:SV->Prop):Prop:=match l,h,m with
 |some l,VM,VM=>cn (st.ev l) λa=>Qe a λb e=>gi i (e<|b<=s.n/\s.n<=s.c)/\K (.sl<|s.cut b s.n s.c d)
 |none,aM h,VM=>cn (st.ev h) λa=>Qe a λb e=>gi i (e<|b<=s.c)/\K (.sl<|s.cut 0 b s.c d)
 |some l,aM h,VM=>cn (st.ev l) λa=>cn (st.ev h) λb=>Qe a λg e=>Qe b λc f=>gi i (e<|f<|g<=c/\c<=s.c)/\K (.sl<|s.cut g c s.c d)
 |none,aM h,aM m=>cn (st.ev h) λb=>cn (st.ev m) λc=>Qe b λg e=>Qe c λa f=>gi i (e<|f<|g<=a/\a<=s.c)/\K (.sl<|s.cut 0 g a d)
 |some l,aM h,aM m=>cn (st.ev l) λa=>cn (st.ev h) λb=>cn (st.ev m) λc=>Qe a λn e=>Qe b λj f=>Qe c λk g=>gi i (e<|f<|g<|n<=j/\j<=k/\k<=s.c)/\K (.sl<|s.cut n j k d)
 |_,_,_=>False
def wF(g:J (C×C))(s:ByteArray)(st:St)(l h m:Option Operand)(K:SV->Prop):Prop:=match l,h,m with
 |some l,VM,VM=>cn (st.ev l) λa=>Qe a λb e=>gi g (e<|b<=s.size)/\K (.str<|s.extract b s.size)
 |none,aM h,VM=>cn (st.ev h) λa=>Qe a λb e=>gi g (e<|b<=s.size)/\K (.str<|s.extract 0 b)
 |some l,aM h,VM=>cn (st.ev l) λa=>cn (st.ev h) λb=>Qe a λd e=>Qe b λc f=>gi g (e<|f<|d<=c/\c<=s.size)/\K (.str<|s.extract d c)
 |_,_,_=>False
def Cj(P:Program)(b:Builtin)(d:J Operand)(c:J TypeId)(st:St)(K:SV->Prop):Prop:=match b,d,c with
 |.len,[x],[t]=>cn (st.ev x) λa=>(match P.underlying t with
  |some (.slice _)=>cn (Sg a) λs=>K<|.int .i64 s.n
  |some .string=>cn (zY a) λs=>K<|.int .i64 s.size
  |_=>False)
 |.cap,[x],[t]=>cn (st.ev x) λa=>(match P.underlying t with
  |some (.slice _)=>cn (Sg a) λs=>K<|.int .i64 s.c
  |_=>False)
 |.min,[x,y],_=>cn (st.ev x) λa=>cn (st.ev y) λb=>cn (uC a) λp=>cn (uC b) λq=>K<|.int p.1<|if q.2<p.2 then q.2 else p.2
 |.max,[x,y],_=>cn (st.ev x) λa=>cn (st.ev y) λb=>cn (uC a) λp=>cn (uC b) λq=>K<|.int p.1<|if q.2>p.2 then q.2 else p.2
 |_,_,_=>False
def nif:TypeDesc->C
 |.interface _=>aL
 |_=>aE
def Uc(P:Program)(g:J (C×C))(st:St)(s d:TypeId)(a:SV)(K:SV->Prop):Prop:=match P.underlying s,P.underlying d with
 |some (.int _),aM (.int kd)=>cn (uC a) λp=>K<|.int kd<|kd.wrap p.2
 |some .string,aM .string=>cn (zY a) λu=>K<|.str u
 |some (.slice e),aM .string=>(match P.underlying e with
  |some (.int .u8)=>cn (Sg a) λu=>bif st.mv then False else ∃l,gi g (wE st.w0 u l)/\K (.str ⟨l.toArray⟩)
  |_=>False)
 |_,_=>False
def Th(P:Program)(g:J (C×C))(st:St)(t:TypeId)(a:SV)(K:SV->Prop):Prop:=match P.underlying t with
 |none=>False
 |some d=>(match a with
  |.box i o=>cn (dq st.bx i) λb=>bif b.ok&&sz P t (WS<|(b.cells.drop o).take<|rj P t)&&(pL d||Nat.beq (WS<|(b.cells.drop o).take<|rj P t) 1)then K (VQ (pL d)<|(b.cells.drop o).take<|rj P t)else False
  |.ad p=>bif !st.mv&&sz P t (WS<|YS P 12 t)&&(pL d||Nat.beq (WS<|YS P 12 t) 1)then Wt (YS P 12 t) λv=>gi g (Cells st.w0 p<|cO β0 v)/\K (VQ (pL d) v)else False
  |_=>False)
def Si:Operand->C
 |.const .nilIface=>aE
 |_=>aL
def Zp:aw->C
 |.nilIface=>aE
 |_=>aL
def Ux(v:aw):Prop:=v=.nilIface∨∃t x,v=.iface t x
def UH(P:Program)(g:J (C×C))(op:BinOp)(t:TypeId)(a:SV)(K:SV->Prop):Prop:=match a,P.underlying t,op with
 |.raw v,aM<|.interface _,.eql=>gi g (Ux v.v)/\K (.bt<|Zp v.v)
 |.raw v,aM<|.interface _,.neq=>gi g (Ux v.v)/\K (.bt<|!Zp v.v)
 |_,_,_=>False
def adN{y}(h:Si y=aE):y=.const .nilIface:=by grind [Si]
def Ps{P}{t}{ms}{v}(h:P.underlying t=aM (.interface ms))(a:Ux v) w:(Op.equal t v .nilIface).run P w=.ok (Zp v) w:=by
 unfold Op.equal Op.maxDepth Op.equalIn;rcases a with rfl|⟨b,x,rfl⟩<;>simp[run_underlying h]<;>rfl
def MA{P}{op}{t}{x}{v}(h:Ux v) w:(eqGuard op t x (.const .nilIface) v .nilIface).run P w=.ok () w:=by
 unfold eqGuard;rcases h with rfl|⟨a,x,rfl⟩<;>first|rfl|simp
def akw{P}{gs}{st}{K}{op}{t ty}{x}{a}(k:st.ev x=aM a)(h:UH P gs op t a K):∃v,K v/\(gh gs->∀b c j,Rep b st c j->∀d i p f g w,
  (execOp c.eval ⟨d,.binOp op t x (.const .nilIface) ty,i,p,f,g⟩).run P w=.ok (.value<|val b v) w):=by
 unfold UH at h;split at h
 .rename_i v s u;refine⟨_,h.2,λn b c j R d i p f g w=>?_⟩;have a:=jt h.1 n;let e:c.eval x=v.v:=R.ev k;let l:c.eval (.const .nilIface)=.nilIface:=I;let m:binOp .eql t v.v .nilIface=(do pure (.bool<|<-Op.equal t v.v .nilIface)):=by
   rcases a with h|⟨o,x,h⟩<;>rw[h]<;>rfl
  simp[execOp,e,l,m,MA a,Ps u a];rfl
 .rename_i v s u;refine⟨_,h.2,λn b c j R d i p f g w=>?_⟩;have a:=jt h.1 n;let e:c.eval x=v.v:=R.ev k;let l:c.eval (.const .nilIface)=.nilIface:=I;let m:binOp .neq t v.v .nilIface=(do pure (.bool<|!(<-Op.equal t v.v .nilIface))):=by
   rcases a with h|⟨o,x,h⟩<;>rw[h]<;>rfl
  simp[execOp,e,l,m,MA a,Ps u a];rfl
 exact h.elim
def Sj(p:Addr)(i:Int)(len s:Nat)(q:Addr):Prop:=0<=i/\i<len/\p.add (i.toNat*s)=q
def Ow(n:Int)(F:Nat->Prop):Nat->Prop
 |0=>True
 |1=>n=0->F 0
 |j+2=>Ow n F (j+1)/\(n=((j+1))->F (j+1))
def yc{n}{F}:∀{m:Nat},Ow n F m->0<=n->n<m->F n.toNat
 |0,_,h,a=>X
 |1,h,a,b=>by
  have e:n=0:=X
  subst e;exact h I
 |j+2,h,a,b=>by
  by_cases e:n=((j+1))
  .have:=h.2 e;simp_all
  exact yc h.1 a X
def Za(P:Program)(g:J (C×C))(st:St)(o:Op)(K:SV->Prop):Prop:=match o with
 |.move x=>cn (st.ev x) K
 |.assign x=>cn (st.ev x) K
 |.pick c x y=>cn (st.ev c) λc=>(match c with
  |.bl aE=>cn (st.ev x) K
  |.bl aL=>cn (st.ev y) K
  |_=>False)
 |.binOp op t x y _=>cn (st.ev x) λa=>cn (st.ev y) λb=>bif Si y then UH P g op t a K else vh P g op t a b K
 |.unOp .not _ x=>cn (st.ev x) λa=>(match a with
  |.bl b=>K<|.bl<|!b
  |.bt b=>K<|.bt<|!b
  |_=>False)
 |.unOp .neg _ x=>cn (st.ev x) λa=>cn (uC a) λp=>K<|.int p.1<|p.1.wrap<|0-p.2
 |.convert s d x=>cn (st.ev x) λa=>Uc P g st s d a K
 |.extract x i=>cn (st.ev x) λa=>(match a with
  |.tup l=>bif Hp l then cn ((qR l)[i]?) K else False
  |_=>False)
 |.build t p=>cn (st.evp p.toList) λps=>cn (Ug P t ps) λr=>K<|.agg<|Jx r
 |.makeFunc n h c=>(match n with
  |.func f=>cn (st.U1 h.toList) λa=>cn (st.U1 c.toList) λb=>K<|.fn f (Jx a)<|Jx b
  |_=>False)
 |.makeInterface t x=>cn (st.ev x) λa=>cn (P.underlying t) λd=>bif nif d&&cln (λ_=>aL) a then K (.raw ⟨.iface t<|val β0 a,I⟩)else False
 |.nilCheck x=>cn (st.ev x) λa=>(match a with
  |.ad p=>K<|.ad p
  |.box i o=>K<|.box i o
  |.ptr p=>∃q,gi g (p=aM q)/\K (.ad q)
  |.fn f .e c=>K<|.fn f .e c
  |_=>False)
 |.fieldAddr s x k=>cn (st.ev x) λa=>(match P.underlying s with
  |some (.struct h)=>cn (h[k]?) λf=>bif Nat.ble 1 (rj P f.type)then(match a with
   |.ad p=>K<|.ad<|p.add f.offset
   |.box i o=>K<|.box i<|o+f.offset
   |_=>False)else False
  |_=>False)
 |.field t x k=>cn (st.ev x) λa=>(match a,P.underlying t with
  |.agg l,aM (.struct h)=>cn (h[k]?) λf=>cn (P.underlying f.type) λd=>bif Hp l&&sz P f.type (WS<|((qR l).drop f.offset).take<|rj P f.type)&&(pL d||Nat.beq (WS<|((qR l).drop f.offset).take<|rj P f.type) 1)
   then K (VQ (pL d)<|((qR l).drop f.offset).take<|rj P f.type)else False
  |_,_=>False)
 |.indexAddr t x i=>cn (st.ev x) λa=>cn (st.ev i) λj=>cn (uC j) λn=>(match P.underlying t with
  |some (.slice e)=>cn (Sg a) λs=>bif (P.info? e).isSome then ∃q,gi g (ci s n.2 (rj P e) q)/\K (.ad q)else False
  |some (.array len e)=>bif (P.info? e).isSome then(match a,j with
   |.box b o,.il _ n=>bif JW (0<=n)&&JW (n<len)then K (.box b<|o+n.toNat*rj P e)else False
   |.ad p,.il _ n=>bif JW (0<=n)&&JW (n<len)then K (.ad<|p.add<|n.toNat*rj P e)else False
   |.ad p,_=>∃q,gi g (Sj p n.2 len (rj P e) q)/\K (.ad q)
   |.box b o,_=>bif Nat.ble len 8 then(0<=n.2/\n.2<len)/\Ow n.2 (λj=>K<|.box b<|o+j*rj P e) len else False
   |_,_=>False)else False
  |_=>False)
 |.load t x=>cn (st.ev x) λa=>Th P g st t a K
 |.index t x i=>cn (st.ev x) λa=>cn (st.ev i) λj=>cn (uC j) λn=>(match P.underlying t with
  |some .string=>cn (zY a) λs=>∃c,gi g (0<=n.2/\s[n.2.toNat]? =aM c)/\K (.int .u8 c.toNat)
  |_=>False)
 |.slice t x l i m=>cn (st.ev x) λa=>(match P.underlying t with
  |some (.slice e)=>cn (Sg a) λs=>bif (P.info? e).isSome then FN g s (rj P e) st l i m K else False
  |some .string=>cn (zY a) λs=>wF g s st l i m K
  |_=>False)
 |.call c=>(match c.callee with
  |.builtin b=>Cj P b c.args.toList c.argTypes.toList st K
  |_=>False)
 |_=>False
def mem:Op->C
 |.load _ _=>aE
 |.convert _ _ _=>aE
 |_=>aL
def Y(P:Program)(st:St)(o:Op)(v:SV):=∀c a b,Rep c st a b->∀d t p f g w,(mem o=aE->w.heap=b.heap)->
 (execOp a.eval ⟨d,o,t,p,f,g⟩).run P w=.ok (.value<|val c v) w
def nR{P}{t}(h:(P.info? t).isSome=aE) w:(sizeOf t).run P w=.ok (rj P t) w:=by
 unfold rj;rcases hi:P.info? t with _|i
 .grind
 simp[Go.sizeOf,typeInfo,hi]
def Jz b o n:(⟨b,o,VM⟩:Addr).add n=⟨b,o+n,VM⟩:=by unfold Addr.add;split<;>simp_all
def tK{d}(h:pL d=aE) β l:val β (VQ (pL d) l)=.agg (cO β l).toArray:=by
 rw[h];show Value.agg (uB β _).toArray=_;rw[vO]
def Ff{l:J SV}(h:Nat.beq (WS l) 1=aE):∃s,l=[s]:=by
 have:=db h
 match l,this with
 |[s],_=>exact⟨s,I⟩
section
variable{P:Program}{gs:J (C×C)}{st:St}{K:SV->Prop}
def akz{t}{x}{a}(c:st.ev x=aM a)(h:Th P gs st t a K):∃v,K v/\(gh gs->Y P st (.load t x) v):=by
 unfold Th at h;split at h
 .exact h.elim
 rename_i d u;split at h
 .rename_i k o;let⟨b,n,h⟩:=bD h;let⟨i,m⟩:=eh h;simp only[aO,cj]at i;let⟨⟨x,z⟩,v⟩:=i;refine⟨_,m,λ_ a act D j t A p y g w q=>?_⟩;have B:=(j.bx k b n x).blk;have X:Blk w (a k) b.ty (cO a b.cells):=by unfold Blk at B⊢;rw[q I];exact B
  have f:=j.ev c;generalize r:(b.cells.drop o).take _=l at*
  have C:Cells w _ (cO a l):=X.Lp o _ (by
   rw[<-r];simp only[cO,mg,B6];simp_all)
  rcases v with V|v
  .rw[tK V];have:=nQ (P:=P) u w;rw[V]at this;exact yy this (ue z w) (gP a l) f C
  cases V:pL d
  .obtain⟨s,rfl⟩:=Ff v;have:=nQ (P:=P) u w;rw[V]at this;exact Jk this f<|H8 C
  have e:=tK V a l;rw[V]at e;rw[e];have:=nQ (P:=P) u w;rw[V]at this;exact yy this (ue z w) (gP a l) f C
 .rename_i ad;let⟨i,l⟩:=eh h;simp only[aO,cj,dS]at i;let⟨⟨E,z⟩,f⟩:=i;let⟨v,⟨F,K⟩,k,q⟩:=xu l;refine⟨_,K,λm b act y j t x p r g a n=>?_⟩;have o:=j.still E;subst o;have C:Cells a ad (cO b v):=by
   rw[jr (β:=b) (β':=β0) (g:=λ_=>aL) R v (q _)];exact(jt F m).keep (by rw[n I])
  have V:=j.ev c;rw[<-k]at z f;rcases f with w|f
  .rw[tK w];have:=nQ (P:=P) u a;rw[w]at this;exact yy this (ue z a) (gP b v) V C
  cases w:pL d
  .obtain⟨s,rfl⟩:=Ff f;have:=nQ (P:=P) u a;rw[w]at this;exact Jk this V<|H8 C
  have e:=tK w b v;rw[w]at e;rw[e];have:=nQ (P:=P) u a;rw[w]at this;exact yy this (ue z a) (gP b v) V C
 exact h.elim
def akA{s d}{x}{a}(b:st.ev x=aM a)(h:Uc P gs st s d a K):∃v,K v/\(gh gs->Y P st (.convert s d x) v):=by
 unfold Uc at h;split at h
 .rename_i s kd a c;let⟨⟨k,n⟩,e,h⟩:=bD h;exact⟨_,h,λ_ f act l R d t p i g w j=>HX (run_underlying a w) (run_underlying c w)<|(R.ev b).trans<|dN e f⟩
 .rename_i a c;let⟨u,e,h⟩:=bD h;exact⟨_,h,λ_ f act k R d t p i g w j=>yn (run_underlying a w) (run_underlying c w)<|(R.ev b).trans<|jU e f⟩
 .rename_i e a c;split at h
  .rename_i d;let⟨u,e,h⟩:=bD h;cases m:st.mv
   .rw[m]at h;let⟨l,F,K⟩:=h;refine⟨_,K,λf j act n R s t p k g o i=>?_⟩;have w:=R.still m;subst w;exact mkB a d c ((R.ev b).trans<|mN e j) (acX _ _ (by rw[i I])<|jt F f)
   grind
  exact h.elim
 exact h.elim
def akB{b}{xs}{ts}(h:Cj P b xs ts st K):∃v,K v/\(gh gs->Y P st (.call ⟨.builtin b,xs.toArray,ts.toArray⟩) v):=by
 unfold Cj at h;split at h
 .obtain⟨a,x,h⟩:=bD h;split at h
  .rename_i u;let⟨s,a,h⟩:=bD h;exact⟨_,h,λ_ b act e R d t p f g w c=>apU (run_underlying u w)<|(R.ev x).trans<|mN a b⟩
  .rename_i u;let⟨s,a,h⟩:=bD h;exact⟨_,h,λ_ b act e R d t p f g w c=>ada (run_underlying u w)<|(R.ev x).trans<|jU a b⟩
  exact h.elim
 .obtain⟨a,x,h⟩:=bD h;split at h
  .rename_i u;let⟨s,a,h⟩:=bD h;exact⟨_,h,λ_ b act e R d t p f g w c=>apZ (run_underlying u w)<|(R.ev x).trans<|mN a b⟩
  exact h.elim
 .obtain⟨a,x,h⟩:=bD h;let⟨b,y,h⟩:=bD h;let⟨⟨k,m⟩,e,h⟩:=bD h;let⟨_,q,h⟩:=bD h;exact⟨_,h,λ_ c act w R d t p f g j i=>ap0 ((R.ev x).trans<|dN e c)<|(R.ev y).trans<|dN q c⟩
 .obtain⟨a,x,h⟩:=bD h;let⟨b,y,h⟩:=bD h;let⟨⟨k,m⟩,e,h⟩:=bD h;let⟨_,q,h⟩:=bD h;exact⟨_,h,λ_ c act w R d t p f g j i=>ap1 ((R.ev x).trans<|dN e c)<|(R.ev y).trans<|dN q c⟩
 exact h.elim
def akC{t e}{x}{lo hi mx}{a}{s}(u:P.underlying t=aM (.slice e))(D:(P.info? e).isSome=aE)(c:st.ev x=aM a)(b:Sg a=aM s)(h:FN gs s (rj P e) st lo hi mx K):∃v,K v/\(gh gs->Y P st (.slice t x lo hi mx) v):=by
 unfold FN at h;split at h
 .obtain⟨j,e,h⟩:=bD h;let⟨q,l,n,r,⟨F,K⟩,o,i⟩:=pN h;refine⟨_,K,λf a act s R d t p k g w m=>?_⟩;obtain⟨rfl,f1,f2⟩:=i _<|jt F f;exact aii (run_underlying u w) (nR D w) ((R.ev c).trans<|mN b a) ((R.ev e).trans<|dN o a) f1 f2 X
 .obtain⟨j,e,h⟩:=bD h;let⟨q,l,n,r,⟨F,K⟩,o,i⟩:=pN h;refine⟨_,K,λf a act s R d t p k g w m=>?_⟩;obtain⟨rfl,f1⟩:=i _<|jt F f;exact ac4 (run_underlying u w) (nR D w) ((R.ev c).trans<|mN b a) ((R.ev e).trans<|dN o a) X f1 X
 .obtain⟨m,e,h⟩:=bD h;let⟨n,f,h⟩:=bD h;let⟨y,r,v,A,h,o,k⟩:=pN h;let⟨z,s,x,B,⟨F,K⟩,j,l⟩:=pN h;refine⟨_,K,λi a act E R d C p q g w t=>?_⟩;obtain⟨rfl,f1⟩:=k _<|jt F i;obtain⟨rfl,f1,f2⟩:=l _ f1;exact adt (run_underlying u w) (nR D w) ((R.ev c).trans<|mN b a) ((R.ev e).trans<|dN o a) ((R.ev f).trans<|dN j a) f1 f2 X
 .obtain⟨m,e,h⟩:=bD h;let⟨n,f,h⟩:=bD h;let⟨y,r,v,A,h,o,k⟩:=pN h;let⟨z,s,x,B,⟨F,K⟩,j,l⟩:=pN h;refine⟨_,K,λi a act E R d C p q g w t=>?_⟩;obtain⟨rfl,f1⟩:=k _<|jt F i;obtain⟨rfl,f1,f2⟩:=l _ f1;exact enK (run_underlying u w) (nR D w) ((R.ev c).trans<|mN b a) ((R.ev e).trans<|dN o a) ((R.ev f).trans<|dN j a) X f1 f2
 .obtain⟨s,e,h⟩:=bD h;let⟨t,f,h⟩:=bD h;let⟨v,i,h⟩:=bD h;let⟨G,y,C,I,h,o,m⟩:=pN h;let⟨H,z,E,J,h,k,n⟩:=pN h;let⟨q,A,k3,L,⟨F,K⟩,l,r⟩:=pN h;refine⟨_,K,λj a act N R d M p x g w B=>?_⟩;obtain⟨rfl,f1⟩:=m _<|jt F j;obtain⟨rfl,f1⟩:=n _ f1;obtain⟨rfl,f1,f2,f3⟩:=r _ f1;exact ajJ (run_underlying u w) (nR D w) ((R.ev c).trans<|mN b a) ((R.ev e).trans<|dN o a) ((R.ev f).trans<|dN k a) ((R.ev i).trans<|dN l a) f1 f2 f3
 exact h.elim
def akD{t}{x}{lo hi mx}{a}{s}(u:P.underlying t=aM .string)(c:st.ev x=aM a)(b:zY a=aM s)(h:wF gs s st lo hi mx K):∃v,K v/\(gh gs->Y P st (.slice t x lo hi mx) v):=by
 unfold wF at h;split at h
 .obtain⟨j,e,h⟩:=bD h;let⟨q,l,n,r,⟨F,K⟩,o,i⟩:=pN h;refine⟨_,K,λf a act s R d t p k g w m=>?_⟩;obtain⟨rfl,f1⟩:=i _<|jt F f;exact chk (run_underlying u w) ((R.ev c).trans<|jU b a) ((R.ev e).trans<|dN o a) f1 X
 .obtain⟨j,e,h⟩:=bD h;let⟨q,l,n,r,⟨F,K⟩,o,i⟩:=pN h;refine⟨_,K,λf a act s R d t p k g w m=>?_⟩;obtain⟨rfl,f1⟩:=i _<|jt F f;exact aeL (run_underlying u w) ((R.ev c).trans<|jU b a) ((R.ev e).trans<|dN o a) X f1
 .obtain⟨m,e,h⟩:=bD h;let⟨n,f,h⟩:=bD h;let⟨y,r,v,A,h,o,k⟩:=pN h;let⟨z,s,x,B,⟨F,K⟩,j,l⟩:=pN h;refine⟨_,K,λi a act D R d C p q g w t=>?_⟩;obtain⟨rfl,f1⟩:=k _<|jt F i;obtain⟨rfl,f1,f2⟩:=l _ f1;exact zOk (run_underlying u w) ((R.ev c).trans<|jU b a) ((R.ev e).trans<|dN o a) ((R.ev f).trans<|dN j a) f1 f2
 exact h.elim
def afk{t}{d}{l:J aw}{off n}(u:P.underlying t=aM d)(a:sz P t n=aE)(V:pL d=aE) w:(part t l.toArray off).run P w=.ok (.agg ((l.drop off).take n).toArray) w:=by
 have h:=nQ (P:=P) u w;rw[V]at h;unfold part;simp only[Sem.run_bind,h,Result.andThen_ok,R6,ue a w,Sem.run_pure];simp
def rx0{t}{d}{l:J aw}{off}{v}(u:P.underlying t=aM d)(V:pL d=aL)(a:l[off]? =aM v) w:(part t l.toArray off).run P w=.ok v w:=by
 have h:=nQ (P:=P) u w;rw[V]at h;unfold part;simp_all
def Qf{o:Op}(h:Za P gs st o K):∃v,K v/\(gh gs->Y P st o v):=by
 unfold Za at h;split at h
 .obtain⟨v,x,K⟩:=bD h;exact⟨v,K,λ_ e act w a d t p f g c b=>by simp only[execOp,a.ev x,Sem.run_pure]⟩
 .obtain⟨v,x,K⟩:=bD h;exact⟨v,K,λ_ e act w a d t p f g c b=>by simp only[execOp,a.ev x,Sem.run_pure]⟩
 .obtain⟨c,a,h⟩:=bD h;split at h
  .obtain⟨v,x,K⟩:=bD h;exact⟨v,K,λ_ i act w b d t p f g e c=>ae4 (b.ev a)<|b.ev x⟩
  .obtain⟨v,x,K⟩:=bD h;exact⟨v,K,λ_ i act w b d t p f g e c=>ae5 (b.ev a)<|b.ev x⟩
  exact h.elim
 .rename_i op t x y f;obtain⟨a,c,h⟩:=bD h;obtain⟨b,d,h⟩:=bD h;cases n:Si y with
  |true=>
   rw[n]at h;have e:=adN n;subst e;obtain⟨v,K,r⟩:=akw c h;exact⟨v,K,λb i act w a s t p j g l k=>r b i act w a _ _ _ _ _ _⟩
  |false=>
  rw[n]at h;obtain⟨v,K,r⟩:=afh h;exact⟨v,K,λb e act w a s t p i g k j=>r b e act _ _ _ _ _ _ _ _ _ (a.ev c)<|a.ev d⟩
 .obtain⟨a,x,h⟩:=bD h;split at h
  .exact⟨_,h,λ_ e act w a d t p f g c b=>by simp only[execOp,a.ev x];rfl⟩
  .exact⟨_,h,λ_ e act w a d t p f g c b=>by simp only[execOp,a.ev x];rfl⟩
  exact h.elim
 .obtain⟨a,x,h⟩:=bD h;obtain⟨⟨k,n⟩,c,h⟩:=bD h;exact⟨_,h,λ_ j act w b d t p f g i e=>by simp only[execOp,b.ev x,dN c];rfl⟩
 .obtain⟨a,x,h⟩:=bD h;exact akA x h
 .rename_i x i;obtain⟨a,b,h⟩:=bD h;split at h
  .rename_i l;obtain⟨f,h⟩:=eh h;obtain⟨v,k,K⟩:=bD h;refine⟨v,K,λ_ a act w j d t p m g q n=>?_⟩;have e:=(j.ev b).trans (by
    show Value.tuple (uB a l).toArray=_;rw[qt a f])
   have c:(cO a<|qR l)[i]? =aM (val a v):=by rw[cO,cP,k];rfl
   simp only[execOp,e,Instr.extract];simp[c]
  exact h.elim
 .rename_i t a;obtain⟨ps,f,h⟩:=bD h;obtain⟨r,i,K⟩:=bD h;refine⟨_,K,λ_ b act m c d l p j g w k=>?_⟩;have e:val b (.agg<|Jx r)=.agg (cO b r).toArray:=by
   show Value.agg (uB b<|Jx r).toArray=_;rw[vO]
  rw[e];obtain⟨pl⟩:=a;exact ae6 (c.evp f) (afj i b w)
 .rename_i n s c;split at h
  .rename_i f;obtain⟨a,j,h⟩:=bD h;obtain⟨b,k,K⟩:=bD h;refine⟨_,K,λ_ q act w i d t p e g l m=>?_⟩;obtain⟨cl⟩:=c;have:=aeq (P:=P) (w:=l) (dst:=d) (t':=t) (p:=p) (af:=e) (g:=g) (fn:=.func f) (i.U1 j)<|i.U1 k;rw[<-vO,<-vO]at this;exact this
  exact h.elim
 .obtain⟨a,x,h⟩:=bD h;obtain⟨d,u,h⟩:=bD h;obtain⟨b,K⟩:=eh h;simp at b;exact⟨_,K,λ_ f act k c s t p i g w j=>have e:val f a=val β0 a:=kD (g:=λ_=>aL) R a b.2;ae7 (run_underlying u w) (by unfold nif at b;cases d<;>first|rfl|exact b.1)<|(c.ev x).trans e⟩
 .obtain⟨a,x,h⟩:=bD h;split at h
  .exact⟨_,h,λ_ e act w a d t p f g c b=>YC<|a.ev x⟩
  .exact⟨_,h,λ_ e act w a d t p f g c b=>YC<|a.ev x⟩
  .obtain⟨q,F,K⟩:=h;refine⟨_,K,λb i act w a d t p f g e c=>YC<|(a.ev x).trans ?_⟩;have:=jt F b;subst this;rfl
  .exact⟨_,h,λ_ i act w a d t p f g c b=>by
    have e:=a.ev x;simp only[execOp,e,Sem.run_pure,val,uB,List.headD_cons]⟩
  exact h.elim
 .obtain⟨a,x,h⟩:=bD h;split at h
  .rename_i c u;obtain⟨f,b,h⟩:=bD h;obtain⟨a,h⟩:=eh h;have a:=fJ a;have s:(P.info? f.type).isSome=aE:=by
    unfold rj at a;split at a
    .rename_i i;rw[i];rfl
    omega
   obtain⟨d,m⟩:∃d,rj P f.type=d+1:=⟨rj P f.type-1,X⟩
   split at h
   .exact⟨_,h,λ_ l act k e t j p f g w i=>Sc (run_underlying u w) b (by rw[nR s,m]) (e.ev x) I⟩
   .exact⟨_,h,λ_ l act k e t j p f g w i=>Sc (run_underlying u w) b (by rw[nR s,m]) (e.ev x)<|Jz _ _ _⟩
   exact h.elim
  exact h.elim
 .obtain⟨a,x,h⟩:=bD h;split at h
  .rename_i l q u;obtain⟨f,i,h⟩:=bD h;obtain⟨d,hd,h⟩:=bD h;obtain⟨b,K⟩:=eh h;simp only[aO,cj]at b;obtain⟨⟨j,z⟩,v⟩:=b;refine⟨_,K,λ_ a act A c t y p n g w r=>?_⟩;have e:=(c.ev x).trans (by
    show Value.agg (uB a l).toArray=_;rw[qt a j])
   have m:cO a (((qR l).drop f.offset).take<|rj P f.type)=((cO a<|qR l).drop f.offset).take (rj P f.type):=by
    simp only[cO,mg,B6]
   have k:(part f.type (cO a<|qR l).toArray f.offset).run P w=.ok (val a<|VQ (pL d)<|((qR l).drop f.offset).take<|rj P f.type) w:=by
    cases V:pL d
    .rcases v with v|v
     .grind
     obtain⟨s,e⟩:=Ff v;rw[e];refine rx0 hd V ?_ w;have d:(((qR l).drop f.offset).take<|rj P f.type)[0]? =aM s:=by rw[e];rfl
     rw[zF]at d;split at d
     .rw[nN,ku]at d;rw[cO,cP,d];rfl
     cases d
    have e:=tK V a<|((qR l).drop f.offset).take<|rj P f.type;rw[V]at e;rw[e,m,afk (l:=cO a<|qR l) (off:=f.offset) hd z V w];congr 3;rw[List.take_eq_take_iff];simp only[dj,cT,gP];omega
   simp only[execOp,e,Instr.field,Sem.run_bind,run_underlying u,Result.andThen_ok,i,asAgg,Sem.run_pure,k]
  exact h.elim
 .obtain⟨a,x,h⟩:=bD h;obtain⟨c,j,h⟩:=bD h;obtain⟨⟨k,n⟩,b,h⟩:=bD h;split at h
  .rename_i e u;obtain⟨s,k,h⟩:=bD h;obtain⟨i,h⟩:=eh h;obtain⟨q,F,K⟩:=h;exact⟨_,K,λf d act r a t n p l g w m=>adf (run_underlying u w) (nR i w) ((a.ev x).trans<|mN k d) ((a.ev j).trans<|dN b d)<|jt F f⟩
  .rename_i len e u;obtain⟨i,h⟩:=eh h;split at h
   .obtain⟨a,K⟩:=eh h;simp at a;exact⟨_,K,λe m act l d s t p f g w k=>AN (run_underlying u w) (nR i w) (d.ev x) (d.ev j) a.1 a.2<|Jz _ _ _⟩
   .obtain⟨a,K⟩:=eh h;simp at a;exact⟨_,K,λe m act l d s t p f g w k=>AN (run_underlying u w) (nR i w) (d.ev x) (d.ev j) a.1 a.2 I⟩
   .obtain⟨q,F,K⟩:=h;exact⟨_,K,λa e act l d s t p f g w k=>AN (run_underlying u w) (nR i w) (d.ev x) ((d.ev j).trans<|dN b e) (jt F a).1 (jt F a).2.1 (jt F a).2.2⟩
   .obtain⟨_,⟨a,d⟩,K⟩:=eh h;exact⟨_,yc K a d,λl f act n e s t p k g w m=>AN (run_underlying u w) (nR i w) (e.ev x) ((e.ev j).trans<|dN b f) a d<|Jz _ _ _⟩
   exact h.elim
  exact h.elim
 .obtain⟨a,x,h⟩:=bD h;exact akz x h
 .obtain⟨a,x,h⟩:=bD h;obtain⟨d,j,h⟩:=bD h;obtain⟨⟨k,n⟩,b,h⟩:=bD h;split at h
  .rename_i u;obtain⟨s,i,h⟩:=bD h;obtain⟨c,F,K⟩:=h;exact⟨_,K,λe f act n a t m p k g w l=>aiT (run_underlying u w) ((a.ev x).trans<|jU i f) ((a.ev j).trans<|dN b f) (jt F e).1 (jt F e).2⟩
  exact h.elim
 .obtain⟨a,x,h⟩:=bD h;split at h
  .rename_i e u;obtain⟨s,a,h⟩:=bD h;obtain⟨i,h⟩:=eh h;exact akC u i x a h
  .rename_i u;obtain⟨s,a,h⟩:=bD h;exact akD u x a h
  exact h.elim
 .rename_i c;obtain⟨a,⟨x⟩,⟨t⟩⟩:=c;split at h
  .rename_i b c;subst c;exact akB h
  exact h.elim
 exact h.elim
end
structure ahj (β:Nat->Nat) (n:Nat) (fr:List (Nat×Nat×SV)) (D:List Deferred) (a:Act):Prop where
 sz:a.tmps.size=n
 df:a.defers=D
 at_:∀i p,eZ fr i=aM p->i<n->a.tmps[i]? =aM (val β p.2)
def vP{β}{n}{fr}{D}{a}(h:ahj β n fr D a):∃u,a=NU n u (cv β fr) D:=by
 refine⟨λi=>(a.tmps[i]?).getD undef,?_⟩;let⟨t,df⟩:=a;let⟨b,c,d⟩:=h;dsimp only at b c d;congr 1;apply Array.ext';apply jR;intro i;by_cases e:i<n
 .rw[qs _ _ _ _ _ e,bS];rcases hl:eZ fr i with _|p
  .rw[Jw (l:=cv β fr) Z8]
   grind
  rw[yA (l:=cv β fr) (v:=val β p.2) Z8]
  grind
 rw[cu o,cu ZW]
def afl{β}{n}{fr}{D}{us}:ahj β n fr D (NU n us (cv β fr) D):=by
 refine⟨by simp[NU,rB],I,λi p hl h=>?_⟩;simp[NU];rw[qs _ _ _ _ _ h,bS,yA (l:=cv β fr) (v:=val β p.2) Z8]
def Rep.ok{β}{st}{a}{w}(h:Rep β st a w):ahj β st.n st.fr (WG st.df) a:=by
 obtain⟨u,rfl⟩:=h.fr;exact afl
def Wv(st:St)(o:J Oper)(j:Nat):Option (Nat×SV):=match iY o j with
 |some a=>(match a.dst with
  |some d=>(st.get d).map λs=>(d,s)
  |none=>VM)
 |none=>VM
def Fg{st}{ops}{j d}{s}(h:Wv st ops j=aM (d,s)):∃o,iY ops j=aM o/\o.dst=aM d/\st.get d=aM s:=by
 unfold Wv at h;split at h
 .rename_i b a;split at h
  .rename_i e c;cases g:st.get e<;>grind
  cases h
 cases h
section
variable{β:Nat->Nat}{st:St}{a:Act}{w:av}{ops:J Oper}{o:Oper}{j d:Nat}{want b:C}
def uD(R:Rep β st a w)(g:o.guard=aM (j,want)){s}(t:Wv st ops j=aM (d,s))(f:val β s=.bool b):Region.wanted o (yielded ops.toArray a.tmps)=(b==want):=by
 let⟨i,h,c,e⟩:=Fg t;obtain⟨u,rfl⟩:=R.fr;exact wtF g h c (by rw[<-f];exact St.evO β e) I
def Ck(R:Rep β st a w)(g:o.guard=aM (j,want))(t:Wv st ops j=aM (d,.un)):Region.wanted o (yielded ops.toArray a.tmps)=aL:=by
 let⟨e,h,b,c⟩:=Fg t;obtain⟨u,rfl⟩:=R.fr;exact wuF g h b<|St.evO β (x:=.tmp d) (s:=.un) c
theorem Rep.set(h:Rep β st a w){s s'}(g:st.get d=aM s)(v:val β s=val β s'):Rep β (st.put (aM d) s') a w:=by
 refine⟨vP ⟨h.ok.sz,h.ok.df,λc p l i=>?_⟩,h.bx,h.ne,h.only,h.still⟩;simp[St.put,eZ]at l;cases b:Nat.beq d c
 .rw[b]at l;exact h.ok.at_ c p P9 i
 rw[b]at l;simp at l;subst l;have:=db b;subst this;unfold St.get at g;cases J:Nat.blt d st.n
 .grind
 rw[J]at g;rcases hq:eZ st.fr d with _|q
 .grind
 rw[hq]at g;simp at g;rw[h.ok.at_ d q hq i,g,v]
end
section
variable{P:Program}{ops:J Oper}{w:av}
def AV(P:Program)(o:J Oper)(w:av):J Oper->Act->Act->Prop
 |[],a,b=>b=a
 |b::r,a,d=>(Region.wanted b (yielded o.toArray a.tmps)=aE/\∃v,(∀c,c.heap=w.heap->(execOp a.eval b).run P c=.ok (.value v) c)/\AV P o w r (a.put b.dst v) d)∨
  (Region.wanted b (yielded o.toArray a.tmps)=aL/\AV P o w r (a.put b.dst undef) d)
def Fh:∀{l m:J Oper} {a b c:Act},AV P ops w l a b->AV P ops w m b c->AV P ops w (l++m) a c
 |[],_,_,_,_,h,k=>by
  subst h;exact k
 |o::r,m,a,b,c,e,k=>by
  rcases e with⟨h,v,f,d⟩|⟨h,d⟩
  .exact .inl ⟨h,v,f,Fh (l:=r) d k⟩
  exact .inr ⟨h,Fh (l:=r) d k⟩
def JA{Q}:∀{l rest:J Oper} {a c:Act},AV P ops w l a c->wpList P ops.toArray Q rest c w->wpList P ops.toArray Q (l++rest) a w
 |[],_,_,_,h,k=>by
  subst h;exact k
 |o::r,m,a,b,e,k=>by
  rcases e with⟨h,v,f,d⟩|⟨h,d⟩
  .exact Jj v h (f w I) I (JA (l:=r) d k)
  exact O9 h I<|JA (l:=r) d k
def Qg{Q}:∀{l rest:J Oper} {a d:Act},AV P ops w l a d->wpQuiet P ops.toArray (λc=>∃n,c=w.drewN n) Q rest d->wpQuiet P ops.toArray (λc=>∃n,c=w.drewN n) Q (l++rest) a
 |[],_,_,_,h,k=>by
  subst h;exact k
 |o::r,m,a,b,f,k=>by
  rcases f with⟨h,v,g,e⟩|⟨h,e⟩
  .exact ap3 v h (by rintro _ ⟨n,rfl⟩;exact g _ I) I (Qg (l:=r) e k)
  exact azy h I<|Qg (l:=r) e k
def JB:J Oper->J Nat
 |[]=>[]
 |o::r=>match o.dst with
  |some d=>d::JB r
  |none=>JB r
theorem nA(a:Act) d v:(a.put d v).tmps.size=a.tmps.size/\(a.put d v).defers=a.defers/\∀i,d≠aM i->(a.put d v).tmps[i]? =a.tmps[i]? :=by
 rcases d with _|k
 .exact⟨I,I,λ_ _=>I⟩
 refine⟨by simp[Act.put],I,λi h=>?_⟩;simp[Act.put]
 grind
def zB:∀{l:J Oper} {a c:Act},AV P ops w l a c->c.tmps.size=a.tmps.size/\c.defers=a.defers/\∀i,(JB l).elem i=aL->c.tmps[i]? =a.tmps[i]?
 |[],_,_,h=>by
  subst h;simp_all
 |o::r,a,b,e=>by
  have k:∀v,AV P ops w r _ b->b.tmps.size=a.tmps.size/\b.defers=a.defers/\∀i,(JB (o::r)).elem i=aL->b.tmps[i]? =a.tmps[i]? :=λv h=>by
   obtain⟨j,m,k3⟩:=zB h;obtain⟨p,n,q⟩:=nA a o.dst v;refine⟨j.trans p,m.trans n,λi b=>?_⟩;rcases hd:o.dst with _|d
   .simp only[JB,hd]at b;simp_all
   simp only[JB,hd,zG]at b;split at b<;>grind
  rcases e with⟨f,v,g,h⟩|_<;>grind
end
def Xy(o:J Oper):Nat->Nat->Nat->C
 |0,_,_=>aL
 |f+1,q,j=>bif Nat.beq q j then aE else match iY o q with
  |some a=>(match a.guard with
   |some (r,_)=>Xy o f r j
   |none=>aL)
  |none=>aL
def DT(o:J Oper)(j:Nat):J Oper->Nat
 |[]=>0
 |a::r=>match a.guard with
  |some (q,_)=>bif Xy o 50 q j then DT o j r+1 else 0
  |none=>0
def FY(t:C)(a b:SV):Option SV:=match a,b with
 |.bl aE,.bl aL=>aM<|.bt t
 |.bl aE,.bt y=>aM<|.bt<|t||y
 |.bt x,.bl aL=>aM<|.bt<|t&&x
 |.bl aL,.bl aE=>aM<|.bt<|!t
 |.bl aL,.bt y=>aM<|.bt<|!t&&y
 |.bt x,.bl aE=>aM<|.bt<|!t||x
 |.bt x,.bt y=>aM<|.bt<|bif t then x else y
 |.bl aE,.bl aE=>aM<|.bl aE
 |.bl aL,.bl aL=>aM<|.bl aL
 |_,_=>VM
def eB{t}{a b v}(h:FY t a b=aM v) β:(t=aE->val β v=val β a)/\(t=aL->val β v=val β b):=by
 unfold FY at h;split at h<;>simp at h<;>subst h<;>refine⟨λe=>?_,λe=>?_⟩<;>subst e<;>simp[val,uB]
def Fj(d:J Nat):J (Nat×Nat×SV)->J (Nat×Nat×SV)
 |[]=>[]
 |p::r=>bif d.elem p.1 then Fj d r else p::Fj d r
def nU{ds}:∀{l:J _} {i:Nat},(ds.elem i=aE->eZ (Fj ds l) i=VM)/\(ds.elem i=aL->eZ (Fj ds l) i=eZ l i)
 |[],i=>⟨λ_=>I,λ_=>I⟩
 |(k,p)::r,i=>by
  let⟨h,a⟩:=nU (ds:=ds) (l:=r) (i:=i);simp only[Fj];cases hk:ds.elem k
  .simp[eZ];cases b:Nat.beq k i<;>simp_all
  simp only[cond_true];refine⟨h,λb=>?_⟩;rw[a b];simp[eZ];cases c:Nat.beq k i<;>simp_all
def St.tq(st:St)(d:J Nat):St:={st with fr:=Fj d st.fr}
def Ext.tq st ds:Ext st (st.tq ds):=
 ⟨I,bc _,λi k v h _=>by
  cases e:ds.elem i with
  |true=>rw[show eZ (st.tq ds).fr i=VM from(nU (l:=st.fr)).1 e]at h;cases h
  |false=>rw[show eZ (st.tq ds).fr i=eZ st.fr i from(nU (l:=st.fr)).2 e]at h;exact h,λi b a o _=>⟨b,a,o,I,I,I,λ_ a=>a⟩,YR,LQ⟩
structure Alike (s t:St):Prop where
 bx:t.bx=s.bx
 w0:t.w0=s.w0
 mv:t.mv=s.mv
 dt:t.dt=s.dt
 n:t.n=s.n
 df:t.df=s.df
def Alike.refl s:Alike s s:=⟨I,I,I,I,I,I⟩
def Alike.trans{s t u}(h:Alike s t)(k:Alike t u):Alike s u:=⟨k.bx.trans h.bx,k.w0.trans h.w0,k.mv.trans h.mv,k.dt.trans h.dt,k.n.trans h.n,k.df.trans h.df⟩
def Alike.put s d v:Alike s (s.put d v):=by cases d<;>exact⟨I,I,I,I,I,I⟩
def Z3:=@Alike.put
def Rep.alike{β}{s t}{a a'}{w}(h:Rep β s a w)(k:Alike s t)(n:ahj β t.n t.fr (WG t.df) a'):Rep β t a' w:=by
 let⟨f,g,k3,q,u,v⟩:=k;refine⟨vP n,λi b e o=>?_,λi p bi j c d l m=>?_,?_,λr=>?_⟩
 .rw[f]at e;let⟨a,k,s⟩:=h.bx i b e o;exact⟨a,k,R⟩
 .rw[f]at c d;exact h.ne i p bi j c d l m
 .rw[g,q];exact h.only
 rw[g];exact h.still R
def Cm(P:Program)(o:J Oper):Nat->J (C×C)->J Oper->St->(St->Prop)->Prop
 |0,_,_,_,_=>False
 |_+1,_,[],st,K=>K st
 |f+1,g,a::r,st,K=>match a.guard with
  |none=>Za P g st a.op λv=>Cm P o f g r (st.put a.dst v) K
  |some (j,want)=>(match Wv st o j with
   |some (_,.un)=>Cm P o f g r (st.put a.dst .un) K
   |some (_,.bl b)=>bif b==want then Za P g st a.op λv=>Cm P o f g r (st.put a.dst v) K else Cm P o f g r (st.put a.dst .un) K
   |some (d,.bt t)=>(match(a::r)[DT o j (a::r)]? with
    |some pk=>(match pk.dst with
     |some k=>
      Cm P o f (g++[(t,aE)]) ((a::r).take<|DT o j (a::r)+1) (st.put (aM d)<|.bl aE) λs=>
      cn (s.get k) λb=>
      Cm P o f (g++[(t,aL)]) ((a::r).take<|DT o j (a::r)+1) (st.put (aM d)<|.bl aL) λsb=>
      cn (sb.get k) λc=>
      cn (FY t b c) λv=>
      Cm P o f g ((a::r).drop<|DT o j (a::r)+1) ((st.tq<|JB<|(a::r).take<|DT o j (a::r)+1).put (aM k) v) K
     |none=>False)
    |none=>False)
   |_=>False)
def Qh:∀{gs:J _} {t b:C},gh gs->t=b->gh (gs++[(t,b)])
 |[],_,_,_,h=>⟨h,trivial⟩
 |_::r,_,_,h,k=>⟨h.1,Qh (gs:=r) h.2 k⟩
def vQ{P}{ops}:∀{f:Nat} {g:J _} {h:J Oper} {st:St} {K:St->Prop},Cm P ops f g h st K->
  ∃l,K l/\Ext st l/\Alike st l/\(gh g->∀c a w,Rep c st a w->∃e,AV P ops w h a e/\Rep c l e w)
 |0,_,_,_,_,a=>a.elim
 |_+1,g,[],st,K,b=>⟨st,b,Wp _,Alike.refl _,λ_ c a w R=>⟨a,I,R⟩⟩
 |f+1,g,o::r,st,K,i=>by
  let one:(Region.wanted o=λ_=>aE)∨True->∀{K:St->Prop},(Za P g st o.op λv=>Cm P ops f g r (st.put o.dst v) K)->
    (gh g->∀c a w,Rep c st a w->Region.wanted o _=aE)->
    ∃l,K l/\Ext st l/\Alike st l/\(gh g->∀c a w,Rep c st a w->∃e,AV P ops w (o::r) a e/\Rep c l e w):=λ_ K i m=>by
   let⟨v,j,y⟩:=Qf i;let⟨l,p,q,k3,s⟩:=vQ j;exact⟨l,p,(WV ..).trans q,(Z3 ..).trans k3,λb c a w R=>let⟨e,d,f⟩:=s b c _ w<|R.put o.dst v;⟨e,.inl ⟨m b c a w R,_,λt k=>y b c a w R _ _ _ _ _ t λ_=>k,d⟩,f⟩⟩
  let n:∀{K:St->Prop},Cm P ops f g r (st.put o.dst .un) K->(gh g->∀c a w,Rep c st a w->Region.wanted o _=aL)->
    ∃l,K l/\Ext st l/\Alike st l/\(gh g->∀c a w,Rep c st a w->∃e,AV P ops w (o::r) a e/\Rep c l e w):=λj k=>by
   let⟨l,m,p,k3,q⟩:=vQ j;exact⟨l,m,(WV ..).trans p,(Z3 ..).trans k3,λb c a w R=>let⟨e,d,f⟩:=q b c _ w<|R.put o.dst .un;⟨e,.inr ⟨k b c a w R,d⟩,f⟩⟩
  unfold Cm at i;split at i
  .rename_i b;exact one (.inr trivial) i λ_ c a w R=>wn b
  rename_i m j f;split at i
  .rename_i d t;exact n i λ_ c a w R=>Ck R f t
  .rename_i d b t;cases k:(b==j)with
   |true=>
    rw[k]at i;exact one (.inr trivial) i λ_ c a w R=>by rw[uD R f t (b:=b) rfl,k]
   |false=>
    rw[k]at i;exact n i λ_ c a w R=>by rw[uD R f t (b:=b) rfl,k]
  .rename_i d t u;let⟨y,Y,q,b⟩:=Fg u;split at i
   .rename_i pk d;split at i
    .rename_i k hk;generalize DT ops m _=W at i d;let⟨sa,N,am,G,H⟩:=vQ i;let⟨va,S,N⟩:=bD N;let⟨sb,E,aC,L,M⟩:=vQ N;let⟨ff,T,E⟩:=bD E;let⟨v,V,E⟩:=bD E;let⟨l,k1,k2,k3,k4⟩:=vQ E;refine⟨l,k1,((Ext.tq _ _).trans<|WV _ _ _).trans k2,((⟨I,I,I,I,I,I⟩:Alike st (st.tq _)).trans<|Z3 _ _ _).trans k3,λQ c a w R=>?_⟩;let C:∀(s:SV) X x,Rep c X a w->(∃e,AV P ops w ((o::r).take<|W+1) a e/\∃F,Rep c F e w/\F.n=st.n/\F.get k=aM x/\val c v=val c x)->∃e,AV P ops w (o::r) a e/\Rep c l e w:=by
      rintro s X x B ⟨z,A,F,r1,r2,r3,r4⟩;let⟨f1,f2,f3⟩:=zB A;let jQ:Rep c ((st.tq<|JB<|(o::r).take<|W+1).put (aM k) v) z w:=by
       refine R.alike ((⟨I,I,I,I,I,I⟩:Alike st (st.tq _)).trans<|Z3 _ _ _) ⟨f1.trans R.ok.sz,f2.trans R.ok.df,λs p a v=>?_⟩;simp[St.put,eZ]at a;cases t:Nat.beq k s
       .rw[t]at a;cases k:(JB _).elem s
        .rw[show eZ (st.tq _).fr s=eZ st.fr s from(nU (l:=st.fr)).2 k]at a;rw[f3 s k];exact R.ok.at_ s p a v
        rw[show eZ (st.tq _).fr s=VM from(nU (l:=st.fr)).1 k]at a;cases a
       rw[t]at a;simp at a;subst a;have:=db t;subst this;rw[r4,<-r1.get r3];let p:k<z.tmps.size:=by rw[f1,R.ok.sz];exact v
       simp[Act.eval,p]
      let⟨Z,D,g3⟩:=k4 Q c z w jQ;refine⟨Z,?_,g3⟩;have:=Fh A D;simp_all
     cases t
     .have B:Rep c (st.put _<|.bl aL) a w:=R.set b I;let⟨z,A,D⟩:=M (Qh Q I) c a w B;exact C (.bl aL) _ ff B ⟨z,A,sb,D,L.n.trans I,T,(eB V c).2 I⟩
     let B:Rep c (st.put _<|.bl aE) a w:=R.set b I;let⟨z,A,D⟩:=H (Qh Q I) c a w B;exact C (.bl aE) _ va B ⟨z,A,sa,D,G.n.trans I,S,(eB V c).1 I⟩
    exact i.elim
   exact i.elim
  exact i.elim
def nB:∀l b i,dq (l++[b]) i=if i=WS l then aM b else dq l i
 |[],b,0=>rfl
 |[],b,i+1=>rfl
 |a::r,b,0=>rfl
 |a::r,b,i+1=>by
  simp;exact nB r b i
def vR:∀{l:J nu} {i:Nat} {b:nu},dq l i=aM b->i<WS l
 |a::r,0,_,_=>N
 |a::r,i+1,b,h=>by simp[dq]at h;have:=vR h;simp;omega
def lu:∀{l:J nu} {i:Nat} {b c:nu},dq l i=aM b->∀j,dq (VO l i c) j=if j=i then aM c else dq l j
 |a::r,0,b,c,_,0=>rfl
 |a::r,0,b,c,_,j+1=>rfl
 |a::r,i+1,b,c,h,0=>rfl
 |a::r,i+1,b,c,h,j+1=>by
  simp[dq]at h;simp;exact lu h j
def rW{b}{p q}(h:bif b then p else q):(b=aE/\p)∨(b=aL/\q):=R
def Pw(x:J nu)(i:Nat):Nat:=match dq x i with
 |some b=>b.blk.getD 0
 |none=>0
def MB(x:J nu)(i:Nat):C:=match dq x i with
 |some b=>b.ok&&b.blk.isSome
 |none=>aL
abbrev St.bl(st:St)(i:Nat):Nat:=Pw st.bx i
abbrev St.Rw(st:St)(i:Nat):C:=MB st.bx i
def Rep.bl{β}{st}{a}{w}(c:Rep β st a w) i (h:st.Rw i=aE):st.bl i=β i:=by
 unfold St.Rw MB at h;unfold St.bl Pw;rcases hb:dq st.bx i with _|b
 .rw[hb]at h;cases h
 rw[hb]at h;simp at h;rcases hk:b.blk with _|k
 .grind
 have:=(c.bx i b hb h.1).at_ k hk;simp[hk,this]
def Rep.yg{β}{st}{a}{w}(h:Rep β st a w){l}(c:jT st.Rw l=aE):cO st.bl l=cO β l:=jr (g:=st.Rw) h.bl l c
def Rep.auo{β}{st}{a}{w}(h:Rep β st a w){s}(c:cln st.Rw s=aE):val st.bl s=val β s:=kD (g:=st.Rw) h.bl s c
def MC:J nu->(J nu->Prop)->Prop
 |[],K=>K []
 |b::r,K=>match b.ok,b.blk with
  |true,VM=>∀k,MC r λa=>K ({b with blk:=aM k}::a)
  |_,_=>MC r λa=>K (b::a)
def xv(k:Nat)(b:nu):nu:=match b.ok,b.blk with
 |true,VM=>{b with blk:=aM k}
 |_,_=>b
def tL(a:Nat->Nat):Nat->J nu->J nu
 |_,[]=>[]
 |n,b::r=>xv (a n) b::tL a (n+1) r
def Fk β:∀{s:J nu} n {K:J nu->Prop},MC s K->K (tL β n s)
 |[],_,_,h=>h
 |b::r,n,K,h=>by
  unfold MC at h;unfold tL;split at h
  .have:=Fk β (n+1)<|h<|β n;let e:xv (β n) b={b with blk:=aM (β n)}:=by unfold xv<;>simp_all
   simp_all
  have:=Fk β (n+1) h;have:xv (β n) b=b:=by simp[xv]
  simp_all
def HF β:∀s n i,dq (tL β n s) i=(dq s i).map (xv<|β<|n+i)
 |[],_,_=>rfl
 |b::r,n,0=>rfl
 |b::r,n,i+1=>by
  simp[tL,dq];rw[HF β r _ i,show n+1+i=n+(i+1) by omega]
def MD(a w:av):J nu->J nu->Prop->Prop
 |b::r,c::d,p=>match b.ok,b.blk with
  |true,VM=>a.heap.size<=c.blk.getD 0->c.blk.getD 0<w.heap.size->MD a w r d p
  |_,_=>MD a w r d p
 |_,_,p=>p
def Fm{β}{w0 w}:∀{s:J nu} n {p:Prop},MD w0 w s (tL β n s) p->(∀i b,dq s i=aM b->b.ok=aE->b.blk=VM->w0.heap.size<=β (n+i)/\β (n+i)<w.heap.size)->p
 |[],_,_,h,_=>h
 |b::r,n,p,h,a=>by
  simp[tL]at h;unfold MD at h;split at h
  .rename_i d f;let⟨g,j⟩:=a 0 b I d f;let e:(xv (β n) b).blk.getD 0=β n:=by unfold xv;rw[d,f];rfl
   rw[e]at h;exact Fm _ (h g j) λi c k=>by have:=a (i+1) c k;grind
  exact Fm _ h λi c b=>by have:=a (i+1) c b;grind
def V7(g:Nat->C)(bl:Nat->Nat)(w:av)(a:C):J nu->Prop->Prop
 |[],p=>p
 |b::r,p=>bif b.ok&&b.blk.isSome&&b.esc&&(a||!b.sh)&&jT g b.cells then Blk w (b.blk.getD 0) b.ty (cO bl b.cells)->V7 g bl w a r p else V7 g bl w a r p
def JC{g}{bl}{w}{all}:∀{s:J nu} {p:Prop},V7 g bl w all s p->(∀i b,dq s i=aM b->b.ok=aE->b.blk.isSome=aE->jT g b.cells=aE->Blk w (b.blk.getD 0) b.ty (cO bl b.cells))->p
 |[],_,h,_=>h
 |b::r,p,a,d=>by
  unfold V7 at a;cases h:(b.ok&&b.blk.isSome&&b.esc&&_&&jT g b.cells)with
  |true=>
   rw[h]at a;simp at h;exact JC (a<|d 0 b I h.1.1.1.1 h.1.1.1.2 h.2) λi c e=>d (i+1) c e
  |false=>
   rw[h]at a;exact JC a λi c b=>d (i+1) c b
def AW:J nu->J nu
 |[]=>[]
 |b::r=>{b with sh:=b.esc}::AW r
def uE:∀l i,dq (AW l) i=(dq l i).map λb=>{b with sh:=b.esc}
 |[],_=>rfl
 |b::r,0=>rfl
 |b::r,i+1=>uE r i
def Fp(s:J nu):J Nat->C
 |[]=>aE
 |i::r=>(match dq s i with
  |some b=>b.ok
  |none=>aL)&&Fp s r
def yB{bs}:∀{l:J Nat},Fp bs l=aE->∀i∈l,∃b,dq bs i=aM b/\b.ok=aE
 |i::r,h,a,j=>by
  simp[Fp]at h;rcases ba.1 j with rfl|j
  .split at h<;>grind
  exact yB h.2 a j
def VR:J nu->J nu->J (Nat×C)
 |b::r,c::a=>bif b.ok&&b.blk.isNone then(c.blk.getD 0,b.esc)::VR r a else VR r a
 |_,_=>[]
def YZ(k:Nat):J (Nat×C)->Prop->Prop
 |[],p=>p
 |x::r,p=>bif x.2 then YZ k r p else(x.1≠k->YZ k r p)
def Y1(a:J (Nat×C)):J (Nat×C)->Prop->Prop
 |[],p=>p
 |x::r,p=>bif x.2 then YZ x.1 a (Y1 a r p)else Y1 a r p
def JD{k}:∀{l:J _} {p:Prop},YZ k l p->(∀y∈l,y.2=aL->y.1≠k)->p
 |[],_,h,_=>h
 |x::r,p,h,hd=>by
  unfold YZ at h;cases a:x.2
  .rw[a]at h;exact JD (h<|hd x iB a) A
  rw[a]at h;exact JD h A
def JE{all}:∀{l:J _} {p:Prop},Y1 all l p->(∀x∈l,x.2=aE->∀y∈all,y.2=aL->y.1≠x.1)->p
 |[],_,h,_=>h
 |x::r,p,h,hd=>by
  unfold Y1 at h;cases a:x.2
  .rw[a]at h;exact JE h A
  rw[a]at h;exact JE (JD h A) A
def AX{β}:∀{s:J nu} n {x:Nat×C},x∈VR s (tL β n s)->∃i b,dq s i=aM b/\b.ok=aE/\x=(β<|n+i,b.esc)
 |[],_,_,h=>VI
 |b::r,n,x,h=>by
  simp[tL,VR]at h;cases a:(b.ok&&b.blk.isNone)with
  |true=>
   rw[a]at h;simp at a;rcases ba.1 h with rfl|h
   .refine⟨0,b,I,a.1,?_⟩;have:(xv (β n) b).blk.getD 0=β n:=by unfold xv;rw[a.1,a.2];rfl
    rw[this];rfl
   let⟨i,c,b,d,e⟩:=AX _ h;exact⟨i+1,c,b,d,R⟩
  |false=>
   rw[a]at h;let⟨i,c,b,d,e⟩:=AX _ h;exact⟨i+1,c,b,d,R⟩
def Fq:J nu->J Nat
 |[]=>[]
 |b::r=>bif b.ok&&b.blk.isSome&&b.esc&&!b.sh then b.blk.getD 0::Fq r else Fq r
def Fs:J nu->J Nat
 |[]=>[]
 |b::r=>bif b.ok&&b.blk.isSome&&!b.esc then b.blk.getD 0::Fs r else Fs r
def Ty(k:Nat):J Nat->Prop->Prop
 |[],p=>p
 |x::r,p=>x≠k->Ty k r p
def S2(a:J Nat):J Nat->Prop->Prop
 |[],p=>p
 |k::r,p=>Ty k a<|S2 a r p
def blb{k}:∀{l:J Nat} {p:Prop},Ty k l p->(∀y∈l,y≠k)->p
 |[],_,h,_=>h
 |x::r,p,h,hd=>blb (h R) A
def JF{acR}:∀{l:J Nat} {p:Prop},S2 acR l p->(∀k∈l,∀y∈acR,y≠k)->p
 |[],_,h,_=>h
 |k::r,p,h,hd=>JF (blb h A) A
def Co:∀{s:J nu} {x:Nat},x∈Fq s->∃i b,dq s i=aM b/\b.ok=aE/\b.esc=aE/\b.blk=aM x
 |[],_,h=>VI
 |b::r,x,h=>by
  simp[Fq]at h;cases a:(b.ok&&b.blk.isSome&&b.esc&&!b.sh)with
  |true=>
   rw[a]at h;simp at a;rcases ba.1 h with rfl|h
   .obtain⟨k,hk⟩:=fl.1 a.1.1.2;exact⟨0,b,I,a.1.1.1,a.1.2,Mh⟩
   let⟨i,c,b,d⟩:=Co h;exact⟨i+1,c,b,d⟩
  |false=>
   rw[a]at h;let⟨i,c,b,d⟩:=Co h;exact⟨i+1,c,b,d⟩
def Cp:∀{s:J nu} {x:Nat},x∈Fs s->∃i b,dq s i=aM b/\b.ok=aE/\b.esc=aL/\b.blk=aM x
 |[],_,h=>VI
 |b::r,x,h=>by
  simp[Fs]at h;cases a:(b.ok&&b.blk.isSome&&!b.esc)with
  |true=>
   rw[a]at h;simp at a;rcases ba.1 h with rfl|h
   .obtain⟨k,hk⟩:=fl.1 a.1.2;exact⟨0,b,I,a.1.1,a.2,Mh⟩
   let⟨i,c,b,d⟩:=Cp h;exact⟨i+1,c,b,d⟩
  |false=>
   rw[a]at h;let⟨i,c,b,d⟩:=Cp h;exact⟨i+1,c,b,d⟩
def Eb{β}{st}{a}{w}(h:Rep β st a w):∀k,k∈Fq st.bx->∀y,y∈Fs st.bx->y≠k:=λk hk y m=>by
 let⟨i,b,d,f,p,n⟩:=Co hk;let⟨j,c,g,l,j3,o⟩:=Cp m;rw[<-(h.bx i b d f).at_ k n,<-(h.bx j c g l).at_ y o];refine h.ne j i c b g d l f λe=>?_
 grind
def fY(st:St)(K:St->Prop):Prop:=
 bif st.mv then
  bif Fp st.bx st.dt then
   MC st.bx λb=>∀w,MD st.w0 w st.bx b (Only (st.dt.map<|Pw b) st.w0 w->
    V7 (MB b) (Pw b) w aE b (Y1 (VR st.bx b) (VR st.bx b)<|S2 (Fs st.bx) (Fq st.bx)<|K {st with bx:=AW b,w0:=w,mv:=aL,dt:=[]}))
  else False
 else V7 st.Rw st.bl st.w0 aL st.bx (S2 (Fs st.bx) (Fq st.bx)<|K {st with bx:=AW st.bx})
def fp{st}{K}(d:fY st K){β}{a}{w}(h:Rep β st a w):∃l,K l/\Ext st l/\Rep β l a w/\l.mv=aL/\l.fr=st.fr/\l.n=st.n/\l.ct=st.ct/\WS l.bx=WS st.bx:=by
 rcases rW d with⟨m,d⟩|⟨m,d⟩
 case inr=>
  have hk:=JC d λi b a o v u=>by
   have:=(h.bx i b a o).blk;rcases hk:b.blk with _|k
   .grind
   have e:=(h.bx i b a o).at_ k hk;rw[h.yg u,<-h.still m];simp_all
  have hk:=JF hk<|Eb h;let y:∀i g,dq (AW st.bx) i=aM g->∃b,dq st.bx i=aM b/\g={b with sh:=b.esc}:=λi g a=>by
   rw[uE]at a;cases f:dq st.bx i<;>grind
  refine⟨_,hk,⟨I,bc _,R,λi g a o _=>?_,λi b a=>?_,LQ⟩,⟨h.fr,λi g a o=>?_,λi n bi p j q s t Z=>?_,h.only,h.still⟩,m,I,I,I,?_⟩
  .grind
  .exact⟨{b with sh:=b.esc},by rw[uE,a];rfl,I,I,λ_ d=>d⟩
  .obtain⟨b,j,rfl⟩:=y i g a;have:=h.bx i b j o;exact⟨this.blk,this.at_,this.new⟩
  .obtain⟨b,e,rfl⟩:=y i bi j;obtain⟨c,k,rfl⟩:=y n p q;exact h.ne i n b c e k s t Z
  have:∀c:J nu,WS (AW c)=WS c:=λc=>by
   induction c with
   |nil=>rfl
   |cons b r e=>simp[AW,e]
  exact this _
 case inl=>
  let⟨L,d⟩:=eh d;have d:=Fk β 0 d w;let K:∀i,dq _ i=(dq st.bx i).map (xv<|β i):=λi=>by rw[HF,bS]
  let D:∀i b,dq st.bx i=aM b->b.ok=aE->∃a,dq _ i=aM a/\a.ok=aE/\a.blk=aM _/\a.cells=b.cells/\a.ty=b.ty/\a.stp=b.stp:=λi b g o=>by
   refine⟨xv _ b,by rw[K,g];rfl,?_⟩;unfold xv;split
   .exact⟨o,I,I,I,I⟩
   rename_i c;refine⟨o,?_,I,I,I⟩;rcases hk:b.blk with _|k
   .simp_all
   rw[(h.bx i b g o).at_ k hk]
  let p:∀i a,dq _ i=aM a->a.ok=aE->∃b,dq st.bx i=aM b/\b.ok=aE/\a.blk=aM _/\a.cells=b.cells/\a.ty=b.ty/\a.stp=b.stp:=λi a g o=>by
   rw[K]at g;rcases f:dq st.bx i with _|b
   .rw[f]at g;cases g
   rw[f]at g;simp at g;subst g;have c:=by
    unfold xv at o;split at o<;>omega
   let⟨x,e,y,k,n,r,w⟩:=D i b f c;rw[K,f]at e;simp at e;subst e;exact⟨b,I,c,k,n,r,w⟩
  have d:=Fm 0 d λi b g o hk=>by
   rw[bS];exact⟨(h.bx i b g o).new hk,(h.bx i b g o).blk.lt⟩
  let t:st.dt.map (Pw<|tL β 0 st.bx)=st.dt.map β:=by
   refine xb λi k=>?_;let⟨b,u,v⟩:=yB L i k;let⟨a,e,n,c,_⟩:=D i b u v;unfold Pw;rw[e];simp[c]
  have d:=d (by rw[t];exact h.only);let M:∀i,MB _ i=aE->Pw _ i=β i:=λi q=>by
   unfold MB at q;unfold Pw;rcases f:dq (tL β 0 st.bx) i with _|a
   .rw[f]at q;cases q
   rw[f]at q
   grind
  have hk:=JC d λi a g o P E=>by
   let⟨b,e,c,k,n,r,w⟩:=p i a g o;rw[jr M _ E,k,n,r];exact(h.bx i b e c).blk
  have hk:=JE hk λx F N y G H=>by
   obtain⟨i,b,k,n,rfl⟩:=AX 0 F;obtain⟨s,c,r,w,rfl⟩:=AX 0 G;rw[bS,bS];refine h.ne s i c b r k w n λe=>?_
   grind
  have hk:=JF hk<|Eb h;let j:∀i a,dq _ i=aM a->a.ok=aE->∃b,dq st.bx i=aM b/\b.ok=aE/\a.blk=aM _/\a.cells=b.cells/\a.ty=b.ty/\a.stp=b.stp:=λi a g o=>by
   rw[uE]at g;rcases f:dq (tL β 0 st.bx) i with _|c
   .rw[f]at g;cases g
   rw[f]at g;simp at g;subst g;exact p i c f o
  refine⟨_,hk,⟨I,bc _,R,λi a g o _=>?_,λi b g=>?_,LQ⟩,⟨h.fr,λi a g o=>?_,λi s bi z u v B C Z=>?_,qE _ _,λ_=>I⟩,I,I,I,I,?_⟩
  .obtain⟨b,e,c,n,r,w,x⟩:=j i a g o;exact⟨b,e,c,r.symm,w.symm,x.symm,λk hk=>by rw[n,(h.bx i b e c).at_ k hk]⟩
  .refine⟨{xv _ b with sh:=(xv _ b).esc},by rw[uE,K,g];rfl,?_⟩;unfold xv;split
   .grind
   simp
  .obtain⟨b,e,c,r,k,n,w⟩:=j i a g o;refine⟨by rw[k,n];exact(h.bx i b e c).blk,R,A⟩
  .obtain⟨b,e,k,_⟩:=j i bi u B;let⟨c,f1,f2,_⟩:=j s z v C;exact h.ne i s b c e f1 k f2 Z
  have:∀c:J nu,WS (AW c)=WS c:=λc=>by
   induction c with
   |nil=>rfl
   |cons b r n=>simp[AW,n]
  have:∀(c:J nu) n,WS (tL β n c)=WS c:=λc=>by
   induction c with
   |nil=>intro n;rfl
   |cons b r w=>intro n;simp[tL,w]
  simp_all
def noB(n:Nat)(s:SV):C:=cln (λj=>!Nat.beq j n) s
def HY(n:Nat)(l:J SV):C:=jT (λj=>!Nat.beq j n) l
def VS(n:Nat):J (Nat×Nat×SV)->C
 |[]=>aE
 |p::r=>noB n p.2.2&&VS n r
def Qi(n:Nat):J nu->C
 |[]=>aE
 |b::r=>(!b.ok||HY n b.cells)&&Qi n r
def JG{n}:∀{l:J _},VS n l=aE->∀i p,eZ l i=aM p->noB n p.2=aE
 |[],_,i,p,h=>VI
 |(k,q)::r,h,i,p,a=>by
  simp[VS]at h;simp[eZ]at a;cases b:Nat.beq k i
  .rw[b]at a;exact JG h.2 i p P9
  simp_all
def JH{n}:∀{l:J nu},Qi n l=aE->∀i b,dq l i=aM b->b.ok=aE->HY n b.cells=aE
 |c::r,h,0,b,a,o=>by grind [Qi,dq]
 |c::r,h,i+1,b,a,o=>by
  simp[Qi]at h;exact JH h.2 i b a o
def Hr(a:Nat->Nat)(n b:Nat):Nat->Nat:=λi=>if i=n then b else a i
def Fu{β}{n b:Nat}:∀i,(!Nat.beq i n)=aE->β i=Hr β n b i:=λi h=>by
 unfold Hr;rw[Q];rintro rfl;simp at h
section
variable{β:Nat->Nat}{st:St}{a:Act}{w w1:av}
def St.Lr(st:St)(d:Option Tmp)(t:TypeId)(z:J SV):St:=
 St.put {st with bx:=st.bx++[⟨VM,t,z,st.ct,aE,aL,aL⟩],mv:=aE,ct:=st.ct+1} d (.box (WS st.bx) 0)
theorem Ext.Lr st d t zs:Ext st (st.Lr d t zs):=by
 refine PX (t:={st with bx:=st.bx++[_],mv:=aE,ct:=st.ct+1}) ⟨I,kB _,R,λi a h o s=>?_,λi b h=>?_,LQ⟩<|WV _ _ _
 .rw[nB]at h
  grind
 exact⟨b,by dsimp only;rw[nB,Q<|by have:=vR h;omega];exact h,I,I,λ_ c=>c⟩
def Rep.Lr(f:Rep β st a w){d}{t}{zs}{b}(k:VS (WS st.bx) st.fr=aE)(l:Qi (WS st.bx) st.bx=aE)(m:HY (WS st.bx) zs=aE)
  (n:w.heap.size<=b) (O:Only [] w w1) (B:Blk w1 b t (cO β zs)) (j:Fp st.bx st.dt=aE):
  Rep (Hr β (WS st.bx) b) (st.Lr d t zs) (a.put d (.pointer (aM ⟨b,0,VM⟩))) w1:=by
 let D:Hr β (WS st.bx) b (WS st.bx)=b:=by unfold Hr;rw[E I]
 let J:∀{i c},dq st.bx i=aM c->Hr β (WS st.bx) b i=β i:=fun{i c} h=>by
  unfold Hr;rw[Q];have:=vR h;omega
 let s:Rep (Hr β (WS st.bx) b) {st with bx:=st.bx++[⟨VM,t,zs,st.ct,aE,aL,aL⟩],mv:=aE,ct:=st.ct+1} a w1:=by
  refine⟨vP ⟨f.ok.sz,f.ok.df,λi p v q=>?_⟩,λi c h w=>?_,λi a bi r o d t u y=>?_,?_,R⟩
  .rw[f.ok.at_ i p v q];congr 1;exact kD (g:=λa=>!Nat.beq a (WS st.bx)) Fu _ (JG k i p v)
  .rw[nB]at h;split at h
   .rename_i e;simp at h;subst h;subst e;refine⟨?_,R,λ_=>?_⟩
    .rw[D];rw[<-jr (g:=λa=>!Nat.beq a (WS st.bx)) (β:=β) (β':=Hr β (WS st.bx) b) Fu _ m];exact B
    rw[D];exact bC f.only.size n
   have e:=J h;let⟨p,x,k3⟩:=f.bx i c h w;refine⟨?_,A,R⟩;rw[e,<-jr (g:=λa=>!Nat.beq a (WS st.bx)) (β:=β) (β':=Hr β (WS st.bx) b) Fu _ (JH l i c h w)];exact O.blk p N
  .rw[nB]at o d;split at o
   .rename_i e;split at d
    .omega
    subst e;rw[J d];have:=(f.bx a r d u).blk.lt;omega
   split at d
   .rename_i e;subst e;rw[J o];have:=(f.bx i bi o t).blk.lt;omega
   rw[J o,J d];exact f.ne i a bi r o d t u y
  have e:=xb λi q=>by
   let⟨c,h,_⟩:=yB j i q;exact J h
  rw[e];exact f.only.bG O
 have:=s.put d (.box (WS st.bx) 0);rw[show val _ _=.pointer _ by
  show Value.pointer _=_;rw[D]]at this
 exact this
def St.yh(st:St)(i:Nat)(b:nu)(c:J SV):St:=
 {st with bx:=VO st.bx i {b with cells:=c,stp:=st.ct,sh:=aL},mv:=aE,dt:=(bif b.blk.isSome&&!st.dt.elem i then i::st.dt else st.dt),ct:=st.ct+1}
theorem Ext.yh{st}{i}{b}{cs}(h:dq st.bx i=aM b):Ext st (st.yh i b cs):=by
 refine⟨I,kB _,λ_ _ _ h _=>h,λj d a o s=>?_,λj c e=>?_,LQ⟩
 .simp[St.yh]at a;rw[lu h]at a
  grind
 simp[St.yh];rw[lu h]
 grind
def Rep.yh(d:Rep β st a w){i}{b}{cs}(h:dq st.bx i=aM b)(o:b.ok=aE)(g:Only [β i] w w1)(B:Blk w1 (β i) b.ty (cO β cs)):Rep β (st.yh i b cs) a w1:=by
 let hk:=d.bx i b h o;refine⟨d.fr,λj c f q=>?_,λj p r bl k l m n y=>?_,?_,λh=>VI⟩
 .simp[St.yh]at f;rw[lu h]at f;split at f
  .rename_i e;subst e;simp at f;subst f;exact⟨B,hk.at_,hk.new⟩
  rename_i a;let⟨e,s,k3⟩:=d.bx j c f q;exact⟨g.blk e<|by simpa using d.ne j i c b f h q o a,s,k3⟩
 .simp[St.yh]at k l;rw[lu h]at k l;have e:∀{j c},(if j=i then aM {b with cells:=cs,stp:=st.ct,sh:=aL}else dq st.bx j)=aM c->c.ok=aE->∃a,dq st.bx j=aM a/\a.ok=aE:=R
  let⟨s,u,v⟩:=e k m;let⟨t,f1,f2⟩:=e l n;exact d.ne j p s t u f1 v f2 y
 show Only ((bif b.blk.isSome&&!st.dt.elem i then i::st.dt else st.dt).map β) st.w0 w1;cases h:(b.blk.isSome&&!st.dt.elem i)with
 |true=>exact d.only.cons g
 |false=>
  simp only[oB]at h;rcases h with h|h
  .refine d.only.new g (hk.new ?_);simp_all
  refine d.only.mem g<|dK.2 ⟨i,?_,I⟩;simpa using h
structure Flg (l l':List nu):Prop where
 fw:∀i b,dq l' i=aM b->∃c,dq l i=aM c/\c.blk=b.blk/\c.ty=b.ty/\c.cells=b.cells/\c.stp=b.stp/\c.ok=b.ok
 bw:∀i b,dq l i=aM b->∃c,dq l' i=aM c/\c.ty=b.ty/\c.ok=b.ok/\∀k,b.blk=aM k->c.blk=aM k
def Flg.refl l:Flg l l:=⟨A,YR⟩
def Flg.trans{l m n}(e:Flg l m)(k:Flg m n):Flg l n:=⟨λi b h=>by
 let⟨c,a,f,g,j,s,t⟩:=k.fw i b h;let⟨d,o,p,q,r,u,v⟩:=e.fw i c a;simp_all,λi b h=>by
 let⟨c,a,f,g,j⟩:=e.bw i b h;let⟨d,o,p,q,r⟩:=k.bw i c a;simp_all⟩
theorem Ext.flg{l'}(h:Flg st.bx l'):Ext st {st with bx:=l'}:=⟨I,bc _,R,λi b a o _=>by
 let⟨c,d,e,f,g,j,k⟩:=h.fw i b a;simp_all,h.bw,LQ⟩
theorem Rep.flg{l'}(h:Rep β st a w)(e:Flg st.bx l'):Rep β {st with bx:=l'} a w:=by
 refine⟨h.fr,λi b n o=>?_,λi j bi f g k l m y=>?_,h.only,h.still⟩
 .obtain⟨c,a,p,q,r,s,d⟩:=e.fw i b n;let⟨t,u,k3⟩:=h.bx i c a<|d.trans o;exact⟨R,R,R⟩
 let⟨c,a,_,_,_,_,b⟩:=e.fw i bi g;let⟨d,p,_,_,_,_,q⟩:=e.fw j f k;exact h.ne i j c d a p (b.trans l) (q.trans m) y
def WW:SV->J Nat
 |.box i _=>[i]
 |.fn _ f c=>WW f++WW c
 |.agg l=>WW l
 |.tup l=>WW l
 |.c h t=>WW h++WW t
 |_=>[]
def VT:Nat->J Nat->J nu->J nu
 |0,_,b=>b
 |_+1,[],b=>b
 |f+1,i::r,x=>match dq x i with
  |some b=>bif b.esc then VT f r x else VT f (flat WW b.cells++r) (VO x i {b with esc:=aE,sh:=aL})
  |none=>VT f r x
theorem xw:∀f l x,Flg x<|VT f l x
 |0,_,x=>Flg.refl _
 |_+1,[],x=>Flg.refl _
 |f+1,i::r,x=>by
  unfold VT;split
  .rename_i b h;cases e:b.esc
   .refine Flg.trans ⟨λj c a=>?_,λj c a=>?_⟩ (xw f _ _);rotate_left
    .rw[lu h]
     grind
    rw[lu h]at a
    grind
   exact xw f r x
  exact xw f r x
def St.esc(st:St)(l:J SV):St:={st with bx:=VT 1000 (flat WW l) st.bx}
def Ext.esc st l:Ext st (st.esc l):=Ext.flg<|xw _ _ _
def Js:=@Ext.esc
def Rep.esc(h:Rep β st a w) l:Rep β (st.esc l) a w:=h.flg<|xw _ _ _
end
def zc(P:Program)(t:TypeId):Option (J SV):=match P.info? t with
 |some i=>(match i.zero with
  |some z=>Qd z.cells.toList
  |none=>VM)
 |none=>VM
def Pv{P}{t}{zs}(h:zc P t=aM zs) w:∃z,(zeroValue t).run P w=.ok z w/\∀a,z.cells=(cO a zs).toArray:=by
 unfold zc at h;split at h
 .rename_i b i;split at h
  .rename_i z c;exact⟨z,by simp[zeroValue,typeInfo,i,c],λa=>by rw[Eg a h]⟩
  cases h
 cases h
def Jm(st:St)(z:J SV):C:=VS (WS st.bx) st.fr&&Qi (WS st.bx) st.bx&&HY (WS st.bx) z&&Fp st.bx st.dt
def uF:J nu->C
 |[]=>aE
 |b::r=>(!b.ok||b.blk.isSome)&&uF r
def AY:∀{l:J nu},uF l=aE->∀i b,dq l i=aM b->b.ok=aE->b.blk.isSome=aE
 |c::r,h,0,b,a,o=>by grind [uF,dq]
 |c::r,h,i+1,b,a,o=>by
  simp[uF]at h;exact AY h.2 i b a o
def Ua(k:Nat):J nu->Prop->Prop
 |[],p=>p
 |b::r,p=>bif b.ok then b.blk.getD 0≠k/\Ua k r p else Ua k r p
def Qj{bk}:∀{l:J nu} {p:Prop},Ua bk l p->p/\∀i b,dq l i=aM b->b.ok=aE->b.blk.getD 0≠bk
 |[],p,h=>⟨h,λi b hb=>Ho⟩
 |c::r,p,h=>by
  rcases rW h with⟨a,h⟩|⟨a,h⟩
  .obtain⟨c,d⟩:=h;let⟨e,f⟩:=Qj d;refine⟨e,λi b hb o=>?_⟩;cases i with
   |zero=>simp[dq]at hb;subst hb;exact c
   |succ i=>exact f i b hb o
  let⟨c,d⟩:=Qj h;refine⟨c,λi b hb o=>?_⟩;cases i with
  |zero=>simp[dq]at hb;simp_all
  |succ i=>exact d i b hb o
def zI(esc:C):J nu->J Nat
 |[]=>[]
 |b::r=>bif b.ok&&(esc||!b.esc)then b.blk.getD 0::zI esc r else zI esc r
def rO{esc}:∀{l:J nu} {i:Nat} {b:nu},dq l i=aM b->b.ok=aE->(esc||!b.esc)=aE->b.blk.getD 0∈zI esc l
 |c::r,0,b,h,o,e=>by
  simp[dq]at h;subst h;simp[zI,o,e]
 |c::r,i+1,b,h,o,e=>by
  have:=rO (l:=r) (i:=i) h o e;simp[zI]
  grind
def Fv(l:J Nat)(w a:av)(p:Prop):Prop:=match l with
 |[]=>p
 |_=>bX l w a/\p
def xx{l}{w0 w1}{p}(h:Fv l w0 w1 p):p/\bX l w0 w1:=by
 unfold Fv at h;split at h
 .exact⟨h,aez⟩
 grind
def Y2(P:Program)(w:av)(c:Nat):J nu->(J nu->Prop)->Prop
 |[],K=>K []
 |b::r,K=>bif b.ok&&b.esc then Wt (YS P 12 b.ty) λv=>Blk w (b.blk.getD 0) b.ty (cO β0 v)/\Y2 P w c r λa=>K ({b with cells:=v,stp:=c,sh:=aE}::a)
  else Y2 P w c r λa=>K (b::a)
def Eh{P}{w1}{ct}:∀{d:J nu} {K:J nu->Prop},Y2 P w1 ct d K->∃l,K l/\(∀i a,dq l i=aM a->∃b,dq d i=aM b/\a.ok=b.ok/\a.blk=b.blk/\a.ty=b.ty/\
  ((a=b/\(b.ok&&b.esc)=aL)∨(a.stp=ct/\(∀e,cO e a.cells=cO β0 a.cells)/\Blk w1 (b.blk.getD 0) b.ty (cO β0 a.cells))))/\
  ∀i b,dq d i=aM b->∃a,dq l i=aM a/\a.ty=b.ty/\a.ok=b.ok/\∀k,b.blk=aM k->a.blk=aM k
 |[],K,h=>⟨[],h,λi a hb=>Ho,R⟩
 |c::r,K,h=>by
  rcases rW h with⟨f,h⟩|⟨f,h⟩
  .obtain⟨v,⟨B,h⟩,_,u⟩:=xu h;let⟨l,j,k,m⟩:=Eh h;refine⟨_,j,λi a hb=>?_,λi b hb=>?_⟩;rotate_left
   .cases i with
    |zero=>simp[dq]at hb;subst hb;exact⟨_,I,I,I,λ_ h=>h⟩
    |succ i=>exact m i b hb
   cases i with
   |zero=>
    simp[dq]at hb;subst hb;exact⟨c,I,I,I,I,.inr ⟨I,λe=>jr (g:=λ_=>aL) (λi h=>VI) v<|u _,B⟩⟩
   |succ i=>exact k i a hb
  let⟨l,g,j,k⟩:=Eh h;refine⟨_,g,λi a hb=>?_,λi b hb=>?_⟩;rotate_left
  .cases i with
   |zero=>simp[dq]at hb;subst hb;exact⟨_,I,I,I,λ_ h=>h⟩
   |succ i=>exact k i b hb
  cases i with
  |zero=>
   simp[dq]at hb;subst hb;exact⟨c,I,I,I,I,R⟩
  |succ i=>exact j i a hb
def Sp(P:Program):J TypeId->(J SV->Prop)->Prop
 |[],K=>K []
 |t::r,K=>Wt (YS P 12 t) λv=>Sp P r λs=>K (VQ (match P.underlying t with|some d=>pL d|none=>aL) v::s)
def JI g:∀l,cln g (Jx l)=jT g l
 |[]=>rfl
 |s::r=>by simp[Jx,cln,jT,JI g r]
def Sn g ag {l} (h:jT g l=aE):cln g (VQ ag l)=aE:=by
 cases ag
 .cases l with
  |nil=>rfl
  |cons s r=>simp[jT]at h;exact h.1
 show cln g (Jx l)=aE;rw[JI];exact h
def JJ{P}:∀{a:J TypeId} {K:J SV->Prop},Sp P a K->∃s,K s/\∀g,jT g s=aE
 |[],K,h=>⟨[],h,λ_=>I⟩
 |t::r,K,h=>by
  let⟨v,h,_,b⟩:=xu h;let⟨s,c,d⟩:=JJ h;exact⟨_,c,λg=>by simp[jT,Sn g _<|b g,d g]⟩
def Fw(s:J SV):SV:=match s with
 |[r]=>r
 |s=>.tup<|Jx s
def AZ{g}{rs}(h:jT g rs=aE):cln g (Fw rs)=aE:=by
 unfold Fw;split
 .simp only[jT,aO]at h;exact h.1
 show cln g (Jx _)=aE;rw[JI];exact h
def JK(P:Program)(t:TypeId):J TypeId:=match P.underlying t with
 |some (.tuple ts)=>ts.toList
 |_=>[t]
def Y3(P:Program)(f:FuncId):C:=match P.funcs[f]? with
 |some f=>!(f.name== "runtime.NumGoroutine")&&f.body.isSome
 |none=>aL
def ia{P}{f}(h:Y3 P f=aE) args w:(callFunc f args).run P w=.ok (.enter f args) w:=by
 unfold Y3 at h;split at h
 .rename_i f a;simp at h;let b:f.body≠VM:=R
  let n:f.name≠ "runtime.NumGoroutine" :=R
  simp[callFunc,a,n,b]
 cases h
def Xz(P:Program)(f:FuncId):J TypeId:=match P.funcs[f]? with
 |some f=>f.resultTypes.toList
 |none=>[]
abbrev XT:=av->av->Prop->Prop
section
variable{P:Program}{β:Nat->Nat}{st:St}{a:Act}{w w1:av}
theorem Rep.next(g:Rep β st a w)(s:st.mv=aL)(q:uF st.bx=aE){bx'}{ct'}
  (f:∀i d,dq bx' i=aM d->d.ok=aE->∃b,dq st.bx i=aM b/\b.ok=aE/\d.blk=b.blk/\Blk w1 (β i) d.ty (cO β d.cells)):Rep β {st with bx:=bx',w0:=w1,ct:=ct'} a w1:=by
 have:∀i b,dq st.bx i=aM b->b.ok=aE->b.blk=aM (β i):=λi b h e=>by
  have:=AY q i b h e;rcases hk:b.blk with _|k
  .grind
  rw[(g.bx i b h e).at_ k hk]
 refine⟨g.fr,λi d N r=>?_,λi j bi l m n o p Z=>?_,qE _ _,λ_=>I⟩
 .obtain⟨b,h,e,c,a⟩:=f i d N r;exact⟨a,R,R⟩
 let⟨b,h,e,_⟩:=f i bi m o;let⟨c,k,a,_⟩:=f j l n p;exact g.ne i j b c h k e a Z
def VH:=@Rep.next
theorem Rep.W8(R:Rep β st a w)(d:uF st.bx=aE){i}{b}(h:dq st.bx i=aM b)(c:b.ok=aE):b.blk.getD 0=β i:=by
 have:=AY d i b h c;rcases hk:b.blk with _|k
 .grind
 rw[(R.bx i b h c).at_ k hk];rfl
def Y4(P:Program)(X:XT)(st:St)(d:Option Tmp)(L:J TypeId)(f:FuncId)(args:J SV)(t:J aw)(K:St->Prop):Prop:=
 bif jT st.Rw args&&uF st.bx then
  Calls P f (cO st.bl args++t).toArray st.w0 λe w1=>Sp P L λr=>e=.returned (val β0<|Fw r)/\
   Fv (zI aL st.bx) st.w0 w1 (Y2 P w1 st.ct st.bx λb=>X st.w0 w1<|K<|St.put {st with bx:=b,w0:=w1,ct:=st.ct+1} d<|Fw r)
 else False
def acK{X}{E:av->av->Prop}(u:∀m w1 p,X m w1 p->p/\E m w1){d}{LD}{f}{args}{tu}{K}(h:Y4 P X st d LD f args tu K)(o:st.mv=aL)(i:Rep β st a w):
  Calls P f (cO β args++tu).toArray w λe q=>∃v,e=.returned v/\∃l,K l/\Ext st l/\E w q/\Rep β l (a.put d v) q:=by
 let⟨j,h⟩:=eh h;simp at j;rw[i.yg j.1,<-i.still o]at h;refine h.mono λe w1 h=>?_;obtain⟨A,⟨rfl,c⟩,z⟩:=JJ h;let⟨n,S⟩:=xx c;let⟨x,k,y,r⟩:=Eh n;let⟨h,s⟩:=u _ _ _ k;let ev:val β0 _=val β _:=kD (g:=λ_=>aL) R _<|AZ<|z _;refine⟨_,I,_,h,?_,s,?_⟩
 .refine PX (t:={st with bx:=x,w0:=w1,ct:=st.ct+1}) ⟨I,kB _,R,λe b N a d=>?_,r,LQ⟩ (WV ..)
  grind
 rw[ev];refine Wi (VH i o j.2 λd a N v=>?_) _ _;let⟨b,c,n,k,p,f⟩:=y d a N;let P:b.ok=aE:=R
 refine⟨b,c,P,k,?_⟩;let e:=i.W8 j.2 c P;rcases f with⟨rfl,g⟩|⟨_,g,t⟩
 .have b:=rO (esc:=aL) c P R;rw[e]at b;exact(S _ b).trans (i.bx d a c P).blk
 simp_all
def Cq(a b:J aw):J aw:=a++b
def Y6(P:Program)(X:XT)(st:St)(d:Option Tmp)(L:J TypeId)(f:FuncId)(s:J aw)(args:J SV)(t:J aw)(K:St->Prop):Prop:=
 bif jT st.Rw args&&uF st.bx then
  Calls P f (Cq (Cq s<|cO st.bl args) t).toArray st.w0 λe w1=>Sp P L λr=>e=.returned (val β0<|Fw r)/\
   Fv (zI aL st.bx) st.w0 w1 (Y2 P w1 st.ct st.bx λb=>X st.w0 w1<|K<|St.put {st with bx:=b,w0:=w1,ct:=st.ct+1} d<|Fw r)
 else False
def acs{X}{E:av->av->Prop}(u:∀m w1 p,X m w1 p->p/\E m w1){d}{LD}{f}{fst}{args}{tu}{K}(h:Y6 P X st d LD f fst args tu K)(o:st.mv=aL)(i:Rep β st a w):
  Calls P f (Cq (Cq fst<|cO β args) tu).toArray w λe q=>∃v,e=.returned v/\∃l,K l/\Ext st l/\E w q/\Rep β l (a.put d v) q:=by
 let⟨j,h⟩:=eh h;simp at j;rw[i.yg j.1,<-i.still o]at h;refine h.mono λe w1 h=>?_;obtain⟨A,⟨rfl,c⟩,z⟩:=JJ h;let⟨n,S⟩:=xx c;let⟨x,k,y,r⟩:=Eh n;let⟨h,s⟩:=u _ _ _ k;let ev:val β0 _=val β _:=kD (g:=λ_=>aL) R _<|AZ<|z _;refine⟨_,I,_,h,?_,s,?_⟩
 .refine PX (t:={st with bx:=x,w0:=w1,ct:=st.ct+1}) ⟨I,kB _,R,λe b N a d=>?_,r,LQ⟩ (WV ..)
  grind
 rw[ev];refine Wi (VH i o j.2 λd a N v=>?_) _ _;let⟨b,c,n,k,p,f⟩:=y d a N;let P:b.ok=aE:=R
 refine⟨b,c,P,k,?_⟩;let e:=i.W8 j.2 c P;rcases f with⟨rfl,g⟩|⟨_,g,t⟩
 .have b:=rO (esc:=aL) c P R;rw[e]at b;exact(S _ b).trans (i.bx d a c P).blk
 simp_all
def wM(P:Program)(X:XT)(st:St)(d:Option Tmp)(L:J TypeId)(args:J SV)(r:J aw->Sem aw)(K:St->Prop):Prop:=
 bif jT st.Rw args&&uF st.bx then
  Sp P L λs=>∃w1,(r<|cO st.bl args).run P st.w0=.ok (val β0<|Fw s) w1/\Fv (zI aE st.bx) st.w0 w1 (X st.w0 w1<|K<|St.put {st with w0:=w1} d<|Fw s)
 else False
def exR{X}{E:av->av->Prop}(j:∀f w1 p,X f w1 p->p/\E f w1){d}{LD}{args}{run}{K}(h:wM P X st d LD args run K)(m:st.mv=aL)(b:Rep β st a w):
  ∃v e,(run<|cO β args).run P w=.ok v e/\∃l,K l/\Ext st l/\E w e/\Rep β l (a.put d v) e:=by
 let⟨c,h⟩:=eh h;simp at c;rw[b.yg c.1,<-b.still m]at h;let⟨s,⟨w1,r,h⟩,u⟩:=JJ h;let⟨h,S⟩:=xx h;let⟨h,i⟩:=j _ _ _ h;let ev:val β0 _=val β _:=kD (g:=λ_=>aL) R _<|AZ<|u _;refine⟨_,w1,r,_,h,?_,i,?_⟩
 .refine PX (t:={st with w0:=w1}) ⟨I,bc _,R,A,YR,LQ⟩ (WV ..)
 rw[ev];refine Wi (VH (ct':=st.ct) b m c.2 λg a q o=>⟨a,q,o,I,?_⟩) _ _;have d:=rO (esc:=aE) q o I;rw[b.W8 c.2 q o]at d;exact(S _ d).trans (b.bx g a q o).blk
def Y8(P:Program)(X:XT)(st:St)(d:Option Tmp)(args:J SV)(u:J aw->Sem aw)(r:SV)(K:St->Prop):Prop:=
 bif jT st.Rw args&&uF st.bx&&cln (λ_=>aL) r then
  ∃w1,(u<|cO st.bl args).run P st.w0=.ok (val β0 r) w1/\Fv (zI aE st.bx) st.w0 w1 (X st.w0 w1<|K<|St.put {st with w0:=w1} d r)
 else False
def Ei{X}{E:av->av->Prop}(j:∀f w1 p,X f w1 p->p/\E f w1){d}{args}{run}{rs}{K}(h:Y8 P X st d args run rs K)(m:st.mv=aL)(c:Rep β st a w):
  ∃v e,(run<|cO β args).run P w=.ok v e/\∃l,K l/\Ext st l/\E w e/\Rep β l (a.put d v) e:=by
 let⟨b,h⟩:=eh h;simp at b;rw[c.yg b.1.1,<-c.still m]at h;let⟨w1,r,h⟩:=h;let⟨h,S⟩:=xx h;let⟨h,i⟩:=j _ _ _ h;let ev:val β0 rs=val β rs:=kD (g:=λ_=>aL) R _ b.2;refine⟨_,w1,r,_,h,?_,i,?_⟩
 .refine PX (t:={st with w0:=w1}) ⟨I,bc _,R,A,YR,LQ⟩ (WV ..)
 rw[ev];refine Wi (VH (ct':=st.ct) c m b.1.2 λg a q o=>⟨a,q,o,I,?_⟩) _ _;have d:=rO (esc:=aE) q o I;rw[c.W8 b.1.2 q o]at d;exact(S _ d).trans (c.bx g a q o).blk
def TR(P:Program)(X:XT)(st:St)(d:Option Tmp)(args:J SV)(r:J aw->Sem Unit)(K:St->Prop):Prop:=
 bif jT st.Rw args&&uF st.bx then
  ∃w1,(r<|cO st.bl args).run P st.w0=.ok () w1/\Fv (zI aE st.bx) st.w0 w1 (X st.w0 w1<|K<|St.put {st with w0:=w1} d .un)
 else False
def afp{X}{E:av->av->Prop}(i:∀f w1 p,X f w1 p->p/\E f w1){d}{args}{run}{K}(h:TR P X st d args run K)(m:st.mv=aL)(b:Rep β st a w):
  ∃e,(run<|cO β args).run P w=.ok () e/\∃l,K l/\Ext st l/\E w e/\Rep β l (a.put d undef) e:=by
 let⟨c,h⟩:=eh h;simp at c;rw[b.yg c.1,<-b.still m]at h;let⟨w1,r,h⟩:=h;let⟨h,S⟩:=xx h;let⟨h,g⟩:=i _ _ _ h;refine⟨w1,r,_,h,?_,g,?_⟩
 .refine PX (t:={st with w0:=w1}) ⟨I,bc _,R,A,YR,LQ⟩ (WV ..)
 refine Wi (v:=.un) (VH (ct':=st.ct) b m c.2 λj a q o=>⟨a,q,o,I,?_⟩) _;have d:=rO (esc:=aE) q o I;rw[b.W8 c.2 q o]at d;exact(S _ d).trans (b.bx j a q o).blk
end
def vS(l:J aw)(i:Nat):aw:=match l,i with
 |[],_=>undef
 |v::_,0=>v
 |_::r,i+1=>vS r i
def zp:J Nat->J aw->J (Nat×aw)
 |i::r,v::s=>(i,v)::zp r s
 |_,_=>[]
def Nu:J (Nat×SV)->J Nat
 |[]=>[]
 |p::r=>p.1::Nu r
def Y9:J (Nat×SV)->J SV
 |[]=>[]
 |p::r=>p.2::Y9 r
def PE β:∀l,zp (Nu l) (cO β<|Y9 l)=H4 β l
 |[]=>rfl
 |p::r=>by
  have:=PE β r;simp[cO]at this;simp[Nu,Y9,cO,zp,H4,this]
def aqf(P:Program)(t:TypeId):C:=match P.underlying t with
 |some (.pointer _)=>aE
 |_=>aL
def XA:Operand->C
 |.const _=>aE
 |_=>aL
def TF:SV->C
 |.ptr _=>aE
 |.ad _=>aE
 |_=>aL
def mo(P:Program):Op->C
 |.move _=>aE
 |.assign _=>aE
 |.pick _ _ _=>aE
 |.binOp _ t x y _=>!(aqf P t)||XA x||XA y
 |.unOp _ _ _=>aE
 |.extract _ _=>aE
 |.build _ _=>aE
 |.makeFunc _ _ _=>aE
 |.makeInterface _ _=>aE
 |.nilCheck _=>aE
 |.fieldAddr _ _ _=>aE
 |.field _ _ _=>aE
 |.indexAddr _ _ _=>aE
 |.load _ _=>aE
 |.index _ _ _=>aE
 |.slice _ _ _ _ _=>aE
 |.convert s d _=>(match P.underlying s,P.underlying d with
  |some (.int _),aM (.int _)=>aE
  |some .string,aM .string=>aE
  |some (.slice e),aM .string=>(match P.underlying e with
   |some (.int .u8)=>aE
   |_=>aL)
  |_,_=>aL)
 |.call c=>(match c.callee with
  |.builtin .len=>(match c.argTypes.toList with
   |[t]=>(match P.underlying t with
    |some (.slice _)=>aE
    |some .string=>aE
    |_=>aL)
   |_=>aL)
  |.builtin .cap=>aE
  |.builtin .min=>aE
  |.builtin .max=>aE
  |_=>aL)
 |_=>aL
def Hs:Op->C
 |.store _ _ _=>aE
 |_=>aL
def XD(P:Program)(X:XT)(st:St)(o:Oper)(b:Builtin)(t:Array TypeId)(v:J SV)(K:St->Prop):Prop:=match b with
 |.append=>wM P X st o.dst (JK P o.type) v (λl=>Builtin.append_ t o.type l.toArray) K
 |.copy=>wM P X st o.dst (JK P o.type) v (λl=>Builtin.copy_ t o.type l.toArray) K
 |.delete=>wM P X st o.dst (JK P o.type) v (λl=>Builtin.delete_ t o.type l.toArray) K
 |.clear=>wM P X st o.dst (JK P o.type) v (λl=>Builtin.clear_ t o.type l.toArray) K
 |.len=>wM P X st o.dst (JK P o.type) v (λl=>Builtin.len_ t o.type l.toArray) K
 |.unsafeSliceData=>wM P X st o.dst (JK P o.type) v (λl=>Builtin.unsafeSliceData_ t o.type l.toArray) K
 |.unsafeString=>wM P X st o.dst (JK P o.type) v (λl=>Builtin.unsafeString_ t o.type l.toArray) K
 |_=>False
def VU(f:FuncId)(args:Array aw):Sem aw:=do
 match <-callFunc f args with
 |.value v=>pure v
 |_=>stuck "extV"
def pur{P}{f}{args}{w w1}{v}(h:(VU f args).run P w=.ok v w1):(callFunc f args).run P w=.ok (.value v) w1:=by
 unfold VU at h;rw[Sem.run_bind]at h;cases c:(callFunc f args).run P w with
 |ok n w=>
  rw[c,Result.andThen_ok]at h;cases n<;>first|(simp at h;done)|simp_all|(simp at h)
 |_=>rw[c]at h;simp at h
def akG{P}{a:Act}{w w1}{v}{dst}{x}{f}{first captured}{s:J Operand}{ats}{t'}{p}{af}{g}{args}
  (b:a.eval x=.func (.func f) first.toArray captured.toArray)
  (h:first++s.map a.eval++captured=args) (c:(callFunc f args.toArray).run P w=.ok (.value v) w1):
  (execOp a.eval ⟨dst,.call ⟨.value x,s.toArray,ats⟩,t',p,af,g⟩).run P w=.ok (.value v) w1:=by
 subst h;simp only[execOp,resolve,b,Deferred.ofValue,invoke]
 grind
def SF(P:Program)(X:XT)(st:St)(o:Oper)(f:SV)(s:J SV)(K:St->Prop):Prop:=match f with
 |.fn g a c=>bif Hp a&&Hp c&&Y3 P g then fY (st.esc<|qR a++s++qR c) λst=>Y4 P X st o.dst (Xz P g) g (qR a++s++qR c) [] K
  else bif Hp a&&Hp c then fY (st.esc<|qR a++s++qR c) λst=>wM P X st o.dst (Xz P g) (qR a++s++qR c) (λl=>VU g l.toArray) K else False
 |.raw v=>fY (st.esc s) λst=>∃(g:FuncId) (t cap:J aw),v.v=.func (.func g) t.toArray cap.toArray/\(∀a w,(callFunc g a).run P w=.ok (.enter g a) w)/\Y6 P X st o.dst (JK P o.type) g t s cap K
 |_=>False
abbrev YT:=Option Nat->Prop->Prop
def XE(P:Program)(X:XT)(Y:YT)(st:St)(o:Oper)(p s:SV)(v:J SV)(K:St->Prop):Prop:=match p with
 |.box i off=>cn (dq st.bx i) λb=>bif b.ok&&Nat.ble (off+WS v) (WS b.cells) then Y b.blk (K<|(st.yh i b<|ZV b.cells off v).put o.dst .un)else False
 |.ad p=>fY (st.esc v) λst=>∃(b off:Nat) (cells:J aw) (e:TypeId),p=(⟨b,off,VM⟩)/\Blk st.w0 b e cells/\off+WS v<=WS cells/\
  bif jT st.Rw v&&uF st.bx then Ua b st.bx (∀w,Only [b] st.w0 w->Blk w b e (fX cells off<|cO st.bl v)->X st.w0 w (K<|St.put {st with w0:=w} o.dst .un))else False
 |_=>False
def XF(P:Program)(st:St)(o:Oper)(f:SV)(v:J SV)(K:St->Prop):Prop:=match f with
 |.fn g s c=>bif Hp s&&Hp c&&Y3 P g then fY (st.esc<|qR s++v++qR c) λst=>bif jT st.Rw (qR s++v)&&jT st.Rw (qR c)then
  K (St.put {st with df:=(g,cO st.bl<|qR s++v,cO st.bl<|qR c)::st.df} o.dst .un)else False else False
 |_=>False
def loud(P:Program)(X:XT)(Y:YT)(st:St)(o:Oper)(K:St->Prop):Prop:=match o.op with
 |.binOp op t x y _=>cn (st.ev x) λa=>cn (st.ev y) λb=>bif TF a&&TF b then fY (st.esc [a,b]) λst=>wM P X st o.dst [o.type] [a,b] (λv=>Go.binOp op t (vS v 0)<|vS v 1) K else False
 |.alloc t=>cn (zc P t) λz=>bif Jm st z then K (st.Lr o.dst t z)else False
 |.box t x=>cn (st.ev x) λs=>cn (Fc s) λz=>bif Jm st z then K (st.Lr o.dst t z)else False
 |.store t x y=>cn (st.ev x) λp=>cn (st.ev y) λs=>cn (Fc s) λv=>bif sz P t (WS v) then XE P X Y st o p s v K else False
 |.call c=>cn (st.U1 c.args.toList) λv=>(match c.callee with
  |.value f=>cn (st.ev f) λa=>SF P X st o a v K
  |.builtin b=>fY (st.esc v) λst=>XD P X st o b c.argTypes v K
  |_=>False)
 |.defer c=>cn (st.U1 c.args.toList) λv=>(match c.callee with
  |.value f=>cn (st.ev f) λa=>XF P st o a v K
  |_=>False)
 |.buildSlice t n ps=>cn (st.evp ps.toList) λl=>fY (st.esc<|Y9 l) λst=>wM P X st o.dst [t] (Y9 l) (λv=>Instr.buildSlice t n (zp (Nu l) v).toArray) K
 |.makeSlice t x y=>cn (st.ev x) λa=>cn (st.ev y) λb=>fY st λst=>wM P X st o.dst [t] [a,b] (λv=>Instr.makeSlice t (vS v 0)<|vS v 1) K
 |.makeMap t VM=>fY st λst=>wM P X st o.dst [t] [] (λ_=>Instr.makeMap t VM) K
 |.makeMap t (aM x)=>cn (st.ev x) λa=>fY st λst=>wM P X st o.dst [t] [a] (λv=>Instr.makeMap t<|aM<|vS v 0) K
 |.lookup t x i ok=>cn (st.ev x) λa=>cn (st.ev i) λb=>fY st λst=>wM P X st o.dst (JK P o.type) [a,b] (λv=>Instr.lookup t (vS v 0) (vS v 1) ok) K
 |.mapUpdate t x y z=>cn (st.ev x) λa=>cn (st.ev y) λb=>cn (st.ev z) λc=>fY (st.esc [a,b,c]) λst=>TR P X st o.dst [a,b,c] (λv=>Instr.mapUpdate t (vS v 0) (vS v 1)<|vS v 2) K
 |.insert t x y z=>cn (st.ev x) λa=>cn (st.ev y) λb=>cn (st.ev z) λc=>fY (st.esc [a,b,c]) λst=>TR P X st o.dst [a,b,c] (λv=>Instr.mapUpdate t (vS v 0) (vS v 1)<|vS v 2) K
 |.convert s d x=>cn (st.ev x) λa=>fY (st.esc [a]) λst=>wM P X st o.dst [d] [a] (λv=>convert s d<|vS v 0) K
 |.range t x=>cn (st.ev x) λa=>fY st λst=>∃p,Y8 P X st o.dst [a] (λv=>Instr.range t<|vS v 0) (.ptr p) K
 |.next x aL=>cn (st.ev x) λa=>fY st λst=>Y8 P X st o.dst [a] (λv=>Instr.next (vS v 0) aL o.type) (.tup<|Jx [.bl aL]) K∨
  Wt [.raw,.raw] λr=>Y8 P X st o.dst [a] (λv=>Instr.next (vS v 0) aL o.type) (.tup<|Jx (.bl aE::r)) K
 |.entry x=>cn (st.ev x) λa=>fY st λst=>Wt [.raw,.raw] λr=>Y8 P X st o.dst [a] (λv=>Instr.entry<|vS v 0) (.tup<|Jx r) K
 |_=>False
section
variable{P:Program}{β:Nat->Nat}{st:St}{a:Act}{w w1:av}{X:XT}{Y:YT}{E:av->av->Prop}{K:St->Prop}{Q:Exit->Act->av->Prop}
abbrev V1(E:av->av->Prop)(st:St)(K:St->Prop)(c:av)(b:Act)(w:av):=∃a d,K d/\Ext st d/\E c w/\Rep a d b w
def oH(f:∀b w1 p,X b w1 p->p/\E b w1){o}{LD}{args l}{run}(h:fY (st.esc l) λst=>wM P X st o.dst LD args run K)(R:Rep β st a w)
  (x:∀v w1,(run<|cO β args).run P w=.ok v w1->(execOp a.eval o).run P w=.ok (.value v) w1):o.wp P a w (V1 E st K w) Q:=by
 let⟨s,c,e,j,m,_⟩:=fp h<|R.esc l;let⟨v,n,r,d,k,g,k3,i⟩:=exR f c m j;exact Dp v (x v n r) I ⟨β,d,k,(Js st l).trans<|e.trans g,k3,i⟩
def A2(f:∀b w1 p,X b w1 p->p/\E b w1){o}{LD}{args}{run}(h:fY st λst=>wM P X st o.dst LD args run K)(R:Rep β st a w)
  (x:∀v w1,(run<|cO β args).run P w=.ok v w1->(execOp a.eval o).run P w=.ok (.value v) w1):o.wp P a w (V1 E st K w) Q:=by
 let⟨s,c,e,j,m,_⟩:=fp h R;let⟨v,l,r,d,k,g,k3,i⟩:=exR f c m j;exact Dp v (x v l r) I ⟨β,d,k,e.trans g,k3,i⟩
def MF(f:∀b w1 p,X b w1 p->p/\E b w1){o}{args l}{run}(h:fY (st.esc l) λst=>TR P X st o.dst args run K)(R:Rep β st a w)
  (x:∀w1,(run<|cO β args).run P w=.ok () w1->(execOp a.eval o).run P w=.ok .skip w1):o.wp P a w (V1 E st K w) Q:=by
 let⟨s,c,e,j,m,_⟩:=fp h<|R.esc l;let⟨n,r,d,k,g,k3,i⟩:=afp f c m j;exact unI (x n r) I ⟨β,d,k,(Js st l).trans<|e.trans g,k3,i⟩
def WO(e:∀w w1,Only [] w w1->E w w1){d}{t}{zs}(h:Jm st zs=aE)(c:K (st.Lr d t zs))(R:Rep β st a w){b}(f:w.heap.size<=b)(O:Only [] w w1)(B:Blk w1 b t (cO β zs)):
  V1 E st K w (a.put d<|.pointer<|aM ⟨b,0,VM⟩) w1:=by
 simp[Jm]at h;exact⟨_,_,c,Ext.Lr ..,e _ _ O,R.Lr h.1.1.1 h.1.1.2 h.1.2 f O B h.2⟩
def mSl(g:∀b w1 p,X b w1 p->p/\E b w1){o}{LD}{f}{args}{tu}{s1}(h:Y4 P X s1 o.dst LD f args tu K)(m:s1.mv=aL)(c:Ext st s1)(R:Rep β s1 a w)
  (x:(execOp a.eval o).run P w=.ok (.enter f (cO β args++tu).toArray) w):o.wp P a w (V1 E st K w) Q:=by
 refine S0 x<|(acK g h m R).mono ?_;rintro e l ⟨v,rfl,d,k,i,k3,j⟩;exact⟨v,_,I,I,β,d,k,c.trans i,k3,j⟩
def ajC(g:∀b w1 p,X b w1 p->p/\E b w1){o}{LD}{f}{fst}{args}{tu}{s1}(h:Y6 P X s1 o.dst LD f fst args tu K)(m:s1.mv=aL)(c:Ext st s1)(R:Rep β s1 a w)
  (x:(execOp a.eval o).run P w=.ok (.enter f (Cq (Cq fst<|cO β args) tu).toArray) w):o.wp P a w (V1 E st K w) Q:=by
 refine S0 x<|(acs g h m R).mono ?_;rintro e l ⟨v,rfl,d,k,i,k3,j⟩;exact⟨v,_,I,I,β,d,k,c.trans i,k3,j⟩
def Zc{s}(h:TF s=aE) β:∃q,val β s=.pointer q:=by
 cases s<;>first|(cases h;done)|exact⟨_,I⟩
def afr{a:Act}{dst}{op}{t ty}{x y}{t'}{p}{af}{g}{u v r}(c:∃q,u=.pointer q)(d:∃q,v=.pointer q)(e:a.eval x=u)(f:a.eval y=v){w w1}
  (b:(Go.binOp op t u v).run P w=.ok r w1):(execOp a.eval ⟨dst,.binOp op t x y ty,t',p,af,g⟩).run P w=.ok (.value r) w1:=by
 obtain⟨q,rfl⟩:=c;obtain⟨i,rfl⟩:=d;let h:eqGuard op t x y (.pointer q) (.pointer i)=pure ():=by cases op<;>rfl
 simp[execOp,e,f,h,b]
def afs{a:Act}{dst}{x}{fn}{first c:J aw}{s:J Operand}{ats}{t'}{p}{af}{g}{args}{w}
  (b:a.eval x=.func fn first.toArray c.toArray) (h:first++s.map a.eval=args):
  (execOp a.eval ⟨dst,.defer ⟨.value x,s.toArray,ats⟩,t',p,af,g⟩).run P w=.ok (.defer {target:=.fn fn c.toArray,args:=args.toArray}) w:=by
 subst h;simp only[execOp,resolve,b,Deferred.ofValue];simp
def ain{a:Act}{dst}{t}{x}{t'}{p}{af}{g}{u v}{w w1}(b:a.eval x=u)(h:(Instr.range t u).run P w=.ok v w1):
  (execOp a.eval ⟨dst,.range t x,t',p,af,g⟩).run P w=.ok (.value v) w1:=by
 simp[execOp,b,h]
def chK{a:Act}{dst}{x}{t'}{p}{af}{g}{u v}{w w1}(b:a.eval x=u)(h:(Instr.next u aL t').run P w=.ok v w1):
  (execOp a.eval ⟨dst,.next x aL,t',p,af,g⟩).run P w=.ok (.value v) w1:=by
 simp[execOp,b,h]
def adD{a:Act}{dst}{x}{t'}{p}{af}{g}{u v}{w w1}(b:a.eval x=u)(h:(Instr.entry u).run P w=.ok v w1):
  (execOp a.eval ⟨dst,.entry x,t',p,af,g⟩).run P w=.ok (.value v) w1:=by
 simp[execOp,b,h]
def oI β l m:cO β (l++m)=cO β l++cO β m:=by simp[cO]
def JL(e:∀r w1 p,X r w1 p->p/\E r w1){o:Oper}(m:∀w w1,Only [] w w1->E w w1)(S:Hs o.op=aE->∀l k w w1 p,Y l p->(∀j,l=aM j->k=j)->Only [k] w w1->p/\E w w1)(h:loud P X Y st o K)(d:Rep β st a w):o.wp P a w (V1 E st K w) Q:=by
 let⟨i,op,A,p,u,g⟩:=o;unfold loud at h;dsimp only at h;split at h
 .obtain⟨x,b,h⟩:=bD h;let⟨y,c,h⟩:=bD h;let⟨p,h⟩:=eh h;simp only[aO]at p;exact oH e h d λv w1 a=>afr (Zc p.1 β) (Zc p.2 β) (d.ev b) (d.ev c) a
 .obtain⟨s,g,h⟩:=bD h;let⟨f,h⟩:=eh h;let⟨z,k,n⟩:=Pv g w;exact lp0 k (n β) (λ_=>I) λb w1 c a B=>WO m f h d c a B
 .obtain⟨s,g,h⟩:=bD h;let⟨k,z,h⟩:=bD h;let⟨f,h⟩:=eh h;exact akm (by rw[d.ev g];exact(Ci z β).1) (λ_=>I) λb w1 c a B=>WO m f h d c a B
 .obtain⟨q,x,h⟩:=bD h;let⟨s,y,h⟩:=bD h;let⟨a,g,h⟩:=bD h;let⟨z,h⟩:=eh h;let⟨c,f⟩:=Ci g β;have E:=S I;cases q with
  |box p off=>
   let⟨b,n,h⟩:=bD h;let⟨k,h⟩:=eh h;simp only[aO]at k;let s:=fJ k.2;refine Ml (ue z w) (d.ev x) (by rw[d.ev y];exact c) (gP β a) f (d.bx p b n k.1).blk (by rw[gP,gP];exact s) I I λw1 q B=>?_;rw[<-ej]at B;let⟨h,t⟩:=E _ (β p) _ w1 _ h (λj v=>(d.bx p b n k.1).at_ j v) q;exact⟨β,_,h,(Ext.yh n).trans<|WV _ _ _,t,(d.yh n k.1 q B).put i .un⟩
  |ad ad=>
   simp only[XE]at h;let⟨G,M,J,Q,C,_⟩:=fp h<|d.esc a;obtain⟨l,off,cells,L,rfl,B,H,b⟩:=M;let⟨k,b⟩:=eh b;simp only[aO]at k;let⟨b,T⟩:=Qj b;let D:=Q.still C;rw[<-D,Q.yg k.1]at b;rw[<-D]at B;refine Ml (ue z w) (d.ev x) (by rw[d.ev y];exact c) (gP β a) f B (by rw[gP];omega) I I λw1 s V=>let⟨N,P⟩:=e _ _ _<|b w1 s V;⟨β,_,N,((Js st a).trans J).trans<|PX (t:={G with w0:=w1}) ⟨I,bc _,R,R,YR,LQ⟩<|WV _ _ _,P,?_⟩;refine Wi (v:=.un) (VH (ct':=G.ct) Q C k.2 λF p q n=>⟨p,q,n,I,?_⟩) _;let K:=Q.W8 k.2 q n;have:=T F p q n;rw[K]at this;exact s.blk (Q.bx F p q n).blk (by simpa using this)
  |_=>exact h.elim
 .rename_i c;let⟨g,⟨x⟩,t⟩:=c;let⟨s,k,h⟩:=bD h;let D:=d.U1 k;dsimp only at h;cases g with
  |value f=>
   let⟨c,b,h⟩:=bD h;cases c with
   |fn z w q=>
    let y:Hp w=aE->Hp q=aE->a.eval f=.func (.func z) (cO β<|qR w).toArray (cO β<|qR q).toArray:=λC E=>by
     rw[d.ev b];show Value.func (.func z) (uB β w).toArray (uB β q).toArray=_;rw[qt β C,qt β E]
    have B:=h;unfold SF at B;rcases rW B with⟨n,p⟩|⟨_,p⟩
    .simp only[aO]at n;let⟨v,p,a,Q,f,_⟩:=fp p<|d.esc _;exact mSl e p f ((Js _ _).trans a) Q<|neN (y n.1.1 n.1.2) (ia n.2) (by rw[D,oI,oI,bq])
    let⟨n,p⟩:=eh p;simp only[aO]at n;exact oH e p d λv w1 a=>akG (y n.1 n.2) (by rw[D,oI,oI])<|pur a
   |raw v=>
    simp only[SF]at h;let⟨E,⟨w,n,cap,y,z,B⟩,p,Q,C,_⟩:=fp h<|d.esc s;exact ajC e B C ((Js _ _).trans p) Q<|have q:a.eval f=.func (.func w) n.toArray cap.toArray:=(d.ev b).trans y;neN q z (by rw[D];rfl)
   |_=>exact h.elim
  |builtin b=>
   unfold XD at h;cases b with
   |append=>exact oH e h d λv w1 a=>ajM D a
   |copy=>exact oH e h d λv w1 a=>aiq D a
   |delete=>exact oH e h d λv w1 a=>inb D a
   |clear=>exact oH e h d λv w1 a=>kTo D a
   |len=>exact oH e h d λv w1 a=>ajE D a
   |unsafeSliceData=>exact oH e h d λv w1 a=>(by rw[<-D]at a;exact pG (λ_=>I) a)
   |unsafeString=>exact oH e h d λv w1 a=>(by rw[<-D]at a;exact pG (λ_=>I) a)
   |_=>
    let⟨b,a,_⟩:=fp h<|d.esc s;exact a.elim
  |_=>exact h.elim
 .rename_i c;let⟨b,⟨x⟩,s⟩:=c;let⟨v,k,h⟩:=bD h;let D:=d.U1 k;dsimp only at h;cases b with
  |value f=>
   let⟨c,n,h⟩:=bD h;cases c with
   |fn B z y=>
    unfold XF at h;let⟨E,q⟩:=eh h;simp only[aO]at E;let K:a.eval f=.func (.func B) (cO β<|qR z).toArray (cO β<|qR y).toArray:=by
     rw[d.ev n];show Value.func (.func B) (uB β z).toArray (uB β y).toArray=_;rw[qt β E.1.1,qt β E.1.2]
    let⟨C,q,J,Q,T,_⟩:=fp q<|d.esc _;let⟨F,q⟩:=eh q;simp only[aO]at F;rw[Q.yg F.1,Q.yg F.2]at q;unfold Oper.wp;rw[(afs (P:=P) (dst:=i) (ats:=s) (t':=A) (p:=p) (af:=u) (g:=g) (w:=w) K<|by rw[D,<-oI]),Oper.upon_defer];let H:Rep β {C with df:=(B,cO β<|qR z++v,cO β<|qR y)::C.df} {a with defers:={target:=.fn (.func B) (cO β<|qR y).toArray,args:=(cO β<|qR z++v).toArray}::a.defers} w:=by
     let⟨f,a⟩:=Q.fr;exact⟨⟨f,by rw[a];rfl⟩,Q.bx,Q.ne,Q.only,Q.still⟩
    exact⟨β,_,q,((Js _ _).trans J).trans<|PX (t:={C with df:=(B,cO β<|qR z++v,cO β<|qR y)::C.df}) ⟨I,bc _,λ_ _ _ h _=>h,λW G N L V=>⟨G,N,L,I,I,I,λ_ h=>h⟩,YR,⟨[_],I⟩⟩<|WV _ _ _,m _ _<|qE _ _,H.put i .un⟩
   |_=>exact h.elim
  |_=>exact h.elim
 .rename_i t n ps;let⟨f,c,b⟩:=bD h;clear h;let⟨ps⟩:=ps;refine oH e b d λv w1 a=>?_;rw[PE]at a;exact ad2 (d.evp c) a
 .obtain⟨b,x,h⟩:=bD h;let⟨v,y,h⟩:=bD h;exact A2 e h d λ_ w1 a=>abV (d.ev x) (d.ev y) a
 .exact A2 e h d λ_ w1 a=>ajn a
 .obtain⟨b,x,h⟩:=bD h;exact A2 e h d λ_ w1 a=>cd1 (d.ev x) a
 .obtain⟨b,x,h⟩:=bD h;let⟨v,y,h⟩:=bD h;exact A2 e h d λ_ w1 a=>ah8 (d.ev x) (d.ev y) a
 .obtain⟨c,x,h⟩:=bD h;let⟨v,y,h⟩:=bD h;let⟨z,b,h⟩:=bD h;exact MF e h d λw1 a=>lsd (d.ev x) (d.ev y) (d.ev b) a
 .obtain⟨c,x,h⟩:=bD h;let⟨v,y,h⟩:=bD h;let⟨z,b,h⟩:=bD h;exact MF e h d λw1 a=>spv (d.ev x) (d.ev y) (d.ev b) a
 .obtain⟨b,x,h⟩:=bD h;exact oH e h d λ_ w1 a=>ac1 (d.ev x) a
 .obtain⟨t,x,h⟩:=bD h;let⟨s,⟨q,c⟩,b,Q,f,_⟩:=fp h d;let⟨v,w,g,a,k,n,k3,p⟩:=Ei e c f Q;exact Dp v (ain (d.ev x) g) I ⟨β,a,k,b.trans n,k3,p⟩
 .obtain⟨f,x,h⟩:=bD h;let⟨s,a,b,Q,c,_⟩:=fp h d;rcases a with a|a
  .obtain⟨v,w,k,g,n,p,k3,q⟩:=Ei e a c Q;exact Dp v (chK (d.ev x) k) I ⟨β,g,n,b.trans p,k3,q⟩
  let⟨_,a,_⟩:=xu a;let⟨v,w,k,g,n,p,k3,q⟩:=Ei e a c Q;exact Dp v (chK (d.ev x) k) I ⟨β,g,n,b.trans p,k3,q⟩
 .obtain⟨q,x,h⟩:=bD h;let⟨s,a,c,Q,f,_⟩:=fp h d;let⟨_,a,_⟩:=xu a;let⟨v,w,g,b,k,n,k3,p⟩:=Ei e a f Q;exact Dp v (adD (d.ev x) g) I ⟨β,b,k,c.trans n,k3,p⟩
 exact h.elim
end
def nd(P:Program)(st:St)(o:Op):C:=match o with
 |.load _ x=>(match st.ev x with
  |some (.ad _)=>aE
  |_=>aL)
 |.convert s _ _=>(match P.underlying s with
  |some (.slice _)=>aE
  |_=>aL)
 |_=>aL
def WM(b:C)(st:St)(K:St->Prop):Prop:=bif b&&st.mv then fY st K else K st
def Cs{b}{st}{K}(h:WM b st K){β}{a}{w}(R:Rep β st a w):∃d,K d/\Ext st d/\Rep β d a w/\d.fr=st.fr/\d.n=st.n:=by
 rcases rW h with⟨_,h⟩|⟨_,h⟩
 .obtain⟨s,a,b,c,e,f,g,_⟩:=fp h R
  grind
 exact⟨st,h,Wp _,R,I,I⟩
def JM(P:Program):J Oper->C
 |[]=>aE
 |o::r=>mo P o.op&&JM P r
def Qk:J Oper->C
 |[]=>aL
 |o::r=>mem o.op||Qk r
def ael:XT:=λ_ _ p=>p
def rkL:YT:=λ_ p=>p
def zv(P:Program)(t:TypeId):C:=match P.underlying t with
 |some d=>pL d
 |none=>aL
def Nw(P:Program)(o:Oper)(v:SV)(K:SV->Prop):Prop:=match o.op,v with
 |.extract _ _,.raw x=>(match YS P 12 o.type with
  |[]=>K<|.raw x
  |[.raw]=>K<|.raw x
  |ls=>Wt ls λv=>x.v=val β0 (VQ (zv P o.type) v)/\K (VQ (zv P o.type) v))
 |_,v=>K v
def aft{P}{o}{v}{K}(h:Nw P o v K):∃u,K u/\∀a,val a u=val a v:=by
 unfold Nw at h;split at h
 .split at h
  .grind
  .grind
  let⟨v,⟨e,h⟩,_,c⟩:=xu h;exact⟨_,h,λa=>Eq.trans (kD (g:=λ_=>aL) (λi h=>VI) _<|Sn _ _<|c _).symm e.symm⟩
 grind
def Su(P:Program)(st:St)(o:Oper)(K:St->Prop):Prop:=
 bif mo P o.op then WM (nd P st o.op) st λst=>Za P [] st o.op λv=>Nw P o v λv=>K (st.put o.dst v)else loud P ael rkL st o K
def DU(P:Program)(o:J Oper):Nat->J Oper->St->(St->Prop)->Prop
 |0,_,_,_=>False
 |_+1,[],st,K=>K st
 |f+1,a::r,st,K=>match a.guard with
  |none=>Su P st a λst=>DU P o f r st K
  |some (j,want)=>(match Wv st o j with
   |some (_,.un)=>DU P o f r (st.put a.dst .un) K
   |some (_,.bl b)=>bif b==want then Su P st a λst=>DU P o f r st K else DU P o f r (st.put a.dst .un) K
   |some (d,.bt t)=>bif JM P ((a::r).take<|DT o j (a::r)+1)
    then WM (Qk<|(a::r).take<|DT o j (a::r)+1) st λst=>Cm P o f [] ((a::r).take<|DT o j (a::r)+1) st λst=>DU P o f ((a::r).drop<|DT o j (a::r)+1) st K
    else((t=aE->DU P o f (a::r) (st.put (aM d)<|.bl aE) K)/\(t=aL->DU P o f (a::r) (st.put (aM d)<|.bl aL) K))
   |_=>False)
section
variable{P:Program}{ops:J Oper}{Q:Exit->Act->av->Prop}
def sk0{st}{o}{rest}{K}{β}{a}{w}(h:Su P st o K)(e:Rep β st a w)(f:Region.wanted o (yielded ops.toArray a.tmps)=aE)
  (i:∀b d c g,K d->Ext st d->Rep b d c g->wpList P ops.toArray Q rest c g):wpList P ops.toArray Q (o::rest) a w:=by
 rcases rW h with⟨_,h⟩|⟨_,h⟩
 .obtain⟨s,l,m,k,n,p⟩:=Cs h e;let⟨v,j,y⟩:=Qf l;let⟨u,j,ev⟩:=aft j;exact Jj _ f (y trivial β a w k _ _ _ _ _ w λ_=>I) I<|i β _ _ w j (m.trans<|WV _ _ _)<|ev β▸k.put o.dst u
 refine akl f (Oper.wp_mono ?_<|JL (E:=λ_ _=>True) (λ_ _ _ h=>⟨h,trivial⟩) R (λ_ _ _ _ _ _ h _ _=>⟨h,trivial⟩) h e)
 grind
def yC:∀{f:Nat} {i:J Oper} {st:St} {K:St->Prop},DU P ops f i st K->∀{h:Nat->Nat} {a:Act} {g:av},Rep h st a g->
  (∀c l e w,K l->Ext st l->Rep c l e w->Q .normal e w)->wpList P ops.toArray Q i a g
 |0,_,_,_,a,_,_,_,_,_=>a.elim
 |_+1,[],st,K,b,h,a,g,R,d=>d h st a g b (Wp _) R
 |f+1,o::r,st,K,j,h,a,g,R,k=>by
  let n:DU P ops f r _ K->Region.wanted o _=aL->wpList P ops.toArray Q _ a g:=λj m=>
   O9 m I (yC j (R.put o.dst .un) λc l e w a b k3=>k c l e w a ((WV ..).trans b) k3)
  let y:(Su P st o λst=>DU P ops f r st K)->Region.wanted o _=aE->wpList P ops.toArray Q _ a g:=λj m=>
   sk0 j R m λc l e w d f k3=>yC d k3 λa B7 b t p q s=>k a B7 b t p (f.trans q) s
  unfold DU at j;split at j
  .rename_i a;exact y j (wn a)
  rename_i q p f;split at j
  .rename_i d t;exact n j (Ck R f t)
  .rename_i d b t;have:=uD R f t (b:=b) I
   grind
  .rename_i d t v;let⟨x,Y,u,b⟩:=Fg v;rcases rW j with⟨_,j⟩|⟨_,j⟩
   .generalize DT ops q _+1=H at j;let⟨s,B,C,D,S,T⟩:=Cs j R;let⟨V,E,F,k3,G⟩:=vQ B;let⟨e,z,A⟩:=G trivial h a g D;have:=JA (Q:=Q) (rest:=(o::r).drop H) z<|yC E A λd B7 t P L M N=>k d B7 t P L ((C.trans F).trans M) N;simp_all
   cases t
   .exact yC (j.2 I) (R.set b I) λc l e w a d k3=>k c l e w a ((WV ..).trans d) k3
   exact yC (j.1 I) (R.set b I) λc l e w a d k3=>k c l e w a ((WV ..).trans d) k3
  exact j.elim
end
def JT:J Lf->Type
 |[]=>av->Prop
 |l::r=>l.T->JT r
def MG:(l:J Lf)->JT l->(J SV->av->Prop)->Prop
 |[],a,K=>∀w,a w->K [] w
 |b::r,a,K=>∀x,MG r (a x) λv w=>K (b.sv x::v) w
def YJ(k:IntKind)(s:SV):Option Int:=match uC s with
 |some (k',n)=>bif JW (k'=k)then aM n else VM
 |none=>VM
def NL(bl:Nat->Nat)(s:SV):Option (Option Addr):=match s with
 |.box i o=>aM<|aM ⟨bl i,o,VM⟩
 |s=>opn s
def UX(s:SV):Option (Option Nat):=match s with
 |.map m=>aM m
 |_=>VM
def MZ(bl:Nat->Nat)(s:SV):Option OV:=match s with
 |.raw v=>aM v
 |.fn f s c=>aM ⟨.func (.func f) (uB bl s).toArray (uB bl c).toArray,I⟩
 |_=>VM
def un(bl:Nat->Nat):(l:Lf)->SV->Option l.T
 |.int k=>YJ k
 |.bool=>Fb
 |.str=>zY
 |.ptr=>NL bl
 |.sl=>Sg
 |.map=>UX
 |.raw=>MZ bl
def aqk{bl}{l}{s}{x}(h:un bl l s=aM x) β:val β (l.sv x)=val bl s:=by
 cases l with
 |int k=>
  have h:YJ k s=aM x:=h;unfold YJ at h;split at h
  .rename_i k n o;obtain⟨e,rfl⟩:=Jy h;have e:=S e;subst e;rw[dN o];rfl
  cases h
 |bool=>rw[pM h];rfl
 |str=>rw[jU h];rfl
 |ptr=>
  have h:NL bl s=aM x:=h;unfold NL at h;split at h
  .injection h with h;subst h;rfl
  rw[afe h];rfl
 |sl=>rw[mN h];rfl
 |map=>
  have h:UX s=aM x:=h;unfold UX at h;split at h
  .injection h with h;subst h;rfl
  cases h
 |raw=>
  have h:MZ bl s=aM x:=h;unfold MZ at h;split at h
  .injection h with h;subst h;rfl
  .injection h with h;subst h;rfl
  cases h
def MQ:(l:J Lf)->(Nat->Nat)->JT l->J SV->av->Prop
 |[],_,a,[],w=>a w
 |b::r,bl,a,s::c,w=>(match un bl b s with
  |some x=>MQ r bl (a x) c w
  |none=>False)
 |_,_,_,_,_=>False
def px{bl}{w}:∀{l:J Lf} {a:JT l} {b:J SV} {K:J SV->av->Prop},MQ l bl a b w->MG l a K->∃v,K v w/\WS v=WS l/\(∀c,cO c v=cO bl b)/\∀g,jT g v=aE
 |[],a,[],K,h,k=>⟨[],k w h,I,λ_=>I,λ_=>I⟩
 |d::r,a,s::b,K,h,k=>by
  unfold MQ at h;split at h
  .rename_i x m;let⟨v,e,f,i,j⟩:=px h<|k x;refine⟨_,e,by simp[f],λc=>?_,λg=>by simp[jT,Lf.cln,j g]⟩;have:=i c;simp only[cO,ch]at this⊢;rw[this,aqk m]
  exact h.elim
 |[],_,_::_,_,h,_=>h.elim
 |_::_,_,[],_,h,_=>h.elim
inductive MI where
 |s (slot:Nat) (l:Lf)
 |a (slot:Nat) (ls:List Lf)
 |b (slot:Nat) (ls:List Lf)
def Uf:J MI->J Lf
 |[]=>[]
 |.s _ l::r=>l::Uf r
 |.a _ l::r=>l++Uf r
 |.b _ l::r=>l++Uf r
def Jt(st:St)(i:Nat):Option Nat:=match st.get i with
 |some (.box j _)=>aM j
 |_=>VM
def Zh:J SV->J SV
 |[]=>[]
 |.box j o::r=>.box j o::Zh r
 |_::r=>Zh r
def Fx(st:St):J MI->J SV
 |[]=>[]
 |.b i _::r=>(match Jt st i with
  |some j=>(match dq st.bx j with
   |some b=>Zh b.cells++Fx st r
   |none=>Fx st r)
  |none=>Fx st r)
 |.s i _::r=>(match st.get i with
  |some (.box j o)=>.box j o::Fx st r
  |_=>Fx st r)
 |_::r=>Fx st r
def uG(st s:St):J MI->Option (J SV)
 |[]=>aM []
 |.s i _::r=>(match s.get i,uG st s r with
  |some v,aM l=>aM (v::l)
  |_,_=>VM)
 |.a i a::r=>(match s.get i,uG st s r with
  |some (.agg l),aM m=>bif Hp l&&Nat.beq (WS<|qR l) (WS a) then aM (qR l++m)else VM
  |_,_=>VM)
 |.b i a::r=>(match Jt st i with
  |some j=>(match dq s.bx j,uG st s r with
   |some b,aM m=>bif Nat.beq (WS b.cells) (WS a) then aM (b.cells++m)else VM
   |_,_=>VM)
  |none=>VM)
def Ql(c:Nat):J MI->J SV->J (Nat×Nat×SV)
 |.s i _::r,v::s=>(i,c,v)::Ql c r s
 |.a i l::r,v=>(i,c,.agg<|Jx<|v.take<|WS l)::Ql c r (v.drop<|WS l)
 |.b _ l::r,v=>Ql c r<|v.drop<|WS l
 |_,_=>[]
def Qm(st:St):J MI->J SV->J nu->J nu
 |.s _ _::r,_::v,b=>Qm st r v b
 |.a _ l::r,v,b=>Qm st r (v.drop<|WS l) b
 |.b i l::r,v,x=>(match Jt st i with
  |some j=>(match dq x j with
   |some b=>Qm st r (v.drop<|WS l)<|VO x j {b with cells:=v.take<|WS l,stp:=st.ct}
   |none=>Qm st r (v.drop<|WS l) x)
  |none=>Qm st r (v.drop<|WS l) x)
 |_,_,b=>b
def Zb:J MI->J Nat
 |[]=>[]
 |.s i _::r=>i::Zb r
 |.a i _::r=>i::Zb r
 |.b _ _::r=>Zb r
def Zj(st:St):J MI->J Nat
 |[]=>[]
 |.b i _::r=>(match Jt st i with
  |some j=>j::Zj st r
  |none=>Zj st r)
 |_::r=>Zj st r
def Rn(fr:J (Nat×Nat×SV)):J Nat->J (Nat×Nat×SV)
 |[]=>[]
 |i::r=>match eZ fr i with
  |some p=>(i,p)::Rn fr r
  |none=>Rn fr r
def pO(st:St)(kp:J Nat)(m:J MI)(v:J SV)(w:av):St:=
 {n:=st.n,fr:=Ql st.ct m v++Rn st.fr kp,bx:=Qm st m v st.bx,w0:=w,mv:=aL,dt:=[],ct:=st.ct+1,df:=st.df}
def UB(st s:St)(sl:J Nat):J Nat->C
 |[]=>aE
 |i::r=>(match eZ st.fr i with
  |some (k,v)=>(match eZ s.fr i with
   |some (k',_)=>Nat.beq k k'&&Nat.blt k st.ct&&!sl.elem i&&cln (MB st.bx) v
   |none=>aL)
  |none=>aE)&&UB st s sl r
def VW(st:St)(Y:J Nat):Nat->J nu->J nu->C
 |_,[],_=>aE
 |i,b::r,c::q=>(!b.ok||(b.blk.isSome&&(Y.elem i||(Nat.blt c.stp st.ct&&jT (MB st.bx) b.cells))))&&VW st Y (i+1) r q
 |_,_::_,[]=>aL
def VX(st:St)(kp:J Nat) ms (a:JT (Uf ms)) (s:St):Prop:=
 bif UB st s (Zb ms) kp&&VW st (Zj st ms) 0 st.bx s.bx&&Nat.beq (WS s.df) (WS st.df) then
  cn (uG st s ms) λv=>bif jT (MB s.bx) v then MQ _ (Pw s.bx) a v s.w0 else False
 else False
def yD:∀l m i,eZ (l++m) i=match eZ l i with
  |some p=>aM p
  |none=>eZ m i
 |[],_,_=>rfl
 |(k,p)::r,m,i=>by
  simp[eZ];cases Nat.beq k i
  .exact yD r m i
  rfl
def Ej{fr}:∀{kp:J Nat} {i:Nat} {p:Nat×SV},eZ (Rn fr kp) i=aM p->i∈kp/\eZ fr i=aM p
 |j::r,i,p,h=>by
  unfold Rn at h;split at h
  .rename_i q a;simp[eZ]at h;cases b:Nat.beq j i
   .rw[b]at h;obtain⟨c,d⟩:=Ej YW;simp_all
   simp_all
  obtain _:=Ej h;simp_all
def Xf{fr}{p}:∀{kp:J Nat} {i:Nat},i∈kp->eZ fr i=aM p->eZ (Rn fr kp) i=aM p
 |j::r,i,a,h=>by
  unfold Rn;cases b:Nat.beq j i
  .have D:i∈r:=by
    rcases ba.1 a with e|e<;>simp_all
   let c:=Xf (p:=p) D h;split
   .simp[eZ,b];exact c
   omega
  have:=db b;subst this;rw[h];simp[eZ]
def yE{ct}:∀{m:J MI} {s:J SV} {i:Nat},(Zb m).elem i=aL->eZ (Ql ct m s) i=VM
 |[],s,i,_=>rfl
 |.s j l::r,[],i,_=>rfl
 |.s j l::r,v::s,i,h=>by
  simp only[Zb,zG]at h;split at h
  .cases h
  rename_i o;simp[Ql,eZ];have:Nat.beq j i=aL:=by
   cases b:Nat.beq j i<;>simp_all
  rw[this];exact yE h
 |.a j l::r,s,i,h=>by
  simp only[Zb,zG]at h;split at h
  .cases h
  rename_i o;simp[Ql,eZ];have:Nat.beq j i=aL:=by
   cases b:Nat.beq j i<;>simp_all
  rw[this];exact yE h
 |.b j l::r,s,i,h=>by
  simp[Ql];exact yE h
def yF{ct}:∀{m:J MI} {s:J SV} {i:Nat} {p:Nat×SV},eZ (Ql ct m s) i=aM p->p.1=ct
 |[],s,i,p,h=>by cases s<;>cases h
 |.s j l::r,[],i,p,h=>VI
 |.s j l::r,v::s,i,p,h=>by
  simp[Ql,eZ]at h;cases b:Nat.beq j i
  .rw[b]at h;exact yF YW
  grind
 |.a j l::r,s,i,p,h=>by
  simp[Ql,eZ]at h;cases b:Nat.beq j i
  .rw[b]at h;exact yF YW
  grind
 |.b j l::r,s,i,p,h=>by
  simp[Ql]at h;exact yF h
def kF{st}:∀m d x i b,dq x i=aM b->∃a,dq (Qm st m d x) i=aM a/\a.ty=b.ty/\a.ok=b.ok/\a.blk=b.blk/\((Zj st m).elem i=aL->a=b)/\(a=b∨a.stp=st.ct)
 |[],d,x,i,b,h=>⟨b,P9,I,I,I,λ_=>I,.inl I⟩
 |.s j l::r,[],x,i,b,h=>⟨b,h,I,I,I,λ_=>I,.inl I⟩
 |.s j l::r,v::d,x,i,b,h=>kF r d x i b h
 |.a j l::r,d,x,i,b,h=>kF r _ x i b h
 |.b s l::r,d,x,i,b,h=>by
  simp only[Qm,Zj];rcases hj:Jt st s with _|j
  .exact kF r _ x i b h
  dsimp only;rcases hc:dq x j with _|c
  .obtain⟨a,c,e,f,g,k,n⟩:=kF (st:=st) r _ x i b h;refine⟨a,c,e,f,g,λo=>k ?_,n⟩
   grind
  by_cases y:i=j
  .subst y;rw[hc]at h;injection h with h;subst h;obtain⟨a,b,c,e,f,k,n⟩:=kF (st:=st) r _ _ i _ (by rw[lu hc,E I]);refine⟨a,b,c,e,f,λg=>?_,?_⟩
   .simp at g
   grind
  obtain⟨a,e,f,g,k,n,o⟩:=kF (st:=st) r _ (VO x j {c with cells:=d.take<|WS l,stp:=st.ct}) i b (by rw[lu hc,Q y];exact h);refine⟨a,e,f,g,k,λp=>n ?_,o⟩
  grind
def rX{st}:∀m a b i,dq b i=VM->dq (Qm st m a b) i=VM
 |[],a,b,i,h=>P9
 |.s j l::r,[],b,i,h=>h
 |.s j l::r,v::a,b,i,h=>rX r a b i h
 |.a j l::r,a,b,i,h=>rX r _ b i h
 |.b s l::r,a,b,i,h=>by
  simp[Qm];rcases hj:Jt st s with _|j
  .exact rX r _ b i h
  dsimp only;rcases hc:dq b j with _|c
  .exact rX r _ b i h
  refine rX r _ _ i ?_;rw[lu hc,Q]
  .exact h
  grind
def Ext.acr{st}{kp}{ms}{vs}{w}:Ext st (pO st kp ms vs w):=by
 refine⟨I,kB _,λi k v l J=>?_,λi a h o s=>?_,λi b h=>?_,LQ⟩
 .simp[pO]at l;rw[yD]at l;split at l
  .rename_i p b;have:=yF b;simp_all
  exact(Ej l).2
 .simp[pO]at h;rcases hn:dq st.bx i with _|b
  .rw[rX _ _ _ _ hn]at h;cases h
  let⟨c,d,e,f,g,j,k⟩:=kF (st:=st) ms vs st.bx i b hn
  grind
 let⟨c,d,e,f,g,_⟩:=kF (st:=st) ms vs st.bx i b h;exact⟨c,d,e,f,R⟩
def IT:=@Ext.acr
def xi(st:St)(kp:J Nat)(m:J MI)(s:St):Prop:=Ext st s∨∃v w,Ext (pO st kp m v w) s
section
variable{st s:St}{kp:J Nat}{ms:J MI}{β:Nat->Nat}{a:Act}{w:av}
def xi.n(h:xi st kp ms s):s.n=st.n:=by
 rcases h with h|⟨v,w,h⟩
 .exact h.n
 exact h.n
def xi.df(h:xi st kp ms s):∃l,s.df=l++st.df:=by
 rcases h with h|⟨v,w,h⟩
 .exact h.df
 exact h.df
theorem xi.slot(h:xi st kp ms s){i k}{v v'}(c:i∈kp)(b:eZ st.fr i=aM (k,v))(a:eZ s.fr i=aM (k,v'))(hk:k<st.ct)(d:(Zb ms).elem i=aL):v'=v:=by
 rcases h with h|⟨e,w,h⟩
 .have:=h.fr i k v' a hk
  grind
 have:=h.fr i k v' a<|Nat.lt_succ_of_lt hk;simp[pO]at this;rw[yD,yE d,Xf c b]at this;simp_all
theorem xi.ps(h:xi st kp ms s){i}{b}(a:dq st.bx i=aM b):∃c,dq s.bx i=aM c/\c.ty=b.ty/\c.ok=b.ok/\∀k,b.blk=aM k->c.blk=aM k:=by
 rcases h with h|⟨v,w,h⟩
 .exact h.ps i b a
 let⟨d,e,f,g,j,_⟩:=kF (st:=st) ms v st.bx i b a;let⟨c,k,l,k3,m⟩:=h.ps i d e
 grind
theorem xi.cells(h:xi st kp ms s){i}{b c}(d:dq st.bx i=aM b)(a:dq s.bx i=aM c)(o:b.ok=aE)(l:(Zj st ms).elem i=aL)(e:c.stp<st.ct):c.cells=b.cells:=by
 rcases h with h|⟨v,w,h⟩
 .obtain⟨g,k,j,k3,m⟩:=h.ps i b d;rw[a]at k;injection k with k;subst k;let⟨f,n,p,q,_⟩:=h.bx i c a (k3.trans o) e
  grind
 let⟨g,f,p,q,r,s,_⟩:=kF (st:=st) ms v st.bx i b d;let⟨n,k,t,k3,u⟩:=h.ps i g f;rw[a]at k;injection k with k;subst k;let⟨j,m,x,y,z,A,B⟩:=h.bx i c a R<|Nat.lt_succ_of_lt e;rw[show dq (pO st kp ms v w).bx i=dq (Qm st ms v st.bx) i from rfl,f]at m
 grind
def Sv{sl}:∀{kp:J Nat},UB st s sl kp=aE->∀i∈kp,∀k v,eZ st.fr i=aM (k,v)->∃a,eZ s.fr i=aM (k,a)/\k<st.ct/\sl.elem i=aL/\cln (MB st.bx) v=aE
 |j::r,h,i,b,k,v,l=>by
  simp only[UB,aO]at h;rcases ba.1 b with rfl|b
  .have c:=h.1;rw[l]at c;dsimp only at c;split at c<;>simp_all
  exact Sv h.2 i b k v l
def JN{Yc}:∀{l m:J nu} {n:Nat},VW st Yc n l m=aE->∀i b,dq l i=aM b->b.ok=aE->b.blk.isSome=aE/\(Yc.elem (n+i)=aE∨∃c,dq m i=aM c/\c.stp<st.ct/\jT (MB st.bx) b.cells=aE)
 |b::r,[],n,h,_,_,_,_=>by simp[VW]at h
 |b::r,c::q,n,a,0,f,e,o=>by
  simp only[VW,aO,cj]at a;simp[dq]at e;subst e;rcases a.1 with d|⟨d,h⟩
  .simp_all
  refine⟨d,?_⟩;rcases h with h|h
  .exact .inl h
  exact .inr ⟨c,I,fJ h.1,h.2⟩
 |b::r,c::q,n,h,i+1,a,d,o=>by
  simp[VW]at h;have:=JN h.2 i a d o;rwa[show n+1+i=n+(i+1) by omega]at this
theorem Rep.at(R:Rep β s a w){i}{v}(h:s.get i=aM v):i<s.n/\a.tmps[i]? =aM (V.val β v):=by
 unfold St.get at h;cases b:Nat.blt i s.n
 .grind
 rw[b]at h;rcases hl:eZ s.fr i with _|p
 .grind
 rw[hl]at h;simp at h;subst h;exact⟨fJ b,R.ok.at_ i p hl<|fJ b⟩
def xy{g}:∀{l m:J SV},jT g (l++m)=aE->jT g l=aE/\jT g m=aE
 |[],m,h=>⟨I,h⟩
 |s::r,m,h=>by
  simp[jT]at h⊢;obtain _:=xy h.2;simp_all
theorem vT{γ b}{vs l m}{n}(v:V.cO γ vs=V.cO b l++V.cO b m)(h:WS l=n):V.cO γ (vs.take n)=V.cO b l/\V.cO γ (vs.drop n)=V.cO b m:=by
 have:(V.cO γ vs).take n=V.cO γ (vs.take n):=by simp[V.cO]
 have:(V.cO γ vs).drop n=V.cO γ (vs.drop n):=by simp[V.cO]
 have:WS (V.cO b l)=n:=by rw[gP,h]
 grind
def JO(R:Rep β s a w){ct}{γ}:∀{ms:J MI} {c d:J SV},uG st s ms=aM c->jT (MB s.bx) c=aE->V.cO γ d=V.cO (Pw s.bx) c->∀i p,eZ (Ql ct ms d) i=aM p->a.tmps[i]? =aM (V.val γ p.2)
 |[],c,d,_,_,_,i,p,h=>by cases d<;>cases h
 |.s j l::r,c,[],_,_,_,i,p,h=>VI
 |.s j l::r,c,v::d,a,b,e,i,p,h=>by
  simp[uG]at a;split at a
  .rename_i v m g k;simp at a;subst a;simp[jT]at b;simp[V.cO]at e;simp[Ql,eZ]at h;cases f:Nat.beq j i
   .rw[f]at h;exact JO R k b.2 e.2 i p YW
   rw[f]at h;simp at h;subst h;have:=db f;subst this;rw[(R.at g).2,e.1,R.auo b.1]
  cases a
 |.a j l::r,c,d,a,b,v,i,p,h=>by
  simp[uG]at a;split at a
  .rename_i r s o q;obtain⟨e,rfl⟩:=Jy a;simp only[aO]at e;let⟨g,k⟩:=xy b;rw[oI]at v;let⟨m,n⟩:=vT v<|db e.2;simp[Ql,eZ]at h;cases f:Nat.beq j i
   .rw[f]at h;exact JO R q k n i p YW
   rw[f]at h;simp at h;subst h;have:=db f;subst this;rw[(R.at o).2];show aM (Value.agg (uB β r).toArray)=aM (Value.agg (uB γ _).toArray);rw[vO,m,qt β e.1,R.yg g]
  cases a
 |.b j l::r,c,d,a,e,v,i,p,h=>by
  simp[uG]at a;split at a
  .split at a
   .rename_i b r q k;obtain⟨m,rfl⟩:=Jy a;let⟨n,f⟩:=xy e;rw[oI]at v;let⟨o,g⟩:=vT v<|db m;exact JO R k f g i p h
   cases a
  cases a
theorem Fy(l:Rep β s a w){γ}(m:∀i b,dq st.bx i=aM b->∃c,dq s.bx i=aM c/\c.ty=b.ty/\c.ok=b.ok)(h:∀i b,dq st.bx i=aM b->b.ok=aE->γ i=β i):∀{ms:J MI} {f g:J SV} {bx:J nu},uG st s ms=aM f->jT (MB s.bx) f=aE->V.cO γ g=V.cO (Pw s.bx) f->
  (∀j d,dq bx j=aM d->∃b,dq st.bx j=aM b/\d.ty=b.ty/\d.ok=b.ok)->(∀j d,dq bx j=aM d->d.ok=aE->Blk w (γ j) d.ty (V.cO γ d.cells)∨(Zj st ms).elem j=aE)->
  ∀j d,dq (Qm st ms g bx) j=aM d->d.ok=aE->Blk w (γ j) d.ty (V.cO γ d.cells)
 |[],f,g,bx,_,_,_,_,c,j,d,b,o=>by
  have:Qm st [] g bx=bx:=I;rcases c j d b o with a|a
  .exact a
  cases a
 |.s k p::r,f,[],bx,a,e,v,b,n,j,d,c,o=>by
  simp[uG]at a;split at a
  .simp at a;subst a;simp[V.cO]at v
  cases a
 |.s k q::r,f,v::g,bx,a,c,b,e,o,j,d,n,p=>by
  simp[uG]at a;split at a
  .rename_i v s r k;simp at a;subst a;simp[jT,aO]at c;simp[V.cO,ch,MS]at b;exact Fy l m h k c.2 b.2 e o j d n p
  cases a
 |.a k s::r,f,g,bx,a,e,v,b,n,j,d,c,o=>by
  simp[uG]at a;split at a
  .rename_i y z x t;obtain⟨k,rfl⟩:=Jy a;simp only[aO]at k;let r:=db k.2;let⟨u,p⟩:=xy e;rw[oI]at v;let⟨w,q⟩:=vT v r;exact Fy l m h t p q b n j d c o
  cases a
 |.b k u::r,f,g,bx,a,t,v,o,p,j,d,n,s=>by
  simp[uG]at a;split at a
  .rename_i q k;split at a
   .rename_i c C x y;obtain⟨B,rfl⟩:=Jy a;let⟨z,r⟩:=xy t;rw[oI]at v;let⟨A,w⟩:=vT v<|db B;simp[Qm,k]at n;rcases hn:dq bx q with _|b
    .rw[hn]at n;refine Fy l m h y r w o (λi b Y e=>?_) j d n s;rcases p i b Y e with c|c
     .exact .inl c
     simp only[Zj,k,zG]at c;split at c<;>grind
    rw[hn]at n;let⟨D,F,G,K⟩:=o q b hn;refine Fy l m h y r w (λi E H=>?_) (λi E H X=>?_) j d n s
    .rw[lu hn]at H
     grind
    rw[lu hn]at H;split at H
    .rename_i e;subst e;injection H with H;subst H;left;let P:D.ok=aE:=R
     let⟨L,b,q,k3⟩:=m i D F;rw[x]at b;injection b with b;subst b;rw[h i D F P,G,<-q,A,l.yg z];exact(l.bx i c x<|k3.trans P).blk
    rename_i c;rcases p i E H X with b|b
    .exact .inl b
    simp only[Zj,k,zG]at b;split at b<;>grind
   cases a
  cases a
def xz{J}(f:VX st kp ms J s)(R:Rep β s a w)(M:s.mv=aL)(B:xi st kp ms s){K}(L:MG _ J K):
  ∃n,K n w/\Rep (Pw st.bx) (pO st kp ms n w) a w:=by
 let⟨m,f⟩:=eh f;let⟨T,r,f⟩:=bD f;let⟨D,f⟩:=eh f;simp only[aO]at m;let⟨m,P⟩:=m;let V:s.df=st.df:=by
  let⟨a,l⟩:=B.df;simp_all
 rw[<-R.still M]at f;let⟨n,N,Q,k3,S⟩:=px f L;let t:∀i b,dq st.bx i=aM b->∃c,dq s.bx i=aM c/\c.ty=b.ty/\c.ok=b.ok:=λi b h=>by
  let⟨c,a,b,g,_⟩:=B.ps h;simp_all
 let F:∀i b,dq st.bx i=aM b->b.ok=aE->b.blk=aM (β i):=λi b h o=>by
  let⟨s,_⟩:=JN m.2 i b h o;let⟨c,a,q,g,p⟩:=B.ps h;rcases hk:b.blk with _|k
  .grind
  rw[(R.bx i c a<|g.trans o).at_ k (p k hk)]
 let e:∀i b,dq st.bx i=aM b->b.ok=aE->Pw st.bx i=β i:=λi b h o=>by
  unfold Pw;rw[h];dsimp only;rw[F i b h o];rfl
 let E:∀i,MB st.bx i=aE->Pw st.bx i=β i:=λi u=>by
  unfold MB at u;cases h:dq st.bx i<;>simp_all
 let C:∀i d,dq (Qm st ms n st.bx) i=aM d->d.ok=aE->∃b,dq st.bx i=aM b/\b.ok=aE/\d.blk=b.blk:=λi d h o=>by
  rcases hn:dq st.bx i with _|b
  .rw[rX _ _ _ _ hn]at h;cases h
  let⟨a,c,g,k,p,_⟩:=kF (st:=st) ms n st.bx i b hn
  grind
 refine⟨n,N,vP ⟨R.ok.sz.trans B.n,R.ok.df.trans<|bn WG V,λi p l u=>?_⟩,λi d h o=>?_,λi j bi G x y z H Z=>?_,qE _ _,λ_=>I⟩
 .simp[pO]at l;rw[yD]at l;split at l
  .rename_i q a;simp at l;subst l;exact JO R r D (k3 _) i q a
  let⟨a,b⟩:=Ej l;let⟨k,v⟩:=p;let⟨J,c,q,s,w⟩:=Sv m.1 i a k v b;have:=B.slot a b c q s;subst this;rw[R.ok.at_ i _ c (by rw[B.n];exact u)];congr 1;exact(kD (g:=MB st.bx) E _ w).symm
 .have s:=Fy R t e r D (k3 _) (bx:=st.bx) A (λj b h o=>by
   let⟨_,a⟩:=JN m.2 j b h o;rw[bS]at a;rcases a with a|⟨c,a,p,q⟩
   .exact .inr a
   cases l:(Zj st ms).elem j with
   |true=>exact .inr I
   |false=>
    left;let⟨J,k,v,w⟩:=t j b h;rw[a]at k;injection k with k;subst k;have:=(R.bx j c a<|w.trans o).blk;rw[e j b h o,<-v,jr (g:=MB st.bx) E _ q,<-B.cells h a o l p];omega) i d h o
  let⟨b,x,y,z⟩:=C i d h o;refine⟨s,λk hk=>?_,λhk=>?_⟩
  .grind
  grind
 let⟨b,a,g,_⟩:=C i bi x z;let⟨c,f1,f2,_⟩:=C j G y H;let⟨d,p,_,q⟩:=t i b a;let⟨k,s,_,q3⟩:=t j c f1;rw[e i b a g,e j c f1 f2];exact R.ne i j d k p s (q.trans g) (q3.trans f2) Z
end
def bH(S:Nat->Prop)(w a:av):=∀k,S k->k<w.heap.size->a.heap[k]? =w.heap[k]?
def bH.refl S w:bH S w w:=λ_ _ _=>I
def zR:=@bH.refl
def bH.only{S}{w w'}(h:Only [] w w'):bH S w w':=λk _ hk=>h.block k hk N
def ZX:=@bH.only
def vU(S:Nat->Prop)(k:Nat):Prop:=¬S k
def EE(P:Program)(o:J Oper)(m s:C)(S:Nat->Prop)(j:Nat)(w a:av):Prop:=match iY o j with
 |some b=>bif mo P b.op then a.heap=w.heap else bif m&&(s||!Hs b.op)then bH S w a else True
 |none=>False
def XB(m s:C)(S:Nat->Prop)(o:Op):XT:=λw a p=>bif m&&(s||!Hs o)then bH S w a/\p else p
def YB(m s:C)(S:Nat->Prop):YT:=λb p=>bif m&&s then(match b with
 |some k=>vU S k/\p
 |none=>False)else p
def vV(P:Program):Nat->J Oper->J Nat
 |_,[]=>[]
 |i,o::r=>bif mo P o.op then vV P (i+1) r else i::vV P (i+1) r
def PF(q:Nat)(seen:J Nat):J Edge->C
 |[]=>aL
 |e::r=>(Region.binds .any e&&(Nat.beq e.on q||seen.elem e.on))||PF q seen r
def Zk(q:Nat):Nat->J Nat->J Oper->J Nat
 |_,s,[]=>s
 |i,s,o::r=>bif PF q s o.after.toList then Zk q (i+1) (i::s) r else Zk q (i+1) s r
def Me(b:Array C):Nat->J Oper->J Nat
 |_,[]=>[]
 |i,_::r=>bif b.getD i aE then i::Me b (i+1) r else Me b (i+1) r
def VY(D N:J Nat):J Nat->J Nat
 |[]=>[]
 |j::r=>bif D.elem j||N.elem j then VY D N r else j::VY D N r
def Sw(o:J Oper):J Nat->C
 |[]=>aE
 |j::r=>(match iY o j with
  |some a=>!Hs a.op
  |none=>aL)&&Sw o r
def Dq(o:J Oper)(q:Nat):J Nat:=(Zk q 0 [] o).reverse
def UR(P:Program)(o:J Oper)(b:Array C)(q:Nat):J Nat:=VY (Dq o q) (Me b 0 o)<|vV P 0 o
def NZ{a:Type}:J a->C
 |[]=>aE
 |_=>aL
def IM(o:J Oper)(b:Array C)(q:Nat):C:=
 Region.noSelect o.toArray&&Region.free .any o.toArray b q&&yz .any o.toArray b&&vM .any o.toArray q [] (Dq o q)&&(Me b 0 o).all (λk=>b.getD k aE)
def ZR(st:St)(o:J Oper)(a:Oper)(y n:St->Prop):Prop:=match a.guard with
 |none=>y st
 |some (j,want)=>(match Wv st o j with
  |some (_,.un)=>n st
  |some (_,.bl b)=>bif b==want then y st else n st
  |some (d,.bt t)=>((t=aE->bif aE==want then y (st.put (aM d)<|.bl aE)else n (st.put (aM d)<|.bl aE))/\
   (t=aL->bif aL==want then y (st.put (aM d)<|.bl aL)else n (st.put (aM d)<|.bl aL)))
  |_=>False)
def ldB(P:Program)(S:Nat->Prop)(st:St)(t:TypeId)(a:SV)(K:SV->Prop):Prop:=match P.underlying t with
 |none=>False
 |some d=>(match a with
  |.box i o=>cn (dq st.bx i) λb=>bif b.ok&&b.blk.isSome&&sz P t (WS<|(b.cells.drop o).take<|rj P t)&&(pL d||Nat.beq (WS<|(b.cells.drop o).take<|rj P t) 1)then S (b.blk.getD 0)/\K (VQ (pL d)<|(b.cells.drop o).take<|rj P t)else False
  |.ad p=>bif !st.mv&&sz P t (WS<|YS P 12 t)&&(pL d||Nat.beq (WS<|YS P 12 t) 1)then S p.block/\Wt (YS P 12 t) λv=>Cells st.w0 p (cO β0 v)/\K (VQ (pL d) v)else False
  |_=>False)
def cvB(P:Program)(S:Nat->Prop)(st:St)(s d:TypeId)(a:SV)(K:SV->Prop):Prop:=match P.underlying s,P.underlying d with
 |some (.slice e),aM .string=>(match P.underlying e with
  |some (.int .u8)=>cn (Sg a) λu=>bif st.mv then False else ∃l,(∀ad,u.a=aM ad->S ad.block)/\wE st.w0 u l/\K (.str ⟨l.toArray⟩)
  |_=>False)
 |_,_=>False
def XG(P:Program):Op->C
 |.load _ _=>aE
 |.convert s d _=>(match P.underlying s,P.underlying d with
  |some (.slice _),aM .string=>aE
  |_,_=>aL)
 |_=>aL
def cvI(P:Program):Op->C
 |.convert s d _=>(match P.underlying s,P.underlying d with
  |some (.int _),aM (.int _)=>aE
  |some .string,aM .string=>aE
  |_,_=>aL)
 |_=>aL
def cvZ(P:Program)(s d:TypeId)(a:SV)(K:SV->Prop):Prop:=match P.underlying s,P.underlying d with
 |some (.int _),aM (.int kd)=>cn (uC a) λp=>K<|.int kd<|kd.wrap p.2
 |some .string,aM .string=>cn (zY a) λu=>K<|.str u
 |_,_=>False
def qP(P:Program)(p:J Oper)(m c:C)(S:Nat->Prop)(b:Array C)(q:Nat)(o:Oper)(st:St)(K:St->Prop):Prop:=
 bif mo P o.op then
  bif cvI P o.op then(match o.op with
   |.convert s d x=>cn (st.ev x) λa=>cvZ P s d a λv=>K<|st.put o.dst v
   |_=>False)
  else bif !mem o.op||NZ (UR P p b q)then WM (nd P st o.op) st λst=>Za P [] st o.op λv=>K (st.put o.dst v)
  else bif m&&(c||Sw p (UR P p b q))then(match o.op with
   |.load t x=>WM (nd P st o.op) st λst=>cn (st.ev x) λa=>ldB P S st t a λv=>K<|st.put o.dst v
   |.convert s d x=>WM (nd P st o.op) st λst=>cn (st.ev x) λa=>cvB P S st s d a λv=>K<|st.put o.dst v
   |_=>False)else False
 else False
def fq(P:Program)(o:J Oper):J Nat->Option Nat
 |[]=>VM
 |i::r=>match iY o i with
  |some a=>bif mo P a.op then aM i else fq P o r
  |none=>VM
def MJ(P:Program)(o:J Oper)(m s:C)(S:Nat->Prop):Nat->Array C->St->(St->Prop)->Prop
 |0,b,st,K=>(match Region.ready .any o.toArray b with
  |[]=>K st
  |_=>False)
 |g+1,b,st,K=>(match Region.ready .any o.toArray b with
  |[]=>K st
  |i::r=>(match fq P o (i::r)with
   |some q=>cn (iY o q) λa=>bif IM o b q&&(i::r).contains q then
    ZR st o a (λst=>qP P o m s S b q a st λst=>MJ P o m s S g (b.setIfInBounds q aE) st K) (λst=>MJ P o m s S g (b.setIfInBounds q aE) (st.put a.dst .un) K)else False
   |none=>(match r with
    |[]=>cn (iY o i) λa=>bif mo P a.op then False else
     ZR st o a (λst=>loud P (XB m s S a.op) (YB m s S) st a λst=>MJ P o m s S g (b.setIfInBounds i aE) st K) (λst=>MJ P o m s S g (b.setIfInBounds i aE) (st.put a.dst .un) K)
    |[j]=>cn (iY o i) λa=>cn (iY o j) λc=>bif mo P a.op||mo P c.op then False else
     ZR st o a (λst=>loud P (XB m s S a.op) (YB m s S) st a λst=>MJ P o m s S g (b.setIfInBounds i aE) st K) (λst=>MJ P o m s S g (b.setIfInBounds i aE) (st.put a.dst .un) K)/\
     ZR st o c (λst=>loud P (XB m s S c.op) (YB m s S) st c λst=>MJ P o m s S g (b.setIfInBounds j aE) st K) (λst=>MJ P o m s S g (b.setIfInBounds j aE) (st.put c.dst .un) K)
    |_=>False)))
def H9(P:Program)(o:J Oper):Nat->J Oper->C
 |_,[]=>aL
 |i,a::r=>(bif XG P a.op then(vV P 0 o).any λj=>!(Dq o i).elem j&&!(Dq o j).elem i
  else aL)||H9 P o (i+1) r
def V5(P:Program)(o:J Oper):Nat->J Oper->C
 |_,[]=>aL
 |i,a::r=>(bif XG P a.op then(vV P 0 o).any λj=>!(Dq o i).elem j&&!(Dq o j).elem i&&(match iY o j with
   |some b=>Hs b.op
   |none=>aL)
  else aL)||V5 P o (i+1) r
section
variable{P:Program}{ops:J Oper}{mb ms:C}{S:Nat->Prop}{β:Nat->Nat}{a:Act}{w:av}
theorem FA{st}{o}{yes no}(h:ZR st ops o yes no)(c:Rep β st a w):
  ∃s,Ext st s/\Rep β s a w/\((Region.wanted o (yielded ops.toArray a.tmps)=aE/\yes s)∨(Region.wanted o (yielded ops.toArray a.tmps)=aL/\no s)):=by
 unfold ZR at h;split at h
 .rename_i g;exact⟨st,Wp _,c,.inl ⟨wn g,h⟩⟩
 rename_i j w g;split at h
 .rename_i d t;exact⟨st,Wp _,c,.inr ⟨Ck c g t,h⟩⟩
 .rename_i d b t;let a:=uD c g t (b:=b) I;rcases rW h with⟨e,h⟩|⟨e,h⟩
  .exact⟨st,Wp _,c,R⟩
  exact⟨st,Wp _,c,R⟩
 .rename_i d t e;let⟨o,Y,f,a⟩:=Fg e;have:=uD c g e (b:=t) I;cases t
  .refine⟨_,WV _ _<|.bl aL,c.set a I,?_⟩
   grind
  refine⟨_,WV _ _<|.bl aE,c.set a I,?_⟩
  grind
 exact h.elim
def Qn{st:St}{d}{t}{x}{l}{ad}{w'}(u:P.underlying t=aM d)(h:sz P t (WS l)=aE)(v:pL d=aE∨Nat.beq (WS l) 1=aE)
  (V:a.eval x=.pointer (aM ad)) (C:Cells w' ad (cO β l)) dst t' p af g:
  (execOp a.eval ⟨dst,.load t x,t',p,af,g⟩).run P w'=.ok (.value<|val β<|VQ (pL d) l) w':=by
 rcases v with w|v
 .rw[tK w];have:=nQ (P:=P) u w';rw[w]at this;exact yy this (ue h w') (gP β l) V C
 cases w:pL d
 .obtain⟨s,rfl⟩:=Ff v;have:=nQ (P:=P) u w';rw[w]at this;exact Jk this V<|H8 C
 have e:=tK w β l;rw[w]at e;rw[e];have:=nQ (P:=P) u w';rw[w]at this;exact yy this (ue h w') (gP β l) V C
theorem zZ:∀{l:J Oper} {i j:Nat} {o:Oper},iY l j=aM o->mo P o.op=aL->i+j∈vV P i l
 |[],_,_,_,h,_=>VI
 |c::r,i,0,o,h,p=>by
  simp[iY]at h;subst h;simp[vV,p]
 |c::r,i,j+1,o,h,p=>by
  have:=zZ (l:=r) (i:=i+1) (j:=j) h p;rw[show i+1+j=i+(j+1) by omega]at this;simp[vV]
  grind
theorem A3{D N}:∀{l:J Nat} {j:Nat},j∈l->j∉D->j∉N->j∈VY D N l
 |c::r,j,h,a,b=>by
  simp only[VY];rcases ba.1 h with rfl|h
  .grind
  cases(D.elem c||N.elem c)with
  |true=>exact A3 h a b
  |false=>exact HT _<|A3 h a b
def zO:∀{l:J Nat} {j:Nat} {o:Oper},Sw ops l=aE->j∈l->iY ops j=aM o->Hs o.op=aL
 |[],j,o,_,h,_=>by cases h
 |c::r,j,o,a,h,b=>by
  simp[Sw]at a;rcases ba.1 h with d|h
  .simp_all
  exact zO a.2 h b
def c7(P:Program)(o:J Oper)(m s:C)(S:Nat->Prop)(D N:J Nat)(F:av->Prop):=∀j w a,j∉D->j∉N->F w->EE P o m s S j w a->F a
def PG{bF}{q}{o}{st}{K}(h:qP P ops mb ms S bF q o st K)(R:Rep β st a w):
  ∃(v:aw) (j:St) (F:av->Prop),K j/\Ext st j/\Rep β j (a.put o.dst v) w/\F w/\c7 P ops mb ms S (Dq ops q) (Me bF 0 ops) F/\mo P o.op=aE/\∀f,F f->(execOp a.eval o).run P f=.ok (.value v) f:=by
 rcases rW h with⟨i,h⟩|⟨_,h⟩
 case inr=>exact h.elim
 rcases rW h with⟨_,h⟩|⟨_,h⟩
 .obtain⟨t,op,b,p,a,g⟩:=o;cases op with
  |convert s d x=>
   dsimp only at h;let⟨g,e,c⟩:=bD h;unfold cvZ at c;split at c
   .rename_i s kd h d;let⟨⟨k,n⟩,D,c⟩:=bD c;exact⟨_,_,λ_=>True,c,WV ..,R.put _ _,trivial,λ_ _ _ _ _ _ _=>trivial,i,λf _=>HX (run_underlying h f) (run_underlying d f)<|(R.ev e).trans<|dN D β⟩
   .rename_i h d;let⟨u,D,c⟩:=bD c;exact⟨_,_,λ_=>True,c,WV ..,R.put _ _,trivial,λ_ _ _ _ _ _ _=>trivial,i,λf _=>yn (run_underlying h f) (run_underlying d f)<|(R.ev e).trans<|jU D β⟩
   exact c.elim
  |_=>exact h.elim
 rcases rW h with⟨m,h⟩|⟨m,h⟩
 .obtain⟨r,k,b,Q,_⟩:=Cs h R;let⟨v,d,y⟩:=Qf k;have y:=y trivial β a w Q;let⟨s,op,t,p,n,g⟩:=o;cases c:mem op
  .exact⟨val β v,_,λ_=>True,d,b.trans<|WV _ _ _,Q.put _ v,trivial,λ_ _ _ _ _ _ _=>trivial,i,λf _=>y _ _ _ _ _ f λe=>by rw[c]at e;cases e⟩
  have a:=by simpa[c]using m
  refine⟨val β v,_,λf=>f.heap=w.heap,d,b.trans<|WV _ _ _,Q.put _ v,I,λo p u D N g h=>?_,i,λf g=>y _ _ _ _ _ f λ_=>g⟩;unfold EE at h;split at h
  .rename_i w v;rcases rW h with⟨_,e⟩|⟨e,_⟩
   .exact e.trans g
   have:=A3 (by have:=zZ (i:=0) v e;rwa[bS]at this) D N;unfold UR at a;revert a this;generalize VY (Dq ops q) (Me bF 0 ops) (vV P 0 ops)=x;intro a this;cases x with
   |nil=>cases this
   |cons=>cases a
  exact h.elim
 let⟨n,h⟩:=eh h;simp only[aO]at n;let⟨u,op,z,p,y,g⟩:=o;have r:∀F:av->Prop,∀k:Nat,S k->(∀w a:av,F w->a.heap[k]? =w.heap[k]? ->F a)->(∀w,F w->k<w.heap.size)->c7 P ops mb ms S (Dq ops q) (Me bF 0 ops) F:=by
  intro F k hk X c d w a D N b h;unfold EE at h;split at h
  .rename_i o g;rcases rW h with⟨_,e⟩|⟨e,h⟩
   .exact X w a b (by rw[e])
   have:=A3 (by have:=zZ (i:=0) g e;rwa[bS]at this) D N;have s:(ms||!Hs o.op)=aE:=by
    rcases cj _ _▸n.2 with e|e
    .rw[e];rfl
    rw[zO e this g,Bool.not_false,Bool.or_true]
   rw[n.1,s]at h;exact X w a b<|h k hk<|c _ b
  exact h.elim
 cases op with
 |load t x=>
  dsimp only at h;let⟨s,c,o,Q,_⟩:=Cs h R;let⟨q,p,c⟩:=bD c;unfold ldB at c;split at c
  .exact c.elim
  rename_i d x;split at c
  .rename_i l off;let⟨b,W,c⟩:=bD c;let⟨v,S,K⟩:=eh c;simp only[aO,cj]at v;let⟨⟨⟨A,Y⟩,g⟩,C⟩:=v;have h:=Q.bx l b W A;have B:=h.blk;have d:b.blk.getD 0=β l:=by
    rcases hk:b.blk with _|k
    .rw[hk]at Y;cases Y
    rw[h.at_ k hk];rfl
   rw[d]at S;refine⟨_,_,λf=>Blk f _ b.ty _,K,o.trans<|WV _ _ _,Q.put _ _,B,r _ _ S (λw a D e=>by unfold Blk at D⊢;rw[e];exact D)<|λw D=>D.lt,i,λf D=>?_⟩;generalize G:(b.cells.drop off).take (rj P t)=H at*
   have E:Cells f ⟨β l,off,VM⟩ (cO β H):=D.Lp off _ (by
    rw[gP,<-G];simp only[cO,mg,B6];rw[dj,List.take_eq_take_iff];simp only[cT,bP];omega)
   exact Qn (st:=st) x g C (Q.ev p) E ..
  .rename_i ad;let⟨A,S,D⟩:=eh c;simp only[aO,cj,dS]at A;let⟨⟨E,d⟩,k⟩:=A;let⟨t,⟨b,K⟩,C,G⟩:=xu D;rw[<-Q.still E]at b;have B:∀f,Cells f ad _->Cells f ad (cO β t):=λf h=>by
    rw[jr (β:=β) (β':=β0) (g:=λ_=>aL) (λl h=>VI) t (G _)];exact h
   rw[<-C]at d k;by_cases L:cO β0 t=[]
   .exact⟨_,_,λ_=>True,K,o.trans<|WV _ _ _,Q.put _ _,trivial,λ_ _ _ _ _ _ _=>trivial,i,λf _=>Qn (st:=st) x d k (Q.ev p) (B f<|by rw[L];intro e v h;simp at h) ..⟩
   exact⟨_,_,λf=>Cells f ad _,K,o.trans<|WV _ _ _,Q.put _ _,b,r _ ad.block S (λw a b e=>b.keep e)<|λw b=>b.lt' L,i,λf b=>Qn (st:=st) x d k (Q.ev p) (B f b) ..⟩
  exact c.elim
 |convert s d x=>
  dsimp only at h;let⟨o,b,g,Q,_⟩:=Cs h R;let⟨p,k,b⟩:=bD b;unfold cvB at b;split at b
  .rename_i e h d;split at b
   .rename_i s;let⟨t,D,b⟩:=bD b;cases q:o.mv
    .rw[q]at b;let⟨x,S,A,K⟩:=b;rw[<-(Q.still q)]at A;refine⟨_,_,λf=>wE f t x,K,g.trans<|WV _ _ _,Q.put _ _,A,?_,i,λf B=>mkB h s d ((Q.ev k).trans<|mN D β) B⟩;by_cases v:x=[]
     .subst v;exact λe w a _ _ X _=>⟨X.1,λc=>absurd I c⟩
     let⟨ad,C,_⟩:=A.2 v;refine r _ ad.block (S ad C) (λw a X e=>⟨X.1,λE=>?_⟩)<|λw X=>?_
     .obtain⟨T,P,c⟩:=X.2 E;rw[C]at P;injection P with P;subst P;exact⟨ad,C,c.keep e⟩
     let⟨T,P,e⟩:=X.2 v;rw[C]at P;injection P with P;subst P;exact e.lt' (by cases x with
      |nil=>exact absurd I v
      |cons c x=>simp)
    rw[q]at b;exact b.elim
   exact b.elim
  exact b.elim
 |_=>exact h.elim
def vW{j}{o}(h:iY ops j=aM o) w:EE P ops mb ms S j w w:=by
 unfold EE;rw[h];dsimp only;cases mo P o.op
 .cases(mb&&_)with
  |true=>exact zR _ _
  |false=>exact trivial
 rfl
def Vf{Q}{j}{o}{st}{K}(g:iY ops j=aM o)(i:mo P o.op=aL)(e:loud P (XB mb ms S o.op) (YB mb ms S) st o K)(R:Rep β st a w):o.wp P a w (V1 (EE P ops mb ms S j) st K w) Q:=by
 let h:EE P ops mb ms S j=λw f=>bif mb&&(ms||!Hs o.op)then bH S w f else True:=by
  unfold EE;simp_all
 refine JL (λl c p x=>?_) (λw c b=>?_) (λs d k w c p y hk b=>?_) e R
 .rw[h];unfold XB at x
  grind
 .rw[h];cases(mb&&_)with
  |true=>exact ZX b
  |false=>exact trivial
 rw[h,s,Bool.not_true,Bool.or_false];unfold YB at y;cases a:(mb&&ms)with
 |true=>
  rw[a]at y;rcases d with _|j
  .exact y.elim
  refine⟨y.2,λq k J=>b.block q J ?_⟩;have:=hk j I;subst this;simp;rintro rfl;exact y.1 k
 |false=>simp_all
def Aa{Q}(h:∀c a w,¬Q (.panic c) a w):∀{g:Nat} {F:Array C} {st:St} {K:St->Prop} {β:Nat->Nat} {a:Act} {w:av},MJ P ops mb ms S g F st K->Rep β st a w->
  (∀e l d b,K l->Ext st l->Rep e l d b->Q .normal d b)->gJ P .any ops.toArray Q (EE P ops mb ms S) g F a w
 |0,F,st,K,β,a,w,c,g,f=>by
  unfold MJ at c;split at c
  .rename_i r;exact⟨r,f β st a w c (Wp _) g⟩
  exact c.elim
 |g+1,F,st,K,β,a,w,c,i,f=>by
  let L:∀{j:Nat} {o:Oper},iY ops j=aM o->mo P o.op=aL->
    ZR st ops o (λst=>loud P (XB mb ms S o.op) (YB mb ms S) st o λst=>MJ P ops mb ms S g (F.setIfInBounds j aE) st K) (λst=>MJ P ops mb ms S g (F.setIfInBounds j aE) (st.put o.dst .un) K)->
    if Region.wanted o (yielded ops.toArray a.tmps)then o.wp P a w (λd b=>EE P ops mb ms S j w b/\gJ P .any ops.toArray Q (EE P ops mb ms S) g (F.setIfInBounds j aE) d b) Q∨(o.asks P a w/\LetsOut Q)
    else(λd b=>EE P ops mb ms S j w b/\gJ P .any ops.toArray Q (EE P ops mb ms S) g (F.setIfInBounds j aE) d b) (a.put o.dst undef) w:=by
   intro j o p r c;let⟨s,n,q,k⟩:=FA c i;rcases k with⟨m,k⟩|⟨m,k⟩
   .rw[E m];refine .inl<|Oper.wp_mono ?_<|Vf p r k q;rintro d b ⟨e,l,s,t,k3,u⟩;exact⟨k3,Aa h s u λa B7 g y v w x=>f a B7 g y v ((n.trans t).trans w) x⟩
   rw[aP (by simp[m])];exact⟨vW p w,Aa h k (q.put o.dst .un) λa B7 g v s t u=>f a B7 g v s ((n.trans<|WV _ _ _).trans t) u⟩
  unfold MJ at c;split at c
  .rename_i r;exact ako r (f β st a w c (Wp _) i)
  rename_i g r a;split at c
  .rename_i q B;let⟨o,m,c⟩:=bD c;let⟨z,c⟩:=eh c;simp only[aO,IM]at z;let⟨⟨⟨⟨⟨n,p⟩,r⟩,t⟩,u⟩,x⟩:=z;let⟨s,y,Q,k⟩:=FA c i;rcases k with⟨w,k⟩|⟨w,k⟩
   .obtain⟨v,s2,G,M,N,k3,T,V,k6,W⟩:=PG k Q;let J:∀s,G s->EE P ops mb ms S q s s:=λs _=>vW m s;exact P8 q _ _ v G m n p (by rw[a];exact x) r t u A V J T (Pb w W) I
     (Aa h M k3 λD B7 H w2 X Y Z=>f D B7 H w2 X ((y.trans N).trans Y) Z)
   exact P8 q _ _ undef _ m n p (by rw[a];exact x) r t u A (λ_ _ _ _ _ _ _=>trivial) (λs _=>vW m s) trivial (S6 w) I
    (Aa h k (Q.put o.dst .un) λq B7 v J D G H=>f q B7 v J D ((y.trans<|WV _ _ _).trans G) H)
  split at c
  .obtain⟨o,k,c⟩:=bD c;rcases rW c with⟨_,c⟩|⟨p,c⟩
   .exact c.elim
   let⟨s,q,Q,m⟩:=FA c i;rcases m with⟨n,m⟩|⟨n,m⟩
   .refine ap4 g k a n (Oper.wp_mono ?_<|Vf k p m Q);rintro d b ⟨e,l,t,u,k3,v⟩;exact⟨k3,Aa h t v λr B7 s z w x y=>f r B7 s z w ((q.trans u).trans x) y⟩
   exact ae9 g k a n (vW k w) I R
  .rename_i j _;let⟨o,k,c⟩:=bD c;let⟨m,Y,c⟩:=bD c;rcases rW c with⟨_,c⟩|⟨p,c⟩
   .exact c.elim
   simp at p;exact ap5 g j k Y a (L k p.1 c.1)<|L Y p.2 c.2
  exact c.elim
end
def kl(s w a:av):Prop:=w.heap.size<=a.heap.size/\∀k,s.heap.size<=k->k<w.heap.size->a.heap[k]? =w.heap[k]?
def Dt(mk:J (Nat×Nat))(b:Nat):=∀p∈mk,b<p.1∨p.2<=b
def kl.only{bs}{ws w w'}(h:Only bs w w')(d:∀b∈bs,b<ws.heap.size∨w.heap.size<=b):kl ws w w':=
 ⟨h.size,λk c a=>h.block k a λhk=>R⟩
def kl.BX{ws w w'}(h:Only [] w w'):kl ws w w':=kl.only h N
def VV:=@kl.BX
def Dt.one{m n b}{r}(h:Dt ((m,n)::r) b):b<m∨n<=b:=h _ iB
structure LZ where
 z:Nat
 d:Nat
 t:TypeId
 zs:List SV
def Ab(P:Program)(z:Nat)(o:Oper):Option LZ:=match o.op,o.dst,o.guard with
 |.alloc t,aM d,VM=>(match zc P t with
  |some s=>bif NZ o.after.toList&&jT (λ_=>aL) s then aM ⟨z,d,t,s⟩else VM
  |none=>VM)
 |_,_,_=>VM
def og(P:Program):Nat->J Oper->J LZ
 |_,[]=>[]
 |i,o::r=>match Ab P i o with
  |some p=>p::og P (i+1) r
  |none=>og P (i+1) r
def rC:J LZ->J Nat
 |[]=>[]
 |p::r=>p.z::rC r
def Nr:J LZ->J Nat
 |[]=>[]
 |p::r=>p.d::Nr r
def MN(z d:Nat):Nat->J Oper->C
 |_,[]=>aE
 |i,o::r=>(Nat.beq i z||(match o.dst with
  |some e=>!Nat.beq e d
  |none=>aE))&&MN z d (i+1) r
def Jo(o:J Oper):J LZ->C
 |[]=>aE
 |p::r=>MN p.z p.d 0 o&&Jo o r
def rb4{α}:∀{l:J α},NZ l=aE->l=[]
 |[],_=>rfl
def pQ{P}{z}{o}{p}(h:Ab P z o=aM p):p.z=z/\o.op=.alloc p.t/\o.dst=aM p.d/\o.guard=VM/\o.after.toList=[]/\zc P p.t=aM p.zs/\jT (λ_=>aL) p.zs=aE:=by
 unfold Ab at h;split at h
 .rename_i t d a b c;split at h
  .rename_i s z;obtain⟨d,rfl⟩:=Jy h;simp at d;exact⟨I,a,b,c,rb4 d.1,z,d.2⟩
  cases h
 cases h
def rD{Z}{z}:z∈rC Z↔∃p∈Z,p.z=z:=by
 induction Z with
 |nil=>simp[rC]
 |cons p r i=>simp[rC,i,eq_comm (a:=z)]
def FB{P}:∀{l:J Oper} {i:Nat} {p:LZ},p∈og P i l->∃j o,p.z=i+j/\iY l j=aM o/\Ab P p.z o=aM p
 |[],i,p,h=>VI
 |o::r,i,p,h=>by
  let t:p∈og P (i+1) r->∃j a,p.z=i+j/\iY (o::r) j=aM a/\Ab P p.z a=aM p:=λh=>by
   let⟨j,a,d,b,c⟩:=FB h;exact⟨j+1,a,X,b,c⟩
  unfold og at h;split at h
  .rename_i q b;rcases ba.1 h with rfl|h
   .have:=(pQ b).1;exact⟨0,o,this,I,by rw[this];exact b⟩
   exact t h
  exact t h
def FC{P}:∀{l:J Oper} {i:Nat},(rC<|og P i l).Nodup
 |[],i=>by simp[og,rC]
 |o::r,i=>by
  unfold og;split
  .rename_i q a;have:=(pQ a).1;simp[rC];refine⟨λm=>?_,FC⟩;let⟨p,h,b⟩:=rD.1 m;obtain _:=FB h;omega
  exact FC
def ah5{z d}:∀{l:J Oper} {i j:Nat} {o:Oper},MN z d i l=aE->iY l j=aM o->i+j≠z->o.dst≠aM d:=by
 intro l
 induction l with
 |nil=>intro i j o _ h;cases h
 |cons c r b=>
  intro i j o h a z;simp only[MN,aO,cj]at h;cases j with
  |zero=>
   simp[iY]at a;intro e;simp_all
  |succ j=>exact b (i:=i+1) (j:=j) h.2 a X
def Zn{ops}:∀{Z:J LZ},Jo ops Z=aE->∀p∈Z,MN p.z p.d 0 ops=aE
 |q::r,h,p,a=>by
  simp[Jo]at h;rcases ba.1 a with rfl|a
  .exact h.1
  exact Zn h.2 p a
def fZ(l:Array C):J Nat->Array C
 |[]=>l
 |z::r=>fZ (l.setIfInBounds z aE) r
def A0(l:Array C) i j:(l.setIfInBounds i aE).setIfInBounds j aE=(l.setIfInBounds j aE).setIfInBounds i aE:=by
 grind
def rY:∀{D:J Nat} {l:Array C} {z:Nat},fZ (l.setIfInBounds z aE) D=(fZ l D).setIfInBounds z aE
 |[],_,_=>rfl
 |d::r,l,z=>by simp[fZ,A0,rY]
def ajV{D E}(h:D.Perm E):∀l,fZ l D=fZ l E:=by
 induction h with
 |nil=>intro l;rfl
 |cons x _ i=>intro l;exact i _
 |swap x y r=>intro l;simp[fZ];rw[A0]
 |trans _ _ a b=>simp_all
def uH:∀{D:J Nat} {l:Array C} {k:Nat},(fZ l D).getD k aL=aE↔l.getD k aL=aE∨(k∈D/\k<l.size)
 |[],l,k=>by simp[fZ]
 |d::r,l,k=>by
  simp only[fZ];rw[uH];by_cases h:d=k
  .subst h;by_cases s:d<l.size
   .simp[s]
   simp[s]
  simp[cx h,Ne.symm h]
def rZ:∀{D:J Nat} {l:Array C} {k:Nat},(fZ l D).getD k aE=aE↔l.getD k aE=aE∨k∈D
 |[],l,k=>by simp[fZ]
 |d::r,l,k=>by
  simp only[fZ];rw[rZ];by_cases h:d=k
  .simp_all
  simp[cx h,Ne.symm h]
def Ht(Z:J Nat):J Nat->J Nat
 |[]=>[]
 |j::r=>bif Z.elem j then Ht Z r else j::Ht Z r
def uI{Zi}:∀{l:J Nat} {j:Nat},j∈Ht Zi l↔j∈l/\j∉Zi
 |[],j=>by simp[Ht]
 |c::r,j=>by
  simp only[Ht];cases h:Zi.elem c
  .simp[uI]
   grind
  simp only[cond_true,uI,ba]
  grind
def Sy(Z R:J Nat):J Nat->C
 |[]=>aE
 |j::r=>(R.elem j&&!Z.elem j)&&Sy Z R r
def Xp{Zi R}:∀{l:J Nat},Sy Zi R l=aE->∀j∈l,j∈R/\j∉Zi
 |c::r,a,j,h=>by
  simp[Sy]at a;rcases ba.1 h with rfl|h
  .grind
  exact Xp a.2 j h
def A4(l:Array C):J Nat->C
 |[]=>aE
 |z::r=>!l.getD z aE&&A4 l r
def r9{l}:∀{Z:J Nat},A4 l Z=aE->∀z∈Z,l.getD z aE=aL
 |c::r,h,z,a=>by
  simp only[A4,aO,dS]at h;rcases ba.1 a with rfl|a
  .exact h.1
  exact r9 h.2 z a
def UQ(o:J Oper)(Z:J Nat)(l:Array C):C:=Sy Z (Region.ready .any o.toArray l)<|Region.ready .any o.toArray<|fZ l Z
def Sz(z:Nat):J Nat->C
 |[]=>aE
 |j::r=>Nat.beq j z&&Sz z r
def MR{z}:∀{l:J Nat},Sz z l=aE->∀j∈l,j=z
 |c::r,a,j,h=>by
  simp only[Sz,aO]at a;rcases ba.1 h with rfl|h
  .simp_all
  exact MR a.2 j h
def IB(o:J Oper)(l:Array C)(Z:J Nat):J Nat->C
 |[]=>aE
 |z::r=>Sz z (Region.ready .any o.toArray<|fZ l<|Z.erase z)&&IB o l Z r
def SA{ops}{l}{Zi}:∀{r:J Nat},IB ops l Zi r=aE->∀z∈r,∀j∈Region.ready .any ops.toArray (fZ l<|Zi.erase z),j=z
 |c::r,h,z,a=>by
  simp[IB]at h;rcases ba.1 a with rfl|a
  .exact MR h.1
  exact SA h.2 z a
section
variable{md:Region.Mode}{ops:Array Oper}
def Ct{l}{D E}(s:∀x∈D,x∈E){j}(h:j∈Region.ready md ops (fZ l D))(d:j∉E):j∈Region.ready md ops (fZ l E):=by
 rw[mem_ready]at h⊢;let⟨a,f,o,i⟩:=h;refine⟨?_,f,o,λe c b=>?_⟩
 .rw[iM]at a⊢;intro e;rcases rZ.1 e with e|e
  .exact a (rZ.2<|.inl e)
  exact d e
 rcases uH.1 (i e c b)with g|g
 .exact uH.2 (.inl g)
 exact uH.2 R
def Vfn{l}(a:vL md ops l){D}(b:∀z∈D,∀o,ops[z]? =aM o->o.after.toList=[]):vL md ops (fZ l D):=by
 intro k o hk f e d c;rcases uH.1 f with h|h
 .exact uH.2 (.inl<|a k o hk h e d c)
 have:=b k h.1 o hk;simp_all
end
def akP{P}{o:Oper}{a}{w}{K}{Q}(h:o.wp P a w K Q):
  o.wp P a w (λc b=>K c b/\∀i,o.dst≠aM i->c.tmps[i]? =a.tmps[i]?) Q:=by
 unfold Oper.wp at*
 generalize (execOp a.eval o).run P w=r at*
 cases r with
 |ok n b=>
  cases n
  case value v=>exact⟨h,(nA ..).2.2⟩
  case skip=>exact⟨h,(nA ..).2.2⟩
  case defer d=>exact⟨h,(nA ..).2.2⟩
  case enter f args=>
   refine Calls.mono h<|λe w a=>?_;cases e with
   |returned v=>exact⟨a,(nA ..).2.2⟩
   |_=>exact a
  case row n args=>exact Rows.mono h (λv w a=>⟨a,(nA ..).2.2⟩)
  all_goals exact h
 |halt x b=>cases x<;>simp[Oper.upon]at h⊢ <;>exact h
structure Late (Z:List LZ) (ws:av) (bz:Nat->Nat) (D:List Nat) (mk:List (Nat×Nat)) (a:Act) (w:av):Prop where
 at_:∀p∈Z,p.z∈D->a.tmps[p.d]? =aM (.pointer (aM ⟨bz p.z,0,VM⟩))/\Blk w (bz p.z) p.t (cO β0 p.zs)/\ws.heap.size<=bz p.z/\Dt mk (bz p.z)
 sub:∀z∈D,z∈rC Z
 ne:∀z∈D,∀z'∈D,z≠z'->bz z≠bz z'
 top:∀p∈mk,p.2<=w.heap.size
 le:ws.heap.size<=w.heap.size
section
variable{Z:J LZ}{ws:av}{bz:Nat->Nat}{D:J Nat}{mk:J (Nat×Nat)}{a a':Act}{w w1:av}
def Late.act(h:Late Z ws bz D mk a w)(c:∀p∈Z,a'.tmps[p.d]? =a.tmps[p.d]?):Late Z ws bz D mk a' w:=
 ⟨λp b hd=>by rw[c p b];exact h.at_ p b hd,h.sub,h.ne,h.top,h.le⟩
def Late.loud(h:Late Z ws bz D mk a w)(N:kl ws w w1)(c:∀p∈Z,a'.tmps[p.d]? =a.tmps[p.d]?):Late Z ws bz D ((w.heap.size,w1.heap.size)::mk) a' w1:=by
 refine⟨λp b hd=>?_,h.sub,h.ne,λp b=>?_,bC h.le N.1⟩
 .obtain⟨i,a,e,f⟩:=h.at_ p b hd;let g:=a.lt;refine⟨R,?_,e,λq d=>?_⟩
  .unfold Blk at a⊢;rw[N.2 _ e g];exact a
  rcases ba.1 d with rfl|d
  .omega
  exact f q d
 rcases ba.1 b with rfl|b
 .omega
 exact bC (h.top p b) N.1
theorem Late.alloc(c:Late Z ws bz D mk a w)(u:∀p∈Z,∀q∈Z,p.z=q.z->p=q)(hd:∀p∈Z,∀q∈Z,p.z≠q.z->p.d≠q.d){p}(g:p∈Z)(n:p.z∉D){b}(f:w.heap.size<=b)(O:Only [] w w1)(B:Blk w1 b p.t (cO β0 p.zs))(s:p.d<a.tmps.size):
  Late Z ws (λz=>if z=p.z then b else bz z) (p.z::D) mk (a.put (aM p.d)<|.pointer<|aM ⟨b,0,VM⟩) w1:=by
 refine⟨λq d i=>?_,λz h=>?_,λz h j L o=>?_,λq d=>bC (c.top q d) O.size,bC c.le O.size⟩
 .by_cases e:q.z=p.z
  .have:=u q d p g e;subst this;rw[E I];refine⟨by simp[Act.put,s],B,bC c.le f,λx a=>.inr<|bC (c.top x a) f⟩
  rw[Q e];let⟨b,k,l,m⟩:=c.at_ q d R;refine⟨?_,O.blk k N,l,m⟩;rw[(nA a _ _).2.2 q.d (by
   grind)]
  exact b
 .rcases ba.1 h with rfl|h
  .exact rD.2 ⟨p,g,I⟩
  exact c.sub z h
 have:∀z∈D,bz z<w.heap.size:=λz h=>by
  obtain⟨q,d,rfl⟩:=rD.1<|c.sub z h;exact(c.at_ q d h).2.1.lt
 rcases ba.1 h with rfl|h<;>rcases ba.1 L with rfl|L
 .omega
 .grind
 .grind
 rw[Q (λe=>n<|by rw[<-e];exact h),Q<|λe=>n<|by rw[<-e];exact L];exact c.ne _ h _ L o
end
def ajL:YT:=λ_ _=>False
def rb0(m s:C)(S:Nat->Prop)(b:av)(o:Op):XT:=λw a p=>kl b w a/\XB m s S o w a p
def SB(st:St):J LZ->C
 |[]=>aE
 |p::r=>(eZ st.fr p.d).isNone&&Nat.blt p.d st.n&&SB st r
def ra{st}:∀{Z:J LZ},SB st Z=aE->∀p∈Z,eZ st.fr p.d=VM/\p.d<st.n
 |q::r,a,p,h=>by
  simp only[SB,aO,Option.isNone_iff_eq_none]at a;rcases ba.1 h with rfl|h
  .simp_all
  exact ra a.2 p h
def St.C7(st:St):St:={st with mv:=aE}
def Oq:J C->J C->C
 |[],[]=>aE
 |a::r,b::s=>(a==b)&&Oq r s
 |_,_=>aL
def Zo:∀{l m:J C},Oq l m=aE->l=m
 |[],[],_=>rfl
 |a::r,b::s,h=>by
  simp[Oq]at h;rw[h.1,Zo h.2]
def lL(P:Program)(p:J Oper)(m a:C)(S:Nat->Prop)(w:av)(mk:J (Nat×Nat))(st:St)(o:Oper)(D:J (Nat×Nat)->St->Prop):Prop:=
 bif mo P o.op then False else ZR st p o (λst=>fY st λst=>loud P (rb0 m a S w o.op) ajL st o λs=>bif s.mv then False else D ((st.w0.heap.size,s.w0.heap.size)::mk) s.C7) (λst=>D mk<|St.C7<|st.put o.dst .un)
def IR(P:Program)(o:J Oper)(Z:J Nat)(b:Array C):J Nat->Option Nat
 |[]=>VM
 |i::r=>(match iY o i with
  |some a=>bif mo P a.op&&UQ o Z (b.setIfInBounds i aE)then aM i else IR P o Z b r
  |none=>IR P o Z b r)
def fqZ(P:Program)(o:J Oper)(Z:J Nat)(b:Array C)(l:J Nat):Option Nat:=
 match IR P o Z b l with
 |some q=>aM q
 |none=>fq P o l
def VZ(P:Program)(o:J Oper)(m s:C)(S:Nat->Prop)(w:av)(Z:J LZ)(D:Array C)(a:Nat)(K:J (Nat×Nat)->St->Prop):Nat->Array C->J (Nat×Nat)->St->Prop
 |0,_,_,_=>False
 |g+1,b,mk,st=>bif A4 b (rC Z)&&SB st Z then(match Ht (rC Z) (Region.ready .any o.toArray b)with
  |[]=>bif IB o b (rC Z) (rC Z)&&Oq b.toList D.toList&&Nat.beq (g+1) a&&Nat.ble (WS<|rC Z) (g+1)then K mk st else False
  |i::r=>bif UQ o (rC Z) b&&Nat.ble (WS<|rC Z) g then(match fqZ P o (rC Z) b (i::r)with
   |some q=>cn (iY o q) λc=>bif IM o b q&&(i::r).contains q then
    ZR st o c (λst=>qP P o m s S b q c st.C7 λst=>VZ P o m s S w Z D a K g (b.setIfInBounds q aE) mk st.C7) (λst=>VZ P o m s S w Z D a K g (b.setIfInBounds q aE) mk<|St.C7<|st.put c.dst .un)else False
   |none=>(match r with
    |[]=>cn (iY o i) λc=>lL P o m s S w mk st c λmk st=>VZ P o m s S w Z D a K g (b.setIfInBounds i aE) mk st
    |[j]=>cn (iY o i) λc=>cn (iY o j) λd=>
     lL P o m s S w mk st c (λmk st=>VZ P o m s S w Z D a K g (b.setIfInBounds i aE) mk st)/\
     lL P o m s S w mk st d (λmk st=>VZ P o m s S w Z D a K g (b.setIfInBounds j aE) mk st)
    |[j,k]=>cn (iY o i) λd=>cn (iY o j) λe=>cn (iY o k) λc=>
     lL P o m s S w mk st d (λmk st=>VZ P o m s S w Z D a K g (b.setIfInBounds i aE) mk st)/\
     lL P o m s S w mk st e (λmk st=>VZ P o m s S w Z D a K g (b.setIfInBounds j aE) mk st)/\
     lL P o m s S w mk st c (λmk st=>VZ P o m s S w Z D a K g (b.setIfInBounds k aE) mk st)
    |_=>False))else False)else False
section
variable{P:Program}{ops:J Oper}{mb ms:C}{S:Nat->Prop}{β:Nat->Nat}{a:Act}{w:av}{ws:av}{Z:J LZ}{Dg:Array C}{gm:Nat}
theorem Rep.late{st}(h:Rep β st a w)(m:st.mv=aE){d}{v}(hd:eZ st.fr d=VM){w1}(O:Only [] w w1):Rep β st (a.put (aM d) v) w1:=by
 obtain⟨f,g,j⟩:=nA a _ v;refine⟨vP ⟨f.trans h.ok.sz,g.trans h.ok.df,λi p l e=>?_⟩,λi b c o=>?_,h.ne,h.only.bG O,R⟩
 .rw[j i R];exact h.ok.at_ i p l e
 obtain⟨k,a,k3⟩:=h.bx i b c o;exact⟨O.blk k N,a,k3⟩
def Rep.C7{st}(R:Rep β st a w):Rep β st.C7 a w:=⟨R.fr,R.bx,R.ne,R.only,λh=>VI⟩
def Ext.C7 st:Ext st st.C7:=⟨I,bc _,λ_ _ _ h _=>h,λi b h o _=>⟨b,h,o,I,I,I,λ_ h=>h⟩,YR,LQ⟩
def WK:=@Ext.C7
theorem aqn{Q}{j}{o}{st}{mk}{D}(f:iY ops j=aM o)(h:lL P ops mb ms S ws mk st o D)(g:Rep β st a w):
  wpOp P ops.toArray Q j (λe b=>EE P ops mb ms S j w b/\(∀i,o.dst≠aM i->e.tmps[i]? =a.tmps[i]?)/\∃c d m,D m d/\Ext st d/\d.mv=aE/\Rep c d e b/\((m=mk/\b=w)∨(m=(w.heap.size,b.heap.size)::mk/\kl ws w b))) a w:=by
 rcases rW h with⟨_,h⟩|⟨l,h⟩
 .exact h.elim
 let X:ops.toArray[j]? =aM o:=by rw[lX]at f;simpa using f
 unfold wpOp;simp only[X];let⟨s,n,r,a⟩:=FA h g;rcases a with⟨q,a⟩|⟨q,a⟩
 .rw[aW q];left;let⟨F,z,y,t,B,_⟩:=fp a r;let s:EE P ops mb ms S j=λw b=>bif mb&&(ms||!Hs o.op)then bH S w b else True:=by
   unfold EE;simp_all
  have:=akP<|JL (E:=λw b=>EE P ops mb ms S j w b/\kl ws w b) (Q:=Q) (λG v p x=>?_) (λw v u=>?_) (λD C k w v p A hk u=>A.elim) z t
  .refine Oper.wp_mono ?_ this;rintro e b ⟨⟨c,d,k,o,k3,j⟩,p⟩;rcases rW k with⟨_,k⟩|⟨w,k⟩
   .exact k.elim
   refine⟨k3.1,p,c,d.C7,_,k,((n.trans y).trans o).trans<|WK _,I,j.C7,.inr ⟨?_,k3.2⟩⟩;rw[<-j.still w,<-t.still B]
  .rw[s];let⟨N,x⟩:=x;unfold XB at x
   grind
  rw[s];refine⟨?_,VV u⟩;cases(mb&&_)with
  |true=>exact ZX u
  |false=>exact trivial
 rw[aP R];exact⟨vW f w,(nA ..).2.2,β,_,mk,a,(n.trans<|WV _ _ _).trans<|WK _,I,(r.put o.dst .un).C7,R⟩
def niV{Q:Exit->Act->av->Prop}(G:∀c a w,¬Q (.panic c) a w)(t:∀p∈Z,∃o,iY ops p.z=aM o/\Ab P p.z o=aM p)(B:Jo ops Z=aE)(y:(rC Z).Nodup){s0:St}{K:J (Nat×Nat)->St->Prop}
  (M:∀mk st β a w f D m,K mk st->Ext s0 st->Rep β st a w->Late Z ws f D mk a w->D.Perm (rC Z)->m+WS D=gm->gJ P .any ops.toArray Q (EE P ops mb ms S) m (fZ Dg D) a w):
  ∀(m g:Nat) {F:Array C} {mk:J (Nat×Nat)} {st:St} {β:Nat->Nat} {a:Act} {w:av} {f:Nat->Nat} {D Pd:J Nat},VZ P ops mb ms S ws Z Dg gm K g F mk st->Ext s0 st->st.mv=aE->Rep β st a w->Late Z ws f D mk a w->(D++Pd).Perm (rC Z)->m+WS D=g->
   gJ P .any ops.toArray Q (EE P ops mb ms S) m (fZ F D) a w:=by
 intro m;let T:∀p∈Z,∀q∈Z,p.z=q.z->p=q:=R
 let n:∀p∈Z,∀j o,iY ops j=aM o->j≠p.z->o.dst≠aM p.d:=λp d j o h i=>ah5 (Zn B p d) h (by rw[bS];exact i);let L:∀p∈Z,∀q∈Z,p.z≠q.z->p.d≠q.d:=λp d q H i e=>by
  let⟨c,a,b⟩:=t q H;exact n p d q.z c a (Ne.symm i) (by rw[(pQ b).2.2.1,e])
 induction m using Nat.strongRecOn with
 |ind m u=>
 intro g F mk st β a w f D Pd V W hm hR Y d hg;cases g with
 |zero=>exact V.elim
 |succ g=>
 let h0:=V;unfold VZ at V;let⟨hc,V⟩:=eh V;simp only[aO]at hc;let⟨bv,cc⟩:=hc;let bv:=r9 bv;let aC:∀x∈D,x∈rC Z:=Y.sub;let am:∀x∈Pd,x∈rC Z:=λx hx=>d.subset<|List.mem_append_right _ hx;let fj:WS D+WS Pd=WS (rC Z):=by have:=d.length_eq;rwa[aU]at this
 let bY:(D++Pd).Nodup:=d.nodup_iff.2 y;let aT:∀x∈Pd,x∉D:=λx hx hd=>(List.nodup_append.1 bY).2.2 x hd x hx I;let aS:∀j∈Region.ready .any ops.toArray (fZ F D),j∈rC Z->j∈Pd:=λj h AF=>by
  let b:j∉D:=λhd=>by
   have:=(mem_ready.1 h).1;rw[rZ.2 (.inr hd)]at this;cases this
  rcases cZ.1 (d.mem_iff.2 AF)with a|a
  .exact absurd a b
  exact a
 let bV:∀j∈Region.ready .any ops.toArray F,j∉rC Z->j∈Region.ready .any ops.toArray (fZ F D):=λj h AF=>Ct (l:=F) (D:=[]) (E:=D) N h λk=>AF<|aC j k;let ce:∀z∈Pd,z∈Region.ready .any ops.toArray (fZ F D):=λz hz=>by
  obtain⟨p,a,rfl⟩:=rD.1<|am z hz;let⟨o,ho,b⟩:=t p a;refine mem_ready.2 ⟨?_,o,I0,λe W=>?_⟩
  .rw[iM];intro k;rcases rZ.1 k with k|k
   .rw[bv _ (am _ hz)]at k;cases k
   exact aT _ hz k
  rw[Array.mem_def,(pQ b).2.2.2.2.1]at W;cases W
 let ff:∀{m'},m=m'+1->∀j∈Pd,wpOp P ops.toArray Q j (λa' w'=>EE P ops mb ms S j w w'/\gJ P .any ops.toArray Q (EE P ops mb ms S) m' ((fZ F D).setIfInBounds j aE) a' w') a w:=by
  intro m' em j h;obtain⟨p,a,rfl⟩:=rD.1<|am j h;let⟨o,ho,v⟩:=t p a;let⟨_,q,r,l,Z,l6,l7⟩:=pQ v;let⟨c,e⟩:=ra cc p a;let s:ops.toArray[p.z]? =aM o:=I0
  unfold wpOp;simp only[s];rw[aW (wn l)];left;let⟨x,op,t',pp,af,g0⟩:=o;dsimp only at q r l Z;subst q r l;let⟨z,z1,z2⟩:=Pv l6 w;refine lp0 z1 (z2 β0) (λ_=>I) λb w1 S k E=>⟨?_,?_⟩
  .unfold EE;rw[ho];dsimp only;rw[show mo P (.alloc p.t)=aL from rfl,cond_false];cases(mb&&(ms||!Hs (.alloc p.t)))with
   |true=>exact ZX k
   |false=>exact trivial
  rw[<-rY];exact u m' X (g+1) (D:=p.z::D) (Pd:=Pd.erase p.z) h0 W hm (hR.late hm c k) (Y.alloc T L a (aT _ h) S k E<|by rw[hR.ok.sz];exact e)
   ((List.perm_middle.symm.trans<|(List.perm_cons_erase h).symm.append_left D).trans d) (by rw[aY];omega)
 split at V
 .rename_i g;let⟨hc,V⟩:=eh V;simp only[aO]at hc;let⟨⟨⟨l,p⟩,q⟩,c⟩:=hc;let b:F=Dg:=XM.1<|Zo p;have r:=db q;let c:=fJ c;cases P:Pd with
  |nil=>
   rw[P,bq]at d;rw[b];exact M mk st β a w f D m V W hR Y d X
  |cons z s=>
   let a:z∈Pd:=by rw[P];exact iB
   let w:WS Pd=WS s+1:=by rw[P];rfl
   obtain⟨m',rfl⟩:∃m',m=m'+1:=⟨m-1,X⟩
   refine⟨λh0=>?_,λj h=>ff I j ?_⟩
   .have:=ce z a;rw[h0]at this;cases this
   by_cases AF:j∈rC Z
   .exact aS j h AF
   exfalso;let v:j∈Region.ready .any ops.toArray (fZ F<|(rC Z).erase z):=Ct (λx hx=>(List.mem_erase_of_ne<|λe=>aT z a<|by rw[<-e];exact hx).2<|aC x hx) h<|λk=>AF<|List.mem_of_mem_erase k;have:=SA l z (am z a) j v;exact AF (this▸am z a)
 rename_i cC r b;let⟨c0,V⟩:=eh V;simp only[aO,UQ]at c0;let dO:=Xp c0.1;have c0:=fJ c0.2;let x:∀j∈Region.ready .any ops.toArray (fZ F D),j∉rC Z->j∈Region.ready .any ops.toArray F:=λj h AF=>(dO j<|Ct aC h AF).1;obtain⟨m',rfl⟩:∃m',m=m'+1:=⟨m-1,X⟩
 have l:∀j∈cC::r,j∈Region.ready .any ops.toArray F/\j∉rC Z:=λj h=>uI.1 (by rw[b];exact h);let i:Region.ready .any ops.toArray (fZ F D)=[]->False:=λh0=>by
  have:=bV cC (l cC iB).1 (l cC iB).2;rw[h0]at this;cases this
 let co:∀j o,iY ops j=aM o->j∉rC Z->∀p∈Z,o.dst≠aM p.d:=λj o h AF p d=>n p d j o h λe=>AF<|rD.2 ⟨p,d,e.symm⟩;let E:∀{j:Nat} {o:Oper},iY ops j=aM o->j∉rC Z->lL P ops mb ms S ws mk st o (λmk st=>VZ P ops mb ms S ws Z Dg gm K g (F.setIfInBounds j aE) mk st)->
   wpOp P ops.toArray Q j (λa' w'=>EE P ops mb ms S j w w'/\gJ P .any ops.toArray Q (EE P ops mb ms S) m' ((fZ F D).setIfInBounds j aE) a' w') a w:=by
  intro j o ho AF V;refine wpOp_mono (λa' w' e=>⟨e.1,?_⟩)<|aqn ho V hR;let⟨k0,s,el,dl,c,v,k3,z,k5,k⟩:=e;rw[<-rY];have q:∀p∈Z,a'.tmps[p.d]? =a.tmps[p.d]? :=λp d=>s _<|co j o ho AF p d;have r:Late Z ws f D c a' w':=by
   rcases k with⟨rfl,rfl⟩|⟨rfl,k⟩
   .exact Y.act q
   exact Y.loud k q
  exact u m' X g v (W.trans k3) z k5 r d X
 split at V
 .rename_i q H;let⟨o,ho,V⟩:=bD V;let⟨hc,V⟩:=eh V;simp only[aO,IM]at hc;let⟨⟨⟨⟨⟨c1,c2⟩,c3⟩,c4⟩,c5⟩,c6⟩:=hc;let⟨fd,P⟩:=l q (by simpa using c6);let gz:ops.toArray[q]? =aM o:=I0
  let qj:vL .any ops.toArray (fZ F D):=Vfn (jj c3) λz hz o gG=>by
   obtain⟨p,a,rfl⟩:=rD.1<|aC z hz;let⟨g,e,c⟩:=t p a;rw[lX]at e;have:g=o:=by
    simp_all
   rw[<-this];exact(pQ c).2.2.2.2.1
  let hN:∀k∈Me F 0 ops,(fZ F D).getD k aE=aE:=λk hk=>rZ.2 A;let eQ:=Region.free_spec gz c2;let bJ:∀j oj,ops.toArray[j]? =aM oj->j≠q->(fZ F D).getD j aE=aL->(∀e∈oj.after,Region.binds .any e=aE->e.on≠q)->o.apart ops.toArray oj=aE:=λj oj r h2 h3 h4=>eQ j oj r h2 (by
   rw[iM]at h3⊢;exact λk=>h3<|rZ.2<|.inl k) h4
  let S:=bV q fd P;let⟨s,e1,jQ,r⟩:=FA V hR;let qA:∀v,∀p∈Z,(a.put o.dst v).tmps[p.d]? =a.tmps[p.d]? :=λv p d=>(nA ..).2.2 _<|co q o ho P p d;rcases r with⟨hw,r⟩|⟨hw,r⟩
  .obtain⟨v,s2,gE,k,e,k3,p,q,Z,s⟩:=PG r jQ.C7;refine vN gz (Region.noSelect_spec c1) (λc a w d=>(G _ _ _ d).elim) c4 (Me F 0 ops) q (λz _=>vW ho z) m' (fZ F D) a w qj hN bJ S (Pb hw s) p ?_;rw[<-rY];exact u m' X g k (((W.trans e1).trans<|WK _).trans<|e.trans<|WK _) I k3.C7 (Y.act<|qA v) d X
  refine vN (v:=undef) (F:=λ_=>True) gz (Region.noSelect_spec c1) (λc a w d=>(G _ _ _ d).elim) c4 (Me F 0 ops) (λ_ _ _ _ _ _ _=>trivial) (λe _=>vW ho e) m' (fZ F D) a w qj hN bJ S (S6 hw) trivial ?_;rw[<-rY];exact u m' X g r ((W.trans e1).trans<|(WV ..).trans<|WK _) I (jQ.put o.dst .un).C7 (Y.act<|qA undef) d X
 split at V
 .obtain⟨o,ho,V⟩:=bD V;refine⟨λh0=>(i h0).elim,λj h=>?_⟩;by_cases AF:j∈rC Z
  .exact ff I j (aS j h AF)
  have:j∈Ht (rC Z) (Region.ready .any ops.toArray F):=uI.2 ⟨x j h AF,AF⟩;simp_all
 .rename_i a _;let⟨o,ho,V⟩:=bD V;let⟨c,e,V⟩:=bD V;refine⟨λh0=>(i h0).elim,λj h=>?_⟩;by_cases AF:j∈rC Z
  .exact ff I j (aS j h AF)
  have:j∈Ht (rC Z) (Region.ready .any ops.toArray F):=uI.2 ⟨x j h AF,AF⟩;rw[b]at this;rcases ba.1 this with rfl|this
  .exact E ho AF V.1
  have:=bh.1 this;subst this;exact E e AF V.2
 .rename_i k c _;let⟨o,ho,V⟩:=bD V;let⟨p,e,V⟩:=bD V;let⟨g,a,V⟩:=bD V;refine⟨λh0=>(i h0).elim,λj h=>?_⟩;by_cases AF:j∈rC Z
  .exact ff I j (aS j h AF)
  have:j∈Ht (rC Z) (Region.ready .any ops.toArray F):=uI.2 ⟨x j h AF,AF⟩;rw[b]at this;rcases ba.1 this with rfl|this
  .exact E ho AF V.1
  rcases ba.1 this with rfl|this
  .exact E e AF V.2.1
  have:=bh.1 this;subst this;exact E a AF V.2.2
 exact V.elim
end
def St.Ls(st:St)(d:Nat)(t:TypeId)(z:J SV)(b:Nat):St:=
 St.put {st with bx:=st.bx++[⟨aM b,t,z,st.ct,aE,aL,aL⟩],ct:=st.ct+1} (aM d) (.box (WS st.bx) 0)
def Ext.Ls st d t zs b:Ext st (st.Ls d t zs b):=by
 refine PX (t:={st with bx:=st.bx++[_],ct:=st.ct+1}) ⟨I,kB _,R,λi a h o s=>?_,λi b h=>?_,LQ⟩<|WV _ _ _
 .rw[nB]at h
  grind
 exact⟨b,by dsimp only;rw[nB,Q<|by have:=vR h;omega];exact h,I,I,λ_ c=>c⟩
section
variable{β:Nat->Nat}{st:St}{a:Act}{w:av}
def Rep.Ls(f:Rep β st a w){d}{t}{zs}{b}(o:VS (WS st.bx) st.fr=aE)(q:Qi (WS st.bx) st.bx=aE)(n:Fp st.bx st.dt=aE)(u:jT (λ_=>aL) zs=aE)
  (r:a.tmps[d]? =aM (.pointer (aM ⟨b,0,VM⟩))) (B:Blk w b t (cO β0 zs)) (v:∀i c,dq st.bx i=aM c->c.ok=aE->β i≠b):
  Rep (Hr β (WS st.bx) b) (st.Ls d t zs b) a w:=by
 have D:Hr β (WS st.bx) b (WS st.bx)=b:=by unfold Hr;rw[E I]
 have J:∀{i c},dq st.bx i=aM c->Hr β (WS st.bx) b i=β i:=fun{i c} h=>by
  unfold Hr;rw[Q];have:=vR h;omega
 have s:Rep (Hr β (WS st.bx) b) {st with bx:=st.bx++[⟨aM b,t,zs,st.ct,aE,aL,aL⟩],ct:=st.ct+1} a w:=by
  refine⟨vP ⟨f.ok.sz,f.ok.df,λi p l j=>?_⟩,λi c h w=>?_,λi a bi x d t y z Z=>?_,?_,f.still⟩
  .rw[f.ok.at_ i p l j];congr 1;exact kD (g:=λa=>!Nat.beq a (WS st.bx)) Fu _ (JG o i p l)
  .rw[nB]at h;split at h
   .rename_i e;simp at h;subst h;subst e;refine⟨?_,λk hk=>?_,R⟩
    .rw[D];rw[jr (g:=λ_=>aL) (β:=Hr β (WS st.bx) b) (β':=β0) R _ u];exact B
    simp_all
   have e:=J h;obtain⟨k,p,k3⟩:=f.bx i c h w;refine⟨?_,A,R⟩;rw[e,<-jr (g:=λa=>!Nat.beq a (WS st.bx)) (β:=β) (β':=Hr β (WS st.bx) b) Fu _ (JH q i c h w)];exact k
  .rw[nB]at d t;split at d
   .grind
   split at t
   .grind
   rw[J d,J t];exact f.ne i a bi x d t y z Z
  have e:=xb λi j=>by
   obtain⟨c,h,_⟩:=yB n i j;exact J h
  rw[e];exact f.only
 refine⟨vP ⟨s.ok.sz,s.ok.df,λi p l j=>?_⟩,s.bx,s.ne,s.only,s.still⟩;simp[St.Ls,St.put,eZ]at l;cases m:Nat.beq d i
 .rw[m]at l;exact s.ok.at_ i p P9 j
 rw[m]at l;simp at l;subst l;have:=db m;subst this;rw[r];show _=aM (Value.pointer _);rw[D]
end
def Mf(b:Nat):J Nat->Prop->Prop
 |[],p=>p
 |x::r,p=>x≠b->Mf b r p
def Zr{b}:∀{l:J Nat} {p:Prop},Mf b l p->(∀x∈l,x≠b)->p
 |[],_,h,_=>h
 |x::r,p,h,b=>Zr (h R) A
def Se(w:av)(mk:J (Nat×Nat)):J LZ->J Nat->St->(St->Prop)->Prop
 |[],_,st,K=>K st
 |p::r,s,st,K=>bif Jm st p.zs then ∀b,w.heap.size<=b->b<st.w0.heap.size->Dt mk b->Mf b s (Se w mk r (b::s) (st.Ls p.d p.t p.zs b) K)else False
def pv{ws}{mk}{bz:Nat->Nat}{a}{w}:∀{r:J LZ} {s:J Nat} {st:St} {K:St->Prop} {b:Nat->Nat},Se ws mk r s st K->Rep b st a w->st.mv=aL->
  (∀p∈r,a.tmps[p.d]? =aM (.pointer<|aM ⟨bz p.z,0,VM⟩)/\Blk w (bz p.z) p.t (cO β0 p.zs)/\ws.heap.size<=bz p.z/\Dt mk (bz p.z)/\jT (λ_=>aL) p.zs=aE/\(∀x∈s,x≠bz p.z)/\∀i c,dq st.bx i=aM c->c.ok=aE->b i≠bz p.z)->
  (rC r).Nodup->(∀p∈r,∀q∈r,p.z≠q.z->bz p.z≠bz q.z)->∃l d,K l/\Ext st l/\Rep d l a w
 |[],_,st,K,b,h,a,_,_,_,_=>⟨st,b,h,Wp _,a⟩
 |p::r,s,st,K,b,a,k,m,o,n,hd=>by
  let⟨h,a⟩:=eh a;simp[Jm,aO]at h;let⟨t,j,u,v,w,y,z⟩:=o p iB;let a:=Zr (a _ u (by rw[<-k.still m];exact j.lt) v) y;simp[rC,wZ]at n;let g:∀q∈r,p.z≠q.z:=λq f e=>n.1<|rD.2 R;have:∀{i c},dq st.bx i=aM c->Hr b (WS st.bx) (bz p.z) i=b i:=fun{i c} a=>by
   unfold Hr;rw[Q];have:=vR a;omega
  let⟨l,d,B,C,k3⟩:=pv a (k.Ls h.1.1.1 h.1.1.2 h.2 w t j z) m (λq f=>by
   let⟨r,E,F,G,H,I,L⟩:=o q<|HT _ f;have:=hd p iB q (HT _ f)<|g q f;refine⟨r,E,F,G,H,λx N=>?_,λi c h M=>?_⟩
   .grind
   simp[St.Ls,St.put]at h;rw[nB]at h;split at h
   .rename_i e;subst e;unfold Hr;simp_all
   simp_all) n.2 A
  exact⟨l,d,B,(Ext.Ls ..).trans C,k3⟩
def NN(P:Program)(o:J Oper)(m s:C)(S:Nat->Prop)(w:av)(Z:J LZ)(D:Array C)(g n:Nat)(mk:J (Nat×Nat))(st:St)(K:St->Prop):Prop:=
 bif Nat.beq (WS st.bx) n then fY st λst=>Se w mk Z [] st λst=>MJ P o m s S (g-(WS<|rC Z)) (fZ D<|rC Z) st K else False
def SE(P:Program)(o:J Oper)(j:C)(kp:J Nat)(i:J MI)(m a:C)(S:Nat->Prop)(Z:J LZ)(D:Array C)(g:Nat)(st:St)(K:St->Prop):Prop:=
 bif uF st.bx then
  (bif j then ∃b:J _->JT _,(∀mk,MG _ (b mk) λv w=>NN P o m a S st.w0 Z D g (WS st.bx) mk (pO st kp i v w) K)/\
   VZ P o m a S st.w0 Z D g (λmk s=>fY s λs=>VX st kp i (b mk) s) (WS o) (Array.replicate (WS o) aL) [] (St.C7<|st.tq<|Nr Z)
  else VZ P o m a S st.w0 Z D g (λmk s=>NN P o m a S st.w0 Z D g (WS st.bx) mk s K) (WS o) (Array.replicate (WS o) aL) [] (St.C7<|st.tq<|Nr Z))else False
def Zs(o:J Oper)(Z:J Nat):Nat->Array C->Array C
 |0,l=>l
 |f+1,l=>match Ht Z (Region.ready .any o.toArray l)with
  |[]=>l
  |i::_=>Zs o Z f<|l.setIfInBounds i aE
def Ul:J C->Nat
 |[]=>0
 |b::r=>bif b then Ul r else Ul r+1
def R1:∀{l:J nu} {i:Nat},i<(WS l)->∃b,dq l i=aM b
 |b::r,0,_=>⟨b,I⟩
 |b::r,i+1,h=>R1 (l:=r) YW
section
variable{P:Program}{ops:J Oper}{mb ms:C}{S:Nat->Prop}{β:Nat->Nat}{a:Act}{w:av}{Dg:Array C}{gm:Nat}{jn:C}{kp:J Nat}{mi:J MI}{st:St}{K:St->Prop}
def aer{Q}(x:∀c a w,¬Q (.panic c) a w)(t:Jo ops (og P 0 ops)=aE)(h:SE P ops jn kp mi mb ms S (og P 0 ops) Dg gm st K)(u:Rep β st a w)(F:st.mv=aL)
  (E:∀d g e f,K g->Ext st g->Rep d g e f->Q .normal e f):gJ P .any ops.toArray Q (EE P ops mb ms S) (WS ops) (Array.replicate (WS ops) aL) a w:=by
 have n:(rC<|og P 0 ops).Nodup:=FC;have y:∀p∈og P 0 ops,∃v,iY ops p.z=aM v/\Ab P p.z v=aM p:=λp j=>by
  let⟨k,v,a,b,c⟩:=FB j
  grind
 generalize og P 0 ops=Z at*
 let⟨A,h⟩:=eh h;rw[<-u.still F]at h;have C:∀mk g d e f z D m,NN P ops mb ms S w Z Dg gm (WS st.bx) mk g K->Ext st g->Rep d g e f->Late Z w z D mk e f->D.Perm (rC Z)->m+WS D=gm->gJ P .any ops.toArray Q (EE P ops mb ms S) m (fZ Dg D) e f:=by
  intro mk g d e f z D m h he K Q j hg;let⟨P,h⟩:=eh h;have P:=db P;let⟨s1,h1,e1,V,zr,_,_,_,am⟩:=fp h K;have T:=he.trans e1;have S:∀i c,dq s1.bx i=aM c->c.ok=aE->d i<w.heap.size:=λi c G H=>by
   let⟨b,p⟩:=R1 (l:=st.bx) (i:=i) (by have:=vR G;omega);let⟨c',s,W,k3,w⟩:=T.ps i b p;rw[G]at s;injection s with s;subst s;have q:b.ok=aE:=R
   let⟨k,hk⟩:=fl.1<|AY A i b p q;rw[(V.bx i c G H).at_ k (w k hk),<-(u.bx i b p q).at_ k hk];exact(u.bx i b p q).blk.lt
  have J:=λp a=>j.mem_iff.2<|rD.2 ⟨p,a,I⟩;let⟨s2,aC,s,W,k3⟩:=pv (bz:=z) h1 V zr (λp a=>by
   let⟨k,l,w,g4⟩:=Q.at_ p a<|J p a;let⟨v,_,H⟩:=y p a;exact⟨k,l,w,g4,(pQ H).2.2.2.2.2.2,N,λi c G H=>R⟩) n λp a q b=>Q.ne _ (J p a) _<|J q b
  have:=j.length_eq;rw[ajV j,show m=gm-(WS<|rC Z) by omega];exact Aa x s k3 λM s3 Y w3 m1 m2 m3=>E M s3 Y w3 m1 ((T.trans W).trans m2) m3
 have L:Late Z w (λ_=>0) [] [] a w:=⟨R,R,R,R,X⟩
 have o:=Rep.C7 (u.frame (fr':=Fj _ st.fr) λi p B=>by
  cases a:(Nr Z).elem i with
  |true=>rw[(nU (l:=st.fr)).1 a]at B;cases B
  |false=>rw[(nU (l:=st.fr)).2 a]at B;grind)
 have r:Ext st (St.C7<|st.tq<|Nr Z):=(Ext.tq _ _).trans<|WK _;rcases rW h with⟨_,h⟩|⟨_,h⟩
 .obtain⟨K,J,h⟩:=h;refine niV x y t n (s0:=st) (λmk s d e f z D m hk q a p j w=>?_) (WS ops) (WS ops) (D:=[]) (Pd:=rC Z) h r I o L (List.Perm.refl _) I;let⟨M,l,k,b,c,_⟩:=fp hk a;let⟨P,G,H⟩:=xz l b c (.inl<|q.trans k)<|J mk;exact C mk _ _ e f z D m G IT H p j w
 exact niV x y t n (s0:=st) P9 (WS ops) (WS ops) (D:=[]) (Pd:=rC Z) h r I o L (List.Perm.refl _) I
end
end Go.Kt.V
