import Derived.WalkKit
import Derived.Deep.Draws
import Derived.Deep.LoopGhost
import Derived.Deep.Quiet
import Derived.OrdersHeld
import Derived.Laws.Small
import Derived.Laws.AppendOwn
import Derived.Great.BuildSlice
import Derived.Laws.MakeOwn
import Derived.MapKept
import Derived.Lib.Strings
import Derived.KernelRfl
import Derived.ChangeKeysEq
import Derived.Laws.Tables
import Derived.Defers
import Derived.Test.YtfemabakfkliiaaGreatDoorRows
import Derived.Ground.Names2Prog
import Derived.Ground.SlgnProg
import Derived.Ground.SlgcProg
import Derived.Test.YtfemabakfkliiaaGreatDoorProg
import Derived.Lib.ParseIntB
import Derived.Lib.Bytealg
import Derived.Lib.ItoaLen
import Derived.Lib.AtoiErrMem
import Derived.Lib.Builder
import Derived.Lib.AppendStr
import Derived.Lib.UnsafeStr
import Derived.Lib.Join
import Derived.Lib.Repeat
import Derived.WideKeyElems
import Derived.Sort.KeysCollected
import Derived.ProofKit
import Derived.OpenShut
import Derived.SizedLaws
import Derived.Deep.Slices
import Derived.JoinedCond
import Derived.Deep.CondSized
import Derived.Lib.TrailingZeros
import Derived.Laws.BitsAllLaws
import Derived.Lib.LaidTab
import Derived.Laws.CopyRow
import Derived.Lib.SlicesCompact
import Derived.Laws.Bits128
set_option linter.constructorNameAsVariable false
set_option linter.defProp false
set_option linter.unusedSectionVars false
set_option linter.unusedSimpArgs false
set_option linter.unusedVariables false
open Bool renaming true->L,false->aL
open Option renaming some->aM,none->aaf
open List renaming length->I
def J{P:Prop}(h:P:=by omega):P:=h
def X{P:Prop}(h:P:=by decide):P:=h
def aaz{P:Prop}(h:P:=by kernel_rfl):P:=h
def aaA{P:Prop}(h:P:=by rw[fe (by omega) (by omega)];rfl):P:=h
def aaV{P:Prop}(h:P:=by simp):P:=h
def aba{P:Prop}(h:P:=by simp;omega):P:=h
def abv{P:Prop}(h:P:=by simpa using hc):P:=h
def abF{P:Prop}(h:P:=by simp only[aP]at hx;omega):P:=h
def abG{P:Prop}(h:P:=by cases h):P:=h
def abH{P:Prop}(h:P:=by simp only[aY,bA,cf]at hx;omega):P:=h
def abI{P:Prop}(h:P:=by simpa using hk):P:=h
def abJ{P:Prop}(h:P:=by simp only[aP]at hx;simp[hx]):P:=h
def abK{P:Prop}(h:P:=by simp only[aP];omega):P:=h
def abL{P:Prop}(h:P:=by have:=aN hc;omega):P:=h
def abN{P:Prop}(h:P:=by rw[cJ];omega):P:=h
def abO{P:Prop}(h:P:=by have:=aQ hc;omega):P:=h
def abP{P:Prop}(h:P:=by simpa using hb):P:=h
def abQ{P:Prop}(h:P:=by dsimp only;omega):P:=h
def abR{P:Prop}(h:P:=by simpa using hm):P:=h
def abS{P:Prop}(h:P:=by simp at h):P:=h
def abT{P:Prop}(h:P:=by simpa using h):P:=h
def abU{P:Prop}(h:P:=by have:=(hS.blk e).2;dsimp only at this;omega):P:=h
def abV{P:Prop}(h:P:=by grind):P:=h
def abW{P:Prop}(h:P:=by rw[<-e];exact hk):P:=h
def abX{P:Prop}(h:P:=by simpa using he):P:=h
def abZ{P:Prop}(h:P:=by simp at hx;simp[hx]):P:=h
def ab0{P:Prop}(h:P:=by dsimp only;decide):P:=h
def ab2{P:Prop}(h:P:=by simp only[aP]at hk;omega):P:=h
def ab5{P:Prop}(h:P:=by simpa using hx):P:=h
def ab6{P:Prop}(h:P:=by have:=h.hG k hk;simp only[aP]at hm;omega):P:=h
def ab7{P:Prop}(h:P:=by simp only[aO,ba,bK];omega):P:=h
def ab8{P:Prop}(h:P:=by rw[aO,bI];omega):P:=h
def ab9{P:Prop}(h:P:=by have:=hk.2;omega):P:=h
def aca{P:Prop}(h:P:=by have:=hk.resolve_left id;simp;omega):P:=h
def acb{P:Prop}(h:P:=by rw[hy]at ha;simpa[ku]using ha):P:=h
def acf{P:Prop}(h:P:=by simpa using h1):P:=h
def acg{P:Prop}(h:P:=by simpa using hi):P:=h
def aci{P:Prop}(h:P:=by unfold gH at hf;omega):P:=h
def acj{P:Prop}(h:P:=by simp only[aY,bA,cf]at hx⊢;omega):P:=h
def ack{P:Prop}(h:P:=by rw[bK];omega):P:=h
def acn{P:Prop}(h:P:=by simp only[aP]at hm;omega):P:=h
def acr{P:Prop}(h:P:=by simp only[aP]at hx;subst hx;exact qA (g4 _ h).1):P:=h
def acs{P:Prop}(h:P:=by rw[fe (by omega) (by omega)];omega):P:=h
def acz{P:Prop}(h:P:=by have:=(hP.buf.lt e).2;omega):P:=h
def acE{P:Prop}(h:P:=by intro x hx;simp only[aY,bA,cf]at hx⊢;omega):P:=h
def acN{P:Prop}(h:P:=by rw[aO];omega):P:=h
def acO{P:Prop}(h:P:=by simpa using h2):P:=h
def acT{P:Prop}(h:P:=by unfold gH;omega):P:=h
def acU{P:Prop}(h:P:=by simp only[aY,bA,cf]at hq;omega):P:=h
def acW{P:Prop}(h:P:=by rw[bS,bX (bf.1 hj).1];exact hj):P:=h
def acY{P:Prop}(h:P:=by have:=(h.hF k xd).1;have:=hO.size;omega):P:=h
def acZ{P:Prop}(h:P:=by simp only[nC,jH,bN]at hc;exact hc▸rfl):P:=h
def ac3{P:Prop}(h:P:=by simpa using hf):P:=h
def adm{P:Prop}(h:P:=by rw[hy];rfl):P:=h
def adn{P:Prop}(h:P:=by have:=h.hF k hk;have:=hb k hm;omega):P:=h
def adp{P:Prop}(h:P:=by rw[show ao #[59]=T [59]from rfl,fm]):P:=h
def adr{P:Prop}(h:P:=by rw[lu]at hi;simpa using hi):P:=h
def adv{P:Prop}(h:P:=by unfold V at h;exact h.elim):P:=h
def adz{P:Prop}(h:P:=by rw[hh];decide):P:=h
def adC{P:Prop}(h:P:=by have:=(hk.resolve_left id).1;omega):P:=h
def adD{P:Prop}(h:P:=by rw[hy];simp):P:=h
def adG{P:Prop}(h:P:=by simpa using uT):P:=h
def adP{P:Prop}(h:P:=by simpa using hh):P:=h
def adV{P:Prop}(h:P:=by rw[nH,aW,hx]):P:=h
def adW{P:Prop}(h:P:=by have:=F4 g hg;simp;omega):P:=h
def adX{P:Prop}(h:P:=by simp only[aP]at hy;omega):P:=h
def adY{P:Prop}(h:P:=by have:=hs.2.2;have:=hO.size;omega):P:=h
def adZ{P:Prop}(h:P:=by have:=(xG x hx).1;omega):P:=h
def ad2{P:Prop}(h:P:=by cases e):P:=h
def ad3{P:Prop}(h:P:=by rw[hs];decide):P:=h
def ad7{P:Prop}(h:P:=by unfold iu;exact bD (by omega)):P:=h
def aea{P:Prop}(h:P:=by rw[aO];simp only[ba,bK];omega):P:=h
def aeb{P:Prop}(h:P:=by simpa using hn):P:=h
def aec{P:Prop}(h:P:=by simpa using hq):P:=h
def aed{P:Prop}(h:P:=by unfold gH at hn;omega):P:=h
def aee{P:Prop}(h:P:=by rw[bJ];omega):P:=h
def aef{P:Prop}(h:P:=by simpa using k1):P:=h
def aeg{P:Prop}(h:P:=by simpa using k3):P:=h
def aeh{P:Prop}(h:P:=by simpa using k4):P:=h
def aei{P:Prop}(h:P:=by unfold jB;split<;>rfl):P:=h
def aej{P:Prop}(h:P:=by rw[ch];omega):P:=h
def aeo{P:Prop}(h:P:=by simpa using hk.2):P:=h
def aep{P:Prop}(h:P:=by simp[hx]):P:=h
def aeq{P:Prop}(h:P:=by have:=aN h;omega):P:=h
def aet{P:Prop}(h:P:=by have:=hk.1;omega):P:=h
def aev{P:Prop}(h:P:=by cases hx):P:=h
def aew{P:Prop}(h:P:=by unfold dz;rw[lz]):P:=h
def aex{P:Prop}(h:P:=by rw[lu]at ho;simpa using ho):P:=h
def aey{P:Prop}(h:P:=by simp[Op.equalIn,hu]):P:=h
def aeA{P:Prop}(h:P:=by simp at hk;simp[hk]):P:=h
def aeB{P:Prop}(h:P:=by simpa using hG k hk):P:=h
def aeD{P:Prop}(h:P:=by simp[Program.plainKey,hu]):P:=h
def aeE{P:Prop}(h:P:=by rw[bS];exact hj):P:=h
def aeG{P:Prop}(h:P:=by have:=(h.hF k xd).1;omega):P:=h
def aeH{P:Prop}(h:P:=by subst e;simp at hc):P:=h
def aeJ{P:Prop}(h:P:=by rw[bI];omega):P:=h
def aeX{P:Prop}(h:P:=by have:=nA k e;omega):P:=h
def ae3{P:Prop}(h:P:=by have:=nA _ e;omega):P:=h
def ae7{P:Prop}(h:P:=by simpa using hz):P:=h
def ae9{P:Prop}(h:P:=by simpa using hv):P:=h
def afc{P:Prop}(h:P:=by have:=(zO.lt e).1;omega):P:=h
def afn{P:Prop}(h:P:=by unfold mu;split<;>omega):P:=h
def afN{P:Prop}(h:P:=by have:=wv.lt;omega):P:=h
def agr{P:Prop}(h:P:=by rw[rr];exact aX _):P:=h
def agz{P:Prop}(h:P:=by rw[bK,bS];exact uO _ _):P:=h
def agB{P:Prop}(h:P:=by rw[nI,hl];rfl):P:=h
def agD{P:Prop}(h:P:=by decide+kernel):P:=h
def agE{P:Prop}(h:P:=by rw[hw];decide):P:=h
def agF{P:Prop}(h:P:=by cases hk):P:=h
def agG{P:Prop}(h:P:=by have:=Hn x;omega):P:=h
def agH{P:Prop}(h:P:=by simp at hc;omega):P:=h
def agI{P:Prop}(h:P:=by have:=BD.br _ e;omega):P:=h
def agJ{P:Prop}(h:P:=by first | rfl | trivial):P:=h
def agK{P:Prop}(h:P:=by rw[h0]at hr;cases hr):P:=h
def agL{P:Prop}(h:P:=by rw[bJ];exact hn):P:=h
def agM{P:Prop}(h:P:=by rw[nH];rfl):P:=h
def agN{P:Prop}(h:P:=by rw[hb]at hh;cases hh):P:=h
def agO{P:Prop}(h:P:=by rw[hy];simp[qu]):P:=h
def agP{P:Prop}(h:P:=by unfold wO;omega):P:=h
def agQ{P:Prop}(h:P:=by rw[bJ,ch];omega):P:=h
def agR{P:Prop}(h:P:=by simpa using hr):P:=h
def agS{P:Prop}(h:P:=by simpa using hl):P:=h
def agU{P:Prop}(h:P:=by cases hb):P:=h
def agV{P:Prop}(h:P:=by simpa using h4):P:=h
def agW{P:Prop}(h:P:=by simpa using rh):P:=h
def agZ{P:Prop}(h:P:=by simpa using ho):P:=h
def ag0{P:Prop}(h:P:=by simpa using rk):P:=h
def ag7{P:Prop}(h:P:=by simpa using qF):P:=h
def ag9{P:Prop}(h:P:=by simpa using k2):P:=h
def aht{P:Prop}(h:P:=by simpa using hs):P:=h
def ahu{P:Prop}(h:P:=by simpa using h0):P:=h
def ahv{P:Prop}(h:P:=by simpa using kF):P:=h
def ahw{P:Prop}(h:P:=by simpa using hp):P:=h
def ahx{P:Prop}(h:P:=by rw[cN,hx];rfl):P:=h
def ahy{P:Prop}(h:P:=by rw[hp];decide):P:=h
def ahC{P:Prop}(h:P:=by rw[hsz];omega):P:=h
def ahF{P:Prop}(h:P:=by rw[bq,hy];rfl):P:=h
def ahH{P:Prop}(h:P:=by rw[bq,a2];rfl):P:=h
def ahI{P:Prop}(h:P:=by rw[e];exact h):P:=h
def ahJ{P:Prop}(h:P:=by rw[h5];decide):P:=h
def ahQ{P:Prop}(h:P:=by rw[hb];decide):P:=h
def ahS{P:Prop}(h:P:=by rw[h1];rfl):P:=h
def aN:=@of_decide_eq_true
def aO:=@List.length_append
def aP:=@List.mem_singleton
def aQ:=@of_decide_eq_false
def aR:=@if_neg
def aU:=@Bool.and_eq_true
def aV:=@if_pos
def aW:=@Int.toNat_natCast
def aX:=@Nat.le_refl
def aY:=@List.mem_cons
def aZ:=@Int.natCast_nonneg
def ba:=@List.length_cons
def bf:=@List.getElem?_eq_some_iff
def bh:=@List.getElem?_eq_getElem
def bm:=@Nat.zero_le
def bp:=@List.take_of_length_le
def bq:=@List.take_add_one
def bA:=@List.not_mem_nil
def bB:=@List.mem_of_getElem?
def bC:=@List.append_assoc
def bD:=@decide_eq_false
def bE:=@decide_eq_true
def bF:=@decide_eq_true_eq
def bG:=@List.append_nil
def bH:=@Nat.le_trans
def bI:=@List.length_singleton
def bJ:=@List.length_map
def bK:=@List.length_nil
def bM:=@Bool.eq_iff_iff
def bN:=@Option.some.injEq
def bP:=@List.eq_nil_of_length_eq_zero
def bQ:=@List.map_cons
def bS:=@Nat.zero_add
def bT:=@Decidable.byContradiction
def bX:=@List.getElem?_append_left
def bZ:=@congrArg
def ca:=@List.cons_append
def cb:=@List.nil_append
def cd:=@List.getElem?_append_right
def cf:=@or_false
def ch:=@List.length_take
def ci:=@List.take_zero
def cj:=@List.mem_append
def cm:=@Bool.true_and
def cp:=@List.map_append
def cu:=@Bool.or_eq_true
def cw:=@List.getElem?_cons_zero
def cG:=@List.length_drop
def cH:=@Nat.lt_of_lt_of_le
def cN:=@List.getElem?_map
def cO:=@List.getElem?_cons_succ
def cP:=@decide_eq_true_iff
def cV:=@Bool.false_and
def cZ:=@Nat.le_of_ble_eq_true
def db:=@beq_iff_eq
def dc:=@List.sum_cons
def dh:=@Nat.eq_of_beq_eq_true
def dq:=@Bool.or_eq_false_iff
def dr:=@Bool.not_eq_true'
def dB:=@Nat.add_assoc
def dD:=@List.takeWhile_cons
def dF:=@List.all_eq_true
def dG:=@Nat.add_sub_cancel_left
def dK:=@Bool.and_true
def dQ:=@List.mem_cons_of_mem
def dS:=@decide_eq_false_iff_not
def eE:=@Nat.add_zero
def eF:=@Bool.eq_false_iff
def eG:=@List.getElem?_eq_none
def eJ:=@List.take_succ_cons
def eP:=@List.drop_of_length_le
def eV:=@List.flatten_cons
def eY:=@List.mem_cons_self
def eZ:=@List.mem_map
def fb:=@List.take_append_drop
def ff:=@List.filter_nil
def fg:=@List.append_eq_nil_iff
def fl:=@List.contains_iff_mem
def ft:=@List.map_nil
def fD:=@Nat.mul_le_mul_right
def fF:=@List.drop_eq_getElem_cons
def fH:=@Option.toList_some
def fI:=@Array.getElem?_eq_none
def fS:=@Bool.and_eq_false_iff
def fV:=@Nat.add_comm
def fW:=@List.map_map
def fX:=@Nat.testBit_eq_decide_div_mod_eq
def gr:=@Except.ok.injEq
def gz:=@Option.map_eq_some_iff
def gM:=@List.length_filter_le
def gN:=@Option.isSome_iff_exists
def gP:=@Prod.mk.injEq
def gQ:=@Bool.and_false
def gX:=@List.getElem?_drop
def gY:=@Bool.not_eq_false'
def gZ:=@List.filter_append
def ig:=@List.getElem?_of_mem
def ii:=@List.take_length
def iJ:=@Nat.add_mul
def iK:=@List.all_append
def jc:=@Option.getD_some
def jd:=@Nat.le_of_not_lt
def je:=@decide_eq_decide
def jl:=@List.drop_zero
def jm:=@Int.le_refl
def jo:=@Nat.eq_of_testBit_eq
def jH:=@List.head?_cons
def jL:=@Int.toNat_of_nonneg
def jM:=@List.flatMap_append
def jU:=@List.sum_nil
def jW:=@Nat.le_succ
def kb:=@List.getElem_mem
def kc:=@Nat.zero_testBit
def kg:=@List.mem_range
def ki:=@List.drop_drop
def kj:=@List.length_replicate
def lh:=@Option.map_some
def lq:=@Nat.mul_one
def lr:=@Nat.sub_self
def lC:=@List.map_take
def lR:=@List.toList_toArray
def lS:=@List.length_pos_iff
def mc:=@if_false
def me:=@Nat.add_le_add
def mX:=@List.mem_filter
def mY:=@Nat.testBit_and
def nB:=@List.set_append_right
def nC:=@List.singleton_append
def nE:=@List.ext_getElem?
def nG:=@List.foldl_append
def ob:=@Array.getElem?_eq_some_iff
def oV:=@Bool.or_true
def oW:=@Bool.not_eq_true
def oX:=@List.filter_cons
def oY:=@List.any_eq_true
def oZ:=@Nat.and_le_right
def pq:=@List.map_congr_left
def pu:=@List.drop_succ_cons
def qc:=@Bool.false_or
def qe:=@Nat.lt_succ_iff_lt_or_eq
def qB:=@Bool.false_eq_true
def rq:=@Bool.and_assoc
def rr:=@List.length_range
def ru:=@Nat.div_div_eq_div_mul
def sF:=@List.take_eq_take_iff
def tW:=@List.flatMap_nil
def vd:=@Array.length_toList
def ve:=@bne_eq_false_iff_eq
def vf:=@beq_eq_false_iff_ne
def wy:=@Nat.lt_or_ge
def wz:=@Nat.testBit_two_pow_mul_add
def xr:=@List.getElem?_take
def xt:=@List.elem_cons
def xu:=@Nat.lt_of_le_of_lt
def xv:=@Int.fdiv_eq_ediv_of_nonneg
def xw:=@List.getD_eq_getElem?_getD
def yi:=@Option.isNone_iff_eq_none
def yj:=@List.mem_or_eq_of_mem_set
def ym:=@List.pairwise_iff_getElem
def yv:=@List.size_toArray
def yw:=@List.flatMap_cons
def yx:=@Nat.lt_succ_of_le
def yy:=@Decidable.not_not
def yz:=@List.all_eq_false
def zQ:=@List.map_drop
def AU:=@Option.bind_some
def AV:=@Nat.le_max_right
def AW:=@Nat.lt_of_not_le
def AX:=@List.length_eq_zero_iff
def BF:=@Nat.zero_mul
def BG:=@Nat.mod_lt
def BH:=@Nat.sub_zero
def BI:=@List.getElem_cons_drop
def BJ:=@Nat.testBit_lt_two_pow
def BK:=@Bool.not_and
def Cq:=@Option.map_none
def Cs:=@List.cons.injEq
def Ct:=@Nat.le_max_left
def Cu:=@List.any_append
def Cv:=@Nat.min_eq_left
def Eg:=@List.getElem?_toArray
def Eh:=@Array.getElem?_modify
def EZ:=@Bool.not_false
def E1:=@List.mem_append_left
def E2:=@Nat.pow_le_pow_right
def Gb:=@if_true
def Iv:=@List.flatten_append
def IV:=@Bool.or_false
def LN:=@List.set_cons_zero
def LO:=@Nat.pos_of_ne_zero
def Ot:=@List.getElem?_set
def Ou:=@Nat.le_of_eq
def Ov:=@Bool.true_or
def Ow:=@List.getElem_take
def Rn:=@Array.getElem?_setIfInBounds_ne
def Tc:=@Array.toList_inj
def Td:=@Nat.succ_le_succ
def Te:=@Nat.lt_succ_self
def Tf:=@Nat.div_eq_of_lt
def Tg:=@Nat.and_two_pow_sub_one_eq_mod
def Th:=@List.map_id
def Ti:=@Nat.pow_add
def TU:=@List.take_append_of_le_length
def YK:=@List.foldl_cons
def YL:=@UInt8.toNat_inj
def YM:=@Option.some.inj
def YN:=@List.sum_append
def YO:=@Nat.and_le_left
def YP:=@Nat.not_lt_zero
def YQ:=@List.countP_eq_length_filter
def YR:=@Nat.testBit_two_pow_sub_succ
def ZB:=@List.take_length_add_append
abbrev aEZ(w v:Go.World)(k:Nat)(p:Prop):Prop:=w.heap.size<=k->k<v.heap.size->p
abbrev aG:=Go.Value->Go.World->Prop
abbrev aH:=List UInt8
abbrev aI:=List Go.Value
abbrev aJ:=Nat->Prop
abbrev aK:=ByteArray
namespace Go.Kt
open Go renaming World->M,Value->aw
open Go Go.RowKit
structure Sl where
 a:Option Addr
 n:Nat
 c:Nat
@[reducible] def Sl.v(s:Sl):aw:=.slice s.a s.n s.c
@[reducible] def Sl.nil:Sl:=⟨aaf,0,0⟩
def Sl.cut(s:Sl)(l h m i:Nat):Sl:=⟨if m=l then s.a else s.a.map (·.add (l*i)),h-l,m-l⟩
def cT(s:Sl)(i:Int)(size:Nat)(ad:Addr):Prop:=∃b,s.a=aM b/\0<=i/\i<s.n/\ad=b.add (i.toNat*size)
structure Only (bs:List Nat) (w w':M):Prop where
 os:w'.os=w.os
 tape:w'.tape=w.tape
 output:w'.output=w.output
 size:w.heap.size<=w'.heap.size
 block:∀k,k<w.heap.size->k∉bs->w'.heap[k]? =w.heap[k]?
def Blk(w:M)(b:Nat)(t:TypeId)(c:List aw):Prop:=w.heap[b]? =aM (.cells c.toArray t (0,0))
def Cells(w:M)(a:Addr)(c:List aw):Prop:=∀j v,c[j]? =aM v->w.cell? (a.add j)=aM v
def cr(s:List Nat)(w a:M):Prop:=∀b,b∈s->a.heap[b]? =w.heap[b]?
def iA(b:UInt8):aw:=.int .u8 b.toNat
def uJ(w:M)(s:Sl)(l:List UInt8):Prop:=s.n=I l/\(l≠[]->∃ad,s.a=aM ad/\Cells w ad (l.map iA))
def Sl.blk(s:Sl):Nat:=match s.a with | some a=>a.block | none=>0
def fQ(c:List aw)(o:Nat)(v:List aw):List aw:=c.take o++v++c.drop (o+I v)
section
variable {w w' u6:M} {bs bs':List Nat} {b:Nat} {t:TypeId} {cs:List aw}
def Blk.lt(h:Blk w b t cs):b<w.heap.size:=(ob.1 h).1
def Only.refl bs w:Only bs w w:=⟨rfl,rfl,rfl,aX _,λ_ _ _=>rfl⟩
def Only.weaken(h:Only bs w w')(b:∀x,x∈bs->x∈bs'∨w.heap.size<=x):Only bs' w w':=
 ⟨h.os,h.tape,h.output,h.size,λk hk n=>h.block k hk λm=>abV⟩
def Only.trans(h:Only bs w w')(k:Only bs' w' u6)(b:∀x,x∈bs'->x∈bs∨w.heap.size<=x):Only bs w u6:=
 ⟨k.os.trans h.os,k.tape.trans h.tape,k.output.trans h.output,bH h.size k.size,λa i n=>
  (k.block a (cH i h.size) λm=>abV).trans (h.block a i n)⟩
def Only.cn(h:Only bs w w')(k:Only [] w' u6):Only bs w u6:=h.trans k aaV
def Only.cons(a:Only bs w w')(k:Only [b] w' u6):Only (b::bs) w u6:=
 (a.weaken (bs':=b::bs) λ_ h=>.inl (dQ _ h)).trans k λx h=>.inl abV
def Only.mem(h:Only bs w w')(k:Only [b] w' u6)(a:b∈bs):Only bs w u6:=h.trans k λx c=>.inl abV
def Only.new(h:Only bs w w')(k:Only [b] w' u6)(a:w.heap.size<=b):Only bs w u6:=h.trans k λx c=>.inr abV
def Only.blk(a:Only bs w w')(h:Blk w b t cs)(n:b∉bs):Blk w' b t cs:=(a.block b h.lt n).trans h
def Only.below(h:Only bs w w'){B}(a:B<=w.heap.size)(b:∀x,x∈bs->B<=x):Below B w w':=
 ⟨h.os,h.tape,h.output,h.size,λk hk=>h.block k J λm=>by have:=b k m;omega⟩
def Only.tI(h:Below w.heap.size w w'):Only [] w w':=⟨h.os,h.tape,h.output,h.size,λk hk _=>h.block k hk⟩
def Only.drew w:Only [] w w.drew:=⟨rfl,rfl,rfl,aX _,λ_ _ _=>rfl⟩
def Only.drewN w n:Only [] w (w.drewN n):=⟨rfl,rfl,rfl,aX _,λ_ _ _=>rfl⟩
def Only.alloc w o:Only [] w (w.alloc o):=⟨rfl,rfl,rfl,aaV,λk hk _=>_root_.Go.heap_alloc_old w o hk⟩
def Only.setRow w b cs:Only [b] w (w.setRow b cs):=⟨rfl,rfl,rfl,aaV,λk _ hn=>setRow_other w b k cs aeb⟩
def Only.same(b:Only bs w w')(h:∀x,x∈bs'->x<w.heap.size/\x∉bs):cr bs' w w':=λx a=>b.block x (h x a).1 (h x a).2
def Blk.alloc(w:M) t cs:Blk (w.alloc (.cells cs.toArray t)) w.heap.size t cs:=heap_alloc_new w _
def Blk.setRow(h:Blk w b t cs) Ci:Blk (w.setRow b Ci.toArray) b t Ci:=setRow_heap w b _ _ t _ h
def Blk.cell(h:Blk w b t cs) i:w.cell? ⟨b,i,aaf⟩=cs[i]? :=by rw[cell_of_row w b i cs.toArray t _ h];simp
def Blk.cells(h:Blk w b t cs) o vs (d:∀j v,vs[j]? =aM v->cs[o+j]? =aM v):Cells w ⟨b,o,aaf⟩ vs:=λj v c=>by
 have a:(⟨b,o,aaf⟩:Addr).add j=⟨b,o+j,aaf⟩:=by unfold Addr.add<;>simp_all
 rw[a,h.cell];exact d j v c
def Blk.H9(h:Blk w b t cs) o vs (a:(cs.drop o).take (I vs)=vs):Cells w ⟨b,o,aaf⟩ vs:=h.cells o vs λc v j=>abV
def Cells.one{a}{v}(h:Cells w a [v]):w.cell? a=aM v:=by have:=h 0 v rfl;simpa[Addr.add]using this
def Cells.keep{a}(h:Cells w a cs)(hk:w'.heap[a.block]? =w.heap[a.block]?):Cells w' a cs:=λj v b=>by
 rw[World.cell?_of_block (w:=w) _ (a:=a.add j)]
 ·exact h j v b
 have:(a.add j).block=a.block:=by unfold Addr.add;split<;>rfl
 rw[this,hk]
def Cells.lt'{a}(h:Cells w a cs)(c:cs≠[]):a.block<w.heap.size:=by
 cases cs with
 | nil=>exact absurd rfl c
 | cons v cs=>
  have b:=block_lt_of_cell (h 0 v rfl);have e:(a.add 0).block=a.block:=rfl;omega
def Cells.lt{a}{v}(h:Cells w a (v::cs)):a.block<w.heap.size:=by
 have:=h 0 v rfl;have b:=block_lt_of_cell this;have e:(a.add 0).block=a.block:=rfl;omega
end
section
variable {P:Program} {ops:Array Oper} {Q:Exit->Act->M->Prop} {rest:List Oper} {a a':Act} {w w':M}
def f0(l:List aw) ds (k:Nat) v:Act.put ⟨l.toArray,ds⟩ (aM k) v=⟨(l.set k v).toArray,ds⟩:=by simp[Act.put]
def f1 x l (v:aw):(x::l).set 0 v=v::l:=rfl
def f3(a:Act) v:a.put aaf v=a:=rfl
def f2 x l k (v:aw):(x::l).set (k+1) v=x::l.set k v:=rfl
def iL:List Oper->Nat->Option Oper
 | [],_=>aaf
 | v::_,0=>aM v
 | _::r,n+1=>iL r n
def lu:∀l n,iL l n=l[n]?
 | [],_=>rfl
 | _::_,0=>rfl
 | _::r,n+1=>lu r n
def ZC:List aw->Nat->Option aw
 | [],_=>aaf
 | v::_,0=>aM v
 | _::r,n+1=>ZC r n
def Gc:∀l n,ZC l n=l[n]?
 | [],_=>rfl
 | _::_,0=>rfl
 | _::r,n+1=>Gc r n
def wt{o oj}{eH}{l}{ds}{j d:Nat}{want b r}(c:o.guard=aM (j,want))(h:iL eH j=aM oj)(f:oj.dst=aM d)
  (a:ZC l d=aM (.bool b)) (g:(b==want)=r):Region.wanted o (yielded eH.toArray (⟨l.toArray,ds⟩:Act).tmps)=r:=by
 subst g;rw[lu]at h;rw[Gc]at a;have e:yielded eH.toArray (⟨l.toArray,ds⟩:Act).tmps j=aM b:=by simp[yielded,h,f,a]
 simp only[Region.wanted,c,e];rfl
def wu{o oj}{eH}{l}{ds}{j d:Nat}{want}(b:o.guard=aM (j,want))(h:iL eH j=aM oj)(c:oj.dst=aM d)
  (a:ZC l d=aM undef):Region.wanted o (yielded eH.toArray (⟨l.toArray,ds⟩:Act).tmps)=aL:=by
 rw[lu]at h;rw[Gc]at a;have e:yielded eH.toArray (⟨l.toArray,ds⟩:Act).tmps j=aaf:=by simp[yielded,h,c,a,undef]
 simp[Region.wanted,b,e]
def wn{o}{f}(h:o.guard=aaf):Region.wanted o f=L:=by simp[Region.wanted,h]
def Gd{o} v (g:Region.wanted o (yielded ops a.tmps)=L)
  (r:(execOp a.eval o).run P w=.ok (.value v) w') (b:a.put o.dst v=a') (h:wpList P ops Q rest a' w'):wpList P ops Q (o::rest) a w:=by
 subst b;unfold wpList;rw[aV g];refine .inl ?_;unfold Oper.wp;rw[r];exact h
def acJ{o}(g:Region.wanted o (yielded ops a.tmps)=aL)(h:a.put o.dst undef=a')(b:wpList P ops Q rest a' w):wpList P ops Q (o::rest) a w:=by
 subst h;unfold wpList;simp_all
def Gf{dst}{ty}{x}{t'}{p}{af}{g}{ad}{v}
  (N:(isAgg ty).run P w=.ok aL w) (b:a.eval x=.pointer (aM ad)) (h:w.cell? ad=aM v):
  (execOp a.eval ⟨dst,.load ty x,t',p,af,g⟩).run P w=.ok (.value v) w:=by
 simp[execOp,b,Instr.loadAt,Instr.sureAddr,Sem.run_bind,Sem.run_pure,Result.andThen_ok,loadVar,N,qB,mc,run_load,h]
def wA{dst}{ty}{x}{t'}{p}{af}{g}{ad}{cs}{n}
  (N:(isAgg ty).run P w=.ok L w) (h:(sizeOf ty).run P w=.ok n w) (b:I cs=n) (d:a.eval x=.pointer (aM ad)) (c:Cells w ad cs):
  (execOp a.eval ⟨dst,.load ty x,t',p,af,g⟩).run P w=.ok (.value (.agg cs.toArray)) w:=by
 have l:=run_loadCells_list (P:=P) w ad cs c;rw[b]at l;simp[execOp,d,Instr.loadAt,Instr.sureAddr,Sem.run_bind,Sem.run_pure,Result.andThen_ok,loadVar,N,Gb,h,l]
def ZD{dst}{ty}{x y}{t'}{p}{af}{g}{b o}{cs vs}{et}{n}
  (h:(sizeOf ty).run P w=.ok n w) (i:a.eval x=.pointer (aM ⟨b,o,aaf⟩)) (f:(a.eval y).cells=vs.toArray) (e:I vs=n)
  (c:∀v∈vs,v.oneCell'=L) (d:Blk w b et cs) (S:o+I vs<=I cs):
  (execOp a.eval ⟨dst,.store ty x y,t',p,af,g⟩).run P w=.ok .skip (w.setRow b (fQ cs o vs).toArray):=by
 simp[execOp,i,Instr.storeAt,Instr.sureAddr,Sem.run_bind,Sem.run_pure,Result.andThen_ok,storeVar,h,f,yv,e,ne_eq,not_true_eq_false,mc,run_storeCells_at P b o et vs 0 cs.toArray w d J c,fQ]
def ZE{dst}{ty}{t'}{p}{af}{g}{z}{s:List aw}
  (b:(zeroValue ty).run P w=.ok z w) (h:z.cells=s.toArray):
  (execOp a.eval ⟨dst,.alloc ty,t',p,af,g⟩).run P w=.ok (.value (.pointer (aM ⟨w.heap.size,0,aaf⟩))) (w.alloc (.cells s.toArray ty)):=by
 simp only[execOp,Instr.alloc,Sem.run_bind,b,Result.andThen_ok,newVar,h];rfl
def ajq{dst}{ty}{x}{t'}{p}{af}{g}{z:List aw}
  (h:(a.eval x).cells=z.toArray):
  (execOp a.eval ⟨dst,.box ty x,t',p,af,g⟩).run P w=.ok (.value (.pointer (aM ⟨w.heap.size,0,aaf⟩))) (w.alloc (.cells z.toArray ty)):=by
 simp only[execOp,Instr.box,newVar,h];rfl
def TV{dst}{x}{t'}{p}{af}{g}{ad}(h:a.eval x=.pointer (aM ad)):
  (execOp a.eval ⟨dst,.nilCheck x,t',p,af,g⟩).run P w=.ok (.value (.pointer (aM ad))) w:=by
 simp[execOp,h]
def Ox{dst}{s}{x}{k}{t'}{p}{af}{g}{ad LX}{fs}{f}{n}
  (u:(underlying s).run P w=.ok (.struct fs) w) (b:fs[k]? =aM f) (h:(sizeOf f.type).run P w=.ok (n+1) w) (c:a.eval x=.pointer (aM ad)) (e:ad.add f.offset=LX):
  (execOp a.eval ⟨dst,.fieldAddr s x k,t',p,af,g⟩).run P w=.ok (.value (.pointer (aM LX))) w:=by
 subst e;simp[execOp,c,Instr.fieldAt,Instr.sureAddr,u,b,fieldPlace,h]
def ZF{dst}{c x y}{t'}{p}{af}{g}{v}(h:a.eval c=.bool L)(b:a.eval x=v):
  (execOp a.eval ⟨dst,.pick c x y,t',p,af,g⟩).run P w=.ok (.value v) w:=by
 subst b;simp[execOp,h,asBool]
def ZG{dst}{c x y}{t'}{p}{af}{g}{v}(h:a.eval c=.bool aL)(b:a.eval y=v):
  (execOp a.eval ⟨dst,.pick c x y,t',p,af,g⟩).run P w=.ok (.value v) w:=by
 subst b;simp[execOp,h,asBool]
def ZH{dst}{t}{ps:List _}{t'}{p}{af}{g}{ps'}{v}
  (h:(ps.map λq=>(q.1,a.eval q.2))=ps') (r:(Instr.build t ps'.toArray).run P w=.ok v w):
  (execOp a.eval ⟨dst,.build t ps.toArray,t',p,af,g⟩).run P w=.ok (.value v) w:=by
 subst h;simp[execOp,r]
def TW{dst}{t e}{x i}{t'}{p}{af}{g}{s}{k}{n}{ad}{sz}
  (u:(underlying t).run P w=.ok (.slice e) w) (h:(sizeOf e).run P w=.ok sz w) (l:a.eval x=s.v) (j:a.eval i=.int k n) (G:cT s n sz ad):
  (execOp a.eval ⟨dst,.indexAddr t x i,t',p,af,g⟩).run P w=.ok (.value (.pointer (aM ad))) w:=by
 obtain⟨b,f,c,d,rfl⟩:=G;simp[execOp,l,j,Instr.indexAt,asIntOf,u,h,f,c,d]
def yA{d:Option Tmp}{t e:TypeId}{x i:Operand}{t'}{p}{af}{g}{len}{k}{n}{ad LX}{sz}
  (u:(underlying t).run P w=.ok (.array len e) w) (h:(sizeOf e).run P w=.ok sz w) (l:a.eval x=.pointer (aM ad)) (j:a.eval i=.int k n) (b:0<=n) (c:n<len) (f:ad.add (n.toNat*sz)=LX):
  (execOp a.eval ⟨d,.indexAddr t x i,t',p,af,g⟩).run P w=.ok (.value (.pointer (aM LX))) w:=by
 subst f;simp[execOp,l,j,Instr.indexAt,asIntOf,u,h,b,c,Instr.sureAddr]
def oq{b}{s}{dst}{x:List Operand}{ts}{t'}{p}{af}{g}{v}
  (h:∀A,builtin b ts t' A (x.map a.eval).toArray=(do pure (.value (<-s)))) (r:s.run P w=.ok v w'):
  (execOp a.eval ⟨dst,.call ⟨.builtin b,x.toArray,ts⟩,t',p,af,g⟩).run P w=.ok (.value v) w':=by
 simp[execOp,resolve,invoke,List.map_toArray];simp_all
def zW{dst}{x:List Operand}{ts}{t'}{p}{af}{g}{v}{vs}(b:x.map a.eval=vs)
  (h:(Builtin.append_ ts t' vs.toArray).run P w=.ok v w'):(execOp a.eval ⟨dst,.call ⟨.builtin .append,x.toArray,ts⟩,t',p,af,g⟩).run P w=.ok (.value v) w':=by
 subst b;exact oq (λ_=>rfl) h
def Cw{dst}{x:List Operand}{ts}{t'}{p}{af}{g}{v}{vs}(b:x.map a.eval=vs)
  (h:(Builtin.copy_ ts t' vs.toArray).run P w=.ok v w'):(execOp a.eval ⟨dst,.call ⟨.builtin .copy,x.toArray,ts⟩,t',p,af,g⟩).run P w=.ok (.value v) w':=by
 subst b;exact oq (λ_=>rfl) h
def zX{dst}{x:List Operand}{ts}{t'}{p}{af}{g}{v}{vs}(b:x.map a.eval=vs)
  (h:(Builtin.delete_ ts t' vs.toArray).run P w=.ok v w'):(execOp a.eval ⟨dst,.call ⟨.builtin .delete,x.toArray,ts⟩,t',p,af,g⟩).run P w=.ok (.value v) w':=by
 subst b;exact oq (λ_=>rfl) h
def Bn{dst}{x:List Operand}{ts}{t'}{p}{af}{g}{v}{vs}(b:x.map a.eval=vs)
  (h:(Builtin.clear_ ts t' vs.toArray).run P w=.ok v w'):(execOp a.eval ⟨dst,.call ⟨.builtin .clear,x.toArray,ts⟩,t',p,af,g⟩).run P w=.ok (.value v) w':=by
 subst b;exact oq (λ_=>rfl) h
def Eu{dst}{x:List Operand}{ts}{t'}{p}{af}{g}{v}{vs}(b:x.map a.eval=vs)
  (h:(Builtin.len_ ts t' vs.toArray).run P w=.ok v w'):(execOp a.eval ⟨dst,.call ⟨.builtin .len,x.toArray,ts⟩,t',p,af,g⟩).run P w=.ok (.value v) w':=by
 subst b;exact oq (λ_=>rfl) h
section
variable {dst:Option Tmp} {x y z:Operand} {t t2:TypeId} {t':TypeId} {p:String} {af:Array Edge} {g:Option (Nat×Bool)} {u v vx vy vz:aw}
def Gh{n}{ps:List _}{ps'}(h:(ps.map λq=>(q.1,a.eval q.2))=ps')(r:(Instr.buildSlice t n ps'.toArray).run P w=.ok v w'):
  (execOp a.eval ⟨dst,.buildSlice t n ps.toArray,t',p,af,g⟩).run P w=.ok (.value v) w':=by
 subst h;simp[execOp,r]
def IW(b:a.eval x=vx)(c:a.eval y=vy)(h:(Instr.makeSlice t vx vy).run P w=.ok v w'):(execOp a.eval ⟨dst,.makeSlice t x y,t',p,af,g⟩).run P w=.ok (.value v) w':=by simp[execOp,b,c,h]
def Rq(h:(Instr.makeMap t aaf).run P w=.ok v w'):(execOp a.eval ⟨dst,.makeMap t aaf,t',p,af,g⟩).run P w=.ok (.value v) w':=by simp[execOp,h]
def Mg(b:a.eval x=vx)(h:(Instr.makeMap t (aM vx)).run P w=.ok v w'):(execOp a.eval ⟨dst,.makeMap t (aM x),t',p,af,g⟩).run P w=.ok (.value v) w':=by simp[execOp,b,h]
def TX{b}(c:a.eval x=vx)(d:a.eval y=vy)(h:(Instr.lookup t vx vy b).run P w=.ok v w'):(execOp a.eval ⟨dst,.lookup t x y b,t',p,af,g⟩).run P w=.ok (.value v) w':=by simp[execOp,c,d,h]
def IX(b:a.eval x=vx)(c:a.eval y=vy)(d:a.eval z=vz)(h:(Instr.mapUpdate t vx vy vz).run P w=.ok () w'):(execOp a.eval ⟨dst,.mapUpdate t x y z,t',p,af,g⟩).run P w=.ok .skip w':=by simp[execOp,b,c,d,h]
def TY(b:a.eval x=vx)(c:a.eval y=vy)(d:a.eval z=vz)(h:(Instr.mapUpdate t vx vy vz).run P w=.ok () w'):(execOp a.eval ⟨dst,.insert t x y z,t',p,af,g⟩).run P w=.ok .skip w':=by simp[execOp,b,c,d,h]
def Rs(b:a.eval x=vx)(h:(convert t t2 vx).run P w=.ok v w'):(execOp a.eval ⟨dst,.convert t t2 x,t',p,af,g⟩).run P w=.ok (.value v) w':=by simp[execOp,b,h]
end
def ajr{d:Option Tmp}{t:TypeId}{e:TypeId}{x:Operand}{c:TypeId}{p:String}{f:Array Edge}{g}{s:Sl}
  (h:(underlying t).run P w=.ok (.slice e) w) (b:a.eval x=s.v):
  (execOp a.eval ⟨d,.call ⟨.builtin .len,#[x],#[t]⟩,c,p,f,g⟩).run P w=.ok (.value (.int .i64 s.n)) w:=by
 simp[execOp,resolve,invoke,builtin,Builtin.len_,h,b,goInt]
def IY{dst}{x}{f}{first captured}{s:List Operand}{ats}{t'}{p}{af}{g}{r}
  (b:a.eval x=.func (.func f) first.toArray captured.toArray)
  (c:∀r w,(callFunc f r).run P w=.ok (.enter f r) w) (h:first++s.map a.eval++captured=r):
  (execOp a.eval ⟨dst,.call ⟨.value x,s.toArray,ats⟩,t',p,af,g⟩).run P w=.ok (.enter f r.toArray) w:=by
 subst h;simp only[execOp,resolve,b,Deferred.ofValue,Sem.run_bind,Sem.run_pure,Result.andThen_ok,invoke,c];simp
def ot{x}{k}{i y}{code}(h:x=.int k i)(a:i<=y):(Instr.sliceBound x y code).run P w=.ok i w:=by
 subst h;have:=J
 simp[Instr.sliceBound,asIntOf,this]
def Cx{dst}{s d e}{x}{t'}{p}{af}{g}{sl}{l}
  (b:P.underlying s=aM (.slice e)) (h:P.underlying e=aM (.int .u8)) (hd:P.underlying d=aM .string) (j:a.eval x=sl.v) (f:uJ w sl l):
  (execOp a.eval ⟨dst,.convert s d x,t',p,af,g⟩).run P w=.ok (.value (.string ⟨l.toArray⟩)) w:=by
 obtain⟨n,i⟩:=f;obtain⟨c,sn,sc⟩:=sl;subst n;have k:(convert s d (.slice c (I l) sc)).run P w=.ok (.string ⟨l.toArray⟩) w:=by
  rcases c with _|ad
  ·have:l=[]:=Classical.byContradiction λa=>abV
   subst this;exact run_convert_bytes_nil w s e b h _ _ d hd
  refine run_convert_bytes_back w s d e ad sc l b h hd λp g=>?_;obtain⟨X,a,o⟩:=i (λm=>by simp[m]at g);injection a with a;subst a;exact o p _ (by simp[iA,bh g])
 simp[execOp,j,k]
def Mh{dst}{fn}{f c:List Operand}{t'}{p}{af}{g}{fv cv}(h:f.map a.eval=fv)(b:c.map a.eval=cv):
  (execOp a.eval ⟨dst,.makeFunc fn f.toArray c.toArray,t',p,af,g⟩).run P w=.ok (.value (.func fn fv.toArray cv.toArray)) w:=by
 subst h;subst b;simp[execOp,Instr.makeFunc]
def ajs{dst}{t ty}{x y}{t'}{p}{af}{g}{k}{m n}(c:a.eval x=.int k m)(d:a.eval y=.int k n)(b:n≠0):
  (execOp a.eval ⟨dst,.binOp .quo t x y ty,t',p,af,g⟩).run P w=.ok (.value (.int k (k.wrap (m.tdiv n)))) w:=by
 have e:binOp .quo t (.int k m) (.int k n)=Op.intDiv .quo k m n:=by simp[binOp]
 have h:eqGuard .quo t x y (.int k m) (.int k n)=pure _:=rfl;simp[execOp,c,d,h,e,Op.intDiv,b,mc,Sem.run_bind,Sem.run_pure,Result.andThen_ok]
def ajt{dst}{t ty}{x y}{t'}{p}{af}{g}{k}{m n}(c:a.eval x=.int k m)(d:a.eval y=.int k n)(b:n≠0):
  (execOp a.eval ⟨dst,.binOp .rem t x y ty,t',p,af,g⟩).run P w=.ok (.value (.int k (m.tmod n))) w:=by
 have e:binOp .rem t (.int k m) (.int k n)=Op.intDiv .rem k m n:=by simp[binOp]
 have h:eqGuard .rem t x y (.int k m) (.int k n)=pure _:=rfl;simp[execOp,c,d,h,e,Op.intDiv,b,mc,Sem.run_bind,Sem.run_pure,Result.andThen_ok]
def aju{dst}{t ty}{x y}{t'}{p}{af}{g}{k k'}{m n}(c:a.eval x=.int k m)(d:a.eval y=.int k' n)(f:0<=n):
  (execOp a.eval ⟨dst,.binOp .shl t x y ty,t',p,af,g⟩).run P w=.ok (.value (.int k (k.wrap (m*2 ^ (min n.toNat k.bits))))) w:=by
 have b:eqGuard .shl t x y (.int k m) (.int k' n)=pure _:=rfl;have e:binOp .shl t (.int k m) (.int k' n)=Op.shift .shl k m k' n:=rfl;have h:¬n<0:=J
 simp[execOp,c,d,b,e,Op.shift,h,mc,Sem.run_bind,Sem.run_pure,Result.andThen_ok]
def ajv{dst}{t ty}{x y}{t'}{p}{af}{g}{k k'}{m n}(c:a.eval x=.int k m)(d:a.eval y=.int k' n)(f:0<=n):
  (execOp a.eval ⟨dst,.binOp .shr t x y ty,t',p,af,g⟩).run P w=.ok (.value (.int k (m.fdiv (2 ^ (min n.toNat k.bits))))) w:=by
 have b:eqGuard .shr t x y (.int k m) (.int k' n)=pure _:=rfl;have e:binOp .shr t (.int k m) (.int k' n)=Op.shift .shr k m k' n:=rfl;have h:¬n<0:=J
 simp[execOp,c,d,b,e,Op.shift,h,mc,Sem.run_bind,Sem.run_pure,Result.andThen_ok]
def Mi{dst}{t}{x i}{t'}{p}{af}{g}{s}{k}{n}{c}
  (u:(underlying t).run P w=.ok .string w) (e:a.eval x=.string s) (d:a.eval i=.int k n) (h:0<=n) (b:s[n.toNat]? =aM c):
  (execOp a.eval ⟨dst,.index t x i,t',p,af,g⟩).run P w=.ok (.value (.int .u8 c.toNat)) w:=by
 simp[execOp,e,d,Instr.index,asIntOf,u,Sem.run_bind,Sem.run_pure,Result.andThen_ok,h,Gb,b]
def TZ{dst}{t ty}{x y}{t'}{p}{af}{g}{s u}(c:a.eval x=.string s)(d:a.eval y=.string u)(n:(s.size:Int)+u.size<=9223372036854775807):
  (execOp a.eval ⟨dst,.binOp .add t x y ty,t',p,af,g⟩).run P w=.ok (.value (.string (s++u))) w:=by
 have b:eqGuard .add t x y (.string s) (.string u)=pure _:=rfl;have e:binOp .add t (.string s) (.string u)=Op.stringOp .add s u:=rfl;have h:¬((s.size+u.size:Nat))>IntKind.i64.max:=by simp_all
 simp only[execOp,c,d,b,e,Op.stringOp,h,mc,Sem.run_bind,Sem.run_pure,Result.andThen_ok]
def ajw{dst}{t}{e}{x}{t'}{p}{af}{g}{s:Sl}
  (h:(underlying t).run P w=.ok (.slice e) w) (b:a.eval x=s.v):
  (execOp a.eval ⟨dst,.call ⟨.builtin .cap,#[x],#[t]⟩,t',p,af,g⟩).run P w=.ok (.value (.int .i64 s.c)) w:=by
 simp[execOp,resolve,invoke,builtin,Builtin.cap_,h,b,goInt]
def Gi{d:Option Tmp}{t:TypeId}{x o:Operand}{e:TypeId}{p:String}{f:Array Edge}{g:Option (Nat×Bool)}{s:ByteArray}{k:IntKind}{l:Nat}
  (u:(underlying t).run P w=.ok .string w) (c:a.eval x=.string s) (b:a.eval o=.int k (l:Int)) (h:l<=s.size) (_h2:s.size<=s.size):
  (execOp a.eval ⟨d,.slice t x (aM o) aaf aaf,e,p,f,g⟩).run P w=.ok (.value (.string (s.extract l s.size))) w:=by
 simp[execOp,c,Instr.sliceAt,u,Instr.slice,Instr.sliceBounds,ot b h]
def Gj{dst}{t}{x hi}{t'}{p}{af}{g}{s}{k}{h:Nat}
  (u:(underlying t).run P w=.ok .string w) (d:a.eval x=.string s) (c:a.eval hi=.int k h) (_h1:0<=h) (b:h<=s.size):
  (execOp a.eval ⟨dst,.slice t x aaf (aM hi) aaf,t',p,af,g⟩).run P w=.ok (.value (.string (s.extract 0 h))) w:=by
 simp[execOp,d,Instr.sliceAt,u,Instr.slice,Instr.sliceBounds,ot c b]
def Gk{dst}{t}{x lo hi}{t'}{p}{af}{g}{s}{k k'}{l h:Nat}
  (u:(underlying t).run P w=.ok .string w) (f:a.eval x=.string s) (e:a.eval lo=.int k l) (d:a.eval hi=.int k' h) (b:l<=h) (c:h<=s.size):
  (execOp a.eval ⟨dst,.slice t x (aM lo) (aM hi) aaf,t',p,af,g⟩).run P w=.ok (.value (.string (s.extract l h))) w:=by
 simp[execOp,f,Instr.sliceAt,u,Instr.slice,Instr.sliceBounds,ot d c,ot e b]
def E3{dst}{s d}{x}{t'}{p}{af}{g}{ks kd k}{n}
  (h:(underlying s).run P w=.ok (.int ks) w) (hd:(underlying d).run P w=.ok (.int kd) w) (b:a.eval x=.int k n):
  (execOp a.eval ⟨dst,.convert s d x,t',p,af,g⟩).run P w=.ok (.value (.int kd (kd.wrap n))) w:=by
 simp[execOp,b,convert,h,hd,Conv.intToInt]
def E4{t:Option Tmp}{s d:TypeId}{x:Operand}{c:TypeId}{p:String}{f:Array Edge}{g:Option (Nat×Bool)}{n:ByteArray}
  (h:(underlying s).run P w=.ok .string w) (hd:(underlying d).run P w=.ok .string w) (b:a.eval x=.string n):
  (execOp a.eval ⟨t,.convert s d x,c,p,f,g⟩).run P w=.ok (.value (.string n)) w:=by
 simp[execOp,b,convert,h,hd]
def ZI{dst}{t}{x}{t'}{p}{af}{g}{d}{v}
  (h:(underlying t).run P w=.ok d w) (hd:(match d with | .interface _=>aL | _=>L)=L) (b:a.eval x=v):
  (execOp a.eval ⟨dst,.makeInterface t x,t',p,af,g⟩).run P w=.ok (.value (.iface t v)) w:=by
 subst b;cases d<;>first | (simp at hd;done) | simp[execOp,Instr.makeInterface,h]
def T0{d:Option Tmp}{t:TypeId}{x:Operand}{c:TypeId}{p:String}{f:Array Edge}{g:Option (Nat×Bool)}{s:ByteArray}
  (h:(underlying t).run P w=.ok .string w) (b:a.eval x=.string s):
  (execOp a.eval ⟨d,.call ⟨.builtin .len,#[x],#[t]⟩,c,p,f,g⟩).run P w=.ok (.value (.int .i64 s.size)) w:=by
 simp[execOp,resolve,invoke,builtin,Builtin.len_,h,b,goInt]
def ajx{dst}{ts}{x y}{t'}{p}{af}{g}{k k'}{m n}(h:a.eval x=.int k m)(b:a.eval y=.int k' n):
  (execOp a.eval ⟨dst,.call ⟨.builtin .min,#[x,y],ts⟩,t',p,af,g⟩).run P w=.ok (.value (.int k (if n<m then n else m))) w:=by
 simp[execOp,resolve,invoke,builtin,h,b,run_min_int2]
def ajy{d:Option Tmp}{ts}{x y}{t'}{p}{af}{g}{k k'}{m n}(h:a.eval x=.int k m)(b:a.eval y=.int k' n):
  (execOp a.eval ⟨d,.call ⟨.builtin .max,#[x,y],ts⟩,t',p,af,g⟩).run P w=.ok (.value (.int k (if n>m then n else m))) w:=by
 simp[execOp,resolve,invoke,builtin,h,b,run_max_int2]
def Gl{s:Option Tmp}{t l:TypeId}{x y:Operand}{k:TypeId}{p:String}{f:Array Edge}{g:Option (Nat×Bool)}{e:TypeId}{q:Option Addr}{b:Bool}(u:(underlying t).run P w=.ok (.pointer e) w)(i:a.eval x=.pointer q)(j:a.eval y=.pointer aaf)(c:(q.isNone)=b):
  (execOp a.eval ⟨s,.binOp .eql t x y l,k,p,f,g⟩).run P w=.ok (.value (.bool b)) w:=by
 subst c;have E:∀d,(Op.equalIn (d+1) t (.pointer q) (.pointer aaf)).run P w=.ok q.isNone w:=λd=>by
  unfold Op.equalIn;cases q<;>simp only[Sem.run_bind,u,Result.andThen_ok]<;>rfl
 have h:binOp .eql t (.pointer q) (.pointer aaf)=(do pure (.bool ((<-Op.equal t (.pointer q) (.pointer aaf))))):=by cases q<;>rfl
 have G:eqGuard .eql t x y (.pointer q) (.pointer aaf)=pure ():=rfl;simp only[execOp,i,j,G,h,Op.equal,Op.maxDepth,Sem.run_bind,Sem.run_pure,Result.andThen_ok,E 9999]
def Gm{dst}{t ty}{x y}{t'}{p}{af}{g}{e}{q}{b}(hu:(underlying t).run P w=.ok (.pointer e) w)(f:a.eval x=.pointer aaf)(i:a.eval y=.pointer q)(c:(q.isNone)=b):
  (execOp a.eval ⟨dst,.binOp .eql t x y ty,t',p,af,g⟩).run P w=.ok (.value (.bool b)) w:=by
 subst c;have E:∀d,(Op.equalIn (d+1) t (.pointer aaf) (.pointer q)).run P w=.ok q.isNone w:=λd=>aey
 have h:binOp .eql t (.pointer aaf) (.pointer q)=(do pure (.bool ((<-Op.equal t (.pointer aaf) (.pointer q))))):=rfl;have G:eqGuard .eql t x y (.pointer aaf) (.pointer q)=pure _:=rfl;simp[execOp,f,i,G,h,Op.equal,Op.maxDepth,Sem.run_bind,Sem.run_pure,Result.andThen_ok,E 9999]
def Gn{dst}{t ty}{x y}{t'}{p}{af}{g}{e}{q}{b}(u:(underlying t).run P w=.ok (.pointer e) w)(f:a.eval x=.pointer q)(i:a.eval y=.pointer aaf)(c:(!q.isNone)=b):
  (execOp a.eval ⟨dst,.binOp .neq t x y ty,t',p,af,g⟩).run P w=.ok (.value (.bool b)) w:=by
 subst c;have E:∀d,(Op.equalIn (d+1) t (.pointer q) (.pointer aaf)).run P w=.ok q.isNone w:=λd=>by
  unfold Op.equalIn;cases q<;>simp only[Sem.run_bind,u]<;>rfl
 have h:binOp .neq t (.pointer q) (.pointer aaf)=(do pure (.bool (!(<-Op.equal t (.pointer q) (.pointer aaf))))):=rfl;have G:eqGuard .neq t x y (.pointer q) (.pointer aaf)=pure _:=rfl;simp[execOp,f,i,G,h,Op.equal,Op.maxDepth,Sem.run_bind,Sem.run_pure,Result.andThen_ok,E 9999]
def Gp{s:Option Tmp}{t ty}{x y}{t'}{p}{af}{g}{e}{q}{b}(hu:(underlying t).run P w=.ok (.pointer e) w)(f:a.eval x=.pointer aaf)(i:a.eval y=.pointer q)(c:(!q.isNone)=b):
  (execOp a.eval ⟨s,.binOp .neq t x y ty,t',p,af,g⟩).run P w=.ok (.value (.bool b)) w:=by
 subst c;have E:∀d,(Op.equalIn (d+1) t (.pointer aaf) (.pointer q)).run P w=.ok q.isNone w:=λd=>aey
 have h:binOp .neq t (.pointer aaf) (.pointer q)=(do pure (.bool (!(<-Op.equal t (.pointer aaf) (.pointer q))))):=by cases q<;>rfl
 have G:eqGuard .neq t x y (.pointer aaf) (.pointer q)=pure _:=rfl;simp[execOp,f,i,G,h,Op.equal,Op.maxDepth,Sem.run_bind,Sem.run_pure,Result.andThen_ok,E 9999]
def Rt{dst}{t ty}{x y}{t'}{p}{af}{g}{m n}(u:P.underlying t=aM .bool)(b:a.eval x=.bool m)(c:a.eval y=.bool n):
  (execOp a.eval ⟨dst,.binOp .eql t x y ty,t',p,af,g⟩).run P w=.ok (.value (.bool (m==n))) w:=by
 have h:eqGuard .eql t x y (.bool m) (.bool n)=pure _:=rfl;simp[execOp,b,c,h,run_eql_bool w t m n u]
def Ru{dst}{t ty}{x y}{t'}{p}{af}{g}{m n}(u:P.underlying t=aM .bool)(b:a.eval x=.bool m)(c:a.eval y=.bool n):
  (execOp a.eval ⟨dst,.binOp .neq t x y ty,t',p,af,g⟩).run P w=.ok (.value (.bool (!(m==n)))) w:=by
 have h:eqGuard .neq t x y (.bool m) (.bool n)=pure _:=rfl;simp[execOp,b,c,h,run_neq_bool w t m n u]
def IZ{c:Option Tmp}{t j:TypeId}{x y:Operand}{t'}{p}{af}{g}{e}{s:Sl}(u:(underlying t).run P w=.ok (.slice e) w)(f:a.eval x=s.v)(i:a.eval y=.slice aaf 0 0):
  (execOp a.eval ⟨c,.binOp .eql t x y j,t',p,af,g⟩).run P w=.ok (.value (.bool (s.a.isNone))) w:=by
 obtain⟨b,sn,sc⟩:=s;have E:∀d,(Op.equalIn (d+1) t (.slice b sn sc) (.slice aaf 0 0)).run P w=.ok b.isNone w:=λd=>by
  unfold Op.equalIn;cases b<;>simp only[Sem.run_bind,u]<;>rfl
 have h:binOp .eql t (.slice b sn sc) (.slice aaf 0 0)=(do pure (.bool ((<-Op.equal t (.slice b sn sc) (.slice aaf 0 0))))):=by cases b<;>rfl
 have G:eqGuard .eql t x y (.slice b sn sc) (.slice aaf 0 0)=pure _:=rfl;simp[execOp,f,i,G,h,Op.equal,Op.maxDepth,Sem.run_bind,Sem.run_pure,Result.andThen_ok,E 9999]
def I0{dst}{t ty}{x y}{t'}{p}{af}{g}{e}{s:Sl}(hu:(underlying t).run P w=.ok (.slice e) w)(c:a.eval x=.slice aaf 0 0)(f:a.eval y=s.v):
  (execOp a.eval ⟨dst,.binOp .eql t x y ty,t',p,af,g⟩).run P w=.ok (.value (.bool (s.a.isNone))) w:=by
 obtain⟨b,sn,sc⟩:=s;have E:∀d,(Op.equalIn (d+1) t (.slice aaf 0 0) (.slice b sn sc)).run P w=.ok b.isNone w:=λd=>aey
 have h:binOp .eql t (.slice aaf 0 0) (.slice b sn sc)=(do pure (.bool ((<-Op.equal t (.slice aaf 0 0) (.slice b sn sc))))):=rfl;have G:eqGuard .eql t x y (.slice aaf 0 0) (.slice b sn sc)=pure _:=rfl;simp[execOp,c,f,G,h,Op.equal,Op.maxDepth,Sem.run_bind,Sem.run_pure,Result.andThen_ok,E 9999]
def I1{dst}{t ty}{x y}{t'}{p}{af}{g}{e}{s:Sl}(u:(underlying t).run P w=.ok (.slice e) w)(c:a.eval x=s.v)(f:a.eval y=.slice aaf 0 0):
  (execOp a.eval ⟨dst,.binOp .neq t x y ty,t',p,af,g⟩).run P w=.ok (.value (.bool (!s.a.isNone))) w:=by
 obtain⟨b,sn,sc⟩:=s;have E:∀d,(Op.equalIn (d+1) t (.slice b sn sc) (.slice aaf 0 0)).run P w=.ok b.isNone w:=λd=>by
  unfold Op.equalIn;cases b<;>simp only[Sem.run_bind,u]<;>rfl
 have h:binOp .neq t (.slice b sn sc) (.slice aaf 0 0)=(do pure (.bool (!(<-Op.equal t (.slice b sn sc) (.slice aaf 0 0))))):=by cases b<;>rfl
 have G:eqGuard .neq t x y (.slice b sn sc) (.slice aaf 0 0)=pure _:=rfl;simp[execOp,c,f,G,h,Op.equal,Op.maxDepth,Sem.run_bind,Sem.run_pure,Result.andThen_ok,E 9999]
def I2{c:Option Tmp}{t k:TypeId}{x y:Operand}{j:TypeId}{p:String}{af}{g}{e}{s:Sl}(hu:(underlying t).run P w=.ok (.slice e) w)(f:a.eval x=.slice aaf 0 0)(i:a.eval y=s.v):
  (execOp a.eval ⟨c,.binOp .neq t x y k,j,p,af,g⟩).run P w=.ok (.value (.bool (!s.a.isNone))) w:=by
 obtain⟨b,sn,sc⟩:=s;have E:∀d,(Op.equalIn (d+1) t (.slice aaf 0 0) (.slice b sn sc)).run P w=.ok b.isNone w:=λd=>aey
 have h:binOp .neq t (.slice aaf 0 0) (.slice b sn sc)=(do pure (.bool (!(<-Op.equal t (.slice aaf 0 0) (.slice b sn sc))))):=by cases b<;>rfl
 have G:eqGuard .neq t x y (.slice aaf 0 0) (.slice b sn sc)=pure _:=rfl;simp[execOp,f,i,G,h,Op.equal,Op.maxDepth,Sem.run_bind,Sem.run_pure,Result.andThen_ok,E 9999]
def Mj{dst}{t e}{x lo}{t'}{p}{af}{g}{s:Sl}{k}{l sz:Nat}
  (u:(underlying t).run P w=.ok (.slice e) w) (h:(sizeOf e).run P w=.ok sz w) (d:a.eval x=s.v) (c:a.eval lo=.int k l) (b:l<=s.n) (_h2:s.n<=s.c) (_h3:s.c<=s.c):
  (execOp a.eval ⟨dst,.slice t x (aM lo) aaf aaf,t',p,af,g⟩).run P w=.ok (.value (s.cut l s.n s.c sz).v) w:=by
 simp[execOp,d,Instr.sliceAt,u,Sem.run_bind,Result.andThen_ok,Instr.slice,Instr.sliceBounds,lh,Cq,Sem.run_pure,ot c b,h,Sl.cut]
def Ml{dst}{t e}{x hi}{t'}{p}{af}{g}{s:Sl}{k}{h sz:Nat}
  (u:(underlying t).run P w=.ok (.slice e) w) (z:(sizeOf e).run P w=.ok sz w) (d:a.eval x=s.v) (c:a.eval hi=.int k h) (_h1:0<=h) (b:h<=s.c) (_h3:s.c<=s.c):
  (execOp a.eval ⟨dst,.slice t x aaf (aM hi) aaf,t',p,af,g⟩).run P w=.ok (.value (s.cut 0 h s.c sz).v) w:=by
 simp[execOp,d,Instr.sliceAt,u,Sem.run_bind,Result.andThen_ok,Instr.slice,Instr.sliceBounds,lh,Cq,Sem.run_pure,ot c b,z,Sl.cut]
def Mm{dst}{t e}{x lo hi}{t'}{p}{af}{g}{s:Sl}{k k'}{l h sz:Nat}
  (u:(underlying t).run P w=.ok (.slice e) w) (z:(sizeOf e).run P w=.ok sz w) (i:a.eval x=s.v) (f:a.eval lo=.int k l) (d:a.eval hi=.int k' h) (b:l<=h) (c:h<=s.c) (_h3:s.c<=s.c):
  (execOp a.eval ⟨dst,.slice t x (aM lo) (aM hi) aaf,t',p,af,g⟩).run P w=.ok (.value (s.cut l h s.c sz).v) w:=by
 simp[execOp,i,Instr.sliceAt,u,Sem.run_bind,Result.andThen_ok,Instr.slice,Instr.sliceBounds,lh,Cq,Sem.run_pure,ot d c,ot f b,z,Sl.cut]
def Mn{dst}{t e}{x hi mx}{t'}{p}{af}{g}{s:Sl}{k' k2}{h m sz:Nat}
  (u:(underlying t).run P w=.ok (.slice e) w) (z:(sizeOf e).run P w=.ok sz w) (i:a.eval x=s.v) (d:a.eval hi=.int k' h) (f:a.eval mx=.int k2 m) (_h1:0<=h) (b:h<=m) (c:m<=s.c):
  (execOp a.eval ⟨dst,.slice t x aaf (aM hi) (aM mx),t',p,af,g⟩).run P w=.ok (.value (s.cut 0 h m sz).v) w:=by
 simp[execOp,i,Instr.sliceAt,u,Sem.run_bind,Result.andThen_ok,Instr.slice,Instr.sliceBounds,lh,Cq,Sem.run_pure,ot f c,ot d b,z,Sl.cut]
def Mo{dst}{t e}{x lo hi mx}{t'}{p}{af}{g}{s:Sl}{k k' k2}{l h m sz:Nat}
  (u:(underlying t).run P w=.ok (.slice e) w) (z:(sizeOf e).run P w=.ok sz w) (n:a.eval x=s.v) (i:a.eval lo=.int k l) (f:a.eval hi=.int k' h) (j:a.eval mx=.int k2 m) (b:l<=h) (c:h<=m) (d:m<=s.c):
  (execOp a.eval ⟨dst,.slice t x (aM lo) (aM hi) (aM mx),t',p,af,g⟩).run P w=.ok (.value (s.cut l h m sz).v) w:=by
 simp only[execOp,n,Instr.sliceAt,u,Sem.run_bind,Result.andThen_ok,Instr.slice,Instr.sliceBounds,lh,Sem.run_pure,ot j d,ot f c,ot i b,z,Sl.cut]
section
variable {K:Act->M->Prop} {o:Oper}
def aeL(g:Region.wanted o (yielded ops a.tmps)=L)(h:o.wp P a w (wpList P ops Q rest) Q):wpList P ops Q (o::rest) a w:=by
 unfold wpList;simp_all
def AY v (r:(execOp a.eval o).run P w=.ok (.value v) w') (b:a.put o.dst v=a') (h:K a' w'):o.wp P a w K Q:=by
 subst b;unfold Oper.wp;rw[r];exact h
def T1(r:(execOp a.eval o).run P w=.ok .skip w')(b:a.put o.dst undef=a')(h:K a' w'):o.wp P a w K Q:=by
 subst b;unfold Oper.wp;rw[r];exact h
def Oy{f}{args}(r:(execOp a.eval o).run P w=.ok (.enter f args) w)
  (h:Calls P f args w λe w'=>∃v a',e=.returned v/\a.put o.dst v=a'/\K a' w'):o.wp P a w K Q:=by
 unfold Oper.wp;rw[r];refine h.mono ?_;simp_all
def I3{dst}{ty}{x y}{t'}{p}{af}{g}{b o}{cs vs Ci}{et}{n}
  (h:(sizeOf ty).run P w=.ok n w) (k:a.eval x=.pointer (aM ⟨b,o,aaf⟩)) (v:(a.eval y).cells=vs.toArray) (j:I vs=n)
  (f:vs.all Value.oneCell'=L) (d:Blk w b et cs) (S:o+I vs<=I cs) (l:fQ cs o vs=Ci) (i:a.put dst undef=a')
  (e:∀c,Only [b] w c->Blk c b et Ci->K a' c):Oper.wp P ⟨dst,.store ty x y,t',p,af,g⟩ a w K Q:=
 T1 (ZD h k v j (dF.1 f) d S) i (e _ (Only.setRow _ _ _) (by rw[<-l];exact d.setRow _))
def I4{dst}{ty}{t'}{p}{af}{g}{z}{zs}{d:Nat->Act}
  (i:(zeroValue ty).run P w=.ok z w) (f:z.cells=zs.toArray) (e:∀b,a.put dst (.pointer (aM ⟨b,0,aaf⟩))=d b)
  (h:∀b c,w.heap.size<=b->Only [] w c->Blk c b ty zs->K (d b) c):Oper.wp P ⟨dst,.alloc ty,t',p,af,g⟩ a w K Q:=
 AY _ (ZE i f) (e _) (h _ _ (aX _) (Only.alloc _ _) (Blk.alloc _ _ _))
def aeM{dst}{ty}{x}{t'}{p}{af}{g}{zs}{d:Nat->Act}
  (f:(a.eval x).cells=zs.toArray) (e:∀b,a.put dst (.pointer (aM ⟨b,0,aaf⟩))=d b)
  (h:∀b c,w.heap.size<=b->Only [] w c->Blk c b ty zs->K (d b) c):Oper.wp P ⟨dst,.box ty x,t',p,af,g⟩ a w K Q:=
 AY _ (ajq f) (e _) (h _ _ (aX _) (Only.alloc _ _) (Blk.alloc _ _ _))
end
def Rv{id}(h:Q .normal a w):Exit.inBlock id Q (.exit id) a w:=by simpa[Exit.inBlock]using h
def Mp{id id'}(i:(id'==id)=aL)(h:Q (.exit id') a w):Exit.inBlock id Q (.exit id') a w:=by simpa[Exit.inBlock,by simpa using i]using h
def E5(P:Program)(a:Act)(w:M):List ResultVar->List aw->Prop
 | [],[]=>True
 | .tmp t::r,v::s=>a.eval (.tmp t)=v/\E5 P a w r s
 | .cell p t::r,v::s=>(∃ad,a.eval (.tmp p)=.pointer (aM ad)/\(loadVar t ad).run P w=.ok v w)/\E5 P a w r s
 | _,_=>False
def ql(f:ResultVar->Sem aw)(b:∀t,f (.tmp t)=pure (a.tmps.getD t undef))(h:∀q t,f (.cell q t)=(do loadVar t (<-asAddr (a.tmps.getD q undef)))):
  ∀r s,E5 P a w r s->(r.mapM f).run P w=.ok s w
 | [],[],_=>rfl
 | [],_::_,a=>a.elim
 | .tmp t::c,[],a=>a.elim
 | .cell _ _::c,[],a=>a.elim
 | .tmp t::d,v::s,c=>by
  have i:=ql f b h d s c.2;have e:a.tmps.getD t undef=v:=c.1;simp_all
 | .cell q t::j,v::s,d=>by
  have i:=ql f b h j s d.2;obtain⟨⟨ad,e,g⟩,_⟩:=d;have c:a.tmps.getD q undef=.pointer _:=e;rw[List.mapM_cons,h];simp[c,asAddr,g,i]
def aeN{fn}{rs}{v}(h:fn.results=rs.toArray)(r:E5 P a w rs [v]):(results fn a.tmps).run P w=.ok v w:=by
 unfold results;rw[h,List.mapM_toArray];simp only[Sem.run_bind,map_eq_pure_bind];rw[ql _ (λ_=>rfl) (λ_ _=>rfl) rs [v] r];rfl
def Mq{fn}{rs}{vs}(h:fn.results=rs.toArray)(n:(I vs==1)=aL)(r:E5 P a w rs vs):(results fn a.tmps).run P w=.ok (.tuple vs.toArray) w:=by
 unfold results;rw[h,List.mapM_toArray];simp only[Sem.run_bind,map_eq_pure_bind,Sem.run_pure];rw[ql _ (λ_=>rfl) (λ_ _=>rfl) rs vs r];simp_all
def ZJ{fn}{R:aw->M->Prop}{v}(r:(results fn a.tmps).run P w=.ok v w)(hd:a.defers=[])(h:R v w):
 bodyPost P fn (λe w'=>∃v,e=.returned v/\R v w') .ret a w:=bodyPost_ret r hd ⟨v,rfl,h⟩
def Mr{fn}{R:aw->M->Prop}{v}(r:(results fn a.tmps).run P w=.ok v w)(hd:a.defers=[])(h:R v w):
 bodyPost P fn (λe w'=>∃v,e=.returned v/\R v w') .normal a w:=bodyPost_end r hd ⟨v,rfl,h⟩
def Gq{ty}{ad}{cs}{n}(N:(isAgg ty).run P w=.ok L w)(h:(sizeOf ty).run P w=.ok n w)(a:I cs=n)(c:Cells w ad cs):
  (loadVar ty ad).run P w=.ok (.agg cs.toArray) w:=by
 have l:=run_loadCells_list (P:=P) w ad cs c;rw[a]at l;simp[loadVar,N,h,l,Sem.run_pure]
def Ev{ty}{ad}{v}(N:(isAgg ty).run P w=.ok aL w)(h:w.cell? ad=aM v):
  (loadVar ty ad).run P w=.ok v w:=by
 simp[loadVar,N,mc,run_load,h]
end
section
variable {P:Program} {ops:Array Oper} {rest:List Oper} {a a':Act} {w:M} {Q:Act->Prop}
def ajz{o} v (g:Region.wanted o (yielded ops a.tmps)=L)
  (r:∀b,(∃n,b=w.drewN n)->(execOp a.eval o).run P b=.ok (.value v) b) (d:a.put o.dst v=a')
  (c:wpQuiet P ops (λb=>∃n,b=w.drewN n) Q rest a'):wpQuiet P ops (λb=>∃n,b=w.drewN n) Q (o::rest) a:=by
 subst d;unfold wpQuiet;rw[aV g];refine⟨v,λb h=>?_,c⟩;unfold Oper.quietAt;rw[r b h];exact⟨rfl,rfl⟩
def aqi{o}(g:Region.wanted o (yielded ops a.tmps)=aL)(h:a.put o.dst undef=a')
  (c:wpQuiet P ops (λb=>∃n,b=w.drewN n) Q rest a'):wpQuiet P ops (λb=>∃n,b=w.drewN n) Q (o::rest) a:=by
 subst h;unfold wpQuiet;simp_all
end
def T2{w w'}:cr [] w w':=λ_ h=>abS
def cr.refl bs w:cr bs w w:=λ_ _=>rfl
section
variable {P:Program} {ops:Array Oper} {Q:Exit->Act->M->Prop} {md:Region.Mode} {E:Nat->M->M->Prop} {F:M->Prop}
def gf(P:Program)(m:Region.Mode)(o:Array Oper)(b:Exit->Act->M->Prop)(E:Nat->M->M->Prop):Nat->Array Bool->Act->M->Prop
 | 0,c,a,w=>Region.ready m o c=[]/\b .normal a w
 | fG+1,c,a,w=>
  (Region.ready m o c=[]->b .normal a w)/\
  ∀i∈Region.ready m o c,wpOp P o b i (λe d=>E i w d/\gf P m o b E fG (c.setIfInBounds i L) e d) a w
def Cy:∀fG b a w,gf P md ops Q E fG b a w->wpAny P md ops Q fG b a w
 | 0,_,_,_,h=>h
 | fG+1,_,_,_,h=>⟨h.1,λd i=>wpOp_mono (λa e c=>Cy fG _ a e c.2) (h.2 d i)⟩
def tY(m:Region.Mode)(o:Array Oper)(b:Array Bool):Prop:=∀k a,o[k]? =aM a->b.getD k aL=L->∀e∈a.after,Region.binds m e=L->b.getD e.on aL=L
def wB(m:Region.Mode)(o:Array Oper)(b:Array Bool):Bool:=
 (List.range o.size).all λk=>!b.getD k aL||((o[k]?).map (·.after.all λe=>!Region.binds m e||b.getD e.on aL)).getD L
def E6{bO}(h:wB md ops bO=L):tY md ops bO:=by
 intro k o hk l e a b;have:=(dF.1 h) k (kg.2 (ob.1 hk).1);simp only[l,qc,hk,lh,jc,Array.all_eq_true_iff_forall_mem,cu]at this
 grind
def tY.add{bO}{j}(c:tY md ops bO)(d:j∈Region.ready md ops bO):tY md ops (bO.setIfInBounds j L):=by
 intro k o hk l e a b;obtain⟨_,f,T,g⟩:=mem_ready.1 d;by_cases h:j=k
 ·subst h;rw[T]at hk;injection hk with hk;subst hk;exact getD_set_true (g e a b)
 rw[getD_set_ne aL h]at l;exact getD_set_true (c k o hk l e a b)
def tZ(m:Region.Mode)(o:Array Oper)(i:Nat):List Nat->List Nat->Bool
 | _,[]=>L
 | s,j::r=>((o[j]?).map λa=>a.after.any λe=>Region.binds m e&&(e.on==i||s.contains e.on)).getD aL&&tZ m o i (j::s) r
def AZ{i}{bO}(h:tY md ops bO):∀D s,tZ md ops i s D=L->(∀k∈s,bO.getD k aL=L->bO.getD i aL=L)->∀j∈D,∀o,ops[j]? =aM o->(∀e∈o.after,Region.binds md e=L->bO.getD e.on aL=L)->bO.getD i aL=L
 | [],_,_,_,j,a,_,_,_=>by simp at a
 | k::r,s,a,d,j,b,o,c,g=>by
  simp[tZ,aU]at a;have hk:∀o,ops[k]? =aM o->(∀e∈o.after,Region.binds md e=L->bO.getD e.on aL=L)->bO.getD i aL=L:=abV
  rcases aY.1 b with rfl | b
  ·exact hk o c g
  refine AZ h r _ a.2 ?_ j b o c g;intro x e l;rcases aY.1 e with rfl | e
  ·have f:=a.1;rcases hx2:ops[x]? with _|i
   ·rw[hx2]at f;simp at f
   exact hk i hx2 (h x i hx2 l)
  exact d x e l
def ua{i}{oi}{v}{D}(h:ops[i]? =aM oi)(m:∀(j:Nat) o s b,ops[j]? =aM o->o.op≠.select s b)
  (n:∀c a w,Q (.panic c) (a.put oi.dst v) w->Q (.panic c) a w) (l:tZ md ops i [] D=L)
  (N:List Nat) (p:∀j w f,j∉D->j∉N->F w->E j w f->F f) (g:∀w,F w->E i w w):
  ∀fG d a w,tY md ops d->(∀k∈N,d.getD k L=L)->
   (∀j b,ops[j]? =aM b->j≠i->d.getD j L=aL->(∀e∈b.after,Region.binds md e=L->e.on≠i)->oi.apart ops b=L)->
   i∈Region.ready md ops d->YieldsIf P ops F oi v a->F w->
   gf P md ops Q E fG (d.setIfInBounds i L) (a.put oi.dst v) w->gf P md ops Q E (fG+1) d a w:=by
 intro fG
 induction fG with
 | zero=>
  intro d a w _ _ _ r y F H;refine⟨λc=>(by rw[c]at r;cases r),λj e=>?_⟩;by_cases b:j=i
  ·subst b;exact y.wpOp h F ⟨g w F,H⟩
  have:=ready_mono e b;rw[H.1]at this;cases this
 | succ fG x=>
  intro d a w u t Y r y F H;refine⟨λv=>(by rw[v]at r;cases r),λj q=>?_⟩;by_cases c:j=i
  ·subst c;exact y.wpOp h F ⟨g w F,H⟩
  have X:=H.2 j (ready_mono q c);obtain⟨a,B,T,W⟩:=mem_ready.1 q;have V:=(mem_ready.1 r).1;have J:d.getD i aL=aL:=abV
  have G:∀e∈B.after,Region.binds md e=L->e.on≠i:=λe he hb am=>abV
  have E:j∉D:=λP=>by
   have:=AZ u D [] l aaV j P B T W;rw[J]at this;cases this
  have z:j∉N:=λP=>by
   have:=t j P;rw[a]at this;cases this
  have C:∀k∈N,(d.setIfInBounds j L).getD k L=L:=λk hk=>by
   by_cases b:j=k
   ·subst b;exact absurd hk z
   rw[getD_set_ne L b];exact t k hk
  have h2:=wpOp_putIf T (Y j B T c a G) (λs b=>m i oi s b h) (λs b=>m j B s b T) n y X;have R:∀k ok,ops[k]? =aM ok->k≠i->(d.setIfInBounds j L).getD k L=aL->
    _->oi.apart ops ok=L:=λk ok hk i e D=>by
   refine Y k ok hk i ?_ D;by_cases b:j=k
   ·subst b;exact a
   rw[getD_set_ne L b]at e;exact e
  refine wpOp_mono (λS f A=>⟨A.2.1,x _ S f (u.add q) C R (ready_mono r (Ne.symm c)) A.1 (p j w f E z F A.2.1) ?_⟩) h2;rw[Array.setIfInBounds_comm _ _ c];exact A.2.2
def Ms i {eH} {oi} {a a'} {w} {fG} {bO} (D N:List Nat) v F (hi:iL eH i=aM oi)
  (s:Region.noSelect eH.toArray=L) (o:Region.free md eH.toArray bO i=L) (hr:(Region.ready md eH.toArray bO).contains i=L) (n:wB md eH.toArray bO=L) (f:tZ md eH.toArray i [] D=L) (q:(N.all λk=>bO.getD k L)=L)
  (l:∀c a w,Q (.panic c) (a.put oi.dst v) w->Q (.panic c) a w) (p:∀j w d,j∉D->j∉N->F w->E j w d->F d) (e:∀w,F w->E i w w) (g:F w)
  (y:YieldsIf P eH.toArray F oi v a) (m:a.put oi.dst v=a')
  (h:gf P md eH.toArray Q E fG (bO.setIfInBounds i L) a' w):gf P md eH.toArray Q E (fG+1) bO a w:=by
 subst m;have b:eH.toArray[i]? =aM oi:=adr
 exact ua b (Region.noSelect_spec s) l f N p e fG bO a w (E6 n) (λk hk=>abV) (Region.free_spec b o) agR y g h
def ajA i {eH} {oi} {a} {w} {fG} {bO} (hi:iL eH i=aM oi) (hr:Region.ready md eH.toArray bO=[i])
  (g:Region.wanted oi (yielded eH.toArray a.tmps)=L)
  (d:oi.wp P a w (λc b=>E i w b/\gf P md eH.toArray Q E fG (bO.setIfInBounds i L) c b) Q):gf P md eH.toArray Q E (fG+1) bO a w:=by
 have F:eH.toArray[i]? =aM oi:=adr
 refine⟨λh0=>agK,λj h=>?_⟩;rw[hr]at h;obtain rfl:j=i:=by simpa using h
 unfold wpOp;simp_all
def ZK i {eH} {oi} {a a'} {w} {fG} {bO} (hi:iL eH i=aM oi) (hr:Region.ready md eH.toArray bO=[i])
  (g:Region.wanted oi (yielded eH.toArray a.tmps)=aL) (d:E i w w) (b:a.put oi.dst undef=a')
  (c:gf P md eH.toArray Q E fG (bO.setIfInBounds i L) a' w):gf P md eH.toArray Q E (fG+1) bO a w:=by
 subst b;have F:eH.toArray[i]? =aM oi:=adr
 refine⟨λh0=>agK,λj h=>?_⟩;rw[hr]at h;obtain rfl:j=i:=by simpa using h
 unfold wpOp;simp_all
def ajB i j {eH} {oi oj} {a} {w} {fG} {bO} (hi:iL eH i=aM oi) (h:iL eH j=aM oj) (hr:Region.ready md eH.toArray bO=[i,j])
  (e:if Region.wanted oi (yielded eH.toArray a.tmps)then oi.wp P a w (λc b=>E i w b/\gf P md eH.toArray Q E fG (bO.setIfInBounds i L) c b) Q∨(oi.asks P a w/\LetsOut Q)
   else(λc b=>E i w b/\gf P md eH.toArray Q E fG (bO.setIfInBounds i L) c b) (a.put oi.dst undef) w)
  (f:if Region.wanted oj (yielded eH.toArray a.tmps)then oj.wp P a w (λc b=>E j w b/\gf P md eH.toArray Q E fG (bO.setIfInBounds j L) c b) Q∨(oj.asks P a w/\LetsOut Q)
   else(λc b=>E j w b/\gf P md eH.toArray Q E fG (bO.setIfInBounds j L) c b) (a.put oj.dst undef) w):gf P md eH.toArray Q E (fG+1) bO a w:=by
 have F:eH.toArray[i]? =aM oi:=adr
 have d:eH.toArray[j]? =aM oj:=by rw[lu]at h;simpa using h
 refine⟨λh0=>agK,λk hk=>?_⟩;rw[hr]at hk;unfold wpOp;rcases aY.1 hk with rfl | hk<;>simp_all
def aeO{bO}{a}{w}{fG}(r:Region.ready md ops bO=[])(h:Q .normal a w):gf P md ops Q E fG bO a w:=by
 cases fG with
 | zero=>exact⟨r,h⟩
 | succ n=>exact⟨λ_=>h,by rw[r];simp⟩
def I5{id}{e:List Oper}{a}{w} E (m:P.follows .mixedOrders=L)
  (h:gf P .any e.toArray Q E (I e) (Array.replicate (I e) aL) a w.drew):(Code.region id e.toArray L).wp P Q a w:=by
 refine wp_region_any m (Cy (E:=E) _ _ _ _ ?_);simpa using h
def EL(s:List (Nat×List Nat))(j:Nat)(w a:M):Prop:=match s.lookup j with | some l=>cr l w a | none=>a.heap=w.heap
def T3{ls}{i}(h:ls.lookup i=aaf) w:EL ls i w w:=by unfold EL;rw[h]
def ZL{ls}{D N:List Nat}:∀j w a,j∉D->j∉N->True->EL ls j w a->True:=λ_ _ _ _ _ h _=>h
def Mu{s}{l} w w' (a:w'.heap[s.blk]? =w.heap[s.blk]?) (h:uJ w s l):uJ w' s l:=
 ⟨h.1,λb=>by
  obtain⟨ad,c,d⟩:=h.2 b;refine⟨ad,c,d.keep ?_⟩;simpa[Sl.blk,c]using a⟩
def acK{e:List Oper}{o}{v}{a}(g:Region.wanted o (yielded e.toArray a.tmps)=L)(h:∀w,F w->(execOp a.eval o).run P w=.ok (.value v) w):YieldsIf P e.toArray F o v a:=.inl ⟨g,h⟩
def aeP{e:List Oper}{o}{a}(h:Region.wanted o (yielded e.toArray a.tmps)=aL):YieldsIf P e.toArray F o undef a:=.inr ⟨h,rfl⟩
end
def ub(x:Int):Prop:= -9223372036854775808<=x/\x<=9223372036854775807
def wr{x}(h:ub x):IntKind.i64.wrap x=x:=IntWalk.i64_in _ ⟨h.1,h.2⟩
def fe{x}(h: -9223372036854775808<=x)(a:x<=9223372036854775807):IntKind.i64.wrap x=x:=IntWalk.i64_in _ ⟨h,a⟩
def T4 x:ub (IntKind.i64.wrap x):=by
 rw[IntKind.wrap_i64];constructor<;>omega
abbrev Rp(a:Type):=M->(Nat->Prop)->a->List aw->Prop
structure Rp.Ok {α:Type} (r:Rp α):Prop where
 keep:∀{w w':M} {F:Nat->Prop} {x:α} {cs:List aw},r w F x cs->(∀k,F k->k<w.heap.size->w'.heap[k]? =w.heap[k]?)->r w' F x cs
 inHeap:∀{w:M} {F:Nat->Prop} {x:α} {cs:List aw},r w F x cs->r w (λk=>F k/\k<w.heap.size) x cs
 mono:∀{w:M} {F G:Nat->Prop} {x:α} {cs:List aw},r w F x cs->(∀k,F k->G k)->r w G x cs
 one:∀{w:M} {F:Nat->Prop} {x:α} {cs:List aw},r w F x cs->∀v,v∈cs->v.oneCell'=L
section
variable {α:Type} {r:Rp α} {size:Nat} {w w':M} {F G:Nat->Prop} {s:Sl} {xs:List α}
structure SliceF (r:Rp α) (size:Nat) (w:M) (F:Nat->Prop) (s:Sl) (xs:List α):Prop where
 len:s.n=I xs
 cap:s.n<=s.c
 nil0:s.a=aaf->s.c=0
 big:s.c<=9223372036854775807
 at_:∀j x,xs[j]? =aM x->∃base cs,s.a=aM base/\F base.block/\I cs=size/\Cells w (base.add (j*size)) cs/\r w F x cs
def ou(a:Addr) n:(a.add n).block=a.block:=by unfold Addr.add;split<;>rfl
def qG(a:Addr) i j:(a.add i).add j=a.add (i+j):=by
 unfold Addr.add;by_cases h:i=0<;>by_cases b:j=0<;>simp[h,b,dB]
def Rw(a:Addr):a.add 0=a:=rfl
def gu b o n:(⟨b,o,aaf⟩:Addr).add n=⟨b,o+n,aaf⟩:=by unfold Addr.add;split<;>simp_all
def Cells.sub{a}{cs vs}(h:Cells w a cs) k (c:∀j v,vs[j]? =aM v->cs[k+j]? =aM v):Cells w (a.add k) vs:=λj v b=>by
 rw[qG];exact h _ v (c j v b)
def Cells.dM{a}{cs}(b:Cells w a cs) k v (c:cs[k]? =aM v):Cells w (a.add k) [v]:=b.sub k λj u h=>by
 cases j with
 | zero=>simpa[c]using h
 | succ j=>simp at h
def SliceF.nil(r:Rp α) size w F:SliceF r size w F Sl.nil []:=⟨rfl,aX _,λ_=>rfl,X,λj x h=>abS⟩
def SliceF.keep(a:r.Ok)(h:SliceF r size w F s xs)(d:0<size)(hk:∀k,F k->k<w.heap.size->w'.heap[k]? =w.heap[k]?):SliceF r size w' F s xs:=
 ⟨h.len,h.cap,h.nil0,h.big,λj x b=>by
  obtain⟨s,e,k,f,g,i,l⟩:=h.at_ j x b;refine⟨s,e,k,f,g,i.keep ?_,a.keep l hk⟩;have W:(s.add (j*size)).block<w.heap.size:=by
   cases e with
   | nil=>simp at g;omega
   | cons c e=>exact i.lt
  rw[ou]at W⊢;exact hk _ f W⟩
def SliceF.mono(a:r.Ok)(h:SliceF r size w F s xs)(hk:∀k,F k->G k):SliceF r size w G s xs:=
 ⟨h.len,h.cap,h.nil0,h.big,λj x b=>by
  obtain⟨s,c,d,e,f,g,i⟩:=h.at_ j x b;exact⟨s,c,d,hk _ e,f,g,a.mono i hk⟩⟩
def SliceF.inHeap(a:r.Ok)(h:SliceF r size w F s xs)(d:0<size):SliceF r size w (λk=>F k/\k<w.heap.size) s xs:=
 ⟨h.len,h.cap,h.nil0,h.big,λj x b=>by
  obtain⟨s,e,i,k,f,g,l⟩:=h.at_ j x b;refine⟨s,e,i,⟨k,?_⟩,f,g,a.inHeap l⟩;have W:(s.add (j*size)).block<w.heap.size:=by
   cases e with
   | nil=>simp at f;omega
   | cons c e=>exact g.lt
  rwa[ou]at W⟩
def SliceF.get(h:SliceF r size w F s xs){i:Int}(j:0<=i)(k:i<s.n):
  ∃ad x c,cT s i size ad/\xs[i.toNat]? =aM x/\F ad.block/\I c=size/\Cells w ad c/\r w F x c:=by
 have l:=h.len;have W:i.toNat<I xs:=J
 obtain⟨b,c,g,a,d,e,f⟩:=h.at_ i.toNat _ (bh W);exact⟨_,_,c,⟨b,g,j,k,rfl⟩,bh W,by rw[ou];exact a,d,e,f⟩
def SliceF.mem(h:SliceF r size w F s xs){x}(b:x∈xs):∃c,r w F x c:=by
 obtain⟨d,j⟩:=ig b;obtain⟨_,c,_,_,_,_,a⟩:=h.at_ d x j;exact⟨c,a⟩
def cT.Xl{i}{a b}(h:cT s i size a)(k:cT s i size b):a=b:=by
 obtain⟨x,d,_,_,e⟩:=h;obtain⟨y,c,_,_,f⟩:=k;rw[d]at c;injection c with c;rw[e,f,c]
def SliceF.cut(a:SliceF r size w F s xs){lo hi m}(c:lo<=hi)(d:hi<=m)(e:hi<=s.n)(f:m<=s.c):SliceF r size w F (s.cut lo hi m size) ((xs.drop lo).take (hi-lo)):=by
 have l:=a.len;refine⟨?_,?_,λb=>?_,by have:=a.big;simp[Sl.cut];omega,λj x h=>?_⟩
 ·simp[Sl.cut,ch,cG];omega
 ·simp[Sl.cut];omega
 ·simp[Sl.cut]at b⊢;split at b
  ·omega
  have:=a.nil0 (by simpa using b);omega
 rw[xr]at h;split at h
 ·rw[gX]at h;obtain⟨s,g,i,k,m,n,o⟩:=a.at_ _ _ h;refine⟨s.add (lo*size),g,?_,by rw[ou];exact k,m,?_,o⟩
  ·simp[Sl.cut];rw[aR J,i];rfl
  rw[qG,<-iJ];exact n
 cases h
end
structure BytesF (w:M) (F:Nat->Prop) (s:Sl) (l:List UInt8):Prop where
 rd:uJ w s l
 cap:s.n<=s.c
 blk:∀ad,s.a=aM ad->l≠[]->F ad.block
section
variable {w w':M} {F G:Nat->Prop} {s:Sl} {l:List UInt8}
def BytesF.nil w F:BytesF w F Sl.nil []:=⟨⟨rfl,λh=>absurd rfl h⟩,aX _,λ_ _ h=>absurd rfl h⟩
def BytesF.mono(h:BytesF w F s l)(hk:∀k,F k->G k):BytesF w G s l:=⟨h.rd,h.cap,λad a b=>hk _ (h.blk ad a b)⟩
end
def io{a:Type}(P:a->List aw->Prop):List a->List (List aw)->Prop
 | [],[]=>True
 | x::b,c::s=>P x c/\io P b s
 | _,_=>False
section
variable {α:Type} {P Q:α->List aw->Prop}
def io.len:∀{xs:List α} {css:List _},io P xs css->I xs=I css
 | [],[],_=>rfl
 | x::xs,c::s,h=>by simp[io.len (xs:=xs) (css:=s) h.2]
 | [],_::_,h=>h.elim
 | _::_,[],h=>h.elim
def io.imp(h:∀x c,P x c->Q x c):∀{xs:List α} {css:List _},io P xs css->io Q xs css
 | [],[],_=>trivial
 | x::xs,c::s,a=>⟨h _ _ a.1,io.imp h (xs:=xs) (css:=s) a.2⟩
 | [],_::_,a=>a.elim
 | _::_,[],a=>a.elim
def io.Be:∀{xs y:List α} {css E:List _},io P xs css->io P y E->io P (xs++y) (css++E)
 | [],_,[],_,_,k=>k
 | x::xs,_,c::s,_,h,k=>⟨h.1,io.Be (xs:=xs) (css:=s) h.2 k⟩
 | [],_,_::_,_,h,_=>h.elim
 | _::_,_,[],_,h,_=>h.elim
def io.get:∀{xs:List α} {css:List _},io P xs css->∀{j:Nat} {x:α},xs[j]? =aM x->∃s,css[j]? =aM s/\P x s
 | [],[],_,j,x,h=>abS
 | y::xs,c::s,k,0,x,h=>by
  simp at h;subst h;exact⟨c,rfl,k.1⟩
 | y::xs,c::s,k,j+1,x,h=>by
  exact io.get (xs:=xs) (css:=s) k.2 h
 | [],_::_,h,_,_,_=>h.elim
 | _::_,[],h,_,_,_=>h.elim
def io.mem:∀{xs:List α} {css:List _},io P xs css->∀c,c∈css->∃x,P x c
 | [],[],_,c,h=>abS
 | y::xs,d::s,k,c,h=>by
  rcases aY.1 h with rfl | h
  ·exact⟨y,k.1⟩
  exact io.mem (xs:=xs) (css:=s) k.2 c h
 | [],_::_,h,_,_=>h.elim
 | _::_,[],h,_,_=>h.elim
def io.take:∀n {xs:List α} {css:List _},io P xs css->io P (xs.take n) (css.take n)
 | 0,_,_,_=>by simp[io]
 | _+1,[],[],_=>by simp[io]
 | n+1,x::xs,c::s,h=>by simp;exact⟨h.1,io.take n (xs:=xs) (css:=s) h.2⟩
 | _,[],_::_,h=>h.elim
 | _,_::_,[],h=>h.elim
def io.set:∀{xs:List α} {css:List _} j {x:α} {c:List aw},io P xs css->P x c->io P (xs.set j x) (css.set j c)
 | [],[],_,_,_,_,_=>by simp[io]
 | y::xs,d::s,0,x,c,h,k=>⟨k,h.2⟩
 | y::xs,d::s,j+1,x,c,h,k=>⟨h.1,io.set (xs:=xs) (css:=s) j h.2 k⟩
 | [],_::_,_,_,_,h,_=>h.elim
 | _::_,[],_,_,_,h,_=>h.elim
end
def Cz{s:List (List aw)}{size}(h:∀c,c∈s->I c=size):I s.flatten=I s*size:=by
 induction s<;>grind
def Oz{s:List _}{size}(h:∀c,c∈s->I c=size):∀{j i:Nat} {a:List aw} {v:aw},s[j]? =aM a->a[i]? =aM v->s.flatten[j*size+i]? =aM v:=by
 induction s with
 | nil=>intro j i a v b;simp at b
 | cons c a g=>
  intro j i d v f e;have b:=h c aaV;cases j<;>grind
def Rx{s:List (List aw)}{size}(h:∀c,c∈s->I c=size):∀n,s.flatten.take (n*size)=(s.take n).flatten:=by
 induction s with
 | nil=>intro n;simp
 | cons c a i=>
  intro n;cases n with
  | zero=>simp
  | succ n=>
   rw[eV,eJ,eV,List.take_append,<-i (λd hd=>h d (by simp[hd])),h c aaV,show _*size-size=n*size by rw[iJ];omega,bp abV]
def Mx{cs}{o}{v}(h:o<I cs):fQ cs o [v]=cs.set o v:=by
 rw[fQ,List.set_eq_take_append_cons_drop,aV h];simp
def I6{size}{tail}{i}{v}:∀{s:List _} {n:Nat} {a:List aw},(∀c,c∈s->I c=size)->s[n]? =aM a->i<size->
  (s.flatten++tail).set (n*size+i) v=(s.set n (a.set i v)).flatten++tail
 | [],n,a,_,h,_=>by simp at h
 | c::s,0,a,h,n,i=>abV
 | c::s,n+1,a,h,b,e=>by
  simp at b;simp;rw[nB _ _ abV,h c aaV,show _*size+i-size=n*size+i by rw[iJ];omega,I6 (tail:=tail) (v:=v) (λd hd=>h d (by simp[hd])) b e]
section
variable {w w':M} {a:Addr} {cs ds:List aw}
def Cells.Be(c:Cells w a cs)(k:Cells w (a.add (I cs)) ds):Cells w a (cs++ds):=λj v h=>by
 by_cases b:j<I cs
 ·rw[bX b]at h;exact c j v h
 rw[cd J]at h;have:=k _ v h;rw[qG,show (I cs)+_=j by omega]at this;exact this
def Cells.nil w a:Cells w a []:=λj v h=>by simp at h
end
section
variable {α:Type} {r:Rp α} {size:Nat} {w w':M} {F G:Nat->Prop} {s y:Sl} {xs ys:List α} {e:TypeId} {B:Nat}
abbrev qf(r:Rp α)(size:Nat)(w:M)(F:Nat->Prop):List α->List (List aw)->Prop:=io λx c=>I c=size/\r w F x c
def qf.sz{css}(h:qf r size w F xs css):∀c,c∈css->I c=size:=λc b=>by
 obtain⟨_,a,_⟩:=h.mem c b;exact a
def qf.keep(b:r.Ok){css}(a:qf r size w F xs css)(hk:∀k,F k->k<w.heap.size->w'.heap[k]? =w.heap[k]?):qf r size w' F xs css:=
 a.imp λ_ _ h=>⟨h.1,b.keep h.2 hk⟩
def qf.mono(b:r.Ok){css}(a:qf r size w F xs css)(hk:∀k,F k->G k):qf r size w G xs css:=
 a.imp λ_ _ h=>⟨h.1,b.mono h.2 hk⟩
def qf.inHeap(b:r.Ok){css}(a:qf r size w F xs css):qf r size w (λk=>F k/\k<w.heap.size) xs css:=
 a.imp λ_ _ h=>⟨h.1,b.inHeap h.2⟩
def SliceF.Xm{base:Addr}:∀xs k,(∀j x,xs[j]? =aM x->∃s,I s=size/\Cells w (base.add ((k+j)*size)) s/\r w F x s)->
  ∃c,qf r size w F xs c/\Cells w (base.add (k*size)) c.flatten
 | [],k,_=>⟨[],trivial,Cells.nil _ _⟩
 | x::xs,k,h=>by
  obtain⟨s,a,g,b⟩:=h 0 x rfl;obtain⟨c,e,f⟩:=SliceF.Xm xs _ (λj y d=>by
   obtain⟨i,l,m,n⟩:=h (j+1) y (by simpa using d);exact⟨i,l,by rw[show k+1+j=k+(j+1) by omega];exact m,n⟩)
  refine⟨s::c,⟨⟨a,b⟩,e⟩,?_⟩;refine Cells.Be J ?_;rw[qG,a,show k*size+size=(k+1)*size by rw[iJ];omega];exact f
def SliceF.flat(h:SliceF r size w F s xs)(a:xs≠[]):∃b c,s.a=aM b/\F b.block/\qf r size w F xs c/\Cells w b c.flatten:=by
 cases xs with
 | nil=>exact absurd rfl a
 | cons x xs=>
  obtain⟨b,_,d,e,_⟩:=h.at_ 0 x rfl;obtain⟨c,g,k⟩:=SliceF.Xm (r:=r) (size:=size) (w:=w) (F:=F) (base:=b) _ 0 (λf y j=>by
   obtain⟨o,s,i,p,l,m,n⟩:=h.at_ f y j;rw[d]at i;injection i with i;subst i;exact⟨s,l,by simpa using m,n⟩)
  exact⟨b,c,d,e,g,by rw[BF]at k;exact k⟩
def SliceF.of{base}{css}(e:qf r size w F xs css)(b:s.a=aM base)(c:F base.block)(d:Cells w base css.flatten)(n:s.n=I xs)(u:s.n<=s.c)(h:s.c<=9223372036854775807):SliceF r size w F s xs:=
 ⟨n,u,λa=>(by rw[b]at a;cases a),h,λj x f=>by
  obtain⟨s,g,i,k⟩:=e.get f;exact⟨base,s,b,c,i,λm v l=>by rw[qG];exact d _ v (Oz e.sz g l),k⟩⟩
def Own(r:Rp α)(size:Nat)(e:TypeId)(B:Nat)(w:M)(F:Nat->Prop)(s:Sl)(x:List α):Prop:=
 (s=Sl.nil/\x=[])∨∃g c tail,s.a=aM ⟨g,0,aaf⟩/\B<=g/\Blk w g e (c.flatten++tail)/\I tail=(s.c-s.n)*size/\s.n=I x/\s.n<=s.c/\s.c<=9223372036854775807/\qf r size w (λk=>F k/\k≠g) x c
def Own.len(h:Own r size e B w F s xs):s.n=I xs:=by
 rcases h with⟨rfl,rfl⟩ | ⟨g,c,tail,_,_,_,_,h,_⟩<;>grind
def Own.cap(h:Own r size e B w F s xs):s.n<=s.c:=by
 rcases h with⟨rfl,rfl⟩ | ⟨g,c,tail,_,_,_,_,_,h,_,_⟩<;>grind
def Own.slice(l:r.Ok)(a:Own r size e B w F s xs):SliceF r size w (λk=>F k∨(B<=k/\s.a=aM ⟨k,0,aaf⟩)) s xs:=by
 rcases a with⟨rfl,rfl⟩ | ⟨m,c,tail,h,b,d,n,f,g,j,i⟩
 ·exact SliceF.nil _ _ _ _
 exact SliceF.of (i.mono l λk hk=>.inl hk.1) h (.inr ⟨b,h⟩) (d.cells 0 _ λo v e=>abV) f g j
def Own.keep(n:r.Ok)(d:Own r size e B w F s xs)(hk:∀k,(F k∨(B<=k/\s.a=aM ⟨k,0,aaf⟩))->k<w.heap.size->w'.heap[k]? =w.heap[k]?):Own r size e B w' F s xs:=by
 rcases d with⟨rfl,rfl⟩ | ⟨g,c,tail,h,a,b,f,i,j,m,l⟩
 ·exact .inl ⟨rfl,rfl⟩
 exact .inr ⟨g,c,tail,h,a,(hk g (.inr ⟨a,h⟩) b.lt).trans b,f,i,j,m,l.keep n λk F=>hk k (.inl F.1)⟩
def Own.mono(n:r.Ok)(h:Own r size e B w F s xs)(hk:∀k,F k->G k):Own r size e B w G s xs:=by
 rcases h with⟨rfl,rfl⟩ | ⟨g,c,tail,a,b,d,f,i,j,m,l⟩
 ·exact .inl ⟨rfl,rfl⟩
 exact .inr ⟨g,c,tail,a,b,d,f,i,j,m,l.mono n λk h=>⟨hk k h.1,h.2⟩⟩
def Own.low{B'}(h:Own r size e B w F s xs)(f:B'<=B):Own r size e B' w F s xs:=by
 rcases h with⟨rfl,rfl⟩ | ⟨g,c,tail,a,b,d⟩
 ·exact .inl ⟨rfl,rfl⟩
 exact .inr ⟨g,c,tail,a,bH f b,d⟩
def Own.nil(r:Rp α) size e B w F:Own r size e B w F Sl.nil []:=.inl ⟨rfl,rfl⟩
def Own.inHeap(a:r.Ok)(h:Own r size e B w F s xs):Own r size e B w (λk=>F k/\k<w.heap.size) s xs:=by
 rcases h with⟨rfl,rfl⟩ | ⟨g,c,tail,b,d,f,i,j,l,n,m⟩
 ·exact .inl ⟨rfl,rfl⟩
 exact .inr ⟨g,c,tail,b,d,f,i,j,l,n,(m.inHeap a).mono a λk h=>⟨⟨h.1.1,h.2⟩,h.1.2⟩⟩
def Own.blk(a:Own r size e B w F s xs){ad}(h:s.a=aM ad):B<=ad.block/\ad.block<w.heap.size:=by
 rcases a with⟨rfl,rfl⟩ | ⟨g,c,tail,b,d,f,_⟩
 ·cases h
 rw[b]at h;injection h with h;subst h;exact⟨d,f.lt⟩
def SliceF.amE(h:SliceF r size w F s xs):∃c,qf r size w F xs c/\∀a,s.a=aM a->Cells w a c.flatten:=by
 cases xs with
 | nil=>exact⟨[],trivial,λb _=>Cells.nil _ _⟩
 | cons x xs=>
  obtain⟨a,c,b,d,e,f⟩:=h.flat aaV
  grind
def qf.Lp{css}(h:qf r size w F xs css):I css.flatten=I xs*size:=by rw[Cz h.sz,h.len]
def qf.one(d:r.Ok){css}(a:qf r size w F xs css):∀v,v∈css.flatten->v.oneCell'=L:=λv h=>by
 obtain⟨c,b,h⟩:=List.mem_flatten.1 h;obtain⟨x,_,e⟩:=a.mem c b;exact d.one e v h
def ajC(l m:List aw) z:(l.toArray++m.toArray++z)=(l++m++z.toList).toArray:=by
 simp
section
variable {P:Program} {t ty:TypeId} {i:TypeInfo} {z:aw} {bytes:Nat}
def yB(w:M) k (G:z.cells.size=size):(Builtin.zeroCells z.cells k).toList.length=k*size:=by
 rw[vd,size_zeroCells,G]
def Ry(B:P.underlying t=aM (.slice e))(v:P.info? e=aM i)(D:i.zero=aM z)(nX:i.size=size)(SK:i.bytes=bytes)(IG:z.cells.size=size)
  (m:r.Ok) {a} (o:qf r size w F xs a) (H:∀d,s.a=aM d->Cells w d a.flatten) (Y:s.a=aaf->s.c=0) (j:s.n=I xs) (f:s.n<=s.c)
  (C:SliceF r size w F y ys) (u:s.c<s.n+y.n) (A:(I xs+I ys)*bytes<=140737488355328) (X:0<bytes):
  ∃q w',(Builtin.append_ #[t,t] ty #[s.v,y.v]).run P w=.ok q.v w'/\Own r size e w.heap.size w' F q (xs++ys)/\Only [] w w'/\q.a=aM ⟨w.heap.size,0,aaf⟩:=by
 subst nX;subst SK;have am:=bH (by have:=Nat.mul_le_mul_left (I xs+I ys) X;omega) A;have h:=C.len;have n:y.n≠0:=J
 have x:ys≠[]:=λl=>n (by rw[h,l];rfl);obtain⟨S,E,N,m2,p,R⟩:=C.flat x;obtain⟨sa,sn,sc⟩:=s;obtain⟨ya,g,V⟩:=y;dsimp only at j f Y h n u N H;subst N;have aC:∀gH T,gH=sn+g->∀W,W=w.drew.alloc (.cells (a.flatten.toArray++E.flatten.toArray++Builtin.zeroCells z.cells (grownCap w gH T e-gH)) e)->
   Own r i.size e w.heap.size W F ⟨aM ⟨w.heap.size,0,aaf⟩,gH,grownCap w gH T e⟩ (xs++ys)/\Only [] w W:=by
  rintro gH T rfl W rfl;have b:Only [] w (w.drew.alloc (.cells (a.flatten.toArray++E.flatten.toArray++Builtin.zeroCells z.cells (grownCap w (sn+g) T e-(sn+g))) e)):=(Only.drew w).cn (Only.alloc _ _);refine⟨.inr ⟨w.heap.size,a++E,(Builtin.zeroCells z.cells _).toList,rfl,aX _,?_,yB w _ IG,?_,grownCap_ge _ _ _ _,grownCap_le_maxLen _ _ _ _ (by simp[maxLen];omega),?_⟩,b⟩
  ·rw[ajC,Iv];exact Blk.alloc w.drew e _
  ·simp;omega
  refine((qf.mono m (qf.inHeap m (io.Be o p)) (G:=λk=>F k/\k≠w.heap.size) λk l=>⟨l.1,J⟩)).keep m λk hk c=>b.block k c aaV
 rcases sa with _|b
 ·have f:=Y rfl;subst f;have b:sn=0:=J
  subst b;have k:=bP j.symm;subst k;cases a with
  | cons c a=>exact o.elim
  | nil=>
   have c:=run_append_nil (P:=P) w t ty e i z B v D S g V E.flatten (by rw[p.Lp,h]) R J J abV
   grind
 have c:=run_append_grow (P:=P) w t ty e i z B v D b sn sc a.flatten (by rw[o.Lp,j]) (H b rfl) S g V E.flatten (by rw[p.Lp,h]) R u J (growslice_fits u (by rw[j,h];exact A))
 grind
def T5(C:P.underlying t=aM (.slice e))(v:P.info? e=aM i)(X:i.size=size)
  (A:r.Ok) {g} {css} {tail} (q:s.a=aM ⟨g,0,aaf⟩) (N:B<=g) (f:Blk w g e (css.flatten++tail)) (b:I tail=(s.c-s.n)*size) (z:s.n=I xs) (u:s.n<=s.c) (d:s.c<=9223372036854775807)
  (o:qf r size w (λk=>F k/\k≠g) xs css) (j:SliceF r size w (λk=>F k/\k≠g) y ys) (l:s.n+y.n<=s.c):
  ∃w',(Builtin.append_ #[t,t] ty #[s.v,y.v]).run P w=.ok (Sl.v ⟨s.a,s.n+y.n,s.c⟩) w'/\Own r size e B w' F ⟨s.a,s.n+y.n,s.c⟩ (xs++ys)/\Only [g] w w':=by
 subst X;have h:=j.len;obtain⟨T,sn,sc⟩:=s;obtain⟨a,n,D⟩:=y;dsimp only at q z u b l h;subst q;obtain⟨E,m,R⟩:=j.amE;have Y:I css.flatten=sn*i.size:=by rw[o.Lp,z]
 have G:I E.flatten=n*i.size:=by rw[m.Lp,h]
 have S:sn*i.size+n*i.size<=sn*i.size+I tail:=by
  rw[b,<-iJ,<-iJ];exact fD _ J
 have H:(Builtin.append_ #[t,t] ty #[.slice (aM ⟨g,0,aaf⟩) sn sc,.slice a n D]).run P w=
   .ok (.slice (aM ⟨g,0,aaf⟩) (sn+n) sc) (w.setRow g ((css.flatten++E.flatten)++tail.drop (n*i.size)).toArray):=by
  have k:((css.flatten++tail).toArray.toList.take (sn*i.size)++E.flatten++(css.flatten++tail).toArray.toList.drop (sn*i.size+I E.flatten))=(css.flatten++E.flatten)++tail.drop (n*i.size):=by simp[lR,Y,List.take_left,G,List.drop_append,List.drop_eq_nil_of_le,cb,dG]
  cases a with
  | some a=>
   have:=run_append_room (P:=P) w t ty e i C v g sn sc (css.flatten++tail).toArray f a n D E.flatten G (R a rfl) (m.one A) l abV;rw[this,k]
  | none=>
   have r:ys=[]:=by
    cases ys with
    | nil=>rfl
    | cons x xs=>obtain⟨_,_,c,_⟩:=j.at_ 0 x rfl;cases c
   subst r;have y:=by simpa using h
   subst y;cases E with
   | cons c s=>exact m.elim
   | nil=>
    have B:w.setRow g ((css.flatten++([]).flatten)++tail.drop (0*i.size)).toArray=w:=by
     have:=setRow_self w g (css.flatten++tail).toArray e _ f;simpa using this
    rw[B];simp[Builtin.append_,run_underlying C,sizeOf,typeInfo,v,Builtin.lenOf,Builtin.firstCells,u,storeCells]
 have p:Only [g] w (w.setRow g ((css.flatten++E.flatten)++tail.drop (n*i.size)).toArray):=Only.setRow _ _ _;refine⟨_,H,.inr ⟨g,css++E,tail.drop (n*i.size),rfl,N,?_,?_,?_,l,d,?_⟩,p⟩
 ·rw[Iv];exact f.setRow _
 ·rw[cG,b,<-Nat.sub_mul];congr 1;dsimp only;omega
 ·grind
 exact qf.keep A (io.Be o m) λk hk W=>p.block k W aeo
def rv(j:P.underlying t=aM (.slice e))(f:P.info? e=aM i)(u:i.zero=aM z)(n:i.size=size)(S:i.bytes=bytes)(G:z.cells.size=size)
  (c:r.Ok) (d:Own r size e B w F s xs) (l:SliceF r size w (λk=>F k/\s.a≠aM ⟨k,0,aaf⟩) y ys) (p:B<=w.heap.size) (q:(I xs+I ys)*bytes<=140737488355328) (o:0<bytes):
  ∃a w',(Builtin.append_ #[t,t] ty #[s.v,y.v]).run P w=.ok a.v w'/\Own r size e B w' F a (xs++ys)/\∃b,Only b w w'/\(∀g,g∈b->s.a=aM ⟨g,0,aaf⟩/\B<=g/\g<w.heap.size)/\(a.a=s.a∨a.a=aM ⟨w.heap.size,0,aaf⟩):=by
 by_cases m:s.n+y.n<=s.c
 ·rcases d with⟨rfl,rfl⟩ | ⟨g,s,tail,e,i,r,t,v,x,A,z⟩
  ·have h:=by simpa using m
   have k:=by have:=l.len;rw[h]at this;exact bP this.symm
   subst k;refine⟨Sl.nil,w,?_,.inl ⟨rfl,rfl⟩,[],Only.refl _ _,aaV,.inl rfl⟩;obtain⟨B,D,C⟩:=y;dsimp only at h;subst h;cases B<;>simp[Builtin.append_,run_underlying j,sizeOf,typeInfo,f,Builtin.lenOf,Builtin.firstCells,loadCells,loadCellsFrom]
  obtain⟨w',y,B,k3⟩:=T5 (ty:=ty) j f n c e i r t v x A z (l.mono c λk hk=>⟨hk.1,λh=>hk.2 (by rw[h,e])⟩) m;exact⟨_,w',y,B,[g],k3,λC w=>by simp at w;subst w;exact⟨e,i,r.lt⟩,.inl rfl⟩
 have H:=d.len;have z:=d.cap;have A:SliceF r size w F y ys:=l.mono c λk hk=>hk.1;have go:∀x,qf r size w F xs x->(∀i,s.a=aM i->Cells w i x.flatten)->(s.a=aaf->s.c=0)->
   ∃a w',(Builtin.append_ #[t,t] ty #[s.v,y.v]).run P w=.ok a.v w'/\Own r size e B w' F a (xs++ys)/\∃b,Only b w w'/\(∀g,g∈b->s.a=aM ⟨g,0,aaf⟩/\B<=g/\g<w.heap.size)/\(a.a=s.a∨a.a=aM ⟨w.heap.size,0,aaf⟩):=by
  intro x Y k2 k3;obtain⟨a,w',h,k,v,X⟩:=Ry (ty:=ty) j f u n S G c Y k2 k3 H z A J q o;exact⟨a,w',h,k.low p,[],v,aaV,.inr X⟩
 rcases d with⟨rfl,rfl⟩ | ⟨g,x,tail,C,N,D,R,T,V,W,E⟩
 ·exact go [] trivial (λ_ h=>abG) (λ_=>rfl)
 refine go x (E.mono c λk hk=>hk.1) (λi e=>?_) (λh=>by rw[C]at h;cases h);rw[C]at e;injection e with e;subst e;exact D.cells 0 _ λs v r=>by
  rw[bS,bX (bf.1 r).1];exact r
def My w (b:P.underlying t=aM (.slice e)) (a:P.info? e=aM i):(Instr.buildSlice t 0 #[]).run P w=.ok (.slice (aM ⟨w.heap.size,0,aaf⟩) 0 0) (w.alloc (.cells #[] e)):=by
 have h:Array.map (λ_=>(default:aw)) (Array.range 0)=#[]:=Array.ext' aaV;simp[Instr.buildSlice,run_underlying b,sizeOf,typeInfo,a,Instr.fill,newRow,h]
def ju(j:P.underlying t=aM (.slice e))(f:P.info? e=aM i)(n:i.zero=aM z)(X:i.size=size)(h:0<size){vs:List aw}{len}{parts}
  (p:parts=((vs.zipIdx 0).map λx=>(x.2,x.1)).toArray) (g:I vs=len) (l:0<len) (o:len*size<=16777216)
  (a:r.Ok) (E:qf r size w F xs (vs.map λv=>v.cells.toList)):
  ∃s w',(Instr.buildSlice t len parts).run P w=.ok (Sl.v s) w'/\Own r size e w.heap.size w' F s xs/\Only [] w w'/\s.a=aM ⟨w.heap.size,0,aaf⟩/\s.n=I xs/\s.c=I xs:=by
 subst X;subst p;subst g;have A:=by have:=E.len;rwa[bJ]at this
 have b:=λv m=>by
  have:=E.sz _ (eZ.2 ⟨v,m,rfl⟩);simpa using this
 have d:=run_buildSlice (P:=P) w t e (I vs) ((vs.zipIdx 0).map λx=>_).toArray (vs.flatMap λv=>v.cells.toList).toArray i z j f n J
  (by have:=Nat.mul_lt_mul_of_pos_left h l;omega)
  (by rw[lR];exact Go.Great.fill_whole h vs _ b aaV)
 have c:Only [] w (w.alloc (.cells (vs.flatMap λv=>v.cells.toList).toArray e)):=Only.alloc _ _;refine⟨⟨aM _,I vs,I vs⟩,_,d,.inr ⟨w.heap.size,vs.map (λv=>v.cells.toList),[],rfl,aX _,?_,aaV,A.symm,aX _,?_,?_⟩,c,rfl,A.symm,A.symm⟩
 ·rw[bG];exact Blk.alloc w e _
 ·have:I vs<=I vs*i.size:=Nat.le_mul_of_pos_right _ h;dsimp only;omega
 exact((qf.mono a (qf.inHeap a E) (G:=λk=>F k/\k≠w.heap.size) λk e=>⟨e.1,J⟩)).keep a λk hk W=>c.block k W aaV
end
end
def mB:Rp UInt8:=λ_ _ b c=>c=[iA b]
def sH:mB.Ok where
 keep h _:=h
 inHeap h:=h
 mono h _:=h
 one h v hv:=by
  rw[show _=[iA _]from h]at hv;simp at hv;subst hv;rfl
def BytesF.slice{w}{F}{s}{l}(h:BytesF w F s l)(a:s.a=aaf->s.c=0)(b:s.c<=9223372036854775807):SliceF mB 1 w F s l:=
 ⟨h.rd.1,h.cap,a,b,λj x hx=>by
  have d:l≠[]:=λe=>by rw[e]at hx;simp at hx
  obtain⟨ad,c,f⟩:=h.rd.2 d;exact⟨ad,[iA x],c,h.blk ad c d,rfl,by rw[lq];exact f.dM j _ ahx,rfl⟩⟩
def SliceF.bytes{w}{F}{s}{l}(h:SliceF mB 1 w F s l):BytesF w F s l:=
 ⟨⟨h.len,λa=>by
  obtain⟨e,s,d,f,g,i⟩:=h.flat a;refine⟨e,d,?_⟩;have:∀l s,qf mB 1 w F l s->s.flatten=l.map iA:=by
   intro l
   induction l with
   | nil=>intro s h;cases s with
    | nil=>rfl
    | cons c b=>exact h.elim
   | cons b l k=>intro s h;cases s with
    | nil=>exact h.elim
    | cons c m=>
     obtain⟨⟨_,d⟩,f⟩:=h;rw[eV,k m f,show c=[iA b]from d];rfl
  rw[<-this l s g];exact i⟩,h.cap,λad j a=>by
   obtain⟨e,s,d,f,_⟩:=h.flat a;rw[j]at d;injection d with d;rw[d];exact f⟩
def iM:Rp Int:=λ_ _ x c=>c=[.int .i64 x]/\ub x
def cK:iM.Ok where
 keep h _:=h
 inHeap h:=h
 mono h _:=h
 one h v hv:=by
  rw[h.1]at hv;simp at hv;subst hv;rfl
structure OnlyP (F:Nat->Prop) (w w':M):Prop where
 os:w'.os=w.os
 tape:w'.tape=w.tape
 output:w'.output=w.output
 size:w.heap.size<=w'.heap.size
 block:∀k,k<w.heap.size->¬F k->w'.heap[k]? =w.heap[k]?
section
variable {w w' u6:M} {F G:Nat->Prop} {bs:List Nat}
def Only.p(h:Only bs w w')(a:∀b,b∈bs->F b∨w.heap.size<=b):OnlyP F w w':=
 ⟨h.os,h.tape,h.output,h.size,λk hk n=>h.block k hk λm=>(a k m).elim n λh=>J⟩
def Only.p0(h:Only [] w w'):OnlyP F w w':=h.p aaV
def OnlyP.refl F w:OnlyP F w w:=(Only.refl [] w).p0
def OnlyP.mono(h:OnlyP F w w')(b:∀k,k<w.heap.size->F k->G k):OnlyP G w w':=⟨h.os,h.tape,h.output,h.size,λk hk n=>h.block k hk λf=>n (b k hk f)⟩
def OnlyP.trans(h:OnlyP F w w')(k:OnlyP G w' u6)(b:∀k,G k->F k∨w.heap.size<=k):OnlyP F w u6:=
 ⟨k.os.trans h.os,k.tape.trans h.tape,k.output.trans h.output,bH h.size k.size,λi a n=>
  (k.block i (cH a h.size) λg=>(b i g).elim n λh=>J).trans (h.block i a n)⟩
def OnlyP.cn(h:OnlyP F w w')(k:Only [] w' u6):OnlyP F w u6:=h.trans (k.p0 (F:=λ_=>False)) λ_ h=>h.elim
def Only.oQ(h:Only [] w w')(k:OnlyP F w' u6):OnlyP F w u6:=(h.p0 (F:=F)).trans k λ_ h=>.inl h
def OnlyP.only(h:OnlyP F w w')(b:∀k,F k->w.heap.size<=k):Only [] w w':=
 ⟨h.os,h.tape,h.output,h.size,λk hk _=>h.block k hk λf=>by have:=b k f;omega⟩
def OnlyP.amF(h:OnlyP F w w')(b:∀k,F k->k∈bs∨w.heap.size<=k):Only bs w w':=
 ⟨h.os,h.tape,h.output,h.size,λk hk n=>h.block k hk λf=>(b k f).elim n λh=>J⟩
def OnlyP.same(b:OnlyP F w w')(h:∀x,x∈bs->x<w.heap.size/\¬F x):cr bs w w':=λx a=>b.block x (h x a).1 (h x a).2
def OnlyP.blk(a:OnlyP F w w'){b}{t}{cs}(h:Blk w b t cs)(n:¬F b):Blk w' b t cs:=(a.block b h.lt n).trans h
end
section
variable {α:Type} {r:Rp α} {size:Nat} {w w':M} {F G:Nat->Prop} {s:Sl} {xs:List α} {e:TypeId} {B:Nat} {bs:List Nat}
def SliceF.only(f:r.Ok)(a:0<size)(h:SliceF r size w F s xs)(d:Only bs w w')(e:∀k,F k->k<w.heap.size->k∉bs):SliceF r size w' F s xs:=
 h.keep f a λk c b=>d.block k b (e k c b)
def SliceF.lO(f:r.Ok)(a:0<size)(h:SliceF r size w F s xs)(d:OnlyP G w w')(e:∀k,F k->k<w.heap.size->¬G k):SliceF r size w' F s xs:=
 h.keep f a λk c b=>d.block k b (e k c b)
def Rp.Ok.only(e:r.Ok){x}{cs}(h:r w F x cs)(c:Only bs w w')(d:∀k,F k->k<w.heap.size->k∉bs):r w' F x cs:=e.keep h λk a b=>c.block k b (d k a b)
def Mz{s}(h:SliceF r size w F s xs)(a:s.a=aaf):xs=[]:=by
 have b:=h.nil0 a;have c:=h.cap;have d:=h.len;simp_all
def qf.at(h:∃c,qf r size w F xs c):True:=trivial
def qf.setAt{css}(h:qf r size w F xs css) j {x} {c} (a:I c=size) (b:r w F x c):qf r size w F (xs.set j x) (css.set j c):=io.set j h ⟨a,b⟩
def I7{s:List _}{tail}:∀{n:Nat} {a v:List aw},(∀c,c∈s->I c=size)->s[n]? =aM a->I v=size->
  fQ (s.flatten++tail) (n*size) v=(s.set n v).flatten++tail:=by
 induction s with
 | nil=>intro n a v _ h;simp at h
 | cons c s i=>
  intro n a v h b f;have g:=h c aaV;cases n with
  | zero=>
   simp[fQ];simp_all
  | succ n=>
   have:=i (λd hd=>h d (by simp[hd])) b f;have e:(n+1)*size=I c+n*size:=abV
   simp only[fQ]at this⊢;simp;rw[e,ZB,dB,<-this];simp
end
section
variable {α:Type} {r:Rp α} {size:Nat} {w w':M} {F G:Nat->Prop} {s:Sl} {xs:List α} {e:TypeId} {B:Nat} {P:Program} {t ty:TypeId} {i:TypeInfo} {z v:aw} {bytes:Nat} {x:α}
def jV(p:P.underlying t=aM (.slice e))(o:P.info? e=aM i)(q:i.zero=aM z)(u:i.size=size)(S:i.bytes=bytes)(C:z.cells.size=size)(R:0<size)(A:0<bytes)(wo:1*size<=16777216)
  (h:r.Ok) (m:Own r size e B w F s xs) (T:B<=w.heap.size) (Y:I v.cells.toList=size) (hx:r w G x v.cells.toList) (n:∀k,G k->k<w.heap.size->F k/\s.a≠aM ⟨k,0,aaf⟩) (V:(I xs+1)*bytes<=140737488355328):
  ∃y a,(Instr.buildSlice t 1 #[(0,v)]).run P w=.ok (Sl.v y) a/\Only [] w a/\∃b c,(Builtin.append_ #[t,t] ty #[Sl.v s,Sl.v y]).run P a=.ok (Sl.v b) c/\
   Own r size e B c (λk=>F k∨w.heap.size<=k) b (xs++[x])/\(∃d,Only d a c/\∀g,g∈d->s.a=aM ⟨g,0,aaf⟩/\B<=g/\g<w.heap.size)/\(b.a=s.a∨∃g,b.a=aM ⟨g,0,aaf⟩/\w.heap.size<=g):=by
 obtain⟨y,a,k1,k2,k3,k4,k5,k6⟩:=ju (P:=P) (t:=t) (e:=e) (i:=i) (z:=z) (w:=w) (F:=λk=>G k/\k<w.heap.size) (vs:=[v]) (parts:=#[_]) (len:=1) (xs:=[x]) (r:=r) (size:=size) p o q u R rfl rfl X wo h ⟨⟨Y,h.inHeap hx⟩,trivial⟩;have D:Own r size e B a (λk=>F k∨w.heap.size<=k) s xs:=((m.inHeap h).keep h λk _ W=>k3.block k W aaV).mono h λk hk=>.inl hk.1;have hy:=(k2.slice h).mono h (G:=λk=>(F k∨w.heap.size<=k)/\s.a≠aM _) λk hk=>by
  rcases hk with⟨hk,W⟩ | ⟨hk,_⟩
  ·exact⟨.inl (n k hk W).1,(n k hk W).2⟩
  exact⟨.inr hk,λe=>by have:=(m.blk e).2;dsimp only at this;omega⟩
 obtain⟨b,c,E,H,d,J,f,N⟩:=rv (ty:=ty) p o q u S C h D hy (bH T k3.size) V A;refine⟨y,a,k1,k3,b,c,E,H,⟨d,J,λg l=>⟨(f g l).1,(f g l).2.1,(m.blk (f g l).1).2⟩⟩,?_⟩;rcases N with j | j
 ·exact .inl j
 exact .inr ⟨_,j,k3.size⟩
def Own.store(a:r.Ok)(o:Own r size e B w F s xs){n}(m:n<I xs){x}{vs}(v:I vs=size)(p:r w G x vs)(u:∀k,G k->k<w.heap.size->F k/\s.a≠aM ⟨k,0,aaf⟩)(q:0<size):
  ∃g cells,s.a=aM ⟨g,0,aaf⟩/\cT s n size ⟨g,n*size,aaf⟩/\Blk w g e cells/\n*size+size<=I cells/\
   ∀w',Only [g] w w'->Blk w' g e (fQ cells (n*size) vs)->Own r size e B w' F s (xs.set n x):=by
 rcases o with⟨rfl,rfl⟩ | ⟨g,c,tail,b,d,f,i,t,j,l,h⟩
 ·simp at m
 have Y:=h.len;have e:n<I c:=J
 have x:=Cz h.sz;have B:=by
  have:=fD size (show n+1<=(I c) by omega);rw[iJ]at this;omega
 refine⟨g,_,b,⟨_,b,J,J,by rw[gu,aW,bS]⟩,f,abV,λw' r s=>.inr ⟨g,c.set n vs,tail,b,d,?_,i,abV,j,l,?_⟩⟩
 ·rw[I7 h.sz (bh e) v]at s;exact s
 refine qf.setAt (h.keep a λk hk W=>r.block k W aeo) n v (a.keep (w:=w) (F:=λk=>F k/\k≠g) ?_ λk hk W=>r.block k W aeo);refine a.mono (a.inHeap p) λk hk=>?_
 grind
end
def Own.SF{α}{r}{size}{w}{F}{s}{xs}{e}{B}(b:r.Ok)(p:Own r size e B w F s xs){n:Nat}{x:α}(f:xs[n]? =aM x):
  ∃g cells c,s.a=aM ⟨g,0,aaf⟩/\cT s n size ⟨g,n*size,aaf⟩/\Blk w g e cells/\I c=size/\Cells w ⟨g,n*size,aaf⟩ c/\r w (λk=>F k/\k≠g) x c/\
   ∀off v y G,off<size->r w G y (c.set off v)->(∀k,G k->k<w.heap.size->F k/\k≠g)->
    n*size+off+1<=I cells/\∀k,Only [g] w k->Blk k g e (fQ cells (n*size+off) [v])->Own r size e B k F s (xs.set n y):=by
 rcases p with⟨rfl,rfl⟩ | ⟨g,a,tail,d,j,i,l,q,m,o,h⟩
 ·simp at f
 obtain⟨c,s,z,k3⟩:=h.get f;have Y:=h.len;have B:=(bf.1 f).1;have t:=Cz h.sz;have D:=by
  have:=fD size (show n+1<=(I a) by omega);rw[iJ]at this;omega
 refine⟨g,_,c,d,⟨_,d,J,J,by rw[gu,aW,bS]⟩,i,z,i.cells _ _ λC v u=>?_,k3,λoff v y A w x G=>⟨abV,λE e r=>.inr ⟨g,a.set n (c.set off v),tail,d,j,?_,l,abV,m,o,?_⟩⟩⟩
 ·have:=Oz h.sz s u
  grind
 ·rw[Mx abV,I6 h.sz s w]at r;exact r
 refine qf.setAt (h.keep b λk hk W=>e.block k W aeo) n abV ?_;refine b.mono (b.keep (b.inHeap x) λk hk W=>e.block k W abV) λk hk=>G k hk.1 hk.2
def io.amG{α β}{P}{f:α->β}:∀{xs:List α} {css:List _},io P (xs.map f) css↔io (λx s=>P (f x) s) xs css
 | [],[]=>Iff.rfl
 | x::xs,c::s=>by simp[io,io.amG (xs:=xs) (css:=s)]
 | [],_::_=>Iff.rfl
 | _::_,[]=>Iff.rfl
def io.SG{α}{P Q}:∀{xs:List α} {css:List _},(∀x c,x∈xs->P x c->Q x c)->io P xs css->io Q xs css
 | [],[],_,_=>trivial
 | x::xs,c::s,i,h=>⟨i _ _ aaV h.1,io.SG (xs:=xs) (css:=s) (λy d a=>i y d (by simp[a])) h.2⟩
 | [],_::_,_,h=>h.elim
 | _::_,[],_,h=>h.elim
def Own.map{α β}{r:Rp α}{q:Rp β}{size}{w}{F G}{s}{xs}{e}{B} f (h:Own r size e B w F s xs) (p:∀g x b,x∈xs->r w (λk=>F k/\k≠g) x b->q w (λk=>G k/\k≠g) (f x) b):Own q size e B w G s (xs.map f):=by
 rcases h with⟨rfl,rfl⟩ | ⟨g,a,tail,d,i,j,l,t,m,o,n⟩
 ·exact .inl ⟨rfl,rfl⟩
 exact .inr ⟨g,a,tail,d,i,j,l,abV,m,o,io.amG.2 (io.SG (λx c f e=>⟨e.1,p g x c f e.2⟩) n)⟩
section
variable {P:Program} {w:M}
def Ew{z}(e:∀v,v∈z->v.oneCell'=L)(a:0<z.size) n:∀v,v∈(Builtin.zeroCells z n).toList->v.oneCell'=L:=λv d=>by
 have h:=J
 simp[Builtin.zeroCells]at h;obtain⟨i,c,rfl⟩:=h;have b:i % z.size<z.size:=BG _ a
 grind
def Ey{t e ty}{z}(f:P.underlying t=aM (.slice e))(i:∀w,(zeroValue e).run P w=.ok z w)(a:∀v,v∈z.cells->v.oneCell'=L)(h:0<z.cells.size){g o n c}{bt}{cs}(j:0<n)
  (b:Blk w g bt cs) (S:o+n*z.cells.size<=I cs):
  (Builtin.clear_ #[t] ty #[.slice (aM ⟨g,o,aaf⟩) n c]).run P w=.ok (.tuple #[]) (w.setRow g (cs.take o++(Builtin.zeroCells z.cells n).toList++cs.drop (o+n*z.cells.size)).toArray):=by
 have d:(Builtin.zeroCells z.cells n).toList.length=n*z.cells.size:=by rw[vd,size_zeroCells]
 have l:=run_storeCells_at P g o bt (Builtin.zeroCells z.cells n).toList 0 cs.toArray w b abV (Ew a h n);simp[d]at l;obtain⟨m,rfl⟩:∃m,n=m+1:=⟨n-1,J⟩
 simp[Builtin.clear_,run_underlying f,i,l]
def Own.clear{α}{r:Rp α}{size}{F}{s}{xs}{e}{B}{t ty}{z}(y:r.Ok)(E:0<size)(C:P.underlying t=aM (.slice e))(D:∀w,(zeroValue e).run P w=.ok z w)(u:∀v,v∈z.cells->v.oneCell'=L)(G:z.cells.size=size)
  (A:Own r size e B w F s xs) {i} (x:i<I xs):
  ∃d g,(Builtin.clear_ #[t] ty #[Sl.v (Sl.cut s i s.n s.c size)]).run P w=.ok (.tuple #[]) d/\s.a=aM ⟨g,0,aaf⟩/\Only [g] w d/\Own r size e B d F (Sl.cut s 0 i s.c size) (xs.take i):=by
 rcases A with⟨rfl,rfl⟩ | ⟨g,a,tail,f,p,h,j,l,q,m,b⟩
 ·simp at x
 obtain⟨F,sn,sc⟩:=s;dsimp only at f j l q m;subst f;have e:=b.Lp;have X:Sl.cut ⟨aM ⟨g,0,aaf⟩,sn,sc⟩ i sn sc size=⟨aM ⟨g,i*size,aaf⟩,sn-i,sc-i⟩:=by
  simp[Sl.cut];rw[aR J];simp[gu]
 have B:i*size+(sn-i)*size=sn*size:=by rw[<-iJ];congr 1;omega
 have v:=Only.setRow w g (((a.flatten++tail).take (i*size)++(Builtin.zeroCells z.cells (sn-i)).toList++(a.flatten++tail).drop (i*size+(sn-i)*z.cells.size)).toArray);refine⟨_,g,by rw[X];exact Ey (P:=P) (w:=w) (t:=t) (ty:=ty) C D u J (g:=g) (o:=i*size) (n:=sn-i) (c:=sc-i) J h abV,rfl,v,?_⟩;have T:Sl.cut ⟨aM ⟨g,0,aaf⟩,sn,sc⟩ 0 i sc size=⟨aM ⟨g,0,aaf⟩,i,sc⟩:=by simp[Sl.cut,Addr.add]
 rw[T];have Y:(a.flatten++tail).take (i*size)=(a.take i).flatten:=by
  rw[TU abV,Rx b.sz]
 refine .inr ⟨g,a.take i,(Builtin.zeroCells z.cells (sn-i)).toList++(a.flatten++tail).drop (i*size+(sn-i)*z.cells.size),rfl,p,?_,?_,?_,abQ,m,?_⟩
 ·have:=h.setRow ((a.flatten++tail).take (i*size)++(Builtin.zeroCells z.cells (sn-i)).toList++(a.flatten++tail).drop (i*size+(sn-i)*z.cells.size))
  grind
 ·simp only[aO,cG,e,<-l,vd,size_zeroCells,j,G,B];rw[dG,<-iJ];congr 1;omega
 ·rw[ch];dsimp only;omega
 refine qf.keep y (io.take i b) λk hk W=>v.block k W aeo
end
def acL l m:((⟨List.toArray l⟩:ByteArray).toList==(⟨List.toArray m⟩:ByteArray).toList)=decide (l=m):=by
 by_cases h:l=m<;>simp[h]
end Go.Kt
namespace Go.Kt
open Go renaming World->M,Value->aw
open Go Go.RowKit Go.MapKept
structure MapI (w:M) (r:Nat) (m:Int->Option Int):Prop where
 mem:∃es clock,w.heap[r]? =aM (.map es clock)/\(∀x,x∈es.toList->∃k v,x.key=.int .i64 k/\x.val=.int .i64 v)/\es.toList.Pairwise (λx y=>x.key≠y.key)/\
  ∀k v,m k=aM v↔∃x,x∈es.toList/\x.key=.int .i64 k/\x.val=.int .i64 v
section
variable {P:Program} {w w':M} {r:Nat} {m:Int->Option Int} {mty kt et:TypeId}
def MapI.keep(h:MapI w r m)(hk:w'.heap[r]? =w.heap[r]?):MapI w' r m:=by
 obtain⟨e,c,a,b⟩:=h.mem;exact⟨e,c,hk.trans a,b⟩
def MapI.lt(h:MapI w r m):r<w.heap.size:=by
 obtain⟨e,c,a,b⟩:=h.mem;exact(ob.1 a).1
def MapI.only(h:MapI w r m){bs}(a:Only bs w w')(n:r∉bs):MapI w' r m:=h.keep (a.block r h.lt n)
def I8{w}{r}{o o'}(h:w.heap[r]? =aM o):Only [r] w {w with heap:=w.heap.setIfInBounds r o'}:=
 ⟨rfl,rfl,rfl,aaV,λk _ hn=>(heap_set h).2 k aeb⟩
def MA{a:Type}{l:List a}{j}{f}{e}(h:l[j]? =aM e):l.modify j f=l.set j (f e):=by
 apply nE;intro i;rw[List.getElem?_modify,Ot];by_cases x:j=i
 ·subst x;rw[aV rfl,aV (bf.1 h).1,h];simp
 cases l[i]? <;>simp[x]
end
end Go.Kt
namespace Go.Kt
open Go renaming World->M,Value->aw
open Go Go.RowKit
@[reducible] def T(l:List UInt8):ByteArray:=⟨l.toArray⟩
def I9(s:ByteArray):s=T s.data.toList:=by
 obtain⟨⟨l⟩⟩:=s;rfl
def cJ(l:List UInt8):(T l).size=I l:=by simp[T,ByteArray.size]
def nH(l:List UInt8)(i:Nat):(T l)[i]? =l[i]? :=by
 by_cases h:i<I l
 ·rw[bh h,getElem?_pos (T l) i (by rw[cJ];exact h)];rfl
 rw[eG J,getElem?_neg (T l) i (by rw[cJ];exact h)]
def vq(l:List UInt8)(a b:Nat):(T l).extract a b=T ((l.drop a).take (b-a)):=by
 rw[I9 ((T l).extract a b),Lib.extract_data]
def fm(l m:List UInt8):T l++T m=T (l++m):=by
 apply ByteArray.ext;simp[T]
def iV(l m:List UInt8):((T l).toList==(T m).toList)=decide (l=m):=acL l m
def xh(u:Nat->aw):List (Nat×aw)->Nat->aw
 | [],i=>u i
 | (k,v)::r,i=>bif Nat.beq k i then v else xh u r i
def A0:List (Nat×aw)->Nat->Option aw
 | [],_=>aaf
 | (k,v)::r,i=>bif Nat.beq k i then aM v else A0 r i
def ZM(u:Nat->aw)(l:List (Nat×aw)):Nat->Nat->List aw
 | 0,_=>[]
 | n+1,i=>xh u l i::ZM u l n (i+1)
def fr(n:Nat)(u:Nat->aw)(l:List (Nat×aw)):Act:=⟨(ZM u l n 0).toArray,[]⟩
def evO(n:Nat)(l:List (Nat×aw)):Operand->Option aw
 | .tmp k=>bif Nat.blt k n then A0 l k else aaf
 | .const v=>aM v
 | .global g=>aM (.pointer (aM ⟨g,0,aaf⟩))
 | .func f=>aM (.func (.func f) #[] #[])
def pl:Option Tmp->aw->List (Nat×aw)->List (Nat×aw)
 | some k,v,l=>(k,v)::l
 | none,_,l=>l
def Gs:Nat->List aw->List (Nat×aw)
 | _,[]=>[]
 | i,v::r=>(i,v)::Gs (i+1) r
section
variable {n0:Nat} {us0:Nat->aw} {l0:List (Nat×aw)}
def qm(u:Nat->aw)(l:List (Nat×aw)):∀n i,I (ZM u l n i)=n
 | 0,_=>rfl
 | n+1,i=>by simp only[ZM,ba,qm u l n (i+1)]
def pb(u:Nat->aw)(l:List (Nat×aw)):∀n i k,k<n->(ZM u l n i)[k]? =aM (xh u l (i+k))
 | 0,_,_,h=>J
 | n+1,i,0,_=>rfl
 | n+1,i,k+1,h=>by
  simp only[ZM,cO];rw[pb u l n (i+1) k J,show i+1+k=i+(k+1) by omega]
def wC{u:Nat->aw}:∀{l:List (Nat×aw)} {k:Nat} {v:aw},A0 l k=aM v->xh u l k=v
 | [],_,_,h=>abG
 | (j,a)::r,k,v,h=>by
  simp only[A0,xh]at h⊢;cases b:Nat.beq j k
  ·rw[b]at h;exact wC (l:=r) abT
  rw[b]at h;simpa using h
def Gu{u:Nat->aw}:∀{l:List (Nat×aw)} {k:Nat},A0 l k=aaf->xh u l k=u k
 | [],_,_=>rfl
 | (j,a)::r,k,h=>by
  simp only[A0,xh]at h⊢;cases b:Nat.beq j k
  ·rw[b]at h;exact Gu (l:=r) abT
  rw[b]at h;simp at h
def T6{k:Nat}(hk:k<n0):(fr n0 us0 l0).eval (.tmp k)=xh us0 l0 k:=by
 show(ZM us0 l0 n0 0).toArray.getD k undef=_;rw[Array.getD_eq_getD_getElem?,Eg,pb _ _ _ _ _ hk,bS];rfl
def evE{x:Operand}{v:aw}(h:evO n0 l0 x=aM v):(fr n0 us0 l0).eval x=v:=by
 cases x with
 | tmp k=>
  simp only[evO]at h;cases b:Nat.blt k n0
  ·rw[b]at h;cases h
  rw[b]at h;rw[T6 (cZ b)];exact wC h
 | const u=>simpa[evO,Act.eval]using h
 | global g=>simpa[evO,Act.eval]using h
 | func f=>simpa[evO,Act.eval]using h
def yC{u:Nat->aw}{l:List (Nat×aw)}{k i:Nat}{v:aw}(h:k≠i):xh u ((k,v)::l) i=xh u l i:=by
 have:Nat.beq k i=aL:=by
  cases b:Nat.beq k i
  ·rfl
  exact absurd (dh b) h
 simp only[xh,this,cond_false]
def yD{u:Nat->aw}{l:List (Nat×aw)}{k:Nat}{v:aw}:xh u ((k,v)::l) k=v:=by
 simp only[xh,Nat.beq_refl,cond_true]
def aeQ{k:Nat}{v:aw}:(fr n0 us0 l0).put (aM k) v=fr n0 us0 ((k,v)::l0):=by
 unfold fr;rw[f0];congr 2;apply nE;intro i;rw[Ot,qm];by_cases h:i<n0
 ·rw[pb _ _ _ _ _ h,pb _ _ _ _ _ h,bS];split
  ·rename_i a;subst a;rw[aV h,yD]
  rename_i a;rw[yC a]
 rw[eG (by rw[qm];omega),eG (by rw[qm];omega)];split
 ·rename_i a;subst a;rw[aR h]
 rfl
def aqj{d:Option Tmp}{v:aw}:(fr n0 us0 l0).put d v=fr n0 us0 (pl d v l0):=by
 rcases d with _|k
 ·rfl
 exact aeQ
def E7:∀(a:List aw) (j i:Nat),xh (λ_=>undef) (Gs j a) i=if j<=i then(a[i-j]?).getD undef else undef
 | [],j,i=>by simp[Gs,xh]
 | v::r,j,i=>by
  simp only[Gs];by_cases x:j=i
  ·subst x;rw[yD,aV (aX _)];simp
  rw[yC x,E7 r (j+1) i];by_cases s:j<=i
  ·rw[aV s,aV J,show i-j=(i-(j+1))+1 by omega,cO]
  rw[aR s,aR J]
end
section
variable {P:Program} {ops:Array Oper} {Q:Exit->Act->M->Prop} {rest:List Oper} {w w':M} {n0:Nat} {us0:Nat->aw} {l0:List (Nat×aw)}
def asB:aw->Option Bool
 | .bool b=>aM b
 | _=>aaf
def Ja{e:List Oper}{j d:Nat}{o:Oper}{v:aw}(a:iL e j=aM o)(c:o.dst=aM d)(h:evO n0 l0 (.tmp d)=aM v):
  yielded e.toArray (fr n0 us0 l0).tmps j=asB v:=by
 rw[lu]at a;have hd:d<n0:=by
  simp only[evO]at h;cases f:Nat.blt d n0
  ·rw[f]at h;cases h
  exact cZ f
 have b:=evE (us0:=us0) h;rw[T6 hd]at b;have:(fr n0 us0 l0).tmps[d]? =aM v:=by
  show(ZM us0 l0 n0 0).toArray[d]? =_;rw[Eg,pb _ _ _ _ _ hd,bS,b]
 simp only[yielded,Eg,a,AU,c,this];cases v<;>rfl
def wtF{o a:Oper}{H:List Oper}{j d:Nat}{w b r:Bool}(h:o.guard=aM (j,w))(c:iL H j=aM a)(f:a.dst=aM d)
  (g:evO n0 l0 (.tmp d)=aM (.bool b)) (i:(b==w)=r):Region.wanted o (yielded H.toArray (fr n0 us0 l0).tmps)=r:=by
 subst i;have e:=Ja (us0:=us0) c f g;simp only[Region.wanted,h,e,asB];cases b<;>cases w<;>rfl
def wuF{o a:Oper}{H:List Oper}{j d:Nat}{want:Bool}(h:o.guard=aM (j,want))(b:iL H j=aM a)(c:a.dst=aM d)
  (f:evO n0 l0 (.tmp d)=aM undef):Region.wanted o (yielded H.toArray (fr n0 us0 l0).tmps)=aL:=by
 have e:=Ja (us0:=us0) b c f;simp[Region.wanted,h,e,undef,asB]
def pg{x y:Option Addr}(h:x=y):aM (Value.pointer x)=aM (.pointer y):=by rw[h]
def ag{x y:Addr}(h:x=y):aM (Value.pointer (aM x))=aM (.pointer (aM y)):=by rw[h]
def bg{x y:Bool}(h:x=y):aM (Value.bool x)=aM (.bool y):=by rw[h]
def sv{k:Tmp}{op:Op}{t:TypeId}{p:String}{a:Array Edge}{v:aw}(r:(execOp (fr n0 us0 l0).eval ⟨aM k,op,t,p,a,aaf⟩).run P w=.ok (.value v) w)
 (h:wpList P ops Q rest (fr n0 us0 ((k,v)::l0)) w):wpList P ops Q (⟨aM k,op,t,p,a,aaf⟩::rest) (fr n0 us0 l0) w:=Gd v (wn rfl) r aeQ h
def sn{op:Op}{t:TypeId}{p:String}{a:Array Edge}{v:aw}(r:(execOp (fr n0 us0 l0).eval ⟨aaf,op,t,p,a,aaf⟩).run P w=.ok (.value v) w)
 (h:wpList P ops Q rest (fr n0 us0 l0) w):wpList P ops Q (⟨aaf,op,t,p,a,aaf⟩::rest) (fr n0 us0 l0) w:=Gd v (wn rfl) r (f3 _ _) h
section
variable {md:Region.Mode} {E:Nat->M->M->Prop} {F:M->Prop}
def acM(i:Nat){e:List Oper}{d:Option Tmp}{op:Op}{t:TypeId}{p:String}{f:Array Edge}{g:Option (Nat×Bool)}{fG:Nat}{b:Array Bool}(D N:List Nat)(F:M->Prop){v:aw}(z:iL e i=aM ⟨d,op,t,p,f,g⟩)
  (h:(Region.noSelect e.toArray&&Region.free md e.toArray b i&&(Region.ready md e.toArray b).contains i&&wB md e.toArray b&&tZ md e.toArray i [] D&&(N.all λk=>b.getD k L))=L)
  (y:∀c a w,Q (.panic c) (Act.put a d v) w->Q (.panic c) a w) (B:∀j w w',j∉D->j∉N->F w->E j w w'->F w') (l:∀w,F w->E i w w) (x:F w)
  (A:YieldsIf P e.toArray F ⟨d,op,t,p,f,g⟩ v (fr n0 us0 l0))
  (u:gf P md e.toArray Q E fG (b.setIfInBounds i L) (fr n0 us0 (pl d v l0)) w):gf P md e.toArray Q E (fG+1) b (fr n0 us0 l0) w:=by
 simp only[aU]at h;obtain⟨⟨⟨⟨⟨m,n⟩,o⟩,q⟩,r⟩,s⟩:=h;exact Ms i D N v F z m n o q r s y B l x A aqj u
def eL(i:Nat){e:List Oper}{d:Option Tmp}{op:Op}{t:TypeId}{p:String}{f:Array Edge}{g:Option (Nat×Bool)}{fG:Nat}{b:Array Bool}{l:List (Nat×List Nat)}(D N:List Nat)(F:M->Prop){v:aw}(q:iL e i=aM ⟨d,op,t,p,f,g⟩)
  (r:l.lookup i=aaf) (s:∀j w w',j∉D->j∉N->F w->EL l j w w'->F w') (m:F w)
  (y:YieldsIf P e.toArray F ⟨d,op,t,p,f,g⟩ v (fr n0 us0 l0))
  (h:gf P md e.toArray Q (EL l) fG (b.setIfInBounds i L) (fr n0 us0 (pl d v l0)) w)
  (o:(Region.noSelect e.toArray&&Region.free md e.toArray b i&&(Region.ready md e.toArray b).contains i&&wB md e.toArray b&&tZ md e.toArray i [] D&&(N.all λk=>b.getD k L))=L:=by kernel_rfl)
  (n:∀c a w,Q (.panic c) (Act.put a d v) w->Q (.panic c) a w:=by exact λ_ _ _ h=>h):gf P md e.toArray Q (EL l) (fG+1) b (fr n0 us0 l0) w:=
 acM i D N F q o n s (λw _=>T3 r w) m y h
def eN(i:Nat){e:List Oper}{d:Option Tmp}{op:Op}{t:TypeId}{p:String}{f:Array Edge}{g:Option (Nat×Bool)}{fG:Nat}{b:Array Bool}{l:List (Nat×List Nat)}(o:iL e i=aM ⟨d,op,t,p,f,g⟩)
  (E:∀w,EL l i w w) (n:Region.wanted ⟨d,op,t,p,f,g⟩ (yielded e.toArray (fr n0 us0 l0).tmps)=aL)
  (h:gf P md e.toArray Q (EL l) fG (b.setIfInBounds i L) (fr n0 us0 (pl d undef l0)) w)
  (m:(Region.noSelect e.toArray&&Region.free md e.toArray b i&&(Region.ready md e.toArray b).contains i&&wB md e.toArray b&&tZ md e.toArray i [] []&&(([]:List Nat).all λk=>b.getD k L))=L:=by kernel_rfl)
  (j:∀c a w,Q (.panic c) (Act.put a d undef) w->Q (.panic c) a w:=by exact λ_ _ _ h=>h):gf P md e.toArray Q (EL l) (fG+1) b (fr n0 us0 l0) w:=
 acM i [] [] (λ_=>True) o m j ZL (λw _=>E w) trivial (aeP n) h
end
end
end Go.Kt
namespace Go.Kt.V
open Go renaming World->M,Value->aw
open Go Go.RowKit Go.Kt
structure OV where
 v:aw
 one:v.oneCell'=L
inductive SV where
 | int (k:IntKind) (n:Int)
 | il (k:IntKind) (n:Int)
 | bl (b:Bool)
 | bt (t:Bool)
 | str (s:ByteArray)
 | np
 | ptr (p:Option Addr)
 | ad (a:Addr)
 | box (i o:Nat)
 | sl (s:Sl)
 | nsl
 | map (m:Option Nat)
 | raw (v:OV)
 | fn (f:FuncId) (fs cs:SV)
 | agg (l:SV)
 | tup (l:SV)
 | un
 | e
 | c (h t:SV)
def sI(c:Nat->Nat):SV->List aw
 | .int k n=>[.int k n]
 | .il k n=>[.int k n]
 | .bl b=>[.bool b]
 | .bt t=>[.bool t]
 | .str s=>[.string s]
 | .np=>[.pointer aaf]
 | .ptr p=>[.pointer p]
 | .ad a=>[.pointer (aM a)]
 | .box i o=>[.pointer (aM ⟨c i,o,aaf⟩)]
 | .sl s=>[s.v]
 | .nsl=>[Sl.v Sl.nil]
 | .map m=>[.map m]
 | .raw v=>[v.v]
 | .fn f a s=>[.func (.func f) (sI c a).toArray (sI c s).toArray]
 | .agg l=>[.agg (sI c l).toArray]
 | .tup l=>[.tuple (sI c l).toArray]
 | .un=>[undef]
 | .e=>[]
 | .c h t=>(sI c h).headD undef::sI c t
def val(a:Nat->Nat)(s:SV):aw:=(sI a s).headD undef
def cW(a:Nat->Nat)(l:List SV):List aw:=l.map (val a)
def pM:SV->List SV
 | .c h t=>h::pM t
 | _=>[]
def Gv:List SV->SV
 | []=>.e
 | s::r=>.c s (Gv r)
def Ez:SV->Bool
 | .c _ t=>Ez t
 | .e=>L
 | _=>aL
def uc β:∀l,sI β (Gv l)=cW β l
 | []=>rfl
 | s::r=>by simp only[Gv,sI,uc β r];rfl
def pc β:∀{s:SV},Ez s=L->sI β s=cW β (pM s)
 | .e,_=>rfl
 | .c a t,h=>by simp only[sI,pc β (s:=t) h];rfl
def cln(g:Nat->Bool):SV->Bool
 | .box i _=>g i
 | .fn _ f c=>cln g f&&cln g c
 | .agg l=>cln g l
 | .tup l=>cln g l
 | .c h t=>cln g h&&cln g t
 | _=>L
def jv(g:Nat->Bool):List SV->Bool
 | []=>L
 | s::r=>cln g s&&jv g r
def ov{β β'}{g}(h:∀i,g i=L->β i=β' i):∀s,cln g s=L->sI β s=sI β' s
 | .int ..,_ | .il ..,_ | .bl ..,_ | .bt ..,_ | .str ..,_ | .np,_ | .ptr ..,_ | .ad ..,_ | .sl ..,_ | .nsl,_ | .map ..,_ | .raw ..,_ | .un,_ | .e,_=>rfl
 | .box i o,c=>by simp[sI,h i c]
 | .fn f a s,c=>by
  simp[cln]at c;simp[sI,ov h a c.1,ov h s c.2]
 | .agg l,c=>by simp[sI,ov h l c]
 | .tup l,c=>by simp[sI,ov h l c]
 | .c s t,c=>by
  simp[cln]at c;simp[sI,ov h s c.1,ov h t c.2]
def jX{β β'}{g}(h:∀i,g i=L->β i=β' i) s (c:cln g s=L):val β s=val β' s:=by
 unfold val;rw[ov h s c]
def jf{β β'}{g}(h:∀i,g i=L->β i=β' i):∀l,jv g l=L->cW β l=cW β' l
 | [],_=>rfl
 | s::r,c=>by
  simp[jv]at c;have:=jf h r c.2;simp only[cW,bQ]at this⊢;rw[jX h s c.1,this]
def gv β l:I (cW β l)=I l:=by rw[cW,bJ]
def T7:aw->Option SV
 | .int k n=>aM (.il k n)
 | .bool b=>aM (.bl b)
 | .string s=>aM (.str s)
 | .pointer aaf=>aM .np
 | .slice aaf 0 0=>aM .nsl
 | .map m=>aM (.map m)
 | v=>if h:v.oneCell'=L then aM (.raw ⟨v,h⟩)else aaf
def EA:List aw->Option SV
 | []=>aM .e
 | v::r=>match T7 v,EA r with
  | some s,aM l=>aM (.c s l)
  | _,_=>aaf
def ofV:aw->Option SV
 | .agg c=>(EA c.toList).map .agg
 | .tuple c=>(EA c.toList).map .tup
 | .func (.func f) s c=>match EA s.toList,EA c.toList with
  | some a,aM b=>aM (.fn f a b)
  | _,_=>aaf
 | v=>T7 v
def CA{v}{s}(h:T7 v=aM s) β:val β s=v:=by
 unfold T7 at h;split at h
 all_goals first | (simp at h;subst h;rfl) | skip
 split at h
 ·simp at h;subst h;rfl
 cases h
def vt β:∀{l:List aw} {s:SV},EA l=aM s->sI β s=l
 | [],s,h=>by simp[EA]at h;subst h;rfl
 | v::r,s,h=>by
  simp[EA]at h;split at h
  ·rename_i s c a b;simp at h;subst h;simp only[sI,vt β b];rw[show(sI β s).headD undef=v from CA a β]
  cases h
def OA{v}{s}(h:ofV v=aM s) β:val β s=v:=by
 unfold ofV at h;split at h
 ·rename_i c;rcases hl:EA c.toList with _|l
  ·rw[hl]at h;cases h
  rw[hl]at h;simp at h;subst h;simp[val,sI,vt β hl]
 ·rename_i c;rcases hl:EA c.toList with _|l
  ·rw[hl]at h;cases h
  rw[hl]at h;simp at h;subst h;simp[val,sI,vt β hl]
 ·split at h
  ·rename_i a b c d;simp at h;subst h;simp[val,sI,vt β c,vt β d]
  cases h
 exact CA h β
structure mw where
 blk:Option Nat
 ty:TypeId
 cells:List SV
 stp:Nat
 ok:Bool
 esc:Bool
 sh:Bool
structure St where
 n:Nat
 fr:List (Nat×Nat×SV)
 bx:List mw
 w0:M
 mv:Bool
 dt:List Nat
 ct:Nat
 df:List (Nat×List aw×List aw)
def dfs(l:List (Nat×List aw×List aw)):List Deferred:=l.map λd=>{target:=.fn (.func d.1) d.2.2.toArray,args:=d.2.1.toArray}
def frD(n:Nat)(u:Nat->aw)(l:List (Nat×aw))(D:List Deferred):Act:=⟨(ZM u l n 0).toArray,D⟩
def eK:List (Nat×Nat×SV)->Nat->Option (Nat×SV)
 | [],_=>aaf
 | (k,s)::r,i=>bif Nat.beq k i then aM s else eK r i
def St.get(st:St)(i:Nat):Option SV:=bif Nat.blt i st.n then(eK st.fr i).map (·.2)else aaf
def St.ev(st:St):Operand->Option SV
 | .tmp k=>st.get k
 | .const v=>ofV v
 | .global g=>aM (.ad ⟨g,0,aaf⟩)
 | .func f=>aM (.fn f .e .e)
def St.QW(st:St):List Operand->Option (List SV)
 | []=>aM []
 | x::r=>match st.ev x,st.QW r with
  | some v,aM s=>aM (v::s)
  | _,_=>aaf
def St.Y2(st:St):List (Nat×Operand)->Option (List (Nat×SV))
 | []=>aM []
 | (i,x)::r=>match st.ev x,st.Y2 r with
  | some v,aM s=>aM ((i,v)::s)
  | _,_=>aaf
def St.put(st:St)(d:Option Tmp)(v:SV):St:=match d with
 | some k=>{st with fr:=(k,st.ct,v)::st.fr,ct:=st.ct+1}
 | none=>st
def dw:List mw->Nat->Option mw
 | [],_=>aaf
 | b::_,0=>aM b
 | _::r,n+1=>dw r n
def Rz:List mw->Nat->mw->List mw
 | [],_,_=>[]
 | _::r,0,b=>b::r
 | a::r,n+1,b=>a::Rz r n b
def cv(a:Nat->Nat)(l:List (Nat×Nat×SV)):List (Nat×aw):=l.map λp=>(p.1,val a p.2.2)
def nI β:∀l i,A0 (cv β l) i=(eK l i).map λp=>val β p.2
 | [],_=>rfl
 | (k,s)::r,i=>by
  simp[cv,A0,eK];cases Nat.beq k i
  ·exact nI β r i
  rfl
structure amU (β:Nat->Nat) (w0 w:M) (i:Nat) (b:mw):Prop where
 blk:Blk w (β i) b.ty (cW β b.cells)
 at_:∀k,b.blk=aM k->β i=k
 new:b.blk=aaf->w0.heap.size<=β i
structure Rep (β:Nat->Nat) (st:St) (a:Act) (w:M):Prop where
 fr:∃us,a=frD st.n us (cv β st.fr) (dfs st.df)
 bx:∀i b,dw st.bx i=aM b->b.ok=L->amU β st.w0 w i b
 ne:∀i j bi bj,dw st.bx i=aM bi->dw st.bx j=aM bj->bi.ok=L->bj.ok=L->i≠j->β i≠β j
 only:Only (st.dt.map β) st.w0 w
 still:st.mv=aL->w=st.w0
structure Ext (s t:St):Prop where
 n:t.n=s.n
 ct:s.ct<=t.ct
 fr:∀i k v,eK t.fr i=aM (k,v)->k<s.ct->eK s.fr i=aM (k,v)
 bx:∀i b',dw t.bx i=aM b'->b'.ok=L->b'.stp<s.ct->∃b,dw s.bx i=aM b/\b.ok=L/\b.cells=b'.cells/\b.ty=b'.ty/\b.stp=b'.stp/\(∀k,b.blk=aM k->b'.blk=aM k)
 ps:∀i b,dw s.bx i=aM b->∃b',dw t.bx i=aM b'/\b'.ty=b.ty/\b'.ok=b.ok/\∀k,b.blk=aM k->b'.blk=aM k
 df:∃l,t.df=l++s.df
def Iw{s:St}:∃l,s.df=l++s.df:=⟨[],rfl⟩
def T8{l}:∀i b,dw l i=aM b->∃a,dw l i=aM a/\a.ty=b.ty/\a.ok=b.ok/\∀k,b.blk=aM k->a.blk=aM k:=λi b h=>⟨b,h,rfl,rfl,λ_ h=>h⟩
def Ext.refl s:Ext s s:=⟨rfl,aX _,λ_ _ _ h _=>h,λi b h o _=>⟨b,h,o,rfl,rfl,rfl,λ_ h=>h⟩,T8,Iw⟩
def Ext.trans{s t u}(h:Ext s t)(k:Ext t u):Ext s u:=
 ⟨k.n.trans h.n,bH h.ct k.ct,λi m v l W=>h.fr i m v (k.fr i m v l (cH W h.ct)) W,λi a c o d=>by
  obtain⟨g,f,r,k3,s,w,v⟩:=k.bx i a c o (cH d h.ct);obtain⟨b,e,j,n,p,u,t⟩:=h.bx i g f r J;exact⟨b,e,j,n.trans k3,p.trans s,u.trans w,λm q=>v m (t m q)⟩,λi b c=>by
  obtain⟨g,e,j,n,p⟩:=h.ps i b c;obtain⟨a,f,r,k3,s⟩:=k.ps i g e;exact⟨a,f,r.trans j,k3.trans n,λm q=>s m (p m q)⟩,by
  obtain⟨x,e⟩:=h.df;obtain⟨m,f⟩:=k.df;exact⟨m++x,abV⟩⟩
section
variable {β:Nat->Nat} {st:St} {a:Act} {w:M}
def Rep.get(b:Rep β st a w){i}{s}(h:st.get i=aM s):a.eval (.tmp i)=val β s:=by
 obtain⟨u,rfl⟩:=b.fr;show(Kt.fr st.n u _).eval (.tmp i)=_;refine evE (n0:=st.n) (us0:=u) ?_;unfold St.get at h;cases c:Nat.blt i st.n
 ·rw[c]at h;cases h
 simp[evO,nI];cases l:eK st.fr i<;>grind
def Rep.ev(b:Rep β st a w){x}{s}(h:st.ev x=aM s):a.eval x=val β s:=by
 cases x with
 | tmp k=>exact b.get h
 | const v=>rw[OA h];rfl
 | global g=>
  simp[St.ev]at h;subst h;rfl
 | func f=>
  simp[St.ev]at h;subst h;rfl
def Rep.QW(h:Rep β st a w):∀{s:List Operand} {l:List SV},st.QW s=aM l->s.map a.eval=cW β l
 | [],l,g=>by simp[St.QW]at g;subst g;rfl
 | x::r,l,g=>by
  simp[St.QW]at g;split at g
  ·rename_i v b x a;simp at g;subst g;rw[bQ,h.ev x,h.QW a];rfl
  cases g
def E8(a:Nat->Nat)(l:List (Nat×SV)):List (Nat×aw):=l.map λp=>(p.1,val a p.2)
def Rep.Y2(h:Rep β st a w):∀{x:List _} {l:List _},st.Y2 x=aM l->(x.map λq=>(q.1,a.eval q.2))=E8 β l
 | [],l,g=>by simp[St.Y2]at g;subst g;rfl
 | _::r,l,g=>by
  simp[St.Y2]at g;split at g
  ·rename_i v s b a;simp at g;subst g;rw[bQ,h.Y2 a,h.ev b];rfl
  cases g
def St.evO{st:St} β {x} {s} (h:st.ev x=aM s):Kt.evO st.n (cv β st.fr) x=aM (val β s):=by
 cases x with
 | tmp i=>
  have h:st.get i=aM s:=h;unfold St.get at h;cases b:Nat.blt i st.n
  ·rw[b]at h;cases h
  simp[Kt.evO,nI];cases l:eK st.fr i<;>grind
 | const v=>rw[OA h];rfl
 | global g=>
  simp[St.ev]at h;subst h;rfl
 | func f=>
  simp[St.ev]at h;subst h;rfl
def Rep.put(h:Rep β st a w) d v:Rep β (st.put d v) (a.put d (val β v)) w:=by
 rcases d with _|k
 ·exact h
 obtain⟨u,rfl⟩:=h.fr;exact⟨⟨u,bZ (λa:Act=>(⟨a.tmps,dfs st.df⟩:Act)) (aeQ (n0:=st.n) (us0:=u) (l0:=cv β st.fr) (k:=k) (v:=val β v))⟩,h.bx,h.ne,h.only,h.still⟩
def Ext.put st d v:Ext st (st.put d v):=by
 rcases d with _|k
 ·exact Ext.refl _
 refine⟨rfl,jW _,λi m u l W=>?_,λi b h o _=>⟨b,h,o,rfl,rfl,rfl,λ_ h=>h⟩,T8,Iw⟩;simp[St.put,eK]at l
 grind
def Rep.frame(h:Rep β st a w){fr'}(s:∀i p,eK fr' i=aM p->∃q,eK st.fr i=aM q/\val β q.2=val β p.2):Rep β {st with fr:=fr'} a w:=by
 obtain⟨u,rfl⟩:=h.fr;refine⟨?_,h.bx,h.ne,h.only,h.still⟩;refine⟨λi=>xh u (cv β st.fr) i,?_⟩;unfold frD;congr 2;apply nE;intro i;by_cases b:i<st.n
 ·rw[pb _ _ _ _ _ b,pb _ _ _ _ _ b,bS];rcases hl:eK fr' i with _|p
  ·rw[Gu (l:=cv β fr') agB]
  obtain⟨q,a,c⟩:=s i p hl;rw[wC (l:=cv β fr') (v:=val β p.2) agB,wC (l:=cv β st.fr) (v:=val β p.2) (by rw[nI,a,lh,c])]
 rw[eG (by rw[qm];exact jd b),eG (by rw[qm];exact jd b)]
end
def cF{a:Type}(o:Option a)(b:a->Prop):Prop:=match o with
 | some v=>b v
 | none=>False
def bL{α}{o:Option α}{K}(h:cF o K):∃v,o=aM v/\K v:=by
 rcases o with _|v
 ·exact h.elim
 exact⟨v,rfl,h⟩
def gi:List (Bool×Bool)->Prop->Prop
 | [],p=>p
 | (t,b)::r,p=>t=b->gi r p
def gh:List (Bool×Bool)->Prop
 | []=>True
 | (t,b)::r=>t=b/\gh r
def jg:∀{gs:List _} {p:Prop},gi gs p->gh gs->p
 | [],_,h,_=>h
 | _::r,p,h,k=>jg (gs:=r) (h k.1) k.2
inductive Lf where
 | int (k:IntKind)
 | bool
 | str
 | ptr
 | sl
 | map
 | raw
def Lf.T:Lf->Type
 | .int _=>Int
 | .bool=>Bool
 | .str=>ByteArray
 | .ptr=>Option Addr
 | .sl=>Sl
 | .map=>Option Nat
 | .raw=>OV
def Lf.sv:(l:Lf)->l.T->SV
 | .int k,x=>.int k x
 | .bool,x=>.bt x
 | .str,x=>.str x
 | .ptr,x=>.ptr x
 | .sl,x=>.sl x
 | .map,x=>.map x
 | .raw,x=>.raw x
def Lf.cln g (l:Lf) x:V.cln g (l.sv x)=L:=by cases l<;>rfl
def ZN:List Lf->(List SV->Prop)->Prop
 | [],a=>a []
 | l::r,a=>∃x,ZN r λv=>a (l.sv x::v)
def vu:∀{ls:List Lf} {a:List SV->Prop},ZN ls a->∃v,a v/\I v=I ls/\∀g,jv g v=L
 | [],a,h=>⟨[],h,rfl,λ_=>rfl⟩
 | l::r,a,h=>by
  obtain⟨x,h⟩:=h;obtain⟨v,b,c,d⟩:=vu (ls:=r) h;exact⟨_,b,by simp[c],λg=>by simp[jv,Lf.cln,d g]⟩
def aqm:TypeDesc->Lf
 | .int k=>.int k
 | .bool=>.bool
 | .string=>.str
 | .pointer _=>.ptr
 | .slice _=>.sl
 | .map _ _=>.map
 | _=>.raw
def rep{a:Type}:Nat->List a->List a
 | 0,_=>[]
 | n+1,l=>l++rep n l
def flat{a b:Type}(f:a->List b):List a->List b
 | []=>[]
 | x::r=>f x++flat f r
def T9(P:Program):Nat->TypeId->List Lf
 | 0,_=>[]
 | n+1,t=>match P.underlying t with
  | some (.struct fs)=>flat (λf:Field=>T9 P n f.type) fs.toList
  | some (.array len e)=>rep len (T9 P n e)
  | some d=>[aqm d]
  | none=>[]
def ow:TypeDesc->Bool
 | .struct _=>L
 | .array _ _=>L
 | _=>aL
def RA(ag:Bool)(l:List SV):SV:=bif ag then .agg (Gv l)else l.headD .un
def β0:Nat->Nat:=λ_=>0
def sJ:SV->Option (IntKind×Int)
 | .int k n=>aM (k,n)
 | .il k n=>aM (k,n)
 | _=>aaf
def dJ{s}{k}{n}(h:sJ s=aM (k,n)) β:val β s=.int k n:=by
 cases s<;>simp[sJ]at h
 all_goals obtain⟨rfl,rfl⟩:=h;rfl
def CB:SV->Option Bool
 | .bl b=>aM b
 | .bt b=>aM b
 | _=>aaf
def oy{s}{b}(h:CB s=aM b) β:val β s=.bool b:=by
 cases s<;>simp[CB]at h
 all_goals subst h;rfl
def xI:SV->Option ByteArray
 | .str s=>aM s
 | _=>aaf
def jw{s}{b}(h:xI s=aM b) β:val β s=.string b:=by
 cases s<;>simp[xI]at h
 all_goals subst h;rfl
def OB:SV->Option Sl
 | .sl s=>aM s
 | .nsl=>aM Sl.nil
 | _=>aaf
def lU{s}{b}(h:OB s=aM b) β:val β s=b.v:=by
 cases s<;>simp[OB]at h
 all_goals subst h;rfl
def ib(op:BinOp)(k:IntKind)(m n:Int):Option SV:=match op with
 | .add=>aM (.int k (k.wrap (m+n)))
 | .sub=>aM (.int k (k.wrap (m-n)))
 | .mul=>aM (.int k (k.wrap (m*n)))
 | .eql=>aM (.bt (m==n))
 | .neq=>aM (.bt (m !=n))
 | .lss=>aM (.bt (decide (m<n)))
 | .leq=>aM (.bt (decide (m<=n)))
 | .gtr=>aM (.bt (decide (m>n)))
 | .geq=>aM (.bt (decide (m>=n)))
 | .and=>aM (.int k (bits .and k m n))
 | .or=>aM (.int k (bits .or k m n))
 | .xor=>aM (.int k (bits .xor k m n))
 | .andNot=>aM (.int k (bits .andNot k m n))
 | _=>aaf
def sb(op:BinOp)(s u:ByteArray):Option SV:=match op with
 | .eql=>aM (.bt (s.toList==u.toList))
 | .neq=>aM (.bt (!(s.toList==u.toList)))
 | .lss=>aM (.bt (Op.bytesLess s.toList u.toList))
 | .geq=>aM (.bt (!(Op.bytesLess s.toList u.toList)))
 | .leq=>aM (.bt (Op.bytesLess s.toList u.toList||(s.toList==u.toList)))
 | .gtr=>aM (.bt (!(Op.bytesLess s.toList u.toList||(s.toList==u.toList))))
 | _=>aaf
def nz(g:List (Bool×Bool))(b:SV)(n:Int)(a:Prop):Prop:=match b with
 | .il _ _=>bif n==0 then False else a
 | _=>gi g (n≠0)/\a
def ge0(g:List (Bool×Bool))(b:SV)(n:Int)(a:Prop):Prop:=match b with
 | .il _ _=>bif decide (0<=n)then a else False
 | _=>gi g (0<=n)/\a
def opn:SV->Option (Option Addr)
 | .np=>aM aaf
 | .ptr p=>aM p
 | .ad a=>aM (aM a)
 | _=>aaf
def ZO{s}{p}(h:opn s=aM p) β:val β s=.pointer p:=by
 cases s<;>simp[opn]at h
 all_goals subst h;rfl
def pn(op:BinOp)(a:SV):Option SV:=match op,a with
 | .eql,.ptr p=>aM (.bt p.isNone)
 | .neq,.ptr p=>aM (.bt (!p.isNone))
 | .eql,.ad _=>aM (.bl aL)
 | .neq,.ad _=>aM (.bl L)
 | .eql,.box _ _=>aM (.bl aL)
 | .neq,.box _ _=>aM (.bl L)
 | .eql,.np=>aM (.bl L)
 | .neq,.np=>aM (.bl aL)
 | _,_=>aaf
def sn(op:BinOp)(s:Sl):Option SV:=match op with
 | .eql=>aM (.bt s.a.isNone)
 | .neq=>aM (.bt (!s.a.isNone))
 | _=>aaf
def Ua:SV->Bool
 | .np=>L
 | _=>aL
def Jb:SV->Bool
 | .nsl=>L
 | _=>aL
def eq1(P:Program)(t:TypeId)(x y:SV):Option Bool:=match P.underlying t with
 | some (.int _)=>(match sJ x,sJ y with
  | some (k,m),aM (k',n)=>bif decide (k=k')then aM (m==n)else aaf
  | _,_=>aaf)
 | some .string=>(match xI x,xI y with
  | some s,aM u=>aM (s==u)
  | _,_=>aaf)
 | some .bool=>(match CB x,CB y with
  | some s,aM u=>aM (s==u)
  | _,_=>aaf)
 | _=>aaf
def Jc(P:Program)(s a:List SV):List Field->Option Bool
 | []=>aM L
 | f::r=>bif f.name== "_" then aaf else match s[f.offset]?,a[f.offset]? with
  | some x,aM y=>(match eq1 P f.type x y,Jc P s a r,r with
   | some b,aM _,[]=>aM b
   | some b,aM c,_=>aM (b&&c)
   | _,_,_=>aaf)
  | _,_=>aaf
def aeR(P:Program)(t:TypeId)(f:Array Field)(a b:SV):Option Bool:=match a,b with
 | .agg l,.agg m=>bif Ez l&&Ez m&&!P.stoodInHeld t&&!P.eqGuardType P.depth t then Jc P (pM l) (pM m) f.toList else aaf
 | _,_=>aaf
def aeS(op:BinOp)(b:Bool):Option SV:=match op with
 | .eql=>aM (.bt b)
 | .neq=>aM (.bt (!b))
 | _=>aaf
def mn(op:BinOp)(a b:SV):Option SV:=match op,a,b with
 | .eql,.map m,.map aaf=>aM (.bt m.isNone)
 | .neq,.map m,.map aaf=>aM (.bt (!m.isNone))
 | _,_,_=>aaf
def aeT(P:Program)(g:List (Bool×Bool))(op:BinOp)(t:TypeId)(a b:SV)(c:SV->Prop):Prop:=
 match sJ a,sJ b with
 | some (k,m),aM (k',n)=>(match op with
  | .shl=>ge0 g b n (c (.int k (k.wrap (m*2 ^ (min n.toNat k.bits)))))
  | .shr=>ge0 g b n (c (.int k (m.fdiv (2 ^ (min n.toNat k.bits)))))
  | .quo=>bif decide (k=k')then nz g b n (c (.int k (k.wrap (m.tdiv n))))else False
  | .rem=>bif decide (k=k')then nz g b n (c (.int k (m.tmod n)))else False
  | _=>bif decide (k=k')then cF (ib op k m n) c else False)
 | _,_=>match xI a,xI b with
  | some s,aM u=>(match op with
   | .add=>gi g ((s.size:Int)+u.size<=9223372036854775807)/\c (.str (s++u))
   | _=>cF (sb op s u) c)
  | _,_=>match CB a,CB b,P.underlying t with
   | some s,aM u,aM .bool=>(match op with
    | .eql=>c (.bt (s==u))
    | .neq=>c (.bt (!(s==u)))
    | _=>False)
   | _,_,_=>match P.underlying t with
    | some (.pointer _)=>bif Ua b then cF (pn op a) c else bif Ua a then cF (pn op b) c else False
    | some (.slice _)=>bif Jb b then cF ((OB a).bind (sn op)) c else bif Jb a then cF ((OB b).bind (sn op)) c else False
    | some (.struct fs)=>cF (aeR P t fs a b) λr=>cF (aeS op r) c
    | some (.map _ _)=>cF (mn op a b) c
    | _=>False
section
variable {P:Program} {gs:List (Bool×Bool)} {K:SV->Prop}
def acP{b}{k}{n}{K}(a:sJ b=aM (k,n))(h:nz gs b n K):K/\(gh gs->n≠0):=by
 unfold nz at h;split at h
 ·grind
 exact⟨h.2,λg=>jg h.1 g⟩
def Ub{b}{n}{K}(h:ge0 gs b n K):K/\(gh gs->0<=n):=by
 unfold ge0 at h;split at h
 ·grind
 exact⟨h.2,λg=>jg h.1 g⟩
def dU{b}{p}(h:bif b then p else False):b=L/\p:=abV
def pd(P:Program)(op:BinOp)(t:TypeId)(a b v:SV):Prop:=
 ∀c (act:Act) x y d h e p f g w,act.eval x=val c a->act.eval y=val c b->
  (execOp act.eval ⟨d,.binOp op t x y h,e,p,f,g⟩).run P w=.ok (.value (val c v)) w
def ajD{op}{t}{a b v}{k}{m n}(e:sJ a=aM (k,m))(f:sJ b=aM (k,n))(h:ib op k m n=aM v):pd P op t a b v:=by
 intro o act x y s l j p g i w c d;rw[dJ e]at c;rw[dJ f]at d;cases op<;>simp[ib]at h
 all_goals subst h;simp[execOp,c,d];cases k<;>rfl
def ajE{op}{t}{a b v}{s u}(f:xI a=aM s)(g:xI b=aM u)(h:sb op s u=aM v):pd P op t a b v:=by
 intro m act x y e l k p i j w c d;rw[jw f]at c;rw[jw g]at d;cases op<;>simp only[sb,bN,reduceCtorEq]at h
 all_goals subst h;simp only[execOp,c,d];rfl
def acQ{op}{t e}{a b v}(u:P.underlying t=aM (.pointer e))(f:Ua b=L)(d:pn op a=aM v):pd P op t a b v/\pd P op t b a v:=by
 have h:∀c,val c b=.pointer aaf:=λc=>by
  unfold Ua at f;split at f
  ·rfl
  cases f
 have k:∀c,∃(q:Option Addr) (r:Bool),val c a=.pointer q/\val c v=.bool r/\((op=.eql/\q.isNone=r)∨(op=.neq/\(!q.isNone)=r)):=by
  intro c;unfold pn at d;split at d<;>simp only[bN,reduceCtorEq]at d<;>subst d
  ·exact⟨_,_,rfl,rfl,.inl ⟨rfl,rfl⟩⟩
  ·exact⟨_,_,rfl,rfl,.inr ⟨rfl,rfl⟩⟩
  ·exact⟨_,_,rfl,rfl,.inl ⟨rfl,rfl⟩⟩
  ·exact⟨_,_,rfl,rfl,.inr ⟨rfl,rfl⟩⟩
  ·exact⟨_,_,rfl,rfl,.inl ⟨rfl,rfl⟩⟩
  ·exact⟨_,_,rfl,rfl,.inr ⟨rfl,rfl⟩⟩
  ·exact⟨_,_,rfl,rfl,.inl ⟨rfl,rfl⟩⟩
  exact⟨_,_,rfl,rfl,.inr ⟨rfl,rfl⟩⟩
 constructor
 ·intro c act x y s m t p j l w b e;obtain⟨q,r,g,i,a⟩:=k c;rw[g]at b;rw[h]at e;rw[i];rcases a with⟨rfl,a⟩ | ⟨rfl,a⟩
  ·exact Gl (run_underlying u w) b e a
  exact Gn (run_underlying u w) b e a
 intro c act x y s m t p j l w b e;obtain⟨q,r,g,i,a⟩:=k c;rw[g]at e;rw[h]at b;rw[i];rcases a with⟨rfl,a⟩ | ⟨rfl,a⟩
 ·exact Gm (run_underlying u w) b e a
 exact Gp (run_underlying u w) b e a
def acR{op}{t e}{a b v}(u:P.underlying t=aM (.slice e))(f:Jb b=L)(h:(OB a).bind (sn op)=aM v):pd P op t a b v/\pd P op t b a v:=by
 have c:∀d,val d b=.slice aaf 0 0:=λd=>by
  unfold Jb at f;split at f
  ·rfl
  cases f
 rcases hs:OB a with _|s
 ·rw[hs]at h;cases h
 rw[hs]at h;simp at h;constructor
 ·intro d act x y s i t p e g w a b;rw[lU hs]at a;rw[c]at b;cases op<;>simp only[sn,bN,reduceCtorEq]at h<;>subst h
  ·exact IZ (run_underlying u w) a b
  exact I1 (run_underlying u w) a b
 intro d act x y s i t p e g w a b;rw[lU hs]at b;rw[c]at a;cases op<;>simp only[sn,bN,reduceCtorEq]at h<;>subst h
 ·exact I0 (run_underlying u w) a b
 exact I2 (run_underlying u w) a b
def ajF{op}{t k e}{a b v}(u:P.underlying t=aM (.map k e))(h:mn op a b=aM v):pd P op t a b v:=by
 intro n act x y s l j p g i w c f;unfold mn at h;split at h<;>simp at h<;>subst h
 all_goals
  rename_i m;change act.eval x=.map m at c;change act.eval y=.map aaf at f;have E:∀d,(Op.equalIn (d+1) t (.map m) (.map aaf)).run P w=.ok m.isNone w:=λd=>by
   unfold Op.equalIn;cases m<;>simp[run_underlying u w]
 ·have B:binOp .eql t (.map m) (.map aaf)=(do pure (.bool ((<-Op.equal t (.map m) (.map aaf))))):=by cases m<;>rfl
  have G:eqGuard .eql t x y (.map m) (.map aaf)=pure _:=rfl;simp[execOp,c,f,G,B,Op.equal,Op.maxDepth,E 9999];rfl
 have B:binOp .neq t (.map m) (.map aaf)=(do pure (.bool (!(<-Op.equal t (.map m) (.map aaf))))):=by cases m<;>rfl
 have G:eqGuard .neq t x y (.map m) (.map aaf)=pure _:=rfl;simp[execOp,c,f,G,B,Op.equal,Op.maxDepth,E 9999];rfl
def ZP{t}{x y}{b}(h:eq1 P t x y=aM b) β d w:P.plainKey t=L/\(Op.equalIn (d+1) t (val β x) (val β y)).run P w=.ok b w:=by
 unfold eq1 at h;split at h
 ·rename_i k hu;refine⟨aeD,?_⟩;split at h
  ·rename_i k m a n x y;cases hk:decide (k=a)with
   | false=>rw[hk]at h;cases h
   | true=>
    rw[hk]at h;injection h with h;subst h;have hk:=aN hk;subst hk;rw[dJ x,dJ y];simp[Op.equalIn,run_underlying hu]
  cases h
 ·rename_i hu;refine⟨aeD,?_⟩;split at h
  ·rename_i s u x y;injection h with h;subst h;rw[jw x,jw y];simp[Op.equalIn,run_underlying hu]
  cases h
 ·rename_i hu;refine⟨aeD,?_⟩;split at h
  ·rename_i s u x y;injection h with h;subst h;rw[oy x,oy y];simp[Op.equalIn,run_underlying hu]
  cases h
 cases h
def Jd{xs ys} β d w:∀{s:List Field} {b:Bool},Jc P xs ys s=aM b->(Op.eqFields (d+1) (cW β xs).toArray (cW β ys).toArray s).run P w=.ok b w
 | [],b,h=>by
  simp[Jc]at h;subst h;simp[Op.eqFields]
 | f::r,b,h=>by
  unfold Jc at h;cases n:(f.name== "_")with
  | true=>rw[n]at h;cases h
  | false=>
   rw[n]at h;split at h
   ·rename_i x y g i;have p:(cW β xs).toArray[f.offset]? =aM (val β x):=by simp[cW,g]
    have j:(cW β ys).toArray[f.offset]? =aM (val β y):=by simp[cW,i]
    have go:∀{b c:Bool},eq1 P f.type x y=aM b->Jc P xs ys r=aM c->(Op.eqFields (d+1) (cW β xs).toArray (cW β ys).toArray (f::r)).run P w=.ok (b&&c) w:=fun{b c} e a=>by
     obtain⟨k,c⟩:=ZP e β d w;simp[Op.eqFields,by simpa using n,ne_eq,not_false_eq_true,Gb,Sem.run_bind,run_part_plain w k p,run_part_plain w k j,c,Result.andThen_ok];cases b
     ·simp
     simpa using Jd β d w a
    split at h
    ·rename_i b c e a;injection h with h;subst h;have:=go e a;simp[Jc]at a
     grind
    ·grind
    cases h
   cases h
def ZQ{op}{t}{fs}{a b v}{r}(u:P.underlying t=aM (.struct fs))(h:aeR P t fs a b=aM r)(c:aeS op r=aM v):pd P op t a b v:=by
 unfold aeR at h;split at h
 ·rename_i l m;obtain⟨a,h⟩:(Ez l&&Ez m&&!P.stoodInHeld t&&!P.eqGuardType P.depth t)=L/\Jc P _ _ fs.toList=aM r:=by
   cases b:(Ez l&&Ez m&&!P.stoodInHeld t&&!P.eqGuardType P.depth t)with
   | true=>rw[b]at h;exact⟨rfl,h⟩
   | false=>rw[b]at h;cases h
  simp at a;obtain⟨⟨⟨j,k⟩,n⟩,o⟩:=a;intro d act x y s B A p v z w e g;have i:∀{l:SV},Ez l=L->val d (.agg l)=.agg (cW d _).toArray:=λq=>by
   show Value.agg (sI d _).toArray=_;rw[pc d q]
  rw[i j]at e;rw[i k]at g;have f:P.fieldsOf t=fs:=by simp[Program.fieldsOf,u]
  have E:(Op.equalIn 10000 t (.agg (cW d (pM l)).toArray) (.agg (cW d (pM m)).toArray)).run P w=.ok r w:=by
   rw[run_equalIn_struct w 9999 t _ _ (by rw[f];exact u) n,f];exact Jd d 9998 w h
  have G:∀op,(eqGuard op t x y (.agg (cW d (pM l)).toArray) (.agg (cW d (pM m)).toArray)).run P w=.ok () w:=λop=>by simp[eqGuard,o]
  unfold aeS at c;split at c
  ·injection c with c;subst c;have p:binOp .eql t (.agg (cW d (pM l)).toArray) _=(do pure (.bool (<-Op.equal t _ (.agg (cW d (pM m)).toArray)))):=rfl;simp[execOp,e,g,p,Op.equal,Op.maxDepth,E,G];rfl
  ·injection c with c;subst c;have p:binOp .neq t (.agg (cW d (pM l)).toArray) _=(do pure (.bool (!(<-Op.equal t _ (.agg (cW d (pM m)).toArray))))):=rfl;simp[execOp,e,g,p,Op.equal,Op.maxDepth,E,G];rfl
  cases c
 cases h
def ZR{op}{t}{a b}(h:aeT P gs op t a b K):∃v,K v/\(gh gs->pd P op t a b v):=by
 unfold aeT at h;split at h
 ·rename_i k m l n e c;have g:∀{K:SV->Prop},(bif decide (k=l)then cF _ K else False)->∃v,K v/\(gh gs->pd P op t a b v):=λh=>by
   obtain⟨f,d⟩:=dU h;have hk:=aN f;subst hk;obtain⟨v,j,i⟩:=bL d;exact⟨v,i,λ_=>ajD e c j⟩
  split at h
  ·obtain⟨h,n⟩:=Ub h;exact⟨_,h,λa u act x y s r t p o q w b k=>aju (by rw[b,dJ e]) (by rw[k,dJ c]) (n a)⟩
  ·obtain⟨h,n⟩:=Ub h;exact⟨_,h,λa u act x y s r t p o q w b k=>ajv (by rw[b,dJ e]) (by rw[k,dJ c]) (n a)⟩
  ·obtain⟨f,d⟩:=dU h;have hk:=aN f;subst hk;obtain⟨b,n⟩:=acP c d;exact⟨_,b,λa v act x y s u t p q r w k o=>ajs (by rw[k,dJ e]) (by rw[o,dJ c]) (n a)⟩
  ·obtain⟨f,d⟩:=dU h;have hk:=aN f;subst hk;obtain⟨b,n⟩:=acP c d;exact⟨_,b,λa v act x y s u t p q r w k o=>ajt (by rw[k,dJ e]) (by rw[o,dJ c]) (n a)⟩
  exact g h
 split at h
 ·rename_i s u a b;split at h
  ·exact⟨_,h.2,λg k act x y d j t p f i w c e=>TZ (by rw[c,jw a]) (by rw[e,jw b]) (jg h.1 g)⟩
  obtain⟨v,d,c⟩:=bL h;exact⟨v,c,λ_=>ajE a b d⟩
 split at h
 ·rename_i s c a b u;split at h
  ·exact⟨_,h,λi l act x y d k t p g j w e f=>Rt u (by rw[e,oy a]) (by rw[f,oy b])⟩
  ·exact⟨_,h,λi l act x y d k t p g j w e f=>Ru u (by rw[e,oy a]) (by rw[f,oy b])⟩
  exact h.elim
 split at h
 ·rename_i e u;cases a:Ua b
  ·rw[a]at h;obtain⟨c,h⟩:=dU h;obtain⟨v,d,b⟩:=bL h;exact⟨v,b,λ_=>(acQ u c d).2⟩
  rw[a]at h;obtain⟨v,c,b⟩:=bL h;exact⟨v,b,λ_=>(acQ u a c).1⟩
 ·rename_i e u;cases a:Jb b
  ·rw[a]at h;obtain⟨c,h⟩:=dU h;obtain⟨v,d,b⟩:=bL h;exact⟨v,b,λ_=>(acR u c d).2⟩
  rw[a]at h;obtain⟨v,c,b⟩:=bL h;exact⟨v,b,λ_=>(acR u a c).1⟩
 ·rename_i f u;obtain⟨c,r,h⟩:=bL h;obtain⟨v,b,a⟩:=bL h;exact⟨v,a,λ_=>ZQ u r b⟩
 ·rename_i k e u;obtain⟨v,b,a⟩:=bL h;exact⟨v,a,λ_=>ajF u b⟩
 exact h.elim
end
def ZS:SV->Bool
 | .agg _=>aL
 | .tup _=>aL
 | .un=>aL
 | .e=>aL
 | .c _ _=>aL
 | _=>L
def OC:List SV->Bool
 | []=>L
 | s::r=>ZS s&&OC r
def Je{s}(h:ZS s=L) β:(val β s).oneCell'=L/\(val β s).cells=#[val β s]:=by
 cases s with
 | raw v=>
  have e:val β (.raw v)=v.v:=rfl;refine⟨v.one,?_⟩;obtain⟨v,a⟩:=v;cases v<;>first | rfl | (simp[Value.oneCell']at a)
 | _=>first | exact⟨rfl,rfl⟩ | (simp[ZS]at h)
def E9:∀{l:List SV},OC l=L->∀a,(cW a l).all Value.oneCell'=L
 | [],_,_=>rfl
 | s::r,h,a=>by
  simp[OC,aU]at h;simp only[cW,bQ,List.all_cons,aU];exact⟨(Je h.1 a).1,E9 h.2 a⟩
def CD:SV->Option (List SV)
 | .agg l=>bif Ez l&&OC (pM l)then aM (pM l)else aaf
 | s=>bif ZS s then aM [s]else aaf
def Gw{a:Type}{b}{x}{y:a}(h:(bif b then aM x else aaf)=aM y):b=L/\x=y:=by
 cases b
 ·cases h
 exact⟨rfl,abT⟩
def zY{s}{l}(h:CD s=aM l) β:(val β s).cells=(cW β l).toArray/\(cW β l).all Value.oneCell'=L:=by
 unfold CD at h;split at h
 ·obtain⟨a,rfl⟩:=Gw h;simp at a;refine⟨?_,E9 a.2 β⟩;show(sI β _).toArray=_;rw[pc β a.1]
 obtain⟨a,rfl⟩:=Gw h;obtain⟨b,c⟩:=Je a β;exact⟨c,by simp[cW,b]⟩
def MB:List aw->Option (List SV)
 | []=>aM []
 | v::r=>match T7 v,MB r with
  | some s,aM l=>aM (s::l)
  | _,_=>aaf
def BL β:∀{l:List aw} {s:List SV},MB l=aM s->cW β s=l
 | [],s,h=>by simp[MB,bN]at h;subst h;rfl
 | v::r,s,h=>by
  simp[MB]at h;split at h
  ·rename_i s c a b;simp at h;subst h;have:=BL β b;simp only[cW,bQ]at this⊢;rw[CA a,this]
  cases h
def spl(c:List SV)(o:Nat)(v:List SV):List SV:=c.take o++v++c.drop (o+I v)
def Jf β cs o vs:cW β (spl cs o vs)=fQ (cW β cs) o (cW β vs):=by
 simp[cW,spl,fQ,cp,lC,zQ,bJ]
def Jg{off}:∀s k c,off+k+I s<=(I c)->
  (s.zipIdx k).foldl (λc x=>c.setIfInBounds (off+x.2) x.1) c.toArray=(fQ c (off+k) s).toArray
 | [],k,c,_=>by simp[fQ]
 | v::s,k,c,h=>by
  simp at h;have e:c.toArray.setIfInBounds (off+k) v=(c.set (off+k) v).toArray:=aaV
  rw[List.zipIdx_cons,YK];rw[e,Jg s _ _ (by rw[List.length_set];omega)];simp[fQ,ba];rw[show off+_=off+k+1 by omega,bq,List.getElem?_set_self J,List.take_set_of_le (aX _),List.drop_set_of_lt J,show off+k+1+I s=off+k+(I s+1) by omega];simp
def Fa(place:Nat->Option (Nat×Nat)):List SV->List (Nat×SV)->Option (List SV)
 | cells,[]=>aM cells
 | cells,(i,v)::r=>match place i,CD v with
  | some (off,size),aM v=>bif Nat.beq (I v) size&&Nat.ble (off+I v) (I cells) then Fa place (spl cells off v) r else aaf
  | _,_=>aaf
def CE β {place}:∀{parts:List _} {cells r:List SV},Fa place cells parts=aM r->Instr.fill place (cW β cells).toArray (E8 β parts)=aM (cW β r).toArray
 | [],cells,r,h=>by simp[Fa,bN]at h;subst h;rfl
 | _::e,cells,r,h=>by
  simp[Fa]at h;split at h
  ·rename_i off s v p c;cases b:(Nat.beq (I v) s&&Nat.ble _ (I cells))with
   | false=>rw[b]at h;cases h
   | true=>
    rw[b]at h;simp only[aU]at b;have k:=dh b.1;have l:=cZ b.2;obtain⟨g,_⟩:=zY c β;have i:=CE β (parts:=e) (cells:=spl cells off v) h;rw[Jf]at i;simp only[E8,bQ,Instr.fill,p,g,yv,gv];rw[aR aba];have d:=Jg (off:=off) (cW β v) 0 (cW β cells) (by rw[gv,gv];omega);rw[eE]at d;have j:(cW β v).toArray.zipIdx.foldl (λf x=>f.setIfInBounds (off+x.2) x.1) (cW β cells).toArray=(fQ (cW β cells) off (cW β v)).toArray:=by
     rw[<-d];simp
    exact(bZ (λa=>Instr.fill place a _) j).trans i
  cases h
def aeU(P:Program)(t:TypeId)(parts:List (Nat×SV)):Option (List SV):=
 match P.info? t,P.underlying t with
 | some i,aM (.array _ e)=>(match i.zero,P.info? e with
  | some z,aM e=>(match MB z.cells.toList with
   | some z=>Fa (λa=>aM (a*e.size,e.size)) z parts
   | none=>aaf)
  | _,_=>aaf)
 | some t,aM (.struct fields)=>(match t.zero,fields.toList.mapM (λf=>(P.info? f.type).map λi=>(f.offset,i.size))with
  | some z,aM p=>(match MB z.cells.toList with
   | some z=>Fa (p.toArray[·]?) z parts
   | none=>aaf)
  | _,_=>aaf)
 | _,_=>aaf
def ZT{P}{t}{parts}{r}(h:aeU P t parts=aM r) β w:(Instr.build t (E8 β parts).toArray).run P w=.ok (.agg (cW β r).toArray) w:=by
 refine run_build w t _ _ ?_;unfold aeU at h;split at h
 ·rename_i i n e a b;split at h
  ·rename_i z e c d;split at h
   ·rename_i z f;have:=CE β h;rw[BL β f]at this;simp[Program.built,a,b,c,d];simpa using this
   cases h
  cases h
 ·rename_i i f a b;split at h
  ·rename_i z p c d;split at h
   ·rename_i z e;have:=CE β h;rw[BL β e]at this;simp[Program.built,a,b,c,d];simpa using this
   cases h
  cases h
 cases h
def sz(P:Program)(t:TypeId)(n:Nat):Bool:=match P.info? t with
 | some i=>Nat.beq i.size n
 | none=>aL
def rN{P}{t}{n}(h:sz P t n=L) w:(sizeOf t).run P w=.ok n w:=by
 unfold sz at h;rcases hi:P.info? t with _|i
 ·rw[hi]at h;cases h
 rw[hi]at h;rw[<-dh h];simp[sizeOf,typeInfo,hi]
def xJ(P:Program)(t:TypeId):Nat:=match P.info? t with
 | some i=>i.size
 | none=>0
def mL{P}{t}{d}(h:P.underlying t=aM d) w:(isAgg t).run P w=.ok (ow d) w:=by
 unfold isAgg;rw[Sem.run_bind,run_underlying h];cases d<;>rfl
def MC(b:SV)(a:Nat->(Prop->Prop)->Prop):Prop:=match b with
 | .il _ n=>bif decide (0<=n)then a n.toNat id else False
 | .int _ n=>∃v,a v λp=>n=v/\p
 | _=>False
def oz{b}{K}(h:MC b K):∃(v:Nat) (e:Prop->Prop) (k:IntKind) (n:Int),K v e/\sJ b=aM (k,n)/\(∀p,e p->n=v/\p):=by
 unfold MC at h;split at h
 ·rename_i k n;obtain⟨a,b⟩:=dU h;have a:=aN a;exact⟨_,_,k,n,b,rfl,λp c=>⟨J,c⟩⟩
 ·rename_i k n;obtain⟨v,b⟩:=h;exact⟨v,_,k,n,b,rfl,λp a=>a⟩
 exact h.elim
def slS(i:List (Bool×Bool))(s:Sl)(g:Nat)(st:St)(l h m:Option Operand)(d:SV->Prop):Prop:=match l,h,m with
 | some l,aaf,aaf=>cF (st.ev l) λa=>MC a λb e=>gi i (e (b<=s.n/\s.n<=s.c))/\d (.sl (s.cut b s.n s.c g))
 | none,aM h,aaf=>cF (st.ev h) λa=>MC a λb e=>gi i (e (b<=s.c))/\d (.sl (s.cut 0 b s.c g))
 | some l,aM h,aaf=>cF (st.ev l) λa=>cF (st.ev h) λb=>MC a λj e=>MC b λc f=>gi i (e (f (j<=c/\c<=s.c)))/\d (.sl (s.cut j c s.c g))
 | none,aM h,aM m=>cF (st.ev h) λb=>cF (st.ev m) λc=>MC b λj e=>MC c λa f=>gi i (e (f (j<=a/\a<=s.c)))/\d (.sl (s.cut 0 j a g))
 | some l,aM h,aM m=>cF (st.ev l) λa=>cF (st.ev h) λb=>cF (st.ev m) λc=>MC a λn e=>MC b λj f=>MC c λk o=>gi i (e (f (o (n<=j/\j<=k/\k<=s.c))))/\d (.sl (s.cut n j k g))
 | _,_,_=>False
def slT(g:List (Bool×Bool))(s:ByteArray)(st:St)(l h m:Option Operand)(c:SV->Prop):Prop:=match l,h,m with
 | some l,aaf,aaf=>cF (st.ev l) λa=>MC a λb e=>gi g (e (b<=s.size))/\c (.str (s.extract b s.size))
 | none,aM h,aaf=>cF (st.ev h) λa=>MC a λb e=>gi g (e (b<=s.size))/\c (.str (s.extract 0 b))
 | some l,aM h,aaf=>cF (st.ev l) λa=>cF (st.ev h) λb=>MC a λi e=>MC b λd f=>gi g (e (f (i<=d/\d<=s.size)))/\c (.str (s.extract i d))
 | _,_,_=>False
def A1(P:Program)(b:Builtin)(e:List Operand)(d:List TypeId)(st:St)(c:SV->Prop):Prop:=match b,e,d with
 | .len,[x],[t]=>cF (st.ev x) λa=>(match P.underlying t with
  | some (.slice _)=>cF (OB a) λs=>c (.int .i64 s.n)
  | some .string=>cF (xI a) λs=>c (.int .i64 s.size)
  | _=>False)
 | .cap,[x],[t]=>cF (st.ev x) λa=>(match P.underlying t with
  | some (.slice _)=>cF (OB a) λs=>c (.int .i64 s.c)
  | _=>False)
 | .min,[x,y],_=>cF (st.ev x) λa=>cF (st.ev y) λb=>cF (sJ a) λp=>cF (sJ b) λq=>c (.int p.1 (if q.2<p.2 then q.2 else p.2))
 | .max,[x,y],_=>cF (st.ev x) λa=>cF (st.ev y) λb=>cF (sJ a) λp=>cF (sJ b) λq=>c (.int p.1 (if q.2>p.2 then q.2 else p.2))
 | _,_,_=>False
def nif:TypeDesc->Bool
 | .interface _=>aL
 | _=>L
def cvP(P:Program)(g:List (Bool×Bool))(st:St)(s d:TypeId)(a:SV)(b:SV->Prop):Prop:=match P.underlying s,P.underlying d with
 | some (.int _),aM (.int kd)=>cF (sJ a) λp=>b (.int kd (kd.wrap p.2))
 | some .string,aM .string=>cF (xI a) λu=>b (.str u)
 | some (.slice e),aM .string=>(match P.underlying e with
  | some (.int .u8)=>cF (OB a) λu=>bif st.mv then False else ∃l,gi g (uJ st.w0 u l)/\b (.str ⟨l.toArray⟩)
  | _=>False)
 | _,_=>False
def ldP(P:Program)(g:List (Bool×Bool))(st:St)(t:TypeId)(a:SV)(c:SV->Prop):Prop:=match P.underlying t with
 | none=>False
 | some d=>(match a with
  | .box i o=>cF (dw st.bx i) λb=>bif b.ok&&sz P t (I ((b.cells.drop o).take (xJ P t)))&&(ow d||Nat.beq (I ((b.cells.drop o).take (xJ P t))) 1)then c (RA (ow d) ((b.cells.drop o).take (xJ P t)))else False
  | .ad p=>bif !st.mv&&sz P t (I (T9 P 12 t))&&(ow d||Nat.beq (I (T9 P 12 t)) 1)then ZN (T9 P 12 t) λv=>gi g (Cells st.w0 p (cW β0 v))/\c (RA (ow d) v)else False
  | _=>False)
def OD:Operand->Bool
 | .const .nilIface=>L
 | _=>aL
def niV:aw->Bool
 | .nilIface=>L
 | _=>aL
def Ifc(v:aw):Prop:=v=.nilIface∨∃t x,v=.iface t x
def niP(P:Program)(g:List (Bool×Bool))(op:BinOp)(t:TypeId)(a:SV)(b:SV->Prop):Prop:=match a,P.underlying t,op with
 | .raw v,aM (.interface _),.eql=>gi g (Ifc v.v)/\b (.bt (niV v.v))
 | .raw v,aM (.interface _),.neq=>gi g (Ifc v.v)/\b (.bt (!niV v.v))
 | _,_,_=>False
def Uc{y}(h:OD y=L):y=.const .nilIface:=by grind [OD]
def acS{P}{t}{ms}{v}(h:P.underlying t=aM (.interface ms))(a:Ifc v) w:(Op.equal t v .nilIface).run P w=.ok (niV v) w:=by
 unfold Op.equal Op.maxDepth Op.equalIn;rcases a with rfl | ⟨b,x,rfl⟩<;>simp[run_underlying h]<;>rfl
def Jh{P}{op}{t}{x}{v}(h:Ifc v) w:(eqGuard op t x (.const .nilIface) v .nilIface).run P w=.ok () w:=by
 unfold eqGuard;rcases h with rfl | ⟨a,x,rfl⟩<;>first | rfl | simp
def aeV{P}{gs}{st}{K}{op}{t ty}{x}{a}(k:st.ev x=aM a)(h:niP P gs op t a K):∃v,K v/\(gh gs->∀b c j,Rep b st c j->∀d i p f g w,
  (execOp c.eval ⟨d,.binOp op t x (.const .nilIface) ty,i,p,f,g⟩).run P w=.ok (.value (val b v)) w):=by
 unfold niP at h;split at h
 ·rename_i v s u;refine⟨_,h.2,λn b c j R d i p f g w=>?_⟩;have a:=jg h.1 n;have e:c.eval x=v.v:=R.ev k;have l:c.eval (.const .nilIface)=.nilIface:=rfl;have m:binOp .eql t v.v .nilIface=(do pure (.bool (<-Op.equal t v.v .nilIface))):=by
   rcases a with h | ⟨o,x,h⟩<;>rw[h]<;>rfl
  simp[execOp,e,l,m,Jh a,acS u a];rfl
 ·rename_i v s u;refine⟨_,h.2,λn b c j R d i p f g w=>?_⟩;have a:=jg h.1 n;have e:c.eval x=v.v:=R.ev k;have l:c.eval (.const .nilIface)=.nilIface:=rfl;have m:binOp .neq t v.v .nilIface=(do pure (.bool (!(<-Op.equal t v.v .nilIface)))):=by
   rcases a with h | ⟨o,x,h⟩<;>rw[h]<;>rfl
  simp[execOp,e,l,m,Jh a,acS u a];rfl
 exact h.elim
def Ji(p:Addr)(i:Int)(len s:Nat)(q:Addr):Prop:=0<=i/\i<len/\p.add (i.toNat*s)=q
def aeW(n:Int)(F:Nat->Prop):Nat->Prop
 | 0=>True
 | 1=>n=0->F 0
 | j+2=>aeW n F (j+1)/\(n=((j+1))->F (j+1))
def OE{n}{F}:∀{m:Nat},aeW n F m->0<=n->n<m->F n.toNat
 | 0,_,h,a=>J
 | 1,h,a,b=>by
  have e:n=0:=J
  subst e;exact h rfl
 | j+2,h,a,b=>by
  by_cases e:n=((j+1))
  ·have:=h.2 e;simp_all
  exact OE h.1 a J
def pur(P:Program)(h:List (Bool×Bool))(st:St)(o:Op)(g:SV->Prop):Prop:=match o with
 | .move x=>cF (st.ev x) g
 | .assign x=>cF (st.ev x) g
 | .pick c x y=>cF (st.ev c) λc=>(match c with
  | .bl L=>cF (st.ev x) g
  | .bl aL=>cF (st.ev y) g
  | _=>False)
 | .binOp op t x y _=>cF (st.ev x) λa=>cF (st.ev y) λb=>bif OD y then niP P h op t a g else aeT P h op t a b g
 | .unOp .not _ x=>cF (st.ev x) λa=>(match a with
  | .bl b=>g (.bl (!b))
  | .bt b=>g (.bt (!b))
  | _=>False)
 | .unOp .neg _ x=>cF (st.ev x) λa=>cF (sJ a) λp=>g (.int p.1 (p.1.wrap (0-p.2)))
 | .convert s d x=>cF (st.ev x) λa=>cvP P h st s d a g
 | .extract x b=>cF (st.ev x) λa=>(match a with
  | .tup l=>bif Ez l then cF ((pM l)[b]?) g else False
  | _=>False)
 | .build t p=>cF (st.Y2 p.toList) λps=>cF (aeU P t ps) λr=>g (.agg (Gv r))
 | .makeFunc n i c=>(match n with
  | .func f=>cF (st.QW i.toList) λa=>cF (st.QW c.toList) λb=>g (.fn f (Gv a) (Gv b))
  | _=>False)
 | .makeInterface t x=>cF (st.ev x) λa=>cF (P.underlying t) λd=>bif nif d&&cln (λ_=>aL) a then g (.raw ⟨.iface t (val β0 a),rfl⟩)else False
 | .nilCheck x=>cF (st.ev x) λa=>(match a with
  | .ad p=>g (.ad p)
  | .box a o=>g (.box a o)
  | .ptr p=>∃q,gi h (p=aM q)/\g (.ad q)
  | .fn f .e c=>g (.fn f .e c)
  | _=>False)
 | .fieldAddr s x k=>cF (st.ev x) λa=>(match P.underlying s with
  | some (.struct i)=>cF (i[k]?) λf=>bif Nat.ble 1 (xJ P f.type)then(match a with
   | .ad p=>g (.ad (p.add f.offset))
   | .box a o=>g (.box a (o+f.offset))
   | _=>False)else False
  | _=>False)
 | .field t x k=>cF (st.ev x) λa=>(match a,P.underlying t with
  | .agg l,aM (.struct i)=>cF (i[k]?) λf=>cF (P.underlying f.type) λd=>bif Ez l&&sz P f.type (I (((pM l).drop f.offset).take (xJ P f.type)))&&(ow d||Nat.beq (I (((pM l).drop f.offset).take (xJ P f.type))) 1)
   then g (RA (ow d) (((pM l).drop f.offset).take (xJ P f.type)))else False
  | _,_=>False)
 | .indexAddr t x c=>cF (st.ev x) λa=>cF (st.ev c) λj=>cF (sJ j) λn=>(match P.underlying t with
  | some (.slice e)=>cF (OB a) λs=>bif (P.info? e).isSome then ∃q,gi h (cT s n.2 (xJ P e) q)/\g (.ad q)else False
  | some (.array len e)=>bif (P.info? e).isSome then(match a,j with
   | .box b o,.il _ n=>bif decide (0<=n)&&decide (n<len)then g (.box b (o+n.toNat*xJ P e))else False
   | .ad p,.il _ n=>bif decide (0<=n)&&decide (n<len)then g (.ad (p.add (n.toNat*xJ P e)))else False
   | .ad p,_=>∃q,gi h (Ji p n.2 len (xJ P e) q)/\g (.ad q)
   | .box b o,_=>bif Nat.ble len 8 then(0<=n.2/\n.2<len)/\aeW n.2 (λj=>g (.box b (o+j*xJ P e))) len else False
   | _,_=>False)else False
  | _=>False)
 | .load t x=>cF (st.ev x) λa=>ldP P h st t a g
 | .index t x b=>cF (st.ev x) λa=>cF (st.ev b) λj=>cF (sJ j) λn=>(match P.underlying t with
  | some .string=>cF (xI a) λs=>∃c,gi h (0<=n.2/\s[n.2.toNat]? =aM c)/\g (.int .u8 c.toNat)
  | _=>False)
 | .slice t x l b m=>cF (st.ev x) λa=>(match P.underlying t with
  | some (.slice e)=>cF (OB a) λs=>bif (P.info? e).isSome then slS h s (xJ P e) st l b m g else False
  | some .string=>cF (xI a) λs=>slT h s st l b m g
  | _=>False)
 | .call c=>(match c.callee with
  | .builtin b=>A1 P b c.args.toList c.argTypes.toList st g
  | _=>False)
 | _=>False
def mem:Op->Bool
 | .load _ _=>L
 | .convert _ _ _=>L
 | _=>aL
def Y(P:Program)(st:St)(o:Op)(v:SV):Prop:=∀c a b,Rep c st a b->∀d t p f g w,(mem o=L->w.heap=b.heap)->
 (execOp a.eval ⟨d,o,t,p,f,g⟩).run P w=.ok (.value (val c v)) w
def mM{P}{t}(h:(P.info? t).isSome=L) w:(sizeOf t).run P w=.ok (xJ P t) w:=by
 unfold xJ;rcases hi:P.info? t with _|i
 ·rw[hi]at h;cases h
 simp[sizeOf,typeInfo,hi]
def Gx b o n:(⟨b,o,aaf⟩:Addr).add n=⟨b,o+n,aaf⟩:=by unfold Addr.add;split<;>simp_all
def ry{d}(h:ow d=L) β l:val β (RA (ow d) l)=.agg (cW β l).toArray:=by
 rw[h];show Value.agg (sI β _).toArray=_;rw[uc]
def CF{l:List SV}(h:Nat.beq (I l) 1=L):∃s,l=[s]:=by
 have:=dh h
 match l,this with
 | [s],_=>exact⟨s,rfl⟩
section
variable {P:Program} {gs:List (Bool×Bool)} {st:St} {K:SV->Prop}
def aeY{t}{x}{a}(c:st.ev x=aM a)(h:ldP P gs st t a K):∃v,K v/\(gh gs->Y P st (.load t x) v):=by
 unfold ldP at h;split at h
 ·exact h.elim
 rename_i d u;split at h
 ·rename_i j k;obtain⟨b,n,h⟩:=bL h;obtain⟨g,m⟩:=dU h;simp only[aU,cu]at g;obtain⟨⟨H,z⟩,o⟩:=g;refine⟨_,m,λ_ a act A i t y p v x w q=>?_⟩;have B:=(i.bx j b n H).blk;have Y:Blk w (a j) b.ty (cW a b.cells):=by unfold Blk at B⊢;rw[q rfl];exact B
  have f:=i.ev c;generalize r:(b.cells.drop k).take _=l at*
  have C:Cells w _ (cW a l):=Y.H9 k _ (by
   rw[<-r];simp only[cW,lC,zQ];rw[ch,sF];simp only[cG,bJ];omega)
  rcases o with R | o
  ·rw[ry R];have:=mL (P:=P) u w;rw[R]at this;exact wA this (rN z w) (gv a l) f C
  cases R:ow d
  ·obtain⟨s,rfl⟩:=CF o;have:=mL (P:=P) u w;rw[R]at this;exact Gf this f (Cells.one C)
  have e:=ry R a l;rw[R]at e;rw[e];have:=mL (P:=P) u w;rw[R]at this;exact wA this (rN z w) (gv a l) f C
 ·rename_i ad;obtain⟨f,k⟩:=dU h;simp only[aU,cu,dr]at f;obtain⟨⟨S,z⟩,o⟩:=f;obtain⟨v,⟨F,l⟩,i,Y⟩:=vu k;refine⟨_,l,λm a act A g t y p r j w n=>?_⟩;have q:=g.still S;subst q;have C:Cells w ad (cW a v):=by
   rw[jf (β:=a) (β':=β0) (g:=λ_=>aL) (λx h=>abG) v (Y _)];exact(jg F m).keep (by rw[n rfl])
  have b:=g.ev c;rw[<-i]at z o;rcases o with R | o
  ·rw[ry R];have:=mL (P:=P) u w;rw[R]at this;exact wA this (rN z w) (gv a v) b C
  cases R:ow d
  ·obtain⟨s,rfl⟩:=CF o;have:=mL (P:=P) u w;rw[R]at this;exact Gf this b (Cells.one C)
  have e:=ry R a v;rw[R]at e;rw[e];have:=mL (P:=P) u w;rw[R]at this;exact wA this (rN z w) (gv a v) b C
 exact h.elim
def aeZ{s d}{x}{a}(b:st.ev x=aM a)(h:cvP P gs st s d a K):∃v,K v/\(gh gs->Y P st (.convert s d x) v):=by
 unfold cvP at h;split at h
 ·rename_i s kd a c;obtain⟨⟨k,n⟩,e,h⟩:=bL h;exact⟨_,h,λ_ f act l R d t p g i w j=>E3 (run_underlying a w) (run_underlying c w) ((R.ev b).trans (dJ e f))⟩
 ·rename_i a c;obtain⟨u,e,h⟩:=bL h;exact⟨_,h,λ_ f act k R d t p g i w j=>E4 (run_underlying a w) (run_underlying c w) ((R.ev b).trans (jw e f))⟩
 ·rename_i e a c;split at h
  ·rename_i d;obtain⟨u,e,h⟩:=bL h;cases m:st.mv
   ·rw[m]at h;obtain⟨n,F,f⟩:=h;refine⟨_,f,λg j act o R s t p k l q i=>?_⟩;have w:=R.still m;subst w;exact Cx a d c ((R.ev b).trans (lU e j)) (Mu _ _ (by rw[i rfl]) (jg F g))
   rw[m]at h;exact h.elim
  exact h.elim
 exact h.elim
def ae0{b}{xs}{ts}(h:A1 P b xs ts st K):∃v,K v/\(gh gs->Y P st (.call ⟨.builtin b,xs.toArray,ts.toArray⟩) v):=by
 unfold A1 at h;split at h
 ·obtain⟨a,x,h⟩:=bL h;split at h
  ·rename_i u;obtain⟨s,a,h⟩:=bL h;exact⟨_,h,λ_ b act e R d t p f g w c=>ajr (run_underlying u w) ((R.ev x).trans (lU a b))⟩
  ·rename_i u;obtain⟨s,a,h⟩:=bL h;exact⟨_,h,λ_ b act e R d t p f g w c=>T0 (run_underlying u w) ((R.ev x).trans (jw a b))⟩
  exact h.elim
 ·obtain⟨a,x,h⟩:=bL h;split at h
  ·rename_i u;obtain⟨s,a,h⟩:=bL h;exact⟨_,h,λ_ b act e R d t p f g w c=>ajw (run_underlying u w) ((R.ev x).trans (lU a b))⟩
  exact h.elim
 ·obtain⟨a,x,h⟩:=bL h;obtain⟨b,y,h⟩:=bL h;obtain⟨⟨k,m⟩,e,h⟩:=bL h;obtain⟨_,q,h⟩:=bL h;exact⟨_,h,λ_ c act w R d t p f g j i=>ajx ((R.ev x).trans (dJ e c)) ((R.ev y).trans (dJ q c))⟩
 ·obtain⟨a,x,h⟩:=bL h;obtain⟨b,y,h⟩:=bL h;obtain⟨⟨k,m⟩,e,h⟩:=bL h;obtain⟨_,q,h⟩:=bL h;exact⟨_,h,λ_ c act w R d t p f g j i=>ajy ((R.ev x).trans (dJ e c)) ((R.ev y).trans (dJ q c))⟩
 exact h.elim
def ae1{t e}{x}{lo hi mx}{a}{s}(u:P.underlying t=aM (.slice e))(F:(P.info? e).isSome=L)(c:st.ev x=aM a)(b:OB a=aM s)(h:slS gs s (xJ P e) st lo hi mx K):∃v,K v/\(gh gs->Y P st (.slice t x lo hi mx) v):=by
 unfold slS at h;split at h
 ·obtain⟨k,e,h⟩:=bL h;obtain⟨s,m,r,t,⟨f,g⟩,o,j⟩:=oz h;refine⟨_,g,λi a act x R d v p l n w q=>?_⟩;obtain⟨rfl,f1,f2⟩:=j _ (jg f i);exact Mj (run_underlying u w) (mM F w) ((R.ev c).trans (lU b a)) ((R.ev e).trans (dJ o a)) f1 f2 (aX _)
 ·obtain⟨k,e,h⟩:=bL h;obtain⟨s,m,r,t,⟨f,g⟩,o,j⟩:=oz h;refine⟨_,g,λi a act x R d v p l n w q=>?_⟩;obtain⟨rfl,f1⟩:=j _ (jg f i);exact Ml (run_underlying u w) (mM F w) ((R.ev c).trans (lU b a)) ((R.ev e).trans (dJ o a)) (bm _) f1 (aX _)
 ·obtain⟨n,e,h⟩:=bL h;obtain⟨q,f,h⟩:=bL h;obtain⟨A,s,y,C,h,o,l⟩:=oz h;obtain⟨B,t,z,D,⟨g,i⟩,k,m⟩:=oz h;refine⟨_,i,λj a act G R d E p r v w x=>?_⟩;obtain⟨rfl,f1⟩:=l _ (jg g j);obtain⟨rfl,f1,f2⟩:=m _ f1;exact Mm (run_underlying u w) (mM F w) ((R.ev c).trans (lU b a)) ((R.ev e).trans (dJ o a)) ((R.ev f).trans (dJ k a)) f1 f2 (aX _)
 ·obtain⟨n,e,h⟩:=bL h;obtain⟨q,f,h⟩:=bL h;obtain⟨A,s,y,C,h,o,l⟩:=oz h;obtain⟨B,t,z,D,⟨g,i⟩,k,m⟩:=oz h;refine⟨_,i,λj a act G R d E p r v w x=>?_⟩;obtain⟨rfl,f1⟩:=l _ (jg g j);obtain⟨rfl,f1,f2⟩:=m _ f1;exact Mn (run_underlying u w) (mM F w) ((R.ev c).trans (lU b a)) ((R.ev e).trans (dJ o a)) ((R.ev f).trans (dJ k a)) (bm _) f1 f2
 ·obtain⟨t,e,h⟩:=bL h;obtain⟨v,f,h⟩:=bL h;obtain⟨x,g,h⟩:=bL h;obtain⟨H,z,E,N,h,o,n⟩:=oz h;obtain⟨J,A,G,P,h,l,r⟩:=oz h;obtain⟨q,B,k3,S,⟨i,j⟩,m,s⟩:=oz h;refine⟨_,j,λk a act V R d T p y C w D=>?_⟩;obtain⟨rfl,f1⟩:=n _ (jg i k);obtain⟨rfl,f1⟩:=r _ f1;obtain⟨rfl,f1,f2,f3⟩:=s _ f1;exact Mo (run_underlying u w) (mM F w) ((R.ev c).trans (lU b a)) ((R.ev e).trans (dJ o a)) ((R.ev f).trans (dJ l a)) ((R.ev g).trans (dJ m a)) f1 f2 f3
 exact h.elim
def ae2{t}{x}{lo hi mx}{a}{s}(u:P.underlying t=aM .string)(c:st.ev x=aM a)(b:xI a=aM s)(h:slT gs s st lo hi mx K):∃v,K v/\(gh gs->Y P st (.slice t x lo hi mx) v):=by
 unfold slT at h;split at h
 ·obtain⟨j,e,h⟩:=bL h;obtain⟨r,l,q,s,⟨F,f⟩,o,i⟩:=oz h;refine⟨_,f,λg a act v R d t p k m w n=>?_⟩;obtain⟨rfl,f1⟩:=i _ (jg F g);exact Gi (run_underlying u w) ((R.ev c).trans (jw b a)) ((R.ev e).trans (dJ o a)) f1 (aX _)
 ·obtain⟨j,e,h⟩:=bL h;obtain⟨r,l,q,s,⟨F,f⟩,o,i⟩:=oz h;refine⟨_,f,λg a act v R d t p k m w n=>?_⟩;obtain⟨rfl,f1⟩:=i _ (jg F g);exact Gj (run_underlying u w) ((R.ev c).trans (jw b a)) ((R.ev e).trans (dJ o a)) (bm _) f1
 ·obtain⟨m,e,h⟩:=bL h;obtain⟨n,f,h⟩:=bL h;obtain⟨z,r,x,B,h,o,k⟩:=oz h;obtain⟨A,s,y,C,⟨F,g⟩,j,l⟩:=oz h;refine⟨_,g,λi a act E R d D p q t w v=>?_⟩;obtain⟨rfl,f1⟩:=k _ (jg F i);obtain⟨rfl,f1,f2⟩:=l _ f1;exact Gk (run_underlying u w) ((R.ev c).trans (jw b a)) ((R.ev e).trans (dJ o a)) ((R.ev f).trans (dJ j a)) f1 f2
 exact h.elim
def ZU{t}{d}{l:List aw}{off n}(u:P.underlying t=aM d)(a:sz P t n=L)(R:ow d=L) w:(part t l.toArray off).run P w=.ok (.agg ((l.drop off).take n).toArray) w:=by
 have h:=mL (P:=P) u w;rw[R]at h;unfold part;simp only[Sem.run_bind,h,Result.andThen_ok,Gb,rN a w,Sem.run_pure];simp
def Ud{t}{d}{l:List aw}{off}{v}(u:P.underlying t=aM d)(R:ow d=aL)(a:l[off]? =aM v) w:(part t l.toArray off).run P w=.ok v w:=by
 have h:=mL (P:=P) u w;rw[R]at h;unfold part;simp_all
def MD{o:Op}(h:pur P gs st o K):∃v,K v/\(gh gs->Y P st o v):=by
 unfold pur at h;split at h
 ·obtain⟨v,x,a⟩:=bL h;exact⟨v,a,λ_ e act w R d t p f g c b=>by simp only[execOp,R.ev x,Sem.run_pure]⟩
 ·obtain⟨v,x,a⟩:=bL h;exact⟨v,a,λ_ e act w R d t p f g c b=>by simp only[execOp,R.ev x,Sem.run_pure]⟩
 ·obtain⟨c,a,h⟩:=bL h;split at h
  ·obtain⟨v,x,b⟩:=bL h;exact⟨v,b,λ_ i act w R d t p f g e c=>ZF (R.ev a) (R.ev x)⟩
  ·obtain⟨v,x,b⟩:=bL h;exact⟨v,b,λ_ i act w R d t p f g e c=>ZG (R.ev a) (R.ev x)⟩
  exact h.elim
 ·rename_i op t x y f;obtain⟨a,c,h⟩:=bL h;obtain⟨b,d,h⟩:=bL h;cases n:OD y with
  | true=>
   rw[n]at h;have e:=Uc n;subst e;obtain⟨v,a,r⟩:=aeV c h;exact⟨v,a,λg b act w R s t p i j l k=>r g b act w R _ _ _ _ _ _⟩
  | false=>
  rw[n]at h;obtain⟨v,a,r⟩:=ZR h;exact⟨v,a,λg b act w R s t p e i k j=>r g b act _ _ _ _ _ _ _ _ _ (R.ev c) (R.ev d)⟩
 ·obtain⟨a,x,h⟩:=bL h;split at h
  ·exact⟨_,h,λ_ e act w R d t p a g c b=>by simp only[execOp,R.ev x];rfl⟩
  ·exact⟨_,h,λ_ e act w R d t p a g c b=>by simp only[execOp,R.ev x];rfl⟩
  exact h.elim
 ·obtain⟨a,x,h⟩:=bL h;obtain⟨⟨k,n⟩,b,h⟩:=bL h;exact⟨_,h,λ_ i act w R d t p f g e c=>by simp only[execOp,R.ev x,dJ b];rfl⟩
 ·obtain⟨a,x,h⟩:=bL h;exact aeZ x h
 ·rename_i x i;obtain⟨a,b,h⟩:=bL h;split at h
  ·rename_i l;obtain⟨f,h⟩:=dU h;obtain⟨v,j,g⟩:=bL h;refine⟨v,g,λ_ a act w R d t p k m q n=>?_⟩;have e:=(R.ev b).trans (by
    show Value.tuple (sI a l).toArray=_;rw[pc a f])
   have c:(cW a (pM l))[i]? =aM (val a v):=by rw[cW,cN,j];rfl
   simp only[execOp,e,Instr.extract];simp[c]
  exact h.elim
 ·rename_i t a;obtain⟨ps,f,h⟩:=bL h;obtain⟨r,g,c⟩:=bL h;refine⟨_,c,λ_ b act m R d l p i j w k=>?_⟩;have e:val b (.agg (Gv r))=.agg (cW b r).toArray:=by
   show Value.agg (sI b (Gv r)).toArray=_;rw[uc]
  rw[e];obtain⟨pl⟩:=a;exact ZH (R.Y2 f) (ZT g b w)
 ·rename_i n s c;split at h
  ·rename_i f;obtain⟨a,j,h⟩:=bL h;obtain⟨b,k,i⟩:=bL h;refine⟨_,i,λ_ q act w R d t p e g l m=>?_⟩;obtain⟨cl⟩:=c;have:=Mh (P:=P) (w:=l) (dst:=d) (t':=t) (p:=p) (af:=e) (g:=g) (fn:=.func f) (R.QW j) (R.QW k);rw[<-uc,<-uc]at this;exact this
  exact h.elim
 ·obtain⟨a,x,h⟩:=bL h;obtain⟨d,u,h⟩:=bL h;obtain⟨b,c⟩:=dU h;simp at b;refine⟨_,c,λ_ f act l R s t p i g w j=>?_⟩;have e:val f a=val β0 a:=jX (g:=λ_=>aL) (λk h=>abG) a b.2;exact ZI (run_underlying u w) (by unfold nif at b;cases d<;>first | rfl | exact b.1) ((R.ev x).trans e)
 ·obtain⟨a,x,h⟩:=bL h;split at h
  ·exact⟨_,h,λ_ e act w R d t p a g c b=>TV (R.ev x)⟩
  ·exact⟨_,h,λ_ e act w R d t p a g c b=>TV (R.ev x)⟩
  ·obtain⟨q,F,a⟩:=h;refine⟨_,a,λg i act w R d t p f b e c=>TV ((R.ev x).trans ?_)⟩;have:=jg F g;subst this;rfl
  ·exact⟨_,h,λ_ f act w R d t p a g c b=>by
    have e:=R.ev x;simp only[execOp,e,Sem.run_pure,val,sI,List.headD_cons]⟩
  exact h.elim
 ·obtain⟨a,x,h⟩:=bL h;split at h
  ·rename_i c u;obtain⟨f,b,h⟩:=bL h;obtain⟨a,h⟩:=dU h;have a:=cZ a;have s:(P.info? f.type).isSome=L:=by
    unfold xJ at a;split at a
    ·rename_i h;rw[h];rfl
    omega
   obtain⟨d,m⟩:∃d,xJ P f.type=d+1:=⟨xJ P f.type-1,J⟩
   split at h
   ·exact⟨_,h,λ_ k act j R t i p f g w e=>Ox (run_underlying u w) b (by rw[mM s,m]) (R.ev x) rfl⟩
   ·exact⟨_,h,λ_ k act j R t i p f g w e=>Ox (run_underlying u w) b (by rw[mM s,m]) (R.ev x) (Gx _ _ _)⟩
   exact h.elim
  exact h.elim
 ·obtain⟨a,x,h⟩:=bL h;split at h
  ·rename_i l n u;obtain⟨f,i,h⟩:=bL h;obtain⟨d,hd,h⟩:=bL h;obtain⟨b,c⟩:=dU h;simp only[aU,cu]at b;obtain⟨⟨j,z⟩,g⟩:=b;refine⟨_,c,λ_ a act A R t y p m q w r=>?_⟩;have e:=(R.ev x).trans (by
    show Value.agg (sI a l).toArray=_;rw[pc a j])
   have v:cW a (((pM l).drop f.offset).take (xJ P f.type))=((cW a (pM l)).drop f.offset).take (xJ P f.type):=by
    simp only[cW,lC,zQ]
   have k:(part f.type (cW a (pM l)).toArray f.offset).run P w=.ok (val a (RA (ow d) (((pM l).drop f.offset).take (xJ P f.type)))) w:=by
    cases e:ow d
    ·rcases g with g | g
     ·rw[e]at g;cases g
     obtain⟨s,d⟩:=CF g;rw[d];refine Ud hd e ?_ w;have h:(((pM l).drop f.offset).take (xJ P f.type))[0]? =aM s:=by rw[d];rfl
     rw[xr]at h;split at h
     ·rw[gX,eE]at h;rw[cW,cN,h];rfl
     cases h
    have d:=ry e a (((pM l).drop f.offset).take (xJ P f.type));rw[e]at d;rw[d,v];rw[ZU (l:=cW a (pM l)) (off:=f.offset) hd z e w];congr 3;rw[sF];simp only[ch,cG,gv];omega
   simp only[execOp,e,Instr.field,Sem.run_bind,run_underlying u,Result.andThen_ok,i,asAgg,Sem.run_pure,k]
  exact h.elim
 ·obtain⟨a,x,h⟩:=bL h;obtain⟨c,j,h⟩:=bL h;obtain⟨⟨k,n⟩,b,h⟩:=bL h;split at h
  ·rename_i e u;obtain⟨s,k,h⟩:=bL h;obtain⟨i,h⟩:=dU h;obtain⟨q,F,f⟩:=h;exact⟨_,f,λg a act r R d t p l m w n=>TW (run_underlying u w) (mM i w) ((R.ev x).trans (lU k a)) ((R.ev j).trans (dJ b a)) (jg F g)⟩
  ·rename_i len e u;obtain⟨i,h⟩:=dU h;split at h
   ·obtain⟨a,e⟩:=dU h;simp at a;exact⟨_,e,λk n act m R d t p f g w l=>yA (run_underlying u w) (mM i w) (R.ev x) (R.ev j) a.1 a.2 (Gx _ _ _)⟩
   ·obtain⟨a,e⟩:=dU h;simp at a;exact⟨_,e,λk n act m R d t p f g w l=>yA (run_underlying u w) (mM i w) (R.ev x) (R.ev j) a.1 a.2 rfl⟩
   ·obtain⟨q,F,a⟩:=h;exact⟨_,a,λg e act m R d t p f k w l=>yA (run_underlying u w) (mM i w) (R.ev x) ((R.ev j).trans (dJ b e)) (jg F g).1 (jg F g).2.1 (jg F g).2.2⟩
   ·obtain⟨_,⟨a,d⟩,e⟩:=dU h;exact⟨_,OE e a d,λl f act n R s t p g k w m=>yA (run_underlying u w) (mM i w) (R.ev x) ((R.ev j).trans (dJ b f)) a d (Gx _ _ _)⟩
   exact h.elim
  exact h.elim
 ·obtain⟨a,x,h⟩:=bL h;exact aeY x h
 ·obtain⟨a,x,h⟩:=bL h;obtain⟨d,j,h⟩:=bL h;obtain⟨⟨k,n⟩,b,h⟩:=bL h;split at h
  ·rename_i u;obtain⟨s,f,h⟩:=bL h;obtain⟨c,F,e⟩:=h;exact⟨_,e,λg a act n R t m p i k w l=>Mi (run_underlying u w) ((R.ev x).trans (jw f a)) ((R.ev j).trans (dJ b a)) (jg F g).1 (jg F g).2⟩
  exact h.elim
 ·obtain⟨a,x,h⟩:=bL h;split at h
  ·rename_i e u;obtain⟨s,a,h⟩:=bL h;obtain⟨i,h⟩:=dU h;exact ae1 u i x a h
  ·rename_i u;obtain⟨s,a,h⟩:=bL h;exact ae2 u x a h
  exact h.elim
 ·rename_i c;obtain⟨a,⟨x⟩,⟨t⟩⟩:=c;split at h
  ·rename_i b c;subst c;exact ae0 h
  exact h.elim
 exact h.elim
end
end Go.Kt.V
