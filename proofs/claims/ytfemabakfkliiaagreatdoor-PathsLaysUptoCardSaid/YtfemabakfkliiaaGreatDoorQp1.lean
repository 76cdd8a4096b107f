import Derived.WalkKit
import Derived.Deep.Draws
import Derived.Deep.LoopGhost
import Derived.Deep.Quiet
import Derived.OrdersHeld
import Derived.Laws.Small
import Derived.Laws.AppendOwn
import Derived.Great.BuildSlice
import Derived.Laws.MakeOwn
import Derived.MapKept
import Derived.Lib.Strings
import Derived.KernelRfl
import Derived.ChangeKeysEq
import Derived.Laws.Tables
import Derived.Defers
import Derived.Test.YtfemabakfkliiaaGreatDoorRows
import Derived.Ground.Names2Prog
import Derived.Ground.SlgnProg
import Derived.Ground.SlgcProg
import Derived.Test.YtfemabakfkliiaaGreatDoorProg
import Derived.Lib.ParseIntB
import Derived.Lib.Bytealg
import Derived.Lib.ItoaLen
import Derived.Lib.AtoiErrMem
import Derived.Lib.Builder
import Derived.Lib.AppendStr
import Derived.Lib.UnsafeStr
import Derived.Lib.Join
import Derived.Lib.Repeat
import Derived.Laws.CopyRow
import Derived.WideKeyElems
import Derived.Sort.KeysCollected
import Derived.ProofKit
import Derived.OpenShut
import Derived.SizedLaws
import Derived.Deep.Slices
import Derived.JoinedCond
import Derived.Deep.CondSized
import Derived.Lib.TrailingZeros
import Derived.Laws.BitsAllLaws
import Derived.Lib.SlicesCompact
import Derived.Maps.RangeRun
import Derived.Lib.SlKeysI
import Derived.Ground.GgzProg
import Derived.Ground.SlgmProg
set_option linter.constructorNameAsVariable false
set_option linter.defProp false
set_option linter.unusedSectionVars false
set_option linter.unusedSimpArgs false
set_option linter.unusedVariables false
open Bool renaming true->aE,false->aL
open Option renaming some->aM,none->aaa
open List renaming length->I
def J{P:Prop}(h:P:=by omega):P:=h
def Z{P:Prop}(h:P:=by decide):P:=h
def aae{P:Prop}(h:P:=by kernel_rfl):P:=h
def aaf{P:Prop}(h:P:=by rw[fh (by omega) (by omega)];rfl):P:=h
def aag{P:Prop}(h:P:=by simp):P:=h
def aah{P:Prop}(h:P:=by simp;omega):P:=h
def aai{P:Prop}(h:P:=by unfold eI;dsimp only;omega):P:=h
def aaj{P:Prop}(h:P:=by simpa using hc):P:=h
def aak{P:Prop}(h:P:=by simp only[aN]at hx;omega):P:=h
def aal{P:Prop}(h:P:=by cases h):P:=h
def aam{P:Prop}(h:P:=by simp only[aZ,bp,ci]at hx;omega):P:=h
def aay{P:Prop}(h:P:=by simpa using hk):P:=h
def aaz{P:Prop}(h:P:=by simp only[aN]at hx;simp[hx]):P:=h
def aaR{P:Prop}(h:P:=by simp only[aN];omega):P:=h
def aaV{P:Prop}(h:P:=by simp only[aN]at hm;omega):P:=h
def aa1{P:Prop}(h:P:=by have:=aO hc;omega):P:=h
def aa2{P:Prop}(h:P:=by rw[cM];omega):P:=h
def aa6{P:Prop}(h:P:=by have:=aU hc;omega):P:=h
def abI{P:Prop}(h:P:=by dsimp only;omega):P:=h
def abS{P:Prop}(h:P:=by simpa using hb):P:=h
def ab2{P:Prop}(h:P:=by simpa using hm):P:=h
def acr{P:Prop}(h:P:=by simp at h):P:=h
def acs{P:Prop}(h:P:=by simpa using h):P:=h
def acu{P:Prop}(h:P:=by have:=(hS.blk e).2;dsimp only at this;omega):P:=h
def acw{P:Prop}(h:P:=by grind):P:=h
def acz{P:Prop}(h:P:=by simp at hx;simp[hx]):P:=h
def acB{P:Prop}(h:P:=by rw[<-e];exact hk):P:=h
def acC{P:Prop}(h:P:=by dsimp only;decide):P:=h
def acD{P:Prop}(h:P:=by simpa using hx):P:=h
def acE{P:Prop}(h:P:=by rw[aQ,bB];omega):P:=h
def acG{P:Prop}(h:P:=by unfold eI yp;dsimp only;omega):P:=h
def acH{P:Prop}(h:P:=by have:=h.hG k hk;simp only[aN]at hm;omega):P:=h
def acI{P:Prop}(h:P:=by simp only[aQ,aY,bC];omega):P:=h
def acJ{P:Prop}(h:P:=by simpa using h1):P:=h
def acK{P:Prop}(h:P:=by simp only[aN]at hk;omega):P:=h
def acL{P:Prop}(h:P:=by have:=hk.2;omega):P:=h
def acN{P:Prop}(h:P:=by rw[hy]at ha;simpa[lj]using ha):P:=h
def acO{P:Prop}(h:P:=by simpa using hi):P:=h
def acP{P:Prop}(h:P:=by unfold gY at hf;omega):P:=h
def acS{P:Prop}(h:P:=by simp only[aZ,bp,ci]at hx⊢;omega):P:=h
def acT{P:Prop}(h:P:=by simpa using he):P:=h
def acU{P:Prop}(h:P:=by rintro(h | ⟨h,_⟩)<;>omega):P:=h
def acV{P:Prop}(h:P:=by rw[bC];omega):P:=h
def acW{P:Prop}(h:P:=by simp only[aN]at hx;subst hx;exact qY (g4 _ h).1):P:=h
def acX{P:Prop}(h:P:=by have:=hk.resolve_left id;simp;omega):P:=h
def acY{P:Prop}(h:P:=by have:=(hP.buf.lt e).2;omega):P:=h
def ac1{P:Prop}(h:P:=by rw[eK h0 dQ];decide):P:=h
def ac2{P:Prop}(h:P:=by intro x hx;simp only[aZ,bp,ci]at hx⊢;omega):P:=h
def ac4{P:Prop}(h:P:=by rw[aQ];omega):P:=h
def ac7{P:Prop}(h:P:=by unfold gY;omega):P:=h
def ac8{P:Prop}(h:P:=by simp only[aZ,bp,ci]at hq;omega):P:=h
def ac9{P:Prop}(h:P:=by rw[bP,bX (bc.1 hj).1];exact hj):P:=h
def ada{P:Prop}(h:P:=by simp only[jr,j7,bJ]at hc;exact hc▸rfl):P:=h
def adb{P:Prop}(h:P:=by have:=(h.hF k xN).1;have:=hO.size;omega):P:=h
def ade{P:Prop}(h:P:=by simpa using hf):P:=h
def adg{P:Prop}(h:P:=by simpa using hh):P:=h
def adh{P:Prop}(h:P:=by simpa using h2):P:=h
def ado{P:Prop}(h:P:=by have:=h.hF k hk;have:=hb k hm;omega):P:=h
def adu{P:Prop}(h:P:=by rw[show ao #[59]=T [59]from rfl,fJ]):P:=h
def adz{P:Prop}(h:P:=by rw[lV]at hi;simpa using hi):P:=h
def adC{P:Prop}(h:P:=by unfold V at h;exact h.elim):P:=h
def adD{P:Prop}(h:P:=by simp[hx]):P:=h
def adE{P:Prop}(h:P:=by rw[fh (by omega) (by omega)];omega):P:=h
def adI{P:Prop}(h:P:=by rw[hy];rfl):P:=h
def adJ{P:Prop}(h:P:=by rw[hy];simp):P:=h
def adK{P:Prop}(h:P:=by simpa using hn):P:=h
def adX{P:Prop}(h:P:=by simpa using uw):P:=h
def adY{P:Prop}(h:P:=by rw[oh,aW,hx]):P:=h
def adZ{P:Prop}(h:P:=by have:=AK g hg;simp;omega):P:=h
def ad2{P:Prop}(h:P:=by have:=hk.1;omega):P:=h
def ad3{P:Prop}(h:P:=by simp only[aN]at hy;omega):P:=h
def ad9{P:Prop}(h:P:=by have:=hs.2.2;have:=hO.size;omega):P:=h
def aea{P:Prop}(h:P:=by have:=(yz x hx).1;omega):P:=h
def aec{P:Prop}(h:P:=by rw[hs];decide):P:=h
def aeg{P:Prop}(h:P:=by rw[hh];decide):P:=h
def ael{P:Prop}(h:P:=by unfold fF;exact bA (by omega)):P:=h
def aen{P:Prop}(h:P:=by rw[aQ];simp only[aY,bC];omega):P:=h
def aes{P:Prop}(h:P:=by rw[bC]at hf;omega):P:=h
def aev{P:Prop}(h:P:=by simpa using hq):P:=h
def aeE{P:Prop}(h:P:=by unfold gY at hn;omega):P:=h
def aeH{P:Prop}(h:P:=by rw[bK];omega):P:=h
def aeJ{P:Prop}(h:P:=by simpa using k1):P:=h
def aeM{P:Prop}(h:P:=by simpa using k3):P:=h
def aeN{P:Prop}(h:P:=by simpa using k4):P:=h
def aeS{P:Prop}(h:P:=by unfold jW;split<;>rfl):P:=h
def aeT{P:Prop}(h:P:=by rintro⟨_,h⟩;omega):P:=h
def aeU{P:Prop}(h:P:=by rw[aN]at hz;rw[hz];exact M0):P:=h
def aeV{P:Prop}(h:P:=by simpa using hk.2):P:=h
def aeW{P:Prop}(h:P:=by have:=aO h;omega):P:=h
def aeX{P:Prop}(h:P:=by cases hx):P:=h
def aeY{P:Prop}(h:P:=by rw[lV]at ho;simpa using ho):P:=h
def aeZ{P:Prop}(h:P:=by cases e):P:=h
def ae0{P:Prop}(h:P:=by simp[Op.equalIn,hu]):P:=h
def ae1{P:Prop}(h:P:=by simp at hk;simp[hk]):P:=h
def ae2{P:Prop}(h:P:=by simpa using hG k hk):P:=h
def ae3{P:Prop}(h:P:=by simp[Program.plainKey,hu]):P:=h
def ae4{P:Prop}(h:P:=by rw[bP];exact hj):P:=h
def ae5{P:Prop}(h:P:=by have:=(h.hF k xN).1;omega):P:=h
def ae6{P:Prop}(h:P:=by subst e;simp at hc):P:=h
def ae7{P:Prop}(h:P:=by rw[bB];omega):P:=h
def ae8{P:Prop}(h:P:=by rw[cx];omega):P:=h
def ae9{P:Prop}(h:P:=by have:=ma k e;omega):P:=h
def afb{P:Prop}(h:P:=by have:=ma _ e;omega):P:=h
def afc{P:Prop}(h:P:=by simpa using hr):P:=h
def aff{P:Prop}(h:P:=by simpa using h4):P:=h
def afh{P:Prop}(h:P:=by simpa using hv):P:=h
def afi{P:Prop}(h:P:=by have:=(AM.lt e).1;omega):P:=h
def afj{P:Prop}(h:P:=by unfold mu;split<;>omega):P:=h
def afl{P:Prop}(h:P:=by have:=wY.lt;omega):P:=h
def afm{P:Prop}(h:P:=by have:=aO bU;omega):P:=h
def afn{P:Prop}(h:P:=by rw[bC,bP];exact vH _ _):P:=h
def afo{P:Prop}(h:P:=by rw[ol,hl];rfl):P:=h
def afp{P:Prop}(h:P:=by decide+kernel):P:=h
def afr{P:Prop}(h:P:=by rw[hw];decide):P:=h
def afs{P:Prop}(h:P:=by cases hk):P:=h
def aft{P:Prop}(h:P:=by have:=H9 x;omega):P:=h
def afw{P:Prop}(h:P:=by first | rfl | trivial):P:=h
def afz{P:Prop}(h:P:=by have:=Cw.br _ e;omega):P:=h
def afC{P:Prop}(h:P:=by rw[h0]at hr;cases hr):P:=h
def afF{P:Prop}(h:P:=by rw[hk];rfl):P:=h
def afG{P:Prop}(h:P:=by rw[bK];exact hn):P:=h
def afH{P:Prop}(h:P:=by rw[oh];rfl):P:=h
def afT{P:Prop}(h:P:=by rw[hb]at hh;cases hh):P:=h
def afZ{P:Prop}(h:P:=by rw[hy];simp[qV]):P:=h
def af3{P:Prop}(h:P:=by rw[bK,cx];omega):P:=h
def af5{P:Prop}(h:P:=by simpa using hl):P:=h
def af8{P:Prop}(h:P:=by cases hb):P:=h
def ago{P:Prop}(h:P:=by simpa using hz):P:=h
def agw{P:Prop}(h:P:=by simpa using rZ):P:=h
def agH{P:Prop}(h:P:=by simpa using h0):P:=h
def ahy{P:Prop}(h:P:=by cases hh):P:=h
def ahE{P:Prop}(h:P:=by simpa using ho):P:=h
def ahG{P:Prop}(h:P:=by simpa using rl):P:=h
def ahH{P:Prop}(h:P:=by simpa using qG):P:=h
def ahI{P:Prop}(h:P:=by simpa using k2):P:=h
def ahJ{P:Prop}(h:P:=by simpa using hs):P:=h
def ahK{P:Prop}(h:P:=by simpa using me):P:=h
def ahL{P:Prop}(h:P:=by simpa using hp):P:=h
def ahM{P:Prop}(h:P:=by simpa using dQ):P:=h
def ahN{P:Prop}(h:P:=by rw[cF,hx];rfl):P:=h
def ahO{P:Prop}(h:P:=by rw[hp];decide):P:=h
def ahP{P:Prop}(h:P:=by rw[hsz];omega):P:=h
def ahQ{P:Prop}(h:P:=by rw[bh,hy];rfl):P:=h
def ahR{P:Prop}(h:P:=by rw[bh,a2];rfl):P:=h
def ahS{P:Prop}(h:P:=by rw[h5];decide):P:=h
def ahT{P:Prop}(h:P:=by rw[e];exact h):P:=h
def ahU{P:Prop}(h:P:=by rw[h1];rfl):P:=h
def ahV{P:Prop}(h:P:=by simp[hy]):P:=h
def aN:=@List.mem_singleton
def aO:=@of_decide_eq_true
def aP:=@if_neg
def aQ:=@List.length_append
def aR:=@Bool.and_eq_true
def aU:=@of_decide_eq_false
def aV:=@if_pos
def aW:=@Int.toNat_natCast
def aX:=@Nat.le_refl
def aY:=@List.length_cons
def aZ:=@List.mem_cons
def ba:=@Int.natCast_nonneg
def bc:=@List.getElem?_eq_some_iff
def be:=@Nat.zero_le
def bf:=@List.getElem?_eq_getElem
def bh:=@List.take_add_one
def bm:=@List.take_of_length_le
def bn:=@List.mem_of_getElem?
def bp:=@List.not_mem_nil
def bq:=@List.append_assoc
def bA:=@decide_eq_false
def bB:=@List.length_singleton
def bC:=@List.length_nil
def bD:=@Nat.le_trans
def bE:=@List.append_nil
def bF:=@decide_eq_true
def bG:=@decide_eq_true_eq
def bH:=@List.eq_nil_of_length_eq_zero
def bJ:=@Option.some.injEq
def bK:=@List.length_map
def bL:=@Bool.eq_iff_iff
def bN:=@congrArg
def bP:=@Nat.zero_add
def bQ:=@Decidable.byContradiction
def bR:=@List.nil_append
def bS:=@List.map_cons
def bX:=@List.getElem?_append_left
def bZ:=@List.cons_append
def ch:=@List.mem_append
def ci:=@or_false
def cj:=@List.getElem?_append_right
def cr:=@Bool.true_and
def cx:=@List.length_take
def cA:=@List.take_zero
def cE:=@Bool.or_eq_true
def cF:=@List.getElem?_map
def cG:=@List.getElem?_cons_zero
def cJ:=@List.length_drop
def cK:=@List.map_append
def cV:=@Nat.lt_of_lt_of_le
def cX:=@decide_eq_true_iff
def cY:=@List.getElem?_cons_succ
def db:=@Bool.false_and
def de:=@Bool.not_eq_true'
def dj:=@Nat.eq_of_beq_eq_true
def dk:=@List.sum_cons
def dl:=@decide_eq_false_iff_not
def dv:=@List.mem_map
def dx:=@List.all_eq_true
def dB:=@beq_iff_eq
def dG:=@List.getElem?_eq_none
def dH:=@Nat.le_of_ble_eq_true
def dL:=@List.takeWhile_cons
def dM:=@Nat.add_assoc
def dN:=@Nat.add_sub_cancel_left
def dV:=@List.drop_of_length_le
def dW:=@List.append_eq_nil_iff
def dZ:=@List.mem_cons_of_mem
def eo:=@Bool.and_true
def eH:=@List.flatten_cons
def fe:=@Option.isSome_iff_exists
def fj:=@List.mem_cons_self
def fk:=@List.take_append_drop
def fp:=@List.take_length
def fu:=@Nat.mul_le_mul_right
def fx:=@Bool.eq_false_iff
def fy:=@Bool.or_eq_false_iff
def fz:=@Option.map_eq_some_iff
def fI:=@List.contains_iff_mem
def fL:=@Int.toNat_of_nonneg
def fM:=@List.filter_nil
def fO:=@List.any_eq_true
def fY:=@Option.toList_some
def gn:=@Option.map_some
def gp:=@Except.ok.injEq
def gv:=@decide_eq_decide
def gx:=@List.take_succ_cons
def gy:=@Nat.add_zero
def gH:=@List.getElem?_drop
def gJ:=@List.filter_append
def gK:=@Bool.and_false
def gR:=@List.map_map
def gU:=@List.map_nil
def gW:=@List.exists_mem_of_ne_nil
def im:=@List.drop_zero
def io:=@Prod.mk.injEq
def iz:=@Option.getD_some
def iA:=@List.getElem?_of_mem
def iQ:=@Array.getElem?_eq_some_iff
def iR:=@Array.getElem?_eq_none
def iY:=@List.flatMap_append
def jb:=@Nat.add_mul
def jc:=@List.all_append
def jh:=@List.drop_eq_getElem_cons
def jq:=@Bool.and_eq_false_iff
def jr:=@List.singleton_append
def jy:=@Nat.le_of_not_lt
def jz:=@Bool.not_eq_false'
def jG:=@Nat.add_comm
def jH:=@List.drop_drop
def jO:=@List.foldl_append
def j7:=@List.head?_cons
def j8:=@List.mem_filter
def kw:=@Bool.false_or
def kx:=@Nat.le_succ
def ky:=@Int.le_refl
def kZ:=@List.length_filter_le
def lS:=@if_false
def lU:=@List.sum_nil
def mf:=@List.all_cons
def mg:=@List.map_take
def ml:=@Array.getElem?_setIfInBounds_ne
def mJ:=@Array.length_toList
def mL:=@List.toList_toArray
def mM:=@List.length_pos_iff
def mT:=@Nat.add_le_add
def mU:=@List.getElem_mem
def nH:=@Bool.false_eq_true
def oe:=@List.ext_getElem?
def og:=@Decidable.not_not
def oS:=@List.mem_range
def pM:=@Bool.or_true
def pN:=@Nat.lt_or_ge
def pO:=@Nat.sub_self
def pQ:=@Bool.not_eq_true
def qc:=@List.drop_succ_cons
def qH:=@Nat.lt_succ_iff_lt_or_eq
def qM:=@List.nodup_cons
def rm:=@Nat.mul_one
def rn:=@List.length_eq_zero_iff
def sH:=@List.getElem?_set_self
def sI:=@Nat.sub_zero
def sJ:=@Bool.and_assoc
def tF:=@List.set_append_right
def tG:=@List.take_eq_take_iff
def uz:=@List.filter_cons
def uA:=@List.flatMap_nil
def vS:=@List.length_set
def vT:=@List.any_append
def vU:=@List.map_congr_left
def xd:=@Nat.zero_mul
def yh:=@List.getElem?_take
def yi:=@List.elem_cons
def zj:=@List.size_toArray
def zl:=@List.flatMap_cons
def zm:=@Nat.lt_succ_of_le
def zn:=@List.length_range
def zo:=@List.all_eq_false
def zq:=@List.pairwise_map
def AN:=@List.map_drop
def BL:=@Nat.le_max_right
def Cy:=@if_true
def Cz:=@Nat.le_of_eq
def CA:=@List.getElem_cons_drop
def CB:=@Bool.true_or
def CD:=@Bool.not_and
def C7:=@Option.map_none
def C8:=@List.foldl_cons
def C9:=@List.cons.injEq
def Da:=@Nat.le_max_left
def Db:=@Option.some.inj
def E7:=@List.getElem?_toArray
def E8:=@Array.getElem?_modify
def FY:=@Bool.not_false
def FZ:=@List.getElem?_set_ne
def F0:=@List.mem_append_left
def F2:=@or_congr_right
def Jq:=@List.flatten_append
def Jr:=@List.take_set_of_le
def Js:=@beq_eq_false_iff_ne
def JJ:=@Bool.or_false
def JK:=@Int.ofNat.inj
def MG:=@List.pairwise_cons
def O3:=@List.getElem?_set
def O4:=@Bool.not_not
def Ui:=@Option.bind_some
def Uj:=@Array.toList_inj
def Uk:=@List.flatten_nil
def Ul:=@Nat.succ_le_succ
def Um:=@Nat.lt_succ_self
def Un:=@List.mem_flatMap
def Uo:=@beq_self_eq_true
def Uq:=@List.mem_reverse
def Ur:=@List.map_id
def U0:=@List.take_append_of_le_length
def ZT:=@UInt8.toNat_inj
def ZU:=@List.sum_append
def ZV:=@Nat.not_lt_zero
def aan:=@List.take_length_add_append
abbrev aGc(w v:Go.World)(k:Nat)(p:Prop):Prop:=w.heap.size<=k->k<v.heap.size->p
abbrev aG:=Go.Value->Go.World->Prop
abbrev aH:=List UInt8
abbrev aI:=List Go.Value
abbrev aJ:=Nat->Prop
abbrev aK:=ByteArray
namespace Go.Kt
open Go renaming World->av,Value->aw
open Go Go.RowKit
structure Sl where
 a:Option Addr
 n:Nat
 c:Nat
@[reducible] def Sl.v(s:Sl):aw:=.slice s.a s.n s.c
@[reducible] def Sl.nil:Sl:=⟨aaa,0,0⟩
def Sl.cut(s:Sl)(l h m i:Nat):Sl:=⟨if m=l then s.a else s.a.map (·.add (l*i)),h-l,m-l⟩
def cR(s:Sl)(i:Int)(size:Nat)(ad:Addr):Prop:=∃b,s.a=aM b/\0<=i/\i<s.n/\ad=b.add (i.toNat*size)
structure Only (bs:List Nat) (w w':av):Prop where
 os:w'.os=w.os
 tape:w'.tape=w.tape
 output:w'.output=w.output
 size:w.heap.size<=w'.heap.size
 block:∀k,k<w.heap.size->k∉bs->w'.heap[k]? =w.heap[k]?
def Blk(w:av)(b:Nat)(t:TypeId)(c:List aw):Prop:=w.heap[b]? =aM (.cells c.toArray t (0,0))
def Cells(w:av)(a:Addr)(c:List aw):Prop:=∀j v,c[j]? =aM v->w.cell? (a.add j)=aM v
def cu(s:List Nat)(w a:av):Prop:=∀b,b∈s->a.heap[b]? =w.heap[b]?
def iT(b:UInt8):aw:=.int .u8 b.toNat
def vD(w:av)(s:Sl)(l:List UInt8):Prop:=s.n=I l/\(l≠[]->∃ad,s.a=aM ad/\Cells w ad (l.map iT))
def Sl.blk(s:Sl):Nat:=match s.a with | some a=>a.block | none=>0
def fE(c:List aw)(o:Nat)(v:List aw):List aw:=c.take o++v++c.drop (o+I v)
section
variable {w w' vO:av} {bs bs':List Nat} {b:Nat} {t:TypeId} {cs:List aw}
def Blk.lt(h:Blk w b t cs):b<w.heap.size:=(iQ.1 h).1
def Only.refl bs w:Only bs w w:=⟨rfl,rfl,rfl,aX _,λ_ _ _=>rfl⟩
def Only.weaken(h:Only bs w w')(b:∀x,x∈bs->x∈bs'∨w.heap.size<=x):Only bs' w w':=
 ⟨h.os,h.tape,h.output,h.size,λk hk n=>h.block k hk λm=>acw⟩
def Only.trans(h:Only bs w w')(k:Only bs' w' vO)(b:∀x,x∈bs'->x∈bs∨w.heap.size<=x):Only bs w vO:=
 ⟨k.os.trans h.os,k.tape.trans h.tape,k.output.trans h.output,bD h.size k.size,λa i n=>
  (k.block a (cV i h.size) λm=>acw).trans (h.block a i n)⟩
def Only.cd(h:Only bs w w')(k:Only [] w' vO):Only bs w vO:=h.trans k aag
def Only.cons(a:Only bs w w')(k:Only [b] w' vO):Only (b::bs) w vO:=
 (a.weaken (bs':=b::bs) λ_ h=>.inl (dZ _ h)).trans k λx h=>.inl acw
def Only.mem(h:Only bs w w')(k:Only [b] w' vO)(a:b∈bs):Only bs w vO:=h.trans k λx c=>.inl acw
def Only.new(h:Only bs w w')(k:Only [b] w' vO)(a:w.heap.size<=b):Only bs w vO:=h.trans k λx c=>.inr acw
def Only.blk(a:Only bs w w')(h:Blk w b t cs)(n:b∉bs):Blk w' b t cs:=(a.block b h.lt n).trans h
def Only.below(h:Only bs w w'){B}(a:B<=w.heap.size)(b:∀x,x∈bs->B<=x):Below B w w':=
 ⟨h.os,h.tape,h.output,h.size,λk hk=>h.block k J λm=>by have:=b k m;omega⟩
def Only.wS(h:Below w.heap.size w w'):Only [] w w':=⟨h.os,h.tape,h.output,h.size,λk hk _=>h.block k hk⟩
def Only.drew w:Only [] w w.drew:=⟨rfl,rfl,rfl,aX _,λ_ _ _=>rfl⟩
def Only.drewN w n:Only [] w (w.drewN n):=⟨rfl,rfl,rfl,aX _,λ_ _ _=>rfl⟩
def Only.alloc w o:Only [] w (w.alloc o):=⟨rfl,rfl,rfl,aag,λk hk _=>_root_.Go.heap_alloc_old w o hk⟩
def Only.setRow w b cs:Only [b] w (w.setRow b cs):=⟨rfl,rfl,rfl,aag,λk _ hn=>setRow_other w b k cs adK⟩
def Only.same(b:Only bs w w')(h:∀x,x∈bs'->x<w.heap.size/\x∉bs):cu bs' w w':=λx a=>b.block x (h x a).1 (h x a).2
def Blk.alloc(w:av) t cs:Blk (w.alloc (.cells cs.toArray t)) w.heap.size t cs:=heap_alloc_new w _
def Blk.setRow(h:Blk w b t cs) BC:Blk (w.setRow b BC.toArray) b t BC:=setRow_heap w b _ _ t _ h
def Blk.cell(h:Blk w b t cs) i:w.cell? ⟨b,i,aaa⟩=cs[i]? :=by rw[cell_of_row w b i cs.toArray t _ h];simp
def Blk.cells(h:Blk w b t cs) o vs (d:∀j v,vs[j]? =aM v->cs[o+j]? =aM v):Cells w ⟨b,o,aaa⟩ vs:=λj v c=>by
 have a:(⟨b,o,aaa⟩:Addr).add j=⟨b,o+j,aaa⟩:=by unfold Addr.add<;>simp_all
 rw[a,h.cell];exact d j v c
def Blk.I4(h:Blk w b t cs) o vs (a:(cs.drop o).take (I vs)=vs):Cells w ⟨b,o,aaa⟩ vs:=h.cells o vs λc v j=>acw
def Cells.one{a}{v}(h:Cells w a [v]):w.cell? a=aM v:=by have:=h 0 v rfl;simpa[Addr.add]using this
def Cells.keep{a}(h:Cells w a cs)(hk:w'.heap[a.block]? =w.heap[a.block]?):Cells w' a cs:=λj v b=>by
 rw[World.cell?_of_block (w:=w) _ (a:=a.add j)]
 ·exact h j v b
 have:(a.add j).block=a.block:=by unfold Addr.add;split<;>rfl
 rw[this,hk]
def Cells.lt'{a}(h:Cells w a cs)(c:cs≠[]):a.block<w.heap.size:=by
 cases cs with
 | nil=>exact absurd rfl c
 | cons v cs=>
  have b:=block_lt_of_cell (h 0 v rfl);have e:(a.add 0).block=a.block:=rfl;omega
def Cells.lt{a}{v}(h:Cells w a (v::cs)):a.block<w.heap.size:=by
 have:=h 0 v rfl;have b:=block_lt_of_cell this;have e:(a.add 0).block=a.block:=rfl;omega
end
section
variable {P:Program} {ops:Array Oper} {Q:Exit->Act->av->Prop} {rest:List Oper} {a a':Act} {w w':av}
def f0(l:List aw) ds (k:Nat) v:Act.put ⟨l.toArray,ds⟩ (aM k) v=⟨(l.set k v).toArray,ds⟩:=by simp[Act.put]
def f1 x l (v:aw):(x::l).set 0 v=v::l:=rfl
def f3(a:Act) v:a.put aaa v=a:=rfl
def f2 x l k (v:aw):(x::l).set (k+1) v=x::l.set k v:=rfl
def jd:List Oper->Nat->Option Oper
 | [],_=>aaa
 | v::_,0=>aM v
 | _::r,n+1=>jd r n
def lV:∀l n,jd l n=l[n]?
 | [],_=>rfl
 | _::_,0=>rfl
 | _::r,n+1=>lV r n
def aao:List aw->Nat->Option aw
 | [],_=>aaa
 | v::_,0=>aM v
 | _::r,n+1=>aao r n
def Hf:∀l n,aao l n=l[n]?
 | [],_=>rfl
 | _::_,0=>rfl
 | _::r,n+1=>Hf r n
def wt{o oj}{eV}{l}{ds}{j d:Nat}{want b r}(c:o.guard=aM (j,want))(h:jd eV j=aM oj)(f:oj.dst=aM d)
  (a:aao l d=aM (.bool b)) (g:(b==want)=r):Region.wanted o (yielded eV.toArray (⟨l.toArray,ds⟩:Act).tmps)=r:=by
 subst g;rw[lV]at h;rw[Hf]at a;have e:yielded eV.toArray (⟨l.toArray,ds⟩:Act).tmps j=aM b:=by simp[yielded,h,f,a]
 simp only[Region.wanted,c,e];rfl
def wu{o oj}{eV}{l}{ds}{j d:Nat}{want}(b:o.guard=aM (j,want))(h:jd eV j=aM oj)(c:oj.dst=aM d)
  (a:aao l d=aM undef):Region.wanted o (yielded eV.toArray (⟨l.toArray,ds⟩:Act).tmps)=aL:=by
 rw[lV]at h;rw[Hf]at a;have e:yielded eV.toArray (⟨l.toArray,ds⟩:Act).tmps j=aaa:=by simp[yielded,h,c,a,undef]
 simp[Region.wanted,b,e]
def wn{o}{f}(h:o.guard=aaa):Region.wanted o f=aE:=by simp[Region.wanted,h]
def M4{o} v (g:Region.wanted o (yielded ops a.tmps)=aE)
  (r:(execOp a.eval o).run P w=.ok (.value v) w') (b:a.put o.dst v=a') (h:wpList P ops Q rest a' w'):wpList P ops Q (o::rest) a w:=by
 subst b;unfold wpList;rw[aV g];refine .inl ?_;unfold Oper.wp;rw[r];exact h
def adq{o}(g:Region.wanted o (yielded ops a.tmps)=aL)(h:a.put o.dst undef=a')(b:wpList P ops Q rest a' w):wpList P ops Q (o::rest) a w:=by
 subst h;unfold wpList;simp_all
def Hg{dst}{ty}{x}{t'}{p}{af}{g}{ad}{v}
  (A:(isAgg ty).run P w=.ok aL w) (b:a.eval x=.pointer (aM ad)) (h:w.cell? ad=aM v):
  (execOp a.eval ⟨dst,.load ty x,t',p,af,g⟩).run P w=.ok (.value v) w:=by
 simp[execOp,b,Instr.loadAt,Instr.sureAddr,Sem.run_bind,Sem.run_pure,Result.andThen_ok,loadVar,A,nH,lS,run_load,h]
def xf{dst}{ty}{x}{t'}{p}{af}{g}{ad}{cs}{n}
  (A:(isAgg ty).run P w=.ok aE w) (h:(sizeOf ty).run P w=.ok n w) (b:I cs=n) (d:a.eval x=.pointer (aM ad)) (c:Cells w ad cs):
  (execOp a.eval ⟨dst,.load ty x,t',p,af,g⟩).run P w=.ok (.value (.agg cs.toArray)) w:=by
 have l:=run_loadCells_list (P:=P) w ad cs c;rw[b]at l;simp[execOp,d,Instr.loadAt,Instr.sureAddr,Sem.run_bind,Sem.run_pure,Result.andThen_ok,loadVar,A,Cy,h,l]
def aap{dst}{ty}{x y}{t'}{p}{af}{g}{b o}{cs vs}{et}{n}
  (h:(sizeOf ty).run P w=.ok n w) (i:a.eval x=.pointer (aM ⟨b,o,aaa⟩)) (f:(a.eval y).cells=vs.toArray) (e:I vs=n)
  (c:∀v∈vs,v.oneCell'=aE) (d:Blk w b et cs) (T:o+I vs<=I cs):
  (execOp a.eval ⟨dst,.store ty x y,t',p,af,g⟩).run P w=.ok .skip (w.setRow b (fE cs o vs).toArray):=by
 simp[execOp,i,Instr.storeAt,Instr.sureAddr,Sem.run_bind,Sem.run_pure,Result.andThen_ok,storeVar,h,f,zj,e,ne_eq,not_true_eq_false,lS,run_storeCells_at P b o et vs 0 cs.toArray w d J c,fE]
def aaq{dst}{ty}{t'}{p}{af}{g}{z}{s:List aw}
  (b:(zeroValue ty).run P w=.ok z w) (h:z.cells=s.toArray):
  (execOp a.eval ⟨dst,.alloc ty,t',p,af,g⟩).run P w=.ok (.value (.pointer (aM ⟨w.heap.size,0,aaa⟩))) (w.alloc (.cells s.toArray ty)):=by
 simp only[execOp,Instr.alloc,Sem.run_bind,b,Result.andThen_ok,newVar,h];rfl
def akF{dst}{ty}{x}{t'}{p}{af}{g}{z:List aw}
  (h:(a.eval x).cells=z.toArray):
  (execOp a.eval ⟨dst,.box ty x,t',p,af,g⟩).run P w=.ok (.value (.pointer (aM ⟨w.heap.size,0,aaa⟩))) (w.alloc (.cells z.toArray ty)):=by
 simp only[execOp,Instr.box,newVar,h];rfl
def U1{dst}{x}{t'}{p}{af}{g}{ad}(h:a.eval x=.pointer (aM ad)):
  (execOp a.eval ⟨dst,.nilCheck x,t',p,af,g⟩).run P w=.ok (.value (.pointer (aM ad))) w:=by
 simp[execOp,h]
def O5{dst}{s}{x}{k}{t'}{p}{af}{g}{ad C1}{fs}{f}{n}
  (u:(underlying s).run P w=.ok (.struct fs) w) (b:fs[k]? =aM f) (h:(sizeOf f.type).run P w=.ok (n+1) w) (c:a.eval x=.pointer (aM ad)) (e:ad.add f.offset=C1):
  (execOp a.eval ⟨dst,.fieldAddr s x k,t',p,af,g⟩).run P w=.ok (.value (.pointer (aM C1))) w:=by
 subst e;simp[execOp,c,Instr.fieldAt,Instr.sureAddr,u,b,fieldPlace,h]
def aar{dst}{c x y}{t'}{p}{af}{g}{v}(h:a.eval c=.bool aE)(b:a.eval x=v):
  (execOp a.eval ⟨dst,.pick c x y,t',p,af,g⟩).run P w=.ok (.value v) w:=by
 subst b;simp[execOp,h,asBool]
def aas{dst}{c x y}{t'}{p}{af}{g}{v}(h:a.eval c=.bool aL)(b:a.eval y=v):
  (execOp a.eval ⟨dst,.pick c x y,t',p,af,g⟩).run P w=.ok (.value v) w:=by
 subst b;simp[execOp,h,asBool]
def aat{dst}{t}{ps:List _}{t'}{p}{af}{g}{ps'}{v}
  (h:(ps.map λq=>(q.1,a.eval q.2))=ps') (r:(Instr.build t ps'.toArray).run P w=.ok v w):
  (execOp a.eval ⟨dst,.build t ps.toArray,t',p,af,g⟩).run P w=.ok (.value v) w:=by
 subst h;simp[execOp,r]
def U2{dst}{t e}{x i}{t'}{p}{af}{g}{s}{k}{n}{ad}{sz}
  (u:(underlying t).run P w=.ok (.slice e) w) (h:(sizeOf e).run P w=.ok sz w) (m:a.eval x=s.v) (l:a.eval i=.int k n) (d:cR s n sz ad):
  (execOp a.eval ⟨dst,.indexAddr t x i,t',p,af,g⟩).run P w=.ok (.value (.pointer (aM ad))) w:=by
 obtain⟨b,j,c,f,rfl⟩:=d;simp[execOp,m,l,Instr.indexAt,asIntOf,u,h,j,c,f]
def zr{d:Option Tmp}{t e:TypeId}{x i:Operand}{t'}{p}{af}{g}{len}{k}{n}{ad C1}{sz}
  (u:(underlying t).run P w=.ok (.array len e) w) (h:(sizeOf e).run P w=.ok sz w) (l:a.eval x=.pointer (aM ad)) (j:a.eval i=.int k n) (b:0<=n) (c:n<len) (f:ad.add (n.toNat*sz)=C1):
  (execOp a.eval ⟨d,.indexAddr t x i,t',p,af,g⟩).run P w=.ok (.value (.pointer (aM C1))) w:=by
 subst f;simp[execOp,l,j,Instr.indexAt,asIntOf,u,h,b,c,Instr.sureAddr]
def oZ{b}{s}{dst}{x:List Operand}{ts}{t'}{p}{af}{g}{v}
  (c:∀h,builtin b ts t' h (x.map a.eval).toArray=(do pure (.value (<-s)))) (r:s.run P w=.ok v w'):
  (execOp a.eval ⟨dst,.call ⟨.builtin b,x.toArray,ts⟩,t',p,af,g⟩).run P w=.ok (.value v) w':=by
 simp[execOp,resolve,invoke,List.map_toArray];simp_all
def AW{dst}{x:List Operand}{ts}{t'}{p}{af}{g}{v}{vs}(b:x.map a.eval=vs)
  (h:(Builtin.append_ ts t' vs.toArray).run P w=.ok v w'):(execOp a.eval ⟨dst,.call ⟨.builtin .append,x.toArray,ts⟩,t',p,af,g⟩).run P w=.ok (.value v) w':=by
 subst b;exact oZ (λ_=>rfl) h
def Dc{dst}{x:List Operand}{ts}{t'}{p}{af}{g}{v}{vs}(b:x.map a.eval=vs)
  (h:(Builtin.copy_ ts t' vs.toArray).run P w=.ok v w'):(execOp a.eval ⟨dst,.call ⟨.builtin .copy,x.toArray,ts⟩,t',p,af,g⟩).run P w=.ok (.value v) w':=by
 subst b;exact oZ (λ_=>rfl) h
def AX{dst}{x:List Operand}{ts}{t'}{p}{af}{g}{v}{vs}(b:x.map a.eval=vs)
  (h:(Builtin.delete_ ts t' vs.toArray).run P w=.ok v w'):(execOp a.eval ⟨dst,.call ⟨.builtin .delete,x.toArray,ts⟩,t',p,af,g⟩).run P w=.ok (.value v) w':=by
 subst b;exact oZ (λ_=>rfl) h
def B9{dst}{x:List Operand}{ts}{t'}{p}{af}{g}{v}{vs}(b:x.map a.eval=vs)
  (h:(Builtin.clear_ ts t' vs.toArray).run P w=.ok v w'):(execOp a.eval ⟨dst,.call ⟨.builtin .clear,x.toArray,ts⟩,t',p,af,g⟩).run P w=.ok (.value v) w':=by
 subst b;exact oZ (λ_=>rfl) h
def Fm{dst}{x:List Operand}{ts}{t'}{p}{af}{g}{v}{vs}(b:x.map a.eval=vs)
  (h:(Builtin.len_ ts t' vs.toArray).run P w=.ok v w'):(execOp a.eval ⟨dst,.call ⟨.builtin .len,x.toArray,ts⟩,t',p,af,g⟩).run P w=.ok (.value v) w':=by
 subst b;exact oZ (λ_=>rfl) h
section
variable {dst:Option Tmp} {x y z:Operand} {t t2:TypeId} {t':TypeId} {p:String} {af:Array Edge} {g:Option (Nat×Bool)} {u v vx vy vz:aw}
def Hh{n}{ps:List _}{ps'}(h:(ps.map λq=>(q.1,a.eval q.2))=ps')(r:(Instr.buildSlice t n ps'.toArray).run P w=.ok v w'):
  (execOp a.eval ⟨dst,.buildSlice t n ps.toArray,t',p,af,g⟩).run P w=.ok (.value v) w':=by
 subst h;simp[execOp,r]
def JL(b:a.eval x=vx)(c:a.eval y=vy)(h:(Instr.makeSlice t vx vy).run P w=.ok v w'):(execOp a.eval ⟨dst,.makeSlice t x y,t',p,af,g⟩).run P w=.ok (.value v) w':=by simp[execOp,b,c,h]
def Sg(h:(Instr.makeMap t aaa).run P w=.ok v w'):(execOp a.eval ⟨dst,.makeMap t aaa,t',p,af,g⟩).run P w=.ok (.value v) w':=by simp[execOp,h]
def M5(b:a.eval x=vx)(h:(Instr.makeMap t (aM vx)).run P w=.ok v w'):(execOp a.eval ⟨dst,.makeMap t (aM x),t',p,af,g⟩).run P w=.ok (.value v) w':=by simp[execOp,b,h]
def U3{b}(c:a.eval x=vx)(d:a.eval y=vy)(h:(Instr.lookup t vx vy b).run P w=.ok v w'):(execOp a.eval ⟨dst,.lookup t x y b,t',p,af,g⟩).run P w=.ok (.value v) w':=by simp[execOp,c,d,h]
def JM(b:a.eval x=vx)(c:a.eval y=vy)(d:a.eval z=vz)(h:(Instr.mapUpdate t vx vy vz).run P w=.ok () w'):(execOp a.eval ⟨dst,.mapUpdate t x y z,t',p,af,g⟩).run P w=.ok .skip w':=by simp[execOp,b,c,d,h]
def U4(b:a.eval x=vx)(c:a.eval y=vy)(d:a.eval z=vz)(h:(Instr.mapUpdate t vx vy vz).run P w=.ok () w'):(execOp a.eval ⟨dst,.insert t x y z,t',p,af,g⟩).run P w=.ok .skip w':=by simp[execOp,b,c,d,h]
def Sh(b:a.eval x=vx)(h:(convert t t2 vx).run P w=.ok v w'):(execOp a.eval ⟨dst,.convert t t2 x,t',p,af,g⟩).run P w=.ok (.value v) w':=by simp[execOp,b,h]
end
def akG{d:Option Tmp}{t:TypeId}{e:TypeId}{x:Operand}{c:TypeId}{p:String}{f:Array Edge}{g}{s:Sl}
  (h:(underlying t).run P w=.ok (.slice e) w) (b:a.eval x=s.v):
  (execOp a.eval ⟨d,.call ⟨.builtin .len,#[x],#[t]⟩,c,p,f,g⟩).run P w=.ok (.value (.int .i64 s.n)) w:=by
 simp[execOp,resolve,invoke,builtin,Builtin.len_,h,b,goInt]
def JN{dst}{x}{f}{first captured}{s:List Operand}{ats}{t'}{p}{af}{g}{r}
  (b:a.eval x=.func (.func f) first.toArray captured.toArray)
  (c:∀r w,(callFunc f r).run P w=.ok (.enter f r) w) (h:first++s.map a.eval++captured=r):
  (execOp a.eval ⟨dst,.call ⟨.value x,s.toArray,ats⟩,t',p,af,g⟩).run P w=.ok (.enter f r.toArray) w:=by
 subst h;simp only[execOp,resolve,b,Deferred.ofValue,Sem.run_bind,Sem.run_pure,Result.andThen_ok,invoke,c];simp
def pb{x}{k}{i y}{code}(h:x=.int k i)(a:i<=y):(Instr.sliceBound x y code).run P w=.ok i w:=by
 subst h;have:=J
 simp[Instr.sliceBound,asIntOf,this]
def Dd{dst}{s d e}{x}{t'}{p}{af}{g}{sl}{l}
  (b:P.underlying s=aM (.slice e)) (h:P.underlying e=aM (.int .u8)) (hd:P.underlying d=aM .string) (j:a.eval x=sl.v) (f:vD w sl l):
  (execOp a.eval ⟨dst,.convert s d x,t',p,af,g⟩).run P w=.ok (.value (.string ⟨l.toArray⟩)) w:=by
 obtain⟨n,i⟩:=f;obtain⟨c,sn,sc⟩:=sl;subst n;have k:(convert s d (.slice c (I l) sc)).run P w=.ok (.string ⟨l.toArray⟩) w:=by
  rcases c with _|ad
  ·have:l=[]:=Classical.byContradiction λa=>acw
   subst this;exact run_convert_bytes_nil w s e b h _ _ d hd
  refine run_convert_bytes_back w s d e ad sc l b h hd λp g=>?_;obtain⟨C,a,o⟩:=i (λm=>by simp[m]at g);injection a with a;subst a;exact o p _ (by simp[iT,bf g])
 simp[execOp,j,k]
def M6{dst}{fn}{f c:List Operand}{t'}{p}{af}{g}{fv cv}(h:f.map a.eval=fv)(b:c.map a.eval=cv):
  (execOp a.eval ⟨dst,.makeFunc fn f.toArray c.toArray,t',p,af,g⟩).run P w=.ok (.value (.func fn fv.toArray cv.toArray)) w:=by
 subst h;subst b;simp[execOp,Instr.makeFunc]
def akH{dst}{t ty}{x y}{t'}{p}{af}{g}{k}{m n}(c:a.eval x=.int k m)(d:a.eval y=.int k n)(b:n≠0):
  (execOp a.eval ⟨dst,.binOp .quo t x y ty,t',p,af,g⟩).run P w=.ok (.value (.int k (k.wrap (m.tdiv n)))) w:=by
 have e:binOp .quo t (.int k m) (.int k n)=Op.intDiv .quo k m n:=by simp[binOp]
 have h:eqGuard .quo t x y (.int k m) (.int k n)=pure _:=rfl;simp[execOp,c,d,h,e,Op.intDiv,b,lS,Sem.run_bind,Sem.run_pure,Result.andThen_ok]
def akI{dst}{t ty}{x y}{t'}{p}{af}{g}{k}{m n}(c:a.eval x=.int k m)(d:a.eval y=.int k n)(b:n≠0):
  (execOp a.eval ⟨dst,.binOp .rem t x y ty,t',p,af,g⟩).run P w=.ok (.value (.int k (m.tmod n))) w:=by
 have e:binOp .rem t (.int k m) (.int k n)=Op.intDiv .rem k m n:=by simp[binOp]
 have h:eqGuard .rem t x y (.int k m) (.int k n)=pure _:=rfl;simp[execOp,c,d,h,e,Op.intDiv,b,lS,Sem.run_bind,Sem.run_pure,Result.andThen_ok]
def akJ{dst}{t ty}{x y}{t'}{p}{af}{g}{k k'}{m n}(c:a.eval x=.int k m)(d:a.eval y=.int k' n)(f:0<=n):
  (execOp a.eval ⟨dst,.binOp .shl t x y ty,t',p,af,g⟩).run P w=.ok (.value (.int k (k.wrap (m*2 ^ (min n.toNat k.bits))))) w:=by
 have b:eqGuard .shl t x y (.int k m) (.int k' n)=pure _:=rfl;have e:binOp .shl t (.int k m) (.int k' n)=Op.shift .shl k m k' n:=rfl;have h:¬n<0:=J
 simp[execOp,c,d,b,e,Op.shift,h,lS,Sem.run_bind,Sem.run_pure,Result.andThen_ok]
def akK{dst}{t ty}{x y}{t'}{p}{af}{g}{k k'}{m n}(c:a.eval x=.int k m)(d:a.eval y=.int k' n)(f:0<=n):
  (execOp a.eval ⟨dst,.binOp .shr t x y ty,t',p,af,g⟩).run P w=.ok (.value (.int k (m.fdiv (2 ^ (min n.toNat k.bits))))) w:=by
 have b:eqGuard .shr t x y (.int k m) (.int k' n)=pure _:=rfl;have e:binOp .shr t (.int k m) (.int k' n)=Op.shift .shr k m k' n:=rfl;have h:¬n<0:=J
 simp[execOp,c,d,b,e,Op.shift,h,lS,Sem.run_bind,Sem.run_pure,Result.andThen_ok]
def M7{dst}{t}{x i}{t'}{p}{af}{g}{s}{k}{n}{c}
  (u:(underlying t).run P w=.ok .string w) (e:a.eval x=.string s) (d:a.eval i=.int k n) (h:0<=n) (b:s[n.toNat]? =aM c):
  (execOp a.eval ⟨dst,.index t x i,t',p,af,g⟩).run P w=.ok (.value (.int .u8 c.toNat)) w:=by
 simp[execOp,e,d,Instr.index,asIntOf,u,Sem.run_bind,Sem.run_pure,Result.andThen_ok,h,Cy,b]
def U5{dst}{t ty}{x y}{t'}{p}{af}{g}{s u}(c:a.eval x=.string s)(d:a.eval y=.string u)(n:(s.size:Int)+u.size<=9223372036854775807):
  (execOp a.eval ⟨dst,.binOp .add t x y ty,t',p,af,g⟩).run P w=.ok (.value (.string (s++u))) w:=by
 have b:eqGuard .add t x y (.string s) (.string u)=pure _:=rfl;have e:binOp .add t (.string s) (.string u)=Op.stringOp .add s u:=rfl;have h:¬((s.size+u.size:Nat))>IntKind.i64.max:=by simp_all
 simp only[execOp,c,d,b,e,Op.stringOp,h,lS,Sem.run_bind,Sem.run_pure,Result.andThen_ok]
def akL{dst}{t}{e}{x}{t'}{p}{af}{g}{s:Sl}
  (h:(underlying t).run P w=.ok (.slice e) w) (b:a.eval x=s.v):
  (execOp a.eval ⟨dst,.call ⟨.builtin .cap,#[x],#[t]⟩,t',p,af,g⟩).run P w=.ok (.value (.int .i64 s.c)) w:=by
 simp[execOp,resolve,invoke,builtin,Builtin.cap_,h,b,goInt]
def Hi{d:Option Tmp}{t:TypeId}{x o:Operand}{e:TypeId}{p:String}{f:Array Edge}{g:Option (Nat×Bool)}{s:ByteArray}{k:IntKind}{l:Nat}
  (u:(underlying t).run P w=.ok .string w) (c:a.eval x=.string s) (b:a.eval o=.int k (l:Int)) (h:l<=s.size) (_h2:s.size<=s.size):
  (execOp a.eval ⟨d,.slice t x (aM o) aaa aaa,e,p,f,g⟩).run P w=.ok (.value (.string (s.extract l s.size))) w:=by
 simp[execOp,c,Instr.sliceAt,u,Instr.slice,Instr.sliceBounds,pb b h]
def Hj{dst}{t}{x hi}{t'}{p}{af}{g}{s}{k}{h:Nat}
  (u:(underlying t).run P w=.ok .string w) (d:a.eval x=.string s) (c:a.eval hi=.int k h) (_h1:0<=h) (b:h<=s.size):
  (execOp a.eval ⟨dst,.slice t x aaa (aM hi) aaa,t',p,af,g⟩).run P w=.ok (.value (.string (s.extract 0 h))) w:=by
 simp[execOp,d,Instr.sliceAt,u,Instr.slice,Instr.sliceBounds,pb c b]
def Hk{dst}{t}{x lo hi}{t'}{p}{af}{g}{s}{k k'}{l h:Nat}
  (u:(underlying t).run P w=.ok .string w) (f:a.eval x=.string s) (e:a.eval lo=.int k l) (d:a.eval hi=.int k' h) (b:l<=h) (c:h<=s.size):
  (execOp a.eval ⟨dst,.slice t x (aM lo) (aM hi) aaa,t',p,af,g⟩).run P w=.ok (.value (.string (s.extract l h))) w:=by
 simp[execOp,f,Instr.sliceAt,u,Instr.slice,Instr.sliceBounds,pb d c,pb e b]
def F3{dst}{s d}{x}{t'}{p}{af}{g}{ks kd k}{n}
  (h:(underlying s).run P w=.ok (.int ks) w) (hd:(underlying d).run P w=.ok (.int kd) w) (b:a.eval x=.int k n):
  (execOp a.eval ⟨dst,.convert s d x,t',p,af,g⟩).run P w=.ok (.value (.int kd (kd.wrap n))) w:=by
 simp[execOp,b,convert,h,hd,Conv.intToInt]
def F4{t:Option Tmp}{s d:TypeId}{x:Operand}{c:TypeId}{p:String}{f:Array Edge}{g:Option (Nat×Bool)}{n:ByteArray}
  (h:(underlying s).run P w=.ok .string w) (hd:(underlying d).run P w=.ok .string w) (b:a.eval x=.string n):
  (execOp a.eval ⟨t,.convert s d x,c,p,f,g⟩).run P w=.ok (.value (.string n)) w:=by
 simp[execOp,b,convert,h,hd]
def aau{dst}{t}{x}{t'}{p}{af}{g}{d}{v}
  (h:(underlying t).run P w=.ok d w) (hd:(match d with | .interface _=>aL | _=>aE)=aE) (b:a.eval x=v):
  (execOp a.eval ⟨dst,.makeInterface t x,t',p,af,g⟩).run P w=.ok (.value (.iface t v)) w:=by
 subst b;cases d<;>first | (simp at hd;done) | simp[execOp,Instr.makeInterface,h]
def U6{d:Option Tmp}{t:TypeId}{x:Operand}{c:TypeId}{p:String}{f:Array Edge}{g:Option (Nat×Bool)}{s:ByteArray}
  (h:(underlying t).run P w=.ok .string w) (b:a.eval x=.string s):
  (execOp a.eval ⟨d,.call ⟨.builtin .len,#[x],#[t]⟩,c,p,f,g⟩).run P w=.ok (.value (.int .i64 s.size)) w:=by
 simp[execOp,resolve,invoke,builtin,Builtin.len_,h,b,goInt]
def akM{dst}{ts}{x y}{t'}{p}{af}{g}{k k'}{m n}(h:a.eval x=.int k m)(b:a.eval y=.int k' n):
  (execOp a.eval ⟨dst,.call ⟨.builtin .min,#[x,y],ts⟩,t',p,af,g⟩).run P w=.ok (.value (.int k (if n<m then n else m))) w:=by
 simp[execOp,resolve,invoke,builtin,h,b,run_min_int2]
def akN{d:Option Tmp}{ts}{x y}{t'}{p}{af}{g}{k k'}{m n}(h:a.eval x=.int k m)(b:a.eval y=.int k' n):
  (execOp a.eval ⟨d,.call ⟨.builtin .max,#[x,y],ts⟩,t',p,af,g⟩).run P w=.ok (.value (.int k (if n>m then n else m))) w:=by
 simp[execOp,resolve,invoke,builtin,h,b,run_max_int2]
def Hl{s:Option Tmp}{t l:TypeId}{x y:Operand}{k:TypeId}{p:String}{f:Array Edge}{g:Option (Nat×Bool)}{e:TypeId}{q:Option Addr}{b:Bool}(u:(underlying t).run P w=.ok (.pointer e) w)(i:a.eval x=.pointer q)(j:a.eval y=.pointer aaa)(c:(q.isNone)=b):
  (execOp a.eval ⟨s,.binOp .eql t x y l,k,p,f,g⟩).run P w=.ok (.value (.bool b)) w:=by
 subst c;have E:∀d,(Op.equalIn (d+1) t (.pointer q) (.pointer aaa)).run P w=.ok q.isNone w:=λd=>by
  unfold Op.equalIn;cases q<;>simp only[Sem.run_bind,u,Result.andThen_ok]<;>rfl
 have h:binOp .eql t (.pointer q) (.pointer aaa)=(do pure (.bool ((<-Op.equal t (.pointer q) (.pointer aaa))))):=by cases q<;>rfl
 have G:eqGuard .eql t x y (.pointer q) (.pointer aaa)=pure ():=rfl;simp only[execOp,i,j,G,h,Op.equal,Op.maxDepth,Sem.run_bind,Sem.run_pure,Result.andThen_ok,E 9999]
def Hm{dst}{t ty}{x y}{t'}{p}{af}{g}{e}{q}{b}(hu:(underlying t).run P w=.ok (.pointer e) w)(f:a.eval x=.pointer aaa)(i:a.eval y=.pointer q)(c:(q.isNone)=b):
  (execOp a.eval ⟨dst,.binOp .eql t x y ty,t',p,af,g⟩).run P w=.ok (.value (.bool b)) w:=by
 subst c;have E:∀d,(Op.equalIn (d+1) t (.pointer aaa) (.pointer q)).run P w=.ok q.isNone w:=λd=>ae0
 have h:binOp .eql t (.pointer aaa) (.pointer q)=(do pure (.bool ((<-Op.equal t (.pointer aaa) (.pointer q))))):=rfl;have G:eqGuard .eql t x y (.pointer aaa) (.pointer q)=pure _:=rfl;simp[execOp,f,i,G,h,Op.equal,Op.maxDepth,Sem.run_bind,Sem.run_pure,Result.andThen_ok,E 9999]
def Hn{dst}{t ty}{x y}{t'}{p}{af}{g}{e}{q}{b}(u:(underlying t).run P w=.ok (.pointer e) w)(f:a.eval x=.pointer q)(i:a.eval y=.pointer aaa)(c:(!q.isNone)=b):
  (execOp a.eval ⟨dst,.binOp .neq t x y ty,t',p,af,g⟩).run P w=.ok (.value (.bool b)) w:=by
 subst c;have E:∀d,(Op.equalIn (d+1) t (.pointer q) (.pointer aaa)).run P w=.ok q.isNone w:=λd=>by
  unfold Op.equalIn;cases q<;>simp only[Sem.run_bind,u]<;>rfl
 have h:binOp .neq t (.pointer q) (.pointer aaa)=(do pure (.bool (!(<-Op.equal t (.pointer q) (.pointer aaa))))):=rfl;have G:eqGuard .neq t x y (.pointer q) (.pointer aaa)=pure _:=rfl;simp[execOp,f,i,G,h,Op.equal,Op.maxDepth,Sem.run_bind,Sem.run_pure,Result.andThen_ok,E 9999]
def Ho{s:Option Tmp}{t ty}{x y}{t'}{p}{af}{g}{e}{q}{b}(hu:(underlying t).run P w=.ok (.pointer e) w)(f:a.eval x=.pointer aaa)(i:a.eval y=.pointer q)(c:(!q.isNone)=b):
  (execOp a.eval ⟨s,.binOp .neq t x y ty,t',p,af,g⟩).run P w=.ok (.value (.bool b)) w:=by
 subst c;have E:∀d,(Op.equalIn (d+1) t (.pointer aaa) (.pointer q)).run P w=.ok q.isNone w:=λd=>ae0
 have h:binOp .neq t (.pointer aaa) (.pointer q)=(do pure (.bool (!(<-Op.equal t (.pointer aaa) (.pointer q))))):=by cases q<;>rfl
 have G:eqGuard .neq t x y (.pointer aaa) (.pointer q)=pure _:=rfl;simp[execOp,f,i,G,h,Op.equal,Op.maxDepth,Sem.run_bind,Sem.run_pure,Result.andThen_ok,E 9999]
def Si{dst}{t ty}{x y}{t'}{p}{af}{g}{m n}(u:P.underlying t=aM .bool)(b:a.eval x=.bool m)(c:a.eval y=.bool n):
  (execOp a.eval ⟨dst,.binOp .eql t x y ty,t',p,af,g⟩).run P w=.ok (.value (.bool (m==n))) w:=by
 have h:eqGuard .eql t x y (.bool m) (.bool n)=pure _:=rfl;simp[execOp,b,c,h,run_eql_bool w t m n u]
def Sj{dst}{t ty}{x y}{t'}{p}{af}{g}{m n}(u:P.underlying t=aM .bool)(b:a.eval x=.bool m)(c:a.eval y=.bool n):
  (execOp a.eval ⟨dst,.binOp .neq t x y ty,t',p,af,g⟩).run P w=.ok (.value (.bool (!(m==n)))) w:=by
 have h:eqGuard .neq t x y (.bool m) (.bool n)=pure _:=rfl;simp[execOp,b,c,h,run_neq_bool w t m n u]
def JO{c:Option Tmp}{t j:TypeId}{x y:Operand}{t'}{p}{af}{g}{e}{s:Sl}(u:(underlying t).run P w=.ok (.slice e) w)(f:a.eval x=s.v)(i:a.eval y=.slice aaa 0 0):
  (execOp a.eval ⟨c,.binOp .eql t x y j,t',p,af,g⟩).run P w=.ok (.value (.bool (s.a.isNone))) w:=by
 obtain⟨b,sn,sc⟩:=s;have E:∀d,(Op.equalIn (d+1) t (.slice b sn sc) (.slice aaa 0 0)).run P w=.ok b.isNone w:=λd=>by
  unfold Op.equalIn;cases b<;>simp only[Sem.run_bind,u]<;>rfl
 have h:binOp .eql t (.slice b sn sc) (.slice aaa 0 0)=(do pure (.bool ((<-Op.equal t (.slice b sn sc) (.slice aaa 0 0))))):=by cases b<;>rfl
 have G:eqGuard .eql t x y (.slice b sn sc) (.slice aaa 0 0)=pure _:=rfl;simp[execOp,f,i,G,h,Op.equal,Op.maxDepth,Sem.run_bind,Sem.run_pure,Result.andThen_ok,E 9999]
def JP{dst}{t ty}{x y}{t'}{p}{af}{g}{e}{s:Sl}(hu:(underlying t).run P w=.ok (.slice e) w)(c:a.eval x=.slice aaa 0 0)(f:a.eval y=s.v):
  (execOp a.eval ⟨dst,.binOp .eql t x y ty,t',p,af,g⟩).run P w=.ok (.value (.bool (s.a.isNone))) w:=by
 obtain⟨b,sn,sc⟩:=s;have E:∀d,(Op.equalIn (d+1) t (.slice aaa 0 0) (.slice b sn sc)).run P w=.ok b.isNone w:=λd=>ae0
 have h:binOp .eql t (.slice aaa 0 0) (.slice b sn sc)=(do pure (.bool ((<-Op.equal t (.slice aaa 0 0) (.slice b sn sc))))):=rfl;have G:eqGuard .eql t x y (.slice aaa 0 0) (.slice b sn sc)=pure _:=rfl;simp[execOp,c,f,G,h,Op.equal,Op.maxDepth,Sem.run_bind,Sem.run_pure,Result.andThen_ok,E 9999]
def JQ{dst}{t ty}{x y}{t'}{p}{af}{g}{e}{s:Sl}(u:(underlying t).run P w=.ok (.slice e) w)(c:a.eval x=s.v)(f:a.eval y=.slice aaa 0 0):
  (execOp a.eval ⟨dst,.binOp .neq t x y ty,t',p,af,g⟩).run P w=.ok (.value (.bool (!s.a.isNone))) w:=by
 obtain⟨b,sn,sc⟩:=s;have E:∀d,(Op.equalIn (d+1) t (.slice b sn sc) (.slice aaa 0 0)).run P w=.ok b.isNone w:=λd=>by
  unfold Op.equalIn;cases b<;>simp only[Sem.run_bind,u]<;>rfl
 have h:binOp .neq t (.slice b sn sc) (.slice aaa 0 0)=(do pure (.bool (!(<-Op.equal t (.slice b sn sc) (.slice aaa 0 0))))):=by cases b<;>rfl
 have G:eqGuard .neq t x y (.slice b sn sc) (.slice aaa 0 0)=pure _:=rfl;simp[execOp,c,f,G,h,Op.equal,Op.maxDepth,Sem.run_bind,Sem.run_pure,Result.andThen_ok,E 9999]
def JR{c:Option Tmp}{t k:TypeId}{x y:Operand}{j:TypeId}{p:String}{af}{g}{e}{s:Sl}(hu:(underlying t).run P w=.ok (.slice e) w)(f:a.eval x=.slice aaa 0 0)(i:a.eval y=s.v):
  (execOp a.eval ⟨c,.binOp .neq t x y k,j,p,af,g⟩).run P w=.ok (.value (.bool (!s.a.isNone))) w:=by
 obtain⟨b,sn,sc⟩:=s;have E:∀d,(Op.equalIn (d+1) t (.slice aaa 0 0) (.slice b sn sc)).run P w=.ok b.isNone w:=λd=>ae0
 have h:binOp .neq t (.slice aaa 0 0) (.slice b sn sc)=(do pure (.bool (!(<-Op.equal t (.slice aaa 0 0) (.slice b sn sc))))):=by cases b<;>rfl
 have G:eqGuard .neq t x y (.slice aaa 0 0) (.slice b sn sc)=pure _:=rfl;simp[execOp,f,i,G,h,Op.equal,Op.maxDepth,Sem.run_bind,Sem.run_pure,Result.andThen_ok,E 9999]
def M8{dst}{t e}{x lo}{t'}{p}{af}{g}{s:Sl}{k}{l sz:Nat}
  (u:(underlying t).run P w=.ok (.slice e) w) (h:(sizeOf e).run P w=.ok sz w) (d:a.eval x=s.v) (c:a.eval lo=.int k l) (b:l<=s.n) (_h2:s.n<=s.c) (_h3:s.c<=s.c):
  (execOp a.eval ⟨dst,.slice t x (aM lo) aaa aaa,t',p,af,g⟩).run P w=.ok (.value (s.cut l s.n s.c sz).v) w:=by
 simp[execOp,d,Instr.sliceAt,u,Sem.run_bind,Result.andThen_ok,Instr.slice,Instr.sliceBounds,gn,C7,Sem.run_pure,pb c b,h,Sl.cut]
def M9{dst}{t e}{x hi}{t'}{p}{af}{g}{s:Sl}{k}{h sz:Nat}
  (u:(underlying t).run P w=.ok (.slice e) w) (z:(sizeOf e).run P w=.ok sz w) (d:a.eval x=s.v) (c:a.eval hi=.int k h) (_h1:0<=h) (b:h<=s.c) (_h3:s.c<=s.c):
  (execOp a.eval ⟨dst,.slice t x aaa (aM hi) aaa,t',p,af,g⟩).run P w=.ok (.value (s.cut 0 h s.c sz).v) w:=by
 simp[execOp,d,Instr.sliceAt,u,Sem.run_bind,Result.andThen_ok,Instr.slice,Instr.sliceBounds,gn,C7,Sem.run_pure,pb c b,z,Sl.cut]
def Na{dst}{t e}{x lo hi}{t'}{p}{af}{g}{s:Sl}{k k'}{l h sz:Nat}
  (u:(underlying t).run P w=.ok (.slice e) w) (z:(sizeOf e).run P w=.ok sz w) (i:a.eval x=s.v) (f:a.eval lo=.int k l) (d:a.eval hi=.int k' h) (b:l<=h) (c:h<=s.c) (_h3:s.c<=s.c):
  (execOp a.eval ⟨dst,.slice t x (aM lo) (aM hi) aaa,t',p,af,g⟩).run P w=.ok (.value (s.cut l h s.c sz).v) w:=by
 simp[execOp,i,Instr.sliceAt,u,Sem.run_bind,Result.andThen_ok,Instr.slice,Instr.sliceBounds,gn,C7,Sem.run_pure,pb d c,pb f b,z,Sl.cut]
def Nc{dst}{t e}{x hi mx}{t'}{p}{af}{g}{s:Sl}{k' k2}{h m sz:Nat}
  (u:(underlying t).run P w=.ok (.slice e) w) (z:(sizeOf e).run P w=.ok sz w) (i:a.eval x=s.v) (d:a.eval hi=.int k' h) (f:a.eval mx=.int k2 m) (_h1:0<=h) (b:h<=m) (c:m<=s.c):
  (execOp a.eval ⟨dst,.slice t x aaa (aM hi) (aM mx),t',p,af,g⟩).run P w=.ok (.value (s.cut 0 h m sz).v) w:=by
 simp[execOp,i,Instr.sliceAt,u,Sem.run_bind,Result.andThen_ok,Instr.slice,Instr.sliceBounds,gn,C7,Sem.run_pure,pb f c,pb d b,z,Sl.cut]
def Nf{dst}{t e}{x lo hi mx}{t'}{p}{af}{g}{s:Sl}{k k' k2}{l h m sz:Nat}
  (u:(underlying t).run P w=.ok (.slice e) w) (z:(sizeOf e).run P w=.ok sz w) (n:a.eval x=s.v) (i:a.eval lo=.int k l) (f:a.eval hi=.int k' h) (j:a.eval mx=.int k2 m) (b:l<=h) (c:h<=m) (d:m<=s.c):
  (execOp a.eval ⟨dst,.slice t x (aM lo) (aM hi) (aM mx),t',p,af,g⟩).run P w=.ok (.value (s.cut l h m sz).v) w:=by
 simp only[execOp,n,Instr.sliceAt,u,Sem.run_bind,Result.andThen_ok,Instr.slice,Instr.sliceBounds,gn,Sem.run_pure,pb j d,pb f c,pb i b,z,Sl.cut]
section
variable {K:Act->av->Prop} {o:Oper}
def afI(g:Region.wanted o (yielded ops a.tmps)=aE)(h:o.wp P a w (wpList P ops Q rest) Q):wpList P ops Q (o::rest) a w:=by
 unfold wpList;simp_all
def BM v (r:(execOp a.eval o).run P w=.ok (.value v) w') (b:a.put o.dst v=a') (h:K a' w'):o.wp P a w K Q:=by
 subst b;unfold Oper.wp;rw[r];exact h
def U7(r:(execOp a.eval o).run P w=.ok .skip w')(b:a.put o.dst undef=a')(h:K a' w'):o.wp P a w K Q:=by
 subst b;unfold Oper.wp;rw[r];exact h
def O6{f}{args}(r:(execOp a.eval o).run P w=.ok (.enter f args) w)
  (h:Calls P f args w λe w'=>∃v a',e=.returned v/\a.put o.dst v=a'/\K a' w'):o.wp P a w K Q:=by
 unfold Oper.wp;rw[r];refine h.mono ?_;simp_all
def JS{dst}{ty}{x y}{t'}{p}{af}{g}{b o}{cs vs BC}{et}{n}
  (h:(sizeOf ty).run P w=.ok n w) (k:a.eval x=.pointer (aM ⟨b,o,aaa⟩)) (v:(a.eval y).cells=vs.toArray) (j:I vs=n)
  (f:vs.all Value.oneCell'=aE) (d:Blk w b et cs) (T:o+I vs<=I cs) (l:fE cs o vs=BC) (i:a.put dst undef=a')
  (e:∀c,Only [b] w c->Blk c b et BC->K a' c):Oper.wp P ⟨dst,.store ty x y,t',p,af,g⟩ a w K Q:=
 U7 (aap h k v j (dx.1 f) d T) i (e _ (Only.setRow _ _ _) (by rw[<-l];exact d.setRow _))
def JU{dst}{ty}{t'}{p}{af}{g}{z}{zs}{d:Nat->Act}
  (i:(zeroValue ty).run P w=.ok z w) (f:z.cells=zs.toArray) (e:∀b,a.put dst (.pointer (aM ⟨b,0,aaa⟩))=d b)
  (h:∀b c,w.heap.size<=b->Only [] w c->Blk c b ty zs->K (d b) c):Oper.wp P ⟨dst,.alloc ty,t',p,af,g⟩ a w K Q:=
 BM _ (aaq i f) (e _) (h _ _ (aX _) (Only.alloc _ _) (Blk.alloc _ _ _))
def afJ{dst}{ty}{x}{t'}{p}{af}{g}{zs}{d:Nat->Act}
  (f:(a.eval x).cells=zs.toArray) (e:∀b,a.put dst (.pointer (aM ⟨b,0,aaa⟩))=d b)
  (h:∀b c,w.heap.size<=b->Only [] w c->Blk c b ty zs->K (d b) c):Oper.wp P ⟨dst,.box ty x,t',p,af,g⟩ a w K Q:=
 BM _ (akF f) (e _) (h _ _ (aX _) (Only.alloc _ _) (Blk.alloc _ _ _))
end
def Sk{id}(h:Q .normal a w):Exit.inBlock id Q (.exit id) a w:=by simpa[Exit.inBlock]using h
def Ng{id id'}(i:(id'==id)=aL)(h:Q (.exit id') a w):Exit.inBlock id Q (.exit id') a w:=by simpa[Exit.inBlock,by simpa using i]using h
def F5(P:Program)(a:Act)(w:av):List ResultVar->List aw->Prop
 | [],[]=>True
 | .tmp t::r,v::s=>a.eval (.tmp t)=v/\F5 P a w r s
 | .cell p t::r,v::s=>(∃ad,a.eval (.tmp p)=.pointer (aM ad)/\(loadVar t ad).run P w=.ok v w)/\F5 P a w r s
 | _,_=>False
def qN(f:ResultVar->Sem aw)(b:∀t,f (.tmp t)=pure (a.tmps.getD t undef))(h:∀q t,f (.cell q t)=(do loadVar t (<-asAddr (a.tmps.getD q undef)))):
  ∀r s,F5 P a w r s->(r.mapM f).run P w=.ok s w
 | [],[],_=>rfl
 | [],_::_,a=>a.elim
 | .tmp t::c,[],a=>a.elim
 | .cell _ _::c,[],a=>a.elim
 | .tmp t::d,v::s,c=>by
  have i:=qN f b h d s c.2;have e:a.tmps.getD t undef=v:=c.1;simp_all
 | .cell q t::j,v::s,d=>by
  have i:=qN f b h j s d.2;obtain⟨⟨ad,e,g⟩,_⟩:=d;have c:a.tmps.getD q undef=.pointer _:=e;rw[List.mapM_cons,h];simp[c,asAddr,g,i]
def afK{fn}{rs}{v}(h:fn.results=rs.toArray)(r:F5 P a w rs [v]):(results fn a.tmps).run P w=.ok v w:=by
 unfold results;rw[h,List.mapM_toArray];simp only[Sem.run_bind,map_eq_pure_bind];rw[qN _ (λ_=>rfl) (λ_ _=>rfl) rs [v] r];rfl
def Nh{fn}{rs}{vs}(h:fn.results=rs.toArray)(n:(I vs==1)=aL)(r:F5 P a w rs vs):(results fn a.tmps).run P w=.ok (.tuple vs.toArray) w:=by
 unfold results;rw[h,List.mapM_toArray];simp only[Sem.run_bind,map_eq_pure_bind,Sem.run_pure];rw[qN _ (λ_=>rfl) (λ_ _=>rfl) rs vs r];simp_all
def aav{fn}{R:aw->av->Prop}{v}(r:(results fn a.tmps).run P w=.ok v w)(hd:a.defers=[])(h:R v w):
 bodyPost P fn (λe w'=>∃v,e=.returned v/\R v w') .ret a w:=bodyPost_ret r hd ⟨v,rfl,h⟩
def Ni{fn}{R:aw->av->Prop}{v}(r:(results fn a.tmps).run P w=.ok v w)(hd:a.defers=[])(h:R v w):
 bodyPost P fn (λe w'=>∃v,e=.returned v/\R v w') .normal a w:=bodyPost_end r hd ⟨v,rfl,h⟩
def Hp{ty}{ad}{cs}{n}(A:(isAgg ty).run P w=.ok aE w)(h:(sizeOf ty).run P w=.ok n w)(a:I cs=n)(c:Cells w ad cs):
  (loadVar ty ad).run P w=.ok (.agg cs.toArray) w:=by
 have l:=run_loadCells_list (P:=P) w ad cs c;rw[a]at l;simp[loadVar,A,h,l,Sem.run_pure]
def Fp{ty}{ad}{v}(A:(isAgg ty).run P w=.ok aL w)(h:w.cell? ad=aM v):
  (loadVar ty ad).run P w=.ok v w:=by
 simp[loadVar,A,lS,run_load,h]
end
section
variable {P:Program} {ops:Array Oper} {rest:List Oper} {a a':Act} {w:av} {Q:Act->Prop}
def akO{o} v (g:Region.wanted o (yielded ops a.tmps)=aE)
  (r:∀b,(∃n,b=w.drewN n)->(execOp a.eval o).run P b=.ok (.value v) b) (d:a.put o.dst v=a')
  (c:wpQuiet P ops (λb=>∃n,b=w.drewN n) Q rest a'):wpQuiet P ops (λb=>∃n,b=w.drewN n) Q (o::rest) a:=by
 subst d;unfold wpQuiet;rw[aV g];refine⟨v,λb h=>?_,c⟩;unfold Oper.quietAt;rw[r b h];exact⟨rfl,rfl⟩
def asc{o}(g:Region.wanted o (yielded ops a.tmps)=aL)(h:a.put o.dst undef=a')
  (c:wpQuiet P ops (λb=>∃n,b=w.drewN n) Q rest a'):wpQuiet P ops (λb=>∃n,b=w.drewN n) Q (o::rest) a:=by
 subst h;unfold wpQuiet;simp_all
end
def U8{w w'}:cu [] w w':=λ_ h=>acr
def cu.refl bs w:cu bs w w:=λ_ _=>rfl
section
variable {P:Program} {ops:Array Oper} {Q:Exit->Act->av->Prop} {md:Region.Mode} {E:Nat->av->av->Prop} {F:av->Prop}
def gA(P:Program)(m:Region.Mode)(o:Array Oper)(b:Exit->Act->av->Prop)(E:Nat->av->av->Prop):Nat->Array Bool->Act->av->Prop
 | 0,M,a,w=>Region.ready m o M=[]/\b .normal a w
 | fX+1,M,a,w=>
  (Region.ready m o M=[]->b .normal a w)/\
  ∀i∈Region.ready m o M,wpOp P o b i (λd c=>E i w c/\gA P m o b E fX (M.setIfInBounds i aE) d c) a w
def Df:∀fX b a w,gA P md ops Q E fX b a w->wpAny P md ops Q fX b a w
 | 0,_,_,_,h=>h
 | fX+1,_,_,_,h=>⟨h.1,λd i=>wpOp_mono (λa e c=>Df fX _ a e c.2) (h.2 d i)⟩
def uK(m:Region.Mode)(o:Array Oper)(b:Array Bool):Prop:=∀k a,o[k]? =aM a->b.getD k aL=aE->∀e∈a.after,Region.binds m e=aE->b.getD e.on aL=aE
def xh(m:Region.Mode)(o:Array Oper)(b:Array Bool):Bool:=
 (List.range o.size).all λk=>!b.getD k aL||((o[k]?).map (·.after.all λe=>!Region.binds m e||b.getD e.on aL)).getD aE
def F6{bM}(h:xh md ops bM=aE):uK md ops bM:=by
 intro k o hk l e a b;have:=(dx.1 h) k (oS.2 (iQ.1 hk).1);simp only[l,kw,hk,gn,iz,Array.all_eq_true_iff_forall_mem,cE]at this
 grind
def uK.add{bM}{j}(c:uK md ops bM)(d:j∈Region.ready md ops bM):uK md ops (bM.setIfInBounds j aE):=by
 intro k o hk l e a b;obtain⟨_,f,B,g⟩:=mem_ready.1 d;by_cases h:j=k
 ·subst h;rw[B]at hk;injection hk with hk;subst hk;exact getD_set_true (g e a b)
 rw[getD_set_ne aL h]at l;exact getD_set_true (c k o hk l e a b)
def uL(m:Region.Mode)(o:Array Oper)(i:Nat):List Nat->List Nat->Bool
 | _,[]=>aE
 | s,j::r=>((o[j]?).map λa=>a.after.any λe=>Region.binds m e&&(e.on==i||s.contains e.on)).getD aL&&uL m o i (j::s) r
def BN{i}{bM}(h:uK md ops bM):∀D s,uL md ops i s D=aE->(∀k∈s,bM.getD k aL=aE->bM.getD i aL=aE)->∀j∈D,∀o,ops[j]? =aM o->(∀e∈o.after,Region.binds md e=aE->bM.getD e.on aL=aE)->bM.getD i aL=aE
 | [],_,_,_,j,a,_,_,_=>by simp at a
 | k::r,s,a,d,j,b,o,c,g=>by
  simp[uL,aR]at a;have hk:∀o,ops[k]? =aM o->(∀e∈o.after,Region.binds md e=aE->bM.getD e.on aL=aE)->bM.getD i aL=aE:=acw
  rcases aZ.1 b with rfl | b
  ·exact hk o c g
  refine BN h r _ a.2 ?_ j b o c g;intro x e l;rcases aZ.1 e with rfl | e
  ·have f:=a.1;rcases hx2:ops[x]? with _|i
   ·rw[hx2]at f;simp at f
   exact hk i hx2 (h x i hx2 l)
  exact d x e l
def uM{i}{oi}{v}{D}(h:ops[i]? =aM oi)(o:∀(j:Nat) f s b,ops[j]? =aM f->f.op≠.select s b)
  (l:∀c a w,Q (.panic c) (a.put oi.dst v) w->Q (.panic c) a w) (g:uL md ops i [] D=aE)
  (N:List Nat) (Y:∀j w d,j∉D->j∉N->F w->E j w d->F d) (G:∀w,F w->E i w w):
  ∀fX M a w,uK md ops M->(∀k∈N,M.getD k aE=aE)->
   (∀j b,ops[j]? =aM b->j≠i->M.getD j aE=aL->(∀e∈b.after,Region.binds md e=aE->e.on≠i)->oi.apart ops b=aE)->
   i∈Region.ready md ops M->YieldsIf P ops F oi v a->F w->
   gA P md ops Q E fX (M.setIfInBounds i aE) (a.put oi.dst v) w->gA P md ops Q E (fX+1) M a w:=by
 intro fX
 induction fX with
 | zero=>
  intro M a w _ _ _ r y F H;refine⟨λc=>(by rw[c]at r;cases r),λj e=>?_⟩;by_cases b:j=i
  ·subst b;exact y.wpOp h F ⟨G w F,H⟩
  have:=ready_mono e b;rw[H.1]at this;cases this
 | succ fX q=>
  intro M a w t n R r y F H;refine⟨λp=>(by rw[p]at r;cases r),λj m=>?_⟩;by_cases c:j=i
  ·subst c;exact y.wpOp h F ⟨G w F,H⟩
  have T:=H.2 j (ready_mono m c);obtain⟨a,x,B,S⟩:=mem_ready.1 m;have P:=(mem_ready.1 r).1;have E:M.getD i aL=aL:=acw
  have C:∀e∈x.after,Region.binds md e=aE->e.on≠i:=λe he Z W=>acw
  have A:j∉D:=λJ=>by
   have:=BN t D [] g aag j J x B S;rw[E]at this;cases this
  have u:j∉N:=λJ=>by
   have:=n j J;rw[a]at this;cases this
  have z:∀k∈N,(M.setIfInBounds j aE).getD k aE=aE:=λk hk=>by
   by_cases b:j=k
   ·subst b;exact absurd hk u
   rw[getD_set_ne aE b];exact n k hk
  have V:=wpOp_putIf B (R j x B c a C) (λs b=>o i oi s b h) (λs b=>o j x s b B) l y T;have K:∀k ok,ops[k]? =aM ok->k≠i->(M.setIfInBounds j aE).getD k aE=aL->
    _->oi.apart ops ok=aE:=λk ok hk i e D=>by
   refine R k ok hk i ?_ D;by_cases b:j=k
   ·subst b;exact a
   rw[getD_set_ne aE b]at e;exact e
  refine wpOp_mono (λL d v=>⟨v.2.1,q _ L d (t.add m) z K (ready_mono r (Ne.symm c)) v.1 (Y j w d A u F v.2.1) ?_⟩) V;rw[Array.setIfInBounds_comm _ _ c];exact v.2.2
def Nj i {eV} {oi} {a a'} {w} {fX} {bM} (D N:List Nat) v F (hi:jd eV i=aM oi)
  (s:Region.noSelect eV.toArray=aE) (n:Region.free md eV.toArray bM i=aE) (hr:(Region.ready md eV.toArray bM).contains i=aE) (m:xh md eV.toArray bM=aE) (e:uL md eV.toArray i [] D=aE) (o:(N.all λk=>bM.getD k aE)=aE)
  (g:∀c a w,Q (.panic c) (a.put oi.dst v) w->Q (.panic c) a w) (Y:∀j w d,j∉D->j∉N->F w->E j w d->F d) (G:∀w,F w->E i w w) (f:F w)
  (y:YieldsIf P eV.toArray F oi v a) (l:a.put oi.dst v=a')
  (h:gA P md eV.toArray Q E fX (bM.setIfInBounds i aE) a' w):gA P md eV.toArray Q E (fX+1) bM a w:=by
 subst l;have b:eV.toArray[i]? =aM oi:=adz
 exact uM b (Region.noSelect_spec s) g e N Y G fX bM a w (F6 m) (λk hk=>acw) (Region.free_spec b n) afc y f h
def akP i {eV} {oi} {a} {w} {fX} {bM} (hi:jd eV i=aM oi) (hr:Region.ready md eV.toArray bM=[i])
  (g:Region.wanted oi (yielded eV.toArray a.tmps)=aE)
  (e:oi.wp P a w (λc b=>E i w b/\gA P md eV.toArray Q E fX (bM.setIfInBounds i aE) c b) Q):gA P md eV.toArray Q E (fX+1) bM a w:=by
 have d:eV.toArray[i]? =aM oi:=adz
 refine⟨λh0=>afC,λj h=>?_⟩;rw[hr]at h;obtain rfl:j=i:=by simpa using h
 unfold wpOp;simp_all
def aaw i {eV} {oi} {a a'} {w} {fX} {bM} (hi:jd eV i=aM oi) (hr:Region.ready md eV.toArray bM=[i])
  (g:Region.wanted oi (yielded eV.toArray a.tmps)=aL) (e:E i w w) (b:a.put oi.dst undef=a')
  (d:gA P md eV.toArray Q E fX (bM.setIfInBounds i aE) a' w):gA P md eV.toArray Q E (fX+1) bM a w:=by
 subst b;have c:eV.toArray[i]? =aM oi:=adz
 refine⟨λh0=>afC,λj h=>?_⟩;rw[hr]at h;obtain rfl:j=i:=by simpa using h
 unfold wpOp;simp_all
def akQ i j {eV} {oi oj} {a} {w} {fX} {bM} (hi:jd eV i=aM oi) (h:jd eV j=aM oj) (hr:Region.ready md eV.toArray bM=[i,j])
  (f:if Region.wanted oi (yielded eV.toArray a.tmps)then oi.wp P a w (λc b=>E i w b/\gA P md eV.toArray Q E fX (bM.setIfInBounds i aE) c b) Q∨(oi.asks P a w/\LetsOut Q)
   else(λc b=>E i w b/\gA P md eV.toArray Q E fX (bM.setIfInBounds i aE) c b) (a.put oi.dst undef) w)
  (g:if Region.wanted oj (yielded eV.toArray a.tmps)then oj.wp P a w (λc b=>E j w b/\gA P md eV.toArray Q E fX (bM.setIfInBounds j aE) c b) Q∨(oj.asks P a w/\LetsOut Q)
   else(λc b=>E j w b/\gA P md eV.toArray Q E fX (bM.setIfInBounds j aE) c b) (a.put oj.dst undef) w):gA P md eV.toArray Q E (fX+1) bM a w:=by
 have e:eV.toArray[i]? =aM oi:=adz
 have d:eV.toArray[j]? =aM oj:=by rw[lV]at h;simpa using h
 refine⟨λh0=>afC,λk hk=>?_⟩;rw[hr]at hk;unfold wpOp;rcases aZ.1 hk with rfl | hk<;>simp_all
def afL{bM}{a}{w}{fX}(r:Region.ready md ops bM=[])(h:Q .normal a w):gA P md ops Q E fX bM a w:=by
 cases fX with
 | zero=>exact⟨r,h⟩
 | succ n=>exact⟨λ_=>h,by rw[r];simp⟩
def JV{id}{e:List Oper}{a}{w} E (m:P.follows .mixedOrders=aE)
  (h:gA P .any e.toArray Q E (I e) (Array.replicate (I e) aL) a w.drew):(Code.region id e.toArray aE).wp P Q a w:=by
 refine wp_region_any m (Df (E:=E) _ _ _ _ ?_);simpa using h
def EL(s:List (Nat×List Nat))(j:Nat)(w a:av):Prop:=match s.lookup j with | some l=>cu l w a | none=>a.heap=w.heap
def U9{ls}{i}(h:ls.lookup i=aaa) w:EL ls i w w:=by unfold EL;rw[h]
def aax{ls}{D N:List Nat}:∀j w a,j∉D->j∉N->True->EL ls j w a->True:=λ_ _ _ _ _ h _=>h
def Nk{s}{l} w w' (a:w'.heap[s.blk]? =w.heap[s.blk]?) (h:vD w s l):vD w' s l:=
 ⟨h.1,λb=>by
  obtain⟨ad,c,d⟩:=h.2 b;refine⟨ad,c,d.keep ?_⟩;simpa[Sl.blk,c]using a⟩
def adr{e:List Oper}{o}{v}{a}(g:Region.wanted o (yielded e.toArray a.tmps)=aE)(h:∀w,F w->(execOp a.eval o).run P w=.ok (.value v) w):YieldsIf P e.toArray F o v a:=.inl ⟨g,h⟩
def afM{e:List Oper}{o}{a}(h:Region.wanted o (yielded e.toArray a.tmps)=aL):YieldsIf P e.toArray F o undef a:=.inr ⟨h,rfl⟩
end
def tn(x:Int):Prop:= -9223372036854775808<=x/\x<=9223372036854775807
def wr{x}(h:tn x):IntKind.i64.wrap x=x:=IntWalk.i64_in _ ⟨h.1,h.2⟩
def fh{x}(h: -9223372036854775808<=x)(a:x<=9223372036854775807):IntKind.i64.wrap x=x:=IntWalk.i64_in _ ⟨h,a⟩
def Va x:tn (IntKind.i64.wrap x):=by
 rw[IntKind.wrap_i64];constructor<;>omega
abbrev Rp(a:Type):=av->(Nat->Prop)->a->List aw->Prop
structure Rp.Ok {α:Type} (r:Rp α):Prop where
 keep:∀{w w':av} {F:Nat->Prop} {x:α} {cs:List aw},r w F x cs->(∀k,F k->k<w.heap.size->w'.heap[k]? =w.heap[k]?)->r w' F x cs
 inHeap:∀{w:av} {F:Nat->Prop} {x:α} {cs:List aw},r w F x cs->r w (λk=>F k/\k<w.heap.size) x cs
 mono:∀{w:av} {F G:Nat->Prop} {x:α} {cs:List aw},r w F x cs->(∀k,F k->G k)->r w G x cs
 one:∀{w:av} {F:Nat->Prop} {x:α} {cs:List aw},r w F x cs->∀v,v∈cs->v.oneCell'=aE
section
variable {α:Type} {r:Rp α} {size:Nat} {w w':av} {F G:Nat->Prop} {s:Sl} {xs:List α}
structure SliceF (r:Rp α) (size:Nat) (w:av) (F:Nat->Prop) (s:Sl) (xs:List α):Prop where
 len:s.n=I xs
 cap:s.n<=s.c
 nil0:s.a=aaa->s.c=0
 big:s.c<=9223372036854775807
 at_:∀j x,xs[j]? =aM x->∃base cs,s.a=aM base/\F base.block/\I cs=size/\Cells w (base.add (j*size)) cs/\r w F x cs
def pc(a:Addr) n:(a.add n).block=a.block:=by unfold Addr.add;split<;>rfl
def rq(a:Addr) i j:(a.add i).add j=a.add (i+j):=by
 unfold Addr.add;by_cases h:i=0<;>by_cases b:j=0<;>simp[h,b,dM]
def Sm(a:Addr):a.add 0=a:=rfl
def gC b o n:(⟨b,o,aaa⟩:Addr).add n=⟨b,o+n,aaa⟩:=by unfold Addr.add;split<;>simp_all
def Cells.sub{a}{cs vs}(h:Cells w a cs) k (c:∀j v,vs[j]? =aM v->cs[k+j]? =aM v):Cells w (a.add k) vs:=λj v b=>by
 rw[rq];exact h _ v (c j v b)
def Cells.dP{a}{cs}(b:Cells w a cs) k v (c:cs[k]? =aM v):Cells w (a.add k) [v]:=b.sub k λj u h=>by
 cases j with
 | zero=>simpa[c]using h
 | succ j=>simp at h
def SliceF.nil(r:Rp α) size w F:SliceF r size w F Sl.nil []:=⟨rfl,aX _,λ_=>rfl,Z,λj x h=>acr⟩
def SliceF.keep(a:r.Ok)(h:SliceF r size w F s xs)(d:0<size)(hk:∀k,F k->k<w.heap.size->w'.heap[k]? =w.heap[k]?):SliceF r size w' F s xs:=
 ⟨h.len,h.cap,h.nil0,h.big,λj x b=>by
  obtain⟨s,e,l,g,i,k,m⟩:=h.at_ j x b;refine⟨s,e,l,g,i,k.keep ?_,a.keep m hk⟩;have f:(s.add (j*size)).block<w.heap.size:=by
   cases e with
   | nil=>simp at i;omega
   | cons c e=>exact k.lt
  rw[pc]at f⊢;exact hk _ g f⟩
def SliceF.mono(a:r.Ok)(h:SliceF r size w F s xs)(hk:∀k,F k->G k):SliceF r size w G s xs:=
 ⟨h.len,h.cap,h.nil0,h.big,λj x b=>by
  obtain⟨s,c,d,e,f,g,i⟩:=h.at_ j x b;exact⟨s,c,d,hk _ e,f,g,a.mono i hk⟩⟩
def SliceF.inHeap(a:r.Ok)(h:SliceF r size w F s xs)(d:0<size):SliceF r size w (λk=>F k/\k<w.heap.size) s xs:=
 ⟨h.len,h.cap,h.nil0,h.big,λj x b=>by
  obtain⟨s,e,k,l,f,g,m⟩:=h.at_ j x b;refine⟨s,e,k,⟨l,?_⟩,f,g,a.inHeap m⟩;have i:(s.add (j*size)).block<w.heap.size:=by
   cases e with
   | nil=>simp at f;omega
   | cons c e=>exact g.lt
  rwa[pc]at i⟩
def SliceF.get(h:SliceF r size w F s xs){i:Int}(k:0<=i)(l:i<s.n):
  ∃ad x c,cR s i size ad/\xs[i.toNat]? =aM x/\F ad.block/\I c=size/\Cells w ad c/\r w F x c:=by
 have m:=h.len;have a:i.toNat<I xs:=J
 obtain⟨b,c,g,d,e,f,j⟩:=h.at_ i.toNat _ (bf a);exact⟨_,_,c,⟨b,g,k,l,rfl⟩,bf a,by rw[pc];exact d,e,f,j⟩
def SliceF.mem(h:SliceF r size w F s xs){x}(b:x∈xs):∃c,r w F x c:=by
 obtain⟨d,j⟩:=iA b;obtain⟨_,c,_,_,_,_,a⟩:=h.at_ d x j;exact⟨c,a⟩
def cR.Cp{i}{a b}(h:cR s i size a)(k:cR s i size b):a=b:=by
 obtain⟨x,d,_,_,e⟩:=h;obtain⟨y,c,_,_,f⟩:=k;rw[d]at c;injection c with c;rw[e,f,c]
def SliceF.cut(a:SliceF r size w F s xs){lo hi m}(c:lo<=hi)(d:hi<=m)(e:hi<=s.n)(f:m<=s.c):SliceF r size w F (s.cut lo hi m size) ((xs.drop lo).take (hi-lo)):=by
 have l:=a.len;refine⟨?_,?_,λb=>?_,by have:=a.big;simp[Sl.cut];omega,λj x h=>?_⟩
 ·simp[Sl.cut,cx,cJ];omega
 ·simp[Sl.cut];omega
 ·simp[Sl.cut]at b⊢;split at b
  ·omega
  have:=a.nil0 (by simpa using b);omega
 rw[yh]at h;split at h
 ·rw[gH]at h;obtain⟨s,g,i,k,m,n,o⟩:=a.at_ _ _ h;refine⟨s.add (lo*size),g,?_,by rw[pc];exact k,m,?_,o⟩
  ·simp[Sl.cut];rw[aP J,i];rfl
  rw[rq,<-jb];exact n
 cases h
end
structure BytesF (w:av) (F:Nat->Prop) (s:Sl) (l:List UInt8):Prop where
 rd:vD w s l
 cap:s.n<=s.c
 blk:∀ad,s.a=aM ad->l≠[]->F ad.block
section
variable {w w':av} {F G:Nat->Prop} {s:Sl} {l:List UInt8}
def BytesF.nil w F:BytesF w F Sl.nil []:=⟨⟨rfl,λh=>absurd rfl h⟩,aX _,λ_ _ h=>absurd rfl h⟩
def BytesF.mono(h:BytesF w F s l)(hk:∀k,F k->G k):BytesF w G s l:=⟨h.rd,h.cap,λad a b=>hk _ (h.blk ad a b)⟩
end
def iI{a:Type}(P:a->List aw->Prop):List a->List (List aw)->Prop
 | [],[]=>True
 | x::b,c::s=>P x c/\iI P b s
 | _,_=>False
section
variable {α:Type} {P Q:α->List aw->Prop}
def iI.len:∀{xs:List α} {css:List _},iI P xs css->I xs=I css
 | [],[],_=>rfl
 | x::xs,c::s,h=>by simp[iI.len (xs:=xs) (css:=s) h.2]
 | [],_::_,h=>h.elim
 | _::_,[],h=>h.elim
def iI.imp(h:∀x c,P x c->Q x c):∀{xs:List α} {css:List _},iI P xs css->iI Q xs css
 | [],[],_=>trivial
 | x::xs,c::s,a=>⟨h _ _ a.1,iI.imp h (xs:=xs) (css:=s) a.2⟩
 | [],_::_,a=>a.elim
 | _::_,[],a=>a.elim
def iI.vN:∀{xs y:List α} {css J:List _},iI P xs css->iI P y J->iI P (xs++y) (css++J)
 | [],_,[],_,_,k=>k
 | x::xs,_,c::s,_,h,k=>⟨h.1,iI.vN (xs:=xs) (css:=s) h.2 k⟩
 | [],_,_::_,_,h,_=>h.elim
 | _::_,_,[],_,h,_=>h.elim
def iI.get:∀{xs:List α} {css:List _},iI P xs css->∀{j:Nat} {x:α},xs[j]? =aM x->∃s,css[j]? =aM s/\P x s
 | [],[],_,j,x,h=>acr
 | y::xs,c::s,k,0,x,h=>by
  simp at h;subst h;exact⟨c,rfl,k.1⟩
 | y::xs,c::s,k,j+1,x,h=>by
  exact iI.get (xs:=xs) (css:=s) k.2 h
 | [],_::_,h,_,_,_=>h.elim
 | _::_,[],h,_,_,_=>h.elim
def iI.mem:∀{xs:List α} {css:List _},iI P xs css->∀c,c∈css->∃x,P x c
 | [],[],_,c,h=>acr
 | y::xs,d::s,k,c,h=>by
  rcases aZ.1 h with rfl | h
  ·exact⟨y,k.1⟩
  exact iI.mem (xs:=xs) (css:=s) k.2 c h
 | [],_::_,h,_,_=>h.elim
 | _::_,[],h,_,_=>h.elim
def iI.take:∀n {xs:List α} {css:List _},iI P xs css->iI P (xs.take n) (css.take n)
 | 0,_,_,_=>by simp[iI]
 | _+1,[],[],_=>by simp[iI]
 | n+1,x::xs,c::s,h=>by simp;exact⟨h.1,iI.take n (xs:=xs) (css:=s) h.2⟩
 | _,[],_::_,h=>h.elim
 | _,_::_,[],h=>h.elim
def iI.set:∀{xs:List α} {css:List _} j {x:α} {c:List aw},iI P xs css->P x c->iI P (xs.set j x) (css.set j c)
 | [],[],_,_,_,_,_=>by simp[iI]
 | y::xs,d::s,0,x,c,h,k=>⟨k,h.2⟩
 | y::xs,d::s,j+1,x,c,h,k=>⟨h.1,iI.set (xs:=xs) (css:=s) j h.2 k⟩
 | [],_::_,_,_,_,h,_=>h.elim
 | _::_,[],_,_,_,h,_=>h.elim
end
def Dg{s:List (List aw)}{size}(h:∀c,c∈s->I c=size):I s.flatten=I s*size:=by
 induction s<;>grind
def O7{s:List _}{size}(h:∀c,c∈s->I c=size):∀{j i:Nat} {a:List aw} {v:aw},s[j]? =aM a->a[i]? =aM v->s.flatten[j*size+i]? =aM v:=by
 induction s with
 | nil=>intro j i a v b;simp at b
 | cons c a g=>
  intro j i d v f e;have b:=h c aag;cases j<;>grind
def Sn{s:List (List aw)}{size}(h:∀c,c∈s->I c=size):∀n,s.flatten.take (n*size)=(s.take n).flatten:=by
 induction s with
 | nil=>intro n;simp
 | cons c a i=>
  intro n;cases n with
  | zero=>simp
  | succ n=>
   rw[eH,gx,eH,List.take_append,<-i (λd hd=>h d (by simp[hd])),h c aag,show _*size-size=n*size by rw[jb];omega,bm acw]
def yC{cs}{o}{v}(h:o<I cs):fE cs o [v]=cs.set o v:=by
 rw[fE,List.set_eq_take_append_cons_drop,aV h];simp
def JW{size}{tail}{i}{v}:∀{s:List _} {n:Nat} {a:List aw},(∀c,c∈s->I c=size)->s[n]? =aM a->i<size->
  (s.flatten++tail).set (n*size+i) v=(s.set n (a.set i v)).flatten++tail
 | [],n,a,_,h,_=>by simp at h
 | c::s,0,a,h,n,i=>acw
 | c::s,n+1,a,h,b,e=>by
  simp at b;simp;rw[tF _ _ acw,h c aag,show _*size+i-size=n*size+i by rw[jb];omega,JW (tail:=tail) (v:=v) (λd hd=>h d (by simp[hd])) b e]
section
variable {w w':av} {a:Addr} {cs ds:List aw}
def Cells.vN(c:Cells w a cs)(k:Cells w (a.add (I cs)) ds):Cells w a (cs++ds):=λj v h=>by
 by_cases b:j<I cs
 ·rw[bX b]at h;exact c j v h
 rw[cj J]at h;have:=k _ v h;rw[rq,show (I cs)+_=j by omega]at this;exact this
def Cells.nil w a:Cells w a []:=λj v h=>by simp at h
end
section
variable {α:Type} {r:Rp α} {size:Nat} {w w':av} {F G:Nat->Prop} {s y:Sl} {xs ys:List α} {e:TypeId} {B:Nat}
abbrev qB(r:Rp α)(size:Nat)(w:av)(F:Nat->Prop):List α->List (List aw)->Prop:=iI λx c=>I c=size/\r w F x c
def qB.sz{css}(h:qB r size w F xs css):∀c,c∈css->I c=size:=λc b=>by
 obtain⟨_,a,_⟩:=h.mem c b;exact a
def qB.keep(b:r.Ok){css}(a:qB r size w F xs css)(hk:∀k,F k->k<w.heap.size->w'.heap[k]? =w.heap[k]?):qB r size w' F xs css:=
 a.imp λ_ _ h=>⟨h.1,b.keep h.2 hk⟩
def qB.mono(b:r.Ok){css}(a:qB r size w F xs css)(hk:∀k,F k->G k):qB r size w G xs css:=
 a.imp λ_ _ h=>⟨h.1,b.mono h.2 hk⟩
def qB.inHeap(b:r.Ok){css}(a:qB r size w F xs css):qB r size w (λk=>F k/\k<w.heap.size) xs css:=
 a.imp λ_ _ h=>⟨h.1,b.inHeap h.2⟩
def SliceF.Yw{base:Addr}:∀xs k,(∀j x,xs[j]? =aM x->∃s,I s=size/\Cells w (base.add ((k+j)*size)) s/\r w F x s)->
  ∃c,qB r size w F xs c/\Cells w (base.add (k*size)) c.flatten
 | [],k,_=>⟨[],trivial,Cells.nil _ _⟩
 | x::xs,k,h=>by
  obtain⟨s,a,g,b⟩:=h 0 x rfl;obtain⟨c,e,f⟩:=SliceF.Yw xs _ (λj y d=>by
   obtain⟨i,l,m,n⟩:=h (j+1) y (by simpa using d);exact⟨i,l,by rw[show k+1+j=k+(j+1) by omega];exact m,n⟩)
  refine⟨s::c,⟨⟨a,b⟩,e⟩,?_⟩;refine Cells.vN J ?_;rw[rq,a,show k*size+size=(k+1)*size by rw[jb];omega];exact f
def SliceF.flat(h:SliceF r size w F s xs)(a:xs≠[]):∃b c,s.a=aM b/\F b.block/\qB r size w F xs c/\Cells w b c.flatten:=by
 cases xs with
 | nil=>exact absurd rfl a
 | cons x xs=>
  obtain⟨b,_,d,e,_⟩:=h.at_ 0 x rfl;obtain⟨c,g,k⟩:=SliceF.Yw (r:=r) (size:=size) (w:=w) (F:=F) (base:=b) _ 0 (λf y j=>by
   obtain⟨o,s,i,p,l,m,n⟩:=h.at_ f y j;rw[d]at i;injection i with i;subst i;exact⟨s,l,by simpa using m,n⟩)
  exact⟨b,c,d,e,g,by rw[xd]at k;exact k⟩
def SliceF.of{base}{css}(e:qB r size w F xs css)(b:s.a=aM base)(c:F base.block)(d:Cells w base css.flatten)(n:s.n=I xs)(u:s.n<=s.c)(h:s.c<=9223372036854775807):SliceF r size w F s xs:=
 ⟨n,u,λa=>(by rw[b]at a;cases a),h,λj x f=>by
  obtain⟨s,g,i,k⟩:=e.get f;exact⟨base,s,b,c,i,λm v l=>by rw[rq];exact d _ v (O7 e.sz g l),k⟩⟩
def Own(r:Rp α)(size:Nat)(e:TypeId)(B:Nat)(w:av)(F:Nat->Prop)(s:Sl)(x:List α):Prop:=
 (s=Sl.nil/\x=[])∨∃g c tail,s.a=aM ⟨g,0,aaa⟩/\B<=g/\Blk w g e (c.flatten++tail)/\I tail=(s.c-s.n)*size/\s.n=I x/\s.n<=s.c/\s.c<=9223372036854775807/\qB r size w (λk=>F k/\k≠g) x c
def Own.len(h:Own r size e B w F s xs):s.n=I xs:=by
 rcases h with⟨rfl,rfl⟩ | ⟨g,c,tail,_,_,_,_,h,_⟩<;>grind
def Own.cap(h:Own r size e B w F s xs):s.n<=s.c:=by
 rcases h with⟨rfl,rfl⟩ | ⟨g,c,tail,_,_,_,_,_,h,_,_⟩<;>grind
def Own.slice(l:r.Ok)(a:Own r size e B w F s xs):SliceF r size w (λk=>F k∨(B<=k/\s.a=aM ⟨k,0,aaa⟩)) s xs:=by
 rcases a with⟨rfl,rfl⟩ | ⟨m,c,tail,h,b,d,n,f,g,j,i⟩
 ·exact SliceF.nil _ _ _ _
 exact SliceF.of (i.mono l λk hk=>.inl hk.1) h (.inr ⟨b,h⟩) (d.cells 0 _ λo v e=>acw) f g j
def Own.keep(n:r.Ok)(d:Own r size e B w F s xs)(hk:∀k,(F k∨(B<=k/\s.a=aM ⟨k,0,aaa⟩))->k<w.heap.size->w'.heap[k]? =w.heap[k]?):Own r size e B w' F s xs:=by
 rcases d with⟨rfl,rfl⟩ | ⟨g,c,tail,h,a,b,f,i,j,m,l⟩
 ·exact .inl ⟨rfl,rfl⟩
 exact .inr ⟨g,c,tail,h,a,(hk g (.inr ⟨a,h⟩) b.lt).trans b,f,i,j,m,l.keep n λk F=>hk k (.inl F.1)⟩
def Own.mono(n:r.Ok)(h:Own r size e B w F s xs)(hk:∀k,F k->G k):Own r size e B w G s xs:=by
 rcases h with⟨rfl,rfl⟩ | ⟨g,c,tail,a,b,d,f,i,j,m,l⟩
 ·exact .inl ⟨rfl,rfl⟩
 exact .inr ⟨g,c,tail,a,b,d,f,i,j,m,l.mono n λk h=>⟨hk k h.1,h.2⟩⟩
def Own.low{B'}(h:Own r size e B w F s xs)(f:B'<=B):Own r size e B' w F s xs:=by
 rcases h with⟨rfl,rfl⟩ | ⟨g,c,tail,a,b,d⟩
 ·exact .inl ⟨rfl,rfl⟩
 exact .inr ⟨g,c,tail,a,bD f b,d⟩
def Own.nil(r:Rp α) size e B w F:Own r size e B w F Sl.nil []:=.inl ⟨rfl,rfl⟩
def Own.inHeap(a:r.Ok)(h:Own r size e B w F s xs):Own r size e B w (λk=>F k/\k<w.heap.size) s xs:=by
 rcases h with⟨rfl,rfl⟩ | ⟨g,c,tail,b,d,f,i,j,l,n,m⟩
 ·exact .inl ⟨rfl,rfl⟩
 exact .inr ⟨g,c,tail,b,d,f,i,j,l,n,(m.inHeap a).mono a λk h=>⟨⟨h.1.1,h.2⟩,h.1.2⟩⟩
def Own.blk(a:Own r size e B w F s xs){ad}(h:s.a=aM ad):B<=ad.block/\ad.block<w.heap.size:=by
 rcases a with⟨rfl,rfl⟩ | ⟨g,c,tail,b,d,f,_⟩
 ·cases h
 rw[b]at h;injection h with h;subst h;exact⟨d,f.lt⟩
def SliceF.aom(h:SliceF r size w F s xs):∃c,qB r size w F xs c/\∀a,s.a=aM a->Cells w a c.flatten:=by
 cases xs with
 | nil=>exact⟨[],trivial,λb _=>Cells.nil _ _⟩
 | cons x xs=>
  obtain⟨a,c,b,d,e,f⟩:=h.flat aag
  grind
def qB.Mo{css}(h:qB r size w F xs css):I css.flatten=I xs*size:=by rw[Dg h.sz,h.len]
def qB.one(d:r.Ok){css}(a:qB r size w F xs css):∀v,v∈css.flatten->v.oneCell'=aE:=λv h=>by
 obtain⟨c,b,h⟩:=List.mem_flatten.1 h;obtain⟨x,_,e⟩:=a.mem c b;exact d.one e v h
def akR(l m:List aw) z:(l.toArray++m.toArray++z)=(l++m++z.toList).toArray:=by
 simp
section
variable {P:Program} {t ty:TypeId} {i:TypeInfo} {z:aw} {bytes:Nat}
def zv(w:av) k (J:z.cells.size=size):(Builtin.zeroCells z.cells k).toList.length=k*size:=by
 rw[mJ,size_zeroCells,J]
def Sp(B:P.underlying t=aM (.slice e))(v:P.info? e=aM i)(H:i.zero=aM z)(qv:i.size=size)(Y:i.bytes=bytes)(V:z.cells.size=size)
  (l:r.Ok) {a} (o:qB r size w F xs a) (K:∀d,s.a=aM d->Cells w d a.flatten) (M:s.a=aaa->s.c=0) (g:s.n=I xs) (h:s.n<=s.c)
  (E:SliceF r size w F y ys) (u:s.c<s.n+y.n) (A:(I xs+I ys)*bytes<=140737488355328) (T:0<bytes):
  ∃q w',(Builtin.append_ #[t,t] ty #[s.v,y.v]).run P w=.ok q.v w'/\Own r size e w.heap.size w' F q (xs++ys)/\Only [] w w'/\q.a=aM ⟨w.heap.size,0,aaa⟩:=by
 subst qv;subst Y;have Z:=bD (by have:=Nat.mul_le_mul_left (I xs+I ys) T;omega) A;have C:=E.len;have n:y.n≠0:=J
 have m:ys≠[]:=λj=>n (by rw[C,j];rfl);obtain⟨R,x,L,m2,p,N⟩:=E.flat m;obtain⟨sa,sn,sc⟩:=s;obtain⟨ya,f,S⟩:=y;dsimp only at g h M C n u L K;subst L;have am:∀gY D,gY=sn+f->∀W,W=w.drew.alloc (.cells (a.flatten.toArray++x.flatten.toArray++Builtin.zeroCells z.cells (grownCap w gY D e-gY)) e)->
   Own r i.size e w.heap.size W F ⟨aM ⟨w.heap.size,0,aaa⟩,gY,grownCap w gY D e⟩ (xs++ys)/\Only [] w W:=by
  rintro gY D rfl W rfl;have b:Only [] w (w.drew.alloc (.cells (a.flatten.toArray++x.flatten.toArray++Builtin.zeroCells z.cells (grownCap w (sn+f) D e-(sn+f))) e)):=(Only.drew w).cd (Only.alloc _ _);refine⟨.inr ⟨w.heap.size,a++x,(Builtin.zeroCells z.cells _).toList,rfl,aX _,?_,zv w _ V,?_,grownCap_ge _ _ _ _,grownCap_le_maxLen _ _ _ _ (by simp[maxLen];omega),?_⟩,b⟩
  ·rw[akR,Jq];exact Blk.alloc w.drew e _
  ·simp;omega
  refine((qB.mono l (qB.inHeap l (iI.vN o p)) (G:=λk=>F k/\k≠w.heap.size) λk j=>⟨j.1,J⟩)).keep l λk hk c=>b.block k c aag
 rcases sa with _|b
 ·have h:=M rfl;subst h;have b:sn=0:=J
  subst b;have k:=bH g.symm;subst k;cases a with
  | cons c a=>exact o.elim
  | nil=>
   have c:=run_append_nil (P:=P) w t ty e i z B v H R f S x.flatten (by rw[p.Mo,C]) N J J acw
   grind
 have c:=run_append_grow (P:=P) w t ty e i z B v H b sn sc a.flatten (by rw[o.Mo,g]) (K b rfl) R f S x.flatten (by rw[p.Mo,C]) N u J (growslice_fits u (by rw[g,C];exact A))
 grind
def Vb(z:P.underlying t=aM (.slice e))(p:P.info? e=aM i)(M:i.size=size)
  (v:r.Ok) {g} {css} {tail} (l:s.a=aM ⟨g,0,aaa⟩) (K:B<=g) (d:Blk w g e (css.flatten++tail)) (G:I tail=(s.c-s.n)*size) (q:s.n=I xs) (o:s.n<=s.c) (h:s.c<=9223372036854775807)
  (E:qB r size w (λk=>F k/\k≠g) xs css) (f:SliceF r size w (λk=>F k/\k≠g) y ys) (u:s.n+y.n<=s.c):
  ∃w',(Builtin.append_ #[t,t] ty #[s.v,y.v]).run P w=.ok (Sl.v ⟨s.a,s.n+y.n,s.c⟩) w'/\Own r size e B w' F ⟨s.a,s.n+y.n,s.c⟩ (xs++ys)/\Only [g] w w':=by
 subst M;have C:=f.len;obtain⟨R,sn,sc⟩:=s;obtain⟨b,n,D⟩:=y;dsimp only at l q o G u C;subst l;obtain⟨a,m,L⟩:=f.aom;have N:I css.flatten=sn*i.size:=by rw[E.Mo,q]
 have A:I a.flatten=n*i.size:=by rw[m.Mo,C]
 have S:sn*i.size+n*i.size<=sn*i.size+I tail:=by
  rw[G,<-jb,<-jb];exact fu _ J
 have H:(Builtin.append_ #[t,t] ty #[.slice (aM ⟨g,0,aaa⟩) sn sc,.slice b n D]).run P w=
   .ok (.slice (aM ⟨g,0,aaa⟩) (sn+n) sc) (w.setRow g ((css.flatten++a.flatten)++tail.drop (n*i.size)).toArray):=by
  have r:((css.flatten++tail).toArray.toList.take (sn*i.size)++a.flatten++(css.flatten++tail).toArray.toList.drop (sn*i.size+I a.flatten))=(css.flatten++a.flatten)++tail.drop (n*i.size):=by simp[mL,N,List.take_left,A,List.drop_append,List.drop_eq_nil_of_le,bR,dN]
  cases b with
  | some b=>
   have:=run_append_room (P:=P) w t ty e i z p g sn sc (css.flatten++tail).toArray d b n D a.flatten A (L b rfl) (m.one v) u acw;rw[this,r]
  | none=>
   have k:ys=[]:=by
    cases ys with
    | nil=>rfl
    | cons x xs=>obtain⟨_,_,c,_⟩:=f.at_ 0 x rfl;cases c
   subst k;have y:=by simpa using C
   subst y;cases a with
   | cons c s=>exact m.elim
   | nil=>
    have B:w.setRow g ((css.flatten++([]).flatten)++tail.drop (0*i.size)).toArray=w:=by
     have:=setRow_self w g (css.flatten++tail).toArray e _ d;simpa using this
    rw[B];simp[Builtin.append_,run_underlying z,sizeOf,typeInfo,p,Builtin.lenOf,Builtin.firstCells,o,storeCells]
 have j:Only [g] w (w.setRow g ((css.flatten++a.flatten)++tail.drop (n*i.size)).toArray):=Only.setRow _ _ _;refine⟨_,H,.inr ⟨g,css++a,tail.drop (n*i.size),rfl,K,?_,?_,?_,u,h,?_⟩,j⟩
 ·rw[Jq];exact d.setRow _
 ·rw[cJ,G,<-Nat.sub_mul];congr 1;dsimp only;omega
 ·grind
 exact qB.keep v (iI.vN E m) λk hk c=>j.block k c aeV
def qO(j:P.underlying t=aM (.slice e))(f:P.info? e=aM i)(p:i.zero=aM z)(q:i.size=size)(T:i.bytes=bytes)(m:z.cells.size=size)
  (c:r.Ok) (d:Own r size e B w F s xs) (l:SliceF r size w (λk=>F k/\s.a≠aM ⟨k,0,aaa⟩) y ys) (n:B<=w.heap.size) (o:(I xs+I ys)*bytes<=140737488355328) (C:0<bytes):
  ∃a w',(Builtin.append_ #[t,t] ty #[s.v,y.v]).run P w=.ok a.v w'/\Own r size e B w' F a (xs++ys)/\∃b,Only b w w'/\(∀g,g∈b->s.a=aM ⟨g,0,aaa⟩/\B<=g/\g<w.heap.size)/\(a.a=s.a∨a.a=aM ⟨w.heap.size,0,aaa⟩):=by
 by_cases u:s.n+y.n<=s.c
 ·rcases d with⟨rfl,rfl⟩ | ⟨g,s,tail,e,i,r,t,v,x,A,z⟩
  ·have h:=by simpa using u
   have k:=by have:=l.len;rw[h]at this;exact bH this.symm
   subst k;refine⟨Sl.nil,w,?_,.inl ⟨rfl,rfl⟩,[],Only.refl _ _,aag,.inl rfl⟩;obtain⟨B,E,D⟩:=y;dsimp only at h;subst h;cases B<;>simp[Builtin.append_,run_underlying j,sizeOf,typeInfo,f,Builtin.lenOf,Builtin.firstCells,loadCells,loadCellsFrom]
  obtain⟨w',w,y,k3⟩:=Vb (ty:=ty) j f q c e i r t v x A z (l.mono c λk hk=>⟨hk.1,λh=>hk.2 (by rw[h,e])⟩) u;exact⟨_,w',w,y,[g],k3,λB E=>by simp at E;subst E;exact⟨e,i,r.lt⟩,.inl rfl⟩
 have H:=d.len;have z:=d.cap;have A:SliceF r size w F y ys:=l.mono c λk hk=>hk.1;have go:∀x,qB r size w F xs x->(∀i,s.a=aM i->Cells w i x.flatten)->(s.a=aaa->s.c=0)->
   ∃a w',(Builtin.append_ #[t,t] ty #[s.v,y.v]).run P w=.ok a.v w'/\Own r size e B w' F a (xs++ys)/\∃b,Only b w w'/\(∀g,g∈b->s.a=aM ⟨g,0,aaa⟩/\B<=g/\g<w.heap.size)/\(a.a=s.a∨a.a=aM ⟨w.heap.size,0,aaa⟩):=by
  intro x V W k3;obtain⟨a,w',h,k,v,S⟩:=Sp (ty:=ty) j f p q T m c V W k3 H z A J o C;exact⟨a,w',h,k.low n,[],v,aag,.inr S⟩
 rcases d with⟨rfl,rfl⟩ | ⟨g,x,tail,D,K,E,L,M,N,R,G⟩
 ·exact go [] trivial (λ_ h=>aal) (λ_=>rfl)
 refine go x (G.mono c λk hk=>hk.1) (λi e=>?_) (λh=>by rw[D]at h;cases h);rw[D]at e;injection e with e;subst e;exact E.cells 0 _ λs v r=>by
  rw[bP,bX (bc.1 r).1];exact r
def Dh w (b:P.underlying t=aM (.slice e)) (a:P.info? e=aM i):(Instr.buildSlice t 0 #[]).run P w=.ok (.slice (aM ⟨w.heap.size,0,aaa⟩) 0 0) (w.alloc (.cells #[] e)):=by
 have h:Array.map (λ_=>(default:aw)) (Array.range 0)=#[]:=Array.ext' aag;simp[Instr.buildSlice,run_underlying b,sizeOf,typeInfo,a,Instr.fill,newRow,h]
def kz(j:P.underlying t=aM (.slice e))(f:P.info? e=aM i)(n:i.zero=aM z)(q:i.size=size)(h:0<size){vs:List aw}{len}{parts}
  (p:parts=((vs.zipIdx 0).map λx=>(x.2,x.1)).toArray) (g:I vs=len) (l:0<len) (o:len*size<=16777216)
  (b:r.Ok) (E:qB r size w F xs (vs.map λv=>v.cells.toList)):
  ∃s w',(Instr.buildSlice t len parts).run P w=.ok (Sl.v s) w'/\Own r size e w.heap.size w' F s xs/\Only [] w w'/\s.a=aM ⟨w.heap.size,0,aaa⟩/\s.n=I xs/\s.c=I xs:=by
 subst q;subst p;subst g;have a:=by have:=E.len;rwa[bK]at this
 have c:=λv m=>by
  have:=E.sz _ (dv.2 ⟨v,m,rfl⟩);simpa using this
 have B:=run_buildSlice (P:=P) w t e (I vs) ((vs.zipIdx 0).map λx=>_).toArray (vs.flatMap λv=>v.cells.toList).toArray i z j f n J
  (by have:=Nat.mul_lt_mul_of_pos_left h l;omega)
  (by rw[mL];exact Go.Great.fill_whole h vs _ c aag)
 have d:Only [] w (w.alloc (.cells (vs.flatMap λv=>v.cells.toList).toArray e)):=Only.alloc _ _;refine⟨⟨aM _,I vs,I vs⟩,_,B,.inr ⟨w.heap.size,vs.map (λv=>v.cells.toList),[],rfl,aX _,?_,aag,a.symm,aX _,?_,?_⟩,d,rfl,a.symm,a.symm⟩
 ·rw[bE];exact Blk.alloc w e _
 ·have:I vs<=I vs*i.size:=Nat.le_mul_of_pos_right _ h;dsimp only;omega
 exact((qB.mono b (qB.inHeap b E) (G:=λk=>F k/\k≠w.heap.size) λk i=>⟨i.1,J⟩)).keep b λk hk e=>d.block k e aag
end
end
def nq:Rp UInt8:=λ_ _ b c=>c=[iT b]
def tH:nq.Ok where
 keep h _:=h
 inHeap h:=h
 mono h _:=h
 one h v hv:=by
  rw[show _=[iT _]from h]at hv;simp at hv;subst hv;rfl
def BytesF.slice{w}{F}{s}{l}(h:BytesF w F s l)(a:s.a=aaa->s.c=0)(b:s.c<=9223372036854775807):SliceF nq 1 w F s l:=
 ⟨h.rd.1,h.cap,a,b,λj x hx=>by
  have d:l≠[]:=λe=>by rw[e]at hx;simp at hx
  obtain⟨ad,c,f⟩:=h.rd.2 d;exact⟨ad,[iT x],c,h.blk ad c d,rfl,by rw[rm];exact f.dP j _ ahN,rfl⟩⟩
def SliceF.bytes{w}{F}{s}{l}(h:SliceF nq 1 w F s l):BytesF w F s l:=
 ⟨⟨h.len,λa=>by
  obtain⟨e,s,d,f,g,i⟩:=h.flat a;refine⟨e,d,?_⟩;have:∀l s,qB nq 1 w F l s->s.flatten=l.map iT:=by
   intro l
   induction l with
   | nil=>intro s h;cases s with
    | nil=>rfl
    | cons c b=>exact h.elim
   | cons b l k=>intro s h;cases s with
    | nil=>exact h.elim
    | cons c m=>
     obtain⟨⟨_,d⟩,f⟩:=h;rw[eH,k m f,show c=[iT b]from d];rfl
  rw[<-this l s g];exact i⟩,h.cap,λad j a=>by
   obtain⟨e,s,d,f,_⟩:=h.flat a;rw[j]at d;injection d with d;rw[d];exact f⟩
def gL:Rp Int:=λ_ _ x c=>c=[.int .i64 x]/\tn x
def cp:gL.Ok where
 keep h _:=h
 inHeap h:=h
 mono h _:=h
 one h v hv:=by
  rw[h.1]at hv;simp at hv;subst hv;rfl
structure OnlyP (F:Nat->Prop) (w w':av):Prop where
 os:w'.os=w.os
 tape:w'.tape=w.tape
 output:w'.output=w.output
 size:w.heap.size<=w'.heap.size
 block:∀k,k<w.heap.size->¬F k->w'.heap[k]? =w.heap[k]?
section
variable {w w' vO:av} {F G:Nat->Prop} {bs:List Nat}
def Only.p(h:Only bs w w')(a:∀b,b∈bs->F b∨w.heap.size<=b):OnlyP F w w':=
 ⟨h.os,h.tape,h.output,h.size,λk hk n=>h.block k hk λm=>(a k m).elim n λh=>J⟩
def Only.p0(h:Only [] w w'):OnlyP F w w':=h.p aag
def OnlyP.refl F w:OnlyP F w w:=(Only.refl [] w).p0
def OnlyP.mono(h:OnlyP F w w')(b:∀k,k<w.heap.size->F k->G k):OnlyP G w w':=⟨h.os,h.tape,h.output,h.size,λk hk n=>h.block k hk λf=>n (b k hk f)⟩
def OnlyP.trans(h:OnlyP F w w')(k:OnlyP G w' vO)(b:∀k,G k->F k∨w.heap.size<=k):OnlyP F w vO:=
 ⟨k.os.trans h.os,k.tape.trans h.tape,k.output.trans h.output,bD h.size k.size,λi a n=>
  (k.block i (cV a h.size) λg=>(b i g).elim n λh=>J).trans (h.block i a n)⟩
def OnlyP.cd(h:OnlyP F w w')(k:Only [] w' vO):OnlyP F w vO:=h.trans (k.p0 (F:=λ_=>False)) λ_ h=>h.elim
def Only.qz(h:Only [] w w')(k:OnlyP F w' vO):OnlyP F w vO:=(h.p0 (F:=F)).trans k λ_ h=>.inl h
def OnlyP.only(h:OnlyP F w w')(b:∀k,F k->w.heap.size<=k):Only [] w w':=
 ⟨h.os,h.tape,h.output,h.size,λk hk _=>h.block k hk λf=>by have:=b k f;omega⟩
def OnlyP.aon(h:OnlyP F w w')(b:∀k,F k->k∈bs∨w.heap.size<=k):Only bs w w':=
 ⟨h.os,h.tape,h.output,h.size,λk hk n=>h.block k hk λf=>(b k f).elim n λh=>J⟩
def OnlyP.same(b:OnlyP F w w')(h:∀x,x∈bs->x<w.heap.size/\¬F x):cu bs w w':=λx a=>b.block x (h x a).1 (h x a).2
def OnlyP.blk(a:OnlyP F w w'){b}{t}{cs}(h:Blk w b t cs)(n:¬F b):Blk w' b t cs:=(a.block b h.lt n).trans h
end
section
variable {α:Type} {r:Rp α} {size:Nat} {w w':av} {F G:Nat->Prop} {s:Sl} {xs:List α} {e:TypeId} {B:Nat} {bs:List Nat}
def SliceF.only(f:r.Ok)(a:0<size)(h:SliceF r size w F s xs)(d:Only bs w w')(e:∀k,F k->k<w.heap.size->k∉bs):SliceF r size w' F s xs:=
 h.keep f a λk c b=>d.block k b (e k c b)
def SliceF.kU(f:r.Ok)(a:0<size)(h:SliceF r size w F s xs)(d:OnlyP G w w')(e:∀k,F k->k<w.heap.size->¬G k):SliceF r size w' F s xs:=
 h.keep f a λk c b=>d.block k b (e k c b)
def Rp.Ok.only(e:r.Ok){x}{cs}(h:r w F x cs)(c:Only bs w w')(d:∀k,F k->k<w.heap.size->k∉bs):r w' F x cs:=e.keep h λk a b=>c.block k b (d k a b)
def qB.at(h:∃c,qB r size w F xs c):True:=trivial
def qB.setAt{css}(h:qB r size w F xs css) j {x} {c} (a:I c=size) (b:r w F x c):qB r size w F (xs.set j x) (css.set j c):=iI.set j h ⟨a,b⟩
def JX{s:List _}{tail}:∀{n:Nat} {a v:List aw},(∀c,c∈s->I c=size)->s[n]? =aM a->I v=size->
  fE (s.flatten++tail) (n*size) v=(s.set n v).flatten++tail:=by
 induction s with
 | nil=>intro n a v _ h;simp at h
 | cons c s i=>
  intro n a v h b f;have g:=h c aag;cases n with
  | zero=>
   simp[fE];simp_all
  | succ n=>
   have:=i (λd hd=>h d (by simp[hd])) b f;have e:(n+1)*size=I c+n*size:=acw
   simp only[fE]at this⊢;simp;rw[e,aan,dM,<-this];simp
end
section
variable {α:Type} {r:Rp α} {size:Nat} {w w':av} {F G:Nat->Prop} {s:Sl} {xs:List α} {e:TypeId} {B:Nat} {P:Program} {t ty:TypeId} {i:TypeInfo} {z v:aw} {bytes:Nat} {x:α}
def kj(q:P.underlying t=aM (.slice e))(p:P.info? e=aM i)(u:i.zero=aM z)(A:i.size=size)(T:i.bytes=bytes)(J:z.cells.size=size)(M:0<size)(C:0<bytes)(xI:1*size<=16777216)
  (h:r.Ok) (n:Own r size e B w F s xs) (N:B<=w.heap.size) (S:I v.cells.toList=size) (V:r w G x v.cells.toList) (o:∀k,G k->k<w.heap.size->F k/\s.a≠aM ⟨k,0,aaa⟩) (R:(I xs+1)*bytes<=140737488355328):
  ∃y a,(Instr.buildSlice t 1 #[(0,v)]).run P w=.ok (Sl.v y) a/\Only [] w a/\∃b c,(Builtin.append_ #[t,t] ty #[Sl.v s,Sl.v y]).run P a=.ok (Sl.v b) c/\
   Own r size e B c (λk=>F k∨w.heap.size<=k) b (xs++[x])/\(∃f,Only f a c/\∀g,g∈f->s.a=aM ⟨g,0,aaa⟩/\B<=g/\g<w.heap.size)/\(b.a=s.a∨∃g,b.a=aM ⟨g,0,aaa⟩/\w.heap.size<=g):=by
 obtain⟨y,a,Y,k2,k3,k4,k5,k6⟩:=kz (P:=P) (t:=t) (e:=e) (i:=i) (z:=z) (w:=w) (F:=λk=>G k/\k<w.heap.size) (vs:=[v]) (parts:=#[_]) (len:=1) (xs:=[x]) (r:=r) (size:=size) q p u A M rfl rfl Z xI h ⟨⟨S,h.inHeap V⟩,trivial⟩;have E:Own r size e B a (λk=>F k∨w.heap.size<=k) s xs:=((n.inHeap h).keep h λk _ d=>k3.block k d aag).mono h λk hk=>.inl hk.1;have W:=(k2.slice h).mono h (G:=λk=>(F k∨w.heap.size<=k)/\s.a≠aM _) λk hk=>by
  rcases hk with⟨hk,d⟩ | ⟨hk,_⟩
  ·exact⟨.inl (o k hk d).1,(o k hk d).2⟩
  exact⟨.inr hk,λe=>by have:=(n.blk e).2;dsimp only at this;omega⟩
 obtain⟨b,c,D,H,f,K,j,L⟩:=qO (ty:=ty) q p u A T J h E W (bD N k3.size) R C;refine⟨y,a,Y,k3,b,c,D,H,⟨f,K,λg m=>⟨(j g m).1,(j g m).2.1,(n.blk (j g m).1).2⟩⟩,?_⟩;rcases L with l | l
 ·exact .inl l
 exact .inr ⟨_,l,k3.size⟩
def Own.store(a:r.Ok)(o:Own r size e B w F s xs){n}(m:n<I xs){x}{vs}(v:I vs=size)(p:r w G x vs)(u:∀k,G k->k<w.heap.size->F k/\s.a≠aM ⟨k,0,aaa⟩)(q:0<size):
  ∃g cells,s.a=aM ⟨g,0,aaa⟩/\cR s n size ⟨g,n*size,aaa⟩/\Blk w g e cells/\n*size+size<=I cells/\
   ∀w',Only [g] w w'->Blk w' g e (fE cells (n*size) vs)->Own r size e B w' F s (xs.set n x):=by
 rcases o with⟨rfl,rfl⟩ | ⟨g,c,tail,b,d,f,i,t,j,l,h⟩
 ·simp at m
 have E:=h.len;have e:n<I c:=J
 have x:=Dg h.sz;have D:=by
  have:=fu size (show n+1<=(I c) by omega);rw[jb]at this;omega
 refine⟨g,_,b,⟨_,b,J,J,by rw[gC,aW,bP]⟩,f,acw,λw' r s=>.inr ⟨g,c.set n vs,tail,b,d,?_,i,acw,j,l,?_⟩⟩
 ·rw[JX h.sz (bf e) v]at s;exact s
 refine qB.setAt (h.keep a λk hk y=>r.block k y aeV) n v (a.keep (w:=w) (F:=λk=>F k/\k≠g) ?_ λk hk y=>r.block k y aeV);refine a.mono (a.inHeap p) λk hk=>?_
 grind
def Sq(b:P.underlying t=aM (.slice e))(h:P.info? e=aM i)(r:Rp α) size w F:
  ∃y a,(Instr.buildSlice t 0 #[]).run P w=.ok (Sl.v y) a/\Own r size e w.heap.size a F y []/\Only [] w a:=
 ⟨⟨aM _,0,0⟩,_,Dh w b h,.inr ⟨w.heap.size,[],[],rfl,aX _,Blk.alloc w e [],aag,rfl,aX _,be _,trivial⟩,Only.alloc _ _⟩
end
def Own.aoo{α}{r}{size}{w}{F}{s}{xs}{e}{B}(b:r.Ok)(p:Own r size e B w F s xs){n:Nat}{x:α}(f:xs[n]? =aM x):
  ∃g cells c,s.a=aM ⟨g,0,aaa⟩/\cR s n size ⟨g,n*size,aaa⟩/\Blk w g e cells/\I c=size/\Cells w ⟨g,n*size,aaa⟩ c/\r w (λk=>F k/\k≠g) x c/\
   ∀off v y G,off<size->r w G y (c.set off v)->(∀k,G k->k<w.heap.size->F k/\k≠g)->
    n*size+off+1<=I cells/\∀k,Only [g] w k->Blk k g e (fE cells (n*size+off) [v])->Own r size e B k F s (xs.set n y):=by
 rcases p with⟨rfl,rfl⟩ | ⟨g,a,tail,d,j,i,l,q,m,o,h⟩
 ·simp at f
 obtain⟨c,s,z,k3⟩:=h.get f;have E:=h.len;have B:=(bc.1 f).1;have t:=Dg h.sz;have D:=by
  have:=fu size (show n+1<=(I a) by omega);rw[jb]at this;omega
 refine⟨g,_,c,d,⟨_,d,J,J,by rw[gC,aW,bP]⟩,i,z,i.cells _ _ λC v u=>?_,k3,λoff v y A w x G=>⟨acw,λF e r=>.inr ⟨g,a.set n (c.set off v),tail,d,j,?_,l,acw,m,o,?_⟩⟩⟩
 ·have:=O7 h.sz s u
  grind
 ·rw[yC acw,JW h.sz s w]at r;exact r
 refine qB.setAt (h.keep b λk hk v=>e.block k v aeV) n acw ?_;refine b.mono (b.keep (b.inHeap x) λk hk v=>e.block k v acw) λk hk=>G k hk.1 hk.2
def iI.aop{α β}{P}{f:α->β}:∀{xs:List α} {css:List _},iI P (xs.map f) css↔iI (λx s=>P (f x) s) xs css
 | [],[]=>Iff.rfl
 | x::xs,c::s=>by simp[iI,iI.aop (xs:=xs) (css:=s)]
 | [],_::_=>Iff.rfl
 | _::_,[]=>Iff.rfl
def iI.TM{α}{P Q}:∀{xs:List α} {css:List _},(∀x c,x∈xs->P x c->Q x c)->iI P xs css->iI Q xs css
 | [],[],_,_=>trivial
 | x::xs,c::s,i,h=>⟨i _ _ aag h.1,iI.TM (xs:=xs) (css:=s) (λy d hy=>i y d ahV) h.2⟩
 | [],_::_,_,h=>h.elim
 | _::_,[],_,h=>h.elim
def Own.map{α β}{r:Rp α}{q:Rp β}{size}{w}{F G}{s}{xs}{e}{B} f (h:Own r size e B w F s xs) (p:∀g x b,x∈xs->r w (λk=>F k/\k≠g) x b->q w (λk=>G k/\k≠g) (f x) b):Own q size e B w G s (xs.map f):=by
 rcases h with⟨rfl,rfl⟩ | ⟨g,a,tail,d,i,j,l,t,m,o,n⟩
 ·exact .inl ⟨rfl,rfl⟩
 exact .inr ⟨g,a,tail,d,i,j,l,acw,m,o,iI.aop.2 (iI.TM (λx c f e=>⟨e.1,p g x c f e.2⟩) n)⟩
section
variable {P:Program} {w:av}
def Fq{z}(e:∀v,v∈z->v.oneCell'=aE)(a:0<z.size) n:∀v,v∈(Builtin.zeroCells z n).toList->v.oneCell'=aE:=λv d=>by
 have h:=J
 simp[Builtin.zeroCells]at h;obtain⟨i,c,rfl⟩:=h;have b:i % z.size<z.size:=Nat.mod_lt _ a
 grind
def Fs{t e ty}{z}(d:P.underlying t=aM (.slice e))(f:∀w,(zeroValue e).run P w=.ok z w)(a:∀v,v∈z.cells->v.oneCell'=aE)(h:0<z.cells.size){g o n c}{bt}{cs}(i:0<n)
  (b:Blk w g bt cs) (T:o+n*z.cells.size<=I cs):
  (Builtin.clear_ #[t] ty #[.slice (aM ⟨g,o,aaa⟩) n c]).run P w=.ok (.tuple #[]) (w.setRow g (cs.take o++(Builtin.zeroCells z.cells n).toList++cs.drop (o+n*z.cells.size)).toArray):=by
 have l:(Builtin.zeroCells z.cells n).toList.length=n*z.cells.size:=by rw[mJ,size_zeroCells]
 have k:=run_storeCells_at P g o bt (Builtin.zeroCells z.cells n).toList 0 cs.toArray w b acw (Fq a h n);simp[l]at k;obtain⟨m,rfl⟩:∃m,n=m+1:=⟨n-1,J⟩
 simp[Builtin.clear_,run_underlying d,f,k]
def Own.clear{α}{r:Rp α}{size}{F}{s}{xs}{e}{B}{t ty}{z}(A:r.Ok)(G:0<size)(D:P.underlying t=aM (.slice e))(E:∀w,(zeroValue e).run P w=.ok z w)(u:∀v,v∈z.cells->v.oneCell'=aE)(y:z.cells.size=size)
  (C:Own r size e B w F s xs) {i} (x:i<I xs):
  ∃d g,(Builtin.clear_ #[t] ty #[Sl.v (Sl.cut s i s.n s.c size)]).run P w=.ok (.tuple #[]) d/\s.a=aM ⟨g,0,aaa⟩/\Only [g] w d/\Own r size e B d F (Sl.cut s 0 i s.c size) (xs.take i):=by
 rcases C with⟨rfl,rfl⟩ | ⟨g,a,tail,f,p,h,j,l,q,m,b⟩
 ·simp at x
 obtain⟨K,sn,sc⟩:=s;dsimp only at f j l q m;subst f;have v:=b.Mo;have Y:Sl.cut ⟨aM ⟨g,0,aaa⟩,sn,sc⟩ i sn sc size=⟨aM ⟨g,i*size,aaa⟩,sn-i,sc-i⟩:=by
  simp[Sl.cut];rw[aP J];simp[gC]
 have F:i*size+(sn-i)*size=sn*size:=by rw[<-jb];congr 1;omega
 have B:=Only.setRow w g (((a.flatten++tail).take (i*size)++(Builtin.zeroCells z.cells (sn-i)).toList++(a.flatten++tail).drop (i*size+(sn-i)*z.cells.size)).toArray);refine⟨_,g,by rw[Y];exact Fs (P:=P) (w:=w) (t:=t) (ty:=ty) D E u J (g:=g) (o:=i*size) (n:=sn-i) (c:=sc-i) J h acw,rfl,B,?_⟩;have e:Sl.cut ⟨aM ⟨g,0,aaa⟩,sn,sc⟩ 0 i sc size=⟨aM ⟨g,0,aaa⟩,i,sc⟩:=by simp[Sl.cut,Addr.add]
 rw[e];have H:(a.flatten++tail).take (i*size)=(a.take i).flatten:=by
  rw[U0 acw,Sn b.sz]
 refine .inr ⟨g,a.take i,(Builtin.zeroCells z.cells (sn-i)).toList++(a.flatten++tail).drop (i*size+(sn-i)*z.cells.size),rfl,p,?_,?_,?_,abI,m,?_⟩
 ·have:=h.setRow ((a.flatten++tail).take (i*size)++(Builtin.zeroCells z.cells (sn-i)).toList++(a.flatten++tail).drop (i*size+(sn-i)*z.cells.size))
  grind
 ·simp only[aQ,cJ,v,<-l,mJ,size_zeroCells,j,y,F];rw[dN,<-jb];congr 1;omega
 ·rw[cx];dsimp only;omega
 refine qB.keep A (iI.take i b) λk hk c=>B.block k c aeV
end
def ads l m:((⟨List.toArray l⟩:ByteArray).toList==(⟨List.toArray m⟩:ByteArray).toList)=decide (l=m):=by
 by_cases h:l=m<;>simp[h]
end Go.Kt
namespace Go.Kt
open Go renaming World->av,Value->aw
open Go Go.RowKit Go.MapKept
structure MapI (w:av) (r:Nat) (m:Int->Option Int):Prop where
 mem:∃es clock,w.heap[r]? =aM (.map es clock)/\(∀x,x∈es.toList->∃k v,x.key=.int .i64 k/\x.val=.int .i64 v)/\es.toList.Pairwise (λx y=>x.key≠y.key)/\
  ∀k v,m k=aM v↔∃x,x∈es.toList/\x.key=.int .i64 k/\x.val=.int .i64 v
section
variable {P:Program} {w w':av} {r:Nat} {m:Int->Option Int} {mty kt et:TypeId}
def MapI.keep(h:MapI w r m)(hk:w'.heap[r]? =w.heap[r]?):MapI w' r m:=by
 obtain⟨e,c,a,b⟩:=h.mem;exact⟨e,c,hk.trans a,b⟩
def MapI.lt(h:MapI w r m):r<w.heap.size:=by
 obtain⟨e,c,a,b⟩:=h.mem;exact(iQ.1 a).1
def MapI.only(h:MapI w r m){bs}(a:Only bs w w')(n:r∉bs):MapI w' r m:=h.keep (a.block r h.lt n)
def JY{w}{r}{o o'}(h:w.heap[r]? =aM o):Only [r] w {w with heap:=w.heap.setIfInBounds r o'}:=
 ⟨rfl,rfl,rfl,aag,λk _ hn=>(heap_set h).2 k adK⟩
def Nl{a:Type}{l:List a}{j}{f}{e}(h:l[j]? =aM e):l.modify j f=l.set j (f e):=by
 apply oe;intro i;rw[List.getElem?_modify,O3];by_cases x:j=i
 ·subst x;rw[aV rfl,aV (bc.1 h).1,h];simp
 cases l[i]? <;>simp[x]
end
end Go.Kt
namespace Go.Kt
open Go renaming World->av,Value->aw
open Go Go.RowKit
@[reducible] def T(l:List UInt8):ByteArray:=⟨l.toArray⟩
def JZ(s:ByteArray):s=T s.data.toList:=by
 obtain⟨⟨l⟩⟩:=s;rfl
def cM(l:List UInt8):(T l).size=I l:=by simp[T,ByteArray.size]
def oh(l:List UInt8)(i:Nat):(T l)[i]? =l[i]? :=by
 by_cases h:i<I l
 ·rw[bf h,getElem?_pos (T l) i (by rw[cM];exact h)];rfl
 rw[dG J,getElem?_neg (T l) i (by rw[cM];exact h)]
def wa(l:List UInt8)(a b:Nat):(T l).extract a b=T ((l.drop a).take (b-a)):=by
 rw[JZ ((T l).extract a b),Lib.extract_data]
def fJ(l m:List UInt8):T l++T m=T (l++m):=by
 apply ByteArray.ext;simp[T]
def iv(l m:List UInt8):((T l).toList==(T m).toList)=decide (l=m):=ads l m
def xO(u:Nat->aw):List (Nat×aw)->Nat->aw
 | [],i=>u i
 | (k,v)::r,i=>bif Nat.beq k i then v else xO u r i
def BO:List (Nat×aw)->Nat->Option aw
 | [],_=>aaa
 | (k,v)::r,i=>bif Nat.beq k i then aM v else BO r i
def tab(u:Nat->aw)(l:List (Nat×aw)):Nat->Nat->List aw
 | 0,_=>[]
 | n+1,i=>xO u l i::tab u l n (i+1)
def fr(n:Nat)(u:Nat->aw)(l:List (Nat×aw)):Act:=⟨(tab u l n 0).toArray,[]⟩
def evO(n:Nat)(l:List (Nat×aw)):Operand->Option aw
 | .tmp k=>bif Nat.blt k n then BO l k else aaa
 | .const v=>aM v
 | .global g=>aM (.pointer (aM ⟨g,0,aaa⟩))
 | .func f=>aM (.func (.func f) #[] #[])
def pl:Option Tmp->aw->List (Nat×aw)->List (Nat×aw)
 | some k,v,l=>(k,v)::l
 | none,_,l=>l
def Hq:Nat->List aw->List (Nat×aw)
 | _,[]=>[]
 | i,v::r=>(i,v)::Hq (i+1) r
section
variable {n0:Nat} {us0:Nat->aw} {l0:List (Nat×aw)}
def qQ(u:Nat->aw)(l:List (Nat×aw)):∀n i,I (tab u l n i)=n
 | 0,_=>rfl
 | n+1,i=>by simp only[tab,aY,qQ u l n (i+1)]
def pR(u:Nat->aw)(l:List (Nat×aw)):∀n i k,k<n->(tab u l n i)[k]? =aM (xO u l (i+k))
 | 0,_,_,h=>J
 | n+1,i,0,_=>rfl
 | n+1,i,k+1,h=>by
  simp only[tab,cY];rw[pR u l n (i+1) k J,show i+1+k=i+(k+1) by omega]
def xi{u:Nat->aw}:∀{l:List (Nat×aw)} {k:Nat} {v:aw},BO l k=aM v->xO u l k=v
 | [],_,_,h=>aal
 | (j,a)::r,k,v,h=>by
  simp only[BO,xO]at h⊢;cases b:Nat.beq j k
  ·rw[b]at h;exact xi (l:=r) acs
  rw[b]at h;simpa using h
def Hr{u:Nat->aw}:∀{l:List (Nat×aw)} {k:Nat},BO l k=aaa->xO u l k=u k
 | [],_,_=>rfl
 | (j,a)::r,k,h=>by
  simp only[BO,xO]at h⊢;cases b:Nat.beq j k
  ·rw[b]at h;exact Hr (l:=r) acs
  rw[b]at h;simp at h
def Vd{k:Nat}(hk:k<n0):(fr n0 us0 l0).eval (.tmp k)=xO us0 l0 k:=by
 show(tab us0 l0 n0 0).toArray.getD k undef=_;rw[Array.getD_eq_getD_getElem?,E7,pR _ _ _ _ _ hk,bP];rfl
def evE{x:Operand}{v:aw}(h:evO n0 l0 x=aM v):(fr n0 us0 l0).eval x=v:=by
 cases x with
 | tmp k=>
  simp only[evO]at h;cases b:Nat.blt k n0
  ·rw[b]at h;cases h
  rw[b]at h;rw[Vd (dH b)];exact xi h
 | const u=>simpa[evO,Act.eval]using h
 | global g=>simpa[evO,Act.eval]using h
 | func f=>simpa[evO,Act.eval]using h
def zw{u:Nat->aw}{l:List (Nat×aw)}{k i:Nat}{v:aw}(h:k≠i):xO u ((k,v)::l) i=xO u l i:=by
 have:Nat.beq k i=aL:=by
  cases b:Nat.beq k i
  ·rfl
  exact absurd (dj b) h
 simp only[xO,this,cond_false]
def zx{u:Nat->aw}{l:List (Nat×aw)}{k:Nat}{v:aw}:xO u ((k,v)::l) k=v:=by
 simp only[xO,Nat.beq_refl,cond_true]
def akS{k:Nat}{v:aw}:(fr n0 us0 l0).put (aM k) v=fr n0 us0 ((k,v)::l0):=by
 unfold fr;rw[f0];congr 2;apply oe;intro i;rw[O3,qQ];by_cases h:i<n0
 ·rw[pR _ _ _ _ _ h,pR _ _ _ _ _ h,bP];split
  ·rename_i a;subst a;rw[aV h,zx]
  rename_i a;rw[zw a]
 rw[dG (by rw[qQ];omega),dG (by rw[qQ];omega)];split
 ·rename_i a;subst a;rw[aP h]
 rfl
def asd{d:Option Tmp}{v:aw}:(fr n0 us0 l0).put d v=fr n0 us0 (pl d v l0):=by
 rcases d with _|k
 ·rfl
 exact akS
def F7:∀(a:List aw) (j i:Nat),xO (λ_=>undef) (Hq j a) i=if j<=i then(a[i-j]?).getD undef else undef
 | [],j,i=>by simp[Hq,xO]
 | v::r,j,i=>by
  simp only[Hq];by_cases x:j=i
  ·subst x;rw[zx,aV (aX _)];simp
  rw[zw x,F7 r (j+1) i];by_cases u:j<=i
  ·rw[aV u,aV J,show i-j=(i-(j+1))+1 by omega,cY]
  rw[aP u,aP J]
end
section
variable {P:Program} {ops:Array Oper} {Q:Exit->Act->av->Prop} {rest:List Oper} {w w':av} {n0:Nat} {us0:Nat->aw} {l0:List (Nat×aw)}
def asB:aw->Option Bool
 | .bool b=>aM b
 | _=>aaa
def J8{e:List Oper}{j d:Nat}{o:Oper}{v:aw}(a:jd e j=aM o)(c:o.dst=aM d)(h:evO n0 l0 (.tmp d)=aM v):
  yielded e.toArray (fr n0 us0 l0).tmps j=asB v:=by
 rw[lV]at a;have hd:d<n0:=by
  simp only[evO]at h;cases f:Nat.blt d n0
  ·rw[f]at h;cases h
  exact dH f
 have b:=evE (us0:=us0) h;rw[Vd hd]at b;have:(fr n0 us0 l0).tmps[d]? =aM v:=by
  show(tab us0 l0 n0 0).toArray[d]? =_;rw[E7,pR _ _ _ _ _ hd,bP,b]
 simp only[yielded,E7,a,Ui,c,this];cases v<;>rfl
def wtF{o a:Oper}{V:List Oper}{j d:Nat}{w b r:Bool}(h:o.guard=aM (j,w))(c:jd V j=aM a)(f:a.dst=aM d)
  (g:evO n0 l0 (.tmp d)=aM (.bool b)) (i:(b==w)=r):Region.wanted o (yielded V.toArray (fr n0 us0 l0).tmps)=r:=by
 subst i;have e:=J8 (us0:=us0) c f g;simp only[Region.wanted,h,e,asB];cases b<;>cases w<;>rfl
def wuF{o a:Oper}{V:List Oper}{j d:Nat}{want:Bool}(h:o.guard=aM (j,want))(b:jd V j=aM a)(c:a.dst=aM d)
  (f:evO n0 l0 (.tmp d)=aM undef):Region.wanted o (yielded V.toArray (fr n0 us0 l0).tmps)=aL:=by
 have e:=J8 (us0:=us0) b c f;simp[Region.wanted,h,e,undef,asB]
def pg{x y:Option Addr}(h:x=y):aM (Value.pointer x)=aM (.pointer y):=by rw[h]
def ag{x y:Addr}(h:x=y):aM (Value.pointer (aM x))=aM (.pointer (aM y)):=by rw[h]
def bg{x y:Bool}(h:x=y):aM (Value.bool x)=aM (.bool y):=by rw[h]
def sn{op:Op}{t:TypeId}{p:String}{a:Array Edge}{v:aw}(r:(execOp (fr n0 us0 l0).eval ⟨aaa,op,t,p,a,aaa⟩).run P w=.ok (.value v) w)
 (h:wpList P ops Q rest (fr n0 us0 l0) w):wpList P ops Q (⟨aaa,op,t,p,a,aaa⟩::rest) (fr n0 us0 l0) w:=M4 v (wn rfl) r (f3 _ _) h
section
variable {md:Region.Mode} {E:Nat->av->av->Prop} {F:av->Prop}
def adt(i:Nat){e:List Oper}{d:Option Tmp}{op:Op}{t:TypeId}{p:String}{f:Array Edge}{g:Option (Nat×Bool)}{fX:Nat}{b:Array Bool}(D N:List Nat)(F:av->Prop){v:aw}(y:jd e i=aM ⟨d,op,t,p,f,g⟩)
  (h:(Region.noSelect e.toArray&&Region.free md e.toArray b i&&(Region.ready md e.toArray b).contains i&&xh md e.toArray b&&uL md e.toArray i [] D&&(N.all λk=>b.getD k aE))=aE)
  (x:∀c a w,Q (.panic c) (Act.put a d v) w->Q (.panic c) a w) (Y:∀j w w',j∉D->j∉N->F w->E j w w'->F w') (G:∀w,F w->E i w w) (u:F w)
  (z:YieldsIf P e.toArray F ⟨d,op,t,p,f,g⟩ v (fr n0 us0 l0))
  (s:gA P md e.toArray Q E fX (b.setIfInBounds i aE) (fr n0 us0 (pl d v l0)) w):gA P md e.toArray Q E (fX+1) b (fr n0 us0 l0) w:=by
 simp only[aR]at h;obtain⟨⟨⟨⟨⟨l,m⟩,n⟩,o⟩,q⟩,r⟩:=h;exact Nj i D N v F y l m n o q r x Y G u z asd s
def eL(i:Nat){e:List Oper}{d:Option Tmp}{op:Op}{t:TypeId}{p:String}{f:Array Edge}{g:Option (Nat×Bool)}{fX:Nat}{b:Array Bool}{l:List (Nat×List Nat)}(D N:List Nat)(F:av->Prop){v:aw}(q:jd e i=aM ⟨d,op,t,p,f,g⟩)
  (r:l.lookup i=aaa) (Y:∀j w w',j∉D->j∉N->F w->EL l j w w'->F w') (m:F w)
  (y:YieldsIf P e.toArray F ⟨d,op,t,p,f,g⟩ v (fr n0 us0 l0))
  (h:gA P md e.toArray Q (EL l) fX (b.setIfInBounds i aE) (fr n0 us0 (pl d v l0)) w)
  (o:(Region.noSelect e.toArray&&Region.free md e.toArray b i&&(Region.ready md e.toArray b).contains i&&xh md e.toArray b&&uL md e.toArray i [] D&&(N.all λk=>b.getD k aE))=aE:=by kernel_rfl)
  (n:∀c a w,Q (.panic c) (Act.put a d v) w->Q (.panic c) a w:=by exact λ_ _ _ h=>h):gA P md e.toArray Q (EL l) (fX+1) b (fr n0 us0 l0) w:=
 adt i D N F q o n Y (λw _=>U9 r w) m y h
def eN(i:Nat){e:List Oper}{d:Option Tmp}{op:Op}{t:TypeId}{p:String}{f:Array Edge}{g:Option (Nat×Bool)}{fX:Nat}{b:Array Bool}{l:List (Nat×List Nat)}(o:jd e i=aM ⟨d,op,t,p,f,g⟩)
  (E:∀w,EL l i w w) (n:Region.wanted ⟨d,op,t,p,f,g⟩ (yielded e.toArray (fr n0 us0 l0).tmps)=aL)
  (h:gA P md e.toArray Q (EL l) fX (b.setIfInBounds i aE) (fr n0 us0 (pl d undef l0)) w)
  (m:(Region.noSelect e.toArray&&Region.free md e.toArray b i&&(Region.ready md e.toArray b).contains i&&xh md e.toArray b&&uL md e.toArray i [] []&&(([]:List Nat).all λk=>b.getD k aE))=aE:=by kernel_rfl)
  (j:∀c a w,Q (.panic c) (Act.put a d undef) w->Q (.panic c) a w:=by exact λ_ _ _ h=>h):gA P md e.toArray Q (EL l) (fX+1) b (fr n0 us0 l0) w:=
 adt i [] [] (λ_=>True) o m j aax (λw _=>E w) trivial (afM n) h
end
end
end Go.Kt
namespace Go.Kt.V
open Go renaming World->av,Value->aw
open Go Go.RowKit Go.Kt
structure OV where
 v:aw
 one:v.oneCell'=aE
inductive SV where
 | int (k:IntKind) (n:Int)
 | il (k:IntKind) (n:Int)
 | bl (b:Bool)
 | bt (t:Bool)
 | str (s:ByteArray)
 | np
 | ptr (p:Option Addr)
 | ad (a:Addr)
 | box (i o:Nat)
 | sl (s:Sl)
 | nsl
 | map (m:Option Nat)
 | raw (v:OV)
 | fn (f:FuncId) (fs cs:SV)
 | agg (l:SV)
 | tup (l:SV)
 | un
 | e
 | c (h t:SV)
def tI(c:Nat->Nat):SV->List aw
 | .int k n=>[.int k n]
 | .il k n=>[.int k n]
 | .bl b=>[.bool b]
 | .bt t=>[.bool t]
 | .str s=>[.string s]
 | .np=>[.pointer aaa]
 | .ptr p=>[.pointer p]
 | .ad a=>[.pointer (aM a)]
 | .box i o=>[.pointer (aM ⟨c i,o,aaa⟩)]
 | .sl s=>[s.v]
 | .nsl=>[Sl.v Sl.nil]
 | .map m=>[.map m]
 | .raw v=>[v.v]
 | .fn f a s=>[.func (.func f) (tI c a).toArray (tI c s).toArray]
 | .agg l=>[.agg (tI c l).toArray]
 | .tup l=>[.tuple (tI c l).toArray]
 | .un=>[undef]
 | .e=>[]
 | .c h t=>(tI c h).headD undef::tI c t
def val(a:Nat->Nat)(s:SV):aw:=(tI a s).headD undef
def cZ(a:Nat->Nat)(l:List SV):List aw:=l.map (val a)
def qx:SV->List SV
 | .c h t=>h::qx t
 | _=>[]
def Hs:List SV->SV
 | []=>.e
 | s::r=>.c s (Hs r)
def Fu:SV->Bool
 | .c _ t=>Fu t
 | .e=>aE
 | _=>aL
def uN β:∀l,tI β (Hs l)=cZ β l
 | []=>rfl
 | s::r=>by simp only[Hs,tI,uN β r];rfl
def pS β:∀{s:SV},Fu s=aE->tI β s=cZ β (qx s)
 | .e,_=>rfl
 | .c a t,h=>by simp only[tI,pS β (s:=t) h];rfl
def cln(g:Nat->Bool):SV->Bool
 | .box i _=>g i
 | .fn _ f c=>cln g f&&cln g c
 | .agg l=>cln g l
 | .tup l=>cln g l
 | .c h t=>cln g h&&cln g t
 | _=>aE
def jP(g:Nat->Bool):List SV->Bool
 | []=>aE
 | s::r=>cln g s&&jP g r
def pd{β β'}{g}(h:∀i,g i=aE->β i=β' i):∀s,cln g s=aE->tI β s=tI β' s
 | .int ..,_ | .il ..,_ | .bl ..,_ | .bt ..,_ | .str ..,_ | .np,_ | .ptr ..,_ | .ad ..,_ | .sl ..,_ | .nsl,_ | .map ..,_ | .raw ..,_ | .un,_ | .e,_=>rfl
 | .box i o,c=>by simp[tI,h i c]
 | .fn f a s,c=>by
  simp[cln]at c;simp[tI,pd h a c.1,pd h s c.2]
 | .agg l,c=>by simp[tI,pd h l c]
 | .tup l,c=>by simp[tI,pd h l c]
 | .c s t,c=>by
  simp[cln]at c;simp[tI,pd h s c.1,pd h t c.2]
def kB{β β'}{g}(h:∀i,g i=aE->β i=β' i) s (c:cln g s=aE):val β s=val β' s:=by
 unfold val;rw[pd h s c]
def jA{β β'}{g}(h:∀i,g i=aE->β i=β' i):∀l,jP g l=aE->cZ β l=cZ β' l
 | [],_=>rfl
 | s::r,c=>by
  simp[jP]at c;have:=jA h r c.2;simp only[cZ,bS]at this⊢;rw[kB h s c.1,this]
def gM β l:I (cZ β l)=I l:=by rw[cZ,bK]
def Ve:aw->Option SV
 | .int k n=>aM (.il k n)
 | .bool b=>aM (.bl b)
 | .string s=>aM (.str s)
 | .pointer aaa=>aM .np
 | .slice aaa 0 0=>aM .nsl
 | .map m=>aM (.map m)
 | v=>if h:v.oneCell'=aE then aM (.raw ⟨v,h⟩)else aaa
def Fv:List aw->Option SV
 | []=>aM .e
 | v::r=>match Ve v,Fv r with
  | some s,aM l=>aM (.c s l)
  | _,_=>aaa
def ofV:aw->Option SV
 | .agg c=>(Fv c.toList).map .agg
 | .tuple c=>(Fv c.toList).map .tup
 | .func (.func f) s c=>match Fv s.toList,Fv c.toList with
  | some a,aM b=>aM (.fn f a b)
  | _,_=>aaa
 | v=>Ve v
def Di{v}{s}(h:Ve v=aM s) β:val β s=v:=by
 unfold Ve at h;split at h
 all_goals first | (simp at h;subst h;rfl) | skip
 split at h
 ·simp at h;subst h;rfl
 cases h
def wb β:∀{l:List aw} {s:SV},Fv l=aM s->tI β s=l
 | [],s,h=>by simp[Fv]at h;subst h;rfl
 | v::r,s,h=>by
  simp[Fv]at h;split at h
  ·rename_i s c a b;simp at h;subst h;simp only[tI,wb β b];rw[show(tI β s).headD undef=v from Di a β]
  cases h
def O8{v}{s}(h:ofV v=aM s) β:val β s=v:=by
 unfold ofV at h;split at h
 ·rename_i c;rcases hl:Fv c.toList with _|l
  ·rw[hl]at h;cases h
  rw[hl]at h;simp at h;subst h;simp[val,tI,wb β hl]
 ·rename_i c;rcases hl:Fv c.toList with _|l
  ·rw[hl]at h;cases h
  rw[hl]at h;simp at h;subst h;simp[val,tI,wb β hl]
 ·split at h
  ·rename_i a b c d;simp at h;subst h;simp[val,tI,wb β c,wb β d]
  cases h
 exact Di h β
structure mZ where
 blk:Option Nat
 ty:TypeId
 cells:List SV
 stp:Nat
 ok:Bool
 esc:Bool
 sh:Bool
structure St where
 n:Nat
 fr:List (Nat×Nat×SV)
 bx:List mZ
 w0:av
 mv:Bool
 dt:List Nat
 ct:Nat
 df:List (Nat×List aw×List aw)
def dfs(l:List (Nat×List aw×List aw)):List Deferred:=l.map λd=>{target:=.fn (.func d.1) d.2.2.toArray,args:=d.2.1.toArray}
def frD(n:Nat)(u:Nat->aw)(l:List (Nat×aw))(D:List Deferred):Act:=⟨(tab u l n 0).toArray,D⟩
def eX:List (Nat×Nat×SV)->Nat->Option (Nat×SV)
 | [],_=>aaa
 | (k,s)::r,i=>bif Nat.beq k i then aM s else eX r i
def St.get(st:St)(i:Nat):Option SV:=bif Nat.blt i st.n then(eX st.fr i).map (·.2)else aaa
def St.ev(st:St):Operand->Option SV
 | .tmp k=>st.get k
 | .const v=>ofV v
 | .global g=>aM (.ad ⟨g,0,aaa⟩)
 | .func f=>aM (.fn f .e .e)
def St.RD(st:St):List Operand->Option (List SV)
 | []=>aM []
 | x::r=>match st.ev x,st.RD r with
  | some v,aM s=>aM (v::s)
  | _,_=>aaa
def St.Z5(st:St):List (Nat×Operand)->Option (List (Nat×SV))
 | []=>aM []
 | (i,x)::r=>match st.ev x,st.Z5 r with
  | some v,aM s=>aM ((i,v)::s)
  | _,_=>aaa
def St.put(st:St)(d:Option Tmp)(v:SV):St:=match d with
 | some k=>{st with fr:=(k,st.ct,v)::st.fr,ct:=st.ct+1}
 | none=>st
def dy:List mZ->Nat->Option mZ
 | [],_=>aaa
 | b::_,0=>aM b
 | _::r,n+1=>dy r n
def Ss:List mZ->Nat->mZ->List mZ
 | [],_,_=>[]
 | _::r,0,b=>b::r
 | a::r,n+1,b=>a::Ss r n b
def cv(a:Nat->Nat)(l:List (Nat×Nat×SV)):List (Nat×aw):=l.map λp=>(p.1,val a p.2.2)
def ol β:∀l i,BO (cv β l) i=(eX l i).map λp=>val β p.2
 | [],_=>rfl
 | (k,s)::r,i=>by
  simp[cv,BO,eX];cases Nat.beq k i
  ·exact ol β r i
  rfl
structure aoH (β:Nat->Nat) (w0 w:av) (i:Nat) (b:mZ):Prop where
 blk:Blk w (β i) b.ty (cZ β b.cells)
 at_:∀k,b.blk=aM k->β i=k
 new:b.blk=aaa->w0.heap.size<=β i
structure Rep (β:Nat->Nat) (st:St) (a:Act) (w:av):Prop where
 fr:∃us,a=frD st.n us (cv β st.fr) (dfs st.df)
 bx:∀i b,dy st.bx i=aM b->b.ok=aE->aoH β st.w0 w i b
 ne:∀i j bi bj,dy st.bx i=aM bi->dy st.bx j=aM bj->bi.ok=aE->bj.ok=aE->i≠j->β i≠β j
 only:Only (st.dt.map β) st.w0 w
 still:st.mv=aL->w=st.w0
structure Ext (s t:St):Prop where
 n:t.n=s.n
 ct:s.ct<=t.ct
 fr:∀i k v,eX t.fr i=aM (k,v)->k<s.ct->eX s.fr i=aM (k,v)
 bx:∀i b',dy t.bx i=aM b'->b'.ok=aE->b'.stp<s.ct->∃b,dy s.bx i=aM b/\b.ok=aE/\b.cells=b'.cells/\b.ty=b'.ty/\b.stp=b'.stp/\(∀k,b.blk=aM k->b'.blk=aM k)
 ps:∀i b,dy s.bx i=aM b->∃b',dy t.bx i=aM b'/\b'.ty=b.ty/\b'.ok=b.ok/\∀k,b.blk=aM k->b'.blk=aM k
 df:∃l,t.df=l++s.df
def Jt{s:St}:∃l,s.df=l++s.df:=⟨[],rfl⟩
def Vf{l}:∀i b,dy l i=aM b->∃a,dy l i=aM a/\a.ty=b.ty/\a.ok=b.ok/\∀k,b.blk=aM k->a.blk=aM k:=λi b h=>⟨b,h,rfl,rfl,λ_ h=>h⟩
def Ext.refl s:Ext s s:=⟨rfl,aX _,λ_ _ _ h _=>h,λi b h o _=>⟨b,h,o,rfl,rfl,rfl,λ_ h=>h⟩,Vf,Jt⟩
def Ext.trans{s t u}(h:Ext s t)(k:Ext t u):Ext s u:=
 ⟨k.n.trans h.n,bD h.ct k.ct,λi m v l d=>h.fr i m v (k.fr i m v l (cV d h.ct)) d,λi a c o e=>by
  obtain⟨j,g,s,k3,t,x,w⟩:=k.bx i a c o (cV e h.ct);obtain⟨b,f,n,p,q,v,u⟩:=h.bx i j g s J;exact⟨b,f,n,p.trans k3,q.trans t,v.trans x,λm r=>w m (u m r)⟩,λi b c=>by
  obtain⟨j,f,n,p,q⟩:=h.ps i b c;obtain⟨a,g,s,k3,t⟩:=k.ps i j f;exact⟨a,g,s.trans n,k3.trans p,λm r=>t m (q m r)⟩,by
  obtain⟨y,f⟩:=h.df;obtain⟨m,g⟩:=k.df;exact⟨m++y,acw⟩⟩
section
variable {β:Nat->Nat} {st:St} {a:Act} {w:av}
def Rep.get(b:Rep β st a w){i}{s}(h:st.get i=aM s):a.eval (.tmp i)=val β s:=by
 obtain⟨u,rfl⟩:=b.fr;show(Kt.fr st.n u _).eval (.tmp i)=_;refine evE (n0:=st.n) (us0:=u) ?_;unfold St.get at h;cases c:Nat.blt i st.n
 ·rw[c]at h;cases h
 simp[evO,ol];cases l:eX st.fr i<;>grind
def Rep.ev(b:Rep β st a w){x}{s}(h:st.ev x=aM s):a.eval x=val β s:=by
 cases x with
 | tmp k=>exact b.get h
 | const v=>rw[O8 h];rfl
 | global g=>
  simp[St.ev]at h;subst h;rfl
 | func f=>
  simp[St.ev]at h;subst h;rfl
def Rep.RD(h:Rep β st a w):∀{s:List Operand} {l:List SV},st.RD s=aM l->s.map a.eval=cZ β l
 | [],l,g=>by simp[St.RD]at g;subst g;rfl
 | x::r,l,g=>by
  simp[St.RD]at g;split at g
  ·rename_i v b x a;simp at g;subst g;rw[bS,h.ev x,h.RD a];rfl
  cases g
def F8(a:Nat->Nat)(l:List (Nat×SV)):List (Nat×aw):=l.map λp=>(p.1,val a p.2)
def Rep.Z5(h:Rep β st a w):∀{x:List _} {l:List _},st.Z5 x=aM l->(x.map λq=>(q.1,a.eval q.2))=F8 β l
 | [],l,g=>by simp[St.Z5]at g;subst g;rfl
 | _::r,l,g=>by
  simp[St.Z5]at g;split at g
  ·rename_i v s b a;simp at g;subst g;rw[bS,h.Z5 a,h.ev b];rfl
  cases g
def St.evO{st:St} β {x} {s} (h:st.ev x=aM s):Kt.evO st.n (cv β st.fr) x=aM (val β s):=by
 cases x with
 | tmp i=>
  have h:st.get i=aM s:=h;unfold St.get at h;cases b:Nat.blt i st.n
  ·rw[b]at h;cases h
  simp[Kt.evO,ol];cases l:eX st.fr i<;>grind
 | const v=>rw[O8 h];rfl
 | global g=>
  simp[St.ev]at h;subst h;rfl
 | func f=>
  simp[St.ev]at h;subst h;rfl
def Rep.put(h:Rep β st a w) d v:Rep β (st.put d v) (a.put d (val β v)) w:=by
 rcases d with _|k
 ·exact h
 obtain⟨u,rfl⟩:=h.fr;exact⟨⟨u,bN (λa:Act=>(⟨a.tmps,dfs st.df⟩:Act)) (akS (n0:=st.n) (us0:=u) (l0:=cv β st.fr) (k:=k) (v:=val β v))⟩,h.bx,h.ne,h.only,h.still⟩
def Ext.put st d v:Ext st (st.put d v):=by
 rcases d with _|k
 ·exact Ext.refl _
 refine⟨rfl,kx _,λi m u l a=>?_,λi b h o _=>⟨b,h,o,rfl,rfl,rfl,λ_ h=>h⟩,Vf,Jt⟩;simp[St.put,eX]at l
 grind
def Rep.frame(h:Rep β st a w){fr'}(s:∀i p,eX fr' i=aM p->∃q,eX st.fr i=aM q/\val β q.2=val β p.2):Rep β {st with fr:=fr'} a w:=by
 obtain⟨u,rfl⟩:=h.fr;refine⟨?_,h.bx,h.ne,h.only,h.still⟩;refine⟨λi=>xO u (cv β st.fr) i,?_⟩;unfold frD;congr 2;apply oe;intro i;by_cases b:i<st.n
 ·rw[pR _ _ _ _ _ b,pR _ _ _ _ _ b,bP];rcases hl:eX fr' i with _|p
  ·rw[Hr (l:=cv β fr') afo]
  obtain⟨q,a,c⟩:=s i p hl;rw[xi (l:=cv β fr') (v:=val β p.2) afo,xi (l:=cv β st.fr) (v:=val β p.2) (by rw[ol,a,gn,c])]
 rw[dG (by rw[qQ];exact jy b),dG (by rw[qQ];exact jy b)]
end
def cH{a:Type}(o:Option a)(K:a->Prop):Prop:=match o with
 | some v=>K v
 | none=>False
def bI{α}{o:Option α}{K}(h:cH o K):∃v,o=aM v/\K v:=by
 rcases o with _|v
 ·exact h.elim
 exact⟨v,rfl,h⟩
def gi:List (Bool×Bool)->Prop->Prop
 | [],p=>p
 | (t,b)::r,p=>t=b->gi r p
def gh:List (Bool×Bool)->Prop
 | []=>True
 | (t,b)::r=>t=b/\gh r
def jB:∀{gs:List _} {p:Prop},gi gs p->gh gs->p
 | [],_,h,_=>h
 | _::r,p,h,k=>jB (gs:=r) (h k.1) k.2
inductive Lf where
 | int (k:IntKind)
 | bool
 | str
 | ptr
 | sl
 | map
 | raw
def Lf.T:Lf->Type
 | .int _=>Int
 | .bool=>Bool
 | .str=>ByteArray
 | .ptr=>Option Addr
 | .sl=>Sl
 | .map=>Option Nat
 | .raw=>OV
def Lf.sv:(l:Lf)->l.T->SV
 | .int k,x=>.int k x
 | .bool,x=>.bt x
 | .str,x=>.str x
 | .ptr,x=>.ptr x
 | .sl,x=>.sl x
 | .map,x=>.map x
 | .raw,x=>.raw x
def Lf.cln g (l:Lf) x:V.cln g (l.sv x)=aE:=by cases l<;>rfl
def exl:List Lf->(List SV->Prop)->Prop
 | [],K=>K []
 | l::r,K=>∃x,exl r λv=>K (l.sv x::v)
def wc:∀{ls:List Lf} {K:List SV->Prop},exl ls K->∃v,K v/\I v=I ls/\∀g,jP g v=aE
 | [],K,h=>⟨[],h,rfl,λ_=>rfl⟩
 | l::r,K,h=>by
  obtain⟨x,h⟩:=h;obtain⟨v,a,b,c⟩:=wc (ls:=r) h;exact⟨_,a,by simp[b],λg=>by simp[jP,Lf.cln,c g]⟩
def asg:TypeDesc->Lf
 | .int k=>.int k
 | .bool=>.bool
 | .string=>.str
 | .pointer _=>.ptr
 | .slice _=>.sl
 | .map _ _=>.map
 | _=>.raw
def rep{a:Type}:Nat->List a->List a
 | 0,_=>[]
 | n+1,l=>l++rep n l
def flat{a b:Type}(f:a->List b):List a->List b
 | []=>[]
 | x::r=>f x++flat f r
def Vg(P:Program):Nat->TypeId->List Lf
 | 0,_=>[]
 | n+1,t=>match P.underlying t with
  | some (.struct fs)=>flat (λf:Field=>Vg P n f.type) fs.toList
  | some (.array len e)=>rep len (Vg P n e)
  | some d=>[asg d]
  | none=>[]
def pe:TypeDesc->Bool
 | .struct _=>aE
 | .array _ _=>aE
 | _=>aL
def Su(ag:Bool)(l:List SV):SV:=bif ag then .agg (Hs l)else l.headD .un
def β0:Nat->Nat:=λ_=>0
def tJ:SV->Option (IntKind×Int)
 | .int k n=>aM (k,n)
 | .il k n=>aM (k,n)
 | _=>aaa
def dS{s}{k}{n}(h:tJ s=aM (k,n)) β:val β s=.int k n:=by
 cases s<;>simp[tJ]at h
 all_goals obtain⟨rfl,rfl⟩:=h;rfl
def Dj:SV->Option Bool
 | .bl b=>aM b
 | .bt b=>aM b
 | _=>aaa
def pf{s}{b}(h:Dj s=aM b) β:val β s=.bool b:=by
 cases s<;>simp[Dj]at h
 all_goals subst h;rfl
def yD:SV->Option ByteArray
 | .str s=>aM s
 | _=>aaa
def jQ{s}{b}(h:yD s=aM b) β:val β s=.string b:=by
 cases s<;>simp[yD]at h
 all_goals subst h;rfl
def O9:SV->Option Sl
 | .sl s=>aM s
 | .nsl=>aM Sl.nil
 | _=>aaa
def mN{s}{b}(h:O9 s=aM b) β:val β s=b.v:=by
 cases s<;>simp[O9]at h
 all_goals subst h;rfl
def ib(op:BinOp)(k:IntKind)(m n:Int):Option SV:=match op with
 | .add=>aM (.int k (k.wrap (m+n)))
 | .sub=>aM (.int k (k.wrap (m-n)))
 | .mul=>aM (.int k (k.wrap (m*n)))
 | .eql=>aM (.bt (m==n))
 | .neq=>aM (.bt (m !=n))
 | .lss=>aM (.bt (decide (m<n)))
 | .leq=>aM (.bt (decide (m<=n)))
 | .gtr=>aM (.bt (decide (m>n)))
 | .geq=>aM (.bt (decide (m>=n)))
 | .and=>aM (.int k (bits .and k m n))
 | .or=>aM (.int k (bits .or k m n))
 | .xor=>aM (.int k (bits .xor k m n))
 | .andNot=>aM (.int k (bits .andNot k m n))
 | _=>aaa
def sb(op:BinOp)(s u:ByteArray):Option SV:=match op with
 | .eql=>aM (.bt (s.toList==u.toList))
 | .neq=>aM (.bt (!(s.toList==u.toList)))
 | .lss=>aM (.bt (Op.bytesLess s.toList u.toList))
 | .geq=>aM (.bt (!(Op.bytesLess s.toList u.toList)))
 | .leq=>aM (.bt (Op.bytesLess s.toList u.toList||(s.toList==u.toList)))
 | .gtr=>aM (.bt (!(Op.bytesLess s.toList u.toList||(s.toList==u.toList))))
 | _=>aaa
def nz(g:List (Bool×Bool))(b:SV)(n:Int)(K:Prop):Prop:=match b with
 | .il _ _=>bif n==0 then False else K
 | _=>gi g (n≠0)/\K
def ge0(g:List (Bool×Bool))(b:SV)(n:Int)(K:Prop):Prop:=match b with
 | .il _ _=>bif decide (0<=n)then K else False
 | _=>gi g (0<=n)/\K
def opn:SV->Option (Option Addr)
 | .np=>aM aaa
 | .ptr p=>aM p
 | .ad a=>aM (aM a)
 | _=>aaa
def aaA{s}{p}(h:opn s=aM p) β:val β s=.pointer p:=by
 cases s<;>simp[opn]at h
 all_goals subst h;rfl
def pn(op:BinOp)(a:SV):Option SV:=match op,a with
 | .eql,.ptr p=>aM (.bt p.isNone)
 | .neq,.ptr p=>aM (.bt (!p.isNone))
 | .eql,.ad _=>aM (.bl aL)
 | .neq,.ad _=>aM (.bl aE)
 | .eql,.box _ _=>aM (.bl aL)
 | .neq,.box _ _=>aM (.bl aE)
 | .eql,.np=>aM (.bl aE)
 | .neq,.np=>aM (.bl aL)
 | _,_=>aaa
def sn(op:BinOp)(s:Sl):Option SV:=match op with
 | .eql=>aM (.bt s.a.isNone)
 | .neq=>aM (.bt (!s.a.isNone))
 | _=>aaa
def Vh:SV->Bool
 | .np=>aE
 | _=>aL
def J9:SV->Bool
 | .nsl=>aE
 | _=>aL
def eq1(P:Program)(t:TypeId)(x y:SV):Option Bool:=match P.underlying t with
 | some (.int _)=>(match tJ x,tJ y with
  | some (k,m),aM (k',n)=>bif decide (k=k')then aM (m==n)else aaa
  | _,_=>aaa)
 | some .string=>(match yD x,yD y with
  | some s,aM u=>aM (s==u)
  | _,_=>aaa)
 | some .bool=>(match Dj x,Dj y with
  | some s,aM u=>aM (s==u)
  | _,_=>aaa)
 | _=>aaa
def Ka(P:Program)(s a:List SV):List Field->Option Bool
 | []=>aM aE
 | f::r=>bif f.name== "_" then aaa else match s[f.offset]?,a[f.offset]? with
  | some x,aM y=>(match eq1 P f.type x y,Ka P s a r,r with
   | some b,aM _,[]=>aM b
   | some b,aM c,_=>aM (b&&c)
   | _,_,_=>aaa)
  | _,_=>aaa
def afN(P:Program)(t:TypeId)(f:Array Field)(a b:SV):Option Bool:=match a,b with
 | .agg l,.agg m=>bif Fu l&&Fu m&&!P.stoodInHeld t&&!P.eqGuardType P.depth t then Ka P (qx l) (qx m) f.toList else aaa
 | _,_=>aaa
def afO(op:BinOp)(b:Bool):Option SV:=match op with
 | .eql=>aM (.bt b)
 | .neq=>aM (.bt (!b))
 | _=>aaa
def mn(op:BinOp)(a b:SV):Option SV:=match op,a,b with
 | .eql,.map m,.map aaa=>aM (.bt m.isNone)
 | .neq,.map m,.map aaa=>aM (.bt (!m.isNone))
 | _,_,_=>aaa
def afP(P:Program)(g:List (Bool×Bool))(op:BinOp)(t:TypeId)(a b:SV)(K:SV->Prop):Prop:=
 match tJ a,tJ b with
 | some (k,m),aM (k',n)=>(match op with
  | .shl=>ge0 g b n (K (.int k (k.wrap (m*2 ^ (min n.toNat k.bits)))))
  | .shr=>ge0 g b n (K (.int k (m.fdiv (2 ^ (min n.toNat k.bits)))))
  | .quo=>bif decide (k=k')then nz g b n (K (.int k (k.wrap (m.tdiv n))))else False
  | .rem=>bif decide (k=k')then nz g b n (K (.int k (m.tmod n)))else False
  | _=>bif decide (k=k')then cH (ib op k m n) K else False)
 | _,_=>match yD a,yD b with
  | some s,aM u=>(match op with
   | .add=>gi g ((s.size:Int)+u.size<=9223372036854775807)/\K (.str (s++u))
   | _=>cH (sb op s u) K)
  | _,_=>match Dj a,Dj b,P.underlying t with
   | some s,aM u,aM .bool=>(match op with
    | .eql=>K (.bt (s==u))
    | .neq=>K (.bt (!(s==u)))
    | _=>False)
   | _,_,_=>match P.underlying t with
    | some (.pointer _)=>bif Vh b then cH (pn op a) K else bif Vh a then cH (pn op b) K else False
    | some (.slice _)=>bif J9 b then cH ((O9 a).bind (sn op)) K else bif J9 a then cH ((O9 b).bind (sn op)) K else False
    | some (.struct fs)=>cH (afN P t fs a b) λr=>cH (afO op r) K
    | some (.map _ _)=>cH (mn op a b) K
    | _=>False
section
variable {P:Program} {gs:List (Bool×Bool)} {K:SV->Prop}
def adv{b}{k}{n}{K}(a:tJ b=aM (k,n))(h:nz gs b n K):K/\(gh gs->n≠0):=by
 unfold nz at h;split at h
 ·grind
 exact⟨h.2,λg=>jB h.1 g⟩
def Vi{b}{n}{K}(h:ge0 gs b n K):K/\(gh gs->0<=n):=by
 unfold ge0 at h;split at h
 ·grind
 exact⟨h.2,λg=>jB h.1 g⟩
def eG{b}{p}(h:bif b then p else False):b=aE/\p:=acw
def pT(P:Program)(op:BinOp)(t:TypeId)(a b v:SV):Prop:=
 ∀c (act:Act) x y d h e p f g w,act.eval x=val c a->act.eval y=val c b->
  (execOp act.eval ⟨d,.binOp op t x y h,e,p,f,g⟩).run P w=.ok (.value (val c v)) w
def akT{op}{t}{a b v}{k}{m n}(e:tJ a=aM (k,m))(f:tJ b=aM (k,n))(h:ib op k m n=aM v):pT P op t a b v:=by
 intro o act x y s l j p g i w c d;rw[dS e]at c;rw[dS f]at d;cases op<;>simp[ib]at h
 all_goals subst h;simp[execOp,c,d];cases k<;>rfl
def akU{op}{t}{a b v}{s u}(f:yD a=aM s)(g:yD b=aM u)(h:sb op s u=aM v):pT P op t a b v:=by
 intro m act x y e l k p i j w c d;rw[jQ f]at c;rw[jQ g]at d;cases op<;>simp only[sb,bJ,reduceCtorEq]at h
 all_goals subst h;simp only[execOp,c,d];rfl
def adw{op}{t e}{a b v}(u:P.underlying t=aM (.pointer e))(f:Vh b=aE)(d:pn op a=aM v):pT P op t a b v/\pT P op t b a v:=by
 have h:∀c,val c b=.pointer aaa:=λc=>by
  unfold Vh at f;split at f
  ·rfl
  cases f
 have k:∀c,∃(q:Option Addr) (r:Bool),val c a=.pointer q/\val c v=.bool r/\((op=.eql/\q.isNone=r)∨(op=.neq/\(!q.isNone)=r)):=by
  intro c;unfold pn at d;split at d<;>simp only[bJ,reduceCtorEq]at d<;>subst d
  ·exact⟨_,_,rfl,rfl,.inl ⟨rfl,rfl⟩⟩
  ·exact⟨_,_,rfl,rfl,.inr ⟨rfl,rfl⟩⟩
  ·exact⟨_,_,rfl,rfl,.inl ⟨rfl,rfl⟩⟩
  ·exact⟨_,_,rfl,rfl,.inr ⟨rfl,rfl⟩⟩
  ·exact⟨_,_,rfl,rfl,.inl ⟨rfl,rfl⟩⟩
  ·exact⟨_,_,rfl,rfl,.inr ⟨rfl,rfl⟩⟩
  ·exact⟨_,_,rfl,rfl,.inl ⟨rfl,rfl⟩⟩
  exact⟨_,_,rfl,rfl,.inr ⟨rfl,rfl⟩⟩
 constructor
 ·intro c act x y s m t p j l w b e;obtain⟨q,r,g,i,a⟩:=k c;rw[g]at b;rw[h]at e;rw[i];rcases a with⟨rfl,a⟩ | ⟨rfl,a⟩
  ·exact Hl (run_underlying u w) b e a
  exact Hn (run_underlying u w) b e a
 intro c act x y s m t p j l w b e;obtain⟨q,r,g,i,a⟩:=k c;rw[g]at e;rw[h]at b;rw[i];rcases a with⟨rfl,a⟩ | ⟨rfl,a⟩
 ·exact Hm (run_underlying u w) b e a
 exact Ho (run_underlying u w) b e a
def adx{op}{t e}{a b v}(u:P.underlying t=aM (.slice e))(f:J9 b=aE)(h:(O9 a).bind (sn op)=aM v):pT P op t a b v/\pT P op t b a v:=by
 have c:∀d,val d b=.slice aaa 0 0:=λd=>by
  unfold J9 at f;split at f
  ·rfl
  cases f
 rcases hs:O9 a with _|s
 ·rw[hs]at h;cases h
 rw[hs]at h;simp at h;constructor
 ·intro d act x y s i t p e g w a b;rw[mN hs]at a;rw[c]at b;cases op<;>simp only[sn,bJ,reduceCtorEq]at h<;>subst h
  ·exact JO (run_underlying u w) a b
  exact JQ (run_underlying u w) a b
 intro d act x y s i t p e g w a b;rw[mN hs]at b;rw[c]at a;cases op<;>simp only[sn,bJ,reduceCtorEq]at h<;>subst h
 ·exact JP (run_underlying u w) a b
 exact JR (run_underlying u w) a b
def akV{op}{t k e}{a b v}(u:P.underlying t=aM (.map k e))(h:mn op a b=aM v):pT P op t a b v:=by
 intro n act x y s l j p g i w c f;unfold mn at h;split at h<;>simp at h<;>subst h
 all_goals
  rename_i m;change act.eval x=.map m at c;change act.eval y=.map aaa at f;have E:∀d,(Op.equalIn (d+1) t (.map m) (.map aaa)).run P w=.ok m.isNone w:=λd=>by
   unfold Op.equalIn;cases m<;>simp[run_underlying u w]
 ·have B:binOp .eql t (.map m) (.map aaa)=(do pure (.bool ((<-Op.equal t (.map m) (.map aaa))))):=by cases m<;>rfl
  have G:eqGuard .eql t x y (.map m) (.map aaa)=pure _:=rfl;simp[execOp,c,f,G,B,Op.equal,Op.maxDepth,E 9999];rfl
 have B:binOp .neq t (.map m) (.map aaa)=(do pure (.bool (!(<-Op.equal t (.map m) (.map aaa))))):=by cases m<;>rfl
 have G:eqGuard .neq t x y (.map m) (.map aaa)=pure _:=rfl;simp[execOp,c,f,G,B,Op.equal,Op.maxDepth,E 9999];rfl
def aaB{t}{x y}{b}(h:eq1 P t x y=aM b) β d w:P.plainKey t=aE/\(Op.equalIn (d+1) t (val β x) (val β y)).run P w=.ok b w:=by
 unfold eq1 at h;split at h
 ·rename_i k hu;refine⟨ae3,?_⟩;split at h
  ·rename_i k m a n x y;cases hk:decide (k=a)with
   | false=>rw[hk]at h;cases h
   | true=>
    rw[hk]at h;injection h with h;subst h;have hk:=aO hk;subst hk;rw[dS x,dS y];simp[Op.equalIn,run_underlying hu]
  cases h
 ·rename_i hu;refine⟨ae3,?_⟩;split at h
  ·rename_i s u x y;injection h with h;subst h;rw[jQ x,jQ y];simp[Op.equalIn,run_underlying hu]
  cases h
 ·rename_i hu;refine⟨ae3,?_⟩;split at h
  ·rename_i s u x y;injection h with h;subst h;rw[pf x,pf y];simp[Op.equalIn,run_underlying hu]
  cases h
 cases h
def Kb{xs ys} β d w:∀{s:List Field} {b:Bool},Ka P xs ys s=aM b->(Op.eqFields (d+1) (cZ β xs).toArray (cZ β ys).toArray s).run P w=.ok b w
 | [],b,h=>by
  simp[Ka]at h;subst h;simp[Op.eqFields]
 | f::r,b,h=>by
  unfold Ka at h;cases n:(f.name== "_")with
  | true=>rw[n]at h;cases h
  | false=>
   rw[n]at h;split at h
   ·rename_i x y g i;have p:(cZ β xs).toArray[f.offset]? =aM (val β x):=by simp[cZ,g]
    have j:(cZ β ys).toArray[f.offset]? =aM (val β y):=by simp[cZ,i]
    have go:∀{b c:Bool},eq1 P f.type x y=aM b->Ka P xs ys r=aM c->(Op.eqFields (d+1) (cZ β xs).toArray (cZ β ys).toArray (f::r)).run P w=.ok (b&&c) w:=fun{b c} e a=>by
     obtain⟨k,c⟩:=aaB e β d w;simp[Op.eqFields,by simpa using n,ne_eq,not_false_eq_true,Cy,Sem.run_bind,run_part_plain w k p,run_part_plain w k j,c,Result.andThen_ok];cases b
     ·simp
     simpa using Kb β d w a
    split at h
    ·rename_i b c e a;injection h with h;subst h;have:=go e a;simp[Ka]at a
     grind
    ·grind
    cases h
   cases h
def aaC{op}{t}{fs}{a b v}{r}(u:P.underlying t=aM (.struct fs))(h:afN P t fs a b=aM r)(c:afO op r=aM v):pT P op t a b v:=by
 unfold afN at h;split at h
 ·rename_i l m;obtain⟨a,h⟩:(Fu l&&Fu m&&!P.stoodInHeld t&&!P.eqGuardType P.depth t)=aE/\Ka P _ _ fs.toList=aM r:=by
   cases b:(Fu l&&Fu m&&!P.stoodInHeld t&&!P.eqGuardType P.depth t)with
   | true=>rw[b]at h;exact⟨rfl,h⟩
   | false=>rw[b]at h;cases h
  simp at a;obtain⟨⟨⟨j,k⟩,n⟩,o⟩:=a;intro d act x y s B A p v z w e g;have i:∀{l:SV},Fu l=aE->val d (.agg l)=.agg (cZ d _).toArray:=λq=>by
   show Value.agg (tI d _).toArray=_;rw[pS d q]
  rw[i j]at e;rw[i k]at g;have f:P.fieldsOf t=fs:=by simp[Program.fieldsOf,u]
  have E:(Op.equalIn 10000 t (.agg (cZ d (qx l)).toArray) (.agg (cZ d (qx m)).toArray)).run P w=.ok r w:=by
   rw[run_equalIn_struct w 9999 t _ _ (by rw[f];exact u) n,f];exact Kb d 9998 w h
  have G:∀op,(eqGuard op t x y (.agg (cZ d (qx l)).toArray) (.agg (cZ d (qx m)).toArray)).run P w=.ok () w:=λop=>by simp[eqGuard,o]
  unfold afO at c;split at c
  ·injection c with c;subst c;have p:binOp .eql t (.agg (cZ d (qx l)).toArray) _=(do pure (.bool (<-Op.equal t _ (.agg (cZ d (qx m)).toArray)))):=rfl;simp[execOp,e,g,p,Op.equal,Op.maxDepth,E,G];rfl
  ·injection c with c;subst c;have p:binOp .neq t (.agg (cZ d (qx l)).toArray) _=(do pure (.bool (!(<-Op.equal t _ (.agg (cZ d (qx m)).toArray))))):=rfl;simp[execOp,e,g,p,Op.equal,Op.maxDepth,E,G];rfl
  cases c
 cases h
def aaD{op}{t}{a b}(h:afP P gs op t a b K):∃v,K v/\(gh gs->pT P op t a b v):=by
 unfold afP at h;split at h
 ·rename_i k m l n e c;have g:∀{K:SV->Prop},(bif decide (k=l)then cH _ K else False)->∃v,K v/\(gh gs->pT P op t a b v):=λh=>by
   obtain⟨f,d⟩:=eG h;have hk:=aO f;subst hk;obtain⟨v,j,i⟩:=bI d;exact⟨v,i,λ_=>akT e c j⟩
  split at h
  ·obtain⟨h,n⟩:=Vi h;exact⟨_,h,λa u act x y s r t p o q w b k=>akJ (by rw[b,dS e]) (by rw[k,dS c]) (n a)⟩
  ·obtain⟨h,n⟩:=Vi h;exact⟨_,h,λa u act x y s r t p o q w b k=>akK (by rw[b,dS e]) (by rw[k,dS c]) (n a)⟩
  ·obtain⟨f,d⟩:=eG h;have hk:=aO f;subst hk;obtain⟨b,n⟩:=adv c d;exact⟨_,b,λa v act x y s u t p q r w k o=>akH (by rw[k,dS e]) (by rw[o,dS c]) (n a)⟩
  ·obtain⟨f,d⟩:=eG h;have hk:=aO f;subst hk;obtain⟨b,n⟩:=adv c d;exact⟨_,b,λa v act x y s u t p q r w k o=>akI (by rw[k,dS e]) (by rw[o,dS c]) (n a)⟩
  exact g h
 split at h
 ·rename_i s u a b;split at h
  ·exact⟨_,h.2,λg k act x y d j t p f i w c e=>U5 (by rw[c,jQ a]) (by rw[e,jQ b]) (jB h.1 g)⟩
  obtain⟨v,c,K⟩:=bI h;exact⟨v,K,λ_=>akU a b c⟩
 split at h
 ·rename_i s c a b u;split at h
  ·exact⟨_,h,λi l act x y d k t p g j w e f=>Si u (by rw[e,pf a]) (by rw[f,pf b])⟩
  ·exact⟨_,h,λi l act x y d k t p g j w e f=>Sj u (by rw[e,pf a]) (by rw[f,pf b])⟩
  exact h.elim
 split at h
 ·rename_i e u;cases a:Vh b
  ·rw[a]at h;obtain⟨b,h⟩:=eG h;obtain⟨v,c,K⟩:=bI h;exact⟨v,K,λ_=>(adw u b c).2⟩
  rw[a]at h;obtain⟨v,b,K⟩:=bI h;exact⟨v,K,λ_=>(adw u a b).1⟩
 ·rename_i e u;cases a:J9 b
  ·rw[a]at h;obtain⟨b,h⟩:=eG h;obtain⟨v,c,K⟩:=bI h;exact⟨v,K,λ_=>(adx u b c).2⟩
  rw[a]at h;obtain⟨v,b,K⟩:=bI h;exact⟨v,K,λ_=>(adx u a b).1⟩
 ·rename_i f u;obtain⟨b,r,h⟩:=bI h;obtain⟨v,a,K⟩:=bI h;exact⟨v,K,λ_=>aaC u r a⟩
 ·rename_i k e u;obtain⟨v,a,K⟩:=bI h;exact⟨v,K,λ_=>akV u a⟩
 exact h.elim
end
def aaE:SV->Bool
 | .agg _=>aL
 | .tup _=>aL
 | .un=>aL
 | .e=>aL
 | .c _ _=>aL
 | _=>aE
def Pa:List SV->Bool
 | []=>aE
 | s::r=>aaE s&&Pa r
def Ke{s}(h:aaE s=aE) β:(val β s).oneCell'=aE/\(val β s).cells=#[val β s]:=by
 cases s with
 | raw v=>
  have e:val β (.raw v)=v.v:=rfl;refine⟨v.one,?_⟩;obtain⟨v,a⟩:=v;cases v<;>first | rfl | (simp[Value.oneCell']at a)
 | _=>first | exact⟨rfl,rfl⟩ | (simp[aaE]at h)
def F9:∀{l:List SV},Pa l=aE->∀a,(cZ a l).all Value.oneCell'=aE
 | [],_,_=>rfl
 | s::r,h,a=>by
  simp[Pa,aR]at h;simp only[cZ,bS,mf,aR];exact⟨(Ke h.1 a).1,F9 h.2 a⟩
def Dk:SV->Option (List SV)
 | .agg l=>bif Fu l&&Pa (qx l)then aM (qx l)else aaa
 | s=>bif aaE s then aM [s]else aaa
def Ht{a:Type}{b}{x}{y:a}(h:(bif b then aM x else aaa)=aM y):b=aE/\x=y:=by
 cases b
 ·cases h
 exact⟨rfl,acs⟩
def AY{s}{l}(h:Dk s=aM l) β:(val β s).cells=(cZ β l).toArray/\(cZ β l).all Value.oneCell'=aE:=by
 unfold Dk at h;split at h
 ·obtain⟨a,rfl⟩:=Ht h;simp at a;refine⟨?_,F9 a.2 β⟩;show(tI β _).toArray=_;rw[pS β a.1]
 obtain⟨a,rfl⟩:=Ht h;obtain⟨b,c⟩:=Ke a β;exact⟨c,by simp[cZ,b]⟩
def Nn:List aw->Option (List SV)
 | []=>aM []
 | v::r=>match Ve v,Nn r with
  | some s,aM l=>aM (s::l)
  | _,_=>aaa
def CE β:∀{l:List aw} {s:List SV},Nn l=aM s->cZ β s=l
 | [],s,h=>by simp[Nn,bJ]at h;subst h;rfl
 | v::r,s,h=>by
  simp[Nn]at h;split at h
  ·rename_i s c a b;simp at h;subst h;have:=CE β b;simp only[cZ,bS]at this⊢;rw[Di a,this]
  cases h
def spl(c:List SV)(o:Nat)(v:List SV):List SV:=c.take o++v++c.drop (o+I v)
def Kf β cs o vs:cZ β (spl cs o vs)=fE (cZ β cs) o (cZ β vs):=by
 simp[cZ,spl,fE,cK,mg,AN,bK]
def Kg{off}:∀s k c,off+k+I s<=(I c)->
  (s.zipIdx k).foldl (λc x=>c.setIfInBounds (off+x.2) x.1) c.toArray=(fE c (off+k) s).toArray
 | [],k,c,_=>by simp[fE]
 | v::s,k,c,h=>by
  simp at h;have e:c.toArray.setIfInBounds (off+k) v=(c.set (off+k) v).toArray:=aag
  rw[List.zipIdx_cons,C8];rw[e,Kg s _ _ (by rw[vS];omega)];simp[fE,aY];rw[show off+_=off+k+1 by omega,bh,sH J,Jr (aX _),List.drop_set_of_lt J,show off+k+1+I s=off+k+(I s+1) by omega];simp
def Ga(place:Nat->Option (Nat×Nat)):List SV->List (Nat×SV)->Option (List SV)
 | cells,[]=>aM cells
 | cells,(i,v)::r=>match place i,Dk v with
  | some (off,size),aM v=>bif Nat.beq (I v) size&&Nat.ble (off+I v) (I cells) then Ga place (spl cells off v) r else aaa
  | _,_=>aaa
def Dl β {place}:∀{parts:List _} {cells r:List SV},Ga place cells parts=aM r->Instr.fill place (cZ β cells).toArray (F8 β parts)=aM (cZ β r).toArray
 | [],cells,r,h=>by simp[Ga,bJ]at h;subst h;rfl
 | _::e,cells,r,h=>by
  simp[Ga]at h;split at h
  ·rename_i off s v p c;cases b:(Nat.beq (I v) s&&Nat.ble _ (I cells))with
   | false=>rw[b]at h;cases h
   | true=>
    rw[b]at h;simp only[aR]at b;have k:=dj b.1;have l:=dH b.2;obtain⟨g,_⟩:=AY c β;have i:=Dl β (parts:=e) (cells:=spl cells off v) h;rw[Kf]at i;simp only[F8,bS,Instr.fill,p,g,zj,gM];rw[aP aah];have d:=Kg (off:=off) (cZ β v) 0 (cZ β cells) (by rw[gM,gM];omega);rw[gy]at d;have j:(cZ β v).toArray.zipIdx.foldl (λf x=>f.setIfInBounds (off+x.2) x.1) (cZ β cells).toArray=(fE (cZ β cells) off (cZ β v)).toArray:=by
     rw[<-d];simp
    exact(bN (λa=>Instr.fill place a _) j).trans i
  cases h
def afQ(P:Program)(t:TypeId)(parts:List (Nat×SV)):Option (List SV):=
 match P.info? t,P.underlying t with
 | some i,aM (.array _ e)=>(match i.zero,P.info? e with
  | some z,aM e=>(match Nn z.cells.toList with
   | some z=>Ga (λa=>aM (a*e.size,e.size)) z parts
   | none=>aaa)
  | _,_=>aaa)
 | some t,aM (.struct fields)=>(match t.zero,fields.toList.mapM (λf=>(P.info? f.type).map λi=>(f.offset,i.size))with
  | some z,aM p=>(match Nn z.cells.toList with
   | some z=>Ga (p.toArray[·]?) z parts
   | none=>aaa)
  | _,_=>aaa)
 | _,_=>aaa
def aaF{P}{t}{parts}{r}(h:afQ P t parts=aM r) β w:(Instr.build t (F8 β parts).toArray).run P w=.ok (.agg (cZ β r).toArray) w:=by
 refine run_build w t _ _ ?_;unfold afQ at h;split at h
 ·rename_i i n e a b;split at h
  ·rename_i z e c d;split at h
   ·rename_i z f;have:=Dl β h;rw[CE β f]at this;simp[Program.built,a,b,c,d];simpa using this
   cases h
  cases h
 ·rename_i i f a b;split at h
  ·rename_i z p c d;split at h
   ·rename_i z e;have:=Dl β h;rw[CE β e]at this;simp[Program.built,a,b,c,d];simpa using this
   cases h
  cases h
 cases h
def sz(P:Program)(t:TypeId)(n:Nat):Bool:=match P.info? t with
 | some i=>Nat.beq i.size n
 | none=>aL
def tq{P}{t}{n}(h:sz P t n=aE) w:(sizeOf t).run P w=.ok n w:=by
 unfold sz at h;rcases hi:P.info? t with _|i
 ·rw[hi]at h;cases h
 rw[hi]at h;rw[<-dj h];simp[sizeOf,typeInfo,hi]
def yE(P:Program)(t:TypeId):Nat:=match P.info? t with
 | some i=>i.size
 | none=>0
def nI{P}{t}{d}(h:P.underlying t=aM d) w:(isAgg t).run P w=.ok (pe d) w:=by
 unfold isAgg;rw[Sem.run_bind,run_underlying h];cases d<;>rfl
def Np(b:SV)(K:Nat->(Prop->Prop)->Prop):Prop:=match b with
 | .il _ n=>bif decide (0<=n)then K n.toNat id else False
 | .int _ n=>∃v,K v λp=>n=v/\p
 | _=>False
def ph{b}{K}(h:Np b K):∃(v:Nat) (e:Prop->Prop) (k:IntKind) (n:Int),K v e/\tJ b=aM (k,n)/\(∀p,e p->n=v/\p):=by
 unfold Np at h;split at h
 ·rename_i k n;obtain⟨a,b⟩:=eG h;have a:=aO a;exact⟨_,_,k,n,b,rfl,λp c=>⟨J,c⟩⟩
 ·rename_i k n;obtain⟨v,b⟩:=h;exact⟨v,_,k,n,b,rfl,λp a=>a⟩
 exact h.elim
def slS(g:List (Bool×Bool))(s:Sl)(d:Nat)(st:St)(l h m:Option Operand)(K:SV->Prop):Prop:=match l,h,m with
 | some l,aaa,aaa=>cH (st.ev l) λa=>Np a λb e=>gi g (e (b<=s.n/\s.n<=s.c))/\K (.sl (s.cut b s.n s.c d))
 | none,aM h,aaa=>cH (st.ev h) λa=>Np a λb e=>gi g (e (b<=s.c))/\K (.sl (s.cut 0 b s.c d))
 | some l,aM h,aaa=>cH (st.ev l) λa=>cH (st.ev h) λb=>Np a λi e=>Np b λc f=>gi g (e (f (i<=c/\c<=s.c)))/\K (.sl (s.cut i c s.c d))
 | none,aM h,aM m=>cH (st.ev h) λb=>cH (st.ev m) λc=>Np b λi e=>Np c λa f=>gi g (e (f (i<=a/\a<=s.c)))/\K (.sl (s.cut 0 i a d))
 | some l,aM h,aM m=>cH (st.ev l) λa=>cH (st.ev h) λb=>cH (st.ev m) λc=>Np a λk e=>Np b λi f=>Np c λj n=>gi g (e (f (n (k<=i/\i<=j/\j<=s.c))))/\K (.sl (s.cut k i j d))
 | _,_,_=>False
def slT(g:List (Bool×Bool))(s:ByteArray)(st:St)(l h m:Option Operand)(K:SV->Prop):Prop:=match l,h,m with
 | some l,aaa,aaa=>cH (st.ev l) λa=>Np a λb e=>gi g (e (b<=s.size))/\K (.str (s.extract b s.size))
 | none,aM h,aaa=>cH (st.ev h) λa=>Np a λb e=>gi g (e (b<=s.size))/\K (.str (s.extract 0 b))
 | some l,aM h,aaa=>cH (st.ev l) λa=>cH (st.ev h) λb=>Np a λd e=>Np b λc f=>gi g (e (f (d<=c/\c<=s.size)))/\K (.str (s.extract d c))
 | _,_,_=>False
def ze(P:Program)(b:Builtin)(d:List Operand)(c:List TypeId)(st:St)(K:SV->Prop):Prop:=match b,d,c with
 | .len,[x],[t]=>cH (st.ev x) λa=>(match P.underlying t with
  | some (.slice _)=>cH (O9 a) λs=>K (.int .i64 s.n)
  | some .string=>cH (yD a) λs=>K (.int .i64 s.size)
  | _=>False)
 | .cap,[x],[t]=>cH (st.ev x) λa=>(match P.underlying t with
  | some (.slice _)=>cH (O9 a) λs=>K (.int .i64 s.c)
  | _=>False)
 | .min,[x,y],_=>cH (st.ev x) λa=>cH (st.ev y) λb=>cH (tJ a) λp=>cH (tJ b) λq=>K (.int p.1 (if q.2<p.2 then q.2 else p.2))
 | .max,[x,y],_=>cH (st.ev x) λa=>cH (st.ev y) λb=>cH (tJ a) λp=>cH (tJ b) λq=>K (.int p.1 (if q.2>p.2 then q.2 else p.2))
 | _,_,_=>False
def nif:TypeDesc->Bool
 | .interface _=>aL
 | _=>aE
def cvP(P:Program)(g:List (Bool×Bool))(st:St)(s d:TypeId)(a:SV)(K:SV->Prop):Prop:=match P.underlying s,P.underlying d with
 | some (.int _),aM (.int kd)=>cH (tJ a) λp=>K (.int kd (kd.wrap p.2))
 | some .string,aM .string=>cH (yD a) λu=>K (.str u)
 | some (.slice e),aM .string=>(match P.underlying e with
  | some (.int .u8)=>cH (O9 a) λu=>bif st.mv then False else ∃l,gi g (vD st.w0 u l)/\K (.str ⟨l.toArray⟩)
  | _=>False)
 | _,_=>False
def ldP(P:Program)(g:List (Bool×Bool))(st:St)(t:TypeId)(a:SV)(K:SV->Prop):Prop:=match P.underlying t with
 | none=>False
 | some d=>(match a with
  | .box i o=>cH (dy st.bx i) λb=>bif b.ok&&sz P t (I ((b.cells.drop o).take (yE P t)))&&(pe d||Nat.beq (I ((b.cells.drop o).take (yE P t))) 1)then K (Su (pe d) ((b.cells.drop o).take (yE P t)))else False
  | .ad p=>bif !st.mv&&sz P t (I (Vg P 12 t))&&(pe d||Nat.beq (I (Vg P 12 t)) 1)then exl (Vg P 12 t) λv=>gi g (Cells st.w0 p (cZ β0 v))/\K (Su (pe d) v)else False
  | _=>False)
def Pb:Operand->Bool
 | .const .nilIface=>aE
 | _=>aL
def niV:aw->Bool
 | .nilIface=>aE
 | _=>aL
def Ifc(v:aw):Prop:=v=.nilIface∨∃t x,v=.iface t x
def niP(P:Program)(g:List (Bool×Bool))(op:BinOp)(t:TypeId)(a:SV)(K:SV->Prop):Prop:=match a,P.underlying t,op with
 | .raw v,aM (.interface _),.eql=>gi g (Ifc v.v)/\K (.bt (niV v.v))
 | .raw v,aM (.interface _),.neq=>gi g (Ifc v.v)/\K (.bt (!niV v.v))
 | _,_,_=>False
def Vj{y}(h:Pb y=aE):y=.const .nilIface:=by grind [Pb]
def ady{P}{t}{ms}{v}(h:P.underlying t=aM (.interface ms))(a:Ifc v) w:(Op.equal t v .nilIface).run P w=.ok (niV v) w:=by
 unfold Op.equal Op.maxDepth Op.equalIn;rcases a with rfl | ⟨b,x,rfl⟩<;>simp[run_underlying h]<;>rfl
def Kh{P}{op}{t}{x}{v}(h:Ifc v) w:(eqGuard op t x (.const .nilIface) v .nilIface).run P w=.ok () w:=by
 unfold eqGuard;rcases h with rfl | ⟨a,x,rfl⟩<;>first | rfl | simp
def afR{P}{gs}{st}{K}{op}{t ty}{x}{a}(k:st.ev x=aM a)(h:niP P gs op t a K):∃v,K v/\(gh gs->∀b c j,Rep b st c j->∀d i p f g w,
  (execOp c.eval ⟨d,.binOp op t x (.const .nilIface) ty,i,p,f,g⟩).run P w=.ok (.value (val b v)) w):=by
 unfold niP at h;split at h
 ·rename_i v s u;refine⟨_,h.2,λn b c j R d i p f g w=>?_⟩;have a:=jB h.1 n;have e:c.eval x=v.v:=R.ev k;have l:c.eval (.const .nilIface)=.nilIface:=rfl;have m:binOp .eql t v.v .nilIface=(do pure (.bool (<-Op.equal t v.v .nilIface))):=by
   rcases a with h | ⟨o,x,h⟩<;>rw[h]<;>rfl
  simp[execOp,e,l,m,Kh a,ady u a];rfl
 ·rename_i v s u;refine⟨_,h.2,λn b c j R d i p f g w=>?_⟩;have a:=jB h.1 n;have e:c.eval x=v.v:=R.ev k;have l:c.eval (.const .nilIface)=.nilIface:=rfl;have m:binOp .neq t v.v .nilIface=(do pure (.bool (!(<-Op.equal t v.v .nilIface)))):=by
   rcases a with h | ⟨o,x,h⟩<;>rw[h]<;>rfl
  simp[execOp,e,l,m,Kh a,ady u a];rfl
 exact h.elim
def Pc(p:Addr)(i:Int)(len s:Nat)(q:Addr):Prop:=0<=i/\i<len/\p.add (i.toNat*s)=q
def afS(n:Int)(F:Nat->Prop):Nat->Prop
 | 0=>True
 | 1=>n=0->F 0
 | j+2=>afS n F (j+1)/\(n=((j+1))->F (j+1))
def Pe{n}{F}:∀{m:Nat},afS n F m->0<=n->n<m->F n.toNat
 | 0,_,h,a=>J
 | 1,h,a,b=>by
  have e:n=0:=J
  subst e;exact h rfl
 | j+2,h,a,b=>by
  by_cases e:n=((j+1))
  ·have:=h.2 e;simp_all
  exact Pe h.1 a J
def pur(P:Program)(g:List (Bool×Bool))(st:St)(o:Op)(K:SV->Prop):Prop:=match o with
 | .move x=>cH (st.ev x) K
 | .assign x=>cH (st.ev x) K
 | .pick c x y=>cH (st.ev c) λc=>(match c with
  | .bl aE=>cH (st.ev x) K
  | .bl aL=>cH (st.ev y) K
  | _=>False)
 | .binOp op t x y _=>cH (st.ev x) λa=>cH (st.ev y) λb=>bif Pb y then niP P g op t a K else afP P g op t a b K
 | .unOp .not _ x=>cH (st.ev x) λa=>(match a with
  | .bl b=>K (.bl (!b))
  | .bt b=>K (.bt (!b))
  | _=>False)
 | .unOp .neg _ x=>cH (st.ev x) λa=>cH (tJ a) λp=>K (.int p.1 (p.1.wrap (0-p.2)))
 | .convert s d x=>cH (st.ev x) λa=>cvP P g st s d a K
 | .extract x i=>cH (st.ev x) λa=>(match a with
  | .tup l=>bif Fu l then cH ((qx l)[i]?) K else False
  | _=>False)
 | .build t p=>cH (st.Z5 p.toList) λps=>cH (afQ P t ps) λr=>K (.agg (Hs r))
 | .makeFunc n h c=>(match n with
  | .func f=>cH (st.RD h.toList) λa=>cH (st.RD c.toList) λb=>K (.fn f (Hs a) (Hs b))
  | _=>False)
 | .makeInterface t x=>cH (st.ev x) λa=>cH (P.underlying t) λd=>bif nif d&&cln (λ_=>aL) a then K (.raw ⟨.iface t (val β0 a),rfl⟩)else False
 | .nilCheck x=>cH (st.ev x) λa=>(match a with
  | .ad p=>K (.ad p)
  | .box i o=>K (.box i o)
  | .ptr p=>∃q,gi g (p=aM q)/\K (.ad q)
  | .fn f .e c=>K (.fn f .e c)
  | _=>False)
 | .fieldAddr s x k=>cH (st.ev x) λa=>(match P.underlying s with
  | some (.struct h)=>cH (h[k]?) λf=>bif Nat.ble 1 (yE P f.type)then(match a with
   | .ad p=>K (.ad (p.add f.offset))
   | .box i o=>K (.box i (o+f.offset))
   | _=>False)else False
  | _=>False)
 | .field t x k=>cH (st.ev x) λa=>(match a,P.underlying t with
  | .agg l,aM (.struct h)=>cH (h[k]?) λf=>cH (P.underlying f.type) λd=>bif Fu l&&sz P f.type (I (((qx l).drop f.offset).take (yE P f.type)))&&(pe d||Nat.beq (I (((qx l).drop f.offset).take (yE P f.type))) 1)
   then K (Su (pe d) (((qx l).drop f.offset).take (yE P f.type)))else False
  | _,_=>False)
 | .indexAddr t x i=>cH (st.ev x) λa=>cH (st.ev i) λj=>cH (tJ j) λn=>(match P.underlying t with
  | some (.slice e)=>cH (O9 a) λs=>bif (P.info? e).isSome then ∃q,gi g (cR s n.2 (yE P e) q)/\K (.ad q)else False
  | some (.array len e)=>bif (P.info? e).isSome then(match a,j with
   | .box b o,.il _ n=>bif decide (0<=n)&&decide (n<len)then K (.box b (o+n.toNat*yE P e))else False
   | .ad p,.il _ n=>bif decide (0<=n)&&decide (n<len)then K (.ad (p.add (n.toNat*yE P e)))else False
   | .ad p,_=>∃q,gi g (Pc p n.2 len (yE P e) q)/\K (.ad q)
   | .box b o,_=>bif Nat.ble len 8 then(0<=n.2/\n.2<len)/\afS n.2 (λj=>K (.box b (o+j*yE P e))) len else False
   | _,_=>False)else False
  | _=>False)
 | .load t x=>cH (st.ev x) λa=>ldP P g st t a K
 | .index t x i=>cH (st.ev x) λa=>cH (st.ev i) λj=>cH (tJ j) λn=>(match P.underlying t with
  | some .string=>cH (yD a) λs=>∃c,gi g (0<=n.2/\s[n.2.toNat]? =aM c)/\K (.int .u8 c.toNat)
  | _=>False)
 | .slice t x l i m=>cH (st.ev x) λa=>(match P.underlying t with
  | some (.slice e)=>cH (O9 a) λs=>bif (P.info? e).isSome then slS g s (yE P e) st l i m K else False
  | some .string=>cH (yD a) λs=>slT g s st l i m K
  | _=>False)
 | .call c=>(match c.callee with
  | .builtin b=>ze P b c.args.toList c.argTypes.toList st K
  | _=>False)
 | _=>False
def mem:Op->Bool
 | .load _ _=>aE
 | .convert _ _ _=>aE
 | _=>aL
def Y(P:Program)(st:St)(o:Op)(v:SV):Prop:=∀c a b,Rep c st a b->∀d t p f g w,(mem o=aE->w.heap=b.heap)->
 (execOp a.eval ⟨d,o,t,p,f,g⟩).run P w=.ok (.value (val c v)) w
def nJ{P}{t}(h:(P.info? t).isSome=aE) w:(sizeOf t).run P w=.ok (yE P t) w:=by
 unfold yE;rcases hi:P.info? t with _|i
 ·rw[hi]at h;cases h
 simp[sizeOf,typeInfo,hi]
def Hu b o n:(⟨b,o,aaa⟩:Addr).add n=⟨b,o+n,aaa⟩:=by unfold Addr.add;split<;>simp_all
def sK{d}(h:pe d=aE) β l:val β (Su (pe d) l)=.agg (cZ β l).toArray:=by
 rw[h];show Value.agg (tI β _).toArray=_;rw[uN]
def Dm{l:List SV}(h:Nat.beq (I l) 1=aE):∃s,l=[s]:=by
 have:=dj h
 match l,this with
 | [s],_=>exact⟨s,rfl⟩
section
variable {P:Program} {gs:List (Bool×Bool)} {st:St} {K:SV->Prop}
def afU{t}{x}{a}(c:st.ev x=aM a)(h:ldP P gs st t a K):∃v,K v/\(gh gs->Y P st (.load t x) v):=by
 unfold ldP at h;split at h
 ·exact h.elim
 rename_i d u;split at h
 ·rename_i i j;obtain⟨b,m,h⟩:=bI h;obtain⟨f,k⟩:=eG h;simp only[aR,cE]at f;obtain⟨⟨r,z⟩,o⟩:=f;refine⟨_,k,λ_ a act D g t A p x y w n=>?_⟩;have B:=(g.bx i b m r).blk;have E:Blk w (a i) b.ty (cZ a b.cells):=by unfold Blk at B⊢;rw[n rfl];exact B
  have R:=g.ev c;generalize q:(b.cells.drop j).take _=l at*
  have C:Cells w _ (cZ a l):=E.I4 j _ (by
   rw[<-q];simp only[cZ,mg,AN];rw[cx,tG];simp only[cJ,bK];omega)
  rcases o with v | o
  ·rw[sK v];have:=nI (P:=P) u w;rw[v]at this;exact xf this (tq z w) (gM a l) R C
  cases v:pe d
  ·obtain⟨s,rfl⟩:=Dm o;have:=nI (P:=P) u w;rw[v]at this;exact Hg this R (Cells.one C)
  have e:=sK v a l;rw[v]at e;rw[e];have:=nI (P:=P) u w;rw[v]at this;exact xf this (tq z w) (gM a l) R C
 ·rename_i ad;obtain⟨f,j⟩:=eG h;simp only[aR,cE,de]at f;obtain⟨⟨n,z⟩,o⟩:=f;obtain⟨b,⟨F,K⟩,N,E⟩:=wc j;refine⟨_,K,λk a act y g t x p q i w l=>?_⟩;have m:=g.still n;subst m;have C:Cells w ad (cZ a b):=by
   rw[jA (β:=a) (β':=β0) (g:=λ_=>aL) (λr h=>aal) b (E _)];exact(jB F k).keep (by rw[l rfl])
  have R:=g.ev c;rw[<-N]at z o;rcases o with v | o
  ·rw[sK v];have:=nI (P:=P) u w;rw[v]at this;exact xf this (tq z w) (gM a b) R C
  cases v:pe d
  ·obtain⟨s,rfl⟩:=Dm o;have:=nI (P:=P) u w;rw[v]at this;exact Hg this R (Cells.one C)
  have e:=sK v a b;rw[v]at e;rw[e];have:=nI (P:=P) u w;rw[v]at this;exact xf this (tq z w) (gM a b) R C
 exact h.elim
def afV{s d}{x}{a}(b:st.ev x=aM a)(h:cvP P gs st s d a K):∃v,K v/\(gh gs->Y P st (.convert s d x) v):=by
 unfold cvP at h;split at h
 ·rename_i s kd a c;obtain⟨⟨k,n⟩,e,h⟩:=bI h;exact⟨_,h,λ_ f act l R d t p g i w j=>F3 (run_underlying a w) (run_underlying c w) ((R.ev b).trans (dS e f))⟩
 ·rename_i a c;obtain⟨u,e,h⟩:=bI h;exact⟨_,h,λ_ f act k R d t p g i w j=>F4 (run_underlying a w) (run_underlying c w) ((R.ev b).trans (jQ e f))⟩
 ·rename_i e a c;split at h
  ·rename_i d;obtain⟨u,e,h⟩:=bI h;cases m:st.mv
   ·rw[m]at h;obtain⟨l,F,K⟩:=h;refine⟨_,K,λg i act n R s t p j k o f=>?_⟩;have w:=R.still m;subst w;exact Dd a d c ((R.ev b).trans (mN e i)) (Nk _ _ (by rw[f rfl]) (jB F g))
   rw[m]at h;exact h.elim
  exact h.elim
 exact h.elim
def afW{b}{xs}{ts}(h:ze P b xs ts st K):∃v,K v/\(gh gs->Y P st (.call ⟨.builtin b,xs.toArray,ts.toArray⟩) v):=by
 unfold ze at h;split at h
 ·obtain⟨a,x,h⟩:=bI h;split at h
  ·rename_i u;obtain⟨s,a,h⟩:=bI h;exact⟨_,h,λ_ b act e R d t p f g w c=>akG (run_underlying u w) ((R.ev x).trans (mN a b))⟩
  ·rename_i u;obtain⟨s,a,h⟩:=bI h;exact⟨_,h,λ_ b act e R d t p f g w c=>U6 (run_underlying u w) ((R.ev x).trans (jQ a b))⟩
  exact h.elim
 ·obtain⟨a,x,h⟩:=bI h;split at h
  ·rename_i u;obtain⟨s,a,h⟩:=bI h;exact⟨_,h,λ_ b act e R d t p f g w c=>akL (run_underlying u w) ((R.ev x).trans (mN a b))⟩
  exact h.elim
 ·obtain⟨a,x,h⟩:=bI h;obtain⟨b,y,h⟩:=bI h;obtain⟨⟨k,m⟩,e,h⟩:=bI h;obtain⟨_,q,h⟩:=bI h;exact⟨_,h,λ_ c act w R d t p f g j i=>akM ((R.ev x).trans (dS e c)) ((R.ev y).trans (dS q c))⟩
 ·obtain⟨a,x,h⟩:=bI h;obtain⟨b,y,h⟩:=bI h;obtain⟨⟨k,m⟩,e,h⟩:=bI h;obtain⟨_,q,h⟩:=bI h;exact⟨_,h,λ_ c act w R d t p f g j i=>akN ((R.ev x).trans (dS e c)) ((R.ev y).trans (dS q c))⟩
 exact h.elim
def afX{t e}{x}{lo hi mx}{a}{s}(u:P.underlying t=aM (.slice e))(E:(P.info? e).isSome=aE)(c:st.ev x=aM a)(b:O9 a=aM s)(h:slS gs s (yE P e) st lo hi mx K):∃v,K v/\(gh gs->Y P st (.slice t x lo hi mx) v):=by
 unfold slS at h;split at h
 ·obtain⟨i,e,h⟩:=bI h;obtain⟨q,k,n,r,⟨F,K⟩,o,f⟩:=ph h;refine⟨_,K,λg a act s R d t p j l w m=>?_⟩;obtain⟨rfl,f1,f2⟩:=f _ (jB F g);exact M8 (run_underlying u w) (nJ E w) ((R.ev c).trans (mN b a)) ((R.ev e).trans (dS o a)) f1 f2 (aX _)
 ·obtain⟨i,e,h⟩:=bI h;obtain⟨q,k,n,r,⟨F,K⟩,o,f⟩:=ph h;refine⟨_,K,λg a act s R d t p j l w m=>?_⟩;obtain⟨rfl,f1⟩:=f _ (jB F g);exact M9 (run_underlying u w) (nJ E w) ((R.ev c).trans (mN b a)) ((R.ev e).trans (dS o a)) (be _) f1 (aX _)
 ·obtain⟨l,e,h⟩:=bI h;obtain⟨m,f,h⟩:=bI h;obtain⟨y,q,v,A,h,o,j⟩:=ph h;obtain⟨z,r,x,B,⟨F,K⟩,i,k⟩:=ph h;refine⟨_,K,λg a act D R d C p n s w t=>?_⟩;obtain⟨rfl,f1⟩:=j _ (jB F g);obtain⟨rfl,f1,f2⟩:=k _ f1;exact Na (run_underlying u w) (nJ E w) ((R.ev c).trans (mN b a)) ((R.ev e).trans (dS o a)) ((R.ev f).trans (dS i a)) f1 f2 (aX _)
 ·obtain⟨l,e,h⟩:=bI h;obtain⟨m,f,h⟩:=bI h;obtain⟨y,q,v,A,h,o,j⟩:=ph h;obtain⟨z,r,x,B,⟨F,K⟩,i,k⟩:=ph h;refine⟨_,K,λg a act D R d C p n s w t=>?_⟩;obtain⟨rfl,f1⟩:=j _ (jB F g);obtain⟨rfl,f1,f2⟩:=k _ f1;exact Nc (run_underlying u w) (nJ E w) ((R.ev c).trans (mN b a)) ((R.ev e).trans (dS o a)) ((R.ev f).trans (dS i a)) (be _) f1 f2
 ·obtain⟨r,e,h⟩:=bI h;obtain⟨s,f,h⟩:=bI h;obtain⟨t,g,h⟩:=bI h;obtain⟨G,x,C,J,h,o,l⟩:=ph h;obtain⟨H,y,D,L,h,j,m⟩:=ph h;obtain⟨q,z,k3,M,⟨F,K⟩,k,n⟩:=ph h;refine⟨_,K,λi a act P R d N p v A w B=>?_⟩;obtain⟨rfl,f1⟩:=l _ (jB F i);obtain⟨rfl,f1⟩:=m _ f1;obtain⟨rfl,f1,f2,f3⟩:=n _ f1;exact Nf (run_underlying u w) (nJ E w) ((R.ev c).trans (mN b a)) ((R.ev e).trans (dS o a)) ((R.ev f).trans (dS j a)) ((R.ev g).trans (dS k a)) f1 f2 f3
 exact h.elim
def afY{t}{x}{lo hi mx}{a}{s}(u:P.underlying t=aM .string)(c:st.ev x=aM a)(b:yD a=aM s)(h:slT gs s st lo hi mx K):∃v,K v/\(gh gs->Y P st (.slice t x lo hi mx) v):=by
 unfold slT at h;split at h
 ·obtain⟨i,e,h⟩:=bI h;obtain⟨q,k,n,r,⟨F,K⟩,o,f⟩:=ph h;refine⟨_,K,λg a act s R d t p j l w m=>?_⟩;obtain⟨rfl,f1⟩:=f _ (jB F g);exact Hi (run_underlying u w) ((R.ev c).trans (jQ b a)) ((R.ev e).trans (dS o a)) f1 (aX _)
 ·obtain⟨i,e,h⟩:=bI h;obtain⟨q,k,n,r,⟨F,K⟩,o,f⟩:=ph h;refine⟨_,K,λg a act s R d t p j l w m=>?_⟩;obtain⟨rfl,f1⟩:=f _ (jB F g);exact Hj (run_underlying u w) ((R.ev c).trans (jQ b a)) ((R.ev e).trans (dS o a)) (be _) f1
 ·obtain⟨l,e,h⟩:=bI h;obtain⟨m,f,h⟩:=bI h;obtain⟨y,q,v,A,h,o,j⟩:=ph h;obtain⟨z,r,x,B,⟨F,K⟩,i,k⟩:=ph h;refine⟨_,K,λg a act D R d C p n s w t=>?_⟩;obtain⟨rfl,f1⟩:=j _ (jB F g);obtain⟨rfl,f1,f2⟩:=k _ f1;exact Hk (run_underlying u w) ((R.ev c).trans (jQ b a)) ((R.ev e).trans (dS o a)) ((R.ev f).trans (dS i a)) f1 f2
 exact h.elim
def aaG{t}{d}{l:List aw}{off n}(u:P.underlying t=aM d)(a:sz P t n=aE)(v:pe d=aE) w:(part t l.toArray off).run P w=.ok (.agg ((l.drop off).take n).toArray) w:=by
 have h:=nI (P:=P) u w;rw[v]at h;unfold part;simp only[Sem.run_bind,h,Result.andThen_ok,Cy,tq a w,Sem.run_pure];simp
def Vk{t}{d}{l:List aw}{off}{v}(u:P.underlying t=aM d)(a:pe d=aL)(b:l[off]? =aM v) w:(part t l.toArray off).run P w=.ok v w:=by
 have h:=nI (P:=P) u w;rw[a]at h;unfold part;simp_all
def Nq{o:Op}(h:pur P gs st o K):∃v,K v/\(gh gs->Y P st o v):=by
 unfold pur at h;split at h
 ·obtain⟨v,x,K⟩:=bI h;exact⟨v,K,λ_ e act w R d t p a g c b=>by simp only[execOp,R.ev x,Sem.run_pure]⟩
 ·obtain⟨v,x,K⟩:=bI h;exact⟨v,K,λ_ e act w R d t p a g c b=>by simp only[execOp,R.ev x,Sem.run_pure]⟩
 ·obtain⟨c,a,h⟩:=bI h;split at h
  ·obtain⟨v,x,K⟩:=bI h;exact⟨v,K,λ_ e act w R d t p f g c b=>aar (R.ev a) (R.ev x)⟩
  ·obtain⟨v,x,K⟩:=bI h;exact⟨v,K,λ_ e act w R d t p f g c b=>aas (R.ev a) (R.ev x)⟩
  exact h.elim
 ·rename_i op t x y f;obtain⟨a,c,h⟩:=bI h;obtain⟨b,d,h⟩:=bI h;cases n:Pb y with
  | true=>
   rw[n]at h;have e:=Vj n;subst e;obtain⟨v,K,r⟩:=afR c h;exact⟨v,K,λg a act w R s t p b i k j=>r g a act w R _ _ _ _ _ _⟩
  | false=>
  rw[n]at h;obtain⟨v,K,r⟩:=aaD h;exact⟨v,K,λg a act w R s t p b e j i=>r g a act _ _ _ _ _ _ _ _ _ (R.ev c) (R.ev d)⟩
 ·obtain⟨a,x,h⟩:=bI h;split at h
  ·exact⟨_,h,λ_ e act w R d t p a g c b=>by simp only[execOp,R.ev x];rfl⟩
  ·exact⟨_,h,λ_ e act w R d t p a g c b=>by simp only[execOp,R.ev x];rfl⟩
  exact h.elim
 ·obtain⟨a,x,h⟩:=bI h;obtain⟨⟨k,n⟩,b,h⟩:=bI h;exact⟨_,h,λ_ i act w R d t p f g e c=>by simp only[execOp,R.ev x,dS b];rfl⟩
 ·obtain⟨a,x,h⟩:=bI h;exact afV x h
 ·rename_i x i;obtain⟨a,b,h⟩:=bI h;split at h
  ·rename_i l;obtain⟨f,h⟩:=eG h;obtain⟨v,g,K⟩:=bI h;refine⟨v,K,λ_ a act w R d t p j k n m=>?_⟩;have e:=(R.ev b).trans (by
    show Value.tuple (tI a l).toArray=_;rw[pS a f])
   have c:(cZ a (qx l))[i]? =aM (val a v):=by rw[cZ,cF,g];rfl
   simp only[execOp,e,Instr.extract];simp[c]
  exact h.elim
 ·rename_i t a;obtain⟨ps,c,h⟩:=bI h;obtain⟨r,f,K⟩:=bI h;refine⟨_,K,λ_ b act l R d k p g i w j=>?_⟩;have e:val b (.agg (Hs r))=.agg (cZ b r).toArray:=by
   show Value.agg (tI b (Hs r)).toArray=_;rw[uN]
  rw[e];obtain⟨pl⟩:=a;exact aat (R.Z5 c) (aaF f b w)
 ·rename_i n s c;split at h
  ·rename_i f;obtain⟨a,i,h⟩:=bI h;obtain⟨b,j,K⟩:=bI h;refine⟨_,K,λ_ m act w R d t p e g k l=>?_⟩;obtain⟨cl⟩:=c;have:=M6 (P:=P) (w:=k) (dst:=d) (t':=t) (p:=p) (af:=e) (g:=g) (fn:=.func f) (R.RD i) (R.RD j);rw[<-uN,<-uN]at this;exact this
  exact h.elim
 ·obtain⟨a,x,h⟩:=bI h;obtain⟨d,u,h⟩:=bI h;obtain⟨b,K⟩:=eG h;simp at b;refine⟨_,K,λ_ c act k R s t p f g w i=>?_⟩;have e:val c a=val β0 a:=kB (g:=λ_=>aL) (λj h=>aal) a b.2;exact aau (run_underlying u w) (by unfold nif at b;cases d<;>first | rfl | exact b.1) ((R.ev x).trans e)
 ·obtain⟨a,x,h⟩:=bI h;split at h
  ·exact⟨_,h,λ_ e act w R d t p a g c b=>U1 (R.ev x)⟩
  ·exact⟨_,h,λ_ e act w R d t p a g c b=>U1 (R.ev x)⟩
  ·obtain⟨q,F,K⟩:=h;refine⟨_,K,λg f act w R d t p a b e c=>U1 ((R.ev x).trans ?_)⟩;have:=jB F g;subst this;rfl
  ·exact⟨_,h,λ_ f act w R d t p a g c b=>by
    have e:=R.ev x;simp only[execOp,e,Sem.run_pure,val,tI,List.headD_cons]⟩
  exact h.elim
 ·obtain⟨a,x,h⟩:=bI h;split at h
  ·rename_i c u;obtain⟨f,b,h⟩:=bI h;obtain⟨a,h⟩:=eG h;have a:=dH a;have s:(P.info? f.type).isSome=aE:=by
    unfold yE at a;split at a
    ·rename_i h;rw[h];rfl
    omega
   obtain⟨d,m⟩:∃d,yE P f.type=d+1:=⟨yE P f.type-1,J⟩
   split at h
   ·exact⟨_,h,λ_ k act j R t i p f g w e=>O5 (run_underlying u w) b (by rw[nJ s,m]) (R.ev x) rfl⟩
   ·exact⟨_,h,λ_ k act j R t i p f g w e=>O5 (run_underlying u w) b (by rw[nJ s,m]) (R.ev x) (Hu _ _ _)⟩
   exact h.elim
  exact h.elim
 ·obtain⟨a,x,h⟩:=bI h;split at h
  ·rename_i l m u;obtain⟨f,g,h⟩:=bI h;obtain⟨d,hd,h⟩:=bI h;obtain⟨c,K⟩:=eG h;simp only[aR,cE]at c;obtain⟨⟨i,z⟩,b⟩:=c;refine⟨_,K,λ_ a act y R t r p j n w q=>?_⟩;have e:=(R.ev x).trans (by
    show Value.agg (tI a l).toArray=_;rw[pS a i])
   have v:cZ a (((qx l).drop f.offset).take (yE P f.type))=((cZ a (qx l)).drop f.offset).take (yE P f.type):=by
    simp only[cZ,mg,AN]
   have k:(part f.type (cZ a (qx l)).toArray f.offset).run P w=.ok (val a (Su (pe d) (((qx l).drop f.offset).take (yE P f.type)))) w:=by
    cases e:pe d
    ·rcases b with b | b
     ·rw[e]at b;cases b
     obtain⟨s,d⟩:=Dm b;rw[d];refine Vk hd e ?_ w;have h:(((qx l).drop f.offset).take (yE P f.type))[0]? =aM s:=by rw[d];rfl
     rw[yh]at h;split at h
     ·rw[gH,gy]at h;rw[cZ,cF,h];rfl
     cases h
    have d:=sK e a (((qx l).drop f.offset).take (yE P f.type));rw[e]at d;rw[d,v];rw[aaG (l:=cZ a (qx l)) (off:=f.offset) hd z e w];congr 3;rw[tG];simp only[cx,cJ,gM];omega
   simp only[execOp,e,Instr.field,Sem.run_bind,run_underlying u,Result.andThen_ok,g,asAgg,Sem.run_pure,k]
  exact h.elim
 ·obtain⟨a,x,h⟩:=bI h;obtain⟨c,j,h⟩:=bI h;obtain⟨⟨k,n⟩,b,h⟩:=bI h;split at h
  ·rename_i e u;obtain⟨s,f,h⟩:=bI h;obtain⟨i,h⟩:=eG h;obtain⟨q,F,K⟩:=h;exact⟨_,K,λg a act n R d t p k l w m=>U2 (run_underlying u w) (nJ i w) ((R.ev x).trans (mN f a)) ((R.ev j).trans (dS b a)) (jB F g)⟩
  ·rename_i len e u;obtain⟨i,h⟩:=eG h;split at h
   ·obtain⟨a,K⟩:=eG h;simp at a;exact⟨_,K,λe m act l R d t p f g w k=>zr (run_underlying u w) (nJ i w) (R.ev x) (R.ev j) a.1 a.2 (Hu _ _ _)⟩
   ·obtain⟨a,K⟩:=eG h;simp at a;exact⟨_,K,λe m act l R d t p f g w k=>zr (run_underlying u w) (nJ i w) (R.ev x) (R.ev j) a.1 a.2 rfl⟩
   ·obtain⟨q,F,K⟩:=h;exact⟨_,K,λg a act l R d t p f e w k=>zr (run_underlying u w) (nJ i w) (R.ev x) ((R.ev j).trans (dS b a)) (jB F g).1 (jB F g).2.1 (jB F g).2.2⟩
   ·obtain⟨_,⟨a,d⟩,K⟩:=eG h;exact⟨_,Pe K a d,λk e act m R s t p f g w l=>zr (run_underlying u w) (nJ i w) (R.ev x) ((R.ev j).trans (dS b e)) a d (Hu _ _ _)⟩
   exact h.elim
  exact h.elim
 ·obtain⟨a,x,h⟩:=bI h;exact afU x h
 ·obtain⟨a,x,h⟩:=bI h;obtain⟨d,j,h⟩:=bI h;obtain⟨⟨k,n⟩,b,h⟩:=bI h;split at h
  ·rename_i u;obtain⟨s,e,h⟩:=bI h;obtain⟨c,F,K⟩:=h;exact⟨_,K,λg a act m R t l p f i w k=>M7 (run_underlying u w) ((R.ev x).trans (jQ e a)) ((R.ev j).trans (dS b a)) (jB F g).1 (jB F g).2⟩
  exact h.elim
 ·obtain⟨a,x,h⟩:=bI h;split at h
  ·rename_i e u;obtain⟨s,a,h⟩:=bI h;obtain⟨i,h⟩:=eG h;exact afX u i x a h
  ·rename_i u;obtain⟨s,a,h⟩:=bI h;exact afY u x a h
  exact h.elim
 ·rename_i c;obtain⟨a,⟨x⟩,⟨t⟩⟩:=c;split at h
  ·rename_i b c;subst c;exact afW h
  exact h.elim
 exact h.elim
end
structure acx (β:Nat->Nat) (n:Nat) (fr:List (Nat×Nat×SV)) (D:List Deferred) (a:Act):Prop where
 sz:a.tmps.size=n
 df:a.defers=D
 at_:∀i p,eX fr i=aM p->i<n->a.tmps[i]? =aM (val β p.2)
def uO{β}{n}{fr}{D}{a}(b:acx β n fr D a):∃u,a=frD n u (cv β fr) D:=by
 refine⟨λi=>(a.tmps[i]?).getD undef,?_⟩;obtain⟨t,df⟩:=a;obtain⟨c,d,e⟩:=b;dsimp only at c d e;congr 1;apply Array.ext';apply oe;intro i;by_cases h:i<n
 ·rw[pR _ _ _ _ _ h,bP];rcases hl:eX fr i with _|p
  ·rw[Hr (l:=cv β fr) afo]
   grind
  rw[xi (l:=cv β fr) (v:=val β p.2) afo]
  grind
 rw[dG aah,dG (by rw[qQ];exact jy h)]
def aaH{β}{n}{fr}{D}{us}:acx β n fr D (frD n us (cv β fr) D):=by
 refine⟨by simp[frD,qQ],rfl,λi p hl h=>?_⟩;simp[frD];rw[pR _ _ _ _ _ h,bP,xi (l:=cv β fr) (v:=val β p.2) afo]
def Rep.ok{β}{st}{a}{w}(h:Rep β st a w):acx β st.n st.fr (dfs st.df) a:=by
 obtain⟨u,rfl⟩:=h.fr;exact aaH
def tst(st:St)(o:List Oper)(j:Nat):Option (Nat×SV):=match jd o j with
 | some a=>(match a.dst with
  | some d=>(st.get d).map λs=>(d,s)
  | none=>aaa)
 | none=>aaa
def Dp{st}{ops}{j d}{s}(h:tst st ops j=aM (d,s)):∃o,jd ops j=aM o/\o.dst=aM d/\st.get d=aM s:=by
 unfold tst at h;split at h
 ·rename_i b a;split at h
  ·rename_i e c;cases g:st.get e<;>grind
  cases h
 cases h
section
variable {β:Nat->Nat} {st:St} {a:Act} {w:av} {ops:List Oper} {o:Oper} {j d:Nat} {want b:Bool}
def tK(R:Rep β st a w)(g:o.guard=aM (j,want)){s}(t:tst st ops j=aM (d,s))(f:val β s=.bool b):Region.wanted o (yielded ops.toArray a.tmps)=(b==want):=by
 obtain⟨i,h,c,e⟩:=Dp t;obtain⟨u,rfl⟩:=R.fr;exact wtF g h c (by rw[<-f];exact St.evO β e) rfl
def AZ(R:Rep β st a w)(g:o.guard=aM (j,want))(t:tst st ops j=aM (d,.un)):Region.wanted o (yielded ops.toArray a.tmps)=aL:=by
 obtain⟨e,h,b,c⟩:=Dp t;obtain⟨u,rfl⟩:=R.fr;exact wuF g h b (St.evO β (x:=.tmp d) (s:=.un) c)
def Rep.set(R:Rep β st a w){s s'}(h:st.get d=aM s)(v:val β s=val β s'):Rep β (st.put (aM d) s') a w:=by
 refine⟨uO ⟨R.ok.sz,R.ok.df,λc p hl i=>?_⟩,R.bx,R.ne,R.only,R.still⟩;simp[St.put,eX]at hl;cases b:Nat.beq d c
 ·rw[b]at hl;exact R.ok.at_ c p af5 i
 rw[b]at hl;simp at hl;subst hl;have:=dj b;subst this;unfold St.get at h;cases a:Nat.blt d st.n
 ·rw[a]at h;cases h
 rw[a]at h;rcases hq:eX st.fr d with _|q
 ·rw[hq]at h;cases h
 rw[hq]at h;simp at h;rw[R.ok.at_ d q hq i,h,v]
end
section
variable {P:Program} {ops:List Oper} {w:av}
def zy(P:Program)(o:List Oper)(w:av):List Oper->Act->Act->Prop
 | [],a,b=>b=a
 | b::r,a,d=>(Region.wanted b (yielded o.toArray a.tmps)=aE/\∃v,(∀c,c.heap=w.heap->(execOp a.eval b).run P c=.ok (.value v) c)/\zy P o w r (a.put b.dst v) d)∨
  (Region.wanted b (yielded o.toArray a.tmps)=aL/\zy P o w r (a.put b.dst undef) d)
def Dr:∀{l m:List Oper} {a b c:Act},zy P ops w l a b->zy P ops w m b c->zy P ops w (l++m) a c
 | [],_,_,_,_,h,k=>by
  subst h;exact k
 | o::r,m,a,b,c,e,k=>by
  rcases e with⟨h,v,f,d⟩ | ⟨h,d⟩
  ·exact .inl ⟨h,v,f,Dr (l:=r) d k⟩
  exact .inr ⟨h,Dr (l:=r) d k⟩
def Hv{Q}:∀{l rest:List Oper} {a c:Act},zy P ops w l a c->wpList P ops.toArray Q rest c w->wpList P ops.toArray Q (l++rest) a w
 | [],_,_,_,h,k=>by
  subst h;exact k
 | o::r,m,a,b,e,k=>by
  rcases e with⟨h,v,f,d⟩ | ⟨h,d⟩
  ·exact M4 v h (f w rfl) rfl (Hv (l:=r) d k)
  exact adq h rfl (Hv (l:=r) d k)
def Nr{Q}:∀{l rest:List Oper} {a d:Act},zy P ops w l a d->wpQuiet P ops.toArray (λc=>∃n,c=w.drewN n) Q rest d->wpQuiet P ops.toArray (λc=>∃n,c=w.drewN n) Q (l++rest) a
 | [],_,_,_,h,k=>by
  subst h;exact k
 | o::r,m,a,b,f,k=>by
  rcases f with⟨h,v,g,e⟩ | ⟨h,e⟩
  ·exact akO v h (by rintro _ ⟨n,rfl⟩;exact g _ rfl) rfl (Nr (l:=r) e k)
  exact asc h rfl (Nr (l:=r) e k)
def Hw:List Oper->List Nat
 | []=>[]
 | o::r=>match o.dst with
  | some d=>d::Hw r
  | none=>Hw r
def nu(a:Act) d v:(a.put d v).tmps.size=a.tmps.size/\(a.put d v).defers=a.defers/\∀i,d≠aM i->(a.put d v).tmps[i]? =a.tmps[i]? :=by
 rcases d with _|k
 ·exact⟨rfl,rfl,λ_ _=>rfl⟩
 refine⟨by simp[Act.put],rfl,λi h=>?_⟩;simp[Act.put]
 grind
def Ds:∀{l:List Oper} {a c:Act},zy P ops w l a c->c.tmps.size=a.tmps.size/\c.defers=a.defers/\∀i,(Hw l).elem i=aL->c.tmps[i]? =a.tmps[i]?
 | [],_,_,h=>by
  subst h;exact⟨rfl,rfl,λ_ _=>rfl⟩
 | o::r,a,b,e=>by
  have k:∀v,zy P ops w r _ b->b.tmps.size=a.tmps.size/\b.defers=a.defers/\∀i,(Hw (o::r)).elem i=aL->b.tmps[i]? =a.tmps[i]? :=λv h=>by
   obtain⟨j,m,k3⟩:=Ds h;obtain⟨p,n,q⟩:=nu a o.dst v;refine⟨j.trans p,m.trans n,λi b=>?_⟩;rcases hd:o.dst with _|d
   ·simp only[Hw,hd]at b;simp_all
   simp only[Hw,hd,yi]at b;split at b<;>grind
  rcases e with⟨f,v,g,h⟩ | _<;>grind
end
def akY(o:List Oper):Nat->Nat->Nat->Bool
 | 0,_,_=>aL
 | f+1,q,j=>bif Nat.beq q j then aE else match jd o q with
  | some a=>(match a.guard with
   | some (r,_)=>akY o f r j
   | none=>aL)
  | none=>aL
def Ca(o:List Oper)(j:Nat):List Oper->Nat
 | []=>0
 | a::r=>match a.guard with
  | some (q,_)=>bif akY o 50 q j then Ca o j r+1 else 0
  | none=>0
def mrg(t:Bool)(a b:SV):Option SV:=match a,b with
 | .bl aE,.bl aL=>aM (.bt t)
 | .bl aE,.bt y=>aM (.bt (t||y))
 | .bt x,.bl aL=>aM (.bt (t&&x))
 | .bl aL,.bl aE=>aM (.bt (!t))
 | .bl aL,.bt y=>aM (.bt (!t&&y))
 | .bt x,.bl aE=>aM (.bt (!t||x))
 | .bt x,.bt y=>aM (.bt (bif t then x else y))
 | .bl aE,.bl aE=>aM (.bl aE)
 | .bl aL,.bl aL=>aM (.bl aL)
 | _,_=>aaa
def Vl{t}{a b v}(h:mrg t a b=aM v) β:(t=aE->val β v=val β a)/\(t=aL->val β v=val β b):=by
 unfold mrg at h;split at h<;>simp at h<;>subst h<;>refine⟨λe=>?_,λe=>?_⟩<;>subst e<;>simp[val,tI]
def Dt(d:List Nat):List (Nat×Nat×SV)->List (Nat×Nat×SV)
 | []=>[]
 | p::r=>bif d.elem p.1 then Dt d r else p::Dt d r
def nM{ds}:∀{l:List _} {i:Nat},(ds.elem i=aE->eX (Dt ds l) i=aaa)/\(ds.elem i=aL->eX (Dt ds l) i=eX l i)
 | [],i=>⟨λ_=>rfl,λ_=>rfl⟩
 | (k,p)::r,i=>by
  obtain⟨h,a⟩:=nM (ds:=ds) (l:=r) (i:=i);simp only[Dt];cases hk:ds.elem k
  ·simp[eX];cases b:Nat.beq k i<;>simp_all
  simp only[cond_true];refine⟨h,λb=>?_⟩;rw[a b];simp[eX];cases c:Nat.beq k i<;>simp_all
def St.rT(st:St)(d:List Nat):St:={st with fr:=Dt d st.fr}
def Ext.rT st ds:Ext st (st.rT ds):=
 ⟨rfl,aX _,λi k v h _=>by
  cases e:ds.elem i with
  | true=>rw[show eX (st.rT ds).fr i=aaa from(nM (l:=st.fr)).1 e]at h;cases h
  | false=>rw[show eX (st.rT ds).fr i=eX st.fr i from(nM (l:=st.fr)).2 e]at h;exact h,λi b a o _=>⟨b,a,o,rfl,rfl,rfl,λ_ a=>a⟩,Vf,Jt⟩
structure Alike (s t:St):Prop where
 bx:t.bx=s.bx
 w0:t.w0=s.w0
 mv:t.mv=s.mv
 dt:t.dt=s.dt
 n:t.n=s.n
 df:t.df=s.df
def Alike.refl s:Alike s s:=⟨rfl,rfl,rfl,rfl,rfl,rfl⟩
def Alike.trans{s t u}(h:Alike s t)(k:Alike t u):Alike s u:=⟨k.bx.trans h.bx,k.w0.trans h.w0,k.mv.trans h.mv,k.dt.trans h.dt,k.n.trans h.n,k.df.trans h.df⟩
def Alike.put s d v:Alike s (s.put d v):=by cases d<;>exact⟨rfl,rfl,rfl,rfl,rfl,rfl⟩
def Rep.alike{β}{s t}{a a'}{w}(h:Rep β s a w)(k:Alike s t)(o:acx β t.n t.fr (dfs t.df) a'):Rep β t a' w:=by
 obtain⟨j,c,k3,u,v,x⟩:=k;refine⟨uO o,λi b g q=>?_,λi r bi l d f m n=>?_,?_,λp=>?_⟩
 ·rw[j]at g;obtain⟨a,k,s⟩:=h.bx i b g q;exact⟨a,k,λe=>by rw[c];exact s e⟩
 ·rw[j]at d f;exact h.ne i r bi l d f m n
 ·rw[c,u];exact h.only
 rw[c];exact h.still (by rw[<-k3];exact p)
def A0(P:Program)(o:List Oper):Nat->List (Bool×Bool)->List Oper->St->(St->Prop)->Prop
 | 0,_,_,_,_=>False
 | _+1,_,[],st,K=>K st
 | f+1,g,a::r,st,K=>match a.guard with
  | none=>pur P g st a.op λv=>A0 P o f g r (st.put a.dst v) K
  | some (j,want)=>(match tst st o j with
   | some (_,.un)=>A0 P o f g r (st.put a.dst .un) K
   | some (_,.bl b)=>bif b==want then pur P g st a.op λv=>A0 P o f g r (st.put a.dst v) K else A0 P o f g r (st.put a.dst .un) K
   | some (d,.bt t)=>(match(a::r)[Ca o j (a::r)]? with
    | some p=>(match p.dst with
     | some k=>
      A0 P o f (g++[(t,aE)]) ((a::r).take (Ca o j (a::r)+1)) (st.put (aM d) (.bl aE)) λs=>
      cH (s.get k) λb=>
      A0 P o f (g++[(t,aL)]) ((a::r).take (Ca o j (a::r)+1)) (st.put (aM d) (.bl aL)) λsb=>
      cH (sb.get k) λc=>
      cH (mrg t b c) λv=>
      A0 P o f g ((a::r).drop (Ca o j (a::r)+1)) ((st.rT (Hw ((a::r).take (Ca o j (a::r)+1)))).put (aM k) v) K
     | none=>False)
    | none=>False)
   | _=>False)
def Ns:∀{gs:List _} {t b:Bool},gh gs->t=b->gh (gs++[(t,b)])
 | [],_,_,_,h=>⟨h,trivial⟩
 | _::r,_,_,h,k=>⟨h.1,Ns (gs:=r) h.2 k⟩
def uQ{P}{ops}:∀{f:Nat} {g:List _} {l:List Oper} {st:St} {K:St->Prop},A0 P ops f g l st K->
  ∃q,K q/\Ext st q/\Alike st q/\(gh g->∀c a w,Rep c st a w->∃e,zy P ops w l a e/\Rep c q e w)
 | 0,_,_,_,_,h=>h.elim
 | _+1,g,[],st,K,h=>⟨st,h,Ext.refl _,Alike.refl _,λ_ c a w R=>⟨a,rfl,R⟩⟩
 | f+1,g,o::r,st,K,h=>by
  have one:(Region.wanted o=λ_=>aE)∨True->∀{K:St->Prop},(pur P g st o.op λv=>A0 P ops f g r (st.put o.dst v) K)->
    (gh g->∀c a w,Rep c st a w->Region.wanted o _=aE)->
    ∃q,K q/\Ext st q/\Alike st q/\(gh g->∀c a w,Rep c st a w->∃e,zy P ops w (o::r) a e/\Rep c q e w):=λ_ K h k=>by
   obtain⟨v,i,y⟩:=Nq h;obtain⟨q,m,p,k3,s⟩:=uQ i;refine⟨q,m,(Ext.put _ _ _).trans p,(Alike.put _ _ _).trans k3,λb c a w R=>?_⟩;obtain⟨e,d,f⟩:=s b c _ w (R.put o.dst v);exact⟨e,.inl ⟨k b c a w R,_,λt j=>y b c a w R _ _ _ _ _ t λ_=>j,d⟩,f⟩
  have n:∀{K:St->Prop},A0 P ops f g r (st.put o.dst .un) K->(gh g->∀c a w,Rep c st a w->Region.wanted o _=aL)->
    ∃q,K q/\Ext st q/\Alike st q/\(gh g->∀c a w,Rep c st a w->∃e,zy P ops w (o::r) a e/\Rep c q e w):=λi j=>by
   obtain⟨q,k,m,k3,p⟩:=uQ i;refine⟨q,k,(Ext.put _ _ _).trans m,(Alike.put _ _ _).trans k3,λb c a w R=>?_⟩;obtain⟨e,d,f⟩:=p b c _ w (R.put o.dst .un);exact⟨e,.inr ⟨j b c a w R,d⟩,f⟩
  unfold A0 at h;split at h
  ·rename_i b;exact one (.inr trivial) h λ_ c a w R=>wn b
  rename_i j i f;split at h
  ·rename_i d t;exact n h λ_ c a w R=>AZ R f t
  ·rename_i d b t;cases k:(b==i)with
   | true=>
    rw[k]at h;exact one (.inr trivial) h λ_ c a w R=>by rw[tK R f t (b:=b) rfl,k]
   | false=>
    rw[k]at h;exact n h λ_ c a w R=>by rw[tK R f t (b:=b) rfl,k]
  ·rename_i d t b;obtain⟨m,J,Y,Z⟩:=Dp b;split at h
   ·rename_i u d;split at h
    ·rename_i k hk;generalize Ca ops j _=W at h d;obtain⟨sa,M,aC,F,G⟩:=uQ h;obtain⟨va,S,M⟩:=bI M;obtain⟨sb,D,aS,H,L⟩:=uQ M;obtain⟨vb,T,D⟩:=bI D;obtain⟨v,V,D⟩:=bI D;obtain⟨q,k1,k2,k3,k4⟩:=uQ D;refine⟨q,k1,((Ext.rT _ _).trans (Ext.put _ _ _)).trans k2,((⟨rfl,rfl,rfl,rfl,rfl,rfl⟩:Alike st (st.rT _)).trans (Alike.put _ _ _)).trans k3,λN c a w R=>?_⟩;have B:∀(s:SV) am x,Rep c am a w->(∃e,zy P ops w ((o::r).take (W+1)) a e/\∃E,Rep c E e w/\E.n=st.n/\E.get k=aM x/\val c v=val c x)->∃e,zy P ops w (o::r) a e/\Rep c q e w:=by
      rintro s am x A ⟨y,z,E,r1,r2,r3,r4⟩;obtain⟨f1,f2,f3⟩:=Ds z;have jL:Rep c ((st.rT (Hw ((o::r).take (W+1)))).put (aM k) v) y w:=by
       refine R.alike ((⟨rfl,rfl,rfl,rfl,rfl,rfl⟩:Alike st (st.rT _)).trans (Alike.put _ _ _)) ⟨f1.trans R.ok.sz,f2.trans R.ok.df,λs p a v=>?_⟩;simp[St.put,eX]at a;cases t:Nat.beq k s
       ·rw[t]at a;cases k:(Hw _).elem s
        ·rw[show eX (st.rT _).fr s=eX st.fr s from(nM (l:=st.fr)).2 k]at a;rw[f3 s k];exact R.ok.at_ s p a v
        rw[show eX (st.rT _).fr s=aaa from(nM (l:=st.fr)).1 k]at a;cases a
       rw[t]at a;simp at a;subst a;have:=dj t;subst this;rw[r4,<-r1.get r3];have p:k<y.tmps.size:=by rw[f1,R.ok.sz];exact v
       simp[Act.eval,p]
      obtain⟨a2,C,g3⟩:=k4 N c y w jL;refine⟨a2,?_,g3⟩;have:=Dr z C;simp_all
     cases t
     ·have A:Rep c (st.put _ (.bl aL)) a w:=R.set Z rfl;obtain⟨y,z,C⟩:=L (Ns N rfl) c a w A;exact B (.bl aL) _ vb A ⟨y,z,sb,C,H.n.trans rfl,T,(Vl V c).2 rfl⟩
     have A:Rep c (st.put _ (.bl aE)) a w:=R.set Z rfl;obtain⟨y,z,C⟩:=G (Ns N rfl) c a w A;exact B (.bl aE) _ va A ⟨y,z,sa,C,F.n.trans rfl,S,(Vl V c).1 rfl⟩
    exact h.elim
   exact h.elim
  exact h.elim
def ny:∀l b i,dy (l++[b]) i=if i=I l then aM b else dy l i
 | [],b,0=>rfl
 | [],b,i+1=>rfl
 | a::r,b,0=>rfl
 | a::r,b,i+1=>by
  simp;exact ny r b i
def uR:∀{l:List mZ} {i:Nat} {b:mZ},dy l i=aM b->i<I l
 | a::r,0,_,_=>aag
 | a::r,i+1,b,h=>by simp[dy]at h;have:=uR h;simp;omega
def lw:∀{l:List mZ} {i:Nat} {b c:mZ},dy l i=aM b->∀j,dy (Ss l i c) j=if j=i then aM c else dy l j
 | a::r,0,b,c,_,0=>rfl
 | a::r,0,b,c,_,j+1=>rfl
 | a::r,i+1,b,c,h,0=>rfl
 | a::r,i+1,b,c,h,j+1=>by
  simp[dy]at h;simp;exact lw h j
def rr{b}{p q}(h:bif b then p else q):(b=aE/\p)∨(b=aL/\q):=acw
def MH(x:List mZ)(i:Nat):Nat:=match dy x i with
 | some b=>b.blk.getD 0
 | none=>0
def Ki(x:List mZ)(i:Nat):Bool:=match dy x i with
 | some b=>b.ok&&b.blk.isSome
 | none=>aL
abbrev St.bl(st:St)(i:Nat):Nat:=MH st.bx i
abbrev St.Oz(st:St)(i:Nat):Bool:=Ki st.bx i
def Rep.bl{β}{st}{a}{w}(c:Rep β st a w) i (h:st.Oz i=aE):st.bl i=β i:=by
 unfold St.Oz Ki at h;unfold St.bl MH;rcases hb:dy st.bx i with _|b
 ·rw[hb]at h;cases h
 rw[hb]at h;simp at h;rcases hk:b.blk with _|k
 ·rw[hk]at h;cases h.2
 have:=(c.bx i b hb h.1).at_ k hk;simp[hk,this]
def Rep.wT{β}{st}{a}{w}(h:Rep β st a w){l}(c:jP st.Oz l=aE):cZ st.bl l=cZ β l:=jA (g:=st.Oz) h.bl l c
def Rep.aoq{β}{st}{a}{w}(h:Rep β st a w){s}(c:cln st.Oz s=aE):val st.bl s=val β s:=kB (g:=st.Oz) h.bl s c
def Kj:List mZ->(List mZ->Prop)->Prop
 | [],K=>K []
 | b::r,K=>match b.ok,b.blk with
  | true,aaa=>∀k,Kj r λa=>K ({b with blk:=aM k}::a)
  | _,_=>Kj r λa=>K (b::a)
def we(k:Nat)(b:mZ):mZ:=match b.ok,b.blk with
 | true,aaa=>{b with blk:=aM k}
 | _,_=>b
def sL(a:Nat->Nat):Nat->List mZ->List mZ
 | _,[]=>[]
 | n,b::r=>we (a n) b::sL a (n+1) r
def Du β:∀{s:List mZ} n {K:List mZ->Prop},Kj s K->K (sL β n s)
 | [],_,_,h=>h
 | b::r,n,K,h=>by
  unfold Kj at h;unfold sL;split at h
  ·have:=Du β (n+1) (h (β n));have e:we (β n) b={b with blk:=aM (β n)}:=by unfold we<;>simp_all
   simp_all
  have:=Du β (n+1) h;have e:we (β n) b=b:=by simp[we]
  simp_all
def Dv β:∀s n i,dy (sL β n s) i=(dy s i).map (we (β (n+i)))
 | [],_,_=>rfl
 | b::r,n,0=>rfl
 | b::r,n,i+1=>by
  simp[sL,dy];rw[Dv β r _ i,show n+1+i=n+(i+1) by omega]
def Kk(a w:av):List mZ->List mZ->Prop->Prop
 | b::r,c::d,p=>match b.ok,b.blk with
  | true,aaa=>a.heap.size<=c.blk.getD 0->c.blk.getD 0<w.heap.size->Kk a w r d p
  | _,_=>Kk a w r d p
 | _,_,p=>p
def Dw{β}{w0 w}:∀{s:List mZ} n {p:Prop},Kk w0 w s (sL β n s) p->(∀i b,dy s i=aM b->b.ok=aE->b.blk=aaa->w0.heap.size<=β (n+i)/\β (n+i)<w.heap.size)->p
 | [],_,_,h,_=>h
 | b::r,n,p,h,a=>by
  simp[sL]at h;unfold Kk at h;split at h
  ·rename_i d f;obtain⟨g,j⟩:=a 0 b rfl d f;have e:(we (β n) b).blk.getD 0=β n:=by unfold we;rw[d,f];rfl
   rw[e]at h;exact Dw _ (h g j) λi c k=>by have:=a (i+1) c k;rwa[show n+_=n+1+i by omega]at this
  exact Dw _ h λi c b=>by have:=a (i+1) c b;rwa[show n+_=n+1+i by omega]at this
def shB(g:Nat->Bool)(bl:Nat->Nat)(w:av)(a:Bool):List mZ->Prop->Prop
 | [],p=>p
 | b::r,p=>bif b.ok&&b.blk.isSome&&b.esc&&(a||!b.sh)&&jP g b.cells then Blk w (b.blk.getD 0) b.ty (cZ bl b.cells)->shB g bl w a r p else shB g bl w a r p
def Hx{g}{bl}{w}{all}:∀{s:List mZ} {p:Prop},shB g bl w all s p->(∀i b,dy s i=aM b->b.ok=aE->b.blk.isSome=aE->jP g b.cells=aE->Blk w (b.blk.getD 0) b.ty (cZ bl b.cells))->p
 | [],_,h,_=>h
 | b::r,p,a,d=>by
  unfold shB at a;cases h:(b.ok&&b.blk.isSome&&b.esc&&_&&jP g b.cells)with
  | true=>
   rw[h]at a;simp at h;exact Hx (a (d 0 b rfl h.1.1.1.1 h.1.1.1.2 h.2)) λi c e=>d (i+1) c e
  | false=>
   rw[h]at a;exact Hx a λi c b=>d (i+1) c b
def zA:List mZ->List mZ
 | []=>[]
 | b::r=>{b with sh:=b.esc}::zA r
def tL:∀l i,dy (zA l) i=(dy l i).map λb=>{b with sh:=b.esc}
 | [],_=>rfl
 | b::r,0=>rfl
 | b::r,i+1=>tL r i
def Dx(s:List mZ):List Nat->Bool
 | []=>aE
 | i::r=>(match dy s i with
  | some b=>b.ok
  | none=>aL)&&Dx s r
def xj{bs}:∀{l:List Nat},Dx bs l=aE->∀i∈l,∃b,dy bs i=aM b/\b.ok=aE
 | i::r,h,a,j=>by
  simp[Dx]at h;rcases aZ.1 j with rfl | j
  ·split at h<;>grind
  exact xj h.2 a j
def Sv:List mZ->List mZ->List (Nat×Bool)
 | b::r,c::a=>bif b.ok&&b.blk.isNone then(c.blk.getD 0,b.esc)::Sv r a else Sv r a
 | _,_=>[]
def Vm(k:Nat):List (Nat×Bool)->Prop->Prop
 | [],p=>p
 | x::r,p=>bif x.2 then Vm k r p else(x.1≠k->Vm k r p)
def Vn(a:List (Nat×Bool)):List (Nat×Bool)->Prop->Prop
 | [],p=>p
 | x::r,p=>bif x.2 then Vm x.1 a (Vn a r p)else Vn a r p
def Hy{k}:∀{l:List _} {p:Prop},Vm k l p->(∀y,y∈l->y.2=aL->y.1≠k)->p
 | [],_,h,_=>h
 | x::r,p,h,hd=>by
  unfold Vm at h;cases a:x.2
  ·rw[a]at h;exact Hy (h (hd x fj a)) λy b=>hd y (dZ _ b)
  rw[a]at h;exact Hy h λy b=>hd y (dZ _ b)
def Hz{all}:∀{l:List _} {p:Prop},Vn all l p->(∀x,x∈l->x.2=aE->∀y,y∈all->y.2=aL->y.1≠x.1)->p
 | [],_,h,_=>h
 | x::r,p,h,hd=>by
  unfold Vn at h;cases a:x.2
  ·rw[a]at h;exact Hz h λz b=>hd z (dZ _ b)
  rw[a]at h;exact Hz (Hy h λy b f=>hd x fj a y b f) λz c=>hd z (dZ _ c)
def zC{β}:∀{s:List mZ} n {x:Nat×Bool},x∈Sv s (sL β n s)->∃i b,dy s i=aM b/\b.ok=aE/\x=(β (n+i),b.esc)
 | [],_,_,h=>aal
 | b::r,n,x,h=>by
  simp[sL,Sv]at h;cases a:(b.ok&&b.blk.isNone)with
  | true=>
   rw[a]at h;simp at a;rcases aZ.1 h with rfl | h
   ·refine⟨0,b,rfl,a.1,?_⟩;have:(we (β n) b).blk.getD 0=β n:=by unfold we;rw[a.1,a.2];rfl
    rw[this];rfl
   obtain⟨i,c,b,d,e⟩:=zC _ h;exact⟨i+1,c,b,d,acw⟩
  | false=>
   rw[a]at h;obtain⟨i,c,b,d,e⟩:=zC _ h;exact⟨i+1,c,b,d,acw⟩
def Dy:List mZ->List Nat
 | []=>[]
 | b::r=>bif b.ok&&b.blk.isSome&&b.esc&&!b.sh then b.blk.getD 0::Dy r else Dy r
def Dz:List mZ->List Nat
 | []=>[]
 | b::r=>bif b.ok&&b.blk.isSome&&!b.esc then b.blk.getD 0::Dz r else Dz r
def af0(k:Nat):List Nat->Prop->Prop
 | [],p=>p
 | x::r,p=>x≠k->af0 k r p
def aaI(Y:List Nat):List Nat->Prop->Prop
 | [],p=>p
 | k::r,p=>af0 k Y (aaI Y r p)
def Pf{k}:∀{l:List Nat} {p:Prop},af0 k l p->(∀y,y∈l->y≠k)->p
 | [],_,h,_=>h
 | x::r,p,h,hd=>Pf (h (hd x fj)) λy a=>hd y (dZ _ a)
def HA{YM}:∀{l:List Nat} {p:Prop},aaI YM l p->(∀k,k∈l->∀y,y∈YM->y≠k)->p
 | [],_,h,_=>h
 | k::r,p,h,hd=>HA (Pf h λy a=>hd k fj y a) λz b=>hd z (dZ _ b)
def A1:∀{s:List mZ} {x:Nat},x∈Dy s->∃i b,dy s i=aM b/\b.ok=aE/\b.esc=aE/\b.blk=aM x
 | [],_,h=>aal
 | b::r,x,h=>by
  simp[Dy]at h;cases a:(b.ok&&b.blk.isSome&&b.esc&&!b.sh)with
  | true=>
   rw[a]at h;simp at a;rcases aZ.1 h with rfl | h
   ·obtain⟨k,hk⟩:=fe.1 a.1.1.2;exact⟨0,b,rfl,a.1.1.1,a.1.2,afF⟩
   obtain⟨i,c,b,d⟩:=A1 h;exact⟨i+1,c,b,d⟩
  | false=>
   rw[a]at h;obtain⟨i,c,b,d⟩:=A1 h;exact⟨i+1,c,b,d⟩
def A2:∀{s:List mZ} {x:Nat},x∈Dz s->∃i b,dy s i=aM b/\b.ok=aE/\b.esc=aL/\b.blk=aM x
 | [],_,h=>aal
 | b::r,x,h=>by
  simp[Dz]at h;cases a:(b.ok&&b.blk.isSome&&!b.esc)with
  | true=>
   rw[a]at h;simp at a;rcases aZ.1 h with rfl | h
   ·obtain⟨k,hk⟩:=fe.1 a.1.2;exact⟨0,b,rfl,a.1.1,a.2,afF⟩
   obtain⟨i,c,b,d⟩:=A2 h;exact⟨i+1,c,b,d⟩
  | false=>
   rw[a]at h;obtain⟨i,c,b,d⟩:=A2 h;exact⟨i+1,c,b,d⟩
def Kl{β}{st}{a}{w}(h:Rep β st a w):∀k,k∈Dy st.bx->∀y,y∈Dz st.bx->y≠k:=λk hk y m=>by
 obtain⟨i,b,d,f,p,n⟩:=A1 hk;obtain⟨j,c,g,l,j3,o⟩:=A2 m;rw[<-(h.bx i b d f).at_ k n,<-(h.bx j c g l).at_ y o];refine h.ne j i c b g d l f λe=>?_
 grind
def fV(st:St)(K:St->Prop):Prop:=
 bif st.mv then
  bif Dx st.bx st.dt then
   Kj st.bx λb=>∀w,Kk st.w0 w st.bx b (Only (st.dt.map (MH b)) st.w0 w->
    shB (Ki b) (MH b) w aE b (Vn (Sv st.bx b) (Sv st.bx b) (aaI (Dz st.bx) (Dy st.bx) (K {st with bx:=zA b,w0:=w,mv:=aL,dt:=[]}))))
  else False
 else shB st.Oz st.bl st.w0 aL st.bx (aaI (Dz st.bx) (Dy st.bx) (K {st with bx:=zA st.bx}))
def fg{st}{K}(d:fV st K){β}{a}{w}(h:Rep β st a w):∃q,K q/\Ext st q/\Rep β q a w/\q.mv=aL/\q.fr=st.fr/\q.n=st.n/\q.ct=st.ct/\I q.bx=I st.bx:=by
 rcases rr d with⟨m,d⟩ | ⟨m,d⟩
 case inr=>
  have hk:=Hx d λi b a o s u=>by
   have:=(h.bx i b a o).blk;rcases hk:b.blk with _|k
   ·rw[hk]at s;cases s
   have e:=(h.bx i b a o).at_ k hk;rw[h.wT u,<-h.still m];simp_all
  have hk:=HA hk (Kl h);have y:∀i g,dy (zA st.bx) i=aM g->∃b,dy st.bx i=aM b/\g={b with sh:=b.esc}:=λi g a=>by
   rw[tL]at a;cases f:dy st.bx i<;>grind
  refine⟨_,hk,⟨rfl,aX _,λ_ _ _ d _=>d,λi g a o _=>?_,λi b a=>?_,Jt⟩,⟨h.fr,λi g a o=>?_,λi l bi n j p r t x=>?_,h.only,h.still⟩,m,rfl,rfl,rfl,?_⟩
  ·grind
  ·exact⟨{b with sh:=b.esc},by rw[tL,a];rfl,rfl,rfl,λ_ d=>d⟩
  ·obtain⟨b,j,rfl⟩:=y i g a;have:=h.bx i b j o;exact⟨this.blk,this.at_,this.new⟩
  ·obtain⟨b,e,rfl⟩:=y i bi j;obtain⟨c,k,rfl⟩:=y l n p;exact h.ne i l b c e k r t x
  have:∀c:List mZ,I (zA c)=I c:=λc=>by
   induction c with
   | nil=>rfl
   | cons b k e=>simp[zA,e]
  exact this _
 case inl=>
  obtain⟨A,d⟩:=eG d;have d:=Du β 0 d w;have v:∀i,dy _ i=(dy st.bx i).map (we (β i)):=λi=>by rw[Dv,bP]
  have F:∀i b,dy st.bx i=aM b->b.ok=aE->∃a,dy _ i=aM a/\a.ok=aE/\a.blk=aM _/\a.cells=b.cells/\a.ty=b.ty/\a.stp=b.stp:=λi b g o=>by
   refine⟨we _ b,by rw[v,g];rfl,?_⟩;unfold we;split
   ·exact⟨o,rfl,rfl,rfl,rfl⟩
   rename_i c;refine⟨o,?_,rfl,rfl,rfl⟩;rcases hk:b.blk with _|k
   ·exact absurd hk (λe=>c o e)
   rw[(h.bx i b g o).at_ k hk]
  have l:∀i a,dy _ i=aM a->a.ok=aE->∃b,dy st.bx i=aM b/\b.ok=aE/\a.blk=aM _/\a.cells=b.cells/\a.ty=b.ty/\a.stp=b.stp:=λi a g o=>by
   rw[v]at g;rcases f:dy st.bx i with _|b
   ·rw[f]at g;cases g
   rw[f]at g;simp at g;subst g;have c:=by
    unfold we at o;split at o<;>omega
   obtain⟨y,e,N,k,n,w,x⟩:=F i b f c;rw[v,f]at e;simp at e;subst e;exact⟨b,rfl,c,k,n,w,x⟩
  have d:=Dw 0 d λi b g o hk=>by
   rw[bP];exact⟨(h.bx i b g o).new hk,(h.bx i b g o).blk.lt⟩
  have t:st.dt.map (MH (sL β 0 st.bx))=st.dt.map β:=by
   refine vU λi k=>?_;obtain⟨b,s,u⟩:=xj A i k;obtain⟨a,e,n,c,_⟩:=F i b s u;unfold MH;rw[e];simp[c]
  have d:=d (by rw[t];exact h.only);have J:∀i,Ki _ i=aE->MH _ i=β i:=λi p=>by
   unfold Ki at p;unfold MH;rcases f:dy (sL β 0 st.bx) i with _|a
   ·rw[f]at p;cases p
   rw[f]at p
   grind
  have hk:=Hx d λi a g o L D=>by
   obtain⟨b,e,c,k,n,w,x⟩:=l i a g o;rw[jA J _ D,k,n,w];exact(h.bx i b e c).blk
  have hk:=Hz hk λx E M y G H=>by
   obtain⟨i,b,k,n,rfl⟩:=zC 0 E;obtain⟨r,c,w,x,rfl⟩:=zC 0 G;rw[bP,bP];refine h.ne r i c b w k x n λe=>?_
   grind
  have hk:=HA hk (Kl h);have j:∀i a,dy _ i=aM a->a.ok=aE->∃b,dy st.bx i=aM b/\b.ok=aE/\a.blk=aM _/\a.cells=b.cells/\a.ty=b.ty/\a.stp=b.stp:=λi a g o=>by
   rw[tL]at g;rcases f:dy (sL β 0 st.bx) i with _|c
   ·rw[f]at g;cases g
   rw[f]at g;simp at g;subst g;exact l i c f o
  refine⟨_,hk,⟨rfl,aX _,λ_ _ _ d _=>d,λi a g o _=>?_,λi b g=>?_,Jt⟩,⟨h.fr,λi a g o=>?_,λi r bi z s u B C K=>?_,Only.refl _ _,λ_=>rfl⟩,rfl,rfl,rfl,rfl,?_⟩
  ·obtain⟨b,e,c,n,w,x,y⟩:=j i a g o;exact⟨b,e,c,w.symm,x.symm,y.symm,λk hk=>by rw[n,(h.bx i b e c).at_ k hk]⟩
  ·refine⟨{we _ b with sh:=(we _ b).esc},by rw[tL,v,g];rfl,?_⟩;unfold we;split
   ·grind
   simp
  ·obtain⟨b,e,c,n,w,x,y⟩:=j i a g o;refine⟨by rw[w,x];exact(h.bx i b e c).blk,λk hk=>acw,λhk=>by rw[n]at hk;cases hk⟩
  ·obtain⟨b,e,k,_⟩:=j i bi s B;obtain⟨c,f1,f2,_⟩:=j r z u C;exact h.ne i r b c e f1 k f2 K
  have e:∀c:List mZ,I (zA c)=I c:=λc=>by
   induction c with
   | nil=>rfl
   | cons b w n=>simp[zA,n]
  have k:∀(c:List mZ) n,I (sL β n c)=I c:=λc=>by
   induction c with
   | nil=>intro n;rfl
   | cons b x w=>intro n;simp[sL,w]
  simp_all
def noB(n:Nat)(s:SV):Bool:=cln (λj=>!Nat.beq j n) s
def aaJ(n:Nat)(l:List SV):Bool:=jP (λj=>!Nat.beq j n) l
def Sw(n:Nat):List (Nat×Nat×SV)->Bool
 | []=>aE
 | p::r=>noB n p.2.2&&Sw n r
def Nt(n:Nat):List mZ->Bool
 | []=>aE
 | b::r=>(!b.ok||aaJ n b.cells)&&Nt n r
def HB{n}:∀{l:List _},Sw n l=aE->∀i p,eX l i=aM p->noB n p.2=aE
 | [],_,i,p,h=>aal
 | (k,q)::r,h,i,p,hl=>by
  simp[Sw]at h;simp[eX]at hl;cases b:Nat.beq k i
  ·rw[b]at hl;exact HB h.2 i p af5
  rw[b]at hl;simp at hl;subst hl;exact h.1
def HC{n}:∀{l:List mZ},Nt n l=aE->∀i b,dy l i=aM b->b.ok=aE->aaJ n b.cells=aE
 | c::r,h,0,b,a,o=>by grind [Nt,dy]
 | c::r,h,i+1,b,a,o=>by
  simp[Nt]at h;exact HC h.2 i b a o
def Fw(a:Nat->Nat)(n b:Nat):Nat->Nat:=λi=>if i=n then b else a i
def DA{β}{n b:Nat}:∀i,(!Nat.beq i n)=aE->β i=Fw β n b i:=λi h=>by
 unfold Fw;rw[aP];rintro rfl;simp at h
section
variable {β:Nat->Nat} {st:St} {a:Act} {w w1:av}
def St.I5(st:St)(d:Option Tmp)(t:TypeId)(z:List SV):St:=
 St.put {st with bx:=st.bx++[⟨aaa,t,z,st.ct,aE,aL,aL⟩],mv:=aE,ct:=st.ct+1} d (.box (I st.bx) 0)
def Ext.I5 st d t zs:Ext st (st.I5 d t zs):=by
 refine Ext.trans (t:={st with bx:=st.bx++[_],mv:=aE,ct:=st.ct+1}) ⟨rfl,kx _,λ_ _ _ a _=>a,λi c h o s=>?_,λi b h=>?_,Jt⟩ (Ext.put _ _ _)
 ·rw[ny]at h
  grind
 exact⟨b,by dsimp only;rw[ny,aP (by have:=uR h;omega)];exact h,rfl,rfl,λ_ a=>a⟩
def Rep.I5(R:Rep β st a w){d}{t}{zs}{b}(m:Sw (I st.bx) st.fr=aE)(n:Nt (I st.bx) st.bx=aE)(o:aaJ (I st.bx) zs=aE)
  (r:w.heap.size<=b) (l:Only [] w w1) (q:Blk w1 b t (cZ β zs)) (j:Dx st.bx st.dt=aE):
  Rep (Fw β (I st.bx) b) (st.I5 d t zs) (a.put d (.pointer (aM ⟨b,0,aaa⟩))) w1:=by
 have B:Fw β (I st.bx) b (I st.bx)=b:=by unfold Fw;rw[aV rfl]
 have f:∀{i c},dy st.bx i=aM c->Fw β (I st.bx) b i=β i:=fun{i c} h=>by
  unfold Fw;rw[aP];have:=uR h;omega
 have s:Rep (Fw β (I st.bx) b) {st with bx:=st.bx++[⟨aaa,t,zs,st.ct,aE,aL,aL⟩],mv:=aE,ct:=st.ct+1} a w1:=by
  refine⟨uO ⟨R.ok.sz,R.ok.df,λi p z v=>?_⟩,λi c a A=>?_,λi d bi w u t x y J=>?_,?_,λh=>aal⟩
  ·rw[R.ok.at_ i p z v];congr 1;exact kB (g:=λd=>!Nat.beq d (I st.bx)) DA _ (HB m i p z)
  ·rw[ny]at a;split at a
   ·rename_i h;simp at a;subst a;subst h;refine⟨?_,λk hk=>afs,λ_=>?_⟩
    ·rw[B];rw[<-jA (g:=λd=>!Nat.beq d (I st.bx)) (β:=β) (β':=Fw β (I st.bx) b) DA _ o];exact q
    rw[B];exact bD R.only.size r
   have e:=f a;obtain⟨h,p,k3⟩:=R.bx i c a A;refine⟨?_,λk hk=>by rw[e];exact p k hk,λhk=>by rw[e];exact k3 hk⟩;rw[e,<-jA (g:=λd=>!Nat.beq d (I st.bx)) (β:=β) (β':=Fw β (I st.bx) b) DA _ (HC n i c a A)];exact l.blk h aag
  ·rw[ny]at u t;split at u
   ·rename_i e;split at t
    ·omega
    subst e;rw[f t];have:=(R.bx d w t y).blk.lt;omega
   split at t
   ·rename_i e;subst e;rw[f u];have:=(R.bx i bi u x).blk.lt;omega
   rw[f u,f t];exact R.ne i d bi w u t x y J
  have e:=vU λi v=>by
   obtain⟨c,a,_⟩:=xj j i v;exact f a
  rw[e];exact R.only.cd l
 have:=s.put d (.box (I st.bx) 0);rw[show val _ _=.pointer _ by
  show Value.pointer _=_;rw[B]]at this
 exact this
def St.wU(st:St)(i:Nat)(b:mZ)(c:List SV):St:=
 {st with bx:=Ss st.bx i {b with cells:=c,stp:=st.ct,sh:=aL},mv:=aE,dt:=(bif b.blk.isSome&&!st.dt.elem i then i::st.dt else st.dt),ct:=st.ct+1}
def Ext.wU{st}{i}{b}{cs}(h:dy st.bx i=aM b):Ext st (st.wU i b cs):=by
 refine⟨rfl,kx _,λ_ _ _ h _=>h,λj d a o s=>?_,λj c e=>?_,Jt⟩
 ·simp[St.wU]at a;rw[lw h]at a
  grind
 simp[St.wU];rw[lw h]
 grind
def Rep.wU(R:Rep β st a w){i}{b}{cs}(h:dy st.bx i=aM b)(o:b.ok=aE)(f:Only [β i] w w1)(B:Blk w1 (β i) b.ty (cZ β cs)):Rep β (st.wU i b cs) a w1:=by
 have hk:=R.bx i b h o;refine⟨R.fr,λj c d m=>?_,λj q r bl k l n p x=>?_,?_,λh=>aal⟩
 ·simp[St.wU]at d;rw[lw h]at d;split at d
  ·rename_i e;subst e;simp at d;subst d;exact⟨B,hk.at_,hk.new⟩
  rename_i a;obtain⟨e,g,k3⟩:=R.bx j c d m;exact⟨f.blk e (by simpa using R.ne j i c b d h m o a),g,k3⟩
 ·simp[St.wU]at k l;rw[lw h]at k l;have e:∀{j c},(if j=i then aM {b with cells:=cs,stp:=st.ct,sh:=aL}else dy st.bx j)=aM c->c.ok=aE->∃a,dy st.bx j=aM a/\a.ok=aE:=fun{j c} g d=>acw
  obtain⟨s,u,v⟩:=e k n;obtain⟨t,f1,f2⟩:=e l p;exact R.ne j q s t u f1 v f2 x
 show Only ((bif b.blk.isSome&&!st.dt.elem i then i::st.dt else st.dt).map β) st.w0 w1;cases h:(b.blk.isSome&&!st.dt.elem i)with
 | true=>exact R.only.cons f
 | false=>
  simp only[jq]at h;rcases h with h | h
  ·refine R.only.new f (hk.new ?_);simp_all
  refine R.only.mem f (dv.2 ⟨i,?_,rfl⟩);simpa using h
structure Flg (l l':List mZ):Prop where
 fw:∀i b,dy l' i=aM b->∃c,dy l i=aM c/\c.blk=b.blk/\c.ty=b.ty/\c.cells=b.cells/\c.stp=b.stp/\c.ok=b.ok
 bw:∀i b,dy l i=aM b->∃c,dy l' i=aM c/\c.ty=b.ty/\c.ok=b.ok/\∀k,b.blk=aM k->c.blk=aM k
def Flg.refl l:Flg l l:=⟨λi b h=>⟨b,h,rfl,rfl,rfl,rfl,rfl⟩,Vf⟩
def Flg.trans{l m n}(r:Flg l m)(k:Flg m n):Flg l n:=⟨λi b q=>by
 obtain⟨c,a,e,f,g,s,t⟩:=k.fw i b q;obtain⟨d,h,j,o,p,u,v⟩:=r.fw i c a;exact⟨d,h,j.trans e,o.trans f,p.trans g,u.trans s,v.trans t⟩,λi b q=>by
 obtain⟨c,a,e,f,g⟩:=r.bw i b q;obtain⟨d,h,j,o,p⟩:=k.bw i c a;exact⟨d,h,j.trans e,o.trans f,λm w=>p m (g m w)⟩⟩
def Ext.flg{l'}(h:Flg st.bx l'):Ext st {st with bx:=l'}:=⟨rfl,aX _,λ_ _ _ h _=>h,λl b j o _=>by
 obtain⟨c,a,d,e,f,g,i⟩:=h.fw l b j;exact⟨c,a,i.trans o,f,e,g,λk hk=>by rw[<-d];exact hk⟩,h.bw,Jt⟩
def Rep.flg{l'}(h:Rep β st a w)(e:Flg st.bx l'):Rep β {st with bx:=l'} a w:=by
 refine⟨h.fr,λi b o p=>?_,λi j bi f g l m n x=>?_,h.only,h.still⟩
 ·obtain⟨c,d,a,s,t,u,q⟩:=e.fw i b o;obtain⟨v,r,k3⟩:=h.bx i c d (q.trans p);exact⟨acw,λk hk=>r k (a.trans hk),λhk=>k3 (a.trans hk)⟩
 obtain⟨c,a,_,_,_,_,b⟩:=e.fw i bi g;obtain⟨d,k,_,_,_,_,q⟩:=e.fw j f l;exact h.ne i j c d a k (b.trans m) (q.trans n) x
def bxs:SV->List Nat
 | .box i _=>[i]
 | .fn _ f c=>bxs f++bxs c
 | .agg l=>bxs l
 | .tup l=>bxs l
 | .c h t=>bxs h++bxs t
 | _=>[]
def Sy:Nat->List Nat->List mZ->List mZ
 | 0,_,b=>b
 | _+1,[],b=>b
 | f+1,i::r,x=>match dy x i with
  | some b=>bif b.esc then Sy f r x else Sy f (flat bxs b.cells++r) (Ss x i {b with esc:=aE,sh:=aL})
  | none=>Sy f r x
def wg:∀f l x,Flg x (Sy f l x)
 | 0,_,x=>Flg.refl _
 | _+1,[],x=>Flg.refl _
 | f+1,i::r,x=>by
  unfold Sy;split
  ·rename_i b h;cases e:b.esc
   ·refine Flg.trans ⟨λj c a=>?_,λj c a=>?_⟩ (wg f _ _);rotate_left
    ·rw[lw h]
     grind
    rw[lw h]at a
    grind
   exact wg f r x
  exact wg f r x
def St.esc(st:St)(l:List SV):St:={st with bx:=Sy 1000 (flat bxs l) st.bx}
def Ext.esc st l:Ext st (st.esc l):=Ext.flg (wg _ _ _)
def Rep.esc(h:Rep β st a w) l:Rep β (st.esc l) a w:=h.flg (wg _ _ _)
end
def zc(P:Program)(t:TypeId):Option (List SV):=match P.info? t with
 | some i=>(match i.zero with
  | some z=>Nn z.cells.toList
  | none=>aaa)
 | none=>aaa
def adA{P}{t}{zs}(h:zc P t=aM zs) w:∃z,(zeroValue t).run P w=.ok z w/\∀a,z.cells=(cZ a zs).toArray:=by
 unfold zc at h;split at h
 ·rename_i b i;split at h
  ·rename_i z c;exact⟨z,by simp[zeroValue,typeInfo,i,c],λa=>by rw[CE a h]⟩
  cases h
 cases h
def chk(st:St)(z:List SV):Bool:=Sw (I st.bx) st.fr&&Nt (I st.bx) st.bx&&aaJ (I st.bx) z&&Dx st.bx st.dt
def tM:List mZ->Bool
 | []=>aE
 | b::r=>(!b.ok||b.blk.isSome)&&tM r
def zD:∀{l:List mZ},tM l=aE->∀i b,dy l i=aM b->b.ok=aE->b.blk.isSome=aE
 | c::r,h,0,b,a,o=>by grind [tM,dy]
 | c::r,h,i+1,b,a,o=>by
  simp[tM]at h;exact zD h.2 i b a o
def neB(k:Nat):List mZ->Prop->Prop
 | [],p=>p
 | b::r,p=>bif b.ok then b.blk.getD 0≠k/\neB k r p else neB k r p
def Nu{bk}:∀{l:List mZ} {p:Prop},neB bk l p->p/\∀i b,dy l i=aM b->b.ok=aE->b.blk.getD 0≠bk
 | [],p,h=>⟨h,λi b hb=>af8⟩
 | c::r,p,h=>by
  rcases rr h with⟨a,h⟩ | ⟨a,h⟩
  ·obtain⟨c,d⟩:=h;obtain⟨e,f⟩:=Nu d;refine⟨e,λi b hb o=>?_⟩;cases i with
   | zero=>simp[dy]at hb;subst hb;exact c
   | succ i=>exact f i b hb o
  obtain⟨c,d⟩:=Nu h;refine⟨c,λi b hb o=>?_⟩;cases i with
  | zero=>simp[dy]at hb;subst hb;rw[a]at o;cases o
  | succ i=>exact d i b hb o
def yj(esc:Bool):List mZ->List Nat
 | []=>[]
 | b::r=>bif b.ok&&(esc||!b.esc)then b.blk.getD 0::yj esc r else yj esc r
def qZ{esc}:∀{l:List mZ} {i:Nat} {b:mZ},dy l i=aM b->b.ok=aE->(esc||!b.esc)=aE->b.blk.getD 0∈yj esc l
 | c::r,0,b,h,o,e=>by
  simp[dy]at h;subst h;simp[yj,o,e]
 | c::r,i+1,b,h,o,e=>by
  have:=qZ (l:=r) (i:=i) h o e;simp[yj]
  grind
def DB(l:List Nat)(w a:av)(p:Prop):Prop:=match l with
 | []=>p
 | _=>cu l w a/\p
def wh{l}{w0 w1}{p}(h:DB l w0 w1 p):p/\cu l w0 w1:=by
 unfold DB at h;split at h
 ·exact⟨h,U8⟩
 exact⟨h.2,h.1⟩
def Vo(P:Program)(w:av)(c:Nat):List mZ->(List mZ->Prop)->Prop
 | [],K=>K []
 | b::a,K=>bif b.ok&&b.esc then exl (Vg P 12 b.ty) λv=>Blk w (b.blk.getD 0) b.ty (cZ β0 v)/\Vo P w c a λr=>K ({b with cells:=v,stp:=c,sh:=aE}::r)
  else Vo P w c a λr=>K (b::r)
def CF{P}{w1}{ct}:∀{d:List mZ} {K:List mZ->Prop},Vo P w1 ct d K->∃l,K l/\(∀i a,dy l i=aM a->∃b,dy d i=aM b/\a.ok=b.ok/\a.blk=b.blk/\a.ty=b.ty/\
  ((a=b/\(b.ok&&b.esc)=aL)∨(a.stp=ct/\(∀e,cZ e a.cells=cZ β0 a.cells)/\Blk w1 (b.blk.getD 0) b.ty (cZ β0 a.cells))))/\
  ∀i b,dy d i=aM b->∃a,dy l i=aM a/\a.ty=b.ty/\a.ok=b.ok/\∀k,b.blk=aM k->a.blk=aM k
 | [],K,h=>⟨[],h,λi a hb=>af8,λi b hb=>af8⟩
 | c::r,K,h=>by
  rcases rr h with⟨f,h⟩ | ⟨f,h⟩
  ·obtain⟨v,⟨B,h⟩,_,t⟩:=wc h;obtain⟨l,j,k,m⟩:=CF h;refine⟨_,j,λi a hb=>?_,λi b hb=>?_⟩;rotate_left
   ·cases i with
    | zero=>simp[dy]at hb;subst hb;exact⟨_,rfl,rfl,rfl,λ_ h=>h⟩
    | succ i=>exact m i b hb
   cases i with
   | zero=>
    simp[dy]at hb;subst hb;exact⟨c,rfl,rfl,rfl,rfl,.inr ⟨rfl,λe=>jA (g:=λ_=>aL) (λi h=>aal) v (t _),B⟩⟩
   | succ i=>exact k i a hb
  obtain⟨l,g,j,k⟩:=CF h;refine⟨_,g,λi a hb=>?_,λi b hb=>?_⟩;rotate_left
  ·cases i with
   | zero=>simp[dy]at hb;subst hb;exact⟨_,rfl,rfl,rfl,λ_ h=>h⟩
   | succ i=>exact k i b hb
  cases i with
  | zero=>
   simp[dy]at hb;subst hb;exact⟨c,rfl,rfl,rfl,rfl,.inl ⟨rfl,f⟩⟩
  | succ i=>exact j i a hb
def exR(P:Program):List TypeId->(List SV->Prop)->Prop
 | [],K=>K []
 | t::r,K=>exl (Vg P 12 t) λv=>exR P r λs=>K (Su (match P.underlying t with | some d=>pe d | none=>aL) v::s)
def HD g:∀l,cln g (Hs l)=jP g l
 | []=>rfl
 | s::r=>by simp[Hs,cln,jP,HD g r]
def Ph g ag {l} (h:jP g l=aE):cln g (Su ag l)=aE:=by
 cases ag
 ·cases l with
  | nil=>rfl
  | cons s r=>simp[jP]at h;exact h.1
 show cln g (Hs l)=aE;rw[HD];exact h
def HE{P}:∀{s:List TypeId} {K:List SV->Prop},exR P s K->∃r,K r/\∀g,jP g r=aE
 | [],K,h=>⟨[],h,λ_=>rfl⟩
 | t::d,K,h=>by
  obtain⟨v,h,_,a⟩:=wc h;obtain⟨r,b,c⟩:=HE h;exact⟨_,b,λg=>by simp[jP,Ph g _ (a g),c g]⟩
def DC(r:List SV):SV:=match r with
 | [a]=>a
 | r=>.tup (Hs r)
def zE{g}{rs}(h:jP g rs=aE):cln g (DC rs)=aE:=by
 unfold DC;split
 ·simp only[jP,aR]at h;exact h.1
 show cln g (Hs _)=aE;rw[HD];exact h
def HF(P:Program)(t:TypeId):List TypeId:=match P.underlying t with
 | some (.tuple ts)=>ts.toList
 | _=>[t]
def Vp(P:Program)(f:FuncId):Bool:=match P.funcs[f]? with
 | some f=>!(f.name== "runtime.NumGoroutine")&&f.body.isSome
 | none=>aL
def jR{P}{f}(h:Vp P f=aE) args w:(callFunc f args).run P w=.ok (.enter f args) w:=by
 unfold Vp at h;split at h
 ·rename_i f a;simp at h;have b:f.body≠aaa:=acw
  have n:f.name≠ "runtime.NumGoroutine" :=acw
  simp[callFunc,a,n,b]
 cases h
def ak0(P:Program)(f:FuncId):List TypeId:=match P.funcs[f]? with
 | some f=>f.resultTypes.toList
 | none=>[]
abbrev XT:=av->av->Prop->Prop
section
variable {P:Program} {β:Nat->Nat} {st:St} {a:Act} {w w1:av}
def Rep.next(R:Rep β st a w)(r:st.mv=aL)(p:tM st.bx=aE){bx'}{ct'}
  (f:∀i d,dy bx' i=aM d->d.ok=aE->∃b,dy st.bx i=aM b/\b.ok=aE/\d.blk=b.blk/\Blk w1 (β i) d.ty (cZ β d.cells)):Rep β {st with bx:=bx',w0:=w1,ct:=ct'} a w1:=by
 have y:∀i b,dy st.bx i=aM b->b.ok=aE->b.blk=aM (β i):=λi b h e=>by
  have:=zD p i b h e;rcases hk:b.blk with _|k
  ·rw[hk]at this;cases this
  rw[(R.bx i b h e).at_ k hk]
 refine⟨R.fr,λi d V q=>?_,λi j bi g l m n o x=>?_,Only.refl _ _,λ_=>rfl⟩
 ·obtain⟨b,h,e,c,a⟩:=f i d V q;exact⟨a,λk hk=>acw,λhk=>acw⟩
 obtain⟨b,h,e,_⟩:=f i bi l n;obtain⟨c,k,a,_⟩:=f j g m o;exact R.ne i j b c h k e a x
def Rep.TN(R:Rep β st a w)(d:tM st.bx=aE){i}{b}(h:dy st.bx i=aM b)(c:b.ok=aE):b.blk.getD 0=β i:=by
 have:=zD d i b h c;rcases hk:b.blk with _|k
 ·rw[hk]at this;cases this
 rw[(R.bx i b h c).at_ k hk];rfl
def Vq(P:Program)(a:XT)(st:St)(d:Option Tmp)(J:List TypeId)(f:FuncId)(args:List SV)(r:List aw)(K:St->Prop):Prop:=
 bif jP st.Oz args&&tM st.bx then
  Calls P f (cZ st.bl args++r).toArray st.w0 λe w1=>exR P J λs=>e=.returned (val β0 (DC s))/\
   DB (yj aL st.bx) st.w0 w1 (Vo P w1 st.ct st.bx λb=>a st.w0 w1 (K (St.put {st with bx:=b,w0:=w1,ct:=st.ct+1} d (DC s))))
 else False
def Vs{X}{E:av->av->Prop}(s:∀m w1 p,X m w1 p->p/\E m w1){d}{Jd}{f}{args}{rX}{K}(h:Vq P X st d Jd f args rX K)(n:st.mv=aL)(R:Rep β st a w):
  Calls P f (cZ β args++rX).toArray w λe o=>∃v,e=.returned v/\∃q,K q/\Ext st q/\E w o/\Rep β q (a.put d v) o:=by
 obtain⟨i,h⟩:=eG h;simp at i;rw[R.wT i.1,<-R.still n]at h;refine h.mono ?_;rintro e w1 h;obtain⟨z,⟨rfl,c⟩,y⟩:=HE h;obtain⟨k,S⟩:=wh c;obtain⟨x,l,u,M⟩:=CF k;obtain⟨h,r⟩:=s _ _ _ l;have ev:val β0 _=val β _:=kB (g:=λ_=>aL) (λj h=>aal) _ (zE (y _));refine⟨_,rfl,_,h,?_,r,?_⟩
 ·refine Ext.trans (t:={st with bx:=x,w0:=w1,ct:=st.ct+1}) ⟨rfl,kx _,λ_ _ _ h _=>h,λj b V a d=>?_,M,Jt⟩ (Ext.put _ _ _)
  grind
 rw[ev];refine Rep.put (Rep.next R n i.2 λj d V t=>?_) _ _;obtain⟨b,c,k,l,f,g⟩:=u j d V;have a:b.ok=aE:=by rw[<-k];exact t
 refine⟨b,c,a,l,?_⟩;have e:=R.TN i.2 c a;rcases g with⟨rfl,h⟩ | ⟨_,h,p⟩
 ·have w:=qZ (esc:=aL) c a acw;rw[e]at w;exact(S _ w).trans (R.bx j d c a).blk
 rw[f,h β,<-e];exact p
def A3(a b:List aw):List aw:=a++b
def Vt(P:Program)(a:XT)(st:St)(d:Option Tmp)(J:List TypeId)(f:FuncId)(s:List aw)(args:List SV)(r:List aw)(K:St->Prop):Prop:=
 bif jP st.Oz args&&tM st.bx then
  Calls P f (A3 (A3 s (cZ st.bl args)) r).toArray st.w0 λe w1=>exR P J λb=>e=.returned (val β0 (DC b))/\
   DB (yj aL st.bx) st.w0 w1 (Vo P w1 st.ct st.bx λx=>a st.w0 w1 (K (St.put {st with bx:=x,w0:=w1,ct:=st.ct+1} d (DC b))))
 else False
def Vu{X}{E:av->av->Prop}(s:∀m w1 p,X m w1 p->p/\E m w1){d}{Jd}{f}{fst}{args}{rX}{K}(h:Vt P X st d Jd f fst args rX K)(n:st.mv=aL)(R:Rep β st a w):
  Calls P f (A3 (A3 fst (cZ β args)) rX).toArray w λe o=>∃v,e=.returned v/\∃q,K q/\Ext st q/\E w o/\Rep β q (a.put d v) o:=by
 obtain⟨i,h⟩:=eG h;simp at i;rw[R.wT i.1,<-R.still n]at h;refine h.mono ?_;rintro e w1 h;obtain⟨z,⟨rfl,c⟩,y⟩:=HE h;obtain⟨k,S⟩:=wh c;obtain⟨x,l,u,M⟩:=CF k;obtain⟨h,r⟩:=s _ _ _ l;have ev:val β0 _=val β _:=kB (g:=λ_=>aL) (λj h=>aal) _ (zE (y _));refine⟨_,rfl,_,h,?_,r,?_⟩
 ·refine Ext.trans (t:={st with bx:=x,w0:=w1,ct:=st.ct+1}) ⟨rfl,kx _,λ_ _ _ h _=>h,λj b V a d=>?_,M,Jt⟩ (Ext.put _ _ _)
  grind
 rw[ev];refine Rep.put (Rep.next R n i.2 λj d V t=>?_) _ _;obtain⟨b,c,k,l,f,g⟩:=u j d V;have a:b.ok=aE:=by rw[<-k];exact t
 refine⟨b,c,a,l,?_⟩;have e:=R.TN i.2 c a;rcases g with⟨rfl,h⟩ | ⟨_,h,p⟩
 ·have w:=qZ (esc:=aL) c a acw;rw[e]at w;exact(S _ w).trans (R.bx j d c a).blk
 rw[f,h β,<-e];exact p
def vK(P:Program)(a:XT)(st:St)(d:Option Tmp)(J:List TypeId)(args:List SV)(r:List aw->Sem aw)(K:St->Prop):Prop:=
 bif jP st.Oz args&&tM st.bx then
  exR P J λs=>∃w1,(r (cZ st.bl args)).run P st.w0=.ok (val β0 (DC s)) w1/\DB (yj aE st.bx) st.w0 w1 (a st.w0 w1 (K (St.put {st with w0:=w1} d (DC s))))
 else False
def Pj{X}{E:av->av->Prop}(j:∀e w1 p,X e w1 p->p/\E e w1){d}{Jd}{args}{run}{K}(h:vK P X st d Jd args run K)(m:st.mv=aL)(R:Rep β st a w):
  ∃v c,(run (cZ β args)).run P w=.ok v c/\∃q,K q/\Ext st q/\E w c/\Rep β q (a.put d v) c:=by
 obtain⟨b,h⟩:=eG h;simp at b;rw[R.wT b.1,<-R.still m]at h;obtain⟨s,⟨w1,r,h⟩,k⟩:=HE h;obtain⟨h,S⟩:=wh h;obtain⟨h,f⟩:=j _ _ _ h;have ev:val β0 _=val β _:=kB (g:=λ_=>aL) (λi h=>aal) _ (zE (k _));refine⟨_,w1,r,_,h,?_,f,?_⟩
 ·refine Ext.trans (t:={st with w0:=w1}) ⟨rfl,aX _,λ_ _ _ h _=>h,λi a V o d=>⟨a,V,o,rfl,rfl,rfl,λ_ h=>h⟩,Vf,Jt⟩ (Ext.put _ _ _)
 rw[ev];refine Rep.put (Rep.next (ct':=st.ct) R m b.2 λi a o h=>⟨a,o,h,rfl,?_⟩) _ _;have w:=qZ (esc:=aE) o h rfl;rw[R.TN b.2 o h]at w;exact(S _ w).trans (R.bx i a o h).blk
def Vv(P:Program)(a:XT)(st:St)(d:Option Tmp)(args:List SV)(u:List aw->Sem aw)(r:SV)(K:St->Prop):Prop:=
 bif jP st.Oz args&&tM st.bx&&cln (λ_=>aL) r then
  ∃w1,(u (cZ st.bl args)).run P st.w0=.ok (val β0 r) w1/\DB (yj aE st.bx) st.w0 w1 (a st.w0 w1 (K (St.put {st with w0:=w1} d r)))
 else False
def CG{X}{E:av->av->Prop}(j:∀e w1 p,X e w1 p->p/\E e w1){d}{args}{run}{rs}{K}(h:Vv P X st d args run rs K)(m:st.mv=aL)(R:Rep β st a w):
  ∃v c,(run (cZ β args)).run P w=.ok v c/\∃q,K q/\Ext st q/\E w c/\Rep β q (a.put d v) c:=by
 obtain⟨b,h⟩:=eG h;simp at b;rw[R.wT b.1.1,<-R.still m]at h;obtain⟨w1,r,h⟩:=h;obtain⟨h,S⟩:=wh h;obtain⟨h,f⟩:=j _ _ _ h;have ev:val β0 rs=val β rs:=kB (g:=λ_=>aL) (λi h=>aal) _ b.2;refine⟨_,w1,r,_,h,?_,f,?_⟩
 ·refine Ext.trans (t:={st with w0:=w1}) ⟨rfl,aX _,λ_ _ _ h _=>h,λi a V o s=>⟨a,V,o,rfl,rfl,rfl,λ_ h=>h⟩,Vf,Jt⟩ (Ext.put _ _ _)
 rw[ev];refine Rep.put (Rep.next (ct':=st.ct) R m b.1.2 λi a o h=>⟨a,o,h,rfl,?_⟩) _ _;have w:=qZ (esc:=aE) o h rfl;rw[R.TN b.1.2 o h]at w;exact(S _ w).trans (R.bx i a o h).blk
def aaK(P:Program)(a:XT)(st:St)(d:Option Tmp)(args:List SV)(r:List aw->Sem Unit)(K:St->Prop):Prop:=
 bif jP st.Oz args&&tM st.bx then
  ∃w1,(r (cZ st.bl args)).run P st.w0=.ok () w1/\DB (yj aE st.bx) st.w0 w1 (a st.w0 w1 (K (St.put {st with w0:=w1} d .un)))
 else False
def aaL{X}{E:av->av->Prop}(g:∀e w1 p,X e w1 p->p/\E e w1){d}{args}{run}{K}(h:aaK P X st d args run K)(m:st.mv=aL)(R:Rep β st a w):
  ∃c,(run (cZ β args)).run P w=.ok () c/\∃q,K q/\Ext st q/\E w c/\Rep β q (a.put d undef) c:=by
 obtain⟨b,h⟩:=eG h;simp at b;rw[R.wT b.1,<-R.still m]at h;obtain⟨w1,r,h⟩:=h;obtain⟨h,S⟩:=wh h;obtain⟨h,f⟩:=g _ _ _ h;refine⟨w1,r,_,h,?_,f,?_⟩
 ·refine Ext.trans (t:={st with w0:=w1}) ⟨rfl,aX _,λ_ _ _ h _=>h,λi a V o s=>⟨a,V,o,rfl,rfl,rfl,λ_ h=>h⟩,Vf,Jt⟩ (Ext.put _ _ _)
 refine Rep.put (v:=.un) (Rep.next (ct':=st.ct) R m b.2 λi a V o=>⟨a,V,o,rfl,?_⟩) _;have w:=qZ (esc:=aE) V o rfl;rw[R.TN b.2 V o]at w;exact(S _ w).trans (R.bx i a V o).blk
end
def uS(l:List aw)(i:Nat):aw:=match l,i with
 | [],_=>undef
 | v::_,0=>v
 | _::r,i+1=>uS r i
def zp:List Nat->List aw->List (Nat×aw)
 | i::r,v::s=>(i,v)::zp r s
 | _,_=>[]
def aaM:List (Nat×SV)->List Nat
 | []=>[]
 | p::r=>p.1::aaM r
def Vw:List (Nat×SV)->List SV
 | []=>[]
 | p::r=>p.2::Vw r
def adB β:∀l,zp (aaM l) (cZ β (Vw l))=F8 β l
 | []=>rfl
 | p::r=>by
  have:=adB β r;simp[cZ]at this;simp[aaM,Vw,cZ,zp,F8,this]
def ak1(P:Program)(t:TypeId):Bool:=match P.underlying t with
 | some (.pointer _)=>aE
 | _=>aL
def ak2:Operand->Bool
 | .const _=>aE
 | _=>aL
def ptS:SV->Bool
 | .ptr _=>aE
 | .ad _=>aE
 | _=>aL
def mo(P:Program):Op->Bool
 | .move _=>aE
 | .assign _=>aE
 | .pick _ _ _=>aE
 | .binOp _ t x y _=>!(ak1 P t)||ak2 x||ak2 y
 | .unOp _ _ _=>aE
 | .extract _ _=>aE
 | .build _ _=>aE
 | .makeFunc _ _ _=>aE
 | .makeInterface _ _=>aE
 | .nilCheck _=>aE
 | .fieldAddr _ _ _=>aE
 | .field _ _ _=>aE
 | .indexAddr _ _ _=>aE
 | .load _ _=>aE
 | .index _ _ _=>aE
 | .slice _ _ _ _ _=>aE
 | .convert s d _=>(match P.underlying s,P.underlying d with
  | some (.int _),aM (.int _)=>aE
  | some .string,aM .string=>aE
  | some (.slice e),aM .string=>(match P.underlying e with
   | some (.int .u8)=>aE
   | _=>aL)
  | _,_=>aL)
 | .call c=>(match c.callee with
  | .builtin .len=>(match c.argTypes.toList with
   | [t]=>(match P.underlying t with
    | some (.slice _)=>aE
    | some .string=>aE
    | _=>aL)
   | _=>aL)
  | .builtin .cap=>aE
  | .builtin .min=>aE
  | .builtin .max=>aE
  | _=>aL)
 | _=>aL
def DD:Op->Bool
 | .store _ _ _=>aE
 | _=>aL
def ak3(P:Program)(a:XT)(st:St)(o:Oper)(b:Builtin)(t:Array TypeId)(v:List SV)(K:St->Prop):Prop:=match b with
 | .append=>vK P a st o.dst (HF P o.type) v (λl=>Builtin.append_ t o.type l.toArray) K
 | .copy=>vK P a st o.dst (HF P o.type) v (λl=>Builtin.copy_ t o.type l.toArray) K
 | .delete=>vK P a st o.dst (HF P o.type) v (λl=>Builtin.delete_ t o.type l.toArray) K
 | .clear=>vK P a st o.dst (HF P o.type) v (λl=>Builtin.clear_ t o.type l.toArray) K
 | .len=>vK P a st o.dst (HF P o.type) v (λl=>Builtin.len_ t o.type l.toArray) K
 | .unsafeSliceData=>vK P a st o.dst (HF P o.type) v (λl=>Builtin.unsafeSliceData_ t o.type l.toArray) K
 | .unsafeString=>vK P a st o.dst (HF P o.type) v (λl=>Builtin.unsafeString_ t o.type l.toArray) K
 | _=>False
def Sz(f:FuncId)(args:Array aw):Sem aw:=do
 match <-callFunc f args with
 | .value v=>pure v
 | _=>stuck "extV"
def Vx{P}{f}{args}{w w1}{v}(h:(Sz f args).run P w=.ok v w1):(callFunc f args).run P w=.ok (.value v) w1:=by
 unfold Sz at h;rw[Sem.run_bind]at h;cases c:(callFunc f args).run P w with
 | ok n w=>
  rw[c,Result.andThen_ok]at h;cases n<;>first | (simp at h;done) | (simp at h;obtain⟨rfl,rfl⟩:=h;rfl) | (simp at h)
 | _=>rw[c]at h;simp at h
def af1{P}{a:Act}{w w1}{v}{dst}{x}{f}{first captured}{s:List Operand}{ats}{t'}{p}{af}{g}{args}
  (b:a.eval x=.func (.func f) first.toArray captured.toArray)
  (h:first++s.map a.eval++captured=args) (c:(callFunc f args.toArray).run P w=.ok (.value v) w1):
  (execOp a.eval ⟨dst,.call ⟨.value x,s.toArray,ats⟩,t',p,af,g⟩).run P w=.ok (.value v) w1:=by
 subst h;simp only[execOp,resolve,b,Deferred.ofValue,invoke]
 grind
def af2(P:Program)(a:XT)(st:St)(o:Oper)(f:SV)(s:List SV)(K:St->Prop):Prop:=match f with
 | .fn g b c=>bif Fu b&&Fu c&&Vp P g then fV (st.esc (qx b++s++qx c)) λst=>Vq P a st o.dst (ak0 P g) g (qx b++s++qx c) [] K
  else bif Fu b&&Fu c then fV (st.esc (qx b++s++qx c)) λst=>vK P a st o.dst (ak0 P g) (qx b++s++qx c) (λl=>Sz g l.toArray) K else False
 | .raw v=>fV (st.esc s) λst=>∃(g:FuncId) (t cap:List aw),v.v=.func (.func g) t.toArray cap.toArray/\(∀r w,(callFunc g r).run P w=.ok (.enter g r) w)/\Vt P a st o.dst (HF P o.type) g t s cap K
 | _=>False
abbrev YT:=Option Nat->Prop->Prop
def ak4(P:Program)(a:XT)(Y:YT)(st:St)(o:Oper)(p s:SV)(v:List SV)(K:St->Prop):Prop:=match p with
 | .box i off=>cH (dy st.bx i) λb=>bif b.ok&&Nat.ble (off+I v) (I b.cells) then Y b.blk (K ((st.wU i b (spl b.cells off v)).put o.dst .un))else False
 | .ad p=>fV (st.esc v) λst=>∃(b off:Nat) (cells:List aw) (e:TypeId),p=(⟨b,off,aaa⟩)/\Blk st.w0 b e cells/\off+I v<=I cells/\
  bif jP st.Oz v&&tM st.bx then neB b st.bx (∀w,Only [b] st.w0 w->Blk w b e (fE cells off (cZ st.bl v))->a st.w0 w (K (St.put {st with w0:=w} o.dst .un)))else False
 | _=>False
def ak5(P:Program)(st:St)(o:Oper)(f:SV)(v:List SV)(K:St->Prop):Prop:=match f with
 | .fn g s c=>bif Fu s&&Fu c&&Vp P g then fV (st.esc (qx s++v++qx c)) λst=>bif jP st.Oz (qx s++v)&&jP st.Oz (qx c)then
  K (St.put {st with df:=(g,cZ st.bl (qx s++v),cZ st.bl (qx c))::st.df} o.dst .un)else False else False
 | _=>False
def loud(P:Program)(e:XT)(Y:YT)(st:St)(o:Oper)(K:St->Prop):Prop:=match o.op with
 | .binOp op t x y _=>cH (st.ev x) λa=>cH (st.ev y) λb=>bif ptS a&&ptS b then fV (st.esc [a,b]) λst=>vK P e st o.dst [o.type] [a,b] (λv=>Go.binOp op t (uS v 0) (uS v 1)) K else False
 | .alloc t=>cH (zc P t) λz=>bif chk st z then K (st.I5 o.dst t z)else False
 | .box t x=>cH (st.ev x) λs=>cH (Dk s) λz=>bif chk st z then K (st.I5 o.dst t z)else False
 | .store t x y=>cH (st.ev x) λp=>cH (st.ev y) λs=>cH (Dk s) λv=>bif sz P t (I v) then ak4 P e Y st o p s v K else False
 | .call c=>cH (st.RD c.args.toList) λv=>(match c.callee with
  | .value f=>cH (st.ev f) λa=>af2 P e st o a v K
  | .builtin b=>fV (st.esc v) λst=>ak3 P e st o b c.argTypes v K
  | _=>False)
 | .defer c=>cH (st.RD c.args.toList) λv=>(match c.callee with
  | .value f=>cH (st.ev f) λa=>ak5 P st o a v K
  | _=>False)
 | .buildSlice t n ps=>cH (st.Z5 ps.toList) λl=>fV (st.esc (Vw l)) λst=>vK P e st o.dst [t] (Vw l) (λv=>Instr.buildSlice t n (zp (aaM l) v).toArray) K
 | .makeSlice t x y=>cH (st.ev x) λa=>cH (st.ev y) λb=>fV st λst=>vK P e st o.dst [t] [a,b] (λv=>Instr.makeSlice t (uS v 0) (uS v 1)) K
 | .makeMap t aaa=>fV st λst=>vK P e st o.dst [t] [] (λ_=>Instr.makeMap t aaa) K
 | .makeMap t (aM x)=>cH (st.ev x) λa=>fV st λst=>vK P e st o.dst [t] [a] (λv=>Instr.makeMap t (aM (uS v 0))) K
 | .lookup t x i ok=>cH (st.ev x) λa=>cH (st.ev i) λb=>fV st λst=>vK P e st o.dst (HF P o.type) [a,b] (λv=>Instr.lookup t (uS v 0) (uS v 1) ok) K
 | .mapUpdate t x y z=>cH (st.ev x) λa=>cH (st.ev y) λb=>cH (st.ev z) λc=>fV (st.esc [a,b,c]) λst=>aaK P e st o.dst [a,b,c] (λv=>Instr.mapUpdate t (uS v 0) (uS v 1) (uS v 2)) K
 | .insert t x y z=>cH (st.ev x) λa=>cH (st.ev y) λb=>cH (st.ev z) λc=>fV (st.esc [a,b,c]) λst=>aaK P e st o.dst [a,b,c] (λv=>Instr.mapUpdate t (uS v 0) (uS v 1) (uS v 2)) K
 | .convert s d x=>cH (st.ev x) λa=>fV (st.esc [a]) λst=>vK P e st o.dst [d] [a] (λv=>convert s d (uS v 0)) K
 | .range t x=>cH (st.ev x) λa=>fV st λst=>∃p,Vv P e st o.dst [a] (λv=>Instr.range t (uS v 0)) (.ptr p) K
 | .next x aL=>cH (st.ev x) λa=>fV st λst=>Vv P e st o.dst [a] (λv=>Instr.next (uS v 0) aL o.type) (.tup (Hs [.bl aL])) K∨
  exl [.raw,.raw] λr=>Vv P e st o.dst [a] (λv=>Instr.next (uS v 0) aL o.type) (.tup (Hs (.bl aE::r))) K
 | .entry x=>cH (st.ev x) λa=>fV st λst=>exl [.raw,.raw] λr=>Vv P e st o.dst [a] (λv=>Instr.entry (uS v 0)) (.tup (Hs r)) K
 | _=>False
section
variable {P:Program} {β:Nat->Nat} {st:St} {a:Act} {w w1:av} {X:XT} {Y:YT} {E:av->av->Prop} {K:St->Prop} {Q:Exit->Act->av->Prop}
abbrev Aft(E:av->av->Prop)(st:St)(K:St->Prop)(c:av)(b:Act)(w:av):Prop:=∃a d,K d/\Ext st d/\E c w/\Rep a d b w
def om(f:∀b w1 p,X b w1 p->p/\E b w1){o}{Jd}{args l}{run}(h:fV (st.esc l) λst=>vK P X st o.dst Jd args run K)(R:Rep β st a w)
  (x:∀v w1,(run (cZ β args)).run P w=.ok v w1->(execOp a.eval o).run P w=.ok (.value v) w1):o.wp P a w (Aft E st K w) Q:=by
 obtain⟨s,c,e,j,m,_⟩:=fg h (R.esc l);obtain⟨v,n,r,d,k,g,k3,i⟩:=Pj f c m j;exact BM v (x v n r) rfl ⟨β,d,k,(Ext.esc st l).trans (e.trans g),k3,i⟩
def zF(f:∀b w1 p,X b w1 p->p/\E b w1){o}{Jd}{args}{run}(h:fV st λst=>vK P X st o.dst Jd args run K)(R:Rep β st a w)
  (x:∀v w1,(run (cZ β args)).run P w=.ok v w1->(execOp a.eval o).run P w=.ok (.value v) w1):o.wp P a w (Aft E st K w) Q:=by
 obtain⟨s,c,e,j,m,_⟩:=fg h R;obtain⟨v,l,r,d,k,g,k3,i⟩:=Pj f c m j;exact BM v (x v l r) rfl ⟨β,d,k,e.trans g,k3,i⟩
def Km(f:∀b w1 p,X b w1 p->p/\E b w1){o}{args l}{run}(h:fV (st.esc l) λst=>aaK P X st o.dst args run K)(R:Rep β st a w)
  (x:∀w1,(run (cZ β args)).run P w=.ok () w1->(execOp a.eval o).run P w=.ok .skip w1):o.wp P a w (Aft E st K w) Q:=by
 obtain⟨s,c,e,j,m,_⟩:=fg h (R.esc l);obtain⟨n,r,d,k,g,k3,i⟩:=aaL f c m j;exact U7 (x n r) rfl ⟨β,d,k,(Ext.esc st l).trans (e.trans g),k3,i⟩
def Pm(f:∀w w1,Only [] w w1->E w w1){d}{t}{zs}(h:chk st zs=aE)(e:K (st.I5 d t zs))(R:Rep β st a w){b}(g:w.heap.size<=b)(c:Only [] w w1)(B:Blk w1 b t (cZ β zs)):
  Aft E st K w (a.put d (.pointer (aM ⟨b,0,aaa⟩))) w1:=by
 simp[chk]at h;exact⟨_,_,e,Ext.I5 _ _ _ _,f _ _ c,R.I5 h.1.1.1 h.1.1.2 h.1.2 g c B h.2⟩
def Vy(g:∀b w1 p,X b w1 p->p/\E b w1){o}{Jd}{f}{args}{rX}{s1}(h:Vq P X s1 o.dst Jd f args rX K)(m:s1.mv=aL)(c:Ext st s1)(R:Rep β s1 a w)
  (x:(execOp a.eval o).run P w=.ok (.enter f (cZ β args++rX).toArray) w):o.wp P a w (Aft E st K w) Q:=by
 refine O6 x ((Vs g h m R).mono ?_);rintro e l ⟨v,rfl,d,k,i,k3,j⟩;exact⟨v,_,rfl,rfl,β,d,k,c.trans i,k3,j⟩
def SA(g:∀b w1 p,X b w1 p->p/\E b w1){o}{Jd}{f}{fst}{args}{rX}{s1}(h:Vt P X s1 o.dst Jd f fst args rX K)(m:s1.mv=aL)(c:Ext st s1)(R:Rep β s1 a w)
  (x:(execOp a.eval o).run P w=.ok (.enter f (A3 (A3 fst (cZ β args)) rX).toArray) w):o.wp P a w (Aft E st K w) Q:=by
 refine O6 x ((Vu g h m R).mono ?_);rintro e l ⟨v,rfl,d,k,i,k3,j⟩;exact⟨v,_,rfl,rfl,β,d,k,c.trans i,k3,j⟩
def Vz{s}(h:ptS s=aE) β:∃q,val β s=.pointer q:=by
 cases s<;>first | (cases h;done) | exact⟨_,rfl⟩
def aaN{a:Act}{dst}{op}{t ty}{x y}{t'}{p}{af}{g}{u v r}(c:∃q,u=.pointer q)(d:∃q,v=.pointer q)(e:a.eval x=u)(f:a.eval y=v){w w1}
  (b:(Go.binOp op t u v).run P w=.ok r w1):(execOp a.eval ⟨dst,.binOp op t x y ty,t',p,af,g⟩).run P w=.ok (.value r) w1:=by
 obtain⟨q,rfl⟩:=c;obtain⟨i,rfl⟩:=d;have h:eqGuard op t x y (.pointer q) (.pointer i)=pure ():=by cases op<;>rfl
 simp[execOp,e,f,h,b]
def aaO{a:Act}{dst}{x}{fn}{first c:List aw}{s:List Operand}{ats}{t'}{p}{af}{g}{args}{w}
  (b:a.eval x=.func fn first.toArray c.toArray) (h:first++s.map a.eval=args):
  (execOp a.eval ⟨dst,.defer ⟨.value x,s.toArray,ats⟩,t',p,af,g⟩).run P w=.ok (.defer {target:=.fn fn c.toArray,args:=args.toArray}) w:=by
 subst h;simp only[execOp,resolve,b,Deferred.ofValue];simp
def VA{a:Act}{dst}{t}{x}{t'}{p}{af}{g}{u v}{w w1}(b:a.eval x=u)(h:(Instr.range t u).run P w=.ok v w1):
  (execOp a.eval ⟨dst,.range t x,t',p,af,g⟩).run P w=.ok (.value v) w1:=by
 simp[execOp,b,h]
def Pn{a:Act}{dst}{x}{t'}{p}{af}{g}{u v}{w w1}(b:a.eval x=u)(h:(Instr.next u aL t').run P w=.ok v w1):
  (execOp a.eval ⟨dst,.next x aL,t',p,af,g⟩).run P w=.ok (.value v) w1:=by
 simp[execOp,b,h]
def VB{a:Act}{dst}{x}{t'}{p}{af}{g}{u v}{w w1}(b:a.eval x=u)(h:(Instr.entry u).run P w=.ok v w1):
  (execOp a.eval ⟨dst,.entry x,t',p,af,g⟩).run P w=.ok (.value v) w1:=by
 simp[execOp,b,h]
def oo β l m:cZ β (l++m)=cZ β l++cZ β m:=by simp[cZ]
def HG(d:∀l w1 p,X l w1 p->p/\E l w1){o:Oper}(i:∀w w1,Only [] w w1->E w w1)(S:DD o.op=aE->∀g k w w1 p,Y g p->(∀j,g=aM j->k=j)->Only [k] w w1->p/\E w w1)(h:loud P X Y st o K)(R:Rep β st a w):o.wp P a w (Aft E st K w) Q:=by
 obtain⟨e,op,u,p,m,r⟩:=o;unfold loud at h;dsimp only at h;split at h
 ·obtain⟨x,b,h⟩:=bI h;obtain⟨y,c,h⟩:=bI h;obtain⟨p,h⟩:=eG h;simp only[aR]at p;exact om d h R λv w1 a=>aaN (Vz p.1 β) (Vz p.2 β) (R.ev b) (R.ev c) a
 ·obtain⟨s,k,h⟩:=bI h;obtain⟨f,h⟩:=eG h;obtain⟨z,n,p⟩:=adA k w;exact JU n (p β) (λ_=>rfl) λb w1 c a B=>Pm i f h R c a B
 ·obtain⟨s,k,h⟩:=bI h;obtain⟨n,z,h⟩:=bI h;obtain⟨f,h⟩:=eG h;exact afJ (by rw[R.ev k];exact(AY z β).1) (λ_=>rfl) λb w1 c a B=>Pm i f h R c a B
 ·obtain⟨q,x,h⟩:=bI h;obtain⟨s,y,h⟩:=bI h;obtain⟨a,k,h⟩:=bI h;obtain⟨z,h⟩:=eG h;obtain⟨c,f⟩:=AY k β;have E:=S rfl;cases q with
  | box q off=>
   obtain⟨b,p,h⟩:=bI h;obtain⟨n,h⟩:=eG h;simp only[aR]at n;have t:=dH n.2;refine JS (tq z w) (R.ev x) (by rw[R.ev y];exact c) (gM β a) f (R.bx q b p n.1).blk (by rw[gM,gM];exact t) rfl rfl λw1 s B=>?_;rw[<-Kf]at B;obtain⟨h,v⟩:=E _ (β q) _ w1 _ h (λj A=>(R.bx q b p n.1).at_ j A) s;exact⟨β,_,h,(Ext.wU p).trans (Ext.put _ _ _),v,(R.wU p n.1 s B).put e .un⟩
  | ad ad=>
   simp only[ak4]at h;obtain⟨F,K,G,L,C,_⟩:=fg h (R.esc a);obtain⟨g,off,cells,J,rfl,B,T,b⟩:=K;obtain⟨q,b⟩:=eG b;simp only[aR]at q;obtain⟨b,P⟩:=Nu b;have D:=L.still C;rw[<-D,L.wT q.1]at b;rw[<-D]at B;refine JS (tq z w) (R.ev x) (by rw[R.ev y];exact c) (gM β a) f B (by rw[gM];exact T) rfl rfl λw1 A W=>?_;obtain⟨M,N⟩:=d _ _ _ (b w1 A W);refine⟨β,_,M,((Ext.esc st a).trans G).trans (Ext.trans (t:={F with w0:=w1}) ⟨rfl,aX _,λ_ _ _ h _=>h,λs p V n Y=>⟨p,V,n,rfl,rfl,rfl,λ_ h=>h⟩,Vf,Jt⟩ (Ext.put _ _ _)),N,?_⟩;refine Rep.put (v:=.un) (Rep.next (ct':=F.ct) L C q.2 λs p V n=>⟨p,V,n,rfl,?_⟩) _;have H:=L.TN q.2 V n;have:=P s p V n;rw[H]at this;exact A.blk (L.bx s p V n).blk (by simpa using this)
  | _=>exact h.elim
 ·rename_i c;obtain⟨k,⟨x⟩,t⟩:=c;obtain⟨s,n,h⟩:=bI h;have A:=R.RD n;dsimp only at h;cases k with
  | value f=>
   obtain⟨c,b,h⟩:=bI h;cases c with
   | fn B y w=>
    have z:Fu y=aE->Fu w=aE->a.eval f=.func (.func B) (cZ β (qx y)).toArray (cZ β (qx w)).toArray:=λD E=>by
     rw[R.ev b];show Value.func (.func B) (tI β y).toArray (tI β w).toArray=_;rw[pS β D,pS β E]
    have C:=h;unfold af2 at C;rcases rr C with⟨p,q⟩ | ⟨_,q⟩
    ·simp only[aR]at p;obtain⟨v,q,a,L,f,_⟩:=fg q (R.esc _);refine Vy d q f ((Ext.esc _ _).trans a) L ?_;exact JN (z p.1.1 p.1.2) (jR p.2) (by rw[A,oo,oo,bE])
    obtain⟨p,q⟩:=eG q;simp only[aR]at p;exact om d q R λv w1 a=>af1 (z p.1 p.2) (by rw[A,oo,oo]) (Vx a)
   | raw v=>
    simp only[af2]at h;obtain⟨E,⟨y,p,cap,z,B,C⟩,q,L,D,_⟩:=fg h (R.esc s);refine SA d C D ((Ext.esc _ _).trans q) L ?_;have w:a.eval f=.func (.func y) p.toArray cap.toArray:=(R.ev b).trans z;exact JN w B (by rw[A];rfl)
   | _=>exact h.elim
  | builtin b=>
   unfold ak3 at h;cases b with
   | append=>exact om d h R λv w1 a=>AW A a
   | copy=>exact om d h R λv w1 a=>Dc A a
   | delete=>exact om d h R λv w1 a=>AX A a
   | clear=>exact om d h R λv w1 a=>B9 A a
   | len=>exact om d h R λv w1 a=>Fm A a
   | unsafeSliceData=>exact om d h R λv w1 a=>(by rw[<-A]at a;exact oZ (λ_=>rfl) a)
   | unsafeString=>exact om d h R λv w1 a=>(by rw[<-A]at a;exact oZ (λ_=>rfl) a)
   | _=>
    obtain⟨b,a,_⟩:=fg h (R.esc s);exact a.elim
  | _=>exact h.elim
 ·rename_i c;obtain⟨b,⟨x⟩,s⟩:=c;obtain⟨v,k,h⟩:=bI h;have A:=R.RD k;dsimp only at h;cases b with
  | value f=>
   obtain⟨c,n,h⟩:=bI h;cases c with
   | fn B z y=>
    unfold ak5 at h;obtain⟨D,q⟩:=eG h;simp only[aR]at D;have J:a.eval f=.func (.func B) (cZ β (qx z)).toArray (cZ β (qx y)).toArray:=by
     rw[R.ev n];show Value.func (.func B) (tI β z).toArray (tI β y).toArray=_;rw[pS β D.1.1,pS β D.1.2]
    obtain⟨C,q,H,L,N,_⟩:=fg q (R.esc _);obtain⟨E,q⟩:=eG q;simp only[aR]at E;rw[L.wT E.1,L.wT E.2]at q;have M:=aaO (P:=P) (dst:=e) (ats:=s) (t':=u) (p:=p) (af:=m) (g:=r) (w:=w) J (by rw[A,<-oo]);unfold Oper.wp;rw[M,Oper.upon_defer];have F:Rep β {C with df:=(B,cZ β (qx z++v),cZ β (qx y))::C.df} {a with defers:={target:=.fn (.func B) (cZ β (qx y)).toArray,args:=(cZ β (qx z++v)).toArray}::a.defers} w:=by
     obtain⟨f,a⟩:=L.fr;exact⟨⟨f,by rw[a];rfl⟩,L.bx,L.ne,L.only,L.still⟩
    exact⟨β,_,q,((Ext.esc _ _).trans H).trans (Ext.trans (t:={C with df:=(B,cZ β (qx z++v),cZ β (qx y))::C.df}) ⟨rfl,aX _,λ_ _ _ h _=>h,λW G V K T=>⟨G,V,K,rfl,rfl,rfl,λ_ h=>h⟩,Vf,⟨[_],rfl⟩⟩ (Ext.put _ _ _)),i _ _ (Only.refl _ _),F.put e .un⟩
   | _=>exact h.elim
  | _=>exact h.elim
 ·rename_i t n ps;obtain⟨f,c,b⟩:=bI h;clear h;obtain⟨ps⟩:=ps;refine om d b R λv w1 a=>?_;rw[adB]at a;exact Hh (R.Z5 c) a
 ·obtain⟨b,x,h⟩:=bI h;obtain⟨v,y,h⟩:=bI h;exact zF d h R λ_ w1 a=>JL (R.ev x) (R.ev y) a
 ·exact zF d h R λ_ w1 a=>Sg a
 ·obtain⟨b,x,h⟩:=bI h;exact zF d h R λ_ w1 a=>M5 (R.ev x) a
 ·obtain⟨b,x,h⟩:=bI h;obtain⟨v,y,h⟩:=bI h;exact zF d h R λ_ w1 a=>U3 (R.ev x) (R.ev y) a
 ·obtain⟨c,x,h⟩:=bI h;obtain⟨v,y,h⟩:=bI h;obtain⟨z,b,h⟩:=bI h;exact Km d h R λw1 a=>JM (R.ev x) (R.ev y) (R.ev b) a
 ·obtain⟨c,x,h⟩:=bI h;obtain⟨v,y,h⟩:=bI h;obtain⟨z,b,h⟩:=bI h;exact Km d h R λw1 a=>U4 (R.ev x) (R.ev y) (R.ev b) a
 ·obtain⟨b,x,h⟩:=bI h;exact om d h R λ_ w1 a=>Sh (R.ev x) a
 ·obtain⟨w,x,h⟩:=bI h;obtain⟨t,⟨q,c⟩,b,L,f,_⟩:=fg h R;obtain⟨v,y,k,a,n,p,k3,s⟩:=CG d c f L;exact BM v (VA (R.ev x) k) rfl ⟨β,a,n,b.trans p,k3,s⟩
 ·obtain⟨f,x,h⟩:=bI h;obtain⟨s,a,b,L,c,_⟩:=fg h R;rcases a with a | a
  ·obtain⟨v,w,k,q,n,p,k3,t⟩:=CG d a c L;exact BM v (Pn (R.ev x) k) rfl ⟨β,q,n,b.trans p,k3,t⟩
  obtain⟨_,a,_⟩:=wc a;obtain⟨v,w,k,q,n,p,k3,t⟩:=CG d a c L;exact BM v (Pn (R.ev x) k) rfl ⟨β,q,n,b.trans p,k3,t⟩
 ·obtain⟨t,x,h⟩:=bI h;obtain⟨s,a,b,L,c,_⟩:=fg h R;obtain⟨_,a,_⟩:=wc a;obtain⟨v,w,f,q,k,n,k3,p⟩:=CG d a c L;exact BM v (VB (R.ev x) f) rfl ⟨β,q,k,b.trans n,k3,p⟩
 exact h.elim
end
def nd(P:Program)(st:St)(o:Op):Bool:=match o with
 | .load _ x=>(match st.ev x with
  | some (.ad _)=>aE
  | _=>aL)
 | .convert s _ _=>(match P.underlying s with
  | some (.slice _)=>aE
  | _=>aL)
 | _=>aL
def exI(b:Bool)(st:St)(K:St->Prop):Prop:=bif b&&st.mv then fV st K else K st
def A4{b}{st}{K}(h:exI b st K){β}{a}{w}(R:Rep β st a w):∃d,K d/\Ext st d/\Rep β d a w/\d.fr=st.fr/\d.n=st.n:=by
 rcases rr h with⟨_,h⟩ | ⟨_,h⟩
 ·obtain⟨s,a,b,c,g,e,f,_⟩:=fg h R;exact⟨s,a,b,c,e,f⟩
 exact⟨st,h,Ext.refl _,R,rfl,rfl⟩
def HH(P:Program):List Oper->Bool
 | []=>aE
 | o::r=>mo P o.op&&HH P r
def Nv:List Oper->Bool
 | []=>aL
 | o::r=>mem o.op||Nv r
def X0:XT:=λ_ _ p=>p
def Y0:YT:=λ_ p=>p
def agT(P:Program)(t:TypeId):Bool:=match P.underlying t with
 | some d=>pe d
 | none=>aL
def af4(P:Program)(o:Oper)(v:SV)(K:SV->Prop):Prop:=match o.op,v with
 | .extract _ _,.raw x=>(match Vg P 12 o.type with
  | []=>K (.raw x)
  | [.raw]=>K (.raw x)
  | ls=>exl ls λv=>x.v=val β0 (Su (agT P o.type) v)/\K (Su (agT P o.type) v))
 | _,v=>K v
def aaP{P}{o}{v}{K}(h:af4 P o v K):∃u,K u/\∀a,val a u=val a v:=by
 unfold af4 at h;split at h
 ·split at h
  ·exact⟨_,h,λ_=>rfl⟩
  ·exact⟨_,h,λ_=>rfl⟩
  obtain⟨v,⟨e,h⟩,_,c⟩:=wc h;exact⟨_,h,λa=>Eq.trans (kB (g:=λ_=>aL) (λi h=>aal) _ (Ph _ _ (c _))).symm e.symm⟩
 exact⟨_,h,λ_=>rfl⟩
def Po(P:Program)(st:St)(o:Oper)(K:St->Prop):Prop:=
 bif mo P o.op then exI (nd P st o.op) st λst=>pur P [] st o.op λv=>af4 P o v λv=>K (st.put o.dst v)else loud P X0 Y0 st o K
def Cb(P:Program)(o:List Oper):Nat->List Oper->St->(St->Prop)->Prop
 | 0,_,_,_=>False
 | _+1,[],st,K=>K st
 | f+1,a::r,st,K=>match a.guard with
  | none=>Po P st a λst=>Cb P o f r st K
  | some (j,want)=>(match tst st o j with
   | some (_,.un)=>Cb P o f r (st.put a.dst .un) K
   | some (_,.bl b)=>bif b==want then Po P st a λst=>Cb P o f r st K else Cb P o f r (st.put a.dst .un) K
   | some (d,.bt t)=>bif HH P ((a::r).take (Ca o j (a::r)+1))
    then exI (Nv ((a::r).take (Ca o j (a::r)+1))) st λst=>A0 P o f [] ((a::r).take (Ca o j (a::r)+1)) st λst=>Cb P o f ((a::r).drop (Ca o j (a::r)+1)) st K
    else((t=aE->Cb P o f (a::r) (st.put (aM d) (.bl aE)) K)/\(t=aL->Cb P o f (a::r) (st.put (aM d) (.bl aL)) K))
   | _=>False)
section
variable {P:Program} {ops:List Oper} {Q:Exit->Act->av->Prop}
def VC{st}{o}{rest}{K}{β}{a}{w}(h:Po P st o K)(R:Rep β st a w)(e:Region.wanted o (yielded ops.toArray a.tmps)=aE)
  (g:∀b d c f,K d->Ext st d->Rep b d c f->wpList P ops.toArray Q rest c f):wpList P ops.toArray Q (o::rest) a w:=by
 rcases rr h with⟨_,h⟩ | ⟨_,h⟩
 ·obtain⟨s,k,l,j,m,n⟩:=A4 h R;obtain⟨v,i,y⟩:=Nq k;obtain⟨u,i,ev⟩:=aaP i;exact M4 _ e (y trivial β a w j _ _ _ _ _ w λ_=>rfl) rfl (g β _ _ w i (l.trans (Ext.put _ _ _)) (ev β▸j.put o.dst u))
 refine afI e (Oper.wp_mono ?_ (HG (E:=λ_ _=>True) (λ_ _ _ h=>⟨h,trivial⟩) (λ_ _ _=>trivial) (λ_ _ _ _ _ _ h _ _=>⟨h,trivial⟩) h R))
 grind
def xn:∀{f:Nat} {l:List Oper} {st:St} {K:St->Prop},Cb P ops f l st K->∀{h:Nat->Nat} {a:Act} {g:av},Rep h st a g->
  (∀c q e w,K q->Ext st q->Rep c q e w->Q .normal e w)->wpList P ops.toArray Q l a g
 | 0,_,_,_,a,_,_,_,_,_=>a.elim
 | _+1,[],st,K,b,h,a,g,R,d=>d h st a g b (Ext.refl _) R
 | f+1,o::r,st,K,i,h,a,g,R,j=>by
  have n:Cb P ops f r _ K->Region.wanted o _=aL->wpList P ops.toArray Q _ a g:=λi k=>
   adq k rfl (xn i (R.put o.dst .un) λc q e w a b k3=>j c q e w a ((Ext.put _ _ _).trans b) k3)
  have y:(Po P st o λst=>Cb P ops f r st K)->Region.wanted o _=aE->wpList P ops.toArray Q _ a g:=λi k=>
   VC i R k λc q e w d f k3=>xn d k3 λa z b t m p s=>j a z b t m (f.trans p) s
  unfold Cb at i;split at i
  ·rename_i a;exact y i (wn a)
  rename_i p m f;split at i
  ·rename_i d t;exact n i (AZ R f t)
  ·rename_i d b t;have k:=tK R f t (b:=b) rfl
   grind
  ·rename_i d t b;obtain⟨u,J,Y,Z⟩:=Dp b;rcases rr i with⟨_,i⟩ | ⟨_,i⟩
   ·generalize Ca ops p _+1=F at i;obtain⟨s,z,A,B,P,S⟩:=A4 i R;obtain⟨T,C,D,k3,E⟩:=uQ z;obtain⟨e,v,x⟩:=E trivial h a g B;have:=Hv (Q:=Q) (rest:=(o::r).drop F) v (xn C x λd N t M G H L=>j d N t M G ((A.trans D).trans H) L);simp_all
   cases t
   ·exact xn (i.2 rfl) (R.set Z rfl) λc q e w a d k3=>j c q e w a ((Ext.put _ _ _).trans d) k3
   exact xn (i.1 rfl) (R.set Z rfl) λc q e w a d k3=>j c q e w a ((Ext.put _ _ _).trans d) k3
  exact i.elim
end
def JT:List Lf->Type
 | []=>av->Prop
 | l::r=>l.T->JT r
def Kn:(l:List Lf)->JT l->(List SV->av->Prop)->Prop
 | [],J,K=>∀w,J w->K [] w
 | a::r,J,K=>∀x,Kn r (J x) λv w=>K (a.sv x::v) w
def unI(k:IntKind)(s:SV):Option Int:=match tJ s with
 | some (k',n)=>bif decide (k'=k)then aM n else aaa
 | none=>aaa
def unP(bl:Nat->Nat)(s:SV):Option (Option Addr):=match s with
 | .box i o=>aM (aM ⟨bl i,o,aaa⟩)
 | s=>opn s
def unM(s:SV):Option (Option Nat):=match s with
 | .map m=>aM m
 | _=>aaa
def unR(bl:Nat->Nat)(s:SV):Option OV:=match s with
 | .raw v=>aM v
 | .fn f s c=>aM ⟨.func (.func f) (tI bl s).toArray (tI bl c).toArray,rfl⟩
 | _=>aaa
def un(bl:Nat->Nat):(l:Lf)->SV->Option l.T
 | .int k=>unI k
 | .bool=>Dj
 | .str=>yD
 | .ptr=>unP bl
 | .sl=>O9
 | .map=>unM
 | .raw=>unR bl
def ak6{bl}{l}{s}{x}(h:un bl l s=aM x) β:val β (l.sv x)=val bl s:=by
 cases l with
 | int k=>
  have h:unI k s=aM x:=h;unfold unI at h;split at h
  ·rename_i k n o;obtain⟨e,rfl⟩:=Ht h;have e:=aO e;subst e;rw[dS o];rfl
  cases h
 | bool=>rw[pf h];rfl
 | str=>rw[jQ h];rfl
 | ptr=>
  have h:unP bl s=aM x:=h;unfold unP at h;split at h
  ·injection h with h;subst h;rfl
  rw[aaA h];rfl
 | sl=>rw[mN h];rfl
 | map=>
  have h:unM s=aM x:=h;unfold unM at h;split at h
  ·injection h with h;subst h;rfl
  cases h
 | raw=>
  have h:unR bl s=aM x:=h;unfold unR at h;split at h
  ·injection h with h;subst h;rfl
  ·injection h with h;subst h;rfl
  cases h
def apJ:(l:List Lf)->(Nat->Nat)->JT l->List SV->av->Prop
 | [],_,J,[],w=>J w
 | a::r,bl,J,s::b,w=>(match un bl a s with
  | some x=>apJ r bl (J x) b w
  | none=>False)
 | _,_,_,_,_=>False
def VD{bl}{w}:∀{l:List Lf} {J:JT l} {a:List SV} {K:List SV->av->Prop},apJ l bl J a w->Kn l J K->∃v,K v w/\I v=I l/\(∀b,cZ b v=cZ bl a)/\∀g,jP g v=aE
 | [],J,[],K,h,k=>⟨[],k w h,rfl,λ_=>rfl,λ_=>rfl⟩
 | c::r,J,s::a,K,h,k=>by
  unfold apJ at h;split at h
  ·rename_i x j;obtain⟨v,d,e,f,i⟩:=VD h (k x);refine⟨_,d,by simp[e],λb=>?_,λg=>by simp[jP,Lf.cln,i g]⟩;have:=f b;simp only[cZ,bS]at this⊢;rw[this,ak6 j]
  exact h.elim
 | [],_,_::_,_,h,_=>h.elim
 | _::_,_,[],_,h,_=>h.elim
inductive MI where
 | s (slot:Nat) (l:Lf)
 | a (slot:Nat) (ls:List Lf)
 | b (slot:Nat) (ls:List Lf)
def mLs:List MI->List Lf
 | []=>[]
 | .s _ l::r=>l::mLs r
 | .a _ l::r=>l++mLs r
 | .b _ l::r=>l++mLs r
def bxi(st:St)(i:Nat):Option Nat:=match st.get i with
 | some (.box j _)=>aM j
 | _=>aaa
def VE:List SV->List SV
 | []=>[]
 | .box j o::r=>.box j o::VE r
 | _::r=>VE r
def DE(st:St):List MI->List SV
 | []=>[]
 | .b i _::r=>(match bxi st i with
  | some j=>(match dy st.bx j with
   | some b=>VE b.cells++DE st r
   | none=>DE st r)
  | none=>DE st r)
 | .s i _::r=>(match st.get i with
  | some (.box j o)=>.box j o::DE st r
  | _=>DE st r)
 | _::r=>DE st r
def tN(st s:St):List MI->Option (List SV)
 | []=>aM []
 | .s i _::r=>(match s.get i,tN st s r with
  | some v,aM l=>aM (v::l)
  | _,_=>aaa)
 | .a i a::r=>(match s.get i,tN st s r with
  | some (.agg l),aM m=>bif Fu l&&Nat.beq (I (qx l)) (I a) then aM (qx l++m)else aaa
  | _,_=>aaa)
 | .b i a::r=>(match bxi st i with
  | some j=>(match dy s.bx j,tN st s r with
   | some b,aM m=>bif Nat.beq (I b.cells) (I a) then aM (b.cells++m)else aaa
   | _,_=>aaa)
  | none=>aaa)
def Nw(c:Nat):List MI->List SV->List (Nat×Nat×SV)
 | .s i _::r,v::s=>(i,c,v)::Nw c r s
 | .a i l::r,v=>(i,c,.agg (Hs (v.take (I l))))::Nw c r (v.drop (I l))
 | .b _ l::r,v=>Nw c r (v.drop (I l))
 | _,_=>[]
def Nx(st:St):List MI->List SV->List mZ->List mZ
 | .s _ _::r,_::v,b=>Nx st r v b
 | .a _ l::r,v,b=>Nx st r (v.drop (I l)) b
 | .b i l::r,v,x=>(match bxi st i with
  | some j=>(match dy x j with
   | some b=>Nx st r (v.drop (I l)) (Ss x j {b with cells:=v.take (I l),stp:=st.ct})
   | none=>Nx st r (v.drop (I l)) x)
  | none=>Nx st r (v.drop (I l)) x)
 | _,_,b=>b
def mSl:List MI->List Nat
 | []=>[]
 | .s i _::r=>i::mSl r
 | .a i _::r=>i::mSl r
 | .b _ _::r=>mSl r
def VF(st:St):List MI->List Nat
 | []=>[]
 | .b i _::r=>(match bxi st i with
  | some j=>j::VF st r
  | none=>VF st r)
 | _::r=>VF st r
def kFr(fr:List (Nat×Nat×SV)):List Nat->List (Nat×Nat×SV)
 | []=>[]
 | i::r=>match eX fr i with
  | some p=>(i,p)::kFr fr r
  | none=>kFr fr r
def pj(st:St)(kp:List Nat)(m:List MI)(v:List SV)(w:av):St:=
 {n:=st.n,fr:=Nw st.ct m v++kFr st.fr kp,bx:=Nx st m v st.bx,w0:=w,mv:=aL,dt:=[],ct:=st.ct+1,df:=st.df}
def aaQ(st s:St)(sl:List Nat):List Nat->Bool
 | []=>aE
 | i::r=>(match eX st.fr i with
  | some (k,v)=>(match eX s.fr i with
   | some (k',_)=>Nat.beq k k'&&Nat.blt k st.ct&&!sl.elem i&&cln (Ki st.bx) v
   | none=>aL)
  | none=>aE)&&aaQ st s sl r
def SB(st:St)(Z:List Nat):Nat->List mZ->List mZ->Bool
 | _,[],_=>aE
 | i,b::r,c::q=>(!b.ok||(b.blk.isSome&&(Z.elem i||(Nat.blt c.stp st.ct&&jP (Ki st.bx) b.cells))))&&SB st Z (i+1) r q
 | _,_::_,[]=>aL
def SD(st:St)(kp:List Nat) ms (J:JT (mLs ms)) (s:St):Prop:=
 bif aaQ st s (mSl ms) kp&&SB st (VF st ms) 0 st.bx s.bx&&Nat.beq (I s.df) (I st.df) then
  cH (tN st s ms) λv=>bif jP (Ki s.bx) v then apJ _ (MH s.bx) J v s.w0 else False
 else False
end Go.Kt.V
