import Derived.WalkKit
import Derived.Deep.Draws
import Derived.Deep.LoopGhost
import Derived.Deep.Quiet
import Derived.OrdersHeld
import Derived.Laws.Small
import Derived.Laws.AppendOwn
import Derived.Great.BuildSlice
import Derived.Laws.MakeOwn
import Derived.MapKept
import Derived.Lib.Strings
import Derived.KernelRfl
import Derived.ChangeKeysEq
import Derived.Laws.Tables
import Derived.Defers
import Derived.Test.YtdfibecibkijiaaGreatDoorRows
import Derived.Ground.Names2Prog
import Derived.Ground.SlgnProg
import Derived.Ground.SlgcProg
import Derived.Test.YtdfibecibkijiaaGreatDoorProg
import Derived.Lib.ParseIntB
import Derived.Lib.Bytealg
import Derived.Lib.ItoaLen
import Derived.Lib.AtoiErrMem
import Derived.Lib.Builder
import Derived.Lib.AppendStr
import Derived.Lib.UnsafeStr
import Derived.Lib.Join
import Derived.Lib.Repeat
import Derived.Lib.TrailingZeros
import Derived.Laws.BitsAllLaws
import Derived.WideKeyElems
import Derived.Sort.KeysCollected
import Derived.ProofKit
import Derived.OpenShut
import Derived.SizedLaws
import Derived.Deep.Slices
import Derived.JoinedCond
import Derived.Deep.CondSized
import Derived.Lib.SlicesCompact
import Derived.Laws.CopyRow
import Derived.Laws.OwnMore
set_option linter.constructorNameAsVariable false
set_option linter.defProp false
set_option linter.unusedSectionVars false
set_option linter.unusedSimpArgs false
set_option linter.unusedVariables false
open Bool renaming true->aF,false->aM
open Option renaming some->aN,none->Pw
open List renaming length->qj
open Decidable renaming decide->YR
def J{P:Prop}(h:P:=by omega):P:=h
def W3:=@J
def Z{P:Prop}(h:P:=by decide):P:=h
def E{P:Prop}(h:P:=by kernel_rfl):P:=h
def Ye{P:Prop}(h:P:=by rw[eS (by omega) (by omega)];rfl):P:=h
def X{P:Prop}(h:P:=by simp):P:=h
def S{P:Prop}(h:P:=by simp;omega):P:=h
def UZ{P:Prop}(h:P:=by unfold eH;dsimp only;omega):P:=h
def Yc{P:Prop}(h:P:=by simpa using hc):P:=h
def Ue{P:Prop}(h:P:=by cases h):P:=h
def WH{P:Prop}(h:P:=by simpa using hk):P:=h
def CQ{P:Prop}(h:P:=by simp only[aV]at hx;omega):P:=h
def LM{P:Prop}(h:P:=by simp only[bh,bI,cO]at hx;omega):P:=h
def Wl{P:Prop}(h:P:=by simp only[aV]at hx;simp[hx]):P:=h
def Zm{P:Prop}(h:P:=by have:=aO hc;omega):P:=h
def Xt{P:Prop}(h:P:=by have:=aU hc;omega):P:=h
def Yv{P:Prop}(h:P:=by rw[cJ];omega):P:=h
def T5{P:Prop}(h:P:=by simp at hx;simp[hx]):P:=h
def KQ{P:Prop}(h:P:=by dsimp only;omega):P:=h
def Xu{P:Prop}(h:P:=by simpa using hb):P:=h
def Uf{P:Prop}(h:P:=by simp only[aV];omega):P:=h
def U3{P:Prop}(h:P:=by simpa using h):P:=h
def Ie{P:Prop}(h:P:=by simpa using hm):P:=h
def XZ{P:Prop}(h:P:=by have:=(hS.blk e).2;dsimp only at this;omega):P:=h
def Ux{P:Prop}(h:P:=by simp at h):P:=h
def Xd{P:Prop}(h:P:=by grind):P:=h
def TQ{P:Prop}(h:P:=by simp only[aV]at hk;omega):P:=h
def Ua{P:Prop}(h:P:=by simp at hx;omega):P:=h
def XO{P:Prop}(h:P:=by rw[aP,bA];omega):P:=h
def KN{P:Prop}(h:P:=by rw[<-e];exact hk):P:=h
def ZD{P:Prop}(h:P:=by dsimp only;decide):P:=h
def Xi{P:Prop}(h:P:=by simpa using hx):P:=h
def Uc{P:Prop}(h:P:=by unfold eH yO;dsimp only;omega):P:=h
def Xn{P:Prop}(h:P:=by simp only[aP,aZ,bE];omega):P:=h
def Gb{P:Prop}(h:P:=by simpa using h1):P:=h
def UB{P:Prop}(h:P:=by simpa using he):P:=h
def LH{P:Prop}(h:P:=by have:=hk.2;omega):P:=h
def I8{P:Prop}(h:P:=by rw[hy]at ha;simpa[lu]using ha):P:=h
def XS{P:Prop}(h:P:=by simpa using hi):P:=h
def UA{P:Prop}(h:P:=by unfold ia at hf;omega):P:=h
def Uj{P:Prop}(h:P:=by have:=h.hG k hk;simp at hm;omega):P:=h
def Px{P:Prop}(h:P:=by rw[aP];omega):P:=h
def UI{P:Prop}(h:P:=by rw[bH];omega):P:=h
def PF{P:Prop}(h:P:=by rw[bE];omega):P:=h
def US{P:Prop}(h:P:=by simp only[aV]at hm;omega):P:=h
def Hf{P:Prop}(h:P:=by simp only[aV]at hx;subst hx;exact rA (g4 _ h).1):P:=h
def Hl{P:Prop}(h:P:=by have:=hk.resolve_left id;simp;omega):P:=h
def Hv{P:Prop}(h:P:=by rw[eS (by omega) (by omega)];omega):P:=h
def ZA{P:Prop}(h:P:=by have:=(hP.buf.lt e).2;omega):P:=h
def AO{P:Prop}(h:P:=by rw[eP h0 dL];decide):P:=h
def Rx{P:Prop}(h:P:=by intro x hx;simp only[bh,bI,cO]at hx⊢;omega):P:=h
def SG{P:Prop}(h:P:=by simp only[bh,bI,cO]at hx⊢;omega):P:=h
def PS{P:Prop}(h:P:=by have:=lA k e;omega):P:=h
def KT{P:Prop}(h:P:=by unfold ia;omega):P:=h
def HM{P:Prop}(h:P:=by rw[bR,bZ (bc.1 hj).1];exact hj):P:=h
def UY{P:Prop}(h:P:=by rw[iT];exact aY _):P:=h
def L2{P:Prop}(h:P:=by simp only[jr,nR,bP]at hc;exact hc▸rfl):P:=h
def M7{P:Prop}(h:P:=by have:=(h.hF k yr).1;have:=hO.size;omega):P:=h
def f0{P:Prop}(h:P:=by simpa using hf):P:=h
def TX{P:Prop}(h:P:=by rw[bA];omega):P:=h
def NA{P:Prop}(h:P:=by have:=h.hF k hk;have:=hb k hm;omega):P:=h
def K5{P:Prop}(h:P:=by rw[show ao #[59]=T [59]from rfl,fz]):P:=h
def L1{P:Prop}(h:P:=by rw[lZ]at hi;simpa using hi):P:=h
def ML{P:Prop}(h:P:=by unfold V at h;exact h.elim):P:=h
def Ze{P:Prop}(h:P:=by simp[hx]):P:=h
def H8{P:Prop}(h:P:=by rw[hy];rfl):P:=h
def TW{P:Prop}(h:P:=by rw[hy];simp):P:=h
def H7{P:Prop}(h:P:=by simpa using hn):P:=h
def Uz{P:Prop}(h:P:=by simpa using wx):P:=h
def Xf{P:Prop}(h:P:=by rw[oc,ba,hx]):P:=h
def Ta{P:Prop}(h:P:=by have:=h.hF k hk;simp at hm;omega):P:=h
def Wp{P:Prop}(h:P:=by have:=zL g hg;simp;omega):P:=h
def Ya{P:Prop}(h:P:=by simp only[aV]at hy;omega):P:=h
def UO{P:Prop}(h:P:=by have:=lA e;omega):P:=h
def RH{P:Prop}(h:P:=by have:=hs.2.2;have:=hO.size;omega):P:=h
def Xp{P:Prop}(h:P:=by have:=(yX x hx).1;omega):P:=h
def H9{P:Prop}(h:P:=by rw[hs];decide):P:=h
def Oy{P:Prop}(h:P:=by rw[hh];decide):P:=h
def PO{P:Prop}(h:P:=by rw[hb];decide):P:=h
def Rt{P:Prop}(h:P:=by unfold gv;exact bD (by omega)):P:=h
def XH{P:Prop}(h:P:=by rw[aP];simp only[aZ,bE];omega):P:=h
def XY{P:Prop}(h:P:=by rw[bE]at hf;omega):P:=h
def JH{P:Prop}(h:P:=by simpa using hq):P:=h
def RZ{P:Prop}(h:P:=by unfold ia at hn;omega):P:=h
def Wf{P:Prop}(h:P:=by simpa using k1):P:=h
def Y2{P:Prop}(h:P:=by simpa using k3):P:=h
def WQ{P:Prop}(h:P:=by simpa using k4):P:=h
def PN{P:Prop}(h:P:=by unfold jX;split<;>rfl):P:=h
def UD{P:Prop}(h:P:=by simpa using h2):P:=h
def Y6{P:Prop}(h:P:=by simpa using hk.2):P:=h
def KO{P:Prop}(h:P:=by have:=aO h;omega):P:=h
def Wi{P:Prop}(h:P:=by have:=hk.1;omega):P:=h
def Ub{P:Prop}(h:P:=by cases hx):P:=h
def Xs{P:Prop}(h:P:=by rw[lZ]at ho;simpa using ho):P:=h
def U4{P:Prop}(h:P:=by cases e):P:=h
def KZ{P:Prop}(h:P:=by simp[Op.equalIn,hu]):P:=h
def U5{P:Prop}(h:P:=by simp at hk;simp[hk]):P:=h
def SM{P:Prop}(h:P:=by simpa using hG k hk):P:=h
def YN{P:Prop}(h:P:=by simp[Program.plainKey,hu]):P:=h
def Ol{P:Prop}(h:P:=by rw[bR];exact hj):P:=h
def Rq{P:Prop}(h:P:=by have:=(h.hF k yr).1;omega):P:=h
def Si{P:Prop}(h:P:=by subst e;simp at hc):P:=h
def Uq{P:Prop}(h:P:=by rw[ci];omega):P:=h
def LV{P:Prop}(h:P:=by have:=lA _ e;omega):P:=h
def Zo{P:Prop}(h:P:=by simpa using h4):P:=h
def WN{P:Prop}(h:P:=by simpa using hv):P:=h
def Zy{P:Prop}(h:P:=by simpa using hh):P:=h
def Hi{P:Prop}(h:P:=by have:=(Bb.lt e).1;omega):P:=h
def RF{P:Prop}(h:P:=by unfold mu;split<;>omega):P:=h
def Md{P:Prop}(h:P:=by have:=xF.lt;omega):P:=h
def D0{P:Prop}(h:P:=by rw[bE,bR];exact wb _ _):P:=h
def UJ{P:Prop}(h:P:=by rw[od,hl];rfl):P:=h
def KR{P:Prop}(h:P:=by decide+kernel):P:=h
def Uu{P:Prop}(h:P:=by rw[hw];decide):P:=h
def IL{P:Prop}(h:P:=by cases hk):P:=h
def Mn{P:Prop}(h:P:=by have:=abC x;omega):P:=h
def Rw{P:Prop}(h:P:=by rw[bn,aX mV];rfl):P:=h
def L6{P:Prop}(h:P:=by first | rfl | trivial):P:=h
def Nu{P:Prop}(h:P:=by have:=C7.br _ e;omega):P:=h
def R8{P:Prop}(h:P:=by rw[h0]at hr;cases hr):P:=h
def UR{P:Prop}(h:P:=by rw[hk];rfl):P:=h
def Mc{P:Prop}(h:P:=by rw[bH];exact hn):P:=h
def Xo{P:Prop}(h:P:=by rw[oc];rfl):P:=h
def SN{P:Prop}(h:P:=by rw[hb]at hh;cases hh):P:=h
def Zh{P:Prop}(h:P:=by rw[hy];simp[yy]):P:=h
def Yp{P:Prop}(h:P:=by rw[h1];rfl):P:=h
def Y7{P:Prop}(h:P:=by rw[bH,ci];omega):P:=h
def RD{P:Prop}(h:P:=by simpa using hr):P:=h
def S7{P:Prop}(h:P:=by simpa using hj):P:=h
def G5{P:Prop}(h:P:=by simpa using hl):P:=h
def YY{P:Prop}(h:P:=by cases hb):P:=h
def SE{P:Prop}(h:P:=by simpa using hz):P:=h
def ET{P:Prop}(h:P:=by simpa using rz):P:=h
def Ma{P:Prop}(h:P:=by simpa using ho):P:=h
def Ak{P:Prop}(h:P:=by simpa using sP):P:=h
def MT{P:Prop}(h:P:=by simpa using rF):P:=h
def Rv{P:Prop}(h:P:=by simpa using k2):P:=h
def S2{P:Prop}(h:P:=by simpa using hs):P:=h
def LI{P:Prop}(h:P:=by simpa using h0):P:=h
def LB{P:Prop}(h:P:=by simpa using iG):P:=h
def W0{P:Prop}(h:P:=by simpa using hp):P:=h
def MW{P:Prop}(h:P:=by simpa using dL):P:=h
def ui{P:Prop}(h:P:=by rw[cw,hx];rfl):P:=h
def Rl{P:Prop}(h:P:=by rw[hp];decide):P:=h
def G9{P:Prop}(h:P:=by rw[hsz];omega):P:=h
def EC{P:Prop}(h:P:=by rw[e];exact h):P:=h
def QG{P:Prop}(h:P:=by rw[bn,hy];rfl):P:=h
def HG{P:Prop}(h:P:=by rw[bn,a2];rfl):P:=h
def G0{P:Prop}(h:P:=by rw[h5];decide):P:=h
def Bh{P:Prop}(h:P:=by simp[hy]):P:=h
universe u
def I{z:Sort u}{a:z}:a=a:=rfl
abbrev L:=List
abbrev KY:=@L
abbrev M:=Bool
def u:=@of_decide_eq_true
def aO:=@u
def aP:=@List.length_append
def R:=@if_neg
def aQ:=@R
def B:=@Bool.and_eq_true
def aR:=@B
def aU:=@of_decide_eq_false
def aV:=@List.mem_singleton
def K:=@if_pos
def aW:=@K
def aX:=@List.getElem?_eq_getElem
def H:=@Nat.le_refl
def aY:=@H
def aZ:=@List.length_cons
def ba:=@Int.toNat_natCast
def bc:=@List.getElem?_eq_some_iff
def be:=@Int.natCast_nonneg
def bf:=@Nat.zero_le
def bh:=@List.mem_cons
def bm:=@List.take_of_length_le
def bn:=@List.take_add_one
def bp:=@List.mem_of_getElem?
def bq:=@List.append_assoc
def bA:=@List.length_singleton
def bB:=@Nat.le_trans
def bC:=@List.append_nil
def bD:=@decide_eq_false
def bE:=@List.length_nil
def bF:=@decide_eq_true_eq
def bG:=@decide_eq_true
def bH:=@List.length_map
def bI:=@List.not_mem_nil
def bK:=@Bool.eq_iff_iff
def bL:=@List.eq_nil_of_length_eq_zero
def bN:=@congrArg
def bP:=@Option.some.injEq
def bQ:=@List.mem_append
def bR:=@Nat.zero_add
def bS:=@Decidable.byContradiction
def bZ:=@List.getElem?_append_left
def cb:=@List.cons_append
def cd:=@List.nil_append
def cf:=@List.map_cons
def ch:=@Bool.true_and
def ci:=@List.length_take
def ck:=@List.getElem?_append_right
def cq:=@Nat.lt_of_lt_of_le
def cu:=@List.take_zero
def cw:=@List.getElem?_map
def cx:=@decide_eq_true_iff
def cy:=@Bool.or_eq_true
def cA:=@List.map_append
def cD:=@List.length_drop
def cH:=@List.length_filter_le
def cO:=@or_false
def cQ:=@List.getElem?_cons_zero
def cR:=@Bool.false_and
def cW:=@List.getElem?_eq_none
def da:=@Bool.not_eq_true'
def db:=@decide_eq_false_iff_not
def dh:=@Nat.eq_of_beq_eq_true
def dl:=@List.sum_cons
def dr:=@beq_iff_eq
def du:=@List.all_eq_true
def dz:=@Nat.le_of_ble_eq_true
def dA:=@Nat.add_assoc
def dF:=@List.takeWhile_cons
def dH:=@Nat.add_sub_cancel_left
def dI:=@List.getElem?_cons_succ
def dM:=@List.take_append_drop
def dT:=@List.drop_of_length_le
def dU:=@List.append_eq_nil_iff
def dX:=@List.mem_cons_of_mem
def dY:=@Bool.and_true
def eo:=@List.mem_map
def eu:=@List.drop_eq_getElem_cons
def eF:=@Bool.eq_false_iff
def fe:=@Bool.or_eq_false_iff
def fg:=@List.mem_cons_self
def fh:=@List.filter_append
def fj:=@List.filter_nil
def fk:=@List.flatten_cons
def fm:=@Option.map_eq_some_iff
def fy:=@List.contains_iff_mem
def fF:=@List.take_succ_cons
def fG:=@Option.map_some
def fS:=@Nat.mul_le_mul_right
def fZ:=@Except.ok.injEq
def ga:=@Bool.and_false
def gr:=@List.any_eq_true
def gu:=@Int.toNat_of_nonneg
def gy:=@Nat.add_zero
def gI:=@List.getElem?_of_mem
def gJ:=@List.drop_zero
def gU:=@List.getElem_mem
def gV:=@List.take_length
def gY:=@Nat.add_mul
def ii:=@Bool.and_eq_false_iff
def ik:=@Option.isSome_iff_exists
def im:=@Prod.mk.injEq
def iu:=@List.map_nil
def iv:=@List.map_map
def iw:=@List.all_append
def iC:=@List.getElem?_drop
def iR:=@Array.getElem?_eq_none
def iT:=@List.length_range
def ja:=@Int.le_refl
def jb:=@List.mem_filter
def jr:=@List.singleton_append
def jw:=@Option.getD_some
def jy:=@Nat.le_of_not_lt
def jz:=@Option.toList_some
def jA:=@Bool.not_eq_false'
def jB:=@List.pairwise_cons
def jI:=@List.drop_drop
def jR:=@List.foldl_append
def ki:=@List.drop_succ_cons
def kj:=@List.flatMap_append
def kw:=@Nat.add_comm
def kz:=@Bool.false_or
def kB:=@Nat.le_succ
def lV:=@if_false
def lW:=@List.flatMap_cons
def lX:=@List.pairwise_append
def lY:=@List.sum_nil
def mf:=@List.all_cons
def mg:=@List.map_take
def mC:=@List.toList_toArray
def mD:=@List.length_pos_iff
def mM:=@List.mem_range
def mN:=@decide_eq_decide
def nr:=@Bool.false_eq_true
def nu:=@Nat.lt_or_ge
def nR:=@List.head?_cons
def n8:=@Array.getElem?_modify
def oa:=@List.ext_getElem?
def ob:=@Decidable.not_not
def oK:=@Array.getElem?_eq_some_iff
def oL:=@Nat.add_le_add
def pL:=@Bool.or_true
def pM:=@Nat.sub_zero
def pN:=@Bool.not_eq_true
def pO:=@List.filter_cons
def pQ:=@Nat.sub_self
def qe:=@Classical.byContradiction
def qf:=@List.exists_mem_of_ne_nil
def qg:=@List.pairwise_iff_getElem
def qN:=@Nat.lt_succ_iff_lt_or_eq
def qV:=@List.foldl_cons
def qW:=@List.any_append
def rH:=@List.length_eq_zero_iff
def sX:=@List.size_toArray
def sY:=@List.getElem?_set_self
def sZ:=@Bool.and_assoc
def tV:=@List.set_append_right
def tW:=@List.getElem?_toArray
def tX:=@List.take_eq_take_iff
def tY:=@List.length_replicate
def uU:=@List.flatMap_nil
def uV:=@List.eq_nil_iff_forall_not_mem
def vV:=@Nat.mul_one
def wz:=@List.length_set
def wA:=@Array.length_toList
def wB:=@List.map_congr_left
def yJ:=@List.getElem?_take
def yK:=@List.elem_cons
def zM:=@Nat.lt_succ_of_le
def zN:=@List.all_eq_false
def Bc:=@List.map_drop
def Ck:=@Nat.le_max_right
def Cm:=@List.mem_flatMap
def Da:=@Nat.zero_mul
def Db:=@List.drop_eq_nil_of_le
def Dc:=@List.getElem_cons_drop
def Dd:=@Bool.true_or
def Df:=@Bool.not_and
def DU:=@Option.map_none
def DV:=@List.cons.injEq
def DW:=@Nat.le_max_left
def DX:=@Option.some.inj
def FZ:=@List.mem_iff_getElem?
def F0:=@List.findSome?_append
def GL:=@Bool.not_false
def GM:=@List.getElem?_set_ne
def GN:=@List.mem_of_mem_take
def GP:=@List.mem_append_left
def GQ:=@Nat.pow_le_pow_right
def H2:=@if_true
def Km:=@Nat.mul_le_mul_left
def Kn:=@List.flatten_append
def Ko:=@List.take_set_of_le
def Kp:=@List.mergeSort_perm
def Kq:=@beq_eq_false_iff_ne
def KL:=@Bool.or_false
def KM:=@Int.ofNat.inj
def NZ:=@Nat.mod_lt
def unM:=@List.exists_of_findSome?_eq_some
def QC:=@List.getElem?_set
def QD:=@Bool.not_not
def QE:=@Nat.le_of_eq
def TP:=@Array.getElem?_setIfInBounds_ne
def VH:=@Array.toList_inj
def VI:=@Nat.succ_le_succ
def VJ:=@Nat.lt_succ_self
def VK:=@List.map_id
def Wd:=@List.take_append_of_le_length
def aa7:=@UInt8.toNat_inj
def Rk:=@List.sum_append
def RI:=@Nat.not_lt_zero
def Rs:=@List.head?_drop
def ab5:=@List.take_length_add_append
abbrev aJb(w v:Go.World)(k:Nat)(p:Prop):Prop:=w.heap.size<=k->k<v.heap.size->p
abbrev aH:=Go.Value->Go.World->Prop
abbrev C:=L UInt8
abbrev aJ:=L Go.Value
abbrev A:=Nat->Prop
abbrev D:=ByteArray
namespace Go.Kt
open Go renaming World->aw,Value->ay
open Go Go.RowKit
structure Sl where
 a:Option Addr
 n:Nat
 c:Nat
@[reducible] def Sl.v(s:Sl):ay:=.slice s.a s.n s.c
@[reducible] def Sl.nil:Sl:=⟨Pw,0,0⟩
def Sl.cut(s:Sl)(l h m i:Nat):Sl:=⟨if m=l then s.a else s.a.map (·.add (l*i)),h-l,m-l⟩
def cK(s:Sl)(i:Int)(size:Nat)(ad:Addr):Prop:=∃b,s.a=aN b/\0<=i/\i<s.n/\ad=b.add (i.toNat*size)
structure Only (bs:List Nat) (w w':aw):Prop where
 os:w'.os=w.os
 tape:w'.tape=w.tape
 output:w'.output=w.output
 size:w.heap.size<=w'.heap.size
 block:∀k,k<w.heap.size->k∉bs->w'.heap[k]? =w.heap[k]?
def Blk(w:aw)(b:Nat)(t:TypeId)(c:L ay):Prop:=w.heap[b]? =aN (.cells c.toArray t (0,0))
def Cells(w:aw)(a:Addr)(c:L ay):Prop:=∀j v,c[j]? =aN v->w.cell? (a.add j)=aN v
def cj(s:L Nat)(w a:aw):Prop:=∀b,b∈s->a.heap[b]? =w.heap[b]?
def jc(b:UInt8):ay:=.int .u8 b.toNat
def vW(w:aw)(s:Sl)(l:L UInt8):Prop:=s.n=qj l/\(l≠[]->∃ad,s.a=aN ad/\Cells w ad (l.map jc))
def Sl.blk(s:Sl):Nat:=match s.a with | some a=>a.block | none=>0
def gD(c:L ay)(o:Nat)(v:L ay):L ay:=c.take o++v++c.drop (o+qj v)
section
variable {w w' wo:aw} {bs bs':L Nat} {b:Nat} {t:TypeId} {cs:L ay}
def Blk.lt(h:Blk w b t cs):b<w.heap.size:=(oK.1 h).1
def Only.refl bs w:Only bs w w:=⟨I,I,I,H _,λ_ _ _=>I⟩
def Ib:=@Only.refl
def Only.weaken(h:Only bs w w')(b:∀x,x∈bs->x∈bs'∨w.heap.size<=x):Only bs' w w':=
 ⟨h.os,h.tape,h.output,h.size,λk hk n=>h.block k hk λm=>Xd⟩
def Only.trans(h:Only bs w w')(k:Only bs' w' wo)(b:∀x,x∈bs'->x∈bs∨w.heap.size<=x):Only bs w wo:=
 ⟨k.os.trans h.os,k.tape.trans h.tape,k.output.trans h.output,bB h.size k.size,λa i n=>
  (k.block a (cq i h.size) λm=>Xd).trans (h.block a i n)⟩
def Only.bU(h:Only bs w w')(k:Only [] w' wo):Only bs w wo:=h.trans k X
def Only.cons(a:Only bs w w')(k:Only [b] w' wo):Only (b::bs) w wo:=
 (a.weaken (bs':=b::bs) λ_ h=>.inl (dX _ h)).trans k λx h=>.inl Xd
def Only.mem(h:Only bs w w')(k:Only [b] w' wo)(a:b∈bs):Only bs w wo:=h.trans k λx c=>.inl Xd
def Only.new(h:Only bs w w')(k:Only [b] w' wo)(a:w.heap.size<=b):Only bs w wo:=h.trans k λx c=>.inr Xd
def Only.blk(a:Only bs w w')(h:Blk w b t cs)(n:b∉bs):Blk w' b t cs:=(a.block b h.lt n).trans h
def Only.below(h:Only bs w w'){B}(a:B<=w.heap.size)(b:∀x,x∈bs->B<=x):Below B w w':=
 ⟨h.os,h.tape,h.output,h.size,λk hk=>h.block k J λm=>by have:=b k m;omega⟩
def Only.uK(h:Below w.heap.size w w'):Only [] w w':=⟨h.os,h.tape,h.output,h.size,λk hk _=>h.block k hk⟩
def Ou:=@Only.uK
def Only.drew w:Only [] w w.drew:=⟨I,I,I,H _,λ_ _ _=>I⟩
def Only.drewN w n:Only [] w (w.drewN n):=⟨I,I,I,H _,λ_ _ _=>I⟩
def Ls:=@Only.drewN
def Only.alloc w o:Only [] w (w.alloc o):=⟨I,I,I,X,λk hk _=>_root_.Go.heap_alloc_old w o hk⟩
def X0:=@Only.alloc
def Only.setRow w b cs:Only [b] w (w.setRow b cs):=⟨I,I,I,X,λk _ hn=>setRow_other w b k cs H7⟩
def Nr:=@Only.setRow
def Only.same(b:Only bs w w')(h:∀x,x∈bs'->x<w.heap.size/\x∉bs):cj bs' w w':=λx a=>b.block x (h x a).1 (h x a).2
def Blk.alloc(w:aw) t cs:Blk (w.alloc (.cells cs.toArray t)) w.heap.size t cs:=heap_alloc_new w _
def Yf:=@Blk.alloc
def Blk.setRow(h:Blk w b t cs) DP:Blk (w.setRow b DP.toArray) b t DP:=setRow_heap w b _ _ t _ h
def Blk.cell(h:Blk w b t cs) i:w.cell? ⟨b,i,Pw⟩=cs[i]? :=by rw[cell_of_row w b i cs.toArray t _ h];simp
def Blk.cells(h:Blk w b t cs) o vs (d:∀j v,vs[j]? =aN v->cs[o+j]? =aN v):Cells w ⟨b,o,Pw⟩ vs:=λj v c=>by
 have a:(⟨b,o,Pw⟩:Addr).add j=⟨b,o+j,Pw⟩:=by unfold Addr.add<;>simp_all
 rw[a,h.cell];exact d j v c
def Blk.JR(h:Blk w b t cs) o vs (a:(cs.drop o).take (qj vs)=vs):Cells w ⟨b,o,Pw⟩ vs:=h.cells o vs λc v j=>Xd
def Cells.one{a}{v}(h:Cells w a [v]):w.cell? a=aN v:=by have:=h 0 v I;simpa[Addr.add]using this
def Xz:=@Cells.one
def Cells.keep{a}(h:Cells w a cs)(hk:w'.heap[a.block]? =w.heap[a.block]?):Cells w' a cs:=λj v b=>by
 rw[World.cell?_of_block (w:=w) _ (a:=a.add j)]
 .exact h j v b
 have:(a.add j).block=a.block:=by unfold Addr.add;split<;>rfl
 rw[this,hk]
def Cells.lt'{a}(h:Cells w a cs)(c:cs≠[]):a.block<w.heap.size:=by
 cases cs with
 | nil=>exact absurd I c
 | cons v cs=>
  have b:=block_lt_of_cell (h 0 v I);have e:(a.add 0).block=a.block:=I;omega
def Cells.lt{a}{v}(h:Cells w a (v::cs)):a.block<w.heap.size:=by
 have:=h 0 v I;have b:=block_lt_of_cell this;have e:(a.add 0).block=a.block:=I;omega
end
section
variable {P:Program} {ops:Array Oper} {Q:Exit->Act->aw->Prop} {rest:L Oper} {a a':Act} {w w':aw}
def abX(l:L ay) ds (k:Nat) v:Act.put ⟨l.toArray,ds⟩ (aN k) v=⟨(l.set k v).toArray,ds⟩:=by simp[Act.put]
def f1 x l (v:ay):(x::l).set 0 v=v::l:=rfl
def f3(a:Act) v:a.put Pw v=a:=rfl
def f2 x l k (v:ay):(x::l).set (k+1) v=x::l.set k v:=rfl
def jd:L Oper->Nat->Option Oper
 | [],_=>Pw
 | v::_,0=>aN v
 | _::r,n+1=>jd r n
def lZ:∀l n,jd l n=l[n]?
 | [],_=>rfl
 | _::_,0=>rfl
 | _::r,n+1=>lZ r n
def Xw:L ay->Nat->Option ay
 | [],_=>Pw
 | v::_,0=>aN v
 | _::r,n+1=>Xw r n
def H3:∀l n,Xw l n=l[n]?
 | [],_=>rfl
 | _::_,0=>rfl
 | _::r,n+1=>H3 r n
def wt{o oj}{eU}{l}{ds}{j d:Nat}{want b r}(c:o.guard=aN (j,want))(h:jd eU j=aN oj)(f:oj.dst=aN d)
  (a:Xw l d=aN (.bool b)) (g:(b==want)=r):Region.wanted o (yielded eU.toArray (⟨l.toArray,ds⟩:Act).tmps)=r:=by
 subst g;rw[lZ]at h;rw[H3]at a;have e:yielded eU.toArray (⟨l.toArray,ds⟩:Act).tmps j=aN b:=by simp[yielded,h,f,a]
 simp only[Region.wanted,c,e];rfl
def wu{o oj}{eU}{l}{ds}{j d:Nat}{want}(b:o.guard=aN (j,want))(h:jd eU j=aN oj)(c:oj.dst=aN d)
  (a:Xw l d=aN undef):Region.wanted o (yielded eU.toArray (⟨l.toArray,ds⟩:Act).tmps)=aM:=by
 rw[lZ]at h;rw[H3]at a;have e:yielded eU.toArray (⟨l.toArray,ds⟩:Act).tmps j=Pw:=by simp[yielded,h,c,a,undef]
 simp[Region.wanted,b,e]
def wn{o}{f}(h:o.guard=Pw):Region.wanted o f=aF:=by simp[Region.wanted,h]
def Oi{o} v (g:Region.wanted o (yielded ops a.tmps)=aF)
  (r:(execOp a.eval o).run P w=.ok (.value v) w') (b:a.put o.dst v=a') (h:wpList P ops Q rest a' w'):wpList P ops Q (o::rest) a w:=by
 subst b;unfold wpList;rw[K g];refine .inl ?_;unfold Oper.wp;rw[r];exact h
def afd{o}(g:Region.wanted o (yielded ops a.tmps)=aM)(h:a.put o.dst undef=a')(b:wpList P ops Q rest a' w):wpList P ops Q (o::rest) a w:=by
 subst h;unfold wpList;simp_all
def H4{dst}{ty}{x}{t'}{p}{af}{g}{ad}{v}
  (Z:(isAgg ty).run P w=.ok aM w) (b:a.eval x=.pointer (aN ad)) (h:w.cell? ad=aN v):
  (execOp a.eval ⟨dst,.load ty x,t',p,af,g⟩).run P w=.ok (.value v) w:=by
 simp[execOp,b,Instr.loadAt,Instr.sureAddr,Sem.run_bind,Sem.run_pure,Result.andThen_ok,loadVar,Z,nr,lV,run_load,h]
def xI{dst}{ty}{x}{t'}{p}{af}{g}{ad}{cs}{n}
  (Z:(isAgg ty).run P w=.ok aF w) (h:(sizeOf ty).run P w=.ok n w) (b:qj cs=n) (d:a.eval x=.pointer (aN ad)) (c:Cells w ad cs):
  (execOp a.eval ⟨dst,.load ty x,t',p,af,g⟩).run P w=.ok (.value (.agg cs.toArray)) w:=by
 have l:=run_loadCells_list (P:=P) w ad cs c;rw[b]at l;simp[execOp,d,Instr.loadAt,Instr.sureAddr,Sem.run_bind,Sem.run_pure,Result.andThen_ok,loadVar,Z,H2,h,l]
def ab7{dst}{ty}{x y}{t'}{p}{af}{g}{b o}{cs vs}{et}{n}
  (h:(sizeOf ty).run P w=.ok n w) (i:a.eval x=.pointer (aN ⟨b,o,Pw⟩)) (f:(a.eval y).cells=vs.toArray) (e:qj vs=n)
  (c:∀v∈vs,v.oneCell'=aF) (d:Blk w b et cs) (V:o+qj vs<=qj cs):
  (execOp a.eval ⟨dst,.store ty x y,t',p,af,g⟩).run P w=.ok .skip (w.setRow b (gD cs o vs).toArray):=by
 simp[execOp,i,Instr.storeAt,Instr.sureAddr,Sem.run_bind,Sem.run_pure,Result.andThen_ok,storeVar,h,f,sX,e,ne_eq,not_true_eq_false,lV,run_storeCells_at P b o et vs 0 cs.toArray w d J c,gD]
def ab8{dst}{ty}{t'}{p}{af}{g}{z}{s:L ay}
  (b:(zeroValue ty).run P w=.ok z w) (h:z.cells=s.toArray):
  (execOp a.eval ⟨dst,.alloc ty,t',p,af,g⟩).run P w=.ok (.value (.pointer (aN ⟨w.heap.size,0,Pw⟩))) (w.alloc (.cells s.toArray ty)):=by
 simp only[execOp,Instr.alloc,Sem.run_bind,b,Result.andThen_ok,newVar,h];rfl
def amc{dst}{ty}{x}{t'}{p}{af}{g}{z:L ay}
  (h:(a.eval x).cells=z.toArray):
  (execOp a.eval ⟨dst,.box ty x,t',p,af,g⟩).run P w=.ok (.value (.pointer (aN ⟨w.heap.size,0,Pw⟩))) (w.alloc (.cells z.toArray ty)):=by
 simp only[execOp,Instr.box,newVar,h];rfl
def We{dst}{x}{t'}{p}{af}{g}{ad}(h:a.eval x=.pointer (aN ad)):
  (execOp a.eval ⟨dst,.nilCheck x,t',p,af,g⟩).run P w=.ok (.value (.pointer (aN ad))) w:=by
 simp[execOp,h]
def QF{dst}{s}{x}{k}{t'}{p}{af}{g}{ad yE}{fs}{f}{n}
  (u:(underlying s).run P w=.ok (.struct fs) w) (b:fs[k]? =aN f) (h:(sizeOf f.type).run P w=.ok (n+1) w) (c:a.eval x=.pointer (aN ad)) (e:ad.add f.offset=yE):
  (execOp a.eval ⟨dst,.fieldAddr s x k,t',p,af,g⟩).run P w=.ok (.value (.pointer (aN yE))) w:=by
 subst e;simp[execOp,c,Instr.fieldAt,Instr.sureAddr,u,b,fieldPlace,h]
def ab9{dst}{c x y}{t'}{p}{af}{g}{v}(h:a.eval c=.bool aF)(b:a.eval x=v):
  (execOp a.eval ⟨dst,.pick c x y,t',p,af,g⟩).run P w=.ok (.value v) w:=by
 subst b;simp[execOp,h,asBool]
def aca{dst}{c x y}{t'}{p}{af}{g}{v}(h:a.eval c=.bool aM)(b:a.eval y=v):
  (execOp a.eval ⟨dst,.pick c x y,t',p,af,g⟩).run P w=.ok (.value v) w:=by
 subst b;simp[execOp,h,asBool]
def acb{dst}{t}{ps:L _}{t'}{p}{af}{g}{ps'}{v}
  (h:(ps.map λq=>(q.1,a.eval q.2))=ps') (r:(Instr.build t ps'.toArray).run P w=.ok v w):
  (execOp a.eval ⟨dst,.build t ps.toArray,t',p,af,g⟩).run P w=.ok (.value v) w:=by
 subst h;simp[execOp,r]
def aey{dst}{t e}{x i}{t'}{p}{af}{g}{s}{k}{n}{ad}{sz}
  (u:(underlying t).run P w=.ok (.slice e) w) (h:(sizeOf e).run P w=.ok sz w) (m:a.eval x=s.v) (l:a.eval i=.int k n) (d:cK s n sz ad):
  (execOp a.eval ⟨dst,.indexAddr t x i,t',p,af,g⟩).run P w=.ok (.value (.pointer (aN ad))) w:=by
 obtain⟨b,j,c,f,rfl⟩:=d;simp[execOp,m,l,Instr.indexAt,asIntOf,u,h,j,c,f]
def zP{d:Option Tmp}{t e:TypeId}{x i:Operand}{t'}{p}{af}{g}{len}{k}{n}{ad yE}{sz}
  (u:(underlying t).run P w=.ok (.array len e) w) (h:(sizeOf e).run P w=.ok sz w) (l:a.eval x=.pointer (aN ad)) (j:a.eval i=.int k n) (b:0<=n) (c:n<len) (f:ad.add (n.toNat*sz)=yE):
  (execOp a.eval ⟨d,.indexAddr t x i,t',p,af,g⟩).run P w=.ok (.value (.pointer (aN yE))) w:=by
 subst f;simp[execOp,l,j,Instr.indexAt,asIntOf,u,h,b,c,Instr.sureAddr]
def oX{b}{s}{dst}{x:L Operand}{ts}{t'}{p}{af}{g}{v}
  (h:∀j,builtin b ts t' j (x.map a.eval).toArray=(do pure (.value (<-s)))) (r:s.run P w=.ok v w'):
  (execOp a.eval ⟨dst,.call ⟨.builtin b,x.toArray,ts⟩,t',p,af,g⟩).run P w=.ok (.value v) w':=by
 simp[execOp,resolve,invoke,List.map_toArray];simp_all
def ag3{dst}{x:L Operand}{ts}{t'}{p}{af}{g}{v}{vs}(b:x.map a.eval=vs)
  (h:(Builtin.append_ ts t' vs.toArray).run P w=.ok v w'):(execOp a.eval ⟨dst,.call ⟨.builtin .append,x.toArray,ts⟩,t',p,af,g⟩).run P w=.ok (.value v) w':=by
 subst b;exact oX (λ_=>I) h
def exT{dst}{x:L Operand}{ts}{t'}{p}{af}{g}{v}{vs}(b:x.map a.eval=vs)
  (h:(Builtin.copy_ ts t' vs.toArray).run P w=.ok v w'):(execOp a.eval ⟨dst,.call ⟨.builtin .copy,x.toArray,ts⟩,t',p,af,g⟩).run P w=.ok (.value v) w':=by
 subst b;exact oX (λ_=>I) h
def lvP{dst}{x:L Operand}{ts}{t'}{p}{af}{g}{v}{vs}(b:x.map a.eval=vs)
  (h:(Builtin.delete_ ts t' vs.toArray).run P w=.ok v w'):(execOp a.eval ⟨dst,.call ⟨.builtin .delete,x.toArray,ts⟩,t',p,af,g⟩).run P w=.ok (.value v) w':=by
 subst b;exact oX (λ_=>I) h
def abb{dst}{x:L Operand}{ts}{t'}{p}{af}{g}{v}{vs}(b:x.map a.eval=vs)
  (h:(Builtin.clear_ ts t' vs.toArray).run P w=.ok v w'):(execOp a.eval ⟨dst,.call ⟨.builtin .clear,x.toArray,ts⟩,t',p,af,g⟩).run P w=.ok (.value v) w':=by
 subst b;exact oX (λ_=>I) h
def atB{dst}{x:L Operand}{ts}{t'}{p}{af}{g}{v}{vs}(b:x.map a.eval=vs)
  (h:(Builtin.len_ ts t' vs.toArray).run P w=.ok v w'):(execOp a.eval ⟨dst,.call ⟨.builtin .len,x.toArray,ts⟩,t',p,af,g⟩).run P w=.ok (.value v) w':=by
 subst b;exact oX (λ_=>I) h
section
variable {dst:Option Tmp} {x y z:Operand} {t t2:TypeId} {t':TypeId} {p:String} {af:Array Edge} {g:Option (Nat×M)} {u v vx vy vz:ay}
def zOk{n}{ps:L _}{ps'}(h:(ps.map λq=>(q.1,a.eval q.2))=ps')(r:(Instr.buildSlice t n ps'.toArray).run P w=.ok v w'):
  (execOp a.eval ⟨dst,.buildSlice t n ps.toArray,t',p,af,g⟩).run P w=.ok (.value v) w':=by
 subst h;simp[execOp,r]
def abu(b:a.eval x=vx)(c:a.eval y=vy)(h:(Instr.makeSlice t vx vy).run P w=.ok v w'):(execOp a.eval ⟨dst,.makeSlice t x y,t',p,af,g⟩).run P w=.ok (.value v) w':=by simp[execOp,b,c,h]
def abq(h:(Instr.makeMap t Pw).run P w=.ok v w'):(execOp a.eval ⟨dst,.makeMap t Pw,t',p,af,g⟩).run P w=.ok (.value v) w':=by simp[execOp,h]
def rb3(b:a.eval x=vx)(h:(Instr.makeMap t (aN vx)).run P w=.ok v w'):(execOp a.eval ⟨dst,.makeMap t (aN x),t',p,af,g⟩).run P w=.ok (.value v) w':=by simp[execOp,b,h]
def aix{b}(c:a.eval x=vx)(d:a.eval y=vy)(h:(Instr.lookup t vx vy b).run P w=.ok v w'):(execOp a.eval ⟨dst,.lookup t x y b,t',p,af,g⟩).run P w=.ok (.value v) w':=by simp[execOp,c,d,h]
def aeG(b:a.eval x=vx)(c:a.eval y=vy)(d:a.eval z=vz)(h:(Instr.mapUpdate t vx vy vz).run P w=.ok () w'):(execOp a.eval ⟨dst,.mapUpdate t x y z,t',p,af,g⟩).run P w=.ok .skip w':=by simp[execOp,b,c,d,h]
def sxv(b:a.eval x=vx)(c:a.eval y=vy)(d:a.eval z=vz)(h:(Instr.mapUpdate t vx vy vz).run P w=.ok () w'):(execOp a.eval ⟨dst,.insert t x y z,t',p,af,g⟩).run P w=.ok .skip w':=by simp[execOp,b,c,d,h]
def ajq(b:a.eval x=vx)(h:(convert t t2 vx).run P w=.ok v w'):(execOp a.eval ⟨dst,.convert t t2 x,t',p,af,g⟩).run P w=.ok (.value v) w':=by simp[execOp,b,h]
end
def amd{d:Option Tmp}{t:TypeId}{e:TypeId}{x:Operand}{c:TypeId}{p:String}{f:Array Edge}{g}{s:Sl}
  (h:(underlying t).run P w=.ok (.slice e) w) (b:a.eval x=s.v):
  (execOp a.eval ⟨d,.call ⟨.builtin .len,#[x],#[t]⟩,c,p,f,g⟩).run P w=.ok (.value (.int .i64 s.n)) w:=by
 simp[execOp,resolve,invoke,builtin,Builtin.len_,h,b,goInt]
def KP{dst}{x}{f}{first captured}{s:L Operand}{ats}{t'}{p}{af}{g}{r}
  (b:a.eval x=.func (.func f) first.toArray captured.toArray)
  (c:∀r w,(callFunc f r).run P w=.ok (.enter f r) w) (h:first++s.map a.eval++captured=r):
  (execOp a.eval ⟨dst,.call ⟨.value x,s.toArray,ats⟩,t',p,af,g⟩).run P w=.ok (.enter f r.toArray) w:=by
 subst h;simp only[execOp,resolve,b,Deferred.ofValue,Sem.run_bind,Sem.run_pure,Result.andThen_ok,invoke,c];simp
def oY{x}{k}{i y}{code}(h:x=.int k i)(a:i<=y):(Instr.sliceBound x y code).run P w=.ok i w:=by
 subst h;have:=J
 simp[Instr.sliceBound,asIntOf,this]
def mvv{dst}{s d e}{x}{t'}{p}{af}{g}{sl}{l}
  (b:P.underlying s=aN (.slice e)) (h:P.underlying e=aN (.int .u8)) (hd:P.underlying d=aN .string) (j:a.eval x=sl.v) (f:vW w sl l):
  (execOp a.eval ⟨dst,.convert s d x,t',p,af,g⟩).run P w=.ok (.value (.string ⟨l.toArray⟩)) w:=by
 obtain⟨n,i⟩:=f;obtain⟨c,sn,sc⟩:=sl;subst n;have k:(convert s d (.slice c (qj l) sc)).run P w=.ok (.string ⟨l.toArray⟩) w:=by
  rcases c with _|ad
  .have:l=[]:=qe λa=>Xd
   subst this;exact run_convert_bytes_nil w s e b h _ _ d hd
  refine run_convert_bytes_back w s d e ad sc l b h hd λp g=>?_;obtain⟨y,a,o⟩:=i (λm=>by simp[m]at g);injection a with a;subst a;exact o p _ (by simp[jc,aX g])
 simp[execOp,j,k]
def aeQ{dst}{fn}{f c:L Operand}{t'}{p}{af}{g}{fv cv}(h:f.map a.eval=fv)(b:c.map a.eval=cv):
  (execOp a.eval ⟨dst,.makeFunc fn f.toArray c.toArray,t',p,af,g⟩).run P w=.ok (.value (.func fn fv.toArray cv.toArray)) w:=by
 subst h;subst b;simp[execOp,Instr.makeFunc]
def ame{dst}{t ty}{x y}{t'}{p}{af}{g}{k}{m n}(c:a.eval x=.int k m)(d:a.eval y=.int k n)(b:n≠0):
  (execOp a.eval ⟨dst,.binOp .quo t x y ty,t',p,af,g⟩).run P w=.ok (.value (.int k (k.wrap (m.tdiv n)))) w:=by
 have e:binOp .quo t (.int k m) (.int k n)=Op.intDiv .quo k m n:=by simp[binOp]
 have h:eqGuard .quo t x y (.int k m) (.int k n)=pure _:=I;simp[execOp,c,d,h,e,Op.intDiv,b,lV,Sem.run_bind,Sem.run_pure,Result.andThen_ok]
def amf{dst}{t ty}{x y}{t'}{p}{af}{g}{k}{m n}(c:a.eval x=.int k m)(d:a.eval y=.int k n)(b:n≠0):
  (execOp a.eval ⟨dst,.binOp .rem t x y ty,t',p,af,g⟩).run P w=.ok (.value (.int k (m.tmod n))) w:=by
 have e:binOp .rem t (.int k m) (.int k n)=Op.intDiv .rem k m n:=by simp[binOp]
 have h:eqGuard .rem t x y (.int k m) (.int k n)=pure _:=I;simp[execOp,c,d,h,e,Op.intDiv,b,lV,Sem.run_bind,Sem.run_pure,Result.andThen_ok]
def amg{dst}{t ty}{x y}{t'}{p}{af}{g}{k k'}{m n}(c:a.eval x=.int k m)(d:a.eval y=.int k' n)(f:0<=n):
  (execOp a.eval ⟨dst,.binOp .shl t x y ty,t',p,af,g⟩).run P w=.ok (.value (.int k (k.wrap (m*2 ^ (min n.toNat k.bits))))) w:=by
 have b:eqGuard .shl t x y (.int k m) (.int k' n)=pure _:=I;have e:binOp .shl t (.int k m) (.int k' n)=Op.shift .shl k m k' n:=I;have h:¬n<0:=J
 simp[execOp,c,d,b,e,Op.shift,h,lV,Sem.run_bind,Sem.run_pure,Result.andThen_ok]
def amh{dst}{t ty}{x y}{t'}{p}{af}{g}{k k'}{m n}(c:a.eval x=.int k m)(d:a.eval y=.int k' n)(f:0<=n):
  (execOp a.eval ⟨dst,.binOp .shr t x y ty,t',p,af,g⟩).run P w=.ok (.value (.int k (m.fdiv (2 ^ (min n.toNat k.bits))))) w:=by
 have b:eqGuard .shr t x y (.int k m) (.int k' n)=pure _:=I;have e:binOp .shr t (.int k m) (.int k' n)=Op.shift .shr k m k' n:=I;have h:¬n<0:=J
 simp[execOp,c,d,b,e,Op.shift,h,lV,Sem.run_bind,Sem.run_pure,Result.andThen_ok]
def ajl{dst}{t}{x i}{t'}{p}{af}{g}{s}{k}{n}{c}
  (u:(underlying t).run P w=.ok .string w) (e:a.eval x=.string s) (d:a.eval i=.int k n) (h:0<=n) (b:s[n.toNat]? =aN c):
  (execOp a.eval ⟨dst,.index t x i,t',p,af,g⟩).run P w=.ok (.value (.int .u8 c.toNat)) w:=by
 simp[execOp,e,d,Instr.index,asIntOf,u,Sem.run_bind,Sem.run_pure,Result.andThen_ok,h,H2,b]
def aeH{dst}{t ty}{x y}{t'}{p}{af}{g}{s u}(c:a.eval x=.string s)(d:a.eval y=.string u)(n:(s.size:Int)+u.size<=9223372036854775807):
  (execOp a.eval ⟨dst,.binOp .add t x y ty,t',p,af,g⟩).run P w=.ok (.value (.string (s++u))) w:=by
 have b:eqGuard .add t x y (.string s) (.string u)=pure _:=I;have e:binOp .add t (.string s) (.string u)=Op.stringOp .add s u:=I;have h:¬((s.size+u.size:Nat))>IntKind.i64.max:=by simp_all
 simp only[execOp,c,d,b,e,Op.stringOp,h,lV,Sem.run_bind,Sem.run_pure,Result.andThen_ok]
def ami{dst}{t}{e}{x}{t'}{p}{af}{g}{s:Sl}
  (h:(underlying t).run P w=.ok (.slice e) w) (b:a.eval x=s.v):
  (execOp a.eval ⟨dst,.call ⟨.builtin .cap,#[x],#[t]⟩,t',p,af,g⟩).run P w=.ok (.value (.int .i64 s.c)) w:=by
 simp[execOp,resolve,invoke,builtin,Builtin.cap_,h,b,goInt]
def aje{d:Option Tmp}{t:TypeId}{x o:Operand}{e:TypeId}{p:String}{f:Array Edge}{g:Option (Nat×M)}{s:ByteArray}{k:IntKind}{l:Nat}
  (u:(underlying t).run P w=.ok .string w) (c:a.eval x=.string s) (b:a.eval o=.int k (l:Int)) (h:l<=s.size) (_h2:s.size<=s.size):
  (execOp a.eval ⟨d,.slice t x (aN o) Pw Pw,e,p,f,g⟩).run P w=.ok (.value (.string (s.extract l s.size))) w:=by
 simp[execOp,c,Instr.sliceAt,u,Instr.slice,Instr.sliceBounds,oY b h]
def aci{dst}{t}{x hi}{t'}{p}{af}{g}{s}{k}{h:Nat}
  (u:(underlying t).run P w=.ok .string w) (d:a.eval x=.string s) (c:a.eval hi=.int k h) (_h1:0<=h) (b:h<=s.size):
  (execOp a.eval ⟨dst,.slice t x Pw (aN hi) Pw,t',p,af,g⟩).run P w=.ok (.value (.string (s.extract 0 h))) w:=by
 simp[execOp,d,Instr.sliceAt,u,Instr.slice,Instr.sliceBounds,oY c b]
def ab4{dst}{t}{x lo hi}{t'}{p}{af}{g}{s}{k k'}{l h:Nat}
  (u:(underlying t).run P w=.ok .string w) (f:a.eval x=.string s) (e:a.eval lo=.int k l) (d:a.eval hi=.int k' h) (b:l<=h) (c:h<=s.size):
  (execOp a.eval ⟨dst,.slice t x (aN lo) (aN hi) Pw,t',p,af,g⟩).run P w=.ok (.value (.string (s.extract l h))) w:=by
 simp[execOp,f,Instr.sliceAt,u,Instr.slice,Instr.sliceBounds,oY d c,oY e b]
def aiJ{dst}{s d}{x}{t'}{p}{af}{g}{ks kd k}{n}
  (h:(underlying s).run P w=.ok (.int ks) w) (hd:(underlying d).run P w=.ok (.int kd) w) (b:a.eval x=.int k n):
  (execOp a.eval ⟨dst,.convert s d x,t',p,af,g⟩).run P w=.ok (.value (.int kd (kd.wrap n))) w:=by
 simp[execOp,b,convert,h,hd,Conv.intToInt]
def GS{t:Option Tmp}{s d:TypeId}{x:Operand}{c:TypeId}{p:String}{f:Array Edge}{g:Option (Nat×M)}{n:ByteArray}
  (h:(underlying s).run P w=.ok .string w) (hd:(underlying d).run P w=.ok .string w) (b:a.eval x=.string n):
  (execOp a.eval ⟨t,.convert s d x,c,p,f,g⟩).run P w=.ok (.value (.string n)) w:=by
 simp[execOp,b,convert,h,hd]
def acd{dst}{t}{x}{t'}{p}{af}{g}{d}{v}
  (h:(underlying t).run P w=.ok d w) (hd:(match d with | .interface _=>aM | _=>aF)=aF) (b:a.eval x=v):
  (execOp a.eval ⟨dst,.makeInterface t x,t',p,af,g⟩).run P w=.ok (.value (.iface t v)) w:=by
 subst b;cases d<;>first | (simp at hd;done) | simp[execOp,Instr.makeInterface,h]
def enO{d:Option Tmp}{t:TypeId}{x:Operand}{c:TypeId}{p:String}{f:Array Edge}{g:Option (Nat×M)}{s:ByteArray}
  (h:(underlying t).run P w=.ok .string w) (b:a.eval x=.string s):
  (execOp a.eval ⟨d,.call ⟨.builtin .len,#[x],#[t]⟩,c,p,f,g⟩).run P w=.ok (.value (.int .i64 s.size)) w:=by
 simp[execOp,resolve,invoke,builtin,Builtin.len_,h,b,goInt]
def amj{dst}{ts}{x y}{t'}{p}{af}{g}{k k'}{m n}(h:a.eval x=.int k m)(b:a.eval y=.int k' n):
  (execOp a.eval ⟨dst,.call ⟨.builtin .min,#[x,y],ts⟩,t',p,af,g⟩).run P w=.ok (.value (.int k (if n<m then n else m))) w:=by
 simp[execOp,resolve,invoke,builtin,h,b,run_min_int2]
def amk{d:Option Tmp}{ts}{x y}{t'}{p}{af}{g}{k k'}{m n}(h:a.eval x=.int k m)(b:a.eval y=.int k' n):
  (execOp a.eval ⟨d,.call ⟨.builtin .max,#[x,y],ts⟩,t',p,af,g⟩).run P w=.ok (.value (.int k (if n>m then n else m))) w:=by
 simp[execOp,resolve,invoke,builtin,h,b,run_max_int2]
def adB{s:Option Tmp}{t l:TypeId}{x y:Operand}{k:TypeId}{p:String}{f:Array Edge}{g:Option (Nat×M)}{e:TypeId}{q:Option Addr}{b:M}(u:(underlying t).run P w=.ok (.pointer e) w)(i:a.eval x=.pointer q)(j:a.eval y=.pointer Pw)(c:(q.isNone)=b):
  (execOp a.eval ⟨s,.binOp .eql t x y l,k,p,f,g⟩).run P w=.ok (.value (.bool b)) w:=by
 subst c;have E:∀d,(Op.equalIn (d+1) t (.pointer q) (.pointer Pw)).run P w=.ok q.isNone w:=λd=>by
  unfold Op.equalIn;cases q<;>simp only[Sem.run_bind,u,Result.andThen_ok]<;>rfl
 have h:binOp .eql t (.pointer q) (.pointer Pw)=(do pure (.bool ((<-Op.equal t (.pointer q) (.pointer Pw))))):=by cases q<;>rfl
 have G:eqGuard .eql t x y (.pointer q) (.pointer Pw)=pure ():=I;simp only[execOp,i,j,G,h,Op.equal,Op.maxDepth,Sem.run_bind,Sem.run_pure,Result.andThen_ok,E 9999]
def ajh{dst}{t ty}{x y}{t'}{p}{af}{g}{e}{q}{b}(hu:(underlying t).run P w=.ok (.pointer e) w)(f:a.eval x=.pointer Pw)(i:a.eval y=.pointer q)(c:(q.isNone)=b):
  (execOp a.eval ⟨dst,.binOp .eql t x y ty,t',p,af,g⟩).run P w=.ok (.value (.bool b)) w:=by
 subst c;have E:∀d,(Op.equalIn (d+1) t (.pointer Pw) (.pointer q)).run P w=.ok q.isNone w:=λd=>KZ
 have h:binOp .eql t (.pointer Pw) (.pointer q)=(do pure (.bool ((<-Op.equal t (.pointer Pw) (.pointer q))))):=I;have G:eqGuard .eql t x y (.pointer Pw) (.pointer q)=pure _:=I;simp[execOp,f,i,G,h,Op.equal,Op.maxDepth,Sem.run_bind,Sem.run_pure,Result.andThen_ok,E 9999]
def ag4{dst}{t ty}{x y}{t'}{p}{af}{g}{e}{q}{b}(u:(underlying t).run P w=.ok (.pointer e) w)(f:a.eval x=.pointer q)(i:a.eval y=.pointer Pw)(c:(!q.isNone)=b):
  (execOp a.eval ⟨dst,.binOp .neq t x y ty,t',p,af,g⟩).run P w=.ok (.value (.bool b)) w:=by
 subst c;have E:∀d,(Op.equalIn (d+1) t (.pointer q) (.pointer Pw)).run P w=.ok q.isNone w:=λd=>by
  unfold Op.equalIn;cases q<;>simp only[Sem.run_bind,u]<;>rfl
 have h:binOp .neq t (.pointer q) (.pointer Pw)=(do pure (.bool (!(<-Op.equal t (.pointer q) (.pointer Pw))))):=I;have G:eqGuard .neq t x y (.pointer q) (.pointer Pw)=pure _:=I;simp[execOp,f,i,G,h,Op.equal,Op.maxDepth,Sem.run_bind,Sem.run_pure,Result.andThen_ok,E 9999]
def ahC{s:Option Tmp}{t ty}{x y}{t'}{p}{af}{g}{e}{q}{b}(hu:(underlying t).run P w=.ok (.pointer e) w)(f:a.eval x=.pointer Pw)(i:a.eval y=.pointer q)(c:(!q.isNone)=b):
  (execOp a.eval ⟨s,.binOp .neq t x y ty,t',p,af,g⟩).run P w=.ok (.value (.bool b)) w:=by
 subst c;have E:∀d,(Op.equalIn (d+1) t (.pointer Pw) (.pointer q)).run P w=.ok q.isNone w:=λd=>KZ
 have h:binOp .neq t (.pointer Pw) (.pointer q)=(do pure (.bool (!(<-Op.equal t (.pointer Pw) (.pointer q))))):=by cases q<;>rfl
 have G:eqGuard .neq t x y (.pointer Pw) (.pointer q)=pure _:=I;simp[execOp,f,i,G,h,Op.equal,Op.maxDepth,Sem.run_bind,Sem.run_pure,Result.andThen_ok,E 9999]
def shB{dst}{t ty}{x y}{t'}{p}{af}{g}{m n}(u:P.underlying t=aN .bool)(b:a.eval x=.bool m)(c:a.eval y=.bool n):
  (execOp a.eval ⟨dst,.binOp .eql t x y ty,t',p,af,g⟩).run P w=.ok (.value (.bool (m==n))) w:=by
 have h:eqGuard .eql t x y (.bool m) (.bool n)=pure _:=I;simp[execOp,b,c,h,run_eql_bool w t m n u]
def ahs{dst}{t ty}{x y}{t'}{p}{af}{g}{m n}(u:P.underlying t=aN .bool)(b:a.eval x=.bool m)(c:a.eval y=.bool n):
  (execOp a.eval ⟨dst,.binOp .neq t x y ty,t',p,af,g⟩).run P w=.ok (.value (.bool (!(m==n)))) w:=by
 have h:eqGuard .neq t x y (.bool m) (.bool n)=pure _:=I;simp[execOp,b,c,h,run_neq_bool w t m n u]
def abi{c:Option Tmp}{t j:TypeId}{x y:Operand}{t'}{p}{af}{g}{e}{s:Sl}(u:(underlying t).run P w=.ok (.slice e) w)(f:a.eval x=s.v)(i:a.eval y=.slice Pw 0 0):
  (execOp a.eval ⟨c,.binOp .eql t x y j,t',p,af,g⟩).run P w=.ok (.value (.bool (s.a.isNone))) w:=by
 obtain⟨b,sn,sc⟩:=s;have E:∀d,(Op.equalIn (d+1) t (.slice b sn sc) (.slice Pw 0 0)).run P w=.ok b.isNone w:=λd=>by
  unfold Op.equalIn;cases b<;>simp only[Sem.run_bind,u]<;>rfl
 have h:binOp .eql t (.slice b sn sc) (.slice Pw 0 0)=(do pure (.bool ((<-Op.equal t (.slice b sn sc) (.slice Pw 0 0))))):=by cases b<;>rfl
 have G:eqGuard .eql t x y (.slice b sn sc) (.slice Pw 0 0)=pure _:=I;simp[execOp,f,i,G,h,Op.equal,Op.maxDepth,Sem.run_bind,Sem.run_pure,Result.andThen_ok,E 9999]
def afE{dst}{t ty}{x y}{t'}{p}{af}{g}{e}{s:Sl}(hu:(underlying t).run P w=.ok (.slice e) w)(c:a.eval x=.slice Pw 0 0)(f:a.eval y=s.v):
  (execOp a.eval ⟨dst,.binOp .eql t x y ty,t',p,af,g⟩).run P w=.ok (.value (.bool (s.a.isNone))) w:=by
 obtain⟨b,sn,sc⟩:=s;have E:∀d,(Op.equalIn (d+1) t (.slice Pw 0 0) (.slice b sn sc)).run P w=.ok b.isNone w:=λd=>KZ
 have h:binOp .eql t (.slice Pw 0 0) (.slice b sn sc)=(do pure (.bool ((<-Op.equal t (.slice Pw 0 0) (.slice b sn sc))))):=I;have G:eqGuard .eql t x y (.slice Pw 0 0) (.slice b sn sc)=pure _:=I;simp[execOp,c,f,G,h,Op.equal,Op.maxDepth,Sem.run_bind,Sem.run_pure,Result.andThen_ok,E 9999]
def hdT{dst}{t ty}{x y}{t'}{p}{af}{g}{e}{s:Sl}(u:(underlying t).run P w=.ok (.slice e) w)(c:a.eval x=s.v)(f:a.eval y=.slice Pw 0 0):
  (execOp a.eval ⟨dst,.binOp .neq t x y ty,t',p,af,g⟩).run P w=.ok (.value (.bool (!s.a.isNone))) w:=by
 obtain⟨b,sn,sc⟩:=s;have E:∀d,(Op.equalIn (d+1) t (.slice b sn sc) (.slice Pw 0 0)).run P w=.ok b.isNone w:=λd=>by
  unfold Op.equalIn;cases b<;>simp only[Sem.run_bind,u]<;>rfl
 have h:binOp .neq t (.slice b sn sc) (.slice Pw 0 0)=(do pure (.bool (!(<-Op.equal t (.slice b sn sc) (.slice Pw 0 0))))):=by cases b<;>rfl
 have G:eqGuard .neq t x y (.slice b sn sc) (.slice Pw 0 0)=pure _:=I;simp[execOp,c,f,G,h,Op.equal,Op.maxDepth,Sem.run_bind,Sem.run_pure,Result.andThen_ok,E 9999]
def abS{c:Option Tmp}{t k:TypeId}{x y:Operand}{j:TypeId}{p:String}{af}{g}{e}{s:Sl}(hu:(underlying t).run P w=.ok (.slice e) w)(f:a.eval x=.slice Pw 0 0)(i:a.eval y=s.v):
  (execOp a.eval ⟨c,.binOp .neq t x y k,j,p,af,g⟩).run P w=.ok (.value (.bool (!s.a.isNone))) w:=by
 obtain⟨b,sn,sc⟩:=s;have E:∀d,(Op.equalIn (d+1) t (.slice Pw 0 0) (.slice b sn sc)).run P w=.ok b.isNone w:=λd=>KZ
 have h:binOp .neq t (.slice Pw 0 0) (.slice b sn sc)=(do pure (.bool (!(<-Op.equal t (.slice Pw 0 0) (.slice b sn sc))))):=by cases b<;>rfl
 have G:eqGuard .neq t x y (.slice Pw 0 0) (.slice b sn sc)=pure _:=I;simp[execOp,f,i,G,h,Op.equal,Op.maxDepth,Sem.run_bind,Sem.run_pure,Result.andThen_ok,E 9999]
def xCB{dst}{t e}{x lo}{t'}{p}{af}{g}{s:Sl}{k}{l sz:Nat}
  (u:(underlying t).run P w=.ok (.slice e) w) (h:(sizeOf e).run P w=.ok sz w) (d:a.eval x=s.v) (c:a.eval lo=.int k l) (b:l<=s.n) (_h2:s.n<=s.c) (_h3:s.c<=s.c):
  (execOp a.eval ⟨dst,.slice t x (aN lo) Pw Pw,t',p,af,g⟩).run P w=.ok (.value (s.cut l s.n s.c sz).v) w:=by
 simp[execOp,d,Instr.sliceAt,u,Sem.run_bind,Result.andThen_ok,Instr.slice,Instr.sliceBounds,fG,DU,Sem.run_pure,oY c b,h,Sl.cut]
def ah1{dst}{t e}{x hi}{t'}{p}{af}{g}{s:Sl}{k}{h sz:Nat}
  (u:(underlying t).run P w=.ok (.slice e) w) (z:(sizeOf e).run P w=.ok sz w) (d:a.eval x=s.v) (c:a.eval hi=.int k h) (_h1:0<=h) (b:h<=s.c) (_h3:s.c<=s.c):
  (execOp a.eval ⟨dst,.slice t x Pw (aN hi) Pw,t',p,af,g⟩).run P w=.ok (.value (s.cut 0 h s.c sz).v) w:=by
 simp[execOp,d,Instr.sliceAt,u,Sem.run_bind,Result.andThen_ok,Instr.slice,Instr.sliceBounds,fG,DU,Sem.run_pure,oY c b,z,Sl.cut]
def ajD{dst}{t e}{x lo hi}{t'}{p}{af}{g}{s:Sl}{k k'}{l h sz:Nat}
  (u:(underlying t).run P w=.ok (.slice e) w) (z:(sizeOf e).run P w=.ok sz w) (i:a.eval x=s.v) (f:a.eval lo=.int k l) (d:a.eval hi=.int k' h) (b:l<=h) (c:h<=s.c) (_h3:s.c<=s.c):
  (execOp a.eval ⟨dst,.slice t x (aN lo) (aN hi) Pw,t',p,af,g⟩).run P w=.ok (.value (s.cut l h s.c sz).v) w:=by
 simp[execOp,i,Instr.sliceAt,u,Sem.run_bind,Result.andThen_ok,Instr.slice,Instr.sliceBounds,fG,DU,Sem.run_pure,oY d c,oY f b,z,Sl.cut]
def ag6{dst}{t e}{x hi mx}{t'}{p}{af}{g}{s:Sl}{k' k2}{h m sz:Nat}
  (u:(underlying t).run P w=.ok (.slice e) w) (z:(sizeOf e).run P w=.ok sz w) (i:a.eval x=s.v) (d:a.eval hi=.int k' h) (f:a.eval mx=.int k2 m) (_h1:0<=h) (b:h<=m) (c:m<=s.c):
  (execOp a.eval ⟨dst,.slice t x Pw (aN hi) (aN mx),t',p,af,g⟩).run P w=.ok (.value (s.cut 0 h m sz).v) w:=by
 simp[execOp,i,Instr.sliceAt,u,Sem.run_bind,Result.andThen_ok,Instr.slice,Instr.sliceBounds,fG,DU,Sem.run_pure,oY f c,oY d b,z,Sl.cut]
def inz{dst}{t e}{x lo hi mx}{t'}{p}{af}{g}{s:Sl}{k k' k2}{l h m sz:Nat}
  (u:(underlying t).run P w=.ok (.slice e) w) (z:(sizeOf e).run P w=.ok sz w) (n:a.eval x=s.v) (i:a.eval lo=.int k l) (f:a.eval hi=.int k' h) (j:a.eval mx=.int k2 m) (b:l<=h) (c:h<=m) (d:m<=s.c):
  (execOp a.eval ⟨dst,.slice t x (aN lo) (aN hi) (aN mx),t',p,af,g⟩).run P w=.ok (.value (s.cut l h m sz).v) w:=by
 simp only[execOp,n,Instr.sliceAt,u,Sem.run_bind,Result.andThen_ok,Instr.slice,Instr.sliceBounds,fG,Sem.run_pure,oY j d,oY f c,oY i b,z,Sl.cut]
section
variable {K:Act->aw->Prop} {o:Oper}
def ahg(g:Region.wanted o (yielded ops a.tmps)=aF)(h:o.wp P a w (wpList P ops Q rest) Q):wpList P ops Q (o::rest) a w:=by
 unfold wpList;simp_all
def Co v (r:(execOp a.eval o).run P w=.ok (.value v) w') (b:a.put o.dst v=a') (h:K a' w'):o.wp P a w K Q:=by
 subst b;unfold Oper.wp;rw[r];exact h
def ahM(r:(execOp a.eval o).run P w=.ok .skip w')(b:a.put o.dst undef=a')(h:K a' w'):o.wp P a w K Q:=by
 subst b;unfold Oper.wp;rw[r];exact h
def agX{f}{args}(r:(execOp a.eval o).run P w=.ok (.enter f args) w)
  (h:Calls P f args w λe w'=>∃v a',e=.returned v/\a.put o.dst v=a'/\K a' w'):o.wp P a w K Q:=by
 unfold Oper.wp;rw[r];refine h.mono ?_;simp_all
def KU{dst}{ty}{x y}{t'}{p}{af}{g}{b o}{cs vs DP}{et}{n}
  (h:(sizeOf ty).run P w=.ok n w) (k:a.eval x=.pointer (aN ⟨b,o,Pw⟩)) (v:(a.eval y).cells=vs.toArray) (j:qj vs=n)
  (f:vs.all Value.oneCell'=aF) (d:Blk w b et cs) (V:o+qj vs<=qj cs) (l:gD cs o vs=DP) (i:a.put dst undef=a')
  (e:∀c,Only [b] w c->Blk c b et DP->K a' c):Oper.wp P ⟨dst,.store ty x y,t',p,af,g⟩ a w K Q:=
 ahM (ab7 h k v j (du.1 f) d V) i (e _ (Nr _ _ _) (by rw[<-l];exact d.setRow _))
def KV{dst}{ty}{t'}{p}{af}{g}{z}{zs}{d:Nat->Act}
  (i:(zeroValue ty).run P w=.ok z w) (f:z.cells=zs.toArray) (e:∀b,a.put dst (.pointer (aN ⟨b,0,Pw⟩))=d b)
  (h:∀b c,w.heap.size<=b->Only [] w c->Blk c b ty zs->K (d b) c):Oper.wp P ⟨dst,.alloc ty,t',p,af,g⟩ a w K Q:=
 Co _ (ab8 i f) (e _) (h _ _ (H _) (X0 _ _) (Yf _ _ _))
def ahh{dst}{ty}{x}{t'}{p}{af}{g}{zs}{d:Nat->Act}
  (f:(a.eval x).cells=zs.toArray) (e:∀b,a.put dst (.pointer (aN ⟨b,0,Pw⟩))=d b)
  (h:∀b c,w.heap.size<=b->Only [] w c->Blk c b ty zs->K (d b) c):Oper.wp P ⟨dst,.box ty x,t',p,af,g⟩ a w K Q:=
 Co _ (amc f) (e _) (h _ _ (H _) (X0 _ _) (Yf _ _ _))
end
def tgP{id}(h:Q .normal a w):Exit.inBlock id Q (.exit id) a w:=by simpa[Exit.inBlock]using h
def xCQ{id id'}(i:(id'==id)=aM)(h:Q (.exit id') a w):Exit.inBlock id Q (.exit id') a w:=by simpa[Exit.inBlock,by simpa using i]using h
def GU(P:Program)(a:Act)(w:aw):L ResultVar->L ay->Prop
 | [],[]=>True
 | .tmp t::r,v::s=>a.eval (.tmp t)=v/\GU P a w r s
 | .cell p t::r,v::s=>(∃ad,a.eval (.tmp p)=.pointer (aN ad)/\(loadVar t ad).run P w=.ok v w)/\GU P a w r s
 | _,_=>False
def qX(f:ResultVar->Sem ay)(b:∀t,f (.tmp t)=pure (a.tmps.getD t undef))(h:∀q t,f (.cell q t)=(do loadVar t (<-asAddr (a.tmps.getD q undef)))):
  ∀r s,GU P a w r s->(r.mapM f).run P w=.ok s w
 | [],[],_=>rfl
 | [],_::_,a=>a.elim
 | .tmp t::c,[],a=>a.elim
 | .cell _ _::c,[],a=>a.elim
 | .tmp t::d,v::s,c=>by
  have i:=qX f b h d s c.2;have e:a.tmps.getD t undef=v:=c.1;simp_all
 | .cell q t::j,v::s,d=>by
  have i:=qX f b h j s d.2;obtain⟨⟨ad,e,g⟩,_⟩:=d;have c:a.tmps.getD q undef=.pointer _:=e;rw[List.mapM_cons,h];simp[c,asAddr,g,i]
def ahi{fn}{rs}{v}(h:fn.results=rs.toArray)(r:GU P a w rs [v]):(results fn a.tmps).run P w=.ok v w:=by
 unfold results;rw[h,List.mapM_toArray];simp only[Sem.run_bind,map_eq_pure_bind];rw[qX _ (λ_=>I) (λ_ _=>I) rs [v] r];rfl
def Ox{fn}{rs}{vs}(h:fn.results=rs.toArray)(n:(qj vs==1)=aM)(r:GU P a w rs vs):(results fn a.tmps).run P w=.ok (.tuple vs.toArray) w:=by
 unfold results;rw[h,List.mapM_toArray];simp only[Sem.run_bind,map_eq_pure_bind,Sem.run_pure];rw[qX _ (λ_=>I) (λ_ _=>I) rs vs r];simp_all
def ace{fn}{R:ay->aw->Prop}{v}(r:(results fn a.tmps).run P w=.ok v w)(hd:a.defers=[])(h:R v w):
 bodyPost P fn (λe w'=>∃v,e=.returned v/\R v w') .ret a w:=bodyPost_ret r hd ⟨v,I,h⟩
def adD{fn}{R:ay->aw->Prop}{v}(r:(results fn a.tmps).run P w=.ok v w)(hd:a.defers=[])(h:R v w):
 bodyPost P fn (λe w'=>∃v,e=.returned v/\R v w') .normal a w:=bodyPost_end r hd ⟨v,I,h⟩
def abm{ty}{ad}{cs}{n}(Z:(isAgg ty).run P w=.ok aF w)(h:(sizeOf ty).run P w=.ok n w)(a:qj cs=n)(c:Cells w ad cs):
  (loadVar ty ad).run P w=.ok (.agg cs.toArray) w:=by
 have l:=run_loadCells_list (P:=P) w ad cs c;rw[a]at l;simp[loadVar,Z,h,l,Sem.run_pure]
def xKI{ty}{ad}{v}(Z:(isAgg ty).run P w=.ok aM w)(h:w.cell? ad=aN v):
  (loadVar ty ad).run P w=.ok v w:=by
 simp[loadVar,Z,lV,run_load,h]
end
section
variable {P:Program} {ops:Array Oper} {rest:L Oper} {a a':Act} {w:aw} {Q:Act->Prop}
def aml{o} v (g:Region.wanted o (yielded ops a.tmps)=aF)
  (r:∀b,(∃n,b=w.drewN n)->(execOp a.eval o).run P b=.ok (.value v) b) (d:a.put o.dst v=a')
  (c:wpQuiet P ops (λb=>∃n,b=w.drewN n) Q rest a'):wpQuiet P ops (λb=>∃n,b=w.drewN n) Q (o::rest) a:=by
 subst d;unfold wpQuiet;rw[K g];refine⟨v,λb h=>?_,c⟩;unfold Oper.quietAt;rw[r b h];exact⟨I,I⟩
def aui{o}(g:Region.wanted o (yielded ops a.tmps)=aM)(h:a.put o.dst undef=a')
  (c:wpQuiet P ops (λb=>∃n,b=w.drewN n) Q rest a'):wpQuiet P ops (λb=>∃n,b=w.drewN n) Q (o::rest) a:=by
 subst h;unfold wpQuiet;simp_all
end
def abd{w w'}:cj [] w w':=λ_ h=>Ux
def cj.refl bs w:cj bs w w:=λ_ _=>I
def TT:=@cj.refl
section
variable {P:Program} {ops:Array Oper} {Q:Exit->Act->aw->Prop} {md:Region.Mode} {E:Nat->aw->aw->Prop} {F:aw->Prop}
def gF(P:Program)(m:Region.Mode)(o:Array Oper)(Q:Exit->Act->aw->Prop)(E:Nat->aw->aw->Prop):Nat->Array M->Act->aw->Prop
 | 0,b,a,w=>Region.ready m o b=[]/\Q .normal a w
 | fL+1,b,a,w=>
  (Region.ready m o b=[]->Q .normal a w)/\
  ∀i∈Region.ready m o b,wpOp P o Q i (λd c=>E i w c/\gF P m o Q E fL (b.setIfInBounds i aF) d c) a w
def afp:∀fL b a w,gF P md ops Q E fL b a w->wpAny P md ops Q fL b a w
 | 0,_,_,_,h=>h
 | fL+1,_,_,_,h=>⟨h.1,λd i=>wpOp_mono (λa e c=>afp fL _ a e c.2) (h.2 d i)⟩
def ve(m:Region.Mode)(o:Array Oper)(b:Array M):Prop:=∀k a,o[k]? =aN a->b.getD k aM=aF->∀e∈a.after,Region.binds m e=aF->b.getD e.on aM=aF
def xJ(m:Region.Mode)(o:Array Oper)(b:Array M):M:=
 (List.range o.size).all λk=>!b.getD k aM||((o[k]?).map (·.after.all λe=>!Region.binds m e||b.getD e.on aM)).getD aF
def acw{bM}(h:xJ md ops bM=aF):ve md ops bM:=by
 intro k o hk l e a b;have:=(du.1 h) k (mM.2 (oK.1 hk).1);simp only[l,kz,hk,fG,jw,Array.all_eq_true_iff_forall_mem,cy]at this
 grind
def ve.add{bM}{j}(c:ve md ops bM)(d:j∈Region.ready md ops bM):ve md ops (bM.setIfInBounds j aF):=by
 intro k o hk l e a b;obtain⟨_,f,V,i⟩:=mem_ready.1 d;by_cases h:j=k
 .subst h;rw[V]at hk;injection hk with hk;subst hk;exact getD_set_true (i e a b)
 rw[getD_set_ne aM h]at l;exact getD_set_true (c k o hk l e a b)
def vf(m:Region.Mode)(o:Array Oper)(i:Nat):L Nat->L Nat->M
 | _,[]=>aF
 | s,j::r=>((o[j]?).map λa=>a.after.any λe=>Region.binds m e&&(e.on==i||s.contains e.on)).getD aM&&vf m o i (j::s) r
def Cp{i}{bM}(h:ve md ops bM):∀D s,vf md ops i s D=aF->(∀k∈s,bM.getD k aM=aF->bM.getD i aM=aF)->∀j∈D,∀o,ops[j]? =aN o->(∀e∈o.after,Region.binds md e=aF->bM.getD e.on aM=aF)->bM.getD i aM=aF
 | [],_,_,_,j,a,_,_,_=>by simp at a
 | k::r,s,a,f,j,b,o,c,d=>by
  simp[vf,B]at a;have hk:∀o,ops[k]? =aN o->(∀e∈o.after,Region.binds md e=aF->bM.getD e.on aM=aF)->bM.getD i aM=aF:=Xd
  rcases bh.1 b with rfl | b
  .exact hk o c d
  refine Cp h r _ a.2 ?_ j b o c d;intro x e l;rcases bh.1 e with rfl | e
  .have g:=a.1;rcases hx2:ops[x]? with _|i
   .rw[hx2]at g;simp at g
   exact hk i hx2 (h x i hx2 l)
  exact f x e l
def vg{i}{oi}{v}{D}(h:ops[i]? =aN oi)(q:∀(j:Nat) o s b,ops[j]? =aN o->o.op≠.select s b)
  (g:∀c a w,Q (.panic c) (a.put oi.dst v) w->Q (.panic c) a w) (f:vf md ops i [] D=aF)
  (N:L Nat) (l:∀j w d,j∉D->j∉N->F w->E j w d->F d) (H:∀w,F w->E i w w):
  ∀fL M a w,ve md ops M->(∀k∈N,M.getD k aF=aF)->
   (∀j b,ops[j]? =aN b->j≠i->M.getD j aF=aM->(∀e∈b.after,Region.binds md e=aF->e.on≠i)->oi.apart ops b=aF)->
   i∈Region.ready md ops M->YieldsIf P ops F oi v a->F w->
   gF P md ops Q E fL (M.setIfInBounds i aF) (a.put oi.dst v) w->gF P md ops Q E (fL+1) M a w:=by
 intro fL
 induction fL with
 | zero=>
  intro M a w _ _ _ r y F c;refine⟨λe=>(by rw[e]at r;cases r),λj k=>?_⟩;by_cases b:j=i
  .subst b;exact y.wpOp h F ⟨H w F,c⟩
  have:=ready_mono k b;rw[c.1]at this;cases this
 | succ fL u=>
  intro M a w K p T r y F n;refine⟨λt=>(by rw[t]at r;cases r),λj m=>?_⟩;by_cases c:j=i
  .subst c;exact y.wpOp h F ⟨H w F,n⟩
  have Q:=n.2 j (ready_mono m c);obtain⟨a,z,V,W⟩:=mem_ready.1 m;have P:=(mem_ready.1 r).1;have E:M.getD i aM=aM:=Xd
  have B:∀e∈z.after,Region.binds md e=aF->e.on≠i:=λe Z Y S=>Xd
  have C:j∉D:=λG=>by
   have:=Cp K D [] f X j G z V W;rw[E]at this;cases this
  have v:j∉N:=λG=>by
   have:=p j G;rw[a]at this;cases this
  have A:∀k∈N,(M.setIfInBounds j aF).getD k aF=aF:=λk hk=>by
   by_cases b:j=k
   .subst b;exact absurd hk v
   rw[getD_set_ne aF b];exact p k hk
  have R:=wpOp_putIf V (T j z V c a B) (λs b=>q i oi s b h) (λs b=>q j z s b V) g y Q;have J:∀k ok,ops[k]? =aN ok->k≠i->(M.setIfInBounds j aF).getD k aF=aM->
    _->oi.apart ops ok=aF:=λk ok hk i e D=>by
   refine T k ok hk i ?_ D;by_cases b:j=k
   .subst b;exact a
   rw[getD_set_ne aF b]at e;exact e
  refine wpOp_mono (λI d x=>⟨x.2.1,u _ I d (K.add m) A J (ready_mono r (Ne.symm c)) x.1 (l j w d C v F x.2.1) ?_⟩) R;rw[Array.setIfInBounds_comm _ _ c];exact x.2.2
def Oz i {eU} {oi} {a a'} {w} {fL} {bM} (D N:L Nat) v F (hi:jd eU i=aN oi)
  (s:Region.noSelect eU.toArray=aF) (n:Region.free md eU.toArray bM i=aF) (hr:(Region.ready md eU.toArray bM).contains i=aF) (m:xJ md eU.toArray bM=aF) (e:vf md eU.toArray i [] D=aF) (p:(N.all λk=>bM.getD k aF)=aF)
  (g:∀c a w,Q (.panic c) (a.put oi.dst v) w->Q (.panic c) a w) (o:∀j w d,j∉D->j∉N->F w->E j w d->F d) (H:∀w,F w->E i w w) (f:F w)
  (y:YieldsIf P eU.toArray F oi v a) (l:a.put oi.dst v=a')
  (h:gF P md eU.toArray Q E fL (bM.setIfInBounds i aF) a' w):gF P md eU.toArray Q E (fL+1) bM a w:=by
 subst l;have b:eU.toArray[i]? =aN oi:=L1
 exact vg b (Region.noSelect_spec s) g e N o H fL bM a w (acw m) (λk hk=>Xd) (Region.free_spec b n) RD y f h
def amm i {eU} {oi} {a} {w} {fL} {bM} (hi:jd eU i=aN oi) (hr:Region.ready md eU.toArray bM=[i])
  (g:Region.wanted oi (yielded eU.toArray a.tmps)=aF)
  (h:oi.wp P a w (λc b=>E i w b/\gF P md eU.toArray Q E fL (bM.setIfInBounds i aF) c b) Q):gF P md eU.toArray Q E (fL+1) bM a w:=by
 have F:eU.toArray[i]? =aN oi:=L1
 refine⟨λh0=>R8,λj hj=>?_⟩;rw[hr]at hj;obtain rfl:j=i:=S7
 unfold wpOp;simp_all
def acf i {eU} {oi} {a a'} {w} {fL} {bM} (hi:jd eU i=aN oi) (hr:Region.ready md eU.toArray bM=[i])
  (g:Region.wanted oi (yielded eU.toArray a.tmps)=aM) (c:E i w w) (h:a.put oi.dst undef=a')
  (b:gF P md eU.toArray Q E fL (bM.setIfInBounds i aF) a' w):gF P md eU.toArray Q E (fL+1) bM a w:=by
 subst h;have F:eU.toArray[i]? =aN oi:=L1
 refine⟨λh0=>R8,λj hj=>?_⟩;rw[hr]at hj;obtain rfl:j=i:=S7
 unfold wpOp;simp_all
def amn i j {eU} {oi oj} {a} {w} {fL} {bM} (hi:jd eU i=aN oi) (h:jd eU j=aN oj) (hr:Region.ready md eU.toArray bM=[i,j])
  (e:if Region.wanted oi (yielded eU.toArray a.tmps)then oi.wp P a w (λc b=>E i w b/\gF P md eU.toArray Q E fL (bM.setIfInBounds i aF) c b) Q∨(oi.asks P a w/\LetsOut Q)
   else(λc b=>E i w b/\gF P md eU.toArray Q E fL (bM.setIfInBounds i aF) c b) (a.put oi.dst undef) w)
  (f:if Region.wanted oj (yielded eU.toArray a.tmps)then oj.wp P a w (λc b=>E j w b/\gF P md eU.toArray Q E fL (bM.setIfInBounds j aF) c b) Q∨(oj.asks P a w/\LetsOut Q)
   else(λc b=>E j w b/\gF P md eU.toArray Q E fL (bM.setIfInBounds j aF) c b) (a.put oj.dst undef) w):gF P md eU.toArray Q E (fL+1) bM a w:=by
 have F:eU.toArray[i]? =aN oi:=L1
 have d:eU.toArray[j]? =aN oj:=by rw[lZ]at h;simpa using h
 refine⟨λh0=>R8,λk hk=>?_⟩;rw[hr]at hk;unfold wpOp;rcases bh.1 hk with rfl | hk<;>simp_all
def ahj{bM}{a}{w}{fL}(r:Region.ready md ops bM=[])(h:Q .normal a w):gF P md ops Q E fL bM a w:=by
 cases fL with
 | zero=>exact⟨r,h⟩
 | succ n=>exact⟨λ_=>h,by rw[r];simp⟩
def eqA{id}{e:L Oper}{a}{w} E (m:P.follows .mixedOrders=aF)
  (h:gF P .any e.toArray Q E (qj e) (Array.replicate (qj e) aM) a w.drew):(Code.region id e.toArray aF).wp P Q a w:=by
 refine wp_region_any m (afp (E:=E) _ _ _ _ ?_);simpa using h
def EL(s:L (Nat×L Nat))(j:Nat)(w a:aw):Prop:=match s.lookup j with | some l=>cj l w a | none=>a.heap=w.heap
def ajk{ls}{i}(h:ls.lookup i=Pw) w:EL ls i w w:=by unfold EL;rw[h]
def acg{ls}{D N:L Nat}:∀j w a,j∉D->j∉N->True->EL ls j w a->True:=λ_ _ _ _ _ h _=>h
def kdN{s}{l} w w' (a:w'.heap[s.blk]? =w.heap[s.blk]?) (h:vW w s l):vW w' s l:=
 ⟨h.1,λb=>by
  obtain⟨ad,c,d⟩:=h.2 b;refine⟨ad,c,d.keep ?_⟩;simpa[Sl.blk,c]using a⟩
def afe{e:L Oper}{o}{v}{a}(g:Region.wanted o (yielded e.toArray a.tmps)=aF)(h:∀w,F w->(execOp a.eval o).run P w=.ok (.value v) w):YieldsIf P e.toArray F o v a:=.inl ⟨g,h⟩
def Hp{e:L Oper}{o}{a}(h:Region.wanted o (yielded e.toArray a.tmps)=aM):YieldsIf P e.toArray F o undef a:=.inr ⟨h,I⟩
end
def qO(x:Int):Prop:= -9223372036854775808<=x/\x<=9223372036854775807
def wr{x}(h:qO x):IntKind.i64.wrap x=x:=IntWalk.i64_in _ ⟨h.1,h.2⟩
def eS{x}(h: -9223372036854775808<=x)(a:x<=9223372036854775807):IntKind.i64.wrap x=x:=IntWalk.i64_in _ ⟨h,a⟩
def Wn x:qO (IntKind.i64.wrap x):=by
 rw[IntKind.wrap_i64];constructor<;>omega
abbrev Rp(a:Type):=aw->(Nat->Prop)->a->L ay->Prop
structure Rp.Ok {α:Type} (r:Rp α):Prop where
 keep:∀{w w':aw} {F:Nat->Prop} {x:α} {cs:List ay},r w F x cs->(∀k,F k->k<w.heap.size->w'.heap[k]? =w.heap[k]?)->r w' F x cs
 inHeap:∀{w:aw} {F:Nat->Prop} {x:α} {cs:List ay},r w F x cs->r w (λk=>F k/\k<w.heap.size) x cs
 mono:∀{w:aw} {F G:Nat->Prop} {x:α} {cs:List ay},r w F x cs->(∀k,F k->G k)->r w G x cs
 one:∀{w:aw} {F:Nat->Prop} {x:α} {cs:List ay},r w F x cs->∀v,v∈cs->v.oneCell'=aF
section
variable {α:Type} {r:Rp α} {size:Nat} {w w':aw} {F G:Nat->Prop} {s:Sl} {xs:L α}
structure SliceF (r:Rp α) (size:Nat) (w:aw) (F:Nat->Prop) (s:Sl) (xs:List α):Prop where
 len:s.n=qj xs
 cap:s.n<=s.c
 nil0:s.a=Pw->s.c=0
 big:s.c<=9223372036854775807
 at_:∀j x,xs[j]? =aN x->∃base cs,s.a=aN base/\F base.block/\qj cs=size/\Cells w (base.add (j*size)) cs/\r w F x cs
def oZ(a:Addr) n:(a.add n).block=a.block:=by unfold Addr.add;split<;>rfl
def rI(a:Addr) i j:(a.add i).add j=a.add (i+j):=by
 unfold Addr.add;by_cases h:i=0<;>by_cases b:j=0<;>simp[h,b,dA]
def spv(a:Addr):a.add 0=a:=rfl
def iK b o n:(⟨b,o,Pw⟩:Addr).add n=⟨b,o+n,Pw⟩:=by unfold Addr.add;split<;>simp_all
def Cells.sub{a}{cs vs}(h:Cells w a cs) k (c:∀j v,vs[j]? =aN v->cs[k+j]? =aN v):Cells w (a.add k) vs:=λj v b=>by
 rw[rI];exact h _ v (c j v b)
def Cells.dP{a}{cs}(b:Cells w a cs) k v (c:cs[k]? =aN v):Cells w (a.add k) [v]:=b.sub k λj u h=>by
 cases j with
 | zero=>simpa[c]using h
 | succ j=>simp at h
def SliceF.nil(r:Rp α) size w F:SliceF r size w F Sl.nil []:=⟨I,H _,λ_=>I,Z,λj x h=>Ux⟩
def Zn:=@SliceF.nil
def SliceF.keep(a:r.Ok)(h:SliceF r size w F s xs)(d:0<size)(hk:∀k,F k->k<w.heap.size->w'.heap[k]? =w.heap[k]?):SliceF r size w' F s xs:=
 ⟨h.len,h.cap,h.nil0,h.big,λj x b=>by
  obtain⟨s,e,k,f,g,i,l⟩:=h.at_ j x b;refine⟨s,e,k,f,g,i.keep ?_,a.keep l hk⟩;have W:(s.add (j*size)).block<w.heap.size:=by
   cases e with
   | nil=>simp at g;omega
   | cons c e=>exact i.lt
  rw[oZ]at W⊢;exact hk _ f W⟩
def Ic:=@SliceF.keep
def SliceF.mono(a:r.Ok)(h:SliceF r size w F s xs)(hk:∀k,F k->G k):SliceF r size w G s xs:=
 ⟨h.len,h.cap,h.nil0,h.big,λj x b=>by
  obtain⟨s,c,d,e,f,g,i⟩:=h.at_ j x b;exact⟨s,c,d,hk _ e,f,g,a.mono i hk⟩⟩
def UK:=@SliceF.mono
def SliceF.inHeap(a:r.Ok)(h:SliceF r size w F s xs)(d:0<size):SliceF r size w (λk=>F k/\k<w.heap.size) s xs:=
 ⟨h.len,h.cap,h.nil0,h.big,λj x b=>by
  obtain⟨s,e,i,k,f,g,l⟩:=h.at_ j x b;refine⟨s,e,i,⟨k,?_⟩,f,g,a.inHeap l⟩;have W:(s.add (j*size)).block<w.heap.size:=by
   cases e with
   | nil=>simp at f;omega
   | cons c e=>exact g.lt
  rwa[oZ]at W⟩
def WV:=@SliceF.inHeap
def SliceF.get(h:SliceF r size w F s xs){i:Int}(j:0<=i)(k:i<s.n):
  ∃ad x c,cK s i size ad/\xs[i.toNat]? =aN x/\F ad.block/\qj c=size/\Cells w ad c/\r w F x c:=by
 have l:=h.len;have W:i.toNat<qj xs:=J
 obtain⟨b,c,g,a,d,e,f⟩:=h.at_ i.toNat _ (aX W);exact⟨_,_,c,⟨b,g,j,k,I⟩,aX W,by rw[oZ];exact a,d,e,f⟩
def SliceF.mem(h:SliceF r size w F s xs){x}(b:x∈xs):∃c,r w F x c:=by
 obtain⟨d,j⟩:=gI b;obtain⟨_,c,_,_,_,_,a⟩:=h.at_ d x j;exact⟨c,a⟩
def cK.CZ{i}{a b}(h:cK s i size a)(k:cK s i size b):a=b:=by
 obtain⟨x,d,_,_,e⟩:=h;obtain⟨y,c,_,_,f⟩:=k;rw[d]at c;injection c with c;rw[e,f,c]
def Zk:=@cK.CZ
def SliceF.cut(a:SliceF r size w F s xs){lo hi m}(c:lo<=hi)(d:hi<=m)(e:hi<=s.n)(f:m<=s.c):SliceF r size w F (s.cut lo hi m size) ((xs.drop lo).take (hi-lo)):=by
 have l:=a.len;refine⟨?_,?_,λb=>?_,by have:=a.big;simp[Sl.cut];omega,λj x h=>?_⟩
 .simp[Sl.cut,ci,cD];omega
 .simp[Sl.cut];omega
 .simp[Sl.cut]at b⊢;split at b
  .omega
  have:=a.nil0 (by simpa using b);omega
 rw[yJ]at h;split at h
 .rw[iC]at h;obtain⟨s,g,i,k,m,n,o⟩:=a.at_ _ _ h;refine⟨s.add (lo*size),g,?_,by rw[oZ];exact k,m,?_,o⟩
  .simp[Sl.cut];rw[R J,i];rfl
  rw[rI,<-gY];exact n
 cases h
end
structure BytesF (w:aw) (F:Nat->Prop) (s:Sl) (l:List UInt8):Prop where
 rd:vW w s l
 cap:s.n<=s.c
 blk:∀ad,s.a=aN ad->l≠[]->F ad.block
section
variable {w w':aw} {F G:Nat->Prop} {s:Sl} {l:L UInt8}
def BytesF.nil w F:BytesF w F Sl.nil []:=⟨⟨I,λh=>absurd I h⟩,H _,λ_ _ h=>absurd I h⟩
def BytesF.mono(h:BytesF w F s l)(hk:∀k,F k->G k):BytesF w G s l:=⟨h.rd,h.cap,λad a b=>hk _ (h.blk ad a b)⟩
end
def iL{a:Type}(P:a->L ay->Prop):L a->L (L ay)->Prop
 | [],[]=>True
 | x::b,c::s=>P x c/\iL P b s
 | _,_=>False
section
variable {α:Type} {P Q:α->L ay->Prop}
def iL.len:∀{xs:L α} {css:L _},iL P xs css->qj xs=qj css
 | [],[],_=>rfl
 | x::xs,c::s,h=>by simp[iL.len (xs:=xs) (css:=s) h.2]
 | [],_::_,h=>h.elim
 | _::_,[],h=>h.elim
def iL.imp(h:∀x c,P x c->Q x c):∀{xs:L α} {css:L _},iL P xs css->iL Q xs css
 | [],[],_=>trivial
 | x::xs,c::s,a=>⟨h _ _ a.1,iL.imp h (xs:=xs) (css:=s) a.2⟩
 | [],_::_,a=>a.elim
 | _::_,[],a=>a.elim
def iL.wm:∀{xs y:L α} {css K:L _},iL P xs css->iL P y K->iL P (xs++y) (css++K)
 | [],_,[],_,_,k=>k
 | x::xs,_,c::s,_,h,k=>⟨h.1,iL.wm (xs:=xs) (css:=s) h.2 k⟩
 | [],_,_::_,_,h,_=>h.elim
 | _::_,_,[],_,h,_=>h.elim
def iL.get:∀{xs:L α} {css:L _},iL P xs css->∀{j:Nat} {x:α},xs[j]? =aN x->∃s,css[j]? =aN s/\P x s
 | [],[],_,j,x,h=>Ux
 | y::xs,c::s,k,0,x,h=>by
  simp at h;subst h;exact⟨c,I,k.1⟩
 | y::xs,c::s,k,j+1,x,h=>by
  exact iL.get (xs:=xs) (css:=s) k.2 h
 | [],_::_,h,_,_,_=>h.elim
 | _::_,[],h,_,_,_=>h.elim
def iL.mem:∀{xs:L α} {css:L _},iL P xs css->∀c,c∈css->∃x,P x c
 | [],[],_,c,h=>Ux
 | y::xs,d::s,k,c,h=>by
  rcases bh.1 h with rfl | h
  .exact⟨y,k.1⟩
  exact iL.mem (xs:=xs) (css:=s) k.2 c h
 | [],_::_,h,_,_=>h.elim
 | _::_,[],h,_,_=>h.elim
def iL.take:∀n {xs:L α} {css:L _},iL P xs css->iL P (xs.take n) (css.take n)
 | 0,_,_,_=>by simp[iL]
 | _+1,[],[],_=>by simp[iL]
 | n+1,x::xs,c::s,h=>by simp;exact⟨h.1,iL.take n (xs:=xs) (css:=s) h.2⟩
 | _,[],_::_,h=>h.elim
 | _,_::_,[],h=>h.elim
def iL.set:∀{xs:L α} {css:L _} j {x:α} {c:L ay},iL P xs css->P x c->iL P (xs.set j x) (css.set j c)
 | [],[],_,_,_,_,_=>by simp[iL]
 | y::xs,d::s,0,x,c,h,k=>⟨k,h.2⟩
 | y::xs,d::s,j+1,x,c,h,k=>⟨h.1,iL.set (xs:=xs) (css:=s) j h.2 k⟩
 | [],_::_,_,_,_,h,_=>h.elim
 | _::_,[],_,_,_,h,_=>h.elim
end
def D1{s:L (L ay)}{size}(h:∀c,c∈s->qj c=size):qj s.flatten=qj s*size:=by
 induction s<;>grind
def QH{s:L _}{size}(h:∀c,c∈s->qj c=size):∀{j i:Nat} {a:L ay} {v:ay},s[j]? =aN a->a[i]? =aN v->s.flatten[j*size+i]? =aN v:=by
 induction s with
 | nil=>intro j i a v b;simp at b
 | cons c a g=>
  intro j i d v f e;have b:=h c X;cases j<;>grind
def ach{s:L (L ay)}{size}(h:∀c,c∈s->qj c=size):∀n,s.flatten.take (n*size)=(s.take n).flatten:=by
 induction s with
 | nil=>intro n;simp
 | cons c a i=>
  intro n;cases n with
  | zero=>simp
  | succ n=>
   rw[fk,fF,fk,List.take_append,<-i (λd hd=>h d (by simp[hd])),h c X,show _*size-size=n*size by rw[gY];omega,bm Xd]
def yZ{cs}{o}{v}(h:o<qj cs):gD cs o [v]=cs.set o v:=by
 rw[gD,List.set_eq_take_append_cons_drop,K h];simp
def aiy{size}{tail}{i}{v}:∀{s:L _} {n:Nat} {a:L ay},(∀c,c∈s->qj c=size)->s[n]? =aN a->i<size->
  (s.flatten++tail).set (n*size+i) v=(s.set n (a.set i v)).flatten++tail
 | [],n,a,_,h,_=>by simp at h
 | c::s,0,a,h,n,i=>Xd
 | c::s,n+1,a,h,b,e=>by
  simp at b;simp;rw[tV _ _ Xd,h c X,show _*size+i-size=n*size+i by rw[gY];omega,aiy (tail:=tail) (v:=v) (λd hd=>h d (by simp[hd])) b e]
section
variable {w w':aw} {a:Addr} {cs ds:L ay}
def Cells.wm(c:Cells w a cs)(k:Cells w (a.add (qj cs)) ds):Cells w a (cs++ds):=λj v h=>by
 by_cases b:j<qj cs
 .rw[bZ b]at h;exact c j v h
 rw[ck J]at h;have:=k _ v h;rw[rI,show (qj cs)+_=j by omega]at this;exact this
def Cells.nil w a:Cells w a []:=λj v h=>by simp at h
end
section
variable {α:Type} {r:Rp α} {size:Nat} {w w':aw} {F G:Nat->Prop} {s y:Sl} {xs ys:L α} {e:TypeId} {B:Nat}
abbrev pR(r:Rp α)(size:Nat)(w:aw)(F:Nat->Prop):L α->L (L ay)->Prop:=iL λx c=>qj c=size/\r w F x c
def pR.sz{css}(h:pR r size w F xs css):∀c,c∈css->qj c=size:=λc b=>by
 obtain⟨_,a,_⟩:=h.mem c b;exact a
def pR.keep(b:r.Ok){css}(a:pR r size w F xs css)(hk:∀k,F k->k<w.heap.size->w'.heap[k]? =w.heap[k]?):pR r size w' F xs css:=
 a.imp λ_ _ h=>⟨h.1,b.keep h.2 hk⟩
def pR.mono(b:r.Ok){css}(a:pR r size w F xs css)(hk:∀k,F k->G k):pR r size w G xs css:=
 a.imp λ_ _ h=>⟨h.1,b.mono h.2 hk⟩
def pR.inHeap(b:r.Ok){css}(a:pR r size w F xs css):pR r size w (λk=>F k/\k<w.heap.size) xs css:=
 a.imp λ_ _ h=>⟨h.1,b.inHeap h.2⟩
def SliceF.ZG{base:Addr}:∀xs k,(∀j x,xs[j]? =aN x->∃s,qj s=size/\Cells w (base.add ((k+j)*size)) s/\r w F x s)->
  ∃c,pR r size w F xs c/\Cells w (base.add (k*size)) c.flatten
 | [],k,_=>⟨[],trivial,Cells.nil _ _⟩
 | x::xs,k,h=>by
  obtain⟨s,a,f,b⟩:=h 0 x I;obtain⟨c,d,e⟩:=SliceF.ZG xs _ (λj y hj=>by
   obtain⟨g,i,l,m⟩:=h (j+1) y S7;exact⟨g,i,by rw[show k+1+j=k+(j+1) by omega];exact l,m⟩)
  refine⟨s::c,⟨⟨a,b⟩,d⟩,?_⟩;refine Cells.wm J ?_;rw[rI,a,show k*size+size=(k+1)*size by rw[gY];omega];exact e
def SliceF.flat(h:SliceF r size w F s xs)(a:xs≠[]):∃b c,s.a=aN b/\F b.block/\pR r size w F xs c/\Cells w b c.flatten:=by
 cases xs with
 | nil=>exact absurd I a
 | cons x xs=>
  obtain⟨b,_,d,e,_⟩:=h.at_ 0 x I;obtain⟨c,g,k⟩:=SliceF.ZG (r:=r) (size:=size) (w:=w) (F:=F) (base:=b) _ 0 (λf y j=>by
   obtain⟨o,s,i,p,l,m,n⟩:=h.at_ f y j;rw[d]at i;injection i with i;subst i;exact⟨s,l,by simpa using m,n⟩)
  exact⟨b,c,d,e,g,by rw[Da]at k;exact k⟩
def SliceF.of{base}{css}(e:pR r size w F xs css)(b:s.a=aN base)(c:F base.block)(d:Cells w base css.flatten)(n:s.n=qj xs)(u:s.n<=s.c)(h:s.c<=9223372036854775807):SliceF r size w F s xs:=
 ⟨n,u,λa=>(by rw[b]at a;cases a),h,λj x f=>by
  obtain⟨s,g,i,k⟩:=e.get f;exact⟨base,s,b,c,i,λm v l=>by rw[rI];exact d _ v (QH e.sz g l),k⟩⟩
def Own(r:Rp α)(size:Nat)(e:TypeId)(B:Nat)(w:aw)(F:Nat->Prop)(s:Sl)(x:L α):Prop:=
 (s=Sl.nil/\x=[])∨∃g c tail,s.a=aN ⟨g,0,Pw⟩/\B<=g/\Blk w g e (c.flatten++tail)/\qj tail=(s.c-s.n)*size/\s.n=qj x/\s.n<=s.c/\s.c<=9223372036854775807/\pR r size w (λk=>F k/\k≠g) x c
def Own.len(h:Own r size e B w F s xs):s.n=qj xs:=by
 rcases h with⟨rfl,rfl⟩ | ⟨g,c,tail,_,_,_,_,h,_⟩<;>grind
def Own.cap(h:Own r size e B w F s xs):s.n<=s.c:=by
 rcases h with⟨rfl,rfl⟩ | ⟨g,c,tail,_,_,_,_,_,h,_,_⟩<;>grind
def Own.slice(l:r.Ok)(a:Own r size e B w F s xs):SliceF r size w (λk=>F k∨(B<=k/\s.a=aN ⟨k,0,Pw⟩)) s xs:=by
 rcases a with⟨rfl,rfl⟩ | ⟨m,c,tail,h,b,d,n,f,g,j,i⟩
 .exact Zn _ _ _ _
 exact SliceF.of (i.mono l λk hk=>.inl hk.1) h (.inr ⟨b,h⟩) (d.cells 0 _ λo v e=>Xd) f g j
def Own.keep(n:r.Ok)(d:Own r size e B w F s xs)(hk:∀k,(F k∨(B<=k/\s.a=aN ⟨k,0,Pw⟩))->k<w.heap.size->w'.heap[k]? =w.heap[k]?):Own r size e B w' F s xs:=by
 rcases d with⟨rfl,rfl⟩ | ⟨g,c,tail,h,a,b,f,i,j,m,l⟩
 .exact .inl ⟨I,I⟩
 exact .inr ⟨g,c,tail,h,a,(hk g (.inr ⟨a,h⟩) b.lt).trans b,f,i,j,m,l.keep n λk F=>hk k (.inl F.1)⟩
def Own.mono(n:r.Ok)(h:Own r size e B w F s xs)(hk:∀k,F k->G k):Own r size e B w G s xs:=by
 rcases h with⟨rfl,rfl⟩ | ⟨g,c,tail,a,b,d,f,i,j,m,l⟩
 .exact .inl ⟨I,I⟩
 exact .inr ⟨g,c,tail,a,b,d,f,i,j,m,l.mono n λk h=>⟨hk k h.1,h.2⟩⟩
def Own.low{B'}(h:Own r size e B w F s xs)(f:B'<=B):Own r size e B' w F s xs:=by
 rcases h with⟨rfl,rfl⟩ | ⟨g,c,tail,a,b,d⟩
 .exact .inl ⟨I,I⟩
 exact .inr ⟨g,c,tail,a,bB f b,d⟩
def Oq:=@Own.low
def Own.nil(r:Rp α) size e B w F:Own r size e B w F Sl.nil []:=.inl ⟨I,I⟩
def Yb:=@Own.nil
def Own.inHeap(a:r.Ok)(h:Own r size e B w F s xs):Own r size e B w (λk=>F k/\k<w.heap.size) s xs:=by
 rcases h with⟨rfl,rfl⟩ | ⟨g,c,tail,b,d,f,i,j,l,n,m⟩
 .exact .inl ⟨I,I⟩
 exact .inr ⟨g,c,tail,b,d,f,i,j,l,n,(m.inHeap a).mono a λk h=>⟨⟨h.1.1,h.2⟩,h.1.2⟩⟩
def Own.blk(a:Own r size e B w F s xs){ad}(h:s.a=aN ad):B<=ad.block/\ad.block<w.heap.size:=by
 rcases a with⟨rfl,rfl⟩ | ⟨g,c,tail,b,d,f,_⟩
 .cases h
 rw[b]at h;injection h with h;subst h;exact⟨d,f.lt⟩
def SliceF.ap5(h:SliceF r size w F s xs):∃c,pR r size w F xs c/\∀a,s.a=aN a->Cells w a c.flatten:=by
 cases xs with
 | nil=>exact⟨[],trivial,λb _=>Cells.nil _ _⟩
 | cons x xs=>
  obtain⟨a,c,b,d,e,f⟩:=h.flat X
  grind
def pR.NB{css}(h:pR r size w F xs css):qj css.flatten=qj xs*size:=by rw[D1 h.sz,h.len]
def pR.one(d:r.Ok){css}(a:pR r size w F xs css):∀v,v∈css.flatten->v.oneCell'=aF:=λv h=>by
 obtain⟨c,b,h⟩:=List.mem_flatten.1 h;obtain⟨x,_,e⟩:=a.mem c b;exact d.one e v h
def amo(l m:L ay) z:(l.toArray++m.toArray++z)=(l++m++z.toList).toArray:=by
 simp
section
variable {P:Program} {t ty:TypeId} {i:TypeInfo} {z:ay} {bytes:Nat}
def zQ(w:aw) k (N:z.cells.size=size):(Builtin.zeroCells z.cells k).toList.length=k*size:=by
 rw[wA,size_zeroCells,N]
def abY(A:P.underlying t=aN (.slice e))(q:P.info? e=aN i)(D:i.zero=aN z)(sD:i.size=size)(Z:i.bytes=bytes)(T:z.cells.size=size)
  (l:r.Ok) {a} (m:pR r size w F xs a) (E:∀d,s.a=aN d->Cells w d a.flatten) (B:s.a=Pw->s.c=0) (R:s.n=qj xs) (h:s.n<=s.c)
  (C:SliceF r size w F y ys) (u:s.c<s.n+y.n) (v:(qj xs+qj ys)*bytes<=140737488355328) (S:0<bytes):
  ∃p w',(Builtin.append_ #[t,t] ty #[s.v,y.v]).run P w=.ok p.v w'/\Own r size e w.heap.size w' F p (xs++ys)/\Only [] w w'/\p.a=aN ⟨w.heap.size,0,Pw⟩:=by
 subst sD;subst Z;have Y:=bB (by have:=Km (qj xs+qj ys) S;omega) v;have V:=C.len;have n:y.n≠0:=J
 have x:ys≠[]:=λj=>n (by rw[V,j];rfl);obtain⟨N,K,L,m2,o,M⟩:=C.flat x;obtain⟨sa,sn,sc⟩:=s;obtain⟨ya,f,Q⟩:=y;dsimp only at R h B V n u L E;subst L;have am:∀ia g,ia=sn+f->∀W,W=w.drew.alloc (.cells (a.flatten.toArray++K.flatten.toArray++Builtin.zeroCells z.cells (grownCap w ia g e-ia)) e)->
   Own r i.size e w.heap.size W F ⟨aN ⟨w.heap.size,0,Pw⟩,ia,grownCap w ia g e⟩ (xs++ys)/\Only [] w W:=by
  rintro ia g rfl W rfl;have b:Only [] w (w.drew.alloc (.cells (a.flatten.toArray++K.flatten.toArray++Builtin.zeroCells z.cells (grownCap w (sn+f) g e-(sn+f))) e)):=(Only.drew w).bU (X0 _ _);refine⟨.inr ⟨w.heap.size,a++K,(Builtin.zeroCells z.cells _).toList,I,H _,?_,zQ w _ T,?_,grownCap_ge _ _ _ _,grownCap_le_maxLen _ _ _ _ (by simp[maxLen];omega),?_⟩,b⟩
  .rw[amo,Kn];exact Yf w.drew e _
  .simp;omega
  refine((pR.mono l (pR.inHeap l (iL.wm m o)) (G:=λk=>F k/\k≠w.heap.size) λk j=>⟨j.1,J⟩)).keep l λk hk c=>b.block k c X
 rcases sa with _|b
 .have h:=B I;subst h;have b:sn=0:=J
  subst b;have k:=bL R.symm;subst k;cases a with
  | cons c a=>exact m.elim
  | nil=>
   have y:=run_append_nil (P:=P) w t ty e i z A q D N f Q K.flatten (by rw[o.NB,V]) M J J Xd
   grind
 have y:=run_append_grow (P:=P) w t ty e i z A q D b sn sc a.flatten (by rw[m.NB,R]) (E b I) N f Q K.flatten (by rw[o.NB,V]) M u J (growslice_fits u (by rw[R,V];exact v))
 grind
def ajo(A:P.underlying t=aN (.slice e))(q:P.info? e=aN i)(H:i.size=size)
  (z:r.Ok) {g} {css} {tail} (o:s.a=aN ⟨g,0,Pw⟩) (D:B<=g) (b:Blk w g e (css.flatten++tail)) (f:qj tail=(s.c-s.n)*size) (v:s.n=qj xs) (p:s.n<=s.c) (h:s.c<=9223372036854775807)
  (E:pR r size w (λk=>F k/\k≠g) xs css) (d:SliceF r size w (λk=>F k/\k≠g) y ys) (u:s.n+y.n<=s.c):
  ∃w',(Builtin.append_ #[t,t] ty #[s.v,y.v]).run P w=.ok (Sl.v ⟨s.a,s.n+y.n,s.c⟩) w'/\Own r size e B w' F ⟨s.a,s.n+y.n,s.c⟩ (xs++ys)/\Only [g] w w':=by
 subst H;have V:=d.len;obtain⟨Q,sn,sc⟩:=s;obtain⟨a,n,C⟩:=y;dsimp only at o v p f u V;subst o;obtain⟨K,m,G⟩:=d.ap5;have L:qj css.flatten=sn*i.size:=by rw[E.NB,v]
 have j:qj K.flatten=n*i.size:=by rw[m.NB,V]
 have N:sn*i.size+n*i.size<=sn*i.size+qj tail:=by
  rw[f,<-gY,<-gY];exact fS _ J
 have M:(Builtin.append_ #[t,t] ty #[.slice (aN ⟨g,0,Pw⟩) sn sc,.slice a n C]).run P w=
   .ok (.slice (aN ⟨g,0,Pw⟩) (sn+n) sc) (w.setRow g ((css.flatten++K.flatten)++tail.drop (n*i.size)).toArray):=by
  have k:((css.flatten++tail).toArray.toList.take (sn*i.size)++K.flatten++(css.flatten++tail).toArray.toList.drop (sn*i.size+qj K.flatten))=(css.flatten++K.flatten)++tail.drop (n*i.size):=by simp[mC,L,List.take_left,j,List.drop_append,Db,cd,dH]
  cases a with
  | some a=>
   have:=run_append_room (P:=P) w t ty e i A q g sn sc (css.flatten++tail).toArray b a n C K.flatten j (G a I) (m.one z) u Xd;rw[this,k]
  | none=>
   have r:ys=[]:=by
    cases ys with
    | nil=>rfl
    | cons x xs=>obtain⟨_,_,c,_⟩:=d.at_ 0 x I;cases c
   subst r;have y:=by simpa using V
   subst y;cases K with
   | cons c s=>exact m.elim
   | nil=>
    have c:w.setRow g ((css.flatten++([]).flatten)++tail.drop (0*i.size)).toArray=w:=by
     have:=setRow_self w g (css.flatten++tail).toArray e _ b;simpa using this
    rw[c];simp[Builtin.append_,run_underlying A,sizeOf,typeInfo,q,Builtin.lenOf,Builtin.firstCells,p,storeCells]
 have l:Only [g] w (w.setRow g ((css.flatten++K.flatten)++tail.drop (n*i.size)).toArray):=Nr _ _ _;refine⟨_,M,.inr ⟨g,css++K,tail.drop (n*i.size),I,D,?_,?_,?_,u,h,?_⟩,l⟩
 .rw[Kn];exact b.setRow _
 .rw[cD,f,<-Nat.sub_mul];congr 1;dsimp only;omega
 .grind
 exact pR.keep z (iL.wm E m) λk hk W=>l.block k W Y6
def tf(j:P.underlying t=aN (.slice e))(f:P.info? e=aN i)(o:i.zero=aN z)(D:i.size=size)(Z:i.bytes=bytes)(N:z.cells.size=size)
  (c:r.Ok) (d:Own r size e B w F s xs) (l:SliceF r size w (λk=>F k/\s.a≠aN ⟨k,0,Pw⟩) y ys) (m:B<=w.heap.size) (n:(qj xs+qj ys)*bytes<=140737488355328) (Q:0<bytes):
  ∃a w',(Builtin.append_ #[t,t] ty #[s.v,y.v]).run P w=.ok a.v w'/\Own r size e B w' F a (xs++ys)/\∃b,Only b w w'/\(∀g,g∈b->s.a=aN ⟨g,0,Pw⟩/\B<=g/\g<w.heap.size)/\(a.a=s.a∨a.a=aN ⟨w.heap.size,0,Pw⟩):=by
 by_cases u:s.n+y.n<=s.c
 .rcases d with⟨rfl,rfl⟩ | ⟨g,s,tail,e,i,p,q,r,t,x,v⟩
  .have h:=by simpa using u
   have k:=by have:=l.len;rw[h]at this;exact bL this.symm
   subst k;refine⟨Sl.nil,w,?_,.inl ⟨I,I⟩,[],Ib _ _,X,.inl I⟩;obtain⟨z,B,A⟩:=y;dsimp only at h;subst h;cases z<;>simp[Builtin.append_,run_underlying j,sizeOf,typeInfo,f,Builtin.lenOf,Builtin.firstCells,loadCells,loadCellsFrom]
  obtain⟨w',w,y,k3⟩:=ajo (ty:=ty) j f D c e i p q r t x v (l.mono c λk hk=>⟨hk.1,λh=>hk.2 (by rw[h,e])⟩) u;exact⟨_,w',w,y,[g],k3,λz F=>by simp at F;subst F;exact⟨e,i,p.lt⟩,.inl I⟩
 have R:=d.len;have q:=d.cap;have x:SliceF r size w F y ys:=l.mono c λk hk=>hk.1;have go:∀p,pR r size w F xs p->(∀i,s.a=aN i->Cells w i p.flatten)->(s.a=Pw->s.c=0)->
   ∃a w',(Builtin.append_ #[t,t] ty #[s.v,y.v]).run P w=.ok a.v w'/\Own r size e B w' F a (xs++ys)/\∃b,Only b w w'/\(∀g,g∈b->s.a=aN ⟨g,0,Pw⟩/\B<=g/\g<w.heap.size)/\(a.a=s.a∨a.a=aN ⟨w.heap.size,0,Pw⟩):=by
  intro p O S k3;obtain⟨a,w',h,k,v,M⟩:=abY (ty:=ty) j f o D Z N c O S k3 R q x J n Q;exact⟨a,w',h,k.low m,[],v,X,.inr M⟩
 rcases d with⟨rfl,rfl⟩ | ⟨g,p,tail,z,E,A,G,H,K,L,C⟩
 .exact go [] trivial (λ_ h=>Ue) (λ_=>I)
 refine go p (C.mono c λk hk=>hk.1) (λi e=>?_) (λh=>by rw[z]at h;cases h);rw[z]at e;injection e with e;subst e;exact A.cells 0 _ λs v r=>by
  rw[bR,bZ (bc.1 r).1];exact r
def xCM w (b:P.underlying t=aN (.slice e)) (a:P.info? e=aN i):(Instr.buildSlice t 0 #[]).run P w=.ok (.slice (aN ⟨w.heap.size,0,Pw⟩) 0 0) (w.alloc (.cells #[] e)):=by
 have h:Array.map (λ_=>(default:ay)) (Array.range 0)=#[]:=Array.ext' X;simp[Instr.buildSlice,run_underlying b,sizeOf,typeInfo,a,Instr.fill,newRow,h]
def iU(f:P.underlying t=aN (.slice e))(c:P.info? e=aN i)(j:i.zero=aN z)(D:i.size=size)(h:0<size){vs:L ay}{len}{parts}
  (p:parts=((vs.zipIdx 0).map λx=>(x.2,x.1)).toArray) (d:qj vs=len) (l:0<len) (V:len*size<=16777216)
  (a:r.Ok) (E:pR r size w F xs (vs.map λv=>v.cells.toList)):
  ∃s w',(Instr.buildSlice t len parts).run P w=.ok (Sl.v s) w'/\Own r size e w.heap.size w' F s xs/\Only [] w w'/\s.a=aN ⟨w.heap.size,0,Pw⟩/\s.n=qj xs/\s.c=qj xs:=by
 subst D;subst p;subst d;have S:=by have:=E.len;rwa[bH]at this
 have b:=λv g=>by
  have:=E.sz _ (eo.2 ⟨v,g,I⟩);simpa using this
 have y:=run_buildSlice (P:=P) w t e (qj vs) ((vs.zipIdx 0).map λx=>_).toArray (vs.flatMap λv=>v.cells.toList).toArray i z f c j J
  (by have:=Nat.mul_lt_mul_of_pos_left h l;omega)
  (by rw[mC];exact Go.Great.fill_whole h vs _ b X)
 have O:Only [] w (w.alloc (.cells (vs.flatMap λv=>v.cells.toList).toArray e)):=X0 _ _;refine⟨⟨aN _,qj vs,qj vs⟩,_,y,.inr ⟨w.heap.size,vs.map (λv=>v.cells.toList),[],I,H _,?_,X,S.symm,H _,?_,?_⟩,O,I,S.symm,S.symm⟩
 .rw[bC];exact Yf w e _
 .have:qj vs<=qj vs*i.size:=Nat.le_mul_of_pos_right _ h;dsimp only;omega
 exact((pR.mono a (pR.inHeap a E) (G:=λk=>F k/\k≠w.heap.size) λk e=>⟨e.1,J⟩)).keep a λk hk W=>O.block k W X
end
end
def ma:Rp UInt8:=λ_ _ b c=>c=[jc b]
def tZ:ma.Ok where
 keep h _:=h
 inHeap h:=h
 mono h _:=h
 one h v hv:=by
  rw[show _=[jc _]from h]at hv;simp at hv;subst hv;rfl
def BytesF.slice{w}{F}{s}{l}(h:BytesF w F s l)(a:s.a=Pw->s.c=0)(b:s.c<=9223372036854775807):SliceF ma 1 w F s l:=
 ⟨h.rd.1,h.cap,a,b,λj x hx=>by
  have d:l≠[]:=λe=>by rw[e]at hx;simp at hx
  obtain⟨ad,c,f⟩:=h.rd.2 d;exact⟨ad,[jc x],c,h.blk ad c d,I,by rw[vV];exact f.dP j _ ui,I⟩⟩
def SliceF.bytes{w}{F}{s}{l}(h:SliceF ma 1 w F s l):BytesF w F s l:=
 ⟨⟨h.len,λa=>by
  obtain⟨e,s,d,f,g,i⟩:=h.flat a;refine⟨e,d,?_⟩;have:∀l s,pR ma 1 w F l s->s.flatten=l.map jc:=by
   intro l
   induction l with
   | nil=>intro s h;cases s with
    | nil=>rfl
    | cons c b=>exact h.elim
   | cons b l k=>intro s h;cases s with
    | nil=>exact h.elim
    | cons c m=>
     obtain⟨⟨_,d⟩,f⟩:=h;rw[fk,k m f,show c=[jc b]from d];rfl
  rw[<-this l s g];exact i⟩,h.cap,λad j a=>by
   obtain⟨e,s,d,f,_⟩:=h.flat a;rw[j]at d;injection d with d;rw[d];exact f⟩
def pR.bytes{w}{F G}{l}{css}(h:pR ma 1 w F l css):pR ma 1 w G l css:=iL.imp (λ_ _ h=>h) h
def Own.bytes{w}{F G}{e}{B}{s}{l}(h:Own ma 1 e B w F s l):Own ma 1 e B w G s l:=by
 rcases h with h | ⟨g,c,tail,a,b,d,f,i,j,m,k⟩
 .exact .inl h
 exact .inr ⟨g,c,tail,a,b,d,f,i,j,m,pR.bytes k⟩
def rInt:Rp Int:=λ_ _ x c=>c=[.int .i64 x]/\qO x
def bO:rInt.Ok where
 keep h _:=h
 inHeap h:=h
 mono h _:=h
 one h v hv:=by
  rw[h.1]at hv;simp at hv;subst hv;rfl
structure OnlyP (F:Nat->Prop) (w w':aw):Prop where
 os:w'.os=w.os
 tape:w'.tape=w.tape
 output:w'.output=w.output
 size:w.heap.size<=w'.heap.size
 block:∀k,k<w.heap.size->¬F k->w'.heap[k]? =w.heap[k]?
section
variable {w w' wo:aw} {F G:Nat->Prop} {bs:L Nat}
def Only.p(h:Only bs w w')(a:∀b,b∈bs->F b∨w.heap.size<=b):OnlyP F w w':=
 ⟨h.os,h.tape,h.output,h.size,λk hk n=>h.block k hk λm=>(a k m).elim n λh=>J⟩
def Only.p0(h:Only [] w w'):OnlyP F w w':=h.p X
def OnlyP.refl F w:OnlyP F w w:=(Ib [] w).p0
def YW:=@OnlyP.refl
def OnlyP.mono(h:OnlyP F w w')(b:∀k,k<w.heap.size->F k->G k):OnlyP G w w':=⟨h.os,h.tape,h.output,h.size,λk hk n=>h.block k hk λf=>n (b k hk f)⟩
def OnlyP.trans(h:OnlyP F w w')(k:OnlyP G w' wo)(b:∀k,G k->F k∨w.heap.size<=k):OnlyP F w wo:=
 ⟨k.os.trans h.os,k.tape.trans h.tape,k.output.trans h.output,bB h.size k.size,λi a n=>
  (k.block i (cq a h.size) λg=>(b i g).elim n λh=>J).trans (h.block i a n)⟩
def OnlyP.bU(h:OnlyP F w w')(k:Only [] w' wo):OnlyP F w wo:=h.trans (k.p0 (F:=λ_=>False)) λ_ h=>h.elim
def Only.nP(h:Only [] w w')(k:OnlyP F w' wo):OnlyP F w wo:=(h.p0 (F:=F)).trans k λ_ h=>.inl h
def OnlyP.only(h:OnlyP F w w')(b:∀k,F k->w.heap.size<=k):Only [] w w':=
 ⟨h.os,h.tape,h.output,h.size,λk hk _=>h.block k hk λf=>by have:=b k f;omega⟩
def OnlyP.ap6(h:OnlyP F w w')(b:∀k,F k->k∈bs∨w.heap.size<=k):Only bs w w':=
 ⟨h.os,h.tape,h.output,h.size,λk hk n=>h.block k hk λf=>(b k f).elim n λh=>J⟩
def OnlyP.same(b:OnlyP F w w')(h:∀x,x∈bs->x<w.heap.size/\¬F x):cj bs w w':=λx a=>b.block x (h x a).1 (h x a).2
def OnlyP.blk(a:OnlyP F w w'){b}{t}{cs}(h:Blk w b t cs)(n:¬F b):Blk w' b t cs:=(a.block b h.lt n).trans h
end
section
variable {α:Type} {r:Rp α} {size:Nat} {w w':aw} {F G:Nat->Prop} {s:Sl} {xs:L α} {e:TypeId} {B:Nat} {bs:L Nat}
def SliceF.only(e:r.Ok)(a:0<size)(h:SliceF r size w F s xs)(O:Only bs w w')(d:∀k,F k->k<w.heap.size->k∉bs):SliceF r size w' F s xs:=
 h.keep e a λk c b=>O.block k b (d k c b)
def Wg:=@SliceF.only
def SliceF.mP(e:r.Ok)(a:0<size)(h:SliceF r size w F s xs)(O:OnlyP G w w')(d:∀k,F k->k<w.heap.size->¬G k):SliceF r size w' F s xs:=
 h.keep e a λk c b=>O.block k b (d k c b)
def U6:=@SliceF.mP
def Rp.Ok.only(d:r.Ok){x}{cs}(h:r w F x cs)(O:Only bs w w')(c:∀k,F k->k<w.heap.size->k∉bs):r w' F x cs:=d.keep h λk a b=>O.block k b (c k a b)
def ahl{s}(h:SliceF r size w F s xs)(a:s.a=Pw):xs=[]:=by
 have b:=h.nil0 a;have c:=h.cap;have d:=h.len;simp_all
def pR.at(h:∃c,pR r size w F xs c):True:=trivial
def pR.setAt{css}(h:pR r size w F xs css) j {x} {c} (a:qj c=size) (b:r w F x c):pR r size w F (xs.set j x) (css.set j c):=iL.set j h ⟨a,b⟩
def aaf{s:L _}{tail}:∀{n:Nat} {a v:L ay},(∀c,c∈s->qj c=size)->s[n]? =aN a->qj v=size->
  gD (s.flatten++tail) (n*size) v=(s.set n v).flatten++tail:=by
 induction s with
 | nil=>intro n a v _ h;simp at h
 | cons c s i=>
  intro n a v h b f;have g:=h c X;cases n with
  | zero=>
   simp[gD];simp_all
  | succ n=>
   have:=i (λd hd=>h d (by simp[hd])) b f;have e:(n+1)*size=qj c+n*size:=Xd
   simp only[gD]at this⊢;simp;rw[e,ab5,dA,<-this];simp
end
section
variable {α:Type} {r:Rp α} {size:Nat} {w w':aw} {F G:Nat->Prop} {s:Sl} {xs:L α} {e:TypeId} {B:Nat} {P:Program} {t ty:TypeId} {i:TypeInfo} {z v:ay} {bytes:Nat} {x:α}
def kx(p:P.underlying t=aN (.slice e))(o:P.info? e=aN i)(q:i.zero=aN z)(D:i.size=size)(S:i.bytes=bytes)(N:z.cells.size=size)(J:0<size)(Q:0<bytes)(V:1*size<=16777216)
  (h:r.Ok) (m:Own r size e B w F s xs) (K:B<=w.heap.size) (M:qj v.cells.toList=size) (O:r w G x v.cells.toList) (n:∀k,G k->k<w.heap.size->F k/\s.a≠aN ⟨k,0,Pw⟩) (L:(qj xs+1)*bytes<=140737488355328):
  ∃y a,(Instr.buildSlice t 1 #[(0,v)]).run P w=.ok (Sl.v y) a/\Only [] w a/\∃b c,(Builtin.append_ #[t,t] ty #[Sl.v s,Sl.v y]).run P a=.ok (Sl.v b) c/\
   Own r size e B c (λk=>F k∨w.heap.size<=k) b (xs++[x])/\(∃d,Only d a c/\∀g,g∈d->s.a=aN ⟨g,0,Pw⟩/\B<=g/\g<w.heap.size)/\(b.a=s.a∨∃g,b.a=aN ⟨g,0,Pw⟩/\w.heap.size<=g):=by
 obtain⟨y,a,T,U,k3,Y,k5,k6⟩:=iU (P:=P) (t:=t) (e:=e) (i:=i) (z:=z) (w:=w) (F:=λk=>G k/\k<w.heap.size) (vs:=[v]) (parts:=#[_]) (len:=1) (xs:=[x]) (r:=r) (size:=size) p o q D J I I Z V h ⟨⟨M,h.inHeap O⟩,trivial⟩;have C:Own r size e B a (λk=>F k∨w.heap.size<=k) s xs:=((m.inHeap h).keep h λk _ W=>k3.block k W X).mono h λk hk=>.inl hk.1;have R:=(U.slice h).mono h (G:=λk=>(F k∨w.heap.size<=k)/\s.a≠aN _) λk hk=>by
  rcases hk with⟨hk,W⟩ | ⟨hk,_⟩
  .exact⟨.inl (n k hk W).1,(n k hk W).2⟩
  exact⟨.inr hk,λe=>by have:=(m.blk e).2;dsimp only at this;omega⟩
 obtain⟨b,c,u,A,d,E,f,H⟩:=tf (ty:=ty) p o q D S N h C R (bB K k3.size) L Q;refine⟨y,a,T,k3,b,c,u,A,⟨d,E,λg l=>⟨(f g l).1,(f g l).2.1,(m.blk (f g l).1).2⟩⟩,?_⟩;rcases H with j | j
 .exact .inl j
 exact .inr ⟨_,j,k3.size⟩
def Own.store(a:r.Ok)(o:Own r size e B w F s xs){n}(m:n<qj xs){x}{vs}(v:qj vs=size)(p:r w G x vs)(u:∀k,G k->k<w.heap.size->F k/\s.a≠aN ⟨k,0,Pw⟩)(q:0<size):
  ∃g cells,s.a=aN ⟨g,0,Pw⟩/\cK s n size ⟨g,n*size,Pw⟩/\Blk w g e cells/\n*size+size<=qj cells/\
   ∀w',Only [g] w w'->Blk w' g e (gD cells (n*size) vs)->Own r size e B w' F s (xs.set n x):=by
 rcases o with⟨rfl,rfl⟩ | ⟨g,c,tail,b,d,f,i,t,j,l,h⟩
 .simp at m
 have K:=h.len;have e:n<qj c:=J
 have V:=D1 h.sz;have s:=by
  have:=fS size (show n+1<=(qj c) by omega);rw[gY]at this;omega
 refine⟨g,_,b,⟨_,b,J,J,by rw[iK,ba,bR]⟩,f,Xd,λw' O r=>.inr ⟨g,c.set n vs,tail,b,d,?_,i,Xd,j,l,?_⟩⟩
 .rw[aaf h.sz (aX e) v]at r;exact r
 refine pR.setAt (h.keep a λk hk W=>O.block k W Y6) n v (a.keep (w:=w) (F:=λk=>F k/\k≠g) ?_ λk hk W=>O.block k W Y6);refine a.mono (a.inHeap p) λk hk=>?_
 grind
def aag(b:P.underlying t=aN (.slice e))(h:P.info? e=aN i)(r:Rp α) size w F:
  ∃y a,(Instr.buildSlice t 0 #[]).run P w=.ok (Sl.v y) a/\Own r size e w.heap.size a F y []/\Only [] w a:=
 ⟨⟨aN _,0,0⟩,_,xCM w b h,.inr ⟨w.heap.size,[],[],I,H _,Yf w e [],X,I,H _,bf _,trivial⟩,X0 _ _⟩
end
def Own.ap7{α}{r}{size}{w}{F}{s}{xs}{e}{B}(b:r.Ok)(p:Own r size e B w F s xs){n:Nat}{x:α}(f:xs[n]? =aN x):
  ∃g cells c,s.a=aN ⟨g,0,Pw⟩/\cK s n size ⟨g,n*size,Pw⟩/\Blk w g e cells/\qj c=size/\Cells w ⟨g,n*size,Pw⟩ c/\r w (λk=>F k/\k≠g) x c/\
   ∀off v y G,off<size->r w G y (c.set off v)->(∀k,G k->k<w.heap.size->F k/\k≠g)->
    n*size+off+1<=qj cells/\∀k,Only [g] w k->Blk k g e (gD cells (n*size+off) [v])->Own r size e B k F s (xs.set n y):=by
 rcases p with⟨rfl,rfl⟩ | ⟨g,a,tail,d,j,i,l,q,m,o,h⟩
 .simp at f
 obtain⟨c,r,w,k3⟩:=h.get f;have K:=h.len;have z:=(bc.1 f).1;have V:=D1 h.sz;have B:=by
  have:=fS size (show n+1<=(qj a) by omega);rw[gY]at this;omega
 refine⟨g,_,c,d,⟨_,d,J,J,by rw[iK,ba,bR]⟩,i,w,i.cells _ _ λA v s=>?_,k3,λoff v y x t u G=>⟨Xd,λC O e=>.inr ⟨g,a.set n (c.set off v),tail,d,j,?_,l,Xd,m,o,?_⟩⟩⟩
 .have:=QH h.sz r s
  grind
 .rw[yZ Xd,aiy h.sz r t]at e;exact e
 refine pR.setAt (h.keep b λk hk W=>O.block k W Y6) n Xd ?_;refine b.mono (b.keep (b.inHeap u) λk hk W=>O.block k W Xd) λk hk=>G k hk.1 hk.2
def iL.ap8{α β}{P}{f:α->β}:∀{xs:L α} {css:L _},iL P (xs.map f) css↔iL (λx s=>P (f x) s) xs css
 | [],[]=>Iff.rfl
 | x::xs,c::s=>by simp[iL,iL.ap8 (xs:=xs) (css:=s)]
 | [],_::_=>Iff.rfl
 | _::_,[]=>Iff.rfl
def iL.ZH{α}{P Q}:∀{xs:L α} {css:L _},(∀x c,x∈xs->P x c->Q x c)->iL P xs css->iL Q xs css
 | [],[],_,_=>trivial
 | x::xs,c::s,i,h=>⟨i _ _ X h.1,iL.ZH (xs:=xs) (css:=s) (λy d hy=>i y d Bh) h.2⟩
 | [],_::_,_,h=>h.elim
 | _::_,[],_,h=>h.elim
def Own.map{α β}{r:Rp α}{q:Rp β}{size}{w}{F G}{s}{xs}{e}{B} f (h:Own r size e B w F s xs) (p:∀g x b,x∈xs->r w (λk=>F k/\k≠g) x b->q w (λk=>G k/\k≠g) (f x) b):Own q size e B w G s (xs.map f):=by
 rcases h with⟨rfl,rfl⟩ | ⟨g,a,tail,d,i,j,l,t,m,o,n⟩
 .exact .inl ⟨I,I⟩
 exact .inr ⟨g,a,tail,d,i,j,l,Xd,m,o,iL.ap8.2 (iL.ZH (λx c f e=>⟨e.1,p g x c f e.2⟩) n)⟩
section
variable {P:Program} {w:aw}
def abz{z}(e:∀v,v∈z->v.oneCell'=aF)(a:0<z.size) n:∀v,v∈(Builtin.zeroCells z n).toList->v.oneCell'=aF:=λv d=>by
 have h:=J
 simp[Builtin.zeroCells]at h;obtain⟨i,c,rfl⟩:=h;have b:i % z.size<z.size:=NZ _ a
 grind
def xKQ{t e ty}{z}(f:P.underlying t=aN (.slice e))(i:∀w,(zeroValue e).run P w=.ok z w)(a:∀v,v∈z.cells->v.oneCell'=aF)(h:0<z.cells.size){g o n c}{bt}{cs}(j:0<n)
  (b:Blk w g bt cs) (V:o+n*z.cells.size<=qj cs):
  (Builtin.clear_ #[t] ty #[.slice (aN ⟨g,o,Pw⟩) n c]).run P w=.ok (.tuple #[]) (w.setRow g (cs.take o++(Builtin.zeroCells z.cells n).toList++cs.drop (o+n*z.cells.size)).toArray):=by
 have d:(Builtin.zeroCells z.cells n).toList.length=n*z.cells.size:=by rw[wA,size_zeroCells]
 have l:=run_storeCells_at P g o bt (Builtin.zeroCells z.cells n).toList 0 cs.toArray w b Xd (abz a h n);simp[d]at l;obtain⟨m,rfl⟩:∃m,n=m+1:=⟨n-1,J⟩
 simp[Builtin.clear_,run_underlying f,i,l]
def Own.clear{α}{r:Rp α}{size}{F}{s}{xs}{e}{B}{t ty}{z}(y:r.Ok)(E:0<size)(C:P.underlying t=aN (.slice e))(D:∀w,(zeroValue e).run P w=.ok z w)(u:∀v,v∈z.cells->v.oneCell'=aF)(N:z.cells.size=size)
  (A:Own r size e B w F s xs) {i} (x:i<qj xs):
  ∃d g,(Builtin.clear_ #[t] ty #[Sl.v (Sl.cut s i s.n s.c size)]).run P w=.ok (.tuple #[]) d/\s.a=aN ⟨g,0,Pw⟩/\Only [g] w d/\Own r size e B d F (Sl.cut s 0 i s.c size) (xs.take i):=by
 rcases A with⟨rfl,rfl⟩ | ⟨g,a,tail,f,p,h,j,l,q,m,b⟩
 .simp at x
 obtain⟨B,sn,sc⟩:=s;dsimp only at f j l q m;subst f;have V:=b.NB;have Z:Sl.cut ⟨aN ⟨g,0,Pw⟩,sn,sc⟩ i sn sc size=⟨aN ⟨g,i*size,Pw⟩,sn-i,sc-i⟩:=by
  simp[Sl.cut];rw[R J];simp[iK]
 have v:i*size+(sn-i)*size=sn*size:=by rw[<-gY];congr 1;omega
 have O:=Nr w g (((a.flatten++tail).take (i*size)++(Builtin.zeroCells z.cells (sn-i)).toList++(a.flatten++tail).drop (i*size+(sn-i)*z.cells.size)).toArray);refine⟨_,g,by rw[Z];exact xKQ (P:=P) (w:=w) (t:=t) (ty:=ty) C D u J (g:=g) (o:=i*size) (n:=sn-i) (c:=sc-i) J h Xd,I,O,?_⟩;have e:Sl.cut ⟨aN ⟨g,0,Pw⟩,sn,sc⟩ 0 i sc size=⟨aN ⟨g,0,Pw⟩,i,sc⟩:=by simp[Sl.cut,Addr.add]
 rw[e];have S:(a.flatten++tail).take (i*size)=(a.take i).flatten:=by
  rw[Wd Xd,ach b.sz]
 refine .inr ⟨g,a.take i,(Builtin.zeroCells z.cells (sn-i)).toList++(a.flatten++tail).drop (i*size+(sn-i)*z.cells.size),I,p,?_,?_,?_,KQ,m,?_⟩
 .have:=h.setRow ((a.flatten++tail).take (i*size)++(Builtin.zeroCells z.cells (sn-i)).toList++(a.flatten++tail).drop (i*size+(sn-i)*z.cells.size))
  grind
 .simp only[aP,cD,V,<-l,wA,size_zeroCells,j,N,v];rw[dH,<-gY];congr 1;omega
 .rw[ci];dsimp only;omega
 refine pR.keep y (iL.take i b) λk hk W=>O.block k W Y6
end
def aff l m:((⟨List.toArray l⟩:ByteArray).toList==(⟨List.toArray m⟩:ByteArray).toList)=YR (l=m):=by
 by_cases h:l=m<;>simp[h]
end Go.Kt
namespace Go.Kt
open Go renaming World->aw,Value->ay
open Go Go.RowKit Go.MapKept
structure MapI (w:aw) (r:Nat) (m:Int->Option Int):Prop where
 mem:∃es clock,w.heap[r]? =aN (.map es clock)/\(∀x,x∈es.toList->∃k v,x.key=.int .i64 k/\x.val=.int .i64 v)/\es.toList.Pairwise (λx y=>x.key≠y.key)/\
  ∀k v,m k=aN v↔∃x,x∈es.toList/\x.key=.int .i64 k/\x.val=.int .i64 v
section
variable {P:Program} {w w':aw} {r:Nat} {m:Int->Option Int} {mty kt et:TypeId}
def MapI.keep(h:MapI w r m)(hk:w'.heap[r]? =w.heap[r]?):MapI w' r m:=by
 obtain⟨e,c,a,b⟩:=h.mem;exact⟨e,c,hk.trans a,b⟩
def MapI.lt(h:MapI w r m):r<w.heap.size:=by
 obtain⟨e,c,a,b⟩:=h.mem;exact(oK.1 a).1
def MapI.only(h:MapI w r m){bs}(O:Only bs w w')(n:r∉bs):MapI w' r m:=h.keep (O.block r h.lt n)
def aeM{w}{r}{o o'}(h:w.heap[r]? =aN o):Only [r] w {w with heap:=w.heap.setIfInBounds r o'}:=
 ⟨I,I,I,X,λk _ hn=>(heap_set h).2 k H7⟩
def msN{a:Type}{l:L a}{j}{f}{e}(h:l[j]? =aN e):l.modify j f=l.set j (f e):=by
 apply oa;intro i;rw[List.getElem?_modify,QC];by_cases y:j=i
 .subst y;rw[K I,K (bc.1 h).1,h];simp
 cases l[i]? <;>simp[y]
end
end Go.Kt
namespace Go.Kt
open Go renaming World->aw,Value->ay
open Go Go.RowKit
@[reducible] def T(l:List UInt8):ByteArray:=⟨l.toArray⟩
def K4(s:ByteArray):s=T s.data.toList:=by
 obtain⟨⟨l⟩⟩:=s;rfl
def cJ(l:L UInt8):(T l).size=qj l:=by simp[T,ByteArray.size]
def oc(l:L UInt8)(i:Nat):(T l)[i]? =l[i]? :=by
 by_cases h:i<qj l
 .rw[aX h,getElem?_pos (T l) i (by rw[cJ];exact h)];rfl
 rw[cW J,getElem?_neg (T l) i (by rw[cJ];exact h)]
def wG(l:L UInt8)(a b:Nat):(T l).extract a b=T ((l.drop a).take (b-a)):=by
 rw[K4 ((T l).extract a b),Lib.extract_data]
def fz(l m:L UInt8):T l++T m=T (l++m):=by
 apply ByteArray.ext;simp[T]
def ji(l m:L UInt8):((T l).toList==(T m).toList)=YR (l=m):=aff l m
def yt(u:Nat->ay):L (Nat×ay)->Nat->ay
 | [],i=>u i
 | (k,v)::r,i=>bif Nat.beq k i then v else yt u r i
def Cq:L (Nat×ay)->Nat->Option ay
 | [],_=>Pw
 | (k,v)::r,i=>bif Nat.beq k i then aN v else Cq r i
def UC(u:Nat->ay)(l:L (Nat×ay)):Nat->Nat->L ay
 | 0,_=>[]
 | n+1,i=>yt u l i::UC u l n (i+1)
def fr(n:Nat)(u:Nat->ay)(l:L (Nat×ay)):Act:=⟨(UC u l n 0).toArray,[]⟩
def evO(n:Nat)(l:L (Nat×ay)):Operand->Option ay
 | .tmp k=>bif Nat.blt k n then Cq l k else Pw
 | .const v=>aN v
 | .global g=>aN (.pointer (aN ⟨g,0,Pw⟩))
 | .func f=>aN (.func (.func f) #[] #[])
def pl:Option Tmp->ay->L (Nat×ay)->L (Nat×ay)
 | some k,v,l=>(k,v)::l
 | none,_,l=>l
def Ig:Nat->L ay->L (Nat×ay)
 | _,[]=>[]
 | i,v::r=>(i,v)::Ig (i+1) r
section
variable {n0:Nat} {us0:Nat->ay} {l0:L (Nat×ay)}
def qY(u:Nat->ay)(l:L (Nat×ay)):∀n i,qj (UC u l n i)=n
 | 0,_=>rfl
 | n+1,i=>by simp only[UC,aZ,qY u l n (i+1)]
def pS(u:Nat->ay)(l:L (Nat×ay)):∀n i k,k<n->(UC u l n i)[k]? =aN (yt u l (i+k))
 | 0,_,_,h=>J
 | n+1,i,0,_=>rfl
 | n+1,i,k+1,h=>by
  simp only[UC,dI];rw[pS u l n (i+1) k J,show i+1+k=i+(k+1) by omega]
def xK{u:Nat->ay}:∀{l:L (Nat×ay)} {k:Nat} {v:ay},Cq l k=aN v->yt u l k=v
 | [],_,_,h=>Ue
 | (j,a)::r,k,v,h=>by
  simp only[Cq,yt]at h⊢;cases b:Nat.beq j k
  .rw[b]at h;exact xK (l:=r) U3
  rw[b]at h;simpa using h
def Ih{u:Nat->ay}:∀{l:L (Nat×ay)} {k:Nat},Cq l k=Pw->yt u l k=u k
 | [],_,_=>rfl
 | (j,a)::r,k,h=>by
  simp only[Cq,yt]at h⊢;cases b:Nat.beq j k
  .rw[b]at h;exact Ih (l:=r) U3
  rw[b]at h;simp at h
def acK{k:Nat}(hk:k<n0):(fr n0 us0 l0).eval (.tmp k)=yt us0 l0 k:=by
 show(UC us0 l0 n0 0).toArray.getD k undef=_;rw[Array.getD_eq_getD_getElem?,tW,pS _ _ _ _ _ hk,bR];rfl
def evE{x:Operand}{v:ay}(h:evO n0 l0 x=aN v):(fr n0 us0 l0).eval x=v:=by
 cases x with
 | tmp k=>
  simp only[evO]at h;cases b:Nat.blt k n0
  .rw[b]at h;cases h
  rw[b]at h;rw[acK (dz b)];exact xK h
 | const u=>simpa[evO,Act.eval]using h
 | global g=>simpa[evO,Act.eval]using h
 | func f=>simpa[evO,Act.eval]using h
def acz{u:Nat->ay}{l:L (Nat×ay)}{k i:Nat}{v:ay}(h:k≠i):yt u ((k,v)::l) i=yt u l i:=by
 have:Nat.beq k i=aM:=by
  cases b:Nat.beq k i
  .rfl
  exact absurd (dh b) h
 simp only[yt,this,cond_false]
def zT{u:Nat->ay}{l:L (Nat×ay)}{k:Nat}{v:ay}:yt u ((k,v)::l) k=v:=by
 simp only[yt,Nat.beq_refl,cond_true]
def amp{k:Nat}{v:ay}:(fr n0 us0 l0).put (aN k) v=fr n0 us0 ((k,v)::l0):=by
 unfold fr;rw[abX];congr 2;apply oa;intro i;rw[QC,qY];by_cases h:i<n0
 .rw[pS _ _ _ _ _ h,pS _ _ _ _ _ h,bR];split
  .rename_i a;subst a;rw[K h,zT]
  rename_i a;rw[acz a]
 rw[cW (by rw[qY];omega),cW (by rw[qY];omega)];split
 .rename_i a;subst a;rw[R h]
 rfl
def auj{d:Option Tmp}{v:ay}:(fr n0 us0 l0).put d v=fr n0 us0 (pl d v l0):=by
 rcases d with _|k
 .rfl
 exact amp
def ShD:∀(a:L ay) (j i:Nat),yt (λ_=>undef) (Ig j a) i=if j<=i then(a[i-j]?).getD undef else undef
 | [],j,i=>by simp[Ig,yt]
 | v::r,j,i=>by
  simp only[Ig];by_cases y:j=i
  .subst y;rw[zT,K (H _)];simp
  rw[acz y,ShD r (j+1) i];by_cases u:j<=i
  .rw[K u,K J,show i-j=(i-(j+1))+1 by omega,dI]
  rw[R u,R J]
end
section
variable {P:Program} {ops:Array Oper} {Q:Exit->Act->aw->Prop} {rest:L Oper} {w w':aw} {n0:Nat} {us0:Nat->ay} {l0:L (Nat×ay)}
def YU:ay->Option M
 | .bool b=>aN b
 | _=>Pw
def ab0{e:L Oper}{j d:Nat}{o:Oper}{v:ay}(a:jd e j=aN o)(c:o.dst=aN d)(h:evO n0 l0 (.tmp d)=aN v):
  yielded e.toArray (fr n0 us0 l0).tmps j=YU v:=by
 rw[lZ]at a;have hd:d<n0:=by
  simp only[evO]at h;cases f:Nat.blt d n0
  .rw[f]at h;cases h
  exact dz f
 have b:=evE (us0:=us0) h;rw[acK hd]at b;have:(fr n0 us0 l0).tmps[d]? =aN v:=by
  show(UC us0 l0 n0 0).toArray[d]? =_;rw[tW,pS _ _ _ _ _ hd,bR,b]
 simp only[yielded,tW,a,Option.bind_some,c,this];cases v<;>rfl
def wtF{o a:Oper}{U:L Oper}{j d:Nat}{w b r:M}(h:o.guard=aN (j,w))(c:jd U j=aN a)(f:a.dst=aN d)
  (g:evO n0 l0 (.tmp d)=aN (.bool b)) (i:(b==w)=r):Region.wanted o (yielded U.toArray (fr n0 us0 l0).tmps)=r:=by
 subst i;have e:=ab0 (us0:=us0) c f g;simp only[Region.wanted,h,e,YU];cases b<;>cases w<;>rfl
def wuF{o a:Oper}{U:L Oper}{j d:Nat}{want:M}(h:o.guard=aN (j,want))(b:jd U j=aN a)(c:a.dst=aN d)
  (f:evO n0 l0 (.tmp d)=aN undef):Region.wanted o (yielded U.toArray (fr n0 us0 l0).tmps)=aM:=by
 have e:=ab0 (us0:=us0) b c f;simp[Region.wanted,h,e,undef,YU]
def pg{x y:Option Addr}(h:x=y):aN (Value.pointer x)=aN (.pointer y):=by rw[h]
def ag{x y:Addr}(h:x=y):aN (Value.pointer (aN x))=aN (.pointer (aN y)):=by rw[h]
def bg{x y:M}(h:x=y):aN (Value.bool x)=aN (.bool y):=by rw[h]
def sn{op:Op}{t:TypeId}{p:String}{a:Array Edge}{v:ay}(r:(execOp (fr n0 us0 l0).eval ⟨Pw,op,t,p,a,Pw⟩).run P w=.ok (.value v) w)
 (h:wpList P ops Q rest (fr n0 us0 l0) w):wpList P ops Q (⟨Pw,op,t,p,a,Pw⟩::rest) (fr n0 us0 l0) w:=Oi v (wn I) r (f3 _ _) h
section
variable {md:Region.Mode} {E:Nat->aw->aw->Prop} {F:aw->Prop}
def afg(i:Nat){e:L Oper}{d:Option Tmp}{op:Op}{t:TypeId}{p:String}{f:Array Edge}{g:Option (Nat×M)}{fL:Nat}{b:Array M}(D N:L Nat)(F:aw->Prop){v:ay}(y:jd e i=aN ⟨d,op,t,p,f,g⟩)
  (h:(Region.noSelect e.toArray&&Region.free md e.toArray b i&&(Region.ready md e.toArray b).contains i&&xJ md e.toArray b&&vf md e.toArray i [] D&&(N.all λk=>b.getD k aF))=aF)
  (x:∀c a w,Q (.panic c) (Act.put a d v) w->Q (.panic c) a w) (A:∀j w w',j∉D->j∉N->F w->E j w w'->F w') (H:∀w,F w->E i w w) (u:F w)
  (z:YieldsIf P e.toArray F ⟨d,op,t,p,f,g⟩ v (fr n0 us0 l0))
  (s:gF P md e.toArray Q E fL (b.setIfInBounds i aF) (fr n0 us0 (pl d v l0)) w):gF P md e.toArray Q E (fL+1) b (fr n0 us0 l0) w:=by
 simp only[B]at h;obtain⟨⟨⟨⟨⟨l,m⟩,n⟩,o⟩,q⟩,r⟩:=h;exact Oz i D N v F y l m n o q r x A H u z auj s
def eL(i:Nat){e:L Oper}{d:Option Tmp}{op:Op}{t:TypeId}{p:String}{f:Array Edge}{g:Option (Nat×M)}{fL:Nat}{b:Array M}{l:L (Nat×L Nat)}(D N:L Nat)(F:aw->Prop){v:ay}(q:jd e i=aN ⟨d,op,t,p,f,g⟩)
  (r:l.lookup i=Pw) (s:∀j w w',j∉D->j∉N->F w->EL l j w w'->F w') (m:F w)
  (y:YieldsIf P e.toArray F ⟨d,op,t,p,f,g⟩ v (fr n0 us0 l0))
  (h:gF P md e.toArray Q (EL l) fL (b.setIfInBounds i aF) (fr n0 us0 (pl d v l0)) w)
  (o:(Region.noSelect e.toArray&&Region.free md e.toArray b i&&(Region.ready md e.toArray b).contains i&&xJ md e.toArray b&&vf md e.toArray i [] D&&(N.all λk=>b.getD k aF))=aF:=by kernel_rfl)
  (n:∀c a w,Q (.panic c) (Act.put a d v) w->Q (.panic c) a w:=by exact λ_ _ _ h=>h):gF P md e.toArray Q (EL l) (fL+1) b (fr n0 us0 l0) w:=
 afg i D N F q o n s (λw _=>ajk r w) m y h
def eN(i:Nat){e:L Oper}{d:Option Tmp}{op:Op}{t:TypeId}{p:String}{f:Array Edge}{g:Option (Nat×M)}{fL:Nat}{b:Array M}{l:L (Nat×L Nat)}(o:jd e i=aN ⟨d,op,t,p,f,g⟩)
  (E:∀w,EL l i w w) (n:Region.wanted ⟨d,op,t,p,f,g⟩ (yielded e.toArray (fr n0 us0 l0).tmps)=aM)
  (h:gF P md e.toArray Q (EL l) fL (b.setIfInBounds i aF) (fr n0 us0 (pl d undef l0)) w)
  (m:(Region.noSelect e.toArray&&Region.free md e.toArray b i&&(Region.ready md e.toArray b).contains i&&xJ md e.toArray b&&vf md e.toArray i [] []&&(([]:L Nat).all λk=>b.getD k aF))=aF:=by kernel_rfl)
  (j:∀c a w,Q (.panic c) (Act.put a d undef) w->Q (.panic c) a w:=by exact λ_ _ _ h=>h):gF P md e.toArray Q (EL l) (fL+1) b (fr n0 us0 l0) w:=
 afg i [] [] (λ_=>True) o m j acg (λw _=>E w) trivial (Hp n) h
end
end
end Go.Kt
namespace Go.Kt.V
open Go renaming World->aw,Value->ay
open Go Go.RowKit Go.Kt
structure OV where
 v:ay
 one:v.oneCell'=aF
inductive SV where
 | int (k:IntKind) (n:Int)
 | il (k:IntKind) (n:Int)
 | bl (b:Bool)
 | bt (t:Bool)
 | str (s:ByteArray)
 | np
 | ptr (p:Option Addr)
 | ad (a:Addr)
 | box (i o:Nat)
 | sl (s:Sl)
 | nsl
 | map (m:Option Nat)
 | raw (v:OV)
 | fn (f:FuncId) (fs cs:SV)
 | agg (l:SV)
 | tup (l:SV)
 | un
 | e
 | c (h t:SV)
def ua(c:Nat->Nat):SV->L ay
 | .int k n=>[.int k n]
 | .il k n=>[.int k n]
 | .bl b=>[.bool b]
 | .bt t=>[.bool t]
 | .str s=>[.string s]
 | .np=>[.pointer Pw]
 | .ptr p=>[.pointer p]
 | .ad a=>[.pointer (aN a)]
 | .box i o=>[.pointer (aN ⟨c i,o,Pw⟩)]
 | .sl s=>[s.v]
 | .nsl=>[Sl.v Sl.nil]
 | .map m=>[.map m]
 | .raw v=>[v.v]
 | .fn f a s=>[.func (.func f) (ua c a).toArray (ua c s).toArray]
 | .agg l=>[.agg (ua c l).toArray]
 | .tup l=>[.tuple (ua c l).toArray]
 | .un=>[undef]
 | .e=>[]
 | .c h t=>(ua c h).headD undef::ua c t
def val(a:Nat->Nat)(s:SV):ay:=(ua a s).headD undef
def cT(a:Nat->Nat)(l:L SV):L ay:=l.map (val a)
def qx:SV->L SV
 | .c h t=>h::qx t
 | _=>[]
def Ii:L SV->SV
 | []=>.e
 | s::r=>.c s (Ii r)
def Gf:SV->M
 | .c _ t=>Gf t
 | .e=>aF
 | _=>aM
def vh β:∀l,ua β (Ii l)=cT β l
 | []=>rfl
 | s::r=>by simp only[Ii,ua,vh β r];rfl
def pT β:∀{s:SV},Gf s=aF->ua β s=cT β (qx s)
 | .e,_=>rfl
 | .c a t,h=>by simp only[ua,pT β (s:=t) h];rfl
def cln(g:Nat->M):SV->M
 | .box i _=>g i
 | .fn _ f c=>cln g f&&cln g c
 | .agg l=>cln g l
 | .tup l=>cln g l
 | .c h t=>cln g h&&cln g t
 | _=>aF
def jS(g:Nat->M):L SV->M
 | []=>aF
 | s::r=>cln g s&&jS g r
def pb{β β'}{g}(h:∀i,g i=aF->β i=β' i):∀s,cln g s=aF->ua β s=ua β' s
 | .int ..,_ | .il ..,_ | .bl ..,_ | .bt ..,_ | .str ..,_ | .np,_ | .ptr ..,_ | .ad ..,_ | .sl ..,_ | .nsl,_ | .map ..,_ | .raw ..,_ | .un,_ | .e,_=>rfl
 | .box i o,c=>by simp[ua,h i c]
 | .fn f a s,c=>by
  simp[cln]at c;simp[ua,pb h a c.1,pb h s c.2]
 | .agg l,c=>by simp[ua,pb h l c]
 | .tup l,c=>by simp[ua,pb h l c]
 | .c s t,c=>by
  simp[cln]at c;simp[ua,pb h s c.1,pb h t c.2]
def kD{β β'}{g}(h:∀i,g i=aF->β i=β' i) s (c:cln g s=aF):val β s=val β' s:=by
 unfold val;rw[pb h s c]
def jC{β β'}{g}(h:∀i,g i=aF->β i=β' i):∀l,jS g l=aF->cT β l=cT β' l
 | [],_=>rfl
 | s::r,c=>by
  simp[jS]at c;have:=jC h r c.2;simp only[cT,cf]at this⊢;rw[kD h s c.1,this]
def gM β l:qj (cT β l)=qj l:=by rw[cT,bH]
def Wq:ay->Option SV
 | .int k n=>aN (.il k n)
 | .bool b=>aN (.bl b)
 | .string s=>aN (.str s)
 | .pointer Pw=>aN .np
 | .slice Pw 0 0=>aN .nsl
 | .map m=>aN (.map m)
 | v=>if h:v.oneCell'=aF then aN (.raw ⟨v,h⟩)else Pw
def Gh:L ay->Option SV
 | []=>aN .e
 | v::r=>match Wq v,Gh r with
  | some s,aN l=>aN (.c s l)
  | _,_=>Pw
def G4:ay->Option SV
 | .agg c=>(Gh c.toList).map .agg
 | .tuple c=>(Gh c.toList).map .tup
 | .func (.func f) s c=>match Gh s.toList,Gh c.toList with
  | some a,aN b=>aN (.fn f a b)
  | _,_=>Pw
 | v=>Wq v
def D2{v}{s}(h:Wq v=aN s) β:val β s=v:=by
 unfold Wq at h;split at h
 all_goals first | (simp at h;subst h;rfl) | skip
 split at h
 .simp at h;subst h;rfl
 cases h
def wH β:∀{l:L ay} {s:SV},Gh l=aN s->ua β s=l
 | [],s,h=>by simp[Gh]at h;subst h;rfl
 | v::r,s,h=>by
  simp[Gh]at h;split at h
  .rename_i s c a b;simp at h;subst h;simp only[ua,wH β b];rw[show(ua β s).headD undef=v from D2 a β]
  cases h
def sp0{v}{s}(h:G4 v=aN s) β:val β s=v:=by
 unfold G4 at h;split at h
 .rename_i c;rcases hl:Gh c.toList with _|l
  .rw[hl]at h;cases h
  rw[hl]at h;simp at h;subst h;simp[val,ua,wH β hl]
 .rename_i c;rcases hl:Gh c.toList with _|l
  .rw[hl]at h;cases h
  rw[hl]at h;simp at h;subst h;simp[val,ua,wH β hl]
 .split at h
  .rename_i a b c d;simp at h;subst h;simp[val,ua,wH β c,wH β d]
  cases h
 exact D2 h β
structure mT where
 blk:Option Nat
 ty:TypeId
 cells:List SV
 stp:Nat
 ok:Bool
 esc:Bool
 sh:Bool
structure St where
 n:Nat
 fr:List (Nat×Nat×SV)
 bx:List mT
 w0:aw
 mv:Bool
 dt:List Nat
 ct:Nat
 df:List (Nat×List ay×List ay)
def UH(l:L (Nat×L ay×L ay)):L Deferred:=l.map λd=>{target:=.fn (.func d.1) d.2.2.toArray,args:=d.2.1.toArray}
def Uw(n:Nat)(u:Nat->ay)(l:L (Nat×ay))(D:L Deferred):Act:=⟨(UC u l n 0).toArray,D⟩
def eW:L (Nat×Nat×SV)->Nat->Option (Nat×SV)
 | [],_=>Pw
 | (k,s)::r,i=>bif Nat.beq k i then aN s else eW r i
def St.get(st:St)(i:Nat):Option SV:=bif Nat.blt i st.n then(eW st.fr i).map (·.2)else Pw
def St.ev(st:St):Operand->Option SV
 | .tmp k=>st.get k
 | .const v=>G4 v
 | .global g=>aN (.ad ⟨g,0,Pw⟩)
 | .func f=>aN (.fn f .e .e)
def St.Te(st:St):L Operand->Option (L SV)
 | []=>aN []
 | x::r=>match st.ev x,st.Te r with
  | some v,aN s=>aN (v::s)
  | _,_=>Pw
def St.evp(st:St):L (Nat×Operand)->Option (L (Nat×SV))
 | []=>aN []
 | (i,x)::r=>match st.ev x,st.evp r with
  | some v,aN s=>aN ((i,v)::s)
  | _,_=>Pw
def St.put(st:St)(d:Option Tmp)(v:SV):St:=match d with
 | some k=>{st with fr:=(k,st.ct,v)::st.fr,ct:=st.ct+1}
 | none=>st
def dv:L mT->Nat->Option mT
 | [],_=>Pw
 | b::_,0=>aN b
 | _::r,n+1=>dv r n
def TZ:L mT->Nat->mT->L mT
 | [],_,_=>[]
 | _::r,0,b=>b::r
 | a::r,n+1,b=>a::TZ r n b
def cv(a:Nat->Nat)(l:L (Nat×Nat×SV)):L (Nat×ay):=l.map λp=>(p.1,val a p.2.2)
def od β:∀l i,Cq (cv β l) i=(eW l i).map λp=>val β p.2
 | [],_=>rfl
 | (k,s)::r,i=>by
  simp[cv,Cq,eW];cases Nat.beq k i
  .exact od β r i
  rfl
structure aqp (β:Nat->Nat) (w0 w:aw) (i:Nat) (b:mT):Prop where
 blk:Blk w (β i) b.ty (cT β b.cells)
 at_:∀k,b.blk=aN k->β i=k
 new:b.blk=Pw->w0.heap.size<=β i
structure Rep (β:Nat->Nat) (st:St) (a:Act) (w:aw):Prop where
 fr:∃us,a=Uw st.n us (cv β st.fr) (UH st.df)
 bx:∀i b,dv st.bx i=aN b->b.ok=aF->aqp β st.w0 w i b
 ne:∀i j bi bj,dv st.bx i=aN bi->dv st.bx j=aN bj->bi.ok=aF->bj.ok=aF->i≠j->β i≠β j
 only:Only (st.dt.map β) st.w0 w
 still:st.mv=aM->w=st.w0
structure Ext (s t:St):Prop where
 n:t.n=s.n
 ct:s.ct<=t.ct
 fr:∀i k v,eW t.fr i=aN (k,v)->k<s.ct->eW s.fr i=aN (k,v)
 bx:∀i b',dv t.bx i=aN b'->b'.ok=aF->b'.stp<s.ct->∃b,dv s.bx i=aN b/\b.ok=aF/\b.cells=b'.cells/\b.ty=b'.ty/\b.stp=b'.stp/\(∀k,b.blk=aN k->b'.blk=aN k)
 ps:∀i b,dv s.bx i=aN b->∃b',dv t.bx i=aN b'/\b'.ty=b.ty/\b'.ok=b.ok/\∀k,b.blk=aN k->b'.blk=aN k
 df:∃l,t.df=l++s.df
def Kr{s:St}:∃l,s.df=l++s.df:=⟨[],I⟩
def Ws{l}:∀i b,dv l i=aN b->∃a,dv l i=aN a/\a.ty=b.ty/\a.ok=b.ok/\∀k,b.blk=aN k->a.blk=aN k:=λi b h=>⟨b,h,I,I,λ_ h=>h⟩
def Ext.refl s:Ext s s:=⟨I,H _,λ_ _ _ h _=>h,λi b h o _=>⟨b,h,o,I,I,I,λ_ h=>h⟩,Ws,Kr⟩
def Uk:=@Ext.refl
def Ext.trans{s t u}(h:Ext s t)(k:Ext t u):Ext s u:=
 ⟨k.n.trans h.n,bB h.ct k.ct,λi m v l W=>h.fr i m v (k.fr i m v l (cq W h.ct)) W,λi a c o d=>by
  obtain⟨g,f,r,k3,s,w,v⟩:=k.bx i a c o (cq d h.ct);obtain⟨b,e,j,n,p,u,t⟩:=h.bx i g f r J;exact⟨b,e,j,n.trans k3,p.trans s,u.trans w,λm q=>v m (t m q)⟩,λi b c=>by
  obtain⟨g,e,j,n,p⟩:=h.ps i b c;obtain⟨a,f,r,k3,s⟩:=k.ps i g e;exact⟨a,f,r.trans j,k3.trans n,λm q=>s m (p m q)⟩,by
  obtain⟨x,e⟩:=h.df;obtain⟨m,f⟩:=k.df;exact⟨m++x,Xd⟩⟩
def YX:=@Ext.trans
section
variable {β:Nat->Nat} {st:St} {a:Act} {w:aw}
def Rep.get(b:Rep β st a w){i}{s}(h:st.get i=aN s):a.eval (.tmp i)=val β s:=by
 obtain⟨u,rfl⟩:=b.fr;show(Kt.fr st.n u _).eval (.tmp i)=_;refine evE (n0:=st.n) (us0:=u) ?_;unfold St.get at h;cases c:Nat.blt i st.n
 .rw[c]at h;cases h
 simp[evO,od];cases l:eW st.fr i<;>grind
def Rep.ev(b:Rep β st a w){x}{s}(h:st.ev x=aN s):a.eval x=val β s:=by
 cases x with
 | tmp k=>exact b.get h
 | const v=>rw[sp0 h];rfl
 | global g=>
  simp[St.ev]at h;subst h;rfl
 | func f=>
  simp[St.ev]at h;subst h;rfl
def Rep.Te(h:Rep β st a w):∀{s:L Operand} {l:L SV},st.Te s=aN l->s.map a.eval=cT β l
 | [],l,g=>by simp[St.Te]at g;subst g;rfl
 | x::r,l,g=>by
  simp[St.Te]at g;split at g
  .rename_i v b x a;simp at g;subst g;rw[cf,h.ev x,h.Te a];rfl
  cases g
def GX(a:Nat->Nat)(l:L (Nat×SV)):L (Nat×ay):=l.map λp=>(p.1,val a p.2)
def Rep.evp(h:Rep β st a w):∀{x:L _} {l:L _},st.evp x=aN l->(x.map λq=>(q.1,a.eval q.2))=GX β l
 | [],l,g=>by simp[St.evp]at g;subst g;rfl
 | _::r,l,g=>by
  simp[St.evp]at g;split at g
  .rename_i v s b a;simp at g;subst g;rw[cf,h.evp a,h.ev b];rfl
  cases g
def St.evO{st:St} β {x} {s} (h:st.ev x=aN s):Kt.evO st.n (cv β st.fr) x=aN (val β s):=by
 cases x with
 | tmp i=>
  have h:st.get i=aN s:=h;unfold St.get at h;cases b:Nat.blt i st.n
  .rw[b]at h;cases h
  simp[Kt.evO,od];cases l:eW st.fr i<;>grind
 | const v=>rw[sp0 h];rfl
 | global g=>
  simp[St.ev]at h;subst h;rfl
 | func f=>
  simp[St.ev]at h;subst h;rfl
def Rep.put(h:Rep β st a w) d v:Rep β (st.put d v) (a.put d (val β v)) w:=by
 rcases d with _|k
 .exact h
 obtain⟨u,rfl⟩:=h.fr;exact⟨⟨u,bN (λa:Act=>(⟨a.tmps,UH st.df⟩:Act)) (amp (n0:=st.n) (us0:=u) (l0:=cv β st.fr) (k:=k) (v:=val β v))⟩,h.bx,h.ne,h.only,h.still⟩
def L0:=@Rep.put
def Ext.put st d v:Ext st (st.put d v):=by
 rcases d with _|k
 .exact Uk _
 refine⟨I,kB _,λi m u l W=>?_,λi b h o _=>⟨b,h,o,I,I,I,λ_ h=>h⟩,Ws,Kr⟩;simp[St.put,eW]at l
 grind
def H6:=@Ext.put
def Rep.frame(h:Rep β st a w){fr'}(s:∀i p,eW fr' i=aN p->∃q,eW st.fr i=aN q/\val β q.2=val β p.2):Rep β {st with fr:=fr'} a w:=by
 obtain⟨u,rfl⟩:=h.fr;refine⟨?_,h.bx,h.ne,h.only,h.still⟩;refine⟨λi=>yt u (cv β st.fr) i,?_⟩;unfold Uw;congr 2;apply oa;intro i;by_cases b:i<st.n
 .rw[pS _ _ _ _ _ b,pS _ _ _ _ _ b,bR];rcases hl:eW fr' i with _|p
  .rw[Ih (l:=cv β fr') UJ]
  obtain⟨q,a,c⟩:=s i p hl;rw[xK (l:=cv β fr') (v:=val β p.2) UJ,xK (l:=cv β st.fr) (v:=val β p.2) (by rw[od,a,fG,c])]
 rw[cW (by rw[qY];exact jy b),cW (by rw[qY];exact jy b)]
end
def cE{a:Type}(o:Option a)(K:a->Prop):Prop:=match o with
 | some v=>K v
 | none=>False
def bJ{α}{o:Option α}{K}(h:cE o K):∃v,o=aN v/\K v:=by
 rcases o with _|v
 .exact h.elim
 exact⟨v,I,h⟩
def gi:L (M×M)->Prop->Prop
 | [],p=>p
 | (t,b)::r,p=>t=b->gi r p
def gh:L (M×M)->Prop
 | []=>True
 | (t,b)::r=>t=b/\gh r
def jD:∀{gs:L _} {p:Prop},gi gs p->gh gs->p
 | [],_,h,_=>h
 | _::r,p,h,k=>jD (gs:=r) (h k.1) k.2
inductive Lf where
 | int (k:IntKind)
 | bool
 | str
 | ptr
 | sl
 | map
 | raw
def Lf.T:Lf->Type
 | .int _=>Int
 | .bool=>M
 | .str=>ByteArray
 | .ptr=>Option Addr
 | .sl=>Sl
 | .map=>Option Nat
 | .raw=>OV
def Lf.sv:(l:Lf)->l.T->SV
 | .int k,x=>.int k x
 | .bool,x=>.bt x
 | .str,x=>.str x
 | .ptr,x=>.ptr x
 | .sl,x=>.sl x
 | .map,x=>.map x
 | .raw,x=>.raw x
def Lf.cln g (l:Lf) x:V.cln g (l.sv x)=aF:=by cases l<;>rfl
def YV:L Lf->(L SV->Prop)->Prop
 | [],K=>K []
 | l::r,K=>∃x,YV r λv=>K (l.sv x::v)
def wI:∀{ls:L Lf} {K:L SV->Prop},YV ls K->∃v,K v/\qj v=qj ls/\∀g,jS g v=aF
 | [],K,h=>⟨[],h,I,λ_=>I⟩
 | l::r,K,h=>by
  obtain⟨x,h⟩:=h;obtain⟨v,a,b,c⟩:=wI (ls:=r) h;exact⟨_,a,by simp[b],λg=>by simp[jS,Lf.cln,c g]⟩
def aum:TypeDesc->Lf
 | .int k=>.int k
 | .bool=>.bool
 | .string=>.str
 | .pointer _=>.ptr
 | .slice _=>.sl
 | .map _ _=>.map
 | _=>.raw
def rep{a:Type}:Nat->L a->L a
 | 0,_=>[]
 | n+1,l=>l++rep n l
def flat{a b:Type}(f:a->L b):L a->L b
 | []=>[]
 | x::r=>f x++flat f r
def Wt(P:Program):Nat->TypeId->L Lf
 | 0,_=>[]
 | n+1,t=>match P.underlying t with
  | some (.struct fs)=>flat (λf:Field=>Wt P n f.type) fs.toList
  | some (.array len e)=>rep len (Wt P n e)
  | some d=>[aum d]
  | none=>[]
def pc:TypeDesc->M
 | .struct _=>aF
 | .array _ _=>aF
 | _=>aM
def T0(ag:M)(l:L SV):SV:=bif ag then .agg (Ii l)else l.headD .un
def β0:Nat->Nat:=λ_=>0
def ub:SV->Option (IntKind×Int)
 | .int k n=>aN (k,n)
 | .il k n=>aN (k,n)
 | _=>Pw
def dR{s}{k}{n}(h:ub s=aN (k,n)) β:val β s=.int k n:=by
 cases s<;>simp[ub]at h
 all_goals obtain⟨rfl,rfl⟩:=h;rfl
def D3:SV->Option M
 | .bl b=>aN b
 | .bt b=>aN b
 | _=>Pw
def pd{s}{b}(h:D3 s=aN b) β:val β s=.bool b:=by
 cases s<;>simp[D3]at h
 all_goals subst h;rfl
def y9:SV->Option ByteArray
 | .str s=>aN s
 | _=>Pw
def jT{s}{b}(h:y9 s=aN b) β:val β s=.string b:=by
 cases s<;>simp[y9]at h
 all_goals subst h;rfl
def QJ:SV->Option Sl
 | .sl s=>aN s
 | .nsl=>aN Sl.nil
 | _=>Pw
def mE{s}{b}(h:QJ s=aN b) β:val β s=b.v:=by
 cases s<;>simp[QJ]at h
 all_goals subst h;rfl
def ib(op:BinOp)(k:IntKind)(m n:Int):Option SV:=match op with
 | .add=>aN (.int k (k.wrap (m+n)))
 | .sub=>aN (.int k (k.wrap (m-n)))
 | .mul=>aN (.int k (k.wrap (m*n)))
 | .eql=>aN (.bt (m==n))
 | .neq=>aN (.bt (m !=n))
 | .lss=>aN (.bt (YR (m<n)))
 | .leq=>aN (.bt (YR (m<=n)))
 | .gtr=>aN (.bt (YR (m>n)))
 | .geq=>aN (.bt (YR (m>=n)))
 | .and=>aN (.int k (bits .and k m n))
 | .or=>aN (.int k (bits .or k m n))
 | .xor=>aN (.int k (bits .xor k m n))
 | .andNot=>aN (.int k (bits .andNot k m n))
 | _=>Pw
def sb(op:BinOp)(s u:ByteArray):Option SV:=match op with
 | .eql=>aN (.bt (s.toList==u.toList))
 | .neq=>aN (.bt (!(s.toList==u.toList)))
 | .lss=>aN (.bt (Op.bytesLess s.toList u.toList))
 | .geq=>aN (.bt (!(Op.bytesLess s.toList u.toList)))
 | .leq=>aN (.bt (Op.bytesLess s.toList u.toList||(s.toList==u.toList)))
 | .gtr=>aN (.bt (!(Op.bytesLess s.toList u.toList||(s.toList==u.toList))))
 | _=>Pw
def nz(g:L (M×M))(b:SV)(n:Int)(K:Prop):Prop:=match b with
 | .il _ _=>bif n==0 then False else K
 | _=>gi g (n≠0)/\K
def ZB(g:L (M×M))(b:SV)(n:Int)(K:Prop):Prop:=match b with
 | .il _ _=>bif YR (0<=n)then K else False
 | _=>gi g (0<=n)/\K
def opn:SV->Option (Option Addr)
 | .np=>aN Pw
 | .ptr p=>aN p
 | .ad a=>aN (aN a)
 | _=>Pw
def acj{s}{p}(h:opn s=aN p) β:val β s=.pointer p:=by
 cases s<;>simp[opn]at h
 all_goals subst h;rfl
def pn(op:BinOp)(a:SV):Option SV:=match op,a with
 | .eql,.ptr p=>aN (.bt p.isNone)
 | .neq,.ptr p=>aN (.bt (!p.isNone))
 | .eql,.ad _=>aN (.bl aM)
 | .neq,.ad _=>aN (.bl aF)
 | .eql,.box _ _=>aN (.bl aM)
 | .neq,.box _ _=>aN (.bl aF)
 | .eql,.np=>aN (.bl aF)
 | .neq,.np=>aN (.bl aM)
 | _,_=>Pw
def sn(op:BinOp)(s:Sl):Option SV:=match op with
 | .eql=>aN (.bt s.a.isNone)
 | .neq=>aN (.bt (!s.a.isNone))
 | _=>Pw
def Wu:SV->M
 | .np=>aF
 | _=>aM
def K6:SV->M
 | .nsl=>aF
 | _=>aM
def HB(P:Program)(t:TypeId)(x y:SV):Option M:=match P.underlying t with
 | some (.int _)=>(match ub x,ub y with
  | some (k,m),aN (k',n)=>bif YR (k=k')then aN (m==n)else Pw
  | _,_=>Pw)
 | some .string=>(match y9 x,y9 y with
  | some s,aN u=>aN (s==u)
  | _,_=>Pw)
 | some .bool=>(match D3 x,D3 y with
  | some s,aN u=>aN (s==u)
  | _,_=>Pw)
 | _=>Pw
def K7(P:Program)(s a:L SV):L Field->Option M
 | []=>aN aF
 | f::r=>bif f.name== "_" then Pw else match s[f.offset]?,a[f.offset]? with
  | some x,aN y=>(match HB P f.type x y,K7 P s a r,r with
   | some b,aN _,[]=>aN b
   | some b,aN c,_=>aN (b&&c)
   | _,_,_=>Pw)
  | _,_=>Pw
def HF(P:Program)(t:TypeId)(f:Array Field)(a b:SV):Option M:=match a,b with
 | .agg l,.agg m=>bif Gf l&&Gf m&&!P.stoodInHeld t&&!P.eqGuardType P.depth t then K7 P (qx l) (qx m) f.toList else Pw
 | _,_=>Pw
def ZC(op:BinOp)(b:M):Option SV:=match op with
 | .eql=>aN (.bt b)
 | .neq=>aN (.bt (!b))
 | _=>Pw
def mn(op:BinOp)(a b:SV):Option SV:=match op,a,b with
 | .eql,.map m,.map Pw=>aN (.bt m.isNone)
 | .neq,.map m,.map Pw=>aN (.bt (!m.isNone))
 | _,_,_=>Pw
def Cs(P:Program)(g:L (M×M))(op:BinOp)(t:TypeId)(a b:SV)(K:SV->Prop):Prop:=
 match ub a,ub b with
 | some (k,m),aN (k',n)=>(match op with
  | .shl=>ZB g b n (K (.int k (k.wrap (m*2 ^ (min n.toNat k.bits)))))
  | .shr=>ZB g b n (K (.int k (m.fdiv (2 ^ (min n.toNat k.bits)))))
  | .quo=>bif YR (k=k')then nz g b n (K (.int k (k.wrap (m.tdiv n))))else False
  | .rem=>bif YR (k=k')then nz g b n (K (.int k (m.tmod n)))else False
  | _=>bif YR (k=k')then cE (ib op k m n) K else False)
 | _,_=>match y9 a,y9 b with
  | some s,aN u=>(match op with
   | .add=>gi g ((s.size:Int)+u.size<=9223372036854775807)/\K (.str (s++u))
   | _=>cE (sb op s u) K)
  | _,_=>match D3 a,D3 b,P.underlying t with
   | some s,aN u,aN .bool=>(match op with
    | .eql=>K (.bt (s==u))
    | .neq=>K (.bt (!(s==u)))
    | _=>False)
   | _,_,_=>match P.underlying t with
    | some (.pointer _)=>bif Wu b then cE (pn op a) K else bif Wu a then cE (pn op b) K else False
    | some (.slice _)=>bif K6 b then cE ((QJ a).bind (sn op)) K else bif K6 a then cE ((QJ b).bind (sn op)) K else False
    | some (.struct fs)=>cE (HF P t fs a b) λr=>cE (ZC op r) K
    | some (.map _ _)=>cE (mn op a b) K
    | _=>False
section
variable {P:Program} {gs:L (M×M)} {K:SV->Prop}
def afi{b}{k}{n}{K}(a:ub b=aN (k,n))(h:nz gs b n K):K/\(gh gs->n≠0):=by
 unfold nz at h;split at h
 .grind
 exact⟨h.2,λg=>jD h.1 g⟩
def Wv{b}{n}{K}(h:ZB gs b n K):K/\(gh gs->0<=n):=by
 unfold ZB at h;split at h
 .grind
 exact⟨h.2,λg=>jD h.1 g⟩
def eE{b}{p}(h:bif b then p else False):b=aF/\p:=Xd
def pU(P:Program)(op:BinOp)(t:TypeId)(a b v:SV):Prop:=
 ∀c (act:Act) x y d h e p f g w,act.eval x=val c a->act.eval y=val c b->
  (execOp act.eval ⟨d,.binOp op t x y h,e,p,f,g⟩).run P w=.ok (.value (val c v)) w
def amq{op}{t}{a b v}{k}{m n}(e:ub a=aN (k,m))(f:ub b=aN (k,n))(h:ib op k m n=aN v):pU P op t a b v:=by
 intro o act x y s l j p g i w c d;rw[dR e]at c;rw[dR f]at d;cases op<;>simp[ib]at h
 all_goals subst h;simp[execOp,c,d];cases k<;>rfl
def amr{op}{t}{a b v}{s u}(f:y9 a=aN s)(g:y9 b=aN u)(h:sb op s u=aN v):pU P op t a b v:=by
 intro m act x y e l k p i j w c d;rw[jT f]at c;rw[jT g]at d;cases op<;>simp only[sb,bP,reduceCtorEq]at h
 all_goals subst h;simp only[execOp,c,d];rfl
def afj{op}{t e}{a b v}(u:P.underlying t=aN (.pointer e))(f:Wu b=aF)(d:pn op a=aN v):pU P op t a b v/\pU P op t b a v:=by
 have h:∀c,val c b=.pointer Pw:=λc=>by
  unfold Wu at f;split at f
  .rfl
  cases f
 have k:∀c,∃(q:Option Addr) (r:M),val c a=.pointer q/\val c v=.bool r/\((op=.eql/\q.isNone=r)∨(op=.neq/\(!q.isNone)=r)):=by
  intro c;unfold pn at d;split at d<;>simp only[bP,reduceCtorEq]at d<;>subst d
  .exact⟨_,_,I,I,.inl ⟨I,I⟩⟩
  .exact⟨_,_,I,I,.inr ⟨I,I⟩⟩
  .exact⟨_,_,I,I,.inl ⟨I,I⟩⟩
  .exact⟨_,_,I,I,.inr ⟨I,I⟩⟩
  .exact⟨_,_,I,I,.inl ⟨I,I⟩⟩
  .exact⟨_,_,I,I,.inr ⟨I,I⟩⟩
  .exact⟨_,_,I,I,.inl ⟨I,I⟩⟩
  exact⟨_,_,I,I,.inr ⟨I,I⟩⟩
 constructor
 .intro c act x y s m t p j l w b e;obtain⟨q,r,g,i,a⟩:=k c;rw[g]at b;rw[h]at e;rw[i];rcases a with⟨rfl,a⟩ | ⟨rfl,a⟩
  .exact adB (run_underlying u w) b e a
  exact ag4 (run_underlying u w) b e a
 intro c act x y s m t p j l w b e;obtain⟨q,r,g,i,a⟩:=k c;rw[g]at e;rw[h]at b;rw[i];rcases a with⟨rfl,a⟩ | ⟨rfl,a⟩
 .exact ajh (run_underlying u w) b e a
 exact ahC (run_underlying u w) b e a
def afk{op}{t e}{a b v}(u:P.underlying t=aN (.slice e))(f:K6 b=aF)(h:(QJ a).bind (sn op)=aN v):pU P op t a b v/\pU P op t b a v:=by
 have c:∀d,val d b=.slice Pw 0 0:=λd=>by
  unfold K6 at f;split at f
  .rfl
  cases f
 rcases hs:QJ a with _|s
 .rw[hs]at h;cases h
 rw[hs]at h;simp at h;constructor
 .intro d act x y s i t p e g w a b;rw[mE hs]at a;rw[c]at b;cases op<;>simp only[sn,bP,reduceCtorEq]at h<;>subst h
  .exact abi (run_underlying u w) a b
  exact hdT (run_underlying u w) a b
 intro d act x y s i t p e g w a b;rw[mE hs]at b;rw[c]at a;cases op<;>simp only[sn,bP,reduceCtorEq]at h<;>subst h
 .exact afE (run_underlying u w) a b
 exact abS (run_underlying u w) a b
def ams{op}{t k e}{a b v}(u:P.underlying t=aN (.map k e))(h:mn op a b=aN v):pU P op t a b v:=by
 intro n act x y s l j p g i w c f;unfold mn at h;split at h<;>simp at h<;>subst h
 all_goals
  rename_i m;change act.eval x=.map m at c;change act.eval y=.map Pw at f;have E:∀d,(Op.equalIn (d+1) t (.map m) (.map Pw)).run P w=.ok m.isNone w:=λd=>by
   unfold Op.equalIn;cases m<;>simp[run_underlying u w]
 .have B:binOp .eql t (.map m) (.map Pw)=(do pure (.bool ((<-Op.equal t (.map m) (.map Pw))))):=by cases m<;>rfl
  have G:eqGuard .eql t x y (.map m) (.map Pw)=pure _:=I;simp[execOp,c,f,G,B,Op.equal,Op.maxDepth,E 9999];rfl
 have B:binOp .neq t (.map m) (.map Pw)=(do pure (.bool (!(<-Op.equal t (.map m) (.map Pw))))):=by cases m<;>rfl
 have G:eqGuard .neq t x y (.map m) (.map Pw)=pure _:=I;simp[execOp,c,f,G,B,Op.equal,Op.maxDepth,E 9999];rfl
def ack{t}{x y}{b}(h:HB P t x y=aN b) β d w:P.plainKey t=aF/\(Op.equalIn (d+1) t (val β x) (val β y)).run P w=.ok b w:=by
 unfold HB at h;split at h
 .rename_i k hu;refine⟨YN,?_⟩;split at h
  .rename_i k m a n x y;cases hk:YR (k=a)with
   | false=>rw[hk]at h;cases h
   | true=>
    rw[hk]at h;injection h with h;subst h;have hk:=u hk;subst hk;rw[dR x,dR y];simp[Op.equalIn,run_underlying hu]
  cases h
 .rename_i hu;refine⟨YN,?_⟩;split at h
  .rename_i s a x y;injection h with h;subst h;rw[jT x,jT y];simp[Op.equalIn,run_underlying hu]
  cases h
 .rename_i hu;refine⟨YN,?_⟩;split at h
  .rename_i s a x y;injection h with h;subst h;rw[pd x,pd y];simp[Op.equalIn,run_underlying hu]
  cases h
 cases h
def K8{xs ys} β d w:∀{s:L Field} {b:M},K7 P xs ys s=aN b->(Op.eqFields (d+1) (cT β xs).toArray (cT β ys).toArray s).run P w=.ok b w
 | [],b,h=>by
  simp[K7]at h;subst h;simp[Op.eqFields]
 | f::r,b,h=>by
  unfold K7 at h;cases n:(f.name== "_")with
  | true=>rw[n]at h;cases h
  | false=>
   rw[n]at h;split at h
   .rename_i x y g i;have p:(cT β xs).toArray[f.offset]? =aN (val β x):=by simp[cT,g]
    have j:(cT β ys).toArray[f.offset]? =aN (val β y):=by simp[cT,i]
    have go:∀{b c:M},HB P f.type x y=aN b->K7 P xs ys r=aN c->(Op.eqFields (d+1) (cT β xs).toArray (cT β ys).toArray (f::r)).run P w=.ok (b&&c) w:=fun{b c} e a=>by
     obtain⟨k,c⟩:=ack e β d w;simp[Op.eqFields,by simpa using n,ne_eq,not_false_eq_true,H2,Sem.run_bind,run_part_plain w k p,run_part_plain w k j,c,Result.andThen_ok];cases b
     .simp
     simpa using K8 β d w a
    split at h
    .rename_i b c e a;injection h with h;subst h;have:=go e a;simp[K7]at a
     grind
    .grind
    cases h
   cases h
def acm{op}{t}{fs}{a b v}{r}(u:P.underlying t=aN (.struct fs))(h:HF P t fs a b=aN r)(c:ZC op r=aN v):pU P op t a b v:=by
 unfold HF at h;split at h
 .rename_i l m;obtain⟨a,h⟩:(Gf l&&Gf m&&!P.stoodInHeld t&&!P.eqGuardType P.depth t)=aF/\K7 P _ _ fs.toList=aN r:=by
   cases b:(Gf l&&Gf m&&!P.stoodInHeld t&&!P.eqGuardType P.depth t)with
   | true=>rw[b]at h;exact⟨I,h⟩
   | false=>rw[b]at h;cases h
  simp at a;obtain⟨⟨⟨j,k⟩,n⟩,o⟩:=a;intro d act x y s B A p v z w e g;have i:∀{l:SV},Gf l=aF->val d (.agg l)=.agg (cT d _).toArray:=λq=>by
   show Value.agg (ua d _).toArray=_;rw[pT d q]
  rw[i j]at e;rw[i k]at g;have f:P.fieldsOf t=fs:=by simp[Program.fieldsOf,u]
  have E:(Op.equalIn 10000 t (.agg (cT d (qx l)).toArray) (.agg (cT d (qx m)).toArray)).run P w=.ok r w:=by
   rw[run_equalIn_struct w 9999 t _ _ (by rw[f];exact u) n,f];exact K8 d 9998 w h
  have G:∀op,(eqGuard op t x y (.agg (cT d (qx l)).toArray) (.agg (cT d (qx m)).toArray)).run P w=.ok () w:=λop=>by simp[eqGuard,o]
  unfold ZC at c;split at c
  .injection c with c;subst c;have p:binOp .eql t (.agg (cT d (qx l)).toArray) _=(do pure (.bool (<-Op.equal t _ (.agg (cT d (qx m)).toArray)))):=I;simp[execOp,e,g,p,Op.equal,Op.maxDepth,E,G];rfl
  .injection c with c;subst c;have p:binOp .neq t (.agg (cT d (qx l)).toArray) _=(do pure (.bool (!(<-Op.equal t _ (.agg (cT d (qx m)).toArray))))):=I;simp[execOp,e,g,p,Op.equal,Op.maxDepth,E,G];rfl
  cases c
 cases h
def acn{op}{t}{a b}(h:Cs P gs op t a b K):∃v,K v/\(gh gs->pU P op t a b v):=by
 unfold Cs at h;split at h
 .rename_i k m l n e c;have g:∀{K:SV->Prop},(bif YR (k=l)then cE _ K else False)->∃v,K v/\(gh gs->pU P op t a b v):=λh=>by
   obtain⟨f,d⟩:=eE h;have hk:=u f;subst hk;obtain⟨v,j,i⟩:=bJ d;exact⟨v,i,λ_=>amq e c j⟩
  split at h
  .obtain⟨h,n⟩:=Wv h;exact⟨_,h,λa v act x y s r t p o q w b k=>amg (by rw[b,dR e]) (by rw[k,dR c]) (n a)⟩
  .obtain⟨h,n⟩:=Wv h;exact⟨_,h,λa v act x y s r t p o q w b k=>amh (by rw[b,dR e]) (by rw[k,dR c]) (n a)⟩
  .obtain⟨f,d⟩:=eE h;have hk:=u f;subst hk;obtain⟨b,n⟩:=afi c d;exact⟨_,b,λa z act x y s v t p q r w k o=>ame (by rw[k,dR e]) (by rw[o,dR c]) (n a)⟩
  .obtain⟨f,d⟩:=eE h;have hk:=u f;subst hk;obtain⟨b,n⟩:=afi c d;exact⟨_,b,λa z act x y s v t p q r w k o=>amf (by rw[k,dR e]) (by rw[o,dR c]) (n a)⟩
  exact g h
 split at h
 .rename_i s c a b;split at h
  .exact⟨_,h.2,λg l act x y d k t p i j w e f=>aeH (by rw[e,jT a]) (by rw[f,jT b]) (jD h.1 g)⟩
  obtain⟨v,d,K⟩:=bJ h;exact⟨v,K,λ_=>amr a b d⟩
 split at h
 .rename_i s d a b c;split at h
  .exact⟨_,h,λi l act x y s k t p g j w e f=>shB c (by rw[e,pd a]) (by rw[f,pd b])⟩
  .exact⟨_,h,λi l act x y s k t p g j w e f=>ahs c (by rw[e,pd a]) (by rw[f,pd b])⟩
  exact h.elim
 split at h
 .rename_i e c;cases a:Wu b
  .rw[a]at h;obtain⟨b,h⟩:=eE h;obtain⟨v,d,K⟩:=bJ h;exact⟨v,K,λ_=>(afj c b d).2⟩
  rw[a]at h;obtain⟨v,b,K⟩:=bJ h;exact⟨v,K,λ_=>(afj c a b).1⟩
 .rename_i e c;cases a:K6 b
  .rw[a]at h;obtain⟨b,h⟩:=eE h;obtain⟨v,d,K⟩:=bJ h;exact⟨v,K,λ_=>(afk c b d).2⟩
  rw[a]at h;obtain⟨v,b,K⟩:=bJ h;exact⟨v,K,λ_=>(afk c a b).1⟩
 .rename_i f a;obtain⟨c,r,h⟩:=bJ h;obtain⟨v,b,K⟩:=bJ h;exact⟨v,K,λ_=>acm a r b⟩
 .rename_i k e a;obtain⟨v,b,K⟩:=bJ h;exact⟨v,K,λ_=>ams a b⟩
 exact h.elim
end
def Q7:SV->M
 | .agg _=>aM
 | .tup _=>aM
 | .un=>aM
 | .e=>aM
 | .c _ _=>aM
 | _=>aF
def QL:L SV->M
 | []=>aF
 | s::r=>Q7 s&&QL r
def nAb{s}(h:Q7 s=aF) β:(val β s).oneCell'=aF/\(val β s).cells=#[val β s]:=by
 cases s with
 | raw v=>
  have e:val β (.raw v)=v.v:=I;refine⟨v.one,?_⟩;obtain⟨v,a⟩:=v;cases v<;>first | rfl | (simp[Value.oneCell']at a)
 | _=>first | exact⟨I,I⟩ | (simp[Q7]at h)
def GY:∀{l:L SV},QL l=aF->∀a,(cT a l).all Value.oneCell'=aF
 | [],_,_=>rfl
 | s::r,h,a=>by
  simp[QL,B]at h;simp only[cT,cf,mf,B];exact⟨(nAb h.1 a).1,GY h.2 a⟩
def D4:SV->Option (L SV)
 | .agg l=>bif Gf l&&QL (qx l)then aN (qx l)else Pw
 | s=>bif Q7 s then aN [s]else Pw
def Ij{a:Type}{b}{x}{y:a}(h:(bif b then aN x else Pw)=aN y):b=aF/\x=y:=by
 cases b
 .cases h
 exact⟨I,U3⟩
def Bj{s}{l}(h:D4 s=aN l) β:(val β s).cells=(cT β l).toArray/\(cT β l).all Value.oneCell'=aF:=by
 unfold D4 at h;split at h
 .obtain⟨a,rfl⟩:=Ij h;simp at a;refine⟨?_,GY a.2 β⟩;show(ua β _).toArray=_;rw[pT β a.1]
 obtain⟨a,rfl⟩:=Ij h;obtain⟨b,c⟩:=nAb a β;exact⟨c,by simp[cT,b]⟩
def OD:L ay->Option (L SV)
 | []=>aN []
 | v::r=>match Wq v,OD r with
  | some s,aN l=>aN (s::l)
  | _,_=>Pw
def Dg β:∀{l:L ay} {s:L SV},OD l=aN s->cT β s=l
 | [],s,h=>by simp[OD,bP]at h;subst h;rfl
 | v::r,s,h=>by
  simp[OD]at h;split at h
  .rename_i s c a b;simp at h;subst h;have:=Dg β b;simp only[cT,cf]at this⊢;rw[D2 a,this]
  cases h
def Bq(c:L SV)(o:Nat)(v:L SV):L SV:=c.take o++v++c.drop (o+qj v)
def chK β cs o vs:cT β (Bq cs o vs)=gD (cT β cs) o (cT β vs):=by
 simp[cT,Bq,gD,cA,mg,Bc,bH]
def Ld{off}:∀s k c,off+k+qj s<=(qj c)->
  (s.zipIdx k).foldl (λc x=>c.setIfInBounds (off+x.2) x.1) c.toArray=(gD c (off+k) s).toArray
 | [],k,c,_=>by simp[gD]
 | v::s,k,c,h=>by
  simp at h;have e:c.toArray.setIfInBounds (off+k) v=(c.set (off+k) v).toArray:=X
  rw[List.zipIdx_cons,qV];rw[e,Ld s _ _ (by rw[wz];omega)];simp[gD,aZ];rw[show off+_=off+k+1 by omega,bn,sY J,Ko (H _),List.drop_set_of_lt J,show off+k+1+qj s=off+k+(qj s+1) by omega];simp
def GZ(place:Nat->Option (Nat×Nat)):L SV->L (Nat×SV)->Option (L SV)
 | cells,[]=>aN cells
 | cells,(i,v)::r=>match place i,D4 v with
  | some (off,size),aN v=>bif Nat.beq (qj v) size&&Nat.ble (off+qj v) (qj cells) then GZ place (Bq cells off v) r else Pw
  | _,_=>Pw
def D5 β {place}:∀{parts:L _} {cells r:L SV},GZ place cells parts=aN r->Instr.fill place (cT β cells).toArray (GX β parts)=aN (cT β r).toArray
 | [],cells,r,h=>by simp[GZ,bP]at h;subst h;rfl
 | _::e,cells,r,h=>by
  simp[GZ]at h;split at h
  .rename_i off s v p c;cases b:(Nat.beq (qj v) s&&Nat.ble _ (qj cells))with
   | false=>rw[b]at h;cases h
   | true=>
    rw[b]at h;simp only[B]at b;have k:=dh b.1;have l:=dz b.2;obtain⟨g,_⟩:=Bj c β;have i:=D5 β (parts:=e) (cells:=Bq cells off v) h;rw[chK]at i;simp only[GX,cf,Instr.fill,p,g,sX,gM];rw[R S];have d:=Ld (off:=off) (cT β v) 0 (cT β cells) (by rw[gM,gM];omega);rw[gy]at d;have j:(cT β v).toArray.zipIdx.foldl (λf x=>f.setIfInBounds (off+x.2) x.1) (cT β cells).toArray=(gD (cT β cells) off (cT β v)).toArray:=by
     rw[<-d];simp
    exact(bN (λa=>Instr.fill place a _) j).trans i
  cases h
def Yi(P:Program)(t:TypeId)(parts:L (Nat×SV)):Option (L SV):=
 match P.info? t,P.underlying t with
 | some i,aN (.array _ e)=>(match i.zero,P.info? e with
  | some z,aN e=>(match OD z.cells.toList with
   | some z=>GZ (λa=>aN (a*e.size,e.size)) z parts
   | none=>Pw)
  | _,_=>Pw)
 | some t,aN (.struct fields)=>(match t.zero,fields.toList.mapM (λf=>(P.info? f.type).map λi=>(f.offset,i.size))with
  | some z,aN p=>(match OD z.cells.toList with
   | some z=>GZ (p.toArray[·]?) z parts
   | none=>Pw)
  | _,_=>Pw)
 | _,_=>Pw
def acp{P}{t}{parts}{r}(h:Yi P t parts=aN r) β w:(Instr.build t (GX β parts).toArray).run P w=.ok (.agg (cT β r).toArray) w:=by
 refine run_build w t _ _ ?_;unfold Yi at h;split at h
 .rename_i i n e a b;split at h
  .rename_i z e c d;split at h
   .rename_i z f;have:=D5 β h;rw[Dg β f]at this;simp[Program.built,a,b,c,d];simpa using this
   cases h
  cases h
 .rename_i i f a b;split at h
  .rename_i z p c d;split at h
   .rename_i z e;have:=D5 β h;rw[Dg β e]at this;simp[Program.built,a,b,c,d];simpa using this
   cases h
  cases h
 cases h
def sz(P:Program)(t:TypeId)(n:Nat):M:=match P.info? t with
 | some i=>Nat.beq i.size n
 | none=>aM
def tH{P}{t}{n}(h:sz P t n=aF) w:(sizeOf t).run P w=.ok n w:=by
 unfold sz at h;rcases hi:P.info? t with _|i
 .rw[hi]at h;cases h
 rw[hi]at h;rw[<-dh h];simp[sizeOf,typeInfo,hi]
def qQ(P:Program)(t:TypeId):Nat:=match P.info? t with
 | some i=>i.size
 | none=>0
def ny{P}{t}{d}(h:P.underlying t=aN d) w:(isAgg t).run P w=.ok (pc d) w:=by
 unfold isAgg;rw[Sem.run_bind,run_underlying h];cases d<;>rfl
def OE(b:SV)(K:Nat->(Prop->Prop)->Prop):Prop:=match b with
 | .il _ n=>bif YR (0<=n)then K n.toNat id else False
 | .int _ n=>∃v,K v λp=>n=v/\p
 | _=>False
def pe{b}{K}(h:OE b K):∃(v:Nat) (e:Prop->Prop) (k:IntKind) (n:Int),K v e/\ub b=aN (k,n)/\(∀p,e p->n=v/\p):=by
 unfold OE at h;split at h
 .rename_i k n;obtain⟨a,b⟩:=eE h;have a:=u a;exact⟨_,_,k,n,b,I,λp c=>⟨J,c⟩⟩
 .rename_i k n;obtain⟨v,b⟩:=h;exact⟨v,_,k,n,b,I,λp a=>a⟩
 exact h.elim
def Hw(g:L (M×M))(s:Sl)(d:Nat)(st:St)(l h m:Option Operand)(K:SV->Prop):Prop:=match l,h,m with
 | some l,Pw,Pw=>cE (st.ev l) λa=>OE a λb e=>gi g (e (b<=s.n/\s.n<=s.c))/\K (.sl (s.cut b s.n s.c d))
 | none,aN h,Pw=>cE (st.ev h) λa=>OE a λb e=>gi g (e (b<=s.c))/\K (.sl (s.cut 0 b s.c d))
 | some l,aN h,Pw=>cE (st.ev l) λa=>cE (st.ev h) λb=>OE a λi e=>OE b λc f=>gi g (e (f (i<=c/\c<=s.c)))/\K (.sl (s.cut i c s.c d))
 | none,aN h,aN m=>cE (st.ev h) λb=>cE (st.ev m) λc=>OE b λi e=>OE c λa f=>gi g (e (f (i<=a/\a<=s.c)))/\K (.sl (s.cut 0 i a d))
 | some l,aN h,aN m=>cE (st.ev l) λa=>cE (st.ev h) λb=>cE (st.ev m) λc=>OE a λk e=>OE b λi f=>OE c λj n=>gi g (e (f (n (k<=i/\i<=j/\j<=s.c))))/\K (.sl (s.cut k i j d))
 | _,_,_=>False
def SJ(g:L (M×M))(s:ByteArray)(st:St)(l h m:Option Operand)(K:SV->Prop):Prop:=match l,h,m with
 | some l,Pw,Pw=>cE (st.ev l) λa=>OE a λb e=>gi g (e (b<=s.size))/\K (.str (s.extract b s.size))
 | none,aN h,Pw=>cE (st.ev h) λa=>OE a λb e=>gi g (e (b<=s.size))/\K (.str (s.extract 0 b))
 | some l,aN h,Pw=>cE (st.ev l) λa=>cE (st.ev h) λb=>OE a λd e=>OE b λc f=>gi g (e (f (d<=c/\c<=s.size)))/\K (.str (s.extract d c))
 | _,_,_=>False
def zU(P:Program)(b:Builtin)(d:L Operand)(c:L TypeId)(st:St)(K:SV->Prop):Prop:=match b,d,c with
 | .len,[x],[t]=>cE (st.ev x) λa=>(match P.underlying t with
  | some (.slice _)=>cE (QJ a) λs=>K (.int .i64 s.n)
  | some .string=>cE (y9 a) λs=>K (.int .i64 s.size)
  | _=>False)
 | .cap,[x],[t]=>cE (st.ev x) λa=>(match P.underlying t with
  | some (.slice _)=>cE (QJ a) λs=>K (.int .i64 s.c)
  | _=>False)
 | .min,[x,y],_=>cE (st.ev x) λa=>cE (st.ev y) λb=>cE (ub a) λp=>cE (ub b) λq=>K (.int p.1 (if q.2<p.2 then q.2 else p.2))
 | .max,[x,y],_=>cE (st.ev x) λa=>cE (st.ev y) λb=>cE (ub a) λp=>cE (ub b) λq=>K (.int p.1 (if q.2>p.2 then q.2 else p.2))
 | _,_,_=>False
def nif:TypeDesc->M
 | .interface _=>aM
 | _=>aF
def Hx(P:Program)(g:L (M×M))(st:St)(s d:TypeId)(a:SV)(K:SV->Prop):Prop:=match P.underlying s,P.underlying d with
 | some (.int _),aN (.int kd)=>cE (ub a) λp=>K (.int kd (kd.wrap p.2))
 | some .string,aN .string=>cE (y9 a) λu=>K (.str u)
 | some (.slice e),aN .string=>(match P.underlying e with
  | some (.int .u8)=>cE (QJ a) λu=>bif st.mv then False else ∃l,gi g (vW st.w0 u l)/\K (.str ⟨l.toArray⟩)
  | _=>False)
 | _,_=>False
def Nl(P:Program)(g:L (M×M))(st:St)(t:TypeId)(a:SV)(K:SV->Prop):Prop:=match P.underlying t with
 | none=>False
 | some d=>(match a with
  | .box i o=>cE (dv st.bx i) λb=>bif b.ok&&sz P t (qj ((b.cells.drop o).take (qQ P t)))&&(pc d||Nat.beq (qj ((b.cells.drop o).take (qQ P t))) 1)then K (T0 (pc d) ((b.cells.drop o).take (qQ P t)))else False
  | .ad p=>bif !st.mv&&sz P t (qj (Wt P 12 t))&&(pc d||Nat.beq (qj (Wt P 12 t)) 1)then YV (Wt P 12 t) λv=>gi g (Cells st.w0 p (cT β0 v))/\K (T0 (pc d) v)else False
  | _=>False)
def QM:Operand->M
 | .const .nilIface=>aF
 | _=>aM
def W5:ay->M
 | .nilIface=>aF
 | _=>aM
def Zr(v:ay):Prop:=v=.nilIface∨∃t x,v=.iface t x
def XU(P:Program)(g:L (M×M))(op:BinOp)(t:TypeId)(a:SV)(K:SV->Prop):Prop:=match a,P.underlying t,op with
 | .raw v,aN (.interface _),.eql=>gi g (Zr v.v)/\K (.bt (W5 v.v))
 | .raw v,aN (.interface _),.neq=>gi g (Zr v.v)/\K (.bt (!W5 v.v))
 | _,_,_=>False
def mSl{y}(h:QM y=aF):y=.const .nilIface:=by grind [QM]
def afl{P}{t}{ms}{v}(h:P.underlying t=aN (.interface ms))(a:Zr v) w:(Op.equal t v .nilIface).run P w=.ok (W5 v) w:=by
 unfold Op.equal Op.maxDepth Op.equalIn;rcases a with rfl | ⟨b,x,rfl⟩<;>simp[run_underlying h]<;>rfl
def Lh{P}{op}{t}{x}{v}(h:Zr v) w:(eqGuard op t x (.const .nilIface) v .nilIface).run P w=.ok () w:=by
 unfold eqGuard;rcases h with rfl | ⟨a,x,rfl⟩<;>first | rfl | simp
def ahq{P}{gs}{st}{K}{op}{t ty}{x}{a}(k:st.ev x=aN a)(h:XU P gs op t a K):∃v,K v/\(gh gs->∀b c j,Rep b st c j->∀d i p f g w,
  (execOp c.eval ⟨d,.binOp op t x (.const .nilIface) ty,i,p,f,g⟩).run P w=.ok (.value (val b v)) w):=by
 unfold XU at h;split at h
 .rename_i v s u;refine⟨_,h.2,λn b c j R d i p f g w=>?_⟩;have a:=jD h.1 n;have e:c.eval x=v.v:=R.ev k;have l:c.eval (.const .nilIface)=.nilIface:=I;have m:binOp .eql t v.v .nilIface=(do pure (.bool (<-Op.equal t v.v .nilIface))):=by
   rcases a with h | ⟨o,x,h⟩<;>rw[h]<;>rfl
  simp[execOp,e,l,m,Lh a,afl u a];rfl
 .rename_i v s u;refine⟨_,h.2,λn b c j R d i p f g w=>?_⟩;have a:=jD h.1 n;have e:c.eval x=v.v:=R.ev k;have l:c.eval (.const .nilIface)=.nilIface:=I;have m:binOp .neq t v.v .nilIface=(do pure (.bool (!(<-Op.equal t v.v .nilIface)))):=by
   rcases a with h | ⟨o,x,h⟩<;>rw[h]<;>rfl
  simp[execOp,e,l,m,Lh a,afl u a];rfl
 exact h.elim
def QN(p:Addr)(i:Int)(len s:Nat)(q:Addr):Prop:=0<=i/\i<len/\p.add (i.toNat*s)=q
def MY(n:Int)(F:Nat->Prop):Nat->Prop
 | 0=>True
 | 1=>n=0->F 0
 | j+2=>MY n F (j+1)/\(n=((j+1))->F (j+1))
def QO{n}{F}:∀{m:Nat},MY n F m->0<=n->n<m->F n.toNat
 | 0,_,h,a=>J
 | 1,h,a,b=>by
  have e:n=0:=J
  subst e;exact h I
 | j+2,h,a,b=>by
  by_cases e:n=((j+1))
  .have:=h.2 e;simp_all
  exact QO h.1 a J
def Ud(P:Program)(g:L (M×M))(st:St)(o:Op)(K:SV->Prop):Prop:=match o with
 | .move x=>cE (st.ev x) K
 | .assign x=>cE (st.ev x) K
 | .pick c x y=>cE (st.ev c) λc=>(match c with
  | .bl aF=>cE (st.ev x) K
  | .bl aM=>cE (st.ev y) K
  | _=>False)
 | .binOp op t x y _=>cE (st.ev x) λa=>cE (st.ev y) λb=>bif QM y then XU P g op t a K else Cs P g op t a b K
 | .unOp .not _ x=>cE (st.ev x) λa=>(match a with
  | .bl b=>K (.bl (!b))
  | .bt b=>K (.bt (!b))
  | _=>False)
 | .unOp .neg _ x=>cE (st.ev x) λa=>cE (ub a) λp=>K (.int p.1 (p.1.wrap (0-p.2)))
 | .convert s d x=>cE (st.ev x) λa=>Hx P g st s d a K
 | .extract x i=>cE (st.ev x) λa=>(match a with
  | .tup l=>bif Gf l then cE ((qx l)[i]?) K else False
  | _=>False)
 | .build t p=>cE (st.evp p.toList) λps=>cE (Yi P t ps) λr=>K (.agg (Ii r))
 | .makeFunc n h c=>(match n with
  | .func f=>cE (st.Te h.toList) λa=>cE (st.Te c.toList) λb=>K (.fn f (Ii a) (Ii b))
  | _=>False)
 | .makeInterface t x=>cE (st.ev x) λa=>cE (P.underlying t) λd=>bif nif d&&cln (λ_=>aM) a then K (.raw ⟨.iface t (val β0 a),I⟩)else False
 | .nilCheck x=>cE (st.ev x) λa=>(match a with
  | .ad p=>K (.ad p)
  | .box i o=>K (.box i o)
  | .ptr p=>∃q,gi g (p=aN q)/\K (.ad q)
  | .fn f .e c=>K (.fn f .e c)
  | _=>False)
 | .fieldAddr s x k=>cE (st.ev x) λa=>(match P.underlying s with
  | some (.struct h)=>cE (h[k]?) λf=>bif Nat.ble 1 (qQ P f.type)then(match a with
   | .ad p=>K (.ad (p.add f.offset))
   | .box i o=>K (.box i (o+f.offset))
   | _=>False)else False
  | _=>False)
 | .field t x k=>cE (st.ev x) λa=>(match a,P.underlying t with
  | .agg l,aN (.struct h)=>cE (h[k]?) λf=>cE (P.underlying f.type) λd=>bif Gf l&&sz P f.type (qj (((qx l).drop f.offset).take (qQ P f.type)))&&(pc d||Nat.beq (qj (((qx l).drop f.offset).take (qQ P f.type))) 1)
   then K (T0 (pc d) (((qx l).drop f.offset).take (qQ P f.type)))else False
  | _,_=>False)
 | .indexAddr t x i=>cE (st.ev x) λa=>cE (st.ev i) λj=>cE (ub j) λn=>(match P.underlying t with
  | some (.slice e)=>cE (QJ a) λs=>bif (P.info? e).isSome then ∃q,gi g (cK s n.2 (qQ P e) q)/\K (.ad q)else False
  | some (.array len e)=>bif (P.info? e).isSome then(match a,j with
   | .box b o,.il _ n=>bif YR (0<=n)&&YR (n<len)then K (.box b (o+n.toNat*qQ P e))else False
   | .ad p,.il _ n=>bif YR (0<=n)&&YR (n<len)then K (.ad (p.add (n.toNat*qQ P e)))else False
   | .ad p,_=>∃q,gi g (QN p n.2 len (qQ P e) q)/\K (.ad q)
   | .box b o,_=>bif Nat.ble len 8 then(0<=n.2/\n.2<len)/\MY n.2 (λj=>K (.box b (o+j*qQ P e))) len else False
   | _,_=>False)else False
  | _=>False)
 | .load t x=>cE (st.ev x) λa=>Nl P g st t a K
 | .index t x i=>cE (st.ev x) λa=>cE (st.ev i) λj=>cE (ub j) λn=>(match P.underlying t with
  | some .string=>cE (y9 a) λs=>∃c,gi g (0<=n.2/\s[n.2.toNat]? =aN c)/\K (.int .u8 c.toNat)
  | _=>False)
 | .slice t x l i m=>cE (st.ev x) λa=>(match P.underlying t with
  | some (.slice e)=>cE (QJ a) λs=>bif (P.info? e).isSome then Hw g s (qQ P e) st l i m K else False
  | some .string=>cE (y9 a) λs=>SJ g s st l i m K
  | _=>False)
 | .call c=>(match c.callee with
  | .builtin b=>zU P b c.args.toList c.argTypes.toList st K
  | _=>False)
 | _=>False
def mem:Op->M
 | .load _ _=>aF
 | .convert _ _ _=>aF
 | _=>aM
def Y(P:Program)(st:St)(o:Op)(v:SV):Prop:=∀c a b,Rep c st a b->∀d t p f g w,(mem o=aF->w.heap=b.heap)->
 (execOp a.eval ⟨d,o,t,p,f,g⟩).run P w=.ok (.value (val c v)) w
def nA{P}{t}(h:(P.info? t).isSome=aF) w:(sizeOf t).run P w=.ok (qQ P t) w:=by
 unfold qQ;rcases hi:P.info? t with _|i
 .rw[hi]at h;cases h
 simp[sizeOf,typeInfo,hi]
def Ik b o n:(⟨b,o,Pw⟩:Addr).add n=⟨b,o+n,Pw⟩:=by unfold Addr.add;split<;>simp_all
def th{d}(h:pc d=aF) β l:val β (T0 (pc d) l)=.agg (cT β l).toArray:=by
 rw[h];show Value.agg (ua β _).toArray=_;rw[vh]
def D6{l:L SV}(h:Nat.beq (qj l) 1=aF):∃s,l=[s]:=by
 have:=dh h
 match l,this with
 | [s],_=>exact⟨s,I⟩
section
variable {P:Program} {gs:L (M×M)} {st:St} {K:SV->Prop}
def aht{t}{x}{a}(c:st.ev x=aN a)(h:Nl P gs st t a K):∃v,K v/\(gh gs->Y P st (.load t x) v):=by
 unfold Nl at h;split at h
 .exact h.elim
 rename_i d u;split at h
 .rename_i k m;obtain⟨b,q,h⟩:=bJ h;obtain⟨i,n⟩:=eE h;simp only[B,cy]at i;obtain⟨⟨M,z⟩,o⟩:=i;refine⟨_,n,λ_ f act D R t A p x y w r=>?_⟩;have j:=(R.bx k b q M).blk;have g:Blk w (f k) b.ty (cT f b.cells):=by unfold Blk at j⊢;rw[r I];exact j
  have T:=R.ev c;generalize v:(b.cells.drop m).take _=l at*
  have C:Cells w _ (cT f l):=g.JR m _ (by
   rw[<-v];simp only[cT,mg,Bc];rw[ci,tX];simp only[cD,bH];omega)
  rcases o with a | o
  .rw[th a];have:=ny (P:=P) u w;rw[a]at this;exact xI this (tH z w) (gM f l) T C
  cases a:pc d
  .obtain⟨s,rfl⟩:=D6 o;have:=ny (P:=P) u w;rw[a]at this;exact H4 this T (Xz C)
  have e:=th a f l;rw[a]at e;rw[e];have:=ny (P:=P) u w;rw[a]at this;exact xI this (tH z w) (gM f l) T C
 .rename_i ad;obtain⟨f,j⟩:=eE h;simp only[B,cy,da]at f;obtain⟨⟨W,z⟩,o⟩:=f;obtain⟨v,⟨F,K⟩,i,n⟩:=wI j;refine⟨_,K,λk b act y R t x p q g a l=>?_⟩;have m:=R.still W;subst m;have C:Cells a ad (cT b v):=by
   rw[jC (β:=b) (β':=β0) (g:=λ_=>aM) (λr h=>Ue) v (n _)];exact(jD F k).keep (by rw[l I])
  have T:=R.ev c;rw[<-i]at z o;rcases o with w | o
  .rw[th w];have:=ny (P:=P) u a;rw[w]at this;exact xI this (tH z a) (gM b v) T C
  cases w:pc d
  .obtain⟨s,rfl⟩:=D6 o;have:=ny (P:=P) u a;rw[w]at this;exact H4 this T (Xz C)
  have e:=th w b v;rw[w]at e;rw[e];have:=ny (P:=P) u a;rw[w]at this;exact xI this (tH z a) (gM b v) T C
 exact h.elim
def ahu{s d}{x}{a}(b:st.ev x=aN a)(h:Hx P gs st s d a K):∃v,K v/\(gh gs->Y P st (.convert s d x) v):=by
 unfold Hx at h;split at h
 .rename_i s kd a c;obtain⟨⟨k,n⟩,e,h⟩:=bJ h;exact⟨_,h,λ_ f act l R d t p g i w j=>aiJ (run_underlying a w) (run_underlying c w) ((R.ev b).trans (dR e f))⟩
 .rename_i a c;obtain⟨u,e,h⟩:=bJ h;exact⟨_,h,λ_ f act k R d t p g i w j=>GS (run_underlying a w) (run_underlying c w) ((R.ev b).trans (jT e f))⟩
 .rename_i e a c;split at h
  .rename_i d;obtain⟨u,e,h⟩:=bJ h;cases m:st.mv
   .rw[m]at h;obtain⟨l,F,K⟩:=h;refine⟨_,K,λg i act n R s t p j k o f=>?_⟩;have w:=R.still m;subst w;exact mvv a d c ((R.ev b).trans (mE e i)) (kdN _ _ (by rw[f I]) (jD F g))
   rw[m]at h;exact h.elim
  exact h.elim
 exact h.elim
def ahv{b}{xs}{ts}(h:zU P b xs ts st K):∃v,K v/\(gh gs->Y P st (.call ⟨.builtin b,xs.toArray,ts.toArray⟩) v):=by
 unfold zU at h;split at h
 .obtain⟨a,x,h⟩:=bJ h;split at h
  .rename_i u;obtain⟨s,a,h⟩:=bJ h;exact⟨_,h,λ_ b act e R d t p f g w c=>amd (run_underlying u w) ((R.ev x).trans (mE a b))⟩
  .rename_i u;obtain⟨s,a,h⟩:=bJ h;exact⟨_,h,λ_ b act e R d t p f g w c=>enO (run_underlying u w) ((R.ev x).trans (jT a b))⟩
  exact h.elim
 .obtain⟨a,x,h⟩:=bJ h;split at h
  .rename_i u;obtain⟨s,a,h⟩:=bJ h;exact⟨_,h,λ_ b act e R d t p f g w c=>ami (run_underlying u w) ((R.ev x).trans (mE a b))⟩
  exact h.elim
 .obtain⟨a,x,h⟩:=bJ h;obtain⟨b,y,h⟩:=bJ h;obtain⟨⟨k,m⟩,e,h⟩:=bJ h;obtain⟨_,q,h⟩:=bJ h;exact⟨_,h,λ_ c act w R d t p f g j i=>amj ((R.ev x).trans (dR e c)) ((R.ev y).trans (dR q c))⟩
 .obtain⟨a,x,h⟩:=bJ h;obtain⟨b,y,h⟩:=bJ h;obtain⟨⟨k,m⟩,e,h⟩:=bJ h;obtain⟨_,q,h⟩:=bJ h;exact⟨_,h,λ_ c act w R d t p f g j i=>amk ((R.ev x).trans (dR e c)) ((R.ev y).trans (dR q c))⟩
 exact h.elim
def ahw{t e}{x}{lo hi mx}{a}{s}(u:P.underlying t=aN (.slice e))(F:(P.info? e).isSome=aF)(c:st.ev x=aN a)(b:QJ a=aN s)(h:Hw gs s (qQ P e) st lo hi mx K):∃v,K v/\(gh gs->Y P st (.slice t x lo hi mx) v):=by
 unfold Hw at h;split at h
 .obtain⟨j,e,h⟩:=bJ h;obtain⟨r,l,q,s,⟨f,K⟩,o,i⟩:=pe h;refine⟨_,K,λg a act v R d t p k m w n=>?_⟩;obtain⟨rfl,f1,f2⟩:=i _ (jD f g);exact xCB (run_underlying u w) (nA F w) ((R.ev c).trans (mE b a)) ((R.ev e).trans (dR o a)) f1 f2 (H _)
 .obtain⟨j,e,h⟩:=bJ h;obtain⟨r,l,q,s,⟨f,K⟩,o,i⟩:=pe h;refine⟨_,K,λg a act v R d t p k m w n=>?_⟩;obtain⟨rfl,f1⟩:=i _ (jD f g);exact ah1 (run_underlying u w) (nA F w) ((R.ev c).trans (mE b a)) ((R.ev e).trans (dR o a)) (bf _) f1 (H _)
 .obtain⟨m,e,h⟩:=bJ h;obtain⟨n,f,h⟩:=bJ h;obtain⟨z,r,x,B,h,o,k⟩:=pe h;obtain⟨A,s,y,C,⟨g,K⟩,j,l⟩:=pe h;refine⟨_,K,λi a act E R d D p q t w v=>?_⟩;obtain⟨rfl,f1⟩:=k _ (jD g i);obtain⟨rfl,f1,f2⟩:=l _ f1;exact ajD (run_underlying u w) (nA F w) ((R.ev c).trans (mE b a)) ((R.ev e).trans (dR o a)) ((R.ev f).trans (dR j a)) f1 f2 (H _)
 .obtain⟨m,e,h⟩:=bJ h;obtain⟨n,f,h⟩:=bJ h;obtain⟨z,r,x,B,h,o,k⟩:=pe h;obtain⟨A,s,y,C,⟨g,K⟩,j,l⟩:=pe h;refine⟨_,K,λi a act E R d D p q t w v=>?_⟩;obtain⟨rfl,f1⟩:=k _ (jD g i);obtain⟨rfl,f1,f2⟩:=l _ f1;exact ag6 (run_underlying u w) (nA F w) ((R.ev c).trans (mE b a)) ((R.ev e).trans (dR o a)) ((R.ev f).trans (dR j a)) (bf _) f1 f2
 .obtain⟨s,e,h⟩:=bJ h;obtain⟨t,f,h⟩:=bJ h;obtain⟨v,g,h⟩:=bJ h;obtain⟨G,y,D,J,h,o,m⟩:=pe h;obtain⟨I,z,E,L,h,k,n⟩:=pe h;obtain⟨q,A,k3,M,⟨i,K⟩,l,r⟩:=pe h;refine⟨_,K,λj a act O R d N p x B w C=>?_⟩;obtain⟨rfl,f1⟩:=m _ (jD i j);obtain⟨rfl,f1⟩:=n _ f1;obtain⟨rfl,f1,f2,f3⟩:=r _ f1;exact inz (run_underlying u w) (nA F w) ((R.ev c).trans (mE b a)) ((R.ev e).trans (dR o a)) ((R.ev f).trans (dR k a)) ((R.ev g).trans (dR l a)) f1 f2 f3
 exact h.elim
def ahx{t}{x}{lo hi mx}{a}{s}(u:P.underlying t=aN .string)(c:st.ev x=aN a)(b:y9 a=aN s)(h:SJ gs s st lo hi mx K):∃v,K v/\(gh gs->Y P st (.slice t x lo hi mx) v):=by
 unfold SJ at h;split at h
 .obtain⟨i,e,h⟩:=bJ h;obtain⟨q,k,n,r,⟨F,K⟩,o,f⟩:=pe h;refine⟨_,K,λg a act s R d t p j l w m=>?_⟩;obtain⟨rfl,f1⟩:=f _ (jD F g);exact aje (run_underlying u w) ((R.ev c).trans (jT b a)) ((R.ev e).trans (dR o a)) f1 (H _)
 .obtain⟨i,e,h⟩:=bJ h;obtain⟨q,k,n,r,⟨F,K⟩,o,f⟩:=pe h;refine⟨_,K,λg a act s R d t p j l w m=>?_⟩;obtain⟨rfl,f1⟩:=f _ (jD F g);exact aci (run_underlying u w) ((R.ev c).trans (jT b a)) ((R.ev e).trans (dR o a)) (bf _) f1
 .obtain⟨l,e,h⟩:=bJ h;obtain⟨m,f,h⟩:=bJ h;obtain⟨y,q,v,A,h,o,j⟩:=pe h;obtain⟨z,r,x,B,⟨F,K⟩,i,k⟩:=pe h;refine⟨_,K,λg a act D R d C p n s w t=>?_⟩;obtain⟨rfl,f1⟩:=j _ (jD F g);obtain⟨rfl,f1,f2⟩:=k _ f1;exact ab4 (run_underlying u w) ((R.ev c).trans (jT b a)) ((R.ev e).trans (dR o a)) ((R.ev f).trans (dR i a)) f1 f2
 exact h.elim
def acq{t}{d}{l:L ay}{off n}(u:P.underlying t=aN d)(a:sz P t n=aF)(c:pc d=aF) w:(part t l.toArray off).run P w=.ok (.agg ((l.drop off).take n).toArray) w:=by
 have h:=ny (P:=P) u w;rw[c]at h;unfold part;simp only[Sem.run_bind,h,Result.andThen_ok,H2,tH a w,Sem.run_pure];simp
def zSl{t}{d}{l:L ay}{off}{v}(u:P.underlying t=aN d)(c:pc d=aM)(a:l[off]? =aN v) w:(part t l.toArray off).run P w=.ok v w:=by
 have h:=ny (P:=P) u w;rw[c]at h;unfold part;simp_all
def OG{o:Op}(h:Ud P gs st o K):∃v,K v/\(gh gs->Y P st o v):=by
 unfold Ud at h;split at h
 .obtain⟨v,x,K⟩:=bJ h;exact⟨v,K,λ_ e act w R d t p a g c b=>by simp only[execOp,R.ev x,Sem.run_pure]⟩
 .obtain⟨v,x,K⟩:=bJ h;exact⟨v,K,λ_ e act w R d t p a g c b=>by simp only[execOp,R.ev x,Sem.run_pure]⟩
 .obtain⟨c,a,h⟩:=bJ h;split at h
  .obtain⟨v,x,K⟩:=bJ h;exact⟨v,K,λ_ e act w R d t p f g c b=>ab9 (R.ev a) (R.ev x)⟩
  .obtain⟨v,x,K⟩:=bJ h;exact⟨v,K,λ_ e act w R d t p f g c b=>aca (R.ev a) (R.ev x)⟩
  exact h.elim
 .rename_i op t x y f;obtain⟨a,c,h⟩:=bJ h;obtain⟨b,d,h⟩:=bJ h;cases n:QM y with
  | true=>
   rw[n]at h;have e:=mSl n;subst e;obtain⟨v,K,r⟩:=ahq c h;exact⟨v,K,λg a act w R s t p b i k j=>r g a act w R _ _ _ _ _ _⟩
  | false=>
  rw[n]at h;obtain⟨v,K,r⟩:=acn h;exact⟨v,K,λg a act w R s t p b e j i=>r g a act _ _ _ _ _ _ _ _ _ (R.ev c) (R.ev d)⟩
 .obtain⟨a,x,h⟩:=bJ h;split at h
  .exact⟨_,h,λ_ e act w R d t p a g c b=>by simp only[execOp,R.ev x];rfl⟩
  .exact⟨_,h,λ_ e act w R d t p a g c b=>by simp only[execOp,R.ev x];rfl⟩
  exact h.elim
 .obtain⟨a,x,h⟩:=bJ h;obtain⟨⟨k,n⟩,b,h⟩:=bJ h;exact⟨_,h,λ_ i act w R d t p f g e c=>by simp only[execOp,R.ev x,dR b];rfl⟩
 .obtain⟨a,x,h⟩:=bJ h;exact ahu x h
 .rename_i x i;obtain⟨a,b,h⟩:=bJ h;split at h
  .rename_i l;obtain⟨f,h⟩:=eE h;obtain⟨v,g,K⟩:=bJ h;refine⟨v,K,λ_ a act w R d t p j k n m=>?_⟩;have e:=(R.ev b).trans (by
    show Value.tuple (ua a l).toArray=_;rw[pT a f])
   have c:(cT a (qx l))[i]? =aN (val a v):=by rw[cT,cw,g];rfl
   simp only[execOp,e,Instr.extract];simp[c]
  exact h.elim
 .rename_i t a;obtain⟨ps,c,h⟩:=bJ h;obtain⟨r,f,K⟩:=bJ h;refine⟨_,K,λ_ b act l R d k p g i w j=>?_⟩;have e:val b (.agg (Ii r))=.agg (cT b r).toArray:=by
   show Value.agg (ua b (Ii r)).toArray=_;rw[vh]
  rw[e];obtain⟨pl⟩:=a;exact acb (R.evp c) (acp f b w)
 .rename_i n s c;split at h
  .rename_i f;obtain⟨a,i,h⟩:=bJ h;obtain⟨b,j,K⟩:=bJ h;refine⟨_,K,λ_ m act w R d t p e g k l=>?_⟩;obtain⟨cl⟩:=c;have:=aeQ (P:=P) (w:=k) (dst:=d) (t':=t) (p:=p) (af:=e) (g:=g) (fn:=.func f) (R.Te i) (R.Te j);rw[<-vh,<-vh]at this;exact this
  exact h.elim
 .obtain⟨a,x,h⟩:=bJ h;obtain⟨d,u,h⟩:=bJ h;obtain⟨b,K⟩:=eE h;simp at b;refine⟨_,K,λ_ c act k R s t p f g w i=>?_⟩;have e:val c a=val β0 a:=kD (g:=λ_=>aM) (λj h=>Ue) a b.2;exact acd (run_underlying u w) (by unfold nif at b;cases d<;>first | rfl | exact b.1) ((R.ev x).trans e)
 .obtain⟨a,x,h⟩:=bJ h;split at h
  .exact⟨_,h,λ_ e act w R d t p a g c b=>We (R.ev x)⟩
  .exact⟨_,h,λ_ e act w R d t p a g c b=>We (R.ev x)⟩
  .obtain⟨q,F,K⟩:=h;refine⟨_,K,λg f act w R d t p a b e c=>We ((R.ev x).trans ?_)⟩;have:=jD F g;subst this;rfl
  .exact⟨_,h,λ_ f act w R d t p a g c b=>by
    have e:=R.ev x;simp only[execOp,e,Sem.run_pure,val,ua,List.headD_cons]⟩
  exact h.elim
 .obtain⟨a,x,h⟩:=bJ h;split at h
  .rename_i c u;obtain⟨f,b,h⟩:=bJ h;obtain⟨a,h⟩:=eE h;have a:=dz a;have s:(P.info? f.type).isSome=aF:=by
    unfold qQ at a;split at a
    .rename_i h;rw[h];rfl
    omega
   obtain⟨d,m⟩:∃d,qQ P f.type=d+1:=⟨qQ P f.type-1,J⟩
   split at h
   .exact⟨_,h,λ_ k act j R t i p f g w e=>QF (run_underlying u w) b (by rw[nA s,m]) (R.ev x) I⟩
   .exact⟨_,h,λ_ k act j R t i p f g w e=>QF (run_underlying u w) b (by rw[nA s,m]) (R.ev x) (Ik _ _ _)⟩
   exact h.elim
  exact h.elim
 .obtain⟨a,x,h⟩:=bJ h;split at h
  .rename_i l m u;obtain⟨f,g,h⟩:=bJ h;obtain⟨d,hd,h⟩:=bJ h;obtain⟨c,K⟩:=eE h;simp only[B,cy]at c;obtain⟨⟨i,z⟩,b⟩:=c;refine⟨_,K,λ_ a act y R t r p j n w q=>?_⟩;have e:=(R.ev x).trans (by
    show Value.agg (ua a l).toArray=_;rw[pT a i])
   have v:cT a (((qx l).drop f.offset).take (qQ P f.type))=((cT a (qx l)).drop f.offset).take (qQ P f.type):=by
    simp only[cT,mg,Bc]
   have k:(part f.type (cT a (qx l)).toArray f.offset).run P w=.ok (val a (T0 (pc d) (((qx l).drop f.offset).take (qQ P f.type)))) w:=by
    cases e:pc d
    .rcases b with b | b
     .rw[e]at b;cases b
     obtain⟨s,d⟩:=D6 b;rw[d];refine zSl hd e ?_ w;have h:(((qx l).drop f.offset).take (qQ P f.type))[0]? =aN s:=by rw[d];rfl
     rw[yJ]at h;split at h
     .rw[iC,gy]at h;rw[cT,cw,h];rfl
     cases h
    have d:=th e a (((qx l).drop f.offset).take (qQ P f.type));rw[e]at d;rw[d,v];rw[acq (l:=cT a (qx l)) (off:=f.offset) hd z e w];congr 3;rw[tX];simp only[ci,cD,gM];omega
   simp only[execOp,e,Instr.field,Sem.run_bind,run_underlying u,Result.andThen_ok,g,asAgg,Sem.run_pure,k]
  exact h.elim
 .obtain⟨a,x,h⟩:=bJ h;obtain⟨c,j,h⟩:=bJ h;obtain⟨⟨k,n⟩,b,h⟩:=bJ h;split at h
  .rename_i e u;obtain⟨s,f,h⟩:=bJ h;obtain⟨i,h⟩:=eE h;obtain⟨q,F,K⟩:=h;exact⟨_,K,λg a act n R d t p k l w m=>aey (run_underlying u w) (nA i w) ((R.ev x).trans (mE f a)) ((R.ev j).trans (dR b a)) (jD F g)⟩
  .rename_i len e u;obtain⟨i,h⟩:=eE h;split at h
   .obtain⟨a,K⟩:=eE h;simp at a;exact⟨_,K,λe m act l R d t p f g w k=>zP (run_underlying u w) (nA i w) (R.ev x) (R.ev j) a.1 a.2 (Ik _ _ _)⟩
   .obtain⟨a,K⟩:=eE h;simp at a;exact⟨_,K,λe m act l R d t p f g w k=>zP (run_underlying u w) (nA i w) (R.ev x) (R.ev j) a.1 a.2 I⟩
   .obtain⟨q,F,K⟩:=h;exact⟨_,K,λg a act l R d t p f e w k=>zP (run_underlying u w) (nA i w) (R.ev x) ((R.ev j).trans (dR b a)) (jD F g).1 (jD F g).2.1 (jD F g).2.2⟩
   .obtain⟨_,⟨a,d⟩,K⟩:=eE h;exact⟨_,QO K a d,λk e act m R s t p f g w l=>zP (run_underlying u w) (nA i w) (R.ev x) ((R.ev j).trans (dR b e)) a d (Ik _ _ _)⟩
   exact h.elim
  exact h.elim
 .obtain⟨a,x,h⟩:=bJ h;exact aht x h
 .obtain⟨a,x,h⟩:=bJ h;obtain⟨d,j,h⟩:=bJ h;obtain⟨⟨k,n⟩,b,h⟩:=bJ h;split at h
  .rename_i u;obtain⟨s,e,h⟩:=bJ h;obtain⟨c,F,K⟩:=h;exact⟨_,K,λg a act m R t l p f i w k=>ajl (run_underlying u w) ((R.ev x).trans (jT e a)) ((R.ev j).trans (dR b a)) (jD F g).1 (jD F g).2⟩
  exact h.elim
 .obtain⟨a,x,h⟩:=bJ h;split at h
  .rename_i e u;obtain⟨s,a,h⟩:=bJ h;obtain⟨i,h⟩:=eE h;exact ahw u i x a h
  .rename_i u;obtain⟨s,a,h⟩:=bJ h;exact ahx u x a h
  exact h.elim
 .rename_i c;obtain⟨a,⟨x⟩,⟨t⟩⟩:=c;split at h
  .rename_i b c;subst c;exact ahv h
  exact h.elim
 exact h.elim
end
structure aeA (β:Nat->Nat) (n:Nat) (fr:List (Nat×Nat×SV)) (D:List Deferred) (a:Act):Prop where
 sz:a.tmps.size=n
 df:a.defers=D
 at_:∀i p,eW fr i=aN p->i<n->a.tmps[i]? =aN (val β p.2)
def vi{β}{n}{fr}{D}{a}(b:aeA β n fr D a):∃u,a=Uw n u (cv β fr) D:=by
 refine⟨λi=>(a.tmps[i]?).getD undef,?_⟩;obtain⟨t,df⟩:=a;obtain⟨c,d,e⟩:=b;dsimp only at c d e;congr 1;apply Array.ext';apply oa;intro i;by_cases h:i<n
 .rw[pS _ _ _ _ _ h,bR];rcases hl:eW fr i with _|p
  .rw[Ih (l:=cv β fr) UJ]
   grind
  rw[xK (l:=cv β fr) (v:=val β p.2) UJ]
  grind
 rw[cW S,cW (by rw[qY];exact jy h)]
def acr{β}{n}{fr}{D}{us}:aeA β n fr D (Uw n us (cv β fr) D):=by
 refine⟨by simp[Uw,qY],I,λi p hl h=>?_⟩;simp[Uw];rw[pS _ _ _ _ _ h,bR,xK (l:=cv β fr) (v:=val β p.2) UJ]
def Rep.ok{β}{st}{a}{w}(h:Rep β st a w):aeA β st.n st.fr (UH st.df) a:=by
 obtain⟨u,rfl⟩:=h.fr;exact acr
def Zj(st:St)(o:L Oper)(j:Nat):Option (Nat×SV):=match jd o j with
 | some a=>(match a.dst with
  | some d=>(st.get d).map λs=>(d,s)
  | none=>Pw)
 | none=>Pw
def D7{st}{ops}{j d}{s}(h:Zj st ops j=aN (d,s)):∃o,jd ops j=aN o/\o.dst=aN d/\st.get d=aN s:=by
 unfold Zj at h;split at h
 .rename_i b a;split at h
  .rename_i e c;cases g:st.get e<;>grind
  cases h
 cases h
section
variable {β:Nat->Nat} {st:St} {a:Act} {w:aw} {ops:L Oper} {o:Oper} {j d:Nat} {want b:M}
def uc(R:Rep β st a w)(g:o.guard=aN (j,want)){s}(t:Zj st ops j=aN (d,s))(f:val β s=.bool b):Region.wanted o (yielded ops.toArray a.tmps)=(b==want):=by
 obtain⟨i,h,c,e⟩:=D7 t;obtain⟨u,rfl⟩:=R.fr;exact wtF g h c (by rw[<-f];exact St.evO β e) I
def Bk(R:Rep β st a w)(g:o.guard=aN (j,want))(t:Zj st ops j=aN (d,.un)):Region.wanted o (yielded ops.toArray a.tmps)=aM:=by
 obtain⟨e,h,b,c⟩:=D7 t;obtain⟨u,rfl⟩:=R.fr;exact wuF g h b (St.evO β (x:=.tmp d) (s:=.un) c)
def Rep.set(R:Rep β st a w){s s'}(h:st.get d=aN s)(v:val β s=val β s'):Rep β (st.put (aN d) s') a w:=by
 refine⟨vi ⟨R.ok.sz,R.ok.df,λc p hl i=>?_⟩,R.bx,R.ne,R.only,R.still⟩;simp[St.put,eW]at hl;cases b:Nat.beq d c
 .rw[b]at hl;exact R.ok.at_ c p G5 i
 rw[b]at hl;simp at hl;subst hl;have:=dh b;subst this;unfold St.get at h;cases W:Nat.blt d st.n
 .rw[W]at h;cases h
 rw[W]at h;rcases hq:eW st.fr d with _|q
 .rw[hq]at h;cases h
 rw[hq]at h;simp at h;rw[R.ok.at_ d q hq i,h,v]
end
section
variable {P:Program} {ops:L Oper} {w:aw}
def zV(P:Program)(o:L Oper)(w:aw):L Oper->Act->Act->Prop
 | [],a,b=>b=a
 | b::r,a,d=>(Region.wanted b (yielded o.toArray a.tmps)=aF/\∃v,(∀c,c.heap=w.heap->(execOp a.eval b).run P c=.ok (.value v) c)/\zV P o w r (a.put b.dst v) d)∨
  (Region.wanted b (yielded o.toArray a.tmps)=aM/\zV P o w r (a.put b.dst undef) d)
def D8:∀{l m:L Oper} {a b c:Act},zV P ops w l a b->zV P ops w m b c->zV P ops w (l++m) a c
 | [],_,_,_,_,h,k=>by
  subst h;exact k
 | o::r,m,a,b,c,e,k=>by
  rcases e with⟨h,v,f,d⟩ | ⟨h,d⟩
  .exact .inl ⟨h,v,f,D8 (l:=r) d k⟩
  exact .inr ⟨h,D8 (l:=r) d k⟩
def Il{Q}:∀{l rest:L Oper} {a c:Act},zV P ops w l a c->wpList P ops.toArray Q rest c w->wpList P ops.toArray Q (l++rest) a w
 | [],_,_,_,h,k=>by
  subst h;exact k
 | o::r,m,a,b,e,k=>by
  rcases e with⟨h,v,f,d⟩ | ⟨h,d⟩
  .exact Oi v h (f w I) I (Il (l:=r) d k)
  exact afd h I (Il (l:=r) d k)
def OH{Q}:∀{l rest:L Oper} {a d:Act},zV P ops w l a d->wpQuiet P ops.toArray (λc=>∃n,c=w.drewN n) Q rest d->wpQuiet P ops.toArray (λc=>∃n,c=w.drewN n) Q (l++rest) a
 | [],_,_,_,h,k=>by
  subst h;exact k
 | o::r,m,a,b,f,k=>by
  rcases f with⟨h,v,g,e⟩ | ⟨h,e⟩
  .exact aml v h (by rintro _ ⟨n,rfl⟩;exact g _ I) I (OH (l:=r) e k)
  exact aui h I (OH (l:=r) e k)
def Im:L Oper->L Nat
 | []=>[]
 | o::r=>match o.dst with
  | some d=>d::Im r
  | none=>Im r
def mW(a:Act) d v:(a.put d v).tmps.size=a.tmps.size/\(a.put d v).defers=a.defers/\∀i,d≠aN i->(a.put d v).tmps[i]? =a.tmps[i]? :=by
 rcases d with _|k
 .exact⟨I,I,λ_ _=>I⟩
 refine⟨by simp[Act.put],I,λi h=>?_⟩;simp[Act.put]
 grind
def D9:∀{l:L Oper} {a c:Act},zV P ops w l a c->c.tmps.size=a.tmps.size/\c.defers=a.defers/\∀i,(Im l).elem i=aM->c.tmps[i]? =a.tmps[i]?
 | [],_,_,h=>by
  subst h;exact⟨I,I,λ_ _=>I⟩
 | o::r,a,b,e=>by
  have k:∀v,zV P ops w r _ b->b.tmps.size=a.tmps.size/\b.defers=a.defers/\∀i,(Im (o::r)).elem i=aM->b.tmps[i]? =a.tmps[i]? :=λv h=>by
   obtain⟨j,m,k3⟩:=D9 h;obtain⟨p,n,q⟩:=mW a o.dst v;refine⟨j.trans p,m.trans n,λi b=>?_⟩;rcases hd:o.dst with _|d
   .simp only[Im,hd]at b;simp_all
   simp only[Im,hd,yK]at b;split at b<;>grind
  rcases e with⟨f,v,g,h⟩ | _<;>grind
end
def amv(o:L Oper):Nat->Nat->Nat->M
 | 0,_,_=>aM
 | f+1,q,j=>bif Nat.beq q j then aF else match jd o q with
  | some a=>(match a.guard with
   | some (r,_)=>amv o f r j
   | none=>aM)
  | none=>aM
def CR(o:L Oper)(j:Nat):L Oper->Nat
 | []=>0
 | a::r=>match a.guard with
  | some (q,_)=>bif amv o 50 q j then CR o j r+1 else 0
  | none=>0
def SF(t:M)(a b:SV):Option SV:=match a,b with
 | .bl aF,.bl aM=>aN (.bt t)
 | .bl aF,.bt y=>aN (.bt (t||y))
 | .bt x,.bl aM=>aN (.bt (t&&x))
 | .bl aM,.bl aF=>aN (.bt (!t))
 | .bl aM,.bt y=>aN (.bt (!t&&y))
 | .bt x,.bl aF=>aN (.bt (!t||x))
 | .bt x,.bt y=>aN (.bt (bif t then x else y))
 | .bl aF,.bl aF=>aN (.bl aF)
 | .bl aM,.bl aM=>aN (.bl aM)
 | _,_=>Pw
def At5{t}{a b v}(h:SF t a b=aN v) β:(t=aF->val β v=val β a)/\(t=aM->val β v=val β b):=by
 unfold SF at h;split at h<;>simp at h<;>subst h<;>refine⟨λe=>?_,λe=>?_⟩<;>subst e<;>simp[val,ua]
def Ea(d:L Nat):L (Nat×Nat×SV)->L (Nat×Nat×SV)
 | []=>[]
 | p::r=>bif d.elem p.1 then Ea d r else p::Ea d r
def nE{ds}:∀{l:L _} {i:Nat},(ds.elem i=aF->eW (Ea ds l) i=Pw)/\(ds.elem i=aM->eW (Ea ds l) i=eW l i)
 | [],i=>⟨λ_=>I,λ_=>I⟩
 | (k,p)::r,i=>by
  obtain⟨h,a⟩:=nE (ds:=ds) (l:=r) (i:=i);simp only[Ea];cases hk:ds.elem k
  .simp[eW];cases b:Nat.beq k i<;>simp_all
  simp only[cond_true];refine⟨h,λb=>?_⟩;rw[a b];simp[eW];cases c:Nat.beq k i<;>simp_all
def St.sB(st:St)(d:L Nat):St:={st with fr:=Ea d st.fr}
def Ext.sB st ds:Ext st (st.sB ds):=
 ⟨I,H _,λi k v h _=>by
  cases e:ds.elem i with
  | true=>rw[show eW (st.sB ds).fr i=Pw from(nE (l:=st.fr)).1 e]at h;cases h
  | false=>rw[show eW (st.sB ds).fr i=eW st.fr i from(nE (l:=st.fr)).2 e]at h;exact h,λi b a o _=>⟨b,a,o,I,I,I,λ_ a=>a⟩,Ws,Kr⟩
structure Alike (s t:St):Prop where
 bx:t.bx=s.bx
 w0:t.w0=s.w0
 mv:t.mv=s.mv
 dt:t.dt=s.dt
 n:t.n=s.n
 df:t.df=s.df
def Alike.refl s:Alike s s:=⟨I,I,I,I,I,I⟩
def Alike.trans{s t u}(h:Alike s t)(k:Alike t u):Alike s u:=⟨k.bx.trans h.bx,k.w0.trans h.w0,k.mv.trans h.mv,k.dt.trans h.dt,k.n.trans h.n,k.df.trans h.df⟩
def Alike.put s d v:Alike s (s.put d v):=by cases d<;>exact⟨I,I,I,I,I,I⟩
def XJ:=@Alike.put
def Rep.alike{β}{s t}{a a'}{w}(h:Rep β s a w)(k:Alike s t)(o:aeA β t.n t.fr (UH t.df) a'):Rep β t a' w:=by
 obtain⟨j,c,k3,u,v,x⟩:=k;refine⟨vi o,λi b g q=>?_,λi r bi l d f m n=>?_,?_,λp=>?_⟩
 .rw[j]at g;obtain⟨a,k,s⟩:=h.bx i b g q;exact⟨a,k,λe=>by rw[c];exact s e⟩
 .rw[j]at d f;exact h.ne i r bi l d f m n
 .rw[c,u];exact h.only
 rw[c];exact h.still (by rw[<-k3];exact p)
def Bl(P:Program)(o:L Oper):Nat->L (M×M)->L Oper->St->(St->Prop)->Prop
 | 0,_,_,_,_=>False
 | _+1,_,[],st,K=>K st
 | f+1,g,a::r,st,K=>match a.guard with
  | none=>Ud P g st a.op λv=>Bl P o f g r (st.put a.dst v) K
  | some (j,want)=>(match Zj st o j with
   | some (_,.un)=>Bl P o f g r (st.put a.dst .un) K
   | some (_,.bl b)=>bif b==want then Ud P g st a.op λv=>Bl P o f g r (st.put a.dst v) K else Bl P o f g r (st.put a.dst .un) K
   | some (d,.bt t)=>(match(a::r)[CR o j (a::r)]? with
    | some p=>(match p.dst with
     | some k=>
      Bl P o f (g++[(t,aF)]) ((a::r).take (CR o j (a::r)+1)) (st.put (aN d) (.bl aF)) λs=>
      cE (s.get k) λb=>
      Bl P o f (g++[(t,aM)]) ((a::r).take (CR o j (a::r)+1)) (st.put (aN d) (.bl aM)) λsb=>
      cE (sb.get k) λc=>
      cE (SF t b c) λv=>
      Bl P o f g ((a::r).drop (CR o j (a::r)+1)) ((st.sB (Im ((a::r).take (CR o j (a::r)+1)))).put (aN k) v) K
     | none=>False)
    | none=>False)
   | _=>False)
def OI:∀{gs:L _} {t b:M},gh gs->t=b->gh (gs++[(t,b)])
 | [],_,_,_,h=>⟨h,trivial⟩
 | _::r,_,_,h,k=>⟨h.1,OI (gs:=r) h.2 k⟩
def vj{P}{ops}:∀{f:Nat} {h:L _} {l:L Oper} {st:St} {K:St->Prop},Bl P ops f h l st K->
  ∃e,K e/\Ext st e/\Alike st e/\(gh h->∀c a w,Rep c st a w->∃g,zV P ops w l a g/\Rep c e g w)
 | 0,_,_,_,_,a=>a.elim
 | _+1,h,[],st,K,b=>⟨st,b,Uk _,Alike.refl _,λ_ c a w R=>⟨a,I,R⟩⟩
 | f+1,h,o::r,st,K,i=>by
  have one:(Region.wanted o=λ_=>aF)∨True->∀{K:St->Prop},(Ud P h st o.op λv=>Bl P ops f h r (st.put o.dst v) K)->
    (gh h->∀c a w,Rep c st a w->Region.wanted o _=aF)->
    ∃e,K e/\Ext st e/\Alike st e/\(gh h->∀c a w,Rep c st a w->∃g,zV P ops w (o::r) a g/\Rep c e g w):=λ_ K i m=>by
   obtain⟨v,j,y⟩:=OG i;obtain⟨e,p,q,k3,s⟩:=vj j;refine⟨e,p,(H6 _ _ _).trans q,(XJ _ _ _).trans k3,λb c a w R=>?_⟩;obtain⟨g,d,f⟩:=s b c _ w (R.put o.dst v);exact⟨g,.inl ⟨m b c a w R,_,λt k=>y b c a w R _ _ _ _ _ t λ_=>k,d⟩,f⟩
  have n:∀{K:St->Prop},Bl P ops f h r (st.put o.dst .un) K->(gh h->∀c a w,Rep c st a w->Region.wanted o _=aM)->
    ∃e,K e/\Ext st e/\Alike st e/\(gh h->∀c a w,Rep c st a w->∃g,zV P ops w (o::r) a g/\Rep c e g w):=λj k=>by
   obtain⟨e,m,p,k3,q⟩:=vj j;refine⟨e,m,(H6 _ _ _).trans p,(XJ _ _ _).trans k3,λb c a w R=>?_⟩;obtain⟨g,d,f⟩:=q b c _ w (R.put o.dst .un);exact⟨g,.inr ⟨k b c a w R,d⟩,f⟩
  unfold Bl at i;split at i
  .rename_i b;exact one (.inr trivial) i λ_ c a w R=>wn b
  rename_i m j f;split at i
  .rename_i d t;exact n i λ_ c a w R=>Bk R f t
  .rename_i d b t;cases k:(b==j)with
   | true=>
    rw[k]at i;exact one (.inr trivial) i λ_ c a w R=>by rw[uc R f t (b:=b) rfl,k]
   | false=>
    rw[k]at i;exact n i λ_ c a w R=>by rw[uc R f t (b:=b) rfl,k]
  .rename_i d t q;obtain⟨u,J,Z,b⟩:=D7 q;split at i
   .rename_i y d;split at i
    .rename_i k hk;generalize CR ops m _=X at i d;obtain⟨sa,Q,am,G,H⟩:=vj i;obtain⟨va,T,Q⟩:=bJ Q;obtain⟨sb,E,aC,M,N⟩:=vj Q;obtain⟨vb,V,E⟩:=bJ E;obtain⟨v,W,E⟩:=bJ E;obtain⟨e,k1,k2,k3,k4⟩:=vj E;refine⟨e,k1,((Ext.sB _ _).trans (H6 _ _ _)).trans k2,((⟨I,I,I,I,I,I⟩:Alike st (st.sB _)).trans (XJ _ _ _)).trans k3,λS c a w R=>?_⟩;have C:∀(s:SV) Y x,Rep c Y a w->(∃g,zV P ops w ((o::r).take (X+1)) a g/\∃F,Rep c F g w/\F.n=st.n/\F.get k=aN x/\val c v=val c x)->∃g,zV P ops w (o::r) a g/\Rep c e g w:=by
      rintro s Y x B ⟨z,A,F,r1,r2,r3,r4⟩;obtain⟨f1,f2,f3⟩:=D9 A;have jN:Rep c ((st.sB (Im ((o::r).take (X+1)))).put (aN k) v) z w:=by
       refine R.alike ((⟨I,I,I,I,I,I⟩:Alike st (st.sB _)).trans (XJ _ _ _)) ⟨f1.trans R.ok.sz,f2.trans R.ok.df,λs p a v=>?_⟩;simp[St.put,eW]at a;cases t:Nat.beq k s
       .rw[t]at a;cases k:(Im _).elem s
        .rw[show eW (st.sB _).fr s=eW st.fr s from(nE (l:=st.fr)).2 k]at a;rw[f3 s k];exact R.ok.at_ s p a v
        rw[show eW (st.sB _).fr s=Pw from(nE (l:=st.fr)).1 k]at a;cases a
       rw[t]at a;simp at a;subst a;have:=dh t;subst this;rw[r4,<-r1.get r3];have p:k<z.tmps.size:=by rw[f1,R.ok.sz];exact v
       simp[Act.eval,p]
      obtain⟨a2,D,g3⟩:=k4 S c z w jN;refine⟨a2,?_,g3⟩;have:=D8 A D;simp_all
     cases t
     .have B:Rep c (st.put _ (.bl aM)) a w:=R.set b I;obtain⟨z,A,D⟩:=N (OI S I) c a w B;exact C (.bl aM) _ vb B ⟨z,A,sb,D,M.n.trans I,V,(At5 W c).2 I⟩
     have B:Rep c (st.put _ (.bl aF)) a w:=R.set b I;obtain⟨z,A,D⟩:=H (OI S I) c a w B;exact C (.bl aF) _ va B ⟨z,A,sa,D,G.n.trans I,T,(At5 W c).1 I⟩
    exact i.elim
   exact i.elim
  exact i.elim
def mX:∀l b i,dv (l++[b]) i=if i=qj l then aN b else dv l i
 | [],b,0=>rfl
 | [],b,i+1=>rfl
 | a::r,b,0=>rfl
 | a::r,b,i+1=>by
  simp;exact mX r b i
def vm:∀{l:L mT} {i:Nat} {b:mT},dv l i=aN b->i<qj l
 | a::r,0,_,_=>X
 | a::r,i+1,b,h=>by simp[dv]at h;have:=vm h;simp;omega
def lC:∀{l:L mT} {i:Nat} {b c:mT},dv l i=aN b->∀j,dv (TZ l i c) j=if j=i then aN c else dv l j
 | a::r,0,b,c,_,0=>rfl
 | a::r,0,b,c,_,j+1=>rfl
 | a::r,i+1,b,c,h,0=>rfl
 | a::r,i+1,b,c,h,j+1=>by
  simp[dv]at h;simp;exact lC h j
def rJ{b}{p q}(h:bif b then p else q):(b=aF/\p)∨(b=aM/\q):=Xd
def N0(x:L mT)(i:Nat):Nat:=match dv x i with
 | some b=>b.blk.getD 0
 | none=>0
def Li(x:L mT)(i:Nat):M:=match dv x i with
 | some b=>b.ok&&b.blk.isSome
 | none=>aM
abbrev St.bl(st:St)(i:Nat):Nat:=N0 st.bx i
abbrev St.PY(st:St)(i:Nat):M:=Li st.bx i
def Rep.bl{β}{st}{a}{w}(c:Rep β st a w) i (h:st.PY i=aF):st.bl i=β i:=by
 unfold St.PY Li at h;unfold St.bl N0;rcases hb:dv st.bx i with _|b
 .rw[hb]at h;cases h
 rw[hb]at h;simp at h;rcases hk:b.blk with _|k
 .rw[hk]at h;cases h.2
 have:=(c.bx i b hb h.1).at_ k hk;simp[hk,this]
def Rep.xy{β}{st}{a}{w}(h:Rep β st a w){l}(c:jS st.PY l=aF):cT st.bl l=cT β l:=jC (g:=st.PY) h.bl l c
def Rep.ap9{β}{st}{a}{w}(h:Rep β st a w){s}(c:cln st.PY s=aF):val st.bl s=val β s:=kD (g:=st.PY) h.bl s c
def Lj:L mT->(L mT->Prop)->Prop
 | [],K=>K []
 | b::r,K=>match b.ok,b.blk with
  | true,Pw=>∀k,Lj r λa=>K ({b with blk:=aN k}::a)
  | _,_=>Lj r λa=>K (b::a)
def wJ(k:Nat)(b:mT):mT:=match b.ok,b.blk with
 | true,Pw=>{b with blk:=aN k}
 | _,_=>b
def tj(a:Nat->Nat):Nat->L mT->L mT
 | _,[]=>[]
 | n,b::r=>wJ (a n) b::tj a (n+1) r
def Eb β:∀{s:L mT} n {K:L mT->Prop},Lj s K->K (tj β n s)
 | [],_,_,h=>h
 | b::r,n,K,h=>by
  unfold Lj at h;unfold tj;split at h
  .have:=Eb β (n+1) (h (β n));have e:wJ (β n) b={b with blk:=aN (β n)}:=by unfold wJ<;>simp_all
   simp_all
  have:=Eb β (n+1) h;have e:wJ (β n) b=b:=by simp[wJ]
  simp_all
def Ec β:∀s n i,dv (tj β n s) i=(dv s i).map (wJ (β (n+i)))
 | [],_,_=>rfl
 | b::r,n,0=>rfl
 | b::r,n,i+1=>by
  simp[tj,dv];rw[Ec β r _ i,show n+1+i=n+(i+1) by omega]
def Ll(a w:aw):L mT->L mT->Prop->Prop
 | b::r,c::d,p=>match b.ok,b.blk with
  | true,Pw=>a.heap.size<=c.blk.getD 0->c.blk.getD 0<w.heap.size->Ll a w r d p
  | _,_=>Ll a w r d p
 | _,_,p=>p
def Ed{β}{w0 w}:∀{s:L mT} n {p:Prop},Ll w0 w s (tj β n s) p->(∀i b,dv s i=aN b->b.ok=aF->b.blk=Pw->w0.heap.size<=β (n+i)/\β (n+i)<w.heap.size)->p
 | [],_,_,h,_=>h
 | b::r,n,p,h,a=>by
  simp[tj]at h;unfold Ll at h;split at h
  .rename_i d f;obtain⟨g,j⟩:=a 0 b I d f;have e:(wJ (β n) b).blk.getD 0=β n:=by unfold wJ;rw[d,f];rfl
   rw[e]at h;exact Ed _ (h g j) λi c k=>by have:=a (i+1) c k;rwa[show n+_=n+1+i by omega]at this
  exact Ed _ h λi c b=>by have:=a (i+1) c b;rwa[show n+_=n+1+i by omega]at this
def TS(g:Nat->M)(bl:Nat->Nat)(w:aw)(a:M):L mT->Prop->Prop
 | [],p=>p
 | b::r,p=>bif b.ok&&b.blk.isSome&&b.esc&&(a||!b.sh)&&jS g b.cells then Blk w (b.blk.getD 0) b.ty (cT bl b.cells)->TS g bl w a r p else TS g bl w a r p
def Io{g}{bl}{w}{all}:∀{s:L mT} {p:Prop},TS g bl w all s p->(∀i b,dv s i=aN b->b.ok=aF->b.blk.isSome=aF->jS g b.cells=aF->Blk w (b.blk.getD 0) b.ty (cT bl b.cells))->p
 | [],_,h,_=>h
 | b::r,p,a,d=>by
  unfold TS at a;cases h:(b.ok&&b.blk.isSome&&b.esc&&_&&jS g b.cells)with
  | true=>
   rw[h]at a;simp at h;exact Io (a (d 0 b I h.1.1.1.1 h.1.1.1.2 h.2)) λi c e=>d (i+1) c e
  | false=>
   rw[h]at a;exact Io a λi c b=>d (i+1) c b
def zW:L mT->L mT
 | []=>[]
 | b::r=>{b with sh:=b.esc}::zW r
def ud:∀l i,dv (zW l) i=(dv l i).map λb=>{b with sh:=b.esc}
 | [],_=>rfl
 | b::r,0=>rfl
 | b::r,i+1=>ud r i
def Ee(s:L mT):L Nat->M
 | []=>aF
 | i::r=>(match dv s i with
  | some b=>b.ok
  | none=>aM)&&Ee s r
def xL{bs}:∀{l:L Nat},Ee bs l=aF->∀i∈l,∃b,dv bs i=aN b/\b.ok=aF
 | i::r,h,a,j=>by
  simp[Ee]at h;rcases bh.1 j with rfl | j
  .split at h<;>grind
  exact xL h.2 a j
def T1:L mT->L mT->L (Nat×M)
 | b::r,c::a=>bif b.ok&&b.blk.isNone then(c.blk.getD 0,b.esc)::T1 r a else T1 r a
 | _,_=>[]
def Wz(k:Nat):L (Nat×M)->Prop->Prop
 | [],p=>p
 | x::r,p=>bif x.2 then Wz k r p else(x.1≠k->Wz k r p)
def WA(a:L (Nat×M)):L (Nat×M)->Prop->Prop
 | [],p=>p
 | x::r,p=>bif x.2 then Wz x.1 a (WA a r p)else WA a r p
def Ip{k}:∀{l:L _} {p:Prop},Wz k l p->(∀y,y∈l->y.2=aM->y.1≠k)->p
 | [],_,h,_=>h
 | x::r,p,h,hd=>by
  unfold Wz at h;cases a:x.2
  .rw[a]at h;exact Ip (h (hd x fg a)) λy b=>hd y (dX _ b)
  rw[a]at h;exact Ip h λy b=>hd y (dX _ b)
def Iq{all}:∀{l:L _} {p:Prop},WA all l p->(∀x,x∈l->x.2=aF->∀y,y∈all->y.2=aM->y.1≠x.1)->p
 | [],_,h,_=>h
 | x::r,p,h,hd=>by
  unfold WA at h;cases a:x.2
  .rw[a]at h;exact Iq h λz b=>hd z (dX _ b)
  rw[a]at h;exact Iq (Ip h λy b f=>hd x fg a y b f) λz c=>hd z (dX _ c)
def zX{β}:∀{s:L mT} n {x:Nat×M},x∈T1 s (tj β n s)->∃i b,dv s i=aN b/\b.ok=aF/\x=(β (n+i),b.esc)
 | [],_,_,h=>Ue
 | b::r,n,x,h=>by
  simp[tj,T1]at h;cases a:(b.ok&&b.blk.isNone)with
  | true=>
   rw[a]at h;simp at a;rcases bh.1 h with rfl | h
   .refine⟨0,b,I,a.1,?_⟩;have:(wJ (β n) b).blk.getD 0=β n:=by unfold wJ;rw[a.1,a.2];rfl
    rw[this];rfl
   obtain⟨i,c,b,d,e⟩:=zX _ h;exact⟨i+1,c,b,d,Xd⟩
  | false=>
   rw[a]at h;obtain⟨i,c,b,d,e⟩:=zX _ h;exact⟨i+1,c,b,d,Xd⟩
def Ef:L mT->L Nat
 | []=>[]
 | b::r=>bif b.ok&&b.blk.isSome&&b.esc&&!b.sh then b.blk.getD 0::Ef r else Ef r
def Eg:L mT->L Nat
 | []=>[]
 | b::r=>bif b.ok&&b.blk.isSome&&!b.esc then b.blk.getD 0::Eg r else Eg r
def Re(k:Nat):L Nat->Prop->Prop
 | [],p=>p
 | x::r,p=>x≠k->Re k r p
def RU(Z:L Nat):L Nat->Prop->Prop
 | [],p=>p
 | k::r,p=>Re k Z (RU Z r p)
def unI{k}:∀{l:L Nat} {p:Prop},Re k l p->(∀y,y∈l->y≠k)->p
 | [],_,h,_=>h
 | x::r,p,h,hd=>unI (h (hd x fg)) λy a=>hd y (dX _ a)
def Ir{ZV}:∀{l:L Nat} {p:Prop},RU ZV l p->(∀k,k∈l->∀y,y∈ZV->y≠k)->p
 | [],_,h,_=>h
 | k::r,p,h,hd=>Ir (unI h λy a=>hd k fg y a) λz b=>hd z (dX _ b)
def Bm:∀{s:L mT} {x:Nat},x∈Ef s->∃i b,dv s i=aN b/\b.ok=aF/\b.esc=aF/\b.blk=aN x
 | [],_,h=>Ue
 | b::r,x,h=>by
  simp[Ef]at h;cases a:(b.ok&&b.blk.isSome&&b.esc&&!b.sh)with
  | true=>
   rw[a]at h;simp at a;rcases bh.1 h with rfl | h
   .obtain⟨k,hk⟩:=ik.1 a.1.1.2;exact⟨0,b,I,a.1.1.1,a.1.2,UR⟩
   obtain⟨i,c,b,d⟩:=Bm h;exact⟨i+1,c,b,d⟩
  | false=>
   rw[a]at h;obtain⟨i,c,b,d⟩:=Bm h;exact⟨i+1,c,b,d⟩
def Bn:∀{s:L mT} {x:Nat},x∈Eg s->∃i b,dv s i=aN b/\b.ok=aF/\b.esc=aM/\b.blk=aN x
 | [],_,h=>Ue
 | b::r,x,h=>by
  simp[Eg]at h;cases a:(b.ok&&b.blk.isSome&&!b.esc)with
  | true=>
   rw[a]at h;simp at a;rcases bh.1 h with rfl | h
   .obtain⟨k,hk⟩:=ik.1 a.1.2;exact⟨0,b,I,a.1.1,a.2,UR⟩
   obtain⟨i,c,b,d⟩:=Bn h;exact⟨i+1,c,b,d⟩
  | false=>
   rw[a]at h;obtain⟨i,c,b,d⟩:=Bn h;exact⟨i+1,c,b,d⟩
def ptS{β}{st}{a}{w}(h:Rep β st a w):∀k,k∈Ef st.bx->∀y,y∈Eg st.bx->y≠k:=λk hk y m=>by
 obtain⟨i,b,d,f,p,n⟩:=Bm hk;obtain⟨j,c,g,l,j3,o⟩:=Bn m;rw[<-(h.bx i b d f).at_ k n,<-(h.bx j c g l).at_ y o];refine h.ne j i c b g d l f λe=>?_
 grind
def fO(st:St)(K:St->Prop):Prop:=
 bif st.mv then
  bif Ee st.bx st.dt then
   Lj st.bx λb=>∀w,Ll st.w0 w st.bx b (Only (st.dt.map (N0 b)) st.w0 w->
    TS (Li b) (N0 b) w aF b (WA (T1 st.bx b) (T1 st.bx b) (RU (Eg st.bx) (Ef st.bx) (K {st with bx:=zW b,w0:=w,mv:=aM,dt:=[]}))))
  else False
 else TS st.PY st.bl st.w0 aM st.bx (RU (Eg st.bx) (Ef st.bx) (K {st with bx:=zW st.bx}))
def ff{st}{K}(d:fO st K){β}{a}{w}(h:Rep β st a w):∃g,K g/\Ext st g/\Rep β g a w/\g.mv=aM/\g.fr=st.fr/\g.n=st.n/\g.ct=st.ct/\qj g.bx=qj st.bx:=by
 rcases rJ d with⟨m,d⟩ | ⟨m,d⟩
 case inr=>
  have hk:=Io d λi b a o s u=>by
   have:=(h.bx i b a o).blk;rcases hk:b.blk with _|k
   .rw[hk]at s;cases s
   have e:=(h.bx i b a o).at_ k hk;rw[h.xy u,<-h.still m];simp_all
  have hk:=Ir hk (ptS h);have y:∀i j,dv (zW st.bx) i=aN j->∃b,dv st.bx i=aN b/\j={b with sh:=b.esc}:=λi j a=>by
   rw[ud]at a;cases f:dv st.bx i<;>grind
  refine⟨_,hk,⟨I,H _,λ_ _ _ d _=>d,λi j a o _=>?_,λi b a=>?_,Kr⟩,⟨h.fr,λi j a o=>?_,λi n bi p l q r t v=>?_,h.only,h.still⟩,m,I,I,I,?_⟩
  .grind
  .exact⟨{b with sh:=b.esc},by rw[ud,a];rfl,I,I,λ_ d=>d⟩
  .obtain⟨b,l,rfl⟩:=y i j a;have:=h.bx i b l o;exact⟨this.blk,this.at_,this.new⟩
  .obtain⟨b,e,rfl⟩:=y i bi l;obtain⟨c,k,rfl⟩:=y n p q;exact h.ne i n b c e k r t v
  have:∀c:L mT,qj (zW c)=qj c:=λc=>by
   induction c with
   | nil=>rfl
   | cons b k e=>simp[zW,e]
  exact this _
 case inl=>
  obtain⟨J,d⟩:=eE d;have d:=Eb β 0 d w;have E:∀i,dv _ i=(dv st.bx i).map (wJ (β i)):=λi=>by rw[Ec,bR]
  have G:∀i b,dv st.bx i=aN b->b.ok=aF->∃a,dv _ i=aN a/\a.ok=aF/\a.blk=aN _/\a.cells=b.cells/\a.ty=b.ty/\a.stp=b.stp:=λi b j o=>by
   refine⟨wJ _ b,by rw[E,j];rfl,?_⟩;unfold wJ;split
   .exact⟨o,I,I,I,I⟩
   rename_i c;refine⟨o,?_,I,I,I⟩;rcases hk:b.blk with _|k
   .exact absurd hk (λe=>c o e)
   rw[(h.bx i b j o).at_ k hk]
  have B:∀i a,dv _ i=aN a->a.ok=aF->∃b,dv st.bx i=aN b/\b.ok=aF/\a.blk=aN _/\a.cells=b.cells/\a.ty=b.ty/\a.stp=b.stp:=λi a j o=>by
   rw[E]at j;rcases f:dv st.bx i with _|b
   .rw[f]at j;cases j
   rw[f]at j;simp at j;subst j;have c:=by
    unfold wJ at o;split at o<;>omega
   obtain⟨y,e,P,k,n,w,x⟩:=G i b f c;rw[E,f]at e;simp at e;subst e;exact⟨b,I,c,k,n,w,x⟩
  have d:=Ed 0 d λi b j o hk=>by
   rw[bR];exact⟨(h.bx i b j o).new hk,(h.bx i b j o).blk.lt⟩
  have t:st.dt.map (N0 (tj β 0 st.bx))=st.dt.map β:=by
   refine wB λi k=>?_;obtain⟨b,r,s⟩:=xL J i k;obtain⟨a,e,n,c,_⟩:=G i b r s;unfold N0;rw[e];simp[c]
  have d:=d (by rw[t];exact h.only);have K:∀i,Li _ i=aF->N0 _ i=β i:=λi p=>by
   unfold Li at p;unfold N0;rcases f:dv (tj β 0 st.bx) i with _|a
   .rw[f]at p;cases p
   rw[f]at p
   grind
  have hk:=Io d λi a j o N A=>by
   obtain⟨b,e,c,k,n,w,x⟩:=B i a j o;rw[jC K _ A,k,n,w];exact(h.bx i b e c).blk
  have hk:=Iq hk λx C V y D F=>by
   obtain⟨i,b,k,n,rfl⟩:=zX 0 C;obtain⟨q,c,w,x,rfl⟩:=zX 0 D;rw[bR,bR];refine h.ne q i c b w k x n λe=>?_
   grind
  have hk:=Ir hk (ptS h);have l:∀i a,dv _ i=aN a->a.ok=aF->∃b,dv st.bx i=aN b/\b.ok=aF/\a.blk=aN _/\a.cells=b.cells/\a.ty=b.ty/\a.stp=b.stp:=λi a j o=>by
   rw[ud]at j;rcases f:dv (tj β 0 st.bx) i with _|c
   .rw[f]at j;cases j
   rw[f]at j;simp at j;subst j;exact B i c f o
  refine⟨_,hk,⟨I,H _,λ_ _ _ d _=>d,λi a j o _=>?_,λi b j=>?_,Kr⟩,⟨h.fr,λi a j o=>?_,λi q bi u r s v z M=>?_,Ib _ _,λ_=>I⟩,I,I,I,I,?_⟩
  .obtain⟨b,e,c,n,w,x,y⟩:=l i a j o;exact⟨b,e,c,w.symm,x.symm,y.symm,λk hk=>by rw[n,(h.bx i b e c).at_ k hk]⟩
  .refine⟨{wJ _ b with sh:=(wJ _ b).esc},by rw[ud,E,j];rfl,?_⟩;unfold wJ;split
   .grind
   simp
  .obtain⟨b,e,c,n,w,x,y⟩:=l i a j o;refine⟨by rw[w,x];exact(h.bx i b e c).blk,λk hk=>Xd,λhk=>by rw[n]at hk;cases hk⟩
  .obtain⟨b,e,k,_⟩:=l i bi r v;obtain⟨c,f1,f2,_⟩:=l q u s z;exact h.ne i q b c e f1 k f2 M
  have e:∀c:L mT,qj (zW c)=qj c:=λc=>by
   induction c with
   | nil=>rfl
   | cons b w n=>simp[zW,n]
  have k:∀(c:L mT) n,qj (tj β n c)=qj c:=λc=>by
   induction c with
   | nil=>intro n;rfl
   | cons b x w=>intro n;simp[tj,w]
  simp_all
def noB(n:Nat)(s:SV):M:=cln (λj=>!Nat.beq j n) s
def GV(n:Nat)(l:L SV):M:=jS (λj=>!Nat.beq j n) l
def T2(n:Nat):L (Nat×Nat×SV)->M
 | []=>aF
 | p::r=>noB n p.2.2&&T2 n r
def OJ(n:Nat):L mT->M
 | []=>aF
 | b::r=>(!b.ok||GV n b.cells)&&OJ n r
def It{n}:∀{l:L _},T2 n l=aF->∀i p,eW l i=aN p->noB n p.2=aF
 | [],_,i,p,h=>Ue
 | (k,q)::r,h,i,p,hl=>by
  simp[T2]at h;simp[eW]at hl;cases b:Nat.beq k i
  .rw[b]at hl;exact It h.2 i p G5
  rw[b]at hl;simp at hl;subst hl;exact h.1
def Iu{n}:∀{l:L mT},OJ n l=aF->∀i b,dv l i=aN b->b.ok=aF->GV n b.cells=aF
 | c::r,h,0,b,a,o=>by grind [OJ,dv]
 | c::r,h,i+1,b,a,o=>by
  simp[OJ]at h;exact Iu h.2 i b a o
def Gi(a:Nat->Nat)(n b:Nat):Nat->Nat:=λi=>if i=n then b else a i
def Eh{β}{n b:Nat}:∀i,(!Nat.beq i n)=aF->β i=Gi β n b i:=λi h=>by
 unfold Gi;rw[R];rintro rfl;simp at h
section
variable {β:Nat->Nat} {st:St} {a:Act} {w w1:aw}
def St.JS(st:St)(d:Option Tmp)(t:TypeId)(z:L SV):St:=
 St.put {st with bx:=st.bx++[⟨Pw,t,z,st.ct,aF,aM,aM⟩],mv:=aF,ct:=st.ct+1} d (.box (qj st.bx) 0)
def Ext.JS st d t zs:Ext st (st.JS d t zs):=by
 refine YX (t:={st with bx:=st.bx++[_],mv:=aF,ct:=st.ct+1}) ⟨I,kB _,λ_ _ _ a _=>a,λi c h o s=>?_,λi b h=>?_,Kr⟩ (H6 _ _ _)
 .rw[mX]at h
  grind
 exact⟨b,by dsimp only;rw[mX,R (by have:=vm h;omega)];exact h,I,I,λ_ a=>a⟩
def Rep.JS(f:Rep β st a w){d}{t}{zs}{b}(l:T2 (qj st.bx) st.fr=aF)(m:OJ (qj st.bx) st.bx=aF)(n:GV (qj st.bx) zs=aF)
  (o:w.heap.size<=b) (O:Only [] w w1) (B:Blk w1 b t (cT β zs)) (j:Ee st.bx st.dt=aF):
  Rep (Gi β (qj st.bx) b) (st.JS d t zs) (a.put d (.pointer (aN ⟨b,0,Pw⟩))) w1:=by
 have C:Gi β (qj st.bx) b (qj st.bx)=b:=by unfold Gi;rw[K I]
 have W:∀{i c},dv st.bx i=aN c->Gi β (qj st.bx) b i=β i:=fun{i c} h=>by
  unfold Gi;rw[R];have:=vm h;omega
 have s:Rep (Gi β (qj st.bx) b) {st with bx:=st.bx++[⟨Pw,t,zs,st.ct,aF,aM,aM⟩],mv:=aF,ct:=st.ct+1} a w1:=by
  refine⟨vi ⟨f.ok.sz,f.ok.df,λi p x t=>?_⟩,λi c a y=>?_,λi d bi u r q v w z=>?_,?_,λh=>Ue⟩
  .rw[f.ok.at_ i p x t];congr 1;exact kD (g:=λd=>!Nat.beq d (qj st.bx)) Eh _ (It l i p x)
  .rw[mX]at a;split at a
   .rename_i h;simp at a;subst a;subst h;refine⟨?_,λk hk=>IL,λ_=>?_⟩
    .rw[C];rw[<-jC (g:=λd=>!Nat.beq d (qj st.bx)) (β:=β) (β':=Gi β (qj st.bx) b) Eh _ n];exact B
    rw[C];exact bB f.only.size o
   have e:=W a;obtain⟨h,p,k3⟩:=f.bx i c a y;refine⟨?_,λk hk=>by rw[e];exact p k hk,λhk=>by rw[e];exact k3 hk⟩;rw[e,<-jC (g:=λd=>!Nat.beq d (qj st.bx)) (β:=β) (β':=Gi β (qj st.bx) b) Eh _ (Iu m i c a y)];exact O.blk h X
  .rw[mX]at r q;split at r
   .rename_i e;split at q
    .omega
    subst e;rw[W q];have:=(f.bx d u q w).blk.lt;omega
   split at q
   .rename_i e;subst e;rw[W r];have:=(f.bx i bi r v).blk.lt;omega
   rw[W r,W q];exact f.ne i d bi u r q v w z
  have e:=wB λi t=>by
   obtain⟨c,a,_⟩:=xL j i t;exact W a
  rw[e];exact f.only.bU O
 have:=s.put d (.box (qj st.bx) 0);rw[show val _ _=.pointer _ by
  show Value.pointer _=_;rw[C]]at this
 exact this
def St.xz(st:St)(i:Nat)(b:mT)(c:L SV):St:=
 {st with bx:=TZ st.bx i {b with cells:=c,stp:=st.ct,sh:=aM},mv:=aF,dt:=(bif b.blk.isSome&&!st.dt.elem i then i::st.dt else st.dt),ct:=st.ct+1}
def Ext.xz{st}{i}{b}{cs}(h:dv st.bx i=aN b):Ext st (st.xz i b cs):=by
 refine⟨I,kB _,λ_ _ _ h _=>h,λj d a o s=>?_,λj c e=>?_,Kr⟩
 .simp[St.xz]at a;rw[lC h]at a
  grind
 simp[St.xz];rw[lC h]
 grind
def Rep.xz(R:Rep β st a w){i}{b}{cs}(h:dv st.bx i=aN b)(o:b.ok=aF)(f:Only [β i] w w1)(B:Blk w1 (β i) b.ty (cT β cs)):Rep β (st.xz i b cs) a w1:=by
 have hk:=R.bx i b h o;refine⟨R.fr,λj c d M=>?_,λj p q bl k l m n y=>?_,?_,λh=>Ue⟩
 .simp[St.xz]at d;rw[lC h]at d;split at d
  .rename_i e;subst e;simp at d;subst d;exact⟨B,hk.at_,hk.new⟩
  rename_i g;obtain⟨a,e,k3⟩:=R.bx j c d M;exact⟨f.blk a (by simpa using R.ne j i c b d h M o g),e,k3⟩
 .simp[St.xz]at k l;rw[lC h]at k l;have e:∀{j c},(if j=i then aN {b with cells:=cs,stp:=st.ct,sh:=aM}else dv st.bx j)=aN c->c.ok=aF->∃a,dv st.bx j=aN a/\a.ok=aF:=fun{j c} g d=>Xd
  obtain⟨r,t,u⟩:=e k m;obtain⟨s,f1,f2⟩:=e l n;exact R.ne j p r s t f1 u f2 y
 show Only ((bif b.blk.isSome&&!st.dt.elem i then i::st.dt else st.dt).map β) st.w0 w1;cases h:(b.blk.isSome&&!st.dt.elem i)with
 | true=>exact R.only.cons f
 | false=>
  simp only[ii]at h;rcases h with h | h
  .refine R.only.new f (hk.new ?_);simp_all
  refine R.only.mem f (eo.2 ⟨i,?_,I⟩);simpa using h
structure Flg (l l':List mT):Prop where
 fw:∀i b,dv l' i=aN b->∃c,dv l i=aN c/\c.blk=b.blk/\c.ty=b.ty/\c.cells=b.cells/\c.stp=b.stp/\c.ok=b.ok
 bw:∀i b,dv l i=aN b->∃c,dv l' i=aN c/\c.ty=b.ty/\c.ok=b.ok/\∀k,b.blk=aN k->c.blk=aN k
def Flg.refl l:Flg l l:=⟨λi b h=>⟨b,h,I,I,I,I,I⟩,Ws⟩
def Flg.trans{l m n}(r:Flg l m)(k:Flg m n):Flg l n:=⟨λi b q=>by
 obtain⟨c,a,e,f,g,s,t⟩:=k.fw i b q;obtain⟨d,h,j,o,p,u,v⟩:=r.fw i c a;exact⟨d,h,j.trans e,o.trans f,p.trans g,u.trans s,v.trans t⟩,λi b q=>by
 obtain⟨c,a,e,f,g⟩:=r.bw i b q;obtain⟨d,h,j,o,p⟩:=k.bw i c a;exact⟨d,h,j.trans e,o.trans f,λm w=>p m (g m w)⟩⟩
def Ext.flg{l'}(h:Flg st.bx l'):Ext st {st with bx:=l'}:=⟨I,H _,λ_ _ _ h _=>h,λl b j o _=>by
 obtain⟨c,a,d,e,f,g,i⟩:=h.fw l b j;exact⟨c,a,i.trans o,f,e,g,λk hk=>by rw[<-d];exact hk⟩,h.bw,Kr⟩
def Rep.flg{l'}(h:Rep β st a w)(e:Flg st.bx l'):Rep β {st with bx:=l'} a w:=by
 refine⟨h.fr,λi b o p=>?_,λi j bi f g l m n y=>?_,h.only,h.still⟩
 .obtain⟨c,d,a,s,t,u,q⟩:=e.fw i b o;obtain⟨v,r,k3⟩:=h.bx i c d (q.trans p);exact⟨Xd,λk hk=>r k (a.trans hk),λhk=>k3 (a.trans hk)⟩
 obtain⟨c,a,_,_,_,_,b⟩:=e.fw i bi g;obtain⟨d,k,_,_,_,_,q⟩:=e.fw j f l;exact h.ne i j c d a k (b.trans m) (q.trans n) y
def Pj:SV->L Nat
 | .box i _=>[i]
 | .fn _ f c=>Pj f++Pj c
 | .agg l=>Pj l
 | .tup l=>Pj l
 | .c h t=>Pj h++Pj t
 | _=>[]
def T3:Nat->L Nat->L mT->L mT
 | 0,_,b=>b
 | _+1,[],b=>b
 | f+1,i::r,x=>match dv x i with
  | some b=>bif b.esc then T3 f r x else T3 f (flat Pj b.cells++r) (TZ x i {b with esc:=aF,sh:=aM})
  | none=>T3 f r x
def wK:∀f l x,Flg x (T3 f l x)
 | 0,_,x=>Flg.refl _
 | _+1,[],x=>Flg.refl _
 | f+1,i::r,x=>by
  unfold T3;split
  .rename_i b h;cases e:b.esc
   .refine Flg.trans ⟨λj c a=>?_,λj c a=>?_⟩ (wK f _ _);rotate_left
    .rw[lC h]
     grind
    rw[lC h]at a
    grind
   exact wK f r x
  exact wK f r x
def St.esc(st:St)(l:L SV):St:={st with bx:=T3 1000 (flat Pj l) st.bx}
def Ext.esc st l:Ext st (st.esc l):=Ext.flg (wK _ _ _)
def Ug:=@Ext.esc
def Rep.esc(h:Rep β st a w) l:Rep β (st.esc l) a w:=h.flg (wK _ _ _)
end
def zc(P:Program)(t:TypeId):Option (L SV):=match P.info? t with
 | some i=>(match i.zero with
  | some z=>OD z.cells.toList
  | none=>Pw)
 | none=>Pw
def afn{P}{t}{zs}(h:zc P t=aN zs) w:∃z,(zeroValue t).run P w=.ok z w/\∀a,z.cells=(cT a zs).toArray:=by
 unfold zc at h;split at h
 .rename_i b i;split at h
  .rename_i z c;exact⟨z,by simp[zeroValue,typeInfo,i,c],λa=>by rw[Dg a h]⟩
  cases h
 cases h
def WK(st:St)(z:L SV):M:=T2 (qj st.bx) st.fr&&OJ (qj st.bx) st.bx&&GV (qj st.bx) z&&Ee st.bx st.dt
def ue:L mT->M
 | []=>aF
 | b::r=>(!b.ok||b.blk.isSome)&&ue r
def zY:∀{l:L mT},ue l=aF->∀i b,dv l i=aN b->b.ok=aF->b.blk.isSome=aF
 | c::r,h,0,b,a,o=>by grind [ue,dv]
 | c::r,h,i+1,b,a,o=>by
  simp[ue]at h;exact zY h.2 i b a o
def Xr(k:Nat):L mT->Prop->Prop
 | [],p=>p
 | b::r,p=>bif b.ok then b.blk.getD 0≠k/\Xr k r p else Xr k r p
def OK{bk}:∀{l:L mT} {p:Prop},Xr bk l p->p/\∀i b,dv l i=aN b->b.ok=aF->b.blk.getD 0≠bk
 | [],p,h=>⟨h,λi b hb=>YY⟩
 | c::r,p,h=>by
  rcases rJ h with⟨a,h⟩ | ⟨a,h⟩
  .obtain⟨c,d⟩:=h;obtain⟨e,f⟩:=OK d;refine⟨e,λi b hb o=>?_⟩;cases i with
   | zero=>simp[dv]at hb;subst hb;exact c
   | succ i=>exact f i b hb o
  obtain⟨c,d⟩:=OK h;refine⟨c,λi b hb o=>?_⟩;cases i with
  | zero=>simp[dv]at hb;subst hb;rw[a]at o;cases o
  | succ i=>exact d i b hb o
def yL(esc:M):L mT->L Nat
 | []=>[]
 | b::r=>bif b.ok&&(esc||!b.esc)then b.blk.getD 0::yL esc r else yL esc r
def rB{esc}:∀{l:L mT} {i:Nat} {b:mT},dv l i=aN b->b.ok=aF->(esc||!b.esc)=aF->b.blk.getD 0∈yL esc l
 | c::r,0,b,h,o,e=>by
  simp[dv]at h;subst h;simp[yL,o,e]
 | c::r,i+1,b,h,o,e=>by
  have:=rB (l:=r) (i:=i) h o e;simp[yL]
  grind
def Ei(l:L Nat)(w a:aw)(p:Prop):Prop:=match l with
 | []=>p
 | _=>cj l w a/\p
def wL{l}{w0 w1}{p}(h:Ei l w0 w1 p):p/\cj l w0 w1:=by
 unfold Ei at h;split at h
 .exact⟨h,abd⟩
 exact⟨h.2,h.1⟩
def WB(P:Program)(w:aw)(c:Nat):L mT->(L mT->Prop)->Prop
 | [],K=>K []
 | b::a,K=>bif b.ok&&b.esc then YV (Wt P 12 b.ty) λv=>Blk w (b.blk.getD 0) b.ty (cT β0 v)/\WB P w c a λr=>K ({b with cells:=v,stp:=c,sh:=aF}::r)
  else WB P w c a λr=>K (b::r)
def Dh{P}{w1}{ct}:∀{d:L mT} {K:L mT->Prop},WB P w1 ct d K->∃l,K l/\(∀i a,dv l i=aN a->∃b,dv d i=aN b/\a.ok=b.ok/\a.blk=b.blk/\a.ty=b.ty/\
  ((a=b/\(b.ok&&b.esc)=aM)∨(a.stp=ct/\(∀e,cT e a.cells=cT β0 a.cells)/\Blk w1 (b.blk.getD 0) b.ty (cT β0 a.cells))))/\
  ∀i b,dv d i=aN b->∃a,dv l i=aN a/\a.ty=b.ty/\a.ok=b.ok/\∀k,b.blk=aN k->a.blk=aN k
 | [],K,h=>⟨[],h,λi a hb=>YY,λi b hb=>YY⟩
 | c::r,K,h=>by
  rcases rJ h with⟨f,h⟩ | ⟨f,h⟩
  .obtain⟨v,⟨B,h⟩,_,s⟩:=wI h;obtain⟨l,j,k,m⟩:=Dh h;refine⟨_,j,λi a hb=>?_,λi b hb=>?_⟩;rotate_left
   .cases i with
    | zero=>simp[dv]at hb;subst hb;exact⟨_,I,I,I,λ_ h=>h⟩
    | succ i=>exact m i b hb
   cases i with
   | zero=>
    simp[dv]at hb;subst hb;exact⟨c,I,I,I,I,.inr ⟨I,λe=>jC (g:=λ_=>aM) (λi h=>Ue) v (s _),B⟩⟩
   | succ i=>exact k i a hb
  obtain⟨l,g,j,k⟩:=Dh h;refine⟨_,g,λi a hb=>?_,λi b hb=>?_⟩;rotate_left
  .cases i with
   | zero=>simp[dv]at hb;subst hb;exact⟨_,I,I,I,λ_ h=>h⟩
   | succ i=>exact k i b hb
  cases i with
  | zero=>
   simp[dv]at hb;subst hb;exact⟨c,I,I,I,I,.inl ⟨I,f⟩⟩
  | succ i=>exact j i a hb
def UN(P:Program):L TypeId->(L SV->Prop)->Prop
 | [],K=>K []
 | t::r,K=>YV (Wt P 12 t) λv=>UN P r λs=>K (T0 (match P.underlying t with | some d=>pc d | none=>aM) v::s)
def Iv g:∀l,cln g (Ii l)=jS g l
 | []=>rfl
 | s::r=>by simp[Ii,cln,jS,Iv g r]
def QS g ag {l} (h:jS g l=aF):cln g (T0 ag l)=aF:=by
 cases ag
 .cases l with
  | nil=>rfl
  | cons s r=>simp[jS]at h;exact h.1
 show cln g (Ii l)=aF;rw[Iv];exact h
def Iw{P}:∀{s:L TypeId} {K:L SV->Prop},UN P s K->∃r,K r/\∀g,jS g r=aF
 | [],K,h=>⟨[],h,λ_=>I⟩
 | t::d,K,h=>by
  obtain⟨v,h,_,a⟩:=wI h;obtain⟨r,b,c⟩:=Iw h;exact⟨_,b,λg=>by simp[jS,QS g _ (a g),c g]⟩
def Ej(r:L SV):SV:=match r with
 | [a]=>a
 | r=>.tup (Ii r)
def zZ{g}{rs}(h:jS g rs=aF):cln g (Ej rs)=aF:=by
 unfold Ej;split
 .simp only[jS,B]at h;exact h.1
 show cln g (Ii _)=aF;rw[Iv];exact h
def Ix(P:Program)(t:TypeId):L TypeId:=match P.underlying t with
 | some (.tuple ts)=>ts.toList
 | _=>[t]
def WC(P:Program)(f:FuncId):M:=match P.funcs[f]? with
 | some f=>!(f.name== "runtime.NumGoroutine")&&f.body.isSome
 | none=>aM
def gN{P}{f}(h:WC P f=aF) args w:(callFunc f args).run P w=.ok (.enter f args) w:=by
 unfold WC at h;split at h
 .rename_i f a;simp at h;have b:f.body≠Pw:=Xd
  have n:f.name≠ "runtime.NumGoroutine" :=Xd
  simp[callFunc,a,n,b]
 cases h
def amx(P:Program)(f:FuncId):L TypeId:=match P.funcs[f]? with
 | some f=>f.resultTypes.toList
 | none=>[]
abbrev XT:=aw->aw->Prop->Prop
section
variable {P:Program} {β:Nat->Nat} {st:St} {a:Act} {w w1:aw}
def Rep.next(R:Rep β st a w)(t:st.mv=aM)(p:ue st.bx=aF){bx'}{ct'}
  (f:∀i d,dv bx' i=aN d->d.ok=aF->∃b,dv st.bx i=aN b/\b.ok=aF/\d.blk=b.blk/\Blk w1 (β i) d.ty (cT β d.cells)):Rep β {st with bx:=bx',w0:=w1,ct:=ct'} a w1:=by
 have y:∀i b,dv st.bx i=aN b->b.ok=aF->b.blk=aN (β i):=λi b h e=>by
  have:=zY p i b h e;rcases hk:b.blk with _|k
  .rw[hk]at this;cases this
  rw[(R.bx i b h e).at_ k hk]
 refine⟨R.fr,λi d r q=>?_,λi j bi g l m n o s=>?_,Ib _ _,λ_=>I⟩
 .obtain⟨b,h,e,c,a⟩:=f i d r q;exact⟨a,λk hk=>Xd,λhk=>Xd⟩
 obtain⟨b,h,e,_⟩:=f i bi l n;obtain⟨c,k,a,_⟩:=f j g m o;exact R.ne i j b c h k e a s
def Ia:=@Rep.next
def Rep.U8(R:Rep β st a w)(d:ue st.bx=aF){i}{b}(h:dv st.bx i=aN b)(c:b.ok=aF):b.blk.getD 0=β i:=by
 have:=zY d i b h c;rcases hk:b.blk with _|k
 .rw[hk]at this;cases this
 rw[(R.bx i b h c).at_ k hk];rfl
def WD(P:Program)(X:XT)(st:St)(d:Option Tmp)(J:L TypeId)(f:FuncId)(args:L SV)(s:L ay)(K:St->Prop):Prop:=
 bif jS st.PY args&&ue st.bx then
  Calls P f (cT st.bl args++s).toArray st.w0 λe w1=>UN P J λr=>e=.returned (val β0 (Ej r))/\
   Ei (yL aM st.bx) st.w0 w1 (WB P w1 st.ct st.bx λb=>X st.w0 w1 (K (St.put {st with bx:=b,w0:=w1,ct:=st.ct+1} d (Ej r))))
 else False
def gdK{X}{E:aw->aw->Prop}(s:∀n w1 p,X n w1 p->p/\E n w1){d}{J9}{f}{args}{sE}{K}(h:WD P X st d J9 f args sE K)(o:st.mv=aM)(R:Rep β st a w):
  Calls P f (cT β args++sE).toArray w λe q=>∃v,e=.returned v/\∃k,K k/\Ext st k/\E w q/\Rep β k (a.put d v) q:=by
 obtain⟨i,h⟩:=eE h;simp at i;rw[R.xy i.1,<-R.still o]at h;refine h.mono ?_;rintro e w1 h;obtain⟨z,⟨rfl,c⟩,y⟩:=Iw h;obtain⟨l,S⟩:=wL c;obtain⟨x,m,u,N⟩:=Dh l;obtain⟨h,r⟩:=s _ _ _ m;have ev:val β0 _=val β _:=kD (g:=λ_=>aM) (λj h=>Ue) _ (zZ (y _));refine⟨_,I,_,h,?_,r,?_⟩
 .refine YX (t:={st with bx:=x,w0:=w1,ct:=st.ct+1}) ⟨I,kB _,λ_ _ _ h _=>h,λj b e a d=>?_,N,Kr⟩ (H6 _ _ _)
  grind
 rw[ev];refine L0 (Ia R o i.2 λj d v t=>?_) _ _;obtain⟨b,c,l,m,f,g⟩:=u j d v;have a:b.ok=aF:=by rw[<-l];exact t
 refine⟨b,c,a,m,?_⟩;have e:=R.U8 i.2 c a;rcases g with⟨rfl,h⟩ | ⟨_,h,p⟩
 .have Q:=rB (esc:=aM) c a Xd;rw[e]at Q;exact(S _ Q).trans (R.bx j d c a).blk
 rw[f,h β,<-e];exact p
def za(a b:L ay):L ay:=a++b
def WG(P:Program)(X:XT)(st:St)(d:Option Tmp)(J:L TypeId)(f:FuncId)(s:L ay)(args:L SV)(E:L ay)(K:St->Prop):Prop:=
 bif jS st.PY args&&ue st.bx then
  Calls P f (za (za s (cT st.bl args)) E).toArray st.w0 λe w1=>UN P J λr=>e=.returned (val β0 (Ej r))/\
   Ei (yL aM st.bx) st.w0 w1 (WB P w1 st.ct st.bx λb=>X st.w0 w1 (K (St.put {st with bx:=b,w0:=w1,ct:=st.ct+1} d (Ej r))))
 else False
def aa3{X}{E:aw->aw->Prop}(s:∀n w1 p,X n w1 p->p/\E n w1){d}{J9}{f}{fst}{args}{sE}{K}(h:WG P X st d J9 f fst args sE K)(o:st.mv=aM)(R:Rep β st a w):
  Calls P f (za (za fst (cT β args)) sE).toArray w λe q=>∃v,e=.returned v/\∃k,K k/\Ext st k/\E w q/\Rep β k (a.put d v) q:=by
 obtain⟨i,h⟩:=eE h;simp at i;rw[R.xy i.1,<-R.still o]at h;refine h.mono ?_;rintro e w1 h;obtain⟨z,⟨rfl,c⟩,y⟩:=Iw h;obtain⟨l,S⟩:=wL c;obtain⟨x,m,u,N⟩:=Dh l;obtain⟨h,r⟩:=s _ _ _ m;have ev:val β0 _=val β _:=kD (g:=λ_=>aM) (λj h=>Ue) _ (zZ (y _));refine⟨_,I,_,h,?_,r,?_⟩
 .refine YX (t:={st with bx:=x,w0:=w1,ct:=st.ct+1}) ⟨I,kB _,λ_ _ _ h _=>h,λj b e a d=>?_,N,Kr⟩ (H6 _ _ _)
  grind
 rw[ev];refine L0 (Ia R o i.2 λj d v t=>?_) _ _;obtain⟨b,c,l,m,f,g⟩:=u j d v;have a:b.ok=aF:=by rw[<-l];exact t
 refine⟨b,c,a,m,?_⟩;have e:=R.U8 i.2 c a;rcases g with⟨rfl,h⟩ | ⟨_,h,p⟩
 .have Q:=rB (esc:=aM) c a Xd;rw[e]at Q;exact(S _ Q).trans (R.bx j d c a).blk
 rw[f,h β,<-e];exact p
def wh(P:Program)(X:XT)(st:St)(d:Option Tmp)(J:L TypeId)(args:L SV)(r:L ay->Sem ay)(K:St->Prop):Prop:=
 bif jS st.PY args&&ue st.bx then
  UN P J λs=>∃w1,(r (cT st.bl args)).run P st.w0=.ok (val β0 (Ej s)) w1/\Ei (yL aF st.bx) st.w0 w1 (X st.w0 w1 (K (St.put {st with w0:=w1} d (Ej s))))
 else False
def QT{X}{E:aw->aw->Prop}(j:∀e w1 p,X e w1 p->p/\E e w1){d}{J9}{args}{run}{K}(h:wh P X st d J9 args run K)(m:st.mv=aM)(R:Rep β st a w):
  ∃v c,(run (cT β args)).run P w=.ok v c/\∃k,K k/\Ext st k/\E w c/\Rep β k (a.put d v) c:=by
 obtain⟨b,h⟩:=eE h;simp at b;rw[R.xy b.1,<-R.still m]at h;obtain⟨l,⟨w1,r,h⟩,s⟩:=Iw h;obtain⟨h,S⟩:=wL h;obtain⟨h,f⟩:=j _ _ _ h;have ev:val β0 _=val β _:=kD (g:=λ_=>aM) (λi h=>Ue) _ (zZ (s _));refine⟨_,w1,r,_,h,?_,f,?_⟩
 .refine YX (t:={st with w0:=w1}) ⟨I,H _,λ_ _ _ h _=>h,λi a d o g=>⟨a,d,o,I,I,I,λ_ h=>h⟩,Ws,Kr⟩ (H6 _ _ _)
 rw[ev];refine L0 (Ia (ct':=st.ct) R m b.2 λi a o h=>⟨a,o,h,I,?_⟩) _ _;have Q:=rB (esc:=aF) o h I;rw[R.U8 b.2 o h]at Q;exact(S _ Q).trans (R.bx i a o h).blk
def WI(P:Program)(X:XT)(st:St)(d:Option Tmp)(args:L SV)(u:L ay->Sem ay)(r:SV)(K:St->Prop):Prop:=
 bif jS st.PY args&&ue st.bx&&cln (λ_=>aM) r then
  ∃w1,(u (cT st.bl args)).run P st.w0=.ok (val β0 r) w1/\Ei (yL aF st.bx) st.w0 w1 (X st.w0 w1 (K (St.put {st with w0:=w1} d r)))
 else False
def Di{X}{E:aw->aw->Prop}(j:∀e w1 p,X e w1 p->p/\E e w1){d}{args}{run}{rs}{K}(h:WI P X st d args run rs K)(m:st.mv=aM)(R:Rep β st a w):
  ∃v c,(run (cT β args)).run P w=.ok v c/\∃k,K k/\Ext st k/\E w c/\Rep β k (a.put d v) c:=by
 obtain⟨b,h⟩:=eE h;simp at b;rw[R.xy b.1.1,<-R.still m]at h;obtain⟨w1,r,h⟩:=h;obtain⟨h,S⟩:=wL h;obtain⟨h,f⟩:=j _ _ _ h;have ev:val β0 rs=val β rs:=kD (g:=λ_=>aM) (λi h=>Ue) _ b.2;refine⟨_,w1,r,_,h,?_,f,?_⟩
 .refine YX (t:={st with w0:=w1}) ⟨I,H _,λ_ _ _ h _=>h,λi a d o s=>⟨a,d,o,I,I,I,λ_ h=>h⟩,Ws,Kr⟩ (H6 _ _ _)
 rw[ev];refine L0 (Ia (ct':=st.ct) R m b.1.2 λi a o h=>⟨a,o,h,I,?_⟩) _ _;have Q:=rB (esc:=aF) o h I;rw[R.U8 b.1.2 o h]at Q;exact(S _ Q).trans (R.bx i a o h).blk
def LP(P:Program)(X:XT)(st:St)(d:Option Tmp)(args:L SV)(r:L ay->Sem Unit)(K:St->Prop):Prop:=
 bif jS st.PY args&&ue st.bx then
  ∃w1,(r (cT st.bl args)).run P st.w0=.ok () w1/\Ei (yL aF st.bx) st.w0 w1 (X st.w0 w1 (K (St.put {st with w0:=w1} d .un)))
 else False
def acy{X}{E:aw->aw->Prop}(g:∀e w1 p,X e w1 p->p/\E e w1){d}{args}{run}{K}(h:LP P X st d args run K)(m:st.mv=aM)(R:Rep β st a w):
  ∃c,(run (cT β args)).run P w=.ok () c/\∃k,K k/\Ext st k/\E w c/\Rep β k (a.put d undef) c:=by
 obtain⟨b,h⟩:=eE h;simp at b;rw[R.xy b.1,<-R.still m]at h;obtain⟨w1,r,h⟩:=h;obtain⟨h,S⟩:=wL h;obtain⟨h,f⟩:=g _ _ _ h;refine⟨w1,r,_,h,?_,f,?_⟩
 .refine YX (t:={st with w0:=w1}) ⟨I,H _,λ_ _ _ h _=>h,λi a d o s=>⟨a,d,o,I,I,I,λ_ h=>h⟩,Ws,Kr⟩ (H6 _ _ _)
 refine L0 (v:=.un) (Ia (ct':=st.ct) R m b.2 λi d a o=>⟨d,a,o,I,?_⟩) _;have Q:=rB (esc:=aF) a o I;rw[R.U8 b.2 a o]at Q;exact(S _ Q).trans (R.bx i d a o).blk
end
def vp(l:L ay)(i:Nat):ay:=match l,i with
 | [],_=>undef
 | v::_,0=>v
 | _::r,i+1=>vp r i
def zp:L Nat->L ay->L (Nat×ay)
 | i::r,v::s=>(i,v)::zp r s
 | _,_=>[]
def zR:L (Nat×SV)->L Nat
 | []=>[]
 | p::r=>p.1::zR r
def WJ:L (Nat×SV)->L SV
 | []=>[]
 | p::r=>p.2::WJ r
def afo β:∀l,zp (zR l) (cT β (WJ l))=GX β l
 | []=>rfl
 | p::r=>by
  have:=afo β r;simp[cT]at this;simp[zR,WJ,cT,zp,GX,this]
def amy(P:Program)(t:TypeId):M:=match P.underlying t with
 | some (.pointer _)=>aF
 | _=>aM
def amz:Operand->M
 | .const _=>aF
 | _=>aM
def Lm:SV->M
 | .ptr _=>aF
 | .ad _=>aF
 | _=>aM
def mh(P:Program):Op->M
 | .move _=>aF
 | .assign _=>aF
 | .pick _ _ _=>aF
 | .binOp _ t x y _=>!(amy P t)||amz x||amz y
 | .unOp _ _ _=>aF
 | .extract _ _=>aF
 | .build _ _=>aF
 | .makeFunc _ _ _=>aF
 | .makeInterface _ _=>aF
 | .nilCheck _=>aF
 | .fieldAddr _ _ _=>aF
 | .field _ _ _=>aF
 | .indexAddr _ _ _=>aF
 | .load _ _=>aF
 | .index _ _ _=>aF
 | .slice _ _ _ _ _=>aF
 | .convert s d _=>(match P.underlying s,P.underlying d with
  | some (.int _),aN (.int _)=>aF
  | some .string,aN .string=>aF
  | some (.slice e),aN .string=>(match P.underlying e with
   | some (.int .u8)=>aF
   | _=>aM)
  | _,_=>aM)
 | .call c=>(match c.callee with
  | .builtin .len=>(match c.argTypes.toList with
   | [t]=>(match P.underlying t with
    | some (.slice _)=>aF
    | some .string=>aF
    | _=>aM)
   | _=>aM)
  | .builtin .cap=>aF
  | .builtin .min=>aF
  | .builtin .max=>aF
  | _=>aM)
 | _=>aM
def Ek:Op->M
 | .store _ _ _=>aF
 | _=>aM
def amA(P:Program)(X:XT)(st:St)(o:Oper)(b:Builtin)(t:Array TypeId)(v:L SV)(K:St->Prop):Prop:=match b with
 | .append=>wh P X st o.dst (Ix P o.type) v (λl=>Builtin.append_ t o.type l.toArray) K
 | .copy=>wh P X st o.dst (Ix P o.type) v (λl=>Builtin.copy_ t o.type l.toArray) K
 | .delete=>wh P X st o.dst (Ix P o.type) v (λl=>Builtin.delete_ t o.type l.toArray) K
 | .clear=>wh P X st o.dst (Ix P o.type) v (λl=>Builtin.clear_ t o.type l.toArray) K
 | .len=>wh P X st o.dst (Ix P o.type) v (λl=>Builtin.len_ t o.type l.toArray) K
 | .unsafeSliceData=>wh P X st o.dst (Ix P o.type) v (λl=>Builtin.unsafeSliceData_ t o.type l.toArray) K
 | .unsafeString=>wh P X st o.dst (Ix P o.type) v (λl=>Builtin.unsafeString_ t o.type l.toArray) K
 | _=>False
def T4(f:FuncId)(args:Array ay):Sem ay:=do
 match <-callFunc f args with
 | .value v=>pure v
 | _=>stuck "extV"
def chk{P}{f}{args}{w w1}{v}(h:(T4 f args).run P w=.ok v w1):(callFunc f args).run P w=.ok (.value v) w1:=by
 unfold T4 at h;rw[Sem.run_bind]at h;cases c:(callFunc f args).run P w with
 | ok n w=>
  rw[c,Result.andThen_ok]at h;cases n<;>first | (simp at h;done) | (simp at h;obtain⟨rfl,rfl⟩:=h;rfl) | (simp at h)
 | _=>rw[c]at h;simp at h
def ahA{P}{a:Act}{w w1}{v}{dst}{x}{f}{first captured}{s:L Operand}{ats}{t'}{p}{af}{g}{args}
  (b:a.eval x=.func (.func f) first.toArray captured.toArray)
  (h:first++s.map a.eval++captured=args) (c:(callFunc f args.toArray).run P w=.ok (.value v) w1):
  (execOp a.eval ⟨dst,.call ⟨.value x,s.toArray,ats⟩,t',p,af,g⟩).run P w=.ok (.value v) w1:=by
 subst h;simp only[execOp,resolve,b,Deferred.ofValue,invoke]
 grind
def YE(P:Program)(X:XT)(st:St)(o:Oper)(f:SV)(s:L SV)(K:St->Prop):Prop:=match f with
 | .fn g a c=>bif Gf a&&Gf c&&WC P g then fO (st.esc (qx a++s++qx c)) λst=>WD P X st o.dst (amx P g) g (qx a++s++qx c) [] K
  else bif Gf a&&Gf c then fO (st.esc (qx a++s++qx c)) λst=>wh P X st o.dst (amx P g) (qx a++s++qx c) (λl=>T4 g l.toArray) K else False
 | .raw v=>fO (st.esc s) λst=>∃(g:FuncId) (t cap:L ay),v.v=.func (.func g) t.toArray cap.toArray/\(∀a w,(callFunc g a).run P w=.ok (.enter g a) w)/\WG P X st o.dst (Ix P o.type) g t s cap K
 | _=>False
abbrev YT:=Option Nat->Prop->Prop
def amB(P:Program)(X:XT)(Y:YT)(st:St)(o:Oper)(p s:SV)(v:L SV)(K:St->Prop):Prop:=match p with
 | .box i off=>cE (dv st.bx i) λb=>bif b.ok&&Nat.ble (off+qj v) (qj b.cells) then Y b.blk (K ((st.xz i b (Bq b.cells off v)).put o.dst .un))else False
 | .ad p=>fO (st.esc v) λst=>∃(b off:Nat) (cells:L ay) (e:TypeId),p=(⟨b,off,Pw⟩)/\Blk st.w0 b e cells/\off+qj v<=qj cells/\
  bif jS st.PY v&&ue st.bx then Xr b st.bx (∀w,Only [b] st.w0 w->Blk w b e (gD cells off (cT st.bl v))->X st.w0 w (K (St.put {st with w0:=w} o.dst .un)))else False
 | _=>False
def amC(P:Program)(st:St)(o:Oper)(f:SV)(v:L SV)(K:St->Prop):Prop:=match f with
 | .fn g s c=>bif Gf s&&Gf c&&WC P g then fO (st.esc (qx s++v++qx c)) λst=>bif jS st.PY (qx s++v)&&jS st.PY (qx c)then
  K (St.put {st with df:=(g,cT st.bl (qx s++v),cT st.bl (qx c))::st.df} o.dst .un)else False else False
 | _=>False
def loud(P:Program)(X:XT)(Y:YT)(st:St)(o:Oper)(K:St->Prop):Prop:=match o.op with
 | .binOp op t x y _=>cE (st.ev x) λa=>cE (st.ev y) λb=>bif Lm a&&Lm b then fO (st.esc [a,b]) λst=>wh P X st o.dst [o.type] [a,b] (λv=>Go.binOp op t (vp v 0) (vp v 1)) K else False
 | .alloc t=>cE (zc P t) λz=>bif WK st z then K (st.JS o.dst t z)else False
 | .box t x=>cE (st.ev x) λs=>cE (D4 s) λz=>bif WK st z then K (st.JS o.dst t z)else False
 | .store t x y=>cE (st.ev x) λp=>cE (st.ev y) λs=>cE (D4 s) λv=>bif sz P t (qj v) then amB P X Y st o p s v K else False
 | .call c=>cE (st.Te c.args.toList) λv=>(match c.callee with
  | .value f=>cE (st.ev f) λa=>YE P X st o a v K
  | .builtin b=>fO (st.esc v) λst=>amA P X st o b c.argTypes v K
  | _=>False)
 | .defer c=>cE (st.Te c.args.toList) λv=>(match c.callee with
  | .value f=>cE (st.ev f) λa=>amC P st o a v K
  | _=>False)
 | .buildSlice t n ps=>cE (st.evp ps.toList) λl=>fO (st.esc (WJ l)) λst=>wh P X st o.dst [t] (WJ l) (λv=>Instr.buildSlice t n (zp (zR l) v).toArray) K
 | .makeSlice t x y=>cE (st.ev x) λa=>cE (st.ev y) λb=>fO st λst=>wh P X st o.dst [t] [a,b] (λv=>Instr.makeSlice t (vp v 0) (vp v 1)) K
 | .makeMap t Pw=>fO st λst=>wh P X st o.dst [t] [] (λ_=>Instr.makeMap t Pw) K
 | .makeMap t (aN x)=>cE (st.ev x) λa=>fO st λst=>wh P X st o.dst [t] [a] (λv=>Instr.makeMap t (aN (vp v 0))) K
 | .lookup t x i ok=>cE (st.ev x) λa=>cE (st.ev i) λb=>fO st λst=>wh P X st o.dst (Ix P o.type) [a,b] (λv=>Instr.lookup t (vp v 0) (vp v 1) ok) K
 | .mapUpdate t x y z=>cE (st.ev x) λa=>cE (st.ev y) λb=>cE (st.ev z) λc=>fO (st.esc [a,b,c]) λst=>LP P X st o.dst [a,b,c] (λv=>Instr.mapUpdate t (vp v 0) (vp v 1) (vp v 2)) K
 | .insert t x y z=>cE (st.ev x) λa=>cE (st.ev y) λb=>cE (st.ev z) λc=>fO (st.esc [a,b,c]) λst=>LP P X st o.dst [a,b,c] (λv=>Instr.mapUpdate t (vp v 0) (vp v 1) (vp v 2)) K
 | .convert s d x=>cE (st.ev x) λa=>fO (st.esc [a]) λst=>wh P X st o.dst [d] [a] (λv=>convert s d (vp v 0)) K
 | .range t x=>cE (st.ev x) λa=>fO st λst=>∃p,WI P X st o.dst [a] (λv=>Instr.range t (vp v 0)) (.ptr p) K
 | .next x aM=>cE (st.ev x) λa=>fO st λst=>WI P X st o.dst [a] (λv=>Instr.next (vp v 0) aM o.type) (.tup (Ii [.bl aM])) K∨
  YV [.raw,.raw] λr=>WI P X st o.dst [a] (λv=>Instr.next (vp v 0) aM o.type) (.tup (Ii (.bl aF::r))) K
 | .entry x=>cE (st.ev x) λa=>fO st λst=>YV [.raw,.raw] λr=>WI P X st o.dst [a] (λv=>Instr.entry (vp v 0)) (.tup (Ii r)) K
 | _=>False
section
variable {P:Program} {β:Nat->Nat} {st:St} {a:Act} {w w1:aw} {X:XT} {Y:YT} {E:aw->aw->Prop} {K:St->Prop} {Q:Exit->Act->aw->Prop}
abbrev UQ(E:aw->aw->Prop)(st:St)(K:St->Prop)(c:aw)(b:Act)(w:aw):Prop:=∃a d,K d/\Ext st d/\E c w/\Rep a d b w
def oe(f:∀b w1 p,X b w1 p->p/\E b w1){o}{J9}{args l}{run}(h:fO (st.esc l) λst=>wh P X st o.dst J9 args run K)(R:Rep β st a w)
  (x:∀v w1,(run (cT β args)).run P w=.ok v w1->(execOp a.eval o).run P w=.ok (.value v) w1):o.wp P a w (UQ E st K w) Q:=by
 obtain⟨s,c,e,j,m,_⟩:=ff h (R.esc l);obtain⟨v,n,r,d,k,g,k3,i⟩:=QT f c m j;exact Co v (x v n r) I ⟨β,d,k,(Ug st l).trans (e.trans g),k3,i⟩
def Aa(f:∀b w1 p,X b w1 p->p/\E b w1){o}{J9}{args}{run}(h:fO st λst=>wh P X st o.dst J9 args run K)(R:Rep β st a w)
  (x:∀v w1,(run (cT β args)).run P w=.ok v w1->(execOp a.eval o).run P w=.ok (.value v) w1):o.wp P a w (UQ E st K w) Q:=by
 obtain⟨s,c,e,j,m,_⟩:=ff h R;obtain⟨v,l,r,d,k,g,k3,i⟩:=QT f c m j;exact Co v (x v l r) I ⟨β,d,k,e.trans g,k3,i⟩
def Lp(f:∀b w1 p,X b w1 p->p/\E b w1){o}{args l}{run}(h:fO (st.esc l) λst=>LP P X st o.dst args run K)(R:Rep β st a w)
  (x:∀w1,(run (cT β args)).run P w=.ok () w1->(execOp a.eval o).run P w=.ok .skip w1):o.wp P a w (UQ E st K w) Q:=by
 obtain⟨s,c,e,j,m,_⟩:=ff h (R.esc l);obtain⟨n,r,d,k,g,k3,i⟩:=acy f c m j;exact ahM (x n r) I ⟨β,d,k,(Ug st l).trans (e.trans g),k3,i⟩
def QU(e:∀w w1,Only [] w w1->E w w1){d}{t}{zs}(h:WK st zs=aF)(c:K (st.JS d t zs))(R:Rep β st a w){b}(f:w.heap.size<=b)(O:Only [] w w1)(B:Blk w1 b t (cT β zs)):
  UQ E st K w (a.put d (.pointer (aN ⟨b,0,Pw⟩))) w1:=by
 simp[WK]at h;exact⟨_,_,c,Ext.JS _ _ _ _,e _ _ O,R.JS h.1.1.1 h.1.1.2 h.1.2 f O B h.2⟩
def nb0(g:∀b w1 p,X b w1 p->p/\E b w1){o}{J9}{f}{args}{sE}{s1}(h:WD P X s1 o.dst J9 f args sE K)(m:s1.mv=aM)(c:Ext st s1)(R:Rep β s1 a w)
  (x:(execOp a.eval o).run P w=.ok (.enter f (cT β args++sE).toArray) w):o.wp P a w (UQ E st K w) Q:=by
 refine agX x ((gdK g h m R).mono ?_);rintro e l ⟨v,rfl,d,k,i,k3,j⟩;exact⟨v,_,I,I,β,d,k,c.trans i,k3,j⟩
def abh(g:∀b w1 p,X b w1 p->p/\E b w1){o}{J9}{f}{fst}{args}{sE}{s1}(h:WG P X s1 o.dst J9 f fst args sE K)(m:s1.mv=aM)(c:Ext st s1)(R:Rep β s1 a w)
  (x:(execOp a.eval o).run P w=.ok (.enter f (za (za fst (cT β args)) sE).toArray) w):o.wp P a w (UQ E st K w) Q:=by
 refine agX x ((aa3 g h m R).mono ?_);rintro e l ⟨v,rfl,d,k,i,k3,j⟩;exact⟨v,_,I,I,β,d,k,c.trans i,k3,j⟩
def WM{s}(h:Lm s=aF) β:∃q,val β s=.pointer q:=by
 cases s<;>first | (cases h;done) | exact⟨_,I⟩
def acA{a:Act}{dst}{op}{t ty}{x y}{t'}{p}{af}{g}{u v r}(c:∃q,u=.pointer q)(d:∃q,v=.pointer q)(e:a.eval x=u)(f:a.eval y=v){w w1}
  (b:(Go.binOp op t u v).run P w=.ok r w1):(execOp a.eval ⟨dst,.binOp op t x y ty,t',p,af,g⟩).run P w=.ok (.value r) w1:=by
 obtain⟨q,rfl⟩:=c;obtain⟨i,rfl⟩:=d;have h:eqGuard op t x y (.pointer q) (.pointer i)=pure ():=by cases op<;>rfl
 simp[execOp,e,f,h,b]
def acB{a:Act}{dst}{x}{fn}{first c:L ay}{s:L Operand}{ats}{t'}{p}{af}{g}{args}{w}
  (b:a.eval x=.func fn first.toArray c.toArray) (h:first++s.map a.eval=args):
  (execOp a.eval ⟨dst,.defer ⟨.value x,s.toArray,ats⟩,t',p,af,g⟩).run P w=.ok (.defer {target:=.fn fn c.toArray,args:=args.toArray}) w:=by
 subst h;simp only[execOp,resolve,b,Deferred.ofValue];simp
def ae8{a:Act}{dst}{t}{x}{t'}{p}{af}{g}{u v}{w w1}(b:a.eval x=u)(h:(Instr.range t u).run P w=.ok v w1):
  (execOp a.eval ⟨dst,.range t x,t',p,af,g⟩).run P w=.ok (.value v) w1:=by
 simp[execOp,b,h]
def okT{a:Act}{dst}{x}{t'}{p}{af}{g}{u v}{w w1}(b:a.eval x=u)(h:(Instr.next u aM t').run P w=.ok v w1):
  (execOp a.eval ⟨dst,.next x aM,t',p,af,g⟩).run P w=.ok (.value v) w1:=by
 simp[execOp,b,h]
def aap{a:Act}{dst}{x}{t'}{p}{af}{g}{u v}{w w1}(b:a.eval x=u)(h:(Instr.entry u).run P w=.ok v w1):
  (execOp a.eval ⟨dst,.entry x,t',p,af,g⟩).run P w=.ok (.value v) w1:=by
 simp[execOp,b,h]
def og β l m:cT β (l++m)=cT β l++cT β m:=by simp[cT]
def Iy(d:∀l w1 p,X l w1 p->p/\E l w1){o:Oper}(i:∀w w1,Only [] w w1->E w w1)(S:Ek o.op=aF->∀g k w w1 p,Y g p->(∀j,g=aN j->k=j)->Only [k] w w1->p/\E w w1)(h:loud P X Y st o K)(R:Rep β st a w):o.wp P a w (UQ E st K w) Q:=by
 obtain⟨e,op,u,p,m,r⟩:=o;unfold loud at h;dsimp only at h;split at h
 .obtain⟨x,b,h⟩:=bJ h;obtain⟨y,c,h⟩:=bJ h;obtain⟨p,h⟩:=eE h;simp only[B]at p;exact oe d h R λv w1 a=>acA (WM p.1 β) (WM p.2 β) (R.ev b) (R.ev c) a
 .obtain⟨s,n,h⟩:=bJ h;obtain⟨k,h⟩:=eE h;obtain⟨z,p,q⟩:=afn n w;exact KV p (q β) (λ_=>I) λb w1 f c a=>QU i k h R f c a
 .obtain⟨s,n,h⟩:=bJ h;obtain⟨p,z,h⟩:=bJ h;obtain⟨k,h⟩:=eE h;exact ahh (by rw[R.ev n];exact(Bj z β).1) (λ_=>I) λb w1 f c a=>QU i k h R f c a
 .obtain⟨q,x,h⟩:=bJ h;obtain⟨s,y,h⟩:=bJ h;obtain⟨a,k,h⟩:=bJ h;obtain⟨z,h⟩:=eE h;obtain⟨c,f⟩:=Bj k β;have E:=S I;cases q with
  | box q off=>
   obtain⟨b,p,h⟩:=bJ h;obtain⟨n,h⟩:=eE h;simp only[B]at n;have v:=dz n.2;refine KU (tH z w) (R.ev x) (by rw[R.ev y];exact c) (gM β a) f (R.bx q b p n.1).blk (by rw[gM,gM];exact v) I I λw1 t s=>?_;rw[<-chK]at s;obtain⟨h,A⟩:=E _ (β q) _ w1 _ h (λj C=>(R.bx q b p n.1).at_ j C) t;exact⟨β,_,h,(Ext.xz p).trans (H6 _ _ _),A,(R.xz p n.1 t s).put e .un⟩
  | ad ad=>
   simp only[amB]at h;obtain⟨J,P,K,N,F,_⟩:=ff h (R.esc a);obtain⟨g,off,cells,M,rfl,C,V,b⟩:=P;obtain⟨s,b⟩:=eE b;simp only[B]at s;obtain⟨b,W⟩:=OK b;have G:=N.still F;rw[<-G,N.xy s.1]at b;rw[<-G]at C;refine KU (tH z w) (R.ev x) (by rw[R.ev y];exact c) (gM β a) f C (by rw[gM];exact V) I I λw1 D X=>?_;obtain⟨Q,T⟩:=d _ _ _ (b w1 D X);refine⟨β,_,Q,((Ug st a).trans K).trans (YX (t:={J with w0:=w1}) ⟨I,H _,λ_ _ _ h _=>h,λA q p n Y=>⟨q,p,n,I,I,I,λ_ h=>h⟩,Ws,Kr⟩ (H6 _ _ _)),T,?_⟩;refine L0 (v:=.un) (Ia (ct':=J.ct) N F s.2 λA q p n=>⟨q,p,n,I,?_⟩) _;have L:=N.U8 s.2 p n;have:=W A q p n;rw[L]at this;exact D.blk (N.bx A q p n).blk (by simpa using this)
  | _=>exact h.elim
 .rename_i c;obtain⟨n,⟨x⟩,t⟩:=c;obtain⟨s,p,h⟩:=bJ h;have k:=R.Te p;dsimp only at h;cases n with
  | value f=>
   obtain⟨c,b,h⟩:=bJ h;cases c with
   | fn C z y=>
    have A:Gf z=aF->Gf y=aF->a.eval f=.func (.func C) (cT β (qx z)).toArray (cT β (qx y)).toArray:=λE F=>by
     rw[R.ev b];show Value.func (.func C) (ua β z).toArray (ua β y).toArray=_;rw[pT β E,pT β F]
    have D:=h;unfold YE at D;rcases rJ D with⟨q,w⟩ | ⟨_,w⟩
    .simp only[B]at q;obtain⟨v,w,a,N,f,_⟩:=ff w (R.esc _);refine nb0 d w f ((Ug _ _).trans a) N ?_;exact KP (A q.1.1 q.1.2) (gN q.2) (by rw[k,og,og,bC])
    obtain⟨q,w⟩:=eE w;simp only[B]at q;exact oe d w R λv w1 a=>ahA (A q.1 q.2) (by rw[k,og,og]) (chk a)
   | raw v=>
    simp only[YE]at h;obtain⟨F,⟨z,q,cap,A,C,D⟩,w,N,E,_⟩:=ff h (R.esc s);refine abh d D E ((Ug _ _).trans w) N ?_;have y:a.eval f=.func (.func z) q.toArray cap.toArray:=(R.ev b).trans A;exact KP y C (by rw[k];rfl)
   | _=>exact h.elim
  | builtin b=>
   unfold amA at h;cases b with
   | append=>exact oe d h R λv w1 a=>ag3 k a
   | copy=>exact oe d h R λv w1 a=>exT k a
   | delete=>exact oe d h R λv w1 a=>lvP k a
   | clear=>exact oe d h R λv w1 a=>abb k a
   | len=>exact oe d h R λv w1 a=>atB k a
   | unsafeSliceData=>exact oe d h R λv w1 a=>(by rw[<-k]at a;exact oX (λ_=>I) a)
   | unsafeString=>exact oe d h R λv w1 a=>(by rw[<-k]at a;exact oX (λ_=>I) a)
   | _=>
    obtain⟨b,a,_⟩:=ff h (R.esc s);exact a.elim
  | _=>exact h.elim
 .rename_i c;obtain⟨b,⟨x⟩,s⟩:=c;obtain⟨v,n,h⟩:=bJ h;have k:=R.Te n;dsimp only at h;cases b with
  | value f=>
   obtain⟨c,q,h⟩:=bJ h;cases c with
   | fn C A z=>
    unfold amC at h;obtain⟨E,y⟩:=eE h;simp only[B]at E;have L:a.eval f=.func (.func C) (cT β (qx A)).toArray (cT β (qx z)).toArray:=by
     rw[R.ev q];show Value.func (.func C) (ua β A).toArray (ua β z).toArray=_;rw[pT β E.1.1,pT β E.1.2]
    obtain⟨D,y,K,N,V,_⟩:=ff y (R.esc _);obtain⟨F,y⟩:=eE y;simp only[B]at F;rw[N.xy F.1,N.xy F.2]at y;have Q:=acB (P:=P) (dst:=e) (ats:=s) (t':=u) (p:=p) (af:=m) (g:=r) (w:=w) L (by rw[k,<-og]);unfold Oper.wp;rw[Q,Oper.upon_defer];have G:Rep β {D with df:=(C,cT β (qx A++v),cT β (qx z))::D.df} {a with defers:={target:=.fn (.func C) (cT β (qx z)).toArray,args:=(cT β (qx A++v)).toArray}::a.defers} w:=by
     obtain⟨f,a⟩:=N.fr;exact⟨⟨f,by rw[a];rfl⟩,N.bx,N.ne,N.only,N.still⟩
    exact⟨β,_,y,((Ug _ _).trans K).trans (YX (t:={D with df:=(C,cT β (qx A++v),cT β (qx z))::D.df}) ⟨I,H _,λ_ _ _ h _=>h,λX J T M W=>⟨J,T,M,I,I,I,λ_ h=>h⟩,Ws,⟨[_],I⟩⟩ (H6 _ _ _)),i _ _ (Ib _ _),G.put e .un⟩
   | _=>exact h.elim
  | _=>exact h.elim
 .rename_i t n ps;obtain⟨f,c,b⟩:=bJ h;clear h;obtain⟨ps⟩:=ps;refine oe d b R λv w1 a=>?_;rw[afo]at a;exact zOk (R.evp c) a
 .obtain⟨b,x,h⟩:=bJ h;obtain⟨v,y,h⟩:=bJ h;exact Aa d h R λ_ w1 a=>abu (R.ev x) (R.ev y) a
 .exact Aa d h R λ_ w1 a=>abq a
 .obtain⟨b,x,h⟩:=bJ h;exact Aa d h R λ_ w1 a=>rb3 (R.ev x) a
 .obtain⟨b,x,h⟩:=bJ h;obtain⟨v,y,h⟩:=bJ h;exact Aa d h R λ_ w1 a=>aix (R.ev x) (R.ev y) a
 .obtain⟨c,x,h⟩:=bJ h;obtain⟨v,y,h⟩:=bJ h;obtain⟨z,b,h⟩:=bJ h;exact Lp d h R λw1 a=>aeG (R.ev x) (R.ev y) (R.ev b) a
 .obtain⟨c,x,h⟩:=bJ h;obtain⟨v,y,h⟩:=bJ h;obtain⟨z,b,h⟩:=bJ h;exact Lp d h R λw1 a=>sxv (R.ev x) (R.ev y) (R.ev b) a
 .obtain⟨b,x,h⟩:=bJ h;exact oe d h R λ_ w1 a=>ajq (R.ev x) a
 .obtain⟨w,x,h⟩:=bJ h;obtain⟨t,⟨q,b⟩,a,N,c,_⟩:=ff h R;obtain⟨v,y,f,k,n,p,k3,s⟩:=Di d b c N;exact Co v (ae8 (R.ev x) f) I ⟨β,k,n,a.trans p,k3,s⟩
 .obtain⟨f,x,h⟩:=bJ h;obtain⟨s,a,b,N,c,_⟩:=ff h R;rcases a with a | a
  .obtain⟨v,w,n,k,p,q,k3,t⟩:=Di d a c N;exact Co v (okT (R.ev x) n) I ⟨β,k,p,b.trans q,k3,t⟩
  obtain⟨_,a,_⟩:=wI a;obtain⟨v,w,n,k,p,q,k3,t⟩:=Di d a c N;exact Co v (okT (R.ev x) n) I ⟨β,k,p,b.trans q,k3,t⟩
 .obtain⟨t,x,h⟩:=bJ h;obtain⟨s,a,b,N,c,_⟩:=ff h R;obtain⟨_,a,_⟩:=wI a;obtain⟨v,w,f,k,n,p,k3,q⟩:=Di d a c N;exact Co v (aap (R.ev x) f) I ⟨β,k,n,b.trans p,k3,q⟩
 exact h.elim
end
def nd(P:Program)(st:St)(o:Op):M:=match o with
 | .load _ x=>(match st.ev x with
  | some (.ad _)=>aF
  | _=>aM)
 | .convert s _ _=>(match P.underlying s with
  | some (.slice _)=>aF
  | _=>aM)
 | _=>aM
def WW(b:M)(st:St)(K:St->Prop):Prop:=bif b&&st.mv then fO st K else K st
def Bo{b}{st}{K}(h:WW b st K){β}{a}{w}(R:Rep β st a w):∃d,K d/\Ext st d/\Rep β d a w/\d.fr=st.fr/\d.n=st.n:=by
 rcases rJ h with⟨_,h⟩ | ⟨_,h⟩
 .obtain⟨s,a,b,c,g,e,f,_⟩:=ff h R;exact⟨s,a,b,c,e,f⟩
 exact⟨st,h,Uk _,R,I,I⟩
def Iz(P:Program):L Oper->M
 | []=>aF
 | o::r=>mh P o.op&&Iz P r
def OL:L Oper->M
 | []=>aM
 | o::r=>mem o.op||OL r
def aha:XT:=λ_ _ p=>p
def vrT:YT:=λ_ p=>p
def agT(P:Program)(t:TypeId):M:=match P.underlying t with
 | some d=>pc d
 | none=>aM
def Xj(P:Program)(o:Oper)(v:SV)(K:SV->Prop):Prop:=match o.op,v with
 | .extract _ _,.raw x=>(match Wt P 12 o.type with
  | []=>K (.raw x)
  | [.raw]=>K (.raw x)
  | ls=>YV ls λv=>x.v=val β0 (T0 (agT P o.type) v)/\K (T0 (agT P o.type) v))
 | _,v=>K v
def acC{P}{o}{v}{K}(h:Xj P o v K):∃u,K u/\∀a,val a u=val a v:=by
 unfold Xj at h;split at h
 .split at h
  .exact⟨_,h,λ_=>I⟩
  .exact⟨_,h,λ_=>I⟩
  obtain⟨v,⟨e,h⟩,_,c⟩:=wI h;exact⟨_,h,λa=>Eq.trans (kD (g:=λ_=>aM) (λi h=>Ue) _ (QS _ _ (c _))).symm e.symm⟩
 exact⟨_,h,λ_=>I⟩
def QW(P:Program)(st:St)(o:Oper)(K:St->Prop):Prop:=
 bif mh P o.op then WW (nd P st o.op) st λst=>Ud P [] st o.op λv=>Xj P o v λv=>K (st.put o.dst v)else loud P aha vrT st o K
def CS(P:Program)(o:L Oper):Nat->L Oper->St->(St->Prop)->Prop
 | 0,_,_,_=>False
 | _+1,[],st,K=>K st
 | f+1,a::r,st,K=>match a.guard with
  | none=>QW P st a λst=>CS P o f r st K
  | some (j,want)=>(match Zj st o j with
   | some (_,.un)=>CS P o f r (st.put a.dst .un) K
   | some (_,.bl b)=>bif b==want then QW P st a λst=>CS P o f r st K else CS P o f r (st.put a.dst .un) K
   | some (d,.bt t)=>bif Iz P ((a::r).take (CR o j (a::r)+1))
    then WW (OL ((a::r).take (CR o j (a::r)+1))) st λst=>Bl P o f [] ((a::r).take (CR o j (a::r)+1)) st λst=>CS P o f ((a::r).drop (CR o j (a::r)+1)) st K
    else((t=aF->CS P o f (a::r) (st.put (aN d) (.bl aF)) K)/\(t=aM->CS P o f (a::r) (st.put (aN d) (.bl aM)) K))
   | _=>False)
section
variable {P:Program} {ops:L Oper} {Q:Exit->Act->aw->Prop}
def aeC{st}{o}{rest}{K}{β}{a}{w}(h:QW P st o K)(R:Rep β st a w)(e:Region.wanted o (yielded ops.toArray a.tmps)=aF)
  (g:∀b d c f,K d->Ext st d->Rep b d c f->wpList P ops.toArray Q rest c f):wpList P ops.toArray Q (o::rest) a w:=by
 rcases rJ h with⟨_,h⟩ | ⟨_,h⟩
 .obtain⟨s,k,l,j,m,n⟩:=Bo h R;obtain⟨v,i,y⟩:=OG k;obtain⟨u,i,ev⟩:=acC i;exact Oi _ e (y trivial β a w j _ _ _ _ _ w λ_=>I) I (g β _ _ w i (l.trans (H6 _ _ _)) (ev β▸j.put o.dst u))
 refine ahg e (Oper.wp_mono ?_ (Iy (E:=λ_ _=>True) (λ_ _ _ h=>⟨h,trivial⟩) (λ_ _ _=>trivial) (λ_ _ _ _ _ _ h _ _=>⟨h,trivial⟩) h R))
 grind
def xM:∀{f:Nat} {l:L Oper} {st:St} {K:St->Prop},CS P ops f l st K->∀{h:Nat->Nat} {a:Act} {g:aw},Rep h st a g->
  (∀c k e w,K k->Ext st k->Rep c k e w->Q .normal e w)->wpList P ops.toArray Q l a g
 | 0,_,_,_,a,_,_,_,_,_=>a.elim
 | _+1,[],st,K,b,h,a,g,R,d=>d h st a g b (Uk _) R
 | f+1,o::r,st,K,i,h,a,g,R,j=>by
  have n:CS P ops f r _ K->Region.wanted o _=aM->wpList P ops.toArray Q _ a g:=λi m=>
   afd m I (xM i (R.put o.dst .un) λc k e w a b k3=>j c k e w a ((H6 _ _ _).trans b) k3)
  have y:(QW P st o λst=>CS P ops f r st K)->Region.wanted o _=aF->wpList P ops.toArray Q _ a g:=λi m=>
   aeC i R m λc k e w d f k3=>xM d k3 λa C b t p q s=>j a C b t p (f.trans q) s
  unfold CS at i;split at i
  .rename_i a;exact y i (wn a)
  rename_i q p f;split at i
  .rename_i d t;exact n i (Bk R f t)
  .rename_i d b t;have m:=uc R f t (b:=b) I
   grind
  .rename_i d t u;obtain⟨v,J,Z,b⟩:=D7 u;rcases rJ i with⟨_,i⟩ | ⟨_,i⟩
   .generalize CR ops q _+1=H at i;obtain⟨s,A,B,D,T,V⟩:=Bo i R;obtain⟨W,E,F,k3,G⟩:=vj A;obtain⟨e,x,z⟩:=G trivial h a g D;have:=Il (Q:=Q) (rest:=(o::r).drop H) x (xM E z λd C t S M N P=>j d C t S M ((B.trans F).trans N) P);simp_all
   cases t
   .exact xM (i.2 I) (R.set b I) λc k e w a d k3=>j c k e w a ((H6 _ _ _).trans d) k3
   exact xM (i.1 I) (R.set b I) λc k e w a d k3=>j c k e w a ((H6 _ _ _).trans d) k3
  exact i.elim
end
def JT:L Lf->Type
 | []=>aw->Prop
 | l::r=>l.T->JT r
def Lr:(l:L Lf)->JT l->(L SV->aw->Prop)->Prop
 | [],J,K=>∀w,J w->K [] w
 | a::r,J,K=>∀x,Lr r (J x) λv w=>K (a.sv x::v) w
def QP(k:IntKind)(s:SV):Option Int:=match ub s with
 | some (k',n)=>bif YR (k'=k)then aN n else Pw
 | none=>Pw
def Nj(bl:Nat->Nat)(s:SV):Option (Option Addr):=match s with
 | .box i o=>aN (aN ⟨bl i,o,Pw⟩)
 | s=>opn s
def Oh(s:SV):Option (Option Nat):=match s with
 | .map m=>aN m
 | _=>Pw
def Ms(bl:Nat->Nat)(s:SV):Option OV:=match s with
 | .raw v=>aN v
 | .fn f s c=>aN ⟨.func (.func f) (ua bl s).toArray (ua bl c).toArray,I⟩
 | _=>Pw
def un(bl:Nat->Nat):(l:Lf)->SV->Option l.T
 | .int k=>QP k
 | .bool=>D3
 | .str=>y9
 | .ptr=>Nj bl
 | .sl=>QJ
 | .map=>Oh
 | .raw=>Ms bl
def amD{bl}{l}{s}{x}(h:un bl l s=aN x) β:val β (l.sv x)=val bl s:=by
 cases l with
 | int k=>
  have h:QP k s=aN x:=h;unfold QP at h;split at h
  .rename_i k n o;obtain⟨e,rfl⟩:=Ij h;have e:=u e;subst e;rw[dR o];rfl
  cases h
 | bool=>rw[pd h];rfl
 | str=>rw[jT h];rfl
 | ptr=>
  have h:Nj bl s=aN x:=h;unfold Nj at h;split at h
  .injection h with h;subst h;rfl
  rw[acj h];rfl
 | sl=>rw[mE h];rfl
 | map=>
  have h:Oh s=aN x:=h;unfold Oh at h;split at h
  .injection h with h;subst h;rfl
  cases h
 | raw=>
  have h:Ms bl s=aN x:=h;unfold Ms at h;split at h
  .injection h with h;subst h;rfl
  .injection h with h;subst h;rfl
  cases h
def Xy:(l:L Lf)->(Nat->Nat)->JT l->L SV->aw->Prop
 | [],_,J,[],w=>J w
 | a::r,bl,J,s::b,w=>(match un bl a s with
  | some x=>Xy r bl (J x) b w
  | none=>False)
 | _,_,_,_,_=>False
def jn2{bl}{w}:∀{l:L Lf} {J:JT l} {a:L SV} {K:L SV->aw->Prop},Xy l bl J a w->Lr l J K->∃v,K v w/\qj v=qj l/\(∀b,cT b v=cT bl a)/\∀g,jS g v=aF
 | [],J,[],K,h,k=>⟨[],k w h,I,λ_=>I,λ_=>I⟩
 | c::r,J,s::a,K,h,k=>by
  unfold Xy at h;split at h
  .rename_i x j;obtain⟨v,d,e,f,i⟩:=jn2 h (k x);refine⟨_,d,by simp[e],λb=>?_,λg=>by simp[jS,Lf.cln,i g]⟩;have:=f b;simp only[cT,cf]at this⊢;rw[this,amD j]
  exact h.elim
 | [],_,_::_,_,h,_=>h.elim
 | _::_,_,[],_,h,_=>h.elim
inductive MI where
 | s (slot:Nat) (l:Lf)
 | a (slot:Nat) (ls:List Lf)
 | b (slot:Nat) (ls:List Lf)
def Cw:L MI->L Lf
 | []=>[]
 | .s _ l::r=>l::Cw r
 | .a _ l::r=>l++Cw r
 | .b _ l::r=>l++Cw r
def OY(st:St)(i:Nat):Option Nat:=match st.get i with
 | some (.box j _)=>aN j
 | _=>Pw
def WS:L SV->L SV
 | []=>[]
 | .box j o::r=>.box j o::WS r
 | _::r=>WS r
def El(st:St):L MI->L SV
 | []=>[]
 | .b i _::r=>(match OY st i with
  | some j=>(match dv st.bx j with
   | some b=>WS b.cells++El st r
   | none=>El st r)
  | none=>El st r)
 | .s i _::r=>(match st.get i with
  | some (.box j o)=>.box j o::El st r
  | _=>El st r)
 | _::r=>El st r
def uf(st s:St):L MI->Option (L SV)
 | []=>aN []
 | .s i _::r=>(match s.get i,uf st s r with
  | some v,aN l=>aN (v::l)
  | _,_=>Pw)
 | .a i a::r=>(match s.get i,uf st s r with
  | some (.agg l),aN m=>bif Gf l&&Nat.beq (qj (qx l)) (qj a) then aN (qx l++m)else Pw
  | _,_=>Pw)
 | .b i a::r=>(match OY st i with
  | some j=>(match dv s.bx j,uf st s r with
   | some b,aN m=>bif Nat.beq (qj b.cells) (qj a) then aN (b.cells++m)else Pw
   | _,_=>Pw)
  | none=>Pw)
def OM(c:Nat):L MI->L SV->L (Nat×Nat×SV)
 | .s i _::r,v::s=>(i,c,v)::OM c r s
 | .a i l::r,v=>(i,c,.agg (Ii (v.take (qj l))))::OM c r (v.drop (qj l))
 | .b _ l::r,v=>OM c r (v.drop (qj l))
 | _,_=>[]
def OO(st:St):L MI->L SV->L mT->L mT
 | .s _ _::r,_::v,b=>OO st r v b
 | .a _ l::r,v,b=>OO st r (v.drop (qj l)) b
 | .b i l::r,v,x=>(match OY st i with
  | some j=>(match dv x j with
   | some b=>OO st r (v.drop (qj l)) (TZ x j {b with cells:=v.take (qj l),stp:=st.ct})
   | none=>OO st r (v.drop (qj l)) x)
  | none=>OO st r (v.drop (qj l)) x)
 | _,_,b=>b
def Ww:L MI->L Nat
 | []=>[]
 | .s i _::r=>i::Ww r
 | .a i _::r=>i::Ww r
 | .b _ _::r=>Ww r
def WT(st:St):L MI->L Nat
 | []=>[]
 | .b i _::r=>(match OY st i with
  | some j=>j::WT st r
  | none=>WT st r)
 | _::r=>WT st r
def Y3(fr:L (Nat×Nat×SV)):L Nat->L (Nat×Nat×SV)
 | []=>[]
 | i::r=>match eW fr i with
  | some p=>(i,p)::Y3 fr r
  | none=>Y3 fr r
def pf(st:St)(kp:L Nat)(m:L MI)(v:L SV)(w:aw):St:=
 {n:=st.n,fr:=OM st.ct m v++Y3 st.fr kp,bx:=OO st m v st.bx,w0:=w,mv:=aM,dt:=[],ct:=st.ct+1,df:=st.df}
def Rb(st s:St)(sl:L Nat):L Nat->M
 | []=>aF
 | i::r=>(match eW st.fr i with
  | some (k,v)=>(match eW s.fr i with
   | some (k',_)=>Nat.beq k k'&&Nat.blt k st.ct&&!sl.elem i&&cln (Li st.bx) v
   | none=>aM)
  | none=>aF)&&Rb st s sl r
def T6(st:St)(l:L Nat):Nat->L mT->L mT->M
 | _,[],_=>aF
 | i,b::r,c::q=>(!b.ok||(b.blk.isSome&&(l.elem i||(Nat.blt c.stp st.ct&&jS (Li st.bx) b.cells))))&&T6 st l (i+1) r q
 | _,_::_,[]=>aM
def T7(st:St)(kp:L Nat) ms (J:JT (Cw ms)) (s:St):Prop:=
 bif Rb st s (Ww ms) kp&&T6 st (WT st ms) 0 st.bx s.bx&&Nat.beq (qj s.df) (qj st.df) then
  cE (uf st s ms) λv=>bif jS (Li s.bx) v then Xy _ (N0 s.bx) J v s.w0 else False
 else False
end Go.Kt.V
