import Derived.WalkKit
import Derived.Deep.Draws
import Derived.Deep.LoopGhost
import Derived.Deep.Quiet
import Derived.OrdersHeld
import Derived.Laws.Small
import Derived.Laws.AppendOwn
import Derived.Great.BuildSlice
import Derived.Laws.MakeOwn
import Derived.MapKept
import Derived.Lib.Strings
import Derived.KernelRfl
import Derived.ChangeKeysEq
import Derived.Laws.Tables
import Derived.Defers
import Derived.Test.YtccbiehilmhodaaGreatDoorRows
import Derived.Ground.Names2Prog
import Derived.Ground.SlgnProg
import Derived.Ground.SlgcProg
import Derived.Test.YtccbiehilmhodaaGreatDoorProg
import Derived.Lib.ParseIntB
import Derived.Lib.Bytealg
import Derived.Lib.ItoaLen
import Derived.Lib.AtoiErrMem
import Derived.Lib.Builder
import Derived.Lib.AppendStr
import Derived.Lib.UnsafeStr
import Derived.Lib.Join
import Derived.Lib.Repeat
import Derived.WideKeyElems
import Derived.Sort.KeysCollected
import Derived.Laws.CopyRow
import Derived.ProofKit
import Derived.OpenShut
import Derived.SizedLaws
import Derived.Deep.Slices
import Derived.JoinedCond
import Derived.Deep.CondSized
import Derived.Sort.Walk0
import Derived.Ground.GgzProg
import Derived.Ground.SlgmProg
set_option linter.constructorNameAsVariable false
set_option linter.defProp false
set_option linter.unusedSectionVars false
set_option linter.unusedSimpArgs false
set_option linter.unusedVariables false
open Bool renaming true->aF,false->aM
open Option renaming some->Hg,none->ZQ
open List renaming length->Z8
open Decidable renaming decide->VM
def J{P:Prop}(h:P:=by omega):P:=h
def zD:=@J
def Z{P:Prop}(h:P:=by decide):P:=h
def R{P:Prop}(h:P:=by simp):P:=h
def D{P:Prop}(h:P:=by kernel_rfl):P:=h
def RV:=@D
def TE{P:Prop}(h:P:=by rw[eS (by omega) (by omega)];rfl):P:=h
def C{P:Prop}(h:P:=by simp;omega):P:=h
def Ak:=@C
def ZH{P:Prop}(h:P:=by unfold dY;dsimp only;omega):P:=h
def R0{P:Prop}(h:P:=by simpa using hc):P:=h
def IG{P:Prop}(h:P:=by simp only[aV]at hx;omega):P:=h
def Rl{P:Prop}(h:P:=by cases h):P:=h
def Wq{P:Prop}(h:P:=by simp only[aZ,bB,cE]at hx;omega):P:=h
def Mi{P:Prop}(h:P:=by simpa using hk):P:=h
def Ro{P:Prop}(h:P:=by have:=aO hc;omega):P:=h
def Sb{P:Prop}(h:P:=by dsimp only;omega):P:=h
def M1{P:Prop}(h:P:=by have:=aR hc;omega):P:=h
def Ua{P:Prop}(h:P:=by simp only[aV]at hx;simp[hx]):P:=h
def Vx{P:Prop}(h:P:=by simp at hx;simp[hx]):P:=h
def R5{P:Prop}(h:P:=by rw[cH];omega):P:=h
def Ma{P:Prop}(h:P:=by simpa using hb):P:=h
def RD{P:Prop}(h:P:=by simpa using hm):P:=h
def Gs{P:Prop}(h:P:=by simp only[aV];omega):P:=h
def Vv{P:Prop}(h:P:=by simp at hx;omega):P:=h
def RC{P:Prop}(h:P:=by rw[aP,bf];omega):P:=h
def Wl{P:Prop}(h:P:=by simpa using h1):P:=h
def RZ{P:Prop}(h:P:=by grind):P:=h
def Zp{P:Prop}(h:P:=by simpa using h):P:=h
def Wo{P:Prop}(h:P:=by dsimp only;decide):P:=h
def GX{P:Prop}(h:P:=by have:=(hS.blk e).2;dsimp only at this;omega):P:=h
def Jc{P:Prop}(h:P:=by unfold dY me;dsimp only;omega):P:=h
def Gl{P:Prop}(h:P:=by simp at h):P:=h
def KB{P:Prop}(h:P:=by simpa using hx):P:=h
def ZD{P:Prop}(h:P:=by have:=hk.2;omega):P:=h
def RW{P:Prop}(h:P:=by simp only[aV]at hm;omega):P:=h
def ZM{P:Prop}(h:P:=by rw[hy]at ha;simpa[kl]using ha):P:=h
def Mo{P:Prop}(h:P:=by simp only[aV]at hk;omega):P:=h
def YF{P:Prop}(h:P:=by unfold gM at hf;omega):P:=h
def ZP{P:Prop}(h:P:=by have:=h.hG k hk;simp at hm;omega):P:=h
def UB{P:Prop}(h:P:=by simpa using hi):P:=h
def MM{P:Prop}(h:P:=by rw[bE,bO];exact jL _ _):P:=h
def ZB{P:Prop}(h:P:=by cases hh):P:=h
def RE{P:Prop}(h:P:=by rw[<-e];exact hk):P:=h
def P9{P:Prop}(h:P:=by have:=h.hF k hk;have:=hb k hm;omega):P:=h
def RS{P:Prop}(h:P:=by simpa using hf):P:=h
def Vb{P:Prop}(h:P:=by have:=(hP.buf.lt e).2;omega):P:=h
def Ji{P:Prop}(h:P:=by have:=kB x hx;omega):P:=h
def Wt{P:Prop}(h:P:=by rw[eh h0 dG];decide):P:=h
def Px{P:Prop}(h:P:=by intro x hx;simp only[aZ,bB,cE]at hx⊢;omega):P:=h
def UF{P:Prop}(h:P:=by rw[aP];omega):P:=h
def KW{P:Prop}(h:P:=by simp only[aZ,bB,cE]at hx⊢;omega):P:=h
def RH{P:Prop}(h:P:=by simpa using he):P:=h
def Me{P:Prop}(h:P:=by simpa using h4):P:=h
def Z4{P:Prop}(h:P:=by simpa using h0):P:=h
def EB{P:Prop}(h:P:=by unfold fe;split<;>rfl):P:=h
def UC{P:Prop}(h:P:=by unfold gM;omega):P:=h
def JV{P:Prop}(h:P:=by rw[bO,ca (bd.1 hj).1];exact hj):P:=h
def VB{P:Prop}(h:P:=by simp only[iQ,pW,cd]at hc;exact hc▸rfl):P:=h
def Qc{P:Prop}(h:P:=by unfold mZ;rw[eS (by omega) (by omega)]):P:=h
def TU{P:Prop}(h:P:=by rw[bE];omega):P:=h
def E7{P:Prop}(h:P:=by rw[show aq #[59]=T [59]from rfl,fD]):P:=h
def Kp{P:Prop}(h:P:=by rw[kY]at hi;simpa using hi):P:=h
def RT{P:Prop}(h:P:=by unfold V at h;exact h.elim):P:=h
def Rk{P:Prop}(h:P:=by simp[hx]):P:=h
def Rg{P:Prop}(h:P:=by cases hx):P:=h
def Pc{P:Prop}(h:P:=by rw[eS (by omega) (by omega)];omega):P:=h
def RI{P:Prop}(h:P:=by rw[hy];rfl):P:=h
def Ui{P:Prop}(h:P:=by rw[hy];simp):P:=h
def TV{P:Prop}(h:P:=by simpa using pV):P:=h
def KS{P:Prop}(h:P:=by rw[pR,aW,hx]):P:=h
def Wy{P:Prop}(h:P:=by have:=h.hF k hk;simp at hm;omega):P:=h
def TF{P:Prop}(h:P:=by simp at hq;omega):P:=h
def Uy{P:Prop}(h:P:=by have:=F6 g hg;simp;omega):P:=h
def Wm{P:Prop}(h:P:=by have:=hk.1;omega):P:=h
def Qe{P:Prop}(h:P:=by simp at hx;exact .inl (by omega)):P:=h
def UW{P:Prop}(h:P:=by have:=hs.2.2;have:=hO.size;omega):P:=h
def ph{P:Prop}(h:P:=by simp at hx⊢;omega):P:=h
def yJ{P:Prop}(h:P:=by have:=(qT x hx).1;omega):P:=h
def VW{P:Prop}(h:P:=by rw[hs];decide):P:=h
def UQ{P:Prop}(h:P:=by rw[hw];decide):P:=h
def Gn{P:Prop}(h:P:=by rw[hh];decide):P:=h
def Fl{P:Prop}(h:P:=by unfold iJ;exact bC (by omega)):P:=h
def Vz{P:Prop}(h:P:=by rw[bE]at hf;omega):P:=h
def Uq{P:Prop}(h:P:=by simpa using hn):P:=h
def UJ{P:Prop}(h:P:=by unfold gM at hn;omega):P:=h
def Nw{P:Prop}(h:P:=by rw[bQ];omega):P:=h
def Sh{P:Prop}(h:P:=by simpa using k1):P:=h
def RO{P:Prop}(h:P:=by simpa using k3):P:=h
def RY{P:Prop}(h:P:=by simpa using k4):P:=h
def Ml{P:Prop}(h:P:=by simpa using hk.2):P:=h
def ZZ{P:Prop}(h:P:=by have:=aO h;omega):P:=h
def Z2{P:Prop}(h:P:=by simp at hk;omega):P:=h
def Dj{P:Prop}(h:P:=by dsimp only[bP];omega):P:=h
def Qv{P:Prop}(h:P:=by rw[kY]at ho;simpa using ho):P:=h
def XL{P:Prop}(h:P:=by rw[hb];decide):P:=h
def Jh{P:Prop}(h:P:=by cases e):P:=h
def Gq{P:Prop}(h:P:=by rw[hh];simp):P:=h
def Zr{P:Prop}(h:P:=by simp[Op.equalIn,hu]):P:=h
def TL{P:Prop}(h:P:=by have:=hb b hm;omega):P:=h
def Pa{P:Prop}(h:P:=by have:=kB k hm;omega):P:=h
def KR{P:Prop}(h:P:=by simp at hk;simp[hk]):P:=h
def Kv{P:Prop}(h:P:=by simpa using hG k hk):P:=h
def M5{P:Prop}(h:P:=by rw[m1.len];exact vf):P:=h
def FM{P:Prop}(h:P:=by simp[Program.plainKey,hu]):P:=h
def KF{P:Prop}(h:P:=by simp only[aZ,bB,cE];omega):P:=h
def Um{P:Prop}(h:P:=by subst e;simp at hc):P:=h
def Gm{P:Prop}(h:P:=by simpa using hv):P:=h
def Ri{P:Prop}(h:P:=by simpa using mE):P:=h
def Sf{P:Prop}(h:P:=by simpa using tT):P:=h
def Nv{P:Prop}(h:P:=by simpa using hh):P:=h
def Wk{P:Prop}(h:P:=by have:=(Ad.lt e).1;omega):P:=h
def VZ{P:Prop}(h:P:=by unfold mu;split<;>omega):P:=h
def WR{P:Prop}(h:P:=by have:=vj.lt;omega):P:=h
def QE{P:Prop}(h:P:=by have:=aO bT;omega):P:=h
def D3{P:Prop}(h:P:=by rw[hu];exact rM _):P:=h
def Jf{P:Prop}(h:P:=by simpa[nR]using hx.symm):P:=h
def KM{P:Prop}(h:P:=by rw[nC,hl];rfl):P:=h
def VE{P:Prop}(h:P:=by decide+kernel):P:=h
def Zs{P:Prop}(h:P:=by rw[hc];decide):P:=h
def JC{P:Prop}(h:P:=by have:=aak x;omega):P:=h
def Uo{P:Prop}(h:P:=by simp at hy;omega):P:=h
def FD{P:Prop}(h:P:=by first | rfl | trivial):P:=h
def Rf{P:Prop}(h:P:=by rw[h0]at hr;cases hr):P:=h
def T8{P:Prop}(h:P:=by rw[hk];rfl):P:=h
def Vd{P:Prop}(h:P:=by rw[bQ];exact hn):P:=h
def Wz{P:Prop}(h:P:=by rw[hb]at hh;cases hh):P:=h
def JW{P:Prop}(h:P:=by rw[bO];exact hv):P:=h
def Vm{P:Prop}(h:P:=by rw[bf];omega):P:=h
def ZI{P:Prop}(h:P:=by rw[hy];simp[xp]):P:=h
def Je{P:Prop}(h:P:=by rw[bO];exact hj):P:=h
def Zo{P:Prop}(h:P:=by rw[cf];omega):P:=h
def PH{P:Prop}(h:P:=by show 2+28*0<=_;omega):P:=h
def OT{P:Prop}(h:P:=by simpa using hr):P:=h
def Wi{P:Prop}(h:P:=by simpa using hl):P:=h
def UA{P:Prop}(h:P:=by cases hk):P:=h
def f0{P:Prop}(h:P:=by cases hb):P:=h
def Z7{P:Prop}(h:P:=by simpa using hz):P:=h
def Mg{P:Prop}(h:P:=by simpa using hw):P:=h
def FK{P:Prop}(h:P:=by simpa using rh):P:=h
def Qn{P:Prop}(h:P:=by simpa using hq):P:=h
def JB{P:Prop}(h:P:=by simpa using ho):P:=h
def Vp{P:Prop}(h:P:=by simpa using mo):P:=h
def Nn{P:Prop}(h:P:=by simpa using k2):P:=h
def Jm{P:Prop}(h:P:=by simpa using hs):P:=h
def UL{P:Prop}(h:P:=by simpa using hp):P:=h
def ZE{P:Prop}(h:P:=by simpa using dG):P:=h
def UK{P:Prop}(h:P:=by rw[e]):P:=h
def WS{P:Prop}(h:P:=by rw[hp];decide):P:=h
def Pw{P:Prop}(h:P:=by rw[hsz];omega):P:=h
def Ux{P:Prop}(h:P:=by rw[bq,hy];rfl):P:=h
def Vw{P:Prop}(h:P:=by rw[h1];rfl):P:=h
universe u
def I{z:Sort u}{a:z}:a=a:=rfl
abbrev X:=List
abbrev Al:=@X
abbrev L:=Bool
def W:=@if_neg
def aN:=@W
def aO:=@of_decide_eq_true
def aP:=@List.length_append
def K:=@if_pos
def aQ:=@K
def aR:=@of_decide_eq_false
def H:=@Bool.and_eq_true
def aV:=@List.mem_singleton
def aW:=@Int.toNat_natCast
def aX:=@Nat.le_refl
def aY:=@List.length_cons
def aZ:=@List.mem_cons
def bc:=@Int.natCast_nonneg
def bd:=@List.getElem?_eq_some_iff
def be:=@List.append_assoc
def bf:=@List.length_singleton
def bh:=@Nat.zero_le
def bp:=@Nat.le_trans
def bq:=@List.take_add_one
def br:=@List.take_of_length_le
def bA:=@List.mem_of_getElem?
def bB:=@List.not_mem_nil
def bC:=@decide_eq_false
def bD:=@List.append_nil
def bE:=@List.length_nil
def bF:=@decide_eq_true
def bH:=@List.getElem?_eq_getElem
def bJ:=@List.eq_nil_of_length_eq_zero
def bK:=@congrArg
def bL:=@Bool.eq_iff_iff
def bM:=@Decidable.byContradiction
def bO:=@Nat.zero_add
def bQ:=@List.length_map
def bU:=@decide_eq_true_eq
def bW:=@List.cons_append
def bZ:=@List.length_drop
def ca:=@List.getElem?_append_left
def cb:=@List.nil_append
def cd:=@Option.some.injEq
def cf:=@List.length_take
def ci:=@List.take_zero
def cr:=@Bool.true_and
def cu:=@List.map_cons
def cD:=@Nat.lt_of_lt_of_le
def cE:=@or_false
def cG:=@List.getElem?_append_right
def cR:=@List.getElem?_eq_none
def cX:=@List.map_append
def cZ:=@List.getElem?_cons_zero
def dc:=@List.mem_append
def dh:=@Nat.eq_of_beq_eq_true
def di:=@Bool.false_and
def dq:=@Bool.or_eq_true
def dr:=@List.getElem?_map
def dw:=@List.mem_cons_of_mem
def dC:=@List.takeWhile_cons
def dE:=@List.getElem?_cons_succ
def dJ:=@List.drop_of_length_le
def dR:=@Bool.and_true
def eo:=@Nat.add_sub_cancel_left
def ey:=@Bool.not_eq_true'
def ez:=@List.take_length
def eG:=@Nat.le_of_ble_eq_true
def eI:=@decide_eq_true_iff
def eU:=@List.sum_cons
def eW:=@List.mem_cons_self
def eX:=@beq_iff_eq
def fi:=@List.all_eq_true
def fj:=@Nat.add_mul
def fk:=@List.flatten_cons
def fu:=@List.contains_iff_mem
def fx:=@List.take_succ_cons
def fy:=@Int.toNat_of_nonneg
def fz:=@List.filter_nil
def fA:=@List.drop_zero
def fI:=@Nat.add_assoc
def fM:=@Nat.mul_le_mul_right
def fN:=@Bool.or_eq_false_iff
def fO:=@Bool.not_eq_false'
def fU:=@Option.isSome_iff_exists
def fV:=@Bool.and_eq_false_iff
def fW:=@List.take_append_drop
def gq:=@List.getElem?_drop
def gr:=@Bool.and_false
def gA:=@List.drop_eq_getElem_cons
def gP:=@Nat.add_zero
def gQ:=@List.map_nil
def ig:=@decide_eq_false_iff_not
def im:=@List.ext_getElem?
def io:=@Bool.eq_false_iff
def iq:=@Array.getElem?_eq_none
def ir:=@Option.map_eq_some_iff
def iQ:=@List.singleton_append
def iW:=@Option.getD_some
def iX:=@List.getElem?_take
def jw:=@Nat.lt_succ_of_le
def jF:=@List.all_append
def jP:=@Nat.le_succ
def kF:=@Option.map_some
def kH:=@Except.ok.injEq
def kP:=@if_false
def kQ:=@Int.le_refl
def kR:=@List.sum_nil
def kU:=@Decidable.not_not
def lg:=@List.all_cons
def lh:=@List.map_take
def lG:=@List.toList_toArray
def lH:=@List.drop_succ_cons
def lI:=@List.flatMap_append
def lQ:=@List.drop_drop
def mq:=@Bool.false_eq_true
def mr:=@List.filter_append
def mw:=@List.map_map
def nq:=@Prod.mk.injEq
def nA:=@List.foldl_append
def nV:=@Array.getElem?_eq_some_iff
def nZ:=@List.getElem?_of_mem
def oP:=@List.mem_map
def oQ:=@Bool.or_true
def oS:=@Nat.add_comm
def oT:=@Nat.lt_or_ge
def oU:=@Bool.not_eq_true
def oV:=@Nat.sub_self
def oW:=@Nat.lt_succ_self
def pQ:=@List.getElem?_take_of_lt
def pW:=@List.head?_cons
def qs:=@Nat.mul_one
def ri:=@Nat.le_of_eq
def sd:=@List.set_append_right
def se:=@List.take_eq_take_iff
def tK:=@decide_eq_decide
def tL:=@List.filter_cons
def tP:=@List.flatMap_nil
def tV:=@Bool.false_or
def uM:=@List.take_append_of_le_length
def vp:=@List.sum_append
def vq:=@Array.length_toList
def vu:=@Nat.mul_le_mul_left
def vw:=@List.map_congr_left
def vA:=@List.length_pos_iff
def wB:=@Nat.zero_mul
def wC:=@Nat.sub_zero
def xD:=@List.elem_cons
def xE:=@Bool.and_assoc
def xF:=@Nat.add_le_add
def yC:=@if_true
def yD:=@List.size_toArray
def yE:=@List.flatMap_cons
def yF:=@List.all_eq_false
def Ag:=@List.map_drop
def Ba:=@Nat.le_of_not_lt
def Bb:=@List.flatten_nil
def BU:=@List.getElem_cons_drop
def CF:=@Option.map_none
def CG:=@List.foldl_cons
def CH:=@Option.some.inj
def CI:=@List.any_append
def CJ:=@Nat.not_lt_zero
def El:=@List.getElem?_toArray
def En:=@Array.getElem?_modify
def E5:=@Bool.not_false
def Ih:=@List.flatten_append
def Ii:=@beq_eq_false_iff_ne
def Iz:=@Bool.or_false
def LB:=@List.pairwise_cons
def L8:=@Classical.not_and_iff_not_or_not
def N2:=@List.getElem?_set
def N3:=@Bool.true_or
def N4:=@Bool.not_and
def agW:=@Array.getElem?_setIfInBounds_ne
def SX:=@Array.toList_inj
def SY:=@List.map_id
def Yu:=@List.cons.injEq
def Yv:=@UInt8.toNat_inj
def Yw:=@Nat.min_eq_left
def Zl:=@List.take_length_add_append
abbrev aE5(w v:Go.World)(k:Nat)(p:Prop):Prop:=w.heap.size<=k->k<v.heap.size->p
abbrev aH:=Go.Value->Go.World->Prop
abbrev S:=X UInt8
abbrev aJ:=X Go.Value
abbrev aK:=Nat->Prop
abbrev M:=ByteArray
namespace Go.Kt
open Go renaming World->aw,Value->ay
open Go Go.RowKit
structure Sl where
 a:Option Addr
 n:Nat
 c:Nat
@[reducible] def Sl.v(s:Sl):ay:=.slice s.a s.n s.c
@[reducible] def Sl.nil:Sl:=⟨ZQ,0,0⟩
def Sl.cut(s:Sl)(l h m i:Nat):Sl:=⟨if m=l then s.a else s.a.map (·.add (l*i)),h-l,m-l⟩
def cM(s:Sl)(i:Int)(size:Nat)(ad:Addr):Prop:=∃b,s.a=Hg b/\0<=i/\i<s.n/\ad=b.add (i.toNat*size)
structure Only (bs:List Nat) (w w':aw):Prop where
 os:w'.os=w.os
 tape:w'.tape=w.tape
 output:w'.output=w.output
 size:w.heap.size<=w'.heap.size
 block:∀k,k<w.heap.size->k∉bs->w'.heap[k]? =w.heap[k]?
def Blk(w:aw)(b:Nat)(t:TypeId)(c:X ay):Prop:=w.heap[b]? =Hg (.cells c.toArray t (0,0))
def Cells(w:aw)(a:Addr)(c:X ay):Prop:=∀j v,c[j]? =Hg v->w.cell? (a.add j)=Hg v
def cF(s:X Nat)(w a:aw):Prop:=∀b,b∈s->a.heap[b]? =w.heap[b]?
def jk(b:UInt8):ay:=.int .u8 b.toNat
def uN(w:aw)(s:Sl)(l:X UInt8):Prop:=s.n=Z8 l/\(l≠[]->∃ad,s.a=Hg ad/\Cells w ad (l.map jk))
def Sl.blk(s:Sl):Nat:=match s.a with | some a=>a.block | none=>0
def eY(c:X ay)(o:Nat)(v:X ay):X ay:=c.take o++v++c.drop (o+Z8 v)
section
variable {w w' tQ:aw} {bs bs':X Nat} {b:Nat} {t:TypeId} {cs:X ay}
def Blk.lt(h:Blk w b t cs):b<w.heap.size:=(nV.1 h).1
def Only.refl bs w:Only bs w w:=⟨I,I,I,aX _,λ_ _ _=>I⟩
def EC:=@Only.refl
def Only.weaken(h:Only bs w w')(b:∀x,x∈bs->x∈bs'∨w.heap.size<=x):Only bs' w w':=
 ⟨h.os,h.tape,h.output,h.size,λk a n=>h.block k a λm=>RZ⟩
def Only.trans(h:Only bs w w')(k:Only bs' w' tQ)(b:∀x,x∈bs'->x∈bs∨w.heap.size<=x):Only bs w tQ:=
 ⟨k.os.trans h.os,k.tape.trans h.tape,k.output.trans h.output,bp h.size k.size,λa i n=>
  (k.block a (cD i h.size) λm=>RZ).trans (h.block a i n)⟩
def Only.cn(h:Only bs w w')(k:Only [] w' tQ):Only bs w tQ:=h.trans k R
def Only.cons(a:Only bs w w')(k:Only [b] w' tQ):Only (b::bs) w tQ:=
 (a.weaken (bs':=b::bs) λ_ h=>.inl (dw _ h)).trans k λx h=>.inl RZ
def Only.mem(h:Only bs w w')(k:Only [b] w' tQ)(a:b∈bs):Only bs w tQ:=h.trans k λx c=>.inl RZ
def Only.new(h:Only bs w w')(k:Only [b] w' tQ)(a:w.heap.size<=b):Only bs w tQ:=h.trans k λx c=>.inr RZ
def Only.blk(a:Only bs w w')(h:Blk w b t cs)(n:b∉bs):Blk w' b t cs:=(a.block b h.lt n).trans h
def Only.below(h:Only bs w w'){B}(a:B<=w.heap.size)(b:∀x,x∈bs->B<=x):Below B w w':=
 ⟨h.os,h.tape,h.output,h.size,λk c=>h.block k J λm=>by have:=b k m;omega⟩
def Only.wq(h:Below w.heap.size w w'):Only [] w w':=⟨h.os,h.tape,h.output,h.size,λk a _=>h.block k a⟩
def IA:=@Only.wq
def Only.drew w:Only [] w w.drew:=⟨I,I,I,aX _,λ_ _ _=>I⟩
def Only.drewN w n:Only [] w (w.drewN n):=⟨I,I,I,aX _,λ_ _ _=>I⟩
def O9:=@Only.drewN
def Only.alloc w o:Only [] w (w.alloc o):=⟨I,I,I,R,λk h _=>_root_.Go.heap_alloc_old w o h⟩
def WJ:=@Only.alloc
def Only.setRow w b cs:Only [b] w (w.setRow b cs):=⟨I,I,I,R,λk _ hn=>setRow_other w b k cs Uq⟩
def Zn:=@Only.setRow
def Only.same(b:Only bs w w')(h:∀x,x∈bs'->x<w.heap.size/\x∉bs):cF bs' w w':=λx a=>b.block x (h x a).1 (h x a).2
def Blk.alloc(w:aw) t cs:Blk (w.alloc (.cells cs.toArray t)) w.heap.size t cs:=heap_alloc_new w _
def KC:=@Blk.alloc
def Blk.setRow(h:Blk w b t cs) qY:Blk (w.setRow b qY.toArray) b t qY:=setRow_heap w b _ _ t _ h
def Blk.cell(h:Blk w b t cs) i:w.cell? ⟨b,i,ZQ⟩=cs[i]? :=by rw[cell_of_row w b i cs.toArray t _ h];simp
def Blk.cells(h:Blk w b t cs) o vs (d:∀j v,vs[j]? =Hg v->cs[o+j]? =Hg v):Cells w ⟨b,o,ZQ⟩ vs:=λj v c=>by
 have a:(⟨b,o,ZQ⟩:Addr).add j=⟨b,o+j,ZQ⟩:=by unfold Addr.add<;>simp_all
 rw[a,h.cell];exact d j v c
def Blk.HU(h:Blk w b t cs) o vs (a:(cs.drop o).take (Z8 vs)=vs):Cells w ⟨b,o,ZQ⟩ vs:=h.cells o vs λc v j=>RZ
def Cells.one{a}{v}(h:Cells w a [v]):w.cell? a=Hg v:=by have:=h 0 v I;simpa[Addr.add]using this
def Zy:=@Cells.one
def Cells.keep{a}(h:Cells w a cs)(k:w'.heap[a.block]? =w.heap[a.block]?):Cells w' a cs:=λj v b=>by
 rw[World.cell?_of_block (w:=w) _ (a:=a.add j)]
 .exact h j v b
 have:(a.add j).block=a.block:=by unfold Addr.add;split<;>rfl
 rw[this,k]
def Cells.lt'{a}(h:Cells w a cs)(c:cs≠[]):a.block<w.heap.size:=by
 cases cs with
 | nil=>exact absurd I c
 | cons v cs=>
  have b:=block_lt_of_cell (h 0 v I);have e:(a.add 0).block=a.block:=I;omega
def Cells.lt{a}{v}(h:Cells w a (v::cs)):a.block<w.heap.size:=by
 have:=h 0 v I;have b:=block_lt_of_cell this;have e:(a.add 0).block=a.block:=I;omega
end
section
variable {P:Program} {ops:Array Oper} {Q:Exit->Act->aw->Prop} {rest:X Oper} {a a':Act} {w w':aw}
def ahE(l:X ay) ds (k:Nat) v:Act.put ⟨l.toArray,ds⟩ (Hg k) v=⟨(l.set k v).toArray,ds⟩:=by simp[Act.put]
def f1 x l (v:ay):(x::l).set 0 v=v::l:=rfl
def f3(a:Act) v:a.put ZQ v=a:=rfl
def f2 x l k (v:ay):(x::l).set (k+1) v=x::l.set k v:=rfl
def iB:X Oper->Nat->Option Oper
 | [],_=>ZQ
 | v::_,0=>Hg v
 | _::r,n+1=>iB r n
def kY:∀l n,iB l n=l[n]?
 | [],_=>rfl
 | _::_,0=>rfl
 | _::r,n+1=>kY r n
def Zm:X ay->Nat->Option ay
 | [],_=>ZQ
 | v::_,0=>Hg v
 | _::r,n+1=>Zm r n
def Gh:∀l n,Zm l n=l[n]?
 | [],_=>rfl
 | _::_,0=>rfl
 | _::r,n+1=>Gh r n
def wt{o oj}{eJ}{l}{ds}{j d:Nat}{want b r}(c:o.guard=Hg (j,want))(h:iB eJ j=Hg oj)(f:oj.dst=Hg d)
  (a:Zm l d=Hg (.bool b)) (g:(b==want)=r):Region.wanted o (yielded eJ.toArray (⟨l.toArray,ds⟩:Act).tmps)=r:=by
 subst g;rw[kY]at h;rw[Gh]at a;have e:yielded eJ.toArray (⟨l.toArray,ds⟩:Act).tmps j=Hg b:=by simp[yielded,h,f,a]
 simp only[Region.wanted,c,e];rfl
def wu{o oj}{eJ}{l}{ds}{j d:Nat}{want}(b:o.guard=Hg (j,want))(h:iB eJ j=Hg oj)(c:oj.dst=Hg d)
  (a:Zm l d=Hg undef):Region.wanted o (yielded eJ.toArray (⟨l.toArray,ds⟩:Act).tmps)=aM:=by
 rw[kY]at h;rw[Gh]at a;have e:yielded eJ.toArray (⟨l.toArray,ds⟩:Act).tmps j=ZQ:=by simp[yielded,h,c,a,undef]
 simp[Region.wanted,b,e]
def wn{o}{f}(h:o.guard=ZQ):Region.wanted o f=aF:=by simp[Region.wanted,h]
def L9{o} v (g:Region.wanted o (yielded ops a.tmps)=aF)
  (r:(execOp a.eval o).run P w=.ok (.value v) w') (b:a.put o.dst v=a') (h:wpList P ops Q rest a' w'):wpList P ops Q (o::rest) a w:=by
 subst b;unfold wpList;rw[K g];refine .inl ?_;unfold Oper.wp;rw[r];exact h
def acu{o}(g:Region.wanted o (yielded ops a.tmps)=aM)(h:a.put o.dst undef=a')(b:wpList P ops Q rest a' w):wpList P ops Q (o::rest) a w:=by
 subst h;unfold wpList;simp_all
def Gi{dst}{ty}{x}{t'}{p}{af}{g}{ad}{v}
  (N:(isAgg ty).run P w=.ok aM w) (b:a.eval x=.pointer (Hg ad)) (h:w.cell? ad=Hg v):
  (execOp a.eval ⟨dst,.load ty x,t',p,af,g⟩).run P w=.ok (.value v) w:=by
 simp[execOp,b,Instr.loadAt,Instr.sureAddr,Sem.run_bind,Sem.run_pure,Result.andThen_ok,loadVar,N,mq,kP,run_load,h]
def wE{dst}{ty}{x}{t'}{p}{af}{g}{ad}{cs}{n}
  (N:(isAgg ty).run P w=.ok aF w) (h:(sizeOf ty).run P w=.ok n w) (b:Z8 cs=n) (d:a.eval x=.pointer (Hg ad)) (c:Cells w ad cs):
  (execOp a.eval ⟨dst,.load ty x,t',p,af,g⟩).run P w=.ok (.value (.agg cs.toArray)) w:=by
 have l:=run_loadCells_list (P:=P) w ad cs c;rw[b]at l;simp[execOp,d,Instr.loadAt,Instr.sureAddr,Sem.run_bind,Sem.run_pure,Result.andThen_ok,loadVar,N,yC,h,l]
def aiz{dst}{ty}{x y}{t'}{p}{af}{g}{b o}{cs vs}{et}{n}
  (h:(sizeOf ty).run P w=.ok n w) (i:a.eval x=.pointer (Hg ⟨b,o,ZQ⟩)) (f:(a.eval y).cells=vs.toArray) (e:Z8 vs=n)
  (c:∀v∈vs,v.oneCell'=aF) (d:Blk w b et cs) (j:o+Z8 vs<=Z8 cs):
  (execOp a.eval ⟨dst,.store ty x y,t',p,af,g⟩).run P w=.ok .skip (w.setRow b (eY cs o vs).toArray):=by
 simp[execOp,i,Instr.storeAt,Instr.sureAddr,Sem.run_bind,Sem.run_pure,Result.andThen_ok,storeVar,h,f,yD,e,ne_eq,not_true_eq_false,kP,run_storeCells_at P b o et vs 0 cs.toArray w d J c,eY]
def ahe{dst}{ty}{t'}{p}{af}{g}{z}{s:X ay}
  (b:(zeroValue ty).run P w=.ok z w) (h:z.cells=s.toArray):
  (execOp a.eval ⟨dst,.alloc ty,t',p,af,g⟩).run P w=.ok (.value (.pointer (Hg ⟨w.heap.size,0,ZQ⟩))) (w.alloc (.cells s.toArray ty)):=by
 simp only[execOp,Instr.alloc,Sem.run_bind,b,Result.andThen_ok,newVar,h];rfl
def ajz{dst}{ty}{x}{t'}{p}{af}{g}{z:X ay}
  (h:(a.eval x).cells=z.toArray):
  (execOp a.eval ⟨dst,.box ty x,t',p,af,g⟩).run P w=.ok (.value (.pointer (Hg ⟨w.heap.size,0,ZQ⟩))) (w.alloc (.cells z.toArray ty)):=by
 simp only[execOp,Instr.box,newVar,h];rfl
def TD{dst}{x}{t'}{p}{af}{g}{ad}(h:a.eval x=.pointer (Hg ad)):
  (execOp a.eval ⟨dst,.nilCheck x,t',p,af,g⟩).run P w=.ok (.value (.pointer (Hg ad))) w:=by
 simp[execOp,h]
def N5{dst}{s}{x}{k}{t'}{p}{af}{g}{ad H0}{fs}{f}{n}
  (u:(underlying s).run P w=.ok (.struct fs) w) (b:fs[k]? =Hg f) (h:(sizeOf f.type).run P w=.ok (n+1) w) (c:a.eval x=.pointer (Hg ad)) (e:ad.add f.offset=H0):
  (execOp a.eval ⟨dst,.fieldAddr s x k,t',p,af,g⟩).run P w=.ok (.value (.pointer (Hg H0))) w:=by
 subst e;simp[execOp,c,Instr.fieldAt,Instr.sureAddr,u,b,fieldPlace,h]
def abZ{dst}{c x y}{t'}{p}{af}{g}{v}(h:a.eval c=.bool aF)(b:a.eval x=v):
  (execOp a.eval ⟨dst,.pick c x y,t',p,af,g⟩).run P w=.ok (.value v) w:=by
 subst b;simp[execOp,h,asBool]
def aeJ{dst}{c x y}{t'}{p}{af}{g}{v}(h:a.eval c=.bool aM)(b:a.eval y=v):
  (execOp a.eval ⟨dst,.pick c x y,t',p,af,g⟩).run P w=.ok (.value v) w:=by
 subst b;simp[execOp,h,asBool]
def agR{dst}{t}{ps:X _}{t'}{p}{af}{g}{ps'}{v}
  (h:(ps.map λq=>(q.1,a.eval q.2))=ps') (r:(Instr.build t ps'.toArray).run P w=.ok v w):
  (execOp a.eval ⟨dst,.build t ps.toArray,t',p,af,g⟩).run P w=.ok (.value v) w:=by
 subst h;simp[execOp,r]
def aby{dst}{t e}{x i}{t'}{p}{af}{g}{s}{k}{n}{ad}{sz}
  (u:(underlying t).run P w=.ok (.slice e) w) (h:(sizeOf e).run P w=.ok sz w) (m:a.eval x=s.v) (l:a.eval i=.int k n) (d:cM s n sz ad):
  (execOp a.eval ⟨dst,.indexAddr t x i,t',p,af,g⟩).run P w=.ok (.value (.pointer (Hg ad))) w:=by
 obtain⟨b,j,c,f,rfl⟩:=d;simp[execOp,m,l,Instr.indexAt,asIntOf,u,h,j,c,f]
def yG{d:Option Tmp}{t e:TypeId}{x i:Operand}{t'}{p}{af}{g}{len}{k}{n}{ad H0}{sz}
  (u:(underlying t).run P w=.ok (.array len e) w) (h:(sizeOf e).run P w=.ok sz w) (l:a.eval x=.pointer (Hg ad)) (j:a.eval i=.int k n) (b:0<=n) (c:n<len) (f:ad.add (n.toNat*sz)=H0):
  (execOp a.eval ⟨d,.indexAddr t x i,t',p,af,g⟩).run P w=.ok (.value (.pointer (Hg H0))) w:=by
 subst f;simp[execOp,l,j,Instr.indexAt,asIntOf,u,h,b,c,Instr.sureAddr]
def og{b}{s}{dst}{x:X Operand}{ts}{t'}{p}{af}{g}{v}
  (h:∀L,builtin b ts t' L (x.map a.eval).toArray=(do pure (.value (<-s)))) (r:s.run P w=.ok v w'):
  (execOp a.eval ⟨dst,.call ⟨.builtin b,x.toArray,ts⟩,t',p,af,g⟩).run P w=.ok (.value v) w':=by
 simp[execOp,resolve,invoke,List.map_toArray];simp_all
def abz{dst}{x:X Operand}{ts}{t'}{p}{af}{g}{v}{vs}(b:x.map a.eval=vs)
  (h:(Builtin.append_ ts t' vs.toArray).run P w=.ok v w'):(execOp a.eval ⟨dst,.call ⟨.builtin .append,x.toArray,ts⟩,t',p,af,g⟩).run P w=.ok (.value v) w':=by
 subst b;exact og (λ_=>I) h
def zSl{dst}{x:X Operand}{ts}{t'}{p}{af}{g}{v}{vs}(b:x.map a.eval=vs)
  (h:(Builtin.copy_ ts t' vs.toArray).run P w=.ok v w'):(execOp a.eval ⟨dst,.call ⟨.builtin .copy,x.toArray,ts⟩,t',p,af,g⟩).run P w=.ok (.value v) w':=by
 subst b;exact og (λ_=>I) h
def abo{dst}{x:X Operand}{ts}{t'}{p}{af}{g}{v}{vs}(b:x.map a.eval=vs)
  (h:(Builtin.delete_ ts t' vs.toArray).run P w=.ok v w'):(execOp a.eval ⟨dst,.call ⟨.builtin .delete,x.toArray,ts⟩,t',p,af,g⟩).run P w=.ok (.value v) w':=by
 subst b;exact og (λ_=>I) h
def inz{dst}{x:X Operand}{ts}{t'}{p}{af}{g}{v}{vs}(b:x.map a.eval=vs)
  (h:(Builtin.clear_ ts t' vs.toArray).run P w=.ok v w'):(execOp a.eval ⟨dst,.call ⟨.builtin .clear,x.toArray,ts⟩,t',p,af,g⟩).run P w=.ok (.value v) w':=by
 subst b;exact og (λ_=>I) h
def adn{dst}{x:X Operand}{ts}{t'}{p}{af}{g}{v}{vs}(b:x.map a.eval=vs)
  (h:(Builtin.len_ ts t' vs.toArray).run P w=.ok v w'):(execOp a.eval ⟨dst,.call ⟨.builtin .len,x.toArray,ts⟩,t',p,af,g⟩).run P w=.ok (.value v) w':=by
 subst b;exact og (λ_=>I) h
section
variable {dst:Option Tmp} {x y z:Operand} {t t2:TypeId} {t':TypeId} {p:String} {af:Array Edge} {g:Option (Nat×L)} {u v vx vy vz:ay}
def ai8{n}{ps:X _}{ps'}(h:(ps.map λq=>(q.1,a.eval q.2))=ps')(r:(Instr.buildSlice t n ps'.toArray).run P w=.ok v w'):
  (execOp a.eval ⟨dst,.buildSlice t n ps.toArray,t',p,af,g⟩).run P w=.ok (.value v) w':=by
 subst h;simp[execOp,r]
def aio(b:a.eval x=vx)(c:a.eval y=vy)(h:(Instr.makeSlice t vx vy).run P w=.ok v w'):(execOp a.eval ⟨dst,.makeSlice t x y,t',p,af,g⟩).run P w=.ok (.value v) w':=by simp[execOp,b,c,h]
def adY(h:(Instr.makeMap t ZQ).run P w=.ok v w'):(execOp a.eval ⟨dst,.makeMap t ZQ,t',p,af,g⟩).run P w=.ok (.value v) w':=by simp[execOp,h]
def abQ(b:a.eval x=vx)(h:(Instr.makeMap t (Hg vx)).run P w=.ok v w'):(execOp a.eval ⟨dst,.makeMap t (Hg x),t',p,af,g⟩).run P w=.ok (.value v) w':=by simp[execOp,b,h]
def ad7{b}(c:a.eval x=vx)(d:a.eval y=vy)(h:(Instr.lookup t vx vy b).run P w=.ok v w'):(execOp a.eval ⟨dst,.lookup t x y b,t',p,af,g⟩).run P w=.ok (.value v) w':=by simp[execOp,c,d,h]
def vrT(b:a.eval x=vx)(c:a.eval y=vy)(d:a.eval z=vz)(h:(Instr.mapUpdate t vx vy vz).run P w=.ok () w'):(execOp a.eval ⟨dst,.mapUpdate t x y z,t',p,af,g⟩).run P w=.ok .skip w':=by simp[execOp,b,c,d,h]
def aiZ(b:a.eval x=vx)(c:a.eval y=vy)(d:a.eval z=vz)(h:(Instr.mapUpdate t vx vy vz).run P w=.ok () w'):(execOp a.eval ⟨dst,.insert t x y z,t',p,af,g⟩).run P w=.ok .skip w':=by simp[execOp,b,c,d,h]
def aja(b:a.eval x=vx)(h:(convert t t2 vx).run P w=.ok v w'):(execOp a.eval ⟨dst,.convert t t2 x,t',p,af,g⟩).run P w=.ok (.value v) w':=by simp[execOp,b,h]
end
def ajA{d:Option Tmp}{t:TypeId}{e:TypeId}{x:Operand}{c:TypeId}{p:String}{f:Array Edge}{g}{s:Sl}
  (h:(underlying t).run P w=.ok (.slice e) w) (b:a.eval x=s.v):
  (execOp a.eval ⟨d,.call ⟨.builtin .len,#[x],#[t]⟩,c,p,f,g⟩).run P w=.ok (.value (.int .i64 s.n)) w:=by
 simp[execOp,resolve,invoke,builtin,Builtin.len_,h,b,goInt]
def IC{dst}{x}{f}{first captured}{s:X Operand}{ats}{t'}{p}{af}{g}{r}
  (b:a.eval x=.func (.func f) first.toArray captured.toArray)
  (c:∀r w,(callFunc f r).run P w=.ok (.enter f r) w) (h:first++s.map a.eval++captured=r):
  (execOp a.eval ⟨dst,.call ⟨.value x,s.toArray,ats⟩,t',p,af,g⟩).run P w=.ok (.enter f r.toArray) w:=by
 subst h;simp only[execOp,resolve,b,Deferred.ofValue,Sem.run_bind,Sem.run_pure,Result.andThen_ok,invoke,c];simp
def oh{x}{k}{i y}{code}(h:x=.int k i)(a:i<=y):(Instr.sliceBound x y code).run P w=.ok i w:=by
 subst h;have:=J
 simp[Instr.sliceBound,asIntOf,this]
def CL{dst}{s d e}{x}{t'}{p}{af}{g}{sl}{l}
  (b:P.underlying s=Hg (.slice e)) (h:P.underlying e=Hg (.int .u8)) (hd:P.underlying d=Hg .string) (j:a.eval x=sl.v) (f:uN w sl l):
  (execOp a.eval ⟨dst,.convert s d x,t',p,af,g⟩).run P w=.ok (.value (.string ⟨l.toArray⟩)) w:=by
 obtain⟨n,i⟩:=f;obtain⟨c,sn,sc⟩:=sl;subst n;have k:(convert s d (.slice c (Z8 l) sc)).run P w=.ok (.string ⟨l.toArray⟩) w:=by
  rcases c with _|ad
  .have:l=[]:=Classical.byContradiction λa=>RZ
   subst this;exact run_convert_bytes_nil w s e b h _ _ d hd
  refine run_convert_bytes_back w s d e ad sc l b h hd λp g=>?_;obtain⟨H,a,o⟩:=i (λm=>by simp[m]at g);injection a with a;subst a;exact o p _ (by simp[jk,bH g])
 simp[execOp,j,k]
def aiR{dst}{fn}{f c:X Operand}{t'}{p}{af}{g}{fv cv}(h:f.map a.eval=fv)(b:c.map a.eval=cv):
  (execOp a.eval ⟨dst,.makeFunc fn f.toArray c.toArray,t',p,af,g⟩).run P w=.ok (.value (.func fn fv.toArray cv.toArray)) w:=by
 subst h;subst b;simp[execOp,Instr.makeFunc]
def ajB{dst}{t ty}{x y}{t'}{p}{af}{g}{k}{m n}(c:a.eval x=.int k m)(d:a.eval y=.int k n)(b:n≠0):
  (execOp a.eval ⟨dst,.binOp .quo t x y ty,t',p,af,g⟩).run P w=.ok (.value (.int k (k.wrap (m.tdiv n)))) w:=by
 have e:binOp .quo t (.int k m) (.int k n)=Op.intDiv .quo k m n:=by simp[binOp]
 have h:eqGuard .quo t x y (.int k m) (.int k n)=pure _:=I;simp[execOp,c,d,h,e,Op.intDiv,b,kP,Sem.run_bind,Sem.run_pure,Result.andThen_ok]
def ajC{dst}{t ty}{x y}{t'}{p}{af}{g}{k}{m n}(c:a.eval x=.int k m)(d:a.eval y=.int k n)(b:n≠0):
  (execOp a.eval ⟨dst,.binOp .rem t x y ty,t',p,af,g⟩).run P w=.ok (.value (.int k (m.tmod n))) w:=by
 have e:binOp .rem t (.int k m) (.int k n)=Op.intDiv .rem k m n:=by simp[binOp]
 have h:eqGuard .rem t x y (.int k m) (.int k n)=pure _:=I;simp[execOp,c,d,h,e,Op.intDiv,b,kP,Sem.run_bind,Sem.run_pure,Result.andThen_ok]
def ajD{dst}{t ty}{x y}{t'}{p}{af}{g}{k k'}{m n}(c:a.eval x=.int k m)(d:a.eval y=.int k' n)(f:0<=n):
  (execOp a.eval ⟨dst,.binOp .shl t x y ty,t',p,af,g⟩).run P w=.ok (.value (.int k (k.wrap (m*2 ^ (min n.toNat k.bits))))) w:=by
 have b:eqGuard .shl t x y (.int k m) (.int k' n)=pure _:=I;have e:binOp .shl t (.int k m) (.int k' n)=Op.shift .shl k m k' n:=I;have h:¬n<0:=J
 simp[execOp,c,d,b,e,Op.shift,h,kP,Sem.run_bind,Sem.run_pure,Result.andThen_ok]
def ajE{dst}{t ty}{x y}{t'}{p}{af}{g}{k k'}{m n}(c:a.eval x=.int k m)(d:a.eval y=.int k' n)(f:0<=n):
  (execOp a.eval ⟨dst,.binOp .shr t x y ty,t',p,af,g⟩).run P w=.ok (.value (.int k (m.fdiv (2 ^ (min n.toNat k.bits))))) w:=by
 have b:eqGuard .shr t x y (.int k m) (.int k' n)=pure _:=I;have e:binOp .shr t (.int k m) (.int k' n)=Op.shift .shr k m k' n:=I;have h:¬n<0:=J
 simp[execOp,c,d,b,e,Op.shift,h,kP,Sem.run_bind,Sem.run_pure,Result.andThen_ok]
def aiY{dst}{t}{x i}{t'}{p}{af}{g}{s}{k}{n}{c}
  (u:(underlying t).run P w=.ok .string w) (e:a.eval x=.string s) (d:a.eval i=.int k n) (h:0<=n) (b:s[n.toNat]? =Hg c):
  (execOp a.eval ⟨dst,.index t x i,t',p,af,g⟩).run P w=.ok (.value (.int .u8 c.toNat)) w:=by
 simp[execOp,e,d,Instr.index,asIntOf,u,Sem.run_bind,Sem.run_pure,Result.andThen_ok,h,yC,b]
def abj{dst}{t ty}{x y}{t'}{p}{af}{g}{s u}(c:a.eval x=.string s)(d:a.eval y=.string u)(n:(s.size:Int)+u.size<=9223372036854775807):
  (execOp a.eval ⟨dst,.binOp .add t x y ty,t',p,af,g⟩).run P w=.ok (.value (.string (s++u))) w:=by
 have b:eqGuard .add t x y (.string s) (.string u)=pure _:=I;have e:binOp .add t (.string s) (.string u)=Op.stringOp .add s u:=I;have h:¬((s.size+u.size:Nat))>IntKind.i64.max:=by simp_all
 simp only[execOp,c,d,b,e,Op.stringOp,h,kP,Sem.run_bind,Sem.run_pure,Result.andThen_ok]
def ajF{dst}{t}{e}{x}{t'}{p}{af}{g}{s:Sl}
  (h:(underlying t).run P w=.ok (.slice e) w) (b:a.eval x=s.v):
  (execOp a.eval ⟨dst,.call ⟨.builtin .cap,#[x],#[t]⟩,t',p,af,g⟩).run P w=.ok (.value (.int .i64 s.c)) w:=by
 simp[execOp,resolve,invoke,builtin,Builtin.cap_,h,b,goInt]
def exI{d:Option Tmp}{t:TypeId}{x o:Operand}{e:TypeId}{p:String}{f:Array Edge}{g:Option (Nat×L)}{s:ByteArray}{k:IntKind}{l:Nat}
  (u:(underlying t).run P w=.ok .string w) (c:a.eval x=.string s) (b:a.eval o=.int k (l:Int)) (h:l<=s.size) (_h2:s.size<=s.size):
  (execOp a.eval ⟨d,.slice t x (Hg o) ZQ ZQ,e,p,f,g⟩).run P w=.ok (.value (.string (s.extract l s.size))) w:=by
 simp[execOp,c,Instr.sliceAt,u,Instr.slice,Instr.sliceBounds,oh b h]
def ab7{dst}{t}{x hi}{t'}{p}{af}{g}{s}{k}{h:Nat}
  (u:(underlying t).run P w=.ok .string w) (d:a.eval x=.string s) (c:a.eval hi=.int k h) (_h1:0<=h) (b:h<=s.size):
  (execOp a.eval ⟨dst,.slice t x ZQ (Hg hi) ZQ,t',p,af,g⟩).run P w=.ok (.value (.string (s.extract 0 h))) w:=by
 simp[execOp,d,Instr.sliceAt,u,Instr.slice,Instr.sliceBounds,oh c b]
def afF{dst}{t}{x lo hi}{t'}{p}{af}{g}{s}{k k'}{l h:Nat}
  (u:(underlying t).run P w=.ok .string w) (f:a.eval x=.string s) (e:a.eval lo=.int k l) (d:a.eval hi=.int k' h) (b:l<=h) (c:h<=s.size):
  (execOp a.eval ⟨dst,.slice t x (Hg lo) (Hg hi) ZQ,t',p,af,g⟩).run P w=.ok (.value (.string (s.extract l h))) w:=by
 simp[execOp,f,Instr.sliceAt,u,Instr.slice,Instr.sliceBounds,oh d c,oh e b]
def E6{dst}{s d}{x}{t'}{p}{af}{g}{ks kd k}{n}
  (h:(underlying s).run P w=.ok (.int ks) w) (hd:(underlying d).run P w=.ok (.int kd) w) (b:a.eval x=.int k n):
  (execOp a.eval ⟨dst,.convert s d x,t',p,af,g⟩).run P w=.ok (.value (.int kd (kd.wrap n))) w:=by
 simp[execOp,b,convert,h,hd,Conv.intToInt]
def adU{t:Option Tmp}{s d:TypeId}{x:Operand}{c:TypeId}{p:String}{f:Array Edge}{g:Option (Nat×L)}{n:ByteArray}
  (h:(underlying s).run P w=.ok .string w) (hd:(underlying d).run P w=.ok .string w) (b:a.eval x=.string n):
  (execOp a.eval ⟨t,.convert s d x,c,p,f,g⟩).run P w=.ok (.value (.string n)) w:=by
 simp[execOp,b,convert,h,hd]
def aiQ{dst}{t}{x}{t'}{p}{af}{g}{d}{v}
  (h:(underlying t).run P w=.ok d w) (hd:(match d with | .interface _=>aM | _=>aF)=aF) (b:a.eval x=v):
  (execOp a.eval ⟨dst,.makeInterface t x,t',p,af,g⟩).run P w=.ok (.value (.iface t v)) w:=by
 subst b;cases d<;>first | (simp at hd;done) | simp[execOp,Instr.makeInterface,h]
def spl{d:Option Tmp}{t:TypeId}{x:Operand}{c:TypeId}{p:String}{f:Array Edge}{g:Option (Nat×L)}{s:ByteArray}
  (h:(underlying t).run P w=.ok .string w) (b:a.eval x=.string s):
  (execOp a.eval ⟨d,.call ⟨.builtin .len,#[x],#[t]⟩,c,p,f,g⟩).run P w=.ok (.value (.int .i64 s.size)) w:=by
 simp[execOp,resolve,invoke,builtin,Builtin.len_,h,b,goInt]
def ajG{dst}{ts}{x y}{t'}{p}{af}{g}{k k'}{m n}(h:a.eval x=.int k m)(b:a.eval y=.int k' n):
  (execOp a.eval ⟨dst,.call ⟨.builtin .min,#[x,y],ts⟩,t',p,af,g⟩).run P w=.ok (.value (.int k (if n<m then n else m))) w:=by
 simp[execOp,resolve,invoke,builtin,h,b,run_min_int2]
def ajH{d:Option Tmp}{ts}{x y}{t'}{p}{af}{g}{k k'}{m n}(h:a.eval x=.int k m)(b:a.eval y=.int k' n):
  (execOp a.eval ⟨d,.call ⟨.builtin .max,#[x,y],ts⟩,t',p,af,g⟩).run P w=.ok (.value (.int k (if n>m then n else m))) w:=by
 simp[execOp,resolve,invoke,builtin,h,b,run_max_int2]
def aej{s:Option Tmp}{t l:TypeId}{x y:Operand}{k:TypeId}{p:String}{f:Array Edge}{g:Option (Nat×L)}{e:TypeId}{q:Option Addr}{b:L}(u:(underlying t).run P w=.ok (.pointer e) w)(i:a.eval x=.pointer q)(j:a.eval y=.pointer ZQ)(c:(q.isNone)=b):
  (execOp a.eval ⟨s,.binOp .eql t x y l,k,p,f,g⟩).run P w=.ok (.value (.bool b)) w:=by
 subst c;have E:∀d,(Op.equalIn (d+1) t (.pointer q) (.pointer ZQ)).run P w=.ok q.isNone w:=λd=>by
  unfold Op.equalIn;cases q<;>simp only[Sem.run_bind,u,Result.andThen_ok]<;>rfl
 have h:binOp .eql t (.pointer q) (.pointer ZQ)=(do pure (.bool ((<-Op.equal t (.pointer q) (.pointer ZQ))))):=by cases q<;>rfl
 have G:eqGuard .eql t x y (.pointer q) (.pointer ZQ)=pure ():=I;simp only[execOp,i,j,G,h,Op.equal,Op.maxDepth,Sem.run_bind,Sem.run_pure,Result.andThen_ok,E 9999]
def bxs{dst}{t ty}{x y}{t'}{p}{af}{g}{e}{q}{b}(hu:(underlying t).run P w=.ok (.pointer e) w)(f:a.eval x=.pointer ZQ)(i:a.eval y=.pointer q)(c:(q.isNone)=b):
  (execOp a.eval ⟨dst,.binOp .eql t x y ty,t',p,af,g⟩).run P w=.ok (.value (.bool b)) w:=by
 subst c;have E:∀d,(Op.equalIn (d+1) t (.pointer ZQ) (.pointer q)).run P w=.ok q.isNone w:=λd=>Zr
 have h:binOp .eql t (.pointer ZQ) (.pointer q)=(do pure (.bool ((<-Op.equal t (.pointer ZQ) (.pointer q))))):=I;have G:eqGuard .eql t x y (.pointer ZQ) (.pointer q)=pure _:=I;simp[execOp,f,i,G,h,Op.equal,Op.maxDepth,Sem.run_bind,Sem.run_pure,Result.andThen_ok,E 9999]
def aeH{dst}{t ty}{x y}{t'}{p}{af}{g}{e}{q}{b}(u:(underlying t).run P w=.ok (.pointer e) w)(f:a.eval x=.pointer q)(i:a.eval y=.pointer ZQ)(c:(!q.isNone)=b):
  (execOp a.eval ⟨dst,.binOp .neq t x y ty,t',p,af,g⟩).run P w=.ok (.value (.bool b)) w:=by
 subst c;have E:∀d,(Op.equalIn (d+1) t (.pointer q) (.pointer ZQ)).run P w=.ok q.isNone w:=λd=>by
  unfold Op.equalIn;cases q<;>simp only[Sem.run_bind,u]<;>rfl
 have h:binOp .neq t (.pointer q) (.pointer ZQ)=(do pure (.bool (!(<-Op.equal t (.pointer q) (.pointer ZQ))))):=I;have G:eqGuard .neq t x y (.pointer q) (.pointer ZQ)=pure _:=I;simp[execOp,f,i,G,h,Op.equal,Op.maxDepth,Sem.run_bind,Sem.run_pure,Result.andThen_ok,E 9999]
def abS{s:Option Tmp}{t ty}{x y}{t'}{p}{af}{g}{e}{q}{b}(hu:(underlying t).run P w=.ok (.pointer e) w)(f:a.eval x=.pointer ZQ)(i:a.eval y=.pointer q)(c:(!q.isNone)=b):
  (execOp a.eval ⟨s,.binOp .neq t x y ty,t',p,af,g⟩).run P w=.ok (.value (.bool b)) w:=by
 subst c;have E:∀d,(Op.equalIn (d+1) t (.pointer ZQ) (.pointer q)).run P w=.ok q.isNone w:=λd=>Zr
 have h:binOp .neq t (.pointer ZQ) (.pointer q)=(do pure (.bool (!(<-Op.equal t (.pointer ZQ) (.pointer q))))):=by cases q<;>rfl
 have G:eqGuard .neq t x y (.pointer ZQ) (.pointer q)=pure _:=I;simp[execOp,f,i,G,h,Op.equal,Op.maxDepth,Sem.run_bind,Sem.run_pure,Result.andThen_ok,E 9999]
def afG{dst}{t ty}{x y}{t'}{p}{af}{g}{m n}(u:P.underlying t=Hg .bool)(b:a.eval x=.bool m)(c:a.eval y=.bool n):
  (execOp a.eval ⟨dst,.binOp .eql t x y ty,t',p,af,g⟩).run P w=.ok (.value (.bool (m==n))) w:=by
 have h:eqGuard .eql t x y (.bool m) (.bool n)=pure _:=I;simp[execOp,b,c,h,run_eql_bool w t m n u]
def yp4{dst}{t ty}{x y}{t'}{p}{af}{g}{m n}(u:P.underlying t=Hg .bool)(b:a.eval x=.bool m)(c:a.eval y=.bool n):
  (execOp a.eval ⟨dst,.binOp .neq t x y ty,t',p,af,g⟩).run P w=.ok (.value (.bool (!(m==n)))) w:=by
 have h:eqGuard .neq t x y (.bool m) (.bool n)=pure _:=I;simp[execOp,b,c,h,run_neq_bool w t m n u]
def ai5{c:Option Tmp}{t j:TypeId}{x y:Operand}{t'}{p}{af}{g}{e}{s:Sl}(u:(underlying t).run P w=.ok (.slice e) w)(f:a.eval x=s.v)(i:a.eval y=.slice ZQ 0 0):
  (execOp a.eval ⟨c,.binOp .eql t x y j,t',p,af,g⟩).run P w=.ok (.value (.bool (s.a.isNone))) w:=by
 obtain⟨b,sn,sc⟩:=s;have E:∀d,(Op.equalIn (d+1) t (.slice b sn sc) (.slice ZQ 0 0)).run P w=.ok b.isNone w:=λd=>by
  unfold Op.equalIn;cases b<;>simp only[Sem.run_bind,u]<;>rfl
 have h:binOp .eql t (.slice b sn sc) (.slice ZQ 0 0)=(do pure (.bool ((<-Op.equal t (.slice b sn sc) (.slice ZQ 0 0))))):=by cases b<;>rfl
 have G:eqGuard .eql t x y (.slice b sn sc) (.slice ZQ 0 0)=pure _:=I;simp[execOp,f,i,G,h,Op.equal,Op.maxDepth,Sem.run_bind,Sem.run_pure,Result.andThen_ok,E 9999]
def abC{dst}{t ty}{x y}{t'}{p}{af}{g}{e}{s:Sl}(hu:(underlying t).run P w=.ok (.slice e) w)(c:a.eval x=.slice ZQ 0 0)(f:a.eval y=s.v):
  (execOp a.eval ⟨dst,.binOp .eql t x y ty,t',p,af,g⟩).run P w=.ok (.value (.bool (s.a.isNone))) w:=by
 obtain⟨b,sn,sc⟩:=s;have E:∀d,(Op.equalIn (d+1) t (.slice ZQ 0 0) (.slice b sn sc)).run P w=.ok b.isNone w:=λd=>Zr
 have h:binOp .eql t (.slice ZQ 0 0) (.slice b sn sc)=(do pure (.bool ((<-Op.equal t (.slice ZQ 0 0) (.slice b sn sc))))):=I;have G:eqGuard .eql t x y (.slice ZQ 0 0) (.slice b sn sc)=pure _:=I;simp[execOp,c,f,G,h,Op.equal,Op.maxDepth,Sem.run_bind,Sem.run_pure,Result.andThen_ok,E 9999]
def mvL{dst}{t ty}{x y}{t'}{p}{af}{g}{e}{s:Sl}(u:(underlying t).run P w=.ok (.slice e) w)(c:a.eval x=s.v)(f:a.eval y=.slice ZQ 0 0):
  (execOp a.eval ⟨dst,.binOp .neq t x y ty,t',p,af,g⟩).run P w=.ok (.value (.bool (!s.a.isNone))) w:=by
 obtain⟨b,sn,sc⟩:=s;have E:∀d,(Op.equalIn (d+1) t (.slice b sn sc) (.slice ZQ 0 0)).run P w=.ok b.isNone w:=λd=>by
  unfold Op.equalIn;cases b<;>simp only[Sem.run_bind,u]<;>rfl
 have h:binOp .neq t (.slice b sn sc) (.slice ZQ 0 0)=(do pure (.bool (!(<-Op.equal t (.slice b sn sc) (.slice ZQ 0 0))))):=by cases b<;>rfl
 have G:eqGuard .neq t x y (.slice b sn sc) (.slice ZQ 0 0)=pure _:=I;simp[execOp,c,f,G,h,Op.equal,Op.maxDepth,Sem.run_bind,Sem.run_pure,Result.andThen_ok,E 9999]
def lnT{c:Option Tmp}{t k:TypeId}{x y:Operand}{j:TypeId}{p:String}{af}{g}{e}{s:Sl}(hu:(underlying t).run P w=.ok (.slice e) w)(f:a.eval x=.slice ZQ 0 0)(i:a.eval y=s.v):
  (execOp a.eval ⟨c,.binOp .neq t x y k,j,p,af,g⟩).run P w=.ok (.value (.bool (!s.a.isNone))) w:=by
 obtain⟨b,sn,sc⟩:=s;have E:∀d,(Op.equalIn (d+1) t (.slice ZQ 0 0) (.slice b sn sc)).run P w=.ok b.isNone w:=λd=>Zr
 have h:binOp .neq t (.slice ZQ 0 0) (.slice b sn sc)=(do pure (.bool (!(<-Op.equal t (.slice ZQ 0 0) (.slice b sn sc))))):=by cases b<;>rfl
 have G:eqGuard .neq t x y (.slice ZQ 0 0) (.slice b sn sc)=pure _:=I;simp[execOp,f,i,G,h,Op.equal,Op.maxDepth,Sem.run_bind,Sem.run_pure,Result.andThen_ok,E 9999]
def aaR{dst}{t e}{x lo}{t'}{p}{af}{g}{s:Sl}{k}{l sz:Nat}
  (u:(underlying t).run P w=.ok (.slice e) w) (h:(sizeOf e).run P w=.ok sz w) (d:a.eval x=s.v) (c:a.eval lo=.int k l) (b:l<=s.n) (_h2:s.n<=s.c) (_h3:s.c<=s.c):
  (execOp a.eval ⟨dst,.slice t x (Hg lo) ZQ ZQ,t',p,af,g⟩).run P w=.ok (.value (s.cut l s.n s.c sz).v) w:=by
 simp[execOp,d,Instr.sliceAt,u,Sem.run_bind,Result.andThen_ok,Instr.slice,Instr.sliceBounds,kF,CF,Sem.run_pure,oh c b,h,Sl.cut]
def adi{dst}{t e}{x hi}{t'}{p}{af}{g}{s:Sl}{k}{h sz:Nat}
  (u:(underlying t).run P w=.ok (.slice e) w) (z:(sizeOf e).run P w=.ok sz w) (d:a.eval x=s.v) (c:a.eval hi=.int k h) (_h1:0<=h) (b:h<=s.c) (_h3:s.c<=s.c):
  (execOp a.eval ⟨dst,.slice t x ZQ (Hg hi) ZQ,t',p,af,g⟩).run P w=.ok (.value (s.cut 0 h s.c sz).v) w:=by
 simp[execOp,d,Instr.sliceAt,u,Sem.run_bind,Result.andThen_ok,Instr.slice,Instr.sliceBounds,kF,CF,Sem.run_pure,oh c b,z,Sl.cut]
def mvE{dst}{t e}{x lo hi}{t'}{p}{af}{g}{s:Sl}{k k'}{l h sz:Nat}
  (u:(underlying t).run P w=.ok (.slice e) w) (z:(sizeOf e).run P w=.ok sz w) (i:a.eval x=s.v) (f:a.eval lo=.int k l) (d:a.eval hi=.int k' h) (b:l<=h) (c:h<=s.c) (_h3:s.c<=s.c):
  (execOp a.eval ⟨dst,.slice t x (Hg lo) (Hg hi) ZQ,t',p,af,g⟩).run P w=.ok (.value (s.cut l h s.c sz).v) w:=by
 simp[execOp,i,Instr.sliceAt,u,Sem.run_bind,Result.andThen_ok,Instr.slice,Instr.sliceBounds,kF,CF,Sem.run_pure,oh d c,oh f b,z,Sl.cut]
def ahG{dst}{t e}{x hi mx}{t'}{p}{af}{g}{s:Sl}{k' k2}{h m sz:Nat}
  (u:(underlying t).run P w=.ok (.slice e) w) (z:(sizeOf e).run P w=.ok sz w) (i:a.eval x=s.v) (d:a.eval hi=.int k' h) (f:a.eval mx=.int k2 m) (_h1:0<=h) (b:h<=m) (c:m<=s.c):
  (execOp a.eval ⟨dst,.slice t x ZQ (Hg hi) (Hg mx),t',p,af,g⟩).run P w=.ok (.value (s.cut 0 h m sz).v) w:=by
 simp[execOp,i,Instr.sliceAt,u,Sem.run_bind,Result.andThen_ok,Instr.slice,Instr.sliceBounds,kF,CF,Sem.run_pure,oh f c,oh d b,z,Sl.cut]
def neB{dst}{t e}{x lo hi mx}{t'}{p}{af}{g}{s:Sl}{k k' k2}{l h m sz:Nat}
  (u:(underlying t).run P w=.ok (.slice e) w) (z:(sizeOf e).run P w=.ok sz w) (n:a.eval x=s.v) (i:a.eval lo=.int k l) (f:a.eval hi=.int k' h) (j:a.eval mx=.int k2 m) (b:l<=h) (c:h<=m) (d:m<=s.c):
  (execOp a.eval ⟨dst,.slice t x (Hg lo) (Hg hi) (Hg mx),t',p,af,g⟩).run P w=.ok (.value (s.cut l h m sz).v) w:=by
 simp only[execOp,n,Instr.sliceAt,u,Sem.run_bind,Result.andThen_ok,Instr.slice,Instr.sliceBounds,kF,Sem.run_pure,oh j d,oh f c,oh i b,z,Sl.cut]
section
variable {K:Act->aw->Prop} {o:Oper}
def aeU(g:Region.wanted o (yielded ops a.tmps)=aF)(h:o.wp P a w (wpList P ops Q rest) Q):wpList P ops Q (o::rest) a w:=by
 unfold wpList;simp_all
def Bc v (r:(execOp a.eval o).run P w=.ok (.value v) w') (b:a.put o.dst v=a') (h:K a' w'):o.wp P a w K Q:=by
 subst b;unfold Oper.wp;rw[r];exact h
def TJ(r:(execOp a.eval o).run P w=.ok .skip w')(b:a.put o.dst undef=a')(h:K a' w'):o.wp P a w K Q:=by
 subst b;unfold Oper.wp;rw[r];exact h
def N6{f}{args}(r:(execOp a.eval o).run P w=.ok (.enter f args) w)
  (h:Calls P f args w λe w'=>∃v a',e=.returned v/\a.put o.dst v=a'/\K a' w'):o.wp P a w K Q:=by
 unfold Oper.wp;rw[r];refine h.mono ?_;simp_all
def IJ{dst}{ty}{x y}{t'}{p}{af}{g}{b o}{cs vs qY}{et}{n}
  (h:(sizeOf ty).run P w=.ok n w) (k:a.eval x=.pointer (Hg ⟨b,o,ZQ⟩)) (v:(a.eval y).cells=vs.toArray) (j:Z8 vs=n)
  (f:vs.all Value.oneCell'=aF) (d:Blk w b et cs) (l:o+Z8 vs<=Z8 cs) (Z:eY cs o vs=qY) (i:a.put dst undef=a')
  (e:∀c,Only [b] w c->Blk c b et qY->K a' c):Oper.wp P ⟨dst,.store ty x y,t',p,af,g⟩ a w K Q:=
 TJ (aiz h k v j (fi.1 f) d l) i (e _ (Zn _ _ _) (by rw[<-Z];exact d.setRow _))
def IK{dst}{ty}{t'}{p}{af}{g}{z}{zs}{d:Nat->Act}
  (i:(zeroValue ty).run P w=.ok z w) (f:z.cells=zs.toArray) (e:∀b,a.put dst (.pointer (Hg ⟨b,0,ZQ⟩))=d b)
  (h:∀b c,w.heap.size<=b->Only [] w c->Blk c b ty zs->K (d b) c):Oper.wp P ⟨dst,.alloc ty,t',p,af,g⟩ a w K Q:=
 Bc _ (ahe i f) (e _) (h _ _ (aX _) (WJ _ _) (KC _ _ _))
def aeV{dst}{ty}{x}{t'}{p}{af}{g}{zs}{d:Nat->Act}
  (f:(a.eval x).cells=zs.toArray) (e:∀b,a.put dst (.pointer (Hg ⟨b,0,ZQ⟩))=d b)
  (h:∀b c,w.heap.size<=b->Only [] w c->Blk c b ty zs->K (d b) c):Oper.wp P ⟨dst,.box ty x,t',p,af,g⟩ a w K Q:=
 Bc _ (ajz f) (e _) (h _ _ (aX _) (WJ _ _) (KC _ _ _))
end
def adX{id}(h:Q .normal a w):Exit.inBlock id Q (.exit id) a w:=by simpa[Exit.inBlock]using h
def abF{id id'}(i:(id'==id)=aM)(h:Q (.exit id') a w):Exit.inBlock id Q (.exit id') a w:=by simpa[Exit.inBlock,by simpa using i]using h
def E8(P:Program)(a:Act)(w:aw):X ResultVar->X ay->Prop
 | [],[]=>True
 | .tmp t::r,v::s=>a.eval (.tmp t)=v/\E8 P a w r s
 | .cell p t::r,v::s=>(∃ad,a.eval (.tmp p)=.pointer (Hg ad)/\(loadVar t ad).run P w=.ok v w)/\E8 P a w r s
 | _,_=>False
def pX(f:ResultVar->Sem ay)(W:∀t,f (.tmp t)=pure (a.tmps.getD t undef))(h:∀q t,f (.cell q t)=(do loadVar t (<-asAddr (a.tmps.getD q undef)))):
  ∀r s,E8 P a w r s->(r.mapM f).run P w=.ok s w
 | [],[],_=>rfl
 | [],_::_,a=>a.elim
 | .tmp t::b,[],a=>a.elim
 | .cell _ _::b,[],a=>a.elim
 | .tmp t::c,v::s,b=>by
  have i:=pX f W h c s b.2;have d:a.tmps.getD t undef=v:=b.1;simp_all
 | .cell q t::g,v::s,c=>by
  have i:=pX f W h g s c.2;obtain⟨⟨ad,d,e⟩,_⟩:=c;have b:a.tmps.getD q undef=.pointer _:=d;rw[List.mapM_cons,h];simp[b,asAddr,e,i]
def aeW{fn}{rs}{v}(h:fn.results=rs.toArray)(r:E8 P a w rs [v]):(results fn a.tmps).run P w=.ok v w:=by
 unfold results;rw[h,List.mapM_toArray];simp only[Sem.run_bind,map_eq_pure_bind];rw[pX _ (λ_=>I) (λ_ _=>I) rs [v] r];rfl
def Mj{fn}{rs}{vs}(h:fn.results=rs.toArray)(n:(Z8 vs==1)=aM)(r:E8 P a w rs vs):(results fn a.tmps).run P w=.ok (.tuple vs.toArray) w:=by
 unfold results;rw[h,List.mapM_toArray];simp only[Sem.run_bind,map_eq_pure_bind,Sem.run_pure];rw[pX _ (λ_=>I) (λ_ _=>I) rs vs r];simp_all
def opk{fn}{R:ay->aw->Prop}{v}(r:(results fn a.tmps).run P w=.ok v w)(hd:a.defers=[])(h:R v w):
 bodyPost P fn (λe w'=>∃v,e=.returned v/\R v w') .ret a w:=bodyPost_ret r hd ⟨v,I,h⟩
def aew{fn}{R:ay->aw->Prop}{v}(r:(results fn a.tmps).run P w=.ok v w)(hd:a.defers=[])(h:R v w):
 bodyPost P fn (λe w'=>∃v,e=.returned v/\R v w') .normal a w:=bodyPost_end r hd ⟨v,I,h⟩
def enK{ty}{ad}{cs}{n}(N:(isAgg ty).run P w=.ok aF w)(h:(sizeOf ty).run P w=.ok n w)(a:Z8 cs=n)(c:Cells w ad cs):
  (loadVar ty ad).run P w=.ok (.agg cs.toArray) w:=by
 have l:=run_loadCells_list (P:=P) w ad cs c;rw[a]at l;simp[loadVar,N,h,l,Sem.run_pure]
def aik{ty}{ad}{v}(N:(isAgg ty).run P w=.ok aM w)(h:w.cell? ad=Hg v):
  (loadVar ty ad).run P w=.ok v w:=by
 simp[loadVar,N,kP,run_load,h]
end
section
variable {P:Program} {ops:Array Oper} {rest:X Oper} {a a':Act} {w:aw} {Q:Act->Prop}
def ajI{o} v (g:Region.wanted o (yielded ops a.tmps)=aF)
  (r:∀b,(∃n,b=w.drewN n)->(execOp a.eval o).run P b=.ok (.value v) b) (d:a.put o.dst v=a')
  (c:wpQuiet P ops (λb=>∃n,b=w.drewN n) Q rest a'):wpQuiet P ops (λb=>∃n,b=w.drewN n) Q (o::rest) a:=by
 subst d;unfold wpQuiet;rw[K g];refine⟨v,λb h=>?_,c⟩;unfold Oper.quietAt;rw[r b h];exact⟨I,I⟩
def aq7{o}(g:Region.wanted o (yielded ops a.tmps)=aM)(h:a.put o.dst undef=a')
  (c:wpQuiet P ops (λb=>∃n,b=w.drewN n) Q rest a'):wpQuiet P ops (λb=>∃n,b=w.drewN n) Q (o::rest) a:=by
 subst h;unfold wpQuiet;simp_all
end
def clk{w w'}:cF [] w w':=λ_ h=>Gl
def cF.refl bs w:cF bs w w:=λ_ _=>I
def WV:=@cF.refl
section
variable {P:Program} {ops:Array Oper} {Q:Exit->Act->aw->Prop} {md:Region.Mode} {E:Nat->aw->aw->Prop} {F:aw->Prop}
def gf(P:Program)(m:Region.Mode)(o:Array Oper)(Q:Exit->Act->aw->Prop)(E:Nat->aw->aw->Prop):Nat->Array L->Act->aw->Prop
 | 0,b,a,w=>Region.ready m o b=[]/\Q .normal a w
 | jG+1,b,a,w=>
  (Region.ready m o b=[]->Q .normal a w)/\
  ∀i∈Region.ready m o b,wpOp P o Q i (λd c=>E i w c/\gf P m o Q E jG (b.setIfInBounds i aF) d c) a w
def CM:∀jG b a w,gf P md ops Q E jG b a w->wpAny P md ops Q jG b a w
 | 0,_,_,_,h=>h
 | jG+1,_,_,_,h=>⟨h.1,λd i=>wpOp_mono (λa e c=>CM jG _ a e c.2) (h.2 d i)⟩
def tW(m:Region.Mode)(o:Array Oper)(b:Array L):Prop:=∀k a,o[k]? =Hg a->b.getD k aM=aF->∀e∈a.after,Region.binds m e=aF->b.getD e.on aM=aF
def wF(m:Region.Mode)(o:Array Oper)(b:Array L):L:=
 (List.range o.size).all λk=>!b.getD k aM||((o[k]?).map (·.after.all λe=>!Region.binds m e||b.getD e.on aM)).getD aF
def E9{bI}(a:wF md ops bI=aF):tW md ops bI:=by
 intro k o h l e c b;have:=(fi.1 a) k (List.mem_range.2 (nV.1 h).1);simp only[l,tV,h,kF,iW,Array.all_eq_true_iff_forall_mem,dq]at this
 grind
def tW.add{bI}{j}(d:tW md ops bI)(f:j∈Region.ready md ops bI):tW md ops (bI.setIfInBounds j aF):=by
 intro k o h l e c b;obtain⟨_,i,Y,g⟩:=mem_ready.1 f;by_cases a:j=k
 .subst a;rw[Y]at h;injection h with h;subst h;exact getD_set_true (g e c b)
 rw[getD_set_ne aM a]at l;exact getD_set_true (d k o h l e c b)
def tX(m:Region.Mode)(o:Array Oper)(i:Nat):X Nat->X Nat->L
 | _,[]=>aF
 | s,j::r=>((o[j]?).map λa=>a.after.any λe=>Region.binds m e&&(e.on==i||s.contains e.on)).getD aM&&tX m o i (j::s) r
def Bd{i}{bI}(h:tW md ops bI):∀D s,tX md ops i s D=aF->(∀k∈s,bI.getD k aM=aF->bI.getD i aM=aF)->∀j∈D,∀o,ops[j]? =Hg o->(∀e∈o.after,Region.binds md e=aF->bI.getD e.on aM=aF)->bI.getD i aM=aF
 | [],_,_,_,j,a,_,_,_=>by simp at a
 | k::r,s,a,f,j,b,o,d,g=>by
  simp[tX,H]at a;have c:∀o,ops[k]? =Hg o->(∀e∈o.after,Region.binds md e=aF->bI.getD e.on aM=aF)->bI.getD i aM=aF:=RZ
  rcases aZ.1 b with rfl | b
  .exact c o d g
  refine Bd h r _ a.2 ?_ j b o d g;intro x e l;rcases aZ.1 e with rfl | e
  .have i:=a.1;rcases hx2:ops[x]? with _|k
   .rw[hx2]at i;simp at i
   exact c k hx2 (h x k hx2 l)
  exact f x e l
def tY{i}{oi}{v}{D}(h:ops[i]? =Hg oi)(n:∀(j:Nat) o s b,ops[j]? =Hg o->o.op≠.select s b)
  (l:∀c a w,Q (.panic c) (a.put oi.dst v) w->Q (.panic c) a w) (g:tX md ops i [] D=aF)
  (N:X Nat) (y:∀j w d,j∉D->j∉N->F w->E j w d->F d) (f:∀w,F w->E i w w):
  ∀jG I a w,tW md ops I->(∀k∈N,I.getD k aF=aF)->
   (∀j b,ops[j]? =Hg b->j≠i->I.getD j aF=aM->(∀e∈b.after,Region.binds md e=aF->e.on≠i)->oi.apart ops b=aF)->
   i∈Region.ready md ops I->YieldsIf P ops F oi v a->F w->
   gf P md ops Q E jG (I.setIfInBounds i aF) (a.put oi.dst v) w->gf P md ops Q E (jG+1) I a w:=by
 intro jG
 induction jG with
 | zero=>
  intro I a w _ _ _ r k F H;refine⟨λc=>(by rw[c]at r;cases r),λj e=>?_⟩;by_cases b:j=i
  .subst b;exact k.wpOp h F ⟨f w F,H⟩
  have:=ready_mono e b;rw[H.1]at this;cases this
 | succ jG v=>
  intro I a w t p Q r q F H;refine⟨λu=>(by rw[u]at r;cases r),λj m=>?_⟩;by_cases c:j=i
  .subst c;exact q.wpOp h F ⟨f w F,H⟩
  have T:=H.2 j (ready_mono m c);obtain⟨a,B,Y,S⟩:=mem_ready.1 m;have P:=(mem_ready.1 r).1;have J:I.getD i aM=aM:=RZ
  have C:∀e∈B.after,Region.binds md e=aF->e.on≠i:=λe he Z W=>RZ
  have G:j∉D:=λK=>by
   have:=Bd t D [] g R j K B Y S;rw[J]at this;cases this
  have x:j∉N:=λK=>by
   have:=p j K;rw[a]at this;cases this
  have E:∀k∈N,(I.setIfInBounds j aF).getD k aF=aF:=λk A=>by
   by_cases b:j=k
   .subst b;exact absurd A x
   rw[getD_set_ne aF b];exact p k A
  have V:=wpOp_putIf Y (Q j B Y c a C) (λs b=>n i oi s b h) (λs b=>n j B s b Y) l q T;have L:∀k ok,ops[k]? =Hg ok->k≠i->(I.setIfInBounds j aF).getD k aF=aM->
    _->oi.apart ops ok=aF:=λk ok A i e D=>by
   refine Q k ok A i ?_ D;by_cases b:j=k
   .subst b;exact a
   rw[getD_set_ne aF b]at e;exact e
  refine wpOp_mono (λM d z=>⟨z.2.1,v _ M d (t.add m) E L (ready_mono r (Ne.symm c)) z.1 (y j w d G x F z.2.1) ?_⟩) V;rw[Array.setIfInBounds_comm _ _ c];exact z.2.2
def Mm i {eJ} {oi} {a a'} {w} {jG} {bI} (D N:X Nat) v F (hi:iB eJ i=Hg oi)
  (s:Region.noSelect eJ.toArray=aF) (n:Region.free md eJ.toArray bI i=aF) (hr:(Region.ready md eJ.toArray bI).contains i=aF) (m:wF md eJ.toArray bI=aF) (e:tX md eJ.toArray i [] D=aF) (p:(N.all λk=>bI.getD k aF)=aF)
  (g:∀c a w,Q (.panic c) (a.put oi.dst v) w->Q (.panic c) a w) (o:∀j w b,j∉D->j∉N->F w->E j w b->F b) (d:∀w,F w->E i w w) (f:F w)
  (y:YieldsIf P eJ.toArray F oi v a) (l:a.put oi.dst v=a')
  (h:gf P md eJ.toArray Q E jG (bI.setIfInBounds i aF) a' w):gf P md eJ.toArray Q E (jG+1) bI a w:=by
 subst l;have B:eJ.toArray[i]? =Hg oi:=Kp
 exact tY B (Region.noSelect_spec s) g e N o d jG bI a w (E9 m) (λk q=>RZ) (Region.free_spec B n) OT y f h
def ajJ i {eJ} {oi} {a} {w} {jG} {bI} (hi:iB eJ i=Hg oi) (hr:Region.ready md eJ.toArray bI=[i])
  (g:Region.wanted oi (yielded eJ.toArray a.tmps)=aF)
  (d:oi.wp P a w (λc b=>E i w b/\gf P md eJ.toArray Q E jG (bI.setIfInBounds i aF) c b) Q):gf P md eJ.toArray Q E (jG+1) bI a w:=by
 have B:eJ.toArray[i]? =Hg oi:=Kp
 refine⟨λh0=>Rf,λj h=>?_⟩;rw[hr]at h;obtain rfl:j=i:=by simpa using h
 unfold wpOp;simp_all
def abv i {eJ} {oi} {a a'} {w} {jG} {bI} (hi:iB eJ i=Hg oi) (hr:Region.ready md eJ.toArray bI=[i])
  (g:Region.wanted oi (yielded eJ.toArray a.tmps)=aM) (d:E i w w) (b:a.put oi.dst undef=a')
  (c:gf P md eJ.toArray Q E jG (bI.setIfInBounds i aF) a' w):gf P md eJ.toArray Q E (jG+1) bI a w:=by
 subst b;have B:eJ.toArray[i]? =Hg oi:=Kp
 refine⟨λh0=>Rf,λj h=>?_⟩;rw[hr]at h;obtain rfl:j=i:=by simpa using h
 unfold wpOp;simp_all
def ajK i j {eJ} {oi oj} {a} {w} {jG} {bI} (hi:iB eJ i=Hg oi) (d:iB eJ j=Hg oj) (hr:Region.ready md eJ.toArray bI=[i,j])
  (f:if Region.wanted oi (yielded eJ.toArray a.tmps)then oi.wp P a w (λc b=>E i w b/\gf P md eJ.toArray Q E jG (bI.setIfInBounds i aF) c b) Q∨(oi.asks P a w/\LetsOut Q)
   else(λc b=>E i w b/\gf P md eJ.toArray Q E jG (bI.setIfInBounds i aF) c b) (a.put oi.dst undef) w)
  (g:if Region.wanted oj (yielded eJ.toArray a.tmps)then oj.wp P a w (λc b=>E j w b/\gf P md eJ.toArray Q E jG (bI.setIfInBounds j aF) c b) Q∨(oj.asks P a w/\LetsOut Q)
   else(λc b=>E j w b/\gf P md eJ.toArray Q E jG (bI.setIfInBounds j aF) c b) (a.put oj.dst undef) w):gf P md eJ.toArray Q E (jG+1) bI a w:=by
 have B:eJ.toArray[i]? =Hg oi:=Kp
 have e:eJ.toArray[j]? =Hg oj:=by rw[kY]at d;simpa using d
 refine⟨λh0=>Rf,λk h=>?_⟩;rw[hr]at h;unfold wpOp;rcases aZ.1 h with rfl | h<;>simp_all
def aeX{bI}{a}{w}{jG}(r:Region.ready md ops bI=[])(h:Q .normal a w):gf P md ops Q E jG bI a w:=by
 cases jG with
 | zero=>exact⟨r,h⟩
 | succ n=>exact⟨λ_=>h,by rw[r];simp⟩
def IL{id}{e:X Oper}{a}{w} E (m:P.follows .mixedOrders=aF)
  (h:gf P .any e.toArray Q E (Z8 e) (Array.replicate (Z8 e) aM) a w.drew):(Code.region id e.toArray aF).wp P Q a w:=by
 refine wp_region_any m (CM (E:=E) _ _ _ _ ?_);simpa using h
def EL(s:X (Nat×X Nat))(j:Nat)(w a:aw):Prop:=match s.lookup j with | some l=>cF l w a | none=>a.heap=w.heap
def aeL{ls}{i}(h:ls.lookup i=ZQ) w:EL ls i w w:=by unfold EL;rw[h]
def aiB{ls}{D N:X Nat}:∀j w a,j∉D->j∉N->True->EL ls j w a->True:=λ_ _ _ _ _ h _=>h
def aiV{s}{l} w w' (a:w'.heap[s.blk]? =w.heap[s.blk]?) (h:uN w s l):uN w' s l:=
 ⟨h.1,λb=>by
  obtain⟨ad,c,d⟩:=h.2 b;refine⟨ad,c,d.keep ?_⟩;simpa[Sl.blk,c]using a⟩
def acw{e:X Oper}{o}{v}{a}(g:Region.wanted o (yielded e.toArray a.tmps)=aF)(h:∀w,F w->(execOp a.eval o).run P w=.ok (.value v) w):YieldsIf P e.toArray F o v a:=.inl ⟨g,h⟩
def Wc{e:X Oper}{o}{a}(h:Region.wanted o (yielded e.toArray a.tmps)=aM):YieldsIf P e.toArray F o undef a:=.inr ⟨h,I⟩
end
def rX(x:Int):Prop:= -9223372036854775808<=x/\x<=9223372036854775807
def wr{x}(h:rX x):IntKind.i64.wrap x=x:=IntWalk.i64_in _ ⟨h.1,h.2⟩
def eS{x}(h: -9223372036854775808<=x)(a:x<=9223372036854775807):IntKind.i64.wrap x=x:=IntWalk.i64_in _ ⟨h,a⟩
def rM x:rX (IntKind.i64.wrap x):=by
 rw[IntKind.wrap_i64];constructor<;>omega
abbrev Rp(a:Type):=aw->(Nat->Prop)->a->X ay->Prop
structure Rp.Ok {α:Type} (r:Rp α):Prop where
 keep:∀{w w':aw} {F:Nat->Prop} {x:α} {cs:List ay},r w F x cs->(∀k,F k->k<w.heap.size->w'.heap[k]? =w.heap[k]?)->r w' F x cs
 inHeap:∀{w:aw} {F:Nat->Prop} {x:α} {cs:List ay},r w F x cs->r w (λk=>F k/\k<w.heap.size) x cs
 mono:∀{w:aw} {F G:Nat->Prop} {x:α} {cs:List ay},r w F x cs->(∀k,F k->G k)->r w G x cs
 one:∀{w:aw} {F:Nat->Prop} {x:α} {cs:List ay},r w F x cs->∀v,v∈cs->v.oneCell'=aF
section
variable {α:Type} {r:Rp α} {size:Nat} {w w':aw} {F G:Nat->Prop} {s:Sl} {xs:X α}
structure SliceF (r:Rp α) (size:Nat) (w:aw) (F:Nat->Prop) (s:Sl) (xs:List α):Prop where
 len:s.n=Z8 xs
 cap:s.n<=s.c
 nil0:s.a=ZQ->s.c=0
 big:s.c<=9223372036854775807
 at_:∀j x,xs[j]? =Hg x->∃base cs,s.a=Hg base/\F base.block/\Z8 cs=size/\Cells w (base.add (j*size)) cs/\r w F x cs
def ol(a:Addr) n:(a.add n).block=a.block:=by unfold Addr.add;split<;>rfl
def sf(a:Addr) i j:(a.add i).add j=a.add (i+j):=by
 unfold Addr.add;by_cases h:i=0<;>by_cases b:j=0<;>simp[h,b,fI]
def abD(a:Addr):a.add 0=a:=rfl
def gW b o n:(⟨b,o,ZQ⟩:Addr).add n=⟨b,o+n,ZQ⟩:=by unfold Addr.add;split<;>simp_all
def Cells.sub{a}{cs vs}(h:Cells w a cs) k (c:∀j v,vs[j]? =Hg v->cs[k+j]? =Hg v):Cells w (a.add k) vs:=λj v b=>by
 rw[sf];exact h _ v (c j v b)
def Cells.dx{a}{cs}(b:Cells w a cs) k v (c:cs[k]? =Hg v):Cells w (a.add k) [v]:=b.sub k λj u h=>by
 cases j with
 | zero=>simpa[c]using h
 | succ j=>simp at h
def SliceF.nil(r:Rp α) size w F:SliceF r size w F Sl.nil []:=⟨I,aX _,λ_=>I,Z,λj x h=>Gl⟩
def RG:=@SliceF.nil
def SliceF.keep(b:r.Ok)(h:SliceF r size w F s xs)(e:0<size)(a:∀k,F k->k<w.heap.size->w'.heap[k]? =w.heap[k]?):SliceF r size w' F s xs:=
 ⟨h.len,h.cap,h.nil0,h.big,λj x d=>by
  obtain⟨s,f,l,g,i,k,m⟩:=h.at_ j x d;refine⟨s,f,l,g,i,k.keep ?_,b.keep m a⟩;have T:(s.add (j*size)).block<w.heap.size:=by
   cases f with
   | nil=>simp at i;omega
   | cons c f=>exact k.lt
  rw[ol]at T⊢;exact a _ g T⟩
def KN:=@SliceF.keep
def SliceF.mono(b:r.Ok)(h:SliceF r size w F s xs)(a:∀k,F k->G k):SliceF r size w G s xs:=
 ⟨h.len,h.cap,h.nil0,h.big,λj x c=>by
  obtain⟨s,d,e,f,g,i,k⟩:=h.at_ j x c;exact⟨s,d,e,a _ f,g,i,b.mono k a⟩⟩
def Z5:=@SliceF.mono
def SliceF.inHeap(a:r.Ok)(h:SliceF r size w F s xs)(d:0<size):SliceF r size w (λk=>F k/\k<w.heap.size) s xs:=
 ⟨h.len,h.cap,h.nil0,h.big,λj x b=>by
  obtain⟨s,e,i,k,f,g,l⟩:=h.at_ j x b;refine⟨s,e,i,⟨k,?_⟩,f,g,a.inHeap l⟩;have T:(s.add (j*size)).block<w.heap.size:=by
   cases e with
   | nil=>simp at f;omega
   | cons c e=>exact g.lt
  rwa[ol]at T⟩
def Mr:=@SliceF.inHeap
def SliceF.get(h:SliceF r size w F s xs){i:Int}(j:0<=i)(k:i<s.n):
  ∃ad x c,cM s i size ad/\xs[i.toNat]? =Hg x/\F ad.block/\Z8 c=size/\Cells w ad c/\r w F x c:=by
 have l:=h.len;have T:i.toNat<Z8 xs:=J
 obtain⟨b,c,g,a,d,e,f⟩:=h.at_ i.toNat _ (bH T);exact⟨_,_,c,⟨b,g,j,k,I⟩,bH T,by rw[ol];exact a,d,e,f⟩
def cM.ET{i}{a b}(h:cM s i size a)(k:cM s i size b):a=b:=by
 obtain⟨x,d,_,_,e⟩:=h;obtain⟨y,c,_,_,f⟩:=k;rw[d]at c;injection c with c;rw[e,f,c]
def SliceF.cut(a:SliceF r size w F s xs){lo hi m}(c:lo<=hi)(d:hi<=m)(e:hi<=s.n)(f:m<=s.c):SliceF r size w F (s.cut lo hi m size) ((xs.drop lo).take (hi-lo)):=by
 have l:=a.len;refine⟨?_,?_,λb=>?_,by have:=a.big;simp[Sl.cut];omega,λj x h=>?_⟩
 .simp[Sl.cut,cf,bZ];omega
 .simp[Sl.cut];omega
 .simp[Sl.cut]at b⊢;split at b
  .omega
  have:=a.nil0 (by simpa using b);omega
 rw[iX]at h;split at h
 .rw[gq]at h;obtain⟨s,g,i,k,m,n,o⟩:=a.at_ _ _ h;refine⟨s.add (lo*size),g,?_,by rw[ol];exact k,m,?_,o⟩
  .simp[Sl.cut];rw[W J,i];rfl
  rw[sf,<-fj];exact n
 cases h
end
structure BytesF (w:aw) (F:Nat->Prop) (s:Sl) (l:List UInt8):Prop where
 rd:uN w s l
 cap:s.n<=s.c
 blk:∀ad,s.a=Hg ad->l≠[]->F ad.block
section
variable {w w':aw} {F G:Nat->Prop} {s:Sl} {l:X UInt8}
def BytesF.mono(h:BytesF w F s l)(b:∀k,F k->G k):BytesF w G s l:=⟨h.rd,h.cap,λad a c=>b _ (h.blk ad a c)⟩
end
def jg{a:Type}(P:a->X ay->Prop):X a->X (X ay)->Prop
 | [],[]=>True
 | x::b,c::s=>P x c/\jg P b s
 | _,_=>False
section
variable {α:Type} {P Q:α->X ay->Prop}
def jg.len:∀{xs:X α} {css:X _},jg P xs css->Z8 xs=Z8 css
 | [],[],_=>rfl
 | x::xs,c::s,h=>by simp[jg.len (xs:=xs) (css:=s) h.2]
 | [],_::_,h=>h.elim
 | _::_,[],h=>h.elim
def jg.imp(h:∀x c,P x c->Q x c):∀{xs:X α} {css:X _},jg P xs css->jg Q xs css
 | [],[],_=>trivial
 | x::xs,c::s,a=>⟨h _ _ a.1,jg.imp h (xs:=xs) (css:=s) a.2⟩
 | [],_::_,a=>a.elim
 | _::_,[],a=>a.elim
def jg.Ef:∀{xs y:X α} {css I:X _},jg P xs css->jg P y I->jg P (xs++y) (css++I)
 | [],_,[],_,_,k=>k
 | x::xs,_,c::s,_,h,k=>⟨h.1,jg.Ef (xs:=xs) (css:=s) h.2 k⟩
 | [],_,_::_,_,h,_=>h.elim
 | _::_,_,[],_,h,_=>h.elim
def jg.get:∀{xs:X α} {css:X _},jg P xs css->∀{j:Nat} {x:α},xs[j]? =Hg x->∃s,css[j]? =Hg s/\P x s
 | [],[],_,j,x,h=>Gl
 | y::xs,c::s,k,0,x,h=>by
  simp at h;subst h;exact⟨c,I,k.1⟩
 | y::xs,c::s,k,j+1,x,h=>by
  exact jg.get (xs:=xs) (css:=s) k.2 h
 | [],_::_,h,_,_,_=>h.elim
 | _::_,[],h,_,_,_=>h.elim
def jg.mem:∀{xs:X α} {css:X _},jg P xs css->∀c,c∈css->∃x,P x c
 | [],[],_,c,h=>Gl
 | y::xs,d::s,k,c,h=>by
  rcases aZ.1 h with rfl | h
  .exact⟨y,k.1⟩
  exact jg.mem (xs:=xs) (css:=s) k.2 c h
 | [],_::_,h,_,_=>h.elim
 | _::_,[],h,_,_=>h.elim
def jg.take:∀n {xs:X α} {css:X _},jg P xs css->jg P (xs.take n) (css.take n)
 | 0,_,_,_=>by simp[jg]
 | _+1,[],[],_=>by simp[jg]
 | n+1,x::xs,c::s,h=>by simp;exact⟨h.1,jg.take n (xs:=xs) (css:=s) h.2⟩
 | _,[],_::_,h=>h.elim
 | _,_::_,[],h=>h.elim
def jg.set:∀{xs:X α} {css:X _} j {x:α} {c:X ay},jg P xs css->P x c->jg P (xs.set j x) (css.set j c)
 | [],[],_,_,_,_,_=>by simp[jg]
 | y::xs,d::s,0,x,c,h,k=>⟨k,h.2⟩
 | y::xs,d::s,j+1,x,c,h,k=>⟨h.1,jg.set (xs:=xs) (css:=s) j h.2 k⟩
 | [],_::_,_,_,_,h,_=>h.elim
 | _::_,[],_,_,_,h,_=>h.elim
end
def CN{s:X (X ay)}{size}(h:∀c,c∈s->Z8 c=size):Z8 s.flatten=Z8 s*size:=by
 induction s<;>grind
def N7{s:X _}{size}(h:∀c,c∈s->Z8 c=size):∀{j i:Nat} {a:X ay} {v:ay},s[j]? =Hg a->a[i]? =Hg v->s.flatten[j*size+i]? =Hg v:=by
 induction s with
 | nil=>intro j i a v b;simp at b
 | cons c a g=>
  intro j i d v f e;have b:=h c R;cases j<;>grind
def aiN{s:X (X ay)}{size}(h:∀c,c∈s->Z8 c=size):∀n,s.flatten.take (n*size)=(s.take n).flatten:=by
 induction s with
 | nil=>intro n;simp
 | cons c a i=>
  intro n;cases n with
  | zero=>simp
  | succ n=>
   rw[fk,fx,fk,List.take_append,<-i (λd hd=>h d (by simp[hd])),h c R,show _*size-size=n*size by rw[fj];omega,br RZ]
def ach{cs}{o}{v}(h:o<Z8 cs):eY cs o [v]=cs.set o v:=by
 rw[eY,List.set_eq_take_append_cons_drop,K h];simp
def fqG{size}{tail}{i}{v}:∀{s:X _} {n:Nat} {a:X ay},(∀c,c∈s->Z8 c=size)->s[n]? =Hg a->i<size->
  (s.flatten++tail).set (n*size+i) v=(s.set n (a.set i v)).flatten++tail
 | [],n,a,_,h,_=>by simp at h
 | c::s,0,a,h,n,i=>RZ
 | c::s,n+1,a,h,b,e=>by
  simp at b;simp;rw[sd _ _ RZ,h c R,show _*size+i-size=n*size+i by rw[fj];omega,fqG (tail:=tail) (v:=v) (λd hd=>h d (by simp[hd])) b e]
section
variable {w w':aw} {a:Addr} {cs ds:X ay}
def Cells.Ef(c:Cells w a cs)(k:Cells w (a.add (Z8 cs)) ds):Cells w a (cs++ds):=λj v h=>by
 by_cases b:j<Z8 cs
 .rw[ca b]at h;exact c j v h
 rw[cG J]at h;have:=k _ v h;rw[sf,show (Z8 cs)+_=j by omega]at this;exact this
def Cells.nil w a:Cells w a []:=λj v h=>by simp at h
end
section
variable {α:Type} {r:Rp α} {size:Nat} {w w':aw} {F G:Nat->Prop} {s y:Sl} {xs ys:X α} {e:TypeId} {B:Nat}
abbrev ql(r:Rp α)(size:Nat)(w:aw)(F:Nat->Prop):X α->X (X ay)->Prop:=jg λx c=>Z8 c=size/\r w F x c
def ql.sz{css}(h:ql r size w F xs css):∀c,c∈css->Z8 c=size:=λc b=>by
 obtain⟨_,a,_⟩:=h.mem c b;exact a
def ql.keep(c:r.Ok){css}(a:ql r size w F xs css)(b:∀k,F k->k<w.heap.size->w'.heap[k]? =w.heap[k]?):ql r size w' F xs css:=
 a.imp λ_ _ h=>⟨h.1,c.keep h.2 b⟩
def ql.mono(c:r.Ok){css}(a:ql r size w F xs css)(b:∀k,F k->G k):ql r size w G xs css:=
 a.imp λ_ _ h=>⟨h.1,c.mono h.2 b⟩
def ql.inHeap(b:r.Ok){css}(a:ql r size w F xs css):ql r size w (λk=>F k/\k<w.heap.size) xs css:=
 a.imp λ_ _ h=>⟨h.1,b.inHeap h.2⟩
def SliceF.WW{base:Addr}:∀xs k,(∀j x,xs[j]? =Hg x->∃s,Z8 s=size/\Cells w (base.add ((k+j)*size)) s/\r w F x s)->
  ∃c,ql r size w F xs c/\Cells w (base.add (k*size)) c.flatten
 | [],k,_=>⟨[],trivial,Cells.nil _ _⟩
 | x::xs,k,h=>by
  obtain⟨s,a,g,b⟩:=h 0 x I;obtain⟨c,e,f⟩:=SliceF.WW xs _ (λj y d=>by
   obtain⟨i,l,m,n⟩:=h (j+1) y (by simpa using d);exact⟨i,l,by rw[show k+1+j=k+(j+1) by omega];exact m,n⟩)
  refine⟨s::c,⟨⟨a,b⟩,e⟩,?_⟩;refine Cells.Ef J ?_;rw[sf,a,show k*size+size=(k+1)*size by rw[fj];omega];exact f
def SliceF.flat(h:SliceF r size w F s xs)(a:xs≠[]):∃b c,s.a=Hg b/\F b.block/\ql r size w F xs c/\Cells w b c.flatten:=by
 cases xs with
 | nil=>exact absurd I a
 | cons x xs=>
  obtain⟨b,_,d,e,_⟩:=h.at_ 0 x I;obtain⟨c,g,k⟩:=SliceF.WW (r:=r) (size:=size) (w:=w) (F:=F) (base:=b) _ 0 (λf y j=>by
   obtain⟨o,s,i,p,l,m,n⟩:=h.at_ f y j;rw[d]at i;injection i with i;subst i;exact⟨s,l,by simpa using m,n⟩)
  exact⟨b,c,d,e,g,by rw[wB]at k;exact k⟩
def SliceF.of{base}{css}(e:ql r size w F xs css)(b:s.a=Hg base)(c:F base.block)(d:Cells w base css.flatten)(n:s.n=Z8 xs)(q:s.n<=s.c)(h:s.c<=9223372036854775807):SliceF r size w F s xs:=
 ⟨n,q,λa=>(by rw[b]at a;cases a),h,λj x f=>by
  obtain⟨s,g,i,k⟩:=e.get f;exact⟨base,s,b,c,i,λm v l=>by rw[sf];exact d _ v (N7 e.sz g l),k⟩⟩
def Own(r:Rp α)(size:Nat)(e:TypeId)(B:Nat)(w:aw)(F:Nat->Prop)(s:Sl)(x:X α):Prop:=
 (s=Sl.nil/\x=[])∨∃g c tail,s.a=Hg ⟨g,0,ZQ⟩/\B<=g/\Blk w g e (c.flatten++tail)/\Z8 tail=(s.c-s.n)*size/\s.n=Z8 x/\s.n<=s.c/\s.c<=9223372036854775807/\ql r size w (λk=>F k/\k≠g) x c
def Own.len(h:Own r size e B w F s xs):s.n=Z8 xs:=by
 rcases h with⟨rfl,rfl⟩ | ⟨g,c,tail,_,_,_,_,h,_⟩<;>grind
def Own.cap(h:Own r size e B w F s xs):s.n<=s.c:=by
 rcases h with⟨rfl,rfl⟩ | ⟨g,c,tail,_,_,_,_,_,h,_,_⟩<;>grind
def Own.slice(l:r.Ok)(a:Own r size e B w F s xs):SliceF r size w (λk=>F k∨(B<=k/\s.a=Hg ⟨k,0,ZQ⟩)) s xs:=by
 rcases a with⟨rfl,rfl⟩ | ⟨m,c,tail,h,b,d,n,f,g,j,i⟩
 .exact RG _ _ _ _
 exact SliceF.of (i.mono l λk e=>.inl e.1) h (.inr ⟨b,h⟩) (d.cells 0 _ λp v o=>RZ) f g j
def Own.keep(o:r.Ok)(f:Own r size e B w F s xs)(d:∀k,(F k∨(B<=k/\s.a=Hg ⟨k,0,ZQ⟩))->k<w.heap.size->w'.heap[k]? =w.heap[k]?):Own r size e B w' F s xs:=by
 rcases f with⟨rfl,rfl⟩ | ⟨g,c,tail,h,a,b,i,j,l,n,m⟩
 .exact .inl ⟨I,I⟩
 exact .inr ⟨g,c,tail,h,a,(d g (.inr ⟨a,h⟩) b.lt).trans b,i,j,l,n,m.keep o λk F=>d k (.inl F.1)⟩
def Own.mono(o:r.Ok)(h:Own r size e B w F s xs)(n:∀k,F k->G k):Own r size e B w G s xs:=by
 rcases h with⟨rfl,rfl⟩ | ⟨g,c,tail,a,b,d,f,i,j,m,l⟩
 .exact .inl ⟨I,I⟩
 exact .inr ⟨g,c,tail,a,b,d,f,i,j,m,l.mono o λk h=>⟨n k h.1,h.2⟩⟩
def Own.low{B'}(h:Own r size e B w F s xs)(f:B'<=B):Own r size e B' w F s xs:=by
 rcases h with⟨rfl,rfl⟩ | ⟨g,c,tail,a,b,d⟩
 .exact .inl ⟨I,I⟩
 exact .inr ⟨g,c,tail,a,bp f b,d⟩
def Own.nil(r:Rp α) size e B w F:Own r size e B w F Sl.nil []:=.inl ⟨I,I⟩
def Vf:=@Own.nil
def Own.inHeap(a:r.Ok)(h:Own r size e B w F s xs):Own r size e B w (λk=>F k/\k<w.heap.size) s xs:=by
 rcases h with⟨rfl,rfl⟩ | ⟨g,c,tail,b,d,f,i,j,l,n,m⟩
 .exact .inl ⟨I,I⟩
 exact .inr ⟨g,c,tail,b,d,f,i,j,l,n,(m.inHeap a).mono a λk h=>⟨⟨h.1.1,h.2⟩,h.1.2⟩⟩
def Own.blk(a:Own r size e B w F s xs){ad}(h:s.a=Hg ad):B<=ad.block/\ad.block<w.heap.size:=by
 rcases a with⟨rfl,rfl⟩ | ⟨g,c,tail,b,d,f,_⟩
 .cases h
 rw[b]at h;injection h with h;subst h;exact⟨d,f.lt⟩
def SliceF.anf(h:SliceF r size w F s xs):∃c,ql r size w F xs c/\∀a,s.a=Hg a->Cells w a c.flatten:=by
 cases xs with
 | nil=>exact⟨[],trivial,λb _=>Cells.nil _ _⟩
 | cons x xs=>
  obtain⟨a,c,b,d,e,f⟩:=h.flat R
  grind
def ql.KY{css}(h:ql r size w F xs css):Z8 css.flatten=Z8 xs*size:=by rw[CN h.sz,h.len]
def ql.one(d:r.Ok){css}(a:ql r size w F xs css):∀v,v∈css.flatten->v.oneCell'=aF:=λv h=>by
 obtain⟨c,b,h⟩:=List.mem_flatten.1 h;obtain⟨x,_,e⟩:=a.mem c b;exact d.one e v h
def ajL(l m:X ay) z:(l.toArray++m.toArray++z)=(l++m++z.toList).toArray:=by
 simp
section
variable {P:Program} {t ty:TypeId} {i:TypeInfo} {z:ay} {bytes:Nat}
def yH(w:aw) k (Q:z.cells.size=size):(Builtin.zeroCells z.cells k).toList.length=k*size:=by
 rw[vq,size_zeroCells,Q]
def abG(C:P.underlying t=Hg (.slice e))(A:P.info? e=Hg i)(E:i.zero=Hg z)(tu:i.size=size)(l:i.bytes=bytes)(V:z.cells.size=size)
  (m:r.Ok) {a} (p:ql r size w F xs a) (H:∀d,s.a=Hg d->Cells w d a.flatten) (K:s.a=ZQ->s.c=0) (Y:s.n=Z8 xs) (f:s.n<=s.c)
  (D:SliceF r size w F y ys) (v:s.c<s.n+y.n) (B:(Z8 xs+Z8 ys)*bytes<=140737488355328) (S:0<bytes):
  ∃u w',(Builtin.append_ #[t,t] ty #[s.v,y.v]).run P w=.ok u.v w'/\Own r size e w.heap.size w' F u (xs++ys)/\Only [] w w'/\u.a=Hg ⟨w.heap.size,0,ZQ⟩:=by
 subst tu;subst l;have X:=bp (by have:=vu (Z8 xs+Z8 ys) S;omega) B;have h:=D.len;have n:y.n≠0:=J
 have x:ys≠[]:=λj=>n (by rw[h,j];rfl);obtain⟨N,o,L,m2,q,M⟩:=D.flat x;obtain⟨sa,sn,sc⟩:=s;obtain⟨ya,g,Q⟩:=y;dsimp only at Y f K h n v L H;subst L;have Z:∀gM T,gM=sn+g->∀W,W=w.drew.alloc (.cells (a.flatten.toArray++o.flatten.toArray++Builtin.zeroCells z.cells (grownCap w gM T e-gM)) e)->
   Own r i.size e w.heap.size W F ⟨Hg ⟨w.heap.size,0,ZQ⟩,gM,grownCap w gM T e⟩ (xs++ys)/\Only [] w W:=by
  rintro gM T rfl W rfl;have b:Only [] w (w.drew.alloc (.cells (a.flatten.toArray++o.flatten.toArray++Builtin.zeroCells z.cells (grownCap w (sn+g) T e-(sn+g))) e)):=(Only.drew w).cn (WJ _ _);refine⟨.inr ⟨w.heap.size,a++o,(Builtin.zeroCells z.cells _).toList,I,aX _,?_,yH w _ V,?_,grownCap_ge _ _ _ _,grownCap_le_maxLen _ _ _ _ (by simp[maxLen];omega),?_⟩,b⟩
  .rw[ajL,Ih];exact KC w.drew e _
  .simp;omega
  refine((ql.mono m (ql.inHeap m (jg.Ef p q)) (G:=λk=>F k/\k≠w.heap.size) λk j=>⟨j.1,J⟩)).keep m λk e c=>b.block k c R
 rcases sa with _|b
 .have f:=K I;subst f;have b:sn=0:=J
  subst b;have k:=bJ Y.symm;subst k;cases a with
  | cons c a=>exact p.elim
  | nil=>
   have y:=run_append_nil (P:=P) w t ty e i z C A E N g Q o.flatten (by rw[q.KY,h]) M J J RZ
   grind
 have y:=run_append_grow (P:=P) w t ty e i z C A E b sn sc a.flatten (by rw[p.KY,Y]) (H b I) N g Q o.flatten (by rw[q.KY,h]) M v J (growslice_fits v (by rw[Y,h];exact B))
 grind
def aiX(C:P.underlying t=Hg (.slice e))(u:P.info? e=Hg i)(M:i.size=size)
  (A:r.Ok) {g} {css} {tail} (p:s.a=Hg ⟨g,0,ZQ⟩) (G:B<=g) (d:Blk w g e (css.flatten++tail)) (K:Z8 tail=(s.c-s.n)*size) (z:s.n=Z8 xs) (q:s.n<=s.c) (b:s.c<=9223372036854775807)
  (E:ql r size w (λk=>F k/\k≠g) xs css) (f:SliceF r size w (λk=>F k/\k≠g) y ys) (v:s.n+y.n<=s.c):
  ∃w',(Builtin.append_ #[t,t] ty #[s.v,y.v]).run P w=.ok (Sl.v ⟨s.a,s.n+y.n,s.c⟩) w'/\Own r size e B w' F ⟨s.a,s.n+y.n,s.c⟩ (xs++ys)/\Only [g] w w':=by
 subst M;have h:=f.len;obtain⟨Q,sn,sc⟩:=s;obtain⟨a,n,D⟩:=y;dsimp only at p z q K v h;subst p;obtain⟨o,m,H⟩:=f.anf;have L:Z8 css.flatten=sn*i.size:=by rw[E.KY,z]
 have j:Z8 o.flatten=n*i.size:=by rw[m.KY,h]
 have R:sn*i.size+n*i.size<=sn*i.size+Z8 tail:=by
  rw[K,<-fj,<-fj];exact fM _ J
 have N:(Builtin.append_ #[t,t] ty #[.slice (Hg ⟨g,0,ZQ⟩) sn sc,.slice a n D]).run P w=
   .ok (.slice (Hg ⟨g,0,ZQ⟩) (sn+n) sc) (w.setRow g ((css.flatten++o.flatten)++tail.drop (n*i.size)).toArray):=by
  have k:((css.flatten++tail).toArray.toList.take (sn*i.size)++o.flatten++(css.flatten++tail).toArray.toList.drop (sn*i.size+Z8 o.flatten))=(css.flatten++o.flatten)++tail.drop (n*i.size):=by simp[lG,L,List.take_left,j,List.drop_append,List.drop_eq_nil_of_le,cb,eo]
  cases a with
  | some a=>
   have:=run_append_room (P:=P) w t ty e i C u g sn sc (css.flatten++tail).toArray d a n D o.flatten j (H a I) (m.one A) v RZ;rw[this,k]
  | none=>
   have r:ys=[]:=by
    cases ys with
    | nil=>rfl
    | cons x xs=>obtain⟨_,_,c,_⟩:=f.at_ 0 x I;cases c
   subst r;have y:=by simpa using h
   subst y;cases o with
   | cons c s=>exact m.elim
   | nil=>
    have B:w.setRow g ((css.flatten++([]).flatten)++tail.drop (0*i.size)).toArray=w:=by
     have:=setRow_self w g (css.flatten++tail).toArray e _ d;simpa using this
    rw[B];simp[Builtin.append_,run_underlying C,sizeOf,typeInfo,u,Builtin.lenOf,Builtin.firstCells,q,storeCells]
 have l:Only [g] w (w.setRow g ((css.flatten++o.flatten)++tail.drop (n*i.size)).toArray):=Zn _ _ _;refine⟨_,N,.inr ⟨g,css++o,tail.drop (n*i.size),I,G,?_,?_,?_,v,b,?_⟩,l⟩
 .rw[Ih];exact d.setRow _
 .rw[bZ,K,<-Nat.sub_mul];congr 1;dsimp only;omega
 .grind
 exact ql.keep A (jg.Ef E m) λk hk T=>l.block k T Ml
def tZ(l:P.underlying t=Hg (.slice e))(j:P.info? e=Hg i)(x:i.zero=Hg z)(u:i.size=size)(f:i.bytes=bytes)(Q:z.cells.size=size)
  (c:r.Ok) (d:Own r size e B w F s xs) (m:SliceF r size w (λk=>F k/\s.a≠Hg ⟨k,0,ZQ⟩) y ys) (p:B<=w.heap.size) (q:(Z8 xs+Z8 ys)*bytes<=140737488355328) (o:0<bytes):
  ∃a w',(Builtin.append_ #[t,t] ty #[s.v,y.v]).run P w=.ok a.v w'/\Own r size e B w' F a (xs++ys)/\∃b,Only b w w'/\(∀g,g∈b->s.a=Hg ⟨g,0,ZQ⟩/\B<=g/\g<w.heap.size)/\(a.a=s.a∨a.a=Hg ⟨w.heap.size,0,ZQ⟩):=by
 by_cases n:s.n+y.n<=s.c
 .rcases d with⟨rfl,rfl⟩ | ⟨g,s,tail,e,i,r,t,v,z,B,A⟩
  .have h:=by simpa using n
   have k:=by have:=m.len;rw[h]at this;exact bJ this.symm
   subst k;refine⟨Sl.nil,w,?_,.inl ⟨I,I⟩,[],EC _ _,R,.inl I⟩;obtain⟨C,E,D⟩:=y;dsimp only at h;subst h;cases C<;>simp[Builtin.append_,run_underlying l,sizeOf,typeInfo,j,Builtin.lenOf,Builtin.firstCells,loadCells,loadCellsFrom]
  obtain⟨w',C,D,k3⟩:=aiX (ty:=ty) l j u c e i r t v z B A (m.mono c λk y=>⟨y.1,λh=>y.2 (by rw[h,e])⟩) n;exact⟨_,w',C,D,[g],k3,λE w=>by simp at w;subst w;exact⟨e,i,r.lt⟩,.inl I⟩
 have Y:=d.len;have C:=d.cap;have D:SliceF r size w F y ys:=m.mono c λk A=>A.1;have go:∀z,ql r size w F xs z->(∀i,s.a=Hg i->Cells w i z.flatten)->(s.a=ZQ->s.c=0)->
   ∃a w',(Builtin.append_ #[t,t] ty #[s.v,y.v]).run P w=.ok a.v w'/\Own r size e B w' F a (xs++ys)/\∃b,Only b w w'/\(∀g,g∈b->s.a=Hg ⟨g,0,ZQ⟩/\B<=g/\g<w.heap.size)/\(a.a=s.a∨a.a=Hg ⟨w.heap.size,0,ZQ⟩):=by
  intro z T U k3;obtain⟨a,w',h,k,v,S⟩:=abG (ty:=ty) l j x u f Q c T U k3 Y C D J q o;exact⟨a,w',h,k.low p,[],v,R,.inr S⟩
 rcases d with⟨rfl,rfl⟩ | ⟨g,z,tail,E,K,G,L,M,N,O,H⟩
 .exact go [] trivial (λ_ h=>Rl) (λ_=>I)
 refine go z (H.mono c λk A=>A.1) (λi e=>?_) (λh=>by rw[E]at h;cases h);rw[E]at e;injection e with e;subst e;exact G.cells 0 _ λs v r=>by
  rw[bO,ca (bd.1 r).1];exact r
def kD(f:P.underlying t=Hg (.slice e))(c:P.info? e=Hg i)(j:i.zero=Hg z)(u:i.size=size)(h:0<size){vs:X ay}{len}{parts}
  (p:parts=((vs.zipIdx 0).map λx=>(x.2,x.1)).toArray) (d:Z8 vs=len) (l:0<len) (B:len*size<=16777216)
  (a:r.Ok) (E:ql r size w F xs (vs.map λv=>v.cells.toList)):
  ∃s w',(Instr.buildSlice t len parts).run P w=.ok (Sl.v s) w'/\Own r size e w.heap.size w' F s xs/\Only [] w w'/\s.a=Hg ⟨w.heap.size,0,ZQ⟩/\s.n=Z8 xs/\s.c=Z8 xs:=by
 subst u;subst p;subst d;have T:=by have:=E.len;rwa[bQ]at this
 have b:=λv g=>by
  have:=E.sz _ (oP.2 ⟨v,g,I⟩);simpa using this
 have y:=run_buildSlice (P:=P) w t e (Z8 vs) ((vs.zipIdx 0).map λx=>_).toArray (vs.flatMap λv=>v.cells.toList).toArray i z f c j J
  (by have:=Nat.mul_lt_mul_of_pos_left h l;omega)
  (by rw[lG];exact Go.Great.fill_whole h vs _ b R)
 have O:Only [] w (w.alloc (.cells (vs.flatMap λv=>v.cells.toList).toArray e)):=WJ _ _;refine⟨⟨Hg _,Z8 vs,Z8 vs⟩,_,y,.inr ⟨w.heap.size,vs.map (λv=>v.cells.toList),[],I,aX _,?_,R,T.symm,aX _,?_,?_⟩,O,I,T.symm,T.symm⟩
 .rw[bD];exact KC w e _
 .have:Z8 vs<=Z8 vs*i.size:=Nat.le_mul_of_pos_right _ h;dsimp only;omega
 exact((ql.mono a (ql.inHeap a E) (G:=λk=>F k/\k≠w.heap.size) λk i=>⟨i.1,J⟩)).keep a λk m e=>O.block k e R
end
end
def nB:Rp UInt8:=λ_ _ b c=>c=[jk b]
def si:nB.Ok where
 keep h _:=h
 inHeap h:=h
 mono h _:=h
 one h v hv:=by
  rw[show _=[jk _]from h]at hv;simp at hv;subst hv;rfl
def SliceF.bytes{w}{F}{s}{l}(h:SliceF nB 1 w F s l):BytesF w F s l:=
 ⟨⟨h.len,λa=>by
  obtain⟨e,s,d,f,g,i⟩:=h.flat a;refine⟨e,d,?_⟩;have:∀l s,ql nB 1 w F l s->s.flatten=l.map jk:=by
   intro l
   induction l with
   | nil=>intro s h;cases s with
    | nil=>rfl
    | cons c b=>exact h.elim
   | cons b l k=>intro s h;cases s with
    | nil=>exact h.elim
    | cons c m=>
     obtain⟨⟨_,d⟩,f⟩:=h;rw[fk,k m f,show c=[jk b]from d];rfl
  rw[<-this l s g];exact i⟩,h.cap,λad j a=>by
   obtain⟨e,s,d,f,_⟩:=h.flat a;rw[j]at d;injection d with d;rw[d];exact f⟩
def yI:Rp Int:=λ_ _ x c=>c=[.int .i64 x]/\rX x
def my:yI.Ok where
 keep h _:=h
 inHeap h:=h
 mono h _:=h
 one h v hv:=by
  rw[h.1]at hv;simp at hv;subst hv;rfl
structure OnlyP (F:Nat->Prop) (w w':aw):Prop where
 os:w'.os=w.os
 tape:w'.tape=w.tape
 output:w'.output=w.output
 size:w.heap.size<=w'.heap.size
 block:∀k,k<w.heap.size->¬F k->w'.heap[k]? =w.heap[k]?
section
variable {w w' tQ:aw} {F G:Nat->Prop} {bs:X Nat}
def Only.p(h:Only bs w w')(a:∀b,b∈bs->F b∨w.heap.size<=b):OnlyP F w w':=
 ⟨h.os,h.tape,h.output,h.size,λk c n=>h.block k c λm=>(a k m).elim n λh=>J⟩
def Only.p0(h:Only [] w w'):OnlyP F w w':=h.p R
def OnlyP.refl F w:OnlyP F w w:=(EC [] w).p0
def Jk:=@OnlyP.refl
def OnlyP.mono(h:OnlyP F w w')(b:∀k,k<w.heap.size->F k->G k):OnlyP G w w':=⟨h.os,h.tape,h.output,h.size,λk a n=>h.block k a λf=>n (b k a f)⟩
def OnlyP.trans(h:OnlyP F w w')(k:OnlyP G w' tQ)(b:∀k,G k->F k∨w.heap.size<=k):OnlyP F w tQ:=
 ⟨k.os.trans h.os,k.tape.trans h.tape,k.output.trans h.output,bp h.size k.size,λi a n=>
  (k.block i (cD a h.size) λg=>(b i g).elim n λh=>J).trans (h.block i a n)⟩
def OnlyP.cn(h:OnlyP F w w')(k:Only [] w' tQ):OnlyP F w tQ:=h.trans (k.p0 (F:=λ_=>False)) λ_ h=>h.elim
def Only.AY(h:Only [] w w')(k:OnlyP F w' tQ):OnlyP F w tQ:=(h.p0 (F:=F)).trans k λ_ h=>.inl h
def OnlyP.only(h:OnlyP F w w')(b:∀k,F k->w.heap.size<=k):Only [] w w':=
 ⟨h.os,h.tape,h.output,h.size,λk a _=>h.block k a λf=>by have:=b k f;omega⟩
def OnlyP.ang(h:OnlyP F w w')(b:∀k,F k->k∈bs∨w.heap.size<=k):Only bs w w':=
 ⟨h.os,h.tape,h.output,h.size,λk a n=>h.block k a λf=>(b k f).elim n λh=>J⟩
def OnlyP.same(b:OnlyP F w w')(h:∀x,x∈bs->x<w.heap.size/\¬F x):cF bs w w':=λx a=>b.block x (h x a).1 (h x a).2
def OnlyP.blk(a:OnlyP F w w'){b}{t}{cs}(h:Blk w b t cs)(n:¬F b):Blk w' b t cs:=(a.block b h.lt n).trans h
end
section
variable {α:Type} {r:Rp α} {size:Nat} {w w':aw} {F G:Nat->Prop} {s:Sl} {xs:X α} {e:TypeId} {B:Nat} {bs:X Nat}
def SliceF.only(e:r.Ok)(a:0<size)(h:SliceF r size w F s xs)(O:Only bs w w')(d:∀k,F k->k<w.heap.size->k∉bs):SliceF r size w' F s xs:=
 h.keep e a λk c b=>O.block k b (d k c b)
def Aw:=@SliceF.only
def SliceF.tq(e:r.Ok)(a:0<size)(h:SliceF r size w F s xs)(O:OnlyP G w w')(d:∀k,F k->k<w.heap.size->¬G k):SliceF r size w' F s xs:=
 h.keep e a λk c b=>O.block k b (d k c b)
def Rx:=@SliceF.tq
def Rp.Ok.only(d:r.Ok){x}{cs}(h:r w F x cs)(O:Only bs w w')(c:∀k,F k->k<w.heap.size->k∉bs):r w' F x cs:=d.keep h λk a b=>O.block k b (c k a b)
def ql.at(h:∃c,ql r size w F xs c):True:=trivial
def ql.setAt{css}(h:ql r size w F xs css) j {x} {c} (a:Z8 c=size) (b:r w F x c):ql r size w F (xs.set j x) (css.set j c):=jg.set j h ⟨a,b⟩
def mLs{s:X _}{tail}:∀{n:Nat} {a v:X ay},(∀c,c∈s->Z8 c=size)->s[n]? =Hg a->Z8 v=size->
  eY (s.flatten++tail) (n*size) v=(s.set n v).flatten++tail:=by
 induction s with
 | nil=>intro n a v _ h;simp at h
 | cons c s i=>
  intro n a v h b f;have g:=h c R;cases n with
  | zero=>
   simp[eY];simp_all
  | succ n=>
   have:=i (λd hd=>h d (by simp[hd])) b f;have e:(n+1)*size=Z8 c+n*size:=RZ
   simp only[eY]at this⊢;simp;rw[e,Zl,fI,<-this];simp
end
section
variable {α:Type} {r:Rp α} {size:Nat} {w w':aw} {F G:Nat->Prop} {s:Sl} {xs:X α} {e:TypeId} {B:Nat} {P:Program} {t ty:TypeId} {i:TypeInfo} {z v:ay} {bytes:Nat} {x:α}
def jy(u:P.underlying t=Hg (.slice e))(q:P.info? e=Hg i)(A:i.zero=Hg z)(C:i.size=size)(m:i.bytes=bytes)(Q:z.cells.size=size)(M:0<size)(D:0<bytes)(Y:1*size<=16777216)
  (a:r.Ok) (o:Own r size e B w F s xs) (N:B<=w.heap.size) (S:Z8 v.cells.toList=size) (U:r w G x v.cells.toList) (p:∀k,G k->k<w.heap.size->F k/\s.a≠Hg ⟨k,0,ZQ⟩) (O:(Z8 xs+1)*bytes<=140737488355328):
  ∃y b,(Instr.buildSlice t 1 #[(0,v)]).run P w=.ok (Sl.v y) b/\Only [] w b/\∃c d,(Builtin.append_ #[t,t] ty #[Sl.v s,Sl.v y]).run P b=.ok (Sl.v c) d/\
   Own r size e B d (λk=>F k∨w.heap.size<=k) c (xs++[x])/\(∃f,Only f b d/\∀g,g∈f->s.a=Hg ⟨g,0,ZQ⟩/\B<=g/\g<w.heap.size)/\(c.a=s.a∨∃g,c.a=Hg ⟨g,0,ZQ⟩/\w.heap.size<=g):=by
 obtain⟨y,b,W,X,k3,k4,k5,k6⟩:=kD (P:=P) (t:=t) (e:=e) (i:=i) (z:=z) (w:=w) (F:=λk=>G k/\k<w.heap.size) (vs:=[v]) (parts:=#[_]) (len:=1) (xs:=[x]) (r:=r) (size:=size) u q A C M I I Z Y a ⟨⟨S,a.inHeap U⟩,trivial⟩;have K:Own r size e B b (λk=>F k∨w.heap.size<=k) s xs:=((o.inHeap a).keep a λk _ T=>k3.block k T R).mono a λk h=>.inl h.1;have V:=(X.slice a).mono a (G:=λk=>(F k∨w.heap.size<=k)/\s.a≠Hg _) λk h=>by
  rcases h with⟨h,T⟩ | ⟨h,_⟩
  .exact⟨.inl (p k h T).1,(p k h T).2⟩
  exact⟨.inr h,λe=>by have:=(o.blk e).2;dsimp only at this;omega⟩
 obtain⟨c,d,E,H,f,J,j,L⟩:=tZ (ty:=ty) u q A C m Q a K V (bp N k3.size) O D;refine⟨y,b,W,k3,c,d,E,H,⟨f,J,λg n=>⟨(j g n).1,(j g n).2.1,(o.blk (j g n).1).2⟩⟩,?_⟩;rcases L with l | l
 .exact .inl l
 exact .inr ⟨_,l,k3.size⟩
def Own.store(a:r.Ok)(o:Own r size e B w F s xs){n}(m:n<Z8 xs){x}{vs}(v:Z8 vs=size)(p:r w G x vs)(u:∀k,G k->k<w.heap.size->F k/\s.a≠Hg ⟨k,0,ZQ⟩)(q:0<size):
  ∃g cells,s.a=Hg ⟨g,0,ZQ⟩/\cM s n size ⟨g,n*size,ZQ⟩/\Blk w g e cells/\n*size+size<=Z8 cells/\
   ∀w',Only [g] w w'->Blk w' g e (eY cells (n*size) vs)->Own r size e B w' F s (xs.set n x):=by
 rcases o with⟨rfl,rfl⟩ | ⟨g,c,tail,b,d,f,i,t,j,l,h⟩
 .simp at m
 have U:=h.len;have P:n<Z8 c:=J
 have r:=CN h.sz;have y:=by
  have:=fM size (show n+1<=(Z8 c) by omega);rw[fj]at this;omega
 refine⟨g,_,b,⟨_,b,J,J,by rw[gW,aW,bO]⟩,f,RZ,λw' O e=>.inr ⟨g,c.set n vs,tail,b,d,?_,i,RZ,j,l,?_⟩⟩
 .rw[mLs h.sz (bH P) v]at e;exact e
 refine ql.setAt (h.keep a λk hk T=>O.block k T Ml) n v (a.keep (w:=w) (F:=λk=>F k/\k≠g) ?_ λk hk T=>O.block k T Ml);refine a.mono (a.inHeap p) λk hk=>?_
 grind
end
def Own.anh{α}{r}{size}{w}{F}{s}{xs}{e}{B}(b:r.Ok)(p:Own r size e B w F s xs){n:Nat}{x:α}(f:xs[n]? =Hg x):
  ∃g cells c,s.a=Hg ⟨g,0,ZQ⟩/\cM s n size ⟨g,n*size,ZQ⟩/\Blk w g e cells/\Z8 c=size/\Cells w ⟨g,n*size,ZQ⟩ c/\r w (λk=>F k/\k≠g) x c/\
   ∀off v y G,off<size->r w G y (c.set off v)->(∀k,G k->k<w.heap.size->F k/\k≠g)->
    n*size+off+1<=Z8 cells/\∀k,Only [g] w k->Blk k g e (eY cells (n*size+off) [v])->Own r size e B k F s (xs.set n y):=by
 rcases p with⟨rfl,rfl⟩ | ⟨g,a,tail,d,j,i,l,q,m,o,h⟩
 .simp at f
 obtain⟨c,r,x,k3⟩:=h.get f;have U:=h.len;have A:=(bd.1 f).1;have s:=CN h.sz;have D:=by
  have:=fM size (show n+1<=(Z8 a) by omega);rw[fj]at this;omega
 refine⟨g,_,c,d,⟨_,d,J,J,by rw[gW,aW,bO]⟩,i,x,i.cells _ _ λB v t=>?_,k3,λoff v y z u w G=>⟨RZ,λC O e=>.inr ⟨g,a.set n (c.set off v),tail,d,j,?_,l,RZ,m,o,?_⟩⟩⟩
 .have:=N7 h.sz r t
  grind
 .rw[ach RZ,fqG h.sz r u]at e;exact e
 refine ql.setAt (h.keep b λk hk T=>O.block k T Ml) n RZ ?_;refine b.mono (b.keep (b.inHeap w) λk hk T=>O.block k T RZ) λk hk=>G k hk.1 hk.2
def jg.abk{α}{P Q}:∀{xs:X α} {css:X _},(∀x c,x∈xs->P x c->Q x c)->jg P xs css->jg Q xs css
 | [],[],_,_=>trivial
 | x::xs,c::s,i,h=>⟨i _ _ R h.1,jg.abk (xs:=xs) (css:=s) (λy d a=>i y d (by simp[a])) h.2⟩
 | [],_::_,_,h=>h.elim
 | _::_,[],_,h=>h.elim
section
variable {P:Program} {w:aw}
def frD{z}(e:∀v,v∈z->v.oneCell'=aF)(a:0<z.size) n:∀v,v∈(Builtin.zeroCells z n).toList->v.oneCell'=aF:=λv d=>by
 have h:=J
 simp[Builtin.zeroCells]at h;obtain⟨i,c,rfl⟩:=h;have b:i % z.size<z.size:=Nat.mod_lt _ a
 grind
def kFr{t e ty}{z}(a:P.underlying t=Hg (.slice e))(d:∀w,(zeroValue e).run P w=.ok z w)(h:∀v,v∈z.cells->v.oneCell'=aF)(Y:0<z.cells.size){g o n c}{bt}{cs}(f:0<n)
  (b:Blk w g bt cs) (i:o+n*z.cells.size<=Z8 cs):
  (Builtin.clear_ #[t] ty #[.slice (Hg ⟨g,o,ZQ⟩) n c]).run P w=.ok (.tuple #[]) (w.setRow g (cs.take o++(Builtin.zeroCells z.cells n).toList++cs.drop (o+n*z.cells.size)).toArray):=by
 have l:(Builtin.zeroCells z.cells n).toList.length=n*z.cells.size:=by rw[vq,size_zeroCells]
 have k:=run_storeCells_at P g o bt (Builtin.zeroCells z.cells n).toList 0 cs.toArray w b RZ (frD h Y n);simp[l]at k;obtain⟨m,rfl⟩:∃m,n=m+1:=⟨n-1,J⟩
 simp[Builtin.clear_,run_underlying a,d,k]
def Own.clear{α}{r:Rp α}{size}{F}{s}{xs}{e}{B}{t ty}{z}(y:r.Ok)(E:0<size)(C:P.underlying t=Hg (.slice e))(D:∀w,(zeroValue e).run P w=.ok z w)(u:∀v,v∈z.cells->v.oneCell'=aF)(Q:z.cells.size=size)
  (A:Own r size e B w F s xs) {i} (x:i<Z8 xs):
  ∃d g,(Builtin.clear_ #[t] ty #[Sl.v (Sl.cut s i s.n s.c size)]).run P w=.ok (.tuple #[]) d/\s.a=Hg ⟨g,0,ZQ⟩/\Only [g] w d/\Own r size e B d F (Sl.cut s 0 i s.c size) (xs.take i):=by
 rcases A with⟨rfl,rfl⟩ | ⟨g,a,tail,f,p,h,j,l,q,m,b⟩
 .simp at x
 obtain⟨F,sn,sc⟩:=s;dsimp only at f j l q m;subst f;have v:=b.KY;have K:Sl.cut ⟨Hg ⟨g,0,ZQ⟩,sn,sc⟩ i sn sc size=⟨Hg ⟨g,i*size,ZQ⟩,sn-i,sc-i⟩:=by
  simp[Sl.cut];rw[W J];simp[gW]
 have B:i*size+(sn-i)*size=sn*size:=by rw[<-fj];congr 1;omega
 have O:=Zn w g (((a.flatten++tail).take (i*size)++(Builtin.zeroCells z.cells (sn-i)).toList++(a.flatten++tail).drop (i*size+(sn-i)*z.cells.size)).toArray);refine⟨_,g,by rw[K];exact kFr (P:=P) (w:=w) (t:=t) (ty:=ty) C D u J (g:=g) (o:=i*size) (n:=sn-i) (c:=sc-i) J h RZ,I,O,?_⟩;have e:Sl.cut ⟨Hg ⟨g,0,ZQ⟩,sn,sc⟩ 0 i sc size=⟨Hg ⟨g,0,ZQ⟩,i,sc⟩:=by simp[Sl.cut,Addr.add]
 rw[e];have U:(a.flatten++tail).take (i*size)=(a.take i).flatten:=by
  rw[uM RZ,aiN b.sz]
 refine .inr ⟨g,a.take i,(Builtin.zeroCells z.cells (sn-i)).toList++(a.flatten++tail).drop (i*size+(sn-i)*z.cells.size),I,p,?_,?_,?_,Sb,m,?_⟩
 .have:=h.setRow ((a.flatten++tail).take (i*size)++(Builtin.zeroCells z.cells (sn-i)).toList++(a.flatten++tail).drop (i*size+(sn-i)*z.cells.size))
  grind
 .simp only[aP,bZ,v,<-l,vq,size_zeroCells,j,Q,B];rw[eo,<-fj];congr 1;omega
 .rw[cf];dsimp only;omega
 refine ql.keep y (jg.take i b) λk hk T=>O.block k T Ml
end
def acx l m:((⟨List.toArray l⟩:ByteArray).toList==(⟨List.toArray m⟩:ByteArray).toList)=VM (l=m):=by
 by_cases h:l=m<;>simp[h]
end Go.Kt
namespace Go.Kt
open Go renaming World->aw,Value->ay
open Go Go.RowKit Go.MapKept
structure MapI (w:aw) (r:Nat) (m:Int->Option Int):Prop where
 mem:∃es clock,w.heap[r]? =Hg (.map es clock)/\(∀x,x∈es.toList->∃k v,x.key=.int .i64 k/\x.val=.int .i64 v)/\es.toList.Pairwise (λx y=>x.key≠y.key)/\
  ∀k v,m k=Hg v↔∃x,x∈es.toList/\x.key=.int .i64 k/\x.val=.int .i64 v
section
variable {P:Program} {w w':aw} {r:Nat} {m:Int->Option Int} {mty kt et:TypeId}
def MapI.keep(h:MapI w r m)(k:w'.heap[r]? =w.heap[r]?):MapI w' r m:=by
 obtain⟨e,c,a,b⟩:=h.mem;exact⟨e,c,k.trans a,b⟩
def MapI.lt(h:MapI w r m):r<w.heap.size:=by
 obtain⟨e,c,a,b⟩:=h.mem;exact(nV.1 a).1
def MapI.only(h:MapI w r m){bs}(O:Only bs w w')(n:r∉bs):MapI w' r m:=h.keep (O.block r h.lt n)
def ge0{w}{r}{o o'}(h:w.heap[r]? =Hg o):Only [r] w {w with heap:=w.heap.setIfInBounds r o'}:=
 ⟨I,I,I,R,λk _ hn=>(heap_set h).2 k Uq⟩
def ok0{a:Type}{l:X a}{j}{f}{e}(h:l[j]? =Hg e):l.modify j f=l.set j (f e):=by
 apply im;intro i;rw[List.getElem?_modify,N2];by_cases v:j=i
 .subst v;rw[K I,K (bd.1 h).1,h];simp
 cases l[i]? <;>simp[v]
end
end Go.Kt
namespace Go.Kt
open Go renaming World->aw,Value->ay
open Go Go.RowKit
@[reducible] def T(l:List UInt8):ByteArray:=⟨l.toArray⟩
def T_of s:s=T s.data.toList:=rfl
def cH l:(T l).size=Z8 l:=rfl
def pR l (i:Nat):(T l)[i]? =l[i]? :=by
 by_cases h:i<Z8 l
 .rw[bH h,getElem?_pos _ i _];rfl
 rw[cR J,getElem?_neg _ i (by rw[cH];exact h)]
def vE l a b:(T l).extract a b=T ((l.drop a).take (b-a)):=by
 rw[T_of ((T l).extract a b),Lib.extract_data]
def fD l m:T l++T m=T (l++m):=rfl
def iC l m:((T l).toList==(T m).toList)=VM (l=m):=acx l m
def xj(u:Nat->ay):X (Nat×ay)->Nat->ay
 | [],i=>u i
 | (k,v)::r,i=>bif Nat.beq k i then v else xj u r i
def Be:X (Nat×ay)->Nat->Option ay
 | [],_=>ZQ
 | (k,v)::r,i=>bif Nat.beq k i then Hg v else Be r i
def Zz(u:Nat->ay)(l:X (Nat×ay)):Nat->Nat->X ay
 | 0,_=>[]
 | n+1,i=>xj u l i::Zz u l n (i+1)
def fr(n:Nat)(u:Nat->ay)(l:X (Nat×ay)):Act:=⟨(Zz u l n 0).toArray,[]⟩
def evO(n:Nat)(l:X (Nat×ay)):Operand->Option ay
 | .tmp k=>bif Nat.blt k n then Be l k else ZQ
 | .const v=>Hg v
 | .global g=>Hg (.pointer (Hg ⟨g,0,ZQ⟩))
 | .func f=>Hg (.func (.func f) #[] #[])
def pl:Option Tmp->ay->X (Nat×ay)->X (Nat×ay)
 | some k,v,l=>(k,v)::l
 | none,_,l=>l
def Gv:Nat->X ay->X (Nat×ay)
 | _,[]=>[]
 | i,v::r=>(i,v)::Gv (i+1) r
section
variable {n0:Nat} {us0:Nat->ay} {l0:X (Nat×ay)}
def pY(u:Nat->ay)(l:X (Nat×ay)):∀n i,Z8 (Zz u l n i)=n
 | 0,_=>rfl
 | n+1,i=>by simp only[Zz,aY,pY u l n (i+1)]
def oX(u:Nat->ay)(l:X (Nat×ay)):∀n i k,k<n->(Zz u l n i)[k]? =Hg (xj u l (i+k))
 | 0,_,_,h=>J
 | n+1,i,0,_=>rfl
 | n+1,i,k+1,h=>by
  simp only[Zz,dE];rw[oX u l n (i+1) k J,show i+1+k=i+(k+1) by omega]
def wG{u:Nat->ay}:∀{l:X (Nat×ay)} {k:Nat} {v:ay},Be l k=Hg v->xj u l k=v
 | [],_,_,h=>Rl
 | (j,a)::r,k,v,h=>by
  simp only[Be,xj]at h⊢;cases b:Nat.beq j k
  .rw[b]at h;exact wG (l:=r) Zp
  rw[b]at h;simpa using h
def Gw{u:Nat->ay}:∀{l:X (Nat×ay)} {k:Nat},Be l k=ZQ->xj u l k=u k
 | [],_,_=>rfl
 | (j,a)::r,k,h=>by
  simp only[Be,xj]at h⊢;cases b:Nat.beq j k
  .rw[b]at h;exact Gw (l:=r) Zp
  rw[b]at h;simp at h
def agC{k:Nat}(h:k<n0):(fr n0 us0 l0).eval (.tmp k)=xj us0 l0 k:=by
 show(Zz us0 l0 n0 0).toArray.getD k undef=_;rw[Array.getD_eq_getD_getElem?,El,oX _ _ _ _ _ h,bO];rfl
def evE{x:Operand}{v:ay}(h:evO n0 l0 x=Hg v):(fr n0 us0 l0).eval x=v:=by
 cases x with
 | tmp k=>
  simp only[evO]at h;cases b:Nat.blt k n0
  .rw[b]at h;cases h
  rw[b]at h;rw[agC (eG b)];exact wG h
 | const u=>simpa[evO,Act.eval]using h
 | global g=>simpa[evO,Act.eval]using h
 | func f=>simpa[evO,Act.eval]using h
def aee{u:Nat->ay}{l:X (Nat×ay)}{k i:Nat}{v:ay}(h:k≠i):xj u ((k,v)::l) i=xj u l i:=by
 have:Nat.beq k i=aM:=by
  cases b:Nat.beq k i
  .rfl
  exact absurd (dh b) h
 simp only[xj,this,cond_false]
def yK{u:Nat->ay}{l:X (Nat×ay)}{k:Nat}{v:ay}:xj u ((k,v)::l) k=v:=by
 simp only[xj,Nat.beq_refl,cond_true]
def ajM{k:Nat}{v:ay}:(fr n0 us0 l0).put (Hg k) v=fr n0 us0 ((k,v)::l0):=by
 unfold fr;rw[ahE];congr 2;apply im;intro i;rw[N2,pY];by_cases h:i<n0
 .rw[oX _ _ _ _ _ h,oX _ _ _ _ _ h,bO];split
  .rename_i a;subst a;rw[K h,yK]
  rename_i a;rw[aee a]
 rw[cR (by rw[pY];omega),cR (by rw[pY];omega)];split
 .rename_i a;subst a;rw[W h]
 rfl
def aq8{d:Option Tmp}{v:ay}:(fr n0 us0 l0).put d v=fr n0 us0 (pl d v l0):=by
 rcases d with _|k
 .rfl
 exact ajM
def afn:∀(a:X ay) (j i:Nat),xj (λ_=>undef) (Gv j a) i=if j<=i then(a[i-j]?).getD undef else undef
 | [],j,i=>by simp[Gv,xj]
 | v::r,j,i=>by
  simp only[Gv];by_cases C:j=i
  .subst C;rw[yK,K (aX _)];simp
  rw[aee C,afn r (j+1) i];by_cases y:j<=i
  .rw[K y,K J,show i-j=(i-(j+1))+1 by omega,dE]
  rw[W y,W J]
end
section
variable {P:Program} {ops:Array Oper} {Q:Exit->Act->aw->Prop} {rest:X Oper} {w w':aw} {n0:Nat} {us0:Nat->ay} {l0:X (Nat×ay)}
def QA:ay->Option L
 | .bool b=>Hg b
 | _=>ZQ
def IR{e:X Oper}{j d:Nat}{o:Oper}{v:ay}(a:iB e j=Hg o)(c:o.dst=Hg d)(h:evO n0 l0 (.tmp d)=Hg v):
  yielded e.toArray (fr n0 us0 l0).tmps j=QA v:=by
 rw[kY]at a;have hd:d<n0:=by
  simp only[evO]at h;cases f:Nat.blt d n0
  .rw[f]at h;cases h
  exact eG f
 have b:=evE (us0:=us0) h;rw[agC hd]at b;have:(fr n0 us0 l0).tmps[d]? =Hg v:=by
  show(Zz us0 l0 n0 0).toArray[d]? =_;rw[El,oX _ _ _ _ _ hd,bO,b]
 simp only[yielded,El,a,Option.bind_some,c,this];cases v<;>rfl
def wtF{o a:Oper}{J:X Oper}{j d:Nat}{w b r:L}(h:o.guard=Hg (j,w))(c:iB J j=Hg a)(f:a.dst=Hg d)
  (g:evO n0 l0 (.tmp d)=Hg (.bool b)) (i:(b==w)=r):Region.wanted o (yielded J.toArray (fr n0 us0 l0).tmps)=r:=by
 subst i;have e:=IR (us0:=us0) c f g;simp only[Region.wanted,h,e,QA];cases b<;>cases w<;>rfl
def wuF{o a:Oper}{J:X Oper}{j d:Nat}{want:L}(h:o.guard=Hg (j,want))(b:iB J j=Hg a)(c:a.dst=Hg d)
  (f:evO n0 l0 (.tmp d)=Hg undef):Region.wanted o (yielded J.toArray (fr n0 us0 l0).tmps)=aM:=by
 have e:=IR (us0:=us0) b c f;simp[Region.wanted,h,e,undef,QA]
def pg{x y:Option Addr}(h:x=y):Hg (Value.pointer x)=Hg (.pointer y):=by rw[h]
def ag{x y:Addr}(h:x=y):Hg (Value.pointer (Hg x))=Hg (.pointer (Hg y)):=by rw[h]
def bg{x y:L}(h:x=y):Hg (Value.bool x)=Hg (.bool y):=by rw[h]
def sn{op:Op}{t:TypeId}{p:String}{a:Array Edge}{v:ay}(r:(execOp (fr n0 us0 l0).eval ⟨ZQ,op,t,p,a,ZQ⟩).run P w=.ok (.value v) w)
 (h:wpList P ops Q rest (fr n0 us0 l0) w):wpList P ops Q (⟨ZQ,op,t,p,a,ZQ⟩::rest) (fr n0 us0 l0) w:=L9 v (wn I) r (f3 _ _) h
section
variable {md:Region.Mode} {E:Nat->aw->aw->Prop} {F:aw->Prop}
def acy(i:Nat){e:X Oper}{d:Option Tmp}{op:Op}{t:TypeId}{p:String}{f:Array Edge}{g:Option (Nat×L)}{jG:Nat}{b:Array L}(D N:X Nat)(F:aw->Prop){v:ay}(z:iB e i=Hg ⟨d,op,t,p,f,g⟩)
  (h:(Region.noSelect e.toArray&&Region.free md e.toArray b i&&(Region.ready md e.toArray b).contains i&&wF md e.toArray b&&tX md e.toArray i [] D&&(N.all λk=>b.getD k aF))=aF)
  (y:∀c a w,Q (.panic c) (Act.put a d v) w->Q (.panic c) a w) (B:∀j w w',j∉D->j∉N->F w->E j w w'->F w') (l:∀w,F w->E i w w) (x:F w)
  (A:YieldsIf P e.toArray F ⟨d,op,t,p,f,g⟩ v (fr n0 us0 l0))
  (u:gf P md e.toArray Q E jG (b.setIfInBounds i aF) (fr n0 us0 (pl d v l0)) w):gf P md e.toArray Q E (jG+1) b (fr n0 us0 l0) w:=by
 simp only[H]at h;obtain⟨⟨⟨⟨⟨m,n⟩,o⟩,q⟩,r⟩,s⟩:=h;exact Mm i D N v F z m n o q r s y B l x A aq8 u
def eL(i:Nat){e:X Oper}{d:Option Tmp}{op:Op}{t:TypeId}{p:String}{f:Array Edge}{g:Option (Nat×L)}{jG:Nat}{b:Array L}{l:X (Nat×X Nat)}(D N:X Nat)(F:aw->Prop){v:ay}(q:iB e i=Hg ⟨d,op,t,p,f,g⟩)
  (r:l.lookup i=ZQ) (s:∀j w w',j∉D->j∉N->F w->EL l j w w'->F w') (m:F w)
  (y:YieldsIf P e.toArray F ⟨d,op,t,p,f,g⟩ v (fr n0 us0 l0))
  (h:gf P md e.toArray Q (EL l) jG (b.setIfInBounds i aF) (fr n0 us0 (pl d v l0)) w)
  (o:(Region.noSelect e.toArray&&Region.free md e.toArray b i&&(Region.ready md e.toArray b).contains i&&wF md e.toArray b&&tX md e.toArray i [] D&&(N.all λk=>b.getD k aF))=aF:=by kernel_rfl)
  (n:∀c a w,Q (.panic c) (Act.put a d v) w->Q (.panic c) a w:=by exact λ_ _ _ h=>h):gf P md e.toArray Q (EL l) (jG+1) b (fr n0 us0 l0) w:=
 acy i D N F q o n s (λw _=>aeL r w) m y h
def eN(i:Nat){e:X Oper}{d:Option Tmp}{op:Op}{t:TypeId}{p:String}{f:Array Edge}{g:Option (Nat×L)}{jG:Nat}{b:Array L}{l:X (Nat×X Nat)}(o:iB e i=Hg ⟨d,op,t,p,f,g⟩)
  (E:∀w,EL l i w w) (n:Region.wanted ⟨d,op,t,p,f,g⟩ (yielded e.toArray (fr n0 us0 l0).tmps)=aM)
  (h:gf P md e.toArray Q (EL l) jG (b.setIfInBounds i aF) (fr n0 us0 (pl d undef l0)) w)
  (m:(Region.noSelect e.toArray&&Region.free md e.toArray b i&&(Region.ready md e.toArray b).contains i&&wF md e.toArray b&&tX md e.toArray i [] []&&(([]:X Nat).all λk=>b.getD k aF))=aF:=by kernel_rfl)
  (j:∀c a w,Q (.panic c) (Act.put a d undef) w->Q (.panic c) a w:=by exact λ_ _ _ h=>h):gf P md e.toArray Q (EL l) (jG+1) b (fr n0 us0 l0) w:=
 acy i [] [] (λ_=>True) o m j aiB (λw _=>E w) trivial (Wc n) h
end
end
end Go.Kt
namespace Go.Kt.V
open Go renaming World->aw,Value->ay
open Go Go.RowKit Go.Kt
structure OV where
 v:ay
 one:v.oneCell'=aF
inductive SV where
 | int (k:IntKind) (n:Int)
 | il (k:IntKind) (n:Int)
 | bl (b:Bool)
 | bt (t:Bool)
 | str (s:ByteArray)
 | np
 | ptr (p:Option Addr)
 | ad (a:Addr)
 | box (i o:Nat)
 | sl (s:Sl)
 | nsl
 | map (m:Option Nat)
 | raw (v:OV)
 | fn (f:FuncId) (fs cs:SV)
 | agg (l:SV)
 | tup (l:SV)
 | un
 | e
 | c (h t:SV)
def su(c:Nat->Nat):SV->X ay
 | .int k n=>[.int k n]
 | .il k n=>[.int k n]
 | .bl b=>[.bool b]
 | .bt t=>[.bool t]
 | .str s=>[.string s]
 | .np=>[.pointer ZQ]
 | .ptr p=>[.pointer p]
 | .ad a=>[.pointer (Hg a)]
 | .box i o=>[.pointer (Hg ⟨c i,o,ZQ⟩)]
 | .sl s=>[s.v]
 | .nsl=>[Sl.v Sl.nil]
 | .map m=>[.map m]
 | .raw v=>[v.v]
 | .fn f a s=>[.func (.func f) (su c a).toArray (su c s).toArray]
 | .agg l=>[.agg (su c l).toArray]
 | .tup l=>[.tuple (su c l).toArray]
 | .un=>[undef]
 | .e=>[]
 | .c h t=>(su c h).headD undef::su c t
def val(a:Nat->Nat)(s:SV):ay:=(su a s).headD undef
def cV(a:Nat->Nat)(l:X SV):X ay:=l.map (val a)
def pu:SV->X SV
 | .c h t=>h::pu t
 | _=>[]
def Gx:X SV->SV
 | []=>.e
 | s::r=>.c s (Gx r)
def EG:SV->L
 | .c _ t=>EG t
 | .e=>aF
 | _=>aM
def ua β:∀l,su β (Gx l)=cV β l
 | []=>rfl
 | s::r=>by simp only[Gx,su,ua β r];rfl
def oY β:∀{s:SV},EG s=aF->su β s=cV β (pu s)
 | .e,_=>rfl
 | .c a t,h=>by simp only[su,oY β (s:=t) h];rfl
def cln(g:Nat->L):SV->L
 | .box i _=>g i
 | .fn _ f c=>cln g f&&cln g c
 | .agg l=>cln g l
 | .tup l=>cln g l
 | .c h t=>cln g h&&cln g t
 | _=>aF
def jz(g:Nat->L):X SV->L
 | []=>aF
 | s::r=>cln g s&&jz g r
def om{β β'}{g}(h:∀i,g i=aF->β i=β' i):∀s,cln g s=aF->su β s=su β' s
 | .int ..,_ | .il ..,_ | .bl ..,_ | .bt ..,_ | .str ..,_ | .np,_ | .ptr ..,_ | .ad ..,_ | .sl ..,_ | .nsl,_ | .map ..,_ | .raw ..,_ | .un,_ | .e,_=>rfl
 | .box i o,c=>by simp[su,h i c]
 | .fn f a s,c=>by
  simp[cln]at c;simp[su,om h a c.1,om h s c.2]
 | .agg l,c=>by simp[su,om h l c]
 | .tup l,c=>by simp[su,om h l c]
 | .c s t,c=>by
  simp[cln]at c;simp[su,om h s c.1,om h t c.2]
def jQ{β β'}{g}(h:∀i,g i=aF->β i=β' i) s (c:cln g s=aF):val β s=val β' s:=by
 unfold val;rw[om h s c]
def iY{β β'}{g}(h:∀i,g i=aF->β i=β' i):∀l,jz g l=aF->cV β l=cV β' l
 | [],_=>rfl
 | s::r,c=>by
  simp[jz]at c;have:=iY h r c.2;simp only[cV,cu]at this⊢;rw[jQ h s c.1,this]
def gu β l:Z8 (cV β l)=Z8 l:=by rw[cV,bQ]
def TP:ay->Option SV
 | .int k n=>Hg (.il k n)
 | .bool b=>Hg (.bl b)
 | .string s=>Hg (.str s)
 | .pointer ZQ=>Hg .np
 | .slice ZQ 0 0=>Hg .nsl
 | .map m=>Hg (.map m)
 | v=>if h:v.oneCell'=aF then Hg (.raw ⟨v,h⟩)else ZQ
def EH:X ay->Option SV
 | []=>Hg .e
 | v::r=>match TP v,EH r with
  | some s,Hg l=>Hg (.c s l)
  | _,_=>ZQ
def VL:ay->Option SV
 | .agg c=>(EH c.toList).map .agg
 | .tuple c=>(EH c.toList).map .tup
 | .func (.func f) s c=>match EH s.toList,EH c.toList with
  | some a,Hg b=>Hg (.fn f a b)
  | _,_=>ZQ
 | v=>TP v
def CO{v}{s}(h:TP v=Hg s) β:val β s=v:=by
 unfold TP at h;split at h
 all_goals first | (simp at h;subst h;rfl) | skip
 split at h
 .simp at h;subst h;rfl
 cases h
def vF β:∀{l:X ay} {s:SV},EH l=Hg s->su β s=l
 | [],s,h=>by simp[EH]at h;subst h;rfl
 | v::r,s,h=>by
  simp[EH]at h;split at h
  .rename_i s c a b;simp at h;subst h;simp only[su,vF β b];rw[show(su β s).headD undef=v from CO a β]
  cases h
def okT{v}{s}(h:VL v=Hg s) β:val β s=v:=by
 unfold VL at h;split at h
 .rename_i c;rcases hl:EH c.toList with _|l
  .rw[hl]at h;cases h
  rw[hl]at h;simp at h;subst h;simp[val,su,vF β hl]
 .rename_i c;rcases hl:EH c.toList with _|l
  .rw[hl]at h;cases h
  rw[hl]at h;simp at h;subst h;simp[val,su,vF β hl]
 .split at h
  .rename_i a b c d;simp at h;subst h;simp[val,su,vF β c,vF β d]
  cases h
 exact CO h β
structure lU where
 blk:Option Nat
 ty:TypeId
 cells:List SV
 stp:Nat
 ok:Bool
 esc:Bool
 sh:Bool
structure St where
 n:Nat
 fr:List (Nat×Nat×SV)
 bx:List lU
 w0:aw
 mv:Bool
 dt:List Nat
 ct:Nat
 df:List (Nat×List ay×List ay)
def Ub(l:X (Nat×X ay×X ay)):X Deferred:=l.map λd=>{target:=.fn (.func d.1) d.2.2.toArray,args:=d.2.1.toArray}
def ED(n:Nat)(u:Nat->ay)(l:X (Nat×ay))(D:X Deferred):Act:=⟨(Zz u l n 0).toArray,D⟩
def eK:X (Nat×Nat×SV)->Nat->Option (Nat×SV)
 | [],_=>ZQ
 | (k,s)::r,i=>bif Nat.beq k i then Hg s else eK r i
def St.get(st:St)(i:Nat):Option SV:=bif Nat.blt i st.n then(eK st.fr i).map (·.2)else ZQ
def St.ev(st:St):Operand->Option SV
 | .tmp k=>st.get k
 | .const v=>VL v
 | .global g=>Hg (.ad ⟨g,0,ZQ⟩)
 | .func f=>Hg (.fn f .e .e)
def St.QG(st:St):X Operand->Option (X SV)
 | []=>Hg []
 | x::r=>match st.ev x,st.QG r with
  | some v,Hg s=>Hg (v::s)
  | _,_=>ZQ
def St.YK(st:St):X (Nat×Operand)->Option (X (Nat×SV))
 | []=>Hg []
 | (i,x)::r=>match st.ev x,st.YK r with
  | some v,Hg s=>Hg ((i,v)::s)
  | _,_=>ZQ
def St.put(st:St)(d:Option Tmp)(v:SV):St:=match d with
 | some k=>{st with fr:=(k,st.ct,v)::st.fr,ct:=st.ct+1}
 | none=>st
def du:X lU->Nat->Option lU
 | [],_=>ZQ
 | b::_,0=>Hg b
 | _::r,n+1=>du r n
def Rq:X lU->Nat->lU->X lU
 | [],_,_=>[]
 | _::r,0,b=>b::r
 | a::r,n+1,b=>a::Rq r n b
def cv(a:Nat->Nat)(l:X (Nat×Nat×SV)):X (Nat×ay):=l.map λp=>(p.1,val a p.2.2)
def nC β:∀l i,Be (cv β l) i=(eK l i).map λp=>val β p.2
 | [],_=>rfl
 | (k,s)::r,i=>by
  simp[cv,Be,eK];cases Nat.beq k i
  .exact nC β r i
  rfl
structure anq (β:Nat->Nat) (w0 w:aw) (i:Nat) (b:lU):Prop where
 blk:Blk w (β i) b.ty (cV β b.cells)
 at_:∀k,b.blk=Hg k->β i=k
 new:b.blk=ZQ->w0.heap.size<=β i
structure Rep (β:Nat->Nat) (st:St) (a:Act) (w:aw):Prop where
 fr:∃us,a=ED st.n us (cv β st.fr) (Ub st.df)
 bx:∀i b,du st.bx i=Hg b->b.ok=aF->anq β st.w0 w i b
 ne:∀i j bi bj,du st.bx i=Hg bi->du st.bx j=Hg bj->bi.ok=aF->bj.ok=aF->i≠j->β i≠β j
 only:Only (st.dt.map β) st.w0 w
 still:st.mv=aM->w=st.w0
structure Ext (s t:St):Prop where
 n:t.n=s.n
 ct:s.ct<=t.ct
 fr:∀i k v,eK t.fr i=Hg (k,v)->k<s.ct->eK s.fr i=Hg (k,v)
 bx:∀i b',du t.bx i=Hg b'->b'.ok=aF->b'.stp<s.ct->∃b,du s.bx i=Hg b/\b.ok=aF/\b.cells=b'.cells/\b.ty=b'.ty/\b.stp=b'.stp/\(∀k,b.blk=Hg k->b'.blk=Hg k)
 ps:∀i b,du s.bx i=Hg b->∃b',du t.bx i=Hg b'/\b'.ty=b.ty/\b'.ok=b.ok/\∀k,b.blk=Hg k->b'.blk=Hg k
 df:∃l,t.df=l++s.df
def Ij{s:St}:∃l,s.df=l++s.df:=⟨[],I⟩
def TQ{l}:∀i b,du l i=Hg b->∃a,du l i=Hg a/\a.ty=b.ty/\a.ok=b.ok/\∀k,b.blk=Hg k->a.blk=Hg k:=λi b h=>⟨b,h,I,I,λ_ h=>h⟩
def Ext.refl s:Ext s s:=⟨I,aX _,λ_ _ _ h _=>h,λi b h o _=>⟨b,h,o,I,I,I,λ_ h=>h⟩,TQ,Ij⟩
def VY:=@Ext.refl
def Ext.trans{s t u}(h:Ext s t)(k:Ext t u):Ext s u:=
 ⟨k.n.trans h.n,bp h.ct k.ct,λi m v l T=>h.fr i m v (k.fr i m v l (cD T h.ct)) T,λi a c o d=>by
  obtain⟨g,f,r,k3,s,w,v⟩:=k.bx i a c o (cD d h.ct);obtain⟨b,e,j,n,p,u,t⟩:=h.bx i g f r J;exact⟨b,e,j,n.trans k3,p.trans s,u.trans w,λm q=>v m (t m q)⟩,λi b c=>by
  obtain⟨g,e,j,n,p⟩:=h.ps i b c;obtain⟨a,f,r,k3,s⟩:=k.ps i g e;exact⟨a,f,r.trans j,k3.trans n,λm q=>s m (p m q)⟩,by
  obtain⟨x,e⟩:=h.df;obtain⟨m,f⟩:=k.df;exact⟨m++x,RZ⟩⟩
def R8:=@Ext.trans
section
variable {β:Nat->Nat} {st:St} {a:Act} {w:aw}
def Rep.get(b:Rep β st a w){i}{s}(h:st.get i=Hg s):a.eval (.tmp i)=val β s:=by
 obtain⟨u,rfl⟩:=b.fr;show(Kt.fr st.n u _).eval (.tmp i)=_;refine evE (n0:=st.n) (us0:=u) ?_;unfold St.get at h;cases c:Nat.blt i st.n
 .rw[c]at h;cases h
 simp[evO,nC];cases l:eK st.fr i<;>grind
def Rep.ev(b:Rep β st a w){x}{s}(h:st.ev x=Hg s):a.eval x=val β s:=by
 cases x with
 | tmp k=>exact b.get h
 | const v=>rw[okT h];rfl
 | global g=>
  simp[St.ev]at h;subst h;rfl
 | func f=>
  simp[St.ev]at h;subst h;rfl
def Rep.QG(h:Rep β st a w):∀{s:X Operand} {l:X SV},st.QG s=Hg l->s.map a.eval=cV β l
 | [],l,g=>by simp[St.QG]at g;subst g;rfl
 | x::r,l,g=>by
  simp[St.QG]at g;split at g
  .rename_i v b x a;simp at g;subst g;rw[cu,h.ev x,h.QG a];rfl
  cases g
def Fb(a:Nat->Nat)(l:X (Nat×SV)):X (Nat×ay):=l.map λp=>(p.1,val a p.2)
def Rep.YK(h:Rep β st a w):∀{x:X _} {l:X _},st.YK x=Hg l->(x.map λq=>(q.1,a.eval q.2))=Fb β l
 | [],l,g=>by simp[St.YK]at g;subst g;rfl
 | _::r,l,g=>by
  simp[St.YK]at g;split at g
  .rename_i v s b a;simp at g;subst g;rw[cu,h.YK a,h.ev b];rfl
  cases g
def St.evO{st:St} β {x} {s} (h:st.ev x=Hg s):Kt.evO st.n (cv β st.fr) x=Hg (val β s):=by
 cases x with
 | tmp i=>
  have h:st.get i=Hg s:=h;unfold St.get at h;cases b:Nat.blt i st.n
  .rw[b]at h;cases h
  simp[Kt.evO,nC];cases l:eK st.fr i<;>grind
 | const v=>rw[okT h];rfl
 | global g=>
  simp[St.ev]at h;subst h;rfl
 | func f=>
  simp[St.ev]at h;subst h;rfl
def Rep.put(h:Rep β st a w) d v:Rep β (st.put d v) (a.put d (val β v)) w:=by
 rcases d with _|k
 .exact h
 obtain⟨u,rfl⟩:=h.fr;exact⟨⟨u,bK (λa:Act=>(⟨a.tmps,Ub st.df⟩:Act)) (ajM (n0:=st.n) (us0:=u) (l0:=cv β st.fr) (k:=k) (v:=val β v))⟩,h.bx,h.ne,h.only,h.still⟩
def Rn:=@Rep.put
def Ext.put st d v:Ext st (st.put d v):=by
 rcases d with _|k
 .exact VY _
 refine⟨I,jP _,λi m u l T=>?_,λi b h o _=>⟨b,h,o,I,I,I,λ_ h=>h⟩,TQ,Ij⟩;simp[St.put,eK]at l
 grind
def Nr:=@Ext.put
def Rep.frame(h:Rep β st a w){fr'}(s:∀i p,eK fr' i=Hg p->∃q,eK st.fr i=Hg q/\val β q.2=val β p.2):Rep β {st with fr:=fr'} a w:=by
 obtain⟨u,rfl⟩:=h.fr;refine⟨?_,h.bx,h.ne,h.only,h.still⟩;refine⟨λi=>xj u (cv β st.fr) i,?_⟩;unfold ED;congr 2;apply im;intro i;by_cases b:i<st.n
 .rw[oX _ _ _ _ _ b,oX _ _ _ _ _ b,bO];rcases hl:eK fr' i with _|p
  .rw[Gw (l:=cv β fr') KM]
  obtain⟨q,a,c⟩:=s i p hl;rw[wG (l:=cv β fr') (v:=val β p.2) KM,wG (l:=cv β st.fr) (v:=val β p.2) (by rw[nC,a,kF,c])]
 rw[cR (by rw[pY];exact Ba b),cR (by rw[pY];exact Ba b)]
end
def cw{a:Type}(o:Option a)(K:a->Prop):Prop:=match o with
 | some v=>K v
 | none=>False
def bG{α}{o:Option α}{K}(h:cw o K):∃v,o=Hg v/\K v:=by
 rcases o with _|v
 .exact h.elim
 exact⟨v,I,h⟩
def gi:X (L×L)->Prop->Prop
 | [],p=>p
 | (t,b)::r,p=>t=b->gi r p
def gh:X (L×L)->Prop
 | []=>True
 | (t,b)::r=>t=b/\gh r
def iZ:∀{gs:X _} {p:Prop},gi gs p->gh gs->p
 | [],_,h,_=>h
 | _::r,p,h,k=>iZ (gs:=r) (h k.1) k.2
inductive Lf where
 | int (k:IntKind)
 | bool
 | str
 | ptr
 | sl
 | map
 | raw
def Lf.T:Lf->Type
 | .int _=>Int
 | .bool=>L
 | .str=>ByteArray
 | .ptr=>Option Addr
 | .sl=>Sl
 | .map=>Option Nat
 | .raw=>OV
def Lf.sv:(l:Lf)->l.T->SV
 | .int k,x=>.int k x
 | .bool,x=>.bt x
 | .str,x=>.str x
 | .ptr,x=>.ptr x
 | .sl,x=>.sl x
 | .map,x=>.map x
 | .raw,x=>.raw x
def Lf.cln g (l:Lf) x:V.cln g (l.sv x)=aF:=by cases l<;>rfl
def ZA:X Lf->(X SV->Prop)->Prop
 | [],K=>K []
 | l::r,K=>∃x,ZA r λv=>K (l.sv x::v)
def vG:∀{ls:X Lf} {K:X SV->Prop},ZA ls K->∃v,K v/\Z8 v=Z8 ls/\∀g,jz g v=aF
 | [],K,h=>⟨[],h,I,λ_=>I⟩
 | l::r,K,h=>by
  obtain⟨x,h⟩:=h;obtain⟨v,a,b,c⟩:=vG (ls:=r) h;exact⟨_,a,by simp[b],λg=>by simp[jz,Lf.cln,c g]⟩
def arb:TypeDesc->Lf
 | .int k=>.int k
 | .bool=>.bool
 | .string=>.str
 | .pointer _=>.ptr
 | .slice _=>.sl
 | .map _ _=>.map
 | _=>.raw
def rep{a:Type}:Nat->X a->X a
 | 0,_=>[]
 | n+1,l=>l++rep n l
def flat{a b:Type}(f:a->X b):X a->X b
 | []=>[]
 | x::r=>f x++flat f r
def TR(P:Program):Nat->TypeId->X Lf
 | 0,_=>[]
 | n+1,t=>match P.underlying t with
  | some (.struct fs)=>flat (λf:Field=>TR P n f.type) fs.toList
  | some (.array len e)=>rep len (TR P n e)
  | some d=>[arb d]
  | none=>[]
def oo:TypeDesc->L
 | .struct _=>aF
 | .array _ _=>aF
 | _=>aM
def Rs(ag:L)(l:X SV):SV:=bif ag then .agg (Gx l)else l.headD .un
def β0:Nat->Nat:=λ_=>0
def sw:SV->Option (IntKind×Int)
 | .int k n=>Hg (k,n)
 | .il k n=>Hg (k,n)
 | _=>ZQ
def dH{s}{k}{n}(h:sw s=Hg (k,n)) β:val β s=.int k n:=by
 cases s<;>simp[sw]at h
 all_goals obtain⟨rfl,rfl⟩:=h;rfl
def CP:SV->Option L
 | .bl b=>Hg b
 | .bt b=>Hg b
 | _=>ZQ
def oq{s}{b}(h:CP s=Hg b) β:val β s=.bool b:=by
 cases s<;>simp[CP]at h
 all_goals subst h;rfl
def xS:SV->Option ByteArray
 | .str s=>Hg s
 | _=>ZQ
def jA{s}{b}(h:xS s=Hg b) β:val β s=.string b:=by
 cases s<;>simp[xS]at h
 all_goals subst h;rfl
def N9:SV->Option Sl
 | .sl s=>Hg s
 | .nsl=>Hg Sl.nil
 | _=>ZQ
def lJ{s}{b}(h:N9 s=Hg b) β:val β s=b.v:=by
 cases s<;>simp[N9]at h
 all_goals subst h;rfl
def ib(op:BinOp)(k:IntKind)(m n:Int):Option SV:=match op with
 | .add=>Hg (.int k (k.wrap (m+n)))
 | .sub=>Hg (.int k (k.wrap (m-n)))
 | .mul=>Hg (.int k (k.wrap (m*n)))
 | .eql=>Hg (.bt (m==n))
 | .neq=>Hg (.bt (m !=n))
 | .lss=>Hg (.bt (VM (m<n)))
 | .leq=>Hg (.bt (VM (m<=n)))
 | .gtr=>Hg (.bt (VM (m>n)))
 | .geq=>Hg (.bt (VM (m>=n)))
 | .and=>Hg (.int k (bits .and k m n))
 | .or=>Hg (.int k (bits .or k m n))
 | .xor=>Hg (.int k (bits .xor k m n))
 | .andNot=>Hg (.int k (bits .andNot k m n))
 | _=>ZQ
def sb(op:BinOp)(s u:ByteArray):Option SV:=match op with
 | .eql=>Hg (.bt (s.toList==u.toList))
 | .neq=>Hg (.bt (!(s.toList==u.toList)))
 | .lss=>Hg (.bt (Op.bytesLess s.toList u.toList))
 | .geq=>Hg (.bt (!(Op.bytesLess s.toList u.toList)))
 | .leq=>Hg (.bt (Op.bytesLess s.toList u.toList||(s.toList==u.toList)))
 | .gtr=>Hg (.bt (!(Op.bytesLess s.toList u.toList||(s.toList==u.toList))))
 | _=>ZQ
def nz(g:X (L×L))(b:SV)(n:Int)(K:Prop):Prop:=match b with
 | .il _ _=>bif n==0 then False else K
 | _=>gi g (n≠0)/\K
def IQ(g:X (L×L))(b:SV)(n:Int)(K:Prop):Prop:=match b with
 | .il _ _=>bif VM (0<=n)then K else False
 | _=>gi g (0<=n)/\K
def opn:SV->Option (Option Addr)
 | .np=>Hg ZQ
 | .ptr p=>Hg p
 | .ad a=>Hg (Hg a)
 | _=>ZQ
def acG{s}{p}(h:opn s=Hg p) β:val β s=.pointer p:=by
 cases s<;>simp[opn]at h
 all_goals subst h;rfl
def rY:TypeDesc->L
 | .slice _=>aF
 | _=>aM
def pn(op:BinOp)(a:SV):Option SV:=match op,a with
 | .eql,.ptr p=>Hg (.bt p.isNone)
 | .neq,.ptr p=>Hg (.bt (!p.isNone))
 | .eql,.ad _=>Hg (.bl aM)
 | .neq,.ad _=>Hg (.bl aF)
 | .eql,.box _ _=>Hg (.bl aM)
 | .neq,.box _ _=>Hg (.bl aF)
 | .eql,.np=>Hg (.bl aF)
 | .neq,.np=>Hg (.bl aM)
 | _,_=>ZQ
def sn(op:BinOp)(s:Sl):Option SV:=match op with
 | .eql=>Hg (.bt s.a.isNone)
 | .neq=>Hg (.bt (!s.a.isNone))
 | _=>ZQ
def TS:SV->L
 | .np=>aF
 | _=>aM
def IT:SV->L
 | .nsl=>aF
 | _=>aM
def WT(P:Program)(t:TypeId)(x y:SV):Option L:=match P.underlying t with
 | some (.int _)=>(match sw x,sw y with
  | some (k,m),Hg (k',n)=>bif VM (k=k')then Hg (m==n)else ZQ
  | _,_=>ZQ)
 | some .string=>(match xS x,xS y with
  | some s,Hg u=>Hg (s==u)
  | _,_=>ZQ)
 | some .bool=>(match CP x,CP y with
  | some s,Hg u=>Hg (s==u)
  | _,_=>ZQ)
 | _=>ZQ
def IU(P:Program)(s a:X SV):X Field->Option L
 | []=>Hg aF
 | f::r=>bif f.name== "_" then ZQ else match s[f.offset]?,a[f.offset]? with
  | some x,Hg y=>(match WT P f.type x y,IU P s a r,r with
   | some b,Hg _,[]=>Hg b
   | some b,Hg c,_=>Hg (b&&c)
   | _,_,_=>ZQ)
  | _,_=>ZQ
def Og(P:Program)(t:TypeId)(f:Array Field)(a b:SV):Option L:=match a,b with
 | .agg l,.agg m=>bif EG l&&EG m&&!P.stoodInHeld t&&!P.eqGuardType P.depth t then IU P (pu l) (pu m) f.toList else ZQ
 | _,_=>ZQ
def VS(op:BinOp)(b:L):Option SV:=match op with
 | .eql=>Hg (.bt b)
 | .neq=>Hg (.bt (!b))
 | _=>ZQ
def mn(op:BinOp)(a b:SV):Option SV:=match op,a,b with
 | .eql,.map m,.map ZQ=>Hg (.bt m.isNone)
 | .neq,.map m,.map ZQ=>Hg (.bt (!m.isNone))
 | _,_,_=>ZQ
def KQ(P:Program)(g:X (L×L))(op:BinOp)(t:TypeId)(a b:SV)(K:SV->Prop):Prop:=
 match sw a,sw b with
 | some (k,m),Hg (k',n)=>(match op with
  | .shl=>IQ g b n (K (.int k (k.wrap (m*2 ^ (min n.toNat k.bits)))))
  | .shr=>IQ g b n (K (.int k (m.fdiv (2 ^ (min n.toNat k.bits)))))
  | .quo=>bif VM (k=k')then nz g b n (K (.int k (k.wrap (m.tdiv n))))else False
  | .rem=>bif VM (k=k')then nz g b n (K (.int k (m.tmod n)))else False
  | _=>bif VM (k=k')then cw (ib op k m n) K else False)
 | _,_=>match xS a,xS b with
  | some s,Hg u=>(match op with
   | .add=>gi g ((s.size:Int)+u.size<=9223372036854775807)/\K (.str (s++u))
   | _=>cw (sb op s u) K)
  | _,_=>match CP a,CP b,P.underlying t with
   | some s,Hg u,Hg .bool=>(match op with
    | .eql=>K (.bt (s==u))
    | .neq=>K (.bt (!(s==u)))
    | _=>False)
   | _,_,_=>match P.underlying t with
    | some (.pointer _)=>bif TS b then cw (pn op a) K else bif TS a then cw (pn op b) K else False
    | some (.slice _)=>bif IT b then cw ((N9 a).bind (sn op)) K else bif IT a then cw ((N9 b).bind (sn op)) K else False
    | some (.struct fs)=>cw (Og P t fs a b) λr=>cw (VS op r) K
    | some (.map _ _)=>cw (mn op a b) K
    | _=>False
section
variable {P:Program} {gs:X (L×L)} {K:SV->Prop}
def acA{b}{k}{n}{K}(a:sw b=Hg (k,n))(h:nz gs b n K):K/\(gh gs->n≠0):=by
 unfold nz at h;split at h
 .grind
 exact⟨h.2,λg=>iZ h.1 g⟩
def aiP{b}{n}{K}(h:IQ gs b n K):K/\(gh gs->0<=n):=by
 unfold IQ at h;split at h
 .grind
 exact⟨h.2,λg=>iZ h.1 g⟩
def dT{b}{p}(h:bif b then p else False):b=aF/\p:=RZ
def oZ(P:Program)(op:BinOp)(t:TypeId)(a b v:SV):Prop:=
 ∀c (act:Act) x y d h e p f g w,act.eval x=val c a->act.eval y=val c b->
  (execOp act.eval ⟨d,.binOp op t x y h,e,p,f,g⟩).run P w=.ok (.value (val c v)) w
def ajN{op}{t}{a b v}{k}{m n}(e:sw a=Hg (k,m))(f:sw b=Hg (k,n))(h:ib op k m n=Hg v):oZ P op t a b v:=by
 intro o act x y s l j p g i w c d;rw[dH e]at c;rw[dH f]at d;cases op<;>simp[ib]at h
 all_goals subst h;simp[execOp,c,d];cases k<;>rfl
def ajO{op}{t}{a b v}{s u}(f:xS a=Hg s)(g:xS b=Hg u)(h:sb op s u=Hg v):oZ P op t a b v:=by
 intro m act x y e l k p i j w c d;rw[jA f]at c;rw[jA g]at d;cases op<;>simp only[sb,cd,reduceCtorEq]at h
 all_goals subst h;simp only[execOp,c,d];rfl
def acB{op}{t e}{a b v}(u:P.underlying t=Hg (.pointer e))(f:TS b=aF)(d:pn op a=Hg v):oZ P op t a b v/\oZ P op t b a v:=by
 have h:∀c,val c b=.pointer ZQ:=λc=>by
  unfold TS at f;split at f
  .rfl
  cases f
 have k:∀c,∃(q:Option Addr) (r:L),val c a=.pointer q/\val c v=.bool r/\((op=.eql/\q.isNone=r)∨(op=.neq/\(!q.isNone)=r)):=by
  intro c;unfold pn at d;split at d<;>simp only[cd,reduceCtorEq]at d<;>subst d
  .exact⟨_,_,I,I,.inl ⟨I,I⟩⟩
  .exact⟨_,_,I,I,.inr ⟨I,I⟩⟩
  .exact⟨_,_,I,I,.inl ⟨I,I⟩⟩
  .exact⟨_,_,I,I,.inr ⟨I,I⟩⟩
  .exact⟨_,_,I,I,.inl ⟨I,I⟩⟩
  .exact⟨_,_,I,I,.inr ⟨I,I⟩⟩
  .exact⟨_,_,I,I,.inl ⟨I,I⟩⟩
  exact⟨_,_,I,I,.inr ⟨I,I⟩⟩
 constructor
 .intro c act x y s m t p j l w b e;obtain⟨q,r,g,i,a⟩:=k c;rw[g]at b;rw[h]at e;rw[i];rcases a with⟨rfl,a⟩ | ⟨rfl,a⟩
  .exact aej (run_underlying u w) b e a
  exact aeH (run_underlying u w) b e a
 intro c act x y s m t p j l w b e;obtain⟨q,r,g,i,a⟩:=k c;rw[g]at e;rw[h]at b;rw[i];rcases a with⟨rfl,a⟩ | ⟨rfl,a⟩
 .exact bxs (run_underlying u w) b e a
 exact abS (run_underlying u w) b e a
def acC{op}{t e}{a b v}(u:P.underlying t=Hg (.slice e))(f:IT b=aF)(h:(N9 a).bind (sn op)=Hg v):oZ P op t a b v/\oZ P op t b a v:=by
 have c:∀d,val d b=.slice ZQ 0 0:=λd=>by
  unfold IT at f;split at f
  .rfl
  cases f
 rcases hs:N9 a with _|s
 .rw[hs]at h;cases h
 rw[hs]at h;simp at h;constructor
 .intro d act x y s i t p e g w a b;rw[lJ hs]at a;rw[c]at b;cases op<;>simp only[sn,cd,reduceCtorEq]at h<;>subst h
  .exact ai5 (run_underlying u w) a b
  exact mvL (run_underlying u w) a b
 intro d act x y s i t p e g w a b;rw[lJ hs]at b;rw[c]at a;cases op<;>simp only[sn,cd,reduceCtorEq]at h<;>subst h
 .exact abC (run_underlying u w) a b
 exact lnT (run_underlying u w) a b
def ajP{op}{t k e}{a b v}(u:P.underlying t=Hg (.map k e))(h:mn op a b=Hg v):oZ P op t a b v:=by
 intro n act x y s l j p g i w c f;unfold mn at h;split at h<;>simp at h<;>subst h
 all_goals
  rename_i m;change act.eval x=.map m at c;change act.eval y=.map ZQ at f;have E:∀d,(Op.equalIn (d+1) t (.map m) (.map ZQ)).run P w=.ok m.isNone w:=λd=>by
   unfold Op.equalIn;cases m<;>simp[run_underlying u w]
 .have B:binOp .eql t (.map m) (.map ZQ)=(do pure (.bool ((<-Op.equal t (.map m) (.map ZQ))))):=by cases m<;>rfl
  have G:eqGuard .eql t x y (.map m) (.map ZQ)=pure _:=I;simp[execOp,c,f,G,B,Op.equal,Op.maxDepth,E 9999];rfl
 have B:binOp .neq t (.map m) (.map ZQ)=(do pure (.bool (!(<-Op.equal t (.map m) (.map ZQ))))):=by cases m<;>rfl
 have G:eqGuard .neq t x y (.map m) (.map ZQ)=pure _:=I;simp[execOp,c,f,G,B,Op.equal,Op.maxDepth,E 9999];rfl
def msN{t}{x y}{b}(h:WT P t x y=Hg b) β d w:P.plainKey t=aF/\(Op.equalIn (d+1) t (val β x) (val β y)).run P w=.ok b w:=by
 unfold WT at h;split at h
 .rename_i k hu;refine⟨FM,?_⟩;split at h
  .rename_i a m b n x y;cases k:VM (a=b)with
   | false=>rw[k]at h;cases h
   | true=>
    rw[k]at h;injection h with h;subst h;have k:=aO k;subst k;rw[dH x,dH y];simp[Op.equalIn,run_underlying hu]
  cases h
 .rename_i hu;refine⟨FM,?_⟩;split at h
  .rename_i s u x y;injection h with h;subst h;rw[jA x,jA y];simp[Op.equalIn,run_underlying hu]
  cases h
 .rename_i hu;refine⟨FM,?_⟩;split at h
  .rename_i s u x y;injection h with h;subst h;rw[oq x,oq y];simp[Op.equalIn,run_underlying hu]
  cases h
 cases h
def IV{xs ys} β d w:∀{s:X Field} {b:L},IU P xs ys s=Hg b->(Op.eqFields (d+1) (cV β xs).toArray (cV β ys).toArray s).run P w=.ok b w
 | [],b,h=>by
  simp[IU]at h;subst h;simp[Op.eqFields]
 | f::r,b,h=>by
  unfold IU at h;cases n:(f.name== "_")with
  | true=>rw[n]at h;cases h
  | false=>
   rw[n]at h;split at h
   .rename_i x y g i;have p:(cV β xs).toArray[f.offset]? =Hg (val β x):=by simp[cV,g]
    have j:(cV β ys).toArray[f.offset]? =Hg (val β y):=by simp[cV,i]
    have go:∀{b c:L},WT P f.type x y=Hg b->IU P xs ys r=Hg c->(Op.eqFields (d+1) (cV β xs).toArray (cV β ys).toArray (f::r)).run P w=.ok (b&&c) w:=fun{b c} e a=>by
     obtain⟨k,c⟩:=msN e β d w;simp[Op.eqFields,by simpa using n,ne_eq,not_false_eq_true,yC,Sem.run_bind,run_part_plain w k p,run_part_plain w k j,c,Result.andThen_ok];cases b
     .simp
     simpa using IV β d w a
    split at h
    .rename_i b c e a;injection h with h;subst h;have:=go e a;simp[IU]at a
     grind
    .grind
    cases h
   cases h
def ab9{op}{t}{fs}{a b v}{r}(u:P.underlying t=Hg (.struct fs))(h:Og P t fs a b=Hg r)(c:VS op r=Hg v):oZ P op t a b v:=by
 unfold Og at h;split at h
 .rename_i l m;obtain⟨a,h⟩:(EG l&&EG m&&!P.stoodInHeld t&&!P.eqGuardType P.depth t)=aF/\IU P _ _ fs.toList=Hg r:=by
   cases b:(EG l&&EG m&&!P.stoodInHeld t&&!P.eqGuardType P.depth t)with
   | true=>rw[b]at h;exact⟨I,h⟩
   | false=>rw[b]at h;cases h
  simp at a;obtain⟨⟨⟨j,k⟩,n⟩,o⟩:=a;intro d act x y s B A p v z w e g;have i:∀{l:SV},EG l=aF->val d (.agg l)=.agg (cV d _).toArray:=λq=>by
   show Value.agg (su d _).toArray=_;rw[oY d q]
  rw[i j]at e;rw[i k]at g;have f:P.fieldsOf t=fs:=by simp[Program.fieldsOf,u]
  have E:(Op.equalIn 10000 t (.agg (cV d (pu l)).toArray) (.agg (cV d (pu m)).toArray)).run P w=.ok r w:=by
   rw[run_equalIn_struct w 9999 t _ _ (by rw[f];exact u) n,f];exact IV d 9998 w h
  have G:∀op,(eqGuard op t x y (.agg (cV d (pu l)).toArray) (.agg (cV d (pu m)).toArray)).run P w=.ok () w:=λop=>by simp[eqGuard,o]
  unfold VS at c;split at c
  .injection c with c;subst c;have p:binOp .eql t (.agg (cV d (pu l)).toArray) _=(do pure (.bool (<-Op.equal t _ (.agg (cV d (pu m)).toArray)))):=I;simp[execOp,e,g,p,Op.equal,Op.maxDepth,E,G];rfl
  .injection c with c;subst c;have p:binOp .neq t (.agg (cV d (pu l)).toArray) _=(do pure (.bool (!(<-Op.equal t _ (.agg (cV d (pu m)).toArray))))):=I;simp[execOp,e,g,p,Op.equal,Op.maxDepth,E,G];rfl
  cases c
 cases h
def ah0{op}{t}{a b}(h:KQ P gs op t a b K):∃v,K v/\(gh gs->oZ P op t a b v):=by
 unfold KQ at h;split at h
 .rename_i k o m n e c;have i:∀{K:SV->Prop},(bif VM (k=m)then cw _ K else False)->∃v,K v/\(gh gs->oZ P op t a b v):=λh=>by
   obtain⟨f,d⟩:=dT h;have g:=aO f;subst g;obtain⟨v,l,j⟩:=bG d;exact⟨v,j,λ_=>ajN e c l⟩
  split at h
  .obtain⟨h,n⟩:=aiP h;exact⟨_,h,λa v act x y s u t p q r w b k=>ajD (by rw[b,dH e]) (by rw[k,dH c]) (n a)⟩
  .obtain⟨h,n⟩:=aiP h;exact⟨_,h,λa v act x y s u t p q r w b k=>ajE (by rw[b,dH e]) (by rw[k,dH c]) (n a)⟩
  .obtain⟨f,d⟩:=dT h;have g:=aO f;subst g;obtain⟨b,n⟩:=acA c d;exact⟨_,b,λa z act x y s v u p r t w k q=>ajB (by rw[k,dH e]) (by rw[q,dH c]) (n a)⟩
  .obtain⟨f,d⟩:=dT h;have g:=aO f;subst g;obtain⟨b,n⟩:=acA c d;exact⟨_,b,λa z act x y s v u p r t w k q=>ajC (by rw[k,dH e]) (by rw[q,dH c]) (n a)⟩
  exact i h
 split at h
 .rename_i s u a b;split at h
  .exact⟨_,h.2,λg k act x y d j t p f i w c e=>abj (by rw[c,jA a]) (by rw[e,jA b]) (iZ h.1 g)⟩
  obtain⟨v,c,K⟩:=bG h;exact⟨v,K,λ_=>ajO a b c⟩
 split at h
 .rename_i s c a b u;split at h
  .exact⟨_,h,λi l act x y d k t p g j w e f=>afG u (by rw[e,oq a]) (by rw[f,oq b])⟩
  .exact⟨_,h,λi l act x y d k t p g j w e f=>yp4 u (by rw[e,oq a]) (by rw[f,oq b])⟩
  exact h.elim
 split at h
 .rename_i e u;cases a:TS b
  .rw[a]at h;obtain⟨b,h⟩:=dT h;obtain⟨v,c,K⟩:=bG h;exact⟨v,K,λ_=>(acB u b c).2⟩
  rw[a]at h;obtain⟨v,b,K⟩:=bG h;exact⟨v,K,λ_=>(acB u a b).1⟩
 .rename_i e u;cases a:IT b
  .rw[a]at h;obtain⟨b,h⟩:=dT h;obtain⟨v,c,K⟩:=bG h;exact⟨v,K,λ_=>(acC u b c).2⟩
  rw[a]at h;obtain⟨v,b,K⟩:=bG h;exact⟨v,K,λ_=>(acC u a b).1⟩
 .rename_i f u;obtain⟨b,r,h⟩:=bG h;obtain⟨v,a,K⟩:=bG h;exact⟨v,K,λ_=>ab9 u r a⟩
 .rename_i k e u;obtain⟨v,a,K⟩:=bG h;exact⟨v,K,λ_=>ajP u a⟩
 exact h.elim
end
def ZF:SV->L
 | .agg _=>aM
 | .tup _=>aM
 | .un=>aM
 | .e=>aM
 | .c _ _=>aM
 | _=>aF
def Oa:X SV->L
 | []=>aF
 | s::r=>ZF s&&Oa r
def IW{s}(h:ZF s=aF) β:(val β s).oneCell'=aF/\(val β s).cells=#[val β s]:=by
 cases s with
 | raw v=>
  have e:val β (.raw v)=v.v:=I;refine⟨v.one,?_⟩;obtain⟨v,a⟩:=v;cases v<;>first | rfl | (simp[Value.oneCell']at a)
 | _=>first | exact⟨I,I⟩ | (simp[ZF]at h)
def is1:∀{l:X SV},Oa l=aF->∀a,(cV a l).all Value.oneCell'=aF
 | [],_,_=>rfl
 | s::r,h,a=>by
  simp[Oa,H]at h;simp only[cV,cu,lg,H];exact⟨(IW h.1 a).1,is1 h.2 a⟩
def CQ:SV->Option (X SV)
 | .agg l=>bif EG l&&Oa (pu l)then Hg (pu l)else ZQ
 | s=>bif ZF s then Hg [s]else ZQ
def Gy{a:Type}{b}{x}{y:a}(h:(bif b then Hg x else ZQ)=Hg y):b=aF/\x=y:=by
 cases b
 .cases h
 exact⟨I,Zp⟩
def Am{s}{l}(h:CQ s=Hg l) β:(val β s).cells=(cV β l).toArray/\(cV β l).all Value.oneCell'=aF:=by
 unfold CQ at h;split at h
 .obtain⟨a,rfl⟩:=Gy h;simp at a;refine⟨?_,is1 a.2 β⟩;show(su β _).toArray=_;rw[oY β a.1]
 obtain⟨a,rfl⟩:=Gy h;obtain⟨b,c⟩:=IW a β;exact⟨c,by simp[cV,b]⟩
def Mq:X ay->Option (X SV)
 | []=>Hg []
 | v::r=>match TP v,Mq r with
  | some s,Hg l=>Hg (s::l)
  | _,_=>ZQ
def BW β:∀{l:X ay} {s:X SV},Mq l=Hg s->cV β s=l
 | [],s,h=>by simp[Mq,cd]at h;subst h;rfl
 | v::r,s,h=>by
  simp[Mq]at h;split at h
  .rename_i s c a b;simp at h;subst h;have:=BW β b;simp only[cV,cu]at this⊢;rw[CO a,this]
  cases h
def TI(c:X SV)(o:Nat)(v:X SV):X SV:=c.take o++v++c.drop (o+Z8 v)
def IX β cs o vs:cV β (TI cs o vs)=eY (cV β cs) o (cV β vs):=by
 simp[cV,TI,eY,cX,lh,Ag,bQ]
def aiG{cs vs}{o}(h:o+Z8 vs<=Z8 cs):Z8 (eY cs o vs)=Z8 cs:=by
 simp[eY,aP,cf,bZ];omega
def IY{off}:∀s k c,off+k+Z8 s<=(Z8 c)->
  (s.zipIdx k).foldl (λc x=>c.setIfInBounds (off+x.2) x.1) c.toArray=(eY c (off+k) s).toArray
 | [],k,c,_=>by simp[eY]
 | v::s,k,c,h=>by
  simp at h;have e:c.toArray.setIfInBounds (off+k) v=(c.set (off+k) v).toArray:=R
  rw[List.zipIdx_cons,CG];rw[e,IY s _ _ (by rw[List.length_set];omega)];simp[eY,aY];rw[show off+_=off+k+1 by omega,bq,List.getElem?_set_self J,List.take_set_of_le (aX _),List.drop_set_of_lt J,show off+k+1+Z8 s=off+k+(Z8 s+1) by omega];simp
def Fe(place:Nat->Option (Nat×Nat)):X SV->X (Nat×SV)->Option (X SV)
 | cells,[]=>Hg cells
 | cells,(i,v)::r=>match place i,CQ v with
  | some (off,size),Hg v=>bif Nat.beq (Z8 v) size&&Nat.ble (off+Z8 v) (Z8 cells) then Fe place (TI cells off v) r else ZQ
  | _,_=>ZQ
def CR β {place}:∀{parts:X _} {cells r:X SV},Fe place cells parts=Hg r->Instr.fill place (cV β cells).toArray (Fb β parts)=Hg (cV β r).toArray
 | [],cells,r,h=>by simp[Fe,cd]at h;subst h;rfl
 | _::e,cells,r,h=>by
  simp[Fe]at h;split at h
  .rename_i off s v p c;cases b:(Nat.beq (Z8 v) s&&Nat.ble _ (Z8 cells))with
   | false=>rw[b]at h;cases h
   | true=>
    rw[b]at h;simp only[H]at b;have k:=dh b.1;have l:=eG b.2;obtain⟨g,_⟩:=Am c β;have i:=CR β (parts:=e) (cells:=TI cells off v) h;rw[IX]at i;simp only[Fb,cu,Instr.fill,p,g,yD,gu];rw[W C];have d:=IY (off:=off) (cV β v) 0 (cV β cells) (by rw[gu,gu];omega);rw[gP]at d;have j:(cV β v).toArray.zipIdx.foldl (λf x=>f.setIfInBounds (off+x.2) x.1) (cV β cells).toArray=(eY (cV β cells) off (cV β v)).toArray:=by
     rw[<-d];simp
    exact(bK (λa=>Instr.fill place a _) j).trans i
  cases h
def T9(P:Program)(t:TypeId)(parts:X (Nat×SV)):Option (X SV):=
 match P.info? t,P.underlying t with
 | some i,Hg (.array _ e)=>(match i.zero,P.info? e with
  | some z,Hg e=>(match Mq z.cells.toList with
   | some z=>Fe (λa=>Hg (a*e.size,e.size)) z parts
   | none=>ZQ)
  | _,_=>ZQ)
 | some t,Hg (.struct fields)=>(match t.zero,fields.toList.mapM (λf=>(P.info? f.type).map λi=>(f.offset,i.size))with
  | some z,Hg p=>(match Mq z.cells.toList with
   | some z=>Fe (p.toArray[·]?) z parts
   | none=>ZQ)
  | _,_=>ZQ)
 | _,_=>ZQ
def apJ{P}{t}{parts}{r}(h:T9 P t parts=Hg r) β w:(Instr.build t (Fb β parts).toArray).run P w=.ok (.agg (cV β r).toArray) w:=by
 refine run_build w t _ _ ?_;unfold T9 at h;split at h
 .rename_i i n e a b;split at h
  .rename_i z e c d;split at h
   .rename_i z f;have:=CR β h;rw[BW β f]at this;simp[Program.built,a,b,c,d];simpa using this
   cases h
  cases h
 .rename_i i f a b;split at h
  .rename_i z p c d;split at h
   .rename_i z e;have:=CR β h;rw[BW β e]at this;simp[Program.built,a,b,c,d];simpa using this
   cases h
  cases h
 cases h
def sz(P:Program)(t:TypeId)(n:Nat):L:=match P.info? t with
 | some i=>Nat.beq i.size n
 | none=>aM
def rN{P}{t}{n}(h:sz P t n=aF) w:(sizeOf t).run P w=.ok n w:=by
 unfold sz at h;rcases hi:P.info? t with _|i
 .rw[hi]at h;cases h
 rw[hi]at h;rw[<-dh h];simp[sizeOf,typeInfo,hi]
def xT(P:Program)(t:TypeId):Nat:=match P.info? t with
 | some i=>i.size
 | none=>0
def mz{P}{t}{d}(h:P.underlying t=Hg d) w:(isAgg t).run P w=.ok (oo d) w:=by
 unfold isAgg;rw[Sem.run_bind,run_underlying h];cases d<;>rfl
def Ms(b:SV)(K:Nat->(Prop->Prop)->Prop):Prop:=match b with
 | .il _ n=>bif VM (0<=n)then K n.toNat id else False
 | .int _ n=>∃v,K v λp=>n=v/\p
 | _=>False
def ot{b}{K}(h:Ms b K):∃(v:Nat) (e:Prop->Prop) (k:IntKind) (n:Int),K v e/\sw b=Hg (k,n)/\(∀p,e p->n=v/\p):=by
 unfold Ms at h;split at h
 .rename_i k n;obtain⟨a,b⟩:=dT h;have a:=aO a;exact⟨_,_,k,n,b,I,λp c=>⟨J,c⟩⟩
 .rename_i k n;obtain⟨v,b⟩:=h;exact⟨v,_,k,n,b,I,λp a=>a⟩
 exact h.elim
def Pn(g:X (L×L))(s:Sl)(d:Nat)(st:St)(l h m:Option Operand)(K:SV->Prop):Prop:=match l,h,m with
 | some l,ZQ,ZQ=>cw (st.ev l) λa=>Ms a λb e=>gi g (e (b<=s.n/\s.n<=s.c))/\K (.sl (s.cut b s.n s.c d))
 | none,Hg h,ZQ=>cw (st.ev h) λa=>Ms a λb e=>gi g (e (b<=s.c))/\K (.sl (s.cut 0 b s.c d))
 | some l,Hg h,ZQ=>cw (st.ev l) λa=>cw (st.ev h) λb=>Ms a λi e=>Ms b λc f=>gi g (e (f (i<=c/\c<=s.c)))/\K (.sl (s.cut i c s.c d))
 | none,Hg h,Hg m=>cw (st.ev h) λb=>cw (st.ev m) λc=>Ms b λi e=>Ms c λa f=>gi g (e (f (i<=a/\a<=s.c)))/\K (.sl (s.cut 0 i a d))
 | some l,Hg h,Hg m=>cw (st.ev l) λa=>cw (st.ev h) λb=>cw (st.ev m) λc=>Ms a λk e=>Ms b λi f=>Ms c λj n=>gi g (e (f (n (k<=i/\i<=j/\j<=s.c))))/\K (.sl (s.cut k i j d))
 | _,_,_=>False
def PY(g:X (L×L))(s:ByteArray)(st:St)(l h m:Option Operand)(K:SV->Prop):Prop:=match l,h,m with
 | some l,ZQ,ZQ=>cw (st.ev l) λa=>Ms a λb e=>gi g (e (b<=s.size))/\K (.str (s.extract b s.size))
 | none,Hg h,ZQ=>cw (st.ev h) λa=>Ms a λb e=>gi g (e (b<=s.size))/\K (.str (s.extract 0 b))
 | some l,Hg h,ZQ=>cw (st.ev l) λa=>cw (st.ev h) λb=>Ms a λd e=>Ms b λc f=>gi g (e (f (d<=c/\c<=s.size)))/\K (.str (s.extract d c))
 | _,_,_=>False
def An(P:Program)(b:Builtin)(d:X Operand)(c:X TypeId)(st:St)(K:SV->Prop):Prop:=match b,d,c with
 | .len,[x],[t]=>cw (st.ev x) λa=>(match P.underlying t with
  | some (.slice _)=>cw (N9 a) λs=>K (.int .i64 s.n)
  | some .string=>cw (xS a) λs=>K (.int .i64 s.size)
  | _=>False)
 | .cap,[x],[t]=>cw (st.ev x) λa=>(match P.underlying t with
  | some (.slice _)=>cw (N9 a) λs=>K (.int .i64 s.c)
  | _=>False)
 | .min,[x,y],_=>cw (st.ev x) λa=>cw (st.ev y) λb=>cw (sw a) λp=>cw (sw b) λq=>K (.int p.1 (if q.2<p.2 then q.2 else p.2))
 | .max,[x,y],_=>cw (st.ev x) λa=>cw (st.ev y) λb=>cw (sw a) λp=>cw (sw b) λq=>K (.int p.1 (if q.2>p.2 then q.2 else p.2))
 | _,_,_=>False
def nif:TypeDesc->L
 | .interface _=>aM
 | _=>aF
def Ds(P:Program)(g:X (L×L))(st:St)(s d:TypeId)(a:SV)(K:SV->Prop):Prop:=match P.underlying s,P.underlying d with
 | some (.int _),Hg (.int kd)=>cw (sw a) λp=>K (.int kd (kd.wrap p.2))
 | some .string,Hg .string=>cw (xS a) λu=>K (.str u)
 | some (.slice e),Hg .string=>(match P.underlying e with
  | some (.int .u8)=>cw (N9 a) λu=>bif st.mv then False else ∃l,gi g (uN st.w0 u l)/\K (.str ⟨l.toArray⟩)
  | _=>False)
 | _,_=>False
def Qd(P:Program)(g:X (L×L))(st:St)(t:TypeId)(a:SV)(K:SV->Prop):Prop:=match P.underlying t with
 | none=>False
 | some d=>(match a with
  | .box i o=>cw (du st.bx i) λb=>bif b.ok&&sz P t (Z8 ((b.cells.drop o).take (xT P t)))&&(oo d||Nat.beq (Z8 ((b.cells.drop o).take (xT P t))) 1)then K (Rs (oo d) ((b.cells.drop o).take (xT P t)))else False
  | .ad p=>bif !st.mv&&sz P t (Z8 (TR P 12 t))&&(oo d||Nat.beq (Z8 (TR P 12 t)) 1)then ZA (TR P 12 t) λv=>gi g (Cells st.w0 p (cV β0 v))/\K (Rs (oo d) v)else False
  | _=>False)
def Ob:Operand->L
 | .const .nilIface=>aF
 | _=>aM
def T2:ay->L
 | .nilIface=>aF
 | _=>aM
def M3(v:ay):Prop:=v=.nilIface∨∃t x,v=.iface t x
def PQ(P:Program)(g:X (L×L))(op:BinOp)(t:TypeId)(a:SV)(K:SV->Prop):Prop:=match a,P.underlying t,op with
 | .raw v,Hg (.interface _),.eql=>gi g (M3 v.v)/\K (.bt (T2 v.v))
 | .raw v,Hg (.interface _),.neq=>gi g (M3 v.v)/\K (.bt (!T2 v.v))
 | _,_,_=>False
def adT{y}(h:Ob y=aF):y=.const .nilIface:=by grind [Ob]
def acD{P}{t}{ms}{v}(h:P.underlying t=Hg (.interface ms))(a:M3 v) w:(Op.equal t v .nilIface).run P w=.ok (T2 v) w:=by
 unfold Op.equal Op.maxDepth Op.equalIn;rcases a with rfl | ⟨b,x,rfl⟩<;>simp[run_underlying h]<;>rfl
def nNb{P}{op}{t}{x}{v}(h:M3 v) w:(eqGuard op t x (.const .nilIface) v .nilIface).run P w=.ok () w:=by
 unfold eqGuard;rcases h with rfl | ⟨a,x,rfl⟩<;>first | rfl | simp
def ae3{P}{gs}{st}{K}{op}{t ty}{x}{a}(k:st.ev x=Hg a)(h:PQ P gs op t a K):∃v,K v/\(gh gs->∀b c j,Rep b st c j->∀d i p f g w,
  (execOp c.eval ⟨d,.binOp op t x (.const .nilIface) ty,i,p,f,g⟩).run P w=.ok (.value (val b v)) w):=by
 unfold PQ at h;split at h
 .rename_i v s u;refine⟨_,h.2,λn b c j R d i p f g w=>?_⟩;have a:=iZ h.1 n;have e:c.eval x=v.v:=R.ev k;have l:c.eval (.const .nilIface)=.nilIface:=I;have m:binOp .eql t v.v .nilIface=(do pure (.bool (<-Op.equal t v.v .nilIface))):=by
   rcases a with h | ⟨o,x,h⟩<;>rw[h]<;>rfl
  simp[execOp,e,l,m,nNb a,acD u a];rfl
 .rename_i v s u;refine⟨_,h.2,λn b c j R d i p f g w=>?_⟩;have a:=iZ h.1 n;have e:c.eval x=v.v:=R.ev k;have l:c.eval (.const .nilIface)=.nilIface:=I;have m:binOp .neq t v.v .nilIface=(do pure (.bool (!(<-Op.equal t v.v .nilIface)))):=by
   rcases a with h | ⟨o,x,h⟩<;>rw[h]<;>rfl
  simp[execOp,e,l,m,nNb a,acD u a];rfl
 exact h.elim
def Oc(p:Addr)(i:Int)(len s:Nat)(q:Addr):Prop:=0<=i/\i<len/\p.add (i.toNat*s)=q
def Wp(n:Int)(F:Nat->Prop):Nat->Prop
 | 0=>True
 | 1=>n=0->F 0
 | j+2=>Wp n F (j+1)/\(n=((j+1))->F (j+1))
def Od{n}{F}:∀{m:Nat},Wp n F m->0<=n->n<m->F n.toNat
 | 0,_,h,a=>J
 | 1,h,a,b=>by
  have e:n=0:=J
  subst e;exact h I
 | j+2,h,a,b=>by
  by_cases e:n=((j+1))
  .have:=h.2 e;simp_all
  exact Od h.1 a J
def RQ(P:Program)(g:X (L×L))(st:St)(o:Op)(K:SV->Prop):Prop:=match o with
 | .move x=>cw (st.ev x) K
 | .assign x=>cw (st.ev x) K
 | .pick c x y=>cw (st.ev c) λc=>(match c with
  | .bl aF=>cw (st.ev x) K
  | .bl aM=>cw (st.ev y) K
  | _=>False)
 | .binOp op t x y _=>cw (st.ev x) λa=>cw (st.ev y) λb=>bif Ob y then PQ P g op t a K else KQ P g op t a b K
 | .unOp .not _ x=>cw (st.ev x) λa=>(match a with
  | .bl b=>K (.bl (!b))
  | .bt b=>K (.bt (!b))
  | _=>False)
 | .unOp .neg _ x=>cw (st.ev x) λa=>cw (sw a) λp=>K (.int p.1 (p.1.wrap (0-p.2)))
 | .convert s d x=>cw (st.ev x) λa=>Ds P g st s d a K
 | .extract x i=>cw (st.ev x) λa=>(match a with
  | .tup l=>bif EG l then cw ((pu l)[i]?) K else False
  | _=>False)
 | .build t p=>cw (st.YK p.toList) λps=>cw (T9 P t ps) λr=>K (.agg (Gx r))
 | .makeFunc n h c=>(match n with
  | .func f=>cw (st.QG h.toList) λa=>cw (st.QG c.toList) λb=>K (.fn f (Gx a) (Gx b))
  | _=>False)
 | .makeInterface t x=>cw (st.ev x) λa=>cw (P.underlying t) λd=>bif nif d&&cln (λ_=>aM) a then K (.raw ⟨.iface t (val β0 a),I⟩)else False
 | .nilCheck x=>cw (st.ev x) λa=>(match a with
  | .ad p=>K (.ad p)
  | .box i o=>K (.box i o)
  | .ptr p=>∃q,gi g (p=Hg q)/\K (.ad q)
  | .fn f .e c=>K (.fn f .e c)
  | _=>False)
 | .fieldAddr s x k=>cw (st.ev x) λa=>(match P.underlying s with
  | some (.struct h)=>cw (h[k]?) λf=>bif Nat.ble 1 (xT P f.type)then(match a with
   | .ad p=>K (.ad (p.add f.offset))
   | .box i o=>K (.box i (o+f.offset))
   | _=>False)else False
  | _=>False)
 | .field t x k=>cw (st.ev x) λa=>(match a,P.underlying t with
  | .agg l,Hg (.struct h)=>cw (h[k]?) λf=>cw (P.underlying f.type) λd=>bif EG l&&sz P f.type (Z8 (((pu l).drop f.offset).take (xT P f.type)))&&(oo d||Nat.beq (Z8 (((pu l).drop f.offset).take (xT P f.type))) 1)
   then K (Rs (oo d) (((pu l).drop f.offset).take (xT P f.type)))else False
  | _,_=>False)
 | .indexAddr t x i=>cw (st.ev x) λa=>cw (st.ev i) λj=>cw (sw j) λn=>(match P.underlying t with
  | some (.slice e)=>cw (N9 a) λs=>bif (P.info? e).isSome then ∃q,gi g (cM s n.2 (xT P e) q)/\K (.ad q)else False
  | some (.array len e)=>bif (P.info? e).isSome then(match a,j with
   | .box b o,.il _ n=>bif VM (0<=n)&&VM (n<len)then K (.box b (o+n.toNat*xT P e))else False
   | .ad p,.il _ n=>bif VM (0<=n)&&VM (n<len)then K (.ad (p.add (n.toNat*xT P e)))else False
   | .ad p,_=>∃q,gi g (Oc p n.2 len (xT P e) q)/\K (.ad q)
   | .box b o,_=>bif Nat.ble len 8 then(0<=n.2/\n.2<len)/\Wp n.2 (λj=>K (.box b (o+j*xT P e))) len else False
   | _,_=>False)else False
  | _=>False)
 | .load t x=>cw (st.ev x) λa=>Qd P g st t a K
 | .index t x i=>cw (st.ev x) λa=>cw (st.ev i) λj=>cw (sw j) λn=>(match P.underlying t with
  | some .string=>cw (xS a) λs=>∃c,gi g (0<=n.2/\s[n.2.toNat]? =Hg c)/\K (.int .u8 c.toNat)
  | _=>False)
 | .slice t x l i m=>cw (st.ev x) λa=>(match P.underlying t with
  | some (.slice e)=>cw (N9 a) λs=>bif (P.info? e).isSome then Pn g s (xT P e) st l i m K else False
  | some .string=>cw (xS a) λs=>PY g s st l i m K
  | _=>False)
 | .call c=>(match c.callee with
  | .builtin b=>An P b c.args.toList c.argTypes.toList st K
  | _=>False)
 | _=>False
def mem:Op->L
 | .load _ _=>aF
 | .convert _ _ _=>aF
 | _=>aM
def Y(P:Program)(st:St)(o:Op)(v:SV):Prop:=∀c a b,Rep c st a b->∀d t p f g w,(mem o=aF->w.heap=b.heap)->
 (execOp a.eval ⟨d,o,t,p,f,g⟩).run P w=.ok (.value (val c v)) w
def mA{P}{t}(h:(P.info? t).isSome=aF) w:(sizeOf t).run P w=.ok (xT P t) w:=by
 unfold xT;rcases hi:P.info? t with _|i
 .rw[hi]at h;cases h
 simp[sizeOf,typeInfo,hi]
def Gz b o n:(⟨b,o,ZQ⟩:Addr).add n=⟨b,o+n,ZQ⟩:=by unfold Addr.add;split<;>simp_all
def rj{d}(h:oo d=aF) β l:val β (Rs (oo d) l)=.agg (cV β l).toArray:=by
 rw[h];show Value.agg (su β _).toArray=_;rw[ua]
def CS{l:X SV}(h:Nat.beq (Z8 l) 1=aF):∃s,l=[s]:=by
 have:=dh h
 match l,this with
 | [s],_=>exact⟨s,I⟩
section
variable {P:Program} {gs:X (L×L)} {st:St} {K:SV->Prop}
def ae6{t}{x}{a}(c:st.ev x=Hg a)(h:Qd P gs st t a K):∃v,K v/\(gh gs->Y P st (.load t x) v):=by
 unfold Qd at h;split at h
 .exact h.elim
 rename_i d u;split at h
 .rename_i i o;obtain⟨b,j,h⟩:=bG h;obtain⟨f,g⟩:=dT h;simp only[H,dq]at f;obtain⟨⟨K,z⟩,n⟩:=f;refine⟨_,g,λ_ a act x R t v p q r w k=>?_⟩;have B:=(R.bx i b j K).blk;have L:Blk w (a i) b.ty (cV a b.cells):=by unfold Blk at B⊢;rw[k I];exact B
  have Q:=R.ev c;generalize m:(b.cells.drop o).take _=l at*
  have C:Cells w _ (cV a l):=L.HU o _ (by
   rw[<-m];simp only[cV,lh,Ag];rw[cf,se];simp only[bZ,bQ];omega)
  rcases n with T | n
  .rw[rj T];have:=mz (P:=P) u w;rw[T]at this;exact wE this (rN z w) (gu a l) Q C
  cases T:oo d
  .obtain⟨s,rfl⟩:=CS n;have:=mz (P:=P) u w;rw[T]at this;exact Gi this Q (Zy C)
  have e:=rj T a l;rw[T]at e;rw[e];have:=mz (P:=P) u w;rw[T]at this;exact wE this (rN z w) (gu a l) Q C
 .rename_i ad;obtain⟨b,i⟩:=dT h;simp only[H,dq,ey]at b;obtain⟨⟨q,z⟩,n⟩:=b;obtain⟨v,⟨F,K⟩,f,U⟩:=vG i;refine⟨_,K,λj a act x R t r p m g w k=>?_⟩;have l:=R.still q;subst l;have C:Cells w ad (cV a v):=by
   rw[iY (β:=a) (β':=β0) (g:=λ_=>aM) (λo h=>Rl) v (U _)];exact(iZ F j).keep (by rw[k I])
  have Q:=R.ev c;rw[<-f]at z n;rcases n with T | n
  .rw[rj T];have:=mz (P:=P) u w;rw[T]at this;exact wE this (rN z w) (gu a v) Q C
  cases T:oo d
  .obtain⟨s,rfl⟩:=CS n;have:=mz (P:=P) u w;rw[T]at this;exact Gi this Q (Zy C)
  have e:=rj T a v;rw[T]at e;rw[e];have:=mz (P:=P) u w;rw[T]at this;exact wE this (rN z w) (gu a v) Q C
 exact h.elim
def ae7{s d}{x}{a}(b:st.ev x=Hg a)(h:Ds P gs st s d a K):∃v,K v/\(gh gs->Y P st (.convert s d x) v):=by
 unfold Ds at h;split at h
 .rename_i s l a c;obtain⟨⟨k,n⟩,e,h⟩:=bG h;exact⟨_,h,λ_ f act m R d t p g i w j=>E6 (run_underlying a w) (run_underlying c w) ((R.ev b).trans (dH e f))⟩
 .rename_i a c;obtain⟨u,e,h⟩:=bG h;exact⟨_,h,λ_ f act k R d t p g i w j=>adU (run_underlying a w) (run_underlying c w) ((R.ev b).trans (jA e f))⟩
 .rename_i e a c;split at h
  .rename_i d;obtain⟨u,e,h⟩:=bG h;cases m:st.mv
   .rw[m]at h;obtain⟨l,F,K⟩:=h;refine⟨_,K,λg i act n R s t p j k o f=>?_⟩;have w:=R.still m;subst w;exact CL a d c ((R.ev b).trans (lJ e i)) (aiV _ _ (by rw[f I]) (iZ F g))
   rw[m]at h;exact h.elim
  exact h.elim
 exact h.elim
def ae8{b}{xs}{ts}(h:An P b xs ts st K):∃v,K v/\(gh gs->Y P st (.call ⟨.builtin b,xs.toArray,ts.toArray⟩) v):=by
 unfold An at h;split at h
 .obtain⟨a,x,h⟩:=bG h;split at h
  .rename_i u;obtain⟨s,a,h⟩:=bG h;exact⟨_,h,λ_ b act e R d t p f g w c=>ajA (run_underlying u w) ((R.ev x).trans (lJ a b))⟩
  .rename_i u;obtain⟨s,a,h⟩:=bG h;exact⟨_,h,λ_ b act e R d t p f g w c=>spl (run_underlying u w) ((R.ev x).trans (jA a b))⟩
  exact h.elim
 .obtain⟨a,x,h⟩:=bG h;split at h
  .rename_i u;obtain⟨s,a,h⟩:=bG h;exact⟨_,h,λ_ b act e R d t p f g w c=>ajF (run_underlying u w) ((R.ev x).trans (lJ a b))⟩
  exact h.elim
 .obtain⟨a,x,h⟩:=bG h;obtain⟨b,y,h⟩:=bG h;obtain⟨⟨k,m⟩,e,h⟩:=bG h;obtain⟨_,q,h⟩:=bG h;exact⟨_,h,λ_ c act w R d t p f g j i=>ajG ((R.ev x).trans (dH e c)) ((R.ev y).trans (dH q c))⟩
 .obtain⟨a,x,h⟩:=bG h;obtain⟨b,y,h⟩:=bG h;obtain⟨⟨k,m⟩,e,h⟩:=bG h;obtain⟨_,q,h⟩:=bG h;exact⟨_,h,λ_ c act w R d t p f g j i=>ajH ((R.ev x).trans (dH e c)) ((R.ev y).trans (dH q c))⟩
 exact h.elim
def ae9{t e}{x}{lo hi mx}{a}{s}(u:P.underlying t=Hg (.slice e))(B:(P.info? e).isSome=aF)(c:st.ev x=Hg a)(b:N9 a=Hg s)(h:Pn gs s (xT P e) st lo hi mx K):∃v,K v/\(gh gs->Y P st (.slice t x lo hi mx) v):=by
 unfold Pn at h;split at h
 .obtain⟨i,e,h⟩:=bG h;obtain⟨q,k,n,r,⟨F,K⟩,o,f⟩:=ot h;refine⟨_,K,λg a act s R d t p j l w m=>?_⟩;obtain⟨rfl,f1,f2⟩:=f _ (iZ F g);exact aaR (run_underlying u w) (mA B w) ((R.ev c).trans (lJ b a)) ((R.ev e).trans (dH o a)) f1 f2 (aX _)
 .obtain⟨i,e,h⟩:=bG h;obtain⟨q,k,n,r,⟨F,K⟩,o,f⟩:=ot h;refine⟨_,K,λg a act s R d t p j l w m=>?_⟩;obtain⟨rfl,f1⟩:=f _ (iZ F g);exact adi (run_underlying u w) (mA B w) ((R.ev c).trans (lJ b a)) ((R.ev e).trans (dH o a)) (bh _) f1 (aX _)
 .obtain⟨l,e,h⟩:=bG h;obtain⟨m,f,h⟩:=bG h;obtain⟨y,q,v,A,h,o,j⟩:=ot h;obtain⟨z,r,x,C,⟨F,K⟩,i,k⟩:=ot h;refine⟨_,K,λg a act E R d D p n s w t=>?_⟩;obtain⟨rfl,f1⟩:=j _ (iZ F g);obtain⟨rfl,f1,f2⟩:=k _ f1;exact mvE (run_underlying u w) (mA B w) ((R.ev c).trans (lJ b a)) ((R.ev e).trans (dH o a)) ((R.ev f).trans (dH i a)) f1 f2 (aX _)
 .obtain⟨l,e,h⟩:=bG h;obtain⟨m,f,h⟩:=bG h;obtain⟨y,q,v,A,h,o,j⟩:=ot h;obtain⟨z,r,x,C,⟨F,K⟩,i,k⟩:=ot h;refine⟨_,K,λg a act E R d D p n s w t=>?_⟩;obtain⟨rfl,f1⟩:=j _ (iZ F g);obtain⟨rfl,f1,f2⟩:=k _ f1;exact ahG (run_underlying u w) (mA B w) ((R.ev c).trans (lJ b a)) ((R.ev e).trans (dH o a)) ((R.ev f).trans (dH i a)) (bh _) f1 f2
 .obtain⟨r,e,h⟩:=bG h;obtain⟨s,f,h⟩:=bG h;obtain⟨t,g,h⟩:=bG h;obtain⟨G,x,D,I,h,o,l⟩:=ot h;obtain⟨H,y,E,J,h,j,m⟩:=ot h;obtain⟨q,z,k3,L,⟨F,K⟩,k,n⟩:=ot h;refine⟨_,K,λi a act N R d M p v A w C=>?_⟩;obtain⟨rfl,f1⟩:=l _ (iZ F i);obtain⟨rfl,f1⟩:=m _ f1;obtain⟨rfl,f1,f2,f3⟩:=n _ f1;exact neB (run_underlying u w) (mA B w) ((R.ev c).trans (lJ b a)) ((R.ev e).trans (dH o a)) ((R.ev f).trans (dH j a)) ((R.ev g).trans (dH k a)) f1 f2 f3
 exact h.elim
def afa{t}{x}{lo hi mx}{a}{s}(u:P.underlying t=Hg .string)(c:st.ev x=Hg a)(b:xS a=Hg s)(h:PY gs s st lo hi mx K):∃v,K v/\(gh gs->Y P st (.slice t x lo hi mx) v):=by
 unfold PY at h;split at h
 .obtain⟨i,e,h⟩:=bG h;obtain⟨q,k,n,r,⟨F,K⟩,o,f⟩:=ot h;refine⟨_,K,λg a act s R d t p j l w m=>?_⟩;obtain⟨rfl,f1⟩:=f _ (iZ F g);exact exI (run_underlying u w) ((R.ev c).trans (jA b a)) ((R.ev e).trans (dH o a)) f1 (aX _)
 .obtain⟨i,e,h⟩:=bG h;obtain⟨q,k,n,r,⟨F,K⟩,o,f⟩:=ot h;refine⟨_,K,λg a act s R d t p j l w m=>?_⟩;obtain⟨rfl,f1⟩:=f _ (iZ F g);exact ab7 (run_underlying u w) ((R.ev c).trans (jA b a)) ((R.ev e).trans (dH o a)) (bh _) f1
 .obtain⟨l,e,h⟩:=bG h;obtain⟨m,f,h⟩:=bG h;obtain⟨y,q,v,A,h,o,j⟩:=ot h;obtain⟨z,r,x,B,⟨F,K⟩,i,k⟩:=ot h;refine⟨_,K,λg a act D R d C p n s w t=>?_⟩;obtain⟨rfl,f1⟩:=j _ (iZ F g);obtain⟨rfl,f1,f2⟩:=k _ f1;exact afF (run_underlying u w) ((R.ev c).trans (jA b a)) ((R.ev e).trans (dH o a)) ((R.ev f).trans (dH i a)) f1 f2
 exact h.elim
def abA{t}{d}{l:X ay}{off n}(u:P.underlying t=Hg d)(a:sz P t n=aF)(T:oo d=aF) w:(part t l.toArray off).run P w=.ok (.agg ((l.drop off).take n).toArray) w:=by
 have h:=mz (P:=P) u w;rw[T]at h;unfold part;simp only[Sem.run_bind,h,Result.andThen_ok,yC,rN a w,Sem.run_pure];simp
def ad3{t}{d}{l:X ay}{off}{v}(u:P.underlying t=Hg d)(T:oo d=aM)(a:l[off]? =Hg v) w:(part t l.toArray off).run P w=.ok v w:=by
 have h:=mz (P:=P) u w;rw[T]at h;unfold part;simp_all
def Mu{o:Op}(h:RQ P gs st o K):∃v,K v/\(gh gs->Y P st o v):=by
 unfold RQ at h;split at h
 .obtain⟨v,x,K⟩:=bG h;exact⟨v,K,λ_ e act w R d t p a g c b=>by simp only[execOp,R.ev x,Sem.run_pure]⟩
 .obtain⟨v,x,K⟩:=bG h;exact⟨v,K,λ_ e act w R d t p a g c b=>by simp only[execOp,R.ev x,Sem.run_pure]⟩
 .obtain⟨c,a,h⟩:=bG h;split at h
  .obtain⟨v,x,K⟩:=bG h;exact⟨v,K,λ_ e act w R d t p f g c b=>abZ (R.ev a) (R.ev x)⟩
  .obtain⟨v,x,K⟩:=bG h;exact⟨v,K,λ_ e act w R d t p f g c b=>aeJ (R.ev a) (R.ev x)⟩
  exact h.elim
 .rename_i op t x y f;obtain⟨a,c,h⟩:=bG h;obtain⟨b,d,h⟩:=bG h;cases n:Ob y with
  | true=>
   rw[n]at h;have e:=adT n;subst e;obtain⟨v,K,r⟩:=ae3 c h;exact⟨v,K,λg a act w R s t p b i k j=>r g a act w R _ _ _ _ _ _⟩
  | false=>
  rw[n]at h;obtain⟨v,K,r⟩:=ah0 h;exact⟨v,K,λg a act w R s t p b e j i=>r g a act _ _ _ _ _ _ _ _ _ (R.ev c) (R.ev d)⟩
 .obtain⟨a,x,h⟩:=bG h;split at h
  .exact⟨_,h,λ_ e act w R d t p a g c b=>by simp only[execOp,R.ev x];rfl⟩
  .exact⟨_,h,λ_ e act w R d t p a g c b=>by simp only[execOp,R.ev x];rfl⟩
  exact h.elim
 .obtain⟨a,x,h⟩:=bG h;obtain⟨⟨k,n⟩,b,h⟩:=bG h;exact⟨_,h,λ_ i act w R d t p f g e c=>by simp only[execOp,R.ev x,dH b];rfl⟩
 .obtain⟨a,x,h⟩:=bG h;exact ae7 x h
 .rename_i x i;obtain⟨a,b,h⟩:=bG h;split at h
  .rename_i l;obtain⟨f,h⟩:=dT h;obtain⟨v,g,K⟩:=bG h;refine⟨v,K,λ_ a act w R d t p j k n m=>?_⟩;have e:=(R.ev b).trans (by
    show Value.tuple (su a l).toArray=_;rw[oY a f])
   have c:(cV a (pu l))[i]? =Hg (val a v):=by rw[cV,dr,g];rfl
   simp only[execOp,e,Instr.extract];simp[c]
  exact h.elim
 .rename_i t a;obtain⟨ps,c,h⟩:=bG h;obtain⟨r,f,K⟩:=bG h;refine⟨_,K,λ_ b act l R d k p g i w j=>?_⟩;have e:val b (.agg (Gx r))=.agg (cV b r).toArray:=by
   show Value.agg (su b (Gx r)).toArray=_;rw[ua]
  rw[e];obtain⟨pl⟩:=a;exact agR (R.YK c) (apJ f b w)
 .rename_i n s c;split at h
  .rename_i f;obtain⟨a,i,h⟩:=bG h;obtain⟨b,j,K⟩:=bG h;refine⟨_,K,λ_ m act w R d t p e g k l=>?_⟩;obtain⟨cl⟩:=c;have:=aiR (P:=P) (w:=k) (dst:=d) (t':=t) (p:=p) (af:=e) (g:=g) (fn:=.func f) (R.QG i) (R.QG j);rw[<-ua,<-ua]at this;exact this
  exact h.elim
 .obtain⟨a,x,h⟩:=bG h;obtain⟨d,u,h⟩:=bG h;obtain⟨b,K⟩:=dT h;simp at b;refine⟨_,K,λ_ c act k R s t p f g w i=>?_⟩;have e:val c a=val β0 a:=jQ (g:=λ_=>aM) (λj h=>Rl) a b.2;exact aiQ (run_underlying u w) (by unfold nif at b;cases d<;>first | rfl | exact b.1) ((R.ev x).trans e)
 .obtain⟨a,x,h⟩:=bG h;split at h
  .exact⟨_,h,λ_ e act w R d t p a g c b=>TD (R.ev x)⟩
  .exact⟨_,h,λ_ e act w R d t p a g c b=>TD (R.ev x)⟩
  .obtain⟨q,F,K⟩:=h;refine⟨_,K,λg f act w R d t p a b e c=>TD ((R.ev x).trans ?_)⟩;have:=iZ F g;subst this;rfl
  .exact⟨_,h,λ_ f act w R d t p a g c b=>by
    have e:=R.ev x;simp only[execOp,e,Sem.run_pure,val,su,List.headD_cons]⟩
  exact h.elim
 .obtain⟨a,x,h⟩:=bG h;split at h
  .rename_i c u;obtain⟨f,b,h⟩:=bG h;obtain⟨a,h⟩:=dT h;have a:=eG a;have s:(P.info? f.type).isSome=aF:=by
    unfold xT at a;split at a
    .rename_i h;rw[h];rfl
    omega
   obtain⟨d,m⟩:∃d,xT P f.type=d+1:=⟨xT P f.type-1,J⟩
   split at h
   .exact⟨_,h,λ_ k act j R t i p f g w e=>N5 (run_underlying u w) b (by rw[mA s,m]) (R.ev x) I⟩
   .exact⟨_,h,λ_ k act j R t i p f g w e=>N5 (run_underlying u w) b (by rw[mA s,m]) (R.ev x) (Gz _ _ _)⟩
   exact h.elim
  exact h.elim
 .obtain⟨a,x,h⟩:=bG h;split at h
  .rename_i l j u;obtain⟨f,c,h⟩:=bG h;obtain⟨d,hd,h⟩:=bG h;obtain⟨b,K⟩:=dT h;simp only[H,dq]at b;obtain⟨⟨g,z⟩,n⟩:=b;refine⟨_,K,λ_ a act y R t r p i m w q=>?_⟩;have e:=(R.ev x).trans (by
    show Value.agg (su a l).toArray=_;rw[oY a g])
   have v:cV a (((pu l).drop f.offset).take (xT P f.type))=((cV a (pu l)).drop f.offset).take (xT P f.type):=by
    simp only[cV,lh,Ag]
   have k:(part f.type (cV a (pu l)).toArray f.offset).run P w=.ok (val a (Rs (oo d) (((pu l).drop f.offset).take (xT P f.type)))) w:=by
    cases T:oo d
    .rcases n with n | n
     .rw[T]at n;cases n
     obtain⟨s,d⟩:=CS n;rw[d];refine ad3 hd T ?_ w;have h:(((pu l).drop f.offset).take (xT P f.type))[0]? =Hg s:=by rw[d];rfl
     rw[iX]at h;split at h
     .rw[gq,gP]at h;rw[cV,dr,h];rfl
     cases h
    have e:=rj T a (((pu l).drop f.offset).take (xT P f.type));rw[T]at e;rw[e,v];rw[abA (l:=cV a (pu l)) (off:=f.offset) hd z T w];congr 3;rw[se];simp only[cf,bZ,gu];omega
   simp only[execOp,e,Instr.field,Sem.run_bind,run_underlying u,Result.andThen_ok,c,asAgg,Sem.run_pure,k]
  exact h.elim
 .obtain⟨a,x,h⟩:=bG h;obtain⟨c,j,h⟩:=bG h;obtain⟨⟨k,n⟩,b,h⟩:=bG h;split at h
  .rename_i e u;obtain⟨s,f,h⟩:=bG h;obtain⟨i,h⟩:=dT h;obtain⟨q,F,K⟩:=h;exact⟨_,K,λg a act n R d t p k l w m=>aby (run_underlying u w) (mA i w) ((R.ev x).trans (lJ f a)) ((R.ev j).trans (dH b a)) (iZ F g)⟩
  .rename_i len e u;obtain⟨i,h⟩:=dT h;split at h
   .obtain⟨a,K⟩:=dT h;simp at a;exact⟨_,K,λe m act l R d t p f g w k=>yG (run_underlying u w) (mA i w) (R.ev x) (R.ev j) a.1 a.2 (Gz _ _ _)⟩
   .obtain⟨a,K⟩:=dT h;simp at a;exact⟨_,K,λe m act l R d t p f g w k=>yG (run_underlying u w) (mA i w) (R.ev x) (R.ev j) a.1 a.2 I⟩
   .obtain⟨q,F,K⟩:=h;exact⟨_,K,λg a act l R d t p f e w k=>yG (run_underlying u w) (mA i w) (R.ev x) ((R.ev j).trans (dH b a)) (iZ F g).1 (iZ F g).2.1 (iZ F g).2.2⟩
   .obtain⟨_,⟨a,d⟩,K⟩:=dT h;exact⟨_,Od K a d,λk e act m R s t p f g w l=>yG (run_underlying u w) (mA i w) (R.ev x) ((R.ev j).trans (dH b e)) a d (Gz _ _ _)⟩
   exact h.elim
  exact h.elim
 .obtain⟨a,x,h⟩:=bG h;exact ae6 x h
 .obtain⟨a,x,h⟩:=bG h;obtain⟨d,j,h⟩:=bG h;obtain⟨⟨k,n⟩,b,h⟩:=bG h;split at h
  .rename_i u;obtain⟨s,e,h⟩:=bG h;obtain⟨c,F,K⟩:=h;exact⟨_,K,λg a act m R t l p f i w k=>aiY (run_underlying u w) ((R.ev x).trans (jA e a)) ((R.ev j).trans (dH b a)) (iZ F g).1 (iZ F g).2⟩
  exact h.elim
 .obtain⟨a,x,h⟩:=bG h;split at h
  .rename_i e u;obtain⟨s,a,h⟩:=bG h;obtain⟨i,h⟩:=dT h;exact ae9 u i x a h
  .rename_i u;obtain⟨s,a,h⟩:=bG h;exact afa u x a h
  exact h.elim
 .rename_i c;obtain⟨a,⟨x⟩,⟨t⟩⟩:=c;split at h
  .rename_i b c;subst c;exact ae8 h
  exact h.elim
 exact h.elim
end
structure abx (β:Nat->Nat) (n:Nat) (fr:List (Nat×Nat×SV)) (D:List Deferred) (a:Act):Prop where
 sz:a.tmps.size=n
 df:a.defers=D
 at_:∀i p,eK fr i=Hg p->i<n->a.tmps[i]? =Hg (val β p.2)
def ub{β}{n}{fr}{D}{a}(b:abx β n fr D a):∃u,a=ED n u (cv β fr) D:=by
 refine⟨λi=>(a.tmps[i]?).getD undef,?_⟩;obtain⟨t,df⟩:=a;obtain⟨c,d,e⟩:=b;dsimp only at c d e;congr 1;apply Array.ext';apply im;intro i;by_cases h:i<n
 .rw[oX _ _ _ _ _ h,bO];rcases hl:eK fr i with _|p
  .rw[Gw (l:=cv β fr) KM]
   grind
  rw[wG (l:=cv β fr) (v:=val β p.2) KM]
  grind
 rw[cR C,cR (by rw[pY];exact Ba h)]
def ag7{β}{n}{fr}{D}{us}:abx β n fr D (ED n us (cv β fr) D):=by
 refine⟨by simp[ED,pY],I,λi p hl h=>?_⟩;simp[ED];rw[oX _ _ _ _ _ h,bO,wG (l:=cv β fr) (v:=val β p.2) KM]
def Rep.ok{β}{st}{a}{w}(h:Rep β st a w):abx β st.n st.fr (Ub st.df) a:=by
 obtain⟨u,rfl⟩:=h.fr;exact ag7
def U9(st:St)(o:X Oper)(j:Nat):Option (Nat×SV):=match iB o j with
 | some a=>(match a.dst with
  | some d=>(st.get d).map λs=>(d,s)
  | none=>ZQ)
 | none=>ZQ
def CT{st}{ops}{j d}{s}(h:U9 st ops j=Hg (d,s)):∃o,iB ops j=Hg o/\o.dst=Hg d/\st.get d=Hg s:=by
 unfold U9 at h;split at h
 .rename_i b a;split at h
  .rename_i e c;cases g:st.get e<;>grind
  cases h
 cases h
section
variable {β:Nat->Nat} {st:St} {a:Act} {w:aw} {ops:X Oper} {o:Oper} {j d:Nat} {want b:L}
def sA(R:Rep β st a w)(g:o.guard=Hg (j,want)){s}(t:U9 st ops j=Hg (d,s))(f:val β s=.bool b):Region.wanted o (yielded ops.toArray a.tmps)=(b==want):=by
 obtain⟨i,h,c,e⟩:=CT t;obtain⟨u,rfl⟩:=R.fr;exact wtF g h c (by rw[<-f];exact St.evO β e) I
def Ao(R:Rep β st a w)(g:o.guard=Hg (j,want))(t:U9 st ops j=Hg (d,.un)):Region.wanted o (yielded ops.toArray a.tmps)=aM:=by
 obtain⟨e,h,b,c⟩:=CT t;obtain⟨u,rfl⟩:=R.fr;exact wuF g h b (St.evO β (x:=.tmp d) (s:=.un) c)
def Rep.set(R:Rep β st a w){s s'}(h:st.get d=Hg s)(v:val β s=val β s'):Rep β (st.put (Hg d) s') a w:=by
 refine⟨ub ⟨R.ok.sz,R.ok.df,λc p hl i=>?_⟩,R.bx,R.ne,R.only,R.still⟩;simp[St.put,eK]at hl;cases b:Nat.beq d c
 .rw[b]at hl;exact R.ok.at_ c p Wi i
 rw[b]at hl;simp at hl;subst hl;have:=dh b;subst this;unfold St.get at h;cases T:Nat.blt d st.n
 .rw[T]at h;cases h
 rw[T]at h;rcases hq:eK st.fr d with _|q
 .rw[hq]at h;cases h
 rw[hq]at h;simp at h;rw[R.ok.at_ d q hq i,h,v]
end
section
variable {P:Program} {ops:X Oper} {w:aw}
def yL(P:Program)(o:X Oper)(w:aw):X Oper->Act->Act->Prop
 | [],a,b=>b=a
 | b::r,a,d=>(Region.wanted b (yielded o.toArray a.tmps)=aF/\∃v,(∀c,c.heap=w.heap->(execOp a.eval b).run P c=.ok (.value v) c)/\yL P o w r (a.put b.dst v) d)∨
  (Region.wanted b (yielded o.toArray a.tmps)=aM/\yL P o w r (a.put b.dst undef) d)
def CU:∀{l m:X Oper} {a b c:Act},yL P ops w l a b->yL P ops w m b c->yL P ops w (l++m) a c
 | [],_,_,_,_,h,k=>by
  subst h;exact k
 | o::r,m,a,b,c,e,k=>by
  rcases e with⟨h,v,f,d⟩ | ⟨h,d⟩
  .exact .inl ⟨h,v,f,CU (l:=r) d k⟩
  exact .inr ⟨h,CU (l:=r) d k⟩
def GA{Q}:∀{l rest:X Oper} {a c:Act},yL P ops w l a c->wpList P ops.toArray Q rest c w->wpList P ops.toArray Q (l++rest) a w
 | [],_,_,_,h,k=>by
  subst h;exact k
 | o::r,m,a,b,e,k=>by
  rcases e with⟨h,v,f,d⟩ | ⟨h,d⟩
  .exact L9 v h (f w I) I (GA (l:=r) d k)
  exact acu h I (GA (l:=r) d k)
def Mx{Q}:∀{l rest:X Oper} {a d:Act},yL P ops w l a d->wpQuiet P ops.toArray (λc=>∃n,c=w.drewN n) Q rest d->wpQuiet P ops.toArray (λc=>∃n,c=w.drewN n) Q (l++rest) a
 | [],_,_,_,h,k=>by
  subst h;exact k
 | o::r,m,a,b,f,k=>by
  rcases f with⟨h,v,g,e⟩ | ⟨h,e⟩
  .exact ajI v h (by rintro _ ⟨n,rfl⟩;exact g _ I) I (Mx (l:=r) e k)
  exact aq7 h I (Mx (l:=r) e k)
def GB:X Oper->X Nat
 | []=>[]
 | o::r=>match o.dst with
  | some d=>d::GB r
  | none=>GB r
def lW(a:Act) d v:(a.put d v).tmps.size=a.tmps.size/\(a.put d v).defers=a.defers/\∀i,d≠Hg i->(a.put d v).tmps[i]? =a.tmps[i]? :=by
 rcases d with _|k
 .exact⟨I,I,λ_ _=>I⟩
 refine⟨by simp[Act.put],I,λi h=>?_⟩;simp[Act.put]
 grind
def unM:∀{l:X Oper} {a c:Act},yL P ops w l a c->c.tmps.size=a.tmps.size/\c.defers=a.defers/\∀i,(GB l).elem i=aM->c.tmps[i]? =a.tmps[i]?
 | [],_,_,h=>by
  subst h;exact⟨I,I,λ_ _=>I⟩
 | o::r,a,b,e=>by
  have k:∀v,yL P ops w r _ b->b.tmps.size=a.tmps.size/\b.defers=a.defers/\∀i,(GB (o::r)).elem i=aM->b.tmps[i]? =a.tmps[i]? :=λv h=>by
   obtain⟨j,m,k3⟩:=unM h;obtain⟨p,n,q⟩:=lW a o.dst v;refine⟨j.trans p,m.trans n,λi b=>?_⟩;rcases hd:o.dst with _|d
   .simp only[GB,hd]at b;simp_all
   simp only[GB,hd,xD]at b;split at b<;>grind
  rcases e with⟨f,v,g,h⟩ | _<;>grind
end
def ajS(o:X Oper):Nat->Nat->Nat->L
 | 0,_,_=>aM
 | f+1,q,j=>bif Nat.beq q j then aF else match iB o q with
  | some a=>(match a.guard with
   | some (r,_)=>ajS o f r j
   | none=>aM)
  | none=>aM
def BF(o:X Oper)(j:Nat):X Oper->Nat
 | []=>0
 | a::r=>match a.guard with
  | some (q,_)=>bif ajS o 50 q j then BF o j r+1 else 0
  | none=>0
def VN(t:L)(a b:SV):Option SV:=match a,b with
 | .bl aF,.bl aM=>Hg (.bt t)
 | .bl aF,.bt y=>Hg (.bt (t||y))
 | .bt x,.bl aM=>Hg (.bt (t&&x))
 | .bl aM,.bl aF=>Hg (.bt (!t))
 | .bl aM,.bt y=>Hg (.bt (!t&&y))
 | .bt x,.bl aF=>Hg (.bt (!t||x))
 | .bt x,.bt y=>Hg (.bt (bif t then x else y))
 | .bl aF,.bl aF=>Hg (.bl aF)
 | .bl aM,.bl aM=>Hg (.bl aM)
 | _,_=>ZQ
def TW{t}{a b v}(h:VN t a b=Hg v) β:(t=aF->val β v=val β a)/\(t=aM->val β v=val β b):=by
 unfold VN at h;split at h<;>simp at h<;>subst h<;>refine⟨λe=>?_,λe=>?_⟩<;>subst e<;>simp[val,su]
def CW(d:X Nat):X (Nat×Nat×SV)->X (Nat×Nat×SV)
 | []=>[]
 | p::r=>bif d.elem p.1 then CW d r else p::CW d r
def mG{ds}:∀{l:X _} {i:Nat},(ds.elem i=aF->eK (CW ds l) i=ZQ)/\(ds.elem i=aM->eK (CW ds l) i=eK l i)
 | [],i=>⟨λ_=>I,λ_=>I⟩
 | (k,p)::r,i=>by
  obtain⟨h,a⟩:=mG (ds:=ds) (l:=r) (i:=i);simp only[CW];cases b:ds.elem k
  .simp[eK];cases c:Nat.beq k i<;>simp_all
  simp only[cond_true];refine⟨h,λc=>?_⟩;rw[a c];simp[eK];cases d:Nat.beq k i<;>simp_all
def St.qM(st:St)(d:X Nat):St:={st with fr:=CW d st.fr}
def Ext.qM st ds:Ext st (st.qM ds):=
 ⟨I,aX _,λi k v h _=>by
  cases e:ds.elem i with
  | true=>rw[show eK (st.qM ds).fr i=ZQ from(mG (l:=st.fr)).1 e]at h;cases h
  | false=>rw[show eK (st.qM ds).fr i=eK st.fr i from(mG (l:=st.fr)).2 e]at h;exact h,λi b a o _=>⟨b,a,o,I,I,I,λ_ a=>a⟩,TQ,Ij⟩
structure Alike (s t:St):Prop where
 bx:t.bx=s.bx
 w0:t.w0=s.w0
 mv:t.mv=s.mv
 dt:t.dt=s.dt
 n:t.n=s.n
 df:t.df=s.df
def Alike.refl s:Alike s s:=⟨I,I,I,I,I,I⟩
def Alike.trans{s t u}(h:Alike s t)(k:Alike t u):Alike s u:=⟨k.bx.trans h.bx,k.w0.trans h.w0,k.mv.trans h.mv,k.dt.trans h.dt,k.n.trans h.n,k.df.trans h.df⟩
def Alike.put s d v:Alike s (s.put d v):=by cases d<;>exact⟨I,I,I,I,I,I⟩
def TT:=@Alike.put
def Rep.alike{β}{s t}{a a'}{w}(h:Rep β s a w)(k:Alike s t)(p:abx β t.n t.fr (Ub t.df) a'):Rep β t a' w:=by
 obtain⟨j,c,k3,v,x,y⟩:=k;refine⟨ub p,λi b g r=>?_,λi u l m d f n o=>?_,?_,λq=>?_⟩
 .rw[j]at g;obtain⟨a,k,s⟩:=h.bx i b g r;exact⟨a,k,λe=>by rw[c];exact s e⟩
 .rw[j]at d f;exact h.ne i u l m d f n o
 .rw[c,v];exact h.only
 rw[c];exact h.still (by rw[<-k3];exact q)
def Ap(P:Program)(o:X Oper):Nat->X (L×L)->X Oper->St->(St->Prop)->Prop
 | 0,_,_,_,_=>False
 | _+1,_,[],st,K=>K st
 | f+1,g,a::r,st,K=>match a.guard with
  | none=>RQ P g st a.op λv=>Ap P o f g r (st.put a.dst v) K
  | some (j,want)=>(match U9 st o j with
   | some (_,.un)=>Ap P o f g r (st.put a.dst .un) K
   | some (_,.bl b)=>bif b==want then RQ P g st a.op λv=>Ap P o f g r (st.put a.dst v) K else Ap P o f g r (st.put a.dst .un) K
   | some (d,.bt t)=>(match(a::r)[BF o j (a::r)]? with
    | some p=>(match p.dst with
     | some k=>
      Ap P o f (g++[(t,aF)]) ((a::r).take (BF o j (a::r)+1)) (st.put (Hg d) (.bl aF)) λs=>
      cw (s.get k) λb=>
      Ap P o f (g++[(t,aM)]) ((a::r).take (BF o j (a::r)+1)) (st.put (Hg d) (.bl aM)) λsb=>
      cw (sb.get k) λc=>
      cw (VN t b c) λv=>
      Ap P o f g ((a::r).drop (BF o j (a::r)+1)) ((st.qM (GB ((a::r).take (BF o j (a::r)+1)))).put (Hg k) v) K
     | none=>False)
    | none=>False)
   | _=>False)
def My:∀{gs:X _} {t b:L},gh gs->t=b->gh (gs++[(t,b)])
 | [],_,_,_,h=>⟨h,trivial⟩
 | _::r,_,_,h,k=>⟨h.1,My (gs:=r) h.2 k⟩
def uc{P}{ops}:∀{f:Nat} {g:X _} {l:X Oper} {st:St} {K:St->Prop},Ap P ops f g l st K->
  ∃j,K j/\Ext st j/\Alike st j/\(gh g->∀c a w,Rep c st a w->∃e,yL P ops w l a e/\Rep c j e w)
 | 0,_,_,_,_,h=>h.elim
 | _+1,g,[],st,K,h=>⟨st,h,VY _,Alike.refl _,λ_ c a w R=>⟨a,I,R⟩⟩
 | f+1,g,o::r,st,K,h=>by
  have one:(Region.wanted o=λ_=>aF)∨True->∀{K:St->Prop},(RQ P g st o.op λv=>Ap P ops f g r (st.put o.dst v) K)->
    (gh g->∀c a w,Rep c st a w->Region.wanted o _=aF)->
    ∃j,K j/\Ext st j/\Alike st j/\(gh g->∀c a w,Rep c st a w->∃e,yL P ops w (o::r) a e/\Rep c j e w):=λ_ K h m=>by
   obtain⟨v,i,y⟩:=Mu h;obtain⟨j,p,q,k3,s⟩:=uc i;refine⟨j,p,(Nr _ _ _).trans q,(TT _ _ _).trans k3,λb c a w R=>?_⟩;obtain⟨e,d,f⟩:=s b c _ w (R.put o.dst v);exact⟨e,.inl ⟨m b c a w R,_,λt k=>y b c a w R _ _ _ _ _ t λ_=>k,d⟩,f⟩
  have n:∀{K:St->Prop},Ap P ops f g r (st.put o.dst .un) K->(gh g->∀c a w,Rep c st a w->Region.wanted o _=aM)->
    ∃j,K j/\Ext st j/\Alike st j/\(gh g->∀c a w,Rep c st a w->∃e,yL P ops w (o::r) a e/\Rep c j e w):=λi k=>by
   obtain⟨j,m,p,k3,q⟩:=uc i;refine⟨j,m,(Nr _ _ _).trans p,(TT _ _ _).trans k3,λb c a w R=>?_⟩;obtain⟨e,d,f⟩:=q b c _ w (R.put o.dst .un);exact⟨e,.inr ⟨k b c a w R,d⟩,f⟩
  unfold Ap at h;split at h
  .rename_i b;exact one (.inr trivial) h λ_ c a w R=>wn b
  rename_i m i f;split at h
  .rename_i d t;exact n h λ_ c a w R=>Ao R f t
  .rename_i d b t;cases k:(b==i)with
   | true=>
    rw[k]at h;exact one (.inr trivial) h λ_ c a w R=>by rw[sA R f t (b:=b) rfl,k]
   | false=>
    rw[k]at h;exact n h λ_ c a w R=>by rw[sA R f t (b:=b) rfl,k]
  .rename_i d t q;obtain⟨u,L,b,T⟩:=CT q;split at h
   .rename_i y d;split at h
    .rename_i k hk;generalize BF ops m _=Y at h d;obtain⟨sa,N,am,G,H⟩:=uc h;obtain⟨va,S,N⟩:=bG N;obtain⟨sb,E,aC,J,M⟩:=uc N;obtain⟨vb,V,E⟩:=bG E;obtain⟨v,W,E⟩:=bG E;obtain⟨j,k1,k2,k3,k4⟩:=uc E;refine⟨j,k1,((Ext.qM _ _).trans (Nr _ _ _)).trans k2,((⟨I,I,I,I,I,I⟩:Alike st (st.qM _)).trans (TT _ _ _)).trans k3,λQ c a w R=>?_⟩;have C:∀(s:SV) Z x,Rep c Z a w->(∃e,yL P ops w ((o::r).take (Y+1)) a e/\∃F,Rep c F e w/\F.n=st.n/\F.get k=Hg x/\val c v=val c x)->∃e,yL P ops w (o::r) a e/\Rep c j e w:=by
      rintro s Z x B ⟨z,A,F,r1,r2,r3,r4⟩;obtain⟨f1,f2,f3⟩:=unM A;have js:Rep c ((st.qM (GB ((o::r).take (Y+1)))).put (Hg k) v) z w:=by
       refine R.alike ((⟨I,I,I,I,I,I⟩:Alike st (st.qM _)).trans (TT _ _ _)) ⟨f1.trans R.ok.sz,f2.trans R.ok.df,λs p a v=>?_⟩;simp[St.put,eK]at a;cases t:Nat.beq k s
       .rw[t]at a;cases k:(GB _).elem s
        .rw[show eK (st.qM _).fr s=eK st.fr s from(mG (l:=st.fr)).2 k]at a;rw[f3 s k];exact R.ok.at_ s p a v
        rw[show eK (st.qM _).fr s=ZQ from(mG (l:=st.fr)).1 k]at a;cases a
       rw[t]at a;simp at a;subst a;have:=dh t;subst this;rw[r4,<-r1.get r3];have p:k<z.tmps.size:=by rw[f1,R.ok.sz];exact v
       simp[Act.eval,p]
      obtain⟨a2,D,g3⟩:=k4 Q c z w js;refine⟨a2,?_,g3⟩;have:=CU A D;simp_all
     cases t
     .have B:Rep c (st.put _ (.bl aM)) a w:=R.set T I;obtain⟨z,A,D⟩:=M (My Q I) c a w B;exact C (.bl aM) _ vb B ⟨z,A,sb,D,J.n.trans I,V,(TW W c).2 I⟩
     have B:Rep c (st.put _ (.bl aF)) a w:=R.set T I;obtain⟨z,A,D⟩:=H (My Q I) c a w B;exact C (.bl aF) _ va B ⟨z,A,sa,D,G.n.trans I,S,(TW W c).1 I⟩
    exact h.elim
   exact h.elim
  exact h.elim
def lX:∀l b i,du (l++[b]) i=if i=Z8 l then Hg b else du l i
 | [],b,0=>rfl
 | [],b,i+1=>rfl
 | a::r,b,0=>rfl
 | a::r,b,i+1=>by
  simp;exact lX r b i
def ud:∀{l:X lU} {i:Nat} {b:lU},du l i=Hg b->i<Z8 l
 | a::r,0,_,_=>R
 | a::r,i+1,b,h=>by simp[du]at h;have:=ud h;simp;omega
def kj:∀{l:X lU} {i:Nat} {b c:lU},du l i=Hg b->∀j,du (Rq l i c) j=if j=i then Hg c else du l j
 | a::r,0,b,c,_,0=>rfl
 | a::r,0,b,c,_,j+1=>rfl
 | a::r,i+1,b,c,h,0=>rfl
 | a::r,i+1,b,c,h,j+1=>by
  simp[du]at h;simp;exact kj h j
def qt{b}{p q}(h:bif b then p else q):(b=aF/\p)∨(b=aM/\q):=RZ
def LC(x:X lU)(i:Nat):Nat:=match du x i with
 | some b=>b.blk.getD 0
 | none=>0
def I0(x:X lU)(i:Nat):L:=match du x i with
 | some b=>b.ok&&b.blk.isSome
 | none=>aM
abbrev St.bl(st:St)(i:Nat):Nat:=LC st.bx i
abbrev St.Ny(st:St)(i:Nat):L:=I0 st.bx i
def Rep.bl{β}{st}{a}{w}(c:Rep β st a w) i (h:st.Ny i=aF):st.bl i=β i:=by
 unfold St.Ny I0 at h;unfold St.bl LC;rcases hb:du st.bx i with _|b
 .rw[hb]at h;cases h
 rw[hb]at h;simp at h;rcases hk:b.blk with _|k
 .rw[hk]at h;cases h.2
 have:=(c.bx i b hb h.1).at_ k hk;simp[hk,this]
def Rep.wv{β}{st}{a}{w}(h:Rep β st a w){l}(c:jz st.Ny l=aF):cV st.bl l=cV β l:=iY (g:=st.Ny) h.bl l c
def Rep.ani{β}{st}{a}{w}(h:Rep β st a w){s}(c:cln st.Ny s=aF):val st.bl s=val β s:=jQ (g:=st.Ny) h.bl s c
def I1:X lU->(X lU->Prop)->Prop
 | [],K=>K []
 | b::r,K=>match b.ok,b.blk with
  | true,ZQ=>∀k,I1 r λa=>K ({b with blk:=Hg k}::a)
  | _,_=>I1 r λa=>K (b::a)
def vH(k:Nat)(b:lU):lU:=match b.ok,b.blk with
 | true,ZQ=>{b with blk:=Hg k}
 | _,_=>b
def rl(a:Nat->Nat):Nat->X lU->X lU
 | _,[]=>[]
 | n,b::r=>vH (a n) b::rl a (n+1) r
def CX β:∀{s:X lU} n {K:X lU->Prop},I1 s K->K (rl β n s)
 | [],_,_,h=>h
 | b::r,n,K,h=>by
  unfold I1 at h;unfold rl;split at h
  .have:=CX β (n+1) (h (β n));have e:vH (β n) b={b with blk:=Hg (β n)}:=by unfold vH<;>simp_all
   simp_all
  have:=CX β (n+1) h;have e:vH (β n) b=b:=by simp[vH]
  simp_all
def CY β:∀s n i,du (rl β n s) i=(du s i).map (vH (β (n+i)))
 | [],_,_=>rfl
 | b::r,n,0=>rfl
 | b::r,n,i+1=>by
  simp[rl,du];rw[CY β r _ i,show n+1+i=n+(i+1) by omega]
def I2(a w:aw):X lU->X lU->Prop->Prop
 | b::r,c::d,p=>match b.ok,b.blk with
  | true,ZQ=>a.heap.size<=c.blk.getD 0->c.blk.getD 0<w.heap.size->I2 a w r d p
  | _,_=>I2 a w r d p
 | _,_,p=>p
def CZ{β}{w0 w}:∀{s:X lU} n {p:Prop},I2 w0 w s (rl β n s) p->(∀i b,du s i=Hg b->b.ok=aF->b.blk=ZQ->w0.heap.size<=β (n+i)/\β (n+i)<w.heap.size)->p
 | [],_,_,h,_=>h
 | b::r,n,p,h,a=>by
  simp[rl]at h;unfold I2 at h;split at h
  .rename_i d f;obtain⟨g,j⟩:=a 0 b I d f;have e:(vH (β n) b).blk.getD 0=β n:=by unfold vH;rw[d,f];rfl
   rw[e]at h;exact CZ _ (h g j) λi c k=>by have:=a (i+1) c k;rwa[show n+_=n+1+i by omega]at this
  exact CZ _ h λi c b=>by have:=a (i+1) c b;rwa[show n+_=n+1+i by omega]at this
def Uc(g:Nat->L)(bl:Nat->Nat)(w:aw)(a:L):X lU->Prop->Prop
 | [],p=>p
 | b::r,p=>bif b.ok&&b.blk.isSome&&b.esc&&(a||!b.sh)&&jz g b.cells then Blk w (b.blk.getD 0) b.ty (cV bl b.cells)->Uc g bl w a r p else Uc g bl w a r p
def GC{g}{bl}{w}{all}:∀{s:X lU} {p:Prop},Uc g bl w all s p->(∀i b,du s i=Hg b->b.ok=aF->b.blk.isSome=aF->jz g b.cells=aF->Blk w (b.blk.getD 0) b.ty (cV bl b.cells))->p
 | [],_,h,_=>h
 | b::r,p,a,d=>by
  unfold Uc at a;cases h:(b.ok&&b.blk.isSome&&b.esc&&_&&jz g b.cells)with
  | true=>
   rw[h]at a;simp at h;exact GC (a (d 0 b I h.1.1.1.1 h.1.1.1.2 h.2)) λi c e=>d (i+1) c e
  | false=>
   rw[h]at a;exact GC a λi c b=>d (i+1) c b
def yM:X lU->X lU
 | []=>[]
 | b::r=>{b with sh:=b.esc}::yM r
def sB:∀l i,du (yM l) i=(du l i).map λb=>{b with sh:=b.esc}
 | [],_=>rfl
 | b::r,0=>rfl
 | b::r,i+1=>sB r i
def C0(s:X lU):X Nat->L
 | []=>aF
 | i::r=>(match du s i with
  | some b=>b.ok
  | none=>aM)&&C0 s r
def wH{bs}:∀{l:X Nat},C0 bs l=aF->∀i∈l,∃b,du bs i=Hg b/\b.ok=aF
 | i::r,h,a,j=>by
  simp[C0]at h;rcases aZ.1 j with rfl | j
  .split at h<;>grind
  exact wH h.2 a j
def Rt:X lU->X lU->X (Nat×L)
 | b::r,c::a=>bif b.ok&&b.blk.isNone then(c.blk.getD 0,b.esc)::Rt r a else Rt r a
 | _,_=>[]
def TX(k:Nat):X (Nat×L)->Prop->Prop
 | [],p=>p
 | x::r,p=>bif x.2 then TX k r p else(x.1≠k->TX k r p)
def TY(a:X (Nat×L)):X (Nat×L)->Prop->Prop
 | [],p=>p
 | x::r,p=>bif x.2 then TX x.1 a (TY a r p)else TY a r p
def GD{k}:∀{l:X _} {p:Prop},TX k l p->(∀y,y∈l->y.2=aM->y.1≠k)->p
 | [],_,h,_=>h
 | x::r,p,h,hd=>by
  unfold TX at h;cases a:x.2
  .rw[a]at h;exact GD (h (hd x eW a)) λy b=>hd y (dw _ b)
  rw[a]at h;exact GD h λy b=>hd y (dw _ b)
def GF{all}:∀{l:X _} {p:Prop},TY all l p->(∀x,x∈l->x.2=aF->∀y,y∈all->y.2=aM->y.1≠x.1)->p
 | [],_,h,_=>h
 | x::r,p,h,hd=>by
  unfold TY at h;cases a:x.2
  .rw[a]at h;exact GF h λz b=>hd z (dw _ b)
  rw[a]at h;exact GF (GD h λy b f=>hd x eW a y b f) λz c=>hd z (dw _ c)
def yN{β}:∀{s:X lU} n {x:Nat×L},x∈Rt s (rl β n s)->∃i b,du s i=Hg b/\b.ok=aF/\x=(β (n+i),b.esc)
 | [],_,_,h=>Rl
 | b::r,n,x,h=>by
  simp[rl,Rt]at h;cases a:(b.ok&&b.blk.isNone)with
  | true=>
   rw[a]at h;simp at a;rcases aZ.1 h with rfl | h
   .refine⟨0,b,I,a.1,?_⟩;have:(vH (β n) b).blk.getD 0=β n:=by unfold vH;rw[a.1,a.2];rfl
    rw[this];rfl
   obtain⟨i,c,b,d,e⟩:=yN _ h;exact⟨i+1,c,b,d,RZ⟩
  | false=>
   rw[a]at h;obtain⟨i,c,b,d,e⟩:=yN _ h;exact⟨i+1,c,b,d,RZ⟩
def C1:X lU->X Nat
 | []=>[]
 | b::r=>bif b.ok&&b.blk.isSome&&b.esc&&!b.sh then b.blk.getD 0::C1 r else C1 r
def C2:X lU->X Nat
 | []=>[]
 | b::r=>bif b.ok&&b.blk.isSome&&!b.esc then b.blk.getD 0::C2 r else C2 r
def OA(k:Nat):X Nat->Prop->Prop
 | [],p=>p
 | x::r,p=>x≠k->OA k r p
def ZJ(W:X Nat):X Nat->Prop->Prop
 | [],p=>p
 | k::r,p=>OA k W (ZJ W r p)
def afN{k}:∀{l:X Nat} {p:Prop},OA k l p->(∀y,y∈l->y≠k)->p
 | [],_,h,_=>h
 | x::r,p,h,hd=>afN (h (hd x eW)) λy a=>hd y (dw _ a)
def GH{W4}:∀{l:X Nat} {p:Prop},ZJ W4 l p->(∀k,k∈l->∀y,y∈W4->y≠k)->p
 | [],_,h,_=>h
 | k::r,p,h,hd=>GH (afN h λy a=>hd k eW y a) λz b=>hd z (dw _ b)
def Aq:∀{s:X lU} {x:Nat},x∈C1 s->∃i b,du s i=Hg b/\b.ok=aF/\b.esc=aF/\b.blk=Hg x
 | [],_,h=>Rl
 | b::r,x,h=>by
  simp[C1]at h;cases a:(b.ok&&b.blk.isSome&&b.esc&&!b.sh)with
  | true=>
   rw[a]at h;simp at a;rcases aZ.1 h with rfl | h
   .obtain⟨k,hk⟩:=fU.1 a.1.1.2;exact⟨0,b,I,a.1.1.1,a.1.2,T8⟩
   obtain⟨i,c,b,d⟩:=Aq h;exact⟨i+1,c,b,d⟩
  | false=>
   rw[a]at h;obtain⟨i,c,b,d⟩:=Aq h;exact⟨i+1,c,b,d⟩
def Ar:∀{s:X lU} {x:Nat},x∈C2 s->∃i b,du s i=Hg b/\b.ok=aF/\b.esc=aM/\b.blk=Hg x
 | [],_,h=>Rl
 | b::r,x,h=>by
  simp[C2]at h;cases a:(b.ok&&b.blk.isSome&&!b.esc)with
  | true=>
   rw[a]at h;simp at a;rcases aZ.1 h with rfl | h
   .obtain⟨k,hk⟩:=fU.1 a.1.2;exact⟨0,b,I,a.1.1,a.2,T8⟩
   obtain⟨i,c,b,d⟩:=Ar h;exact⟨i+1,c,b,d⟩
  | false=>
   rw[a]at h;obtain⟨i,c,b,d⟩:=Ar h;exact⟨i+1,c,b,d⟩
def I3{β}{st}{a}{w}(h:Rep β st a w):∀k,k∈C1 st.bx->∀y,y∈C2 st.bx->y≠k:=λk m y n=>by
 obtain⟨i,b,d,f,q,o⟩:=Aq m;obtain⟨j,c,g,l,j3,p⟩:=Ar n;rw[<-(h.bx i b d f).at_ k o,<-(h.bx j c g l).at_ y p];refine h.ne j i c b g d l f λe=>?_
 grind
def fJ(st:St)(K:St->Prop):Prop:=
 bif st.mv then
  bif C0 st.bx st.dt then
   I1 st.bx λb=>∀w,I2 st.w0 w st.bx b (Only (st.dt.map (LC b)) st.w0 w->
    Uc (I0 b) (LC b) w aF b (TY (Rt st.bx b) (Rt st.bx b) (ZJ (C2 st.bx) (C1 st.bx) (K {st with bx:=yM b,w0:=w,mv:=aM,dt:=[]}))))
  else False
 else Uc st.Ny st.bl st.w0 aM st.bx (ZJ (C2 st.bx) (C1 st.bx) (K {st with bx:=yM st.bx}))
def eV{st}{K}(d:fJ st K){β}{a}{w}(h:Rep β st a w):∃j,K j/\Ext st j/\Rep β j a w/\j.mv=aM/\j.fr=st.fr/\j.n=st.n/\j.ct=st.ct/\Z8 j.bx=Z8 st.bx:=by
 rcases qt d with⟨m,d⟩ | ⟨m,d⟩
 case inr=>
  have l:=GC d λi b a o s w=>by
   have:=(h.bx i b a o).blk;rcases l:b.blk with _|k
   .rw[l]at s;cases s
   have e:=(h.bx i b a o).at_ k l;rw[h.wv w,<-h.still m];simp_all
  have l:=GH l (I3 h);have y:∀i g,du (yM st.bx) i=Hg g->∃b,du st.bx i=Hg b/\g={b with sh:=b.esc}:=λi g a=>by
   rw[sB]at a;cases f:du st.bx i<;>grind
  refine⟨_,l,⟨I,aX _,λ_ _ _ d _=>d,λi g a o _=>?_,λi b a=>?_,Ij⟩,⟨h.fr,λi g a o=>?_,λi p q r n t u v C=>?_,h.only,h.still⟩,m,I,I,I,?_⟩
  .grind
  .exact⟨{b with sh:=b.esc},by rw[sB,a];rfl,I,I,λ_ d=>d⟩
  .obtain⟨b,n,rfl⟩:=y i g a;have:=h.bx i b n o;exact⟨this.blk,this.at_,this.new⟩
  .obtain⟨b,e,rfl⟩:=y i q n;obtain⟨c,k,rfl⟩:=y p r t;exact h.ne i p b c e k u v C
  have:∀c:X lU,Z8 (yM c)=Z8 c:=λc=>by
   induction c with
   | nil=>rfl
   | cons b k e=>simp[yM,e]
  exact this _
 case inl=>
  obtain⟨J,d⟩:=dT d;have d:=CX β 0 d w;have v:∀i,du _ i=(du st.bx i).map (vH (β i)):=λi=>by rw[CY,bO]
  have H:∀i b,du st.bx i=Hg b->b.ok=aF->∃a,du _ i=Hg a/\a.ok=aF/\a.blk=Hg _/\a.cells=b.cells/\a.ty=b.ty/\a.stp=b.stp:=λi b g o=>by
   refine⟨vH _ b,by rw[v,g];rfl,?_⟩;unfold vH;split
   .exact⟨o,I,I,I,I⟩
   rename_i w;refine⟨o,?_,I,I,I⟩;rcases l:b.blk with _|k
   .exact absurd l (λe=>w o e)
   rw[(h.bx i b g o).at_ k l]
  have u:∀i a,du _ i=Hg a->a.ok=aF->∃b,du st.bx i=Hg b/\b.ok=aF/\a.blk=Hg _/\a.cells=b.cells/\a.ty=b.ty/\a.stp=b.stp:=λi a g o=>by
   rw[v]at g;rcases f:du st.bx i with _|b
   .rw[f]at g;cases g
   rw[f]at g;simp at g;subst g;have c:=by
    unfold vH at o;split at o<;>omega
   obtain⟨y,e,Q,k,n,w,x⟩:=H i b f c;rw[v,f]at e;simp at e;subst e;exact⟨b,I,c,k,n,w,x⟩
  have d:=CZ 0 d λi b g o l=>by
   rw[bO];exact⟨(h.bx i b g o).new l,(h.bx i b g o).blk.lt⟩
  have t:st.dt.map (LC (rl β 0 st.bx))=st.dt.map β:=by
   refine vw λi k=>?_;obtain⟨b,s,z⟩:=wH J i k;obtain⟨a,e,n,c,_⟩:=H i b s z;unfold LC;rw[e];simp[c]
  have d:=d (by rw[t];exact h.only);have L:∀i,I0 _ i=aF->LC _ i=β i:=λi q=>by
   unfold I0 at q;unfold LC;rcases f:du (rl β 0 st.bx) i with _|a
   .rw[f]at q;cases q
   rw[f]at q
   grind
  have l:=GC d λi a g o P E=>by
   obtain⟨b,e,c,k,n,w,x⟩:=u i a g o;rw[iY L _ E,k,n,w];exact(h.bx i b e c).blk
  have l:=GF l λx F N y G K=>by
   obtain⟨i,b,k,n,rfl⟩:=yN 0 F;obtain⟨r,c,w,x,rfl⟩:=yN 0 G;rw[bO,bO];refine h.ne r i c b w k x n λe=>?_
   grind
  have l:=GH l (I3 h);have p:∀i a,du _ i=Hg a->a.ok=aF->∃b,du st.bx i=Hg b/\b.ok=aF/\a.blk=Hg _/\a.cells=b.cells/\a.ty=b.ty/\a.stp=b.stp:=λi a g o=>by
   rw[sB]at g;rcases f:du (rl β 0 st.bx) i with _|c
   .rw[f]at g;cases g
   rw[f]at g;simp at g;subst g;exact u i c f o
  refine⟨_,l,⟨I,aX _,λ_ _ _ d _=>d,λi a g o _=>?_,λi b g=>?_,Ij⟩,⟨h.fr,λi a g o=>?_,λi r A B s z C D M=>?_,EC _ _,λ_=>I⟩,I,I,I,I,?_⟩
  .obtain⟨b,e,c,n,w,x,y⟩:=p i a g o;exact⟨b,e,c,w.symm,x.symm,y.symm,λk l=>by rw[n,(h.bx i b e c).at_ k l]⟩
  .refine⟨{vH _ b with sh:=(vH _ b).esc},by rw[sB,v,g];rfl,?_⟩;unfold vH;split
   .grind
   simp
  .obtain⟨b,e,c,n,w,x,y⟩:=p i a g o;refine⟨by rw[w,x];exact(h.bx i b e c).blk,λk l=>RZ,λl=>by rw[n]at l;cases l⟩
  .obtain⟨b,e,k,_⟩:=p i A s C;obtain⟨c,f1,f2,_⟩:=p r B z D;exact h.ne i r b c e f1 k f2 M
  have e:∀c:X lU,Z8 (yM c)=Z8 c:=λc=>by
   induction c with
   | nil=>rfl
   | cons b w n=>simp[yM,n]
  have k:∀(c:X lU) n,Z8 (rl β n c)=Z8 c:=λc=>by
   induction c with
   | nil=>intro n;rfl
   | cons b x w=>intro n;simp[rl,w]
  simp_all
def noB(n:Nat)(s:SV):L:=cln (λj=>!Nat.beq j n) s
def ZK(n:Nat)(l:X SV):L:=jz (λj=>!Nat.beq j n) l
def Ru(n:Nat):X (Nat×Nat×SV)->L
 | []=>aF
 | p::r=>noB n p.2.2&&Ru n r
def Mz(n:Nat):X lU->L
 | []=>aF
 | b::r=>(!b.ok||ZK n b.cells)&&Mz n r
def GI{n}:∀{l:X _},Ru n l=aF->∀i p,eK l i=Hg p->noB n p.2=aF
 | [],_,i,p,h=>Rl
 | (k,q)::r,h,i,p,hl=>by
  simp[Ru]at h;simp[eK]at hl;cases b:Nat.beq k i
  .rw[b]at hl;exact GI h.2 i p Wi
  rw[b]at hl;simp at hl;subst hl;exact h.1
def GJ{n}:∀{l:X lU},Mz n l=aF->∀i b,du l i=Hg b->b.ok=aF->ZK n b.cells=aF
 | c::r,h,0,b,a,o=>by grind [Mz,du]
 | c::r,h,i+1,b,a,o=>by
  simp[Mz]at h;exact GJ h.2 i b a o
def EI(a:Nat->Nat)(n b:Nat):Nat->Nat:=λi=>if i=n then b else a i
def C3{β}{n b:Nat}:∀i,(!Nat.beq i n)=aF->β i=EI β n b i:=λi h=>by
 unfold EI;rw[W];rintro rfl;simp at h
section
variable {β:Nat->Nat} {st:St} {a:Act} {w w1:aw}
def St.HV(st:St)(d:Option Tmp)(t:TypeId)(z:X SV):St:=
 St.put {st with bx:=st.bx++[⟨ZQ,t,z,st.ct,aF,aM,aM⟩],mv:=aF,ct:=st.ct+1} d (.box (Z8 st.bx) 0)
def Ext.HV st d t zs:Ext st (st.HV d t zs):=by
 refine R8 (t:={st with bx:=st.bx++[_],mv:=aF,ct:=st.ct+1}) ⟨I,jP _,λ_ _ _ a _=>a,λi c h o s=>?_,λi b h=>?_,Ij⟩ (Nr _ _ _)
 .rw[lX]at h
  grind
 exact⟨b,by dsimp only;rw[lX,W (by have:=ud h;omega)];exact h,I,I,λ_ a=>a⟩
def Rep.HV(f:Rep β st a w){d}{t}{zs}{b}(l:Ru (Z8 st.bx) st.fr=aF)(m:Mz (Z8 st.bx) st.bx=aF)(n:ZK (Z8 st.bx) zs=aF)
  (q:w.heap.size<=b) (O:Only [] w w1) (o:Blk w1 b t (cV β zs)) (j:C0 st.bx st.dt=aF):
  Rep (EI β (Z8 st.bx) b) (st.HV d t zs) (a.put d (.pointer (Hg ⟨b,0,ZQ⟩))) w1:=by
 have B:EI β (Z8 st.bx) b (Z8 st.bx)=b:=by unfold EI;rw[K I]
 have T:∀{i c},du st.bx i=Hg c->EI β (Z8 st.bx) b i=β i:=fun{i c} h=>by
  unfold EI;rw[W];have:=ud h;omega
 have s:Rep (EI β (Z8 st.bx) b) {st with bx:=st.bx++[⟨ZQ,t,zs,st.ct,aF,aM,aM⟩],mv:=aF,ct:=st.ct+1} a w1:=by
  refine⟨ub ⟨f.ok.sz,f.ok.df,λi p z u=>?_⟩,λi c a A=>?_,λi d v w t r x y C=>?_,?_,λh=>Rl⟩
  .rw[f.ok.at_ i p z u];congr 1;exact jQ (g:=λd=>!Nat.beq d (Z8 st.bx)) C3 _ (GI l i p z)
  .rw[lX]at a;split at a
   .rename_i h;simp at a;subst a;subst h;refine⟨?_,λk hk=>UA,λ_=>?_⟩
    .rw[B];rw[<-iY (g:=λd=>!Nat.beq d (Z8 st.bx)) (β:=β) (β':=EI β (Z8 st.bx) b) C3 _ n];exact o
    rw[B];exact bp f.only.size q
   have e:=T a;obtain⟨h,p,k3⟩:=f.bx i c a A;refine⟨?_,λk hk=>by rw[e];exact p k hk,λhk=>by rw[e];exact k3 hk⟩;rw[e,<-iY (g:=λd=>!Nat.beq d (Z8 st.bx)) (β:=β) (β':=EI β (Z8 st.bx) b) C3 _ (GJ m i c a A)];exact O.blk h R
  .rw[lX]at t r;split at t
   .rename_i e;split at r
    .omega
    subst e;rw[T r];have:=(f.bx d w r y).blk.lt;omega
   split at r
   .rename_i e;subst e;rw[T t];have:=(f.bx i v t x).blk.lt;omega
   rw[T t,T r];exact f.ne i d v w t r x y C
  have e:=vw λi u=>by
   obtain⟨c,a,_⟩:=wH j i u;exact T a
  rw[e];exact f.only.cn O
 have:=s.put d (.box (Z8 st.bx) 0);rw[show val _ _=.pointer _ by
  show Value.pointer _=_;rw[B]]at this
 exact this
def St.ww(st:St)(i:Nat)(b:lU)(c:X SV):St:=
 {st with bx:=Rq st.bx i {b with cells:=c,stp:=st.ct,sh:=aM},mv:=aF,dt:=(bif b.blk.isSome&&!st.dt.elem i then i::st.dt else st.dt),ct:=st.ct+1}
def Ext.ww{st}{i}{b}{cs}(h:du st.bx i=Hg b):Ext st (st.ww i b cs):=by
 refine⟨I,jP _,λ_ _ _ h _=>h,λj d a o s=>?_,λj c e=>?_,Ij⟩
 .simp[St.ww]at a;rw[kj h]at a
  grind
 simp[St.ww];rw[kj h]
 grind
def Rep.ww(R:Rep β st a w){i}{b}{cs}(h:du st.bx i=Hg b)(o:b.ok=aF)(f:Only [β i] w w1)(B:Blk w1 (β i) b.ty (cV β cs)):Rep β (st.ww i b cs) a w1:=by
 have m:=R.bx i b h o;refine⟨R.fr,λj c d p=>?_,λj r s bl k l n q v=>?_,?_,λh=>Rl⟩
 .simp[St.ww]at d;rw[kj h]at d;split at d
  .rename_i e;subst e;simp at d;subst d;exact⟨B,m.at_,m.new⟩
  rename_i w;obtain⟨a,e,k3⟩:=R.bx j c d p;exact⟨f.blk a (by simpa using R.ne j i c b d h p o w),e,k3⟩
 .simp[St.ww]at k l;rw[kj h]at k l;have e:∀{j c},(if j=i then Hg {b with cells:=cs,stp:=st.ct,sh:=aM}else du st.bx j)=Hg c->c.ok=aF->∃a,du st.bx j=Hg a/\a.ok=aF:=fun{j c} g d=>RZ
  obtain⟨t,w,x⟩:=e k n;obtain⟨u,f1,f2⟩:=e l q;exact R.ne j r t u w f1 x f2 v
 show Only ((bif b.blk.isSome&&!st.dt.elem i then i::st.dt else st.dt).map β) st.w0 w1;cases h:(b.blk.isSome&&!st.dt.elem i)with
 | true=>exact R.only.cons f
 | false=>
  simp only[fV]at h;rcases h with h | h
  .refine R.only.new f (m.new ?_);simp_all
  refine R.only.mem f (oP.2 ⟨i,?_,I⟩);simpa using h
structure Flg (l l':List lU):Prop where
 fw:∀i b,du l' i=Hg b->∃c,du l i=Hg c/\c.blk=b.blk/\c.ty=b.ty/\c.cells=b.cells/\c.stp=b.stp/\c.ok=b.ok
 bw:∀i b,du l i=Hg b->∃c,du l' i=Hg c/\c.ty=b.ty/\c.ok=b.ok/\∀k,b.blk=Hg k->c.blk=Hg k
def Flg.refl l:Flg l l:=⟨λi b h=>⟨b,h,I,I,I,I,I⟩,TQ⟩
def Flg.trans{l m n}(r:Flg l m)(k:Flg m n):Flg l n:=⟨λi b q=>by
 obtain⟨c,a,e,f,g,s,t⟩:=k.fw i b q;obtain⟨d,h,j,o,p,u,v⟩:=r.fw i c a;exact⟨d,h,j.trans e,o.trans f,p.trans g,u.trans s,v.trans t⟩,λi b q=>by
 obtain⟨c,a,e,f,g⟩:=r.bw i b q;obtain⟨d,h,j,o,p⟩:=k.bw i c a;exact⟨d,h,j.trans e,o.trans f,λm w=>p m (g m w)⟩⟩
def Ext.flg{l'}(h:Flg st.bx l'):Ext st {st with bx:=l'}:=⟨I,aX _,λ_ _ _ h _=>h,λm b j o _=>by
 obtain⟨c,a,d,e,f,g,i⟩:=h.fw m b j;exact⟨c,a,i.trans o,f,e,g,λk l=>by rw[<-d];exact l⟩,h.bw,Ij⟩
def Rep.flg{l'}(h:Rep β st a w)(e:Flg st.bx l'):Rep β {st with bx:=l'} a w:=by
 refine⟨h.fr,λi b p q=>?_,λi j f g l m n o v=>?_,h.only,h.still⟩
 .obtain⟨c,r,d,u,w,x,s⟩:=e.fw i b p;obtain⟨y,t,k3⟩:=h.bx i c r (s.trans q);exact⟨RZ,λk a=>t k (d.trans a),λa=>k3 (d.trans a)⟩
 obtain⟨c,a,_,_,_,_,b⟩:=e.fw i f l;obtain⟨d,k,_,_,_,_,r⟩:=e.fw j g m;exact h.ne i j c d a k (b.trans n) (r.trans o) v
def Gp:SV->X Nat
 | .box i _=>[i]
 | .fn _ f c=>Gp f++Gp c
 | .agg l=>Gp l
 | .tup l=>Gp l
 | .c h t=>Gp h++Gp t
 | _=>[]
def Rv:Nat->X Nat->X lU->X lU
 | 0,_,b=>b
 | _+1,[],b=>b
 | f+1,i::r,x=>match du x i with
  | some b=>bif b.esc then Rv f r x else Rv f (flat Gp b.cells++r) (Rq x i {b with esc:=aF,sh:=aM})
  | none=>Rv f r x
def vI:∀f l x,Flg x (Rv f l x)
 | 0,_,x=>Flg.refl _
 | _+1,[],x=>Flg.refl _
 | f+1,i::r,x=>by
  unfold Rv;split
  .rename_i b h;cases e:b.esc
   .refine Flg.trans ⟨λj c a=>?_,λj c a=>?_⟩ (vI f _ _);rotate_left
    .rw[kj h]
     grind
    rw[kj h]at a
    grind
   exact vI f r x
  exact vI f r x
def St.esc(st:St)(l:X SV):St:={st with bx:=Rv 1000 (flat Gp l) st.bx}
def Ext.esc st l:Ext st (st.esc l):=Ext.flg (vI _ _ _)
def Zu:=@Ext.esc
def Rep.esc(h:Rep β st a w) l:Rep β (st.esc l) a w:=h.flg (vI _ _ _)
end
def zc(P:Program)(t:TypeId):Option (X SV):=match P.info? t with
 | some i=>(match i.zero with
  | some z=>Mq z.cells.toList
  | none=>ZQ)
 | none=>ZQ
def acH{P}{t}{zs}(h:zc P t=Hg zs) w:∃z,(zeroValue t).run P w=.ok z w/\∀a,z.cells=(cV a zs).toArray:=by
 unfold zc at h;split at h
 .rename_i b i;split at h
  .rename_i z c;exact⟨z,by simp[zeroValue,typeInfo,i,c],λa=>by rw[BW a h]⟩
  cases h
 cases h
def WM(st:St)(z:X SV):L:=Ru (Z8 st.bx) st.fr&&Mz (Z8 st.bx) st.bx&&ZK (Z8 st.bx) z&&C0 st.bx st.dt
def sC:X lU->L
 | []=>aF
 | b::r=>(!b.ok||b.blk.isSome)&&sC r
def yO:∀{l:X lU},sC l=aF->∀i b,du l i=Hg b->b.ok=aF->b.blk.isSome=aF
 | c::r,h,0,b,a,o=>by grind [sC,du]
 | c::r,h,i+1,b,a,o=>by
  simp[sC]at h;exact yO h.2 i b a o
def Mh(k:Nat):X lU->Prop->Prop
 | [],p=>p
 | b::r,p=>bif b.ok then b.blk.getD 0≠k/\Mh k r p else Mh k r p
def MA{bk}:∀{l:X lU} {p:Prop},Mh bk l p->p/\∀i b,du l i=Hg b->b.ok=aF->b.blk.getD 0≠bk
 | [],p,h=>⟨h,λi b hb=>f0⟩
 | c::r,p,h=>by
  rcases qt h with⟨a,h⟩ | ⟨a,h⟩
  .obtain⟨c,d⟩:=h;obtain⟨e,f⟩:=MA d;refine⟨e,λi b hb o=>?_⟩;cases i with
   | zero=>simp[du]at hb;subst hb;exact c
   | succ i=>exact f i b hb o
  obtain⟨c,d⟩:=MA h;refine⟨c,λi b hb o=>?_⟩;cases i with
  | zero=>simp[du]at hb;subst hb;rw[a]at o;cases o
  | succ i=>exact d i b hb o
def xG(esc:L):X lU->X Nat
 | []=>[]
 | b::r=>bif b.ok&&(esc||!b.esc)then b.blk.getD 0::xG esc r else xG esc r
def qm{esc}:∀{l:X lU} {i:Nat} {b:lU},du l i=Hg b->b.ok=aF->(esc||!b.esc)=aF->b.blk.getD 0∈xG esc l
 | c::r,0,b,h,o,e=>by
  simp[du]at h;subst h;simp[xG,o,e]
 | c::r,i+1,b,h,o,e=>by
  have:=qm (l:=r) (i:=i) h o e;simp[xG]
  grind
def C4(l:X Nat)(w a:aw)(p:Prop):Prop:=match l with
 | []=>p
 | _=>cF l w a/\p
def vJ{l}{w0 w1}{p}(h:C4 l w0 w1 p):p/\cF l w0 w1:=by
 unfold C4 at h;split at h
 .exact⟨h,clk⟩
 exact⟨h.2,h.1⟩
def TZ(P:Program)(w:aw)(c:Nat):X lU->(X lU->Prop)->Prop
 | [],K=>K []
 | b::a,K=>bif b.ok&&b.esc then ZA (TR P 12 b.ty) λv=>Blk w (b.blk.getD 0) b.ty (cV β0 v)/\TZ P w c a λr=>K ({b with cells:=v,stp:=c,sh:=aF}::r)
  else TZ P w c a λr=>K (b::r)
def BX{P}{w1}{ct}:∀{d:X lU} {K:X lU->Prop},TZ P w1 ct d K->∃l,K l/\(∀i a,du l i=Hg a->∃b,du d i=Hg b/\a.ok=b.ok/\a.blk=b.blk/\a.ty=b.ty/\
  ((a=b/\(b.ok&&b.esc)=aM)∨(a.stp=ct/\(∀e,cV e a.cells=cV β0 a.cells)/\Blk w1 (b.blk.getD 0) b.ty (cV β0 a.cells))))/\
  ∀i b,du d i=Hg b->∃a,du l i=Hg a/\a.ty=b.ty/\a.ok=b.ok/\∀k,b.blk=Hg k->a.blk=Hg k
 | [],K,h=>⟨[],h,λi a hb=>f0,λi b hb=>f0⟩
 | c::r,K,h=>by
  rcases qt h with⟨f,h⟩ | ⟨f,h⟩
  .obtain⟨v,⟨B,h⟩,_,n⟩:=vG h;obtain⟨l,j,k,m⟩:=BX h;refine⟨_,j,λi a hb=>?_,λi b hb=>?_⟩;rotate_left
   .cases i with
    | zero=>simp[du]at hb;subst hb;exact⟨_,I,I,I,λ_ h=>h⟩
    | succ i=>exact m i b hb
   cases i with
   | zero=>
    simp[du]at hb;subst hb;exact⟨c,I,I,I,I,.inr ⟨I,λe=>iY (g:=λ_=>aM) (λi h=>Rl) v (n _),B⟩⟩
   | succ i=>exact k i a hb
  obtain⟨l,g,j,k⟩:=BX h;refine⟨_,g,λi a hb=>?_,λi b hb=>?_⟩;rotate_left
  .cases i with
   | zero=>simp[du]at hb;subst hb;exact⟨_,I,I,I,λ_ h=>h⟩
   | succ i=>exact k i b hb
  cases i with
  | zero=>
   simp[du]at hb;subst hb;exact⟨c,I,I,I,I,.inl ⟨I,f⟩⟩
  | succ i=>exact j i a hb
def RR(P:Program):X TypeId->(X SV->Prop)->Prop
 | [],K=>K []
 | t::r,K=>ZA (TR P 12 t) λv=>RR P r λs=>K (Rs (match P.underlying t with | some d=>oo d | none=>aM) v::s)
def GK g:∀l,cln g (Gx l)=jz g l
 | []=>rfl
 | s::r=>by simp[Gx,cln,jz,GK g r]
def aeZ g ag {l} (h:jz g l=aF):cln g (Rs ag l)=aF:=by
 cases ag
 .cases l with
  | nil=>rfl
  | cons s r=>simp[jz]at h;exact h.1
 show cln g (Gx l)=aF;rw[GK];exact h
def GL{P}:∀{s:X TypeId} {K:X SV->Prop},RR P s K->∃r,K r/\∀g,jz g r=aF
 | [],K,h=>⟨[],h,λ_=>I⟩
 | t::d,K,h=>by
  obtain⟨v,h,_,a⟩:=vG h;obtain⟨r,b,c⟩:=GL h;exact⟨_,b,λg=>by simp[jz,aeZ g _ (a g),c g]⟩
def C5(r:X SV):SV:=match r with
 | [a]=>a
 | r=>.tup (Gx r)
def yP{g}{rs}(h:jz g rs=aF):cln g (C5 rs)=aF:=by
 unfold C5;split
 .simp only[jz,H]at h;exact h.1
 show cln g (Gx _)=aF;rw[GK];exact h
def GM(P:Program)(t:TypeId):X TypeId:=match P.underlying t with
 | some (.tuple ts)=>ts.toList
 | _=>[t]
def T0(P:Program)(f:FuncId):L:=match P.funcs[f]? with
 | some f=>!(f.name== "runtime.NumGoroutine")&&f.body.isSome
 | none=>aM
def jB{P}{f}(h:T0 P f=aF) args w:(callFunc f args).run P w=.ok (.enter f args) w:=by
 unfold T0 at h;split at h
 .rename_i f a;simp at h;have b:f.body≠ZQ:=RZ
  have n:f.name≠ "runtime.NumGoroutine" :=RZ
  simp[callFunc,a,n,b]
 cases h
def ajU(P:Program)(f:FuncId):X TypeId:=match P.funcs[f]? with
 | some f=>f.resultTypes.toList
 | none=>[]
abbrev XT:=aw->aw->Prop->Prop
section
variable {P:Program} {β:Nat->Nat} {st:St} {a:Act} {w w1:aw}
def Rep.next(R:Rep β st a w)(u:st.mv=aM)(r:sC st.bx=aF){bx'}{ct'}
  (g:∀i d,du bx' i=Hg d->d.ok=aF->∃b,du st.bx i=Hg b/\b.ok=aF/\d.blk=b.blk/\Blk w1 (β i) d.ty (cV β d.cells)):Rep β {st with bx:=bx',w0:=w1,ct:=ct'} a w1:=by
 have y:∀i b,du st.bx i=Hg b->b.ok=aF->b.blk=Hg (β i):=λi b h e=>by
  have:=yO r i b h e;rcases f:b.blk with _|k
  .rw[f]at this;cases this
  rw[(R.bx i b h e).at_ k f]
 refine⟨R.fr,λi d t s=>?_,λi j l m n o p q v=>?_,EC _ _,λ_=>I⟩
 .obtain⟨b,h,e,c,a⟩:=g i d t s;exact⟨a,λk f=>RZ,λf=>RZ⟩
 obtain⟨b,h,e,_⟩:=g i l n p;obtain⟨c,k,a,_⟩:=g j m o q;exact R.ne i j b c h k e a v
def Mb:=@Rep.next
def Rep.Sj(R:Rep β st a w)(d:sC st.bx=aF){i}{b}(h:du st.bx i=Hg b)(c:b.ok=aF):b.blk.getD 0=β i:=by
 have:=yO d i b h c;rcases hk:b.blk with _|k
 .rw[hk]at this;cases this
 rw[(R.bx i b h c).at_ k hk];rfl
def T1(P:Program)(a:XT)(st:St)(d:Option Tmp)(H:X TypeId)(f:FuncId)(args:X SV)(q:X ay)(K:St->Prop):Prop:=
 bif jz st.Ny args&&sC st.bx then
  Calls P f (cV st.bl args++q).toArray st.w0 λe w1=>RR P H λr=>e=.returned (val β0 (C5 r))/\
   C4 (xG aM st.bx) st.w0 w1 (TZ P w1 st.ct st.bx λb=>a st.w0 w1 (K (St.put {st with bx:=b,w0:=w1,ct:=st.ct+1} d (C5 r))))
 else False
def niV{X}{E:aw->aw->Prop}(s:∀n w1 p,X n w1 p->p/\E n w1){d}{H4}{f}{args}{qO}{K}(h:T1 P X st d H4 f args qO K)(o:st.mv=aM)(R:Rep β st a w):
  Calls P f (cV β args++qO).toArray w λe q=>∃v,e=.returned v/\∃k,K k/\Ext st k/\E w q/\Rep β k (a.put d v) q:=by
 obtain⟨i,h⟩:=dT h;simp at i;rw[R.wv i.1,<-R.still o]at h;refine h.mono ?_;rintro e w1 h;obtain⟨y,⟨rfl,c⟩,U⟩:=GL h;obtain⟨l,S⟩:=vJ c;obtain⟨x,m,u,L⟩:=BX l;obtain⟨h,r⟩:=s _ _ _ m;have ev:val β0 _=val β _:=jQ (g:=λ_=>aM) (λj h=>Rl) _ (yP (U _));refine⟨_,I,_,h,?_,r,?_⟩
 .refine R8 (t:={st with bx:=x,w0:=w1,ct:=st.ct+1}) ⟨I,jP _,λ_ _ _ h _=>h,λj b p a d=>?_,L,Ij⟩ (Nr _ _ _)
  grind
 rw[ev];refine Rn (Mb R o i.2 λj a w p=>?_) _ _;obtain⟨b,c,l,m,d,f⟩:=u j a w;have O:b.ok=aF:=by rw[<-l];exact p
 refine⟨b,c,O,m,?_⟩;have e:=R.Sj i.2 c O;rcases f with⟨rfl,h⟩ | ⟨_,h,g⟩
 .have Q:=qm (esc:=aM) c O RZ;rw[e]at Q;exact(S _ Q).trans (R.bx j a c O).blk
 rw[d,h β,<-e];exact g
def yQ(a b:X ay):X ay:=a++b
def T3(P:Program)(a:XT)(st:St)(d:Option Tmp)(H:X TypeId)(f:FuncId)(s:X ay)(args:X SV)(q:X ay)(K:St->Prop):Prop:=
 bif jz st.Ny args&&sC st.bx then
  Calls P f (yQ (yQ s (cV st.bl args)) q).toArray st.w0 λe w1=>RR P H λr=>e=.returned (val β0 (C5 r))/\
   C4 (xG aM st.bx) st.w0 w1 (TZ P w1 st.ct st.bx λb=>a st.w0 w1 (K (St.put {st with bx:=b,w0:=w1,ct:=st.ct+1} d (C5 r))))
 else False
def mvv{X}{E:aw->aw->Prop}(s:∀n w1 p,X n w1 p->p/\E n w1){d}{H4}{f}{fst}{args}{qO}{K}(h:T3 P X st d H4 f fst args qO K)(o:st.mv=aM)(R:Rep β st a w):
  Calls P f (yQ (yQ fst (cV β args)) qO).toArray w λe q=>∃v,e=.returned v/\∃k,K k/\Ext st k/\E w q/\Rep β k (a.put d v) q:=by
 obtain⟨i,h⟩:=dT h;simp at i;rw[R.wv i.1,<-R.still o]at h;refine h.mono ?_;rintro e w1 h;obtain⟨y,⟨rfl,c⟩,U⟩:=GL h;obtain⟨l,S⟩:=vJ c;obtain⟨x,m,u,L⟩:=BX l;obtain⟨h,r⟩:=s _ _ _ m;have ev:val β0 _=val β _:=jQ (g:=λ_=>aM) (λj h=>Rl) _ (yP (U _));refine⟨_,I,_,h,?_,r,?_⟩
 .refine R8 (t:={st with bx:=x,w0:=w1,ct:=st.ct+1}) ⟨I,jP _,λ_ _ _ h _=>h,λj b p a d=>?_,L,Ij⟩ (Nr _ _ _)
  grind
 rw[ev];refine Rn (Mb R o i.2 λj a w p=>?_) _ _;obtain⟨b,c,l,m,d,f⟩:=u j a w;have O:b.ok=aF:=by rw[<-l];exact p
 refine⟨b,c,O,m,?_⟩;have e:=R.Sj i.2 c O;rcases f with⟨rfl,h⟩ | ⟨_,h,g⟩
 .have Q:=qm (esc:=aM) c O RZ;rw[e]at Q;exact(S _ Q).trans (R.bx j a c O).blk
 rw[d,h β,<-e];exact g
def uY(P:Program)(a:XT)(st:St)(d:Option Tmp)(H:X TypeId)(args:X SV)(r:X ay->Sem ay)(K:St->Prop):Prop:=
 bif jz st.Ny args&&sC st.bx then
  RR P H λs=>∃w1,(r (cV st.bl args)).run P st.w0=.ok (val β0 (C5 s)) w1/\C4 (xG aF st.bx) st.w0 w1 (a st.w0 w1 (K (St.put {st with w0:=w1} d (C5 s))))
 else False
def mbN{X}{E:aw->aw->Prop}(k:∀e w1 p,X e w1 p->p/\E e w1){d}{H4}{args}{run}{K}(h:uY P X st d H4 args run K)(m:st.mv=aM)(R:Rep β st a w):
  ∃v c,(run (cV β args)).run P w=.ok v c/\∃j,K j/\Ext st j/\E w c/\Rep β j (a.put d v) c:=by
 obtain⟨b,h⟩:=dT h;simp at b;rw[R.wv b.1,<-R.still m]at h;obtain⟨s,⟨w1,r,h⟩,n⟩:=GL h;obtain⟨h,S⟩:=vJ h;obtain⟨h,f⟩:=k _ _ _ h;have ev:val β0 _=val β _:=jQ (g:=λ_=>aM) (λi h=>Rl) _ (yP (n _));refine⟨_,w1,r,_,h,?_,f,?_⟩
 .refine R8 (t:={st with w0:=w1}) ⟨I,aX _,λ_ _ _ h _=>h,λi a p o d=>⟨a,p,o,I,I,I,λ_ h=>h⟩,TQ,Ij⟩ (Nr _ _ _)
 rw[ev];refine Rn (Mb (ct':=st.ct) R m b.2 λi a p h=>⟨a,p,h,I,?_⟩) _ _;have q:=qm (esc:=aF) p h I;rw[R.Sj b.2 p h]at q;exact(S _ q).trans (R.bx i a p h).blk
def T5(P:Program)(a:XT)(st:St)(d:Option Tmp)(args:X SV)(u:X ay->Sem ay)(r:SV)(K:St->Prop):Prop:=
 bif jz st.Ny args&&sC st.bx&&cln (λ_=>aM) r then
  ∃w1,(u (cV st.bl args)).run P st.w0=.ok (val β0 r) w1/\C4 (xG aF st.bx) st.w0 w1 (a st.w0 w1 (K (St.put {st with w0:=w1} d r)))
 else False
def BZ{X}{E:aw->aw->Prop}(k:∀e w1 p,X e w1 p->p/\E e w1){d}{args}{run}{rs}{K}(h:T5 P X st d args run rs K)(m:st.mv=aM)(R:Rep β st a w):
  ∃v c,(run (cV β args)).run P w=.ok v c/\∃j,K j/\Ext st j/\E w c/\Rep β j (a.put d v) c:=by
 obtain⟨b,h⟩:=dT h;simp at b;rw[R.wv b.1.1,<-R.still m]at h;obtain⟨w1,r,h⟩:=h;obtain⟨h,S⟩:=vJ h;obtain⟨h,f⟩:=k _ _ _ h;have ev:val β0 rs=val β rs:=jQ (g:=λ_=>aM) (λi h=>Rl) _ b.2;refine⟨_,w1,r,_,h,?_,f,?_⟩
 .refine R8 (t:={st with w0:=w1}) ⟨I,aX _,λ_ _ _ h _=>h,λi a p o s=>⟨a,p,o,I,I,I,λ_ h=>h⟩,TQ,Ij⟩ (Nr _ _ _)
 rw[ev];refine Rn (Mb (ct':=st.ct) R m b.1.2 λi a p h=>⟨a,p,h,I,?_⟩) _ _;have q:=qm (esc:=aF) p h I;rw[R.Sj b.1.2 p h]at q;exact(S _ q).trans (R.bx i a p h).blk
def ZL(P:Program)(a:XT)(st:St)(d:Option Tmp)(args:X SV)(r:X ay->Sem Unit)(K:St->Prop):Prop:=
 bif jz st.Ny args&&sC st.bx then
  ∃w1,(r (cV st.bl args)).run P st.w0=.ok () w1/\C4 (xG aF st.bx) st.w0 w1 (a st.w0 w1 (K (St.put {st with w0:=w1} d .un)))
 else False
def ace{X}{E:aw->aw->Prop}(g:∀e w1 p,X e w1 p->p/\E e w1){d}{args}{run}{K}(h:ZL P X st d args run K)(m:st.mv=aM)(R:Rep β st a w):
  ∃c,(run (cV β args)).run P w=.ok () c/\∃j,K j/\Ext st j/\E w c/\Rep β j (a.put d undef) c:=by
 obtain⟨b,h⟩:=dT h;simp at b;rw[R.wv b.1,<-R.still m]at h;obtain⟨w1,r,h⟩:=h;obtain⟨h,S⟩:=vJ h;obtain⟨h,f⟩:=g _ _ _ h;refine⟨w1,r,_,h,?_,f,?_⟩
 .refine R8 (t:={st with w0:=w1}) ⟨I,aX _,λ_ _ _ h _=>h,λi a p o s=>⟨a,p,o,I,I,I,λ_ h=>h⟩,TQ,Ij⟩ (Nr _ _ _)
 refine Rn (v:=.un) (Mb (ct':=st.ct) R m b.2 λi a p o=>⟨a,p,o,I,?_⟩) _;have q:=qm (esc:=aF) p o I;rw[R.Sj b.2 p o]at q;exact(S _ q).trans (R.bx i a p o).blk
end
def uf(l:X ay)(i:Nat):ay:=match l,i with
 | [],_=>undef
 | v::_,0=>v
 | _::r,i+1=>uf r i
def zp:X Nat->X ay->X (Nat×ay)
 | i::r,v::s=>(i,v)::zp r s
 | _,_=>[]
def ZN:X (Nat×SV)->X Nat
 | []=>[]
 | p::r=>p.1::ZN r
def T6:X (Nat×SV)->X SV
 | []=>[]
 | p::r=>p.2::T6 r
def acI β:∀l,zp (ZN l) (cV β (T6 l))=Fb β l
 | []=>rfl
 | p::r=>by
  have:=acI β r;simp[cV]at this;simp[ZN,T6,cV,zp,Fb,this]
def ajV(P:Program)(t:TypeId):L:=match P.underlying t with
 | some (.pointer _)=>aF
 | _=>aM
def ajW:Operand->L
 | .const _=>aF
 | _=>aM
def D6:SV->L
 | .ptr _=>aF
 | .ad _=>aF
 | _=>aM
def lj(P:Program):Op->L
 | .move _=>aF
 | .assign _=>aF
 | .pick _ _ _=>aF
 | .binOp _ t x y _=>!(ajV P t)||ajW x||ajW y
 | .unOp _ _ _=>aF
 | .extract _ _=>aF
 | .build _ _=>aF
 | .makeFunc _ _ _=>aF
 | .makeInterface _ _=>aF
 | .nilCheck _=>aF
 | .fieldAddr _ _ _=>aF
 | .field _ _ _=>aF
 | .indexAddr _ _ _=>aF
 | .load _ _=>aF
 | .index _ _ _=>aF
 | .slice _ _ _ _ _=>aF
 | .convert s d _=>(match P.underlying s,P.underlying d with
  | some (.int _),Hg (.int _)=>aF
  | some .string,Hg .string=>aF
  | some (.slice e),Hg .string=>(match P.underlying e with
   | some (.int .u8)=>aF
   | _=>aM)
  | _,_=>aM)
 | .call c=>(match c.callee with
  | .builtin .len=>(match c.argTypes.toList with
   | [t]=>(match P.underlying t with
    | some (.slice _)=>aF
    | some .string=>aF
    | _=>aM)
   | _=>aM)
  | .builtin .cap=>aF
  | .builtin .min=>aF
  | .builtin .max=>aF
  | _=>aM)
 | _=>aM
def C6:Op->L
 | .store _ _ _=>aF
 | _=>aM
def ajX(P:Program)(a:XT)(st:St)(o:Oper)(b:Builtin)(t:Array TypeId)(v:X SV)(K:St->Prop):Prop:=match b with
 | .append=>uY P a st o.dst (GM P o.type) v (λl=>Builtin.append_ t o.type l.toArray) K
 | .copy=>uY P a st o.dst (GM P o.type) v (λl=>Builtin.copy_ t o.type l.toArray) K
 | .delete=>uY P a st o.dst (GM P o.type) v (λl=>Builtin.delete_ t o.type l.toArray) K
 | .clear=>uY P a st o.dst (GM P o.type) v (λl=>Builtin.clear_ t o.type l.toArray) K
 | .len=>uY P a st o.dst (GM P o.type) v (λl=>Builtin.len_ t o.type l.toArray) K
 | .unsafeSliceData=>uY P a st o.dst (GM P o.type) v (λl=>Builtin.unsafeSliceData_ t o.type l.toArray) K
 | .unsafeString=>uY P a st o.dst (GM P o.type) v (λl=>Builtin.unsafeString_ t o.type l.toArray) K
 | _=>False
def Rw(f:FuncId)(args:Array ay):Sem ay:=do
 match <-callFunc f args with
 | .value v=>pure v
 | _=>stuck "extV"
def ai7{P}{f}{args}{w w1}{v}(h:(Rw f args).run P w=.ok v w1):(callFunc f args).run P w=.ok (.value v) w1:=by
 unfold Rw at h;rw[Sem.run_bind]at h;cases c:(callFunc f args).run P w with
 | ok n w=>
  rw[c,Result.andThen_ok]at h;cases n<;>first | (simp at h;done) | (simp at h;obtain⟨rfl,rfl⟩:=h;rfl) | (simp at h)
 | _=>rw[c]at h;simp at h
def afd{P}{a:Act}{w w1}{v}{dst}{x}{f}{first captured}{s:X Operand}{ats}{t'}{p}{af}{g}{args}
  (b:a.eval x=.func (.func f) first.toArray captured.toArray)
  (h:first++s.map a.eval++captured=args) (c:(callFunc f args.toArray).run P w=.ok (.value v) w1):
  (execOp a.eval ⟨dst,.call ⟨.value x,s.toArray,ats⟩,t',p,af,g⟩).run P w=.ok (.value v) w1:=by
 subst h;simp only[execOp,resolve,b,Deferred.ofValue,invoke]
 grind
def KE(P:Program)(a:XT)(st:St)(o:Oper)(f:SV)(s:X SV)(K:St->Prop):Prop:=match f with
 | .fn g b c=>bif EG b&&EG c&&T0 P g then fJ (st.esc (pu b++s++pu c)) λst=>T1 P a st o.dst (ajU P g) g (pu b++s++pu c) [] K
  else bif EG b&&EG c then fJ (st.esc (pu b++s++pu c)) λst=>uY P a st o.dst (ajU P g) (pu b++s++pu c) (λl=>Rw g l.toArray) K else False
 | .raw v=>fJ (st.esc s) λst=>∃(g:FuncId) (t cap:X ay),v.v=.func (.func g) t.toArray cap.toArray/\(∀r w,(callFunc g r).run P w=.ok (.enter g r) w)/\T3 P a st o.dst (GM P o.type) g t s cap K
 | _=>False
abbrev YT:=Option Nat->Prop->Prop
def ajY(P:Program)(a:XT)(Y:YT)(st:St)(o:Oper)(p s:SV)(v:X SV)(K:St->Prop):Prop:=match p with
 | .box i off=>cw (du st.bx i) λb=>bif b.ok&&Nat.ble (off+Z8 v) (Z8 b.cells) then Y b.blk (K ((st.ww i b (TI b.cells off v)).put o.dst .un))else False
 | .ad p=>fJ (st.esc v) λst=>∃(b off:Nat) (cells:X ay) (e:TypeId),p=(⟨b,off,ZQ⟩)/\Blk st.w0 b e cells/\off+Z8 v<=Z8 cells/\
  bif jz st.Ny v&&sC st.bx then Mh b st.bx (∀w,Only [b] st.w0 w->Blk w b e (eY cells off (cV st.bl v))->a st.w0 w (K (St.put {st with w0:=w} o.dst .un)))else False
 | _=>False
def ajZ(P:Program)(st:St)(o:Oper)(f:SV)(v:X SV)(K:St->Prop):Prop:=match f with
 | .fn g s c=>bif EG s&&EG c&&T0 P g then fJ (st.esc (pu s++v++pu c)) λst=>bif jz st.Ny (pu s++v)&&jz st.Ny (pu c)then
  K (St.put {st with df:=(g,cV st.bl (pu s++v),cV st.bl (pu c))::st.df} o.dst .un)else False else False
 | _=>False
def loud(P:Program)(X:XT)(Y:YT)(st:St)(o:Oper)(K:St->Prop):Prop:=match o.op with
 | .binOp op t x y _=>cw (st.ev x) λa=>cw (st.ev y) λb=>bif D6 a&&D6 b then fJ (st.esc [a,b]) λst=>uY P X st o.dst [o.type] [a,b] (λv=>Go.binOp op t (uf v 0) (uf v 1)) K else False
 | .alloc t=>cw (zc P t) λz=>bif WM st z then K (st.HV o.dst t z)else False
 | .box t x=>cw (st.ev x) λs=>cw (CQ s) λz=>bif WM st z then K (st.HV o.dst t z)else False
 | .store t x y=>cw (st.ev x) λp=>cw (st.ev y) λs=>cw (CQ s) λv=>bif sz P t (Z8 v) then ajY P X Y st o p s v K else False
 | .call c=>cw (st.QG c.args.toList) λv=>(match c.callee with
  | .value f=>cw (st.ev f) λa=>KE P X st o a v K
  | .builtin b=>fJ (st.esc v) λst=>ajX P X st o b c.argTypes v K
  | _=>False)
 | .defer c=>cw (st.QG c.args.toList) λv=>(match c.callee with
  | .value f=>cw (st.ev f) λa=>ajZ P st o a v K
  | _=>False)
 | .buildSlice t n ps=>cw (st.YK ps.toList) λl=>fJ (st.esc (T6 l)) λst=>uY P X st o.dst [t] (T6 l) (λv=>Instr.buildSlice t n (zp (ZN l) v).toArray) K
 | .makeSlice t x y=>cw (st.ev x) λa=>cw (st.ev y) λb=>fJ st λst=>uY P X st o.dst [t] [a,b] (λv=>Instr.makeSlice t (uf v 0) (uf v 1)) K
 | .makeMap t ZQ=>fJ st λst=>uY P X st o.dst [t] [] (λ_=>Instr.makeMap t ZQ) K
 | .makeMap t (Hg x)=>cw (st.ev x) λa=>fJ st λst=>uY P X st o.dst [t] [a] (λv=>Instr.makeMap t (Hg (uf v 0))) K
 | .lookup t x i ok=>cw (st.ev x) λa=>cw (st.ev i) λb=>fJ st λst=>uY P X st o.dst (GM P o.type) [a,b] (λv=>Instr.lookup t (uf v 0) (uf v 1) ok) K
 | .mapUpdate t x y z=>cw (st.ev x) λa=>cw (st.ev y) λb=>cw (st.ev z) λc=>fJ (st.esc [a,b,c]) λst=>ZL P X st o.dst [a,b,c] (λv=>Instr.mapUpdate t (uf v 0) (uf v 1) (uf v 2)) K
 | .insert t x y z=>cw (st.ev x) λa=>cw (st.ev y) λb=>cw (st.ev z) λc=>fJ (st.esc [a,b,c]) λst=>ZL P X st o.dst [a,b,c] (λv=>Instr.mapUpdate t (uf v 0) (uf v 1) (uf v 2)) K
 | .convert s d x=>cw (st.ev x) λa=>fJ (st.esc [a]) λst=>uY P X st o.dst [d] [a] (λv=>convert s d (uf v 0)) K
 | .range t x=>cw (st.ev x) λa=>fJ st λst=>∃p,T5 P X st o.dst [a] (λv=>Instr.range t (uf v 0)) (.ptr p) K
 | .next x aM=>cw (st.ev x) λa=>fJ st λst=>T5 P X st o.dst [a] (λv=>Instr.next (uf v 0) aM o.type) (.tup (Gx [.bl aM])) K∨
  ZA [.raw,.raw] λr=>T5 P X st o.dst [a] (λv=>Instr.next (uf v 0) aM o.type) (.tup (Gx (.bl aF::r))) K
 | .entry x=>cw (st.ev x) λa=>fJ st λst=>ZA [.raw,.raw] λr=>T5 P X st o.dst [a] (λv=>Instr.entry (uf v 0)) (.tup (Gx r)) K
 | _=>False
section
variable {P:Program} {β:Nat->Nat} {st:St} {a:Act} {w w1:aw} {X:XT} {Y:YT} {E:aw->aw->Prop} {K:St->Prop} {Q:Exit->Act->aw->Prop}
abbrev Nj(E:aw->aw->Prop)(st:St)(K:St->Prop)(c:aw)(b:Act)(w:aw):Prop:=∃a d,K d/\Ext st d/\E c w/\Rep a d b w
def nD(f:∀b w1 p,X b w1 p->p/\E b w1){o}{H4}{args l}{run}(h:fJ (st.esc l) λst=>uY P X st o.dst H4 args run K)(R:Rep β st a w)
  (x:∀v w1,(run (cV β args)).run P w=.ok v w1->(execOp a.eval o).run P w=.ok (.value v) w1):o.wp P a w (Nj E st K w) Q:=by
 obtain⟨s,c,e,j,m,_⟩:=eV h (R.esc l);obtain⟨v,n,r,d,k,g,k3,i⟩:=mbN f c m j;exact Bc v (x v n r) I ⟨β,d,k,(Zu st l).trans (e.trans g),k3,i⟩
def yR(f:∀b w1 p,X b w1 p->p/\E b w1){o}{H4}{args}{run}(h:fJ st λst=>uY P X st o.dst H4 args run K)(R:Rep β st a w)
  (x:∀v w1,(run (cV β args)).run P w=.ok v w1->(execOp a.eval o).run P w=.ok (.value v) w1):o.wp P a w (Nj E st K w) Q:=by
 obtain⟨s,c,e,j,m,_⟩:=eV h R;obtain⟨v,l,r,d,k,g,k3,i⟩:=mbN f c m j;exact Bc v (x v l r) I ⟨β,d,k,e.trans g,k3,i⟩
def I4(f:∀b w1 p,X b w1 p->p/\E b w1){o}{args l}{run}(h:fJ (st.esc l) λst=>ZL P X st o.dst args run K)(R:Rep β st a w)
  (x:∀w1,(run (cV β args)).run P w=.ok () w1->(execOp a.eval o).run P w=.ok .skip w1):o.wp P a w (Nj E st K w) Q:=by
 obtain⟨s,c,e,j,m,_⟩:=eV h (R.esc l);obtain⟨n,r,d,k,g,k3,i⟩:=ace f c m j;exact TJ (x n r) I ⟨β,d,k,(Zu st l).trans (e.trans g),k3,i⟩
def afr(e:∀w w1,Only [] w w1->E w w1){d}{t}{zs}(h:WM st zs=aF)(c:K (st.HV d t zs))(R:Rep β st a w){b}(f:w.heap.size<=b)(O:Only [] w w1)(B:Blk w1 b t (cV β zs)):
  Nj E st K w (a.put d (.pointer (Hg ⟨b,0,ZQ⟩))) w1:=by
 simp[WM]at h;exact⟨_,_,c,Ext.HV _ _ _ _,e _ _ O,R.HV h.1.1.1 h.1.1.2 h.1.2 f O B h.2⟩
def agX(g:∀b w1 p,X b w1 p->p/\E b w1){o}{H4}{f}{args}{qO}{s1}(h:T1 P X s1 o.dst H4 f args qO K)(m:s1.mv=aM)(c:Ext st s1)(R:Rep β s1 a w)
  (x:(execOp a.eval o).run P w=.ok (.enter f (cV β args++qO).toArray) w):o.wp P a w (Nj E st K w) Q:=by
 refine N6 x ((niV g h m R).mono ?_);rintro e l ⟨v,rfl,d,k,i,k3,j⟩;exact⟨v,_,I,I,β,d,k,c.trans i,k3,j⟩
def aiK(g:∀b w1 p,X b w1 p->p/\E b w1){o}{H4}{f}{fst}{args}{qO}{s1}(h:T3 P X s1 o.dst H4 f fst args qO K)(m:s1.mv=aM)(c:Ext st s1)(R:Rep β s1 a w)
  (x:(execOp a.eval o).run P w=.ok (.enter f (yQ (yQ fst (cV β args)) qO).toArray) w):o.wp P a w (Nj E st K w) Q:=by
 refine N6 x ((mvv g h m R).mono ?_);rintro e l ⟨v,rfl,d,k,i,k3,j⟩;exact⟨v,_,I,I,β,d,k,c.trans i,k3,j⟩
def ae2{s}(h:D6 s=aF) β:∃q,val β s=.pointer q:=by
 cases s<;>first | (cases h;done) | exact⟨_,I⟩
def Vfn{a:Act}{dst}{op}{t ty}{x y}{t'}{p}{af}{g}{u v r}(c:∃q,u=.pointer q)(d:∃q,v=.pointer q)(e:a.eval x=u)(f:a.eval y=v){w w1}
  (b:(Go.binOp op t u v).run P w=.ok r w1):(execOp a.eval ⟨dst,.binOp op t x y ty,t',p,af,g⟩).run P w=.ok (.value r) w1:=by
 obtain⟨q,rfl⟩:=c;obtain⟨q',rfl⟩:=d;have h:eqGuard op t x y (.pointer q) (.pointer q')=pure ():=by cases op<;>rfl
 simp[execOp,e,f,h,b]
def acs{a:Act}{dst}{x}{fn}{first c:Al ay}{s:Al Operand}{ats}{t'}{p}{af}{g}{args}{w}
  (b:a.eval x=.func fn first.toArray c.toArray) (h:first++s.map a.eval=args):
  (execOp a.eval ⟨dst,.defer ⟨.value x,s.toArray,ats⟩,t',p,af,g⟩).run P w=.ok (.defer {target:=.fn fn c.toArray,args:=args.toArray}) w:=by
 subst h;simp only[execOp,resolve,b,Deferred.ofValue];simp
def abK{a:Act}{dst}{t}{x}{t'}{p}{af}{g}{u v}{w w1}(b:a.eval x=u)(h:(Instr.range t u).run P w=.ok v w1):
  (execOp a.eval ⟨dst,.range t x,t',p,af,g⟩).run P w=.ok (.value v) w1:=by
 simp[execOp,b,h]
def Oj{a:Act}{dst}{x}{t'}{p}{af}{g}{u v}{w w1}(b:a.eval x=u)(h:(Instr.next u aM t').run P w=.ok v w1):
  (execOp a.eval ⟨dst,.next x aM,t',p,af,g⟩).run P w=.ok (.value v) w1:=by
 simp[execOp,b,h]
def dfs{a:Act}{dst}{x}{t'}{p}{af}{g}{u v}{w w1}(b:a.eval x=u)(h:(Instr.entry u).run P w=.ok v w1):
  (execOp a.eval ⟨dst,.entry x,t',p,af,g⟩).run P w=.ok (.value v) w1:=by
 simp[execOp,b,h]
def nE β l m:cV β (l++m)=cV β l++cV β m:=by simp[cV]
def GN(d:∀l w1 p,X l w1 p->p/\E l w1){o:Oper}(i:∀w w1,Only [] w w1->E w w1)(S:C6 o.op=aF->∀g k w w1 p,Y g p->(∀j,g=Hg j->k=j)->Only [k] w w1->p/\E w w1)(h:loud P X Y st o K)(R:Rep β st a w):o.wp P a w (Nj E st K w) Q:=by
 obtain⟨e,op,u,p,m,r⟩:=o;unfold loud at h;dsimp only at h;split at h
 .obtain⟨x,b,h⟩:=bG h;obtain⟨y,c,h⟩:=bG h;obtain⟨p,h⟩:=dT h;simp only[H]at p;exact nD d h R λv w1 a=>Vfn (ae2 p.1 β) (ae2 p.2 β) (R.ev b) (R.ev c) a
 .obtain⟨s,k,h⟩:=bG h;obtain⟨f,h⟩:=dT h;obtain⟨z,n,p⟩:=acH k w;exact IK n (p β) (λ_=>I) λb w1 c a B=>afr i f h R c a B
 .obtain⟨s,k,h⟩:=bG h;obtain⟨n,z,h⟩:=bG h;obtain⟨f,h⟩:=dT h;exact aeV (by rw[R.ev k];exact(Am z β).1) (λ_=>I) λb w1 c a B=>afr i f h R c a B
 .obtain⟨q,x,h⟩:=bG h;obtain⟨s,y,h⟩:=bG h;obtain⟨a,k,h⟩:=bG h;obtain⟨z,h⟩:=dT h;obtain⟨c,f⟩:=Am k β;have E:=S I;cases q with
  | box q off=>
   obtain⟨b,p,h⟩:=bG h;obtain⟨n,h⟩:=dT h;simp only[H]at n;have t:=eG n.2;refine IJ (rN z w) (R.ev x) (by rw[R.ev y];exact c) (gu β a) f (R.bx q b p n.1).blk (by rw[gu,gu];exact t) I I λw1 s B=>?_;rw[<-IX]at B;obtain⟨h,v⟩:=E _ (β q) _ w1 _ h (λj A=>(R.bx q b p n.1).at_ j A) s;exact⟨β,_,h,(Ext.ww p).trans (Nr _ _ _),v,(R.ww p n.1 s B).put e .un⟩
  | ad ad=>
   simp only[ajY]at h;obtain⟨J,N,K,s,F,_⟩:=eV h (R.esc a);obtain⟨g,off,cells,M,rfl,C,W,b⟩:=N;obtain⟨A,b⟩:=dT b;simp only[H]at A;obtain⟨b,T⟩:=MA b;have G:=s.still F;rw[<-G,s.wv A.1]at b;rw[<-G]at C;refine IJ (rN z w) (R.ev x) (by rw[R.ev y];exact c) (gu β a) f C (by rw[gu];exact W) I I λw1 D V=>?_;obtain⟨P,Q⟩:=d _ _ _ (b w1 D V);refine⟨β,_,P,((Zu st a).trans K).trans (R8 (t:={J with w0:=w1}) ⟨I,aX _,λ_ _ _ h _=>h,λB q p n X=>⟨q,p,n,I,I,I,λ_ h=>h⟩,TQ,Ij⟩ (Nr _ _ _)),Q,?_⟩;refine Rn (v:=.un) (Mb (ct':=J.ct) s F A.2 λB q p n=>⟨q,p,n,I,?_⟩) _;have L:=s.Sj A.2 p n;have:=T B q p n;rw[L]at this;exact D.blk (s.bx B q p n).blk (by simpa using this)
  | _=>exact h.elim
 .rename_i c;obtain⟨k,⟨x⟩,t⟩:=c;obtain⟨s,n,h⟩:=bG h;have z:=R.QG n;dsimp only at h;cases k with
  | value f=>
   obtain⟨c,b,h⟩:=bG h;cases c with
   | fn B y w=>
    have A:EG y=aF->EG w=aF->a.eval f=.func (.func B) (cV β (pu y)).toArray (cV β (pu w)).toArray:=λD E=>by
     rw[R.ev b];show Value.func (.func B) (su β y).toArray (su β w).toArray=_;rw[oY β D,oY β E]
    have C:=h;unfold KE at C;rcases qt C with⟨p,q⟩ | ⟨_,q⟩
    .simp only[H]at p;obtain⟨F,q,a,v,f,_⟩:=eV q (R.esc _);refine agX d q f ((Zu _ _).trans a) v ?_;exact IC (A p.1.1 p.1.2) (jB p.2) (by rw[z,nE,nE,bD])
    obtain⟨p,q⟩:=dT q;simp only[H]at p;exact nD d q R λv w1 a=>afd (A p.1 p.2) (by rw[z,nE,nE]) (ai7 a)
   | raw v=>
    simp only[KE]at h;obtain⟨F,⟨y,p,cap,A,B,C⟩,q,E,D,_⟩:=eV h (R.esc s);refine aiK d C D ((Zu _ _).trans q) E ?_;have w:a.eval f=.func (.func y) p.toArray cap.toArray:=(R.ev b).trans A;exact IC w B (by rw[z];rfl)
   | _=>exact h.elim
  | builtin b=>
   unfold ajX at h;cases b with
   | append=>exact nD d h R λv w1 a=>abz z a
   | copy=>exact nD d h R λv w1 a=>zSl z a
   | delete=>exact nD d h R λv w1 a=>abo z a
   | clear=>exact nD d h R λv w1 a=>inz z a
   | len=>exact nD d h R λv w1 a=>adn z a
   | unsafeSliceData=>exact nD d h R λv w1 a=>(by rw[<-z]at a;exact og (λ_=>I) a)
   | unsafeString=>exact nD d h R λv w1 a=>(by rw[<-z]at a;exact og (λ_=>I) a)
   | _=>
    obtain⟨b,a,_⟩:=eV h (R.esc s);exact a.elim
  | _=>exact h.elim
 .rename_i c;obtain⟨b,⟨x⟩,s⟩:=c;obtain⟨v,k,h⟩:=bG h;have z:=R.QG k;dsimp only at h;cases b with
  | value f=>
   obtain⟨c,n,h⟩:=bG h;cases c with
   | fn C B A=>
    unfold ajZ at h;obtain⟨E,y⟩:=dT h;simp only[H]at E;have L:a.eval f=.func (.func C) (cV β (pu B)).toArray (cV β (pu A)).toArray:=by
     rw[R.ev n];show Value.func (.func C) (su β B).toArray (su β A).toArray=_;rw[oY β E.1.1,oY β E.1.2]
    obtain⟨D,y,K,q,T,_⟩:=eV y (R.esc _);obtain⟨F,y⟩:=dT y;simp only[H]at F;rw[q.wv F.1,q.wv F.2]at y;have N:=acs (P:=P) (dst:=e) (ats:=s) (t':=u) (p:=p) (af:=m) (g:=r) (w:=w) L (by rw[z,<-nE]);unfold Oper.wp;rw[N,Oper.upon_defer];have G:Rep β {D with df:=(C,cV β (pu B++v),cV β (pu A))::D.df} {a with defers:={target:=.fn (.func C) (cV β (pu A)).toArray,args:=(cV β (pu B++v)).toArray}::a.defers} w:=by
     obtain⟨f,a⟩:=q.fr;exact⟨⟨f,by rw[a];rfl⟩,q.bx,q.ne,q.only,q.still⟩
    exact⟨β,_,y,((Zu _ _).trans K).trans (R8 (t:={D with df:=(C,cV β (pu B++v),cV β (pu A))::D.df}) ⟨I,aX _,λ_ _ _ h _=>h,λW J Q M V=>⟨J,Q,M,I,I,I,λ_ h=>h⟩,TQ,⟨[_],I⟩⟩ (Nr _ _ _)),i _ _ (EC _ _),G.put e .un⟩
   | _=>exact h.elim
  | _=>exact h.elim
 .rename_i t n ps;obtain⟨f,c,b⟩:=bG h;clear h;obtain⟨ps⟩:=ps;refine nD d b R λv w1 a=>?_;rw[acI]at a;exact ai8 (R.YK c) a
 .obtain⟨b,x,h⟩:=bG h;obtain⟨v,y,h⟩:=bG h;exact yR d h R λ_ w1 a=>aio (R.ev x) (R.ev y) a
 .exact yR d h R λ_ w1 a=>adY a
 .obtain⟨b,x,h⟩:=bG h;exact yR d h R λ_ w1 a=>abQ (R.ev x) a
 .obtain⟨b,x,h⟩:=bG h;obtain⟨v,y,h⟩:=bG h;exact yR d h R λ_ w1 a=>ad7 (R.ev x) (R.ev y) a
 .obtain⟨c,x,h⟩:=bG h;obtain⟨v,y,h⟩:=bG h;obtain⟨z,b,h⟩:=bG h;exact I4 d h R λw1 a=>vrT (R.ev x) (R.ev y) (R.ev b) a
 .obtain⟨c,x,h⟩:=bG h;obtain⟨v,y,h⟩:=bG h;obtain⟨z,b,h⟩:=bG h;exact I4 d h R λw1 a=>aiZ (R.ev x) (R.ev y) (R.ev b) a
 .obtain⟨b,x,h⟩:=bG h;exact nD d h R λ_ w1 a=>aja (R.ev x) a
 .obtain⟨y,x,h⟩:=bG h;obtain⟨w,⟨q,c⟩,b,s,f,_⟩:=eV h R;obtain⟨v,z,k,a,n,p,k3,t⟩:=BZ d c f s;exact Bc v (abK (R.ev x) k) I ⟨β,a,n,b.trans p,k3,t⟩
 .obtain⟨k,x,h⟩:=bG h;obtain⟨f,a,b,s,c,_⟩:=eV h R;rcases a with a | a
  .obtain⟨v,y,p,n,q,t,k3,w⟩:=BZ d a c s;exact Bc v (Oj (R.ev x) p) I ⟨β,n,q,b.trans t,k3,w⟩
  obtain⟨_,a,_⟩:=vG a;obtain⟨v,y,p,n,q,t,k3,w⟩:=BZ d a c s;exact Bc v (Oj (R.ev x) p) I ⟨β,n,q,b.trans t,k3,w⟩
 .obtain⟨w,x,h⟩:=bG h;obtain⟨t,a,c,s,f,_⟩:=eV h R;obtain⟨_,a,_⟩:=vG a;obtain⟨v,y,k,b,n,p,k3,q⟩:=BZ d a f s;exact Bc v (dfs (R.ev x) k) I ⟨β,b,n,c.trans p,k3,q⟩
 exact h.elim
end
def nd(P:Program)(st:St)(o:Op):L:=match o with
 | .load _ x=>(match st.ev x with
  | some (.ad _)=>aF
  | _=>aM)
 | .convert s _ _=>(match P.underlying s with
  | some (.slice _)=>aF
  | _=>aM)
 | _=>aM
def Gk(b:L)(st:St)(K:St->Prop):Prop:=bif b&&st.mv then fJ st K else K st
def Au{b}{st}{K}(h:Gk b st K){β}{a}{w}(R:Rep β st a w):∃d,K d/\Ext st d/\Rep β d a w/\d.fr=st.fr/\d.n=st.n:=by
 rcases qt h with⟨_,h⟩ | ⟨_,h⟩
 .obtain⟨s,a,b,c,g,e,f,_⟩:=eV h R;exact⟨s,a,b,c,e,f⟩
 exact⟨st,h,VY _,R,I,I⟩
def GP(P:Program):X Oper->L
 | []=>aF
 | o::r=>lj P o.op&&GP P r
def MB:X Oper->L
 | []=>aM
 | o::r=>mem o.op||MB r
def mSl:XT:=λ_ _ p=>p
def er0:YT:=λ_ p=>p
def agT(P:Program)(t:TypeId):L:=match P.underlying t with
 | some d=>oo d
 | none=>aM
def Vy(P:Program)(o:Oper)(v:SV)(K:SV->Prop):Prop:=match o.op,v with
 | .extract _ _,.raw x=>(match TR P 12 o.type with
  | []=>K (.raw x)
  | [.raw]=>K (.raw x)
  | ls=>ZA ls λv=>x.v=val β0 (Rs (agT P o.type) v)/\K (Rs (agT P o.type) v))
 | _,v=>K v
def aaJ{P}{o}{v}{K}(h:Vy P o v K):∃u,K u/\∀a,val a u=val a v:=by
 unfold Vy at h;split at h
 .split at h
  .exact⟨_,h,λ_=>I⟩
  .exact⟨_,h,λ_=>I⟩
  obtain⟨v,⟨e,h⟩,_,c⟩:=vG h;exact⟨_,h,λa=>Eq.trans (jQ (g:=λ_=>aM) (λi h=>Rl) _ (aeZ _ _ (c _))).symm e.symm⟩
 exact⟨_,h,λ_=>I⟩
def Ol(P:Program)(st:St)(o:Oper)(K:St->Prop):Prop:=
 bif lj P o.op then Gk (nd P st o.op) st λst=>RQ P [] st o.op λv=>Vy P o v λv=>K (st.put o.dst v)else loud P mSl er0 st o K
def BG(P:Program)(o:X Oper):Nat->X Oper->St->(St->Prop)->Prop
 | 0,_,_,_=>False
 | _+1,[],st,K=>K st
 | f+1,a::r,st,K=>match a.guard with
  | none=>Ol P st a λst=>BG P o f r st K
  | some (j,want)=>(match U9 st o j with
   | some (_,.un)=>BG P o f r (st.put a.dst .un) K
   | some (_,.bl b)=>bif b==want then Ol P st a λst=>BG P o f r st K else BG P o f r (st.put a.dst .un) K
   | some (d,.bt t)=>bif GP P ((a::r).take (BF o j (a::r)+1))
    then Gk (MB ((a::r).take (BF o j (a::r)+1))) st λst=>Ap P o f [] ((a::r).take (BF o j (a::r)+1)) st λst=>BG P o f ((a::r).drop (BF o j (a::r)+1)) st K
    else((t=aF->BG P o f (a::r) (st.put (Hg d) (.bl aF)) K)/\(t=aM->BG P o f (a::r) (st.put (Hg d) (.bl aM)) K))
   | _=>False)
section
variable {P:Program} {ops:X Oper} {Q:Exit->Act->aw->Prop}
def shB{st}{o}{rest}{K}{β}{a}{w}(h:Ol P st o K)(R:Rep β st a w)(e:Region.wanted o (yielded ops.toArray a.tmps)=aF)
  (g:∀b d c f,K d->Ext st d->Rep b d c f->wpList P ops.toArray Q rest c f):wpList P ops.toArray Q (o::rest) a w:=by
 rcases qt h with⟨_,h⟩ | ⟨_,h⟩
 .obtain⟨s,k,l,j,m,n⟩:=Au h R;obtain⟨v,i,y⟩:=Mu k;obtain⟨u,i,ev⟩:=aaJ i;exact L9 _ e (y trivial β a w j _ _ _ _ _ w λ_=>I) I (g β _ _ w i (l.trans (Nr _ _ _)) (ev β▸j.put o.dst u))
 refine aeU e (Oper.wp_mono ?_ (GN (E:=λ_ _=>True) (λ_ _ _ h=>⟨h,trivial⟩) (λ_ _ _=>trivial) (λ_ _ _ _ _ _ h _ _=>⟨h,trivial⟩) h R))
 grind
def wI:∀{f:Nat} {l:X Oper} {st:St} {K:St->Prop},BG P ops f l st K->∀{h:Nat->Nat} {a:Act} {g:aw},Rep h st a g->
  (∀c j e w,K j->Ext st j->Rep c j e w->Q .normal e w)->wpList P ops.toArray Q l a g
 | 0,_,_,_,a,_,_,_,_,_=>a.elim
 | _+1,[],st,K,b,h,a,g,R,d=>d h st a g b (VY _) R
 | f+1,o::r,st,K,i,h,a,g,R,k=>by
  have n:BG P ops f r _ K->Region.wanted o _=aM->wpList P ops.toArray Q _ a g:=λi m=>
   acu m I (wI i (R.put o.dst .un) λc j e w a b k3=>k c j e w a ((Nr _ _ _).trans b) k3)
  have y:(Ol P st o λst=>BG P ops f r st K)->Region.wanted o _=aF->wpList P ops.toArray Q _ a g:=λi m=>
   shB i R m λc j e w d f k3=>wI d k3 λa B b t p q s=>k a B b t p (f.trans q) s
  unfold BG at i;split at i
  .rename_i a;exact y i (wn a)
  rename_i q p f;split at i
  .rename_i d t;exact n i (Ao R f t)
  .rename_i d b t;have m:=sA R f t (b:=b) I
   grind
  .rename_i d t u;obtain⟨v,L,b,T⟩:=CT u;rcases qt i with⟨_,i⟩ | ⟨_,i⟩
   .generalize BF ops q _+1=H at i;obtain⟨s,A,C,D,S,V⟩:=Au i R;obtain⟨W,E,F,k3,G⟩:=uc A;obtain⟨e,x,z⟩:=G trivial h a g D;have:=GA (Q:=Q) (rest:=(o::r).drop H) x (wI E z λd B t P J M N=>k d B t P J ((C.trans F).trans M) N);simp_all
   cases t
   .exact wI (i.2 I) (R.set T I) λc j e w a d k3=>k c j e w a ((Nr _ _ _).trans d) k3
   exact wI (i.1 I) (R.set T I) λc j e w a d k3=>k c j e w a ((Nr _ _ _).trans d) k3
  exact i.elim
end
def JT:X Lf->Type
 | []=>aw->Prop
 | l::r=>l.T->JT r
def I5:(l:X Lf)->JT l->(X SV->aw->Prop)->Prop
 | [],J,K=>∀w,J w->K [] w
 | a::r,J,K=>∀x,I5 r (J x) λv w=>K (a.sv x::v) w
def JK(k:IntKind)(s:SV):Option Int:=match sw s with
 | some (k',n)=>bif VM (k'=k)then Hg n else ZQ
 | none=>ZQ
def Ku(bl:Nat->Nat)(s:SV):Option (Option Addr):=match s with
 | .box i o=>Hg (Hg ⟨bl i,o,ZQ⟩)
 | s=>opn s
def CV(s:SV):Option (Option Nat):=match s with
 | .map m=>Hg m
 | _=>ZQ
def Ul(bl:Nat->Nat)(s:SV):Option OV:=match s with
 | .raw v=>Hg v
 | .fn f s c=>Hg ⟨.func (.func f) (su bl s).toArray (su bl c).toArray,I⟩
 | _=>ZQ
def un(bl:Nat->Nat):(l:Lf)->SV->Option l.T
 | .int k=>JK k
 | .bool=>CP
 | .str=>xS
 | .ptr=>Ku bl
 | .sl=>N9
 | .map=>CV
 | .raw=>Ul bl
def aj0{bl}{l}{s}{x}(h:un bl l s=Hg x) β:val β (l.sv x)=val bl s:=by
 cases l with
 | int k=>
  have h:JK k s=Hg x:=h;unfold JK at h;split at h
  .rename_i k n o;obtain⟨e,rfl⟩:=Gy h;have e:=aO e;subst e;rw[dH o];rfl
  cases h
 | bool=>rw[oq h];rfl
 | str=>rw[jA h];rfl
 | ptr=>
  have h:Ku bl s=Hg x:=h;unfold Ku at h;split at h
  .injection h with h;subst h;rfl
  rw[acG h];rfl
 | sl=>rw[lJ h];rfl
 | map=>
  have h:CV s=Hg x:=h;unfold CV at h;split at h
  .injection h with h;subst h;rfl
  cases h
 | raw=>
  have h:Ul bl s=Hg x:=h;unfold Ul at h;split at h
  .injection h with h;subst h;rfl
  .injection h with h;subst h;rfl
  cases h
def ZG:(l:X Lf)->(Nat->Nat)->JT l->X SV->aw->Prop
 | [],_,J,[],w=>J w
 | a::r,bl,J,s::b,w=>(match un bl a s with
  | some x=>ZG r bl (J x) b w
  | none=>False)
 | _,_,_,_,_=>False
def Ud{bl}{w}:∀{l:X Lf} {J:JT l} {a:X SV} {K:X SV->aw->Prop},ZG l bl J a w->I5 l J K->∃v,K v w/\Z8 v=Z8 l/\(∀b,cV b v=cV bl a)/\∀g,jz g v=aF
 | [],J,[],K,h,k=>⟨[],k w h,I,λ_=>I,λ_=>I⟩
 | c::r,J,s::a,K,h,k=>by
  unfold ZG at h;split at h
  .rename_i x j;obtain⟨v,d,e,f,i⟩:=Ud h (k x);refine⟨_,d,by simp[e],λb=>?_,λg=>by simp[jz,Lf.cln,i g]⟩;have:=f b;simp only[cV,cu]at this⊢;rw[this,aj0 j]
  exact h.elim
 | [],_,_::_,_,h,_=>h.elim
 | _::_,_,[],_,h,_=>h.elim
inductive MI where
 | s (slot:Nat) (l:Lf)
 | a (slot:Nat) (ls:List Lf)
 | b (slot:Nat) (ls:List Lf)
def IP:X MI->X Lf
 | []=>[]
 | .s _ l::r=>l::IP r
 | .a _ l::r=>l++IP r
 | .b _ l::r=>l++IP r
def Wv(st:St)(i:Nat):Option Nat:=match st.get i with
 | some (.box j _)=>Hg j
 | _=>ZQ
def Ue:X SV->X SV
 | []=>[]
 | .box j o::r=>.box j o::Ue r
 | _::r=>Ue r
def C7(st:St):X MI->X SV
 | []=>[]
 | .b i _::r=>(match Wv st i with
  | some j=>(match du st.bx j with
   | some b=>Ue b.cells++C7 st r
   | none=>C7 st r)
  | none=>C7 st r)
 | .s i _::r=>(match st.get i with
  | some (.box j o)=>.box j o::C7 st r
  | _=>C7 st r)
 | _::r=>C7 st r
def sD(st s:St):X MI->Option (X SV)
 | []=>Hg []
 | .s i _::r=>(match s.get i,sD st s r with
  | some v,Hg l=>Hg (v::l)
  | _,_=>ZQ)
 | .a i a::r=>(match s.get i,sD st s r with
  | some (.agg l),Hg m=>bif EG l&&Nat.beq (Z8 (pu l)) (Z8 a) then Hg (pu l++m)else ZQ
  | _,_=>ZQ)
 | .b i a::r=>(match Wv st i with
  | some j=>(match du s.bx j,sD st s r with
   | some b,Hg m=>bif Nat.beq (Z8 b.cells) (Z8 a) then Hg (b.cells++m)else ZQ
   | _,_=>ZQ)
  | none=>ZQ)
def MC(c:Nat):X MI->X SV->X (Nat×Nat×SV)
 | .s i _::r,v::s=>(i,c,v)::MC c r s
 | .a i l::r,v=>(i,c,.agg (Gx (v.take (Z8 l))))::MC c r (v.drop (Z8 l))
 | .b _ l::r,v=>MC c r (v.drop (Z8 l))
 | _,_=>[]
def MD(st:St):X MI->X SV->X lU->X lU
 | .s _ _::r,_::v,b=>MD st r v b
 | .a _ l::r,v,b=>MD st r (v.drop (Z8 l)) b
 | .b i l::r,v,x=>(match Wv st i with
  | some j=>(match du x j with
   | some b=>MD st r (v.drop (Z8 l)) (Rq x j {b with cells:=v.take (Z8 l),stp:=st.ct})
   | none=>MD st r (v.drop (Z8 l)) x)
  | none=>MD st r (v.drop (Z8 l)) x)
 | _,_,b=>b
def X0:X MI->X Nat
 | []=>[]
 | .s i _::r=>i::X0 r
 | .a i _::r=>i::X0 r
 | .b _ _::r=>X0 r
def Uf(st:St):X MI->X Nat
 | []=>[]
 | .b i _::r=>(match Wv st i with
  | some j=>j::Uf st r
  | none=>Uf st r)
 | _::r=>Uf st r
def EF(fr:X (Nat×Nat×SV)):X Nat->X (Nat×Nat×SV)
 | []=>[]
 | i::r=>match eK fr i with
  | some p=>(i,p)::EF fr r
  | none=>EF fr r
def ou(st:St)(kp:X Nat)(m:X MI)(v:X SV)(w:aw):St:=
 {n:=st.n,fr:=MC st.ct m v++EF st.fr kp,bx:=MD st m v st.bx,w0:=w,mv:=aM,dt:=[],ct:=st.ct+1,df:=st.df}
def ZR(st s:St)(sl:X Nat):X Nat->L
 | []=>aF
 | i::r=>(match eK st.fr i with
  | some (k,v)=>(match eK s.fr i with
   | some (k',_)=>Nat.beq k k'&&Nat.blt k st.ct&&!sl.elem i&&cln (I0 st.bx) v
   | none=>aM)
  | none=>aF)&&ZR st s sl r
def Ry(st:St)(Y:X Nat):Nat->X lU->X lU->L
 | _,[],_=>aF
 | i,b::r,c::q=>(!b.ok||(b.blk.isSome&&(Y.elem i||(Nat.blt c.stp st.ct&&jz (I0 st.bx) b.cells))))&&Ry st Y (i+1) r q
 | _,_::_,[]=>aM
def Rz(st:St)(kp:X Nat) ms (J:JT (IP ms)) (s:St):Prop:=
 bif ZR st s (X0 ms) kp&&Ry st (Uf st ms) 0 st.bx s.bx&&Nat.beq (Z8 s.df) (Z8 st.df) then
  cw (sD st s ms) λv=>bif jz (I0 s.bx) v then ZG _ (LC s.bx) J v s.w0 else False
 else False
end Go.Kt.V
