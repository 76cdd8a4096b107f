import Derived.WalkKit
import Derived.Deep.Draws
import Derived.Deep.LoopGhost
import Derived.Deep.Quiet
import Derived.OrdersHeld
import Derived.Laws.Small
import Derived.Laws.AppendOwn
import Derived.Great.BuildSlice
import Derived.Laws.MakeOwn
import Derived.MapKept
import Derived.Lib.Strings
import Derived.KernelRfl
import Derived.ChangeKeysEq
import Derived.Laws.Tables
import Derived.Defers
import Derived.Test.YtmgndgpgngcgpaaGreatDoorRows
import Derived.Test.YtmgndgpgngcgpaaGreatDoorProg
import Derived.Lib.ParseIntB
import Derived.Lib.Bytealg
import Derived.Lib.ItoaLen
import Derived.Lib.AtoiErrMem
import Derived.Lib.Builder
import Derived.Lib.AppendStr
import Derived.Lib.UnsafeStr
import Derived.Lib.Join
import Derived.Lib.Repeat
import Derived.Laws.CopyRow
import Derived.WideKeyElems
import Derived.Sort.KeysCollected
import Derived.ProofKit
import Derived.OpenShut
import Derived.SizedLaws
import Derived.Deep.Slices
import Derived.JoinedCond
import Derived.Deep.CondSized
set_option linter.unusedSectionVars false
set_option linter.unusedSimpArgs false
set_option linter.unusedVariables false
theorem aE{P:Prop}(h:P:=by omega):P:=h
theorem aL{P:Prop}(h:P:=by decide):P:=h
theorem aM{P:Prop}(h:P:=by simp):P:=h
theorem aaa{P:Prop}(h:P:=by rw[eY (by omega) (by omega)];rfl):P:=h
theorem aaf{P:Prop}(h:P:=by simp;omega):P:=h
theorem aan{P:Prop}(h:P:=by unfold dE;dsimp only;omega):P:=h
theorem aax{P:Prop}(h:P:=by simpa using hc):P:=h
theorem aaL{P:Prop}(h:P:=by simp only[aO]at hx;omega):P:=h
theorem aaQ{P:Prop}(h:P:=by cases h):P:=h
theorem aaT{P:Prop}(h:P:=by simp only[aO]at hx;simp[hx]):P:=h
theorem aaU{P:Prop}(h:P:=by simpa using hk):P:=h
theorem aaV{P:Prop}(h:P:=by simp only[ba,bp,cb]at hx;omega):P:=h
theorem aaW{P:Prop}(h:P:=by simp only[aO];omega):P:=h
theorem aaX{P:Prop}(h:P:=by have:=aR hc;omega):P:=h
theorem aaY{P:Prop}(h:P:=by rw[cq];omega):P:=h
theorem aaZ{P:Prop}(h:P:=by simp only[aO]at hm;omega):P:=h
theorem aa0{P:Prop}(h:P:=by have:=aU hc;omega):P:=h
theorem aa1{P:Prop}(h:P:=by dsimp only;omega):P:=h
theorem aa2{P:Prop}(h:P:=by simpa using hb):P:=h
theorem aa3{P:Prop}(h:P:=by simpa using hm):P:=h
theorem aa4{P:Prop}(h:P:=by rintro _ w' ⟨v,rfl,⟨t,rfl,h⟩,h'⟩;exact⟨⟨t,rfl,h⟩,h'⟩):P:=h
theorem aa5{P:Prop}(h:P:=by rintro _ w' ⟨v,rfl,⟨s,rfl,h⟩,h'⟩;exact⟨⟨s,rfl,h⟩,h'⟩):P:=h
theorem aa6{P:Prop}(h:P:=by simp at h):P:=h
theorem aa7{P:Prop}(h:P:=by dsimp only;decide):P:=h
theorem aa8{P:Prop}(h:P:=by have:=(hS.blk e).2;dsimp only at this;omega):P:=h
theorem aa9{P:Prop}(h:P:=by simpa using hx):P:=h
theorem aba{P:Prop}(h:P:=by rw[aN,br];omega):P:=h
theorem abb{P:Prop}(h:P:=by simpa using h):P:=h
theorem abc{P:Prop}(h:P:=by unfold dE vQ;dsimp only;omega):P:=h
theorem abd{P:Prop}(h:P:=by have:=h.hG k hk;simp only[aO]at hm;omega):P:=h
theorem abm{P:Prop}(h:P:=by simp only[aN,aW,bd];omega):P:=h
theorem abn{P:Prop}(h:P:=by simp only[aO]at hk;omega):P:=h
theorem abv{P:Prop}(h:P:=by simpa using h1):P:=h
theorem abz{P:Prop}(h:P:=by intro x hx;simp only[ba,bp,cb]at hx⊢;omega):P:=h
theorem abA{P:Prop}(h:P:=by rw[hy]at ha;simpa[jM]using ha):P:=h
theorem abB{P:Prop}(h:P:=by simp at hx;simp[hx]):P:=h
theorem abD{P:Prop}(h:P:=by rw[aN];omega):P:=h
theorem abS{P:Prop}(h:P:=by simpa using hi):P:=h
theorem abZ{P:Prop}(h:P:=by unfold fR at hf;omega):P:=h
theorem ab0{P:Prop}(h:P:=by simp only[ba,bp,cb]at hx⊢;omega):P:=h
theorem ab4{P:Prop}(h:P:=by simp only[aO]at hx;exact .inl (by omega)):P:=h
theorem ab5{P:Prop}(h:P:=by have:=hk.2;omega):P:=h
theorem ab8{P:Prop}(h:P:=by rw[<-e];exact hk):P:=h
theorem ab9{P:Prop}(h:P:=by have:=(hP.buf.lt e).2;omega):P:=h
theorem acb{P:Prop}(h:P:=by rw[dI h0 cY];decide):P:=h
theorem acd{P:Prop}(h:P:=by simpa using he):P:=h
theorem ace{P:Prop}(h:P:=by simp only[ba,bp,cb]at hq;omega):P:=h
theorem ack{P:Prop}(h:P:=by rw[bM,bQ (bc.1 hj).1];exact hj):P:=h
theorem acn{P:Prop}(h:P:=by simp only[eM,gZ,bq]at hc;exact hc▸rfl):P:=h
theorem acp{P:Prop}(h:P:=by simpa using hf):P:=h
theorem acq{P:Prop}(h:P:=by rw[bd];omega):P:=h
theorem acs{P:Prop}(h:P:=by have:=h.hF k hk;have:=hb k hm;omega):P:=h
theorem acv{P:Prop}(h:P:=by rw[show ao #[59]=T [59]from rfl,eI]):P:=h
theorem acB{P:Prop}(h:P:=by rw[kg]at hi;simpa using hi):P:=h
theorem acC{P:Prop}(h:P:=by unfold V at h;exact h.elim):P:=h
theorem acI{P:Prop}(h:P:=by simp[hx]):P:=h
theorem acJ{P:Prop}(h:P:=by rw[eY (by omega) (by omega)];omega):P:=h
theorem acK{P:Prop}(h:P:=by rw[hy];rfl):P:=h
theorem acL{P:Prop}(h:P:=by rw[hy];simp):P:=h
theorem acM{P:Prop}(h:P:=by simpa using hn):P:=h
theorem acN{P:Prop}(h:P:=by simpa using uC):P:=h
theorem acO{P:Prop}(h:P:=by rw[lV,aX,hx]):P:=h
theorem acP{P:Prop}(h:P:=by unfold fR; omega):P:=h
theorem acQ{P:Prop}(h:P:=by have:=DS g hg;simp;omega):P:=h
theorem acR{P:Prop}(h:P:=by simp only[aO]at hy;omega):P:=h
theorem acS{P:Prop}(h:P:=by have:=hs.2.2;have:=hO.size;omega):P:=h
theorem acT{P:Prop}(h:P:=by rw[ny wr l];simp only[aN];omega):P:=h
theorem acU{P:Prop}(h:P:=by have:=(vZ x hx).1;omega):P:=h
theorem acV{P:Prop}(h:P:=by rw[hs];decide):P:=h
theorem acW{P:Prop}(h:P:=by rw[hh];decide):P:=h
theorem acX{P:Prop}(h:P:=by unfold fR at hn; omega):P:=h
theorem acY{P:Prop}(h:P:=by unfold gK;exact bA (by omega)):P:=h
theorem acZ{P:Prop}(h:P:=by rw[ln];simp only[aW,bd];omega):P:=h
theorem ac1{P:Prop}(h:P:=by rw[aN];simp only[aW,bd];omega):P:=h
theorem ac2{P:Prop}(h:P:=by rw[bd]at hf;omega):P:=h
theorem ac3{P:Prop}(h:P:=by simpa using hv):P:=h
theorem ac4{P:Prop}(h:P:=by rw[bN];omega):P:=h
theorem ac5{P:Prop}(h:P:=by simpa using k1):P:=h
theorem ac6{P:Prop}(h:P:=by simpa using k3):P:=h
theorem ac7{P:Prop}(h:P:=by simpa using k4):P:=h
theorem ac8{P:Prop}(h:P:=by unfold iU;split<;>rfl):P:=h
theorem ac9{P:Prop}(h:P:=by grind):P:=h
theorem ada{P:Prop}(h:P:=by simpa using hk.2):P:=h
theorem adb{P:Prop}(h:P:=by have:=aR h;omega):P:=h
theorem ade{P:Prop}(h:P:=by have:=hk.1;omega):P:=h
theorem adf{P:Prop}(h:P:=by rw[kg]at ho;simpa using ho):P:=h
theorem adg{P:Prop}(h:P:=by cases e):P:=h
theorem adh{P:Prop}(h:P:=by simp[Op.equalIn,hu]):P:=h
theorem adi{P:Prop}(h:P:=by simp at hk;simp[hk]):P:=h
theorem adj{P:Prop}(h:P:=by simpa using hG k hk):P:=h
theorem adk{P:Prop}(h:P:=by simp[Program.plainKey,hu]):P:=h
theorem adl{P:Prop}(h:P:=by subst e;simp at hc):P:=h
theorem adm{P:Prop}(h:P:=by simp only[aO]at hq;omega):P:=h
theorem adn{P:Prop}(h:P:=by cases hx):P:=h
theorem ado{P:Prop}(h:P:=by simpa using h2):P:=h
theorem adp{P:Prop}(h:P:=by simpa using h4):P:=h
theorem adq{P:Prop}(h:P:=by simpa using hh):P:=h
theorem adr{P:Prop}(h:P:=by have:=(xP.lt e).1;omega):P:=h
theorem ads{P:Prop}(h:P:=by unfold mu;split<;>omega):P:=h
theorem adt{P:Prop}(h:P:=by have:=uz.lt;omega):P:=h
theorem adu{P:Prop}(h:P:=by have:=aR bT;omega):P:=h
theorem adv{P:Prop}(h:P:=by rw[bd,bM];exact sI _ _):P:=h
theorem adw{P:Prop}(h:P:=by rw[lW,hl];rfl):P:=h
theorem adx{P:Prop}(h:P:=by decide+kernel):P:=h
theorem ady{P:Prop}(h:P:=by rw[hw];decide):P:=h
theorem adz{P:Prop}(h:P:=by have:=EV x;omega):P:=h
theorem adA{P:Prop}(h:P:=by first | rfl | trivial):P:=h
theorem adB{P:Prop}(h:P:=by rw[h0]at hr;cases hr):P:=h
theorem adC{P:Prop}(h:P:=by rw[hk];rfl):P:=h
theorem adD{P:Prop}(h:P:=by rw[bN];exact hn):P:=h
theorem adE{P:Prop}(h:P:=by rw[lV];rfl):P:=h
theorem adF{P:Prop}(h:P:=by rw[hb]at hh;cases hh):P:=h
theorem adG{P:Prop}(h:P:=by rw[br];omega):P:=h
theorem adH{P:Prop}(h:P:=by rw[hy];simp[oO]):P:=h
theorem adI{P:Prop}(h:P:=by rw[bM];exact hj):P:=h
theorem adJ{P:Prop}(h:P:=by simpa using hr):P:=h
theorem adK{P:Prop}(h:P:=by simpa using hl):P:=h
theorem adL{P:Prop}(h:P:=by cases hk):P:=h
theorem adM{P:Prop}(h:P:=by cases hb):P:=h
theorem adN{P:Prop}(h:P:=by simpa using hz):P:=h
theorem adO{P:Prop}(h:P:=by simpa using pF):P:=h
theorem adP{P:Prop}(h:P:=by simpa using hq):P:=h
theorem adQ{P:Prop}(h:P:=by simpa using h0):P:=h
theorem adR{P:Prop}(h:P:=by cases hh):P:=h
theorem adS{P:Prop}(h:P:=by simpa using ho):P:=h
theorem adT{P:Prop}(h:P:=by simpa using pQ):P:=h
theorem adU{P:Prop}(h:P:=by simpa using oT):P:=h
theorem ad2{P:Prop}(h:P:=by simpa using k2):P:=h
theorem ad3{P:Prop}(h:P:=by simpa using hs):P:=h
theorem aeh{P:Prop}(h:P:=by simpa using vK):P:=h
theorem aei{P:Prop}(h:P:=by simp[Addr.add]):P:=h
theorem aek{P:Prop}(h:P:=by simpa using hp):P:=h
theorem aet{P:Prop}(h:P:=by rw[cA,hx];rfl):P:=h
theorem aev{P:Prop}(h:P:=by rw[hp];decide):P:=h
theorem age{P:Prop}(h:P:=by rw[hsz];omega):P:=h
theorem agi{P:Prop}(h:P:=by rw[bn,hy];rfl):P:=h
theorem agz{P:Prop}(h:P:=by rw[h5];decide):P:=h
theorem agA{P:Prop}(h:P:=by rw[h1];rfl):P:=h
theorem agD{P:Prop}(h:P:=by simp[hy]):P:=h
theorem ahb{P:Prop}(h:P:=by simp[h1]):P:=h
set_option linter.defProp false
def aN:=@List.length_append
def aO:=@List.mem_singleton
def aP:=@Bool.and_eq_true
def aQ:=@if_neg
def aR:=@of_decide_eq_true
def aU:=@of_decide_eq_false
def aV:=@if_pos
def aW:=@List.length_cons
def aX:=@Int.toNat_natCast
def aY:=@Nat.le_refl
def aZ:=@Int.natCast_nonneg
def ba:=@List.mem_cons
def bc:=@List.getElem?_eq_some_iff
def bd:=@List.length_nil
def be:=@Nat.zero_le
def bf:=@List.append_assoc
def bh:=@List.mem_of_getElem?
def bm:=@List.take_of_length_le
def bn:=@List.take_add_one
def bp:=@List.not_mem_nil
def bq:=@Option.some.injEq
def br:=@List.length_singleton
def bA:=@decide_eq_false
def bB:=@Nat.le_trans
def bD:=@List.append_nil
def bE:=@decide_eq_true
def bF:=@List.eq_nil_of_length_eq_zero
def bH:=@Bool.eq_iff_iff
def bI:=@decide_eq_true_eq
def bJ:=@List.getElem?_eq_getElem
def bK:=@List.map_cons
def bL:=@Decidable.byContradiction
def bM:=@Nat.zero_add
def bN:=@List.length_map
def bO:=@congrArg
def bP:=@List.nil_append
def bQ:=@List.getElem?_append_left
def bX:=@List.cons_append
def bZ:=@Bool.true_and
def cb:=@or_false
def cd:=@Nat.eq_of_beq_eq_true
def ci:=@List.take_zero
def cr:=@List.length_drop
def cu:=@List.mem_append
def cw:=@List.getElem?_append_right
def cx:=@Bool.or_eq_true
def cA:=@List.getElem?_map
def cD:=@List.getElem?_cons_zero
def cE:=@List.sum_cons
def cF:=@List.length_take
def cJ:=@Nat.lt_of_lt_of_le
def cN:=@List.map_append
def cQ:=@Bool.false_and
def cV:=@Bool.not_eq_true'
def da:=@Bool.and_true
def di:=@List.getElem?_eq_none
def dk:=@List.takeWhile_cons
def dl:=@List.mem_cons_of_mem
def dm:=@List.getElem?_cons_succ
def du:=@beq_iff_eq
def dv:=@List.drop_of_length_le
def dA:=@Nat.le_of_ble_eq_true
def dC:=@List.flatten_cons
def dM:=@Nat.add_sub_cancel_left
def dP:=@List.take_append_drop
def dR:=@decide_eq_true_iff
def dZ:=@List.mem_cons_self
def eo:=@Nat.add_assoc
def ey:=@List.all_eq_true
def ez:=@Nat.mul_le_mul_right
def eE:=@Option.map_eq_some_iff
def eJ:=@Nat.add_mul
def eK:=@List.contains_iff_mem
def eM:=@List.singleton_append
def eU:=@List.filter_nil
def eV:=@decide_eq_false_iff_not
def fg:=@Bool.or_eq_false_iff
def fk:=@Nat.add_zero
def fp:=@Except.ok.injEq
def fx:=@Prod.mk.injEq
def fy:=@Int.toNat_of_nonneg
def fC:=@List.map_nil
def fH:=@Option.toList_some
def fI:=@Bool.and_false
def fS:=@List.take_succ_cons
def fY:=@Option.isSome_iff_exists
def fZ:=@List.drop_zero
def gp:=@Option.map_some
def gw:=@List.getElem?_drop
def gx:=@Bool.not_eq_false'
def gz:=@List.getElem?_of_mem
def gA:=@List.take_length
def gM:=@List.mem_map
def gN:=@Bool.eq_false_iff
def gP:=@Array.getElem?_eq_none
def gR:=@List.flatMap_append
def gZ:=@List.head?_cons
def ij:=@List.drop_eq_getElem_cons
def iv:=@Bool.false_eq_true
def iw:=@Option.getD_some
def iE:=@List.map_map
def ja:=@List.all_append
def jf:=@if_false
def jg:=@List.toList_toArray
def jp:=@List.sum_nil
def jr:=@Nat.le_succ
def js:=@List.map_take
def jt:=@Int.le_refl
def jG:=@List.drop_drop
def jI:=@Bool.and_eq_false_iff
def kf:=@Nat.add_comm
def kl:=@List.all_cons
def kY:=@Nat.add_le_add
def lw:=@List.filter_append
def lU:=@List.ext_getElem?
def mz:=@Array.getElem?_eq_some_iff
def mA:=@List.elem_cons
def nE:=@Bool.or_true
def nG:=@Nat.lt_or_ge
def nH:=@Nat.sub_self
def nI:=@Bool.not_eq_true
def nS:=@List.drop_succ_cons
def oY:=@cond_true
def pR:=@List.size_toArray
def pS:=@Nat.zero_mul
def pT:=@List.foldl_append
def qE:=@Array.getElem?_setIfInBounds_ne
def qG:=@List.set_append_right
def qH:=@List.getElem?_toArray
def qI:=@List.take_eq_take_iff
def ry:=@decide_eq_decide
def rz:=@List.filter_cons
def rA:=@List.flatMap_nil
def rF:=@Bool.false_or
def rG:=@List.map_drop
def sY:=@List.length_set
def sZ:=@List.cons.injEq
def ta:=@Array.length_toList
def tf:=@List.map_congr_left
def th:=@List.length_pos_iff
def vL:=@List.getElem?_take
def vM:=@cond_false
def vN:=@Bool.and_assoc
def wH:=@if_true
def wI:=@Nat.mul_one
def wJ:=@List.flatMap_cons
def wK:=@Nat.lt_succ_of_le
def wL:=@List.all_eq_false
def yU:=@Nat.le_of_not_lt
def yV:=@Nat.le_max_right
def zU:=@Nat.sub_zero
def zV:=@List.getElem_cons_drop
def zW:=@Bool.not_and
def Az:=@Option.map_none
def AA:=@List.headD_cons
def AB:=@Nat.le_max_left
def AD:=@Option.some.inj
def AE:=@List.any_append
def Cp:=@Array.getElem?_modify
def CY:=@Bool.not_false
def FV:=@List.flatten_append
def FW:=@beq_eq_false_iff_ne
def F9:=@Bool.or_false
def Iv:=@List.set_cons_zero
def KK:=@List.getElem?_set
def KL:=@Nat.le_of_eq
def KM:=@Bool.true_or
def KN:=@Decidable.not_not
def O2:=@Option.bind_some
def O3:=@Array.toList_inj
def O4:=@List.flatten_nil
def O5:=@Nat.succ_le_succ
def O6:=@Nat.lt_succ_self
def O7:=@List.map_id
def PG:=@List.take_append_of_le_length
def T3:=@UInt8.toNat_inj
def T4:=@List.sum_append
def T5:=@Nat.not_lt_zero
def UG:=@List.take_length_add_append
def UH:=@List.drop_length_add_append
abbrev axi(w v:Go.World)(k:Nat)(p:Prop):Prop:=w.heap.size<=k->k<v.heap.size->p
abbrev aG:=Go.Value->Go.World->Prop
abbrev aH:=List UInt8
abbrev aI:=List Go.Value
abbrev aJ:=Nat->Prop
abbrev aK:=ByteArray
namespace Go.Kt
open Go renaming World->av,Value->aw
open Go Go.RowKit
structure Sl where
 a:Option Addr
 n:Nat
 c:Nat
@[reducible] def Sl.v(s:Sl):aw:=.slice s.a s.n s.c
@[reducible] def Sl.nil:Sl:=⟨none,0,0⟩
def Sl.cut(s:Sl)(l h m size:Nat):Sl:=⟨if m=l then s.a else s.a.map (·.add (l*size)),h-l,m-l⟩
def cR(s:Sl)(i:Int)(size:Nat)(ad:Addr):Prop:=∃base,s.a=some base/\0<=i/\i<s.n/\ad=base.add (i.toNat*size)
structure Only (bs:List Nat) (w w':av):Prop where
 os:w'.os=w.os
 tape:w'.tape=w.tape
 output:w'.output=w.output
 size:w.heap.size<=w'.heap.size
 block:∀k,k<w.heap.size->k∉bs->w'.heap[k]? =w.heap[k]?
def Blk(w:av)(b:Nat)(t:TypeId)(cs:List aw):Prop:=w.heap[b]? =some (.cells cs.toArray t (0,0))
def Cells(w:av)(a:Addr)(cs:List aw):Prop:=∀j v,cs[j]? =some v->w.cell? (a.add j)=some v
def bS(bs:List Nat)(w w':av):Prop:=∀b,b∈bs->w'.heap[b]? =w.heap[b]?
def gC(b:UInt8):aw:=.int .u8 b.toNat
def sD(w:av)(s:Sl)(l:List UInt8):Prop:=s.n=l.length/\(l≠[]->∃ad,s.a=some ad/\Cells w ad (l.map gC))
def Sl.blk(s:Sl):Nat:=match s.a with | some a=>a.block | none=>0
def cj(cs:List aw)(o:Nat)(vs:List aw):List aw:=cs.take o++vs++cs.drop (o+vs.length)
section
variable {w w' sR:av} {bs bs':List Nat} {b:Nat} {t:TypeId} {cs:List aw}
theorem Blk.lt(h:Blk w b t cs):b<w.heap.size:=(mz.1 h).1
theorem Only.refl bs w:Only bs w w:=⟨rfl,rfl,rfl,aY _,λ_ _ _=>rfl⟩
theorem Only.weaken(h:Only bs w w')(hb:∀x,x∈bs->x∈bs'∨w.heap.size<=x):Only bs' w w':=
 ⟨h.os,h.tape,h.output,h.size,λk hk hn=>h.block k hk λhm=>ac9⟩
theorem Only.trans(h:Only bs w w')(k:Only bs' w' sR)(hb:∀x,x∈bs'->x∈bs∨w.heap.size<=x):Only bs w sR:=
 ⟨k.os.trans h.os,k.tape.trans h.tape,k.output.trans h.output,bB h.size k.size,λi hi hn=>
  (k.block i (cJ hi h.size) λhm=>ac9).trans (h.block i hi hn)⟩
theorem Only.ca(h:Only bs w w')(k:Only [] w' sR):Only bs w sR:=h.trans k aM
theorem Only.cons(h:Only bs w w')(k:Only [b] w' sR):Only (b::bs) w sR:=
 (h.weaken (bs':=b::bs) λ_ hx=>.inl (dl _ hx)).trans k λx hx=>.inl ac9
theorem Only.mem(h:Only bs w w')(k:Only [b] w' sR)(hb:b∈bs):Only bs w sR:=h.trans k λx hx=>.inl ac9
theorem Only.new(h:Only bs w w')(k:Only [b] w' sR)(hb:w.heap.size<=b):Only bs w sR:=h.trans k λx hx=>.inr ac9
theorem Only.blk(h:Only bs w w')(hb:Blk w b t cs)(hn:b∉bs):Blk w' b t cs:=(h.block b hb.lt hn).trans hb
theorem Only.below(h:Only bs w w'){B}(hB:B<=w.heap.size)(hb:∀x,x∈bs->B<=x):Below B w w':=
 ⟨h.os,h.tape,h.output,h.size,λk hk=>h.block k aE λhm=>by have:=hb k hm;omega⟩
theorem Only.xL(h:Below w.heap.size w w'):Only [] w w':=⟨h.os,h.tape,h.output,h.size,λk hk _=>h.block k hk⟩
theorem Only.drew w:Only [] w w.drew:=⟨rfl,rfl,rfl,aY _,λ_ _ _=>rfl⟩
theorem Only.drewN w n:Only [] w (w.drewN n):=⟨rfl,rfl,rfl,aY _,λ_ _ _=>rfl⟩
theorem Only.alloc w o:Only [] w (w.alloc o):=⟨rfl,rfl,rfl,aM,λk hk _=>_root_.Go.heap_alloc_old w o hk⟩
theorem Only.setRow w b cs:Only [b] w (w.setRow b cs):=⟨rfl,rfl,rfl,aM,λk _ hn=>setRow_other w b k cs acM⟩
theorem Only.same(h:Only bs w w')(hl:∀x,x∈bs'->x<w.heap.size/\x∉bs):bS bs' w w':=λx hx=>h.block x (hl x hx).1 (hl x hx).2
theorem Blk.alloc(w:av) t cs:Blk (w.alloc (.cells cs.toArray t)) w.heap.size t cs:=heap_alloc_new w _
theorem Blk.setRow(h:Blk w b t cs) yN:Blk (w.setRow b yN.toArray) b t yN:=setRow_heap w b _ _ t _ h
theorem Blk.cell(h:Blk w b t cs) i:w.cell? ⟨b,i,none⟩=cs[i]? :=by rw[cell_of_row w b i cs.toArray t _ h];simp
theorem Blk.cells(h:Blk w b t cs) o vs (hv:∀j v,vs[j]? =some v->cs[o+j]? =some v):Cells w ⟨b,o,none⟩ vs:=λj v hj=>by
 have amn:(⟨b,o,none⟩:Addr).add j=⟨b,o+j,none⟩:=by unfold Addr.add<;>simp_all
 rw[amn,h.cell];exact hv j v hj
theorem Blk.FB(h:Blk w b t cs) o vs (hv:(cs.drop o).take vs.length=vs):Cells w ⟨b,o,none⟩ vs:=h.cells o vs λj v hj=>ac9
theorem Cells.one{a}{v}(h:Cells w a [v]):w.cell? a=some v:=by have:=h 0 v rfl;simpa[Addr.add]using this
theorem Cells.keep{a}(h:Cells w a cs)(hk:w'.heap[a.block]? =w.heap[a.block]?):Cells w' a cs:=λj v hj=>by
 rw[World.cell?_of_block (w:=w) _ (a:=a.add j)]
 ·exact h j v hj
 have:(a.add j).block=a.block:=by unfold Addr.add;split<;>rfl
 rw[this,hk]
theorem Cells.lt'{a}(h:Cells w a cs)(hc:cs≠[]):a.block<w.heap.size:=by
 cases cs with
 | nil=>exact absurd rfl hc
 | cons v cs=>
  have h2:=block_lt_of_cell (h 0 v rfl);have e:(a.add 0).block=a.block:=rfl;omega
theorem Cells.lt{a}{v}(h:Cells w a (v::cs)):a.block<w.heap.size:=by
 have:=h 0 v rfl;have h2:=block_lt_of_cell this;have e:(a.add 0).block=a.block:=rfl;omega
end
section
variable {P:Program} {ops:Array Oper} {Q:Exit->Act->av->Prop} {rest:List Oper} {a a':Act} {w w':av}
theorem f0(l:List aw) ds (k:Nat) v:Act.put ⟨l.toArray,ds⟩ (some k) v=⟨(l.set k v).toArray,ds⟩:=by simp[Act.put]
theorem f1 x l (v:aw):(x::l).set 0 v=v::l:=rfl
theorem f3(a:Act) v:a.put none v=a:=rfl
theorem f2 x l k (v:aw):(x::l).set (k+1) v=x::l.set k v:=rfl
def ia:List Oper->Nat->Option Oper
 | [],_=>none
 | v::_,0=>some v
 | _::r,n+1=>ia r n
theorem kg:∀l n,ia l n=l[n]?
 | [],_=>rfl
 | _::_,0=>rfl
 | _::r,n+1=>kg r n
def UI:List aw->Nat->Option aw
 | [],_=>none
 | v::_,0=>some v
 | _::r,n+1=>UI r n
theorem DX:∀l n,UI l n=l[n]?
 | [],_=>rfl
 | _::_,0=>rfl
 | _::r,n+1=>DX r n
theorem wt{o oj}{dS}{l}{ds}{j d:Nat}{want b r}(h1:o.guard=some (j,want))(h2:ia dS j=some oj)(h3:oj.dst=some d)
  (h4:UI l d=some (.bool b)) (h5:(b==want)=r):Region.wanted o (yielded dS.toArray (⟨l.toArray,ds⟩:Act).tmps)=r:=by
 subst h5;rw[kg]at h2;rw[DX]at h4;have e:yielded dS.toArray (⟨l.toArray,ds⟩:Act).tmps j=some b:=by simp[yielded,h2,h3,h4]
 simp only[Region.wanted,h1,e];rfl
theorem wu{o oj}{dS}{l}{ds}{j d:Nat}{want}(h1:o.guard=some (j,want))(h2:ia dS j=some oj)(h3:oj.dst=some d)
  (h4:UI l d=some undef):Region.wanted o (yielded dS.toArray (⟨l.toArray,ds⟩:Act).tmps)=false:=by
 rw[kg]at h2;rw[DX]at h4;have e:yielded dS.toArray (⟨l.toArray,ds⟩:Act).tmps j=none:=by simp[yielded,h2,h3,h4,undef]
 simp[Region.wanted,h1,e]
theorem wn{o}{f}(h:o.guard=none):Region.wanted o f=true:=by simp[Region.wanted,h]
theorem IJ{o} v (hg:Region.wanted o (yielded ops a.tmps)=true)
  (hr:(execOp a.eval o).run P w=.ok (.value v) w') (ha:a.put o.dst v=a') (h:wpList P ops Q rest a' w'):wpList P ops Q (o::rest) a w:=by
 subst ha;unfold wpList;rw[aV hg];refine .inl ?_;unfold Oper.wp;rw[hr];exact h
theorem Xf{o}(hg:Region.wanted o (yielded ops a.tmps)=false)(ha:a.put o.dst undef=a')(h:wpList P ops Q rest a' w):wpList P ops Q (o::rest) a w:=by
 subst ha;unfold wpList;simp_all
theorem DY{dst}{ty}{x}{t'}{p}{af}{g}{ad}{v}
  (Kb:(isAgg ty).run P w=.ok false w) (hx:a.eval x=.pointer (some ad)) (hc:w.cell? ad=some v):
  (execOp a.eval ⟨dst,.load ty x,t',p,af,g⟩).run P w=.ok (.value v) w:=by
 simp[execOp,hx,Instr.loadAt,Instr.sureAddr,Sem.run_bind,Sem.run_pure,Result.andThen_ok,loadVar,Kb,iv,jf,run_load,hc]
theorem uH{dst}{ty}{x}{t'}{p}{af}{g}{ad}{cs}{n}
  (Kb:(isAgg ty).run P w=.ok true w) (hsz:(sizeOf ty).run P w=.ok n w) (hn:cs.length=n) (hx:a.eval x=.pointer (some ad)) (hc:Cells w ad cs):
  (execOp a.eval ⟨dst,.load ty x,t',p,af,g⟩).run P w=.ok (.value (.agg cs.toArray)) w:=by
 have hl:=run_loadCells_list (P:=P) w ad cs hc;rw[hn]at hl;simp[execOp,hx,Instr.loadAt,Instr.sureAddr,Sem.run_bind,Sem.run_pure,Result.andThen_ok,loadVar,Kb,wH,hsz,hl]
theorem UJ{dst}{ty}{x y}{t'}{p}{af}{g}{b o}{cs vs}{et}{n}
  (hsz:(sizeOf ty).run P w=.ok n w) (hx:a.eval x=.pointer (some ⟨b,o,none⟩)) (hv:(a.eval y).cells=vs.toArray) (hn:vs.length=n)
  (h1:∀v∈vs,v.oneCell'=true) (hb:Blk w b et cs) (Kc:o+vs.length<=cs.length):
  (execOp a.eval ⟨dst,.store ty x y,t',p,af,g⟩).run P w=.ok .skip (w.setRow b (cj cs o vs).toArray):=by
 simp[execOp,hx,Instr.storeAt,Instr.sureAddr,Sem.run_bind,Sem.run_pure,Result.andThen_ok,storeVar,hsz,hv,pR,hn,ne_eq,not_true_eq_false,jf,run_storeCells_at P b o et vs 0 cs.toArray w hb aE h1,cj]
theorem UK{dst}{ty}{t'}{p}{af}{g}{z}{zs:List aw}
  (hz:(zeroValue ty).run P w=.ok z w) (hc:z.cells=zs.toArray):
  (execOp a.eval ⟨dst,.alloc ty,t',p,af,g⟩).run P w=.ok (.value (.pointer (some ⟨w.heap.size,0,none⟩))) (w.alloc (.cells zs.toArray ty)):=by
 simp only[execOp,Instr.alloc,Sem.run_bind,hz,Result.andThen_ok,newVar,hc];rfl
theorem adV{dst}{ty}{x}{t'}{p}{af}{g}{zs:List aw}
  (hc:(a.eval x).cells=zs.toArray):
  (execOp a.eval ⟨dst,.box ty x,t',p,af,g⟩).run P w=.ok (.value (.pointer (some ⟨w.heap.size,0,none⟩))) (w.alloc (.cells zs.toArray ty)):=by
 simp only[execOp,Instr.box,newVar,hc];rfl
theorem PH{dst}{x}{t'}{p}{af}{g}{ad}(hx:a.eval x=.pointer (some ad)):
  (execOp a.eval ⟨dst,.nilCheck x,t',p,af,g⟩).run P w=.ok (.value (.pointer (some ad))) w:=by
 simp[execOp,hx]
theorem KO{dst}{s}{x}{k}{t'}{p}{af}{g}{ad Ke}{fs}{f}{n}
  (hu:(underlying s).run P w=.ok (.struct fs) w) (hf:fs[k]? =some f) (hsz:(sizeOf f.type).run P w=.ok (n+1) w) (hx:a.eval x=.pointer (some ad)) (he:ad.add f.offset=Ke):
  (execOp a.eval ⟨dst,.fieldAddr s x k,t',p,af,g⟩).run P w=.ok (.value (.pointer (some Ke))) w:=by
 subst he;simp[execOp,hx,Instr.fieldAt,Instr.sureAddr,hu,hf,fieldPlace,hsz]
theorem UL{dst}{c x y}{t'}{p}{af}{g}{v}(hc:a.eval c=.bool true)(hv:a.eval x=v):
  (execOp a.eval ⟨dst,.pick c x y,t',p,af,g⟩).run P w=.ok (.value v) w:=by
 subst hv;simp[execOp,hc,asBool]
theorem UM{dst}{c x y}{t'}{p}{af}{g}{v}(hc:a.eval c=.bool false)(hv:a.eval y=v):
  (execOp a.eval ⟨dst,.pick c x y,t',p,af,g⟩).run P w=.ok (.value v) w:=by
 subst hv;simp[execOp,hc,asBool]
theorem UN{dst}{t}{ps:List _}{t'}{p}{af}{g}{ps'}{v}
  (hp:(ps.map λq=>(q.1,a.eval q.2))=ps') (hr:(Instr.build t ps'.toArray).run P w=.ok v w):
  (execOp a.eval ⟨dst,.build t ps.toArray,t',p,af,g⟩).run P w=.ok (.value v) w:=by
 subst hp;simp[execOp,hr]
theorem PI{dst}{t e}{x i}{t'}{p}{af}{g}{s}{k}{n}{ad}{sz}
  (hu:(underlying t).run P w=.ok (.slice e) w) (hsz:(sizeOf e).run P w=.ok sz w) (hx:a.eval x=s.v) (hi:a.eval i=.int k n) (cY:cR s n sz ad):
  (execOp a.eval ⟨dst,.indexAddr t x i,t',p,af,g⟩).run P w=.ok (.value (.pointer (some ad))) w:=by
 obtain⟨base,hb,h0,h1,rfl⟩:=cY;simp[execOp,hx,hi,Instr.indexAt,asIntOf,hu,hsz,hb,h0,h1]
theorem wM{dst:Option Tmp}{t e:TypeId}{x i:Operand}{t'}{p}{af}{g}{len}{k}{n}{ad Ke}{sz}
  (hu:(underlying t).run P w=.ok (.array len e) w) (hsz:(sizeOf e).run P w=.ok sz w) (hx:a.eval x=.pointer (some ad)) (hi:a.eval i=.int k n) (h0:0<=n) (h1:n<len) (he:ad.add (n.toNat*sz)=Ke):
  (execOp a.eval ⟨dst,.indexAddr t x i,t',p,af,g⟩).run P w=.ok (.value (.pointer (some Ke))) w:=by
 subst he;simp[execOp,hx,hi,Instr.indexAt,asIntOf,hu,hsz,h0,h1,Instr.sureAddr]
theorem mL{b}{s}{dst}{xs:List Operand}{ts}{t'}{p}{af}{g}{v}
  (hb:∀aaP,builtin b ts t' aaP (xs.map a.eval).toArray=(do pure (.value (<-s)))) (hr:s.run P w=.ok v w'):
  (execOp a.eval ⟨dst,.call ⟨.builtin b,xs.toArray,ts⟩,t',p,af,g⟩).run P w=.ok (.value v) w':=by
 simp[execOp,resolve,invoke,List.map_toArray];simp_all
theorem xW{dst}{xs:List Operand}{ts}{t'}{p}{af}{g}{v}{vs}(hx:xs.map a.eval=vs)
  (hr:(Builtin.append_ ts t' vs.toArray).run P w=.ok v w'):(execOp a.eval ⟨dst,.call ⟨.builtin .append,xs.toArray,ts⟩,t',p,af,g⟩).run P w=.ok (.value v) w':=by
 subst hx;exact mL (λ_=>rfl) hr
theorem AF{dst}{xs:List Operand}{ts}{t'}{p}{af}{g}{v}{vs}(hx:xs.map a.eval=vs)
  (hr:(Builtin.copy_ ts t' vs.toArray).run P w=.ok v w'):(execOp a.eval ⟨dst,.call ⟨.builtin .copy,xs.toArray,ts⟩,t',p,af,g⟩).run P w=.ok (.value v) w':=by
 subst hx;exact mL (λ_=>rfl) hr
theorem xX{dst}{xs:List Operand}{ts}{t'}{p}{af}{g}{v}{vs}(hx:xs.map a.eval=vs)
  (hr:(Builtin.delete_ ts t' vs.toArray).run P w=.ok v w'):(execOp a.eval ⟨dst,.call ⟨.builtin .delete,xs.toArray,ts⟩,t',p,af,g⟩).run P w=.ok (.value v) w':=by
 subst hx;exact mL (λ_=>rfl) hr
theorem zx{dst}{xs:List Operand}{ts}{t'}{p}{af}{g}{v}{vs}(hx:xs.map a.eval=vs)
  (hr:(Builtin.clear_ ts t' vs.toArray).run P w=.ok v w'):(execOp a.eval ⟨dst,.call ⟨.builtin .clear,xs.toArray,ts⟩,t',p,af,g⟩).run P w=.ok (.value v) w':=by
 subst hx;exact mL (λ_=>rfl) hr
theorem Cx{dst}{xs:List Operand}{ts}{t'}{p}{af}{g}{v}{vs}(hx:xs.map a.eval=vs)
  (hr:(Builtin.len_ ts t' vs.toArray).run P w=.ok v w'):(execOp a.eval ⟨dst,.call ⟨.builtin .len,xs.toArray,ts⟩,t',p,af,g⟩).run P w=.ok (.value v) w':=by
 subst hx;exact mL (λ_=>rfl) hr
section
variable {dst:Option Tmp} {x y z:Operand} {t t2:TypeId} {t':TypeId} {p:String} {af:Array Edge} {g:Option (Nat×Bool)} {u v vx vy vz:aw}
theorem DZ{n}{ps:List _}{ps'}(hp:(ps.map λq=>(q.1,a.eval q.2))=ps')(hr:(Instr.buildSlice t n ps'.toArray).run P w=.ok v w'):
  (execOp a.eval ⟨dst,.buildSlice t n ps.toArray,t',p,af,g⟩).run P w=.ok (.value v) w':=by
 subst hp;simp[execOp,hr]
theorem Ga(hx:a.eval x=vx)(hy:a.eval y=vy)(hr:(Instr.makeSlice t vx vy).run P w=.ok v w'):(execOp a.eval ⟨dst,.makeSlice t x y,t',p,af,g⟩).run P w=.ok (.value v) w':=by simp[execOp,hx,hy,hr]
theorem Nt(hr:(Instr.makeMap t none).run P w=.ok v w'):(execOp a.eval ⟨dst,.makeMap t none,t',p,af,g⟩).run P w=.ok (.value v) w':=by simp[execOp,hr]
theorem IK(hx:a.eval x=vx)(hr:(Instr.makeMap t (some vx)).run P w=.ok v w'):(execOp a.eval ⟨dst,.makeMap t (some x),t',p,af,g⟩).run P w=.ok (.value v) w':=by simp[execOp,hx,hr]
theorem PJ{b}(hx:a.eval x=vx)(hy:a.eval y=vy)(hr:(Instr.lookup t vx vy b).run P w=.ok v w'):(execOp a.eval ⟨dst,.lookup t x y b,t',p,af,g⟩).run P w=.ok (.value v) w':=by simp[execOp,hx,hy,hr]
theorem Gb(hx:a.eval x=vx)(hy:a.eval y=vy)(hz:a.eval z=vz)(hr:(Instr.mapUpdate t vx vy vz).run P w=.ok () w'):(execOp a.eval ⟨dst,.mapUpdate t x y z,t',p,af,g⟩).run P w=.ok .skip w':=by simp[execOp,hx,hy,hz,hr]
theorem PK(hx:a.eval x=vx)(hy:a.eval y=vy)(hz:a.eval z=vz)(hr:(Instr.mapUpdate t vx vy vz).run P w=.ok () w'):(execOp a.eval ⟨dst,.insert t x y z,t',p,af,g⟩).run P w=.ok .skip w':=by simp[execOp,hx,hy,hz,hr]
theorem Nu(hx:a.eval x=vx)(hr:(convert t t2 vx).run P w=.ok v w'):(execOp a.eval ⟨dst,.convert t t2 x,t',p,af,g⟩).run P w=.ok (.value v) w':=by simp[execOp,hx,hr]
end
theorem adW{dst:Option Tmp}{t:TypeId}{e:TypeId}{x:Operand}{t':TypeId}{p:String}{af:Array Edge}{g}{s:Sl}
  (hu:(underlying t).run P w=.ok (.slice e) w) (hx:a.eval x=s.v):
  (execOp a.eval ⟨dst,.call ⟨.builtin .len,#[x],#[t]⟩,t',p,af,g⟩).run P w=.ok (.value (.int .i64 s.n)) w:=by
 simp[execOp,resolve,invoke,builtin,Builtin.len_,hu,hx,goInt]
theorem Gc{dst}{x}{f}{first captured}{xs:List Operand}{ats}{t'}{p}{af}{g}{args}
  (hx:a.eval x=.func (.func f) first.toArray captured.toArray)
  (hc:∀args w,(callFunc f args).run P w=.ok (.enter f args) w) (ha:first++xs.map a.eval++captured=args):
  (execOp a.eval ⟨dst,.call ⟨.value x,xs.toArray,ats⟩,t',p,af,g⟩).run P w=.ok (.enter f args.toArray) w:=by
 subst ha;simp only[execOp,resolve,hx,Deferred.ofValue,Sem.run_bind,Sem.run_pure,Result.andThen_ok,invoke,hc];simp
theorem mM{x}{k}{i y}{code}(hx:x=.int k i)(h:i<=y):(Instr.sliceBound x y code).run P w=.ok i w:=by
 subst hx;have:=aE
 simp[Instr.sliceBound,asIntOf,this]
theorem AG{dst}{s d e}{x}{t'}{p}{af}{g}{sl}{l}
  (hs:P.underlying s=some (.slice e)) (he:P.underlying e=some (.int .u8)) (hd:P.underlying d=some .string) (hx:a.eval x=sl.v) (hb:sD w sl l):
  (execOp a.eval ⟨dst,.convert s d x,t',p,af,g⟩).run P w=.ok (.value (.string ⟨l.toArray⟩)) w:=by
 obtain⟨hn,hc⟩:=hb;obtain⟨sa,sn,sc⟩:=sl;subst hn;have key:(convert s d (.slice sa l.length sc)).run P w=.ok (.string ⟨l.toArray⟩) w:=by
  cases sa with
  | none=>
   have:l=[]:=Classical.byContradiction λh=>ac9
   subst this;exact run_convert_bytes_nil w s e hs he _ _ d hd
  | some ad=>
   refine run_convert_bytes_back w s d e ad sc l hs he hd λj hj=>?_;obtain⟨Ke,h1,h2⟩:=hc (λh=>by simp[h]at hj);injection h1 with h1;subst h1;exact h2 j _ (by simp[gC,bJ hj])
 simp[execOp,hx,key]
theorem IL{dst}{fn}{fs cs:List Operand}{t'}{p}{af}{g}{fv cv}(h1:fs.map a.eval=fv)(h2:cs.map a.eval=cv):
  (execOp a.eval ⟨dst,.makeFunc fn fs.toArray cs.toArray,t',p,af,g⟩).run P w=.ok (.value (.func fn fv.toArray cv.toArray)) w:=by
 subst h1;subst h2;simp[execOp,Instr.makeFunc]
theorem adX{dst}{t ty}{x y}{t'}{p}{af}{g}{k}{m n}(hx:a.eval x=.int k m)(hy:a.eval y=.int k n)(hn:n≠0):
  (execOp a.eval ⟨dst,.binOp .quo t x y ty,t',p,af,g⟩).run P w=.ok (.value (.int k (k.wrap (m.tdiv n)))) w:=by
 have e:binOp .quo t (.int k m) (.int k n)=Op.intDiv .quo k m n:=by simp[binOp]
 have hg:eqGuard .quo t x y (.int k m) (.int k n)=pure _:=rfl;simp[execOp,hx,hy,hg,e,Op.intDiv,hn,jf,Sem.run_bind,Sem.run_pure,Result.andThen_ok]
theorem adY{dst}{t ty}{x y}{t'}{p}{af}{g}{k}{m n}(hx:a.eval x=.int k m)(hy:a.eval y=.int k n)(hn:n≠0):
  (execOp a.eval ⟨dst,.binOp .rem t x y ty,t',p,af,g⟩).run P w=.ok (.value (.int k (m.tmod n))) w:=by
 have e:binOp .rem t (.int k m) (.int k n)=Op.intDiv .rem k m n:=by simp[binOp]
 have hg:eqGuard .rem t x y (.int k m) (.int k n)=pure _:=rfl;simp[execOp,hx,hy,hg,e,Op.intDiv,hn,jf,Sem.run_bind,Sem.run_pure,Result.andThen_ok]
theorem adZ{dst}{t ty}{x y}{t'}{p}{af}{g}{k k'}{m n}(hx:a.eval x=.int k m)(hy:a.eval y=.int k' n)(hn:0<=n):
  (execOp a.eval ⟨dst,.binOp .shl t x y ty,t',p,af,g⟩).run P w=.ok (.value (.int k (k.wrap (m*2 ^ (min n.toNat k.bits))))) w:=by
 have hg:eqGuard .shl t x y (.int k m) (.int k' n)=pure _:=rfl;have e:binOp .shl t (.int k m) (.int k' n)=Op.shift .shl k m k' n:=rfl;have hn':¬n<0:=aE
 simp[execOp,hx,hy,hg,e,Op.shift,hn',jf,Sem.run_bind,Sem.run_pure,Result.andThen_ok]
theorem ad0{dst}{t ty}{x y}{t'}{p}{af}{g}{k k'}{m n}(hx:a.eval x=.int k m)(hy:a.eval y=.int k' n)(hn:0<=n):
  (execOp a.eval ⟨dst,.binOp .shr t x y ty,t',p,af,g⟩).run P w=.ok (.value (.int k (m.fdiv (2 ^ (min n.toNat k.bits))))) w:=by
 have hg:eqGuard .shr t x y (.int k m) (.int k' n)=pure _:=rfl;have e:binOp .shr t (.int k m) (.int k' n)=Op.shift .shr k m k' n:=rfl;have hn':¬n<0:=aE
 simp[execOp,hx,hy,hg,e,Op.shift,hn',jf,Sem.run_bind,Sem.run_pure,Result.andThen_ok]
theorem IM{dst}{t}{x i}{t'}{p}{af}{g}{s}{k}{n}{c}
  (hu:(underlying t).run P w=.ok .string w) (hx:a.eval x=.string s) (hi:a.eval i=.int k n) (h0:0<=n) (h1:s[n.toNat]? =some c):
  (execOp a.eval ⟨dst,.index t x i,t',p,af,g⟩).run P w=.ok (.value (.int .u8 c.toNat)) w:=by
 simp[execOp,hx,hi,Instr.index,asIntOf,hu,Sem.run_bind,Sem.run_pure,Result.andThen_ok,h0,wH,h1]
theorem PL{dst}{t ty}{x y}{t'}{p}{af}{g}{s u}(hx:a.eval x=.string s)(hy:a.eval y=.string u)(hn:(s.size:Int)+u.size<=9223372036854775807):
  (execOp a.eval ⟨dst,.binOp .add t x y ty,t',p,af,g⟩).run P w=.ok (.value (.string (s++u))) w:=by
 have hg:eqGuard .add t x y (.string s) (.string u)=pure _:=rfl;have e:binOp .add t (.string s) (.string u)=Op.stringOp .add s u:=rfl;have hn':¬((s.size+u.size:Nat))>IntKind.i64.max:=by simp_all
 simp only[execOp,hx,hy,hg,e,Op.stringOp,hn',jf,Sem.run_bind,Sem.run_pure,Result.andThen_ok]
theorem ad5{dst}{t}{e}{x}{t'}{p}{af}{g}{s:Sl}
  (hu:(underlying t).run P w=.ok (.slice e) w) (hx:a.eval x=s.v):
  (execOp a.eval ⟨dst,.call ⟨.builtin .cap,#[x],#[t]⟩,t',p,af,g⟩).run P w=.ok (.value (.int .i64 s.c)) w:=by
 simp[execOp,resolve,invoke,builtin,Builtin.cap_,hu,hx,goInt]
theorem D0{dst:Option Tmp}{t:TypeId}{x lo:Operand}{t':TypeId}{p:String}{af:Array Edge}{g:Option (Nat×Bool)}{s:ByteArray}{k:IntKind}{l:Nat}
  (hu:(underlying t).run P w=.ok .string w) (hx:a.eval x=.string s) (hl:a.eval lo=.int k (l:Int)) (h1:l<=s.size) (_h2:s.size<=s.size):
  (execOp a.eval ⟨dst,.slice t x (some lo) none none,t',p,af,g⟩).run P w=.ok (.value (.string (s.extract l s.size))) w:=by
 simp[execOp,hx,Instr.sliceAt,hu,Instr.slice,Instr.sliceBounds,mM hl h1]
theorem D1{dst}{t}{x hi}{t'}{p}{af}{g}{s}{k}{h:Nat}
  (hu:(underlying t).run P w=.ok .string w) (hx:a.eval x=.string s) (hh:a.eval hi=.int k h) (_h1:0<=h) (h2:h<=s.size):
  (execOp a.eval ⟨dst,.slice t x none (some hi) none,t',p,af,g⟩).run P w=.ok (.value (.string (s.extract 0 h))) w:=by
 simp[execOp,hx,Instr.sliceAt,hu,Instr.slice,Instr.sliceBounds,mM hh h2]
theorem D2{dst}{t}{x lo hi}{t'}{p}{af}{g}{s}{k k'}{l h:Nat}
  (hu:(underlying t).run P w=.ok .string w) (hx:a.eval x=.string s) (hl:a.eval lo=.int k l) (hh:a.eval hi=.int k' h) (h1:l<=h) (h2:h<=s.size):
  (execOp a.eval ⟨dst,.slice t x (some lo) (some hi) none,t',p,af,g⟩).run P w=.ok (.value (.string (s.extract l h))) w:=by
 simp[execOp,hx,Instr.sliceAt,hu,Instr.slice,Instr.sliceBounds,mM hh h2,mM hl h1]
theorem CZ{dst}{s d}{x}{t'}{p}{af}{g}{ks kd k}{n}
  (hs:(underlying s).run P w=.ok (.int ks) w) (hd:(underlying d).run P w=.ok (.int kd) w) (hx:a.eval x=.int k n):
  (execOp a.eval ⟨dst,.convert s d x,t',p,af,g⟩).run P w=.ok (.value (.int kd (kd.wrap n))) w:=by
 simp[execOp,hx,convert,hs,hd,Conv.intToInt]
theorem C0{dst:Option Tmp}{s d:TypeId}{x:Operand}{t':TypeId}{p:String}{af:Array Edge}{g:Option (Nat×Bool)}{n:ByteArray}
  (hs:(underlying s).run P w=.ok .string w) (hd:(underlying d).run P w=.ok .string w) (hx:a.eval x=.string n):
  (execOp a.eval ⟨dst,.convert s d x,t',p,af,g⟩).run P w=.ok (.value (.string n)) w:=by
 simp[execOp,hx,convert,hs,hd]
theorem UO{dst}{t}{x}{t'}{p}{af}{g}{d}{v}
  (hu:(underlying t).run P w=.ok d w) (hd:(match d with | .interface _=>false | _=>true)=true) (hx:a.eval x=v):
  (execOp a.eval ⟨dst,.makeInterface t x,t',p,af,g⟩).run P w=.ok (.value (.iface t v)) w:=by
 subst hx;cases d<;>first | (simp at hd;done) | simp[execOp,Instr.makeInterface,hu]
theorem PM{dst:Option Tmp}{t:TypeId}{x:Operand}{t':TypeId}{p:String}{af:Array Edge}{g:Option (Nat×Bool)}{s:ByteArray}
  (hu:(underlying t).run P w=.ok .string w) (hx:a.eval x=.string s):
  (execOp a.eval ⟨dst,.call ⟨.builtin .len,#[x],#[t]⟩,t',p,af,g⟩).run P w=.ok (.value (.int .i64 s.size)) w:=by
 simp[execOp,resolve,invoke,builtin,Builtin.len_,hu,hx,goInt]
theorem ad6{dst}{ts}{x y}{t'}{p}{af}{g}{k k'}{m n}(hx:a.eval x=.int k m)(hy:a.eval y=.int k' n):
  (execOp a.eval ⟨dst,.call ⟨.builtin .min,#[x,y],ts⟩,t',p,af,g⟩).run P w=.ok (.value (.int k (if n<m then n else m))) w:=by
 simp[execOp,resolve,invoke,builtin,hx,hy,run_min_int2]
theorem ad7{dst:Option Tmp}{ts}{x y}{t'}{p}{af}{g}{k k'}{m n}(hx:a.eval x=.int k m)(hy:a.eval y=.int k' n):
  (execOp a.eval ⟨dst,.call ⟨.builtin .max,#[x,y],ts⟩,t',p,af,g⟩).run P w=.ok (.value (.int k (if n>m then n else m))) w:=by
 simp[execOp,resolve,invoke,builtin,hx,hy,run_max_int2]
theorem D3{dst:Option Tmp}{t ty:TypeId}{x y:Operand}{t':TypeId}{p:String}{af:Array Edge}{g:Option (Nat×Bool)}{e:TypeId}{q:Option Addr}{b:Bool}(hu:(underlying t).run P w=.ok (.pointer e) w)(hx:a.eval x=.pointer q)(hy:a.eval y=.pointer none)(hb:(q.isNone)=b):
  (execOp a.eval ⟨dst,.binOp .eql t x y ty,t',p,af,g⟩).run P w=.ok (.value (.bool b)) w:=by
 subst hb;have hE:∀d,(Op.equalIn (d+1) t (.pointer q) (.pointer none)).run P w=.ok q.isNone w:=λd=>by
  unfold Op.equalIn;cases q<;>simp only[Sem.run_bind,hu,Result.andThen_ok]<;>rfl
 have hB:binOp .eql t (.pointer q) (.pointer none)=(do pure (.bool ((<-Op.equal t (.pointer q) (.pointer none))))):=by cases q<;>rfl
 have hG:eqGuard .eql t x y (.pointer q) (.pointer none)=pure ():=rfl;simp only[execOp,hx,hy,hG,hB,Op.equal,Op.maxDepth,Sem.run_bind,Sem.run_pure,Result.andThen_ok,hE 9999]
theorem D4{dst}{t ty}{x y}{t'}{p}{af}{g}{e}{q}{b}(hu:(underlying t).run P w=.ok (.pointer e) w)(hx:a.eval x=.pointer none)(hy:a.eval y=.pointer q)(hb:(q.isNone)=b):
  (execOp a.eval ⟨dst,.binOp .eql t x y ty,t',p,af,g⟩).run P w=.ok (.value (.bool b)) w:=by
 subst hb;have hE:∀d,(Op.equalIn (d+1) t (.pointer none) (.pointer q)).run P w=.ok q.isNone w:=λd=>adh
 have hB:binOp .eql t (.pointer none) (.pointer q)=(do pure (.bool ((<-Op.equal t (.pointer none) (.pointer q))))):=rfl;have hG:eqGuard .eql t x y (.pointer none) (.pointer q)=pure _:=rfl;simp[execOp,hx,hy,hG,hB,Op.equal,Op.maxDepth,Sem.run_bind,Sem.run_pure,Result.andThen_ok,hE 9999]
theorem D5{dst}{t ty}{x y}{t'}{p}{af}{g}{e}{q}{b}(hu:(underlying t).run P w=.ok (.pointer e) w)(hx:a.eval x=.pointer q)(hy:a.eval y=.pointer none)(hb:(!q.isNone)=b):
  (execOp a.eval ⟨dst,.binOp .neq t x y ty,t',p,af,g⟩).run P w=.ok (.value (.bool b)) w:=by
 subst hb;have hE:∀d,(Op.equalIn (d+1) t (.pointer q) (.pointer none)).run P w=.ok q.isNone w:=λd=>by
  unfold Op.equalIn;cases q<;>simp only[Sem.run_bind,hu]<;>rfl
 have hB:binOp .neq t (.pointer q) (.pointer none)=(do pure (.bool (!(<-Op.equal t (.pointer q) (.pointer none))))):=rfl;have hG:eqGuard .neq t x y (.pointer q) (.pointer none)=pure _:=rfl;simp[execOp,hx,hy,hG,hB,Op.equal,Op.maxDepth,Sem.run_bind,Sem.run_pure,Result.andThen_ok,hE 9999]
theorem D6{dst:Option Tmp}{t ty}{x y}{t'}{p}{af}{g}{e}{q}{b}(hu:(underlying t).run P w=.ok (.pointer e) w)(hx:a.eval x=.pointer none)(hy:a.eval y=.pointer q)(hb:(!q.isNone)=b):
  (execOp a.eval ⟨dst,.binOp .neq t x y ty,t',p,af,g⟩).run P w=.ok (.value (.bool b)) w:=by
 subst hb;have hE:∀d,(Op.equalIn (d+1) t (.pointer none) (.pointer q)).run P w=.ok q.isNone w:=λd=>adh
 have hB:binOp .neq t (.pointer none) (.pointer q)=(do pure (.bool (!(<-Op.equal t (.pointer none) (.pointer q))))):=by cases q<;>rfl
 have hG:eqGuard .neq t x y (.pointer none) (.pointer q)=pure _:=rfl;simp[execOp,hx,hy,hG,hB,Op.equal,Op.maxDepth,Sem.run_bind,Sem.run_pure,Result.andThen_ok,hE 9999]
theorem Nv{dst}{t ty}{x y}{t'}{p}{af}{g}{m n}(hu:P.underlying t=some .bool)(hx:a.eval x=.bool m)(hy:a.eval y=.bool n):
  (execOp a.eval ⟨dst,.binOp .eql t x y ty,t',p,af,g⟩).run P w=.ok (.value (.bool (m==n))) w:=by
 have hG:eqGuard .eql t x y (.bool m) (.bool n)=pure _:=rfl;simp[execOp,hx,hy,hG,run_eql_bool w t m n hu]
theorem Nw{dst}{t ty}{x y}{t'}{p}{af}{g}{m n}(hu:P.underlying t=some .bool)(hx:a.eval x=.bool m)(hy:a.eval y=.bool n):
  (execOp a.eval ⟨dst,.binOp .neq t x y ty,t',p,af,g⟩).run P w=.ok (.value (.bool (!(m==n)))) w:=by
 have hG:eqGuard .neq t x y (.bool m) (.bool n)=pure _:=rfl;simp[execOp,hx,hy,hG,run_neq_bool w t m n hu]
theorem Gd{dst:Option Tmp}{t ty:TypeId}{x y:Operand}{t'}{p}{af}{g}{e}{s:Sl}(hu:(underlying t).run P w=.ok (.slice e) w)(hx:a.eval x=s.v)(hy:a.eval y=.slice none 0 0):
  (execOp a.eval ⟨dst,.binOp .eql t x y ty,t',p,af,g⟩).run P w=.ok (.value (.bool (s.a.isNone))) w:=by
 obtain⟨sa,sn,sc⟩:=s;have hE:∀d,(Op.equalIn (d+1) t (.slice sa sn sc) (.slice none 0 0)).run P w=.ok sa.isNone w:=λd=>by
  unfold Op.equalIn;cases sa<;>simp only[Sem.run_bind,hu]<;>rfl
 have hB:binOp .eql t (.slice sa sn sc) (.slice none 0 0)=(do pure (.bool ((<-Op.equal t (.slice sa sn sc) (.slice none 0 0))))):=by cases sa<;>rfl
 have hG:eqGuard .eql t x y (.slice sa sn sc) (.slice none 0 0)=pure _:=rfl;simp[execOp,hx,hy,hG,hB,Op.equal,Op.maxDepth,Sem.run_bind,Sem.run_pure,Result.andThen_ok,hE 9999]
theorem Gf{dst}{t ty}{x y}{t'}{p}{af}{g}{e}{s:Sl}(hu:(underlying t).run P w=.ok (.slice e) w)(hx:a.eval x=.slice none 0 0)(hy:a.eval y=s.v):
  (execOp a.eval ⟨dst,.binOp .eql t x y ty,t',p,af,g⟩).run P w=.ok (.value (.bool (s.a.isNone))) w:=by
 obtain⟨sa,sn,sc⟩:=s;have hE:∀d,(Op.equalIn (d+1) t (.slice none 0 0) (.slice sa sn sc)).run P w=.ok sa.isNone w:=λd=>adh
 have hB:binOp .eql t (.slice none 0 0) (.slice sa sn sc)=(do pure (.bool ((<-Op.equal t (.slice none 0 0) (.slice sa sn sc))))):=rfl;have hG:eqGuard .eql t x y (.slice none 0 0) (.slice sa sn sc)=pure _:=rfl;simp[execOp,hx,hy,hG,hB,Op.equal,Op.maxDepth,Sem.run_bind,Sem.run_pure,Result.andThen_ok,hE 9999]
theorem Gh{dst}{t ty}{x y}{t'}{p}{af}{g}{e}{s:Sl}(hu:(underlying t).run P w=.ok (.slice e) w)(hx:a.eval x=s.v)(hy:a.eval y=.slice none 0 0):
  (execOp a.eval ⟨dst,.binOp .neq t x y ty,t',p,af,g⟩).run P w=.ok (.value (.bool (!s.a.isNone))) w:=by
 obtain⟨sa,sn,sc⟩:=s;have hE:∀d,(Op.equalIn (d+1) t (.slice sa sn sc) (.slice none 0 0)).run P w=.ok sa.isNone w:=λd=>by
  unfold Op.equalIn;cases sa<;>simp only[Sem.run_bind,hu]<;>rfl
 have hB:binOp .neq t (.slice sa sn sc) (.slice none 0 0)=(do pure (.bool (!(<-Op.equal t (.slice sa sn sc) (.slice none 0 0))))):=by cases sa<;>rfl
 have hG:eqGuard .neq t x y (.slice sa sn sc) (.slice none 0 0)=pure _:=rfl;simp[execOp,hx,hy,hG,hB,Op.equal,Op.maxDepth,Sem.run_bind,Sem.run_pure,Result.andThen_ok,hE 9999]
theorem Gi{dst:Option Tmp}{t ty:TypeId}{x y:Operand}{t':TypeId}{p:String}{af}{g}{e}{s:Sl}(hu:(underlying t).run P w=.ok (.slice e) w)(hx:a.eval x=.slice none 0 0)(hy:a.eval y=s.v):
  (execOp a.eval ⟨dst,.binOp .neq t x y ty,t',p,af,g⟩).run P w=.ok (.value (.bool (!s.a.isNone))) w:=by
 obtain⟨sa,sn,sc⟩:=s;have hE:∀d,(Op.equalIn (d+1) t (.slice none 0 0) (.slice sa sn sc)).run P w=.ok sa.isNone w:=λd=>adh
 have hB:binOp .neq t (.slice none 0 0) (.slice sa sn sc)=(do pure (.bool (!(<-Op.equal t (.slice none 0 0) (.slice sa sn sc))))):=by cases sa<;>rfl
 have hG:eqGuard .neq t x y (.slice none 0 0) (.slice sa sn sc)=pure _:=rfl;simp[execOp,hx,hy,hG,hB,Op.equal,Op.maxDepth,Sem.run_bind,Sem.run_pure,Result.andThen_ok,hE 9999]
theorem IP{dst}{t e}{x lo}{t'}{p}{af}{g}{s:Sl}{k}{l sz:Nat}
  (hu:(underlying t).run P w=.ok (.slice e) w) (hsz:(sizeOf e).run P w=.ok sz w) (hx:a.eval x=s.v) (hl:a.eval lo=.int k l) (h1:l<=s.n) (_h2:s.n<=s.c) (_h3:s.c<=s.c):
  (execOp a.eval ⟨dst,.slice t x (some lo) none none,t',p,af,g⟩).run P w=.ok (.value (s.cut l s.n s.c sz).v) w:=by
 simp[execOp,hx,Instr.sliceAt,hu,Sem.run_bind,Result.andThen_ok,Instr.slice,Instr.sliceBounds,gp,Az,Sem.run_pure,mM hl h1,hsz,Sl.cut]
theorem IQ{dst}{t e}{x hi}{t'}{p}{af}{g}{s:Sl}{k}{h sz:Nat}
  (hu:(underlying t).run P w=.ok (.slice e) w) (hsz:(sizeOf e).run P w=.ok sz w) (hx:a.eval x=s.v) (hh:a.eval hi=.int k h) (_h1:0<=h) (h2:h<=s.c) (_h3:s.c<=s.c):
  (execOp a.eval ⟨dst,.slice t x none (some hi) none,t',p,af,g⟩).run P w=.ok (.value (s.cut 0 h s.c sz).v) w:=by
 simp[execOp,hx,Instr.sliceAt,hu,Sem.run_bind,Result.andThen_ok,Instr.slice,Instr.sliceBounds,gp,Az,Sem.run_pure,mM hh h2,hsz,Sl.cut]
theorem IR{dst}{t e}{x lo hi}{t'}{p}{af}{g}{s:Sl}{k k'}{l h sz:Nat}
  (hu:(underlying t).run P w=.ok (.slice e) w) (hsz:(sizeOf e).run P w=.ok sz w) (hx:a.eval x=s.v) (hl:a.eval lo=.int k l) (hh:a.eval hi=.int k' h) (h1:l<=h) (h2:h<=s.c) (_h3:s.c<=s.c):
  (execOp a.eval ⟨dst,.slice t x (some lo) (some hi) none,t',p,af,g⟩).run P w=.ok (.value (s.cut l h s.c sz).v) w:=by
 simp[execOp,hx,Instr.sliceAt,hu,Sem.run_bind,Result.andThen_ok,Instr.slice,Instr.sliceBounds,gp,Az,Sem.run_pure,mM hh h2,mM hl h1,hsz,Sl.cut]
theorem IT{dst}{t e}{x hi mx}{t'}{p}{af}{g}{s:Sl}{k' k2}{h m sz:Nat}
  (hu:(underlying t).run P w=.ok (.slice e) w) (hsz:(sizeOf e).run P w=.ok sz w) (hx:a.eval x=s.v) (hh:a.eval hi=.int k' h) (hm:a.eval mx=.int k2 m) (_h1:0<=h) (h2:h<=m) (h3:m<=s.c):
  (execOp a.eval ⟨dst,.slice t x none (some hi) (some mx),t',p,af,g⟩).run P w=.ok (.value (s.cut 0 h m sz).v) w:=by
 simp[execOp,hx,Instr.sliceAt,hu,Sem.run_bind,Result.andThen_ok,Instr.slice,Instr.sliceBounds,gp,Az,Sem.run_pure,mM hm h3,mM hh h2,hsz,Sl.cut]
theorem IU{dst}{t e}{x lo hi mx}{t'}{p}{af}{g}{s:Sl}{k k' k2}{l h m sz:Nat}
  (hu:(underlying t).run P w=.ok (.slice e) w) (hsz:(sizeOf e).run P w=.ok sz w) (hx:a.eval x=s.v) (hl:a.eval lo=.int k l) (hh:a.eval hi=.int k' h) (hm:a.eval mx=.int k2 m) (h1:l<=h) (h2:h<=m) (h3:m<=s.c):
  (execOp a.eval ⟨dst,.slice t x (some lo) (some hi) (some mx),t',p,af,g⟩).run P w=.ok (.value (s.cut l h m sz).v) w:=by
 simp only[execOp,hx,Instr.sliceAt,hu,Sem.run_bind,Result.andThen_ok,Instr.slice,Instr.sliceBounds,gp,Sem.run_pure,mM hm h3,mM hh h2,mM hl h1,hsz,Sl.cut]
section
variable {K:Act->av->Prop} {o:Oper}
theorem Zb(hg:Region.wanted o (yielded ops a.tmps)=true)(h:o.wp P a w (wpList P ops Q rest) Q):wpList P ops Q (o::rest) a w:=by
 unfold wpList;simp_all
theorem yW v (hr:(execOp a.eval o).run P w=.ok (.value v) w') (ha:a.put o.dst v=a') (h:K a' w'):o.wp P a w K Q:=by
 subst ha;unfold Oper.wp;rw[hr];exact h
theorem PN(hr:(execOp a.eval o).run P w=.ok .skip w')(ha:a.put o.dst undef=a')(h:K a' w'):o.wp P a w K Q:=by
 subst ha;unfold Oper.wp;rw[hr];exact h
theorem KP{f}{args}(hr:(execOp a.eval o).run P w=.ok (.enter f args) w)
  (h:Calls P f args w λe w'=>∃v a',e=.returned v/\a.put o.dst v=a'/\K a' w'):o.wp P a w K Q:=by
 unfold Oper.wp;rw[hr];refine h.mono ?_;simp_all
theorem Gj{dst}{ty}{x y}{t'}{p}{af}{g}{b o}{cs vs yN}{et}{n}
  (hsz:(sizeOf ty).run P w=.ok n w) (hx:a.eval x=.pointer (some ⟨b,o,none⟩)) (hv:(a.eval y).cells=vs.toArray) (hn:vs.length=n)
  (h1:vs.all Value.oneCell'=true) (hb:Blk w b et cs) (Kc:o+vs.length<=cs.length) (iC:cj cs o vs=yN) (ha:a.put dst undef=a')
  (h:∀w1,Only [b] w w1->Blk w1 b et yN->K a' w1):Oper.wp P ⟨dst,.store ty x y,t',p,af,g⟩ a w K Q:=
 PN (UJ hsz hx hv hn (ey.1 h1) hb Kc) ha (h _ (Only.setRow _ _ _) (by rw[<-iC];exact hb.setRow _))
theorem Gk{dst}{ty}{t'}{p}{af}{g}{z}{zs}{a':Nat->Act}
  (hz:(zeroValue ty).run P w=.ok z w) (hc:z.cells=zs.toArray) (ha:∀b,a.put dst (.pointer (some ⟨b,0,none⟩))=a' b)
  (h:∀b w1,w.heap.size<=b->Only [] w w1->Blk w1 b ty zs->K (a' b) w1):Oper.wp P ⟨dst,.alloc ty,t',p,af,g⟩ a w K Q:=
 yW _ (UK hz hc) (ha _) (h _ _ (aY _) (Only.alloc _ _) (Blk.alloc _ _ _))
theorem Zc{dst}{ty}{x}{t'}{p}{af}{g}{zs}{a':Nat->Act}
  (hc:(a.eval x).cells=zs.toArray) (ha:∀b,a.put dst (.pointer (some ⟨b,0,none⟩))=a' b)
  (h:∀b w1,w.heap.size<=b->Only [] w w1->Blk w1 b ty zs->K (a' b) w1):Oper.wp P ⟨dst,.box ty x,t',p,af,g⟩ a w K Q:=
 yW _ (adV hc) (ha _) (h _ _ (aY _) (Only.alloc _ _) (Blk.alloc _ _ _))
end
theorem Nx{id}(h:Q .normal a w):Exit.inBlock id Q (.exit id) a w:=by simpa[Exit.inBlock]using h
theorem IV{id Yr}(ii:(Yr==id)=false)(h:Q (.exit Yr) a w):Exit.inBlock id Q (.exit Yr) a w:=by simpa[Exit.inBlock,by simpa using ii]using h
def C1(P:Program)(a:Act)(w:av):List ResultVar->List aw->Prop
 | [],[]=>True
 | .tmp t::r,v::vs=>a.eval (.tmp t)=v/\C1 P a w r vs
 | .cell p t::r,v::vs=>(∃ad,a.eval (.tmp p)=.pointer (some ad)/\(loadVar t ad).run P w=.ok v w)/\C1 P a w r vs
 | _,_=>False
theorem oG(f:ResultVar->Sem aw)(hf1:∀t,f (.tmp t)=pure (a.tmps.getD t undef))(hf2:∀q t,f (.cell q t)=(do loadVar t (<-asAddr (a.tmps.getD q undef)))):
  ∀rs vs,C1 P a w rs vs->(rs.mapM f).run P w=.ok vs w
 | [],[],_=>rfl
 | [],_::_,h=>h.elim
 | .tmp t::r,[],h=>h.elim
 | .cell _ _::r,[],h=>h.elim
 | .tmp t::r,v::vs,h=>by
  have ih:=oG f hf1 hf2 r vs h.2;have h1:a.tmps.getD t undef=v:=h.1;simp_all
 | .cell q t::r,v::vs,h=>by
  have ih:=oG f hf1 hf2 r vs h.2;obtain⟨⟨ad,h1,h2⟩,_⟩:=h;have h1':a.tmps.getD q undef=.pointer _:=h1;rw[List.mapM_cons,hf2];simp[h1',asAddr,h2,ih]
theorem Zd{fn}{rs}{v}(h:fn.results=rs.toArray)(hr:C1 P a w rs [v]):(results fn a.tmps).run P w=.ok v w:=by
 unfold results;rw[h,List.mapM_toArray];simp only[Sem.run_bind,map_eq_pure_bind];rw[oG _ (λ_=>rfl) (λ_ _=>rfl) rs [v] hr];rfl
theorem IW{fn}{rs}{vs}(h:fn.results=rs.toArray)(hn:(vs.length==1)=false)(hr:C1 P a w rs vs):(results fn a.tmps).run P w=.ok (.tuple vs.toArray) w:=by
 unfold results;rw[h,List.mapM_toArray];simp only[Sem.run_bind,map_eq_pure_bind,Sem.run_pure];rw[oG _ (λ_=>rfl) (λ_ _=>rfl) rs vs hr];simp_all
theorem UQ{fn}{R:aw->av->Prop}{v}(hr:(results fn a.tmps).run P w=.ok v w)(hd:a.defers=[])(h:R v w):
 bodyPost P fn (λe w'=>∃v,e=.returned v/\R v w') .ret a w:=bodyPost_ret hr hd ⟨v,rfl,h⟩
theorem IX{fn}{R:aw->av->Prop}{v}(hr:(results fn a.tmps).run P w=.ok v w)(hd:a.defers=[])(h:R v w):
 bodyPost P fn (λe w'=>∃v,e=.returned v/\R v w') .normal a w:=bodyPost_end hr hd ⟨v,rfl,h⟩
theorem D7{ty}{ad}{cs}{n}(Kb:(isAgg ty).run P w=.ok true w)(hsz:(sizeOf ty).run P w=.ok n w)(hn:cs.length=n)(hc:Cells w ad cs):
  (loadVar ty ad).run P w=.ok (.agg cs.toArray) w:=by
 have hl:=run_loadCells_list (P:=P) w ad cs hc;rw[hn]at hl;simp[loadVar,Kb,hsz,hl,Sem.run_pure]
theorem Cy{ty}{ad}{v}(Kb:(isAgg ty).run P w=.ok false w)(hc:w.cell? ad=some v):
  (loadVar ty ad).run P w=.ok v w:=by
 simp[loadVar,Kb,jf,run_load,hc]
end
section
variable {P:Program} {ops:Array Oper} {rest:List Oper} {a a':Act} {w:av} {Q:Act->Prop}
theorem ad9{o} v (hg:Region.wanted o (yielded ops a.tmps)=true)
  (hr:∀w',(∃n,w'=w.drewN n)->(execOp a.eval o).run P w'=.ok (.value v) w') (ha:a.put o.dst v=a')
  (h:wpQuiet P ops (λw'=>∃n,w'=w.drewN n) Q rest a'):wpQuiet P ops (λw'=>∃n,w'=w.drewN n) Q (o::rest) a:=by
 subst ha;unfold wpQuiet;rw[aV hg];refine⟨v,λw' hw'=>?_,h⟩;unfold Oper.quietAt;rw[hr w' hw'];exact⟨rfl,rfl⟩
theorem akf{o}(hg:Region.wanted o (yielded ops a.tmps)=false)(ha:a.put o.dst undef=a')
  (h:wpQuiet P ops (λw'=>∃n,w'=w.drewN n) Q rest a'):wpQuiet P ops (λw'=>∃n,w'=w.drewN n) Q (o::rest) a:=by
 subst ha;unfold wpQuiet;simp_all
end
theorem PO{w w'}:bS [] w w':=λ_ h=>aa6
theorem bS.refl bs w:bS bs w w:=λ_ _=>rfl
section
variable {P:Program} {ops:Array Oper} {Q:Exit->Act->av->Prop} {md:Region.Mode} {E:Nat->av->av->Prop} {F:av->Prop}
def fE(P:Program)(md:Region.Mode)(ops:Array Oper)(Q:Exit->Act->av->Prop)(E:Nat->av->av->Prop):Nat->Array Bool->Act->av->Prop
 | 0,bG,a,w=>Region.ready md ops bG=[]/\Q .normal a w
 | fh+1,bG,a,w=>
  (Region.ready md ops bG=[]->Q .normal a w)/\
  ∀i∈Region.ready md ops bG,wpOp P ops Q i (λa' w'=>E i w w'/\fE P md ops Q E fh (bG.setIfInBounds i true) a' w') a w
theorem AH:∀fh bG a w,fE P md ops Q E fh bG a w->wpAny P md ops Q fh bG a w
 | 0,_,_,_,h=>h
 | fh+1,_,_,_,h=>⟨h.1,λi hi=>wpOp_mono (λa' w' h'=>AH fh _ a' w' h'.2) (h.2 i hi)⟩
def rH(md:Region.Mode)(ops:Array Oper)(bG:Array Bool):Prop:=∀k o,ops[k]? =some o->bG.getD k false=true->∀e∈o.after,Region.binds md e=true->bG.getD e.on false=true
def uI(md:Region.Mode)(ops:Array Oper)(bG:Array Bool):Bool:=
 (List.range ops.size).all λk=>!bG.getD k false||((ops[k]?).map (·.after.all λe=>!Region.binds md e||bG.getD e.on false)).getD true
theorem C2{bG}(h:uI md ops bG=true):rH md ops bG:=by
 intro k o hk hl e he hb;have:=(ey.1 h) k (List.mem_range.2 (mz.1 hk).1);simp only[hl,rF,hk,gp,iw,Array.all_eq_true_iff_forall_mem,cx]at this
 grind
theorem rH.add{bG}{j}(h:rH md ops bG)(hj:j∈Region.ready md ops bG):rH md ops (bG.setIfInBounds j true):=by
 intro k o hk hl e he hb;obtain⟨_,oj,Ug,fX⟩:=mem_ready.1 hj;by_cases hkj:j=k
 ·subst hkj;rw[Ug]at hk;injection hk with hk;subst hk;exact getD_set_true (fX e he hb)
 rw[getD_set_ne false hkj]at hl;exact getD_set_true (h k o hk hl e he hb)
def rI(md:Region.Mode)(ops:Array Oper)(i:Nat):List Nat->List Nat->Bool
 | _,[]=>true
 | seen,j::r=>((ops[j]?).map λo=>o.after.any λe=>Region.binds md e&&(e.on==i||seen.contains e.on)).getD false&&rI md ops i (j::seen) r
theorem yX{i}{bG}(hc:rH md ops bG):∀D seen,rI md ops i seen D=true->(∀k∈seen,bG.getD k false=true->bG.getD i false=true)->∀j∈D,∀o,ops[j]? =some o->(∀e∈o.after,Region.binds md e=true->bG.getD e.on false=true)->bG.getD i false=true
 | [],_,_,_,j,hj,_,_,_=>by simp at hj
 | k::r,seen,h,hs,j,hj,o,ho,fX=>by
  simp[rI,aP]at h;have hk:∀o,ops[k]? =some o->(∀e∈o.after,Region.binds md e=true->bG.getD e.on false=true)->bG.getD i false=true:=ac9
  rcases ba.1 hj with rfl | hj
  ·exact hk o ho fX
  refine yX hc r _ h.2 ?_ j hj o ho fX;intro x hx hl;rcases ba.1 hx with rfl | hx
  ·have h1:=h.1;cases hx2:ops[x]? with
   | none=>rw[hx2]at h1;simp at h1
   | some ox=>exact hk ox hx2 (hc x ox hx2 hl)
  exact hs x hx hl
theorem rJ{i}{oi}{v}{D}(hi:ops[i]? =some oi)(ahd:∀(j:Nat) o cs b,ops[j]? =some o->o.op≠.select cs b)
  (hQ:∀c a w,Q (.panic c) (a.put oi.dst v) w->Q (.panic c) a w) (hD:rI md ops i [] D=true)
  (N:List Nat) (kR:∀j w w',j∉D->j∉N->F w->E j w w'->F w') (DP:∀w,F w->E i w w):
  ∀fh bG a w,rH md ops bG->(∀k∈N,bG.getD k true=true)->
   (∀j oj,ops[j]? =some oj->j≠i->bG.getD j true=false->(∀e∈oj.after,Region.binds md e=true->e.on≠i)->oi.apart ops oj=true)->
   i∈Region.ready md ops bG->YieldsIf P ops F oi v a->F w->
   fE P md ops Q E fh (bG.setIfInBounds i true) (a.put oi.dst v) w->fE P md ops Q E (fh+1) bG a w:=by
 intro fh
 induction fh with
 | zero=>
  intro bG a w _ _ _ hr hy hF H;refine⟨λh=>(by rw[h]at hr;cases hr),λj hj=>?_⟩;by_cases Ys:j=i
  ·subst Ys;exact hy.wpOp hi hF ⟨DP w hF,H⟩
  have:=ready_mono hj Ys;rw[H.1]at this;cases this
 | succ fh ih=>
  intro bG a w qv hN M4 hr hy hF H;refine⟨λh=>(by rw[h]at hr;cases hr),λj hj=>?_⟩;by_cases Ys:j=i
  ·subst Ys;exact hy.wpOp hi hF ⟨DP w hF,H⟩
  have h1:=H.2 j (ready_mono hj Ys);obtain⟨aaR,oj,Ug,fX⟩:=mem_ready.1 hj;have asn:=(mem_ready.1 hr).1;have hli:bG.getD i false=false:=ac9
  have amq:∀e∈oj.after,Region.binds md e=true->e.on≠i:=λe he hb heq=>ac9
  have hjD:j∉D:=λhm=>by
   have:=yX qv D [] hD aM j hm oj Ug fX;rw[hli]at this;cases this
  have hjN:j∉N:=λhm=>by
   have:=hN j hm;rw[aaR]at this;cases this
  have hN':∀k∈N,(bG.setIfInBounds j true).getD k true=true:=λk hk=>by
   by_cases hjk:j=k
   ·subst hjk;exact absurd hk hjN
   rw[getD_set_ne true hjk];exact hN k hk
  have h2:=wpOp_putIf Ug (M4 j oj Ug Ys aaR amq) (λcs b=>ahd i oi cs b hi) (λcs b=>ahd j oj cs b Ug) hQ hy h1;have FH:∀k ok,ops[k]? =some ok->k≠i->(bG.setIfInBounds j true).getD k true=false->
    _->oi.apart ops ok=true:=λk ok hk hki hun hno=>by
   refine M4 k ok hk hki ?_ hno;by_cases hjk:j=k
   ·subst hjk;exact aaR
   rw[getD_set_ne true hjk]at hun;exact hun
  refine wpOp_mono (λa' w' h3=>⟨h3.2.1,ih _ a' w' (qv.add hj) hN' FH (ready_mono hr (Ne.symm Ys)) h3.1 (kR j w w' hjD hjN hF h3.2.1) ?_⟩) h2;rw[Array.setIfInBounds_comm _ _ Ys];exact h3.2.2
theorem IY i {dS} {oi} {a a'} {w} {fh} {bG} (D N:List Nat) v F (hi:ia dS i=some oi)
  (hs:Region.noSelect dS.toArray=true) (hf:Region.free md dS.toArray bG i=true) (hr:(Region.ready md dS.toArray bG).contains i=true) (hc:uI md dS.toArray bG=true) (hD:rI md dS.toArray i [] D=true) (hN:(N.all λk=>bG.getD k true)=true)
  (hQ:∀c a w,Q (.panic c) (a.put oi.dst v) w->Q (.panic c) a w) (kR:∀j w w',j∉D->j∉N->F w->E j w w'->F w') (DP:∀w,F w->E i w w) (hF:F w)
  (hy:YieldsIf P dS.toArray F oi v a) (ha:a.put oi.dst v=a')
  (h:fE P md dS.toArray Q E fh (bG.setIfInBounds i true) a' w):fE P md dS.toArray Q E (fh+1) bG a w:=by
 subst ha;have Ce:dS.toArray[i]? =some oi:=acB
 exact rJ Ce (Region.noSelect_spec hs) hQ hD N kR DP fh bG a w (C2 hc) (λk hk=>ac9) (Region.free_spec Ce hf) adJ hy hF h
theorem aea i {dS} {oi} {a} {w} {fh} {bG} (hi:ia dS i=some oi) (hr:Region.ready md dS.toArray bG=[i])
  (hg:Region.wanted oi (yielded dS.toArray a.tmps)=true)
  (h:oi.wp P a w (λa' w'=>E i w w'/\fE P md dS.toArray Q E fh (bG.setIfInBounds i true) a' w') Q):fE P md dS.toArray Q E (fh+1) bG a w:=by
 have Ce:dS.toArray[i]? =some oi:=acB
 refine⟨λh0=>adB,λj hj=>?_⟩;rw[hr]at hj;obtain rfl:j=i:=by simpa using hj
 unfold wpOp;simp_all
theorem UR i {dS} {oi} {a a'} {w} {fh} {bG} (hi:ia dS i=some oi) (hr:Region.ready md dS.toArray bG=[i])
  (hg:Region.wanted oi (yielded dS.toArray a.tmps)=false) (hE:E i w w) (ha:a.put oi.dst undef=a')
  (h:fE P md dS.toArray Q E fh (bG.setIfInBounds i true) a' w):fE P md dS.toArray Q E (fh+1) bG a w:=by
 subst ha;have Ce:dS.toArray[i]? =some oi:=acB
 refine⟨λh0=>adB,λj hj=>?_⟩;rw[hr]at hj;obtain rfl:j=i:=by simpa using hj
 unfold wpOp;simp_all
theorem aeb i j {dS} {oi oj} {a} {w} {fh} {bG} (hi:ia dS i=some oi) (hj:ia dS j=some oj) (hr:Region.ready md dS.toArray bG=[i,j])
  (h1:if Region.wanted oi (yielded dS.toArray a.tmps)then oi.wp P a w (λa' w'=>E i w w'/\fE P md dS.toArray Q E fh (bG.setIfInBounds i true) a' w') Q∨(oi.asks P a w/\LetsOut Q)
   else(λa' w'=>E i w w'/\fE P md dS.toArray Q E fh (bG.setIfInBounds i true) a' w') (a.put oi.dst undef) w)
  (h2:if Region.wanted oj (yielded dS.toArray a.tmps)then oj.wp P a w (λa' w'=>E j w w'/\fE P md dS.toArray Q E fh (bG.setIfInBounds j true) a' w') Q∨(oj.asks P a w/\LetsOut Q)
   else(λa' w'=>E j w w'/\fE P md dS.toArray Q E fh (bG.setIfInBounds j true) a' w') (a.put oj.dst undef) w):fE P md dS.toArray Q E (fh+1) bG a w:=by
 have Ce:dS.toArray[i]? =some oi:=acB
 have Wq:dS.toArray[j]? =some oj:=by rw[kg]at hj;simpa using hj
 refine⟨λh0=>adB,λk hk=>?_⟩;rw[hr]at hk;unfold wpOp;rcases ba.1 hk with rfl | hk<;>simp_all
theorem Ze{bG}{a}{w}{fh}(hr:Region.ready md ops bG=[])(h:Q .normal a w):fE P md ops Q E fh bG a w:=by
 cases fh with
 | zero=>exact⟨hr,h⟩
 | succ n=>exact⟨λ_=>h,by rw[hr];simp⟩
theorem Gl{id}{dS:List Oper}{a}{w} E (hm:P.follows .mixedOrders=true)
  (h:fE P .any dS.toArray Q E dS.length (Array.replicate dS.length false) a w.drew):(Code.region id dS.toArray true).wp P Q a w:=by
 refine wp_region_any hm (AH (E:=E) _ _ _ _ ?_);simpa using h
def EL(ls:List (Nat×List Nat))(j:Nat)(w w':av):Prop:=match ls.lookup j with | some l=>bS l w w' | none=>w'.heap=w.heap
theorem PQ{ls}{i}(h:ls.lookup i=none) w:EL ls i w w:=by unfold EL;rw[h]
theorem US{ls}{D N:List Nat}:∀j w w',j∉D->j∉N->True->EL ls j w w'->True:=λ_ _ _ _ _ h _=>h
theorem IZ{s}{l} w w' (h:w'.heap[s.blk]? =w.heap[s.blk]?) (hc:sD w s l):sD w' s l:=
 ⟨hc.1,λhl=>by
  obtain⟨ad,h1,h2⟩:=hc.2 hl;refine⟨ad,h1,h2.keep ?_⟩;simpa[Sl.blk,h1]using h⟩
theorem Xg{dS:List Oper}{o}{v}{a}(hg:Region.wanted o (yielded dS.toArray a.tmps)=true)(h:∀w,F w->(execOp a.eval o).run P w=.ok (.value v) w):YieldsIf P dS.toArray F o v a:=.inl ⟨hg,h⟩
theorem Zf{dS:List Oper}{o}{a}(hg:Region.wanted o (yielded dS.toArray a.tmps)=false):YieldsIf P dS.toArray F o undef a:=.inr ⟨hg,rfl⟩
end
def wE(x:Int):Prop:= -9223372036854775808<=x/\x<=9223372036854775807
theorem wr{x}(h:wE x):IntKind.i64.wrap x=x:=IntWalk.i64_in _ ⟨h.1,h.2⟩
theorem eY{x}(h1: -9223372036854775808<=x)(h2:x<=9223372036854775807):IntKind.i64.wrap x=x:=IntWalk.i64_in _ ⟨h1,h2⟩
theorem PR x:wE (IntKind.i64.wrap x):=by
 rw[IntKind.wrap_i64];constructor<;>omega
abbrev Rp(α:Type):=av->(Nat->Prop)->α->List aw->Prop
structure Rp.Ok {α:Type} (r:Rp α):Prop where
 keep:∀{w w':av} {F:Nat->Prop} {x:α} {cs:List aw},r w F x cs->(∀k,F k->k<w.heap.size->w'.heap[k]? =w.heap[k]?)->r w' F x cs
 inHeap:∀{w:av} {F:Nat->Prop} {x:α} {cs:List aw},r w F x cs->r w (λk=>F k/\k<w.heap.size) x cs
 mono:∀{w:av} {F G:Nat->Prop} {x:α} {cs:List aw},r w F x cs->(∀k,F k->G k)->r w G x cs
 one:∀{w:av} {F:Nat->Prop} {x:α} {cs:List aw},r w F x cs->∀v,v∈cs->v.oneCell'=true
section
variable {α:Type} {r:Rp α} {size:Nat} {w w':av} {F G:Nat->Prop} {s:Sl} {xs:List α}
structure SliceF (r:Rp α) (size:Nat) (w:av) (F:Nat->Prop) (s:Sl) (xs:List α):Prop where
 len:s.n=xs.length
 cap:s.n<=s.c
 nil0:s.a=none->s.c=0
 big:s.c<=9223372036854775807
 at_:∀j x,xs[j]? =some x->∃base cs,s.a=some base/\F base.block/\cs.length=size/\Cells w (base.add (j*size)) cs/\r w F x cs
theorem mN(a:Addr) n:(a.add n).block=a.block:=by unfold Addr.add;split<;>rfl
theorem oZ(a:Addr) i j:(a.add i).add j=a.add (i+j):=by
 unfold Addr.add;by_cases hi:i=0<;>by_cases hj:j=0<;>simp[hi,hj,eo]
theorem C3(a:Addr):a.add 0=a:=rfl
theorem gH b o n:(⟨b,o,none⟩:Addr).add n=⟨b,o+n,none⟩:=by unfold Addr.add;split<;>simp_all
theorem Cells.sub{a}{cs vs}(h:Cells w a cs) k (hv:∀j v,vs[j]? =some v->cs[k+j]? =some v):Cells w (a.add k) vs:=λj v hj=>by
 rw[oZ];exact h _ v (hv j v hj)
theorem Cells.dN{a}{cs}(h:Cells w a cs) k v (hv:cs[k]? =some v):Cells w (a.add k) [v]:=h.sub k λj u hj=>by
 cases j with
 | zero=>simpa[hv]using hj
 | succ j=>simp at hj
theorem SliceF.nil(r:Rp α) size w F:SliceF r size w F Sl.nil []:=⟨rfl,aY _,λ_=>rfl,aL,λj x h=>aa6⟩
theorem SliceF.keep(hr:r.Ok)(h:SliceF r size w F s xs)(hs:0<size)(hk:∀k,F k->k<w.heap.size->w'.heap[k]? =w.heap[k]?):SliceF r size w' F s xs:=
 ⟨h.len,h.cap,h.nil0,h.big,λj x hx=>by
  obtain⟨base,cs,h1,h2,h3,h4,h5⟩:=h.at_ j x hx;refine⟨base,cs,h1,h2,h3,h4.keep ?_,hr.keep h5 hk⟩;have bT:(base.add (j*size)).block<w.heap.size:=by
   cases cs with
   | nil=>simp at h3;omega
   | cons c cs=>exact h4.lt
  rw[mN]at bT⊢;exact hk _ h2 bT⟩
theorem SliceF.mono(hr:r.Ok)(h:SliceF r size w F s xs)(hk:∀k,F k->G k):SliceF r size w G s xs:=
 ⟨h.len,h.cap,h.nil0,h.big,λj x hx=>by
  obtain⟨base,cs,h1,h2,h3,h4,h5⟩:=h.at_ j x hx;exact⟨base,cs,h1,hk _ h2,h3,h4,hr.mono h5 hk⟩⟩
theorem SliceF.inHeap(hr:r.Ok)(h:SliceF r size w F s xs)(hs:0<size):SliceF r size w (λk=>F k/\k<w.heap.size) s xs:=
 ⟨h.len,h.cap,h.nil0,h.big,λj x hx=>by
  obtain⟨base,cs,h1,h2,h3,h4,h5⟩:=h.at_ j x hx;refine⟨base,cs,h1,⟨h2,?_⟩,h3,h4,hr.inHeap h5⟩;have bT:(base.add (j*size)).block<w.heap.size:=by
   cases cs with
   | nil=>simp at h3;omega
   | cons c cs=>exact h4.lt
  rwa[mN]at bT⟩
theorem SliceF.get(h:SliceF r size w F s xs){i:Int}(h0:0<=i)(h1:i<s.n):
  ∃ad x cs,cR s i size ad/\xs[i.toNat]? =some x/\F ad.block/\cs.length=size/\Cells w ad cs/\r w F x cs:=by
 have hl:=h.len;have bT:i.toNat<xs.length:=aE
 obtain⟨base,cs,g1,g2,g3,g4,g5⟩:=h.at_ i.toNat _ (bJ bT);exact⟨_,_,cs,⟨base,g1,h0,h1,rfl⟩,bJ bT,by rw[mN];exact g2,g3,g4,g5⟩
theorem SliceF.mem(h:SliceF r size w F s xs){x}(hx:x∈xs):∃cs,r w F x cs:=by
 obtain⟨j,hj⟩:=gz hx;obtain⟨_,cs,_,_,_,_,h5⟩:=h.at_ j x hj;exact⟨cs,h5⟩
theorem cR.CJ{i}{a b}(h:cR s i size a)(k:cR s i size b):a=b:=by
 obtain⟨x,h1,_,_,h2⟩:=h;obtain⟨y,k1,_,_,k2⟩:=k;rw[h1]at k1;injection k1 with k1;rw[h2,k2,k1]
theorem SliceF.cut(h:SliceF r size w F s xs){lo hi m}(h1:lo<=hi)(h2:hi<=m)(h3:hi<=s.n)(h4:m<=s.c):SliceF r size w F (s.cut lo hi m size) ((xs.drop lo).take (hi-lo)):=by
 have hl:=h.len;refine⟨?_,?_,λha=>?_,by have:=h.big;simp[Sl.cut];omega,λj x hx=>?_⟩
 ·simp[Sl.cut,cF,cr];omega
 ·simp[Sl.cut];omega
 ·simp[Sl.cut]at ha⊢;split at ha
  ·omega
  have:=h.nil0 (by simpa using ha);omega
 rw[vL]at hx;split at hx
 ·rw[gw]at hx;obtain⟨base,cs,g1,g2,g3,g4,g5⟩:=h.at_ _ _ hx;refine⟨base.add (lo*size),cs,?_,by rw[mN];exact g2,g3,?_,g5⟩
  ·simp[Sl.cut];rw[aQ aE,g1];rfl
  rw[oZ,<-eJ];exact g4
 cases hx
end
structure BytesF (w:av) (F:Nat->Prop) (s:Sl) (l:List UInt8):Prop where
 rd:sD w s l
 cap:s.n<=s.c
 blk:∀ad,s.a=some ad->l≠[]->F ad.block
section
variable {w w':av} {F G:Nat->Prop} {s:Sl} {l:List UInt8}
theorem BytesF.nil w F:BytesF w F Sl.nil []:=⟨⟨rfl,λh=>absurd rfl h⟩,aY _,λ_ _ h=>absurd rfl h⟩
theorem BytesF.mono(h:BytesF w F s l)(hk:∀k,F k->G k):BytesF w G s l:=⟨h.rd,h.cap,λad ha hl=>hk _ (h.blk ad ha hl)⟩
end
def gI{α:Type}(P:α->List aw->Prop):List α->List (List aw)->Prop
 | [],[]=>True
 | x::xs,c::cs=>P x c/\gI P xs cs
 | _,_=>False
section
variable {α:Type} {P Q:α->List aw->Prop}
theorem gI.len:∀{xs:List α} {css:List _},gI P xs css->xs.length=css.length
 | [],[],_=>rfl
 | x::xs,c::cs,h=>by simp[gI.len (xs:=xs) (css:=cs) h.2]
 | [],_::_,h=>h.elim
 | _::_,[],h=>h.elim
theorem gI.imp(hi:∀x c,P x c->Q x c):∀{xs:List α} {css:List _},gI P xs css->gI Q xs css
 | [],[],_=>trivial
 | x::xs,c::cs,h=>⟨hi _ _ h.1,gI.imp hi (xs:=xs) (css:=cs) h.2⟩
 | [],_::_,h=>h.elim
 | _::_,[],h=>h.elim
theorem gI.Ct:∀{xs ys:List α} {css F0:List _},gI P xs css->gI P ys F0->gI P (xs++ys) (css++F0)
 | [],_,[],_,_,k=>k
 | x::xs,_,c::cs,_,h,k=>⟨h.1,gI.Ct (xs:=xs) (css:=cs) h.2 k⟩
 | [],_,_::_,_,h,_=>h.elim
 | _::_,_,[],_,h,_=>h.elim
theorem gI.get:∀{xs:List α} {css:List _},gI P xs css->∀{j:Nat} {x:α},xs[j]? =some x->∃cs,css[j]? =some cs/\P x cs
 | [],[],_,j,x,h=>aa6
 | y::xs,c::cs,k,0,x,h=>by
  simp at h;subst h;exact⟨c,rfl,k.1⟩
 | y::xs,c::cs,k,j+1,x,h=>by
  exact gI.get (xs:=xs) (css:=cs) k.2 h
 | [],_::_,h,_,_,_=>h.elim
 | _::_,[],h,_,_,_=>h.elim
theorem gI.mem:∀{xs:List α} {css:List _},gI P xs css->∀c,c∈css->∃x,P x c
 | [],[],_,c,h=>aa6
 | y::xs,d::cs,k,c,h=>by
  rcases ba.1 h with rfl | h
  ·exact⟨y,k.1⟩
  exact gI.mem (xs:=xs) (css:=cs) k.2 c h
 | [],_::_,h,_,_=>h.elim
 | _::_,[],h,_,_=>h.elim
theorem gI.take:∀n {xs:List α} {css:List _},gI P xs css->gI P (xs.take n) (css.take n)
 | 0,_,_,_=>by simp[gI]
 | _+1,[],[],_=>by simp[gI]
 | n+1,x::xs,c::cs,h=>by simp;exact⟨h.1,gI.take n (xs:=xs) (css:=cs) h.2⟩
 | _,[],_::_,h=>h.elim
 | _,_::_,[],h=>h.elim
theorem gI.set:∀{xs:List α} {css:List _} j {x:α} {c:List aw},gI P xs css->P x c->gI P (xs.set j x) (css.set j c)
 | [],[],_,_,_,_,_=>by simp[gI]
 | y::xs,d::cs,0,x,c,h,k=>⟨k,h.2⟩
 | y::xs,d::cs,j+1,x,c,h,k=>⟨h.1,gI.set (xs:=xs) (css:=cs) j h.2 k⟩
 | [],_::_,_,_,_,h,_=>h.elim
 | _::_,[],_,_,_,h,_=>h.elim
end
theorem AI{css:List (List aw)}{size}(h:∀c,c∈css->c.length=size):css.flatten.length=css.length*size:=by
 induction css with
 | nil=>simp
 | cons c cs ih=>
  rw[dC,aN,h c aM,ih (λd hd=>h d (by simp[hd])),aW,eJ];omega
theorem KQ{css:List _}{size}(h:∀c,c∈css->c.length=size):∀{j i:Nat} {cs:List aw} {v:aw},css[j]? =some cs->cs[i]? =some v->css.flatten[j*size+i]? =some v:=by
 induction css with
 | nil=>intro j i cs v hj;simp at hj
 | cons c cs ih=>
  intro j i ds v hj hi;have hc:=h c aM;cases j with
  | zero=>
   simp at hj;subst hj;simp;rw[bQ (bc.1 hi).1];exact hi
  | succ j=>
   have:=ih (λd hd=>h d (by simp[hd])) hj hi;rw[dC,cw (by rw[hc,eJ];omega),hc];rw[show _*size+i-size=j*size+i by rw[eJ];omega];exact this
theorem Ny{css:List (List aw)}{size}(h:∀c,c∈css->c.length=size):∀n,css.flatten.take (n*size)=(css.take n).flatten:=by
 induction css with
 | nil=>intro n;simp
 | cons c cs ih=>
  intro n;cases n with
  | zero=>simp
  | succ n=>
   have hc:=h c aM;rw[dC,fS,dC,List.take_append,<-ih (λd hd=>h d (by simp[hd])),hc,show _*size-size=n*size by rw[eJ];omega,bm (by rw[hc,eJ];omega)]
theorem I0{cs}{o}{v}(h:o<cs.length):cj cs o [v]=cs.set o v:=by
 rw[cj,List.set_eq_take_append_cons_drop,aV h];simp
theorem Gm{size}{tail}{i}{v}:∀{css:List _} {n:Nat} {cs:List aw},(∀c,c∈css->c.length=size)->css[n]? =some cs->i<size->
  (css.flatten++tail).set (n*size+i) v=(css.set n (cs.set i v)).flatten++tail
 | [],n,cs,_,hn,_=>by simp at hn
 | c::css,0,cs,h,hn,hi=>by
  simp at hn;subst hn;have hc:=h c aM;simp;rw[List.set_append_left _ _ aE]
 | c::css,n+1,cs,h,hn,hi=>by
  simp at hn;have hc:=h c aM;simp;rw[qG _ _ (by rw[hc,eJ];omega),hc,show(n+1)*size+i-size=n*size+i by rw[eJ];omega,Gm (tail:=tail) (v:=v) (λd hd=>h d (by simp[hd])) hn hi]
section
variable {w w':av} {a:Addr} {cs ds:List aw}
theorem Cells.Ct(h:Cells w a cs)(k:Cells w (a.add cs.length) ds):Cells w a (cs++ds):=λj v hj=>by
 by_cases bT:j<cs.length
 ·rw[bQ bT]at hj;exact h j v hj
 rw[cw aE]at hj;have:=k _ v hj;rw[oZ,show cs.length+_=j by omega]at this;exact this
theorem Cells.nil w a:Cells w a []:=λj v hj=>by simp at hj
end
section
variable {α:Type} {r:Rp α} {size:Nat} {w w':av} {F G:Nat->Prop} {s y:Sl} {xs ys:List α} {e:TypeId} {B:Nat}
abbrev pb(r:Rp α)(size:Nat)(w:av)(F:Nat->Prop):List α->List (List aw)->Prop:=gI λx cs=>cs.length=size/\r w F x cs
theorem pb.sz{css}(h:pb r size w F xs css):∀c,c∈css->c.length=size:=λc hc=>by
 obtain⟨_,h1,_⟩:=h.mem c hc;exact h1
theorem pb.keep(hr:r.Ok){css}(h:pb r size w F xs css)(hk:∀k,F k->k<w.heap.size->w'.heap[k]? =w.heap[k]?):pb r size w' F xs css:=
 h.imp λ_ _ h1=>⟨h1.1,hr.keep h1.2 hk⟩
theorem pb.mono(hr:r.Ok){css}(h:pb r size w F xs css)(hk:∀k,F k->G k):pb r size w G xs css:=
 h.imp λ_ _ h1=>⟨h1.1,hr.mono h1.2 hk⟩
theorem pb.inHeap(hr:r.Ok){css}(h:pb r size w F xs css):pb r size w (λk=>F k/\k<w.heap.size) xs css:=
 h.imp λ_ _ h1=>⟨h1.1,hr.inHeap h1.2⟩
theorem SliceF.SP{base:Addr}:∀xs k,(∀j x,xs[j]? =some x->∃cs,cs.length=size/\Cells w (base.add ((k+j)*size)) cs/\r w F x cs)->
  ∃css,pb r size w F xs css/\Cells w (base.add (k*size)) css.flatten
 | [],k,_=>⟨[],trivial,Cells.nil _ _⟩
 | x::xs,k,h=>by
  obtain⟨cs,h1,h2,h3⟩:=h 0 x rfl;obtain⟨css,k1,k2⟩:=SliceF.SP xs _ (λj y hj=>by
   obtain⟨ds,g1,g2,g3⟩:=h (j+1) y (by simpa using hj);exact⟨ds,g1,by rw[show k+1+j=k+(j+1) by omega];exact g2,g3⟩)
  refine⟨cs::css,⟨⟨h1,h3⟩,k1⟩,?_⟩;refine Cells.Ct ado ?_;rw[oZ,h1,show k*size+size=(k+1)*size by rw[eJ];omega];exact k2
theorem SliceF.flat(h:SliceF r size w F s xs)(hx:xs≠[]):∃base css,s.a=some base/\F base.block/\pb r size w F xs css/\Cells w base css.flatten:=by
 cases xs with
 | nil=>exact absurd rfl hx
 | cons x xs=>
  obtain⟨base,_,h1,h2,_⟩:=h.at_ 0 x rfl;obtain⟨css,k1,k2⟩:=SliceF.SP (r:=r) (size:=size) (w:=w) (F:=F) (base:=base) _ 0 (λj y hj=>by
   obtain⟨b',cs,g1,g2,g3,g4,g5⟩:=h.at_ j y hj;rw[h1]at g1;injection g1 with g1;subst g1;exact⟨cs,g3,by simpa using g4,g5⟩)
  exact⟨base,css,h1,h2,k1,by rw[pS,C3]at k2;exact k2⟩
theorem SliceF.of{base}{css}(he:pb r size w F xs css)(ha:s.a=some base)(hF:F base.block)(hc:Cells w base css.flatten)(hn:s.n=xs.length)(sS:s.n<=s.c)(h63:s.c<=9223372036854775807):SliceF r size w F s xs:=
 ⟨hn,sS,λh=>(by rw[ha]at h;cases h),h63,λj x hx=>by
  obtain⟨cs,h1,h2,h3⟩:=he.get hx;exact⟨base,cs,ha,hF,h2,λi v hi=>by rw[oZ];exact hc _ v (KQ he.sz h1 hi),h3⟩⟩
def Own(r:Rp α)(size:Nat)(e:TypeId)(B:Nat)(w:av)(F:Nat->Prop)(s:Sl)(xs:List α):Prop:=
 (s=Sl.nil/\xs=[])∨∃g css tail,s.a=some ⟨g,0,none⟩/\B<=g/\Blk w g e (css.flatten++tail)/\tail.length=(s.c-s.n)*size/\s.n=xs.length/\s.n<=s.c/\s.c<=9223372036854775807/\pb r size w (λk=>F k/\k≠g) xs css
theorem Own.len(h:Own r size e B w F s xs):s.n=xs.length:=by
 rcases h with⟨rfl,rfl⟩ | ⟨g,css,tail,_,_,_,_,h,_⟩
 ·rfl
 exact h
theorem Own.cap(h:Own r size e B w F s xs):s.n<=s.c:=by
 rcases h with⟨rfl,rfl⟩ | ⟨g,css,tail,_,_,_,_,_,h,_,_⟩
 ·exact aY _
 exact h
theorem Own.slice(hr:r.Ok)(h:Own r size e B w F s xs):SliceF r size w (λk=>F k∨(B<=k/\s.a=some ⟨k,0,none⟩)) s xs:=by
 rcases h with⟨rfl,rfl⟩ | ⟨g,css,tail,h1,h2,h4,h5,h6,h7,h9,h8⟩
 ·exact SliceF.nil _ _ _ _
 exact SliceF.of (h8.mono hr λk hk=>.inl hk.1) h1 (.inr ⟨h2,h1⟩) (h4.cells 0 _ λj v hj=>by
  rw[bM,bQ (bc.1 hj).1];exact hj) h6 h7 h9
theorem Own.keep(hr:r.Ok)(h:Own r size e B w F s xs)(hk:∀k,(F k∨(B<=k/\s.a=some ⟨k,0,none⟩))->k<w.heap.size->w'.heap[k]? =w.heap[k]?):Own r size e B w' F s xs:=by
 rcases h with⟨rfl,rfl⟩ | ⟨g,css,tail,h1,h2,h4,h5,h6,h7,h9,h8⟩
 ·exact .inl ⟨rfl,rfl⟩
 exact .inr ⟨g,css,tail,h1,h2,(hk g (.inr ⟨h2,h1⟩) h4.lt).trans h4,h5,h6,h7,h9,h8.keep hr λk hF=>hk k (.inl hF.1)⟩
theorem Own.mono(hr:r.Ok)(h:Own r size e B w F s xs)(hk:∀k,F k->G k):Own r size e B w G s xs:=by
 rcases h with⟨rfl,rfl⟩ | ⟨g,css,tail,h1,h2,h4,h5,h6,h7,h9,h8⟩
 ·exact .inl ⟨rfl,rfl⟩
 exact .inr ⟨g,css,tail,h1,h2,h4,h5,h6,h7,h9,h8.mono hr λk h=>⟨hk k h.1,h.2⟩⟩
theorem Own.low{B'}(h:Own r size e B w F s xs)(hB:B'<=B):Own r size e B' w F s xs:=by
 rcases h with⟨rfl,rfl⟩ | ⟨g,css,tail,h1,h2,h4⟩
 ·exact .inl ⟨rfl,rfl⟩
 exact .inr ⟨g,css,tail,h1,bB hB h2,h4⟩
theorem Own.nil(r:Rp α) size e B w F:Own r size e B w F Sl.nil []:=.inl ⟨rfl,rfl⟩
theorem Own.inHeap(hr:r.Ok)(h:Own r size e B w F s xs):Own r size e B w (λk=>F k/\k<w.heap.size) s xs:=by
 rcases h with⟨rfl,rfl⟩ | ⟨g,css,tail,h1,h2,h4,h5,h6,h7,h9,h8⟩
 ·exact .inl ⟨rfl,rfl⟩
 exact .inr ⟨g,css,tail,h1,h2,h4,h5,h6,h7,h9,(h8.inHeap hr).mono hr λk h=>⟨⟨h.1.1,h.2⟩,h.1.2⟩⟩
theorem Own.blk(h:Own r size e B w F s xs){ad}(ha:s.a=some ad):B<=ad.block/\ad.block<w.heap.size:=by
 rcases h with⟨rfl,rfl⟩ | ⟨g,css,tail,h1,h2,h4,_⟩
 ·cases ha
 rw[h1]at ha;injection ha with ha;subst ha;exact⟨h2,h4.lt⟩
theorem SliceF.ag3(h:SliceF r size w F s xs):∃css,pb r size w F xs css/\∀base,s.a=some base->Cells w base css.flatten:=by
 cases xs with
 | nil=>exact⟨[],trivial,λb _=>Cells.nil _ _⟩
 | cons x xs=>
  obtain⟨base,css,h1,h2,h3,h4⟩:=h.flat aM;exact⟨css,h3,λb hb=>by rw[h1]at hb;injection hb with hb;subst hb;exact h4⟩
theorem pb.J9{css}(h:pb r size w F xs css):css.flatten.length=xs.length*size:=by rw[AI h.sz,h.len]
theorem pb.one(hr:r.Ok){css}(h:pb r size w F xs css):∀v,v∈css.flatten->v.oneCell'=true:=λv hv=>by
 obtain⟨c,hc,hv⟩:=List.mem_flatten.1 hv;obtain⟨x,_,hx⟩:=h.mem c hc;exact hr.one hx v hv
theorem aec(l m:List aw) z:(l.toArray++m.toArray++z)=(l++m++z.toList).toArray:=by
 simp
section
variable {P:Program} {t ty:TypeId} {i:TypeInfo} {z:aw} {bytes:Nat}
theorem wN(w:av) k (FI:z.cells.size=size):(Builtin.zeroCells z.cells k).toList.length=k*size:=by
 rw[ta,size_zeroCells,FI]
theorem Nz(ht:P.underlying t=some (.slice e))(hi:P.info? e=some i)(hz:i.zero=some z)(og:i.size=size)(OI:i.bytes=bytes)(FI:z.cells.size=size)
  (hr:r.Ok) {css} (k1:pb r size w F xs css) (k2:∀base,s.a=some base->Cells w base css.flatten) (F1:s.a=none->s.c=0) (pH:s.n=xs.length) (hsc:s.n<=s.c)
  (hy:SliceF r size w F y ys) (rn:s.c<s.n+y.n) (hm:(xs.length+ys.length)*bytes<=140737488355328) (Aw:0<bytes):
  ∃s' w',(Builtin.append_ #[t,t] ty #[s.v,y.v]).run P w=.ok s'.v w'/\Own r size e w.heap.size w' F s' (xs++ys)/\Only [] w w'/\s'.a=some ⟨w.heap.size,0,none⟩:=by
 subst og;subst OI;have h63:=bB (by have:=Nat.mul_le_mul_left (xs.length+ys.length) Aw;omega) hm;have Uh:=hy.len;have Ws:y.n≠0:=aE
 have hyx:ys≠[]:=λh=>Ws (by rw[Uh,h];rfl);obtain⟨yb,F0,m1,m2,m3,m4⟩:=hy.flat hyx;obtain⟨sa,sn,sc⟩:=s;obtain⟨ya,yn,yc⟩:=y;dsimp only at pH hsc F1 Uh Ws rn m1 k2;subst m1;have hold:=Only.drew w;have key:∀fR Pf,fR=sn+yn->∀W',W'=w.drew.alloc (.cells (css.flatten.toArray++F0.flatten.toArray++Builtin.zeroCells z.cells (grownCap w fR Pf e-fR)) e)->
   Own r i.size e w.heap.size W' F ⟨some ⟨w.heap.size,0,none⟩,fR,grownCap w fR Pf e⟩ (xs++ys)/\Only [] w W':=by
  rintro fR Pf rfl W' rfl;have hO:Only [] w (w.drew.alloc (.cells (css.flatten.toArray++F0.flatten.toArray++Builtin.zeroCells z.cells (grownCap w (sn+yn) Pf e-(sn+yn))) e)):=hold.ca (Only.alloc _ _);refine⟨.inr ⟨w.heap.size,css++F0,(Builtin.zeroCells z.cells _).toList,rfl,aY _,?_,wN w _ FI,?_,grownCap_ge _ _ _ _,grownCap_le_maxLen _ _ _ _ (by simp[maxLen];omega),?_⟩,hO⟩
  ·rw[aec,FV];exact Blk.alloc w.drew e _
  ·simp;omega
  refine((pb.mono hr (pb.inHeap hr (gI.Ct k1 m3)) (G:=λk=>F k/\k≠w.heap.size) λk h=>⟨h.1,by have:=h.2;omega⟩)).keep hr λk hk bT=>hO.block k bT aM
 cases sa with
 | none=>
  have hsc:=F1 rfl;subst hsc;have Ui:sn=0:=aE
  subst Ui;have hx:=bF pH.symm;subst hx;cases css with
  | cons c css=>exact k1.elim
  | nil=>
   have ww:=run_append_nil (P:=P) w t ty e i z ht hi hz yb yn yc F0.flatten (by rw[m3.J9,Uh]) m4 aE aE (by
    have:(0+ys.length)*i.bytes<=140737488355328:=aa3
    rw[bM,<-Uh]at this;omega)
   obtain⟨g1,g2⟩:=key yn 0 aM _ rfl;exact⟨_,_,ww,by simpa using g1,by simpa using g2,rfl⟩
 | some b=>
  have ww:=run_append_grow (P:=P) w t ty e i z ht hi hz b sn sc css.flatten (by rw[k1.J9,pH]) (k2 b rfl) yb yn yc F0.flatten (by rw[m3.J9,Uh]) m4 rn aE (growslice_fits rn (by rw[pH,Uh];exact hm));obtain⟨g1,g2⟩:=key _ sc rfl _ rfl;exact⟨_,_,ww,g1,g2,rfl⟩
theorem PS(ht:P.underlying t=some (.slice e))(hi:P.info? e=some i)(og:i.size=size)
  (hr:r.Ok) {g} {css} {tail} (ha:s.a=some ⟨g,0,none⟩) (hB:B<=g) (hb:Blk w g e (css.flatten++tail)) (Ia:tail.length=(s.c-s.n)*size) (hn:s.n=xs.length) (hc:s.n<=s.c) (h63:s.c<=9223372036854775807)
  (hE:pb r size w (λk=>F k/\k≠g) xs css) (hy:SliceF r size w (λk=>F k/\k≠g) y ys) (rn:s.n+y.n<=s.c):
  ∃w',(Builtin.append_ #[t,t] ty #[s.v,y.v]).run P w=.ok (Sl.v ⟨s.a,s.n+y.n,s.c⟩) w'/\Own r size e B w' F ⟨s.a,s.n+y.n,s.c⟩ (xs++ys)/\Only [g] w w':=by
 subst og;have Uh:=hy.len;obtain⟨sa,sn,sc⟩:=s;obtain⟨ya,yn,yc⟩:=y;dsimp only at ha hn hc Ia rn Uh;subst ha;obtain⟨F0,m3,m4⟩:=hy.ag3;have qv:css.flatten.length=sn*i.size:=by rw[hE.J9,hn]
 have xV:F0.flatten.length=yn*i.size:=by rw[m3.J9,Uh]
 have vW:sn*i.size+yn*i.size<=sn*i.size+tail.length:=by
  rw[Ia,<-eJ,<-eJ];exact ez _ aE
 have ww:(Builtin.append_ #[t,t] ty #[.slice (some ⟨g,0,none⟩) sn sc,.slice ya yn yc]).run P w=
   .ok (.slice (some ⟨g,0,none⟩) (sn+yn) sc) (w.setRow g ((css.flatten++F0.flatten)++tail.drop (yn*i.size)).toArray):=by
  have Ib:((css.flatten++tail).toArray.toList.take (sn*i.size)++F0.flatten++(css.flatten++tail).toArray.toList.drop (sn*i.size+F0.flatten.length))=(css.flatten++F0.flatten)++tail.drop (yn*i.size):=by
   rw[jg,<-qv,List.take_left,xV,List.drop_append];rw[List.drop_eq_nil_of_le aE,bP,dM]
  cases ya with
  | some ya=>
   have:=run_append_room (P:=P) w t ty e i ht hi g sn sc (css.flatten++tail).toArray hb ya yn yc F0.flatten xV (m4 ya rfl) (m3.one hr) rn (by
    rw[pR,aN,xV,qv];exact vW)
   rw[this,Ib]
  | none=>
   have hyx:ys=[]:=by
    cases ys with
    | nil=>rfl
    | cons x xs=>obtain⟨_,_,h,_⟩:=hy.at_ 0 x rfl;cases h
   subst hyx;have Ws:=by simpa using Uh
   subst Ws;cases F0 with
   | cons c cs=>exact m3.elim
   | nil=>
    have vX:w.setRow g ((css.flatten++([]).flatten)++tail.drop (0*i.size)).toArray=w:=by
     have:=setRow_self w g (css.flatten++tail).toArray e (0,0) hb;simpa using this
    rw[vX];simp[Builtin.append_,run_underlying ht,sizeOf,typeInfo,hi,Builtin.lenOf,Builtin.firstCells,hc,storeCells]
 have hO:Only [g] w (w.setRow g ((css.flatten++F0.flatten)++tail.drop (yn*i.size)).toArray):=Only.setRow _ _ _;refine⟨_,ww,.inr ⟨g,css++F0,tail.drop (yn*i.size),rfl,hB,?_,?_,?_,rn,h63,?_⟩,hO⟩
 ·rw[FV];exact hb.setRow _
 ·rw[cr,Ia,<-Nat.sub_mul];congr 1;dsimp only;omega
 ·dsimp only;rw[aN];omega
 exact pb.keep hr (gI.Ct hE m3) λk hk bT=>hO.block k bT ada
theorem pU(ht:P.underlying t=some (.slice e))(hi:P.info? e=some i)(hz:i.zero=some z)(og:i.size=size)(OI:i.bytes=bytes)(FI:z.cells.size=size)
  (hr:r.Ok) (hs:Own r size e B w F s xs) (hy:SliceF r size w (λk=>F k/\s.a≠some ⟨k,0,none⟩) y ys) (hB:B<=w.heap.size) (hm:(xs.length+ys.length)*bytes<=140737488355328) (Aw:0<bytes):
  ∃s' w',(Builtin.append_ #[t,t] ty #[s.v,y.v]).run P w=.ok s'.v w'/\Own r size e B w' F s' (xs++ys)/\∃gs,Only gs w w'/\(∀g,g∈gs->s.a=some ⟨g,0,none⟩/\B<=g/\g<w.heap.size)/\(s'.a=s.a∨s'.a=some ⟨w.heap.size,0,none⟩):=by
 by_cases rn:s.n+y.n<=s.c
 ·rcases hs with⟨rfl,rfl⟩ | ⟨g,css,tail,h1,h2,h4,h5,h6,h7,h9,h8⟩
  ·have Ws:y.n=0:=by simpa using rn
   have hyx:ys=[]:=by have:=hy.len;rw[Ws]at this;exact bF this.symm
   subst hyx;refine⟨Sl.nil,w,?_,.inl ⟨rfl,rfl⟩,[],Only.refl _ _,aM,.inl rfl⟩;obtain⟨ya,yn,yc⟩:=y;dsimp only at Ws;subst Ws;cases ya<;>simp[Builtin.append_,run_underlying ht,sizeOf,typeInfo,hi,Builtin.lenOf,Builtin.firstCells,loadCells,loadCellsFrom]
  obtain⟨w',k1,k2,k3⟩:=PS (ty:=ty) ht hi og hr h1 h2 h4 h5 h6 h7 h9 h8 (hy.mono hr λk hk=>⟨hk.1,λh=>hk.2 (by rw[h,h1])⟩) rn;exact⟨_,w',k1,k2,[g],k3,λg' hg'=>by simp at hg';subst hg';exact⟨h1,h2,h4.lt⟩,.inl rfl⟩
 have pH:=hs.len;have hsc:=hs.cap;have hy':SliceF r size w F y ys:=hy.mono hr λk hk=>hk.1;have go:∀css,pb r size w F xs css->(∀base,s.a=some base->Cells w base css.flatten)->(s.a=none->s.c=0)->
   ∃s' w',(Builtin.append_ #[t,t] ty #[s.v,y.v]).run P w=.ok s'.v w'/\Own r size e B w' F s' (xs++ys)/\∃gs,Only gs w w'/\(∀g,g∈gs->s.a=some ⟨g,0,none⟩/\B<=g/\g<w.heap.size)/\(s'.a=s.a∨s'.a=some ⟨w.heap.size,0,none⟩):=by
  intro css k1 k2 k3;obtain⟨s',w',g1,g2,g3,g4⟩:=Nz (ty:=ty) ht hi hz og OI FI hr k1 k2 k3 pH hsc hy' aE hm Aw;exact⟨s',w',g1,g2.low hB,[],g3,aM,.inr g4⟩
 rcases hs with⟨rfl,rfl⟩ | ⟨g,css,tail,h1,h2,h4,h5,h6,h7,h9,h8⟩
 ·exact go [] trivial (λ_ h=>aaQ) (λ_=>rfl)
 refine go css (h8.mono hr λk hk=>hk.1) (λbase hb=>?_) (λh=>by rw[h1]at h;cases h);rw[h1]at hb;injection hb with hb;subst hb;exact h4.cells 0 _ λj v hj=>by
  rw[bM,bQ (bc.1 hj).1];exact hj
theorem AJ w (ht:P.underlying t=some (.slice e)) (hi:P.info? e=some i):(Instr.buildSlice t 0 #[]).run P w=.ok (.slice (some ⟨w.heap.size,0,none⟩) 0 0) (w.alloc (.cells #[] e)):=by
 have h0:Array.map (λ_=>(default:aw)) (Array.range 0)=#[]:=Array.ext' aM;simp[Instr.buildSlice,run_underlying ht,sizeOf,typeInfo,hi,Instr.fill,newRow,h0]
theorem jZ(ht:P.underlying t=some (.slice e))(hi:P.info? e=some i)(hz:i.zero=some z)(og:i.size=size)(h0:0<size){vs:List aw}{len}{parts}
  (hp:parts=((vs.zipIdx 0).map λx=>(x.2,x.1)).toArray) (hl:vs.length=len) (Yt:0<len) (vG:len*size<=16777216)
  (hr:r.Ok) (hE:pb r size w F xs (vs.map λv=>v.cells.toList)):
  ∃s w',(Instr.buildSlice t len parts).run P w=.ok (Sl.v s) w'/\Own r size e w.heap.size w' F s xs/\Only [] w w'/\s.a=some ⟨w.heap.size,0,none⟩/\s.n=xs.length/\s.c=xs.length:=by
 subst og;subst hp;subst hl;have Kf:=by have:=hE.len;rwa[bN]at this
 have hsz:=λv hv=>by
  have:=hE.sz _ (gM.2 ⟨v,hv,rfl⟩);simpa using this
 have ww:=run_buildSlice (P:=P) w t e vs.length ((vs.zipIdx 0).map λx=>_).toArray (vs.flatMap λv=>v.cells.toList).toArray i z ht hi hz aE
  (by have:=Nat.mul_lt_mul_of_pos_left h0 Yt;omega)
  (by rw[jg];exact Go.Great.fill_whole h0 vs _ hsz aM)
 have hO:Only [] w (w.alloc (.cells (vs.flatMap λv=>v.cells.toList).toArray e)):=Only.alloc _ _;refine⟨⟨some _,vs.length,vs.length⟩,_,ww,.inr ⟨w.heap.size,vs.map (λv=>v.cells.toList),[],rfl,aY _,?_,aM,Kf.symm,aY _,?_,?_⟩,hO,rfl,Kf.symm,Kf.symm⟩
 ·rw[bD,List.flatMap_def.symm.trans rfl];exact Blk.alloc w e _
 ·have:vs.length<=vs.length*i.size:=Nat.le_mul_of_pos_right _ h0;dsimp only;omega
 exact((pb.mono hr (pb.inHeap hr hE) (G:=λk=>F k/\k≠w.heap.size) λk h=>⟨h.1,by have:=h.2;omega⟩)).keep hr λk hk bT=>hO.block k bT aM
end
end
def lj:Rp UInt8:=λ_ _ b cs=>cs=[gC b]
theorem qJ:lj.Ok where
 keep h _:=h
 inHeap h:=h
 mono h _:=h
 one h v hv:=by
  rw[show _=[gC _]from h]at hv;simp at hv;subst hv;rfl
theorem BytesF.slice{w}{F}{s}{l}(h:BytesF w F s l)(h0:s.a=none->s.c=0)(hb:s.c<=9223372036854775807):SliceF lj 1 w F s l:=
 ⟨h.rd.1,h.cap,h0,hb,λj x hx=>by
  have hl:l≠[]:=λe=>by rw[e]at hx;simp at hx
  obtain⟨ad,h1,h2⟩:=h.rd.2 hl;exact⟨ad,[gC x],h1,h.blk ad h1 hl,rfl,by rw[wI];exact h2.dN j _ aet,rfl⟩⟩
theorem SliceF.bytes{w}{F}{s}{l}(h:SliceF lj 1 w F s l):BytesF w F s l:=
 ⟨⟨h.len,λhl=>by
  obtain⟨base,css,h1,h2,h3,h4⟩:=h.flat hl;refine⟨base,h1,?_⟩;have:∀l css,pb lj 1 w F l css->css.flatten=l.map gC:=by
   intro l
   induction l with
   | nil=>intro css h;cases css with
    | nil=>rfl
    | cons c cs=>exact h.elim
   | cons b l ih=>intro css h;cases css with
    | nil=>exact h.elim
    | cons c cs=>
     obtain⟨⟨_,h1⟩,h2⟩:=h;rw[dC,ih cs h2,show c=[gC b]from h1];rfl
  rw[<-this l css h3];exact h4⟩,h.cap,λad ha hl=>by
   obtain⟨base,css,h1,h2,_⟩:=h.flat hl;rw[ha]at h1;injection h1 with h1;rw[h1];exact h2⟩
def qk:Rp Int:=λ_ _ x cs=>cs=[.int .i64 x]/\wE x
theorem ly:qk.Ok where
 keep h _:=h
 inHeap h:=h
 mono h _:=h
 one h v hv:=by
  rw[h.1]at hv;simp at hv;subst hv;rfl
structure OnlyP (F:Nat->Prop) (w w':av):Prop where
 os:w'.os=w.os
 tape:w'.tape=w.tape
 output:w'.output=w.output
 size:w.heap.size<=w'.heap.size
 block:∀k,k<w.heap.size->¬F k->w'.heap[k]? =w.heap[k]?
section
variable {w w' sR:av} {F G:Nat->Prop} {bs:List Nat}
theorem Only.p(h:Only bs w w')(hb:∀b,b∈bs->F b∨w.heap.size<=b):OnlyP F w w':=
 ⟨h.os,h.tape,h.output,h.size,λk hk hn=>h.block k hk λhm=>(hb k hm).elim hn λh=>aE⟩
theorem Only.p0(h:Only [] w w'):OnlyP F w w':=h.p aM
theorem OnlyP.refl F w:OnlyP F w w:=(Only.refl [] w).p0
theorem OnlyP.mono(h:OnlyP F w w')(hb:∀k,k<w.heap.size->F k->G k):OnlyP G w w':=⟨h.os,h.tape,h.output,h.size,λk hk hn=>h.block k hk λhf=>hn (hb k hk hf)⟩
theorem OnlyP.trans(h:OnlyP F w w')(k:OnlyP G w' sR)(hb:∀k,G k->F k∨w.heap.size<=k):OnlyP F w sR:=
 ⟨k.os.trans h.os,k.tape.trans h.tape,k.output.trans h.output,bB h.size k.size,λi hi hn=>
  (k.block i (cJ hi h.size) λhg=>(hb i hg).elim hn λh=>aE).trans (h.block i hi hn)⟩
theorem OnlyP.ca(h:OnlyP F w w')(k:Only [] w' sR):OnlyP F w sR:=h.trans (k.p0 (F:=λ_=>False)) λ_ h=>h.elim
theorem Only.vV(h:Only [] w w')(k:OnlyP F w' sR):OnlyP F w sR:=(h.p0 (F:=F)).trans k λ_ h=>.inl h
theorem OnlyP.only(h:OnlyP F w w')(hb:∀k,F k->w.heap.size<=k):Only [] w w':=
 ⟨h.os,h.tape,h.output,h.size,λk hk _=>h.block k hk λhf=>by have:=hb k hf;omega⟩
theorem OnlyP.ag4(h:OnlyP F w w')(hb:∀k,F k->k∈bs∨w.heap.size<=k):Only bs w w':=
 ⟨h.os,h.tape,h.output,h.size,λk hk hn=>h.block k hk λhf=>(hb k hf).elim hn λh=>aE⟩
theorem OnlyP.same(h:OnlyP F w w')(hl:∀x,x∈bs->x<w.heap.size/\¬F x):bS bs w w':=λx hx=>h.block x (hl x hx).1 (hl x hx).2
theorem OnlyP.blk(h:OnlyP F w w'){b}{t}{cs}(hb:Blk w b t cs)(hn:¬F b):Blk w' b t cs:=(h.block b hb.lt hn).trans hb
end
section
variable {α:Type} {r:Rp α} {size:Nat} {w w':av} {F G:Nat->Prop} {s:Sl} {xs:List α} {e:TypeId} {B:Nat} {bs:List Nat}
theorem SliceF.only(hr:r.Ok)(h0:0<size)(h:SliceF r size w F s xs)(hO:Only bs w w')(hb:∀k,F k->k<w.heap.size->k∉bs):SliceF r size w' F s xs:=
 h.keep hr h0 λk hF bT=>hO.block k bT (hb k hF bT)
theorem SliceF.pA(hr:r.Ok)(h0:0<size)(h:SliceF r size w F s xs)(hO:OnlyP G w w')(hb:∀k,F k->k<w.heap.size->¬G k):SliceF r size w' F s xs:=
 h.keep hr h0 λk hF bT=>hO.block k bT (hb k hF bT)
theorem Rp.Ok.only(hr:r.Ok){x}{cs}(h:r w F x cs)(hO:Only bs w w')(hb:∀k,F k->k<w.heap.size->k∉bs):r w' F x cs:=hr.keep h λk hF bT=>hO.block k bT (hb k hF bT)
theorem pb.at(h:∃css,pb r size w F xs css):True:=trivial
theorem pb.setAt{css}(h:pb r size w F xs css) j {x} {c} (hc:c.length=size) (hx:r w F x c):pb r size w F (xs.set j x) (css.set j c):=gI.set j h ⟨hc,hx⟩
theorem Gn{css:List _}{tail}:∀{n:Nat} {cs vs:List aw},(∀c,c∈css->c.length=size)->css[n]? =some cs->vs.length=size->
  cj (css.flatten++tail) (n*size) vs=(css.set n vs).flatten++tail:=by
 induction css with
 | nil=>intro n cs vs _ h;simp at h
 | cons c css ih=>
  intro n cs vs hs hn hv;have hc:=hs c aM;cases n with
  | zero=>
   simp[cj,pS,ci,bP,bM,Iv,dC,bf,hv];rw[<-hc,List.drop_left]
  | succ n=>
   have:=ih (λd hd=>hs d (by simp[hd])) hn hv;have e:(n+1)*size=c.length+n*size:=by rw[eJ,hc];omega
   simp only[cj]at this⊢;simp;rw[e,UG,eo,UH,<-this];simp
end
section
variable {α:Type} {r:Rp α} {size:Nat} {w w':av} {F G:Nat->Prop} {s:Sl} {xs:List α} {e:TypeId} {B:Nat} {P:Program} {t ty:TypeId} {i:TypeInfo} {z v:aw} {bytes:Nat} {x:α}
theorem lz(ht:P.underlying t=some (.slice e))(hi:P.info? e=some i)(hz:i.zero=some z)(og:i.size=size)(OI:i.bytes=bytes)(FI:z.cells.size=size)(h0:0<size)(Aw:0<bytes)(vG:1*size<=16777216)
  (hr:r.Ok) (hs:Own r size e B w F s xs) (hB:B<=w.heap.size) (hv:v.cells.toList.length=size) (hx:r w G x v.cells.toList) (hG:∀k,G k->k<w.heap.size->F k/\s.a≠some ⟨k,0,none⟩) (hm:(xs.length+1)*bytes<=140737488355328):
  ∃y w1,(Instr.buildSlice t 1 #[(0,v)]).run P w=.ok (Sl.v y) w1/\Only [] w w1/\∃s' w2,(Builtin.append_ #[t,t] ty #[Sl.v s,Sl.v y]).run P w1=.ok (Sl.v s') w2/\
   Own r size e B w2 (λk=>F k∨w.heap.size<=k) s' (xs++[x])/\(∃gs,Only gs w1 w2/\∀g,g∈gs->s.a=some ⟨g,0,none⟩/\B<=g/\g<w.heap.size)/\(s'.a=s.a∨∃g,s'.a=some ⟨g,0,none⟩/\w.heap.size<=g):=by
 obtain⟨y,w1,k1,k2,k3,k4,k5,k6⟩:=jZ (P:=P) (t:=t) (e:=e) (i:=i) (z:=z) (w:=w) (F:=λk=>G k/\k<w.heap.size) (vs:=[v]) (parts:=#[_]) (len:=1) (xs:=[x]) (r:=r) (size:=size) ht hi hz og h0 rfl rfl aL vG hr ⟨⟨hv,hr.inHeap hx⟩,trivial⟩;have SY:Own r size e B w1 (λk=>F k∨w.heap.size<=k) s xs:=((hs.inHeap hr).keep hr λk _ bT=>k3.block k bT aM).mono hr λk hk=>.inl hk.1;have hy:=(k2.slice hr).mono hr (G:=λk=>(F k∨w.heap.size<=k)/\s.a≠some _) λk hk=>by
  rcases hk with⟨hk,bT⟩ | ⟨hk,_⟩
  ·exact⟨.inl (hG k hk bT).1,(hG k hk bT).2⟩
  exact⟨.inr hk,λha=>by have:=(hs.blk ha).2;dsimp only at this;omega⟩
 obtain⟨s',w2,g1,g2,gs,g3,g4,g5⟩:=pU (ty:=ty) ht hi hz og OI FI hr SY hy (bB hB k3.size) hm Aw;refine⟨y,w1,k1,k3,s',w2,g1,g2,⟨gs,g3,λg hg=>⟨(g4 g hg).1,(g4 g hg).2.1,(hs.blk (g4 g hg).1).2⟩⟩,?_⟩;rcases g5 with h | h
 ·exact .inl h
 exact .inr ⟨_,h,k3.size⟩
theorem Own.store(hr:r.Ok)(hs:Own r size e B w F s xs){n}(hn:n<xs.length){x}{vs}(hv:vs.length=size)(hx:r w G x vs)(hG:∀k,G k->k<w.heap.size->F k/\s.a≠some ⟨k,0,none⟩)(h0:0<size):
  ∃g cells,s.a=some ⟨g,0,none⟩/\cR s n size ⟨g,n*size,none⟩/\Blk w g e cells/\n*size+size<=cells.length/\
   ∀w',Only [g] w w'->Blk w' g e (cj cells (n*size) vs)->Own r size e B w' F s (xs.set n x):=by
 rcases hs with⟨rfl,rfl⟩ | ⟨g,css,tail,h1,h2,h4,h5,h6,h7,h9,h8⟩
 ·simp at hn
 have qv:=h8.len;have hcn:n<css.length:=aE
 have Uj:=AI h8.sz;have vW:=by
  have:=ez size (show n+1<=css.length by omega);rw[eJ]at this;omega
 refine⟨g,_,h1,⟨_,h1,aE,aE,by rw[gH,aX,bM]⟩,h4,abD,λw' hO hb=>.inr ⟨g,css.set n vs,tail,h1,h2,?_,h5,by rw[sY];exact h6,h7,h9,?_⟩⟩
 ·rw[Gn h8.sz (bJ hcn) hv]at hb;exact hb
 refine pb.setAt (h8.keep hr λk hk bT=>hO.block k bT ada) n hv (hr.keep (w:=w) (F:=λk=>F k/\k≠g) ?_ λk hk bT=>hO.block k bT ada);refine hr.mono (hr.inHeap hx) λk hk=>?_;obtain⟨p1,p2⟩:=hG k hk.1 hk.2;exact⟨p1,λe=>p2 (by rw[h1,e])⟩
theorem NA(ht:P.underlying t=some (.slice e))(hi:P.info? e=some i)(r:Rp α) size w F:
  ∃y w1,(Instr.buildSlice t 0 #[]).run P w=.ok (Sl.v y) w1/\Own r size e w.heap.size w1 F y []/\Only [] w w1:=
 ⟨⟨some _,0,0⟩,_,AJ w ht hi,.inr ⟨w.heap.size,[],[],rfl,aY _,Blk.alloc w e [],aM,rfl,aY _,be _,trivial⟩,Only.alloc _ _⟩
end
theorem Own.ag5{α}{r}{size}{w}{F}{s}{xs}{e}{B}(hr:r.Ok)(hs:Own r size e B w F s xs){n:Nat}{x:α}(hx:xs[n]? =some x):
  ∃g cells cs,s.a=some ⟨g,0,none⟩/\cR s n size ⟨g,n*size,none⟩/\Blk w g e cells/\cs.length=size/\Cells w ⟨g,n*size,none⟩ cs/\r w (λk=>F k/\k≠g) x cs/\
   ∀off v y G,off<size->r w G y (cs.set off v)->(∀k,G k->k<w.heap.size->F k/\k≠g)->
    n*size+off+1<=cells.length/\∀w',Only [g] w w'->Blk w' g e (cj cells (n*size+off) [v])->Own r size e B w' F s (xs.set n y):=by
 rcases hs with⟨rfl,rfl⟩ | ⟨g,css,tail,h1,h2,h4,h5,h6,h7,h9,h8⟩
 ·simp at hx
 obtain⟨cs,k1,k2,k3⟩:=h8.get hx;have qv:=h8.len;have hn:=(bc.1 hx).1;have Uj:=AI h8.sz;have vW:=by
  have:=ez size (show n+1<=css.length by omega);rw[eJ]at this;omega
 refine⟨g,_,cs,h1,⟨_,h1,aE,aE,by rw[gH,aX,bM]⟩,h4,k2,h4.cells _ _ λj v hj=>?_,k3,λoff v y G ho hy hG=>⟨abD,λw' hO hb=>.inr ⟨g,css.set n (cs.set off v),tail,h1,h2,?_,h5,by rw[sY];exact h6,h7,h9,?_⟩⟩⟩
 ·have:=KQ h8.sz k1 hj;rw[bQ (bc.1 this).1];exact this
 ·rw[I0 abD,Gm h8.sz k1 ho]at hb;exact hb
 refine pb.setAt (h8.keep hr λk hk bT=>hO.block k bT ada) n (by rw[sY];exact k2) ?_;refine hr.mono (hr.keep (hr.inHeap hy) λk hk bT=>hO.block k bT (by simpa using(hG k hk.1 hk.2).2)) λk hk=>hG k hk.1 hk.2
theorem gI.ag6{α β}{P}{f:α->β}:∀{xs:List α} {css:List _},gI P (xs.map f) css↔gI (λx cs=>P (f x) cs) xs css
 | [],[]=>Iff.rfl
 | x::xs,c::cs=>by simp[bK,gI,gI.ag6 (xs:=xs) (css:=cs)]
 | [],_::_=>Iff.rfl
 | _::_,[]=>Iff.rfl
theorem gI.OG{α}{P Q}:∀{xs:List α} {css:List _},(∀x c,x∈xs->P x c->Q x c)->gI P xs css->gI Q xs css
 | [],[],_,_=>trivial
 | x::xs,c::cs,hi,h=>⟨hi _ _ aM h.1,gI.OG (xs:=xs) (css:=cs) (λy d hy=>hi y d agD) h.2⟩
 | [],_::_,_,h=>h.elim
 | _::_,[],_,h=>h.elim
theorem Own.map{α β}{r:Rp α}{q:Rp β}{size}{w}{F G}{s}{xs}{e}{B} f (h:Own r size e B w F s xs) (hf:∀g x cs,x∈xs->r w (λk=>F k/\k≠g) x cs->q w (λk=>G k/\k≠g) (f x) cs):Own q size e B w G s (xs.map f):=by
 rcases h with⟨rfl,rfl⟩ | ⟨g,css,tail,h1,h2,h4,h5,h6,h7,h9,h8⟩
 ·exact .inl ⟨rfl,rfl⟩
 exact .inr ⟨g,css,tail,h1,h2,h4,h5,by rw[bN];exact h6,h7,h9,gI.ag6.2 (gI.OG (λx c hx hc=>⟨hc.1,hf g x c hx hc.2⟩) h8)⟩
section
variable {P:Program} {w:av}
theorem Cz{z}(hz:∀v,v∈z->v.oneCell'=true)(h0:0<z.size) n:∀v,v∈(Builtin.zeroCells z n).toList->v.oneCell'=true:=λv hv=>by
 have hv':=ac3
 simp[Builtin.zeroCells,Array.mem_map,Array.mem_range]at hv';obtain⟨i,hi,rfl⟩:=hv';have bT:i % z.size<z.size:=Nat.mod_lt _ h0;rw[getElem!_pos z _ bT];exact hz _ (Array.getElem_mem bT)
theorem CA{t e ty}{z}(ht:P.underlying t=some (.slice e))(hv:∀w,(zeroValue e).run P w=.ok z w)(h1:∀v,v∈z.cells->v.oneCell'=true)(Wt:0<z.cells.size){g o n c}{bt}{cs}(hn:0<n)
  (hb:Blk w g bt cs) (Kc:o+n*z.cells.size<=cs.length):
  (Builtin.clear_ #[t] ty #[.slice (some ⟨g,o,none⟩) n c]).run P w=.ok (.tuple #[]) (w.setRow g (cs.take o++(Builtin.zeroCells z.cells n).toList++cs.drop (o+n*z.cells.size)).toArray):=by
 have hl:(Builtin.zeroCells z.cells n).toList.length=n*z.cells.size:=by rw[ta,size_zeroCells]
 have kR:=run_storeCells_at P g o bt (Builtin.zeroCells z.cells n).toList 0 cs.toArray w hb (by rw[hl];simpa using Kc) (Cz h1 Wt n);simp[fk,hl,jg]at kR;obtain⟨m,rfl⟩:∃m,n=m+1:=⟨n-1,aE⟩
 simp[Builtin.clear_,run_underlying ht,hv,kR]
theorem Own.clear{α}{r:Rp α}{size}{F}{s}{xs}{e}{B}{t ty}{z}(hr:r.Ok)(h0:0<size)(ht:P.underlying t=some (.slice e))(hv:∀w,(zeroValue e).run P w=.ok z w)(h1:∀v,v∈z.cells->v.oneCell'=true)(FI:z.cells.size=size)
  (hs:Own r size e B w F s xs) {i} (hi:i<xs.length):
  ∃w' g,(Builtin.clear_ #[t] ty #[Sl.v (Sl.cut s i s.n s.c size)]).run P w=.ok (.tuple #[]) w'/\s.a=some ⟨g,0,none⟩/\Only [g] w w'/\Own r size e B w' F (Sl.cut s 0 i s.c size) (xs.take i):=by
 rcases hs with⟨rfl,rfl⟩ | ⟨g,css,tail,a1,a2,a4,a5,a6,a7,a9,a8⟩
 ·simp at hi
 obtain⟨sa,sn,sc⟩:=s;dsimp only at a1 a5 a6 a7 a9;subst a1;have Uj:=a8.J9;have SZ:Sl.cut ⟨some ⟨g,0,none⟩,sn,sc⟩ i sn sc size=⟨some ⟨g,i*size,none⟩,sn-i,sc-i⟩:=by
  simp[Sl.cut];rw[aQ aE];simp[gp,gH,bM]
 have e1:i*size+(sn-i)*size=sn*size:=by rw[<-eJ];congr 1;omega
 have hO:=Only.setRow w g (((css.flatten++tail).take (i*size)++(Builtin.zeroCells z.cells (sn-i)).toList++(css.flatten++tail).drop (i*size+(sn-i)*z.cells.size)).toArray);refine⟨_,g,by rw[SZ];exact CA (P:=P) (w:=w) (t:=t) (ty:=ty) ht hv h1 aE (g:=g) (o:=i*size) (n:=sn-i) (c:=sc-i) aE a4 (by rw[FI,e1,aN,Uj,a6];omega),rfl,hO,?_⟩;have ahh:Sl.cut ⟨some ⟨g,0,none⟩,sn,sc⟩ 0 i sc size=⟨some ⟨g,0,none⟩,i,sc⟩:=by
  simp only[Sl.cut];split<;>simp[Addr.add]
 rw[ahh];have oo:(css.flatten++tail).take (i*size)=(css.take i).flatten:=by
  rw[PG (by rw[Uj,<-a6];exact ez _ aE),Ny a8.sz]
 refine .inr ⟨g,css.take i,(Builtin.zeroCells z.cells (sn-i)).toList++(css.flatten++tail).drop (i*size+(sn-i)*z.cells.size),rfl,a2,?_,?_,?_,aa1,a9,?_⟩
 ·have:=a4.setRow ((css.flatten++tail).take (i*size)++(Builtin.zeroCells z.cells (sn-i)).toList++(css.flatten++tail).drop (i*size+(sn-i)*z.cells.size));rw[bf,oo]at this;rw[oo];simpa using this
 ·simp only[aN,cr,Uj,<-a6,ta,size_zeroCells,a5,FI,e1];rw[dM,<-eJ];congr 1;omega
 ·rw[cF];dsimp only;omega
 refine pb.keep hr (gI.take i a8) λk hk bT=>hO.block k bT ada
end
theorem Xh l m:((⟨List.toArray l⟩:ByteArray).toList==(⟨List.toArray m⟩:ByteArray).toList)=decide (l=m):=by
 by_cases h:l=m<;>simp[h]
end Go.Kt
namespace Go.Kt
open Go renaming World->av,Value->aw
open Go Go.RowKit Go.MapKept
structure MapI (w:av) (r:Nat) (m:Int->Option Int):Prop where
 mem:∃es clock,w.heap[r]? =some (.map es clock)/\(∀x,x∈es.toList->∃k v,x.key=.int .i64 k/\x.val=.int .i64 v)/\es.toList.Pairwise (λx y=>x.key≠y.key)/\
  ∀k v,m k=some v↔∃x,x∈es.toList/\x.key=.int .i64 k/\x.val=.int .i64 v
section
variable {P:Program} {w w':av} {r:Nat} {m:Int->Option Int} {mty kt et:TypeId}
theorem MapI.keep(h:MapI w r m)(hk:w'.heap[r]? =w.heap[r]?):MapI w' r m:=by
 obtain⟨es,c,h1,h2⟩:=h.mem;exact⟨es,c,hk.trans h1,h2⟩
theorem MapI.lt(h:MapI w r m):r<w.heap.size:=by
 obtain⟨es,c,h1,h2⟩:=h.mem;exact(mz.1 h1).1
theorem MapI.only(h:MapI w r m){bs}(hO:Only bs w w')(hn:r∉bs):MapI w' r m:=h.keep (hO.block r h.lt hn)
theorem Gp{w}{r}{o o'}(hb:w.heap[r]? =some o):Only [r] w {w with heap:=w.heap.setIfInBounds r o'}:=
 ⟨rfl,rfl,rfl,aM,λk _ hn=>(heap_set hb).2 k acM⟩
theorem I1{α:Type}{l:List α}{j}{f}{e}(h:l[j]? =some e):l.modify j f=l.set j (f e):=by
 apply lU;intro i;rw[List.getElem?_modify,KK];by_cases wG:j=i
 ·subst wG;rw[aV rfl,aV (bc.1 h).1,h];simp
 cases l[i]? <;>simp[wG]
end
end Go.Kt
namespace Go.Kt
open Go renaming World->av,Value->aw
open Go Go.RowKit
@[reducible] def T(l:List UInt8):ByteArray:=⟨l.toArray⟩
theorem zy(s:ByteArray):s=T s.data.toList:=by
 obtain⟨⟨l⟩⟩:=s;rfl
theorem cq(l:List UInt8):(T l).size=l.length:=by simp[T,ByteArray.size]
theorem lV(l:List UInt8)(i:Nat):(T l)[i]? =l[i]? :=by
 by_cases h:i<l.length
 ·rw[bJ h,getElem?_pos (T l) i (by rw[cq];exact h)];rfl
 rw[di aE,getElem?_neg (T l) i (by rw[cq];exact h)]
theorem tA(l:List UInt8)(a b:Nat):(T l).extract a b=T ((l.drop a).take (b-a)):=by
 rw[zy ((T l).extract a b),Lib.extract_data]
theorem eI(l m:List UInt8):T l++T m=T (l++m):=by
 apply ByteArray.ext;simp[T]
theorem gU(l m:List UInt8):((T l).toList==(T m).toList)=decide (l=m):=Xh l m
def vp(us:Nat->aw):List (Nat×aw)->Nat->aw
 | [],i=>us i
 | (k,v)::r,i=>bif Nat.beq k i then v else vp us r i
def yY:List (Nat×aw)->Nat->Option aw
 | [],_=>none
 | (k,v)::r,i=>bif Nat.beq k i then some v else yY r i
def UT(us:Nat->aw)(l:List (Nat×aw)):Nat->Nat->List aw
 | 0,_=>[]
 | n+1,i=>vp us l i::UT us l n (i+1)
def fr(n:Nat)(us:Nat->aw)(l:List (Nat×aw)):Act:=⟨(UT us l n 0).toArray,[]⟩
def evO(n:Nat)(l:List (Nat×aw)):Operand->Option aw
 | .tmp k=>bif Nat.blt k n then yY l k else none
 | .const v=>some v
 | .global g=>some (.pointer (some ⟨g,0,none⟩))
 | .func f=>some (.func (.func f) #[] #[])
def pl:Option Tmp->aw->List (Nat×aw)->List (Nat×aw)
 | some k,v,l=>(k,v)::l
 | none,_,l=>l
def D8:Nat->List aw->List (Nat×aw)
 | _,[]=>[]
 | i,v::r=>(i,v)::D8 (i+1) r
section
variable {n0:Nat} {us0:Nat->aw} {l0:List (Nat×aw)}
theorem oH(us:Nat->aw)(l:List (Nat×aw)):∀n i,(UT us l n i).length=n
 | 0,_=>rfl
 | n+1,i=>by simp only[UT,aW,oH us l n (i+1)]
theorem nJ(us:Nat->aw)(l:List (Nat×aw)):∀n i k,k<n->(UT us l n i)[k]? =some (vp us l (i+k))
 | 0,_,_,h=>aE
 | n+1,i,0,_=>rfl
 | n+1,i,k+1,h=>by
  simp only[UT,dm];rw[nJ us l n (i+1) k aE,show i+1+k=i+(k+1) by omega]
theorem uJ{us:Nat->aw}:∀{l:List (Nat×aw)} {k:Nat} {v:aw},yY l k=some v->vp us l k=v
 | [],_,_,h=>aaQ
 | (j,u)::r,k,v,h=>by
  simp only[yY,vp]at h⊢;cases hb:Nat.beq j k with
  | true=>rw[hb]at h;simpa using h
  | false=>rw[hb]at h;exact uJ (l:=r) abb
theorem D9{us:Nat->aw}:∀{l:List (Nat×aw)} {k:Nat},yY l k=none->vp us l k=us k
 | [],_,_=>rfl
 | (j,u)::r,k,h=>by
  simp only[yY,vp]at h⊢;cases hb:Nat.beq j k with
  | true=>rw[hb]at h;simp at h
  | false=>rw[hb]at h;exact D9 (l:=r) abb
theorem PT{k:Nat}(hk:k<n0):(fr n0 us0 l0).eval (.tmp k)=vp us0 l0 k:=by
 show(UT us0 l0 n0 0).toArray.getD k undef=_;rw[Array.getD_eq_getD_getElem?,qH,nJ _ _ _ _ _ hk,bM];rfl
theorem evE{x:Operand}{v:aw}(h:evO n0 l0 x=some v):(fr n0 us0 l0).eval x=v:=by
 cases x with
 | tmp k=>
  simp only[evO]at h;cases hb:Nat.blt k n0 with
  | false=>rw[hb]at h;cases h
  | true=>
   rw[hb]at h;rw[PT (dA hb)];exact uJ h
 | const u=>simpa[evO,Act.eval]using h
 | global g=>simpa[evO,Act.eval]using h
 | func f=>simpa[evO,Act.eval]using h
theorem wO{us:Nat->aw}{l:List (Nat×aw)}{k i:Nat}{v:aw}(h:k≠i):vp us ((k,v)::l) i=vp us l i:=by
 have:Nat.beq k i=false:=by
  cases hb:Nat.beq k i with
  | false=>rfl
  | true=>exact absurd (cd hb) h
 simp only[vp,this,vM]
theorem wP{us:Nat->aw}{l:List (Nat×aw)}{k:Nat}{v:aw}:vp us ((k,v)::l) k=v:=by
 simp only[vp,Nat.beq_refl,oY]
theorem aed{k:Nat}{v:aw}:(fr n0 us0 l0).put (some k) v=fr n0 us0 ((k,v)::l0):=by
 unfold fr;rw[f0];congr 2;apply lU;intro i;rw[KK,oH];by_cases hi:i<n0
 ·rw[nJ _ _ _ _ _ hi,nJ _ _ _ _ _ hi,bM];split
  ·rename_i h;subst h;rw[aV hi,wP]
  rename_i h;rw[wO h]
 rw[di (by rw[oH];omega),di (by rw[oH];omega)];split
 ·rename_i h;subst h;rw[aQ hi]
 rfl
theorem akg{d:Option Tmp}{v:aw}:(fr n0 us0 l0).put d v=fr n0 us0 (pl d v l0):=by
 cases d with
 | none=>rfl
 | some k=>exact aed
theorem C4:∀(args:List aw) (j i:Nat),vp (λ_=>undef) (D8 j args) i=if j<=i then(args[i-j]?).getD undef else undef
 | [],j,i=>by simp[D8,vp]
 | v::r,j,i=>by
  simp only[D8];by_cases wG:j=i
  ·subst wG;rw[wP,aV (aY _)];simp
  rw[wO wG,C4 r (j+1) i];by_cases vW:j<=i
  ·rw[aV vW,aV aE,show i-j=(i-(j+1))+1 by omega,dm]
  rw[aQ vW,aQ aE]
end
section
variable {P:Program} {ops:Array Oper} {Q:Exit->Act->av->Prop} {rest:List Oper} {w w':av} {n0:Nat} {us0:Nat->aw} {l0:List (Nat×aw)}
def asB:aw->Option Bool
 | .bool b=>some b
 | _=>none
theorem Gq{dS:List Oper}{j d:Nat}{oj:Oper}{v:aw}(h2:ia dS j=some oj)(h3:oj.dst=some d)(h4:evO n0 l0 (.tmp d)=some v):
  yielded dS.toArray (fr n0 us0 l0).tmps j=asB v:=by
 rw[kg]at h2;have hd:d<n0:=by
  simp only[evO]at h4;cases hb:Nat.blt d n0 with
  | false=>rw[hb]at h4;cases h4
  | true=>exact dA hb
 have h5:=evE (us0:=us0) h4;rw[PT hd]at h5;have:(fr n0 us0 l0).tmps[d]? =some v:=by
  show(UT us0 l0 n0 0).toArray[d]? =_;rw[qH,nJ _ _ _ _ _ hd,bM,h5]
 simp only[yielded,qH,h2,O2,h3,this];cases v<;>rfl
theorem wtF{o oj:Oper}{dS:List Oper}{j d:Nat}{want b r:Bool}(h1:o.guard=some (j,want))(h2:ia dS j=some oj)(h3:oj.dst=some d)
  (h4:evO n0 l0 (.tmp d)=some (.bool b)) (h5:(b==want)=r):Region.wanted o (yielded dS.toArray (fr n0 us0 l0).tmps)=r:=by
 subst h5;have e:=Gq (us0:=us0) h2 h3 h4;simp only[Region.wanted,h1,e,asB];cases b<;>cases want<;>rfl
theorem wuF{o oj:Oper}{dS:List Oper}{j d:Nat}{want:Bool}(h1:o.guard=some (j,want))(h2:ia dS j=some oj)(h3:oj.dst=some d)
  (h4:evO n0 l0 (.tmp d)=some undef):Region.wanted o (yielded dS.toArray (fr n0 us0 l0).tmps)=false:=by
 have e:=Gq (us0:=us0) h2 h3 h4;simp[Region.wanted,h1,e,undef,asB]
theorem pg{x y:Option Addr}(h:x=y):some (Value.pointer x)=some (.pointer y):=by rw[h]
theorem ag{x y:Addr}(h:x=y):some (Value.pointer (some x))=some (.pointer (some y)):=by rw[h]
theorem bg{x y:Bool}(h:x=y):some (Value.bool x)=some (.bool y):=by rw[h]
theorem sn{op:Op}{t':TypeId}{p:String}{af:Array Edge}{v:aw}(hr:(execOp (fr n0 us0 l0).eval ⟨none,op,t',p,af,none⟩).run P w=.ok (.value v) w)
 (h:wpList P ops Q rest (fr n0 us0 l0) w):wpList P ops Q (⟨none,op,t',p,af,none⟩::rest) (fr n0 us0 l0) w:=IJ v (wn rfl) hr (f3 _ _) h
section
variable {md:Region.Mode} {E:Nat->av->av->Prop} {F:av->Prop}
theorem Xi(i:Nat){dS:List Oper}{d:Option Tmp}{op:Op}{t':TypeId}{p:String}{af:Array Edge}{g:Option (Nat×Bool)}{fh:Nat}{bG:Array Bool}(D N:List Nat)(F:av->Prop){v:aw}(hi:ia dS i=some ⟨d,op,t',p,af,g⟩)
  (hb:(Region.noSelect dS.toArray&&Region.free md dS.toArray bG i&&(Region.ready md dS.toArray bG).contains i&&uI md dS.toArray bG&&rI md dS.toArray i [] D&&(N.all λk=>bG.getD k true))=true)
  (hQ:∀c a w,Q (.panic c) (Act.put a d v) w->Q (.panic c) a w) (kR:∀j w w',j∉D->j∉N->F w->E j w w'->F w') (DP:∀w,F w->E i w w) (hF:F w)
  (hy:YieldsIf P dS.toArray F ⟨d,op,t',p,af,g⟩ v (fr n0 us0 l0))
  (h:fE P md dS.toArray Q E fh (bG.setIfInBounds i true) (fr n0 us0 (pl d v l0)) w):fE P md dS.toArray Q E (fh+1) bG (fr n0 us0 l0) w:=by
 simp only[aP]at hb;obtain⟨⟨⟨⟨⟨b1,b2⟩,b3⟩,b4⟩,b5⟩,b6⟩:=hb;exact IY i D N v F hi b1 b2 b3 b4 b5 b6 hQ kR DP hF hy akg h
theorem eL(i:Nat){dS:List Oper}{d:Option Tmp}{op:Op}{t':TypeId}{p:String}{af:Array Edge}{g:Option (Nat×Bool)}{fh:Nat}{bG:Array Bool}{ls:List (Nat×List Nat)}(D N:List Nat)(F:av->Prop){v:aw}(hi:ia dS i=some ⟨d,op,t',p,af,g⟩)
  (hl:ls.lookup i=none) (kR:∀j w w',j∉D->j∉N->F w->EL ls j w w'->F w') (hF:F w)
  (hy:YieldsIf P dS.toArray F ⟨d,op,t',p,af,g⟩ v (fr n0 us0 l0))
  (h:fE P md dS.toArray Q (EL ls) fh (bG.setIfInBounds i true) (fr n0 us0 (pl d v l0)) w)
  (hb:(Region.noSelect dS.toArray&&Region.free md dS.toArray bG i&&(Region.ready md dS.toArray bG).contains i&&uI md dS.toArray bG&&rI md dS.toArray i [] D&&(N.all λk=>bG.getD k true))=true:=by kernel_rfl)
  (hQ:∀c a w,Q (.panic c) (Act.put a d v) w->Q (.panic c) a w:=by exact λ_ _ _ h=>h):fE P md dS.toArray Q (EL ls) (fh+1) bG (fr n0 us0 l0) w:=
 Xi i D N F hi hb hQ kR (λw _=>PQ hl w) hF hy h
theorem eN(i:Nat){dS:List Oper}{d:Option Tmp}{op:Op}{t':TypeId}{p:String}{af:Array Edge}{g:Option (Nat×Bool)}{fh:Nat}{bG:Array Bool}{ls:List (Nat×List Nat)}(hi:ia dS i=some ⟨d,op,t',p,af,g⟩)
  (hE:∀w,EL ls i w w) (hg:Region.wanted ⟨d,op,t',p,af,g⟩ (yielded dS.toArray (fr n0 us0 l0).tmps)=false)
  (h:fE P md dS.toArray Q (EL ls) fh (bG.setIfInBounds i true) (fr n0 us0 (pl d undef l0)) w)
  (hb:(Region.noSelect dS.toArray&&Region.free md dS.toArray bG i&&(Region.ready md dS.toArray bG).contains i&&uI md dS.toArray bG&&rI md dS.toArray i [] []&&(([]:List Nat).all λk=>bG.getD k true))=true:=by kernel_rfl)
  (hQ:∀c a w,Q (.panic c) (Act.put a d undef) w->Q (.panic c) a w:=by exact λ_ _ _ h=>h):fE P md dS.toArray Q (EL ls) (fh+1) bG (fr n0 us0 l0) w:=
 Xi i [] [] (λ_=>True) hi hb hQ US (λw _=>hE w) trivial (Zf hg) h
end
end
end Go.Kt
namespace Go.Kt.V
open Go renaming World->av,Value->aw
open Go Go.RowKit Go.Kt
structure OV where
 v:aw
 one:v.oneCell'=true
inductive SV where
 | int (k:IntKind) (n:Int)
 | il (k:IntKind) (n:Int)
 | bl (b:Bool)
 | bt (t:Bool)
 | str (s:ByteArray)
 | np
 | ptr (p:Option Addr)
 | ad (a:Addr)
 | box (i o:Nat)
 | sl (s:Sl)
 | nsl
 | map (m:Option Nat)
 | raw (v:OV)
 | fn (f:FuncId) (fs cs:SV)
 | agg (l:SV)
 | tup (l:SV)
 | un
 | e
 | c (h t:SV)
def qK(β:Nat->Nat):SV->List aw
 | .int k n=>[.int k n]
 | .il k n=>[.int k n]
 | .bl b=>[.bool b]
 | .bt t=>[.bool t]
 | .str s=>[.string s]
 | .np=>[.pointer none]
 | .ptr p=>[.pointer p]
 | .ad a=>[.pointer (some a)]
 | .box i o=>[.pointer (some ⟨β i,o,none⟩)]
 | .sl s=>[s.v]
 | .nsl=>[Sl.v Sl.nil]
 | .map m=>[.map m]
 | .raw v=>[v.v]
 | .fn f fs cs=>[.func (.func f) (qK β fs).toArray (qK β cs).toArray]
 | .agg l=>[.agg (qK β l).toArray]
 | .tup l=>[.tuple (qK β l).toArray]
 | .un=>[undef]
 | .e=>[]
 | .c h t=>(qK β h).headD undef::qK β t
def val(β:Nat->Nat)(s:SV):aw:=(qK β s).headD undef
def cK(β:Nat->Nat)(l:List SV):List aw:=l.map (val β)
def nT:SV->List SV
 | .c h t=>h::nT t
 | _=>[]
def j7:List SV->SV
 | []=>.e
 | s::r=>.c s (j7 r)
def CB:SV->Bool
 | .c _ t=>CB t
 | .e=>true
 | _=>false
theorem rK β:∀l,qK β (j7 l)=cK β l
 | []=>rfl
 | s::r=>by simp only[j7,qK,rK β r];rfl
theorem nK β:∀{s:SV},CB s=true->qK β s=cK β (nT s)
 | .e,_=>rfl
 | .c h t,hl=>by simp only[qK,nT,nK β (s:=t) hl];rfl
def cln(g:Nat->Bool):SV->Bool
 | .box i _=>g i
 | .fn _ fs cs=>cln g fs&&cln g cs
 | .agg l=>cln g l
 | .tup l=>cln g l
 | .c h t=>cln g h&&cln g t
 | _=>true
def iM(g:Nat->Bool):List SV->Bool
 | []=>true
 | s::r=>cln g s&&iM g r
theorem mO{β β'}{g}(h:∀i,g i=true->β i=β' i):∀s,cln g s=true->qK β s=qK β' s
 | .int ..,_ | .il ..,_ | .bl ..,_ | .bt ..,_ | .str ..,_ | .np,_ | .ptr ..,_ | .ad ..,_ | .sl ..,_ | .nsl,_ | .map ..,_ | .raw ..,_ | .un,_ | .e,_=>rfl
 | .box i o,hc=>by simp[qK,h i hc]
 | .fn f fs cs,hc=>by
  simp[cln,aP]at hc;simp[qK,mO h fs hc.1,mO h cs hc.2]
 | .agg l,hc=>by simp[qK,mO h l hc]
 | .tup l,hc=>by simp[qK,mO h l hc]
 | .c s t,hc=>by
  simp[cln,aP]at hc;simp[qK,mO h s hc.1,mO h t hc.2]
theorem ju{β β'}{g}(h:∀i,g i=true->β i=β' i) s (hc:cln g s=true):val β s=val β' s:=by
 unfold val;rw[mO h s hc]
theorem iy{β β'}{g}(h:∀i,g i=true->β i=β' i):∀l,iM g l=true->cK β l=cK β' l
 | [],_=>rfl
 | s::r,hc=>by
  simp[iM,aP]at hc;have:=iy h r hc.2;simp only[cK,bK]at this⊢;rw[ju h s hc.1,this]
theorem fF β l:(cK β l).length=l.length:=by rw[cK,bN]
def PU:aw->Option SV
 | .int k n=>some (.il k n)
 | .bool b=>some (.bl b)
 | .string s=>some (.str s)
 | .pointer none=>some .np
 | .slice none 0 0=>some .nsl
 | .map m=>some (.map m)
 | v=>if h:v.oneCell'=true then some (.raw ⟨v,h⟩)else none
def CD:List aw->Option SV
 | []=>some .e
 | v::r=>match PU v,CD r with
  | some s,some l=>some (.c s l)
  | _,_=>none
def ofV:aw->Option SV
 | .agg cs=>(CD cs.toList).map .agg
 | .tuple cs=>(CD cs.toList).map .tup
 | .func (.func f) fs cs=>match CD fs.toList,CD cs.toList with
  | some a,some b=>some (.fn f a b)
  | _,_=>none
 | v=>PU v
theorem AK{v}{s}(h:PU v=some s) β:val β s=v:=by
 unfold PU at h;split at h
 all_goals first | (simp at h;subst h;rfl) | skip
 split at h
 ·simp at h;subst h;rfl
 cases h
theorem tB β:∀{l:List aw} {s:SV},CD l=some s->qK β s=l
 | [],s,h=>by simp[CD,bq]at h;subst h;rfl
 | v::r,s,h=>by
  simp[CD]at h;split at h
  ·rename_i s' l' h1 h2;simp at h;subst h;simp only[qK,tB β h2];rw[show(qK β s').headD undef=v from AK h1 β]
  cases h
theorem KR{v}{s}(h:ofV v=some s) β:val β s=v:=by
 unfold ofV at h;split at h
 ·rename_i cs;cases hl:CD cs.toList with
  | none=>rw[hl]at h;cases h
  | some l=>
   rw[hl]at h;simp at h;subst h;simp[val,qK,AA,tB β hl]
 ·rename_i cs;cases hl:CD cs.toList with
  | none=>rw[hl]at h;cases h
  | some l=>
   rw[hl]at h;simp at h;subst h;simp[val,qK,AA,tB β hl]
 ·split at h
  ·rename_i a b h1 h2;simp at h;subst h;simp[val,qK,AA,tB β h1,tB β h2]
  cases h
 exact AK h β
structure li where
 blk:Option Nat
 ty:TypeId
 cells:List SV
 stp:Nat
 ok:Bool
 esc:Bool
 sh:Bool
structure St where
 n:Nat
 fr:List (Nat×Nat×SV)
 bx:List li
 w0:av
 mv:Bool
 dt:List Nat
 ct:Nat
 df:List (Nat×List aw×List aw)
def Xj(l:List (Nat×List aw×List aw)):List Deferred:=l.map λd=>{target:=.fn (.func d.1) d.2.2.toArray,args:=d.2.1.toArray}
def frD(n:Nat)(us:Nat->aw)(l:List (Nat×aw))(D:List Deferred):Act:=⟨(UT us l n 0).toArray,D⟩
def dV:List (Nat×Nat×SV)->Nat->Option (Nat×SV)
 | [],_=>none
 | (k,s)::r,i=>bif Nat.beq k i then some s else dV r i
def St.get(st:St)(i:Nat):Option SV:=bif Nat.blt i st.n then(dV st.fr i).map (·.2)else none
def St.ev(st:St):Operand->Option SV
 | .tmp k=>st.get k
 | .const v=>ofV v
 | .global g=>some (.ad ⟨g,0,none⟩)
 | .func f=>some (.fn f .e .e)
def St.M0(st:St):List Operand->Option (List SV)
 | []=>some []
 | x::r=>match st.ev x,st.M0 r with
  | some v,some vs=>some (v::vs)
  | _,_=>none
def St.Uf(st:St):List (Nat×Operand)->Option (List (Nat×SV))
 | []=>some []
 | (i,x)::r=>match st.ev x,st.Uf r with
  | some v,some vs=>some ((i,v)::vs)
  | _,_=>none
def St.put(st:St)(d:Option Tmp)(v:SV):St:=match d with
 | some k=>{st with fr:=(k,st.ct,v)::st.fr,ct:=st.ct+1}
 | none=>st
def cZ:List li->Nat->Option li
 | [],_=>none
 | b::_,0=>some b
 | _::r,n+1=>cZ r n
def NB:List li->Nat->li->List li
 | [],_,_=>[]
 | _::r,0,b=>b::r
 | a::r,n+1,b=>a::NB r n b
def cv(β:Nat->Nat)(l:List (Nat×Nat×SV)):List (Nat×aw):=l.map λp=>(p.1,val β p.2.2)
theorem lW β:∀l i,yY (cv β l) i=(dV l i).map λp=>val β p.2
 | [],_=>rfl
 | (k,s)::r,i=>by
  simp[cv,bK,yY,dV];cases Nat.beq k i with
  | true=>rfl
  | false=>exact lW β r i
structure ahi (β:Nat->Nat) (w0 w:av) (i:Nat) (b:li):Prop where
 blk:Blk w (β i) b.ty (cK β b.cells)
 at_:∀k,b.blk=some k->β i=k
 new:b.blk=none->w0.heap.size<=β i
structure Rep (β:Nat->Nat) (st:St) (a:Act) (w:av):Prop where
 fr:∃us,a=frD st.n us (cv β st.fr) (Xj st.df)
 bx:∀i b,cZ st.bx i=some b->b.ok=true->ahi β st.w0 w i b
 ne:∀i j bi bj,cZ st.bx i=some bi->cZ st.bx j=some bj->bi.ok=true->bj.ok=true->i≠j->β i≠β j
 only:Only (st.dt.map β) st.w0 w
 still:st.mv=false->w=st.w0
structure Ext (s t:St):Prop where
 n:t.n=s.n
 ct:s.ct<=t.ct
 fr:∀i k v,dV t.fr i=some (k,v)->k<s.ct->dV s.fr i=some (k,v)
 bx:∀i b',cZ t.bx i=some b'->b'.ok=true->b'.stp<s.ct->∃b,cZ s.bx i=some b/\b.ok=true/\b.cells=b'.cells/\b.ty=b'.ty/\b.stp=b'.stp/\(∀k,b.blk=some k->b'.blk=some k)
 ps:∀i b,cZ s.bx i=some b->∃b',cZ t.bx i=some b'/\b'.ty=b.ty/\b'.ok=b.ok/\∀k,b.blk=some k->b'.blk=some k
 df:∃l,t.df=l++s.df
theorem FX{s:St}:∃l,s.df=l++s.df:=⟨[],rfl⟩
theorem PV{l}:∀i b,cZ l i=some b->∃b',cZ l i=some b'/\b'.ty=b.ty/\b'.ok=b.ok/\∀k,b.blk=some k->b'.blk=some k:=λi b h=>⟨b,h,rfl,rfl,λ_ h=>h⟩
theorem Ext.refl s:Ext s s:=⟨rfl,aY _,λ_ _ _ h _=>h,λi b h ho _=>⟨b,h,ho,rfl,rfl,rfl,λ_ h=>h⟩,PV,FX⟩
theorem Ext.trans{s t u}(h:Ext s t)(k:Ext t u):Ext s u:=
 ⟨k.n.trans h.n,bB h.ct k.ct,λi m v hl bT=>h.fr i m v (k.fr i m v hl (cJ bT h.ct)) bT,λi b'' hb ho hs=>by
  obtain⟨b',k1,k2,k3,k4,k6,k5⟩:=k.bx i b'' hb ho (cJ hs h.ct);obtain⟨b,h1,h2,h3,h4,h6,h5⟩:=h.bx i b' k1 k2 (by rw[k6];exact hs);exact⟨b,h1,h2,h3.trans k3,h4.trans k4,h6.trans k6,λm hm=>k5 m (h5 m hm)⟩,λi b hb=>by
  obtain⟨b',h1,h2,h3,h4⟩:=h.ps i b hb;obtain⟨b'',k1,k2,k3,k4⟩:=k.ps i b' h1;exact⟨b'',k1,k2.trans h2,k3.trans h3,λm hm=>k4 m (h4 m hm)⟩,by
  obtain⟨l,h1⟩:=h.df;obtain⟨m,k1⟩:=k.df;exact⟨m++l,by rw[k1,h1,bf]⟩⟩
section
variable {β:Nat->Nat} {st:St} {a:Act} {w:av}
theorem Rep.get(h:Rep β st a w){i}{s}(hg:st.get i=some s):a.eval (.tmp i)=val β s:=by
 obtain⟨us,rfl⟩:=h.fr;show(Kt.fr st.n us _).eval (.tmp i)=_;refine evE (n0:=st.n) (us0:=us) ?_;unfold St.get at hg;cases hb:Nat.blt i st.n with
 | false=>rw[hb]at hg;cases hg
 | true=>
  rw[hb,oY]at hg;simp only[evO,hb,oY,lW];cases hl:dV st.fr i with
  | none=>rw[hl]at hg;cases hg
  | some p=>
   rw[hl]at hg;simp at hg;rw[gp,hg]
theorem Rep.ev(h:Rep β st a w){x}{s}(hg:st.ev x=some s):a.eval x=val β s:=by
 cases x with
 | tmp k=>exact h.get hg
 | const v=>rw[KR hg];rfl
 | global g=>
  simp[St.ev,bq]at hg;subst hg;rfl
 | func f=>
  simp[St.ev,bq]at hg;subst hg;rfl
theorem Rep.M0(h:Rep β st a w):∀{xs:List Operand} {l:List SV},st.M0 xs=some l->xs.map a.eval=cK β l
 | [],l,hg=>by simp[St.M0,bq]at hg;subst hg;rfl
 | x::r,l,hg=>by
  simp[St.M0]at hg;split at hg
  ·rename_i v vs hx hr;simp at hg;subst hg;rw[bK,h.ev hx,h.M0 hr];rfl
  cases hg
def C5(β:Nat->Nat)(l:List (Nat×SV)):List (Nat×aw):=l.map λp=>(p.1,val β p.2)
theorem Rep.Uf(h:Rep β st a w):∀{xs:List _} {l:List _},st.Uf xs=some l->(xs.map λq=>(q.1,a.eval q.2))=C5 β l
 | [],l,hg=>by simp[St.Uf,bq]at hg;subst hg;rfl
 | _::r,l,hg=>by
  simp[St.Uf]at hg;split at hg
  ·rename_i v vs hx hr;simp at hg;subst hg;rw[bK,h.Uf hr,h.ev hx];rfl
  cases hg
theorem St.evO{st:St} β {x} {s} (hg:st.ev x=some s):Kt.evO st.n (cv β st.fr) x=some (val β s):=by
 cases x with
 | tmp i=>
  have hg:st.get i=some s:=hg;unfold St.get at hg;cases hb:Nat.blt i st.n with
  | false=>rw[hb]at hg;cases hg
  | true=>
   rw[hb,oY]at hg;simp only[Kt.evO,hb,oY,lW];cases hl:dV st.fr i with
   | none=>rw[hl]at hg;cases hg
   | some p=>
    rw[hl]at hg;simp at hg;rw[gp,hg]
 | const v=>rw[KR hg];rfl
 | global g=>
  simp[St.ev,bq]at hg;subst hg;rfl
 | func f=>
  simp[St.ev,bq]at hg;subst hg;rfl
theorem Rep.put(h:Rep β st a w) d v:Rep β (st.put d v) (a.put d (val β v)) w:=by
 cases d with
 | none=>exact h
 | some k=>
  obtain⟨us,rfl⟩:=h.fr;exact⟨⟨us,bO (λa:Act=>(⟨a.tmps,Xj st.df⟩:Act)) (aed (n0:=st.n) (us0:=us) (l0:=cv β st.fr) (k:=k) (v:=val β v))⟩,h.bx,h.ne,h.only,h.still⟩
theorem Ext.put st d v:Ext st (st.put d v):=by
 cases d with
 | none=>exact Ext.refl _
 | some k=>
  refine⟨rfl,jr _,λi m u hl bT=>?_,λi b h ho _=>⟨b,h,ho,rfl,rfl,rfl,λ_ h=>h⟩,PV,FX⟩;simp[St.put,dV]at hl;cases hb:Nat.beq k i with
  | true=>
   rw[hb]at hl;simp at hl;omega
  | false=>rw[hb]at hl;simpa using hl
theorem Rep.frame(h:Rep β st a w){fr'}(hs:∀i p,dV fr' i=some p->∃q,dV st.fr i=some q/\val β q.2=val β p.2):Rep β {st with fr:=fr'} a w:=by
 obtain⟨us,rfl⟩:=h.fr;refine⟨?_,h.bx,h.ne,h.only,h.still⟩;refine⟨λi=>vp us (cv β st.fr) i,?_⟩;unfold frD;congr 2;apply lU;intro i;by_cases hi:i<st.n
 ·rw[nJ _ _ _ _ _ hi,nJ _ _ _ _ _ hi,bM];cases hl:dV fr' i with
  | none=>
   rw[D9 (l:=cv β fr') adw]
  | some p=>
   obtain⟨q,h1,h2⟩:=hs i p hl;rw[uJ (l:=cv β fr') (v:=val β p.2) adw,uJ (l:=cv β st.fr) (v:=val β p.2) (by rw[lW,h1,gp,h2])]
 rw[di (by rw[oH];exact yU hi),di (by rw[oH];exact yU hi)]
end
def ch{α:Type}(o:Option α)(K:α->Prop):Prop:=match o with
 | some v=>K v
 | none=>False
theorem bC{α}{o:Option α}{K}(h:ch o K):∃v,o=some v/\K v:=by
 cases o with
 | none=>exact h.elim
 | some v=>exact⟨v,rfl,h⟩
def gi:List (Bool×Bool)->Prop->Prop
 | [],p=>p
 | (t,b)::r,p=>t=b->gi r p
def gh:List (Bool×Bool)->Prop
 | []=>True
 | (t,b)::r=>t=b/\gh r
theorem iz:∀{gs:List _} {p:Prop},gi gs p->gh gs->p
 | [],_,h,_=>h
 | _::r,p,h,k=>iz (gs:=r) (h k.1) k.2
inductive Lf where
 | int (k:IntKind)
 | bool
 | str
 | ptr
 | sl
 | map
 | raw
def Lf.T:Lf->Type
 | .int _=>Int
 | .bool=>Bool
 | .str=>ByteArray
 | .ptr=>Option Addr
 | .sl=>Sl
 | .map=>Option Nat
 | .raw=>OV
def Lf.sv:(l:Lf)->l.T->SV
 | .int k,x=>.int k x
 | .bool,x=>.bt x
 | .str,x=>.str x
 | .ptr,x=>.ptr x
 | .sl,x=>.sl x
 | .map,x=>.map x
 | .raw,x=>.raw x
theorem Lf.cln g (l:Lf) x:V.cln g (l.sv x)=true:=by cases l<;>rfl
def UU:List Lf->(List SV->Prop)->Prop
 | [],K=>K []
 | l::r,K=>∃x,UU r λvs=>K (l.sv x::vs)
theorem tC:∀{ls:List Lf} {K:List SV->Prop},UU ls K->∃vs,K vs/\vs.length=ls.length/\∀g,iM g vs=true
 | [],K,h=>⟨[],h,rfl,λ_=>rfl⟩
 | l::r,K,h=>by
  obtain⟨x,h⟩:=h;obtain⟨vs,h1,h2,h3⟩:=tC (ls:=r) h;exact⟨_,h1,by simp[h2],λg=>by simp[iM,Lf.cln,h3 g,da]⟩
def akj:TypeDesc->Lf
 | .int k=>.int k
 | .bool=>.bool
 | .string=>.str
 | .pointer _=>.ptr
 | .slice _=>.sl
 | .map _ _=>.map
 | _=>.raw
def rep{α:Type}:Nat->List α->List α
 | 0,_=>[]
 | n+1,l=>l++rep n l
def flat{α β:Type}(f:α->List β):List α->List β
 | []=>[]
 | x::r=>f x++flat f r
def PW(P:Program):Nat->TypeId->List Lf
 | 0,_=>[]
 | n+1,t=>match P.underlying t with
  | some (.struct fs)=>flat (λf:Field=>PW P n f.type) fs.toList
  | some (.array len e)=>rep len (PW P n e)
  | some d=>[akj d]
  | none=>[]
def mP:TypeDesc->Bool
 | .struct _=>true
 | .array _ _=>true
 | _=>false
def ND(ag:Bool)(l:List SV):SV:=bif ag then .agg (j7 l)else l.headD .un
def β0:Nat->Nat:=λ_=>0
def qL:SV->Option (IntKind×Int)
 | .int k n=>some (k,n)
 | .il k n=>some (k,n)
 | _=>none
theorem dr{s}{k}{n}(h:qL s=some (k,n)) β:val β s=.int k n:=by
 cases s<;>simp[qL,bq,fx,reduceCtorEq]at h
 all_goals obtain⟨rfl,rfl⟩:=h;rfl
def AM:SV->Option Bool
 | .bl b=>some b
 | .bt b=>some b
 | _=>none
theorem mQ{s}{b}(h:AM s=some b) β:val β s=.bool b:=by
 cases s<;>simp[AM,bq,reduceCtorEq]at h
 all_goals subst h;rfl
def wb:SV->Option ByteArray
 | .str s=>some s
 | _=>none
theorem iO{s}{b}(h:wb s=some b) β:val β s=.string b:=by
 cases s<;>simp[wb,bq,reduceCtorEq]at h
 all_goals subst h;rfl
def KS:SV->Option Sl
 | .sl s=>some s
 | .nsl=>some Sl.nil
 | _=>none
theorem kH{s}{b}(h:KS s=some b) β:val β s=b.v:=by
 cases s<;>simp[KS,bq,reduceCtorEq]at h
 all_goals subst h;rfl
def ib(op:BinOp)(k:IntKind)(m n:Int):Option SV:=match op with
 | .add=>some (.int k (k.wrap (m+n)))
 | .sub=>some (.int k (k.wrap (m-n)))
 | .mul=>some (.int k (k.wrap (m*n)))
 | .eql=>some (.bt (m==n))
 | .neq=>some (.bt (m !=n))
 | .lss=>some (.bt (decide (m<n)))
 | .leq=>some (.bt (decide (m<=n)))
 | .gtr=>some (.bt (decide (m>n)))
 | .geq=>some (.bt (decide (m>=n)))
 | .and=>some (.int k (bits .and k m n))
 | .or=>some (.int k (bits .or k m n))
 | .xor=>some (.int k (bits .xor k m n))
 | .andNot=>some (.int k (bits .andNot k m n))
 | _=>none
def sb(op:BinOp)(s u:ByteArray):Option SV:=match op with
 | .eql=>some (.bt (s.toList==u.toList))
 | .neq=>some (.bt (!(s.toList==u.toList)))
 | .lss=>some (.bt (Op.bytesLess s.toList u.toList))
 | .geq=>some (.bt (!(Op.bytesLess s.toList u.toList)))
 | .leq=>some (.bt (Op.bytesLess s.toList u.toList||(s.toList==u.toList)))
 | .gtr=>some (.bt (!(Op.bytesLess s.toList u.toList||(s.toList==u.toList))))
 | _=>none
def nz(gs:List (Bool×Bool))(b:SV)(n:Int)(K:Prop):Prop:=match b with
 | .il _ _=>bif n==0 then False else K
 | _=>gi gs (n≠0)/\K
def ge0(gs:List (Bool×Bool))(b:SV)(n:Int)(K:Prop):Prop:=match b with
 | .il _ _=>bif decide (0<=n)then K else False
 | _=>gi gs (0<=n)/\K
def opn:SV->Option (Option Addr)
 | .np=>some none
 | .ptr p=>some p
 | .ad a=>some (some a)
 | _=>none
theorem UW{s}{p}(h:opn s=some p) β:val β s=.pointer p:=by
 cases s<;>simp[opn,bq,reduceCtorEq]at h
 all_goals subst h;rfl
def pn(op:BinOp)(a:SV):Option SV:=match op,a with
 | .eql,.ptr p=>some (.bt p.isNone)
 | .neq,.ptr p=>some (.bt (!p.isNone))
 | .eql,.ad _=>some (.bl false)
 | .neq,.ad _=>some (.bl true)
 | .eql,.box _ _=>some (.bl false)
 | .neq,.box _ _=>some (.bl true)
 | .eql,.np=>some (.bl true)
 | .neq,.np=>some (.bl false)
 | _,_=>none
def sn(op:BinOp)(s:Sl):Option SV:=match op with
 | .eql=>some (.bt s.a.isNone)
 | .neq=>some (.bt (!s.a.isNone))
 | _=>none
def PX:SV->Bool
 | .np=>true
 | _=>false
def Gs:SV->Bool
 | .nsl=>true
 | _=>false
def eq1(P:Program)(t:TypeId)(x y:SV):Option Bool:=match P.underlying t with
 | some (.int _)=>(match qL x,qL y with
  | some (k,m),some (k',n)=>bif decide (k=k')then some (m==n)else none
  | _,_=>none)
 | some .string=>(match wb x,wb y with
  | some s,some u=>some (s==u)
  | _,_=>none)
 | some .bool=>(match AM x,AM y with
  | some s,some u=>some (s==u)
  | _,_=>none)
 | _=>none
def Gu(P:Program)(xs ys:List SV):List Field->Option Bool
 | []=>some true
 | f::r=>bif f.name== "_" then none else match xs[f.offset]?,ys[f.offset]? with
  | some x,some y=>(match eq1 P f.type x y,Gu P xs ys r,r with
   | some b,some _,[]=>some b
   | some b,some c,_=>some (b&&c)
   | _,_,_=>none)
  | _,_=>none
def Zg(P:Program)(t:TypeId)(fs:Array Field)(a b:SV):Option Bool:=match a,b with
 | .agg l,.agg m=>bif CB l&&CB m&&!P.stoodInHeld t&&!P.eqGuardType P.depth t then Gu P (nT l) (nT m) fs.toList else none
 | _,_=>none
def Zh(op:BinOp)(b:Bool):Option SV:=match op with
 | .eql=>some (.bt b)
 | .neq=>some (.bt (!b))
 | _=>none
def mn(op:BinOp)(a b:SV):Option SV:=match op,a,b with
 | .eql,.map m,.map none=>some (.bt m.isNone)
 | .neq,.map m,.map none=>some (.bt (!m.isNone))
 | _,_,_=>none
def Zj(P:Program)(gs:List (Bool×Bool))(op:BinOp)(t:TypeId)(a b:SV)(K:SV->Prop):Prop:=
 match qL a,qL b with
 | some (k,m),some (k',n)=>(match op with
  | .shl=>ge0 gs b n (K (.int k (k.wrap (m*2 ^ (min n.toNat k.bits)))))
  | .shr=>ge0 gs b n (K (.int k (m.fdiv (2 ^ (min n.toNat k.bits)))))
  | .quo=>bif decide (k=k')then nz gs b n (K (.int k (k.wrap (m.tdiv n))))else False
  | .rem=>bif decide (k=k')then nz gs b n (K (.int k (m.tmod n)))else False
  | _=>bif decide (k=k')then ch (ib op k m n) K else False)
 | _,_=>match wb a,wb b with
  | some s,some u=>(match op with
   | .add=>gi gs ((s.size:Int)+u.size<=9223372036854775807)/\K (.str (s++u))
   | _=>ch (sb op s u) K)
  | _,_=>match AM a,AM b,P.underlying t with
   | some s,some u,some .bool=>(match op with
    | .eql=>K (.bt (s==u))
    | .neq=>K (.bt (!(s==u)))
    | _=>False)
   | _,_,_=>match P.underlying t with
    | some (.pointer _)=>bif PX b then ch (pn op a) K else bif PX a then ch (pn op b) K else False
    | some (.slice _)=>bif Gs b then ch ((KS a).bind (sn op)) K else bif Gs a then ch ((KS b).bind (sn op)) K else False
    | some (.struct fs)=>ch (Zg P t fs a b) λr=>ch (Zh op r) K
    | some (.map _ _)=>ch (mn op a b) K
    | _=>False
section
variable {P:Program} {gs:List (Bool×Bool)} {K:SV->Prop}
theorem Xk{b}{k}{n}{K}(hb:qL b=some (k,n))(h:nz gs b n K):K/\(gh gs->n≠0):=by
 unfold nz at h;split at h
 ·cases hn:(n==0)with
  | true=>rw[hn]at h;exact h.elim
  | false=>rw[hn]at h;exact⟨h,λ_=>acM⟩
 exact⟨h.2,λg=>iz h.1 g⟩
theorem PY{b}{n}{K}(h:ge0 gs b n K):K/\(gh gs->0<=n):=by
 unfold ge0 at h;split at h
 ·by_cases hn:0<=n
  ·rw[bE hn]at h;exact⟨h,λ_=>hn⟩
  rw[bA hn]at h;exact h.elim
 exact⟨h.2,λg=>iz h.1 g⟩
theorem dB{b}{p}(h:bif b then p else False):b=true/\p:=by
 cases b with
 | true=>exact⟨rfl,h⟩
 | false=>exact h.elim
def nL(P:Program)(op:BinOp)(t:TypeId)(a b v:SV):Prop:=
 ∀β (act:Act) x y dst ty t' p af g w,act.eval x=val β a->act.eval y=val β b->
  (execOp act.eval ⟨dst,.binOp op t x y ty,t',p,af,g⟩).run P w=.ok (.value (val β v)) w
theorem aee{op}{t}{a b v}{k}{m n}(ha:qL a=some (k,m))(hb:qL b=some (k,n))(h:ib op k m n=some v):nL P op t a b v:=by
 intro β act x y dst ty t' p af g w hx hy;rw[dr ha]at hx;rw[dr hb]at hy;cases op<;>simp[ib,bq,reduceCtorEq]at h
 all_goals subst h;simp[execOp,hx,hy];cases k<;>rfl
theorem aef{op}{t}{a b v}{s u}(ha:wb a=some s)(hb:wb b=some u)(h:sb op s u=some v):nL P op t a b v:=by
 intro β act x y dst ty t' p af g w hx hy;rw[iO ha]at hx;rw[iO hb]at hy;cases op<;>simp only[sb,bq,reduceCtorEq]at h
 all_goals subst h;simp only[execOp,hx,hy];rfl
theorem Xl{op}{t e}{a b v}(hu:P.underlying t=some (.pointer e))(hb:PX b=true)(h:pn op a=some v):nL P op t a b v/\nL P op t b a v:=by
 have hbv:∀β,val β b=.pointer none:=λβ=>by
  unfold PX at hb;split at hb
  ·rfl
  cases hb
 have key:∀β,∃(q:Option Addr) (r:Bool),val β a=.pointer q/\val β v=.bool r/\((op=.eql/\q.isNone=r)∨(op=.neq/\(!q.isNone)=r)):=by
  intro β;unfold pn at h;split at h<;>simp only[bq,reduceCtorEq]at h<;>subst h
  ·exact⟨_,_,rfl,rfl,.inl ⟨rfl,rfl⟩⟩
  ·exact⟨_,_,rfl,rfl,.inr ⟨rfl,rfl⟩⟩
  ·exact⟨_,_,rfl,rfl,.inl ⟨rfl,rfl⟩⟩
  ·exact⟨_,_,rfl,rfl,.inr ⟨rfl,rfl⟩⟩
  ·exact⟨_,_,rfl,rfl,.inl ⟨rfl,rfl⟩⟩
  ·exact⟨_,_,rfl,rfl,.inr ⟨rfl,rfl⟩⟩
  ·exact⟨_,_,rfl,rfl,.inl ⟨rfl,rfl⟩⟩
  exact⟨_,_,rfl,rfl,.inr ⟨rfl,rfl⟩⟩
 constructor
 ·intro β act x y dst ty t' p af g w hx hy;obtain⟨q,r,h1,h2,h3⟩:=key β;rw[h1]at hx;rw[hbv]at hy;rw[h2];rcases h3 with⟨rfl,h3⟩ | ⟨rfl,h3⟩
  ·exact D3 (run_underlying hu w) hx hy h3
  exact D5 (run_underlying hu w) hx hy h3
 intro β act x y dst ty t' p af g w hx hy;obtain⟨q,r,h1,h2,h3⟩:=key β;rw[h1]at hy;rw[hbv]at hx;rw[h2];rcases h3 with⟨rfl,h3⟩ | ⟨rfl,h3⟩
 ·exact D4 (run_underlying hu w) hx hy h3
 exact D6 (run_underlying hu w) hx hy h3
theorem Xm{op}{t e}{a b v}(hu:P.underlying t=some (.slice e))(hb:Gs b=true)(h:(KS a).bind (sn op)=some v):nL P op t a b v/\nL P op t b a v:=by
 have hbv:∀β,val β b=.slice none 0 0:=λβ=>by
  unfold Gs at hb;split at hb
  ·rfl
  cases hb
 cases hs:KS a with
 | none=>rw[hs]at h;cases h
 | some s=>
  rw[hs]at h;simp at h;constructor
  ·intro β act x y dst ty t' p af g w hx hy;rw[kH hs]at hx;rw[hbv]at hy;cases op<;>simp only[sn,bq,reduceCtorEq]at h<;>subst h
   ·exact Gd (run_underlying hu w) hx hy
   exact Gh (run_underlying hu w) hx hy
  intro β act x y dst ty t' p af g w hx hy;rw[kH hs]at hy;rw[hbv]at hx;cases op<;>simp only[sn,bq,reduceCtorEq]at h<;>subst h
  ·exact Gf (run_underlying hu w) hx hy
  exact Gi (run_underlying hu w) hx hy
theorem aeg{op:BinOp}{t k e:TypeId}{a b v}(hu:P.underlying t=some (.map k e))(h:mn op a b=some v):nL P op t a b v:=by
 intro β act x y dst ty t' p af g w hx hy;unfold mn at h;split at h<;>simp only[bq,reduceCtorEq]at h<;>subst h
 all_goals
  rename_i m;change act.eval x=.map m at hx;change act.eval y=.map none at hy;have hE:∀d,(Op.equalIn (d+1) t (.map m) (.map none)).run P w=.ok m.isNone w:=λd=>by
   unfold Op.equalIn;cases m<;>simp[Sem.run_bind,run_underlying hu w,Result.andThen_ok]<;>rfl
 ·have hB:binOp .eql t (.map m) (.map none)=(do pure (.bool ((<-Op.equal t (.map m) (.map none))))):=by cases m<;>rfl
  have hG:eqGuard .eql t x y (.map m) (.map none)=pure _:=rfl;simp[execOp,hx,hy,hG,hB,Op.equal,Op.maxDepth,Sem.run_bind,Sem.run_pure,Result.andThen_ok,hE 9999];rfl
 have hB:binOp .neq t (.map m) (.map none)=(do pure (.bool (!(<-Op.equal t (.map m) (.map none))))):=by cases m<;>rfl
 have hG:eqGuard .neq t x y (.map m) (.map none)=pure _:=rfl;simp[execOp,hx,hy,hG,hB,Op.equal,Op.maxDepth,Sem.run_bind,Sem.run_pure,Result.andThen_ok,hE 9999];rfl
theorem UX{t}{x y}{b}(h:eq1 P t x y=some b) β d w:P.plainKey t=true/\(Op.equalIn (d+1) t (val β x) (val β y)).run P w=.ok b w:=by
 unfold eq1 at h;split at h
 ·rename_i k hu;refine⟨adk,?_⟩;split at h
  ·rename_i k1 m k2 n hx hy;cases hk:decide (k1=k2)with
   | false=>rw[hk]at h;cases h
   | true=>
    rw[hk]at h;injection h with h;subst h;have hk:=aR hk;subst hk;rw[dr hx,dr hy];simp[Op.equalIn,run_underlying hu]
  cases h
 ·rename_i hu;refine⟨adk,?_⟩;split at h
  ·rename_i s u hx hy;injection h with h;subst h;rw[iO hx,iO hy];simp[Op.equalIn,run_underlying hu]
  cases h
 ·rename_i hu;refine⟨adk,?_⟩;split at h
  ·rename_i s u hx hy;injection h with h;subst h;rw[mQ hx,mQ hy];simp[Op.equalIn,run_underlying hu]
  cases h
 cases h
theorem Gv{xs ys} β d w:∀{fs:List Field} {b:Bool},Gu P xs ys fs=some b->(Op.eqFields (d+1) (cK β xs).toArray (cK β ys).toArray fs).run P w=.ok b w
 | [],b,h=>by
  simp[Gu,bq]at h;subst h;simp[Op.eqFields]
 | f::r,b,h=>by
  unfold Gu at h;cases hn:(f.name== "_")with
  | true=>rw[hn]at h;cases h
  | false=>
   rw[hn,vM]at h;split at h
   ·rename_i x y hx hy;have px:(cK β xs).toArray[f.offset]? =some (val β x):=by simp[cK,hx]
    have py:(cK β ys).toArray[f.offset]? =some (val β y):=by simp[cK,hy]
    have go:∀{b1 c:Bool},eq1 P f.type x y=some b1->Gu P xs ys r=some c->(Op.eqFields (d+1) (cK β xs).toArray (cK β ys).toArray (f::r)).run P w=.ok (b1&&c) w:=fun{b1 c} h1 h2=>by
     obtain⟨k1,k2⟩:=UX h1 β d w;simp only[Op.eqFields,by simpa using hn,ne_eq,not_false_eq_true,wH,Sem.run_bind,run_part_plain w k1 px,run_part_plain w k1 py,k2,Result.andThen_ok];cases b1
     ·simp
     simpa using Gv β d w h2
    split at h
    ·rename_i b1 c h1 h2;injection h with h;subst h;have:=go h1 h2;simp[Gu,bq]at h2;subst h2;rwa[da]at this
    ·rename_i b1 c h1 _ h2;injection h with h;subst h;exact go h1 h2
    cases h
   cases h
theorem UY{op}{t}{fs}{a b v}{r}(hu:P.underlying t=some (.struct fs))(h:Zg P t fs a b=some r)(hv:Zh op r=some v):nL P op t a b v:=by
 unfold Zg at h;split at h
 ·rename_i l m;obtain⟨h0,h⟩:(CB l&&CB m&&!P.stoodInHeld t&&!P.eqGuardType P.depth t)=true/\Gu P _ _ fs.toList=some r:=by
   cases hc:(CB l&&CB m&&!P.stoodInHeld t&&!P.eqGuardType P.depth t)with
   | true=>rw[hc]at h;exact⟨rfl,h⟩
   | false=>rw[hc]at h;cases h
  simp at h0;obtain⟨⟨⟨h1,h2⟩,h3⟩,h4⟩:=h0;intro β act x y dst ty t' p af g w hx hy;have ea:∀{l:SV},CB l=true->val β (.agg l)=.agg (cK β _).toArray:=λhl=>by
   show Value.agg (qK β _).toArray=_;rw[nK β hl]
  rw[ea h1]at hx;rw[ea h2]at hy;have hfs:P.fieldsOf t=fs:=by simp[Program.fieldsOf,hu]
  have hE:(Op.equalIn 10000 t (.agg (cK β (nT l)).toArray) (.agg (cK β (nT m)).toArray)).run P w=.ok r w:=by
   rw[show 10000=9999+1 from rfl,run_equalIn_struct w 9999 t _ _ (by rw[hfs];exact hu) h3,hfs];exact Gv β 9998 w h
  have hG:∀op,(eqGuard op t x y (.agg (cK β (nT l)).toArray) (.agg (cK β (nT m)).toArray)).run P w=.ok () w:=λop=>by
   unfold eqGuard;cases op<;>simp[run_program,h4]
  unfold Zh at hv;split at hv
  ·injection hv with hv;subst hv;have hB:binOp .eql t (.agg (cK β (nT l)).toArray) _=(do pure (.bool (<-Op.equal t _ (.agg (cK β (nT m)).toArray)))):=rfl;simp[execOp,hx,hy,hB,Op.equal,Op.maxDepth,Sem.run_bind,Sem.run_pure,Result.andThen_ok,hE,hG];rfl
  ·injection hv with hv;subst hv;have hB:binOp .neq t (.agg (cK β (nT l)).toArray) _=(do pure (.bool (!(<-Op.equal t _ (.agg (cK β (nT m)).toArray))))):=rfl;simp[execOp,hx,hy,hB,Op.equal,Op.maxDepth,Sem.run_bind,Sem.run_pure,Result.andThen_ok,hE,hG];rfl
  cases hv
 cases h
theorem UZ{op}{t}{a b}(h:Zj P gs op t a b K):∃v,K v/\(gh gs->nL P op t a b v):=by
 unfold Zj at h;split at h
 ·rename_i k m k' n ha hb;have gen:∀{K:SV->Prop},(bif decide (k=k')then ch _ K else False)->∃v,K v/\(gh gs->nL P op t a b v):=λh=>by
   obtain⟨fO,h1⟩:=dB h;have hk:=aR fO;subst hk;obtain⟨v,hv,hK⟩:=bC h1;exact⟨v,hK,λ_=>aee ha hb hv⟩
  split at h
  ·obtain⟨h,hn⟩:=PY h;exact⟨_,h,λg β act x y dst ty t' p af gg w hx hy=>adZ (by rw[hx,dr ha]) (by rw[hy,dr hb]) (hn g)⟩
  ·obtain⟨h,hn⟩:=PY h;exact⟨_,h,λg β act x y dst ty t' p af gg w hx hy=>ad0 (by rw[hx,dr ha]) (by rw[hy,dr hb]) (hn g)⟩
  ·obtain⟨fO,h1⟩:=dB h;have hk:=aR fO;subst hk;obtain⟨h2,hn⟩:=Xk hb h1;exact⟨_,h2,λg β act x y dst ty t' p af gg w hx hy=>adX (by rw[hx,dr ha]) (by rw[hy,dr hb]) (hn g)⟩
  ·obtain⟨fO,h1⟩:=dB h;have hk:=aR fO;subst hk;obtain⟨h2,hn⟩:=Xk hb h1;exact⟨_,h2,λg β act x y dst ty t' p af gg w hx hy=>adY (by rw[hx,dr ha]) (by rw[hy,dr hb]) (hn g)⟩
  exact gen h
 split at h
 ·rename_i s u ha hb;split at h
  ·exact⟨_,h.2,λg β act x y dst ty t' p af gg w hx hy=>PL (by rw[hx,iO ha]) (by rw[hy,iO hb]) (iz h.1 g)⟩
  obtain⟨v,hv,hK⟩:=bC h;exact⟨v,hK,λ_=>aef ha hb hv⟩
 split at h
 ·rename_i s u ha hb hu;split at h
  ·exact⟨_,h,λg β act x y dst ty t' p af gg w hx hy=>Nv hu (by rw[hx,mQ ha]) (by rw[hy,mQ hb])⟩
  ·exact⟨_,h,λg β act x y dst ty t' p af gg w hx hy=>Nw hu (by rw[hx,mQ ha]) (by rw[hy,mQ hb])⟩
  exact h.elim
 split at h
 ·rename_i e hu;cases hb:PX b with
  | true=>
   rw[hb]at h;obtain⟨v,hv,hK⟩:=bC h;exact⟨v,hK,λ_=>(Xl hu hb hv).1⟩
  | false=>
   rw[hb]at h;obtain⟨ha,h⟩:=dB h;obtain⟨v,hv,hK⟩:=bC h;exact⟨v,hK,λ_=>(Xl hu ha hv).2⟩
 ·rename_i e hu;cases hb:Gs b with
  | true=>
   rw[hb]at h;obtain⟨v,hv,hK⟩:=bC h;exact⟨v,hK,λ_=>(Xm hu hb hv).1⟩
  | false=>
   rw[hb]at h;obtain⟨ha,h⟩:=dB h;obtain⟨v,hv,hK⟩:=bC h;exact⟨v,hK,λ_=>(Xm hu ha hv).2⟩
 ·rename_i fs hu;obtain⟨r,hr,h⟩:=bC h;obtain⟨v,hv,hK⟩:=bC h;exact⟨v,hK,λ_=>UY hu hr hv⟩
 ·rename_i kk ee hu;obtain⟨v,hv,hK⟩:=bC h;exact⟨v,hK,λ_=>aeg hu hv⟩
 exact h.elim
end
def U0:SV->Bool
 | .agg _=>false
 | .tup _=>false
 | .un=>false
 | .e=>false
 | .c _ _=>false
 | _=>true
def KT:List SV->Bool
 | []=>true
 | s::r=>U0 s&&KT r
theorem Gw{s}(h:U0 s=true) β:(val β s).oneCell'=true/\(val β s).cells=#[val β s]:=by
 cases s with
 | raw v=>
  have e:val β (.raw v)=v.v:=rfl;refine⟨v.one,?_⟩;obtain⟨v,hv⟩:=v;cases v<;>first | rfl | (simp[Value.oneCell']at hv)
 | _=>first | exact⟨rfl,rfl⟩ | (simp[U0]at h)
theorem C6:∀{l:List SV},KT l=true->∀β,(cK β l).all Value.oneCell'=true
 | [],_,_=>rfl
 | s::r,h,β=>by
  simp[KT,aP]at h;simp only[cK,bK,kl,aP];exact⟨(Gw h.1 β).1,C6 h.2 β⟩
def AN:SV->Option (List SV)
 | .agg l=>bif CB l&&KT (nT l)then some (nT l)else none
 | s=>bif U0 s then some [s]else none
theorem Ea{α:Type}{b}{x}{y:α}(h:(bif b then some x else none)=some y):b=true/\x=y:=by
 cases b with
 | true=>exact⟨rfl,abb⟩
 | false=>cases h
theorem xY{s}{l}(h:AN s=some l) β:(val β s).cells=(cK β l).toArray/\(cK β l).all Value.oneCell'=true:=by
 unfold AN at h;split at h
 ·obtain⟨h1,rfl⟩:=Ea h;simp at h1;refine⟨?_,C6 h1.2 β⟩;show(qK β _).toArray=_;rw[nK β h1.1]
 obtain⟨h1,rfl⟩:=Ea h;obtain⟨h2,h3⟩:=Gw h1 β;exact⟨h3,by simp[cK,h2]⟩
def I2:List aw->Option (List SV)
 | []=>some []
 | v::r=>match PU v,I2 r with
  | some s,some l=>some (s::l)
  | _,_=>none
theorem zX β:∀{l:List aw} {s:List SV},I2 l=some s->cK β s=l
 | [],s,h=>by simp[I2,bq]at h;subst h;rfl
 | v::r,s,h=>by
  simp[I2]at h;split at h
  ·rename_i s' l' h1 h2;simp at h;subst h;have:=zX β h2;simp only[cK,bK]at this⊢;rw[AK h1,this]
  cases h
def spl(cs:List SV)(o:Nat)(vs:List SV):List SV:=cs.take o++vs++cs.drop (o+vs.length)
theorem Gx β cs o vs:cK β (spl cs o vs)=cj (cK β cs) o (cK β vs):=by
 simp[cK,spl,cj,cN,js,rG,bN]
theorem Gy{off}:∀vs k cs,off+k+vs.length<=cs.length->
  (vs.zipIdx k).foldl (λcs x=>cs.setIfInBounds (off+x.2) x.1) cs.toArray=(cj cs (off+k) vs).toArray
 | [],k,cs,_=>by simp[cj]
 | v::vs,k,cs,h=>by
  simp at h;have e:cs.toArray.setIfInBounds (off+k) v=(cs.set (off+k) v).toArray:=aM
  rw[List.zipIdx_cons,List.foldl_cons];rw[e,Gy vs _ _ (by rw[sY];omega)];simp[cj,aW];rw[show off+_=off+k+1 by omega,bn,List.getElem?_set_self aE,List.take_set_of_le (aY _),List.drop_set_of_lt aE,show off+k+1+vs.length=off+k+(vs.length+1) by omega];simp
def C7(place:Nat->Option (Nat×Nat)):List SV->List (Nat×SV)->Option (List SV)
 | cells,[]=>some cells
 | cells,(i,v)::rest=>match place i,AN v with
  | some (off,size),some vs=>bif Nat.beq vs.length size&&Nat.ble (off+vs.length) cells.length then C7 place (spl cells off vs) rest else none
  | _,_=>none
theorem AO β {place}:∀{parts:List _} {cells r:List SV},C7 place cells parts=some r->Instr.fill place (cK β cells).toArray (C5 β parts)=some (cK β r).toArray
 | [],cells,r,h=>by simp[C7,bq]at h;subst h;rfl
 | _::rest,cells,r,h=>by
  simp[C7]at h;split at h
  ·rename_i off size vs hp hc;cases hb:(Nat.beq vs.length size&&Nat.ble _ cells.length)with
   | false=>rw[hb]at h;cases h
   | true=>
    rw[hb]at h;simp only[aP]at hb;have h1:=cd hb.1;have h2:=dA hb.2;obtain⟨e1,_⟩:=xY hc β;have ih:=AO β (parts:=rest) (cells:=spl cells off vs) h;rw[Gx]at ih;simp only[C5,bK,Instr.fill,hp,e1,pR,fF];rw[aQ aaf];have e2:=Gy (off:=off) (cK β vs) 0 (cK β cells) (by rw[fF,fF];omega);rw[fk]at e2;have e3:(cK β vs).toArray.zipIdx.foldl (λcs x=>cs.setIfInBounds (off+x.2) x.1) (cK β cells).toArray=(cj (cK β cells) off (cK β vs)).toArray:=by
     rw[<-e2];simp
    exact(bO (λa=>Instr.fill place a _) e3).trans ih
  cases h
def Zk(P:Program)(t:TypeId)(parts:List (Nat×SV)):Option (List SV):=
 match P.info? t,P.underlying t with
 | some it,some (.array _ e)=>(match it.zero,P.info? e with
  | some z,some ie=>(match I2 z.cells.toList with
   | some zs=>C7 (λi=>some (i*ie.size,ie.size)) zs parts
   | none=>none)
  | _,_=>none)
 | some it,some (.struct fields)=>(match it.zero,fields.toList.mapM (λf=>(P.info? f.type).map λi=>(f.offset,i.size))with
  | some z,some places=>(match I2 z.cells.toList with
   | some zs=>C7 (places.toArray[·]?) zs parts
   | none=>none)
  | _,_=>none)
 | _,_=>none
theorem U1{P}{t}{parts}{r}(h:Zk P t parts=some r) β w:(Instr.build t (C5 β parts).toArray).run P w=.ok (.agg (cK β r).toArray) w:=by
 refine run_build w t _ _ ?_;unfold Zk at h;split at h
 ·rename_i it n e h1 h2;split at h
  ·rename_i z ie h3 h4;split at h
   ·rename_i zs h5;have:=AO β h;rw[zX β h5]at this;simp[Program.built,h1,h2,h3,h4];simpa using this
   cases h
  cases h
 ·rename_i it fields h1 h2;split at h
  ·rename_i z places h3 h4;split at h
   ·rename_i zs h5;have:=AO β h;rw[zX β h5]at this;simp[Program.built,h1,h2,h3,h4];simpa using this
   cases h
  cases h
 cases h
def sz(P:Program)(t:TypeId)(n:Nat):Bool:=match P.info? t with
 | some i=>Nat.beq i.size n
 | none=>false
theorem ql{P}{t}{n}(h:sz P t n=true) w:(sizeOf t).run P w=.ok n w:=by
 unfold sz at h;cases hi:P.info? t with
 | none=>rw[hi]at h;cases h
 | some i=>
  rw[hi]at h;rw[<-cd h];simp[sizeOf,typeInfo,hi]
def wc(P:Program)(t:TypeId):Nat:=match P.info? t with
 | some i=>i.size
 | none=>0
theorem lA{P}{t}{d}(h:P.underlying t=some d) w:(isAgg t).run P w=.ok (mP d) w:=by
 unfold isAgg;rw[Sem.run_bind,run_underlying h,Result.andThen_ok];cases d<;>rfl
def I3(b:SV)(K:Nat->(Prop->Prop)->Prop):Prop:=match b with
 | .il _ n=>bif decide (0<=n)then K n.toNat id else False
 | .int _ n=>∃v,K v λp=>n=v/\p
 | _=>False
theorem mR{b}{K}(h:I3 b K):∃(v:Nat) (e:Prop->Prop) (k:IntKind) (n:Int),K v e/\qL b=some (k,n)/\(∀p,e p->n=v/\p):=by
 unfold I3 at h;split at h
 ·rename_i k n;obtain⟨h1,h2⟩:=dB h;have h1:=aR h1;exact⟨_,_,k,n,h2,rfl,λp hp=>⟨aE,hp⟩⟩
 ·rename_i k n;obtain⟨v,hv⟩:=h;exact⟨v,_,k,n,hv,rfl,λp hp=>hp⟩
 exact h.elim
def slS(gs:List (Bool×Bool))(s:Sl)(es:Nat)(st:St)(lo hi mx:Option Operand)(K:SV->Prop):Prop:=match lo,hi,mx with
 | some lo,none,none=>ch (st.ev lo) λa=>I3 a λl e=>gi gs (e (l<=s.n/\s.n<=s.c))/\K (.sl (s.cut l s.n s.c es))
 | none,some hi,none=>ch (st.ev hi) λa=>I3 a λh e=>gi gs (e (h<=s.c))/\K (.sl (s.cut 0 h s.c es))
 | some lo,some hi,none=>ch (st.ev lo) λa=>ch (st.ev hi) λb=>I3 a λl e=>I3 b λh f=>gi gs (e (f (l<=h/\h<=s.c)))/\K (.sl (s.cut l h s.c es))
 | none,some hi,some mx=>ch (st.ev hi) λb=>ch (st.ev mx) λc=>I3 b λh e=>I3 c λm f=>gi gs (e (f (h<=m/\m<=s.c)))/\K (.sl (s.cut 0 h m es))
 | some lo,some hi,some mx=>ch (st.ev lo) λa=>ch (st.ev hi) λb=>ch (st.ev mx) λc=>I3 a λl e=>I3 b λh f=>I3 c λm g=>gi gs (e (f (g (l<=h/\h<=m/\m<=s.c))))/\K (.sl (s.cut l h m es))
 | _,_,_=>False
def slT(gs:List (Bool×Bool))(s:ByteArray)(st:St)(lo hi mx:Option Operand)(K:SV->Prop):Prop:=match lo,hi,mx with
 | some lo,none,none=>ch (st.ev lo) λa=>I3 a λl e=>gi gs (e (l<=s.size))/\K (.str (s.extract l s.size))
 | none,some hi,none=>ch (st.ev hi) λa=>I3 a λh e=>gi gs (e (h<=s.size))/\K (.str (s.extract 0 h))
 | some lo,some hi,none=>ch (st.ev lo) λa=>ch (st.ev hi) λb=>I3 a λl e=>I3 b λh f=>gi gs (e (f (l<=h/\h<=s.size)))/\K (.str (s.extract l h))
 | _,_,_=>False
def vO(P:Program)(b:Builtin)(xs:List Operand)(ts:List TypeId)(st:St)(K:SV->Prop):Prop:=match b,xs,ts with
 | .len,[x],[t]=>ch (st.ev x) λa=>(match P.underlying t with
  | some (.slice _)=>ch (KS a) λs=>K (.int .i64 s.n)
  | some .string=>ch (wb a) λs=>K (.int .i64 s.size)
  | _=>False)
 | .cap,[x],[t]=>ch (st.ev x) λa=>(match P.underlying t with
  | some (.slice _)=>ch (KS a) λs=>K (.int .i64 s.c)
  | _=>False)
 | .min,[x,y],_=>ch (st.ev x) λa=>ch (st.ev y) λb=>ch (qL a) λp=>ch (qL b) λq=>K (.int p.1 (if q.2<p.2 then q.2 else p.2))
 | .max,[x,y],_=>ch (st.ev x) λa=>ch (st.ev y) λb=>ch (qL a) λp=>ch (qL b) λq=>K (.int p.1 (if q.2>p.2 then q.2 else p.2))
 | _,_,_=>False
def nif:TypeDesc->Bool
 | .interface _=>false
 | _=>true
def cvP(P:Program)(gs:List (Bool×Bool))(st:St)(s d:TypeId)(a:SV)(K:SV->Prop):Prop:=match P.underlying s,P.underlying d with
 | some (.int _),some (.int kd)=>ch (qL a) λp=>K (.int kd (kd.wrap p.2))
 | some .string,some .string=>ch (wb a) λu=>K (.str u)
 | some (.slice e),some .string=>(match P.underlying e with
  | some (.int .u8)=>ch (KS a) λu=>bif st.mv then False else ∃l,gi gs (sD st.w0 u l)/\K (.str ⟨l.toArray⟩)
  | _=>False)
 | _,_=>False
def ldP(P:Program)(gs:List (Bool×Bool))(st:St)(t:TypeId)(a:SV)(K:SV->Prop):Prop:=match P.underlying t with
 | none=>False
 | some d=>(match a with
  | .box i o=>ch (cZ st.bx i) λb=>bif b.ok&&sz P t ((b.cells.drop o).take (wc P t)).length&&(mP d||Nat.beq ((b.cells.drop o).take (wc P t)).length 1)then K (ND (mP d) ((b.cells.drop o).take (wc P t)))else False
  | .ad p=>bif !st.mv&&sz P t (PW P 12 t).length&&(mP d||Nat.beq (PW P 12 t).length 1)then UU (PW P 12 t) λvs=>gi gs (Cells st.w0 p (cK β0 vs))/\K (ND (mP d) vs)else False
  | _=>False)
def KU:Operand->Bool
 | .const .nilIface=>true
 | _=>false
def niV:aw->Bool
 | .nilIface=>true
 | _=>false
def Ifc(v:aw):Prop:=v=.nilIface∨∃t x,v=.iface t x
def niP(P:Program)(gs:List (Bool×Bool))(op:BinOp)(t:TypeId)(a:SV)(K:SV->Prop):Prop:=match a,P.underlying t,op with
 | .raw v,some (.interface _),.eql=>gi gs (Ifc v.v)/\K (.bt (niV v.v))
 | .raw v,some (.interface _),.neq=>gi gs (Ifc v.v)/\K (.bt (!niV v.v))
 | _,_,_=>False
theorem PZ{y}(h:KU y=true):y=.const .nilIface:=by
 unfold KU at h;split at h
 ·rfl
 cases h
theorem Xn{P}{t}{ms}{v}(hu:P.underlying t=some (.interface ms))(hv:Ifc v) w:(Op.equal t v .nilIface).run P w=.ok (niV v) w:=by
 unfold Op.equal Op.maxDepth Op.equalIn;rcases hv with rfl | ⟨tx,x,rfl⟩<;>simp[Sem.run_bind,run_underlying hu,Result.andThen_ok]<;>rfl
theorem Gz{P}{op}{t}{x}{v}(hv:Ifc v) w:(eqGuard op t x (.const .nilIface) v .nilIface).run P w=.ok () w:=by
 unfold eqGuard;rcases hv with rfl | ⟨tx,x,rfl⟩<;>first | rfl | simp
theorem Zl{P}{gs}{st}{K}{op}{t ty}{x}{a}(hx:st.ev x=some a)(h:niP P gs op t a K):∃v,K v/\(gh gs->∀β c w,Rep β st c w->∀d t' p af g w',
  (execOp c.eval ⟨d,.binOp op t x (.const .nilIface) ty,t',p,af,g⟩).run P w'=.ok (.value (val β v)) w'):=by
 unfold niP at h;split at h
 ·rename_i v ms hu;refine⟨_,h.2,λhg β c w hR d t' p af g w'=>?_⟩;have hv:=iz h.1 hg;have e:c.eval x=v.v:=hR.ev hx;have e2:c.eval (.const .nilIface)=.nilIface:=rfl;have hb:binOp .eql t v.v .nilIface=(do pure (.bool (<-Op.equal t v.v .nilIface))):=by
   rcases hv with h | ⟨tx,x,h⟩<;>rw[h]<;>rfl
  simp[execOp,e,e2,hb,Sem.run_bind,Gz hv,Result.andThen_ok,Xn hu hv,Sem.run_pure];rfl
 ·rename_i v ms hu;refine⟨_,h.2,λhg β c w hR d t' p af g w'=>?_⟩;have hv:=iz h.1 hg;have e:c.eval x=v.v:=hR.ev hx;have e2:c.eval (.const .nilIface)=.nilIface:=rfl;have hb:binOp .neq t v.v .nilIface=(do pure (.bool (!(<-Op.equal t v.v .nilIface)))):=by
   rcases hv with h | ⟨tx,x,h⟩<;>rw[h]<;>rfl
  simp[execOp,e,e2,hb,Sem.run_bind,Gz hv,Result.andThen_ok,Xn hu hv,Sem.run_pure];rfl
 exact h.elim
def KV(p:Addr)(i:Int)(len size:Nat)(q:Addr):Prop:=0<=i/\i<len/\p.add (i.toNat*size)=q
def Zm(n:Int)(F:Nat->Prop):Nat->Prop
 | 0=>True
 | 1=>n=0->F 0
 | j+2=>Zm n F (j+1)/\(n=((j+1))->F (j+1))
theorem KW{n}{F}:∀{m:Nat},Zm n F m->0<=n->n<m->F n.toNat
 | 0,_,h0,h1=>aE
 | 1,h,h0,h1=>by
  have e:n=0:=aE
  subst e;exact h rfl
 | j+2,h,h0,h1=>by
  by_cases e:n=((j+1))
  ·have:=h.2 e;rw[e];exact this
  exact KW h.1 h0 aE
def Zn(P:Program)(gs:List (Bool×Bool))(st:St)(o:Op)(K:SV->Prop):Prop:=match o with
 | .move x=>ch (st.ev x) K
 | .assign x=>ch (st.ev x) K
 | .pick c x y=>ch (st.ev c) λc=>(match c with
  | .bl true=>ch (st.ev x) K
  | .bl false=>ch (st.ev y) K
  | _=>False)
 | .binOp op t x y _=>ch (st.ev x) λa=>ch (st.ev y) λb=>bif KU y then niP P gs op t a K else Zj P gs op t a b K
 | .unOp .not _ x=>ch (st.ev x) λa=>(match a with
  | .bl b=>K (.bl (!b))
  | .bt b=>K (.bt (!b))
  | _=>False)
 | .unOp .neg _ x=>ch (st.ev x) λa=>ch (qL a) λp=>K (.int p.1 (p.1.wrap (0-p.2)))
 | .convert s d x=>ch (st.ev x) λa=>cvP P gs st s d a K
 | .extract x i=>ch (st.ev x) λa=>(match a with
  | .tup l=>bif CB l then ch ((nT l)[i]?) K else False
  | _=>False)
 | .build t parts=>ch (st.Uf parts.toList) λps=>ch (Zk P t ps) λr=>K (.agg (j7 r))
 | .makeFunc fn fs cs=>(match fn with
  | .func f=>ch (st.M0 fs.toList) λa=>ch (st.M0 cs.toList) λb=>K (.fn f (j7 a) (j7 b))
  | _=>False)
 | .makeInterface t x=>ch (st.ev x) λa=>ch (P.underlying t) λd=>bif nif d&&cln (λ_=>false) a then K (.raw ⟨.iface t (val β0 a),rfl⟩)else False
 | .nilCheck x=>ch (st.ev x) λa=>(match a with
  | .ad p=>K (.ad p)
  | .box i o=>K (.box i o)
  | .ptr p=>∃q,gi gs (p=some q)/\K (.ad q)
  | .fn f .e cs=>K (.fn f .e cs)
  | _=>False)
 | .fieldAddr s x k=>ch (st.ev x) λa=>(match P.underlying s with
  | some (.struct fs)=>ch (fs[k]?) λf=>bif Nat.ble 1 (wc P f.type)then(match a with
   | .ad p=>K (.ad (p.add f.offset))
   | .box i o=>K (.box i (o+f.offset))
   | _=>False)else False
  | _=>False)
 | .field t x k=>ch (st.ev x) λa=>(match a,P.underlying t with
  | .agg l,some (.struct fs)=>ch (fs[k]?) λf=>ch (P.underlying f.type) λd=>bif CB l&&sz P f.type (((nT l).drop f.offset).take (wc P f.type)).length&&(mP d||Nat.beq (((nT l).drop f.offset).take (wc P f.type)).length 1)
   then K (ND (mP d) (((nT l).drop f.offset).take (wc P f.type)))else False
  | _,_=>False)
 | .indexAddr t x i=>ch (st.ev x) λa=>ch (st.ev i) λj=>ch (qL j) λn=>(match P.underlying t with
  | some (.slice e)=>ch (KS a) λs=>bif (P.info? e).isSome then ∃q,gi gs (cR s n.2 (wc P e) q)/\K (.ad q)else False
  | some (.array len e)=>bif (P.info? e).isSome then(match a,j with
   | .box b o,.il _ n=>bif decide (0<=n)&&decide (n<len)then K (.box b (o+n.toNat*wc P e))else False
   | .ad p,.il _ n=>bif decide (0<=n)&&decide (n<len)then K (.ad (p.add (n.toNat*wc P e)))else False
   | .ad p,_=>∃q,gi gs (KV p n.2 len (wc P e) q)/\K (.ad q)
   | .box b o,_=>bif Nat.ble len 8 then(0<=n.2/\n.2<len)/\Zm n.2 (λj=>K (.box b (o+j*wc P e))) len else False
   | _,_=>False)else False
  | _=>False)
 | .load t x=>ch (st.ev x) λa=>ldP P gs st t a K
 | .index t x i=>ch (st.ev x) λa=>ch (st.ev i) λj=>ch (qL j) λn=>(match P.underlying t with
  | some .string=>ch (wb a) λs=>∃c,gi gs (0<=n.2/\s[n.2.toNat]? =some c)/\K (.int .u8 c.toNat)
  | _=>False)
 | .slice t x lo hi mx=>ch (st.ev x) λa=>(match P.underlying t with
  | some (.slice e)=>ch (KS a) λs=>bif (P.info? e).isSome then slS gs s (wc P e) st lo hi mx K else False
  | some .string=>ch (wb a) λs=>slT gs s st lo hi mx K
  | _=>False)
 | .call c=>(match c.callee with
  | .builtin b=>vO P b c.args.toList c.argTypes.toList st K
  | _=>False)
 | _=>False
def mem:Op->Bool
 | .load _ _=>true
 | .convert _ _ _=>true
 | _=>false
def Y(P:Program)(st:St)(o:Op)(v:SV):Prop:=∀β a w,Rep β st a w->∀d t p af g w',(mem o=true->w'.heap=w.heap)->
 (execOp a.eval ⟨d,o,t,p,af,g⟩).run P w'=.ok (.value (val β v)) w'
theorem lC{P}{t}(h:(P.info? t).isSome=true) w:(sizeOf t).run P w=.ok (wc P t) w:=by
 unfold wc;cases hi:P.info? t with
 | none=>rw[hi]at h;cases h
 | some i=>simp[sizeOf,typeInfo,hi]
theorem Eb b o n:(⟨b,o,none⟩:Addr).add n=⟨b,o+n,none⟩:=by unfold Addr.add;split<;>simp_all
theorem pV{d}(h:mP d=true) β l:val β (ND (mP d) l)=.agg (cK β l).toArray:=by
 rw[h];show Value.agg (qK β _).toArray=_;rw[rK]
theorem AP{l:List SV}(h:Nat.beq l.length 1=true):∃s,l=[s]:=by
 have:=cd h
 match l,this with
 | [s],_=>exact⟨s,rfl⟩
section
variable {P:Program} {gs:List (Bool×Bool)} {st:St} {K:SV->Prop}
theorem Zo{t}{x}{a}(hx:st.ev x=some a)(h:ldP P gs st t a K):∃v,K v/\(gh gs->Y P st (.load t x) v):=by
 unfold ldP at h;split at h
 ·exact h.elim
 rename_i d hu;split at h
 ·rename_i i o;obtain⟨b,hb,h⟩:=bC h;obtain⟨h1,h2⟩:=dB h;simp only[aP,cx]at h1;obtain⟨⟨oh,hsz⟩,mC⟩:=h1;refine⟨_,h2,λ_ β act w hR dst t' p af g w' hh=>?_⟩;have hB:=(hR.bx i b hb oh).blk;have Uk:Blk w' (β i) b.ty (cK β b.cells):=by unfold Blk at hB⊢;rw[hh rfl];exact hB
  have M5:=hR.ev hx;generalize hl:(b.cells.drop o).take _=l at*
  have hC:Cells w' _ (cK β l):=Uk.FB o _ (by
   rw[fF,<-hl];simp only[cK,js,rG];rw[cF,qI];simp only[cr,bN];omega)
  rcases mC with sK | mC
  ·rw[pV sK];have:=lA (P:=P) hu w';rw[sK]at this;exact uH this (ql hsz w') (fF β l) M5 hC
  cases sK:mP d with
  | true=>
   have e:=pV sK β l;rw[sK]at e;rw[e];have:=lA (P:=P) hu w';rw[sK]at this;exact uH this (ql hsz w') (fF β l) M5 hC
  | false=>
   obtain⟨s,rfl⟩:=AP mC;have:=lA (P:=P) hu w';rw[sK]at this;exact DY this M5 (Cells.one hC)
 ·rename_i ad;obtain⟨h1,h2⟩:=dB h;simp only[aP,cx,cV]at h1;obtain⟨⟨oQ,hsz⟩,mC⟩:=h1;obtain⟨vs,⟨hF,hK⟩,fi,qv⟩:=tC h2;refine⟨_,hK,λhg β act w hR dst t' p af g w' hh=>?_⟩;have hw:=hR.still oQ;subst hw;have hC:Cells w' ad (cK β vs):=by
   rw[iy (β:=β) (β':=β0) (g:=λ_=>false) (λi h=>aaQ) vs (qv _)];exact(iz hF hg).keep (by rw[hh rfl])
  have M5:=hR.ev hx;rw[<-fi]at hsz mC;rcases mC with sK | mC
  ·rw[pV sK];have:=lA (P:=P) hu w';rw[sK]at this;exact uH this (ql hsz w') (fF β vs) M5 hC
  cases sK:mP d with
  | true=>
   have e:=pV sK β vs;rw[sK]at e;rw[e];have:=lA (P:=P) hu w';rw[sK]at this;exact uH this (ql hsz w') (fF β vs) M5 hC
  | false=>
   obtain⟨s,rfl⟩:=AP mC;have:=lA (P:=P) hu w';rw[sK]at this;exact DY this M5 (Cells.one hC)
 exact h.elim
theorem Zp{s d}{x}{a}(hx:st.ev x=some a)(h:cvP P gs st s d a K):∃v,K v/\(gh gs->Y P st (.convert s d x) v):=by
 unfold cvP at h;split at h
 ·rename_i ks kd h1 h2;obtain⟨⟨k,n⟩,hp,h⟩:=bC h;exact⟨_,h,λ_ β act w hR dst t' p af g w' hh=>CZ (run_underlying h1 w') (run_underlying h2 w') ((hR.ev hx).trans (dr hp β))⟩
 ·rename_i h1 h2;obtain⟨u,hp,h⟩:=bC h;exact⟨_,h,λ_ β act w hR dst t' p af g w' hh=>C0 (run_underlying h1 w') (run_underlying h2 w') ((hR.ev hx).trans (iO hp β))⟩
 ·rename_i e h1 h2;split at h
  ·rename_i h3;obtain⟨u,hp,h⟩:=bC h;cases hm:st.mv with
   | true=>rw[hm]at h;exact h.elim
   | false=>
    rw[hm]at h;obtain⟨l,hF,hK⟩:=h;refine⟨_,hK,λhg β act w hR dst t' p af g w' hh=>?_⟩;have hw:=hR.still hm;subst hw;exact AG h1 h3 h2 ((hR.ev hx).trans (kH hp β)) (IZ _ _ (by rw[hh rfl]) (iz hF hg))
  exact h.elim
 exact h.elim
theorem Zr{b}{xs}{ts}(h:vO P b xs ts st K):∃v,K v/\(gh gs->Y P st (.call ⟨.builtin b,xs.toArray,ts.toArray⟩) v):=by
 unfold vO at h;split at h
 ·obtain⟨a,hx,h⟩:=bC h;split at h
  ·rename_i hu;obtain⟨s,hs,h⟩:=bC h;exact⟨_,h,λ_ β act w hR dst t' p af g w' hh=>adW (run_underlying hu w') ((hR.ev hx).trans (kH hs β))⟩
  ·rename_i hu;obtain⟨s,hs,h⟩:=bC h;exact⟨_,h,λ_ β act w hR dst t' p af g w' hh=>PM (run_underlying hu w') ((hR.ev hx).trans (iO hs β))⟩
  exact h.elim
 ·obtain⟨a,hx,h⟩:=bC h;split at h
  ·rename_i hu;obtain⟨s,hs,h⟩:=bC h;exact⟨_,h,λ_ β act w hR dst t' p af g w' hh=>ad5 (run_underlying hu w') ((hR.ev hx).trans (kH hs β))⟩
  exact h.elim
 ·obtain⟨a,hx,h⟩:=bC h;obtain⟨b,hy,h⟩:=bC h;obtain⟨⟨k,m⟩,hp,h⟩:=bC h;obtain⟨_,hq,h⟩:=bC h;exact⟨_,h,λ_ β act w hR dst t' p af g w' hh=>ad6 ((hR.ev hx).trans (dr hp β)) ((hR.ev hy).trans (dr hq β))⟩
 ·obtain⟨a,hx,h⟩:=bC h;obtain⟨b,hy,h⟩:=bC h;obtain⟨⟨k,m⟩,hp,h⟩:=bC h;obtain⟨_,hq,h⟩:=bC h;exact⟨_,h,λ_ β act w hR dst t' p af g w' hh=>ad7 ((hR.ev hx).trans (dr hp β)) ((hR.ev hy).trans (dr hq β))⟩
 exact h.elim
theorem Zs{t e}{x}{lo hi mx}{a}{s}(hu:P.underlying t=some (.slice e))(Ce:(P.info? e).isSome=true)(hx:st.ev x=some a)(hs:KS a=some s)(h:slS gs s (wc P e) st lo hi mx K):∃v,K v/\(gh gs->Y P st (.slice t x lo hi mx) v):=by
 unfold slS at h;split at h
 ·obtain⟨a1,h1,h⟩:=bC h;obtain⟨l,e1,k1,n1,⟨hF,hK⟩,o1,u1⟩:=mR h;refine⟨_,hK,λhg β act w hR dst t' p af g w' hh=>?_⟩;obtain⟨rfl,f1,f2⟩:=u1 _ (iz hF hg);exact IP (run_underlying hu w') (lC Ce w') ((hR.ev hx).trans (kH hs β)) ((hR.ev h1).trans (dr o1 β)) f1 f2 (aY _)
 ·obtain⟨a1,h1,h⟩:=bC h;obtain⟨l,e1,k1,n1,⟨hF,hK⟩,o1,u1⟩:=mR h;refine⟨_,hK,λhg β act w hR dst t' p af g w' hh=>?_⟩;obtain⟨rfl,f1⟩:=u1 _ (iz hF hg);exact IQ (run_underlying hu w') (lC Ce w') ((hR.ev hx).trans (kH hs β)) ((hR.ev h1).trans (dr o1 β)) (be _) f1 (aY _)
 ·obtain⟨a1,h1,h⟩:=bC h;obtain⟨a2,h2,h⟩:=bC h;obtain⟨l,e1,k1,n1,h,o1,u1⟩:=mR h;obtain⟨m,e2,k2,n2,⟨hF,hK⟩,o2,u2⟩:=mR h;refine⟨_,hK,λhg β act w hR dst t' p af g w' hh=>?_⟩;obtain⟨rfl,f1⟩:=u1 _ (iz hF hg);obtain⟨rfl,f1,f2⟩:=u2 _ f1;exact IR (run_underlying hu w') (lC Ce w') ((hR.ev hx).trans (kH hs β)) ((hR.ev h1).trans (dr o1 β)) ((hR.ev h2).trans (dr o2 β)) f1 f2 (aY _)
 ·obtain⟨a1,h1,h⟩:=bC h;obtain⟨a2,h2,h⟩:=bC h;obtain⟨l,e1,k1,n1,h,o1,u1⟩:=mR h;obtain⟨m,e2,k2,n2,⟨hF,hK⟩,o2,u2⟩:=mR h;refine⟨_,hK,λhg β act w hR dst t' p af g w' hh=>?_⟩;obtain⟨rfl,f1⟩:=u1 _ (iz hF hg);obtain⟨rfl,f1,f2⟩:=u2 _ f1;exact IT (run_underlying hu w') (lC Ce w') ((hR.ev hx).trans (kH hs β)) ((hR.ev h1).trans (dr o1 β)) ((hR.ev h2).trans (dr o2 β)) (be _) f1 f2
 ·obtain⟨a1,h1,h⟩:=bC h;obtain⟨a2,h2,h⟩:=bC h;obtain⟨a3,h3,h⟩:=bC h;obtain⟨l,e1,k1,n1,h,o1,u1⟩:=mR h;obtain⟨m,e2,k2,n2,h,o2,u2⟩:=mR h;obtain⟨q,e3,k3,n3,⟨hF,hK⟩,o3,u3⟩:=mR h;refine⟨_,hK,λhg β act w hR dst t' p af g w' hh=>?_⟩;obtain⟨rfl,f1⟩:=u1 _ (iz hF hg);obtain⟨rfl,f1⟩:=u2 _ f1;obtain⟨rfl,f1,f2,f3⟩:=u3 _ f1;exact IU (run_underlying hu w') (lC Ce w') ((hR.ev hx).trans (kH hs β)) ((hR.ev h1).trans (dr o1 β)) ((hR.ev h2).trans (dr o2 β)) ((hR.ev h3).trans (dr o3 β)) f1 f2 f3
 exact h.elim
theorem Zu{t}{x}{lo hi mx}{a}{s}(hu:P.underlying t=some .string)(hx:st.ev x=some a)(hs:wb a=some s)(h:slT gs s st lo hi mx K):∃v,K v/\(gh gs->Y P st (.slice t x lo hi mx) v):=by
 unfold slT at h;split at h
 ·obtain⟨a1,h1,h⟩:=bC h;obtain⟨l,e1,k1,n1,⟨hF,hK⟩,o1,u1⟩:=mR h;refine⟨_,hK,λhg β act w hR dst t' p af g w' hh=>?_⟩;obtain⟨rfl,f1⟩:=u1 _ (iz hF hg);exact D0 (run_underlying hu w') ((hR.ev hx).trans (iO hs β)) ((hR.ev h1).trans (dr o1 β)) f1 (aY _)
 ·obtain⟨a1,h1,h⟩:=bC h;obtain⟨l,e1,k1,n1,⟨hF,hK⟩,o1,u1⟩:=mR h;refine⟨_,hK,λhg β act w hR dst t' p af g w' hh=>?_⟩;obtain⟨rfl,f1⟩:=u1 _ (iz hF hg);exact D1 (run_underlying hu w') ((hR.ev hx).trans (iO hs β)) ((hR.ev h1).trans (dr o1 β)) (be _) f1
 ·obtain⟨a1,h1,h⟩:=bC h;obtain⟨a2,h2,h⟩:=bC h;obtain⟨l,e1,k1,n1,h,o1,u1⟩:=mR h;obtain⟨m,e2,k2,n2,⟨hF,hK⟩,o2,u2⟩:=mR h;refine⟨_,hK,λhg β act w hR dst t' p af g w' hh=>?_⟩;obtain⟨rfl,f1⟩:=u1 _ (iz hF hg);obtain⟨rfl,f1,f2⟩:=u2 _ f1;exact D2 (run_underlying hu w') ((hR.ev hx).trans (iO hs β)) ((hR.ev h1).trans (dr o1 β)) ((hR.ev h2).trans (dr o2 β)) f1 f2
 exact h.elim
theorem U2{t}{d}{l:List aw}{off n}(hu:P.underlying t=some d)(hn:sz P t n=true)(sK:mP d=true) w:(part t l.toArray off).run P w=.ok (.agg ((l.drop off).take n).toArray) w:=by
 have h:=lA (P:=P) hu w;rw[sK]at h;unfold part;simp only[Sem.run_bind,h,Result.andThen_ok,wH,ql hn w,Sem.run_pure];rw[List.extract_toArray,List.extract_eq_take_drop,dM]
theorem P0{t}{d}{l:List aw}{off}{v}(hu:P.underlying t=some d)(sK:mP d=false)(hv:l[off]? =some v) w:(part t l.toArray off).run P w=.ok v w:=by
 have h:=lA (P:=P) hu w;rw[sK]at h;unfold part;simp[Sem.run_bind,h,Result.andThen_ok];simp[hv]
theorem I4{o:Op}(h:Zn P gs st o K):∃v,K v/\(gh gs->Y P st o v):=by
 unfold Zn at h;split at h
 ·obtain⟨v,hx,hK⟩:=bC h;exact⟨v,hK,λ_ β act w hR dst t' p af g w' hh=>by simp only[execOp,hR.ev hx,Sem.run_pure]⟩
 ·obtain⟨v,hx,hK⟩:=bC h;exact⟨v,hK,λ_ β act w hR dst t' p af g w' hh=>by simp only[execOp,hR.ev hx,Sem.run_pure]⟩
 ·obtain⟨c,hc,h⟩:=bC h;split at h
  ·obtain⟨v,hx,hK⟩:=bC h;exact⟨v,hK,λ_ β act w hR dst t' p af g w' hh=>UL (hR.ev hc) (hR.ev hx)⟩
  ·obtain⟨v,hx,hK⟩:=bC h;exact⟨v,hK,λ_ β act w hR dst t' p af g w' hh=>UM (hR.ev hc) (hR.ev hx)⟩
  exact h.elim
 ·rename_i op t x y ty;obtain⟨a,hx,h⟩:=bC h;obtain⟨b,hy,h⟩:=bC h;cases hn:KU y with
  | true=>
   rw[hn]at h;have e:=PZ hn;subst e;obtain⟨v,hK,hr⟩:=Zl hx h;exact⟨v,hK,λhg β act w hR dst t' p af g w' hh=>hr hg β act w hR _ _ _ _ _ _⟩
  | false=>
  rw[hn]at h;obtain⟨v,hK,hr⟩:=UZ h;exact⟨v,hK,λhg β act w hR dst t' p af g w' hh=>hr hg β act _ _ _ _ _ _ _ _ _ (hR.ev hx) (hR.ev hy)⟩
 ·obtain⟨a,hx,h⟩:=bC h;split at h
  ·exact⟨_,h,λ_ β act w hR dst t' p af g w' hh=>by simp only[execOp,hR.ev hx];rfl⟩
  ·exact⟨_,h,λ_ β act w hR dst t' p af g w' hh=>by simp only[execOp,hR.ev hx];rfl⟩
  exact h.elim
 ·obtain⟨a,hx,h⟩:=bC h;obtain⟨⟨k,n⟩,hp,h⟩:=bC h;exact⟨_,h,λ_ β act w hR dst t' p af g w' hh=>by simp only[execOp,hR.ev hx,dr hp];rfl⟩
 ·obtain⟨a,hx,h⟩:=bC h;exact Zp hx h
 ·rename_i x i;obtain⟨a,hx,h⟩:=bC h;split at h
  ·rename_i l;obtain⟨h1,h⟩:=dB h;obtain⟨v,hv,hK⟩:=bC h;refine⟨v,hK,λ_ β act w hR dst t' p af g w' hh=>?_⟩;have e:=(hR.ev hx).trans (by
    show Value.tuple (qK β l).toArray=_;rw[nK β h1])
   have e2:(cK β (nT l))[i]? =some (val β v):=by rw[cK,cA,hv];rfl
   simp only[execOp,e,Instr.extract];simp[e2]
  exact h.elim
 ·rename_i t parts;obtain⟨ps,hp,h⟩:=bC h;obtain⟨r,hr,hK⟩:=bC h;refine⟨_,hK,λ_ β act w hR dst t' p af g w' hh=>?_⟩;have e:val β (.agg (j7 r))=.agg (cK β r).toArray:=by
   show Value.agg (qK β (j7 r)).toArray=_;rw[rK]
  rw[e];obtain⟨pl⟩:=parts;exact UN (hR.Uf hp) (U1 hr β w')
 ·rename_i fn fs cs;split at h
  ·rename_i f;obtain⟨a,ha,h⟩:=bC h;obtain⟨b,hb,hK⟩:=bC h;refine⟨_,hK,λ_ β act w hR dst t' p af g w' hh=>?_⟩;obtain⟨cl⟩:=cs;have:=IL (P:=P) (w:=w') (dst:=dst) (t':=t') (p:=p) (af:=af) (g:=g) (fn:=.func f) (hR.M0 ha) (hR.M0 hb);rw[<-rK,<-rK]at this;exact this
  exact h.elim
 ·obtain⟨a,hx,h⟩:=bC h;obtain⟨d,hu,h⟩:=bC h;obtain⟨h1,hK⟩:=dB h;simp at h1;refine⟨_,hK,λ_ β act w hR dst t' p af g w' hh=>?_⟩;have e:val β a=val β0 a:=ju (g:=λ_=>false) (λi h=>aaQ) a h1.2;exact UO (run_underlying hu w') (by unfold nif at h1;cases d<;>first | rfl | exact h1.1) ((hR.ev hx).trans e)
 ·obtain⟨a,hx,h⟩:=bC h;split at h
  ·exact⟨_,h,λ_ β act w hR dst t' p af g w' hh=>PH (hR.ev hx)⟩
  ·exact⟨_,h,λ_ β act w hR dst t' p af g w' hh=>PH (hR.ev hx)⟩
  ·obtain⟨q,hF,hK⟩:=h;refine⟨_,hK,λhg β act w hR dst t' p af g w' hh=>PH ((hR.ev hx).trans ?_)⟩;have:=iz hF hg;subst this;rfl
  ·exact⟨_,h,λ_ β act w hR dst t' p af g w' hh=>by
    have e:=hR.ev hx;simp only[execOp,e,Sem.run_pure,val,qK,AA]⟩
  exact h.elim
 ·obtain⟨a,hx,h⟩:=bC h;split at h
  ·rename_i fs hu;obtain⟨f,hf,h⟩:=bC h;obtain⟨hs,h⟩:=dB h;have hs:=dA hs;have hso:(P.info? f.type).isSome=true:=by
    unfold wc at hs;split at hs
    ·rename_i hi;rw[hi];rfl
    omega
   obtain⟨m,hm⟩:∃m,wc P f.type=m+1:=⟨wc P f.type-1,aE⟩
   split at h
   ·exact⟨_,h,λ_ β act w hR dst t' p af g w' hh=>KO (run_underlying hu w') hf (by rw[lC hso,hm]) (hR.ev hx) rfl⟩
   ·exact⟨_,h,λ_ β act w hR dst t' p af g w' hh=>KO (run_underlying hu w') hf (by rw[lC hso,hm]) (hR.ev hx) (Eb _ _ _)⟩
   exact h.elim
  exact h.elim
 ·obtain⟨a,hx,h⟩:=bC h;split at h
  ·rename_i l fs hu;obtain⟨f,hf,h⟩:=bC h;obtain⟨d,hd,h⟩:=bC h;obtain⟨h1,hK⟩:=dB h;simp only[aP,cx]at h1;obtain⟨⟨hl,hsz⟩,mC⟩:=h1;refine⟨_,hK,λ_ β act w hR dst t' p af g w' hh=>?_⟩;have e:=(hR.ev hx).trans (by
    show Value.agg (qK β l).toArray=_;rw[nK β hl])
   have hv:cK β (((nT l).drop f.offset).take (wc P f.type))=((cK β (nT l)).drop f.offset).take (wc P f.type):=by
    simp only[cK,js,rG]
   have key:(part f.type (cK β (nT l)).toArray f.offset).run P w'=.ok (val β (ND (mP d) (((nT l).drop f.offset).take (wc P f.type)))) w':=by
    cases sK:mP d with
    | true=>
     have e2:=pV sK β (((nT l).drop f.offset).take (wc P f.type));rw[sK]at e2;rw[e2,hv];rw[U2 (l:=cK β (nT l)) (off:=f.offset) hd hsz sK w'];congr 3;rw[qI];simp only[cF,cr,fF];omega
    | false=>
     rcases mC with mC | mC
     ·rw[sK]at mC;cases mC
     obtain⟨s,hs⟩:=AP mC;rw[hs];refine P0 hd sK ?_ w';have h4:(((nT l).drop f.offset).take (wc P f.type))[0]? =some s:=by rw[hs];rfl
     rw[vL]at h4;split at h4
     ·rw[gw,fk]at h4;rw[cK,cA,h4];rfl
     cases h4
   simp only[execOp,e,Instr.field,Sem.run_bind,run_underlying hu,Result.andThen_ok,hf,asAgg,Sem.run_pure,key]
  exact h.elim
 ·obtain⟨a,hx,h⟩:=bC h;obtain⟨j,hj,h⟩:=bC h;obtain⟨⟨k,n⟩,hn,h⟩:=bC h;split at h
  ·rename_i e hu;obtain⟨s,hs,h⟩:=bC h;obtain⟨hi,h⟩:=dB h;obtain⟨q,hF,hK⟩:=h;exact⟨_,hK,λhg β act w hR dst t' p af g w' hh=>PI (run_underlying hu w') (lC hi w') ((hR.ev hx).trans (kH hs β)) ((hR.ev hj).trans (dr hn β)) (iz hF hg)⟩
  ·rename_i len e hu;obtain⟨hi,h⟩:=dB h;split at h
   ·obtain⟨h1,hK⟩:=dB h;simp at h1;exact⟨_,hK,λhg β act w hR dst t' p af g w' hh=>wM (run_underlying hu w') (lC hi w') (hR.ev hx) (hR.ev hj) h1.1 h1.2 (Eb _ _ _)⟩
   ·obtain⟨h1,hK⟩:=dB h;simp at h1;exact⟨_,hK,λhg β act w hR dst t' p af g w' hh=>wM (run_underlying hu w') (lC hi w') (hR.ev hx) (hR.ev hj) h1.1 h1.2 rfl⟩
   ·obtain⟨q,hF,hK⟩:=h;exact⟨_,hK,λhg β act w hR dst t' p af g w' hh=>wM (run_underlying hu w') (lC hi w') (hR.ev hx) ((hR.ev hj).trans (dr hn β)) (iz hF hg).1 (iz hF hg).2.1 (iz hF hg).2.2⟩
   ·obtain⟨_,⟨h0,h1⟩,hK⟩:=dB h;exact⟨_,KW hK h0 h1,λhg β act w hR dst t' p af g w' hh=>wM (run_underlying hu w') (lC hi w') (hR.ev hx) ((hR.ev hj).trans (dr hn β)) h0 h1 (Eb _ _ _)⟩
   exact h.elim
  exact h.elim
 ·obtain⟨a,hx,h⟩:=bC h;exact Zo hx h
 ·obtain⟨a,hx,h⟩:=bC h;obtain⟨j,hj,h⟩:=bC h;obtain⟨⟨k,n⟩,hn,h⟩:=bC h;split at h
  ·rename_i hu;obtain⟨s,hs,h⟩:=bC h;obtain⟨c,hF,hK⟩:=h;exact⟨_,hK,λhg β act w hR dst t' p af g w' hh=>IM (run_underlying hu w') ((hR.ev hx).trans (iO hs β)) ((hR.ev hj).trans (dr hn β)) (iz hF hg).1 (iz hF hg).2⟩
  exact h.elim
 ·obtain⟨a,hx,h⟩:=bC h;split at h
  ·rename_i e hu;obtain⟨s,hs,h⟩:=bC h;obtain⟨hi,h⟩:=dB h;exact Zs hu hi hx hs h
  ·rename_i hu;obtain⟨s,hs,h⟩:=bC h;exact Zu hu hx hs h
  exact h.elim
 ·rename_i c;obtain⟨callee,⟨xs⟩,⟨ts⟩⟩:=c;split at h
  ·rename_i b hb;subst hb;exact Zr h
  exact h.elim
 exact h.elim
end
end Go.Kt.V
