import Derived.WalkKit
import Derived.Deep.Draws
import Derived.Deep.LoopGhost
import Derived.Deep.Quiet
import Derived.OrdersHeld
import Derived.Laws.Small
import Derived.Laws.AppendOwn
import Derived.Great.BuildSlice
import Derived.Laws.MakeOwn
import Derived.MapKept
import Derived.Lib.Strings
import Derived.KernelRfl
import Derived.ChangeKeysEq
import Derived.Laws.Tables
import Derived.Defers
import Derived.Test.YtmgndgpgngcgpaaGreatDoorRows
import Derived.Test.YtmgndgpgngcgpaaGreatDoorProg
import Derived.Lib.ParseIntB
import Derived.Lib.Bytealg
import Derived.Lib.ItoaLen
import Derived.Lib.AtoiErrMem
import Derived.Lib.Builder
import Derived.Lib.AppendStr
import Derived.Lib.UnsafeStr
import Derived.Lib.Join
import Derived.Lib.Repeat
import Derived.WideKeyElems
import Derived.Sort.KeysCollected
import Derived.ProofKit
import Derived.OpenShut
import Derived.SizedLaws
import Derived.Deep.Slices
import Derived.JoinedCond
import Derived.Deep.CondSized
import Derived.Lib.SplitLaws
import Derived.Lib.TrimByte
import Derived.Laws.CopyRow
import Derived.ChangeAgain
set_option linter.unusedSectionVars false
set_option linter.unusedSimpArgs false
set_option linter.unusedVariables false
theorem aE{P:Prop}(h:P:=by omega):P:=h
theorem aL{P:Prop}(h:P:=by decide):P:=h
theorem aM{P:Prop}(h:P:=by simp):P:=h
theorem aab{P:Prop}(h:P:=by unfold di;dsimp only;omega):P:=h
theorem aad{P:Prop}(h:P:=by rw[fS (by omega) (by omega)];rfl):P:=h
theorem aae{P:Prop}(h:P:=by simp;omega):P:=h
theorem aaf{P:Prop}(h:P:=by simpa using hc):P:=h
theorem aag{P:Prop}(h:P:=by simp only[aQ]at hx;simp[hx]):P:=h
theorem aah{P:Prop}(h:P:=by cases h):P:=h
theorem aai{P:Prop}(h:P:=by simp only[aQ]at hx;omega):P:=h
theorem aaj{P:Prop}(h:P:=by simp only[aX,be,ca]at hx;omega):P:=h
theorem aak{P:Prop}(h:P:=by simpa using hk):P:=h
theorem aal{P:Prop}(h:P:=by simp only[aQ];omega):P:=h
theorem aam{P:Prop}(h:P:=by rw[bO];omega):P:=h
theorem aan{P:Prop}(h:P:=by have:=aV hc;omega):P:=h
theorem aao{P:Prop}(h:P:=by have:=aW hc;omega):P:=h
theorem aap{P:Prop}(h:P:=by simpa using hb):P:=h
theorem aaq{P:Prop}(h:P:=by dsimp only;omega):P:=h
theorem aar{P:Prop}(h:P:=by dsimp only;decide):P:=h
theorem aas{P:Prop}(h:P:=by simpa using hx):P:=h
theorem aat{P:Prop}(h:P:=by simpa using h):P:=h
theorem aau{P:Prop}(h:P:=by unfold di ta;dsimp only;omega):P:=h
theorem aav{P:Prop}(h:P:=by have:=h.hG k hk;simp only[aQ]at hm;omega):P:=h
theorem aaw{P:Prop}(h:P:=by simp only[aN,aU,aZ];omega):P:=h
theorem aax{P:Prop}(h:P:=by simp at h):P:=h
theorem aay{P:Prop}(h:P:=by rw[aN,bp];omega):P:=h
theorem aaz{P:Prop}(h:P:=by simpa using h1):P:=h
theorem aaA{P:Prop}(h:P:=by intro x hx;simp only[aX,be,ca]at hx⊢;omega):P:=h
theorem aaB{P:Prop}(h:P:=by rw[hy]at ha;simpa[iB]using ha):P:=h
theorem aaC{P:Prop}(h:P:=by simpa using hi):P:=h
theorem aaE{P:Prop}(h:P:=by unfold fj at hf;omega):P:=h
theorem aaF{P:Prop}(h:P:=by simp only[aX,be,ca]at hx⊢;omega):P:=h
theorem aaG{P:Prop}(h:P:=by rw[aN];omega):P:=h
theorem aaJ{P:Prop}(h:P:=by have:=(hP.buf.lt e).2;omega):P:=h
theorem aaL{P:Prop}(h:P:=by rw[dr h0 cG];decide):P:=h
theorem aaM{P:Prop}(h:P:=by rw[hy];simp):P:=h
theorem aaP{P:Prop}(h:P:=by have:=hk.2;omega):P:=h
theorem aaR{P:Prop}(h:P:=by simpa using he):P:=h
theorem aaS{P:Prop}(h:P:=by simp only[aQ]at hk;omega):P:=h
theorem aaU{P:Prop}(h:P:=by simp only[aX,be,ca]at hq;omega):P:=h
theorem aaV{P:Prop}(h:P:=by rw[bI,bT (bd.1 hj).1];exact hj):P:=h
theorem aaW{P:Prop}(h:P:=by simp only[dT,fR,bg]at hc;exact hc▸rfl):P:=h
theorem aaX{P:Prop}(h:P:=by have:=h.hF k hk;have:=hb k hm;omega):P:=h
theorem aaY{P:Prop}(h:P:=by rw[show ao #[59]=T [59]from rfl,dQ]):P:=h
theorem aa1{P:Prop}(h:P:=by rw[jq]at hi;simpa using hi):P:=h
theorem aa2{P:Prop}(h:P:=by unfold V at h;exact h.elim):P:=h
theorem aa4{P:Prop}(h:P:=by simp[hx]):P:=h
theorem aa5{P:Prop}(h:P:=by rw[fS (by omega) (by omega)];omega):P:=h
theorem aa6{P:Prop}(h:P:=by rw[hy];rfl):P:=h
theorem aa7{P:Prop}(h:P:=by simpa using sV):P:=h
theorem aa9{P:Prop}(h:P:=by rw[kw,ba,hx]):P:=h
theorem abe{P:Prop}(h:P:=by unfold fj; omega):P:=h
theorem abh{P:Prop}(h:P:=by have:=AA g hg;simp;omega):P:=h
theorem abi{P:Prop}(h:P:=by simp only[aQ]at hy;omega):P:=h
theorem abk{P:Prop}(h:P:=by rw[lJ wr l];simp only[aN];omega):P:=h
theorem abl{P:Prop}(h:P:=by have:=(tv x hx).1;omega):P:=h
theorem abn{P:Prop}(h:P:=by rw[hs];decide):P:=h
theorem abo{P:Prop}(h:P:=by unfold fj at hn; omega):P:=h
theorem abp{P:Prop}(h:P:=by unfold jX;exact bq (by omega)):P:=h
theorem abq{P:Prop}(h:P:=by rw[ln];simp only[aU,aZ];omega):P:=h
theorem abv{P:Prop}(h:P:=by rw[aN];simp only[aU,aZ];omega):P:=h
theorem abA{P:Prop}(h:P:=by rw[aZ]at hf;omega):P:=h
theorem abE{P:Prop}(h:P:=by simpa using hm):P:=h
theorem abG{P:Prop}(h:P:=by simpa using hv):P:=h
theorem abI{P:Prop}(h:P:=by rw[bX];omega):P:=h
theorem abL{P:Prop}(h:P:=by simpa using k1):P:=h
theorem abM{P:Prop}(h:P:=by simpa using k3):P:=h
theorem abP{P:Prop}(h:P:=by simpa using k4):P:=h
theorem abQ{P:Prop}(h:P:=by unfold gV;split<;>rfl):P:=h
theorem abR{P:Prop}(h:P:=by simpa using hf):P:=h
theorem abS{P:Prop}(h:P:=by grind):P:=h
theorem abT{P:Prop}(h:P:=by have:=aV h;omega):P:=h
theorem abU{P:Prop}(h:P:=by have:=hk.1;omega):P:=h
theorem abV{P:Prop}(h:P:=by rw[jq]at ho;simpa using ho):P:=h
theorem abW{P:Prop}(h:P:=by cases e):P:=h
theorem abX{P:Prop}(h:P:=by simp[Op.equalIn,hu]):P:=h
theorem abY{P:Prop}(h:P:=by simp at hk;simp[hk]):P:=h
theorem abZ{P:Prop}(h:P:=by simp[Program.plainKey,hu]):P:=h
theorem ab0{P:Prop}(h:P:=by subst e;simp at hc):P:=h
theorem ab1{P:Prop}(h:P:=by simp only[aQ]at hq;omega):P:=h
theorem ab2{P:Prop}(h:P:=by cases hx):P:=h
theorem ab3{P:Prop}(h:P:=by simpa using h2):P:=h
theorem ab4{P:Prop}(h:P:=by simpa using h4):P:=h
theorem ab5{P:Prop}(h:P:=by have:=(uV.lt e).1;omega):P:=h
theorem ab6{P:Prop}(h:P:=by unfold mu;split<;>omega):P:=h
theorem ab7{P:Prop}(h:P:=by have:=rG.lt;omega):P:=h
theorem ab8{P:Prop}(h:P:=by rw[aZ,bI];exact qj _ _):P:=h
theorem ab9{P:Prop}(h:P:=by rw[kx,hl];rfl):P:=h
theorem aca{P:Prop}(h:P:=by decide+kernel):P:=h
theorem acb{P:Prop}(h:P:=by rw[hw];decide):P:=h
theorem acd{P:Prop}(h:P:=by simpa using hk.2):P:=h
theorem ace{P:Prop}(h:P:=by have:=BF x;omega):P:=h
theorem acf{P:Prop}(h:P:=by first | rfl | trivial):P:=h
theorem acg{P:Prop}(h:P:=by rw[h0]at hr;cases hr):P:=h
theorem ach{P:Prop}(h:P:=by rw[bX];exact hn):P:=h
theorem aci{P:Prop}(h:P:=by rw[kw];rfl):P:=h
theorem acj{P:Prop}(h:P:=by rw[hb]at hh;cases hh):P:=h
theorem ack{P:Prop}(h:P:=by rw[bp];omega):P:=h
theorem acm{P:Prop}(h:P:=by rw[hy];simp[sL]):P:=h
theorem acn{P:Prop}(h:P:=by simpa using hn):P:=h
theorem aco{P:Prop}(h:P:=by simpa using hr):P:=h
theorem acp{P:Prop}(h:P:=by simpa using hl):P:=h
theorem acq{P:Prop}(h:P:=by cases hb):P:=h
theorem acr{P:Prop}(h:P:=by simpa using hz):P:=h
theorem acs{P:Prop}(h:P:=by simpa using nI):P:=h
theorem acu{P:Prop}(h:P:=by simpa using ho):P:=h
theorem acw{P:Prop}(h:P:=by simpa using oy):P:=h
theorem acx{P:Prop}(h:P:=by simpa using qw):P:=h
theorem acy{P:Prop}(h:P:=by simpa using k2):P:=h
theorem acz{P:Prop}(h:P:=by simpa using hs):P:=h
theorem acA{P:Prop}(h:P:=by simpa using h0):P:=h
theorem acB{P:Prop}(h:P:=by simpa using Kc):P:=h
theorem acC{P:Prop}(h:P:=by simp[Addr.add]):P:=h
theorem acD{P:Prop}(h:P:=by simpa using hh):P:=h
theorem acE{P:Prop}(h:P:=by rw[cR,hx];rfl):P:=h
theorem acF{P:Prop}(h:P:=by rw[hp];decide):P:=h
theorem acG{P:Prop}(h:P:=by rw[hsz];omega):P:=h
theorem acH{P:Prop}(h:P:=by rw[h5];decide):P:=h
theorem acI{P:Prop}(h:P:=by rw[hk];rfl):P:=h
theorem acJ{P:Prop}(h:P:=by rw[h1];rfl):P:=h
theorem acK{P:Prop}(h:P:=by simp[h1]):P:=h
set_option linter.defProp false
def aN:=@List.length_append
def aO:=@if_neg
def aP:=@Bool.and_eq_true
def aQ:=@List.mem_singleton
def aR:=@if_pos
def aU:=@List.length_cons
def aV:=@of_decide_eq_true
def aW:=@of_decide_eq_false
def aX:=@List.mem_cons
def aY:=@Nat.le_refl
def aZ:=@List.length_nil
def ba:=@Int.toNat_natCast
def bc:=@Int.natCast_nonneg
def bd:=@List.getElem?_eq_some_iff
def be:=@List.not_mem_nil
def bf:=@List.append_assoc
def bg:=@Option.some.injEq
def bh:=@Nat.le_trans
def bm:=@Nat.zero_le
def bp:=@List.length_singleton
def bq:=@decide_eq_false
def br:=@congrArg
def bA:=@List.eq_nil_of_length_eq_zero
def bC:=@decide_eq_true_eq
def bD:=@Decidable.byContradiction
def bE:=@decide_eq_true
def bF:=@List.mem_of_getElem?
def bG:=@List.map_cons
def bH:=@Bool.eq_iff_iff
def bI:=@Nat.zero_add
def bJ:=@List.getElem?_eq_getElem
def bK:=@List.take_add_one
def bL:=@List.append_nil
def bN:=@Nat.eq_of_beq_eq_true
def bS:=@Bool.true_and
def bT:=@List.getElem?_append_left
def bU:=@List.take_of_length_le
def bW:=@List.length_drop
def bX:=@List.length_map
def ca:=@or_false
def ci:=@Bool.or_eq_true
def cj:=@Nat.lt_of_lt_of_le
def cp:=@List.nil_append
def cr:=@List.sum_cons
def cy:=@List.cons_append
def cD:=@List.mem_append
def cH:=@Bool.and_true
def cP:=@Bool.not_eq_true'
def cQ:=@List.getElem?_eq_none
def cR:=@List.getElem?_map
def cT:=@List.takeWhile_cons
def cV:=@List.mem_cons_of_mem
def cW:=@List.getElem?_cons_zero
def de:=@Nat.le_of_ble_eq_true
def dj:=@List.drop_of_length_le
def dk:=@Bool.false_and
def dv:=@List.all_eq_true
def dw:=@List.flatten_cons
def dx:=@List.map_append
def dy:=@beq_iff_eq
def dC:=@List.length_take
def dE:=@List.getElem?_append_right
def dF:=@List.take_zero
def dG:=@List.mem_cons_self
def dI:=@Nat.add_sub_cancel_left
def dS:=@List.contains_iff_mem
def dT:=@List.singleton_append
def ey:=@Nat.mul_le_mul_right
def eG:=@Except.ok.injEq
def eH:=@List.filter_nil
def eK:=@Prod.mk.injEq
def eL:=@List.take_append_drop
def eX:=@Option.toList_some
def eY:=@List.drop_zero
def eZ:=@Bool.or_eq_false_iff
def fb:=@Nat.add_assoc
def fp:=@List.all_cons
def ft:=@Option.isSome_iff_exists
def fD:=@Nat.add_mul
def fE:=@decide_eq_false_iff_not
def fF:=@List.take_length
def fK:=@Bool.eq_false_iff
def fL:=@Array.getElem?_eq_none
def fM:=@Option.map_eq_some_iff
def fN:=@Bool.and_false
def fO:=@Int.toNat_of_nonneg
def fQ:=@Option.map_some
def fR:=@List.head?_cons
def fU:=@List.drop_eq_getElem_cons
def gu:=@Bool.false_eq_true
def gv:=@Bool.not_eq_false'
def gz:=@Nat.add_zero
def gA:=@List.map_nil
def gL:=@List.getElem?_cons_succ
def ii:=@List.take_succ_cons
def ij:=@List.toList_toArray
def iu:=@List.sum_nil
def iw:=@Nat.le_succ
def ix:=@Int.le_refl
def iH:=@Option.getD_some
def iM:=@if_false
def iO:=@List.getElem?_drop
def iP:=@List.drop_drop
def ji:=@List.all_append
def j8:=@List.map_map
def kR:=@Array.getElem?_eq_some_iff
def kU:=@List.elem_cons
def kX:=@Nat.add_le_add
def lc:=@List.getElem?_of_mem
def lN:=@Bool.or_true
def lO:=@Nat.add_comm
def lP:=@Nat.lt_or_ge
def lZ:=@List.drop_succ_cons
def mR:=@List.filter_append
def mV:=@cond_true
def nN:=@List.size_toArray
def nP:=@List.ext_getElem?
def oA:=@Array.getElem?_setIfInBounds_ne
def oE:=@List.getElem?_toArray
def oG:=@List.take_eq_take_iff
def oH:=@Bool.and_eq_false_iff
def pw:=@List.map_take
def pz:=@List.map_drop
def qz:=@List.cons.injEq
def qA:=@Array.length_toList
def qB:=@List.map_congr_left
def rK:=@Nat.zero_mul
def rL:=@List.mem_map
def rM:=@Nat.sub_zero
def sW:=@cond_false
def sX:=@Bool.and_assoc
def tW:=@Nat.mul_one
def tX:=@List.foldl_append
def tY:=@Nat.lt_succ_of_le
def tZ:=@List.all_eq_false
def uY:=@Bool.false_or
def vV:=@Nat.le_max_right
def vW:=@List.filter_cons
def wQ:=@if_true
def wR:=@Bool.not_and
def xt:=@Option.map_none
def xu:=@List.headD_cons
def xv:=@Nat.le_max_left
def yT:=@Array.getElem?_modify
def zG:=@Bool.not_false
def Cv:=@List.flatten_append
def Cw:=@List.length_pos_iff
def Cx:=@beq_eq_false_iff_ne
def EN:=@List.getElem?_take
def EO:=@List.all_takeWhile
def GH:=@Nat.le_of_eq
def GI:=@Nat.sub_self
def GJ:=@Bool.true_or
def Ki:=@List.drop_append
def Kj:=@Option.bind_some
def Kk:=@Nat.le_of_not_lt
def Kl:=@Array.toList_inj
def Km:=@decide_eq_decide
def Kn:=@Nat.succ_le_succ
def Ko:=@Nat.lt_succ_self
def Kp:=@List.map_id
def KK:=@List.take_append_of_le_length
def OS:=@List.length_set
def OT:=@UInt8.toNat_inj
def OU:=@List.sum_append
def OW:=@Nat.not_lt_zero
def PB:=@List.take_length_add_append
def PC:=@List.drop_length_add_append
abbrev apz(w v:Go.World)(k:Nat)(p:Prop):Prop:=w.heap.size<=k->k<v.heap.size->p
abbrev aG:=Go.Value->Go.World->Prop
abbrev aH:=List UInt8
abbrev aI:=List Go.Value
abbrev aJ:=Nat->Prop
abbrev aK:=ByteArray
namespace Go.Kt
open Go renaming World->av,Value->aw
open Go Go.RowKit
structure Sl where
 a:Option Addr
 n:Nat
 c:Nat
@[reducible] def Sl.v(s:Sl):aw:=.slice s.a s.n s.c
@[reducible] def Sl.nil:Sl:=⟨none,0,0⟩
def Sl.cut(s:Sl)(l h m size:Nat):Sl:=⟨if m=l then s.a else s.a.map (·.add (l*size)),h-l,m-l⟩
def dN(s:Sl)(i:Int)(size:Nat)(ad:Addr):Prop:=∃base,s.a=some base/\0<=i/\i<s.n/\ad=base.add (i.toNat*size)
structure Only (bs:List Nat) (w w':av):Prop where
 os:w'.os=w.os
 tape:w'.tape=w.tape
 output:w'.output=w.output
 size:w.heap.size<=w'.heap.size
 block:∀k,k<w.heap.size->k∉bs->w'.heap[k]? =w.heap[k]?
def Blk(w:av)(b:Nat)(t:TypeId)(cs:List aw):Prop:=w.heap[b]? =some (.cells cs.toArray t (0,0))
def Cells(w:av)(a:Addr)(cs:List aw):Prop:=∀j v,cs[j]? =some v->w.cell? (a.add j)=some v
def cb(bs:List Nat)(w w':av):Prop:=∀b,b∈bs->w'.heap[b]? =w.heap[b]?
def fG(b:UInt8):aw:=.int .u8 b.toNat
def qe(w:av)(s:Sl)(l:List UInt8):Prop:=s.n=l.length/\(l≠[]->∃ad,s.a=some ad/\Cells w ad (l.map fG))
def Sl.blk(s:Sl):Nat:=match s.a with | some a=>a.block | none=>0
def bZ(cs:List aw)(o:Nat)(vs:List aw):List aw:=cs.take o++vs++cs.drop (o+vs.length)
section
variable {w w' sD:av} {bs bs':List Nat} {b:Nat} {t:TypeId} {cs:List aw}
theorem Blk.lt(h:Blk w b t cs):b<w.heap.size:=(kR.1 h).1
theorem Only.refl bs w:Only bs w w:=⟨rfl,rfl,rfl,aY _,λ_ _ _=>rfl⟩
theorem Only.weaken(h:Only bs w w')(hb:∀x,x∈bs->x∈bs'∨w.heap.size<=x):Only bs' w w':=
 ⟨h.os,h.tape,h.output,h.size,λk hk hn=>h.block k hk λhm=>abS⟩
theorem Only.trans(h:Only bs w w')(k:Only bs' w' sD)(hb:∀x,x∈bs'->x∈bs∨w.heap.size<=x):Only bs w sD:=
 ⟨k.os.trans h.os,k.tape.trans h.tape,k.output.trans h.output,bh h.size k.size,λi hi hn=>
  (k.block i (cj hi h.size) λhm=>abS).trans (h.block i hi hn)⟩
theorem Only.cn(h:Only bs w w')(k:Only [] w' sD):Only bs w sD:=h.trans k aM
theorem Only.cons(h:Only bs w w')(k:Only [b] w' sD):Only (b::bs) w sD:=
 (h.weaken (bs':=b::bs) λ_ hx=>.inl (cV _ hx)).trans k λx hx=>.inl abS
theorem Only.mem(h:Only bs w w')(k:Only [b] w' sD)(hb:b∈bs):Only bs w sD:=h.trans k λx hx=>.inl abS
theorem Only.new(h:Only bs w w')(k:Only [b] w' sD)(hb:w.heap.size<=b):Only bs w sD:=h.trans k λx hx=>.inr abS
theorem Only.blk(h:Only bs w w')(hb:Blk w b t cs)(hn:b∉bs):Blk w' b t cs:=(h.block b hb.lt hn).trans hb
theorem Only.below(h:Only bs w w'){B}(hB:B<=w.heap.size)(hb:∀x,x∈bs->B<=x):Below B w w':=
 ⟨h.os,h.tape,h.output,h.size,λk hk=>h.block k aE λhm=>by have:=hb k hm;omega⟩
theorem Only.uS(h:Below w.heap.size w w'):Only [] w w':=⟨h.os,h.tape,h.output,h.size,λk hk _=>h.block k hk⟩
theorem Only.drew w:Only [] w w.drew:=⟨rfl,rfl,rfl,aY _,λ_ _ _=>rfl⟩
theorem Only.drewN w n:Only [] w (w.drewN n):=⟨rfl,rfl,rfl,aY _,λ_ _ _=>rfl⟩
theorem Only.alloc w o:Only [] w (w.alloc o):=⟨rfl,rfl,rfl,aM,λk hk _=>_root_.Go.heap_alloc_old w o hk⟩
theorem Only.setRow w b cs:Only [b] w (w.setRow b cs):=⟨rfl,rfl,rfl,aM,λk _ hn=>setRow_other w b k cs acn⟩
theorem Only.same(h:Only bs w w')(hl:∀x,x∈bs'->x<w.heap.size/\x∉bs):cb bs' w w':=λx hx=>h.block x (hl x hx).1 (hl x hx).2
theorem Blk.alloc(w:av) t cs:Blk (w.alloc (.cells cs.toArray t)) w.heap.size t cs:=heap_alloc_new w _
theorem Blk.setRow(h:Blk w b t cs) Ew:Blk (w.setRow b Ew.toArray) b t Ew:=setRow_heap w b _ _ t _ h
theorem Blk.cell(h:Blk w b t cs) i:w.cell? ⟨b,i,none⟩=cs[i]? :=by rw[cell_of_row w b i cs.toArray t _ h];simp
theorem Blk.cells(h:Blk w b t cs) o vs (hv:∀j v,vs[j]? =some v->cs[o+j]? =some v):Cells w ⟨b,o,none⟩ vs:=λj v hj=>by
 have afr:(⟨b,o,none⟩:Addr).add j=⟨b,o+j,none⟩:=by unfold Addr.add<;>simp_all
 rw[afr,h.cell];exact hv j v hj
theorem Blk.B4(h:Blk w b t cs) o vs (hv:(cs.drop o).take vs.length=vs):Cells w ⟨b,o,none⟩ vs:=h.cells o vs λj v hj=>abS
theorem Cells.one{a}{v}(h:Cells w a [v]):w.cell? a=some v:=by have:=h 0 v rfl;simpa[Addr.add]using this
theorem Cells.keep{a}(h:Cells w a cs)(hk:w'.heap[a.block]? =w.heap[a.block]?):Cells w' a cs:=λj v hj=>by
 rw[World.cell?_of_block (w:=w) _ (a:=a.add j)]
 ·exact h j v hj
 have:(a.add j).block=a.block:=by unfold Addr.add;split<;>rfl
 rw[this,hk]
theorem Cells.lt'{a}(h:Cells w a cs)(hc:cs≠[]):a.block<w.heap.size:=by
 cases cs with
 | nil=>exact absurd rfl hc
 | cons v cs=>
  have h2:=block_lt_of_cell (h 0 v rfl);have e:(a.add 0).block=a.block:=rfl;omega
theorem Cells.lt{a}{v}(h:Cells w a (v::cs)):a.block<w.heap.size:=by
 have:=h 0 v rfl;have h2:=block_lt_of_cell this;have e:(a.add 0).block=a.block:=rfl;omega
end
section
variable {P:Program} {ops:Array Oper} {Q:Exit->Act->av->Prop} {rest:List Oper} {a a':Act} {w w':av}
theorem f0(l:List aw) ds (k:Nat) v:Act.put ⟨l.toArray,ds⟩ (some k) v=⟨(l.set k v).toArray,ds⟩:=by simp[Act.put]
theorem f1 x l (v:aw):(x::l).set 0 v=v::l:=rfl
theorem f3(a:Act) v:a.put none v=a:=rfl
theorem f2 x l k (v:aw):(x::l).set (k+1) v=x::l.set k v:=rfl
def fV:List Oper->Nat->Option Oper
 | [],_=>none
 | v::_,0=>some v
 | _::r,n+1=>fV r n
theorem jq:∀l n,fV l n=l[n]?
 | [],_=>rfl
 | _::_,0=>rfl
 | _::r,n+1=>jq r n
def PD:List aw->Nat->Option aw
 | [],_=>none
 | v::_,0=>some v
 | _::r,n+1=>PD r n
theorem AH:∀l n,PD l n=l[n]?
 | [],_=>rfl
 | _::_,0=>rfl
 | _::r,n+1=>AH r n
theorem wt{o oj}{dK}{l}{ds}{j d:Nat}{want b r}(h1:o.guard=some (j,want))(h2:fV dK j=some oj)(h3:oj.dst=some d)
  (h4:PD l d=some (.bool b)) (h5:(b==want)=r):Region.wanted o (yielded dK.toArray (⟨l.toArray,ds⟩:Act).tmps)=r:=by
 subst h5;rw[jq]at h2;rw[AH]at h4;have e:yielded dK.toArray (⟨l.toArray,ds⟩:Act).tmps j=some b:=by simp[yielded,h2,h3,h4]
 simp only[Region.wanted,h1,e];rfl
theorem wu{o oj}{dK}{l}{ds}{j d:Nat}{want}(h1:o.guard=some (j,want))(h2:fV dK j=some oj)(h3:oj.dst=some d)
  (h4:PD l d=some undef):Region.wanted o (yielded dK.toArray (⟨l.toArray,ds⟩:Act).tmps)=false:=by
 rw[jq]at h2;rw[AH]at h4;have e:yielded dK.toArray (⟨l.toArray,ds⟩:Act).tmps j=none:=by simp[yielded,h2,h3,h4,undef]
 simp[Region.wanted,h1,e]
theorem wn{o}{f}(h:o.guard=none):Region.wanted o f=true:=by simp[Region.wanted,h]
theorem E2{o} v (hg:Region.wanted o (yielded ops a.tmps)=true)
  (hr:(execOp a.eval o).run P w=.ok (.value v) w') (ha:a.put o.dst v=a') (h:wpList P ops Q rest a' w'):wpList P ops Q (o::rest) a w:=by
 subst ha;unfold wpList;rw[aR hg];refine .inl ?_;unfold Oper.wp;rw[hr];exact h
theorem RP{o}(hg:Region.wanted o (yielded ops a.tmps)=false)(ha:a.put o.dst undef=a')(h:wpList P ops Q rest a' w):wpList P ops Q (o::rest) a w:=by
 subst ha;unfold wpList;simp_all
theorem AI{dst}{ty}{x}{t'}{p}{af}{g}{ad}{v}
  (Gc:(isAgg ty).run P w=.ok false w) (hx:a.eval x=.pointer (some ad)) (hc:w.cell? ad=some v):
  (execOp a.eval ⟨dst,.load ty x,t',p,af,g⟩).run P w=.ok (.value v) w:=by
 simp[execOp,hx,Instr.loadAt,Instr.sureAddr,Sem.run_bind,Sem.run_pure,Result.andThen_ok,loadVar,Gc,gu,iM,run_load,hc]
theorem rN{dst}{ty}{x}{t'}{p}{af}{g}{ad}{cs}{n}
  (Gc:(isAgg ty).run P w=.ok true w) (hsz:(sizeOf ty).run P w=.ok n w) (hn:cs.length=n) (hx:a.eval x=.pointer (some ad)) (hc:Cells w ad cs):
  (execOp a.eval ⟨dst,.load ty x,t',p,af,g⟩).run P w=.ok (.value (.agg cs.toArray)) w:=by
 have hl:=run_loadCells_list (P:=P) w ad cs hc;rw[hn]at hl;simp[execOp,hx,Instr.loadAt,Instr.sureAddr,Sem.run_bind,Sem.run_pure,Result.andThen_ok,loadVar,Gc,wQ,hsz,hl]
theorem PE{dst}{ty}{x y}{t'}{p}{af}{g}{b o}{cs vs}{et}{n}
  (hsz:(sizeOf ty).run P w=.ok n w) (hx:a.eval x=.pointer (some ⟨b,o,none⟩)) (hv:(a.eval y).cells=vs.toArray) (hn:vs.length=n)
  (h1:∀v∈vs,v.oneCell'=true) (hb:Blk w b et cs) (JP:o+vs.length<=cs.length):
  (execOp a.eval ⟨dst,.store ty x y,t',p,af,g⟩).run P w=.ok .skip (w.setRow b (bZ cs o vs).toArray):=by
 simp[execOp,hx,Instr.storeAt,Instr.sureAddr,Sem.run_bind,Sem.run_pure,Result.andThen_ok,storeVar,hsz,hv,nN,hn,ne_eq,not_true_eq_false,iM,run_storeCells_at P b o et vs 0 cs.toArray w hb aE h1,bZ]
theorem PF{dst}{ty}{t'}{p}{af}{g}{z}{zs:List aw}
  (hz:(zeroValue ty).run P w=.ok z w) (hc:z.cells=zs.toArray):
  (execOp a.eval ⟨dst,.alloc ty,t',p,af,g⟩).run P w=.ok (.value (.pointer (some ⟨w.heap.size,0,none⟩))) (w.alloc (.cells zs.toArray ty)):=by
 simp only[execOp,Instr.alloc,Sem.run_bind,hz,Result.andThen_ok,newVar,hc];rfl
theorem Xt{dst}{ty}{x}{t'}{p}{af}{g}{zs:List aw}
  (hc:(a.eval x).cells=zs.toArray):
  (execOp a.eval ⟨dst,.box ty x,t',p,af,g⟩).run P w=.ok (.value (.pointer (some ⟨w.heap.size,0,none⟩))) (w.alloc (.cells zs.toArray ty)):=by
 simp only[execOp,Instr.box,newVar,hc];rfl
theorem KL{dst}{x}{t'}{p}{af}{g}{ad}(hx:a.eval x=.pointer (some ad)):
  (execOp a.eval ⟨dst,.nilCheck x,t',p,af,g⟩).run P w=.ok (.value (.pointer (some ad))) w:=by
 simp[execOp,hx]
theorem GK{dst}{s}{x}{k}{t'}{p}{af}{g}{ad Gd}{fs}{f}{n}
  (hu:(underlying s).run P w=.ok (.struct fs) w) (hf:fs[k]? =some f) (hsz:(sizeOf f.type).run P w=.ok (n+1) w) (hx:a.eval x=.pointer (some ad)) (he:ad.add f.offset=Gd):
  (execOp a.eval ⟨dst,.fieldAddr s x k,t',p,af,g⟩).run P w=.ok (.value (.pointer (some Gd))) w:=by
 subst he;simp[execOp,hx,Instr.fieldAt,Instr.sureAddr,hu,hf,fieldPlace,hsz]
theorem PG{dst}{c x y}{t'}{p}{af}{g}{v}(hc:a.eval c=.bool true)(hv:a.eval x=v):
  (execOp a.eval ⟨dst,.pick c x y,t',p,af,g⟩).run P w=.ok (.value v) w:=by
 subst hv;simp[execOp,hc,asBool]
theorem PH{dst}{c x y}{t'}{p}{af}{g}{v}(hc:a.eval c=.bool false)(hv:a.eval y=v):
  (execOp a.eval ⟨dst,.pick c x y,t',p,af,g⟩).run P w=.ok (.value v) w:=by
 subst hv;simp[execOp,hc,asBool]
theorem PI{dst}{t}{ps:List _}{t'}{p}{af}{g}{ZU}{v}
  (hp:(ps.map λq=>(q.1,a.eval q.2))=ZU) (hr:(Instr.build t ZU.toArray).run P w=.ok v w):
  (execOp a.eval ⟨dst,.build t ps.toArray,t',p,af,g⟩).run P w=.ok (.value v) w:=by
 subst hp;simp[execOp,hr]
theorem KM{dst}{t e}{x i}{t'}{p}{af}{g}{s}{k}{n}{ad}{sz}
  (hu:(underlying t).run P w=.ok (.slice e) w) (hsz:(sizeOf e).run P w=.ok sz w) (hx:a.eval x=s.v) (hi:a.eval i=.int k n) (cG:dN s n sz ad):
  (execOp a.eval ⟨dst,.indexAddr t x i,t',p,af,g⟩).run P w=.ok (.value (.pointer (some ad))) w:=by
 obtain⟨base,hb,h0,h1,rfl⟩:=cG;simp[execOp,hx,hi,Instr.indexAt,asIntOf,hu,hsz,hb,h0,h1]
theorem ua{dst:Option Tmp}{t e:TypeId}{x i:Operand}{t'}{p}{af}{g}{len}{k}{n}{ad Gd}{sz}
  (hu:(underlying t).run P w=.ok (.array len e) w) (hsz:(sizeOf e).run P w=.ok sz w) (hx:a.eval x=.pointer (some ad)) (hi:a.eval i=.int k n) (h0:0<=n) (h1:n<len) (he:ad.add (n.toNat*sz)=Gd):
  (execOp a.eval ⟨dst,.indexAddr t x i,t',p,af,g⟩).run P w=.ok (.value (.pointer (some Gd))) w:=by
 subst he;simp[execOp,hx,hi,Instr.indexAt,asIntOf,hu,hsz,h0,h1,Instr.sureAddr]
theorem lg{b}{s}{dst}{xs:List Operand}{ts}{t'}{p}{af}{g}{v}
  (hb:∀U2,builtin b ts t' U2 (xs.map a.eval).toArray=(do pure (.value (<-s)))) (hr:s.run P w=.ok v w'):
  (execOp a.eval ⟨dst,.call ⟨.builtin b,xs.toArray,ts⟩,t',p,af,g⟩).run P w=.ok (.value v) w':=by
 simp[execOp,resolve,invoke,List.map_toArray];simp_all
theorem vf{dst}{xs:List Operand}{ts}{t'}{p}{af}{g}{v}{vs}(hx:xs.map a.eval=vs)
  (hr:(Builtin.append_ ts t' vs.toArray).run P w=.ok v w'):(execOp a.eval ⟨dst,.call ⟨.builtin .append,xs.toArray,ts⟩,t',p,af,g⟩).run P w=.ok (.value v) w':=by
 subst hx;exact lg (λ_=>rfl) hr
theorem xw{dst}{xs:List Operand}{ts}{t'}{p}{af}{g}{v}{vs}(hx:xs.map a.eval=vs)
  (hr:(Builtin.copy_ ts t' vs.toArray).run P w=.ok v w'):(execOp a.eval ⟨dst,.call ⟨.builtin .copy,xs.toArray,ts⟩,t',p,af,g⟩).run P w=.ok (.value v) w':=by
 subst hx;exact lg (λ_=>rfl) hr
theorem vg{dst}{xs:List Operand}{ts}{t'}{p}{af}{g}{v}{vs}(hx:xs.map a.eval=vs)
  (hr:(Builtin.delete_ ts t' vs.toArray).run P w=.ok v w'):(execOp a.eval ⟨dst,.call ⟨.builtin .delete,xs.toArray,ts⟩,t',p,af,g⟩).run P w=.ok (.value v) w':=by
 subst hx;exact lg (λ_=>rfl) hr
theorem wz{dst}{xs:List Operand}{ts}{t'}{p}{af}{g}{v}{vs}(hx:xs.map a.eval=vs)
  (hr:(Builtin.clear_ ts t' vs.toArray).run P w=.ok v w'):(execOp a.eval ⟨dst,.call ⟨.builtin .clear,xs.toArray,ts⟩,t',p,af,g⟩).run P w=.ok (.value v) w':=by
 subst hx;exact lg (λ_=>rfl) hr
theorem zd{dst}{xs:List Operand}{ts}{t'}{p}{af}{g}{v}{vs}(hx:xs.map a.eval=vs)
  (hr:(Builtin.len_ ts t' vs.toArray).run P w=.ok v w'):(execOp a.eval ⟨dst,.call ⟨.builtin .len,xs.toArray,ts⟩,t',p,af,g⟩).run P w=.ok (.value v) w':=by
 subst hx;exact lg (λ_=>rfl) hr
section
variable {dst:Option Tmp} {x y z:Operand} {t t2:TypeId} {t':TypeId} {p:String} {af:Array Edge} {g:Option (Nat×Bool)} {u v vx vy vz:aw}
theorem AJ{n}{ps:List _}{ZU}(hp:(ps.map λq=>(q.1,a.eval q.2))=ZU)(hr:(Instr.buildSlice t n ZU.toArray).run P w=.ok v w'):
  (execOp a.eval ⟨dst,.buildSlice t n ps.toArray,t',p,af,g⟩).run P w=.ok (.value v) w':=by
 subst hp;simp[execOp,hr]
theorem CH(hx:a.eval x=vx)(hy:a.eval y=vy)(hr:(Instr.makeSlice t vx vy).run P w=.ok v w'):(execOp a.eval ⟨dst,.makeSlice t x y,t',p,af,g⟩).run P w=.ok (.value v) w':=by simp[execOp,hx,hy,hr]
theorem I1(hr:(Instr.makeMap t none).run P w=.ok v w'):(execOp a.eval ⟨dst,.makeMap t none,t',p,af,g⟩).run P w=.ok (.value v) w':=by simp[execOp,hr]
theorem E3(hx:a.eval x=vx)(hr:(Instr.makeMap t (some vx)).run P w=.ok v w'):(execOp a.eval ⟨dst,.makeMap t (some x),t',p,af,g⟩).run P w=.ok (.value v) w':=by simp[execOp,hx,hr]
theorem KN{b}(hx:a.eval x=vx)(hy:a.eval y=vy)(hr:(Instr.lookup t vx vy b).run P w=.ok v w'):(execOp a.eval ⟨dst,.lookup t x y b,t',p,af,g⟩).run P w=.ok (.value v) w':=by simp[execOp,hx,hy,hr]
theorem CI(hx:a.eval x=vx)(hy:a.eval y=vy)(hz:a.eval z=vz)(hr:(Instr.mapUpdate t vx vy vz).run P w=.ok () w'):(execOp a.eval ⟨dst,.mapUpdate t x y z,t',p,af,g⟩).run P w=.ok .skip w':=by simp[execOp,hx,hy,hz,hr]
theorem KO(hx:a.eval x=vx)(hy:a.eval y=vy)(hz:a.eval z=vz)(hr:(Instr.mapUpdate t vx vy vz).run P w=.ok () w'):(execOp a.eval ⟨dst,.insert t x y z,t',p,af,g⟩).run P w=.ok .skip w':=by simp[execOp,hx,hy,hz,hr]
theorem I2(hx:a.eval x=vx)(hr:(convert t t2 vx).run P w=.ok v w'):(execOp a.eval ⟨dst,.convert t t2 x,t',p,af,g⟩).run P w=.ok (.value v) w':=by simp[execOp,hx,hr]
end
theorem Xu{dst:Option Tmp}{t:TypeId}{e:TypeId}{x:Operand}{t':TypeId}{p:String}{af:Array Edge}{g}{s:Sl}
  (hu:(underlying t).run P w=.ok (.slice e) w) (hx:a.eval x=s.v):
  (execOp a.eval ⟨dst,.call ⟨.builtin .len,#[x],#[t]⟩,t',p,af,g⟩).run P w=.ok (.value (.int .i64 s.n)) w:=by
 simp[execOp,resolve,invoke,builtin,Builtin.len_,hu,hx,goInt]
theorem CJ{dst}{x}{f}{first captured}{xs:List Operand}{ats}{t'}{p}{af}{g}{args}
  (hx:a.eval x=.func (.func f) first.toArray captured.toArray)
  (hc:∀args w,(callFunc f args).run P w=.ok (.enter f args) w) (ha:first++xs.map a.eval++captured=args):
  (execOp a.eval ⟨dst,.call ⟨.value x,xs.toArray,ats⟩,t',p,af,g⟩).run P w=.ok (.enter f args.toArray) w:=by
 subst ha;simp only[execOp,resolve,hx,Deferred.ofValue,Sem.run_bind,Sem.run_pure,Result.andThen_ok,invoke,hc];simp
theorem lh{x}{k}{i y}{code}(hx:x=.int k i)(h:i<=y):(Instr.sliceBound x y code).run P w=.ok i w:=by
 subst hx;have:=aE
 simp[Instr.sliceBound,asIntOf,this]
theorem xx{dst}{s d e}{x}{t'}{p}{af}{g}{sl}{l}
  (hs:P.underlying s=some (.slice e)) (he:P.underlying e=some (.int .u8)) (hd:P.underlying d=some .string) (hx:a.eval x=sl.v) (hb:qe w sl l):
  (execOp a.eval ⟨dst,.convert s d x,t',p,af,g⟩).run P w=.ok (.value (.string ⟨l.toArray⟩)) w:=by
 obtain⟨hn,hc⟩:=hb;obtain⟨sa,sn,sc⟩:=sl;subst hn;have key:(convert s d (.slice sa l.length sc)).run P w=.ok (.string ⟨l.toArray⟩) w:=by
  cases sa with
  | none=>
   have:l=[]:=Classical.byContradiction λh=>abS
   subst this;exact run_convert_bytes_nil w s e hs he _ _ d hd
  | some ad=>
   refine run_convert_bytes_back w s d e ad sc l hs he hd λj hj=>?_;obtain⟨Gd,h1,h2⟩:=hc (λh=>by simp[h]at hj);injection h1 with h1;subst h1;exact h2 j _ (by simp[fG,bJ hj])
 simp[execOp,hx,key]
theorem E4{dst}{fn}{fs cs:List Operand}{t'}{p}{af}{g}{fv cv}(h1:fs.map a.eval=fv)(h2:cs.map a.eval=cv):
  (execOp a.eval ⟨dst,.makeFunc fn fs.toArray cs.toArray,t',p,af,g⟩).run P w=.ok (.value (.func fn fv.toArray cv.toArray)) w:=by
 subst h1;subst h2;simp[execOp,Instr.makeFunc]
theorem Xv{dst}{t ty}{x y}{t'}{p}{af}{g}{k}{m n}(hx:a.eval x=.int k m)(hy:a.eval y=.int k n)(hn:n≠0):
  (execOp a.eval ⟨dst,.binOp .quo t x y ty,t',p,af,g⟩).run P w=.ok (.value (.int k (k.wrap (m.tdiv n)))) w:=by
 have e:binOp .quo t (.int k m) (.int k n)=Op.intDiv .quo k m n:=by simp[binOp]
 have hg:eqGuard .quo t x y (.int k m) (.int k n)=pure _:=rfl;simp[execOp,hx,hy,hg,e,Op.intDiv,hn,iM,Sem.run_bind,Sem.run_pure,Result.andThen_ok]
theorem Xw{dst}{t ty}{x y}{t'}{p}{af}{g}{k}{m n}(hx:a.eval x=.int k m)(hy:a.eval y=.int k n)(hn:n≠0):
  (execOp a.eval ⟨dst,.binOp .rem t x y ty,t',p,af,g⟩).run P w=.ok (.value (.int k (m.tmod n))) w:=by
 have e:binOp .rem t (.int k m) (.int k n)=Op.intDiv .rem k m n:=by simp[binOp]
 have hg:eqGuard .rem t x y (.int k m) (.int k n)=pure _:=rfl;simp[execOp,hx,hy,hg,e,Op.intDiv,hn,iM,Sem.run_bind,Sem.run_pure,Result.andThen_ok]
theorem Xx{dst}{t ty}{x y}{t'}{p}{af}{g}{k k'}{m n}(hx:a.eval x=.int k m)(hy:a.eval y=.int k' n)(hn:0<=n):
  (execOp a.eval ⟨dst,.binOp .shl t x y ty,t',p,af,g⟩).run P w=.ok (.value (.int k (k.wrap (m*2 ^ (min n.toNat k.bits))))) w:=by
 have hg:eqGuard .shl t x y (.int k m) (.int k' n)=pure _:=rfl;have e:binOp .shl t (.int k m) (.int k' n)=Op.shift .shl k m k' n:=rfl;have ZV:¬n<0:=aE
 simp[execOp,hx,hy,hg,e,Op.shift,ZV,iM,Sem.run_bind,Sem.run_pure,Result.andThen_ok]
theorem Xy{dst}{t ty}{x y}{t'}{p}{af}{g}{k k'}{m n}(hx:a.eval x=.int k m)(hy:a.eval y=.int k' n)(hn:0<=n):
  (execOp a.eval ⟨dst,.binOp .shr t x y ty,t',p,af,g⟩).run P w=.ok (.value (.int k (m.fdiv (2 ^ (min n.toNat k.bits))))) w:=by
 have hg:eqGuard .shr t x y (.int k m) (.int k' n)=pure _:=rfl;have e:binOp .shr t (.int k m) (.int k' n)=Op.shift .shr k m k' n:=rfl;have ZV:¬n<0:=aE
 simp[execOp,hx,hy,hg,e,Op.shift,ZV,iM,Sem.run_bind,Sem.run_pure,Result.andThen_ok]
theorem E5{dst}{t}{x i}{t'}{p}{af}{g}{s}{k}{n}{c}
  (hu:(underlying t).run P w=.ok .string w) (hx:a.eval x=.string s) (hi:a.eval i=.int k n) (h0:0<=n) (h1:s[n.toNat]? =some c):
  (execOp a.eval ⟨dst,.index t x i,t',p,af,g⟩).run P w=.ok (.value (.int .u8 c.toNat)) w:=by
 simp[execOp,hx,hi,Instr.index,asIntOf,hu,Sem.run_bind,Sem.run_pure,Result.andThen_ok,h0,wQ,h1]
theorem KP{dst}{t ty}{x y}{t'}{p}{af}{g}{s u}(hx:a.eval x=.string s)(hy:a.eval y=.string u)(hn:(s.size:Int)+u.size<=9223372036854775807):
  (execOp a.eval ⟨dst,.binOp .add t x y ty,t',p,af,g⟩).run P w=.ok (.value (.string (s++u))) w:=by
 have hg:eqGuard .add t x y (.string s) (.string u)=pure _:=rfl;have e:binOp .add t (.string s) (.string u)=Op.stringOp .add s u:=rfl;have ZV:¬((s.size+u.size:Nat))>IntKind.i64.max:=by simp_all
 simp only[execOp,hx,hy,hg,e,Op.stringOp,ZV,iM,Sem.run_bind,Sem.run_pure,Result.andThen_ok]
theorem Xz{dst}{t}{e}{x}{t'}{p}{af}{g}{s:Sl}
  (hu:(underlying t).run P w=.ok (.slice e) w) (hx:a.eval x=s.v):
  (execOp a.eval ⟨dst,.call ⟨.builtin .cap,#[x],#[t]⟩,t',p,af,g⟩).run P w=.ok (.value (.int .i64 s.c)) w:=by
 simp[execOp,resolve,invoke,builtin,Builtin.cap_,hu,hx,goInt]
theorem AK{dst:Option Tmp}{t:TypeId}{x lo:Operand}{t':TypeId}{p:String}{af:Array Edge}{g:Option (Nat×Bool)}{s:ByteArray}{k:IntKind}{l:Nat}
  (hu:(underlying t).run P w=.ok .string w) (hx:a.eval x=.string s) (hl:a.eval lo=.int k (l:Int)) (h1:l<=s.size) (_h2:s.size<=s.size):
  (execOp a.eval ⟨dst,.slice t x (some lo) none none,t',p,af,g⟩).run P w=.ok (.value (.string (s.extract l s.size))) w:=by
 simp[execOp,hx,Instr.sliceAt,hu,Instr.slice,Instr.sliceBounds,lh hl h1]
theorem AM{dst}{t}{x hi}{t'}{p}{af}{g}{s}{k}{h:Nat}
  (hu:(underlying t).run P w=.ok .string w) (hx:a.eval x=.string s) (hh:a.eval hi=.int k h) (_h1:0<=h) (h2:h<=s.size):
  (execOp a.eval ⟨dst,.slice t x none (some hi) none,t',p,af,g⟩).run P w=.ok (.value (.string (s.extract 0 h))) w:=by
 simp[execOp,hx,Instr.sliceAt,hu,Instr.slice,Instr.sliceBounds,lh hh h2]
theorem AN{dst}{t}{x lo hi}{t'}{p}{af}{g}{s}{k k'}{l h:Nat}
  (hu:(underlying t).run P w=.ok .string w) (hx:a.eval x=.string s) (hl:a.eval lo=.int k l) (hh:a.eval hi=.int k' h) (h1:l<=h) (h2:h<=s.size):
  (execOp a.eval ⟨dst,.slice t x (some lo) (some hi) none,t',p,af,g⟩).run P w=.ok (.value (.string (s.extract l h))) w:=by
 simp[execOp,hx,Instr.sliceAt,hu,Instr.slice,Instr.sliceBounds,lh hh h2,lh hl h1]
theorem zH{dst}{s d}{x}{t'}{p}{af}{g}{ks kd k}{n}
  (hs:(underlying s).run P w=.ok (.int ks) w) (hd:(underlying d).run P w=.ok (.int kd) w) (hx:a.eval x=.int k n):
  (execOp a.eval ⟨dst,.convert s d x,t',p,af,g⟩).run P w=.ok (.value (.int kd (kd.wrap n))) w:=by
 simp[execOp,hx,convert,hs,hd,Conv.intToInt]
theorem zI{dst:Option Tmp}{s d:TypeId}{x:Operand}{t':TypeId}{p:String}{af:Array Edge}{g:Option (Nat×Bool)}{n:ByteArray}
  (hs:(underlying s).run P w=.ok .string w) (hd:(underlying d).run P w=.ok .string w) (hx:a.eval x=.string n):
  (execOp a.eval ⟨dst,.convert s d x,t',p,af,g⟩).run P w=.ok (.value (.string n)) w:=by
 simp[execOp,hx,convert,hs,hd]
theorem PJ{dst}{t}{x}{t'}{p}{af}{g}{d}{v}
  (hu:(underlying t).run P w=.ok d w) (hd:(match d with | .interface _=>false | _=>true)=true) (hx:a.eval x=v):
  (execOp a.eval ⟨dst,.makeInterface t x,t',p,af,g⟩).run P w=.ok (.value (.iface t v)) w:=by
 subst hx;cases d<;>first | (simp at hd;done) | simp[execOp,Instr.makeInterface,hu]
theorem KQ{dst:Option Tmp}{t:TypeId}{x:Operand}{t':TypeId}{p:String}{af:Array Edge}{g:Option (Nat×Bool)}{s:ByteArray}
  (hu:(underlying t).run P w=.ok .string w) (hx:a.eval x=.string s):
  (execOp a.eval ⟨dst,.call ⟨.builtin .len,#[x],#[t]⟩,t',p,af,g⟩).run P w=.ok (.value (.int .i64 s.size)) w:=by
 simp[execOp,resolve,invoke,builtin,Builtin.len_,hu,hx,goInt]
theorem XA{dst}{ts}{x y}{t'}{p}{af}{g}{k k'}{m n}(hx:a.eval x=.int k m)(hy:a.eval y=.int k' n):
  (execOp a.eval ⟨dst,.call ⟨.builtin .min,#[x,y],ts⟩,t',p,af,g⟩).run P w=.ok (.value (.int k (if n<m then n else m))) w:=by
 simp[execOp,resolve,invoke,builtin,hx,hy,run_min_int2]
theorem XC{dst:Option Tmp}{ts}{x y}{t'}{p}{af}{g}{k k'}{m n}(hx:a.eval x=.int k m)(hy:a.eval y=.int k' n):
  (execOp a.eval ⟨dst,.call ⟨.builtin .max,#[x,y],ts⟩,t',p,af,g⟩).run P w=.ok (.value (.int k (if n>m then n else m))) w:=by
 simp[execOp,resolve,invoke,builtin,hx,hy,run_max_int2]
theorem AO{dst:Option Tmp}{t ty:TypeId}{x y:Operand}{t':TypeId}{p:String}{af:Array Edge}{g:Option (Nat×Bool)}{e:TypeId}{q:Option Addr}{b:Bool}(hu:(underlying t).run P w=.ok (.pointer e) w)(hx:a.eval x=.pointer q)(hy:a.eval y=.pointer none)(hb:(q.isNone)=b):
  (execOp a.eval ⟨dst,.binOp .eql t x y ty,t',p,af,g⟩).run P w=.ok (.value (.bool b)) w:=by
 subst hb;have hE:∀d,(Op.equalIn (d+1) t (.pointer q) (.pointer none)).run P w=.ok q.isNone w:=λd=>by
  unfold Op.equalIn;cases q<;>simp only[Sem.run_bind,hu,Result.andThen_ok]<;>rfl
 have hB:binOp .eql t (.pointer q) (.pointer none)=(do pure (.bool ((<-Op.equal t (.pointer q) (.pointer none))))):=by cases q<;>rfl
 have hG:eqGuard .eql t x y (.pointer q) (.pointer none)=pure ():=rfl;simp only[execOp,hx,hy,hG,hB,Op.equal,Op.maxDepth,Sem.run_bind,Sem.run_pure,Result.andThen_ok,hE 9999]
theorem AP{dst}{t ty}{x y}{t'}{p}{af}{g}{e}{q}{b}(hu:(underlying t).run P w=.ok (.pointer e) w)(hx:a.eval x=.pointer none)(hy:a.eval y=.pointer q)(hb:(q.isNone)=b):
  (execOp a.eval ⟨dst,.binOp .eql t x y ty,t',p,af,g⟩).run P w=.ok (.value (.bool b)) w:=by
 subst hb;have hE:∀d,(Op.equalIn (d+1) t (.pointer none) (.pointer q)).run P w=.ok q.isNone w:=λd=>abX
 have hB:binOp .eql t (.pointer none) (.pointer q)=(do pure (.bool ((<-Op.equal t (.pointer none) (.pointer q))))):=rfl;have hG:eqGuard .eql t x y (.pointer none) (.pointer q)=pure _:=rfl;simp[execOp,hx,hy,hG,hB,Op.equal,Op.maxDepth,Sem.run_bind,Sem.run_pure,Result.andThen_ok,hE 9999]
theorem AQ{dst}{t ty}{x y}{t'}{p}{af}{g}{e}{q}{b}(hu:(underlying t).run P w=.ok (.pointer e) w)(hx:a.eval x=.pointer q)(hy:a.eval y=.pointer none)(hb:(!q.isNone)=b):
  (execOp a.eval ⟨dst,.binOp .neq t x y ty,t',p,af,g⟩).run P w=.ok (.value (.bool b)) w:=by
 subst hb;have hE:∀d,(Op.equalIn (d+1) t (.pointer q) (.pointer none)).run P w=.ok q.isNone w:=λd=>by
  unfold Op.equalIn;cases q<;>simp only[Sem.run_bind,hu]<;>rfl
 have hB:binOp .neq t (.pointer q) (.pointer none)=(do pure (.bool (!(<-Op.equal t (.pointer q) (.pointer none))))):=rfl;have hG:eqGuard .neq t x y (.pointer q) (.pointer none)=pure _:=rfl;simp[execOp,hx,hy,hG,hB,Op.equal,Op.maxDepth,Sem.run_bind,Sem.run_pure,Result.andThen_ok,hE 9999]
theorem AR{dst:Option Tmp}{t ty}{x y}{t'}{p}{af}{g}{e}{q}{b}(hu:(underlying t).run P w=.ok (.pointer e) w)(hx:a.eval x=.pointer none)(hy:a.eval y=.pointer q)(hb:(!q.isNone)=b):
  (execOp a.eval ⟨dst,.binOp .neq t x y ty,t',p,af,g⟩).run P w=.ok (.value (.bool b)) w:=by
 subst hb;have hE:∀d,(Op.equalIn (d+1) t (.pointer none) (.pointer q)).run P w=.ok q.isNone w:=λd=>abX
 have hB:binOp .neq t (.pointer none) (.pointer q)=(do pure (.bool (!(<-Op.equal t (.pointer none) (.pointer q))))):=by cases q<;>rfl
 have hG:eqGuard .neq t x y (.pointer none) (.pointer q)=pure _:=rfl;simp[execOp,hx,hy,hG,hB,Op.equal,Op.maxDepth,Sem.run_bind,Sem.run_pure,Result.andThen_ok,hE 9999]
theorem I3{dst}{t ty}{x y}{t'}{p}{af}{g}{m n}(hu:P.underlying t=some .bool)(hx:a.eval x=.bool m)(hy:a.eval y=.bool n):
  (execOp a.eval ⟨dst,.binOp .eql t x y ty,t',p,af,g⟩).run P w=.ok (.value (.bool (m==n))) w:=by
 have hG:eqGuard .eql t x y (.bool m) (.bool n)=pure _:=rfl;simp[execOp,hx,hy,hG,run_eql_bool w t m n hu]
theorem I4{dst}{t ty}{x y}{t'}{p}{af}{g}{m n}(hu:P.underlying t=some .bool)(hx:a.eval x=.bool m)(hy:a.eval y=.bool n):
  (execOp a.eval ⟨dst,.binOp .neq t x y ty,t',p,af,g⟩).run P w=.ok (.value (.bool (!(m==n)))) w:=by
 have hG:eqGuard .neq t x y (.bool m) (.bool n)=pure _:=rfl;simp[execOp,hx,hy,hG,run_neq_bool w t m n hu]
theorem CK{dst:Option Tmp}{t ty:TypeId}{x y:Operand}{t'}{p}{af}{g}{e}{s:Sl}(hu:(underlying t).run P w=.ok (.slice e) w)(hx:a.eval x=s.v)(hy:a.eval y=.slice none 0 0):
  (execOp a.eval ⟨dst,.binOp .eql t x y ty,t',p,af,g⟩).run P w=.ok (.value (.bool (s.a.isNone))) w:=by
 obtain⟨sa,sn,sc⟩:=s;have hE:∀d,(Op.equalIn (d+1) t (.slice sa sn sc) (.slice none 0 0)).run P w=.ok sa.isNone w:=λd=>by
  unfold Op.equalIn;cases sa<;>simp only[Sem.run_bind,hu]<;>rfl
 have hB:binOp .eql t (.slice sa sn sc) (.slice none 0 0)=(do pure (.bool ((<-Op.equal t (.slice sa sn sc) (.slice none 0 0))))):=by cases sa<;>rfl
 have hG:eqGuard .eql t x y (.slice sa sn sc) (.slice none 0 0)=pure _:=rfl;simp[execOp,hx,hy,hG,hB,Op.equal,Op.maxDepth,Sem.run_bind,Sem.run_pure,Result.andThen_ok,hE 9999]
theorem CL{dst}{t ty}{x y}{t'}{p}{af}{g}{e}{s:Sl}(hu:(underlying t).run P w=.ok (.slice e) w)(hx:a.eval x=.slice none 0 0)(hy:a.eval y=s.v):
  (execOp a.eval ⟨dst,.binOp .eql t x y ty,t',p,af,g⟩).run P w=.ok (.value (.bool (s.a.isNone))) w:=by
 obtain⟨sa,sn,sc⟩:=s;have hE:∀d,(Op.equalIn (d+1) t (.slice none 0 0) (.slice sa sn sc)).run P w=.ok sa.isNone w:=λd=>abX
 have hB:binOp .eql t (.slice none 0 0) (.slice sa sn sc)=(do pure (.bool ((<-Op.equal t (.slice none 0 0) (.slice sa sn sc))))):=rfl;have hG:eqGuard .eql t x y (.slice none 0 0) (.slice sa sn sc)=pure _:=rfl;simp[execOp,hx,hy,hG,hB,Op.equal,Op.maxDepth,Sem.run_bind,Sem.run_pure,Result.andThen_ok,hE 9999]
theorem CM{dst}{t ty}{x y}{t'}{p}{af}{g}{e}{s:Sl}(hu:(underlying t).run P w=.ok (.slice e) w)(hx:a.eval x=s.v)(hy:a.eval y=.slice none 0 0):
  (execOp a.eval ⟨dst,.binOp .neq t x y ty,t',p,af,g⟩).run P w=.ok (.value (.bool (!s.a.isNone))) w:=by
 obtain⟨sa,sn,sc⟩:=s;have hE:∀d,(Op.equalIn (d+1) t (.slice sa sn sc) (.slice none 0 0)).run P w=.ok sa.isNone w:=λd=>by
  unfold Op.equalIn;cases sa<;>simp only[Sem.run_bind,hu]<;>rfl
 have hB:binOp .neq t (.slice sa sn sc) (.slice none 0 0)=(do pure (.bool (!(<-Op.equal t (.slice sa sn sc) (.slice none 0 0))))):=by cases sa<;>rfl
 have hG:eqGuard .neq t x y (.slice sa sn sc) (.slice none 0 0)=pure _:=rfl;simp[execOp,hx,hy,hG,hB,Op.equal,Op.maxDepth,Sem.run_bind,Sem.run_pure,Result.andThen_ok,hE 9999]
theorem CN{dst:Option Tmp}{t ty:TypeId}{x y:Operand}{t':TypeId}{p:String}{af}{g}{e}{s:Sl}(hu:(underlying t).run P w=.ok (.slice e) w)(hx:a.eval x=.slice none 0 0)(hy:a.eval y=s.v):
  (execOp a.eval ⟨dst,.binOp .neq t x y ty,t',p,af,g⟩).run P w=.ok (.value (.bool (!s.a.isNone))) w:=by
 obtain⟨sa,sn,sc⟩:=s;have hE:∀d,(Op.equalIn (d+1) t (.slice none 0 0) (.slice sa sn sc)).run P w=.ok sa.isNone w:=λd=>abX
 have hB:binOp .neq t (.slice none 0 0) (.slice sa sn sc)=(do pure (.bool (!(<-Op.equal t (.slice none 0 0) (.slice sa sn sc))))):=by cases sa<;>rfl
 have hG:eqGuard .neq t x y (.slice none 0 0) (.slice sa sn sc)=pure _:=rfl;simp[execOp,hx,hy,hG,hB,Op.equal,Op.maxDepth,Sem.run_bind,Sem.run_pure,Result.andThen_ok,hE 9999]
theorem E6{dst}{t e}{x lo}{t'}{p}{af}{g}{s:Sl}{k}{l sz:Nat}
  (hu:(underlying t).run P w=.ok (.slice e) w) (hsz:(sizeOf e).run P w=.ok sz w) (hx:a.eval x=s.v) (hl:a.eval lo=.int k l) (h1:l<=s.n) (_h2:s.n<=s.c) (_h3:s.c<=s.c):
  (execOp a.eval ⟨dst,.slice t x (some lo) none none,t',p,af,g⟩).run P w=.ok (.value (s.cut l s.n s.c sz).v) w:=by
 simp[execOp,hx,Instr.sliceAt,hu,Sem.run_bind,Result.andThen_ok,Instr.slice,Instr.sliceBounds,fQ,xt,Sem.run_pure,lh hl h1,hsz,Sl.cut]
theorem E7{dst}{t e}{x hi}{t'}{p}{af}{g}{s:Sl}{k}{h sz:Nat}
  (hu:(underlying t).run P w=.ok (.slice e) w) (hsz:(sizeOf e).run P w=.ok sz w) (hx:a.eval x=s.v) (hh:a.eval hi=.int k h) (_h1:0<=h) (h2:h<=s.c) (_h3:s.c<=s.c):
  (execOp a.eval ⟨dst,.slice t x none (some hi) none,t',p,af,g⟩).run P w=.ok (.value (s.cut 0 h s.c sz).v) w:=by
 simp[execOp,hx,Instr.sliceAt,hu,Sem.run_bind,Result.andThen_ok,Instr.slice,Instr.sliceBounds,fQ,xt,Sem.run_pure,lh hh h2,hsz,Sl.cut]
theorem E8{dst}{t e}{x lo hi}{t'}{p}{af}{g}{s:Sl}{k k'}{l h sz:Nat}
  (hu:(underlying t).run P w=.ok (.slice e) w) (hsz:(sizeOf e).run P w=.ok sz w) (hx:a.eval x=s.v) (hl:a.eval lo=.int k l) (hh:a.eval hi=.int k' h) (h1:l<=h) (h2:h<=s.c) (_h3:s.c<=s.c):
  (execOp a.eval ⟨dst,.slice t x (some lo) (some hi) none,t',p,af,g⟩).run P w=.ok (.value (s.cut l h s.c sz).v) w:=by
 simp[execOp,hx,Instr.sliceAt,hu,Sem.run_bind,Result.andThen_ok,Instr.slice,Instr.sliceBounds,fQ,xt,Sem.run_pure,lh hh h2,lh hl h1,hsz,Sl.cut]
theorem E9{dst}{t e}{x hi mx}{t'}{p}{af}{g}{s:Sl}{k' k2}{h m sz:Nat}
  (hu:(underlying t).run P w=.ok (.slice e) w) (hsz:(sizeOf e).run P w=.ok sz w) (hx:a.eval x=s.v) (hh:a.eval hi=.int k' h) (hm:a.eval mx=.int k2 m) (_h1:0<=h) (h2:h<=m) (h3:m<=s.c):
  (execOp a.eval ⟨dst,.slice t x none (some hi) (some mx),t',p,af,g⟩).run P w=.ok (.value (s.cut 0 h m sz).v) w:=by
 simp[execOp,hx,Instr.sliceAt,hu,Sem.run_bind,Result.andThen_ok,Instr.slice,Instr.sliceBounds,fQ,xt,Sem.run_pure,lh hm h3,lh hh h2,hsz,Sl.cut]
theorem Fa{dst}{t e}{x lo hi mx}{t'}{p}{af}{g}{s:Sl}{k k' k2}{l h m sz:Nat}
  (hu:(underlying t).run P w=.ok (.slice e) w) (hsz:(sizeOf e).run P w=.ok sz w) (hx:a.eval x=s.v) (hl:a.eval lo=.int k l) (hh:a.eval hi=.int k' h) (hm:a.eval mx=.int k2 m) (h1:l<=h) (h2:h<=m) (h3:m<=s.c):
  (execOp a.eval ⟨dst,.slice t x (some lo) (some hi) (some mx),t',p,af,g⟩).run P w=.ok (.value (s.cut l h m sz).v) w:=by
 simp only[execOp,hx,Instr.sliceAt,hu,Sem.run_bind,Result.andThen_ok,Instr.slice,Instr.sliceBounds,fQ,Sem.run_pure,lh hm h3,lh hh h2,lh hl h1,hsz,Sl.cut]
section
variable {K:Act->av->Prop} {o:Oper}
theorem Tw(hg:Region.wanted o (yielded ops a.tmps)=true)(h:o.wp P a w (wpList P ops Q rest) Q):wpList P ops Q (o::rest) a w:=by
 unfold wpList;simp_all
theorem vX v (hr:(execOp a.eval o).run P w=.ok (.value v) w') (ha:a.put o.dst v=a') (h:K a' w'):o.wp P a w K Q:=by
 subst ha;unfold Oper.wp;rw[hr];exact h
theorem KR(hr:(execOp a.eval o).run P w=.ok .skip w')(ha:a.put o.dst undef=a')(h:K a' w'):o.wp P a w K Q:=by
 subst ha;unfold Oper.wp;rw[hr];exact h
theorem GL{f}{args}(hr:(execOp a.eval o).run P w=.ok (.enter f args) w)
  (h:Calls P f args w λe w'=>∃v a',e=.returned v/\a.put o.dst v=a'/\K a' w'):o.wp P a w K Q:=by
 unfold Oper.wp;rw[hr];refine h.mono ?_;simp_all
theorem CO{dst}{ty}{x y}{t'}{p}{af}{g}{b o}{cs vs Ew}{et}{n}
  (hsz:(sizeOf ty).run P w=.ok n w) (hx:a.eval x=.pointer (some ⟨b,o,none⟩)) (hv:(a.eval y).cells=vs.toArray) (hn:vs.length=n)
  (h1:vs.all Value.oneCell'=true) (hb:Blk w b et cs) (JP:o+vs.length<=cs.length) (mq:bZ cs o vs=Ew) (ha:a.put dst undef=a')
  (h:∀w1,Only [b] w w1->Blk w1 b et Ew->K a' w1):Oper.wp P ⟨dst,.store ty x y,t',p,af,g⟩ a w K Q:=
 KR (PE hsz hx hv hn (dv.1 h1) hb JP) ha (h _ (Only.setRow _ _ _) (by rw[<-mq];exact hb.setRow _))
theorem CP{dst}{ty}{t'}{p}{af}{g}{z}{zs}{a':Nat->Act}
  (hz:(zeroValue ty).run P w=.ok z w) (hc:z.cells=zs.toArray) (ha:∀b,a.put dst (.pointer (some ⟨b,0,none⟩))=a' b)
  (h:∀b w1,w.heap.size<=b->Only [] w w1->Blk w1 b ty zs->K (a' b) w1):Oper.wp P ⟨dst,.alloc ty,t',p,af,g⟩ a w K Q:=
 vX _ (PF hz hc) (ha _) (h _ _ (aY _) (Only.alloc _ _) (Blk.alloc _ _ _))
theorem Tx{dst}{ty}{x}{t'}{p}{af}{g}{zs}{a':Nat->Act}
  (hc:(a.eval x).cells=zs.toArray) (ha:∀b,a.put dst (.pointer (some ⟨b,0,none⟩))=a' b)
  (h:∀b w1,w.heap.size<=b->Only [] w w1->Blk w1 b ty zs->K (a' b) w1):Oper.wp P ⟨dst,.box ty x,t',p,af,g⟩ a w K Q:=
 vX _ (Xt hc) (ha _) (h _ _ (aY _) (Only.alloc _ _) (Blk.alloc _ _ _))
end
theorem I5{id}(h:Q .normal a w):Exit.inBlock id Q (.exit id) a w:=by simpa[Exit.inBlock]using h
theorem Fb{id SY}(ia:(SY==id)=false)(h:Q (.exit SY) a w):Exit.inBlock id Q (.exit SY) a w:=by simpa[Exit.inBlock,by simpa using ia]using h
def zJ(P:Program)(a:Act)(w:av):List ResultVar->List aw->Prop
 | [],[]=>True
 | .tmp t::r,v::vs=>a.eval (.tmp t)=v/\zJ P a w r vs
 | .cell p t::r,v::vs=>(∃ad,a.eval (.tmp p)=.pointer (some ad)/\(loadVar t ad).run P w=.ok v w)/\zJ P a w r vs
 | _,_=>False
theorem mJ(f:ResultVar->Sem aw)(U3:∀t,f (.tmp t)=pure (a.tmps.getD t undef))(hf2:∀q t,f (.cell q t)=(do loadVar t (<-asAddr (a.tmps.getD q undef)))):
  ∀rs vs,zJ P a w rs vs->(rs.mapM f).run P w=.ok vs w
 | [],[],_=>rfl
 | [],_::_,h=>h.elim
 | .tmp t::r,[],h=>h.elim
 | .cell _ _::r,[],h=>h.elim
 | .tmp t::r,v::vs,h=>by
  have ih:=mJ f U3 hf2 r vs h.2;have h1:a.tmps.getD t undef=v:=h.1;simp_all
 | .cell q t::r,v::vs,h=>by
  have ih:=mJ f U3 hf2 r vs h.2;obtain⟨⟨ad,h1,h2⟩,_⟩:=h;have h1':a.tmps.getD q undef=.pointer _:=h1;rw[List.mapM_cons,hf2];simp[h1',asAddr,h2,ih]
theorem Ty{fn}{rs}{v}(h:fn.results=rs.toArray)(hr:zJ P a w rs [v]):(results fn a.tmps).run P w=.ok v w:=by
 unfold results;rw[h,List.mapM_toArray];simp only[Sem.run_bind,map_eq_pure_bind];rw[mJ _ (λ_=>rfl) (λ_ _=>rfl) rs [v] hr];rfl
theorem Fc{fn}{rs}{vs}(h:fn.results=rs.toArray)(hn:(vs.length==1)=false)(hr:zJ P a w rs vs):(results fn a.tmps).run P w=.ok (.tuple vs.toArray) w:=by
 unfold results;rw[h,List.mapM_toArray];simp only[Sem.run_bind,map_eq_pure_bind,Sem.run_pure];rw[mJ _ (λ_=>rfl) (λ_ _=>rfl) rs vs hr];simp_all
theorem PK{fn}{R:aw->av->Prop}{v}(hr:(results fn a.tmps).run P w=.ok v w)(hd:a.defers=[])(h:R v w):
 bodyPost P fn (λe w'=>∃v,e=.returned v/\R v w') .ret a w:=bodyPost_ret hr hd ⟨v,rfl,h⟩
theorem Fe{fn}{R:aw->av->Prop}{v}(hr:(results fn a.tmps).run P w=.ok v w)(hd:a.defers=[])(h:R v w):
 bodyPost P fn (λe w'=>∃v,e=.returned v/\R v w') .normal a w:=bodyPost_end hr hd ⟨v,rfl,h⟩
theorem AU{ty}{ad}{cs}{n}(Gc:(isAgg ty).run P w=.ok true w)(hsz:(sizeOf ty).run P w=.ok n w)(hn:cs.length=n)(hc:Cells w ad cs):
  (loadVar ty ad).run P w=.ok (.agg cs.toArray) w:=by
 have hl:=run_loadCells_list (P:=P) w ad cs hc;rw[hn]at hl;simp[loadVar,Gc,hsz,hl,Sem.run_pure]
theorem ze{ty}{ad}{v}(Gc:(isAgg ty).run P w=.ok false w)(hc:w.cell? ad=some v):
  (loadVar ty ad).run P w=.ok v w:=by
 simp[loadVar,Gc,iM,run_load,hc]
end
section
variable {P:Program} {ops:Array Oper} {rest:List Oper} {a a':Act} {w:av} {Q:Act->Prop}
theorem XD{o} v (hg:Region.wanted o (yielded ops a.tmps)=true)
  (hr:∀w',(∃n,w'=w.drewN n)->(execOp a.eval o).run P w'=.ok (.value v) w') (ha:a.put o.dst v=a')
  (h:wpQuiet P ops (λw'=>∃n,w'=w.drewN n) Q rest a'):wpQuiet P ops (λw'=>∃n,w'=w.drewN n) Q (o::rest) a:=by
 subst ha;unfold wpQuiet;rw[aR hg];refine⟨v,λw' WM=>?_,h⟩;unfold Oper.quietAt;rw[hr w' WM];exact⟨rfl,rfl⟩
theorem ac9{o}(hg:Region.wanted o (yielded ops a.tmps)=false)(ha:a.put o.dst undef=a')
  (h:wpQuiet P ops (λw'=>∃n,w'=w.drewN n) Q rest a'):wpQuiet P ops (λw'=>∃n,w'=w.drewN n) Q (o::rest) a:=by
 subst ha;unfold wpQuiet;simp_all
end
theorem KS{w w'}:cb [] w w':=λ_ h=>aax
theorem cb.refl bs w:cb bs w w:=λ_ _=>rfl
section
variable {P:Program} {ops:Array Oper} {Q:Exit->Act->av->Prop} {md:Region.Mode} {E:Nat->av->av->Prop} {F:av->Prop}
def fh(P:Program)(md:Region.Mode)(ops:Array Oper)(Q:Exit->Act->av->Prop)(E:Nat->av->av->Prop):Nat->Array Bool->Act->av->Prop
 | 0,bB,a,w=>Region.ready md ops bB=[]/\Q .normal a w
 | eU+1,bB,a,w=>
  (Region.ready md ops bB=[]->Q .normal a w)/\
  ∀i∈Region.ready md ops bB,wpOp P ops Q i (λa' w'=>E i w w'/\fh P md ops Q E eU (bB.setIfInBounds i true) a' w') a w
theorem xy:∀eU bB a w,fh P md ops Q E eU bB a w->wpAny P md ops Q eU bB a w
 | 0,_,_,_,h=>h
 | eU+1,_,_,_,h=>⟨h.1,λi hi=>wpOp_mono (λa' w' h'=>xy eU _ a' w' h'.2) (h.2 i hi)⟩
def pA(md:Region.Mode)(ops:Array Oper)(bB:Array Bool):Prop:=∀k o,ops[k]? =some o->bB.getD k false=true->∀e∈o.after,Region.binds md e=true->bB.getD e.on false=true
def ub(md:Region.Mode)(ops:Array Oper)(bB:Array Bool):Bool:=
 (List.range ops.size).all λk=>!bB.getD k false||((ops[k]?).map (·.after.all λe=>!Region.binds md e||bB.getD e.on false)).getD true
theorem zK{bB}(h:ub md ops bB=true):pA md ops bB:=by
 intro k o hk hl e he hb;have:=(dv.1 h) k (List.mem_range.2 (kR.1 hk).1);simp only[hl,uY,hk,fQ,iH,Array.all_eq_true_iff_forall_mem,ci]at this
 grind
theorem pA.add{bB}{j}(h:pA md ops bB)(hj:j∈Region.ready md ops bB):pA md ops (bB.setIfInBounds j true):=by
 intro k o hk hl e he hb;obtain⟨_,oj,O6,fm⟩:=mem_ready.1 hj;by_cases hkj:j=k
 ·subst hkj;rw[O6]at hk;injection hk with hk;subst hk;exact getD_set_true (fm e he hb)
 rw[getD_set_ne false hkj]at hl;exact getD_set_true (h k o hk hl e he hb)
def qF(md:Region.Mode)(ops:Array Oper)(i:Nat):List Nat->List Nat->Bool
 | _,[]=>true
 | seen,j::r=>((ops[j]?).map λo=>o.after.any λe=>Region.binds md e&&(e.on==i||seen.contains e.on)).getD false&&qF md ops i (j::seen) r
theorem vY{i}{bB}(hc:pA md ops bB):∀D seen,qF md ops i seen D=true->(∀k∈seen,bB.getD k false=true->bB.getD i false=true)->∀j∈D,∀o,ops[j]? =some o->(∀e∈o.after,Region.binds md e=true->bB.getD e.on false=true)->bB.getD i false=true
 | [],_,_,_,j,hj,_,_,_=>by simp at hj
 | k::r,seen,h,hs,j,hj,o,ho,fm=>by
  simp[qF,aP]at h;have hk:∀o,ops[k]? =some o->(∀e∈o.after,Region.binds md e=true->bB.getD e.on false=true)->bB.getD i false=true:=abS
  rcases aX.1 hj with rfl | hj
  ·exact hk o ho fm
  refine vY hc r _ h.2 ?_ j hj o ho fm;intro x hx hl;rcases aX.1 hx with rfl | hx
  ·have h1:=h.1;cases hx2:ops[x]? with
   | none=>rw[hx2]at h1;simp at h1
   | some ox=>exact hk ox hx2 (hc x ox hx2 hl)
  exact hs x hx hl
theorem pB{i}{oi}{v}{D}(hi:ops[i]? =some oi)(ZW:∀(j:Nat) o cs b,ops[j]? =some o->o.op≠.select cs b)
  (hQ:∀c a w,Q (.panic c) (a.put oi.dst v) w->Q (.panic c) a w) (hD:qF md ops i [] D=true)
  (N:List Nat) (kP:∀j w w',j∉D->j∉N->F w->E j w w'->F w') (Ay:∀w,F w->E i w w):
  ∀eU bB a w,pA md ops bB->(∀k∈N,bB.getD k true=true)->
   (∀j oj,ops[j]? =some oj->j≠i->bB.getD j true=false->(∀e∈oj.after,Region.binds md e=true->e.on≠i)->oi.apart ops oj=true)->
   i∈Region.ready md ops bB->YieldsIf P ops F oi v a->F w->
   fh P md ops Q E eU (bB.setIfInBounds i true) (a.put oi.dst v) w->fh P md ops Q E (eU+1) bB a w:=by
 intro eU
 induction eU with
 | zero=>
  intro bB a w _ _ _ hr hy hF H;refine⟨λh=>(by rw[h]at hr;cases hr),λj hj=>?_⟩;by_cases SZ:j=i
  ·subst SZ;exact hy.wpOp hi hF ⟨Ay w hF,H⟩
  have:=ready_mono hj SZ;rw[H.1]at this;cases this
 | succ eU ih=>
  intro bB a w pj hN IC hr hy hF H;refine⟨λh=>(by rw[h]at hr;cases hr),λj hj=>?_⟩;by_cases SZ:j=i
  ·subst SZ;exact hy.wpOp hi hF ⟨Ay w hF,H⟩
  have h1:=H.2 j (ready_mono hj SZ);obtain⟨U4,oj,O6,fm⟩:=mem_ready.1 hj;have akT:=(mem_ready.1 hr).1;have hli:bB.getD i false=false:=abS
  have afu:∀e∈oj.after,Region.binds md e=true->e.on≠i:=λe he hb heq=>abS
  have hjD:j∉D:=λhm=>by
   have:=vY pj D [] hD aM j hm oj O6 fm;rw[hli]at this;cases this
  have hjN:j∉N:=λhm=>by
   have:=hN j hm;rw[U4]at this;cases this
  have hN':∀k∈N,(bB.setIfInBounds j true).getD k true=true:=λk hk=>by
   by_cases ZX:j=k
   ·subst ZX;exact absurd hk hjN
   rw[getD_set_ne true ZX];exact hN k hk
  have h2:=wpOp_putIf O6 (IC j oj O6 SZ U4 afu) (λcs b=>ZW i oi cs b hi) (λcs b=>ZW j oj cs b O6) hQ hy h1;have Cb:∀k ok,ops[k]? =some ok->k≠i->(bB.setIfInBounds j true).getD k true=false->
    _->oi.apart ops ok=true:=λk ok hk hki WN WO=>by
   refine IC k ok hk hki ?_ WO;by_cases ZX:j=k
   ·subst ZX;exact U4
   rw[getD_set_ne true ZX]at WN;exact WN
  refine wpOp_mono (λa' w' h3=>⟨h3.2.1,ih _ a' w' (pj.add hj) hN' Cb (ready_mono hr (Ne.symm SZ)) h3.1 (kP j w w' hjD hjN hF h3.2.1) ?_⟩) h2;rw[Array.setIfInBounds_comm _ _ SZ];exact h3.2.2
theorem Ff i {dK} {oi} {a a'} {w} {eU} {bB} (D N:List Nat) v F (hi:fV dK i=some oi)
  (hs:Region.noSelect dK.toArray=true) (hf:Region.free md dK.toArray bB i=true) (hr:(Region.ready md dK.toArray bB).contains i=true) (hc:ub md dK.toArray bB=true) (hD:qF md dK.toArray i [] D=true) (hN:(N.all λk=>bB.getD k true)=true)
  (hQ:∀c a w,Q (.panic c) (a.put oi.dst v) w->Q (.panic c) a w) (kP:∀j w w',j∉D->j∉N->F w->E j w w'->F w') (Ay:∀w,F w->E i w w) (hF:F w)
  (hy:YieldsIf P dK.toArray F oi v a) (ha:a.put oi.dst v=a')
  (h:fh P md dK.toArray Q E eU (bB.setIfInBounds i true) a' w):fh P md dK.toArray Q E (eU+1) bB a w:=by
 subst ha;have yP:dK.toArray[i]? =some oi:=aa1
 exact pB yP (Region.noSelect_spec hs) hQ hD N kP Ay eU bB a w (zK hc) (λk hk=>abS) (Region.free_spec yP hf) aco hy hF h
theorem XE i {dK} {oi} {a} {w} {eU} {bB} (hi:fV dK i=some oi) (hr:Region.ready md dK.toArray bB=[i])
  (hg:Region.wanted oi (yielded dK.toArray a.tmps)=true)
  (h:oi.wp P a w (λa' w'=>E i w w'/\fh P md dK.toArray Q E eU (bB.setIfInBounds i true) a' w') Q):fh P md dK.toArray Q E (eU+1) bB a w:=by
 have yP:dK.toArray[i]? =some oi:=aa1
 refine⟨λh0=>acg,λj hj=>?_⟩;rw[hr]at hj;obtain rfl:j=i:=by simpa using hj
 unfold wpOp;simp_all
theorem PL i {dK} {oi} {a a'} {w} {eU} {bB} (hi:fV dK i=some oi) (hr:Region.ready md dK.toArray bB=[i])
  (hg:Region.wanted oi (yielded dK.toArray a.tmps)=false) (hE:E i w w) (ha:a.put oi.dst undef=a')
  (h:fh P md dK.toArray Q E eU (bB.setIfInBounds i true) a' w):fh P md dK.toArray Q E (eU+1) bB a w:=by
 subst ha;have yP:dK.toArray[i]? =some oi:=aa1
 refine⟨λh0=>acg,λj hj=>?_⟩;rw[hr]at hj;obtain rfl:j=i:=by simpa using hj
 unfold wpOp;simp_all
theorem XF i j {dK} {oi oj} {a} {w} {eU} {bB} (hi:fV dK i=some oi) (hj:fV dK j=some oj) (hr:Region.ready md dK.toArray bB=[i,j])
  (h1:if Region.wanted oi (yielded dK.toArray a.tmps)then oi.wp P a w (λa' w'=>E i w w'/\fh P md dK.toArray Q E eU (bB.setIfInBounds i true) a' w') Q∨(oi.asks P a w/\LetsOut Q)
   else(λa' w'=>E i w w'/\fh P md dK.toArray Q E eU (bB.setIfInBounds i true) a' w') (a.put oi.dst undef) w)
  (h2:if Region.wanted oj (yielded dK.toArray a.tmps)then oj.wp P a w (λa' w'=>E j w w'/\fh P md dK.toArray Q E eU (bB.setIfInBounds j true) a' w') Q∨(oj.asks P a w/\LetsOut Q)
   else(λa' w'=>E j w w'/\fh P md dK.toArray Q E eU (bB.setIfInBounds j true) a' w') (a.put oj.dst undef) w):fh P md dK.toArray Q E (eU+1) bB a w:=by
 have yP:dK.toArray[i]? =some oi:=aa1
 have hj':dK.toArray[j]? =some oj:=by rw[jq]at hj;simpa using hj
 refine⟨λh0=>acg,λk hk=>?_⟩;rw[hr]at hk;unfold wpOp;rcases aX.1 hk with rfl | hk<;>simp_all
theorem Tz{bB}{a}{w}{eU}(hr:Region.ready md ops bB=[])(h:Q .normal a w):fh P md ops Q E eU bB a w:=by
 cases eU with
 | zero=>exact⟨hr,h⟩
 | succ n=>exact⟨λ_=>h,by rw[hr];simp⟩
theorem CQ{id}{dK:List Oper}{a}{w} E (hm:P.follows .mixedOrders=true)
  (h:fh P .any dK.toArray Q E dK.length (Array.replicate dK.length false) a w.drew):(Code.region id dK.toArray true).wp P Q a w:=by
 refine wp_region_any hm (xy (E:=E) _ _ _ _ ?_);simpa using h
def EL(ls:List (Nat×List Nat))(j:Nat)(w w':av):Prop:=match ls.lookup j with | some l=>cb l w w' | none=>w'.heap=w.heap
theorem PM{ls}{D N:List Nat}:∀j w w',j∉D->j∉N->True->EL ls j w w'->True:=λ_ _ _ _ _ h _=>h
theorem Fg{s}{l} w w' (h:w'.heap[s.blk]? =w.heap[s.blk]?) (hc:qe w s l):qe w' s l:=
 ⟨hc.1,λhl=>by
  obtain⟨ad,h1,h2⟩:=hc.2 hl;refine⟨ad,h1,h2.keep ?_⟩;simpa[Sl.blk,h1]using h⟩
theorem RQ{dK:List Oper}{o}{v}{a}(hg:Region.wanted o (yielded dK.toArray a.tmps)=true)(h:∀w,F w->(execOp a.eval o).run P w=.ok (.value v) w):YieldsIf P dK.toArray F o v a:=.inl ⟨hg,h⟩
theorem TA{dK:List Oper}{o}{a}(hg:Region.wanted o (yielded dK.toArray a.tmps)=false):YieldsIf P dK.toArray F o undef a:=.inr ⟨hg,rfl⟩
end
def wA(x:Int):Prop:= -9223372036854775808<=x/\x<=9223372036854775807
theorem wr{x}(h:wA x):IntKind.i64.wrap x=x:=IntWalk.i64_in _ ⟨h.1,h.2⟩
theorem fS{x}(h1: -9223372036854775808<=x)(h2:x<=9223372036854775807):IntKind.i64.wrap x=x:=IntWalk.i64_in _ ⟨h1,h2⟩
theorem KT x:wA (IntKind.i64.wrap x):=by
 rw[IntKind.wrap_i64];constructor<;>omega
abbrev Rp(α:Type):=av->(Nat->Prop)->α->List aw->Prop
structure Rp.Ok {α:Type} (r:Rp α):Prop where
 keep:∀{w w':av} {F:Nat->Prop} {x:α} {cs:List aw},r w F x cs->(∀k,F k->k<w.heap.size->w'.heap[k]? =w.heap[k]?)->r w' F x cs
 inHeap:∀{w:av} {F:Nat->Prop} {x:α} {cs:List aw},r w F x cs->r w (λk=>F k/\k<w.heap.size) x cs
 mono:∀{w:av} {F G:Nat->Prop} {x:α} {cs:List aw},r w F x cs->(∀k,F k->G k)->r w G x cs
 one:∀{w:av} {F:Nat->Prop} {x:α} {cs:List aw},r w F x cs->∀v,v∈cs->v.oneCell'=true
section
variable {α:Type} {r:Rp α} {size:Nat} {w w':av} {F G:Nat->Prop} {s:Sl} {xs:List α}
structure SliceF (r:Rp α) (size:Nat) (w:av) (F:Nat->Prop) (s:Sl) (xs:List α):Prop where
 len:s.n=xs.length
 cap:s.n<=s.c
 nil0:s.a=none->s.c=0
 big:s.c<=9223372036854775807
 at_:∀j x,xs[j]? =some x->∃base cs,s.a=some base/\F base.block/\cs.length=size/\Cells w (base.add (j*size)) cs/\r w F x cs
theorem mW(a:Addr) n:(a.add n).block=a.block:=by unfold Addr.add;split<;>rfl
theorem qG(a:Addr) i j:(a.add i).add j=a.add (i+j):=by
 unfold Addr.add;by_cases hi:i=0<;>by_cases hj:j=0<;>simp[hi,hj,fb]
theorem zL(a:Addr):a.add 0=a:=rfl
theorem gM b o n:(⟨b,o,none⟩:Addr).add n=⟨b,o+n,none⟩:=by unfold Addr.add;split<;>simp_all
theorem Cells.sub{a}{cs vs}(h:Cells w a cs) k (hv:∀j v,vs[j]? =some v->cs[k+j]? =some v):Cells w (a.add k) vs:=λj v hj=>by
 rw[qG];exact h _ v (hv j v hj)
theorem Cells.eo{a}{cs}(h:Cells w a cs) k v (hv:cs[k]? =some v):Cells w (a.add k) [v]:=h.sub k λj u hj=>by
 cases j with
 | zero=>simpa[hv]using hj
 | succ j=>simp at hj
theorem SliceF.nil(r:Rp α) size w F:SliceF r size w F Sl.nil []:=⟨rfl,aY _,λ_=>rfl,aL,λj x h=>aax⟩
theorem SliceF.keep(hr:r.Ok)(h:SliceF r size w F s xs)(hs:0<size)(hk:∀k,F k->k<w.heap.size->w'.heap[k]? =w.heap[k]?):SliceF r size w' F s xs:=
 ⟨h.len,h.cap,h.nil0,h.big,λj x hx=>by
  obtain⟨base,cs,h1,h2,h3,h4,h5⟩:=h.at_ j x hx;refine⟨base,cs,h1,h2,h3,h4.keep ?_,hr.keep h5 hk⟩;have cd:(base.add (j*size)).block<w.heap.size:=by
   cases cs with
   | nil=>simp at h3;omega
   | cons c cs=>exact h4.lt
  rw[mW]at cd⊢;exact hk _ h2 cd⟩
theorem SliceF.mono(hr:r.Ok)(h:SliceF r size w F s xs)(hk:∀k,F k->G k):SliceF r size w G s xs:=
 ⟨h.len,h.cap,h.nil0,h.big,λj x hx=>by
  obtain⟨base,cs,h1,h2,h3,h4,h5⟩:=h.at_ j x hx;exact⟨base,cs,h1,hk _ h2,h3,h4,hr.mono h5 hk⟩⟩
theorem SliceF.inHeap(hr:r.Ok)(h:SliceF r size w F s xs)(hs:0<size):SliceF r size w (λk=>F k/\k<w.heap.size) s xs:=
 ⟨h.len,h.cap,h.nil0,h.big,λj x hx=>by
  obtain⟨base,cs,h1,h2,h3,h4,h5⟩:=h.at_ j x hx;refine⟨base,cs,h1,⟨h2,?_⟩,h3,h4,hr.inHeap h5⟩;have cd:(base.add (j*size)).block<w.heap.size:=by
   cases cs with
   | nil=>simp at h3;omega
   | cons c cs=>exact h4.lt
  rwa[mW]at cd⟩
theorem SliceF.get(h:SliceF r size w F s xs){i:Int}(h0:0<=i)(h1:i<s.n):
  ∃ad x cs,dN s i size ad/\xs[i.toNat]? =some x/\F ad.block/\cs.length=size/\Cells w ad cs/\r w F x cs:=by
 have hl:=h.len;have cd:i.toNat<xs.length:=aE
 obtain⟨base,cs,g1,g2,g3,g4,g5⟩:=h.at_ i.toNat _ (bJ cd);exact⟨_,_,cs,⟨base,g1,h0,h1,rfl⟩,bJ cd,by rw[mW];exact g2,g3,g4,g5⟩
theorem SliceF.mem(h:SliceF r size w F s xs){x}(hx:x∈xs):∃cs,r w F x cs:=by
 obtain⟨j,hj⟩:=lc hx;obtain⟨_,cs,_,_,_,_,h5⟩:=h.at_ j x hj;exact⟨cs,h5⟩
theorem dN.UZ{i}{a b}(h:dN s i size a)(k:dN s i size b):a=b:=by
 obtain⟨x,h1,_,_,h2⟩:=h;obtain⟨y,k1,_,_,k2⟩:=k;rw[h1]at k1;injection k1 with k1;rw[h2,k2,k1]
end
structure BytesF (w:av) (F:Nat->Prop) (s:Sl) (l:List UInt8):Prop where
 rd:qe w s l
 cap:s.n<=s.c
 blk:∀ad,s.a=some ad->l≠[]->F ad.block
section
variable {w w':av} {F G:Nat->Prop} {s:Sl} {l:List UInt8}
theorem BytesF.nil w F:BytesF w F Sl.nil []:=⟨⟨rfl,λh=>absurd rfl h⟩,aY _,λ_ _ h=>absurd rfl h⟩
theorem BytesF.mono(h:BytesF w F s l)(hk:∀k,F k->G k):BytesF w G s l:=⟨h.rd,h.cap,λad ha hl=>hk _ (h.blk ad ha hl)⟩
end
def fP{α:Type}(P:α->List aw->Prop):List α->List (List aw)->Prop
 | [],[]=>True
 | x::xs,c::cs=>P x c/\fP P xs cs
 | _,_=>False
section
variable {α:Type} {P Q:α->List aw->Prop}
theorem fP.len:∀{xs:List α} {css:List _},fP P xs css->xs.length=css.length
 | [],[],_=>rfl
 | x::xs,c::cs,h=>by simp[fP.len (xs:=xs) (css:=cs) h.2]
 | [],_::_,h=>h.elim
 | _::_,[],h=>h.elim
theorem fP.imp(hi:∀x c,P x c->Q x c):∀{xs:List α} {css:List _},fP P xs css->fP Q xs css
 | [],[],_=>trivial
 | x::xs,c::cs,h=>⟨hi _ _ h.1,fP.imp hi (xs:=xs) (css:=cs) h.2⟩
 | [],_::_,h=>h.elim
 | _::_,[],h=>h.elim
theorem fP.mU:∀{xs ys:List α} {css CB:List _},fP P xs css->fP P ys CB->fP P (xs++ys) (css++CB)
 | [],_,[],_,_,k=>k
 | x::xs,_,c::cs,_,h,k=>⟨h.1,fP.mU (xs:=xs) (css:=cs) h.2 k⟩
 | [],_,_::_,_,h,_=>h.elim
 | _::_,_,[],_,h,_=>h.elim
theorem fP.get:∀{xs:List α} {css:List _},fP P xs css->∀{j:Nat} {x:α},xs[j]? =some x->∃cs,css[j]? =some cs/\P x cs
 | [],[],_,j,x,h=>aax
 | y::xs,c::cs,k,0,x,h=>by
  simp at h;subst h;exact⟨c,rfl,k.1⟩
 | y::xs,c::cs,k,j+1,x,h=>by
  exact fP.get (xs:=xs) (css:=cs) k.2 h
 | [],_::_,h,_,_,_=>h.elim
 | _::_,[],h,_,_,_=>h.elim
theorem fP.mem:∀{xs:List α} {css:List _},fP P xs css->∀c,c∈css->∃x,P x c
 | [],[],_,c,h=>aax
 | y::xs,d::cs,k,c,h=>by
  rcases aX.1 h with rfl | h
  ·exact⟨y,k.1⟩
  exact fP.mem (xs:=xs) (css:=cs) k.2 c h
 | [],_::_,h,_,_=>h.elim
 | _::_,[],h,_,_=>h.elim
theorem fP.take:∀n {xs:List α} {css:List _},fP P xs css->fP P (xs.take n) (css.take n)
 | 0,_,_,_=>by simp[fP]
 | _+1,[],[],_=>by simp[fP]
 | n+1,x::xs,c::cs,h=>by simp;exact⟨h.1,fP.take n (xs:=xs) (css:=cs) h.2⟩
 | _,[],_::_,h=>h.elim
 | _,_::_,[],h=>h.elim
theorem fP.set:∀{xs:List α} {css:List _} j {x:α} {c:List aw},fP P xs css->P x c->fP P (xs.set j x) (css.set j c)
 | [],[],_,_,_,_,_=>by simp[fP]
 | y::xs,d::cs,0,x,c,h,k=>⟨k,h.2⟩
 | y::xs,d::cs,j+1,x,c,h,k=>⟨h.1,fP.set (xs:=xs) (css:=cs) j h.2 k⟩
 | [],_::_,_,_,_,h,_=>h.elim
 | _::_,[],_,_,_,h,_=>h.elim
end
theorem CR{css:List (List aw)}{size}(h:∀c,c∈css->c.length=size):css.flatten.length=css.length*size:=by
 induction css with
 | nil=>simp
 | cons c cs ih=>
  rw[dw,aN,h c aM,ih (λd hd=>h d (by simp[hd])),aU,fD];omega
theorem PN{css:List _}{size}(h:∀c,c∈css->c.length=size):∀{j i:Nat} {cs:List aw} {v:aw},css[j]? =some cs->cs[i]? =some v->css.flatten[j*size+i]? =some v:=by
 induction css with
 | nil=>intro j i cs v hj;simp at hj
 | cons c cs ih=>
  intro j i ds v hj hi;have hc:=h c aM;cases j with
  | zero=>
   simp at hj;subst hj;simp;rw[bT (bd.1 hi).1];exact hi
  | succ j=>
   have:=ih (λd hd=>h d (by simp[hd])) hj hi;rw[dw,dE (by rw[hc,fD];omega),hc];rw[show _*size+i-size=j*size+i by rw[fD];omega];exact this
theorem I6{css:List (List aw)}{size}(h:∀c,c∈css->c.length=size):∀n,css.flatten.take (n*size)=(css.take n).flatten:=by
 induction css with
 | nil=>intro n;simp
 | cons c cs ih=>
  intro n;cases n with
  | zero=>simp
  | succ n=>
   have hc:=h c aM;rw[dw,ii,dw,List.take_append,<-ih (λd hd=>h d (by simp[hd])),hc,show _*size-size=n*size by rw[fD];omega,bU (by rw[hc,fD];omega)]
section
variable {w w':av} {a:Addr} {cs ds:List aw}
theorem Cells.mU(h:Cells w a cs)(k:Cells w (a.add cs.length) ds):Cells w a (cs++ds):=λj v hj=>by
 by_cases cd:j<cs.length
 ·rw[bT cd]at hj;exact h j v hj
 rw[dE aE]at hj;have:=k _ v hj;rw[qG,show cs.length+_=j by omega]at this;exact this
theorem Cells.nil w a:Cells w a []:=λj v hj=>by simp at hj
end
section
variable {α:Type} {r:Rp α} {size:Nat} {w w':av} {F G:Nat->Prop} {s y:Sl} {xs ys:List α} {e:TypeId} {B:Nat}
abbrev nJ(r:Rp α)(size:Nat)(w:av)(F:Nat->Prop):List α->List (List aw)->Prop:=fP λx cs=>cs.length=size/\r w F x cs
theorem nJ.sz{css}(h:nJ r size w F xs css):∀c,c∈css->c.length=size:=λc hc=>by
 obtain⟨_,h1,_⟩:=h.mem c hc;exact h1
theorem nJ.keep(hr:r.Ok){css}(h:nJ r size w F xs css)(hk:∀k,F k->k<w.heap.size->w'.heap[k]? =w.heap[k]?):nJ r size w' F xs css:=
 h.imp λ_ _ h1=>⟨h1.1,hr.keep h1.2 hk⟩
theorem nJ.mono(hr:r.Ok){css}(h:nJ r size w F xs css)(hk:∀k,F k->G k):nJ r size w G xs css:=
 h.imp λ_ _ h1=>⟨h1.1,hr.mono h1.2 hk⟩
theorem nJ.inHeap(hr:r.Ok){css}(h:nJ r size w F xs css):nJ r size w (λk=>F k/\k<w.heap.size) xs css:=
 h.imp λ_ _ h1=>⟨h1.1,hr.inHeap h1.2⟩
theorem SliceF.Nz{base:Addr}:∀xs k,(∀j x,xs[j]? =some x->∃cs,cs.length=size/\Cells w (base.add ((k+j)*size)) cs/\r w F x cs)->
  ∃css,nJ r size w F xs css/\Cells w (base.add (k*size)) css.flatten
 | [],k,_=>⟨[],trivial,Cells.nil _ _⟩
 | x::xs,k,h=>by
  obtain⟨cs,h1,h2,h3⟩:=h 0 x rfl;obtain⟨css,k1,k2⟩:=SliceF.Nz xs _ (λj y hj=>by
   obtain⟨ds,g1,g2,g3⟩:=h (j+1) y (by simpa using hj);exact⟨ds,g1,by rw[show k+1+j=k+(j+1) by omega];exact g2,g3⟩)
  refine⟨cs::css,⟨⟨h1,h3⟩,k1⟩,?_⟩;refine Cells.mU ab3 ?_;rw[qG,h1,show k*size+size=(k+1)*size by rw[fD];omega];exact k2
theorem SliceF.flat(h:SliceF r size w F s xs)(hx:xs≠[]):∃base css,s.a=some base/\F base.block/\nJ r size w F xs css/\Cells w base css.flatten:=by
 cases xs with
 | nil=>exact absurd rfl hx
 | cons x xs=>
  obtain⟨base,_,h1,h2,_⟩:=h.at_ 0 x rfl;obtain⟨css,k1,k2⟩:=SliceF.Nz (r:=r) (size:=size) (w:=w) (F:=F) (base:=base) _ 0 (λj y hj=>by
   obtain⟨b',cs,g1,g2,g3,g4,g5⟩:=h.at_ j y hj;rw[h1]at g1;injection g1 with g1;subst g1;exact⟨cs,g3,by simpa using g4,g5⟩)
  exact⟨base,css,h1,h2,k1,by rw[rK,zL]at k2;exact k2⟩
theorem SliceF.of{base}{css}(he:nJ r size w F xs css)(ha:s.a=some base)(hF:F base.block)(hc:Cells w base css.flatten)(hn:s.n=xs.length)(xn:s.n<=s.c)(h63:s.c<=9223372036854775807):SliceF r size w F s xs:=
 ⟨hn,xn,λh=>(by rw[ha]at h;cases h),h63,λj x hx=>by
  obtain⟨cs,h1,h2,h3⟩:=he.get hx;exact⟨base,cs,ha,hF,h2,λi v hi=>by rw[qG];exact hc _ v (PN he.sz h1 hi),h3⟩⟩
def Own(r:Rp α)(size:Nat)(e:TypeId)(B:Nat)(w:av)(F:Nat->Prop)(s:Sl)(xs:List α):Prop:=
 (s=Sl.nil/\xs=[])∨∃g css tail,s.a=some ⟨g,0,none⟩/\B<=g/\Blk w g e (css.flatten++tail)/\tail.length=(s.c-s.n)*size/\s.n=xs.length/\s.n<=s.c/\s.c<=9223372036854775807/\nJ r size w (λk=>F k/\k≠g) xs css
theorem Own.len(h:Own r size e B w F s xs):s.n=xs.length:=by
 rcases h with⟨rfl,rfl⟩ | ⟨g,css,tail,_,_,_,_,h,_⟩
 ·rfl
 exact h
theorem Own.cap(h:Own r size e B w F s xs):s.n<=s.c:=by
 rcases h with⟨rfl,rfl⟩ | ⟨g,css,tail,_,_,_,_,_,h,_,_⟩
 ·exact aY _
 exact h
theorem Own.slice(hr:r.Ok)(h:Own r size e B w F s xs):SliceF r size w (λk=>F k∨(B<=k/\s.a=some ⟨k,0,none⟩)) s xs:=by
 rcases h with⟨rfl,rfl⟩ | ⟨g,css,tail,h1,h2,h4,h5,h6,h7,h9,h8⟩
 ·exact SliceF.nil _ _ _ _
 exact SliceF.of (h8.mono hr λk hk=>.inl hk.1) h1 (.inr ⟨h2,h1⟩) (h4.cells 0 _ λj v hj=>by
  rw[bI,bT (bd.1 hj).1];exact hj) h6 h7 h9
theorem Own.keep(hr:r.Ok)(h:Own r size e B w F s xs)(hk:∀k,(F k∨(B<=k/\s.a=some ⟨k,0,none⟩))->k<w.heap.size->w'.heap[k]? =w.heap[k]?):Own r size e B w' F s xs:=by
 rcases h with⟨rfl,rfl⟩ | ⟨g,css,tail,h1,h2,h4,h5,h6,h7,h9,h8⟩
 ·exact .inl ⟨rfl,rfl⟩
 exact .inr ⟨g,css,tail,h1,h2,(hk g (.inr ⟨h2,h1⟩) h4.lt).trans h4,h5,h6,h7,h9,h8.keep hr λk hF=>hk k (.inl hF.1)⟩
theorem Own.mono(hr:r.Ok)(h:Own r size e B w F s xs)(hk:∀k,F k->G k):Own r size e B w G s xs:=by
 rcases h with⟨rfl,rfl⟩ | ⟨g,css,tail,h1,h2,h4,h5,h6,h7,h9,h8⟩
 ·exact .inl ⟨rfl,rfl⟩
 exact .inr ⟨g,css,tail,h1,h2,h4,h5,h6,h7,h9,h8.mono hr λk h=>⟨hk k h.1,h.2⟩⟩
theorem Own.low{B'}(h:Own r size e B w F s xs)(hB:B'<=B):Own r size e B' w F s xs:=by
 rcases h with⟨rfl,rfl⟩ | ⟨g,css,tail,h1,h2,h4⟩
 ·exact .inl ⟨rfl,rfl⟩
 exact .inr ⟨g,css,tail,h1,bh hB h2,h4⟩
theorem Own.nil(r:Rp α) size e B w F:Own r size e B w F Sl.nil []:=.inl ⟨rfl,rfl⟩
theorem Own.inHeap(hr:r.Ok)(h:Own r size e B w F s xs):Own r size e B w (λk=>F k/\k<w.heap.size) s xs:=by
 rcases h with⟨rfl,rfl⟩ | ⟨g,css,tail,h1,h2,h4,h5,h6,h7,h9,h8⟩
 ·exact .inl ⟨rfl,rfl⟩
 exact .inr ⟨g,css,tail,h1,h2,h4,h5,h6,h7,h9,(h8.inHeap hr).mono hr λk h=>⟨⟨h.1.1,h.2⟩,h.1.2⟩⟩
theorem Own.blk(h:Own r size e B w F s xs){ad}(ha:s.a=some ad):B<=ad.block/\ad.block<w.heap.size:=by
 rcases h with⟨rfl,rfl⟩ | ⟨g,css,tail,h1,h2,h4,_⟩
 ·cases ha
 rw[h1]at ha;injection ha with ha;subst ha;exact⟨h2,h4.lt⟩
theorem SliceF.ZO(h:SliceF r size w F s xs):∃css,nJ r size w F xs css/\∀base,s.a=some base->Cells w base css.flatten:=by
 cases xs with
 | nil=>exact⟨[],trivial,λb _=>Cells.nil _ _⟩
 | cons x xs=>
  obtain⟨base,css,h1,h2,h3,h4⟩:=h.flat aM;exact⟨css,h3,λb hb=>by rw[h1]at hb;injection hb with hb;subst hb;exact h4⟩
theorem nJ.Ga{css}(h:nJ r size w F xs css):css.flatten.length=xs.length*size:=by rw[CR h.sz,h.len]
theorem nJ.one(hr:r.Ok){css}(h:nJ r size w F xs css):∀v,v∈css.flatten->v.oneCell'=true:=λv hv=>by
 obtain⟨c,hc,hv⟩:=List.mem_flatten.1 hv;obtain⟨x,_,hx⟩:=h.mem c hc;exact hr.one hx v hv
theorem XG(l m:List aw) z:(l.toArray++m.toArray++z)=(l++m++z.toList).toArray:=by
 simp
section
variable {P:Program} {t ty:TypeId} {i:TypeInfo} {z:aw} {bytes:Nat}
theorem CS(w:av) k (Kx:z.cells.size=size):(Builtin.zeroCells z.cells k).toList.length=k*size:=by
 rw[qA,size_zeroCells,Kx]
theorem I7(ht:P.underlying t=some (.slice e))(hi:P.info? e=some i)(hz:i.zero=some z)(rB:i.size=size)(ZY:i.bytes=bytes)(Kx:z.cells.size=size)
  (hr:r.Ok) {css} (k1:nJ r size w F xs css) (k2:∀base,s.a=some base->Cells w base css.flatten) (NF:s.a=none->s.c=0) (xo:s.n=xs.length) (ZZ:s.n<=s.c)
  (hy:SliceF r size w F y ys) (po:s.c<s.n+y.n) (hm:(xs.length+ys.length)*bytes<=140737488355328) (JQ:0<bytes):
  ∃s' w',(Builtin.append_ #[t,t] ty #[s.v,y.v]).run P w=.ok s'.v w'/\Own r size e w.heap.size w' F s' (xs++ys)/\Only [] w w'/\s'.a=some ⟨w.heap.size,0,none⟩:=by
 subst rB;subst ZY;have h63:=bh (by have:=Nat.mul_le_mul_left (xs.length+ys.length) JQ;omega) hm;have O7:=hy.len;have Rg:y.n≠0:=aE
 have Z0:ys≠[]:=λh=>Rg (by rw[O7,h];rfl);obtain⟨yb,CB,m1,m2,m3,m4⟩:=hy.flat Z0;obtain⟨sa,sn,sc⟩:=s;obtain⟨ya,yn,yc⟩:=y;dsimp only at xo ZZ NF O7 Rg po m1 k2;subst m1;have hold:=Only.drew w;have key:∀fj Ky,fj=sn+yn->∀W',W'=w.drew.alloc (.cells (css.flatten.toArray++CB.flatten.toArray++Builtin.zeroCells z.cells (grownCap w fj Ky e-fj)) e)->
   Own r i.size e w.heap.size W' F ⟨some ⟨w.heap.size,0,none⟩,fj,grownCap w fj Ky e⟩ (xs++ys)/\Only [] w W':=by
  rintro fj Ky rfl W' rfl;have hO:Only [] w (w.drew.alloc (.cells (css.flatten.toArray++CB.flatten.toArray++Builtin.zeroCells z.cells (grownCap w (sn+yn) Ky e-(sn+yn))) e)):=hold.cn (Only.alloc _ _);refine⟨.inr ⟨w.heap.size,css++CB,(Builtin.zeroCells z.cells _).toList,rfl,aY _,?_,CS w _ Kx,?_,grownCap_ge _ _ _ _,grownCap_le_maxLen _ _ _ _ (by simp[maxLen];omega),?_⟩,hO⟩
  ·rw[XG,Cv];exact Blk.alloc w.drew e _
  ·simp;omega
  refine((nJ.mono hr (nJ.inHeap hr (fP.mU k1 m3)) (G:=λk=>F k/\k≠w.heap.size) λk h=>⟨h.1,by have:=h.2;omega⟩)).keep hr λk hk cd=>hO.block k cd aM
 cases sa with
 | none=>
  have ZZ:=NF rfl;subst ZZ;have U5:sn=0:=aE
  subst U5;have hx:=bA xo.symm;subst hx;cases css with
  | cons c css=>exact k1.elim
  | nil=>
   have tN:=run_append_nil (P:=P) w t ty e i z ht hi hz yb yn yc CB.flatten (by rw[m3.Ga,O7]) m4 aE aE (by
    have:(0+ys.length)*i.bytes<=140737488355328:=abE
    rw[bI,<-O7]at this;omega)
   obtain⟨g1,g2⟩:=key yn 0 aM _ rfl;exact⟨_,_,tN,by simpa using g1,by simpa using g2,rfl⟩
 | some b=>
  have tN:=run_append_grow (P:=P) w t ty e i z ht hi hz b sn sc css.flatten (by rw[k1.Ga,xo]) (k2 b rfl) yb yn yc CB.flatten (by rw[m3.Ga,O7]) m4 po aE (growslice_fits po (by rw[xo,O7];exact hm));obtain⟨g1,g2⟩:=key _ sc rfl _ rfl;exact⟨_,_,tN,g1,g2,rfl⟩
theorem KU(ht:P.underlying t=some (.slice e))(hi:P.info? e=some i)(rB:i.size=size)
  (hr:r.Ok) {g} {css} {tail} (ha:s.a=some ⟨g,0,none⟩) (hB:B<=g) (hb:Blk w g e (css.flatten++tail)) (Kz:tail.length=(s.c-s.n)*size) (hn:s.n=xs.length) (hc:s.n<=s.c) (h63:s.c<=9223372036854775807)
  (hE:nJ r size w (λk=>F k/\k≠g) xs css) (hy:SliceF r size w (λk=>F k/\k≠g) y ys) (po:s.n+y.n<=s.c):
  ∃w',(Builtin.append_ #[t,t] ty #[s.v,y.v]).run P w=.ok (Sl.v ⟨s.a,s.n+y.n,s.c⟩) w'/\Own r size e B w' F ⟨s.a,s.n+y.n,s.c⟩ (xs++ys)/\Only [g] w w':=by
 subst rB;have O7:=hy.len;obtain⟨sa,sn,sc⟩:=s;obtain⟨ya,yn,yc⟩:=y;dsimp only at ha hn hc Kz po O7;subst ha;obtain⟨CB,m3,m4⟩:=hy.ZO;have pj:css.flatten.length=sn*i.size:=by rw[hE.Ga,hn]
 have u9:CB.flatten.length=yn*i.size:=by rw[m3.Ga,O7]
 have IE:sn*i.size+yn*i.size<=sn*i.size+tail.length:=by
  rw[Kz,<-fD,<-fD];exact ey _ aE
 have tN:(Builtin.append_ #[t,t] ty #[.slice (some ⟨g,0,none⟩) sn sc,.slice ya yn yc]).run P w=
   .ok (.slice (some ⟨g,0,none⟩) (sn+yn) sc) (w.setRow g ((css.flatten++CB.flatten)++tail.drop (yn*i.size)).toArray):=by
  have Ey:((css.flatten++tail).toArray.toList.take (sn*i.size)++CB.flatten++(css.flatten++tail).toArray.toList.drop (sn*i.size+CB.flatten.length))=(css.flatten++CB.flatten)++tail.drop (yn*i.size):=by
   rw[ij,<-pj,List.take_left,u9,Ki];rw[List.drop_eq_nil_of_le aE,cp,dI]
  cases ya with
  | some ya=>
   have:=run_append_room (P:=P) w t ty e i ht hi g sn sc (css.flatten++tail).toArray hb ya yn yc CB.flatten u9 (m4 ya rfl) (m3.one hr) po (by
    rw[nN,aN,u9,pj];exact IE)
   rw[this,Ey]
  | none=>
   have Z0:ys=[]:=by
    cases ys with
    | nil=>rfl
    | cons x xs=>obtain⟨_,_,h,_⟩:=hy.at_ 0 x rfl;cases h
   subst Z0;have Rg:=by simpa using O7
   subst Rg;cases CB with
   | cons c cs=>exact m3.elim
   | nil=>
    have tj:w.setRow g ((css.flatten++([]).flatten)++tail.drop (0*i.size)).toArray=w:=by
     have:=setRow_self w g (css.flatten++tail).toArray e (0,0) hb;simpa using this
    rw[tj];simp[Builtin.append_,run_underlying ht,sizeOf,typeInfo,hi,Builtin.lenOf,Builtin.firstCells,hc,storeCells]
 have hO:Only [g] w (w.setRow g ((css.flatten++CB.flatten)++tail.drop (yn*i.size)).toArray):=Only.setRow _ _ _;refine⟨_,tN,.inr ⟨g,css++CB,tail.drop (yn*i.size),rfl,hB,?_,?_,?_,po,h63,?_⟩,hO⟩
 ·rw[Cv];exact hb.setRow _
 ·rw[bW,Kz,<-Nat.sub_mul];congr 1;dsimp only;omega
 ·dsimp only;rw[aN];omega
 exact nJ.keep hr (fP.mU hE m3) λk hk cd=>hO.block k cd acd
theorem wS(ht:P.underlying t=some (.slice e))(hi:P.info? e=some i)(hz:i.zero=some z)(rB:i.size=size)(ZY:i.bytes=bytes)(Kx:z.cells.size=size)
  (hr:r.Ok) (hs:Own r size e B w F s xs) (hy:SliceF r size w (λk=>F k/\s.a≠some ⟨k,0,none⟩) y ys) (hB:B<=w.heap.size) (hm:(xs.length+ys.length)*bytes<=140737488355328) (JQ:0<bytes):
  ∃s' w',(Builtin.append_ #[t,t] ty #[s.v,y.v]).run P w=.ok s'.v w'/\Own r size e B w' F s' (xs++ys)/\∃gs,Only gs w w'/\(∀g,g∈gs->s.a=some ⟨g,0,none⟩/\B<=g/\g<w.heap.size)/\(s'.a=s.a∨s'.a=some ⟨w.heap.size,0,none⟩):=by
 by_cases po:s.n+y.n<=s.c
 ·rcases hs with⟨rfl,rfl⟩ | ⟨g,css,tail,h1,h2,h4,h5,h6,h7,h9,h8⟩
  ·have Rg:y.n=0:=by simpa using po
   have Z0:ys=[]:=by have:=hy.len;rw[Rg]at this;exact bA this.symm
   subst Z0;refine⟨Sl.nil,w,?_,.inl ⟨rfl,rfl⟩,[],Only.refl _ _,aM,.inl rfl⟩;obtain⟨ya,yn,yc⟩:=y;dsimp only at Rg;subst Rg;cases ya<;>simp[Builtin.append_,run_underlying ht,sizeOf,typeInfo,hi,Builtin.lenOf,Builtin.firstCells,loadCells,loadCellsFrom]
  obtain⟨w',k1,k2,k3⟩:=KU (ty:=ty) ht hi rB hr h1 h2 h4 h5 h6 h7 h9 h8 (hy.mono hr λk hk=>⟨hk.1,λh=>hk.2 (by rw[h,h1])⟩) po;exact⟨_,w',k1,k2,[g],k3,λg' hg'=>by simp at hg';subst hg';exact⟨h1,h2,h4.lt⟩,.inl rfl⟩
 have xo:=hs.len;have ZZ:=hs.cap;have hy':SliceF r size w F y ys:=hy.mono hr λk hk=>hk.1;have go:∀css,nJ r size w F xs css->(∀base,s.a=some base->Cells w base css.flatten)->(s.a=none->s.c=0)->
   ∃s' w',(Builtin.append_ #[t,t] ty #[s.v,y.v]).run P w=.ok s'.v w'/\Own r size e B w' F s' (xs++ys)/\∃gs,Only gs w w'/\(∀g,g∈gs->s.a=some ⟨g,0,none⟩/\B<=g/\g<w.heap.size)/\(s'.a=s.a∨s'.a=some ⟨w.heap.size,0,none⟩):=by
  intro css k1 k2 k3;obtain⟨s',w',g1,g2,g3,g4⟩:=I7 (ty:=ty) ht hi hz rB ZY Kx hr k1 k2 k3 xo ZZ hy' aE hm JQ;exact⟨s',w',g1,g2.low hB,[],g3,aM,.inr g4⟩
 rcases hs with⟨rfl,rfl⟩ | ⟨g,css,tail,h1,h2,h4,h5,h6,h7,h9,h8⟩
 ·exact go [] trivial (λ_ h=>aah) (λ_=>rfl)
 refine go css (h8.mono hr λk hk=>hk.1) (λbase hb=>?_) (λh=>by rw[h1]at h;cases h);rw[h1]at hb;injection hb with hb;subst hb;exact h4.cells 0 _ λj v hj=>by
  rw[bI,bT (bd.1 hj).1];exact hj
theorem li(ht:P.underlying t=some (.slice e))(hi:P.info? e=some i)(hz:i.zero=some z)(rB:i.size=size)(h0:0<size){vs:List aw}{len}{parts}
  (hp:parts=((vs.zipIdx 0).map λx=>(x.2,x.1)).toArray) (hl:vs.length=len) (Z1:0<len) (tP:len*size<=16777216)
  (hr:r.Ok) (hE:nJ r size w F xs (vs.map λv=>v.cells.toList)):
  ∃s w',(Instr.buildSlice t len parts).run P w=.ok (Sl.v s) w'/\Own r size e w.heap.size w' F s xs/\Only [] w w'/\s.a=some ⟨w.heap.size,0,none⟩/\s.n=xs.length/\s.c=xs.length:=by
 subst rB;subst hp;subst hl;have JR:=by have:=hE.len;rwa[bX]at this
 have hsz:=λv hv=>by
  have:=hE.sz _ (rL.2 ⟨v,hv,rfl⟩);simpa using this
 have tN:=run_buildSlice (P:=P) w t e vs.length ((vs.zipIdx 0).map λx=>_).toArray (vs.flatMap λv=>v.cells.toList).toArray i z ht hi hz aE
  (by have:=Nat.mul_lt_mul_of_pos_left h0 Z1;omega)
  (by rw[ij];exact Go.Great.fill_whole h0 vs _ hsz aM)
 have hO:Only [] w (w.alloc (.cells (vs.flatMap λv=>v.cells.toList).toArray e)):=Only.alloc _ _;refine⟨⟨some _,vs.length,vs.length⟩,_,tN,.inr ⟨w.heap.size,vs.map (λv=>v.cells.toList),[],rfl,aY _,?_,aM,JR.symm,aY _,?_,?_⟩,hO,rfl,JR.symm,JR.symm⟩
 ·rw[bL,List.flatMap_def.symm.trans rfl];exact Blk.alloc w e _
 ·have:vs.length<=vs.length*i.size:=Nat.le_mul_of_pos_right _ h0;dsimp only;omega
 exact((nJ.mono hr (nJ.inHeap hr hE) (G:=λk=>F k/\k≠w.heap.size) λk h=>⟨h.1,by have:=h.2;omega⟩)).keep hr λk hk cd=>hO.block k cd aM
end
end
def jT:Rp UInt8:=λ_ _ b cs=>cs=[fG b]
theorem oI:jT.Ok where
 keep h _:=h
 inHeap h:=h
 mono h _:=h
 one h v hv:=by
  rw[show _=[fG _]from h]at hv;simp at hv;subst hv;rfl
theorem BytesF.slice{w}{F}{s}{l}(h:BytesF w F s l)(h0:s.a=none->s.c=0)(hb:s.c<=9223372036854775807):SliceF jT 1 w F s l:=
 ⟨h.rd.1,h.cap,h0,hb,λj x hx=>by
  have hl:l≠[]:=λe=>by rw[e]at hx;simp at hx
  obtain⟨ad,h1,h2⟩:=h.rd.2 hl;exact⟨ad,[fG x],h1,h.blk ad h1 hl,rfl,by rw[tW];exact h2.eo j _ acE,rfl⟩⟩
theorem SliceF.bytes{w}{F}{s}{l}(h:SliceF jT 1 w F s l):BytesF w F s l:=
 ⟨⟨h.len,λhl=>by
  obtain⟨base,css,h1,h2,h3,h4⟩:=h.flat hl;refine⟨base,h1,?_⟩;have:∀l css,nJ jT 1 w F l css->css.flatten=l.map fG:=by
   intro l
   induction l with
   | nil=>intro css h;cases css with
    | nil=>rfl
    | cons c cs=>exact h.elim
   | cons b l ih=>intro css h;cases css with
    | nil=>exact h.elim
    | cons c cs=>
     obtain⟨⟨_,h1⟩,h2⟩:=h;rw[dw,ih cs h2,show c=[fG b]from h1];rfl
  rw[<-this l css h3];exact h4⟩,h.cap,λad ha hl=>by
   obtain⟨base,css,h1,h2,_⟩:=h.flat hl;rw[ha]at h1;injection h1 with h1;rw[h1];exact h2⟩
def Fh:Rp Int:=λ_ _ x cs=>cs=[.int .i64 x]/\wA x
structure OnlyP (F:Nat->Prop) (w w':av):Prop where
 os:w'.os=w.os
 tape:w'.tape=w.tape
 output:w'.output=w.output
 size:w.heap.size<=w'.heap.size
 block:∀k,k<w.heap.size->¬F k->w'.heap[k]? =w.heap[k]?
section
variable {w w' sD:av} {F G:Nat->Prop} {bs:List Nat}
theorem Only.p(h:Only bs w w')(hb:∀b,b∈bs->F b∨w.heap.size<=b):OnlyP F w w':=
 ⟨h.os,h.tape,h.output,h.size,λk hk hn=>h.block k hk λhm=>(hb k hm).elim hn λh=>aE⟩
theorem Only.p0(h:Only [] w w'):OnlyP F w w':=h.p aM
theorem OnlyP.refl F w:OnlyP F w w:=(Only.refl [] w).p0
theorem OnlyP.mono(h:OnlyP F w w')(hb:∀k,k<w.heap.size->F k->G k):OnlyP G w w':=⟨h.os,h.tape,h.output,h.size,λk hk hn=>h.block k hk λhf=>hn (hb k hk hf)⟩
theorem OnlyP.trans(h:OnlyP F w w')(k:OnlyP G w' sD)(hb:∀k,G k->F k∨w.heap.size<=k):OnlyP F w sD:=
 ⟨k.os.trans h.os,k.tape.trans h.tape,k.output.trans h.output,bh h.size k.size,λi hi hn=>
  (k.block i (cj hi h.size) λhg=>(hb i hg).elim hn λh=>aE).trans (h.block i hi hn)⟩
theorem OnlyP.cn(h:OnlyP F w w')(k:Only [] w' sD):OnlyP F w sD:=h.trans (k.p0 (F:=λ_=>False)) λ_ h=>h.elim
theorem Only.CA(h:Only [] w w')(k:OnlyP F w' sD):OnlyP F w sD:=(h.p0 (F:=F)).trans k λ_ h=>.inl h
theorem OnlyP.only(h:OnlyP F w w')(hb:∀k,F k->w.heap.size<=k):Only [] w w':=
 ⟨h.os,h.tape,h.output,h.size,λk hk _=>h.block k hk λhf=>by have:=hb k hf;omega⟩
theorem OnlyP.ZP(h:OnlyP F w w')(hb:∀k,F k->k∈bs∨w.heap.size<=k):Only bs w w':=
 ⟨h.os,h.tape,h.output,h.size,λk hk hn=>h.block k hk λhf=>(hb k hf).elim hn λh=>aE⟩
theorem OnlyP.same(h:OnlyP F w w')(hl:∀x,x∈bs->x<w.heap.size/\¬F x):cb bs w w':=λx hx=>h.block x (hl x hx).1 (hl x hx).2
theorem OnlyP.blk(h:OnlyP F w w'){b}{t}{cs}(hb:Blk w b t cs)(hn:¬F b):Blk w' b t cs:=(h.block b hb.lt hn).trans hb
end
section
variable {α:Type} {r:Rp α} {size:Nat} {w w':av} {F G:Nat->Prop} {s:Sl} {xs:List α} {e:TypeId} {B:Nat} {bs:List Nat}
theorem SliceF.only(hr:r.Ok)(h0:0<size)(h:SliceF r size w F s xs)(hO:Only bs w w')(hb:∀k,F k->k<w.heap.size->k∉bs):SliceF r size w' F s xs:=
 h.keep hr h0 λk hF cd=>hO.block k cd (hb k hF cd)
theorem SliceF.Aw(hr:r.Ok)(h0:0<size)(h:SliceF r size w F s xs)(hO:OnlyP G w w')(hb:∀k,F k->k<w.heap.size->¬G k):SliceF r size w' F s xs:=
 h.keep hr h0 λk hF cd=>hO.block k cd (hb k hF cd)
theorem Rp.Ok.only(hr:r.Ok){x}{cs}(h:r w F x cs)(hO:Only bs w w')(hb:∀k,F k->k<w.heap.size->k∉bs):r w' F x cs:=hr.keep h λk hF cd=>hO.block k cd (hb k hF cd)
theorem nJ.at(h:∃css,nJ r size w F xs css):True:=trivial
theorem nJ.setAt{css}(h:nJ r size w F xs css) j {x} {c} (hc:c.length=size) (hx:r w F x c):nJ r size w F (xs.set j x) (css.set j c):=fP.set j h ⟨hc,hx⟩
theorem CT{css:List _}{tail}:∀{n:Nat} {cs vs:List aw},(∀c,c∈css->c.length=size)->css[n]? =some cs->vs.length=size->
  bZ (css.flatten++tail) (n*size) vs=(css.set n vs).flatten++tail:=by
 induction css with
 | nil=>intro n cs vs _ h;simp at h
 | cons c css ih=>
  intro n cs vs hs hn hv;have hc:=hs c aM;cases n with
  | zero=>
   simp[bZ,rK,dF,cp,bI,List.set_cons_zero,dw,bf,hv];rw[<-hc,List.drop_left]
  | succ n=>
   have:=ih (λd hd=>hs d (by simp[hd])) hn hv;have e:(n+1)*size=c.length+n*size:=by rw[fD,hc];omega
   simp only[bZ]at this⊢;simp;rw[e,PB,fb,PC,<-this];simp
end
section
variable {α:Type} {r:Rp α} {size:Nat} {w w':av} {F G:Nat->Prop} {s:Sl} {xs:List α} {e:TypeId} {B:Nat} {P:Program} {t ty:TypeId} {i:TypeInfo} {z v:aw} {bytes:Nat} {x:α}
theorem rO(ht:P.underlying t=some (.slice e))(hi:P.info? e=some i)(hz:i.zero=some z)(rB:i.size=size)(ZY:i.bytes=bytes)(Kx:z.cells.size=size)(h0:0<size)(JQ:0<bytes)(tP:1*size<=16777216)
  (hr:r.Ok) (hs:Own r size e B w F s xs) (hB:B<=w.heap.size) (hv:v.cells.toList.length=size) (hx:r w G x v.cells.toList) (hG:∀k,G k->k<w.heap.size->F k/\s.a≠some ⟨k,0,none⟩) (hm:(xs.length+1)*bytes<=140737488355328):
  ∃y w1,(Instr.buildSlice t 1 #[(0,v)]).run P w=.ok (Sl.v y) w1/\Only [] w w1/\∃s' w2,(Builtin.append_ #[t,t] ty #[Sl.v s,Sl.v y]).run P w1=.ok (Sl.v s') w2/\
   Own r size e B w2 (λk=>F k∨w.heap.size<=k) s' (xs++[x])/\(∃gs,Only gs w1 w2/\∀g,g∈gs->s.a=some ⟨g,0,none⟩/\B<=g/\g<w.heap.size)/\(s'.a=s.a∨∃g,s'.a=some ⟨g,0,none⟩/\w.heap.size<=g):=by
 obtain⟨y,w1,k1,k2,k3,k4,k5,k6⟩:=li (P:=P) (t:=t) (e:=e) (i:=i) (z:=z) (w:=w) (F:=λk=>G k/\k<w.heap.size) (vs:=[v]) (parts:=#[_]) (len:=1) (xs:=[x]) (r:=r) (size:=size) ht hi hz rB h0 rfl rfl aL tP hr ⟨⟨hv,hr.inHeap hx⟩,trivial⟩;have NG:Own r size e B w1 (λk=>F k∨w.heap.size<=k) s xs:=((hs.inHeap hr).keep hr λk _ cd=>k3.block k cd aM).mono hr λk hk=>.inl hk.1;have hy:=(k2.slice hr).mono hr (G:=λk=>(F k∨w.heap.size<=k)/\s.a≠some _) λk hk=>by
  rcases hk with⟨hk,cd⟩ | ⟨hk,_⟩
  ·exact⟨.inl (hG k hk cd).1,(hG k hk cd).2⟩
  exact⟨.inr hk,λha=>by have:=(hs.blk ha).2;dsimp only at this;omega⟩
 obtain⟨s',w2,g1,g2,gs,g3,g4,g5⟩:=wS (ty:=ty) ht hi hz rB ZY Kx hr NG hy (bh hB k3.size) hm JQ;refine⟨y,w1,k1,k3,s',w2,g1,g2,⟨gs,g3,λg hg=>⟨(g4 g hg).1,(g4 g hg).2.1,(hs.blk (g4 g hg).1).2⟩⟩,?_⟩;rcases g5 with h | h
 ·exact .inl h
 exact .inr ⟨_,h,k3.size⟩
theorem Own.store(hr:r.Ok)(hs:Own r size e B w F s xs){n}(hn:n<xs.length){x}{vs}(hv:vs.length=size)(hx:r w G x vs)(hG:∀k,G k->k<w.heap.size->F k/\s.a≠some ⟨k,0,none⟩)(h0:0<size):
  ∃g cells,s.a=some ⟨g,0,none⟩/\dN s n size ⟨g,n*size,none⟩/\Blk w g e cells/\n*size+size<=cells.length/\
   ∀w',Only [g] w w'->Blk w' g e (bZ cells (n*size) vs)->Own r size e B w' F s (xs.set n x):=by
 rcases hs with⟨rfl,rfl⟩ | ⟨g,css,tail,h1,h2,h4,h5,h6,h7,h9,h8⟩
 ·simp at hn
 have pj:=h8.len;have hcn:n<css.length:=aE
 have S0:=CR h8.sz;have IE:=by
  have:=ey size (show n+1<=css.length by omega);rw[fD]at this;omega
 refine⟨g,_,h1,⟨_,h1,aE,aE,by rw[gM,ba,bI]⟩,h4,aaG,λw' hO hb=>.inr ⟨g,css.set n vs,tail,h1,h2,?_,h5,by rw[OS];exact h6,h7,h9,?_⟩⟩
 ·rw[CT h8.sz (bJ hcn) hv]at hb;exact hb
 refine nJ.setAt (h8.keep hr λk hk cd=>hO.block k cd acd) n hv (hr.keep (w:=w) (F:=λk=>F k/\k≠g) ?_ λk hk cd=>hO.block k cd acd);refine hr.mono (hr.inHeap hx) λk hk=>?_;obtain⟨p1,p2⟩:=hG k hk.1 hk.2;exact⟨p1,λe=>p2 (by rw[h1,e])⟩
end
theorem fP.ZQ{α β}{P}{f:α->β}:∀{xs:List α} {css:List _},fP P (xs.map f) css↔fP (λx cs=>P (f x) cs) xs css
 | [],[]=>Iff.rfl
 | x::xs,c::cs=>by simp[bG,fP,fP.ZQ (xs:=xs) (css:=cs)]
 | [],_::_=>Iff.rfl
 | _::_,[]=>Iff.rfl
theorem fP.Ra{α}{P Q}:∀{xs:List α} {css:List _},(∀x c,x∈xs->P x c->Q x c)->fP P xs css->fP Q xs css
 | [],[],_,_=>trivial
 | x::xs,c::cs,hi,h=>⟨hi _ _ aM h.1,fP.Ra (xs:=xs) (css:=cs) (λy d hy=>hi y d (by simp[hy])) h.2⟩
 | [],_::_,_,h=>h.elim
 | _::_,[],_,h=>h.elim
theorem Own.map{α β}{r:Rp α}{q:Rp β}{size}{w}{F G}{s}{xs}{e}{B} f (h:Own r size e B w F s xs) (hf:∀g x cs,x∈xs->r w (λk=>F k/\k≠g) x cs->q w (λk=>G k/\k≠g) (f x) cs):Own q size e B w G s (xs.map f):=by
 rcases h with⟨rfl,rfl⟩ | ⟨g,css,tail,h1,h2,h4,h5,h6,h7,h9,h8⟩
 ·exact .inl ⟨rfl,rfl⟩
 exact .inr ⟨g,css,tail,h1,h2,h4,h5,by rw[bX];exact h6,h7,h9,fP.ZQ.2 (fP.Ra (λx c hx hc=>⟨hc.1,hf g x c hx hc.2⟩) h8)⟩
section
variable {P:Program} {w:av}
theorem zf{z}(hz:∀v,v∈z->v.oneCell'=true)(h0:0<z.size) n:∀v,v∈(Builtin.zeroCells z n).toList->v.oneCell'=true:=λv hv=>by
 have hv':=abG
 simp[Builtin.zeroCells,Array.mem_map,Array.mem_range]at hv';obtain⟨i,hi,rfl⟩:=hv';have cd:i % z.size<z.size:=Nat.mod_lt _ h0;rw[getElem!_pos z _ cd];exact hz _ (Array.getElem_mem cd)
theorem zg{t e ty}{z}(ht:P.underlying t=some (.slice e))(hv:∀w,(zeroValue e).run P w=.ok z w)(h1:∀v,v∈z.cells->v.oneCell'=true)(U6:0<z.cells.size){g o n c}{bt}{cs}(hn:0<n)
  (hb:Blk w g bt cs) (JP:o+n*z.cells.size<=cs.length):
  (Builtin.clear_ #[t] ty #[.slice (some ⟨g,o,none⟩) n c]).run P w=.ok (.tuple #[]) (w.setRow g (cs.take o++(Builtin.zeroCells z.cells n).toList++cs.drop (o+n*z.cells.size)).toArray):=by
 have hl:(Builtin.zeroCells z.cells n).toList.length=n*z.cells.size:=by rw[qA,size_zeroCells]
 have kP:=run_storeCells_at P g o bt (Builtin.zeroCells z.cells n).toList 0 cs.toArray w hb (by rw[hl];simpa using JP) (zf h1 U6 n);simp[gz,hl,ij]at kP;obtain⟨m,rfl⟩:∃m,n=m+1:=⟨n-1,aE⟩
 simp[Builtin.clear_,run_underlying ht,hv,kP]
theorem Own.clear{α}{r:Rp α}{size}{F}{s}{xs}{e}{B}{t ty}{z}(hr:r.Ok)(h0:0<size)(ht:P.underlying t=some (.slice e))(hv:∀w,(zeroValue e).run P w=.ok z w)(h1:∀v,v∈z.cells->v.oneCell'=true)(Kx:z.cells.size=size)
  (hs:Own r size e B w F s xs) {i} (hi:i<xs.length):
  ∃w' g,(Builtin.clear_ #[t] ty #[Sl.v (Sl.cut s i s.n s.c size)]).run P w=.ok (.tuple #[]) w'/\s.a=some ⟨g,0,none⟩/\Only [g] w w'/\Own r size e B w' F (Sl.cut s 0 i s.c size) (xs.take i):=by
 rcases hs with⟨rfl,rfl⟩ | ⟨g,css,tail,a1,a2,a4,a5,a6,a7,a9,a8⟩
 ·simp at hi
 obtain⟨sa,sn,sc⟩:=s;dsimp only at a1 a5 a6 a7 a9;subst a1;have S0:=a8.Ga;have Z2:Sl.cut ⟨some ⟨g,0,none⟩,sn,sc⟩ i sn sc size=⟨some ⟨g,i*size,none⟩,sn-i,sc-i⟩:=by
  simp[Sl.cut];rw[aO aE];simp[fQ,gM,bI]
 have e1:i*size+(sn-i)*size=sn*size:=by rw[<-fD];congr 1;omega
 have hO:=Only.setRow w g (((css.flatten++tail).take (i*size)++(Builtin.zeroCells z.cells (sn-i)).toList++(css.flatten++tail).drop (i*size+(sn-i)*z.cells.size)).toArray);refine⟨_,g,by rw[Z2];exact zg (P:=P) (w:=w) (t:=t) (ty:=ty) ht hv h1 aE (g:=g) (o:=i*size) (n:=sn-i) (c:=sc-i) aE a4 (by rw[Kx,e1,aN,S0,a6];omega),rfl,hO,?_⟩;have Z3:Sl.cut ⟨some ⟨g,0,none⟩,sn,sc⟩ 0 i sc size=⟨some ⟨g,0,none⟩,i,sc⟩:=by
  simp only[Sl.cut];split<;>simp[Addr.add]
 rw[Z3];have ov:(css.flatten++tail).take (i*size)=(css.take i).flatten:=by
  rw[KK (by rw[S0,<-a6];exact ey _ aE),I6 a8.sz]
 refine .inr ⟨g,css.take i,(Builtin.zeroCells z.cells (sn-i)).toList++(css.flatten++tail).drop (i*size+(sn-i)*z.cells.size),rfl,a2,?_,?_,?_,aaq,a9,?_⟩
 ·have:=a4.setRow ((css.flatten++tail).take (i*size)++(Builtin.zeroCells z.cells (sn-i)).toList++(css.flatten++tail).drop (i*size+(sn-i)*z.cells.size));rw[bf,ov]at this;rw[ov];simpa using this
 ·simp only[aN,bW,S0,<-a6,qA,size_zeroCells,a5,Kx,e1];rw[dI,<-fD];congr 1;omega
 ·rw[dC];dsimp only;omega
 refine nJ.keep hr (fP.take i a8) λk hk cd=>hO.block k cd acd
end
theorem RR l m:((⟨List.toArray l⟩:ByteArray).toList==(⟨List.toArray m⟩:ByteArray).toList)=decide (l=m):=by
 by_cases h:l=m<;>simp[h]
end Go.Kt
namespace Go.Kt
open Go renaming World->av,Value->aw
open Go Go.RowKit Go.MapKept
structure MapI (w:av) (r:Nat) (m:Int->Option Int):Prop where
 mem:∃es clock,w.heap[r]? =some (.map es clock)/\(∀x,x∈es.toList->∃k v,x.key=.int .i64 k/\x.val=.int .i64 v)/\es.toList.Pairwise (λx y=>x.key≠y.key)/\
  ∀k v,m k=some v↔∃x,x∈es.toList/\x.key=.int .i64 k/\x.val=.int .i64 v
section
variable {P:Program} {w w':av} {r:Nat} {m:Int->Option Int} {mty kt et:TypeId}
theorem MapI.keep(h:MapI w r m)(hk:w'.heap[r]? =w.heap[r]?):MapI w' r m:=by
 obtain⟨es,c,h1,h2⟩:=h.mem;exact⟨es,c,hk.trans h1,h2⟩
theorem MapI.lt(h:MapI w r m):r<w.heap.size:=by
 obtain⟨es,c,h1,h2⟩:=h.mem;exact(kR.1 h1).1
theorem MapI.only(h:MapI w r m){bs}(hO:Only bs w w')(hn:r∉bs):MapI w' r m:=h.keep (hO.block r h.lt hn)
end
end Go.Kt
namespace Go.Kt
open Go renaming World->av,Value->aw
open Go Go.RowKit
@[reducible] def T(l:List UInt8):ByteArray:=⟨l.toArray⟩
theorem CU(s:ByteArray):s=T s.data.toList:=by
 obtain⟨⟨l⟩⟩:=s;rfl
theorem bO(l:List UInt8):(T l).size=l.length:=by simp[T,ByteArray.size]
theorem kw(l:List UInt8)(i:Nat):(T l)[i]? =l[i]? :=by
 by_cases h:i<l.length
 ·rw[bJ h,getElem?_pos (T l) i (by rw[bO];exact h)];rfl
 rw[cQ aE,getElem?_neg (T l) i (by rw[bO];exact h)]
theorem oJ(l:List UInt8)(a b:Nat):(T l).extract a b=T ((l.drop a).take (b-a)):=by
 rw[CU ((T l).extract a b),Lib.extract_data]
theorem dQ(l m:List UInt8):T l++T m=T (l++m):=by
 apply ByteArray.ext;simp[T]
theorem ju(l m:List UInt8):((T l).toList==(T m).toList)=decide (l=m):=RR l m
def sH(us:Nat->aw):List (Nat×aw)->Nat->aw
 | [],i=>us i
 | (k,v)::r,i=>bif Nat.beq k i then v else sH us r i
def vZ:List (Nat×aw)->Nat->Option aw
 | [],_=>none
 | (k,v)::r,i=>bif Nat.beq k i then some v else vZ r i
def PO(us:Nat->aw)(l:List (Nat×aw)):Nat->Nat->List aw
 | 0,_=>[]
 | n+1,i=>sH us l i::PO us l n (i+1)
def fr(n:Nat)(us:Nat->aw)(l:List (Nat×aw)):Act:=⟨(PO us l n 0).toArray,[]⟩
def evO(n:Nat)(l:List (Nat×aw)):Operand->Option aw
 | .tmp k=>bif Nat.blt k n then vZ l k else none
 | .const v=>some v
 | .global g=>some (.pointer (some ⟨g,0,none⟩))
 | .func f=>some (.func (.func f) #[] #[])
def pl:Option Tmp->aw->List (Nat×aw)->List (Nat×aw)
 | some k,v,l=>(k,v)::l
 | none,_,l=>l
def AV:Nat->List aw->List (Nat×aw)
 | _,[]=>[]
 | i,v::r=>(i,v)::AV (i+1) r
section
variable {n0:Nat} {us0:Nat->aw} {l0:List (Nat×aw)}
theorem mL(us:Nat->aw)(l:List (Nat×aw)):∀n i,(PO us l n i).length=n
 | 0,_=>rfl
 | n+1,i=>by simp only[PO,aU,mL us l n (i+1)]
theorem lQ(us:Nat->aw)(l:List (Nat×aw)):∀n i k,k<n->(PO us l n i)[k]? =some (sH us l (i+k))
 | 0,_,_,h=>aE
 | n+1,i,0,_=>rfl
 | n+1,i,k+1,h=>by
  simp only[PO,gL];rw[lQ us l n (i+1) k aE,show i+1+k=i+(k+1) by omega]
theorem rP{us:Nat->aw}:∀{l:List (Nat×aw)} {k:Nat} {v:aw},vZ l k=some v->sH us l k=v
 | [],_,_,h=>aah
 | (j,u)::r,k,v,h=>by
  simp only[vZ,sH]at h⊢;cases hb:Nat.beq j k with
  | true=>rw[hb]at h;simpa using h
  | false=>rw[hb]at h;exact rP (l:=r) aat
theorem AW{us:Nat->aw}:∀{l:List (Nat×aw)} {k:Nat},vZ l k=none->sH us l k=us k
 | [],_,_=>rfl
 | (j,u)::r,k,h=>by
  simp only[vZ,sH]at h⊢;cases hb:Nat.beq j k with
  | true=>rw[hb]at h;simp at h
  | false=>rw[hb]at h;exact AW (l:=r) aat
theorem KV{k:Nat}(hk:k<n0):(fr n0 us0 l0).eval (.tmp k)=sH us0 l0 k:=by
 show(PO us0 l0 n0 0).toArray.getD k undef=_;rw[Array.getD_eq_getD_getElem?,oE,lQ _ _ _ _ _ hk,bI];rfl
theorem evE{x:Operand}{v:aw}(h:evO n0 l0 x=some v):(fr n0 us0 l0).eval x=v:=by
 cases x with
 | tmp k=>
  simp only[evO]at h;cases hb:Nat.blt k n0 with
  | false=>rw[hb]at h;cases h
  | true=>
   rw[hb]at h;rw[KV (de hb)];exact rP h
 | const u=>simpa[evO,Act.eval]using h
 | global g=>simpa[evO,Act.eval]using h
 | func f=>simpa[evO,Act.eval]using h
theorem uc{us:Nat->aw}{l:List (Nat×aw)}{k i:Nat}{v:aw}(h:k≠i):sH us ((k,v)::l) i=sH us l i:=by
 have:Nat.beq k i=false:=by
  cases hb:Nat.beq k i with
  | false=>rfl
  | true=>exact absurd (bN hb) h
 simp only[sH,this,sW]
theorem ud{us:Nat->aw}{l:List (Nat×aw)}{k:Nat}{v:aw}:sH us ((k,v)::l) k=v:=by
 simp only[sH,Nat.beq_refl,mV]
theorem XH{k:Nat}{v:aw}:(fr n0 us0 l0).put (some k) v=fr n0 us0 ((k,v)::l0):=by
 unfold fr;rw[f0];congr 2;apply nP;intro i;rw[List.getElem?_set,mL];by_cases hi:i<n0
 ·rw[lQ _ _ _ _ _ hi,lQ _ _ _ _ _ hi,bI];split
  ·rename_i h;subst h;rw[aR hi,ud]
  rename_i h;rw[uc h]
 rw[cQ (by rw[mL];omega),cQ (by rw[mL];omega)];split
 ·rename_i h;subst h;rw[aO hi]
 rfl
theorem ada{d:Option Tmp}{v:aw}:(fr n0 us0 l0).put d v=fr n0 us0 (pl d v l0):=by
 cases d with
 | none=>rfl
 | some k=>exact XH
theorem zM:∀(args:List aw) (j i:Nat),sH (λ_=>undef) (AV j args) i=if j<=i then(args[i-j]?).getD undef else undef
 | [],j,i=>by simp[AV,sH]
 | v::r,j,i=>by
  simp only[AV];by_cases zu:j=i
  ·subst zu;rw[ud,aR (aY _)];simp
  rw[uc zu,zM r (j+1) i];by_cases IE:j<=i
  ·rw[aR IE,aR aE,show i-j=(i-(j+1))+1 by omega,gL]
  rw[aO IE,aO aE]
end
section
variable {P:Program} {ops:Array Oper} {Q:Exit->Act->av->Prop} {rest:List Oper} {w w':av} {n0:Nat} {us0:Nat->aw} {l0:List (Nat×aw)}
def asB:aw->Option Bool
 | .bool b=>some b
 | _=>none
theorem CV{dK:List Oper}{j d:Nat}{oj:Oper}{v:aw}(h2:fV dK j=some oj)(h3:oj.dst=some d)(h4:evO n0 l0 (.tmp d)=some v):
  yielded dK.toArray (fr n0 us0 l0).tmps j=asB v:=by
 rw[jq]at h2;have hd:d<n0:=by
  simp only[evO]at h4;cases hb:Nat.blt d n0 with
  | false=>rw[hb]at h4;cases h4
  | true=>exact de hb
 have h5:=evE (us0:=us0) h4;rw[KV hd]at h5;have:(fr n0 us0 l0).tmps[d]? =some v:=by
  show(PO us0 l0 n0 0).toArray[d]? =_;rw[oE,lQ _ _ _ _ _ hd,bI,h5]
 simp only[yielded,oE,h2,Kj,h3,this];cases v<;>rfl
theorem wtF{o oj:Oper}{dK:List Oper}{j d:Nat}{want b r:Bool}(h1:o.guard=some (j,want))(h2:fV dK j=some oj)(h3:oj.dst=some d)
  (h4:evO n0 l0 (.tmp d)=some (.bool b)) (h5:(b==want)=r):Region.wanted o (yielded dK.toArray (fr n0 us0 l0).tmps)=r:=by
 subst h5;have e:=CV (us0:=us0) h2 h3 h4;simp only[Region.wanted,h1,e,asB];cases b<;>cases want<;>rfl
theorem wuF{o oj:Oper}{dK:List Oper}{j d:Nat}{want:Bool}(h1:o.guard=some (j,want))(h2:fV dK j=some oj)(h3:oj.dst=some d)
  (h4:evO n0 l0 (.tmp d)=some undef):Region.wanted o (yielded dK.toArray (fr n0 us0 l0).tmps)=false:=by
 have e:=CV (us0:=us0) h2 h3 h4;simp[Region.wanted,h1,e,undef,asB]
theorem pg{x y:Option Addr}(h:x=y):some (Value.pointer x)=some (.pointer y):=by rw[h]
theorem ag{x y:Addr}(h:x=y):some (Value.pointer (some x))=some (.pointer (some y)):=by rw[h]
theorem sn{op:Op}{t':TypeId}{p:String}{af:Array Edge}{v:aw}(hr:(execOp (fr n0 us0 l0).eval ⟨none,op,t',p,af,none⟩).run P w=.ok (.value v) w)
 (h:wpList P ops Q rest (fr n0 us0 l0) w):wpList P ops Q (⟨none,op,t',p,af,none⟩::rest) (fr n0 us0 l0) w:=E2 v (wn rfl) hr (f3 _ _) h
section
variable {md:Region.Mode} {E:Nat->av->av->Prop} {F:av->Prop}
theorem XI(i:Nat){dK:List Oper}{d:Option Tmp}{op:Op}{t':TypeId}{p:String}{af:Array Edge}{g:Option (Nat×Bool)}{eU:Nat}{bB:Array Bool}(D N:List Nat)(F:av->Prop){v:aw}(hi:fV dK i=some ⟨d,op,t',p,af,g⟩)
  (hb:(Region.noSelect dK.toArray&&Region.free md dK.toArray bB i&&(Region.ready md dK.toArray bB).contains i&&ub md dK.toArray bB&&qF md dK.toArray i [] D&&(N.all λk=>bB.getD k true))=true)
  (hQ:∀c a w,Q (.panic c) (Act.put a d v) w->Q (.panic c) a w) (kP:∀j w w',j∉D->j∉N->F w->E j w w'->F w') (Ay:∀w,F w->E i w w) (hF:F w)
  (hy:YieldsIf P dK.toArray F ⟨d,op,t',p,af,g⟩ v (fr n0 us0 l0))
  (h:fh P md dK.toArray Q E eU (bB.setIfInBounds i true) (fr n0 us0 (pl d v l0)) w):fh P md dK.toArray Q E (eU+1) bB (fr n0 us0 l0) w:=by
 simp only[aP]at hb;obtain⟨⟨⟨⟨⟨b1,b2⟩,b3⟩,b4⟩,b5⟩,b6⟩:=hb;exact Ff i D N v F hi b1 b2 b3 b4 b5 b6 hQ kP Ay hF hy ada h
theorem eN(i:Nat){dK:List Oper}{d:Option Tmp}{op:Op}{t':TypeId}{p:String}{af:Array Edge}{g:Option (Nat×Bool)}{eU:Nat}{bB:Array Bool}{ls:List (Nat×List Nat)}(hi:fV dK i=some ⟨d,op,t',p,af,g⟩)
  (hE:∀w,EL ls i w w) (hg:Region.wanted ⟨d,op,t',p,af,g⟩ (yielded dK.toArray (fr n0 us0 l0).tmps)=false)
  (h:fh P md dK.toArray Q (EL ls) eU (bB.setIfInBounds i true) (fr n0 us0 (pl d undef l0)) w)
  (hb:(Region.noSelect dK.toArray&&Region.free md dK.toArray bB i&&(Region.ready md dK.toArray bB).contains i&&ub md dK.toArray bB&&qF md dK.toArray i [] []&&(([]:List Nat).all λk=>bB.getD k true))=true:=by kernel_rfl)
  (hQ:∀c a w,Q (.panic c) (Act.put a d undef) w->Q (.panic c) a w:=by exact λ_ _ _ h=>h):fh P md dK.toArray Q (EL ls) (eU+1) bB (fr n0 us0 l0) w:=
 XI i [] [] (λ_=>True) hi hb hQ PM (λw _=>hE w) trivial (TA hg) h
end
end
end Go.Kt
namespace Go.Kt.V
open Go renaming World->av,Value->aw
open Go Go.RowKit Go.Kt
structure OV where
 v:aw
 one:v.oneCell'=true
inductive SV where
 | int (k:IntKind) (n:Int)
 | il (k:IntKind) (n:Int)
 | bl (b:Bool)
 | bt (t:Bool)
 | str (s:ByteArray)
 | np
 | ptr (p:Option Addr)
 | ad (a:Addr)
 | box (i o:Nat)
 | sl (s:Sl)
 | nsl
 | map (m:Option Nat)
 | raw (v:OV)
 | fn (f:FuncId) (fs cs:SV)
 | agg (l:SV)
 | tup (l:SV)
 | un
 | e
 | c (h t:SV)
def oK(β:Nat->Nat):SV->List aw
 | .int k n=>[.int k n]
 | .il k n=>[.int k n]
 | .bl b=>[.bool b]
 | .bt t=>[.bool t]
 | .str s=>[.string s]
 | .np=>[.pointer none]
 | .ptr p=>[.pointer p]
 | .ad a=>[.pointer (some a)]
 | .box i o=>[.pointer (some ⟨β i,o,none⟩)]
 | .sl s=>[s.v]
 | .nsl=>[Sl.v Sl.nil]
 | .map m=>[.map m]
 | .raw v=>[v.v]
 | .fn f fs cs=>[.func (.func f) (oK β fs).toArray (oK β cs).toArray]
 | .agg l=>[.agg (oK β l).toArray]
 | .tup l=>[.tuple (oK β l).toArray]
 | .un=>[undef]
 | .e=>[]
 | .c h t=>(oK β h).headD undef::oK β t
def val(β:Nat->Nat)(s:SV):aw:=(oK β s).headD undef
def ck(β:Nat->Nat)(l:List SV):List aw:=l.map (val β)
def ma:SV->List SV
 | .c h t=>h::ma t
 | _=>[]
def lR:List SV->SV
 | []=>.e
 | s::r=>.c s (lR r)
def zh:SV->Bool
 | .c _ t=>zh t
 | .e=>true
 | _=>false
theorem pC β:∀l,oK β (lR l)=ck β l
 | []=>rfl
 | s::r=>by simp only[lR,oK,pC β r];rfl
theorem lS β:∀{s:SV},zh s=true->oK β s=ck β (ma s)
 | .e,_=>rfl
 | .c h t,hl=>by simp only[oK,ma,lS β (s:=t) hl];rfl
def cln(g:Nat->Bool):SV->Bool
 | .box i _=>g i
 | .fn _ fs cs=>cln g fs&&cln g cs
 | .agg l=>cln g l
 | .tup l=>cln g l
 | .c h t=>cln g h&&cln g t
 | _=>true
def gN(g:Nat->Bool):List SV->Bool
 | []=>true
 | s::r=>cln g s&&gN g r
theorem lj{β β'}{g}(h:∀i,g i=true->β i=β' i):∀s,cln g s=true->oK β s=oK β' s
 | .int ..,_ | .il ..,_ | .bl ..,_ | .bt ..,_ | .str ..,_ | .np,_ | .ptr ..,_ | .ad ..,_ | .sl ..,_ | .nsl,_ | .map ..,_ | .raw ..,_ | .un,_ | .e,_=>rfl
 | .box i o,hc=>by simp[oK,h i hc]
 | .fn f fs cs,hc=>by
  simp[cln,aP]at hc;simp[oK,lj h fs hc.1,lj h cs hc.2]
 | .agg l,hc=>by simp[oK,lj h l hc]
 | .tup l,hc=>by simp[oK,lj h l hc]
 | .c s t,hc=>by
  simp[cln,aP]at hc;simp[oK,lj h s hc.1,lj h t hc.2]
theorem iy{β β'}{g}(h:∀i,g i=true->β i=β' i) s (hc:cln g s=true):val β s=val β' s:=by
 unfold val;rw[lj h s hc]
theorem gw{β β'}{g}(h:∀i,g i=true->β i=β' i):∀l,gN g l=true->ck β l=ck β' l
 | [],_=>rfl
 | s::r,hc=>by
  simp[gN,aP]at hc;have:=gw h r hc.2;simp only[ck,bG]at this⊢;rw[iy h s hc.1,this]
theorem eS β l:(ck β l).length=l.length:=by rw[ck,bX]
def KW:aw->Option SV
 | .int k n=>some (.il k n)
 | .bool b=>some (.bl b)
 | .string s=>some (.str s)
 | .pointer none=>some .np
 | .slice none 0 0=>some .nsl
 | .map m=>some (.map m)
 | v=>if h:v.oneCell'=true then some (.raw ⟨v,h⟩)else none
def zi:List aw->Option SV
 | []=>some .e
 | v::r=>match KW v,zi r with
  | some s,some l=>some (.c s l)
  | _,_=>none
def ofV:aw->Option SV
 | .agg cs=>(zi cs.toList).map .agg
 | .tuple cs=>(zi cs.toList).map .tup
 | .func (.func f) fs cs=>match zi fs.toList,zi cs.toList with
  | some a,some b=>some (.fn f a b)
  | _,_=>none
 | v=>KW v
theorem xz{v}{s}(h:KW v=some s) β:val β s=v:=by
 unfold KW at h;split at h
 all_goals first | (simp at h;subst h;rfl) | skip
 split at h
 ·simp at h;subst h;rfl
 cases h
theorem qH β:∀{l:List aw} {s:SV},zi l=some s->oK β s=l
 | [],s,h=>by simp[zi,bg]at h;subst h;rfl
 | v::r,s,h=>by
  simp[zi]at h;split at h
  ·rename_i s' l' h1 h2;simp at h;subst h;simp only[oK,qH β h2];rw[show(oK β s').headD undef=v from xz h1 β]
  cases h
theorem GM{v}{s}(h:ofV v=some s) β:val β s=v:=by
 unfold ofV at h;split at h
 ·rename_i cs;cases hl:zi cs.toList with
  | none=>rw[hl]at h;cases h
  | some l=>
   rw[hl]at h;simp at h;subst h;simp[val,oK,xu,qH β hl]
 ·rename_i cs;cases hl:zi cs.toList with
  | none=>rw[hl]at h;cases h
  | some l=>
   rw[hl]at h;simp at h;subst h;simp[val,oK,xu,qH β hl]
 ·split at h
  ·rename_i a b h1 h2;simp at h;subst h;simp[val,oK,xu,qH β h1,qH β h2]
  cases h
 exact xz h β
structure jO where
 blk:Option Nat
 ty:TypeId
 cells:List SV
 stp:Nat
 ok:Bool
 esc:Bool
 sh:Bool
structure St where
 n:Nat
 fr:List (Nat×Nat×SV)
 bx:List jO
 w0:av
 mv:Bool
 dt:List Nat
 ct:Nat
 df:List (Nat×List aw×List aw)
def RS(l:List (Nat×List aw×List aw)):List Deferred:=l.map λd=>{target:=.fn (.func d.1) d.2.2.toArray,args:=d.2.1.toArray}
def Wx(n:Nat)(us:Nat->aw)(l:List (Nat×aw))(D:List Deferred):Act:=⟨(PO us l n 0).toArray,D⟩
def dA:List (Nat×Nat×SV)->Nat->Option (Nat×SV)
 | [],_=>none
 | (k,s)::r,i=>bif Nat.beq k i then some s else dA r i
def St.get(st:St)(i:Nat):Option SV:=bif Nat.blt i st.n then(dA st.fr i).map (·.2)else none
def St.ev(st:St):Operand->Option SV
 | .tmp k=>st.get k
 | .const v=>ofV v
 | .global g=>some (.ad ⟨g,0,none⟩)
 | .func f=>some (.fn f .e .e)
def St.Iy(st:St):List Operand->Option (List SV)
 | []=>some []
 | x::r=>match st.ev x,st.Iy r with
  | some v,some vs=>some (v::vs)
  | _,_=>none
def St.O5(st:St):List (Nat×Operand)->Option (List (Nat×SV))
 | []=>some []
 | (i,x)::r=>match st.ev x,st.O5 r with
  | some v,some vs=>some ((i,v)::vs)
  | _,_=>none
def St.put(st:St)(d:Option Tmp)(v:SV):St:=match d with
 | some k=>{st with fr:=(k,st.ct,v)::st.fr,ct:=st.ct+1}
 | none=>st
def cF:List jO->Nat->Option jO
 | [],_=>none
 | b::_,0=>some b
 | _::r,n+1=>cF r n
def I8:List jO->Nat->jO->List jO
 | [],_,_=>[]
 | _::r,0,b=>b::r
 | a::r,n+1,b=>a::I8 r n b
def cv(β:Nat->Nat)(l:List (Nat×Nat×SV)):List (Nat×aw):=l.map λp=>(p.1,val β p.2.2)
theorem kx β:∀l i,vZ (cv β l) i=(dA l i).map λp=>val β p.2
 | [],_=>rfl
 | (k,s)::r,i=>by
  simp[cv,bG,vZ,dA];cases Nat.beq k i with
  | true=>rfl
  | false=>exact kx β r i
structure Z4 (β:Nat->Nat) (w0 w:av) (i:Nat) (b:jO):Prop where
 blk:Blk w (β i) b.ty (ck β b.cells)
 at_:∀k,b.blk=some k->β i=k
 new:b.blk=none->w0.heap.size<=β i
structure Rep (β:Nat->Nat) (st:St) (a:Act) (w:av):Prop where
 fr:∃us,a=Wx st.n us (cv β st.fr) (RS st.df)
 bx:∀i b,cF st.bx i=some b->b.ok=true->Z4 β st.w0 w i b
 ne:∀i j bi bj,cF st.bx i=some bi->cF st.bx j=some bj->bi.ok=true->bj.ok=true->i≠j->β i≠β j
 only:Only (st.dt.map β) st.w0 w
 still:st.mv=false->w=st.w0
structure Ext (s t:St):Prop where
 n:t.n=s.n
 ct:s.ct<=t.ct
 fr:∀i k v,dA t.fr i=some (k,v)->k<s.ct->dA s.fr i=some (k,v)
 bx:∀i b',cF t.bx i=some b'->b'.ok=true->b'.stp<s.ct->∃b,cF s.bx i=some b/\b.ok=true/\b.cells=b'.cells/\b.ty=b'.ty/\b.stp=b'.stp/\(∀k,b.blk=some k->b'.blk=some k)
 ps:∀i b,cF s.bx i=some b->∃b',cF t.bx i=some b'/\b'.ty=b.ty/\b'.ok=b.ok/\∀k,b.blk=some k->b'.blk=some k
 df:∃l,t.df=l++s.df
theorem Cy{s:St}:∃l,s.df=l++s.df:=⟨[],rfl⟩
theorem KX{l}:∀i b,cF l i=some b->∃b',cF l i=some b'/\b'.ty=b.ty/\b'.ok=b.ok/\∀k,b.blk=some k->b'.blk=some k:=λi b h=>⟨b,h,rfl,rfl,λ_ h=>h⟩
theorem Ext.refl s:Ext s s:=⟨rfl,aY _,λ_ _ _ h _=>h,λi b h ho _=>⟨b,h,ho,rfl,rfl,rfl,λ_ h=>h⟩,KX,Cy⟩
theorem Ext.trans{s t u}(h:Ext s t)(k:Ext t u):Ext s u:=
 ⟨k.n.trans h.n,bh h.ct k.ct,λi m v hl cd=>h.fr i m v (k.fr i m v hl (cj cd h.ct)) cd,λi b'' hb ho hs=>by
  obtain⟨b',k1,k2,k3,k4,k6,k5⟩:=k.bx i b'' hb ho (cj hs h.ct);obtain⟨b,h1,h2,h3,h4,h6,h5⟩:=h.bx i b' k1 k2 (by rw[k6];exact hs);exact⟨b,h1,h2,h3.trans k3,h4.trans k4,h6.trans k6,λm hm=>k5 m (h5 m hm)⟩,λi b hb=>by
  obtain⟨b',h1,h2,h3,h4⟩:=h.ps i b hb;obtain⟨b'',k1,k2,k3,k4⟩:=k.ps i b' h1;exact⟨b'',k1,k2.trans h2,k3.trans h3,λm hm=>k4 m (h4 m hm)⟩,by
  obtain⟨l,h1⟩:=h.df;obtain⟨m,k1⟩:=k.df;exact⟨m++l,by rw[k1,h1,bf]⟩⟩
section
variable {β:Nat->Nat} {st:St} {a:Act} {w:av}
theorem Rep.get(h:Rep β st a w){i}{s}(hg:st.get i=some s):a.eval (.tmp i)=val β s:=by
 obtain⟨us,rfl⟩:=h.fr;show(Kt.fr st.n us _).eval (.tmp i)=_;refine evE (n0:=st.n) (us0:=us) ?_;unfold St.get at hg;cases hb:Nat.blt i st.n with
 | false=>rw[hb]at hg;cases hg
 | true=>
  rw[hb,mV]at hg;simp only[evO,hb,mV,kx];cases hl:dA st.fr i with
  | none=>rw[hl]at hg;cases hg
  | some p=>
   rw[hl]at hg;simp at hg;rw[fQ,hg]
theorem Rep.ev(h:Rep β st a w){x}{s}(hg:st.ev x=some s):a.eval x=val β s:=by
 cases x with
 | tmp k=>exact h.get hg
 | const v=>rw[GM hg];rfl
 | global g=>
  simp[St.ev,bg]at hg;subst hg;rfl
 | func f=>
  simp[St.ev,bg]at hg;subst hg;rfl
theorem Rep.Iy(h:Rep β st a w):∀{xs:List Operand} {l:List SV},st.Iy xs=some l->xs.map a.eval=ck β l
 | [],l,hg=>by simp[St.Iy,bg]at hg;subst hg;rfl
 | x::r,l,hg=>by
  simp[St.Iy]at hg;split at hg
  ·rename_i v vs hx hr;simp at hg;subst hg;rw[bG,h.ev hx,h.Iy hr];rfl
  cases hg
def zN(β:Nat->Nat)(l:List (Nat×SV)):List (Nat×aw):=l.map λp=>(p.1,val β p.2)
theorem Rep.O5(h:Rep β st a w):∀{xs:List _} {l:List _},st.O5 xs=some l->(xs.map λq=>(q.1,a.eval q.2))=zN β l
 | [],l,hg=>by simp[St.O5,bg]at hg;subst hg;rfl
 | _::r,l,hg=>by
  simp[St.O5]at hg;split at hg
  ·rename_i v vs hx hr;simp at hg;subst hg;rw[bG,h.O5 hr,h.ev hx];rfl
  cases hg
theorem St.evO{st:St} β {x} {s} (hg:st.ev x=some s):Kt.evO st.n (cv β st.fr) x=some (val β s):=by
 cases x with
 | tmp i=>
  have hg:st.get i=some s:=hg;unfold St.get at hg;cases hb:Nat.blt i st.n with
  | false=>rw[hb]at hg;cases hg
  | true=>
   rw[hb,mV]at hg;simp only[Kt.evO,hb,mV,kx];cases hl:dA st.fr i with
   | none=>rw[hl]at hg;cases hg
   | some p=>
    rw[hl]at hg;simp at hg;rw[fQ,hg]
 | const v=>rw[GM hg];rfl
 | global g=>
  simp[St.ev,bg]at hg;subst hg;rfl
 | func f=>
  simp[St.ev,bg]at hg;subst hg;rfl
theorem Rep.put(h:Rep β st a w) d v:Rep β (st.put d v) (a.put d (val β v)) w:=by
 cases d with
 | none=>exact h
 | some k=>
  obtain⟨us,rfl⟩:=h.fr;exact⟨⟨us,br (λa:Act=>(⟨a.tmps,RS st.df⟩:Act)) (XH (n0:=st.n) (us0:=us) (l0:=cv β st.fr) (k:=k) (v:=val β v))⟩,h.bx,h.ne,h.only,h.still⟩
theorem Ext.put st d v:Ext st (st.put d v):=by
 cases d with
 | none=>exact Ext.refl _
 | some k=>
  refine⟨rfl,iw _,λi m u hl cd=>?_,λi b h ho _=>⟨b,h,ho,rfl,rfl,rfl,λ_ h=>h⟩,KX,Cy⟩;simp[St.put,dA]at hl;cases hb:Nat.beq k i with
  | true=>
   rw[hb]at hl;simp at hl;omega
  | false=>rw[hb]at hl;simpa using hl
theorem Rep.frame(h:Rep β st a w){fr'}(hs:∀i p,dA fr' i=some p->∃q,dA st.fr i=some q/\val β q.2=val β p.2):Rep β {st with fr:=fr'} a w:=by
 obtain⟨us,rfl⟩:=h.fr;refine⟨?_,h.bx,h.ne,h.only,h.still⟩;refine⟨λi=>sH us (cv β st.fr) i,?_⟩;unfold Wx;congr 2;apply nP;intro i;by_cases hi:i<st.n
 ·rw[lQ _ _ _ _ _ hi,lQ _ _ _ _ _ hi,bI];cases hl:dA fr' i with
  | none=>
   rw[AW (l:=cv β fr') ab9]
  | some p=>
   obtain⟨q,h1,h2⟩:=hs i p hl;rw[rP (l:=cv β fr') (v:=val β p.2) ab9,rP (l:=cv β st.fr) (v:=val β p.2) (by rw[kx,h1,fQ,h2])]
 rw[cQ (by rw[mL];exact Kk hi),cQ (by rw[mL];exact Kk hi)]
end
def bP{α:Type}(o:Option α)(K:α->Prop):Prop:=match o with
 | some v=>K v
 | none=>False
theorem bn{α}{o:Option α}{K}(h:bP o K):∃v,o=some v/\K v:=by
 cases o with
 | none=>exact h.elim
 | some v=>exact⟨v,rfl,h⟩
def gi:List (Bool×Bool)->Prop->Prop
 | [],p=>p
 | (t,b)::r,p=>t=b->gi r p
def gh:List (Bool×Bool)->Prop
 | []=>True
 | (t,b)::r=>t=b/\gh r
theorem gx:∀{gs:List _} {p:Prop},gi gs p->gh gs->p
 | [],_,h,_=>h
 | _::r,p,h,k=>gx (gs:=r) (h k.1) k.2
inductive Lf where
 | int (k:IntKind)
 | bool
 | str
 | ptr
 | sl
 | map
 | raw
def Lf.T:Lf->Type
 | .int _=>Int
 | .bool=>Bool
 | .str=>ByteArray
 | .ptr=>Option Addr
 | .sl=>Sl
 | .map=>Option Nat
 | .raw=>OV
def Lf.sv:(l:Lf)->l.T->SV
 | .int k,x=>.int k x
 | .bool,x=>.bt x
 | .str,x=>.str x
 | .ptr,x=>.ptr x
 | .sl,x=>.sl x
 | .map,x=>.map x
 | .raw,x=>.raw x
theorem Lf.cln g (l:Lf) x:V.cln g (l.sv x)=true:=by cases l<;>rfl
def PQ:List Lf->(List SV->Prop)->Prop
 | [],K=>K []
 | l::r,K=>∃x,PQ r λvs=>K (l.sv x::vs)
theorem qI:∀{ls:List Lf} {K:List SV->Prop},PQ ls K->∃vs,K vs/\vs.length=ls.length/\∀g,gN g vs=true
 | [],K,h=>⟨[],h,rfl,λ_=>rfl⟩
 | l::r,K,h=>by
  obtain⟨x,h⟩:=h;obtain⟨vs,h1,h2,h3⟩:=qI (ls:=r) h;exact⟨_,h1,by simp[h2],λg=>by simp[gN,Lf.cln,h3 g,cH]⟩
def adf:TypeDesc->Lf
 | .int k=>.int k
 | .bool=>.bool
 | .string=>.str
 | .pointer _=>.ptr
 | .slice _=>.sl
 | .map _ _=>.map
 | _=>.raw
def rep{α:Type}:Nat->List α->List α
 | 0,_=>[]
 | n+1,l=>l++rep n l
def flat{α β:Type}(f:α->List β):List α->List β
 | []=>[]
 | x::r=>f x++flat f r
def KY(P:Program):Nat->TypeId->List Lf
 | 0,_=>[]
 | n+1,t=>match P.underlying t with
  | some (.struct fs)=>flat (λf:Field=>KY P n f.type) fs.toList
  | some (.array len e)=>rep len (KY P n e)
  | some d=>[adf d]
  | none=>[]
def lm:TypeDesc->Bool
 | .struct _=>true
 | .array _ _=>true
 | _=>false
def I9(ag:Bool)(l:List SV):SV:=bif ag then .agg (lR l)else l.headD .un
def β0:Nat->Nat:=λ_=>0
def oL:SV->Option (IntKind×Int)
 | .int k n=>some (k,n)
 | .il k n=>some (k,n)
 | _=>none
theorem cY{s}{k}{n}(h:oL s=some (k,n)) β:val β s=.int k n:=by
 cases s<;>simp[oL,bg,eK,reduceCtorEq]at h
 all_goals obtain⟨rfl,rfl⟩:=h;rfl
def xA:SV->Option Bool
 | .bl b=>some b
 | .bt b=>some b
 | _=>none
theorem lp{s}{b}(h:xA s=some b) β:val β s=.bool b:=by
 cases s<;>simp[xA,bg,reduceCtorEq]at h
 all_goals subst h;rfl
def tA:SV->Option ByteArray
 | .str s=>some s
 | _=>none
theorem gP{s}{b}(h:tA s=some b) β:val β s=.string b:=by
 cases s<;>simp[tA,bg,reduceCtorEq]at h
 all_goals subst h;rfl
def GN:SV->Option Sl
 | .sl s=>some s
 | .nsl=>some Sl.nil
 | _=>none
theorem jE{s}{b}(h:GN s=some b) β:val β s=b.v:=by
 cases s<;>simp[GN,bg,reduceCtorEq]at h
 all_goals subst h;rfl
def ib(op:BinOp)(k:IntKind)(m n:Int):Option SV:=match op with
 | .add=>some (.int k (k.wrap (m+n)))
 | .sub=>some (.int k (k.wrap (m-n)))
 | .mul=>some (.int k (k.wrap (m*n)))
 | .eql=>some (.bt (m==n))
 | .neq=>some (.bt (m !=n))
 | .lss=>some (.bt (decide (m<n)))
 | .leq=>some (.bt (decide (m<=n)))
 | .gtr=>some (.bt (decide (m>n)))
 | .geq=>some (.bt (decide (m>=n)))
 | .and=>some (.int k (bits .and k m n))
 | .or=>some (.int k (bits .or k m n))
 | .xor=>some (.int k (bits .xor k m n))
 | .andNot=>some (.int k (bits .andNot k m n))
 | _=>none
def sb(op:BinOp)(s u:ByteArray):Option SV:=match op with
 | .eql=>some (.bt (s.toList==u.toList))
 | .neq=>some (.bt (!(s.toList==u.toList)))
 | .lss=>some (.bt (Op.bytesLess s.toList u.toList))
 | .geq=>some (.bt (!(Op.bytesLess s.toList u.toList)))
 | .leq=>some (.bt (Op.bytesLess s.toList u.toList||(s.toList==u.toList)))
 | .gtr=>some (.bt (!(Op.bytesLess s.toList u.toList||(s.toList==u.toList))))
 | _=>none
def nz(gs:List (Bool×Bool))(b:SV)(n:Int)(K:Prop):Prop:=match b with
 | .il _ _=>bif n==0 then False else K
 | _=>gi gs (n≠0)/\K
def ge0(gs:List (Bool×Bool))(b:SV)(n:Int)(K:Prop):Prop:=match b with
 | .il _ _=>bif decide (0<=n)then K else False
 | _=>gi gs (0<=n)/\K
def opn:SV->Option (Option Addr)
 | .np=>some none
 | .ptr p=>some p
 | .ad a=>some (some a)
 | _=>none
theorem PR{s}{p}(h:opn s=some p) β:val β s=.pointer p:=by
 cases s<;>simp[opn,bg,reduceCtorEq]at h
 all_goals subst h;rfl
def pn(op:BinOp)(a:SV):Option SV:=match op,a with
 | .eql,.ptr p=>some (.bt p.isNone)
 | .neq,.ptr p=>some (.bt (!p.isNone))
 | .eql,.ad _=>some (.bl false)
 | .neq,.ad _=>some (.bl true)
 | .eql,.box _ _=>some (.bl false)
 | .neq,.box _ _=>some (.bl true)
 | .eql,.np=>some (.bl true)
 | .neq,.np=>some (.bl false)
 | _,_=>none
def sn(op:BinOp)(s:Sl):Option SV:=match op with
 | .eql=>some (.bt s.a.isNone)
 | .neq=>some (.bt (!s.a.isNone))
 | _=>none
def KZ:SV->Bool
 | .np=>true
 | _=>false
def CW:SV->Bool
 | .nsl=>true
 | _=>false
def eq1(P:Program)(t:TypeId)(x y:SV):Option Bool:=match P.underlying t with
 | some (.int _)=>(match oL x,oL y with
  | some (k,m),some (k',n)=>bif decide (k=k')then some (m==n)else none
  | _,_=>none)
 | some .string=>(match tA x,tA y with
  | some s,some u=>some (s==u)
  | _,_=>none)
 | some .bool=>(match xA x,xA y with
  | some s,some u=>some (s==u)
  | _,_=>none)
 | _=>none
def CX(P:Program)(xs ys:List SV):List Field->Option Bool
 | []=>some true
 | f::r=>bif f.name== "_" then none else match xs[f.offset]?,ys[f.offset]? with
  | some x,some y=>(match eq1 P f.type x y,CX P xs ys r,r with
   | some b,some _,[]=>some b
   | some b,some c,_=>some (b&&c)
   | _,_,_=>none)
  | _,_=>none
def TB(P:Program)(t:TypeId)(fs:Array Field)(a b:SV):Option Bool:=match a,b with
 | .agg l,.agg m=>bif zh l&&zh m&&!P.stoodInHeld t&&!P.eqGuardType P.depth t then CX P (ma l) (ma m) fs.toList else none
 | _,_=>none
def TC(op:BinOp)(b:Bool):Option SV:=match op with
 | .eql=>some (.bt b)
 | .neq=>some (.bt (!b))
 | _=>none
def mn(op:BinOp)(a b:SV):Option SV:=match op,a,b with
 | .eql,.map m,.map none=>some (.bt m.isNone)
 | .neq,.map m,.map none=>some (.bt (!m.isNone))
 | _,_,_=>none
def TD(P:Program)(gs:List (Bool×Bool))(op:BinOp)(t:TypeId)(a b:SV)(K:SV->Prop):Prop:=
 match oL a,oL b with
 | some (k,m),some (k',n)=>(match op with
  | .shl=>ge0 gs b n (K (.int k (k.wrap (m*2 ^ (min n.toNat k.bits)))))
  | .shr=>ge0 gs b n (K (.int k (m.fdiv (2 ^ (min n.toNat k.bits)))))
  | .quo=>bif decide (k=k')then nz gs b n (K (.int k (k.wrap (m.tdiv n))))else False
  | .rem=>bif decide (k=k')then nz gs b n (K (.int k (m.tmod n)))else False
  | _=>bif decide (k=k')then bP (ib op k m n) K else False)
 | _,_=>match tA a,tA b with
  | some s,some u=>(match op with
   | .add=>gi gs ((s.size:Int)+u.size<=9223372036854775807)/\K (.str (s++u))
   | _=>bP (sb op s u) K)
  | _,_=>match xA a,xA b,P.underlying t with
   | some s,some u,some .bool=>(match op with
    | .eql=>K (.bt (s==u))
    | .neq=>K (.bt (!(s==u)))
    | _=>False)
   | _,_,_=>match P.underlying t with
    | some (.pointer _)=>bif KZ b then bP (pn op a) K else bif KZ a then bP (pn op b) K else False
    | some (.slice _)=>bif CW b then bP ((GN a).bind (sn op)) K else bif CW a then bP ((GN b).bind (sn op)) K else False
    | some (.struct fs)=>bP (TB P t fs a b) λr=>bP (TC op r) K
    | some (.map _ _)=>bP (mn op a b) K
    | _=>False
section
variable {P:Program} {gs:List (Bool×Bool)} {K:SV->Prop}
theorem RT{b}{k}{n}{K}(hb:oL b=some (k,n))(h:nz gs b n K):K/\(gh gs->n≠0):=by
 unfold nz at h;split at h
 ·cases hn:(n==0)with
  | true=>rw[hn]at h;exact h.elim
  | false=>rw[hn]at h;exact⟨h,λ_=>acn⟩
 exact⟨h.2,λg=>gx h.1 g⟩
theorem K0{b}{n}{K}(h:ge0 gs b n K):K/\(gh gs->0<=n):=by
 unfold ge0 at h;split at h
 ·by_cases hn:0<=n
  ·rw[bE hn]at h;exact⟨h,λ_=>hn⟩
  rw[bq hn]at h;exact h.elim
 exact⟨h.2,λg=>gx h.1 g⟩
theorem dh{b}{p}(h:bif b then p else False):b=true/\p:=by
 cases b with
 | true=>exact⟨rfl,h⟩
 | false=>exact h.elim
def lU(P:Program)(op:BinOp)(t:TypeId)(a b v:SV):Prop:=
 ∀β (act:Act) x y dst ty t' p af g w,act.eval x=val β a->act.eval y=val β b->
  (execOp act.eval ⟨dst,.binOp op t x y ty,t',p,af,g⟩).run P w=.ok (.value (val β v)) w
theorem XJ{op}{t}{a b v}{k}{m n}(ha:oL a=some (k,m))(hb:oL b=some (k,n))(h:ib op k m n=some v):lU P op t a b v:=by
 intro β act x y dst ty t' p af g w hx hy;rw[cY ha]at hx;rw[cY hb]at hy;cases op<;>simp[ib,bg,reduceCtorEq]at h
 all_goals subst h;simp[execOp,hx,hy];cases k<;>rfl
theorem XK{op}{t}{a b v}{s u}(ha:tA a=some s)(hb:tA b=some u)(h:sb op s u=some v):lU P op t a b v:=by
 intro β act x y dst ty t' p af g w hx hy;rw[gP ha]at hx;rw[gP hb]at hy;cases op<;>simp only[sb,bg,reduceCtorEq]at h
 all_goals subst h;simp only[execOp,hx,hy];rfl
theorem RU{op}{t e}{a b v}(hu:P.underlying t=some (.pointer e))(hb:KZ b=true)(h:pn op a=some v):lU P op t a b v/\lU P op t b a v:=by
 have Z5:∀β,val β b=.pointer none:=λβ=>by
  unfold KZ at hb;split at hb
  ·rfl
  cases hb
 have key:∀β,∃(q:Option Addr) (r:Bool),val β a=.pointer q/\val β v=.bool r/\((op=.eql/\q.isNone=r)∨(op=.neq/\(!q.isNone)=r)):=by
  intro β;unfold pn at h;split at h<;>simp only[bg,reduceCtorEq]at h<;>subst h
  ·exact⟨_,_,rfl,rfl,.inl ⟨rfl,rfl⟩⟩
  ·exact⟨_,_,rfl,rfl,.inr ⟨rfl,rfl⟩⟩
  ·exact⟨_,_,rfl,rfl,.inl ⟨rfl,rfl⟩⟩
  ·exact⟨_,_,rfl,rfl,.inr ⟨rfl,rfl⟩⟩
  ·exact⟨_,_,rfl,rfl,.inl ⟨rfl,rfl⟩⟩
  ·exact⟨_,_,rfl,rfl,.inr ⟨rfl,rfl⟩⟩
  ·exact⟨_,_,rfl,rfl,.inl ⟨rfl,rfl⟩⟩
  exact⟨_,_,rfl,rfl,.inr ⟨rfl,rfl⟩⟩
 constructor
 ·intro β act x y dst ty t' p af g w hx hy;obtain⟨q,r,h1,h2,h3⟩:=key β;rw[h1]at hx;rw[Z5]at hy;rw[h2];rcases h3 with⟨rfl,h3⟩ | ⟨rfl,h3⟩
  ·exact AO (run_underlying hu w) hx hy h3
  exact AQ (run_underlying hu w) hx hy h3
 intro β act x y dst ty t' p af g w hx hy;obtain⟨q,r,h1,h2,h3⟩:=key β;rw[h1]at hy;rw[Z5]at hx;rw[h2];rcases h3 with⟨rfl,h3⟩ | ⟨rfl,h3⟩
 ·exact AP (run_underlying hu w) hx hy h3
 exact AR (run_underlying hu w) hx hy h3
theorem RV{op}{t e}{a b v}(hu:P.underlying t=some (.slice e))(hb:CW b=true)(h:(GN a).bind (sn op)=some v):lU P op t a b v/\lU P op t b a v:=by
 have Z5:∀β,val β b=.slice none 0 0:=λβ=>by
  unfold CW at hb;split at hb
  ·rfl
  cases hb
 cases hs:GN a with
 | none=>rw[hs]at h;cases h
 | some s=>
  rw[hs]at h;simp at h;constructor
  ·intro β act x y dst ty t' p af g w hx hy;rw[jE hs]at hx;rw[Z5]at hy;cases op<;>simp only[sn,bg,reduceCtorEq]at h<;>subst h
   ·exact CK (run_underlying hu w) hx hy
   exact CM (run_underlying hu w) hx hy
  intro β act x y dst ty t' p af g w hx hy;rw[jE hs]at hy;rw[Z5]at hx;cases op<;>simp only[sn,bg,reduceCtorEq]at h<;>subst h
  ·exact CL (run_underlying hu w) hx hy
  exact CN (run_underlying hu w) hx hy
theorem XM{op:BinOp}{t k e:TypeId}{a b v}(hu:P.underlying t=some (.map k e))(h:mn op a b=some v):lU P op t a b v:=by
 intro β act x y dst ty t' p af g w hx hy;unfold mn at h;split at h<;>simp only[bg,reduceCtorEq]at h<;>subst h
 all_goals
  rename_i m;change act.eval x=.map m at hx;change act.eval y=.map none at hy;have hE:∀d,(Op.equalIn (d+1) t (.map m) (.map none)).run P w=.ok m.isNone w:=λd=>by
   unfold Op.equalIn;cases m<;>simp[Sem.run_bind,run_underlying hu w,Result.andThen_ok]<;>rfl
 ·have hB:binOp .eql t (.map m) (.map none)=(do pure (.bool ((<-Op.equal t (.map m) (.map none))))):=by cases m<;>rfl
  have hG:eqGuard .eql t x y (.map m) (.map none)=pure _:=rfl;simp[execOp,hx,hy,hG,hB,Op.equal,Op.maxDepth,Sem.run_bind,Sem.run_pure,Result.andThen_ok,hE 9999];rfl
 have hB:binOp .neq t (.map m) (.map none)=(do pure (.bool (!(<-Op.equal t (.map m) (.map none))))):=by cases m<;>rfl
 have hG:eqGuard .neq t x y (.map m) (.map none)=pure _:=rfl;simp[execOp,hx,hy,hG,hB,Op.equal,Op.maxDepth,Sem.run_bind,Sem.run_pure,Result.andThen_ok,hE 9999];rfl
theorem PS{t}{x y}{b}(h:eq1 P t x y=some b) β d w:P.plainKey t=true/\(Op.equalIn (d+1) t (val β x) (val β y)).run P w=.ok b w:=by
 unfold eq1 at h;split at h
 ·rename_i k hu;refine⟨abZ,?_⟩;split at h
  ·rename_i k1 m k2 n hx hy;cases hk:decide (k1=k2)with
   | false=>rw[hk]at h;cases h
   | true=>
    rw[hk]at h;injection h with h;subst h;have hk:=aV hk;subst hk;rw[cY hx,cY hy];simp[Op.equalIn,run_underlying hu]
  cases h
 ·rename_i hu;refine⟨abZ,?_⟩;split at h
  ·rename_i s u hx hy;injection h with h;subst h;rw[gP hx,gP hy];simp[Op.equalIn,run_underlying hu]
  cases h
 ·rename_i hu;refine⟨abZ,?_⟩;split at h
  ·rename_i s u hx hy;injection h with h;subst h;rw[lp hx,lp hy];simp[Op.equalIn,run_underlying hu]
  cases h
 cases h
theorem CY{xs ys} β d w:∀{fs:List Field} {b:Bool},CX P xs ys fs=some b->(Op.eqFields (d+1) (ck β xs).toArray (ck β ys).toArray fs).run P w=.ok b w
 | [],b,h=>by
  simp[CX,bg]at h;subst h;simp[Op.eqFields]
 | f::r,b,h=>by
  unfold CX at h;cases hn:(f.name== "_")with
  | true=>rw[hn]at h;cases h
  | false=>
   rw[hn,sW]at h;split at h
   ·rename_i x y hx hy;have px:(ck β xs).toArray[f.offset]? =some (val β x):=by simp[ck,hx]
    have py:(ck β ys).toArray[f.offset]? =some (val β y):=by simp[ck,hy]
    have go:∀{b1 c:Bool},eq1 P f.type x y=some b1->CX P xs ys r=some c->(Op.eqFields (d+1) (ck β xs).toArray (ck β ys).toArray (f::r)).run P w=.ok (b1&&c) w:=fun{b1 c} h1 h2=>by
     obtain⟨k1,k2⟩:=PS h1 β d w;simp only[Op.eqFields,by simpa using hn,ne_eq,not_false_eq_true,wQ,Sem.run_bind,run_part_plain w k1 px,run_part_plain w k1 py,k2,Result.andThen_ok];cases b1
     ·simp
     simpa using CY β d w h2
    split at h
    ·rename_i b1 c h1 h2;injection h with h;subst h;have:=go h1 h2;simp[CX,bg]at h2;subst h2;rwa[cH]at this
    ·rename_i b1 c h1 _ h2;injection h with h;subst h;exact go h1 h2
    cases h
   cases h
theorem PT{op}{t}{fs}{a b v}{r}(hu:P.underlying t=some (.struct fs))(h:TB P t fs a b=some r)(hv:TC op r=some v):lU P op t a b v:=by
 unfold TB at h;split at h
 ·rename_i l m;obtain⟨h0,h⟩:(zh l&&zh m&&!P.stoodInHeld t&&!P.eqGuardType P.depth t)=true/\CX P _ _ fs.toList=some r:=by
   cases hc:(zh l&&zh m&&!P.stoodInHeld t&&!P.eqGuardType P.depth t)with
   | true=>rw[hc]at h;exact⟨rfl,h⟩
   | false=>rw[hc]at h;cases h
  simp at h0;obtain⟨⟨⟨h1,h2⟩,h3⟩,h4⟩:=h0;intro β act x y dst ty t' p af g w hx hy;have ea:∀{l:SV},zh l=true->val β (.agg l)=.agg (ck β _).toArray:=λhl=>by
   show Value.agg (oK β _).toArray=_;rw[lS β hl]
  rw[ea h1]at hx;rw[ea h2]at hy;have hfs:P.fieldsOf t=fs:=by simp[Program.fieldsOf,hu]
  have hE:(Op.equalIn 10000 t (.agg (ck β (ma l)).toArray) (.agg (ck β (ma m)).toArray)).run P w=.ok r w:=by
   rw[show 10000=9999+1 from rfl,run_equalIn_struct w 9999 t _ _ (by rw[hfs];exact hu) h3,hfs];exact CY β 9998 w h
  have hG:∀op,(eqGuard op t x y (.agg (ck β (ma l)).toArray) (.agg (ck β (ma m)).toArray)).run P w=.ok () w:=λop=>by
   unfold eqGuard;cases op<;>simp[run_program,h4]
  unfold TC at hv;split at hv
  ·injection hv with hv;subst hv;have hB:binOp .eql t (.agg (ck β (ma l)).toArray) _=(do pure (.bool (<-Op.equal t _ (.agg (ck β (ma m)).toArray)))):=rfl;simp[execOp,hx,hy,hB,Op.equal,Op.maxDepth,Sem.run_bind,Sem.run_pure,Result.andThen_ok,hE,hG];rfl
  ·injection hv with hv;subst hv;have hB:binOp .neq t (.agg (ck β (ma l)).toArray) _=(do pure (.bool (!(<-Op.equal t _ (.agg (ck β (ma m)).toArray))))):=rfl;simp[execOp,hx,hy,hB,Op.equal,Op.maxDepth,Sem.run_bind,Sem.run_pure,Result.andThen_ok,hE,hG];rfl
  cases hv
 cases h
theorem PU{op}{t}{a b}(h:TD P gs op t a b K):∃v,K v/\(gh gs->lU P op t a b v):=by
 unfold TD at h;split at h
 ·rename_i k m k' n ha hb;have gen:∀{K:SV->Prop},(bif decide (k=k')then bP _ K else False)->∃v,K v/\(gh gs->lU P op t a b v):=λh=>by
   obtain⟨iJ,h1⟩:=dh h;have hk:=aV iJ;subst hk;obtain⟨v,hv,hK⟩:=bn h1;exact⟨v,hK,λ_=>XJ ha hb hv⟩
  split at h
  ·obtain⟨h,hn⟩:=K0 h;exact⟨_,h,λg β act x y dst ty t' p af gg w hx hy=>Xx (by rw[hx,cY ha]) (by rw[hy,cY hb]) (hn g)⟩
  ·obtain⟨h,hn⟩:=K0 h;exact⟨_,h,λg β act x y dst ty t' p af gg w hx hy=>Xy (by rw[hx,cY ha]) (by rw[hy,cY hb]) (hn g)⟩
  ·obtain⟨iJ,h1⟩:=dh h;have hk:=aV iJ;subst hk;obtain⟨h2,hn⟩:=RT hb h1;exact⟨_,h2,λg β act x y dst ty t' p af gg w hx hy=>Xv (by rw[hx,cY ha]) (by rw[hy,cY hb]) (hn g)⟩
  ·obtain⟨iJ,h1⟩:=dh h;have hk:=aV iJ;subst hk;obtain⟨h2,hn⟩:=RT hb h1;exact⟨_,h2,λg β act x y dst ty t' p af gg w hx hy=>Xw (by rw[hx,cY ha]) (by rw[hy,cY hb]) (hn g)⟩
  exact gen h
 split at h
 ·rename_i s u ha hb;split at h
  ·exact⟨_,h.2,λg β act x y dst ty t' p af gg w hx hy=>KP (by rw[hx,gP ha]) (by rw[hy,gP hb]) (gx h.1 g)⟩
  obtain⟨v,hv,hK⟩:=bn h;exact⟨v,hK,λ_=>XK ha hb hv⟩
 split at h
 ·rename_i s u ha hb hu;split at h
  ·exact⟨_,h,λg β act x y dst ty t' p af gg w hx hy=>I3 hu (by rw[hx,lp ha]) (by rw[hy,lp hb])⟩
  ·exact⟨_,h,λg β act x y dst ty t' p af gg w hx hy=>I4 hu (by rw[hx,lp ha]) (by rw[hy,lp hb])⟩
  exact h.elim
 split at h
 ·rename_i e hu;cases hb:KZ b with
  | true=>
   rw[hb]at h;obtain⟨v,hv,hK⟩:=bn h;exact⟨v,hK,λ_=>(RU hu hb hv).1⟩
  | false=>
   rw[hb]at h;obtain⟨ha,h⟩:=dh h;obtain⟨v,hv,hK⟩:=bn h;exact⟨v,hK,λ_=>(RU hu ha hv).2⟩
 ·rename_i e hu;cases hb:CW b with
  | true=>
   rw[hb]at h;obtain⟨v,hv,hK⟩:=bn h;exact⟨v,hK,λ_=>(RV hu hb hv).1⟩
  | false=>
   rw[hb]at h;obtain⟨ha,h⟩:=dh h;obtain⟨v,hv,hK⟩:=bn h;exact⟨v,hK,λ_=>(RV hu ha hv).2⟩
 ·rename_i fs hu;obtain⟨r,hr,h⟩:=bn h;obtain⟨v,hv,hK⟩:=bn h;exact⟨v,hK,λ_=>PT hu hr hv⟩
 ·rename_i kk ee hu;obtain⟨v,hv,hK⟩:=bn h;exact⟨v,hK,λ_=>XM hu hv⟩
 exact h.elim
end
def PV:SV->Bool
 | .agg _=>false
 | .tup _=>false
 | .un=>false
 | .e=>false
 | .c _ _=>false
 | _=>true
def GP:List SV->Bool
 | []=>true
 | s::r=>PV s&&GP r
theorem CZ{s}(h:PV s=true) β:(val β s).oneCell'=true/\(val β s).cells=#[val β s]:=by
 cases s with
 | raw v=>
  have e:val β (.raw v)=v.v:=rfl;refine⟨v.one,?_⟩;obtain⟨v,hv⟩:=v;cases v<;>first | rfl | (simp[Value.oneCell']at hv)
 | _=>first | exact⟨rfl,rfl⟩ | (simp[PV]at h)
theorem zO:∀{l:List SV},GP l=true->∀β,(ck β l).all Value.oneCell'=true
 | [],_,_=>rfl
 | s::r,h,β=>by
  simp[GP,aP]at h;simp only[ck,bG,fp,aP];exact⟨(CZ h.1 β).1,zO h.2 β⟩
def xB:SV->Option (List SV)
 | .agg l=>bif zh l&&GP (ma l)then some (ma l)else none
 | s=>bif PV s then some [s]else none
theorem AX{α:Type}{b}{x}{y:α}(h:(bif b then some x else none)=some y):b=true/\x=y:=by
 cases b with
 | true=>exact⟨rfl,aat⟩
 | false=>cases h
theorem vh{s}{l}(h:xB s=some l) β:(val β s).cells=(ck β l).toArray/\(ck β l).all Value.oneCell'=true:=by
 unfold xB at h;split at h
 ·obtain⟨h1,rfl⟩:=AX h;simp at h1;refine⟨?_,zO h1.2 β⟩;show(oK β _).toArray=_;rw[lS β h1.1]
 obtain⟨h1,rfl⟩:=AX h;obtain⟨h2,h3⟩:=CZ h1 β;exact⟨h3,by simp[ck,h2]⟩
def Fi:List aw->Option (List SV)
 | []=>some []
 | v::r=>match KW v,Fi r with
  | some s,some l=>some (s::l)
  | _,_=>none
theorem wT β:∀{l:List aw} {s:List SV},Fi l=some s->ck β s=l
 | [],s,h=>by simp[Fi,bg]at h;subst h;rfl
 | v::r,s,h=>by
  simp[Fi]at h;split at h
  ·rename_i s' l' h1 h2;simp at h;subst h;have:=wT β h2;simp only[ck,bG]at this⊢;rw[xz h1,this]
  cases h
def XN(cs:List SV)(o:Nat)(vs:List SV):List SV:=cs.take o++vs++cs.drop (o+vs.length)
theorem C0 β cs o vs:ck β (XN cs o vs)=bZ (ck β cs) o (ck β vs):=by
 simp[ck,XN,bZ,dx,pw,pz,bX]
theorem C1{off}:∀vs k cs,off+k+vs.length<=cs.length->
  (vs.zipIdx k).foldl (λcs x=>cs.setIfInBounds (off+x.2) x.1) cs.toArray=(bZ cs (off+k) vs).toArray
 | [],k,cs,_=>by simp[bZ]
 | v::vs,k,cs,h=>by
  simp at h;have e:cs.toArray.setIfInBounds (off+k) v=(cs.set (off+k) v).toArray:=aM
  rw[List.zipIdx_cons,List.foldl_cons];rw[e,C1 vs _ _ (by rw[OS];omega)];simp[bZ,aU];rw[show off+_=off+k+1 by omega,bK,List.getElem?_set_self aE,List.take_set_of_le (aY _),List.drop_set_of_lt aE,show off+k+1+vs.length=off+k+(vs.length+1) by omega];simp
def zP(place:Nat->Option (Nat×Nat)):List SV->List (Nat×SV)->Option (List SV)
 | cells,[]=>some cells
 | cells,(i,v)::rest=>match place i,xB v with
  | some (off,size),some vs=>bif Nat.beq vs.length size&&Nat.ble (off+vs.length) cells.length then zP place (XN cells off vs) rest else none
  | _,_=>none
theorem xC β {place}:∀{parts:List _} {cells r:List SV},zP place cells parts=some r->Instr.fill place (ck β cells).toArray (zN β parts)=some (ck β r).toArray
 | [],cells,r,h=>by simp[zP,bg]at h;subst h;rfl
 | _::rest,cells,r,h=>by
  simp[zP]at h;split at h
  ·rename_i off size vs hp hc;cases hb:(Nat.beq vs.length size&&Nat.ble _ cells.length)with
   | false=>rw[hb]at h;cases h
   | true=>
    rw[hb]at h;simp only[aP]at hb;have h1:=bN hb.1;have h2:=de hb.2;obtain⟨e1,_⟩:=vh hc β;have ih:=xC β (parts:=rest) (cells:=XN cells off vs) h;rw[C0]at ih;simp only[zN,bG,Instr.fill,hp,e1,nN,eS];rw[aO aae];have e2:=C1 (off:=off) (ck β vs) 0 (ck β cells) (by rw[eS,eS];omega);rw[gz]at e2;have e3:(ck β vs).toArray.zipIdx.foldl (λcs x=>cs.setIfInBounds (off+x.2) x.1) (ck β cells).toArray=(bZ (ck β cells) off (ck β vs)).toArray:=by
     rw[<-e2];simp
    exact(br (λa=>Instr.fill place a _) e3).trans ih
  cases h
def TE(P:Program)(t:TypeId)(parts:List (Nat×SV)):Option (List SV):=
 match P.info? t,P.underlying t with
 | some it,some (.array _ e)=>(match it.zero,P.info? e with
  | some z,some ie=>(match Fi z.cells.toList with
   | some zs=>zP (λi=>some (i*ie.size,ie.size)) zs parts
   | none=>none)
  | _,_=>none)
 | some it,some (.struct fields)=>(match it.zero,fields.toList.mapM (λf=>(P.info? f.type).map λi=>(f.offset,i.size))with
  | some z,some places=>(match Fi z.cells.toList with
   | some zs=>zP (places.toArray[·]?) zs parts
   | none=>none)
  | _,_=>none)
 | _,_=>none
theorem PW{P}{t}{parts}{r}(h:TE P t parts=some r) β w:(Instr.build t (zN β parts).toArray).run P w=.ok (.agg (ck β r).toArray) w:=by
 refine run_build w t _ _ ?_;unfold TE at h;split at h
 ·rename_i it n e h1 h2;split at h
  ·rename_i z ie h3 h4;split at h
   ·rename_i zs h5;have:=xC β h;rw[wT β h5]at this;simp[Program.built,h1,h2,h3,h4];simpa using this
   cases h
  cases h
 ·rename_i it fields h1 h2;split at h
  ·rename_i z places h3 h4;split at h
   ·rename_i zs h5;have:=xC β h;rw[wT β h5]at this;simp[Program.built,h1,h2,h3,h4];simpa using this
   cases h
  cases h
 cases h
def sz(P:Program)(t:TypeId)(n:Nat):Bool:=match P.info? t with
 | some i=>Nat.beq i.size n
 | none=>false
theorem oc{P}{t}{n}(h:sz P t n=true) w:(sizeOf t).run P w=.ok n w:=by
 unfold sz at h;cases hi:P.info? t with
 | none=>rw[hi]at h;cases h
 | some i=>
  rw[hi]at h;rw[<-bN h];simp[sizeOf,typeInfo,hi]
def tB(P:Program)(t:TypeId):Nat:=match P.info? t with
 | some i=>i.size
 | none=>0
theorem j9{P}{t}{d}(h:P.underlying t=some d) w:(isAgg t).run P w=.ok (lm d) w:=by
 unfold isAgg;rw[Sem.run_bind,run_underlying h,Result.andThen_ok];cases d<;>rfl
def Fj(b:SV)(K:Nat->(Prop->Prop)->Prop):Prop:=match b with
 | .il _ n=>bif decide (0<=n)then K n.toNat id else False
 | .int _ n=>∃v,K v λp=>n=v/\p
 | _=>False
theorem lq{b}{K}(h:Fj b K):∃(v:Nat) (e:Prop->Prop) (k:IntKind) (n:Int),K v e/\oL b=some (k,n)/\(∀p,e p->n=v/\p):=by
 unfold Fj at h;split at h
 ·rename_i k n;obtain⟨h1,h2⟩:=dh h;have h1:=aV h1;exact⟨_,_,k,n,h2,rfl,λp hp=>⟨aE,hp⟩⟩
 ·rename_i k n;obtain⟨v,hv⟩:=h;exact⟨v,_,k,n,hv,rfl,λp hp=>hp⟩
 exact h.elim
def slS(gs:List (Bool×Bool))(s:Sl)(es:Nat)(st:St)(lo hi mx:Option Operand)(K:SV->Prop):Prop:=match lo,hi,mx with
 | some lo,none,none=>bP (st.ev lo) λa=>Fj a λl e=>gi gs (e (l<=s.n/\s.n<=s.c))/\K (.sl (s.cut l s.n s.c es))
 | none,some hi,none=>bP (st.ev hi) λa=>Fj a λh e=>gi gs (e (h<=s.c))/\K (.sl (s.cut 0 h s.c es))
 | some lo,some hi,none=>bP (st.ev lo) λa=>bP (st.ev hi) λb=>Fj a λl e=>Fj b λh f=>gi gs (e (f (l<=h/\h<=s.c)))/\K (.sl (s.cut l h s.c es))
 | none,some hi,some mx=>bP (st.ev hi) λb=>bP (st.ev mx) λc=>Fj b λh e=>Fj c λm f=>gi gs (e (f (h<=m/\m<=s.c)))/\K (.sl (s.cut 0 h m es))
 | some lo,some hi,some mx=>bP (st.ev lo) λa=>bP (st.ev hi) λb=>bP (st.ev mx) λc=>Fj a λl e=>Fj b λh f=>Fj c λm g=>gi gs (e (f (g (l<=h/\h<=m/\m<=s.c))))/\K (.sl (s.cut l h m es))
 | _,_,_=>False
def slT(gs:List (Bool×Bool))(s:ByteArray)(st:St)(lo hi mx:Option Operand)(K:SV->Prop):Prop:=match lo,hi,mx with
 | some lo,none,none=>bP (st.ev lo) λa=>Fj a λl e=>gi gs (e (l<=s.size))/\K (.str (s.extract l s.size))
 | none,some hi,none=>bP (st.ev hi) λa=>Fj a λh e=>gi gs (e (h<=s.size))/\K (.str (s.extract 0 h))
 | some lo,some hi,none=>bP (st.ev lo) λa=>bP (st.ev hi) λb=>Fj a λl e=>Fj b λh f=>gi gs (e (f (l<=h/\h<=s.size)))/\K (.str (s.extract l h))
 | _,_,_=>False
def sI(P:Program)(b:Builtin)(xs:List Operand)(ts:List TypeId)(st:St)(K:SV->Prop):Prop:=match b,xs,ts with
 | .len,[x],[t]=>bP (st.ev x) λa=>(match P.underlying t with
  | some (.slice _)=>bP (GN a) λs=>K (.int .i64 s.n)
  | some .string=>bP (tA a) λs=>K (.int .i64 s.size)
  | _=>False)
 | .cap,[x],[t]=>bP (st.ev x) λa=>(match P.underlying t with
  | some (.slice _)=>bP (GN a) λs=>K (.int .i64 s.c)
  | _=>False)
 | .min,[x,y],_=>bP (st.ev x) λa=>bP (st.ev y) λb=>bP (oL a) λp=>bP (oL b) λq=>K (.int p.1 (if q.2<p.2 then q.2 else p.2))
 | .max,[x,y],_=>bP (st.ev x) λa=>bP (st.ev y) λb=>bP (oL a) λp=>bP (oL b) λq=>K (.int p.1 (if q.2>p.2 then q.2 else p.2))
 | _,_,_=>False
def nif:TypeDesc->Bool
 | .interface _=>false
 | _=>true
def cvP(P:Program)(gs:List (Bool×Bool))(st:St)(s d:TypeId)(a:SV)(K:SV->Prop):Prop:=match P.underlying s,P.underlying d with
 | some (.int _),some (.int kd)=>bP (oL a) λp=>K (.int kd (kd.wrap p.2))
 | some .string,some .string=>bP (tA a) λu=>K (.str u)
 | some (.slice e),some .string=>(match P.underlying e with
  | some (.int .u8)=>bP (GN a) λu=>bif st.mv then False else ∃l,gi gs (qe st.w0 u l)/\K (.str ⟨l.toArray⟩)
  | _=>False)
 | _,_=>False
def ldP(P:Program)(gs:List (Bool×Bool))(st:St)(t:TypeId)(a:SV)(K:SV->Prop):Prop:=match P.underlying t with
 | none=>False
 | some d=>(match a with
  | .box i o=>bP (cF st.bx i) λb=>bif b.ok&&sz P t ((b.cells.drop o).take (tB P t)).length&&(lm d||Nat.beq ((b.cells.drop o).take (tB P t)).length 1)then K (I9 (lm d) ((b.cells.drop o).take (tB P t)))else False
  | .ad p=>bif !st.mv&&sz P t (KY P 12 t).length&&(lm d||Nat.beq (KY P 12 t).length 1)then PQ (KY P 12 t) λvs=>gi gs (Cells st.w0 p (ck β0 vs))/\K (I9 (lm d) vs)else False
  | _=>False)
def GQ:Operand->Bool
 | .const .nilIface=>true
 | _=>false
def niV:aw->Bool
 | .nilIface=>true
 | _=>false
def XO(v:aw):Prop:=v=.nilIface∨∃t x,v=.iface t x
def niP(P:Program)(gs:List (Bool×Bool))(op:BinOp)(t:TypeId)(a:SV)(K:SV->Prop):Prop:=match a,P.underlying t,op with
 | .raw v,some (.interface _),.eql=>gi gs (XO v.v)/\K (.bt (niV v.v))
 | .raw v,some (.interface _),.neq=>gi gs (XO v.v)/\K (.bt (!niV v.v))
 | _,_,_=>False
theorem K4{y}(h:GQ y=true):y=.const .nilIface:=by
 unfold GQ at h;split at h
 ·rfl
 cases h
theorem RW{P}{t}{ms}{v}(hu:P.underlying t=some (.interface ms))(hv:XO v) w:(Op.equal t v .nilIface).run P w=.ok (niV v) w:=by
 unfold Op.equal Op.maxDepth Op.equalIn;rcases hv with rfl | ⟨tx,x,rfl⟩<;>simp[Sem.run_bind,run_underlying hu,Result.andThen_ok]<;>rfl
theorem C2{P}{op}{t}{x}{v}(hv:XO v) w:(eqGuard op t x (.const .nilIface) v .nilIface).run P w=.ok () w:=by
 unfold eqGuard;rcases hv with rfl | ⟨tx,x,rfl⟩<;>first | rfl | simp
theorem TF{P}{gs}{st}{K}{op}{t ty}{x}{a}(hx:st.ev x=some a)(h:niP P gs op t a K):∃v,K v/\(gh gs->∀β c w,Rep β st c w->∀d t' p af g w',
  (execOp c.eval ⟨d,.binOp op t x (.const .nilIface) ty,t',p,af,g⟩).run P w'=.ok (.value (val β v)) w'):=by
 unfold niP at h;split at h
 ·rename_i v ms hu;refine⟨_,h.2,λhg β c w hR d t' p af g w'=>?_⟩;have hv:=gx h.1 hg;have e:c.eval x=v.v:=hR.ev hx;have e2:c.eval (.const .nilIface)=.nilIface:=rfl;have hb:binOp .eql t v.v .nilIface=(do pure (.bool (<-Op.equal t v.v .nilIface))):=by
   rcases hv with h | ⟨tx,x,h⟩<;>rw[h]<;>rfl
  simp[execOp,e,e2,hb,Sem.run_bind,C2 hv,Result.andThen_ok,RW hu hv,Sem.run_pure];rfl
 ·rename_i v ms hu;refine⟨_,h.2,λhg β c w hR d t' p af g w'=>?_⟩;have hv:=gx h.1 hg;have e:c.eval x=v.v:=hR.ev hx;have e2:c.eval (.const .nilIface)=.nilIface:=rfl;have hb:binOp .neq t v.v .nilIface=(do pure (.bool (!(<-Op.equal t v.v .nilIface)))):=by
   rcases hv with h | ⟨tx,x,h⟩<;>rw[h]<;>rfl
  simp[execOp,e,e2,hb,Sem.run_bind,C2 hv,Result.andThen_ok,RW hu hv,Sem.run_pure];rfl
 exact h.elim
def GR(p:Addr)(i:Int)(len size:Nat)(q:Addr):Prop:=0<=i/\i<len/\p.add (i.toNat*size)=q
def TG(n:Int)(F:Nat->Prop):Nat->Prop
 | 0=>True
 | 1=>n=0->F 0
 | j+2=>TG n F (j+1)/\(n=((j+1))->F (j+1))
theorem GS{n}{F}:∀{m:Nat},TG n F m->0<=n->n<m->F n.toNat
 | 0,_,h0,h1=>aE
 | 1,h,h0,h1=>by
  have e:n=0:=aE
  subst e;exact h rfl
 | j+2,h,h0,h1=>by
  by_cases e:n=((j+1))
  ·have:=h.2 e;rw[e];exact this
  exact GS h.1 h0 aE
def TH(P:Program)(gs:List (Bool×Bool))(st:St)(o:Op)(K:SV->Prop):Prop:=match o with
 | .move x=>bP (st.ev x) K
 | .assign x=>bP (st.ev x) K
 | .pick c x y=>bP (st.ev c) λc=>(match c with
  | .bl true=>bP (st.ev x) K
  | .bl false=>bP (st.ev y) K
  | _=>False)
 | .binOp op t x y _=>bP (st.ev x) λa=>bP (st.ev y) λb=>bif GQ y then niP P gs op t a K else TD P gs op t a b K
 | .unOp .not _ x=>bP (st.ev x) λa=>(match a with
  | .bl b=>K (.bl (!b))
  | .bt b=>K (.bt (!b))
  | _=>False)
 | .unOp .neg _ x=>bP (st.ev x) λa=>bP (oL a) λp=>K (.int p.1 (p.1.wrap (0-p.2)))
 | .convert s d x=>bP (st.ev x) λa=>cvP P gs st s d a K
 | .extract x i=>bP (st.ev x) λa=>(match a with
  | .tup l=>bif zh l then bP ((ma l)[i]?) K else False
  | _=>False)
 | .build t parts=>bP (st.O5 parts.toList) λps=>bP (TE P t ps) λr=>K (.agg (lR r))
 | .makeFunc fn fs cs=>(match fn with
  | .func f=>bP (st.Iy fs.toList) λa=>bP (st.Iy cs.toList) λb=>K (.fn f (lR a) (lR b))
  | _=>False)
 | .makeInterface t x=>bP (st.ev x) λa=>bP (P.underlying t) λd=>bif nif d&&cln (λ_=>false) a then K (.raw ⟨.iface t (val β0 a),rfl⟩)else False
 | .nilCheck x=>bP (st.ev x) λa=>(match a with
  | .ad p=>K (.ad p)
  | .box i o=>K (.box i o)
  | .ptr p=>∃q,gi gs (p=some q)/\K (.ad q)
  | .fn f .e cs=>K (.fn f .e cs)
  | _=>False)
 | .fieldAddr s x k=>bP (st.ev x) λa=>(match P.underlying s with
  | some (.struct fs)=>bP (fs[k]?) λf=>bif Nat.ble 1 (tB P f.type)then(match a with
   | .ad p=>K (.ad (p.add f.offset))
   | .box i o=>K (.box i (o+f.offset))
   | _=>False)else False
  | _=>False)
 | .field t x k=>bP (st.ev x) λa=>(match a,P.underlying t with
  | .agg l,some (.struct fs)=>bP (fs[k]?) λf=>bP (P.underlying f.type) λd=>bif zh l&&sz P f.type (((ma l).drop f.offset).take (tB P f.type)).length&&(lm d||Nat.beq (((ma l).drop f.offset).take (tB P f.type)).length 1)
   then K (I9 (lm d) (((ma l).drop f.offset).take (tB P f.type)))else False
  | _,_=>False)
 | .indexAddr t x i=>bP (st.ev x) λa=>bP (st.ev i) λj=>bP (oL j) λn=>(match P.underlying t with
  | some (.slice e)=>bP (GN a) λs=>bif (P.info? e).isSome then ∃q,gi gs (dN s n.2 (tB P e) q)/\K (.ad q)else False
  | some (.array len e)=>bif (P.info? e).isSome then(match a,j with
   | .box b o,.il _ n=>bif decide (0<=n)&&decide (n<len)then K (.box b (o+n.toNat*tB P e))else False
   | .ad p,.il _ n=>bif decide (0<=n)&&decide (n<len)then K (.ad (p.add (n.toNat*tB P e)))else False
   | .ad p,_=>∃q,gi gs (GR p n.2 len (tB P e) q)/\K (.ad q)
   | .box b o,_=>bif Nat.ble len 8 then(0<=n.2/\n.2<len)/\TG n.2 (λj=>K (.box b (o+j*tB P e))) len else False
   | _,_=>False)else False
  | _=>False)
 | .load t x=>bP (st.ev x) λa=>ldP P gs st t a K
 | .index t x i=>bP (st.ev x) λa=>bP (st.ev i) λj=>bP (oL j) λn=>(match P.underlying t with
  | some .string=>bP (tA a) λs=>∃c,gi gs (0<=n.2/\s[n.2.toNat]? =some c)/\K (.int .u8 c.toNat)
  | _=>False)
 | .slice t x lo hi mx=>bP (st.ev x) λa=>(match P.underlying t with
  | some (.slice e)=>bP (GN a) λs=>bif (P.info? e).isSome then slS gs s (tB P e) st lo hi mx K else False
  | some .string=>bP (tA a) λs=>slT gs s st lo hi mx K
  | _=>False)
 | .call c=>(match c.callee with
  | .builtin b=>sI P b c.args.toList c.argTypes.toList st K
  | _=>False)
 | _=>False
def mem:Op->Bool
 | .load _ _=>true
 | .convert _ _ _=>true
 | _=>false
def Y(P:Program)(st:St)(o:Op)(v:SV):Prop:=∀β a w,Rep β st a w->∀d t p af g w',(mem o=true->w'.heap=w.heap)->
 (execOp a.eval ⟨d,o,t,p,af,g⟩).run P w'=.ok (.value (val β v)) w'
theorem kb{P}{t}(h:(P.info? t).isSome=true) w:(sizeOf t).run P w=.ok (tB P t) w:=by
 unfold tB;cases hi:P.info? t with
 | none=>rw[hi]at h;cases h
 | some i=>simp[sizeOf,typeInfo,hi]
theorem AY b o n:(⟨b,o,none⟩:Addr).add n=⟨b,o+n,none⟩:=by unfold Addr.add;split<;>simp_all
theorem nQ{d}(h:lm d=true) β l:val β (I9 (lm d) l)=.agg (ck β l).toArray:=by
 rw[h];show Value.agg (oK β _).toArray=_;rw[pC]
theorem xD{l:List SV}(h:Nat.beq l.length 1=true):∃s,l=[s]:=by
 have:=bN h
 match l,this with
 | [s],_=>exact⟨s,rfl⟩
section
variable {P:Program} {gs:List (Bool×Bool)} {st:St} {K:SV->Prop}
theorem TI{t}{x}{a}(hx:st.ev x=some a)(h:ldP P gs st t a K):∃v,K v/\(gh gs->Y P st (.load t x) v):=by
 unfold ldP at h;split at h
 ·exact h.elim
 rename_i d hu;split at h
 ·rename_i i o;obtain⟨b,hb,h⟩:=bn h;obtain⟨h1,h2⟩:=dh h;simp only[aP,ci]at h1;obtain⟨⟨qE,hsz⟩,kY⟩:=h1;refine⟨_,h2,λ_ β act w hR dst t' p af g w' hh=>?_⟩;have hB:=(hR.bx i b hb qE).blk;have hB':Blk w' (β i) b.ty (ck β b.cells):=by unfold Blk at hB⊢;rw[hh rfl];exact hB
  have IG:=hR.ev hx;generalize hl:(b.cells.drop o).take _=l at*
  have hC:Cells w' _ (ck β l):=hB'.B4 o _ (by
   rw[eS,<-hl];simp only[ck,pw,pz];rw[dC,oG];simp only[bW,bX];omega)
  rcases kY with qk | kY
  ·rw[nQ qk];have:=j9 (P:=P) hu w';rw[qk]at this;exact rN this (oc hsz w') (eS β l) IG hC
  cases qk:lm d with
  | true=>
   have e:=nQ qk β l;rw[qk]at e;rw[e];have:=j9 (P:=P) hu w';rw[qk]at this;exact rN this (oc hsz w') (eS β l) IG hC
  | false=>
   obtain⟨s,rfl⟩:=xD kY;have:=j9 (P:=P) hu w';rw[qk]at this;exact AI this IG (Cells.one hC)
 ·rename_i ad;obtain⟨h1,h2⟩:=dh h;simp only[aP,ci,cP]at h1;obtain⟨⟨tn,hsz⟩,kY⟩:=h1;obtain⟨vs,⟨hF,hK⟩,eu,pj⟩:=qI h2;refine⟨_,hK,λhg β act w hR dst t' p af g w' hh=>?_⟩;have hw:=hR.still tn;subst hw;have hC:Cells w' ad (ck β vs):=by
   rw[gw (β:=β) (β':=β0) (g:=λ_=>false) (λi h=>aah) vs (pj _)];exact(gx hF hg).keep (by rw[hh rfl])
  have IG:=hR.ev hx;rw[<-eu]at hsz kY;rcases kY with qk | kY
  ·rw[nQ qk];have:=j9 (P:=P) hu w';rw[qk]at this;exact rN this (oc hsz w') (eS β vs) IG hC
  cases qk:lm d with
  | true=>
   have e:=nQ qk β vs;rw[qk]at e;rw[e];have:=j9 (P:=P) hu w';rw[qk]at this;exact rN this (oc hsz w') (eS β vs) IG hC
  | false=>
   obtain⟨s,rfl⟩:=xD kY;have:=j9 (P:=P) hu w';rw[qk]at this;exact AI this IG (Cells.one hC)
 exact h.elim
theorem TJ{s d}{x}{a}(hx:st.ev x=some a)(h:cvP P gs st s d a K):∃v,K v/\(gh gs->Y P st (.convert s d x) v):=by
 unfold cvP at h;split at h
 ·rename_i ks kd h1 h2;obtain⟨⟨k,n⟩,hp,h⟩:=bn h;exact⟨_,h,λ_ β act w hR dst t' p af g w' hh=>zH (run_underlying h1 w') (run_underlying h2 w') ((hR.ev hx).trans (cY hp β))⟩
 ·rename_i h1 h2;obtain⟨u,hp,h⟩:=bn h;exact⟨_,h,λ_ β act w hR dst t' p af g w' hh=>zI (run_underlying h1 w') (run_underlying h2 w') ((hR.ev hx).trans (gP hp β))⟩
 ·rename_i e h1 h2;split at h
  ·rename_i h3;obtain⟨u,hp,h⟩:=bn h;cases hm:st.mv with
   | true=>rw[hm]at h;exact h.elim
   | false=>
    rw[hm]at h;obtain⟨l,hF,hK⟩:=h;refine⟨_,hK,λhg β act w hR dst t' p af g w' hh=>?_⟩;have hw:=hR.still hm;subst hw;exact xx h1 h3 h2 ((hR.ev hx).trans (jE hp β)) (Fg _ _ (by rw[hh rfl]) (gx hF hg))
  exact h.elim
 exact h.elim
theorem TK{b}{xs}{ts}(h:sI P b xs ts st K):∃v,K v/\(gh gs->Y P st (.call ⟨.builtin b,xs.toArray,ts.toArray⟩) v):=by
 unfold sI at h;split at h
 ·obtain⟨a,hx,h⟩:=bn h;split at h
  ·rename_i hu;obtain⟨s,hs,h⟩:=bn h;exact⟨_,h,λ_ β act w hR dst t' p af g w' hh=>Xu (run_underlying hu w') ((hR.ev hx).trans (jE hs β))⟩
  ·rename_i hu;obtain⟨s,hs,h⟩:=bn h;exact⟨_,h,λ_ β act w hR dst t' p af g w' hh=>KQ (run_underlying hu w') ((hR.ev hx).trans (gP hs β))⟩
  exact h.elim
 ·obtain⟨a,hx,h⟩:=bn h;split at h
  ·rename_i hu;obtain⟨s,hs,h⟩:=bn h;exact⟨_,h,λ_ β act w hR dst t' p af g w' hh=>Xz (run_underlying hu w') ((hR.ev hx).trans (jE hs β))⟩
  exact h.elim
 ·obtain⟨a,hx,h⟩:=bn h;obtain⟨b,hy,h⟩:=bn h;obtain⟨⟨k,m⟩,hp,h⟩:=bn h;obtain⟨_,hq,h⟩:=bn h;exact⟨_,h,λ_ β act w hR dst t' p af g w' hh=>XA ((hR.ev hx).trans (cY hp β)) ((hR.ev hy).trans (cY hq β))⟩
 ·obtain⟨a,hx,h⟩:=bn h;obtain⟨b,hy,h⟩:=bn h;obtain⟨⟨k,m⟩,hp,h⟩:=bn h;obtain⟨_,hq,h⟩:=bn h;exact⟨_,h,λ_ β act w hR dst t' p af g w' hh=>XC ((hR.ev hx).trans (cY hp β)) ((hR.ev hy).trans (cY hq β))⟩
 exact h.elim
theorem TL{t e}{x}{lo hi mx}{a}{s}(hu:P.underlying t=some (.slice e))(yP:(P.info? e).isSome=true)(hx:st.ev x=some a)(hs:GN a=some s)(h:slS gs s (tB P e) st lo hi mx K):∃v,K v/\(gh gs->Y P st (.slice t x lo hi mx) v):=by
 unfold slS at h;split at h
 ·obtain⟨a1,h1,h⟩:=bn h;obtain⟨l,e1,k1,n1,⟨hF,hK⟩,o1,u1⟩:=lq h;refine⟨_,hK,λhg β act w hR dst t' p af g w' hh=>?_⟩;obtain⟨rfl,f1,f2⟩:=u1 _ (gx hF hg);exact E6 (run_underlying hu w') (kb yP w') ((hR.ev hx).trans (jE hs β)) ((hR.ev h1).trans (cY o1 β)) f1 f2 (aY _)
 ·obtain⟨a1,h1,h⟩:=bn h;obtain⟨l,e1,k1,n1,⟨hF,hK⟩,o1,u1⟩:=lq h;refine⟨_,hK,λhg β act w hR dst t' p af g w' hh=>?_⟩;obtain⟨rfl,f1⟩:=u1 _ (gx hF hg);exact E7 (run_underlying hu w') (kb yP w') ((hR.ev hx).trans (jE hs β)) ((hR.ev h1).trans (cY o1 β)) (bm _) f1 (aY _)
 ·obtain⟨a1,h1,h⟩:=bn h;obtain⟨a2,h2,h⟩:=bn h;obtain⟨l,e1,k1,n1,h,o1,u1⟩:=lq h;obtain⟨m,e2,k2,n2,⟨hF,hK⟩,o2,u2⟩:=lq h;refine⟨_,hK,λhg β act w hR dst t' p af g w' hh=>?_⟩;obtain⟨rfl,f1⟩:=u1 _ (gx hF hg);obtain⟨rfl,f1,f2⟩:=u2 _ f1;exact E8 (run_underlying hu w') (kb yP w') ((hR.ev hx).trans (jE hs β)) ((hR.ev h1).trans (cY o1 β)) ((hR.ev h2).trans (cY o2 β)) f1 f2 (aY _)
 ·obtain⟨a1,h1,h⟩:=bn h;obtain⟨a2,h2,h⟩:=bn h;obtain⟨l,e1,k1,n1,h,o1,u1⟩:=lq h;obtain⟨m,e2,k2,n2,⟨hF,hK⟩,o2,u2⟩:=lq h;refine⟨_,hK,λhg β act w hR dst t' p af g w' hh=>?_⟩;obtain⟨rfl,f1⟩:=u1 _ (gx hF hg);obtain⟨rfl,f1,f2⟩:=u2 _ f1;exact E9 (run_underlying hu w') (kb yP w') ((hR.ev hx).trans (jE hs β)) ((hR.ev h1).trans (cY o1 β)) ((hR.ev h2).trans (cY o2 β)) (bm _) f1 f2
 ·obtain⟨a1,h1,h⟩:=bn h;obtain⟨a2,h2,h⟩:=bn h;obtain⟨a3,h3,h⟩:=bn h;obtain⟨l,e1,k1,n1,h,o1,u1⟩:=lq h;obtain⟨m,e2,k2,n2,h,o2,u2⟩:=lq h;obtain⟨q,e3,k3,n3,⟨hF,hK⟩,o3,u3⟩:=lq h;refine⟨_,hK,λhg β act w hR dst t' p af g w' hh=>?_⟩;obtain⟨rfl,f1⟩:=u1 _ (gx hF hg);obtain⟨rfl,f1⟩:=u2 _ f1;obtain⟨rfl,f1,f2,f3⟩:=u3 _ f1;exact Fa (run_underlying hu w') (kb yP w') ((hR.ev hx).trans (jE hs β)) ((hR.ev h1).trans (cY o1 β)) ((hR.ev h2).trans (cY o2 β)) ((hR.ev h3).trans (cY o3 β)) f1 f2 f3
 exact h.elim
theorem TM{t}{x}{lo hi mx}{a}{s}(hu:P.underlying t=some .string)(hx:st.ev x=some a)(hs:tA a=some s)(h:slT gs s st lo hi mx K):∃v,K v/\(gh gs->Y P st (.slice t x lo hi mx) v):=by
 unfold slT at h;split at h
 ·obtain⟨a1,h1,h⟩:=bn h;obtain⟨l,e1,k1,n1,⟨hF,hK⟩,o1,u1⟩:=lq h;refine⟨_,hK,λhg β act w hR dst t' p af g w' hh=>?_⟩;obtain⟨rfl,f1⟩:=u1 _ (gx hF hg);exact AK (run_underlying hu w') ((hR.ev hx).trans (gP hs β)) ((hR.ev h1).trans (cY o1 β)) f1 (aY _)
 ·obtain⟨a1,h1,h⟩:=bn h;obtain⟨l,e1,k1,n1,⟨hF,hK⟩,o1,u1⟩:=lq h;refine⟨_,hK,λhg β act w hR dst t' p af g w' hh=>?_⟩;obtain⟨rfl,f1⟩:=u1 _ (gx hF hg);exact AM (run_underlying hu w') ((hR.ev hx).trans (gP hs β)) ((hR.ev h1).trans (cY o1 β)) (bm _) f1
 ·obtain⟨a1,h1,h⟩:=bn h;obtain⟨a2,h2,h⟩:=bn h;obtain⟨l,e1,k1,n1,h,o1,u1⟩:=lq h;obtain⟨m,e2,k2,n2,⟨hF,hK⟩,o2,u2⟩:=lq h;refine⟨_,hK,λhg β act w hR dst t' p af g w' hh=>?_⟩;obtain⟨rfl,f1⟩:=u1 _ (gx hF hg);obtain⟨rfl,f1,f2⟩:=u2 _ f1;exact AN (run_underlying hu w') ((hR.ev hx).trans (gP hs β)) ((hR.ev h1).trans (cY o1 β)) ((hR.ev h2).trans (cY o2 β)) f1 f2
 exact h.elim
theorem PX{t}{d}{l:List aw}{off n}(hu:P.underlying t=some d)(hn:sz P t n=true)(qk:lm d=true) w:(part t l.toArray off).run P w=.ok (.agg ((l.drop off).take n).toArray) w:=by
 have h:=j9 (P:=P) hu w;rw[qk]at h;unfold part;simp only[Sem.run_bind,h,Result.andThen_ok,wQ,oc hn w,Sem.run_pure];rw[List.extract_toArray,List.extract_eq_take_drop,dI]
theorem K5{t}{d}{l:List aw}{off}{v}(hu:P.underlying t=some d)(qk:lm d=false)(hv:l[off]? =some v) w:(part t l.toArray off).run P w=.ok v w:=by
 have h:=j9 (P:=P) hu w;rw[qk]at h;unfold part;simp[Sem.run_bind,h,Result.andThen_ok];simp[hv]
theorem Fk{o:Op}(h:TH P gs st o K):∃v,K v/\(gh gs->Y P st o v):=by
 unfold TH at h;split at h
 ·obtain⟨v,hx,hK⟩:=bn h;exact⟨v,hK,λ_ β act w hR dst t' p af g w' hh=>by simp only[execOp,hR.ev hx,Sem.run_pure]⟩
 ·obtain⟨v,hx,hK⟩:=bn h;exact⟨v,hK,λ_ β act w hR dst t' p af g w' hh=>by simp only[execOp,hR.ev hx,Sem.run_pure]⟩
 ·obtain⟨c,hc,h⟩:=bn h;split at h
  ·obtain⟨v,hx,hK⟩:=bn h;exact⟨v,hK,λ_ β act w hR dst t' p af g w' hh=>PG (hR.ev hc) (hR.ev hx)⟩
  ·obtain⟨v,hx,hK⟩:=bn h;exact⟨v,hK,λ_ β act w hR dst t' p af g w' hh=>PH (hR.ev hc) (hR.ev hx)⟩
  exact h.elim
 ·rename_i op t x y ty;obtain⟨a,hx,h⟩:=bn h;obtain⟨b,hy,h⟩:=bn h;cases hn:GQ y with
  | true=>
   rw[hn]at h;have e:=K4 hn;subst e;obtain⟨v,hK,hr⟩:=TF hx h;exact⟨v,hK,λhg β act w hR dst t' p af g w' hh=>hr hg β act w hR _ _ _ _ _ _⟩
  | false=>
  rw[hn]at h;obtain⟨v,hK,hr⟩:=PU h;exact⟨v,hK,λhg β act w hR dst t' p af g w' hh=>hr hg β act _ _ _ _ _ _ _ _ _ (hR.ev hx) (hR.ev hy)⟩
 ·obtain⟨a,hx,h⟩:=bn h;split at h
  ·exact⟨_,h,λ_ β act w hR dst t' p af g w' hh=>by simp only[execOp,hR.ev hx];rfl⟩
  ·exact⟨_,h,λ_ β act w hR dst t' p af g w' hh=>by simp only[execOp,hR.ev hx];rfl⟩
  exact h.elim
 ·obtain⟨a,hx,h⟩:=bn h;obtain⟨⟨k,n⟩,hp,h⟩:=bn h;exact⟨_,h,λ_ β act w hR dst t' p af g w' hh=>by simp only[execOp,hR.ev hx,cY hp];rfl⟩
 ·obtain⟨a,hx,h⟩:=bn h;exact TJ hx h
 ·rename_i x i;obtain⟨a,hx,h⟩:=bn h;split at h
  ·rename_i l;obtain⟨h1,h⟩:=dh h;obtain⟨v,hv,hK⟩:=bn h;refine⟨v,hK,λ_ β act w hR dst t' p af g w' hh=>?_⟩;have e:=(hR.ev hx).trans (by
    show Value.tuple (oK β l).toArray=_;rw[lS β h1])
   have e2:(ck β (ma l))[i]? =some (val β v):=by rw[ck,cR,hv];rfl
   simp only[execOp,e,Instr.extract];simp[e2]
  exact h.elim
 ·rename_i t parts;obtain⟨ps,hp,h⟩:=bn h;obtain⟨r,hr,hK⟩:=bn h;refine⟨_,hK,λ_ β act w hR dst t' p af g w' hh=>?_⟩;have e:val β (.agg (lR r))=.agg (ck β r).toArray:=by
   show Value.agg (oK β (lR r)).toArray=_;rw[pC]
  rw[e];obtain⟨pl⟩:=parts;exact PI (hR.O5 hp) (PW hr β w')
 ·rename_i fn fs cs;split at h
  ·rename_i f;obtain⟨a,ha,h⟩:=bn h;obtain⟨b,hb,hK⟩:=bn h;refine⟨_,hK,λ_ β act w hR dst t' p af g w' hh=>?_⟩;obtain⟨cl⟩:=cs;have:=E4 (P:=P) (w:=w') (dst:=dst) (t':=t') (p:=p) (af:=af) (g:=g) (fn:=.func f) (hR.Iy ha) (hR.Iy hb);rw[<-pC,<-pC]at this;exact this
  exact h.elim
 ·obtain⟨a,hx,h⟩:=bn h;obtain⟨d,hu,h⟩:=bn h;obtain⟨h1,hK⟩:=dh h;simp at h1;refine⟨_,hK,λ_ β act w hR dst t' p af g w' hh=>?_⟩;have e:val β a=val β0 a:=iy (g:=λ_=>false) (λi h=>aah) a h1.2;exact PJ (run_underlying hu w') (by unfold nif at h1;cases d<;>first | rfl | exact h1.1) ((hR.ev hx).trans e)
 ·obtain⟨a,hx,h⟩:=bn h;split at h
  ·exact⟨_,h,λ_ β act w hR dst t' p af g w' hh=>KL (hR.ev hx)⟩
  ·exact⟨_,h,λ_ β act w hR dst t' p af g w' hh=>KL (hR.ev hx)⟩
  ·obtain⟨q,hF,hK⟩:=h;refine⟨_,hK,λhg β act w hR dst t' p af g w' hh=>KL ((hR.ev hx).trans ?_)⟩;have:=gx hF hg;subst this;rfl
  ·exact⟨_,h,λ_ β act w hR dst t' p af g w' hh=>by
    have e:=hR.ev hx;simp only[execOp,e,Sem.run_pure,val,oK,xu]⟩
  exact h.elim
 ·obtain⟨a,hx,h⟩:=bn h;split at h
  ·rename_i fs hu;obtain⟨f,hf,h⟩:=bn h;obtain⟨hs,h⟩:=dh h;have hs:=de hs;have hso:(P.info? f.type).isSome=true:=by
    unfold tB at hs;split at hs
    ·rename_i hi;rw[hi];rfl
    omega
   obtain⟨m,hm⟩:∃m,tB P f.type=m+1:=⟨tB P f.type-1,aE⟩
   split at h
   ·exact⟨_,h,λ_ β act w hR dst t' p af g w' hh=>GK (run_underlying hu w') hf (by rw[kb hso,hm]) (hR.ev hx) rfl⟩
   ·exact⟨_,h,λ_ β act w hR dst t' p af g w' hh=>GK (run_underlying hu w') hf (by rw[kb hso,hm]) (hR.ev hx) (AY _ _ _)⟩
   exact h.elim
  exact h.elim
 ·obtain⟨a,hx,h⟩:=bn h;split at h
  ·rename_i l fs hu;obtain⟨f,hf,h⟩:=bn h;obtain⟨d,hd,h⟩:=bn h;obtain⟨h1,hK⟩:=dh h;simp only[aP,ci]at h1;obtain⟨⟨hl,hsz⟩,kY⟩:=h1;refine⟨_,hK,λ_ β act w hR dst t' p af g w' hh=>?_⟩;have e:=(hR.ev hx).trans (by
    show Value.agg (oK β l).toArray=_;rw[lS β hl])
   have hv:ck β (((ma l).drop f.offset).take (tB P f.type))=((ck β (ma l)).drop f.offset).take (tB P f.type):=by
    simp only[ck,pw,pz]
   have key:(part f.type (ck β (ma l)).toArray f.offset).run P w'=.ok (val β (I9 (lm d) (((ma l).drop f.offset).take (tB P f.type)))) w':=by
    cases qk:lm d with
    | true=>
     have e2:=nQ qk β (((ma l).drop f.offset).take (tB P f.type));rw[qk]at e2;rw[e2,hv];rw[PX (l:=ck β (ma l)) (off:=f.offset) hd hsz qk w'];congr 3;rw[oG];simp only[dC,bW,eS];omega
    | false=>
     rcases kY with kY | kY
     ·rw[qk]at kY;cases kY
     obtain⟨s,hs⟩:=xD kY;rw[hs];refine K5 hd qk ?_ w';have h4:(((ma l).drop f.offset).take (tB P f.type))[0]? =some s:=by rw[hs];rfl
     rw[EN]at h4;split at h4
     ·rw[iO,gz]at h4;rw[ck,cR,h4];rfl
     cases h4
   simp only[execOp,e,Instr.field,Sem.run_bind,run_underlying hu,Result.andThen_ok,hf,asAgg,Sem.run_pure,key]
  exact h.elim
 ·obtain⟨a,hx,h⟩:=bn h;obtain⟨j,hj,h⟩:=bn h;obtain⟨⟨k,n⟩,hn,h⟩:=bn h;split at h
  ·rename_i e hu;obtain⟨s,hs,h⟩:=bn h;obtain⟨hi,h⟩:=dh h;obtain⟨q,hF,hK⟩:=h;exact⟨_,hK,λhg β act w hR dst t' p af g w' hh=>KM (run_underlying hu w') (kb hi w') ((hR.ev hx).trans (jE hs β)) ((hR.ev hj).trans (cY hn β)) (gx hF hg)⟩
  ·rename_i len e hu;obtain⟨hi,h⟩:=dh h;split at h
   ·obtain⟨h1,hK⟩:=dh h;simp at h1;exact⟨_,hK,λhg β act w hR dst t' p af g w' hh=>ua (run_underlying hu w') (kb hi w') (hR.ev hx) (hR.ev hj) h1.1 h1.2 (AY _ _ _)⟩
   ·obtain⟨h1,hK⟩:=dh h;simp at h1;exact⟨_,hK,λhg β act w hR dst t' p af g w' hh=>ua (run_underlying hu w') (kb hi w') (hR.ev hx) (hR.ev hj) h1.1 h1.2 rfl⟩
   ·obtain⟨q,hF,hK⟩:=h;exact⟨_,hK,λhg β act w hR dst t' p af g w' hh=>ua (run_underlying hu w') (kb hi w') (hR.ev hx) ((hR.ev hj).trans (cY hn β)) (gx hF hg).1 (gx hF hg).2.1 (gx hF hg).2.2⟩
   ·obtain⟨_,⟨h0,h1⟩,hK⟩:=dh h;exact⟨_,GS hK h0 h1,λhg β act w hR dst t' p af g w' hh=>ua (run_underlying hu w') (kb hi w') (hR.ev hx) ((hR.ev hj).trans (cY hn β)) h0 h1 (AY _ _ _)⟩
   exact h.elim
  exact h.elim
 ·obtain⟨a,hx,h⟩:=bn h;exact TI hx h
 ·obtain⟨a,hx,h⟩:=bn h;obtain⟨j,hj,h⟩:=bn h;obtain⟨⟨k,n⟩,hn,h⟩:=bn h;split at h
  ·rename_i hu;obtain⟨s,hs,h⟩:=bn h;obtain⟨c,hF,hK⟩:=h;exact⟨_,hK,λhg β act w hR dst t' p af g w' hh=>E5 (run_underlying hu w') ((hR.ev hx).trans (gP hs β)) ((hR.ev hj).trans (cY hn β)) (gx hF hg).1 (gx hF hg).2⟩
  exact h.elim
 ·obtain⟨a,hx,h⟩:=bn h;split at h
  ·rename_i e hu;obtain⟨s,hs,h⟩:=bn h;obtain⟨hi,h⟩:=dh h;exact TL hu hi hx hs h
  ·rename_i hu;obtain⟨s,hs,h⟩:=bn h;exact TM hu hx hs h
  exact h.elim
 ·rename_i c;obtain⟨callee,⟨xs⟩,⟨ts⟩⟩:=c;split at h
  ·rename_i b hb;subst hb;exact TK h
  exact h.elim
 exact h.elim
end
structure Rh (β:Nat->Nat) (n:Nat) (fr:List (Nat×Nat×SV)) (D:List Deferred) (a:Act):Prop where
 sz:a.tmps.size=n
 df:a.defers=D
 at_:∀i p,dA fr i=some p->i<n->a.tmps[i]? =some (val β p.2)
theorem pD{β}{n}{fr}{D}{a}(h:Rh β n fr D a):∃us,a=Wx n us (cv β fr) D:=by
 refine⟨λi=>(a.tmps[i]?).getD undef,?_⟩;obtain⟨tmps,df⟩:=a;obtain⟨h1,h2,h3⟩:=h;dsimp only at h1 h2 h3;congr 1;apply Array.ext';apply nP;intro i;by_cases hi:i<n
 ·rw[lQ _ _ _ _ _ hi,bI];cases hl:dA fr i with
  | none=>
   rw[AW (l:=cv β fr) ab9];have:i<tmps.size:=aE
   simp[this]
  | some p=>
   rw[rP (l:=cv β fr) (v:=val β p.2) ab9];have:=h3 i p hl hi;simpa using this
 rw[cQ aae,cQ (by rw[mL];exact Kk hi)]
theorem PY{β}{n}{fr}{D}{us}:Rh β n fr D (Wx n us (cv β fr) D):=by
 refine⟨by simp[Wx,mL],rfl,λi p hl hi=>?_⟩;simp[Wx,oE];rw[lQ _ _ _ _ _ hi,bI,rP (l:=cv β fr) (v:=val β p.2) ab9]
theorem Rep.ok{β}{st}{a}{w}(h:Rep β st a w):Rh β st.n st.fr (RS st.df) a:=by
 obtain⟨us,rfl⟩:=h.fr;exact PY
def TN(st:St)(ops:List Oper)(j:Nat):Option (Nat×SV):=match fV ops j with
 | some o=>(match o.dst with
  | some d=>(st.get d).map λs=>(d,s)
  | none=>none)
 | none=>none
theorem xE{st}{ops}{j d}{s}(h:TN st ops j=some (d,s)):∃oj,fV ops j=some oj/\oj.dst=some d/\st.get d=some s:=by
 unfold TN at h;split at h
 ·rename_i o ho;split at h
  ·rename_i e he;cases hg:st.get e with
   | none=>rw[hg]at h;cases h
   | some u=>
    rw[hg]at h;obtain⟨rfl,rfl⟩:=h;exact⟨o,ho,he,hg⟩
  cases h
 cases h
section
variable {β:Nat->Nat} {st:St} {a:Act} {w:av} {ops:List Oper} {o:Oper} {j d:Nat} {want b:Bool}
theorem oM(hR:Rep β st a w)(hg:o.guard=some (j,want)){s}(ht:TN st ops j=some (d,s))(hs:val β s=.bool b):Region.wanted o (yielded ops.toArray a.tmps)=(b==want):=by
 obtain⟨oj,h1,h2,h3⟩:=xE ht;obtain⟨us,rfl⟩:=hR.fr;exact wtF hg h1 h2 (by rw[<-hs];exact St.evO β h3) rfl
theorem vi(hR:Rep β st a w)(hg:o.guard=some (j,want))(ht:TN st ops j=some (d,.un)):Region.wanted o (yielded ops.toArray a.tmps)=false:=by
 obtain⟨oj,h1,h2,h3⟩:=xE ht;obtain⟨us,rfl⟩:=hR.fr;exact wuF hg h1 h2 (St.evO β (x:=.tmp d) (s:=.un) h3)
theorem Rep.set(hR:Rep β st a w){s s'}(hg:st.get d=some s)(hv:val β s=val β s'):Rep β (st.put (some d) s') a w:=by
 refine⟨pD ⟨hR.ok.sz,hR.ok.df,λi p hl hi=>?_⟩,hR.bx,hR.ne,hR.only,hR.still⟩;simp[St.put,dA]at hl;cases hb:Nat.beq d i with
 | true=>
  rw[hb]at hl;simp at hl;subst hl;have:=bN hb;subst this;unfold St.get at hg;cases cd:Nat.blt d st.n with
  | false=>rw[cd]at hg;cases hg
  | true=>
   rw[cd,mV]at hg;cases hq:dA st.fr d with
   | none=>rw[hq]at hg;cases hg
   | some q=>
    rw[hq]at hg;simp at hg;rw[hR.ok.at_ d q hq hi,hg,hv]
 | false=>rw[hb]at hl;exact hR.ok.at_ i p acp hi
end
section
variable {P:Program} {ops:List Oper} {w:av}
def ue(P:Program)(ops:List Oper)(w:av):List Oper->Act->Act->Prop
 | [],a,a'=>a'=a
 | o::r,a,a'=>(Region.wanted o (yielded ops.toArray a.tmps)=true/\∃v,(∀w',w'.heap=w.heap->(execOp a.eval o).run P w'=.ok (.value v) w')/\ue P ops w r (a.put o.dst v) a')∨
  (Region.wanted o (yielded ops.toArray a.tmps)=false/\ue P ops w r (a.put o.dst undef) a')
theorem xF:∀{l m:List Oper} {a b c:Act},ue P ops w l a b->ue P ops w m b c->ue P ops w (l++m) a c
 | [],_,_,_,_,h,k=>by
  subst h;exact k
 | o::r,m,a,b,c,h,k=>by
  rcases h with⟨h1,v,h2,h3⟩ | ⟨h1,h3⟩
  ·exact .inl ⟨h1,v,h2,xF (l:=r) h3 k⟩
  exact .inr ⟨h1,xF (l:=r) h3 k⟩
theorem AZ{Q}:∀{l rest:List Oper} {a a':Act},ue P ops w l a a'->wpList P ops.toArray Q rest a' w->wpList P ops.toArray Q (l++rest) a w
 | [],_,_,_,h,k=>by
  subst h;exact k
 | o::r,m,a,b,h,k=>by
  rcases h with⟨h1,v,h2,h3⟩ | ⟨h1,h3⟩
  ·exact E2 v h1 (h2 w rfl) rfl (AZ (l:=r) h3 k)
  exact RP h1 rfl (AZ (l:=r) h3 k)
theorem Fl{Q}:∀{l rest:List Oper} {a a':Act},ue P ops w l a a'->wpQuiet P ops.toArray (λw'=>∃n,w'=w.drewN n) Q rest a'->wpQuiet P ops.toArray (λw'=>∃n,w'=w.drewN n) Q (l++rest) a
 | [],_,_,_,h,k=>by
  subst h;exact k
 | o::r,m,a,b,h,k=>by
  rcases h with⟨h1,v,h2,h3⟩ | ⟨h1,h3⟩
  ·exact XD v h1 (by rintro _ ⟨n,rfl⟩;exact h2 _ rfl) rfl (Fl (l:=r) h3 k)
  exact ac9 h1 rfl (Fl (l:=r) h3 k)
def A0:List Oper->List Nat
 | []=>[]
 | o::r=>match o.dst with
  | some d=>d::A0 r
  | none=>A0 r
theorem jU(a:Act) d v:(a.put d v).tmps.size=a.tmps.size/\(a.put d v).defers=a.defers/\∀i,d≠some i->(a.put d v).tmps[i]? =a.tmps[i]? :=by
 cases d with
 | none=>exact⟨rfl,rfl,λ_ _=>rfl⟩
 | some k=>
  refine⟨by simp[Act.put],rfl,λi hi=>?_⟩;simp[Act.put];rw[oA (λe=>hi (by rw[e]))]
theorem xG:∀{l:List Oper} {a a':Act},ue P ops w l a a'->a'.tmps.size=a.tmps.size/\a'.defers=a.defers/\∀i,(A0 l).elem i=false->a'.tmps[i]? =a.tmps[i]?
 | [],_,_,h=>by
  subst h;exact⟨rfl,rfl,λ_ _=>rfl⟩
 | o::r,a,b,h=>by
  have key:∀v,ue P ops w r _ b->b.tmps.size=a.tmps.size/\b.defers=a.defers/\∀i,(A0 (o::r)).elem i=false->b.tmps[i]? =a.tmps[i]? :=λv h3=>by
   obtain⟨k1,k2,k3⟩:=xG h3;obtain⟨p1,p2,p3⟩:=jU a o.dst v;refine⟨k1.trans p1,k2.trans p2,λi hi=>?_⟩;cases hd:o.dst with
   | none=>
    simp only[A0,hd]at hi;rw[k3 i hi,p3 i (by rw[hd];simp)]
   | some d=>
    simp only[A0,hd,kU]at hi;split at hi
    ·cases hi
    rename_i ia;rw[k3 i hi,p3 i (by rw[hd];intro e;simp at e;subst e;simp at ia)]
  rcases h with⟨h1,v,h2,h3⟩ | ⟨h1,h3⟩
  ·exact key v h3
  exact key _ h3
end
def XP(ops:List Oper):Nat->Nat->Nat->Bool
 | 0,_,_=>false
 | f+1,q,j=>bif Nat.beq q j then true else match fV ops q with
  | some o=>(match o.guard with
   | some (r,_)=>XP ops f r j
   | none=>false)
  | none=>false
def wB(ops:List Oper)(j:Nat):List Oper->Nat
 | []=>0
 | o::r=>match o.guard with
  | some (q,_)=>bif XP ops 50 q j then wB ops j r+1 else 0
  | none=>0
def mrg(t:Bool)(a b:SV):Option SV:=match a,b with
 | .bl true,.bl false=>some (.bt t)
 | .bl true,.bt y=>some (.bt (t||y))
 | .bt x,.bl false=>some (.bt (t&&x))
 | .bl false,.bl true=>some (.bt (!t))
 | .bl false,.bt y=>some (.bt (!t&&y))
 | .bt x,.bl true=>some (.bt (!t||x))
 | .bt x,.bt y=>some (.bt (bif t then x else y))
 | .bl true,.bl true=>some (.bl true)
 | .bl false,.bl false=>some (.bl false)
 | _,_=>none
theorem K6{t}{a b v}(h:mrg t a b=some v) β:(t=true->val β v=val β a)/\(t=false->val β v=val β b):=by
 unfold mrg at h;split at h<;>simp at h<;>subst h<;>refine⟨λe=>?_,λe=>?_⟩<;>subst e<;>simp[val,oK]
def xH(ds:List Nat):List (Nat×Nat×SV)->List (Nat×Nat×SV)
 | []=>[]
 | p::r=>bif ds.elem p.1 then xH ds r else p::xH ds r
theorem kc{ds}:∀{l:List _} {i:Nat},(ds.elem i=true->dA (xH ds l) i=none)/\(ds.elem i=false->dA (xH ds l) i=dA l i)
 | [],i=>⟨λ_=>rfl,λ_=>rfl⟩
 | (k,p)::r,i=>by
  obtain⟨h1,h2⟩:=kc (ds:=ds) (l:=r) (i:=i);simp only[xH];cases hk:ds.elem k with
  | true=>
   simp only[mV];refine⟨h1,λhi=>?_⟩;rw[h2 hi];simp[dA];cases hb:Nat.beq k i with
   | true=>have:=bN hb;subst this;rw[hi]at hk;cases hk
   | false=>rfl
  | false=>
   simp only[sW,dA];cases hb:Nat.beq k i with
   | true=>
    have:=bN hb;subst this;exact⟨λhi=>(by rw[hi]at hk;cases hk),λ_=>rfl⟩
   | false=>exact⟨h1,h2⟩
def St.nA(st:St)(ds:List Nat):St:={st with fr:=xH ds st.fr}
theorem Ext.nA st ds:Ext st (st.nA ds):=
 ⟨rfl,aY _,λi k v hl _=>by
  cases he:ds.elem i with
  | true=>rw[show dA (st.nA ds).fr i=none from(kc (l:=st.fr)).1 he]at hl;cases hl
  | false=>rw[show dA (st.nA ds).fr i=dA st.fr i from(kc (l:=st.fr)).2 he]at hl;exact hl,λi b h ho _=>⟨b,h,ho,rfl,rfl,rfl,λ_ h=>h⟩,KX,Cy⟩
structure Alike (s t:St):Prop where
 bx:t.bx=s.bx
 w0:t.w0=s.w0
 mv:t.mv=s.mv
 dt:t.dt=s.dt
 n:t.n=s.n
 df:t.df=s.df
theorem Alike.refl s:Alike s s:=⟨rfl,rfl,rfl,rfl,rfl,rfl⟩
theorem Alike.trans{s t u}(h:Alike s t)(k:Alike t u):Alike s u:=⟨k.bx.trans h.bx,k.w0.trans h.w0,k.mv.trans h.mv,k.dt.trans h.dt,k.n.trans h.n,k.df.trans h.df⟩
theorem Alike.put s d v:Alike s (s.put d v):=by cases d<;>exact⟨rfl,rfl,rfl,rfl,rfl,rfl⟩
theorem Rep.alike{β}{s t}{a a'}{w}(h:Rep β s a w)(k:Alike s t)(hf:Rh β t.n t.fr (RS t.df) a'):Rep β t a' w:=by
 obtain⟨k1,k2,k3,k4,k5,k6⟩:=k;refine⟨pD hf,λi b hb ho=>?_,λi j bi bj h1 h2 h3 h4=>?_,?_,λhm=>?_⟩
 ·rw[k1]at hb;obtain⟨g1,g2,g3⟩:=h.bx i b hb ho;exact⟨g1,g2,λe=>by rw[k2];exact g3 e⟩
 ·rw[k1]at h1 h2;exact h.ne i j bi bj h1 h2 h3 h4
 ·rw[k2,k4];exact h.only
 rw[k2];exact h.still (by rw[<-k3];exact hm)
def vj(P:Program)(ops:List Oper):Nat->List (Bool×Bool)->List Oper->St->(St->Prop)->Prop
 | 0,_,_,_,_=>False
 | _+1,_,[],st,K=>K st
 | f+1,gs,o::rest,st,K=>match o.guard with
  | none=>TH P gs st o.op λv=>vj P ops f gs rest (st.put o.dst v) K
  | some (j,want)=>(match TN st ops j with
   | some (_,.un)=>vj P ops f gs rest (st.put o.dst .un) K
   | some (_,.bl b)=>bif b==want then TH P gs st o.op λv=>vj P ops f gs rest (st.put o.dst v) K else vj P ops f gs rest (st.put o.dst .un) K
   | some (d,.bt t)=>(match(o::rest)[wB ops j (o::rest)]? with
    | some pk=>(match pk.dst with
     | some k=>
      vj P ops f (gs++[(t,true)]) ((o::rest).take (wB ops j (o::rest)+1)) (st.put (some d) (.bl true)) λsa=>
      bP (sa.get k) λva=>
      vj P ops f (gs++[(t,false)]) ((o::rest).take (wB ops j (o::rest)+1)) (st.put (some d) (.bl false)) λsb=>
      bP (sb.get k) λvb=>
      bP (mrg t va vb) λv=>
      vj P ops f gs ((o::rest).drop (wB ops j (o::rest)+1)) ((st.nA (A0 ((o::rest).take (wB ops j (o::rest)+1)))).put (some k) v) K
     | none=>False)
    | none=>False)
   | _=>False)
theorem Fm:∀{gs:List _} {t b:Bool},gh gs->t=b->gh (gs++[(t,b)])
 | [],_,_,_,h=>⟨h,trivial⟩
 | _::r,_,_,h,k=>⟨h.1,Fm (gs:=r) h.2 k⟩
theorem pE{P}{ops}:∀{f:Nat} {gs:List _} {l:List Oper} {st:St} {K:St->Prop},vj P ops f gs l st K->
  ∃cq,K cq/\Ext st cq/\Alike st cq/\(gh gs->∀β a w,Rep β st a w->∃a',ue P ops w l a a'/\Rep β cq a' w)
 | 0,_,_,_,_,h=>h.elim
 | _+1,gs,[],st,K,h=>⟨st,h,Ext.refl _,Alike.refl _,λ_ β a w hR=>⟨a,rfl,hR⟩⟩
 | f+1,gs,o::rest,st,K,h=>by
  have one:(Region.wanted o=λ_=>true)∨True->∀{K:St->Prop},(TH P gs st o.op λv=>vj P ops f gs rest (st.put o.dst v) K)->
    (gh gs->∀β a w,Rep β st a w->Region.wanted o _=true)->
    ∃cq,K cq/\Ext st cq/\Alike st cq/\(gh gs->∀β a w,Rep β st a w->∃a',ue P ops w (o::rest) a a'/\Rep β cq a' w):=λ_ K h hw=>by
   obtain⟨v,h1,hy⟩:=Fk h;obtain⟨cq,k1,k2,k3,k4⟩:=pE h1;refine⟨cq,k1,(Ext.put _ _ _).trans k2,(Alike.put _ _ _).trans k3,λhg β a w hR=>?_⟩;obtain⟨a',g1,g2⟩:=k4 hg β _ w (hR.put o.dst v);exact⟨a',.inl ⟨hw hg β a w hR,_,λw' hh=>hy hg β a w hR _ _ _ _ _ w' λ_=>hh,g1⟩,g2⟩
  have no:∀{K:St->Prop},vj P ops f gs rest (st.put o.dst .un) K->(gh gs->∀β a w,Rep β st a w->Region.wanted o _=false)->
    ∃cq,K cq/\Ext st cq/\Alike st cq/\(gh gs->∀β a w,Rep β st a w->∃a',ue P ops w (o::rest) a a'/\Rep β cq a' w):=λh1 hw=>by
   obtain⟨cq,k1,k2,k3,k4⟩:=pE h1;refine⟨cq,k1,(Ext.put _ _ _).trans k2,(Alike.put _ _ _).trans k3,λhg β a w hR=>?_⟩;obtain⟨a',g1,g2⟩:=k4 hg β _ w (hR.put o.dst .un);exact⟨a',.inr ⟨hw hg β a w hR,g1⟩,g2⟩
  unfold vj at h;split at h
  ·rename_i Z6;exact one (.inr trivial) h λ_ β a w hR=>wn Z6
  rename_i j want Z6;split at h
  ·rename_i d ht;exact no h λ_ β a w hR=>vi hR Z6 ht
  ·rename_i d b ht;cases hb:(b==want)with
   | true=>
    rw[hb]at h;exact one (.inr trivial) h λ_ β a w hR=>by rw[oM hR Z6 ht (b:=b) rfl,hb]
   | false=>
    rw[hb]at h;exact no h λ_ β a w hR=>by rw[oM hR Z6 ht (b:=b) rfl,hb]
  ·rename_i d t ht;obtain⟨oj,EV,Ri,O8⟩:=xE ht;split at h
   ·rename_i pk hpk;split at h
    ·rename_i k hk;generalize wB ops j _=m at h hpk;obtain⟨sa,ha,ea1,ea2,ea3⟩:=pE h;obtain⟨va,hva,ha⟩:=bn ha;obtain⟨sb,hb,eb1,Z7,eb3⟩:=pE ha;obtain⟨vb,hvb,hb⟩:=bn hb;obtain⟨v,hv,hb⟩:=bn hb;obtain⟨cq,k1,k2,k3,k4⟩:=pE hb;refine⟨cq,k1,((Ext.nA _ _).trans (Ext.put _ _ _)).trans k2,((⟨rfl,rfl,rfl,rfl,rfl,rfl⟩:Alike st (st.nA _)).trans (Alike.put _ _ _)).trans k3,λhg β a w hR=>?_⟩;have fin:∀(s:SV) u x,Rep β u a w->(∃a',ue P ops w ((o::rest).take (m+1)) a a'/\∃u',Rep β u' a' w/\u'.n=st.n/\u'.get k=some x/\val β v=val β x)->∃a',ue P ops w (o::rest) a a'/\Rep β cq a' w:=by
      rintro s u x hu ⟨a1,g1,u',r1,r2,r3,r4⟩;obtain⟨f1,f2,f3⟩:=xG g1;have gJ:Rep β ((st.nA (A0 ((o::rest).take (m+1)))).put (some k) v) a1 w:=by
       refine hR.alike ((⟨rfl,rfl,rfl,rfl,rfl,rfl⟩:Alike st (st.nA _)).trans (Alike.put _ _ _)) ⟨f1.trans hR.ok.sz,f2.trans hR.ok.df,λi p hl hi=>?_⟩;simp only[St.put,dA]at hl;cases KA:Nat.beq k i with
       | true=>
        rw[KA]at hl;simp at hl;subst hl;have:=bN KA;subst this;rw[r4,<-r1.get r3];have hs:k<a1.tmps.size:=by rw[f1,hR.ok.sz];exact hi
        simp[Act.eval,hs]
       | false=>
        rw[KA]at hl;cases he:(A0 _).elem i with
        | true=>rw[show dA (st.nA _).fr i=none from(kc (l:=st.fr)).1 he]at hl;cases hl
        | false=>
         rw[show dA (st.nA _).fr i=dA st.fr i from(kc (l:=st.fr)).2 he]at hl;rw[f3 i he];exact hR.ok.at_ i p hl hi
      obtain⟨a2,g2,g3⟩:=k4 hg β a1 w gJ;refine⟨a2,?_,g3⟩;have:=xF g1 g2;rwa[eL]at this
     cases t with
     | true=>
      have hu:Rep β (st.put _ (.bl true)) a w:=hR.set O8 rfl;obtain⟨a1,g1,g2⟩:=ea3 (Fm hg rfl) β a w hu;exact fin (.bl true) _ va hu ⟨a1,g1,sa,g2,ea2.n.trans rfl,hva,(K6 hv β).1 rfl⟩
     | false=>
      have hu:Rep β (st.put _ (.bl false)) a w:=hR.set O8 rfl;obtain⟨a1,g1,g2⟩:=eb3 (Fm hg rfl) β a w hu;exact fin (.bl false) _ vb hu ⟨a1,g1,sb,g2,Z7.n.trans rfl,hvb,(K6 hv β).2 rfl⟩
    exact h.elim
   exact h.elim
  exact h.elim
end Go.Kt.V
