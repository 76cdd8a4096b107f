import Derived.Test.YtmhoiicofhlgbaaGreatDoorQf1
import Derived.Shelf.Strings.Builder1
import Derived.Shelf.Strings.Builder2
import Derived.Shelf.Strings.OnBuilder
import Derived.Shelf.Strings.Trim
import Derived.Shelf.Small.Utf8
import Derived.Shelf.Small.Bits
import Derived.Shelf.Small.Strs
import Derived.Shelf.Strings.BuilderF
import Derived.Shelf.Utf8.RuneCount
import Derived.Shelf.Strconv.Itoa0
import Derived.Shelf.Strconv.Itoa1
import Derived.Shelf.LaysM
import Derived.Shelf.Strconv.Itoa2
import Derived.Shelf.Strconv.Itoa3
import Derived.Shelf.Strconv.ParseIntEmpty
import Derived.Shelf.Strconv.Clone
import Derived.Shelf.Strconv.SyntaxError
import Derived.Shelf.LaysC
import Derived.Shelf.Strconv.ToError
import Derived.Shelf.Strconv.Lower
import Derived.Shelf.Strconv.ParseUint10
import Derived.Shelf.Strconv.ParseUint10Empty
import Derived.Shelf.Strconv.ParseUint10Any
import Derived.Shelf.Strconv.ParseInt10
import Derived.Shelf.Strconv.RangeError
import Derived.Shelf.Strconv.ToErrorRange
import Derived.Shelf.Strconv.ParseUintEmpty
import Derived.Shelf.Strconv.ParseUint10b64
import Derived.Shelf.Strconv.ParseUint10b32
import Derived.Shelf.Strconv.ParseUint10b16
import Derived.Shelf.Strconv.ParseUint10b8
import Derived.Shelf.Strconv.ParseUint10At
import Derived.Shelf.Strconv.ParseInt10At64
import Derived.Shelf.Strconv.ParseInt10At32
import Derived.Shelf.Strconv.ParseInt10At16
import Derived.Shelf.Strconv.ParseInt10At8
import Derived.Shelf.Strconv.ParseInt10All
import Derived.Shelf.Strconv.ParseIntPublic10
import Derived.Shelf.Strconv.ErrVarParseInt
import Derived.Shelf.Strings.Search1
import Derived.Shelf.Strings.Search2
import Derived.Shelf.Strings.Search3
import Derived.Shelf.Strings.Cut
import Derived.Shelf.Strings.Count
import Derived.Shelf.Strings.Shaped
import Derived.Shelf.Strings.Prefix
import Derived.Shelf.Strings.Split
import Derived.Shelf.Strings.SplitShaped
import Derived.Shelf.Unicode.Decode
import Derived.Shelf.Strings.Runes
import Derived.Shelf.Strings.RuneCount
import Derived.Shelf.Strings.AsciiSet
import Derived.Shelf.Strings.Explode
import Derived.Shelf.Bits.Mul64
import Derived.Shelf.Strings.Repeat
import Derived.Shelf.Unicode.DecodeSlow
import Derived.Shelf.Unicode.DecodeAny
set_option linter.unusedSectionVars false
namespace Go.Kt.V
open Go renaming World->av,Value->aw
open Go Go.RowKit Go.Kt
set_option linter.unusedSimpArgs false
set_option linter.unusedVariables false
def zc(P:Program)(t:TypeId):Option (List SV):=match P.info? t with
 | some i=>(match i.zero with
  | some z=>GX z.cells.toList
  | none=>none)
 | none=>none
theorem T0{P:Program}{t:TypeId}{zs:List SV}(h:zc P t=some zs)(w:av):∃z,(zeroValue t).run P w=.ok z w/\∀β,z.cells=(cp β zs).toArray:=by
 unfold zc at h;split at h
 ·rename_i i hi;split at h
  ·rename_i z hz;exact⟨z,by simp[zeroValue,typeInfo,hi,hz],fun β=>by rw[yd β h]⟩
  ·cases h
 ·cases h
def YM(st:St)(zs:List SV):Bool:=KR st.bx.length st.fr&&G2 st.bx.length st.bx&&RR st.bx.length zs&&za st.bx st.dt
def pN:List iB->Bool
 | []=>true
 | b::r=>(!b.ok||b.blk.isSome)&&pN r
theorem ve:∀{l:List iB},pN l=true->∀i b,cM l i=some b->b.ok=true->b.blk.isSome=true
 | c::r,h,0,b,hb,ho=>by
  simp only[pN,aP,cq,cx]at h;simp only[cM,aV]at hb;subst hb;rcases h.1 with h1 | h1
  ·rw[ho]at h1;cases h1
  ·exact h1
 | c::r,h,i+1,b,hb,ho=>by
  simp only[pN,aP]at h;exact ve h.2 i b hb ho
def Z1(bk:Nat):List iB->Prop->Prop
 | [],p=>p
 | b::r,p=>bif b.ok then b.blk.getD 0≠bk/\Z1 bk r p else Z1 bk r p
theorem G3{bk:Nat}:∀{l:List iB} {p:Prop},Z1 bk l p->p/\∀i b,cM l i=some b->b.ok=true->b.blk.getD 0≠bk
 | [],p,h=>⟨h,fun i b hb=>by cases hb⟩
 | c::r,p,h=>by
  unfold Z1 at h;rcases mO h with⟨hc,h⟩ | ⟨hc,h⟩
  ·obtain⟨h1,h2⟩:=h;obtain⟨h3,h4⟩:=G3 h2;refine⟨h3,fun i b hb ho=>?_⟩;cases i with
   | zero=>simp only[cM,aV]at hb;subst hb;exact h1
   | succ i=>exact h4 i b hb ho
  ·obtain⟨h3,h4⟩:=G3 h;refine⟨h3,fun i b hb ho=>?_⟩;cases i with
   | zero=>simp only[cM,aV]at hb;subst hb;rw[hc]at ho;cases ho
   | succ i=>exact h4 i b hb ho
def ue(esc:Bool):List iB->List Nat
 | []=>[]
 | b::r=>bif b.ok&&(esc||!b.esc)then b.blk.getD 0::ue esc r else ue esc r
theorem nW{esc:Bool}:∀{l:List iB} {i:Nat} {b:iB},cM l i=some b->b.ok=true->(esc||!b.esc)=true->b.blk.getD 0∈ue esc l
 | c::r,0,b,h,ho,he=>by
  simp only[cM,aV]at h;subst h;simp[ue,ho,he]
 | c::r,i+1,b,h,ho,he=>by
  have:=nW (l:=r) (i:=i) h ho he;simp only[ue];cases(c.ok&&(esc||!c.esc))with
  | true=>simp[this]
  | false=>exact this
def zg(l:List Nat)(w0 w1:av)(p:Prop):Prop:=match l with
 | []=>p
 | _=>bS l w0 w1/\p
theorem rM{l:List Nat}{w0 w1:av}{p:Prop}(h:zg l w0 w1 p):p/\bS l w0 w1:=by
 unfold zg at h;split at h
 ·exact⟨h,MR⟩
 ·exact⟨h.2,h.1⟩
def KT(P:Program)(w1:av)(ct:Nat):List iB->(List iB->Prop)->Prop
 | [],K=>K []
 | b::r,K=>bif b.ok&&b.esc then YK (QW P 12 b.ty) fun vs=>Blk w1 (b.blk.getD 0) b.ty (cp β0 vs)/\KT P w1 ct r fun r'=>K ({b with cells:=vs,stp:=ct,sh:=true}::r')
  else KT P w1 ct r fun r'=>K (b::r')
theorem yf{P:Program}{w1:av}{ct:Nat}:∀{l:List iB} {K:List iB->Prop},KT P w1 ct l K->∃l',K l'/\(∀i b',cM l' i=some b'->∃b,cM l i=some b/\b'.ok=b.ok/\b'.blk=b.blk/\b'.ty=b.ty/\
  ((b'=b/\(b.ok&&b.esc)=false)∨(b'.stp=ct/\(∀β,cp β b'.cells=cp β0 b'.cells)/\Blk w1 (b.blk.getD 0) b.ty (cp β0 b'.cells))))/\
  ∀i b,cM l i=some b->∃b',cM l' i=some b'/\b'.ty=b.ty/\b'.ok=b.ok/\∀k,b.blk=some k->b'.blk=some k
 | [],K,h=>⟨[],h,fun i b' hb=>(by cases hb),fun i b hb=>(by cases hb)⟩
 | c::r,K,h=>by
  unfold KT at h;rcases mO h with⟨hc,h⟩ | ⟨hc,h⟩
  ·obtain⟨vs,⟨hB,h⟩,_,pj⟩:=yO h;obtain⟨l',h1,h2,h3⟩:=yf h;refine⟨_,h1,fun i b' hb=>?_,fun i b hb=>?_⟩;rotate_left
   ·cases i with
    | zero=>simp only[cM,aV]at hb;subst hb;exact⟨_,rfl,rfl,rfl,fun _ h=>h⟩
    | succ i=>exact h3 i b hb
   cases i with
   | zero=>
    simp only[cM,aV]at hb;subst hb;exact⟨c,rfl,rfl,rfl,rfl,.inr ⟨rfl,fun β=>gQ (g:=fun _=>false) (fun i h=>(by cases h)) vs (pj _),hB⟩⟩
   | succ i=>exact h2 i b' hb
  ·obtain⟨l',h1,h2,h3⟩:=yf h;refine⟨_,h1,fun i b' hb=>?_,fun i b hb=>?_⟩;rotate_left
   ·cases i with
    | zero=>simp only[cM,aV]at hb;subst hb;exact⟨_,rfl,rfl,rfl,fun _ h=>h⟩
    | succ i=>exact h3 i b hb
   cases i with
   | zero=>
    simp only[cM,aV]at hb;subst hb;exact⟨c,rfl,rfl,rfl,rfl,.inl ⟨rfl,hc⟩⟩
   | succ i=>exact h2 i b' hb
def VG(P:Program):List TypeId->(List SV->Prop)->Prop
 | [],K=>K []
 | t::r,K=>YK (QW P 12 t) fun vs=>VG P r fun rs=>K (MX (match P.underlying t with | some d=>mN d | none=>false) vs::rs)
theorem Cx(g:Nat->Bool):∀l,cln g (j5 l)=ij g l
 | []=>rfl
 | s::r=>by simp only[j5,cln,ij,Cx g r]
theorem RS(g:Nat->Bool)(ag:Bool){l:List SV}(h:ij g l=true):cln g (MX ag l)=true:=by
 cases ag with
 | true=>show cln g (j5 l)=true;rw[Cx];exact h
 | false=>
  cases l with
  | nil=>rfl
  | cons s r=>simp only[ij,aP]at h;exact h.1
theorem wx{P:Program}:∀{ts:List TypeId} {K:List SV->Prop},VG P ts K->∃rs,K rs/\∀g,ij g rs=true
 | [],K,h=>⟨[],h,fun _=>rfl⟩
 | t::r,K,h=>by
  obtain⟨vs,h,_,h2⟩:=yO h;obtain⟨rs,h3,h4⟩:=wx h;exact⟨_,h3,fun g=>by simp only[ij,RS g _ (h2 g),h4 g,cR]⟩
def rN(rs:List SV):SV:=match rs with
 | [r]=>r
 | rs=>.tup (j5 rs)
theorem vf{g:Nat->Bool}{rs:List SV}(h:ij g rs=true):cln g (rN rs)=true:=by
 unfold rN;split
 ·simp only[ij,aP]at h;exact h.1
 ·show cln g (j5 _)=true;rw[Cx];exact h
def zh(P:Program)(t:TypeId):List TypeId:=match P.underlying t with
 | some (.tuple ts)=>ts.toList
 | _=>[t]
def M5(P:Program)(f:FuncId):Bool:=match P.funcs[f]? with
 | some fn=>!(fn.name== "runtime.NumGoroutine")&&fn.body.isSome
 | none=>false
theorem kn{P:Program}{f:FuncId}(h:M5 P f=true)(args:Array aw)(w:av):(callFunc f args).run P w=.ok (.enter f args) w:=by
 unfold M5 at h;split at h
 ·rename_i fn hf;simp only[aP,cx]at h;have hb:fn.body≠none:=by
   intro hq;rw[hq]at h;cases h.2
  have hn:fn.name≠ "runtime.NumGoroutine" :=by
   intro hq;rw[hq]at h;simp at h
  simp[callFunc,hf,hn,hb]
 ·cases h
def Z2(P:Program)(f:FuncId):List TypeId:=match P.funcs[f]? with
 | some fn=>fn.resultTypes.toList
 | none=>[]
abbrev XT:=av->av->Prop->Prop
section
variable {P:Program} {β:Nat->Nat} {st:St} {a:Act} {w w1:av}
theorem Rep.next(hR:Rep β st a w)(hm:st.mv=false)(hb:pN st.bx=true){Y2:List iB}{ct':Nat}
  (h:∀i b',cM Y2 i=some b'->b'.ok=true->∃b,cM st.bx i=some b/\b.ok=true/\b'.blk=b.blk/\Blk w1 (β i) b'.ty (cp β b'.cells)):Rep β {st with bx:=Y2,w0:=w1,ct:=ct'} a w1:=by
 have key:∀i b,cM st.bx i=some b->b.ok=true->b.blk=some (β i):=fun i b h1 h2=>by
  have:=ve hb i b h1 h2;cases hk:b.blk with
  | none=>rw[hk]at this;cases this
  | some k=>rw[(hR.bx i b h1 h2).at_ k hk]
 refine⟨hR.fr,fun i b' nC ho=>?_,fun i j bi bj g1 g2 g3 g4 Au=>?_,Only.refl _ _,fun _=>rfl⟩
 ·obtain⟨b,h1,h2,h3,h4⟩:=h i b' nC ho;exact⟨h4,fun k hk=>by rw[h3,key i b h1 h2]at hk;simpa using hk,fun hk=>by rw[h3,key i b h1 h2]at hk;cases hk⟩
 ·obtain⟨b,h1,h2,_⟩:=h i bi g1 g3;obtain⟨c,k1,k2,_⟩:=h j bj g2 g4;exact hR.ne i j b c h1 k1 h2 k2 Au
theorem Rep.LQ(hR:Rep β st a w)(hb:pN st.bx=true){i:Nat}{b:iB}(h1:cM st.bx i=some b)(h2:b.ok=true):b.blk.getD 0=β i:=by
 have:=ve hb i b h1 h2;cases hk:b.blk with
 | none=>rw[hk]at this;cases this
 | some k=>rw[(hR.bx i b h1 h2).at_ k hk];rfl
def IB(P:Program)(X:XT)(st:St)(d:Option Tmp)(DB:List TypeId)(f:FuncId)(args:List SV)(oA:List aw)(K:St->Prop):Prop:=
 bif ij st.HQ args&&pN st.bx then
  Calls P f (cp st.bl args++oA).toArray st.w0 fun e w1=>VG P DB fun rs=>e=.returned (val β0 (rN rs))/\
   zg (ue false st.bx) st.w0 w1 (KT P w1 st.ct st.bx fun bx=>X st.w0 w1 (K (St.put {st with bx:=bx,w0:=w1,ct:=st.ct+1} d (rN rs))))
 else False
theorem M6{X:XT}{E:av->av->Prop}(hX:∀w0 w1 p,X w0 w1 p->p/\E w0 w1){d:Option Tmp}{DB:List TypeId}{f:FuncId}{args:List SV}{oA:List aw}{K:St->Prop}(h:IB P X st d DB f args oA K)(hm:st.mv=false)(hR:Rep β st a w):
  Calls P f (cp β args++oA).toArray w fun e w'=>∃v,e=.returned v/\∃cE,K cE/\Ext st cE/\E w w'/\Rep β cE (a.put d v) w':=by
 unfold IB at h;obtain⟨h0,h⟩:=dv h;simp only[aP]at h0;rw[hR.sF h0.1,<-hR.still hm]at h;refine h.mono ?_;rintro e w1 h;obtain⟨rs,⟨rfl,h1⟩,pj⟩:=wx h;clear h;obtain⟨h2,hS⟩:=rM h1;obtain⟨Y2,h3,hb,Gy⟩:=yf h2;obtain⟨h,hE⟩:=hX _ _ _ h3;have ev:val β0 (rN rs)=val β (rN rs):=jw (g:=fun _=>false) (fun i h=>(by cases h)) _ (vf (pj _));refine⟨_,rfl,_,h,?_,hE,?_⟩
 ·refine Ext.trans (t:={st with bx:=Y2,w0:=w1,ct:=st.ct+1}) ⟨rfl,iL _,fun _ _ _ h _=>h,fun i b' nC ho hs=>?_,Gy,DR⟩ (Ext.put _ _ _);obtain⟨b,h1,h2,h3,h4,h5⟩:=hb i b' nC;rcases h5 with⟨rfl,_⟩ | ⟨h5,_⟩
  ·exact⟨b',h1,ho,rfl,rfl,rfl,fun _ h=>h⟩
  ·omega
 ·rw[ev];refine Rep.put (Rep.next hR hm h0.2 fun i b' nC ho=>?_) _ _;obtain⟨b,h1,h2,h3,h4,h5⟩:=hb i b' nC;have DV:b.ok=true:=by rw[<-h2];exact ho
  refine⟨b,h1,DV,h3,?_⟩;have eD:=hR.LQ h0.2 h1 DV;rcases h5 with⟨rfl,h6⟩ | ⟨_,h6,h7⟩
  ·have hk:=(hR.bx i b' h1 DV).blk;have vW:=nW (esc:=false) h1 DV (by rw[DV]at h6;simpa using h6);rw[eD]at vW;exact(hS _ vW).trans hk
  ·rw[h4,h6 β,<-eD];exact h7
def zi(a b:List aw):List aw:=a++b
def IC(P:Program)(X:XT)(st:St)(d:Option Tmp)(DB:List TypeId)(f:FuncId)(fst:List aw)(args:List SV)(oA:List aw)(K:St->Prop):Prop:=
 bif ij st.HQ args&&pN st.bx then
  Calls P f (zi (zi fst (cp st.bl args)) oA).toArray st.w0 fun e w1=>VG P DB fun rs=>e=.returned (val β0 (rN rs))/\
   zg (ue false st.bx) st.w0 w1 (KT P w1 st.ct st.bx fun bx=>X st.w0 w1 (K (St.put {st with bx:=bx,w0:=w1,ct:=st.ct+1} d (rN rs))))
 else False
theorem M7{X:XT}{E:av->av->Prop}(hX:∀w0 w1 p,X w0 w1 p->p/\E w0 w1){d:Option Tmp}{DB:List TypeId}{f:FuncId}{fst:List aw}{args:List SV}{oA:List aw}{K:St->Prop}(h:IC P X st d DB f fst args oA K)(hm:st.mv=false)(hR:Rep β st a w):
  Calls P f (zi (zi fst (cp β args)) oA).toArray w fun e w'=>∃v,e=.returned v/\∃cE,K cE/\Ext st cE/\E w w'/\Rep β cE (a.put d v) w':=by
 unfold IC at h;obtain⟨h0,h⟩:=dv h;simp only[aP]at h0;rw[hR.sF h0.1,<-hR.still hm]at h;refine h.mono ?_;rintro e w1 h;obtain⟨rs,⟨rfl,h1⟩,pj⟩:=wx h;clear h;obtain⟨h2,hS⟩:=rM h1;obtain⟨Y2,h3,hb,Gy⟩:=yf h2;obtain⟨h,hE⟩:=hX _ _ _ h3;have ev:val β0 (rN rs)=val β (rN rs):=jw (g:=fun _=>false) (fun i h=>(by cases h)) _ (vf (pj _));refine⟨_,rfl,_,h,?_,hE,?_⟩
 ·refine Ext.trans (t:={st with bx:=Y2,w0:=w1,ct:=st.ct+1}) ⟨rfl,iL _,fun _ _ _ h _=>h,fun i b' nC ho hs=>?_,Gy,DR⟩ (Ext.put _ _ _);obtain⟨b,h1,h2,h3,h4,h5⟩:=hb i b' nC;rcases h5 with⟨rfl,_⟩ | ⟨h5,_⟩
  ·exact⟨b',h1,ho,rfl,rfl,rfl,fun _ h=>h⟩
  ·omega
 ·rw[ev];refine Rep.put (Rep.next hR hm h0.2 fun i b' nC ho=>?_) _ _;obtain⟨b,h1,h2,h3,h4,h5⟩:=hb i b' nC;have DV:b.ok=true:=by rw[<-h2];exact ho
  refine⟨b,h1,DV,h3,?_⟩;have eD:=hR.LQ h0.2 h1 DV;rcases h5 with⟨rfl,h6⟩ | ⟨_,h6,h7⟩
  ·have hk:=(hR.bx i b' h1 DV).blk;have vW:=nW (esc:=false) h1 DV (by rw[DV]at h6;simpa using h6);rw[eD]at vW;exact(hS _ vW).trans hk
  ·rw[h4,h6 β,<-eD];exact h7
def qC(P:Program)(X:XT)(st:St)(d:Option Tmp)(DB:List TypeId)(args:List SV)(run:List aw->Sem aw)(K:St->Prop):Prop:=
 bif ij st.HQ args&&pN st.bx then
  VG P DB fun rs=>∃w1:av,(run (cp st.bl args)).run P st.w0=.ok (val β0 (rN rs)) w1/\zg (ue true st.bx) st.w0 w1 (X st.w0 w1 (K (St.put {st with w0:=w1} d (rN rs))))
 else False
theorem IE{X:XT}{E:av->av->Prop}(hX:∀w0 w1 p,X w0 w1 p->p/\E w0 w1){d:Option Tmp}{DB:List TypeId}{args:List SV}{run:List aw->Sem aw}{K:St->Prop}(h:qC P X st d DB args run K)(hm:st.mv=false)(hR:Rep β st a w):
  ∃v w',(run (cp β args)).run P w=.ok v w'/\∃cE,K cE/\Ext st cE/\E w w'/\Rep β cE (a.put d v) w':=by
 unfold qC at h;obtain⟨h0,h⟩:=dv h;simp only[aP]at h0;rw[hR.sF h0.1,<-hR.still hm]at h;obtain⟨rs,⟨w1,hr,h⟩,pj⟩:=wx h;obtain⟨h,hS⟩:=rM h;obtain⟨h,hE⟩:=hX _ _ _ h;have ev:val β0 (rN rs)=val β (rN rs):=jw (g:=fun _=>false) (fun i h=>(by cases h)) _ (vf (pj _));refine⟨_,w1,hr,_,h,?_,hE,?_⟩
 ·refine Ext.trans (t:={st with w0:=w1}) ⟨rfl,aW _,fun _ _ _ h _=>h,fun i b' nC ho hs=>⟨b',nC,ho,rfl,rfl,rfl,fun _ h=>h⟩,MW,DR⟩ (Ext.put _ _ _)
 ·rw[ev];refine Rep.put (Rep.next (ct':=st.ct) hR hm h0.2 fun i b' nC ho=>⟨b',nC,ho,rfl,?_⟩) _ _;have eD:=hR.LQ h0.2 nC ho;have vW:=nW (esc:=true) nC ho rfl;rw[eD]at vW;exact(hS _ vW).trans (hR.bx i b' nC ho).blk
def KU(P:Program)(X:XT)(st:St)(d:Option Tmp)(args:List SV)(run:List aw->Sem aw)(rs:SV)(K:St->Prop):Prop:=
 bif ij st.HQ args&&pN st.bx&&cln (fun _=>false) rs then
  ∃w1:av,(run (cp st.bl args)).run P st.w0=.ok (val β0 rs) w1/\zg (ue true st.bx) st.w0 w1 (X st.w0 w1 (K (St.put {st with w0:=w1} d rs)))
 else False
theorem yg{X:XT}{E:av->av->Prop}(hX:∀w0 w1 p,X w0 w1 p->p/\E w0 w1){d:Option Tmp}{args:List SV}{run:List aw->Sem aw}{rs:SV}{K:St->Prop}(h:KU P X st d args run rs K)(hm:st.mv=false)(hR:Rep β st a w):
  ∃v w',(run (cp β args)).run P w=.ok v w'/\∃cE,K cE/\Ext st cE/\E w w'/\Rep β cE (a.put d v) w':=by
 unfold KU at h;obtain⟨h0,h⟩:=dv h;simp only[aP]at h0;rw[hR.sF h0.1.1,<-hR.still hm]at h;obtain⟨w1,hr,h⟩:=h;obtain⟨h,hS⟩:=rM h;obtain⟨h,hE⟩:=hX _ _ _ h;have ev:val β0 rs=val β rs:=jw (g:=fun _=>false) (fun i h=>(by cases h)) _ h0.2;refine⟨_,w1,hr,_,h,?_,hE,?_⟩
 ·refine Ext.trans (t:={st with w0:=w1}) ⟨rfl,aW _,fun _ _ _ h _=>h,fun i b' nC ho hs=>⟨b',nC,ho,rfl,rfl,rfl,fun _ h=>h⟩,MW,DR⟩ (Ext.put _ _ _)
 ·rw[ev];refine Rep.put (Rep.next (ct':=st.ct) hR hm h0.1.2 fun i b' nC ho=>⟨b',nC,ho,rfl,?_⟩) _ _;have eD:=hR.LQ h0.1.2 nC ho;have vW:=nW (esc:=true) nC ho rfl;rw[eD]at vW;exact(hS _ vW).trans (hR.bx i b' nC ho).blk
def M8(P:Program)(X:XT)(st:St)(d:Option Tmp)(args:List SV)(run:List aw->Sem Unit)(K:St->Prop):Prop:=
 bif ij st.HQ args&&pN st.bx then
  ∃w1:av,(run (cp st.bl args)).run P st.w0=.ok () w1/\zg (ue true st.bx) st.w0 w1 (X st.w0 w1 (K (St.put {st with w0:=w1} d .un)))
 else False
theorem RT{X:XT}{E:av->av->Prop}(hX:∀w0 w1 p,X w0 w1 p->p/\E w0 w1){d:Option Tmp}{args:List SV}{run:List aw->Sem Unit}{K:St->Prop}(h:M8 P X st d args run K)(hm:st.mv=false)(hR:Rep β st a w):
  ∃w',(run (cp β args)).run P w=.ok () w'/\∃cE,K cE/\Ext st cE/\E w w'/\Rep β cE (a.put d undef) w':=by
 unfold M8 at h;obtain⟨h0,h⟩:=dv h;simp only[aP]at h0;rw[hR.sF h0.1,<-hR.still hm]at h;obtain⟨w1,hr,h⟩:=h;obtain⟨h,hS⟩:=rM h;obtain⟨h,hE⟩:=hX _ _ _ h;refine⟨w1,hr,_,h,?_,hE,?_⟩
 ·refine Ext.trans (t:={st with w0:=w1}) ⟨rfl,aW _,fun _ _ _ h _=>h,fun i b' nC ho hs=>⟨b',nC,ho,rfl,rfl,rfl,fun _ h=>h⟩,MW,DR⟩ (Ext.put _ _ _)
 ·refine Rep.put (v:=.un) (Rep.next (ct':=st.ct) hR hm h0.2 fun i b' nC ho=>⟨b',nC,ho,rfl,?_⟩) _;have eD:=hR.LQ h0.2 nC ho;have vW:=nW (esc:=true) nC ho rfl;rw[eD]at vW;exact(hS _ vW).trans (hR.bx i b' nC ho).blk
end
def qD(l:List aw)(i:Nat):aw:=match l,i with
 | [],_=>undef
 | v::_,0=>v
 | _::r,i+1=>qD r i
def zp:List Nat->List aw->List (Nat×aw)
 | i::r,v::s=>(i,v)::zp r s
 | _,_=>[]
def RU:List (Nat×SV)->List Nat
 | []=>[]
 | p::r=>p.1::RU r
def M9:List (Nat×SV)->List SV
 | []=>[]
 | p::r=>p.2::M9 r
theorem T1(β:Nat->Nat):∀l:List (Nat×SV),zp (RU l) (cp β (M9 l))=yN β l
 | []=>rfl
 | p::r=>by
  have:=T1 β r;simp only[cp]at this;simp only[RU,M9,cp,bE,zp,yN,this]
def Z3(P:Program)(t:TypeId):Bool:=match P.underlying t with
 | some (.pointer _)=>true
 | _=>false
def Z4:Operand->Bool
 | .const _=>true
 | _=>false
def ptS:SV->Bool
 | .ptr _=>true
 | .ad _=>true
 | _=>false
def jA(P:Program):Op->Bool
 | .move _=>true
 | .assign _=>true
 | .pick _ _ _=>true
 | .binOp _ t x y _=>!(Z3 P t)||Z4 x||Z4 y
 | .unOp _ _ _=>true
 | .extract _ _=>true
 | .build _ _=>true
 | .makeFunc _ _ _=>true
 | .makeInterface _ _=>true
 | .nilCheck _=>true
 | .fieldAddr _ _ _=>true
 | .field _ _ _=>true
 | .indexAddr _ _ _=>true
 | .load _ _=>true
 | .index _ _ _=>true
 | .slice _ _ _ _ _=>true
 | .convert s d _=>(match P.underlying s,P.underlying d with
  | some (.int _),some (.int _)=>true
  | some .string,some .string=>true
  | some (.slice e),some .string=>(match P.underlying e with
   | some (.int .u8)=>true
   | _=>false)
  | _,_=>false)
 | .call c=>(match c.callee with
  | .builtin .len=>(match c.argTypes.toList with
   | [t]=>(match P.underlying t with
    | some (.slice _)=>true
    | some .string=>true
    | _=>false)
   | _=>false)
  | .builtin .cap=>true
  | .builtin .min=>true
  | .builtin .max=>true
  | _=>false)
 | _=>false
def tJ:Op->Bool
 | .store _ _ _=>true
 | _=>false
def Z5(P:Program)(X:XT)(st:St)(o:Oper)(b:Builtin)(ts:Array TypeId)(vs:List SV)(K:St->Prop):Prop:=match b with
 | .append=>qC P X st o.dst (zh P o.type) vs (fun l=>Builtin.append_ ts o.type l.toArray) K
 | .copy=>qC P X st o.dst (zh P o.type) vs (fun l=>Builtin.copy_ ts o.type l.toArray) K
 | .delete=>qC P X st o.dst (zh P o.type) vs (fun l=>Builtin.delete_ ts o.type l.toArray) K
 | .clear=>qC P X st o.dst (zh P o.type) vs (fun l=>Builtin.clear_ ts o.type l.toArray) K
 | .len=>qC P X st o.dst (zh P o.type) vs (fun l=>Builtin.len_ ts o.type l.toArray) K
 | .unsafeSliceData=>qC P X st o.dst (zh P o.type) vs (fun l=>Builtin.unsafeSliceData_ ts o.type l.toArray) K
 | .unsafeString=>qC P X st o.dst (zh P o.type) vs (fun l=>Builtin.unsafeString_ ts o.type l.toArray) K
 | _=>False
def KV(f:FuncId)(args:Array aw):Sem aw:=do
 match <-callFunc f args with
 | .value v=>pure v
 | _=>stuck "extV"
theorem Na{P:Program}{f:FuncId}{args:Array aw}{w w1:av}{v:aw}(h:(KV f args).run P w=.ok v w1):(callFunc f args).run P w=.ok (.value v) w1:=by
 unfold KV at h;rw[Sem.run_bind]at h;cases hc:(callFunc f args).run P w with
 | ok n w2=>
  rw[hc,Result.andThen_ok]at h;cases n<;>first | (simp[stuck]at h;done) | (simp only[Sem.run_pure,Result.ok.injEq]at h;obtain⟨rfl,rfl⟩:=h;rfl) | (simp at h)
 | _=>rw[hc]at h;simp at h
theorem VH{P:Program}{a:Act}{w w1:av}{v:aw}{dst:Option Tmp}{x:Operand}{f:FuncId}{first captured:List aw}{xs:List Operand}{ats:Array TypeId}{t':TypeId}{p:String}{af:Array Edge}{g:Option (Nat×Bool)}{args:List aw}
  (hx:a.eval x=.func (.func f) first.toArray captured.toArray)
  (ha:first++xs.map a.eval++captured=args) (hc:(callFunc f args.toArray).run P w=.ok (.value v) w1):
  (execOp a.eval ⟨dst,.call ⟨.value x,xs.toArray,ats⟩,t',p,af,g⟩).run P w=.ok (.value v) w1:=by
 subst ha;simp only[execOp,resolve,hx,Deferred.ofValue,Sem.run_bind,Sem.run_pure,Result.andThen_ok,invoke];simp only[List.append_toArray,qo]at hc⊢;simpa using hc
def VI(P:Program)(X:XT)(st:St)(o:Oper)(fv:SV)(vs:List SV)(K:St->Prop):Prop:=match fv with
 | .fn g fs cs=>bif AK fs&&AK cs&&M5 P g then ez (st.esc (lg fs++vs++lg cs)) fun st=>IB P X st o.dst (Z2 P g) g (lg fs++vs++lg cs) [] K
  else bif AK fs&&AK cs then ez (st.esc (lg fs++vs++lg cs)) fun st=>qC P X st o.dst (Z2 P g) (lg fs++vs++lg cs) (fun l=>KV g l.toArray) K else False
 | .raw v=>ez (st.esc vs) fun st=>∃(g:FuncId) (fst cap:List aw),v.v=.func (.func g) fst.toArray cap.toArray/\(∀(args:Array aw) (w:av),(callFunc g args).run P w=.ok (.enter g args) w)/\IC P X st o.dst (zh P o.type) g fst vs cap K
 | _=>False
abbrev YT:=Option Nat->Prop->Prop
def Z6(P:Program)(X:XT)(Y:YT)(st:St)(o:Oper)(p s:SV)(vs:List SV)(K:St->Prop):Prop:=match p with
 | .box i off=>bR (cM st.bx i) fun b=>bif b.ok&&Nat.ble (off+vs.length) b.cells.length then Y b.blk (K ((st.sH i b (ZY b.cells off vs)).put o.dst .un))else False
 | .ad p=>ez (st.esc vs) fun st=>∃(bk off:Nat) (cells:List aw) (ety:TypeId),p=(⟨bk,off,none⟩:Addr)/\Blk st.w0 bk ety cells/\off+vs.length<=cells.length/\
  bif ij st.HQ vs&&pN st.bx then Z1 bk st.bx (∀w1:av,Only [bk] st.w0 w1->Blk w1 bk ety (ca cells off (cp st.bl vs))->X st.w0 w1 (K (St.put {st with w0:=w1} o.dst .un)))else False
 | _=>False
def Z7(P:Program)(st:St)(o:Oper)(fv:SV)(vs:List SV)(K:St->Prop):Prop:=match fv with
 | .fn g fs cs=>bif AK fs&&AK cs&&M5 P g then ez (st.esc (lg fs++vs++lg cs)) fun st=>bif ij st.HQ (lg fs++vs)&&ij st.HQ (lg cs)then
  K (St.put {st with df:=(g,cp st.bl (lg fs++vs),cp st.bl (lg cs))::st.df} o.dst .un)else False else False
 | _=>False
def Z8:List TypeId->List TypeId
 | []=>[]
 | _::r=>r
def loud(P:Program)(X:XT)(Y:YT)(st:St)(o:Oper)(K:St->Prop):Prop:=match o.op with
 | .binOp op t x y _=>bR (st.ev x) fun a=>bR (st.ev y) fun b=>bif ptS a&&ptS b then ez (st.esc [a,b]) fun st=>qC P X st o.dst [o.type] [a,b] (fun vs=>Go.binOp op t (qD vs 0) (qD vs 1)) K else False
 | .alloc t=>bR (zc P t) fun zs=>bif YM st zs then K (st.Du o.dst t zs)else False
 | .box t x=>bR (st.ev x) fun s=>bR (yQ s) fun zs=>bif YM st zs then K (st.Du o.dst t zs)else False
 | .store t x y=>bR (st.ev x) fun p=>bR (st.ev y) fun s=>bR (yQ s) fun vs=>bif sz P t vs.length then Z6 P X Y st o p s vs K else False
 | .call c=>bR (st.Kl c.args.toList) fun vs=>(match c.callee with
  | .value f=>bR (st.ev f) fun fv=>VI P X st o fv vs K
  | .builtin b=>ez (st.esc vs) fun st=>Z5 P X st o b c.argTypes vs K
  | _=>False)
 | .defer c=>bR (st.Kl c.args.toList) fun vs=>(match c.callee with
  | .value f=>bR (st.ev f) fun fv=>Z7 P st o fv vs K
  | _=>False)
 | .buildSlice t n ps=>bR (st.Q4 ps.toList) fun l=>ez (st.esc (M9 l)) fun st=>qC P X st o.dst [t] (M9 l) (fun vs=>Instr.buildSlice t n (zp (RU l) vs).toArray) K
 | .makeSlice t x y=>bR (st.ev x) fun a=>bR (st.ev y) fun b=>ez st fun st=>qC P X st o.dst [t] [a,b] (fun vs=>Instr.makeSlice t (qD vs 0) (qD vs 1)) K
 | .makeMap t none=>ez st fun st=>qC P X st o.dst [t] [] (fun _=>Instr.makeMap t none) K
 | .makeMap t (some x)=>bR (st.ev x) fun a=>ez st fun st=>qC P X st o.dst [t] [a] (fun vs=>Instr.makeMap t (some (qD vs 0))) K
 | .lookup t x i ok=>bR (st.ev x) fun a=>bR (st.ev i) fun b=>ez st fun st=>qC P X st o.dst (zh P o.type) [a,b] (fun vs=>Instr.lookup t (qD vs 0) (qD vs 1) ok) K
 | .mapUpdate t x y z=>bR (st.ev x) fun a=>bR (st.ev y) fun b=>bR (st.ev z) fun c=>ez (st.esc [a,b,c]) fun st=>M8 P X st o.dst [a,b,c] (fun vs=>Instr.mapUpdate t (qD vs 0) (qD vs 1) (qD vs 2)) K
 | .insert t x y z=>bR (st.ev x) fun a=>bR (st.ev y) fun b=>bR (st.ev z) fun c=>ez (st.esc [a,b,c]) fun st=>M8 P X st o.dst [a,b,c] (fun vs=>Instr.mapUpdate t (qD vs 0) (qD vs 1) (qD vs 2)) K
 | .convert s d x=>bR (st.ev x) fun a=>ez (st.esc [a]) fun st=>qC P X st o.dst [d] [a] (fun vs=>convert s d (qD vs 0)) K
 | .range t x=>bR (st.ev x) fun a=>ez st fun st=>∃p:Option Addr,KU P X st o.dst [a] (fun vs=>Instr.range t (qD vs 0)) (.ptr p) K
 | .next x false=>bR (st.ev x) fun a=>ez st fun st=>KU P X st o.dst [a] (fun vs=>Instr.next (qD vs 0) false o.type) (.tup (j5 [.bl false])) K∨
  VG P (Z8 (zh P o.type)) fun rs=>KU P X st o.dst [a] (fun vs=>Instr.next (qD vs 0) false o.type) (.tup (j5 (.bl true::rs))) K
 | .entry x=>bR (st.ev x) fun a=>ez st fun st=>VG P (zh P o.type) fun rs=>KU P X st o.dst [a] (fun vs=>Instr.entry (qD vs 0)) (.tup (j5 rs)) K
 | _=>False
section
variable {P:Program} {β:Nat->Nat} {st:St} {a:Act} {w w1:av} {X:XT} {Y:YT} {E:av->av->Prop} {K:St->Prop} {Q:Exit->Act->av->Prop}
abbrev T2(E:av->av->Prop)(st:St)(K:St->Prop)(w:av)(a':Act)(w':av):Prop:=∃β' cE,K cE/\Ext st cE/\E w w'/\Rep β' cE a' w'
theorem lu(hX:∀w0 w1 p,X w0 w1 p->p/\E w0 w1){o:Oper}{DB:List TypeId}{args l:List SV}{run:List aw->Sem aw}(h:ez (st.esc l) fun st=>qC P X st o.dst DB args run K)(hR:Rep β st a w)
  (hx:∀v w1,(run (cp β args)).run P w=.ok v w1->(execOp a.eval o).run P w=.ok (.value v) w1):o.wp P a w (T2 E st K w) Q:=by
 obtain⟨s1,h1,e1,ig,hm,_⟩:=dK h (hR.esc l);obtain⟨v,w',hr,cE,k1,k2,k3,k4⟩:=IE hX h1 hm ig;exact xj v (hx v w' hr) rfl ⟨β,cE,k1,(Ext.esc st l).trans (e1.trans k2),k3,k4⟩
theorem vg(hX:∀w0 w1 p,X w0 w1 p->p/\E w0 w1){o:Oper}{DB:List TypeId}{args:List SV}{run:List aw->Sem aw}(h:ez st fun st=>qC P X st o.dst DB args run K)(hR:Rep β st a w)
  (hx:∀v w1,(run (cp β args)).run P w=.ok v w1->(execOp a.eval o).run P w=.ok (.value v) w1):o.wp P a w (T2 E st K w) Q:=by
 obtain⟨s1,h1,e1,ig,hm,_⟩:=dK h hR;obtain⟨v,w',hr,cE,k1,k2,k3,k4⟩:=IE hX h1 hm ig;exact xj v (hx v w' hr) rfl ⟨β,cE,k1,e1.trans k2,k3,k4⟩
theorem Eu(hX:∀w0 w1 p,X w0 w1 p->p/\E w0 w1){o:Oper}{args l:List SV}{run:List aw->Sem Unit}(h:ez (st.esc l) fun st=>M8 P X st o.dst args run K)(hR:Rep β st a w)
  (hx:∀w1,(run (cp β args)).run P w=.ok () w1->(execOp a.eval o).run P w=.ok .skip w1):o.wp P a w (T2 E st K w) Q:=by
 obtain⟨s1,h1,e1,ig,hm,_⟩:=dK h (hR.esc l);obtain⟨w',hr,cE,k1,k2,k3,k4⟩:=RT hX h1 hm ig;exact MQ (hx w' hr) rfl ⟨β,cE,k1,(Ext.esc st l).trans (e1.trans k2),k3,k4⟩
theorem IG(hE:∀w w1,Only [] w w1->E w w1){d:Option Tmp}{t:TypeId}{zs:List SV}(hc:YM st zs=true)(h:K (st.Du d t zs))(hR:Rep β st a w){b:Nat}(hb:w.heap.size<=b)(hO:Only [] w w1)(hB:Blk w1 b t (cp β zs)):
  T2 E st K w (a.put d (.pointer (some ⟨b,0,none⟩))) w1:=by
 simp only[YM,aP]at hc;exact⟨_,_,h,Ext.Du _ _ _ _,hE _ _ hO,hR.Du hc.1.1.1 hc.1.1.2 hc.1.2 hb hO hB hc.2⟩
theorem Nc(hX:∀w0 w1 p,X w0 w1 p->p/\E w0 w1){o:Oper}{DB:List TypeId}{f:FuncId}{args:List SV}{oA:List aw}{s1:St}(h:IB P X s1 o.dst DB f args oA K)(hm:s1.mv=false)(e1:Ext st s1)(hR:Rep β s1 a w)
  (hx:(execOp a.eval o).run P w=.ok (.enter f (cp β args++oA).toArray) w):o.wp P a w (T2 E st K w) Q:=by
 refine Ir hx ((M6 hX h hm hR).mono ?_);rintro e w' ⟨v,rfl,cE,k1,k2,k3,k4⟩;exact⟨v,_,rfl,rfl,β,cE,k1,e1.trans k2,k3,k4⟩
theorem KW(hX:∀w0 w1 p,X w0 w1 p->p/\E w0 w1){o:Oper}{DB:List TypeId}{f:FuncId}{fst:List aw}{args:List SV}{oA:List aw}{s1:St}(h:IC P X s1 o.dst DB f fst args oA K)(hm:s1.mv=false)(e1:Ext st s1)(hR:Rep β s1 a w)
  (hx:(execOp a.eval o).run P w=.ok (.enter f (zi (zi fst (cp β args)) oA).toArray) w):o.wp P a w (T2 E st K w) Q:=by
 refine Ir hx ((M7 hX h hm hR).mono ?_);rintro e w' ⟨v,rfl,cE,k1,k2,k3,k4⟩;exact⟨v,_,rfl,rfl,β,cE,k1,e1.trans k2,k3,k4⟩
theorem Nf{s:SV}(h:ptS s=true)(β:Nat->Nat):∃q,val β s=.pointer q:=by
 cases s<;>first | (cases h;done) | exact⟨_,rfl⟩
theorem RV{a:Act}{dst:Option Tmp}{op:BinOp}{t ty:TypeId}{x y:Operand}{t':TypeId}{p:String}{af:Array Edge}{g:Option (Nat×Bool)}{u v r:aw}(hu:∃q,u=.pointer q)(hv:∃q,v=.pointer q)(hx:a.eval x=u)(hy:a.eval y=v){w w1:av}
  (hr:(Go.binOp op t u v).run P w=.ok r w1):(execOp a.eval ⟨dst,.binOp op t x y ty,t',p,af,g⟩).run P w=.ok (.value r) w1:=by
 obtain⟨q,rfl⟩:=hu;obtain⟨q',rfl⟩:=hv;have hg:eqGuard op t x y (.pointer q) (.pointer q')=pure ():=by cases op<;>rfl
 simp only[execOp,hx,hy,hg,Sem.run_bind,Sem.run_pure,Result.andThen_ok,hr]
theorem RW{a:Act}{dst:Option Tmp}{x:Operand}{fn:Fn}{first captured:List aw}{xs:List Operand}{ats:Array TypeId}{t':TypeId}{p:String}{af:Array Edge}{g:Option (Nat×Bool)}{args:List aw}{w:av}
  (hx:a.eval x=.func fn first.toArray captured.toArray) (ha:first++xs.map a.eval=args):
  (execOp a.eval ⟨dst,.defer ⟨.value x,xs.toArray,ats⟩,t',p,af,g⟩).run P w=.ok (.defer {target:=.fn fn captured.toArray,args:=args.toArray}) w:=by
 subst ha;simp only[execOp,resolve,hx,Deferred.ofValue,Sem.run_bind,Sem.run_pure,Result.andThen_ok];simp
theorem Ng{a:Act}{dst:Option Tmp}{t:TypeId}{x:Operand}{t':TypeId}{p:String}{af:Array Edge}{g:Option (Nat×Bool)}{u v:aw}{w w1:av}(hx:a.eval x=u)(hr:(Instr.range t u).run P w=.ok v w1):
  (execOp a.eval ⟨dst,.range t x,t',p,af,g⟩).run P w=.ok (.value v) w1:=by
 simp only[execOp,hx,Sem.run_bind,hr,Result.andThen_ok,Sem.run_pure]
theorem IH{a:Act}{dst:Option Tmp}{x:Operand}{t':TypeId}{p:String}{af:Array Edge}{g:Option (Nat×Bool)}{u v:aw}{w w1:av}(hx:a.eval x=u)(hr:(Instr.next u false t').run P w=.ok v w1):
  (execOp a.eval ⟨dst,.next x false,t',p,af,g⟩).run P w=.ok (.value v) w1:=by
 simp only[execOp,hx,Sem.run_bind,hr,Result.andThen_ok,Sem.run_pure]
theorem Nh{a:Act}{dst:Option Tmp}{x:Operand}{t':TypeId}{p:String}{af:Array Edge}{g:Option (Nat×Bool)}{u v:aw}{w w1:av}(hx:a.eval x=u)(hr:(Instr.entry u).run P w=.ok v w1):
  (execOp a.eval ⟨dst,.entry x,t',p,af,g⟩).run P w=.ok (.value v) w1:=by
 simp only[execOp,hx,Sem.run_bind,hr,Result.andThen_ok,Sem.run_pure]
theorem lw(β:Nat->Nat)(l m:List SV):cp β (l++m)=cp β l++cp β m:=by simp[cp]
theorem Cy(hX:∀w0 w1 p,X w0 w1 p->p/\E w0 w1){o:Oper}(hE:∀w w1,Only [] w w1->E w w1)(hS:tJ o.op=true->∀bk k w w1 p,Y bk p->(∀j,bk=some j->k=j)->Only [k] w w1->p/\E w w1)(h:loud P X Y st o K)(hR:Rep β st a w):o.wp P a w (T2 E st K w) Q:=by
 obtain⟨dst,op,t',p,af,g⟩:=o;unfold loud at h;dsimp only at h;split at h
 ·obtain⟨x,hx,h⟩:=bm h;obtain⟨y,hy,h⟩:=bm h;obtain⟨hp,h⟩:=dv h;simp only[aP]at hp;exact lu hX h hR fun v w1 hr=>RV (Nf hp.1 β) (Nf hp.2 β) (hR.ev hx) (hR.ev hy) hr
 ·obtain⟨zs,hz,h⟩:=bm h;obtain⟨hc,h⟩:=dv h;obtain⟨z,z1,z2⟩:=T0 hz w;exact D9 z1 (z2 β) (fun _=>rfl) fun b w1 hb hO hB=>IG hE hc h hR hb hO hB
 ·obtain⟨s,hs,h⟩:=bm h;obtain⟨zs,hz,h⟩:=bm h;obtain⟨hc,h⟩:=dv h;exact Vm (by rw[hR.ev hs];exact(wm hz β).1) (fun _=>rfl) fun b w1 hb hO hB=>IG hE hc h hR hb hO hB
 ·obtain⟨q,hx,h⟩:=bm h;obtain⟨s,hy,h⟩:=bm h;obtain⟨vs,hv,h⟩:=bm h;obtain⟨hsz,h⟩:=dv h;obtain⟨c1,c2⟩:=wm hv β;have UT:=hS rfl;cases q with
  | box i off=>
   obtain⟨b,hb,h⟩:=bm h;obtain⟨h1,h⟩:=dv h;simp only[aP]at h1;have h2:=de h1.2;refine D8 (oZ hsz w) (hR.ev hx) (by rw[hR.ev hy];exact c1) (ff β vs) c2 (hR.bx i b hb h1.1).blk (by rw[ff,ff];exact h2) rfl rfl fun w1 hO hB=>?_;rw[<-Ej]at hB;obtain⟨h,he⟩:=UT _ (β i) _ w1 _ h (fun j hj=>(hR.bx i b hb h1.1).at_ j hj) hO;exact⟨β,_,h,(Ext.sH hb).trans (Ext.put _ _ _),he,(hR.sH hb h1.1 hO hB).put dst .un⟩
  | ad ad=>
   simp only[Z6]at h;obtain⟨s1,h1,e1,ig,hm,_⟩:=dK h (hR.esc vs);obtain⟨bk,off,cells,ety,rfl,hB,HS,h2⟩:=h1;obtain⟨h3,h2⟩:=dv h2;simp only[aP]at h3;obtain⟨h2,gC⟩:=G3 h2;have hw:=ig.still hm;rw[<-hw,ig.sF h3.1]at h2;rw[<-hw]at hB;refine D8 (oZ hsz w) (hR.ev hx) (by rw[hR.ev hy];exact c1) (ff β vs) c2 hB (by rw[ff];exact HS) rfl rfl fun w1 hO pD=>?_;obtain⟨h4,h5⟩:=hX _ _ _ (h2 w1 hO pD);refine⟨β,_,h4,((Ext.esc st vs).trans e1).trans (Ext.trans (t:={s1 with w0:=w1}) ⟨rfl,aW _,fun _ _ _ h _=>h,fun i b' nC ho hs=>⟨b',nC,ho,rfl,rfl,rfl,fun _ h=>h⟩,MW,DR⟩ (Ext.put _ _ _)),h5,?_⟩;refine Rep.put (v:=.un) (Rep.next (ct':=s1.ct) ig hm h3.2 fun i b' nC ho=>⟨b',nC,ho,rfl,?_⟩) _;have eD:=ig.LQ h3.2 nC ho;have:=gC i b' nC ho;rw[eD]at this;exact hO.blk (ig.bx i b' nC ho).blk (by simpa using this)
  | _=>exact h.elim
 ·rename_i c;obtain⟨callee,⟨xs⟩,ts⟩:=c;obtain⟨vs,hv,h⟩:=bm h;have wV:=hR.Kl hv;dsimp only at h;cases callee with
  | value f=>
   obtain⟨fv,hf,h⟩:=bm h;cases fv with
   | fn g' fs cs=>
    have ef:AK fs=true->AK cs=true->a.eval f=.func (.func g') (cp β (lg fs)).toArray (cp β (lg cs)).toArray:=fun k1 k2=>by
     rw[hR.ev hf];show Value.func (.func g') (pA β fs).toArray (pA β cs).toArray=_;rw[mD β k1,mD β k2]
    have h':=h;unfold VI at h';rcases mO h' with⟨h0,h1⟩ | ⟨_,h1⟩
    ·simp only[aP]at h0;obtain⟨s1,h1,e1,ig,hm,_⟩:=dK h1 (hR.esc _);refine Nc hX h1 hm ((Ext.esc _ _).trans e1) ig ?_;exact D3 (ef h0.1.1 h0.1.2) (kn h0.2) (by rw[wV,lw,lw,bL])
    ·obtain⟨h0,h1⟩:=dv h1;simp only[aP]at h0;exact lu hX h1 hR fun v w1 hr=>VH (ef h0.1 h0.2) (by rw[wV,lw,lw]) (Na hr)
   | raw v=>
    simp only[VI]at h;obtain⟨s1,⟨g',fst,cap,h1,h2,h3⟩,e1,ig,hm,_⟩:=dK h (hR.esc vs);refine KW hX h3 hm ((Ext.esc _ _).trans e1) ig ?_;have ef:a.eval f=.func (.func g') fst.toArray cap.toArray:=(hR.ev hf).trans h1;exact D3 ef h2 (by rw[wV];rfl)
   | _=>exact h.elim
  | builtin b=>
   unfold Z5 at h;cases b with
   | append=>exact lu hX h hR fun v w1 hr=>wj wV hr
   | copy=>exact lu hX h hR fun v w1 hr=>yH wV hr
   | delete=>exact lu hX h hR fun v w1 hr=>wk wV hr
   | clear=>exact lu hX h hR fun v w1 hr=>xG wV hr
   | len=>exact lu hX h hR fun v w1 hr=>AG wV hr
   | unsafeSliceData=>exact lu hX h hR fun v w1 hr=>(by rw[<-wV]at hr;exact lS (fun _=>rfl) hr)
   | unsafeString=>exact lu hX h hR fun v w1 hr=>(by rw[<-wV]at hr;exact lS (fun _=>rfl) hr)
   | _=>
    obtain⟨s1,h1,_⟩:=dK h (hR.esc vs);exact h1.elim
  | _=>exact h.elim
 ·rename_i c;obtain⟨callee,⟨xs⟩,ts⟩:=c;obtain⟨vs,hv,h⟩:=bm h;have wV:=hR.Kl hv;dsimp only at h;cases callee with
  | value f=>
   obtain⟨fv,hf,h⟩:=bm h;cases fv with
   | fn g' fs cs=>
    unfold Z7 at h;obtain⟨h0,h1⟩:=dv h;simp only[aP]at h0;have ef:a.eval f=.func (.func g') (cp β (lg fs)).toArray (cp β (lg cs)).toArray:=by
     rw[hR.ev hf];show Value.func (.func g') (pA β fs).toArray (pA β cs).toArray=_;rw[mD β h0.1.1,mD β h0.1.2]
    obtain⟨s1,h1,e1,ig,hm,_⟩:=dK h1 (hR.esc _);obtain⟨hc,h1⟩:=dv h1;simp only[aP]at hc;rw[ig.sF hc.1,ig.sF hc.2]at h1;have hr:=RW (P:=P) (dst:=dst) (ats:=ts) (t':=t') (p:=p) (af:=af) (g:=g) (w:=w) ef (by rw[wV,<-lw]);unfold Oper.wp;rw[hr,Oper.upon_defer];have AY:Rep β {s1 with df:=(g',cp β (lg fs++vs),cp β (lg cs))::s1.df} {a with defers:={target:=.fn (.func g') (cp β (lg cs)).toArray,args:=(cp β (lg fs++vs)).toArray}::a.defers} w:=by
     obtain⟨us,hu⟩:=ig.fr;exact⟨⟨us,by rw[hu];rfl⟩,ig.bx,ig.ne,ig.only,ig.still⟩
    exact⟨β,_,h1,((Ext.esc _ _).trans e1).trans (Ext.trans (t:={s1 with df:=(g',cp β (lg fs++vs),cp β (lg cs))::s1.df}) ⟨rfl,aW _,fun _ _ _ h _=>h,fun i b' nC ho hs=>⟨b',nC,ho,rfl,rfl,rfl,fun _ h=>h⟩,MW,⟨[_],rfl⟩⟩ (Ext.put _ _ _)),hE _ _ (Only.refl _ _),AY.put dst .un⟩
   | _=>exact h.elim
  | _=>exact h.elim
 ·rename_i t n ps;obtain⟨l,hl,h1⟩:=bm h;clear h;obtain⟨ps⟩:=ps;refine lu hX h1 hR fun v w1 hr=>?_;rw[T1]at hr;exact B7 (hR.Q4 hl) hr
 ·obtain⟨u,hx,h⟩:=bm h;obtain⟨v,hy,h⟩:=bm h;exact vg hX h hR fun _ w1 hr=>D1 (hR.ev hx) (hR.ev hy) hr
 ·exact vg hX h hR fun _ w1 hr=>KI hr
 ·obtain⟨u,hx,h⟩:=bm h;exact vg hX h hR fun _ w1 hr=>GH (hR.ev hx) hr
 ·obtain⟨u,hx,h⟩:=bm h;obtain⟨v,hy,h⟩:=bm h;exact vg hX h hR fun _ w1 hr=>MM (hR.ev hx) (hR.ev hy) hr
 ·obtain⟨u,hx,h⟩:=bm h;obtain⟨v,hy,h⟩:=bm h;obtain⟨z,hz,h⟩:=bm h;exact Eu hX h hR fun w1 hr=>D2 (hR.ev hx) (hR.ev hy) (hR.ev hz) hr
 ·obtain⟨u,hx,h⟩:=bm h;obtain⟨v,hy,h⟩:=bm h;obtain⟨z,hz,h⟩:=bm h;exact Eu hX h hR fun w1 hr=>MN (hR.ev hx) (hR.ev hy) (hR.ev hz) hr
 ·obtain⟨u,hx,h⟩:=bm h;exact lu hX h hR fun _ w1 hr=>KJ (hR.ev hx) hr
 ·obtain⟨u,hx,h⟩:=bm h;obtain⟨s1,⟨q,h1⟩,e1,ig,hm,_⟩:=dK h hR;obtain⟨v,w',hr,cE,k1,k2,k3,k4⟩:=yg hX h1 hm ig;exact xj v (Ng (hR.ev hx) hr) rfl ⟨β,cE,k1,e1.trans k2,k3,k4⟩
 ·obtain⟨u,hx,h⟩:=bm h;obtain⟨s1,h1,e1,ig,hm,_⟩:=dK h hR;rcases h1 with h1 | h1
  ·obtain⟨v,w',hr,cE,k1,k2,k3,k4⟩:=yg hX h1 hm ig;exact xj v (IH (hR.ev hx) hr) rfl ⟨β,cE,k1,e1.trans k2,k3,k4⟩
  ·obtain⟨_,h1,_⟩:=wx h1;obtain⟨v,w',hr,cE,k1,k2,k3,k4⟩:=yg hX h1 hm ig;exact xj v (IH (hR.ev hx) hr) rfl ⟨β,cE,k1,e1.trans k2,k3,k4⟩
 ·obtain⟨u,hx,h⟩:=bm h;obtain⟨s1,h1,e1,ig,hm,_⟩:=dK h hR;obtain⟨_,h1,_⟩:=wx h1;obtain⟨v,w',hr,cE,k1,k2,k3,k4⟩:=yg hX h1 hm ig;exact xj v (Nh (hR.ev hx) hr) rfl ⟨β,cE,k1,e1.trans k2,k3,k4⟩
 ·exact h.elim
end
def nd(P:Program)(st:St)(o:Op):Bool:=match o with
 | .load _ x=>(match st.ev x with
  | some (.ad _)=>true
  | _=>false)
 | .convert s _ _=>(match P.underlying s with
  | some (.slice _)=>true
  | _=>false)
 | _=>false
def T3(b:Bool)(st:St)(K:St->Prop):Prop:=bif b&&st.mv then ez st K else K st
theorem wy{b:Bool}{st:St}{K:St->Prop}(h:T3 b st K){β:Nat->Nat}{a:Act}{w:av}(hR:Rep β st a w):∃cE,K cE/\Ext st cE/\Rep β cE a w/\cE.fr=st.fr/\cE.n=st.n:=by
 unfold T3 at h;rcases mO h with⟨_,h⟩ | ⟨_,h⟩
 ·obtain⟨s,h1,h2,h3,h4,h5,h6,_⟩:=dK h hR;exact⟨s,h1,h2,h3,h5,h6⟩
 ·exact⟨st,h,Ext.refl _,hR,rfl,rfl⟩
def Cz(P:Program):List Oper->Bool
 | []=>true
 | o::r=>jA P o.op&&Cz P r
def G4:List Oper->Bool
 | []=>false
 | o::r=>mem o.op||G4 r
def X0:XT:=fun _ _ p=>p
def Y0:YT:=fun _ p=>p
def Ev(P:Program)(st:St)(o:Oper)(K:St->Prop):Prop:=
 bif jA P o.op then T3 (nd P st o.op) st fun st=>Vy P [] st o.op fun v=>K (st.put o.dst v)else loud P X0 Y0 st o K
def xI(P:Program)(ops:List Oper):Nat->List Oper->St->(St->Prop)->Prop
 | 0,_,_,_=>False
 | _+1,[],st,K=>K st
 | f+1,o::rest,st,K=>match o.guard with
  | none=>Ev P st o fun st=>xI P ops f rest st K
  | some (j,want)=>(match VE st ops j with
   | some (_,.un)=>xI P ops f rest (st.put o.dst .un) K
   | some (_,.bl b)=>bif b==want then Ev P st o fun st=>xI P ops f rest st K else xI P ops f rest (st.put o.dst .un) K
   | some (d,.bt t)=>bif Cz P ((o::rest).take (xH ops j (o::rest)+1))
    then T3 (G4 ((o::rest).take (xH ops j (o::rest)+1))) st fun st=>wq P ops f [] ((o::rest).take (xH ops j (o::rest)+1)) st fun st=>xI P ops f ((o::rest).drop (xH ops j (o::rest)+1)) st K
    else((t=true->xI P ops f (o::rest) (st.put (some d) (.bl true)) K)/\(t=false->xI P ops f (o::rest) (st.put (some d) (.bl false)) K))
   | _=>False)
section
variable {P:Program} {ops:List Oper} {Q:Exit->Act->av->Prop}
theorem Ni{st:St}{o:Oper}{rest:List Oper}{K:St->Prop}{β:Nat->Nat}{a:Act}{w:av}(h:Ev P st o K)(hR:Rep β st a w)(hw:Region.wanted o (yielded ops.toArray a.tmps)=true)
  (hK:∀β' cE a' w',K cE->Ext st cE->Rep β' cE a' w'->wpList P ops.toArray Q rest a' w'):wpList P ops.toArray Q (o::rest) a w:=by
 unfold Ev at h;rcases mO h with⟨_,h⟩ | ⟨_,h⟩
 ·obtain⟨s,h1,h2,h3,h4,h5⟩:=wy h hR;obtain⟨v,hv,hy⟩:=GZ h1;exact GF _ hw (hy trivial β a w h3 _ _ _ _ _ w fun _=>rfl) rfl (hK β _ _ w hv (h2.trans (Ext.put _ _ _)) (h3.put o.dst v))
 ·refine Vl hw (Oper.wp_mono ?_ (Cy (E:=fun _ _=>True) (fun _ _ _ h=>⟨h,trivial⟩) (fun _ _ _=>trivial) (fun _ _ _ _ _ _ h _ _=>⟨h,trivial⟩) h hR));rintro a' w' ⟨β',cE,k1,k2,_,k4⟩;exact hK β' cE a' w' k1 k2 k4
theorem sU:∀{f:Nat} {l:List Oper} {st:St} {K:St->Prop},xI P ops f l st K->∀{β:Nat->Nat} {a:Act} {w:av},Rep β st a w->
  (∀β' cE a' w',K cE->Ext st cE->Rep β' cE a' w'->Q .normal a' w')->wpList P ops.toArray Q l a w
 | 0,_,_,_,h,_,_,_,_,_=>h.elim
 | _+1,[],st,K,h,β,a,w,hR,hK=>hK β st a w h (Ext.refl _) hR
 | f+1,o::rest,st,K,h,β,a,w,hR,hK=>by
  have no:xI P ops f rest (st.put o.dst .un) K->Region.wanted o (yielded ops.toArray a.tmps)=false->wpList P ops.toArray Q (o::rest) a w:=fun h hw=>
   TS hw rfl (sU h (hR.put o.dst .un) fun β' cE a' w' k1 k2 k3=>hK β' cE a' w' k1 ((Ext.put _ _ _).trans k2) k3)
  have Rb:(Ev P st o fun st=>xI P ops f rest st K)->Region.wanted o (yielded ops.toArray a.tmps)=true->wpList P ops.toArray Q (o::rest) a w:=fun h hw=>
   Ni h hR hw fun β' cE a' w' k1 k2 k3=>sU k1 k3 fun β2 xE a2 w2 m1 m2 m3=>hK β2 xE a2 w2 m1 (k2.trans m2) m3
  unfold xI at h;split at h
  ·rename_i hg;exact Rb h (wn hg)
  ·rename_i j want hg;split at h
   ·rename_i d ht;exact no h (wo hR hg ht)
   ·rename_i d b ht;have hw:=pL hR hg ht (b:=b) rfl;rcases mO h with⟨e,h⟩ | ⟨e,h⟩
    ·exact Rb h (hw.trans e)
    ·exact no h (hw.trans e)
   ·rename_i d t ht;obtain⟨oj,Gx,Q9,Ra⟩:=yT ht;rcases mO h with⟨_,h⟩ | ⟨_,h⟩
    ·generalize xH ops j (o::rest)+1=m at h;obtain⟨s,h1,h2,h3,h4,h5⟩:=wy h hR;obtain⟨s2,k1,k2,k3,k4⟩:=qA h1;obtain⟨a',g1,g2⟩:=k4 trivial β a w h3;have:=Co (Q:=Q) (rest:=(o::rest).drop m) g1 (sU k1 g2 fun β2 xE a2 w2 m1 m2 m3=>hK β2 xE a2 w2 m1 ((h2.trans k2).trans m2) m3);rwa[fg]at this
    ·cases t with
     | true=>exact sU (h.1 rfl) (hR.set Ra rfl) fun β' cE a' w' k1 k2 k3=>hK β' cE a' w' k1 ((Ext.put _ _ _).trans k2) k3
     | false=>exact sU (h.2 rfl) (hR.set Ra rfl) fun β' cE a' w' k1 k2 k3=>hK β' cE a' w' k1 ((Ext.put _ _ _).trans k2) k3
   ·exact h.elim
end
def JT:List Lf->Type
 | []=>av->Prop
 | l::r=>l.T->JT r
def Ew:(ls:List Lf)->JT ls->(List SV->av->Prop)->Prop
 | [],J,K=>∀w:av,J w->K [] w
 | l::r,J,K=>∀x:l.T,Ew r (J x) fun vs w=>K (l.sv x::vs) w
def unI(k:IntKind)(s:SV):Option Int:=match pK s with
 | some (k',n)=>bif decide (k'=k)then some n else none
 | none=>none
def unP(bl:Nat->Nat)(s:SV):Option (Option Addr):=match s with
 | .box i o=>some (some ⟨bl i,o,none⟩)
 | s=>opn s
def unM(s:SV):Option (Option Nat):=match s with
 | .map m=>some m
 | _=>none
def unR(bl:Nat->Nat)(s:SV):Option OV:=match s with
 | .raw v=>some v
 | .fn f fs cs=>some ⟨.func (.func f) (pA bl fs).toArray (pA bl cs).toArray,rfl⟩
 | _=>none
def un(bl:Nat->Nat):(l:Lf)->SV->Option l.T
 | .int k=>unI k
 | .bool=>yP
 | .str=>uw
 | .ptr=>unP bl
 | .sl=>Iv
 | .map=>unM
 | .raw=>unR bl
theorem Z9{bl:Nat->Nat}{l:Lf}{s:SV}{x:l.T}(h:un bl l s=some x)(β:Nat->Nat):val β (l.sv x)=val bl s:=by
 cases l with
 | int k=>
  have h:unI k s=some x:=h;unfold unI at h;split at h
  ·rename_i k' n ho;obtain⟨e,rfl⟩:=Cm h;have e:=aQ e;subst e;rw[di ho];rfl
  ·cases h
 | bool=>rw[lX h];rfl
 | str=>rw[ik h];rfl
 | ptr=>
  have h:unP bl s=some x:=h;unfold unP at h;split at h
  ·injection h with h;subst h;rfl
  ·rw[RH h];rfl
 | sl=>rw[jT h];rfl
 | map=>
  have h:unM s=some x:=h;unfold unM at h;split at h
  ·injection h with h;subst h;rfl
  ·cases h
 | raw=>
  have h:unR bl s=some x:=h;unfold unR at h;split at h
  ·injection h with h;subst h;rfl
  ·injection h with h;subst h;rfl
  ·cases h
def apJ:(ls:List Lf)->(Nat->Nat)->JT ls->List SV->av->Prop
 | [],_,J,[],w=>J w
 | l::r,bl,J,s::ss,w=>(match un bl l s with
  | some x=>apJ r bl (J x) ss w
  | none=>False)
 | _,_,_,_,_=>False
theorem Nj{bl:Nat->Nat}{w:av}:∀{ls:List Lf} {J:JT ls} {ss:List SV} {K:List SV->av->Prop},apJ ls bl J ss w->Ew ls J K->∃vs,K vs w/\vs.length=ls.length/\(∀β,cp β vs=cp bl ss)/\∀g,ij g vs=true
 | [],J,[],K,h,k=>⟨[],k w h,rfl,fun _=>rfl,fun _=>rfl⟩
 | l::r,J,s::ss,K,h,k=>by
  unfold apJ at h;split at h
  ·rename_i x hx;obtain⟨vs,h1,h2,h3,h4⟩:=Nj h (k x);refine⟨_,h1,by simp[h2],fun β=>?_,fun g=>by simp only[ij,Lf.cln,h4 g,cR]⟩;have:=h3 β;simp only[cp,bE]at this⊢;rw[this,Z9 hx]
  ·exact h.elim
 | [],_,_::_,_,h,_=>h.elim
 | _::_,_,[],_,h,_=>h.elim
inductive MI where
 | s (slot:Nat) (l:Lf)
 | a (slot:Nat) (ls:List Lf)
 | b (slot:Nat) (ls:List Lf)
def Gp:List MI->List Lf
 | []=>[]
 | .s _ l::r=>l::Gp r
 | .a _ ls::r=>ls++Gp r
 | .b _ ls::r=>ls++Gp r
def bxi(st:St)(i:Nat):Option Nat:=match st.get i with
 | some (.box j _)=>some j
 | _=>none
def pO(st s:St):List MI->Option (List SV)
 | []=>some []
 | .s i _::r=>(match s.get i,pO st s r with
  | some v,some l=>some (v::l)
  | _,_=>none)
 | .a i ls::r=>(match s.get i,pO st s r with
  | some (.agg l),some m=>bif AK l&&Nat.beq (lg l).length ls.length then some (lg l++m)else none
  | _,_=>none)
 | .b i ls::r=>(match bxi st i with
  | some j=>(match cM s.bx j,pO st s r with
   | some b,some m=>bif Nat.beq b.cells.length ls.length then some (b.cells++m)else none
   | _,_=>none)
  | none=>none)
def Gq(ct:Nat):List MI->List SV->List (Nat×Nat×SV)
 | .s i _::r,v::vs=>(i,ct,v)::Gq ct r vs
 | .a i ls::r,vs=>(i,ct,.agg (j5 (vs.take ls.length)))::Gq ct r (vs.drop ls.length)
 | .b _ ls::r,vs=>Gq ct r (vs.drop ls.length)
 | _,_=>[]
def G5(st:St):List MI->List SV->List iB->List iB
 | .s _ _::r,_::vs,bx=>G5 st r vs bx
 | .a _ ls::r,vs,bx=>G5 st r (vs.drop ls.length) bx
 | .b i ls::r,vs,bx=>(match bxi st i with
  | some j=>(match cM bx j with
   | some b=>G5 st r (vs.drop ls.length) (AN bx j {b with cells:=vs.take ls.length,stp:=st.ct})
   | none=>G5 st r (vs.drop ls.length) bx)
  | none=>G5 st r (vs.drop ls.length) bx)
 | _,_,bx=>bx
def T4:List MI->List Nat
 | []=>[]
 | .s i _::r=>i::T4 r
 | .a i _::r=>i::T4 r
 | .b _ _::r=>T4 r
def Nk(st:St):List MI->List Nat
 | []=>[]
 | .b i _::r=>(match bxi st i with
  | some j=>j::Nk st r
  | none=>Nk st r)
 | _::r=>Nk st r
def VJ(fr:List (Nat×Nat×SV)):List Nat->List (Nat×Nat×SV)
 | []=>[]
 | i::r=>match dH fr i with
  | some p=>(i,p)::VJ fr r
  | none=>VJ fr r
def lZ(st:St)(kp:List Nat)(ms:List MI)(vs:List SV)(w:av):St:=
 {n:=st.n,fr:=Gq st.ct ms vs++VJ st.fr kp,bx:=G5 st ms vs st.bx,w0:=w,mv:=false,dt:=[],ct:=st.ct+1,df:=st.df}
def RY(st s:St)(sl:List Nat):List Nat->Bool
 | []=>true
 | i::r=>(match dH st.fr i with
  | some (k,v)=>(match dH s.fr i with
   | some (k',_)=>Nat.beq k k'&&Nat.blt k st.ct&&!sl.elem i&&cln (Eo st.bx) v
   | none=>false)
  | none=>true)&&RY st s sl r
def KX(st:St)(Rc:List Nat):Nat->List iB->List iB->Bool
 | _,[],_=>true
 | i,b::r,c::q=>(!b.ok||(b.blk.isSome&&(Rc.elem i||(Nat.blt c.stp st.ct&&ij (Eo st.bx) b.cells))))&&KX st Rc (i+1) r q
 | _,_::_,[]=>false
def G6(st:St)(kp:List Nat)(ms:List MI)(J:JT (Gp ms))(s:St):Prop:=
 bif RY st s (T4 ms) kp&&KX st (Nk st ms) 0 st.bx s.bx&&Nat.beq s.df.length st.df.length then
  bR (pO st s ms) fun vs=>bif ij (Eo s.bx) vs then apJ (Gp ms) (En s.bx) J vs s.w0 else False
 else False
theorem sV:∀(l m:List (Nat×Nat×SV)) (i:Nat),dH (l++m) i=match dH l i with
  | some p=>some p
  | none=>dH m i
 | [],_,_=>rfl
 | (k,p)::r,m,i=>by
  simp only[cr,dH];cases Nat.beq k i with
  | true=>rfl
  | false=>exact sV r m i
theorem yh{fr:List (Nat×Nat×SV)}:∀{kp:List Nat} {i:Nat} {p:Nat×SV},dH (VJ fr kp) i=some p->i∈kp/\dH fr i=some p
 | j::r,i,p,h=>by
  unfold VJ at h;split at h
  ·rename_i q hq;simp only[dH]at h;cases hb:Nat.beq j i with
   | true=>
    rw[hb]at h;simp only[fI,aV]at h;subst h;have:=bM hb;subst this;exact⟨by simp,hq⟩
   | false=>
    rw[hb]at h;obtain⟨h1,h2⟩:=yh (by simpa using h);exact⟨by simp[h1],h2⟩
  ·obtain⟨h1,h2⟩:=yh h;exact⟨by simp[h1],h2⟩
theorem Ey{fr:List (Nat×Nat×SV)}{p:Nat×SV}:∀{kp:List Nat} {i:Nat},i∈kp->dH fr i=some p->dH (VJ fr kp) i=some p
 | j::r,i,hi,h=>by
  unfold VJ;cases hb:Nat.beq j i with
  | true=>
   have:=bM hb;subst this;rw[h];simp only[dH,Nat.beq_refl,fI]
  | false=>
   have xD:i∈r:=by
    rcases aY.1 hi with e | e
    ·subst e;simp at hb
    ·exact e
   have ih:=Ey (p:=p) xD h;split
   ·simp only[dH,hb,nU];exact ih
   ·exact ih
theorem sW{ct:Nat}:∀{ms:List MI} {vs:List SV} {i:Nat},(T4 ms).elem i=false->dH (Gq ct ms vs) i=none
 | [],vs,i,_=>by cases vs<;>rfl
 | .s j l::r,[],i,_=>rfl
 | .s j l::r,v::vs,i,h=>by
  simp only[T4,lM]at h;split at h
  ·cases h
  ·rename_i gC;simp only[Gq,dH];have:Nat.beq j i=false:=by
    cases hb:Nat.beq j i with
    | false=>rfl
    | true=>have:=bM hb;subst this;simp at gC
   rw[this,nU];exact sW h
 | .a j ls::r,vs,i,h=>by
  simp only[T4,lM]at h;split at h
  ·cases h
  ·rename_i gC;simp only[Gq,dH];have:Nat.beq j i=false:=by
    cases hb:Nat.beq j i with
    | false=>rfl
    | true=>have:=bM hb;subst this;simp at gC
   rw[this,nU];exact sW h
 | .b j ls::r,vs,i,h=>by
  simp only[Gq];exact sW h
theorem sX{ct:Nat}:∀{ms:List MI} {vs:List SV} {i:Nat} {p:Nat×SV},dH (Gq ct ms vs) i=some p->p.1=ct
 | [],vs,i,p,h=>by cases vs<;>cases h
 | .s j l::r,[],i,p,h=>by cases h
 | .s j l::r,v::vs,i,p,h=>by
  simp only[Gq,dH]at h;cases hb:Nat.beq j i with
  | true=>rw[hb]at h;simp only[fI,aV]at h;subst h;rfl
  | false=>rw[hb]at h;exact sX (by simpa using h)
 | .a j ls::r,vs,i,p,h=>by
  simp only[Gq,dH]at h;cases hb:Nat.beq j i with
  | true=>rw[hb]at h;simp only[fI,aV]at h;subst h;rfl
  | false=>rw[hb]at h;exact sX (by simpa using h)
 | .b j ls::r,vs,i,p,h=>by
  simp only[Gq]at h;exact sX h
theorem iP{st:St}:∀(ms:List MI) (vs:List SV) (bx:List iB) (i:Nat) (b:iB),cM bx i=some b->∃b',cM (G5 st ms vs bx) i=some b'/\b'.ty=b.ty/\b'.ok=b.ok/\b'.blk=b.blk/\((Nk st ms).elem i=false->b'=b)/\(b'=b∨b'.stp=st.ct)
 | [],vs,bx,i,b,h=>⟨b,by cases vs<;>exact h,rfl,rfl,rfl,fun _=>rfl,.inl rfl⟩
 | .s j l::r,[],bx,i,b,h=>⟨b,h,rfl,rfl,rfl,fun _=>rfl,.inl rfl⟩
 | .s j l::r,v::vs,bx,i,b,h=>iP r vs bx i b h
 | .a j ls::r,vs,bx,i,b,h=>iP r _ bx i b h
 | .b s ls::r,vs,bx,i,b,h=>by
  simp only[G5,Nk];cases hj:bxi st s with
  | none=>exact iP r _ bx i b h
  | some j=>
   dsimp only;cases hc:cM bx j with
   | none=>
    obtain⟨b',h1,h2,h3,h4,h5,h6⟩:=iP (st:=st) r (vs.drop ls.length) bx i b h;refine⟨b',h1,h2,h3,h4,fun he=>h5 ?_,h6⟩;simp only[lM]at he;split at he
    ·cases he
    ·exact he
   | some c=>
    dsimp only;by_cases Au:i=j
    ·subst Au;rw[hc]at h;injection h with h;subst h;obtain⟨b',h1,h2,h3,h4,h5,h6⟩:=iP (st:=st) r (vs.drop ls.length) (AN bx i {c with cells:=vs.take ls.length,stp:=st.ct}) i _ (by rw[jm hc,if_pos rfl]);refine⟨b',h1,h2,h3,h4,fun he=>?_,?_⟩
     ·simp at he
     ·rcases h6 with rfl | h6
      ·exact .inr rfl
      ·exact .inr h6
    ·obtain⟨b',h1,h2,h3,h4,h5,h6⟩:=iP (st:=st) r (vs.drop ls.length) (AN bx j {c with cells:=vs.take ls.length,stp:=st.ct}) i b (by rw[jm hc,if_neg Au];exact h);refine⟨b',h1,h2,h3,h4,fun he=>h5 ?_,h6⟩;simp only[lM]at he;split at he
     ·cases he
     ·exact he
theorem oa{st:St}:∀(ms:List MI) (vs:List SV) (bx:List iB) (i:Nat),cM bx i=none->cM (G5 st ms vs bx) i=none
 | [],vs,bx,i,h=>by cases vs<;>exact h
 | .s j l::r,[],bx,i,h=>h
 | .s j l::r,v::vs,bx,i,h=>oa r vs bx i h
 | .a j ls::r,vs,bx,i,h=>oa r _ bx i h
 | .b s ls::r,vs,bx,i,h=>by
  simp only[G5];cases hj:bxi st s with
  | none=>exact oa r _ bx i h
  | some j=>
   dsimp only;cases hc:cM bx j with
   | none=>exact oa r _ bx i h
   | some c=>
    dsimp only;refine oa r _ _ i ?_;rw[jm hc,if_neg]
    ·exact h
    ·rintro rfl;rw[h]at hc;cases hc
theorem Ext.PG{st:St}{kp:List Nat}{ms:List MI}{vs:List SV}{w:av}:Ext st (lZ st kp ms vs w):=by
 refine⟨rfl,iL _,fun i k v hl bQ=>?_,fun i b' hb ho hs=>?_,fun i b hb=>?_,DR⟩
 ·simp only[lZ]at hl;rw[sV]at hl;split at hl
  ·rename_i p hp;have:=sX hp;simp only[aV]at hl;subst hl;dsimp only at this;omega
  ·exact(yh hl).2
 ·simp only[lZ]at hb;cases hn:cM st.bx i with
  | none=>rw[oa _ _ _ _ hn]at hb;cases hb
  | some b=>
   obtain⟨b2,h1,h2,h3,h4,h5,h6⟩:=iP (st:=st) ms vs st.bx i b hn;rw[h1]at hb;injection hb with hb;subst hb;rcases h6 with rfl | h6
   ·exact⟨b2,rfl,ho,rfl,rfl,rfl,fun _ h=>h⟩
   ·omega
 ·obtain⟨b2,h1,h2,h3,h4,_⟩:=iP (st:=st) ms vs st.bx i b hb;exact⟨b2,h1,h2,h3,fun k hk=>by rw[h4];exact hk⟩
def rF(st:St)(kp:List Nat)(ms:List MI)(s:St):Prop:=Ext st s∨∃vs w,Ext (lZ st kp ms vs w) s
section
variable {st s:St} {kp:List Nat} {ms:List MI} {β:Nat->Nat} {a:Act} {w:av}
theorem rF.n(h:rF st kp ms s):s.n=st.n:=by
 rcases h with h | ⟨vs,w,h⟩
 ·exact h.n
 ·exact h.n
theorem rF.df(h:rF st kp ms s):∃l,s.df=l++st.df:=by
 rcases h with h | ⟨vs,w,h⟩
 ·exact h.df
 ·exact h.df
theorem rF.slot(h:rF st kp ms s){i k:Nat}{v v':SV}(hi:i∈kp)(h1:dH st.fr i=some (k,v))(h2:dH s.fr i=some (k,v'))(hk:k<st.ct)(hs:(T4 ms).elem i=false):v'=v:=by
 rcases h with h | ⟨vs,w,h⟩
 ·have:=h.fr i k v' h2 hk;rw[h1]at this;simpa using this.symm
 ·have:=h.fr i k v' h2 (Nat.lt_succ_of_lt hk);simp only[lZ]at this;rw[sV,sW hs]at this;dsimp only at this;rw[Ey hi h1]at this;simpa using this.symm
theorem rF.ps(h:rF st kp ms s){i:Nat}{b:iB}(hb:cM st.bx i=some b):∃c,cM s.bx i=some c/\c.ty=b.ty/\c.ok=b.ok/\∀k,b.blk=some k->c.blk=some k:=by
 rcases h with h | ⟨vs,w,h⟩
 ·exact h.ps i b hb
 ·obtain⟨b2,h1,h2,h3,h4,_⟩:=iP (st:=st) ms vs st.bx i b hb;obtain⟨c,k1,k2,k3,k4⟩:=h.ps i b2 h1;exact⟨c,k1,k2.trans h2,k3.trans h3,fun k hk=>k4 k (by rw[h4];exact hk)⟩
theorem rF.cells(h:rF st kp ms s){i:Nat}{b c:iB}(hb:cM st.bx i=some b)(hc:cM s.bx i=some c)(ho:b.ok=true)(hl:(Nk st ms).elem i=false)(hs:c.stp<st.ct):c.cells=b.cells:=by
 rcases h with h | ⟨vs,w,h⟩
 ·obtain⟨c',k1,k2,k3,k4⟩:=h.ps i b hb;rw[hc]at k1;injection k1 with k1;subst k1;obtain⟨b3,m1,m2,m3,_⟩:=h.bx i c hc (k3.trans ho) hs;rw[hb]at m1;injection m1 with m1;rw[m1,m3]
 ·obtain⟨b2,h1,h2,h3,h4,h5,_⟩:=iP (st:=st) ms vs st.bx i b hb;obtain⟨c',k1,k2,k3,k4⟩:=h.ps i b2 h1;rw[hc]at k1;injection k1 with k1;subst k1;obtain⟨b3,m1,m2,m3,m4,m5,m6⟩:=h.bx i c hc (k3.trans (h3.trans ho)) (Nat.lt_succ_of_lt hs);rw[show cM (lZ st kp ms vs w).bx i=cM (G5 st ms vs st.bx) i from rfl,h1]at m1;injection m1 with m1;subst m1;rw[<-m3,h5 hl]
theorem II{sl:List Nat}:∀{kp:List Nat},RY st s sl kp=true->∀i∈kp,∀k v,dH st.fr i=some (k,v)->∃v',dH s.fr i=some (k,v')/\k<st.ct/\sl.elem i=false/\cln (Eo st.bx) v=true
 | j::r,h,i,hi,k,v,hl=>by
  simp only[RY,aP]at h;rcases aY.1 hi with rfl | hi
  ·have h1:=h.1;rw[hl]at h1;dsimp only at h1;split at h1
   ·rename_i k' v' hs;simp only[aP,cx]at h1;have e:=bM h1.1.1.1;subst e;exact⟨v',hs,de h1.1.1.2,h1.1.2,h1.2⟩
   ·cases h1
  ·exact II h.2 i hi k v hl
theorem CA{Rc:List Nat}:∀{l m:List iB} {n:Nat},KX st Rc n l m=true->∀i b,cM l i=some b->b.ok=true->b.blk.isSome=true/\(Rc.elem (n+i)=true∨∃c,cM m i=some c/\c.stp<st.ct/\ij (Eo st.bx) b.cells=true)
 | b::r,[],n,h,_,_,_,_=>by simp[KX]at h
 | b::r,c::q,n,h,0,b',hb,ho=>by
  simp only[KX,aP,cq,cx]at h;simp only[cM,aV]at hb;subst hb;rcases h.1 with h1 | ⟨h1,h2⟩
  ·rw[ho]at h1;cases h1
  ·refine⟨h1,?_⟩;rcases h2 with h2 | h2
   ·exact .inl h2
   ·exact .inr ⟨c,rfl,de h2.1,h2.2⟩
 | b::r,c::q,n,h,i+1,b',hb,ho=>by
  simp only[KX,aP]at h;have:=CA h.2 i b' hb ho;rwa[show n+1+i=n+(i+1) by omega]at this
theorem Rep.at(hR:Rep β s a w){i:Nat}{v:SV}(h:s.get i=some v):i<s.n/\a.tmps[i]? =some (V.val β v):=by
 unfold St.get at h;cases hb:Nat.blt i s.n with
 | false=>rw[hb]at h;cases h
 | true=>
  rw[hb,fI]at h;cases hl:dH s.fr i with
  | none=>rw[hl]at h;cases h
  | some p=>
   rw[hl]at h;simp only[cV,aV]at h;subst h;exact⟨de hb,hR.ok.at_ i p hl (de hb)⟩
theorem rO{g:Nat->Bool}:∀{l m:List SV},ij g (l++m)=true->ij g l=true/\ij g m=true
 | [],m,h=>⟨rfl,h⟩
 | s::r,m,h=>by
  simp only[cr,ij,aP]at h⊢;obtain⟨h1,h2⟩:=rO h.2;exact⟨⟨h.1,h1⟩,h2⟩
theorem qE{γ b:Nat->Nat}{vs l m:List SV}{n:Nat}(hv:V.cp γ vs=V.cp b l++V.cp b m)(hl:l.length=n):V.cp γ (vs.take n)=V.cp b l/\V.cp γ (vs.drop n)=V.cp b m:=by
 have h1:(V.cp γ vs).take n=V.cp γ (vs.take n):=by simp[V.cp,qt]
 have h2:(V.cp γ vs).drop n=V.cp γ (vs.drop n):=by simp[V.cp,qu]
 have hn:(V.cp b l).length=n:=by rw[ff,hl]
 rw[<-h1,<-h2,hv,<-hn];exact⟨List.take_left,List.drop_left⟩
theorem CB(hR:Rep β s a w){ct:Nat}{γ:Nat->Nat}:∀{ms:List MI} {ss vs:List SV},pO st s ms=some ss->ij (Eo s.bx) ss=true->V.cp γ vs=V.cp (En s.bx) ss->∀i p,dH (Gq ct ms vs) i=some p->a.tmps[i]? =some (V.val γ p.2)
 | [],ss,vs,_,_,_,i,p,h=>by cases vs<;>cases h
 | .s j l::r,ss,[],_,_,_,i,p,h=>by cases h
 | .s j l::r,ss,v::vs,ha,hc,hv,i,p,h=>by
  simp only[pO]at ha;split at ha
  ·rename_i v0 l0 h1 h2;simp only[aV]at ha;subst ha;simp only[ij,aP]at hc;simp only[V.cp,bE,rB]at hv;simp only[Gq,dH]at h;cases hb:Nat.beq j i with
   | true=>
    rw[hb]at h;simp only[fI,aV]at h;subst h;have:=bM hb;subst this;rw[(hR.at h1).2,hv.1,hR.acn hc.1]
   | false=>
    rw[hb]at h;exact CB hR h2 hc.2 hv.2 i p (by simpa using h)
  ·cases ha
 | .a j ls::r,ss,vs,ha,hc,hv,i,p,h=>by
  simp only[pO]at ha;split at ha
  ·rename_i l0 m0 h1 h2;obtain⟨h3,rfl⟩:=Cm ha;simp only[aP]at h3;have ey:=bM h3.2;obtain⟨c1,c2⟩:=rO hc;rw[lw]at hv;obtain⟨e1,e2⟩:=qE hv ey;simp only[Gq,dH]at h;cases hb:Nat.beq j i with
   | true=>
    rw[hb]at h;simp only[fI,aV]at h;subst h;have:=bM hb;subst this;rw[(hR.at h1).2];show some (Value.agg (pA β l0).toArray)=some (Value.agg (pA γ (j5 _)).toArray);rw[qy,e1,mD β h3.1,hR.sF c1]
   | false=>
    rw[hb]at h;exact CB hR h2 c2 e2 i p (by simpa using h)
  ·cases ha
 | .b j ls::r,ss,vs,ha,hc,hv,i,p,h=>by
  simp only[pO]at ha;split at ha
  ·split at ha
   ·rename_i b m0 h1 h2;obtain⟨h3,rfl⟩:=Cm ha;have ey:=bM h3;obtain⟨c1,c2⟩:=rO hc;rw[lw]at hv;obtain⟨e1,e2⟩:=qE hv ey;simp only[Gq]at h;exact CB hR h2 c2 e2 i p h
   ·cases ha
  ·cases ha
theorem zj(hR:Rep β s a w){γ:Nat->Nat}(Gy:∀i b,cM st.bx i=some b->∃c,cM s.bx i=some c/\c.ty=b.ty/\c.ok=b.ok)(hγ:∀i b,cM st.bx i=some b->b.ok=true->γ i=β i):∀{ms:List MI} {ss vs:List SV} {bx:List iB},pO st s ms=some ss->ij (Eo s.bx) ss=true->V.cp γ vs=V.cp (En s.bx) ss->
  (∀j b',cM bx j=some b'->∃b,cM st.bx j=some b/\b'.ty=b.ty/\b'.ok=b.ok)->(∀j b',cM bx j=some b'->b'.ok=true->Blk w (γ j) b'.ty (V.cp γ b'.cells)∨(Nk st ms).elem j=true)->
  ∀j b',cM (G5 st ms vs bx) j=some b'->b'.ok=true->Blk w (γ j) b'.ty (V.cp γ b'.cells)
 | [],ss,vs,bx,_,_,_,_,hi,j,b',hb,ho=>by
  have:G5 st [] vs bx=bx:=by cases vs<;>rfl
  rw[this]at hb;rcases hi j b' hb ho with h | h
  ·exact h
  ·cases h
 | .s k l::r,ss,[],bx,ha,hc,hv,h0,hi,j,b',hb,ho=>by
  simp only[pO]at ha;split at ha
  ·simp only[aV]at ha;subst ha;simp[V.cp]at hv
  ·cases ha
 | .s k l::r,ss,v::vs,bx,ha,hc,hv,h0,hi,j,b',hb,ho=>by
  simp only[pO]at ha;split at ha
  ·rename_i v0 l0 h1 h2;simp only[aV]at ha;subst ha;simp only[ij,aP]at hc;simp only[V.cp,bE,rB]at hv;exact zj hR Gy hγ h2 hc.2 hv.2 h0 hi j b' hb ho
  ·cases ha
 | .a k ls::r,ss,vs,bx,ha,hc,hv,h0,hi,j,b',hb,ho=>by
  simp only[pO]at ha;split at ha
  ·rename_i l0 m0 h1 h2;obtain⟨h3,rfl⟩:=Cm ha;simp only[aP]at h3;have ey:=bM h3.2;obtain⟨c1,c2⟩:=rO hc;rw[lw]at hv;obtain⟨e1,e2⟩:=qE hv ey;exact zj hR Gy hγ h2 c2 e2 h0 hi j b' hb ho
  ·cases ha
 | .b k ls::r,ss,vs,bx,ha,hc,hv,h0,hi,j,b',hb,ho=>by
  simp only[pO]at ha;split at ha
  ·rename_i q hq;split at ha
   ·rename_i c m0 h1 h2;obtain⟨h3,rfl⟩:=Cm ha;have ey:=bM h3;obtain⟨c1,c2⟩:=rO hc;rw[lw]at hv;obtain⟨e1,e2⟩:=qE hv ey;simp only[G5,hq]at hb;cases hn:cM bx q with
    | none=>
     rw[hn]at hb;refine zj hR Gy hγ h2 c2 e2 h0 (fun i b LS ho5=>?_) j b' hb ho;rcases hi i b LS ho5 with h | h
     ·exact .inl h
     ·simp only[Nk,hq,lM]at h;split at h
      ·rename_i e;have e:i=q:=by simpa using e
       rw[e,hn]at LS;cases LS
      ·exact .inr h
    | some b=>
     rw[hn]at hb;obtain⟨bs,g1,g2,g3⟩:=h0 q b hn;refine zj hR Gy hγ h2 c2 e2 (fun i b2 wW=>?_) (fun i b2 wW Gz=>?_) j b' hb ho
     ·rw[jm hn]at wW;split at wW
      ·rename_i e;subst e;injection wW with wW;subst wW;exact⟨bs,g1,g2,g3⟩
      ·exact h0 i b2 wW
     ·rw[jm hn]at wW;split at wW
      ·rename_i e;subst e;injection wW with wW;subst wW;left;dsimp only at Gz⊢;have DV:bs.ok=true:=by rw[<-g3];exact Gz
       obtain⟨c',k1,k2,k3⟩:=Gy i bs g1;rw[h1]at k1;injection k1 with k1;subst k1;have hB:=(hR.bx i c h1 (k3.trans DV)).blk;rw[hγ i bs g1 DV,g2,<-k2,e1,hR.sF c1];exact hB
      ·rename_i gC;rcases hi i b2 wW Gz with h | h
       ·exact .inl h
       ·simp only[Nk,hq,lM]at h;split at h
        ·rename_i e;exact absurd (by simpa using e) gC
        ·exact .inr h
   ·cases ha
  ·cases ha
theorem rP{J:JT (Gp ms)}(h:G6 st kp ms J s)(hR:Rep β s a w)(hm:s.mv=false)(HV:rF st kp ms s){K:List SV->av->Prop}(hK:Ew (Gp ms) J K):
  ∃vs,K vs w/\Rep (En st.bx) (lZ st kp ms vs w) a w:=by
 unfold G6 at h;obtain⟨h0,h⟩:=dv h;obtain⟨ss,hss,h⟩:=bm h;obtain⟨hc,h⟩:=dv h;simp only[aP]at h0;obtain⟨h0,wi⟩:=h0;have PS:s.df=st.df:=by
  obtain⟨l,hl⟩:=HV.df;have:=bM wi;rw[hl,aN]at this;have:l=[]:=List.length_eq_zero_iff.1 (by omega);rw[hl,this,ci]
 have hw:=hR.still hm;rw[<-hw]at h;obtain⟨vs,k1,k2,k3,k4⟩:=Nj h hK;have Gy:∀i b,cM st.bx i=some b->∃c,cM s.bx i=some c/\c.ty=b.ty/\c.ok=b.ok:=fun i b hb=>by
  obtain⟨c,h1,h2,h3,_⟩:=HV.ps hb;exact⟨c,h1,h2,h3⟩
 have HU:∀i b,cM st.bx i=some b->b.ok=true->b.blk=some (β i):=fun i b hb ho=>by
  obtain⟨hs,_⟩:=CA h0.2 i b hb ho;obtain⟨c,h1,h2,h3,h4⟩:=HV.ps hb;cases hk:b.blk with
  | none=>rw[hk]at hs;cases hs
  | some k=>rw[(hR.bx i c h1 (h3.trans ho)).at_ k (h4 k hk)]
 have hγ:∀i b,cM st.bx i=some b->b.ok=true->En st.bx i=β i:=fun i b hb ho=>by
  unfold En;rw[hb];dsimp only;rw[HU i b hb ho];rfl
 have pj:∀i,Eo st.bx i=true->En st.bx i=β i:=fun i hi=>by
  unfold Eo at hi;cases hb:cM st.bx i with
  | none=>rw[hb]at hi;cases hi
  | some b=>
   rw[hb]at hi;simp only[aP]at hi;exact hγ i b hb hi.1
 have HW:∀i b',cM (G5 st ms vs st.bx) i=some b'->b'.ok=true->∃b,cM st.bx i=some b/\b.ok=true/\b'.blk=b.blk:=fun i b' hb ho=>by
  cases hn:cM st.bx i with
  | none=>rw[oa _ _ _ _ hn]at hb;cases hb
  | some b=>
   obtain⟨b2,h1,h2,h3,h4,_⟩:=iP (st:=st) ms vs st.bx i b hn;rw[h1]at hb;injection hb with hb;subst hb;exact⟨b,rfl,by rw[<-h3];exact ho,h4⟩
 refine⟨vs,k1,qz ⟨hR.ok.sz.trans HV.n,hR.ok.df.trans (bK QV PS),fun i p hl hi=>?_⟩,fun i b' hb ho=>?_,fun i j bi bj g1 g2 g3 g4 Au=>?_,Only.refl _ _,fun _=>rfl⟩
 ·simp only[lZ]at hl;rw[sV]at hl;split at hl
  ·rename_i q hq;simp only[aV]at hl;subst hl;exact CB hR hss hc (k3 _) i q hq
  ·obtain⟨m1,m2⟩:=yh hl;obtain⟨k,v⟩:=p;obtain⟨v',n1,n2,n3,n4⟩:=II h0.1 i m1 k v m2;have:=HV.slot m1 m2 n1 n2 n3;subst this;rw[hR.ok.at_ i _ n1 (by rw[HV.n];exact hi)];congr 1;exact(jw (g:=Eo st.bx) pj _ n4).symm
 ·have hB:=zj hR Gy hγ hss hc (k3 _) (bx:=st.bx) (fun j b hb=>⟨b,hb,rfl,rfl⟩) (fun j b hb ho=>by
   obtain⟨_,h1⟩:=CA h0.2 j b hb ho;rw[bD]at h1;rcases h1 with h1 | ⟨c,h1,h2,h3⟩
   ·exact .inr h1
   ·cases hl:(Nk st ms).elem j with
    | true=>exact .inr rfl
    | false=>
     left;have e:=HV.cells hb h1 ho hl h2;obtain⟨c',e1,e2,e3⟩:=Gy j b hb;rw[h1]at e1;injection e1 with e1;subst e1;have:=(hR.bx j c h1 (e3.trans ho)).blk;rw[hγ j b hb ho,<-e2,gQ (g:=Eo st.bx) pj _ h3,<-e];exact this) i b' hb ho
  obtain⟨b,g1,g2,g3⟩:=HW i b' hb ho;refine⟨hB,fun k hk=>?_,fun hk=>?_⟩
  ·rw[hγ i b g1 g2];rw[g3,HU i b g1 g2]at hk;simpa using hk
  ·rw[g3,HU i b g1 g2]at hk;cases hk
 ·obtain⟨b,e1,e2,_⟩:=HW i bi g1 g3;obtain⟨c,f1,f2,_⟩:=HW j bj g2 g4;obtain⟨b',p1,_,p3⟩:=Gy i b e1;obtain⟨c',q1,_,q3⟩:=Gy j c f1;rw[hγ i b e1 e2,hγ j c f1 f2];exact hR.ne i j b' c' p1 q1 (p3.trans e2) (q3.trans f2) Au
end
def bO(S:Nat->Prop)(w w':av):Prop:=∀k,S k->k<w.heap.size->w'.heap[k]? =w.heap[k]?
theorem bO.refl(S:Nat->Prop)(w:av):bO S w w:=fun _ _ _=>rfl
theorem bO.only{S:Nat->Prop}{w w':av}(h:Only [] w w'):bO S w w':=fun k _ hk=>h.block k hk (by simp)
def ux(S:Nat->Prop)(k:Nat):Prop:=¬S k
def EE(P:Program)(ops:List Oper)(mb ms:Bool)(S:Nat->Prop)(j:Nat)(w w':av):Prop:=match gH ops j with
 | some o=>bif jA P o.op then w'.heap=w.heap else bif mb&&(ms||!tJ o.op)then bO S w w' else True
 | none=>False
def XB(mb ms:Bool)(S:Nat->Prop)(o:Op):XT:=fun w0 w1 p=>bif mb&&(ms||!tJ o)then bO S w0 w1/\p else p
def YB(mb ms:Bool)(S:Nat->Prop):YT:=fun bk p=>bif mb&&ms then(match bk with
 | some k=>ux S k/\p
 | none=>False)else p
def qF(P:Program):Nat->List Oper->List Nat
 | _,[]=>[]
 | i,o::r=>bif jA P o.op then qF P (i+1) r else i::qF P (i+1) r
def T5(q:Nat)(seen:List Nat):List Edge->Bool
 | []=>false
 | e::r=>(Region.binds .any e&&(Nat.beq e.on q||seen.elem e.on))||T5 q seen r
def Nl(q:Nat):Nat->List Nat->List Oper->List Nat
 | _,seen,[]=>seen
 | i,seen,o::r=>bif T5 q seen o.after.toList then Nl q (i+1) (i::seen) r else Nl q (i+1) seen r
def Mi(bq:Array Bool):Nat->List Oper->List Nat
 | _,[]=>[]
 | i,_::r=>bif bq.getD i true then i::Mi bq (i+1) r else Mi bq (i+1) r
def KY(D N:List Nat):List Nat->List Nat
 | []=>[]
 | j::r=>bif D.elem j||N.elem j then KY D N r else j::KY D N r
def IJ(ops:List Oper):List Nat->Bool
 | []=>true
 | j::r=>(match gH ops j with
  | some o=>!tJ o.op
  | none=>false)&&IJ ops r
def Dq(ops:List Oper)(q:Nat):List Nat:=(Nl q 0 [] ops).reverse
def RZ(P:Program)(ops:List Oper)(bq:Array Bool)(q:Nat):List Nat:=KY (Dq ops q) (Mi bq 0 ops) (qF P 0 ops)
def R0{α:Type}:List α->Bool
 | []=>true
 | _=>false
def okT(ops:List Oper)(bq:Array Bool)(q:Nat):Bool:=
 Region.noSelect ops.toArray&&Region.free .any ops.toArray bq q&&uZ .any ops.toArray bq&&rH .any ops.toArray q [] (Dq ops q)&&(Mi bq 0 ops).all (fun k=>bq.getD k true)
def R4(st:St)(ops:List Oper)(o:Oper)(Rb no:St->Prop):Prop:=match o.guard with
 | none=>Rb st
 | some (j,want)=>(match VE st ops j with
  | some (_,.un)=>no st
  | some (_,.bl b)=>bif b==want then Rb st else no st
  | some (d,.bt t)=>((t=true->bif true==want then Rb (st.put (some d) (.bl true))else no (st.put (some d) (.bl true)))/\
   (t=false->bif false==want then Rb (st.put (some d) (.bl false))else no (st.put (some d) (.bl false))))
  | _=>False)
def ldB(P:Program)(S:Nat->Prop)(st:St)(t:TypeId)(a:SV)(K:SV->Prop):Prop:=match P.underlying t with
 | none=>False
 | some d=>(match a with
  | .box i o=>bR (cM st.bx i) fun b=>bif b.ok&&b.blk.isSome&&sz P t ((b.cells.drop o).take (tI P t)).length&&(mN d||Nat.beq ((b.cells.drop o).take (tI P t)).length 1)then S (b.blk.getD 0)/\K (MX (mN d) ((b.cells.drop o).take (tI P t)))else False
  | .ad p=>bif !st.mv&&sz P t (QW P 12 t).length&&(mN d||Nat.beq (QW P 12 t).length 1)then S p.block/\YK (QW P 12 t) fun vs=>Cells st.w0 p (cp β0 vs)/\K (MX (mN d) vs)else False
  | _=>False)
def cvB(P:Program)(S:Nat->Prop)(st:St)(s d:TypeId)(a:SV)(K:SV->Prop):Prop:=match P.underlying s,P.underlying d with
 | some (.slice e),some .string=>(match P.underlying e with
  | some (.int .u8)=>bR (Iv a) fun u=>bif st.mv then False else ∃l:List UInt8,(∀ad,u.a=some ad->S ad.block)/\qW st.w0 u l/\K (.str ⟨l.toArray⟩)
  | _=>False)
 | _,_=>False
def aab(P:Program):Op->Bool
 | .load _ _=>true
 | .convert s d _=>(match P.underlying s,P.underlying d with
  | some (.slice _),some .string=>true
  | _,_=>false)
 | _=>false
def cvI(P:Program):Op->Bool
 | .convert s d _=>(match P.underlying s,P.underlying d with
  | some (.int _),some (.int _)=>true
  | some .string,some .string=>true
  | _,_=>false)
 | _=>false
def cvZ(P:Program)(s d:TypeId)(a:SV)(K:SV->Prop):Prop:=match P.underlying s,P.underlying d with
 | some (.int _),some (.int kd)=>bR (pK a) fun p=>K (.int kd (kd.wrap p.2))
 | some .string,some .string=>bR (uw a) fun u=>K (.str u)
 | _,_=>False
def qP(P:Program)(ops:List Oper)(mb ms:Bool)(S:Nat->Prop)(bq:Array Bool)(q:Nat)(o:Oper)(st:St)(K:St->Prop):Prop:=
 bif jA P o.op then
  bif cvI P o.op then(match o.op with
   | .convert s d x=>bR (st.ev x) fun a=>cvZ P s d a fun v=>K (st.put o.dst v)
   | _=>False)
  else bif !mem o.op||R0 (RZ P ops bq q)then T3 (nd P st o.op) st fun st=>Vy P [] st o.op fun v=>K (st.put o.dst v)
  else bif mb&&(ms||IJ ops (RZ P ops bq q))then(match o.op with
   | .load t x=>T3 (nd P st o.op) st fun st=>bR (st.ev x) fun a=>ldB P S st t a fun v=>K (st.put o.dst v)
   | .convert s d x=>T3 (nd P st o.op) st fun st=>bR (st.ev x) fun a=>cvB P S st s d a fun v=>K (st.put o.dst v)
   | _=>False)else False
 else False
def fq(P:Program)(ops:List Oper):List Nat->Option Nat
 | []=>none
 | i::r=>match gH ops i with
  | some o=>bif jA P o.op then some i else fq P ops r
  | none=>none
def Ez(P:Program)(ops:List Oper)(mb ms:Bool)(S:Nat->Prop):Nat->Array Bool->St->(St->Prop)->Prop
 | 0,bq,st,K=>(match Region.ready .any ops.toArray bq with
  | []=>K st
  | _=>False)
 | g+1,bq,st,K=>(match Region.ready .any ops.toArray bq with
  | []=>K st
  | i::r=>(match fq P ops (i::r)with
   | some q=>bR (gH ops q) fun o=>bif okT ops bq q&&(i::r).contains q then
    R4 st ops o (fun st=>qP P ops mb ms S bq q o st fun st=>Ez P ops mb ms S g (bq.setIfInBounds q true) st K) (fun st=>Ez P ops mb ms S g (bq.setIfInBounds q true) (st.put o.dst .un) K)else False
   | none=>(match r with
    | []=>bR (gH ops i) fun o=>bif jA P o.op then False else
     R4 st ops o (fun st=>loud P (XB mb ms S o.op) (YB mb ms S) st o fun st=>Ez P ops mb ms S g (bq.setIfInBounds i true) st K) (fun st=>Ez P ops mb ms S g (bq.setIfInBounds i true) (st.put o.dst .un) K)
    | [j]=>bR (gH ops i) fun o=>bR (gH ops j) fun o'=>bif jA P o.op||jA P o'.op then False else
     R4 st ops o (fun st=>loud P (XB mb ms S o.op) (YB mb ms S) st o fun st=>Ez P ops mb ms S g (bq.setIfInBounds i true) st K) (fun st=>Ez P ops mb ms S g (bq.setIfInBounds i true) (st.put o.dst .un) K)/\
     R4 st ops o' (fun st=>loud P (XB mb ms S o'.op) (YB mb ms S) st o' fun st=>Ez P ops mb ms S g (bq.setIfInBounds j true) st K) (fun st=>Ez P ops mb ms S g (bq.setIfInBounds j true) (st.put o'.dst .un) K)
    | _=>False)))
def mbN(P:Program)(ops:List Oper):Nat->List Oper->Bool
 | _,[]=>false
 | i,o::r=>(bif aab P o.op then(qF P 0 ops).any fun j=>!(Dq ops i).elem j&&!(Dq ops j).elem i
  else false)||mbN P ops (i+1) r
def VK(P:Program)(ops:List Oper):Nat->List Oper->Bool
 | _,[]=>false
 | i,o::r=>(bif aab P o.op then(qF P 0 ops).any fun j=>!(Dq ops i).elem j&&!(Dq ops j).elem i&&(match gH ops j with
   | some o'=>tJ o'.op
   | none=>false)
  else false)||VK P ops (i+1) r
section
variable {P:Program} {ops:List Oper} {mb ms:Bool} {S:Nat->Prop} {β:Nat->Nat} {a:Act} {w:av}
theorem zl{st:St}{o:Oper}{Rb no:St->Prop}(h:R4 st ops o Rb no)(hR:Rep β st a w):
  ∃s,Ext st s/\Rep β s a w/\((Region.wanted o (yielded ops.toArray a.tmps)=true/\Rb s)∨(Region.wanted o (yielded ops.toArray a.tmps)=false/\no s)):=by
 unfold R4 at h;split at h
 ·rename_i hg;exact⟨st,Ext.refl _,hR,.inl ⟨wn hg,h⟩⟩
 ·rename_i j want hg;split at h
  ·rename_i d ht;exact⟨st,Ext.refl _,hR,.inr ⟨wo hR hg ht,h⟩⟩
  ·rename_i d b ht;have hw:=pL hR hg ht (b:=b) rfl;rcases mO h with⟨e,h⟩ | ⟨e,h⟩
   ·exact⟨st,Ext.refl _,hR,.inl ⟨hw.trans e,h⟩⟩
   ·exact⟨st,Ext.refl _,hR,.inr ⟨hw.trans e,h⟩⟩
  ·rename_i d t ht;obtain⟨oj,Gx,Q9,Ra⟩:=yT ht;have hw:=pL hR hg ht (b:=t) rfl;cases t with
   | true=>
    refine⟨_,Ext.put _ (some d) (.bl true),hR.set Ra rfl,?_⟩;rcases mO (h.1 rfl)with⟨e,h⟩ | ⟨e,h⟩
    ·exact .inl ⟨hw.trans e,h⟩
    ·exact .inr ⟨hw.trans e,h⟩
   | false=>
    refine⟨_,Ext.put _ (some d) (.bl false),hR.set Ra rfl,?_⟩;rcases mO (h.2 rfl)with⟨e,h⟩ | ⟨e,h⟩
    ·exact .inl ⟨hw.trans e,h⟩
    ·exact .inr ⟨hw.trans e,h⟩
  ·exact h.elim
theorem G7{st:St}{d:TypeDesc}{t:TypeId}{x:Operand}{l:List SV}{ad:Addr}{w':av}(hu:P.underlying t=some d)(hsz:sz P t l.length=true)(lN:mN d=true∨Nat.beq l.length 1=true)
  (Ks:a.eval x=.pointer (some ad)) (hC:Cells w' ad (cp β l)) (dst:Option Tmp) (t':TypeId) (p:String) (af:Array Edge) (g:Option (Nat×Bool)):
  (execOp a.eval ⟨dst,.load t x,t',p,af,g⟩).run P w'=.ok (.value (val β (MX (mN d) l))) w':=by
 rcases lN with re | lN
 ·rw[oI re];have:=kI (P:=P) hu w';rw[re]at this;exact sR this (oZ hsz w') (ff β l) Ks hC
 ·cases re:mN d with
  | true=>
   have e:=oI re β l;rw[re]at e;rw[e];have:=kI (P:=P) hu w';rw[re]at this;exact sR this (oZ hsz w') (ff β l) Ks hC
  | false=>
   obtain⟨s,rfl⟩:=yS lN;have:=kI (P:=P) hu w';rw[re]at this;exact B6 this Ks (Cells.one hC)
theorem uy:∀{l:List Oper} {i j:Nat} {o:Oper},gH l j=some o->jA P o.op=false->i+j∈qF P i l
 | [],_,_,_,h,_=>by cases h
 | c::r,i,0,o,h,hp=>by
  simp only[gH,aV]at h;subst h;simp[qF,hp]
 | c::r,i,j+1,o,h,hp=>by
  have:=uy (l:=r) (i:=i+1) (j:=j) h hp;rw[show i+1+j=i+(j+1) by omega]at this;simp only[qF];cases jA P c.op with
  | true=>exact this
  | false=>exact dc _ this
theorem vh{D N:List Nat}:∀{l:List Nat} {j:Nat},j∈l->j∉D->j∉N->j∈KY D N l
 | c::r,j,h,h1,h2=>by
  simp only[KY];rcases aY.1 h with rfl | h
  ·have e1:D.elem j=false:=by simpa using h1
   have e2:N.elem j=false:=by simpa using h2
   rw[e1,e2];simp
  ·cases(D.elem c||N.elem c)with
   | true=>exact vh h h1 h2
   | false=>exact dc _ (vh h h1 h2)
theorem EA:∀{l:List Nat} {j:Nat} {o:Oper},IJ ops l=true->j∈l->gH ops j=some o->tJ o.op=false
 | [],j,o,_,hj,_=>by cases hj
 | c::r,j,o,h,hj,ho=>by
  simp only[IJ,aP]at h;rcases aY.1 hj with hc | hj
  ·have h1:=h.1;rw[<-hc,ho]at h1;cases he:tJ o.op with
   | false=>rfl
   | true=>dsimp only at h1;rw[he]at h1;cases h1
  ·exact EA h.2 hj ho
def Sta(P:Program)(ops:List Oper)(mb ms:Bool)(S:Nat->Prop)(D N:List Nat)(F:av->Prop):Prop:=∀j w w',j∉D->j∉N->F w->EE P ops mb ms S j w w'->F w'
theorem T6{bq:Array Bool}{q:Nat}{o:Oper}{st:St}{K:St->Prop}(h:qP P ops mb ms S bq q o st K)(hR:Rep β st a w):
  ∃(v:aw) (s':St) (F:av->Prop),K s'/\Ext st s'/\Rep β s' (a.put o.dst v) w/\F w/\Sta P ops mb ms S (Dq ops q) (Mi bq 0 ops) F/\jA P o.op=true/\∀w',F w'->(execOp a.eval o).run P w'=.ok (.value v) w':=by
 unfold qP at h;rcases mO h with⟨hp,h⟩ | ⟨_,h⟩
 case inr=>exact h.elim
 rcases mO h with⟨_,h⟩ | ⟨_,h⟩
 ·obtain⟨dst,op,t',p,af,g⟩:=o;cases op with
  | convert s d x=>
   dsimp only at h;obtain⟨ax,hx,h1⟩:=bm h;unfold cvZ at h1;split at h1
   ·rename_i ks kd h2 h3;obtain⟨⟨k,n⟩,W1,h1⟩:=bm h1;exact⟨_,_,fun _=>True,h1,Ext.put _ _ _,hR.put _ _,trivial,fun _ _ _ _ _ _ _=>trivial,hp,fun w' _=>A8 (run_underlying h2 w') (run_underlying h3 w') ((hR.ev hx).trans (di W1 β))⟩
   ·rename_i h2 h3;obtain⟨u,W1,h1⟩:=bm h1;exact⟨_,_,fun _=>True,h1,Ext.put _ _ _,hR.put _ _,trivial,fun _ _ _ _ _ _ _=>trivial,hp,fun w' _=>A9 (run_underlying h2 w') (run_underlying h3 w') ((hR.ev hx).trans (ik W1 β))⟩
   ·exact h1.elim
  | _=>exact h.elim
 rcases mO h with⟨hb,h⟩ | ⟨hb,h⟩
 ·obtain⟨s1,h1,e1,ig,_⟩:=wy h hR;obtain⟨v,hv,hy⟩:=GZ h1;have hy:=hy trivial β a w ig;obtain⟨dst,op,t',p,af,g⟩:=o;cases hm:mem op with
  | false=>
   exact⟨val β v,_,fun _=>True,hv,e1.trans (Ext.put _ _ _),ig.put _ v,trivial,fun _ _ _ _ _ _ _=>trivial,hp,fun w' _=>hy _ _ _ _ _ w' fun e=>by rw[hm]at e;cases e⟩
  | true=>
   have hn:R0 (RZ P ops bq q)=true:=by simpa[hm]using hb
   refine⟨val β v,_,fun w'=>w'.heap=w.heap,hv,e1.trans (Ext.put _ _ _),ig.put _ v,rfl,fun j w1 w2 hD hN hF hE=>?_,hp,fun w' hF=>hy _ _ _ _ _ w' fun _=>hF⟩;unfold EE at hE;split at hE
   ·rename_i oj hj;rcases mO hE with⟨_,e⟩ | ⟨e,_⟩
    ·exact e.trans hF
    ·have:=vh (by have:=uy (i:=0) hj e;rwa[bD]at this) hD hN;unfold RZ at hn;revert hn this;generalize KY (Dq ops q) (Mi bq 0 ops) (qF P 0 ops)=m;intro hn this;cases m with
     | nil=>cases this
     | cons=>cases hn
   ·exact hE.elim
 ·obtain⟨h0,h⟩:=dv h;simp only[aP]at h0;obtain⟨dst,op,t',p,af,g⟩:=o;have lj:∀F:av->Prop,∀k:Nat,S k->(∀w1 w2:av,F w1->w2.heap[k]? =w1.heap[k]? ->F w2)->(∀w1,F w1->k<w1.heap.size)->Sta P ops mb ms S (Dq ops q) (Mi bq 0 ops) F:=by
   intro F k hk Mq hF2 j w1 w2 hD hN hF hE;unfold EE at hE;split at hE
   ·rename_i oj hj;rcases mO hE with⟨_,e⟩ | ⟨e,hE⟩
    ·exact Mq w1 w2 hF (by rw[e])
    ·have:=vh (by have:=uy (i:=0) hj e;rwa[bD]at this) hD hN;have hs:(ms||!tJ oj.op)=true:=by
      rcases cq _ _▸h0.2 with h2 | h2
      ·rw[h2];rfl
      ·rw[EA h2 this hj,A7,mA]
     rw[h0.1,hs]at hE;exact Mq w1 w2 hF (hE k hk (hF2 _ hF))
   ·exact hE.elim
  cases op with
  | load t x=>
   dsimp only at h;obtain⟨s1,h1,e1,ig,_⟩:=wy h hR;obtain⟨ax,hx,h1⟩:=bm h1;unfold ldB at h1;split at h1
   ·exact h1.elim
   ·rename_i d hu;split at h1
    ·rename_i i off;obtain⟨b,xP,h1⟩:=bm h1;obtain⟨hc,hS,hK⟩:=dv h1;simp only[aP,cq]at hc;obtain⟨⟨⟨tU,Mp⟩,hsz⟩,lN⟩:=hc;have hBO:=ig.bx i b xP tU;have hB:=hBO.blk;have hbe:b.blk.getD 0=β i:=by
      cases hk:b.blk with
      | none=>rw[hk]at Mp;cases Mp
      | some k=>rw[hBO.at_ k hk];rfl
     rw[hbe]at hS;have Ks:=ig.ev hx;refine⟨_,_,fun w'=>Blk w' (β i) b.ty (cp β b.cells),hK,e1.trans (Ext.put _ _ _),ig.put _ _,hB,lj _ (β i) hS (fun w1 w2 hF e=>by unfold Blk at hF⊢;rw[e];exact hF) (fun w1 hF=>hF.lt),hp,fun w' hF=>?_⟩;generalize hl:(b.cells.drop off).take (tI P t)=l at*
     have hC:Cells w' ⟨β i,off,none⟩ (cp β l):=hF.Dt off _ (by
      rw[ff,<-hl];simp only[cp,qt,qu];rw[cP,pH];simp only[bX,bZ];omega)
     exact G7 (st:=st) hu hsz lN Ks hC _ _ _ _ _
    ·rename_i ad;obtain⟨hc,hS,h2⟩:=dv h1;simp only[aP,cq,cx]at hc;obtain⟨⟨rq,hsz⟩,lN⟩:=hc;obtain⟨vs,⟨hF,hK⟩,ey,pj⟩:=yO h2;have hw:=ig.still rq;rw[<-hw]at hF;have hv:∀w',Cells w' ad (cp β0 vs)->Cells w' ad (cp β vs):=fun w' h=>by
      rw[gQ (β:=β) (β':=β0) (g:=fun _=>false) (fun i h=>(by cases h)) vs (pj _)];exact h
     rw[<-ey]at hsz lN;by_cases acI:cp β0 vs=[]
     ·refine⟨_,_,fun _=>True,hK,e1.trans (Ext.put _ _ _),ig.put _ _,trivial,fun _ _ _ _ _ _ _=>trivial,hp,fun w' _=>?_⟩;exact G7 (st:=st) hu hsz lN (ig.ev hx) (hv w' (by rw[acI];intro j v hj;simp at hj)) _ _ _ _ _
     ·refine⟨_,_,fun w'=>Cells w' ad (cp β0 vs),hK,e1.trans (Ext.put _ _ _),ig.put _ _,hF,lj _ ad.block hS (fun w1 w2 hF e=>hF.keep e) (fun w1 hF=>hF.lt' acI),hp,fun w' hF=>?_⟩;exact G7 (st:=st) hu hsz lN (ig.ev hx) (hv w' hF) _ _ _ _ _
    ·exact h1.elim
  | convert s d x=>
   dsimp only at h;obtain⟨s1,h1,e1,ig,_⟩:=wy h hR;obtain⟨ax,hx,h1⟩:=bm h1;unfold cvB at h1;split at h1
   ·rename_i e hu1 W2;split at h1
    ·rename_i hu3;obtain⟨u,W1,h1⟩:=bm h1;cases hm:s1.mv with
     | true=>rw[hm]at h1;exact h1.elim
     | false=>
      rw[hm]at h1;obtain⟨l,hS,hF,hK⟩:=h1;have hw:=ig.still hm;rw[<-hw]at hF;refine⟨_,_,fun w'=>qW w' u l,hK,e1.trans (Ext.put _ _ _),ig.put _ _,hF,?_,hp,fun w' hF'=>yI hu1 hu3 W2 ((ig.ev hx).trans (jT W1 β)) hF'⟩;by_cases hl:l=[]
      ·subst hl;exact fun j w1 w2 _ _ Mq _=>⟨Mq.1,fun hh=>absurd rfl hh⟩
      ·obtain⟨ad,ha,_⟩:=hF.2 hl;refine lj _ ad.block (hS ad ha) (fun w1 w2 Mq e=>⟨Mq.1,fun hh=>?_⟩) (fun w1 Mq=>?_)
       ·obtain⟨F3,F5,hC⟩:=Mq.2 hh;rw[ha]at F5;injection F5 with F5;subst F5;exact⟨ad,ha,hC.keep e⟩
       ·obtain⟨F3,F5,hC⟩:=Mq.2 hl;rw[ha]at F5;injection F5 with F5;subst F5;exact hC.lt' (by cases l with
         | nil=>exact absurd rfl hl
         | cons c l=>simp)
    ·exact h1.elim
   ·exact h1.elim
  | _=>exact h.elim
theorem qG{j:Nat}{o:Oper}(hj:gH ops j=some o)(w:av):EE P ops mb ms S j w w:=by
 unfold EE;rw[hj];dsimp only;cases jA P o.op with
 | true=>rfl
 | false=>
  cases(mb&&(ms||!tJ o.op))with
  | true=>exact bO.refl _ _
  | false=>exact trivial
theorem EB{Q:Exit->Act->av->Prop}{j:Nat}{o:Oper}{st:St}{K:St->Prop}(hj:gH ops j=some o)(hp:jA P o.op=false)(h:loud P (XB mb ms S o.op) (YB mb ms S) st o K)(hR:Rep β st a w):o.wp P a w (T2 (EE P ops mb ms S j) st K w) Q:=by
 have Y3:EE P ops mb ms S j=fun w w'=>bif mb&&(ms||!tJ o.op)then bO S w w' else True:=by
  funext w w';unfold EE;rw[hj];dsimp only;rw[hp];rfl
 refine Cy (fun w0 w1 p hx=>?_) (fun w w1 hO=>?_) (fun hs bk k w w1 p hy hk hO=>?_) h hR
 ·rw[Y3];unfold XB at hx;dsimp only;cases hb:(mb&&(ms||!tJ o.op))with
  | true=>rw[hb]at hx;exact⟨hx.2,hx.1⟩
  | false=>rw[hb]at hx;exact⟨hx,trivial⟩
 ·rw[Y3];dsimp only;cases(mb&&(ms||!tJ o.op))with
  | true=>exact bO.only hO
  | false=>exact trivial
 ·rw[Y3];dsimp only;rw[hs,Bool.not_true,Bool.or_false];unfold YB at hy;cases hb:(mb&&ms)with
  | true=>
   rw[hb]at hy;cases bk with
   | none=>exact hy.elim
   | some j=>
    refine⟨hy.2,fun q hq bQ=>hO.block q bQ ?_⟩;have:=hk j rfl;subst this;simp only[aO];rintro rfl;exact hy.1 hq
  | false=>rw[hb]at hy;exact⟨hy,trivial⟩
theorem rQ{Q:Exit->Act->av->Prop}(hQ:∀c a w,¬Q (.panic c) a w):∀{g:Nat} {bq:Array Bool} {st:St} {K:St->Prop} {β:Nat->Nat} {a:Act} {w:av},Ez P ops mb ms S g bq st K->Rep β st a w->
  (∀β' cE a' w',K cE->Ext st cE->Rep β' cE a' w'->Q .normal a' w')->fu P .any ops.toArray Q (EE P ops mb ms S) g bq a w
 | 0,bq,st,K,β,a,w,h,hR,hK=>by
  unfold Ez at h;split at h
  ·rename_i hr;exact⟨hr,hK β st a w h (Ext.refl _) hR⟩
  ·exact h.elim
 | g+1,bq,st,K,β,a,w,h,hR,hK=>by
  have L:∀{j:Nat} {o:Oper},gH ops j=some o->jA P o.op=false->
    R4 st ops o (fun st=>loud P (XB mb ms S o.op) (YB mb ms S) st o fun st=>Ez P ops mb ms S g (bq.setIfInBounds j true) st K) (fun st=>Ez P ops mb ms S g (bq.setIfInBounds j true) (st.put o.dst .un) K)->
    if Region.wanted o (yielded ops.toArray a.tmps)then o.wp P a w (fun a' w'=>EE P ops mb ms S j w w'/\fu P .any ops.toArray Q (EE P ops mb ms S) g (bq.setIfInBounds j true) a' w') Q∨(o.asks P a w/\LetsOut Q)
    else(fun a' w'=>EE P ops mb ms S j w w'/\fu P .any ops.toArray Q (EE P ops mb ms S) g (bq.setIfInBounds j true) a' w') (a.put o.dst undef) w:=by
   intro j o ho hp h;obtain⟨s,e1,ig,h1⟩:=zl h hR;rcases h1 with⟨hw,h1⟩ | ⟨hw,h1⟩
   ·rw[if_pos hw];refine .inl (Oper.wp_mono ?_ (EB ho hp h1 ig));rintro a' w' ⟨β',cE,k1,k2,k3,k4⟩;exact⟨k3,rQ hQ k1 k4 fun β2 xE a2 w2 m1 m2 m3=>hK β2 xE a2 w2 m1 ((e1.trans k2).trans m2) m3⟩
   ·rw[if_neg (by simp[hw])];exact⟨qG ho w,rQ hQ h1 (ig.put o.dst .un) fun β2 xE a2 w2 m1 m2 m3=>hK β2 xE a2 w2 m1 ((e1.trans (Ext.put _ _ _)).trans m2) m3⟩
  unfold Ez at h;split at h
  ·rename_i hr;exact Vo hr (hK β st a w h (Ext.refl _) hR)
  ·rename_i i r hr;split at h
   ·rename_i q hq;obtain⟨o,ho,h⟩:=bm h;obtain⟨hc,h⟩:=dv h;simp only[aP,okT]at hc;obtain⟨⟨⟨⟨⟨c1,c2⟩,c3⟩,c4⟩,c5⟩,c6⟩:=hc;obtain⟨s,e1,ig,h1⟩:=zl h hR;rcases h1 with⟨hw,h1⟩ | ⟨hw,h1⟩
    ·obtain⟨v,s2,F,k1,k2,k3,k4,k5,k6,k7⟩:=T6 h1 ig;have hE:∀w1,F w1->EE P ops mb ms S q w1 w1:=fun w1 _=>qG ho w1;exact GU q (Dq ops q) (Mi bq 0 ops) v F ho c1 c2 (by rw[hr];exact c6) c3 c4 c5 (fun c a w hp=>(hQ _ _ _ hp).elim) k5 hE k4 (TT hw k7) rfl
      (rQ hQ k1 k3 fun β2 xE a2 w2 m1 m2 m3=>hK β2 xE a2 w2 m1 ((e1.trans k2).trans m2) m3)
    ·exact GU q (Dq ops q) (Mi bq 0 ops) undef (fun _=>True) ho c1 c2 (by rw[hr];exact c6) c3 c4 c5 (fun c a w hp=>(hQ _ _ _ hp).elim) (fun _ _ _ _ _ _ _=>trivial) (fun w1 _=>qG ho w1) trivial (Vp hw) rfl
      (rQ hQ h1 (ig.put o.dst .un) fun β2 xE a2 w2 m1 m2 m3=>hK β2 xE a2 w2 m1 ((e1.trans (Ext.put _ _ _)).trans m2) m3)
   ·split at h
    ·obtain⟨o,ho,h⟩:=bm h;rcases mO h with⟨_,h⟩ | ⟨hp,h⟩
     ·exact h.elim
     obtain⟨s,e1,ig,h1⟩:=zl h hR;rcases h1 with⟨hw,h1⟩ | ⟨hw,h1⟩
     ·refine ZQ i ho hr hw (Oper.wp_mono ?_ (EB ho hp h1 ig));rintro a' w' ⟨β',cE,k1,k2,k3,k4⟩;exact⟨k3,rQ hQ k1 k4 fun β2 xE a2 w2 m1 m2 m3=>hK β2 xE a2 w2 m1 ((e1.trans k2).trans m2) m3⟩
     ·exact RE i ho hr hw (qG ho w) rfl (rQ hQ h1 (ig.put o.dst .un) fun β2 xE a2 w2 m1 m2 m3=>hK β2 xE a2 w2 m1 ((e1.trans (Ext.put _ _ _)).trans m2) m3)
    ·rename_i j _;obtain⟨o,ho,h⟩:=bm h;obtain⟨o',Mr,h⟩:=bm h;rcases mO h with⟨_,h⟩ | ⟨hp,h⟩
     ·exact h.elim
     simp only[eK]at hp;exact ZR i j ho Mr hr (L ho hp.1 h.1) (L Mr hp.2 h.2)
    ·exact h.elim
end
def nu(ws w w':av):Prop:=w.heap.size<=w'.heap.size/\∀k,ws.heap.size<=k->k<w.heap.size->w'.heap[k]? =w.heap[k]?
def zm(mk:List (Nat×Nat))(b:Nat):Prop:=∀p∈mk,b<p.1∨p.2<=b
theorem nu.only{bs:List Nat}{ws w w':av}(h:Only bs w w')(hb:∀b∈bs,b<ws.heap.size∨w.heap.size<=b):nu ws w w':=
 ⟨h.size,fun k h1 h2=>h.block k h2 fun hk=>by rcases hb k hk with h | h<;>omega⟩
theorem nu.Km{ws w w':av}(h:Only [] w w'):nu ws w w':=nu.only h (by simp)
theorem zm.one{m n b:Nat}{r:List (Nat×Nat)}(h:zm ((m,n)::r) b):b<m∨n<=b:=h _ dN
structure LZ where
 z:Nat
 d:Nat
 t:TypeId
 zs:List SV
def uz(P:Program)(z:Nat)(o:Oper):Option LZ:=match o.op,o.dst,o.guard with
 | .alloc t,some d,none=>(match zc P t with
  | some zs=>bif R0 o.after.toList&&ij (fun _=>false) zs then some ⟨z,d,t,zs⟩else none
  | none=>none)
 | _,_,_=>none
def kq(P:Program):Nat->List Oper->List LZ
 | _,[]=>[]
 | i,o::r=>match uz P i o with
  | some p=>p::kq P (i+1) r
  | none=>kq P (i+1) r
def nI:List LZ->List Nat
 | []=>[]
 | p::r=>p.z::nI r
def VL:List LZ->List Nat
 | []=>[]
 | p::r=>p.d::VL r
def EC(z d:Nat):Nat->List Oper->Bool
 | _,[]=>true
 | i,o::r=>(Nat.beq i z||(match o.dst with
  | some e=>!Nat.beq e d
  | none=>true))&&EC z d (i+1) r
def YN(ops:List Oper):List LZ->Bool
 | []=>true
 | p::r=>EC p.z p.d 0 ops&&YN ops r
theorem Nn{α:Type}:∀{l:List α},R0 l=true->l=[]
 | [],_=>rfl
theorem ma{P:Program}{z:Nat}{o:Oper}{p:LZ}(h:uz P z o=some p):p.z=z/\o.op=.alloc p.t/\o.dst=some p.d/\o.guard=none/\o.after.toList=[]/\zc P p.t=some p.zs/\ij (fun _=>false) p.zs=true:=by
 unfold uz at h;split at h
 ·rename_i t d h1 h2 h3;split at h
  ·rename_i zs hz;obtain⟨h4,rfl⟩:=Cm h;simp only[aP]at h4;exact⟨rfl,h1,h2,h3,Nn h4.1,hz,h4.2⟩
  ·cases h
 ·cases h
theorem nJ{Z:List LZ}{z:Nat}:z∈nI Z↔∃p∈Z,p.z=z:=by
 induction Z with
 | nil=>simp[nI]
 | cons p r ih=>simp only[nI,aY,ih,exists_eq_or_imp,eq_comm (a:=z)]
theorem zn{P:Program}:∀{l:List Oper} {i:Nat} {p:LZ},p∈kq P i l->∃j o,p.z=i+j/\gH l j=some o/\uz P p.z o=some p
 | [],i,p,h=>by cases h
 | o::r,i,p,h=>by
  have tl:p∈kq P (i+1) r->∃j o',p.z=i+j/\gH (o::r) j=some o'/\uz P p.z o'=some p:=fun h=>by
   obtain⟨j,o',h1,h2,h3⟩:=zn h;exact⟨j+1,o',by omega,h2,h3⟩
  unfold kq at h;split at h
  ·rename_i q hq;rcases aY.1 h with rfl | h
   ·have:=(ma hq).1;exact⟨0,o,this,rfl,by rw[this];exact hq⟩
   ·exact tl h
  ·exact tl h
theorem zo{P:Program}:∀{l:List Oper} {i:Nat},(nI (kq P i l)).Nodup
 | [],i=>by simp[kq,nI]
 | o::r,i=>by
  unfold kq;split
  ·rename_i q hq;have e:=(ma hq).1;simp only[nI,List.nodup_cons];refine⟨fun hm=>?_,zo⟩;obtain⟨p,h1,h2⟩:=nJ.1 hm;obtain⟨j,_,h3,_⟩:=zn h1;omega
  ·exact zo
theorem Np{z d:Nat}:∀{l:List Oper} {i j:Nat} {o:Oper},EC z d i l=true->gH l j=some o->i+j≠z->o.dst≠some d:=by
 intro l
 induction l with
 | nil=>intro i j o _ h;cases h
 | cons c r ih=>
  intro i j o h hj hz;simp only[EC,aP,cq]at h;cases j with
  | zero=>
   simp only[gH,aV]at hj;subst hj;intro e;rcases h.1 with h1 | h1
   ·exact hz (bM h1)
   ·rw[e]at h1;simp at h1
  | succ j=>exact ih (i:=i+1) (j:=j) h.2 hj (by omega)
theorem Nq{ops:List Oper}:∀{Z:List LZ},YN ops Z=true->∀p∈Z,EC p.z p.d 0 ops=true
 | q::r,h,p,hp=>by
  simp only[YN,aP]at h;rcases aY.1 hp with rfl | hp
  ·exact h.1
  ·exact Nq h.2 p hp
def eI(l:Array Bool):List Nat->Array Bool
 | []=>l
 | z::r=>eI (l.setIfInBounds z true) r
theorem ED(l:Array Bool)(i j:Nat):(l.setIfInBounds i true).setIfInBounds j true=(l.setIfInBounds j true).setIfInBounds i true:=by
 by_cases h:i=j
 ·subst h;rfl
 ·exact Array.setIfInBounds_comm _ _ h
theorem ob:∀{D:List Nat} {l:Array Bool} {z:Nat},eI (l.setIfInBounds z true) D=(eI l D).setIfInBounds z true
 | [],_,_=>rfl
 | d::r,l,z=>by
  simp only[eI];rw[ED,ob]
theorem EF{D E:List Nat}(h:D.Perm E):∀l,eI l D=eI l E:=by
 induction h with
 | nil=>intro l;rfl
 | cons x _ ih=>intro l;exact ih _
 | swap x y r=>intro l;simp only[eI];rw[ED]
 | trans _ _ h1 h2=>intro l;exact(h1 l).trans (h2 l)
theorem pQ:∀{D:List Nat} {l:Array Bool} {k:Nat},(eI l D).getD k false=true↔l.getD k false=true∨(k∈D/\k<l.size)
 | [],l,k=>by simp[eI]
 | d::r,l,k=>by
  simp only[eI];rw[pQ];by_cases h:d=k
  ·subst h;by_cases hs:d<l.size
   ·simp[hs]
   ·simp[hs]
  ·simp[pz h,Ne.symm h]
theorem od:∀{D:List Nat} {l:Array Bool} {k:Nat},(eI l D).getD k true=true↔l.getD k true=true∨k∈D
 | [],l,k=>by simp[eI]
 | d::r,l,k=>by
  simp only[eI];rw[od];by_cases h:d=k
  ·subst h;by_cases hs:d<l.size
   ·simp[hs]
   ·simp[hs]
  ·simp[pz h,Ne.symm h]
def AO(Zi:List Nat):List Nat->List Nat
 | []=>[]
 | j::r=>bif Zi.elem j then AO Zi r else j::AO Zi r
theorem pR{Zi:List Nat}:∀{l:List Nat} {j:Nat},j∈AO Zi l↔j∈l/\j∉Zi
 | [],j=>by simp[AO]
 | c::r,j=>by
  simp only[AO];cases h:Zi.elem c with
  | true=>
   simp only[fI,pR,aY];have h:c∈Zi:=by simpa using h
   exact⟨fun k=>⟨.inr k.1,k.2⟩,fun k=>⟨k.1.resolve_left (fun e=>k.2 (e▸h)),k.2⟩⟩
  | false=>
   have h:c∉Zi:=by simpa using h
   simp only[nU,aY,pR];exact⟨fun k=>k.elim (fun e=>⟨.inl e,e▸h⟩) fun k=>⟨.inr k.1,k.2⟩,fun k=>k.1.imp id fun k'=>⟨k',k.2⟩⟩
def IK(Zi R:List Nat):List Nat->Bool
 | []=>true
 | j::r=>(R.elem j&&!Zi.elem j)&&IK Zi R r
theorem EG{Zi R:List Nat}:∀{l:List Nat},IK Zi R l=true->∀j∈l,j∈R/\j∉Zi
 | c::r,h,j,hj=>by
  simp only[IK,aP,cx]at h;rcases aY.1 hj with rfl | hj
  ·exact⟨by simpa using h.1.1,by simpa using h.1.2⟩
  ·exact EG h.2 j hj
def vi(l:Array Bool):List Nat->Bool
 | []=>true
 | z::r=>!l.getD z true&&vi l r
theorem xp{l:Array Bool}:∀{Zi:List Nat},vi l Zi=true->∀z∈Zi,l.getD z true=false
 | c::r,h,z,hz=>by
  simp only[vi,aP,cx]at h;rcases aY.1 hz with rfl | hz
  ·exact h.1
  ·exact xp h.2 z hz
def VM(ops:List Oper)(Zi:List Nat)(l:Array Bool):Bool:=IK Zi (Region.ready .any ops.toArray l) (Region.ready .any ops.toArray (eI l Zi))
def IL(z:Nat):List Nat->Bool
 | []=>true
 | j::r=>Nat.beq j z&&IL z r
theorem EH{z:Nat}:∀{l:List Nat},IL z l=true->∀j∈l,j=z
 | c::r,h,j,hj=>by
  simp only[IL,aP]at h;rcases aY.1 hj with rfl | hj
  ·exact bM h.1
  ·exact EH h.2 j hj
def R5(ops:List Oper)(l:Array Bool)(Zi:List Nat):List Nat->Bool
 | []=>true
 | z::r=>IL z (Region.ready .any ops.toArray (eI l (Zi.erase z)))&&R5 ops l Zi r
theorem IM{ops:List Oper}{l:Array Bool}{Zi:List Nat}:∀{r:List Nat},R5 ops l Zi r=true->∀z∈r,∀j∈Region.ready .any ops.toArray (eI l (Zi.erase z)),j=z
 | c::r,h,z,hz=>by
  simp only[R5,aP]at h;rcases aY.1 hz with rfl | hz
  ·exact EH h.1
  ·exact IM h.2 z hz
section
variable {md:Region.Mode} {ops:Array Oper}
theorem wz{l:Array Bool}{D E:List Nat}(hs:∀x∈D,x∈E){j:Nat}(h:j∈Region.ready md ops (eI l D))(hj:j∉E):j∈Region.ready md ops (eI l E):=by
 rw[mem_ready]at h⊢;obtain⟨h0,o,ho,fy⟩:=h;refine⟨?_,o,ho,fun e he hb=>?_⟩
 ·rw[gr]at h0⊢;intro h1;rcases od.1 h1 with h1 | h1
  ·exact h0 (od.2 (.inl h1))
  ·exact hj h1
 ·rcases pQ.1 (fy e he hb)with h1 | h1
  ·exact pQ.2 (.inl h1)
  ·exact pQ.2 (.inr ⟨hs _ h1.1,h1.2⟩)
theorem AP{l:Array Bool}(h:qv md ops l){D:List Nat}(hD:∀z∈D,∀o,ops[z]? =some o->o.after.toList=[]):qv md ops (eI l D):=by
 intro k o hk hl e he hb;rcases pQ.1 hl with h1 | h1
 ·exact pQ.2 (.inl (h k o hk h1 e he hb))
 ·have:=hD k h1.1 o hk;rw[Array.mem_def,this]at he;cases he
end
theorem VN{P:Program}{o:Oper}{a:Act}{w:av}{K:Act->av->Prop}{Q:Exit->Act->av->Prop}(hh:o.wp P a w K Q):
  o.wp P a w (fun a' w'=>K a' w'/\∀i,o.dst≠some i->a'.tmps[i]? =a.tmps[i]?) Q:=by
 unfold Oper.wp at*
 generalize (execOp a.eval o).run P w=r at*
 cases r with
 | ok n w'=>
  cases n<;>simp only[Oper.upon]at hh⊢
  case value v=>exact⟨hh,(kj _ _ _).2.2⟩
  case skip=>exact⟨hh,(kj _ _ _).2.2⟩
  case defer d=>exact⟨hh,(kj _ _ _).2.2⟩
  case enter f args=>
   refine Calls.mono hh (fun e rn he=>?_);cases e with
   | returned v=>exact⟨he,(kj _ _ _).2.2⟩
   | _=>exact he
  case row n args=>exact Rows.mono hh (fun v rn he=>⟨he,(kj _ _ _).2.2⟩)
  all_goals exact hh
 | halt x w'=>cases x<;>simp only[Oper.upon]at hh⊢ <;>exact hh
structure Late (Z:List LZ) (ws:av) (bz:Nat->Nat) (D:List Nat) (mk:List (Nat×Nat)) (a:Act) (w:av):Prop where
 at_:∀p∈Z,p.z∈D->a.tmps[p.d]? =some (.pointer (some ⟨bz p.z,0,none⟩))/\Blk w (bz p.z) p.t (cp β0 p.zs)/\ws.heap.size<=bz p.z/\zm mk (bz p.z)
 sub:∀z∈D,z∈nI Z
 ne:∀z∈D,∀z'∈D,z≠z'->bz z≠bz z'
 top:∀p∈mk,p.2<=w.heap.size
 le:ws.heap.size<=w.heap.size
section
variable {Z:List LZ} {ws:av} {bz:Nat->Nat} {D:List Nat} {mk:List (Nat×Nat)} {a a':Act} {w w1:av}
theorem Late.act(h:Late Z ws bz D mk a w)(ha:∀p∈Z,a'.tmps[p.d]? =a.tmps[p.d]?):Late Z ws bz D mk a' w:=
 ⟨fun p hp hd=>by rw[ha p hp];exact h.at_ p hp hd,h.sub,h.ne,h.top,h.le⟩
theorem Late.loud(h:Late Z ws bz D mk a w)(hN:nu ws w w1)(ha:∀p∈Z,a'.tmps[p.d]? =a.tmps[p.d]?):Late Z ws bz D ((w.heap.size,w1.heap.size)::mk) a' w1:=by
 refine⟨fun p hp hd=>?_,h.sub,h.ne,fun p hp=>?_,bh h.le hN.1⟩
 ·obtain⟨h1,h2,h3,h4⟩:=h.at_ p hp hd;have h5:=h2.lt;refine⟨by rw[ha p hp];exact h1,?_,h3,fun q hq=>?_⟩
  ·unfold Blk at h2⊢;rw[hN.2 _ h3 h5];exact h2
  ·rcases aY.1 hq with rfl | hq
   ·exact .inl h5
   ·exact h4 q hq
 ·rcases aY.1 hp with rfl | hp
  ·exact aW _
  ·exact bh (h.top p hp) hN.1
theorem Late.alloc(h:Late Z ws bz D mk a w)(hu:∀p∈Z,∀q∈Z,p.z=q.z->p=q)(hd:∀p∈Z,∀q∈Z,p.z≠q.z->p.d≠q.d){p:LZ}(hp:p∈Z)(hn:p.z∉D){b:Nat}(hb:w.heap.size<=b)(hO:Only [] w w1)(hB:Blk w1 b p.t (cp β0 p.zs))(hs:p.d<a.tmps.size):
  Late Z ws (fun z=>if z=p.z then b else bz z) (p.z::D) mk (a.put (some p.d) (.pointer (some ⟨b,0,none⟩))) w1:=by
 refine⟨fun q hq hqd=>?_,fun z hz=>?_,fun z hz z' W3 gC=>?_,fun q hq=>bh (h.top q hq) hO.size,bh h.le hO.size⟩
 ·by_cases e:q.z=p.z
  ·have:=hu q hq p hp e;subst this;rw[if_pos rfl];refine⟨by simp[Act.put,hs],hB,bh h.le hb,fun x hx=>.inr (bh (h.top x hx) hb)⟩
  ·rw[if_neg e];obtain⟨h1,h2,h3,h4⟩:=h.at_ q hq (by
    rcases aY.1 hqd with k | k
    ·exact absurd k e
    ·exact k)
   refine⟨?_,hO.blk h2 (by simp),h3,h4⟩;rw[(kj a (some p.d) _).2.2 q.d (by
    intro k;injection k with k;exact hd p hp q hq (Ne.symm e) k)]
   exact h1
 ·rcases aY.1 hz with rfl | hz
  ·exact nJ.2 ⟨p,hp,rfl⟩
  ·exact h.sub z hz
 ·have Kq:∀z∈D,bz z<w.heap.size:=fun z hz=>by
   obtain⟨q,hq,rfl⟩:=nJ.1 (h.sub z hz);exact(h.at_ q hq hz).2.1.lt
  show(if z=p.z then b else bz z)≠(if z'=p.z then b else bz z');rcases aY.1 hz with rfl | hz<;>rcases aY.1 W3 with rfl | W3
  ·exact absurd rfl gC
  ·rw[if_pos rfl,if_neg (Ne.symm gC)];have:=Kq _ W3;omega
  ·rw[if_neg gC,if_pos rfl];have:=Kq _ hz;omega
  ·rw[if_neg (fun e=>hn (by rw[<-e];exact hz)),if_neg (fun e=>hn (by rw[<-e];exact W3))];exact h.ne _ hz _ W3 gC
end
def YF:YT:=fun _ _=>False
def XL(mb ms:Bool)(S:Nat->Prop)(ws:av)(o:Op):XT:=fun w0 w1 p=>nu ws w0 w1/\XB mb ms S o w0 w1 p
def IP(st:St):List LZ->Bool
 | []=>true
 | p::r=>(dH st.fr p.d).isNone&&Nat.blt p.d st.n&&IP st r
theorem EI{st:St}:∀{Z:List LZ},IP st Z=true->∀p∈Z,dH st.fr p.d=none/\p.d<st.n
 | q::r,h,p,hp=>by
  simp only[IP,aP,Option.isNone_iff_eq_none]at h;rcases aY.1 hp with rfl | hp
  ·exact⟨h.1.1,de h.1.2⟩
  ·exact EI h.2 p hp
def St.vT(st:St):St:={st with mv:=true}
def eqA:List Bool->List Bool->Bool
 | [],[]=>true
 | a::r,b::s=>(a==b)&&eqA r s
 | _,_=>false
theorem Nr:∀{l m:List Bool},eqA l m=true->l=m
 | [],[],_=>rfl
 | a::r,b::s,h=>by
  simp only[eqA,aP,dz]at h;rw[h.1,Nr h.2]
def lL(P:Program)(ops:List Oper)(mb ms:Bool)(S:Nat->Prop)(ws:av)(mk:List (Nat×Nat))(st:St)(o:Oper)(D:List (Nat×Nat)->St->Prop):Prop:=
 bif jA P o.op then False else R4 st ops o (fun st=>ez st fun st=>loud P (XL mb ms S ws o.op) YF st o fun s=>bif s.mv then False else D ((st.w0.heap.size,s.w0.heap.size)::mk) s.vT) (fun st=>D mk (St.vT (st.put o.dst .un)))
def fqG(P:Program)(ops:List Oper)(Zi:List Nat)(bq:Array Bool):List Nat->Option Nat
 | []=>none
 | i::r=>(match gH ops i with
  | some o=>bif jA P o.op&&VM ops Zi (bq.setIfInBounds i true)then some i else fqG P ops Zi bq r
  | none=>fqG P ops Zi bq r)
def fqZ(P:Program)(ops:List Oper)(Zi:List Nat)(bq:Array Bool)(l:List Nat):Option Nat:=
 match fqG P ops Zi bq l with
 | some q=>some q
 | none=>fq P ops l
def KZ(P:Program)(ops:List Oper)(mb ms:Bool)(S:Nat->Prop)(ws:av)(Z:List LZ)(wX:Array Bool)(gm:Nat)(K:List (Nat×Nat)->St->Prop):Nat->Array Bool->List (Nat×Nat)->St->Prop
 | 0,_,_,_=>False
 | g+1,bq,mk,st=>bif vi bq (nI Z)&&IP st Z then(match AO (nI Z) (Region.ready .any ops.toArray bq)with
  | []=>bif R5 ops bq (nI Z) (nI Z)&&eqA bq.toList wX.toList&&Nat.beq (g+1) gm&&Nat.ble (nI Z).length (g+1)then K mk st else False
  | i::r=>bif VM ops (nI Z) bq&&Nat.ble (nI Z).length g then(match fqZ P ops (nI Z) bq (i::r)with
   | some q=>bR (gH ops q) fun o=>bif okT ops bq q&&(i::r).contains q then
    R4 st ops o (fun st=>qP P ops mb ms S bq q o st.vT fun st=>KZ P ops mb ms S ws Z wX gm K g (bq.setIfInBounds q true) mk st.vT) (fun st=>KZ P ops mb ms S ws Z wX gm K g (bq.setIfInBounds q true) mk (St.vT (st.put o.dst .un)))else False
   | none=>(match r with
    | []=>bR (gH ops i) fun o=>lL P ops mb ms S ws mk st o fun mk st=>KZ P ops mb ms S ws Z wX gm K g (bq.setIfInBounds i true) mk st
    | [j]=>bR (gH ops i) fun o=>bR (gH ops j) fun o'=>
     lL P ops mb ms S ws mk st o (fun mk st=>KZ P ops mb ms S ws Z wX gm K g (bq.setIfInBounds i true) mk st)/\
     lL P ops mb ms S ws mk st o' (fun mk st=>KZ P ops mb ms S ws Z wX gm K g (bq.setIfInBounds j true) mk st)
    | [j,k]=>bR (gH ops i) fun o=>bR (gH ops j) fun o'=>bR (gH ops k) fun o''=>
     lL P ops mb ms S ws mk st o (fun mk st=>KZ P ops mb ms S ws Z wX gm K g (bq.setIfInBounds i true) mk st)/\
     lL P ops mb ms S ws mk st o' (fun mk st=>KZ P ops mb ms S ws Z wX gm K g (bq.setIfInBounds j true) mk st)/\
     lL P ops mb ms S ws mk st o'' (fun mk st=>KZ P ops mb ms S ws Z wX gm K g (bq.setIfInBounds k true) mk st)
    | _=>False))else False)else False
section
variable {P:Program} {ops:List Oper} {mb ms:Bool} {S:Nat->Prop} {β:Nat->Nat} {a:Act} {w:av} {ws:av} {Z:List LZ} {wX:Array Bool} {gm:Nat}
theorem Rep.late{st:St}(hR:Rep β st a w)(hm:st.mv=true){d:Nat}{v:aw}(hd:dH st.fr d=none){w1:av}(hO:Only [] w w1):Rep β st (a.put (some d) v) w1:=by
 obtain⟨p1,p2,p3⟩:=kj a (some d) v;refine⟨qz ⟨p1.trans hR.ok.sz,p2.trans hR.ok.df,fun i p hl hi=>?_⟩,fun i b hb ho=>?_,hR.ne,hR.only.cd hO,fun h=>by rw[hm]at h;cases h⟩
 ·rw[p3 i (by rintro e;injection e with e;subst e;rw[hd]at hl;cases hl)];exact hR.ok.at_ i p hl hi
 ·obtain⟨k1,k2,k3⟩:=hR.bx i b hb ho;exact⟨hO.blk k1 (by simp),k2,k3⟩
theorem Rep.vT{st:St}(hR:Rep β st a w):Rep β st.vT a w:=⟨hR.fr,hR.bx,hR.ne,hR.only,fun h=>by cases h⟩
theorem Ext.vT(st:St):Ext st st.vT:=⟨rfl,aW _,fun _ _ _ h _=>h,fun i b h ho _=>⟨b,h,ho,rfl,rfl,rfl,fun _ h=>h⟩,MW,DR⟩
theorem aac{Q:Exit->Act->av->Prop}{j:Nat}{o:Oper}{st:St}{mk:List (Nat×Nat)}{D:List (Nat×Nat)->St->Prop}(hj:gH ops j=some o)(h:lL P ops mb ms S ws mk st o D)(hR:Rep β st a w):
  wpOp P ops.toArray Q j (fun a' w'=>EE P ops mb ms S j w w'/\(∀i,o.dst≠some i->a'.tmps[i]? =a.tmps[i]?)/\∃β' cE mk',D mk' cE/\Ext st cE/\cE.mv=true/\Rep β' cE a' w'/\((mk'=mk/\w'=w)∨(mk'=(w.heap.size,w'.heap.size)::mk/\nu ws w w'))) a w:=by
 unfold lL at h;rcases mO h with⟨_,h⟩ | ⟨hp,h⟩
 ·exact h.elim
 have Q7:ops.toArray[j]? =some o:=by rw[jI]at hj;simpa using hj
 unfold wpOp;simp only[Q7];obtain⟨s,e1,ig,h1⟩:=zl h hR;rcases h1 with⟨hw,h1⟩ | ⟨hw,h1⟩
 ·rw[if_pos hw];left;obtain⟨s1,h2,e2,UU,tF,_⟩:=dK h1 ig;have Y3:EE P ops mb ms S j=fun w w'=>bif mb&&(ms||!tJ o.op)then bO S w w' else True:=by
   funext w w';unfold EE;rw[hj];dsimp only;rw[hp];rfl
  have:=VN (Cy (E:=fun w w'=>EE P ops mb ms S j w w'/\nu ws w w') (Q:=Q) (fun w0 w1 p hx=>?_) (fun w w1 hO=>?_) (fun hs bk k w w1 p hy hk hO=>hy.elim) h2 UU)
  ·refine Oper.wp_mono ?_ this;rintro a' w' ⟨⟨β',cE,k1,k2,k3,k4⟩,k5⟩;rcases mO k1 with⟨_,k1⟩ | ⟨km,k1⟩
   ·exact k1.elim
   refine⟨k3.1,k5,β',cE.vT,_,k1,((e1.trans e2).trans k2).trans (Ext.vT _),rfl,k4.vT,.inr ⟨?_,k3.2⟩⟩;rw[<-k4.still km,<-UU.still tF]
  ·rw[Y3];obtain⟨hN,hx⟩:=hx;unfold XB at hx;dsimp only;cases hb:(mb&&(ms||!tJ o.op))with
   | true=>rw[hb]at hx;exact⟨hx.2,hx.1,hN⟩
   | false=>rw[hb]at hx;exact⟨hx,trivial,hN⟩
  ·rw[Y3];dsimp only;refine⟨?_,nu.Km hO⟩;cases(mb&&(ms||!tJ o.op))with
   | true=>exact bO.only hO
   | false=>exact trivial
 ·rw[if_neg (by rw[hw];exact Bool.false_ne_true)];exact⟨qG hj w,(kj _ _ _).2.2,β,_,mk,h1,(e1.trans (Ext.put _ _ _)).trans (Ext.vT _),rfl,(ig.put o.dst .un).vT,.inl ⟨rfl,trivial⟩⟩
theorem Ns{Q:Exit->Act->av->Prop}(hQ:∀c a w,¬Q (.panic c) a w)(hZ:∀p∈Z,∃o,gH ops p.z=some o/\uz P p.z o=some p)(hzo:YN ops Z=true)(hnd:(nI Z).Nodup){s0:St}{K:List (Nat×Nat)->St->Prop}
  (hK:∀mk st β a w bz D m,K mk st->Ext s0 st->Rep β st a w->Late Z ws bz D mk a w->D.Perm (nI Z)->m+D.length=gm->fu P .any ops.toArray Q (EE P ops mb ms S) m (eI wX D) a w):
  ∀(m g:Nat) {bq:Array Bool} {mk:List (Nat×Nat)} {st:St} {β:Nat->Nat} {a:Act} {w:av} {bz:Nat->Nat} {D Pd:List Nat},KZ P ops mb ms S ws Z wX gm K g bq mk st->Ext s0 st->st.mv=true->Rep β st a w->Late Z ws bz D mk a w->(D++Pd).Perm (nI Z)->m+D.length=g->
   fu P .any ops.toArray Q (EE P ops mb ms S) m (eI bq D) a w:=by
 intro m;have hu:∀p∈Z,∀q∈Z,p.z=q.z->p=q:=fun p hp q hq e=>by
  obtain⟨o,h1,h2⟩:=hZ p hp;obtain⟨o',h3,h4⟩:=hZ q hq;rw[e,h3]at h1;injection h1 with h1;subst h1;rw[e,h4]at h2;injection h2 with h2;exact h2.symm
 have hdo:∀p∈Z,∀j o,gH ops j=some o->j≠p.z->o.dst≠some p.d:=fun p hp j o hj gC=>Np (Nq hzo p hp) hj (by rw[bD];exact gC);have PT:∀p∈Z,∀q∈Z,p.z≠q.z->p.d≠q.d:=fun p hp q hq gC e=>by
  obtain⟨o',h3,h4⟩:=hZ q hq;exact hdo p hp q.z o' h3 (Ne.symm gC) (by rw[(ma h4).2.2.1,e])
 induction m using Nat.strongRecOn with
 | ind m ih=>
 intro g bq mk st β a w bz D Pd h he hm hR hL hp hg;cases g with
 | zero=>exact h.elim
 | succ g=>
 have h0:=h;unfold KZ at h;obtain⟨hc,h⟩:=dv h;simp only[aP]at hc;obtain⟨YZ,hfz⟩:=hc;have YZ:=xp YZ;have hDZ:∀x∈D,x∈nI Z:=hL.sub;have hPZ:∀x∈Pd,x∈nI Z:=fun x hx=>hp.subset (List.mem_append_right _ hx);have ey:D.length+Pd.length=(nI Z).length:=by have:=hp.length_eq;rwa[aN]at this
 have ah2:(D++Pd).Nodup:=hp.nodup_iff.2 hnd;have hPD:∀x∈Pd,x∉D:=fun x hx hd=>(List.nodup_append.1 ah2).2.2 x hd x hx rfl;have hrz:∀j∈Region.ready .any ops.toArray (eI bq D),j∈nI Z->j∈Pd:=fun j hj uJ=>by
  have h1:j∉D:=fun hd=>by
   have:=(mem_ready.1 hj).1;rw[od.2 (.inr hd)]at this;cases this
  rcases cH.1 (hp.mem_iff.2 uJ)with h2 | h2
  ·exact absurd h2 h1
  ·exact h2
 have acL:∀j∈Region.ready .any ops.toArray bq,j∉nI Z->j∈Region.ready .any ops.toArray (eI bq D):=fun j hj uJ=>wz (l:=bq) (D:=[]) (E:=D) (by simp) hj fun k=>uJ (hDZ j k);have W4:∀z∈Pd,z∈Region.ready .any ops.toArray (eI bq D):=fun z hz=>by
  obtain⟨p,HX,rfl⟩:=nJ.1 (hPZ z hz);obtain⟨o,ho,bQ⟩:=hZ p HX;refine mem_ready.2 ⟨?_,o,by rw[jI]at ho;simpa using ho,fun e he=>?_⟩
  ·rw[gr];intro k;rcases od.1 k with k | k
   ·rw[YZ _ (hPZ _ hz)]at k;cases k
   ·exact hPD _ hz k
  ·rw[Array.mem_def,(ma bQ).2.2.2.2.1]at he;cases he
 have AL:∀{m'},m=m'+1->∀j∈Pd,wpOp P ops.toArray Q j (fun a' w'=>EE P ops mb ms S j w w'/\fu P .any ops.toArray Q (EE P ops mb ms S) m' ((eI bq D).setIfInBounds j true) a' w') a w:=by
  intro m' em j hj;obtain⟨p,HX,rfl⟩:=nJ.1 (hPZ j hj);obtain⟨o,ho,bQ⟩:=hZ p HX;obtain⟨_,l2,l3,l4,l5,l6,l7⟩:=ma bQ;obtain⟨fz1,fz2⟩:=EI hfz p HX;have Mr:ops.toArray[p.z]? =some o:=by rw[jI]at ho;simpa using ho
  unfold wpOp;simp only[Mr];rw[if_pos (wn l4)];left;obtain⟨dst,op,t',pp,af,g0⟩:=o;dsimp only at l2 l3 l4 l5;subst l2 l3 l4;obtain⟨z,z1,z2⟩:=T0 l6 w;refine D9 z1 (z2 β0) (fun _=>rfl) fun b w1 hb hO hB=>⟨?_,?_⟩
  ·unfold EE;rw[ho];dsimp only;rw[show jA P (.alloc p.t)=false from rfl,nU];cases(mb&&(ms||!tJ (.alloc p.t)))with
   | true=>exact bO.only hO
   | false=>exact trivial
  ·rw[<-ob];exact ih m' (by omega) (g+1) (D:=p.z::D) (Pd:=Pd.erase p.z) h0 he hm (hR.late hm fz1 hO) (hL.alloc hu PT HX (hPD _ hj) hb hO hB (by rw[hR.ok.sz];exact fz2))
    ((List.perm_middle.symm.trans ((List.perm_cons_erase hj).symm.append_left D)).trans hp) (by rw[aR];omega)
 split at h
 ·rename_i PU;obtain⟨hc,h⟩:=dv h;simp only[aP]at hc;obtain⟨⟨⟨c1,c2⟩,c3⟩,c4⟩:=hc;have ah4:bq=wX:=Mb.1 (Nr c2);have egm:=bM c3;have c4:=de c4;cases hPd:Pd with
  | nil=>
   rw[hPd,bL]at hp;rw[ah4];exact hK mk st β a w bz D m h he hR hL hp (by omega)
  | cons z Pd'=>
   have hzm:z∈Pd:=by rw[hPd];exact dN
   have uO:Pd.length=Pd'.length+1:=by rw[hPd];rfl
   obtain⟨m',rfl⟩:∃m',m=m'+1:=⟨m-1,by omega⟩
   refine⟨fun h0=>?_,fun j hj=>AL rfl j ?_⟩
   ·have:=W4 z hzm;rw[h0]at this;cases this
   ·by_cases uJ:j∈nI Z
    ·exact hrz j hj uJ
    ·exfalso;have h1:j∈Region.ready .any ops.toArray (eI bq ((nI Z).erase z)):=wz (fun x hx=>(List.mem_erase_of_ne (fun e=>hPD z hzm (by rw[<-e];exact hx))).2 (hDZ x hx)) hj (fun k=>uJ (List.mem_of_mem_erase k));have:=IM c1 z (hPZ z hzm) j h1;exact uJ (this▸hPZ z hzm)
 ·rename_i i r PU;obtain⟨c0,h⟩:=dv h;simp only[aP,VM]at c0;have hrd:=EG c0.1;have c0:=de c0.2;have hrm:∀j∈Region.ready .any ops.toArray (eI bq D),j∉nI Z->j∈Region.ready .any ops.toArray bq:=fun j hj uJ=>(hrd j (wz hDZ hj uJ)).1;obtain⟨m',rfl⟩:∃m',m=m'+1:=⟨m-1,by omega⟩
  have hio:∀j∈i::r,j∈Region.ready .any ops.toArray bq/\j∉nI Z:=fun j hj=>pR.1 (by rw[PU];exact hj);have gC:Region.ready .any ops.toArray (eI bq D)=[]->False:=fun h0=>by
   have:=acL i (hio i dN).1 (hio i dN).2;rw[h0]at this;cases this
  have hdz:∀j o,gH ops j=some o->j∉nI Z->∀p∈Z,o.dst≠some p.d:=fun j o hj uJ p hp=>hdo p hp j o hj fun e=>uJ (nJ.2 ⟨p,hp,e.symm⟩);have LL:∀{j:Nat} {o:Oper},gH ops j=some o->j∉nI Z->lL P ops mb ms S ws mk st o (fun mk st=>KZ P ops mb ms S ws Z wX gm K g (bq.setIfInBounds j true) mk st)->
    wpOp P ops.toArray Q j (fun a' w'=>EE P ops mb ms S j w w'/\fu P .any ops.toArray Q (EE P ops mb ms S) m' ((eI bq D).setIfInBounds j true) a' w') a w:=by
   intro j o ho uJ h;refine wpOp_mono (fun a' w' hh=>⟨hh.1,?_⟩) (aac ho h hR);obtain⟨k0,k1,β',cE,mk',k2,k3,k4,k5,k6⟩:=hh;rw[<-ob];have sI:∀p∈Z,a'.tmps[p.d]? =a.tmps[p.d]? :=fun p hp=>k1 _ (hdz j o ho uJ p hp);have hL':Late Z ws bz D mk' a' w':=by
    rcases k6 with⟨rfl,rfl⟩ | ⟨rfl,k6⟩
    ·exact hL.act sI
    ·exact hL.loud k6 sI
   exact ih m' (by omega) g k2 (he.trans k3) k4 k5 hL' hp (by omega)
  split at h
  ·rename_i q hq;obtain⟨o,ho,h⟩:=bm h;obtain⟨hc,h⟩:=dv h;simp only[aP,okT]at hc;obtain⟨⟨⟨⟨⟨c1,c2⟩,c3⟩,c4⟩,c5⟩,c6⟩:=hc;obtain⟨hq1,W5⟩:=hio q (by simpa using c6);have Mr:ops.toArray[q]? =some o:=by rw[jI]at ho;simpa using ho
   have pj:qv .any ops.toArray (eI bq D):=AP (Bb c3) fun z hz o hoz=>by
    obtain⟨p,HX,rfl⟩:=nJ.1 (hDZ z hz);obtain⟨o2,Gz,bQ⟩:=hZ p HX;rw[jI]at Gz;have:o2=o:=by
     have e:ops.toArray[p.z]? =some o2:=by simpa using Gz
     rw[hoz]at e;injection e with e;exact e.symm
    rw[<-this];exact(ma bQ).2.2.2.2.1
   have hN:∀k∈Mi bq 0 ops,(eI bq D).getD k true=true:=fun k hk=>od.2 (.inl (by simpa using(dT.1 c5) k hk));have Kp:=Region.free_spec Mr c2;have Dz:∀j oj,ops.toArray[j]? =some oj->j≠q->(eI bq D).getD j true=false->(∀e∈oj.after,Region.binds .any e=true->e.on≠q)->o.apart ops.toArray oj=true:=fun j oj h1 h2 h3 h4=>Kp j oj h1 h2 (by
    rw[gr]at h3⊢;exact fun k=>h3 (od.2 (.inl k))) h4
   have hqr:=acL q hq1 W5;obtain⟨s,e1,ig,h1⟩:=zl h hR;have sI:∀v,∀p∈Z,(a.put o.dst v).tmps[p.d]? =a.tmps[p.d]? :=fun v p hp=>(kj _ _ _).2.2 _ (hdz q o ho W5 p hp);rcases h1 with⟨hw,h1⟩ | ⟨hw,h1⟩
   ·obtain⟨v,s2,F,k1,k2,k3,k4,k5,k6,k7⟩:=T6 h1 ig.vT;refine qw Mr (Region.noSelect_spec c1) (fun c a w hp=>(hQ _ _ _ hp).elim) c4 (Mi bq 0 ops) k5 (fun w1 _=>qG ho w1) m' (eI bq D) a w pj hN Dz hqr (TT hw k7) k4 ?_;rw[<-ob];exact ih m' (by omega) g k1 (((he.trans e1).trans (Ext.vT _)).trans (k2.trans (Ext.vT _))) rfl k3.vT (hL.act (sI v)) hp (by omega)
   ·refine qw (v:=undef) (F:=fun _=>True) Mr (Region.noSelect_spec c1) (fun c a w hp=>(hQ _ _ _ hp).elim) c4 (Mi bq 0 ops) (fun _ _ _ _ _ _ _=>trivial) (fun w1 _=>qG ho w1) m' (eI bq D) a w pj hN Dz hqr (Vp hw) trivial ?_;rw[<-ob];exact ih m' (by omega) g h1 ((he.trans e1).trans ((Ext.put _ _ _).trans (Ext.vT _))) rfl (ig.put o.dst .un).vT (hL.act (sI undef)) hp (by omega)
  ·split at h
   ·obtain⟨o,ho,h⟩:=bm h;refine⟨fun h0=>(gC h0).elim,fun j hj=>?_⟩;by_cases uJ:j∈nI Z
    ·exact AL rfl j (hrz j hj uJ)
    ·have:j∈AO (nI Z) (Region.ready .any ops.toArray bq):=pR.2 ⟨hrm j hj uJ,uJ⟩;rw[PU]at this;obtain rfl:j=i:=by simpa using this
     exact LL ho uJ h
   ·rename_i i' _;obtain⟨o,ho,h⟩:=bm h;obtain⟨o',Mr,h⟩:=bm h;refine⟨fun h0=>(gC h0).elim,fun j hj=>?_⟩;by_cases uJ:j∈nI Z
    ·exact AL rfl j (hrz j hj uJ)
    ·have:j∈AO (nI Z) (Region.ready .any ops.toArray bq):=pR.2 ⟨hrm j hj uJ,uJ⟩;rw[PU]at this;rcases aY.1 this with rfl | this
     ·exact LL ho uJ h.1
     ·have:=aO.1 this;subst this;exact LL Mr uJ h.2
   ·rename_i i' i'' _;obtain⟨o,ho,h⟩:=bm h;obtain⟨o',Mr,h⟩:=bm h;obtain⟨o'',ah9,h⟩:=bm h;refine⟨fun h0=>(gC h0).elim,fun j hj=>?_⟩;by_cases uJ:j∈nI Z
    ·exact AL rfl j (hrz j hj uJ)
    ·have:j∈AO (nI Z) (Region.ready .any ops.toArray bq):=pR.2 ⟨hrm j hj uJ,uJ⟩;rw[PU]at this;rcases aY.1 this with rfl | this
     ·exact LL ho uJ h.1
     ·rcases aY.1 this with rfl | this
      ·exact LL Mr uJ h.2.1
      ·have:=aO.1 this;subst this;exact LL ah9 uJ h.2.2
   ·exact h.elim
end
def St.Dv(st:St)(d:Nat)(t:TypeId)(zs:List SV)(b:Nat):St:=
 St.put {st with bx:=st.bx++[⟨some b,t,zs,st.ct,true,false,false⟩],ct:=st.ct+1} (some d) (.box st.bx.length 0)
theorem Ext.Dv(st:St)(d:Nat)(t:TypeId)(zs:List SV)(b:Nat):Ext st (st.Dv d t zs b):=by
 refine Ext.trans (t:={st with bx:=st.bx++[⟨some b,t,zs,st.ct,true,false,false⟩],ct:=st.ct+1}) ⟨rfl,iL _,fun _ _ _ h _=>h,fun i b' hb ho hs=>?_,fun i b hb=>?_,DR⟩ (Ext.put _ _ _)
 ·dsimp only at hb;rw[kl]at hb;split at hb
  ·simp only[aV]at hb;subst hb;dsimp only at hs;omega
  ·exact⟨b',hb,ho,rfl,rfl,rfl,fun _ h=>h⟩
 ·exact⟨b,by dsimp only;rw[kl,if_neg (by have:=qB hb;omega)];exact hb,rfl,rfl,fun _ h=>h⟩
section
variable {β:Nat->Nat} {st:St} {a:Act} {w:av}
theorem Rep.Dv(hR:Rep β st a w){d:Nat}{t:TypeId}{zs:List SV}{b:Nat}(h1:KR st.bx.length st.fr=true)(h2:G2 st.bx.length st.bx=true)(hdt:za st.bx st.dt=true)(pj:ij (fun _=>false) zs=true)
  (hs:a.tmps[d]? =some (.pointer (some ⟨b,0,none⟩))) (hB:Blk w b t (cp β0 zs)) (gC:∀i c,cM st.bx i=some c->c.ok=true->β i≠b):
  Rep (wb β st.bx.length b) (st.Dv d t zs b) a w:=by
 have ql:wb β st.bx.length b st.bx.length=b:=by unfold wb;rw[if_pos rfl]
 have bQ:∀{i c},cM st.bx i=some c->wb β st.bx.length b i=β i:=fun{i c} h=>by
  unfold wb;rw[if_neg];have:=qB h;omega
 have base:Rep (wb β st.bx.length b) {st with bx:=st.bx++[⟨some b,t,zs,st.ct,true,false,false⟩],ct:=st.ct+1} a w:=by
  refine⟨qz ⟨hR.ok.sz,hR.ok.df,fun i p hl hi=>?_⟩,fun i c hc ho=>?_,fun i j bi bj g1 g2 g3 g4 Au=>?_,?_,hR.still⟩
  ·rw[hR.ok.at_ i p hl hi];congr 1;exact jw (g:=fun j=>!Nat.beq j st.bx.length) zf _ (Cv h1 i p hl)
  ·dsimp only at hc;rw[kl]at hc;split at hc
   ·rename_i he;simp only[aV]at hc;subst hc;subst he;refine⟨?_,fun k hk=>?_,fun hk=>(by cases hk)⟩
    ·rw[ql];dsimp only;rw[gQ (g:=fun _=>false) (β:=wb β st.bx.length b) (β':=β0) (fun i h=>(by cases h)) _ pj];exact hB
    ·rw[ql];simpa using hk
   ·have e:=bQ hc;obtain⟨k1,k2,k3⟩:=hR.bx i c hc ho;refine⟨?_,fun k hk=>by rw[e];exact k2 k hk,fun hk=>by rw[e];exact k3 hk⟩;rw[e,<-gQ (g:=fun j=>!Nat.beq j st.bx.length) (β:=β) (β':=wb β st.bx.length b) zf _ (Cw h2 i c hc ho)];exact k1
  ·dsimp only at g1 g2;rw[kl]at g1 g2;split at g1
   ·rename_i e1;split at g2
    ·omega
    ·subst e1;rw[ql,bQ g2];exact Ne.symm (gC j bj g2 g4)
   ·split at g2
    ·rename_i e2;subst e2;rw[ql,bQ g1];exact gC i bi g1 g3
    ·rw[bQ g1,bQ g2];exact hR.ne i j bi bj g1 g2 g3 g4 Au
  ·have e:st.dt.map (wb β st.bx.length b)=st.dt.map β:=rC fun i hi=>by
    obtain⟨c,hc,_⟩:=sT hdt i hi;exact bQ hc
   show Only (st.dt.map (wb β st.bx.length b)) st.w0 w;rw[e];exact hR.only
 refine⟨qz ⟨base.ok.sz,base.ok.df,fun i p hl hi=>?_⟩,base.bx,base.ne,base.only,base.still⟩;simp only[St.Dv,St.put,dH]at hl;cases hb:Nat.beq d i with
 | true=>
  rw[hb]at hl;simp only[fI,aV]at hl;subst hl;have:=bM hb;subst this;rw[hs];show _=some (Value.pointer (some ⟨wb β st.bx.length b st.bx.length,0,none⟩));rw[ql]
 | false=>rw[hb]at hl;exact base.ok.at_ i p (by simpa using hl) hi
end
def neN(b:Nat):List Nat->Prop->Prop
 | [],p=>p
 | x::r,p=>x≠b->neN b r p
theorem Nt{b:Nat}:∀{l:List Nat} {p:Prop},neN b l p->(∀x∈l,x≠b)->p
 | [],_,h,_=>h
 | x::r,p,h,hb=>Nt (h (hb x dN)) fun y hy=>hb y (dc _ hy)
def R6(ws:av)(mk:List (Nat×Nat)):List LZ->List Nat->St->(St->Prop)->Prop
 | [],_,st,K=>K st
 | p::r,seen,st,K=>bif YM st p.zs then ∀b:Nat,ws.heap.size<=b->b<st.w0.heap.size->zm mk b->neN b seen (R6 ws mk r (b::seen) (st.Dv p.d p.t p.zs b) K)else False
theorem IQ{ws:av}{mk:List (Nat×Nat)}{bz:Nat->Nat}{a:Act}{w:av}:∀{r:List LZ} {seen:List Nat} {st:St} {K:St->Prop} {β:Nat->Nat},R6 ws mk r seen st K->Rep β st a w->st.mv=false->
  (∀p∈r,a.tmps[p.d]? =some (.pointer (some ⟨bz p.z,0,none⟩))/\Blk w (bz p.z) p.t (cp β0 p.zs)/\ws.heap.size<=bz p.z/\zm mk (bz p.z)/\ij (fun _=>false) p.zs=true/\(∀x∈seen,x≠bz p.z)/\∀i c,cM st.bx i=some c->c.ok=true->β i≠bz p.z)->
  (nI r).Nodup->(∀p∈r,∀q∈r,p.z≠q.z->bz p.z≠bz q.z)->∃cE β',K cE/\Ext st cE/\Rep β' cE a w
 | [],_,st,K,β,h,hR,_,_,_,_=>⟨st,β,h,Ext.refl _,hR⟩
 | p::r,seen,st,K,β,h,hR,hm,hp,hn,hd=>by
  unfold R6 at h;obtain⟨hc,h⟩:=dv h;simp only[YM,aP]at hc;obtain⟨h1,h2,h3,h4,h5,h6,h7⟩:=hp p dN;have h:=Nt (h (bz p.z) h3 (by rw[<-hR.still hm];exact h2.lt) h4) h6;simp only[nI,List.nodup_cons]at hn;have hpq:∀q∈r,p.z≠q.z:=fun q hq e=>hn.1 (nJ.2 ⟨q,hq,e.symm⟩);have bQ:∀{i c},cM st.bx i=some c->wb β st.bx.length (bz p.z) i=β i:=fun{i c} h=>by
   unfold wb;rw[if_neg];have:=qB h;omega
  obtain⟨cE,β',k1,k2,k3⟩:=IQ h (hR.Dv hc.1.1.1 hc.1.1.2 hc.2 h5 h1 h2 h7) hm (fun q hq=>by
   obtain⟨g1,g2,g3,g4,g5,g6,g7⟩:=hp q (dc _ hq);have gC:=hd p dN q (dc _ hq) (hpq q hq);refine⟨g1,g2,g3,g4,g5,fun x hx=>?_,fun i c hc ho=>?_⟩
   ·rcases aY.1 hx with rfl | hx
    ·exact gC
    ·exact g6 x hx
   ·simp only[St.Dv,St.put]at hc;rw[kl]at hc;split at hc
    ·rename_i e;subst e;unfold wb;rw[if_pos rfl];exact gC
    ·rw[bQ hc];exact g7 i c hc ho) hn.2 fun x hx y hy=>hd x (dc _ hx) y (dc _ hy)
  exact⟨cE,β',k1,(Ext.Dv _ _ _ _ _).trans k2,k3⟩
def ph2(P:Program)(ops:List Oper)(mb ms:Bool)(S:Nat->Prop)(ws:av)(Z:List LZ)(wX:Array Bool)(gm nb:Nat)(mk:List (Nat×Nat))(st:St)(K:St->Prop):Prop:=
 bif Nat.beq st.bx.length nb then ez st fun st=>R6 ws mk Z [] st fun st=>Ez P ops mb ms S (gm-(nI Z).length) (eI wX (nI Z)) st K else False
def EJ(P:Program)(ops:List Oper)(jn:Bool)(kp:List Nat)(mi:List MI)(mb ms:Bool)(S:Nat->Prop)(Z:List LZ)(wX:Array Bool)(gm:Nat)(st:St)(K:St->Prop):Prop:=
 bif pN st.bx then
  (bif jn then ∃J:List (Nat×Nat)->JT (Gp mi),(∀mk:List (Nat×Nat),Ew (Gp mi) (J mk) fun vs w=>ph2 P ops mb ms S st.w0 Z wX gm st.bx.length mk (lZ st kp mi vs w) K)/\
   KZ P ops mb ms S st.w0 Z wX gm (fun mk s=>ez s fun s=>G6 st kp mi (J mk) s) ops.length (Array.replicate ops.length false) [] (St.vT (st.nB (VL Z)))
  else KZ P ops mb ms S st.w0 Z wX gm (fun mk s=>ph2 P ops mb ms S st.w0 Z wX gm st.bx.length mk s K) ops.length (Array.replicate ops.length false) [] (St.vT (st.nB (VL Z))))else False
def Nu(ops:List Oper)(Zi:List Nat):Nat->Array Bool->Array Bool
 | 0,l=>l
 | f+1,l=>match AO Zi (Region.ready .any ops.toArray l)with
  | []=>l
  | i::_=>Nu ops Zi f (l.setIfInBounds i true)
def R7:List Bool->Nat
 | []=>0
 | b::r=>bif b then R7 r else R7 r+1
theorem IR:∀{l:List iB} {i:Nat},i<l.length->∃b,cM l i=some b
 | b::r,0,_=>⟨b,rfl⟩
 | b::r,i+1,h=>IR (l:=r) (by simpa using h)
section
variable {P:Program} {ops:List Oper} {mb ms:Bool} {S:Nat->Prop} {β:Nat->Nat} {a:Act} {w:av} {wX:Array Bool} {gm:Nat} {jn:Bool} {kp:List Nat} {mi:List MI} {st:St} {K:St->Prop}
theorem Nv{Q:Exit->Act->av->Prop}(hQ:∀c a w,¬Q (.panic c) a w)(hzo:YN ops (kq P 0 ops)=true)(h:EJ P ops jn kp mi mb ms S (kq P 0 ops) wX gm st K)(hR:Rep β st a w)(rq:st.mv=false)
  (hK:∀β' cE a' w',K cE->Ext st cE->Rep β' cE a' w'->Q .normal a' w'):fu P .any ops.toArray Q (EE P ops mb ms S) ops.length (Array.replicate ops.length false) a w:=by
 have hnd:(nI (kq P 0 ops)).Nodup:=zo;have hZ:∀p∈kq P 0 ops,∃o,gH ops p.z=some o/\uz P p.z o=some p:=fun p hp=>by
  obtain⟨j,o,h1,h2,h3⟩:=zn hp;rw[bD]at h1;exact⟨o,by rw[h1];exact h2,h3⟩
 generalize kq P 0 ops=Z at*
 unfold EJ at h;obtain⟨hbd,h⟩:=dv h;rw[<-hR.still rq]at h;have two:∀mk cE β' a' w' bz D m,ph2 P ops mb ms S w Z wX gm st.bx.length mk cE K->Ext st cE->Rep β' cE a' w'->Late Z w bz D mk a' w'->D.Perm (nI Z)->m+D.length=gm->fu P .any ops.toArray Q (EE P ops mb ms S) m (eI wX D) a' w':=by
  intro mk cE β' a' w' bz D m h he Re hL hp hg;unfold ph2 at h;obtain⟨ey,h⟩:=dv h;have ey:=bM ey;obtain⟨s1,h1,e1,ig,xQ,_,_,_,hl1⟩:=dK h Re;have hx:Ext st s1:=he.trans e1;have hold:∀i c,cM s1.bx i=some c->c.ok=true->β' i<w.heap.size:=fun i c hc ho=>by
   obtain⟨b,hb⟩:=IR (l:=st.bx) (i:=i) (by have:=qB hc;omega);obtain⟨c',k1,k2,k3,k4⟩:=hx.ps i b hb;rw[hc]at k1;injection k1 with k1;subst k1;have DV:b.ok=true:=by rw[<-k3];exact ho
   have hs:=ve hbd i b hb DV;obtain⟨k,hk⟩:=fJ.1 hs;rw[(ig.bx i c hc ho).at_ k (k4 k hk),<-(hR.bx i b hb DV).at_ k hk];exact(hR.bx i b hb DV).blk.lt
  have hD:∀p∈Z,p.z∈D:=fun p HX=>hp.mem_iff.2 (nJ.2 ⟨p,HX,rfl⟩);obtain⟨s2,β2,k1,k2,k3⟩:=IQ (bz:=bz) h1 ig xQ (fun p HX=>by
   obtain⟨g1,g2,g3,g4⟩:=hL.at_ p HX (hD p HX);obtain⟨o,_,ho⟩:=hZ p HX;exact⟨g1,g2,g3,g4,(ma ho).2.2.2.2.2.2,by simp,fun i c hc ho=>by have:=hold i c hc ho;omega⟩) hnd fun p HX q hqZ=>hL.ne _ (hD p HX) _ (hD q hqZ)
  have:=hp.length_eq;rw[EF hp,show m=gm-(nI Z).length by omega];exact rQ hQ k1 k3 fun β3 s3 a3 w3 m1 m2 m3=>hK β3 s3 a3 w3 m1 ((hx.trans k2).trans m2) m3
 have hL0:Late Z w (fun _=>0) [] [] a w:=⟨fun p _ h=>(by cases h),fun _ h=>(by cases h),fun _ h=>(by cases h),fun _ h=>(by cases h),aW _⟩
 have hR0:Rep β (St.vT (st.nB (VL Z))) a w:=Rep.vT (hR.frame (fr':=yW (VL Z) st.fr) fun i p hl=>by
  cases he:(VL Z).elem i with
  | true=>rw[(kQ (l:=st.fr)).1 he]at hl;cases hl
  | false=>rw[(kQ (l:=st.fr)).2 he]at hl;exact⟨p,hl,rfl⟩)
 have he0:Ext st (St.vT (st.nB (VL Z))):=(Ext.nB _ _).trans (Ext.vT _);rcases mO h with⟨_,h⟩ | ⟨_,h⟩
 ·obtain⟨J,hJ,h⟩:=h;refine Ns hQ hZ hzo hnd (s0:=st) (fun mk s β' a' w' bz D m hk he Re hL hp hg=>?_) ops.length ops.length (D:=[]) (Pd:=nI Z) h he0 rfl hR0 hL0 (List.Perm.refl _) rfl;obtain⟨s3,h3,e3,BW,LU,_⟩:=dK hk Re;obtain⟨vs,k1,k2⟩:=rP h3 BW LU (.inl (he.trans e3)) (hJ mk);exact two mk _ _ a' w' bz D m k1 Ext.PG k2 hL hp hg
 ·exact Ns hQ hZ hzo hnd (s0:=st) (fun mk s β' a' w' bz D m hk he Re hL hp hg=>two mk s β' a' w' bz D m hk he Re hL hp hg) ops.length ops.length (D:=[]) (Pd:=nI Z) h he0 rfl hR0 hL0 (List.Perm.refl _) rfl
end
inductive Ann where
 | o
 | s (x y:Ann)
 | j (kp:List Nat) (ms:List MI) (x y:Ann)
 | l (jn:Bool) (kp:List Nat) (ms:List MI)
def Ann.x:Ann->Ann
 | .s x _=>x
 | _=>.o
def Ann.y:Ann->Ann
 | .s _ y=>y
 | _=>.o
def Ann.d:Nat->Ann->Ann
 | 0,x=>x
 | n+1,x=>.s .o (d n x)
def eX:Nat:=4000
def neP(k:Nat):List iB->Prop->Prop
 | [],p=>p
 | b::r,p=>bif b.ok&&b.blk.isSome then(k≠b.blk.getD 0->neP k r p)else neP k r p
def G8:List iB->Prop->Prop
 | [],p=>p
 | b::r,p=>bif b.ok&&b.blk.isSome then neP (b.blk.getD 0) r (G8 r p)else G8 r p
theorem G9{k:Nat}:∀{l:List iB} {p:Prop},neP k l p->(∀i b,cM l i=some b->b.ok=true->b.blk.isSome=true->k≠b.blk.getD 0)->p
 | [],_,h,_=>h
 | b::r,p,h,hb=>by
  unfold neP at h;cases hc:(b.ok&&b.blk.isSome)with
  | true=>
   rw[hc]at h;simp only[aP]at hc;exact G9 (h (hb 0 b rfl hc.1 hc.2)) fun i c hi=>hb (i+1) c hi
  | false=>
   rw[hc]at h;exact G9 h fun i c hi=>hb (i+1) c hi
theorem CD:∀{l:List iB} {p:Prop},G8 l p->(∀i j bi bj,cM l i=some bi->cM l j=some bj->bi.ok=true->bj.ok=true->bi.blk.isSome=true->bj.blk.isSome=true->i≠j->bi.blk.getD 0≠bj.blk.getD 0)->p
 | [],_,h,_=>h
 | b::r,p,h,hb=>by
  unfold G8 at h;have tl:∀{p:Prop},G8 r p->p:=fun h=>CD h fun i j bi bj h1 h2 h3 h4 h5 h6 h7=>hb (i+1) (j+1) bi bj h1 h2 h3 h4 h5 h6 (by omega);cases hc:(b.ok&&b.blk.isSome)with
  | true=>
   rw[hc]at h;simp only[aP]at hc;exact tl (G9 h fun i c hi h1 h2=>hb 0 (i+1) b c rfl hi hc.1 h1 hc.2 h2 (by omega))
  | false=>
   rw[hc]at h;exact tl h
def R8(P:Program)(ops:List Oper)(draw:Bool)(st:St)(K:St->Prop):Prop:=
 bif draw then
  bif Cz P ops&&Region.lexB .any ops.toArray then T3 (G4 ops) st fun st=>wq P ops eX [] ops st fun st=>K {st with mv:=true}
  else bif mbN P ops 0 ops then ez {st with mv:=true} fun st=>G8 (bif VK P ops 0 ops then st.bx else[]) (∃S:Nat->Prop,Ez P ops true (VK P ops 0 ops) S ops.length (Array.replicate ops.length false) st K)
  else Ez P ops false false (fun _=>False) ops.length (Array.replicate ops.length false) {st with mv:=true} K
 else xI P ops eX ops st K
def QR(st:St)(K:St->Prop):Exit->Act->av->Prop:=fun e a w=>match e with
 | .normal=>∃β cE,K cE/\Ext st cE/\Rep β cE a w
 | _=>False
theorem Ext.mv(s:St):Ext s {s with mv:=true}:=⟨rfl,aW _,fun _ _ _ h _=>h,fun i b h ho _=>⟨b,h,ho,rfl,rfl,rfl,fun _ h=>h⟩,MW,DR⟩
theorem Rep.drew{β:Nat->Nat}{s:St}{a:Act}{w w':av}(h:Rep β s a w)(hO:Only [] w w')(hh:w'.heap=w.heap):Rep β {s with mv:=true} a w':=
 ⟨h.fr,fun i b hb ho=>by
  obtain⟨k1,k2,k3⟩:=h.bx i b hb ho;exact⟨by unfold Blk at k1⊢;rw[hh];exact k1,k2,k3⟩,h.ne,h.only.cd hO,fun h=>by cases h⟩
section
variable {P:Program}
theorem IT(hm:P.follows .mixedOrders=true){id:Nat}{ops:Array Oper}{draw:Bool}{st:St}{K:St->Prop}{β:Nat->Nat}{a:Act}{w:av}(h:R8 P ops.toList draw st K)(hR:Rep β st a w):
  (Code.region id ops draw).wp P (QR st K) a w:=by
 obtain⟨l⟩:=ops;unfold R8 at h;rcases mO h with⟨hd,hx⟩ | ⟨hd,hx⟩<;>clear h<;>have h:=hx<;>clear hx
 ·subst hd;have Re:Rep β {st with mv:=true} a w.drew:=hR.drew (Only.drewN w 1) rfl;have fin:∀{mb ms:Bool} {S:Nat->Prop} {s1:St},Ext st s1->Rep β s1 a w.drew->Ez P l mb ms S l.length (Array.replicate l.length false) s1 K->(Code.region id l.toArray true).wp P (QR st K) a w:=fun e1 ig h=>
   Ea _ hm (rQ (fun c a w hp=>hp) h ig fun β' cE a' w' k1 k2 k3=>⟨β',cE,k1,e1.trans k2,k3⟩)
  rcases mO h with⟨h0,h⟩ | ⟨_,h⟩
  ·simp only[aP]at h0;obtain⟨s,h1,h2,h3,_⟩:=wy h hR;obtain⟨s2,k1,k2,k3,k4⟩:=qA h1;obtain⟨a',g1,g2⟩:=k4 trivial β a w h3;refine wp_region_quiet_lit hm h0.2 ?_;have:=G0 (Q:=fun a'=>∀w',(∃n,w'=w.drewN n)->QR st K .normal a' w') (rest:=[]) g1 (wpQuiet_nil (by
    rintro w' ⟨n,rfl⟩;exact⟨β,_,k1,(h2.trans k2).trans (Ext.mv _),g2.drew (Only.drewN w n) rfl⟩))
   rwa[bL]at this
  ·rcases mO h with⟨_,h⟩ | ⟨_,h⟩
   ·obtain⟨s1,h0,e1,ig,_⟩:=dK h Re;have Y4:∀i j bi bj,cM s1.bx i=some bi->cM s1.bx j=some bj->bi.ok=true->bj.ok=true->bi.blk.isSome=true->bj.blk.isSome=true->i≠j->bi.blk.getD 0≠bj.blk.getD 0:=fun i j bi bj h1 h2 h3 h4 h5 h6 h7=>by
     obtain⟨k,hk⟩:=fJ.1 h5;obtain⟨m,hm⟩:=fJ.1 h6;have e1:=(ig.bx i bi h1 h3).at_ k hk;have e2:=(ig.bx j bj h2 h4).at_ m hm;rw[hk,hm,gN,gN];have:=ig.ne i j bi bj h1 h2 h3 h4 h7;omega
    obtain⟨S,h1⟩:=CD h0 (by
     cases VK P l 0 l with
     | true=>exact Y4
     | false=>exact fun i j bi bj h1=>by cases i<;>cases h1)
    exact fin ((Ext.mv st).trans e1) ig h1
   ·exact fin (Ext.mv st) Re h
 ·subst hd;refine wp_region_lit (sU h hR fun β' cE a' w' k1 k2 k3=>⟨β',cE,k1,k2,k3⟩)
def Nw(P:Program)(ops:List Oper)(jn:Bool)(kp:List Nat)(mi:List MI)(st:St)(K:St->Prop):Prop:=
 bif YN ops (kq P 0 ops)then ez st.vT fun st=>
  (bif mbN P ops 0 ops then G8 (bif VK P ops 0 ops then st.bx else[]) (∃S:Nat->Prop,EJ P ops jn kp mi true (VK P ops 0 ops) S (kq P 0 ops) (Nu ops (nI (kq P 0 ops)) ops.length (Array.replicate ops.length false)) (R7 (Nu ops (nI (kq P 0 ops)) ops.length (Array.replicate ops.length false)).toList) st K)
  else EJ P ops jn kp mi false false (fun _=>False) (kq P 0 ops) (Nu ops (nI (kq P 0 ops)) ops.length (Array.replicate ops.length false)) (R7 (Nu ops (nI (kq P 0 ops)) ops.length (Array.replicate ops.length false)).toList) st K)
 else False
theorem Nx(hm:P.follows .mixedOrders=true){id:Nat}{ops:Array Oper}{jn:Bool}{kp:List Nat}{mi:List MI}{st:St}{K:St->Prop}{β:Nat->Nat}{a:Act}{w:av}(h:Nw P ops.toList jn kp mi st K)(hR:Rep β st a w):
  (Code.region id ops true).wp P (QR st K) a w:=by
 obtain⟨l⟩:=ops;unfold Nw at h;obtain⟨hz,h⟩:=dv h;have Re:Rep β st.vT a w.drew:=hR.drew (Only.drewN w 1) rfl;obtain⟨s1,h0,e1,ig,xQ,_⟩:=dK h Re;have fin:∀{mb ms:Bool} {S:Nat->Prop} {wX:Array Bool} {gm:Nat},EJ P l jn kp mi mb ms S (kq P 0 l) wX gm s1 K->(Code.region id l.toArray true).wp P (QR st K) a w:=fun h=>
  Ea _ hm (Nv (fun c a w hp=>hp) hz h ig xQ fun β' cE a' w' k1 k2 k3=>⟨β',cE,k1,((Ext.vT st).trans e1).trans k2,k3⟩)
 rcases mO h0 with⟨_,h⟩ | ⟨_,h⟩
 ·have Y4:∀i j bi bj,cM s1.bx i=some bi->cM s1.bx j=some bj->bi.ok=true->bj.ok=true->bi.blk.isSome=true->bj.blk.isSome=true->i≠j->bi.blk.getD 0≠bj.blk.getD 0:=fun i j bi bj h1 h2 h3 h4 h5 h6 h7=>by
   obtain⟨k,hk⟩:=fJ.1 h5;obtain⟨m,hm⟩:=fJ.1 h6;have e1:=(ig.bx i bi h1 h3).at_ k hk;have e2:=(ig.bx j bj h2 h4).at_ m hm;rw[hk,hm,gN,gN];have:=ig.ne i j bi bj h1 h2 h3 h4 h7;omega
  obtain⟨S,h1⟩:=CD h (by
   cases VK P l 0 l with
   | true=>exact Y4
   | false=>exact fun i j bi bj h1=>by cases i<;>cases h1)
  exact fin h1
 ·exact fin h
def V(P:Program):Code->Ann->St->(Exit->St->Prop)->Prop
 | .skip,_,st,K=>K .normal st
 | .label _,_,st,K=>K .normal st
 | .exit id,_,st,K=>K (.exit id) st
 | .ret,_,st,K=>K .ret st
 | .region _ ops draw,an,st,K=>(match an with
  | .l jn kp ms=>bif draw then Nw P ops.toList jn kp ms st (K .normal)else False
  | .j kp ms _ _=>ez st fun st=>∃J:JT (Gp ms),Ew (Gp ms) J (fun vs w=>K .normal (lZ st kp ms vs w))/\R8 P ops.toList draw st fun s=>ez s fun s=>G6 st kp ms J s
  | _=>R8 P ops.toList draw st (K .normal))
 | .seq a b,an,st,K=>(match an with
  | .j kp ms x y=>ez st fun st=>∃J:JT (Gp ms),Ew (Gp ms) J (fun vs w=>V P b y (lZ st kp ms vs w) K)/\V P a x st fun e s=>(match e with
   | .normal=>ez s fun s=>G6 st kp ms J s
   | e=>K e s)
  | an=>V P a an.x st fun e s=>(match e with
   | .normal=>V P b an.y s K
   | e=>K e s))
 | .cond c a b,an,st,K=>bR (st.ev c) fun t=>(match t with
  | .bl true=>V P a an.x st K
  | .bl false=>V P b an.y st K
  | .bt t=>((t=true->V P a an.x st K)/\(t=false->V P b an.y st K))
  | _=>False)
 | .block id c,an,st,K=>V P c an st fun e s=>(match e with
  | .exit Q5=>bif Nat.beq Q5 id then K .normal s else K (.exit Q5) s
  | e=>K e s)
 | .loop c,an,st,K=>(match an with
  | .j kp ms x _=>ez st fun st=>∃(I:Nat->JT (Gp ms)) (n0:Nat),G6 st kp ms (I n0) st/\∀n:Nat,Ew (Gp ms) (I n) fun vs w=>V P c x (lZ st kp ms vs w) fun e s=>(match e with
   | .normal=>ez s fun s=>∃n',n'<n/\G6 st kp ms (I n') s
   | e=>K e s)
  | _=>False)
 | _,_,_,_=>False
def QK(st:St)(K:Exit->St->Prop):Exit->Act->av->Prop:=fun e a w=>match e with
 | .normal=>∃β cE,K .normal cE/\Ext st cE/\Rep β cE a w
 | .exit id=>∃β cE,K (.exit id) cE/\Ext st cE/\Rep β cE a w
 | .ret=>∃β cE,K .ret cE/\Ext st cE/\Rep β cE a w
 | _=>False
theorem sY{st Ku:St}{K:Exit->St->Prop}(hx:Ext st Ku):∀e a w,QK Ku K e a w->QK st K e a w:=fun e a w h=>by
 cases e<;>first | exact h | (obtain⟨β,cE,h1,h2,h3⟩:=h;exact⟨β,cE,h1,hx.trans h2,h3⟩)
theorem xJ(hm:P.follows .mixedOrders=true):∀(c:Code) {an:Ann} {st:St} {K:Exit->St->Prop} {β:Nat->Nat} {a:Act} {w:av},V P c an st K->Rep β st a w->c.wp P (QK st K) a w
 | .skip,_,st,K,β,a,w,h,hR=>wp_skip ⟨β,st,h,Ext.refl _,hR⟩
 | .label _,_,st,K,β,a,w,h,hR=>wp_label ⟨β,st,h,Ext.refl _,hR⟩
 | .exit _,_,st,K,β,a,w,h,hR=>wp_exit ⟨β,st,h,Ext.refl _,hR⟩
 | .ret,_,st,K,β,a,w,h,hR=>wp_ret ⟨β,st,h,Ext.refl _,hR⟩
 | .region id ops draw,an,st,K,β,a,w,h,hR=>by
  unfold V at h;split at h
  ·cases draw with
   | false=>exact h.elim
   | true=>
    refine wp_mono (Nx hm h hR) fun e a' w' hq=>?_;cases e<;>first | exact hq.elim | exact hq
  ·rename_i kp ms _ _;obtain⟨s1,⟨J,hJ,h⟩,e1,ig,_⟩:=dK h hR;refine wp_mono (IT hm h ig) fun e a' w' hq=>?_;cases e<;>try exact hq.elim
   obtain⟨β',s2,h2,e2,UU⟩:=hq;obtain⟨s3,h3,e3,BW,LU,_⟩:=dK h2 UU;obtain⟨vs,k1,k2⟩:=rP h3 BW LU (.inl (e2.trans e3)) hJ;exact⟨_,_,k1,e1.trans Ext.PG,k2⟩
  ·refine wp_mono (IT hm h hR) fun e a' w' hq=>?_;cases e<;>first | exact hq.elim | exact hq
 | .seq x y,an,st,K,β,a,w,h,hR=>by
  unfold V at h;split at h
  ·rename_i kp ms _ _;obtain⟨s1,⟨J,hJ,h⟩,e1,ig,_⟩:=dK h hR;refine wp_seq (wp_mono (xJ hm x h ig) fun e a' w' hq=>?_);cases e with
   | normal=>
    obtain⟨β',s2,h2,e2,UU⟩:=hq;obtain⟨s3,h3,e3,BW,LU,_⟩:=dK h2 UU;obtain⟨vs,k1,k2⟩:=rP h3 BW LU (.inl (e2.trans e3)) hJ;exact wp_mono (xJ hm y k1 k2) (sY (e1.trans Ext.PG))
   | exit _=>exact sY e1 _ _ _ hq
   | ret=>exact sY e1 _ _ _ hq
   | _=>exact hq.elim
  ·refine wp_seq (wp_mono (xJ hm x h hR) fun e a' w' hq=>?_);cases e with
   | normal=>
    obtain⟨β',s,h1,h2,h3⟩:=hq;exact wp_mono (xJ hm y h1 h3) (sY h2)
   | _=>exact hq
 | .cond c x y,an,st,K,β,a,w,h,hR=>by
  unfold V at h;obtain⟨t,ht,h⟩:=bm h;have ev:=hR.ev ht;split at h
  ·exact wp_cond_true ev (xJ hm x h hR)
  ·exact wp_cond_false ev (xJ hm y h hR)
  ·exact wp_cond_split ev (fun e=>xJ hm x (h.1 e) hR) (fun e=>xJ hm y (h.2 e) hR)
  ·exact h.elim
 | .block id c,an,st,K,β,a,w,h,hR=>by
  unfold V at h;refine wp_block (wp_mono (xJ hm c h hR) fun e a' w' hq=>?_);cases e with
  | exit Q5=>
   obtain⟨β',s,h1,h2,h3⟩:=hq;have h1:bif Nat.beq Q5 id then K .normal s else K (.exit Q5) s:=h1;rcases mO h1 with⟨e,h5⟩ | ⟨e,h5⟩
   ·have:=bM e;subst this;exact KM ⟨β',s,h5,h2,h3⟩
   ·have gC:¬Q5=id:=fun h=>by rw[h]at e;simp at e
    exact GQ (by simpa using gC) ⟨β',s,h5,h2,h3⟩
  | normal=>exact hq
  | ret=>exact hq
  | _=>exact hq.elim
 | .loop c,an,st,K,β,a,w,h,hR=>by
  unfold V at h;split at h
  ·rename_i kp ms x _;obtain⟨s1,⟨I,n0,h0,h⟩,e1,ig,xQ,_⟩:=dK h hR;refine wp_loop_ghost (fun n a' w'=>∀K:List SV->av->Prop,Ew (Gp ms) (I n) K->∃vs,K vs w'/\Rep (En s1.bx) (lZ s1 kp ms vs w') a' w') n0 (fun K hK=>rP h0 ig xQ (.inl (Ext.refl _)) hK) fun n a' w' hI=>?_;obtain⟨vs,k1,k2⟩:=hI _ (h n);refine wp_mono (xJ hm c k1 k2) fun e a2 w2 hq=>?_;cases e with
   | normal=>
    obtain⟨β2,s2,h2,e2,UU⟩:=hq;obtain⟨s3,⟨n',hn,h3⟩,e3,BW,LU,_⟩:=dK h2 UU;exact⟨n',hn,fun K hK=>rP h3 BW LU (.inr ⟨vs,w',e2.trans e3⟩) hK⟩
   | exit _=>exact sY (e1.trans Ext.PG) _ _ _ hq
   | ret=>exact sY (e1.trans Ext.PG) _ _ _ hq
   | _=>exact hq.elim
  ·exact h.elim
 | .rangeFunc _ _ _ _,_,_,_,_,_,_,h,_=>by unfold V at h;exact h.elim
 | .scope _,_,_,_,_,_,_,h,_=>by unfold V at h;exact h.elim
 | .goto _,_,_,_,_,_,_,h,_=>by unfold V at h;exact h.elim
 | .refuse _,_,_,_,_,_,_,h,_=>by unfold V at h;exact h.elim
def Ha(P:Program)(st:St):List ResultVar->Option (List SV)
 | []=>some []
 | .tmp t::r=>(match st.get t,Ha P st r with
  | some v,some l=>some (v::l)
  | _,_=>none)
 | .cell p t::r=>(match st.get p,P.underlying t,Ha P st r with
  | some (.box i o),some d,some l=>(match cM st.bx i with
   | some b=>bif b.ok&&sz P t ((b.cells.drop o).take (tI P t)).length&&(mN d||Nat.beq ((b.cells.drop o).take (tI P t)).length 1)then some (MX (mN d) ((b.cells.drop o).take (tI P t))::l)else none
   | none=>none)
  | _,_,_=>none)
def R9(P:Program)(rs:List ResultVar)(R:aw->av->Prop)(st:St):Prop:=bR (Ha P st rs) fun vs=>ez (st.esc vs) fun st=>bif ij (Eo st.bx) vs then R (val (En st.bx) (rN vs)) st.w0 else False
theorem CE{β:Nat->Nat}{st:St}{a:Act}{w:av}(hR:Rep β st a w):∀{rs:List ResultVar} {vs:List SV},Ha P st rs=some vs->Ba P a w rs (cp β vs)
 | [],vs,h=>by simp only[Ha,aV]at h;subst h;trivial
 | .tmp t::r,vs,h=>by
  simp only[Ha]at h;split at h
  ·rename_i v l h1 h2;simp only[aV]at h;subst h;exact⟨hR.get h1,CE hR h2⟩
  ·cases h
 | .cell p t::r,vs,h=>by
  simp only[Ha]at h;split at h
  ·rename_i i o d l h1 h2 h3;split at h
   ·rename_i b hb;obtain⟨h4,rfl⟩:=Cm h;simp only[aP,cq]at h4;obtain⟨⟨tU,hsz⟩,lN⟩:=h4;refine⟨⟨⟨β i,o,none⟩,hR.get h1,?_⟩,CE hR h3⟩;have hB:=(hR.bx i b hb tU).blk;generalize hl:(b.cells.drop o).take (tI P t)=q at*
    have hC:Cells w ⟨β i,o,none⟩ (cp β q):=hB.Dt o _ (by
     rw[ff,<-hl];simp only[cp,qt,qu];rw[cP,pH];simp only[bX,bZ];omega)
    have re:=kI (P:=P) h2 w;cases hd:mN d with
    | true=>
     rw[hd]at re;have e:=oI hd β q;rw[hd]at e;rw[e];exact Ci re (oZ hsz w) (ff β q) hC
    | false=>
     rw[hd]at re lN;obtain⟨s,rfl⟩:=yS (lN.resolve_left (by simp));exact AH re (Cells.one hC)
   ·cases h
  ·cases h
def Sa:Nat->List SV->List (Nat×Nat×SV)
 | _,[]=>[]
 | i,s::r=>(i,0,s)::Sa (i+1) r
theorem CF(β:Nat->Nat):∀(i:Nat) (l:List SV),cv β (Sa i l)=Cj i (cp β l)
 | _,[]=>rfl
 | i,s::r=>by
  have:=CF β (i+1) r;simp only[cv]at this;simp only[Sa,cv,bE,cp,Cj,this]
def st0(fn:Func)(args:List SV)(w:av):St:={n:=fn.ntmps,fr:=Sa 0 args,bx:=[],w0:=w,mv:=false,dt:=[],ct:=1,df:=[]}
def kR(P:Program)(f:FuncId)(args:Array aw)(w:av)(Q:aw->av->Prop):Prop:=CallsD P f args .returning w fun e u w'=>u=.returning/\∃v,e=.returned v/\Q v w'
def CG(P:Program)(R:aw->av->Prop):List (Nat×List aw×List aw)->av->Prop
 | [],w=>R (.tuple #[]) w
 | d::ds,w=>bif M5 P d.1 then kR P d.1 (d.2.1++d.2.2).toArray w fun _ w'=>CG P R ds w' else False
def af4:List ResultVar->Bool
 | []=>true
 | _=>false
def Sb(P:Program)(rs:List ResultVar)(R:aw->av->Prop)(st:St):Prop:=match st.df with
 | []=>R9 P rs R st
 | _::_=>bif af4 rs then ez st fun st=>CG P R st.df st.w0 else False
def Sc(P:Program)(rs:List ResultVar)(R:aw->av->Prop)(st:St):Prop:=match st.df with
 | []=>R9 P rs R st
 | _::_=>False
def Vfn(P:Program)(f:FuncId)(an:Ann)(args:List SV)(R:aw->av->Prop)(w:av):Prop:=bR (P.funcs[f]?) fun fn=>bR fn.body fun c=>
 bif Nat.ble args.length fn.ntmps then V P c an (st0 fn args w) fun e st=>(match e with
  | .normal=>Sb P fn.results.toList R st
  | .ret=>Sb P fn.results.toList R st
  | _=>False)else False
def Vfd(P:Program)(f:FuncId)(an:Ann)(args:List SV)(R:aw->av->Prop)(w:av):Prop:=bR (P.funcs[f]?) fun fn=>bR fn.body fun c=>
 bif Nat.ble args.length fn.ntmps then V P c an (st0 fn args w) fun e st=>(match e with
  | .normal=>Sc P fn.results.toList R st
  | .ret=>Sc P fn.results.toList R st
  | _=>False)else False
theorem IU{β:Nat->Nat}{st:St}{a:Act}{w:av}{fn:Func}{R:aw->av->Prop}(h:R9 P fn.results.toList R st)(hR:Rep β st a w):∃v,(results fn a.tmps).run P w=.ok v w/\R v w:=by
 unfold R9 at h;obtain⟨vs,hv,h⟩:=bm h;obtain⟨s1,h1,e1,ig,hm,_⟩:=dK h (hR.esc vs);obtain⟨hc,h1⟩:=dv h1;have ho:=CE hR hv;have hw:=ig.still hm;rw[ig.acn (vf hc),<-hw]at h1;refine⟨_,?_,h1⟩;have hrs:fn.results=fn.results.toList.toArray:=by simp
 match vs,ho,hc with
 | [s],ho,hc=>exact Vn hrs ho
 | [],ho,hc=>
  have e:val β (rN [])=.tuple (cp β []).toArray:=rfl;rw[e];exact GR hrs rfl ho
 | s::t::r,ho,hc=>
  have e:val β (rN (s::t::r))=.tuple (cp β (s::t::r)).toArray:=by
   show Value.tuple (pA β (j5 _)).toArray=_;rw[qy]
  rw[e];exact GR hrs (by simp[cp]) ho
theorem Ny(args:List aw){n:Nat}(hk:args.length<=n):(⟨args.toArray++Array.replicate (n-args.toArray.size) undef,[]⟩:Act)=fr n (fun _=>undef) (Cj 0 args):=by
 unfold fr;congr 1;apply Mb.1;rw[Array.toList_append,Array.toList_replicate,lp];apply oH;intro i;by_cases hi:i<n
 ·rw[fD,mC _ _ _ _ _ hi,bD,Bd,if_pos (bd _),sQ];by_cases hia:i<args.length
  ·rw[bJ hia,bG hia];rfl
  ·rw[cf (by omega),List.getElem?_replicate,if_pos (by omega),cK (by omega)];rfl
 ·rw[fD,cK (by simp;omega),cK (by rw[nH];omega)]
theorem Bh{fn:Func}{tmps:Array aw}{R:aw->av->Prop}(hr:fn.results.toList=[]):∀{l:List (Nat×List aw×List aw)} {w:av},CG P R l w->Leaves P fn tmps (fun e w'=>∃v,e=.returned v/\R v w') (QV l) .returning w
 | [],w,h=>by
  have hrs:fn.results=([]:List ResultVar).toArray:=by rw[<-hr]
  exact⟨_,GR (a:=⟨tmps,[]⟩) (rs:=[]) (vs:=[]) hrs rfl trivial,_,rfl,h⟩
 | d::ds,w,h=>by
  unfold CG at h;obtain⟨h0,h⟩:=dv h;refine leaves_cons (fun h=>by cases h) (f:=d.1) (args:=(d.2.1++d.2.2).toArray) ?_ (h.mono ?_)
  ·have:=kn h0 (d.2.1++d.2.2).toArray w;rw[<-List.append_toArray]at this⊢;exact this
  ·rintro e u w' ⟨rfl,v,rfl,h⟩;exact Bh hr h
theorem EK{β:Nat->Nat}{st:St}{a:Act}{w:av}{fn:Func}{R:aw->av->Prop}(h:Sb P fn.results.toList R st)(hR:Rep β st a w):Leaves P fn a.tmps (fun e w'=>∃v,e=.returned v/\R v w') a.defers .returning w:=by
 rw[hR.ok.df];unfold Sb at h;split at h
 ·rename_i hd;rw[hd];obtain⟨v,k1,k2⟩:=IU h hR;exact⟨v,k1,v,rfl,k2⟩
 ·rename_i d ds hd;obtain⟨h0,h⟩:=dv h;obtain⟨s1,h1,e1,ig,hm,_⟩:=dK h hR;have hr:fn.results.toList=[]:=by
   cases hc:fn.results.toList with
   | nil=>rfl
   | cons _ _=>rw[hc]at h0;cases h0
  have PS:s1.df=st.df:=by
   obtain⟨l,hl⟩:=e1.df;have h5:(QV s1.df).length=(QV st.df).length:=bK List.length (ig.ok.df.symm.trans hR.ok.df);rw[QV,QV,bZ,bZ,hl,aN]at h5;have:l=[]:=List.length_eq_zero_iff.1 (by omega);rw[hl,this,ci]
  rw[<-ig.still hm]at h1;rw[<-PS];exact Bh hr h1
theorem aaf(hm:P.follows .mixedOrders=true){f:FuncId}{an:Ann}{args:List SV}{R:aw->av->Prop}{w:av}(h:Vfn P f an args R w):Calls P f (cp β0 args).toArray w fun e w'=>∃v,e=.returned v/\R v w':=by
 unfold Vfn at h;obtain⟨fn,hf,h⟩:=bm h;obtain⟨c,hb,h⟩:=bm h;obtain⟨hn,h⟩:=dv h;have hR:Rep β0 (st0 fn args w) (fr fn.ntmps (fun _=>undef) (Cj 0 (cp β0 args))) w:=
  ⟨⟨fun _=>undef,by rw[<-CF];rfl⟩,fun i b hb=>(by cases hb),fun i j bi bj hb=>(by cases hb),Only.refl _ _,fun _=>rfl⟩
 refine calls_of_wp_defers hf hb ?_;rw[Ny _ (by rw[ff];exact de hn)];refine wp_mono (xJ hm c h hR) fun e a' w' hq=>?_;cases e with
 | normal=>
  obtain⟨β',s,h1,h2,h3⟩:=hq;exact EK h1 h3
 | ret=>
  obtain⟨β',s,h1,h2,h3⟩:=hq;exact EK h1 h3
 | exit _=>
  obtain⟨β',s,h1,_⟩:=hq;exact h1.elim
 | _=>exact hq.elim
theorem aag(hm:P.follows .mixedOrders=true){f:FuncId}{an:Ann}{args:List SV}{R:aw->av->Prop}{w:av}(h:Vfd P f an args R w):kR P f (cp β0 args).toArray w R:=by
 unfold Vfd at h;obtain⟨fn,hf,h⟩:=bm h;obtain⟨c,hb,h⟩:=bm h;obtain⟨hn,h⟩:=dv h;have hR:Rep β0 (st0 fn args w) (fr fn.ntmps (fun _=>undef) (Cj 0 (cp β0 args))) w:=
  ⟨⟨fun _=>undef,by rw[<-CF];rfl⟩,fun i b hb=>(by cases hb),fun i j bi bj hb=>(by cases hb),Only.refl _ _,fun _=>rfl⟩
 refine(callsD_of_wp (R:=fun e w'=>∃v,e=.returned v/\R v w') hf hb ?_).mono (fun e u w' h=>h);rw[Ny _ (by rw[ff];exact de hn)];refine wp_mono (xJ hm c h hR) fun e a' w' hq=>?_;have fin:∀{β':Nat->Nat} {s:St},Sc P fn.results.toList R s->Rep β' s a' w'->(∃v,(results fn a'.tmps).run P w'=.ok v w'/\R v w')/\a'.defers=[]:=fun{β' s} h hR=>by
  unfold Sc at h;split at h
  ·rename_i hd;exact⟨IU h hR,by rw[hR.ok.df,hd];rfl⟩
  ·exact h.elim
 cases e with
 | normal=>
  obtain⟨β',s,h1,h2,h3⟩:=hq;obtain⟨⟨v,k1,k2⟩,k3⟩:=fin h1 h3;exact GS k1 k3 k2
 | ret=>
  obtain⟨β',s,h1,h2,h3⟩:=hq;obtain⟨⟨v,k1,k2⟩,k3⟩:=fin h1 h3;exact RD k1 k3 k2
 | exit _=>
  obtain⟨β',s,h1,_⟩:=hq;exact h1.elim
 | _=>exact hq.elim
theorem aah{f:FuncId}{an:Ann}{args:List SV}{R:aw->av->Prop}{w:av}{vs:Array aw}{vc:Prop}(hm:P.follows .mixedOrders=true)(hv:vs=(cp β0 args).toArray)(he:vc=Vfn P f an args R w)(h:vc):Calls P f vs w fun e w'=>∃v,e=.returned v/\R v w':=by
 subst he hv;exact aaf hm h
theorem aai{f:FuncId}{an:Ann}{args:List SV}{R:aw->av->Prop}{w:av}{vs:Array aw}{vc:Prop}(hm:P.follows .mixedOrders=true)(hv:vs=(cp β0 args).toArray)(he:vc=Vfd P f an args R w)(h:vc):kR P f vs w R:=by
 subst he hv;exact aag hm h
end
end Go.Kt.V
namespace Go.Proofs.YtmhoiicofhlgbaaGreatDoor.Vc
open Go.Value renaming int->O,string->ab,pointer->ae,agg->ah,tuple->ai,bool->aj
open Go.IntKind renaming i64->U,wrap->ar
open Go.Ending renaming returned->ak
open _root_.ByteArray renaming mk->ao
open _root_.Go.Proofs.Tryz renaming prog->aq
open Go.Instr renaming buildSlice->au
open Go renaming World->av,Value->aw,Calls->az
open Go.Kt renaming Only->ay,SliceF->aA,Cells->aB,OnlyP->aD,Blk->aF
open Go Go.RowKit Go.Kt Go.Kt.V
set_option linter.unusedVariables false
abbrev cy(c:Bool)(x y:Prop):Prop:=(c=true->x)/\(c=false->y)
abbrev cB(f:FuncId)(a:Array aw)(w:av)(K:Bool->av->Prop):Prop:=az aq f a w fun e w'=>∃x,e=ak (aj x)/\K x w'
abbrev kP(s:List Nat)(f:FuncId)(a:Array aw)(w:av)(K:Bool->av->Prop):Prop:=az aq f a w fun e w'=>∃x,e=ak (aj x)/\bS s w w'/\K x w'
abbrev cI(f:FuncId)(a:Array aw)(w:av)(K:Int->av->Prop):Prop:=az aq f a w fun e w'=>∃x,e=ak (O U x)/\K x w'
abbrev rj(s:List Nat)(f:FuncId)(a:Array aw)(w:av)(K:Int->av->Prop):Prop:=az aq f a w fun e w'=>∃x,e=ak (O U x)/\bS s w w'/\K x w'
abbrev cS(f:FuncId)(a:Array aw)(w:av)(K:aK->av->Prop):Prop:=az aq f a w fun e w'=>∃x,e=ak (ab x)/\K x w'
abbrev oe(s:List Nat)(f:FuncId)(a:Array aw)(w:av)(K:aK->av->Prop):Prop:=az aq f a w fun e w'=>∃x,e=ak (ab x)/\bS s w w'/\K x w'
abbrev cL(f:FuncId)(a:Array aw)(w:av)(K:Sl->av->Prop):Prop:=az aq f a w fun e w'=>∃x,e=ak (x.v)/\K x w'
abbrev AQ(s:List Nat)(f:FuncId)(a:Array aw)(w:av)(K:Sl->av->Prop):Prop:=az aq f a w fun e w'=>∃x,e=ak (x.v)/\bS s w w'/\K x w'
abbrev cU(f:FuncId)(a:Array aw)(w:av)(K:av->Prop):Prop:=az aq f a w fun e w'=>e=ak (ai #[])/\K w'
abbrev gy(s:List Nat)(f:FuncId)(a:Array aw)(w:av)(K:av->Prop):Prop:=az aq f a w fun e w'=>e=ak (ai #[])/\bS s w w'/\K w'
abbrev fL(x:Sem aw)(w:av)(K:Sl->av->Prop):Prop:=∃l w',x.run aq w=.ok (Sl.v l) w'/\K l w'
abbrev nx(k:Nat)(K:aJ):Prop:=∃n,n<k/\K n
abbrev nw(w:av)(K:Nat->av->Prop):Prop:=∀k w',w.heap.size<=k->k<w'.heap.size->ay [] w w'->K k w'
abbrev lp0(w:av)(B:(Nat->av->Prop)->Nat->av->Prop):Prop:=∃J k,J k w/\∀k w,J k w->B J k w
abbrev pB{α:Type}(x:α)(w:av)(B:(Nat->α->av->Prop)->Nat->α->av->Prop):Prop:=∃J k,J k x w/\∀k x w,J k x w->B J k x w
abbrev T7{α β:Type}(x:α)(y:β)(w:av)(B:(Nat->α->β->av->Prop)->Nat->α->β->av->Prop):Prop:=∃J k,J k x y w/\∀k x y w,J k x y w->B J k x y w
abbrev Gs(X:av->Prop)(Y:(av->Prop)->Prop):Prop:=∃J,(∀w,J w->X w)/\Y J
abbrev qp{α:Type}(X:α->av->Prop)(Y:(α->av->Prop)->Prop):Prop:=∃J,(∀x w,J x w->X x w)/\Y J
abbrev jn2{α β:Type}(X:α->β->av->Prop)(Y:(α->β->av->Prop)->Prop):Prop:=∃J,(∀x y w,J x y w->X x y w)/\Y J
abbrev jn3{α β γ:Type}(X:α->β->γ->av->Prop)(Y:(α->β->γ->av->Prop)->Prop):Prop:=∃J,(∀x y z w,J x y z w->X x y z w)/\Y J
abbrev xCB(w:av)(p:Addr)(K:Bool->Prop):Prop:=∃x0,aB w p [aj x0]/\K x0
abbrev iz(w:av)(p:Addr)(K:Int->Prop):Prop:=∃x0,aB w p [O U x0]/\K x0
abbrev im(w:av)(p:Addr)(K:Int->Int->aK->Int->Sl->Int->Prop):Prop:=∃x0 x1 x2 x3 x4 x5,aB w p [O U x0,O U x1,ab x2,O U x3,x4.v,O U x5]/\K x0 x1 x2 x3 x4 x5
abbrev xK(w:av)(p:Addr)(K:Int->aK->Int->Bool->Int->Int->aK->Int->Sl->Int->Sl->Sl->Int->Prop):Prop:=∃x0 x1 x2 x3 x4 x5 x6 x7 x8 x9 x10 x11 x12,aB w p [O U x0,ab x1,O U x2,aj x3,O U x4,O U x5,ab x6,O U x7,x8.v,O U x9,x10.v,x11.v,O U x12]/\K x0 x1 x2 x3 x4 x5 x6 x7 x8 x9 x10 x11 x12
abbrev CH(w:av)(p:Addr)(K:Int->aK->Int->Int->Prop):Prop:=∃x0 x1 x2 x3,aB w p [O U x0,ab x1,O U x2,O U x3]/\K x0 x1 x2 x3
abbrev EM(w:av)(p:Addr)(K:Int->aK->aK->aK->Sl->Sl->Sl->Sl->Int->Prop):Prop:=∃x0 x1 x2 x3 x4 x5 x6 x7 x8,aB w p [O U x0,ab x1,ab x2,ab x3,x4.v,x5.v,x6.v,x7.v,O U x8]/\K x0 x1 x2 x3 x4 x5 x6 x7 x8
abbrev oJ(w:av)(p:Addr)(K:Sl->Prop):Prop:=∃x0,aB w p [x0.v]/\K x0
abbrev xCQ(w:av)(p:Addr)(K:Option Addr->Prop):Prop:=∃x0,aB w p [ae x0]/\K x0
abbrev IV(w:av)(p:Addr)(K:aK->Prop):Prop:=∃x0,aB w p [ab x0]/\K x0
abbrev VO(w:av)(b n:Nat)(K:Bool->Bool->Bool->Bool->Prop):Prop:=∃x0 x1 x2 x3,aF w b n [aj x0,aj x1,aj x2,aj x3]/\K x0 x1 x2 x3
abbrev aak(w:av)(b n:Nat)(K:Int->Int->Int->Prop):Prop:=∃x0 x1 x2,aF w b n [O U x0,O U x1,O U x2]/\K x0 x1 x2
abbrev EN(w:av)(b n:Nat)(K:Int->aK->aK->aK->Sl->Sl->Sl->Sl->Int->Prop):Prop:=∃x0 x1 x2 x3 x4 x5 x6 x7 x8,aF w b n [O U x0,ab x1,ab x2,ab x3,x4.v,x5.v,x6.v,x7.v,O U x8]/\K x0 x1 x2 x3 x4 x5 x6 x7 x8
abbrev Nz(w:av)(b n:Nat)(K:Sl->Prop):Prop:=∃x0,aF w b n [x0.v]/\K x0
abbrev Sd(w:av)(b n:Nat)(K:Sl->Int->Int->Int->Int->Prop):Prop:=∃x0 x1 x2 x3 x4,aF w b n [x0.v,O U x1,O U x2,O U x3,O U x4]/\K x0 x1 x2 x3 x4
abbrev io(w:av)(b n:Nat)(K:Sl->Int->Int->Int->Int->Int->Int->Int->Int->Prop):Prop:=∃x0 x1 x2 x3 x4 x5 x6 x7 x8,aF w b n [x0.v,O U x1,O U x2,O U x3,O U x4,O U x5,O U x6,O U x7,O U x8]/\K x0 x1 x2 x3 x4 x5 x6 x7 x8
abbrev EO(w:av)(b n:Nat)(K:Sl->Int->Int->Int->Int->Sl->Prop):Prop:=∃x0 x1 x2 x3 x4 x5,aF w b n [x0.v,O U x1,O U x2,O U x3,O U x4,x5.v]/\K x0 x1 x2 x3 x4 x5
abbrev nK(w:av)(b n:Nat)(K:Sl->Int->aK->aK->aK->Sl->Sl->Sl->Sl->Int->Prop):Prop:=∃x0 x1 x2 x3 x4 x5 x6 x7 x8 x9,aF w b n [x0.v,O U x1,ab x2,ab x3,ab x4,x5.v,x6.v,x7.v,x8.v,O U x9]/\K x0 x1 x2 x3 x4 x5 x6 x7 x8 x9
abbrev xKQ(w:av)(b n:Nat)(K:Option Addr->Prop):Prop:=∃x0,aF w b n [ae x0]/\K x0
abbrev mc(w:av)(b n:Nat)(K:Option Addr->Sl->Bool->Int->Prop):Prop:=∃x0 x1 x2 x3,aF w b n [ae x0,x1.v,aj x2,O U x3]/\K x0 x1 x2 x3
abbrev IW(w:av)(b n:Nat)(K:Option Addr->Sl->Sl->Prop):Prop:=∃x0 x1 x2,aF w b n [ae x0,x1.v,x2.v]/\K x0 x1 x2
abbrev VP(w:av)(b n:Nat)(K:aK->Int->Prop):Prop:=∃x0 x1,aF w b n [ab x0,O U x1]/\K x0 x1
abbrev zq(w:av)(b n:Nat)(K:aK->Int->Sl->Sl->Prop):Prop:=∃x0 x1 x2 x3,aF w b n [ab x0,O U x1,x2.v,x3.v]/\K x0 x1 x2 x3
abbrev YO(s:Sl)(i:Int)(w:av)(K:Int->Prop):Prop:=∃p,dl s i 1 p/\∃x0,aB w p [O U x0]/\K x0
abbrev jo(s:Sl)(i:Int)(w:av)(K:Int->Int->aK->Int->Sl->Int->Prop):Prop:=∃p,dl s i 6 p/\∃x0 x1 x2 x3 x4 x5,aB w p [O U x0,O U x1,ab x2,O U x3,x4.v,O U x5]/\K x0 x1 x2 x3 x4 x5
abbrev jp(s:Sl)(i:Int)(w:av)(K:Int->aK->Int->Bool->Int->Int->aK->Int->Sl->Int->Sl->Sl->Int->Prop):Prop:=∃p,dl s i 13 p/\∃x0 x1 x2 x3 x4 x5 x6 x7 x8 x9 x10 x11 x12,aB w p [O U x0,ab x1,O U x2,aj x3,O U x4,O U x5,ab x6,O U x7,x8.v,O U x9,x10.v,x11.v,O U x12]/\K x0 x1 x2 x3 x4 x5 x6 x7 x8 x9 x10 x11 x12
abbrev NA(s:Sl)(i:Int)(w:av)(K:Int->aK->Int->Int->Prop):Prop:=∃p,dl s i 4 p/\∃x0 x1 x2 x3,aB w p [O U x0,ab x1,O U x2,O U x3]/\K x0 x1 x2 x3
abbrev IX(s:Sl)(i:Int)(w:av)(K:Int->aK->Int->Int->Int->Prop):Prop:=∃p,dl s i 5 p/\∃x0 x1 x2 x3 x4,aB w p [O U x0,ab x1,O U x2,O U x3,O U x4]/\K x0 x1 x2 x3 x4
abbrev rR(s:Sl)(i:Int)(w:av)(K:Int->aK->Int->Int->aK->Int->Sl->Int->Int->Prop):Prop:=∃p,dl s i 9 p/\∃x0 x1 x2 x3 x4 x5 x6 x7 x8,aB w p [O U x0,ab x1,O U x2,O U x3,ab x4,O U x5,x6.v,O U x7,O U x8]/\K x0 x1 x2 x3 x4 x5 x6 x7 x8
abbrev ga(s:Sl)(i:Int)(w:av)(K:Int->aK->aK->aK->Sl->Sl->Sl->Sl->Int->Prop):Prop:=∃p,dl s i 9 p/\∃x0 x1 x2 x3 x4 x5 x6 x7 x8,aB w p [O U x0,ab x1,ab x2,ab x3,x4.v,x5.v,x6.v,x7.v,O U x8]/\K x0 x1 x2 x3 x4 x5 x6 x7 x8
abbrev YP(s:Sl)(i:Int)(w:av)(K:Sl->Prop):Prop:=∃p,dl s i 1 p/\∃x0,aB w p [x0.v]/\K x0
abbrev EP(s:Sl)(i:Int)(w:av)(K:aK->Prop):Prop:=∃p,dl s i 1 p/\∃x0,aB w p [ab x0]/\K x0
abbrev aal(s:Sl)(i:Int)(w:av)(K:aK->Int->Int->Prop):Prop:=∃p,dl s i 3 p/\∃x0 x1 x2,aB w p [ab x0,O U x1,O U x2]/\K x0 x1 x2
end Go.Proofs.YtmhoiicofhlgbaaGreatDoor.Vc
