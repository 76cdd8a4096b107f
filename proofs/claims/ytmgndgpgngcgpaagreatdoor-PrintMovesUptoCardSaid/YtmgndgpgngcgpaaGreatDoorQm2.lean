import Derived.Test.YtmgndgpgngcgpaaGreatDoorQm1
import Derived.Shelf.Strings.Builder1
import Derived.Shelf.Strings.Builder2
import Derived.Shelf.Strings.OnBuilder
import Derived.Shelf.Strings.Trim
import Derived.Shelf.Small.Utf8
import Derived.Shelf.Small.Strs
import Derived.Shelf.Strings.BuilderF
import Derived.Shelf.Utf8.RuneCount
import Derived.Shelf.Strconv.Itoa0
import Derived.Shelf.Strconv.Itoa1
import Derived.Shelf.LaysM
import Derived.Shelf.Strconv.Itoa2
import Derived.Shelf.Strconv.Itoa3
import Derived.Shelf.Strconv.ParseIntEmpty
import Derived.Shelf.Strconv.Clone
import Derived.Shelf.Strconv.SyntaxError
import Derived.Shelf.LaysC
import Derived.Shelf.Strconv.ToError
import Derived.Shelf.Strconv.Lower
import Derived.Shelf.Strconv.ParseUint10
import Derived.Shelf.Strconv.ParseUint10Empty
import Derived.Shelf.Strconv.ParseUint10Any
import Derived.Shelf.Strconv.ParseInt10
import Derived.Shelf.Strconv.RangeError
import Derived.Shelf.Strconv.ToErrorRange
import Derived.Shelf.Strconv.ParseUintEmpty
import Derived.Shelf.Strconv.ParseUint10b64
import Derived.Shelf.Strconv.ParseUint10b32
import Derived.Shelf.Strconv.ParseUint10b16
import Derived.Shelf.Strconv.ParseUint10b8
import Derived.Shelf.Strconv.ParseUint10At
import Derived.Shelf.Strconv.ParseInt10At64
import Derived.Shelf.Strconv.ParseInt10At32
import Derived.Shelf.Strconv.ParseInt10At16
import Derived.Shelf.Strconv.ParseInt10At8
import Derived.Shelf.Strconv.ParseInt10All
import Derived.Shelf.Strconv.ParseIntPublic10
import Derived.Shelf.Strconv.ErrVarParseInt
import Derived.Shelf.Strings.Search1
import Derived.Shelf.Strings.Search2
import Derived.Shelf.Strings.Search3
import Derived.Shelf.Strings.Cut
import Derived.Shelf.Strings.Count
import Derived.Shelf.Strings.Shaped
import Derived.Shelf.Strings.Prefix
import Derived.Shelf.Strings.Split
import Derived.Shelf.Strings.SplitShaped
import Derived.Shelf.Unicode.Decode
import Derived.Shelf.Strings.Runes
import Derived.Shelf.Strings.RuneCount
import Derived.Shelf.Strings.AsciiSet
import Derived.Shelf.Strings.Explode
import Derived.Shelf.Bits.Mul64
import Derived.Shelf.Strings.Repeat
import Derived.Shelf.Unicode.DecodeSlow
import Derived.Shelf.Unicode.DecodeAny
set_option linter.unusedSectionVars false
set_option linter.unusedSimpArgs false
set_option linter.unusedVariables false
namespace Go.Kt.V
open Go renaming World->av,Value->aw
open Go Go.RowKit Go.Kt
theorem jV:∀l b i,cF (l++[b]) i=if i=l.length then some b else cF l i
 | [],b,0=>rfl
 | [],b,i+1=>rfl
 | a::r,b,0=>rfl
 | a::r,b,i+1=>by
  simp;exact jV r b i
theorem pF:∀{l:List jO} {i:Nat} {b:jO},cF l i=some b->i<l.length
 | a::r,0,_,_=>aM
 | a::r,i+1,b,h=>by simp[cF]at h;have:=pF h;simp;omega
theorem jb:∀{l:List jO} {i:Nat} {b c:jO},cF l i=some b->∀j,cF (I8 l i c) j=if j=i then some c else cF l j
 | a::r,0,b,c,_,0=>rfl
 | a::r,0,b,c,_,j+1=>rfl
 | a::r,i+1,b,c,h,0=>rfl
 | a::r,i+1,b,c,h,j+1=>by
  simp[cF]at h;simp;exact jb h j
theorem mc{b}{p q}(h:bif b then p else q):(b=true/\p)∨(b=false/\q):=by
 cases b with
 | true=>exact .inl ⟨rfl,h⟩
 | false=>exact .inr ⟨rfl,h⟩
def EP(bx:List jO)(i:Nat):Nat:=match cF bx i with
 | some b=>b.blk.getD 0
 | none=>0
def C3(bx:List jO)(i:Nat):Bool:=match cF bx i with
 | some b=>b.ok&&b.blk.isSome
 | none=>false
abbrev St.bl(st:St)(i:Nat):Nat:=EP st.bx i
abbrev St.Gb(st:St)(i:Nat):Bool:=C3 st.bx i
theorem Rep.bl{β}{st}{a}{w}(h:Rep β st a w) i (hg:st.Gb i=true):st.bl i=β i:=by
 unfold St.Gb C3 at hg;unfold St.bl EP;cases hb:cF st.bx i with
 | none=>rw[hb]at hg;cases hg
 | some b=>
  rw[hb]at hg;simp at hg;cases hk:b.blk with
  | none=>rw[hk]at hg;cases hg.2
  | some k=>
   have:=(h.bx i b hb hg.1).at_ k hk;simp[hk,this]
theorem Rep.rz{β}{st}{a}{w}(h:Rep β st a w){l}(hc:gN st.Gb l=true):ck st.bl l=ck β l:=gw (g:=st.Gb) h.bl l hc
theorem Rep.ZR{β}{st}{a}{w}(h:Rep β st a w){s}(hc:cln st.Gb s=true):val st.bl s=val β s:=iy (g:=st.Gb) h.bl s hc
def C4:List jO->(List jO->Prop)->Prop
 | [],K=>K []
 | b::r,K=>match b.ok,b.blk with
  | true,none=>∀k,C4 r λr'=>K ({b with blk:=some k}::r')
  | _,_=>C4 r λr'=>K (b::r')
def qJ(k:Nat)(b:jO):jO:=match b.ok,b.blk with
 | true,none=>{b with blk:=some k}
 | _,_=>b
def me(β:Nat->Nat):Nat->List jO->List jO
 | _,[]=>[]
 | n,b::r=>qJ (β n) b::me β (n+1) r
theorem xI β:∀{bs:List jO} n {K:List jO->Prop},C4 bs K->K (me β n bs)
 | [],_,_,h=>h
 | b::r,n,K,h=>by
  unfold C4 at h;unfold me;split at h
  ·have:=xI β (n+1) (h (β n));have e:qJ (β n) b={b with blk:=some (β n)}:=by unfold qJ<;>simp_all
   rw[e];exact this
  rename_i h1;have:=xI β (n+1) h;have e:qJ (β n) b=b:=by
   unfold qJ;split
   ·rename_i e1 e2;exact absurd e2 (λe2=>h1 e1 e2)
   rfl
  rw[e];exact this
theorem xJ β:∀bs n i,cF (me β n bs) i=(cF bs i).map (qJ (β (n+i)))
 | [],_,_=>rfl
 | b::r,n,0=>rfl
 | b::r,n,i+1=>by
  simp[me,cF];rw[xJ β r _ i,show n+1+i=n+(i+1) by omega]
def C5(w0 w:av):List jO->List jO->Prop->Prop
 | b::r,b'::r',p=>match b.ok,b.blk with
  | true,none=>w0.heap.size<=b'.blk.getD 0->b'.blk.getD 0<w.heap.size->C5 w0 w r r' p
  | _,_=>C5 w0 w r r' p
 | _,_,p=>p
theorem xK{β}{w0 w}:∀{bs:List jO} n {p:Prop},C5 w0 w bs (me β n bs) p->(∀i b,cF bs i=some b->b.ok=true->b.blk=none->w0.heap.size<=β (n+i)/\β (n+i)<w.heap.size)->p
 | [],_,_,h,_=>h
 | b::r,n,p,h,hb=>by
  simp[me]at h;unfold C5 at h;split at h
  ·rename_i h1 h2;obtain⟨e1,e2⟩:=hb 0 b rfl h1 h2;have e:(qJ (β n) b).blk.getD 0=β n:=by unfold qJ;rw[h1,h2];rfl
   rw[e]at h;exact xK _ (h e1 e2) λi c hc=>by have:=hb (i+1) c hc;rwa[show n+_=n+1+i by omega]at this
  exact xK _ h λi c hc=>by have:=hb (i+1) c hc;rwa[show n+_=n+1+i by omega]at this
def Wy(g:Nat->Bool)(bl:Nat->Nat)(w:av)(all:Bool):List jO->Prop->Prop
 | [],p=>p
 | b::r,p=>bif b.ok&&b.blk.isSome&&b.esc&&(all||!b.sh)&&gN g b.cells then Blk w (b.blk.getD 0) b.ty (ck bl b.cells)->Wy g bl w all r p else Wy g bl w all r p
theorem A1{g}{bl}{w}{all}:∀{bs:List jO} {p:Prop},Wy g bl w all bs p->(∀i b,cF bs i=some b->b.ok=true->b.blk.isSome=true->gN g b.cells=true->Blk w (b.blk.getD 0) b.ty (ck bl b.cells))->p
 | [],_,h,_=>h
 | b::r,p,h,hb=>by
  unfold Wy at h;cases hc:(b.ok&&b.blk.isSome&&b.esc&&_&&gN g b.cells)with
  | true=>
   rw[hc]at h;simp at hc;exact A1 (h (hb 0 b rfl hc.1.1.1.1 hc.1.1.1.2 hc.2)) λi c hi=>hb (i+1) c hi
  | false=>
   rw[hc]at h;exact A1 h λi c hi=>hb (i+1) c hi
def uf:List jO->List jO
 | []=>[]
 | b::r=>{b with sh:=b.esc}::uf r
theorem oO:∀l i,cF (uf l) i=(cF l i).map λb=>{b with sh:=b.esc}
 | [],_=>rfl
 | b::r,0=>rfl
 | b::r,i+1=>oO r i
def xL(bs:List jO):List Nat->Bool
 | []=>true
 | i::r=>(match cF bs i with
  | some b=>b.ok
  | none=>false)&&xL bs r
theorem rQ{bs}:∀{l:List Nat},xL bs l=true->∀i∈l,∃b,cF bs i=some b/\b.ok=true
 | i::r,h,j,hj=>by
  simp[xL,aP]at h;rcases aX.1 hj with rfl | hj
  ·split at h
   ·rename_i b hb;exact⟨b,hb,h.1⟩
   cases h.1
  exact rQ h.2 j hj
def Ja:List jO->List jO->List (Nat×Bool)
 | b::r,b'::r'=>bif b.ok&&b.blk.isNone then(b'.blk.getD 0,b.esc)::Ja r r' else Ja r r'
 | _,_=>[]
def K7(k:Nat):List (Nat×Bool)->Prop->Prop
 | [],p=>p
 | x::r,p=>bif x.2 then K7 k r p else(x.1≠k->K7 k r p)
def K8(all:List (Nat×Bool)):List (Nat×Bool)->Prop->Prop
 | [],p=>p
 | x::r,p=>bif x.2 then K7 x.1 all (K8 all r p)else K8 all r p
theorem A2{k}:∀{l:List _} {p:Prop},K7 k l p->(∀y,y∈l->y.2=false->y.1≠k)->p
 | [],_,h,_=>h
 | x::r,p,h,hd=>by
  unfold K7 at h;cases hx:x.2 with
  | true=>rw[hx]at h;exact A2 h λy hy=>hd y (cV _ hy)
  | false=>rw[hx]at h;exact A2 (h (hd x dG hx)) λy hy=>hd y (cV _ hy)
theorem A3{all}:∀{l:List _} {p:Prop},K8 all l p->(∀x,x∈l->x.2=true->∀y,y∈all->y.2=false->y.1≠x.1)->p
 | [],_,h,_=>h
 | x::r,p,h,hd=>by
  unfold K8 at h;cases hx:x.2 with
  | true=>rw[hx]at h;exact A3 (A2 h λy hy hf=>hd x dG hx y hy hf) λz hz=>hd z (cV _ hz)
  | false=>rw[hx]at h;exact A3 h λz hz=>hd z (cV _ hz)
theorem ug{β}:∀{bs:List jO} n {x:Nat×Bool},x∈Ja bs (me β n bs)->∃i b,cF bs i=some b/\b.ok=true/\x=(β (n+i),b.esc)
 | [],_,_,h=>aah
 | b::r,n,x,h=>by
  simp[me,Ja]at h;cases hc:(b.ok&&b.blk.isNone)with
  | true=>
   rw[hc]at h;simp at hc;rcases aX.1 h with rfl | h
   ·refine⟨0,b,rfl,hc.1,?_⟩;have:(qJ (β n) b).blk.getD 0=β n:=by unfold qJ;rw[hc.1,hc.2];rfl
    rw[this];rfl
   obtain⟨i,c,h1,h2,h3⟩:=ug _ h;exact⟨i+1,c,h1,h2,by rw[h3,show n+1+i=n+(i+1) by omega]⟩
  | false=>
   rw[hc]at h;obtain⟨i,c,h1,h2,h3⟩:=ug _ h;exact⟨i+1,c,h1,h2,by rw[h3,show n+1+i=n+(i+1) by omega]⟩
def xM:List jO->List Nat
 | []=>[]
 | b::r=>bif b.ok&&b.blk.isSome&&b.esc&&!b.sh then b.blk.getD 0::xM r else xM r
def xN:List jO->List Nat
 | []=>[]
 | b::r=>bif b.ok&&b.blk.isSome&&!b.esc then b.blk.getD 0::xN r else xN r
def TP(k:Nat):List Nat->Prop->Prop
 | [],p=>p
 | x::r,p=>x≠k->TP k r p
def PZ(NH:List Nat):List Nat->Prop->Prop
 | [],p=>p
 | k::r,p=>TP k NH (PZ NH r p)
theorem GU{k}:∀{l:List Nat} {p:Prop},TP k l p->(∀y,y∈l->y≠k)->p
 | [],_,h,_=>h
 | x::r,p,h,hd=>GU (h (hd x dG)) λy hy=>hd y (cV _ hy)
theorem A4{NH}:∀{l:List Nat} {p:Prop},PZ NH l p->(∀k,k∈l->∀y,y∈NH->y≠k)->p
 | [],_,h,_=>h
 | k::r,p,h,hd=>A4 (GU h λy hy=>hd k dG y hy) λz hz=>hd z (cV _ hz)
theorem vm:∀{bs:List jO} {x:Nat},x∈xM bs->∃i b,cF bs i=some b/\b.ok=true/\b.esc=true/\b.blk=some x
 | [],_,h=>aah
 | b::r,x,h=>by
  simp[xM]at h;cases hc:(b.ok&&b.blk.isSome&&b.esc&&!b.sh)with
  | true=>
   rw[hc]at h;simp at hc;rcases aX.1 h with rfl | h
   ·obtain⟨k,hk⟩:=ft.1 hc.1.1.2;exact⟨0,b,rfl,hc.1.1.1,hc.1.2,acI⟩
   obtain⟨i,c,h1,h2⟩:=vm h;exact⟨i+1,c,h1,h2⟩
  | false=>
   rw[hc]at h;obtain⟨i,c,h1,h2⟩:=vm h;exact⟨i+1,c,h1,h2⟩
theorem vp:∀{bs:List jO} {x:Nat},x∈xN bs->∃i b,cF bs i=some b/\b.ok=true/\b.esc=false/\b.blk=some x
 | [],_,h=>aah
 | b::r,x,h=>by
  simp[xN]at h;cases hc:(b.ok&&b.blk.isSome&&!b.esc)with
  | true=>
   rw[hc]at h;simp at hc;rcases aX.1 h with rfl | h
   ·obtain⟨k,hk⟩:=ft.1 hc.1.2;exact⟨0,b,rfl,hc.1.1,hc.2,acI⟩
   obtain⟨i,c,h1,h2⟩:=vp h;exact⟨i+1,c,h1,h2⟩
  | false=>
   rw[hc]at h;obtain⟨i,c,h1,h2⟩:=vp h;exact⟨i+1,c,h1,h2⟩
theorem C6{β}{st}{a}{w}(hR:Rep β st a w):∀k,k∈xM st.bx->∀y,y∈xN st.bx->y≠k:=λk hk y hy=>by
 obtain⟨i,b,i1,i2,i3,i4⟩:=vm hk;obtain⟨j,c,j1,j2,j3,j4⟩:=vp hy;rw[<-(hR.bx i b i1 i2).at_ k i4,<-(hR.bx j c j1 j2).at_ y j4];refine hR.ne j i c b j1 i1 j2 i2 λe=>?_;subst e;rw[i1]at j1;injection j1 with j1;subst j1;rw[i3]at j3;cases j3
def eh(st:St)(K:St->Prop):Prop:=
 bif st.mv then
  bif xL st.bx st.dt then
   C4 st.bx λbx=>∀w,C5 st.w0 w st.bx bx (Only (st.dt.map (EP bx)) st.w0 w->
    Wy (C3 bx) (EP bx) w true bx (K8 (Ja st.bx bx) (Ja st.bx bx) (PZ (xN st.bx) (xM st.bx) (K {st with bx:=uf bx,w0:=w,mv:=false,dt:=[]}))))
  else False
 else Wy st.Gb st.bl st.w0 false st.bx (PZ (xN st.bx) (xM st.bx) (K {st with bx:=uf st.bx}))
theorem dB{st}{K}(h:eh st K){β}{a}{w}(hR:Rep β st a w):∃cq,K cq/\Ext st cq/\Rep β cq a w/\cq.mv=false/\cq.fr=st.fr/\cq.n=st.n/\cq.ct=st.ct/\cq.bx.length=st.bx.length:=by
 rcases mc h with⟨hm,h⟩ | ⟨hm,h⟩
 case inr=>
  have hk:=A1 h λi b hb ho hs hc=>by
   have:=(hR.bx i b hb ho).blk;cases hk:b.blk with
   | none=>rw[hk]at hs;cases hs
   | some k=>
    have e:=(hR.bx i b hb ho).at_ k hk;rw[hR.rz hc,<-hR.still hm];rw[e]at this;exact this
  have hk:=A4 hk (C6 hR);have key:∀i b',cF (uf st.bx) i=some b'->∃b,cF st.bx i=some b/\b'={b with sh:=b.esc}:=λi b' hb=>by
   rw[oO]at hb;cases hn:cF st.bx i with
   | none=>rw[hn]at hb;cases hb
   | some b=>rw[hn]at hb;exact⟨b,rfl,by simpa using hb.symm⟩
  refine⟨_,hk,⟨rfl,aY _,λ_ _ _ h _=>h,λi b' hb ho _=>?_,λi b hb=>?_,Cy⟩,⟨hR.fr,λi b' hb ho=>?_,λi j bi bj h1 h2 h3 h4 zu=>?_,hR.only,hR.still⟩,hm,rfl,rfl,rfl,?_⟩
  ·obtain⟨b,h1,rfl⟩:=key i b' hb;exact⟨b,h1,ho,rfl,rfl,rfl,λ_ h=>h⟩
  ·exact⟨{b with sh:=b.esc},by rw[oO,hb];rfl,rfl,rfl,λ_ h=>h⟩
  ·obtain⟨b,h1,rfl⟩:=key i b' hb;have:=hR.bx i b h1 ho;exact⟨this.blk,this.at_,this.new⟩
  ·obtain⟨b,g1,rfl⟩:=key i bi h1;obtain⟨c,g2,rfl⟩:=key j bj h2;exact hR.ne i j b c g1 g2 h3 h4 zu
  have:∀l:List jO,(uf l).length=l.length:=λl=>by
   induction l with
   | nil=>rfl
   | cons b r ih=>simp[uf,ih]
  exact this _
 case inl=>
  obtain⟨fm,h⟩:=dh h;have h:=xI β 0 h w;have sR:∀i,cF _ i=(cF st.bx i).map (qJ (β i)):=λi=>by rw[xJ,bI]
  have IH:∀i b,cF st.bx i=some b->b.ok=true->∃b',cF _ i=some b'/\b'.ok=true/\b'.blk=some _/\b'.cells=b.cells/\b'.ty=b.ty/\b'.stp=b.stp:=λi b hb ho=>by
   refine⟨qJ _ b,by rw[sR,hb];rfl,?_⟩;unfold qJ;split
   ·exact⟨ho,rfl,rfl,rfl,rfl⟩
   rename_i ia;refine⟨ho,?_,rfl,rfl,rfl⟩;cases hk:b.blk with
   | none=>exact absurd hk (λe=>ia ho e)
   | some k=>rw[(hR.bx i b hb ho).at_ k hk]
  have U7:∀i b',cF (me β 0 st.bx) i=some b'->b'.ok=true->∃b,cF st.bx i=some b/\b.ok=true/\b'.blk=some _/\b'.cells=b.cells/\b'.ty=b.ty/\b'.stp=b.stp:=λi b' hb ho=>by
   rw[sR]at hb;cases hn:cF st.bx i with
   | none=>rw[hn]at hb;cases hb
   | some b=>
    rw[hn]at hb;simp at hb;subst hb;have Z8:=by
     unfold qJ at ho;split at ho
     ·assumption
     exact ho
    obtain⟨b2,e1,e2,e3,e4,e5,e6⟩:=IH i b hn Z8;rw[sR,hn]at e1;simp at e1;subst e1;exact⟨b,rfl,Z8,e3,e4,e5,e6⟩
  have h:=xK 0 h λi b hb ho hk=>by
   rw[bI];exact⟨(hR.bx i b hb ho).new hk,(hR.bx i b hb ho).blk.lt⟩
  have edt:st.dt.map (EP (me β 0 st.bx))=st.dt.map β:=by
   refine qB λi hi=>?_;obtain⟨b,h1,h2⟩:=rQ fm i hi;obtain⟨b',e1,e2,e3,_⟩:=IH i b h1 h2;unfold EP;rw[e1];simp[e3]
  have h:=h (by rw[edt];exact hR.only);have pj:∀i,C3 (me β 0 st.bx) i=true->EP (me β 0 st.bx) i=β i:=λi hg=>by
   unfold C3 at hg;unfold EP;cases hn:cF (me β 0 st.bx) i with
   | none=>rw[hn]at hg;cases hg
   | some b'=>
    rw[hn]at hg;simp at hg;obtain⟨b,_,_,e3,_⟩:=U7 i b' hn hg.1;simp[e3]
  have hk:=A1 h λi b' hb ho hs hc=>by
   obtain⟨b,e1,e2,e3,e4,e5,e6⟩:=U7 i b' hb ho;rw[gw pj _ hc,e3,e4,e5];exact(hR.bx i b e1 e2).blk
  have hk:=A3 hk λx hx NI y hy hye=>by
   obtain⟨i,b,i1,i2,rfl⟩:=ug 0 hx;obtain⟨j,c,j1,j2,rfl⟩:=ug 0 hy;rw[bI,bI];refine hR.ne j i c b j1 i1 j2 i2 λe=>?_;subst e;rw[i1]at j1;injection j1 with j1;subst j1;rw[NI]at hye;cases hye
  have hk:=A4 hk (C6 hR);have key:∀i b',cF _ i=some b'->b'.ok=true->∃b,cF st.bx i=some b/\b.ok=true/\b'.blk=some _/\b'.cells=b.cells/\b'.ty=b.ty/\b'.stp=b.stp:=λi b' hb ho=>by
   rw[oO]at hb;cases hn:cF (me β 0 st.bx) i with
   | none=>rw[hn]at hb;cases hb
   | some c=>
    rw[hn]at hb;simp at hb;subst hb;exact U7 i c hn ho
  refine⟨_,hk,⟨rfl,aY _,λ_ _ _ h _=>h,λi b' hb ho _=>?_,λi b hb=>?_,Cy⟩,⟨hR.fr,λi b' hb ho=>?_,λi j bi bj h1 h2 h3 h4 zu=>?_,Only.refl _ _,λ_=>rfl⟩,rfl,rfl,rfl,rfl,?_⟩
  ·obtain⟨b,e1,e2,e3,e4,e5,e6⟩:=key i b' hb ho;exact⟨b,e1,e2,e4.symm,e5.symm,e6.symm,λk hk=>by rw[e3,(hR.bx i b e1 e2).at_ k hk]⟩
  ·refine⟨{qJ _ b with sh:=(qJ _ b).esc},by rw[oO,sR,hb];rfl,?_⟩;unfold qJ;split
   ·rename_i e1 e2;exact⟨rfl,rfl,λk hk=>by rw[e2]at hk;cases hk⟩
   exact⟨rfl,rfl,λ_ h=>h⟩
  ·obtain⟨b,e1,e2,e3,e4,e5,e6⟩:=key i b' hb ho;refine⟨by rw[e4,e5];exact(hR.bx i b e1 e2).blk,λk hk=>by rw[e3]at hk;simpa using hk,λhk=>by rw[e3]at hk;cases hk⟩
  ·obtain⟨b,e1,e2,_⟩:=key i bi h1 h3;obtain⟨c,f1,f2,_⟩:=key j bj h2 h4;exact hR.ne i j b c e1 f1 e2 f2 zu
  have l1:∀l:List jO,(uf l).length=l.length:=λl=>by
   induction l with
   | nil=>rfl
   | cons b r ih=>simp[uf,ih]
  have l2:∀(l:List jO) n,(me β n l).length=l.length:=λl=>by
   induction l with
   | nil=>intro n;rfl
   | cons b r ih=>intro n;simp[me,ih]
  exact(l1 _).trans (l2 _ _)
def noB(n:Nat)(s:SV):Bool:=cln (λj=>!Nat.beq j n) s
def P0(n:Nat)(l:List SV):Bool:=gN (λj=>!Nat.beq j n) l
def Jb(n:Nat):List (Nat×Nat×SV)->Bool
 | []=>true
 | p::r=>noB n p.2.2&&Jb n r
def Fp(n:Nat):List jO->Bool
 | []=>true
 | b::r=>(!b.ok||P0 n b.cells)&&Fp n r
theorem A5{n}:∀{l:List _},Jb n l=true->∀i p,dA l i=some p->noB n p.2=true
 | [],_,i,p,h=>aah
 | (k,q)::r,h,i,p,hl=>by
  simp[Jb,aP]at h;simp[dA]at hl;cases hb:Nat.beq k i with
  | true=>rw[hb]at hl;simp at hl;subst hl;exact h.1
  | false=>rw[hb]at hl;exact A5 h.2 i p acp
theorem A6{n}:∀{l:List jO},Fp n l=true->∀i b,cF l i=some b->b.ok=true->P0 n b.cells=true
 | c::r,h,0,b,hb,ho=>by
  simp[Fp,aP,ci,cP]at h;simp[cF,bg]at hb;subst hb;rcases h.1 with h1 | h1
  ·rw[ho]at h1;cases h1
  exact h1
 | c::r,h,i+1,b,hb,ho=>by
  simp[Fp,aP]at h;exact A6 h.2 i b hb ho
def yU(β:Nat->Nat)(n b:Nat):Nat->Nat:=λi=>if i=n then b else β i
theorem xO{β}{n b:Nat}:∀i,(!Nat.beq i n)=true->β i=yU β n b i:=λi h=>by
 unfold yU;rw[aO];rintro rfl;simp at h
section
variable {β:Nat->Nat} {st:St} {a:Act} {w w1:av}
def St.B5(st:St)(d:Option Tmp)(t:TypeId)(zs:List SV):St:=
 St.put {st with bx:=st.bx++[⟨none,t,zs,st.ct,true,false,false⟩],mv:=true,ct:=st.ct+1} d (.box st.bx.length 0)
theorem Ext.B5 st d t zs:Ext st (st.B5 d t zs):=by
 refine Ext.trans (t:={st with bx:=st.bx++[_],mv:=true,ct:=st.ct+1}) ⟨rfl,iw _,λ_ _ _ h _=>h,λi b' hb ho hs=>?_,λi b hb=>?_,Cy⟩ (Ext.put _ _ _)
 ·rw[jV]at hb;split at hb
  ·simp at hb;subst hb;dsimp only at hs;omega
  exact⟨b',hb,ho,rfl,rfl,rfl,λ_ h=>h⟩
 exact⟨b,by dsimp only;rw[jV,aO (by have:=pF hb;omega)];exact hb,rfl,rfl,λ_ h=>h⟩
theorem Rep.B5(hR:Rep β st a w){d}{t}{zs}{b:Nat}(h1:Jb st.bx.length st.fr=true)(h2:Fp st.bx.length st.bx=true)(h3:P0 st.bx.length zs=true)
  (hb:w.heap.size<=b) (hO:Only [] w w1) (hB:Blk w1 b t (ck β zs)) (Z9:xL st.bx st.dt=true):
  Rep (yU β st.bx.length b) (st.B5 d t zs) (a.put d (.pointer (some ⟨b,0,none⟩))) w1:=by
 have tj:yU β st.bx.length b st.bx.length=b:=by unfold yU;rw[aR rfl]
 have cd:∀{i c},cF st.bx i=some c->yU β st.bx.length b i=β i:=fun{i c} h=>by
  unfold yU;rw[aO];have:=pF h;omega
 have base:Rep (yU β st.bx.length b) {st with bx:=st.bx++[⟨none,t,zs,st.ct,true,false,false⟩],mv:=true,ct:=st.ct+1} a w1:=by
  refine⟨pD ⟨hR.ok.sz,hR.ok.df,λi p hl hi=>?_⟩,λi c hc ho=>?_,λi j bi bj g1 g2 g3 g4 zu=>?_,?_,λh=>aah⟩
  ·rw[hR.ok.at_ i p hl hi];congr 1;exact iy (g:=λj=>!Nat.beq j st.bx.length) xO _ (A5 h1 i p hl)
  ·rw[jV]at hc;split at hc
   ·rename_i he;simp at hc;subst hc;subst he;refine⟨?_,λk hk=>(by cases hk),λ_=>?_⟩
    ·rw[tj];rw[<-gw (g:=λj=>!Nat.beq j st.bx.length) (β:=β) (β':=yU β st.bx.length b) xO _ h3];exact hB
    rw[tj];exact bh hR.only.size hb
   have e:=cd hc;obtain⟨k1,k2,k3⟩:=hR.bx i c hc ho;refine⟨?_,λk hk=>by rw[e];exact k2 k hk,λhk=>by rw[e];exact k3 hk⟩;rw[e,<-gw (g:=λj=>!Nat.beq j st.bx.length) (β:=β) (β':=yU β st.bx.length b) xO _ (A6 h2 i c hc ho)];exact hO.blk k1 aM
  ·rw[jV]at g1 g2;split at g1
   ·rename_i e1;split at g2
    ·omega
    subst e1;rw[tj,cd g2];have:=(hR.bx j bj g2 g4).blk.lt;omega
   split at g2
   ·rename_i e2;subst e2;rw[tj,cd g1];have:=(hR.bx i bi g1 g3).blk.lt;omega
   rw[cd g1,cd g2];exact hR.ne i j bi bj g1 g2 g3 g4 zu
  have e:=qB λi hi=>by
   obtain⟨c,hc,_⟩:=rQ Z9 i hi;exact cd hc
  rw[e];exact hR.only.cn hO
 have:=base.put d (.box st.bx.length 0);rw[show val (yU β st.bx.length b) _=.pointer _ by
  show Value.pointer _=_;rw[tj]]at this
 exact this
def St.rA(st:St)(i:Nat)(b:jO)(cs:List SV):St:=
 {st with bx:=I8 st.bx i {b with cells:=cs,stp:=st.ct,sh:=false},mv:=true,dt:=(bif b.blk.isSome&&!st.dt.elem i then i::st.dt else st.dt),ct:=st.ct+1}
theorem Ext.rA{st}{i}{b}{cs}(h:cF st.bx i=some b):Ext st (st.rA i b cs):=by
 refine⟨rfl,iw _,λ_ _ _ h _=>h,λj b' hb ho hs=>?_,λj c hc=>?_,Cy⟩
 ·simp[St.rA]at hb;rw[jb h]at hb;split at hb
  ·simp at hb;subst hb;dsimp only at hs;omega
  exact⟨b',hb,ho,rfl,rfl,rfl,λ_ h=>h⟩
 simp[St.rA];rw[jb h];split
 ·rename_i e;subst e;rw[h]at hc;simp at hc;subst hc;exact⟨_,rfl,rfl,rfl,λ_ h=>h⟩
 exact⟨c,hc,rfl,rfl,λ_ h=>h⟩
theorem Rep.rA(hR:Rep β st a w){i}{b}{cs}(h:cF st.bx i=some b)(ho:b.ok=true)(hO:Only [β i] w w1)(hB:Blk w1 (β i) b.ty (ck β cs)):Rep β (st.rA i b cs) a w1:=by
 have hk:=hR.bx i b h ho;refine⟨hR.fr,λj c hc qE=>?_,λj l bj bl g1 g2 g3 g4 zu=>?_,?_,λh=>aah⟩
 ·simp[St.rA]at hc;rw[jb h]at hc;split at hc
  ·rename_i e;subst e;simp at hc;subst hc;exact⟨hB,hk.at_,hk.new⟩
  rename_i ia;obtain⟨k1,k2,k3⟩:=hR.bx j c hc qE;exact⟨hO.blk k1 (by simpa using hR.ne j i c b hc h qE ho ia),k2,k3⟩
 ·simp[St.rA]at g1 g2;rw[jb h]at g1 g2;have key:∀{j c},(if j=i then some {b with cells:=cs,stp:=st.ct,sh:=false}else cF st.bx j)=some c->c.ok=true->∃c',cF st.bx j=some c'/\c'.ok=true:=fun{j c} g hc=>by
   split at g
   ·rename_i e;subst e;exact⟨b,h,ho⟩
   exact⟨c,g,hc⟩
  obtain⟨c1,e1,e2⟩:=key g1 g3;obtain⟨c2,f1,f2⟩:=key g2 g4;exact hR.ne j l c1 c2 e1 f1 e2 f2 zu
 show Only ((bif b.blk.isSome&&!st.dt.elem i then i::st.dt else st.dt).map β) st.w0 w1;cases hb:(b.blk.isSome&&!st.dt.elem i)with
 | true=>exact hR.only.cons hO
 | false=>
  simp only[oH,gv]at hb;rcases hb with hb | hb
  ·refine hR.only.new hO (hk.new ?_);cases hn:b.blk with
   | none=>rfl
   | some k=>rw[hn]at hb;cases hb
  refine hR.only.mem hO (rL.2 ⟨i,?_,rfl⟩);simpa using hb
structure Flg (l l':List jO):Prop where
 fw:∀i b,cF l' i=some b->∃c,cF l i=some c/\c.blk=b.blk/\c.ty=b.ty/\c.cells=b.cells/\c.stp=b.stp/\c.ok=b.ok
 bw:∀i b,cF l i=some b->∃c,cF l' i=some c/\c.ty=b.ty/\c.ok=b.ok/\∀k,b.blk=some k->c.blk=some k
theorem Flg.refl l:Flg l l:=⟨λi b h=>⟨b,h,rfl,rfl,rfl,rfl,rfl⟩,KX⟩
theorem Flg.trans{l m n}(h:Flg l m)(k:Flg m n):Flg l n:=⟨λi b hb=>by
 obtain⟨c,c1,c2,c3,c4,c5,c6⟩:=k.fw i b hb;obtain⟨d,d1,d2,d3,d4,d5,d6⟩:=h.fw i c c1;exact⟨d,d1,d2.trans c2,d3.trans c3,d4.trans c4,d5.trans c5,d6.trans c6⟩,λi b hb=>by
 obtain⟨c,c1,c2,c3,c4⟩:=h.bw i b hb;obtain⟨d,d1,d2,d3,d4⟩:=k.bw i c c1;exact⟨d,d1,d2.trans c2,d3.trans c3,λm hm=>d4 m (c4 m hm)⟩⟩
theorem Ext.flg{l'}(h:Flg st.bx l'):Ext st {st with bx:=l'}:=⟨rfl,aY _,λ_ _ _ h _=>h,λi b' hb ho _=>by
 obtain⟨c,c1,c2,c3,c4,c5,c6⟩:=h.fw i b' hb;exact⟨c,c1,c6.trans ho,c4,c3,c5,λk hk=>by rw[<-c2];exact hk⟩,h.bw,Cy⟩
theorem Rep.flg{l'}(hR:Rep β st a w)(h:Flg st.bx l'):Rep β {st with bx:=l'} a w:=by
 refine⟨hR.fr,λi b hb ho=>?_,λi j bi bj g1 g2 g3 g4 zu=>?_,hR.only,hR.still⟩
 ·obtain⟨c,c1,c2,c3,c4,c5,c6⟩:=h.fw i b hb;obtain⟨k1,k2,k3⟩:=hR.bx i c c1 (c6.trans ho);exact⟨by rw[<-c3,<-c4];exact k1,λk hk=>k2 k (c2.trans hk),λhk=>k3 (c2.trans hk)⟩
 obtain⟨c,c1,_,_,_,_,c6⟩:=h.fw i bi g1;obtain⟨d,d1,_,_,_,_,d6⟩:=h.fw j bj g2;exact hR.ne i j c d c1 d1 (c6.trans g3) (d6.trans g4) zu
def RY:SV->List Nat
 | .box i _=>[i]
 | .fn _ fs cs=>RY fs++RY cs
 | .agg l=>RY l
 | .tup l=>RY l
 | .c h t=>RY h++RY t
 | _=>[]
def Jc:Nat->List Nat->List jO->List jO
 | 0,_,bx=>bx
 | _+1,[],bx=>bx
 | f+1,i::r,bx=>match cF bx i with
  | some b=>bif b.esc then Jc f r bx else Jc f (flat RY b.cells++r) (I8 bx i {b with esc:=true,sh:=false})
  | none=>Jc f r bx
theorem qK:∀f l bx,Flg bx (Jc f l bx)
 | 0,_,bx=>Flg.refl _
 | _+1,[],bx=>Flg.refl _
 | f+1,i::r,bx=>by
  unfold Jc;split
  ·rename_i b hb;cases he:b.esc with
   | true=>exact qK f r bx
   | false=>
    refine Flg.trans ⟨λj c hc=>?_,λj c hc=>?_⟩ (qK f _ _);rotate_left
    ·rw[jb hb];split
     ·rename_i e;subst e;rw[hb]at hc;simp at hc;subst hc;exact⟨_,rfl,rfl,rfl,λ_ h=>h⟩
     exact⟨c,hc,rfl,rfl,λ_ h=>h⟩
    rw[jb hb]at hc;split at hc
    ·rename_i e;subst e;simp at hc;subst hc;exact⟨b,hb,rfl,rfl,rfl,rfl,rfl⟩
    exact⟨c,hc,rfl,rfl,rfl,rfl,rfl⟩
  exact qK f r bx
def St.esc(st:St)(l:List SV):St:={st with bx:=Jc 1000 (flat RY l) st.bx}
theorem Ext.esc st l:Ext st (st.esc l):=Ext.flg (qK _ _ _)
theorem Rep.esc(hR:Rep β st a w) l:Rep β (st.esc l) a w:=hR.flg (qK _ _ _)
end
def zc(P:Program)(t:TypeId):Option (List SV):=match P.info? t with
 | some i=>(match i.zero with
  | some z=>Fi z.cells.toList
  | none=>none)
 | none=>none
theorem RZ{P}{t}{zs}(h:zc P t=some zs) w:∃z,(zeroValue t).run P w=.ok z w/\∀β,z.cells=(ck β zs).toArray:=by
 unfold zc at h;split at h
 ·rename_i i hi;split at h
  ·rename_i z hz;exact⟨z,by simp[zeroValue,typeInfo,hi,hz],λβ=>by rw[wT β h]⟩
  cases h
 cases h
def Wz(st:St)(zs:List SV):Bool:=Jb st.bx.length st.fr&&Fp st.bx.length st.bx&&P0 st.bx.length zs&&xL st.bx st.dt
def oP:List jO->Bool
 | []=>true
 | b::r=>(!b.ok||b.blk.isSome)&&oP r
theorem uh:∀{l:List jO},oP l=true->∀i b,cF l i=some b->b.ok=true->b.blk.isSome=true
 | c::r,h,0,b,hb,ho=>by
  simp[oP,aP,ci,cP]at h;simp[cF,bg]at hb;subst hb;rcases h.1 with h1 | h1
  ·rw[ho]at h1;cases h1
  exact h1
 | c::r,h,i+1,b,hb,ho=>by
  simp[oP,aP]at h;exact uh h.2 i b hb ho
def neB(bk:Nat):List jO->Prop->Prop
 | [],p=>p
 | b::r,p=>bif b.ok then b.blk.getD 0≠bk/\neB bk r p else neB bk r p
theorem Fq{bk}:∀{l:List jO} {p:Prop},neB bk l p->p/\∀i b,cF l i=some b->b.ok=true->b.blk.getD 0≠bk
 | [],p,h=>⟨h,λi b hb=>acq⟩
 | c::r,p,h=>by
  rcases mc h with⟨hc,h⟩ | ⟨hc,h⟩
  ·obtain⟨h1,h2⟩:=h;obtain⟨h3,h4⟩:=Fq h2;refine⟨h3,λi b hb ho=>?_⟩;cases i with
   | zero=>simp[cF,bg]at hb;subst hb;exact h1
   | succ i=>exact h4 i b hb ho
  obtain⟨h3,h4⟩:=Fq h;refine⟨h3,λi b hb ho=>?_⟩;cases i with
  | zero=>simp[cF,bg]at hb;subst hb;rw[hc]at ho;cases ho
  | succ i=>exact h4 i b hb ho
def sY(esc:Bool):List jO->List Nat
 | []=>[]
 | b::r=>bif b.ok&&(esc||!b.esc)then b.blk.getD 0::sY esc r else sY esc r
theorem mS{esc}:∀{l:List jO} {i:Nat} {b:jO},cF l i=some b->b.ok=true->(esc||!b.esc)=true->b.blk.getD 0∈sY esc l
 | c::r,0,b,h,ho,he=>by
  simp[cF,bg]at h;subst h;simp[sY,ho,he]
 | c::r,i+1,b,h,ho,he=>by
  have:=mS (l:=r) (i:=i) h ho he;simp[sY];cases(c.ok&&_)with
  | true=>simp[this]
  | false=>exact this
def xP(l:List Nat)(w0 w1:av)(p:Prop):Prop:=match l with
 | []=>p
 | _=>cb l w0 w1/\p
theorem qL{l}{w0 w1}{p}(h:xP l w0 w1 p):p/\cb l w0 w1:=by
 unfold xP at h;split at h
 ·exact⟨h,KS⟩
 exact⟨h.2,h.1⟩
def K9(P:Program)(w1:av)(ct:Nat):List jO->(List jO->Prop)->Prop
 | [],K=>K []
 | b::r,K=>bif b.ok&&b.esc then PQ (KY P 12 b.ty) λvs=>Blk w1 (b.blk.getD 0) b.ty (ck β0 vs)/\K9 P w1 ct r λr'=>K ({b with cells:=vs,stp:=ct,sh:=true}::r')
  else K9 P w1 ct r λr'=>K (b::r')
theorem wU{P}{w1}{ct}:∀{l:List jO} {K:List jO->Prop},K9 P w1 ct l K->∃l',K l'/\(∀i b',cF l' i=some b'->∃b,cF l i=some b/\b'.ok=b.ok/\b'.blk=b.blk/\b'.ty=b.ty/\
  ((b'=b/\(b.ok&&b.esc)=false)∨(b'.stp=ct/\(∀β,ck β b'.cells=ck β0 b'.cells)/\Blk w1 (b.blk.getD 0) b.ty (ck β0 b'.cells))))/\
  ∀i b,cF l i=some b->∃b',cF l' i=some b'/\b'.ty=b.ty/\b'.ok=b.ok/\∀k,b.blk=some k->b'.blk=some k
 | [],K,h=>⟨[],h,λi b' hb=>acq,λi b hb=>acq⟩
 | c::r,K,h=>by
  rcases mc h with⟨hc,h⟩ | ⟨hc,h⟩
  ·obtain⟨vs,⟨hB,h⟩,_,pj⟩:=qI h;obtain⟨l',h1,h2,h3⟩:=wU h;refine⟨_,h1,λi b' hb=>?_,λi b hb=>?_⟩;rotate_left
   ·cases i with
    | zero=>simp[cF,bg]at hb;subst hb;exact⟨_,rfl,rfl,rfl,λ_ h=>h⟩
    | succ i=>exact h3 i b hb
   cases i with
   | zero=>
    simp[cF,bg]at hb;subst hb;exact⟨c,rfl,rfl,rfl,rfl,.inr ⟨rfl,λβ=>gw (g:=λ_=>false) (λi h=>aah) vs (pj _),hB⟩⟩
   | succ i=>exact h2 i b' hb
  obtain⟨l',h1,h2,h3⟩:=wU h;refine⟨_,h1,λi b' hb=>?_,λi b hb=>?_⟩;rotate_left
  ·cases i with
   | zero=>simp[cF,bg]at hb;subst hb;exact⟨_,rfl,rfl,rfl,λ_ h=>h⟩
   | succ i=>exact h3 i b hb
  cases i with
  | zero=>
   simp[cF,bg]at hb;subst hb;exact⟨c,rfl,rfl,rfl,rfl,.inl ⟨rfl,hc⟩⟩
  | succ i=>exact h2 i b' hb
def XQ(P:Program):List TypeId->(List SV->Prop)->Prop
 | [],K=>K []
 | t::r,K=>PQ (KY P 12 t) λvs=>XQ P r λrs=>K (I9 (match P.underlying t with | some d=>lm d | none=>false) vs::rs)
theorem A7 g:∀l,cln g (lR l)=gN g l
 | []=>rfl
 | s::r=>by simp[lR,cln,gN,A7 g r]
theorem GV g ag {l} (h:gN g l=true):cln g (I9 ag l)=true:=by
 cases ag with
 | true=>show cln g (lR l)=true;rw[A7];exact h
 | false=>
  cases l with
  | nil=>rfl
  | cons s r=>simp[gN,aP]at h;exact h.1
theorem A8{P}:∀{ts:List TypeId} {K:List SV->Prop},XQ P ts K->∃rs,K rs/\∀g,gN g rs=true
 | [],K,h=>⟨[],h,λ_=>rfl⟩
 | t::r,K,h=>by
  obtain⟨vs,h,_,h2⟩:=qI h;obtain⟨rs,h3,h4⟩:=A8 h;exact⟨_,h3,λg=>by simp[gN,GV g _ (h2 g),h4 g,cH]⟩
def xQ(rs:List SV):SV:=match rs with
 | [r]=>r
 | rs=>.tup (lR rs)
theorem ui{g}{rs}(h:gN g rs=true):cln g (xQ rs)=true:=by
 unfold xQ;split
 ·simp only[gN,aP]at h;exact h.1
 show cln g (lR _)=true;rw[A7];exact h
def A9(P:Program)(t:TypeId):List TypeId:=match P.underlying t with
 | some (.tuple ts)=>ts.toList
 | _=>[t]
def La(P:Program)(f:FuncId):Bool:=match P.funcs[f]? with
 | some fn=>!(fn.name== "runtime.NumGoroutine")&&fn.body.isSome
 | none=>false
theorem ky{P}{f}(h:La P f=true) args w:(callFunc f args).run P w=.ok (.enter f args) w:=by
 unfold La at h;split at h
 ·rename_i fn hf;simp at h;have hb:fn.body≠none:=by
   intro hq;rw[hq]at h;cases h.2
  have hn:fn.name≠ "runtime.NumGoroutine" :=by
   intro hq;rw[hq]at h;simp at h
  simp[callFunc,hf,hn,hb]
 cases h
def XR(P:Program)(f:FuncId):List TypeId:=match P.funcs[f]? with
 | some fn=>fn.resultTypes.toList
 | none=>[]
abbrev XT:=av->av->Prop->Prop
section
variable {P:Program} {β:Nat->Nat} {st:St} {a:Act} {w w1:av}
theorem Rep.next(hR:Rep β st a w)(hm:st.mv=false)(hb:oP st.bx=true){WQ}{ct'}
  (h:∀i b',cF WQ i=some b'->b'.ok=true->∃b,cF st.bx i=some b/\b.ok=true/\b'.blk=b.blk/\Blk w1 (β i) b'.ty (ck β b'.cells)):Rep β {st with bx:=WQ,w0:=w1,ct:=ct'} a w1:=by
 have key:∀i b,cF st.bx i=some b->b.ok=true->b.blk=some (β i):=λi b h1 h2=>by
  have:=uh hb i b h1 h2;cases hk:b.blk with
  | none=>rw[hk]at this;cases this
  | some k=>rw[(hR.bx i b h1 h2).at_ k hk]
 refine⟨hR.fr,λi b' mH ho=>?_,λi j bi bj g1 g2 g3 g4 zu=>?_,Only.refl _ _,λ_=>rfl⟩
 ·obtain⟨b,h1,h2,h3,h4⟩:=h i b' mH ho;exact⟨h4,λk hk=>by rw[h3,key i b h1 h2]at hk;simpa using hk,λhk=>by rw[h3,key i b h1 h2]at hk;cases hk⟩
 obtain⟨b,h1,h2,_⟩:=h i bi g1 g3;obtain⟨c,k1,k2,_⟩:=h j bj g2 g4;exact hR.ne i j b c h1 k1 h2 k2 zu
theorem Rep.JO(hR:Rep β st a w)(hb:oP st.bx=true){i}{b}(h1:cF st.bx i=some b)(h2:b.ok=true):b.blk.getD 0=β i:=by
 have:=uh hb i b h1 h2;cases hk:b.blk with
 | none=>rw[hk]at this;cases this
 | some k=>rw[(hR.bx i b h1 h2).at_ k hk];rfl
def Lb(P:Program)(X:XT)(st:St)(d:Option Tmp)(Ce:List TypeId)(f:FuncId)(args:List SV)(nC:List aw)(K:St->Prop):Prop:=
 bif gN st.Gb args&&oP st.bx then
  Calls P f (ck st.bl args++nC).toArray st.w0 λe w1=>XQ P Ce λrs=>e=.returned (val β0 (xQ rs))/\
   xP (sY false st.bx) st.w0 w1 (K9 P w1 st.ct st.bx λbx=>X st.w0 w1 (K (St.put {st with bx:=bx,w0:=w1,ct:=st.ct+1} d (xQ rs))))
 else False
theorem Lc{X}{E:av->av->Prop}(hX:∀w0 w1 p,X w0 w1 p->p/\E w0 w1){d}{Ce}{f}{args}{nC}{K}(h:Lb P X st d Ce f args nC K)(hm:st.mv=false)(hR:Rep β st a w):
  Calls P f (ck β args++nC).toArray w λe w'=>∃v,e=.returned v/\∃cq,K cq/\Ext st cq/\E w w'/\Rep β cq (a.put d v) w':=by
 obtain⟨h0,h⟩:=dh h;simp at h0;rw[hR.rz h0.1,<-hR.still hm]at h;refine h.mono ?_;rintro e w1 h;obtain⟨rs,⟨rfl,h1⟩,pj⟩:=A8 h;obtain⟨h2,hS⟩:=qL h1;obtain⟨WQ,h3,hb,EW⟩:=wU h2;obtain⟨h,hE⟩:=hX _ _ _ h3;have ev:val β0 _=val β _:=iy (g:=λ_=>false) (λi h=>aah) _ (ui (pj _));refine⟨_,rfl,_,h,?_,hE,?_⟩
 ·refine Ext.trans (t:={st with bx:=WQ,w0:=w1,ct:=st.ct+1}) ⟨rfl,iw _,λ_ _ _ h _=>h,λi b' mH ho hs=>?_,EW,Cy⟩ (Ext.put _ _ _);obtain⟨b,h1,h2,h3,h4,h5⟩:=hb i b' mH;rcases h5 with⟨rfl,_⟩ | _
  ·exact⟨b',h1,ho,rfl,rfl,rfl,λ_ h=>h⟩
  omega
 rw[ev];refine Rep.put (Rep.next hR hm h0.2 λi b' mH ho=>?_) _ _;obtain⟨b,h1,h2,h3,h4,h5⟩:=hb i b' mH;have CD:b.ok=true:=by rw[<-h2];exact ho
 refine⟨b,h1,CD,h3,?_⟩;have eD:=hR.JO h0.2 h1 CD;rcases h5 with⟨rfl,h6⟩ | ⟨_,h6,h7⟩
 ·have uU:=mS (esc:=false) h1 CD (by rw[CD]at h6;simpa using h6);rw[eD]at uU;exact(hS _ uU).trans (hR.bx i b' h1 CD).blk
 rw[h4,h6 β,<-eD];exact h7
def zj(a b:List aw):List aw:=a++b
def Ld(P:Program)(X:XT)(st:St)(d:Option Tmp)(Ce:List TypeId)(f:FuncId)(fst:List aw)(args:List SV)(nC:List aw)(K:St->Prop):Prop:=
 bif gN st.Gb args&&oP st.bx then
  Calls P f (zj (zj fst (ck st.bl args)) nC).toArray st.w0 λe w1=>XQ P Ce λrs=>e=.returned (val β0 (xQ rs))/\
   xP (sY false st.bx) st.w0 w1 (K9 P w1 st.ct st.bx λbx=>X st.w0 w1 (K (St.put {st with bx:=bx,w0:=w1,ct:=st.ct+1} d (xQ rs))))
 else False
theorem Lg{X}{E:av->av->Prop}(hX:∀w0 w1 p,X w0 w1 p->p/\E w0 w1){d}{Ce}{f}{fst}{args}{nC}{K}(h:Ld P X st d Ce f fst args nC K)(hm:st.mv=false)(hR:Rep β st a w):
  Calls P f (zj (zj fst (ck β args)) nC).toArray w λe w'=>∃v,e=.returned v/\∃cq,K cq/\Ext st cq/\E w w'/\Rep β cq (a.put d v) w':=by
 obtain⟨h0,h⟩:=dh h;simp at h0;rw[hR.rz h0.1,<-hR.still hm]at h;refine h.mono ?_;rintro e w1 h;obtain⟨rs,⟨rfl,h1⟩,pj⟩:=A8 h;obtain⟨h2,hS⟩:=qL h1;obtain⟨WQ,h3,hb,EW⟩:=wU h2;obtain⟨h,hE⟩:=hX _ _ _ h3;have ev:val β0 _=val β _:=iy (g:=λ_=>false) (λi h=>aah) _ (ui (pj _));refine⟨_,rfl,_,h,?_,hE,?_⟩
 ·refine Ext.trans (t:={st with bx:=WQ,w0:=w1,ct:=st.ct+1}) ⟨rfl,iw _,λ_ _ _ h _=>h,λi b' mH ho hs=>?_,EW,Cy⟩ (Ext.put _ _ _);obtain⟨b,h1,h2,h3,h4,h5⟩:=hb i b' mH;rcases h5 with⟨rfl,_⟩ | _
  ·exact⟨b',h1,ho,rfl,rfl,rfl,λ_ h=>h⟩
  omega
 rw[ev];refine Rep.put (Rep.next hR hm h0.2 λi b' mH ho=>?_) _ _;obtain⟨b,h1,h2,h3,h4,h5⟩:=hb i b' mH;have CD:b.ok=true:=by rw[<-h2];exact ho
 refine⟨b,h1,CD,h3,?_⟩;have eD:=hR.JO h0.2 h1 CD;rcases h5 with⟨rfl,h6⟩ | ⟨_,h6,h7⟩
 ·have uU:=mS (esc:=false) h1 CD (by rw[CD]at h6;simpa using h6);rw[eD]at uU;exact(hS _ uU).trans (hR.bx i b' h1 CD).blk
 rw[h4,h6 β,<-eD];exact h7
def qo(P:Program)(X:XT)(st:St)(d:Option Tmp)(Ce:List TypeId)(args:List SV)(run:List aw->Sem aw)(K:St->Prop):Prop:=
 bif gN st.Gb args&&oP st.bx then
  XQ P Ce λrs=>∃w1,(run (ck st.bl args)).run P st.w0=.ok (val β0 (xQ rs)) w1/\xP (sY true st.bx) st.w0 w1 (X st.w0 w1 (K (St.put {st with w0:=w1} d (xQ rs))))
 else False
theorem GW{X}{E:av->av->Prop}(hX:∀w0 w1 p,X w0 w1 p->p/\E w0 w1){d}{Ce}{args}{run}{K}(h:qo P X st d Ce args run K)(hm:st.mv=false)(hR:Rep β st a w):
  ∃v w',(run (ck β args)).run P w=.ok v w'/\∃cq,K cq/\Ext st cq/\E w w'/\Rep β cq (a.put d v) w':=by
 obtain⟨h0,h⟩:=dh h;simp at h0;rw[hR.rz h0.1,<-hR.still hm]at h;obtain⟨rs,⟨w1,hr,h⟩,pj⟩:=A8 h;obtain⟨h,hS⟩:=qL h;obtain⟨h,hE⟩:=hX _ _ _ h;have ev:val β0 _=val β _:=iy (g:=λ_=>false) (λi h=>aah) _ (ui (pj _));refine⟨_,w1,hr,_,h,?_,hE,?_⟩
 ·refine Ext.trans (t:={st with w0:=w1}) ⟨rfl,aY _,λ_ _ _ h _=>h,λi b' mH ho hs=>⟨b',mH,ho,rfl,rfl,rfl,λ_ h=>h⟩,KX,Cy⟩ (Ext.put _ _ _)
 rw[ev];refine Rep.put (Rep.next (ct':=st.ct) hR hm h0.2 λi b' mH ho=>⟨b',mH,ho,rfl,?_⟩) _ _;have uU:=mS (esc:=true) mH ho rfl;rw[hR.JO h0.2 mH ho]at uU;exact(hS _ uU).trans (hR.bx i b' mH ho).blk
def Lh(P:Program)(X:XT)(st:St)(d:Option Tmp)(args:List SV)(run:List aw->Sem aw)(rs:SV)(K:St->Prop):Prop:=
 bif gN st.Gb args&&oP st.bx&&cln (λ_=>false) rs then
  ∃w1,(run (ck st.bl args)).run P st.w0=.ok (val β0 rs) w1/\xP (sY true st.bx) st.w0 w1 (X st.w0 w1 (K (St.put {st with w0:=w1} d rs)))
 else False
theorem wV{X}{E:av->av->Prop}(hX:∀w0 w1 p,X w0 w1 p->p/\E w0 w1){d}{args}{run}{rs}{K}(h:Lh P X st d args run rs K)(hm:st.mv=false)(hR:Rep β st a w):
  ∃v w',(run (ck β args)).run P w=.ok v w'/\∃cq,K cq/\Ext st cq/\E w w'/\Rep β cq (a.put d v) w':=by
 obtain⟨h0,h⟩:=dh h;simp at h0;rw[hR.rz h0.1.1,<-hR.still hm]at h;obtain⟨w1,hr,h⟩:=h;obtain⟨h,hS⟩:=qL h;obtain⟨h,hE⟩:=hX _ _ _ h;have ev:val β0 rs=val β rs:=iy (g:=λ_=>false) (λi h=>aah) _ h0.2;refine⟨_,w1,hr,_,h,?_,hE,?_⟩
 ·refine Ext.trans (t:={st with w0:=w1}) ⟨rfl,aY _,λ_ _ _ h _=>h,λi b' mH ho hs=>⟨b',mH,ho,rfl,rfl,rfl,λ_ h=>h⟩,KX,Cy⟩ (Ext.put _ _ _)
 rw[ev];refine Rep.put (Rep.next (ct':=st.ct) hR hm h0.1.2 λi b' mH ho=>⟨b',mH,ho,rfl,?_⟩) _ _;have uU:=mS (esc:=true) mH ho rfl;rw[hR.JO h0.1.2 mH ho]at uU;exact(hS _ uU).trans (hR.bx i b' mH ho).blk
def P1(P:Program)(X:XT)(st:St)(d:Option Tmp)(args:List SV)(run:List aw->Sem Unit)(K:St->Prop):Prop:=
 bif gN st.Gb args&&oP st.bx then
  ∃w1,(run (ck st.bl args)).run P st.w0=.ok () w1/\xP (sY true st.bx) st.w0 w1 (X st.w0 w1 (K (St.put {st with w0:=w1} d .un)))
 else False
theorem P2{X}{E:av->av->Prop}(hX:∀w0 w1 p,X w0 w1 p->p/\E w0 w1){d}{args}{run}{K}(h:P1 P X st d args run K)(hm:st.mv=false)(hR:Rep β st a w):
  ∃w',(run (ck β args)).run P w=.ok () w'/\∃cq,K cq/\Ext st cq/\E w w'/\Rep β cq (a.put d undef) w':=by
 obtain⟨h0,h⟩:=dh h;simp at h0;rw[hR.rz h0.1,<-hR.still hm]at h;obtain⟨w1,hr,h⟩:=h;obtain⟨h,hS⟩:=qL h;obtain⟨h,hE⟩:=hX _ _ _ h;refine⟨w1,hr,_,h,?_,hE,?_⟩
 ·refine Ext.trans (t:={st with w0:=w1}) ⟨rfl,aY _,λ_ _ _ h _=>h,λi b' mH ho hs=>⟨b',mH,ho,rfl,rfl,rfl,λ_ h=>h⟩,KX,Cy⟩ (Ext.put _ _ _)
 refine Rep.put (v:=.un) (Rep.next (ct':=st.ct) hR hm h0.2 λi b' mH ho=>⟨b',mH,ho,rfl,?_⟩) _;have uU:=mS (esc:=true) mH ho rfl;rw[hR.JO h0.2 mH ho]at uU;exact(hS _ uU).trans (hR.bx i b' mH ho).blk
end
def pG(l:List aw)(i:Nat):aw:=match l,i with
 | [],_=>undef
 | v::_,0=>v
 | _::r,i+1=>pG r i
def zp:List Nat->List aw->List (Nat×aw)
 | i::r,v::s=>(i,v)::zp r s
 | _,_=>[]
def P3:List (Nat×SV)->List Nat
 | []=>[]
 | p::r=>p.1::P3 r
def Li:List (Nat×SV)->List SV
 | []=>[]
 | p::r=>p.2::Li r
theorem R0 β:∀l,zp (P3 l) (ck β (Li l))=zN β l
 | []=>rfl
 | p::r=>by
  have:=R0 β r;simp[ck]at this;simp[P3,Li,ck,zp,zN,this]
def XS(P:Program)(t:TypeId):Bool:=match P.underlying t with
 | some (.pointer _)=>true
 | _=>false
def XU:Operand->Bool
 | .const _=>true
 | _=>false
def ptS:SV->Bool
 | .ptr _=>true
 | .ad _=>true
 | _=>false
def jk(P:Program):Op->Bool
 | .move _=>true
 | .assign _=>true
 | .pick _ _ _=>true
 | .binOp _ t x y _=>!(XS P t)||XU x||XU y
 | .unOp _ _ _=>true
 | .extract _ _=>true
 | .build _ _=>true
 | .makeFunc _ _ _=>true
 | .makeInterface _ _=>true
 | .nilCheck _=>true
 | .fieldAddr _ _ _=>true
 | .field _ _ _=>true
 | .indexAddr _ _ _=>true
 | .load _ _=>true
 | .index _ _ _=>true
 | .slice _ _ _ _ _=>true
 | .convert s d _=>(match P.underlying s,P.underlying d with
  | some (.int _),some (.int _)=>true
  | some .string,some .string=>true
  | some (.slice e),some .string=>(match P.underlying e with
   | some (.int .u8)=>true
   | _=>false)
  | _,_=>false)
 | .call c=>(match c.callee with
  | .builtin .len=>(match c.argTypes.toList with
   | [t]=>(match P.underlying t with
    | some (.slice _)=>true
    | some .string=>true
    | _=>false)
   | _=>false)
  | .builtin .cap=>true
  | .builtin .min=>true
  | .builtin .max=>true
  | _=>false)
 | _=>false
def wC:Op->Bool
 | .store _ _ _=>true
 | _=>false
def XV(P:Program)(X:XT)(st:St)(o:Oper)(b:Builtin)(ts:Array TypeId)(vs:List SV)(K:St->Prop):Prop:=match b with
 | .append=>qo P X st o.dst (A9 P o.type) vs (λl=>Builtin.append_ ts o.type l.toArray) K
 | .copy=>qo P X st o.dst (A9 P o.type) vs (λl=>Builtin.copy_ ts o.type l.toArray) K
 | .delete=>qo P X st o.dst (A9 P o.type) vs (λl=>Builtin.delete_ ts o.type l.toArray) K
 | .clear=>qo P X st o.dst (A9 P o.type) vs (λl=>Builtin.clear_ ts o.type l.toArray) K
 | .len=>qo P X st o.dst (A9 P o.type) vs (λl=>Builtin.len_ ts o.type l.toArray) K
 | .unsafeSliceData=>qo P X st o.dst (A9 P o.type) vs (λl=>Builtin.unsafeSliceData_ ts o.type l.toArray) K
 | .unsafeString=>qo P X st o.dst (A9 P o.type) vs (λl=>Builtin.unsafeString_ ts o.type l.toArray) K
 | _=>False
def Jd(f:FuncId)(args:Array aw):Sem aw:=do
 match <-callFunc f args with
 | .value v=>pure v
 | _=>stuck "extV"
theorem Lj{P}{f}{args}{w w1}{v}(h:(Jd f args).run P w=.ok v w1):(callFunc f args).run P w=.ok (.value v) w1:=by
 unfold Jd at h;rw[Sem.run_bind]at h;cases hc:(callFunc f args).run P w with
 | ok n w2=>
  rw[hc,Result.andThen_ok]at h;cases n<;>first | (simp at h;done) | (simp at h;obtain⟨rfl,rfl⟩:=h;rfl) | (simp at h)
 | _=>rw[hc]at h;simp at h
theorem TQ{P}{a:Act}{w w1}{v}{dst}{x}{f}{first captured}{xs:List Operand}{ats}{t'}{p}{af}{g}{args}
  (hx:a.eval x=.func (.func f) first.toArray captured.toArray)
  (ha:first++xs.map a.eval++captured=args) (hc:(callFunc f args.toArray).run P w=.ok (.value v) w1):
  (execOp a.eval ⟨dst,.call ⟨.value x,xs.toArray,ats⟩,t',p,af,g⟩).run P w=.ok (.value v) w1:=by
 subst ha;simp only[execOp,resolve,hx,Deferred.ofValue,invoke]
 grind
def TR(P:Program)(X:XT)(st:St)(o:Oper)(fv:SV)(vs:List SV)(K:St->Prop):Prop:=match fv with
 | .fn g fs cs=>bif zh fs&&zh cs&&La P g then eh (st.esc (ma fs++vs++ma cs)) λst=>Lb P X st o.dst (XR P g) g (ma fs++vs++ma cs) [] K
  else bif zh fs&&zh cs then eh (st.esc (ma fs++vs++ma cs)) λst=>qo P X st o.dst (XR P g) (ma fs++vs++ma cs) (λl=>Jd g l.toArray) K else False
 | .raw v=>eh (st.esc vs) λst=>∃(g:FuncId) (fst cap:List aw),v.v=.func (.func g) fst.toArray cap.toArray/\(∀args w,(callFunc g args).run P w=.ok (.enter g args) w)/\Ld P X st o.dst (A9 P o.type) g fst vs cap K
 | _=>False
abbrev YT:=Option Nat->Prop->Prop
def XW(P:Program)(X:XT)(Y:YT)(st:St)(o:Oper)(p s:SV)(vs:List SV)(K:St->Prop):Prop:=match p with
 | .box i off=>bP (cF st.bx i) λb=>bif b.ok&&Nat.ble (off+vs.length) b.cells.length then Y b.blk (K ((st.rA i b (XN b.cells off vs)).put o.dst .un))else False
 | .ad p=>eh (st.esc vs) λst=>∃(bk off:Nat) (cells:List aw) (ety:TypeId),p=(⟨bk,off,none⟩)/\Blk st.w0 bk ety cells/\off+vs.length<=cells.length/\
  bif gN st.Gb vs&&oP st.bx then neB bk st.bx (∀w1,Only [bk] st.w0 w1->Blk w1 bk ety (bZ cells off (ck st.bl vs))->X st.w0 w1 (K (St.put {st with w0:=w1} o.dst .un)))else False
 | _=>False
def XX(P:Program)(st:St)(o:Oper)(fv:SV)(vs:List SV)(K:St->Prop):Prop:=match fv with
 | .fn g fs cs=>bif zh fs&&zh cs&&La P g then eh (st.esc (ma fs++vs++ma cs)) λst=>bif gN st.Gb (ma fs++vs)&&gN st.Gb (ma cs)then
  K (St.put {st with df:=(g,ck st.bl (ma fs++vs),ck st.bl (ma cs))::st.df} o.dst .un)else False else False
 | _=>False
def loud(P:Program)(X:XT)(Y:YT)(st:St)(o:Oper)(K:St->Prop):Prop:=match o.op with
 | .binOp op t x y _=>bP (st.ev x) λa=>bP (st.ev y) λb=>bif ptS a&&ptS b then eh (st.esc [a,b]) λst=>qo P X st o.dst [o.type] [a,b] (λvs=>Go.binOp op t (pG vs 0) (pG vs 1)) K else False
 | .alloc t=>bP (zc P t) λzs=>bif Wz st zs then K (st.B5 o.dst t zs)else False
 | .box t x=>bP (st.ev x) λs=>bP (xB s) λzs=>bif Wz st zs then K (st.B5 o.dst t zs)else False
 | .store t x y=>bP (st.ev x) λp=>bP (st.ev y) λs=>bP (xB s) λvs=>bif sz P t vs.length then XW P X Y st o p s vs K else False
 | .call c=>bP (st.Iy c.args.toList) λvs=>(match c.callee with
  | .value f=>bP (st.ev f) λfv=>TR P X st o fv vs K
  | .builtin b=>eh (st.esc vs) λst=>XV P X st o b c.argTypes vs K
  | _=>False)
 | .defer c=>bP (st.Iy c.args.toList) λvs=>(match c.callee with
  | .value f=>bP (st.ev f) λfv=>XX P st o fv vs K
  | _=>False)
 | .buildSlice t n ps=>bP (st.O5 ps.toList) λl=>eh (st.esc (Li l)) λst=>qo P X st o.dst [t] (Li l) (λvs=>Instr.buildSlice t n (zp (P3 l) vs).toArray) K
 | .makeSlice t x y=>bP (st.ev x) λa=>bP (st.ev y) λb=>eh st λst=>qo P X st o.dst [t] [a,b] (λvs=>Instr.makeSlice t (pG vs 0) (pG vs 1)) K
 | .makeMap t none=>eh st λst=>qo P X st o.dst [t] [] (λ_=>Instr.makeMap t none) K
 | .makeMap t (some x)=>bP (st.ev x) λa=>eh st λst=>qo P X st o.dst [t] [a] (λvs=>Instr.makeMap t (some (pG vs 0))) K
 | .lookup t x i ok=>bP (st.ev x) λa=>bP (st.ev i) λb=>eh st λst=>qo P X st o.dst (A9 P o.type) [a,b] (λvs=>Instr.lookup t (pG vs 0) (pG vs 1) ok) K
 | .mapUpdate t x y z=>bP (st.ev x) λa=>bP (st.ev y) λb=>bP (st.ev z) λc=>eh (st.esc [a,b,c]) λst=>P1 P X st o.dst [a,b,c] (λvs=>Instr.mapUpdate t (pG vs 0) (pG vs 1) (pG vs 2)) K
 | .insert t x y z=>bP (st.ev x) λa=>bP (st.ev y) λb=>bP (st.ev z) λc=>eh (st.esc [a,b,c]) λst=>P1 P X st o.dst [a,b,c] (λvs=>Instr.mapUpdate t (pG vs 0) (pG vs 1) (pG vs 2)) K
 | .convert s d x=>bP (st.ev x) λa=>eh (st.esc [a]) λst=>qo P X st o.dst [d] [a] (λvs=>convert s d (pG vs 0)) K
 | .range t x=>bP (st.ev x) λa=>eh st λst=>∃p,Lh P X st o.dst [a] (λvs=>Instr.range t (pG vs 0)) (.ptr p) K
 | .next x false=>bP (st.ev x) λa=>eh st λst=>Lh P X st o.dst [a] (λvs=>Instr.next (pG vs 0) false o.type) (.tup (lR [.bl false])) K∨
  PQ [.raw,.raw] λrs=>Lh P X st o.dst [a] (λvs=>Instr.next (pG vs 0) false o.type) (.tup (lR (.bl true::rs))) K
 | .entry x=>bP (st.ev x) λa=>eh st λst=>PQ [.raw,.raw] λrs=>Lh P X st o.dst [a] (λvs=>Instr.entry (pG vs 0)) (.tup (lR rs)) K
 | _=>False
section
variable {P:Program} {β:Nat->Nat} {st:St} {a:Act} {w w1:av} {X:XT} {Y:YT} {E:av->av->Prop} {K:St->Prop} {Q:Exit->Act->av->Prop}
abbrev R4(E:av->av->Prop)(st:St)(K:St->Prop)(w:av)(a':Act)(w':av):Prop:=∃β' cq,K cq/\Ext st cq/\E w w'/\Rep β' cq a' w'
theorem kz(hX:∀w0 w1 p,X w0 w1 p->p/\E w0 w1){o}{Ce}{args l}{run}(h:eh (st.esc l) λst=>qo P X st o.dst Ce args run K)(hR:Rep β st a w)
  (hx:∀v w1,(run (ck β args)).run P w=.ok v w1->(execOp a.eval o).run P w=.ok (.value v) w1):o.wp P a w (R4 E st K w) Q:=by
 obtain⟨s1,h1,e1,gJ,hm,_⟩:=dB h (hR.esc l);obtain⟨v,w',hr,cq,k1,k2,k3,k4⟩:=GW hX h1 hm gJ;exact vX v (hx v w' hr) rfl ⟨β,cq,k1,(Ext.esc st l).trans (e1.trans k2),k3,k4⟩
theorem uj(hX:∀w0 w1 p,X w0 w1 p->p/\E w0 w1){o}{Ce}{args}{run}(h:eh st λst=>qo P X st o.dst Ce args run K)(hR:Rep β st a w)
  (hx:∀v w1,(run (ck β args)).run P w=.ok v w1->(execOp a.eval o).run P w=.ok (.value v) w1):o.wp P a w (R4 E st K w) Q:=by
 obtain⟨s1,h1,e1,gJ,hm,_⟩:=dB h hR;obtain⟨v,w',hr,cq,k1,k2,k3,k4⟩:=GW hX h1 hm gJ;exact vX v (hx v w' hr) rfl ⟨β,cq,k1,e1.trans k2,k3,k4⟩
theorem C7(hX:∀w0 w1 p,X w0 w1 p->p/\E w0 w1){o}{args l}{run}(h:eh (st.esc l) λst=>P1 P X st o.dst args run K)(hR:Rep β st a w)
  (hx:∀w1,(run (ck β args)).run P w=.ok () w1->(execOp a.eval o).run P w=.ok .skip w1):o.wp P a w (R4 E st K w) Q:=by
 obtain⟨s1,h1,e1,gJ,hm,_⟩:=dB h (hR.esc l);obtain⟨w',hr,cq,k1,k2,k3,k4⟩:=P2 hX h1 hm gJ;exact KR (hx w' hr) rfl ⟨β,cq,k1,(Ext.esc st l).trans (e1.trans k2),k3,k4⟩
theorem GX(hE:∀w w1,Only [] w w1->E w w1){d}{t}{zs}(hc:Wz st zs=true)(h:K (st.B5 d t zs))(hR:Rep β st a w){b}(hb:w.heap.size<=b)(hO:Only [] w w1)(hB:Blk w1 b t (ck β zs)):
  R4 E st K w (a.put d (.pointer (some ⟨b,0,none⟩))) w1:=by
 simp[Wz]at hc;exact⟨_,_,h,Ext.B5 _ _ _ _,hE _ _ hO,hR.B5 hc.1.1.1 hc.1.1.2 hc.1.2 hb hO hB hc.2⟩
theorem Lk(hX:∀w0 w1 p,X w0 w1 p->p/\E w0 w1){o}{Ce}{f}{args}{nC}{s1}(h:Lb P X s1 o.dst Ce f args nC K)(hm:s1.mv=false)(e1:Ext st s1)(hR:Rep β s1 a w)
  (hx:(execOp a.eval o).run P w=.ok (.enter f (ck β args++nC).toArray) w):o.wp P a w (R4 E st K w) Q:=by
 refine GL hx ((Lc hX h hm hR).mono ?_);rintro e w' ⟨v,rfl,cq,k1,k2,k3,k4⟩;exact⟨v,_,rfl,rfl,β,cq,k1,e1.trans k2,k3,k4⟩
theorem Je(hX:∀w0 w1 p,X w0 w1 p->p/\E w0 w1){o}{Ce}{f}{fst}{args}{nC}{s1}(h:Ld P X s1 o.dst Ce f fst args nC K)(hm:s1.mv=false)(e1:Ext st s1)(hR:Rep β s1 a w)
  (hx:(execOp a.eval o).run P w=.ok (.enter f (zj (zj fst (ck β args)) nC).toArray) w):o.wp P a w (R4 E st K w) Q:=by
 refine GL hx ((Lg hX h hm hR).mono ?_);rintro e w' ⟨v,rfl,cq,k1,k2,k3,k4⟩;exact⟨v,_,rfl,rfl,β,cq,k1,e1.trans k2,k3,k4⟩
theorem Ll{s}(h:ptS s=true) β:∃q,val β s=.pointer q:=by
 cases s<;>first | (cases h;done) | exact⟨_,rfl⟩
theorem P4{a:Act}{dst}{op}{t ty}{x y}{t'}{p}{af}{g}{u v r}(hu:∃q,u=.pointer q)(hv:∃q,v=.pointer q)(hx:a.eval x=u)(hy:a.eval y=v){w w1}
  (hr:(Go.binOp op t u v).run P w=.ok r w1):(execOp a.eval ⟨dst,.binOp op t x y ty,t',p,af,g⟩).run P w=.ok (.value r) w1:=by
 obtain⟨q,rfl⟩:=hu;obtain⟨q',rfl⟩:=hv;have hg:eqGuard op t x y (.pointer q) (.pointer q')=pure ():=by cases op<;>rfl
 simp[execOp,hx,hy,hg,hr]
theorem P5{a:Act}{dst}{x}{fn}{first captured:List aw}{xs:List Operand}{ats}{t'}{p}{af}{g}{args}{w}
  (hx:a.eval x=.func fn first.toArray captured.toArray) (ha:first++xs.map a.eval=args):
  (execOp a.eval ⟨dst,.defer ⟨.value x,xs.toArray,ats⟩,t',p,af,g⟩).run P w=.ok (.defer {target:=.fn fn captured.toArray,args:=args.toArray}) w:=by
 subst ha;simp only[execOp,resolve,hx,Deferred.ofValue];simp
theorem Lm{a:Act}{dst}{t}{x}{t'}{p}{af}{g}{u v}{w w1}(hx:a.eval x=u)(hr:(Instr.range t u).run P w=.ok v w1):
  (execOp a.eval ⟨dst,.range t x,t',p,af,g⟩).run P w=.ok (.value v) w1:=by
 simp[execOp,hx,hr]
theorem GY{a:Act}{dst}{x}{t'}{p}{af}{g}{u v}{w w1}(hx:a.eval x=u)(hr:(Instr.next u false t').run P w=.ok v w1):
  (execOp a.eval ⟨dst,.next x false,t',p,af,g⟩).run P w=.ok (.value v) w1:=by
 simp[execOp,hx,hr]
theorem Lp{a:Act}{dst}{x}{t'}{p}{af}{g}{u v}{w w1}(hx:a.eval x=u)(hr:(Instr.entry u).run P w=.ok v w1):
  (execOp a.eval ⟨dst,.entry x,t',p,af,g⟩).run P w=.ok (.value v) w1:=by
 simp[execOp,hx,hr]
theorem kB β l m:ck β (l++m)=ck β l++ck β m:=by simp[ck]
theorem Ba(hX:∀w0 w1 p,X w0 w1 p->p/\E w0 w1){o:Oper}(hE:∀w w1,Only [] w w1->E w w1)(hS:wC o.op=true->∀bk k w w1 p,Y bk p->(∀j,bk=some j->k=j)->Only [k] w w1->p/\E w w1)(h:loud P X Y st o K)(hR:Rep β st a w):o.wp P a w (R4 E st K w) Q:=by
 obtain⟨dst,op,t',p,af,g⟩:=o;unfold loud at h;dsimp only at h;split at h
 ·obtain⟨x,hx,h⟩:=bn h;obtain⟨y,hy,h⟩:=bn h;obtain⟨hp,h⟩:=dh h;simp only[aP]at hp;exact kz hX h hR λv w1 hr=>P4 (Ll hp.1 β) (Ll hp.2 β) (hR.ev hx) (hR.ev hy) hr
 ·obtain⟨zs,hz,h⟩:=bn h;obtain⟨hc,h⟩:=dh h;obtain⟨z,z1,z2⟩:=RZ hz w;exact CP z1 (z2 β) (λ_=>rfl) λb w1 hb hO hB=>GX hE hc h hR hb hO hB
 ·obtain⟨s,hs,h⟩:=bn h;obtain⟨zs,hz,h⟩:=bn h;obtain⟨hc,h⟩:=dh h;exact Tx (by rw[hR.ev hs];exact(vh hz β).1) (λ_=>rfl) λb w1 hb hO hB=>GX hE hc h hR hb hO hB
 ·obtain⟨q,hx,h⟩:=bn h;obtain⟨s,hy,h⟩:=bn h;obtain⟨vs,hv,h⟩:=bn h;obtain⟨hsz,h⟩:=dh h;obtain⟨c1,c2⟩:=vh hv β;have WR:=hS rfl;cases q with
  | box i off=>
   obtain⟨b,hb,h⟩:=bn h;obtain⟨h1,h⟩:=dh h;simp only[aP]at h1;have h2:=de h1.2;refine CO (oc hsz w) (hR.ev hx) (by rw[hR.ev hy];exact c1) (eS β vs) c2 (hR.bx i b hb h1.1).blk (by rw[eS,eS];exact h2) rfl rfl λw1 hO hB=>?_;rw[<-C0]at hB;obtain⟨h,he⟩:=WR _ (β i) _ w1 _ h (λj hj=>(hR.bx i b hb h1.1).at_ j hj) hO;exact⟨β,_,h,(Ext.rA hb).trans (Ext.put _ _ _),he,(hR.rA hb h1.1 hO hB).put dst .un⟩
  | ad ad=>
   simp only[XW]at h;obtain⟨s1,h1,e1,gJ,hm,_⟩:=dB h (hR.esc vs);obtain⟨bk,off,cells,ety,rfl,hB,JP,h2⟩:=h1;obtain⟨h3,h2⟩:=dh h2;simp only[aP]at h3;obtain⟨h2,ia⟩:=Fq h2;have hw:=gJ.still hm;rw[<-hw,gJ.rz h3.1]at h2;rw[<-hw]at hB;refine CO (oc hsz w) (hR.ev hx) (by rw[hR.ev hy];exact c1) (eS β vs) c2 hB (by rw[eS];exact JP) rfl rfl λw1 hO pv=>?_;obtain⟨h4,h5⟩:=hX _ _ _ (h2 w1 hO pv);refine⟨β,_,h4,((Ext.esc st vs).trans e1).trans (Ext.trans (t:={s1 with w0:=w1}) ⟨rfl,aY _,λ_ _ _ h _=>h,λi b' mH ho hs=>⟨b',mH,ho,rfl,rfl,rfl,λ_ h=>h⟩,KX,Cy⟩ (Ext.put _ _ _)),h5,?_⟩;refine Rep.put (v:=.un) (Rep.next (ct':=s1.ct) gJ hm h3.2 λi b' mH ho=>⟨b',mH,ho,rfl,?_⟩) _;have eD:=gJ.JO h3.2 mH ho;have:=ia i b' mH ho;rw[eD]at this;exact hO.blk (gJ.bx i b' mH ho).blk (by simpa using this)
  | _=>exact h.elim
 ·rename_i c;obtain⟨callee,⟨xs⟩,ts⟩:=c;obtain⟨vs,hv,h⟩:=bn h;have zv:=hR.Iy hv;dsimp only at h;cases callee with
  | value f=>
   obtain⟨fv,hf,h⟩:=bn h;cases fv with
   | fn g' fs cs=>
    have ef:zh fs=true->zh cs=true->a.eval f=.func (.func g') (ck β (ma fs)).toArray (ck β (ma cs)).toArray:=λk1 k2=>by
     rw[hR.ev hf];show Value.func (.func g') (oK β fs).toArray (oK β cs).toArray=_;rw[lS β k1,lS β k2]
    have h':=h;unfold TR at h';rcases mc h' with⟨h0,h1⟩ | ⟨_,h1⟩
    ·simp only[aP]at h0;obtain⟨s1,h1,e1,gJ,hm,_⟩:=dB h1 (hR.esc _);refine Lk hX h1 hm ((Ext.esc _ _).trans e1) gJ ?_;exact CJ (ef h0.1.1 h0.1.2) (ky h0.2) (by rw[zv,kB,kB,bL])
    obtain⟨h0,h1⟩:=dh h1;simp only[aP]at h0;exact kz hX h1 hR λv w1 hr=>TQ (ef h0.1 h0.2) (by rw[zv,kB,kB]) (Lj hr)
   | raw v=>
    simp only[TR]at h;obtain⟨s1,⟨g',fst,cap,h1,h2,h3⟩,e1,gJ,hm,_⟩:=dB h (hR.esc vs);refine Je hX h3 hm ((Ext.esc _ _).trans e1) gJ ?_;have ef:a.eval f=.func (.func g') fst.toArray cap.toArray:=(hR.ev hf).trans h1;exact CJ ef h2 (by rw[zv];rfl)
   | _=>exact h.elim
  | builtin b=>
   unfold XV at h;cases b with
   | append=>exact kz hX h hR λv w1 hr=>vf zv hr
   | copy=>exact kz hX h hR λv w1 hr=>xw zv hr
   | delete=>exact kz hX h hR λv w1 hr=>vg zv hr
   | clear=>exact kz hX h hR λv w1 hr=>wz zv hr
   | len=>exact kz hX h hR λv w1 hr=>zd zv hr
   | unsafeSliceData=>exact kz hX h hR λv w1 hr=>(by rw[<-zv]at hr;exact lg (λ_=>rfl) hr)
   | unsafeString=>exact kz hX h hR λv w1 hr=>(by rw[<-zv]at hr;exact lg (λ_=>rfl) hr)
   | _=>
    obtain⟨s1,h1,_⟩:=dB h (hR.esc vs);exact h1.elim
  | _=>exact h.elim
 ·rename_i c;obtain⟨callee,⟨xs⟩,ts⟩:=c;obtain⟨vs,hv,h⟩:=bn h;have zv:=hR.Iy hv;dsimp only at h;cases callee with
  | value f=>
   obtain⟨fv,hf,h⟩:=bn h;cases fv with
   | fn g' fs cs=>
    unfold XX at h;obtain⟨h0,h1⟩:=dh h;simp only[aP]at h0;have ef:a.eval f=.func (.func g') (ck β (ma fs)).toArray (ck β (ma cs)).toArray:=by
     rw[hR.ev hf];show Value.func (.func g') (oK β fs).toArray (oK β cs).toArray=_;rw[lS β h0.1.1,lS β h0.1.2]
    obtain⟨s1,h1,e1,gJ,hm,_⟩:=dB h1 (hR.esc _);obtain⟨hc,h1⟩:=dh h1;simp only[aP]at hc;rw[gJ.rz hc.1,gJ.rz hc.2]at h1;have hr:=P5 (P:=P) (dst:=dst) (ats:=ts) (t':=t') (p:=p) (af:=af) (g:=g) (w:=w) ef (by rw[zv,<-kB]);unfold Oper.wp;rw[hr,Oper.upon_defer];have zw:Rep β {s1 with df:=(g',ck β (ma fs++vs),ck β (ma cs))::s1.df} {a with defers:={target:=.fn (.func g') (ck β (ma cs)).toArray,args:=(ck β (ma fs++vs)).toArray}::a.defers} w:=by
     obtain⟨us,hu⟩:=gJ.fr;exact⟨⟨us,by rw[hu];rfl⟩,gJ.bx,gJ.ne,gJ.only,gJ.still⟩
    exact⟨β,_,h1,((Ext.esc _ _).trans e1).trans (Ext.trans (t:={s1 with df:=(g',ck β (ma fs++vs),ck β (ma cs))::s1.df}) ⟨rfl,aY _,λ_ _ _ h _=>h,λi b' mH ho hs=>⟨b',mH,ho,rfl,rfl,rfl,λ_ h=>h⟩,KX,⟨[_],rfl⟩⟩ (Ext.put _ _ _)),hE _ _ (Only.refl _ _),zw.put dst .un⟩
   | _=>exact h.elim
  | _=>exact h.elim
 ·rename_i t n ps;obtain⟨l,hl,h1⟩:=bn h;clear h;obtain⟨ps⟩:=ps;refine kz hX h1 hR λv w1 hr=>?_;rw[R0]at hr;exact AJ (hR.O5 hl) hr
 ·obtain⟨u,hx,h⟩:=bn h;obtain⟨v,hy,h⟩:=bn h;exact uj hX h hR λ_ w1 hr=>CH (hR.ev hx) (hR.ev hy) hr
 ·exact uj hX h hR λ_ w1 hr=>I1 hr
 ·obtain⟨u,hx,h⟩:=bn h;exact uj hX h hR λ_ w1 hr=>E3 (hR.ev hx) hr
 ·obtain⟨u,hx,h⟩:=bn h;obtain⟨v,hy,h⟩:=bn h;exact uj hX h hR λ_ w1 hr=>KN (hR.ev hx) (hR.ev hy) hr
 ·obtain⟨u,hx,h⟩:=bn h;obtain⟨v,hy,h⟩:=bn h;obtain⟨z,hz,h⟩:=bn h;exact C7 hX h hR λw1 hr=>CI (hR.ev hx) (hR.ev hy) (hR.ev hz) hr
 ·obtain⟨u,hx,h⟩:=bn h;obtain⟨v,hy,h⟩:=bn h;obtain⟨z,hz,h⟩:=bn h;exact C7 hX h hR λw1 hr=>KO (hR.ev hx) (hR.ev hy) (hR.ev hz) hr
 ·obtain⟨u,hx,h⟩:=bn h;exact kz hX h hR λ_ w1 hr=>I2 (hR.ev hx) hr
 ·obtain⟨u,hx,h⟩:=bn h;obtain⟨s1,⟨q,h1⟩,e1,gJ,hm,_⟩:=dB h hR;obtain⟨v,w',hr,cq,k1,k2,k3,k4⟩:=wV hX h1 hm gJ;exact vX v (Lm (hR.ev hx) hr) rfl ⟨β,cq,k1,e1.trans k2,k3,k4⟩
 ·obtain⟨u,hx,h⟩:=bn h;obtain⟨s1,h1,e1,gJ,hm,_⟩:=dB h hR;rcases h1 with h1 | h1
  ·obtain⟨v,w',hr,cq,k1,k2,k3,k4⟩:=wV hX h1 hm gJ;exact vX v (GY (hR.ev hx) hr) rfl ⟨β,cq,k1,e1.trans k2,k3,k4⟩
  obtain⟨_,h1,_⟩:=qI h1;obtain⟨v,w',hr,cq,k1,k2,k3,k4⟩:=wV hX h1 hm gJ;exact vX v (GY (hR.ev hx) hr) rfl ⟨β,cq,k1,e1.trans k2,k3,k4⟩
 ·obtain⟨u,hx,h⟩:=bn h;obtain⟨s1,h1,e1,gJ,hm,_⟩:=dB h hR;obtain⟨_,h1,_⟩:=qI h1;obtain⟨v,w',hr,cq,k1,k2,k3,k4⟩:=wV hX h1 hm gJ;exact vX v (Lp (hR.ev hx) hr) rfl ⟨β,cq,k1,e1.trans k2,k3,k4⟩
 exact h.elim
end
def nd(P:Program)(st:St)(o:Op):Bool:=match o with
 | .load _ x=>(match st.ev x with
  | some (.ad _)=>true
  | _=>false)
 | .convert s _ _=>(match P.underlying s with
  | some (.slice _)=>true
  | _=>false)
 | _=>false
def TS(b:Bool)(st:St)(K:St->Prop):Prop:=bif b&&st.mv then eh st K else K st
theorem vq{b}{st}{K}(h:TS b st K){β}{a}{w}(hR:Rep β st a w):∃cq,K cq/\Ext st cq/\Rep β cq a w/\cq.fr=st.fr/\cq.n=st.n:=by
 rcases mc h with⟨_,h⟩ | ⟨_,h⟩
 ·obtain⟨s,h1,h2,h3,h4,h5,h6,_⟩:=dB h hR;exact⟨s,h1,h2,h3,h5,h6⟩
 exact⟨st,h,Ext.refl _,hR,rfl,rfl⟩
def Bb(P:Program):List Oper->Bool
 | []=>true
 | o::r=>jk P o.op&&Bb P r
def Fs:List Oper->Bool
 | []=>false
 | o::r=>mem o.op||Fs r
def X0:XT:=λ_ _ p=>p
def Y0:YT:=λ_ p=>p
def agT(P:Program)(t:TypeId):Bool:=match P.underlying t with
 | some d=>lm d
 | none=>false
def TT(P:Program)(o:Oper)(v:SV)(K:SV->Prop):Prop:=match o.op,v with
 | .extract _ _,.raw x=>(match KY P 12 o.type with
  | []=>K (.raw x)
  | [.raw]=>K (.raw x)
  | ls=>PQ ls λvs=>x.v=val β0 (I9 (agT P o.type) vs)/\K (I9 (agT P o.type) vs))
 | _,v=>K v
theorem P6{P}{o}{v}{K:SV->Prop}(h:TT P o v K):∃u,K u/\∀β,val β u=val β v:=by
 unfold TT at h;split at h
 ·split at h
  ·exact⟨_,h,λ_=>rfl⟩
  ·exact⟨_,h,λ_=>rfl⟩
  obtain⟨vs,⟨e,h⟩,_,hc⟩:=qI h;refine⟨_,h,λβ=>Eq.trans ?_ e.symm⟩;exact(iy (g:=λ_=>false) (λi h=>aah) _ (GV _ _ (hc _))).symm
 exact⟨_,h,λ_=>rfl⟩
def GZ(P:Program)(st:St)(o:Oper)(K:St->Prop):Prop:=
 bif jk P o.op then TS (nd P st o.op) st λst=>TH P [] st o.op λv=>TT P o v λv=>K (st.put o.dst v)else loud P X0 Y0 st o K
def wD(P:Program)(ops:List Oper):Nat->List Oper->St->(St->Prop)->Prop
 | 0,_,_,_=>False
 | _+1,[],st,K=>K st
 | f+1,o::rest,st,K=>match o.guard with
  | none=>GZ P st o λst=>wD P ops f rest st K
  | some (j,want)=>(match TN st ops j with
   | some (_,.un)=>wD P ops f rest (st.put o.dst .un) K
   | some (_,.bl b)=>bif b==want then GZ P st o λst=>wD P ops f rest st K else wD P ops f rest (st.put o.dst .un) K
   | some (d,.bt t)=>bif Bb P ((o::rest).take (wB ops j (o::rest)+1))
    then TS (Fs ((o::rest).take (wB ops j (o::rest)+1))) st λst=>vj P ops f [] ((o::rest).take (wB ops j (o::rest)+1)) st λst=>wD P ops f ((o::rest).drop (wB ops j (o::rest)+1)) st K
    else((t=true->wD P ops f (o::rest) (st.put (some d) (.bl true)) K)/\(t=false->wD P ops f (o::rest) (st.put (some d) (.bl false)) K))
   | _=>False)
section
variable {P:Program} {ops:List Oper} {Q:Exit->Act->av->Prop}
theorem Lr{st}{o}{rest}{K}{β}{a}{w}(h:GZ P st o K)(hR:Rep β st a w)(hw:Region.wanted o (yielded ops.toArray a.tmps)=true)
  (hK:∀β' cq a' w',K cq->Ext st cq->Rep β' cq a' w'->wpList P ops.toArray Q rest a' w'):wpList P ops.toArray Q (o::rest) a w:=by
 rcases mc h with⟨_,h⟩ | ⟨_,h⟩
 ·obtain⟨s,h1,h2,h3,h4,h5⟩:=vq h hR;obtain⟨v,hv,hy⟩:=Fk h1;obtain⟨u,hv,ev⟩:=P6 hv;exact E2 _ hw (hy trivial β a w h3 _ _ _ _ _ w λ_=>rfl) rfl (hK β _ _ w hv (h2.trans (Ext.put _ _ _)) (ev β▸h3.put o.dst u))
 refine Tw hw (Oper.wp_mono ?_ (Ba (E:=λ_ _=>True) (λ_ _ _ h=>⟨h,trivial⟩) (λ_ _ _=>trivial) (λ_ _ _ _ _ _ h _ _=>⟨h,trivial⟩) h hR));rintro a' w' ⟨β',cq,k1,k2,_,k4⟩;exact hK β' cq a' w' k1 k2 k4
theorem rR:∀{f:Nat} {l:List Oper} {st:St} {K:St->Prop},wD P ops f l st K->∀{β:Nat->Nat} {a:Act} {w:av},Rep β st a w->
  (∀β' cq a' w',K cq->Ext st cq->Rep β' cq a' w'->Q .normal a' w')->wpList P ops.toArray Q l a w
 | 0,_,_,_,h,_,_,_,_,_=>h.elim
 | _+1,[],st,K,h,β,a,w,hR,hK=>hK β st a w h (Ext.refl _) hR
 | f+1,o::rest,st,K,h,β,a,w,hR,hK=>by
  have no:wD P ops f rest _ K->Region.wanted o _=false->wpList P ops.toArray Q _ a w:=λh hw=>
   RP hw rfl (rR h (hR.put o.dst .un) λβ' cq a' w' k1 k2 k3=>hK β' cq a' w' k1 ((Ext.put _ _ _).trans k2) k3)
  have O9:(GZ P st o λst=>wD P ops f rest st K)->Region.wanted o _=true->wpList P ops.toArray Q _ a w:=λh hw=>
   Lr h hR hw λβ' cq a' w' k1 k2 k3=>rR k1 k3 λβ2 ww a2 w2 m1 m2 m3=>hK β2 ww a2 w2 m1 (k2.trans m2) m3
  unfold wD at h;split at h
  ·rename_i hg;exact O9 h (wn hg)
  rename_i j want hg;split at h
  ·rename_i d ht;exact no h (vi hR hg ht)
  ·rename_i d b ht;have hw:=oM hR hg ht (b:=b) rfl;rcases mc h with⟨e,h⟩ | ⟨e,h⟩
   ·exact O9 h (hw.trans e)
   exact no h (hw.trans e)
  ·rename_i d t ht;obtain⟨oj,EV,Ri,O8⟩:=xE ht;rcases mc h with⟨_,h⟩ | ⟨_,h⟩
   ·generalize wB ops j _+1=m at h;obtain⟨s,h1,h2,h3,h4,h5⟩:=vq h hR;obtain⟨s2,k1,k2,k3,k4⟩:=pE h1;obtain⟨a',g1,g2⟩:=k4 trivial β a w h3;have:=AZ (Q:=Q) (rest:=(o::rest).drop m) g1 (rR k1 g2 λβ2 ww a2 w2 m1 m2 m3=>hK β2 ww a2 w2 m1 ((h2.trans k2).trans m2) m3);rwa[eL]at this
   cases t with
   | true=>exact rR (h.1 rfl) (hR.set O8 rfl) λβ' cq a' w' k1 k2 k3=>hK β' cq a' w' k1 ((Ext.put _ _ _).trans k2) k3
   | false=>exact rR (h.2 rfl) (hR.set O8 rfl) λβ' cq a' w' k1 k2 k3=>hK β' cq a' w' k1 ((Ext.put _ _ _).trans k2) k3
  exact h.elim
end
def JT:List Lf->Type
 | []=>av->Prop
 | l::r=>l.T->JT r
def C8:(ls:List Lf)->JT ls->(List SV->av->Prop)->Prop
 | [],J,K=>∀w,J w->K [] w
 | l::r,J,K=>∀x,C8 r (J x) λvs w=>K (l.sv x::vs) w
def unI(k:IntKind)(s:SV):Option Int:=match oL s with
 | some (k',n)=>bif decide (k'=k)then some n else none
 | none=>none
def unP(bl:Nat->Nat)(s:SV):Option (Option Addr):=match s with
 | .box i o=>some (some ⟨bl i,o,none⟩)
 | s=>opn s
def unM(s:SV):Option (Option Nat):=match s with
 | .map m=>some m
 | _=>none
def unR(bl:Nat->Nat)(s:SV):Option OV:=match s with
 | .raw v=>some v
 | .fn f fs cs=>some ⟨.func (.func f) (oK bl fs).toArray (oK bl cs).toArray,rfl⟩
 | _=>none
def un(bl:Nat->Nat):(l:Lf)->SV->Option l.T
 | .int k=>unI k
 | .bool=>xA
 | .str=>tA
 | .ptr=>unP bl
 | .sl=>GN
 | .map=>unM
 | .raw=>unR bl
theorem XY{bl}{l}{s}{x}(h:un bl l s=some x) β:val β (l.sv x)=val bl s:=by
 cases l with
 | int k=>
  have h:unI k s=some x:=h;unfold unI at h;split at h
  ·rename_i k' n ho;obtain⟨e,rfl⟩:=AX h;have e:=aV e;subst e;rw[cY ho];rfl
  cases h
 | bool=>rw[lp h];rfl
 | str=>rw[gP h];rfl
 | ptr=>
  have h:unP bl s=some x:=h;unfold unP at h;split at h
  ·injection h with h;subst h;rfl
  rw[PR h];rfl
 | sl=>rw[jE h];rfl
 | map=>
  have h:unM s=some x:=h;unfold unM at h;split at h
  ·injection h with h;subst h;rfl
  cases h
 | raw=>
  have h:unR bl s=some x:=h;unfold unR at h;split at h
  ·injection h with h;subst h;rfl
  ·injection h with h;subst h;rfl
  cases h
def apJ:(ls:List Lf)->(Nat->Nat)->JT ls->List SV->av->Prop
 | [],_,J,[],w=>J w
 | l::r,bl,J,s::ss,w=>(match un bl l s with
  | some x=>apJ r bl (J x) ss w
  | none=>False)
 | _,_,_,_,_=>False
theorem Ls{bl}{w}:∀{ls:List Lf} {J:JT ls} {ss:List SV} {K:List SV->av->Prop},apJ ls bl J ss w->C8 ls J K->∃vs,K vs w/\vs.length=ls.length/\(∀β,ck β vs=ck bl ss)/\∀g,gN g vs=true
 | [],J,[],K,h,k=>⟨[],k w h,rfl,λ_=>rfl,λ_=>rfl⟩
 | l::r,J,s::ss,K,h,k=>by
  unfold apJ at h;split at h
  ·rename_i x hx;obtain⟨vs,h1,h2,h3,h4⟩:=Ls h (k x);refine⟨_,h1,by simp[h2],λβ=>?_,λg=>by simp[gN,Lf.cln,h4 g,cH]⟩;have:=h3 β;simp only[ck,bG]at this⊢;rw[this,XY hx]
  exact h.elim
 | [],_,_::_,_,h,_=>h.elim
 | _::_,_,[],_,h,_=>h.elim
inductive MI where
 | s (slot:Nat) (l:Lf)
 | a (slot:Nat) (ls:List Lf)
 | b (slot:Nat) (ls:List Lf)
def mLs:List MI->List Lf
 | []=>[]
 | .s _ l::r=>l::mLs r
 | .a _ ls::r=>ls++mLs r
 | .b _ ls::r=>ls++mLs r
def WA(st:St)(i:Nat):Option Nat:=match st.get i with
 | some (.box j _)=>some j
 | _=>none
def Lu:List SV->List SV
 | []=>[]
 | .box j o::r=>.box j o::Lu r
 | _::r=>Lu r
def xR(st:St):List MI->List SV
 | []=>[]
 | .b i _::r=>(match WA st i with
  | some j=>(match cF st.bx j with
   | some b=>Lu b.cells++xR st r
   | none=>xR st r)
  | none=>xR st r)
 | .s i _::r=>(match st.get i with
  | some (.box j o)=>.box j o::xR st r
  | _=>xR st r)
 | _::r=>xR st r
def oQ(st s:St):List MI->Option (List SV)
 | []=>some []
 | .s i _::r=>(match s.get i,oQ st s r with
  | some v,some l=>some (v::l)
  | _,_=>none)
 | .a i ls::r=>(match s.get i,oQ st s r with
  | some (.agg l),some m=>bif zh l&&Nat.beq (ma l).length ls.length then some (ma l++m)else none
  | _,_=>none)
 | .b i ls::r=>(match WA st i with
  | some j=>(match cF s.bx j,oQ st s r with
   | some b,some m=>bif Nat.beq b.cells.length ls.length then some (b.cells++m)else none
   | _,_=>none)
  | none=>none)
def Fu(ct:Nat):List MI->List SV->List (Nat×Nat×SV)
 | .s i _::r,v::vs=>(i,ct,v)::Fu ct r vs
 | .a i ls::r,vs=>(i,ct,.agg (lR (vs.take ls.length)))::Fu ct r (vs.drop ls.length)
 | .b _ ls::r,vs=>Fu ct r (vs.drop ls.length)
 | _,_=>[]
def Fv(st:St):List MI->List SV->List jO->List jO
 | .s _ _::r,_::vs,bx=>Fv st r vs bx
 | .a _ ls::r,vs,bx=>Fv st r (vs.drop ls.length) bx
 | .b i ls::r,vs,bx=>(match WA st i with
  | some j=>(match cF bx j with
   | some b=>Fv st r (vs.drop ls.length) (I8 bx j {b with cells:=vs.take ls.length,stp:=st.ct})
   | none=>Fv st r (vs.drop ls.length) bx)
  | none=>Fv st r (vs.drop ls.length) bx)
 | _,_,bx=>bx
def R5:List MI->List Nat
 | []=>[]
 | .s i _::r=>i::R5 r
 | .a i _::r=>i::R5 r
 | .b _ _::r=>R5 r
def Lv(st:St):List MI->List Nat
 | []=>[]
 | .b i _::r=>(match WA st i with
  | some j=>j::Lv st r
  | none=>Lv st r)
 | _::r=>Lv st r
def TU(fr:List (Nat×Nat×SV)):List Nat->List (Nat×Nat×SV)
 | []=>[]
 | i::r=>match dA fr i with
  | some p=>(i,p)::TU fr r
  | none=>TU fr r
def lr(st:St)(kp:List Nat)(ms:List MI)(vs:List SV)(w:av):St:=
 {n:=st.n,fr:=Fu st.ct ms vs++TU st.fr kp,bx:=Fv st ms vs st.bx,w0:=w,mv:=false,dt:=[],ct:=st.ct+1,df:=st.df}
def P7(st s:St)(sl:List Nat):List Nat->Bool
 | []=>true
 | i::r=>(match dA st.fr i with
  | some (k,v)=>(match dA s.fr i with
   | some (k',_)=>Nat.beq k k'&&Nat.blt k st.ct&&!sl.elem i&&cln (C3 st.bx) v
   | none=>false)
  | none=>true)&&P7 st s sl r
def Jf(st:St)(Pa:List Nat):Nat->List jO->List jO->Bool
 | _,[],_=>true
 | i,b::r,c::q=>(!b.ok||(b.blk.isSome&&(Pa.elem i||(Nat.blt c.stp st.ct&&gN (C3 st.bx) b.cells))))&&Jf st Pa (i+1) r q
 | _,_::_,[]=>false
def Jg(st:St)(kp:List Nat) ms (J:JT (mLs ms)) (s:St):Prop:=
 bif P7 st s (R5 ms) kp&&Jf st (Lv st ms) 0 st.bx s.bx&&Nat.beq s.df.length st.df.length then
  bP (oQ st s ms) λvs=>bif gN (C3 s.bx) vs then apJ _ (EP s.bx) J vs s.w0 else False
 else False
theorem rS:∀l m i,dA (l++m) i=match dA l i with
  | some p=>some p
  | none=>dA m i
 | [],_,_=>rfl
 | (k,p)::r,m,i=>by
  simp[cy,dA];cases Nat.beq k i with
  | true=>rfl
  | false=>exact rS r m i
theorem wW{fr}:∀{kp:List Nat} {i:Nat} {p:Nat×SV},dA (TU fr kp) i=some p->i∈kp/\dA fr i=some p
 | j::r,i,p,h=>by
  unfold TU at h;split at h
  ·rename_i q hq;simp[dA]at h;cases hb:Nat.beq j i with
   | true=>
    rw[hb]at h;simp at h;subst h;have:=bN hb;subst this;exact⟨aM,hq⟩
   | false=>
    rw[hb]at h;obtain⟨h1,h2⟩:=wW aat;exact⟨acK,h2⟩
  obtain⟨h1,h2⟩:=wW h;exact⟨acK,h2⟩
theorem C9{fr}{p}:∀{kp:List Nat} {i:Nat},i∈kp->dA fr i=some p->dA (TU fr kp) i=some p
 | j::r,i,hi,h=>by
  unfold TU;cases hb:Nat.beq j i with
  | true=>
   have:=bN hb;subst this;rw[h];simp[dA,Nat.beq_refl,mV]
  | false=>
   have yP:i∈r:=by
    rcases aX.1 hi with e | e
    ·subst e;simp at hb
    exact e
   have ih:=C9 (p:=p) yP h;split
   ·simp[dA,hb,sW];exact ih
   exact ih
theorem rT{ct}:∀{ms:List MI} {vs:List SV} {i:Nat},(R5 ms).elem i=false->dA (Fu ct ms vs) i=none
 | [],vs,i,_=>rfl
 | .s j l::r,[],i,_=>rfl
 | .s j l::r,v::vs,i,h=>by
  simp only[R5,kU]at h;split at h
  ·cases h
  rename_i ia;simp[Fu,dA];have:Nat.beq j i=false:=by
   cases hb:Nat.beq j i with
   | false=>rfl
   | true=>have:=bN hb;subst this;simp at ia
  rw[this,sW];exact rT h
 | .a j ls::r,vs,i,h=>by
  simp only[R5,kU]at h;split at h
  ·cases h
  rename_i ia;simp[Fu,dA];have:Nat.beq j i=false:=by
   cases hb:Nat.beq j i with
   | false=>rfl
   | true=>have:=bN hb;subst this;simp at ia
  rw[this,sW];exact rT h
 | .b j ls::r,vs,i,h=>by
  simp[Fu];exact rT h
theorem rU{ct}:∀{ms:List MI} {vs:List SV} {i:Nat} {p:Nat×SV},dA (Fu ct ms vs) i=some p->p.1=ct
 | [],vs,i,p,h=>by cases vs<;>cases h
 | .s j l::r,[],i,p,h=>aah
 | .s j l::r,v::vs,i,p,h=>by
  simp[Fu,dA]at h;cases hb:Nat.beq j i with
  | true=>rw[hb]at h;simp at h;subst h;rfl
  | false=>rw[hb]at h;exact rU aat
 | .a j ls::r,vs,i,p,h=>by
  simp[Fu,dA]at h;cases hb:Nat.beq j i with
  | true=>rw[hb]at h;simp at h;subst h;rfl
  | false=>rw[hb]at h;exact rU aat
 | .b j ls::r,vs,i,p,h=>by
  simp[Fu]at h;exact rU h
theorem iz{st}:∀ms vs bx i b,cF bx i=some b->∃b',cF (Fv st ms vs bx) i=some b'/\b'.ty=b.ty/\b'.ok=b.ok/\b'.blk=b.blk/\((Lv st ms).elem i=false->b'=b)/\(b'=b∨b'.stp=st.ct)
 | [],vs,bx,i,b,h=>⟨b,by cases vs<;>exact h,rfl,rfl,rfl,λ_=>rfl,.inl rfl⟩
 | .s j l::r,[],bx,i,b,h=>⟨b,h,rfl,rfl,rfl,λ_=>rfl,.inl rfl⟩
 | .s j l::r,v::vs,bx,i,b,h=>iz r vs bx i b h
 | .a j ls::r,vs,bx,i,b,h=>iz r _ bx i b h
 | .b s ls::r,vs,bx,i,b,h=>by
  simp only[Fv,Lv];cases hj:WA st s with
  | none=>exact iz r _ bx i b h
  | some j=>
   dsimp only;cases hc:cF bx j with
   | none=>
    obtain⟨b',h1,h2,h3,h4,h5,h6⟩:=iz (st:=st) r _ bx i b h;refine⟨b',h1,h2,h3,h4,λhe=>h5 ?_,h6⟩;simp only[kU]at he;split at he
    ·cases he
    exact he
   | some c=>
    by_cases zu:i=j
    ·subst zu;rw[hc]at h;injection h with h;subst h;obtain⟨b',h1,h2,h3,h4,h5,h6⟩:=iz (st:=st) r _ _ i _ (by rw[jb hc,aR rfl]);refine⟨b',h1,h2,h3,h4,λhe=>?_,?_⟩
     ·simp at he
     rcases h6 with rfl | h6
     ·exact .inr rfl
     exact .inr h6
    obtain⟨b',h1,h2,h3,h4,h5,h6⟩:=iz (st:=st) r _ (I8 bx j {c with cells:=vs.take ls.length,stp:=st.ct}) i b (by rw[jb hc,aO zu];exact h);refine⟨b',h1,h2,h3,h4,λhe=>h5 ?_,h6⟩;simp only[kU]at he;split at he
    ·cases he
    exact he
theorem mX{st}:∀ms vs bx i,cF bx i=none->cF (Fv st ms vs bx) i=none
 | [],vs,bx,i,h=>by cases vs<;>exact h
 | .s j l::r,[],bx,i,h=>h
 | .s j l::r,v::vs,bx,i,h=>mX r vs bx i h
 | .a j ls::r,vs,bx,i,h=>mX r _ bx i h
 | .b s ls::r,vs,bx,i,h=>by
  simp[Fv];cases hj:WA st s with
  | none=>exact mX r _ bx i h
  | some j=>
   dsimp only;cases hc:cF bx j with
   | none=>exact mX r _ bx i h
   | some c=>
    refine mX r _ _ i ?_;rw[jb hc,aO]
    ·exact h
    rintro rfl;rw[h]at hc;cases hc
theorem Ext.NA{st}{kp}{ms}{vs}{w}:Ext st (lr st kp ms vs w):=by
 refine⟨rfl,iw _,λi k v hl cd=>?_,λi b' hb ho hs=>?_,λi b hb=>?_,Cy⟩
 ·simp[lr]at hl;rw[rS]at hl;split at hl
  ·rename_i p hp;have:=rU hp;simp at hl;subst hl;omega
  exact(wW hl).2
 ·simp[lr]at hb;cases hn:cF st.bx i with
  | none=>rw[mX _ _ _ _ hn]at hb;cases hb
  | some b=>
   obtain⟨b2,h1,h2,h3,h4,h5,h6⟩:=iz (st:=st) ms vs st.bx i b hn;rw[h1]at hb;injection hb with hb;subst hb;rcases h6 with rfl | h6
   ·exact⟨b2,rfl,ho,rfl,rfl,rfl,λ_ h=>h⟩
   omega
 obtain⟨b2,h1,h2,h3,h4,_⟩:=iz (st:=st) ms vs st.bx i b hb;exact⟨b2,h1,h2,h3,λk hk=>by rw[h4];exact hk⟩
def qC(st:St)(kp:List Nat)(ms:List MI)(s:St):Prop:=Ext st s∨∃vs w,Ext (lr st kp ms vs w) s
section
variable {st s:St} {kp:List Nat} {ms:List MI} {β:Nat->Nat} {a:Act} {w:av}
theorem qC.n(h:qC st kp ms s):s.n=st.n:=by
 rcases h with h | ⟨vs,w,h⟩
 ·exact h.n
 exact h.n
theorem qC.df(h:qC st kp ms s):∃l,s.df=l++st.df:=by
 rcases h with h | ⟨vs,w,h⟩
 ·exact h.df
 exact h.df
theorem qC.slot(h:qC st kp ms s){i k}{v v'}(hi:i∈kp)(h1:dA st.fr i=some (k,v))(h2:dA s.fr i=some (k,v'))(hk:k<st.ct)(hs:(R5 ms).elem i=false):v'=v:=by
 rcases h with h | ⟨vs,w,h⟩
 ·have:=h.fr i k v' h2 hk;rw[h1]at this;simpa using this.symm
 have:=h.fr i k v' h2 (Nat.lt_succ_of_lt hk);simp[lr]at this;rw[rS,rT hs]at this;rw[C9 hi h1]at this;simpa using this.symm
theorem qC.ps(h:qC st kp ms s){i}{b}(hb:cF st.bx i=some b):∃c,cF s.bx i=some c/\c.ty=b.ty/\c.ok=b.ok/\∀k,b.blk=some k->c.blk=some k:=by
 rcases h with h | ⟨vs,w,h⟩
 ·exact h.ps i b hb
 obtain⟨b2,h1,h2,h3,h4,_⟩:=iz (st:=st) ms vs st.bx i b hb;obtain⟨c,k1,k2,k3,k4⟩:=h.ps i b2 h1;exact⟨c,k1,k2.trans h2,k3.trans h3,λk hk=>k4 k (by rw[h4];exact hk)⟩
theorem qC.cells(h:qC st kp ms s){i}{b c}(hb:cF st.bx i=some b)(hc:cF s.bx i=some c)(ho:b.ok=true)(hl:(Lv st ms).elem i=false)(hs:c.stp<st.ct):c.cells=b.cells:=by
 rcases h with h | ⟨vs,w,h⟩
 ·obtain⟨c',k1,k2,k3,k4⟩:=h.ps i b hb;rw[hc]at k1;injection k1 with k1;subst k1;obtain⟨b3,m1,m2,m3,_⟩:=h.bx i c hc (k3.trans ho) hs;rw[hb]at m1;injection m1 with m1;rw[m1,m3]
 obtain⟨b2,h1,h2,h3,h4,h5,_⟩:=iz (st:=st) ms vs st.bx i b hb;obtain⟨c',k1,k2,k3,k4⟩:=h.ps i b2 h1;rw[hc]at k1;injection k1 with k1;subst k1;obtain⟨b3,m1,m2,m3,m4,m5,m6⟩:=h.bx i c hc (k3.trans (h3.trans ho)) (Nat.lt_succ_of_lt hs);rw[show cF (lr st kp ms vs w).bx i=cF (Fv st ms vs st.bx) i from rfl,h1]at m1;injection m1 with m1;subst m1;rw[<-m3,h5 hl]
theorem G0{sl}:∀{kp:List Nat},P7 st s sl kp=true->∀i∈kp,∀k v,dA st.fr i=some (k,v)->∃v',dA s.fr i=some (k,v')/\k<st.ct/\sl.elem i=false/\cln (C3 st.bx) v=true
 | j::r,h,i,hi,k,v,hl=>by
  simp only[P7,aP]at h;rcases aX.1 hi with rfl | hi
  ·have h1:=h.1;rw[hl]at h1;dsimp only at h1;split at h1
   ·rename_i k' v' hs;simp only[aP,cP]at h1;have e:=bN h1.1.1.1;subst e;exact⟨v',hs,de h1.1.1.2,h1.1.2,h1.2⟩
   cases h1
  exact G0 h.2 i hi k v hl
theorem Bc{Pa}:∀{l m:List jO} {n:Nat},Jf st Pa n l m=true->∀i b,cF l i=some b->b.ok=true->b.blk.isSome=true/\(Pa.elem (n+i)=true∨∃c,cF m i=some c/\c.stp<st.ct/\gN (C3 st.bx) b.cells=true)
 | b::r,[],n,h,_,_,_,_=>by simp[Jf]at h
 | b::r,c::q,n,h,0,b',hb,ho=>by
  simp only[Jf,aP,ci,cP]at h;simp[cF,bg]at hb;subst hb;rcases h.1 with h1 | ⟨h1,h2⟩
  ·rw[ho]at h1;cases h1
  refine⟨h1,?_⟩;rcases h2 with h2 | h2
  ·exact .inl h2
  exact .inr ⟨c,rfl,de h2.1,h2.2⟩
 | b::r,c::q,n,h,i+1,b',hb,ho=>by
  simp[Jf,aP]at h;have:=Bc h.2 i b' hb ho;rwa[show n+1+i=n+(i+1) by omega]at this
theorem Rep.at(hR:Rep β s a w){i}{v}(h:s.get i=some v):i<s.n/\a.tmps[i]? =some (V.val β v):=by
 unfold St.get at h;cases hb:Nat.blt i s.n with
 | false=>rw[hb]at h;cases h
 | true=>
  rw[hb,mV]at h;cases hl:dA s.fr i with
  | none=>rw[hl]at h;cases h
  | some p=>
   rw[hl]at h;simp at h;subst h;exact⟨de hb,hR.ok.at_ i p hl (de hb)⟩
theorem qM{g}:∀{l m:List SV},gN g (l++m)=true->gN g l=true/\gN g m=true
 | [],m,h=>⟨rfl,h⟩
 | s::r,m,h=>by
  simp[cy,gN,aP]at h⊢;obtain⟨h1,h2⟩:=qM h.2;exact⟨⟨h.1,h1⟩,h2⟩
theorem pH{γ b}{vs l m}{n}(hv:V.ck γ vs=V.ck b l++V.ck b m)(hl:l.length=n):V.ck γ (vs.take n)=V.ck b l/\V.ck γ (vs.drop n)=V.ck b m:=by
 have h1:(V.ck γ vs).take n=V.ck γ (vs.take n):=by simp[V.ck,pw]
 have h2:(V.ck γ vs).drop n=V.ck γ (vs.drop n):=by simp[V.ck,pz]
 have hn:(V.ck b l).length=n:=by rw[eS,hl]
 rw[<-h1,<-h2,hv,<-hn];exact⟨List.take_left,List.drop_left⟩
theorem Bd(hR:Rep β s a w){ct}{γ}:∀{ms:List MI} {ss vs:List SV},oQ st s ms=some ss->gN (C3 s.bx) ss=true->V.ck γ vs=V.ck (EP s.bx) ss->∀i p,dA (Fu ct ms vs) i=some p->a.tmps[i]? =some (V.val γ p.2)
 | [],ss,vs,_,_,_,i,p,h=>by cases vs<;>cases h
 | .s j l::r,ss,[],_,_,_,i,p,h=>aah
 | .s j l::r,ss,v::vs,ha,hc,hv,i,p,h=>by
  simp[oQ]at ha;split at ha
  ·rename_i v0 l0 h1 h2;simp at ha;subst ha;simp[gN,aP]at hc;simp[V.ck,bG,qz]at hv;simp[Fu,dA]at h;cases hb:Nat.beq j i with
   | true=>
    rw[hb]at h;simp at h;subst h;have:=bN hb;subst this;rw[(hR.at h1).2,hv.1,hR.ZR hc.1]
   | false=>
    rw[hb]at h;exact Bd hR h2 hc.2 hv.2 i p aat
  cases ha
 | .a j ls::r,ss,vs,ha,hc,hv,i,p,h=>by
  simp[oQ]at ha;split at ha
  ·rename_i l0 m0 h1 h2;obtain⟨h3,rfl⟩:=AX ha;simp only[aP]at h3;obtain⟨c1,c2⟩:=qM hc;rw[kB]at hv;obtain⟨e1,e2⟩:=pH hv (bN h3.2);simp[Fu,dA]at h;cases hb:Nat.beq j i with
   | true=>
    rw[hb]at h;simp at h;subst h;have:=bN hb;subst this;rw[(hR.at h1).2];show some (Value.agg (oK β l0).toArray)=some (Value.agg (oK γ _).toArray);rw[pC,e1,lS β h3.1,hR.rz c1]
   | false=>
    rw[hb]at h;exact Bd hR h2 c2 e2 i p aat
  cases ha
 | .b j ls::r,ss,vs,ha,hc,hv,i,p,h=>by
  simp[oQ]at ha;split at ha
  ·split at ha
   ·rename_i b m0 h1 h2;obtain⟨h3,rfl⟩:=AX ha;obtain⟨c1,c2⟩:=qM hc;rw[kB]at hv;obtain⟨e1,e2⟩:=pH hv (bN h3);exact Bd hR h2 c2 e2 i p h
   cases ha
  cases ha
theorem xS(hR:Rep β s a w){γ:Nat->Nat}(EW:∀i b,cF st.bx i=some b->∃c,cF s.bx i=some c/\c.ty=b.ty/\c.ok=b.ok)(hγ:∀i b,cF st.bx i=some b->b.ok=true->γ i=β i):∀{ms:List MI} {ss vs:List SV} {bx:List jO},oQ st s ms=some ss->gN (C3 s.bx) ss=true->V.ck γ vs=V.ck (EP s.bx) ss->
  (∀j b',cF bx j=some b'->∃b,cF st.bx j=some b/\b'.ty=b.ty/\b'.ok=b.ok)->(∀j b',cF bx j=some b'->b'.ok=true->Blk w (γ j) b'.ty (V.ck γ b'.cells)∨(Lv st ms).elem j=true)->
  ∀j b',cF (Fv st ms vs bx) j=some b'->b'.ok=true->Blk w (γ j) b'.ty (V.ck γ b'.cells)
 | [],ss,vs,bx,_,_,_,_,hi,j,b',hb,ho=>by
  have:Fv st [] vs bx=bx:=by cases vs<;>rfl
  rw[this]at hb;rcases hi j b' hb ho with h | h
  ·exact h
  cases h
 | .s k l::r,ss,[],bx,ha,hc,hv,h0,hi,j,b',hb,ho=>by
  simp only[oQ]at ha;split at ha
  ·simp only[bg]at ha;subst ha;simp[V.ck]at hv
  cases ha
 | .s k l::r,ss,v::vs,bx,ha,hc,hv,h0,hi,j,b',hb,ho=>by
  simp only[oQ]at ha;split at ha
  ·rename_i v0 l0 h1 h2;simp only[bg]at ha;subst ha;simp only[gN,aP]at hc;simp only[V.ck,bG,qz]at hv;exact xS hR EW hγ h2 hc.2 hv.2 h0 hi j b' hb ho
  cases ha
 | .a k ls::r,ss,vs,bx,ha,hc,hv,h0,hi,j,b',hb,ho=>by
  simp only[oQ]at ha;split at ha
  ·rename_i l0 m0 h1 h2;obtain⟨h3,rfl⟩:=AX ha;simp only[aP]at h3;have eu:=bN h3.2;obtain⟨c1,c2⟩:=qM hc;rw[kB]at hv;obtain⟨e1,e2⟩:=pH hv eu;exact xS hR EW hγ h2 c2 e2 h0 hi j b' hb ho
  cases ha
 | .b k ls::r,ss,vs,bx,ha,hc,hv,h0,hi,j,b',hb,ho=>by
  simp[oQ]at ha;split at ha
  ·rename_i q hq;split at ha
   ·rename_i c m0 h1 h2;obtain⟨h3,rfl⟩:=AX ha;have eu:=bN h3;obtain⟨c1,c2⟩:=qM hc;rw[kB]at hv;obtain⟨e1,e2⟩:=pH hv eu;simp only[Fv,hq]at hb;cases hn:cF bx q with
    | none=>
     rw[hn]at hb;refine xS hR EW hγ h2 c2 e2 h0 (λi b JS ho5=>?_) j b' hb ho;rcases hi i b JS ho5 with h | h
     ·exact .inl h
     simp only[Lv,hq,kU]at h;split at h
     ·rename_i e;have e:=by simpa using e
      rw[e,hn]at JS;cases JS
     exact .inr h
    | some b=>
     rw[hn]at hb;obtain⟨bs,g1,g2,g3⟩:=h0 q b hn;refine xS hR EW hγ h2 c2 e2 (λi b2 wx=>?_) (λi b2 wx Gf=>?_) j b' hb ho
     ·rw[jb hn]at wx;split at wx
      ·rename_i e;subst e;injection wx with wx;subst wx;exact⟨bs,g1,g2,g3⟩
      exact h0 i b2 wx
     rw[jb hn]at wx;split at wx
     ·rename_i e;subst e;injection wx with wx;subst wx;left;have CD:bs.ok=true:=by rw[<-g3];exact Gf
      obtain⟨c',k1,k2,k3⟩:=EW i bs g1;rw[h1]at k1;injection k1 with k1;subst k1;have hB:=(hR.bx i c h1 (k3.trans CD)).blk;rw[hγ i bs g1 CD,g2,<-k2,e1,hR.rz c1];exact hB
     rename_i ia;rcases hi i b2 wx Gf with h | h
     ·exact .inl h
     simp only[Lv,hq,kU]at h;split at h
     ·rename_i e;exact absurd (by simpa using e) ia
     exact .inr h
   cases ha
  cases ha
theorem qN{J}(h:Jg st kp ms J s)(hR:Rep β s a w)(hm:s.mv=false)(Gh:qC st kp ms s){K}(hK:C8 _ J K):
  ∃vs,K vs w/\Rep (EP st.bx) (lr st kp ms vs w) a w:=by
 obtain⟨h0,h⟩:=dh h;obtain⟨ss,hss,h⟩:=bn h;obtain⟨hc,h⟩:=dh h;simp only[aP]at h0;obtain⟨h0,u9⟩:=h0;have NJ:s.df=st.df:=by
  obtain⟨l,hl⟩:=Gh.df;have:=bN u9;rw[hl,aN]at this;have:l=[]:=List.length_eq_zero_iff.1 aE;rw[hl,this,cp]
 rw[<-hR.still hm]at h;obtain⟨vs,k1,k2,k3,k4⟩:=Ls h hK;have EW:∀i b,cF st.bx i=some b->∃c,cF s.bx i=some c/\c.ty=b.ty/\c.ok=b.ok:=λi b hb=>by
  obtain⟨c,h1,h2,h3,_⟩:=Gh.ps hb;exact⟨c,h1,h2,h3⟩
 have IH:∀i b,cF st.bx i=some b->b.ok=true->b.blk=some (β i):=λi b hb ho=>by
  obtain⟨hs,_⟩:=Bc h0.2 i b hb ho;obtain⟨c,h1,h2,h3,h4⟩:=Gh.ps hb;cases hk:b.blk with
  | none=>rw[hk]at hs;cases hs
  | some k=>rw[(hR.bx i c h1 (h3.trans ho)).at_ k (h4 k hk)]
 have hγ:∀i b,cF st.bx i=some b->b.ok=true->EP st.bx i=β i:=λi b hb ho=>by
  unfold EP;rw[hb];dsimp only;rw[IH i b hb ho];rfl
 have pj:∀i,C3 st.bx i=true->EP st.bx i=β i:=λi hi=>by
  unfold C3 at hi;cases hb:cF st.bx i with
  | none=>rw[hb]at hi;cases hi
  | some b=>
   rw[hb]at hi;simp at hi;exact hγ i b hb hi.1
 have Gi:∀i b',cF (Fv st ms vs st.bx) i=some b'->b'.ok=true->∃b,cF st.bx i=some b/\b.ok=true/\b'.blk=b.blk:=λi b' hb ho=>by
  cases hn:cF st.bx i with
  | none=>rw[mX _ _ _ _ hn]at hb;cases hb
  | some b=>
   obtain⟨b2,h1,h2,h3,h4,_⟩:=iz (st:=st) ms vs st.bx i b hn;rw[h1]at hb;injection hb with hb;subst hb;exact⟨b,rfl,by rw[<-h3];exact ho,h4⟩
 refine⟨vs,k1,pD ⟨hR.ok.sz.trans Gh.n,hR.ok.df.trans (br RS NJ),λi p hl hi=>?_⟩,λi b' hb ho=>?_,λi j bi bj g1 g2 g3 g4 zu=>?_,Only.refl _ _,λ_=>rfl⟩
 ·simp[lr]at hl;rw[rS]at hl;split at hl
  ·rename_i q hq;simp at hl;subst hl;exact Bd hR hss hc (k3 _) i q hq
  obtain⟨m1,m2⟩:=wW hl;obtain⟨k,v⟩:=p;obtain⟨v',n1,n2,n3,n4⟩:=G0 h0.1 i m1 k v m2;have:=Gh.slot m1 m2 n1 n2 n3;subst this;rw[hR.ok.at_ i _ n1 (by rw[Gh.n];exact hi)];congr 1;exact(iy (g:=C3 st.bx) pj _ n4).symm
 ·have hB:=xS hR EW hγ hss hc (k3 _) (bx:=st.bx) (λj b hb=>⟨b,hb,rfl,rfl⟩) (λj b hb ho=>by
   obtain⟨_,h1⟩:=Bc h0.2 j b hb ho;rw[bI]at h1;rcases h1 with h1 | ⟨c,h1,h2,h3⟩
   ·exact .inr h1
   cases hl:(Lv st ms).elem j with
   | true=>exact .inr rfl
   | false=>
    left;obtain⟨c',e1,e2,e3⟩:=EW j b hb;rw[h1]at e1;injection e1 with e1;subst e1;have:=(hR.bx j c h1 (e3.trans ho)).blk;rw[hγ j b hb ho,<-e2,gw (g:=C3 st.bx) pj _ h3,<-Gh.cells hb h1 ho hl h2];exact this) i b' hb ho
  obtain⟨b,g1,g2,g3⟩:=Gi i b' hb ho;refine⟨hB,λk hk=>?_,λhk=>?_⟩
  ·rw[hγ i b g1 g2];rw[g3,IH i b g1 g2]at hk;simpa using hk
  rw[g3,IH i b g1 g2]at hk;cases hk
 obtain⟨b,e1,e2,_⟩:=Gi i bi g1 g3;obtain⟨c,f1,f2,_⟩:=Gi j bj g2 g4;obtain⟨b',p1,_,p3⟩:=EW i b e1;obtain⟨c',q1,_,q3⟩:=EW j c f1;rw[hγ i b e1 e2,hγ j c f1 f2];exact hR.ne i j b' c' p1 q1 (p3.trans e2) (q3.trans f2) zu
end
def bR(S:Nat->Prop)(w w':av):Prop:=∀k,S k->k<w.heap.size->w'.heap[k]? =w.heap[k]?
theorem bR.refl S w:bR S w w:=λ_ _ _=>rfl
theorem bR.only{S}{w w'}(h:Only [] w w'):bR S w w':=λk _ hk=>h.block k hk aM
def tC(S:Nat->Prop)(k:Nat):Prop:=¬S k
def EE(P:Program)(ops:List Oper)(mb ms:Bool)(S:Nat->Prop)(j:Nat)(w w':av):Prop:=match fV ops j with
 | some o=>bif jk P o.op then w'.heap=w.heap else bif mb&&(ms||!wC o.op)then bR S w w' else True
 | none=>False
def XB(mb ms:Bool)(S:Nat->Prop)(o:Op):XT:=λw0 w1 p=>bif mb&&(ms||!wC o)then bR S w0 w1/\p else p
def YB(mb ms:Bool)(S:Nat->Prop):YT:=λbk p=>bif mb&&ms then(match bk with
 | some k=>tC S k/\p
 | none=>False)else p
def pI(P:Program):Nat->List Oper->List Nat
 | _,[]=>[]
 | i,o::r=>bif jk P o.op then pI P (i+1) r else i::pI P (i+1) r
def R6(q:Nat)(seen:List Nat):List Edge->Bool
 | []=>false
 | e::r=>(Region.binds .any e&&(Nat.beq e.on q||seen.elem e.on))||R6 q seen r
def Lw(q:Nat):Nat->List Nat->List Oper->List Nat
 | _,seen,[]=>seen
 | i,seen,o::r=>bif R6 q seen o.after.toList then Lw q (i+1) (i::seen) r else Lw q (i+1) seen r
def OX(bB:Array Bool):Nat->List Oper->List Nat
 | _,[]=>[]
 | i,_::r=>bif bB.getD i true then i::OX bB (i+1) r else OX bB (i+1) r
def Jh(D N:List Nat):List Nat->List Nat
 | []=>[]
 | j::r=>bif D.elem j||N.elem j then Jh D N r else j::Jh D N r
def G1(ops:List Oper):List Nat->Bool
 | []=>true
 | j::r=>(match fV ops j with
  | some o=>!wC o.op
  | none=>false)&&G1 ops r
def Dq(ops:List Oper)(q:Nat):List Nat:=(Lw q 0 [] ops).reverse
def TV(P:Program)(ops:List Oper)(bB:Array Bool)(q:Nat):List Nat:=Jh (Dq ops q) (OX bB 0 ops) (pI P 0 ops)
def TW{α:Type}:List α->Bool
 | []=>true
 | _=>false
def okT(ops:List Oper)(bB:Array Bool)(q:Nat):Bool:=
 Region.noSelect ops.toArray&&Region.free .any ops.toArray bB q&&ub .any ops.toArray bB&&qF .any ops.toArray q [] (Dq ops q)&&(OX bB 0 ops).all (λk=>bB.getD k true)
def P8(st:St)(ops:List Oper)(o:Oper)(O9 no:St->Prop):Prop:=match o.guard with
 | none=>O9 st
 | some (j,want)=>(match TN st ops j with
  | some (_,.un)=>no st
  | some (_,.bl b)=>bif b==want then O9 st else no st
  | some (d,.bt t)=>((t=true->bif true==want then O9 (st.put (some d) (.bl true))else no (st.put (some d) (.bl true)))/\
   (t=false->bif false==want then O9 (st.put (some d) (.bl false))else no (st.put (some d) (.bl false))))
  | _=>False)
def ldB(P:Program)(S:Nat->Prop)(st:St)(t:TypeId)(a:SV)(K:SV->Prop):Prop:=match P.underlying t with
 | none=>False
 | some d=>(match a with
  | .box i o=>bP (cF st.bx i) λb=>bif b.ok&&b.blk.isSome&&sz P t ((b.cells.drop o).take (tB P t)).length&&(lm d||Nat.beq ((b.cells.drop o).take (tB P t)).length 1)then S (b.blk.getD 0)/\K (I9 (lm d) ((b.cells.drop o).take (tB P t)))else False
  | .ad p=>bif !st.mv&&sz P t (KY P 12 t).length&&(lm d||Nat.beq (KY P 12 t).length 1)then S p.block/\PQ (KY P 12 t) λvs=>Cells st.w0 p (ck β0 vs)/\K (I9 (lm d) vs)else False
  | _=>False)
def cvB(P:Program)(S:Nat->Prop)(st:St)(s d:TypeId)(a:SV)(K:SV->Prop):Prop:=match P.underlying s,P.underlying d with
 | some (.slice e),some .string=>(match P.underlying e with
  | some (.int .u8)=>bP (GN a) λu=>bif st.mv then False else ∃l,(∀ad,u.a=some ad->S ad.block)/\qe st.w0 u l/\K (.str ⟨l.toArray⟩)
  | _=>False)
 | _,_=>False
def XZ(P:Program):Op->Bool
 | .load _ _=>true
 | .convert s d _=>(match P.underlying s,P.underlying d with
  | some (.slice _),some .string=>true
  | _,_=>false)
 | _=>false
def cvI(P:Program):Op->Bool
 | .convert s d _=>(match P.underlying s,P.underlying d with
  | some (.int _),some (.int _)=>true
  | some .string,some .string=>true
  | _,_=>false)
 | _=>false
def cvZ(P:Program)(s d:TypeId)(a:SV)(K:SV->Prop):Prop:=match P.underlying s,P.underlying d with
 | some (.int _),some (.int kd)=>bP (oL a) λp=>K (.int kd (kd.wrap p.2))
 | some .string,some .string=>bP (tA a) λu=>K (.str u)
 | _,_=>False
def qP(P:Program)(ops:List Oper)(mb ms:Bool)(S:Nat->Prop)(bB:Array Bool)(q:Nat)(o:Oper)(st:St)(K:St->Prop):Prop:=
 bif jk P o.op then
  bif cvI P o.op then(match o.op with
   | .convert s d x=>bP (st.ev x) λa=>cvZ P s d a λv=>K (st.put o.dst v)
   | _=>False)
  else bif !mem o.op||TW (TV P ops bB q)then TS (nd P st o.op) st λst=>TH P [] st o.op λv=>K (st.put o.dst v)
  else bif mb&&(ms||G1 ops (TV P ops bB q))then(match o.op with
   | .load t x=>TS (nd P st o.op) st λst=>bP (st.ev x) λa=>ldB P S st t a λv=>K (st.put o.dst v)
   | .convert s d x=>TS (nd P st o.op) st λst=>bP (st.ev x) λa=>cvB P S st s d a λv=>K (st.put o.dst v)
   | _=>False)else False
 else False
def fq(P:Program)(ops:List Oper):List Nat->Option Nat
 | []=>none
 | i::r=>match fV ops i with
  | some o=>bif jk P o.op then some i else fq P ops r
  | none=>none
def Da(P:Program)(ops:List Oper)(mb ms:Bool)(S:Nat->Prop):Nat->Array Bool->St->(St->Prop)->Prop
 | 0,bB,st,K=>(match Region.ready .any ops.toArray bB with
  | []=>K st
  | _=>False)
 | g+1,bB,st,K=>(match Region.ready .any ops.toArray bB with
  | []=>K st
  | i::r=>(match fq P ops (i::r)with
   | some q=>bP (fV ops q) λo=>bif okT ops bB q&&(i::r).contains q then
    P8 st ops o (λst=>qP P ops mb ms S bB q o st λst=>Da P ops mb ms S g (bB.setIfInBounds q true) st K) (λst=>Da P ops mb ms S g (bB.setIfInBounds q true) (st.put o.dst .un) K)else False
   | none=>(match r with
    | []=>bP (fV ops i) λo=>bif jk P o.op then False else
     P8 st ops o (λst=>loud P (XB mb ms S o.op) (YB mb ms S) st o λst=>Da P ops mb ms S g (bB.setIfInBounds i true) st K) (λst=>Da P ops mb ms S g (bB.setIfInBounds i true) (st.put o.dst .un) K)
    | [j]=>bP (fV ops i) λo=>bP (fV ops j) λo'=>bif jk P o.op||jk P o'.op then False else
     P8 st ops o (λst=>loud P (XB mb ms S o.op) (YB mb ms S) st o λst=>Da P ops mb ms S g (bB.setIfInBounds i true) st K) (λst=>Da P ops mb ms S g (bB.setIfInBounds i true) (st.put o.dst .un) K)/\
     P8 st ops o' (λst=>loud P (XB mb ms S o'.op) (YB mb ms S) st o' λst=>Da P ops mb ms S g (bB.setIfInBounds j true) st K) (λst=>Da P ops mb ms S g (bB.setIfInBounds j true) (st.put o'.dst .un) K)
    | _=>False)))
def mbN(P:Program)(ops:List Oper):Nat->List Oper->Bool
 | _,[]=>false
 | i,o::r=>(bif XZ P o.op then(pI P 0 ops).any λj=>!(Dq ops i).elem j&&!(Dq ops j).elem i
  else false)||mbN P ops (i+1) r
def TX(P:Program)(ops:List Oper):Nat->List Oper->Bool
 | _,[]=>false
 | i,o::r=>(bif XZ P o.op then(pI P 0 ops).any λj=>!(Dq ops i).elem j&&!(Dq ops j).elem i&&(match fV ops j with
   | some o'=>wC o'.op
   | none=>false)
  else false)||TX P ops (i+1) r
section
variable {P:Program} {ops:List Oper} {mb ms:Bool} {S:Nat->Prop} {β:Nat->Nat} {a:Act} {w:av}
theorem xT{st}{o}{O9 no}(h:P8 st ops o O9 no)(hR:Rep β st a w):
  ∃s,Ext st s/\Rep β s a w/\((Region.wanted o (yielded ops.toArray a.tmps)=true/\O9 s)∨(Region.wanted o (yielded ops.toArray a.tmps)=false/\no s)):=by
 unfold P8 at h;split at h
 ·rename_i hg;exact⟨st,Ext.refl _,hR,.inl ⟨wn hg,h⟩⟩
 rename_i j want hg;split at h
 ·rename_i d ht;exact⟨st,Ext.refl _,hR,.inr ⟨vi hR hg ht,h⟩⟩
 ·rename_i d b ht;have hw:=oM hR hg ht (b:=b) rfl;rcases mc h with⟨e,h⟩ | ⟨e,h⟩
  ·exact⟨st,Ext.refl _,hR,.inl ⟨hw.trans e,h⟩⟩
  exact⟨st,Ext.refl _,hR,.inr ⟨hw.trans e,h⟩⟩
 ·rename_i d t ht;obtain⟨oj,EV,Ri,O8⟩:=xE ht;have hw:=oM hR hg ht (b:=t) rfl;cases t with
  | true=>
   refine⟨_,Ext.put _ _ (.bl true),hR.set O8 rfl,?_⟩;rcases mc (h.1 rfl)with⟨e,h⟩ | ⟨e,h⟩
   ·exact .inl ⟨hw.trans e,h⟩
   exact .inr ⟨hw.trans e,h⟩
  | false=>
   refine⟨_,Ext.put _ _ (.bl false),hR.set O8 rfl,?_⟩;rcases mc (h.2 rfl)with⟨e,h⟩ | ⟨e,h⟩
   ·exact .inl ⟨hw.trans e,h⟩
   exact .inr ⟨hw.trans e,h⟩
 exact h.elim
theorem Fw{st:St}{d}{t}{x}{l}{ad}{w'}(hu:P.underlying t=some d)(hsz:sz P t l.length=true)(kY:lm d=true∨Nat.beq l.length 1=true)
  (IG:a.eval x=.pointer (some ad)) (hC:Cells w' ad (ck β l)) dst t' p af g:
  (execOp a.eval ⟨dst,.load t x,t',p,af,g⟩).run P w'=.ok (.value (val β (I9 (lm d) l))) w':=by
 rcases kY with qk | kY
 ·rw[nQ qk];have:=j9 (P:=P) hu w';rw[qk]at this;exact rN this (oc hsz w') (eS β l) IG hC
 cases qk:lm d with
 | true=>
  have e:=nQ qk β l;rw[qk]at e;rw[e];have:=j9 (P:=P) hu w';rw[qk]at this;exact rN this (oc hsz w') (eS β l) IG hC
 | false=>
  obtain⟨s,rfl⟩:=xD kY;have:=j9 (P:=P) hu w';rw[qk]at this;exact AI this IG (Cells.one hC)
theorem tD:∀{l:List Oper} {i j:Nat} {o:Oper},fV l j=some o->jk P o.op=false->i+j∈pI P i l
 | [],_,_,_,h,_=>aah
 | c::r,i,0,o,h,hp=>by
  simp[fV,bg]at h;subst h;simp[pI,hp]
 | c::r,i,j+1,o,h,hp=>by
  have:=tD (l:=r) (i:=i+1) (j:=j) h hp;rw[show i+1+j=i+(j+1) by omega]at this;simp[pI];cases jk P c.op with
  | true=>exact this
  | false=>exact cV _ this
theorem uk{D N}:∀{l:List Nat} {j:Nat},j∈l->j∉D->j∉N->j∈Jh D N l
 | c::r,j,h,h1,h2=>by
  simp only[Jh];rcases aX.1 h with rfl | h
  ·have e1:D.elem j=false:=aaz
   have e2:N.elem j=false:=ab3
   rw[e1,e2];simp
  cases(D.elem c||N.elem c)with
  | true=>exact uk h h1 h2
  | false=>exact cV _ (uk h h1 h2)
theorem Db:∀{l:List Nat} {j:Nat} {o:Oper},G1 ops l=true->j∈l->fV ops j=some o->wC o.op=false
 | [],j,o,_,hj,_=>by cases hj
 | c::r,j,o,h,hj,ho=>by
  simp[G1,aP]at h;rcases aX.1 hj with hc | hj
  ·have h1:=h.1;rw[<-hc,ho]at h1;cases he:wC o.op with
   | false=>rfl
   | true=>dsimp only at h1;rw[he]at h1;cases h1
  exact Db h.2 hj ho
def Sta(P:Program)(ops:List Oper)(mb ms:Bool)(S:Nat->Prop)(D N:List Nat)(F:av->Prop):Prop:=∀j w w',j∉D->j∉N->F w->EE P ops mb ms S j w w'->F w'
theorem R7{bB}{q}{o}{st}{K}(h:qP P ops mb ms S bB q o st K)(hR:Rep β st a w):
  ∃(v:aw) (s':St) (F:av->Prop),K s'/\Ext st s'/\Rep β s' (a.put o.dst v) w/\F w/\Sta P ops mb ms S (Dq ops q) (OX bB 0 ops) F/\jk P o.op=true/\∀w',F w'->(execOp a.eval o).run P w'=.ok (.value v) w':=by
 rcases mc h with⟨hp,h⟩ | ⟨_,h⟩
 case inr=>exact h.elim
 rcases mc h with⟨_,h⟩ | ⟨_,h⟩
 ·obtain⟨dst,op,t',p,af,g⟩:=o;cases op with
  | convert s d x=>
   dsimp only at h;obtain⟨ax,hx,h1⟩:=bn h;unfold cvZ at h1;split at h1
   ·rename_i ks kd h2 h3;obtain⟨⟨k,n⟩,U8,h1⟩:=bn h1;exact⟨_,_,λ_=>True,h1,Ext.put _ _ _,hR.put _ _,trivial,λ_ _ _ _ _ _ _=>trivial,hp,λw' _=>zH (run_underlying h2 w') (run_underlying h3 w') ((hR.ev hx).trans (cY U8 β))⟩
   ·rename_i h2 h3;obtain⟨u,U8,h1⟩:=bn h1;exact⟨_,_,λ_=>True,h1,Ext.put _ _ _,hR.put _ _,trivial,λ_ _ _ _ _ _ _=>trivial,hp,λw' _=>zI (run_underlying h2 w') (run_underlying h3 w') ((hR.ev hx).trans (gP U8 β))⟩
   exact h1.elim
  | _=>exact h.elim
 rcases mc h with⟨hb,h⟩ | ⟨hb,h⟩
 ·obtain⟨s1,h1,e1,gJ,_⟩:=vq h hR;obtain⟨v,hv,hy⟩:=Fk h1;have hy:=hy trivial β a w gJ;obtain⟨dst,op,t',p,af,g⟩:=o;cases hm:mem op with
  | false=>
   exact⟨val β v,_,λ_=>True,hv,e1.trans (Ext.put _ _ _),gJ.put _ v,trivial,λ_ _ _ _ _ _ _=>trivial,hp,λw' _=>hy _ _ _ _ _ w' λe=>by rw[hm]at e;cases e⟩
  | true=>
   have hn:=by simpa[hm]using hb
   refine⟨val β v,_,λw'=>w'.heap=w.heap,hv,e1.trans (Ext.put _ _ _),gJ.put _ v,rfl,λj w1 w2 hD hN hF hE=>?_,hp,λw' hF=>hy _ _ _ _ _ w' λ_=>hF⟩;unfold EE at hE;split at hE
   ·rename_i oj hj;rcases mc hE with⟨_,e⟩ | ⟨e,_⟩
    ·exact e.trans hF
    have:=uk (by have:=tD (i:=0) hj e;rwa[bI]at this) hD hN;unfold TV at hn;revert hn this;generalize Jh (Dq ops q) (OX bB 0 ops) (pI P 0 ops)=m;intro hn this;cases m with
    | nil=>cases this
    | cons=>cases hn
   exact hE.elim
 obtain⟨h0,h⟩:=dh h;simp only[aP]at h0;obtain⟨dst,op,t',p,af,g⟩:=o;have kP:∀F:av->Prop,∀k:Nat,S k->(∀w1 w2:av,F w1->w2.heap[k]? =w1.heap[k]? ->F w2)->(∀w1,F w1->k<w1.heap.size)->Sta P ops mb ms S (Dq ops q) (OX bB 0 ops) F:=by
  intro F k hk KB hF2 j w1 w2 hD hN hF hE;unfold EE at hE;split at hE
  ·rename_i oj hj;rcases mc hE with⟨_,e⟩ | ⟨e,hE⟩
   ·exact KB w1 w2 hF (by rw[e])
   have:=uk (by have:=tD (i:=0) hj e;rwa[bI]at this) hD hN;have hs:(ms||!wC oj.op)=true:=by
    rcases ci _ _▸h0.2 with h2 | h2
    ·rw[h2];rfl
    rw[Db h2 this hj,zG,lN]
   rw[h0.1,hs]at hE;exact KB w1 w2 hF (hE k hk (hF2 _ hF))
  exact hE.elim
 cases op with
 | load t x=>
  dsimp only at h;obtain⟨s1,h1,e1,gJ,_⟩:=vq h hR;obtain⟨ax,hx,h1⟩:=bn h1;unfold ldB at h1;split at h1
  ·exact h1.elim
  rename_i d hu;split at h1
  ·rename_i i off;obtain⟨b,yZ,h1⟩:=bn h1;obtain⟨hc,hS,hK⟩:=dh h1;simp only[aP,ci]at hc;obtain⟨⟨⟨qE,KA⟩,hsz⟩,kY⟩:=hc;have hBO:=gJ.bx i b yZ qE;have hB:=hBO.blk;have hbe:b.blk.getD 0=β i:=by
    cases hk:b.blk with
    | none=>rw[hk]at KA;cases KA
    | some k=>rw[hBO.at_ k hk];rfl
   rw[hbe]at hS;have IG:=gJ.ev hx;refine⟨_,_,λw'=>Blk w' _ b.ty _,hK,e1.trans (Ext.put _ _ _),gJ.put _ _,hB,kP _ _ hS (λw1 w2 hF e=>by unfold Blk at hF⊢;rw[e];exact hF) (λw1 hF=>hF.lt),hp,λw' hF=>?_⟩;generalize hl:(b.cells.drop off).take (tB P t)=l at*
   have hC:Cells w' ⟨β i,off,none⟩ (ck β l):=hF.B4 off _ (by
    rw[eS,<-hl];simp only[ck,pw,pz];rw[dC,oG];simp only[bW,bX];omega)
   exact Fw (st:=st) hu hsz kY IG hC _ _ _ _ _
  ·rename_i ad;obtain⟨hc,hS,h2⟩:=dh h1;simp only[aP,ci,cP]at hc;obtain⟨⟨tn,hsz⟩,kY⟩:=hc;obtain⟨vs,⟨hF,hK⟩,eu,pj⟩:=qI h2;rw[<-gJ.still tn]at hF;have hv:∀w',Cells w' ad _->Cells w' ad (ck β vs):=λw' h=>by
    rw[gw (β:=β) (β':=β0) (g:=λ_=>false) (λi h=>aah) vs (pj _)];exact h
   rw[<-eu]at hsz kY;by_cases aaa:ck β0 vs=[]
   ·refine⟨_,_,λ_=>True,hK,e1.trans (Ext.put _ _ _),gJ.put _ _,trivial,λ_ _ _ _ _ _ _=>trivial,hp,λw' _=>?_⟩;exact Fw (st:=st) hu hsz kY (gJ.ev hx) (hv w' (by rw[aaa];intro j v hj;simp at hj)) _ _ _ _ _
   exact⟨_,_,λw'=>Cells w' ad _,hK,e1.trans (Ext.put _ _ _),gJ.put _ _,hF,kP _ ad.block hS (λw1 w2 hF e=>hF.keep e) (λw1 hF=>hF.lt' aaa),hp,λw' hF=>Fw (st:=st) hu hsz kY (gJ.ev hx) (hv w' hF) _ _ _ _ _⟩
  exact h1.elim
 | convert s d x=>
  dsimp only at h;obtain⟨s1,h1,e1,gJ,_⟩:=vq h hR;obtain⟨ax,hx,h1⟩:=bn h1;unfold cvB at h1;split at h1
  ·rename_i e hu1 U9;split at h1
   ·rename_i hu3;obtain⟨u,U8,h1⟩:=bn h1;cases hm:s1.mv with
    | true=>rw[hm]at h1;exact h1.elim
    | false=>
     rw[hm]at h1;obtain⟨l,hS,hF,hK⟩:=h1;rw[<-(gJ.still hm)]at hF;refine⟨_,_,λw'=>qe w' u l,hK,e1.trans (Ext.put _ _ _),gJ.put _ _,hF,?_,hp,λw' hF'=>xx hu1 hu3 U9 ((gJ.ev hx).trans (jE U8 β)) hF'⟩;by_cases hl:l=[]
     ·subst hl;exact λj w1 w2 _ _ KB _=>⟨KB.1,λhh=>absurd rfl hh⟩
     obtain⟨ad,ha,_⟩:=hF.2 hl;refine kP _ ad.block (hS ad ha) (λw1 w2 KB e=>⟨KB.1,λhh=>?_⟩) (λw1 KB=>?_)
     ·obtain⟨Gd,Ez,hC⟩:=KB.2 hh;rw[ha]at Ez;injection Ez with Ez;subst Ez;exact⟨ad,ha,hC.keep e⟩
     obtain⟨Gd,Ez,hC⟩:=KB.2 hl;rw[ha]at Ez;injection Ez with Ez;subst Ez;exact hC.lt' (by cases l with
      | nil=>exact absurd rfl hl
      | cons c l=>simp)
   exact h1.elim
  exact h1.elim
 | _=>exact h.elim
theorem pJ{j}{o}(hj:fV ops j=some o) w:EE P ops mb ms S j w w:=by
 unfold EE;rw[hj];dsimp only;cases jk P o.op with
 | true=>rfl
 | false=>
  cases(mb&&_)with
  | true=>exact bR.refl _ _
  | false=>exact trivial
theorem Dc{Q}{j}{o}{st}{K}(hj:fV ops j=some o)(hp:jk P o.op=false)(h:loud P (XB mb ms S o.op) (YB mb ms S) st o K)(hR:Rep β st a w):o.wp P a w (R4 (EE P ops mb ms S j) st K w) Q:=by
 have WS:EE P ops mb ms S j=λw w'=>bif mb&&(ms||!wC o.op)then bR S w w' else True:=by
  unfold EE;rw[hj];dsimp only;rw[hp];rfl
 refine Ba (λw0 w1 p hx=>?_) (λw w1 hO=>?_) (λhs bk k w w1 p hy hk hO=>?_) h hR
 ·rw[WS];unfold XB at hx;cases hb:(mb&&_)with
  | true=>rw[hb]at hx;exact⟨hx.2,hx.1⟩
  | false=>rw[hb]at hx;exact⟨hx,trivial⟩
 ·rw[WS];cases(mb&&_)with
  | true=>exact bR.only hO
  | false=>exact trivial
 rw[WS];rw[hs,Bool.not_true,Bool.or_false];unfold YB at hy;cases hb:(mb&&ms)with
 | true=>
  rw[hb]at hy;cases bk with
  | none=>exact hy.elim
  | some j=>
   refine⟨hy.2,λq hq cd=>hO.block q cd ?_⟩;have:=hk j rfl;subst this;simp;rintro rfl;exact hy.1 hq
 | false=>rw[hb]at hy;exact⟨hy,trivial⟩
theorem qO{Q}(hQ:∀c a w,¬Q (.panic c) a w):∀{g:Nat} {bB:Array Bool} {st:St} {K:St->Prop} {β:Nat->Nat} {a:Act} {w:av},Da P ops mb ms S g bB st K->Rep β st a w->
  (∀β' cq a' w',K cq->Ext st cq->Rep β' cq a' w'->Q .normal a' w')->fh P .any ops.toArray Q (EE P ops mb ms S) g bB a w
 | 0,bB,st,K,β,a,w,h,hR,hK=>by
  unfold Da at h;split at h
  ·rename_i hr;exact⟨hr,hK β st a w h (Ext.refl _) hR⟩
  exact h.elim
 | g+1,bB,st,K,β,a,w,h,hR,hK=>by
  have L:∀{j:Nat} {o:Oper},fV ops j=some o->jk P o.op=false->
    P8 st ops o (λst=>loud P (XB mb ms S o.op) (YB mb ms S) st o λst=>Da P ops mb ms S g (bB.setIfInBounds j true) st K) (λst=>Da P ops mb ms S g (bB.setIfInBounds j true) (st.put o.dst .un) K)->
    if Region.wanted o (yielded ops.toArray a.tmps)then o.wp P a w (λa' w'=>EE P ops mb ms S j w w'/\fh P .any ops.toArray Q (EE P ops mb ms S) g (bB.setIfInBounds j true) a' w') Q∨(o.asks P a w/\LetsOut Q)
    else(λa' w'=>EE P ops mb ms S j w w'/\fh P .any ops.toArray Q (EE P ops mb ms S) g (bB.setIfInBounds j true) a' w') (a.put o.dst undef) w:=by
   intro j o ho hp h;obtain⟨s,e1,gJ,h1⟩:=xT h hR;rcases h1 with⟨hw,h1⟩ | ⟨hw,h1⟩
   ·rw[aR hw];refine .inl (Oper.wp_mono ?_ (Dc ho hp h1 gJ));rintro a' w' ⟨β',cq,k1,k2,k3,k4⟩;exact⟨k3,qO hQ k1 k4 λβ2 ww a2 w2 m1 m2 m3=>hK β2 ww a2 w2 m1 ((e1.trans k2).trans m2) m3⟩
   rw[aO (by simp[hw])];exact⟨pJ ho w,qO hQ h1 (gJ.put o.dst .un) λβ2 ww a2 w2 m1 m2 m3=>hK β2 ww a2 w2 m1 ((e1.trans (Ext.put _ _ _)).trans m2) m3⟩
  unfold Da at h;split at h
  ·rename_i hr;exact Tz hr (hK β st a w h (Ext.refl _) hR)
  rename_i i r hr;split at h
  ·rename_i q hq;obtain⟨o,ho,h⟩:=bn h;obtain⟨hc,h⟩:=dh h;simp only[aP,okT]at hc;obtain⟨⟨⟨⟨⟨c1,c2⟩,c3⟩,c4⟩,c5⟩,c6⟩:=hc;obtain⟨s,e1,gJ,h1⟩:=xT h hR;rcases h1 with⟨hw,h1⟩ | ⟨hw,h1⟩
   ·obtain⟨v,s2,F,k1,k2,k3,k4,k5,k6,k7⟩:=R7 h1 gJ;have hE:∀w1,F w1->EE P ops mb ms S q w1 w1:=λw1 _=>pJ ho w1;exact Ff q _ _ v F ho c1 c2 (by rw[hr];exact c6) c3 c4 c5 (λc a w hp=>(hQ _ _ _ hp).elim) k5 hE k4 (RQ hw k7) rfl
     (qO hQ k1 k3 λβ2 ww a2 w2 m1 m2 m3=>hK β2 ww a2 w2 m1 ((e1.trans k2).trans m2) m3)
   exact Ff q _ _ undef _ ho c1 c2 (by rw[hr];exact c6) c3 c4 c5 (λc a w hp=>(hQ _ _ _ hp).elim) (λ_ _ _ _ _ _ _=>trivial) (λw1 _=>pJ ho w1) trivial (TA hw) rfl
    (qO hQ h1 (gJ.put o.dst .un) λβ2 ww a2 w2 m1 m2 m3=>hK β2 ww a2 w2 m1 ((e1.trans (Ext.put _ _ _)).trans m2) m3)
  split at h
  ·obtain⟨o,ho,h⟩:=bn h;rcases mc h with⟨_,h⟩ | ⟨hp,h⟩
   ·exact h.elim
   obtain⟨s,e1,gJ,h1⟩:=xT h hR;rcases h1 with⟨hw,h1⟩ | ⟨hw,h1⟩
   ·refine XE i ho hr hw (Oper.wp_mono ?_ (Dc ho hp h1 gJ));rintro a' w' ⟨β',cq,k1,k2,k3,k4⟩;exact⟨k3,qO hQ k1 k4 λβ2 ww a2 w2 m1 m2 m3=>hK β2 ww a2 w2 m1 ((e1.trans k2).trans m2) m3⟩
   exact PL i ho hr hw (pJ ho w) rfl (qO hQ h1 (gJ.put o.dst .un) λβ2 ww a2 w2 m1 m2 m3=>hK β2 ww a2 w2 m1 ((e1.trans (Ext.put _ _ _)).trans m2) m3)
  ·rename_i j _;obtain⟨o,ho,h⟩:=bn h;obtain⟨o',KC,h⟩:=bn h;rcases mc h with⟨_,h⟩ | ⟨hp,h⟩
   ·exact h.elim
   simp at hp;exact XF i j ho KC hr (L ho hp.1 h.1) (L KC hp.2 h.2)
  exact h.elim
end
def mE(ws w w':av):Prop:=w.heap.size<=w'.heap.size/\∀k,ws.heap.size<=k->k<w.heap.size->w'.heap[k]? =w.heap[k]?
def xU(mk:List (Nat×Nat))(b:Nat):Prop:=∀p∈mk,b<p.1∨p.2<=b
theorem mE.only{bs}{ws w w'}(h:Only bs w w')(hb:∀b∈bs,b<ws.heap.size∨w.heap.size<=b):mE ws w w':=
 ⟨h.size,λk h1 h2=>h.block k h2 λhk=>abS⟩
theorem mE.Iz{ws w w'}(h:Only [] w w'):mE ws w w':=mE.only h aM
theorem xU.one{m n b}{r}(h:xU ((m,n)::r) b):b<m∨n<=b:=h _ dG
structure LZ where
 z:Nat
 d:Nat
 t:TypeId
 zs:List SV
def tE(P:Program)(z:Nat)(o:Oper):Option LZ:=match o.op,o.dst,o.guard with
 | .alloc t,some d,none=>(match zc P t with
  | some zs=>bif TW o.after.toList&&gN (λ_=>false) zs then some ⟨z,d,t,zs⟩else none
  | none=>none)
 | _,_,_=>none
def kq(P:Program):Nat->List Oper->List LZ
 | _,[]=>[]
 | i,o::r=>match tE P i o with
  | some p=>p::kq P (i+1) r
  | none=>kq P (i+1) r
def mM:List LZ->List Nat
 | []=>[]
 | p::r=>p.z::mM r
def X1:List LZ->List Nat
 | []=>[]
 | p::r=>p.d::X1 r
def Dd(z d:Nat):Nat->List Oper->Bool
 | _,[]=>true
 | i,o::r=>(Nat.beq i z||(match o.dst with
  | some e=>!Nat.beq e d
  | none=>true))&&Dd z d (i+1) r
def WB(ops:List Oper):List LZ->Bool
 | []=>true
 | p::r=>Dd p.z p.d 0 ops&&WB ops r
theorem Ly{α}:∀{l:List α},TW l=true->l=[]
 | [],_=>rfl
theorem lu{P}{z}{o}{p}(h:tE P z o=some p):p.z=z/\o.op=.alloc p.t/\o.dst=some p.d/\o.guard=none/\o.after.toList=[]/\zc P p.t=some p.zs/\gN (λ_=>false) p.zs=true:=by
 unfold tE at h;split at h
 ·rename_i t d h1 h2 h3;split at h
  ·rename_i zs hz;obtain⟨h4,rfl⟩:=AX h;simp at h4;exact⟨rfl,h1,h2,h3,Ly h4.1,hz,h4.2⟩
  cases h
 cases h
theorem mN{Z}{z}:z∈mM Z↔∃p∈Z,p.z=z:=by
 induction Z with
 | nil=>simp[mM]
 | cons p r ih=>simp[mM,ih,eq_comm (a:=z)]
theorem xV{P}:∀{l:List Oper} {i:Nat} {p:LZ},p∈kq P i l->∃j o,p.z=i+j/\fV l j=some o/\tE P p.z o=some p
 | [],i,p,h=>aah
 | o::r,i,p,h=>by
  have tl:p∈kq P (i+1) r->∃j o',p.z=i+j/\fV (o::r) j=some o'/\tE P p.z o'=some p:=λh=>by
   obtain⟨j,o',h1,h2,h3⟩:=xV h;exact⟨j+1,o',aE,h2,h3⟩
  unfold kq at h;split at h
  ·rename_i q hq;rcases aX.1 h with rfl | h
   ·have:=(lu hq).1;exact⟨0,o,this,rfl,by rw[this];exact hq⟩
   exact tl h
  exact tl h
theorem xW{P}:∀{l:List Oper} {i:Nat},(mM (kq P i l)).Nodup
 | [],i=>by simp[kq,mM]
 | o::r,i=>by
  unfold kq;split
  ·rename_i q hq;have e:=(lu hq).1;simp[mM];refine⟨λhm=>?_,xW⟩;obtain⟨p,h1,h2⟩:=mN.1 hm;obtain _:=xV h1;omega
  exact xW
theorem Lz{z d}:∀{l:List Oper} {i j:Nat} {o:Oper},Dd z d i l=true->fV l j=some o->i+j≠z->o.dst≠some d:=by
 intro l
 induction l with
 | nil=>intro i j o _ h;cases h
 | cons c r ih=>
  intro i j o h hj hz;simp only[Dd,aP,ci]at h;cases j with
  | zero=>
   simp[fV]at hj;intro e;simp_all
  | succ j=>exact ih (i:=i+1) (j:=j) h.2 hj aE
theorem LA{ops}:∀{Z:List LZ},WB ops Z=true->∀p∈Z,Dd p.z p.d 0 ops=true
 | q::r,h,p,hp=>by
  simp[WB]at h;rcases aX.1 hp with rfl | hp
  ·exact h.1
  exact LA h.2 p hp
def ei(l:Array Bool):List Nat->Array Bool
 | []=>l
 | z::r=>ei (l.setIfInBounds z true) r
theorem Df(l:Array Bool) i j:(l.setIfInBounds i true).setIfInBounds j true=(l.setIfInBounds j true).setIfInBounds i true:=by
 by_cases h:i=j
 ·subst h;rfl
 exact Array.setIfInBounds_comm _ _ h
theorem mY:∀{D:List Nat} {l:Array Bool} {z:Nat},ei (l.setIfInBounds z true) D=(ei l D).setIfInBounds z true
 | [],_,_=>rfl
 | d::r,l,z=>by simp[ei,Df,mY]
theorem Dg{D E}(h:D.Perm E):∀l,ei l D=ei l E:=by
 induction h with
 | nil=>intro l;rfl
 | cons x _ ih=>intro l;exact ih _
 | swap x y r=>intro l;simp[ei];rw[Df]
 | trans _ _ h1 h2=>intro l;exact(h1 l).trans (h2 l)
theorem oS:∀{D:List Nat} {l:Array Bool} {k:Nat},(ei l D).getD k false=true↔l.getD k false=true∨(k∈D/\k<l.size)
 | [],l,k=>by simp[ei]
 | d::r,l,k=>by
  simp only[ei];rw[oS];by_cases h:d=k
  ·subst h;by_cases hs:d<l.size
   ·simp[hs]
   simp[hs]
  simp[oA h,Ne.symm h]
theorem mZ:∀{D:List Nat} {l:Array Bool} {k:Nat},(ei l D).getD k true=true↔l.getD k true=true∨k∈D
 | [],l,k=>by simp[ei]
 | d::r,l,k=>by
  simp only[ei];rw[mZ];by_cases h:d=k
  ·simp_all
  simp[oA h,Ne.symm h]
def zl(Zi:List Nat):List Nat->List Nat
 | []=>[]
 | j::r=>bif Zi.elem j then zl Zi r else j::zl Zi r
theorem oT{Zi}:∀{l:List Nat} {j:Nat},j∈zl Zi l↔j∈l/\j∉Zi
 | [],j=>by simp[zl]
 | c::r,j=>by
  simp only[zl];cases h:Zi.elem c with
  | true=>
   simp only[mV,oT,aX]
   grind
  | false=>
   simp[oT]
   grind
def G2(Zi R:List Nat):List Nat->Bool
 | []=>true
 | j::r=>(R.elem j&&!Zi.elem j)&&G2 Zi R r
theorem Dh{Zi R}:∀{l:List Nat},G2 Zi R l=true->∀j∈l,j∈R/\j∉Zi
 | c::r,h,j,hj=>by
  simp[G2]at h;rcases aX.1 hj with rfl | hj
  ·grind
  exact Dh h.2 j hj
def ul(l:Array Bool):List Nat->Bool
 | []=>true
 | z::r=>!l.getD z true&&ul l r
theorem wa{l}:∀{Zi:List Nat},ul l Zi=true->∀z∈Zi,l.getD z true=false
 | c::r,h,z,hz=>by
  simp only[ul,aP,cP]at h;rcases aX.1 hz with rfl | hz
  ·exact h.1
  exact wa h.2 z hz
def TY(ops:List Oper)(Zi:List Nat)(l:Array Bool):Bool:=G2 Zi (Region.ready .any ops.toArray l) (Region.ready .any ops.toArray (ei l Zi))
def G3(z:Nat):List Nat->Bool
 | []=>true
 | j::r=>Nat.beq j z&&G3 z r
theorem Di{z}:∀{l:List Nat},G3 z l=true->∀j∈l,j=z
 | c::r,h,j,hj=>by
  simp only[G3,aP]at h;rcases aX.1 hj with rfl | hj
  ·simp_all
  exact Di h.2 j hj
def P9(ops:List Oper)(l:Array Bool)(Zi:List Nat):List Nat->Bool
 | []=>true
 | z::r=>G3 z (Region.ready .any ops.toArray (ei l (Zi.erase z)))&&P9 ops l Zi r
theorem G4{ops}{l}{Zi}:∀{r:List Nat},P9 ops l Zi r=true->∀z∈r,∀j∈Region.ready .any ops.toArray (ei l (Zi.erase z)),j=z
 | c::r,h,z,hz=>by
  simp[P9]at h;rcases aX.1 hz with rfl | hz
  ·exact Di h.1
  exact G4 h.2 z hz
section
variable {md:Region.Mode} {ops:Array Oper}
theorem vt{l}{D E}(hs:∀x∈D,x∈E){j}(h:j∈Region.ready md ops (ei l D))(hj:j∉E):j∈Region.ready md ops (ei l E):=by
 rw[mem_ready]at h⊢;obtain⟨h0,o,ho,fm⟩:=h;refine⟨?_,o,ho,λe he hb=>?_⟩
 ·rw[fK]at h0⊢;intro h1;rcases mZ.1 h1 with h1 | h1
  ·exact h0 (mZ.2 (.inl h1))
  exact hj h1
 rcases oS.1 (fm e he hb)with h1 | h1
 ·exact oS.2 (.inl h1)
 exact oS.2 (.inr ⟨hs _ h1.1,h1.2⟩)
theorem zm{l}(h:pA md ops l){D}(hD:∀z∈D,∀o,ops[z]? =some o->o.after.toList=[]):pA md ops (ei l D):=by
 intro k o hk hl e he hb;rcases oS.1 hl with h1 | h1
 ·exact oS.2 (.inl (h k o hk h1 e he hb))
 have:=hD k h1.1 o hk;simp_all
end
theorem TZ{P}{o:Oper}{a}{w}{K}{Q}(hh:o.wp P a w K Q):
  o.wp P a w (λa' w'=>K a' w'/\∀i,o.dst≠some i->a'.tmps[i]? =a.tmps[i]?) Q:=by
 unfold Oper.wp at*
 generalize (execOp a.eval o).run P w=r at*
 cases r with
 | ok n w'=>
  cases n
  case value v=>exact⟨hh,(jU _ _ _).2.2⟩
  case skip=>exact⟨hh,(jU _ _ _).2.2⟩
  case defer d=>exact⟨hh,(jU _ _ _).2.2⟩
  case enter f args=>
   refine Calls.mono hh (λe sD he=>?_);cases e with
   | returned v=>exact⟨he,(jU _ _ _).2.2⟩
   | _=>exact he
  case row n args=>exact Rows.mono hh (λv sD he=>⟨he,(jU _ _ _).2.2⟩)
  all_goals exact hh
 | halt x w'=>cases x<;>simp[Oper.upon]at hh⊢ <;>exact hh
structure Late (Z:List LZ) (ws:av) (bz:Nat->Nat) (D:List Nat) (mk:List (Nat×Nat)) (a:Act) (w:av):Prop where
 at_:∀p∈Z,p.z∈D->a.tmps[p.d]? =some (.pointer (some ⟨bz p.z,0,none⟩))/\Blk w (bz p.z) p.t (ck β0 p.zs)/\ws.heap.size<=bz p.z/\xU mk (bz p.z)
 sub:∀z∈D,z∈mM Z
 ne:∀z∈D,∀z'∈D,z≠z'->bz z≠bz z'
 top:∀p∈mk,p.2<=w.heap.size
 le:ws.heap.size<=w.heap.size
section
variable {Z:List LZ} {ws:av} {bz:Nat->Nat} {D:List Nat} {mk:List (Nat×Nat)} {a a':Act} {w w1:av}
theorem Late.act(h:Late Z ws bz D mk a w)(ha:∀p∈Z,a'.tmps[p.d]? =a.tmps[p.d]?):Late Z ws bz D mk a' w:=
 ⟨λp hp hd=>by rw[ha p hp];exact h.at_ p hp hd,h.sub,h.ne,h.top,h.le⟩
theorem Late.loud(h:Late Z ws bz D mk a w)(hN:mE ws w w1)(ha:∀p∈Z,a'.tmps[p.d]? =a.tmps[p.d]?):Late Z ws bz D ((w.heap.size,w1.heap.size)::mk) a' w1:=by
 refine⟨λp hp hd=>?_,h.sub,h.ne,λp hp=>?_,bh h.le hN.1⟩
 ·obtain⟨h1,h2,h3,h4⟩:=h.at_ p hp hd;have h5:=h2.lt;refine⟨by rw[ha p hp];exact h1,?_,h3,λq hq=>?_⟩
  ·unfold Blk at h2⊢;rw[hN.2 _ h3 h5];exact h2
  rcases aX.1 hq with rfl | hq
  ·exact .inl h5
  exact h4 q hq
 rcases aX.1 hp with rfl | hp
 ·exact aY _
 exact bh (h.top p hp) hN.1
theorem Late.alloc(h:Late Z ws bz D mk a w)(hu:∀p∈Z,∀q∈Z,p.z=q.z->p=q)(hd:∀p∈Z,∀q∈Z,p.z≠q.z->p.d≠q.d){p}(hp:p∈Z)(hn:p.z∉D){b}(hb:w.heap.size<=b)(hO:Only [] w w1)(hB:Blk w1 b p.t (ck β0 p.zs))(hs:p.d<a.tmps.size):
  Late Z ws (λz=>if z=p.z then b else bz z) (p.z::D) mk (a.put (some p.d) (.pointer (some ⟨b,0,none⟩))) w1:=by
 refine⟨λq hq hqd=>?_,λz hz=>?_,λz hz z' hz' ia=>?_,λq hq=>bh (h.top q hq) hO.size,bh h.le hO.size⟩
 ·by_cases e:q.z=p.z
  ·have:=hu q hq p hp e;subst this;rw[aR rfl];refine⟨by simp[Act.put,hs],hB,bh h.le hb,λx hx=>.inr (bh (h.top x hx) hb)⟩
  rw[aO e];obtain⟨h1,h2,h3,h4⟩:=h.at_ q hq abS;refine⟨?_,hO.blk h2 aM,h3,h4⟩;rw[(jU a _ _).2.2 q.d (by
   intro k;injection k with k;exact hd p hp q hq (Ne.symm e) k)]
  exact h1
 ·rcases aX.1 hz with rfl | hz
  ·exact mN.2 ⟨p,hp,rfl⟩
  exact h.sub z hz
 have Ky:∀z∈D,bz z<w.heap.size:=λz hz=>by
  obtain⟨q,hq,rfl⟩:=mN.1 (h.sub z hz);exact(h.at_ q hq hz).2.1.lt
 rcases aX.1 hz with rfl | hz<;>rcases aX.1 hz' with rfl | hz'
 ·exact absurd rfl ia
 ·grind
 ·rw[aO ia,aR rfl];have:=Ky _ hz;omega
 rw[aO (λe=>hn (by rw[<-e];exact hz)),aO (λe=>hn (by rw[<-e];exact hz'))];exact h.ne _ hz _ hz' ia
end
def YF:YT:=λ_ _=>False
def XL(mb ms:Bool)(S:Nat->Prop)(ws:av)(o:Op):XT:=λw0 w1 p=>mE ws w0 w1/\XB mb ms S o w0 w1 p
def G5(st:St):List LZ->Bool
 | []=>true
 | p::r=>(dA st.fr p.d).isNone&&Nat.blt p.d st.n&&G5 st r
theorem Dj{st}:∀{Z:List LZ},G5 st Z=true->∀p∈Z,dA st.fr p.d=none/\p.d<st.n
 | q::r,h,p,hp=>by
  simp only[G5,aP,Option.isNone_iff_eq_none]at h;rcases aX.1 hp with rfl | hp
  ·simp_all
  exact Dj h.2 p hp
def St.vP(st:St):St:={st with mv:=true}
def eqA:List Bool->List Bool->Bool
 | [],[]=>true
 | a::r,b::s=>(a==b)&&eqA r s
 | _,_=>false
theorem LB:∀{l m:List Bool},eqA l m=true->l=m
 | [],[],_=>rfl
 | a::r,b::s,h=>by
  simp[eqA]at h;rw[h.1,LB h.2]
def lL(P:Program)(ops:List Oper)(mb ms:Bool)(S:Nat->Prop)(ws:av)(mk:List (Nat×Nat))(st:St)(o:Oper)(D:List (Nat×Nat)->St->Prop):Prop:=
 bif jk P o.op then False else P8 st ops o (λst=>eh st λst=>loud P (XL mb ms S ws o.op) YF st o λs=>bif s.mv then False else D ((st.w0.heap.size,s.w0.heap.size)::mk) s.vP) (λst=>D mk (St.vP (st.put o.dst .un)))
def fqG(P:Program)(ops:List Oper)(Zi:List Nat)(bB:Array Bool):List Nat->Option Nat
 | []=>none
 | i::r=>(match fV ops i with
  | some o=>bif jk P o.op&&TY ops Zi (bB.setIfInBounds i true)then some i else fqG P ops Zi bB r
  | none=>fqG P ops Zi bB r)
def fqZ(P:Program)(ops:List Oper)(Zi:List Nat)(bB:Array Bool)(l:List Nat):Option Nat:=
 match fqG P ops Zi bB l with
 | some q=>some q
 | none=>fq P ops l
def Ji(P:Program)(ops:List Oper)(mb ms:Bool)(S:Nat->Prop)(ws:av)(Z:List LZ)(vQ:Array Bool)(gm:Nat)(K:List (Nat×Nat)->St->Prop):Nat->Array Bool->List (Nat×Nat)->St->Prop
 | 0,_,_,_=>False
 | g+1,bB,mk,st=>bif ul bB (mM Z)&&G5 st Z then(match zl (mM Z) (Region.ready .any ops.toArray bB)with
  | []=>bif P9 ops bB (mM Z) (mM Z)&&eqA bB.toList vQ.toList&&Nat.beq (g+1) gm&&Nat.ble (mM Z).length (g+1)then K mk st else False
  | i::r=>bif TY ops (mM Z) bB&&Nat.ble (mM Z).length g then(match fqZ P ops (mM Z) bB (i::r)with
   | some q=>bP (fV ops q) λo=>bif okT ops bB q&&(i::r).contains q then
    P8 st ops o (λst=>qP P ops mb ms S bB q o st.vP λst=>Ji P ops mb ms S ws Z vQ gm K g (bB.setIfInBounds q true) mk st.vP) (λst=>Ji P ops mb ms S ws Z vQ gm K g (bB.setIfInBounds q true) mk (St.vP (st.put o.dst .un)))else False
   | none=>(match r with
    | []=>bP (fV ops i) λo=>lL P ops mb ms S ws mk st o λmk st=>Ji P ops mb ms S ws Z vQ gm K g (bB.setIfInBounds i true) mk st
    | [j]=>bP (fV ops i) λo=>bP (fV ops j) λo'=>
     lL P ops mb ms S ws mk st o (λmk st=>Ji P ops mb ms S ws Z vQ gm K g (bB.setIfInBounds i true) mk st)/\
     lL P ops mb ms S ws mk st o' (λmk st=>Ji P ops mb ms S ws Z vQ gm K g (bB.setIfInBounds j true) mk st)
    | [j,k]=>bP (fV ops i) λo=>bP (fV ops j) λo'=>bP (fV ops k) λo''=>
     lL P ops mb ms S ws mk st o (λmk st=>Ji P ops mb ms S ws Z vQ gm K g (bB.setIfInBounds i true) mk st)/\
     lL P ops mb ms S ws mk st o' (λmk st=>Ji P ops mb ms S ws Z vQ gm K g (bB.setIfInBounds j true) mk st)/\
     lL P ops mb ms S ws mk st o'' (λmk st=>Ji P ops mb ms S ws Z vQ gm K g (bB.setIfInBounds k true) mk st)
    | _=>False))else False)else False
section
variable {P:Program} {ops:List Oper} {mb ms:Bool} {S:Nat->Prop} {β:Nat->Nat} {a:Act} {w:av} {ws:av} {Z:List LZ} {vQ:Array Bool} {gm:Nat}
theorem Rep.late{st}(hR:Rep β st a w)(hm:st.mv=true){d}{v}(hd:dA st.fr d=none){w1}(hO:Only [] w w1):Rep β st (a.put (some d) v) w1:=by
 obtain⟨p1,p2,p3⟩:=jU a _ v;refine⟨pD ⟨p1.trans hR.ok.sz,p2.trans hR.ok.df,λi p hl hi=>?_⟩,λi b hb ho=>?_,hR.ne,hR.only.cn hO,λh=>by rw[hm]at h;cases h⟩
 ·rw[p3 i abS];exact hR.ok.at_ i p hl hi
 obtain⟨k1,k2,k3⟩:=hR.bx i b hb ho;exact⟨hO.blk k1 aM,k2,k3⟩
theorem Rep.vP{st}(hR:Rep β st a w):Rep β st.vP a w:=⟨hR.fr,hR.bx,hR.ne,hR.only,λh=>aah⟩
theorem Ext.vP st:Ext st st.vP:=⟨rfl,aY _,λ_ _ _ h _=>h,λi b h ho _=>⟨b,h,ho,rfl,rfl,rfl,λ_ h=>h⟩,KX,Cy⟩
theorem X2{Q}{j}{o}{st}{mk}{D}(hj:fV ops j=some o)(h:lL P ops mb ms S ws mk st o D)(hR:Rep β st a w):
  wpOp P ops.toArray Q j (λa' w'=>EE P ops mb ms S j w w'/\(∀i,o.dst≠some i->a'.tmps[i]? =a.tmps[i]?)/\∃β' cq mk',D mk' cq/\Ext st cq/\cq.mv=true/\Rep β' cq a' w'/\((mk'=mk/\w'=w)∨(mk'=(w.heap.size,w'.heap.size)::mk/\mE ws w w'))) a w:=by
 rcases mc h with⟨_,h⟩ | ⟨hp,h⟩
 ·exact h.elim
 have hj':ops.toArray[j]? =some o:=by rw[jq]at hj;simpa using hj
 unfold wpOp;simp only[hj'];obtain⟨s,e1,gJ,h1⟩:=xT h hR;rcases h1 with⟨hw,h1⟩ | ⟨hw,h1⟩
 ·rw[aR hw];left;obtain⟨s1,h2,e2,S1,tq,_⟩:=dB h1 gJ;have WS:EE P ops mb ms S j=λw w'=>bif mb&&(ms||!wC o.op)then bR S w w' else True:=by
   unfold EE;simp_all
  have:=TZ (Ba (E:=λw w'=>EE P ops mb ms S j w w'/\mE ws w w') (Q:=Q) (λw0 w1 p hx=>?_) (λw w1 hO=>?_) (λhs bk k w w1 p hy hk hO=>hy.elim) h2 S1)
  ·refine Oper.wp_mono ?_ this;rintro a' w' ⟨⟨β',cq,k1,k2,k3,k4⟩,k5⟩;rcases mc k1 with⟨_,k1⟩ | ⟨km,k1⟩
   ·exact k1.elim
   refine⟨k3.1,k5,β',cq.vP,_,k1,((e1.trans e2).trans k2).trans (Ext.vP _),rfl,k4.vP,.inr ⟨?_,k3.2⟩⟩;rw[<-k4.still km,<-S1.still tq]
  ·rw[WS];obtain⟨hN,hx⟩:=hx;unfold XB at hx;cases hb:(mb&&(ms||!wC o.op))<;>grind
  rw[WS];refine⟨?_,mE.Iz hO⟩;cases(mb&&_)with
  | true=>exact bR.only hO
  | false=>exact trivial
 rw[aO abS];exact⟨pJ hj w,(jU _ _ _).2.2,β,_,mk,h1,(e1.trans (Ext.put _ _ _)).trans (Ext.vP _),rfl,(gJ.put o.dst .un).vP,.inl ⟨rfl,trivial⟩⟩
theorem LC{Q:Exit->Act->av->Prop}(hQ:∀c a w,¬Q (.panic c) a w)(hZ:∀p∈Z,∃o,fV ops p.z=some o/\tE P p.z o=some p)(hzo:WB ops Z=true)(hnd:(mM Z).Nodup){s0:St}{K:List (Nat×Nat)->St->Prop}
  (hK:∀mk st β a w bz D m,K mk st->Ext s0 st->Rep β st a w->Late Z ws bz D mk a w->D.Perm (mM Z)->m+D.length=gm->fh P .any ops.toArray Q (EE P ops mb ms S) m (ei vQ D) a w):
  ∀(m g:Nat) {bB:Array Bool} {mk:List (Nat×Nat)} {st:St} {β:Nat->Nat} {a:Act} {w:av} {bz:Nat->Nat} {D Pd:List Nat},Ji P ops mb ms S ws Z vQ gm K g bB mk st->Ext s0 st->st.mv=true->Rep β st a w->Late Z ws bz D mk a w->(D++Pd).Perm (mM Z)->m+D.length=g->
   fh P .any ops.toArray Q (EE P ops mb ms S) m (ei bB D) a w:=by
 intro m;have hu:∀p∈Z,∀q∈Z,p.z=q.z->p=q:=λp hp q hq e=>by
  obtain⟨o,h1,h2⟩:=hZ p hp;obtain⟨o',h3,h4⟩:=hZ q hq;rw[e,h3]at h1;injection h1 with h1;subst h1;rw[e,h4]at h2;injection h2 with h2;exact h2.symm
 have hdo:∀p∈Z,∀j o,fV ops j=some o->j≠p.z->o.dst≠some p.d:=λp hp j o hj ia=>Lz (LA hzo p hp) hj (by rw[bI];exact ia);have NK:∀p∈Z,∀q∈Z,p.z≠q.z->p.d≠q.d:=λp hp q hq ia e=>by
  obtain⟨o',h3,h4⟩:=hZ q hq;exact hdo p hp q.z o' h3 (Ne.symm ia) (by rw[(lu h4).2.2.1,e])
 induction m using Nat.strongRecOn with
 | ind m ih=>
 intro g bB mk st β a w bz D Pd h he hm hR hL hp hg;cases g with
 | zero=>exact h.elim
 | succ g=>
 have h0:=h;unfold Ji at h;obtain⟨hc,h⟩:=dh h;simp only[aP]at hc;obtain⟨WN,hfz⟩:=hc;have WN:=wa WN;have hDZ:∀x∈D,x∈mM Z:=hL.sub;have hPZ:∀x∈Pd,x∈mM Z:=λx hx=>hp.subset (List.mem_append_right _ hx);have eu:D.length+Pd.length=(mM Z).length:=by have:=hp.length_eq;rwa[aN]at this
 have afy:(D++Pd).Nodup:=hp.nodup_iff.2 hnd;have hPD:∀x∈Pd,x∉D:=λx hx hd=>(List.nodup_append.1 afy).2.2 x hd x hx rfl;have hrz:∀j∈Region.ready .any ops.toArray (ei bB D),j∈mM Z->j∈Pd:=λj hj tQ=>by
  have h1:j∉D:=λhd=>by
   have:=(mem_ready.1 hj).1;rw[mZ.2 (.inr hd)]at this;cases this
  rcases cD.1 (hp.mem_iff.2 tQ)with h2 | h2
  ·exact absurd h2 h1
  exact h2
 have aac:∀j∈Region.ready .any ops.toArray bB,j∉mM Z->j∈Region.ready .any ops.toArray (ei bB D):=λj hj tQ=>vt (l:=bB) (D:=[]) (E:=D) aM hj λk=>tQ (hDZ j k);have Va:∀z∈Pd,z∈Region.ready .any ops.toArray (ei bB D):=λz hz=>by
  obtain⟨p,Gj,rfl⟩:=mN.1 (hPZ z hz);obtain⟨o,ho,cd⟩:=hZ p Gj;refine mem_ready.2 ⟨?_,o,abV,λe he=>?_⟩
  ·rw[fK];intro k;rcases mZ.1 k with k | k
   ·rw[WN _ (hPZ _ hz)]at k;cases k
   exact hPD _ hz k
  rw[Array.mem_def,(lu cd).2.2.2.2.1]at he;cases he
 have AL:∀{m'},m=m'+1->∀j∈Pd,wpOp P ops.toArray Q j (λa' w'=>EE P ops mb ms S j w w'/\fh P .any ops.toArray Q (EE P ops mb ms S) m' ((ei bB D).setIfInBounds j true) a' w') a w:=by
  intro m' em j hj;obtain⟨p,Gj,rfl⟩:=mN.1 (hPZ j hj);obtain⟨o,ho,cd⟩:=hZ p Gj;obtain⟨_,l2,l3,l4,l5,l6,l7⟩:=lu cd;obtain⟨fz1,fz2⟩:=Dj hfz p Gj;have KC:ops.toArray[p.z]? =some o:=abV
  unfold wpOp;simp only[KC];rw[aR (wn l4)];left;obtain⟨dst,op,t',pp,af,g0⟩:=o;dsimp only at l2 l3 l4 l5;subst l2 l3 l4;obtain⟨z,z1,z2⟩:=RZ l6 w;refine CP z1 (z2 β0) (λ_=>rfl) λb w1 hb hO hB=>⟨?_,?_⟩
  ·unfold EE;rw[ho];dsimp only;rw[show jk P (.alloc p.t)=false from rfl,sW];cases(mb&&(ms||!wC (.alloc p.t)))with
   | true=>exact bR.only hO
   | false=>exact trivial
  rw[<-mY];exact ih m' aE (g+1) (D:=p.z::D) (Pd:=Pd.erase p.z) h0 he hm (hR.late hm fz1 hO) (hL.alloc hu NK Gj (hPD _ hj) hb hO hB (by rw[hR.ok.sz];exact fz2))
   ((List.perm_middle.symm.trans ((List.perm_cons_erase hj).symm.append_left D)).trans hp) (by rw[aU];omega)
 split at h
 ·rename_i NL;obtain⟨hc,h⟩:=dh h;simp only[aP]at hc;obtain⟨⟨⟨c1,c2⟩,c3⟩,c4⟩:=hc;have afA:bB=vQ:=Kl.1 (LB c2);have egm:=bN c3;have c4:=de c4;cases hPd:Pd with
  | nil=>
   rw[hPd,bL]at hp;rw[afA];exact hK mk st β a w bz D m h he hR hL hp aE
  | cons z Pd'=>
   have hzm:z∈Pd:=by rw[hPd];exact dG
   have tU:Pd.length=Pd'.length+1:=by rw[hPd];rfl
   obtain⟨m',rfl⟩:∃m',m=m'+1:=⟨m-1,aE⟩
   refine⟨λh0=>?_,λj hj=>AL rfl j ?_⟩
   ·have:=Va z hzm;rw[h0]at this;cases this
   by_cases tQ:j∈mM Z
   ·exact hrz j hj tQ
   exfalso;have h1:j∈Region.ready .any ops.toArray (ei bB ((mM Z).erase z)):=vt (λx hx=>(List.mem_erase_of_ne (λe=>hPD z hzm (by rw[<-e];exact hx))).2 (hDZ x hx)) hj (λk=>tQ (List.mem_of_mem_erase k));have:=G4 c1 z (hPZ z hzm) j h1;exact tQ (this▸hPZ z hzm)
 rename_i i r NL;obtain⟨c0,h⟩:=dh h;simp only[aP,TY]at c0;have hrd:=Dh c0.1;have c0:=de c0.2;have hrm:∀j∈Region.ready .any ops.toArray (ei bB D),j∉mM Z->j∈Region.ready .any ops.toArray bB:=λj hj tQ=>(hrd j (vt hDZ hj tQ)).1;obtain⟨m',rfl⟩:∃m',m=m'+1:=⟨m-1,aE⟩
 have hio:∀j∈i::r,j∈Region.ready .any ops.toArray bB/\j∉mM Z:=λj hj=>oT.1 (by rw[NL];exact hj);have ia:Region.ready .any ops.toArray (ei bB D)=[]->False:=λh0=>by
  have:=aac i (hio i dG).1 (hio i dG).2;rw[h0]at this;cases this
 have hdz:∀j o,fV ops j=some o->j∉mM Z->∀p∈Z,o.dst≠some p.d:=λj o hj tQ p hp=>hdo p hp j o hj λe=>tQ (mN.2 ⟨p,hp,e.symm⟩);have LL:∀{j:Nat} {o:Oper},fV ops j=some o->j∉mM Z->lL P ops mb ms S ws mk st o (λmk st=>Ji P ops mb ms S ws Z vQ gm K g (bB.setIfInBounds j true) mk st)->
   wpOp P ops.toArray Q j (λa' w'=>EE P ops mb ms S j w w'/\fh P .any ops.toArray Q (EE P ops mb ms S) m' ((ei bB D).setIfInBounds j true) a' w') a w:=by
  intro j o ho tQ h;refine wpOp_mono (λa' w' hh=>⟨hh.1,?_⟩) (X2 ho h hR);obtain⟨k0,k1,β',cq,mk',k2,k3,k4,k5,k6⟩:=hh;rw[<-mY];have xo:∀p∈Z,a'.tmps[p.d]? =a.tmps[p.d]? :=λp hp=>k1 _ (hdz j o ho tQ p hp);have hL':Late Z ws bz D mk' a' w':=by
   rcases k6 with⟨rfl,rfl⟩ | ⟨rfl,k6⟩
   ·exact hL.act xo
   exact hL.loud k6 xo
  exact ih m' aE g k2 (he.trans k3) k4 k5 hL' hp aE
 split at h
 ·rename_i q hq;obtain⟨o,ho,h⟩:=bn h;obtain⟨hc,h⟩:=dh h;simp only[aP,okT]at hc;obtain⟨⟨⟨⟨⟨c1,c2⟩,c3⟩,c4⟩,c5⟩,c6⟩:=hc;obtain⟨Vb,Pb⟩:=hio q (by simpa using c6);have KC:ops.toArray[q]? =some o:=abV
  have pj:pA .any ops.toArray (ei bB D):=zm (zK c3) λz hz o hoz=>by
   obtain⟨p,Gj,rfl⟩:=mN.1 (hDZ z hz);obtain⟨o2,Gf,cd⟩:=hZ p Gj;rw[jq]at Gf;have:o2=o:=by
    have e:ops.toArray[p.z]? =some o2:=by simpa using Gf
    rw[hoz]at e;injection e with e;exact e.symm
   rw[<-this];exact(lu cd).2.2.2.2.1
  have hN:∀k∈OX bB 0 ops,(ei bB D).getD k true=true:=λk hk=>mZ.2 (.inl (by simpa using(dv.1 c5) k hk));have IC:=Region.free_spec KC c2;have Cb:∀j oj,ops.toArray[j]? =some oj->j≠q->(ei bB D).getD j true=false->(∀e∈oj.after,Region.binds .any e=true->e.on≠q)->o.apart ops.toArray oj=true:=λj oj h1 h2 h3 h4=>IC j oj h1 h2 (by
   rw[fK]at h3⊢;exact λk=>h3 (mZ.2 (.inl k))) h4
  have hqr:=aac q Vb Pb;obtain⟨s,e1,gJ,h1⟩:=xT h hR;have xo:∀v,∀p∈Z,(a.put o.dst v).tmps[p.d]? =a.tmps[p.d]? :=λv p hp=>(jU _ _ _).2.2 _ (hdz q o ho Pb p hp);rcases h1 with⟨hw,h1⟩ | ⟨hw,h1⟩
  ·obtain⟨v,s2,F,k1,k2,k3,k4,k5,k6,k7⟩:=R7 h1 gJ.vP;refine pB KC (Region.noSelect_spec c1) (λc a w hp=>(hQ _ _ _ hp).elim) c4 (OX bB 0 ops) k5 (λw1 _=>pJ ho w1) m' (ei bB D) a w pj hN Cb hqr (RQ hw k7) k4 ?_;rw[<-mY];exact ih m' aE g k1 (((he.trans e1).trans (Ext.vP _)).trans (k2.trans (Ext.vP _))) rfl k3.vP (hL.act (xo v)) hp aE
  refine pB (v:=undef) (F:=λ_=>True) KC (Region.noSelect_spec c1) (λc a w hp=>(hQ _ _ _ hp).elim) c4 (OX bB 0 ops) (λ_ _ _ _ _ _ _=>trivial) (λw1 _=>pJ ho w1) m' (ei bB D) a w pj hN Cb hqr (TA hw) trivial ?_;rw[<-mY];exact ih m' aE g h1 ((he.trans e1).trans ((Ext.put _ _ _).trans (Ext.vP _))) rfl (gJ.put o.dst .un).vP (hL.act (xo undef)) hp aE
 split at h
 ·obtain⟨o,ho,h⟩:=bn h;refine⟨λh0=>(ia h0).elim,λj hj=>?_⟩;by_cases tQ:j∈mM Z
  ·exact AL rfl j (hrz j hj tQ)
  have:j∈zl (mM Z) (Region.ready .any ops.toArray bB):=oT.2 ⟨hrm j hj tQ,tQ⟩;rw[NL]at this;obtain rfl:j=i:=by simpa using this
  exact LL ho tQ h
 ·rename_i i' _;obtain⟨o,ho,h⟩:=bn h;obtain⟨o',KC,h⟩:=bn h;refine⟨λh0=>(ia h0).elim,λj hj=>?_⟩;by_cases tQ:j∈mM Z
  ·exact AL rfl j (hrz j hj tQ)
  have:j∈zl (mM Z) (Region.ready .any ops.toArray bB):=oT.2 ⟨hrm j hj tQ,tQ⟩;rw[NL]at this;rcases aX.1 this with rfl | this
  ·exact LL ho tQ h.1
  have:=aQ.1 this;subst this;exact LL KC tQ h.2
 ·rename_i i' i'' _;obtain⟨o,ho,h⟩:=bn h;obtain⟨o',KC,h⟩:=bn h;obtain⟨o'',afF,h⟩:=bn h;refine⟨λh0=>(ia h0).elim,λj hj=>?_⟩;by_cases tQ:j∈mM Z
  ·exact AL rfl j (hrz j hj tQ)
  have:j∈zl (mM Z) (Region.ready .any ops.toArray bB):=oT.2 ⟨hrm j hj tQ,tQ⟩;rw[NL]at this;rcases aX.1 this with rfl | this
  ·exact LL ho tQ h.1
  rcases aX.1 this with rfl | this
  ·exact LL KC tQ h.2.1
  have:=aQ.1 this;subst this;exact LL afF tQ h.2.2
 exact h.elim
end
def St.B6(st:St)(d:Nat)(t:TypeId)(zs:List SV)(b:Nat):St:=
 St.put {st with bx:=st.bx++[⟨some b,t,zs,st.ct,true,false,false⟩],ct:=st.ct+1} (some d) (.box st.bx.length 0)
theorem Ext.B6 st d t zs b:Ext st (st.B6 d t zs b):=by
 refine Ext.trans (t:={st with bx:=st.bx++[_],ct:=st.ct+1}) ⟨rfl,iw _,λ_ _ _ h _=>h,λi b' hb ho hs=>?_,λi b hb=>?_,Cy⟩ (Ext.put _ _ _)
 ·rw[jV]at hb
  grind
 exact⟨b,by dsimp only;rw[jV,aO (by have:=pF hb;omega)];exact hb,rfl,rfl,λ_ h=>h⟩
section
variable {β:Nat->Nat} {st:St} {a:Act} {w:av}
theorem Rep.B6(hR:Rep β st a w){d}{t}{zs}{b}(h1:Jb st.bx.length st.fr=true)(h2:Fp st.bx.length st.bx=true)(Z9:xL st.bx st.dt=true)(pj:gN (λ_=>false) zs=true)
  (hs:a.tmps[d]? =some (.pointer (some ⟨b,0,none⟩))) (hB:Blk w b t (ck β0 zs)) (ia:∀i c,cF st.bx i=some c->c.ok=true->β i≠b):
  Rep (yU β st.bx.length b) (st.B6 d t zs b) a w:=by
 have tj:yU β st.bx.length b st.bx.length=b:=by unfold yU;rw[aR rfl]
 have cd:∀{i c},cF st.bx i=some c->yU β st.bx.length b i=β i:=fun{i c} h=>by
  unfold yU;rw[aO];have:=pF h;omega
 have base:Rep (yU β st.bx.length b) {st with bx:=st.bx++[⟨some b,t,zs,st.ct,true,false,false⟩],ct:=st.ct+1} a w:=by
  refine⟨pD ⟨hR.ok.sz,hR.ok.df,λi p hl hi=>?_⟩,λi c hc ho=>?_,λi j bi bj g1 g2 g3 g4 zu=>?_,?_,hR.still⟩
  ·rw[hR.ok.at_ i p hl hi];congr 1;exact iy (g:=λj=>!Nat.beq j st.bx.length) xO _ (A5 h1 i p hl)
  ·rw[jV]at hc;split at hc
   ·rename_i he;simp at hc;subst hc;subst he;refine⟨?_,λk hk=>?_,λhk=>(by cases hk)⟩
    ·rw[tj];rw[gw (g:=λ_=>false) (β:=yU β st.bx.length b) (β':=β0) (λi h=>aah) _ pj];exact hB
    simp_all
   have e:=cd hc;obtain⟨k1,k2,k3⟩:=hR.bx i c hc ho;refine⟨?_,λk hk=>by rw[e];exact k2 k hk,λhk=>by rw[e];exact k3 hk⟩;rw[e,<-gw (g:=λj=>!Nat.beq j st.bx.length) (β:=β) (β':=yU β st.bx.length b) xO _ (A6 h2 i c hc ho)];exact k1
  ·rw[jV]at g1 g2;split at g1
   ·grind
   split at g2
   ·grind
   rw[cd g1,cd g2];exact hR.ne i j bi bj g1 g2 g3 g4 zu
  have e:=qB λi hi=>by
   obtain⟨c,hc,_⟩:=rQ Z9 i hi;exact cd hc
  rw[e];exact hR.only
 refine⟨pD ⟨base.ok.sz,base.ok.df,λi p hl hi=>?_⟩,base.bx,base.ne,base.only,base.still⟩;simp[St.B6,St.put,dA]at hl;cases hb:Nat.beq d i with
 | true=>
  rw[hb]at hl;simp at hl;subst hl;have:=bN hb;subst this;rw[hs];show _=some (Value.pointer _);rw[tj]
 | false=>rw[hb]at hl;exact base.ok.at_ i p acp hi
end
def neN(b:Nat):List Nat->Prop->Prop
 | [],p=>p
 | x::r,p=>x≠b->neN b r p
theorem LD{b}:∀{l:List Nat} {p:Prop},neN b l p->(∀x∈l,x≠b)->p
 | [],_,h,_=>h
 | x::r,p,h,hb=>LD (h (hb x dG)) λy hy=>hb y (cV _ hy)
def T0(ws:av)(mk:List (Nat×Nat)):List LZ->List Nat->St->(St->Prop)->Prop
 | [],_,st,K=>K st
 | p::r,seen,st,K=>bif Wz st p.zs then ∀b,ws.heap.size<=b->b<st.w0.heap.size->xU mk b->neN b seen (T0 ws mk r (b::seen) (st.B6 p.d p.t p.zs b) K)else False
theorem G6{ws}{mk}{bz:Nat->Nat}{a}{w}:∀{r:List LZ} {seen:List Nat} {st:St} {K:St->Prop} {β:Nat->Nat},T0 ws mk r seen st K->Rep β st a w->st.mv=false->
  (∀p∈r,a.tmps[p.d]? =some (.pointer (some ⟨bz p.z,0,none⟩))/\Blk w (bz p.z) p.t (ck β0 p.zs)/\ws.heap.size<=bz p.z/\xU mk (bz p.z)/\gN (λ_=>false) p.zs=true/\(∀x∈seen,x≠bz p.z)/\∀i c,cF st.bx i=some c->c.ok=true->β i≠bz p.z)->
  (mM r).Nodup->(∀p∈r,∀q∈r,p.z≠q.z->bz p.z≠bz q.z)->∃cq β',K cq/\Ext st cq/\Rep β' cq a w
 | [],_,st,K,β,h,hR,_,_,_,_=>⟨st,β,h,Ext.refl _,hR⟩
 | p::r,seen,st,K,β,h,hR,hm,hp,hn,hd=>by
  obtain⟨hc,h⟩:=dh h;simp[Wz,aP]at hc;obtain⟨h1,h2,h3,h4,h5,h6,h7⟩:=hp p dG;have h:=LD (h _ h3 (by rw[<-hR.still hm];exact h2.lt) h4) h6;simp[mM,List.nodup_cons]at hn;have hpq:∀q∈r,p.z≠q.z:=λq hq e=>hn.1 (mN.2 ⟨q,hq,e.symm⟩);have cd:∀{i c},cF st.bx i=some c->yU β st.bx.length (bz p.z) i=β i:=fun{i c} h=>by
   unfold yU;rw[aO];have:=pF h;omega
  obtain⟨cq,β',k1,k2,k3⟩:=G6 h (hR.B6 hc.1.1.1 hc.1.1.2 hc.2 h5 h1 h2 h7) hm (λq hq=>by
   obtain⟨g1,g2,g3,g4,g5,g6,g7⟩:=hp q (cV _ hq);have ia:=hd p dG q (cV _ hq) (hpq q hq);refine⟨g1,g2,g3,g4,g5,λx hx=>?_,λi c hc ho=>?_⟩
   ·rcases aX.1 hx with rfl | hx
    ·exact ia
    exact g6 x hx
   simp[St.B6,St.put]at hc;rw[jV]at hc;split at hc
   ·rename_i e;subst e;unfold yU;simp_all
   rw[cd hc];exact g7 i c hc ho) hn.2 λx hx y hy=>hd x (cV _ hx) y (cV _ hy)
  exact⟨cq,β',k1,(Ext.B6 _ _ _ _ _).trans k2,k3⟩
def ph2(P:Program)(ops:List Oper)(mb ms:Bool)(S:Nat->Prop)(ws:av)(Z:List LZ)(vQ:Array Bool)(gm nb:Nat)(mk:List (Nat×Nat))(st:St)(K:St->Prop):Prop:=
 bif Nat.beq st.bx.length nb then eh st λst=>T0 ws mk Z [] st λst=>Da P ops mb ms S (gm-(mM Z).length) (ei vQ (mM Z)) st K else False
def G7(P:Program)(ops:List Oper)(jn:Bool)(kp:List Nat)(mi:List MI)(mb ms:Bool)(S:Nat->Prop)(Z:List LZ)(vQ:Array Bool)(gm:Nat)(st:St)(K:St->Prop):Prop:=
 bif oP st.bx then
  (bif jn then ∃J:List _->JT _,(∀mk,C8 _ (J mk) λvs w=>ph2 P ops mb ms S st.w0 Z vQ gm st.bx.length mk (lr st kp mi vs w) K)/\
   Ji P ops mb ms S st.w0 Z vQ gm (λmk s=>eh s λs=>Jg st kp mi (J mk) s) ops.length (Array.replicate ops.length false) [] (St.vP (st.nA (X1 Z)))
  else Ji P ops mb ms S st.w0 Z vQ gm (λmk s=>ph2 P ops mb ms S st.w0 Z vQ gm st.bx.length mk s K) ops.length (Array.replicate ops.length false) [] (St.vP (st.nA (X1 Z))))else False
def LF(ops:List Oper)(Zi:List Nat):Nat->Array Bool->Array Bool
 | 0,l=>l
 | f+1,l=>match zl Zi (Region.ready .any ops.toArray l)with
  | []=>l
  | i::_=>LF ops Zi f (l.setIfInBounds i true)
def Qa:List Bool->Nat
 | []=>0
 | b::r=>bif b then Qa r else Qa r+1
theorem G8:∀{l:List jO} {i:Nat},i<l.length->∃b,cF l i=some b
 | b::r,0,_=>⟨b,rfl⟩
 | b::r,i+1,h=>G8 (l:=r) aat
section
variable {P:Program} {ops:List Oper} {mb ms:Bool} {S:Nat->Prop} {β:Nat->Nat} {a:Act} {w:av} {vQ:Array Bool} {gm:Nat} {jn:Bool} {kp:List Nat} {mi:List MI} {st:St} {K:St->Prop}
theorem LG{Q}(hQ:∀c a w,¬Q (.panic c) a w)(hzo:WB ops (kq P 0 ops)=true)(h:G7 P ops jn kp mi mb ms S (kq P 0 ops) vQ gm st K)(hR:Rep β st a w)(tn:st.mv=false)
  (hK:∀β' cq a' w',K cq->Ext st cq->Rep β' cq a' w'->Q .normal a' w'):fh P .any ops.toArray Q (EE P ops mb ms S) ops.length (Array.replicate ops.length false) a w:=by
 have hnd:(mM (kq P 0 ops)).Nodup:=xW;have hZ:∀p∈kq P 0 ops,∃o,fV ops p.z=some o/\tE P p.z o=some p:=λp hp=>by
  obtain⟨j,o,h1,h2,h3⟩:=xV hp
  grind
 generalize kq P 0 ops=Z at*
 obtain⟨hbd,h⟩:=dh h;rw[<-hR.still tn]at h;have two:∀mk cq β' a' w' bz D m,ph2 P ops mb ms S w Z vQ gm st.bx.length mk cq K->Ext st cq->Rep β' cq a' w'->Late Z w bz D mk a' w'->D.Perm (mM Z)->m+D.length=gm->fh P .any ops.toArray Q (EE P ops mb ms S) m (ei vQ D) a' w':=by
  intro mk cq β' a' w' bz D m h he S2 hL hp hg;obtain⟨eu,h⟩:=dh h;have eu:=bN eu;obtain⟨s1,h1,e1,gJ,wK,_,_,_,hl1⟩:=dB h S2;have hx:=he.trans e1;have hold:∀i c,cF s1.bx i=some c->c.ok=true->β' i<w.heap.size:=λi c hc ho=>by
   obtain⟨b,hb⟩:=G8 (l:=st.bx) (i:=i) (by have:=pF hc;omega);obtain⟨c',k1,k2,k3,k4⟩:=hx.ps i b hb;rw[hc]at k1;injection k1 with k1;subst k1;have CD:b.ok=true:=by rw[<-k3];exact ho
   obtain⟨k,hk⟩:=ft.1 (uh hbd i b hb CD);rw[(gJ.bx i c hc ho).at_ k (k4 k hk),<-(hR.bx i b hb CD).at_ k hk];exact(hR.bx i b hb CD).blk.lt
  have hD:=λp Gj=>hp.mem_iff.2 (mN.2 ⟨p,Gj,rfl⟩);obtain⟨s2,β2,k1,k2,k3⟩:=G6 (bz:=bz) h1 gJ wK (λp Gj=>by
   obtain⟨g1,g2,g3,g4⟩:=hL.at_ p Gj (hD p Gj);obtain⟨o,_,ho⟩:=hZ p Gj;exact⟨g1,g2,g3,g4,(lu ho).2.2.2.2.2.2,aM,λi c hc ho=>abS⟩) hnd λp Gj q hqZ=>hL.ne _ (hD p Gj) _ (hD q hqZ)
  have:=hp.length_eq;rw[Dg hp,show m=gm-(mM Z).length by omega];exact qO hQ k1 k3 λβ3 s3 a3 w3 m1 m2 m3=>hK β3 s3 a3 w3 m1 ((hx.trans k2).trans m2) m3
 have hL0:Late Z w (λ_=>0) [] [] a w:=⟨λp _ h=>aah,λ_ h=>aah,λ_ h=>aM,λ_ h=>aah,aY _⟩
 have hR0:=Rep.vP (hR.frame (fr':=xH _ st.fr) λi p hl=>by
  cases he:(X1 Z).elem i with
  | true=>rw[(kc (l:=st.fr)).1 he]at hl;cases hl
  | false=>rw[(kc (l:=st.fr)).2 he]at hl;exact⟨p,hl,rfl⟩)
 have he0:Ext st (St.vP (st.nA (X1 Z))):=(Ext.nA _ _).trans (Ext.vP _);rcases mc h with⟨_,h⟩ | ⟨_,h⟩
 ·obtain⟨J,hJ,h⟩:=h;refine LC hQ hZ hzo hnd (s0:=st) (λmk s β' a' w' bz D m hk he S2 hL hp hg=>?_) ops.length ops.length (D:=[]) (Pd:=mM Z) h he0 rfl hR0 hL0 (List.Perm.refl _) rfl;obtain⟨s3,h3,e3,Az,JU,_⟩:=dB hk S2;obtain⟨vs,k1,k2⟩:=qN h3 Az JU (.inl (he.trans e3)) (hJ mk);exact two mk _ _ a' w' bz D m k1 Ext.NA k2 hL hp hg
 exact LC hQ hZ hzo hnd (s0:=st) (λmk s β' a' w' bz D m hk he S2 hL hp hg=>two mk s β' a' w' bz D m hk he S2 hL hp hg) ops.length ops.length (D:=[]) (Pd:=mM Z) h he0 rfl hR0 hL0 (List.Perm.refl _) rfl
end
inductive Ann where
 | o
 | s (x y:Ann)
 | j (kp:List Nat) (ms:List MI) (x y:Ann)
 | l (jn:Bool) (kp:List Nat) (ms:List MI)
def Ann.x:Ann->Ann
 | .s x _=>x
 | _=>.o
def Ann.y:Ann->Ann
 | .s _ y=>y
 | _=>.o
def Ann.d:Nat->Ann->Ann
 | 0,x=>x
 | n+1,x=>.s .o (d n x)
def eU:Nat:=4000
def X3(k:Nat):List jO->Prop->Prop
 | [],p=>p
 | b::r,p=>bif b.ok&&b.blk.isSome then(k≠b.blk.getD 0->X3 k r p)else X3 k r p
def Fx:List jO->Prop->Prop
 | [],p=>p
 | b::r,p=>bif b.ok&&b.blk.isSome then X3 (b.blk.getD 0) r (Fx r p)else Fx r p
theorem Fy{k}:∀{l:List jO} {p:Prop},X3 k l p->(∀i b,cF l i=some b->b.ok=true->b.blk.isSome=true->k≠b.blk.getD 0)->p
 | [],_,h,_=>h
 | b::r,p,h,hb=>by
  unfold X3 at h;cases hc:(b.ok&&b.blk.isSome)with
  | true=>
   rw[hc]at h;simp at hc;exact Fy (h (hb 0 b rfl hc.1 hc.2)) λi c hi=>hb (i+1) c hi
  | false=>
   rw[hc]at h;exact Fy h λi c hi=>hb (i+1) c hi
theorem Be:∀{l:List jO} {p:Prop},Fx l p->(∀i j bi bj,cF l i=some bi->cF l j=some bj->bi.ok=true->bj.ok=true->bi.blk.isSome=true->bj.blk.isSome=true->i≠j->bi.blk.getD 0≠bj.blk.getD 0)->p
 | [],_,h,_=>h
 | b::r,p,h,hb=>by
  unfold Fx at h;have tl:∀{p:Prop},Fx r p->p:=λh=>Be h λi j bi bj h1 h2 h3 h4 h5 h6 h7=>hb (i+1) (j+1) bi bj h1 h2 h3 h4 h5 h6 aE;cases hc:(b.ok&&b.blk.isSome)with
  | true=>
   rw[hc]at h;simp at hc;exact tl (Fy h λi c hi h1 h2=>hb 0 (i+1) b c rfl hi hc.1 h1 hc.2 h2 aE)
  | false=>
   rw[hc]at h;exact tl h
def T1(P:Program)(ops:List Oper)(draw:Bool)(st:St)(K:St->Prop):Prop:=
 bif draw then
  bif Bb P ops&&Region.lexB .any ops.toArray then TS (Fs ops) st λst=>vj P ops eU [] ops st λst=>K {st with mv:=true}
  else bif mbN P ops 0 ops then eh {st with mv:=true} λst=>Fx (bif TX P ops 0 ops then st.bx else[]) (∃S,Da P ops true (TX P ops 0 ops) S ops.length (Array.replicate ops.length false) st K)
  else Da P ops false false (λ_=>False) ops.length (Array.replicate ops.length false) {st with mv:=true} K
 else wD P ops eU ops st K
def QR(st:St)(K:St->Prop):Exit->Act->av->Prop:=λe a w=>match e with
 | .normal=>∃β cq,K cq/\Ext st cq/\Rep β cq a w
 | _=>False
theorem Ext.mv s:Ext s {s with mv:=true}:=⟨rfl,aY _,λ_ _ _ h _=>h,λi b h ho _=>⟨b,h,ho,rfl,rfl,rfl,λ_ h=>h⟩,KX,Cy⟩
theorem Rep.drew{β}{s}{a}{w w'}(h:Rep β s a w)(hO:Only [] w w')(hh:w'.heap=w.heap):Rep β {s with mv:=true} a w':=
 ⟨h.fr,λi b hb ho=>by
  obtain⟨k1,k2,k3⟩:=h.bx i b hb ho;exact⟨by unfold Blk at k1⊢;rw[hh];exact k1,k2,k3⟩,h.ne,h.only.cn hO,λh=>aah⟩
section
variable {P:Program}
theorem G9(hm:P.follows .mixedOrders=true){id}{ops}{draw}{st}{K}{β}{a}{w}(h:T1 P ops.toList draw st K)(hR:Rep β st a w):
  (Code.region id ops draw).wp P (QR st K) a w:=by
 obtain⟨l⟩:=ops;rcases mc h with⟨hd,hx⟩ | ⟨hd,hx⟩<;>clear h<;>have h:=hx
 ·subst hd;have S2:=hR.drew (Only.drewN w 1) rfl;have fin:∀{mb ms:Bool} {S:Nat->Prop} {s1:St},Ext st s1->Rep β s1 a w.drew->Da P l mb ms S l.length _ s1 K->(Code.region id l.toArray true).wp P (QR st K) a w:=λe1 gJ h=>
   CQ _ hm (qO (λc a w hp=>hp) h gJ λβ' cq a' w' k1 k2 k3=>⟨β',cq,k1,e1.trans k2,k3⟩)
  rcases mc h with⟨h0,h⟩ | ⟨_,h⟩
  ·simp at h0;obtain⟨s,h1,h2,h3,_⟩:=vq h hR;obtain⟨s2,k1,k2,k3,k4⟩:=pE h1;obtain⟨a',g1,g2⟩:=k4 trivial β a w h3;refine wp_region_quiet_lit hm h0.2 ?_;have:=Fl (Q:=λa'=>∀w',(∃n,w'=w.drewN n)->QR st K .normal a' w') (rest:=[]) g1 (wpQuiet_nil (by
    rintro w' ⟨n,rfl⟩;exact⟨β,_,k1,(h2.trans k2).trans (Ext.mv _),g2.drew (Only.drewN w n) rfl⟩))
   simp_all
  rcases mc h with⟨_,h⟩ | ⟨_,h⟩
  ·obtain⟨s1,h0,e1,gJ,_⟩:=dB h S2;have WT:∀i j bi bj,cF s1.bx i=some bi->cF s1.bx j=some bj->bi.ok=true->bj.ok=true->bi.blk.isSome=true->bj.blk.isSome=true->i≠j->bi.blk.getD 0≠bj.blk.getD 0:=λi j bi bj h1 h2 h3 h4 h5 h6 h7=>by
    obtain⟨k,hk⟩:=ft.1 h5;obtain⟨m,hm⟩:=ft.1 h6;have e1:=(gJ.bx i bi h1 h3).at_ k hk;have e2:=(gJ.bx j bj h2 h4).at_ m hm;rw[hk,hm,iH,iH];have:=gJ.ne i j bi bj h1 h2 h3 h4 h7;omega
   obtain⟨S,h1⟩:=Be h0 (by
    cases TX P l 0 l with
    | true=>exact WT
    | false=>exact λi j bi bj h1=>by cases i<;>cases h1)
   exact fin ((Ext.mv st).trans e1) gJ h1
  exact fin (Ext.mv st) S2 h
 subst hd;refine wp_region_lit (rR h hR λβ' cq a' w' k1 k2 k3=>⟨β',cq,k1,k2,k3⟩)
def R8(P:Program)(ops:List Oper)(jn:Bool)(kp:List Nat)(mi:List MI)(st:St)(K:St->Prop):Prop:=
 bif WB ops (kq P 0 ops)then eh st.vP λst=>
  (bif mbN P ops 0 ops then Fx (bif TX P ops 0 ops then st.bx else[]) (∃S,G7 P ops jn kp mi true (TX P ops 0 ops) S (kq P 0 ops) (LF ops (mM (kq P 0 ops)) ops.length (Array.replicate ops.length false)) (Qa (LF ops (mM (kq P 0 ops)) ops.length (Array.replicate ops.length false)).toList) st K)
  else G7 P ops jn kp mi false false (λ_=>False) (kq P 0 ops) (LF ops (mM (kq P 0 ops)) ops.length (Array.replicate ops.length false)) (Qa (LF ops (mM (kq P 0 ops)) ops.length (Array.replicate ops.length false)).toList) st K)
 else False
theorem LH(hm:P.follows .mixedOrders=true){id}{ops}{jn}{kp}{mi}{st}{K}{β}{a}{w}(h:R8 P ops.toList jn kp mi st K)(hR:Rep β st a w):
  (Code.region id ops true).wp P (QR st K) a w:=by
 obtain⟨l⟩:=ops;obtain⟨hz,h⟩:=dh h;obtain⟨s1,h0,e1,gJ,wK,_⟩:=dB h (hR.drew (Only.drewN w 1) rfl);have fin:∀{mb ms:Bool} {S:Nat->Prop} {vQ:Array Bool} {gm:Nat},G7 P l jn kp mi mb ms S _ vQ gm s1 K->(Code.region id l.toArray true).wp P (QR st K) a w:=λh=>
  CQ _ hm (LG (λc a w hp=>hp) hz h gJ wK λβ' cq a' w' k1 k2 k3=>⟨β',cq,k1,((Ext.vP st).trans e1).trans k2,k3⟩)
 rcases mc h0 with⟨_,h⟩ | ⟨_,h⟩
 ·have WT:∀i j bi bj,cF s1.bx i=some bi->cF s1.bx j=some bj->bi.ok=true->bj.ok=true->bi.blk.isSome=true->bj.blk.isSome=true->i≠j->bi.blk.getD 0≠bj.blk.getD 0:=λi j bi bj h1 h2 h3 h4 h5 h6 h7=>by
   obtain⟨k,hk⟩:=ft.1 h5;obtain⟨m,hm⟩:=ft.1 h6;have e1:=(gJ.bx i bi h1 h3).at_ k hk;have e2:=(gJ.bx j bj h2 h4).at_ m hm;rw[hk,hm,iH,iH];have:=gJ.ne i j bi bj h1 h2 h3 h4 h7;omega
  obtain⟨S,h1⟩:=Be h (by
   cases TX P l 0 l with
   | true=>exact WT
   | false=>exact λi j bi bj h1=>by cases i<;>cases h1)
  exact fin h1
 exact fin h
def V(P:Program):Code->Ann->St->(Exit->St->Prop)->Prop
 | .skip,_,st,K=>K .normal st
 | .label _,_,st,K=>K .normal st
 | .exit id,_,st,K=>K (.exit id) st
 | .ret,_,st,K=>K .ret st
 | .region _ ops draw,an,st,K=>(match an with
  | .l jn kp ms=>bif draw then R8 P ops.toList jn kp ms st (K .normal)else False
  | .j kp ms _ _=>eh st λst=>∃J,C8 _ J (λvs w=>K .normal (lr st kp ms vs w))/\T1 P ops.toList draw st λs=>eh s λs=>Jg st kp ms J s
  | _=>T1 P ops.toList draw st (K .normal))
 | .seq a b,an,st,K=>(match an with
  | .j kp ms x y=>eh st λst=>∃J,C8 _ J (λvs w=>V P b y (lr st kp ms vs w) K)/\V P a x st λe s=>(match e with
   | .normal=>eh s λs=>Jg st kp ms J s
   | e=>K e s)
  | an=>V P a an.x st λe s=>(match e with
   | .normal=>V P b an.y s K
   | e=>K e s))
 | .cond c a b,an,st,K=>bP (st.ev c) λt=>(match t with
  | .bl true=>V P a an.x st K
  | .bl false=>V P b an.y st K
  | .bt t=>((t=true->V P a an.x st K)/\(t=false->V P b an.y st K))
  | _=>False)
 | .block id c,an,st,K=>V P c an st λe s=>(match e with
  | .exit SY=>bif Nat.beq SY id then K .normal s else K (.exit SY) s
  | e=>K e s)
 | .loop c,an,st,K=>(match an with
  | .j kp ms x _=>eh st λst=>(λst=>∃(I:Nat->JT _) (n0:Nat),Jg st kp ms (I n0) st/\∀n,C8 _ (I n) λvs w=>V P c x (lr st kp ms vs w) λe s=>(match e with
   | .normal=>eh s λs=>∃n',n'<n/\Jg st kp ms (I n') s
   | e=>K e s)) (st.esc (xR st ms))
  | _=>False)
 | _,_,_,_=>False
def QK(st:St)(K:Exit->St->Prop):Exit->Act->av->Prop:=λe a w=>match e with
 | .normal=>∃β cq,K .normal cq/\Ext st cq/\Rep β cq a w
 | .exit id=>∃β cq,K (.exit id) cq/\Ext st cq/\Rep β cq a w
 | .ret=>∃β cq,K .ret cq/\Ext st cq/\Rep β cq a w
 | _=>False
theorem rV{st II}{K}(hx:Ext st II):∀e a w,QK II K e a w->QK st K e a w:=λe a w h=>by
 cases e<;>first | exact h | (obtain⟨β,cq,h1,h2,h3⟩:=h;exact⟨β,cq,h1,hx.trans h2,h3⟩)
theorem wE(hm:P.follows .mixedOrders=true):∀c {an:Ann} {st:St} {K:Exit->St->Prop} {β:Nat->Nat} {a:Act} {w:av},V P c an st K->Rep β st a w->c.wp P (QK st K) a w
 | .skip,_,st,K,β,a,w,h,hR=>wp_skip ⟨β,st,h,Ext.refl _,hR⟩
 | .label _,_,st,K,β,a,w,h,hR=>wp_label ⟨β,st,h,Ext.refl _,hR⟩
 | .exit _,_,st,K,β,a,w,h,hR=>wp_exit ⟨β,st,h,Ext.refl _,hR⟩
 | .ret,_,st,K,β,a,w,h,hR=>wp_ret ⟨β,st,h,Ext.refl _,hR⟩
 | .region id ops draw,an,st,K,β,a,w,h,hR=>by
  unfold V at h;split at h
  ·cases draw with
   | false=>exact h.elim
   | true=>
    refine wp_mono (LH hm h hR) λe a' w' hq=>?_;cases e<;>first | exact hq.elim | exact hq
  ·obtain⟨s1,⟨J,hJ,h⟩,e1,gJ,_⟩:=dB h hR;refine wp_mono (G9 hm h gJ) λe a' w' hq=>?_;cases e<;>try exact hq.elim
   obtain⟨β',s2,h2,e2,S1⟩:=hq;obtain⟨s3,h3,e3,Az,JU,_⟩:=dB h2 S1;obtain⟨vs,k1,k2⟩:=qN h3 Az JU (.inl (e2.trans e3)) hJ;exact⟨_,_,k1,e1.trans Ext.NA,k2⟩
  refine wp_mono (G9 hm h hR) λe a' w' hq=>?_;cases e<;>first | exact hq.elim | exact hq
 | .seq x y,an,st,K,β,a,w,h,hR=>by
  unfold V at h;split at h
  ·obtain⟨s1,⟨J,hJ,h⟩,e1,gJ,_⟩:=dB h hR;refine wp_seq (wp_mono (wE hm x h gJ) λe a' w' hq=>?_);cases e with
   | normal=>
    obtain⟨β',s2,h2,e2,S1⟩:=hq;obtain⟨s3,h3,e3,Az,JU,_⟩:=dB h2 S1;obtain⟨vs,k1,k2⟩:=qN h3 Az JU (.inl (e2.trans e3)) hJ;exact wp_mono (wE hm y k1 k2) (rV (e1.trans Ext.NA))
   | exit _=>exact rV e1 _ _ _ hq
   | ret=>exact rV e1 _ _ _ hq
   | _=>exact hq.elim
  refine wp_seq (wp_mono (wE hm x h hR) λe a' w' hq=>?_);cases e with
  | normal=>
   obtain⟨β',s,h1,h2,h3⟩:=hq;exact wp_mono (wE hm y h1 h3) (rV h2)
  | _=>exact hq
 | .cond c x y,an,st,K,β,a,w,h,hR=>by
  obtain⟨t,ht,h⟩:=bn h;have ev:=hR.ev ht;split at h
  ·exact wp_cond_true ev (wE hm x h hR)
  ·exact wp_cond_false ev (wE hm y h hR)
  ·exact wp_cond_split ev (λe=>wE hm x (h.1 e) hR) (λe=>wE hm y (h.2 e) hR)
  exact h.elim
 | .block id c,an,st,K,β,a,w,h,hR=>by
  refine wp_block (wp_mono (wE hm c h hR) λe a' w' hq=>?_);cases e with
  | exit SY=>
   obtain⟨β',s,h1,h2,h3⟩:=hq;rcases mc h1 with⟨e,h5⟩ | ⟨e,h5⟩
   ·have:=bN e;subst this;exact I5 ⟨β',s,h5,h2,h3⟩
   have ia:¬SY=id:=λh=>by rw[h]at e;simp at e
   exact Fb (by simpa using ia) ⟨β',s,h5,h2,h3⟩
  | normal=>exact hq
  | ret=>exact hq
  | _=>exact hq.elim
 | .loop c,an,st,K,β,a,w,h,hR=>by
  unfold V at h;split at h
  ·rename_i kp ms x _;obtain⟨s0,hh,e0,hR0,NM,_⟩:=dB h hR;have e1:=e0.trans (Ext.esc s0 (xR s0 ms));have gJ:=hR0.esc (xR s0 ms);have wK:(s0.esc (xR s0 ms)).mv=false:=NM;generalize s0.esc (xR s0 ms)=s1 at*
   obtain⟨I,n0,h0,h⟩:=hh;refine wp_loop_ghost (λn a' w'=>∀K,C8 _ (I n) K->∃vs,K vs w'/\Rep _ (lr s1 kp ms vs w') a' w') n0 (λK hK=>qN h0 gJ wK (.inl (Ext.refl _)) hK) λn a' w' hI=>?_;obtain⟨vs,k1,k2⟩:=hI _ (h n);refine wp_mono (wE hm c k1 k2) λe a2 w2 hq=>?_;cases e with
   | normal=>
    obtain⟨β2,s2,h2,e2,S1⟩:=hq;obtain⟨s3,⟨n',hn,h3⟩,e3,Az,JU,_⟩:=dB h2 S1;exact⟨n',hn,λK hK=>qN h3 Az JU (.inr ⟨vs,w',e2.trans e3⟩) hK⟩
   | exit _=>exact rV (e1.trans Ext.NA) _ _ _ hq
   | ret=>exact rV (e1.trans Ext.NA) _ _ _ hq
   | _=>exact hq.elim
  exact h.elim
 | .rangeFunc _ _ _ _,_,_,_,_,_,_,h,_=>aa2
 | .scope _,_,_,_,_,_,_,h,_=>aa2
 | .goto _,_,_,_,_,_,_,h,_=>aa2
 | .refuse _,_,_,_,_,_,_,h,_=>aa2
def FA(P:Program)(st:St):List ResultVar->Option (List SV)
 | []=>some []
 | .tmp t::r=>(match st.get t,FA P st r with
  | some v,some l=>some (v::l)
  | _,_=>none)
 | .cell p t::r=>(match st.get p,P.underlying t,FA P st r with
  | some (.box i o),some d,some l=>(match cF st.bx i with
   | some b=>bif b.ok&&sz P t ((b.cells.drop o).take (tB P t)).length&&(lm d||Nat.beq ((b.cells.drop o).take (tB P t)).length 1)then some (I9 (lm d) ((b.cells.drop o).take (tB P t))::l)else none
   | none=>none)
  | _,_,_=>none)
def T2(P:Program)(rs:List ResultVar)(R:aw->av->Prop)(st:St):Prop:=bP (FA P st rs) λvs=>eh (st.esc vs) λst=>bif gN (C3 st.bx) vs then R (val (EP st.bx) (xQ vs)) st.w0 else False
theorem Bg{β}{st}{a}{w}(hR:Rep β st a w):∀{rs:List ResultVar} {vs:List SV},FA P st rs=some vs->zJ P a w rs (ck β vs)
 | [],vs,h=>by simp[FA]at h;subst h;trivial
 | .tmp t::r,vs,h=>by
  simp[FA]at h;split at h
  ·rename_i v l h1 h2;simp at h;subst h;exact⟨hR.get h1,Bg hR h2⟩
  cases h
 | .cell p t::r,vs,h=>by
  simp only[FA]at h;split at h
  ·rename_i i o d l h1 h2 h3;split at h
   ·rename_i b hb;obtain⟨h4,rfl⟩:=AX h;simp only[aP,ci]at h4;obtain⟨⟨qE,hsz⟩,kY⟩:=h4;refine⟨⟨_,hR.get h1,?_⟩,Bg hR h3⟩;generalize hl:(b.cells.drop o).take _=q at*
    have hC:Cells w _ (ck β q):=((hR.bx i b hb qE).blk).B4 o _ (by
     rw[<-hl];simp only[ck,pw,pz];rw[dC,oG];simp only[bW,bX];omega)
    have qk:=j9 (P:=P) h2 w;cases hd:lm d with
    | true=>
     rw[hd]at qk;have e:=nQ hd β q;rw[hd]at e;rw[e];exact AU qk (oc hsz w) (eS β q) hC
    | false=>
     rw[hd]at qk kY;obtain⟨s,rfl⟩:=xD (kY.resolve_left aM);exact ze qk (Cells.one hC)
   cases h
  cases h
def Qb:Nat->List SV->List (Nat×Nat×SV)
 | _,[]=>[]
 | i,s::r=>(i,0,s)::Qb (i+1) r
theorem Bh β:∀i l,cv β (Qb i l)=AV i (ck β l)
 | _,[]=>rfl
 | i,s::r=>by
  have:=Bh β (i+1) r;simp[cv]at this;simp[Qb,cv,ck,AV,this]
def st0(fn:Func)(args:List SV)(w:av):St:={n:=fn.ntmps,fr:=Qb 0 args,bx:=[],w0:=w,mv:=false,dt:=[],ct:=1,df:=[]}
def ke(P:Program)(f:FuncId)(args:Array aw)(w:av)(Q:aw->av->Prop):Prop:=CallsD P f args .returning w λe u w'=>u=.returning/\∃v,e=.returned v/\Q v w'
def FB(P:Program)(R:aw->av->Prop):List (Nat×List aw×List aw)->av->Prop
 | [],w=>R (.tuple #[]) w
 | d::ds,w=>bif La P d.1 then ke P d.1 (d.2.1++d.2.2).toArray w λ_ w'=>FB P R ds w' else False
def adv:List ResultVar->Bool
 | []=>true
 | _=>false
def Qc(P:Program)(rs:List ResultVar)(R:aw->av->Prop)(st:St):Prop:=match st.df with
 | []=>T2 P rs R st
 | _::_=>bif adv rs then eh st λst=>FB P R st.df st.w0 else False
def Qd(P:Program)(rs:List ResultVar)(R:aw->av->Prop)(st:St):Prop:=match st.df with
 | []=>T2 P rs R st
 | _::_=>False
def Vfn(P:Program)(f:FuncId)(an:Ann)(args:List SV)(R:aw->av->Prop)(w:av):Prop:=bP (P.funcs[f]?) λfn=>bP fn.body λc=>
 bif Nat.ble args.length fn.ntmps then V P c an (st0 fn args w) λe st=>(match e with
  | .normal=>Qc P fn.results.toList R st
  | .ret=>Qc P fn.results.toList R st
  | _=>False)else False
def Vfd(P:Program)(f:FuncId)(an:Ann)(args:List SV)(R:aw->av->Prop)(w:av):Prop:=bP (P.funcs[f]?) λfn=>bP fn.body λc=>
 bif Nat.ble args.length fn.ntmps then V P c an (st0 fn args w) λe st=>(match e with
  | .normal=>Qd P fn.results.toList R st
  | .ret=>Qd P fn.results.toList R st
  | _=>False)else False
theorem Ha{β}{st}{a}{w}{fn}{R}(h:T2 P fn.results.toList R st)(hR:Rep β st a w):∃v,(results fn a.tmps).run P w=.ok v w/\R v w:=by
 obtain⟨vs,hv,h⟩:=bn h;obtain⟨s1,h1,e1,gJ,hm,_⟩:=dB h (hR.esc vs);obtain⟨hc,h1⟩:=dh h1;have ho:=Bg hR hv;rw[gJ.ZR (ui hc),<-gJ.still hm]at h1;refine⟨_,?_,h1⟩;have hrs:fn.results=fn.results.toList.toArray:=rfl
 match vs,ho,hc with
 | [s],ho,hc=>exact Ty hrs ho
 | [],ho,hc=>
  have e:val β (xQ [])=.tuple (ck β []).toArray:=rfl;exact Fc hrs rfl ho
 | s::t::r,ho,hc=>
  have e:val β (xQ (s::t::r))=.tuple (ck β (s::t::r)).toArray:=by
   show Value.tuple (oK β _).toArray=_;rw[pC]
  rw[e];exact Fc hrs (rfl) ho
theorem LI args {n} (hk:args.length<=n):(⟨args.toArray++Array.replicate (n-args.toArray.size) undef,[]⟩)=fr n (λ_=>undef) (AV 0 args):=by
 congr 1;apply Kl.1;rw[Array.toList_append,Array.toList_replicate,nN];apply nP;intro i;by_cases hi:i<n
 ·rw[ij,lQ _ _ _ _ _ hi,bI,zM]
  grind
 rw[cQ aae,cQ (by rw[mL];omega)]
theorem zQ{fn}{tmps}{R}(hr:fn.results.toList=[]):∀{l:List _} {w:av},FB P R l w->Leaves P fn tmps (λe w'=>∃v,e=.returned v/\R v w') (RS l) .returning w
 | [],w,h=>by
  have hrs:fn.results=([]).toArray:=by rw[<-hr]
  exact⟨_,Fc (a:=⟨tmps,[]⟩) (rs:=[]) (vs:=[]) hrs rfl trivial,_,rfl,h⟩
 | d::ds,w,h=>by
  obtain⟨h0,h⟩:=dh h;refine leaves_cons (λh=>aah) (f:=d.1) (args:=(d.2.1++d.2.2).toArray) ?_ (h.mono ?_)
  ·have:=ky h0 (d.2.1++d.2.2).toArray w;rw[<-List.append_toArray]at this⊢;exact this
  rintro e u w' ⟨rfl,v,rfl,h⟩;exact zQ hr h
theorem Dk{β}{st}{a}{w}{fn}{R}(h:Qc P fn.results.toList R st)(hR:Rep β st a w):Leaves P fn a.tmps (λe w'=>∃v,e=.returned v/\R v w') a.defers .returning w:=by
 rw[hR.ok.df];unfold Qc at h;split at h
 ·rename_i hd;rw[hd];obtain⟨v,k1,k2⟩:=Ha h hR;exact⟨v,k1,v,rfl,k2⟩
 obtain⟨h0,h⟩:=dh h;obtain⟨s1,h1,e1,gJ,hm,_⟩:=dB h hR;have hr:fn.results.toList=[]:=by
  cases hc:fn.results.toList with
  | nil=>rfl
  | cons _ _=>rw[hc]at h0;cases h0
 have NJ:s1.df=st.df:=by
  obtain⟨l,hl⟩:=e1.df;have h5:=br List.length (gJ.ok.df.symm.trans hR.ok.df);rw[RS,RS,bX,bX,hl,aN]at h5
  grind
 rw[<-gJ.still hm]at h1;rw[<-NJ];exact zQ hr h1
theorem X4(hm:P.follows .mixedOrders=true){f}{an}{args}{R}{w}(h:Vfn P f an args R w):Calls P f (ck β0 args).toArray w λe w'=>∃v,e=.returned v/\R v w':=by
 obtain⟨fn,hf,h⟩:=bn h;obtain⟨c,hb,h⟩:=bn h;obtain⟨hn,h⟩:=dh h;have hR:Rep β0 (st0 fn args w) (fr fn.ntmps _ (AV 0 _)) w:=
  ⟨⟨λ_=>undef,by rw[<-Bh];rfl⟩,λi b hb=>acq,λi j bi bj hb=>acq,Only.refl _ _,λ_=>rfl⟩
 refine calls_of_wp_defers hf hb ?_;rw[LI _ (by rw[eS];exact de hn)];refine wp_mono (wE hm c h hR) λe a' w' hq=>?_;cases e with
 | normal=>
  obtain⟨β',s,h1,h2,h3⟩:=hq;exact Dk h1 h3
 | ret=>
  obtain⟨β',s,h1,h2,h3⟩:=hq;exact Dk h1 h3
 | exit _=>
  obtain⟨β',s,h1,_⟩:=hq;exact h1.elim
 | _=>exact hq.elim
theorem X5(hm:P.follows .mixedOrders=true){f}{an}{args}{R}{w}(h:Vfd P f an args R w):ke P f (ck β0 args).toArray w R:=by
 obtain⟨fn,hf,h⟩:=bn h;obtain⟨c,hb,h⟩:=bn h;obtain⟨hn,h⟩:=dh h;have hR:Rep β0 (st0 fn args w) (fr fn.ntmps _ (AV 0 _)) w:=
  ⟨⟨λ_=>undef,by rw[<-Bh];rfl⟩,λi b hb=>acq,λi j bi bj hb=>acq,Only.refl _ _,λ_=>rfl⟩
 refine(callsD_of_wp (R:=λe w'=>∃v,e=.returned v/\R v w') hf hb ?_).mono (λe u w' h=>h);rw[LI _ (by rw[eS];exact de hn)];refine wp_mono (wE hm c h hR) λe a' w' hq=>?_;have fin:∀{β':Nat->Nat} {s:St},Qd P fn.results.toList R s->Rep β' s a' w'->_/\a'.defers=[]:=fun{β' s} h hR=>by
  unfold Qd at h;split at h
  ·rename_i hd;exact⟨Ha h hR,by rw[hR.ok.df,hd];rfl⟩
  exact h.elim
 cases e with
 | normal=>
  obtain⟨β',s,h1,h2,h3⟩:=hq;obtain⟨⟨v,k1,k2⟩,k3⟩:=fin h1 h3;exact Fe k1 k3 k2
 | ret=>
  obtain⟨β',s,h1,h2,h3⟩:=hq;obtain⟨⟨v,k1,k2⟩,k3⟩:=fin h1 h3;exact PK k1 k3 k2
 | exit _=>
  obtain⟨β',s,h1,_⟩:=hq;exact h1.elim
 | _=>exact hq.elim
theorem X6{f}{an}{args}{R}{w}{vs}{vc}(hm:P.follows .mixedOrders=true)(hv:vs=(ck β0 args).toArray)(he:vc=Vfn P f an args R w)(h:vc):Calls P f vs w λe w'=>∃v,e=.returned v/\R v w':=by
 subst he hv;exact X4 hm h
theorem X7{f}{an}{args}{R}{w}{vs}{vc}(hm:P.follows .mixedOrders=true)(hv:vs=(ck β0 args).toArray)(he:vc=Vfd P f an args R w)(h:vc):ke P f vs w R:=by
 subst he hv;exact X5 hm h
end
end Go.Kt.V
