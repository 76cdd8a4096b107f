import Derived.Test.YtdfibecibkijiaaGreatDoorQc3
set_option linter.defProp false
set_option linter.unusedSectionVars false
set_option linter.unusedSimpArgs false
set_option linter.unusedVariables false
set_option maxHeartbeats 4000000
open Bool renaming true->aF,false->aM
open Option renaming some->aN,none->Pw
open List renaming length->qj
open Decidable renaming decide->YR
open Go.Value renaming int->O,string->ab,pointer->ae,agg->ah,tuple->ai,bool->aj
open Go.IntKind renaming i64->U,wrap->au
open Go.Ending renaming returned->ak
open _root_.ByteArray renaming mk->ao
open _root_.Go.Proofs.Tryz renaming prog->aq
open Go.Instr renaming buildSlice->av
open Go renaming World->aw,Value->ay,Calls->aA
open Go.Kt renaming Only->az,SliceF->aB,Cells->aD,OnlyP->aE,Blk->aG
namespace Go.Proofs.YtdfibecibkijiaaGreatDoor.Con
open Go Go.RowKit Go.Kt Go.Kt.V Go.Proofs.YtdfibecibkijiaaGreatDoor.Vc
def aa0 w:∃s a,(av 80 16 #[.mk 1 (ab (ao #[43])),.mk 2 (ab (ao #[45])),.mk 3 (ab (ao #[42])),.mk 4 (ab (ao #[47])),.mk 5 (ab (ao #[37])),.mk 6 (ab (ao #[60])),.mk 7 (ab (ao #[60,61])),.mk 8 (ab (ao #[62])),.mk 9 (ab (ao #[62,61])),.mk 10 (ab (ao #[61,61])),.mk 11 (ab (ao #[33,61])),.mk 12 (ab (ao #[38,38])),.mk 13 (ab (ao #[124,124])),.mk 14 (ab (ao #[45])),.mk 15 (ab (ao #[33]))]).run aq w=.ok (Sl.v s) a/\
  aB nU 1 a (λk=>w.heap.size<=k/\k<a.heap.size) s ze/\az [] w a:=by
 have z:=run_buildSlice (P:=aq) w 80 9 16 #[.mk 1 (ab (ao #[43])),.mk 2 (ab (ao #[45])),.mk 3 (ab (ao #[42])),.mk 4 (ab (ao #[47])),.mk 5 (ab (ao #[37])),.mk 6 (ab (ao #[60])),.mk 7 (ab (ao #[60,61])),.mk 8 (ab (ao #[62])),.mk 9 (ab (ao #[62,61])),.mk 10 (ab (ao #[61,61])),.mk 11 (ab (ao #[33,61])),.mk 12 (ab (ao #[38,38])),.mk 13 (ab (ao #[124,124])),.mk 14 (ab (ao #[45])),.mk 15 (ab (ao #[33]))]
  (ze.map λx=>Value.string (T x)).toArray Tryz.t9 _ E E I Z Z E
 refine⟨⟨aN _,16,16⟩,_,z,⟨I,H _,λh=>Ue,(by decide:16<=9223372036854775807),λj x hx=>?_⟩,X0 _ _⟩;have B:=Yf w 9 (ze.map λx=>Value.string (T x));refine⟨_,[ab (T x)],I,⟨H _,B.lt⟩,I,?_,I⟩;rw[vV];exact Om B j ui
def afG w:aA aq 296 #[] w λe a=>∃s,e=ak s.v/\aB nU 1 a (λk=>w.heap.size<=k/\k<a.heap.size) s ze/\az [] w a:=by
 refine gX (avE ?_);obtain⟨s,a,h,b,c⟩:=aa0 w;exact⟨s,a,h,s,I,b,c⟩
def om(s:L Tk):Nat:=qj (s.takeWhile λt=>t.k !=5)
def acX ts:om ts<=qj ts:=by
 exact(List.takeWhile_sublist _).length_le
def abk{t}{ts}{i}:tk (t::ts) (i+1)=tk ts i:=by unfold tk;rw[dI]
def agA{t}{ts}:tk (t::ts) 0=t:=rfl
def Ai:∀s i,i<om s->(tk s i).k≠5
 | [],_,h=>by simp[om]at h
 | t::s,i,h=>by
  unfold om at h;rw[dF]at h;split at h
  .rename_i t;cases i with
   | zero=>rw[agA];simpa using t
   | succ i=>rw[abk];exact Ai s i (by simpa[om]using h)
  simp at h
def Aj:∀s,om s<(qj s)->(tk s (om s)).k=5
 | [],h=>Ux
 | t::s,h=>by
  unfold om at h⊢;rw[dF]at h⊢;split
  .rename_i t;rw[K t]at h;exact Aj s (by simpa[om]using h)
  rename_i h;rw[bE,agA];simpa using h
def LW{ts}(h:om ts+1=qj ts):um ts:=λi a=>by
 constructor
 .intro hk;refine bS λn=>Ai ts i J hk
 intro n;have:i=om ts:=J
 rw[this];exact Aj ts J
def aby{ts}(a:um ts)(b:0<qj ts):om ts+1=qj ts:=by
 rcases nu _ (qj ts) with h | h
 .exact(a _ h).1 (Aj ts h)
 have:=Ai ts ((qj ts)-1) J;exact absurd ((a _ J).2 J) this
def acY w (t:Tk):aA aq 295 #[t.v] w λe a=>e=ak (aj (t.k==5))/\az [] w a:=by
 exact ret (avD t.k t.n t.a w λk b _ _ h=>⟨I,h⟩)
def agq{w}{F}{l}{ts}(h:aB OZ 4 w F l ts):aA aq 294 #[l.v,.func (.func 295) #[] #[]] w λe b=>e=ak (O U (if om ts<qj ts then om ts else -1))/\az [] w b:=by
 refine ret (aoR l ⟨.func _ #[] #[],I⟩ w ?_);have f:=h.len;have s:=h.big;have p:=h.cap;refine⟨λv i b=>∃n,n<=om ts/\i=n/\v=(qj ts)-n/\az [] w b,qj ts,⟨0,bf _,I,I,Ib _ _⟩,?_⟩;rintro v _ d ⟨n,g,rfl,rfl,c⟩;refine⟨λa=>?_,λa=>?_⟩
 .have W:=u a;obtain⟨ad,x,m,j,e,o,q,k,l⟩:=(Wg jk Z h c X).get (be n) W;rw[ba,EG J]at e;injection e with e;subst e;subst l;refine⟨ad,j,_,_,_,_,k,295,[],[],I,gN E,?_⟩;refine(acY d _).mono ?_;rintro _ w ⟨rfl,r⟩;refine⟨_,I,λhb=>⟨?_,c.bU r⟩,λhb=>⟨(qj ts)-_,J,n+1,?_,Ye,I,c.bU r⟩⟩
  .have hb:=Xu
   have:n=om ts:=by
    refine bS λt=>Ai ts n J hb
   rw[K J,this]
  have hb:=Xu
  refine bS λt=>hb ?_;have:n=om ts:=J
  rw[this];exact Aj ts J
 have l:=aU a;rw[R J];exact⟨I,c⟩
def zI:Ex:=.mk 0 0 [] 0 [] 0
def cN(t:L Tk)(a:Int):Ex×Int×Int×Int:=
 if 0<=a/\a<qj t/\om t+1=qj t then(match tJ t a.toNat with
  | .error (c,p)=>(zI,0,c,p)
  | .ok (x,j)=>(x,j,0,0))
 else(zI,0,1, -1)
def Yt w lo hi:RX w lo hi zI [O U 0,O U 0,ab (ao #[]),O U 0,Sl.nil.v,O U 0]:=.leaf ..
def Rj{w:aw}{F:A}{l}{t:L Tk}(h:aB OZ 4 w F l t)(a:Int)(z:qO a):aA aq 275 #[l.v,O U a] w λe f=>
  ∃s,e=ak (ai #[ah s.toArray,O U (cN t a).2.1,ah #[O U (cN t a).2.2.1,O U (cN t a).2.2.2]])/\RX f w.heap.size f.heap.size (cN t a).1 s/\((cN t a).2.2.1=0->0<=(cN t a).2.1/\(cN t a).2.1<qj t)/\az [] w f:=by
 refine gX (avy ?_);intro m u M N y C B n;have i:=h.len;have D:=h.cap;have G:=h.big;have T:=n.size;have h:=(h.inHeap jk Z)
 refine(agq (Wg jk Z h n X)).mono ?_;rintro _ g ⟨rfl,r⟩;have V:=r.size;have j:=n.bU r;have E:=acX t;have o:(((YR (a<0))||(YR (a>=(l.n:Int))))||((if om t<qj t then(om t:Int)else -1) !=(au U ((l.n:Int)-1))))=!YR (0<=a/\a<qj t/\om t+1=qj t):=by
  rw[eS J J,i];by_cases h:om t<qj t
  .rw[K h,bK];simp;omega
  rw[R h,bK];simp;omega
 refine⟨_,I,r.same S,?_⟩;dsimp only;rw[o];refine⟨λd Q P=>?_,λd=>?_⟩
 .have d:=by
   rw[da,db]at d;exact d
  rw[cN,R d];exact⟨_,I,Yt _ _ _,λh=>Ue,(j.weaken (bs':=[]) λ_ h=>Ue).trans P λx hx=>.inr Ua⟩
 have d:=by
  rw[jA,bF]at d;exact d
 rw[cN,K d];obtain⟨Y,rfl⟩:∃Y:Nat,a=(Y:Int):=⟨a.toNat,J⟩
 refine(afG g).mono ?_;rintro _ w3 ⟨sn,rfl,Vb,cZ⟩;have z3:=cZ.size;refine⟨sn,I,cZ.same S,λb w4 hb oI dQ sO=>?_⟩;have sI:=j.bU cZ;have hR:Rd (λk=>F k/\k<w.heap.size) _ t w4 b l sn Y 0 0 ((0:Nat)):=
  ⟨sO,Wg jk Z h (sI.bU dQ) X,Wg dG Z Vb dQ X,λk hk=>LH,λk hk=>LH,LW d.2.2,J⟩
 refine((aeW (ia 0 0)).1 0 0 Y w4 Z Z (H _) hR).mono ?_;rintro _ w5 ⟨v,rfl,W⟩;obtain⟨vk,vn,vs,vo,vl,va,rfl⟩:=W.sC;have z5:=W.1.size;obtain⟨eJ,W⟩:=W;rw[ba];have aS:tJ t Y=dy t (ia 0 0) 0 0 Y:=I;rw[aS];have am:∀{aC:Nat} {c p:Int},Rd (λk=>F k/\k<w.heap.size) (λk=>g.heap.size<=k/\k<w3.heap.size) t w5 b l sn aC c p (0:Int)->∀w8,az [] w5 w8->∀w9,az [u,m] w8 w9->az [] w w9:=λhR w8 fK w9 gA=>(((sI.bU dQ).trans eJ λx hx=>.inr (by simp[aV]at hx;omega)).bU fK).trans gA λx hx=>.inr Ua;refine⟨_,_,_,_,_,_,I,eJ.same S,?_⟩;cases hE:dy t (ia 0 0) 0 0 Y with
 | error e=>
  rw[hE]at W;obtain⟨c,p⟩:=e;obtain⟨v,a2,aC,a⟩:=W;refine⟨_,_,_,_,_,_,a.blk,λk3 w6 zE uQ l Qi=>?_⟩;have z6:=l.size;refine(G3 (a.only l)).mono ?_;rintro _ w7 ⟨rfl,q⟩;have x:=(a.only l).only q;have ig:(c !=0)=aF:=by simpa using v
  refine⟨_,I,q.same S,_,_,_,_,_,_,x.blk,λ_ w8 fK yW n1 n2 n3 n4 n5 n6=>⟨λk=>k=b,I,λe=>n2 e,λe=>n4 e,λw9 gA _=>⟨_,I,Yt _ _ _,λh=>absurd h v,am a w8 (l.bU (q.bU fK)) w9 gA⟩⟩,λd=>by rw[ig]at d;cases d⟩
 | ok q=>
  rw[hE]at W;obtain⟨x,aC⟩:=q;obtain⟨s,v,a2,a⟩:=W;refine⟨_,_,_,_,_,_,a.blk,λk3 w6 zE uQ c Qi=>?_⟩;have z6:=c.size;refine(G3 (a.only c)).mono ?_;rintro _ w7 ⟨rfl,h⟩;have z7:=h.size;have h7:=(a.only c).only h;refine⟨_,I,h.same S,_,_,_,_,_,_,h7.blk,λd=>(by simp at d),λ_ dq l pK n1 n2 n3 n4 n5 n6=>⟨λk=>k=b,I,λe=>n2 e,λe=>n4 e,λdB p _=>?_⟩⟩;have KG:=l.size;have GD:=p.size;have jh:(oM vk vn vs vo vl va)=s:=bN Array.toList (Value.agg.inj v);refine⟨oM vk vn vs vo vl va,I,?_,λ_=>⟨be aC,by have:=a.lt;dsimp only;omega⟩,am a dq (c.bU (h.bU l)) dB p⟩;rw[jh];exact((a2.only (c.bU (h.bU l)) X).only p λq hq=>.inl (by simp at hq;omega)).wide J J
def iV(l:C):Ex×Int×Int:=
 if(de l).2.1≠0 then(zI,(de l).2.1,(de l).2.2)
 else if(cN (de l).1 0).2.2.1≠0 then(zI,(cN (de l).1 0).2.2.1,(cN (de l).1 0).2.2.2)
 else if(tk (de l).1 (cN (de l).1 0).2.1.toNat).k≠5 then(zI,4,(tk (de l).1 (cN (de l).1 0).2.1.toNat).a)
 else((cN (de l).1 0).1,0,(cN (de l).1 0).2.2.2)
def ahX{w} l (E:Er w):aA aq 306 #[ab (T l)] w λe b=>
  ∃a,e=ak (ai #[ah a.toArray,ah #[O U (iV l).2.1,O U (iV l).2.2]])/\RX b w.heap.size b.heap.size (iV l).1 a/\az [] w b:=by
 refine gX (avI ?_);intro m o M N D G F i;refine(LQ l (E.only i)).mono ?_;rintro _ V ⟨z,rfl,h,r⟩;have z1:=r.size;have j:=i.bU r;generalize A:de l=B at*
 obtain⟨s,c,p⟩:=B;dsimp only at h⊢;have C:iV l=if c≠0 then(zI,c,p)else if(cN s 0).2.2.1≠0 then(zI,(cN s 0).2.2.1,(cN s 0).2.2.2)else if(tk s (cN s 0).2.1.toNat).k≠5 then(zI,4,(tk s (cN s 0).2.1.toNat).a)else((cN s 0).1,0,(cN s 0).2.2.2):=by
  unfold iV;rw[A]
 refine⟨z,_,_,I,r.same S,λhc y W H L P u f g=>⟨λk=>k=y,I,λe=>f e,λe=>g e,λX v=>?_⟩,λhc k3 Y zE Q d=>?_⟩
 .have hc:=Yc
  rw[C,K hc];exact⟨_,I,Yt _ _ _,((j.bU P).trans v λx hx=>.inr Ua)⟩
 rw[R (by simp[by simpa using hc])]at C;refine(Rj (h.only d).sl 0 ⟨Z,Z⟩).mono ?_;rintro _ w5 ⟨a,rfl,hX,hj,eJ⟩;generalize aC:cN s 0=pa at*
 obtain⟨x,U,p,p'⟩:=pa;dsimp only at hX hj C⊢;obtain⟨xl,rfl,_⟩:=hX.cells;refine⟨_,_,_,_,_,_,_,_,_,I,eJ.same S,λk4 w6 wx C5 dV=>?_⟩;have h6:=((h.only (d.bU eJ)).keep (w':=w6) λk hk bW=>dV.block k bW (by
  have:=h.blk hk.2;simp;dsimp only at this;omega))
 have am:=h6.len;have T:∀{w8 w9:aw},az [k3] w6 w8->az [o,m] w8 w9->az [] w w9:=λh8 h9=>((((j.bU d).bU eJ).new dV J).new h8 J).trans h9 λx hx=>.inr Ua;refine⟨λO c w7=>az [k3] w6 w7/\((p≠0/\O=p/\c=p')∨(p=0/\(tk s U.toNat).k≠5/\O=4/\c=(tk s U.toNat).a)∨(p=0/\(tk s U.toNat).k=5/\O=0/\c=p')),?_,?_⟩
 .rintro O c w7 ⟨t,n⟩;refine⟨λhi w8 fK u f g n4 n5 n6=>⟨λk=>k=k3,I,?_,?_,λw9 gA=>?_⟩,λhi dq w u f g n4 n5 n6=>⟨λk=>k=k3,I,?_,?_,λdB eG=>?_⟩⟩
  .intro e;omega
  .intro e;omega
  .have hi:=XS
   have e:iV l=(zI,O,c):=by
    rw[C];rcases n with⟨k,rfl,rfl⟩ | ⟨k,l,rfl,rfl⟩ | ⟨k,l,rfl,rfl⟩
    .rw[K k]
    .rw[R (by simp[k]),K l]
    exact absurd I hi
   rw[e];exact⟨_,I,Yt _ _ _,T (t.bU fK) gA⟩
  .intro e;omega
  .intro e;omega
  have hi:=XS
  have hr:iV l=(x,O,c):=by
   rw[C];rcases n with⟨l,rfl,rfl⟩ | ⟨l,q,rfl,rfl⟩ | ⟨l,q,rfl,rfl⟩
   .exact absurd hi l
   .exact absurd hi Z
   rw[R (by simp[l]),R (by simp[q])]
  rw[hr];have e:=(((dV.trans t λx hx=>.inl hx).bU w).weaken (bs':=[k3,o,m]) λx hx=>.inl T5).trans eG λx hx=>.inl (by simp at hx⊢;omega);exact⟨_,I,(hX.only e λq k=>.inl (by simp at k;omega)).wide J e.size,T (t.bU w) eG⟩
 by_cases e:p=0
 .obtain⟨w,J8⟩:=hj e;obtain⟨n,rfl⟩:∃n:Nat,U=n:=⟨U.toNat,J⟩
  obtain⟨ad,t,a,l,k,g3,g4,q,g6⟩:=h6.sl.get w J;rw[ba,EG J]at k;injection k with k;subst k;subst g6;refine⟨ad,λ_=>l,(tk s n).k,λ_=>q.dP 0 _ I,λhh=>⟨ad,l,(tk s n).a,q.dP 3 _ I,λey x=>⟨x,.inr (.inl ⟨e,?_,I,I⟩)⟩⟩,λhh=>⟨Ib _ _,.inr (.inr ⟨e,?_,e,I⟩)⟩⟩
  .simpa[e]using hh
  simpa[e]using hh
 have hb:(p==0)=aM:=by simpa using e
 refine⟨⟨0,0,Pw⟩,λhh=>SN,0,λhh=>SN,λhh=>SN,λ_=>⟨Ib _ _,.inl ⟨e,I,I⟩⟩⟩
def xS:Nat->Rp Ex
 | 0=>λ_ _ _ _=>False
 | d+1=>λw F x c=>∃sl:Sl,c=oM x.k x.n x.s x.op sl x.a/\aB (xS d) 6 w F sl x.dK
def kb:∀d,(xS d).Ok
 | 0=>⟨λh _=>h.elim,λh=>h.elim,λh _=>h.elim,λh=>h.elim⟩
 | d+1=>⟨λ⟨sl,h,a⟩ hk=>⟨sl,h,Ic (kb d) a Z hk⟩,λ⟨sl,h,a⟩=>⟨sl,h,WV (kb d) a Z⟩,λ⟨sl,h,a⟩ hk=>⟨sl,h,UK (kb d) a hk⟩,λ⟨sl,h,a⟩=>by
  subst h;intro v b;simp only[bh,bI,cO]at b;rcases b with rfl | rfl | rfl | rfl | rfl | rfl<;>rfl⟩
def LX{d:Type}{r q:Rp d}{size:Nat}{w:aw}{F:A}{s:Sl}{a:L d}(h:aB r size w F s a)(i:∀x c,x∈a->r w F x c->q w F x c):aB q size w F s a:=
 ⟨h.len,h.cap,h.nil0,h.big,λj x b=>by
  obtain⟨s,c,e,f,g,k,l⟩:=h.at_ j x b;exact⟨s,c,e,f,g,k,i x c (bp b) l⟩⟩
section
variable {w w':aw} {F:A} {x y:Ex} {cs ds:aJ}
def acZ:∀{d:Nat} {x:Ex} {cs:aJ},xS d w F x cs->xS (d+1) w F x cs
 | 0,_,_,h=>h.elim
 | d+1,x,cs,⟨sl,a,b⟩=>⟨sl,a,LX b λx cs _ h=>acZ h⟩
def inB{d e:Nat}(a:d<=e)(h:xS d w F x cs):xS e w F x cs:=by
 induction e with
 | zero=>have:d=0:=J;subst this;exact h
 | succ e i=>
  by_cases b:d=e+1
  .subst b;exact h
  exact acZ (i J)
def iz{d:Nat}(h:xS d w F x cs)(O:az [] w w'):xS d w' F x cs:=(kb d).only h O X
def RXN.ex{N:A}{l i:Nat}(h:RXN w N l i x cs):∃d,xS d w (λk=>l<=k/\k<i) x cs:=by
 induction h with
 | leaf l i k n s op a=>exact⟨1,Sl.nil,I,Zn _ _ _ _⟩
 | one l u g i k n s op a x cs e f r m t o b=>
  obtain⟨d,b⟩:=b;obtain⟨sl,q,_⟩:=e.cells;refine⟨d+1,_,I,I,H _,λh=>Ue,(by decide:(1:Nat)<=9223372036854775807),λc y j=>?_⟩;have T:c=0:=by
   have:=(bc.1 j).1;simp only[Ex.dK,bA]at this;omega
  subst T;simp only[Ex.dK,cQ,bP]at j;subst j;exact⟨⟨g,0,Pw⟩,cs,I,⟨f,m⟩,by rw[q];rfl,by rw[Da];exact o.cells 0 cs λc v p=>by rw[bR];exact p,(kb d).mono b λk hk=>⟨hk.1,J⟩⟩
 | two l E F L g i k n s op a x y cs ds q u r w z B C c D f G K=>
  obtain⟨m,G⟩:=G;obtain⟨o,K⟩:=K;obtain⟨sl,t,_⟩:=q.cells;obtain⟨V,d,_⟩:=r.cells;have e:qj cs=6:=by rw[t];rfl
  have p:qj ds=6:=by rw[d];rfl
  refine⟨max m o+1,_,I,I,H _,λh=>Ue,(by decide:(2:Nat)<=9223372036854775807),λb y j=>?_⟩;rcases b with _ | _ | b
  .simp only[Ex.dK,cQ,bP]at j;subst j;exact⟨⟨g,0,Pw⟩,cs,I,⟨KQ,c⟩,e,by rw[Da];exact f.cells 0 cs λb v h=>by rw[bR,bZ (bc.1 h).1];exact h,(kb _).mono (inB (DW _ _) G) λk hk=>⟨hk.1,J⟩⟩
  .simp only[Ex.dK,dI,cQ,bP]at j;subst j;exact⟨⟨g,0,Pw⟩,ds,I,⟨KQ,c⟩,p,by
    rw[iK];exact f.cells 6 ds λb v h=>by rw[ck J,e,dH];exact h,(kb _).mono (inB (Ck _ _) K) λk hk=>⟨J,J⟩⟩
  simp[Ex.dK]at j
end
def IV(f:Ex->Ex->M):L Ex->L Ex->M
 | x::s,y::a=>f x y&&IV f s a
 | _,_=>aF
def LY(t:M)(x y:Ex):M:=(((((x.k !=y.k)||(x.n !=y.n))||(!YR (x.s=y.s)))||(x.op !=y.op))||(t&&(x.a !=y.a)))||((qj x.dK:Int) !=(qj y.dK:Int))
def rP(t:M):Nat->Ex->Ex->M
 | 0,_,_=>aF
 | d+1,x,y=>if LY t x y then aM else IV (rP t d) x.dK y.dK
def ajg{f:Ex->Ex->M}{s a:L Ex}{n:Nat}{x y:Ex}(b:s[n]? =aN x)(c:a[n]? =aN y):IV f (s.drop n) (a.drop n)=(f x y&&IV f (s.drop (n+1)) (a.drop (n+1))):=by
 have e:∀{l:L Ex} {z:Ex},l[n]? =aN z->l.drop n=z::l.drop (n+1):=λh=>by
  rw[eu (bc.1 h).1,(bc.1 h).2]
 rw[e b,e c,IV]
def ji(l m:C):((T l).toList==(T m).toList)=YR (l=m):=aff l m
def neB(t:M):∀(d:Nat) {e:Nat} {w:aw} {F G:A} {x y:Ex} {c g:aJ},xS d w F x c->xS e w G y g->
  aA aq 310 #[ah c.toArray,ah g.toArray,aj t] w λr b=>r=ak (aj (rP t d x y))/\az [] w b
 | 0,_,_,_,_,_,_,_,_,h,_=>h.elim
 | d+1,0,_,_,_,_,_,_,_,_,h=>h.elim
 | d+1,e+1,w,F,G,x,y,c,g,⟨sl,E,l⟩,⟨sl',L,q⟩=>by
  subst E L;refine ret (avK ?_);intro k0 k1 Q Y V lm jP o;have N:=l.len;have P:=q.len;have S:=l.cap;have D:=l.big;have h:((((((x.k !=y.k)||(x.n !=y.n))||(!((T x.s).toList==(T y.s).toList)))||(x.op !=y.op))||(t&&(x.a !=y.a)))||((sl.n:Int) !=(sl'.n:Int)))=LY t x y:=by
   rw[ji,N,P];rfl
  rw[h];refine⟨λi=>⟨by rw[rP,K i],o⟩,λi=>?_⟩;have fi:qj x.dK=qj y.dK:=by
   unfold LY at i;rw[fe]at i;have:=i.2;simp only[bne_eq_false_iff_eq]at this;omega
  rw[rP,R (by rw[i];decide)];refine⟨λB v b=>∃n:Nat,n<=qj x.dK/\v=(n:Int)/\B=(qj x.dK)-n/\IV (rP t d) x.dK y.dK=IV (rP t d) (x.dK.drop n) (y.dK.drop n)/\az [] w b/\Q.heap.size<=b.heap.size,qj x.dK,⟨0,bf _,I,I,I,o,H _⟩,?_⟩;rintro B _ w1 ⟨n,hn,rfl,rfl,m,j,z1⟩;refine⟨λW=>?_,λz=>?_⟩
  .have W:(n:Int)<(sl.n:Int):=u W;obtain⟨p,x1,aC,g1,g2,g3,g4,g5,g6⟩:=(Wg (kb d) Z l j X).get (be n) W;obtain⟨p',y1,aS,m1,m2,m3,m4,m5,m6⟩:=(Wg (kb e) Z q j X).get (i:=(n:Int)) (be n) J;rw[ba]at g2 m2;refine⟨p,g1,λw2 T=>?_⟩;have am:=j.bU T;have FT:=iz g6 T;have aT:=iz m6 T;have tc:∃(k n:Int) (s:C) (bv:Int) (y:Sl) (a:Int),aC=oM k n s bv y a:=by
    cases d with
    | zero=>exact g6.elim
    | succ d=>obtain⟨y,a,_⟩:=g6;exact⟨_,_,_,_,y,_,a⟩
   have td:∃(k n:Int) (s:C) (bv:Int) (y:Sl) (a:Int),aS=oM k n s bv y a:=by
    cases e with
    | zero=>exact m6.elim
    | succ e=>obtain⟨y,a,_⟩:=m6;exact⟨_,_,_,_,y,_,a⟩
   obtain⟨a1,a2,a3,a4,a5,a6,rfl⟩:=tc;obtain⟨D,b2,b3,b4,b5,b6,rfl⟩:=td;have bV:=g5.keep (T.block _ g5.lt X);have bY:=m5.keep (T.block _ m5.lt X);refine⟨_,_,_,_,_,_,bV,p',m1,_,_,_,_,_,_,bY,(neB t d FT aT).mono ?_⟩;rintro _ w3 ⟨rfl,p⟩;have z2:=T.size;have z3:=p.size;have lh:=ajg (f:=rP t d) g2 m2;refine⟨_,I,p.same (by
    simp;omega),λhb=>⟨?_,am.bU p⟩,λhb=>⟨(qj x.dK)-(n+1),J,n+1,J,Ye,I,?_,am.bU p,J⟩⟩
   .rw[m,lh];have hb:rP t d x1 y1=aM:=Xu
    rw[hb,cR]
   have hb:rP t d x1 y1=aF:=Xu
   rw[m,lh,hb,ch]
  have z:¬(n:Int)<(sl.n:Int):=aU z;have:n=qj x.dK:=J
  subst this;rw[m,dT (H _)];exact⟨I,j⟩
def mG{d:Nat}{w:aw}{F:A}{x:Ex}{c:aJ}(h:xS d w F x c):∃sl:Sl,c=oM x.k x.n x.s x.op sl x.a:=by
 cases d with
 | zero=>exact h.elim
 | succ d=>obtain⟨l,j,_⟩:=h;exact⟨l,j⟩
def yM:Nat->Ex->Prop
 | 0,_=>True
 | d+1,x=>qj x.s<4611686018427387903/\∀y,y∈x.dK->yM d y
def yy(f:Ex->Nat):L Ex->Nat
 | []=>0
 | x::s=>f x+yy f s
def tK:Nat->Ex->Nat
 | 0,_=>0
 | d+1,x=>1+yy (tK d) x.dK
def mo:Nat->Ex->Prop
 | 0,_=>True
 | d+1,x=>qO x.n/\∀y,y∈x.dK->mo d y
def dD(l:C):M:=YR (l≠[]/\qj l<=24)&&(match l with
 | c::_=>fU c
 | []=>aM)&&YR (l.takeWhile fx=l)&&!lq.contains l
def aeJ{a:aw}(l:C)(g:qj l<9223372036854775807):
  aA aq 220 #[ab (T l)] a λe w=>e=ak (aj (dD l))/\az [] a w:=by
 refine ret (aok ?_);intro k j N m n;have f:(ao #[])=T []:=I;rw[cJ,f,ji];refine⟨λb s i w=>b=dD l/\az [] a w,λb s i w d=>⟨by rw[d.1],d.2⟩,λh=>?_,λh=>⟨?_,n⟩⟩
 .simp only[B,da,db,bF]at h;obtain⟨t,u⟩:=h;have u:qj l<=24:=J
  obtain⟨c,r,rfl⟩:∃c r,l=c::r:=by
   cases l with
   | nil=>exact absurd I t
   | cons c r=>exact⟨c,r,I⟩
  have p:dD (c::r)=(fU c&&YR ((c::r).takeWhile fx=c::r)&&!lq.contains (c::r)):=by
   unfold dD;rw[bG ⟨t,u⟩,ch]
  refine⟨c,⟨ja _,Xo⟩,(EA j c).mono ?_⟩;rintro _ y ⟨rfl,P⟩;have q:=n.bU P;refine⟨_,I,P.same S,λb e=>?_,λb=>⟨by rw[p,b];rfl,q⟩⟩;refine(Xg (i:=0) (r:=[]) e (bf _) g).mono ?_;rintro _ x ⟨rfl,Z⟩;rw[gJ];have v:aG x k 210 [ab (T (c::r)),O U 0]:=(Z.block k e.lt X).trans e;refine⟨_,I,T (c::r),0,v,?_⟩;rw[ji];refine⟨λo=>(ahz x).mono ?_,λo=>⟨?_,q.bU Z⟩⟩
  .rintro _ E ⟨s,rfl,D,Q⟩;have z:aG E k 210 [ab (T (c::r)),O U 0]:=(Q.block k v.lt X).trans v;refine⟨s,I,T (c::r),0,z,(wT (vY D) (c::r)).mono ?_⟩;rintro _ F ⟨rfl,A⟩;have G:aG F k 210 [ab (T (c::r)),O U 0]:=(A.block k z.lt X).trans z;exact⟨_,I,_,_,G,by rw[p,b,o];rfl,q.bU (Z.bU (Q.bU A))⟩
  rw[p,b,o];rfl
 unfold dD;rw[bD]
 .rfl
 rintro⟨b,c⟩;rw[bD b,bG J]at h;cases h
def P(x:Ex):Int:=if x.k=5 then gf x.op else 6
def tt{w}{F}{x}{cs}{d}(h:xS d w F x cs):aA aq 328 #[ah cs.toArray] w λe a=>e=ak (O U (P x))/\az [] w a:=by
 cases d with
 | zero=>exact h.elim
 | succ d=>
  obtain⟨sl,rfl,h⟩:=h;refine ret (avP ?_);refine⟨λhc k e _ _ b=>?_,λhc c w hk j b=>(O1 w x.op).mono ?_⟩
  .have hc:=Yc
   rw[P,R hc];exact⟨I,b⟩
  rintro _ d ⟨rfl,rfl⟩;rw[P,K Yc];exact⟨_,I,λ_ _=>I,I,b⟩
def Uh(n:Int)(s:C)(op len:Int)(x:Ex):M:=((((x.n==n)&&YR (x.s=s))&&(x.op==op))&&(qj x.dK==len))
def iM(x:Ex):M:=
 if x.k=1 then Uh (if 0>x.n then 0 else x.n) [] 0 0 x
 else if x.k=2∨x.k=3 then dD x.s&&Uh 0 x.s 0 0 x
 else if x.k=4 then Uh 0 [] (if x.op=15 then 15 else 14) 1 x
 else if x.k=5 then !(gf x.op==6)&&Uh 0 [] x.op 2 x
 else aM
def lu(f:Ex->M):L Ex->M
 | []=>aF
 | x::s=>f x&&lu f s
def cV:Nat->Ex->M
 | 0,_=>aM
 | d+1,x=>iM x&&lu (cV d) x.dK
def G6{f}{s:L Ex}{n}{x}(h:s[n]? =aN x):lu f (s.drop n)=(f x&&lu f (s.drop (n+1))):=by
 rw[eu (bc.1 h).1,(bc.1 h).2,lu]
abbrev GW(d:Nat):Prop:=∀{w:aw} {F:A} {x:Ex} {c:aJ},yM d x->xS d w F x c->aA aq 304 #[ah c.toArray] w λe a=>e=ak (aj (cV d x))/\az [] w a
def abf{d}(a:GW d){w}{F}{x}{cs}(l:yM d x)(h:xS d w F x cs):aA aq 326 #[ah cs.toArray] w λe b=>e=ak (aj (!cV d x))/\az [] w b:=by
 obtain⟨sl,rfl⟩:=mG h;refine ret (avO ?_);intro k f hk j O;refine(a l (iz h O)).mono ?_;rintro _ g ⟨rfl,c⟩;exact⟨_,I,c.same S,I,O.bU c⟩
def abj{d:Nat}(S:GW d){w}{F}{l}{xs}(k:∀y,y∈xs->yM d y)(h:aB (xS d) 6 w F l xs):aA aq 348 #[l.v,.func (.func 326) #[] #[]] w λe a=>∃i,e=ak (O U i)/\YR (i>=0)=!lu (cV d) xs/\az [] w a:=by
 refine(ao1 l ⟨.func (.func 326) #[] #[],I⟩ (λv a=>∃i,v=O U i/\YR (i>=0)=!lu (cV d) xs/\az [] w a) w ?_).mono (by
  rintro e a ⟨v,rfl,i,rfl,h⟩;exact⟨i,I,h⟩)
 have m:=h.len;have s:=h.big;have p:=h.cap;refine⟨λg i a=>∃n,n<=qj xs/\i=n/\g=(qj xs)-n/\lu (cV d) xs=lu _ (xs.drop n)/\az [] w a,qj xs,⟨0,bf _,I,I,I,Ib _ _⟩,?_⟩;rintro g _ q ⟨n,o,rfl,rfl,j,c⟩;refine⟨λb=>?_,λb=>?_⟩
 .have W:(n:Int)<l.n:=u b;obtain⟨ad,x,z,w,e,A,B,y,t⟩:=(Wg (kb d) Z h c X).get (be n) W;rw[ba]at e;obtain⟨sl,rfl⟩:=mG t;refine⟨ad,w,_,_,_,_,_,_,y,326,[],[],I,gN E,?_⟩;refine(abf S (k x (bp e)) t).mono ?_;rintro _ C ⟨rfl,r⟩;have v:=G6 (f:=cV d) e;refine⟨_,I,λhb=>⟨_,I,?_,c.bU r⟩,λhb=>⟨(qj xs)-_,J,n+1,J,Ye,I,?_,c.bU r⟩⟩
  .have hb:cV d x=aM:=Xu
   rw[j,v,hb,cR,GL];exact bG (be n)
  have hb:cV d x=aF:=Xu
  rw[j,v,hb,ch]
 have l:=aU b;refine⟨_,I,?_,c⟩;rw[j,dT J];rfl
def ajd{d}(S:GW d){w}{F}{l}{xs}(c:∀y,y∈xs->yM d y)(h:aB (xS d) 6 w F l xs):aA aq 325 #[l.v,.func (.func 326) #[] #[]] w λe f=>e=ak (aj (!lu (cV d) xs))/\az [] w f:=by
 refine ret (aoV l ⟨.func _ #[] #[],I⟩ w ?_);refine(abj S c h).mono ?_;rintro _ g ⟨i,rfl,a,b⟩;exact⟨_,I,by rw[a],b⟩
def aa8:∀d,GW d
 | 0,_,_,_,_,_,h=>h.elim
 | d+1,f,F,x,z,⟨p,o⟩,⟨sl,g,a⟩=>by
  subst g;refine ret (avG ?_);intro B t n N A l P c;have h:∀{b:M},iM x=b->cV (d+1) x=_:=λe=>by rw[cV,e]
  have own:∀{w m:aw},az [] f w->az [t] w m->az [] f m:=λg a=>g.new a l;refine⟨λi q j y k v r w=>∃s,y=T s/\iM x=Uh j s k i x/\az [] f w/\n.heap.size<=w.heap.size,?_,λhk C Q=>⟨[],I,?_,own c Q,Q.size⟩,λhk=>?_⟩
  .rintro i q j _ k v r w ⟨s,rfl,G,e,L⟩;have E:((((x.n==j)&&((T x.s).toList==(T s).toList))&&(x.op==k))&&((sl.n:Int)==i))=iM x:=by
    rw[G,ji,a.len];rfl
   rw[E];refine⟨λb H=>b=cV _ x/\az [] f H,?_,λD=>(ajd (aa8 d) o (Wg (kb d) Z a e X)).mono ?_,λD=>⟨by rw[h D,cR],e⟩⟩
   .rintro _ m ⟨rfl,b⟩;exact⟨I,b⟩
   rintro _ d ⟨rfl,b⟩;exact⟨_,I,b.same S,by rw[h D,ch,QD],e.bU b⟩
  .have hk:=WH
   rw[iM,K hk]
  have l:=WH
  refine⟨λb d=>b=YR (x.k=2∨x.k=3)/\d=n,?_,λrF=>⟨?_,I⟩,λrF=>⟨?_,I⟩⟩
  .rintro _ _ ⟨rfl,rfl⟩;refine⟨λhk=>(aeJ x.s J).mono ?_,λhk=>⟨λwx=>⟨λho D e=>⟨[],I,?_,own c e,e.size⟩,λho E s=>⟨[],I,?_,own c s,s.size⟩⟩,λwx=>⟨λsP=>(O1 _ x.op).mono ?_,λsP=>⟨?_,c⟩⟩⟩⟩
   .rintro _ H ⟨rfl,V⟩;have T:=V.size;have hk:=u hk;refine⟨_,I,V.same S,λhb=>⟨?_,c.bU V⟩,λhb L G=>⟨x.s,I,?_,own (c.bU V) G,by have:=G.size;omega⟩⟩
    .have hb:=Xu
     rw[h (b:=aM) (by rw[iM,R l,K hk,hb,cR]),cR]
    have hb:=Xu
    rw[iM,R l,K hk,hb,ch]
   .have hk:=aU hk;have wx:=Uz
    have ho:=Ma
    rw[iM,R l,R hk,K wx,K ho]
   .have hk:=aU hk;have wx:=Uz
    rw[iM,R l,R hk,K wx,R Ma]
   .rintro _ H ⟨rfl,rfl⟩;have hk:=aU hk;have wx:=Uz
    have sP:=Ak
    refine⟨_,I,λ_ _=>I,λhb=>⟨?_,c⟩,λhb x G=>⟨[],I,?_,own c G,G.size⟩⟩
    .rw[h (b:=aM) (by rw[iM,R l,R hk,R wx,K sP,hb,Bool.not_true,cR]),cR]
    rw[iM,R l,R hk,R wx,K sP,hb,GL,ch]
   have wx:=Uz
   have sP:=Ak
   rw[h (b:=aM) (by rw[iM,R l,R (aU hk),R wx,R sP]),cR]
  .have rF:=MT
   rw[rF];rfl
  rw[bK];simp[by simpa using rF]
def Tb(w:aw):Prop:=Lib.TabIs aq w "internal/strconv.uint64pow10" .u64 Lib.pow10Tab
def tb_num:Tryz.prog.globalNamed "internal/strconv.uint64pow10" =aN 1:=E
def Tb.keep{w w'}(h:Tb w)(hk:1<w.heap.size->w'.heap[1]? =w.heap[1]?):Tb w':=by
 unfold Tb Lib.TabIs World.var? at h⊢;rw[tb_num]at h⊢;simp at h⊢;rw[hk]
 .exact h
 refine bS λn=>?_;rw[iR J]at h;cases h
def Tb.lt{w}(h:Tb w):1<w.heap.size:=by
 unfold Tb Lib.TabIs World.var? at h;rw[tb_num]at h;simp at h;refine bS λn=>?_;rw[iR J]at h;cases h
def Tb.only{w w'}(h:Tb w)(O:az [] w w'):Tb w':=h.keep λb=>O.block _ b X
def Only.grown w k os:az [] w (Go.Sort.grow (w.drewN k) os):=⟨I,I,I,X,λq h _=>by
 simp[Go.Sort.grow,World.heap_drewN];rw[Array.getElem?_append_left h]⟩
def Dp{w} n (h:qO n) (a:Tb w):aA aq 173 #[O U n] w λe b=>e=ak (ab (T (Lib.itoa n)))/\az [] w b:=by
 refine ret (v1w ?_);refine(Tryz.strconv_Itoa n h.1 h.2 w a).mono ?_;rintro _ c ⟨rfl,k,o,rfl⟩;exact⟨_,I,I,Only.grown _ _ _⟩
def Bf(w:aw)(B:Nat)(s:Sl)(l:C):Prop:=
 (s=Sl.nil/\l=[])∨∃g tail,s.a=aN ⟨g,0,Pw⟩/\B<=g/\aG w g 5 (l.map jc++tail)/\qj tail=s.c-s.n/\s.n=qj l/\s.n<=s.c/\s.c<=9223372036854775807/\0<s.c
def Bf.len{w}{B}{s}{l}(h:Bf w B s l):s.n=qj l:=by
 rcases h with⟨rfl,rfl⟩ | ⟨g,tail,_,_,_,_,h,_⟩
 .rfl
 exact h
def Bf.lt{w}{B}{s}{l}(b:Bf w B s l){g}(a:s.a=aN ⟨g,0,Pw⟩):B<=g/\g<w.heap.size:=by
 rcases b with⟨rfl,rfl⟩ | ⟨e,tail,h,c,d,_⟩
 .cases a
 rw[a]at h;injection h with h;injection h with h;subst h;exact⟨c,d.lt⟩
def Bf.keep{w w'}{B}{s}{l}(h:Bf w B s l)(hk:∀g,s.a=aN ⟨g,0,Pw⟩->g<w.heap.size->w'.heap[g]? =w.heap[g]?):Bf w' B s l:=by
 rcases h with h | ⟨g,tail,a,c,b,d⟩
 .exact .inl h
 exact .inr ⟨g,tail,a,c,(hk g a b.lt).trans b,d⟩
def ape l:Lib.strCells (T l)=l.map jc:=rfl
def EK:Tryz.prog.underlying 230=aN (.slice 5):=E
def ahY:Tryz.prog.underlying 9=aN .string:=E
def IW:Tryz.prog.info? 5=aN Tryz.t5:=E
def Dr{w:aw}{B:Nat}{s:Sl}{l:C}(r:Bf w B s l)(m:C)(F:B<=w.heap.size)(G:qj l+qj m<=140737488355328):
  ∃a f,(Builtin.append_ #[230,9] 230 #[s.v,ab (T m)]).run aq w=.ok a.v f/\Bf f B a (l++m)/\aE (λk=>s.a=aN ⟨k,0,Pw⟩) w f/\(a.a=s.a∨a.a=aN ⟨w.heap.size,0,Pw⟩):=by
 have t:=EK;have u:=ahY;have i:=IW;have d:Tryz.t5.size=1:=I;have A:Tryz.t5.bytes=1:=I;have q:Tryz.t5.zero=aN (.int .u8 0):=I;have hsz:(T m).size=qj m:=cJ m;have grown:∀(ia V:Nat),ia=qj l+(qj m)->0<qj l+(qj m)->∀cells:Array ay,cells=((l++m).map jc).toArray++Builtin.zeroCells (Value.int .u8 0).cells (grownCap w ia V 5-ia)->
   Bf (w.drew.alloc (.cells cells 5)) B ⟨aN ⟨w.heap.size,0,Pw⟩,ia,grownCap w ia V 5⟩ (l++m)/\aE (λk=>s.a=aN ⟨k,0,Pw⟩) w (w.drew.alloc (.cells cells 5)):=by
  rintro ia V rfl b cells rfl;have c:az [] w (w.drew.alloc (.cells (((l++m).map jc).toArray++Builtin.zeroCells (Value.int .u8 0).cells (grownCap w (qj l+qj m) V 5-(qj l+qj m))) 5)):=(Only.drew w).bU (X0 _ _);refine⟨.inr ⟨w.heap.size,(Builtin.zeroCells (Value.int .u8 0).cells (grownCap w (qj l+qj m) V 5-(qj l+qj m))).toList,I,F,?_,?_,X,grownCap_ge _ _ _ _,grownCap_le_maxLen _ _ _ _ (by simp only[maxLen];omega),cq b (grownCap_ge _ _ _ _)⟩,c.p0⟩
  .have e:∀(x:aJ) (z:Array ay),x.toArray++z=(x++z.toList).toArray:=λx z=>X
   rw[e];exact Yf w.drew 5 _
  exact(zQ w _ (size:=1) I).trans (vV _)
 rcases r with⟨rfl,rfl⟩ | ⟨g,tail,j,y,h,D,n,E,o,p⟩
 .cases m with
  | nil=>
   refine⟨Sl.nil,w,?_,.inl ⟨I,I⟩,YW _ _,.inl I⟩;have c:=Lib.run_firstCells_string (P:=aq) w 1 (T []);have b:(T []).size=0:=I;rw[b]at c;simp[Sl.nil,Sl.v,Builtin.append_,run_underlying t,run_underlying u,sizeOf,typeInfo,i,d,Builtin.lenOf,b,c]
  | cons c m=>
   have e:=run_append_nil_string (P:=aq) w 230 9 230 5 Tryz.t5 (.int .u8 0) t u i q (T (c::m)) (by rw[hsz];simp) G9 (by rw[hsz,A];omega);rw[hsz]at e;obtain⟨s,v⟩:=grown (qj (c::m)) 0 X X _ I;have k:(T (c::m)).data.map (λb=>Value.int .u8 b.toNat)=(List.map jc ([]++c::m)).toArray:=by
    apply VH.1;rw[Array.toList_map,mC];rfl
   rw[k]at e;exact⟨_,_,e,s,v,.inr I⟩
 obtain⟨b,sn,sc⟩:=s;dsimp only at j D n E o p;subst j;by_cases N:sn+qj m<=sc
 .have c:=h;unfold aG at h;have k:=Lib.run_append_room_string (P:=aq) w 230 9 230 5 Tryz.t5 t u i d g sn sc _ h _ (by rw[hsz];exact N) (by
   rw[hsz,sX,aP,bH];omega)
  rw[hsz,ape]at k;refine⟨⟨aN ⟨g,0,Pw⟩,sn+qj m,sc⟩,_,k,.inr ⟨g,tail.drop (qj m),I,y,?_,?_,by dsimp only;rw[aP];omega,N,o,p⟩,(Nr w g _).p λx s=>.inl (by simp only[aV]at s;rw[s]),.inl I⟩
  .have:=c.setRow ((l++m).map jc++tail.drop (qj m));have e:((l.map jc++tail).toArray.toList.take sn++m.map jc++(l.map jc++tail).toArray.toList.drop (sn+qj m))=(l++m).map jc++tail.drop (qj m):=by
    rw[mC,Wd UI,bm UI,List.drop_append,dT UI,cd,bH,cA,n,dH]
   rw[e];exact this
  rw[cD];dsimp only;omega
 have k:∀c v,(l.map jc)[c]? =aN v->w.cell? ((⟨g,0,Pw⟩:Addr).add c)=aN v:=λc v hj=>h.cells 0 (l.map jc) (λc v hj=>HM) c v hj;have e:=Lib.run_append_grow_string (P:=aq) w 230 9 230 5 Tryz.t5 (.int .u8 0) t u i q ⟨g,0,Pw⟩ sn sc (l.map jc) (by rw[d,bH];omega) k _ G9 G9 (growslice_fits G9 (by rw[hsz,A];omega));rw[hsz,ape]at e;obtain⟨s,x⟩:=grown (sn+qj m) sc J J _ I;refine⟨_,_,e.trans ?_,s,x,.inr I⟩;simp[cA]
def afH w F:∀l,pR ma 1 w F l (l.map λb=>[jc b])
 | []=>trivial
 | c::l=>⟨⟨I,I⟩,afH w F l⟩
def Xv:∀l:C,(l.map λb=>[jc b]).flatten=l.map jc
 | []=>rfl
 | c::l=>by rw[cf,fk,Xv l];rfl
def ab1{w}{F}:∀{l:C} {s:L _},pR ma 1 w F l s->s.flatten=l.map jc
 | [],[],_=>rfl
 | c::l,d::s,h=>by
  obtain⟨⟨_,a⟩,b⟩:=h;subst a;rw[fk,ab1 b];rfl
def Bf.own{w}{B}{s}{l}(h:Bf w B s l) F:Own ma 1 5 B w F s l:=by
 rcases h with h | ⟨g,tail,a,c,d,e,f,i,j,_⟩
 .exact .inl h
 exact .inr ⟨g,l.map λb=>[jc b],tail,a,c,by rw[Xv];exact d,by rw[vV];exact e,f,i,j,afH _ _ _⟩
def Bf.of{w}{B}{s}{l}{F}(h:Own ma 1 5 B w F s l)(m:0<qj l):Bf w B s l:=by
 rcases h with h | ⟨g,c,tail,a,b,d,e,f,i,j,k⟩
 .exact .inl h
 exact .inr ⟨g,tail,a,b,by rw[<-ab1 k];exact d,by rw[e,vV],f,i,j,J⟩
structure Pg (G:A) (w:aw) (b:Nat) (sl sn:Sl) (l:C):Prop where
 blk:∃q:Option Addr,(q=Pw∨q=aN ⟨b,0,Pw⟩)/\aG w b 346 [ae q,sl.v,sn.v]
 buf:Bf w (b+1) sl l
 sig:aB nU 1 w G sn ze
 hG:∀k,G k->k<b
def kq(b:Nat)(sl:Sl)(w:aw)(sl':Sl)(a:aw):Prop:=aE (λk=>k=b∨sl.a=aN ⟨k,0,Pw⟩) w a/\∀k,sl'.a=aN ⟨k,0,Pw⟩->sl.a=aN ⟨k,0,Pw⟩∨w.heap.size<=k
def kq.refl b sl w:kq b sl w sl w:=⟨YW _ _,λ_ h=>.inl h⟩
def Zl:=@kq.refl
def kq.trans{b}{sl sl' Vo}{w w' wo}(a:kq b sl w sl' w')(k:kq b sl' w' Vo wo):kq b sl w Vo wo:=by
 have z:=a.1.size;refine⟨a.1.trans k.1 λx h=>?_,λx h=>?_⟩
 .rcases h with h | h
  .exact .inl (.inl h)
  rcases a.2 x h with e | e
  .exact .inl (.inr e)
  exact .inr e
 rcases k.2 x h with e | e
 .exact a.2 x e
 exact .inr J
def kq.only{b}{sl}{w w'}(h:az [] w w'):kq b sl w sl w':=⟨h.p0,λ_ h=>.inl h⟩
def UW:=@kq.only
def kq.same{b}{sl sl'}{w w'}(a:kq b sl w sl' w'){k}(hk:k≠b)(s:sl.a≠aN ⟨k,0,Pw⟩)(l:k<w.heap.size):cj [k] w w':=a.1.same (by
 intro x h;simp at h;subst h;exact⟨l,λe=>e.elim hk s⟩)
def Pg.only{G}{w w'}{b}{sl sn}{l}(h:Pg G w b sl sn l)(O:az [] w w'):Pg G w' b sl sn l:=by
 obtain⟨q,c,B⟩:=h.blk;exact⟨⟨q,c,O.blk B X⟩,h.buf.keep λg _ a=>O.block g a X,Wg dG Z h.sig O X,h.hG⟩
def Pg.lb{G}{w}{b}{sl sn}{l}(h:Pg G w b sl sn l):b<w.heap.size:=by
 obtain⟨q,a,B⟩:=h.blk;exact B.lt
def afI v w:(T4 276 #[v]).run aq w=.ok v w:=by
 unfold T4;rw[Sem.run_bind,run_callFunc_extern Tryz.func276 E E E (e:=Extern.AbiNoEscape.same) E];rfl
def agS{w}{b}{q}{sl sn:Sl}(c:q=Pw∨q=aN ⟨b,0,Pw⟩)(h:aG w b 346 [ae q,sl.v,sn.v]):
  aA aq 252 #[ae (aN ⟨b,0,Pw⟩)] w λe a=>e=ak (ai #[])/\az [b] w a/\aG a b 346 [ae (aN ⟨b,0,Pw⟩),sl.v,sn.v]:=by
 refine ret (afC ?_);have g:w.shape? b=aN (346,3):=by
  unfold World.shape?;rw[h];rfl
 refine⟨q,Om h 0 I,λn=>?_,λn=>⟨q,Om h 0 I,?_⟩⟩
 .have r:=Lib.run_from_unsafe (P:=aq) (src:=318) (dst:=229) w ⟨b,0,Pw⟩ (u:=232) (j:=Tryz.t232) E E E g E;exact⟨_,w,Lib.run_to_unsafe (P:=aq) (src:=229) (dst:=318) w ⟨b,0,Pw⟩ (t:=232) (j:=Tryz.t232) E E E Z g (by decide:(0:Nat)<3),⟨ae _,I⟩,w,afI _ w,aN ⟨b,0,Pw⟩,w,r,b,0,_,_,I,h,X,λd O B=>⟨I,O,B⟩⟩
 rcases c with rfl | rfl
 .cases n
 exact⟨aM,w,Lib.run_neq_ptr_same w _ (te:=232) (j:=Tryz.t232) E E,λe=>U4,λ_=>⟨I,Ib _ _,h⟩⟩
section
variable {G:A} {w:aw} {b:Nat} {sl sn:Sl} {l:C}
def ahZ(h:Pg G w b sl sn l):aA aq 226 #[ae (aN ⟨b,0,Pw⟩)] w λe a=>e=ak (O U (qj l))/\a=w:=by
 refine ret (afA _ _ ?_);obtain⟨q,c,B⟩:=h.blk;exact⟨sl,Om B 1 I,by rw[h.buf.len],I⟩
def tL(h:Pg G w b sl sn l) m (hm:qj l+qj m<=140737488355328):aA aq 217 #[ae (aN ⟨b,0,Pw⟩),ab (T m)] w λe f=>
  ∃sl',e=ak (ai #[O U (qj m),.nilIface])/\Pg G f b sl' sn (l++m)/\kq b sl w sl' f:=by
 refine gX (afz ?_);obtain⟨q,j,B⟩:=h.blk;refine(agS j B).mono ?_;rintro _ u ⟨rfl,c,i⟩;have z:=c.size;have t:=B.lt;have Bb:=h.buf.keep λg hg a=>c.block g a (by have:=(h.buf.lt hg).1;simp;omega);obtain⟨s,r,n,o,k3,d⟩:=Dr Bb m J hm;have zL:∀g,s.a=aN ⟨g,0,Pw⟩->b<g:=λg hg=>by
  rcases d with e | e
  .rw[e]at hg;exact(Bb.lt hg).1
  rw[e]at hg;injection hg with hg;injection hg with hg;omega
 refine⟨I,sl,Om i 1 I,s,r,n,b,1,_,_,I,k3.blk i λe=>Hi,X,λv P p=>⟨s,I,⟨⟨_,.inr I,p⟩,o.keep λg hg a=>P.block g a Wp,?_,h.hG⟩,?_,?_⟩⟩
 .exact Wg dG Z (U6 dG Z (Wg dG Z h.sig c λk hk _ hm=>Uj) k3 λk hk _ hm=>by have:=h.hG k hk;have:=(Bb.lt hm).1;omega) P λk hk _ hm=>Uj
 .refine((c.p (F:=λk=>k=b∨sl.a=aN _) λx hx=>.inl (.inl Xi)).trans k3 λk hk=>.inl (.inr hk)).trans (P.p (F:=λk=>k=b) λx hx=>.inl Xi) λk hk=>.inl (.inl hk)
 intro k hk;rcases d with e | e
 .rw[e]at hk;exact .inl hk
 rw[e]at hk;injection hk with hk;injection hk with hk;exact .inr J
def afJ(h:Pg G w b sl sn l) c (hm:qj l+1<=140737488355328):Xc ⟨b,0,Pw⟩ c.toNat (λv o=>∃sl',v=.nilIface/\Pg G o b sl' sn (l++[c])/\kq b sl w sl' o) w:=by
 obtain⟨q,u,B⟩:=h.blk;refine(agS u B).mono ?_;rintro _ K ⟨rfl,d,p⟩;have S:=d.size;have Q:=B.lt;have Bb:=h.buf.keep λg hg a=>d.block g a (by have:=(h.buf.lt hg).1;simp;omega);obtain⟨y,L,z,A,k3,_⟩:=vA K [c] (n:=1) (parts:=#[_]) I I Z Z;have T:=k3.size;obtain⟨s,M,C,D,O,E,H,m⟩:=tf (P:=aq) (t:=230) (ty:=230) (e:=5) (i:=Tryz.t5) (bytes:=1) (size:=1) (r:=ma) EK IW I I I I tZ ((Bb.keep λg hg a=>k3.block g a X).own λ_=>True) ((Af A).mono tZ λk hk=>⟨trivial,λe=>by have:=(Bb.lt e).2;have:=hk.1;omega⟩) J TX Z;have f:=E.p λx hx=>.inl (H x hx).1;have zL:∀g,s.a=aN ⟨g,0,Pw⟩->b<g:=λg hg=>by
  rcases m with e | e
  .rw[e]at hg;exact(Bb.lt hg).1
  rw[e]at hg;injection hg with hg;injection hg with hg;omega
 refine⟨I,sl,Om p 1 I,y,L,z,s,M,C,b,1,_,_,I,f.blk (k3.blk p X) λe=>Hi,X,λR j N=>⟨s,I,⟨⟨_,.inr I,N⟩,(Bf.of D X).keep λg hg a=>j.block g a Wp,?_,h.hG⟩,?_,?_⟩⟩
 .exact Wg dG Z (U6 dG Z (Wg dG Z h.sig (d.bU k3) λk hk _ hm=>Uj) f λk hk _ hm=>by have:=h.hG k hk;have:=(Bb.lt hm).1;omega) j λk hk _ hm=>Uj
 .refine(((d.bU k3).p (F:=λk=>k=b∨sl.a=aN _) λx hx=>.inl (.inl Xi)).trans f λk hk=>.inl (.inr hk)).trans (j.p (F:=λk=>k=b) λx hx=>.inl Xi) λk hk=>.inl (.inl hk)
 intro k hk;rcases m with e | e
 .rw[e]at hk;exact .inl hk
 rw[e]at hk;injection hk with hk;injection hk with hk;exact .inr J
def ac1(h:Pg G w b sl sn l) c (m:qj l+1<=140737488355328):aA aq 327 #[ae (aN ⟨b,0,Pw⟩),.int .u8 c.toNat] w λe a=>
 ∃sl',e=ak .nilIface/\Pg G a b sl' sn (l++[c])/\kq b sl w sl' a:=(aoW w (afJ h c m)).mono (by
 rintro e a ⟨v,rfl,s,rfl,h⟩;exact⟨s,I,h⟩)
def ac2(h:Pg G w b sl sn l) c (m:qj l+1<=140737488355328):nG aq 327 #[ae (aN ⟨b,0,Pw⟩),.int .u8 c.toNat] w λv a=>
 ∃sl',v=.nilIface/\Pg G a b sl' sn (l++[c])/\kq b sl w sl' a:=aab w (afJ h c m)
structure Pt (w:aw) (b:Nat) (sl:Sl) (l:C):Prop where
 blk:∃q sn:ay,aG w b 346 [q,sl.v,sn]
 len:sl.n=qj l
 aN:l≠[]->∃g,sl.a=.some ⟨g,0,Pw⟩/\b<g/\sl.c≠0/\(∃n,w.shape? g=.some (5,n)/\qj l<=n)/\aD w ⟨g,0,Pw⟩ (l.map jc)
 cap:sl.a=Pw∨sl.c≠0
 big:qj l<=9223372036854775807
def EM{w a:aw}{g}(h:a.heap[g]? =w.heap[g]?):a.shape? g=w.shape? g:=by
 unfold World.shape?;rw[h]
def Pt.only{w'}(j:Pt w b sl l)(h:az [] w w'):Pt w' b sl l:=by
 obtain⟨⟨q,sn,k⟩,m,o,p,r⟩:=j;refine⟨⟨q,sn,h.blk k X⟩,m,λt=>?_,p,r⟩;obtain⟨g,c,d,e,⟨n,a,f⟩,i⟩:=o t;have s:g<w.heap.size:=by
  refine bS λn=>?_;unfold World.shape? at a;rw[iR J]at a;cases a
 have hk:=h.block g s X;exact⟨g,c,d,e,⟨n,(EM hk).trans a,f⟩,i.keep hk⟩
def Pg.pt(h:Pg G w b sl sn l):Pt w b sl l:=by
 obtain⟨q,c,B⟩:=h.blk;refine⟨⟨_,_,B⟩,h.buf.len,λa=>?_,?_,?_⟩
 .rcases h.buf with⟨_,e⟩ | ⟨g,tail,d,f,b,i,j,k,l,m⟩
  .exact absurd e a
  refine⟨g,d,f,J,⟨_,by unfold World.shape?;unfold aG at b;rw[b],X⟩,b.cells 0 _ λe v hj=>HM⟩
 .rcases h.buf with⟨e,_⟩ | _
  .exact .inl (by rw[e])
  exact .inr J
 rcases h.buf with⟨_,e⟩ | _
 .subst e;simp
 omega
end
def agF{w:aw}{p:Addr}{n:Nat}{a:Nat}:(w.freeze p n).shape? a=w.shape? a:=by
 unfold World.freeze;split
 .rfl
 unfold World.shape?;simp only[n8];by_cases b:p.block=a
 .rw[K b];rcases h:w.heap[a]? with _|o
  .rfl
  cases o with
  | cells c e f=>obtain⟨l,h⟩:=f;rfl
  | _=>rfl
 rw[R b]
section
variable {w:aw} {b:Nat} {sl:Sl} {l:C}
def ab6(g:Pt w b sl l):aA aq 176 #[ae (aN ⟨b,0,Pw⟩)] w λe d=>e=ak (ab (T l))/\Pt d b sl l/\aE (λk=>b<k/\sl.a=aN ⟨k,0,Pw⟩) w d:=by
 refine ret (afx ?_);intro c n;have i:=g.only n;obtain⟨⟨q,sn,h⟩,f,N,p,s⟩:=i;refine⟨λk=>k=b,sl,Om h 1 I,I,sl,Om h 1 I,sl.a,c,?_,λk _ _=>I,?_⟩
 .obtain⟨b,j,sc⟩:=sl;rcases b with _|a
  .exact Lib.run_unsafeSliceData_nil _ _ _ _ _
  rcases p with e | e
  .cases e
  exact Lib.run_unsafeSliceData_row _ _ _ _ _ _ e
 by_cases a:l=[]
 .subst a;have b:sl.n=0:=f;refine⟨T [],c,?_,λk _ _=>I,I,⟨⟨q,sn,h⟩,f,N,p,s⟩,n.p0⟩;rw[b];exact Lib.run_unsafeString_none _ _ _ _ _
 obtain⟨e,j,Q,u,⟨t,w,r⟩,z⟩:=N a;have F:=wV c ⟨e,0,Pw⟩ (qj l);have G:b<c.heap.size:=h.lt;refine⟨T l,c.freeze ⟨e,0,Pw⟩ (qj l),?_,λk hk W=>F.block k W KQ,I,⟨⟨q,sn,F.blk h KQ⟩,f,λ_=>⟨e,j,Q,u,⟨t,(agF).trans w,r⟩,λo v m=>by rw[wU];exact z o v m⟩,p,s⟩,n.nP (F.mono λk _ hk=>by dsimp only at hk;subst hk;exact⟨Q,j⟩)⟩;rw[j,f];exact Lib.run_unsafeString_row _ _ _ _ 5 E E e t w l a r s λo x m=>z o (jc x) (by rw[cw,m];rfl)
end
def opn(wr:M)(l:C):C:=if wr then l++[40]else l
def clo(wr:M)(l:C):C:=if wr then l++[41]else l
def rQ:Nat->Ex->M->C->C
 | 0,_,_,l=>l
 | d+1,x,wr,l=>if 16384<qj l then l else clo wr (
  if x.k=1 then opn wr l++Lib.itoa x.n
  else if x.k=2 then opn wr l++x.s
  else if x.k=3 then opn wr l++([105,110,40]++x.s++[41])
  else if x.k=4 then(match x.dK with
   | [y]=>rQ d y (YR (P y<6)) (opn wr l++eX x.op.toNat)
   | _=>l)
  else(match x.dK with
   | [y,z]=>rQ d z (YR (P z<=P x)) (rQ d y (YR (P y<P x)) (opn wr l)++([32]++eX x.op.toNat++[32]))
   | _=>l))
section
variable {x:Ex}
def yN{n}{s}{op len}(h:Uh n s op len x=aF):x.n=n/\x.s=s/\x.op=op/\qj x.dK=len:=by
 simp[Uh,B,dr,bF]at h;exact⟨h.1.1.1,h.1.1.2,h.1.2,h.2⟩
def lw(h:iM x=aF)(hk:x.k=2∨x.k=3):dD x.s=aF:=by
 have a:x.k≠1:=J
 rw[iM,R a,K hk,B]at h;exact h.1
def wW(h:iM x=aF)(hk:x.k=4):∃y,x.dK=[y]/\(x.op=14∨x.op=15):=by
 rw[iM,R J,R J,K hk]at h;obtain⟨_,_,a,c⟩:=yN h;obtain⟨y,b⟩:=List.length_eq_one_iff.1 (show (qj x.dK)=1 by omega);refine⟨y,b,?_⟩;by_cases D:x.op=15
 .exact .inr D
 rw[R D]at a;exact .inl a
def rR(h:iM x=aF)(a:x.k≠1)(c:x.k≠2)(d:x.k≠3)(b:x.k≠4):x.k=5/\∃y z,x.dK=[y,z]/\1<=x.op/\x.op<=13:=by
 rw[iM,R a,R J,R b]at h;split at h
 .rename_i f;rw[B]at h;obtain⟨e,g⟩:=h;obtain _:=yN g;have e:=by simpa using e
  have l:qj x.dK=2:=J
  obtain⟨y,z,i⟩:∃y z,x.dK=[y,z]:=by
   match m:x.dK,l with
   | [y,z],_=>exact⟨y,z,I⟩
  refine⟨f,y,z,i,?_⟩;unfold gf at e;refine bS λn=>e ?_;rw[R J,R J,R J,R J,R J,R J]
 cases h
def jf{s}(h:dD s=aF):qj s<=24:=by
 unfold dD at h;simp only[B]at h;exact(u h.1.1.1).2
def mY n:qj (eX n)<=2:=by
 rcases nu n 16 with h | h
 .have:∀q,q<16->qj (eX q)<=2:=Z
  exact this n h
 unfold eX;rw[cW (h)];decide
def Rn wr l:qj (opn wr l)<=qj l+1:=by
 unfold opn;cases wr<;>simp
def ac3 wr l:qj (clo wr l)<=qj l+1:=by
 unfold clo;cases wr<;>simp
def vC:∀d {x:Ex} wr l,cV d x=aF->mo d x->qj (rQ d x wr l)<=qj l+40*tK d x
 | 0,x,wr,l,h,_=>Ue
 | d+1,x,wr,l,h,⟨n,s⟩=>by
  rw[cV,B]at h;obtain⟨b,a⟩:=h;have c:=Rn wr l;rw[rQ,tK];split
  .omega
  refine bB (ac3 _ _) ?_;split
  .rw[aP];have:=Lib.itoa_length_le x.n n.1 n.2;omega
  split
  .rename_i hk;rw[aP];have:=jf (lw b (.inl hk));omega
  split
  .rename_i hk;rw[aP,aP,aP];have:=jf (lw b (.inr hk));simp;omega
  split
  .rename_i hk;obtain⟨y,h,_⟩:=wW b hk;rw[h]at a s⊢;dsimp only;simp[lu,dY,yy]at a⊢;have:=vC d (YR (P y<6)) (opn wr l++eX x.op.toNat) a (s y X);rw[aP]at this;have:=mY x.op.toNat;omega
  rename_i k f k3 g;obtain⟨hk,y,z,h,_⟩:=rR b k f k3 g;rw[h]at a s⊢;dsimp only;simp only[lu,dY,yy,B]at a⊢;have i:=vC d (YR (P y<P x)) (opn wr l) a.1 (s y X);have e:=vC d (YR (P z<=P x)) (rQ d y (YR (P y<P x)) (opn wr l)++([32]++eX x.op.toNat++[32])) a.2 (s z X);rw[aP,aP,aP]at e;have:=mY x.op.toNat;simp only[aZ,bE]at e;omega
end
structure Pz (d:Nat) (F G:A) (k0 b:Nat) (sub sn:Sl) (subs:List Ex) (w:aw) (sl:Sl) (l:C):Prop where
 pg:Pg G w b sl sn l
 tb:Tb w
 own:k0≠b/\sl.a≠aN ⟨k0,0,Pw⟩/\k0<w.heap.size
 sb:aB (xS d) 6 w F sub subs
 hF:∀k,F k->k<b
 hT:1<b
section
variable {d:Nat} {F G:A} {k0 b:Nat} {sx sn sl sl':Sl} {subs:L Ex} {w w' wo:aw} {l l':C}
def Pg.out(h:Pg G w b sl sn l){k}(hk:k<b):¬(k=b∨sl.a=aN ⟨k,0,Pw⟩):=by
 rintro(e | e)
 .omega
 have:=(h.buf.lt e).1;omega
def Pz.only(h:Pz d F G k0 b sx sn subs w sl l)(O:az [] w w'):Pz d F G k0 b sx sn subs w' sl l:=by
 have z:=O.size;exact⟨h.pg.only O,h.tb.only O,⟨h.own.1,h.own.2.1,by have:=h.own.2.2;omega⟩,Wg (kb d) Z h.sb O X,h.hF,h.hT⟩
def Pz.mv(h:Pz d F G k0 b sx sn subs w sl l)(p:Pg G w' b sl' sn l')(m:kq b sl w sl' w'):Pz d F G k0 b sx sn subs w' sl' l'/\cj [k0] w w'/\bX (λk=>k<b∨k=k0) w w':=by
 have z:=m.1.size;obtain⟨o,a,c⟩:=h.own;refine⟨⟨p,h.tb.keep λW=>m.1.block _ W (h.pg.out h.hT),⟨o,λe=>?_,J⟩,U6 (kb d) Z h.sb m.1 λk hk _=>h.pg.out (h.hF k hk),h.hF,h.hT⟩,m.same o a c,λk hk W=>m.1.block k W ?_⟩
 .rcases m.2 k0 e with e | e
  .exact a e
  omega
 rcases hk with hk | rfl
 .exact h.pg.out hk
 rintro(e | e)
 .exact o e
 exact a e
def kq.after(h:kq b sl w' sl' wo)(O:az [] w w'):kq b sl w sl' wo:=(UW O).trans h
def Pz.same(h:Pz d F G k0 b sx sn subs w sl l)(O:az [] w w'):cj [k0] w w':=O.same (by have:=h.own.2.2;simp;omega)
def Pz.sig(h:Pz d F G k0 b sx sn subs w sl l){op}(f:0<=op)(m:op<16):∃ad,cK sn op 1 ad/\aD w ad [ab (T (eX op.toNat))]:=by
 have n:=h.pg.sig.len;have o:qj ze=16:=I;obtain⟨ad,x,s,g,a,j,k,c,e⟩:=h.pg.sig.get f J;subst e;have i:eX op.toNat=x:=by unfold eX;rw[a];rfl
 subst i;exact⟨ad,g,c⟩
def Pz.sub(h:Pz d F G k0 b sx sn subs w sl l){i:Nat}{y}(c:subs[i]? =aN y):∃ad s,cK sx i 6 ad/\ad.block<b/\aD w ad (oM y.k y.n y.s y.op s y.a)/\xS d w F y (oM y.k y.n y.s y.op s y.a):=by
 have n:=h.sb.len;have W:=(bc.1 c).1;obtain⟨ad,x,k,e,g,f,m,j,a⟩:=h.sb.get (be i) J;rw[ba,c]at g;injection g with g;subst g;obtain⟨s,rfl⟩:=mG a;exact⟨ad,s,e,h.hF _ f,j,a⟩
end
abbrev PgC(d:Nat):Prop:=∀{G F:A} {w:aw} {b:Nat} {sl sn:Sl} {l:C} {x:Ex} {c:aJ} wr,cV d x=aF->mo d x->xS d w F x c->(∀k,F k->k<b)->Tb w->1<b->Pg G w b sl sn l->qj l+40*tK d x<=70368744177664->
 aA aq 305 #[ae (aN ⟨b,0,Pw⟩),ah c.toArray,aj wr] w λe a=>∃sl',e=ak (ai #[])/\Pg G a b sl' sn (rQ d x wr l)/\kq b sl w sl' a
def SR s:ao #[105,110,40]++T s++ao #[41]=T ([105,110,40]++s++[41]):=by
 rw[show ao #[105,110,40]=T [105,110,40]from rfl,show ao #[41]=T [41]from rfl,fz,fz]
def Zd s:ao #[32]++T s++ao #[32]=T ([32]++s++[32]):=by
 rw[show ao #[32]=T [32]from rfl,fz,fz]
def Ov c s:(c++T s).size=c.size+qj s:=by
 rw[show c=T c.data.toList from K4 c,fz,cJ,cJ,aP]
def nG.mono{P}{f}{a}{w}{Q Q'}(h:nG P f a w Q)(q:∀v b,Q v b->Q' v b):nG P f a w Q':=λc s k=>by
 obtain⟨e,u,b,fr,⟨d,v,g,i⟩,j⟩:=h c s k;exact⟨e,u,b,fr,⟨d,v,g,q _ _ i⟩,j⟩
def zf:∀d,PgC d
 | 0,_,_,_,_,_,_,_,_,_,_,_,_,h,_,_,_,_,_=>h.elim
 | d+1,j,F,p,b,sl,G,l,x,N,wr,A,⟨n,E⟩,⟨f,H,r⟩,m,L,h,hP,D=>by
  subst H;refine(avH ⟨b,0,Pw⟩ x.k x.n (T x.s) x.op f x.a wr (λv w=>∃sl',v=ai #[]/\Pg j w b sl' G (rQ (d+1) x wr l)/\kq b sl p sl' w) p ?_).mono (by
   rintro e w ⟨v,rfl,s,rfl,b⟩;exact⟨s,I,b⟩)
  have W:xS (d+1) p F x (oM x.k x.n x.s x.op f x.a):=⟨f,I,r⟩
  rw[cV,B]at A;obtain⟨a,ha⟩:=A;rw[tK]at D;intro g M Q S o;have V:=hP.lb;have c:Pz d F j g b f G x.dK M sl l:=⟨hP.only o,L.only o,⟨J,λe=>ZA,S⟩,Wg (kb d) Z r o X,m,h⟩
  refine(ahZ c.pg).mono ?_;rintro _ t ⟨rfl,rfl⟩;refine⟨_,I,λ_ _=>I,λhc=>⟨sl,I,?_,(UW o)⟩,λhc=>?_⟩
  .rw[rQ,K Zm];exact c.pg
  have hc:¬16384<qj l:=Xt
  have T:rQ (d+1) x wr l=clo wr (
  if x.k=1 then opn wr l++Lib.itoa x.n
  else if x.k=2 then opn wr l++x.s
  else if x.k=3 then opn wr l++([105,110,40]++x.s++[41])
  else if x.k=4 then(match x.dK with
   | [y]=>rQ d y (YR (P y<6)) (opn wr l++eX x.op.toNat)
   | _=>l)
  else(match x.dK with
   | [y,z]=>rQ d z (YR (P z<=P x)) (rQ d y (YR (P y<P x)) (opn wr l)++([32]++eX x.op.toNat++[32]))
   | _=>l)):=by rw[rQ,R hc]
  have s:=Rn wr l;refine⟨λe=>(ac1 c.pg 40 J).mono ?_,λe=>?_⟩
  .rintro _ w2 ⟨Vn,rfl,aS,rD⟩;obtain⟨HW,Oc,_⟩:=c.mv aS rD;have aC:l++[40]=opn wr l:=by unfold opn;rw[K e]
   rw[aC]at HW;refine⟨⟨.nilIface,I⟩,I,Oc,?_⟩;have Y:∀{KI:Sl} {w5:aw} {am:C},Pz d F j g b f G x.dK w5 KI am->kq b Vn w2 KI w5->rQ (d+1) x wr l=clo wr am->qj am<=qj l+40*(1+yy (tK d) x.dK)->nG aq 327 #[ae (aN ((⟨b,0,Pw⟩:Addr).add 0)),.int .u8 41] w5 λ_ w=>∃sl',(Value.tuple #[])=ai #[]/\Pg j w b sl' G (rQ (d+1) x wr l)/\kq b sl p sl' w:=by
    intro KI w5 am i d q y;have hd:=ac2 i.pg 41 J;refine nG.mono hd ?_;rintro v w ⟨sl',x,b,k⟩;refine⟨sl',I,?_,((rD.after o).trans d).trans k⟩;rw[q];unfold clo;rw[K e];exact b
   refine⟨λhk w3 cZ=>?_,λk1=>⟨λhk w7 gq=>?_,λk2=>⟨λhk=>⟨?_,?_,λdq dN=>?_⟩,λk3=>⟨λhk eY dE=>?_,λk4=>(tt (show xS (d+1) _ F x (oM x.k x.n x.s x.op f x.a)from⟨f,I,HW.sb⟩)).mono ?_⟩⟩⟩⟩
   .have hk:x.k=1:=WH
    have z:=HW.only cZ;refine(Dp x.n n z.tb).mono ?_;rintro _ w4 ⟨rfl,d⟩;have b:=z.only d;have y:=Lib.itoa_length_le x.n n.1 n.2;refine⟨_,I,z.same d,(tL b.pg (Lib.itoa x.n) J).mono ?_⟩;rintro _ w5 ⟨KI,rfl,i,k⟩;obtain⟨q,v,_⟩:=b.mv i k;exact⟨_,⟨.nilIface,I⟩,I,v,Y q ((k.after d).after cZ) (by rw[T,K hk]) Px⟩
   .have hk:x.k=2:=WH
    have k1:x.k≠1:=J
    have z:=HW.only gq;have q:=jf (lw a (.inl hk));refine(tL z.pg x.s J).mono ?_;rintro _ v ⟨KI,rfl,b,d⟩;obtain⟨i,k,_⟩:=z.mv b d;exact⟨_,⟨.nilIface,I⟩,I,k,Y i (d.after gq) (by rw[T,R k1,K hk]) Px⟩
   .have hk:x.k=3:=WH
    have b:=jf (lw a (.inr hk));rw[cJ];omega
   .have hk:x.k=3:=WH
    have b:=jf (lw a (.inr hk));rw[Ov];have:(ao #[105,110,40]).size=3:=I;omega
   .have hk:x.k=3:=WH
    have y:=jf (lw a (.inr hk));have q:=HW.only dN;have z:qj ([105,110,40]++x.s++[41]:C)=qj x.s+4:=by
     rw[aP,aP];simp only[aZ,bE];omega
    rw[SR];refine(tL q.pg _ J).mono ?_;rintro _ v ⟨KI,rfl,b,d⟩;obtain⟨i,k,_⟩:=q.mv b d;exact⟨_,⟨.nilIface,I⟩,I,k,Y i (d.after dN) (by rw[T,R J,R J,K hk]) Px⟩
   .have hk:x.k=4:=WH
    obtain⟨y,hy,rz⟩:=wW a hk;have el:yy (tK d) x.dK=tK d y:=Zh
    have aT:cV d y=aF:=I8
    have GH:mo d y:=E y TW;have dO:=mY x.op.toNat;have Kg:=HW.only dE;obtain⟨q,hq,hB⟩:=Kg.pg.blk;obtain⟨ad,g1,g2⟩:=Kg.sig (op:=x.op) J J;refine⟨G,Om hB 2 I,ad,g1,_,g2,(tL Kg.pg (eX x.op.toNat) J).mono ?_⟩;rintro _ fV ⟨Vq,rfl,bv,v⟩;obtain⟨bV,bY,_⟩:=Kg.mv bv v;refine⟨_,⟨.nilIface,I⟩,I,bY,λfT ir=>?_⟩;have Qk:=bV.only ir;obtain⟨p1,sy,e1,e2,e3,e4⟩:=Qk.sub (i:=0) (y:=y) H8;refine⟨λk=>k<b∨k=g,.inr I,p1,e1,.inl e2,_,_,_,_,_,_,e3,p1,e1,_,_,_,_,_,_,e3,(tt e4).mono ?_⟩;rintro _ iE ⟨rfl,iH⟩;have Ql:=Qk.only iH;have KJ:=vC d (YR (P y<6)) (opn wr l++eX x.op.toNat) aT GH;rw[aP]at KJ;refine⟨_,I,Qk.same iH,Uy iH,(zf d (YR (P y<6)) aT GH (iz e4 iH) m Ql.tb h Ql.pg Px).mono ?_⟩;rintro _ gL ⟨eQ,rfl,cc,z⟩;obtain⟨ce,co,cC⟩:=Ql.mv cc z;exact⟨I,co,cC,Y ce ((v.after dE).trans ((z.after iH).after ir)) (by rw[T,R J,R J,R J,K hk,hy]) J⟩
   rintro _ kf ⟨rfl,ku⟩;have k1:x.k≠1:=Wf
   have k2:x.k≠2:=Rv
   have k3:x.k≠3:=Y2
   have k4:x.k≠4:=WQ
   obtain⟨hk,y,z,hy,nO,P0⟩:=rR a k1 k2 k3 k4;have lE:yy (tK d) x.dK=tK d y+tK d z:=Zh
   have Ca:cV d y=aF/\cV d z=aF:=I8
   have GH:mo d y:=E y TW;have V5:mo d z:=E z TW;have iS:=mY x.op.toNat;have gG:=HW.only ku;refine⟨_,I,HW.same ku,λj8 lc=>?_⟩;have Qm:=gG.only lc;obtain⟨p1,sy,e1,e2,e3,e4⟩:=Qm.sub (i:=0) (y:=y) H8;refine⟨λk=>k<b∨k=g,.inr I,p1,e1,.inl e2,_,_,_,_,_,_,e3,p1,e1,_,_,_,_,_,_,e3,(tt e4).mono ?_⟩;rintro _ mB ⟨rfl,jq⟩;have Qn:=Qm.only jq;have KJ:=vC d (YR (P y<P x)) (opn wr l) Ca.1 GH;refine⟨_,I,Qm.same jq,Uy jq,(zf d (YR (P y<P x)) Ca.1 GH (iz e4 jq) m Qn.tb h Qn.pg J).mono ?_⟩;rintro _ oH ⟨lT,rfl,gO,v⟩;obtain⟨gT,g8,g9⟩:=Qn.mv gO v;refine⟨I,g8,g9,λsM uR=>?_⟩;have Kh:=gT.only uR;obtain⟨q,hq,hB⟩:=Kh.pg.blk;obtain⟨ad,g1,g2⟩:=Kh.sig (op:=x.op) J J;have xA:qj ([32]++eX x.op.toNat++[32]:C)=qj (eX x.op.toNat)+2:=by
    rw[aP,aP];simp only[aZ,bE];omega
   have zA:(ao #[32]).size=1:=I;refine⟨G,Om hB 2 I,ad,g1,_,g2,Yv,by rw[Ov];omega,?_⟩;rw[Zd];refine(tL Kh.pg _ J).mono ?_;rintro _ qK ⟨mt,rfl,ip,fd⟩;obtain⟨iD,iF,_⟩:=Kh.mv ip fd;refine⟨_,⟨.nilIface,I⟩,I,iF,λpI sU=>?_⟩;have Qo:=iD.only sU;obtain⟨p2,sz,f1,f2,f3,f4⟩:=Qo.sub (i:=1) (y:=z) H8;refine⟨λk=>k<b∨k=g,.inr I,p2,f1,.inl f2,_,_,_,_,_,_,f3,p2,f1,_,_,_,_,_,_,f3,(tt f4).mono ?_⟩;rintro _ ry ⟨rfl,ld⟩;have Qp:=Qo.only ld;have iN:=vC d (YR (P z<=P x)) (rQ d y (YR (P y<P x)) (opn wr l)++([32]++eX x.op.toNat++[32])) Ca.2 V5;rw[aP,xA]at iN;refine⟨_,I,Qo.same ld,Uy ld,(zf d (YR (P z<=P x)) Ca.2 V5 (iz f4 ld) m Qp.tb h Qp.pg (by rw[aP,xA];omega)).mono ?_⟩;rintro _ uZ ⟨mK,rfl,f6,f5⟩;obtain⟨f7,f8,gE⟩:=Qp.mv f6 f5;exact⟨I,f8,gE,Y f7 (((v.after jq).after lc).after ku |>.trans ((fd.after uR).trans ((f5.after ld).after sU))) (by rw[T,R k1,R k2,R k3,R k4,hy]) J⟩
  have oN:l=opn wr l:=by unfold opn;rw[e];rfl
  have Y:Pz d F j g b f G x.dK t sl (opn wr l):=by rw[<-oN];exact c
  have v:∀{KI:Sl} {w5:aw} {oF:C},Pz d F j g b f G x.dK w5 KI oF->kq b sl t KI w5->rQ (d+1) x wr l=clo wr oF->qj oF<=qj l+40*(1+yy (tK d) x.dK)->∃sl',(Value.tuple #[])=ai #[]/\Pg j w5 b sl' G (rQ (d+1) x wr l)/\kq b sl p sl' w5:=by
   intro KI w5 oF d b i y;refine⟨KI,I,?_,b.after o⟩;rw[i];unfold clo;rw[e];exact d.pg
  refine⟨λhk w3 cZ=>?_,λk1=>⟨λhk w7 gq=>?_,λk2=>⟨λhk=>⟨?_,?_,λdq dN=>?_⟩,λk3=>⟨λhk eY dE=>?_,λk4=>(tt (show xS (d+1) _ F x (oM x.k x.n x.s x.op f x.a)from⟨f,I,Y.sb⟩)).mono ?_⟩⟩⟩⟩
  .have hk:x.k=1:=WH
   have z:=Y.only cZ;refine(Dp x.n n z.tb).mono ?_;rintro _ w4 ⟨rfl,d⟩;have b:=z.only d;have hl:=Lib.itoa_length_le x.n n.1 n.2;refine⟨_,I,z.same d,(tL b.pg (Lib.itoa x.n) J).mono ?_⟩;rintro _ w5 ⟨KI,rfl,i,k⟩;obtain⟨q,y,_⟩:=b.mv i k;exact⟨_,⟨.nilIface,I⟩,I,y,v q ((k.after d).after cZ) (by rw[T,K hk]) Px⟩
  .have hk:x.k=2:=WH
   have k1:x.k≠1:=J
   have z:=Y.only gq;have q:=jf (lw a (.inl hk));refine(tL z.pg x.s J).mono ?_;rintro _ y ⟨KI,rfl,b,d⟩;obtain⟨i,k,_⟩:=z.mv b d;exact⟨_,⟨.nilIface,I⟩,I,k,v i (d.after gq) (by rw[T,R k1,K hk]) Px⟩
  .have hk:x.k=3:=WH
   have b:=jf (lw a (.inr hk));rw[cJ];omega
  .have hk:x.k=3:=WH
   have b:=jf (lw a (.inr hk));rw[Ov];have:(ao #[105,110,40]).size=3:=I;omega
  .have hk:x.k=3:=WH
   have z:=jf (lw a (.inr hk));have q:=Y.only dN;have xA:qj ([105,110,40]++x.s++[41]:C)=qj x.s+4:=by
    rw[aP,aP];simp only[aZ,bE];omega
   rw[SR];refine(tL q.pg _ J).mono ?_;rintro _ y ⟨KI,rfl,b,d⟩;obtain⟨i,k,_⟩:=q.mv b d;exact⟨_,⟨.nilIface,I⟩,I,k,v i (d.after dN) (by rw[T,R J,R J,K hk]) Px⟩
  .have hk:x.k=4:=WH
   obtain⟨y,hy,rz⟩:=wW a hk;have As:yy (tK d) x.dK=tK d y:=Zh
   have pi:cV d y=aF:=I8
   have GH:mo d y:=E y TW;have wd:=mY x.op.toNat;have Kg:=Y.only dE;obtain⟨q,hq,hB⟩:=Kg.pg.blk;obtain⟨ad,g1,g2⟩:=Kg.sig (op:=x.op) J J;refine⟨G,Om hB 2 I,ad,g1,_,g2,(tL Kg.pg (eX x.op.toNat) J).mono ?_⟩;rintro _ fV ⟨Vq,rfl,pm,z⟩;obtain⟨pP,rg,_⟩:=Kg.mv pm z;refine⟨_,⟨.nilIface,I⟩,I,rg,λfT ir=>?_⟩;have Qk:=pP.only ir;obtain⟨p1,sy,e1,e2,e3,e4⟩:=Qk.sub (i:=0) (y:=y) H8;refine⟨λk=>k<b∨k=g,.inr I,p1,e1,.inl e2,_,_,_,_,_,_,e3,p1,e1,_,_,_,_,_,_,e3,(tt e4).mono ?_⟩;rintro _ iE ⟨rfl,iH⟩;have Ql:=Qk.only iH;have KJ:=vC d (YR (P y<6)) (opn wr l++eX x.op.toNat) pi GH;rw[aP]at KJ;refine⟨_,I,Qk.same iH,Uy iH,(zf d (YR (P y<6)) pi GH (iz e4 iH) m Ql.tb h Ql.pg Px).mono ?_⟩;rintro _ gL ⟨AC,rfl,rx,oR⟩;obtain⟨tO,ut,uP⟩:=Ql.mv rx oR;exact⟨I,ut,uP,v tO ((z.after dE).trans ((oR.after iH).after ir)) (by rw[T,R J,R J,R J,K hk,hy]) J⟩
  rintro _ kf ⟨rfl,ku⟩;have k1:x.k≠1:=Wf
  have k2:x.k≠2:=Rv
  have k3:x.k≠3:=Y2
  have k4:x.k≠4:=WQ
  obtain⟨hk,y,z,hy,H1,P0⟩:=rR a k1 k2 k3 k4;have GE:yy (tK d) x.dK=tK d y+tK d z:=Zh
  have Ca:cV d y=aF/\cV d z=aF:=I8
  have GH:mo d y:=E y TW;have V5:mo d z:=E z TW;have Gt:=mY x.op.toNat;have CC:=Y.only ku;refine⟨_,I,Y.same ku,λj8 lc=>?_⟩;have Qm:=CC.only lc;obtain⟨p1,sy,e1,e2,e3,e4⟩:=Qm.sub (i:=0) (y:=y) H8;refine⟨λk=>k<b∨k=g,.inr I,p1,e1,.inl e2,_,_,_,_,_,_,e3,p1,e1,_,_,_,_,_,_,e3,(tt e4).mono ?_⟩;rintro _ mB ⟨rfl,jq⟩;have Qn:=Qm.only jq;have KJ:=vC d (YR (P y<P x)) (opn wr l) Ca.1 GH;refine⟨_,I,Qm.same jq,Uy jq,(zf d (YR (P y<P x)) Ca.1 GH (iz e4 jq) m Qn.tb h Qn.pg J).mono ?_⟩;rintro _ oH ⟨GG,rfl,Do,AS⟩;obtain⟨DO,EQ,Fd⟩:=Qn.mv Do AS;refine⟨I,EQ,Fd,λsM uR=>?_⟩;have Kh:=DO.only uR;obtain⟨q,hq,hB⟩:=Kh.pg.blk;obtain⟨ad,g1,g2⟩:=Kh.sig (op:=x.op) J J;have xA:qj ([32]++eX x.op.toNat++[32]:C)=qj (eX x.op.toNat)+2:=by
   rw[aP,aP];simp only[aZ,bE];omega
  have zA:(ao #[32]).size=1:=I;refine⟨G,Om hB 2 I,ad,g1,_,g2,Yv,by rw[Ov];omega,?_⟩;rw[Zd];refine(tL Kh.pg _ J).mono ?_;rintro _ qK ⟨GO,rfl,Fn,AT⟩;obtain⟨FS,Ge,_⟩:=Kh.mv Fn AT;refine⟨_,⟨.nilIface,I⟩,I,Ge,λpI sU=>?_⟩;have Qo:=FS.only sU;obtain⟨p2,sz,f1,f2,f3,f4⟩:=Qo.sub (i:=1) (y:=z) H8;refine⟨λk=>k<b∨k=g,.inr I,p2,f1,.inl f2,_,_,_,_,_,_,f3,p2,f1,_,_,_,_,_,_,f3,(tt f4).mono ?_⟩;rintro _ ry ⟨rfl,ld⟩;have Qp:=Qo.only ld;have Gg:=vC d (YR (P z<=P x)) (rQ d y (YR (P y<P x)) (opn wr l)++([32]++eX x.op.toNat++[32])) Ca.2 V5;rw[aP,xA]at Gg;refine⟨_,I,Qo.same ld,Uy ld,(zf d (YR (P z<=P x)) Ca.2 V5 (iz f4 ld) m Qp.tb h Qp.pg (by rw[aP,xA];omega)).mono ?_⟩;rintro _ uZ ⟨GT,rfl,By,Bv⟩;obtain⟨BV,BY,Cc⟩:=Qp.mv By Bv;exact⟨I,BY,Cc,v BV (((AS.after jq).after lc).after ku |>.trans ((AT.after uR).trans ((Bv.after ld).after sU))) (by rw[T,R k1,R k2,R k3,R k4,hy]) J⟩
def ql(d:Nat)(x:Ex):C:=if cV d x=aF then(if(iV (rQ d x aM [])).2.1≠0 then[]else rQ d x aM [])else[]
def ah0{d:Nat}{w:aw}{F:A}{x:Ex}{s:aJ}(h:xS d w F x s)(l:yM d x)(n:mo d x)(E:Er w)(a:Tb w)(m:40*tK d x<=70368744177664):
  aA aq 282 #[ah s.toArray] w λe f=>e=ak (ab (T (ql d x)))/\az [] w f:=by
 obtain⟨t,rfl⟩:=mG h;refine ret (avz ?_);intro o p N g c;have i:=(kb d).inHeap h;refine(aa8 d l (iz h c)).mono ?_;rintro _ b ⟨rfl,r⟩;have z:=c.size;have u:=r.size;have j:=c.bU r;refine⟨_,I,r.same S,λhs=>?_,λhs=>(afG b).mono ?_⟩
 .have hs:cV d x=aM:=S2
  rw[ql,R H9];exact⟨I,j⟩
 have hs:cV d x=aF:=S2
 rw[ql,K hs];rintro _ w2 ⟨C,rfl,Vb,P⟩;have z2:=P.size;refine⟨C,I,P.same S,λk1 W lm jP H wv=>?_⟩;have z3:=H.size;have O:az [] w W:=(j.bU P).bU H;have TF:Pg (λk=>b.heap.size<=k/\k<w2.heap.size) W k1 Sl.nil C []:=⟨⟨Pw,.inl I,wv⟩,.inl ⟨I,I⟩,Wg dG Z Vb H X,λk hk=>LH⟩
 have T:=a.only O;have yU:=a.lt;refine(zf d aM hs n (iz i O) (λk hk=>LH) T J TF PF).mono ?_;rintro _ Y ⟨v,rfl,B,y⟩;have z4:=y.1.size;have dQ:az [] w Y:=(O.nP y.1).only λk hk=>by
  rcases hk with rfl | e
  .omega
  cases e
 obtain⟨q,hq,U⟩:=B.blk;refine⟨I,y.same J (λe=>U4) J,q,v,C,U,(ab6 B.pt).mono ?_⟩;rintro _ w5 ⟨rfl,M,G⟩;have z5:=G.size;have wq:=G.blk U J;have Q:az [] w w5:=(dQ.nP G).only λk hk=>Wi
 refine⟨_,I,G.same S,q,v,C,wq,(ahX _ (E.only Q)).mono ?_⟩;rintro _ w6 ⟨s,rfl,hX,V⟩;have z6:=V.size;obtain⟨xl,rfl,_⟩:=hX.cells;have Qi:=V.blk wq X;have D:=Q.bU V;refine⟨_,_,_,_,_,_,_,_,I,V.same S,q,v,C,Qi,λhr k2 k3 w7 _ _ _ _ gq _=>?_,λhr k4 k5 w8 wx C5 sP FU L yW=>?_⟩
 .rw[K RD];exact⟨I,D.bU gq⟩
 have z8:=L.size;refine(ab6 ((M.only V).only L)).mono ?_;rintro _ w9 ⟨rfl,x,d⟩;rw[R RD];have e:∀k,v.a=aN ⟨k,0,Pw⟩->k<Y.heap.size:=λk hk=>(B.buf.lt hk).2;refine⟨_,I,d.same λk hk=>?_,q,v,C,d.blk yW J,I,((D.bU L).nP d).only λk hk=>Wi⟩;simp only[bh,bI,cO]at hk;rcases hk with rfl | rfl | rfl
 .exact⟨J,λk=>by have:=k.1;omega⟩
 .exact⟨C5,λk=>by have:=e _ k.2;omega⟩
 exact⟨FU,λk=>by have:=e _ k.2;omega⟩
def ac4{t:L Tk}{i:Nat}{e:Int×Int}(h:F1 t i=.error e):e.1≠0:=by
 unfold F1 at h;split at h
 .split at h
  .split at h
   .cases h
   injection h with h;subst h;exact gQ
  injection h with h;subst h;exact gQ
 injection h with h;subst h;exact gQ
def abV{r:Pr}{g:Ex->Nat->Pr}{e:Int×Int}(h:Gl r g=.error e):r=.error e∨∃x j,r=.ok (x,j)/\g x j=.error e:=by
 cases r with
 | error e=>exact .inl h
 | ok p=>exact .inr ⟨p.1,p.2,I,h⟩
def G7{d:Nat}{a:Int}{r:Pr}{e:Int×Int}(h:kl d a r=.error e):r=.error e∨e.1=21:=by
 unfold kl at h;split at h
 .injection h with h;subst h;exact .inr I
 exact .inl h
def G8{t:L Tk}{E:Nat->Pr}{k:Int}{e:Int×Int}(a:∀i,E i=.error e->e.1≠0):∀(g:Nat) (x:Ex) (j:Nat),jW t E k g x j=.error e->e.1≠0
 | 0,x,j,h=>Ue
 | g+1,x,j,h=>by
  rw[jW]at h;split at h
  .cases h
  rcases abV h with b | ⟨y,m,b,c⟩
  .exact a _ b
  exact G8 a g _ _ c
def pw{t:L Tk}{e:Int×Int}:∀(f k d i:Nat),dy t f k d i=.error e->e.1≠0
 | 0,k,d,i,h=>by
  rw[dy]at h;injection h with h;subst h;decide
 | f+1,k,d,i,h=>by
  rw[dy]at h;split at h
  .unfold rh at h;split at h
   .generalize n:kl d (tk t i).a (dy t f 6 (d+1) (i+1))=r at h;cases r with
    | ok q=>cases h
    | error e=>
     simp only[LR]at h;injection h with h;subst h;rcases G7 n with a | a
     .exact pw f _ _ _ a
     rw[a];decide
   split at h
   .rcases G7 h with a | a
    .cases r:dy t f 0 (d+1) (i+1)with
     | error e=>
      rw[r]at a;simp only[wi]at a;injection a with a;subst a;exact pw f _ _ _ r
     | ok q=>
      rw[r]at a;simp only[wi]at a;split at a
      .cases a
      injection a with a;subst a;exact gQ
    rw[a];decide
   split at h
   .cases h
   split at h
   .cases h
   split at h
   .exact ac4 h
   injection h with h;subst h;exact gQ
  rcases abV h with a | ⟨y,m,a,b⟩
  .exact pw f _ _ _ a
  exact G8 (λi c=>pw f _ _ _ c) _ _ _ b
structure Ac where
 k:Int
 n:C
 x:Ex
 a:Int
structure Mv where
 k:Int
 ev:C
 wt:Int
 gd:Bool
 g:Ex
 acts:List Ac
 tg:List (C)
 a:Int
structure Nb where
 k:Int
 nm:C
 ini:C
 dft:C
 en:List Ac
 lv:List Ac
 mv:List Mv
 a:Int
inductive Nd where
 | mk (b:Nb) (kids:List Nd)
def Nd.b:Nd->Nb | .mk b _=>b
def Nd.kids:Nd->L Nd | .mk _ l=>l
structure Vr where
 n:C
 v:Int
 a:Int
structure Ch where
 vars:List Vr
 root:Nd
def WL:Nb:=⟨0,[],[],[],[],[],[],0⟩
def Ui:Nd:=.mk WL []
def WX:Ch:=⟨[],Ui⟩
def ac0:Ac:=⟨0,[],zI,0⟩
def tkZ:Tk:=⟨0,[],0,0⟩
structure Sx where
 i:Nat
 fc:Int
 fa:Int
 v:Int
 n:Int
 d:Int
 m:Int
 a:Int
section
variable (ts:L Tk)
def jX(s:Sx)(c:Int):Sx:=if s.fc=0 then{s with fc:=c,fa:=(tk ts s.i).a}else s
def lP(s:Sx):Sx:=if(tk ts s.i).k=5 then jX ts (jX ts s 3) 4 else jX ts s 4
def zJ(c:C):L (C)->Nat
 | []=>0
 | x::l=>if c=x then 0 else zJ c l+1
def cX(s:Sx)(l:L (C)):Nat:=
 if s.fc≠0∨((tk ts s.i).k≠2/\(tk ts s.i).k≠4)then 0 else if zJ (tk ts s.i).t l<qj l then zJ (tk ts s.i).t l+1 else 0
def ez(s:Sx):Sx:={s with i:=s.i+1}
def fA(s:Sx)(x:C):Sx:=if cX ts s [x]=0 then lP ts s else ez s
def io(s:Sx)(k:Int):Tk×Sx:=if s.fc≠0∨(tk ts s.i).k≠k then(tkZ,lP ts s)else(tk ts s.i,ez s)
def li(s:Sx):C×Sx:=((io ts s 1).1.t,(io ts s 1).2)
def rS(s:Sx):Ex×Sx:=
 if s.fc≠0 then(zI,s)
 else if(cN ts s.i).2.2.1≠0 then((cN ts s.i).1,{s with fc:=(cN ts s.i).2.2.1,fa:=(cN ts s.i).2.2.2})
 else((cN ts s.i).1,{s with i:=(cN ts s.i).2.1.toNat})
def Bw(x:Int):Int:=au U (x-1)
def XP(x:Int):Int:=au U (x+1)
def Bx(s:Sx):Sx:=if s.a=0 then{jX ts s 2 with a:=Bw s.a}else{s with a:=Bw s.a}
def vD(s:Sx):Sx:=if s.m=0 then{jX ts s 2 with m:=Bw s.m}else{s with m:=Bw s.m}
def Gm(s:Sx):Sx:=if s.n=0 then{jX ts s 2 with n:=Bw s.n}else{s with n:=Bw s.n}
def Gn(s:Sx):Sx:=if s.v=0 then{jX ts s 2 with v:=Bw s.v}else{s with v:=Bw s.v}
def tM:C:=[115,101,116]
def lQ:C:=[114,97,105,115,101]
def mZ:C:=[101,109,105,116]
def Ds:C:=[111,110]
def iW:C:=[97,108,119,97,121,115]
def jF:C:=[97,102,116,101,114]
def fM:C:=[105,110,105,116,105,97,108]
def jl:C:=[101,110,116,101,114]
def jm:C:=[108,101,97,118,101]
def EN:C:=[115,116,97,116,101]
def ur:C:=[112,97,114,97,108,108,101,108]
def wX:C:=[104,105,115,116,111,114,121]
def L3:C:=[100,101,101,112]
def fX:C:=[99,104,97,114,116]
def zg:C:=[118,97,114]
def O2(s:Sx)(k:Nat)(n:C)(a:Int):Ac×Sx:=
 if k=2 then(⟨k,n,zI,a⟩,fA ts s [59])
 else(⟨k,n,(rS ts (fA ts s [61])).1,a⟩,fA ts (rS ts (fA ts s [61])).2 [59])
def uu(s:Sx):Ac×Sx:=
 if cX ts s [tM,lQ,mZ]=0 then(⟨0,[],zI,(tk ts s.i).a⟩,lP ts s)
 else if(Bx ts s).fc≠0 then(⟨(cX ts s [tM,lQ,mZ]),[],zI,(tk ts s.i).a⟩,Bx ts s)
 else O2 ts (li ts (ez (Bx ts s))).2 (cX ts s [tM,lQ,mZ]) (li ts (ez (Bx ts s))).1 (tk ts s.i).a
def rT:Nat->L Ac->Sx->L Ac×Sx
 | 0,a,s=>(a,s)
 | f+1,a,s=>if s.fc≠0 then(a,s)else if cX ts s [[125]]≠0 then(a,ez s)else rT f (a++[(uu ts s).1]) (uu ts s).2
def lR(s:Sx):L Ac×Sx:=rT ts (qj ts+1) [] (fA ts s [123])
def uv:Nat->C->L (C)->Sx->L (C)×Sx
 | 0,_,a,s=>(a,s)
 | f+1,x,a,s=>if cX ts s [x]=0 then(a,s)else uv f [44] (a++[(li ts (ez s)).1]) (li ts (ez s)).2
def EO(m:Mv)(s:Sx):Mv×Sx:=
 ({m with tg:=(uv ts (qj ts+1) [45,62] [] s).1},fA ts (uv ts (qj ts+1) [45,62] [] s).2 [59])
def Ct(m:Mv)(s:Sx):Mv×Sx:=
 if cX ts s [[123]]=0 then EO ts m s else EO ts {m with acts:=(lR ts s).1} (lR ts s).2
def rU(m:Mv)(s:Sx):Mv×Sx:=
 if cX ts s [[91]]=0 then Ct ts m s else Ct ts {m with gd:=aF,g:=(rS ts (ez s)).1} (fA ts (rS ts (ez s)).2 [93])
def Xx(k a:Int):Mv:=⟨k,[],0,aM,zI,[],[],a⟩
def qS(k:Int)(s:Sx):Mv×Sx:=
 if(vD ts s).fc≠0 then(Xx k (tk ts s.i).a,vD ts s)
 else if k=1 then rU ts {Xx k (tk ts s.i).a with ev:=(li ts (ez (vD ts s))).1} (li ts (ez (vD ts s))).2
 else if k=3 then rU ts {Xx k (tk ts s.i).a with wt:=(io ts (ez (vD ts s)) 3).1.n} (io ts (ez (vD ts s)) 3).2
 else rU ts (Xx k (tk ts s.i).a) (ez (vD ts s))
structure V6 where
 i:Bool
 e:Bool
 l:Bool
def eK(n:Nb)(h:V6)(s:Sx):M×Nb×V6×Sx:=
 if cX ts s [Ds,iW,jF]≠0 then(aF,{n with mv:=n.mv++[(qS ts (cX ts s [Ds,iW,jF]) s).1]},h,(qS ts (cX ts s [Ds,iW,jF]) s).2)
 else match cX ts s [fM,jl,jm]with
  | 0=>(aM,n,h,s)
  | 1=>if h.i then(aM,n,h,lP ts s)else(aF,{n with ini:=(li ts (ez s)).1},{h with i:=aF},fA ts (li ts (ez s)).2 [59])
  | 2=>if h.e then(aM,n,h,lP ts s)else(aF,{n with en:=(lR ts (ez s)).1},{h with e:=aF},(lR ts (ez s)).2)
  | _=>if h.l then(aM,n,h,lP ts s)else(aF,{n with lv:=(lR ts (ez s)).1},{h with l:=aF},(lR ts (ez s)).2)
def iA:Nat->Nb->V6->Sx->Nb×Sx
 | 0,n,_,s=>(n,s)
 | f+1,n,h,s=>if s.fc≠0 then(n,s)
  else if(eK ts n h s).1 then iA f (eK ts n h s).2.1 (eK ts n h s).2.2.1 (eK ts n h s).2.2.2 else((eK ts n h s).2.1,(eK ts n h s).2.2.2)
def rV:L (C):=[EN,ur,wX,L3]
def vZ(N:Int->Sx->Nd×Sx):Nat->L Nd->Sx->L Nd×Sx
 | 0,a,s=>(a,s)
 | f+1,a,s=>if cX ts s rV=0 then(a,s)else vZ N f (a++[(N (cX ts s rV) (ez s)).1]) (N (cX ts s rV) (ez s)).2
def uw(N:Int->Sx->Nd×Sx)(n:Nb)(s:Sx):Nd×Sx:=
 let c:=iA ts (qj ts+1) n ⟨aM,aM,aM⟩ {s with d:=Bw s.d}
 let k:=vZ ts N (qj ts+1) [] c.2
 (.mk c.1 k.1,fA ts {k.2 with d:=XP k.2.d} [125])
def tu(s:Sx):Sx:=if(tk ts s.i).k=1 then(if(Gm ts s).d=0 then jX ts (Gm ts s) 21 else Gm ts s)else s
def fI(k:Int)(s:Sx):Nb×Sx:=({WL with k:=k,nm:=(io ts (tu ts s) 1).1.t,a:=(io ts (tu ts s) 1).1.a},(io ts (tu ts s) 1).2)
def mO:Nat->Int->Sx->Nd×Sx
 | 0,_,s=>(Ui,s)
 | f+1,k,s=>
  if 3<=k then(.mk {(fI ts k s).1 with dft:=(li ts (fA ts (fI ts k s).2 [45,62])).1} [],fA ts (li ts (fA ts (fI ts k s).2 [45,62])).2 [59])
  else uw ts (mO f) (fI ts k s).1 (fA ts (fI ts k s).2 [123])
def wY(s:Sx):Vr×Sx:=
 let b:=if(tk ts s.i).k=1 then Gn ts s else s
 let t:=io ts b 1
 let a:=fA ts t.2 [61]
 let g:=cX ts a [[45]]
 let q:=io ts (if g=0 then a else ez a) 3
 (⟨t.1.t,if g=0 then q.1.n else au U (-q.1.n),t.1.a⟩,fA ts q.2 [59])
def wZ:Nat->L Vr->Sx->L Vr×Sx
 | 0,a,s=>(a,s)
 | f+1,a,s=>if cX ts s [zg]=0 then(a,s)else wZ f (a++[(wY ts (ez s)).1]) (wY ts (ez s)).2
def yO:Sx:=⟨0,0,0,16,64,12,200,400⟩
def O3(s:Sx):Sx:=if s.fc=0/\(tk ts s.i).k≠5 then lP ts s else s
def xa:Ch×Sx:=
 let n:=fI ts 1 (fA ts yO fX)
 let v:=wZ ts (qj ts+1) [] (fA ts n.2 [123])
 let b:=uw ts (mO ts 14) n.1 v.2
 (⟨v.1,b.1⟩,O3 ts b.2)
end
def fp(l:C):Ch×Int×Int:=
 if(de l).2.1≠0 then(WX,(de l).2.1,(de l).2.2)
 else if(xa (de l).1).2.fc≠0 then(WX,(xa (de l).1).2.fc,(xa (de l).1).2.fa)
 else((xa (de l).1).1,0,0)
def mu(t:L Tk)(s:Sx):Nat:=if s.fc=0 then (qj t)-s.i else 0
structure On0 (ts:List Tk) (s s':Sx):Prop where
 lt:s.i<(qj ts)->s'.i<qj ts
 le:s'.fc=0->s.fc=0/\s.i<=s'.i
structure On (ts:List Tk) (s s':Sx):Prop extends On0 ts s s' where
 d:s'.d=s.d
section
variable {ts:L Tk} {s s' s'':Sx}
def On0.refl ts s:On0 ts s s:=⟨id,λh=>⟨h,H _⟩⟩
def On.refl ts s:On ts s s:=⟨On0.refl ts s,I⟩
def Wo:=@On.refl
def On0.trans(h:On0 ts s s')(k:On0 ts s' s''):On0 ts s s'':=⟨λx=>k.lt (h.lt x),λe=>by
 obtain⟨a,b⟩:=k.le e;obtain⟨c,d⟩:=h.le a;exact⟨c,bB d b⟩⟩
def On.trans(h:On ts s s')(k:On ts s' s''):On ts s s'':=⟨h.toOn0.trans k.toOn0,k.d.trans h.d⟩
def On0.mu(h:On0 ts s s'):mu ts s'<=mu ts s:=by
 unfold Con.mu;by_cases e:s'.fc=0
 .obtain⟨a,b⟩:=h.le e;rw[K e,K a];omega
 rw[R e];exact bf _
def tv c:On ts s (jX ts s c):=by
 unfold jX;by_cases e:s.fc=0
 .rw[K e];exact⟨⟨id,λ_=>⟨e,H _⟩⟩,I⟩
 rw[R e];exact Wo _ _
def aeS{c}(h:c≠0):(jX ts s c).fc≠0:=by
 unfold jX;by_cases e:s.fc=0
 .rw[K e];exact h
 rw[R e];exact e
def IX c:(jX ts s c).i=s.i:=by
 unfold jX;split<;>rfl
def ux:(lP ts s).fc≠0:=by
 unfold lP;split<;>exact aeS Z
def uy:On ts s (lP ts s):=by
 unfold lP;split
 .exact(tv 3).trans (tv 4)
 exact tv 4
def L4 l:cX ts s l<=qj l:=by
 unfold cX;split
 .exact bf _
 split<;>omega
def dZ{l}(h:cX ts s l≠0):s.fc=0/\(tk ts s.i).k≠5:=by
 unfold cX at h;split at h
 .exact absurd I h
 rename_i c;by_cases e:s.fc=0
 .refine⟨e,λa=>c (.inr ?_)⟩;rw[a];exact⟨Z,Z⟩
 exact absurd (.inl e) c
def oo(E:um ts)(a:s.fc=0)(hk:(tk ts s.i).k≠5):On ts s (ez s):=⟨⟨λh=>E.next h hk,λ_=>⟨a,kB _⟩⟩,I⟩
def jY(E:um ts) x:On ts s (fA ts s x):=by
 unfold fA;by_cases h:cX ts s [x]=0
 .rw[K h];exact uy
 rw[R h];exact oo E (dZ h).1 (dZ h).2
def Al(E:um ts){k}(hk:k≠5):On ts s (io ts s k).2:=by
 unfold io;by_cases h:s.fc≠0∨(tk ts s.i).k≠k
 .rw[K h];exact uy
 rw[R h];simp at h;exact oo E h.1 (by rw[h.2];exact hk)
def tw(h:um ts):On ts s (li ts s).2:=Al h Z
end
section
variable {ts:L Tk} (hE:um ts)
include hE
theorem ah2{i}{x}{j}(a:i<qj ts)(hk:(tk ts i).k≠5)(h:F1 ts i=.ok (x,j)):j<qj ts:=by
 unfold F1 at h;split at h
 .rename_i b;split at h
  .rename_i c;split at h
   .rename_i d;have l:=hE.next (hE.next (hE.next (hE.next a hk) (yx b)) (by rw[c];decide)) (yx d);simp at h;omega
   cases h
  cases h
 cases h
theorem ac5{E0 EV}{d i}{x}{j}(E:∀i x j,i<(qj ts)->E0 i=.ok (x,j)->j<qj ts)(O:∀i x j,i<(qj ts)->EV i=.ok (x,j)->j<qj ts)(a:i<qj ts)(h:rh ts E0 EV d i=.ok (x,j)):j<qj ts:=by
 unfold rh at h;split at h
 .rename_i s;obtain⟨y,b,_⟩:=Dl h;refine O _ _ _ (hE.next a ?_) (uo b).1;rcases cy _ _▸s with s | s<;>exact yx s
 split at h
 .rename_i s;obtain⟨d,b,c,rfl⟩:=Dm (uo h).1;exact hE.next (E _ _ _ (hE.next a (yx s)) b) (yx c)
 split at h
 .rename_i hk;simp at h;have:=hE.next a (by rw[hk];decide);omega
 split at h
 .rename_i hk;simp at h;have:=hE.next a (by rw[hk];decide);omega
 split at h
 .rename_i hk;exact ah2 hE a (by rw[hk.1];decide) h
 cases h
theorem L5{E}{k}(h:∀i x j,i<(qj ts)->E i=.ok (x,j)->j<qj ts):∀g x j {b:Ex} {a:Nat},j<(qj ts)->jW ts E k g x j=.ok (b,a)->a<qj ts
 | 0,x,j,b,a,d,c=>by
  simp[jW,fZ,im]at c;omega
 | g+1,x,j,b,a,d,c=>by
  rw[jW]at c;split at c
  .simp at c;omega
  rename_i o;obtain⟨y,m,e,f⟩:=Ah c;exact L5 h g _ _ (h _ _ _ (hE.next d (rC _ _ o)) e) f
theorem xb:∀f k d i {x:Ex} {j:Nat},i<(qj ts)->dy ts f k d i=.ok (x,j)->j<qj ts
 | 0,_,_,_,_,_,_,h=>Ue
 | f+1,k,d,i,x,j,a,h=>by
  rw[dy]at h;split at h
  .exact ac5 hE (λi x j a h=>xb f _ _ i a h) (λi x j a h=>xb f _ _ i a h) a h
  obtain⟨y,m,b,c⟩:=Ah h;exact L5 hE (λi x j a h=>xb f _ _ i a h) _ _ _ (xb f _ _ _ a b) c
theorem abF{i:Nat}(h:(cN ts i).2.2.1=0):∃j:Nat,(cN ts i).2.1=j/\i<j/\j<qj ts:=by
 unfold cN at h⊢;split at h
 .rename_i c;rw[K c];have b:i<qj ts:=by have:=c.2.1;omega
  rw[ba]at h⊢;unfold tJ at h⊢;cases a:dy ts _ 0 0 i with
  | error e=>
   rw[a]at h;exact absurd h (pw _ _ _ _ a)
  | ok q=>
   obtain⟨x,j⟩:=q;exact⟨j,I,ml _ _ _ _ a,xb hE _ _ _ _ b a⟩
 cases h
theorem tA{s s'}(h:s.fc=0)(i:s.i<qj ts)(hk:(tk ts s.i).k≠5)(a:On0 ts (ez s) s'):mu ts s'<mu ts s:=by
 have c:=a.mu;have e:mu ts s=(qj ts)-s.i:=by unfold mu;rw[K h]
 have b:mu ts (ez s)=(qj ts)-(s.i+1):=by unfold mu ez;rw[K h]
 omega
set_option linter.unusedSectionVars false in
theorem Bz {s s':Sx} (h0:s.fc=0) (hi:s.i<ts.length) (h:s'.fc≠0):mu ts s'<mu ts s:=by
 unfold mu;rw[aQ h,aW h0];omega
theorem aba s:On ts s (rS ts s).2:=by
 unfold rS;by_cases h:s.fc≠0
 .rw[K h];exact Wo _ _
 rw[R h];by_cases h1:(cN ts s.i).2.2.1≠0
 .rw[K h1];exact⟨⟨id,λa=>absurd a h1⟩,I⟩
 rw[R h1];obtain⟨j,e,l,b⟩:=abF hE (i:=s.i) Gb;rw[e,ba];exact⟨⟨λ_=>b,λa=>⟨a,Nat.le_of_lt l⟩⟩,I⟩
omit hE in
theorem IY (s:Sx):On ts s (Bx ts s):=by
 unfold Bx;split
 .have h:=tv (ts:=ts) (s:=s) 2;exact⟨⟨h.lt,h.le⟩,h.d⟩
 exact⟨⟨id,λh=>⟨h,H _⟩⟩,rfl⟩
omit hE in
theorem IZ (s:Sx):On ts s (vD ts s):=by
 unfold vD;split
 .have h:=tv (ts:=ts) (s:=s) 2;exact⟨⟨h.lt,h.le⟩,h.d⟩
 exact⟨⟨id,λh=>⟨h,H _⟩⟩,rfl⟩
omit hE in
theorem I0 (s:Sx):On ts s (Gm ts s):=by
 unfold Gm;split
 .have h:=tv (ts:=ts) (s:=s) 2;exact⟨⟨h.lt,h.le⟩,h.d⟩
 exact⟨⟨id,λh=>⟨h,H _⟩⟩,rfl⟩
omit hE in
theorem ac6 (s:Sx):On ts s (Gn ts s):=by
 unfold Gn;split
 .have h:=tv (ts:=ts) (s:=s) 2;exact⟨⟨h.lt,h.le⟩,h.d⟩
 exact⟨⟨id,λh=>⟨h,H _⟩⟩,rfl⟩
omit hE in
theorem I1 (s:Sx):(Bx ts s).i=s.i:=by
 unfold Bx;split
 .exact IX 2
 rfl
omit hE in
theorem I2 (s:Sx):(vD ts s).i=s.i:=by
 unfold vD;split
 .exact IX 2
 rfl
theorem ad2 s k n a:On ts s (O2 ts s k n a).2:=by
 unfold O2;split
 .exact jY hE _
 exact((jY hE _).trans (aba hE _)).trans (jY hE _)
theorem apJ s u (a:On ts s u) (i:u.i=s.i) (h:u.fc=0) (hk:(tk ts s.i).k≠5):On ts s (ez u):=a.trans (oo hE h (by rw[i];exact hk))
theorem ah3 s:On ts s (uu ts s).2:=by
 unfold uu;split
 .exact uy
 rename_i h;split
 .exact IY s
 rename_i h0;exact(apJ hE s _ (IY s) (I1 s) LI (dZ h).2).trans ((tw hE).trans (ad2 hE _ _ _ _))
theorem ah4{s}(a:s.fc=0)(h:s.i<qj ts):mu ts (uu ts s).2<mu ts s:=by
 unfold uu;split
 .exact Bz hE a h ux
 rename_i b;split
 .rename_i h1;exact Bz hE a h h1
 rename_i h1;have e:=I1 (ts:=ts) s;exact cq (tA hE Gb (by rw[e];exact h) (by rw[e];exact(dZ b).2) ((tw hE).trans (ad2 hE _ _ _ _)).toOn0) (IY (ts:=ts) s).mu
theorem Ru:∀f a s,On ts s (rT ts f a s).2
 | 0,_,s=>Wo _ _
 | f+1,a,s=>by
  rw[rT];split
  .exact Wo _ _
  split
  .rename_i h;exact oo hE (dZ h).1 (dZ h).2
  exact(ah3 hE s).trans (Ru f _ _)
theorem xd s:On ts s (lR ts s).2:=(jY hE _).trans (Ru hE _ _ _)
theorem agH:∀f x a s,On ts s (uv ts f x a s).2
 | 0,_,_,s=>Wo _ _
 | f+1,x,a,s=>by
  rw[uv];split
  .exact Wo _ _
  rename_i h;exact((oo hE (dZ h).1 (dZ h).2).trans (tw hE)).trans (agH f _ _ _)
theorem afS m s:On ts s (EO ts m s).2:=(agH hE _ _ _ _).trans (jY hE _)
theorem L7 m s:On ts s (Ct ts m s).2:=by
 unfold Ct;split
 .exact afS hE _ _
 exact(xd hE _).trans (afS hE _ _)
theorem EP m s:On ts s (rU ts m s).2:=by
 unfold rU;split
 .exact L7 hE _ _
 rename_i h;exact(((oo hE (dZ h).1 (dZ h).2).trans (aba hE _)).trans (jY hE _)).trans (L7 hE _ _)
theorem L8(k:Int)(s u:Sx) m:On ts u (if k=1 then rU ts {m with ev:=(li ts u).1} (li ts u).2 else if k=3 then rU ts {m with wt:=(io ts u 3).1.n} (io ts u 3).2 else rU ts m u).2:=by
 split
 .exact(tw hE).trans (EP hE _ _)
 split
 .exact(Al hE Z).trans (EP hE _ _)
 exact EP hE _ _
theorem ac7 k s (hk:(tk ts s.i).k≠5):On ts s (qS ts k s).2:=by
 unfold qS;split
 .exact IZ s
 rename_i h1;exact(apJ hE s _ (IZ s) (I2 s) Gb hk).trans (L8 hE k s _ _)
theorem ac8 k {s} (a:s.fc=0) (h:s.i<qj ts) (hk:(tk ts s.i).k≠5):mu ts (qS ts k s).2<mu ts s:=by
 unfold qS;split
 .rename_i h1;exact Bz hE a h h1
 rename_i h1;have e:=I2 (ts:=ts) s;exact cq (tA hE Gb (by rw[e];exact h) (by rw[e];exact hk) (L8 hE k s _ _).toOn0) (IZ (ts:=ts) s).mu
theorem agU n h s:On ts s (eK ts n h s).2.2.2:=by
 unfold eK;split
 .rename_i hw;exact ac7 hE _ s (dZ hw).2
 split
 .exact Wo _ _
 .rename_i hw;have hw:cX ts s [fM,jl,jm]≠0:=Uu
  split
  .exact uy
  exact((oo hE (dZ hw).1 (dZ hw).2).trans (tw hE)).trans (jY hE _)
 .rename_i hw;have hw:cX ts s [fM,jl,jm]≠0:=Uu
  split
  .exact uy
  exact(oo hE (dZ hw).1 (dZ hw).2).trans (xd hE _)
 rename_i h a b;have hw:=h;split
 .exact uy
 exact(oo hE (dZ hw).1 (dZ hw).2).trans (xd hE _)
theorem ai8 n h {s} (a:s.fc=0) (i:s.i<qj ts) (t:(eK ts n h s).1=aF):mu ts (eK ts n h s).2.2.2<mu ts s:=by
 unfold eK at t⊢;split
 .rename_i hw;exact ac8 hE _ a i (dZ hw).2
 rename_i h;rw[R h]at t;split
 .rename_i hw;rw[hw]at t;cases t
 .rename_i hw;have hw:cX ts s [fM,jl,jm]≠0:=Uu
  split
  .exact Bz hE a i ux
  exact tA hE a i (dZ hw).2 ((tw hE).trans (jY hE _)).toOn0
 .rename_i hw;have hw:cX ts s [fM,jl,jm]≠0:=Uu
  split
  .exact Bz hE a i ux
  exact tA hE a i (dZ hw).2 (xd hE _).toOn0
 rename_i b _ _;split
 .exact Bz hE a i ux
 exact tA hE a i (dZ b).2 (xd hE _).toOn0
theorem zh:∀f n h s,On ts s (iA ts f n h s).2
 | 0,_,_,s=>Wo _ _
 | f+1,n,h,s=>by
  rw[iA];split
  .exact Wo _ _
  split
  .exact(agU hE n h s).trans (zh f _ _ _)
  exact agU hE n h s
theorem afO{N} d (h:∀k s,s.d=d->s.fc=0->On ts s (N k s).2):∀f a s,s.d=d->On ts s (vZ ts N f a s).2
 | 0,_,s,_=>Wo _ _
 | f+1,a,s,hd=>by
  rw[vZ];split
  .exact Wo _ _
  rename_i b;have c:=(oo hE (dZ b).1 (dZ b).2).trans (h (cX ts s rV) _ hd (dZ b).1);exact c.trans (afO d h f _ _ (c.d.trans hd))
theorem ac9{N}{n}{s}(hd:qO s.d)(j:∀k u,u.d=Bw s.d->u.fc=0->On ts u (N k u).2):On ts s (uw ts N n s).2:=by
 have g:=zh hE (qj ts+1) n ⟨aM,aM,aM⟩ {s with d:=Bw s.d};have h:=g.trans (afO hE _ j (qj ts+1) [] _ g.d);have f:=jY hE [125] (s:={(vZ ts N (qj ts+1) [] (iA ts (qj ts+1) n ⟨aM,aM,aM⟩ {s with d:=Bw s.d}).2).2 with d:=XP (vZ ts N (qj ts+1) [] (iA ts (qj ts+1) n ⟨aM,aM,aM⟩ {s with d:=Bw s.d}).2).2.d});refine⟨⟨λi=>f.lt (h.lt i),λe=>?_⟩,f.d.trans ?_⟩
 .obtain⟨a,b⟩:=f.le e;obtain⟨c,d⟩:=h.le a;exact⟨c,bB d b⟩
 rw[h.d];unfold XP Bw;have:=hd.1;have:=hd.2;simp[IntKind.wrap_i64];omega
omit hE in
theorem ada (s:Sx):On ts s (tu ts s):=by
 unfold tu;split
 .split
  .exact(I0 s).trans (tv _)
  exact I0 s
 exact Wo _ _
theorem ER k s:On ts s (fI ts k s).2:=(ada s).trans (Al hE Z)
omit hE in
theorem adb {k:Int} {s:Sx} (h:(fI ts k s).2.fc=0):s.d≠0:=λe=>by
 revert h;unfold fI io;dsimp only;by_cases h1:(tk ts s.i).k=1
 .have hf:(tu ts s).fc≠0:=by
   unfold tu;rw[K h1,K ((I0 s).d.trans e)];exact aeS Z
  rw[K (.inl hf)];exact ux
 have e2:tu ts s=s:=by unfold tu;rw[R h1]
 rw[e2,K (.inr h1)];exact ux
theorem abP:∀(f:Nat) (k:Int) (s:Sx),qO s.d->On ts s (mO ts f k s).2
 | 0,_,s,_=>Wo _ _
 | f+1,k,s,hd=>by
  rw[mO];have h:=ER hE k s;split
  .exact((h.trans (jY hE _)).trans (tw hE)).trans (jY hE _)
  have a:=h.trans (jY hE [123]);refine a.trans (ac9 hE (by rw[a.d];exact hd) λk b u _=>abP f k b ?_);rw[u];exact Wn _
theorem ahf(s:Sx):On ts s (wY ts s).2:=by
 unfold wY;dsimp only;have h:On ts s (if(tk ts s.i).k=1 then Gn ts s else s):=by
  split
  .exact ac6 s
  exact Wo _ _
 have a:∀u:Sx,On ts u (if cX ts u [[45]]=0 then u else ez u):=λu=>by
  split
  .exact Wo _ _
  rename_i b;exact oo hE (dZ b).1 (dZ b).2
 exact((((h.trans (Al hE Z)).trans (jY hE _)).trans (a _)).trans (Al hE Z)).trans (jY hE _)
end
def Mk(w:aw)(F:A)(e:TypeId)(size:Nat)(s:Sl):Prop:=s.n=0∨∃g c,s.a=aN ⟨g,0,Pw⟩/\F g/\aG w g e c/\s.n*size<=qj c
def ly{a:Type}(t:M)(r:Rp a)(size:Nat)(e:TypeId)(w:aw)(F:A)(s:Sl)(x:L a):Prop:=aB r size w F s x/\(t=aF->Mk w F e size s)
section
variable {α:Type} {t:M} {r q:Rp α} {size:Nat} {e:TypeId} {w w':aw} {F G:A} {s:Sl} {xs:L α} {B:Nat}
def Mk.keep(h:Mk w F e size s)(hk:∀k,F k->k<w.heap.size->w'.heap[k]? =w.heap[k]?):Mk w' F e size s:=by
 rcases h with h | ⟨g,c,d,a,b,f⟩
 .exact .inl h
 exact .inr ⟨g,c,d,a,(hk g a b.lt).trans b,f⟩
def Mk.mono(h:Mk w F e size s)(hk:∀k,F k->k<w.heap.size->G k):Mk w G e size s:=by
 rcases h with h | ⟨g,c,b,d,a,f⟩
 .exact .inl h
 exact .inr ⟨g,c,b,hk g d a.lt,a,f⟩
def ly.keep(a:r.Ok)(h:ly t r size e w F s xs)(b:0<size)(hk:∀k,F k->k<w.heap.size->w'.heap[k]? =w.heap[k]?):ly t r size e w' F s xs:=⟨h.1.keep a b hk,λx=>(h.2 x).keep hk⟩
def ly.inHeap(c:r.Ok)(h:ly t r size e w F s xs)(d:0<size):ly t r size e w (λk=>F k/\k<w.heap.size) s xs:=⟨h.1.inHeap c d,λx=>(h.2 x).mono λk a b=>⟨a,b⟩⟩
def ly.mono(b:r.Ok)(h:ly t r size e w F s xs)(hk:∀k,F k->G k):ly t r size e w G s xs:=⟨h.1.mono b hk,λx=>(h.2 x).mono λk a _=>hk k a⟩
def ly.nil t (r:Rp α) size e w F:ly t r size e w F Sl.nil []:=⟨Zn _ _ _ _,λ_=>.inl I⟩
def Nh:=@ly.nil
def ly.imp(h:ly t r size e w F s xs)(i:∀x c,x∈xs->r w F x c->q w F x c):ly t q size e w F s xs:=⟨LX h.1 i,h.2⟩
def ly.off(h:ly t r size e w F s xs)(i:∀x c,x∈xs->r w F x c->q w F x c):ly aM q size e w F s xs:=⟨LX h.1 i,λh=>Ue⟩
def _root_.Go.Kt.Own.sl(b:r.Ok)(h:Own r size e B w F s xs)(a:∀k,B<=k->F k):ly aF r size e w F s xs:=by
 refine⟨(h.slice b).mono b λk hk=>hk.elim id λx=>a k x.1,λ_=>?_⟩;rcases h with⟨rfl,rfl⟩ | ⟨g,c,tail,d,f,i,m,j,n,o,l⟩
 .exact .inl I
 exact .inr ⟨g,_,d,a g f,i,by rw[aP,pR.NB l,<-j];omega⟩
end
def O4(t:M):Nat->Rp Ex
 | 0=>λ_ _ _ _=>False
 | d+1=>λw F x c=>∃sl,c=oM x.k x.n x.s x.op sl x.a/\ly t (O4 t d) 6 79 w F sl x.dK
def mq t:∀d,(O4 t d).Ok
 | 0=>⟨λh _=>h.elim,λh=>h.elim,λh _=>h.elim,λh=>h.elim⟩
 | d+1=>⟨λ⟨sl,h,a⟩ hk=>⟨sl,h,ly.keep (mq t d) a Z hk⟩,λ⟨sl,h,a⟩=>⟨sl,h,ly.inHeap (mq t d) a Z⟩,λ⟨sl,h,a⟩ hk=>⟨sl,h,ly.mono (mq t d) a hk⟩,λ⟨sl,h,a⟩=>by
  subst h;intro v b;simp at b;rcases b with rfl | rfl | rfl | rfl | rfl | rfl<;>rfl⟩
def XA{t}{w}{F}:∀{d:Nat} {x:Ex} {c:aJ},O4 t d w F x c->O4 t (d+1) w F x c
 | 0,_,_,h=>h.elim
 | d+1,x,c,⟨sl,a,b⟩=>⟨sl,a,b.imp λx c _ h=>XA h⟩
def O5{t}{w}{F}{d e}{x}{cs}(a:d<=e)(h:O4 t d w F x cs):O4 t e w F x cs:=by
 induction e with
 | zero=>have:d=0:=J;subst this;exact h
 | succ e i=>
  by_cases b:d=e+1
  .subst b;exact h
  exact XA (i J)
def ES{t}{w}{F}:∀{d:Nat} {x:Ex} {c:aJ},O4 t d w F x c->xS d w F x c
 | 0,_,_,h=>h.elim
 | d+1,x,c,⟨sl,a,b⟩=>⟨sl,a,LX b.1 λx c _ h=>ES h⟩
def XC{w}{F}:∀{d:Nat} {x:Ex} {c:aJ},xS d w F x c->O4 aM d w F x c
 | 0,_,_,h=>h.elim
 | d+1,x,c,⟨sl,a,b⟩=>⟨sl,a,LX b λx c _ h=>XC h,λh=>Ue⟩
def RXN.xg{w:aw}{x}{c}{N}{l i}(h:RXN w N l i x c):∃d,O4 aF d w (λk=>l<=k/\k<i) x c:=by
 induction h with
 | leaf l i k n s op a=>exact⟨1,Sl.nil,I,Nh _ _ _ _ _ _⟩
 | one l z p i k n s op a x c q e t f u g b=>
  obtain⟨d,b⟩:=b;obtain⟨sl,o,_⟩:=q.cells;refine⟨d+1,_,I,⟨I,H _,λh=>Ue,(by decide:(1:Nat)<=9223372036854775807),λm y j=>?_⟩,λ_=>.inr ⟨p,c,I,⟨e,f⟩,g,by rw[o];exact H _⟩⟩;have T:m=0:=by
   have:=(bc.1 j).1;simp[Ex.dK,bA]at this;omega
  subst T;simp[Ex.dK,cQ,bP]at j;subst j;exact⟨_,c,I,⟨e,f⟩,by rw[o];rfl,by rw[Da];exact g.cells 0 c λm v r=>by rw[bR];exact r,(mq aF d).mono b λk hk=>⟨hk.1,J⟩⟩
 | two l L M N r i k n s op a x y c d t A u B C D E f F g G K=>
  obtain⟨p,G⟩:=G;obtain⟨q,K⟩:=K;obtain⟨sl,z,_⟩:=t.cells;obtain⟨V,m,_⟩:=u.cells;have e:qj c=6:=by rw[z];rfl
  have o:qj d=6:=by rw[m];rfl
  refine⟨max p q+1,_,I,⟨I,H _,λh=>Ue,(by decide:(2:Nat)<=9223372036854775807),λb y j=>?_⟩,λ_=>.inr ⟨r,c++d,I,⟨J,f⟩,g,by rw[aP,e,o];exact H _⟩⟩;rcases b with _ | _ | b
  .simp[Ex.dK,cQ,bP]at j;subst j;exact⟨_,c,I,⟨KQ,f⟩,e,by rw[Da];exact g.cells 0 c λb v h=>by rw[bR,bZ (bc.1 h).1];exact h,(mq aF _).mono (O5 (DW _ _) G) λk hk=>⟨hk.1,J⟩⟩
  .simp[Ex.dK,dI,cQ,bP]at j;subst j;exact⟨_,d,I,⟨KQ,f⟩,o,by
    exact g.cells 6 d λb v h=>by rw[ck J,e,dH];exact h,(mq aF _).mono (O5 (Ck _ _) K) λk hk=>⟨J,J⟩⟩
  simp[Ex.dK]at j
def rE(t:M):Rp Ex:=λw F x c=>∃d,O4 t d w F x c
def jJ t:(rE t).Ok:=⟨λ⟨d,h⟩ hk=>⟨d,(mq t d).keep h hk⟩,λ⟨d,h⟩=>⟨d,(mq t d).inHeap h⟩,λ⟨d,h⟩ hk=>⟨d,(mq t d).mono h hk⟩,λ⟨d,h⟩=>(mq t d).one h⟩
def fD{t}{w}{F}{x}{cs}(h:rE t w F x cs):∃sl,cs=oM x.k x.n x.s x.op sl x.a:=by
 obtain⟨d,h⟩:=h;cases d with
 | zero=>exact h.elim
 | succ d=>obtain⟨sl,h,_⟩:=h;exact⟨sl,h⟩
def XD{t}{w}{F}{x}{cs}(h:rE t w F x cs):rE aM w F x cs:=by
 obtain⟨d,h⟩:=h;exact⟨d,XC (ES h)⟩
def IK t w F:rE t w F zI (oM 0 0 [] 0 Sl.nil 0):=⟨1,Sl.nil,I,Nh _ _ _ _ _ _⟩
def R5(k:Int)(n:C)(x:aJ)(a:Int):aJ:=O U k::ab (T n)::(x++[O U a])
def uW(t:M):Rp Ac:=λw F x s=>∃c,s=R5 x.k x.n c x.a/\rE t w F x.x c
def dW t:(uW t).Ok:=⟨λ⟨c,h,a⟩ hk=>⟨c,h,(jJ t).keep a hk⟩,λ⟨c,h,a⟩=>⟨c,h,(jJ t).inHeap a⟩,λ⟨c,h,a⟩ hk=>⟨c,h,(jJ t).mono a hk⟩,λ⟨c,h,a⟩=>by
 subst h;intro v b;simp[R5,bh,bQ,bI,cO]at b;rcases b with rfl | rfl | d | rfl
 .rfl
 .rfl
 .exact(jJ t).one a v d
 rfl⟩
def DZ(k:Int)(ev:C)(wt:Int)(d:M)(g:aJ)(t b:Sl)(a:Int):aJ:=O U k::ab (T ev)::O U wt::aj d::(g++[t.v,b.v,O U a])
def L9(t:M):Rp Mv:=λw F x c=>∃g U a,c=DZ x.k x.ev x.wt x.gd g U a x.a/\rE t w F x.g g/\ly t (uW t) 9 227 w F U x.acts/\ly t nU 1 9 w F a x.tg
def nJ t:(L9 t).Ok:=⟨λ⟨c,e,g,h,a,b,d⟩ hk=>⟨c,e,g,h,(jJ t).keep a hk,b.keep (dW t) Z hk,d.keep dG Z hk⟩,
 λ⟨c,e,g,h,a,b,d⟩=>⟨c,e,g,h,(jJ t).inHeap a,b.inHeap (dW t) Z,d.inHeap dG Z⟩,
 λ⟨c,e,g,h,a,b,d⟩ hk=>⟨c,e,g,h,(jJ t).mono a hk,b.mono (dW t) hk,d.mono dG hk⟩,
 λ⟨c,e,g,h,a,b,d⟩=>by
  subst h;intro v c;simp[DZ,bh,bQ,bI,cO]at c;rcases c with rfl | rfl | rfl | rfl | f | rfl | rfl | rfl
  .rfl
  .rfl
  .rfl
  .rfl
  .exact(jJ t).one a v f
  .rfl
  .rfl
  rfl⟩
def Ry:Rp Vr:=λ_ _ x c=>c=[ab (T x.n),O U x.v,O U x.a]
def ft:Ry.Ok:=⟨λh _=>h,λh=>h,λh _=>h,λh=>by
 subst h;intro v a;simp at a;rcases a with rfl | rfl | rfl<;>rfl⟩
abbrev qD(k:Int)(n i dft:C)(e l mv kids:Sl)(a:Int):aJ:=[O U k,ab (T n),ab (T i),ab (T dft),e.v,l.v,mv.v,kids.v,O U a]
def I3(t:M)(w:aw)(F:A)(x:Nb)(e l mv:Sl):Prop:=ly t (uW t) 9 227 w F e x.en/\ly t (uW t) 9 227 w F l x.lv/\ly t (L9 t) 13 82 w F mv x.mv
def nX(t:M):Nat->Rp Nd
 | 0=>λ_ _ _ _=>False
 | d+1=>λw F x c=>∃e l mv kids,c=qD x.b.k x.b.nm x.b.ini x.b.dft e l mv kids x.b.a/\I3 t w F x.b e l mv/\ly t (nX t d) 9 27 w F kids x.kids
section
variable {t:M} {w w':aw} {F G:A} {x:Nb} {en lv mv:Sl}
def I3.keep(h:I3 t w F x en lv mv)(hk:∀k,F k->k<w.heap.size->w'.heap[k]? =w.heap[k]?):I3 t w' F x en lv mv:=⟨h.1.keep (dW t) Z hk,h.2.1.keep (dW t) Z hk,h.2.2.keep (nJ t) Z hk⟩
def I3.inHeap(h:I3 t w F x en lv mv):I3 t w (λk=>F k/\k<w.heap.size) x en lv mv:=⟨h.1.inHeap (dW t) Z,h.2.1.inHeap (dW t) Z,h.2.2.inHeap (nJ t) Z⟩
def I3.mono(h:I3 t w F x en lv mv)(hk:∀k,F k->G k):I3 t w G x en lv mv:=⟨h.1.mono (dW t) hk,h.2.1.mono (dW t) hk,h.2.2.mono (nJ t) hk⟩
end
def cG t:∀d,(nX t d).Ok
 | 0=>⟨λh _=>h.elim,λh=>h.elim,λh _=>h.elim,λh=>h.elim⟩
 | d+1=>⟨λ⟨e,l,mv,kids,h,a,b⟩ hk=>⟨e,l,mv,kids,h,a.keep hk,ly.keep (cG t d) b Z hk⟩,
  λ⟨e,l,mv,kids,h,a,b⟩=>⟨e,l,mv,kids,h,a.inHeap,ly.inHeap (cG t d) b Z⟩,
  λ⟨e,l,mv,kids,h,a,b⟩ hk=>⟨e,l,mv,kids,h,a.mono hk,ly.mono (cG t d) b hk⟩,λ⟨e,l,mv,kids,h,a,b⟩=>by
  subst h;intro v c;simp at c;rcases c with rfl | rfl | rfl | rfl | rfl | rfl | rfl | rfl | rfl<;>rfl⟩
def XE{t}{w}{F}:∀{d:Nat} {x:Nd} {c:aJ},nX t d w F x c->nX t (d+1) w F x c
 | 0,_,_,h=>h.elim
 | d+1,x,c,⟨e,l,mv,kids,a,b,f⟩=>⟨e,l,mv,kids,a,b,f.imp λx c _ h=>XE h⟩
def ah5{t}{w}{F}{d e}{x}{cs}(a:d<=e)(h:nX t d w F x cs):nX t e w F x cs:=by
 induction e with
 | zero=>have:d=0:=J;subst this;exact h
 | succ e i=>
  by_cases b:d=e+1
  .subst b;exact h
  exact XE (i J)
def I4{t}{w}{F}{x}{cs}(h:uW t w F x cs):uW aM w F x cs:=by
 obtain⟨c,a,b⟩:=h;exact⟨c,a,XD b⟩
def ade{t}{w}{F}{x}{cs}(h:L9 t w F x cs):L9 aM w F x cs:=by
 obtain⟨c,U,g,a,b,d,e⟩:=h;exact⟨c,U,g,a,XD b,d.off λ_ _ _ h=>I4 h,e.off λ_ _ _ h=>h⟩
def I3.off{t}{w}{F}{x}{en lv mv}(h:I3 t w F x en lv mv):I3 aM w F x en lv mv:=⟨h.1.off λ_ _ _ h=>I4 h,h.2.1.off λ_ _ _ h=>I4 h,h.2.2.off λ_ _ _ h=>ade h⟩
def Rz{t}{w}{F}:∀{d:Nat} {x:Nd} {c:aJ},nX t d w F x c->nX aM d w F x c
 | 0,_,_,h=>h.elim
 | d+1,x,c,⟨e,l,mv,kids,a,b,f⟩=>⟨e,l,mv,kids,a,b.off,f.off λx c _ h=>Rz h⟩
structure ChR (t:Bool) (d:Nat) (w:aw) (F:A) (c:Ch) (vs:Sl) (cs:aJ):Prop where
 vars:ly t Ry 3 130 w F vs c.vars
 root:nX t d w F c.root cs
abbrev Fr(B:Nat):A:=λk=>B<=k
section
variable {α:Type} {r:Rp α} {size:Nat} {e:TypeId} {w w':aw} {s:Sl} {xs:L α} {B:Nat}
def _root_.Go.Kt.Own.stay(a:r.Ok)(h:Own r size e B w (Fr B) s xs){bs}(O:az bs w w')(c:∀x,x∈bs->x<B∨w.heap.size<=x):Own r size e B w' (Fr B) s xs:=by
 refine((h.inHeap a).keep a λk hk b=>O.block k b λm=>?_).mono a λk hk=>hk.1;rcases c k m with h | h<;>omega
def _root_.Go.Kt.Own.new(h:Own r size e B w (Fr B) s xs){k}(hk:w.heap.size<=k):s.a≠aN ⟨k,0,Pw⟩:=λe=>by
 have:=(h.blk e).2;dsimp only at this;omega
end
mutual
def Gp:Ex->Nat
 | .mk _ _ _ _ l _=>PT l+1
def PT:L Ex->Nat
 | []=>0
 | x::l=>max (Gp x) (PT l)
end
mutual
def F2:Ex->Nat
 | .mk _ _ s _ l _=>Ul l+(qj s+1)
def Ul:L Ex->Nat
 | []=>0
 | x::l=>F2 x+Ul l
end
def I5(x:Ex):Gp x=PT x.dK+1:=by cases x;rw[Gp];rfl
def I6(x:Ex):F2 x=Ul x.dK+(qj x.s+1):=by cases x;rw[F2];rfl
def Dt{y:Ex}:∀{l:L Ex},y∈l->Gp y<=PT l
 | [],h=>Ux
 | x::l,h=>by
  rw[PT];rcases bh.1 h with rfl | h
  .exact DW _ _
  exact bB (Dt h) (Ck _ _)
def I7{y:Ex}:∀{l:L Ex},y∈l->F2 y<=Ul l
 | [],h=>Ux
 | x::l,h=>by
  rw[Ul];rcases bh.1 h with rfl | h
  .omega
  have:=I7 h;omega
def XF{d:Nat}:∀{l:L Ex},(∀y,y∈l->Gp y<=d)->PT l<=d
 | [],_=>by rw[PT];omega
 | x::l,h=>by
  rw[PT];exact Nat.max_le.2 ⟨h x X,XF λy hy=>h y Bh⟩
def abC(x:Ex):1<=Gp x:=by rw[I5];omega
def O6{w:aw}{F:A}:∀{d:Nat} {x:Ex} {c:aJ},xS d w F x c->Gp x<=d
 | 0,_,_,h=>h.elim
 | d+1,x,c,⟨sl,f,a⟩=>by
  rw[I5];refine VI (XF λy b=>?_);obtain⟨e,j⟩:=gI b;obtain⟨_,c,_,_,_,_,h⟩:=a.at_ e y j;exact O6 h
def agD{f g:Ex->M}:∀{l:L Ex},(∀y,y∈l->f y=g y)->lu f l=lu g l
 | [],_=>rfl
 | x::l,h=>by rw[lu,lu,h x X,agD λy hy=>h y Bh]
def agE:∀(d e:Nat) (x:Ex),Gp x<=d->Gp x<=e->cV d x=cV e x
 | 0,_,x,h,_=>Mn
 | _,0,x,_,h=>Mn
 | d+1,e+1,x,a,k=>by
  rw[I5]at a k;rw[cV,cV,agD λy h=>agE d e y (by have:=Dt h;omega) (by have:=Dt h;omega)]
def RA:∀(d e:Nat) (x:Ex) (wr:M) (l:C),Gp x<=d->Gp x<=e->rQ d x wr l=rQ e x wr l
 | 0,_,x,_,_,h,_=>Mn
 | _,0,x,_,_,_,h=>Mn
 | d+1,e+1,x,wr,l,b,k=>by
  rw[I5]at b k;have m:∀y,y∈x.dK->Gp y<=d/\Gp y<=e:=λy h=>by have:=Dt h;omega
  rw[rQ,rQ];cases a:x.dK with
  | nil=>rfl
  | cons y c=>
   cases c with
   | nil=>
    have h:=m y (by rw[a];simp);dsimp only;rw[RA d e y _ _ h.1 h.2]
   | cons z c=>
    cases c with
    | nil=>
     have h:=m y (by rw[a];simp);have f:=m z (by rw[a];simp);dsimp only;rw[RA d e y _ _ h.1 h.2,RA d e z _ _ f.1 f.2]
    | cons _ _=>rfl
def XG:∀(d:Nat) (x:Ex),tK d x<=F2 x
 | 0,x=>bf _
 | d+1,x=>by
  rw[tK,I6];have:∀l:L Ex,yy (tK d) l<=Ul l:=λl=>by
   induction l with
   | nil=>exact bf _
   | cons y l i=>rw[yy,Ul];exact oL (XG d y) i
  have:=this x.dK;omega
def O7:∀(d:Nat) (x:Ex),F2 x<4611686018427387903->yM d x
 | 0,x,_=>trivial
 | d+1,x,h=>by
  rw[I6]at h;exact⟨J,λy a=>O7 d y (by have:=I7 a;omega)⟩
def Um(x:Ex):Prop:=∀d,mo d x
def yz(x:Ex):C:=ql (Gp x) x
def RB{d:Nat}{x:Ex}(h:Gp x<=d):ql d x=yz x:=by
 unfold yz ql;rw[agE d (Gp x) x h (H _),RA d (Gp x) x aM [] h (H _)]
def Mb{d:Nat}{x:Ex}(h:ql d x≠[]):cV d x=aF/\ql d x=rQ d x aM []/\(iV (rQ d x aM [])).2.1=0:=by
 unfold ql at h⊢;by_cases s:cV d x=aF
 .rw[K s]at h⊢;by_cases hr:(iV (rQ d x aM [])).2.1≠0
  .rw[K hr]at h;exact absurd I h
  rw[R hr];exact⟨s,I,RD⟩
 rw[R s]at h;exact absurd I h
def adf{w:aw}{F:A}{x:Ex}{c:aJ}(b:rE aM w F x c)(n:Um x)(s:F2 x<=1759218604441)(E:Er w)(a:Tb w):
  aA aq 282 #[ah c.toArray] w λe f=>e=ak (ab (T (yz x)))/\az [] w f:=by
 obtain⟨d,h⟩:=b;have h:=ES h;rw[<-RB (O6 h)];exact ah0 h (O7 d x J) (n d) E a (by have:=XG d x;omega)
def rW(x:Ex):M:=(((x.k==0&&x.n==0)&&YR (x.s=[]))&&x.op==0)&&((qj x.dK:Int)==0)
def uz(x:Ex):M:=YR (yz x≠[])
def iZ(a:Ac):M:=YR (1<=a.k/\a.k<=3)&&dD a.n&&(if a.k=2 then rW a.x else uz a.x)
def mr(m:Mv):M:=
 YR (1<=m.k/\m.k<=3)&&(if m.k=1 then dD m.ev else YR (m.ev=[]))&&(if m.gd then uz m.g else rW m.g)&&m.acts.all iZ&&m.tg.all dD&&YR (m.wt=0∨m.k=3/\0<m.wt)
def gv(k:Int):M:=YR (k=3∨k=4)
def qE(b:Nb)(kids:Nat):M:=
 dD b.nm&&(if gv b.k then dD b.dft&&YR (b.ini=[]/\b.en=[]/\b.lv=[]/\qj b.mv=0/\kids=0)
  else YR ((b.k=1∨b.k=2)/\b.dft=[])&&(YR (b.ini=[])||dD b.ini)&&b.en.all iZ&&b.lv.all iZ&&b.mv.all mr)
mutual
def kc:Nat->Nd->M
 | d,.mk b l=>YR (d<12)&&qE b (qj l)&&iX (d+1) l
def iX:Nat->L Nd->M
 | _,[]=>aF
 | d,x::l=>kc d x&&iX d l
end
def Cu(b:Nb):Nat:=qj b.en+qj b.lv+(b.mv.map λm=>qj m.acts).sum
mutual
def iQ:Nd->Nat
 | .mk _ l=>dJ l+1
def dJ:L Nd->Nat
 | []=>0
 | x::l=>iQ x+dJ l
end
mutual
def Am:Nd->Nat
 | .mk b l=>qj b.mv+oO l
def oO:L Nd->Nat
 | []=>0
 | x::l=>Am x+oO l
end
mutual
def yP:Nd->Nat
 | .mk b l=>Cu b+nK l
def nK:L Nd->Nat
 | []=>0
 | x::l=>yP x+nK l
end
def pz(c:Ch):M:=
 (c.vars.all λv=>dD v.n&&YR (v.v≠ -9223372036854775808))&&kc 0 c.root&&YR (c.root.b.k=1/\qj c.vars<=16/\iQ c.root<=64/\Am c.root<=200/\yP c.root<=400)
def Du(a:Ac):C:=
 if a.k=2 then lQ++32::(a.n++[59])else(if a.k=1 then tM else mZ)++32::(a.n++32::61::32::(yz a.x++[59]))
def An:L Ac->C
 | []=>[]
 | a::l=>32::(Du a++An l)
def zU(l:L Ac):C:=123::(An l++[32,125])
def Ha:L (C)->C
 | []=>[]
 | s::l=>44::32::(s++Ha l)
def KS(m:Mv):C:=if m.k=1 then Ds++32::m.ev else if m.k=3 then jF++32::Lib.itoa m.wt else iW
def VL(m:Mv):C:=if m.gd then 32::91::(yz m.g++[93])else[]
def Gq(m:Mv):C:=
 KS m++(VL m++((if m.acts=[]then[]else 32::zU m.acts)++((match m.tg with
  | []=>[]
  | s::l=>32::45::62::32::(s++Ha l))++[59])))
def kW(k:Int):C:=if k=1 then EN else if k=2 then ur else if k=3 then wX else L3
abbrev Ln:=Nat×C
def yA(d:Nat)(b:Nb):L Ln:=if b.ini=[]then[]else[(d,fM++32::(b.ini++[59]))]
def RC(d:Nat)(b:Nb):L Ln:=if b.en=[]then[]else[(d,jl++32::zU b.en)]
def Un(d:Nat)(b:Nb):L Ln:=if b.lv=[]then[]else[(d,jm++32::zU b.lv)]
def Ni(d:Nat)(b:Nb):L Ln:=b.mv.map λm=>(d,Gq m)
def Hb(d:Nat)(b:Nb):L Ln:=yA d b++(RC d b++(Un d b++Ni d b))
mutual
def F3:Nat->Nd->L Ln
 | d,.mk b l=>
  if gv b.k then[(d,kW b.k++32::(b.nm++32::45::62::32::(b.dft++[59])))]
  else(d,kW b.k++32::(b.nm++[32,123]))::(Hb (d+1) b++(qm (d+1) l++[(d,[125])]))
def qm:Nat->L Nd->L Ln
 | _,[]=>[]
 | d,x::l=>F3 d x++qm d l
end
def Y0(v:Vr):C:=zg++32::(v.n++32::61::32::(Lib.itoa v.v++[59]))
def F4(c:Ch):L Ln:=
 (0,fX++32::(c.root.b.nm++[32,123]))::((c.vars.map λv=>(1,Y0 v))++(Hb 1 c.root.b++(qm 1 c.root.kids++[(0,[125])])))
def xf:Nat->C
 | 0=>[]
 | d+1=>32::32::xf d
def Zb(p:Ln):C:=xf p.1++(p.2++[10])
def kQ(b:C)(p:Ln):C:=if 16384<qj b then b else b++Zb p
def eh(b:C)(a:L Ln):C:=a.foldl kQ b
def Cv(a:L Ln):C:=a.flatMap Zb
def agy(b:C)(p:Ln):qj b<=qj (kQ b p):=by
 unfold kQ;split
 .exact H _
 rw[aP];omega
def age:∀(a:L Ln) (b:C),qj b<=qj (eh b a)
 | [],_=>H _
 | p::a,b=>bB (agy b p) (age a _)
def gR(b:C)(a M:L Ln):eh b (a++M)=eh (eh b a) M:=jR
def vE(b:C)(p:Ln)(a:L Ln):eh b (p::a)=eh (kQ b p) a:=rfl
def ad3:∀(a:L Ln) (b:C),qj (eh b a)<=16384->eh b a=b++Cv a
 | [],b,_=>(bC b).symm
 | p::a,b,h=>by
  rw[vE]at h⊢;have c:=age a (kQ b p);have d:=agy b p;rw[ad3 a _ h];have:kQ b p=b++Zb p:=by unfold kQ;rw[R J]
  rw[this,bq];rfl
def afm:∀(a:L Ln) (b:C),16384<(qj b)->eh b a=b
 | [],_,_=>rfl
 | p::a,b,h=>by
  have:kQ b p=b:=by unfold kQ;rw[K h]
  rw[vE,this,afm a b h]
def jo(c:Ch):C×Int:=
 if pz c=aF then(if 16384<qj (eh [] (F4 c)) then([],2)else(eh [] (F4 c),0))else([],22)
def Hc(a:Ac):Prop:=Um a.x
structure V7 (m:Mv):Prop where
 g:Um m.g
 a:∀x,x∈m.acts->Hc x
 w:qO m.wt
structure nbN (b:Nb):Prop where
 en:∀a,a∈b.en->Hc a
 lv:∀a,a∈b.lv->Hc a
 mv:∀m,m∈b.mv->V7 m
mutual
def Dv:Nd->Prop
 | .mk b l=>nbN b/\Ao l
def Ao:L Nd->Prop
 | []=>True
 | x::l=>Dv x/\Ao l
end
structure HX (c:Ch):Prop where
 v:∀v,v∈c.vars->qO v.v
 r:Dv c.root
structure dC where
 k:Int
 nm:C
 pa:Int
 dp:Int
 en:Int
mutual
def I9(a:Nat)(p d:Int):Nd->L dC
 | .mk b l=>⟨b.k,b.nm,p,d,((a+1+dJ l:Nat):Int)⟩::uA (a+1) a (d+1) l
def uA(a:Nat)(p d:Int):L Nd->L dC
 | []=>[]
 | x::l=>I9 a p d x++uA (a+iQ x) p d l
end
mutual
def nB(a:Nat)(p d:Int):∀x,qj (I9 a p d x)=iQ x
 | .mk b l=>by rw[I9,iQ,aZ,vF]
def vF(a:Nat)(p d:Int):∀l,qj (uA a p d l)=dJ l
 | []=>by rw[uA,dJ];rfl
 | x::l=>by rw[uA,dJ,aP,nB,vF]
end
def Ap:∀l m,dJ (l++m)=dJ l+dJ m
 | [],m=>by rw[dJ,cd,bR]
 | x::l,m=>by rw[cb,dJ,dJ,Ap l m,dA]
def Ja pa dp:∀l m a,uA a pa dp (l++m)=uA a pa dp l++uA (a+dJ l) pa dp m
 | [],m,a=>by rw[cd,uA,cd,dJ,gy]
 | x::l,m,a=>by rw[cb,uA,uA,Ja pa dp l m,dJ,bq,dA]
def Jb:∀x,1<=iQ x
 | .mk b l=>by rw[iQ];omega
def ahL{x}:∀{l:L Nd},x∈l->iQ x<=dJ l
 | [],h=>Ux
 | y::l,h=>by
  rw[dJ];rcases bh.1 h with rfl | h
  .omega
  have:=ahL h;omega
def mH{y}:∀{l:L Nd} {j:Nat},l[j]? =aN y->dJ (l.take j)+iQ y<=dJ l
 | [],_,h=>Ux
 | x::l,0,h=>by
  rw[cQ,bP]at h;subst h;rw[cu,dJ,dJ];omega
 | x::l,j+1,h=>by
  have:=mH (l:=l) (j:=j) (by rwa[dI]at h);rw[fF,dJ,dJ];omega
def qn:∀l,qj l<=dJ l
 | []=>bf _
 | a::l=>by
  have:=qn l;have:=Jb a;rw[dJ,aZ];omega
def EU(b:L dC)(a i:Nat)(s:dC):Prop:=∃p t,p<i/\b[p]? =aN t/\s.pa=((a+p:Nat))/\s.dp=t.dp+1/\((a+i:Nat))<t.en/\s.en<=t.en/\∀j u,p<j->j<i->b[j]? =aN u->u.en<=((a+i:Nat))
def EU.wm{L M}{a i}{s}(h:EU L a i s)(o:i<qj L):EU (L++M) a i s:=by
 obtain⟨p,t,d,e,f,j,k,l,m⟩:=h;refine⟨p,t,d,?_,f,j,k,l,λn u g b c=>m n u g b ?_⟩
 .rw[bZ J];exact e
 rwa[bZ J]at c
def EU.shift{L M}{a i}{s}(h:EU M (a+qj L) i s):EU (L++M) a (qj L+i) s:=by
 obtain⟨p,t,l,b,c,d,m,e,f⟩:=h;refine⟨qj L+p,t,J,?_,by rw[c];omega,d,J,e,λn u j k g=>?_⟩
 .rw[ck J,dH];exact b
 rw[ck J]at g;have:=f _ u J J g;omega
mutual
def O8(a:Nat)(p d:Int):∀(x:Nd) (i:Nat) (s:dC),(I9 a p d x)[i]? =aN s->((a+i:Nat):Int)<s.en/\s.en<=((a+iQ x:Nat):Int)/\(i=0->s.pa=p/\s.dp=d/\s.en=((a+iQ x:Nat):Int))/\(0<i->EU (I9 a p d x) a i s)
 | .mk b l,i,s,h=>by
  rw[I9]at h⊢;rw[iQ];cases i with
  | zero=>
   rw[cQ,bP]at h;subst h;dsimp only;exact⟨J,J,λ_=>⟨I,I,J⟩,λh=>J⟩
  | succ i=>
   rw[dI]at h;obtain⟨k,m,j⟩:=acL (a+1) a (d+1) l i s h;refine⟨J,J,λh=>J,λ_=>?_⟩;rcases j with⟨c,e,f⟩ | g
   .refine⟨0,_,J,cQ,by rw[c,gy],e,KQ,KQ,λa u b n k3=>?_⟩;cases a with
    | zero=>omega
    | succ a=>
     rw[dI]at k3;have:=f a u J k3;omega
   have:=EU.shift (L:=[⟨b.k,b.nm,p,d,((a+1+dJ l:Nat):Int)⟩]) (M:=uA (a+1) a (d+1) l) (a:=a) (i:=i) (s:=s) g;rw[bA,kw 1 i]at this;exact this
def acL(a:Nat)(p d:Int):∀(l:KY Nd) (i:Nat) (s:dC),(uA a p d l)[i]? =aN s->((a+i:Nat):Int)<s.en/\s.en<=((a+dJ l:Nat):Int)/\
  ((s.pa=p/\s.dp=d/\∀j u,j<i->(uA a p d l)[j]? =aN u->u.en<=((a+i:Nat):Int))∨EU (uA a p d l) a i s)
 | [],i,s,h=>by rw[uA]at h;simp at h
 | x::l,i,s,h=>by
  rw[uA]at h⊢;rw[dJ];have b:=nB a p d x;by_cases c:i<iQ x
  .rw[bZ J]at h;obtain⟨f,m,g,k⟩:=O8 a p d x i s h;refine⟨f,J,?_⟩;by_cases e:i=0
   .obtain⟨a,n,o⟩:=g e;exact .inl ⟨a,n,λj u q=>J⟩
   exact .inr ((k J).wm J)
  rw[ck J,b]at h;obtain⟨n,o,m⟩:=acL (a+iQ x) p d l (i-iQ x) s h;refine⟨J,J,?_⟩;rcases m with⟨e,f,k⟩ | g
  .refine .inl ⟨e,f,λj u s q=>?_⟩;by_cases r:j<iQ x
   .rw[bZ J]at q;have:=(O8 a p d x j u q).2.1;omega
   rw[ck J,b]at q;have:=k (j-iQ x) u J q;omega
  refine .inr ?_;rw[<-b]at g;have:=EU.shift (L:=I9 a p d x) g;rw[b]at this;rwa[show iQ x+(i-iQ x)=i by omega]at this
end
structure Fo (xs:List dC):Prop where
 ne:0<qj xs
 rt:∀s:dC,xs[0]? =aN s->s.pa= -1/\s.dp=0/\s.en=(qj xs:Int)
 up:∀(i:Nat) (s:dC),xs[i]? =aN s->(i:Int)<s.en/\s.en<=(qj xs:Int)
 pa:∀(i:Nat) (s:dC),0<i->xs[i]? =aN s->EU xs 0 i s
def eI(c:Ch):L dC:=I9 0 (-1) 0 c.root
def Dw c:Fo (eI c):=by
 unfold eI;have l:=nB 0 (-1) 0 c.root;have a:=O8 0 (-1) 0 c.root;refine⟨by have:=Jb c.root;omega,λs h=>?_,λi s h=>?_,λi s b h=>(a i s h).2.2.2 b⟩
 .obtain⟨c,d,e⟩:=(a 0 s h).2.2.1 I;exact⟨c,d,by rw[e,l];omega⟩
 obtain _:=a i s h;exact⟨J,J⟩
section
variable {xs:L dC} (F:Fo xs) {i j k p:Nat} {s t u:dC}
include F
theorem Fo.lam:∀k {i:Nat} {s t:dC},xs[i]? =aN s->xs[k]? =aN t->i<k->k<s.en->t.en<=s.en
 | k,i,s,t,a,hk,b,m=>by
  obtain⟨p,v,f,h,g,j,l,c,d⟩:=F.pa k t J hk;by_cases e:p<i
  .have:=d i s e b a;omega
  by_cases k:p=i
  .subst k;rw[a,bP]at h;subst h;exact c
  have:=Fo.lam p a h J J;omega
theorem Fo.par(hk:xs[k]? =aN t)(h:0<k):∃(p:Nat) (s:dC),p<k/\t.pa=p/\xs[p]? =aN s/\t.dp=s.dp+1/\k<s.en/\∀i u,xs[i]? =aN u->i<k->(k:Int)<u.en->i<=p:=by
 obtain⟨p,v,a,b,c,d,l,m,e⟩:=F.pa k t h hk;refine⟨p,v,a,by rw[c];omega,b,d,J,λi u j f G=>?_⟩;by_cases g:p<i
 .have:=e i u g f j;omega
 omega
omit F in
theorem gp {xs:List dC} {i:Nat} {s:dC} (h:xs[i]? =aN s):i<qj xs:=(bc.1 h).1
omit F in
theorem fE {xs:List dC} {i:Nat} (h:i<qj xs):∃s,xs[i]? =aN s:=⟨_,aX h⟩
end
def nL(x:L dC)(b a:Nat):Prop:=∃s,x[b]? =aN s/\b<=a/\a<s.en
section
variable {xs:L dC} (F:Fo xs) {i j k p:Nat}
include F
theorem Fo.FL(h:nL xs i j):j<qj xs:=by
 obtain⟨s,a,b,c⟩:=h;have:=(F.up i s a).2;omega
theorem Fo.uL(a:i<qj xs):nL xs i i:=by
 obtain⟨s,h⟩:=fE a;exact⟨s,h,H _,(F.up i s h).1⟩
theorem Fo.uM(a:i<qj xs):nL xs 0 i:=by
 obtain⟨s,h⟩:=fE F.ne;exact⟨s,h,bf _,by rw[(F.rt s h).2.2];omega⟩
theorem Fo.pH(c:nL xs i j)(a:nL xs j k):nL xs i k:=by
 obtain⟨s,h,l,d⟩:=c;obtain⟨t,g,f,b⟩:=a;refine⟨s,h,J,?_⟩;by_cases e:i=j
 .subst e;rw[h,bP]at g;subst g;exact b
 have:=F.lam j h g J d;omega
theorem Fo.tQ(h:nL xs i k)(g:nL xs j k)(y:i<=j):nL xs i j:=by
 obtain⟨s,a,e,f⟩:=h;obtain⟨t,b,c,d⟩:=g;exact⟨s,a,y,J⟩
end
inductive Ups (xs:List dC):Int->List Int->Prop
 | stop {i:Int}:i<0->Ups xs i []
 | go {i:Nat} {s:dC} {l:List Int}:xs[i]? =aN s->Ups xs s.pa l->Ups xs i ((i:Int)::l)
def E8(x:L dC)(l:L Int)(r:Int):Prop:=∃m:Nat,r=m/\(∀n,n∈l->∃k:Nat,n=k/\nL x m k)/\∀j,(∀n,n∈l->∃k:Nat,n=k/\nL x j k)->j<=m
def vG(x:L dC)(n:Int):Prop:=0<=n/\n<qj x
def Mt(x:L dC)(l:L Int)(r:Int):Prop:=((l=[]∨∃n,n∈l/\¬vG x n)/\r= -1)∨((l≠[]/\∀n,n∈l->vG x n)/\E8 x l r)
def Mt.aqa{xs}{l}{r}(h:Mt xs l r)(a:l≠[])(b:∀n,n∈l->vG xs n):E8 xs l r:=by
 rcases h with⟨c | ⟨n,e,d⟩,_⟩ | ⟨_,h⟩
 .exact absurd c a
 .exact absurd (b n e) d
 exact h
def fQ(x:L dC)(i n:Nat):L Int:=((List.range n).filter λk=>YR ((x[k]?).map (λs:dC=>s.pa)=aN (i:Int))).map λk:Nat=>k
def nV xs i n:fQ xs i (n+1)=fQ xs i n++if(xs[n]?).map (λs:dC=>s.pa)=aN (i:Int)then[(n:Int)]else[]:=by
 unfold fQ;rw[List.range_succ,fh,cA];by_cases h:(xs[n]?).map (λs:dC=>s.pa)=aN (i:Int)
 .rw[K h,List.filter_cons_of_pos U3];rfl
 rw[R h,List.filter_cons_of_neg U3];rfl
def xh{xs}{i:Nat}:∀d n,(∀k,n<=k->k<n+d->(xs[k]?).map (λs:dC=>s.pa)≠aN (i:Int))->fQ xs i (n+d)=fQ xs i n
 | 0,n,_=>rfl
 | d+1,n,h=>by
  rw[<-dA,nV,R (h _ J J),bC,xh d n λk a b=>h k a J]
section
variable {xs:L dC} (F:Fo xs) {i k:Nat} {s t:dC}
include F
theorem Fo.yT(hk:xs[k]? =aN t):t.pa<k:=by
 by_cases h:0<k
 .obtain _:=F.par hk h;omega
 have:k=0:=J
 subst this;rw[(F.rt t hk).1];omega
theorem Fo.awx(h:xs[i]? =aN s):fQ xs i (i+1)=[]:=by
 have:∀n,n<=i+1->fQ xs i n=[]:=by
  intro n
  induction n with
  | zero=>intro _;rfl
  | succ n i=>
   intro a;rw[nV,i J,R,bC];intro e;rcases hx:xs[n]? with _|u
   .rw[hx]at e;cases e
   rw[hx,fG,bP]at e;have:=F.yT hx;omega
 exact this _ (H _)
theorem Fo.ai5(g:xs[i]? =aN s)(hk:xs[k]? =aN t)(h:i<k)(l:k<s.en)(e:∀j u,i<j->j<k->xs[j]? =aN u->u.en<=k):t.pa=i:=by
 obtain⟨p,v,a,b,c,n,o,d⟩:=F.par hk J;have m:=d i s g h l;by_cases f:p=i
 .rw[b,f]
 have:=e p v J a c;omega
theorem Fo.ZL(hk:xs[k]? =aN t){n:Nat}(d:t.en=n)(b:∀j u,i<j->j<k->xs[j]? =aN u->u.en<=k):∀j u,i<j->j<n->xs[j]? =aN u->u.en<=n:=by
 intro j u a c h;have K:=(F.up k t hk).1;by_cases e:j<k
 .have:=b j u a e h;omega
 by_cases e:j=k
 .subst e;rw[hk,bP]at h;subst h;omega
 have:=F.lam j hk h J J;omega
theorem Fo.ZM(a:xs[i]? =aN s)(hk:xs[k]? =aN t)(h:i<k)(c:k<s.en){n:Nat}(l:t.en=n)(b:∀j u,i<j->j<k->xs[j]? =aN u->u.en<=k):fQ xs i n=fQ xs i k++[(k:Int)]:=by
 have d:=(F.up k t hk).1;have:=xh (xs:=xs) (i:=i) (n-(k+1)) (k+1) λj f g e=>by
  rcases hx:xs[j]? with _|u
  .rw[hx]at e;cases e
  rw[hx,fG,bP]at e;obtain⟨p,v,m,n,o,q,r,i⟩:=F.par hx J;have:=i k t hk J J;omega
 rw[show k+1+_=n by omega,nV,K (by rw[hk,fG,F.ai5 a hk h c b])]at this;exact this
theorem Fo.aem(h:xs[i]? =aN s){n:Nat}(c:s.en=n):fQ xs i (qj xs)=fQ xs i n:=by
 have u:=F.up i s h;have:=xh (xs:=xs) (i:=i) ((qj xs)-n) n λj a b e=>by
  rcases hx:xs[j]? with _|d
  .rw[hx]at e;cases e
  rw[hx,fG,bP]at e;obtain⟨p,v,f,k,g,l,m,n⟩:=F.par hx J;have:p=i:=J
  subst this;rw[h,bP]at g;subst g;omega
 rw[show n+_=(qj xs) by omega]at this;exact this
end
def mLs xs i:∀n,List.Pairwise (· <·) (fQ xs i n)/\∀k,k∈fQ xs i n->k<n
 | 0=>⟨List.Pairwise.nil,λk h=>by simp[fQ]at h⟩
 | n+1=>by
  obtain⟨c,h⟩:=mLs xs i n;rw[nV];split
  .refine⟨lX.2 ⟨c,List.pairwise_singleton _ _,λa e b d=>?_⟩,λk hk=>?_⟩
   .simp at d;subst d;exact h a e
   .rcases bQ.1 hk with hk | hk
    .have:=h k hk;omega
    .simp at hk;omega
  .rw[bC];exact⟨c,λk hk=>by have:=h k hk;omega⟩
end Go.Proofs.YtdfibecibkijiaaGreatDoor.Con
namespace Go.Proofs.YtdfibecibkijiaaGreatDoor.Con
def Kc(x:L dC)(d:Int)(c:Nat):Prop:=∃t,x[c]? =aN t/\t.pa=d
def Sb(s:L dC)(d:Int)(x:Nat):Prop:=d<x/\x<qj s/\(d= -1∨∃k:Nat,d=k/\nL s k x)
def SS(s:L dC)(x:Nat):Prop:=∃t,s[x]? =aN t/\(t.k=1∨t.k=2)
def EV(x:L dC)(S:A)(d:Int):Prop:=∀c a,Kc x d c->Kc x d a->S c->S a->c=a
structure Gd (xs:List dC) (d:Int) (G:A):Prop where
 ne:∃g,G g
 bl:∀g,G g->Sb xs d g/\SS xs g
 con:∀(n:Nat) (t:dC) (c c' g g':Nat),xs[n]? =aN t->t.k=1->Kc xs n c->Kc xs n c'->G g->G g'->nL xs c g->nL xs c' g'->c=c'
section
variable {xs:L dC} (F:Fo xs) {d d':Int} {c c' k n x:Nat} {t:dC} {D:Int->Prop} {S G:A}
include F
theorem Fo.Ti(a:Kc xs d c):Sb xs d c:=by
 obtain⟨t,h,rfl⟩:=a;have l:=gp h;by_cases b:0<c
 .obtain⟨p,s,e,g,c,_,d,_⟩:=F.par h b;exact⟨J,l,.inr ⟨p,g,s,c,J,d⟩⟩
 have:c=0:=J
 subst this;have:=(F.rt t h).1;exact⟨J,l,.inl this⟩
theorem Fo.ZN(b:Sb xs d x)(a:xs[x]? =aN t):t.pa=d∨∃p:Nat,t.pa=p/\Sb xs d p/\p<x/\nL xs p x:=by
 obtain⟨e,f,h⟩:=b;by_cases c:0<x
 .obtain⟨p,s,j,l,m,_,q,r⟩:=F.par a c;have d:nL xs p x:=⟨s,m,J,q⟩
  have n:=gp m;rcases h with rfl | ⟨k,rfl,u,g,o,i⟩
  .exact .inr ⟨p,l,⟨J,n,.inl I⟩,j,d⟩
  have:=r k u g J i;by_cases s:k=p
  .exact .inl J
  exact .inr ⟨p,l,⟨J,n,.inr ⟨k,I,F.tQ ⟨u,g,o,i⟩ d this⟩⟩,j,d⟩
 have:x=0:=J
 subst this;rcases h with rfl | ⟨k,rfl,_⟩
 .exact .inl (F.rt t a).1
 omega
theorem Fo.ai6(h:Sb xs d k)(g:nL xs k x):Sb xs d x:=by
 obtain⟨c,f,a⟩:=h;have l:=F.FL g;have r:k<=x:=by obtain⟨_,_,h,_⟩:=g;exact h
 refine⟨J,l,a.imp id ?_⟩;rintro⟨b,e,m⟩;exact⟨b,e,F.pH m g⟩
theorem Fo.aqb(h:Sb xs d k)(a:Sb xs k x):Sb xs d x:=by
 obtain⟨c,f,g⟩:=a;rcases g with g | ⟨b,e,m⟩
 .omega
 have:b=k:=J
 subst this;exact F.ai6 h m
theorem Fo.ZO:∀(x:Nat),Sb xs d x->∃c,Kc xs d c/\nL xs c x
 | x,h=>by
  obtain⟨t,a⟩:=fE h.2.1;rcases F.ZN h a with e | ⟨p,_,d,W,b⟩
  .exact⟨x,⟨t,a,e⟩,F.uL h.2.1⟩
  obtain⟨c,e,f⟩:=Fo.ZO p d;exact⟨c,e,F.pH f b⟩
theorem Fo.agp(h:Kc xs d c)(f:Kc xs d c')(g:nL xs c x)(a:nL xs c' x):¬c<c':=λb=>by
 obtain⟨t,i,rfl⟩:=f;obtain⟨p,s,l,m,n,_,o,e⟩:=F.par i J;obtain⟨u,j,q,k⟩:=F.tQ g a (Nat.le_of_lt b);have:=e c u j b k;have:=(F.Ti h).1;omega
theorem Fo.JY(h:Kc xs d c)(b:Kc xs d c')(g:nL xs c x)(a:nL xs c' x):c=c':=by
 have:=F.agp h b g a;have:=F.agp b h a g;omega
end
abbrev Ft:=Int×Int
def jQ(f:Ft)(a:L Ft):Ft:=a.foldl (λf p=>if f.1=0 then p else f) f
def bad(ok:M)(e a:Int):L Ft:=if ok then[]else[(e,a)]
def gz f L M:jQ f (L++M)=jQ (jQ f L) M:=jR
def EW{f}(h:f.1≠0):∀L,jQ f L=f
 | []=>rfl
 | p::L=>by
  show jQ (if f.1=0 then p else f) L=f;rw[R h];exact EW h L
def Cd(a:L Ft):Prop:=∀p,p∈a->p.1≠0
def Cd.nil:Cd []:=λp h=>Ux
def Cd.wm{L M}(h:Cd L)(g:Cd M):Cd (L++M):=λp a=>(bQ.1 a).elim (h p) (g p)
def TR:=@Cd.wm
def Cd.bad{ok}{e a}(b:e≠0):Cd (bad ok e a):=λp h=>by
 unfold Con.bad at h;split at h
 .simp at h
 simp at h;subst h;exact b
def Xe:=@Cd.bad
def Cd.flat{c:Type}{f}(h:∀x,Cd (f x))(l:L c):Cd (l.flatMap f):=λp a=>by
 obtain⟨x,_,b⟩:=Cm.1 a;exact h x p b
def EX{L}(a:Cd L)(h:(jQ (0,0) L).1=0):L=[]:=by
 cases L with
 | nil=>rfl
 | cons p L=>
  have b:=a p X;have e:jQ (0,0) (p::L)=jQ p L:=I;rw[e,EW b]at h;exact absurd h b
def Aq{ok}{e a}:bad ok e a=[]↔ok=aF:=by
 unfold bad;cases ok<;>simp
def adg f ok e a:jQ f (bad ok e a)=if(!ok&&f.1==0)=aF then(e,a)else f:=by
 unfold bad;cases ok
 .by_cases h:f.1=0
  .simp[jQ,h]
  simp[jQ,h]
 simp[jQ]
def gj(a:L dC)(s:C):Int:=if zJ s (a.map λx:dC=>x.nm)<qj a then(zJ s (a.map λx:dC=>x.nm))else -1
def ke(s:L dC)(n:Int):Int:=match s[n.toNat]? with
 | some x=>x.k
 | none=>0
def yB(s:L dC)(n:Int):Int:=match s[n.toNat]? with
 | some x=>x.pa
 | none=>0
def Ku(x:L dC)(s:C):M:=YR (0<=gj x s)&&!gv (ke x (gj x s))
def yS(x:L dC)(b a:Nat):M:=match x[b]? with
 | some s=>YR (b<=a)&&YR (a<s.en)
 | none=>aM
def mc(x:L dC)(b a:Int):M:=YR (0<=b/\0<=a)&&yS x b.toNat a.toNat
def rX(x:L dC)(a b:Int):M:=YR (a≠b)&&mc x b a
def Ar(x:L dC)(a b:Int):Nat->Int
 | 0=> -1
 | m+1=>if(mc x m a&&mc x m b)=aF then m else Ar x a b m
def yQ(x:L dC)(a b:Int):Int:=Ar x a b (qj x)
def Hd(x:L dC)(a b:Int):M:=YR (yQ x a b≠a/\yQ x a b≠b)&&YR (ke x (yQ x a b)=2)
def Cx(x:L dC)(s:C):Int:=if gv (ke x (gj x s))then yB x (gj x s)else gj x s
def Kv(x:L dC):L Int->L (C)->M
 | _,[]=>aF
 | l,s::r=>if gj x s<1 then aM else if(l.any λo=>!Hd x (Cx x s) o)then aM else Kv x (l++[Cx x s]) r
mutual
def Cy:Nd->L (C×Int)
 | .mk b l=>(b.nm,b.a)::yR l
def yR:L Nd->L (C×Int)
 | []=>[]
 | x::l=>Cy x++yR l
end
def wj:L (C)->L (C×Int)->L Ft
 | _,[]=>[]
 | l,p::r=>bad (!YR (p.1∈l)) 24 p.2++wj (l++[p.1]) r
def Au:∀p q l,wj l (p++q)=wj l p++wj (l++p.map λx=>x.1) q
 | [],q,l=>by rw[cd,wj,cd,iu,bC]
 | x::p,q,l=>by rw[cb,wj,wj,Au p q,bq,cf,bq];rfl
def Jc:∀l m,yR (l++m)=yR l++yR m
 | [],m=>by rw[cd,yR,cd]
 | x::l,m=>by rw[cb,yR,yR,Jc l m,bq]
mutual
def Mf(a:Nat)(c d:Int):∀x,(I9 a c d x).map (λs:dC=>s.nm)=(Cy x).map λp=>p.1
 | .mk b l=>by rw[I9,Cy,cf,cf,O9]
def O9(a:Nat)(b d:Int):∀l,(uA a b d l).map (λs:dC=>s.nm)=(yR l).map λp=>p.1
 | []=>by rw[uA,yR];rfl
 | x::l=>by rw[uA,yR,cA,cA,Mf,O9]
end
def adi x:qj (Cy x)=iQ x:=by
 have:=bN List.length (Mf 0 0 0 x);rw[bH,bH,nB]at this;exact this.symm
def ahF x:qj (yR x)=dJ x:=by
 have:=bN List.length (O9 0 0 0 x);rw[bH,bH,vF]at this;exact this.symm
def Pa:∀p l,Cd (wj l p)
 | [],l=>Cd.nil
 | x::p,l=>TR (Xe Z) (Pa p _)
section
variable (xs:L dC) (vs:L (C))
def N2(k:Int)(s:C):M:=(YR (k≠2)||YR (s∈vs))&&(YR (k≠3)||Ku xs s)
mutual
def Uo:Ex->L Ft
 | .mk k n s op l a=>bad (N2 xs vs k s) 23 a++uB l
def uB:L Ex->L Ft
 | []=>[]
 | x::l=>Uo x++uB l
end
def ajf x:Uo xs vs x=bad (N2 xs vs x.k x.s) 23 x.a++uB xs vs x.dK:=by cases x;rw[Uo];rfl
def EY:∀l m,uB xs vs (l++m)=uB xs vs l++uB xs vs m
 | [],m=>by rw[cd,uB,cd]
 | x::l,m=>by rw[cb,uB,uB,EY l m,bq]
def Y5(a:Ac):L Ft:=bad (YR (a.k≠1)||YR (a.n∈vs)) 23 a.a++Uo xs vs a.x
def mw(l:L Ac):L Ft:=l.flatMap (Y5 xs vs)
def Mg(m:Mv):M:=(m.k !=3)||(YR (m.wt>0)&&YR (m.wt<=1099511627776))
def Dx(m:Mv):L Ft:=bad (Mg m) 28 m.a++(Uo xs vs m.g++(mw xs vs m.acts++bad (Kv xs [] m.tg) 27 m.a))
def EZ(l:L Nd):Nat:=qj (l.filter λx=>!gv x.b.k)
def Av(s:C)(l:L Nd):M:=l.any λx=>YR (x.b.nm=s)
def wa(b:Nb)(l:L Nd)(at_:Nat):L Ft:=
 if gv b.k then bad (Ku xs b.dft&&rX xs (gj xs b.dft) (yB xs at_)) 26 b.a
 else if b.k=2 then bad (YR (b.ini=[])&&YR (1<EZ l)) 25 b.a
 else if 0<EZ l then bad (Av b.ini l) 25 b.a
 else bad (YR (b.ini=[])) 25 b.a++bad (YR (qj l=0)) 26 b.a
mutual
def N3:Nat->Nd->L Ft
 | n,.mk b l=>wa xs b l n++(mw xs vs (b.en++b.lv)++(b.mv.flatMap (Dx xs vs)++qo (n+1) l))
def qo:Nat->L Nd->L Ft
 | _,[]=>[]
 | n,x::l=>N3 n x++qo (n+iQ x) l
end
def E1:∀l m n,qo xs vs n (l++m)=qo xs vs n l++qo xs vs (n+dJ l) m
 | [],m,n=>by rw[cd,qo,cd,dJ,gy]
 | x::l,m,n=>by rw[cb,qo,qo,E1 l m,bq,dJ,dA]
mutual
def Pb:∀x,Cd (Uo xs vs x)
 | .mk k n s op l a=>by rw[Uo];exact TR (Xe Z) (afh l)
def afh:∀l,Cd (uB xs vs l)
 | []=>by rw[uB];exact Cd.nil
 | x::l=>by rw[uB];exact TR (Pb x) (afh l)
end
def ah7 a:Cd (Y5 xs vs a):=TR (Xe Z) (Pb xs vs a.x)
def RG l:Cd (mw xs vs l):=Cd.flat (ah7 xs vs) l
def ah8 m:Cd (Dx xs vs m):=TR (Xe Z) (TR (Pb xs vs _) (TR (RG xs vs _) (Xe Z)))
def ah9 b l n:Cd (wa xs b l n):=by
 unfold wa;split
 .exact Xe Z
 split
 .exact Xe Z
 split
 .exact Xe Z
 exact TR (Xe Z) (Xe Z)
mutual
def XK:∀(n:Nat) (x:Nd),Cd (N3 xs vs n x)
 | n,.mk b l=>by rw[N3];exact TR (ah9 xs b l n) (TR (RG xs vs _) (TR (Cd.flat (ah8 xs vs) _) (acT (n+1) l)))
def acT:∀(n:Nat) (l:L Nd),Cd (qo xs vs n l)
 | n,[]=>by rw[qo];exact Cd.nil
 | n,x::l=>by rw[qo];exact TR (XK n x) (acT _ l)
end
end
def Mh(c:Ch):L (C):=c.vars.map λv=>v.n
def Aw(c:Ch):L Ft:=wj [] (Cy c.root)++(wj [] (c.vars.map λv=>(v.n,v.a))++N3 (eI c) (Mh c) 0 c.root)
def E2 c:Cd (Aw c):=TR (Pa _ _) (TR (Pa _ _) (XK _ _ _ _))
def aa9{s}:∀{l:L _},zJ s l<(qj l)->l[zJ s l]? =aN s
 | [],h=>Ux
 | x::l,h=>by
  rw[zJ]at h⊢;split
  .rename_i e;rw[e];rfl
  rename_i e;rw[R e,aZ]at h;exact aa9 J
def pW{s}:∀{l:L _},zJ s l<qj l↔s∈l
 | []=>X
 | x::l=>by
  rw[zJ,bh,aZ];split
  .rename_i e;exact⟨λ_=>.inl e,λ_=>J⟩
  rename_i e;have:=pW (s:=s) (l:=l);exact⟨λh=>.inr (this.1 J),λh=>by have:=this.2 (h.resolve_left e);omega⟩
def Jd{s} m:∀{l:L _},s∈l->zJ s (l++m)=zJ s l
 | [],h=>Ux
 | x::l,h=>by
  rw[cb,zJ,zJ];split
  .rfl
  rename_i e;rw[Jd m ((bh.1 h).resolve_left e)]
def Je{s} m:∀{l:L _},s∉l->zJ s (l++s::m)=qj l
 | [],_=>by rw[cd,zJ,K I];rfl
 | x::l,h=>by
  rw[cb,zJ,R (λe=>h (by rw[e];simp)),Je m (λa=>h (dX _ a))];rfl
section
variable {xs:L dC} {s:C}
def jt xs s:(gj xs s= -1/\∀x∈xs,x.nm≠s)∨∃(n:Nat) (x:dC),gj xs s=n/\xs[n]? =aN x/\x.nm=s:=by
 unfold gj;split
 .rename_i h;right;have:=aa9 (l:=xs.map λx:dC=>x.nm) (s:=s) (by rw[bH];exact h);rw[cw,fm]at this;obtain⟨x,a,e⟩:=this;exact⟨_,x,I,a,e⟩
 rename_i h;refine .inl ⟨I,λx a e=>h ?_⟩;have:=(pW (s:=s) (l:=xs.map λx:dC=>x.nm)).2 (eo.2 ⟨x,a,e⟩);rwa[bH]at this
def fJ{n:Nat}{x}(h:xs[n]? =aN x):ke xs n=x.k:=by unfold ke;rw[ba,h]
def jZ{n:Nat}{x}(h:xs[n]? =aN x):yB xs n=x.pa:=by unfold yB;rw[ba,h]
def Cur{b a}:yS xs b a=aF↔nL xs b a:=by
 unfold yS nL;rcases h:xs[b]? with _|s
 .simp
 simp
def rY{b a}:mc xs b a=aF↔∃i j:Nat,b=i/\a=j/\nL xs i j:=by
 unfold mc;rw[B,cx,Cur];constructor
 .rintro⟨⟨a,b⟩,h⟩;exact⟨_,_,(gu a).symm,(gu b).symm,h⟩
 rintro⟨i,j,rfl,rfl,h⟩;exact⟨⟨J,J⟩,h⟩
def Ax{a b}:rX xs a b=aF↔∃i j:Nat,b=i/\a=j/\i<j/\nL xs i j:=by
 unfold rX;rw[B,cx,rY];constructor
 .rintro⟨n,i,j,rfl,rfl,h⟩;have:=h;obtain⟨_,_,r,_⟩:=this;exact⟨i,j,I,I,J,h⟩
 rintro⟨i,j,rfl,rfl,a,h⟩;exact⟨J,i,j,I,I,h⟩
def uC a b:∀n,(Ar xs a b n= -1/\∀m,m<n->(mc xs m a&&mc xs m b)=aM)∨∃m:Nat,Ar xs a b n=m/\m<n/\(mc xs m a&&mc xs m b)=aF/\∀j,m<j->j<n->(mc xs j a&&mc xs j b)=aM
 | 0=>.inl ⟨I,λm h=>J⟩
 | n+1=>by
  rw[Ar];split
  .rename_i h;exact .inr ⟨n,I,J,h,λj a b=>J⟩
  rename_i h;rw[pN]at h;rcases uC a b n with⟨c,d⟩ | ⟨m,c,d,f,g⟩
  .exact .inl ⟨c,λm a=>if e:m=n then by rw[e];exact h else d m J⟩
  exact .inr ⟨m,c,J,f,λj a b=>if e:j=n then by rw[e];exact h else g j a J⟩
def Fo.aen(F:Fo xs){a b r}(f:Mt xs [a,b] r)(p:vG xs a)(u:vG xs b):r=yQ xs a b:=by
 have v:∀n,n∈[a,b]->vG xs n:=λn d=>by
  simp at d;rcases d with rfl | rfl
  .exact p
  exact u
 obtain⟨m,rfl,t,w⟩:=f.aqa X v;have o:∀j:Nat,(mc xs j a&&mc xs j b)=aF↔∀n,n∈[a,b]->∃k:Nat,n=k/\nL xs j k:=λj=>by
  rw[B,rY,rY];constructor
  .rintro⟨⟨q,k,e,rfl,c⟩,⟨r,s,x,rfl,h⟩⟩ n d;simp at d;have b:j=q:=J
   have a:j=r:=J
   subst b a;rcases d with rfl | rfl
   .exact⟨k,I,c⟩
   exact⟨s,I,h⟩
  intro f;obtain⟨k,e,c⟩:=f a X;obtain⟨q,n,h⟩:=f b X;exact⟨⟨j,k,I,e,c⟩,⟨j,q,I,n,h⟩⟩
 have g:=(o m).2 t;have y:m<qj xs:=by
  obtain⟨k,_,s,b,_⟩:=t a X;exact gp b
 unfold yQ;rcases uC (xs:=xs) a b (qj xs) with⟨_,h⟩ | ⟨q,c,h,i,l⟩
 .rw[h m y]at g;cases g
 have:=w q ((o q).1 i);by_cases e:q=m
 .rw[c,e]
 rw[l m J y]at g;cases g
end
end Go.Proofs.YtdfibecibkijiaaGreatDoor.Con
namespace Go.Proofs.YtdfibecibkijiaaGreatDoor.Con
open Go Go.RowKit Go.Kt Go.Kt.V Go.Proofs.YtdfibecibkijiaaGreatDoor.Vc
def n9(x:L dC)(s:C):Int:=if s=[]then -1 else gj x s
def XN(x:L dC)(l:L Int):Nat->Int
 | 0=> -1
 | n+1=>if(l.all λk=>mc x n k)=aF then n else XN x l n
def HI(x:L dC)(n:Int):M:=YR (0<=n)&&YR (n<qj x)
def Ay{x:L dC}{n:Int}:HI x n=aF↔vG x n:=by
 unfold HI vG;rw[B,bF,bF]
def Zs(x:L dC)(l:L Int):Int:=if l=[]∨(l.any λn=>!HI x n)=aF then -1 else XN x l (qj x)
def xi(x:L dC)(l:L Int):∀n:Nat,(XN x l n= -1/\∀m,m<n->(l.all λk=>mc x m k)=aM)∨∃m:Nat,XN x l n=m/\m<n/\(l.all λk=>mc x m k)=aF/\∀j,m<j->j<n->(l.all λk=>mc x j k)=aM
 | 0=>.inl ⟨I,λm h=>J⟩
 | n+1=>by
  unfold XN;by_cases h:(l.all λk=>mc x n k)=aF
  .rw[K h];exact .inr ⟨n,I,J,h,λj a b=>J⟩
  rw[R h];have h:(l.all λk=>mc x n k)=aM:=U3
  rcases xi x l n with⟨a,b⟩ | ⟨m,a,b,c,d⟩
  .exact .inl ⟨a,λm f=>(qN.1 f).elim (b m) λe=>EC⟩
  exact .inr ⟨m,a,J,c,λj f g=>(qN.1 g).elim (d j f) λe=>EC⟩
def tB{x:L dC}{l:L Int}{m:Nat}:(l.all λk=>mc x m k)=aF↔∀n:Int,n∈l->∃k:Nat,n=k/\nL x m k:=by
 rw[du];constructor
 .intro h n c;obtain⟨i,j,d,a,b⟩:=rY.1 (h n c);have:i=m:=J
  subst this;exact⟨j,a,b⟩
 intro h n c;obtain⟨k,a,b⟩:=h n c;exact rY.2 ⟨m,k,I,a,b⟩
def Fo.aqc{x:L dC}(F:Fo x){l:L Int}{r:Int}(h:Mt x l r):r=Zs x l:=by
 unfold Zs;rcases h with⟨a,b⟩ | ⟨⟨a,b⟩,m,d,c,e⟩
 .rw[K,b];rcases a with a | ⟨n,g,f⟩
  .exact .inl a
  refine .inr (gr.2 ⟨n,g,?_⟩);rw[da,eF];exact λh=>f (Ay.1 h)
 rw[R]
 .obtain⟨n,p⟩:=qf l a;obtain⟨k,_,hk⟩:=c n p;have f:m<qj x:=by
   obtain⟨s,t,_⟩:=hk;exact gp t
  rcases xi x l (qj x) with⟨_,g⟩ | ⟨q,i,u,j,o⟩
  .have:=g m f;rw[tB.2 c]at this;cases this
  have k:=e q (tB.1 j);have:m<=q:=by
   refine jy λn=>?_;have:=o m n f;rw[tB.2 c]at this;cases this
  rw[i,d];omega
 rintro(h | h)
 .exact a h
 obtain⟨n,g,f⟩:=gr.1 h;rw[Ay.2 (b n g)]at f;cases f
def Gs(x:L dC)(l:L Int):Nat->Int->Int
 | 0,d=>d
 | n+1,d=>if 0<d/\(ke x d≠1∨d∈l)then Gs x l n (yB x d)else d
def BA(x:L dC)(s:Int)(t:L Int):Int:=if t=[]then -1 else Gs x (s::t) (qj x) (Zs x (s::t))
structure Ro where
 src:Int
 slot:Int
 k:Int
 ev:C
 wt:Int
 tg:List Int
 dom:Int
def LJ(x:L dC)(a i:Nat)(m:Mv):Ro:=⟨a,i,m.k,m.ev,m.wt,m.tg.map (n9 x),BA x a (m.tg.map (n9 x))⟩
def He(x:L dC)(a:Nat):Nat->L Mv->L Ro
 | _,[]=>[]
 | i,m::l=>LJ x a i m::He x a (i+1) l
mutual
def Mi(x:L dC):Nat->Nd->L Ro
 | a,.mk b l=>He x a 0 b.mv++qp x (a+1) l
def qp(s:L dC):Nat->L Nd->L Ro
 | _,[]=>[]
 | a,x::l=>Mi s a x++qp s (a+iQ x) l
end
mutual
def Kw:Nd->L Nb
 | .mk b l=>b::E3 l
def E3:L Nd->L Nb
 | []=>[]
 | x::l=>Kw x++E3 l
end
structure Pl where
 sp:List dC
 ini:List Int
 dft:List Int
 ro:List Ro
def my(c:Ch):Pl:=⟨eI c,(Kw c.root).map λb=>n9 (eI c) b.ini,(Kw c.root).map λb=>n9 (eI c) b.dft,Mi (eI c) 0 c.root⟩
def RJ:∀l m:L Nd,E3 (l++m)=E3 l++E3 m
 | [],m=>by rw[cd,E3,cd]
 | x::l,m=>by rw[cb,E3,E3,RJ l m,bq]
mutual
def Az:∀x,qj (Kw x)=iQ x
 | .mk b l=>by rw[Kw,iQ,aZ,AA]
def AA:∀l,qj (E3 l)=dJ l
 | []=>by rw[E3,dJ];rfl
 | x::l=>by rw[E3,dJ,aP,Az,AA]
end
def ahI(s:L dC):∀(l m:L Nd) (a:Nat),qp s a (l++m)=qp s a l++qp s (a+dJ l) m
 | [],m,a=>by rw[cd,qp,cd,dJ,gy]
 | x::l,m,a=>by rw[cb,qp,qp,ahI s l m,bq,dJ,dA]
def E4(s:L dC)(a:Nat):∀(l:L Mv) (i:Nat) (m:Mv),He s a i (l++[m])=He s a i l++[LJ s a (i+qj l) m]
 | [],i,m=>rfl
 | x::l,i,m=>by
  rw[cb,He,He,E4 s a l,cb,aZ];congr 4;omega
def xT(s:L dC)(a:Nat):∀(l:L Mv) (i:Nat),qj (He s a i l)=qj l
 | [],_=>rfl
 | x::l,i=>by rw[He,aZ,aZ,xT s a l]
def ne(l:C):M:=!YR (l=[])
def iJ(w:L (C)):C:=Lib.join (w.filter ne) [32]
def Only.below{w a:aw}(h:Below w.heap.size w a):az [] w a:=⟨h.os,h.tape,h.output,h.size,λk hk _=>h.block k hk⟩
def Pc{w:aw}{F:A}:∀{l:L (C)} {s:L (aJ)},pR nU 1 w F l s->s.flatten=l.map λx=>ab (T x)
 | [],[],_=>rfl
 | c::l,d::s,a=>by
  obtain⟨⟨_,h⟩,b⟩:=a;unfold nU at h;subst h;rw[fk,Pc b];rfl
def abK(l:C)(w:aw):aA aq 257 #[ab (T l)] w λe a=>e=ak (aj (YR (l=[])))/\a=w:=by
 refine ret (aoF ?_);exact⟨by rw[show ao #[]=T []from rfl,ji],I⟩
section
variable {w:aw} {B:Nat} {F:A} {s:Sl} {ws:L (C)}
def abt(b:Own nU 1 9 B w F s ws):aA aq 280 #[s.v,.func (.func 257) #[] #[]] w λe a=>
  ∃i:Int,e=ak (O U i)/\a=w/\((i= -1/\ws.filter ne=ws)∨∃n:Nat,i=n/\n<qj ws/\(ws.take (n+1)).filter ne=ws.take n):=by
 refine(aoO s ⟨.func (.func 257) #[] #[],I⟩ (λv a=>∃i:Int,v=O U i/\a=w/\((i= -1/\ws.filter ne=ws)∨∃n:Nat,i=n/\n<qj ws/\(ws.take (n+1)).filter ne=ws.take n)) w ?_).mono (by
  rintro e a ⟨v,rfl,i,rfl,b⟩;exact⟨i,I,b⟩)
 have h:=b.slice dG;have g:=h.len;have H:=h.big;have p:=h.cap;refine⟨λd i a=>∃n:Nat,n<=qj ws/\i=(n:Int)/\d=(qj ws)-n/\(ws.take n).filter ne=ws.take n/\a=w,qj ws,⟨0,bf _,I,I,I,I⟩,?_⟩;rintro d _ f ⟨n,k,rfl,rfl,j,rfl⟩;refine⟨λc=>?_,λc=>?_⟩
 .have W:(n:Int)<s.n:=u c;obtain⟨ad,x,r,o,l,v,w,q,m⟩:=h.get (be n) W;rw[ba]at l;unfold nU at m;subst m;have t:ws.take (n+1)=ws.take n++[x]:=by
   rw[bn,l];rfl
  refine⟨ad,o,_,q,257,[],[],I,gN E,?_⟩;refine(abK x f).mono ?_;rintro _ y ⟨rfl,rfl⟩;refine⟨_,I,λe=>⟨_,I,I,.inr ⟨n,I,J,?_⟩⟩,λe=>⟨(qj ws)-(n+1),J,n+1,J,Ye,I,?_,I⟩⟩
  .have e:x=[]:=u e;rw[t,fh,j,e];simp[ne]
  have e:x≠[]:=aU e;rw[t,fh,j];simp[ne,e]
 have l:¬(n:Int)<s.n:=aU c;rw[bm J]at j;exact⟨_,I,I,.inl ⟨I,j⟩⟩
def aeV(h:Own nU 1 9 B w F s ws):aA aq 256 #[s.v,.func (.func 257) #[] #[]] w λe c=>
  ∃f:Sl,e=ak f.v/\Own nU 1 9 B c F f (ws.filter ne)/\aE (λk=>B<=k) w c:=by
 refine(aoE s ⟨.func (.func 257) #[] #[],I⟩ (λv c=>∃f:Sl,v=f.v/\Own nU 1 9 B c F f (ws.filter ne)/\aE (λk=>B<=k) w c) w ?_).mono (by
  rintro e c ⟨v,rfl,f,rfl,h⟩;exact⟨f,I,h⟩)
 have m:=h.len;have l:=h.cap;have o:=(h.slice dG).big;refine(abt h).mono ?_;rintro _ j ⟨g,rfl,rfl,i⟩;refine⟨g,I,λd=>?_,λd=>?_⟩
 .rcases i with⟨_,a⟩ | ⟨n,rfl,b,a⟩
  .rw[a];exact⟨s,I,h,YW _ _⟩
  have:(n:Int)= -1:=eq_of_beq d;omega
 rcases i with⟨rfl,_⟩ | ⟨n,rfl,r,e⟩
 .exact absurd d Z
 refine⟨λK a b c=>∃(y:L (C)) (p q:Nat),a=p/\b=q/\p<q/\q<=qj ws/\K=(qj ws)-q/\qj y=qj ws/\y.take p=(ws.take q).filter ne/\y.drop q=ws.drop q/\Own nU 1 9 B c F s y/\aE (λk=>B<=k) j c,
  (qj ws)-(n+1),⟨ws,n,n+1,I,Ye,J,J,I,I,e.symm,I,h,YW _ _⟩,?_⟩
 rintro K _ _ N ⟨y,p,q,rfl,rfl,M,Q,rfl,D,z,hd,O,A⟩;refine⟨λd=>?_,λd=>?_⟩
 .have W:(q:Int)<s.n:=u d;have P:q<qj ws:=J
  obtain⟨ad,x,cs,V,R,g3,g4,X,S⟩:=(O.slice dG).get (be q) W;rw[ba]at R;unfold nU at S;subst S;have hx:ws[q]? =aN x:=by
   rw[<-R];have k:=bN (λn=>n[0]?) hd;simpa using k.symm
  have U:ws.take (q+1)=ws.take q++[x]:=by
   rw[bn,hx];rfl
  have t:∀b:L (C),(∀a,q+1<=a->b[a]? =y[a]?)->b.drop (q+1)=ws.drop (q+1):=λb Y=>by
   apply oa;intro a;rw[iC,iC,Y _ J];have k:=bN (λn=>n[1+a]?) hd;simp only[iC]at k;rw[show q+1+a=q+(1+a) by omega];exact k
  refine⟨λa w=>∃(b:L (C)) (v:Nat),a=v/\v<q+1/\qj b=qj ws/\b.take v=(ws.take (q+1)).filter ne/\b.drop (q+1)=ws.drop (q+1)/\Own nU 1 9 B w F s b/\aE (λk=>B<=k) j w,?_,ad,V,_,X,257,[],[],I,gN E,?_⟩
  .rintro _ w ⟨b,v,rfl,k,n,p,s,x,B⟩;exact⟨(qj ws)-(q+1),J,b,v,q+1,I,Ye,k,P,I,n,p,s,x,B⟩
  refine(abK x N).mono ?_;rintro _ w ⟨rfl,rfl⟩;refine⟨_,I,λhb=>?_,λhb=>?_⟩
  .have hb:x≠[]:=Xu
   obtain⟨am,cells,q,b2,b3,b4,b5⟩:=O.store dG (n:=p) J (x:=x) (vs:=[ab (T x)]) (G:=λ_=>False) I I (λk hk=>hk.elim) Z;refine⟨⟨am,p*1,Pw⟩,b2,am,p*1,cells,_,I,b3,b4,λw3 s wv=>⟨y.set p x,p+1,Ye,J,by rw[wz];exact D,?_,t _ λa hj=>by rw[GM J],b5 w3 s wv,A.trans (s.p (F:=λk=>B<=k) λk hk=>.inl ?_) λk hk=>.inl hk⟩⟩
   .rw[U,fh,<-z,bn,sY J,Ko J];simp[ne,hb]
   simp only[aV]at hk;subst hk;rcases O with⟨rfl,_⟩ | ⟨p,_,_,k,n,_⟩
   .cases q
   rw[k]at q;injection q with q;injection q with q;omega
  have hb:x=[]:=Xu
  refine⟨y,p,I,J,D,?_,t _ λa _=>I,O,A⟩;rw[U,fh,<-z,hb];simp[ne]
 have U:¬(q:Int)<s.n:=aU d;have b:q=qj ws:=J
 subst b;rw[bm (H _)]at z;obtain⟨S,T,x,a,G,R⟩:=Own.clear (P:=aq) (t:=80) (ty:=0) (i:=p) dG Z E (λw=>Tryz.zeroValue9 w) (by intro v n;simp[Value.cells]at n;subst n;rfl) I O J;refine⟨p,⟨I,J,l⟩,S,x,p,⟨I,J⟩,_,I,?_,A.trans (G.p (F:=λk=>B<=k) λk hk=>.inl ?_) λk hk=>.inl hk⟩
 .rw[<-z];exact R
 simp only[aV]at hk;subst hk;rcases O with⟨rfl,_⟩ | ⟨q,_,_,k,p,_⟩
 .cases a
 rw[k]at a;injection a with a;injection a with a;omega
def E5(h:Own nU 1 9 B w F s ws)(r:qj (iJ ws)<=140737488355328)(z:qj ws<=140737488355328):aA aq 219 #[s.v] w λe t=>e=ak (ab (T (iJ ws)))/\aE (λk=>B<=k) w t:=by
 refine ret (aoj ?_);refine(aeV h).mono ?_;rintro _ b ⟨g,rfl,O,P⟩;refine⟨g,I,?_⟩;have f:=O.len;have A:=cH ne ws;have V:∀{a:aw},az [] b a->aE (λk=>B<=k) w a:=λh=>P.trans h.p0 λk hk=>.inl hk;rcases O with⟨rfl,q⟩ | ⟨p,o,tail,c,u,d,i,j,l,n,m⟩
 .refine(Tryz.strings_Join_none Pw 0 (T [32]) b).mono ?_;rintro _ a ⟨rfl,rfl⟩;refine⟨_,I,?_,P⟩;unfold iJ;rw[q];rfl
 obtain⟨s,sn,sc⟩:=g;dsimp only at c i j l n f;subst c f;have W:=Pc m;have:=Tryz.strings_Join p 0 sc ((ws.filter ne).map T) (T [32]) b (λk x e=>by
  rw[cw,fm]at e;obtain⟨y,w,rfl⟩:=e;have:=d.cells 0 ((ws.filter ne).map λx=>Value.string (T x)) (λk v e=>by rw[bR,W,bZ (bc.1 e).1];exact e) k (ab (T y)) (by rw[cw,w];rfl);rw[iK]at this;exact this) d.lt UI UI (by
  rw[iv];have:((λx:D=>x.data.toList)∘T)=id:=I;rw[this,VK];exact r)
 rw[bH]at this;refine this.mono ?_;rintro _ a ⟨rfl,B⟩;refine⟨_,I,?_,V (Only.below B)⟩;rw[iv];have:((λx:D=>x.data.toList)∘T)=id:=I;rw[this,VK];rfl
end
def Hg(a:aw)(s:L (C)){n:Nat}{parts:Array (Nat×ay)}(p:parts=(((s.map λx=>Value.string (T x)).zipIdx 0).map λx=>(x.2,x.1)).toArray)(c:qj s=n)(h:0<n)(y:n*1<=16777216)(l:qj (iJ s)<=140737488355328):
  ∃(q:Sl) (w:aw),(av 80 n parts).run aq a=.ok q.v w/\az [] a w/\Own nU 1 9 a.heap.size w (λ_=>True) q s/\aA aq 219 #[q.v] w λe f=>e=ak (ab (T (iJ s)))/\aE (λk=>a.heap.size<=k) w f:=by
 obtain⟨q,w,d,b,k3⟩:=lp a s p c h y;exact⟨q,w,d,k3,b,E5 b l J⟩
def kR:∀(w:L (C)),qj (iJ w)<=(w.map λl=>qj l+1).sum:=by
 have h:∀(r:L (C)),qj (Lib.joinTail [32] r)=(r.map λl=>qj l+1).sum:=λr=>by
  induction r with
  | nil=>rfl
  | cons x r i=>
   unfold Lib.joinTail at i⊢;rw[cf,fk,aP,i,cf,dl];simp
 have a:∀(r:L (C)),qj (Lib.join r [32])<=(r.map λl=>qj l+1).sum:=λr=>by
  cases r with
  | nil=>exact bf _
  | cons x r=>
   rw[Lib.join_cons,aP,h,cf,dl];omega
 have b:∀(r:L (C)),((r.filter ne).map λl=>qj l+1).sum<=(r.map λl=>qj l+1).sum:=λr=>by
  induction r with
  | nil=>exact H _
  | cons x r i=>
   rw[pO,cf,dl];split
   .rw[cf,dl];omega
   omega
 exact λw=>bB (a _) (b w)
structure Fz (bs:List Nat) (w w':aw) (ks:List Nat):Prop where
 o:az bs w w'
 k:∀x,x∈ks->w.heap.size<=x/\x<w'.heap.size
 lo:∀x,x∈bs->x<w.heap.size
section
variable {bs bs' ks ks':L Nat} {w w1 w2 w':aw} {k0 b:Nat}
def Fz.start(l:∀x,x∈bs->x<w.heap.size):Fz bs w w []:=⟨Ib _ _,λ_ h=>Ue,l⟩
def Fz.go(h:Fz bs w w1 ks)(k:az bs' w1 w2)(b:∀x,x∈bs'->x∈bs∨x∈ks):Fz bs w w2 ks:=
 ⟨h.o.trans k λx a=>(b x a).imp id λhk=>(h.k x hk).1,λx a=>⟨(h.k x a).1,cq (h.k x a).2 k.size⟩,h.lo⟩
def Fz.new(h:Fz bs w w1 ks)(k:az bs' w1 w2)(b:∀x,x∈bs'->x∈bs∨w.heap.size<=x):Fz bs w w2 ks:=
 ⟨h.o.trans k b,λx a=>⟨(h.k x a).1,cq (h.k x a).2 k.size⟩,h.lo⟩
def Fz.q(h:Fz bs w w1 ks)(k:az [] w1 w2):Fz bs w w2 ks:=h.go k λx hx=>Ub
def Fz.c(h:Fz (b::bs) w w1 ks)(k:az [b] w1 w2):Fz (b::bs) w w2 ks:=h.go k λx hx=>.inl T5
def Fz.f(a:Fz bs w w1 ks)(k:az [k0] w1 w2)(hk:k0∈ks):Fz bs w w2 ks:=a.go k λx h=>.inr (by simp at h;rw[h];exact hk)
def Fz.al(h:Fz bs w w1 ks)(k:az [] w1 w2)(b:w1.heap.size<=k0)(c:k0<w2.heap.size):Fz bs w w2 (k0::ks):=
 ⟨(h.q k).o,λx a=>by
  rcases bh.1 a with rfl | a
  .exact⟨bB h.o.size b,c⟩
  exact(h.q k).k x a,h.lo⟩
def Fz.sm(h:Fz bs w w1 ks)(k:az bs' w1 w2)(hk:∀x,x∈ks'->x∈ks)(b:∀x,x∈bs'->x∈bs∨∀y,y∈ks'->y≠x):cj ks' w1 w2:=k.same λx a=>
 ⟨(h.k x (hk x a)).2,λm=>by
  rcases b x m with c | c
  .have:=(h.k x (hk x a)).1;have:=h.lo x c;omega
  exact c x a I⟩
def Fz.sq(h:Fz bs w w1 ks)(k:az [] w1 w2)(hk:∀x,x∈ks'->x∈ks):cj ks' w1 w2:=h.sm k hk λx hx=>Ub
def Fz.sc(h:Fz (b::bs) w w1 ks)(k:az [b] w1 w2)(hk:∀x,x∈ks'->x∈ks):cj ks' w1 w2:=h.sm k hk λx hx=>.inl T5
def Fz.ne(h:Fz bs w w1 ks)(hk:k0∈ks)(a:b∈bs):k0≠b:=λe=>by
 have:=(h.k k0 hk).1;have:=h.lo b a;omega
end
section
variable {α:Type} {r:Rp α} {w w1 w':aw} {x:α} {cs:aJ} {B:Nat}
structure Stay (B:Nat) (w w':aw):Prop where
 sz:w.heap.size<=w'.heap.size
 eq:∀k,B<=k->k<w.heap.size->w'.heap[k]? =w.heap[k]?
def Stay.refl B w:Stay B w w:=⟨H _,λ_ _ _=>I⟩
def PR:=@Stay.refl
def Stay.go{bs}(h:Stay B w w1)(k:az bs w1 w')(c:∀x,x∈bs->x<B∨w.heap.size<=x):Stay B w w':=
 ⟨bB h.sz k.size,λi b a=>(k.block i (cq a h.sz) λm=>by have:=c i m;omega).trans (h.eq i b a)⟩
def Stay.of{bs}(k:az bs w w')(h:∀x,x∈bs->x<B∨w.heap.size<=x):Stay B w w':=(PR B w).go k h
def _root_.Go.Kt.Rp.Ok.stay(h:r.Ok)(a:r w (Fr B) x cs)(s:Stay B w w'):r w' (Fr B) x cs:=
 h.mono (h.keep (h.inHeap a) λk hk b=>s.eq k hk.1 b) λk hk=>hk.1
def _root_.Go.Kt.Rp.Ok.low(b:r.Ok)(h:r w (Fr B) x cs){A}(a:A<=B):r w (Fr A) x cs:=b.mono h λk hk=>bB a hk
variable {size:Nat} {e:TypeId} {s:Sl} {xs:L α} {t:M}
def ly.stay(h:r.Ok)(c:ly t r size e w (Fr B) s xs)(a:0<size)(d:Stay B w w'):ly t r size e w' (Fr B) s xs:=
 ((c.inHeap h a).keep h a λk hk b=>d.eq k hk.1 b).mono h λk hk=>hk.1
def ly.low(b:r.Ok)(h:ly t r size e w (Fr B) s xs){A}(a:A<=B):ly t r size e w (Fr A) s xs:=h.mono b λk hk=>bB a hk
end
abbrev Wh(l:Sl)(s:Sx):aJ:=[l.v,O U s.i,O U s.fc,O U s.fa,O U s.v,O U s.n,O U s.d,O U s.m,O U s.a]
structure Sr (F:A) (ts:List Tk) (w:aw) (b:Nat) (l:Sl) (s:Sx):Prop where
 blk:aG w b 176 (Wh l s)
 tok:aB OZ 4 w F l ts
 hF:∀k,F k->k<b
 en:um ts
 lt:s.i<qj ts
 sm:qj ts<=16777216
abbrev rp(b:Nat):ay:=ae (aN ⟨b,0,Pw⟩)
section
variable {F:A} {ts:L Tk} {w w':aw} {b:Nat} {l:Sl} {s s':Sx}
def Sr.own(h:Sr F ts w b l s){bs}(O:az bs w w')(hb:∀x,x∈bs->b<x):Sr F ts w' b l s:=
 ⟨O.blk h.blk λhm=>(by have:=hb b hm;omega),Wg jk Z h.tok O λk hk _ hm=>NA,h.hF,h.en,h.lt,h.sm⟩
def Sr.ZP(h:Sr F ts w b l s){bs}(O:az bs w w')(a:∀x,x∈bs->x≠b/\¬F x):Sr F ts w' b l s:=
 ⟨O.blk h.blk λm=>(a b m).1 I,Wg jk Z h.tok O λk hk _ m=>(a k m).2 hk,h.hF,h.en,h.lt,h.sm⟩
def Sr.ai7(a:Sr F ts w b l s){k0}(O:az [k0] w w')(hk:k0≠b/\¬F k0):Sr F ts w' b l s:=a.ZP O λx h=>(by simp at h;subst h;exact hk)
def Sr.gt(h:Sr F ts w b l s){x}(c:b<x):x≠b/\¬F x:=⟨J,λa=>by have:=h.hF x a;omega⟩
def Sr.only(h:Sr F ts w b l s)(O:az [] w w'):Sr F ts w' b l s:=h.own O λx hx=>Ub
def Sr.one(h:Sr F ts w b l s){k0}(O:az [k0] w w')(hk:b<k0):Sr F ts w' b l s:=h.own O λx hx=>Ua
def Sr.lG(h:Sr F ts w b l s)(O:az [b] w w')(B:aG w' b 176 (Wh l s'))(i:s'.i<qj ts):Sr F ts w' b l s':=
 ⟨B,Wg jk Z h.tok O λk hk _ hm=>Ta,h.hF,h.en,i,h.sm⟩
def Sr.lb(h:Sr F ts w b l s):b<w.heap.size:=h.blk.lt
def Sr.z(a:Sr F ts w b l s):Fz [b] w w []:=Fz.start λx h=>(by simp at h;rw[h];exact a.lb)
def Sr.big(h:Sr F ts w b l s):qj ts<=9223372036854775807:=by
 have a:=h.tok.len;have c:=h.tok.cap;have d:=h.tok.big;omega
def Sr.wr(h:Sr F ts w b l s):au U (s.i+1)=((s.i+1:Nat)):=by
 have:=h.big;have:=h.lt;rw[eS J J];rfl
def Sr.now(h:Sr F ts w b l s):∃ad,cK l s.i 4 ad/\aD w ad [O U (tk ts s.i).k,ab (T (tk ts s.i).t),O U (tk ts s.i).n,O U (tk ts s.i).a]:=by
 have j:=h.tok.len;have W:=h.lt;obtain⟨ad,x,e,a,g,f,i,c,d⟩:=h.tok.get (be s.i) J;rw[ba,EG h.lt]at g;injection g with g;subst g;subst d;exact⟨ad,a,c⟩
structure Dn (F:A) (ts:List Tk) (w w':aw) (b:Nat) (l:Sl) (s:Sx):Prop where
 o:az [b] w w'
 r:Sr F ts w' b l s
def Sr.dn(h:Sr F ts w b l s):Dn F ts w w b l s:=⟨Ib _ _,h⟩
def Dn.q(h:Dn F ts w w' b l s){w2}(k:az [] w' w2):Dn F ts w w2 b l s:=⟨h.o.bU k,h.r.only k⟩
def Dn.nx(h:Dn F ts w w' b l s){w2}{s'}(k:Dn F ts w' w2 b l s'):Dn F ts w w2 b l s':=⟨h.o.trans k.o λx a=>.inl a,k.r⟩
def Dn.f(h:Dn F ts w w' b l s){w2}{k0}(k:az [k0] w' w2)(hk:w.heap.size<=k0)(a:b<w.heap.size):Dn F ts w w2 b l s:=⟨h.o.new k hk,h.r.one k J⟩
def Sr.tk(h:Sr F ts w b l s){ad}(g:cK l s.i 4 ad):aD w ad [O U (tk ts s.i).k,ab (T (tk ts s.i).t),O U (tk ts s.i).n,O U (tk ts s.i).a]:=by
 obtain⟨y,a,c⟩:=h.now;rw[g.CZ a];exact c
structure Zt (F:A) (ts:List Tk) (w w':aw) (b:Nat) (l:Sl) (s:Sx) (ks:List Nat):Prop where
 z:Fz [b] w w' ks
 r:Sr F ts w' b l s
section
variable {w2:aw} {ks ks':L Nat} {k0:Nat}
def Sr.zt(h:Sr F ts w b l s):Zt F ts w w b l s []:=⟨h.z,h⟩
def Zt.q(h:Zt F ts w w' b l s ks)(k:az [] w' w2):Zt F ts w w2 b l s ks:=⟨h.z.q k,h.r.only k⟩
def Zt.al(h:Zt F ts w w' b l s ks)(k:az [] w' w2)(a:w'.heap.size<=k0)(c:k0<w2.heap.size):Zt F ts w w2 b l s (k0::ks):=⟨h.z.al k a c,h.r.only k⟩
def Zt.ad(h:Zt F ts w w' b l s ks)(c:w.heap.size<=k0)(d:k0<w'.heap.size):Zt F ts w w' b l s (k0::ks):=⟨⟨h.z.o,λx a=>by
 rcases bh.1 a with rfl | a
 .exact⟨c,d⟩
 exact h.z.k x a,h.z.lo⟩,h.r⟩
def Zt.lt(h:Zt F ts w w' b l s ks)(hk:k0∈ks):b<k0:=cq (h.z.lo b X) (h.z.k k0 hk).1
def Zt.f(h:Zt F ts w w' b l s ks)(k:az [k0] w' w2)(hk:k0∈ks):Zt F ts w w2 b l s ks:=⟨h.z.f k hk,h.r.one k (h.lt hk)⟩
def Zt.nx(h:Zt F ts w w' b l s ks)(k:Dn F ts w' w2 b l s'):Zt F ts w w2 b l s' ks:=⟨h.z.c k.o,k.r⟩
def Zt.dn(h:Zt F ts w w' b l s ks):Dn F ts w w' b l s:=⟨h.z.o,h.r⟩
def Zt.up(h:Zt F ts w w' b l s ks)(k:az [b] w' w2)(B:aG w2 b 176 (Wh l s'))(i:s'.i<qj ts):Zt F ts w w2 b l s' ks:=⟨h.z.c k,h.r.lG k B i⟩
def Zt.sq(h:Zt F ts w w' b l s ks)(k:az [] w' w2)(hk:∀x,x∈ks'->x∈ks):cj ks' w' w2:=h.z.sq k hk
def Zt.sc(h:Zt F ts w w' b l s ks)(k:Dn F ts w' w2 b l s')(hk:∀x,x∈ks'->x∈ks):cj ks' w' w2:=h.z.sc k.o hk
def Zt.row{gs}(h:Zt F ts w w' b l s ks)(k:az gs w' w2)(g:∀x,x∈gs->w.heap.size<=x):Zt F ts w w2 b l s ks:=⟨h.z.new k λx a=>.inr (g x a),h.r.own k λx a=>cq (h.z.lo b X) (g x a)⟩
def Zt.sr{gs}(h:Zt F ts w w' b l s ks)(k:az gs w' w2)(hk:∀x,x∈ks'->x∈ks)(g:∀x,x∈gs->∀y,y∈ks'->y<x):cj ks' w' w2:=h.z.sm k hk λx a=>.inr λy c e=>by have:=g x a y c;omega
def Zt.ne(h:Zt F ts w w' b l s ks)(hk:k0∈ks):k0≠b:=h.z.ne hk X
def Stay.q{B}(h:Stay B w w')(k:az [] w' w2):Stay B w w2:=h.go k λx hx=>Ub
def Stay.d{B}(h:Stay B w w')(k:Dn F ts w' w2 b l s')(a:b<B):Stay B w w2:=h.go k.o λx hx=>.inl Ua
def Stay.f{B}(a:Stay B w w')(k:az [k0] w' w2)(hk:k0<B∨w.heap.size<=k0):Stay B w w2:=a.go k λx h=>(by simp at h;subst h;exact hk)
end
def pX(h:Sr F ts w b l s):aA aq 122 #[rp b] w λe w'=>e=ak (aj (s.fc==0))/\az [] w w':=by
 exact ret (anx w ⟨s.fc,Om h.blk 2 I,I,Ib _ _⟩)
def Dy(h:Sr F ts w b l s) c:aA aq 158 #[rp b,O U c] w λe w'=>e=ak (ai #[])/\Dn F ts w w' b l (jX ts s c):=by
 refine ret (anL ?_);refine(pX h).mono ?_;rintro _ a ⟨rfl,n⟩;refine⟨_,I,λhc d r=>?_,λhc=>?_⟩
 .have hc:=Yc
  have e:=h.only (n.bU r);obtain⟨ad,g,f⟩:=e.now;refine⟨l,Om e.blk 0 I,_,Om e.blk 1 I,ad,g,_,f.dP 3 _ I,b,2,_,_,I,e.blk,X,λw P m=>⟨I,((n.bU r).weaken (bs':=[b]) λ_ h=>Ue).trans P λx i=>.inl i,?_⟩⟩;unfold jX;rw[K hc];exact e.lG (s':={s with fc:=c,fa:=(tk ts s.i).a}) P m h.lt
 unfold jX;rw[R Yc];exact⟨I,h.dn.q n⟩
def xj(h:Sr F ts w b l s):aA aq 123 #[rp b] w λe w'=>e=ak (ai #[])/\Dn F ts w w' b l (lP ts s):=by
 refine ret (anz ?_);obtain⟨ad,g,d⟩:=h.now;refine⟨λw'=>Dn F ts w w' b l (if(tk ts s.i).k=5 then jX ts s 3 else s),λi a=>(Dy a.r 4).mono ?_,l,Om h.blk 0 I,_,Om h.blk 1 I,ad,g,_,d.dP 0 _ I,λhc f c=>?_,λhc f c=>?_⟩
 .rintro _ w ⟨rfl,b⟩;refine⟨I,I,a.nx ?_⟩;unfold lP;split at b
  .rename_i e;rw[K e];exact b
  rename_i e;rw[R e];exact b
 .refine(Dy (h.only c) 3).mono ?_;rintro _ w ⟨rfl,b⟩;have hc:=Yc
  refine⟨I,?_⟩;rw[K hc];exact(h.dn.q c).nx b
 rw[R Yc];exact h.dn.q c
def apg{s}{w}{G}{l}(h:aB nU 1 w G s l) c:
  aA aq 212 #[Sl.v s,ab (T c)] w λr w'=>r=ak (O U (if zJ c l<qj l then zJ c l else -1))/\w'=w:=by
 refine ret (afy ?_);have f:=h.len;have H:=h.big;have d:=h.cap;refine⟨λv i w'=>∃n,n<=qj l/\i=n/\v=(qj l)-n/\zJ c l=n+zJ c (l.drop n)/\w'=w,qj l,⟨0,bf _,I,I,by rw[gJ,bR],I⟩,?_⟩;rintro v _ _ ⟨n,b,rfl,rfl,p,rfl⟩;refine⟨λa=>?_,λa=>?_⟩
 .have W:=u a;obtain⟨ad,x,s,c,g,m,o,j,k⟩:=h.get (be n) W;rw[ba]at g;subst k;have hd:l.drop n=x::l.drop (n+1):=by rw[eu (bc.1 g).1,(bc.1 g).2]
  rw[hd,zJ]at p;refine⟨ad,c,_,j,?_⟩;dsimp only;rw[ji];refine⟨λe=>⟨?_,I⟩,λe=>⟨(qj l)-_,J,n+1,J,Ye,I,?_,I⟩⟩
  .have e:=u e;rw[K e]at p;rw[K J,p,gy]
  rw[R (aU e)]at p;omega
 have l:=aU a;rw[R J];exact⟨I,I⟩
def E6(j:Sr F ts w b l s){G}{q}{ss}(a:aB nU 1 w G q ss):aA aq 160 #[rp b,q.v] w λe w'=>e=ak (O U (cX ts s ss))/\az [] w w':=by
 refine ret (anN ?_);intro o d;have h:=j.only d;obtain⟨ad,g,i⟩:=h.now;refine⟨λ_=>True,trivial,l,Om h.blk 0 I,trivial,_,Om h.blk 1 I,ad,g,trivial,_,_,_,_,i,λm p hk k r=>?_⟩;refine(pX (h.only r)).mono ?_;rintro _ t ⟨rfl,P⟩;have n:=(d.bU r).bU P;have f:((!(s.fc==0))||(((tk ts s.i).k !=2)&&((tk ts s.i).k !=4)))=YR (s.fc≠0∨((tk ts s.i).k≠2/\(tk ts s.i).k≠4)):=by
  rw[bK];simp
 refine⟨_,I,P.same S,?_⟩;dsimp only;rw[f];refine⟨λc=>?_,λc=>?_⟩
 .unfold cX;rw[K (u c)];exact⟨I,n⟩
 refine(apg (Wg dG Z a n X) (tk ts s.i).t).mono ?_;rintro _ w ⟨rfl,rfl⟩;refine⟨_,I,TT _ _,?_,n⟩;unfold cX;rw[R (aU c)];have l:=a.len;have e:=a.big;have b:=a.cap;split
 .rw[eS J J];rfl
 rfl
def RL(h:Sr F ts w b l s) ss {n} {parts} (p:parts=(((ss.map λx=>Value.string (T x)).zipIdx 0).map λx=>(x.2,x.1)).toArray) (d:qj ss=n) (c:0<n) (y:n*1<=16777216):
  ∃(q:Sl) (a:aw),(av 80 n parts).run aq w=.ok q.v a/\az [] w a/\aA aq 160 #[rp b,q.v] a λe w'=>e=ak (O U (cX ts s ss))/\az [] a w':=by
 obtain⟨q,a,k,f,k3⟩:=lp w ss p d c y;exact⟨q,a,k,k3,E6 (h.only k3) (vY f)⟩
def adj(h:Sr F ts w b l s){G}{q}{ss}(f:aB nU 1 w G q ss):aA aq 119 #[rp b,q.v] w λe w'=>e=ak (O U (cX ts s ss))/\Dn F ts w w' b l (if cX ts s ss=0 then s else ez s):=by
 refine ret (anu ?_);refine(E6 h f).mono ?_;rintro _ g ⟨rfl,c⟩;have a:=h.only c;refine⟨_,I,λw'=>Dn F ts w w' b l _,λi d=>⟨I,d⟩,λhc=>?_,λhc=>?_⟩
 .have hc:cX ts s ss≠0:=Zm
  refine⟨_,Om a.blk 1 I,b,1,_,_,I,a.blk,X,λw P m=>?_⟩;rw[R hc];rw[h.wr]at m;exact⟨(c.weaken (bs':=[b]) λ_ h=>Ue).trans P λx e=>.inl e,a.lG (s':=ez s) P m (h.en.next h.lt (dZ hc).2)⟩
 have hc:cX ts s ss=0:=Xt
 rw[K hc];exact h.dn.q c
def Hh(h:Sr F ts w b l s) ss {n} {parts} (p:parts=(((ss.map λx=>Value.string (T x)).zipIdx 0).map λx=>(x.2,x.1)).toArray) (d:qj ss=n) (c:0<n) (y:n*1<=16777216):
  ∃(q:Sl) (a:aw),(av 80 n parts).run aq w=.ok q.v a/\az [] w a/\aA aq 119 #[rp b,q.v] a λe w'=>e=ak (O U (cX ts s ss))/\Dn F ts a w' b l (if cX ts s ss=0 then s else ez s):=by
 obtain⟨q,a,k,f,k3⟩:=lp w ss p d c y;exact⟨q,a,k,k3,adj (h.only k3) (vY f)⟩
def RM(h:Sr F ts w b l s){G}{q}{x}(a:aB nU 1 w G q [x])(d:∀k,G k->k≠b):aA aq 117 #[rp b,q.v] w λe w'=>e=ak (ai #[])/\Dn F ts w w' b l (fA ts s x):=by
 refine ret (ans ?_);have f:q.n=1:=a.len;refine⟨λv i w'=>(i=0/\v=1/\w'=w)∨(i=1/\v=0/\Dn F ts w w' b l (fA ts s x)),1,.inl ⟨I,I,I⟩,?_⟩;rintro v i c (⟨rfl,rfl,rfl⟩ | ⟨rfl,rfl,D⟩)
 .refine⟨λ_=>?_,λhc=>absurd (aU hc) J⟩;refine⟨λw'=>Dn F ts c w' b l _,λE p=>⟨0,Z,.inr ⟨I,I,p⟩⟩,?_⟩;obtain⟨ad,y,A,k,j,B,C,m,o⟩:=a.get (i:=0) Z J;simp at j;subst j;subst o;obtain⟨w,z,r,t,k3⟩:=Hh h [x] (n:=1) (parts:=#[_]) I I Z Z;refine⟨ad,k,_,m,w,z,r,k3.mono ?_⟩;rintro _ G ⟨rfl,q⟩;have g:=(h.dn.q t).nx q;refine⟨_,I,λhc=>?_,λhc=>?_⟩
  .have hc:cX ts s [x]=0:=by have:=Yc;omega
   rw[K hc]at g;refine(xj g.r).mono ?_;rintro _ e ⟨rfl,b⟩;refine⟨I,?_⟩;unfold fA;rw[K hc];exact g.nx b
  have hc:cX ts s [x]≠0:=λe=>by rw[e]at hc;simp at hc
  rw[R hc]at g;unfold fA;rw[R hc];exact g
 exact⟨λhc=>absurd (u hc) J,λ_=>⟨I,D⟩⟩
def uD(h:Sr F ts w b l s) x:∃(q:Sl) (a:aw),(av 80 1 #[.mk 0 (ab (T x))]).run aq w=.ok q.v a/\az [] w a/\aA aq 117 #[rp b,q.v] a λe w'=>e=ak (ai #[])/\Dn F ts a w' b l (fA ts s x):=by
 obtain⟨q,a,c,d,k3⟩:=lp w [x] (n:=1) (parts:=#[_]) I I Z Z;exact⟨q,a,c,k3,RM (h.only k3) (vY d) λk hk e=>(by have:=hk.1;have:=h.lb;omega)⟩
def AB(h:Sr F ts w b l s){k}(q:k≠5):aA aq 159 #[rp b,O U k] w λe w'=>e=ak (io ts s k).1.v/\Dn F ts w w' b l (io ts s k).2:=by
 refine ret (anM ?_);intro t y hk G n;have a:=h.only n;obtain⟨ad,j,m⟩:=a.now;refine⟨λ_=>True,trivial,l,Om a.blk 0 I,trivial,_,Om a.blk 1 I,ad,j,trivial,_,_,_,_,m,λv A p o r=>?_⟩;have g:=(h.z.al n hk G).al r p o;refine(pX (a.only r)).mono ?_;rintro _ B ⟨rfl,P⟩;have z:=g.q P;have f:=h.lb;have d:=h.dn.q ((n.bU r).bU P);have i:((!(s.fc==0))||((tk ts s.i).k !=k))=YR (s.fc≠0∨(tk ts s.i).k≠k):=by
  rw[bK];simp
 refine⟨_,I,g.sq P X,?_⟩;dsimp only;rw[i];refine⟨λc=>(xj d.r).mono ?_,λc=>?_⟩
 .rintro _ w ⟨rfl,b⟩;refine⟨I,z.sc b.o X,λe Q=>?_⟩;unfold io;rw[K (u c)];exact⟨I,(d.nx b).f Q hk f⟩
 refine⟨_,Om d.r.blk 1 I,b,1,_,_,I,d.r.blk,X,z.ne X X,z.ne X X,λE e k H V=>?_⟩;have c:=aU c;unfold io;rw[R c];simp at c;rw[h.wr]at k;have C:Dn F ts w E b l (ez s):=⟨d.o.trans e λx D=>.inl D,d.r.lG e k (h.en.next h.lt (by rw[c.2];exact q))⟩
 exact⟨I,C.f V hk f⟩
def AD(h:Sr F ts w b l s):aA aq 214 #[rp b] w λe w'=>e=ak (ab (T (li ts s).1))/\Dn F ts w w' b l (li ts s).2:=by
 refine ret (aoe ?_);refine(AB h (k:=1) Z).mono ?_;rintro _ c ⟨rfl,a⟩;exact⟨_,_,_,_,I,I,a⟩
def _root_.Go.Kt.Blk.at0{w}{b}{t}{cs}{v}(h:aG w b t cs) j (x:cs[j]? =aN v):aD w ⟨b,j,Pw⟩ [v]:=by
 have:=Om h j x;rwa[iK,bR]at this
def Jf(h:Sr F ts w b l s) j x c u (d:(Wh l s)[j]? =aN (.int U x)) (g:(Wh l (jX ts s c))[j]? =aN (.int U x)) (i:u.i=s.i)
  (f:Wh l u=gD (Wh l (if x=0 then jX ts s c else s)) j [O U (Bw x)]):aA aq 157 #[rp b,ae (aN ⟨b,j,Pw⟩),O U c] w λe w'=>e=ak (ai #[])/\Dn F ts w w' b l u:=by
 refine ret (anK ?_);refine⟨λw'=>Dn F ts w w' b l (if x=0 then jX ts s c else s),λk a=>?_,_,I,x,Blk.at0 h.blk j d,λhc=>?_,λhc=>?_⟩
 .refine⟨_,I,x,Blk.at0 a.r.blk j (by split<;>assumption),_,I,b,j,_,_,I,a.r.blk,(bc.1 d).1,λw c s=>⟨I,a.o.trans c λx d=>.inl d,a.r.lG c (s':=u) ?_ (by rw[i];exact h.lt)⟩⟩;rw[f];exact s
 .refine(Dy h c).mono ?_;rintro _ w ⟨rfl,b⟩;have hc:=Yc
  rw[K hc];exact⟨I,b⟩
 rw[R Yc];exact h.dn
def aib(h:Sr F ts w b l s):aA aq 157 #[rp b,ae (aN ⟨b,8,Pw⟩),O U 2] w λe w'=>e=ak (ai #[])/\Dn F ts w w' b l (Bx ts s):=
 Jf h 8 s.a 2 _ I PN (I1 s) (by unfold Bx jX;split<;>(try split)<;>rfl)
def aic(h:Sr F ts w b l s):aA aq 157 #[rp b,ae (aN ⟨b,7,Pw⟩),O U 2] w λe w'=>e=ak (ai #[])/\Dn F ts w w' b l (vD ts s):=
 Jf h 7 s.m 2 _ I PN (I2 s) (by unfold vD jX;split<;>(try split)<;>rfl)
def aid(h:Sr F ts w b l s):aA aq 157 #[rp b,ae (aN ⟨b,5,Pw⟩),O U 2] w λe w'=>e=ak (ai #[])/\Dn F ts w w' b l (Gm ts s):=
 Jf h 5 s.n 2 _ I PN (by unfold Gm;split;exact IX 2;rfl) (by unfold Gm jX;split<;>(try split)<;>rfl)
def aie(h:Sr F ts w b l s):aA aq 157 #[rp b,ae (aN ⟨b,4,Pw⟩),O U 2] w λe w'=>e=ak (ai #[])/\Dn F ts w w' b l (Gn ts s):=
 Jf h 4 s.v 2 _ I PN (by unfold Gn;split;exact IX 2;rfl) (by unfold Gn jX;split<;>(try split)<;>rfl)
def RN(h:Sr F ts w b l s):aA aq 248 #[rp b] w λe w'=>∃c,e=ak (ah c.toArray)/\rE aF w' (Fr w.heap.size) (rS ts s).1 c/\Dn F ts w w' b l (rS ts s).2:=by
 refine gX (aoA ?_);intro a p hk j n;have f:=h.lb;have z:=h.z.al n hk j;refine(pX (h.only n)).mono ?_;rintro _ q ⟨rfl,r⟩;have o:=z.q r;have g:=h.dn.q (n.bU r);refine⟨_,I,z.sq r X,λhc t P=>?_,λhc m Z=>?_⟩
 .have hc:s.fc≠0:=Yc
  unfold rS;rw[K hc];exact⟨_,I,IK _ _ _,g.f P hk f⟩
 have hc:¬s.fc≠0:=Yc
 have z3:=o.q Z;have E:=g.q Z;refine⟨λk=>k=b,λw4 Q=>⟨I,l,Om (E.q Q).r.blk 0 I,λw5 e=>⟨I,_,Om ((E.q Q).q e).r.blk 1 I,λU V=>?_⟩⟩⟩;have z6:=((z3.q Q).q e).q V;have G:=((E.q Q).q e).q V;have aS:=G.r.big;have W:=h.lt;refine(Rj G.r.tok s.i ⟨J,J⟩).mono ?_;rintro _ Y ⟨c,rfl,C,hj,B⟩;have d7:=G.q B;obtain⟨sl,T,_⟩:=C.cells;have aT:m.heap.size<=U.heap.size:=((Q.bU e).bU V).size;refine⟨_,_,_,_,sl,_,_,_,_,by rw[T],z6.sq B X,qR.Tf B,Uy B,λw8 M v lm jP N=>?_⟩;obtain⟨d,C⟩:=C.xg;have S:rE aF Y (λk=>U.heap.size<=k/\k<Y.heap.size) (cN ts s.i).1 c:=⟨d,C⟩
 have am:=bB z3.o.size lm;have aC:=J
 have y:=d7.q M;have bY:=z6.o.size;have bV:=z.k a X;have bv:=((r.bU Z).bU ((Q.bU e).bU V)).size;have u:∀{bs:L Nat} {D:aw},az bs w8 D->(∀x,x∈bs->x=v∨x=a∨x=b)->rE aF D (Fr w.heap.size) (cN ts s.i).1 c:=λA O=>
  (jJ aF).mono ((jJ aF).keep S λk F W=>(A.block k (cq W M.size) λb=>by
   rcases O k b with rfl | rfl | rfl
   .have:=N.one;omega
   .omega
   omega).trans (M.block k W X)) λk F=>by have:=F.1;show w.heap.size<=k;omega
 unfold rS;rw[R hc];refine⟨λh1 D A=>?_,λh1 ey H=>?_⟩
 .have h1:(cN ts s.i).2.2.1≠0:=Gb
  have i:Dn F ts w D b l s:=⟨y.o.trans A λx hx=>.inr LM,y.r.own A λx hx=>LM⟩
  refine⟨b,2,_,_,I,i.r.blk,X,J,J,λdq k pK dB eG=>?_⟩;rw[K h1];have d:Dn F ts w dq b l {s with fc:=(cN ts s.i).2.2.1,fa:=(cN ts s.i).2.2.2}:=⟨i.o.trans k λx hx=>.inl hx,i.r.lG k pK h.lt⟩
  refine⟨c,by rw[T],?_,d.f eG hk f⟩;exact u (bs:=[v,a,b]) (((A.weaken (bs':=[v,a,b]) λx hx=>.inl SG).trans k λx hx=>.inl T5).trans eG λx hx=>.inl Wl) X
 have h1:¬(cN ts s.i).2.2.1≠0:=Gb
 have d:Dn F ts w ey b l s:=⟨y.o.trans H λx hx=>.inr LM,y.r.own H λx hx=>LM⟩
 obtain⟨TD,J8⟩:=hj Gb;have ej:((cN ts s.i).2.1.toNat)=(cN ts s.i).2.1:=gu TD;refine⟨b,1,_,_,I,d.r.blk,X,J,J,λeY dE xF fV eZ=>?_⟩;rw[R h1];have k:Dn F ts w eY b l {s with i:=(cN ts s.i).2.1.toNat}:=⟨d.o.trans dE λx hx=>.inl hx,d.r.lG dE (by dsimp only[Wh];rw[ej];exact xF) KQ⟩
 refine⟨c,by rw[T],?_,k.f eZ hk f⟩;exact u (bs:=[v,a,b]) (((H.weaken (bs':=[v,a,b]) λx hx=>.inl (by simp at hx⊢;omega)).trans dE λx hx=>.inl (by simp[aV]at hx;simp[hx])).trans eZ λx hx=>.inl (by simp[aV]at hx;simp[hx])) X
end
def aph{n:Nat}(h:((n:Int)==0)=aF):n=0:=U3
def api{n:Nat}(h:((n:Int)==0)=aM):n≠0:=λe=>by rw[e]at h;simp at h
def Ur{n:Nat}(h:YR ((n:Int)>0)=aM):n=0:=by have:=aU h;omega
def Us{n:Nat}(h:YR ((n:Int)>0)=aF):n≠0:=KO
section
variable {F:A} {ts:L Tk} {w w':aw} {b:Nat} {l:Sl} {s s':Sx}
def aif(f:Sr F ts w b l s):aA aq 251 #[rp b] w λe w'=>∃d,e=ak (ah d.toArray)/\uW aF w' (Fr w.heap.size) (uu ts s).1 d/\Dn F ts w w' b l (uu ts s).2:=by
 refine gX (aoD ?_);intro k W hk G y;have t:=f.zt.al y hk G;obtain⟨ad,m,_⟩:=f.now;refine⟨λ_=>True,λY r=>⟨trivial,l,Om (t.q r).r.blk 0 I,λw2 P=>⟨trivial,_,Om ((t.q r).q P).r.blk 1 I,ad,m,λw3 v=>?_⟩⟩⟩;have o:=((t.q r).q P).q v;refine⟨trivial,_,(o.r.tk m).dP 3 _ I,λM Q=>?_⟩;have p:=o.q Q;obtain⟨q,N,a,L,c⟩:=lp M [tM,lQ,mZ] (n:=3) (parts:=#[(0,ab _),_,_]) I I Z Z;refine⟨q,N,a,p.sq c X,qR.Tf c,Uy c,λw6 V=>?_⟩;have j:=(p.q c).q V;refine(E6 j.r (Wg dG Z (vY L) V X)).mono ?_;rintro _ w7 ⟨rfl,g⟩;refine⟨_,I,j.sq g X,qR.Tf g,Uy g,λw8 A i E D C=>?_⟩;have u:=((j.q g).q A).ad (bB t.z.o.size E) D;refine⟨λh w9 B=>?_,λh S z=>?_⟩
 .have b:=u.f B X;refine(xj b.r).mono ?_;rintro _ q ⟨rfl,w⟩;refine⟨I,b.sc w X,λl e=>?_⟩;have h:=aph h;unfold uu;rw[K h,h];exact⟨_,I,⟨oM 0 0 [] 0 Sl.nil 0,I,IK _ _ _⟩,((b.nx w).f e X).dn⟩
 have h:=api h;have am:=u.f z X;refine(aib am.r).mono ?_;rintro _ eY ⟨rfl,vS⟩;have aC:=am.nx vS;refine⟨I,am.sc vS X,(pX aC.r).mono ?_⟩;rintro _ fV ⟨rfl,eZ⟩;have n:=aC.q eZ;unfold uu;rw[R h];refine⟨_,I,aC.sq eZ X,λhf fT ir=>?_,λhf=>?_⟩
 .have hf:=f0
  rw[K hf];exact⟨_,I,⟨oM 0 0 [] 0 Sl.nil 0,I,IK _ _ _⟩,(n.f ir X).dn⟩
 have hf:¬(Bx ts s).fc≠0:=f0
 rw[R hf];refine⟨_,Om n.r.blk 1 I,b,1,_,_,I,n.r.blk,X,n.ne X,n.ne X,λiE iH bv=>?_⟩;rw[n.r.wr]at bv;have aT:Zt F ts w iE b l (ez _) [i,k]:=n.up iH bv (f.en.next n.r.lt (by rw[I1];exact(dZ h).2));refine(AD aT.r).mono ?_;rintro _ gL ⟨rfl,TB⟩;have bV:=aT.nx TB;refine⟨_,I,aT.sc TB X,λjH kg=>?_⟩;have aS:=bV.f kg X;generalize (li ts (ez _)).2=bY at*
 generalize (li ts (ez _)).1=nm at*
 generalize cX ts s [tM,lQ,mZ]=kk at*
 generalize (tk ts s.i).a=aa at*
 refine⟨λi4 s1 i5 i6 s2 i7 l2 i8 i9 w'=>∃(x:Ex) (u':Sx),i4=(kk:Int)/\s1=T nm/\i9=aa/\rE aF w' (Fr jH.heap.size) x [O U i5,O U i6,ab s2,O U i7,l2.v,O U i8]/\Zt F ts w w' b l u' [i,k]/\O2 ts bY kk nm aa=(⟨kk,nm,x,aa⟩,fA ts u' [59])/\jH.heap.size<=w'.heap.size,?_,λrF=>?_,λrF=>?_⟩
 .rintro i4 s1 i5 i6 s2 i7 l2 i8 i9 kf ⟨x,u',rfl,rfl,rfl,hx,e,T,cc⟩;obtain⟨q,j8,a,s,F⟩:=uD e.r [59];refine⟨q,j8,a,e.sq s X,F.mono ?_⟩;rintro _ mB ⟨rfl,b⟩;have l:=e.q s;refine⟨I,l.sc b X,λoH w=>?_⟩;rw[T];have zk:=aS.z.k k X;have zs:=aS.z.o.size;refine⟨_,I,⟨[O U i5,O U i6,ab s2,O U i7,l2.v,O U i8],I,?_⟩,((l.nx b).f w X).dn⟩;exact(jJ aF).low ((jJ aF).stay hx ((((PR _ _).q s).d b aS.r.lb).f w (.inl zk.2))) zs
 .have rF:¬kk=2:=λe=>by rw[e]at rF;simp at rF
  obtain⟨q,sM,a,O,U⟩:=uD aS.r [61];refine⟨q,sM,a,aS.sq O X,U.mono ?_⟩;rintro _ qK ⟨rfl,b⟩;have w:=aS.q O;have s:=w.nx b;refine⟨I,w.sc b X,(RN s.r).mono ?_⟩;rintro _ pI ⟨d,rfl,T,l⟩;obtain⟨sl,rfl⟩:=fD T;refine⟨_,_,_,_,sl,_,I,s.sc l X,λry F=>?_⟩;have x:jH.heap.size<=qK.heap.size:=bB O.size b.o.size;have zk:=aS.z.k i X;refine⟨_,_,I,I,I,(jJ aF).low ((jJ aF).stay T ((PR _ _).f F (.inl J))) x,(s.nx l).f F X,?_,bB x (bB l.o.size F.size)⟩;unfold O2;rw[R rF]
 have rF:=MT
 have rF:kk=2:=J
 refine⟨zI,bY,I,I,I,IK _ _ _,aS,?_,H _⟩;unfold O2;rw[K rF]
abbrev AcO(B:Nat)(w:aw)(l:Sl)(a:L Ac):Prop:=Own (uW aF) 9 227 B w (Fr B) l a
structure Br (F:A) (ts:List Tk) (w w':aw) (b:Nat) (l:Sl) (k0 k1 B:Nat) (s:Sx) (acc:List Ac) (la:Sl):Prop where
 r:Sr F ts w' b l s
 b0:aG w' k0 170 [rp b]
 b1:aG w' k1 23 [la.v]
 own:AcO B w' la acc
 o:∃gs,az (b::k1::gs) w w'/\∀x,x∈gs->B<=x
 n0:b<k0
 n1:b<k1
 n01:k0≠k1
 l0:k0<B
 l1:k1<B
 lB:B<=w'.heap.size
section
variable {k0 k1 B:Nat} {acc:L Ac} {la:Sl} {w2:aw}
def Br.nx(h:Br F ts w w' b l k0 k1 B s acc la)(k:Dn F ts w' w2 b l s'):Br F ts w w2 b l k0 k1 B s' acc la:=by
 have n:=h.n0;have e:=h.n1;have d:=h.l0;obtain⟨g,a,c⟩:=h.o;exact⟨k.r,k.o.blk h.b0 S,k.o.blk h.b1 S,h.own.stay (dW aF) k.o λx hx=>.inl Ua,
  ⟨g,a.trans k.o λx hx=>.inl T5,c⟩,n,e,h.n01,d,h.l1,bB h.lB k.o.size⟩
def Br.q(h:Br F ts w w' b l k0 k1 B s acc la)(k:az [] w' w2):Br F ts w w2 b l k0 k1 B s acc la:=h.nx (h.r.dn.q k)
def aig(h:Br F ts w w' b l k0 k1 B s acc la)(m:qj acc<qj ts):aA aq 250 #[ae (aN ⟨k1,0,Pw⟩),ae (aN ⟨k0,0,Pw⟩)] w' λe w2=>e=ak (ai #[])/\∃K,Br F ts w w2 b l k0 k1 B (uu ts s).2 (acc++[(uu ts s).1]) K:=by
 refine ret (aoC ?_);intro w0 N;have d:=h.q N;have H:=h.n1;have l1:=h.l1;refine⟨λk=>k=k1,I,la,d.b1.at0 0 I,_,d.b0.at0 0 I,(aif d.r).mono ?_⟩;rintro _ w1 ⟨cs,rfl,hx,C⟩;have z:=d.nx C;generalize Ce:(uu ts s).1=c at*
 generalize (uu ts s).2=s1 at*
 have M:=hx;obtain⟨xc,rfl,V⟩:=M;obtain⟨sl,rfl⟩:=fD V;have yV:=h.r.sm;have Y:=d.own.len;obtain⟨y,w2,R,q,K,L,S,sJ,⟨j,A,yX⟩,_⟩:=kx (P:=aq) (t:=23) (ty:=23) (e:=227) (i:=Tryz.t227) (bytes:=104) (size:=9) (v:=ah (R5 c.k c.n (oM c.x.k c.x.n c.x.s c.x.op sl c.x.a) c.a).toArray) (x:=c) (G:=Fr w0.heap.size) E E I I I I Z Z Z (dW aF) z.own z.lB I hx (λk hk _=>⟨bB d.lB hk,d.own.new hk⟩) J;have a:=(q.weaken (bs':=j) λ_ h=>Ue).trans A λx hx=>.inl hx;have u:∀f,f∈j->B<=f:=λf T=>(yX f T).2.1;refine⟨_,_,_,_,_,_,sl,_,_,I,λk hk W=>(by subst hk;exact C.o.block k W Uf),y,w2,R,Uy q,K,L,S,λk hk W=>(by subst hk;exact A.block k W λm=>(by have:=u k m;omega)),k1,0,_,_,I,a.blk z.b1 (λm=>by have:=u k1 m;omega),X,λw4 Q sO=>⟨I,K,?_⟩⟩;have n0:=h.n0;have n:=h.n01;have D:=h.l0;have z3:=a.size;have z4:=Q.size;have p:=z.lB;have o:∀{x:Nat},x<B->x≠k1->w4.heap[x]? =w1.heap[x]? :=λhx hn=>(Q.block _ J H7).trans (a.block _ J λm=>(by have:=u _ m;omega));obtain⟨g,o1,o2⟩:=z.o;have r:Sr F ts L b l s1:=z.r.own a λx hx=>(by have:=u x hx;omega)
 refine⟨r.one Q H,(o D n).trans z.b0,sO,?_,⟨j++g,(((o1.weaken (bs':=b::k1::(j++g)) λx hx=>.inl (by simp only[bh,bQ]at hx⊢;rcases hx with hx | hx | hx<;>simp[hx])).trans a λx hx=>.inl Ze)).trans Q λx hx=>.inl Wl,λx hx=>?_⟩,n0,H,n,D,l1,J⟩
 .refine((sJ.mono (dW aF) λk hk=>?_).stay (dW aF) Q λx hx=>.inl Ua);rcases hk with hk | hk
  .exact hk
  exact bB p hk
 rcases bQ.1 hx with hx | hx
 .exact u x hx
 exact o2 x hx
def inc(f:Nat)(g:Br F ts w w' b l k0 k1 B s acc la)(i:mu ts s<f)(p:qj acc+mu ts s<=qj ts):
  aA aq 249 #[rp b,ab (ao #[125]),.func (.func 250) #[] #[ae (aN ⟨k1,0,Pw⟩),ae (aN ⟨k0,0,Pw⟩)]] w' λe w2=>e=ak (ai #[])/\∃c,Br F ts w w2 b l k0 k1 B (rT ts f acc s).2 (rT ts f acc s).1 c:=by
 refine ret (aoB ⟨b,0,Pw⟩ ⟨.func _ #[] #[ae _,ae (aN ⟨k0,0,Pw⟩)],I⟩ w' ?_);generalize j:rT ts f acc s=r;refine⟨λv w2=>∃s' a c,Br F ts w w2 b l k0 k1 B s' a c/\rT ts v a s'=r/\mu ts s'<v/\qj a+mu ts s'<=qj ts,f,⟨s,acc,la,g,j,i,p⟩,?_⟩;rintro v t ⟨s',a,c,d,h,k,V⟩;obtain⟨m,rfl⟩:∃m,v=m+1:=⟨v-1,J⟩
 rw[rT]at h;refine⟨λo w2=>(o=aF/\s'.fc=0/\cX ts s' [[125]]=0/\Br F ts w w2 b l k0 k1 B s' a c)∨(o=aM/\Br F ts w w2 b l k0 k1 B r.2 r.1 c),?_,(pX d.r).mono ?_⟩
 .rintro o e (⟨rfl,f,w,b⟩ | ⟨rfl,b⟩)
  .refine⟨λ_=>⟨250,[],[_,_],I,gN E,?_⟩,λq=>(by cases q)⟩;rw[R (by simp[f]),R (by simp[w])]at h;have u:=ah4 d.r.en f d.r.lt;have s:mu ts s'<=qj ts:=RF
   refine(aig b J).mono ?_;rintro _ x ⟨rfl,l,n⟩;exact⟨I,m,J,_,_,l,n,h,J,XO⟩
  exact⟨λl=>(by cases l),λ_=>⟨I,c,b⟩⟩
 rintro _ w ⟨rfl,Q⟩;have b:=d.q Q;refine⟨_,I,λhc=>?_,λhc=>?_⟩
 .have hc:s'.fc=0:=Yc
  rw[R (by simp[hc])]at h;obtain⟨q,u,l,s,hk⟩:=Hh b.r [[125]] (n:=1) (parts:=#[(0,ab (T [125]))]) I I Z Z;refine⟨q,u,l,hk.mono ?_⟩;rintro _ x ⟨rfl,e⟩;have e:=(b.q s).nx e;refine⟨_,I,?_⟩;by_cases f:cX ts s' [[125]]=0
  .rw[K f]at e;exact .inl ⟨by rw[f];rfl,hc,f,e⟩
  rw[R f]at e;rw[K f]at h;subst h;exact .inr ⟨by simpa using f,e⟩
 have hc:s'.fc≠0:=Yc
 rw[K hc]at h;subst h;exact .inr ⟨I,b⟩
end
def E7(h:Sr F ts w b l s):aA aq 215 #[rp b] w λe w'=>∃c,e=ak c.v/\ly aF (uW aF) 9 227 w' (Fr w.heap.size) c (lR ts s).1/\Dn F ts w w' b l (lR ts s).2:=by
 refine gX (aoh ?_);intro u v G N S m P n;have t:=((h.zt.q n).ad N S).ad m P;obtain⟨q,C,o,r,p⟩:=uD t.r [123];refine⟨q,C,o,t.sq r X,p.mono ?_⟩;rintro _ f ⟨rfl,i⟩;have j:=t.q r;have d:=j.nx i;refine⟨I,j.sc i X,λg L=>?_⟩;have E:=h.lb;have B:Br F ts f f b l u v f.heap.size _ [] Sl.nil:=
  ⟨d.r,g,L,Yb _ _ _ _ _ _,⟨[],Ib _ _,λ_ h=>Ue⟩,J,J,λe=>(by subst e;have:=g.symm.trans L;simp at this),g.lt,L.lt,H _⟩
 refine(inc (qj ts+1) B RF (by rw[bE,bR];unfold mu;split<;>omega)).mono ?_;rintro _ K ⟨rfl,c,a⟩;have z:=d.z.o.size;obtain⟨D,y,A⟩:=a.o;refine⟨I,_,a.b0,_,a.b1,c,I,?_,?_,a.r⟩
 .exact(a.own.sl (dW aF) λk hk=>hk).low (dW aF) z
 exact d.z.o.trans y λx h=>by
  simp at h;rcases h with rfl | rfl | h
  .exact .inl X
  .exact .inr m
  exact .inr (bB z (A x h))
end
section
variable {F:A} {ts:L Tk} {w w':aw} {b:Nat} {l:Sl} {s s':Sx}
structure MvX (A:Nat) (w:aw) (m:Mv) (k:Int) (ev:D) (wt:Int) (gd:Bool) (gc:aJ) (tU:Sl) (a:Int):Prop where
 e1:k=m.k
 e2:ev=T m.ev
 e3:wt=m.wt
 e4:gd=m.gd
 e5:a=m.a
 g:rE aF w (Fr A) m.g gc
 x:ly aF (uW aF) 9 227 w (Fr A) tU m.acts
def MvX.stay{A:Nat}{m:Mv}{k:Int}{ev:D}{wt:Int}{d:M}{g:aJ}{t:Sl}{a:Int}(h:MvX A w m k ev wt d g t a)(s:Stay A w w'):MvX A w' m k ev wt d g t a:=
 ⟨h.e1,h.e2,h.e3,h.e4,h.e5,(jJ aF).stay h.g s,h.x.stay (dW aF) Z s⟩
def wb(t:L Tk)(s:Sx):mu t s<=qj t:=RF
def Top(h:Sr F ts w b l s){c:L (C)}(a:cX ts s c≠0):s.i+1<qj ts:=h.en.next h.lt (dZ a).2
def adk(h:Sr F ts w b l s){k:Int}(hk:(tk ts s.i).k≠5):aA aq 213 #[rp b,O U k] w λe w'=>∃g,e=ak (ah g.toArray)/\L9 aF w' (Fr w.heap.size) (qS ts k s).1 g/\Dn F ts w w' b l (qS ts k s).2:=by
 refine gX (aog ?_);intro a H N S r;have f:=h.zt.al r N S;obtain⟨ad,z,A⟩:=f.r.now;refine⟨λ_=>True,trivial,l,Om f.r.blk 0 I,trivial,_,Om f.r.blk 1 I,ad,z,trivial,_,A.dP 3 _ I,λc M D B u=>?_⟩;have j:=f.al u D B;refine(aic j.r).mono ?_;rintro _ V ⟨rfl,p⟩;have m:=j.nx p;refine⟨I,j.sc p X,(pX m.r).mono ?_⟩;rintro _ W ⟨rfl,o⟩;have d:=m.q o;unfold qS;refine⟨_,I,m.sq o X,λhf Y Q=>?_,λhf=>?_⟩
 .have hf:(vD ts s).fc≠0:=f0
  rw[K hf];exact⟨_,I,⟨oM 0 0 [] 0 Sl.nil 0,Sl.nil,Sl.nil,I,IK _ _ _,Nh _ _ _ _ _ _,Nh _ _ _ _ _ _⟩,(d.f Q X).dn⟩
 have hf:¬(vD ts s).fc≠0:=f0
 rw[R hf];refine⟨_,Om d.r.blk 1 I,b,1,_,_,I,d.r.blk,X,d.ne X,d.ne X,λw5 eJ wq=>?_⟩;rw[d.r.wr]at wq;have t5:Zt F ts w w5 b l (ez (vD ts s)) [c,a]:=d.up eJ wq (h.en.next d.r.lt (by rw[I2];exact hk));have hA:=t5.z.o.size;have cc:=(t5.z.k a X).2;have bv:=(t5.z.k c X).2;have aT:=t5.r.lb;generalize bV:w5.heap.size=aS at*
 generalize (tk ts s.i).a=aa at*
 generalize ez (vD ts s)=u0 at*
 generalize hR:(if k=1 then rU ts {Xx k aa with ev:=(li ts u0).1} (li ts u0).2 else if k=3 then rU ts {Xx k aa with wt:=(io ts u0 3).1.n} (io ts u0 3).2 else rU ts (Xx k aa) u0)=bY;have x0:∀{w':aw} {ev:C} {wt:Int},MvX aS w' {Xx k aa with ev:=ev,wt:=wt} k (T ev) wt aM (oM 0 0 [] 0 Sl.nil 0) Sl.nil aa:=⟨I,I,I,I,I,IK _ _ _,Nh _ _ _ _ _ _⟩
 refine⟨λi3 s0 i4 b1 i5 i6 s1 i7 l1 i8 l2 l3 i9 w'=>∃(am:Mv) (aC:Sx),MvX aS w' am i3 s0 i4 b1 [O U i5,O U i6,ab s1,O U i7,l1.v,O U i8] l2 i9/\am.gd=aM/\am.tg=[]/\l3=Sl.nil/\Zt F ts w w' b l aC [c,a]/\rU ts am aC=bY/\aS<=w'.heap.size,?_,λhc=>?_,λhc=>⟨λiG=>?_,λiG=>?_⟩⟩;rotate_left
 .have hc:k=1:=Yc
  refine(AD t5.r).mono ?_;rintro _ e ⟨rfl,h⟩;have t:=t5.nx h;refine⟨_,I,t5.sc h X,λw b=>?_⟩;rw[K hc]at hR;exact⟨_,_,x0,I,I,I,t.f b X,hR,by rw[<-bV];exact bB h.o.size b.size⟩
 .have hc:¬k=1:=Yc
  have iG:k=3:=LB
  refine(AB t5.r (k:=3) Z).mono ?_;rintro _ w ⟨rfl,h⟩;have t:=t5.nx h;refine⟨_,_,_,_,I,t5.sc h X,λe b=>?_⟩;rw[R hc,K iG]at hR;exact⟨_,_,x0,I,I,I,t.f b X,hR,by rw[<-bV];exact bB h.o.size b.size⟩
 .have hc:¬k=1:=Yc
  have iG:¬k=3:=LB
  rw[R hc,R iG]at hR;exact⟨_,_,x0,I,I,I,t5,hR,QE bV.symm⟩
 rintro i3 s0 i4 b1 i5 i6 s1 i7 l1 i8 l2 l3 i9 w6 ⟨am,aC,hx,cC,oJ,rfl,t6,hR,z6⟩;unfold rU at hR;obtain⟨q,qK,e1,C3,hm⟩:=Hh t6.r [[91]] (n:=1) (parts:=#[(0,ab (T [91]))]) I I Z Z;have ce:=t6.q C3;refine⟨λi3 s0 i4 b1 i5 i6 s1 i7 l1 i8 l2 l3 i9 w'=>∃(am:Mv) (aC:Sx),MvX aS w' am i3 s0 i4 b1 [O U i5,O U i6,ab s1,O U i7,l1.v,O U i8] l2 i9/\am.tg=[]/\l3=Sl.nil/\Zt F ts w w' b l aC [c,a]/\Ct ts am aC=bY/\aS<=w'.heap.size,?_,q,qK,e1,t6.sq C3 X,hm.mono ?_⟩;rotate_left
 .rintro _ e ⟨rfl,h⟩;have t:=ce.nx h;have s:Stay aS w6 e:=((PR aS w6).q C3).d h aT;refine⟨_,I,ce.sc h X,λhc y l=>?_,λhc i b=>?_⟩
  .have uX:=Us hc;rw[R uX]at hR t;have q:=t.f l X;have w:=s.f l (.inl bv);have dO:=w.sz;refine(RN q.r).mono ?_;rintro _ uZ ⟨g,rfl,U,n⟩;obtain⟨sl,rfl⟩:=fD U;have P:=q.nx n;refine⟨_,_,_,_,sl,_,I,q.sc n X,λwe O=>?_⟩;have v:=P.f O X;obtain⟨q2,CN,e2,G,rD⟩:=uD v.r [93];have F:=v.q G;refine⟨q2,CN,e2,v.sq G X,rD.mono ?_⟩;rintro _ P7 ⟨rfl,k⟩;have T:=F.nx k;have x:=(((w.d n aT).f O (.inl bv)).q G).d k aT;refine⟨I,F.sc k X,{am with gd:=aF,g:=(rS ts (ez aC)).1},_,⟨hx.e1,hx.e2,hx.e3,hc,hx.e5,?_,hx.x.stay (dW aF) Z x⟩,oJ,I,T,hR,bB z6 x.sz⟩;exact(jJ aF).low ((jJ aF).stay U ((((PR _ _).f O (.inl J)).q G).d k J)) J
  have q:=Ur hc;rw[K q]at hR t;have n:=s.f b (.inl bv);have k:=hx.stay n;exact⟨am,aC,⟨k.e1,k.e2,k.e3,by rw[hc,cC],k.e5,k.g,k.x⟩,oJ,I,t.f b X,hR,bB z6 n.sz⟩
 clear hx cC oJ t6 hR z6 hm ce;rintro i3 s0 i4 b1 i5 i6 s1 i7 l1 i8 l2 l3 i9 w7 ⟨am,aC,hx,oJ,rfl,t7,hR,z7⟩;unfold Ct at hR;obtain⟨q,j8,e1,lc,hm⟩:=RL t7.r [[123]] (n:=1) (parts:=#[(0,ab (T [123]))]) I I Z Z;have el:=t7.q lc;refine⟨λi3 s0 i4 b1 i5 i6 s1 i7 l1 i8 l2 l3 i9 w'=>∃(am:Mv) (aC:Sx),MvX aS w' am i3 s0 i4 b1 [O U i5,O U i6,ab s1,O U i7,l1.v,O U i8] l2 i9/\l3=Sl.nil/\Zt F ts w w' b l aC [c,a]/\EO ts am aC=bY/\aS<=w'.heap.size,?_,q,j8,e1,t7.sq lc X,hm.mono ?_⟩;rotate_left
 .rintro _ e ⟨rfl,q⟩;have t:=el.q q;have s:Stay aS w7 e:=((PR aS w7).q lc).q q;have b:=s.sz;refine⟨_,I,el.sq q X,λhc=>(E7 t.r).mono ?_,λhc=>?_⟩
  .rw[R (Us hc)]at hR;rintro _ w ⟨v,rfl,l,h⟩;have k:=t.nx h;refine⟨v,I,t.sc h X,λx n=>?_⟩;have i:=(s.d h aT).f n (.inl bv);refine⟨{am with acts:=(lR ts aC).1},_,⟨hx.e1,hx.e2,hx.e3,hx.e4,hx.e5,(jJ aF).stay hx.g i,?_⟩,I,k.f n X,hR,bB z7 i.sz⟩;exact(l.stay (dW aF) Z ((PR _ _).f n (.inl J))).low (dW aF) J
  rw[K (Ur hc)]at hR;exact⟨am,aC,hx.stay s,I,t,hR,bB z7 b⟩
 clear hx oJ t7 hR z7 hm el;rintro iD s4 iF b3 iN iS s5 lE l7 lT l8 l9 mt w8 ⟨am,aC,hx,rfl,t8,hR,z8⟩;unfold EO at hR;have g9:b<w8.heap.size:=J
 refine⟨λnv sg gG s7 gO b4 f5 f6 s8 f7 gE f8 qJ qy gT w'=>∃(x:C) (fd:L (C)) (u':Sx),sg=T x/\MvX aS w8 am gG s7 gO b4 [O U f5,O U f6,ab s8,O U f7,gE.v,O U f8] qJ gT/\Stay aS w8 w'/\Own nU 1 9 w8.heap.size w' (Fr w8.heap.size) qy fd/\Zt F ts w w' b l u' [c,a]/\uv ts nv x fd u'=uv ts (qj ts+1) [45,62] [] aC/\mu ts u'<nv/\qj fd+mu ts u'<=qj ts,qj ts+1,⟨[45,62],[],aC,I,hx,PR _ _,Yb _ _ _ _ _ _,t8,I,zM (wb _ _),D0⟩,?_⟩;clear hx;rintro nv sg gG s7 gO b4 f5 f6 s8 f7 gE f8 qJ qy gT w9 ⟨x,fd,u',rfl,hx,hS,sJ,t9,hT,ip,xB⟩;obtain⟨m',rfl⟩:∃m',nv=m'+1:=⟨nv-1,J⟩
 rw[uv]at hT;obtain⟨q,dq,e1,dN,rD⟩:=Hh t9.r [x] (n:=1) (parts:=#[(0,ab (T x))]) I I Z Z;have g8:=t9.q dN;refine⟨q,dq,e1,t9.sq dN X,rD.mono ?_⟩;rintro _ dB ⟨rfl,Vv⟩;have eQ:=g8.nx Vv;refine⟨_,I,g8.sc Vv X,λhc ey eV=>?_,λhc=>?_⟩
 .have hc:=Us hc;rw[R hc]at hT eQ;have l:=eQ.q eV;refine⟨λk=>k=c,I,(AD l.r).mono ?_⟩;rintro _ eY ⟨rfl,U⟩;have n:=l.nx U;have gA:az [b] w9 eY:=(((dN.weaken (bs':=[b]) λ_ h=>Ue).trans Vv.o λx hx=>.inl hx).bU eV).trans U.o λx hx=>.inl hx;have zS:=hS.sz;have z9:=gA.size;have yV:=h.sm;have yq:=wb ts u';have oN:=tA h.en (dZ hc).1 t9.r.lt (dZ hc).2 (tw h.en (s:=ez u')).toOn0;obtain⟨y,fV,e2,w,KK,fT,e3,mK,⟨gs,F,yX⟩,_⟩:=kx (P:=aq) (t:=80) (ty:=80) (e:=9) (i:=Tryz.t9) (bytes:=16) (size:=1) (v:=ab (T (li ts (ez u')).1)) (x:=(li ts (ez u')).1) (G:=λ_=>False) E E I I I I Z Z Z dG (sJ.stay dG gA λx hx=>.inl CQ) (bB zS z9) I I (λk hk _=>hk.elim) J;have O:∀co,co∈gs->w8.heap.size<=co:=λco hg=>(yX co hg).2.1;have oF:=t8.z.o.size;have q:=n.q w;have nO:=q.row F λx hx=>bB oF (O x hx);have nk:=t8.ne (k0:=c) X;refine⟨_,I,l.sc U X,λk hk bW=>(by subst hk;exact U.o.block k bW (by simpa using nk)),y,fV,e2,n.sq w X,Uy w,KK,fT,e3,q.sr F X (λx hx y hy=>?_),λk hk bW=>(by subst hk;exact F.block k bW λhm=>(by have:=O k hm;omega)),λiE iH=>⟨m',J,[44],_,_,I,hx,?_,?_,nO.f iH X,hT,J,?_⟩⟩
  .have:=O x hx;simp only[bh,bI,cO]at hy;omega
  .exact(((hS.go gA λx hx=>.inl CQ).q w).go F λx hx=>.inr (O x hx)).f iH (.inl bv)
  .refine((mK.mono dG λk hk=>?_).stay dG iH λx hx=>.inl CQ);rcases hk with hk | hk
   .exact hk
   exact bB (bB zS z9) hk
  rw[aP,bA];omega
 have hc:=Ur hc;rw[K hc]at hT eQ;obtain⟨F,y,x,e,w⟩:=uD eQ.r [59];have t:=eQ.q e;refine⟨F,y,x,eQ.sq e X,w.mono ?_⟩;rintro _ P ⟨rfl,h⟩;have n:=t.nx h;refine⟨I,t.sc h X,λv l=>?_⟩;rw[<-hT]at hR;rw[<-hR];have G:∀{i:Nat},b<i->a<i->Stay i w9 v:=λq hk=>((((PR _ _).q dN).d Vv q).q e).d h q |>.f l (.inl hk);have s:Stay aS w8 v:=(((((hS.q dN).d Vv aT).q e).d h aT).f l (.inl cc))
 refine⟨DZ am.k am.ev am.wt am.gd [O U f5,O U f6,ab s8,O U f7,gE.v,O U f8] qJ qy am.a,by rw[hx.e1,hx.e2,hx.e3,hx.e4,hx.e5];rfl,⟨_,_,_,I,(jJ aF).low ((jJ aF).stay hx.g s) hA,(hx.x.stay (dW aF) Z s).low (dW aF) hA,?_⟩,(n.f l X).dn⟩;exact((sJ.sl dG λk hk=>hk).stay dG Z (G g9 J)).low dG J
end
def RO{lr x:aJ}{j}{v}(h:x[j]? =aN v):(lr++x)[qj lr+j]? =aN v:=by
 rw[ck J,dH];exact h
def pC lr xs vs j:gD (lr++xs) (qj lr+j) vs=lr++gD xs j vs:=by
 unfold gD;rw[ab5,dA,List.drop_length_add_append];simp
structure NbO (B:Nat) (w:aw) (n:Nb) (en lv mv:Sl):Prop where
 en:ly aF (uW aF) 9 227 w (λk=>B<=k/\mv.a≠aN ⟨k,0,Pw⟩) en n.en
 lv:ly aF (uW aF) 9 227 w (λk=>B<=k/\mv.a≠aN ⟨k,0,Pw⟩) lv n.lv
 mv:Own (L9 aF) 13 82 B w (Fr B) mv n.mv
section
variable {B:Nat} {w w':aw} {n:Nb} {en lv mv:Sl}
def NbO.go(h:NbO B w n en lv mv){bs}(k:az bs w w')(a:∀x,x∈bs->x<B):NbO B w' n en lv mv:=
 ⟨h.en.keep (dW aF) Z λi c b=>k.block i b λm=>(by have:=a i m;omega),h.lv.keep (dW aF) Z λi c b=>k.block i b λm=>(by have:=a i m;omega),h.mv.stay (nJ aF) k λx d=>.inl (a x d)⟩
def NbO.wm(b:NbO B w n en lv mv){gs}{rG}{m}(s:Own (L9 aF) 13 82 B w' (λk=>Fr B k∨w.heap.size<=k) rG (n.mv++[m]))(k:az gs w w')(y:∀g,g∈gs->mv.a=aN ⟨g,0,Pw⟩)(a:rG.a=mv.a∨∃g,rG.a=aN ⟨g,0,Pw⟩/\w.heap.size<=g)(c:B<=w.heap.size):NbO B w' {n with mv:=n.mv++[m]} en lv rG:=by
 have go:∀{l:Sl} {x:L Ac},ly aF _ 9 227 w (λk=>B<=k/\mv.a≠aN _) l x->ly aF _ 9 227 w' (λk=>B<=k/\rG.a≠aN ⟨k,0,Pw⟩) l x:=λd=>
  ((d.inHeap (dW aF) Z).keep (dW aF) Z λi h W=>k.block i W λm=>h.1.2 (y i m)).mono (dW aF) λi h=>⟨h.1.1,by
   rcases a with a | ⟨g,a,f⟩
   .rw[a];exact h.1.2
   rw[a];intro e;injection e with e;injection e with e;omega⟩
 exact⟨go b.en,go b.lv,s.mono (nJ aF) λi h=>h.elim id λh=>bB c h⟩
def NbO.aqd(h:NbO B w n en lv mv){A}{la}{xs}(x:ly aF (uW aF) 9 227 w (Fr A) la xs)(a:B<=A)(m:∀k,A<=k->mv.a≠aN ⟨k,0,Pw⟩):NbO B w {n with en:=xs} la lv mv:=
 ⟨x.mono (dW aF) λk hk=>⟨bB a hk,m k hk⟩,h.lv,h.mv⟩
def NbO.aqe(h:NbO B w n en lv mv){A}{la}{xs}(x:ly aF (uW aF) 9 227 w (Fr A) la xs)(a:B<=A)(m:∀k,A<=k->mv.a≠aN ⟨k,0,Pw⟩):NbO B w {n with lv:=xs} en la mv:=
 ⟨h.en,x.mono (dW aF) λk hk=>⟨bB a hk,m k hk⟩,h.mv⟩
end
abbrev Ut(h:V6):aJ:=[aj aM,aj h.i,aj h.e,aj h.l]
structure Cl (F:A) (ts:List Tk) (w w':aw) (b:Nat) (l:Sl) (g t:Nat) (lr:aJ) (kh B:Nat) (s:Sx) (n:Nb) (h:V6) (en lv mv:Sl):Prop where
 r:Sr F ts w' b l s
 nb:aG w' g t (lr++qD n.k n.nm n.ini n.dft en lv mv Sl.nil n.a)
 hb:aG w' kh 221 (Ut h)
 no:NbO B w' n en lv mv
 o:∃gs,az (b::g::kh::gs) w w'/\∀x,x∈gs->B<=x
 ng:g≠b/\¬F g
 nh:b<kh
 gh:g≠kh
 gB:g<B
 hB:kh<B
 lB:B<=w'.heap.size
section
variable {F:A} {ts:L Tk} {w w' w2:aw} {b:Nat} {l:Sl} {g t:Nat} {lr:aJ} {kh B:Nat} {s s':Sx} {n n':Nb} {h h':V6} {en lv mv vT vU rG:Sl}
def Cl.nx(c:Cl F ts w w' b l g t lr kh B s n h en lv mv)(k:Dn F ts w' w2 b l s'):Cl F ts w w2 b l g t lr kh B s' n h en lv mv:=by
 have i:=c.ng;have j:=c.nh;have f:=c.hB;obtain⟨a,d,e⟩:=c.o;exact⟨k.r,k.o.blk c.nb S,k.o.blk c.hb S,c.no.go k.o λx hx=>Ua,
  ⟨a,d.trans k.o λx hx=>.inl T5,e⟩,i,j,c.gh,c.gB,c.hB,bB c.lB k.o.size⟩
def Cl.q(c:Cl F ts w w' b l g t lr kh B s n h en lv mv)(k:az [] w' w2):Cl F ts w w2 b l g t lr kh B s n h en lv mv:=c.nx (c.r.dn.q k)
def Cl.st(c:Cl F ts w w' b l g t lr kh B s n h en lv mv)(k:az [g] w' w2)(j:aG w2 g t (lr++qD n'.k n'.nm n'.ini n'.dft vT vU rG Sl.nil n'.a))(o:NbO B w' n' vT vU rG):Cl F ts w w2 b l g t lr kh B s n' h vT vU rG:=by
 obtain⟨d,f,i⟩:=c.o;have a:=c.gB;exact⟨c.r.ai7 k c.ng,j,k.blk c.hb (by simpa using λe=>c.gh e.symm),o.go k λx hx=>Ua,⟨d,f.trans k λx hx=>.inl T5,i⟩,c.ng,c.nh,c.gh,a,c.hB,bB c.lB k.size⟩
def Cl.hd(c:Cl F ts w w' b l g t lr kh B s n h en lv mv)(k:az [kh] w' w2)(i:aG w2 kh 221 (Ut h')):Cl F ts w w2 b l g t lr kh B s n h' en lv mv:=by
 obtain⟨d,e,f⟩:=c.o;have a:=c.hB;exact⟨c.r.one k c.nh,k.blk c.nb (by simpa using c.gh),i,c.no.go k λx hx=>Ua,⟨d,e.trans k λx hx=>.inl T5,f⟩,c.ng,c.nh,c.gh,c.gB,a,bB c.lB k.size⟩
def apj(h:V6)(j:Nat):M:=if j=1 then h.i else if j=2 then h.e else h.l
def XQ(h:V6)(j:Nat):V6:=if j=1 then{h with i:=aF}else if j=2 then{h with e:=aF}else{h with l:=aF}
def j3{j}(h:j≠0)(a:j<=3):j=1∨j=2∨j=3:=J
def afK(c:Cl F ts w w' b l g t lr kh B s n h en lv mv)(m:qj n.mv<qj ts):aA aq 161 #[rp b,ae (aN ⟨g,qj lr,Pw⟩),ae (aN ⟨kh,0,Pw⟩)] w' λe w2=>e=ak (aj (eK ts n h s).1)/\
  ∃vT vU rG,Cl F ts w w2 b l g t lr kh B (eK ts n h s).2.2.2 (eK ts n h s).2.1 (eK ts n h s).2.2.1 vT vU rG:=by
 refine ret (anO ?_);have u:=c.r.sm;obtain⟨q,o,a,j,V⟩:=RL c.r [Ds,iW,jF] (n:=3) (parts:=#[(0,ab (T Ds)),(1,ab (T iW)),(2,ab (T jF))]) I I Z Z;refine⟨q,o,a,V.mono ?_⟩;rintro _ p ⟨rfl,r⟩;have d:=(c.q j).q r;refine⟨_,I,λhc w2 f=>?_,λhc=>?_⟩
 .have hc:=Us hc;have z:=d.q f;have sK:eK ts n h s=(aF,{n with mv:=n.mv++[(qS ts (cX ts s [Ds,iW,jF]:Nat) s).1]},h,(qS ts (cX ts s [Ds,iW,jF]:Nat) s).2):=by
   unfold eK;rw[K hc]
  rw[sK];refine⟨λk=>k=g,_,I,I,mv,z.nb.at0 (qj lr+6) (RO I),(adk z.r (dZ hc).2).mono ?_⟩;rintro _ w3 ⟨cs,rfl,hx,T⟩;have q:=z.nx T;generalize (qS ts (cX ts s [Ds,iW,jF]:Nat) s).1=l at*
  generalize (qS ts (cX ts s [Ds,iW,jF]:Nat) s).2=am at*
  have F7:=hx;obtain⟨gc,tU,tg,rfl,hg,_,_⟩:=F7;obtain⟨sl,rfl⟩:=fD hg;have ng:=c.ng;have gB:=c.gB;obtain⟨y,w4,e2,M,rG,w5,e3,sJ,⟨w,N,yX⟩,ha⟩:=kx (P:=aq) (t:=24) (ty:=24) (e:=82) (i:=Tryz.t82) (bytes:=168) (size:=13) (v:=ah (DZ l.k l.ev l.wt l.gd (oM l.g.k l.g.n l.g.s l.g.op sl l.g.a) tU tg l.a).toArray) (x:=l) (G:=Fr w2.heap.size) E E I I I I Z Z Z (nJ aF) q.no.mv q.lB I hx (λk hk _=>⟨bB z.lB hk,z.no.mv.new hk⟩) J;have C:az w w3 w5:=(M.weaken (bs':=w) λ_ h=>Ue).trans N λx hx=>.inl hx;have S:∀x,x∈w->B<=x:=λx hx=>(yX x hx).2.1;have Y:g∉w:=λm=>by have:=S g m;omega
  have wq:=C.blk q.nb Y;refine⟨_,_,_,_,_,_,_,_,sl,_,tU,tg,_,I,λk hk W=>(by subst hk;exact T.o.block k W Uf),y,w4,e2,Uy M,rG,w5,e3,λk hk W=>(by subst hk;exact N.block k W Y),_,I,g,_,_,_,I,wq,X,λw6 A Q=>⟨I,en,lv,rG,?_⟩⟩;rw[pC]at Q;have L:=q.no.wm sJ C (λx hx=>(yX x hx).1) ha q.lB;obtain⟨D,o1,o2⟩:=q.o;have nh:=c.nh;have F:=c.hB;have lB:=q.lB;have H:=c.gh;have z5:=C.size;have z6:=A.size;exact⟨(q.r.own C λx hx=>(by have:=S x hx;omega)).ai7 A ng,Q,(A.block kh (by have:=q.hb.lt;omega) Uf).trans (C.blk q.hb λm=>(by have:=S kh m;omega)),
   L.go A λx hx=>CQ,⟨w++D,((o1.weaken (bs':=b::g::kh::(w++D)) λx hx=>.inl (by simp only[bh,bQ]at hx⊢;rcases hx with hx | hx | hx | hx<;>simp[hx])).trans C λx hx=>.inl Ze).trans A λx hx=>.inl Wl,λx hx=>(bQ.1 hx).elim (S x) (o2 x)⟩,ng,nh,H,gB,F,J⟩
 have hc:=Ur hc;obtain⟨q,A,a,z,V⟩:=RL d.r [fM,jl,jm] (n:=3) (parts:=#[(0,ab (T fM)),(1,ab (T jl)),(2,ab (T jm))]) I I Z Z;refine⟨q,A,a,V.mono ?_⟩;rintro _ C ⟨rfl,y⟩;have v:=(d.q z).q y;have x:cX ts s [fM,jl,jm]<=3:=L4 _;refine⟨_,I,λi=>?_,λi=>?_⟩
 .have i:=aph i;have b:eK ts n h s=(aM,n,h,s):=by unfold eK;rw[R Yc,i];rfl
  rw[b];exact⟨I,_,_,_,v⟩
 have i:=api i;have G:=Top c.r i;have L:eK ts n h s=(if apj h (cX ts s [fM,jl,jm])then(aM,n,h,lP ts s)else if cX ts s [fM,jl,jm]=1 then(aF,{n with ini:=(li ts (ez s)).1},XQ h 1,fA ts (li ts (ez s)).2 [59])else if cX ts s [fM,jl,jm]=2 then(aF,{n with en:=(lR ts (ez s)).1},XQ h 2,(lR ts (ez s)).2)else(aF,{n with lv:=(lR ts (ez s)).1},XQ h 3,(lR ts (ez s)).2)):=by
  unfold eK;rw[R Yc];rcases j3 i x with e | e | e<;>rw[e]<;>rfl
 rw[L];generalize cX ts s [fM,jl,jm]=D at*
 have N:(Ut h)[D]? =aN (aj (apj h D)):=by rcases j3 i x with e | e | e<;>rw[e]<;>rfl
 have H:QN ⟨kh,0,Pw⟩ (D:Int) 4 1 ⟨kh,D,Pw⟩:=⟨J,J,by rw[iK,ba];simp⟩
 refine⟨_,I,⟨kh,D,Pw⟩,H,_,v.hb.at0 D N,λhh=>?_,λhh=>?_⟩
 .rw[K hh];refine(xj v.r).mono ?_;rintro _ w ⟨rfl,h⟩;exact⟨I,I,_,_,_,v.nx h⟩
 rw[R Oy];refine⟨_,I,⟨kh,D,Pw⟩,H,kh,D,_,_,I,v.hb,by show D+1<=4;omega,λdq dN pK=>?_⟩;have P:Cl F ts w dq b l g t lr kh B s n (XQ h D) en lv mv:=v.hd dN (by
  have e:gD (Ut h) D [aj aF]=Ut (XQ h D):=by rcases j3 i x with e | e | e<;>rw[e]<;>rfl
  rwa[e]at pK)
 refine⟨_,Om P.r.blk 1 I,b,1,_,_,I,P.r.blk,X,λdB W T=>?_⟩;rw[c.r.wr]at T;have M:=P.nx (s':=ez s) ⟨W,P.r.lG W T G⟩;refine⟨λw'=>∃vT vU rG,Cl F ts w w' b l g t lr kh B _ _ _ vT vU rG,λey Y=>⟨by split<;>(try split)<;>rfl,Y⟩,λQ=>?_,λQ=>⟨λS=>?_,λS=>?_⟩⟩
 .have a:D=1:=by have:(D:Int)=1:=(by simpa using Q);omega
  subst a;rw[K I];refine(AD M.r).mono ?_;rintro _ B ⟨rfl,w⟩;have c:=M.nx w;refine⟨_,I,_,I,g,_,_,_,I,c.nb,X,λF k e=>?_⟩;rw[pC]at e;have b:=c.st (n':={n with ini:=(li ts (ez s)).1}) k e ⟨c.no.en,c.no.lv,c.no.mv⟩;obtain⟨q,l,a,t,V⟩:=uD b.r [59];refine⟨q,l,a,V.mono ?_⟩;rintro _ iE ⟨rfl,h⟩;exact⟨I,_,_,_,(b.q t).nx h⟩
 .have a:D=2:=by have:(D:Int)=2:=(by simpa using S);omega
  subst a;rw[R Z,K I];refine(E7 M.r).mono ?_;rintro _ q ⟨l,rfl,h,b⟩;have c:=M.nx b;refine⟨l,I,_,I,g,_,_,_,I,c.nb,X,λt e B=>?_⟩;rw[pC]at B;exact⟨_,_,_,c.st (n':={n with en:=(lR ts (ez s)).1}) e B (c.no.aqd h M.lB λk hk=>M.no.mv.new hk)⟩
 have w:D≠1:=λe=>by rw[e]at Q;simp at Q
 have a:D=3:=by have:¬(D:Int)=2:=(by simpa using S);omega
 subst a;rw[R Z,R Z];refine(E7 M.r).mono ?_;rintro _ F ⟨q,rfl,l,h⟩;have c:=M.nx h;refine⟨q,I,_,I,g,_,_,_,I,c.nb,X,λB t b=>?_⟩;rw[pC]at b;exact⟨_,_,_,c.st (n':={n with lv:=(lR ts (ez s)).1}) t b (c.no.aqe l M.lB λk hk=>M.no.mv.new hk)⟩
end
section
variable {F:A} {ts:L Tk} {w w' w2:aw} {b:Nat} {l:Sl} {s s':Sx}
def Ml(i:Sr F ts w b l s)(k:Int):aA aq 118 #[rp b,O U k] w λe w'=>e=ak (ah (qD (fI ts k s).1.k (fI ts k s).1.nm [] [] Sl.nil Sl.nil Sl.nil Sl.nil (fI ts k s).1.a).toArray)/\Dn F ts w w' b l (fI ts k s).2:=by
 refine ret (ant ?_);intro m n p N d o j c;have t:=((i.zt.q c).ad N d).ad o j;obtain⟨ad,g,h⟩:=t.r.now;refine⟨λw'=>Zt F ts w w' b l (tu ts s) [n,m],λq a=>(AB a.r (k:=1) Z).mono ?_,l,Om t.r.blk 0 I,_,Om t.r.blk 1 I,ad,g,_,h.dP 0 _ I,λhc r J=>?_,λhc u f=>?_⟩
 .rintro _ w2 ⟨rfl,l⟩;have y:=a.nx l;refine⟨_,_,_,_,I,a.sc l X,λw D F C v A B s=>⟨λk=>k=w,I,λe=>s e,λe=>s e,λE Q=>⟨I,?_⟩⟩⟩;have b:=y.q v;have z:=b.z.go Q λx hx=>.inr SG;exact⟨z.o,b.r.own Q λx hx=>b.lt SG⟩
 .have hc:(tk ts s.i).k=1:=Yc
  have e:=t.q J;unfold tu;rw[K hc];refine(aid e.r).mono ?_;rintro _ w ⟨rfl,k⟩;have b:=e.nx k;refine⟨I,e.sc k X,_,Om b.r.blk 6 I,λhd=>?_,λhd=>?_⟩
  .rw[K (by simpa using hd)];refine(Dy b.r 21).mono ?_;rintro _ s ⟨rfl,l⟩;exact⟨I,b.sc l X,b.nx l⟩
  rw[R (by simpa using hd)];exact b
 have hc:¬(tk ts s.i).k=1:=Yc
 unfold tu;rw[R hc];exact t.q f
def afN(F:A)(t:L Tk)(b:Nat)(l:Sl)(f:Nat)(d:Int):Prop:=∀(k:Int) (u:Sx) (w:aw),Sr F t w b l u->u.d=d->aA aq 162 #[rp b,O U k] w λe w'=>∃c,e=ak (ah c.toArray)/\nX aF f w' (Fr w.heap.size) (mO t f k u).1 c/\Dn F t w w' b l (mO t f k u).2
def XR{f:Nat}(h:0<f)(w:aw){G:A}:nX aF f w G Ui (qD 0 [] [] [] Sl.nil Sl.nil Sl.nil Sl.nil 0):=by
 obtain⟨m,rfl⟩:∃m,f=m+1:=⟨f-1,J⟩
 exact⟨_,_,_,_,I,⟨Nh _ _ _ _ _ _,Nh _ _ _ _ _ _,Nh _ _ _ _ _ _⟩,Nh _ _ _ _ _ _⟩
abbrev Yw(f B:Nat)(w:aw)(s:Sl)(x:L Nd):Prop:=Own (nX aF f) 9 27 B w (Fr B) s x
def afa{f B g t:Nat}{lr:aJ}{b:Nb}{S lv mv j l:Sl}{acc:L Nd}{x:Nd}{k:Int}{s n dft:C}{a m o p:Sl}{at_:Int}{r:Nat}{Q:aw->Prop}{H:A}
  (hx:nX aF f w H x (qD k s n dft a m o p at_)) (V:∀i,H i->i<w.heap.size->Fr B i/\l.a≠aN ⟨i,0,Pw⟩) (F:∀i,H i->B<=i) (N:Yw f B w l (acc++[Ui])) (hn:j.n=qj acc)
  (wE:aG w g t (lr++qD b.k b.nm b.ini b.dft S lv mv j b.a)) (hg:g<B) (fN:r<B) (y:r≠g)
  (Y:∀w',aG w' g t (lr++qD b.k b.nm b.ini b.dft S lv mv l b.a)->Yw f B w' l (acc++[x])->(∃d,B<=d/\az [g,d] w w')->Q w'):
  ∃K:Addr,cK l (j.n:Int) 9 K/\∃M:Addr,(aN (⟨g,qj lr,Pw⟩:Addr))=(aN M)/\
   (∃t x:Nat,∃z2:aJ,∃Tx:Nat,K=⟨t,x,Pw⟩/\aG w t Tx z2/\(x+9)<=qj z2/\r≠t/\
    ∀q:aw,az [t] w q->aG q t Tx (gD z2 x [O U k,ab (T s),ab (T n),ab (T dft),a.v,m.v,o.v,p.v,O U at_])->∃KE am:Nat,∃z3:aJ,∃aC:Nat,(M.add 7)=⟨KE,am,Pw⟩/\
    aG q KE aC z3/\(am+1)<=qj z3/\r≠KE/\∀E:aw,az [KE] q E->aG E KE aC (gD z3 am [l.v])->Q E)/\
   ∃e H:Nat,∃z4:aJ,∃f:Nat,(M.add 7)=⟨e,H,Pw⟩/\aG w e f z4/\(H+1)<=qj z4/\r≠e/\
    ∀c:aw,az [e] w c->aG c e f (gD z4 H [l.v])->∃aS aT:Nat,∃z5:aJ,∃bv:Nat,K=⟨aS,aT,Pw⟩/\
    aG c aS bv z5/\(aT+9)<=qj z5/\r≠aS/\∀jH:aw,az [aS] c jH->aG jH aS bv (gD z5 aT [O U k,ab (T s),ab (T n),ab (T dft),a.v,m.v,o.v,p.v,O U at_])->Q jH:=by
 have W:j.n<qj (acc++[Ui]):=XO
 have P:(acc++[Ui]).set j.n x=acc++[x]:=by rw[hn,tV _ _ (aY _),pQ];rfl
 obtain⟨d,cells,R,a2,a3,a4,a5⟩:=Own.store (cG aF f) N W (vs:=qD k s n dft a m o p at_) I hx V Z;have h:=(N.blk R).1;dsimp only at h;refine⟨_,a2,_,I,⟨d,j.n*9,cells,_,I,a3,a4,J,λq G D=>⟨g,qj lr+7,_,t,I,G.blk wE Uf,X,y,λE iH u=>?_⟩⟩,g,qj lr+7,_,t,I,wE,X,y,λc z v=>?_⟩
 .rw[pC]at u;have a:=a5 q G D;rw[P]at a;exact Y E u (a.stay (cG aF f) iH λx hx=>.inl CQ) ⟨d,h,(G.weaken (bs':=[g,d]) λx hx=>.inl Wl).trans iH λx hx=>.inl Wl⟩
 rw[pC]at v;have co:=z.size;have cc:Yw f B c l (acc++[Ui]):=N.stay (cG aF f) z λx hx=>.inl CQ;have ce:nX aF f c (λi=>H i/\i<w.heap.size) x (qD k s n dft a m o p at_):=(cG aF f).keep ((cG aF f).inHeap hx) λi U W=>z.block i W (by have:=F i U.1;simp only[aV];omega);obtain⟨t,bY,O,c2,c3,c4,c5⟩:=Own.store (cG aF f) cc W (vs:=qD k s n dft a m o p at_) I ce (λi U _=>V i U.1 U.2) Z;have e:t=d:=by
  rw[R]at O;injection O with O;injection O with O;exact O.symm
 subst e;refine⟨t,j.n*9,bY,_,I,c3,c4,J,λjH kg bV=>?_⟩;have T:=c5 jH kg bV;rw[P]at T;exact Y jH (kg.blk v Uf) T ⟨t,h,(z.weaken (bs':=[g,t]) λx hx=>.inl Wl).trans kg λx hx=>.inl Wl⟩
structure Kd (F:A) (ts:List Tk) (w w':aw) (b:Nat) (l:Sl) (g t:Nat) (lr:aJ) (f B B2:Nat) (n:Nb) (en lv mv:Sl) (s:Sx) (acc:List Nd) (kids:Sl):Prop where
 r:Sr F ts w' b l s
 nb:aG w' g t (lr++qD n.k n.nm n.ini n.dft en lv mv kids n.a)
 no:I3 aF w' (λk=>B<=k/\k<B2) n en lv mv
 kd:Yw f B2 w' kids acc
 o:az [b,g] w w'
 lB:B2<=w'.heap.size
section
variable {g t:Nat} {lr:aJ} {f B B2:Nat} {n:Nb} {en lv mv kids:Sl} {acc:L Nd}
def Kd.nx(h:Kd F ts w w' b l g t lr f B B2 n en lv mv s acc kids)(Q:g≠b)(c:b<B)(a:B<=B2)(k:Dn F ts w' w2 b l s'):Kd F ts w w2 b l g t lr f B B2 n en lv mv s' acc kids:=
 ⟨k.r,k.o.blk h.nb Uf,h.no.keep λi d W=>k.o.block i W Uf,h.kd.stay (cG aF f) k.o λx hx=>.inl CQ,
  h.o.trans k.o λx hx=>.inl Wl,bB h.lB k.o.size⟩
end
end
end Go.Proofs.YtdfibecibkijiaaGreatDoor.Con
