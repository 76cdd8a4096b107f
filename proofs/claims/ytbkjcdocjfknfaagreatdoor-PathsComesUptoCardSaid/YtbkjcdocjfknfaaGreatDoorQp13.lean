import Derived.Test.YtbkjcdocjfknfaaGreatDoorQp12
set_option linter.unusedSectionVars false
set_option linter.unusedSectionVars false
namespace Go.Proofs.YtbkjcdocjfknfaaGreatDoor.Con
open Go.Value renaming int->O,string->ah,pointer->ai,agg->aj,tuple->ak,bool->ao
open Go.IntKind renaming i64->ae,wrap->av
open Go.Ending renaming returned->aq
open _root_.ByteArray renaming mk->ar
open _root_.Go.Proofs.Tryz renaming prog->au
open Go.Instr renaming buildSlice->aw
open Go renaming World->ay,Value->az,Calls->aB
open Go.Kt renaming Only->aA,SliceF->aD,Cells->aE,OnlyP->aF,Blk->aH
set_option linter.unusedSimpArgs false
set_option linter.unusedVariables false
def Kc(xs:List cM)(d:Int)(c:Nat):Prop:=∃t,xs[c]? =some t/\t.pa=d
def Sb(xs:List cM)(d:Int)(x:Nat):Prop:=d<x/\x<xs.length/\(d= -1∨∃k:Nat,d=k/\jq xs k x)
def SS(xs:List cM)(x:Nat):Prop:=∃t,xs[x]? =some t/\(t.k=1∨t.k=2)
def MR(xs:List cM)(S:aL)(d:Int):Prop:=∀c c',Kc xs d c->Kc xs d c'->S c->S c'->c=c'
structure Gd (xs:List cM) (d:Int) (G:aL):Prop where
 ne:∃g,G g
 bl:∀g,G g->Sb xs d g/\SS xs g
 con:∀(n:Nat) (t:cM) (c c' g g':Nat),xs[n]? =some t->t.k=1->Kc xs n c->Kc xs n c'->G g->G g'->jq xs c g->jq xs c' g'->c=c'
def Ap(xs:List cM)(D:Int->Prop):Prop:=∀d d' x,D d->D d'->Sb xs d x->Sb xs d' x->d=d'
structure Part (xs:List cM) (D:Int->Prop) (S:aL):Prop where
 st:∀x,S x->SS xs x/\∃d,D d/\Sb xs d x
 up:∀x t,S x->xs[x]? =some t->D t.pa∨∃p:Nat,t.pa=p/\S p
 one:∀(n:Nat) (t:cM),xs[n]? =some t->t.k=1->MR xs S n
 top:∀d,D d->∃c,Kc xs d c/\S c
section
variable {xs:List cM} (F:Fo xs) {d d':Int} {c c' k n x:Nat} {t:cM} {D:Int->Prop} {S G:aL}
include F
theorem Fo.kA(h:Kc xs d c):Sb xs d c:=by
 obtain⟨t,h1,rfl⟩:=h;have hl:=eZ h1;by_cases h0:0<c
 ·obtain⟨p,s,g1,g2,g3,_,g5,_⟩:=F.par h1 h0;exact⟨by omega,hl,.inr ⟨p,g2,s,g3,by omega,g5⟩⟩
 ·have:c=0:=by omega
  subst this;have:=(F.rt t h1).1;exact⟨by omega,hl,.inl this⟩
theorem Fo.wG(h:Sb xs d x)(hx:xs[x]? =some t):t.pa=d∨∃p:Nat,t.pa=p/\Sb xs d p/\p<x/\jq xs p x:=by
 obtain⟨h1,h2,h3⟩:=h;by_cases h0:0<x
 ·obtain⟨p,s,g1,g2,g3,_,g5,g6⟩:=F.par hx h0;have hc:jq xs p x:=⟨s,g3,by omega,g5⟩
  have hl:=eZ g3;rcases h3 with rfl | ⟨k,rfl,u,e1,e2,e3⟩
  ·exact .inr ⟨p,g2,⟨by omega,hl,.inl rfl⟩,g1,hc⟩
  ·have:=g6 k u e1 (by omega) e3;by_cases he:k=p
   ·exact .inl (by omega)
   ·exact .inr ⟨p,g2,⟨by omega,hl,.inr ⟨k,rfl,F.lN ⟨u,e1,e2,e3⟩ hc this⟩⟩,g1,hc⟩
 ·have:x=0:=by omega
  subst this;rcases h3 with rfl | ⟨k,rfl,_⟩
  ·exact .inl (F.rt t hx).1
  ·omega
theorem Fo.Iz(h:Sb xs d k)(g:jq xs k x):Sb xs d x:=by
 obtain⟨h1,h2,h3⟩:=h;have hl:=F.wF g;have ma:k<=x:=by obtain⟨_,_,h,_⟩:=g;exact h
 refine⟨by omega,hl,h3.imp id ?_⟩;rintro⟨m,e,hm⟩;exact⟨m,e,F.kq hm g⟩
theorem Fo.xt(h:Sb xs d k)(g:Sb xs k x):Sb xs d x:=by
 obtain⟨g1,g2,g3⟩:=g;rcases g3 with g3 | ⟨m,e,hm⟩
 ·omega
 ·have:m=k:=by omega
  subst this;exact F.Iz h hm
theorem Fo.Aq:∀(x:Nat),Sb xs d x->∃c,Kc xs d c/\jq xs c x
 | x,h=>by
  obtain⟨t,ht⟩:=fO h.2.1;rcases F.wG h ht with e | ⟨p,_,hp,bX,hc⟩
  ·exact⟨x,⟨t,ht,e⟩,F.jW h.2.1⟩
  ·obtain⟨c,h1,h2⟩:=Fo.Aq p hp;exact⟨c,h1,F.kq h2 hc⟩
theorem Fo.Wt(h:Kc xs d c)(h':Kc xs d c')(g:jq xs c x)(g':jq xs c' x):¬c<c':=fun bX=>by
 obtain⟨t,h1,rfl⟩:=h';obtain⟨p,s,e1,e2,e3,_,e5,e6⟩:=F.par h1 (by omega);obtain⟨u,u1,u2,u3⟩:=F.lN g g' (Nat.le_of_lt bX);have:=e6 c u u1 bX u3;have:=(F.kA h).1;omega
theorem Fo.D5(h:Kc xs d c)(h':Kc xs d c')(g:jq xs c x)(g':jq xs c' x):c=c':=by
 have:=F.Wt h h' g g';have:=F.Wt h' h g' g;omega
theorem Fo.ny(hk:∀(n c:Nat),Kc xs n c->SS xs n)(hG:Gd xs d G)(h1:d<x){g:Nat}(hg:G g)(hc:jq xs x g):SS xs x/\Sb xs d x:=by
 obtain⟨⟨b1,b2,b3⟩,hs⟩:=hG.bl g hg;have ma:x<=g:=by obtain⟨_,_,h,_⟩:=hc;exact h
 have hx:x<xs.length:=by omega
 refine⟨?_,h1,hx,?_⟩
 ·by_cases he:x=g
  ·rw[he];exact hs
  ·obtain⟨c,hc,_⟩:=F.Aq (d:=x) g ⟨by omega,b2,.inr ⟨x,rfl,hc⟩⟩;exact hk x c hc
 ·rcases b3 with b3 | ⟨k,rfl,b3⟩
  ·exact .inl b3
  ·exact .inr ⟨k,rfl,F.lN b3 hc (by omega)⟩
theorem Fo.D6(h:Kc xs (n:Int) c)(g:Sb xs d c):(n:Int)=d∨Sb xs d n:=by
 obtain⟨t,h1,h2⟩:=h;rcases F.wG g h1 with e | ⟨p,e,hp,_⟩
 ·exact .inl (by omega)
 ·have:p=n:=by omega
  subst this;exact .inr hp
theorem Fo.M0(hk:∀(n c:Nat),Kc xs n c->SS xs n)(hA:Ap xs D){G:Int->Nat->Prop}(hG:∀d,D d->Gd xs d (G d)):Part xs D fun m=>∃d,D d/\d<m/\∃g,G d g/\jq xs m g where
 st:=by
  rintro x ⟨d,hD,h1,g,hg,hc⟩;obtain⟨h2,h3⟩:=F.ny hk (hG d hD) h1 hg hc;exact⟨h2,d,hD,h3⟩
 up:=by
  rintro x t ⟨d,hD,h1,g,hg,hc⟩ hx;obtain⟨_,h3⟩:=F.ny hk (hG d hD) h1 hg hc;rcases F.wG h3 hx with e | ⟨p,e,hp,_,hpc⟩
  ·exact .inl (by rw[e];exact hD)
  ·exact .inr ⟨p,e,d,hD,hp.1,g,hg,F.kq hpc hc⟩
 one:=by
  rintro n t hn h1 c c' hc qg ⟨d,hD,e1,g,hg,W8⟩ ⟨d',hD',e1',g',xv,G5⟩;obtain⟨_,b⟩:=F.ny hk (hG d hD) e1 hg W8;obtain⟨_,b'⟩:=F.ny hk (hG d' hD') e1' xv G5;have Sy:d=d':=by
   rcases F.D6 hc b with a | a<;>rcases F.D6 qg b' with a' | a'
   ·omega
   ·exact hA d d' c hD hD' b (F.xt a' (F.kA hc))
   ·exact hA d d' c' hD hD' (F.xt a (F.kA qg)) b'
   ·exact hA d d' n hD hD' a a'
  subst Sy;exact(hG d hD).con n t c c' g g' hn h1 hc qg hg xv W8 G5
 top:=by
  intro d hD;obtain⟨g,hg⟩:=(hG d hD).ne;obtain⟨c,h1,h2⟩:=F.Aq g ((hG d hD).bl g hg).1;exact⟨c,h1,d,hD,(F.kA h1).1,g,hg,h2⟩
theorem Fo.Wu(hA:Ap xs D)(P:Part xs D S)(hn:S n):∀(x:Nat),S x->Sb xs n x->∃c,Kc xs n c/\S c
 | x,hx,h=>by
  obtain⟨t,ht⟩:=fO h.2.1;rcases F.wG h ht with e | ⟨p,e,hp,bX,hc⟩
  ·exact⟨x,⟨t,ht,e⟩,hx⟩
  ·rcases P.up x t hx ht with hD | ⟨q,eq,hq⟩
   ·obtain⟨_,d,hd,hb⟩:=P.st n hn;rw[e]at hD;have:=hA d p x hd hD (F.xt hb h) ⟨by omega,h.2.1,.inr ⟨p,rfl,hc⟩⟩;have:=hb.1;have:=hp.1;omega
   ·have:q=p:=by omega
    subst this;exact Fo.Wu hA P hn q hq hp
theorem Fo.UD(hk:∀(n c:Nat),Kc xs n c->SS xs n)(hA:Ap xs D)(P:Part xs D S)(hn:S n)(h0:∀c,Kc xs n c->¬S c)(hG:Gd xs n G):Part xs D fun m=>S m∨((n:Int)<m/\∃g,G g/\jq xs m g):=by
 have no:∀x,S x->¬Sb xs n x:=fun x hx h=>by
  obtain⟨c,h1,h2⟩:=F.Wu hA P hn x hx h;exact h0 c h1 h2
 refine⟨?_,?_,?_,fun d hD=>?_⟩
 ·rintro x (hx | ⟨h1,g,hg,hc⟩)
  ·exact P.st x hx
  ·obtain⟨h2,h3⟩:=F.ny hk hG h1 hg hc;obtain⟨_,d,hD,hb⟩:=P.st n hn;exact⟨h2,d,hD,F.xt hb h3⟩
 ·rintro x t (hx | ⟨h1,g,hg,hc⟩) ht
  ·exact(P.up x t hx ht).imp id fun⟨p,e,h⟩=>⟨p,e,.inl h⟩
  ·obtain⟨_,h3⟩:=F.ny hk hG h1 hg hc;rcases F.wG h3 ht with e | ⟨p,e,hp,_,hpc⟩
   ·exact .inr ⟨n,e,.inl hn⟩
   ·exact .inr ⟨p,e,.inr ⟨hp.1,g,hg,F.kq hpc hc⟩⟩
 ·rintro m t hm h1 c c' hc qg (hx | ⟨e1,g,hg,W8⟩) (AA | ⟨e1',g',xv,G5⟩)
  ·exact P.one m t hm h1 c c' hc qg hx AA
  ·obtain⟨_,b⟩:=F.ny hk hG e1' xv G5;rcases F.D6 qg b with e | b
   ·exact absurd hx (h0 c (by rw[<-e];exact hc))
   ·exact absurd (F.xt b (F.kA hc)) (no c hx)
  ·obtain⟨_,b⟩:=F.ny hk hG e1 hg W8;rcases F.D6 hc b with e | b
   ·exact absurd AA (h0 c' (by rw[<-e];exact qg))
   ·exact absurd (F.xt b (F.kA qg)) (no c' AA)
  ·exact hG.con m t c c' g g' hm h1 hc qg hg xv W8 G5
 ·obtain⟨c,h1,h2⟩:=P.top d hD;exact⟨c,h1,.inl h2⟩
theorem Fo.Zc(P:Part xs D S)(hn:S n)(ht:xs[n]? =some t)(h2:t.k=2):Part xs D fun m=>S m∨(Kc xs n m/\SS xs m):=by
 refine⟨?_,?_,?_,fun d hD=>?_⟩
 ·rintro x (hx | ⟨h1,hs⟩)
  ·exact P.st x hx
  ·obtain⟨_,d,hD,hb⟩:=P.st n hn;exact⟨hs,d,hD,F.xt hb (F.kA h1)⟩
 ·rintro x u (hx | ⟨⟨v,h1,e⟩,hs⟩) hu
  ·exact(P.up x u hx hu).imp id fun⟨p,e,h⟩=>⟨p,e,.inl h⟩
  ·rw[hu,ba]at h1;subst h1;exact .inr ⟨n,e,.inl hn⟩
 ·have no:∀(m:Nat) (u:cM) (c:Nat),xs[m]? =some u->u.k=1->Kc xs m c->¬Kc xs n c:=by
   rintro m u c hm h1 ⟨v,e1,e2⟩ ⟨v',e1',e2'⟩;rw[e1,ba]at e1';subst e1';have:m=n:=by omega
   subst this;rw[hm,ba]at ht;subst ht;omega
  rintro m u hm h1 c c' hc qg (hx | ⟨a,_⟩) (AA | ⟨a',_⟩)
  ·exact P.one m u hm h1 c c' hc qg hx AA
  ·exact absurd a' (no m u c' hm h1 qg)
  ·exact absurd a (no m u c hm h1 hc)
  ·exact absurd a (no m u c hm h1 hc)
 ·obtain⟨c,h1,h2⟩:=P.top d hD;exact⟨c,h1,.inl h2⟩
end
end Go.Proofs.YtbkjcdocjfknfaaGreatDoor.Con
set_option linter.unusedSectionVars false
namespace Go.Proofs.YtbkjcdocjfknfaaGreatDoor.Con
open Go.Value renaming int->O,string->ah,pointer->ai,agg->aj,tuple->ak,bool->ao
open Go.IntKind renaming i64->ae,wrap->av
open Go.Ending renaming returned->aq
open _root_.ByteArray renaming mk->ar
open _root_.Go.Proofs.Tryz renaming prog->au
open Go.Instr renaming buildSlice->aw
open Go renaming World->ay,Value->az,Calls->aB
open Go.Kt renaming Only->aA,SliceF->aD,Cells->aE,OnlyP->aF,Blk->aH
open Go Go.RowKit Go.Kt Go.Kt.V Go.Proofs.YtbkjcdocjfknfaaGreatDoor.Vc
set_option linter.unusedSimpArgs false
set_option linter.unusedVariables false
set_option linter.unusedSectionVars false
set_option maxHeartbeats 800000
set_option maxRecDepth 100000
def YO(n:Int):Nat:=if 0<=n/\n<=63 then 2 ^ n.toNat else 0
def Ew(m:Nat)(n:Int):Nat:=m||| YO n
def qZ(l:List Int):Nat:=l.foldl Ew 0
theorem Ad(n:Int)(i:Nat):(YO n).testBit i=decide (i<64/\n=i):=by
 unfold YO;split
 ·rw[Nat.testBit_two_pow,fS];omega
 ·rw[lS];exact(bG (by omega)).symm
theorem Ae:∀(l:List Int) (m i:Nat),(l.foldl Ew m).testBit i=(m.testBit i||decide (i<64/\(i:Int)∈l))
 | [],m,i=>by simp
 | n::l,m,i=>by
  rw[mY,Ae l,Ew,Nat.testBit_or,Ad,Bool.or_assoc];congr 1;rw[<-Bool.decide_or,fS,aR];constructor
  ·rintro(⟨h,rfl⟩ | ⟨h,h2⟩)
   ·exact⟨h,.inl rfl⟩
   ·exact⟨h,.inr h2⟩
  ·rintro⟨h,h2 | h2⟩
   ·exact .inl ⟨h,h2.symm⟩
   ·exact .inr ⟨h,h2⟩
theorem qc(l:List Int)(i:Nat):(qZ l).testBit i=decide (i<64/\(i:Int)∈l):=by
 unfold qZ;rw[Ae,lS,mN]
def gX(x:Nat):List Int:=Sp 64 fun i=>x.testBit i
theorem lK{x:Nat}{n:Int}:n∈gX x↔∃k:Nat,n=k/\k<64/\x.testBit k=true:=vv
theorem uj(x:Nat):(gX x).Pairwise (· <·):=Gq _ _
theorem B0(x:Nat):(gX x).length<=64:=DN _ _
def Nz(xs:List cM)(d:Int):Nat->Int->Nat->Nat
 | 0,_,S=>S
 | f+1,g,S=>if d<g then Nz xs d f (FT xs g) (Ew S g)else S
def jV(xs:List cM)(d:Int)(G:List Int)(S:Nat):Nat:=G.foldl (fun S g=>Nz xs d xs.length g S) S
def Gy(xs:List cM)(gl:Nat->List Int)(S n:Nat):Nat:=
 if S.testBit n then(if kd xs n=2 then(cZ xs n).foldl Ew S else if cZ xs n≠[]/\((cZ xs n).all fun r=>!S.testBit r.toNat)=true then jV xs n (gl n) S else S)else S
def lc(xs:List cM)(gl:Nat->List Int):Nat->Nat->Nat
 | 0,S=>S
 | n+1,S=>Gy xs gl (lc xs gl n S) n
section
variable {xs:List cM} (F:Fo xs) (hl:xs.length<=64)
include F hl
theorem K2{d:Int}(h0: -1<=d):∀(f g S:Nat),g<f->g<xs.length->∀m,(Nz xs d f g S).testBit m=true↔S.testBit m=true∨(d<m/\jq xs m g)
 | 0,g,S,h,_,m=>by omega
 | f+1,g,S,h,hg,m=>by
  unfold Nz;obtain⟨t,ht⟩:=fO hg;by_cases hd:d<g
  ·rw[if_pos hd,kQ ht];have hor:∀m,(Ew S g).testBit m=true↔S.testBit m=true∨m=g:=fun m=>by
    unfold Ew;rw[Nat.testBit_or,Ad,cp,bL];exact oG ⟨fun h=>by omega,fun h=>⟨by omega,by omega⟩⟩
   by_cases hz:0<g
   ·obtain⟨p,s,e1,e2,e3,_,e5,e6⟩:=F.par ht hz;have hc:jq xs p g:=⟨s,e3,by omega,e5⟩
    rw[e2,K2 h0 f p (Ew S g) (by omega) (eZ e3) m,hor,or_assoc];refine oG ⟨?_,?_⟩
    ·rintro(rfl | ⟨a,b⟩)
     ·exact⟨hd,F.jW hg⟩
     ·exact⟨a,F.kq b hc⟩
    ·rintro⟨a,u,b1,b2,b3⟩;by_cases he:m=g
     ·exact .inl he
     ·have:=e6 m u b1 (by omega) b3;exact .inr ⟨a,F.lN ⟨u,b1,b2,b3⟩ hc this⟩
   ·have:g=0:=by omega
    subst this;rw[(F.rt t ht).1];have e:Nz xs d f (-1) (Ew S (0:Nat))=Ew S (0:Nat):=by
     cases f with
     | zero=>rfl
     | succ f=>unfold Nz;rw[if_neg (by omega)]
    rw[e,hor];refine oG ⟨?_,?_⟩
    ·rintro rfl;exact⟨hd,F.jW hg⟩
    ·rintro⟨_,_,_,b2,_⟩;omega
  ·rw[if_neg hd];refine⟨.inl,fun h=>h.elim id fun⟨a,_,_,b,_⟩=>?_⟩;omega
theorem qe{d:Int}(h0: -1<=d):∀(G:List Int) (S:Nat),(∀g,g∈G->pj xs g)->∀m,(jV xs d G S).testBit m=true↔S.testBit m=true∨(d<m/\∃g:Nat,(g:Int)∈G/\jq xs m g)
 | [],S,_,m=>⟨.inl,fun h=>h.elim id fun⟨_,g,h,_⟩=>by simp at h⟩
 | g::G,S,hG,m=>by
  obtain⟨a1,a2⟩:=hG g (.head _);obtain⟨g,rfl⟩:∃k:Nat,g=k:=⟨g.toNat,by omega⟩
  have:=qe h0 G (Nz xs d xs.length g S) (fun y hy=>hG y (.tail _ hy)) m;unfold jV at this⊢;rw[mY,this,K2 F hl h0 _ _ _ (by omega) (by omega),or_assoc];refine oG ⟨?_,?_⟩
  ·rintro(⟨b1,b2⟩ | ⟨b1,q,b2,b3⟩)
   ·exact⟨b1,g,.head _,b2⟩
   ·exact⟨b1,q,.tail _ b2,b3⟩
  ·rintro⟨b1,q,b2,b3⟩;rcases aR.1 b2 with e | e
   ·have:q=g:=by omega
    subst this;exact .inl ⟨b1,b3⟩
   ·exact .inr ⟨b1,q,e,b3⟩
omit F in
theorem QA {n:Nat} (S m:Nat):((cZ xs n).foldl Ew S).testBit m=true↔S.testBit m=true∨(m:Int)∈cZ xs n:=by
 rw[Ae,cp,bL];refine oG ⟨fun h=>h.2,fun h=>⟨?_,h⟩⟩;obtain⟨q,t,e,h1,_⟩:=kT.1 h;have:=eZ h1;omega
end
def MS(xs:List cM)(S n:Nat):Prop:=(kd xs n=2->∀r,r∈cZ xs n->S.testBit r.toNat=true)/\(kd xs n=1->cZ xs n=[]∨∃r,r∈cZ xs n/\S.testBit r.toNat=true)
theorem MS.mono{xs:List cM}{S S' n:Nat}(h:MS xs S n)(hs:∀m,S.testBit m=true->S'.testBit m=true):MS xs S' n:=
 ⟨fun e r hr=>hs _ (h.1 e r hr),fun e=>(h.2 e).imp id fun⟨r,hr,hb⟩=>⟨r,hr,hs _ hb⟩⟩
section
variable {xs:List cM} (sd:Sd xs) {D:Int->Prop} {gl:Nat->List Int}
include sd
theorem iL{n c:Nat}:(c:Int)∈cZ xs n↔Kc xs n c/\SS xs c:=by
 rw[kT];constructor
 ·rintro⟨q,t,e,h1,h2,h3⟩;have:q=c:=by omega
  subst this;refine⟨⟨t,h1,h2⟩,t,h1,?_⟩;unfold AJ at h3;rw[cp,dW,dW]at h3;exact h3
 ·rintro⟨⟨t,h1,h2⟩,u,h3,h4⟩;rw[h1,ba]at h3;subst h3;refine⟨c,t,rfl,h1,h2,?_⟩;unfold AJ;rw[cp,dW,dW];exact h4
theorem B1(hk:∀(n c:Nat),Kc xs n c->SS xs n)(hA:Ap xs D)(hgl:∀(n:Nat) (t:cM),xs[n]? =some t->t.k=1->cZ xs n≠[]->Gd xs n (fun g=>(g:Int)∈gl n)/\∀g,g∈gl n->pj xs g){S:Nat}(P:Part xs D fun m=>S.testBit m=true):
  ∀k,k<=xs.length->Part xs D (fun m=>(lc xs gl k S).testBit m=true)/\(∀m,S.testBit m=true->(lc xs gl k S).testBit m=true)/\∀n,n<k->(lc xs gl k S).testBit n=true->MS xs (lc xs gl k S) n
 | 0,_=>⟨P,fun _ h=>h,fun n h=>by omega⟩
 | k+1,NS=>by
  obtain⟨Q,hm,hf⟩:=B1 hk hA hgl P k (by omega);rw[lc];generalize lc xs gl k S=U at Q hm hf;obtain⟨t,ht⟩:=fO (xs:=xs) (i:=k) (by omega);have ek:=nX ht;have fin:∀U':Nat,Part xs D (fun m=>U'.testBit m=true)->(∀m,U.testBit m=true->U'.testBit m=true)->(∀m,U'.testBit m=true->m<=k->U.testBit m=true)->(U.testBit k=true->MS xs U' k)->Part xs D (fun m=>U'.testBit m=true)/\(∀m,S.testBit m=true->U'.testBit m=true)/\∀n,n<k+1->U'.testBit n=true->MS xs U' n:=fun U' Q' hU hb hF=>by
   refine⟨Q',fun m h=>hU m (hm m h),fun n hn hu=>?_⟩;have:=hb n hu (by omega);by_cases he:n=k
   ·subst he;exact hF this
   ·exact(hf n (by omega) this).mono hU
  unfold Gy;by_cases hU:U.testBit k=true
  ·rw[if_pos hU];by_cases h2:kd xs k=2
   ·rw[if_pos h2];have hb:=QA (xs:=xs) sd.le (n:=k) U;have xQ:(fun m=>((cZ xs k).foldl Ew U).testBit m=true)=fun m=>U.testBit m=true∨(Kc xs k m/\SS xs m):=funext fun m=>propext ((hb m).trans (oG (iL sd)));refine fin _ (by rw[xQ];exact sd.fo.Zc Q hU ht (by rw[<-ek];exact h2)) (fun m h=>(hb m).2 (.inl h)) (fun m h ma=>?_) fun _=>⟨fun _ r hr=>?_,fun e=>by omega⟩
    ·rcases(hb m).1 h with h | h
     ·exact h
     ·have:=(sd.fo.kA ((iL sd).1 h).1).1;omega
    ·obtain⟨q,_,rfl,_⟩:=kT.1 hr;exact(hb _).2 (.inr (by rw[aX];exact hr))
   ·rw[if_neg h2];by_cases h3:cZ xs k≠[]/\((cZ xs k).all fun r=>!U.testBit r.toNat)=true
    ·rw[if_pos h3];have h1:t.k=1:=by
      obtain⟨⟨v,hv,e⟩,_⟩:=Q.st k hU;rw[ht,ba]at hv;subst hv;omega
     obtain⟨hG,hH⟩:=hgl k t ht h1 h3.1;have hb:=qe sd.fo sd.le (d:=(k:Int)) (by omega) (gl k) U hH;have h0:∀c,Kc xs k c->¬U.testBit c=true:=fun c hc hu=>by
      have:=dS.1 h3.2 _ ((iL sd).2 ⟨hc,(Q.st c hu).1⟩);rw[aX,hu]at this;cases this
     have xQ:(fun m=>(jV xs k (gl k) U).testBit m=true)=fun m=>U.testBit m=true∨((k:Int)<m/\∃g:Nat,(g:Int)∈gl k/\jq xs m g):=funext fun m=>propext (hb m);refine fin _ (by rw[xQ];exact sd.fo.UD hk hA Q hU h0 hG) (fun m h=>(hb m).2 (.inl h)) (fun m h ma=>?_) fun _=>⟨fun e=>absurd e h2,fun _=>.inr ?_⟩
     ·rcases(hb m).1 h with h | ⟨h,_⟩
      ·exact h
      ·omega
     ·obtain⟨g,hg⟩:=hG.ne;obtain⟨c,c1,c2⟩:=sd.fo.Aq g (hG.bl g hg).1;have hc:(jV xs k (gl k) U).testBit c=true:=(hb c).2 (.inr ⟨(sd.fo.kA c1).1,g,hg,c2⟩);obtain⟨hs,_⟩:=sd.fo.ny hk hG (sd.fo.kA c1).1 hg c2;exact⟨c,(iL sd).2 ⟨c1,hs⟩,by rw[aX];exact hc⟩
    ·rw[if_neg h3];refine fin _ Q (fun _ h=>h) (fun _ h _=>h) fun _=>⟨fun e=>absurd e h2,fun _=>?_⟩
     by_cases h4:cZ xs k=[]
     ·exact .inl h4
     ·refine .inr ?_;have:¬((cZ xs k).all fun r=>!U.testBit r.toNat)=true:=fun h=>h3 ⟨h4,h⟩;obtain⟨r,hr,hb⟩:=List.all_eq_false.1 (fh.2 this);exact⟨r,hr,by simpa using hb⟩
  ·rw[if_neg hU];exact fin _ Q (fun _ h=>h) (fun _ h _=>h) fun h=>absurd h hU
end
theorem Af{s:aJ}(h:eK s=true):s≠[]:=fun e=>by subst e;exact absurd h (by decide)
mutual
def NA:Nd->List Nd
 | .mk b l=>.mk b l::QB l
def QB:List Nd->List Nd
 | []=>[]
 | x::l=>NA x++QB l
end
mutual
theorem DQ:∀x,(NA x).length=iO x
 | .mk b l=>by rw[NA,iO,bp,K3]
theorem K3:∀l,(QB l).length=eV l
 | []=>by rw[QB,eV];rfl
 | x::l=>by rw[QB,eV,aU,DQ,K3]
end
mutual
theorem K4:∀x,(NA x).map (fun y=>y.b)=vu x
 | .mk b l=>by rw[NA,vu,bF,Wj];rfl
theorem Wj:∀l,(QB l).map (fun y=>y.b)=zY l
 | []=>by rw[QB,zY];rfl
 | x::l=>by rw[QB,zY,da,K4,Wj]
end
def YP(xs:List cM)(vs:List (aJ))(a:Nat)(x:Nd):Prop:=∃pa dp,vp xs (AZ a pa dp x) a/\xh xs x.b x.kids a=[]/\(∀m,m∈x.b.mv->FW xs vs m=[])/\zG x.b x.kids.length=true/\∀y,y∈x.kids->∃d,pS d y=true
section
variable {xs:List cM} {vs:List (aJ)}
theorem B3:∀{l:List Nd} {d:Nat} {y:Nd},mW d l=true->y∈l->pS d y=true
 | [],_,_,_,h=>by cases h
 | x::l,d,y,h,hy=>by
  rw[mW,aQ]at h;rcases aR.1 hy with rfl | hy
  ·exact h.1
  ·exact B3 h.2 hy
mutual
theorem K5:∀(x:Nd) (a d:Nat) (pa dp:Int),Nx xs vs a x=[]->pS d x=true->vp xs (AZ a pa dp x) a->∀i y,(NA x)[i]? =some y->YP xs vs (a+i) y
 | .mk b l,a,d,pa,dp,h,nE,hs,i,y,hy=>by
  rw[Nx]at h;obtain⟨h1,h2⟩:=dM.1 h;obtain⟨h2,h3⟩:=dM.1 h2;obtain⟨h3,h4⟩:=dM.1 h3;rw[pS,aQ,aQ]at nE;obtain⟨⟨_,hb⟩,hko⟩:=nE;rw[NA]at hy;cases i with
  | zero=>
   rw[cE,ba]at hy;subst hy;exact⟨pa,dp,hs,h1,fun m hm=>List.flatMap_eq_nil_iff.1 h3 m hm,hb,fun y hy=>⟨d+1,B3 hko hy⟩⟩
  | succ i=>
   rw[de]at hy;rw[AZ]at hs;have AM:vp xs (pU (a+1) a (dp+1) l) (a+1):=fun i x hi=>by rw[eM,j6 1 i];exact hs (i+1) x hi
   have:=Gz l (a+1) (d+1) a (dp+1) h4 hko AM i y hy;rwa[eM,j6 1 i]at this
theorem Gz:∀(l:List Nd) (a d:Nat) (pa dp:Int),qJ xs vs a l=[]->mW d l=true->vp xs (pU a pa dp l) a->∀i y,(QB l)[i]? =some y->YP xs vs (a+i) y
 | [],_,_,_,_,_,_,_,i,y,hy=>by rw[QB]at hy;simp at hy
 | x::l,a,d,pa,dp,h,nE,hs,i,y,hy=>by
  rw[qJ]at h;obtain⟨h1,h2⟩:=dM.1 h;rw[mW,aQ]at nE;rw[pU]at hs;rw[QB]at hy;have NZ:=DQ x;by_cases hi:i<iO x
  ·rw[bJ (by omega)]at hy;exact K5 x a d pa dp h1 nE.1 hs.left i y hy
  ·rw[cd (by omega),NZ]at hy;have hr:=hs.right;rw[lX]at hr;have:=Gz l (a+iO x) d pa dp h2 nE.2 hr _ y hy;rwa[show a+iO x+(i-iO x)=a+i by omega]at this
end
theorem GA{pa dp:Int}:∀{l:List Nd} {a i:Nat} {s:cM},(pU a pa dp l)[i]? =some s->s.pa=pa->pa<a->∃y,y∈l/\s.k=y.b.k/\s.nm=y.b.nm
 | [],a,i,s,h,_,_=>by rw[pU]at h;simp at h
 | .mk b ks::l,a,i,s,h,hp,ha=>by
  rw[pU]at h;have hl:=lX a pa dp (.mk b ks);by_cases hi:i<iO (.mk b ks)
  ·rw[bJ (by omega)]at h;obtain⟨h1,h2,h3,h4⟩:=Dx a pa dp (.mk b ks) i s h;by_cases h0:i=0
   ·subst h0;rw[AZ,cE,ba]at h;subst h;exact⟨_,.head _,rfl,rfl⟩
   ·obtain⟨p,t,_,_,e,_⟩:=h4 (by omega);omega
  ·rw[cd (by omega),hl]at h;obtain⟨y,hy,e⟩:=GA h hp (by omega);exact⟨y,.tail _ hy,e⟩
theorem GB{y:Nd}{pa dp:Int}:∀{l:List Nd} (a:Nat),y∈l->∃(j:Nat) (t:cM),(pU a pa dp l)[j]? =some t/\t.pa=pa/\t.k=y.b.k
 | [],_,h=>by cases h
 | .mk b ks::l,a,h=>by
  rw[pU];rw[aR]at h;rcases h with rfl | h
  ·exact⟨0,_,by rw[AZ];rfl,rfl,rfl⟩
  ·obtain⟨j,t,h1,h2⟩:=GB (a+iO (.mk b ks)) h;exact⟨(AZ a pa dp (.mk b ks)).length+j,t,by rw[cd (by omega),dY];exact h1,h2⟩
end
structure Snd (c:Ch) (xs:List cM) (vs:List (aJ)):Prop where
 fo:Fo xs
 le:xs.length<=64
 len:xs.length=iO c.root
 nd:(xs.map fun x:cM=>x.nm).Nodup
 rt:c.root.b.k=1
 nice:∀i y,(NA c.root)[i]? =some y->YP xs vs i y
theorem QC{c:Ch}(h:(jl c).1=0):Snd c (cX c) (Ev c):=by
 obtain⟨h1,h2⟩:=ui h;have nE:=MN h1;unfold FR at nE;simp only[aQ]at nE;unfold BJ at h2;obtain⟨g1,g2⟩:=dM.1 h2;obtain⟨g2,g3⟩:=dM.1 g2;have hnd:=(BU g1).1;have enm:(HY c.root).map (fun p=>p.1)=(cX c).map fun x:cM=>x.nm:=(PM 0 (-1) 0 c.root).symm;rw[enm]at hnd;have hd:=aP nE.2;have fu:(cX c).length=iO c.root:=lX 0 (-1) 0 c.root;refine⟨Dy c,by omega,fu,hnd,hd.1,fun i y hy=>?_⟩;have:=K5 c.root 0 0 (-1) 0 g3 nE.1.2 (fun i x hi=>by rw[bM];exact hi) i y hy;rwa[bM]at this
section
variable {c:Ch} {xs:List cM} {vs:List (aJ)} (N:Snd c xs vs)
include N
theorem Snd.at_{i:Nat}{t:cM}(h:xs[i]? =some t):∃b l pa dp,(NA c.root)[i]? =some (.mk b l)/\t=⟨b.k,b.nm,pa,dp,((i+iO (.mk b l):Nat):Int)⟩/\vp xs (pU (i+1) i (dp+1) l) (i+1)/\xh xs b l i=[]/\(∀m,m∈b.mv->FW xs vs m=[])/\zG b l.length=true/\∀y,y∈l->∃d,pS d y=true:=by
 have hi:i<(NA c.root).length:=by rw[DQ,<-N.len];exact eZ h
 obtain⟨y,hy⟩:∃y,(NA c.root)[i]? =some y:=⟨_,aV hi⟩
 obtain⟨pa,dp,h1,h2,h3,h4,h5⟩:=N.nice i y hy;obtain⟨b,l⟩:=y;have auC:=h1;rw[AZ]at h1;have h0:=h1 0 _ rfl;rw[fx,h,ba]at h0;refine⟨b,l,pa,dp,hy,?_,fun j x hj=>?_,h2,h3,h4,h5⟩
 ·rw[h0];congr 1;rw[iO];omega
 ·have:=h1 (j+1) x hj;rwa[show i+(j+1)=i+1+j by omega]at this
theorem Snd.kn{i:Nat}{t:cM}(h:xs[i]? =some t):1<=t.k/\t.k<=4:=by
 obtain⟨b,l,pa,dp,_,rfl,_,_,_,hb,_⟩:=N.at_ h;dsimp only;unfold zG at hb;by_cases hh:fL b.k=true
 ·have:=aP hh;omega
 ·rw[if_neg hh]at hb;simp only[aQ]at hb;have:=(aP hb.2.1.1.1.1).1;omega
theorem Snd.hk(n k:Nat)(h:Kc xs n k):SS xs n:=by
 have hb:=N.fo.kA h;obtain⟨h1,h2,h3⟩:=hb;rcases h3 with h3 | ⟨m,e,u,u1,u2,u3⟩
 ·omega
 ·have:m=n:=by omega
  subst this;refine⟨u,u1,?_⟩;obtain⟨b,l,pa,dp,_,rfl,_,_,_,hb,_⟩:=N.at_ u1;dsimp only at u3⊢;unfold zG at hb;by_cases hh:fL b.k=true
  ·rw[if_pos hh]at hb;simp only[aQ]at hb;have:=(aP hb.2.2).2.2.2.2;have:l=[]:=nK.1 this;subst this;rw[iO,eV]at u3;omega
  ·rw[if_neg hh]at hb;simp only[aQ]at hb;exact(aP hb.2.1.1.1.1).1
theorem Snd.UE{n:Nat}{t:cM}{b:Nb}{l:List Nd}{dp:Int}(ht:xs[n]? =some t)(he:t.en=((n+iO (.mk b l):Nat):Int))(hs:vp xs (pU (n+1) n (dp+1) l) (n+1))(hr:cZ xs n≠[]):0<Hc l:=by
 obtain⟨r,hr⟩:=fA _ hr;obtain⟨q,u,rfl,hu,hp,hk⟩:=kT.1 hr;have hb:=N.fo.kA ⟨u,hu,hp⟩;obtain⟨h1,h2,h3⟩:=hb;rcases h3 with h3 | ⟨m,e,v,v1,v2,v3⟩
 ·omega
 ·have:m=n:=by omega
  subst this;rw[ht,ba]at v1;subst v1;rw[he,iO]at v3;have hl:=sX (m+1) m (dp+1) l;obtain⟨s,AM⟩:=fO (xs:=pU (m+1) m (dp+1) l) (i:=q-(m+1)) (by omega);have:=hs _ s AM;rw[show m+1+(q-(m+1))=q by omega,hu,ba]at this;subst this;obtain⟨y,hy,e1,_⟩:=GA AM hp (by omega);unfold Hc;refine List.length_pos_of_mem (dG.2 ⟨hy,?_⟩);rw[<-e1];unfold AJ at hk;rw[cp,dW,dW]at hk;unfold fL;rw[dy,dF];omega
theorem Snd.Lw{n:Nat}{l:List Nd}{dp:Int}(hs:vp xs (pU (n+1) n (dp+1) l) (n+1))(h:0<Hc l):cZ xs n≠[]:=by
 unfold Hc at h;obtain⟨y,hy⟩:=List.exists_mem_of_length_pos h;obtain⟨hy,hh⟩:=dG.1 hy;obtain⟨j,t,h1,h2,h3⟩:=GB (pa:=(n:Int)) (dp:=dp+1) (n+1) hy;have ht:=hs j t h1;have:=N.kn ht;have hm:((n+1+j:Nat):Int)∈cZ xs n:=kT.2 ⟨_,t,rfl,ht,h2,by
  rw[h3]at this⊢;unfold fL at hh;rw[dy,dF]at hh;unfold AJ;rw[cp,dW,dW];omega⟩
 exact j8 hm
theorem Snd.sd:Sd xs:=by
 refine⟨N.fo,N.le,fun i s h=>N.kn h,?_,fun i s hs hk=>?_⟩
 ·obtain⟨t,ht⟩:=fO N.fo.ne;refine⟨t,ht,?_⟩;obtain⟨b,l,pa,dp,h1,rfl,_⟩:=N.at_ ht;have hr:=N.rt;generalize c.root=r at h1 hr;obtain⟨b',l'⟩:=r;rw[NA,cE,ba]at h1;injection h1 with h1;subst h1;exact hr
 ·obtain⟨b,l,pa,dp,_,rfl,h2,h3,_⟩:=N.at_ hs;dsimp only at hk;unfold xh at h3;rw[if_neg (by unfold fL;rw[hk];decide),if_pos hk]at h3;have:=sY.1 h3;rw[aQ,bL,bL]at this;exact N.Lw h2 (by omega)
theorem Snd.ini{n:Nat}{t:cM}{b:Nb}(h:xs[n]? =some t)(hb:(vu c.root)[n]? =some b)(h1:t.k=1)(hr:cZ xs n≠[]):∃q:Nat,mX xs b.ini=q/\Kc xs n q:=by
 obtain⟨b',l,pa,dp,e0,rfl,h2,h3,_,h4,h5⟩:=N.at_ h;have eb:b'=b:=by
  rw[<-K4,bZ,e0]at hb;injection hb
 subst eb;dsimp only at h1;have nA:=N.UE h rfl h2 hr;unfold xh at h3;rw[if_neg (by unfold fL;rw[h1];decide),if_neg (by omega),if_pos nA]at h3;have IP:=sY.1 h3;obtain⟨i,x,g1,g2,g3,_⟩:=K0 IP h2;have hfi:=Gm N.nd g1;have gz:b'.ini≠[]:=by
  unfold DB at IP;obtain⟨y,hy,e⟩:=fy.1 IP;rw[<-aP e];obtain⟨d,hd⟩:=h5 y hy;obtain⟨by_,ly⟩:=y;rw[pS,aQ,aQ]at hd;have:=hd.1.2;unfold zG at this;rw[aQ]at this;exact Af this.1
 refine⟨i,?_,x,g1,g3⟩;unfold mX;rw[if_neg gz,<-g2];exact hfi
theorem Snd.dft{n:Nat}{t:cM}{b:Nb}(h:xs[n]? =some t)(hb:(vu c.root)[n]? =some b)(h1:fL t.k=true):∃q:Nat,mX xs b.dft=q/\SS xs q/\Sb xs t.pa q:=by
 obtain⟨b',l,pa,dp,e0,et,h2,h3,_,h4,h5⟩:=N.at_ h;have eb:b'=b:=by
  rw[<-K4,bZ,e0]at hb;injection hb
 subst eb;have e1:t.k=b'.k:=by rw[et]
 rw[e1]at h1;unfold xh at h3;rw[if_pos h1]at h3;have:=sY.1 h3;rw[aQ,nT]at this;obtain⟨nA,i,j,ei,ej,rk,hc⟩:=this;unfold Ya at nA;rw[aQ,bL]at nA;unfold zG at h4;rw[if_pos h1]at h4;simp only[aQ]at h4;have hl:=N.fo.wF hc;obtain⟨u,hu⟩:=fO hl;refine⟨j,?_,⟨u,hu,?_⟩,?_⟩
 ·unfold mX;rw[if_neg (Af h4.2.1)];exact ej
 ·have hk:=nA.2;rw[ej,fP hu]at hk;have:=N.kn hu;unfold fL at hk;rw[dy,dF]at hk;omega
 ·rw[<-kQ h,ei];exact⟨by omega,hl,.inr ⟨i,rfl,hc⟩⟩
end
def Cn(xs:List cM)(G:aL):Prop:=∀(n:Nat) (t:cM) (c c' g g':Nat),xs[n]? =some t->t.k=1->Kc xs n c->Kc xs n c'->G g->G g'->jq xs c g->jq xs c' g'->c=c'
abbrev xo:=Int->Option (List Int)
def dX(xs:List cM)(dft:List Int)(M:xo)(t:Int):List Int:=
 if t<0∨(xs.length:Int)<=t then[]else if fL (kP xs t)then(match M t with
  | some l=>l
  | none=>[(dft[t.toNat]?).getD 0])else[t]
def tQ(xs:List cM)(M:xo):Prop:=∀(n:Nat) (t:cM) (l:List Int),xs[n]? =some t->fL t.k=true->M n=some l->l≠[]/\(∀g,g∈l->∃k:Nat,g=k/\SS xs k/\Sb xs t.pa k)/\Cn xs fun k=>(k:Int)∈l
theorem tQ.none(xs:List cM):tQ xs fun _=>none:=fun _ _ _ _ _ h=>by cases h
theorem GC{α:Type}{R:α->α->Prop}:∀{l:List α} {a b:α},l.Pairwise R->a∈l->b∈l->a≠b->R a b∨R b a
 | [],_,_,_,h,_,_=>by cases h
 | x::l,a,b,h,ha,hb,hn=>by
  rw[fp]at h;rcases aR.1 ha with rfl | R1<;>rcases aR.1 hb with rfl | tB
  ·exact absurd rfl hn
  ·exact .inl (h.1 b tB)
  ·exact .inr (h.1 a R1)
  ·exact GC h.2 R1 tB hn
theorem GD{xs:List cM}:∀{r:List (aJ)} {l:List Int},Nw xs l r=true->(∀s,s∈r->∀o,o∈l->Dz xs (AI xs s) o=true)/\r.Pairwise fun s s'=>Dz xs (AI xs s') (AI xs s)=true
 | [],l,_=>⟨fun _ h=>(by cases h),List.Pairwise.nil⟩
 | s::r,l,h=>by
  rw[Nw]at h;by_cases h1:gj xs s<1
  ·rw[if_pos h1]at h;cases h
  rw[if_neg h1]at h;by_cases h2:(l.any fun o=>!Dz xs (AI xs s) o)=true
  ·rw[if_pos h2]at h;cases h
  rw[if_neg h2]at h;obtain⟨g1,g2⟩:=GD h;refine⟨fun s' hs o ho=>?_,fp.2 ⟨fun s' hs=>g1 s' hs _ (by simp),g2⟩⟩;rcases aR.1 hs with rfl | hs
  ·cases ha:Dz xs (AI xs s') o with
   | true=>rfl
   | false=>exact absurd (fy.2 ⟨o,ho,by rw[ha];rfl⟩) h2
  ·exact g1 s' hs o (ch.2 (.inl ho))
section
variable {xs:List cM} (F:Fo xs)
include F
theorem Fo.UF{a b:Nat}(ha:a<xs.length)(hb:b<xs.length):∃m:Nat,BI xs a b=m/\jq xs m a/\jq xs m b/\∀j,jq xs j a->jq xs j b->j<=m:=by
 have key:∀j:Nat,(oo xs j a&&oo xs j b)=true↔jq xs j a/\jq xs j b:=fun j=>by
  rw[aQ,nS,nS];constructor
  ·rintro⟨⟨i,k,e1,e2,h⟩,⟨i',k',e1',e2',h'⟩⟩;have:i=j:=by omega
   have:i'=j:=by omega
   have:k=a:=by omega
   have:k'=b:=by omega
   subst_vars;exact⟨h,h'⟩
  ·rintro⟨h,h'⟩;exact⟨⟨j,a,rfl,rfl,h⟩,⟨j,b,rfl,rfl,h'⟩⟩
 rcases wh (xs:=xs) a b xs.length with⟨_,h⟩ | ⟨m,h1,h2,h3,h4⟩
 ·have:=h 0 F.ne;rw[(key 0).2 ⟨F.sF ha,F.sF hb⟩]at this;cases this
 ·obtain⟨c1,c2⟩:=(key m).1 h3;refine⟨m,h1,c1,c2,fun j NG WC=>qp fun bX=>?_⟩;have ja:j<xs.length:=by
   obtain⟨_,e,_⟩:=NG;exact eZ e
  have:=h4 j bX ja;rw[(key j).2 ⟨NG,WC⟩]at this;cases this
theorem Fo.Q9{a b:Nat}(ha:a<xs.length)(hb:b<xs.length)(h:Dz xs a b=true){n c c' g g':Nat}{t:cM}(hn:xs[n]? =some t)(h1:t.k=1)(hc:Kc xs n c)(qg:Kc xs n c')(hg:jq xs a g)(xv:jq xs b g')(W8:jq xs c g)(G5:jq xs c' g'):c=c':=by
 obtain⟨m,e,c1,c2,GX⟩:=F.UF ha hb;unfold Dz at h;rw[aQ,bL,bL,e]at h;obtain⟨⟨n1,n2⟩,h2⟩:=h;have hmg:=F.kq c1 hg;have anp:=F.kq c2 xv;have cvn:jq xs n c:=by
  obtain⟨_,_,h3⟩:=F.kA hc;rcases h3 with h3 | ⟨k,e,h3⟩
  ·omega
  ·have:k=n:=by omega
   rw[<-this];exact h3
 have anq:jq xs n c':=by
  obtain⟨_,_,h3⟩:=F.kA qg;rcases h3 with h3 | ⟨k,e,h3⟩
  ·omega
  ·have:k=n:=by omega
   rw[<-this];exact h3
 have hng:=F.kq cvn W8;have aaP:=F.kq anq G5;rcases Nat.lt_trichotomy n m with bX | heq | W3
 ·have hnm:=F.lN hng hmg (Nat.le_of_lt bX);obtain⟨c0,k1,k2⟩:=F.Aq (d:=(n:Int)) m ⟨by omega,F.wF hnm,.inr ⟨n,rfl,hnm⟩⟩;have e1:=F.D5 hc k1 W8 (F.kq k2 hmg);have e2:=F.D5 qg k1 G5 (F.kq k2 anp);omega
 ·subst heq;rw[fP hn]at h2;omega
 ·exfalso;by_cases hna:n<=a
  ·have ca:=F.lN hng hg hna;by_cases wH:n<=b
   ·have:=GX n ca (F.lN aaP xv wH);omega
   ·have:=F.lN xv aaP (by omega);have:=GX b (F.kq this ca) (F.jW hb);have:b<=m:=this;have h4:m<=b:=by obtain⟨_,_,h,_⟩:=c2;exact h
    omega
  ·have cn:=F.lN hg hng (by omega);have cg:=F.kq cn aaP;rcases Nat.le_total a b with hab | hab
   ·have:=GX a (F.jW ha) (F.lN cg xv hab);have h4:m<=a:=by obtain⟨_,_,h,_⟩:=c1;exact h
    omega
   ·have:=GX b (F.lN xv cg hab) (F.jW hb);have h4:m<=b:=by obtain⟨_,_,h,_⟩:=c2;exact h
    omega
end
section
variable {xs:List cM} (F:Fo xs) {l:List Int}
include F
theorem K6:∀(f d:Nat),d<xs.length->d<=f->(∀n,n∈l->∃k:Nat,n=k/\jq xs d k)->∃r:Nat,Ij xs l f d=r/\r<xs.length/\(∀n,n∈l->∃k:Nat,n=k/\jq xs r k)/\(r=0∨kP xs r=1/\(r:Int)∉l)
 | 0,d,h,hf,hc=>⟨d,rfl,h,hc,.inl (by omega)⟩
 | f+1,d,h,hf,hc=>by
  unfold Ij;by_cases hd:0<(d:Int)/\(kP xs d≠1∨(d:Int)∈l)
  ·rw[if_pos hd];obtain⟨t,ht⟩:=fO h;obtain⟨p,s,e1,e2,e3,_,e5,_⟩:=F.par ht (by omega);rw[kQ ht,e2];exact K6 f p (eZ e3) (by omega) fun n hn=>by
    obtain⟨k,e,hk⟩:=hc n hn;exact⟨k,e,F.kq ⟨s,e3,by omega,e5⟩ hk⟩
  ·rw[if_neg hd];refine⟨d,rfl,h,hc,?_⟩;by_cases h0:d=0
   ·exact .inl h0
   ·refine .inr ⟨?_,fun h=>hd ⟨by omega,.inr h⟩⟩;exact uB.1 fun h=>hd ⟨by omega,.inl h⟩
theorem Uh{a:Nat}{tg:List Int}(ha:a<xs.length)(h:∀t,t∈tg->pj xs t)(gz:tg≠[]):∃r:Nat,DL xs a tg=r/\r<xs.length/\(∀n,n∈(a:Int)::tg->∃k:Nat,n=k/\jq xs r k)/\(r=0∨kP xs r=1/\(r:Int)∉(a:Int)::tg):=by
 unfold DL mtM;rw[if_neg gz,if_neg]
 ·rcases vq xs ((a:Int)::tg) xs.length with⟨_,g⟩ | ⟨q,g1,g2,g3,g4⟩
  ·have:=g 0 F.ne;rw[vt.2]at this
   ·cases this
   ·intro n hn;rcases aR.1 hn with rfl | hn
    ·exact⟨a,rfl,F.sF ha⟩
    ·obtain⟨b1,b2⟩:=h n hn;exact⟨n.toNat,by omega,F.sF (by omega)⟩
  ·rw[g1];exact K6 F _ q g2 (by omega) (vt.1 g3)
 ·rintro(e | e)
  ·cases e
  ·obtain⟨n,hn,hb⟩:=fy.1 e;rw[dy,fh]at hb;refine hb (zX.2 ?_);rcases aR.1 hn with rfl | hn
   ·exact⟨by omega,by omega⟩
   ·exact h n hn
end
section
variable {c:Ch} {xs:List cM} {vs:List (aJ)} (N:Snd c xs vs) {M:xo} (hM:tQ xs M) {dft:List Int} (El:dft=(vu c.root).map fun b=>mX xs b.dft)
include N hM El
theorem Snd.UG{n:Nat}{t:cM}(h:xs[n]? =some t):dX xs dft M n≠[]/\(Cn xs fun k=>(k:Int)∈dX xs dft M n)/\∀g,g∈dX xs dft M n->∃k:Nat,g=k/\SS xs k/\((fL t.k=false/\k=n)∨(fL t.k=true/\Sb xs t.pa k)):=by
 unfold dX;have hl:=eZ h;rw[if_neg (by omega),fP h];have hk:=N.kn h;cases hh:fL t.k with
 | false=>
  rw[if_neg (by simp)];refine⟨by simp,fun m u a a' g g' h1 h2 h3 h4 hg xv h5 h6=>?_,fun g hg=>⟨n,by simpa using hg,⟨t,h,?_⟩,.inl ⟨rfl,rfl⟩⟩⟩
  ·have e1:g=n:=EF (show(g:Int)=n by simpa using hg);have e2:g'=n:=EF (show(g':Int)=n by simpa using xv);subst e1 e2;exact N.fo.D5 h3 h4 h5 h6
  ·unfold fL at hh;rw[dF]at hh;omega
 | true=>
  rw[if_pos rfl];cases hm:M n with
  | some l=>
   obtain⟨g1,g2,g3⟩:=hM n t l h hh hm;exact⟨g1,g3,fun g hg=>by
    obtain⟨k,e,h1,h2⟩:=g2 g hg;exact⟨k,e,h1,.inr ⟨rfl,h2⟩⟩⟩
  | none=>
   have hb:n<(vu c.root).length:=by rw[qN,<-N.len];exact hl
   obtain⟨b,hb⟩:∃b,(vu c.root)[n]? =some b:=⟨_,aV hb⟩
   obtain⟨q,e,h1,h2⟩:=N.dft h hb hh;have ed:(dft[(n:Int).toNat]?).getD 0=q:=by
    rw[El,aX,bZ,hb];exact e
   dsimp only;rw[ed];refine⟨by simp,fun m u a a' g g' _ _ h3 h4 hg xv h5 h6=>?_,fun g hg=>⟨q,by simpa using hg,h1,.inr ⟨rfl,h2⟩⟩⟩;have e1:g=q:=EF (show(g:Int)=q by simpa using hg);have e2:g'=q:=EF (show(g':Int)=q by simpa using xv);subst e1 e2;exact N.fo.D5 h3 h4 h5 h6
theorem Snd.Zd{n:Nat}{t:cM}{b:Nb}(h:xs[n]? =some t)(hb:(vu c.root)[n]? =some b)(h1:t.k=1)(hr:cZ xs n≠[]):Gd xs n (fun g=>(g:Int)∈dX xs dft M (mX xs b.ini))/\∀g,g∈dX xs dft M (mX xs b.ini)->pj xs g:=by
 obtain⟨q,e,hq⟩:=N.ini h hb h1 hr;obtain⟨u,hu,hp⟩:=hq;rw[e];obtain⟨g1,g2,g3⟩:=N.UG hM El hu;have hs:=N.fo.kA ⟨u,hu,hp⟩;have all:∀g,g∈dX xs dft M q->∃k:Nat,g=k/\SS xs k/\Sb xs n k:=fun g hg=>by
  obtain⟨k,ek,h2,⟨_,e⟩ | ⟨_,h3⟩⟩:=g3 g hg
  ·exact⟨k,ek,h2,by rw[e];exact hs⟩
  ·exact⟨k,ek,h2,by rw[<-hp];exact h3⟩
 refine⟨⟨?_,fun g hg=>?_,g2⟩,fun g hg=>?_⟩
 ·obtain⟨g,hg⟩:=fA _ g1;obtain⟨k,ek,_⟩:=all g hg;exact⟨k,by rw[<-ek];exact hg⟩
 ·obtain⟨k,ek,h2,h3⟩:=all _ hg;have:k=g:=by omega
  subst this;exact⟨h3,h2⟩
 ·obtain⟨k,ek,h2,h3⟩:=all _ hg;exact⟨by omega,by have:=h3.2.1;omega⟩
theorem Snd.UH{a:Nat}{t:cM}{b:Nb}{m:Mv}(h:xs[a]? =some t)(hb:(vu c.root)[a]? =some b)(hm:m∈b.mv)(gz:m.tg≠[]):
  (∀s,s∈m.tg.map (mX xs)->pj xs s)/\∃d:Nat,DL xs a (m.tg.map (mX xs))=d/\kd xs d=1/\jq xs d a/\Gd xs d (fun k=>∃s,s∈m.tg.map (mX xs)/\(k:Int)∈dX xs dft M s)/\∀s,s∈m.tg.map (mX xs)->∀g,g∈dX xs dft M s->pj xs g:=by
 obtain⟨b',l,pa,dp,e0,rfl,_,_,rB,nE,_⟩:=N.at_ h;have eb:b'=b:=by
  rw[<-K4,bZ,e0]at hb;injection hb
 subst eb;have F:=N.fo;have rq:Nw xs [] m.tg=true:=by
  have:=rB m hm;unfold FW at this;obtain⟨_,this⟩:=dM.1 this;obtain⟨_,this⟩:=dM.1 this;obtain⟨_,this⟩:=dM.1 this;exact sY.1 this
 have hnm:∀s,s∈m.tg->s≠[]:=fun s hs=>by
  unfold zG at nE;by_cases hh:fL b'.k=true
  ·rw[if_pos hh]at nE;simp only[aQ]at nE;have:b'.mv=[]:=nK.1 (aP nE.2.2).2.2.2.1;rw[this]at hm;cases hm
  ·rw[if_neg hh]at nE;simp only[aQ]at nE;have:=dS.1 nE.2.2 m hm;unfold zF at this;simp only[aQ]at this;exact Af (dS.1 this.1.2 s hs)
 have jw:=KZ rq;have Ng:∀s,s∈m.tg->∃(k:Nat) (u:cM),mX xs s=k/\1<=k/\xs[k]? =some u/\gj xs s=k:=fun s hs=>by
  have h1:=jw s hs;rcases mr xs s with⟨e,_⟩ | ⟨k,u,e,hu,_⟩
  ·omega
  ·refine⟨k,u,?_,by omega,hu,e⟩;unfold mX;rw[if_neg (hnm s hs)];exact e
 have hH:∀s,s∈m.tg.map (mX xs)->pj xs s:=fun s hs=>by
  obtain⟨s',AM,rfl⟩:=cJ.1 hs;obtain⟨k,u,e,_,hu,_⟩:=Ng s' AM;rw[e];exact⟨by omega,by have:=eZ hu;omega⟩
 refine⟨hH,?_⟩;obtain⟨d,e,hd,hc,hdk⟩:=Uh F (eZ h) hH (by simpa using gz);have Vl:kd xs d=1:=by
  obtain⟨u,hu⟩:=fO hd;rw[nX hu];rcases hdk with rfl | ⟨hk,_⟩
  ·obtain⟨s,hs,hk⟩:=N.sd.rt;rw[hu,ba]at hs;subst hs;exact hk
  ·rwa[fP hu]at hk
 have hca:jq xs d a:=by
  obtain⟨k,ek,hk⟩:=hc a (.head _);have:k=a:=by omega
  rw[<-this];exact hk
 have nA:∀s,s∈m.tg->∀k:Nat,mX xs s=k->1<=k->Sb xs d k:=fun s hs k ek h1=>by
  have qk:(k:Int)∈m.tg.map (mX xs):=cJ.2 ⟨s,hs,ek⟩;obtain⟨k',ek',hk⟩:=hc k (.tail _ qk);have:k'=k:=by omega
  subst this;have ma:d<=k':=by obtain⟨_,_,h,_⟩:=hk;exact h
  refine⟨?_,F.wF hk,.inr ⟨d,rfl,hk⟩⟩;rcases hdk with rfl | ⟨_,hn⟩
  ·omega
  ·have:d≠k':=fun e=>hn (.tail _ (by rw[e];exact qk));omega
 have R2:∀s,s∈m.tg->∃A:Nat,AI xs s=A/\A<xs.length/\∀g,g∈dX xs dft M (mX xs s)->∃k:Nat,g=k/\SS xs k/\jq xs A k/\Sb xs d k:=fun s hs=>by
  obtain⟨k,u,ek,h1,hu,hf⟩:=Ng s hs;obtain⟨_,_,g3⟩:=N.UG hM El hu;have hsb:=nA s hs k ek h1;unfold AI;rw[hf,fP hu,ek,kQ hu];cases hh:fL u.k with
  | false=>
   refine⟨k,by rw[if_neg (by simp)],eZ hu,fun g hg=>?_⟩;obtain⟨q,eq,h2,⟨_,e⟩ | ⟨h3,_⟩⟩:=g3 g hg
   ·subst e;exact⟨q,eq,h2,F.jW (eZ hu),hsb⟩
   ·rw[hh]at h3;cases h3
  | true=>
   obtain⟨p,s',e1,e2,e3,_⟩:=F.par hu (by omega);refine⟨p,by rw[if_pos rfl];exact e2,eZ e3,fun g hg=>?_⟩;obtain⟨q,eq,h2,⟨h3,_⟩ | ⟨_,h3⟩⟩:=g3 g hg
   ·rw[hh]at h3;cases h3
   ·rw[e2]at h3;have hpq:jq xs p q:=by
     obtain⟨_,_,h4 | ⟨p',ep,h4⟩⟩:=h3
     ·omega
     ·have:p'=p:=by omega
      rw[<-this];exact h4
    refine⟨q,eq,h2,hpq,?_⟩;rcases F.wG hsb hu with e | ⟨p',ep,hp',_⟩
    ·rw[<-e,e2];exact h3
    ·have:p'=p:=by omega
     subst this;exact F.xt hp' h3
 refine⟨d,e,Vl,hca,⟨?_,?_,?_⟩,?_⟩
 ·obtain⟨s,hs⟩:=fA _ gz;obtain⟨k,u,ek,h1,hu,_⟩:=Ng s hs;obtain⟨g1,_,_⟩:=N.UG hM El hu;obtain⟨g,hg⟩:=fA _ g1;rw[<-ek]at hg;obtain⟨A,_,_,hA⟩:=R2 s hs;obtain⟨q,eq,_⟩:=hA g hg;exact⟨q,_,cJ.2 ⟨s,hs,rfl⟩,by rw[<-eq];exact hg⟩
 ·rintro g ⟨_,hs,hg⟩;obtain⟨s,ux,rfl⟩:=cJ.1 hs;obtain⟨A,_,_,hA⟩:=R2 s ux;obtain⟨q,eq,h2,_,h3⟩:=hA g hg;have:q=g:=by omega
  subst this;exact⟨h3,h2⟩
 ·rintro n u k k' g g' hn h1 hk iv ⟨_,hs,hg⟩ ⟨_,AM,xv⟩ hkg aaQ;obtain⟨s,ux,rfl⟩:=cJ.1 hs;obtain⟨s',agq,rfl⟩:=cJ.1 AM;obtain⟨A,eA,hAl,hA⟩:=R2 s ux;obtain⟨A',eA',agr,hA'⟩:=R2 s' agq;obtain⟨q,eq,_,hAq,_⟩:=hA g hg;obtain⟨q',eq',_,ags,_⟩:=hA' g' xv;have:q=g:=by omega
  subst this;have:q'=g':=by omega
  subst this;by_cases hss:s=s'
  ·subst hss;obtain⟨j,v,ej,_,hv,_⟩:=Ng s ux;obtain⟨_,g2,_⟩:=N.UG hM El hv;rw[ej]at hg xv;exact g2 n u k k' q q' hn h1 hk iv hg xv hkg aaQ
  ·have hp:=(GD rq).2;have two:Dz xs (AI xs s') (AI xs s)=true∨Dz xs (AI xs s) (AI xs s')=true:=GC hp ux agq hss;rw[eA,eA']at two;rcases two with h | h
   ·exact(F.Q9 agr hAl h hn h1 iv hk ags hAq aaQ hkg).symm
   ·exact F.Q9 hAl agr h hn h1 hk iv hAq ags hkg aaQ
 ·rintro _ hs g hg;obtain⟨s,ux,rfl⟩:=cJ.1 hs;obtain⟨A,_,_,hA⟩:=R2 s ux;obtain⟨q,eq,_,_,h3⟩:=hA g hg;exact⟨by omega,by have:=h3.2.1;omega⟩
end
theorem B4{p:Int->Bool}{a b:Int}(hn:a≠b)(pa:p a=true)(pb:p b=true):∀{l:List Int},a∈l->b∈l->2<=l.countP p
 | [],h,_=>by cases h
 | x::l,ha,hb=>by
  have one:∀{y:Int},p y=true->y∈l->1<=l.countP p:=fun hy hm=>List.countP_pos_iff.2 ⟨_,hm,hy⟩;rcases aR.1 ha with rfl | R1<;>rcases aR.1 hb with rfl | tB
  ·exact absurd rfl hn
  ·rw[List.countP_cons_of_pos pa];have:=one pb tB;omega
  ·rw[List.countP_cons_of_pos pb];have:=one pa R1;omega
  ·have:=B4 hn pa pb R1 tB;rw[List.countP_cons];omega
section
variable {xs:List cM} (sd:Sd xs) {act:List Int} (A:Lg xs act)
include sd A
theorem wu{x:Int}(h:x∈act):∃n:Nat,x=n/\n<xs.length/\SS xs n:=by
 obtain⟨g1,g2,g3,_,_⟩:=A.at_ x h;obtain⟨t,ht⟩:=fO (xs:=xs) (i:=x.toNat) (by omega);refine⟨x.toNat,by omega,by omega,t,ht,?_⟩;have:kd xs x=t.k:=by rw[show x=(x.toNat:Int) by omega];exact nX ht
 rw[this]at g3;unfold AJ at g3;rw[cp,dW,dW]at g3;exact g3
theorem K7:∀(x k:Nat),(x:Int)∈act->jq xs k x->(k:Int)∈act
 | x,k,hx,hc=>by
  by_cases he:k=x
  ·rw[he];exact hx
  ·have bX:k<x:=by obtain⟨_,_,h,_⟩:=hc;omega
   obtain⟨_,g2,_,g4,_⟩:=A.at_ x hx;obtain⟨t,ht⟩:=fO (sd.fo.wF hc);obtain⟨p,s,e1,e2,e3,_,e5,e6⟩:=sd.fo.par ht (by omega);rcases g4 with g4 | g4
   ·omega
   ·have hp:=g4 t (by rw[aX];exact ht);rw[e2]at hp;obtain⟨u,u1,u2,u3⟩:=hc;have:=e6 k u u1 bX u3;exact K7 p k hp (sd.fo.lN ⟨u,u1,u2,u3⟩ ⟨s,e3,by omega,e5⟩ this)
theorem ad6:Cn xs fun k=>(k:Int)∈act:=fun n t c c' g g' hn h1 hc qg hg xv h h'=>by
 have a1:=K7 sd A g c hg h;have a2:=K7 sd A g' c' xv h';have cov:jq xs n c:=by
  obtain⟨_,_,h3 | ⟨k,e,h3⟩⟩:=sd.fo.kA hc
  ·omega
  ·have:k=n:=by omega
   rw[<-this];exact h3
 have an:=K7 sd A c n a1 cov;have ss:∀{x:Nat},(x:Int)∈act->SS xs x:=fun{x} hx=>by
  obtain⟨m,e,_,hs⟩:=wu sd A hx;have:m=x:=by omega
  rw[<-this];exact hs
 have r1:=(iL sd).2 ⟨hc,ss a1⟩;have r2:=(iL sd).2 ⟨qg,ss a2⟩;refine cq fun gz=>?_;have h2:=B4 (p:=fun r=>decide (r∈act)) (by omega:(c:Int)≠c') (bK a1) (bK a2) r1 r2;have:=(A.at_ n an).on;unfold xN YN at this;rw[aX,nX hn,if_neg (by omega),dW]at this;omega
theorem QD{n:Nat}(h:(n:Int)∈act)(hr:cZ xs n≠[]):∃q:Nat,(q:Int)∈cZ xs n/\(q:Int)∈act:=by
 have:=(A.at_ n h).on;unfold xN YN at this;rw[aX]at this;have hp:=io.2 hr;have h1:0<(cZ xs n).countP fun r=>decide (r∈act):=by
  split at this
  ·rw[dW]at this;omega
  ·rw[dW]at this;omega
 obtain⟨r,SG,SH⟩:=List.countP_pos_iff.1 h1;obtain⟨q,_,rfl,_⟩:=kT.1 SG;exact⟨q,SG,aP SH⟩
theorem K8:∀(f n:Nat),xs.length-n<=f->(n:Int)∈act->∃y:Nat,(y:Int)∈Im xs act/\jq xs n y
 | 0,n,hf,h=>by
  obtain⟨m,e,hm,_⟩:=wu sd A h;omega
 | f+1,n,hf,h=>by
  obtain⟨m,e,hm,hs⟩:=wu sd A h;have:m=n:=by omega
  subst this;by_cases hr:cZ xs m=[]
  ·refine⟨m,?_,sd.fo.jW hm⟩;obtain⟨t,ht,hk⟩:=hs;have h1:t.k=1:=by
    rcases hk with hk | hk
    ·exact hk
    ·exact absurd hr (sd.pr m t ht hk)
   unfold Im;refine vv.2 ⟨m,rfl,hm,?_⟩;unfold lvP;rw[bK h,nX ht,h1,hr];rfl
  ·obtain⟨q,hq,ha⟩:=QD sd A h hr;have hk:=((iL sd).1 hq).1;have hb:=sd.fo.kA hk;obtain⟨y,hy,hc⟩:=K8 f q (by have:=hb.1;omega) ha;refine⟨y,hy,?_⟩;obtain⟨_,_,h3 | ⟨k,e,h3⟩⟩:=sd.fo.Iz hb hc
   ·omega
   ·have:k=m:=by omega
    rw[<-this];exact h3
end
def uk(xs:List cM)(act left:List Int)(M:xo):xo:=fun h=>match(if h<0 then none else xs[h.toNat]?)with
 | some t=>if fL t.k&&decide (t.pa∈act)&&decide (t.pa∈left)then some (if t.k=4 then(Im xs act).filter fun k=>kB xs k t.pa else(eP xs t.pa.toNat xs.length).filter fun k=>decide (k∈act))else M h
 | none=>M h
section
variable {c:Ch} {xs:List cM} {vs:List (aJ)} (N:Snd c xs vs) {M:xo} (hM:tQ xs M) {act left:List Int} (A:Lg xs act)
include N hM A
theorem Snd.Ze:tQ xs (uk xs act left M):=fun n t l ht hh hl=>by
 unfold uk at hl;rw[if_neg (by omega),aX,ht]at hl;dsimp only at hl;by_cases hc:(fL t.k&&decide (t.pa∈act)&&decide (t.pa∈left))=true
 ·rw[if_pos hc,ba]at hl;simp only[aQ,bL]at hc;obtain⟨⟨_,hp⟩,_⟩:=hc;have sd:=N.sd;obtain⟨p,ep,Ng,He⟩:=wu sd A hp;have hkc:Kc xs (p:Int) n:=⟨t,ht,ep⟩
  have hr:cZ xs p≠[]:=by
   obtain⟨u,hu,hk⟩:=He;rcases hk with hk | hk
   ·obtain⟨b,ks,pa,dp,_,rfl,h2,h3,_⟩:=N.at_ hu;dsimp only at hk;unfold xh at h3;rw[if_neg (by unfold fL;rw[hk];decide),if_neg (by omega)]at h3;by_cases nA:0<Hc ks
    ·exact N.Lw h2 nA
    ·rw[if_neg nA]at h3;have h0:=aP (sY.1 (dM.1 h3).2);have:ks=[]:=nK.1 h0;subst this;obtain⟨e1,_,e2 | ⟨k,e,v,v1,v2,v3⟩⟩:=sd.fo.kA hkc
     ·omega
     ·have:k=p:=by omega
      subst this;rw[hu,ba]at v1;subst v1;dsimp only at v3;rw[iO,eV]at v3;omega
   ·exact sd.pr p u hu hk
  have ss:∀{x:Int},x∈act->∃k:Nat,x=k/\SS xs k:=fun hx=>by
   obtain⟨m,e,_,hs⟩:=wu sd A hx;exact⟨m,e,hs⟩
  have sub:∀x,x∈l->x∈act/\∃k:Nat,x=k/\Sb xs t.pa k:=fun x hx=>by
   subst hl;split at hx
   ·obtain⟨h1,h2⟩:=dG.1 hx;obtain⟨k,rfl,hk,G4⟩:=vv.1 h1;unfold lvP at G4;simp only[aQ,bL]at G4;obtain⟨i,j,e1,e2,e3,e4⟩:=nT.1 h2;have:j=k:=by omega
    subst this;exact⟨G4.1.1,j,rfl,by omega,hk,.inr ⟨i,e1,e4⟩⟩
   ·obtain⟨h1,h2⟩:=dG.1 hx;obtain⟨q,u,rfl,_,hu,hup⟩:=pZ.1 h1;refine⟨aP h2,q,rfl,sd.fo.kA ⟨u,hu,?_⟩⟩;rw[hup,ep,aX]
  refine⟨?_,fun g hg=>?_,fun m u a a' g g' h1 h2 h3 h4 hg xv=>ad6 sd A m u a a' g g' h1 h2 h3 h4 (sub _ hg).1 (sub _ xv).1⟩
  ·obtain⟨q,hq,hqa⟩:=QD sd A (by rw[<-ep];exact hp) hr;obtain⟨hqk,hqs⟩:=(iL sd).1 hq;subst hl;split
   ·obtain⟨y,hy,hc⟩:=K8 sd A xs.length q (by omega) hqa;refine j8 (a:=(y:Int)) (dG.2 ⟨hy,nT.2 ?_⟩);obtain⟨h1,h2,h3 | ⟨k,e,h3⟩⟩:=sd.fo.Iz (sd.fo.kA hqk) hc
    ·omega
    ·exact⟨k,y,by omega,rfl,by omega,h3⟩
   ·obtain⟨v,hv,hvp⟩:=hqk;exact j8 (a:=(q:Int)) (dG.2 ⟨pZ.2 ⟨q,v,rfl,eZ hv,hv,by rw[ep,aX];exact hvp⟩,bK hqa⟩)
  ·obtain⟨h1,k,e,h2⟩:=sub g hg;obtain⟨k',e',h3⟩:=ss h1;have:k'=k:=by omega
   subst this;exact⟨k',e,h3,h2⟩
 ·rw[if_neg hc]at hl;exact hM n t l ht hh hl
end
theorem K9{xs:List cM}{a:Nat}{r:Ro}:∀{l:List Mv} {i:Nat},r∈Ik xs a i l->∃j m,m∈l/\r=YI xs a j m
 | [],_,h=>by cases h
 | m::l,i,h=>by
  rw[Ik]at h;rcases aR.1 h with rfl | h
  ·exact⟨i,m,.head _,rfl⟩
  ·obtain⟨j,m',h1,h2⟩:=K9 h;exact⟨j,m',.tail _ h1,h2⟩
mutual
theorem Lb{xs:List cM}{r:Ro}:∀{x:Nd} {a:Nat},r∈Qq xs a x->∃n b j m,(vu x)[n]? =some b/\m∈b.mv/\r=YI xs (a+n) j m
 | .mk b l,a,h=>by
  rw[Qq]at h;rw[vu];rcases ch.1 h with h | h
  ·obtain⟨j,m,h1,h2⟩:=K9 h;exact⟨0,b,j,m,rfl,h1,h2⟩
  ·obtain⟨n,b',j,m,h1,h2,h3⟩:=GF h;exact⟨n+1,b',j,m,by rw[de];exact h1,h2,by rw[h3];congr 1;omega⟩
theorem GF{xs:List cM}{r:Ro}:∀{l:List Nd} {a:Nat},r∈qM xs a l->∃n b j m,(zY l)[n]? =some b/\m∈b.mv/\r=YI xs (a+n) j m
 | [],_,h=>by rw[qM]at h;cases h
 | x::l,a,h=>by
  rw[qM]at h;rw[zY];rcases ch.1 h with h | h
  ·obtain⟨n,b',j,m,h1,h2⟩:=Lb h;exact⟨n,b',j,m,by rw[bJ (aZ.1 h1).1];exact h1,h2⟩
  ·obtain⟨n,b',j,m,h1,h2,h3⟩:=GF h;have:=qN x;exact⟨iO x+n,b',j,m,by rw[cd (by omega),this,dY];exact h1,h2,by rw[h3,eM]⟩
end
theorem YQ{xs:List cM}{x d:Nat}:kB xs x d=true↔d<x/\jq xs d x:=by
 rw[nT];constructor
 ·rintro⟨i,j,e1,e2,h1,h2⟩;have:i=d:=by omega
  have:j=x:=by omega
  subst_vars;exact⟨h1,h2⟩
 ·rintro⟨h1,h2⟩;exact⟨d,x,rfl,rfl,h1,h2⟩
section
variable {c:Ch} {xs:List cM} {vs:List (aJ)} (N:Snd c xs vs) {M:xo} (hM:tQ xs M) {dft:List Int} (El:dft=(vu c.root).map fun b=>mX xs b.dft)
include N hM El
theorem Snd.Ar{r:Ro}(h:r∈Qq xs 0 c.root):(r.tg=[]/\r.dom= -1)∨(r.tg≠[]/\(∀s,s∈r.tg->pj xs s)/\∃a d:Nat,r.src=a/\a<xs.length/\r.dom=d/\kd xs d=1/\jq xs d a/\Gd xs d (fun k=>∃s,s∈r.tg/\(k:Int)∈dX xs dft M s)/\∀s,s∈r.tg->∀g,g∈dX xs dft M s->pj xs g):=by
 obtain⟨n,b,j,m,h1,h2,rfl⟩:=Lb h;rw[bM]at*
 have hn:n<xs.length:=by rw[N.len,<-qN];exact(aZ.1 h1).1
 obtain⟨t,ht⟩:=fO hn;unfold YI;dsimp only;by_cases hm:m.tg=[]
 ·left;rw[hm];exact⟨rfl,rfl⟩
 ·right;obtain⟨g1,d,g2,g3,g4,g5,g6⟩:=N.UH hM El ht h1 h2 hm;exact⟨by simpa using hm,g1,n,d,rfl,hn,g2,g3,g4,g5,g6⟩
end
def nZ(xs:List cM)(ro:List Ro)(act:List Int)(k:Int):List Int:=if k<0 then[]else match ro[k.toNat]? with
 | some r=>if r.dom<0 then[]else act.filter fun x=>kB xs x r.dom
 | none=>[]
def YR(xs:List cM)(ro:List Ro)(act:List Int)(a b:Int):Bool:=(nZ xs ro act b).any fun n=>decide (n∈nZ xs ro act a)
structure ChI (xs:List cM) (ro:List Ro) (act:List Int) (may:List Bool) (st:List Int×List Int):Prop where
 ok:∀k,k∈st.1->∃(n:Nat) (r:Ro),k=n/\ro[n]? =some r/\may[n]? =some true/\r.src∈act
 sub:∀k,k∈st.2->k∈st.1
 ap:st.2.Pairwise fun b a=>YR xs ro act a b=false
 ne:st.1≠[]->st.2≠[]
section
variable {xs:List cM} (sd:Sd xs) {act:List Int} (A:Lg xs act) {ro:List Ro} {may:List Bool}
include sd A
omit sd A in
theorem Ui {x:Int} (h:x∈Im xs act):x∈act:=by
 obtain⟨k,rfl,_,hp⟩:=vv.1 h;unfold lvP at hp;simp only[aQ,bL]at hp;exact hp.1.1
end
theorem QE(xs:List cM)(a b:Int):H7 xs a b=kB xs a b:=by rw[bT,vj,nT]
theorem akx{w:ay}{s:Sl}{l:List Int}{Nk:Nat}{cap:aK}{p:Int->Bool}{F:aL}(hs:aD rInt 1 w F s l)(hl:l.length<=2000000)(hc:ClI w (fun _=>False) Nk cap l p){f:OV}(hf:f.v=.func (.func Nk) #[] cap.toArray):
  aB au 58 #[s.v,f.v] w fun e w'=>e=aq (ao (l.any p))/\aA [] w w':=by
 refine ret (O3 _ _ _ _ ?_);refine(Qy (S:=fun _=>True) hs hl (fun _ _=>trivial) hc hf).mono ?_;rintro _ w1 ⟨⟨i,rfl,hi⟩,hO⟩;refine⟨i,rfl,?_,hO⟩;congr 1;rcases hi with⟨rfl,h⟩ | ⟨n,rfl,h1,h2,h3⟩
 ·rw[bG (by omega)];symm;rw[fh];intro hh;obtain⟨x,hx,hp⟩:=fy.1 hh;rw[h x hx]at hp;cases hp
 ·rw[bK (by omega)];exact(fy.2 ⟨l[n],eJ h1,h3 _ (aV h1)⟩).symm
theorem QF(w:ay)(s si sd sr:Sl):aB au 46 #[aj #[s.v,si.v,sd.v,sr.v],Sl.nil.v] w fun e w'=>(∃(b:Nat) (m0 m1:Option Nat),e=aq (ai (some ⟨b,0,none⟩))/\w.heap.size<=b/\b<w'.heap.size/\aH w' b 131 [s.v,si.v,sd.v,sr.v,.map m0,.map m1])/\aA [] w w':=by
 refine(adA s si sd sr Sl.nil (fun v w'=>(∃(b:Nat) (m0 m1:Option Nat),v=ai (some ⟨b,0,none⟩)/\w.heap.size<=b/\b<w'.heap.size/\aH w' b 131 [s.v,si.v,sd.v,sr.v,.map m0,.map m1])/\aA [] w w') w ?_).mono (by rintro _ w' ⟨v,rfl,⟨b,m0,m1,rfl,h⟩,h'⟩;exact⟨⟨b,m0,m1,rfl,h⟩,h'⟩);intro k0 w0 gU fi cK;obtain⟨a1,_,a3⟩:=MapV.make (P:=au) (mty:=127) (kv:=kS) (g:=gS) w0;have z1:=a3.size;refine⟨_,_,a1,a3.same (by simp;omega),?_⟩;obtain⟨b1,_,b3⟩:=MapV.make (P:=au) (mty:=129) (kv:=kS) (g:=gS) (w0.alloc (.map #[] 0));have z2:=b3.size;refine⟨_,_,b1,b3.same (by simp;omega),fun k1 w3 ke jH dx=>?_⟩;have z3:=dx.size;have z0:=cK.size;refine⟨fun kv i u=>i=0/\u=w3,0,⟨rfl,rfl⟩,?_⟩;rintro kv _ u ⟨rfl,hu⟩;obtain rfl:w3=u:=hu.symm;refine⟨fun hc=>absurd (aP hc) (by show ¬(0:Int)<((0:Nat):Int);omega),fun _ hB _=>⟨⟨k1,_,_,rfl,by omega,jH,hB⟩,((cK.cz a3).cz b3).cz dx⟩⟩
section
variable {w:ay} {F G:aL} {s si sd sr sa:Sl} {p:Pl} {act:List Int} {b:Nat} {ty:TypeId}
theorem QG{ro:List Ro}(h:aD YL 7 w F sr ro){i:Nat}{x:Ro}(hx:ro[i]? =some x):∃ad tg,dL sr (i:Int) 7 ad/\aE w ad [O ae x.src,O ae x.slot,O ae x.k,ah (T x.ev),O ae x.wt,tg.v,O ae x.dom]/\aD rInt 1 w F tg x.tg:=by
 have bX:=(aZ.1 hx).1;have hl:=h.len;obtain⟨ad,y,cs,g1,g2,g3,g4,g5,tg,rfl,g6⟩:=h.get (bE i) (by omega);rw[aX,hx]at g2;injection g2 with g2;subst g2;exact⟨ad,tg,g1,g5,g6⟩
theorem GH{x0 x1 x2 x4 x5:az}{ro:List Ro}(hB:aH w b ty [x0,x1,x2,sr.v,x4,x5])(h:aD YL 7 w F sr ro)(k:Int):aB au 47 #[ai (some ⟨b,0,none⟩),O ae k] w fun e w'=>
  (∃(a1 a2 a3:Int) (ev:aM) (wt:Int) (tg:Sl) (dom:Int) (is:Bool),e=aq (ak #[aj #[O ae a1,O ae a2,O ae a3,ah ev,O ae wt,tg.v,O ae dom],ao is])/\(is=true->∃(n:Nat) (r:Ro),k=n/\ro[n]? =some r/\0<=r.dom/\dom=r.dom/\aD rInt 1 w' F tg r.tg)/\(is=false->∀(n:Nat) (r:Ro),k=n->ro[n]? =some r->r.dom<0))/\aA [] w w':=by
 refine(ajO ⟨b,0,none⟩ k (fun v w'=>(∃(a1 a2 a3:Int) (ev:aM) (wt:Int) (tg:Sl) (dom:Int) (is:Bool),v=ak #[aj #[O ae a1,O ae a2,O ae a3,ah ev,O ae wt,tg.v,O ae dom],ao is]/\(is=true->∃(n:Nat) (r:Ro),k=n/\ro[n]? =some r/\0<=r.dom/\dom=r.dom/\aD rInt 1 w' F tg r.tg)/\(is=false->∀(n:Nat) (r:Ro),k=n->ro[n]? =some r->r.dom<0))/\aA [] w w') w ?_).mono (by rintro _ w' ⟨v,rfl,⟨a1,a2,a3,ev,wt,tg,dom,is,rfl,h⟩,h'⟩;exact⟨⟨a1,a2,a3,ev,wt,tg,dom,is,rfl,h⟩,h'⟩);intro k0 w0 gU fi cK;have z0:=cK.size;have tU:=cK.blk hB (by simp);have h0:aD YL 7 w0 F sr ro:=SliceF.only ik (by decide) h cK (by simp);have hl:=h0.len;have ow:∀{u:ay},aA [k0] w0 u->aA [] w u:=fun hO=>cK.trans hO fun x hx=>.inr (by simp only[aO]at hx;omega);by_cases hin:0<=k/\k<ro.length
 ·obtain⟨n,rfl⟩:∃n:Nat,k=n:=⟨k.toNat,by omega⟩
  obtain⟨r,hr⟩:∃r,ro[n]? =some r:=⟨_,aV (by omega)⟩
  obtain⟨ad,tg,a1,a2,a3⟩:=QG ((SliceF.inHeap ik h (by decide)).keep ik (by decide) fun k _ bX=>cK.block k bX (by simp)) hr;have e1:decide ((n:Int)<0)=false:=bG (by omega);have e2:decide ((n:Int)>=((sr.n:Nat):Int))=false:=bG (by omega);refine⟨sr,fun _=>Blk.dZ tU 3 rfl,sr,fun _=>Blk.dZ tU 3 rfl,ad,fun _=>a1,r.dom,fun _=>a2.dZ 6 _ rfl,fun hc w1 cF=>⟨⟨0,0,0,_,0,Sl.nil,0,false,rfl,fun h=>(by cases h),fun _ m r' hm hr'=>?_⟩,ow cF⟩,fun hc=>⟨sr,Blk.dZ tU 3 rfl,ad,a1,_,_,_,_,_,tg,_,a2,fun w2 dh=>⟨⟨_,_,_,_,_,tg,_,true,rfl,fun _=>⟨n,r,rfl,hr,?_,rfl,?_⟩,fun h=>(by cases h)⟩,ow dh⟩⟩⟩
  ·have:m=n:=by omega
   subst this;rw[hr,ba]at hr';subst hr';rw[e1,e2,mN,mN]at hc;exact aP hc
  ·rw[e1,e2,mN,mN]at hc;have:=aW hc;omega
  ·exact(SliceF.only bN (by decide) a3 dh fun k hk _ hm=>by simp only[aO]at hm;omega).mono bN fun k hk=>hk.1
 ·have NX:((decide (k<0))||(decide (k>=(sr.n:Int))))=true:=by
   rw[cp,cm,cm];omega
  have no:∀{q:Prop},((decide (k<0))||(decide (k>=(sr.n:Int))))=false->q:=fun h=>by rw[NX]at h;cases h
  refine⟨sr,fun _=>Blk.dZ tU 3 rfl,sr,fun h=>no h,⟨0,0,none⟩,fun h=>no h,0,fun h=>no h,fun hc w1 cF=>⟨⟨0,0,0,_,0,Sl.nil,0,false,rfl,fun h=>(by cases h),fun _ m r' hm hr'=>?_⟩,ow cF⟩,fun hc=>?_⟩
  ·have:=(aZ.1 hr').1;omega
  ·rw[NX,Bool.true_or]at hc;cases hc
theorem Uj(hP:PlR w F s si sd sr p)(hFo:Fo p.sp)(ha:aD rInt 1 w G sa act)(hm:act.length<=2000000)(k:Int):aB au 22 #[aj #[s.v,si.v,sd.v,sr.v],sa.v,O ae k] w fun e w'=>(∃t:Sl,e=aq t.v/\dz w.heap.size w' t (nZ p.sp p.ro act k))/\aA [] w w':=by
 refine(ajE s si sd sr sa k (fun v w'=>(∃t:Sl,v=t.v/\dz w.heap.size w' t (nZ p.sp p.ro act k))/\aA [] w w') w ?_).mono (by rintro _ w' ⟨v,rfl,⟨t,rfl,h⟩,h'⟩;exact⟨⟨t,rfl,h⟩,h'⟩);intro k0 w0 gU fi cK;have z0:=cK.size;refine(QF w0 s si sd sr).mono ?_;rintro _ w1 ⟨⟨b,m0,m1,rfl,hb,kc,hB⟩,cF⟩;have z1:=cF.size;have o1:=cK.cz cF;refine⟨_,rfl,cF.same (by simp;omega),(GH hB (SliceF.only ik (by decide) hP.ro o1 (by simp)) k).mono ?_⟩;rintro _ w2 ⟨⟨a1,a2,a3,ev,wt,tg,dom,is,rfl,his,Zo⟩,dh⟩;have z2:=dh.size;have o2:=o1.cz dh;refine⟨a1,a2,a3,ev,wt,tg,dom,is,rfl,dh.same (by simp;omega),fun k1 k2 w3 ke jH tF wM dx=>?_⟩;have z3:=dx.size;have o3:=o2.cz dx;refine(DP (kI ha o3) (by omega)).mono ?_;rintro _ w4 ⟨t,rfl,LQ,dP⟩;have z4:=dP.size;have o4:=o3.cz dP;have mz:∀{q:Nat},t.a=some ⟨q,0,none⟩->w3.heap.size<=q:=fun e=>(LQ.blk e).1;refine⟨t,rfl,dP.same (by simp;omega),fun tU vJ re=>?_⟩;have xz:aD nq 5 w4 (fun k=>F k/\k<w.heap.size) s p.sp:=SliceF.only db (by decide) (SliceF.inHeap db hP.sp (by decide)) o4 (by simp);refine(tf (f:=⟨.func (.func 50) #[] #[ai (some ⟨k2,0,none⟩),ai (some ⟨k0,0,none⟩),ai (some ⟨k1,0,none⟩)],rfl⟩) LQ hm ⟨fF (by kernel_rfl),fun y hy u hO=>?_⟩ (p:=fun y=>!(is&&kB p.sp y dom)) (cap:=[ai (some ⟨k2,0,none⟩),ai (some ⟨k0,0,none⟩),ai (some ⟨k1,0,none⟩)]) rfl).mono ?_
 ·have nk:∀q,q<w3.heap.size->¬(t.a=some ⟨q,0,none⟩):=fun q hq e=>by have:=mz e;omega
  have hu:=xz.keep db (by decide) fun q hq bX=>hO.block q bX (nk q (by omega));have c0:=hO.blk tU (nk k0 (by omega));have c1:=hO.blk vJ (nk k1 (by omega));have c2:=hO.blk re (nk k2 (by omega));refine(ajP y ⟨k2,0,none⟩ ⟨k0,0,none⟩ ⟨k1,0,none⟩ (fun v w'=>v=ao (!(is&&kB p.sp y dom))/\aA [] u w') u ?_).mono (by rintro _ w' ⟨v,rfl,rfl,h⟩;exact⟨rfl,h⟩);refine⟨fun c u'=>c=(!(is&&kB p.sp y dom))/\aA [] u u',?_,is,c2.cells 0 _ (by simp),fun hc=>⟨?_,Only.refl _ _⟩,fun hc=>⟨s,Blk.dZ c0 0 rfl,dom,Blk.dZ c1 6 rfl,(wl hu hFo y dom).mono ?_⟩⟩
  ·rintro c u' ⟨rfl,h⟩;exact⟨rfl,h⟩
  ·have:is=false:=by simpa using hc
   rw[this];rfl
  ·have:is=true:=by simpa using hc
   rintro _ u' ⟨rfl,hu'⟩;obtain rfl:u=u':=hu'.symm;refine⟨_,rfl,?_,Only.refl _ _⟩;rw[QE,this,cY]
 ·rintro _ w5 ⟨s2,rfl,hsa,_,I5,eE⟩;have nk:∀q,q<w3.heap.size->¬(t.a=some ⟨q,0,none⟩):=fun q hq e=>by have:=mz e;omega
  refine⟨s2,rfl,s,si,sd,sr,eE.blk tU (nk k0 (by omega)),_,_,_,_,_,tg,_,eE.blk vJ (nk k1 (by omega)),_,eE.blk re (nk k2 (by omega)),⟨s2,rfl,?_⟩,(o4.pd (eE.mono (G:=fun q=>w.heap.size<=q) fun q _ e=>by have:=mz e;omega)).only fun q hq=>hq⟩;have e:nZ p.sp p.ro act k=act.filter fun x=>!(fun y=>!(is&&kB p.sp y dom)) x:=by
   have e2:(act.filter fun x=>!(fun y=>!(is&&kB p.sp y dom)) x)=act.filter fun x=>is&&kB p.sp x dom:=by
    congr 1;funext x;show(!!_)=_;rw[j7]
   rw[e2];cases is with
   | true=>
    obtain⟨n,r,hn,hr,h0,hd,_⟩:=his rfl;unfold nZ;rw[hn,if_neg (by omega),aX,hr];dsimp only;rw[if_neg (by omega),hd];rfl
   | false=>
    have hz:(act.filter fun x=>false&&kB p.sp x dom)=[]:=by
     rw[List.filter_eq_nil_iff];intro x _ h;cases h
    rw[hz];unfold nZ;split
    ·rfl
    ·rename_i h;split
     ·rename_i r hr;rw[if_pos];exact Zo rfl k.toNat r (by omega) hr
     ·rfl
  rw[e];exact Own.low I5 (by omega)
end
end Go.Proofs.YtbkjcdocjfknfaaGreatDoor.Con
namespace Go.Kt
open Go renaming World->ay,Value->az
open Go Go.RowKit Go.MapKept
set_option linter.unusedSimpArgs false
set_option linter.unusedVariables false
theorem wv{α:Type}[DecidableEq α]:∀{V L:List α},V.Nodup->(∀x,x∈V->x∈L)->V.length<=L.length
 | [],_,_,_=>bA _
 | x::V,L,h,hs=>by
  obtain⟨h1,h2⟩:=kw.1 h;have hx:=hs x (.head _);have:=wv (L:=L.erase x) h2 fun y hy=>(List.mem_erase_of_ne fun e=>h1 (by rw[<-e];exact hy)).2 (hs y (.tail _ hy));rw[List.length_erase_of_mem hx]at this;have:=io.2 (j8 hx);rw[bp];omega
theorem MT{w w1:ay}{b:Nat}{o:Obj}(h:w1=w∨w1=w.drew):Only [b] w (Go.ChangeMaps.setBlock w1 b o):=by
 rcases h with rfl | rfl
 ·exact⟨rfl,rfl,rfl,by simp[Go.ChangeMaps.setBlock],fun k hk hn=>by
   show(w1.heap.setIfInBounds b o)[k]? =_;rw[gu (by simpa using fun e=>hn (by simp[e]))]⟩
 ·exact⟨rfl,rfl,rfl,by show w.heap.size<=(w.heap.setIfInBounds b o).size;simp,fun k hk hn=>by
   show(w.heap.setIfInBounds b o)[k]? =_;rw[gu (by simpa using fun e=>hn (by simp[e]))]⟩
section
variable {κ:Type} {d:TypeDesc} {kv:κ->az} {g:κ->Prop} {P:Program} {w w':ay} {b r n:Nat} {m:κ->Option az} {V:List κ} {mty kt et:TypeId}
structure ItV (kv:κ->az) (g:κ->Prop) (w:ay) (b r:Nat) (m:κ->Option az) (n:Nat) (V:List κ):Prop where
 mem:∃es clock seen c0,w.heap[b]? =some (.mapIter (some r) clock seen c0)/\w.heap[r]? =some (.map es clock)/\Stamped es clock/\clock<=c0/\es.size<=n/\(∀x,x∈es.toList->∃k,x.key=kv k/\g k)/\
  (∀k v,m k=some v↔∃x,x∈es.toList/\x.key=kv k/\x.val=v)/\V.Nodup/\∀k,k∈V↔∃x,x∈es.toList/\x.key=kv k/\seen.contains x.born=true
theorem ItV.keep(h:ItV kv g w b r m n V)(hb:w'.heap[b]? =w.heap[b]?)(hr:w'.heap[r]? =w.heap[r]?):ItV kv g w' b r m n V:=by
 obtain⟨es,c,s,c0,h1,h2,h3⟩:=h.mem;exact⟨es,c,s,c0,hb.trans h1,hr.trans h2,h3⟩
theorem ItV.lt(h:ItV kv g w b r m n V):b<w.heap.size/\r<w.heap.size:=by
 obtain⟨es,c,s,c0,h1,h2,h3⟩:=h.mem;exact⟨(fX.1 h1).1,(fX.1 h2).1⟩
theorem ItV.only(h:ItV kv g w b r m n V){bs}(hO:Only bs w w')(hb:b∉bs)(hr:r∉bs):ItV kv g w' b r m n V:=h.keep (hO.block b h.lt.1 hb) (hO.block r h.lt.2 hr)
theorem ItV.len(K:A9 d kv g)(h:ItV kv g w b r m n V):V.length<=n:=by
 obtain⟨es,c,s,c0,h1,h2,h3,h4,h5,h6,h7,h8,h9⟩:=h.mem;have hn:(V.map kv).Nodup:=(oE.2 (h8.imp fun gz e=>gz (K.inj e)))
 have:=@wv az (Classical.typeDecidableEq _) (V.map kv) (es.toList.map (·.key)) hn fun x hx=>by
  obtain⟨k,hk,rfl⟩:=cJ.1 hx;obtain⟨e,he,e1,_⟩:=(h9 k).1 hk;exact cJ.2 ⟨e,he,e1⟩
 have e:=fe (xs:=es);simp only[bq]at this;omega
theorem MapV.range(hm:P.underlying mty=some (.map kt et))(h:MapV kv g w r m n):
  ∃w',(Instr.range mty (.map (some r))).run P w=.ok (.pointer (some ⟨w.heap.size,0,none⟩)) w'/\ItV kv g w' w.heap.size r m n []/\Only [] w w'/\w'.heap.size=w.heap.size+1:=by
 obtain⟨es,c,h1,h0,hn,h2,h4⟩:=h.mem;refine⟨_,run_range_map w mty kt et r es c hm h1,⟨es,c,#[],c,(MapKept.heap_alloc w _).1,((MapKept.heap_alloc w _).2 r h.lt).trans h1,h0,aY _,hn,h2,h4,List.nodup_nil,fun k=>?_⟩,Only.alloc _ _,by simp⟩;constructor
 ·intro h;cases h
 ·rintro⟨x,_,_,h⟩;simp at h
theorem ItV.next(K:A9 d kv g)(h:ItV kv g w b r m n V)(ty:TypeId):
  ((∀k,(m k).isSome=true->k∈V)/\(Instr.next (.pointer (some ⟨b,0,none⟩)) false ty).run P w=.ok (.tuple #[.bool false]) w)∨
  ∃k v w1,m k=some v/\g k/\k∉V/\(Instr.next (.pointer (some ⟨b,0,none⟩)) false ty).run P w=.ok (.tuple #[.bool true,kv k,v]) w1/\(Instr.entry (.pointer (some ⟨b,0,none⟩))).run P w1=.ok (.tuple #[kv k,v]) w1/\ItV kv g w1 b r m n (k::V)/\Only [b] w w1:=by
 obtain⟨es,c,s,c0,h1,h2,h3,h4,h5,h6,h7,h8,h9⟩:=h.mem;obtain⟨Ey,ul,QV⟩:=h3;have hbr:b≠r:=fun e=>by rw[e,h2]at h1;cases h1
 rcases run_next_at (P:=P) w ty b r c c0 s es c h1 h2 (fun x hx=>Ey x hx) h4 with⟨hz,hn⟩ | ⟨e,he,w2,hw2,hn⟩
 ·refine .inl ⟨fun k hk=>?_,hn⟩;obtain⟨v,hv⟩:=dQ.1 hk;obtain⟨x,hx,e1,_⟩:=(h7 k v).1 hv;refine(h9 k).2 ⟨x,hx,e1,?_⟩;cases hs:s.contains x.born with
  | true=>rfl
  | false=>
   have:x∈(leftOf es s).toList:=by
    unfold leftOf;rw[Array.toList_filter];exact dG.2 ⟨hx,by rw[hs];rfl⟩
   have UQ:(leftOf es s).toList=[]:=bO (by rw[fe];exact hz);rw[UQ]at this;cases this
 ·have he':=he;unfold leftOf at he';rw[Array.toList_filter]at he';obtain⟨he1,he2⟩:=dG.1 he';have he2:s.contains e.born=false:=by simpa using he2
  obtain⟨k,e1,hg⟩:=h6 e he1;have hO:=MT (b:=b) (o:=.mapIter (some r) c (s.push e.born) c) hw2;have xx:(Go.ChangeMaps.setBlock w2 b (.mapIter (some r) c (s.push e.born) c)).heap[b]? =some (.mapIter (some r) c (s.push e.born) c):=by
   have bX:b<w2.heap.size:=by
    rcases hw2 with rfl | rfl<;>exact h.lt.1
   show(w2.heap.setIfInBounds b _)[b]? =_;rw[Array.getElem?_setIfInBounds_self_of_lt bX]
  have SH:=(hO.block r h.lt.2 (by simpa using fun e=>hbr e.symm)).trans h2;have R3:∀x,x∈es.toList->x.key=kv k->x=e:=fun x hx hk=>by
   have hp:=oE.1 QV;by_cases M7:x=e
   ·exact M7
   ·exfalso;have two:∀{l:List MapEntry} {a b:MapEntry},l.Pairwise (fun x y=>x.key≠y.key)->a∈l->b∈l->a≠b->a.key≠b.key:=fun{l}=>by
     induction l with
     | nil=>exact fun _ h=>by cases h
     | cons y l ih=>
      intro a b hp ha hb hn;obtain⟨p1,p2⟩:=fp.1 hp;rcases aR.1 ha with rfl | R1<;>rcases aR.1 hb with rfl | tB
      ·exact absurd rfl hn
      ·exact p1 b tB
      ·exact fun e=>p1 a R1 e.symm
      ·exact ih p2 R1 tB hn
    exact two hp hx he1 M7 (by rw[hk,e1])
  have hkV:k∉V:=fun hk=>by
   obtain⟨x,hx,e2,e3⟩:=(h9 k).1 hk;rw[R3 x hx e2,he2]at e3;cases e3
  refine .inr ⟨k,e.val,_,(h7 k e.val).2 ⟨e,he1,e1,rfl⟩,hg,hkV,by rw[hn,e1],?_,⟨es,c,s.push e.born,c,xx,SH,⟨Ey,ul,QV⟩,aY _,h5,h6,h7,kw.2 ⟨hkV,h8⟩,fun l=>?_⟩,hO⟩
  ·rw[<-e1];exact run_entry_at (P:=P) _ b r c s es c e xx SH he1 ul
  ·have hp:∀y:MapEntry,(s.push e.born).contains y.born=(s.contains y.born||y.born==e.born):=fun y=>contains_push s e.born y.born;constructor
   ·intro hl;rcases aR.1 hl with rfl | hl
    ·exact⟨e,he1,e1,by rw[hp];simp⟩
    ·obtain⟨x,hx,e2,e3⟩:=(h9 l).1 hl;exact⟨x,hx,e2,by rw[hp,e3];rfl⟩
   ·rintro⟨x,hx,e2,e3⟩;rw[hp,cp]at e3;rcases e3 with e3 | e3
    ·exact .tail _ ((h9 l).2 ⟨x,hx,e2,e3⟩)
    ·have hb:x.born=e.born:=by simpa using e3
     have:x=e:=by
      have two:∀{l:List MapEntry} {a b:MapEntry},(l.map (·.born)).Nodup->a∈l->b∈l->a.born=b.born->a=b:=fun{l}=>by
       induction l with
       | nil=>exact fun _ h=>by cases h
       | cons y l ih=>
        intro a b hp ha hb he;obtain⟨p1,p2⟩:=kw.1 hp;rcases aR.1 ha with rfl | R1<;>rcases aR.1 hb with rfl | tB
        ·rfl
        ·exact absurd (cJ.2 ⟨b,tB,he.symm⟩) p1
        ·exact absurd (cJ.2 ⟨a,R1,he⟩) p1
        ·exact ih p2 R1 tB he
      exact two ul hx he1 hb
     subst this;have:l=k:=K.inj (e2.symm.trans e1);subst this;exact .head _
end
abbrev gI(k:Int):Prop:=0<=k/\k<64
theorem ww:A9 (.int .i64) kN gI:=⟨fun _=>rfl,fun h=>by simpa using h⟩
theorem MapV.M1{w:ay}{r n:Nat}{m:Int->Option az}(h:MapV kN gI w r m n):MapV kN gI w r m 64:=by
 obtain⟨es,c,h1,h0,hn,h2,h4⟩:=h.mem;refine⟨es,c,h1,h0,?_,h2,h4⟩;have:=@wv az (Classical.typeDecidableEq _) (es.toList.map (·.key)) ((List.range 64).map fun i:Nat=>kN (i:Int)) h0.2.2 fun x hx=>by
  obtain⟨e,he,rfl⟩:=cJ.1 hx;obtain⟨k,e1,e2,e3⟩:=h2 e he;refine cJ.2 ⟨k.toNat,kX.2 (by omega),?_⟩;show kN ((k.toNat:Nat):Int)=e.key;rw[e1,iq e2]
 simpa using this
section
variable {P:Program} {w:ay} {r n:Nat} {m:Int->Option az} {kt:TypeId}
theorem MapV.aeo(hk:P.underlying kt=some (.int .i64))(h:MapV kN gI w r m n)(hn:n<=maxLen):∃D:DataW Nat,World.ownsMap w P kt (fun _=>some (.nil,[])) r n D/\Go.Maps.size D<=n/\(Go.intKeys D).Nodup/\∀k,k∈Go.intKeys D↔(m k).isSome=true:=by
 obtain⟨es,c,h1,h0,hs,h2,h4⟩:=h.mem;have hwf:∀{k:Int},gI k->(Lit.int .i64 k).wf=true:=fun{k} hg=>by
  have h1:=hg.1;have h2:=hg.2;simp[Lit.wf,IntKind.min,IntKind.max,IntKind.signed,IntKind.bits];omega
 have anx:∀x,x∈es.toList->∃k,x.key=kN k/\keyOf P kt x.key=some (.int .i64 k):=fun x hx=>by
  obtain⟨k,e,hg⟩:=h2 x hx;rw[e];exact⟨k,rfl,by simp[keyOf,hk,mapKey,kN,hwf hg]⟩
 have Zs:∀x,x∈es.toList->∃k,x.key=kN k/\Go.WideElems.rd P kt (H:=Nat) (fun _=>some (.nil,[])) x=some (.int .i64 k,.nil):=fun x hx=>by
  obtain⟨k,e,h⟩:=anx x hx;exact⟨k,e,by simp[Go.WideElems.rd,h]⟩
 have hp:(Go.intKeys (.map ((es.toList.map (Go.WideElems.rg P kt (H:=Nat) fun _=>some (.nil,[]))).foldr DataW.insert []))).Perm (es.toList.map fun x=>Go.intOf (Go.WideElems.rg P kt (H:=Nat) (fun _=>some (.nil,[])) x).1):=by
  have:=(Go.WideShapes.sorted_perm (es.toList.map (Go.WideElems.rg P kt (H:=Nat) fun _=>some (.nil,[])))).map fun p=>Go.intOf p.1;rw[iw]at this;exact this
 refine⟨_,⟨es,c,h1,⟨bh hs hn,h0,fun x hx=>?_⟩,hs,rfl⟩,?_,?_,?_⟩
 ·obtain⟨k,_,e⟩:=Zs x hx;exact⟨_,e⟩
 ·rw[Go.Maps.size_eq,(Go.WideShapes.sorted_perm _).length_eq];simpa using hs
 ·rw[hp.nodup_iff];refine oE.2 (((stamped_iff _ _).1 h0).2.2.imp_of_mem ?_);intro x y hx hy hxy he;obtain⟨k,e1,e2⟩:=Zs x hx;obtain⟨l,e3,e4⟩:=Zs y hy;rw[Go.WideElems.rg_of e2,Go.WideElems.rg_of e4]at he;simp[Go.intOf]at he;exact hxy (by rw[e1,e3,he])
 ·intro k;rw[hp.mem_iff,cJ];constructor
  ·rintro⟨x,hx,e⟩;obtain⟨l,e1,e2⟩:=Zs x hx;rw[Go.WideElems.rg_of e2]at e;simp[Go.intOf]at e;subst e;rw[(h4 l x.val).2 ⟨x,hx,e1,rfl⟩];rfl
  ·intro hs;obtain⟨v,hv⟩:=dQ.1 hs;obtain⟨x,hx,e1,_⟩:=(h4 k v).1 hv;obtain⟨l,e2,e3⟩:=Zs x hx;refine⟨x,hx,?_⟩;rw[Go.WideElems.rg_of e3];exact ww.inj (e2.symm.trans e1)
theorem Io{L ss:List Int}(hL:L.Pairwise (· <·))(hs:ss.Nodup)(he:∀k,k∈ss↔k∈L):ss.mergeSort (fun x y=>decide (x<=y))=L:=by
 rw[Go.mergeSort_of_perm_i ((List.perm_ext_iff_of_nodup hs (hL.imp fun h e=>by subst e;exact absurd h (by omega))).2 he)];refine List.mergeSort_of_pairwise (hL.imp fun h=>?_);simp;omega
end
end Go.Kt
namespace Go.Proofs.YtbkjcdocjfknfaaGreatDoor.Con
open Go.Value renaming int->O,string->ah,pointer->ai,agg->aj,tuple->ak,bool->ao
open Go.IntKind renaming i64->ae,wrap->av
open Go.Ending renaming returned->aq
open _root_.ByteArray renaming mk->ar
open _root_.Go.Proofs.Tryz renaming prog->au
open Go.Instr renaming buildSlice->aw
open Go renaming World->ay,Value->az,Calls->aB
open Go.Kt renaming Only->aA,SliceF->aD,Cells->aE,OnlyP->aF,Blk->aH
open Go Go.RowKit Go.Kt Go.Kt.V Go.Proofs.YtbkjcdocjfknfaaGreatDoor.Vc
set_option linter.unusedSimpArgs false
set_option linter.unusedVariables false
set_option linter.unusedSectionVars false
set_option maxHeartbeats 800000
set_option maxRecDepth 100000
abbrev mB(p:Int->Bool):Int->Option az:=fun k=>if p k=true then some (ao true)else none
abbrev iR(w:ay)(r:Nat)(p:Int->Bool):Prop:=MapV kN gI w r (mB p) 64
theorem iR.at{w:ay}{r:Nat}{p:Int->Bool}(h:iR w r p)(k:Int):(Instr.lookup 129 (.map (some r)) (O ae k) false).run au w=.ok (ao (p k)) w:=by
 have:=h.lookup (P:=au) (mty:=129) (kt:=3) (et:=4) (z:=ao false) ww (by kernel_rfl) (by kernel_rfl) (fun w=>Tryz.zeroValue4 w) k;refine Eq.trans this ?_;dsimp only[mB];cases p k<;>rfl
theorem iR.of{w:ay}{r:Nat}{p q:Int->Bool}(h:iR w r p)(he:∀k,p k=q k):iR w r q:=h.ext fun k=>by
 dsimp only[mB];rw[he]
theorem iR.ok{w:ay}{r:Nat}{p:Int->Bool}(h:iR w r p){k:Int}(hk:p k=true):gI k:=MapV.ok h ww (k:=k) (by dsimp only[mB];rw[if_pos hk];simp)
theorem wx{w:ay}{r:Nat}{p:Int->Bool}{s:Sl}{l:List Int}{F:aL}(h:iR w r p)(hs:aD rInt 1 w F s l)(hr:¬F r)(hg:∀x,x∈l->gI x):aB au 74 #[.map (some r),s.v] w fun e w'=>e=aq (ak #[])/\iR w' r (fun k=>p k||decide (k∈l))/\aA [r] w w':=by
 refine(aj0 (some r) s (fun v w'=>v=ak #[]/\iR w' r (fun k=>p k||decide (k∈l))/\aA [r] w w') w ?_).mono (by rintro _ w' ⟨v,rfl,rfl,h⟩;exact⟨rfl,h⟩);have hn:=hs.len;have hc:=hs.cap;have hb:=hs.big;refine⟨fun kv i u=>∃j:Nat,i=(j:Int)/\kv+j=l.length/\j<=l.length/\iR u r (fun k=>p k||decide (k∈l.take j))/\aA [r] w u,l.length,⟨0,rfl,by omega,bA _,h.of fun k=>by simp,Only.refl _ _⟩,?_⟩;rintro kv _ w1 ⟨j,rfl,tX,hj,hS,hO⟩;refine⟨fun hc=>?_,fun hc=>?_⟩
 ·have hc:=aP hc;have ja:j<l.length:=by omega
  have ux:aD rInt 1 w1 F s l:=SliceF.only bN (by decide) hs hO fun k hk _ hm=>by
   simp only[aO]at hm;exact hr (by rw[<-hm];exact hk)
  obtain⟨ad,a1,a2⟩:=iQ ux (aV ja);obtain⟨w2,b1,b2,b3⟩:=MapV.update (P:=au) (mty:=129) (kt:=3) (et:=4) ww (by kernel_rfl) (by kernel_rfl) hS (hg _ (eJ ja)) (ao true);refine⟨ad,a1,_,a2,w2,b1,kv-1,by omega,j+1,by rw[gD (by omega) (by omega)];rfl,by omega,by omega,(MapV.M1 b2).ext fun k=>?_,hO.trans b3 fun x hx=>.inl hx⟩;dsimp only[mB];have nt:l.take (j+1)=l.take j++[l[j]]:=by rw[bI,aV ja];rfl
  by_cases hk:k=l[j]
  ·rw[if_pos hk,if_pos];rw[cp,cm];exact .inr (by rw[nt,hk];exact List.mem_append_right _ (aO.2 rfl))
  ·rw[if_neg hk];congr 2;rw[nt];congr 1;rw[fS,ch,aO];exact⟨fun h=>h.resolve_right hk,.inl⟩
 ·have hc:=aW hc;have ja:j=l.length:=by omega
  subst ja;rw[wR]at hS;exact⟨rfl,hS,hO⟩
def B5:Rp (Int×List Int):=fun w F x cs=>∃t:Sl,cs=[O ae x.1,t.v]/\aD rInt 1 w F t x.2
theorem lM:B5.Ok where
 keep:=by
  rintro w w' F x cs ⟨d,h1,h2⟩ hk;exact⟨d,h1,h2.keep bN (by decide) hk⟩
 inHeap:=by
  rintro w F x cs ⟨d,h1,h2⟩;exact⟨d,h1,h2.inHeap bN (by decide)⟩
 mono:=by
  rintro w F G x cs ⟨d,h1,h2⟩ hk;exact⟨d,h1,h2.mono bN hk⟩
 one:=by
  rintro w F x cs ⟨d,rfl,_⟩ v hv;simp only[aR,bf,bU]at hv;rcases hv with rfl | rfl<;>rfl
theorem ad7{w:ay}{F:aL}{sp:Sl}{L:List (Int×List Int)}(h:aD B5 2 w F sp L){i:Nat}{x:Int×List Int}(hx:L[i]? =some x):∃ad,∃t:Sl,dL sp (i:Int) 2 ad/\aE w ad [O ae x.1,t.v]/\aD rInt 1 w F t x.2:=by
 have bX:=(aZ.1 hx).1;have hl:=h.len;obtain⟨ad,y,cs,g1,g2,g3,g4,g5,tg,rfl,g6⟩:=h.get (bE i) (by omega);rw[aX,hx]at g2;injection g2 with g2;subst g2;exact⟨ad,tg,g1,g5,g6⟩
def fQ(l:List (Int×List Int)):xo:=l.foldl (fun M x=>fun k=>if k=x.1 then some x.2 else M k) fun _=>none
structure PastV (w:ay) (F:aL) (r:Nat) (M:xo):Prop where
 ex:∃m,MapV kN gI w r m 64/\(∀k,M k=none->m k=none)/\∀k l,M k=some l->∃s:Sl,m k=some s.v/\aD rInt 1 w F s l
section
variable {w w':ay} {F:aL} {r:Nat} {M:xo}
theorem PastV.only(h:PastV w F r M){bs}(hO:aA bs w w')(hr:r∉bs)(hb:∀k,F k->k<w.heap.size->k∉bs):PastV w' F r M:=by
 obtain⟨m,h1,h2,h3⟩:=h.ex;refine⟨m,MapV.only h1 hO hr,h2,fun k l hl=>?_⟩;obtain⟨s,e,hs⟩:=h3 k l hl;exact⟨s,e,SliceF.only bN (by decide) hs hO hb⟩
theorem PastV.o0(h:PastV w F r M)(hO:aA [] w w'):PastV w' F r M:=h.only hO (by simp) (by simp)
theorem PastV.mono{G:aL}(h:PastV w F r M)(hk:∀k,F k->G k):PastV w G r M:=by
 obtain⟨m,h1,h2,h3⟩:=h.ex;refine⟨m,h1,h2,fun k l hl=>?_⟩;obtain⟨s,e,hs⟩:=h3 k l hl;exact⟨s,e,hs.mono bN hk⟩
theorem PastV.at(h:PastV w F r M)(k:Int):∃s:Sl,(Instr.lookup 127 (.map (some r)) (O ae k) true).run au w=.ok (ak #[s.v,ao (M k).isSome]) w/\∀l,M k=some l->aD rInt 1 w F s l:=by
 obtain⟨m,h1,h2,h3⟩:=h.ex;have:=h1.Lv (P:=au) (mty:=127) (kt:=3) (et:=32) (z:=Sl.nil.v) ww (by kernel_rfl) (by kernel_rfl) (fun w=>Tryz.zeroValue32 w) k;cases hm:M k with
 | none=>
  rw[h2 k hm]at this;exact⟨Sl.nil,this,fun l h=>by cases h⟩
 | some l=>
  obtain⟨s,e,hs⟩:=h3 k l hm;rw[e]at this;refine⟨s,this,fun l' h=>?_⟩;injection h with h;subst h;exact hs
theorem PastV.set(h:PastV w F r M){k:Int}(hg:gI k){s:Sl}{l:List Int}(hs:aD rInt 1 w F s l)(hr:¬F r):∃w',(Instr.mapUpdate 127 (.map (some r)) (O ae k) s.v).run au w=.ok () w'/\PastV w' F r (fun x=>if x=k then some l else M x)/\aA [r] w w':=by
 obtain⟨m,h1,h2,h3⟩:=h.ex;obtain⟨w2,b1,b2,b3⟩:=MapV.update (P:=au) (mty:=127) (kt:=3) (et:=32) ww (by kernel_rfl) (by kernel_rfl) h1 hg s.v;have kp:∀{t:Sl} {q:List Int},aD rInt 1 w F t q->aD rInt 1 w2 F t q:=fun ht=>SliceF.only bN (by decide) ht b3 fun k hk _ hm=>by
  simp only[aO]at hm;exact hr (by rw[<-hm];exact hk)
 refine⟨w2,b1,⟨_,MapV.M1 b2,fun x hx=>?_,fun x q hx=>?_⟩,b3⟩
 ·by_cases e:x=k
  ·rw[if_pos e]at hx;cases hx
  ·rw[if_neg e]at hx⊢;exact h2 x hx
 ·by_cases e:x=k
  ·rw[if_pos e]at hx⊢;injection hx with hx;subst hx;exact⟨s,rfl,kp hs⟩
  ·rw[if_neg e]at hx⊢;obtain⟨t,e1,ht⟩:=h3 x q hx;exact⟨t,e1,kp ht⟩
theorem PastV.drop(h:PastV w F r M)(k:Int)(hr:¬F r):∃w',(Builtin.delete_ #[127,3] 0 #[.map (some r),O ae k]).run au w=.ok (ak #[]) w'/\PastV w' F r (fun x=>if x=k then none else M x)/\aA [r] w w':=by
 obtain⟨m,h1,h2,h3⟩:=h.ex;obtain⟨w2,b1,b2,b3⟩:=MapV.delete (P:=au) (mty:=127) (kt:=3) (et:=32) ww (by kernel_rfl) (by kernel_rfl) h1 k 0;refine⟨w2,b1,⟨_,MapV.M1 b2,fun x hx=>?_,fun x q hx=>?_⟩,b3⟩
 ·by_cases e:x=k
  ·rw[if_pos e]
  ·rw[if_neg e]at hx⊢;exact h2 x hx
 ·by_cases e:x=k
  ·rw[if_pos e]at hx;cases hx
  ·rw[if_neg e]at hx⊢;obtain⟨t,e1,ht⟩:=h3 x q hx;exact⟨t,e1,SliceF.only bN (by decide) ht b3 fun k hk _ hm=>by
    simp only[aO]at hm;exact hr (by rw[<-hm];exact hk)⟩
end
abbrev Wk(w:ay)(b:Nat)(s si sd sr:Sl)(r0 r1:Nat):Prop:=aH w b 131 [s.v,si.v,sd.v,sr.v,.map (some r0),.map (some r1)]
theorem yu(w:ay)(s si sd sr:Sl){sp:Sl}{F:aL}{L:List (Int×List Int)}(hL:aD B5 2 w F sp L)(hg:∀x,x∈L->gI x.1):aB au 46 #[aj #[s.v,si.v,sd.v,sr.v],sp.v] w fun e w'=>(∃b r0 r1:Nat,e=aq (ai (some ⟨b,0,none⟩))/\w.heap.size<=b/\b<w'.heap.size/\w.heap.size<=r0/\r0<r1/\r1<b/\Wk w' b s si sd sr r0 r1/\PastV w' (fun k=>F k/\k<w.heap.size) r0 (fQ L)/\iR w' r1 fun _=>false)/\aA [] w w':=by
 refine(adA s si sd sr sp (fun v w'=>(∃b r0 r1:Nat,v=ai (some ⟨b,0,none⟩)/\w.heap.size<=b/\b<w'.heap.size/\w.heap.size<=r0/\r0<r1/\r1<b/\Wk w' b s si sd sr r0 r1/\PastV w' (fun k=>F k/\k<w.heap.size) r0 (fQ L)/\iR w' r1 fun _=>false)/\aA [] w w') w ?_).mono (by rintro _ w' ⟨v,rfl,⟨b,r0,r1,rfl,h⟩,h'⟩;exact⟨⟨b,r0,r1,rfl,h⟩,h'⟩);intro k0 w0 gU fi cK;have z0:=cK.size;obtain⟨a1,a2,a3⟩:=MapV.make (P:=au) (mty:=127) (kv:=kN) (g:=gI) w0;have z1:=a3.size;have z1':(w0.alloc (.map #[] 0)).heap.size=w0.heap.size+1:=by show(w0.heap.push _).size=_;simp
 refine⟨_,_,a1,a3.same (by simp;omega),?_⟩;obtain⟨b1,b2,b3⟩:=MapV.make (P:=au) (mty:=129) (kv:=kN) (g:=gI) (w0.alloc (.map #[] 0));have z2:=b3.size;have z2':((w0.alloc (.map #[] 0)).alloc (.map #[] 0)).heap.size=w0.heap.size+2:=by show((w0.alloc _).heap.push _).size=_;rw[Array.size_push,z1']
 generalize hw1:w0.alloc (.map #[] 0)=w1 at*
 generalize hw2:w1.alloc (.map #[] 0)=w2 at*
 refine⟨_,_,b1,b3.same (by simp;omega),fun k1 w3 ke jH dx=>?_⟩;have z3:=dx.size;have o3:aA [] w w3:=((cK.cz a3).cz b3).cz dx;have hn:=hL.len;have hc:=hL.cap;have hb:=hL.big;have hL3:aD B5 2 w3 (fun k=>F k/\k<w.heap.size) sp L:=SliceF.only lM (by decide) (SliceF.inHeap lM hL (by decide)) o3 (by simp);have P3:PastV w3 (fun k=>F k/\k<w.heap.size) w0.heap.size fun _=>none:=⟨_,(MapV.only (MapV.only a2 b3 (by simp)) dx (by simp)).M1,fun _ _=>rfl,fun k l h=>by cases h⟩
 have S3:iR w3 w1.heap.size fun _=>false:=((MapV.only b2 dx (by simp)).M1).ext fun k=>by dsimp only[mB];rw[if_neg (by simp)]
 refine⟨fun kv i u=>∃j:Nat,i=(j:Int)/\kv+j=L.length/\j<=L.length/\PastV u (fun k=>F k/\k<w.heap.size) w0.heap.size (fQ (L.take j))/\aA [w0.heap.size] w3 u,L.length,⟨0,rfl,by omega,bA _,P3,Only.refl _ _⟩,?_⟩;rintro kv _ w4 ⟨j,rfl,tX,hj,hP,dP⟩;have z4:=dP.size;refine⟨fun hc=>?_,fun hc hB gz=>?_⟩
 ·have hc:=aP hc;have ja:j<L.length:=by omega
  have hL4:aD B5 2 w4 (fun k=>F k/\k<w.heap.size) sp L:=SliceF.only lM (by decide) hL3 dP fun k hk _ hm=>by
   simp only[aO]at hm;omega
  obtain⟨ad,t,c1,c2,c3⟩:=ad7 hL4 (aV ja);refine⟨ad,c1,_,t,c2,fun k4 w5 yy A7 eE=>?_⟩;obtain⟨w6,d1,d2,d3⟩:=(hP.o0 eE).set (hg _ (eJ ja)) (kI c3 eE) (by omega);refine⟨w6,d1,d3.same (by simp;omega),kv-1,by omega,j+1,by rw[gD (by omega) (by omega)];rfl,by omega,by omega,?_,(dP.cz eE).trans d3 fun x hx=>.inl hx⟩;have nt:L.take (j+1)=L.take j++[L[j]]:=by rw[bI,aV ja];rfl
  rw[nt];unfold fQ;rw[oB];exact d2
 ·have hc:=aW hc;have ja:j=L.length:=by omega
  subst ja;rw[wR]at hP;refine⟨⟨k1,w0.heap.size,w1.heap.size,rfl,by omega,by omega,by omega,by omega,by omega,hB,hP,MapV.only S3 dP (by simp;omega)⟩,?_⟩;have:=o3.trans dP (bs:=[]) fun x hx=>.inr (by simp only[aO]at hx;omega);exact this
end Go.Proofs.YtbkjcdocjfknfaaGreatDoor.Con
namespace Go.Proofs
open Go.Shelf
def Tryz.Cj:Go.Shelf.Ren:=⟨fun | 7=>107 | 10=>142 | n=>n,fun | 23=>129 | 26=>3 | 3=>4 | 28=>174 | 0=>0 | 27=>173 | 33=>116 | 4=>4 | n=>n,fun | n=>n⟩
theorem Tryz.Wv:Go.Proofs.SlLaysZI.n7 Tryz.prog Tryz.Cj:={
 mixed:=by kernel_rfl
 f7:=⟨Tryz.f107.name,by decide,Tryz.func107.trans (bm some (by kernel_rfl))⟩
 f10:=⟨Tryz.f142.name,by decide,Tryz.func142.trans (bm some (by kernel_rfl))⟩
 t0:=Tryz.underlying0
 a0:=Tryz.isAgg0
 z0:=Tryz.sizeOf0
 v0:=Tryz.zeroValue0
 t4:=Tryz.underlying4
 a4:=Tryz.isAgg4
 z4:=Tryz.sizeOf4
 v4:=Tryz.zeroValue4
 t23:=Tryz.underlying129
 a23:=Tryz.isAgg129
 z23:=Tryz.sizeOf129
 v23:=Tryz.zeroValue129
 t26:=Tryz.underlying3
 a26:=Tryz.isAgg3
 z26:=Tryz.sizeOf3
 v26:=Tryz.zeroValue3
 t27:=Tryz.underlying173
 a27:=Tryz.isAgg173
 z27:=Tryz.sizeOf173
 v27:=Tryz.zeroValue173
 t28:=Tryz.underlying174
 a28:=Tryz.isAgg174
 z28:=Tryz.sizeOf174
 v28:=Tryz.zeroValue174
 t33:=Tryz.underlying116
 a33:=Tryz.isAgg116
 z33:=Tryz.sizeOf116
 v33:=Tryz.zeroValue116}
def Tryz.xu:Go.Shelf.Ren:=⟨fun | 6=>106 | 8=>141 | 9=>78 | 11=>184 | 13=>102 | 12=>112 | 23=>139 | 24=>140 | 14=>143 | 15=>144 | 16=>145 | 17=>146 | 18=>147 | 19=>148 | 20=>110 | 21=>149 | 22=>150 | 25=>185 | 26=>180 | 27=>181 | 28=>186 | 29=>187 | 30=>103 | 31=>213 | n=>n,fun | 26=>3 | 28=>174 | 24=>32 | 0=>0 | 3=>3 | 37=>150 | 48=>215 | 50=>42 | 4=>4 | 40=>209 | 39=>208 | 45=>142 | 5=>5 | 9=>9 | 51=>255 | 55=>231 | 57=>285 | 58=>246 | 33=>116 | n=>n,fun | n=>n⟩
theorem Tryz.UI:Go.Proofs.SlLaysZI.n6 Tryz.prog Tryz.xu:={
 mixed:=by kernel_rfl
 f6:=⟨Tryz.f106.name,by decide,Tryz.func106.trans (bm some (by kernel_rfl))⟩
 f8:=⟨Tryz.f141.name,by decide,Tryz.func141.trans (bm some (by kernel_rfl))⟩
 f11:=⟨Tryz.f184.name,by decide,Tryz.func184.trans (bm some (by kernel_rfl))⟩
 t0:=Tryz.underlying0
 a0:=Tryz.isAgg0
 z0:=Tryz.sizeOf0
 v0:=Tryz.zeroValue0
 t24:=Tryz.underlying32
 a24:=Tryz.isAgg32
 z24:=Tryz.sizeOf32
 v24:=Tryz.zeroValue32
 t26:=Tryz.underlying3
 a26:=Tryz.isAgg3
 z26:=Tryz.sizeOf3
 v26:=Tryz.zeroValue3
 t28:=Tryz.underlying174
 a28:=Tryz.isAgg174
 z28:=Tryz.sizeOf174
 v28:=Tryz.zeroValue174
 i26:=by kernel_rfl}
def Tryz.M2:Go.Shelf.Ren:=⟨fun | 5=>78 | 8=>102 | 7=>112 | 19=>139 | 20=>140 | 10=>143 | 11=>144 | 12=>145 | 13=>146 | 14=>147 | 15=>148 | 16=>110 | 17=>149 | 18=>150 | 30=>185 | 31=>180 | 32=>181 | 33=>186 | 34=>187 | 35=>103 | 40=>213 | n=>n,fun | 23=>32 | 25=>3 | 3=>3 | 32=>150 | 22=>32 | 0=>0 | 44=>215 | 46=>42 | 4=>4 | 36=>209 | 35=>208 | 41=>142 | 5=>5 | 9=>9 | 53=>255 | 57=>231 | 63=>285 | 64=>246 | n=>n,fun | n=>n⟩
theorem Tryz.Ww:Go.Proofs.SlLaysM.n5 Tryz.prog Tryz.M2:={
 mixed:=by kernel_rfl
 f5:=⟨Tryz.f78.name,by decide,Tryz.func78.trans (bm some (by kernel_rfl))⟩
 f7:=⟨Tryz.f112.name,by decide,Tryz.func112.trans (bm some (by kernel_rfl))⟩
 f8:=Tryz.func102.trans (bm some (by kernel_rfl))
 f10:=⟨Tryz.f143.name,by decide,Tryz.func143.trans (bm some (by kernel_rfl))⟩
 f11:=⟨Tryz.f144.name,by decide,Tryz.func144.trans (bm some (by kernel_rfl))⟩
 f12:=⟨Tryz.f145.name,by decide,Tryz.func145.trans (bm some (by kernel_rfl))⟩
 f13:=⟨Tryz.f146.name,by decide,Tryz.func146.trans (bm some (by kernel_rfl))⟩
 f14:=⟨Tryz.f147.name,by decide,Tryz.func147.trans (bm some (by kernel_rfl))⟩
 f15:=⟨Tryz.f148.name,by decide,Tryz.func148.trans (bm some (by kernel_rfl))⟩
 f16:=⟨Tryz.f110.name,by decide,Tryz.func110.trans (bm some (by kernel_rfl))⟩
 f17:=⟨Tryz.f149.name,by decide,Tryz.func149.trans (bm some (by kernel_rfl))⟩
 f18:=⟨Tryz.f150.name,by decide,Tryz.func150.trans (bm some (by kernel_rfl))⟩
 f19:=Tryz.func139.trans (bm some (by kernel_rfl))
 f20:=Tryz.func140.trans (bm some (by kernel_rfl))
 f30:=⟨Tryz.f185.name,by decide,Tryz.func185.trans (bm some (by kernel_rfl))⟩
 f31:=Tryz.func180.trans (bm some (by kernel_rfl))
 f32:=Tryz.func181.trans (bm some (by kernel_rfl))
 f33:=⟨Tryz.f186.name,by decide,Tryz.func186.trans (bm some (by kernel_rfl))⟩
 f34:=⟨Tryz.f187.name,by decide,Tryz.func187.trans (bm some (by kernel_rfl))⟩
 f35:=⟨Tryz.f103.name,by decide,Tryz.func103.trans (bm some (by kernel_rfl))⟩
 f40:=⟨Tryz.f213.name,by decide,Tryz.func213.trans (bm some (by kernel_rfl))⟩
 t0:=Tryz.underlying0
 a0:=Tryz.isAgg0
 z0:=Tryz.sizeOf0
 v0:=Tryz.zeroValue0
 t3:=Tryz.underlying3
 a3:=Tryz.isAgg3
 z3:=Tryz.sizeOf3
 v3:=Tryz.zeroValue3
 t4:=Tryz.underlying4
 a4:=Tryz.isAgg4
 z4:=Tryz.sizeOf4
 v4:=Tryz.zeroValue4
 t5:=Tryz.underlying5
 a5:=Tryz.isAgg5
 z5:=Tryz.sizeOf5
 v5:=Tryz.zeroValue5
 t9:=Tryz.underlying9
 a9:=Tryz.isAgg9
 z9:=Tryz.sizeOf9
 v9:=Tryz.zeroValue9
 t22:=Tryz.underlying32
 a22:=Tryz.isAgg32
 z22:=Tryz.sizeOf32
 v22:=Tryz.zeroValue32
 t23:=Tryz.underlying32
 a23:=Tryz.isAgg32
 z23:=Tryz.sizeOf32
 v23:=Tryz.zeroValue32
 t25:=Tryz.underlying3
 a25:=Tryz.isAgg3
 z25:=Tryz.sizeOf3
 v25:=Tryz.zeroValue3
 t32:=Tryz.underlying150
 a32:=Tryz.isAgg150
 z32:=Tryz.sizeOf150
 v32:=Tryz.zeroValue150
 t35:=Tryz.underlying208
 a35:=Tryz.isAgg208
 z35:=Tryz.sizeOf208
 v35:=Tryz.zeroValue208
 t36:=Tryz.underlying209
 a36:=Tryz.isAgg209
 z36:=Tryz.sizeOf209
 v36:=Tryz.zeroValue209
 t41:=Tryz.underlying142
 a41:=Tryz.isAgg142
 z41:=Tryz.sizeOf142
 v41:=Tryz.zeroValue142
 t44:=Tryz.underlying215
 a44:=Tryz.isAgg215
 z44:=Tryz.sizeOf215
 v44:=Tryz.zeroValue215
 t46:=Tryz.underlying42
 a46:=Tryz.isAgg42
 z46:=Tryz.sizeOf42
 v46:=Tryz.zeroValue42
 t53:=Tryz.underlying255
 a53:=Tryz.isAgg255
 z53:=Tryz.sizeOf255
 v53:=Tryz.zeroValue255
 t57:=Tryz.underlying231
 a57:=Tryz.isAgg231
 z57:=Tryz.sizeOf231
 v57:=Tryz.zeroValue231
 t63:=Tryz.underlying285
 a63:=Tryz.isAgg285
 z63:=Tryz.sizeOf285
 v63:=Tryz.zeroValue285
 t64:=Tryz.underlying246
 a64:=Tryz.isAgg246
 z64:=Tryz.sizeOf246
 v64:=Tryz.zeroValue246}
open Go.RowKit Go.Maps Go.Sort Go.Shelf in
theorem Tryz.Zf (m:Nat):AnyZI.SortsIn Tryz.prog Tryz.xu Fence.wide m:=
 ⟨fun blk off cap ss W hH hblk hsz=>callsIn_wide.2 (AnyM.slices_Sort_int Tryz.Ww blk off cap ss W hH hblk hsz),
  fun p cap W=>callsIn_wide.2 (AnyM.slices_Sort_int_none Tryz.Ww p cap W)⟩
open Go.RowKit Go.Maps Go.Sort Go.Shelf in
theorem Tryz.UJ (mb:Option Nat) (W:World):Calls Tryz.prog 107 #[.map mb] W fun e w'=>e=.returned (.func (.func 142) #[] #[.pointer (some ⟨W.heap.size,0,none⟩)])/\w'=W.alloc (.cells #[.map mb] 129):=
 callsIn_wide.1 (AnyZI.keys_in Tryz.Wv Fence.wide 5 trivial rfl mb W)
open Go.RowKit Go.Maps Go.Sort Go.Shelf in
theorem Tryz.M3 {H:Type} (k b nn:Nat) (D0:DataW H) (R:Value->Option (DataW H×List MemPlace)) (w:World) (hk:k<w.heap.size) (hm:w.cell? ⟨k,0,none⟩=some (.map (some b))) (mM:w.ownsMap Tryz.prog 3 R b nn D0) (GX:Maps.size D0<=maxLen) (aaR:Maps.size D0*8<=140737488355328):
  Calls Tryz.prog 106 #[.func (.func 142) #[] #[.pointer (some ⟨k,0,none⟩)]] w fun e w'=>∃(v:Value) (ss:List Int),e=.returned v/\ss.Perm (intKeys D0)/\
   w'.ownsRow w.heap.size 3 1 v ss.length ((ss.mergeSort (fun x y=>decide (x<=y))).map encZ)/\(v=.slice none 0 0↔ss=[])/\Below w.heap.size w w':=by
 have anz:SeqGives Fence.wide 2 Tryz.prog 142 #[.pointer (some ⟨k,0,none⟩)] encZ (fun ss=>ss.Perm (intKeys D0)) (Maps.size D0) w:=
  AnyZI.keys_gives (ρ:=Tryz.Cj) {Tryz.Wv with} Fence.wide _ trivial rfl (by omega) k b nn D0 w hk hm mM
 exact callsIn_wide.1 (AnyZI.sorted_in Tryz.UI Fence.wide 5 trivial trivial trivial trivial rfl (by omega) (Tryz.Zf _) (enters_of Tryz.func78 (by kernel_rfl) rfl) 142 #[.pointer (some ⟨k,0,none⟩)] trivial (enters_of Tryz.func142 (by kernel_rfl) rfl) _ _ GX aaR _ anz)
end Go.Proofs
namespace Go.Proofs.YtbkjcdocjfknfaaGreatDoor.Con
open Go.Value renaming int->O,string->ah,pointer->ai,agg->aj,tuple->ak,bool->ao
open Go.IntKind renaming i64->ae,wrap->av
open Go.Ending renaming returned->aq
open _root_.ByteArray renaming mk->ar
open _root_.Go.Proofs.Tryz renaming prog->au
open Go.Instr renaming buildSlice->aw
open Go renaming World->ay,Value->az,Calls->aB
open Go.Kt renaming Only->aA,SliceF->aD,Cells->aE,OnlyP->aF,Blk->aH
open Go Go.RowKit Go.Kt Go.Kt.V Go.Proofs.YtbkjcdocjfknfaaGreatDoor.Vc
set_option linter.unusedSimpArgs false
set_option linter.unusedVariables false
set_option maxHeartbeats 4000000
set_option linter.unusedSectionVars false
set_option maxRecDepth 100000
theorem Uk(l:List Int)(w:ay)(F:aL)(hg:∀a,a∈l->gI a):lm rInt 1 w F l (l.map fun a=>[Value.int ae a]):=by
 induction l with
 | nil=>exact trivial
 | cons a l ih=>
  have:=hg a (.head _);exact⟨⟨rfl,rfl,by constructor<;>omega⟩,ih fun b hb=>hg b (.tail _ hb)⟩
theorem QH(l:List Int):(l.map fun a=>[Value.int ae a]).flatten=l.map Go.encZ:=by
 induction l with
 | nil=>rfl
 | cons a l ih=>rw[bF,dj,ih];rfl
theorem QI{B:Nat}{w:ay}{v:az}{l:List Int}{n:Nat}(h:w.ownsRow B 3 1 v n (l.map Go.encZ))(hg:∀a,a∈l->gI a):∃s:Sl,v=s.v/\dz B w s l:=by
 obtain⟨hl,h⟩:=h;rw[bq,jP]at hl;subst hl;rcases h with⟨rfl,hn⟩ | ⟨g,cap,cur,rfl,h1,h2,h3,h4,h5,h6⟩
 ·have:l=[]:=bO hn;subst this;exact⟨Sl.nil,rfl,Own.nil _ _ _ _ _ _⟩
 ·refine⟨⟨some ⟨g,0,none⟩,l.length,cap⟩,rfl,.inr ⟨g,_,cur.toList.drop l.length,rfl,h1,?_,?_,rfl,h3,?_,Uk l w _ hg⟩⟩
  ·rw[jP]at h6;rw[QH,<-h6,dv];unfold aH;rw[h2]
  ·dsimp only;rw[cG,fe,h5];omega
  ·have:maxLen=9223372036854775807:=rfl;dsimp only;omega
def itI(k:Nat):OV:=⟨.func (.func 142) #[] #[ai (some ⟨k,0,none⟩)],rfl⟩
theorem QJ{w:ay}{r:Nat}{p:Int->Bool}{L:List Int}(h:iR w r p)(hL:L.Pairwise (· <·))(he:∀a,a∈L↔p a=true):
  aB au 73 #[.map (some r)] w fun e w'=>∃s:Sl,e=aq s.v/\dz w.heap.size w' s L/\aA [] w w':=by
 refine(ajZ (some r) (fun v w'=>∃s:Sl,v=s.v/\dz w.heap.size w' s L/\aA [] w w') w ?_).mono (by rintro _ w' ⟨v,rfl,s,rfl,h⟩;exact⟨s,rfl,h⟩);refine(Tryz.UJ (some r) w).mono ?_;rintro _ w1 ⟨rfl,rfl⟩;have hO:aA [] w (w.alloc (.cells #[.map (some r)] 129)):=Only.alloc _ _;have hk:aH (w.alloc (.cells #[.map (some r)] 129)) w.heap.size 129 [.map (some r)]:=heap_alloc_new w _;have h1:iR (w.alloc (.cells #[.map (some r)] 129)) r p:=MapV.only h hO (by simp);have z1:=hO.size;generalize w.alloc (.cells #[.map (some r)] 129)=w1 at*
 refine⟨itI w.heap.size,rfl,?_⟩;obtain⟨D,g1,g2,g3,g4⟩:=MapV.aeo (P:=au) (kt:=3) (by kernel_rfl) h1 (by have:maxLen=9223372036854775807:=rfl;omega);refine(Tryz.M3 w.heap.size r 64 D _ w1 hk.lt (hk.cell 0) g1 (by have:maxLen=9223372036854775807:=rfl;omega) (by omega)).mono ?_;rintro e w' ⟨v,ss,rfl,k1,k2,k3,k4⟩;have hs:ss.Nodup:=k1.nodup_iff.2 g3;rw[Io hL hs fun a=>by
  rw[k1.mem_iff,g4,he];dsimp only[mB];cases p a<;>simp]at k2
 obtain⟨s,rfl,ho⟩:=QI k2 fun a ha=>h.ok ((he a).1 ha);exact⟨s,rfl,s,rfl,ho.low z1,hO.cz (Only.oa k4)⟩
def mH(S:Nat)(k:Int):Bool:=decide (0<=k)&&S.testBit k.toNat
theorem Ag(S n:Nat):mH S (n:Int)=S.testBit n:=by
 unfold mH;rw[bK (by omega),cY,aX]
theorem DR{x:Int}(h:gI x)(S:Nat)(k:Int):mH (Ew S x) k=(mH S k||decide (k=x)):=by
 have h1:=h.1;have h2:=h.2;unfold mH Ew;rw[Nat.testBit_or,Ad];by_cases hk:0<=k
 ·rw[bK hk,cY,cY];congr 1;rw[fS];constructor
  ·rintro⟨_,e⟩;omega
  ·intro e;exact⟨by omega,by omega⟩
 ·rw[bG hk,eu,eu,bG (by omega)];rfl
theorem B6:∀(l:List Int),(∀x,x∈l->gI x)->∀(S:Nat) (k:Int),mH (l.foldl Ew S) k=(mH S k||decide (k∈l))
 | [],_,S,k=>by simp
 | x::l,h,S,k=>by
  rw[mY,B6 l (fun y hy=>h y (.tail _ hy)),DR (h x (.head _)),Bool.or_assoc];congr 1;rw[<-Bool.decide_or,fS,aR]
theorem QL{α:Type}{l:List α}{j:Nat}{t:α}(h:l[j]? =some t)(f:α->Bool):(l.take (j+1)).any f=((l.take j).any f||f t):=by
 rw[bI,h,Sc];simp
theorem DS(w:ay)(k:Int):aB au 64 #[O ae k] w fun e w'=>e=aq (ao (fL k))/\w'=w:=by
 refine(ajT k (fun v w'=>v=ao (fL k)/\w'=w) w ?_).mono (by rintro _ w' ⟨v,rfl,rfl,h⟩;exact⟨rfl,h⟩);refine⟨?_,rfl⟩;congr 1;unfold fL;rw[bT];simp
theorem PastV.inHeap{w:ay}{F:aL}{r:Nat}{M:xo}(h:PastV w F r M):PastV w (fun k=>F k/\k<w.heap.size) r M:=by
 obtain⟨m,h1,h2,h3⟩:=h.ex;refine⟨m,h1,h2,fun k l hl=>?_⟩;obtain⟨s,e,hs⟩:=h3 k l hl;exact⟨s,e,SliceF.inHeap bN hs (by decide)⟩
section
variable {w:ay} {b r0 r1:Nat} {s si sd sr st:Sl} {xs:List cM} {dft tg:List Int} {F G H:aL} {M:xo}
theorem Ah(hB:Wk w b s si sd sr r0 r1)(xz:aD nq 5 w F s xs)(hsd:aD rInt 1 w F sd dft)(hP:PastV w G r0 M)(nA:aD rInt 1 w H st tg)(xP:dft.length=xs.length)(hg:∀t,t∈tg->∀g,g∈dX xs dft M t->gI g):
  aB au 71 #[ai (some ⟨b,0,none⟩),st.v] w fun e w'=>(∃r:Nat,e=aq (.map (some r))/\w.heap.size<=r/\iR w' r (fun k=>tg.any fun t=>decide (k∈dX xs dft M t)))/\aA [] w w':=by
 refine(ajX ⟨b,0,none⟩ st (fun v w'=>(∃r:Nat,v=.map (some r)/\w.heap.size<=r/\iR w' r (fun k=>tg.any fun t=>decide (k∈dX xs dft M t)))/\aA [] w w') w ?_).mono (by rintro _ w' ⟨v,rfl,⟨r,rfl,h⟩,h'⟩;exact⟨⟨r,rfl,h⟩,h'⟩);obtain⟨a1,a2,a3⟩:=MapV.make (P:=au) (mty:=129) (kv:=kN) (g:=gI) w;refine⟨_,_,a1,?_⟩;have S0:iR (w.alloc (.map #[] 0)) w.heap.size fun k=>([]:List Int).any fun t=>decide (k∈dX xs dft M t):=(MapV.M1 a2).ext fun k=>by dsimp only[mB];rw[if_neg (by simp)]
 generalize w.alloc (.map #[] 0)=W at*
 have hn:=nA.len;have hc:=nA.cap;have hb:=nA.big;have hxn:=xz.len;have hxc:=xz.cap;have hxb:=xz.big;have hP':=hP.inHeap;refine⟨fun kv i u=>∃j:Nat,i=(j:Int)/\kv+j=tg.length/\j<=tg.length/\iR u w.heap.size (fun k=>(tg.take j).any fun t=>decide (k∈dX xs dft M t))/\aA [w.heap.size] W u,tg.length,⟨0,rfl,by omega,bA _,S0,Only.refl _ _⟩,?_⟩;rintro kv _ u ⟨j,rfl,tX,hj,hS,hO⟩;have o:aA [] w u:=a3.trans hO fun x hx=>.inr (by simp only[aO]at hx;omega);refine⟨fun hc=>?_,fun hc=>?_⟩
 ·have hc:=aP hc;have ja:j<tg.length:=by omega
  obtain⟨t,ht⟩:∃t,tg[j]? =some t:=⟨_,aV ja⟩
  have W3:=hg t (bD ht);refine⟨fun w2=>iR w2 w.heap.size (fun k=>(tg.take (j+1)).any fun t=>decide (k∈dX xs dft M t))/\aA [w.heap.size] W w2,?_,?_⟩
  ·rintro w2 ⟨h1,h2⟩;exact⟨kv-1,by omega,j+1,by rw[gD (by omega) (by omega)];rfl,by omega,by omega,h1,h2⟩
  have fin:∀{q:Int->Bool} {u':ay},iR u' w.heap.size q->(∀k,q k=((tg.take j).any (fun t=>decide (k∈dX xs dft M t))||decide (k∈dX xs dft M t)))->iR u' w.heap.size (fun k=>(tg.take (j+1)).any fun t=>decide (k∈dX xs dft M t)):=fun h he=>h.of fun k=>by rw[he,QL ht]
  obtain⟨ad,c1,c2⟩:=iQ (kI nA o) ht;have Vm:Wk u b s si sd sr r0 r1:=o.blk hB (by simp);refine⟨ad,c1,_,c2,some r0,Blk.dZ Vm 4 rfl,?_⟩;obtain⟨l0,d1,d2⟩:=PastV.at (hP'.o0 o) t;refine⟨l0,_,_,d1,s,fun _=>Blk.dZ Vm 0 rfl,fun hx=>⟨fin hS fun k=>?_,hO⟩,fun hx=>⟨s,Blk.dZ Vm 0 rfl,?_⟩⟩
  ·rw[cp,cm,cm]at hx;have:dX xs dft M t=[]:=by unfold dX;rw[if_pos (by omega)]
   rw[this];simp
  rw[gP,dF,dF]at hx;obtain⟨n,rfl⟩:∃n:Nat,t=n:=⟨t.toNat,by omega⟩
  obtain⟨x,AA⟩:∃x,xs[n]? =some x:=⟨_,aV (by omega)⟩
  have anA:aD nq 5 u F s xs:=SliceF.only db (by decide) xz o (by simp);obtain⟨wQ,e1,e2,_⟩:=jL anA AA;have I6:dX xs dft M (n:Int)=if fL x.k then(match M n with
   | some l=>l
   | none=>[(dft[n]?).getD 0])else[(n:Int)]:=by
   unfold dX;rw[if_neg (by omega),fP AA,aX]
   try rfl
  refine⟨wQ,e1,x.k,e2.dZ 0 _ rfl,(DS u x.k).mono ?_⟩;rintro _ u' ⟨rfl,hu⟩;obtain rfl:u=u':=hu.symm;refine⟨_,rfl,fun hh=>?_,fun hh=>⟨fun hk=>?_,fun hk=>?_⟩⟩
  ·have hh:fL x.k=false:=by simpa using hh
   rw[hh,if_neg (by simp)]at I6;have Hk:=W3 n (by rw[I6];exact .head _);obtain⟨y,w5,f1,f2,f3⟩:=xn u (a:=(n:Int)) ⟨by omega,by omega⟩;have z5:=f2.size;have bX:=MapV.lt hS;refine⟨y,w5,f1,(wx (MapV.only hS f2 (by simp)) (f3.slice bN) (by rintro(h | ⟨h,_⟩)<;>omega) (fun z hz=>by rw[aO]at hz;rw[hz];exact Hk)).mono ?_⟩;rintro _ w6 ⟨rfl,h6,ez⟩;exact⟨rfl,fin h6 fun k=>by rw[I6],(hO.cz f2).trans ez fun x hx=>.inl hx⟩
  ·have hh:fL x.k=true:=by simpa using hh
   obtain⟨l,hl⟩:=dQ.1 hk;rw[hh,if_pos rfl,hl]at I6;dsimp only at I6;refine(wx hS (d2 l hl) (by omega) fun z hz=>W3 z (by rw[I6];exact hz)).mono ?_;rintro _ w6 ⟨rfl,h6,ez⟩;exact⟨rfl,fin h6 fun k=>by rw[I6],hO.trans ez fun x hx=>.inl hx⟩
  ·have hh:fL x.k=true:=by simpa using hh
   have hl:M n=none:=by simpa using hk
   rw[hh,if_pos rfl,hl]at I6;dsimp only at I6;obtain⟨v,hv⟩:∃v,dft[n]? =some v:=⟨_,aV (by omega)⟩
   rw[hv,jJ]at I6;have Hk:=W3 v (by rw[I6];exact .head _);obtain⟨ad3,g1,g2⟩:=iQ (kI hsd o) hv;refine⟨sd,Blk.dZ Vm 2 rfl,ad3,g1,v,g2,?_⟩;obtain⟨y,w5,f1,f2,f3⟩:=xn u (a:=v) ⟨by have:=Hk.1;omega,by have:=Hk.2;omega⟩;have z5:=f2.size;have bX:=MapV.lt hS;refine⟨y,w5,f1,(wx (MapV.only hS f2 (by simp)) (f3.slice bN) (by rintro(h | ⟨h,_⟩)<;>omega) (fun z hz=>by rw[aO]at hz;rw[hz];exact Hk)).mono ?_⟩;rintro _ w6 ⟨rfl,h6,ez⟩;exact⟨rfl,fin h6 fun k=>by rw[I6],(hO.cz f2).trans ez fun x hx=>.inl hx⟩
 ·have hc:=aW hc;have ja:j=tg.length:=by omega
  subst ja;rw[wR]at hS;exact⟨⟨w.heap.size,rfl,aY _,hS⟩,o⟩
end
structure WkP (w:ay) (b:Nat) (s si sd sr:Sl) (r0 r1:Nat) (F G:aL) (p:Pl) (M:xo) (S:Nat):Prop where
 blk:Wk w b s si sd sr r0 r1
 pl:PlR w F s si sd sr p
 past:PastV w G r0 M
 set:iR w r1 (mH S)
 n01:r0≠r1
 n0:r0≠b
 n1:r1≠b
 nF:¬F r0/\¬F r1
 nG:¬G r0/\¬G r1
section
variable {w w':ay} {b r0 r1 r:Nat} {s si sd sr:Sl} {F G:aL} {p:Pl} {M:xo} {S S':Nat} {q:Int->Bool} {L:List Int} {d:Int}
theorem WkP.step(h:WkP w b s si sd sr r0 r1 F G p M S)(hO:aA [r1] w w')(hS:iR w' r1 (mH S')):WkP w' b s si sd sr r0 r1 F G p M S':=by
 have n:∀{P:aL},¬P r1->∀k,P k->k<w.heap.size->k∉[r1]:=fun hp k hk _ hm=>by
  simp only[aO]at hm;exact hp (by rw[<-hm];exact hk)
 exact⟨hO.blk h.blk (by simpa using fun e=>h.n1 e.symm),⟨SliceF.only db (by decide) h.pl.sp hO (n h.nF.2),SliceF.only bN (by decide) h.pl.ini hO (n h.nF.2),SliceF.only bN (by decide) h.pl.dft hO (n h.nF.2),SliceF.only ik (by decide) h.pl.ro hO (n h.nF.2)⟩,h.past.only hO (by simpa using h.n01) (n h.nG.2),hS,h.n01,h.n0,h.n1,h.nF,h.nG⟩
theorem WkP.o0(h:WkP w b s si sd sr r0 r1 F G p M S)(hO:aA [] w w'):WkP w' b s si sd sr r0 r1 F G p M S:=
 ⟨hO.blk h.blk (by simp),h.pl.o0 hO,h.past.o0 hO,MapV.only h.set hO (by simp),h.n01,h.n0,h.n1,h.nF,h.nG⟩
theorem Lc(h:WkP w b s si sd sr r0 r1 F G p M S)(hs:iR w r q)(hr:r≠r1)(hq:∀k,q k=true↔k∈L)(hL:∀g,g∈L->pj p.sp g)(hd: -1<=d)(hF:Fo p.sp)(hl:p.sp.length<=64):
  aB au 70 #[ai (some ⟨b,0,none⟩),.map (some r),O ae d] w fun e w'=>e=aq (ak #[])/\iR w' r1 (mH (jV p.sp d L S))/\aA [r1] w w':=by
 refine(ajW ⟨b,0,none⟩ (some r) d (fun v w'=>v=ak #[]/\iR w' r1 (mH (jV p.sp d L S))/\aA [r1] w w') w ?_).mono (by rintro _ w' ⟨v,rfl,rfl,h⟩;exact⟨rfl,h⟩);obtain⟨w0,a1,a2,a3,a4⟩:=MapV.range (P:=au) (mty:=129) (kt:=3) (et:=4) (by kernel_rfl) hs;have SG:=MapV.lt h.set;have up1:∀{u:ay},aA [] w u->aA [r1] w u:=fun hO=>(Only.refl [r1] w).cz hO;refine⟨_,w0,a1,fun kv u=>∃V:List Int,ItV kN gI u w.heap.size r (mB q) 64 V/\kv+V.length=64/\iR u r1 (mH (jV p.sp d V.reverse S))/\aA [r1] w u,64,⟨[],a2,rfl,MapV.only h.set a3 (by simp),up1 a3⟩,?_⟩;rintro kv u ⟨V,hI,tX,hS,hO⟩;have hlq:∀{k:Int},mB q k≠none->q k=true:=fun{k} hk=>by
  cases e:q k with
  | true=>rfl
  | false=>exact absurd (by dsimp only[mB];rw[e,if_neg (by simp)]) hk
 rcases ItV.next (P:=au) ww hI 0 with⟨jw,Va⟩ | ⟨k,v,u1,hm,hgk,hkV,Va,Eg,hI1,cF⟩
 ·refine .inl ⟨u,Va,rfl,hS.of fun k=>?_,hO⟩;have hVq:∀k,k∈V->k∈L:=fun k hk=>by
   obtain⟨es,c,sn,c0,_,_,_,_,_,_,m7,_,m9⟩:=hI.mem;obtain⟨x,hx,e1,_⟩:=(m9 k).1 hk;have:=(m7 k x.val).2 ⟨x,hx,e1,rfl⟩;exact(hq k).1 (hlq (by rw[this];simp))
  have e:jV p.sp d V.reverse S=jV p.sp d L S:=Nat.eq_of_testBit_eq fun m=>by
   rw[bT,qe hF hl hd _ S (fun g hg=>hL g (hVq g (wS.1 hg))) m,qe hF hl hd L S hL m];refine or_congr Iff.rfl (and_congr Iff.rfl (exists_congr fun g=>and_congr ⟨fun hg=>hVq _ (wS.1 hg),fun hg=>wS.2 (jw _ ?_)⟩ Iff.rfl));dsimp only[mB];rw[if_pos ((hq _).2 hg)];rfl
  rw[e]
 ·have hqk:q k=true:=hlq (by rw[hm];simp);have hv:v=ao true:=by
   dsimp only[mB]at hm;rw[if_pos hqk]at hm;injection hm with hm;exact hm.symm
  subst hv;have hLk:=hL k ((hq k).1 hqk);have hVl:=ItV.len ww hI1;rw[bp]at hVl;have ZM:aA [r1] w u1:=hO.trans cF fun x hx=>.inr (by simp only[aO]at hx;omega);refine .inr ⟨⟨kN k,rfl⟩,⟨ao true,rfl⟩,u1,Va,⟨kN k,rfl⟩,⟨ao true,rfl⟩,u1,Eg,k,rfl,?_⟩;refine⟨fun Ek i u2=>∃T,iR u2 r1 (mH T)/\i<(Ek:Int)/\ -1<=i/\i<(p.sp.length:Int)/\Nz p.sp d Ek i T=Nz p.sp d p.sp.length k (jV p.sp d V.reverse S)/\ItV kN gI u2 w.heap.size r (mB q) 64 (k::V)/\aA [r1] w u2,p.sp.length,⟨_,MapV.only hS cF (by simp;omega),hLk.2,by have:=hLk.1;omega,hLk.2,rfl,hI1,ZM⟩,?_⟩;rintro Ek i u2 ⟨T,hT,i1,i2,i3,hup,hI2,dh⟩;refine⟨fun hc=>?_,fun hc=>?_⟩
  ·have hc:i>d:=aP hc;obtain⟨n,rfl⟩:∃n:Nat,i=n:=⟨i.toNat,by omega⟩
   obtain⟨x,hx⟩:∃x,p.sp[n]? =some x:=⟨_,aV (by omega)⟩
   have hW2:=h.step dh hT;refine⟨some r1,Blk.dZ hW2.blk 5 rfl,?_⟩;obtain⟨y,w6,f1,f2,f3⟩:=xn u2 (a:=(n:Int)) ⟨by omega,by omega⟩;have z6:=f2.size;have z2:=dh.size;have Hk:gI (n:Int):=⟨by omega,by omega⟩
   refine⟨y,w6,f1,(wx (MapV.only hT f2 (by simp)) (f3.slice bN) (by rintro(h | ⟨h,_⟩)<;>omega) (fun z hz=>by rw[aO]at hz;rw[hz];exact Hk)).mono ?_⟩;rintro _ w7 ⟨rfl,h7,fI⟩;have h7:iR w7 r1 (mH (Ew T n)):=h7.of fun k=>by
    rw[DR Hk];congr 1;rw[fS,aO]
   have o27:aA [r1] u2 w7:=((Only.refl [r1] u2).cz f2).trans fI fun x hx=>.inl hx;have o7:aA [r1] w w7:=dh.trans o27 fun x hx=>.inl hx;have hW7:=h.step o7 h7;obtain⟨ad,e1,_,e3,_⟩:=jL hW7.pl.sp hx;have U3: -1<=x.pa/\x.pa<(n:Int):=by
    by_cases h0:n=0
    ·subst h0;have:=(hF.rt x hx).1;omega
    ·obtain⟨pp,_,h1,h2,_⟩:=hF.par hx (by omega);omega
   refine⟨rfl,s,Blk.dZ hW7.blk 0 rfl,ad,e1,x.pa,e3,Ek-1,by omega,Ew T n,h7,by omega,by omega,by omega,?_,ItV.only hI2 o27 (by simp;omega) (by simpa using hr),o7⟩;rw[<-hup];obtain⟨f,rfl⟩:∃f,Ek=f+1:=⟨Ek-1,by omega⟩
   conv=>rhs;unfold Nz
   rw[if_pos hc,kQ hx];rfl
  ·have hc:¬i>d:=aW hc;have hT':T=Nz p.sp d p.sp.length k (jV p.sp d V.reverse S):=by
    rw[<-hup];cases Ek with
    | zero=>rfl
    | succ f=>unfold Nz;rw[if_neg hc]
   refine⟨kv-1,by omega,k::V,hI2,by rw[bp];omega,?_,dh⟩;rw[hT']at hT;unfold jV at hT⊢;rw[List.reverse_cons,oB];exact hT
end
end Go.Proofs.YtbkjcdocjfknfaaGreatDoor.Con
