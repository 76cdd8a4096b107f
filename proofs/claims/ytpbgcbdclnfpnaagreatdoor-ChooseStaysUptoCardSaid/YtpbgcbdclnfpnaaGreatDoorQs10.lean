import Derived.Test.YtpbgcbdclnfpnaaGreatDoorQs9
set_option linter.unusedSectionVars false
set_option linter.unusedSimpArgs false
set_option linter.unusedVariables false
set_option maxHeartbeats 4000000
set_option maxRecDepth 100000
open Go.Value renaming int->O,string->ah,pointer->ai,agg->aj,tuple->ak,bool->ao
open Go.IntKind renaming i64->ae,wrap->av
open Go.Ending renaming returned->aq
open _root_.ByteArray renaming mk->ar
open _root_.Go.Proofs.Tryz renaming prog->au
open Go.Instr renaming buildSlice->aw
open Go renaming World->ay,Value->az,Calls->aB
open Go.Kt renaming Only->aA,SliceF->aD,Cells->aE,OnlyP->aF,Blk->aH
open Go renaming World->ay,Value->az
namespace Go.Proofs.YtpbgcbdclnfpnaaGreatDoor.Con
open Go Go.RowKit Go.Kt Go.Kt.V Go.Proofs.YtpbgcbdclnfpnaaGreatDoor.Vc
section
theorem FB{xs:List cM}{a:Nat}{r:Ro}:∀{l:List Mv} {i:Nat},r∈I6 xs a i l->∃j m,m∈l/\r=Xg xs a j m
 | [],_,h=>aal
 | m::l,i,h=>by
  rw[I6]at h;rcases aV.1 h with rfl | h
  ·exact⟨i,m,.head _,rfl⟩
  obtain⟨j,m',h1,h2⟩:=FB h;exact⟨j,m',.tail _ h1,h2⟩
mutual
theorem FC{xs:List cM}{r:Ro}:∀{x:Nd} {a:Nat},r∈Fu xs a x->∃n b j m,(uV x)[n]? =some b/\m∈b.mv/\r=Xg xs (a+n) j m
 | .mk b l,a,h=>by
  rw[Fu]at h;rw[uV];rcases bN.1 h with h | h
  ·obtain⟨j,m,h1,h2⟩:=FB h;exact⟨0,b,j,m,rfl,h1,h2⟩
  obtain⟨n,b',j,m,h1,h2,h3⟩:=BR h;exact⟨n+1,b',j,m,by rw[du];exact h1,h2,by rw[h3];congr 1;omega⟩
theorem BR{xs:List cM}{r:Ro}:∀{l:List Nd} {a:Nat},r∈oE xs a l->∃n b j m,(BG l)[n]? =some b/\m∈b.mv/\r=Xg xs (a+n) j m
 | [],_,h=>by rw[oE]at h;cases h
 | x::l,a,h=>by
  rw[oE]at h;rw[BG];rcases bN.1 h with h | h
  ·obtain⟨n,b',j,m,h1,h2⟩:=FC h;exact⟨n,b',j,m,by rw[bM (aZ.1 h1).1];exact h1,h2⟩
  obtain⟨n,b',j,m,h1,h2,h3⟩:=BR h;have:=nV x;exact⟨jk x+n,b',j,m,by rw[bZ aG,this,eE];exact h1,h2,by rw[h3,eY]⟩
end
theorem TD{xs:List cM}{x d:Nat}:jq xs x d=true↔d<x/\jp xs d x:=by
 rw[lr];constructor
 ·rintro⟨i,j,e1,e2,h1,h2⟩;have:i=d:=aG
  have:j=x:=aG
  subst_vars;exact⟨h1,h2⟩
 rintro⟨h1,h2⟩;exact⟨d,x,rfl,rfl,h1,h2⟩
section
variable {c:Ch} {xs:List cM} {vs:List (aJ)} (N:Snd c xs vs) {M:ye} (hM:uW xs M) {dft:List Int} (zA:dft=(uV c.root).map λb=>mY xs b.dft)
include N hM zA
theorem Snd.wX{r:Ro}(h:r∈Fu xs 0 c.root):(r.tg=[]/\r.dom= -1)∨(r.tg≠[]/\(∀s,s∈r.tg->pu xs s)/\∃a d:Nat,r.src=a/\a<xs.length/\r.dom=d/\kd xs d=1/\jp xs d a/\Gd xs d (λk=>∃s,s∈r.tg/\(k:Int)∈fj xs dft M s)/\∀s,s∈r.tg->∀g,g∈fj xs dft M s->pu xs g):=by
 obtain⟨n,b,j,m,h1,h2,rfl⟩:=FC h;rw[bO]at*
 have hn:n<xs.length:=by rw[N.len,<-nV];exact(aZ.1 h1).1
 obtain⟨t,ht⟩:=fL hn;unfold Xg;dsimp only;by_cases hm:m.tg=[]
 ·left;rw[hm];exact⟨rfl,rfl⟩
 right;obtain⟨g1,d,g2,g3,g4,g5,g6⟩:=N.XV hM zA ht h1 h2 hm;exact⟨abz,g1,n,d,rfl,hn,g2,g3,g4,g5,g6⟩
theorem Snd.leaves{act:List Int}(A:Lg xs act){d a:Nat}{G:aL}(ha:(a:Int)∈act)(hc:jp xs d a)(hG:Gd xs d G):(d:Int)∈act/\∃y:Nat,(y:Int)∈act/\Sb xs d y:=by
 have sd:=N.sd;have hd:=DH sd A a d ha hc;refine⟨hd,?_⟩;obtain⟨g,hg⟩:=hG.ne;obtain⟨k,hk,hkg⟩:=N.fo.yq g (hG.bl g hg).1;obtain⟨hs,_⟩:=N.fo.mH N.hk hG (N.fo.jd hk).1 hg hkg;have hr:cY xs d≠[]:=od ((eX sd).2 ⟨hk,hs⟩);obtain⟨q,hq,hqa⟩:=Km sd A hd hr;exact⟨q,hqa,N.fo.jd ((eX sd).1 hq).1⟩
theorem Snd.DW{act:List Int}(A:Lg xs act){rs:List Ro}(hr:∀r,r∈rs->r∈Fu xs 0 c.root/\r.tg≠[]/\r.src∈act)(hp:rs.Pairwise λr r'=>∀x,x∈act->¬(jq xs x r.dom=true/\jq xs x r'.dom=true))
  {ini:List Int} (arj:ini=(uV c.root).map λb=>mY xs b.ini) {S:Nat} (hS:∀m:Nat,S.testBit m=true↔∃r,r∈rs/\r.dom<m/\∃s,s∈r.tg/\∃g:Nat,(g:Int)∈fj xs dft M s/\jp xs m g) {T:Nat} (hT:T=nX xs (λn=>fj xs dft M ((ini[n]?).getD 0)) xs.length S)
  {nx:List Int} (hx:nx.Pairwise (· <·)) (hm:∀x,x∈nx↔∃n:Nat,x=n/\((x∈act/\∀r,r∈rs->jq xs x r.dom=false)∨T.testBit n=true)):Lg xs nx/\∀n:Nat,T.testBit n=true->∃r,r∈rs/\jq xs n r.dom=true:=by
 have F:=N.fo;have sd:=N.sd;have rt:=λr (h:r∈rs)=>(N.wX hM zA (hr r h).1).resolve_left λh'=>(hr r h).2.1 h'.1;have same:∀r r',r∈rs->r'∈rs->∀x,x∈act->jq xs x r.dom=true->jq xs x r'.dom=true->r=r':=λr r' h h' x hx h1 h2=>by
  by_cases e:r=r'
  ·exact e
  ·rcases BQ hp h h' e with g | g
   ·exact absurd ⟨h1,h2⟩ (g x hx)
   ·exact absurd ⟨h2,h1⟩ (g x hx)
 have lv:∀r,r∈rs->∀d:Nat,r.dom=d->(d:Int)∈act/\kd xs d=1/\∃y:Nat,(y:Int)∈act/\Sb xs d y:=λr h d e=>by
  obtain⟨_,_,a,d',e1,_,e2,e3,e4,e5,_⟩:=rt r h;have:d'=d:=aG
  subst this;have ha:=(hr r h).2.2;rw[e1]at ha;obtain⟨g1,g2⟩:=N.leaves hM zA A ha e4 e5;exact⟨g1,e3,g2⟩
 have wit:∀{r:Ro} {d y:Nat},r.dom=d->Sb xs d y->jq xs y r.dom=true:=fun{r d y} e h=>by
  rw[e];obtain⟨h1,h2,h3 | ⟨k,ek,h3⟩⟩:=h
  ·omega
  ·have:k=d:=aG
   subst this;exact TD.2 ⟨aG,h3⟩
 let D:Int->Prop:=λd=>∃r,r∈rs/\r.dom=d
 let G:Int->Nat->Prop:=λd k=>∃r,r∈rs/\r.dom=d/\∃s,s∈r.tg/\(k:Int)∈fj xs dft M s
 have hA:Ap xs D:=by
  rintro d d' x ⟨r,h,rfl⟩ ⟨r',h',rfl⟩ hb jL;obtain⟨_,_,_,d,_,_,e,_⟩:=rt r h;obtain⟨_,_,_,d',_,_,e',_⟩:=rt r' h';rw[e]at hb;rw[e']at jL;have cv:∀{k:Nat},Sb xs (k:Int) x->jp xs k x:=fun{k} hb=>by
   obtain⟨_,_,h3 | ⟨q,eq,h3⟩⟩:=hb
   ·omega
   ·have:q=k:=aG
    rw[<-this];exact h3
  have c1:=cv hb;have c2:=cv jL;rcases Nat.le_total d d' with kA | kA
  ·by_cases he:d=d'
   ·rw[e,e',he]
   ·obtain⟨_,_,y,hy,U6⟩:=lv r' h' d' e';have:=F.qK (d:=(d:Int)) ⟨aG,F.pQ (F.jB c1 c2 kA),.inr ⟨d,rfl,F.jB c1 c2 kA⟩⟩ U6;rw[same r r' h h' y hy (wit e this) (wit e' U6)]
  ·by_cases he:d=d'
   ·rw[e,e',he]
   ·obtain⟨_,_,y,hy,U6⟩:=lv r h d e;have:=F.qK (d:=(d':Int)) ⟨aG,F.pQ (F.jB c2 c1 kA),.inr ⟨d',rfl,F.jB c2 c1 kA⟩⟩ U6;rw[same r r' h h' y hy (wit e U6) (wit e' this)]
 have hG:∀d,D d->Gd xs d (G d):=by
  rintro _ ⟨r,h,rfl⟩;obtain⟨_,_,_,d,_,_,e,_,_,g,_⟩:=rt r h;rw[e];have one:∀r',r'∈rs->r'.dom=d->r'=r:=λr' h' e'=>by
   obtain⟨_,_,y,hy,U6⟩:=lv r h d e;exact same r' r h' h y hy (wit e' U6) (wit e U6)
  have:G d=λk:Nat=>∃s,s∈r.tg/\(k:Int)∈fj xs dft M s:=funext λk=>propext ⟨λ⟨r',h1,h2,h3⟩=>by rw[one r' h1 h2]at h3;exact h3,λh1=>⟨r,h,e,h1⟩⟩;rw[this];exact g
 have hP:Part xs D λm=>S.testBit m=true:=by
  have:=F.Pv N.hk hA hG;have e:(λm=>S.testBit m=true)=λm:Nat=>∃d,D d/\d<m/\∃g,G d g/\jp xs m g:=funext λm=>propext ((hS m).trans ⟨λ⟨r,h1,h2,s,h3,g,h4,h5⟩=>⟨r.dom,⟨r,h1,rfl⟩,h2,g,⟨r,h1,rfl,s,h3,h4⟩,h5⟩,λ⟨d,_,h2,g,⟨r,h1,e,s,h3,h4⟩,h5⟩=>⟨r,h1,by rw[e];exact h2,s,h3,g,h4,h5⟩⟩);rw[e];exact this
 have hgl:∀(n:Nat) (t:cM),xs[n]? =some t->t.k=1->cY xs n≠[]->Gd xs n (λg=>(g:Int)∈fj xs dft M ((ini[n]?).getD 0))/\∀g,g∈fj xs dft M ((ini[n]?).getD 0)->pu xs g:=λn t ht h1 hr=>by
  have hb:n<(uV c.root).length:=by rw[nV,<-N.len];exact eS ht
  obtain⟨b,hb⟩:∃b,(uV c.root)[n]? =some b:=⟨_,aQ hb⟩
  have:(ini[n]?).getD 0=mY xs b.ini:=by rw[arj,ch,hb];rfl
  rw[this];exact N.Ug hM zA ht hb h1 hr
 obtain⟨Q,_,hf⟩:=DD sd N.hk hA hgl hP xs.length (ba _);rw[<-hT]at Q hf;have QF:∀n:Nat,T.testBit n=true->∃r,r∈rs/\jq xs n r.dom=true:=λn hn=>by
  obtain⟨_,_,⟨r,h,rfl⟩,hb⟩:=Q.st n hn;obtain⟨_,_,_,d,_,_,e,_⟩:=rt r h;rw[e]at hb;exact⟨r,h,wit e hb⟩
 refine⟨TA sd hA A ?_ Q (λn hn=>hf n (Tz sd Q hn) hn) hx λx=>(hm x).trans (tZ λn=>?_),QF⟩
 ·rintro _ ⟨r,h,rfl⟩;obtain⟨_,_,_,d,_,_,e,_⟩:=rt r h;obtain⟨g1,g2,_⟩:=lv r h d e;exact⟨d,e,g1,g2⟩
 ·constructor
  ·rintro⟨rfl,⟨h1,h2⟩ | h⟩
   ·refine⟨rfl,.inl ⟨h1,?_⟩⟩;rintro _ ⟨r,h,rfl⟩ hb;obtain⟨_,_,_,d,_,_,e,_⟩:=rt r h;rw[e]at hb;have:=h2 r h;rw[wit e hb]at this;cases this
   ·exact⟨rfl,.inr h⟩
  ·rintro⟨rfl,⟨h1,h2⟩ | h⟩
   ·refine⟨rfl,.inl ⟨h1,λr h=>?_⟩⟩;cases hw:jq xs n r.dom with
    | false=>rfl
    | true=>
     obtain⟨_,_,_,d,_,_,e,_⟩:=rt r h;rw[e]at hw;obtain⟨g1,g2⟩:=TD.1 hw;exact absurd ⟨aG,F.pQ g2,.inr ⟨d,e,g2⟩⟩ (h2 _ ⟨r,h,rfl⟩)
   ·exact⟨rfl,.inr h⟩
end
def wS(xs:List cM):Nat->Int->List Int
 | 0,_=>[]
 | f+1,n=>if n<0 then[]else n::wS xs f (Fc xs n)
theorem Ups.eq{xs:List cM}{n:Int}{l:List Int}(h:Ups xs n l):∀f:Nat,l.length<=f->l=wS xs f n:=by
 induction h with
 | stop h=>
  intro f _;cases f with
  | zero=>rfl
  | succ f=>unfold wS;rw[bc h]
 | @go i s l hs hu ih=>
  intro f h2;cases f with
  | zero=>simp at h2
  | succ f=>
   unfold wS;rw[aY aG,jr hs];congr 1;exact ih f (by rw[bn]at h2;omega)
def Kn(ro:List Ro)(may:List Bool)(n:Int)(k:Nat):Bool:=match ro[k]?,may[k]? with
 | some r,some true=>decide (r.src=n)
 | _,_=>false
def qJ(ro:List Ro)(may:List Bool)(n:Int):Option Nat:=(List.range (min ro.length may.length)).find? (Kn ro may n)
def oG(xs:List cM)(ro:List Ro)(may:List Bool)(leaf:Int):Int:=match(wS xs (xs.length+1) leaf).findSome? (qJ ro may)with
 | some k=>(k:Int)
 | none=> -1
def fH(xs:List cM)(ro:List Ro)(act:List Int)(k:Int):List Int:=if k<0 then[]else match ro[k.toNat]? with
 | some r=>if r.dom<0 then[]else act.filter λx=>jq xs x r.dom
 | none=>[]
def gF(xs:List cM)(ro:List Ro)(act:List Int)(a b:Int):Bool:=(fH xs ro act b).any λn=>decide (n∈fH xs ro act a)
def TE(ro:List Ro)(k:Int):Int:=match ro[k.toNat]? with
 | some r=>r.src
 | none=>0
def pN(xs:List cM)(ro:List Ro)(a b:Int):Bool:=jq xs (TE ro a) (TE ro b)
def zj(xs:List cM)(ro:List Ro)(act:List Int)(may:List Bool)(st:List Int×List Int)(leaf:Int):List Int×List Int:=
 let k:=oG xs ro may leaf
 if k<0∨k∈st.1 then st else
  (st.1++[k],if(st.2.any λo=>gF xs ro act k o&&!pN xs ro k o)=true then st.2 else(st.2.filter λo=>!gF xs ro act k o)++[k])
def kM(xs:List cM)(ro:List Ro)(act:List Int)(may:List Bool):List Int:=((CG xs act).foldl (zj xs ro act may) ([],[])).2
theorem DI{ro:List Ro}{may:List Bool}{n:Int}{k:Nat}(h:qJ ro may n=some k):∃r,ro[k]? =some r/\may[k]? =some true/\r.src=n:=by
 have:=List.find?_some h;unfold Kn at this;split at this
 ·rename_i r h1 h2;exact⟨r,h1,h2,aP this⟩
 cases this
section
variable {xs:List cM} (sd:Sd xs) {act:List Int} (A:Lg xs act) {ro:List Ro} {may:List Bool}
include sd A
theorem Io:∀(f x:Nat),x<xs.length->x<f->∀n,n∈wS xs f x↔∃k:Nat,n=k/\jp xs k x
 | 0,x,_,h,_=>aG
 | f+1,x,hx,h,n=>by
  unfold wS;obtain⟨t,ht⟩:=fL hx;rw[aY aG,aV,jr ht];by_cases h0:0<x
  ·obtain⟨p,s,e1,e2,e3,_,e5,e6⟩:=sd.fo.par ht h0;have hc:jp xs p x:=⟨s,e3,aG,e5⟩
   rw[e2,Io f p (eS e3) aG];constructor
   ·rintro(rfl | ⟨k,rfl,hk⟩)
    ·exact⟨x,rfl,sd.fo.jT hx⟩
    exact⟨k,rfl,sd.fo.kg hk hc⟩
   rintro⟨k,rfl,u,u1,u2,u3⟩;by_cases he:k=x
   ·exact .inl (by rw[he])
   have:=e6 k u u1 aG u3;exact .inr ⟨k,rfl,sd.fo.jB ⟨u,u1,u2,u3⟩ hc this⟩
  have:x=0:=aG
  subst this;rw[(sd.fo.rt t ht).1];have e:wS xs f (-1)=[]:=by
   cases f with
   | zero=>rfl
   | succ f=>unfold wS;rw[bc aG]
  rw[e];constructor
  ·rintro(rfl | h)
   ·exact⟨0,rfl,sd.fo.jT hx⟩
   cases h
  rintro⟨k,rfl,_,_,u2,_⟩;exact .inl aG
theorem Pb{leaf:Int}(hl:leaf∈act)(h:0<=oG xs ro may leaf):∃(k:Nat) (r:Ro),oG xs ro may leaf=k/\ro[k]? =some r/\may[k]? =some true/\r.src∈act:=by
 unfold oG at h⊢;cases hf:(wS xs (xs.length+1) leaf).findSome? (qJ ro may)with
 | none=>rw[hf]at h;exact absurd h aN
 | some k=>
  obtain⟨n,hn,hk⟩:=Jh hf;obtain⟨r,h1,h2,h3⟩:=DI hk;obtain⟨x,rfl,hx,_⟩:=rL sd A hl;obtain⟨q,rfl,hq⟩:=(Io sd A _ x hx aG n).1 hn;exact⟨k,r,rfl,h1,h2,by rw[h3];exact DH sd A x q hl hq⟩
end
structure ChI (xs:List cM) (ro:List Ro) (act:List Int) (may:List Bool) (st:List Int×List Int):Prop where
 ok:∀k,k∈st.1->∃(n:Nat) (r:Ro),k=n/\ro[n]? =some r/\may[n]? =some true/\r.src∈act
 sub:∀k,k∈st.2->k∈st.1
 ap:st.2.Pairwise λb a=>gF xs ro act a b=false
 ne:st.1≠[]->st.2≠[]
section
variable {xs:List cM} (sd:Sd xs) {act:List Int} (A:Lg xs act) {ro:List Ro} {may:List Bool}
include sd A
theorem ChI.step{st:List Int×List Int}(h:ChI xs ro act may st){leaf:Int}(hl:leaf∈act):ChI xs ro act may (zj xs ro act may st leaf):=by
 unfold zj;dsimp only;by_cases hc:oG xs ro may leaf<0∨oG xs ro may leaf∈st.1
 ·rw[bc hc];exact h
 rw[aY hc];obtain⟨k,r,e,h1,h2,h3⟩:=Pb sd A hl (Int.not_lt.1 λh=>hc (.inl h));rw[e];have mr:∀x,x∈st.1++[(k:Int)]->∃(n:Nat) (r:Ro),x=n/\ro[n]? =some r/\may[n]? =some true/\r.src∈act:=λx hx=>by
  rcases bN.1 hx with hx | hx
  ·exact h.ok x hx
  exact⟨k,r,aa3,h1,h2,h3⟩
 split
 ·rename_i ha;refine⟨mr,λx hx=>bN.2 (.inl (h.sub x hx)),h.ap,λ_ e=>?_⟩;rw[e]at ha;simp at ha
 refine⟨mr,λx hx=>?_,?_,λ_=>aac⟩
 ·rcases bN.1 hx with hx | hx
  ·exact bN.2 (.inl (h.sub x (di.1 hx).1))
  exact bN.2 (.inr hx)
 rw[gf];refine⟨h.ap.filter _,yz _ _,λa ha b hb=>?_⟩;have:b=k:=aaz
 subst this;have:=(di.1 ha).2;rwa[da]at this
theorem ChI.fold:∀{l:List Int} {st:List Int×List Int},(∀x,x∈l->x∈act)->ChI xs ro act may st->ChI xs ro act may (l.foldl (zj xs ro act may) st)
 | [],_,_,h=>h
 | x::l,st,hl,h=>ChI.fold (l:=l) (λy hy=>hl y (.tail _ hy)) (h.step sd A (hl x (.head _)))
omit sd A in
theorem Nr {x:Int} (h:x∈CG xs act):x∈act:=by
 obtain⟨k,rfl,_,hp⟩:=pA.1 h;unfold lvP at hp;simp only[aR,bL]at hp;exact hp.1.1
theorem Ko:ChI xs ro act may ((CG xs act).foldl (zj xs ro act may) ([],[])):=
 ChI.fold sd A (λ_ h=>Nr h) ⟨λ_ h=>aal,λ_ h=>aal,List.Pairwise.nil,λh=>absurd rfl h⟩
end
end
theorem Kp(xs:List cM)(a b:Int):Ka xs a b=jq xs a b:=by rw[bW,wH,lr]
theorem aca{w:ay}{s:Sl}{l:List Int}{P5:Nat}{cap:aK}{p:Int->Bool}{F:aL}(hs:aD rInt 1 w F s l)(hl:l.length<=2000000)(hc:ClI w (λ_=>False) P5 cap l p){f:OV}(hf:f.v=.func (.func P5) #[] cap.toArray):
  aB au 51 #[s.v,f.v] w λe w'=>e=aq (ao (l.any p))/\aA [] w w':=by
 refine ret (RT _ _ _ _ ?_);refine(Tv (S:=λ_=>True) hs hl (λ_ _=>trivial) hc hf).mono ?_;rintro _ w1 ⟨⟨i,rfl,hi⟩,hO⟩;refine⟨i,rfl,?_,hO⟩;congr 1;rcases hi with⟨rfl,h⟩ | ⟨n,rfl,h1,h2,h3⟩
 ·rw[bI aG];symm;rw[eu];intro hh;obtain⟨x,hx,hp⟩:=fz.1 hh;rw[h x hx]at hp;cases hp
 rw[bJ aG];exact(fz.2 ⟨l[n],dZ h1,h3 _ (aQ h1)⟩).symm
theorem TF(w:ay)(s si sd sr:Sl):aB au 23 #[aj #[s.v,si.v,sd.v,sr.v],Sl.nil.v] w λe w'=>(∃(b:Nat) (m0 m1:Option Nat),e=aq (ai (some ⟨b,0,none⟩))/\w.heap.size<=b/\b<w'.heap.size/\aH w' b 76 [s.v,si.v,sd.v,sr.v,.map m0,.map m1])/\aA [] w w':=by
 refine(ahe s si sd sr Sl.nil (λv w'=>(∃(b:Nat) (m0 m1:Option Nat),v=ai (some ⟨b,0,none⟩)/\w.heap.size<=b/\b<w'.heap.size/\aH w' b 76 [s.v,si.v,sd.v,sr.v,.map m0,.map m1])/\aA [] w w') w ?_).mono (by rintro _ w' ⟨v,rfl,⟨b,m0,m1,rfl,h⟩,h'⟩;exact⟨⟨b,m0,m1,rfl,h⟩,h'⟩);intro k0 w0 gU fD cO;obtain⟨a1,_,a3⟩:=MapV.make (P:=au) (mty:=72) (kv:=kS) (g:=gS) w0;have z1:=a3.size;refine⟨_,_,a1,a3.same aae,?_⟩;obtain⟨b1,_,b3⟩:=MapV.make (P:=au) (mty:=74) (kv:=kS) (g:=gS) (w0.alloc (.map #[] 0));have z2:=b3.size;refine⟨_,_,b1,b3.same aae,λk1 w3 kc jO dz=>?_⟩;have z3:=dz.size;have z0:=cO.size;refine⟨λkv i u=>i=0/\u=w3,0,⟨rfl,rfl⟩,?_⟩;rintro kv _ u ⟨rfl,hu⟩;obtain rfl:w3=u:=hu.symm;refine⟨λhc=>absurd (aP hc) (by show ¬(0:Int)<((0:Nat):Int);omega),λ_ hB _=>⟨⟨k1,_,_,rfl,aG,jO,hB⟩,((cO.cr a3).cr b3).cr dz⟩⟩
section
variable {w:ay} {F G:aL} {s si sd sr sa:Sl} {p:Pl} {act:List Int} {b:Nat} {ty:TypeId}
theorem Ip{ro:List Ro}(h:aD ZA 7 w F sr ro){i:Nat}{x:Ro}(hx:ro[i]? =some x):∃ad tg,dE sr (i:Int) 7 ad/\aE w ad [O ae x.src,O ae x.slot,O ae x.k,ah (T x.ev),O ae x.wt,tg.v,O ae x.dom]/\aD rInt 1 w F tg x.tg:=by
 have bT:=(aZ.1 hx).1;have hl:=h.len;obtain⟨ad,y,cs,g1,g2,g3,g4,g5,tg,rfl,g6⟩:=h.get (bD i) aG;rw[aU,hx]at g2;injection g2 with g2;subst g2;exact⟨ad,tg,g1,g5,g6⟩
theorem Iq{x0 x1 x2 x4 x5:az}{ro:List Ro}(hB:aH w b ty [x0,x1,x2,sr.v,x4,x5])(h:aD ZA 7 w F sr ro)(k:Int):aB au 44 #[ai (some ⟨b,0,none⟩),O ae k] w λe w'=>
  (∃(a1 a2 a3:Int) (ev:aM) (wt:Int) (tg:Sl) (dom:Int) (is:Bool),e=aq (ak #[aj #[O ae a1,O ae a2,O ae a3,ah ev,O ae wt,tg.v,O ae dom],ao is])/\(is=true->∃(n:Nat) (r:Ro),k=n/\ro[n]? =some r/\0<=r.dom/\dom=r.dom/\aD rInt 1 w' F tg r.tg)/\(is=false->∀(n:Nat) (r:Ro),k=n->ro[n]? =some r->r.dom<0))/\aA [] w w':=by
 refine(anm ⟨b,0,none⟩ k (λv w'=>(∃(a1 a2 a3:Int) (ev:aM) (wt:Int) (tg:Sl) (dom:Int) (is:Bool),v=ak #[aj #[O ae a1,O ae a2,O ae a3,ah ev,O ae wt,tg.v,O ae dom],ao is]/\(is=true->∃(n:Nat) (r:Ro),k=n/\ro[n]? =some r/\0<=r.dom/\dom=r.dom/\aD rInt 1 w' F tg r.tg)/\(is=false->∀(n:Nat) (r:Ro),k=n->ro[n]? =some r->r.dom<0))/\aA [] w w') w ?_).mono (by rintro _ w' ⟨v,rfl,⟨a1,a2,a3,ev,wt,tg,dom,is,rfl,h⟩,h'⟩;exact⟨⟨a1,a2,a3,ev,wt,tg,dom,is,rfl,h⟩,h'⟩);intro k0 w0 gU fD cO;have z0:=cO.size;have sF:=cO.blk hB aac;have h0:aD ZA 7 w0 F sr ro:=SliceF.only gP aN h cO aac;have hl:=h0.len;have ow:∀{u:ay},aA [k0] w0 u->aA [] w u:=λhO=>cO.trans hO λx hx=>.inr aaj;by_cases QF:0<=k/\k<ro.length
 ·obtain⟨n,rfl⟩:∃n:Nat,k=n:=⟨k.toNat,aG⟩
  obtain⟨r,hr⟩:∃r,ro[n]? =some r:=⟨_,aQ aG⟩
  obtain⟨ad,tg,a1,a2,a3⟩:=Ip ((SliceF.inHeap gP h aN).keep gP aN λk _ bT=>cO.block k bT aac) hr;have e1:decide ((n:Int)<0)=false:=bI aG;have e2:decide ((n:Int)>=((sr.n:Nat):Int))=false:=bI aG;refine⟨sr,λ_=>Blk.eh sF 3 rfl,sr,λ_=>Blk.eh sF 3 rfl,ad,λ_=>a1,r.dom,λ_=>a2.eh 6 _ rfl,λhc w1 cG=>⟨⟨0,0,0,_,0,Sl.nil,0,false,rfl,λh=>aal,λ_ m r' hm N0=>?_⟩,ow cG⟩,λhc=>⟨sr,Blk.eh sF 3 rfl,ad,a1,_,_,_,_,_,tg,_,a2,λw2 dk=>⟨⟨_,_,_,_,_,tg,_,true,rfl,λ_=>⟨n,r,rfl,hr,?_,rfl,?_⟩,λh=>aal⟩,ow dk⟩⟩⟩
  ·have:m=n:=aG
   subst this;rw[hr,be]at N0;subst N0;rw[e1,e2,nA,nA]at hc;exact aP hc
  ·rw[e1,e2,nA,nA]at hc;have:=aX hc;omega
  exact(SliceF.only bF aN a3 dk λk hk _ hm=>by simp only[aO]at hm;omega).mono bF λk hk=>hk.1
 have QD:((decide (k<0))||(decide (k>=(sr.n:Int))))=true:=by
  rw[bU,bX,bX];omega
 have no:∀{q:Prop},((decide (k<0))||(decide (k>=(sr.n:Int))))=false->q:=λh=>by rw[QD]at h;cases h
 refine⟨sr,λ_=>Blk.eh sF 3 rfl,sr,λh=>no h,⟨0,0,none⟩,λh=>no h,0,λh=>no h,λhc w1 cG=>⟨⟨0,0,0,_,0,Sl.nil,0,false,rfl,λh=>aal,λ_ m r' hm N0=>?_⟩,ow cG⟩,λhc=>?_⟩
 ·have:=(aZ.1 N0).1;omega
 rw[QD,Bool.true_or]at hc;cases hc
theorem FD(hP:PlR w F s si sd sr p)(zZ:Fo p.sp)(ha:aD rInt 1 w G sa act)(hm:act.length<=2000000)(k:Int):aB au 15 #[aj #[s.v,si.v,sd.v,sr.v],sa.v,O ae k] w λe w'=>(∃t:Sl,e=aq t.v/\dd w.heap.size w' t (fH p.sp p.ro act k))/\aA [] w w':=by
 refine(ane s si sd sr sa k (λv w'=>(∃t:Sl,v=t.v/\dd w.heap.size w' t (fH p.sp p.ro act k))/\aA [] w w') w ?_).mono aaT;intro k0 w0 gU fD cO;have z0:=cO.size;refine(TF w0 s si sd sr).mono ?_;rintro _ w1 ⟨⟨b,m0,m1,rfl,hb,jL,hB⟩,cG⟩;have z1:=cG.size;have o1:=cO.cr cG;refine⟨_,rfl,cG.same aae,(Iq hB (SliceF.only gP aN hP.ro o1 aac) k).mono ?_⟩;rintro _ w2 ⟨⟨a1,a2,a3,ev,wt,tg,dom,is,rfl,his,PB⟩,dk⟩;have z2:=dk.size;have o2:=o1.cr dk;refine⟨a1,a2,a3,ev,wt,tg,dom,is,rfl,dk.same aae,λk1 k2 w3 kc jO vf xh dz=>?_⟩;have z3:=dz.size;have o3:=o2.cr dz;refine(Fx (kI ha o3) aG).mono ?_;rintro _ w4 ⟨t,rfl,N2,dK⟩;have z4:=dK.size;have o4:=o3.cr dK;have lz:∀{q:Nat},t.a=some ⟨q,0,none⟩->w3.heap.size<=q:=λe=>(N2.blk e).1;refine⟨t,rfl,dK.same aae,λsF u7 pF=>?_⟩;have xx:aD nN 5 w4 (λk=>F k/\k<w.heap.size) s p.sp:=SliceF.only db aN (SliceF.inHeap db hP.sp aN) o4 aac;refine(rK (f:=⟨.func (.func 47) #[] #[ai (some ⟨k2,0,none⟩),ai (some ⟨k0,0,none⟩),ai (some ⟨k1,0,none⟩)],rfl⟩) N2 hm ⟨eU (by kernel_rfl),λy hy u hO=>?_⟩ (p:=λy=>!(is&&jq p.sp y dom)) (cap:=[ai (some ⟨k2,0,none⟩),ai (some ⟨k0,0,none⟩),ai (some ⟨k1,0,none⟩)]) rfl).mono ?_
 ·have nk:∀q,q<w3.heap.size->¬(t.a=some ⟨q,0,none⟩):=λq hq e=>aa5
  have hu:=xx.keep db aN λq hq bT=>hO.block q bT (nk q aG);have c0:=hO.blk sF (nk k0 aG);have c1:=hO.blk u7 (nk k1 aG);have c2:=hO.blk pF (nk k2 aG);refine(ann y ⟨k2,0,none⟩ ⟨k0,0,none⟩ ⟨k1,0,none⟩ (λv w'=>v=ao (!(is&&jq p.sp y dom))/\aA [] u w') u ?_).mono aav;refine⟨λc u'=>c=(!(is&&jq p.sp y dom))/\aA [] u u',?_,is,c2.cells 0 _ aac,λhc=>⟨?_,Only.refl _ _⟩,λhc=>⟨s,Blk.eh c0 0 rfl,dom,Blk.eh c1 6 rfl,(uo hu zZ y dom).mono ?_⟩⟩
  ·rintro c u' ⟨rfl,h⟩;exact⟨rfl,h⟩
  ·have:is=false:=aai
   rw[this];rfl
  have:is=true:=aai
  rintro _ u' ⟨rfl,hu'⟩;obtain rfl:u=u':=hu'.symm;refine⟨_,rfl,?_,Only.refl _ _⟩;rw[Kp,this,cT]
 rintro _ w5 ⟨s2,rfl,UX,_,Gx,eJ⟩;have nk:∀q,q<w3.heap.size->¬(t.a=some ⟨q,0,none⟩):=λq hq e=>aa5
 refine⟨s2,rfl,s,si,sd,sr,eJ.blk sF (nk k0 aG),_,_,_,_,_,tg,_,eJ.blk u7 (nk k1 aG),_,eJ.blk pF (nk k2 aG),⟨s2,rfl,?_⟩,(o4.mZ (eJ.mono (G:=λq=>w.heap.size<=q) λq _ e=>aa5)).only λq hq=>hq⟩;have e:fH p.sp p.ro act k=act.filter λx=>!(λy=>!(is&&jq p.sp y dom)) x:=by
  have e2:(act.filter λx=>!(λy=>!(is&&jq p.sp y dom)) x)=act.filter λx=>is&&jq p.sp x dom:=by
   congr 1;funext x;show(!!_)=_;rw[kE]
  rw[e2];cases is with
  | true=>
   obtain⟨n,r,hn,hr,h0,hd,_⟩:=his rfl;unfold fH;rw[hn,aY aG,aU,hr];dsimp only;rw[aY aG,hd];rfl
  | false=>
   have hz:(act.filter λx=>false&&jq p.sp x dom)=[]:=by
    rw[List.filter_eq_nil_iff];intro x _ h;cases h
   rw[hz];unfold fH;split
   ·rfl
   rename_i h;split
   ·rename_i r hr;rw[bc];exact PB rfl k.toNat r aG hr
   rfl
 rw[e];exact Own.low Gx aG
theorem Xl(hP:PlR w F s si sd sr p)(zZ:Fo p.sp)(ha:aD rInt 1 w G sa act)(hm:act.length<=2000000)(i j:Int):aB au 50 #[aj #[s.v,si.v,sd.v,sr.v],sa.v,O ae i,O ae j] w λe w'=>e=aq (ao (gF p.sp p.ro act i j))/\aA [] w w':=by
 refine ret (v7w _ _ _ _ _ _ _ _ _ ?_);intro k0 w0 gU fD cO;have z0:=cO.size;have hel:∀q,(fH p.sp p.ro act q).length<=2000000:=λq=>by
  unfold fH;split
  ·exact bh _
  split
  ·split
   ·exact bh _
   exact bf (cu _ _) hm
  exact bh _
 refine(FD (hP.o0 cO) zZ (kI ha cO) hm i).mono ?_;rintro _ w1 ⟨⟨t1,rfl,h1⟩,cG⟩;have z1:=cG.size;have o1:=cO.cr cG;refine⟨t1,rfl,cG.same aae,λk1 w2 kc jO dk=>?_⟩;have z2:=dk.size;have o2:=o1.cr dk;refine(FD (hP.o0 o2) zZ (kI ha o2) hm j).mono ?_;rintro _ w3 ⟨⟨t2,rfl,h2⟩,dz⟩;have z3:=dz.size;have o3:=o2.cr dz;refine⟨t2,rfl,dz.same aae,λhB gq=>?_⟩;have vI:aD rInt 1 w3 _ t1 (fH p.sp p.ro act i):=kI (kI (h1.slice bF) dk) dz;refine(aca (f:=⟨.func (.func 85) #[] #[ai (some ⟨k1,0,none⟩)],rfl⟩) (h2.slice bF) (hel j) ⟨eU (by kernel_rfl),λy hy u hO=>?_⟩ (p:=λn=>decide (n∈fH p.sp p.ro act i)) (cap:=[ai (some ⟨k1,0,none⟩)]) rfl).mono ?_
 ·have IY:aA [] w3 u:=hO.only λk h=>h.elim;refine(v6w y ⟨k1,0,none⟩ (λv w'=>v=ao (decide (y∈fH p.sp p.ro act i))/\aA [] u w') u ?_).mono aav;refine⟨t1,(IY.blk hB aac).cells 0 _ aac,(mV (kI vI IY) y).mono ?_⟩;rintro _ u' ⟨rfl,arl⟩;exact⟨_,rfl,rfl,arl⟩
 rintro _ w4 ⟨rfl,dK⟩;exact⟨_,rfl,dK.same aae,t1,dK.blk hB aac,rfl,o3.cr dK⟩
end
end Go.Proofs.YtpbgcbdclnfpnaaGreatDoor.Con
namespace Go.Kt
open Go Go.RowKit Go.MapKept
theorem yf{α:Type}[DecidableEq α]:∀{V L:List α},V.Nodup->(∀x,x∈V->x∈L)->V.length<=L.length
 | [],_,_,_=>bh _
 | x::V,L,h,hs=>by
  obtain⟨h1,h2⟩:=kV.1 h;have hx:=hs x (.head _);have:=yf (L:=L.erase x) h2 λy hy=>(List.mem_erase_of_ne λe=>h1 (by rw[<-e];exact hy)).2 (hs y (.tail _ hy));rw[List.length_erase_of_mem hx]at this;have:=gz.2 (od hx);rw[bn];omega
theorem Pc{w w1:ay}{b:Nat}{o:Obj}(h:w1=w∨w1=w.drew):Only [b] w (Go.ChangeMaps.setBlock w1 b o):=by
 rcases h with rfl | rfl
 ·exact⟨rfl,rfl,rfl,by simp[Go.ChangeMaps.setBlock],λk hk hn=>by
   show(w1.heap.setIfInBounds b o)[k]? =_;rw[gK (by simpa using λe=>hn (by simp[e]))]⟩
 exact⟨rfl,rfl,rfl,by show w.heap.size<=(w.heap.setIfInBounds b o).size;simp,λk hk hn=>by
  show(w.heap.setIfInBounds b o)[k]? =_;rw[gK (by simpa using λe=>hn (by simp[e]))]⟩
section
variable {κ:Type} {d:TypeDesc} {kv:κ->az} {g:κ->Prop} {P:Program} {w w':ay} {b r n:Nat} {m:κ->Option az} {V:List κ} {mty kt et:TypeId}
structure ItV (kv:κ->az) (g:κ->Prop) (w:ay) (b r:Nat) (m:κ->Option az) (n:Nat) (V:List κ):Prop where
 mem:∃es clock seen c0,w.heap[b]? =some (.mapIter (some r) clock seen c0)/\w.heap[r]? =some (.map es clock)/\Stamped es clock/\clock<=c0/\es.size<=n/\(∀x,x∈es.toList->∃k,x.key=kv k/\g k)/\
  (∀k v,m k=some v↔∃x,x∈es.toList/\x.key=kv k/\x.val=v)/\V.Nodup/\∀k,k∈V↔∃x,x∈es.toList/\x.key=kv k/\seen.contains x.born=true
theorem ItV.keep(h:ItV kv g w b r m n V)(hb:w'.heap[b]? =w.heap[b]?)(hr:w'.heap[r]? =w.heap[r]?):ItV kv g w' b r m n V:=by
 obtain⟨es,c,s,c0,h1,h2,h3⟩:=h.mem;exact⟨es,c,s,c0,hb.trans h1,hr.trans h2,h3⟩
theorem ItV.lt(h:ItV kv g w b r m n V):b<w.heap.size/\r<w.heap.size:=by
 obtain⟨es,c,s,c0,h1,h2,h3⟩:=h.mem;exact⟨(gr.1 h1).1,(gr.1 h2).1⟩
theorem ItV.only(h:ItV kv g w b r m n V){bs}(hO:Only bs w w')(hb:b∉bs)(hr:r∉bs):ItV kv g w' b r m n V:=h.keep (hO.block b h.lt.1 hb) (hO.block r h.lt.2 hr)
theorem ItV.len(K:CP d kv g)(h:ItV kv g w b r m n V):V.length<=n:=by
 obtain⟨es,c,s,c0,h1,h2,h3,h4,h5,h6,h7,h8,h9⟩:=h.mem;have hn:(V.map kv).Nodup:=(oY.2 (h8.imp λgq e=>gq (K.inj e)))
 have:=@yf az (Classical.typeDecidableEq _) (V.map kv) (es.toList.map (·.key)) hn λx hx=>by
  obtain⟨k,hk,rfl⟩:=cQ.1 hx;obtain⟨e,he,e1,_⟩:=(h9 k).1 hk;exact cQ.2 ⟨e,he,e1⟩
 have e:=fA (xs:=es);simp only[bA]at this;omega
theorem MapV.range(hm:P.underlying mty=some (.map kt et))(h:MapV kv g w r m n):
  ∃w',(Instr.range mty (.map (some r))).run P w=.ok (.pointer (some ⟨w.heap.size,0,none⟩)) w'/\ItV kv g w' w.heap.size r m n []/\Only [] w w'/\w'.heap.size=w.heap.size+1:=by
 obtain⟨es,c,h1,h0,hn,h2,h4⟩:=h.mem;refine⟨_,run_range_map w mty kt et r es c hm h1,⟨es,c,#[],c,(MapKept.heap_alloc w _).1,((MapKept.heap_alloc w _).2 r h.lt).trans h1,h0,ba _,hn,h2,h4,List.nodup_nil,λk=>?_⟩,Only.alloc _ _,aac⟩;constructor
 ·intro h;cases h
 rintro⟨x,_,_,h⟩;simp at h
theorem ItV.next(K:CP d kv g)(h:ItV kv g w b r m n V)(ty:TypeId):
  ((∀k,(m k).isSome=true->k∈V)/\(Instr.next (.pointer (some ⟨b,0,none⟩)) false ty).run P w=.ok (.tuple #[.bool false]) w)∨
  ∃k v w1,m k=some v/\g k/\k∉V/\(Instr.next (.pointer (some ⟨b,0,none⟩)) false ty).run P w=.ok (.tuple #[.bool true,kv k,v]) w1/\(Instr.entry (.pointer (some ⟨b,0,none⟩))).run P w1=.ok (.tuple #[kv k,v]) w1/\ItV kv g w1 b r m n (k::V)/\Only [b] w w1:=by
 obtain⟨es,c,s,c0,h1,h2,h3,h4,h5,h6,h7,h8,h9⟩:=h.mem;obtain⟨Gp,vF,TV⟩:=h3;have hbr:b≠r:=λe=>by rw[e,h2]at h1;cases h1
 rcases run_next_at (P:=P) w ty b r c c0 s es c h1 h2 (λx hx=>Gp x hx) h4 with⟨hz,hn⟩ | ⟨e,he,w2,hw2,hn⟩
 ·refine .inl ⟨λk hk=>?_,hn⟩;obtain⟨v,hv⟩:=dU.1 hk;obtain⟨x,hx,e1,_⟩:=(h7 k v).1 hv;refine(h9 k).2 ⟨x,hx,e1,?_⟩;cases hs:s.contains x.born with
  | true=>rfl
  | false=>
   have:x∈(leftOf es s).toList:=by
    unfold leftOf;rw[Array.toList_filter];exact di.2 ⟨hx,by rw[hs];rfl⟩
   have X5:(leftOf es s).toList=[]:=bR (by rw[fA];exact hz);rw[X5]at this;cases this
 have he':=he;unfold leftOf at he';rw[Array.toList_filter]at he';obtain⟨he1,he2⟩:=di.1 he';have he2:s.contains e.born=false:=by simpa using he2
 obtain⟨k,e1,hg⟩:=h6 e he1;have hO:=Pc (b:=b) (o:=.mapIter (some r) c (s.push e.born) c) hw2;have tV:(Go.ChangeMaps.setBlock w2 b (.mapIter (some r) c (s.push e.born) c)).heap[b]? =some (.mapIter (some r) c (s.push e.born) c):=by
  have bT:b<w2.heap.size:=by
   rcases hw2 with rfl | rfl<;>exact h.lt.1
  show(w2.heap.setIfInBounds b _)[b]? =_;rw[Array.getElem?_setIfInBounds_self_of_lt bT]
 have KR:=(hO.block r h.lt.2 (by simpa using λe=>hbr e.symm)).trans h2;have U8:∀x,x∈es.toList->x.key=kv k->x=e:=λx hx hk=>by
  have hp:=oY.1 TV;by_cases PE:x=e
  ·exact PE
  exfalso;have two:∀{l:List MapEntry} {a b:MapEntry},l.Pairwise (λx y=>x.key≠y.key)->a∈l->b∈l->a≠b->a.key≠b.key:=fun{l}=>by
   induction l with
   | nil=>exact λ_ h=>aal
   | cons y l ih=>
    intro a b hp ha hb hn;obtain⟨p1,p2⟩:=dG.1 hp;rcases aV.1 ha with rfl | P6<;>rcases aV.1 hb with rfl | pD
    ·exact absurd rfl hn
    ·exact p1 b pD
    ·exact λe=>p1 a P6 e.symm
    exact ih p2 P6 pD hn
  exact two hp hx he1 PE (by rw[hk,e1])
 have hkV:k∉V:=λhk=>by
  obtain⟨x,hx,e2,e3⟩:=(h9 k).1 hk;rw[U8 x hx e2,he2]at e3;cases e3
 refine .inr ⟨k,e.val,_,(h7 k e.val).2 ⟨e,he1,e1,rfl⟩,hg,hkV,by rw[hn,e1],?_,⟨es,c,s.push e.born,c,tV,KR,⟨Gp,vF,TV⟩,ba _,h5,h6,h7,kV.2 ⟨hkV,h8⟩,λl=>?_⟩,hO⟩
 ·rw[<-e1];exact run_entry_at (P:=P) _ b r c s es c e tV KR he1 vF
 have hp:∀y:MapEntry,(s.push e.born).contains y.born=(s.contains y.born||y.born==e.born):=λy=>contains_push s e.born y.born;constructor
 ·intro hl;rcases aV.1 hl with rfl | hl
  ·exact⟨e,he1,e1,by rw[hp];simp⟩
  obtain⟨x,hx,e2,e3⟩:=(h9 l).1 hl;exact⟨x,hx,e2,by rw[hp,e3];rfl⟩
 rintro⟨x,hx,e2,e3⟩;rw[hp,bU]at e3;rcases e3 with e3 | e3
 ·exact .tail _ ((h9 l).2 ⟨x,hx,e2,e3⟩)
 have hb:x.born=e.born:=by simpa using e3
 have:x=e:=by
  have two:∀{l:List MapEntry} {a b:MapEntry},(l.map (·.born)).Nodup->a∈l->b∈l->a.born=b.born->a=b:=fun{l}=>by
   induction l with
   | nil=>exact λ_ h=>aal
   | cons y l ih=>
    intro a b hp ha hb he;obtain⟨p1,p2⟩:=kV.1 hp;rcases aV.1 ha with rfl | P6<;>rcases aV.1 hb with rfl | pD
    ·rfl
    ·exact absurd (cQ.2 ⟨b,pD,he.symm⟩) p1
    ·exact absurd (cQ.2 ⟨a,P6,he⟩) p1
    exact ih p2 P6 pD he
  exact two vF hx he1 hb
 subst this;have:l=k:=K.inj (e2.symm.trans e1);subst this;exact .head _
end
abbrev gI(k:Int):Prop:=0<=k/\k<64
theorem yg:CP (.int .i64) kN gI:=⟨λ_=>rfl,λh=>aaA⟩
theorem MapV.Pw{w:ay}{r n:Nat}{m:Int->Option az}(h:MapV kN gI w r m n):MapV kN gI w r m 64:=by
 obtain⟨es,c,h1,h0,hn,h2,h4⟩:=h.mem;refine⟨es,c,h1,h0,?_,h2,h4⟩;have:=@yf az (Classical.typeDecidableEq _) (es.toList.map (·.key)) ((List.range 64).map λi:Nat=>kN (i:Int)) h0.2.2 λx hx=>by
  obtain⟨e,he,rfl⟩:=cQ.1 hx;obtain⟨k,e1,e2,e3⟩:=h2 e he;refine cQ.2 ⟨k.toNat,jb.2 aG,?_⟩;show kN ((k.toNat:Nat):Int)=e.key;rw[e1,jV e2]
 simpa using this
section
variable {P:Program} {w:ay} {r n:Nat} {m:Int->Option az} {kt:TypeId}
theorem MapV.ahZ(hk:P.underlying kt=some (.int .i64))(h:MapV kN gI w r m n)(hn:n<=maxLen):∃D:DataW Nat,World.ownsMap w P kt (λ_=>some (.nil,[])) r n D/\Go.Maps.size D<=n/\(Go.intKeys D).Nodup/\∀k,k∈Go.intKeys D↔(m k).isSome=true:=by
 obtain⟨es,c,h1,h0,hs,h2,h4⟩:=h.mem;have hwf:∀{k:Int},gI k->(Lit.int .i64 k).wf=true:=fun{k} hg=>by
  have h1:=hg.1;have h2:=hg.2;simp[Lit.wf,IntKind.min,IntKind.max,IntKind.signed,IntKind.bits];omega
 have arp:∀x,x∈es.toList->∃k,x.key=kN k/\keyOf P kt x.key=some (.int .i64 k):=λx hx=>by
  obtain⟨k,e,hg⟩:=h2 x hx;rw[e];exact⟨k,rfl,by simp[keyOf,hk,mapKey,kN,hwf hg]⟩
 have hrd:∀x,x∈es.toList->∃k,x.key=kN k/\Go.WideElems.rd P kt (H:=Nat) (λ_=>some (.nil,[])) x=some (.int .i64 k,.nil):=λx hx=>by
  obtain⟨k,e,h⟩:=arp x hx;exact⟨k,e,by simp[Go.WideElems.rd,h]⟩
 have hp:(Go.intKeys (.map ((es.toList.map (Go.WideElems.rg P kt (H:=Nat) λ_=>some (.nil,[]))).foldr DataW.insert []))).Perm (es.toList.map λx=>Go.intOf (Go.WideElems.rg P kt (H:=Nat) (λ_=>some (.nil,[])) x).1):=by
  have:=(Go.WideShapes.sorted_perm (es.toList.map (Go.WideElems.rg P kt (H:=Nat) λ_=>some (.nil,[])))).map λp=>Go.intOf p.1;rw[iK]at this;exact this
 refine⟨_,⟨es,c,h1,⟨bf hs hn,h0,λx hx=>?_⟩,hs,rfl⟩,?_,?_,?_⟩
 ·obtain⟨k,_,e⟩:=hrd x hx;exact⟨_,e⟩
 ·rw[Go.Maps.size_eq,(Go.WideShapes.sorted_perm _).length_eq];simpa using hs
 ·rw[hp.nodup_iff];refine oY.2 (((stamped_iff _ _).1 h0).2.2.imp_of_mem ?_);intro x y hx hy hxy he;obtain⟨k,e1,e2⟩:=hrd x hx;obtain⟨l,e3,e4⟩:=hrd y hy;rw[Go.WideElems.rg_of e2,Go.WideElems.rg_of e4]at he;simp[Go.intOf]at he;exact hxy (by rw[e1,e3,he])
 intro k;rw[hp.mem_iff,cQ];constructor
 ·rintro⟨x,hx,e⟩;obtain⟨l,e1,e2⟩:=hrd x hx;rw[Go.WideElems.rg_of e2]at e;simp[Go.intOf]at e;subst e;rw[(h4 l x.val).2 ⟨x,hx,e1,rfl⟩];rfl
 intro hs;obtain⟨v,hv⟩:=dU.1 hs;obtain⟨x,hx,e1,_⟩:=(h4 k v).1 hv;obtain⟨l,e2,e3⟩:=hrd x hx;refine⟨x,hx,?_⟩;rw[Go.WideElems.rg_of e3];exact yg.inj (e2.symm.trans e1)
theorem Kq{L ss:List Int}(hL:L.Pairwise (· <·))(hs:ss.Nodup)(he:∀k,k∈ss↔k∈L):ss.mergeSort (λx y=>decide (x<=y))=L:=by
 rw[Go.mergeSort_of_perm_i ((List.perm_ext_iff_of_nodup hs (hL.imp λh e=>by subst e;exact absurd h aG)).2 he)];refine List.mergeSort_of_pairwise (hL.imp λh=>?_);simp;omega
end
end Go.Kt
namespace Go.Proofs.YtpbgcbdclnfpnaaGreatDoor.Con
open Go Go.RowKit Go.Kt Go.Kt.V Go.Proofs.YtpbgcbdclnfpnaaGreatDoor.Vc
abbrev mB(p:Int->Bool):Int->Option az:=λk=>if p k=true then some (ao true)else none
abbrev jt(w:ay)(r:Nat)(p:Int->Bool):Prop:=MapV kN gI w r (mB p) 64
theorem jt.at{w:ay}{r:Nat}{p:Int->Bool}(h:jt w r p)(k:Int):(Instr.lookup 74 (.map (some r)) (O ae k) false).run au w=.ok (ao (p k)) w:=by
 have:=h.lookup (P:=au) (mty:=74) (kt:=3) (et:=4) (z:=ao false) yg (by kernel_rfl) (by kernel_rfl) (λw=>Tryz.zeroValue4 w) k;refine Eq.trans this ?_;dsimp only[mB];cases p k<;>rfl
theorem jt.of{w:ay}{r:Nat}{p q:Int->Bool}(h:jt w r p)(he:∀k,p k=q k):jt w r q:=h.ext λk=>by
 dsimp only[mB];rw[he]
theorem jt.ok{w:ay}{r:Nat}{p:Int->Bool}(h:jt w r p){k:Int}(hk:p k=true):gI k:=MapV.ok h yg (k:=k) (by dsimp only[mB];rw[bc hk];simp)
theorem BS{w:ay}{r:Nat}{p:Int->Bool}{s:Sl}{l:List Int}{F:aL}(h:jt w r p)(hs:aD rInt 1 w F s l)(hr:¬F r)(hg:∀x,x∈l->gI x):aB au 24 #[.map (some r),s.v] w λe w'=>e=aq (ak #[])/\jt w' r (λk=>p k||decide (k∈l))/\aA [r] w w':=by
 refine(anB (some r) s (λv w'=>v=ak #[]/\jt w' r (λk=>p k||decide (k∈l))/\aA [r] w w') w ?_).mono aav;have hn:=hs.len;have hc:=hs.cap;have hb:=hs.big;refine⟨λkv i u=>∃j:Nat,i=(j:Int)/\kv+j=l.length/\j<=l.length/\jt u r (λk=>p k||decide (k∈l.take j))/\aA [r] w u,l.length,⟨0,rfl,aG,bh _,h.of λk=>aac,Only.refl _ _⟩,?_⟩;rintro kv _ w1 ⟨j,rfl,sJ,hj,hS,hO⟩;refine⟨λhc=>?_,λhc=>?_⟩
 ·have hc:=aP hc;have iA:j<l.length:=aG
  have vL:aD rInt 1 w1 F s l:=SliceF.only bF aN hs hO λk hk _ hm=>by
   simp only[aO]at hm;exact hr acZ
  obtain⟨ad,a1,a2⟩:=gD vL (aQ iA);obtain⟨w2,b1,b2,b3⟩:=MapV.update (P:=au) (mty:=74) (kt:=3) (et:=4) yg (by kernel_rfl) (by kernel_rfl) hS (hg _ (dZ iA)) (ao true);refine⟨ad,a1,_,a2,w2,b1,kv-1,aG,j+1,aad,aG,aG,(MapV.Pw b2).ext λk=>?_,hO.trans b3 λx hx=>.inl hx⟩;dsimp only[mB];have nt:l.take (j+1)=l.take j++[l[j]]:=acT
  by_cases hk:k=l[j]
  ·rw[bc hk,bc];rw[bU,bX];exact .inr (by rw[nt,hk];exact List.mem_append_right _ (aO.2 rfl))
  rw[aY hk];congr 2;rw[nt];congr 1;rw[ga,bN,aO];exact⟨λh=>h.resolve_right hk,.inl⟩
 have hc:=aX hc;have iA:j=l.length:=aG
 subst iA;rw[qY]at hS;exact⟨rfl,hS,hO⟩
def Ir:Rp (Int×List Int):=λw F x cs=>∃t:Sl,cs=[O ae x.1,t.v]/\aD rInt 1 w F t x.2
theorem nr:Ir.Ok where
 keep:=by
  rintro w w' F x cs ⟨d,h1,h2⟩ hk;exact⟨d,h1,h2.keep bF aN hk⟩
 inHeap:=by
  rintro w F x cs ⟨d,h1,h2⟩;exact⟨d,h1,h2.inHeap bF aN⟩
 mono:=by
  rintro w F G x cs ⟨d,h1,h2⟩ hk;exact⟨d,h1,h2.mono bF hk⟩
 one:=by
  rintro w F x cs ⟨d,rfl,_⟩ v hv;simp only[aV,bp,cm]at hv;rcases hv with rfl | rfl<;>rfl
theorem ahI{w:ay}{F:aL}{sp:Sl}{L:List (Int×List Int)}(h:aD Ir 2 w F sp L){i:Nat}{x:Int×List Int}(hx:L[i]? =some x):∃ad,∃t:Sl,dE sp (i:Int) 2 ad/\aE w ad [O ae x.1,t.v]/\aD rInt 1 w F t x.2:=by
 have bT:=(aZ.1 hx).1;have hl:=h.len;obtain⟨ad,y,cs,g1,g2,g3,g4,g5,tg,rfl,g6⟩:=h.get (bD i) aG;rw[aU,hx]at g2;injection g2 with g2;subst g2;exact⟨ad,tg,g1,g5,g6⟩
def iX(l:List (Int×List Int)):ye:=l.foldl (λM x=>λk=>if k=x.1 then some x.2 else M k) λ_=>none
structure PastV (w:ay) (F:aL) (r:Nat) (M:ye):Prop where
 ex:∃m,MapV kN gI w r m 64/\(∀k,M k=none->m k=none)/\∀k l,M k=some l->∃s:Sl,m k=some s.v/\aD rInt 1 w F s l
section
variable {w w':ay} {F:aL} {r:Nat} {M:ye}
theorem PastV.only(h:PastV w F r M){bs}(hO:aA bs w w')(hr:r∉bs)(hb:∀k,F k->k<w.heap.size->k∉bs):PastV w' F r M:=by
 obtain⟨m,h1,h2,h3⟩:=h.ex;refine⟨m,MapV.only h1 hO hr,h2,λk l hl=>?_⟩;obtain⟨s,e,hs⟩:=h3 k l hl;exact⟨s,e,SliceF.only bF aN hs hO hb⟩
theorem PastV.o0(h:PastV w F r M)(hO:aA [] w w'):PastV w' F r M:=h.only hO aac aac
theorem PastV.mono{G:aL}(h:PastV w F r M)(hk:∀k,F k->G k):PastV w G r M:=by
 obtain⟨m,h1,h2,h3⟩:=h.ex;refine⟨m,h1,h2,λk l hl=>?_⟩;obtain⟨s,e,hs⟩:=h3 k l hl;exact⟨s,e,hs.mono bF hk⟩
theorem PastV.at(h:PastV w F r M)(k:Int):∃s:Sl,(Instr.lookup 72 (.map (some r)) (O ae k) true).run au w=.ok (ak #[s.v,ao (M k).isSome]) w/\∀l,M k=some l->aD rInt 1 w F s l:=by
 obtain⟨m,h1,h2,h3⟩:=h.ex;have:=h1.NH (P:=au) (mty:=72) (kt:=3) (et:=33) (z:=Sl.nil.v) yg (by kernel_rfl) (by kernel_rfl) (λw=>Tryz.zeroValue33 w) k;cases hm:M k with
 | none=>
  rw[h2 k hm]at this;exact⟨Sl.nil,this,λl h=>aal⟩
 | some l=>
  obtain⟨s,e,hs⟩:=h3 k l hm;rw[e]at this;refine⟨s,this,λl' h=>?_⟩;injection h with h;subst h;exact hs
theorem PastV.set(h:PastV w F r M){k:Int}(hg:gI k){s:Sl}{l:List Int}(hs:aD rInt 1 w F s l)(hr:¬F r):∃w',(Instr.mapUpdate 72 (.map (some r)) (O ae k) s.v).run au w=.ok () w'/\PastV w' F r (λx=>if x=k then some l else M x)/\aA [r] w w':=by
 obtain⟨m,h1,h2,h3⟩:=h.ex;obtain⟨w2,b1,b2,b3⟩:=MapV.update (P:=au) (mty:=72) (kt:=3) (et:=33) yg (by kernel_rfl) (by kernel_rfl) h1 hg s.v;have kp:∀{t:Sl} {q:List Int},aD rInt 1 w F t q->aD rInt 1 w2 F t q:=λht=>SliceF.only bF aN ht b3 λk hk _ hm=>by
  simp only[aO]at hm;exact hr acZ
 refine⟨w2,b1,⟨_,MapV.Pw b2,λx hx=>?_,λx q hx=>?_⟩,b3⟩
 ·by_cases e:x=k
  ·rw[bc e]at hx;cases hx
  rw[aY e]at hx⊢;exact h2 x hx
 by_cases e:x=k
 ·rw[bc e]at hx⊢;injection hx with hx;subst hx;exact⟨s,rfl,kp hs⟩
 rw[aY e]at hx⊢;obtain⟨t,e1,ht⟩:=h3 x q hx;exact⟨t,e1,kp ht⟩
theorem PastV.drop(h:PastV w F r M)(k:Int)(hr:¬F r):∃w',(Builtin.delete_ #[72,3] 0 #[.map (some r),O ae k]).run au w=.ok (ak #[]) w'/\PastV w' F r (λx=>if x=k then none else M x)/\aA [r] w w':=by
 obtain⟨m,h1,h2,h3⟩:=h.ex;obtain⟨w2,b1,b2,b3⟩:=MapV.delete (P:=au) (mty:=72) (kt:=3) (et:=33) yg (by kernel_rfl) (by kernel_rfl) h1 k 0;refine⟨w2,b1,⟨_,MapV.Pw b2,λx hx=>?_,λx q hx=>?_⟩,b3⟩
 ·by_cases e:x=k
  ·rw[bc e]
  rw[aY e]at hx⊢;exact h2 x hx
 by_cases e:x=k
 ·rw[bc e]at hx;cases hx
 rw[aY e]at hx⊢;obtain⟨t,e1,ht⟩:=h3 x q hx;exact⟨t,e1,SliceF.only bF aN ht b3 λk hk _ hm=>by
  simp only[aO]at hm;exact hr acZ⟩
end
abbrev Wk(w:ay)(b:Nat)(s si sd sr:Sl)(r0 r1:Nat):Prop:=aH w b 76 [s.v,si.v,sd.v,sr.v,.map (some r0),.map (some r1)]
theorem Ns(w:ay)(s si sd sr:Sl){sp:Sl}{F:aL}{L:List (Int×List Int)}(hL:aD Ir 2 w F sp L)(hg:∀x,x∈L->gI x.1):aB au 23 #[aj #[s.v,si.v,sd.v,sr.v],sp.v] w λe w'=>(∃b r0 r1:Nat,e=aq (ai (some ⟨b,0,none⟩))/\w.heap.size<=b/\b<w'.heap.size/\w.heap.size<=r0/\r0<r1/\r1<b/\Wk w' b s si sd sr r0 r1/\PastV w' (λk=>F k/\k<w.heap.size) r0 (iX L)/\jt w' r1 λ_=>false)/\aA [] w w':=by
 refine(ahe s si sd sr sp (λv w'=>(∃b r0 r1:Nat,v=ai (some ⟨b,0,none⟩)/\w.heap.size<=b/\b<w'.heap.size/\w.heap.size<=r0/\r0<r1/\r1<b/\Wk w' b s si sd sr r0 r1/\PastV w' (λk=>F k/\k<w.heap.size) r0 (iX L)/\jt w' r1 λ_=>false)/\aA [] w w') w ?_).mono (by rintro _ w' ⟨v,rfl,⟨b,r0,r1,rfl,h⟩,h'⟩;exact⟨⟨b,r0,r1,rfl,h⟩,h'⟩);intro k0 w0 gU fD cO;have z0:=cO.size;obtain⟨a1,a2,a3⟩:=MapV.make (P:=au) (mty:=72) (kv:=kN) (g:=gI) w0;have z1:=a3.size;have z1':(w0.alloc (.map #[] 0)).heap.size=w0.heap.size+1:=by show(w0.heap.push _).size=_;simp
 refine⟨_,_,a1,a3.same aae,?_⟩;obtain⟨b1,b2,b3⟩:=MapV.make (P:=au) (mty:=74) (kv:=kN) (g:=gI) (w0.alloc (.map #[] 0));have z2:=b3.size;have z2':((w0.alloc (.map #[] 0)).alloc (.map #[] 0)).heap.size=w0.heap.size+2:=by show((w0.alloc _).heap.push _).size=_;rw[Array.size_push,z1']
 generalize hw1:w0.alloc (.map #[] 0)=w1 at*
 generalize hw2:w1.alloc (.map #[] 0)=w2 at*
 refine⟨_,_,b1,b3.same aae,λk1 w3 kc jO dz=>?_⟩;have z3:=dz.size;have o3:aA [] w w3:=((cO.cr a3).cr b3).cr dz;have hn:=hL.len;have hc:=hL.cap;have hb:=hL.big;have hL3:aD Ir 2 w3 (λk=>F k/\k<w.heap.size) sp L:=SliceF.only nr aN (SliceF.inHeap nr hL aN) o3 aac;have P3:PastV w3 (λk=>F k/\k<w.heap.size) w0.heap.size λ_=>none:=⟨_,(MapV.only (MapV.only a2 b3 aac) dz aac).Pw,λ_ _=>rfl,λk l h=>aal⟩
 have S3:jt w3 w1.heap.size λ_=>false:=((MapV.only b2 dz aac).Pw).ext λk=>by dsimp only[mB];rw[aY aac]
 refine⟨λkv i u=>∃j:Nat,i=(j:Int)/\kv+j=L.length/\j<=L.length/\PastV u (λk=>F k/\k<w.heap.size) w0.heap.size (iX (L.take j))/\aA [w0.heap.size] w3 u,L.length,⟨0,rfl,aG,bh _,P3,Only.refl _ _⟩,?_⟩;rintro kv _ w4 ⟨j,rfl,sJ,hj,hP,dK⟩;have z4:=dK.size;refine⟨λhc=>?_,λhc hB gq=>?_⟩
 ·have hc:=aP hc;have iA:j<L.length:=aG
  have hL4:aD Ir 2 w4 (λk=>F k/\k<w.heap.size) sp L:=SliceF.only nr aN hL3 dK λk hk _ hm=>by
   simp only[aO]at hm;omega
  obtain⟨ad,t,c1,c2,c3⟩:=ahI hL4 (aQ iA);refine⟨ad,c1,_,t,c2,λk4 w5 zY CM eJ=>?_⟩;obtain⟨w6,d1,d2,d3⟩:=(hP.o0 eJ).set (hg _ (dZ iA)) (kI c3 eJ) aG;refine⟨w6,d1,d3.same aae,kv-1,aG,j+1,aad,aG,aG,?_,(dK.cr eJ).trans d3 λx hx=>.inl hx⟩;have nt:L.take (j+1)=L.take j++[L[j]]:=acT
  rw[nt];unfold iX;rw[kZ];exact d2
 have hc:=aX hc;have iA:j=L.length:=aG
 subst iA;rw[qY]at hP;refine⟨⟨k1,w0.heap.size,w1.heap.size,rfl,aG,aG,aG,aG,aG,hB,hP,MapV.only S3 dK aae⟩,?_⟩;have:=o3.trans dK (bs:=[]) λx hx=>.inr aaj;exact this
end Go.Proofs.YtpbgcbdclnfpnaaGreatDoor.Con
namespace Go.Proofs
open Go.Shelf
def Tryz.DX:Go.Shelf.Ren:=⟨λ| 7=>104 | 10=>152 | n=>n,λ| 23=>74 | 26=>3 | 3=>4 | 28=>174 | 0=>0 | 27=>173 | 33=>84 | 4=>4 | n=>n,λ| n=>n⟩
theorem Tryz.ZP:Go.Proofs.SlLaysZI.n7 Tryz.prog Tryz.DX:={
 mixed:=by kernel_rfl
 f7:=⟨Tryz.f104.name,aN,Tryz.func104.trans (bm some (by kernel_rfl))⟩
 f10:=⟨Tryz.f152.name,aN,Tryz.func152.trans (bm some (by kernel_rfl))⟩
 t0:=Tryz.underlying0
 a0:=Tryz.isAgg0
 z0:=Tryz.sizeOf0
 v0:=Tryz.zeroValue0
 t4:=Tryz.underlying4
 a4:=Tryz.isAgg4
 z4:=Tryz.sizeOf4
 v4:=Tryz.zeroValue4
 t23:=Tryz.underlying74
 a23:=Tryz.isAgg74
 z23:=Tryz.sizeOf74
 v23:=Tryz.zeroValue74
 t26:=Tryz.underlying3
 a26:=Tryz.isAgg3
 z26:=Tryz.sizeOf3
 v26:=Tryz.zeroValue3
 t27:=Tryz.underlying173
 a27:=Tryz.isAgg173
 z27:=Tryz.sizeOf173
 v27:=Tryz.zeroValue173
 t28:=Tryz.underlying174
 a28:=Tryz.isAgg174
 z28:=Tryz.sizeOf174
 v28:=Tryz.zeroValue174
 t33:=Tryz.underlying84
 a33:=Tryz.isAgg84
 z33:=Tryz.sizeOf84
 v33:=Tryz.zeroValue84}
def Tryz.yT:Go.Shelf.Ren:=⟨λ| 6=>103 | 8=>151 | 9=>54 | 11=>185 | 13=>80 | 12=>86 | 23=>113 | 24=>114 | 14=>115 | 15=>116 | 16=>117 | 17=>118 | 18=>119 | 19=>120 | 20=>70 | 21=>121 | 22=>122 | 25=>158 | 26=>154 | 27=>155 | 28=>159 | 29=>160 | 30=>81 | 31=>187 | n=>n,λ| 26=>3 | 28=>174 | 24=>33 | 0=>0 | 3=>3 | 37=>136 | 48=>184 | 50=>186 | 4=>4 | 40=>178 | 39=>177 | 45=>86 | 5=>5 | 9=>9 | 51=>228 | 55=>202 | 57=>258 | 58=>219 | 33=>84 | n=>n,λ| n=>n⟩
theorem Tryz.XW:Go.Proofs.SlLaysZI.n6 Tryz.prog Tryz.yT:={
 mixed:=by kernel_rfl
 f6:=⟨Tryz.f103.name,aN,Tryz.func103.trans (bm some (by kernel_rfl))⟩
 f8:=⟨Tryz.f151.name,aN,Tryz.func151.trans (bm some (by kernel_rfl))⟩
 f11:=⟨Tryz.f185.name,aN,Tryz.func185.trans (bm some (by kernel_rfl))⟩
 t0:=Tryz.underlying0
 a0:=Tryz.isAgg0
 z0:=Tryz.sizeOf0
 v0:=Tryz.zeroValue0
 t24:=Tryz.underlying33
 a24:=Tryz.isAgg33
 z24:=Tryz.sizeOf33
 v24:=Tryz.zeroValue33
 t26:=Tryz.underlying3
 a26:=Tryz.isAgg3
 z26:=Tryz.sizeOf3
 v26:=Tryz.zeroValue3
 t28:=Tryz.underlying174
 a28:=Tryz.isAgg174
 z28:=Tryz.sizeOf174
 v28:=Tryz.zeroValue174
 i26:=by kernel_rfl}
def Tryz.Px:Go.Shelf.Ren:=⟨λ| 5=>54 | 8=>80 | 7=>86 | 19=>113 | 20=>114 | 10=>115 | 11=>116 | 12=>117 | 13=>118 | 14=>119 | 15=>120 | 16=>70 | 17=>121 | 18=>122 | 30=>158 | 31=>154 | 32=>155 | 33=>159 | 34=>160 | 35=>81 | 40=>187 | n=>n,λ| 23=>33 | 25=>3 | 3=>3 | 32=>136 | 22=>33 | 0=>0 | 44=>184 | 46=>186 | 4=>4 | 36=>178 | 35=>177 | 41=>86 | 5=>5 | 9=>9 | 53=>228 | 57=>202 | 63=>258 | 64=>219 | n=>n,λ| n=>n⟩
theorem Tryz.ZQ:Go.Proofs.SlLaysM.n5 Tryz.prog Tryz.Px:={
 mixed:=by kernel_rfl
 f5:=⟨Tryz.f54.name,aN,Tryz.func54.trans (bm some (by kernel_rfl))⟩
 f7:=⟨Tryz.f86.name,aN,Tryz.func86.trans (bm some (by kernel_rfl))⟩
 f8:=Tryz.func80.trans (bm some (by kernel_rfl))
 f10:=⟨Tryz.f115.name,aN,Tryz.func115.trans (bm some (by kernel_rfl))⟩
 f11:=⟨Tryz.f116.name,aN,Tryz.func116.trans (bm some (by kernel_rfl))⟩
 f12:=⟨Tryz.f117.name,aN,Tryz.func117.trans (bm some (by kernel_rfl))⟩
 f13:=⟨Tryz.f118.name,aN,Tryz.func118.trans (bm some (by kernel_rfl))⟩
 f14:=⟨Tryz.f119.name,aN,Tryz.func119.trans (bm some (by kernel_rfl))⟩
 f15:=⟨Tryz.f120.name,aN,Tryz.func120.trans (bm some (by kernel_rfl))⟩
 f16:=⟨Tryz.f70.name,aN,Tryz.func70.trans (bm some (by kernel_rfl))⟩
 f17:=⟨Tryz.f121.name,aN,Tryz.func121.trans (bm some (by kernel_rfl))⟩
 f18:=⟨Tryz.f122.name,aN,Tryz.func122.trans (bm some (by kernel_rfl))⟩
 f19:=Tryz.func113.trans (bm some (by kernel_rfl))
 f20:=Tryz.func114.trans (bm some (by kernel_rfl))
 f30:=⟨Tryz.f158.name,aN,Tryz.func158.trans (bm some (by kernel_rfl))⟩
 f31:=Tryz.func154.trans (bm some (by kernel_rfl))
 f32:=Tryz.func155.trans (bm some (by kernel_rfl))
 f33:=⟨Tryz.f159.name,aN,Tryz.func159.trans (bm some (by kernel_rfl))⟩
 f34:=⟨Tryz.f160.name,aN,Tryz.func160.trans (bm some (by kernel_rfl))⟩
 f35:=⟨Tryz.f81.name,aN,Tryz.func81.trans (bm some (by kernel_rfl))⟩
 f40:=⟨Tryz.f187.name,aN,Tryz.func187.trans (bm some (by kernel_rfl))⟩
 t0:=Tryz.underlying0
 a0:=Tryz.isAgg0
 z0:=Tryz.sizeOf0
 v0:=Tryz.zeroValue0
 t3:=Tryz.underlying3
 a3:=Tryz.isAgg3
 z3:=Tryz.sizeOf3
 v3:=Tryz.zeroValue3
 t4:=Tryz.underlying4
 a4:=Tryz.isAgg4
 z4:=Tryz.sizeOf4
 v4:=Tryz.zeroValue4
 t5:=Tryz.underlying5
 a5:=Tryz.isAgg5
 z5:=Tryz.sizeOf5
 v5:=Tryz.zeroValue5
 t9:=Tryz.underlying9
 a9:=Tryz.isAgg9
 z9:=Tryz.sizeOf9
 v9:=Tryz.zeroValue9
 t22:=Tryz.underlying33
 a22:=Tryz.isAgg33
 z22:=Tryz.sizeOf33
 v22:=Tryz.zeroValue33
 t23:=Tryz.underlying33
 a23:=Tryz.isAgg33
 z23:=Tryz.sizeOf33
 v23:=Tryz.zeroValue33
 t25:=Tryz.underlying3
 a25:=Tryz.isAgg3
 z25:=Tryz.sizeOf3
 v25:=Tryz.zeroValue3
 t32:=Tryz.underlying136
 a32:=Tryz.isAgg136
 z32:=Tryz.sizeOf136
 v32:=Tryz.zeroValue136
 t35:=Tryz.underlying177
 a35:=Tryz.isAgg177
 z35:=Tryz.sizeOf177
 v35:=Tryz.zeroValue177
 t36:=Tryz.underlying178
 a36:=Tryz.isAgg178
 z36:=Tryz.sizeOf178
 v36:=Tryz.zeroValue178
 t41:=Tryz.underlying86
 a41:=Tryz.isAgg86
 z41:=Tryz.sizeOf86
 v41:=Tryz.zeroValue86
 t44:=Tryz.underlying184
 a44:=Tryz.isAgg184
 z44:=Tryz.sizeOf184
 v44:=Tryz.zeroValue184
 t46:=Tryz.underlying186
 a46:=Tryz.isAgg186
 z46:=Tryz.sizeOf186
 v46:=Tryz.zeroValue186
 t53:=Tryz.underlying228
 a53:=Tryz.isAgg228
 z53:=Tryz.sizeOf228
 v53:=Tryz.zeroValue228
 t57:=Tryz.underlying202
 a57:=Tryz.isAgg202
 z57:=Tryz.sizeOf202
 v57:=Tryz.zeroValue202
 t63:=Tryz.underlying258
 a63:=Tryz.isAgg258
 z63:=Tryz.sizeOf258
 v63:=Tryz.zeroValue258
 t64:=Tryz.underlying219
 a64:=Tryz.isAgg219
 z64:=Tryz.sizeOf219
 v64:=Tryz.zeroValue219}
open Go.RowKit Go.Maps Go.Sort Go.Shelf in
theorem Tryz.acy (m:Nat):AnyZI.SortsIn Tryz.prog Tryz.yT Fence.wide m:=
 ⟨λblk off cap ss W hH hblk hsz=>callsIn_wide.2 (AnyM.slices_Sort_int Tryz.ZQ blk off cap ss W hH hblk hsz),
  λp cap W=>callsIn_wide.2 (AnyM.slices_Sort_int_none Tryz.ZQ p cap W)⟩
open Go.RowKit Go.Maps Go.Sort Go.Shelf in
theorem Tryz.XX (mb:Option Nat) (W:World):Calls Tryz.prog 104 #[.map mb] W λe w'=>e=.returned (.func (.func 152) #[] #[.pointer (some ⟨W.heap.size,0,none⟩)])/\w'=W.alloc (.cells #[.map mb] 74):=
 callsIn_wide.1 (AnyZI.keys_in Tryz.ZP Fence.wide 5 trivial rfl mb W)
open Go.RowKit Go.Maps Go.Sort Go.Shelf in
theorem Tryz.Py {H:Type} (k b nn:Nat) (D0:DataW H) (R:Value->Option (DataW H×List MemPlace)) (w:World) (hk:k<w.heap.size) (hm:w.cell? ⟨k,0,none⟩=some (.map (some b))) (ny:w.ownsMap Tryz.prog 3 R b nn D0) (IM:Maps.size D0<=maxLen) (aem:Maps.size D0*8<=140737488355328):
  Calls Tryz.prog 103 #[.func (.func 152) #[] #[.pointer (some ⟨k,0,none⟩)]] w λe w'=>∃(v:Value) (ss:List Int),e=.returned v/\ss.Perm (intKeys D0)/\
   w'.ownsRow w.heap.size 3 1 v ss.length ((ss.mergeSort (λx y=>decide (x<=y))).map encZ)/\(v=.slice none 0 0↔ss=[])/\Below w.heap.size w w':=by
 have arq:SeqGives Fence.wide 2 Tryz.prog 152 #[.pointer (some ⟨k,0,none⟩)] encZ (λss=>ss.Perm (intKeys D0)) (Maps.size D0) w:=
  AnyZI.keys_gives (ρ:=Tryz.DX) {Tryz.ZP with} Fence.wide _ trivial rfl aG k b nn D0 w hk hm ny
 exact callsIn_wide.1 (AnyZI.sorted_in Tryz.XW Fence.wide 5 trivial trivial trivial trivial rfl aG (Tryz.acy _) (enters_of Tryz.func54 (by kernel_rfl) rfl) 152 #[.pointer (some ⟨k,0,none⟩)] trivial (enters_of Tryz.func152 (by kernel_rfl) rfl) _ _ IM aem _ arq)
end Go.Proofs
namespace Go.Proofs.YtpbgcbdclnfpnaaGreatDoor.Con
open Go Go.RowKit Go.Kt Go.Kt.V Go.Proofs.YtpbgcbdclnfpnaaGreatDoor.Vc
theorem Xm(l:List Int)(w:ay)(F:aL)(hg:∀a,a∈l->gI a):lV rInt 1 w F l (l.map λa=>[Value.int ae a]):=by
 induction l with
 | nil=>exact trivial
 | cons a l ih=>
  have:=hg a (.head _);exact⟨⟨rfl,rfl,by constructor<;>omega⟩,ih λb hb=>hg b (.tail _ hb)⟩
theorem TG(l:List Int):(l.map λa=>[Value.int ae a]).flatten=l.map Go.encZ:=by
 induction l with
 | nil=>rfl
 | cons a l ih=>rw[bH,dy,ih];rfl
theorem TH{B:Nat}{w:ay}{v:az}{l:List Int}{n:Nat}(h:w.ownsRow B 3 1 v n (l.map Go.encZ))(hg:∀a,a∈l->gI a):∃s:Sl,v=s.v/\dd B w s l:=by
 obtain⟨hl,h⟩:=h;rw[bA,kl]at hl;subst hl;rcases h with⟨rfl,hn⟩ | ⟨g,cap,cur,rfl,h1,h2,h3,h4,h5,h6⟩
 ·have:l=[]:=bR hn;subst this;exact⟨Sl.nil,rfl,Own.nil _ _ _ _ _ _⟩
 refine⟨⟨some ⟨g,0,none⟩,l.length,cap⟩,rfl,.inr ⟨g,_,cur.toList.drop l.length,rfl,h1,?_,?_,rfl,h3,?_,Xm l w _ hg⟩⟩
 ·rw[kl]at h6;rw[TG,<-h6,dl];unfold aH;rw[h2]
 ·dsimp only;rw[cP,fA,h5];omega
 have:maxLen=9223372036854775807:=rfl;dsimp only;omega
def itI(k:Nat):OV:=⟨.func (.func 152) #[] #[ai (some ⟨k,0,none⟩)],rfl⟩
theorem acb{w:ay}{r:Nat}{p:Int->Bool}{L:List Int}(h:jt w r p)(hL:L.Pairwise (· <·))(he:∀a,a∈L↔p a=true):
  aB au 66 #[.map (some r)] w λe w'=>∃s:Sl,e=aq s.v/\dd w.heap.size w' s L/\aA [] w w':=by
 refine(anA (some r) (λv w'=>∃s:Sl,v=s.v/\dd w.heap.size w' s L/\aA [] w w') w ?_).mono (by rintro _ w' ⟨v,rfl,s,rfl,h⟩;exact⟨s,rfl,h⟩);refine(Tryz.XX (some r) w).mono ?_;rintro _ w1 ⟨rfl,rfl⟩;have hO:aA [] w (w.alloc (.cells #[.map (some r)] 74)):=Only.alloc _ _;have hk:aH (w.alloc (.cells #[.map (some r)] 74)) w.heap.size 74 [.map (some r)]:=heap_alloc_new w _;have h1:jt (w.alloc (.cells #[.map (some r)] 74)) r p:=MapV.only h hO aac;have z1:=hO.size;generalize w.alloc (.cells #[.map (some r)] 74)=w1 at*
 refine⟨itI w.heap.size,rfl,?_⟩;obtain⟨D,g1,g2,g3,g4⟩:=MapV.ahZ (P:=au) (kt:=3) (by kernel_rfl) h1 (by have:maxLen=9223372036854775807:=rfl;omega);refine(Tryz.Py w.heap.size r 64 D _ w1 hk.lt (hk.cell 0) g1 (by have:maxLen=9223372036854775807:=rfl;omega) aG).mono ?_;rintro e w' ⟨v,ss,rfl,k1,k2,k3,k4⟩;have hs:ss.Nodup:=k1.nodup_iff.2 g3;rw[Kq hL hs λa=>by
  rw[k1.mem_iff,g4,he];dsimp only[mB];cases p a<;>simp]at k2
 obtain⟨s,rfl,ho⟩:=TH k2 λa ha=>h.ok ((he a).1 ha);exact⟨s,rfl,s,rfl,ho.low z1,hO.cr (Only.oH k4)⟩
def nY(S:Nat)(k:Int):Bool:=decide (0<=k)&&S.testBit k.toNat
theorem BT(S n:Nat):nY S (n:Int)=S.testBit n:=by
 unfold nY;rw[bJ aG,cT,aU]
theorem Nt{x:Int}(h:gI x)(S:Nat)(k:Int):nY (Fy S x) k=(nY S k||decide (k=x)):=by
 have h1:=h.1;have h2:=h.2;unfold nY Fy;rw[Nat.testBit_or,BM];by_cases hk:0<=k
 ·rw[bJ hk,cT,cT];congr 1;rw[ga];constructor
  ·rintro⟨_,e⟩;omega
  intro e;exact⟨aG,aG⟩
 rw[bI hk,eN,eN,bI aG];rfl
theorem DJ:∀(l:List Int),(∀x,x∈l->gI x)->∀(S:Nat) (k:Int),nY (l.foldl Fy S) k=(nY S k||decide (k∈l))
 | [],_,S,k=>aac
 | x::l,h,S,k=>by
  rw[iC,DJ l (λy hy=>h y (.tail _ hy)),Nt (h x (.head _)),Bool.or_assoc];congr 1;rw[<-Bool.decide_or,ga,aV]
theorem TI{α:Type}{l:List α}{j:Nat}{t:α}(h:l[j]? =some t)(f:α->Bool):(l.take (j+1)).any f=((l.take j).any f||f t):=by
 rw[bE,h,Vh];simp
theorem FE(w:ay)(k:Int):aB au 36 #[O ae k] w λe w'=>e=aq (ao (fU k))/\w'=w:=by
 refine(ant k (λv w'=>v=ao (fU k)/\w'=w) w ?_).mono aav;refine⟨?_,rfl⟩;congr 1;unfold fU;rw[bW];simp
theorem PastV.inHeap{w:ay}{F:aL}{r:Nat}{M:ye}(h:PastV w F r M):PastV w (λk=>F k/\k<w.heap.size) r M:=by
 obtain⟨m,h1,h2,h3⟩:=h.ex;refine⟨m,h1,h2,λk l hl=>?_⟩;obtain⟨s,e,hs⟩:=h3 k l hl;exact⟨s,e,SliceF.inHeap bF hs aN⟩
section
variable {w:ay} {b r0 r1:Nat} {s si sd sr st:Sl} {xs:List cM} {dft tg:List Int} {F G H:aL} {M:ye}
theorem It(hB:Wk w b s si sd sr r0 r1)(xx:aD nN 5 w F s xs)(hsd:aD rInt 1 w F sd dft)(hP:PastV w G r0 M)(lH:aD rInt 1 w H st tg)(zm:dft.length=xs.length)(hg:∀t,t∈tg->∀g,g∈fj xs dft M t->gI g):
  aB au 46 #[ai (some ⟨b,0,none⟩),st.v] w λe w'=>(∃r:Nat,e=aq (.map (some r))/\w.heap.size<=r/\jt w' r (λk=>tg.any λt=>decide (k∈fj xs dft M t)))/\aA [] w w':=by
 refine(anx ⟨b,0,none⟩ st (λv w'=>(∃r:Nat,v=.map (some r)/\w.heap.size<=r/\jt w' r (λk=>tg.any λt=>decide (k∈fj xs dft M t)))/\aA [] w w') w ?_).mono (by rintro _ w' ⟨v,rfl,⟨r,rfl,h⟩,h'⟩;exact⟨⟨r,rfl,h⟩,h'⟩);obtain⟨a1,a2,a3⟩:=MapV.make (P:=au) (mty:=74) (kv:=kN) (g:=gI) w;refine⟨_,_,a1,?_⟩;have S0:jt (w.alloc (.map #[] 0)) w.heap.size λk=>([]:List Int).any λt=>decide (k∈fj xs dft M t):=(MapV.Pw a2).ext λk=>by dsimp only[mB];rw[aY aac]
 generalize w.alloc (.map #[] 0)=W at*
 have hn:=lH.len;have hc:=lH.cap;have hb:=lH.big;have hxn:=xx.len;have hxc:=xx.cap;have hxb:=xx.big;have hP':=hP.inHeap;refine⟨λkv i u=>∃j:Nat,i=(j:Int)/\kv+j=tg.length/\j<=tg.length/\jt u w.heap.size (λk=>(tg.take j).any λt=>decide (k∈fj xs dft M t))/\aA [w.heap.size] W u,tg.length,⟨0,rfl,aG,bh _,S0,Only.refl _ _⟩,?_⟩;rintro kv _ u ⟨j,rfl,sJ,hj,hS,hO⟩;have o:aA [] w u:=a3.trans hO λx hx=>.inr aaj;refine⟨λhc=>?_,λhc=>?_⟩
 ·have hc:=aP hc;have iA:j<tg.length:=aG
  obtain⟨t,ht⟩:∃t,tg[j]? =some t:=⟨_,aQ iA⟩
  have hgt:=hg t (bB ht);refine⟨λw2=>jt w2 w.heap.size (λk=>(tg.take (j+1)).any λt=>decide (k∈fj xs dft M t))/\aA [w.heap.size] W w2,?_,?_⟩
  ·rintro w2 ⟨h1,h2⟩;exact⟨kv-1,aG,j+1,aad,aG,aG,h1,h2⟩
  have fin:∀{q:Int->Bool} {u':ay},jt u' w.heap.size q->(∀k,q k=((tg.take j).any (λt=>decide (k∈fj xs dft M t))||decide (k∈fj xs dft M t)))->jt u' w.heap.size (λk=>(tg.take (j+1)).any λt=>decide (k∈fj xs dft M t)):=λh he=>h.of λk=>by rw[he,TI ht]
  obtain⟨ad,c1,c2⟩:=gD (kI lH o) ht;have QH:Wk u b s si sd sr r0 r1:=o.blk hB aac;refine⟨ad,c1,_,c2,some r0,Blk.eh QH 4 rfl,?_⟩;obtain⟨l0,d1,d2⟩:=PastV.at (hP'.o0 o) t;refine⟨l0,_,_,d1,s,λ_=>Blk.eh QH 0 rfl,λhx=>⟨fin hS λk=>?_,hO⟩,λhx=>⟨s,Blk.eh QH 0 rfl,?_⟩⟩
  ·rw[bU,bX,bX]at hx;have:fj xs dft M t=[]:=by unfold fj;rw[bc aG]
   rw[this];simp
  rw[ii,dv,dv]at hx;obtain⟨n,rfl⟩:∃n:Nat,t=n:=⟨t.toNat,aG⟩
  obtain⟨x,yX⟩:∃x,xs[n]? =some x:=⟨_,aQ aG⟩
  have art:aD nN 5 u F s xs:=SliceF.only db aN xx o aac;obtain⟨uz,e1,e2,_⟩:=jJ art yX;have QI:fj xs dft M (n:Int)=if fU x.k then(match M n with
   | some l=>l
   | none=>[(dft[n]?).getD 0])else[(n:Int)]:=by
   unfold fj;rw[aY aG,fZ yX,aU]
   try rfl
  refine⟨uz,e1,x.k,e2.eh 0 _ rfl,(FE u x.k).mono ?_⟩;rintro _ u' ⟨rfl,hu⟩;obtain rfl:u=u':=hu.symm;refine⟨_,rfl,λhh=>?_,λhh=>⟨λhk=>?_,λhk=>?_⟩⟩
  ·have hh:fU x.k=false:=adi
   rw[hh,aY aac]at QI;have Jg:=hgt n (by rw[QI];exact .head _);obtain⟨y,w5,f1,f2,f3⟩:=BH u (a:=(n:Int)) ⟨aG,aG⟩;have z5:=f2.size;have bT:=MapV.lt hS;refine⟨y,w5,f1,(BS (MapV.only hS f2 aac) (f3.slice bF) acL (λz hz=>adl)).mono ?_⟩;rintro _ w6 ⟨rfl,h6,eH⟩;exact⟨rfl,fin h6 λk=>by rw[QI],(hO.cr f2).trans eH λx hx=>.inl hx⟩
  ·have hh:fU x.k=true:=adi
   obtain⟨l,hl⟩:=dU.1 hk;rw[hh,bc rfl,hl]at QI;dsimp only at QI;refine(BS hS (d2 l hl) aG λz hz=>hgt z (by rw[QI];exact hz)).mono ?_;rintro _ w6 ⟨rfl,h6,eH⟩;exact⟨rfl,fin h6 λk=>by rw[QI],hO.trans eH λx hx=>.inl hx⟩
  have hh:fU x.k=true:=adi
  have hl:M n=none:=aas
  rw[hh,bc rfl,hl]at QI;dsimp only at QI;obtain⟨v,hv⟩:∃v,dft[n]? =some v:=⟨_,aQ aG⟩
  rw[hv,kb]at QI;have Jg:=hgt v (by rw[QI];exact .head _);obtain⟨ad3,g1,g2⟩:=gD (kI hsd o) hv;refine⟨sd,Blk.eh QH 2 rfl,ad3,g1,v,g2,?_⟩;obtain⟨y,w5,f1,f2,f3⟩:=BH u (a:=v) ⟨by have:=Jg.1;omega,by have:=Jg.2;omega⟩;have z5:=f2.size;have bT:=MapV.lt hS;refine⟨y,w5,f1,(BS (MapV.only hS f2 aac) (f3.slice bF) acL (λz hz=>adl)).mono ?_⟩;rintro _ w6 ⟨rfl,h6,eH⟩;exact⟨rfl,fin h6 λk=>by rw[QI],(hO.cr f2).trans eH λx hx=>.inl hx⟩
 have hc:=aX hc;have iA:j=tg.length:=aG
 subst iA;rw[qY]at hS;exact⟨⟨w.heap.size,rfl,ba _,hS⟩,o⟩
end
structure WkP (w:ay) (b:Nat) (s si sd sr:Sl) (r0 r1:Nat) (F G:aL) (p:Pl) (M:ye) (S:Nat):Prop where
 blk:Wk w b s si sd sr r0 r1
 pl:PlR w F s si sd sr p
 past:PastV w G r0 M
 set:jt w r1 (nY S)
 n01:r0≠r1
 n0:r0≠b
 n1:r1≠b
 nF:¬F r0/\¬F r1
 nG:¬G r0/\¬G r1
section
variable {w w':ay} {b r0 r1 r:Nat} {s si sd sr:Sl} {F G:aL} {p:Pl} {M:ye} {S S':Nat} {q:Int->Bool} {L:List Int} {d:Int}
theorem WkP.step(h:WkP w b s si sd sr r0 r1 F G p M S)(hO:aA [r1] w w')(hS:jt w' r1 (nY S')):WkP w' b s si sd sr r0 r1 F G p M S':=by
 have n:∀{P:aL},¬P r1->∀k,P k->k<w.heap.size->k∉[r1]:=λhp k hk _ hm=>by
  simp only[aO]at hm;exact hp acZ
 exact⟨hO.blk h.blk (by simpa using λe=>h.n1 e.symm),⟨SliceF.only db aN h.pl.sp hO (n h.nF.2),SliceF.only bF aN h.pl.ini hO (n h.nF.2),SliceF.only bF aN h.pl.dft hO (n h.nF.2),SliceF.only gP aN h.pl.ro hO (n h.nF.2)⟩,h.past.only hO (by simpa using h.n01) (n h.nG.2),hS,h.n01,h.n0,h.n1,h.nF,h.nG⟩
theorem WkP.o0(h:WkP w b s si sd sr r0 r1 F G p M S)(hO:aA [] w w'):WkP w' b s si sd sr r0 r1 F G p M S:=
 ⟨hO.blk h.blk aac,h.pl.o0 hO,h.past.o0 hO,MapV.only h.set hO aac,h.n01,h.n0,h.n1,h.nF,h.nG⟩
theorem Nu(h:WkP w b s si sd sr r0 r1 F G p M S)(hs:jt w r q)(hr:r≠r1)(hq:∀k,q k=true↔k∈L)(hL:∀g,g∈L->pu p.sp g)(hd: -1<=d)(hF:Fo p.sp)(hl:p.sp.length<=64):
  aB au 45 #[ai (some ⟨b,0,none⟩),.map (some r),O ae d] w λe w'=>e=aq (ak #[])/\jt w' r1 (nY (kY p.sp d L S))/\aA [r1] w w':=by
 refine(anw ⟨b,0,none⟩ (some r) d (λv w'=>v=ak #[]/\jt w' r1 (nY (kY p.sp d L S))/\aA [r1] w w') w ?_).mono aav;obtain⟨w0,a1,a2,a3,a4⟩:=MapV.range (P:=au) (mty:=74) (kt:=3) (et:=4) (by kernel_rfl) hs;have NW:=MapV.lt h.set;have up1:∀{u:ay},aA [] w u->aA [r1] w u:=λhO=>(Only.refl [r1] w).cr hO;refine⟨_,w0,a1,λkv u=>∃V:List Int,ItV kN gI u w.heap.size r (mB q) 64 V/\kv+V.length=64/\jt u r1 (nY (kY p.sp d V.reverse S))/\aA [r1] w u,64,⟨[],a2,rfl,MapV.only h.set a3 aac,up1 a3⟩,?_⟩;rintro kv u ⟨V,hI,sJ,hS,hO⟩;have hlq:∀{k:Int},mB q k≠none->q k=true:=fun{k} hk=>by
  cases e:q k with
  | true=>rfl
  | false=>exact absurd (by dsimp only[mB];rw[e,aY aac]) hk
 rcases ItV.next (P:=au) yg hI 0 with⟨jh,Ys⟩ | ⟨k,v,u1,hm,hgk,hkV,Ys,F8,hI1,cG⟩
 ·refine .inl ⟨u,Ys,rfl,hS.of λk=>?_,hO⟩;have hVq:∀k,k∈V->k∈L:=λk hk=>by
   obtain⟨es,c,sn,c0,_,_,_,_,_,_,m7,_,m9⟩:=hI.mem;obtain⟨x,hx,e1,_⟩:=(m9 k).1 hk;have:=(m7 k x.val).2 ⟨x,hx,e1,rfl⟩;exact(hq k).1 (hlq (by rw[this];simp))
  have e:kY p.sp d V.reverse S=kY p.sp d L S:=Nat.eq_of_testBit_eq λm=>by
   rw[bW,qI hF hl hd _ S (λg hg=>hL g (hVq g (yC.1 hg))) m,qI hF hl hd L S hL m];refine or_congr zE (and_congr zE (tZ λg=>and_congr ⟨λhg=>hVq _ (yC.1 hg),λhg=>yC.2 (jh _ ?_)⟩ zE));dsimp only[mB];rw[bc ((hq _).2 hg)];rfl
  rw[e]
 have hqk:q k=true:=hlq (by rw[hm];simp);have hv:v=ao true:=by
  dsimp only[mB]at hm;rw[bc hqk]at hm;injection hm with hm;exact hm.symm
 subst hv;have hLk:=hL k ((hq k).1 hqk);have hVl:=ItV.len yg hI1;rw[bn]at hVl;have adf:aA [r1] w u1:=hO.trans cG λx hx=>.inr aaj;refine .inr ⟨⟨kN k,rfl⟩,⟨ao true,rfl⟩,u1,Ys,⟨kN k,rfl⟩,⟨ao true,rfl⟩,u1,F8,k,rfl,?_⟩;refine⟨λCi i u2=>∃T,jt u2 r1 (nY T)/\i<(Ci:Int)/\ -1<=i/\i<(p.sp.length:Int)/\Nh p.sp d Ci i T=Nh p.sp d p.sp.length k (kY p.sp d V.reverse S)/\ItV kN gI u2 w.heap.size r (mB q) 64 (k::V)/\aA [r1] w u2,p.sp.length,⟨_,MapV.only hS cG aae,hLk.2,by have:=hLk.1;omega,hLk.2,rfl,hI1,adf⟩,?_⟩;rintro Ci i u2 ⟨T,hT,i1,i2,i3,hup,hI2,dk⟩;refine⟨λhc=>?_,λhc=>?_⟩
 ·have hc:i>d:=aP hc;obtain⟨n,rfl⟩:∃n:Nat,i=n:=⟨i.toNat,aG⟩
  obtain⟨x,hx⟩:∃x,p.sp[n]? =some x:=⟨_,aQ aG⟩
  have hW2:=h.step dk hT;refine⟨some r1,Blk.eh hW2.blk 5 rfl,?_⟩;obtain⟨y,w6,f1,f2,f3⟩:=BH u2 (a:=(n:Int)) ⟨aG,aG⟩;have z6:=f2.size;have z2:=dk.size;have Jg:gI (n:Int):=⟨aG,aG⟩
  refine⟨y,w6,f1,(BS (MapV.only hT f2 aac) (f3.slice bF) acL (λz hz=>adl)).mono ?_⟩;rintro _ w7 ⟨rfl,h7,fN⟩;have h7:jt w7 r1 (nY (Fy T n)):=h7.of λk=>by
   rw[Nt Jg];congr 1;rw[ga,aO]
  have o27:aA [r1] u2 w7:=((Only.refl [r1] u2).cr f2).trans fN λx hx=>.inl hx;have o7:aA [r1] w w7:=dk.trans o27 λx hx=>.inl hx;have hW7:=h.step o7 h7;obtain⟨ad,e1,_,e3,_⟩:=jJ hW7.pl.sp hx;have VI: -1<=x.pa/\x.pa<(n:Int):=by
   by_cases h0:n=0
   ·subst h0;have:=(hF.rt x hx).1;omega
   obtain⟨pp,_,h1,h2,_⟩:=hF.par hx aG;omega
  refine⟨rfl,s,Blk.eh hW7.blk 0 rfl,ad,e1,x.pa,e3,Ci-1,aG,Fy T n,h7,aG,aG,aG,?_,ItV.only hI2 o27 aae ad2,o7⟩;rw[<-hup];obtain⟨f,rfl⟩:∃f,Ci=f+1:=⟨Ci-1,aG⟩
  conv=>rhs;unfold Nh
  rw[bc hc,jr hx];rfl
 have hc:¬i>d:=aX hc;have hT':T=Nh p.sp d p.sp.length k (kY p.sp d V.reverse S):=by
  rw[<-hup];cases Ci with
  | zero=>rfl
  | succ f=>unfold Nh;rw[aY hc]
 refine⟨kv-1,aG,k::V,hI2,by rw[bn];omega,?_,dk⟩;rw[hT']at hT;unfold kY at hT⊢;rw[List.reverse_cons,kZ];exact hT
end
theorem acd{w:ay}{F:aL}{s:Sl}{l:List Int}(h:aD rInt 1 w F s l){i:Nat}{x:Int}(hx:l[i]? =some x):rf x:=by
 have bT:=(aZ.1 hx).1;have hl:=h.len;obtain⟨ad,y,cs,g1,g2,g3,g4,g5,g6⟩:=h.get (bD i) aG;rw[aU,hx]at g2;injection g2 with g2;subst g2;exact g6.2
theorem Pe{xs:List cM}(sd:Sd xs)(n:Nat):((fg xs n xs.length).filter λx=>!(λy=>fU (kd xs y)) x)=cY xs n:=by
 unfold cY;refine List.filter_congr λx hx=>?_;obtain⟨q,t,rfl,_,ht,_⟩:=qG.1 hx;have hk:=sd.kn q t ht;dsimp only;rw[kz ht];unfold fU xr;rw[bW];simp;omega
section
variable {w:ay} {b r0 r1:Nat} {s si rQ sr:Sl} {F G:aL} {p:Pl} {M:ye} {S:Nat}
theorem Xn(h:WkP w b s si rQ sr r0 r1 F G p M S)(sd:Sd p.sp)(hi:p.ini.length=p.sp.length)(zm:p.dft.length=p.sp.length)(hgl:∀(n:Nat) (t:cM),p.sp[n]? =some t->t.k≠2->cY p.sp n≠[]->∀g,g∈fj p.sp p.dft M ((p.ini[n]?).getD 0)->pu p.sp g):
  aB au 25 #[ai (some ⟨b,0,none⟩)] w λe w'=>∃t:Sl,e=aq t.v/\dd w.heap.size w' t (jg (nX p.sp (λn=>fj p.sp p.dft M ((p.ini[n]?).getD 0)) p.sp.length S))/\aA [r1] w w':=by
 refine(anz ⟨b,0,none⟩ (λv w'=>∃t:Sl,v=t.v/\dd w.heap.size w' t (jg (nX p.sp (λn=>fj p.sp p.dft M ((p.ini[n]?).getD 0)) p.sp.length S))/\aA [r1] w w') w ?_).mono abX;intro k0 w0 gU fD cO;have z0:=cO.size;have h0:=h.o0 cO;have NW:=MapV.lt h.set;have DY:=h.blk.lt;have kA:=sd.le;have hxn:=h.pl.sp.len;have hxc:=h.pl.sp.cap;have hxb:=h.pl.sp.big;have up1:∀{a u:ay},aA [] a u->aA [r1] a u:=λhO=>(Only.refl [r1] _).cr hO;generalize PZ:(λn:Nat=>fj p.sp p.dft M ((p.ini[n]?).getD 0))=gl at*
 have hgj:∀j:Nat,gl j=fj p.sp p.dft M ((p.ini[j]?).getD 0):=λj=>by rw[<-PZ]
 refine⟨s,Blk.eh h0.blk 0 rfl,λkv i q u=>∃j:Nat,i=(j:Int)/\kv+j=p.sp.length/\j<=p.sp.length/\q=some ⟨b,0,none⟩/\jt u r1 (nY (nX p.sp gl j S))/\aA [r1] w0 u,p.sp.length,⟨0,rfl,aG,bh _,rfl,h0.set,Only.refl _ _⟩,?_⟩;rintro kv _ _ u ⟨j,rfl,sJ,hj,rfl,hS,hO⟩;have hW:=h0.step hO hS;have zu:=hO.size;refine⟨λhc=>?_,λhc=>?_⟩
 ·have hc:=aP hc;have iA:j<p.sp.length:=aG
  obtain⟨x,hx⟩:∃x,p.sp[j]? =some x:=⟨_,aQ iA⟩
  refine⟨λq u2=>q=some ⟨b,0,none⟩/\jt u2 r1 (nY (nX p.sp gl (j+1) S))/\aA [r1] w0 u2,?_,?_⟩
  ·rintro _ u2 ⟨rfl,h1,h2⟩;exact⟨kv-1,aG,j+1,aad,aG,aG,rfl,h1,h2⟩
  have hcm:nX p.sp gl (j+1) S=Ih p.sp gl (nX p.sp gl j S) j:=rfl;rw[hcm];generalize nX p.sp gl j S=T at*
  have QG:kd p.sp (j:Int)=x.k:=kz hx;obtain⟨ad,e1,e2,_⟩:=jJ hW.pl.sp hx;refine⟨ad,e1,_,_,_,_,_,e2,_,rfl,λk4 w3 zY CM dz=>?_⟩;have z3:=dz.size;have hW3:=hW.o0 dz;have o3:=hO.cr dz;refine⟨some r1,Blk.eh hW3.blk 5 rfl,_,w3,jt.at hW3.set (j:Int),λ_ _=>rfl,λhb=>?_,λhb=>?_⟩
  ·have hb:T.testBit j=false:=by rw[BT]at hb;simpa using hb
   refine⟨rfl,?_,o3⟩;unfold Ih;rw[hb,aY aac];exact hW3.set
  have hb:T.testBit j=true:=by rw[BT]at hb;simpa using hb
  refine⟨_,rfl,s,Blk.eh hW3.blk 0 rfl,(Kb hW3.pl.sp sd.fo hx aG).mono ?_⟩;rintro _ w5 ⟨⟨t,rfl,ht⟩,eJ⟩;have z5:=eJ.size;refine⟨t,rfl,eJ.same aae,λaj6 gq=>?_⟩;have hW5:=hW3.o0 eJ;have lz:∀{q:Nat},t.a=some ⟨q,0,none⟩->w3.heap.size<=q:=λe=>(ht.blk e).1;have nk:∀q,q<w3.heap.size->¬(t.a=some ⟨q,0,none⟩):=λq hq e=>aa5
  have KN:(fg p.sp j p.sp.length).length<=2000000:=by
   have:(fg p.sp j p.sp.length).length<=p.sp.length:=by
    unfold fg;rw[bA];exact bf (cu _ _) (oX fE)
   omega
  have arw:=SliceF.inHeap db hW3.pl.sp aN;refine(rK (f:=⟨.func (.func 64) #[] #[ai (some ⟨k0,0,none⟩)],rfl⟩) ht KN ⟨eU (by kernel_rfl),λy hy v CQ=>?_⟩ (p:=λy=>fU (kd p.sp y)) (cap:=[ai (some ⟨k0,0,none⟩)]) rfl).mono ?_
  ·obtain⟨m,tm,rfl,_,htm,_⟩:=qG.1 hy;have cb:=CQ.blk aj6 (nk k0 aG);have cw:=CQ.blk hW5.blk (nk b aG);have cs:aD nN 5 v (λk=>F k/\k<w3.heap.size) s p.sp:=(SliceF.only db aN arw eJ aac).keep db aN λk hk bT=>CQ.block k bT (nk k hk.2);refine(anM m ⟨k0,0,none⟩ (λc w'=>c=ao (fU (kd p.sp m))/\aA [] v w') v ?_).mono acq;obtain⟨uz,g1,g2,_⟩:=jJ cs htm;refine⟨some ⟨b,0,none⟩,cb.cells 0 _ aac,⟨b,0,none⟩,rfl,s,Blk.eh cw 0 rfl,uz,g1,tm.k,g2.eh 0 _ rfl,(FE v tm.k).mono ?_⟩;rintro _ v' ⟨rfl,hv⟩;obtain rfl:v=v':=hv.symm;exact⟨_,rfl,by rw[kz htm],Only.refl _ _⟩
  rintro _ w6 ⟨t2,rfl,_,_,hR6,eH⟩;rw[Pe sd j]at hR6;have o36:aA [] w3 w6:=(eJ.mZ (eH.mono (G:=λq=>w3.heap.size<=q) λq _ e=>lz e)).only λq hq=>hq;have z6:=o36.size;have hW6:=hW3.o0 o36;have o6:=o3.cr o36;have cb6:aH w6 k0 70 [ai (some ⟨b,0,none⟩)]:=eH.blk aj6 (nk k0 aG);have z56:=eH.size;have Ur:=hR6.slice bF;have U3:=Ur.len;have hRg:∀y,y∈cY p.sp j->gI y:=λy hy=>by
   obtain⟨m,tm,rfl,htm,_⟩:=hY.1 hy;have:=(aZ.1 htm).1;exact⟨aG,aG⟩
  have ary:¬(False∨w3.heap.size<=r1/\t2.a=some ⟨r1,0,none⟩):=acL
  refine⟨t2,rfl,λq hq=>?_,some ⟨b,0,none⟩,cb6,λh2=>?_,λh2=>?_⟩
  ·simp only[aO]at hq;subst hq;exact eH.block _ aG (nk _ aG)
  ·have h2:x.k=2:=acM
   refine⟨⟨b,0,none⟩,rfl,some r1,Blk.eh hW6.blk 5 rfl,(BS hW6.set Ur ary hRg).mono ?_⟩;rintro _ w7 ⟨rfl,h7,fN⟩;refine⟨rfl,fN.same aae,some ⟨b,0,none⟩,fN.blk cb6 aae,rfl,?_,o6.trans fN λx hx=>.inl hx⟩;unfold Ih;rw[hb,bc rfl,QG,bc h2];exact h7.of λk=>by rw[DJ _ hRg]
  have h2:x.k≠2:=acM
  have hcb:Ih p.sp gl T j=if cY p.sp j≠[]/\((cY p.sp j).all λr=>!T.testBit r.toNat)=true then kY p.sp j (gl j) T else T:=by
   unfold Ih;rw[hb,bc rfl,QG,aY h2]
  refine⟨λbb q u8=>q=some ⟨b,0,none⟩/\aA [] w6 u8/\(bb=true↔cY p.sp j≠[]/\((cY p.sp j).all λr=>!T.testBit r.toNat)=true),?_,?_⟩
  ·rintro bb _ u8 ⟨rfl,fX,hbb⟩;have z8:=fX.size;have o8:=o6.cr fX;refine⟨λht=>λw9 gH hB9=>?_,λhf=>⟨rfl,?_,o8⟩⟩
   ·have ht:=hbb.1 ht;rw[bc ht]at hcb;have z9:=gH.size;have o9:=o8.cr gH;have hW9:=(hW6.o0 fX).o0 gH;obtain⟨v,hv⟩:∃v,p.ini[j]? =some v:=⟨_,aQ aG⟩
    obtain⟨uz,g1,g2⟩:=gD hW9.pl.ini hv;have arz:=acd hW9.pl.ini hv;obtain⟨y,dL,f1,f2,f3⟩:=BH w9 (a:=v) arz;have PM:=f2.size;have U9:=hW9.o0 f2;have hgv:gl j=fj p.sp p.dft M v:=by rw[hgj,hv];rfl
    have Ga:∀g,g∈fj p.sp p.dft M v->pu p.sp g:=λg hg=>hgl j x hx h2 ht.1 g (by rw[hv];exact hg);refine⟨λk=>k=k0,rfl,rfl,⟨b,0,none⟩,rfl,si,Blk.eh hW9.blk 1 rfl,uz,g1,v,g2,y,dL,f1,f2.same aae,bS.only f2,(It U9.blk U9.pl.sp U9.pl.dft U9.past (f3.slice bF) zm (λt ht g hg=>?_)).mono ?_⟩
    ·rw[aO]at ht;subst ht;have:=Ga g hg;exact⟨this.1,by have:=this.2;omega⟩
    rintro _ dN ⟨⟨r,rfl,hr,arA⟩,dX⟩;have D1:=dX.size;have arB:=U9.o0 dX;have aj7:=dX.blk (f2.blk hB9 aac) aac;refine⟨some r,rfl,dX.same aae,some ⟨b,0,none⟩,aj7,bS.only dX,(Nu arB arA (L:=gl j) aG (λk=>by rw[hgv];simp) (λg hg=>Ga g (by rw[<-hgv];exact hg)) aG sd.fo kA).mono ?_⟩;rintro _ eT ⟨rfl,F7,fk⟩;refine⟨rfl,fk.same aae,some ⟨b,0,none⟩,fk.blk aj7 aae,λk hk bT=>fk.block k bT (by rw[hk];simp;omega),rfl,by rw[hcb];exact F7,((o9.cr f2).cr dX).trans fk λx hx=>.inl hx⟩
   rw[aY λhh=>by rw[hbb.2 hh]at hf;cases hf]at hcb;rw[hcb];exact MapV.only hW6.set fX aac
  refine⟨λhn=>?_,λhn=>⟨rfl,Only.refl _ _,⟨λh=>aal,λ⟨h,_⟩=>?_⟩⟩⟩
  ·have hn:=aP hn;refine(aca (f:=⟨.func (.func 65) #[] #[ai (some ⟨k0,0,none⟩)],rfl⟩) Ur (by have:=wN p.sp j;omega) ⟨eU (by kernel_rfl),λy hy v CQ=>?_⟩ (p:=λy=>nY T y) (cap:=[ai (some ⟨k0,0,none⟩)]) rfl).mono ?_
   ·have CQ:aA [] w6 v:=CQ.only λ_ h=>h.elim;have cb:=CQ.blk cb6 aac;have cW:=hW6.o0 CQ;refine(anN y ⟨k0,0,none⟩ (λc w'=>c=ao (nY T y)/\aA [] v w') v ?_).mono acq;exact⟨some ⟨b,0,none⟩,cb.cells 0 _ aac,⟨b,0,none⟩,rfl,some r1,Blk.eh cW.blk 5 rfl,_,v,jt.at cW.set y,rfl,Only.refl _ _⟩
   rintro _ fI ⟨rfl,ez⟩;refine⟨_,rfl,ez.same aae,some ⟨b,0,none⟩,ez.blk cb6 aac,rfl,ez,?_⟩;have e:((cY p.sp j).any λy=>nY T y)=!((cY p.sp j).all λr=>!T.testBit r.toNat):=by
    rw[List.all_eq_not_any_not,kE];simp only[kE];rw[bW,fz,fz];refine tZ λy=>and_congr_right λhy=>?_;have:=(hRg y hy).1;unfold nY;rw[bJ this,cT]
   rw[e,kE];constructor
   ·exact λh=>⟨λe=>by rw[e]at U3;simp at U3;omega,h⟩
   exact λh=>h.2
  have hn:=aX hn;have:(cY p.sp j).length=0:=aG
  exact absurd (bR this) h
 have hc:=aX hc;have iA:j=p.sp.length:=aG
 subst iA;refine⟨_,rfl,some r1,Blk.eh hW.blk 5 rfl,(acb hW.set (BN (nX p.sp gl p.sp.length S)) λa=>?_).mono ?_⟩
 ·rw[yd];constructor
  ·rintro⟨k,rfl,_,h⟩;rw[BT];exact h
  intro h;have hg:=hW.set.ok h;unfold nY at h;rw[aR,bX]at h;exact⟨a.toNat,aG,by have:=hg.2;omega,h.2⟩
 rintro _ fS ⟨t,rfl,ht,ey⟩;refine⟨t,rfl,ey.same aae,t,rfl,ht.low aG,?_⟩;exact((up1 cO).trans hO λx hx=>.inl hx).cr ey
end
def oO(p:Pl)(M:ye)(S:Nat)(k:Int):Nat:=if k<0 then S else match p.ro[k.toNat]? with
 | some r=>if r.dom<0 then S else kY p.sp r.dom (r.tg.flatMap (fj p.sp p.dft M)) S
 | none=>S
abbrev Vu(p:Pl)(M:ye)(n:Nat):List Int:=fj p.sp p.dft M ((p.ini[n]?).getD 0)
structure Gdp (p:Pl) (M:ye):Prop where
 sd:Sd p.sp
 i:p.ini.length=p.sp.length
 d:p.dft.length=p.sp.length
 gl:∀(n:Nat) (t:cM),p.sp[n]? =some t->t.k≠2->cY p.sp n≠[]->∀g,g∈Vu p M n->pu p.sp g
 ro:∀r,r∈p.ro->∀t,t∈r.tg->∀g,g∈fj p.sp p.dft M t->pu p.sp g
theorem PlR.aom{w:ay}{F:aL}{s si sd sr:Sl}{p:Pl}(h:PlR w F s si sd sr p):PlR w (λk=>F k/\k<w.heap.size) s si sd sr p:=
 ⟨SliceF.inHeap db h.sp aN,SliceF.inHeap bF h.ini aN,SliceF.inHeap bF h.dft aN,SliceF.inHeap gP h.ro aN⟩
theorem Xo{l:List Int}{f:Int->List Int}{k:Int}:(l.any λt=>decide (k∈f t))=true↔k∈l.flatMap f:=by
 rw[fz,dY];simp only[bL]
section
variable {w w1 w0:ay} {b r0 r1:Nat} {s si rQ sr sp sk:Sl} {F G H:aL} {p:Pl} {L:List (Int×List Int)} {ks:List Int}
theorem ZD(hP:PlR w0 F s si rQ sr p)(hb:w0.heap.size<=b)(h0:w0.heap.size<=r0)(h01:r0<r1)(h1:r1<b)(hB:Wk w1 b s si rQ sr r0 r1)(hPa:PastV w1 (λk=>G k/\k<w0.heap.size) r0 (iX L))(hS:jt w1 r1 λ_=>false)(cG:aA [] w0 w1):WkP w1 b s si rQ sr r0 r1 (λk=>F k/\k<w0.heap.size) (λk=>G k/\k<w0.heap.size) p (iX L) 0:=
 ⟨hB,hP.aom.o0 cG,hPa,hS.of λk=>by simp[nY],aG,aG,aG,⟨adj,adj⟩,⟨adj,adj⟩⟩
theorem TJ(hP:PlR w F s si rQ sr p)(D:Gdp p (iX L))(hL:aD Ir 2 w G sp L)(hg:∀x,x∈L->gI x.1)(hR:aD rInt 1 w H sk ks):
  aB au 12 #[aj #[s.v,si.v,rQ.v,sr.v],sp.v,sk.v] w λe w'=>(∃t:Sl,e=aq t.v/\dd w.heap.size w' t (jg (nX p.sp (Vu p (iX L)) p.sp.length (ks.foldl (oO p (iX L)) 0))))/\aA [] w w':=by
 refine(ani s si rQ sr sp sk (λv w'=>(∃t:Sl,v=t.v/\dd w.heap.size w' t (jg (nX p.sp (Vu p (iX L)) p.sp.length (ks.foldl (oO p (iX L)) 0))))/\aA [] w w') w ?_).mono aaT;intro k0 w0 gU fD cO;have z0:=cO.size;refine(Ns w0 s si rQ sr (SliceF.only nr aN hL cO aac) hg).mono ?_;rintro _ w1 ⟨⟨b,r0,r1,rfl,hb,jL,h0,h01,h1,hB,hPa,xo⟩,cG⟩;have z1:=cG.size;have W1:=ZD (hP.o0 cO) hb h0 h01 h1 hB hPa xo cG;have o1:=cO.cr cG;have hn:=hR.len;have hc:=hR.cap;have Jd:=hR.big;refine⟨_,rfl,cG.same aae,λkv i u=>∃j:Nat,i=(j:Int)/\kv+j=ks.length/\j<=ks.length/\jt u r1 (nY ((ks.take j).foldl (oO p (iX L)) 0))/\aA [r1] w1 u,ks.length,⟨0,rfl,aG,bh _,W1.set,Only.refl _ _⟩,?_⟩;rintro kv _ u ⟨j,rfl,sJ,hj,hS,hO⟩;have hW:=W1.step hO hS;have zu:=hO.size;have o:aA [] w u:=o1.trans hO λx hx=>.inr aaj;refine⟨λhc=>?_,λhc=>?_⟩
 ·have hc:=aP hc;have iA:j<ks.length:=aG
  obtain⟨k,hk⟩:∃k,ks[j]? =some k:=⟨_,aQ iA⟩
  refine⟨λu2=>jt u2 r1 (nY ((ks.take (j+1)).foldl (oO p (iX L)) 0))/\aA [r1] w1 u2,?_,?_⟩
  ·rintro u2 ⟨g1,g2⟩;exact⟨kv-1,aG,j+1,aad,aG,aG,g1,g2⟩
  have aj9:(ks.take (j+1)).foldl (oO p (iX L)) 0=oO p (iX L) ((ks.take j).foldl (oO p (iX L)) 0) k:=by
   rw[bE,hk,kZ];rfl
  rw[aj9];generalize (ks.take j).foldl (oO p (iX L)) 0=T at*
  obtain⟨ad,a1,a2⟩:=gD (kI hR o) hk;refine⟨ad,a1,_,a2,(Iq hW.blk hW.pl.ro k).mono ?_⟩;rintro _ w4 ⟨⟨x1,x2,x3,ev,wt,tg,dom,is,rfl,his,PB⟩,dK⟩;have z4:=dK.size;refine⟨x1,x2,x3,ev,wt,tg,dom,is,rfl,dK.same aae,λht k4 w5 zY CM eJ=>?_,λhf k5 w8 CN F5 fX=>⟨?_,(hO.cr dK).cr fX⟩⟩
  ·obtain⟨n,r,rfl,hr,hd,rfl,sI⟩:=his ht;have z5:=eJ.size;have hW5:=(hW.o0 dK).o0 eJ;have Ga:=D.ro r (bB hr);have kA:=D.sd.le;refine⟨λk=>k=k4,rfl,(It hW5.blk hW5.pl.sp hW5.pl.dft hW5.past (kI sI eJ) D.d λt ht g hg=>?_).mono ?_⟩
   ·have:=Ga t ht g hg;exact⟨this.1,by have:=this.2;omega⟩
   rintro _ w6 ⟨⟨r',rfl,N0,hs6⟩,eH⟩;have z6:=eH.size;have hW6:=hW5.o0 eH;have NW:=MapV.lt hW5.set;refine⟨some r',rfl,eH.same aae,bS.only eH,(Nu hW6 hs6 (L:=r.tg.flatMap (fj p.sp p.dft (iX L))) aG (λk=>Xo) (λg hg=>?_) aG D.sd.fo kA).mono ?_⟩
   ·obtain⟨t,ht,hg⟩:=dY.1 hg;exact Ga t ht g hg
   rintro _ w7 ⟨rfl,h7,fN⟩;have e:oO p (iX L) T (n:Int)=kY p.sp r.dom (r.tg.flatMap (fj p.sp p.dft (iX L))) T:=by
    unfold oO;rw[aY aG,aU,hr];dsimp only;rw[aY aG]
   refine⟨rfl,fN.same aae,λk hk bT=>fN.block k bT (by rw[hk];simp;omega),by rw[e];exact h7,(((hO.cr dK).cr eJ).cr eH).trans fN λx hx=>.inl hx⟩
  have e:oO p (iX L) T k=T:=by
   unfold oO;by_cases gU:k<0
   ·rw[bc gU]
   rw[aY gU];obtain⟨n,rfl⟩:∃n:Nat,k=n:=⟨k.toNat,aG⟩
   rw[aU];cases hr:p.ro[n]? with
   | none=>rfl
   | some r=>
    dsimp only;rw[bc (PB hf n r rfl hr)]
  rw[e];exact MapV.only (MapV.only hW.set dK aac) fX aac
 have hc:=aX hc;have iA:j=ks.length:=aG
 subst iA;rw[qY]at hW;refine(Xn hW D.sd D.i D.d D.gl).mono ?_;rintro _ w9 ⟨t,rfl,ht,gH⟩;exact⟨t,rfl,gH.same aae,⟨t,rfl,ht.low aG⟩,o.trans gH λx hx=>.inr aaj⟩
end
section
variable {c:Ch} {M:ye} (N:Snd c (cx c) (Gm c)) (hM:uW (cx c) M)
include N hM
theorem ahJ:∀(n:Nat) (t:cM),(cx c)[n]? =some t->t.k=1->cY (cx c) n≠[]->Gd (cx c) n (λg=>(g:Int)∈Vu (dR c) M n)/\∀g,g∈Vu (dR c) M n->pu (cx c) g:=λn t ht h1 hr=>by
 have hb:n<(uV c.root).length:=by rw[nV,<-N.len];exact eS ht
 obtain⟨b,hb⟩:∃b,(uV c.root)[n]? =some b:=⟨_,aQ hb⟩
 have:Vu (dR c) M n=fj (cx c) ((uV c.root).map λb=>mY (cx c) b.dft) M (mY (cx c) b.ini):=by
  unfold Vu;have e:(dR c).ini[n]? =some (mY (cx c) b.ini):=by
   show((uV c.root).map λb=>mY (cx c) b.ini)[n]? =_;rw[ch,hb];rfl
  rw[e];rfl
 rw[this];exact N.Ug hM rfl ht hb h1 hr
theorem ace:Gdp (dR c) M where
 sd:=N.sd
 i:=by
  show((uV c.root).map _).length=(cx c).length;rw[bA,nV,<-N.len]
 d:=by
  show((uV c.root).map _).length=(cx c).length;rw[bA,nV,<-N.len]
 gl n t ht h2 hr:=by
  obtain⟨q,hq⟩:=gM _ hr;obtain⟨m,u,rfl,hu,hp,_⟩:=hY.1 hq;obtain⟨t',Gb,hk⟩:=N.hk n m ⟨u,hu,hp⟩;have ht:(cx c)[n]? =some t:=ht;rw[ht,be]at Gb;subst Gb;exact(ahJ N hM n t ht (hk.resolve_right h2) hr).2
 ro r hr t ht g hg:=by
  rcases N.wX hM rfl hr with⟨h,_⟩ | ⟨_,_,_,_,_,_,_,_,_,_,h⟩
  ·rw[h]at ht;cases ht
  exact h t ht g hg
end
end Go.Proofs.YtpbgcbdclnfpnaaGreatDoor.Con
namespace Go.Proofs
open Go.Shelf
def Tryz.KC:Go.Shelf.Ren:=⟨λ| 6=>41 | 15=>80 | 14=>79 | 28=>113 | 29=>114 | 20=>105 | 21=>106 | 22=>107 | 23=>108 | 24=>109 | 25=>110 | 26=>111 | 27=>112 | 46=>153 | 47=>154 | 48=>155 | 49=>156 | 50=>157 | 57=>186 | n=>n,λ| 22=>45 | 24=>97 | 25=>100 | 3=>3 | 39=>136 | 0=>0 | 53=>184 | 55=>186 | 4=>4 | 46=>178 | 45=>177 | 50=>86 | 5=>5 | 9=>9 | 66=>228 | 70=>202 | 76=>258 | 77=>219 | n=>n,λ| n=>n⟩
theorem Tryz.Uh:Go.Proofs.SlLaysF0.n6 Tryz.prog Tryz.KC:={
 mixed:=by kernel_rfl
 f6:=⟨Tryz.f41.name,aN,Tryz.func41.trans (bm some (by kernel_rfl))⟩
 f14:=⟨Tryz.f79.name,aN,Tryz.func79.trans (bm some (by kernel_rfl))⟩
 f15:=Tryz.func80.trans (bm some (by kernel_rfl))
 f20:=⟨Tryz.f105.name,aN,Tryz.func105.trans (bm some (by kernel_rfl))⟩
 f21:=⟨Tryz.f106.name,aN,Tryz.func106.trans (bm some (by kernel_rfl))⟩
 f22:=⟨Tryz.f107.name,aN,Tryz.func107.trans (bm some (by kernel_rfl))⟩
 f23:=⟨Tryz.f108.name,aN,Tryz.func108.trans (bm some (by kernel_rfl))⟩
 f24:=⟨Tryz.f109.name,aN,Tryz.func109.trans (bm some (by kernel_rfl))⟩
 f25:=⟨Tryz.f110.name,aN,Tryz.func110.trans (bm some (by kernel_rfl))⟩
 f26:=⟨Tryz.f111.name,aN,Tryz.func111.trans (bm some (by kernel_rfl))⟩
 f27:=⟨Tryz.f112.name,aN,Tryz.func112.trans (bm some (by kernel_rfl))⟩
 f28:=Tryz.func113.trans (bm some (by kernel_rfl))
 f29:=Tryz.func114.trans (bm some (by kernel_rfl))
 f46:=⟨Tryz.f153.name,aN,Tryz.func153.trans (bm some (by kernel_rfl))⟩
 f47:=Tryz.func154.trans (bm some (by kernel_rfl))
 f48:=Tryz.func155.trans (bm some (by kernel_rfl))
 f49:=⟨Tryz.f156.name,aN,Tryz.func156.trans (bm some (by kernel_rfl))⟩
 f50:=⟨Tryz.f157.name,aN,Tryz.func157.trans (bm some (by kernel_rfl))⟩
 f57:=⟨Tryz.f186.name,aN,Tryz.func186.trans (bm some (by kernel_rfl))⟩
 t0:=Tryz.underlying0
 a0:=Tryz.isAgg0
 z0:=Tryz.sizeOf0
 v0:=Tryz.zeroValue0
 t3:=Tryz.underlying3
 a3:=Tryz.isAgg3
 z3:=Tryz.sizeOf3
 v3:=Tryz.zeroValue3
 t4:=Tryz.underlying4
 a4:=Tryz.isAgg4
 z4:=Tryz.sizeOf4
 v4:=Tryz.zeroValue4
 t5:=Tryz.underlying5
 a5:=Tryz.isAgg5
 z5:=Tryz.sizeOf5
 v5:=Tryz.zeroValue5
 t9:=Tryz.underlying9
 a9:=Tryz.isAgg9
 z9:=Tryz.sizeOf9
 v9:=Tryz.zeroValue9
 t22:=Tryz.underlying45
 a22:=Tryz.isAgg45
 z22:=Tryz.sizeOf45
 v22:=Tryz.zeroValue45
 t25:=Tryz.underlying100
 a25:=Tryz.isAgg100
 z25:=Tryz.sizeOf100
 v25:=Tryz.zeroValue100
 t39:=Tryz.underlying136
 a39:=Tryz.isAgg136
 z39:=Tryz.sizeOf136
 v39:=Tryz.zeroValue136
 t45:=Tryz.underlying177
 a45:=Tryz.isAgg177
 z45:=Tryz.sizeOf177
 v45:=Tryz.zeroValue177
 t46:=Tryz.underlying178
 a46:=Tryz.isAgg178
 z46:=Tryz.sizeOf178
 v46:=Tryz.zeroValue178
 t50:=Tryz.underlying86
 a50:=Tryz.isAgg86
 z50:=Tryz.sizeOf86
 v50:=Tryz.zeroValue86
 t53:=Tryz.underlying184
 a53:=Tryz.isAgg184
 z53:=Tryz.sizeOf184
 v53:=Tryz.zeroValue184
 t55:=Tryz.underlying186
 a55:=Tryz.isAgg186
 z55:=Tryz.sizeOf186
 v55:=Tryz.zeroValue186
 t66:=Tryz.underlying228
 a66:=Tryz.isAgg228
 z66:=Tryz.sizeOf228
 v66:=Tryz.zeroValue228
 t70:=Tryz.underlying202
 a70:=Tryz.isAgg202
 z70:=Tryz.sizeOf202
 v70:=Tryz.zeroValue202
 t76:=Tryz.underlying258
 a76:=Tryz.isAgg258
 z76:=Tryz.sizeOf258
 v76:=Tryz.zeroValue258
 t77:=Tryz.underlying219
 a77:=Tryz.isAgg219
 z77:=Tryz.sizeOf219
 v77:=Tryz.zeroValue219}
def Tryz.KD:Go.Shelf.Ren:=⟨λ| 5=>43 | 7=>81 | n=>n,λ| 22=>3 | 3=>3 | 4=>4 | n=>n,λ| n=>n⟩
theorem Tryz.acz:Go.Proofs.SlLaysC2.n5 Tryz.prog Tryz.KD:={
 mixed:=by kernel_rfl
 f5:=⟨Tryz.f43.name,aN,Tryz.func43.trans (bm some (by kernel_rfl))⟩
 f7:=⟨Tryz.f81.name,aN,Tryz.func81.trans (bm some (by kernel_rfl))⟩
 t3:=Tryz.underlying3
 a3:=Tryz.isAgg3
 z3:=Tryz.sizeOf3
 v3:=Tryz.zeroValue3
 t4:=Tryz.underlying4
 a4:=Tryz.isAgg4
 z4:=Tryz.sizeOf4
 v4:=Tryz.zeroValue4
 t22:=Tryz.underlying3
 a22:=Tryz.isAgg3
 z22:=Tryz.sizeOf3
 v22:=Tryz.zeroValue3}
open Go.RowKit Go.Lib Go.Sort Go.Shelf in
theorem Tryz.XY (x y:Int) (a1 a2:Option Addr) (n1 c1 n2 c2:Nat) (W:World):Calls Tryz.prog 42 #[.agg #[.int .i64 x,.slice a1 n1 c1],.agg #[.int .i64 y,.slice a2 n2 c2]] W λe w'=>e=.returned (.int .i64 (Lib.compareInt x y))/\∃q os',w'=grow (W.drewN q) os':=by
 have aeo:=λW'=>AnyG.cmp_Compare_int Tryz.acz x y W';change ∀W',Calls Tryz.prog 43 _ _ _ at aeo;generalize Lib.compareInt x y=r at aeo⊢
 go_enter Tryz.func42,Tryz.ntmps42
 go_wp2_with (go_at_call 43;refine(aeo _).mono ?_;rintro e w' ⟨rfl,rfl⟩)
 go_ret
 exact⟨rfl,0,_,by rw[alloc_eq_grow,alloc_eq_grow,grow_grow];rfl⟩
open Go.RowKit Go.Lib Go.Sort Go.Shelf in
theorem Tryz.Ui {α:Type} [Inhabited α] (enc:α->List Value) (hk:∀x,(enc x).length=2) (h1:∀x,∀v∈enc x,v.oneCell'=true) (cf:α->α->Int) (hO:SWO (ltOf cf)) (blk off cap:Nat) (d:Array α) (w:World)
  (arC:Go.Proofs.CmpLays Tryz.prog 42 #[] enc 2 cf blk off d.size w) (hH:HoldsK enc 2 w blk off d) (hblk:blk<w.heap.size) (hsz:d.size<4611686018427387904):
  Calls Tryz.prog 41 #[.slice (some ⟨blk,off,none⟩) d.size cap,.func (.func 42) #[] #[]] w λe w'=>
   e=.returned (.tuple #[])/\∃d' n os,PermIn 0 d.size d d'/\SortedIn (ltOf cf) 0 d.size d'/\w'=sortWorldK enc 2 w blk off n d' os:=
 Go.Proofs.AnyQ.slices_SortFunc Tryz.Uh 2 Tryz.isAgg97 Tryz.sizeOf97 enc hk h1 cf hO 42 #[] blk off cap d w (enters_of Tryz.func42 (by kernel_rfl) rfl) arC hH hblk hsz
open Go.RowKit Go.Lib Go.Sort Go.Shelf in
theorem Tryz.II (p:Option Addr) (cap:Nat) (fv:Value) (w:World):Calls Tryz.prog 41 #[.slice p 0 cap,fv] w λe w'=>e=.returned (.tuple #[])/\w'=w:=
 Go.Proofs.AnyF.slices_SortFunc_none Tryz.Uh p cap fv w
end Go.Proofs
namespace Go.Proofs.YtpbgcbdclnfpnaaGreatDoor.Con
open Go Go.RowKit Go.Kt Go.Kt.V Go.Proofs.YtpbgcbdclnfpnaaGreatDoor.Vc
instance au4:Inhabited Sl:=⟨Sl.nil⟩
abbrev PaG:=Int×Sl×List Int
def lP(z:PaG):aK:=[O ae z.1,z.2.1.v]
section
variable {w:ay} {F:aL}
theorem Iu:∀{L:List (Int×List Int)} {css:List (aK)},lV Ir 2 w F L css->∃Z:List PaG,Z.map (λz=>(z.1,z.2.2))=L/\css=Z.map lP/\∀z,z∈Z->aD rInt 1 w F z.2.1 z.2.2
 | [],[],_=>⟨[],rfl,rfl,λ_ h=>aal⟩
 | x::L,c::css,⟨⟨_,t,e,ht⟩,h⟩=>by
  obtain⟨Z,h1,h2,h3⟩:=Iu h;refine⟨(x.1,t,x.2)::Z,by rw[bH,h1],by rw[bH,<-h2,e];rfl,λz hz=>?_⟩;rcases aV.1 hz with rfl | hz
  ·exact ht
  exact h3 z hz
 | [],_::_,h=>h.elim
 | _::_,[],h=>h.elim
theorem TK:∀{Z:List PaG},(∀z,z∈Z->aD rInt 1 w F z.2.1 z.2.2)->lV Ir 2 w F (Z.map λz=>(z.1,z.2.2)) (Z.map lP)
 | [],_=>trivial
 | z::Z,h=>⟨⟨rfl,z.2.1,rfl,h z (.head _)⟩,TK λy hy=>h y (.tail _ hy)⟩
end
theorem BU(Z:List PaG):Sort.flatK lP 2 Z.toArray=((Z.map lP).flatten).toArray:=by
 have fy:((Z.map lP).flatten).length=Z.length*2:=by
  rw[qb (size:=2) (λc hc=>acE),bA]
 refine Sort.ext_get! (by rw[Sort.size_flatK,eK,eK,fy]) λt ht=>?_;rw[Sort.size_flatK,eK]at ht;rw[Sort.get_flatK _ _ _ _ (by rw[eK];exact ht)];have hq:t/2<Z.length:=aG
 have h1:(Z.map lP)[t/2]? =some (lP Z[t/2]):=by rw[ch,aQ hq];rfl
 have h2:t % 2<(lP Z[t/2]).length:=by
  show t % 2<2;omega
 have h3:=Eg (size:=2) (λc hc=>acE) h1 (aQ h2);rw[show t/2*2+t % 2=t by omega]at h3;rw[oT (Z.toArray) (t/2) (by simpa using hq),oT ((Z.map lP).flatten).toArray t (by rw[eK,fy];exact ht)];simp only[List.getElem_toArray];rw[oT (lP Z[t/2]) (t % 2) h2];have h4:=(aZ.1 h3).2;exact h4.symm
theorem ahK{a b tail:aK}(h:a.length=b.length):Sort.putCells id 0 a.toArray ((b++tail).toArray)=(a++tail).toArray:=by
 apply Array.ext_getElem?;intro k;simp only[Sort.putCells,Array.getElem?_mapIdx,je,eK];by_cases hk:k<a.length
 ·rw[bM aG,bM hk,aQ (show k<b.length by omega),aQ hk];simp only[dH];rw[bc ⟨bh _,aG⟩,kD,oT _ k aas];simp
 rw[bZ aG,bZ aG,h];cases tail[k-b.length]? with
 | none=>rfl
 | some v=>
  simp only[dH];rw[aY aG]
theorem TL{w:ay}{g:Nat}{e:TypeId}{b tail a:aK}(h:aH w g e (b++tail))(ha:a.length=b.length)(n:Nat)(os:Array Obj):aH (Sort.grow (Sort.putRow id (Sort.ahead w n) g 0 a.toArray) os) g e (a++tail)/\aA [g] w (Sort.grow (Sort.putRow id (Sort.ahead w n) g 0 a.toArray) os):=by
 have bT:=h.lt;refine⟨?_,rfl,rfl,rfl,aac,λk hk hn=>?_⟩
 ·unfold aH;rw[Sort.heap_grow_old _ _ (by simpa using bT)];show(w.heap.modify g _)[g]? =_;rw[gQ,bc rfl];unfold aH at h;rw[h];show some (Sort.onCells _ _)=_;unfold Sort.onCells;dsimp only;rw[ahK ha]
 rw[Sort.heap_grow_old _ _ aas];show(w.heap.modify g _)[k]? =_;rw[gQ,aY λe=>hn (by simp[e])]
theorem Kr{w:ay}{g:Nat}{e:TypeId}{b tail:aK}(h:aH w g e (b++tail)):Sort.Holds id w g 0 b.toArray:=by
 intro j hj;have hj:j<b.length:=ac6
 rw[bO];refine⟨?_,?_⟩
 ·rw[h.cell,bM hj,aQ hj,oT _ j ac6];simp
 unfold World.frozen?;unfold aH at h;dsimp only;rw[h];simp
theorem Ks(x y:PaG):Go.Proofs.ltOf (λx y:PaG=>Lib.compareInt x.1 y.1) x y=decide (x.1<y.1):=by
 unfold Go.Proofs.ltOf Lib.compareInt;by_cases h1:x.1<y.1
 ·simp[h1]
 by_cases h2:y.1<x.1<;>simp[h1,h2]
theorem Xp:Sort.SWO (Go.Proofs.ltOf λx y:PaG=>Lib.compareInt x.1 y.1) where
 irrefl x:=by rw[Ks];simp
 trans x y z h1 h2:=by rw[Ks]at*;simp at*;omega
 ntrans x y z h1 h2:=by rw[Ks]at*;simp at*;omega
theorem Xq{w:ay}{B:Nat}{F:aL}{s:Sl}{L:List (Int×List Int)}(h:Own Ir 2 97 B w F s L)(hm:L.length<=1000000):aB au 41 #[s.v,.func (.func 42) #[] #[]] w λe w'=>e=aq (ak #[])/\∃L':List (Int×List Int),L'.Perm L/\Own Ir 2 97 B w' F s L'/\aF (im s) w w':=by
 rcases h with⟨rfl,rfl⟩ | ⟨g,css,tail,ha,hB,hblk,ux,hn,hc,Ul,hE⟩
 ·refine(Tryz.II none 0 _ w).mono ?_;rintro _ u ⟨rfl,hu⟩;obtain rfl:w=u:=hu.symm;exact⟨rfl,[],List.Perm.refl _,Own.nil _ _ _ _ _ _,OnlyP.refl _ _⟩
 obtain⟨Z,rfl,rfl,hZ⟩:=Iu hE;obtain⟨sa,sn,sc⟩:=s;dsimp only at ha ux hn hc Ul;subst ha;rw[bA]at hn hm;subst hn;have hH:Sort.HoldsK lP 2 w g 0 Z.toArray:=by
  unfold Sort.HoldsK;rw[BU];exact Kr hblk
 refine(Tryz.Ui lP (λ_=>rfl) (λx v hv=>by
  simp only[lP,aV,bp,cm]at hv;rcases hv with rfl | rfl<;>rfl) (λx y=>Lib.compareInt x.1 y.1) Xp g 0 sc Z.toArray w (λ_ _ _ _ x y=>Tryz.XY x.1 y.1 _ _ _ _ _ _ _) hH hblk.lt (by rw[eK];omega)).mono ?_
 rintro _ w' ⟨rfl,d',n,os,⟨hsz,_,hp⟩,_,rfl⟩;have hd:d'.extract 0 Z.toArray.size=d':=by rw[<-hsz];simp
 have hz:Z.toArray.extract 0 Z.toArray.size=Z.toArray:=aac
 rw[hd,hz]at hp;have hp:d'.toList.Perm Z:=hp;have KE:((d'.toList.map lP).flatten).length=((Z.map lP).flatten).length:=by
  rw[qb (size:=2) (λc hc=>acE),qb (size:=2) (λc hc=>acE),bA,bA,hp.length_eq]
 have ew:Go.Proofs.sortWorldK lP 2 w g 0 n d' os=Sort.grow (Sort.putRow id (Sort.ahead w n) g 0 ((d'.toList.map lP).flatten).toArray) os:=by
  unfold Go.Proofs.sortWorldK Sort.putRowK;rw[<-BU]
 obtain⟨jL,hO⟩:=TL hblk KE n os;rw[ew];refine⟨rfl,d'.toList.map λz=>(z.1,z.2.2),hp.map _,.inr ⟨g,d'.toList.map lP,tail,rfl,hB,jL,ux,by rw[bA,hp.length_eq],hc,Ul,TK λz hz=>SliceF.only bF aN (hZ z (hp.mem_iff.1 hz)) hO λk hk _ hm=>hk.2 abz⟩,hO.p λx hx=>?_⟩;simp only[aO]at hx;subst hx;exact .inl rfl
section
variable {w:ay} {F G:aL} {l sa:Sl} {xs:List cM} {is:List Int}
theorem Ku(h:aD rInt 1 w F sa is)(n:Int)(hm:is.length<=4611686018427387903):aB au 13 #[sa.v,O ae n] w λe w'=>e=aq (ao (decide (n∈is)))/\w'=w:=by
 refine ret (ang _ _ _ _ ?_);have hl:=h.len;refine⟨λkv i u=>∃j:Nat,i=(j:Int)/\kv+j=is.length/\j<=is.length/\n∉is.take j/\w=u,is.length,⟨0,rfl,aG,bh _,aac,rfl⟩,?_⟩;rintro kv _ _ ⟨j,rfl,sJ,hj,hn,rfl⟩;refine⟨λhc=>?_,λhc=>?_⟩
 ·have hc:=aP hc;have iA:j<is.length:=aG
  obtain⟨ad,a1,a2⟩:=gD h (aQ iA);refine⟨ad,a1,_,a2,λhe=>?_,λhe=>⟨kv-1,aG,j+1,aad,aG,aG,?_,rfl⟩⟩
  ·have he:is[j]=n:=acQ
   exact⟨by rw[bJ (by rw[<-he];exact dZ iA)],rfl⟩
  have he:¬is[j]=n:=acQ
  rw[bE,aQ iA,bN];rintro(h | h)
  ·exact hn h
  simp only[Option.toList,aO]at h;exact he h.symm
 have hc:=aX hc;rw[bq aG]at hn;exact⟨by rw[bI hn],rfl⟩
theorem tN{w u:ay}{s:Sl}{is:List Int}{B:Nat}(h:dd B w s is)(hO:aA [] w u):dd B u s is:=h.keep bF λk _ bT=>hO.block k bT aac
end
section
variable {w:ay} {F G:aL} {l sa:Sl} {xs:List cM} {act:List Int}
theorem ZE{u:ay}{S:aL}(h:aD nN 5 w F l xs)(hO:aF S w u)(hS:∀k,F k->k<w.heap.size->¬S k):aD nN 5 u F l xs:=SliceF.nP db aN h hO hS
theorem Xr(w:ay)(k:Int):aB au 69 #[O ae k] w λe w'=>e=aq (ao (xr k))/\w'=w:=by
 refine ret (anP _ _ _ ?_);exact⟨rfl,rfl⟩
theorem Kv{k0 t:Nat}(h:aD nN 5 w F l xs)(hB:aH w k0 t [l.v]){q:Nat}{s:cM}(hq:xs[q]? =some s):aB au 68 #[O ae (q:Int),ai (some ⟨k0,0,none⟩)] w λe w'=>e=aq (ao (!(xr s.k)))/\w'=w:=by
 refine ret (anO _ _ _ _ ?_);obtain⟨ad,a1,a2,_⟩:=jJ h hq;refine⟨l,hB.cells 0 _ aac,ad,a1,s.k,a2.eh 0 _ rfl,(Xr w s.k).mono ?_⟩;rintro _ u ⟨rfl,hu⟩;exact⟨_,rfl,rfl,hu⟩
theorem uw(h:aD nN 5 w F l xs)(hF:Sd xs){n:Nat}{x:cM}(hx:xs[n]? =some x):aB au 28 #[l.v,O ae (n:Int)] w λe w'=>(∃(s:Sl),e=aq (Sl.v s)/\dd w.heap.size w' s (cY xs n))/\aA [] w w':=by
 have hm:=hF.le;refine(anE l n (λv w'=>(∃(s:Sl),v=Sl.v s/\dd w.heap.size w' s (cY xs n))/\aA [] w w') w ?_).mono aau;intro k0 w0 gU fD cO;have z0:=cO.size;refine(Kb (SliceF.only db aN h cO aac) hF.fo hx aG).mono ?_;rintro _ w1 ⟨⟨s1,rfl,xo⟩,cG⟩;have z1:=cG.size;refine⟨s1,rfl,cG.same aae,λhB=>?_⟩;have KN:(fg xs n xs.length).length<=xs.length:=by
  unfold fg;rw[bA];exact bf (cu _ _) acY
 have o1:=cO.cr cG;have h1:aD nN 5 w1 (λk=>F k/\k<w.heap.size) l xs:=SliceF.only db aN (SliceF.inHeap db h aN) o1 aac;have QE:s1.a≠some ⟨k0,0,none⟩:=λe=>by
  have:=(xo.blk e).1;dsimp only at this;omega
 refine(rK (f:=⟨.func (.func 68) #[] #[ai (some ⟨k0,0,none⟩)],rfl⟩) xo aG ⟨eU (by kernel_rfl),λy hy u hO=>?_⟩ (p:=λk=>!(xr (kd xs k))) (cap:=[ai (some ⟨k0,0,none⟩)]) rfl).mono ?_
 ·obtain⟨q,t,rfl,_,h2,_⟩:=qG.1 hy;rw[kz h2];refine(Kv (ZE h1 hO λk hk _ e=>?_) (hO.blk hB QE) h2).mono ?_
  ·have:=(xo.blk e).1;dsimp only at this;omega
  rintro _ u' ⟨rfl,hu⟩;obtain rfl:u=u':=hu.symm;exact⟨rfl,Only.refl _ _⟩
 rintro _ w2 ⟨s2,rfl,UX,_,Gx,dk⟩;refine⟨s2,rfl,l,dk.blk hB QE,⟨s2,rfl,?_⟩,(o1.mZ (dk.mono (G:=λk=>w.heap.size<=k) λk _ e=>by have:=(xo.blk e).1;dsimp only at this;omega)).only λk hk=>hk⟩;have:(fg xs n xs.length).filter (λx=>!!(xr (kd xs x)))=cY xs n:=by
  unfold cY;congr 1;funext k;rw[kE]
 rw[this]at Gx;exact Own.low Gx aG
theorem aoe(ha:aD rInt 1 w G sa act)(hr:act.Pairwise (· <·))(gq:act≠[])(hm:act.length<=1000000000)(x:Int):aB au 29 #[sa.v,O ae x] w λe w'=>(∃i:Int,e=aq (ak #[O ae i,ao (decide (x∈act))]))/\aA [] w w':=by
 obtain⟨a,n,c⟩:=sa;have hl:=ha.len;dsimp only at hl;have h0:0<act.length:=gz.2 gq;obtain⟨base,cs,e1,_,fy,c0,_⟩:=ha.at_ 0 _ (aQ h0);dsimp only at e1;obtain⟨b,o,sp⟩:=base;have xx:sp=none:=by
  have:=c0;cases cs with
  | nil=>cases fy
  | cons v cs=>
   have hc:=c0 0 v rfl;exact World.cell?_spot hc
 subst xx e1 hl;have Cg:∀j,j<act.length->w.cell? ⟨b,o+j,none⟩=some (.int ae (act.getD j 0)):=λj hj=>by
  obtain⟨base,cs,e1,_,_,c0,hc,_⟩:=ha.at_ j _ (aQ hj);injection e1 with e1;subst e1 hc;have:=c0 0 _ rfl;rw[fP,fP]at this;rw[List.getD_eq_getElem?_getD,aQ hj];simpa using this
 refine(Tryz.slices_BinarySearch_int b o act.length c act x w (ba _) aG Cg (by
  rw[bq (ba _)];exact hr.imp λh=>Int.le_of_lt h)).mono ?_
 rintro _ w' ⟨rfl,q,rfl⟩;rw[bq (ba _)];have e:act.contains x=decide (x∈act):=by
  rw[bW];simp
 rw[e];exact⟨⟨_,rfl⟩,Only.drewN w q⟩
end
def Qk(xs:List cM)(n:Int):Bool:=decide (n>=0)&&decide (n<(xs.length:Int))&&(kd xs n==1)&&((cY xs n.toNat).length==0)
theorem acg(xs:List cM)(act:List Int):rJ (act.filter (Qk xs))=CG xs act:=by
 refine wO (O7 _) (wP _ _) λx=>?_;unfold CG;rw[BK,pA,di];unfold Qk lvP;constructor
 ·rintro⟨h1,h2⟩;simp only[aR,bL]at h2;obtain⟨k,rfl⟩:∃k:Nat,x=k:=⟨x.toNat,aG⟩
  rw[aU]at h2;exact⟨k,rfl,aG,by simp only[aR,bL];exact⟨⟨h1,h2.1.2⟩,h2.2⟩⟩
 rintro⟨k,rfl,h1,h2⟩;simp only[aR,bL]at h2;refine⟨h2.1.1,?_⟩;rw[aU];simp only[aR,bL];exact⟨⟨⟨aG,aG⟩,h2.1.2⟩,h2.2⟩
theorem Nv{xs:List cM}(hF:Fo xs):∀(n:Nat) {p:Int} {l:List Int},p<n->Ups xs p l->l.length<=n
 | 0,p,l,hp,h=>by
  cases h with
  | stop=>exact ba _
  | go h1 h2=>omega
 | n+1,p,l,hp,h=>by
  cases h with
  | stop=>exact bh _
  | go h1 h2=>
   have:=hF.uX h1;have:=Nv hF n (p:=_) aG h2;rw[bn];omega
section
variable {w:ay} {F G:aL} {l sa:Sl} {xs:List cM} {act:List Int}
theorem TM(h:aD nN 5 w F l xs)(hF:Sd xs)(n:Int):aB au 77 #[l.v,O ae n] w λe w'=>e=aq (ao (Qk xs n))/\aA [] w w':=by
 refine ret (anK _ _ _ _ ?_);have hl:=h.len;obtain⟨ad,k,a1,a2,a3⟩:∃(ad:Addr) (k:Int),((decide (n>=0)&&decide (n<(l.n:Int)))=true->dE l n 5 ad)/\((decide (n>=0)&&decide (n<(l.n:Int)))=true->aE w (ad.add 0) [O ae k])/\((decide (n>=0)&&decide (n<(l.n:Int)))=true->kd xs n=k/\∃s,xs[n.toNat]? =some s):=by
  by_cases hb:0<=n/\n<xs.length
  ·obtain⟨m,rfl⟩:∃m:Nat,n=m:=⟨n.toNat,aG⟩
   obtain⟨y,hy⟩:=fL (xs:=xs) (i:=m) aG;obtain⟨ad,a1,a2,_⟩:=jJ h hy;exact⟨ad,y.k,λ_=>a1,λ_=>a2.eh 0 _ rfl,λ_=>⟨kz hy,y,by rw[aU];exact hy⟩⟩
  have hf:(decide (n>=0)&&decide (n<(l.n:Int)))=true->False:=λhh=>by
   rw[aR]at hh;have h1:=aP hh.1;have h2:=aP hh.2;omega
  exact⟨default,0,λhh=>(hf hh).elim,λhh=>(hf hh).elim,λhh=>(hf hh).elim⟩
 refine⟨λb u=>b=Qk xs n/\aA [] w u,λb u hh=>⟨by rw[hh.1],hh.2⟩,ad,a1,k,a2,λhb=>?_,λhb=>⟨?_,Only.refl _ _⟩⟩
 ·rw[aR]at hb;obtain⟨e1,s,hs⟩:=a3 hb.1;rw[aR]at hb;have h1:=aP hb.1.1;have h2:=aP hb.1.2;obtain⟨m,rfl⟩:∃m:Nat,n=m:=⟨n.toNat,aG⟩
  rw[aU]at hs;refine(uw h hF hs).mono ?_;rintro _ w1 ⟨⟨s1,rfl,xo⟩,cG⟩;refine⟨s1,rfl,?_,cG⟩;unfold Qk;rw[hl]at hb;rw[hb.1.1,hb.1.2,e1,hb.2,xo.len,aU,cT,cT,cT,bW,dq,dq];omega
 unfold Qk;rw[hl]at hb a3;cases hc:decide (n>=0)&&decide (n<(xs.length:Int))with
 | false=>rfl
 | true=>
  rw[hc]at hb;rw[(a3 hc).1,hb,eN]
theorem Iv(h:aD nN 5 w F l xs)(hF:Sd xs)(ha:aD rInt 1 w G sa act)(hm:act.length<=1100000):aB au 38 #[l.v,sa.v] w λe w'=>(∃(s:Sl),e=aq (Sl.v s)/\dd w.heap.size w' s (CG xs act))/\aA [] w w':=by
 refine(ano l sa (λv w'=>(∃(s:Sl),v=Sl.v s/\dd w.heap.size w' s (CG xs act))/\aA [] w w') w ?_).mono aau;intro k0 w0 gU fD cO;have z0:=cO.size;refine(Fx (kI ha cO) aG).mono ?_;rintro _ w1 ⟨s1,rfl,xo,cG⟩;have z1:=cG.size;have o1:=cO.cr cG;refine⟨s1,rfl,cG.same aae,λhB=>?_⟩;have h1:aD nN 5 w1 (λk=>F k/\k<w.heap.size) l xs:=SliceF.only db aN (SliceF.inHeap db h aN) o1 aac;have lz:∀{k:Nat},s1.a=some ⟨k,0,none⟩->w0.heap.size<=k:=λe=>(xo.blk e).1;have QE:s1.a≠some ⟨k0,0,none⟩:=λe=>aa5
 refine(rK (f:=⟨.func (.func 76) #[] #[ai (some ⟨k0,0,none⟩)],rfl⟩) xo aG ⟨eU (by kernel_rfl),λy hy u hO=>?_⟩ (p:=λk=>!(Qk xs k)) (cap:=[ai (some ⟨k0,0,none⟩)]) rfl).mono ?_
 ·have hu:=ZE h1 hO λk hk _ e=>aa5
  have QH:=hO.blk hB QE;refine(anJ y ⟨k0,0,none⟩ (λv w'=>v=ao (!(Qk xs y))/\aA [] u w') u ?_).mono aav;refine⟨l,QH.cells 0 _ aac,(TM hu hF y).mono ?_⟩;rintro _ u' ⟨rfl,IY⟩;exact⟨_,rfl,rfl,IY⟩
 rintro _ w2 ⟨s2,rfl,UX,_,Gx,dk⟩;have e2:act.filter (λx=>!!(Qk xs x))=act.filter (Qk xs):=by
  congr 1;funext k;rw[kE]
 rw[e2]at Gx;have pF:=dk.blk hB QE;have KE:=cu (Qk xs) act;refine⟨s2,rfl,l,pF,(Tu Gx aG).mono ?_⟩;rintro _ w3 ⟨s3,rfl,hsb,Ct,dz⟩;rw[acg]at Ct;refine⟨s3,rfl,l,dz.blk pF (by rw[UX];exact QE),⟨s3,rfl,Own.low Ct z0⟩,?_⟩;have o2:aF (λk=>w.heap.size<=k) w w2:=o1.mZ (dk.mono λk _ e=>aa5);exact(o2.trans (dz.mono (G:=λk=>w.heap.size<=k) λk _ e=>by rw[UX]at e;have:=lz e;omega) λk hk=>.inl hk).only λk hk=>hk
end
theorem DK:∀{L:List (Int×List Int)} {M:ye} {k:Int} {l:List Int},(L.map (·.1)).Nodup->((L.foldl (λM x=>λk=>if k=x.1 then some x.2 else M k) M) k=some l↔(k,l)∈L∨(k∉L.map (·.1)/\M k=some l))
 | [],M,k,l,_=>aac
 | x::L,M,k,l,h=>by
  obtain⟨h1,h2⟩:=kV.1 h;rw[iC,DK h2];constructor
  ·rintro(h3 | ⟨h3,h4⟩)
   ·exact .inl (.tail _ h3)
   by_cases e:k=x.1
   ·rw[bc e]at h4;injection h4 with h4;exact .inl (by rw[e,<-h4];exact .head _)
   rw[aY e]at h4;exact .inr ⟨λhm=>(aV.1 hm).elim e h3,h4⟩
  rintro(h3 | ⟨h3,h4⟩)
  ·rcases aV.1 h3 with h3 | h3
   ·subst h3;exact .inr ⟨h1,bc rfl⟩
   exact .inl h3
  have:k≠x.1:=λe=>h3 (by rw[e];exact .head _);exact .inr ⟨λhm=>h3 (.tail _ hm),by rw[aY this];exact h4⟩
theorem Xs{L:List (Int×List Int)}{M:ye}(hn:(L.map (·.1)).Nodup)(h:∀k l,(k,l)∈L↔M k=some l):iX L=M:=by
 funext k;have key:∀l,iX L k=some l↔M k=some l:=λl=>by
  unfold iX;rw[DK hn,<-h];exact⟨λh=>h.elim id λh=>(by cases h.2),.inl⟩
 cases hm:M k with
 | none=>
  cases hl:iX L k with
  | none=>rfl
  | some l=>rw[(key l).1 hl]at hm;cases hm
 | some l=>exact(key l).2 hm
def zl(xs:List cM)(act left:List Int)(M:ye)(j:Nat):ye:=λh=>if h<(j:Int)then vE xs act left M h else M h
def ZF(x:cM)(act left:List Int):Bool:=fU x.k&&decide (x.pa∈act)&&decide (x.pa∈left)
def Xt(xs:List cM)(x:cM)(act:List Int):List Int:=if x.k=4 then(CG xs act).filter λk=>jq xs k x.pa else(fg xs x.pa.toNat xs.length).filter λk=>decide (k∈act)
section
variable {xs:List cM} {act left:List Int} {M:ye}
theorem Nw{j:Nat}{x:cM}(h:xs[j]? =some x):vE xs act left M j=if ZF x act left=true then some (Xt xs x act)else M j:=by
 unfold vE;rw[aY aG,aU,h];rfl
theorem Pf:zl xs act left M 0=M:=by
 funext h;unfold zl;by_cases h0:h<((0:Nat):Int)
 ·rw[bc h0];unfold vE;rw[bc aG]
 rw[aY h0]
theorem TN:zl xs act left M xs.length=vE xs act left M:=by
 funext h;unfold zl;by_cases h0:h<(xs.length:Int)
 ·rw[bc h0]
 rw[aY h0];unfold vE;rw[aY aG,cN aG]
theorem Xu{j:Nat}{x:cM}(h:xs[j]? =some x)(hc:ZF x act left=false):zl xs act left M (j+1)=zl xs act left M j:=by
 funext k;unfold zl;by_cases e:k=(j:Int)
 ·subst e;rw[bc aG,aY aG,Nw h,aY (by rw[hc];simp)]
 by_cases h1:k<(j:Int)
 ·rw[bc aG,bc h1]
 rw[aY aG,aY h1]
theorem TP{j:Nat}{x:cM}(h:xs[j]? =some x)(hc:ZF x act left=true):zl xs act left M (j+1)=λk=>if k=(j:Int)then some (Xt xs x act)else if k=(j:Int)then none else zl xs act left M j k:=by
 funext k;unfold zl;by_cases e:k=(j:Int)
 ·subst e;rw[bc aG,bc rfl,Nw h,bc hc]
 rw[aY e,aY e];by_cases h1:k<(j:Int)
 ·rw[bc aG,bc h1]
 rw[aY aG,aY h1]
end
theorem Nx(xs:List cM)(x:cM)(act:List Int):(Xt xs x act).length<=xs.length:=by
 have hk:(fg xs x.pa.toNat xs.length).length<=xs.length:=by
  unfold fg;rw[bA];exact bf (cu _ _) (oX fE)
 have hl:(CG xs act).length<=xs.length:=rI _ _;unfold Xt;split
 ·exact bf (cu _ _) hl
 exact bf (cu _ _) hk
section
variable {w:ay} {k1:Nat} {sa sl:Sl} {G H:aL} {act l:List Int}
theorem ZG(hB:aH w k1 33 [sa.v])(ha:aD rInt 1 w G sa act)(hl:aD rInt 1 w H sl l)(hm:l.length<=2000000):aB au 31 #[sl.v,ai (some ⟨k1,0,none⟩)] w λe w'=>∃t:Sl,e=aq t.v/\dd w.heap.size w' t (l.filter λk=>decide (k∈act))/\aA [] w w':=by
 refine(anr sl ⟨k1,0,none⟩ (λv w'=>∃t:Sl,v=t.v/\dd w.heap.size w' t (l.filter λk=>decide (k∈act))/\aA [] w w') w ?_).mono abX;refine(Fx hl aG).mono ?_;rintro _ w4 ⟨t,rfl,N2,dK⟩;have z4:=dK.size;have lz:∀{q:Nat},t.a=some ⟨q,0,none⟩->w.heap.size<=q:=λe=>(N2.blk e).1;have nk:∀q,q<w.heap.size->¬(t.a=some ⟨q,0,none⟩):=λq hq e=>aa5
 have kc:=hB.lt;refine⟨t,rfl,(rK (f:=⟨.func (.func 34) #[] #[ai (some ⟨k1,0,none⟩)],rfl⟩) N2 hm ⟨eU (by kernel_rfl),λy hy u hO=>?_⟩ (p:=λy=>!decide (y∈act)) (cap:=[ai (some ⟨k1,0,none⟩)]) rfl).mono ?_⟩
 ·have cb:=hO.blk (dK.blk hB aac) (nk k1 kc);have ca:=(kI (SliceF.inHeap bF ha aN) dK).keep bF aN λk hk bT=>hO.block k bT (nk k hk.2);refine(ans y ⟨k1,0,none⟩ (λv w'=>v=ao (!decide (y∈act))/\aA [] u w') u ?_).mono aav;refine⟨sa,cb.cells 0 _ aac,(mV ca y).mono ?_⟩;rintro _ u' ⟨rfl,h⟩;exact⟨_,rfl,rfl,h⟩
 rintro _ w5 ⟨s2,rfl,UX,_,Gx,eJ⟩;refine⟨s2,rfl,s2,rfl,?_,(dK.mZ (eJ.mono (G:=λq=>w.heap.size<=q) λq _ e=>lz e)).only λq hq=>hq⟩;have e:(l.filter λx=>!(λy=>!decide (y∈act)) x)=l.filter λk=>decide (k∈act):=by
  congr 1;funext x;exact kE _
 rw[<-e];exact Gx
end
section
variable {w u:ay} {b r0 r1:Nat} {s si rQ sr sp sa sl:Sl} {F G G' H:aL} {p:Pl} {M:ye} {S:Nat} {L:List (Int×List Int)} {act left:List Int}
theorem WkP.Qm(h:WkP w b s si rQ sr r0 r1 F G p M S)(hO:aA [r0] w u):Wk u b s si rQ sr r0 r1/\PlR u F s si rQ sr p:=by
 have n:∀k,F k->k<w.heap.size->k∉[r0]:=λk hk _ hm=>by
  simp only[aO]at hm;exact h.nF.1 acZ
 exact⟨hO.blk h.blk (by simpa using λe=>h.n0 e.symm),⟨SliceF.only db aN h.pl.sp hO n,SliceF.only bF aN h.pl.ini hO n,SliceF.only bF aN h.pl.dft hO n,SliceF.only gP aN h.pl.ro hO n⟩⟩
theorem Ph(hP:PlR w F s si rQ sr p)(sd:Sd p.sp)(A:Lg p.sp act)(ha:aD rInt 1 w G sa act)(IX:act.length<=1000000)(hlf:aD rInt 1 w H sl left)(PS:left.length<=2000000)(hL:aD Ir 2 w G' sp L)(hg:∀x,x∈L->gI x.1)(hx:∀k l,iX L k=some l->l.length<=1000000):
  aB au 11 #[aj #[s.v,si.v,rQ.v,sr.v],sa.v,sl.v,sp.v] w λe w'=>(∃(t:Sl) (L':List (Int×List Int)),e=aq t.v/\Own Ir 2 97 w.heap.size w' (λk=>w.heap.size<=k) t L'/\iX L'=vE p.sp act left (iX L)/\∀x,x∈L'->gI x.1)/\aA [] w w':=by
 refine(anh s si rQ sr sa sl sp (λv w'=>(∃(t:Sl) (L':List (Int×List Int)),v=t.v/\Own Ir 2 97 w.heap.size w' (λk=>w.heap.size<=k) t L'/\iX L'=vE p.sp act left (iX L)/\∀x,x∈L'->gI x.1)/\aA [] w w') w ?_).mono (by rintro _ w' ⟨v,rfl,⟨t,L',rfl,h⟩,h'⟩;exact⟨⟨t,L',rfl,h⟩,h'⟩);intro k0 k1 w0 gU fD kc jO cO;have z0:=cO.size;have kA:=sd.le;have hxn:=hP.sp.len;have hxc:=hP.sp.cap;have hxb:=hP.sp.big;refine(Ns w0 s si rQ sr (SliceF.only nr aN hL cO aac) hg).mono ?_;rintro _ w1 ⟨⟨b,r0,r1,rfl,hb,jL,h0,h01,h1,hB,hPa,xo⟩,cG⟩;have z1:=cG.size;have W1:=ZD (hP.o0 cO) hb h0 h01 h1 hB hPa xo cG;have o1:=cO.cr cG;refine⟨_,rfl,cG.same aae,λhBk gq=>(ZG hBk (kI ha o1) (kI hlf o1) PS).mono ?_⟩;rintro _ w2 ⟨tg,rfl,sI,dk⟩;have z2:=dk.size;have W2:=W1.o0 dk;have o2:=o1.cr dk;have cB2:=dk.blk hBk aac;have aka:∀y:Int,y∈(left.filter λk=>decide (k∈act))↔y∈left/\y∈act:=λy=>by rw[di,bX]
 generalize PZ:(left.filter λk=>decide (k∈act))=gone at*
 have arE:=W2.n0;have au6:r0<w1.heap.size:=aG
 have up0:∀{a u:ay},aA [] a u->aA [r0] a u:=λhO=>(Only.refl [r0] _).cr hO;have P2:PastV w2 (λk=>(G' k/\k<w0.heap.size)∨w1.heap.size<=k) r0 (iX L):=W2.past.mono λk hk=>.inl hk;have hQr:¬((G' r0/\r0<w0.heap.size)∨w1.heap.size<=r0):=by rintro(⟨_,h⟩ | h)<;>omega
 refine⟨tg,rfl,dk.same aae,sa,cB2,λkv i l2 l3 l4 l5 l6 u=>∃j:Nat,i=(j:Int)/\kv+j=p.sp.length/\j<=p.sp.length/\(s=l2/\si=l3/\rQ=l4/\sr=l5/\sa=l6)/\PastV u (λk=>(G' k/\k<w0.heap.size)∨w1.heap.size<=k) r0 (zl p.sp act left (iX L) j)/\aA [r0] w2 u,p.sp.length,⟨0,rfl,aG,bh _,⟨rfl,rfl,rfl,rfl,rfl⟩,by rw[Pf];exact P2,Only.refl _ _⟩,?_⟩;rintro kv _ _ _ _ _ _ w3 ⟨j,rfl,sJ,hj,⟨rfl,rfl,rfl,rfl,rfl⟩,N5,dz⟩;have z3:=dz.size;have o23:aA [] w w3:=o2.trans dz λx hx=>.inr aaj;obtain⟨xf,akb⟩:=W2.Qm dz;have cB3:aH w3 k1 33 [sa.v]:=dz.blk cB2 aae;refine⟨λhc=>?_,λhc=>?_⟩
 ·have hc:=aP hc;have iA:j<p.sp.length:=aG
  obtain⟨x,hx⟩:∃x,p.sp[j]? =some x:=⟨_,aQ iA⟩
  refine⟨λl7 l8 l9 l10 oa u=>(s=l7/\si=l8/\rQ=l9/\sr=l10/\sa=oa)/\PastV u (λk=>(G' k/\k<w0.heap.size)∨w1.heap.size<=k) r0 (zl p.sp act left (iX L) (j+1))/\aA [r0] w2 u,?_,?_⟩
  ·rintro _ _ _ _ _ u ⟨⟨rfl,rfl,rfl,rfl,rfl⟩,h1,h2⟩;exact⟨kv-1,aG,j+1,aad,aG,aG,⟨rfl,rfl,rfl,rfl,rfl⟩,h1,h2⟩
  obtain⟨ad,e1,e2,_⟩:=jJ akb.sp hx;refine⟨ad,e1,_,_,_,_,_,e2,λk5 w5 CN F5 eJ cB5=>?_⟩;have z5:=eJ.size;have o35:=dz.cr eJ;refine⟨λb0 pU uy xu zq IJ i5 s1 i6 i7 i8 u=>(s=pU/\si=uy/\rQ=xu/\sr=zq/\sa=IJ)/\i5=x.k/\i6=x.pa/\b0=!ZF x act left/\aA [] w5 u,?_,(FE w5 x.k).mono ?_⟩
  ·rintro b0 _ _ _ _ _ _ s1 _ i7 i8 w6 ⟨⟨rfl,rfl,rfl,rfl,rfl⟩,rfl,rfl,xt,eH⟩;have z6:=eH.size;have o36:=o35.cr eH;refine⟨λht=>⟨⟨rfl,rfl,rfl,rfl,rfl⟩,?_,o36⟩,λhf=>?_⟩
   ·rw[Xu hx (by rw[ht]at xt;simpa using xt.symm)];exact(N5.o0 eJ).o0 eH
   have hcd:ZF x act left=true:=by rw[hf]at xt;simpa using xt.symm
   have aep:=hcd;unfold ZF at aep;simp only[aR,bL]at aep;obtain⟨⟨hh,VI⟩,NZ⟩:=aep;obtain⟨pn,epa,arH,_⟩:=rL sd A VI;obtain⟨y,hy⟩:∃y,p.sp[pn]? =some y:=⟨_,aQ arH⟩
   have akc:=(akb.o0 eJ).o0 eH;have cB6:=eH.blk cB5 aac;have arI:aD rInt 1 w6 G sa act:=kI (kI (kI ha o23) eJ) eH;have hkn:(fg p.sp pn p.sp.length).length<=p.sp.length:=by
    unfold fg;rw[bA];exact bf (cu _ _) (oX fE)
   rw[epa];refine(Kb akc.sp sd.fo hy aG).mono ?_;rintro _ w7 ⟨⟨t17,rfl,arJ⟩,fN⟩;have z7:=fN.size;have cB7:=fN.blk cB6 aac;refine⟨t17,rfl,fN.same aae,sa,cB7,λIK KL Qv X7 X8 X9 i9 s2 i10 i11 i12 u=>(s=KL/\si=Qv/\rQ=X7/\sr=X8/\sa=X9)/\(∃I8:List Int,aD rInt 1 u (λk=>w1.heap.size<=k) IK I8/\I8.length<=2000000/\(I8.filter λk=>decide (k∈act))=Xt p.sp x act)/\aA [] w6 u,?_,λh4=>?_,λh4=>⟨⟨rfl,rfl,rfl,rfl,rfl⟩,⟨_,arJ.sl.mono bF λk hk=>aG,aG,?_⟩,fN⟩⟩
   ·rintro IK _ _ _ _ _ i9 s2 i10 i11 i12 w8 ⟨⟨rfl,rfl,rfl,rfl,rfl⟩,⟨I8,arK,fy,hv⟩,fX⟩;have z8:=fX.size;have o38:=o36.cr fX;have hP8:=((N5.o0 eJ).o0 eH).o0 fX;obtain⟨ve,_⟩:=W2.Qm o38;obtain⟨w9,d1,d2,d3⟩:=PastV.drop hP8 (j:Int) hQr;have z9:=d3.size;refine⟨⟨b,0,none⟩,rfl,some r0,Blk.eh ve 4 rfl,w9,d1,d3.same aae,λdL dW akd=>?_⟩;have PM:=dW.size;have aeq:aA [r0] w2 dL:=(o38.trans d3 λx hx=>.inl hx).cr dW;obtain⟨uJ,_⟩:=W2.Qm aeq;have o10:aA [] w dL:=o2.trans aeq λx hx=>.inr aaj;have arL:aD rInt 1 dL (λk=>w1.heap.size<=k) IK I8:=kI (SliceF.only bF aN arK d3 λk hk _ hm=>by
     simp only[aO]at hm;omega) dW
    refine⟨λk=>k=b,⟨b,0,none⟩,rfl,rfl,some r0,Blk.eh uJ 4 rfl,(ZG akd (kI ha o10) arL fy).mono ?_⟩;rintro _ dN ⟨t25,rfl,arM,dX⟩;have D1:=dX.size;have arN:=dX.blk akd aac;obtain⟨eT,f1,f2,f3⟩:=PastV.set ((d2.o0 dW).o0 dX) (k:=(j:Int)) ⟨aG,aG⟩ (arM.sl.mono bF (G:=λk=>(G' k/\k<w0.heap.size)∨w1.heap.size<=k) λk hk=>.inr aG) hQr;refine⟨t25,rfl,dX.same aae,sa,arN,bS.only dX,eT,f1,f3.same aae,λk hk bT=>f3.block k bT (by rw[hk];simpa using λe=>arE e.symm),⟨rfl,rfl,rfl,rfl,rfl⟩,?_,(aeq.cr dX).trans f3 λx hx=>.inl hx⟩;rw[TP hx hcd,<-hv];exact f2
   ·have h4:x.k=4:=aea
    have ake:=akc.o0 fN;refine(Iv ake.sp sd (kI arI fN) aG).mono ?_;rintro _ fI ⟨⟨t27,rfl,akf⟩,ez⟩;have VK:=ez.size;have akg:=ez.blk cB7 aac;refine⟨t27,rfl,ez.same aae,sa,akg,λcA cS=>?_⟩;have lz:∀{q:Nat},t27.a=some ⟨q,0,none⟩->w7.heap.size<=q:=λe=>(akf.blk e).1;have nk:∀q,q<w7.heap.size->¬(t27.a=some ⟨q,0,none⟩):=λq hq e=>aa5
    have azy:(CG p.sp act).length<=p.sp.length:=rI _ _;have arO:=SliceF.inHeap db ake.sp aN;refine(rK (f:=⟨.func (.func 39) #[] #[ai (some ⟨k0,0,none⟩),ai (some ⟨k5,0,none⟩)],rfl⟩) akf aG ⟨eU (by kernel_rfl),λq hq v CQ=>?_⟩ (p:=λk=>!jq p.sp k x.pa) (cap:=[ai (some ⟨k0,0,none⟩),ai (some ⟨k5,0,none⟩)]) rfl).mono ?_
    ·have ca:=CQ.blk cA (nk k0 aG);have cs:=CQ.blk cS (nk k5 aG);have csp:aD nN 5 v (λk=>(F k/\k<w0.heap.size)/\k<w7.heap.size) s p.sp:=(SliceF.only db aN arO ez aac).keep db aN λk hk bT=>CQ.block k bT (nk k hk.2);refine(anv q ⟨k0,0,none⟩ ⟨k5,0,none⟩ (λc w'=>c=ao (!jq p.sp q x.pa)/\aA [] v w') v ?_).mono acq;refine⟨s,Blk.eh ca 0 rfl,_,Blk.eh cs 2 rfl,(uo csp sd.fo q _).mono ?_⟩;rintro _ v' ⟨rfl,hv⟩;obtain rfl:v=v':=hv.symm;exact⟨_,rfl,by rw[Kp,epa],Only.refl _ _⟩
    rintro _ fS ⟨t29,rfl,_,_,arP,ey⟩;have arQ:aA [] w7 fS:=(ez.mZ (ey.mono (G:=λq=>w7.heap.size<=q) λq _ e=>lz e)).only λq hq=>hq;refine⟨t29,rfl,s,si,rQ,sr,ey.blk cA (nk k0 aG),sa,ey.blk akg (nk k1 aG),_,_,_,_,_,ey.blk cS (nk k5 aG),⟨rfl,rfl,rfl,rfl,rfl⟩,⟨_,arP.sl.mono bF λk hk=>aG,bf (cu _ _) aG,?_⟩,fN.cr arQ⟩;unfold Xt;rw[bc h4];have e:((CG p.sp act).filter λk=>!(λk=>!jq p.sp k x.pa) k)=(CG p.sp act).filter λk=>jq p.sp k x.pa:=by
     congr 1;funext k;exact kE _
    rw[e,Gj];intro k hk;exact bJ (Nr (di.1 hk).1)
   have h4:x.k≠4:=aea
   unfold Xt;rw[aY h4,epa,aU]
  rintro _ u ⟨rfl,hu⟩;obtain rfl:w5=u:=hu.symm;refine⟨_,rfl,λ_ _=>rfl,sa,cB5,λhn=>⟨⟨rfl,rfl,rfl,rfl,rfl⟩,rfl,rfl,?_,Only.refl _ _⟩,λhn=>?_⟩
  ·unfold ZF;have:fU x.k=false:=acH
   rw[this];rfl
  have hh:fU x.k=true:=acH
  have Yv:aD rInt 1 w5 (λk=>w1.heap.size<=k) tg gone:=kI (SliceF.only bF aN sI.sl dz λk hk _ hm=>by
   simp only[aO]at hm;omega) eJ
  refine(mV Yv x.pa).mono ?_;rintro _ io ⟨rfl,ic⟩;refine⟨_,rfl,ic.same aae,sa,ic.blk cB5 aac,⟨rfl,rfl,rfl,rfl,rfl⟩,rfl,rfl,?_,ic⟩;unfold ZF;rw[hh,cT];congr 1;rw[bW,aR,bX,bX,bX,aka];exact and_comm
 have hc:=aX hc;have iA:j=p.sp.length:=aG
 subst iA;rw[TN]at N5;have yX:∀k l,vE p.sp act left (iX L) k=some l->l.length<=1000000:=λk l hl=>by
  unfold vE at hl;split at hl
  ·rename_i t _;split at hl
   ·injection hl with hl;have:=Nx p.sp t act;unfold Xt at this;rw[<-hl];omega
   exact hx k l hl
  exact hx k l hl
 generalize vE p.sp act left (iX L)=M' at*
 obtain⟨m,m1,m2,m3⟩:=N5.ex;obtain⟨gn,a1,a2,a3,a4⟩:=MapV.range (P:=au) (mty:=72) (kt:=3) (et:=33) (by kernel_rfl) m1;have z17:=a3.size;refine⟨⟨b,0,none⟩,rfl,some r0,Blk.eh xf 4 rfl,_,gn,a1,a3.same aae,λCi FZ PI PJ PK PL Qw u=>∃(V:List Int) (Lo:List (Int×List Int)),ItV kN gI u w3.heap.size r0 m 64 V/\Ci+V.length=64/\Lo.map (·.1)=V.reverse/\(∀k l,(k,l)∈Lo->M' k=some l)/\Own Ir 2 97 gn.heap.size u (λk=>gn.heap.size<=k) FZ Lo/\aA [] w3 u/\aA [w3.heap.size] gn u,64,⟨[],[],a2,rfl,rfl,λ_ _ h=>aal,Own.nil _ _ _ _ _ _,a3,Only.refl _ _⟩,?_⟩;rintro Ci FZ PI PJ PK PL Qw jC ⟨V,Lo,hI,YA,hVo,hLo,hOw,mw,aaD⟩;have z18:=mw.size;have azA:=aaD.size;have arR:=mw.blk cB3 aac;have hVl:=ItV.len yg hI;have hLl:Lo.length=V.length:=by
  have:=bm List.length hVo;rwa[bA,List.length_reverse]at this
 rcases ItV.next (P:=au) yg hI 0 with⟨jh,Ys⟩ | ⟨k,v,u1,hm,hgk,hkV,Ys,F8,hI1,hOn⟩
 ·refine .inl ⟨jC,Ys,λ_ _=>rfl,(Xq hOw aG).mono ?_⟩;rintro _ jM ⟨rfl,L',hp,arS,nu⟩;have lz:∀{q:Nat},im FZ q->gn.heap.size<=q:=λe=>(hOw.blk e).1;have o20:aA [] w3 jM:=(mw.mZ (nu.mono (G:=λq=>w3.heap.size<=q) λq _ e=>aa5)).only λq hq=>hq;refine⟨rfl,λq hq=>?_,sa,nu.blk arR λe=>aa5,⟨FZ,L',rfl,(arS.low aG).mono nr λk hk=>aG,?_,λx hx=>?_⟩,o23.cr o20⟩
  ·simp only[aO]at hq;subst hq;exact nu.block _ aG λe=>aa5
  ·obtain⟨_,_,_,_,_,_,_,_,_,_,_,hnd,_⟩:=hI.mem;refine Xs ?_ λk l=>?_
   ·rw[(hp.map _).nodup_iff,hVo];exact(List.reverse_perm V).nodup_iff.2 hnd
   rw[hp.mem_iff];refine⟨hLo k l,λhk=>?_⟩;have K2:(m k).isSome=true:=by
    obtain⟨t,e,_⟩:=m3 k l hk;rw[e];rfl
   have hkV:=jh k K2;have:k∈Lo.map (·.1):=by rw[hVo];exact yC.2 hkV
   obtain⟨⟨k',l'⟩,yW,e⟩:=cQ.1 this;dsimp only at e;subst e;have:=hLo k' l' yW;rw[hk]at this;injection this with this;rw[this];exact yW
  have Gs:=hp.mem_iff.1 hx;obtain⟨t,e,_⟩:=m3 x.1 x.2 (hLo x.1 x.2 Gs);exact MapV.ok m1 yg (k:=x.1) (by rw[e];simp)
 have hMk:∃l,M' k=some l:=by
  cases e:M' k with
  | none=>rw[m2 k e]at hm;cases hm
  | some l=>exact⟨l,rfl⟩
 obtain⟨l,hl⟩:=hMk;obtain⟨t,et,ht⟩:=m3 k l hl;rw[hm]at et;injection et with et;subst et;have zn:=hOn.size;have arT:=ItV.len yg hI1;rw[bn]at arT;have on:aA [] w3 u1:=mw.trans hOn λx hx=>.inr aaj;have on':aA [w3.heap.size] gn u1:=aaD.trans hOn λx hx=>.inl hx;have cBn:=on.blk cB3 aac;refine .inr ⟨⟨kN k,rfl⟩,⟨t.v,rfl⟩,u1,Ys,hOn.same aae,⟨kN k,rfl⟩,⟨t.v,rfl⟩,u1,F8,λ_ _=>rfl,k,rfl,t,rfl,(Fx (kI ht on) (by have:=yX k l hl;omega)).mono ?_⟩;rintro _ pE ⟨t45,rfl,arU,lJ⟩;have z23:=lJ.size;have aki:Own Ir 2 97 gn.heap.size pE (λk=>gn.heap.size<=k) FZ Lo:=hOw.keep nr λq hq bT=>by
  have hq:gn.heap.size<=q:=by rcases hq with hq | hq<;>omega
  rw[lJ.block q aG aac,hOn.block q bT aae]
 obtain⟨y,oQ,b1,b3,s',ob,g1,g2,⟨gs,g3,g4⟩,g5⟩:=jG (P:=au) (t:=45) (ty:=45) (e:=97) (i:=Tryz.t97) (bytes:=32) (size:=2) (r:=Ir) (G:=λq=>u1.heap.size<=q) (v:=aj #[O ae k,t45.v]) (x:=(k,l)) (by kernel_rfl) (by kernel_rfl) rfl rfl rfl rfl aN aN aN nr aki aG rfl ⟨t45,rfl,arU.sl⟩ (λq hq _=>⟨aG,λe=>by have:=(hOw.blk e).2;dsimp only at this;omega⟩) aG;have z24:=b3.size;have sH:∀q,q∈gs->gn.heap.size<=q:=λq hq=>(g4 q hq).2.1;have o25:aA [] u1 ob∨True:=.inr trivial;have c1:∀q,q<gn.heap.size->q<jC.heap.size->ob.heap[q]? =u1.heap[q]? :=λq hq hq'=>by
  rw[g3.block q aG λe=>by have:=sH q e;omega,b3.block q aG aac,lJ.block q aG aac]
 have z25:=g3.size;refine⟨t45,rfl,lJ.same aae,sa,lJ.blk cBn aac,y,oQ,b1,b3.same aae,s',ob,g1,λq hq=>g3.block q ?_ λe=>?_,Ci-1,aG,k::V,Lo++[(k,l)],hI1.keep (c1 _ aG aG) (c1 _ aG aG),by rw[bn];omega,?_,λk' l' h'=>?_,g2.mono nr λq hq=>hq.elim id λh=>aG,?_,?_⟩
 ·simp only[aV,bp,cm]at hq;rcases hq with rfl | rfl<;>omega
 ·simp only[aV,bp,cm]at hq;have:=sH q e;rcases hq with rfl | rfl<;>omega
 ·rw[dh,hVo,List.reverse_cons];rfl
 ·rcases bN.1 h' with h' | h'
  ·exact hLo k' l' h'
  rw[aO]at h';injection h' with e1 e2;rw[e1,e2];exact hl
 ·exact((on.cr lJ).cr b3).trans g3 λq hq=>.inr (by have:=sH q hq;omega)
 exact((on'.cr lJ).cr b3).trans g3 λq hq=>.inr (sH q hq)
end
end Go.Proofs.YtpbgcbdclnfpnaaGreatDoor.Con
namespace Go.Proofs.YtpbgcbdclnfpnaaGreatDoor.Con
open Go Go.RowKit Go.Kt Go.Kt.V Go.Proofs.YtpbgcbdclnfpnaaGreatDoor.Vc
def upK(xs:List cM)(i:Nat):Nat:=BL (Gn xs.length λk=>decide (k<i)&&SB xs k i)
def dnK(xs:List cM)(i:Nat):Nat:=BL (Gn xs.length λk=>decide (i<k)&&SB xs i k)
def rgK(xs:List cM)(i:Nat):Nat:=BL (cY xs i)
structure Ce where
 k:Int
 pa:Int
 up:Nat
 dn:Nat
 rg:Nat
 ini:Int
 dft:Int
 f0:Nat
 f1:Nat
def aof(p:Pl)(a e:Nat)(b:Nb):Ce:=⟨b.k,Fc p.sp a,upK p.sp a,dnK p.sp a,rgK p.sp a,(p.ini[a]?).getD 0,(p.dft[a]?).getD 0,e,e+b.mv.length⟩
mutual
def nMo:Nd->Nat
 | .mk b l=>b.mv.length+ahL l
def ahL:List Nd->Nat
 | []=>0
 | x::l=>nMo x+ahL l
end
mutual
def ceN(p:Pl):Nat->Nat->Nd->List Ce
 | a,e,.mk b l=>aof p a e b::ahM p (a+1) (e+b.mv.length) l
def ahM(p:Pl):Nat->Nat->List Nd->List Ce
 | _,_,[]=>[]
 | a,e,x::l=>ceN p a e x++ahM p (a+jk x) (e+nMo x) l
end
def exM(xs:List cM)(r:Ro):Nat:=if 0<=r.dom then dnK xs r.dom.toNat else 0
theorem FF{xs:List cM}{a:Nat}{r:Ro}{l:List Mv}{i:Nat}(h:r∈I6 xs a i l):r.src=a:=by
 obtain⟨j,m,_,rfl⟩:=FB h;rfl
theorem Xv{xs:List cM}{r:Ro}{x:Nd}{a:Nat}(h:r∈Fu xs a x):(a:Int)<=r.src/\r.src<(a+jk x:Nat):=by
 obtain⟨n,b,j,m,h1,_,rfl⟩:=FC h;have:=(aZ.1 h1).1;rw[nV]at this;unfold Xg;dsimp only;omega
theorem Iw{xs:List cM}{r:Ro}{l:List Nd}{a:Nat}(h:r∈oE xs a l):(a:Int)<=r.src/\r.src<(a+ff l:Nat):=by
 obtain⟨n,b,j,m,h1,_,rfl⟩:=BR h;have:=(aZ.1 h1).1;rw[wM]at this;unfold Xg;dsimp only;omega
mutual
theorem Ix(xs:List cM):∀(x:Nd) (a:Nat),(Fu xs a x).Pairwise λr s=>r.src<=s.src
 | .mk b l,a=>by
  rw[Fu,gf];refine⟨?_,DL xs l _,λr hr s hs=>?_⟩
  ·exact List.pairwise_of_forall_mem_list λr hr s hs=>by rw[FF hr,FF hs];exact kq _
  rw[FF hr];have:=(Iw hs).1;omega
theorem DL(xs:List cM):∀(l:List Nd) (a:Nat),(oE xs a l).Pairwise λr s=>r.src<=s.src
 | [],a=>by rw[oE];exact List.Pairwise.nil
 | x::l,a=>by
  rw[oE,gf];exact⟨Ix xs x a,DL xs l _,λr hr s hs=>by
   have:=(Xv hr).2;have:=(Iw hs).1;omega⟩
end
theorem tP{ro:List Ro}{may:List Bool}{n:Int}{k:Nat}:Kn ro may n k=true↔∃r,ro[k]? =some r/\may[k]? =some true/\r.src=n:=by
 unfold Kn;constructor
 ·intro h;split at h
  ·rename_i r h1 h2;exact⟨r,h1,h2,aP h⟩
  cases h
 rintro⟨r,h1,h2,h3⟩;rw[h1,h2];exact bJ h3
theorem Ny{ro:List Ro}{may:List Bool}{n:Int}(h:∀k,Kn ro may n k=false):qJ ro may n=none:=by
 unfold qJ;rw[List.find?_eq_none];intro k _ hk;rw[h k]at hk;cases hk
theorem Xw{ro:List Ro}{may:List Bool}{n:Int}{k:Nat}(h:∀j,j<k->Kn ro may n j=false)(hk:Kn ro may n k=true):qJ ro may n=some k:=by
 have hm:k∈List.range (min ro.length may.length):=by
  obtain⟨r,h1,h2,_⟩:=tP.1 hk;have a:=(aZ.1 h1).1;have b:=(aZ.1 h2).1;rw[jb];omega
 cases hf:qJ ro may n with
 | none=>
  unfold qJ at hf;rw[List.find?_eq_none]at hf;exact absurd hk (hf k hm)
 | some m=>
  unfold qJ at hf;have h1:=List.find?_some hf;congr 1;rcases Nat.lt_trichotomy m k with hl | hl | hl
  ·rw[h m hl]at h1;cases h1
  ·exact hl
  ·exfalso;obtain⟨_,l1,l2,e,h2⟩:=List.find?_eq_some_iff_append.1 hf;have hs:(List.range (min ro.length may.length)).Pairwise (· <·):=List.pairwise_lt_range;rw[e]at hm hs;rcases bN.1 hm with hm | hm
   ·have:=h2 k hm;rw[hk]at this;cases this
   ·rcases aV.1 hm with rfl | hm
    ·omega
    ·have:=(gf.1 hs).2.1;rw[dG]at this;have:=this.1 k hm;omega
theorem Nz{ro:List Ro}{may:List Bool}{n:Int}(hs:ro.Pairwise λr s=>r.src<=s.src){k0 k:Nat}{r0:Ro}(h0:ro[k0]? =some r0)(e0:r0.src=n)(h1:∀j,j<k0->∀r,ro[j]? =some r->r.src≠n)(hk:k0<=k)(h2:∀j,k0<=j->j<k->may[j]? ≠some true)(h3:ro.length<=k∨may.length<=k∨∃r,ro[k]? =some r/\r.src≠n):qJ ro may n=none:=by
 refine Ny λj=>?_;rw[eu];intro hj;obtain⟨r,g1,g2,g3⟩:=tP.1 hj;have a:=(aZ.1 g1).1;have b:=(aZ.1 g2).1;by_cases Yp:j<k0
 ·exact h1 j Yp r g1 g3
 by_cases hjk:j<k
 ·exact h2 j aG hjk g2
 rcases h3 with h3 | h3 | ⟨s,h3,h4⟩
 ·omega
 ·omega
 have c:=(aZ.1 h3).1;have d:=(aZ.1 h0).1;have le:∀{i m:Nat} {x y:Ro},i<=m->ro[i]? =some x->ro[m]? =some y->x.src<=y.src:=fun{i m x y} kA hx hy=>by
  rcases Nat.lt_or_ge i m with hl | hl
  ·obtain⟨p,rfl⟩:=aZ.1 hx;obtain⟨q,rfl⟩:=aZ.1 hy;exact dB.1 hs i m p q hl
  have:i=m:=aG
  subst this;rw[hx,be]at hy;rw[hy];exact kq _
 have l1:=le hk h0 h3;have l2:=le aG h3 g1;omega
theorem Xx{ro:List Ro}{may:List Bool}{n:Int}{k0 k:Nat}{r:Ro}(h1:∀j,j<k0->∀r,ro[j]? =some r->r.src≠n)(h2:∀j,k0<=j->j<k->may[j]? ≠some true)(h3:ro[k]? =some r)(h4:r.src=n)(h5:may[k]? =some true):qJ ro may n=some k:=by
 refine Xw (λj hj=>?_) (tP.2 ⟨r,h3,h5,h4⟩);rw[eu];intro hh;obtain⟨r',g1,g2,g3⟩:=tP.1 hh;by_cases Yp:j<k0
 ·exact h1 j Yp r' g1 g3
 exact h2 j aG hj g2
theorem TQ{ro:List Ro}{may:List Bool}{n:Int}(h:∀r,r∈ro->r.src≠n):qJ ro may n=none:=Ny λk=>by
 rw[eu];intro hh;obtain⟨r,g1,_,g3⟩:=tP.1 hh;exact h r (bB g1) g3
structure Cb (w:ay) (c:Nat) (F G H:aL) (s si sd sr sa sm:Sl) (p:Pl) (act:List Int) (may:List Bool):Prop where
 blk:aH w c 107 [s.v,si.v,sd.v,sr.v,sa.v,sm.v]
 pl:PlR w F s si sd sr p
 act:aD rInt 1 w G sa act
 may:aD rBool 1 w H sm may
section
variable {w w':ay} {F G H:aL} {s si sd sr sa sm:Sl} {p:Pl} {act:List Int} {may:List Bool} {c:Nat}
theorem Cb.o0(h:Cb w c F G H s si sd sr sa sm p act may)(hO:aA [] w w'):Cb w' c F G H s si sd sr sa sm p act may:=
 ⟨hO.blk h.blk aac,h.pl.o0 hO,kI h.act hO,SliceF.only qF aN h.may hO aac⟩
theorem Xy(h:aD rBool 1 w H sm may){i:Nat}{b:Bool}(hx:may[i]? =some b):∃ad,dE sm (i:Int) 1 ad/\aE w ad [ao b]:=by
 have bT:=(aZ.1 hx).1;have hl:=h.len;obtain⟨ad,y,cs,g1,g2,g3,g4,g5,g6⟩:=h.get (bD i) aG;rw[aU,hx]at g2;injection g2 with g2;subst g2;unfold rBool at g6;subst g6;exact⟨ad,g1,g5⟩
theorem TR{k2:Nat}{ro:List Ro}(h:aD ZA 7 w F sr ro){n:Int}(hB:aH w k2 3 [O ae n]):aB au 83 #[sr.v,.func (.func 84) #[] #[ai (some ⟨k2,0,none⟩)]] w λe w'=>
  (∃i:Int,e=aq (O ae i)/\((i= -1/\∀r,r∈ro->r.src≠n)∨∃(k:Nat) (r:Ro),i=k/\ro[k]? =some r/\r.src=n/\∀j,j<k->∀r,ro[j]? =some r->r.src≠n))/\aA [] w w':=by
 refine(ahh sr ⟨.func (.func 84) #[] #[ai (some ⟨k2,0,none⟩)],rfl⟩ (λv w'=>(∃i:Int,v=O ae i/\((i= -1/\∀r,r∈ro->r.src≠n)∨∃(k:Nat) (r:Ro),i=k/\ro[k]? =some r/\r.src=n/\∀j,j<k->∀r,ro[j]? =some r->r.src≠n))/\aA [] w w') w ?_).mono (by rintro _ w' ⟨v,rfl,⟨i,rfl,h⟩,h'⟩;exact⟨⟨i,rfl,h⟩,h'⟩);have hl:=h.len;have hcp:=h.cap;have Jd:=h.big;refine⟨λkv i u=>∃j:Nat,i=(j:Int)/\kv+j=ro.length/\j<=ro.length/\(∀m,m<j->∀r,ro[m]? =some r->r.src≠n)/\aA [] w u,ro.length,⟨0,rfl,aG,bh _,λm hm=>aG,Only.refl _ _⟩,?_⟩;rintro kv _ u ⟨j,rfl,sJ,hj,hh,hO⟩;refine⟨λhc=>?_,λhc=>?_⟩
 ·have hc:=aP hc;obtain⟨r,hr⟩:∃r,ro[j]? =some r:=⟨_,aQ aG⟩
  obtain⟨ad,tg,a1,a2,a3⟩:=Ip (SliceF.only gP aN h hO aac) hr;refine⟨ad,a1,_,_,_,_,_,tg,_,a2,84,[],[ai (some ⟨k2,0,none⟩)],rfl,eU (by kernel_rfl),?_⟩;refine(v9w r.src r.slot r.k (T r.ev) r.wt tg r.dom ⟨k2,0,none⟩ (λv w'=>v=ao (decide (r.src=n))/\aA [] u w') u ?_).mono ?_
  ·intro k0 w0 _ _ cO;refine⟨n,((hO.cr cO).blk hB aac).cells 0 _ aac,?_,cO⟩;congr 1
  rintro _ u' ⟨v,rfl,rfl,IY⟩;refine⟨_,rfl,λhb=>⟨⟨_,rfl,.inr ⟨j,r,rfl,hr,aP hb,hh⟩⟩,hO.cr IY⟩,λhb=>⟨kv-1,aG,j+1,aad,aG,aG,λm hm r' N0=>?_,hO.cr IY⟩⟩;by_cases e:m=j
  ·subst e;rw[hr,be]at N0;subst N0;exact aX hb
  exact hh m aG r' N0
 have hc:=aX hc;refine⟨⟨_,rfl,.inl ⟨rfl,λr hr=>?_⟩⟩,hO⟩;obtain⟨m,hm⟩:=List.mem_iff_getElem?.1 hr;exact hh m (by have:=(aZ.1 hm).1;omega) r hm
theorem TS(h:Cb w c F G H s si sd sr sa sm p act may)(zZ:Fo p.sp){i j:Nat}{ri rj:Ro}(hi:p.ro[i]? =some ri)(hj:p.ro[j]? =some rj):aB au 53 #[ai (some ⟨c,0,none⟩),O ae (i:Int),O ae (j:Int)] w λe w'=>e=aq (ao (pN p.sp p.ro i j))/\aA [] w w':=by
 refine ret (anq _ _ _ _ _ ?_);intro w0 cO;have h0:=h.o0 cO;obtain⟨ad,tg,a1,a2,_⟩:=Ip h0.pl.ro hi;obtain⟨FV,tg',b1,b2,_⟩:=Ip h0.pl.ro hj;refine⟨s,Blk.eh h0.blk 0 rfl,sr,Blk.eh h0.blk 3 rfl,ad,a1,ri.src,a2.eh 0 _ rfl,sr,Blk.eh h0.blk 3 rfl,FV,b1,rj.src,b2.eh 0 _ rfl,(uo h0.pl.sp zZ ri.src rj.src).mono ?_⟩;rintro _ u ⟨rfl,hu⟩;obtain rfl:w0=u:=hu.symm;refine⟨_,rfl,?_,cO⟩;rw[Kp];unfold pN TE;rw[aU,aU,hi,hj]
theorem Xz(h:Cb w c F G H s si sd sr sa sm p act may)(zZ:Fo p.sp)(Gs:p.sp.length<=64)(hs:p.ro.Pairwise λr s=>r.src<=s.src){x:Nat}(hx:x<p.sp.length):aB au 48 #[ai (some ⟨c,0,none⟩),O ae (x:Int)] w λe w'=>e=aq (O ae (oG p.sp p.ro may x))/\aA [] w w':=by
 refine ret (anp _ _ _ _ ?_);obtain⟨y,w0,k1,k3,k2⟩:=BH w (a:=(x:Int)) ⟨aG,aG⟩;have z0:=k3.size;have h0:=h.o0 k3;obtain⟨t,ht⟩:=fL hx;refine⟨y,w0,k1,s,Blk.eh h0.blk 0 rfl,(an9 h0.pl.sp zZ x aG).mono ?_⟩;rintro _ w1 ⟨⟨q,is,rfl,hq,_,hu⟩,cG⟩;have z1:=cG.size;have hU:=hu x t rfl ht;have hul:=Nv zZ x (zZ.uX ht) hU;have Ye:dd w.heap.size w1 y [(x:Int)]:=k2.keep bF λk _ bT=>cG.block k bT aac;obtain⟨q2,w2,g1,g2,g3,_⟩:=Ng Ye aG (hq.slice bF) (λk hk e=>by
  have h1:=(hk.resolve_left id).1;have h2:=(k2.blk e).2;dsimp only at h2;omega) (by rw[bK];omega)
 have o2:aA [] w w2:=((k3.cr cG).mZ (g3.mono (G:=λk=>w.heap.size<=k) λk _ e=>(k2.blk e).1)).only λk hk=>hk;have eL:[(x:Int)]++is=wS p.sp (p.sp.length+1) x:=by
  rw[wS,aY aG,jr ht];exact bm _ (hU.eq _ aG)
 rw[eL]at g2;refine⟨q,rfl,q2,w2,g1,?_⟩;have hL:=g2.slice bF;generalize hLd:wS p.sp (p.sp.length+1) (x:Int)=L at*
 have N4:=hL.len;have hlc:=hL.cap;have hlb:=hL.big;have akj:oG p.sp p.ro may x=match L.findSome? (qJ p.ro may)with
  | some k=>(k:Int)
  | none=> -1:=by unfold oG;rw[hLd];try rfl
 refine⟨λkv i u=>∃j:Nat,i=(j:Int)/\kv+j=L.length/\j<=L.length/\(∀n,n∈L.take j->qJ p.ro may n=none)/\aA [] w2 u,L.length,⟨0,rfl,aG,bh _,aac,Only.refl _ _⟩,?_⟩;rintro kv _ w3 ⟨j,rfl,sJ,hj,hh,dz⟩;refine⟨λhc=>?_,λhc=>?_⟩
 ·have hc:=aP hc;have iA:j<L.length:=aG
  obtain⟨ad,a1,a2⟩:=gD (kI hL dz) (aQ iA);have mJ:L.take (j+1)=L.take j++[L[j]]:=acT
  refine⟨ad,a1,_,a2,λk5 w4 CN F5 dK=>?_⟩;have o4:=dz.cr dK;have h4:=(h.o0 o2).o0 o4;have hrn:=h4.pl.ro.len;have hrc:=h4.pl.ro.cap;have hrb:=h4.pl.ro.big;have hmn:=h4.may.len;refine⟨sr,Blk.eh h4.blk 3 rfl,λsS=>(TR h4.pl.ro sS).mono ?_⟩;rintro _ w5 ⟨⟨i,rfl,hi⟩,eJ⟩;have o5:=o4.cr eJ;have next:∀{u:ay},aA [] w2 u->qJ p.ro may L[j]=none->∃n,n<kv/\∃j':Nat,av ae ((j:Int)+1)=(j':Int)/\n+j'=L.length/\j'<=L.length/\(∀n,n∈L.take j'->qJ p.ro may n=none)/\aA [] w2 u:=λhO hr=>⟨kv-1,aG,j+1,aad,aG,aG,λn hn=>by
   rw[mJ,bN,aO]at hn;rcases hn with hn | rfl
   ·exact hh n hn
   exact hr,hO⟩
  refine⟨i,rfl,L[j],eJ.blk sS aac,λCi i u=>((i= -1/\∀r,r∈p.ro->r.src≠L[j])∨∃(k0 k:Nat) (r:Ro),i=(k:Int)/\k0<=k/\Ci+k=p.ro.length/\p.ro[k0]? =some r/\r.src=L[j]/\(∀j',j'<k0->∀r,p.ro[j']? =some r->r.src≠L[j])/\∀j',k0<=j'->j'<k->may[j']? ≠some true)/\aA [] w2 u/\aH u k5 3 [O ae L[j]],(match i with | .ofNat m=>p.ro.length-m | _=>0),⟨?_,o5,eJ.blk sS aac⟩,?_⟩
  ·rcases hi with⟨rfl,hi⟩ | ⟨k,r,rfl,h1,h2,h3⟩
   ·exact .inl ⟨rfl,hi⟩
   have:=(aZ.1 h1).1;exact .inr ⟨k,k,r,rfl,ba _,by show p.ro.length-k+k=_;omega,h1,h2,h3,λj' a b=>aG⟩
  rintro Ci i2 w6 ⟨hI,o6,KQ⟩;have h6:=(h.o0 o2).o0 o6;rcases hI with⟨rfl,hI⟩ | ⟨k0,k,r0,rfl,gU,YA,YD,Cq,hf,hm⟩
  ·refine⟨Sl.nil,λh=>aal,Sl.nil,λh=>aal,Sl.nil,λh=>aal,⟨0,0,none⟩,λh=>aal,0,λh=>aal,λh=>aal,λ_ w8 fX _=>next (o6.cr fX) (TQ hI)⟩
  have ek:decide ((k:Int)>=0)=true:=bJ aG;have akk:(if(sm.n:Int)<(sr.n:Int)then(sm.n:Int)else(sr.n:Int))=((min p.ro.length may.length:Nat):Int):=by
   split<;>omega
  by_cases bT:k<min p.ro.length may.length
  ·obtain⟨r,hr⟩:∃r,p.ro[k]? =some r:=⟨_,aQ aG⟩
   obtain⟨mb,hmb⟩:∃mb,may[k]? =some mb:=⟨_,aQ aG⟩
   obtain⟨uz,tg,b1,b2,_⟩:=Ip h6.pl.ro hr;refine⟨sr,λ_=>Blk.eh h6.blk 3 rfl,sm,λ_=>Blk.eh h6.blk 5 rfl,sr,λ_=>Blk.eh h6.blk 3 rfl,uz,λ_=>b1,r.src,λ_=>b2.eh 0 _ rfl,λK3 w7 fN hB7=>?_,λK3 w8 fX _=>next (o6.cr fX) ?_⟩
   ·have h7:=h6.o0 fN;rw[aR]at K3;have arX:r.src=L[j]:=by simpa using K3.2
    obtain⟨ad3,d1,d2⟩:=Xy h7.may hmb;refine⟨sm,Blk.eh h7.blk 5 rfl,ad3,d1,mb,d2,λhb=>⟨?_,o2.cr (o6.cr fN)⟩,λhb=>⟨Ci-1,aG,.inr ⟨k0,k+1,r0,aad,aG,aG,YD,Cq,hf,λj' a b=>?_⟩,o6.cr fN,hB7⟩⟩
    ·subst hb;have tU:=Xx hf hm hr arX hmb;rw[akj];have:L.findSome? (qJ p.ro may)=some k:=by
      rw[<-dl j L,List.findSome?_append];have e1:(L.take j).findSome? (qJ p.ro may)=none:=by
       rw[List.findSome?_eq_none_iff];exact hh
      rw[e1,fM iA,List.findSome?_cons,tU];rfl
     rw[this]
    by_cases e:j'=k
    ·rw[e,hmb,hb];intro h;cases h
    exact hm j' a aG
   refine Nz hs YD Cq hf gU hm (.inr (.inr ⟨r,hr,λe=>?_⟩));rw[ek,akk,cT,bJ (by omega:(k:Int)<((min p.ro.length may.length:Nat):Int)),cT,e]at K3;simp at K3
  have ef:((decide ((k:Int)>=0))&&(decide ((k:Int)<(if(sm.n:Int)<(sr.n:Int)then(sm.n:Int)else(sr.n:Int)))))=false:=by
   rw[akk,bI (by omega:¬(k:Int)<((min p.ro.length may.length:Nat):Int)),Bool.and_false]
  have no:∀{q:Prop},((decide ((k:Int)>=0))&&(decide ((k:Int)<(if(sm.n:Int)<(sr.n:Int)then(sm.n:Int)else(sr.n:Int)))))=true->q:=λh=>by rw[ef]at h;cases h
  refine⟨sr,λ_=>Blk.eh h6.blk 3 rfl,sm,λ_=>Blk.eh h6.blk 5 rfl,Sl.nil,λh=>no h,⟨0,0,none⟩,λh=>no h,0,λh=>no h,λK3=>?_,λK3 w8 fX _=>next (o6.cr fX) (Nz hs YD Cq hf gU hm aG)⟩;rw[ef,eN]at K3;cases K3
 have hc:=aX hc;rw[bq aG]at hh;refine⟨?_,o2.cr dz⟩;have:L.findSome? (qJ p.ro may)=none:=by
  rw[List.findSome?_eq_none_iff];exact hh
 rw[akj,this]
end
section
variable {w u:ay} {F G H:aL} {s si sd sr sa sm:Sl} {p:Pl} {act:List Int} {may:List Bool} {k0 k1 k2 k3 k7 k8:Nat} {t0 t1 t3 t7 t8:TypeId} {k o:Int}
theorem DM(b0:aH u k0 t0 [s.v,si.v,sd.v,sr.v])(b1:aH u k1 t1 [sa.v])(b7:aH u k7 t7 [O ae k])(hP:PlR u F s si sd sr p)(zZ:Fo p.sp)(ha:aD rInt 1 u G sa act)(hm:act.length<=2000000):
  aB au 49 #[O ae o,ai (some ⟨k0,0,none⟩),ai (some ⟨k1,0,none⟩),ai (some ⟨k7,0,none⟩)] u λe u'=>e=aq (ao (gF p.sp p.ro act k o))/\aA [] u u':=by
 refine ret (v3w _ _ _ _ _ _ ?_);refine⟨s,si,sd,sr,b0.cells 0 _ aac,sa,b1.cells 0 _ aac,k,b7.cells 0 _ aac,(Xl hP zZ ha hm k o).mono ?_⟩;rintro _ u' ⟨rfl,hO⟩;exact⟨_,rfl,rfl,hO⟩
theorem Pj(b0:aH u k0 t0 [s.v,si.v,sd.v,sr.v])(b1:aH u k1 t1 [sa.v])(b7:aH u k7 t7 [O ae k])(b3:aH u k3 t3 [ai (some ⟨k2,0,none⟩)])(b8:aH u k8 t8 [.func (.func 49) #[] #[ai (some ⟨k0,0,none⟩),ai (some ⟨k1,0,none⟩),ai (some ⟨k7,0,none⟩)]])
  (hC:Cb u k2 F G H s si sd sr sa sm p act may) (zZ:Fo p.sp) (hm:act.length<=2000000) {i j:Nat} {ri rj:Ro} (hk:k=i) (ho:o=j) (hi:p.ro[i]? =some ri) (hj:p.ro[j]? =some rj):
  aB au 52 #[O ae o,ai (some ⟨k8,0,none⟩),ai (some ⟨k3,0,none⟩),ai (some ⟨k7,0,none⟩)] u λe u'=>e=aq (ao (gF p.sp p.ro act k o&&!pN p.sp p.ro k o))/\aA [] u u':=by
 refine ret (v4w _ _ _ _ _ _ ?_);refine⟨λb u'=>b=(gF p.sp p.ro act k o&&!pN p.sp p.ro k o)/\aA [] u u',?_,⟨.func (.func 49) #[] #[ai (some ⟨k0,0,none⟩),ai (some ⟨k1,0,none⟩),ai (some ⟨k7,0,none⟩)],rfl⟩,b8.cells 0 _ aac,49,[],[ai (some ⟨k0,0,none⟩),ai (some ⟨k1,0,none⟩),ai (some ⟨k7,0,none⟩)],rfl,eU (by kernel_rfl),(DM b0 b1 b7 hC.pl zZ hC.act hm).mono ?_⟩
 ·rintro b u' ⟨rfl,h⟩;exact⟨rfl,h⟩
 rintro _ u' ⟨rfl,hO⟩;refine⟨_,rfl,λhc=>?_,λhc=>⟨by rw[hc,eN],hO⟩⟩;subst hk ho;refine⟨_,(hO.blk b3 aac).cells 0 _ aac,_,(hO.blk b7 aac).cells 0 _ aac,(TS (hC.o0 hO) zZ hi hj).mono ?_⟩;rintro _ u2 ⟨rfl,dk⟩;exact⟨_,rfl,by rw[hc,cT],hO.cr dk⟩
end
theorem PlR.kp{w w':ay}{F:aL}{s si sd sr:Sl}{p:Pl}(h:PlR w F s si sd sr p)(hk:∀k,F k->k<w.heap.size->w'.heap[k]? =w.heap[k]?):PlR w' F s si sd sr p:=
 ⟨h.sp.keep db aN hk,h.ini.keep bF aN hk,h.dft.keep bF aN hk,h.ro.keep gP aN hk⟩
theorem PlR.inH{w:ay}{F:aL}{s si sd sr:Sl}{p:Pl}(h:PlR w F s si sd sr p):PlR w (λk=>F k/\k<w.heap.size) s si sd sr p:=
 ⟨h.sp.inHeap db aN,h.ini.inHeap bF aN,h.dft.inHeap bF aN,h.ro.inHeap gP aN⟩
theorem XA{xs:List cM}{ro:List Ro}{may:List Bool}{leaf:Int}(h:0<=oG xs ro may leaf):∃(k:Nat) (r:Ro),oG xs ro may leaf=k/\ro[k]? =some r:=by
 unfold oG at h⊢;cases hf:(wS xs (xs.length+1) leaf).findSome? (qJ ro may)with
 | none=>rw[hf]at h;exact absurd h aN
 | some k=>
  obtain⟨n,hn,hk⟩:=Jh hf;obtain⟨r,h1,_⟩:=DI hk;exact⟨k,r,rfl,h1⟩
structure Asked (ro:List Ro) (st:List Int×List Int):Prop where
 a:∀x,x∈st.1->∃(n:Nat) (r:Ro),x=n/\ro[n]? =some r
 b:∀x,x∈st.2->x∈st.1
 c:st.1.Nodup
 d:st.2.length<=st.1.length
theorem Asked.len{ro:List Ro}{st:List Int×List Int}(h:Asked ro st):st.1.length<=ro.length:=by
 have:=h.c.length_le_of_subset (l₂:=(List.range ro.length).map λn:Nat=>(n:Int)) λx hx=>by
  obtain⟨n,r,e,hn⟩:=h.a x hx;exact cQ.2 ⟨n,jb.2 (aZ.1 hn).1,e.symm⟩
 rwa[bA,fE]at this
section
variable {w:ay} {F G H:aL} {s si sd sr sa sm:Sl} {p:Pl} {act:List Int} {may:List Bool}
theorem ZH(hP:PlR w F s si sd sr p)(hS:Sd p.sp)(Gs:p.sp.length<=64)(hs:p.ro.Pairwise λr s=>r.src<=s.src)(U3:p.ro.length<=1900000)(ha:aD rInt 1 w G sa act)(hm:act.length<=1000000)(hM:aD rBool 1 w H sm may):
  aB au 17 #[aj #[s.v,si.v,sd.v,sr.v],sa.v,sm.v] w λe w'=>(∃t:Sl,e=aq t.v/\dd w.heap.size w' t (kM p.sp p.ro act may))/\aA [] w w':=by
 have zZ:=hS.fo;refine(v5w s si sd sr sa sm (λv w'=>(∃t:Sl,v=t.v/\dd w.heap.size w' t (kM p.sp p.ro act may))/\aA [] w w') w ?_).mono aaT;intro k0 k1 k2 k3 w0 gU fD kc jO vf xh zr xi cO;have z0:=cO.size;refine(Iv (xs:=p.sp) (SliceF.only db aN hP.sp cO aac) hS (kI ha cO) aG).mono ?_;rintro _ w1 ⟨⟨l0,rfl,hL⟩,cG⟩;have z1:=cG.size;have hLs:=hL.slice bF;have N4:=hLs.len;have PS:(CG p.sp act).length<=p.sp.length:=rI _ _;generalize hLv:CG p.sp act=L at*
 have hLm:∀x,x∈L->∃n:Nat,x=n/\n<p.sp.length:=λx hx=>by
  rw[<-hLv]at hx;obtain⟨n,e,h,_⟩:=pA.1 hx;exact⟨n,e,h⟩
 refine⟨l0,rfl,cG.same aae,λkv l1 l2 i a1 a2 a3 a4 a5 q b1 b2 b3 b4 b5 b6 v=>∃(j:Nat) (st:List Int×List Int),i=(j:Int)/\kv+j=L.length/\j<=L.length/\st=(L.take j).foldl (zj p.sp p.ro act may) ([],[])/\Asked p.ro st/\dd w1.heap.size v l1 st.1/\dd w1.heap.size v l2 st.2/\(∀k,im l1 k->¬im l2 k)/\(a1=s/\a2=si/\a3=sd/\a4=sr/\a5=sa/\q=some ⟨k2,0,none⟩/\b1=s/\b2=si/\b3=sd/\b4=sr/\b5=sa/\b6=sm)/\aA [] w1 v,L.length,⟨0,([],[]),rfl,aG,bh _,rfl,⟨λ_ h=>aal,λ_ h=>aal,List.nodup_nil,ba _⟩,Own.nil _ _ _ _ _ _,Own.nil _ _ _ _ _ _,λk h=>aal,⟨rfl,rfl,rfl,rfl,rfl,rfl,rfl,rfl,rfl,rfl,rfl,rfl⟩,Only.refl _ _⟩,?_⟩;rintro kv l1 l2 _ a1 a2 a3 a4 a5 q0 c1 c2 c3 c4 c5 c6 w2 ⟨j,st,rfl,sJ,hj,lH,hA,VB,KK,Ja,⟨e1,e2,e3,e4,e5,e6,e7,e8,e9,e10,e11,e12⟩,dk⟩;subst a1 a2 a3 a4 a5 q0 c1 c2 c3 c4 c5 c6;have z2:=dk.size;refine⟨λhc pF n02 n12 n32=>?_,λhc pF n02 n12 n32=>?_⟩
 ·have hc:=aP hc;have iA:j<L.length:=aG
  have mJ:L.take (j+1)=L.take j++[L[j]]:=acT
  obtain⟨x,hx,arY⟩:=hLm _ (dZ iA);refine⟨λl1 l2 a1 a2 a3 a4 a5 q b1 b2 b3 b4 b5 b6 v=>∃cK:List Int×List Int,cK=zj p.sp p.ro act may st L[j]/\Asked p.ro cK/\dd w1.heap.size v l1 cK.1/\dd w1.heap.size v l2 cK.2/\(∀k,im l1 k->¬im l2 k)/\(a1=s/\a2=si/\a3=sd/\a4=sr/\a5=sa/\q=some ⟨k2,0,none⟩/\b1=s/\b2=si/\b3=sd/\b4=sr/\b5=sa/\b6=sm)/\aA [] w1 v,?_,?_⟩
  ·rintro m1 m2 a1 a2 a3 a4 a5 q b1 b2 b3 b4 b5 b6 v ⟨cK,h1,h2,h3,h4,h5,h6,h7⟩;refine⟨kv-1,aG,j+1,cK,aad,aG,aG,?_,h2,h3,h4,h5,h6,h7⟩;rw[h1,mJ,kZ,<-lH];rfl
  obtain⟨ad,d1,d2⟩:=gD (kI hLs dk) (aQ iA);have o2:aA [] w w2:=(cO.cr cG).cr dk;have hC2:Cb w2 k2 F G H s si sd sr sa sm p act may:=⟨pF,hP.o0 o2,kI ha o2,SliceF.only qF aN hM o2 aac⟩
  rw[hx]at d2;refine⟨ad,d1,_,d2,(Xz hC2 zZ Gs hs arY).mono ?_⟩;rintro _ w4 ⟨rfl,dK⟩;have z4:=dK.size;refine⟨_,rfl,dK.same aae,s,si,sd,sr,sa,sm,(hC2.o0 dK).blk,λk7 w5 hk7 ad5 eJ xb=>?_⟩;have z5:=eJ.size;have o5:=dK.cr eJ;have p5:=dk.cr o5;rw[<-hx];obtain⟨kk,F6⟩:∃kk,kk=oG p.sp p.ro may L[j]:=⟨_,rfl⟩
  rw[<-F6];have ch1:zj p.sp p.ro act may st L[j]=if kk<0∨kk∈st.1 then st else(st.1++[kk],if(st.2.any λo=>gF p.sp p.ro act kk o&&!pN p.sp p.ro kk o)=true then st.2 else(st.2.filter λo=>!gF p.sp p.ro act kk o)++[kk]):=by
   rw[F6];rfl
  refine⟨λb a1 a2 a3 a4 a5 q i b1 b2 b3 b4 b5 b6 v=>b=decide (kk<0∨kk∈st.1)/\(a1=s/\a2=si/\a3=sd/\a4=sr/\a5=sa/\q=some ⟨k2,0,none⟩/\b1=s/\b2=si/\b3=sd/\b4=sr/\b5=sa/\b6=sm)/\i=kk/\aA [] w5 v,?_,λhn=>⟨(bJ (.inl (aP hn))).symm,⟨rfl,rfl,rfl,rfl,rfl,rfl,rfl,rfl,rfl,rfl,rfl,rfl⟩,rfl,Only.refl _ _⟩,λhn=>?_⟩;rotate_left
  ·refine(mV ((VB.keep bF λk _ bT=>o5.block k bT aac).slice bF) kk).mono ?_;rintro _ j8 ⟨rfl,kj⟩;have hn:=aX hn;refine⟨_,rfl,kj.same aae,s,si,sd,sr,sa,sm,kj.blk xb aac,?_,⟨rfl,rfl,rfl,rfl,rfl,rfl,rfl,rfl,rfl,rfl,rfl,rfl⟩,rfl,kj⟩;rw[ga];exact⟨.inr,λh=>h.resolve_left hn⟩
  rintro b a1 a2 a3 a4 a5 q i b1 b2 b3 b4 b5 b6 w6 ⟨rfl,⟨e1,e2,e3,e4,e5,e6,e7,e8,e9,e10,e11,e12⟩,ei,eH⟩;subst a1 a2 a3 a4 a5 q b1 b2 b3 b4 b5 b6 i;have z6:=eH.size;have o6:=o5.cr eH;have p6:=p5.cr eH;have m1:dd w1.heap.size w6 l1 st.1:=VB.keep bF λk _ bT=>o6.block k bT aac;have m2:dd w1.heap.size w6 l2 st.2:=KK.keep bF λk _ bT=>o6.block k bT aac;have g1:∀k,im l1 k->w1.heap.size<=k/\k<w2.heap.size:=λk e=>VB.blk e;have g2:∀k,im l2 k->w1.heap.size<=k/\k<w2.heap.size:=λk e=>KK.blk e;refine⟨λhb=>?_,λhb=>?_⟩
  ·have hb:=aP hb;exact⟨st,by rw[ch1,bc hb],hA,m1,m2,Ja,⟨rfl,rfl,rfl,rfl,rfl,rfl,rfl,rfl,rfl,rfl,rfl,rfl⟩,p6⟩
  have hb:=aX hb;rw[aY hb]at ch1;have gU:0<=kk:=Int.not_lt.1 λh=>hb (.inl h);obtain⟨kn,rk,hkn,hrk⟩:=XA (xs:=p.sp) (ro:=p.ro) (may:=may) (leaf:=L[j]) (by rw[<-F6];exact gU);rw[<-F6]at hkn;have azH:=(aZ.1 hrk).1;have hAl:=hA.len;have azI:=hA.d;have UD:Asked p.ro (st.1++[kk],if(st.2.any λo=>gF p.sp p.ro act kk o&&!pN p.sp p.ro kk o)=true then st.2 else(st.2.filter λo=>!gF p.sp p.ro act kk o)++[kk]):=by
   refine⟨λx hx=>?_,λx hx=>?_,?_,?_⟩
   ·rcases bN.1 hx with hx | hx
    ·exact hA.a x hx
    exact⟨kn,rk,by rw[aO.1 hx];exact hkn,hrk⟩
   ·dsimp only at hx⊢;split at hx
    ·exact bN.2 (.inl (hA.b x hx))
    rcases bN.1 hx with hx | hx
    ·exact bN.2 (.inl (hA.b x (di.1 hx).1))
    exact bN.2 (.inr hx)
   ·rw[List.nodup_append];refine⟨hA.c,yz _ _,λa ha b jL=>?_⟩;rw[aO.1 jL];exact λe=>hb (.inr (by rw[<-e];exact ha))
   dsimp only;rw[aW,bK];split
   ·omega
   rw[aW,bK];have:=cu (λo=>!gF p.sp p.ro act kk o) st.2;omega
  obtain⟨y,w7,r1,r2,t1,w8,r3,r4,r5,r6⟩:=O5 m1 aG (n:=kk) ⟨aG,aG⟩ aG;have z7:=r2.size;have z8:=r5.size;have aer:∀{u v:ay} {P:aL} {bs:List Nat},aF P u v->(∀k,P k->im l1 k∨im l2 k)->(∀k,k∈bs->k<u.heap.size/\(k<w1.heap.size∨w2.heap.size<=k))->ci bs u v:=λhO hPp hbs=>hO.same λx hx=>⟨(hbs x hx).1,λe=>by
   rcases hPp x e with e | e
   ·have:=g1 x e;have:=(hbs x hx).2;omega
   have:=g2 x e;have:=(hbs x hx).2;omega⟩
  have t1g:∀k,im t1 k->im l1 k∨w6.heap.size<=k:=r6;have t1b:∀k,im t1 k->k<w8.heap.size:=λk e=>(r4.blk e).2;refine⟨y,w7,r1,r2.same aae,t1,w8,r3,aer r5 (λk e=>.inl e) aae,λk8 w9 hk8 Yl gH xt pD tV Yh NU hb8=>?_⟩;have z9:=gH.size;have p8:aA [] w1 w8:=((p6.cr r2).mZ (r5.mono (G:=λk=>w1.heap.size<=k) λk _ e=>(g1 k e).1)).only λk hk=>hk;have p9:=p8.cr gH;have o9:aA [] w w9:=(cO.cr cG).cr p9;have n1:dd w1.heap.size w9 t1 (st.1++[kk]):=r4.keep bF λk _ bT=>gH.block k bT aac;have n2:dd w1.heap.size w9 l2 st.2:=((m2.keep bF λk _ bT=>r2.block k bT aac).keep bF λk hk bT=>r5.block k bT λe=>Ja k e (hk.resolve_left id).2).keep bF λk _ bT=>gH.block k bT aac;have K4:∀k,im t1 k->¬im l2 k:=λk e e'=>by
   rcases t1g k e with h | h
   ·exact Ja k h e'
   have:=g2 k e';omega
  have hC9:Cb w9 k2 F G H s si sd sr sa sm p act may:=⟨tV,hP.o0 o9,kI ha o9,SliceF.only qF aN hM o9 aac⟩
  refine(aca (f:=⟨.func (.func 52) #[] #[ai (some ⟨k8,0,none⟩),ai (some ⟨k3,0,none⟩),ai (some ⟨k7,0,none⟩)],rfl⟩) (n2.slice bF) aG ⟨eU (by kernel_rfl),λo ho v hO=>?_⟩ (p:=λo=>gF p.sp p.ro act kk o&&!pN p.sp p.ro kk o) (cap:=[ai (some ⟨k8,0,none⟩),ai (some ⟨k3,0,none⟩),ai (some ⟨k7,0,none⟩)]) rfl).mono ?_
  ·have IY:aA [] w9 v:=hO.only λk h=>h.elim;obtain⟨on,rj,hoe,hrj⟩:=hA.a o (hA.b o ho);exact Pj (IY.blk xt aac) (IY.blk pD aac) (IY.blk NU aac) (IY.blk Yh aac) (IY.blk hb8 aac) (hC9.o0 IY) zZ aG hkn hoe hrk hrj
  rintro _ dL ⟨rfl,dW⟩;have PM:=dW.size;have p10:=p9.cr dW;refine⟨_,rfl,s,si,sd,sr,dW.blk xt aac,sa,dW.blk pD aac,s,si,sd,sr,sa,sm,dW.blk tV aac,_,dW.blk Yh aac,kk,dW.blk NU aac,⟨.func (.func 49) #[] #[ai (some ⟨k0,0,none⟩),ai (some ⟨k1,0,none⟩),ai (some ⟨k7,0,none⟩)],rfl⟩,dW.blk hb8 aac,λhy=>?_,λhy=>?_⟩
  ·rw[bc hy]at ch1 UD;exact⟨_,ch1.symm,UD,n1.keep bF λk _ bT=>dW.block k bT aac,n2.keep bF λk _ bT=>dW.block k bT aac,K4,⟨rfl,rfl,rfl,rfl,rfl,rfl,rfl,rfl,rfl,rfl,rfl,rfl⟩,p10⟩
  rw[aY (by rw[hy];decide)]at ch1 UD;refine⟨λot a1 a2 a3 a4 a5 q i vv b1 b2 b3 b4 b5 b6 v=>dd w1.heap.size v ot ((st.2.filter λo=>!gF p.sp p.ro act kk o)++[kk])/\dd w1.heap.size v t1 (st.1++[kk])/\(∀k,im t1 k->¬im ot k)/\(a1=s/\a2=si/\a3=sd/\a4=sr/\a5=sa/\q=some ⟨k2,0,none⟩/\b1=s/\b2=si/\b3=sd/\b4=sr/\b5=sa/\b6=sm)/\aA [] w1 v,?_,λeT fk cb0 cb1 cb2 cb3 cb7 cb8=>?_⟩
  ·rintro ot a1 a2 a3 a4 a5 q i vv b1 b2 b3 b4 b5 b6 v ⟨h1,h2,h3,h4,h5⟩;exact⟨_,ch1.symm,UD,h2,h1,h3,h4,h5⟩
  have z12:=fk.size;have p12:=p10.cr fk;have o12:aA [] w eT:=(cO.cr cG).cr p12;have v1:dd w1.heap.size eT t1 (st.1++[kk]):=(n1.keep bF λk _ bT=>dW.block k bT aac).keep bF λk _ bT=>fk.block k bT aac;have v2:dd w1.heap.size eT l2 st.2:=(n2.keep bF λk _ bT=>dW.block k bT aac).keep bF λk _ bT=>fk.block k bT aac;have nl:∀k,k<w1.heap.size∨w2.heap.size<=k->¬im l2 k:=λk h e=>by have:=g2 k e;omega
  have fl:∀k,F k/\k<w.heap.size->¬im l2 k:=λk h=>nl k (.inl aG);have del:∀{v:ay},aA [] eT v->dd w1.heap.size v l2 st.2->aB au 32 #[l2.v,.func (.func 49) #[] #[ai (some ⟨k0,0,none⟩),ai (some ⟨k1,0,none⟩),ai (some ⟨k7,0,none⟩)]] v λe v'=>∃s':Sl,e=aq s'.v/\s'.a=l2.a/\s'.c=l2.c/\dd w1.heap.size v' s' (st.2.filter λo=>!gF p.sp p.ro act kk o)/\aF (im l2) v v':=fun{v} CQ hv=>by
   have ov:=o12.cr CQ;have zv:=CQ.size;refine rK (f:=⟨.func (.func 49) #[] #[ai (some ⟨k0,0,none⟩),ai (some ⟨k1,0,none⟩),ai (some ⟨k7,0,none⟩)],rfl⟩) hv aG ⟨eU (by kernel_rfl),λo ho x hO=>?_⟩ (p:=λo=>gF p.sp p.ro act kk o) (cap:=[ai (some ⟨k0,0,none⟩),ai (some ⟨k1,0,none⟩),ai (some ⟨k7,0,none⟩)]) rfl;have hP':PlR x (λk=>F k/\k<w.heap.size) s si sd sr p:=(hP.inH.o0 ov).kp λk hk bT=>hO.block k bT (fl k hk);have FY:aD rInt 1 x (λk=>G k/\k<w.heap.size) sa act:=(kI (SliceF.inHeap bF ha aN) ov).keep bF aN λk hk bT=>hO.block k bT (nl k (.inl aG));exact DM (hO.blk (CQ.blk cb0 aac) (nl k0 (.inl aG))) (hO.blk (CQ.blk cb1 aac) (nl k1 (.inl aG))) (hO.blk (CQ.blk cb7 aac) (nl k7 (.inr aG))) hP' zZ FY aG
  have kJ:∀{a b:ay} {P:aL},aF P a b->(∀k,P k->im l2 k)->bS (λk=>k<eT.heap.size/\¬im l2 k) a b:=λhO hPp k hk bT=>hO.block k bT λe=>hk.2 (hPp k e);refine⟨λk=>k<eT.heap.size/\¬im l2 k,⟨aG,nl k8 (.inr aG)⟩,⟨aG,nl k7 (.inr aG)⟩,?_,?_⟩
  ·refine(del (Only.refl _ _) v2).mono ?_;rintro _ fI ⟨s',rfl,UX,_,xd,ez⟩;have VK:=ez.size;have QJ:∀k,im s' k↔im l2 k:=λk=>by unfold im;rw[UX]
   obtain⟨y2,fS,u1,u2,ot,ia,u3,u4,u5,u6⟩:=O5 xd aG (n:=kk) ⟨aG,aG⟩ (by have:=cu (λo=>!gF p.sp p.ro act kk o) st.2;omega);have z14:=u2.size;have z15:=u5.size;refine⟨s',rfl,s,si,sd,sr,ez.blk cb0 (nl k0 (.inl aG)),sa,ez.blk cb1 (nl k1 (.inl aG)),s,si,sd,sr,sa,sm,ez.blk cb2 (nl k2 (.inl aG)),_,ez.blk cb3 (nl k3 (.inl aG)),kk,ez.blk cb7 (nl k7 (.inr aG)),_,ez.blk cb8 (nl k8 (.inr aG)),kJ ez (λ_ e=>e),y2,fS,u1,u2.same aae,bS.only u2,ot,ia,u3,aer u5 (λk e=>.inr ((QJ k).1 e)) aae,kJ u5 (λk e=>(QJ k).1 e),u4,?_,λk e e'=>?_,⟨rfl,rfl,rfl,rfl,rfl,rfl,rfl,rfl,rfl,rfl,rfl,rfl⟩,?_⟩
   ·exact((v1.keep bF λk hk bT=>ez.block k bT (K4 k (hk.resolve_left id).2)).keep bF λk _ bT=>u2.block k bT aac).keep bF λk hk bT=>u5.block k bT λe=>K4 k (hk.resolve_left id).2 ((QJ k).1 e)
   ·rcases u6 k e' with h | h
    ·exact K4 k e ((QJ k).1 h)
    have:=t1b k e;omega
   exact((((p12.mZ (ez.mono (G:=λk=>w1.heap.size<=k) λk _ e=>(g2 k e).1)).only λk hk=>hk).cr u2).mZ (u5.mono (G:=λk=>w1.heap.size<=k) λk _ e=>(g2 k ((QJ k).1 e)).1)).only λk hk=>hk
  obtain⟨y2,io,u1,u2,uY⟩:=BH eT (a:=kk) ⟨aG,aG⟩;have z16:=u2.size;refine⟨y2,io,u1,u2.same aae,bS.only u2,(del u2 (v2.keep bF λk _ bT=>u2.block k bT aac)).mono ?_⟩;rintro _ gn ⟨s',rfl,UX,_,xd,iZ⟩;have z17:=iZ.size;have QJ:∀k,im s' k↔im l2 k:=λk=>by unfold im;rw[UX]
  have yb:∀k,im y2 k->eT.heap.size<=k/\k<io.heap.size:=λk e=>uY.blk e;have ar6:dd eT.heap.size gn y2 [kk]:=uY.keep bF λk hk bT=>iZ.block k bT (nl k (.inr (by have:=(hk.resolve_left id).1;omega)));obtain⟨ot,jC,u3,u4,u5,u6⟩:=Ng xd aG (ar6.slice bF) (λk hk e=>nl k (.inr (by have:=(hk.resolve_left id).1;omega)) ((QJ k).1 e)) (by have:=cu (λo=>!gF p.sp p.ro act kk o) st.2;rw[bK];omega);have z18:=u5.size;have otn:∀k,im ot k->im l2 k∨gn.heap.size<=k:=λk e=>(u6 k e).imp (QJ k).1 id;refine⟨s',rfl,s,si,sd,sr,iZ.blk (u2.blk cb0 aac) (nl k0 (.inl aG)),sa,iZ.blk (u2.blk cb1 aac) (nl k1 (.inl aG)),s,si,sd,sr,sa,sm,iZ.blk (u2.blk cb2 aac) (nl k2 (.inl aG)),_,iZ.blk (u2.blk cb3 aac) (nl k3 (.inl aG)),kk,iZ.blk (u2.blk cb7 aac) (nl k7 (.inr aG)),_,iZ.blk (u2.blk cb8 aac) (nl k8 (.inr aG)),kJ iZ (λ_ e=>e),ot,jC,u3,aer u5 (λk e=>.inr ((QJ k).1 e)) aae,kJ u5 (λk e=>(QJ k).1 e),u4,?_,λk e e'=>?_,⟨rfl,rfl,rfl,rfl,rfl,rfl,rfl,rfl,rfl,rfl,rfl,rfl⟩,?_⟩
  ·exact((v1.keep bF λk _ bT=>u2.block k bT aac).keep bF λk hk bT=>iZ.block k bT (K4 k (hk.resolve_left id).2)).keep bF λk hk bT=>u5.block k bT λe=>K4 k (hk.resolve_left id).2 ((QJ k).1 e)
  ·rcases otn k e' with h | h
   ·exact K4 k e h
   have:=t1b k e;omega
  exact((((p12.cr u2).mZ (iZ.mono (G:=λk=>w1.heap.size<=k) λk _ e=>(g2 k e).1)).only λk hk=>hk).mZ (u5.mono (G:=λk=>w1.heap.size<=k) λk _ e=>(g2 k ((QJ k).1 e)).1)).only λk hk=>hk
 have hc:=aX hc;have:j=L.length:=aG
 subst this;rw[bq (ba _)]at lH;refine⟨⟨l2,rfl,?_⟩,(cO.cr cG).cr dk⟩;have e:kM p.sp p.ro act may=st.2:=by
  unfold kM;rw[hLv,lH]
 rw[e];exact Own.low KK aG
end
def Dj(w:ay):Prop:=Lib.TabIs au w "math/bits.deBruijn64tab" .u8 (Lib.deBruijn64tab.map λx:Nat=>(x:Int))
theorem ach:Tryz.prog.globalNamed "math/bits.deBruijn64tab" =some 5:=by kernel_rfl
theorem Dj.keep{w w':ay}(h:Dj w)(hk:5<w.heap.size->w'.heap[5]? =w.heap[5]?):Dj w':=by
 unfold Dj Lib.TabIs World.var? at h⊢;rw[ach]at h⊢;simp only[yy]at h⊢;rw[hk]
 ·exact h
 refine cy λhn=>?_;rw[fm aG]at h;cases h
theorem Dj.only{w w':ay}(h:Dj w)(hO:aA [] w w'):Dj w':=h.keep λbT=>hO.block _ bT aac
end Go.Proofs.YtpbgcbdclnfpnaaGreatDoor.Con
namespace Go.Kt
open Go Go.RowKit
end Go.Kt
namespace Go.Proofs.YtpbgcbdclnfpnaaGreatDoor.Con
open Go Go.RowKit Go.Kt Go.Kt.V Go.Proofs.YtpbgcbdclnfpnaaGreatDoor.Vc
def rCe:Rp Ce:=λ_ _ x cs=>∃en lv:Sl,cs=[O ae x.k,O ae x.pa,.int .u64 (x.up:Nat),.int .u64 (x.dn:Nat),.int .u64 (x.rg:Nat),O ae x.ini,O ae x.dft,en.v,lv.v,O ae (x.f0:Nat),O ae (x.f1:Nat)]
def rEd:Rp Nat:=λ_ _ x cs=>cs[7]? =some (.int .u64 (x:Int))/\∀v,v∈cs->v.oneCell'=true
theorem TU{w w':ay}{a:Addr}{v:az}{cs:aK}(h:aE w a (v::cs))(hO:aA [] w w'):aE w' a (v::cs):=h.keep (hO.block _ (by
 have:=h 0 v rfl;unfold World.cell? at this;refine cy λhn=>?_;rw[show(a.add 0).block=a.block from rfl,fm aG]at this;cases this) aac)
def rI0:Rp Int:=λ_ _ x cs=>cs=[O ae x]
theorem aci:rI0.Ok where
 keep h _:=h
 inHeap h:=h
 mono h _:=h
 one:=by
  rintro w F x cs h v hv;unfold rI0 at h;subst h;simp only[aO]at hv;subst hv;rfl
structure Vs (A:Nat) (u:ay) (sv su:Sl) (n:Nat):Prop where
 v:∃xs,Own lD 1 9 A u (λ_=>False) sv xs/\xs.length=n
 u:∃xs,Own rI0 1 3 A u (λ_=>False) su xs/\xs.length=n
 ap:∀k,im sv k->¬im su k
section
variable {A n:Nat} {w:ay} {sv su:Sl}
theorem Vs.only{w':ay}{bs:List Nat}(h:Vs A w sv su n)(hO:aA bs w w')(hb:∀k,k∈bs->k<A):Vs A w' sv su n:=by
 obtain⟨⟨x1,a1,a2⟩,⟨x2,b1,b2⟩,c⟩:=h;exact⟨⟨x1,a1.keep dJ λk hk bT=>hO.block k bT λe=>(by have:=hb k e;have:=(hk.resolve_left id).1;omega),a2⟩,⟨x2,b1.keep aci λk hk bT=>hO.block k bT λe=>(by have:=hb k e;have:=(hk.resolve_left id).1;omega),b2⟩,c⟩
end
structure TbR (w:ay) (F:aL) (sn sc se:Sl) (c:Ch):Prop where
 tn:aD lD 1 w F sn ((uV c.root).map λb=>b.nm)
 tc:aD rCe 11 w F sc (ceN (dR c) 0 0 c.root)
 te:aD rEd 16 w F se ((Fu (cx c) 0 c.root).map (exM (cx c)))
end Go.Proofs.YtpbgcbdclnfpnaaGreatDoor.Con
namespace Go.Proofs.YtpbgcbdclnfpnaaGreatDoor.Con
open Go Go.RowKit Go.Kt Go.Kt.V Go.Proofs.YtpbgcbdclnfpnaaGreatDoor.Vc
def pk:List Nat->Nat
 | []=>0
 | a::l=>a+256*pk l
def Gp(a:Nat):Nat:=(a/2&&& 85)+(a&&& 85)
def vF(a:Nat):Nat:=(a/4&&& 51)+(a&&& 51)
def TV(a:Nat):Nat:=(a/16+a)&&& 15
theorem acj(k:Int):0<=bits .and ae k 1048575:=by
 have h:(BitVec.ofInt 64 k&&& BitVec.ofInt 64 1048575).toNat<=1048575:=by
  rw[BitVec.toNat_and];exact Nat.and_le_right
 show 0<=IntKind.i64.wrap (((BitVec.ofInt 64 k&&& BitVec.ofInt 64 1048575).toNat:Nat):Int);rw[gx aG aG];omega
section
variable {xs:List cM} (sd:Sd xs) (hl:xs.length<=64) {act:List Int} (A:Lg xs act)
include sd hl A
theorem Iy{k:Nat}:(BL act).testBit k=true↔(k:Int)∈act:=by
 rw[Pa,bX];refine⟨λh=>h.2,λh=>⟨?_,h⟩⟩;have:=(A.at_ k h).lt;omega
theorem Pk:jg (BL act)=act:=wO (BN _) A.rise λx=>by
 rw[yd];constructor
 ·rintro⟨k,rfl,_,hk⟩;exact(Iy sd hl A).1 hk
 intro h;have h1:=(A.at_ x h).ge;have h2:=(A.at_ x h).lt;obtain⟨k,rfl⟩:∃k:Nat,x=k:=⟨x.toNat,aG⟩
 exact⟨k,rfl,aG,(Iy sd hl A).2 h⟩
end
end Go.Proofs.YtpbgcbdclnfpnaaGreatDoor.Con
