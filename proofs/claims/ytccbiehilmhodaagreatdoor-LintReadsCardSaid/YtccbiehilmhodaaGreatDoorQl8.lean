import Derived.Test.YtccbiehilmhodaaGreatDoorQl7
set_option linter.defProp false
set_option linter.unusedSectionVars false
set_option linter.unusedSimpArgs false
set_option linter.unusedVariables false
set_option maxHeartbeats 4000000
set_option maxRecDepth 100000
open Bool renaming true->aF,false->aM
open Option renaming some->Hg,none->ZQ
open List renaming length->Z8
open Decidable renaming decide->VM
open Go.Value renaming int->O,string->ae,pointer->ah,agg->ai,tuple->aj,bool->ak
open Go.IntKind renaming i64->U,wrap->au
open Go.Ending renaming returned->ao
open _root_.ByteArray renaming mk->aq
open _root_.Go.Proofs.Tryz renaming prog->ar
open Go.Instr renaming buildSlice->av
open Go renaming World->aw,Value->ay,Calls->aA
open Go.Kt renaming Only->az,SliceF->aB,Cells->aD,OnlyP->aE,Blk->aG
namespace Go.Proofs.YtccbiehilmhodaaGreatDoor.Con
open Go Go.RowKit Go.Kt Go.Kt.V Go.Proofs.YtccbiehilmhodaaGreatDoor.Vc
section
variable {F:aK} {ts:X Tk} {w w' w2:aw} {b:Nat} {l:Sl} {s s':Sx}
def XsP.atm{P:Prop}(h:XsP P F ts w b l s):XsP False F ts w b l s:=by
 obtain⟨n,m,a,d,B,_⟩:=h.blk;exact⟨⟨n,m,a,d,B,λ_ c=>c.elim⟩,h.tok,h.hF,h.en,h.lt,h.sm,h.hg⟩
def uH{c:Int}(h:s.fc≠0):fe ts s c=s:=by unfold fe;rw[W h]
def Np(c:Int):(fe ts s c).d=s.d:=EB
def uI(t:X Tk)(s:Sx):Sx:=if(tk t s.i).k=1/\s.n=0 then fe t s 2 else s
def zT(t:X Tk)(s:Sx):Sx:=if(tk t s.i).k=1/\s.d=0 then fe t (uI t s) 21 else uI t s
def Nq:(uI ts s).i=s.i:=by
 unfold uI;split
 .exact vU 2
 rfl
def dpL(a:(tk ts s.i).k=1):lu ts s={zT ts s with n:=mZ s.n}:=by
 unfold lu zT uI Az;rw[K a];by_cases h:s.n=0
 .rw[K h];by_cases b:s.d=0
  .rw[K (by dsimp only;rw[Np];exact b),K ⟨a,b⟩,K ⟨a,h⟩];by_cases c:s.fc=0
   .unfold fe;simp only[c,yC];rfl
   rw[uH c,uH c,uH (by exact c)]
  rw[W (by dsimp only;rw[Np];exact b),W λc=>b c.2,K ⟨a,h⟩]
 rw[W h];by_cases b:s.d=0
 .rw[K (by exact b),K ⟨a,b⟩,W λd=>h d.2];unfold fe;by_cases c:s.fc=0
  .simp only[c,yC]
  rw[W c,W c]
 rw[W (by exact b),W λc=>b c.2,W λc=>h c.2]
def abc(h:(zT ts s).fc=0)(k:(tk ts s.i).k=1):s.fc=0/\s.n≠0/\s.d≠0/\zT ts s=s:=by
 unfold zT at h⊢;by_cases a:s.d=0
 .rw[K ⟨k,a⟩]at h;exact absurd h (wO Z)
 rw[W λc=>a c.2]at h⊢;unfold uI at h⊢;by_cases b:s.n=0
 .rw[K ⟨k,b⟩]at h;exact absurd h (wO Z)
 rw[W λc=>b c.2]at h⊢;exact⟨h,b,a,I⟩
def nAb(y:Xs F ts w b l s)(k:Int):aA ar 85 #[rp b,ai (rz k [] [] [] Sl.nil Sl.nil Sl.nil Sl.nil 0).toArray] w λe w'=>e=ao (ai (rz k (cy ts k s).1.nm [] [] Sl.nil Sl.nil Sl.nil Sl.nil (cy ts k s).1.a).toArray)/\Dx F ts w w' b l (cy ts k s).2:=by
 refine ret (al1 ?_);intro f g G Q L A z p;have t:=((y.zt.q p).ad Q L).ad A z;obtain⟨ad,u,v⟩:=t.r.now;obtain⟨n,E,a,d,r,P⟩:=t.r.blk;have o:∀{B C:aw},az [g,f] B C->∀x,x∈[g,f]->x∈[b]∨x∈[g,f]:=λ_ x j=>.inr j;refine⟨λw'=>Zx F ts w w' b l (uI ts s) [g,f],λM i=>?_,l,Mn r 0 I,_,Mn r 1 I,ad,u,_,v.dx 0 _ I,n,λ_=>Mn r 2 I,λh N m=>?_,λh D q=>?_⟩
 .obtain⟨d,U,V⟩:=i.r.now;obtain⟨n1,m1,a1,O,n,Y⟩:=i.r.blk;have S:(tk ts (uI ts s).i)=tk ts s.i:=by rw[Nq]
  have X:(uI ts s).d=s.d:=by unfold uI;split;exact Np 2;rfl
  refine⟨λw'=>Zx F ts w w' b l (zT ts s) [g,f],λw2 a=>?_,l,Mn n 0 I,_,Mn n 1 I,d,U,_,V.dx 0 _ I,O,λ_=>Mn n 5 I,λh w6 k=>?_,λh w8 T=>?_⟩
  .obtain⟨n2,m2,a2,d2,jY,c⟩:=a.r.blk;have am:(zT ts s).i=s.i:=by
    unfold zT;split
    .rw[vU,Nq]
    exact Nq
   refine⟨_,Mn jY 2 I,b,2,_,_,I,jY,R,a.ne R,a.ne R,λw3 db qk=>?_⟩;by_cases hk:(tk ts s.i).k=1
   .have er:=dpL hk;have t3:Zx F ts w w3 b l (lu ts s) [g,f]:=⟨a.z.c db,a.r.gN (s':=lu ts s) db (by rw[er];exact qk) (λe hP=>by
     rw[er]at e⊢;obtain⟨f1,f2,f3,f4⟩:=abc e hk;have h:=c e hP;rw[f4]at h⊢;have c1:=h.n;have c2:=h.n0;have ed:mZ s.n=s.n-1:=Qc
     rw[ed,eS J J];exact⟨Sb,h.m,h.a,h.d,Sb,h.m0,h.a0,h.d0⟩) (by rw[er];exact a.r.lt)⟩
    refine(rD t3.r).mono ?_;rintro _ w4 ⟨rfl,h4⟩;have t4:=t3.nx h4;refine⟨_,_,I,t3.sc h4 R,λw5 dP=>⟨I,?_⟩⟩;exact⟨(t4.z.go dP (o dP)).o,t4.r.own dP λx j=>t4.lt j⟩
   have es:zT ts s=s:=by unfold zT uI;rw[W λhh=>hk hh.1,W λhh=>hk hh.1]
   rw[es]at qk a;have t3:ZxP False F ts w w3 b l s [g,f]:=⟨a.z.c db,a.r.atm.gN (s':=s) db qk (λ_ hP=>hP.elim) a.r.lt⟩
   refine(rD t3.r).mono ?_;rintro _ w4 ⟨rfl,h4⟩;have t4:=t3.nx h4;refine⟨_,_,I,t3.sc h4 R,λw5 e=>?_⟩;have er:lu ts s=s:=by unfold lu;rw[W hk]
   unfold cy;rw[er];have iw:(cY ts s 1).2.fc≠0:=by unfold cY;rw[K (.inr hk)];exact gx
   exact⟨I,(t4.z.go e (o e)).o,(t4.r.own e λx j=>t4.lt j).same I I I iw⟩
  .simp only[S,H,eX]at h;refine(uG (i.q k).r (c:=21) Z).mono ?_;rintro _ x ⟨rfl,l⟩;refine⟨I,(i.q k).sc l R,?_⟩;have w:=(i.q k).nx l;have e:zT ts s=fe ts (uI ts s) 21:=by
    unfold zT;by_cases b:(uI ts s).fc=0
    .have c:=Y b trivial;have:=c.d;rw[K ⟨h.1,J⟩]
    rw[uH b];split<;>rfl
   rw[e];exact w
  have e:zT ts s=uI ts s:=by
   unfold zT;by_cases b:(uI ts s).fc=0
   .have c:=Y b trivial;have:=c.d;rw[W];rintro⟨f1,f2⟩;rw[S,f1]at h;have:O=12:=J
    rw[this]at h;simp at h
   rw[uH b];split<;>rfl
  rw[e];exact i.q T
 .simp only[H,eX]at h;refine(uG (t.q m).r (c:=2) Z).mono ?_;rintro _ d ⟨rfl,V⟩;refine⟨I,(t.q m).sc V R,?_⟩;have e:uI ts s=fe ts s 2:=by
   unfold uI;by_cases a:s.fc=0
   .have c:=P a trivial;have:=c.n;rw[K ⟨h.1,J⟩]
   rw[uH a];split<;>rfl
  rw[e];exact(t.q m).nx V
 have e:uI ts s=s:=by
  unfold uI;by_cases a:s.fc=0
  .have c:=P a trivial;have:=c.n;rw[W];rintro⟨f1,f2⟩;rw[f1]at h;have:n=64:=J
   rw[this]at h;simp at h
  rw[uH a];split<;>rfl
 rw[e];exact t.q q
end
def nR:X (S):=[dU,fX,gn]
section
variable {ts:X Tk} {n:Nb} {hd:Ej} {u:Sx} {x:S} {j:Nat}
def D8(h:rY ts u 2 x=aF):(u.fc=0/\(tk ts u.i).k=2)/\(tk ts u.i).t=x:=by
 have s:u.fc=0/\(tk ts u.i).k=2:=bM λn=>by rw[D5 n]at h;cases h
 rw[HN s]at h;exact⟨s,aO h⟩
def D9(h:nR[j]? =Hg x):j<3:=(bd.1 h).1
def Qp:∀x,x∈nR->Wd x:=λx h=>by
 simp only[nR,aZ,bB,cE]at h;rcases h with rfl | rfl | rfl<;>exact⟨_,_,I,Z⟩
def chk(h:∀t,t∈ts->t.Good)(hx:nR[j]? =Hg x)(i:rY ts u 2 x=aF):bR ts u [u6,fb,fL]=0/\bR ts u [dU,fX,gn]=j+1:=by
 obtain⟨s,a⟩:=D8 i;have b:=D9 hx;rw[lC h KI,Cy s,show[dU,fX,gn]=nR from rfl,lC h Qp,Cy s,a];rcases(by omega:j=0∨j=1∨j=2)with rfl | rfl | rfl
 .have:x=dU:=Jf
  subst this;exact⟨Z,Z⟩
 .have:x=fX:=Jf
  subst this;exact⟨Z,Z⟩
 have:x=gn:=Jf
 subst this;exact⟨Z,Z⟩
def tj(g:∀t,t∈ts->t.Good)(h:nR[j]? =Hg x)(i:rY ts u 2 x=aF):da ts n hd u=(if Oe hd (j+1)then(aM,n,hd,fH ts u)else if j=0 then(aF,{n with ini:=(dQ ts (bP u)).1},JN hd 1,cA ts (dQ ts (bP u)).2 [59])else if j=1 then(aF,{n with en:=(ff ts (bP u)).1},JN hd 2,(ff ts (bP u)).2)else(aF,{n with lv:=(ff ts (bP u)).1},JN hd 3,(ff ts (bP u)).2)):=by
 obtain⟨h1,a⟩:=chk g h i;have b:=D9 h;unfold da;rw[W Wl,a];rcases(by omega:j=0∨j=1∨j=2)with rfl | rfl | rfl<;>rfl
def nDb(g:∀t,t∈ts->t.Good)(a:nR[0]? =Hg x)(h:rY ts u 2 x=aF/\hd.i=aF):da ts n hd u=(aM,n,hd,fH ts u):=by
 rw[tj g a h.1];exact K h.2
def agP(g:∀t,t∈ts->t.Good)(a:nR[1]? =Hg x)(h:rY ts u 2 x=aF/\hd.e=aF):da ts n hd u=(aM,n,hd,fH ts u):=by
 rw[tj g a h.1];exact K h.2
def aiE(g:∀t,t∈ts->t.Good)(a:nR[2]? =Hg x)(h:rY ts u 2 x=aF/\hd.l=aF):da ts n hd u=(aM,n,hd,fH ts u):=by
 rw[tj g a h.1];exact K h.2
def aiO(g:∀t,t∈ts->t.Good)(b:nR[0]? =Hg x)(h:rY ts u 2 x=aF)(a:hd.i=aM):u.fc=0/\(tk ts u.i).k≠5/\da ts n hd u=(aF,{n with ini:=(dQ ts (bP u)).1},{hd with i:=aF},cA ts (dQ ts (bP u)).2 [59]):=by
 obtain⟨s,_⟩:=D8 h;refine⟨s.1,by rw[s.2];decide,?_⟩;rw[tj g b h,W (by show ¬hd.i=aF;rw[a];decide)];rfl
def aaz(g:∀t,t∈ts->t.Good)(b:nR[1]? =Hg x)(h:rY ts u 2 x=aF)(a:hd.e=aM):u.fc=0/\(tk ts u.i).k≠5/\da ts n hd u=(aF,{n with en:=(ff ts (bP u)).1},{hd with e:=aF},(ff ts (bP u)).2):=by
 obtain⟨s,_⟩:=D8 h;refine⟨s.1,by rw[s.2];decide,?_⟩;rw[tj g b h,W (by show ¬hd.e=aF;rw[a];decide)];rfl
def mu0(g:∀t,t∈ts->t.Good)(b:nR[2]? =Hg x)(h:rY ts u 2 x=aF)(a:hd.l=aM):u.fc=0/\(tk ts u.i).k≠5/\da ts n hd u=(aF,{n with lv:=(ff ts (bP u)).1},{hd with l:=aF},(ff ts (bP u)).2):=by
 obtain⟨s,_⟩:=D8 h;refine⟨s.1,by rw[s.2];decide,?_⟩;rw[tj g b h,W (by show ¬hd.l=aF;rw[a];decide)];rfl
def zU(E:pG ts):∀(f g:Nat) (n:Nb) (h:Ej) (s:Sx),s.i<(Z8 ts)->mu ts s<f->mu ts s<g->cW ts f n h s=cW ts g n h s
 | 0,_,_,_,_,_,a,_=>J
 | _,0,_,_,_,_,_,a=>J
 | f+1,g+1,n,h,s,i,a,b=>by
  rw[cW,cW];split
  .rfl
  rename_i x;have x:s.fc=0:=by simpa using x
  split
  .rename_i t;have:=AF E n h x i t;exact zU E f g _ _ _ ((wP E n h s).lt i) J J
  rfl
structure InL (ts:List Tk) (C:Nb×Sx) (u0:Sx) (j:Nat) (b5:Bool) (n:Nb) (hd:Ej) (u:Sx):Prop where
 c:cW ts (Z8 ts+1) n hd u=C
 ln:Z8 n.mv+mu ts u<=Z8 ts
 le:mu ts u<=mu ts u0
 lt:b5=aF->mu ts u<mu ts u0
 no:b5=aM->u.fc=0->∀i y,i<j->nR[i]? =Hg y->rY ts u 2 y=aM
def InL.skip{C:Nb×Sx}{d:Sx}{c b:L}(h:InL ts C d j c n hd u)(f:nR[j]? =Hg x)(hc:((!rY ts u 2 x)||b)=aF)(a:rY ts u 2 x=aF/\b=aF->da ts n hd u=(aM,n,hd,fH ts u)):InL ts C d (j+1) c n hd (if rY ts u 2 x=aF/\b=aF then fH ts u else u):=by
 cases i:rY ts u 2 x
 .rw[W R];refine⟨h.c,h.ln,h.le,h.lt,λm l k y v g=>?_⟩;by_cases e:k<j
  .exact h.no m l k y e g
  have:k=j:=J
  subst this;rw[f]at g;injection g with g;subst g;exact i
 rw[i]at hc;have p:b=aF:=R0
 rw[K ⟨I,p⟩];have n:=a ⟨i,p⟩;obtain⟨s,_⟩:=D8 i;have S:mu ts (fH ts u)=0:=by unfold mu;rw[W gx]
 have e:=h.c;rw[cW,W (by simp[s.1]),n,W R]at e;refine⟨?_,by have:=h.ln;omega,J,λj=>by have:=h.lt j;omega,λ_ g=>absurd g gx⟩;rw[cW,K gx];exact e
def InL.step{d:Nb×Sx}{e:Sx}{g:L}{b:Nb}{p:Ej}{c:Sx}(h:InL ts d e j g n hd u)(a:pG ts)(T:u.i<Z8 ts)(x:u.fc=0)(U:da ts n hd u=(aF,b,p,c)):InL ts d e (j+1) aF b p c:=by
 have m:=AF a n hd x T (by rw[U]);have f:=DH (ts:=ts) n hd u;have E:=wP a n hd u;rw[U]at m f E;dsimp only at m f E;have C:=h.c;have l:=h.ln;have y:=h.le;have z:=jL ts u;rw[cW,W (by simp[x]),U,K I]at C;dsimp only at C;refine⟨?_,J,J,λ_=>J,λi=>by cases i⟩;rw[zU a (Z8 ts+1) (Z8 ts) b p c (E.lt T) J J];exact C
end
section
variable {F:aK} {ts:X Tk} {w w' w2:aw} {b:Nat} {l:Sl} {s s':Sx}
structure By (F:aK) (ts:List Tk) (w w':aw) (b:Nat) (l:Sl) (A B k0 k1 k2:Nat) (q:Sl) (u:Sx) (n:Nb) (hd:Ej) (i0:Int) (s0 s1 s2:M) (l1 l2 l3 l4:Sl) (i1:Int) (b1 b2 b3:Bool):Prop where
 e0:i0=n.k
 e1:s0=T n.nm
 e2:s1=T n.ini
 e3:s2=T n.dft
 e4:l4=Sl.nil
 e5:i1=n.a
 e6:b1=hd.i
 e7:b2=hd.e
 e8:b3=hd.l
 no:NbO B w' n l1 l2 l3
 z:Zx F ts w w' b l u [k2,k1,k0]
 ws:aB ju 1 w' (λk=>A<=k/\k<B) q nR
 lB:B<=w'.heap.size
section
variable {A B k0 k1 k2:Nat} {q:Sl} {u u':Sx} {n:Nb} {hd:Ej} {i0:Int} {s0 s1 s2:M} {l1 l2 l3 l4:Sl} {i1:Int} {b1 b2 b3:L}
def By.x(h:By F ts w w' b l A B k0 k1 k2 q u n hd i0 s0 s1 s2 l1 l2 l3 l4 i1 b1 b2 b3)(k:Dx F ts w' w2 b l u')(c:b<A)(a:A<=B):By F ts w w2 b l A B k0 k1 k2 q u' n hd i0 s0 s1 s2 l1 l2 l3 l4 i1 b1 b2 b3:=
 ⟨h.e0,h.e1,h.e2,h.e3,h.e4,h.e5,h.e6,h.e7,h.e8,h.no.go k.o λx hx=>IG,h.z.nx k,Aw cx Z h.ws k.o λk d _ hm=>RW,bp h.lB k.o.size⟩
def By.f(h:By F ts w w' b l A B k0 k1 k2 q u n hd i0 s0 s1 s2 l1 l2 l3 l4 i1 b1 b2 b3){a:Nat}(k:az [a] w' w2)(hm:a∈[k2,k1,k0])(d:a<A)(c:A<=B):By F ts w w2 b l A B k0 k1 k2 q u n hd i0 s0 s1 s2 l1 l2 l3 l4 i1 b1 b2 b3:=
 ⟨h.e0,h.e1,h.e2,h.e3,h.e4,h.e5,h.e6,h.e7,h.e8,h.no.go k λx hx=>IG,h.z.f k hm,Aw cx Z h.ws k λk e _ hm=>RW,bp h.lB k.size⟩
def By.q'(h:By F ts w w' b l A B k0 k1 k2 q u n hd i0 s0 s1 s2 l1 l2 l3 l4 i1 b1 b2 b3)(k:az [] w' w2)(c:b<A)(a:A<=B):By F ts w w2 b l A B k0 k1 k2 q u n hd i0 s0 s1 s2 l1 l2 l3 l4 i1 b1 b2 b3:=h.x (h.z.r.dn.q k) c a
end
def Qq(F:aK)(t:X Tk)(b:Nat)(l:Sl)(f:Nat)(d:Int):Prop:=∀(k:Int) (u:Sx) (w:aw),Xs F t w b l u->u.d=d->u.fc=0->(tk t u.i).k≠5->aA ar 158 #[rp b,O U k] w λe w'=>∃c,e=ao (ai c.toArray)/\pv aF f w' (Fr w.heap.size) (fl t f k (bP u)).1 c/\Dx F t w w' b l (fl t f k (bP u)).2
def afj{f:Nat}(h:Xs F ts w b l s){n:Nb}(Ix:n.en=[])(CB:n.lv=[])(V:n.mv=[])(hd:rX s.d)(hN:s.fc=0->Qq F ts b l f s.d):
  aA ar 87 #[rp b,ai (rz n.k n.nm n.ini n.dft Sl.nil Sl.nil Sl.nil Sl.nil n.a).toArray] w λe w'=>∃cs,e=ao (ai cs.toArray)/\
   pv aF (f+1) w' (Fr w.heap.size) (.mk (cW ts (Z8 ts+1) n ⟨aM,aM,aM⟩ s).1 (gw ts (fl ts f) (Z8 ts+1) [] (cW ts (Z8 ts+1) n ⟨aM,aM,aM⟩ s).2).1) cs/\Dx F ts w w' b l (gw ts (fl ts f) (Z8 ts+1) [] (cW ts (Z8 ts+1) n ⟨aM,aM,aM⟩ s).2).2:=by
 generalize hC:cW ts (Z8 ts+1) n ⟨aM,aM,aM⟩ s=C;have SK:On ts s C.2:=by rw[<-hC];exact mN h.en _ _ _ _
 generalize hK:gw ts (fl ts f) (Z8 ts+1) [] C.2=am;refine iE (al3 ?_);intro g i j w0 fQ dL ki ik mE nT ch;have t0:=(((h.zt.q ch).ad fQ dL).ad ki ik).ad mE nT;obtain⟨q,w1,e1,hq,cp⟩:=jb w0 [dU,fX,gn] (n:=3) (parts:=#[(0,ae (T dU)),(1,ae (T fX)),(2,ae (T gn))]) I I Z Z;have hq:=((pT hq).inHeap cx Z).mono cx (G:=λk=>w0.heap.size<=k/\k<w1.heap.size) λk a=>⟨a.1.1,a.2⟩
 have aC:=cp.size;have aT:=t0.r.lb;have z0:=t0.z.o.size;refine⟨q,w1,e1,t0.sq cp R,?_⟩;generalize aS:w1.heap.size=d at*
 generalize bV:w0.heap.size=A at*
 have N:b<A:=aT;have r:g<A:=dL;have bv:i<A:=ik;have L:j<A:=nT;have E:A<=d:=aC;refine⟨λz b0 Y s0 s1 s2 m o p l4 i1 b1 b2 b3 w'=>∃(c:Nb) (hd:Ej) (u:Sx),By F ts w w' b l A d g i j q u c hd Y s0 s1 s2 m o p l4 i1 b1 b2 b3/\Z8 c.mv+mu ts u<=Z8 ts/\(b0=aF->cW ts (Z8 ts+1) c hd u=C/\mu ts u+1<=z)/\(b0=aM->C=(c,u)),mu ts s+1,
  ⟨n,⟨aM,aM,aM⟩,s,⟨I,I,I,I,I,I,I,I,I,⟨by rw[Ix];exact TG _ _ _ _ _ _,by rw[CB];exact TG _ _ _ _ _ _,by rw[V];exact Vf _ _ _ _ _ _⟩,t0.q cp,hq,ri aS.symm⟩,by rw[V,bE,bO];exact jL _ _,λ_=>⟨hC,aX _⟩,λh=>Rl⟩,?_⟩
 clear hC;rintro z b0 Y s0 s1 s2 m o p l4 i1 b1 b2 b3 w2 ⟨c,Lp,u,B,Aj,M,S⟩;refine⟨λb4 w'=>(b4=aF/\b0=aF/\u.fc=0/\By F ts w w' b l A d g i j q u c Lp Y s0 s1 s2 m o p l4 i1 b1 b2 b3)∨(b4=aM/\C=(c,u)/\By F ts w w' b l A d g i j q u c Lp Y s0 s1 s2 m o p l4 i1 b1 b2 b3),?_,λQ=>(am8 B.z.r).mono ?_,λQ=>.inr ⟨I,S Q,B⟩⟩;rotate_left
 .rintro _ n ⟨rfl,e⟩;refine⟨_,I,B.z.sq e R,?_⟩;have b:=B.q' e N E;by_cases x:u.fc=0
  .exact .inl ⟨by simpa using x,Q,x,b⟩
  .have hc:=(M Q).1;rw[cW,K x]at hc;exact .inr ⟨by simpa using x,hc.symm,b⟩
 clear B;rintro b4 w3 (⟨rfl,Q,xB,B3⟩ | ⟨rfl,bY,B3⟩)
 .refine⟨λ_=>?_,λhh=>ZB⟩;obtain⟨gZ,cC⟩:=M Q;refine⟨λce b5 i2 i3 s3 s4 s5 l5 l6 l7 l8 i4 b6 b7 b8 w'=>∃(cc:Nat) (s:Nb) (T:Ej) (f:Sx),i2=(cc:Int)/\cc<=3/\ce=3-cc/\By F ts w w' b l A d g i j q f s T i3 s3 s4 s5 l5 l6 l7 l8 i4 b6 b7 b8/\InL ts C u cc b5 s T f,3,
   ⟨0,c,Lp,u,I,Z,I,B3,gZ,Aj,aX _,λh=>Rl,λ_ _ co y hi=>absurd hi (CJ _)⟩,?_⟩
  clear B3;rintro ce b5 i2 i3 s3 s4 s5 l5 l6 l7 l8 i4 b6 b7 b8 w4 ⟨cc,s,T,f,rfl,Te,rfl,B4,L6⟩;refine⟨λhc=>?_,λhc=>?_⟩
  .have hj:cc<3:=Ro
   obtain⟨H0,x,c1,c2,v,_⟩:=Cz B4.ws (n:=cc) hj;refine⟨λb9 i5 s6 s7 s8 l9 G pr pL i6 QW Sw Sy w'=>∃(P:Nb) (y:Ej) (t:Sx),By F ts w w' b l A d g i j q t P y i5 s6 s7 s8 l9 G pr pL i6 QW Sw Sy/\InL ts C u (cc+1) b9 P y t,?_,H0,c1,_,c2,(FV B4.z.r 2 x).mono ?_⟩
   .rintro b9 i5 s6 s7 s8 l9 G pr pL i6 QW Sw Sy e ⟨P,y,t,b,w⟩;exact⟨3-(cc+1),J,cc+1,P,y,t,TE,J,I,b,w⟩
   rintro _ w6 ⟨rfl,dN⟩;refine⟨_,I,B4.z.sq dN R,?_⟩;have B6:=B4.q' dN N E;clear B4 c1 c2 hc Te;rcases(by omega:cc=0∨cc=1∨cc=2)with rfl | rfl | rfl
   ·
    have k:=D9 (x:=x) v;refine⟨λw'=>∃t,(t=if rY ts f 2 x=aF/\T.i=aF then fH ts f else f)/\By F ts w w' b l A d g i j q t s T i3 s3 s4 s5 l5 l6 l7 l8 i4 b6 b7 b8,?_,⟨Z,Z⟩,⟨⟨λ_=>⟨λhc=>?_,λhc=>?_⟩,λe=>absurd e Z⟩,λe=>absurd e Z⟩⟩;rotate_left
    .rw[H,B6.e6]at hc;refine(pq B6.z.r).mono ?_;rintro _ w ⟨rfl,h⟩;exact⟨I,B6.z.sc h R,_,(K hc).symm,B6.x h N E⟩
    .rw[B6.e6]at hc;refine⟨f,(W λhh=>?_).symm,B6⟩;rw[hh.1,hh.2]at hc;cases hc
    rintro w ⟨t,q,l⟩;refine⟨⟨Z,Z⟩,⟨⟨λ_=>⟨λhc=>?_,λhc=>?_⟩,λe=>absurd e Z⟩,λe=>absurd e Z⟩⟩
    .rw[l.e6]at hc;refine⟨s,T,t,l,?_⟩;rw[q];exact L6.skip v hc (λhi=>nDb h.hg v hi)
    .rw[l.e6]at hc;simp only[fN,fO]at hc;obtain⟨hi,hh⟩:=hc;rw[W Gq]at q;subst q;obtain⟨xB,mo,nU⟩:=aiO h.hg v hi hh (n:=s);have Zf:=h.en.next l.z.r.lt mo;refine⟨⟨Z,Z⟩,⟨⟨λ_ w8 ft=>?_,λe=>absurd e Z⟩,λe=>absurd e Z⟩⟩;have B8:=l.f ft R L E;obtain⟨nn,mm,aa,dd,re,Yo⟩:=B8.z.r.blk;refine⟨_,Mn re 1 I,b,1,_,_,I,re,R,B8.z.ne R,B8.z.ne R,B8.z.ne R,λw9 fm CE=>?_⟩;rw[B8.z.r.wr]at CE;have B9:=B8.x (u':=bP t) ⟨fm,B8.z.r.gN (s':=bP t) fm CE (λe hP=>(Yo e hP).next) Zf⟩ N E;refine⟨λ_=>(rD B9.z.r).mono ?_,λhh=>ZB⟩;rintro _ dk ⟨rfl,mV⟩;have dO:=B9.x mV N E;refine⟨_,_,I,B9.z.sc mV R,λdz dl=>?_⟩;have Af:=dO.f dl R r E;refine(Qm Af.z.r (x:=[59]) ⟨_,_,I,Z⟩).mono ?_;rintro _ eF ⟨rfl,xi⟩;have F:=Af.x xi N E;exact⟨I,Af.z.sc xi R,{s with ini:=(dQ ts (bP t)).1},{T with i:=aF},_,⟨F.e0,F.e1,I,F.e3,F.e4,F.e5,I,F.e7,F.e8,⟨F.no.en,F.no.lv,F.no.mv⟩,F.z,F.ws,F.lB⟩,L6.step h.en l.z.r.lt xB nU⟩
   ·
    have el:=D9 (x:=x) v;refine⟨λw'=>∃t,(t=if rY ts f 2 x=aF/\T.e=aF then fH ts f else f)/\By F ts w w' b l A d g i j q t s T i3 s3 s4 s5 l5 l6 l7 l8 i4 b6 b7 b8,?_,⟨Z,Z⟩,⟨⟨λe=>absurd e Z,λ_=>⟨λhc=>?_,λhc=>?_⟩⟩,λe=>absurd e Z⟩⟩;rotate_left
    .rw[H,B6.e7]at hc;refine(pq B6.z.r).mono ?_;rintro _ w ⟨rfl,h⟩;exact⟨I,B6.z.sc h R,_,(K hc).symm,B6.x h N E⟩
    .rw[B6.e7]at hc;refine⟨f,(W λhh=>?_).symm,B6⟩;rw[hh.1,hh.2]at hc;cases hc
    rintro w ⟨t,q,l⟩;refine⟨⟨Z,Z⟩,⟨⟨λe=>absurd e Z,λ_=>⟨λhc=>?_,λhc=>?_⟩⟩,λe=>absurd e Z⟩⟩
    .rw[l.e7]at hc;refine⟨s,T,t,l,?_⟩;rw[q];exact L6.skip v hc (λhi=>agP h.hg v hi)
    .rw[l.e7]at hc;simp only[fN,fO]at hc;obtain⟨hi,hh⟩:=hc;rw[W Gq]at q;subst q;obtain⟨xB,mo,nU⟩:=aaz h.hg v hi hh (n:=s);have Zf:=h.en.next l.z.r.lt mo;refine⟨⟨Z,Z⟩,⟨⟨λe=>absurd e Z,λ_ w8 ft=>?_⟩,λe=>absurd e Z⟩⟩;have F:=l.f ft R L E;obtain⟨nn,mm,aa,dd,re,Yo⟩:=F.z.r.blk;refine⟨_,Mn re 1 I,b,1,_,_,I,re,R,F.z.ne R,F.z.ne R,F.z.ne R,λw9 fm CE=>?_⟩;rw[F.z.r.wr]at CE;have B9:=F.x (u':=bP t) ⟨fm,F.z.r.gN (s':=bP t) fm CE (λe hP=>(Yo e hP).next) Zf⟩ N E;refine⟨λhh=>ZB,λ_=>⟨λ_=>(D7 B9.z.r).mono ?_,λhh=>ZB⟩⟩;rintro _ dk ⟨la,rfl,XX,mV⟩;have eQ:=B9.x mV N E;refine⟨la,I,B9.z.sc mV R,λdz dl=>?_⟩;have x:=eQ.f dl R r E;have fd:=XX.stay (cN aF) Z ((EK _ _).f dl (.inl (by have:=B9.lB;omega)));have V:∀k,w9.heap.size<=k->l7.a≠Hg ⟨k,0,ZQ⟩:=λk a=>B9.no.mv.new a;exact⟨{s with en:=(ff ts (bP t)).1},{T with e:=aF},_,⟨x.e0,x.e1,x.e2,x.e3,x.e4,x.e5,x.e6,I,x.e8,x.no.adO fd B9.lB V,x.z,x.ws,x.lB⟩,L6.step h.en l.z.r.lt xB nU⟩
   ·
    have f5:=D9 (x:=x) v;refine⟨λw'=>∃t,(t=if rY ts f 2 x=aF/\T.l=aF then fH ts f else f)/\By F ts w w' b l A d g i j q t s T i3 s3 s4 s5 l5 l6 l7 l8 i4 b6 b7 b8,?_,⟨Z,Z⟩,⟨⟨λe=>absurd e Z,λe=>absurd e Z⟩,λ_=>⟨λhc=>?_,λhc=>?_⟩⟩⟩;rotate_left
    .rw[H,B6.e8]at hc;refine(pq B6.z.r).mono ?_;rintro _ w ⟨rfl,h⟩;exact⟨I,B6.z.sc h R,_,(K hc).symm,B6.x h N E⟩
    .rw[B6.e8]at hc;refine⟨f,(W λhh=>?_).symm,B6⟩;rw[hh.1,hh.2]at hc;cases hc
    rintro x ⟨t,w,q⟩;refine⟨⟨Z,Z⟩,⟨⟨λe=>absurd e Z,λe=>absurd e Z⟩,λ_=>⟨λhc=>?_,λhc=>?_⟩⟩⟩
    .rw[q.e8]at hc;refine⟨s,T,t,q,?_⟩;rw[w];exact L6.skip v hc (λhi=>aiE h.hg v hi)
    .rw[q.e8]at hc;simp only[fN,fO]at hc;obtain⟨hi,hh⟩:=hc;rw[W Gq]at w;subst w;obtain⟨xB,mo,nU⟩:=mu0 h.hg v hi hh (n:=s);have Zf:=h.en.next q.z.r.lt mo;refine⟨⟨Z,Z⟩,⟨⟨λe=>absurd e Z,λe=>absurd e Z⟩,λ_ w8 ft=>?_⟩⟩;have B8:=q.f ft R L E;obtain⟨nn,mm,aa,dd,re,Yo⟩:=B8.z.r.blk;refine⟨_,Mn re 1 I,b,1,_,_,I,re,R,B8.z.ne R,B8.z.ne R,B8.z.ne R,λw9 fm CE=>?_⟩;rw[B8.z.r.wr]at CE;have B9:=B8.x (u':=bP t) ⟨fm,B8.z.r.gN (s':=bP t) fm CE (λe hP=>(Yo e hP).next) Zf⟩ N E;refine⟨λhh=>ZB,λ_=>⟨λhh=>ZB,λ_=>⟨λ_=>(D7 B9.z.r).mono ?_,λhh=>ZB⟩⟩⟩;rintro _ dk ⟨la,rfl,XX,mV⟩;have ge:=B9.x mV N E;refine⟨la,I,B9.z.sc mV R,λdz dl=>?_⟩;have F:=ge.f dl R r E;have gE:=XX.stay (cN aF) Z ((EK _ _).f dl (.inl (by have:=B9.lB;omega)));have V:∀k,w9.heap.size<=k->l7.a≠Hg ⟨k,0,ZQ⟩:=λk a=>B9.no.mv.new a;exact⟨{s with lv:=(ff ts (bP t)).1},{T with l:=aF},_,⟨F.e0,F.e1,F.e2,F.e3,F.e4,F.e5,F.e6,F.e7,I,F.no.adP gE B9.lB V,F.z,F.ws,F.lB⟩,L6.step h.en q.z.r.lt xB nU⟩
  .have hj:cc=3:=M1
   subst hj;have vB:=h.sm;have Ez:=jL ts f;have gT:=L6.ln;refine(xrv B4.z.r).mono ?_;rintro _ gO ⟨rfl,gG⟩;have n:=B4.q' gG N E;refine⟨_,I,B4.z.sq gG R,λhm=>?_,λhm=>?_⟩
   .have hm:=MZ hm;obtain⟨iS,mo⟩:=cP hm;have nU:da ts s T f=(aF,{s with mv:=s.mv++[(jK ts (bR ts f [u6,fb,fL]:Nat) f).1]},T,(jK ts (bR ts f [u6,fb,fL]:Nat) f).2):=by
     unfold da;rw[K hm]
    have S:=L6.step h.en n.z.r.lt iS nU;refine(abb n.z.r iS mo).mono ?_;rintro _ ro ⟨cs,rfl,hx,iD⟩;generalize (jK ts (bR ts f [u6,fb,fL]:Nat) f).1=g8 at*
    generalize (jK ts (bR ts f [u6,fb,fL]:Nat) f).2=u3 at*
    have yx:=hx;obtain⟨gc,mF,tg,rfl,pP,_,_⟩:=yx;obtain⟨sl,rfl⟩:=dM pP;have iN:=n.x iD N E;refine⟨_,_,_,_,_,_,_,_,sl,_,mF,tg,_,I,n.z.sc iD R,λlT mK oF ut g9=>?_⟩;have L7:=iN.q' g9 N E;have wd:=iD.o.size;have wf:=g9.size;obtain⟨y,rx,e2,ip,oe,iF,e3,mU,⟨gs,lE,qT⟩,ha⟩:=jy (P:=ar) (t:=25) (ty:=25) (e:=82) (i:=Tryz.t82) (bytes:=168) (size:=13) (v:=ai (T4 g8.k g8.ev g8.wt g8.gd (nI g8.g.k g8.g.n g8.g.s g8.g.op sl g8.g.a) mF tg g8.a).toArray) (x:=g8) (G:=λk=>gO.heap.size<=k/\k<ro.heap.size) D D I I I I Z Z Z (iL aF) L7.no.mv L7.lB I ((iL aF).keep ((iL aF).mono ((iL aF).inHeap hx) λk a=>⟨a.1,a.2⟩) λk a bT=>g9.block k bT R) (λk a _=>⟨bp n.lB a.1,n.no.mv.new a.1⟩) J;have Rb:az gs mK iF:=(ip.weaken (bs':=gs) λ_ h=>Rl).trans lE λx hx=>.inl hx;have kB:∀x,x∈gs->d<=x:=λx hx=>(qT x hx).2.1;have Zg:∀nO,nO∈gs->nO≠lT:=λnO hg e=>by
     subst e;exact iN.no.mv.new oF (qT nO hg).1
    have tO:=ip.size;have oN:=L7.no.Ef mU Rb (λx hx=>(qT x hx).1) ha L7.lB;have pm:=L7.lB;have qr:=L7.z.row Rb λx hx=>bp z0 (bp E (kB x hx));have oR:=Aw cx Z L7.ws Rb λk a _ hm=>Pa
    have mt:∀x,x∈[g,i,j,lT]->x<mK.heap.size:=λx hx=>by
     simp only[aZ,bB,cE]at hx;omega
    refine⟨y,rx,e2,ip.same (λx hx=>⟨mt x hx,R⟩),oe,iF,e3,lE.same (λx hx=>⟨cD (mt x hx) tO,λhm=>?_⟩),λuP pi=>⟨mu ts u3+1,by have:=S.lt I;omega,{s with mv:=s.mv++[g8]},_,_,(⟨L7.e0,L7.e1,L7.e2,L7.e3,L7.e4,L7.e5,L7.e6,L7.e7,L7.e8,oN,qr,oR,bp pm Rb.size⟩:By F ts w iF b l A d g i j q u3 {s with mv:=s.mv++[g8]} T i3 s3 s4 s5 l5 l6 oe l8 i4 b6 b7 b8).f pi R r E,S.ln,λ_=>⟨S.c,aX _⟩,λhh=>ZB⟩⟩;have:=kB x hm;simp only[aZ,bB,cE]at hx;rcases hx with rfl | rfl | rfl | rfl
    .omega
    .omega
    .omega
    .exact Zg _ hm I
   .have hm:=MY hm;cases b5
    .refine⟨0,J,s,T,f,n,L6.ln,λhh=>ZB,λ_=>?_⟩;rw[<-L6.c,cW];by_cases b:f.fc=0
     .rw[W (by simp[b])];have w:bR ts f [dU,fX,gn]=0:=by
       show bR ts f nR=0;rw[lC h.hg Qp];have e:=L6.no I b 0 _ Z I;have k:=L6.no I b 1 _ Z I;have l:=L6.no I b 2 _ Z I;show vd ts f [dU,fX,gn] 0=0;rw[vd,e,vd,k,vd,l];rfl
      have q:da ts s T f=(aM,s,T,f):=by
       unfold da;rw[W RD,w];rfl
      rw[q,W R]
     .rw[K b]
    exact⟨mu ts f+1,by have:=L6.lt I;omega,s,T,f,n,L6.ln,λ_=>⟨L6.c,aX _⟩,λhh=>ZB⟩
 .refine⟨λhh=>ZB,λ_=>?_⟩;subst bY;dsimp only at hK SK;have AC:d<=w3.heap.size:=B3.lB;have As:Cg aF w3 (λk=>d<=k/\k<w3.heap.size) c m o p:=
   ⟨(B3.no.en.inHeap (cN aF) Z).mono (cN aF) λk a=>⟨a.1.1,a.2⟩,(B3.no.lv.inHeap (cN aF) Z).mono (cN aF) λk a=>⟨a.1.1,a.2⟩,(B3.no.mv.sl (iL aF) λk a=>a).inHeap (iL aF) Z⟩
  have t3:=B3.z;obtain⟨rfl,rfl,rfl,rfl,rfl,rfl⟩:Y=c.k/\s0=T c.nm/\s1=T c.ini/\s2=T c.dft/\l4=Sl.nil/\i1=c.a:=⟨B3.e0,B3.e1,B3.e2,B3.e3,B3.e4,B3.e5⟩
  clear B3 M S Aj;have AS:=t3.z.o.size;generalize jY:w3.heap.size=B at*
  refine⟨λn Lc QT Ld QO QP Su QU q w'=>n=c.k/\Lc=T c.nm/\QT=T c.ini/\Ld=T c.dft/\m=QO/\o=QP/\p=Su/\q=c.a/\Zx F ts w w' b l am.2 [j,i,g]/\Cg aF w' (λk=>d<=k/\k<B) c m o p/\jh aF (pv aF f) 9 28 w' (Fr B) QU am.1,?_,
   λz n Lc QT Ld QO QP Su QU q w'=>∃(h:X Nd) (u':Sx),n=c.k/\Lc=T c.nm/\QT=T c.ini/\Ld=T c.dft/\m=QO/\o=QP/\p=Su/\q=c.a/\Zx F ts w w' b l u' [j,i,g]/\Cg aF w' (λk=>d<=k/\k<B) c m o p/\Yz f B w' QU h/\B<=w'.heap.size/\gw ts (fl ts f) z h u'=am/\mu ts u'<z/\Z8 h+mu ts u'<=Z8 ts/\u'.d=s.d/\(u'.fc=0->s.fc=0),Z8 ts+1,
   ⟨[],u,I,I,I,I,I,I,I,I,t3,As,Vf _ _ _ _ _ _,ri jY.symm,hK,jw (jL _ _),MM,SK.d,λe=>(SK.le e).1⟩,?_⟩
  .rintro _ _ _ _ _ _ _ QU _ s ⟨rfl,rfl,rfl,rfl,rfl,rfl,rfl,rfl,t,e,h⟩ v b;refine⟨_,I,⟨_,_,_,_,I,(e.keep λl y T=>b.block l T Gs).mono λk a=>?_,(h.stay (ck aF f) Z (Uh b λx hx=>.inl IG)).low (ck aF f) ?_⟩,(t.f b R).dn⟩
   .have:=a.1;show w.heap.size<=k;omega
   .omega
  clear hK As t3;rintro z _ _ _ _ _ _ _ QV _ Xk ⟨w,u',rfl,rfl,rfl,rfl,rfl,rfl,rfl,rfl,s,Bv,BV,CC,hR,W3,Aa,X6,BY⟩;obtain⟨m',rfl⟩:∃m',z=m'+1:=⟨z-1,J⟩
  rw[gw]at hR;obtain⟨_,_,_,_,Cc,_⟩:=s.r.blk;have Yp:∀{u1 u2:aw} {x:Sx},Dx F ts u1 u2 b l x->Cg aF u1 (λk=>d<=k/\k<B) c m o p->Cg aF u2 (λk=>d<=k/\k<B) c m o p:=λk hn=>hn.keep λAT hi T=>k.o.block AT T Gs;have Yq:∀{u1 u2:aw} {x:Sx},Dx F ts u1 u2 b l x->Yz f B u1 QV w->Yz f B u2 QV w:=λk hn=>hn.stay (ck aF f) k.o λx hx=>.inl IG;refine⟨_,Mn Cc 6 I,λhc=>(aba s.r).mono ?_,λhc=>?_⟩
  .have hc:u'.fc=0:=R0
   rintro _ Xl ⟨rfl,Rc⟩;have l:=s.r.dn.q Rc;have b:=s.q Rc;have Do:=Yp l Bv;have Yr:=Yq l BV;refine⟨_,I,s.sq Rc R,λF=>?_,λF=>?_⟩
   .rw[K (Qu F)]at hR;rw[<-hR];exact⟨I,I,I,I,I,I,I,I,b,Do,Yr.sl (ck aF f) λk a=>a⟩
   .have F:=UU F;rw[W F]at hR;obtain⟨_,mo⟩:=cP F;have T:=s.r.lt;have vB:=h.sm;have If:=jL ts u';have EA:=uw h.en f (bR ts u' gH:Nat) (bP u') (by show rX u'.d;rw[X6];exact hd);have Lm:=pb h.en hc T mo EA.toOn0;have yr:=hN (BY hc) ((bR ts u' gH:Nat):Int) u' Xl b.r X6 hc mo;generalize bR ts u' gH=kk at*
    generalize fl ts f (kk:Int) (bP u')=EQ at*
    refine yr.mono ?_;rintro _ GE ⟨cs,rfl,hx,Ys⟩;have DO:=b.nx Ys;have GG:=Yp Ys Do;have Fd:=Yq Ys Yr;obtain⟨f',rfl⟩:∃f',f=f'+1:=by
     cases f with
     | zero=>exact hx.elim
     | succ f'=>exact⟨f',I⟩
    have yx:=hx;obtain⟨xe,xl,xm,xk,rfl,_⟩:=yx;refine⟨_,_,_,_,xe,xl,xm,xk,_,I,b.sc Ys R,λFS Xm H1 IS Lz=>?_⟩;have Gg:=DO.q Lz;have GO:=Yp (DO.r.dn.q Lz) GG;have GT:=Yq (DO.r.dn.q Lz) Fd;have ID:=Rc.size;have IF:=Ys.o.size;have IN:=Lz.size;obtain⟨y,Xn,e2,Yt,A9,Xo,e3,mU,⟨gs,Fn,qT⟩,_⟩:=jy (P:=ar) (t:=26) (ty:=26) (e:=28) (i:=Tryz.t28) (bytes:=160) (size:=9) (v:=ai (rz EQ.1.b.k EQ.1.b.nm EQ.1.b.ini EQ.1.b.dft xe xl xm xk EQ.1.b.a).toArray) (x:=EQ.1) (G:=λk=>Xl.heap.size<=k/\k<GE.heap.size) D D I I I I Z Z Z (ck aF _) GT J I ((ck aF _).keep ((ck aF _).mono ((ck aF _).inHeap hx) λk a=>⟨a.1,a.2⟩) λk a T=>Lz.block k T R) (λk a _=>⟨by show B<=k;omega,Yr.new a.1⟩) J;have N0:az gs Xm Xo:=(Yt.weaken (bs':=gs) λ_ h=>Rl).trans Fn λx hx=>.inl hx;have kB:∀x,x∈gs->B<=x:=λx hx=>(qT x hx).2.1;have Zg:∀Gt,Gt∈gs->Gt≠FS:=λGt hg e=>by
     subst e;exact Fd.new H1 (qT Gt hg).1
    have Id:=Yt.size;have Is:=N0.size;have Ge:∀x,x∈[g,i,j,FS]->x<Xm.heap.size:=λx hx=>by
     simp only[aZ,bB,cE]at hx;omega
    refine⟨y,Xn,e2,Yt.same (λx hx=>⟨Ge x hx,R⟩),A9,Xo,e3,Fn.same (λx hx=>⟨cD (Ge x hx) Id,λhm=>?_⟩),λIO Re=>⟨m',oW _,w++[EQ.1],EQ.2,I,I,I,I,I,I,I,I,(Gg.row N0 λx hx=>Ji).f Re R,?_,?_,?_,hR,J,RC,EA.d.trans X6,λe=>BY (EA.le e).1⟩⟩
    .have:=kB x hm;simp only[aZ,bB,cE]at hx;rcases hx with rfl | rfl | rfl | rfl
     .omega
     .omega
     .omega
     .exact Zg _ hm I
    .exact(GO.keep λAT hi T=>N0.block AT T λhm=>(by have:=kB AT hm;omega)).keep λAT hi T=>Re.block AT T Gs
    .refine(mU.mono (ck aF _) λk a=>?_).stay (ck aF _) Re λx hx=>.inl IG;rcases a with a | a
     .exact a
     .show B<=k;omega
    .have:=Re.size;omega
  .have hc:u'.fc≠0:=R0
   have h:bR ts u' gH=0:=bM λh=>hc (cP h).1;rw[K h]at hR;rw[<-hR];exact⟨I,I,I,I,I,I,I,I,s,Bv,BV.sl (ck aF f) λk a=>a⟩
end
section
variable {F:aK} {ts:X Tk} {w w' w2:aw} {b:Nat} {l:Sl} {s s':Sx}
def Qs:∀(f:Nat) (d:Int),0<=d->d<f->d<=9223372036854775807->Qq F ts b l f d
 | 0,d,h,a,_=>J
 | f+1,d,h0,h1,h2=>by
  intro k u w h hd am mo;refine iE (ame ?_);intro r w0 fQ dL ch;have t:=h.zt.al ch fQ dL;obtain⟨n,bv,a,dd,Q,lP⟩:=t.r.blk;refine⟨_,Mn Q 1 I,b,1,_,_,I,Q,R,t.ne R,λw1 v g=>?_⟩;rw[h.wr]at g;have m:Zx F ts w w1 b l (bP u) [r]:=⟨t.z.c v,t.r.gN (s':=bP u) v g (λe P=>(lP e P).next) (h.en.next h.lt mo)⟩
  refine(nAb m.r k).mono ?_;rintro _ w2 ⟨rfl,c⟩;have S:=m.nx c;have V:=qD h.en k (bP u);have q:=ahA (ts:=ts) (k:=k) (s:=bP u);rw[fl];have vg:(cy ts k (bP u)).1.ini=[]/\(cy ts k (bP u)).1.dft=[]/\(cy ts k (bP u)).1.en=[]/\(cy ts k (bP u)).1.lv=[]/\(cy ts k (bP u)).1.mv=[]/\(cy ts k (bP u)).1.k=k:=⟨I,I,I,I,I,I⟩
  have L:(bP u).d=d:=hd;generalize cy ts k (bP u)=N at*
  obtain⟨nb,o⟩:=N;dsimp only at*
  obtain⟨A,B,D,E,G,H⟩:=vg;obtain⟨j,y,X,Y,aC,aS,aT,i⟩:=nb;dsimp only at A B D E G H;subst A B D E G H;dsimp only at*
  refine⟨_,_,_,_,Sl.nil,Sl.nil,Sl.nil,Sl.nil,_,I,m.sc c R,λhc k4 w3 pV xA db=>?_,λhc M w9 T p z=>?_⟩
  .rw[K Ro];have a:=S.al db pV xA;refine(Qm a.r (x:=[45,62]) ⟨_,_,I,Z⟩).mono ?_;rintro _ C ⟨rfl,e⟩;have b:=a.nx e;refine⟨I,a.sc e R,(rD b.r).mono ?_⟩;rintro _ F ⟨rfl,f⟩;have s:=b.nx f;refine⟨_,_,I,b.sc f R,λw6 l=>?_⟩;have d:=s.f l R;refine(Qm d.r (x:=[59]) ⟨_,_,I,Z⟩).mono ?_;rintro _ w7 ⟨rfl,k⟩;have w:=d.nx k;exact⟨I,d.sc k R,λw8 n=>⟨_,I,⟨Sl.nil,Sl.nil,Sl.nil,Sl.nil,I,⟨TG _ _ _ _ _ _,TG _ _ _ _ _ _,TG _ _ _ _ _ _⟩,TG _ _ _ _ _ _⟩,(w.f n R).dn⟩⟩
  rw[W M1];have t9:=S.al z T p;refine(Qm t9.r (x:=[123]) ⟨_,_,I,Z⟩).mono ?_;rintro _ dk ⟨rfl,mV⟩;have bV:=t9.nx mV;have ce:=dX (s:=o) h.en [123];have cC:(cA ts o [123]).d=d:=ce.d.trans (V.d.trans L);have cc:(cA ts o [123]).fc=0->d≠0:=λhf=>by
   have:=q (ce.le hf).1;rw[L]at this;exact this
  unfold jl;dsimp only;generalize cA ts o [123]=a at*
  obtain⟨n1,m1,a1,d1,g,Yn⟩:=bV.r.blk;refine⟨I,t9.sc mV R,_,Mn g 5 I,b,5,_,_,I,g,R,bV.ne R,bV.ne R,λdz dl qS=>?_⟩;have NF:d≠0->mZ a.d=d-1:=λhz=>by unfold mZ;rw[cC,eS J J]
  have bY:Zx F ts w dz b l {a with d:=mZ a.d} [M,r]:=⟨bV.z.c dl,bV.r.gN (s':={a with d:=mZ a.d}) dl qS (λe P=>by
   have hc:=Yn e P;have hz:=cc e;have b:=hc.d;have d:=hc.d0;have f:=NF hz;rw[eS J J];exact⟨hc.n,hc.m,hc.a,Sb,hc.n0,hc.m0,hc.a0,Sb⟩) bV.r.lt⟩
  have co:a.fc=0->d<=12:=λe=>by
   have:=(Yn e trivial).d0;omega
  refine(afj (f:=f) bY.r (n:=⟨j,y,[],[],[],[],[],i⟩) I I I (rM _) (λhf=>?_)).mono ?_
  .have hz:=cc hf;show Qq F ts b l f (mZ a.d);rw[NF hz];exact Qs f (d-1) J J J
  have el:=mN h.en (Z8 ts+1) ⟨j,y,[],[],[],[],[],i⟩ ⟨aM,aM,aM⟩ {a with d:=mZ a.d};have ge:=G9 h.en (N:=fl ts f) (mZ a.d) (λk s hs _=>uw h.en f k s (by rw[hs];exact rM _)) (Z8 ts+1) [] (cW ts (Z8 ts+1) ⟨j,y,[],[],[],[],[],i⟩ ⟨aM,aM,aM⟩ {a with d:=mZ a.d}).2 el.d;generalize cW ts (Z8 ts+1) ⟨j,y,[],[],[],[],[],i⟩ ⟨aM,aM,aM⟩ {a with d:=mZ a.d}=C at*
  generalize gw ts (fl ts f) (Z8 ts+1) [] C.2=dO at*
  have eQ:=el.trans ge;rintro _ eF ⟨cs,rfl,hx,xi⟩;have gE:=bY.nx xi;have yx:=hx;obtain⟨xe,xl,xm,xk,rfl,_⟩:=yx;refine⟨_,_,_,_,xe,xl,xm,xk,_,I,bY.sc xi R,λeM dF=>?_⟩;have n:=gE.f dF R;obtain⟨n2,m2,a2,d2,jY,f5⟩:=n.r.blk;refine⟨_,Mn jY 5 I,b,5,_,_,I,jY,R,n.ne R,n.ne R,λfR eH BQ=>?_⟩;have fd:Dx F ts eM fR b l {dO.2 with d:=Ep dO.2.d}:=⟨eH,n.r.gN (s':={dO.2 with d:=Ep dO.2.d}) eH BQ (λe P=>by
   have hc:=f5 e P;have b:a.fc=0:=(eQ.le e).1;have hz:=cc b;have l:=hc.d;have s:=hc.d0;have f:=NF hz;have x:=co b;have k:dO.2.d=mZ a.d:=eQ.d;have C:Ep dO.2.d=d:=by unfold Ep;rw[k,f,eS J J];omega
   rw[eS J J];exact⟨hc.n,hc.m,hc.a,Sb,hc.n0,hc.m0,hc.a0,Sb⟩) n.r.lt⟩
  have w:=n.nx fd;refine(Qm w.r (x:=[125]) ⟨_,_,I,Z⟩).mono ?_;rintro _ gV ⟨rfl,xh⟩;have gG:=(m.z.k r R).2;have gO:=(t9.z.k M R).2;have EW:=mV.o.size;have CA:=dl.size;have zz:=bY.z.o.size;have z9:=z.size;have z2:=c.o.size;have H3:=t9.r.lb;refine⟨I,w.sc xh R,λiO ic=>⟨_,I,?_,((w.nx xh).f ic R).dn⟩⟩;exact(ck aF _).low ((ck aF _).stay hx (((((EK _ _).f dF (.inl J)).x fd J).x xh J).f ic (.inl J))) zz
def XsP.vv{f:Prop}(c:XsP f F ts w b l s)(x:Int):XsP f F ts w b l {s with v:=x}:=by
 obtain⟨n,m,a,d,B,P⟩:=c.blk;exact⟨⟨n,m,a,d,B,λe h=>⟨(P e h).n,(P e h).m,(P e h).a,(P e h).d,(P e h).n0,(P e h).m0,(P e h).a0,(P e h).d0⟩⟩,c.tok,c.hF,c.en,c.lt,c.sm,c.hg⟩
def HP(c:Int):(fe ts s c).v=s.v:=EB
def afi:(fH ts s).v=s.v:=by unfold fH;split<;>simp only[HP]
def HQ(x:S):(cA ts s x).v=s.v:=by unfold cA;split;exact afi;rfl
def Nu(k:Int):(cY ts s k).2.v=s.v:=by unfold cY;split;exact afi;rfl
def ana(E:pG ts)(h:(mc ts s).2.fc=0):s.fc=0/\s.v≠0/\(mc ts s).2.v=mZ s.v:=by
 have A:=(Ha E s).le h;unfold mc at h⊢;dsimp only at h⊢;have d:=((dX E (s:=(cY ts (if bR ts (cA ts (cY ts (if(tk ts s.i).k=1 then sP ts s else s) 1).2 [61]) [[45]]=0 then cA ts (cY ts (if(tk ts s.i).k=1 then sP ts s else s) 1).2 [61]else bP (cA ts (cY ts (if(tk ts s.i).k=1 then sP ts s else s) 1).2 [61])) 3).2) [59]).le h).1;rw[HQ,Nu];have b:=((uv E (k:=3) Z).le d).1;have e:∀u:Sx,(if bR ts u [[45]]=0 then u else bP u).v=u.v:=λu=>by split<;>rfl
 have c:∀u:Sx,(if bR ts u [[45]]=0 then u else bP u).fc=u.fc:=λu=>by split<;>rfl
 rw[e,HQ,Nu];rw[c]at b;have l:=((dX E _).le b).1;unfold cY at l;by_cases a:(tk ts s.i).k=1
 .rw[K a]at l⊢;have f:(sP ts s).fc=0:=by
   split at l
   .exact absurd l gx
   exact l
  unfold sP at f⊢;by_cases g:s.v=0
  .rw[K g]at f;exact absurd f (wO Z)
  rw[W g];exact⟨A.1,g,I⟩
 rw[W a,K (.inr a)]at l;exact absurd l gx
def abd(d:Xs F ts w b l s)(E:s.fc=0->s.v=16):aA ar 86 #[rp b] w λe w'=>∃r:Sl,e=ao r.v/\jh aF MR 3 69 w' (Fr w.heap.size) r (gK ts (Z8 ts+1) [] s).1/\Dx F ts w w' b l (gK ts (Z8 ts+1) [] s).2:=by
 refine iE (al2 ?_);generalize B:gK ts (Z8 ts+1) [] s=V;have m:Wd uu:=⟨_,_,I,Z⟩
 have C:=d.lb;have N:=d.sm;refine(yp2 d m).mono ?_;rintro _ Q ⟨rfl,j⟩;refine⟨_,I,λn o A w'=>∃(a:X Vr) (u:Sx),A=VM (bR ts u [uu]≠0)/\Dx F ts w w' b l (if bR ts u [uu]=0 then u else bP u)/\Own MR 3 69 w.heap.size w' (Fr w.heap.size) o a/\gK ts n a u=V/\mu ts u<n/\Z8 a+mu ts u<=Z8 ts/\u.i<Z8 ts/\(u.fc=0->u.v=16-(Z8 a)),Z8 ts+1,
  ⟨[],s,I,j,Vf _ _ _ _ _ _,B,jw (jL _ _),MM,d.lt,E⟩,?_⟩
 rintro n o _ z ⟨a,u,rfl,h,S,f,M,L,p,g⟩;obtain⟨q,rfl⟩:∃q,n=q+1:=⟨n-1,J⟩
 rw[gK]at f;refine⟨λhc=>?_,λhc=>?_⟩
 .have hc:=aO hc;rw[W hc]at f h;obtain⟨xB,mo⟩:=cP hc;have g:=g xB;have Lm:=Vg d.en p hc;have am:=ana (ts:=ts) (s:=bP u) d.en;have Ez:=jL ts u;have aT:=h.o.size;obtain⟨ad,g1,g2⟩:=h.r.now;obtain⟨_,_,_,_,nf,_⟩:=h.r.blk;generalize K5:bP u=V at*
  have aC:V.v=16-(Z8 a):=by rw[<-K5];exact g
  have aS:V.fc=0:=by rw[<-K5];exact xB
  have Aj:=S.len;unfold mc at f Lm am;dsimp only at f Lm am;generalize K8:(if(tk ts V.i).k=1 then sP ts V else V)=Y at*
  refine⟨λw'=>Dx F ts z w' b l Y,λw2 h2 k2 w3 mE nT db=>?_,l,Mn nf 0 I,_,Mn nf 1 I,ad,g1,_,g2.dx 0 _ I,λhx iO ic=>?_,λhx iU iP=>?_⟩
  .have E2:=h2.o.size;have t3:=h2.r.zt.al db mE nT;refine(rD t3.r).mono ?_;rintro _ w4 ⟨rfl,h4⟩;have t4:=t3.nx h4;refine⟨_,_,I,t3.sc h4 R,λw5 dP=>?_⟩;have t5:=t4.f dP R;refine(Qm t5.r (x:=[61]) ⟨_,_,I,Z⟩).mono ?_;rintro _ w6 ⟨rfl,h6⟩;have t6:=t5.nx h6;refine⟨I,t5.sc h6 R,(Rj t6.r (x:=[45]) ⟨_,_,I,Z⟩).mono ?_⟩;rintro _ w7 ⟨rfl,h7⟩;have t7:=t6.nx h7;generalize bv:bR ts (cA ts (cY ts Y 1).2 [61]) [[45]]=gg at*
   generalize (if gg=0 then cA ts (cY ts Y 1).2 [61]else bP (cA ts (cY ts Y 1).2 [61]))=c at*
   refine⟨_,I,t6.sc h7 R,(WI t7.r).mono ?_⟩;rintro _ w8 ⟨rfl,h8⟩;have t8:=t7.nx h8;refine⟨_,I,t7.sc h8 R,λw9 fm=>?_⟩;have t9:=t8.f fm R;refine⟨λx1 i2 i3 w'=>x1=T (cY ts Y 1).1.t/\i2=(if gg=0 then(cY ts c 3).1.n else au U (-(cY ts c 3).1.n))/\i3=(cY ts Y 1).1.a/\Zx F ts w2 w' b l (cY ts c 3).2 [k2],?_,λhb gV jt=>⟨I,?_,I,t9.f jt R⟩,λhb=>⟨I,?_,I,t9⟩⟩;rotate_left
   .rw[W (aO hb),Int.zero_sub]
   .have hb:gg=0:=Ma
    rw[K hb]
   rintro _ _ _ dk ⟨rfl,rfl,rfl,ce⟩;refine(Qm ce.r (x:=[59]) ⟨_,_,I,Z⟩).mono ?_;rintro _ dz ⟨rfl,L0⟩;have co:=ce.nx L0;have el:=dX (s:=(cY ts c 3).2) d.en [59];generalize (if gg=0 then(cY ts c 3).1.n else au U (-(cY ts c 3).1.n))=xn at*
   generalize (cY ts Y 1).1.t=xt at*
   generalize (cY ts Y 1).1.a=xa at*
   generalize cA ts (cY ts c 3).2 [59]=u4 at*
   have bY:az [b] z dz:=h2.o.trans co.z.o λx hx=>.inl hx;have Lr:=S.stay ec bY λx hx=>.inl IG;have fd:=bY.size;obtain⟨y,eF,e2,dV,A9,eM,e3,mU,⟨gs,dF,qT⟩,_⟩:=jy (P:=ar) (t:=23) (ty:=23) (e:=69) (i:=Tryz.t69) (bytes:=32) (size:=3) (v:=ai #[ae (T xt),O U xn,O U xa]) (x:=(⟨xt,xn,xa⟩:Vr)) (G:=λ_=>False) D D I I I I Z Z Z ec Lr J I I (λk hk _=>hk.elim) J;have kB:∀bV,bV∈gs->w.heap.size<=bV:=λbV hg=>(qT bV hg).2.1;have cC:=(co.z.k k2 R)
   have Zg:∀bV,bV∈gs->bV≠k2:=λbV hg e=>by
    subst e;exact S.new J (qT bV hg).1
   have eQ:=dV.size;have cc:Xs F ts eM b l u4:=(co.r.only dV).own dF λx hx=>Ji
   have dO:az [b] w eM:=((h.o.trans bY λx hx=>.inl hx).cn dV).trans dF λx hx=>.inr (kB x hx);refine⟨I,ce.sc L0 R,y,eF,e2,dV.same (λx hx=>⟨by simp only[aV]at hx;subst hx;exact cC.2,R⟩),A9,eM,e3,dF.same (λx hx=>⟨by simp only[aV]at hx;subst hx;omega,λhm=>?_⟩),(yp2 cc m).mono ?_⟩
   .simp only[aV]at hx;subst hx;exact Zg _ hm I
   rintro _ s ⟨rfl,i⟩;have T:=dF.size;refine⟨_,I,i.o.same (λx hx=>⟨by simp only[aV]at hx;subst hx;omega,by simp only[aV]at hx⊢;omega⟩),q,oW _,a++[⟨xt,xn,xa⟩],u4,I,(⟨dO,cc⟩:Dx F ts w eM b l u4).nx i,?_,f,J,RC,cc.lt,λe=>?_⟩
   .refine(mU.mono ec λk hk=>?_).stay ec i.o λx hx=>.inl IG;rcases hk with hk | hk
    .exact hk
    show w.heap.size<=k;omega
   obtain⟨_,b,k⟩:=am e;have:mZ V.v=V.v-1:=Qc
   rw[aP,bf];omega
  .simp only[H,eX]at hx;have j:V.v=0:=J
   refine(uG (h.r.only ic) (c:=2) Z).mono ?_;rintro _ i ⟨rfl,F⟩;refine⟨I,(h.r.dn.q ic).o.trans F.o λx hx=>.inl hx,?_⟩;rw[<-K8,K hx.1];unfold sP;rw[K j];exact F.r.vv _
  refine⟨(h.r.dn.q iP).o,?_⟩;rw[<-K8];by_cases k:(tk ts V.i).k=1
  .have j:V.v≠0:=λe=>by
    rw[k]at hx;have:(o.n:Int)=16:=J
    rw[this]at hx;simp at hx
   rw[K k];unfold sP;rw[W j];exact(h.r.only iP).vv _
  rw[W k];exact h.r.only iP
 have hc:bR ts u [uu]=0:=R0
 rw[K hc]at f h;rw[<-f];exact⟨o,I,S.sl ec λk b=>b,h⟩
end
def XsP.any{F:aK}{t:X Tk}{w:aw}{b:Nat}{l:Sl}{s c:Sx}{P:Prop}(h:XsP P F t w b l s)(i:c.i=s.i)(g:c.fc=s.fc)(f:c.fa=s.fa):XsP False F t w b l c:=by
 obtain⟨n,m,a,d,B,_⟩:=h.blk;exact⟨⟨n,m,a,d,by rw[i,g,f];exact B,λ_ e=>e.elim⟩,h.tok,h.hF,h.en,by rw[i];exact h.lt,h.sm,h.hg⟩
def chK(w:aw)(l:S):aA ar 35 #[ae (T l)] w λe b=>
  ∃(v:Sl) (i:aJ),e=ao (aj #[ai (v.v::i).toArray,ai #[O U (fg l).2.1,O U (fg l).2.2]])/\ChR aF 15 b (Fr w.heap.size) (fg l).1 v i/\az [] w b:=by
 refine iE (asH ?_);generalize h:fg l=P;unfold fg at h;intro A B c Q N ki Y o;have z0:=o.size;refine(ahJ c l).mono ?_;rintro _ m ⟨r,rfl,u,p⟩;have z1:=p.size;have q:=o.cn p;have t:=mP (l:=l);refine⟨r,_,_,I,p.same Ak,λhc E w2 mE nT y n1 H j=>⟨λk=>k=E,I,λe=>H e,λe=>j e,λw3 z=>?_⟩,λhc k3 a g yw tD pV xA D M L=>?_⟩
 .have hc:(cQ l).2.1≠0:=R0
  rw[K hc]at h;subst h;exact⟨Sl.nil,_,I,JQ _ _,(q.cn y).trans z λx hx=>.inr Wq⟩
 have hc:(cQ l).2.1=0:=R0
 obtain⟨NU,Ie,X5,fS⟩:=t hc;rw[W R0]at h;have cC:=((u.sl.inHeap gz Z).mono gz (G:=λk=>c.heap.size<=k/\k<m.heap.size) λk hk=>⟨hk.1.1,hk.2⟩)
 generalize (cQ l).1=O at*
 clear t u;have z4:=D.size;have r4:Xs (λk=>c.heap.size<=k/\k<m.heap.size) O g a r me:=⟨⟨0,0,0,0,M,λ_ _=>⟨I,I,I,I,Z,Z,Z,Z⟩⟩,Aw gz Z cC D R,λk hk=>ZD,NU,X5,J,Ie⟩
 generalize (λk=>c.heap.size<=k/\k<m.heap.size)=F at*
 have lE:az [] w g:=q.cn D;have Y9:=r4.lb;have sm:∀{am u':aw} {bs:X Nat},g.heap.size<=am.heap.size->az [a] am u'->(∀x,x∈bs->x=A∨x=B∨x=k3∨(g.heap.size<=x/\x<am.heap.size))->cF bs am u':=λhz g9 hb=>g9.same λx hx=>by
  have:=hb x hx;simp only[aV];omega
 have oD:∀{am u':aw},az [] w am->az [a] am u'->az [] w u':=λg9 d=>g9.trans d λx hx=>.inr IG;refine(ym2 r4 (x:=dB) ⟨_,_,I,Z⟩).mono ?_;rintro _ w5 ⟨rfl,h5⟩;have z5:=h5.o.size;have hC:oE O=(⟨(gK O (Z8 O+1) [] (cA O (cy O 1 (cA O me dB)).2 [123])).1,(jl O (fl O 14) (cy O 1 (cA O me dB)).1 (gK O (Z8 O+1) [] (cA O (cy O 1 (cA O me dB)).2 [123])).2).1⟩,xq O (jl O (fl O 14) (cy O 1 (cA O me dB)).1 (gK O (Z8 O+1) [] (cA O (cy O 1 (cA O me dB)).2 [123])).2).2):=I;have ip:On O me (cA O me dB):=dX NU _;have v5:(cA O me dB).v=16:=HQ _;generalize cA O me dB=u0 at*
 obtain⟨_,_,_,_,vi,_⟩:=h5.r.blk;refine⟨I,sm (aX _) h5.o R,r,_,_,_,_,_,_,_,vi,λk5 w6 mo Ae dN XC=>?_⟩;have z6:=dN.size;refine(nAb (h5.r.only dN) 1).mono ?_;rintro _ w7 ⟨rfl,h7⟩;have z7:=h7.o.size;have vg:(cy O 1 u0).1.ini=[]/\(cy O 1 u0).1.dft=[]/\(cy O 1 u0).1.en=[]/\(cy O 1 u0).1.lv=[]/\(cy O 1 u0).1.mv=[]/\(cy O 1 u0).1.k=1:=⟨I,I,I,I,I,I⟩
 have iD:On O me (cy O 1 u0).2:=ip.trans (qD NU _ _);have v7:(cy O 1 u0).2.v=16:=by
  unfold cy;dsimp only;rw[Nu];have e:∀s:Sx,(lu O s).v=s.v:=λs=>by
   unfold lu;split
   .split
    .rw[HP];unfold Az;split<;>simp only[HP]
    unfold Az;split<;>simp only[HP]
   rfl
  rw[e];exact v5
 generalize cy O 1 u0=lT at*
 obtain⟨⟨nk,Iy,mt,mK,oN,oR,pi,na⟩,u1⟩:=lT;dsimp only at*
 obtain⟨i1,i2,i3,i4,i5,i6⟩:=vg;subst i1 i2 i3 i4 i5 i6;obtain⟨_,_,_,_,Q5,_⟩:=h7.r.blk;refine⟨_,_,_,_,Sl.nil,Sl.nil,Sl.nil,Sl.nil,_,I,sm J h7.o (λx hx=>Wq),r,_,_,_,_,_,_,_,Q5,λk6 w8 Zd Yc ft re=>?_⟩;have z8:=ft.size;refine(Qm (h7.r.only ft) (x:=[123]) ⟨_,_,I,Z⟩).mono ?_;rintro _ w9 ⟨rfl,h9⟩;have z9:=h9.o.size;have iF:On O me (cA O u1 [123]):=iD.trans (dX NU _);have v9:(cA O u1 [123]).v=16:=(HQ _).trans v7;generalize cA O u1 [123]=u2 at*
 obtain⟨_,_,_,_,CE,_⟩:=h9.r.blk;have co:az [] w w9:=oD ((oD ((oD lE h5.o).cn dN) h7.o).cn ft) h9.o;refine⟨I,sm J h9.o (λx hx=>Wq),r,_,_,_,_,_,_,_,CE,(abd h9.r λ_=>v9).mono ?_⟩;rintro _ dk ⟨v,rfl,zZ,mV⟩;have EW:=mV.o.size;have dO:On O me (gK O (Z8 O+1) [] u2).2:=iF.trans (Hb NU _ _ _);generalize gK O (Z8 O+1) [] u2=V at*
 obtain⟨aS,T⟩:=V;dsimp only at*
 obtain⟨j,m3,a3,d3,nS,fd⟩:=mV.r.blk;have X6:T.d=12:=dO.d;refine⟨v,I,sm J mV.o (λx hx=>Wq),r,_,_,_,_,_,_,_,nS,λdz dl qS m0 m1 nO m5 m6=>?_⟩;have CA:=dl.size;have iN:Xs F O dz a r {T with d:=mZ T.d}:=by
  have F:=mV.r.hF;refine⟨⟨j,m3,a3,_,qS,λe h=>?_⟩,Aw gz Z mV.r.tok dl λk hk _ n=>(by have:=F k hk;simp only[aZ,bB,cE]at n;omega),F,mV.r.en,mV.r.lt,mV.r.sm,mV.r.hg⟩;have hc:=fd e h;have d:=hc.d;have s:mZ T.d=11:=by rw[X6];rfl
  have f:IntKind.i64.wrap (d3+1)=1:=by rw[d,X6];rfl
  rw[f];exact⟨hc.n,hc.m,hc.a,Sb,hc.n0,hc.m0,hc.a0,Sb⟩
 have el:az [] w dz:=(oD co mV.o).trans dl λx hx=>.inr Wq;have eQ:=zZ.stay ec Z (Uh dl λx hx=>.inl Wq);refine(afj (f:=14) iN (n:=⟨1,Iy,[],[],[],[],[],na⟩) I I I (rM _) (λ_=>by
  show Qq F O a r 14 (mZ T.d);rw[X6];exact Qs 14 11 Z Z Z)).mono ?_
 have bV:jl O (fl O 14) ⟨1,Iy,[],[],[],[],[],na⟩ T=(.mk (cW O (Z8 O+1) ⟨1,Iy,[],[],[],[],[],na⟩ ⟨aM,aM,aM⟩ {T with d:=mZ T.d}).1 (gw O (fl O 14) (Z8 O+1) [] (cW O (Z8 O+1) ⟨1,Iy,[],[],[],[],[],na⟩ ⟨aM,aM,aM⟩ {T with d:=mZ T.d}).2).1,cA O {(gw O (fl O 14) (Z8 O+1) [] (cW O (Z8 O+1) ⟨1,Iy,[],[],[],[],[],na⟩ ⟨aM,aM,aM⟩ {T with d:=mZ T.d}).2).2 with d:=Ep (gw O (fl O 14) (Z8 O+1) [] (cW O (Z8 O+1) ⟨1,Iy,[],[],[],[],[],na⟩ ⟨aM,aM,aM⟩ {T with d:=mZ T.d}).2).2.d} [125]):=I;rw[bV]at hC;clear bV;generalize cW O (Z8 O+1) ⟨1,Iy,[],[],[],[],[],na⟩ ⟨aM,aM,aM⟩ {T with d:=mZ T.d}=C at*
 generalize gw O (fl O 14) (Z8 O+1) [] C.2=aC at*
 dsimp only at hC;rintro _ eF ⟨i,rfl,hx,xi⟩;have pm:=xi.o.size;have yx:=hx;obtain⟨xe,xl,xm,xk,rfl,_⟩:=yx;obtain⟨_,_,_,_,vm,_⟩:=xi.r.blk;have f5:ChR aF 15 eF (Fr w9.heap.size) ⟨aS,.mk C.1 aC.1⟩ v _:=⟨eQ.stay ec Z (Uh xi.o λx hx=>.inl IG),(ck aF 15).low hx J⟩
 refine⟨_,_,_,_,xe,xl,xm,xk,_,I,sm J xi.o (λx hx=>Wq),r,_,_,_,_,_,_,_,vm,λeM dF vj=>?_⟩;have Tu:=dF.size;have iS:XsP False F O eM a r {aC.2 with d:=Ep aC.2.d}:=(xi.r.one dF J).any I I I;have ge:=f5.stay (Uh dF λx hx=>.inl IG);have X7:az [] w eM:=(oD el xi.o).trans dF λx hx=>.inr IG;refine(Qm iS (x:=[125]) ⟨_,_,I,Z⟩).mono ?_;rintro _ fR ⟨rfl,BS⟩;have pP:=BS.o.size;have bv:=ge.stay (Uh BS.o λx hx=>.inl IG);have aT:=oD X7 BS.o;generalize cA O {aC.2 with d:=Ep aC.2.d} [125]=s1 at*
 have ce:=BS.r;obtain⟨n5,oF,a5,d5,BQ,_⟩:=BS.r.blk;obtain⟨ad,g1,g2⟩:=ce.now;refine⟨I,sm J BS.o (λx hx=>Wq),r,_,_,_,_,_,_,_,BQ,λH5 gE gG gO gT g8 bY cc b=>bY=(xq O s1).fc/\cc=(xq O s1).fa/\fR.heap.size<=b.heap.size/\az [] w b/\ChR aF 15 b (Fr w9.heap.size) ⟨aS,.mk C.1 aC.1⟩ v (rz C.1.k C.1.nm C.1.ini C.1.dft xe xl xm xk C.1.a),?_,ad,λ_=>g1,_,λ_=>g2.dx 0 _ I,λhb li lV SL=>?_,λhb mD iV SQ=>?_⟩
 .rintro H5 gE gG gO gT g8 bY cc gV ⟨rfl,rfl,Bv,s,d⟩;rw[hC]at h;dsimp only at h;refine⟨λhf iO G _ V qr f ro rx tO C ut uP wd wf As AC AS AT=>⟨λk=>k=a,I,λe=>f e,λe=>C e,λiz F _=>?_⟩,λhf iU n _=>?_⟩
  .have hf:(xq O s1).fc≠0:=RS
   rw[K hf]at h;subst h;exact⟨Sl.nil,_,I,JQ _ _,(s.cn G).trans F λx hx=>.inr Wq⟩
  have hf:¬(xq O s1).fc≠0:=RS
  rw[W hf]at h;subst h;exact⟨v,_,I,(d.stay (Uh n λx hx=>.inl Wq)).low co.size,s.trans n λx hx=>.inr Wq⟩
 .have k:=lV.size;refine(pq (ce.only lV)).mono ?_;rintro _ s ⟨rfl,d⟩;have n:=d.o.size;obtain⟨_,_,_,_,f,_⟩:=d.r.blk;have hb:s1.fc=0/\(tk O s1.i).k≠5:=Ma
  have e:xq O s1=fH O s1:=by unfold xq;rw[K hb]
  refine⟨I,sm J d.o (λx hx=>Wq),r,_,_,_,_,_,_,_,f,UK,UK,J,oD (aT.cn lV) d.o,(bv.stay (Uh lV λx hx=>Rg)).stay (Uh d.o λx hx=>.inl IG)⟩
 have d:=iV.size;have e:xq O s1=s1:=by
  unfold xq;rw[W];rintro⟨f1,f2⟩;rw[f1]at hb;simp[f2]at hb
 exact⟨UK,UK,d,aT.cn iV,bv.stay (Uh iV λx hx=>Rg)⟩
def abu(w:aw) l:aA ar 7 #[ae (T l)] w λe E=>
  ∃(s:Sl) (d:aJ),e=ao (aj #[ai (s.v::d).toArray,ai #[O U (kJ l).1,O U (kJ l).2]])/\ChR aF 15 E (Fr w.heap.size) (oK l) s d/\az [] w E:=by
 refine iE (amg ?_);intro q r c fQ dL ki ik m;have z0:=m.size;obtain⟨M,N⟩:=PR l;refine(chK c l).mono ?_;rintro _ F ⟨s,d,rfl,i,p⟩;have z1:=p.size;have o:=m.cn p;obtain⟨Q,V,X,S,rfl,_⟩:=i.root;have t:∀{u:aw},az [] F u->ChR aF 15 u (Fr c.heap.size) (fg l).1 s _:=fun{u} hO=>
  ⟨i.vars.keep ec Z λk _ T=>hO.block k T R,(ck aF 15).keep i.root λk _ T=>hO.block k T R⟩
 have f:∀{u v:aw},az [] w u->az [r,q] u v->az [] w v:=λJ L=>J.trans L λx hx=>.inr Vv;have n:(kJ l).1≠0->∀u,ChR aF 15 u (Fr w.heap.size) (oK l) Sl.nil (rz 0 [] [] [] Sl.nil Sl.nil Sl.nil Sl.nil 0):=λh u=>by
  rw[oK,W h];exact JQ u _
 refine⟨s,_,_,_,_,Q,V,X,S,_,_,_,I,p.same C,λhc k2 k3 w2 mE nT yw tD G y z a A b B=>⟨λk=>k=k3,I,λh=>a h,λh=>b h,λP H=>?_⟩,λhc k4 j w4 pV xA mo Y g=>?_⟩
 .have hc:(fg l).2.1≠0:=R0
  have e:kJ l=(fg l).2:=by rw[kJ,W hc]
  exact⟨Sl.nil,_,UK,n (by rw[e];exact hc) P,f (o.cn G) H⟩
 have hc:(fg l).2.1=0:=R0
 have e:kJ l=sZ (fg l).1:=by rw[kJ,K hc]
 have z4:=g.size;refine(neP (D:=14) (t g).off M N).mono ?_;rintro _ w5 ⟨rfl,dP⟩;have z5:=dP.size;have up:∀{u:aw},az [j] w5 u->az [] F u:=λh=>(g.cn dP).trans h λx hx=>.inr IG;refine⟨_,_,I,dP.same C,λtT w6 dN y z a A b B=>⟨λk=>k=j,I,λh=>a h,λh=>b h,λw7 ga=>⟨Sl.nil,_,UK,n (by rw[e];simpa using tT) w7,f (o.cn (up dN)) ga⟩⟩,λtT w8 ft y z a A b B=>⟨λk=>k=j,I,λh=>a h,λh=>b h,λw9 fm=>⟨s,_,UK,?_,f (o.cn (up ft)) fm⟩⟩⟩;rw[oK,e,K Sf];have v:=t (up ft);have ap:∀k,Fr c.heap.size k->k∉[r,q]:=λk O=>C
 have lo:=λk (O:c.heap.size<=k)=>(by omega:w.heap.size<=k)
 exact⟨(v.vars.keep ec Z λk O T=>fm.block k T (ap k O)).mono ec lo,(ck aF 15).mono ((ck aF 15).keep v.root λk O T=>fm.block k T (ap k O)) lo⟩
def ve:X (S)->S->X (S)
 | [],s=>[s]
 | a::l,s=>if a<s then a::ve l s else if a=s then a::l else s::a::l
def ai9{a s:S}(b:¬a<s)(c:a≠s):s<a:=by
 rcases Decidable.em (s<a)with h | h
 .exact h
 exact absurd (List.le_antisymm (List.not_lt.1 h) (List.not_lt.1 b)) c
def Ea(s k:S):∀l:X (S),k∈ve l s↔k=s∨k∈l
 | []=>by simp[ve]
 | a::l=>by
  unfold ve;split
  .rw[aZ,Ea s k l,aZ];constructor
   .rintro(h | h | h)
    .exact .inr (.inl h)
    .exact .inl h
    exact .inr (.inr h)
   rintro(h | h | h)
   .exact .inr (.inl h)
   .exact .inl h
   exact .inr (.inr h)
  split
  .rename_i h;subst h;rw[aZ];constructor
   .exact λh=>.inr h
   rintro(h | h)
   .exact .inl h
   exact h
  rw[aZ]
def nw3(s:S):∀{l:X (S)},l.Pairwise (· <·)->(ve l s).Pairwise (· <·)
 | [],_=>by simp[ve]
 | a::l,h=>by
  obtain⟨c,d⟩:=LB.1 h;unfold ve;split
  .rename_i e;refine LB.2 ⟨λb a=>?_,nw3 s d⟩;rcases(Ea s b l).1 a with rfl | a
   .exact e
   .exact c b a
  .rename_i a;split
   .exact h
   .rename_i n;have s:=ai9 a n;refine LB.2 ⟨λb e=>?_,h⟩;rcases aZ.1 e with rfl | e
    .exact s
    .exact List.lt_trans s (c b e)
def aap(s:S):∀{l:X (S)} {k:Nat},k<=(Z8 l)->(∀j a,j<k->l[j]? =Hg a->a<s)->(∀a,l[k]? =Hg a->¬a<s)->ve l s=if l[k]? =Hg s then l else l.take k++[s]++l.drop k
 | [],k,hk,_,_=>by
  have:k=0:=Mi
  subst this;simp[ve]
 | a::l,0,_,_,h=>by
  have:=h a I;unfold ve;rw[W this];simp only[cZ,cd,ci,fA,cb];rfl
 | a::l,k+1,hk,h,c=>by
  have:=h 0 a J I;unfold ve;rw[K this,aap s (k:=k) Mi (λj b d hb=>h (j+1) b J Ma) (λb hb=>c b Ma)];simp only[dE,fx,lH,bW];split<;>rfl
def KO(s:S):∀l:X (S),Z8 (ve l s)<=Z8 l+1
 | []=>by simp[ve]
 | a::l=>by
  unfold ve;have:=KO s l;split
  .simp only[aY];omega
  split<;>simp only[aY]<;>omega
def yA:X Ac->X (S)
 | []=>[]
 | a::l=>(if a.k=2 then[a.n]else[])++yA l
def Mf(m:Mv):X (S):=(if m.k=1 then[m.ev]else[])++yA m.acts
def qX:X Mv->X (S)
 | []=>[]
 | m::l=>Mf m++qX l
mutual
def Ta:Nd->X (S)
 | .mk b l=>(yA b.en++yA b.lv)++(qX b.mv++LH l)
def LH:X Nd->X (S)
 | []=>[]
 | x::l=>Ta x++LH l
end
def HR:∀(l m:X Ac),yA (l++m)=yA l++yA m
 | [],m=>rfl
 | a::l,m=>by rw[bW,yA,yA,HR l m,be]
def KP:∀(l m:X Mv),qX (l++m)=qX l++qX m
 | [],m=>rfl
 | a::l,m=>by rw[bW,qX,qX,KP l m,be]
def aeC:∀(l m:X Nd),LH (l++m)=LH l++LH m
 | [],m=>rfl
 | a::l,m=>by rw[bW,LH,LH,aeC l m,be]
def uJ:∀l:X Ac,Z8 (yA l)<=Z8 l
 | []=>aX _
 | a::l=>by
  have:=uJ l;rw[yA,aP,aY];split<;>simp only[aY,bE]<;>omega
def abe(m:Mv):Z8 (Mf m)<=BL m:=by
 have h:=uJ m.acts;have a:=fh m.acts;rw[Mf,aP];unfold BL;split<;>simp only[aY,bE]<;>omega
def zV:∀l:X Mv,Z8 (qX l)<=qe l
 | []=>aX _
 | m::l=>by
  have h:=abe m;have a:=zV l;rw[qX,aP,qe];omega
mutual
def Qw:∀x:Nd,Z8 (Ta x)<=lF x
 | .mk b l=>by
  have h:=uJ b.en;have a:=uJ b.lv;have c:=zV b.mv;have d:=HS l;have e:=fh b.en;have f:=fh b.lv;rw[Ta,aP,aP,aP,lF];unfold uS;omega
def HS:∀l:X Nd,Z8 (LH l)<=ji l
 | []=>aX _
 | x::l=>by
  have h:=Qw x;have a:=HS l;rw[LH,aP,ji];omega
end
def Bp(l:X (S))(L:X (S)):X (S):=l.foldl ve L
def uK(l m L:X (S)):Bp (l++m) L=Bp m (Bp l L):=nA ..
def Qx(k:S):∀l L:X (S),k∈Bp l L↔k∈l∨k∈L
 | [],L=>by simp[Bp]
 | a::l,L=>by
  rw[Bp,CG];have:=Qx k l (ve L a);rw[Bp]at this;rw[this,Ea,aZ];constructor
  .rintro(h | h | h)
   .exact .inl (.inr h)
   .exact .inl (.inl h)
   exact .inr h
  rintro((h | h) | h)
  .exact .inr (.inl h)
  .exact .inl h
  exact .inr (.inr h)
def At6:∀{l L:X (S)},L.Pairwise (· <·)->(Bp l L).Pairwise (· <·)
 | [],L,h=>h
 | a::l,L,h=>At6 (l:=l) (nw3 a h)
def rF:∀l L:X (S),Z8 (Bp l L)<=Z8 L+Z8 l
 | [],L=>aX _
 | a::l,L=>by
  have h:=rF l (ve L a);have b:=KO a L;rw[Bp,CG,aY];rw[Bp]at h;omega
section
variable {w:aw} {F:aK}
def WQ(a b:S):Op.bytesLess (T a).toList (T b).toList=VM (a<b):=by
 rw[Go.Proofs.bytesLess_eq,Lib.toList_data,Lib.toList_data]
def anb(a b:S):((T a).toList==(T b).toList)=VM (a=b):=by
 rw[Lib.toList_data,Lib.toList_data,bL];simp
def asB{l:Sl}{L:X (S)}(h:aB ju 1 w F l L)(s:S)(N:Z8 L<=4194304):aA ar 100 #[l.v,ae (T s)] w λe A=>∃t:Sl,e=ao t.v/\aB ju 1 A (λk=>F k∨w.heap.size<=k) t (ve L s)/\az [] w A:=by
 refine iE (amk ?_);have M:=h.len;have d:=h.cap;have Q:=h.big;refine⟨λn i u=>∃k:Nat,i=(k:Int)/\n+k=Z8 L/\u=w/\∀j a,j<k->L[j]? =Hg a->a<s,Z8 L,⟨0,I,I,I,λj a g=>absurd g (CJ _)⟩,?_⟩;rintro n _ u ⟨k,rfl,C,E,f⟩;obtain rfl:w=u:=E.symm;obtain⟨p,a,o,z,q⟩:∃(p:Addr) (a:S),((k:Int)<(l.n:Int)->cM l (k:Int) 1 p)/\((k:Int)<(l.n:Int)->aD w p [ae (T a)])/\((k:Int)<(l.n:Int)->L[k]? =Hg a):=by
  by_cases c:(k:Int)<(l.n:Int)
  .obtain⟨p,a,s,m,e,t,v,r,b⟩:=h.get (bc k) c;have b:s=[ae (T a)]:=b;subst b;exact⟨p,a,λ_=>m,λ_=>r,λ_=>by rw[aW]at e;exact e⟩
  exact⟨⟨0,0,ZQ⟩,[],λh=>absurd h c,λh=>absurd h c,λh=>absurd h c⟩
 refine⟨p,λc=>o (aO c),T a,λc=>z (aO c),λc=>?_,λc=>?_⟩
 .rw[WQ,H,bU,bU]at c;refine⟨n-1,J,k+1,TE,J,I,λj b g h=>?_⟩;by_cases a:j=k
  .subst a;rw[q c.1]at h;injection h with h;rw[<-h];exact c.2
  exact f j b J h
 rw[WQ,fV,ig,ig]at c;have Y:∀b,L[k]? =Hg b->¬b<s:=λb V am=>by
  have F:=(bd.1 V).1;have h:(k:Int)<(l.n:Int):=J
  rw[q h]at V;injection V with V;subst V;rcases c with c | c
  .exact c h
  exact c am
 have O:=aap s (l:=L) (k:=k) J f Y;refine⟨p,λc=>o (aO c),T a,λc=>z (aO c),λU=>?_,λU=>?_⟩
 .rw[anb,H,bU,bU]at U;rw[K (by rw[q U.1,U.2])]at O;rw[O];exact⟨l,I,Z5 cx h λk a=>.inl a,EC _ _⟩
 have iw:¬L[k]? =Hg s:=λb=>by
  have F:=(bd.1 b).1;have a:(k:Int)<(l.n:Int):=J
  rw[q a]at b;injection b with b;rw[anb,bF a,bF b]at U;cases U
 rw[W iw]at O;have hH:aB ju 1 w (λk=>F k/\k<w.heap.size) l L:=Mr cx h Z;have uX:=hH.cut (lo:=0) (hi:=k) (m:=l.c) J J J J;rw[wC,fA]at uX;obtain⟨l0,w1,g1,g2,aS,g3,g4,g5⟩:=tZ (P:=ar) (t:=37) (ty:=37) (e:=9) (i:=Tryz.t9) (bytes:=16) (size:=1) (r:=ju) (B:=w.heap.size) (F:=λk=>F k/\k<w.heap.size) D D I I I I cx
  (Vf ju 1 9 w.heap.size w _) (Z5 cx uX λk a=>⟨a,λh=>Rl⟩) (aX _) (by rw[bE,cf];omega) Z
 have o1:az [] w w1:=(EC [] w).trans g3 λx p=>.inr (g4 x p).2.1;have z1:=o1.size;rw[cb]at g2;obtain⟨y,w2,k1,k3,l2,w3,m1,m2,⟨aT,m3,m4⟩,m5⟩:=jy (P:=ar) (t:=37) (ty:=37) (e:=9) (i:=Tryz.t9) (bytes:=16) (size:=1) (r:=ju) (G:=λ_=>False) (v:=ae (T s)) (x:=s) D D I I I I Z Z Z cx g2 z1 I I (λ_ h=>h.elim) Zo;have o3:az [] w w3:=(o1.cn k3).trans m3 λx p=>.inr (m4 x p).2.1;have z3:=o3.size;have aC:Own ju 1 9 w.heap.size w3 (λk=>F k/\k<w.heap.size) l2 (L.take k++[s]):=by
  rcases m2 with⟨e,k⟩ | ⟨y,s,tail,e,k,m,r,t,v,w,x⟩
  .exact .inl ⟨e,k⟩
  exact .inr ⟨y,s,tail,e,k,m,r,t,v,w,jg.imp (λ_ _ h=>⟨h.1,h.2⟩) x⟩
 have tT:=(Aw cx Z hH o3 R).cut (lo:=k) (hi:=l.n) (m:=l.c) J J J J;have hd:(L.drop k).take (l.n-k)=L.drop k:=br (by rw[bZ];omega);rw[hd]at tT;obtain⟨l3,w4,n1,n2,bv,n3,n4,n5⟩:=tZ (P:=ar) (t:=37) (ty:=37) (e:=9) (i:=Tryz.t9) (bytes:=16) (size:=1) (r:=ju) (B:=w.heap.size) (F:=λk=>F k/\k<w.heap.size) D D I I I I cx
  aC (Z5 cx tT λk a=>⟨a,λh=>by have:=(aC.blk h).1;dsimp only at this;omega⟩) z3 (by rw[aP,bf,cf,bZ];omega) Z
 have o4:az [] w w4:=o3.trans n3 λx p=>.inr (n4 x p).2.1;refine⟨k,⟨I,J⟩,l0,w1,g1,y,w2,k1,l2,w3,m1,k,⟨I,J,d⟩,l3,w4,n1,l3,I,?_,o4⟩;rw[O];exact Z5 cx (n2.slice cx) λk a=>a.elim (λh=>.inl h.1) (λh=>.inr h.1)
end
section
variable {w:aw} {G H:aK}
def QB{y}:∀{l:X Mv} {j:Nat},l[j]? =Hg y->qe (l.take j)+BL y<=qe l
 | [],_,h=>Gl
 | a::l,0,h=>by
  simp only[cZ,cd]at h;subst h;simp[qe]
 | a::l,j+1,h=>by
  have:=QB (l:=l) (j:=j) Zp;rw[fx,qe,qe];omega
def ae1{y}:∀{l:X Nd} {j:Nat},l[j]? =Hg y->ji (l.take j)+lF y<=ji l
 | [],_,h=>Gl
 | a::l,0,h=>by
  simp only[cZ,cd]at h;subst h;simp[ji]
 | a::l,j+1,h=>by
  have:=ae1 (l:=l) (j:=j) Zp;rw[fx,ji,ji];omega
def agH{a:X Ac}{j:Nat}{y}(h:a[j]? =Hg y):yA (a.take (j+1))=yA (a.take j)++if y.k=2 then[y.n]else[]:=by
 rw[bq,h,HR];simp[yA]
def QC{a:X Mv}{j:Nat}{y}(h:a[j]? =Hg y):qX (a.take (j+1))=qX (a.take j)++Mf y:=by
 rw[bq,h,KP];simp[qX]
def ah5{a:X Nd}{j:Nat}{y}(h:a[j]? =Hg y):LH (a.take (j+1))=LH (a.take j)++Ta y:=by
 rw[bq,h,aeC];simp[LH]
def yq{l c:Sl}{L}{a:X Ac}(i:aB ju 1 w G l L)(f:aB (pI aM) 9 w H c a)(o:Z8 L+Z8 a<=4194304):aA ar 99 #[l.v,c.v] w λe g=>∃t:Sl,e=ao t.v/\aB ju 1 g (λk=>G k∨w.heap.size<=k) t (Bp (yA a) L)/\az [] w g:=by
 refine iE (amj ?_);have A:=f.len;refine⟨λn q m u=>∃j:Nat,m=(j:Int)/\n+j=Z8 a/\aB ju 1 u (λk=>G k∨w.heap.size<=k) q (Bp (yA (a.take j)) L)/\az [] w u,Z8 a,⟨0,I,I,by rw[ci];exact Z5 cx i λk hk=>.inl hk,EC _ _⟩,?_⟩;rintro n q _ u ⟨j,rfl,v,d,h⟩;refine⟨λb=>?_,λb=>?_⟩
 .have b:=aO b;obtain⟨ad,y,B,e,r,F,H,s,M,rfl,x⟩:=(Aw (cN aM) Z f h R).get (bc j) J;rw[aW]at r;have p:=agH r;have C:=rF (yA (a.take j)) L;have D:=uJ (a.take j);have E:Z8 (a.take j)<=j:=Zo
  refine⟨λq u=>aB ju 1 u (λk=>G k∨w.heap.size<=k) q (Bp (yA (a.take (j+1))) L)/\az [] w u,?_,ad,e,_,s.dx 0 _ I,λhk=>?_,λhk=>?_⟩
  .rintro e w ⟨k,q⟩;exact⟨n-1,J,j+1,TE,J,k,q⟩
  .have hk:y.k=2:=Mi
   refine⟨ad,e,_,s.dx 1 _ I,(asB d y.n J).mono ?_⟩;rintro _ G ⟨t,rfl,q,O⟩;have z:=h.size;refine⟨t,I,?_,h.cn O⟩;rw[p,uK,K hk];exact Z5 cx q λk hk=>hk.elim id λw=>.inr J
  have hk:¬y.k=2:=Mi
  rw[p,W hk,bD];exact⟨d,h⟩
 have b:=aR b;have:j=Z8 a:=J
 subst this;rw[ez]at d;exact⟨q,I,d,h⟩
def Eb:∀(D:Nat) {w:aw} {G H:aK} {x:Nd} {c} {l:Sl} {L},pv aM D w H x c->aB ju 1 w G l L->Z8 L+lF x<=2097152->aA ar 43 #[l.v,ai c.toArray] w λe a=>∃t:Sl,e=ao t.v/\aB ju 1 a (λk=>G k∨w.heap.size<=k) t (Bp (Ta x) L)/\az [] w a
 | 0,_,_,_,_,_,_,_,h,_,_=>h.elim
 | D+1,w,G,H,.mk b f,c,l,L,⟨en,lv,mv,kids,F,⟨B,E,p⟩,Q⟩,Y,hm=>by
  dsimp only[Nd.kids,Nd.b]at B E p Q F;subst F;rw[lF,uS]at hm;have s1:=fh b.en;have s2:=fh b.lv;have s3:=uJ b.en;have s4:=uJ b.lv;refine iE (ami ?_);intro k0 A dL tJ m;have z0:=m.size;have kN:∀{u:aw} {G:aK} {s:Sl} {M},aB ju 1 u (λk=>G k∨w.heap.size<=k) s M->aB ju 1 u (λk=>G k∨w.heap.size<=k) s M:=id;refine(yq (Aw cx Z Y m R) (Aw (cN aM) Z B.1 m R) J).mono ?_;rintro _ w1 ⟨l0,rfl,X,v⟩;have z1:=v.size;have S:=m.cn v;have n1:=rF (yA b.en) L;refine⟨l0,I,v.same C,(yq X (Aw (cN aM) Z E.1 S R) J).mono ?_⟩;rintro _ w2 ⟨N,rfl,i,r⟩;have z2:=r.size;have o2:=S.cn r;have P:=rF (yA b.lv) (Bp (yA b.en) L);rw[<-uK]at i P;rw[Ta,uK];generalize hL:Bp (yA b.en++yA b.lv) L=e at i P⊢;have i:aB ju 1 w2 (λk=>G k∨w.heap.size<=k) N e:=Z5 cx i λk hk=>hk.elim (λg=>g.elim .inl λg=>.inr J) λg=>.inr J;have c3:=p.1.len;have c4:=Q.1.len;have c5:=mf b.mv;have c6:=mg f;refine⟨N,I,r.same C,λn q z u=>∃j:Nat,z=(j:Int)/\n+j=Z8 b.mv/\aB ju 1 u (λk=>G k∨w.heap.size<=k) q (Bp (qX (b.mv.take j)) e)/\az [] w u/\A.heap.size<=u.heap.size,Z8 b.mv,⟨0,I,I,by rw[ci];exact i,o2,J⟩,?_⟩;rintro n q _ w3 ⟨j,rfl,x,d,o,V⟩;refine⟨λh=>?_,λh=>?_⟩
  .have h:=aO h;have am:∀{u:aw},az [] w u->∃ad y mF,cM mv (j:Int) 13 ad/\b.mv[j]? =Hg y/\aD u (ad.add 0) [O U y.k]/\aD u (ad.add 1) [ae (T y.ev)]/\aD u (ad.add 10) [Sl.v mF]/\aB (pI aM) 9 u H mF y.acts:=fun{u} hO=>by
    obtain⟨ad,y,c,q1,q2,q3,q4,q5,gc,mF,tg,rfl,m1,m2,m3⟩:=(Aw (iL aM) Z p.1 hO R).get (bc j) J;rw[aW]at q2;obtain⟨s,rfl⟩:=dM m1;exact⟨ad,y,mF,q1,q2,q5.dx 0 _ I,q5.dx 1 _ I,q5.dx 10 _ I,m2.1⟩
   obtain⟨ad,y,mF,q1,q2,q3,q4,q5,q6⟩:=am o;have e1:=QC q2;have n3:=rF (qX (b.mv.take j)) e;have n4:=zV (b.mv.take j);have n5:=QB q2;have n6:=fh y.acts;have n7:BL y=(jd y.acts+Bh y.g)+(Et y.tg+(Z8 y.ev+1)):=I;refine⟨λq u=>aB ju 1 u (λk=>G k∨w.heap.size<=k) q (Bp (if y.k=1 then[y.ev]else[]) (Bp (qX (b.mv.take j)) e))/\az [] w u/\A.heap.size<=u.heap.size,?_,ad,q1,_,q3,λhk=>?_,λhk=>?_⟩
   .rintro q w4 ⟨h4,G,z4⟩;obtain⟨H,y2,T,p1,s,p3,p4,p5,p6⟩:=am G;rw[q2]at s;injection s with s;subst s;have n8:=rF (if y.k=1 then[y.ev]else[]) (Bp (qX (b.mv.take j)) e);have n9:Z8 (if y.k=1 then[y.ev]else[])<=1:=by split<;>simp
    refine⟨H,p1,_,p5,(yq h4 p6 J).mono ?_⟩;rintro _ w5 ⟨t,rfl,h5,w⟩;have z5:=w.size;refine⟨t,I,w.same C,n-1,J,j+1,TE,J,?_,G.cn w,J⟩;rw[e1,uK,Mf,uK];exact Z5 cx h5 λk hk=>hk.elim id λg=>.inr J
   .have hk:y.k=1:=Mi
    refine⟨ad,q1,_,q4,(asB d y.ev J).mono ?_⟩;rintro _ w ⟨t,rfl,s,q⟩;have G:=q.size;refine⟨t,I,q.same C,?_,o.cn q,J⟩;rw[K hk];exact Z5 cx s λk hk=>hk.elim id λg=>.inr J
   have hk:¬y.k=1:=Mi
   rw[W hk];exact⟨d,o,V⟩
  have h:=aR h;have:j=Z8 b.mv:=J
  subst this;rw[ez]at d;have T:=rF (qX b.mv) e;have n4:=zV b.mv;rw[uK];generalize Bp (qX b.mv) e=H at*
  refine⟨λn q z u=>∃j:Nat,z=(j:Int)/\n+j=Z8 f/\aB ju 1 u (λk=>G k∨w.heap.size<=k) q (Bp (LH (f.take j)) H)/\az [] w u/\A.heap.size<=u.heap.size,Z8 f,⟨0,I,I,by rw[ci];exact d,o,V⟩,?_⟩;rintro n q _ w4 ⟨j,rfl,x,d,s,z4⟩;refine⟨λh=>?_,λh=>?_⟩
  .have h:=aO h;obtain⟨ad,y,ds,g1,w,g3,g4,g5,G⟩:=(Aw (ck aM D) Z Q.1 s R).get (bc j) J;rw[aW]at w;have e1:=ah5 w;have n5:=rF (LH (f.take j)) H;have n6:=HS (f.take j);have n7:=ae1 w;obtain⟨q,rfl⟩:∃q,D=q+1:=by
    cases D with
    | zero=>exact G.elim
    | succ q=>exact⟨q,I⟩
   have A7:=G;obtain⟨r7,r9,oe,gY,rfl,_⟩:=G;refine⟨ad,g1,_,_,_,_,r7,r9,oe,gY,_,g5,(Eb (q+1) A7 d J).mono ?_⟩;rintro _ w5 ⟨t,rfl,h5,y⟩;have z5:=y.size;refine⟨t,I,y.same C,n-1,J,j+1,TE,J,?_,s.cn y,J⟩;rw[e1,uK];exact Z5 cx h5 λk hk=>hk.elim id λg=>.inr J
  have h:=aR h;have:j=Z8 f:=J
  subst this;rw[ez]at d;exact⟨q,I,d,s⟩
def af5{t D}{c:Ch}{v:Sl}{cs}(a:ChR t D w H c v cs)(z:lF c.root<=1048576):aA ar 11 #[ai (v.v::cs).toArray] w λe b=>∃t:Sl,e=ao t.v/\aB ju 1 b (λk=>w.heap.size<=k) t (Bp (Ta c.root) [])/\az [] w b:=by
 obtain⟨_,h⟩:=a;have h:=zi h;cases D with
 | zero=>exact h.elim
 | succ D=>
 have r:=h;obtain⟨n,l,mv,kids,rfl,_⟩:=h;refine iE (amh ?_);intro g w f L c;have j:=c.size;refine(Eb (D+1) ((ck aM _).keep r λk _ T=>c.block k T R) (RG ju 1 w λ_=>False) TU).mono ?_;rintro _ i ⟨t,rfl,d,p⟩;have m:=p.size;exact⟨t,I,p.same C,t,I,Z5 cx d λk e=>e.elim False.elim λa=>J,c.cn p⟩
end
end Go.Proofs.YtccbiehilmhodaaGreatDoor.Con
namespace Go.Proofs
open Go.Shelf
def Tryz.F0:Go.Shelf.Ren:=⟨λ| 7=>42 | 10=>98 | n=>n,λ| 23=>71 | 26=>9 | 3=>4 | 28=>85 | 0=>0 | 27=>84 | 33=>41 | 4=>4 | n=>n,λ| n=>n⟩
def Tryz.adQ:Go.Proofs.SlLaysZ.n7 Tryz.prog Tryz.F0:={
 mixed:=D
 f7:=⟨Tryz.f42.name,Z,Tryz.func42.trans (bK Hg D)⟩
 f10:=⟨Tryz.f98.name,Z,Tryz.func98.trans (bK Hg D)⟩
 t0:=Tryz.underlying0
 a0:=Tryz.isAgg0
 z0:=Tryz.sizeOf0
 v0:=Tryz.zeroValue0
 t4:=Tryz.underlying4
 a4:=Tryz.isAgg4
 z4:=Tryz.sizeOf4
 v4:=Tryz.zeroValue4
 t23:=Tryz.underlying71
 a23:=Tryz.isAgg71
 z23:=Tryz.sizeOf71
 v23:=Tryz.zeroValue71
 t26:=Tryz.underlying9
 a26:=Tryz.isAgg9
 z26:=Tryz.sizeOf9
 v26:=Tryz.zeroValue9
 t27:=Tryz.underlying84
 a27:=Tryz.isAgg84
 z27:=Tryz.sizeOf84
 v27:=Tryz.zeroValue84
 t28:=Tryz.underlying85
 a28:=Tryz.isAgg85
 z28:=Tryz.sizeOf85
 v28:=Tryz.zeroValue85
 t33:=Tryz.underlying41
 a33:=Tryz.isAgg41
 z33:=Tryz.sizeOf41
 v33:=Tryz.zeroValue41}
def Tryz.Bt:Go.Shelf.Ren:=⟨λ| 6=>41 | 8=>96 | 9=>97 | 11=>162 | 13=>164 | 12=>163 | 23=>221 | 24=>222 | 14=>212 | 15=>213 | 16=>214 | 17=>215 | 18=>216 | 19=>217 | 20=>218 | 21=>219 | 22=>220 | 25=>269 | 26=>270 | 27=>271 | 28=>272 | 29=>273 | 30=>274 | 31=>310 | n=>n,λ| 26=>9 | 28=>85 | 24=>37 | 0=>0 | 3=>3 | 37=>235 | 48=>268 | 50=>270 | 4=>4 | 40=>262 | 39=>261 | 45=>214 | 5=>5 | 9=>9 | 51=>306 | 55=>208 | 57=>338 | 58=>277 | 33=>41 | n=>n,λ| n=>n⟩
def Tryz.abq:Go.Proofs.SlLaysZ.n6 Tryz.prog Tryz.Bt:={
 mixed:=D
 f6:=⟨Tryz.f41.name,Z,Tryz.func41.trans (bK Hg D)⟩
 f8:=⟨Tryz.f96.name,Z,Tryz.func96.trans (bK Hg D)⟩
 f11:=⟨Tryz.f162.name,Z,Tryz.func162.trans (bK Hg D)⟩
 t0:=Tryz.underlying0
 a0:=Tryz.isAgg0
 z0:=Tryz.sizeOf0
 v0:=Tryz.zeroValue0
 t24:=Tryz.underlying37
 a24:=Tryz.isAgg37
 z24:=Tryz.sizeOf37
 v24:=Tryz.zeroValue37
 t26:=Tryz.underlying9
 a26:=Tryz.isAgg9
 z26:=Tryz.sizeOf9
 v26:=Tryz.zeroValue9
 t28:=Tryz.underlying85
 a28:=Tryz.isAgg85
 z28:=Tryz.sizeOf85
 v28:=Tryz.zeroValue85
 i26:=D}
def Tryz.Sk:Go.Shelf.Ren:=⟨λ| 6=>97 | 8=>164 | 9=>163 | 19=>221 | 20=>222 | 21=>212 | 22=>213 | 23=>214 | 24=>215 | 25=>216 | 26=>217 | 27=>218 | 28=>219 | 29=>220 | 36=>269 | 31=>270 | 32=>271 | 37=>272 | 38=>273 | 39=>274 | 41=>310 | n=>n,λ| 27=>37 | 29=>9 | 3=>3 | 32=>235 | 26=>37 | 0=>0 | 44=>268 | 46=>270 | 4=>4 | 36=>262 | 35=>261 | 41=>214 | 5=>5 | 9=>9 | 53=>306 | 57=>208 | 63=>338 | 64=>277 | n=>n,λ| n=>n⟩
def Tryz.adR:Go.Proofs.SlLaysM.n6 Tryz.prog Tryz.Sk:={
 mixed:=D
 f6:=⟨Tryz.f97.name,Z,Tryz.func97.trans (bK Hg D)⟩
 f8:=Tryz.func164.trans (bK Hg D)
 f9:=⟨Tryz.f163.name,Z,Tryz.func163.trans (bK Hg D)⟩
 f19:=Tryz.func221.trans (bK Hg D)
 f20:=Tryz.func222.trans (bK Hg D)
 f21:=⟨Tryz.f212.name,Z,Tryz.func212.trans (bK Hg D)⟩
 f22:=⟨Tryz.f213.name,Z,Tryz.func213.trans (bK Hg D)⟩
 f23:=⟨Tryz.f214.name,Z,Tryz.func214.trans (bK Hg D)⟩
 f24:=⟨Tryz.f215.name,Z,Tryz.func215.trans (bK Hg D)⟩
 f25:=⟨Tryz.f216.name,Z,Tryz.func216.trans (bK Hg D)⟩
 f26:=⟨Tryz.f217.name,Z,Tryz.func217.trans (bK Hg D)⟩
 f27:=⟨Tryz.f218.name,Z,Tryz.func218.trans (bK Hg D)⟩
 f28:=⟨Tryz.f219.name,Z,Tryz.func219.trans (bK Hg D)⟩
 f29:=⟨Tryz.f220.name,Z,Tryz.func220.trans (bK Hg D)⟩
 f31:=Tryz.func270.trans (bK Hg D)
 f32:=Tryz.func271.trans (bK Hg D)
 f36:=⟨Tryz.f269.name,Z,Tryz.func269.trans (bK Hg D)⟩
 f37:=⟨Tryz.f272.name,Z,Tryz.func272.trans (bK Hg D)⟩
 f38:=⟨Tryz.f273.name,Z,Tryz.func273.trans (bK Hg D)⟩
 f39:=⟨Tryz.f274.name,Z,Tryz.func274.trans (bK Hg D)⟩
 f41:=⟨Tryz.f310.name,Z,Tryz.func310.trans (bK Hg D)⟩
 t0:=Tryz.underlying0
 a0:=Tryz.isAgg0
 z0:=Tryz.sizeOf0
 v0:=Tryz.zeroValue0
 t3:=Tryz.underlying3
 a3:=Tryz.isAgg3
 z3:=Tryz.sizeOf3
 v3:=Tryz.zeroValue3
 t4:=Tryz.underlying4
 a4:=Tryz.isAgg4
 z4:=Tryz.sizeOf4
 v4:=Tryz.zeroValue4
 t5:=Tryz.underlying5
 a5:=Tryz.isAgg5
 z5:=Tryz.sizeOf5
 v5:=Tryz.zeroValue5
 t9:=Tryz.underlying9
 a9:=Tryz.isAgg9
 z9:=Tryz.sizeOf9
 v9:=Tryz.zeroValue9
 t26:=Tryz.underlying37
 a26:=Tryz.isAgg37
 z26:=Tryz.sizeOf37
 v26:=Tryz.zeroValue37
 t27:=Tryz.underlying37
 a27:=Tryz.isAgg37
 z27:=Tryz.sizeOf37
 v27:=Tryz.zeroValue37
 t29:=Tryz.underlying9
 a29:=Tryz.isAgg9
 z29:=Tryz.sizeOf9
 v29:=Tryz.zeroValue9
 t32:=Tryz.underlying235
 a32:=Tryz.isAgg235
 z32:=Tryz.sizeOf235
 v32:=Tryz.zeroValue235
 t35:=Tryz.underlying261
 a35:=Tryz.isAgg261
 z35:=Tryz.sizeOf261
 v35:=Tryz.zeroValue261
 t36:=Tryz.underlying262
 a36:=Tryz.isAgg262
 z36:=Tryz.sizeOf262
 v36:=Tryz.zeroValue262
 t41:=Tryz.underlying214
 a41:=Tryz.isAgg214
 z41:=Tryz.sizeOf214
 v41:=Tryz.zeroValue214
 t44:=Tryz.underlying268
 a44:=Tryz.isAgg268
 z44:=Tryz.sizeOf268
 v44:=Tryz.zeroValue268
 t46:=Tryz.underlying270
 a46:=Tryz.isAgg270
 z46:=Tryz.sizeOf270
 v46:=Tryz.zeroValue270
 t53:=Tryz.underlying306
 a53:=Tryz.isAgg306
 z53:=Tryz.sizeOf306
 v53:=Tryz.zeroValue306
 t57:=Tryz.underlying208
 a57:=Tryz.isAgg208
 z57:=Tryz.sizeOf208
 v57:=Tryz.zeroValue208
 t63:=Tryz.underlying338
 a63:=Tryz.isAgg338
 z63:=Tryz.sizeOf338
 v63:=Tryz.zeroValue338
 t64:=Tryz.underlying277
 a64:=Tryz.isAgg277
 z64:=Tryz.sizeOf277
 v64:=Tryz.zeroValue277}
open Go.RowKit Go.Maps Go.Sort Go.Shelf in
theorem Tryz.agJ (m:Nat):AnyZ.SortsIn Tryz.prog Tryz.Bt Fence.wide m:=
 ⟨λblk off cap ss W hH NJ hsz=>callsIn_wide.2 (AnyM.slices_Sort_string Tryz.adR blk off cap ss W hH NJ hsz),
  λp cap W=>callsIn_wide.2 (AnyM.slices_Sort_string_none Tryz.adR p cap W)⟩
open Go.RowKit Go.Maps Go.Sort Go.Shelf in
theorem Tryz.keysM_c (mb:Option Nat) (W:World):Calls Tryz.prog 42 #[.map mb] W λe w'=>e=.returned (.func (.func 98) #[] #[.pointer (some ⟨W.heap.size,0,none⟩)])/\w'=W.alloc (.cells #[.map mb] 71):=
 callsIn_wide.1 (AnyZ.keys_in Tryz.adQ Fence.wide 5 trivial rfl mb W)
open Go.RowKit Go.Maps Go.Sort Go.Shelf in
theorem Tryz.sortedM_c {H:Type} (k b nn:Nat) (D0:DataW H) (R:Value->Option (DataW H×List MemPlace)) (w:World) (hk:k<w.heap.size) (hm:w.cell? ⟨k,0,none⟩=some (.map (some b))) (mU:w.ownsMap Tryz.prog 9 R b nn D0) (ag5:Maps.size D0<=maxLen) (aiv:Maps.size D0*16<=140737488355328):
  Calls Tryz.prog 41 #[.func (.func 98) #[] #[.pointer (some ⟨k,0,none⟩)]] w λe w'=>∃(v:Value) (ss:List (List UInt8)),e=.returned v/\ss.Perm (strKeys D0)/\
   w'.ownsRow w.heap.size 9 1 v ss.length ((ss.mergeSort (λx y=>decide (x<=y))).map encStr)/\(v=.slice none 0 0↔ss=[])/\Below w.heap.size w w':=by
 have aww:SeqGives Fence.wide 2 Tryz.prog 98 #[.pointer (some ⟨k,0,none⟩)] encStr (λss=>ss.Perm (strKeys D0)) (Maps.size D0) w:=
  AnyZ.keys_gives (ρ:=Tryz.F0) {Tryz.adQ with} Fence.wide _ trivial rfl zD k b nn D0 w hk hm mU
 exact callsIn_wide.1 (AnyZ.sorted_in Tryz.abq Fence.wide 5 trivial trivial trivial trivial rfl zD (Tryz.agJ _) (enters_of Tryz.func97 RV rfl) 98 #[.pointer (some ⟨k,0,none⟩)] trivial (enters_of Tryz.func98 RV rfl) _ _ ag5 aiv _ aww)
end Go.Proofs
namespace Go.Proofs.YtccbiehilmhodaaGreatDoor.Con
open Go Go.RowKit Go.Kt Go.Kt.V Go.Proofs.YtccbiehilmhodaaGreatDoor.Vc
def agx(l:X (S))(w:aw){F:aK}:ql ju 1 w F l (l.map λa=>[Value.string (T a)]):=by
 induction l with
 | nil=>exact trivial
 | cons a l i=>exact⟨⟨I,I⟩,i⟩
def abf(l:X (S)):(l.map λa=>[Value.string (T a)]).flatten=l.map Go.Proofs.encStr:=by
 induction l with
 | nil=>rfl
 | cons a l i=>rw[cu,fk,i];rfl
def abg{B:Nat}{w:aw}{v:ay}{l:X (S)}{n:Nat}(h:w.ownsRow B 9 1 v n (l.map Go.Proofs.encStr)):∃s:Sl,v=s.v/\Own ju 1 9 B w (λ_=>False) s l:=by
 obtain⟨b,h⟩:=h;rw[bQ,qs]at b;subst b;rcases h with⟨rfl,j⟩ | ⟨g,cap,c,rfl,d,e,f,k,i,a⟩
 .have:l=[]:=bJ j;subst this;exact⟨Sl.nil,I,Vf _ _ _ _ _ _⟩
 refine⟨⟨Hg ⟨g,0,ZQ⟩,Z8 l,cap⟩,I,.inr ⟨g,_,c.toList.drop (Z8 l),I,d,?_,?_,I,f,?_,agx l w⟩⟩
 .rw[qs]at a;rw[abf,<-a,fW];unfold aG;rw[e]
 .dsimp only;rw[bZ,vq,i];omega
 have:maxLen=9223372036854775807:=I;dsimp only;omega
def Jx(k:Nat):OV:=⟨.func (.func 98) #[] #[ah (Hg ⟨k,0,ZQ⟩)],I⟩
def keysM_c(r:Nat)(w:aw):aA ar 42 #[.map (Hg r)] w λe a=>e=ao (Jx w.heap.size).v/\aG a w.heap.size 71 [.map (Hg r)]/\az [] w a/\w.heap.size<a.heap.size:=by
 refine(Tryz.keysM_c (Hg r) w).mono ?_;rintro e a ⟨rfl,rfl⟩;exact⟨I,heap_alloc_new w _,WJ _ _,by show _<(w.heap.push _).size;simp⟩
def sortedM_c{w:aw}{r n k:Nat}{m:S->Option ay}{L:X (S)}(g:MapV kS gS w r m n)(z:n<=4194304)(h:aG w k 71 [.map (Hg r)])(o:L.Pairwise (· <·))(p:∀a,a∈L↔(m a).isSome=aF):
  aA ar 41 #[(Jx k).v] w λe b=>∃s:Sl,e=ao s.v/\Own ju 1 9 w.heap.size b (λ_=>False) s L/\az [] w b:=by
 obtain⟨f,i,y,j,l⟩:=g.owns (P:=ar) (kt:=9) D (by have:maxLen=9223372036854775807:=I;omega);refine(Tryz.sortedM_c k r n f _ w h.lt (h.cell 0) i (by have:maxLen=9223372036854775807:=I;omega) J).mono ?_;rintro e b ⟨v,x,rfl,c,d,k3,u⟩;have t:x.Nodup:=c.nodup_iff.2 j;rw[acL o t λa=>by rw[c.mem_iff,l,p]]at d;obtain⟨s,rfl,q⟩:=abg d;exact⟨s,I,q,IA u⟩
def mS(a:X (S)):S->Option ay:=λk=>if k∈a then Hg (ak aF)else ZQ
def abh{a:X (S)}(k:S):(mS a k).isSome=aF↔k∈a:=by
 unfold mS;split<;>simp[*]
abbrev wo(w:aw)(r:Nat)(a:X (S)):Prop:=MapV kS gS w r (mS a) (Z8 a)
def wo.add{a:aw}{r:Nat}{b:X (S)}(h:wo a r b){s:S}(f:Z8 s<=4194304):
  ∃w,(Instr.mapUpdate 71 (.map (Hg r)) (ae (T s)) (ak aF)).run ar a=.ok () w/\wo w r (b++[s])/\az [r] a w:=by
 obtain⟨w,c,d,e⟩:=h.update (P:=ar) (mty:=71) (kt:=9) (et:=4) aaF D D (show (Z8 s)<=maxLen by have:maxLen=9223372036854775807:=I;omega) (ak aF);refine⟨w,c,(d.ext λk=>?_).le ?_,e⟩
 .unfold mS;by_cases g:k=s
  .simp[g]
  simp[g]
 rw[aP,bf];split<;>omega
structure EvW (w:aw) (ka km kn r:Nat):Prop where
 a:aG w ka 79 [.func (.func 38) #[] #[ah (Hg ⟨km,0,ZQ⟩)]]
 m:aG w km 71 [.map (Hg r)]
 n:aG w kn 80 [.func (.func 40) #[] #[ah (Hg ⟨ka,0,ZQ⟩),ah (Hg ⟨km,0,ZQ⟩),ah (Hg ⟨kn,0,ZQ⟩)]]
 d:ka≠r/\km≠r/\kn≠r
def EvW.only{w a:aw}{k m n r:Nat}(h:EvW w k m n r)(O:az [r] w a):EvW a k m n r:=
 ⟨O.blk h.a (by simp;exact h.d.1),O.blk h.m (by simp;exact h.d.2.1),O.blk h.n (by simp;exact h.d.2.2),h.d⟩
section
variable {w:aw} {G H:aK} {r:Nat}
def YI{a:aw}(h:az [] w a):az [r] w a:=h.weaken λ_ h=>Rl
def QD{a b:aw}(h:az [r] w a)(c:az [r] a b):az [r] w b:=h.trans c λx d=>.inl d
def agI{l:X Ac}{a}(h:a∈l):Z8 a.n<=jd l:=by
 have:=qF h;unfold ER at this;omega
def afo{rows}{l}{km}{A}(x:aB JZ 1 w H rows (l.map λp=>p.1))(o:∀p,p∈l->aB (pI aM) 9 w G p.1 p.2)(m:Z8 (lO l)<=4194304)(z:∀a,a∈lO l->Z8 a.n<=4194304)(q:∀k,G k->k≠r)(V:aG w km 71 [.map (Hg r)])(f:km≠r)(S:wo w r A):
  aA ar 38 #[rows.v,ah (Hg ⟨km,0,ZQ⟩)] w λe i=>e=ao (aj #[])/\wo i r (A++yA (lO l))/\az [r] w i:=by
 refine ret (asV ?_);have B:=S.lt;refine(FE x o J).mono ?_;rintro _ n ⟨⟨t,rfl,T⟩,b⟩;have M:=b.size;generalize lO l=al at*
 have D:=T.len;refine⟨t,I,λg E u=>∃j:Nat,E=(j:Int)/\g+j=Z8 al/\wo u r (A++yA (al.take j))/\az [r] n u,Z8 al,⟨0,I,I,by rw[ci,yA,bD];exact S.only b R,EC _ _⟩,?_⟩;rintro g _ L ⟨j,rfl,F,d,c⟩;have N:=c.size;refine⟨λh=>?_,λh=>?_⟩
 .have h:=aO h;have a:=Aw (cN aM) Z (T.slice (cN aM)) c λk hk _ m=>by
   simp at m;rcases hk with hk | hk
   .exact q k hk.1 m
   omega
  obtain⟨ad,y,O,p,e,G,H,t,xc,rfl,w⟩:=a.get (bc j) J;rw[aW]at e;obtain⟨sl,rfl⟩:=dM w;have l:=agH e;refine⟨λu=>wo u r (A++yA (al.take (j+1)))/\az [r] n u,?_,ad,p,_,_,_,_,_,_,sl,_,_,t,λhk k3 X yw U k=>?_,λhk Q Y _ _ P=>?_⟩
  .rintro v ⟨s,r⟩;exact⟨g-1,J,j+1,TE,J,s,r⟩
  .have hk:y.k=2:=Mi
   obtain⟨w4,u1,u2,A⟩:=wo.add (d.only k R) (s:=y.n) (z y (bA e));have z4:=A.size;refine⟨Hg r,(k.blk (c.blk (b.blk V R) (by simpa using f)) R).cells 0 _ λj v hv=>JW,w4,u1,A.same C,?_,QD (QD c (YI k)) A⟩;rw[l,K hk,<-be];exact u2
  have hk:¬y.k=2:=Mi
  refine⟨?_,QD c (YI P)⟩;rw[l,W hk,bD];exact d.only P R
 have h:=aR h;have l:j=Z8 al:=J
 subst l;rw[ez]at d;exact⟨I,d,QD (YI b) c⟩
def FY:∀(c:Nat) {w:aw} {d m n:Nat} {x:Nd} {f} {A},pv aM c w G x f->(∀k,G k->k≠r)->lF x<=1048576->EvW w d m n r->wo w r A->aA ar 40 #[ai f.toArray,ah (Hg ⟨d,0,ZQ⟩),ah (Hg ⟨m,0,ZQ⟩),ah (Hg ⟨n,0,ZQ⟩)] w λe g=>e=ao (aj #[])/\wo g r (A++Ta x)/\az [r] w g
 | 0,_,_,_,_,_,_,_,h,_,_,_,_=>h.elim
 | c+1,w,d,m,n,.mk h q,f,A,⟨M,T,mv,kids,Y,⟨V,X,H⟩,Q⟩,l,hz,E,hS=>by
  dsimp only[Nd.kids,Nd.b]at V X H Q Y;subst Y;rw[lF,uS]at hz;have s1:=fh h.en;have s2:=fh h.lv;have s3:=mf h.mv;have s4:=mg q;have am:=hS.lt;refine ret (asW ?_);intro k0 F dL tJ L;have z0:=L.size;have kA:∀{u:aw} {s:Sl} {z},aB (pI aM) 9 w G s z->az [r] w u->aB (pI aM) 9 u G s z:=λP hO=>Aw (cN aM) Z P hO λk hk _ hm=>l k hk RD;have e:∀{u:aw} {b t:Nat} {v:ay},aG u b t [v]->aD u ⟨b,0,ZQ⟩ [v]:=λP=>P.cells 0 _ λj v hv=>JW
  have q0:az [r] w F:=YI L;obtain⟨y,w1,S,k3,x⟩:=adv F M T;have z1:=k3.size;have B:=QD q0 (YI k3);refine⟨⟨.func (.func 38) #[] #[ah (Hg ⟨m,0,ZQ⟩)],I⟩,e (E.only q0).a,y,w1,S,k3.same C,38,[],[ah (Hg ⟨m,0,ZQ⟩)],I,jB D,?_⟩;have N:lO [(M,h.en),(T,h.lv)]=h.en++h.lv:=by simp[lO]
  refine(afo (l:=[(M,h.en),(T,h.lv)]) (A:=A) x (λp o=>?_) (by rw[N,aP];omega) (λa i=>?_) l (E.only B).m E.d.2.1 ((hS.only L R).only k3 R)).mono ?_
  .rcases aZ.1 o with rfl | o
   .exact kA V.1 B
   rcases aV.1 o with rfl;exact kA X.1 B
  .rw[N]at i;rcases dc.1 i with i | i<;>have:=agI i<;>omega
  rintro _ w2 ⟨rfl,h2,cO⟩;have z2:=cO.size;have q2:=QD B cO;rw[N,HR]at h2;rw[Ta,<-be];generalize A++(yA h.en++yA h.lv)=A2 at h2⊢;have c3:=H.1.len;have c4:=Q.1.len;refine⟨I,cO.same C,λv aC u=>∃j:Nat,aC=(j:Int)/\v+j=Z8 h.mv/\wo u r (A2++qX (h.mv.take j))/\az [r] w u/\F.heap.size<=u.heap.size,Z8 h.mv,⟨0,I,I,by rw[ci,qX,bD];exact h2,q2,J⟩,?_⟩;rintro v _ w3 ⟨j,rfl,vD,t,db,z3⟩;refine⟨λb=>?_,λb=>?_⟩
  .have b:=aO b;obtain⟨ad,w,f,g1,g2,g3,g4,g5,gc,mF,tg,rfl,m1,m2,m3⟩:=(Aw (iL aM) Z H.1 db λk hk _ hm=>l k hk RD).get (bc j) J;rw[aW]at g2;obtain⟨gs,rfl⟩:=dM m1;have e1:=QC g2;have n5:=qG (bA g2);have n6:=fh w.acts;unfold BL at n5;have aS:aB (pI aM) 9 w3 G mF w.acts:=m2.1;refine⟨ad,g1,_,_,_,_,_,_,_,_,gs,_,mF,tg,_,g5,λx w5 pV xA dP=>?_⟩;have z5:=dP.size;have q5:=QD db (YI dP);refine⟨λu=>wo u r ((A2++qX (h.mv.take j))++if w.k=1 then[w.ev]else[])/\az [r] w5 u,?_,λhk=>?_,λhk=>?_⟩
   .rintro w6 ⟨h6,r⟩;have z6:=r.size;have s:=QD q5 r;obtain⟨y,w7,S,k3,x⟩:=adu w6 mF;have z7:=k3.size;have G:=QD s (YI k3);have N:lO [(mF,w.acts)]=w.acts:=by simp[lO]
    refine⟨⟨.func (.func 38) #[] #[ah (Hg ⟨m,0,ZQ⟩)],I⟩,e (E.only s).a,y,w7,S,k3.same C,38,[],[ah (Hg ⟨m,0,ZQ⟩)],I,jB D,?_⟩;refine(afo (l:=[(mF,w.acts)]) x (λp o=>?_) (by rw[N];omega) (λa i=>?_) l (E.only G).m E.d.2.1 (h6.only k3 R)).mono ?_
    .rcases aV.1 o with rfl;exact Aw (cN aM) Z aS (QD (QD (YI dP) r) (YI k3)) λk hk _ hm=>l k hk RD
    .rw[N]at i;have:=agI i;omega
    rintro _ p ⟨rfl,k,a⟩;have y:=a.size;refine⟨I,a.same C,v-1,J,j+1,TE,J,?_,QD G a,J⟩;rw[N]at k;rw[e1,Mf,<-be,<-be];exact k
   .have hk:w.k=1:=Mi
    obtain⟨k,p,y,a⟩:=wo.add (t.only dP R) (s:=w.ev) J;have G:=a.size;refine⟨Hg r,e (E.only q5).m,k,p,a.same C,?_,a⟩;rw[K hk];exact y
   have hk:¬w.k=1:=Mi
   refine⟨?_,EC _ _⟩;rw[W hk,bD];exact t.only dP R
  have b:=aR b;have s:j=Z8 h.mv:=J
  subst s;rw[ez]at t;rw[<-be];generalize A2++qX h.mv=G at t⊢;refine⟨λv aC u=>∃j:Nat,aC=(j:Int)/\v+j=Z8 q/\wo u r (G++LH (q.take j))/\az [r] w u/\F.heap.size<=u.heap.size,Z8 q,⟨0,I,I,by rw[ci,LH,bD];exact t,db,z3⟩,?_⟩;rintro v _ w4 ⟨j,rfl,vD,p,a,z4⟩;refine⟨λb=>?_,λb=>?_⟩
  .have b:=aO b;obtain⟨ad,y,ds,g1,w,g3,g4,g5,g6⟩:=(Aw (ck aM c) Z Q.1 a λk hk _ hm=>l k hk RD).get (bc j) J;rw[aW]at w;have e1:=ah5 w;have n7:=nK (bA w);obtain⟨r,rfl⟩:∃r,c=r+1:=by
    cases c with
    | zero=>exact g6.elim
    | succ r=>exact⟨r,I⟩
   have A7:=g6;obtain⟨r7,r9,oe,gY,rfl,_⟩:=g6;refine⟨ad,g1,_,_,_,_,r7,r9,oe,gY,_,g5,λk9 eF bv aT dV=>?_⟩;have bV:=dV.size;have y:=QD a (YI dV);refine⟨⟨.func (.func 40) #[] #[ah (Hg ⟨d,0,ZQ⟩),ah (Hg ⟨m,0,ZQ⟩),ah (Hg ⟨n,0,ZQ⟩)],I⟩,e (E.only y).n,40,[],[ah (Hg ⟨d,0,ZQ⟩),ah (Hg ⟨m,0,ZQ⟩),ah (Hg ⟨n,0,ZQ⟩)],I,jB D,?_⟩;refine(FY (r+1) ((ck aM _).keep A7 λk _ bT=>dV.block k bT R) l J (E.only y) (p.only dV R)).mono ?_;rintro _ fR ⟨rfl,BS,eH⟩;have bY:=eH.size;refine⟨I,eH.same C,v-1,J,j+1,TE,J,?_,QD y eH,J⟩;rw[e1,<-be];exact BS
  have b:=aR b;have s:j=Z8 q:=J
  subst s;rw[ez]at p;exact⟨I,p,a⟩
def anc{t D}{c:Ch}{v:Sl}{cs}(d:ChR t D w G c v cs)(z:lF c.root<=1048576):aA ar 9 #[ai (v.v::cs).toArray] w λe b=>∃s:Sl,e=ao s.v/\Own ju 1 9 w.heap.size b (λ_=>False) s (Bp (Ta c.root) [])/\az [] w b:=by
 obtain⟨_,h⟩:=d;have h:=(ck aM _).inHeap (zi h);cases D with
 | zero=>exact h.elim
 | succ D=>
 have r:=h;obtain⟨en,lv,mv,kids,rfl,_⟩:=h;refine iE (asU ?_);intro k0 g fQ dL o;have z0:=o.size;obtain⟨S,M,p⟩:=MapV.make (P:=ar) (mty:=71) (kv:=kS) (g:=gS) g;refine⟨_,_,S,p.same C,?_⟩;have z1:=M.lt;generalize g.alloc (.map #[] 0)=w1 at*
 intro W V X x Z d2 d3 d4 d5 d6 j A y B;have z2:=j.size;have t:EvW x V W X g.heap.size:=⟨y,A,B,J,J,J⟩
 have Q:wo x g.heap.size []:=(M.only j R).ext λk=>I;have u:=(o.cn p).cn j;have hl:=Qw c.root;refine(FY (G:=λk=>G k/\k<w.heap.size) (D+1) ((ck aM _).keep r λk _ T=>u.block k T R) (λk hk=>ZD) z t Q).mono ?_;rintro _ n ⟨rfl,K,i⟩;have z3:=i.size;have E:=t.only i;have Y:az [] w n:=u.trans i C;refine⟨I,i.same C,_,E.m,⟨_,I⟩,E.a,⟨_,I⟩,E.n,(keysM_c g.heap.size n).mono ?_⟩;rintro _ w4 ⟨rfl,N,e,_⟩;have z4:=e.size;refine⟨Jx n.heap.size,I,e.same C,_,e.blk E.m R,⟨_,I⟩,e.blk E.a R,⟨_,I⟩,e.blk E.n R,(sortedM_c (L:=Bp (Ta c.root) []) (K.only e R) (by rw[cb];omega) N (At6 .nil) λa=>by rw[abh,Qx];simp).mono ?_⟩;rintro _ w5 ⟨s,rfl,m,f⟩;have z5:=f.size;refine⟨s,I,f.same C,_,f.blk (e.blk E.m R) R,⟨_,I⟩,f.blk (e.blk E.a R) R,⟨_,I⟩,f.blk (e.blk E.n R) R,s,I,?_,(Y.cn e).cn f⟩;rcases m with m | ⟨q,l,tail,F,e2,H⟩
 .exact .inl m
 exact .inr ⟨q,l,tail,F,J,H⟩
end
def jf(c:aJ)(s j:Nat):aJ:=(c.drop (j*s)).take s
def tn{c:aJ}{s j i:Nat}(h:i<s):(jf c s j)[i]? =c[j*s+i]? :=by
 unfold jf;rw[pQ h,gq]
def Ec{c v:aJ}{o:Nat}(a:o+Z8 v<=Z8 c)(i:Nat):(eY c o v)[i]? =if i<o then c[i]? else if i<o+Z8 v then v[i-o]? else c[i]? :=by
 unfold eY;by_cases h:i<o
 .rw[K h,be,ca Zo,pQ h]
 rw[W h];by_cases b:i<o+Z8 v
 .rw[K b,ca (by rw[aP,cf];omega),cG Zo,cf,Yw J]
 rw[W b,cG (by rw[aP,cf];omega),aP,cf,Yw J,gq];congr 1;omega
def ae5{c v:aJ}{o:Nat}(h:o+Z8 v<=Z8 c):Z8 (eY c o v)=Z8 c:=by
 unfold eY;rw[aP,aP,cf,bZ];omega
def aer{c v:aJ}{s j:Nat}(b:Z8 v=s)(a:j*s+s<=Z8 c):jf (eY c (j*s) v) s j=v:=by
 apply im;intro i;by_cases h:i<s
 .rw[tn h,Ec J,W J,K J,eo]
 unfold jf;rw[iX,W J,cR J]
def ad5{c v:aJ}{s j i:Nat}(b:Z8 v=s)(a:j*s+s<=Z8 c)(C:i≠j):jf (eY c (j*s) v) s i=jf c s i:=by
 apply im;intro t;by_cases h:t<s
 .rw[tn h,tn h,Ec J];rcases Nat.lt_or_gt_of_ne C with d | d
  .have:=fM s (show i+1<=j by omega);rw[fj]at this;rw[K J]
  have:=fM s (show j+1<=i by omega);rw[fj]at this;rw[W J,W J]
 unfold jf;rw[iX,iX,W J,W J]
abbrev spE:aJ:=[O U (-7),O U 0,ae (aq #[]),O U 0,Sl.nil.v,O U 0]
abbrev HT:M:=aq #[115,112,111,105,108,116]
abbrev spA:aJ:=[O U 0,ae HT,O U 0,O U 0,ae (aq #[]),O U 0,Sl.nil.v,O U 0,O U 0]
abbrev spM:aJ:=[O U 0,ae HT,O U 0,ak aM,O U 0,O U 0,ae (aq #[]),O U 0,Sl.nil.v,O U 0,Sl.nil.v,Sl.nil.v,O U 0]
abbrev spN:aJ:=[O U 0,ae HT,ae (aq #[]),ae (aq #[]),Sl.nil.v,Sl.nil.v,Sl.nil.v,Sl.nil.v,O U 0]
def tE:TypeId:=76
def tA:TypeId:=78
def tM:TypeId:=82
def tN:TypeId:=28
structure Mod (e:TypeId) (cs qY:aJ):Prop where
 len:Z8 qY=Z8 cs
 E:e=tE->∀j,jf qY 6 j=jf cs 6 j∨jf qY 6 j=spE
 A:e=tA->∀j,jf qY 9 j=jf cs 9 j∨jf qY 9 j=spA
 M:e=tM->∀j,jf qY 13 j=jf cs 13 j∨jf qY 13 j=spM
 N:e=tN->∀j,jf qY 9 j=jf cs 9 j∨jf qY 9 j=spN
def Mod.refl(e:TypeId)(c:aJ):Mod e c c:=⟨I,λ_ _=>.inl I,λ_ _=>.inl I,λ_ _=>.inl I,λ_ _=>.inl I⟩
def Mod.trans{e:TypeId}{a b c:aJ}(h:Mod e a b)(k:Mod e b c):Mod e a c:=by
 have go:∀{x y z s:aJ},(y=x∨y=s)->(z=y∨z=s)->(z=x∨z=s):=λh k=>by
  rcases k with k | k
  .rw[k];exact h
  exact .inr k
 exact⟨k.len.trans h.len,λe j=>go (h.E e j) (k.E e j),λe j=>go (h.A e j) (k.A e j),λe j=>go (h.M e j) (k.M e j),λe j=>go (h.N e j) (k.N e j)⟩
structure Sp (T:TypeId->Prop) (F:aK) (w w':aw):Prop where
 o:aE F w w'
 b:∀g e cs,F g->aG w g e cs->∃qY,aG w' g e qY/\Mod e cs qY/\(¬T e->qY=cs)
section
variable {T U:TypeId->Prop} {F:aK} {w w' tQ:aw}
def Sp.refl(T:TypeId->Prop)(F:aK)(w:aw):Sp T F w w:=⟨Jk _ _,λg e c _ h=>⟨c,h,Mod.refl _ _,λ_=>I⟩⟩
def Sp.trans(h:Sp T F w w')(k:Sp T F w' tQ):Sp T F w tQ:=⟨h.o.trans k.o λ_ x=>.inl x,λg e s b j=>by
 obtain⟨f,c,m,n⟩:=h.b g e s b j;obtain⟨i,d,l,o⟩:=k.b g e f b c;exact⟨i,d,m.trans l,λa=>(o a).trans (n a)⟩⟩
def Sp.up(h:Sp T F w w')(a:∀e,T e->U e):Sp U F w w':=⟨h.o,λg e s i f=>by
 obtain⟨c,b,m,n⟩:=h.b g e s i f;exact⟨c,b,m,λd=>n λt=>d (a e t)⟩⟩
def Sp.quiet(h:az [] w w'):Sp T F w w':=⟨h.p0,λg e c _ b=>⟨c,h.blk b R,Mod.refl _ _,λ_=>I⟩⟩
def Sp.one{g:Nat}{e:TypeId}{s q:aJ}(d:F g)(i:T e)(B:aG w g e s)(h:az [g] w w')(Q:aG w' g e q)(m:Mod e s q):Sp T F w w':=
 ⟨h.p λx a=>.inl (by simp only[aV]at a;subst a;exact d),λb k c f j=>by
  by_cases e:b=g
  .subst e;have:=B.symm.trans j;simp only[cd,Obj.cells.injEq,and_true]at this;obtain⟨l,n⟩:=this;have l:s=c:=by simpa using bK Array.toList l
   subst l n;exact⟨q,Q,m,λo=>absurd i o⟩
  exact⟨c,h.blk j (by simpa using e),Mod.refl _ _,λ_=>I⟩⟩
def Se:=@Sp.one
def AX{e:TypeId}{c z:aJ}{size j:Nat}(b:Z8 z=size)(a:j*size+size<=Z8 c)(E:e=tE->size=6/\z=spE)(A:e=tA->size=9/\z=spA)(M:e=tM->size=13/\z=spM)(N:e=tN->size=9/\z=spN):Mod e c (eY c (j*size) z):=by
 have k:∀i,jf (eY c (j*size) z) size i=jf c size i∨jf (eY c (j*size) z) size i=z:=λi=>by
  by_cases v:i=j
  .subst v;exact .inr (aer b a)
  exact .inl (ad5 b a v)
 refine⟨ae5 J,λh i=>?_,λh i=>?_,λh i=>?_,λh i=>?_⟩
 .obtain⟨rfl,rfl⟩:=E h;exact k i
 .obtain⟨rfl,rfl⟩:=A h;exact k i
 .obtain⟨rfl,rfl⟩:=M h;exact k i
 obtain⟨rfl,rfl⟩:=N h;exact k i
end
def LR(w:aw)(F:aK)(e:TypeId)(size:Nat)(L:aJ->Prop)(s:Sl):Prop:=s.n=0∨∃g c,s.a=Hg ⟨g,0,ZQ⟩/\F g/\aG w g e c/\s.n*size<=Z8 c/\s.n<=9223372036854775807/\∀j,j<s.n->L (jf c size j)
def LE(F:aK):Nat->aw->aJ->Prop
 | 0,_,_=>False
 | d+1,w,c=>∃k n s op sl a,c=[O U k,O U n,ae s,O U op,Sl.v sl,O U a]/\LR w F tE 6 (LE F d w) sl
def LA(F:aK)(w:aw)(c:aJ):Prop:=∃d k n b e s o sl x a,c=[O U k,ae n,O U b,O U e,ae s,O U o,Sl.v sl,O U x,O U a]/\LR w F tE 6 (LE F d w) sl
def LM(F:aK)(w:aw)(c:aJ):Prop:=∃d k ev wt g b n s o sl x m t a,c=[O U k,ae ev,O U wt,ak g,O U b,O U n,ae s,O U o,Sl.v sl,O U x,Sl.v m,Sl.v t,O U a]/\LR w F tE 6 (LE F d w) sl/\LR w F tA 9 (LA F w) m/\LR w F 9 1 (λ_=>True) t
def LK(w:aw)(F:aK)(L:Nat->aJ->Prop)(a:X Nat)(s:Sl):Prop:=s.n=Z8 a/\(s.n=0∨∃g c,s.a=Hg ⟨g,0,ZQ⟩/\F g/\aG w g tN c/\s.n*9<=Z8 c/\s.n<=9223372036854775807/\∀j m,a[j]? =Hg m->L m (jf c 9 j))
def LN(F:aK):Nat->aw->Nat->aJ->Prop
 | 0,_,_,_=>False
 | d+1,w,b,c=>∃k n i f e l mv kids a,c=[O U k,ae n,ae i,ae f,Sl.v e,Sl.v l,Sl.v mv,Sl.v kids,O U a]/\LR w F tA 9 (LA F w) e/\LR w F tA 9 (LA F w) l/\LR w F tM 13 (LM F w) mv/\∃m:X Nat,m.sum+1<=b/\LK w F (LN F d w) m kids
section
variable {T:TypeId->Prop} {F G:aK} {w w':aw}
def LR.nil(w:aw)(F:aK)(e:TypeId)(size:Nat)(L:aJ->Prop):LR w F e size L Sl.nil:=.inl I
def Rh:=@LR.nil
def LR.sp{e:TypeId}{size:Nat}{L a:aJ->Prop}{s:Sl}(h:LR w F e size L s)(n:Sp T F w w')(m:∀c q:aJ,Mod e c q->∀j,L (jf c size j)->a (jf q size j)):LR w' F e size a s:=by
 rcases h with h | ⟨g,c,d,b,f,i,k,l⟩
 .exact .inl h
 obtain⟨q,p,o,_⟩:=n.b g e c b f;exact .inr ⟨g,q,d,b,p,by rw[o.len];exact i,k,λj r=>m c q o j (l j r)⟩
def LE.sp(h:Sp T F w w'):∀(d:Nat) {c:aJ},LE F d w c->LE F d w' c
 | 0,_,a=>a.elim
 | d+1,_,⟨k,n,s,op,sl,a,e,b⟩=>⟨k,n,s,op,sl,a,e,b.sp h λc q m j l=>by
  rcases m.E rfl j with e | e
  .rw[e];exact LE.sp h d l
  rw[e];cases d with
  | zero=>exact l.elim
  | succ d=>exact⟨_,_,_,_,Sl.nil,_,I,Rh _ _ _ _ _⟩⟩
def LE.tt{d:Nat}{s:Sl}(b:LR w F tE 6 (LE F d w) s)(a:Sp T F w w'):LR w' F tE 6 (LE F d w') s:=b.sp a λc q m j h=>by
 rcases m.E rfl j with e | e
 .rw[e];exact LE.sp a d h
 rw[e];cases d with
 | zero=>exact h.elim
 | succ d=>exact⟨_,_,_,_,Sl.nil,_,I,Rh _ _ _ _ _⟩
def LA.sp{c:aJ}(h:LA F w c)(s:Sp T F w w'):LA F w' c:=by
 obtain⟨d,k,n,b,f,g,o,sl,x,a,e,h⟩:=h;exact⟨d,k,n,b,f,g,o,sl,x,a,e,LE.tt h s⟩
def LA.tt{s:Sl}(a:LR w F tA 9 (LA F w) s)(h:Sp T F w w'):LR w' F tA 9 (LA F w') s:=a.sp h λc q m j l=>by
 rcases m.A rfl j with e | e
 .rw[e];exact l.sp h
 rw[e];exact⟨0,_,_,_,_,_,_,Sl.nil,_,_,I,Rh _ _ _ _ _⟩
def LR.agK{e:TypeId}{size:Nat}{s:Sl}(h:LR w F e size (λ_=>True) s)(a:Sp T F w w'):LR w' F e size (λ_=>True) s:=h.sp a λ_ _ _ _ _=>trivial
def LM.sp{c:aJ}(b:LM F w c)(h:Sp T F w w'):LM F w' c:=by
 obtain⟨d,k,ev,wt,g,l,n,s,o,sl,x,m,t,a,e,f,i,j⟩:=b;exact⟨d,k,ev,wt,g,l,n,s,o,sl,x,m,t,a,e,LE.tt f h,LA.tt i h,j.agK h⟩
def LM.tt{s:Sl}(a:LR w F tM 13 (LM F w) s)(h:Sp T F w w'):LR w' F tM 13 (LM F w') s:=a.sp h λc q m j l=>by
 rcases m.M rfl j with e | e
 .rw[e];exact l.sp h
 rw[e];exact⟨0,_,_,_,_,_,_,_,_,Sl.nil,_,Sl.nil,Sl.nil,_,I,Rh _ _ _ _ _,Rh _ _ _ _ _,Rh _ _ _ _ _⟩
def LK.sp0{d:Nat}{a:X Nat}{s:Sl}(b:LK w F (LN F d w) a s)(j:Sp T F w w')(i:∀{m:Nat} {c:aJ},LN F d w m c->LN F d w' m c):LK w' F (LN F d w') a s:=by
 obtain⟨f,h⟩:=b;refine⟨f,?_⟩;rcases h with h | ⟨g,c,k,q,l,n,o,p⟩
 .exact .inl h
 obtain⟨Y,u,t,_⟩:=j.b g tN c q l;refine .inr ⟨g,Y,k,q,u,by rw[t.len];exact n,o,λs w v=>?_⟩;have r:=p s w v;rcases t.N rfl s with e | e
 .rw[e];exact i r
 rw[e];cases d with
 | zero=>exact r.elim
 | succ d=>
  obtain⟨_,_,_,_,_,_,_,_,_,_,_,_,_,x,e,_⟩:=r;exact⟨_,_,_,_,Sl.nil,Sl.nil,Sl.nil,Sl.nil,_,I,Rh _ _ _ _ _,Rh _ _ _ _ _,Rh _ _ _ _ _,[],C,I,.inl I⟩
def LN.sp(h:Sp T F w w'):∀(d:Nat) {m:Nat} {c:aJ},LN F d w m c->LN F d w' m c
 | 0,_,_,a=>a.elim
 | d+1,m,_,⟨k,q,i,f,n,v,mv,kids,a,e,g,j,l,s,p,o⟩=>⟨k,q,i,f,n,v,mv,kids,a,e,LA.tt g h,LA.tt j h,LM.tt l h,s,p,o.sp0 h λb=>LN.sp h d b⟩
def LK.sp{d:Nat}{m:X Nat}{s:Sl}(h:LK w F (LN F d w) m s)(a:Sp T F w w'):LK w' F (LN F d w') m s:=h.sp0 a λh=>LN.sp a d h
end
def KT{w:aw}{g:Nat}{e:TypeId}{cells c:aJ}{s j:Nat}(h:aG w g e cells)(l:Z8 c=s)(a:aD w ⟨g,j*s,ZQ⟩ c):jf cells s j=c:=by
 apply im;intro i;by_cases b:i<s
 .rw[tn b];have d:c[i]? =Hg c[i]:=bH J;have:=a i _ d;rw[gW,h.cell]at this;rw[this,d]
 unfold jf;rw[iX,W J,cR J]
section
variable {w w':aw} {F:aK}
def jh.lr{f:Type}{r:Rp f}{size:Nat}{e:TypeId}{s:Sl}{d:X f}{L:aJ->Prop}(h:jh aF r size e w F s d)(l:∀x c,r w F x c->L c):LR w F e size L s:=by
 rcases h.2 rfl with i | ⟨g,cells,a,j,b,k⟩
 .exact .inl i
 refine .inr ⟨g,cells,a,j,b,k,bp h.1.cap h.1.big,λn q=>?_⟩;have T:n<Z8 d:=by rw[<-h.1.len];exact q
 obtain⟨s,c,e,t,o,m,p⟩:=h.1.at_ n _ (bH T);rw[a]at e;injection e with e;subst e;rw[gW,bO]at m;rw[KT b o m];exact l _ _ p
def QF:∀{d:Nat} {x:Ex} {c:aJ},OU aF d w F x c->LE F d w c
 | 0,_,_,h=>h.elim
 | d+1,x,c,⟨sl,a,b⟩=>⟨x.k,x.n,T x.s,x.op,sl,x.a,a,b.lr λy s h=>QF h⟩
def eq1{x:Ex}{c:aJ}(h:rE aF w F x c):∃d k n s op sl a,c=[O U k,O U n,ae s,O U op,Sl.v sl,O U a]/\LR w F tE 6 (LE F d w) sl:=by
 obtain⟨d,h⟩:=h;cases d with
 | zero=>exact h.elim
 | succ d=>
  obtain⟨sl,a,b⟩:=h;exact⟨d,_,_,_,_,sl,_,a,b.lr λy s h=>QF h⟩
def Nx{x:Ac}{c:aJ}(h:pI aF w F x c):LA F w c:=by
 obtain⟨e,rfl,h⟩:=h;obtain⟨d,k,n,s,op,sl,a,rfl,b⟩:=eq1 h;exact⟨d,_,_,_,_,_,_,sl,_,_,I,b⟩
def agy{x:Mv}{c:aJ}(h:JE aF w F x c):LM F w c:=by
 obtain⟨g,m,t,rfl,b,e,f⟩:=h;obtain⟨d,k,n,s,op,sl,a,rfl,h⟩:=eq1 b;exact⟨d,_,_,_,_,_,_,_,_,sl,_,m,t,_,I,h,e.lr λy i h=>Nx h,f.lr λ_ _ _=>trivial⟩
def qi:Nat->Nd->Nat
 | 0,_=>0
 | d+1,x=>1+(x.kids.map (qi d)).sum
def WU:∀{d:Nat} {x:Nd} {c:aJ},pv aF d w F x c->LN F d w (qi d x) c
 | 0,_,_,h=>h.elim
 | d+1,x,c,⟨n,l,mv,kids,i,b,a⟩=>⟨_,_,_,_,n,l,mv,kids,_,i,b.1.lr λy s h=>Nx h,b.2.1.lr λy s h=>Nx h,b.2.2.lr λy s h=>agy h,x.kids.map (qi d),by rw[qi];omega,by rw[bQ];exact a.1.len,by
  rcases a.2 rfl with f | ⟨g,cells,q,j,e,k⟩
  .exact .inl f
  refine .inr ⟨g,cells,q,j,e,k,bp a.1.cap a.1.big,λo p d=>?_⟩;rw[dr]at d;cases m:x.kids[o]? with
  | none=>rw[m]at d;cases d
  | some y=>
   rw[m]at d;injection d with d;subst d;obtain⟨u,c,r,x,v,t,w⟩:=a.1.at_ o _ m;rw[q]at r;injection r with r;subst r;rw[gW,bO]at t;rw[KT e v t];exact WU w⟩
def ij{s:Sl}{g j i:Nat}(h:s.a=Hg ⟨g,0,ZQ⟩)(a:j<s.n):cM s (j:Int) i ⟨g,j*i,ZQ⟩:=⟨_,h,J,J,by rw[gW,aW,bO]⟩
def xd{n j s len:Nat}(a:j<n)(h:n*s<=len):j*s+s<=len:=by
 have:=fM s (show j+1<=n by omega);rw[fj]at this;omega
def kg{g:Nat}{e:TypeId}{cells c:aJ}{s j:Nat}(h:aG w g e cells)(a:jf cells s j=c)(i:Nat){v:ay}(b:i<s)(d:c[i]? =Hg v):aD w ⟨g,j*s+i,ZQ⟩ [v]:=h.at0 _ (by rw[<-tn b,a];exact d)
def Ed:∀(d:Nat) {w:aw} {s:Sl},LR w F tE 6 (LE F d w) s->aA ar 102 #[s.v] w λe w'=>(∃i:Int,e=ao (O U i))/\Sp (λe=>e=tE) F w w'
 | d,w,s,h=>by
  refine iE (asQ ?_);refine⟨λv o p w'=>∃j:Nat,p=(j:Int)/\j<=s.n/\v=s.n-j/\Sp (λe=>e=tE) F w w',s.n,⟨0,I,bh _,I,Sp.refl _ _ _⟩,?_⟩;rintro v o _ x ⟨j,rfl,b,rfl,S⟩;refine⟨λhc=>?_,λ_=>⟨⟨_,I⟩,S⟩⟩;have b:j<s.n:=Ro
  rcases LE.tt h S with t | ⟨g,m,q,c,f,r,u,l⟩
  .omega
  cases d with
  | zero=>exact(l j b).elim
  | succ d=>
   obtain⟨k,n,st,op,sl,a,e,w⟩:=l j b;refine⟨_,ij q b,sl,kg f e 4 Z I,(Ed d w).mono ?_⟩;rintro _ B ⟨⟨i,rfl⟩,y⟩;obtain⟨X,z,m1,_⟩:=y.b g tE m c f;have vf:=xd b r;refine⟨i,I,_,ij q b,g,j*6,X,tE,I,z,M5,λC A Y=>⟨s.n-(j+1),J,j+1,TE,J,I,(S.trans y).trans (Se c I z A Y (AX I M5 (λ_=>⟨I,I⟩) (λh=>absurd h Z) (λh=>absurd h Z) (λh=>absurd h Z)))⟩⟩
def Ee{s:Sl}(h:LR w F tA 9 (LA F w) s):aA ar 101 #[s.v] w λe w'=>e=ao (aj #[])/\Sp (λe=>e=tE∨e=tA) F w w':=by
 refine ret (asP ?_);refine⟨λv l w'=>∃j:Nat,l=(j:Int)/\j<=s.n/\v=s.n-j/\Sp (λe=>e=tE∨e=tA) F w w',s.n,⟨0,I,bh _,I,Sp.refl _ _ _⟩,?_⟩;rintro v _ t ⟨j,rfl,b,rfl,S⟩;refine⟨λhc=>?_,λ_=>⟨I,S⟩⟩;have b:j<s.n:=Ro
 rcases LA.tt h S with p | ⟨g,i,q,c,f,m,r,o⟩
 .omega
 obtain⟨d,k,n,C,D,F,E,sl,B,a,e,w⟩:=o j b;refine⟨_,ij q b,sl,kg f e 6 Z I,(Ed d w).mono ?_⟩;rintro _ z ⟨⟨y,rfl⟩,O⟩;obtain⟨X,u,m1,_⟩:=O.b g tA i c f;have vf:=xd b m;refine⟨y,I,_,ij q b,g,j*9,X,tA,I,u,M5,λA x Y=>⟨s.n-(j+1),J,j+1,TE,J,I,(S.trans (O.up λ_ h=>.inl h)).trans (Se c (.inr I) u x Y (AX I M5 (λh=>absurd h Z) (λ_=>⟨I,I⟩) (λh=>absurd h Z) (λh=>absurd h Z)))⟩⟩
abbrev TyA:TypeId->Prop:=λe=>e≠tN
abbrev Jy:TypeId->Prop:=λe=>e≠tN/\e≠tM
def Sp.kept{T:TypeId->Prop}(h:Sp T F w w'){g:Nat}{e:TypeId}{c:aJ}(a:F g)(B:aG w g e c)(d:¬T e):aG w' g e c:=by
 obtain⟨q,b,_,n⟩:=h.b g e c a B;rw[n d]at b;exact b
def tyE{e:TypeId}(h:e=tE):Jy e:=by subst h;exact⟨Z,Z⟩
def PB{e:TypeId}(h:e=tE∨e=tA):Jy e:=by rcases h with rfl | rfl<;>exact⟨Z,Z⟩
def aiC{m:X Nat}{j a:Nat}(h:m[j]? =Hg a):(m.take (j+1)).sum=(m.take j).sum+a:=by
 rw[bq,h,vp];simp
def HC{ms:X Nat}{j:Nat}:(ms.take j).sum<=ms.sum:=by
 have h:(ms.take j++ms.drop j).sum=ms.sum:=by rw[fW]
 rw[vp]at h;omega
def KU:∀(d:Nat) {w:aw} {s:Sl} {m:X Nat},LK w F (LN F d w) m s->m.sum<=4611686018427387904->aA ar 44 #[s.v] w λe w'=>(∃i:Int,e=ao (O U i)/\(Z8 m:Int)<=i/\i<=(m.sum:Int))/\Sp (λ_=>True) F w w'
 | d,w,s,m,h,l=>by
  refine iE (asL ?_);refine⟨λn c o w'=>∃j:Nat,o=(j:Int)/\j<=s.n/\n=s.n-j/\(j:Int)<=c/\c<=((m.take j).sum:Int)/\Sp (λ_=>True) F w w',s.n,⟨0,I,bh _,I,kQ _,R,Sp.refl _ _ _⟩,?_⟩;rintro n c _ p ⟨j,rfl,b,rfl,f,g,S⟩;have A:=h.1;refine⟨λhc=>?_,λhc=>⟨⟨c,I,?_,?_⟩,S⟩⟩;rotate_left
  .have:=aR hc;omega
  .have:=HC (ms:=m) (j:=j);omega
  have b:j<s.n:=Ro
  rcases(h.sp S).2 with r | ⟨v,y,q,z,w,B,C,u⟩
  .omega
  have D:m[j]? =Hg m[j]:=bH J;generalize m[j]=E at D;have G:=aiC D;have Y:=HC (ms:=m) (j:=j+1);cases d with
  | zero=>exact(u j E D).elim
  | succ d=>
   obtain⟨k,nm,P,N,V,lv,mv,kids,a,e,W,h2,h3,aS,aC,hk⟩:=u j E D;refine⟨_,ij q b,kids,kg w e 7 Z I,(KU d hk J).mono ?_⟩;rintro _ w1 ⟨⟨i2,rfl,am,xP⟩,SO⟩;have M:=S.trans SO;rcases(h.sp M).2 with r | ⟨g',XE,H,K,L,Q,aT,T⟩
   .omega
   rw[q]at H;injection H with H;injection H with H;subst H;obtain⟨k,nm,P,N,V,lv,mv,kids,a,e,W,h2,h3,_⟩:=T j E D;have vf:=xd b Q;refine⟨i2,I,_,ij q b,V,kg L e 4 Z I,(Ee W).mono ?_⟩;rintro _ w2 ⟨rfl,d⟩;have d:=d.up λ_ h=>PB h;have b2:=d.kept K L λh=>h.1 I;refine⟨I,_,ij q b,lv,kg b2 e 5 Z I,(Ee (LA.tt h2 d)).mono ?_⟩;rintro _ w3 ⟨rfl,Ls⟩;have Ls:=d.trans (Ls.up λ_ h=>PB h);refine⟨I,λn i3 w'=>∃k:Nat,i3=(k:Int)/\k<=mv.n/\n=mv.n-k/\Sp TyA F w1 w',mv.n,⟨0,I,bh _,I,Ls.up λ_ h=>h.1⟩,?_⟩;clear d Ls b2;rintro n _ w4 ⟨k,rfl,pV,rfl,L1⟩;have b4:=L1.kept K L λh=>h I;refine⟨_,ij q b,mv,kg b4 e 6 Z I,λhc=>?_,λhc=>?_⟩
   .have pV:k<mv.n:=Ro
    rcases LM.tt h3 L1 with r | ⟨gm,cm,a,s,x,r4,r5,r6⟩
    .omega
    obtain⟨dm,k',ev,wt,gd,xk,xn,xs,xo,sl,xa,mF,tg,a',em,u1,u2,u3⟩:=r6 k pV;have bV:=xd pV r4;refine⟨_,ij q b,mv,kg b4 e 6 Z I,_,ij a pV,sl,kg x em 8 Z I,(Ed dm u1).mono ?_⟩;rintro _ w5 ⟨⟨i4,rfl⟩,yy⟩;have yy:=yy.up λ_ h=>tyE h;have b5:=(L1.trans (yy.up λ_ h=>h.1)).kept K L λh=>h I;have m5:=yy.kept s x λh=>h.2 I;refine⟨i4,I,_,ij q b,mv,kg b5 e 6 Z I,_,ij a pV,mF,kg m5 em 10 Z I,(Ee (LA.tt u2 yy)).mono ?_⟩;rintro _ w6 ⟨rfl,bv⟩;have bv:=yy.trans (bv.up λ_ h=>PB h);refine⟨I,λn i5 w'=>∃t:Nat,i5=(t:Int)/\t<=tg.n/\n=tg.n-t/\Sp Jy F w4 w',tg.n,⟨0,I,bh _,I,bv⟩,?_⟩;clear yy bv b5 m5;rintro n _ w7 ⟨t,rfl,ht,rfl,L4⟩;have b7:=(L1.trans (L4.up λ_ h=>h.1)).kept K L λh=>h I;have m7:=L4.kept s x λh=>h.2 I;refine⟨_,ij q b,mv,kg b7 e 6 Z I,_,ij a pV,tg,kg m7 em 11 Z I,λhc=>?_,λhc=>?_⟩
    .have ht:t<tg.n:=Ro
     rcases u3.agK L4 with r | ⟨gt,F,v1,v2,k,v4,v5,v6⟩
     .omega
     have bY:=xd ht v4;refine⟨_,ij q b,mv,kg b7 e 6 Z I,_,ij a pV,tg,kg m7 em 11 Z I,_,ij v1 ht,gt,t*1,F,_,I,k,bY,λw8 ft re=>⟨tg.n-(t+1),J,t+1,TE,J,I,L4.trans (Se v2 ⟨Z,Z⟩ k ft re (AX (size:=1) I bY (λh=>absurd h Z) (λh=>absurd h Z) (λh=>absurd h Z) (λh=>absurd h Z)))⟩⟩
    refine⟨_,ij q b,mv,kg b7 e 6 Z I,_,ij a pV,gm,k*13,cm,tM,I,m7,bV,λw9 F t=>⟨mv.n-(k+1),J,k+1,TE,J,I,(L1.trans (L4.up λ_ h=>h.1)).trans (Se s (by show tM≠tN;decide) m7 F t (AX I bV (λh=>absurd h Z) (λh=>absurd h Z) (λ_=>⟨I,I⟩) (λh=>absurd h Z)))⟩⟩
   refine⟨_,ij q b,v,j*9,XE,tN,I,b4,vf,λk a e=>⟨s.n-(j+1),J,j+1,TE,J,I,?_,?_,(M.trans (L1.up λ_ _=>trivial)).trans (Se K trivial b4 a e (AX I vf (λh=>absurd h Z) (λh=>absurd h Z) (λh=>absurd h Z) (λ_=>⟨I,I⟩)))⟩⟩
   .rw[eS (x:=c+1) J J,eS J J];omega
   rw[eS (x:=c+1) J J,eS J J];omega
end
def ane:Rp (aJ):=λ_ _ x c=>c=x/\∀v,v∈c->v.oneCell'=aF
def abi:ane.Ok:=⟨λh _=>h,λh=>h,λh _=>h,λh=>h.2⟩
def afS{d:Nat}{w:aw}{F:aK}{c:Ch}{v:Sl}{a:aJ}(h:ChR aF d w F c v a)(f:∀k,F k->k<w.heap.size)(hm:qi d c.root<=4611686018427387904):aA ar 12 #[ai (v.v::a).toArray] w λe b=>(∃i:Int,e=ao (O U i)/\0<i)/\aE F w b:=by
 have B:=h.root;cases d with
 | zero=>exact B.elim
 | succ d=>
  obtain⟨E,L,mv,kids,l,_⟩:=h.root;have M:=(ck aF (d+1)).one B;subst l;refine iE (asJ ?_);intro z o V T y;have W:=y.size;generalize l:rz c.root.b.k c.root.b.nm c.root.b.ini c.root.b.dft E L mv kids c.root.b.a=a at*
  have Q:LR w (λk=>F k∨o.heap.size<=k) 69 3 (λ_=>True) v:=(h.vars.mono ec (G:=λk=>F k∨o.heap.size<=k) λk g=>.inl g).lr λ_ _ _=>trivial;have C:=WU ((ck aF (d+1)).mono B (G:=λk=>F k∨o.heap.size<=k) λk g=>.inl g);generalize m:(λk=>F k∨o.heap.size<=k)=F' at*
  have p:¬F' z:=λg=>by
   rw[<-m]at g;rcases g with g | g
   .have:=f z g;omega
   omega
  have q:∀{b:aw},Sp (λ_=>True) F' w b->aE F w b:=λH=>H.o.mono λk g n=>by
   rw[<-m]at n;rcases n with n | n
   .exact n
   omega
  refine⟨λA i b=>∃j:Nat,i=(j:Int)/\j<=v.n/\A=v.n-j/\Sp (λ_=>True) F' w b/\o.heap.size<=b.heap.size,v.n,⟨0,I,bh _,I,Sp.quiet y,aX _⟩,?_⟩;rintro A _ N ⟨j,rfl,u,rfl,S,K⟩;refine⟨λhc=>?_,λ_=>?_⟩
  .have u:j<v.n:=Ro
   rcases Q.agK S with t | ⟨k,cells,r,c,d,s,x,G⟩
   .omega
   have Y:=xd u s;refine⟨_,ij r u,k,j*3,cells,_,I,d,Y,λe=>p (by rw[e];exact c),λw2 P jY=>⟨v.n-(j+1),J,j+1,TE,J,I,S.trans (Se c trivial d P jY (AX (size:=3) I Y (λh=>absurd h Z) (λh=>absurd h Z) (λh=>absurd h Z) (λh=>absurd h Z))),bp K P.size⟩⟩
  obtain⟨s,w3,a1,a2,G,_,a5,_⟩:=kD (P:=ar) (t:=26) (e:=28) (i:=Tryz.t28) (w:=N) (F:=λ_=>False) (r:=ane) (size:=9) (vs:=[ai a.toArray]) (xs:=[a]) (len:=1) (parts:=#[(0,ai a.toArray)]) D D I I Z I I Z Z abi ⟨⟨by rw[<-l];rfl,I,M⟩,trivial⟩;refine⟨s,w3,by rw[<-l]at a1;exact a1,G.same (λx hx=>⟨IG,R⟩),?_⟩;have Ls:=S.trans (Sp.quiet G);have Y:=LN.sp Ls _ C;rcases a2 with⟨_,hx⟩ | ⟨am,k,tail,b1,b2,b3,b4,b5,b6,b7,b8⟩
  .cases hx
  have e:k=[a]:=by
   match k,b8 with
   | [c0],h=>rw[h.1.2.1]
   | _::_::_,h=>exact h.2.elim
  subst e;have P:LK w3 F' (LN F' (d+1) w3) [qi (d+1) c.root] s:=⟨by rw[b5];rfl,.inr ⟨am,_,b1,by rw[<-m];exact .inr J,b3,by rw[b5,aP];simp only[bf,fk,Bb,bD];rw[<-l];simp,by rw[b5];simp,λi aC r=>by
   have c:i=0:=by
    have:=(bd.1 r).1;simp only[bf]at this;omega
   subst c;simp only[cZ,cd]at r;subst r;have:jf (([a]:X (aJ)).flatten++tail) 9 0=a:=by
    unfold jf;rw[wB,fA,fk,Bb,bD,uM (by rw[<-l];simp),br (by rw[<-l];simp)]
   rw[this];exact Y⟩⟩
  refine(KU (d+1) P RD).mono ?_;rintro _ w4 ⟨⟨i,rfl,t,_⟩,L1⟩;refine⟨i,I,λx hx=>?_,⟨i,I,?_⟩,q (Ls.trans L1)⟩
  .simp only[aV]at hx;subst hx;have:=G.size;exact L1.o.block x J p
  simp only[bf]at t;omega
section
variable {ts:X Tk} (hE:pG ts)
def JX(d:Nat):qi d Jz<=1:=by
 cases d with
 | zero=>exact bh _
 | succ d=>rw[qi];simp[Jz,Nd.kids]
include hE
theorem KV{d:Nat}{N:Int->Sx->Nd×Sx}(q:Int)(h:∀k s,s.d=q->s.i<(Z8 ts)->s.fc=0->On ts s (N k s).2/\qi d (N k s).1+mu ts (N k s).2<=mu ts s+1):∀(f:Nat) (a:X Nd) (s:Sx),s.d=q->s.i<(Z8 ts)->(((gw ts N f a s).1.map (qi d)).sum)+mu ts (gw ts N f a s).2<=((a.map (qi d)).sum)+mu ts s
 | 0,_,_,_,_=>aX _
 | f+1,a,s,b,i=>by
  rw[gw];split
  .exact aX _
  rename_i w;obtain⟨c,e⟩:=cP w;have B:=hE.next i e;obtain⟨E,k⟩:=h (bR ts s gH:Nat) (bP s) b B c;have d:=KV q h f (a++[(N (bR ts s gH:Nat) (bP s)).1]) (N (bR ts s gH:Nat) (bP s)).2 (E.d.trans b) (E.lt B);rw[cX,vp]at d;simp only[cu,gQ,eU,kR,gP]at d;have g:mu ts s=(Z8 ts)-s.i:=by unfold mu;rw[K c]
  have j:mu ts (bP s)=(Z8 ts)-(s.i+1):=by unfold mu bP;rw[K c]
  omega
theorem acW{d:Nat}{N:Int->Sx->Nd×Sx}{n:Nb}{s:Sx}(hd:rX s.d)(i:s.i<Z8 ts)(b:∀k u,u.d=mZ s.d->u.i<(Z8 ts)->u.fc=0->On ts u (N k u).2/\qi d (N k u).1+mu ts (N k u).2<=mu ts u+1):qi (d+1) (jl ts N n s).1+mu ts (jl ts N n s).2<=mu ts s+1:=by
 unfold jl;dsimp only;have h:=mN hE (Z8 ts+1) n ⟨aM,aM,aM⟩ {s with d:=mZ s.d};generalize cW ts (Z8 ts+1) n ⟨aM,aM,aM⟩ {s with d:=mZ s.d}=C at*
 have a:=KV hE (d:=d) (mZ s.d) b (Z8 ts+1) [] C.2 h.d (h.lt i);generalize gw ts N (Z8 ts+1) [] C.2=K at*
 have c:mu ts (cA ts ⟨K.2.i,K.2.fc,K.2.fa,K.2.v,K.2.n,Ep K.2.d,K.2.m,K.2.a⟩ [125])<=mu ts K.2:=(dX hE [125]).mu;have e:mu ts C.2<=mu ts s:=h.mu;rw[qi];simp only[gQ,kR,bO]at a;show 1+((K.1.map (qi d)).sum)+mu ts (cA ts ⟨K.2.i,K.2.fc,K.2.fa,K.2.v,K.2.n,Ep K.2.d,K.2.m,K.2.a⟩ [125])<=_;omega
theorem xKM:∀(f:Nat) (d:Nat) (k:Int) (s:Sx),rX s.d->s.i<(Z8 ts)->qi d (fl ts f k s).1+mu ts (fl ts f k s).2<=mu ts s+1
 | 0,d,k,s,_,_=>by
  have:=JX d;show qi d Jz+mu ts s<=_;omega
 | f+1,0,k,s,hd,h=>by
  have:=(uw hE (f+1) k s hd).mu;show 0+_<=_;omega
 | f+1,d+1,k,s,hd,i=>by
  rw[fl];have h:=qD hE k s;split
  .have a:=(((h.trans (dX hE [45,62])).trans (nJ hE)).trans (dX hE [59])).mu;rw[qi];simp only[Nd.kids,gQ,kR];omega
  have a:=h.trans (dX hE [123]);have e:=acW hE (d:=d) (N:=fl ts f) (n:=(cy ts k s).1) (s:=cA ts (cy ts k s).2 [123]) (by rw[a.d];exact hd) (a.lt i) λb c hu u _=>⟨uw hE f b c D3,xKM f d b c D3 u⟩
  have g:=a.mu;omega
end
def aes(l:S):qi 15 (fg l).1.root<=16386:=by
 unfold fg;split
 .have:=JX 15;show qi 15 Jz<=_;omega
 rename_i h0;obtain⟨h,_,a,b⟩:=mP Z4;generalize (cQ l).1=t at*
 split
 .have:=JX 15;show qi 15 Jz<=_;omega
 have o:On t me (gK t (Z8 t+1) [] (cA t (cy t 1 (cA t me dB)).2 [123])).2:=(((dX h _).trans (qD h _ _)).trans (dX h _)).trans (Hb h _ _ _);have e:=acW h (d:=14) (N:=fl t 14) (n:=(cy t 1 (cA t me dB)).1) (s:=(gK t (Z8 t+1) [] (cA t (cy t 1 (cA t me dB)).2 [123])).2) (by rw[o.d];exact⟨Z,Z⟩) (o.lt (by show 0<Z8 t;omega)) λk c hu u _=>⟨uw h 14 k c D3,xKM h 14 14 k c D3 u⟩
 change qi 15 _+_<=_ at e;have m:=jL t (gK t (Z8 t+1) [] (cA t (cy t 1 (cA t me dB)).2 [123])).2;show qi 15 (jl t (fl t 14) (cy t 1 (cA t me dB)).1 (gK t (Z8 t+1) [] (cA t (cy t 1 (cA t me dB)).2 [123])).2).1<=_;omega
section
variable {w w':aw} {F:aK}
def YJ(a:X Nat)(s:Sl)(u:aw):Prop:=s.n=0∨∃g z e,g∈a/\s.a=Hg ⟨g,0,ZQ⟩/\aG u g e z/\s.n<=Z8 z
def agB{B:Nat}{s:Sl}{l:X (S)}(b:Own ju 1 9 B w F s l):∃a,(∀g,g∈a->B<=g/\g<w.heap.size)/\YJ a s w:=by
 rcases b with⟨rfl,rfl⟩ | ⟨g,c,tail,d,e,h,i,j,k,m,f⟩
 .exact⟨[],R,.inl I⟩
 refine⟨[g],by simp;exact⟨e,h.lt⟩,.inr ⟨g,_,_,.head _,d,h,?_⟩⟩;rw[aP,f.KY];omega
def YJ.keep{a:X Nat}{s:Sl}(h:YJ a s w)(k:∀g,g∈a->g<w.heap.size->w'.heap[g]? =w.heap[g]?):YJ a s w':=by
 rcases h with h | ⟨g,z,e,b,d,c,f⟩
 .exact .inl h
 exact .inr ⟨g,z,e,b,d,(k g b c.lt).trans c,f⟩
def YJ.store{c:X Nat}{s:Sl}(a:YJ c s w){g:Nat}{z b:aJ}{e:TypeId}(B:aG w g e z)(O:az [g] w w')(Q:aG w' g e b)(l:Z8 b=Z8 z):YJ c s w':=by
 rcases a with a | ⟨k,y,f,d,i,h,j⟩
 .exact .inl a
 by_cases hk:k=g
 .subst hk;have f:Z8 z=Z8 y:=by
   unfold aG at B h;rw[B]at h;simp only[cd,Obj.cells.injEq,List.toArray_inj]at h;simpa using bK Array.size h.1
  exact .inr ⟨k,b,e,d,i,Q,J⟩
 exact .inr ⟨k,y,f,d,i,(O.block k h.lt Mi).trans h,j⟩
def YJ.at{a:X Nat}{s:Sl}(h:YJ a s w){j:Nat}(i:(j:Int)<s.n):∃g z e,g∈a/\cM s (j:Int) 1 ⟨g,j,ZQ⟩/\aG w g e z/\j+1<=Z8 z:=by
 rcases h with h | ⟨g,z,e,b,c,d,f⟩
 .omega
 exact⟨g,z,e,b,⟨_,c,J,J,by rw[gW,aW,bO,qs]⟩,d,J⟩
def Si{t d c vs cs}(h:ChR t d w F c vs cs)(a:∀k,F k->k<w.heap.size->w'.heap[k]? =w.heap[k]?):ChR t d w' F c vs cs:=⟨h.vars.keep ec Z a,(ck t d).keep h.root a⟩
def TN{t d B c vs cs}(h:ChR t d w (Fr B) c vs cs):ChR t d w (λk=>B<=k/\k<w.heap.size) c vs cs:=⟨h.vars.inHeap ec Z,(ck t d).inHeap h.root⟩
def BN{t d c vs cs}(h:ChR t d w F c vs cs)(O:az [] w w'):ChR t d w' F c vs cs:=Si h λk _ b=>O.block k b R
def TH{d c vs cs}(h:ChR aF d w F c vs cs):ChR aM d w F c vs cs:=⟨h.vars.off λ_ _ _ h=>h,zi h.root⟩
def lreads_c(l:S)(W:Er w)(X:Tb w):aA ar 3 #[ae (T l)] w λe w'=>e=ao (ak aF)/\az [] w w':=by
 refine ret (asS ?_);obtain⟨hn,hz⟩:=PR l;refine(aiT w W X).mono ?_;rintro _ w0 ⟨rfl,h⟩;refine⟨_,I,(zE l hn J (W.only h) (X.only h)).mono ?_⟩;rintro _ w1 ⟨v,u,rfl,hC,K⟩;obtain⟨en,lv,mv,kids,rfl,_⟩:=hC.root;have o1:=h.cn K;refine⟨v,_,_,_,_,en,lv,mv,kids,_,_,_,I,λk0 k1 w2 fQ dL ki ik O=>(zE l hn J (W.only (o1.cn O)) (X.only (o1.cn O))).mono ?_⟩;rintro _ w3 ⟨bv,cc,rfl,i,M⟩;obtain⟨U,am,aS,G,rfl,_⟩:=i.root;have z1:=K.size;have z2:=O.size;have z3:=M.size;refine⟨bv,_,_,_,_,U,am,aS,G,_,_,_,I,M.same C,λk2 k3 w4 mE nT yw tD L=>(abu w4 l).mono ?_⟩;rintro _ w5 ⟨bV,ce,rfl,j,P⟩;obtain⟨V,aC,aT,E,rfl,_⟩:=j.root;have z4:=L.size;have z5:=P.size;refine⟨bV,_,_,_,_,V,aC,aT,E,_,_,_,I,P.same C,λk4 k5 w6 pV xA mo Ae N=>?_⟩;have z6:=N.size;have SH:qi 15 (oK l).root<=16386/\lF (oK l).root<=1048576:=by
  unfold oK;split
  .exact⟨aes l,J⟩
  decide
 obtain⟨SH,q⟩:=SH;generalize oK l=cC at*
 have r:=((O.cn M).cn L).cn (P.cn N);have H:=BN (TN hC) r;have d6:=BN (TN i) (L.cn (P.cn N));have Q:=BN (TN j) N;refine(acF (t:=aF) (TH H) (TH Q) (ChE.refl _ _ _)).mono ?_;rintro _ w7 ⟨rfl,g⟩;have z7:=g.size;refine⟨_,I,g.same C,(anc (BN H g) q).mono ?_⟩;rintro _ w8 ⟨s,rfl,hS,A⟩;have z8:=A.size;refine⟨s,I,A.same C,(af5 (BN (BN Q g) A) q).mono ?_⟩;rintro _ w9 ⟨t,rfl,Y,m⟩;have z9:=m.size;have o:=hS.keep (w':=w9) cx λk _ b=>m.block k b R;obtain⟨gs,p,p2⟩:=agB hS;refine⟨t,I,m.same C,(PS (o.slice cx) Y).mono ?_⟩;rintro _ dk ⟨rfl,y⟩;have EW:=y.size;have a:=(A.cn m).cn y;have s0:=o.slice cx;have n0:=s0.cap;have b0:=s0.big;refine⟨_,I,y.same C,λnv Z bY=>∃n:Nat,Z=(n:Int)/\nv+n=s.n/\az gs dk bY/\YJ gs s bY,s.n,⟨0,I,I,EC _ _,p2.keep λB D b=>(m.cn y).block B b R⟩,?_⟩;rintro nv _ dz ⟨n,rfl,co,f,xQ⟩;have CA:=f.size;refine⟨λb=>?_,λ_=>?_⟩
 .have b:=aO b;obtain⟨B,z,e,c,s,k,t⟩:=xQ.at b;have w:=p B c;refine⟨_,s,B,n,z,e,I,k,t,J,J,J,J,J,J,λT d F=>⟨nv-1,J,n+1,TE,J,f.trans d λx hx=>.inl (by rw[aV.1 hx];exact c),xQ.store k d F (aiG C)⟩⟩
 have kp:∀{s t d c v u},s<=w7.heap.size->ChR t d w6 (λk=>w0.heap.size<=k/\k<s) c v u->ChR t d dz (λk=>w0.heap.size<=k/\k<s) c v u:=fun{s t d c v u} hB D=>Si (BN (BN D g) a) λk hk b=>f.block k b λe=>by have:=p k e;omega
 have Ty:=kp J H;have z:=Si (BN (BN d6 g) a) λk hk b=>f.block k b λe=>by have:=p k e;omega
 have dO:=Si (BN (BN Q g) a) λk hk b=>f.block k b λe=>by have:=p k e;omega
 refine(afS Ty (λk hk=>ZD) J).mono ?_;rintro _ eM ⟨⟨Z,rfl,hi⟩,n⟩;have Tu:=n.size;have T:=Si z λk hk b=>n.block k b λe=>(by have:=hk.1;have:=e.2;omega)
 have el:=Si dO λk hk b=>n.block k b λe=>(by have:=hk.1;have:=e.2;omega)
 refine⟨Z,I,n.same (λx hx=>⟨Wq,λe=>by have:=e.2;simp only[aZ,bB,cE]at hx;omega⟩),(acF (t:=aF) (TH T) (TH el) (ChE.refl _ _ _)).mono ?_⟩;rintro _ fR ⟨rfl,eH⟩;refine⟨_,I,eH.same C,?_,?_⟩
 .simp[hi]
 have t:=h.size;have c:az [] w dk:=(((h.cn K).cn r).cn g).cn a;have d:az [] w dz:=c.trans f λx hx=>.inr (by have:=p x hx;omega);exact(((d.p0 (F:=λ_=>False)).trans n λk hk=>.inr Wm).only λk D=>D.elim).cn eH
end
end Go.Proofs.YtccbiehilmhodaaGreatDoor.Con
