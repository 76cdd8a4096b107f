import Derived.Test.YtdfibecibkijiaaGreatDoorQc7
set_option linter.defProp false
set_option linter.unusedSectionVars false
set_option linter.unusedSimpArgs false
set_option linter.unusedVariables false
set_option maxHeartbeats 4000000
set_option maxRecDepth 100000
open Bool renaming true->aF,false->aM
open Option renaming some->aN,none->Pw
open List renaming length->qj
open Decidable renaming decide->YR
open Go.Value renaming int->O,string->ab,pointer->ae,agg->ah,tuple->ai,bool->aj
open Go.IntKind renaming i64->U,wrap->au
open Go.Ending renaming returned->ak
open _root_.ByteArray renaming mk->ao
open _root_.Go.Proofs.Tryz renaming prog->aq
open Go.Instr renaming buildSlice->av
open Go renaming World->aw,Value->ay,Calls->aA
open Go.Kt renaming Only->az,SliceF->aB,Cells->aD,OnlyP->aE,Blk->aG
namespace Go.Proofs.YtdfibecibkijiaaGreatDoor.Con
open Go Go.RowKit Go.Kt Go.Kt.V Go.Proofs.YtdfibecibkijiaaGreatDoor.Vc
section
def DJ(b:Nat)(Q:A)(w:aw)(a:A)(c:aw):Prop:=aE (λk=>k=b∨Q k) w c/\∀k,a k->Q k∨w.heap.size<=k
def DJ.refl b Q w:DJ b Q w Q w:=⟨YW _ _,λ_ h=>.inl h⟩
def DJ.trans{b}{Q R S}{u v w}(h:DJ b Q u R v)(g:DJ b R v S w):DJ b Q u S w:=by
 refine⟨h.1.trans g.1 λk hk=>?_,λk hk=>?_⟩
 .rcases hk with hk | hk
  .exact .inl (.inl hk)
  exact(h.2 k hk).elim (λh=>.inl (.inr h)) .inr
 rcases g.2 k hk with hk | hk
 .exact h.2 k hk
 exact .inr (bB h.1.size hk)
def DJ.bU{b}{Q R}{u v w}(h:DJ b Q u R v)(O:az [] v w):DJ b Q u R w:=⟨h.1.bU O,h.2⟩
def DJ.of0{b}{Q R}{u v w}(O:az [] u v)(h:DJ b Q v R w):DJ b Q u R w:=⟨O.nP h.1,λk hk=>(h.2 k hk).imp id λh=>bB O.size h⟩
def SW{y}:∀{l:L Nd} {j:Nat},l[j]? =aN y->j5 (l.take j)+mL y<=j5 l
 | [],j,h=>Ux
 | x::l,0,h=>by
  rw[cQ,bP]at h;subst h;rw[cu,j5,j5];omega
 | x::l,j+1,h=>by
  rw[dI]at h;have:=SW h;rw[fF,j5,j5];omega
mutual
def PQ(s:L dC):∀(x:Nd) (a:Nat),qj (Mi s a x)<=mL x
 | .mk b l,a=>by
  have:=JI s l (a+1);have:=nf b.mv;rw[Mi,aP,xT,mL];unfold zl;omega
def JI(s:L dC):∀(l:L Nd) (a:Nat),qj (qp s a l)<=j5 l
 | [],a=>by rw[qp];exact bf _
 | x::l,a=>by
  have:=PQ s x a;have:=JI s l (a+iQ x);rw[qp,aP,j5];omega
end
section
variable {b:Nat} {F:A} {s:Sl} {xs:L dC}
def La.q3{w}{si sd sr}{ini dft}{ro}(h:La w b F s si sd sr xs ini dft ro):∀k,Q3 si sd sr k->b<k/\k<w.heap.size:=λk hk=>hk.elim (h.bi k) λhk=>hk.elim (h.bd k) (h.br k)
def agf(B:Fo xs)(m:qj xs<=64):∀(D:Nat) {w:aw} {G:A} {x:Nd} {j:aJ} {d sd sr:Sl} {i dft:L Int} {r:L Ro},nX aM D w G x j->(∀k,G k->k<b)->La w b F s d sd sr xs i dft r->
  mL x<=8388608->qj i+iQ x<=1000000->qj dft=(qj i)->qj r+mL x<=16777216->
  aA aq 35 #[ae (aN ⟨b,0,Pw⟩),ah j.toArray] w λe l=>e=ak (ai #[])/\∃g f h,La l b F s g f h xs (i++(Kw x).map λc=>n9 xs c.ini) (dft++(Kw x).map λc=>n9 xs c.dft) (r++Mi xs (qj i) x)/\DJ b (Q3 d sd sr) w (Q3 g f h) l
 | 0,_,_,_,_,_,_,_,_,_,_,a,_,_,_,_,_,_=>a.elim
 | D+1,w,G,.mk o C,j,d,sd,sr,i,dft,r,⟨en,lv,mv,kids,jh,⟨_,_,oW⟩,fN⟩,hG,Y,hz,hn,Be,aS=>by
  have hk:=fN.1;have oW:=oW.1;clear fN;dsimp only[Nd.kids,Nd.b]at hk jh oW;subst jh;rw[iQ]at hn;rw[mL]at hz aS;have B8:=hk.len;have yq:=oW.len;have bv:=qn C;have yV:=nf o.mv;have aT:zj o.mv<=zl o:=by unfold zl;omega
  refine ret (auQ ?_);intro k0 E fN dS V;have z0:=V.size;have Gx:=Y.lt;have hq:=Y.q3;have M:=Y.o0 V;have P:∀n,qO (n9 xs n):=λn=>by
   rcases blb xs n with a | ⟨c,a,b⟩
   .rw[a];exact⟨Z,Z⟩
   rw[a];exact⟨J,J⟩
  have Vb:d.n=qj i:=Y.i.len;have sw:∀{Q:A} {z v:aw} {bs:L Nat} {am:A},DJ b (Q3 d sd sr) E Q z->aE am z v->(∀k,am k->k=b∨Q k)->(∀k,k∈bs->k<E.heap.size/\w.heap.size<=k)->cj bs z v:=fun{Q z v bs am} p hO hP hb=>hO.same λx hx=>by
   have hx:=hb x hx;refine⟨by have:=p.1.size;omega,λa=>?_⟩;rcases hP x a with rfl | a
   .omega
   rcases p.2 x a with a | a
   .have:=hq x a;omega
   omega
  refine⟨d,Om M.blk 1 I,λw1 cr=>⟨λk=>k=b,I,d,Om (cr.blk M.blk X) 1 I,?_⟩⟩;have N:=M.o0 cr;have z1:=cr.size;have m1:DJ b (Q3 d sd sr) E (Q3 d sd sr) w1:=(DJ.refl _ _ _).bU cr;refine(Zc N.blk N.sp o.ini).mono ?_;rintro _ w2 ⟨rfl,R⟩;have aC:=N.o0 R;have m2:=m1.bU R;obtain⟨y,w3,p1,p2,K,w4,p3,p4,p5,p6,p7⟩:=aC.aes (P o.ini) J;have z2:=R.size;have z3:=p2.size;have z4:=p4.size;refine⟨_,I,R.same S,Uy R,y,w3,p1,p2.same S,Uy p2,K,w4,p3,sw (m2.bU p2) p4 (λk hk=>.inr (.inl hk)) S,λk hk W=>?_,b,1,_,_,I,p6,dz I,J,λw5 eJ wq w6 dV=>?_⟩
  .subst hk;exact p4.block _ W λe=>by have:=Y.bi _ e;omega
  have bV:=p7 w5 eJ wq;have z5:=eJ.size;have m5:DJ b (Q3 d sd sr) E (Q3 K sd sr) w5:=by
   refine m2.trans ⟨(p2.nP (p4.mono (G:=λk=>k=b∨Q3 d sd sr k) λk _ hk=>.inr (.inl hk))).trans (eJ.p (F:=λk=>k=b) X) λk hk=>.inl (.inl hk),λk hk=>?_⟩;rcases hk with hk | hk
   .exact(p5 k hk).imp .inl λa=>J
   exact .inl (.inr hk)
  have Qt:=bV.o0 dV;have z6:=dV.size;have m6:=m5.bU dV;refine⟨λk=>k=b,I,sd,Om Qt.blk 2 I,(Zc Qt.blk Qt.sp o.dft).mono ?_⟩;rintro _ w7 ⟨rfl,v⟩;have zF:=Qt.o0 v;have m7:=m6.bU v;obtain⟨y8,w8,r1,r2,n,w9,r3,r4,r5,r6,r7⟩:=zF.aet (P o.dft) J;have z7:=v.size;have z8:=r2.size;have z9:=r4.size;refine⟨_,I,v.same S,Uy v,y8,w8,r1,r2.same S,Uy r2,n,w9,r3,sw (m7.bU r2) r4 (λk hk=>.inr (.inr (.inl hk))) S,λk hk W=>?_,b,2,_,_,I,r6,dz I,J,λdq dN pK=>?_⟩
  .subst hk;exact r4.block _ W λe=>by have:=zF.bd _ e;omega
  have dO:=r7 dq dN pK;have KG:=dN.size;have el:DJ b (Q3 d sd sr) E (Q3 K n sr) dq:=by
   refine m7.trans ⟨(r2.nP (r4.mono (G:=λk=>k=b∨Q3 K sd sr k) λk _ hk=>.inr (.inr (.inl hk)))).trans (dN.p (F:=λk=>k=b) X) λk hk=>.inl (.inl hk),λk hk=>?_⟩;rcases hk with hk | hk | hk
   .exact .inl (.inl hk)
   .exact(r5 k hk).imp (λa=>.inr (.inl a)) λa=>J
   exact .inl (.inr (.inr hk))
  have co:∀{Q:A} {z:aw},DJ b (Q3 d sd sr) E Q z->¬Q k0:=λp e=>by
   rcases p.2 k0 e with a | a
   .have:=hq k0 a;omega
   omega
  have jG:∀{z:aw} {Q:A},DJ b (Q3 d sd sr) E Q z->aB (nX aM D) 9 z G kids C:=λp=>U6 (cG aM D) Z hk (V.nP p.1) λk ce _=>by
   have:=hG k ce;exact λa=>a.elim J λa=>by have:=hq k a;omega
  have Vp:∀{z:aw} {Q:A},DJ b (Q3 d sd sr) E Q z->aB (L9 aM) 13 z G mv o.mv:=λp=>U6 (nJ aM) Z oW (V.nP p.1) λk ce _=>by
   have:=hG k ce;exact λa=>a.elim J λa=>by have:=hq k a;omega
  refine⟨λkv cC z=>∃(bY:Nat) (q:Sl),cC=(bY:Int)/\kv+bY=qj o.mv/\bY<=qj o.mv/\La z b F s K n q xs (i++[n9 xs o.ini]) (dft++[n9 xs o.dft]) (r++He xs (qj i) 0 (o.mv.take bY))/\DJ b (Q3 d sd sr) E (Q3 K n q) z,qj o.mv,⟨0,sr,I,J,bf _,by rw[cu,He,bC];exact dO,el⟩,?_⟩;rintro kv _ dB ⟨bY,q,rfl,nQ,hj,C7,cc⟩;have GD:=cc.1.size;refine⟨λhc=>?_,λhc=>?_⟩
  .have hc:=u hc;obtain⟨ad,p,ds,a1,a2,a3,a4,a5,a6⟩:=(Vp cc).get (be bY) J;rw[ba]at a2;obtain⟨gc,tU,tg,rfl,f6,Ce,oJ⟩:=a6;obtain⟨sl,rfl⟩:=fD f6;have oJ:=oJ.1;have yU:=oJ.len;have f7:Hj p<=zj o.mv:=qs (bp a2);have gO:=xU p.tg;unfold Hj at f7;refine⟨ad,a1,_,_,_,_,_,_,_,_,sl,_,tU,tg,_,a5,λk9 qU y gG gE f8 f5 eV=>?_⟩;have gT:=eV.size;refine⟨λtS cC fd Vn k2 ev wt eQ dm z=>∃t:Nat,cC=(t:Int)/\fd=(qj i:Int)/\Vn=(bY:Int)/\k2=p.k/\ev=T p.ev/\wt=p.wt/\dm=0/\tS+t=qj p.tg/\t<=qj p.tg/\cY y.heap.size z eQ ((p.tg.take t).map (n9 xs))/\az [] dB z/\y.heap.size<=z.heap.size,qj p.tg,⟨0,I,by rw[Vb],I,I,I,I,I,J,bf _,Yb _ _ _ _ _ _,eV,H _⟩,?_⟩;rintro tS _ _ _ _ _ _ eQ _ eY ⟨t,rfl,rfl,rfl,rfl,rfl,rfl,rfl,Cj,ht,hT,dE,Vl⟩;have lA:∀k,jK eQ k->y.heap.size<=k:=λk e=>(hT.blk e).1;have c:=C7.o0 dE;have s:qj ((p.tg.take t).map (n9 xs))=t:=Y7
   refine⟨λiG=>?_,λiG=>?_⟩
   .have iG:=u iG;obtain⟨yI,x2,g9,b1,b2,b3,b4,b5,b6⟩:=(Wg dG Z oJ dE X).get (be t) J;rw[ba]at b2;unfold nU at b6;subst b6;refine⟨yI,b1,_,b5,λfV F=>⟨λk=>k<y.heap.size,f5,?_⟩⟩;have ip:=F.size;have FY:=c.o0 F;refine(Zc FY.blk FY.sp x2).mono ?_;rintro _ fT ⟨rfl,a⟩;have iD:=a.size;have T:cY y.heap.size fT eQ _:=(hT.keep bO λk _ W=>F.block k W X).keep bO λk _ W=>a.block k W X;obtain⟨y2,iE,c1,b,l2,gL,c3,c4,q,c6⟩:=UU T J (P x2) (by rw[s];omega);have iF:=b.size;have iN:=q.size;have g8:az [] dB gL:=((((dE.bU F).bU a).bU b).nP (q.mono (G:=λk=>dB.heap.size<=k) λk _ e=>PS)).only λk hk=>hk;refine⟨_,I,a.same S,Uy a,y2,iE,c1,b.same S,Uy b,l2,gL,c3,q.same λx hx=>?_,λk hk _=>q.block k J λe=>PS,λjH kg=>⟨tS-1,J,t+1,Ye,I,I,I,I,I,I,J,J,?_,g8.trans kg λx hx=>.inr CQ,by have:=kg.size;omega⟩⟩
    .simp only[bh,bI,cO]at hx;rcases hx with rfl | rfl | rfl
     .exact⟨J,λe=>LV⟩
     .exact⟨J,λe=>LV⟩
     exact⟨J,λe=>LV⟩
    rw[bn,b2,cA];exact c4.keep bO λk hk W=>kg.block k W Hl
   have iG:=aU iG;have mt:t=qj p.tg:=J
   subst mt;rw[bm (H _)]at hT s;rw[Vb];refine(ajn c.blk c.sp B J (hT.slice bO) (by rw[s];omega) (a:=qj i) J).mono ?_;rintro _ kf ⟨rfl,ku⟩;have mK:=ku.size;refine⟨_,I,ku.same S,λj8 lc=>⟨λk=>k=b,I,?_⟩⟩;have nO:=lc.size;have lE:az [] dB j8:=(dE.bU ku).trans lc λx hx=>.inr CQ;have iS:=C7.o0 lE;have T:cY y.heap.size j8 eQ _:=(hT.keep bO λk _ W=>ku.block k W X).keep bO λk hk W=>lc.block k W Hl;obtain⟨y3,mB,d1,d2,q',oH,d3,d4,d5,d6,d7⟩:=iS.aeu (x:=LJ xs (qj i) bY p) (T.slice bO) (T.roC λoR hg=>.inr ⟨(T.blk hg).1,hg⟩) (λk hk=>by
    have hk:=hk.resolve_left id;exact⟨J,λe=>by have:=C7.bi k e;omega,λe=>by have:=C7.bd k e;omega,λe=>by have:=C7.br k e;omega⟩) (by rw[aP,xT,ci];omega)
   have oF:=d2.size;have oN:=d4.size;refine⟨q,Om iS.blk 3 I,y3,mB,d1,d2.same S,Uy d2,q',oH,d3,d4.same λx hx=>?_,λk hk W=>?_,b,3,_,_,I,d6,dz I,J,J,J,λsM uR lT=>⟨kv-1,J,bY+1,q',Ye,J,J,?_,?_⟩⟩
   .simp only[bh,bI,cO]at hx;rcases hx with rfl | rfl | rfl
    .exact⟨J,λe=>co cc (.inr (.inr e))⟩
    .exact⟨J,λe=>Nu⟩
    exact⟨J,λe=>Nu⟩
   .subst hk;exact d4.block _ W λe=>Nu
   .have e:o.mv.take (bY+1)=o.mv.take bY++[p]:=HG
    have a:qj (o.mv.take bY)=bY:=Uq
    rw[e,E4,a,bR,<-bq];exact d7 sM uR lT
   refine(cc.bU lE).trans ⟨(d2.nP (d4.mono (G:=λk=>k=b∨Q3 K n q k) λk _ hk=>.inr (.inr (.inr hk)))).trans (uR.p (F:=λk=>k=b) X) λk hk=>.inl (.inl hk),λk hk=>?_⟩;rcases hk with hk | hk | hk
   .exact .inl (.inl hk)
   .exact .inl (.inr (.inl hk))
   exact(d5 k hk).imp (λa=>.inr (.inr a)) λa=>J
  have hc:=aU hc;have me:bY=qj o.mv:=J
  subst me;rw[bm (H _)]at C7;clear nQ;refine⟨λkv cC z=>∃(bY:Nat) (qi qd qr:Sl),cC=(bY:Int)/\kv+bY=qj C/\bY<=qj C/\La z b F s qi qd qr xs (i++(n9 xs o.ini::(E3 (C.take bY)).map λc=>n9 xs c.ini)) (dft++(n9 xs o.dft::(E3 (C.take bY)).map λc=>n9 xs c.dft)) (r++(He xs (qj i) 0 o.mv++qp xs (qj i+1) (C.take bY)))/\DJ b (Q3 d sd sr) E (Q3 qi qd qr) z,qj C,⟨0,K,n,q,I,J,bf _,by rw[cu,E3,qp,bC];exact C7,cc⟩,?_⟩;rintro kv _ qK ⟨bY,qi,qd,qr,rfl,nQ,hj,t,a⟩;have pi:=a.1.size;refine⟨λT=>?_,λT=>?_⟩
  .have T:=u T;obtain⟨ad,y,ds,F,a2,a3,a4,a5,q⟩:=(jG a).get (be bY) J;rw[ba]at a2;have s:=q;obtain⟨b,rfl⟩:∃b,D=b+1:=by
    cases D with
    | zero=>exact q.elim
    | succ b=>exact⟨b,I⟩
   obtain⟨vT,vU,rG,ju,rfl,_⟩:=s;have ru:=mH a2;have As:=SW a2;refine⟨ad,F,_,_,_,_,vT,vU,rG,ju,_,a5,λOb pI uP rx sU=>?_⟩;have AC:=sU.size;have rg:=t.o0 sU;have Qd:qj (i++(n9 xs o.ini::(E3 (C.take bY)).map λc=>n9 xs c.ini))=qj i+1+dJ (C.take bY):=by
    rw[aP,aZ,bH,AA];omega
   have tO:qj (dft++(n9 xs o.dft::(E3 (C.take bY)).map λc=>n9 xs c.dft))=qj dft+1+dJ (C.take bY):=by
    rw[aP,aZ,bH,AA];omega
   have Vy:qj (r++(He xs (qj i) 0 o.mv++qp xs (qj i+1) (C.take bY)))<=qj r+(zl o+j5 (C.take bY)):=by
    have:=JI xs (C.take bY) (qj i+1);rw[aP,aP,xT];omega
   refine(agf B m (b+1) ((cG aM (b+1)).keep q λk _ W=>sU.block k W X) hG rg J (by rw[Qd];omega) (by rw[Qd,tO];omega) J).mono ?_;rintro _ ry ⟨rfl,ti,td,tr,pm,pP⟩;have AS:=pP.1.size;have wd:=rg.q3;have ut:=co a;refine⟨I,pP.1.same λx hx=>?_,kv-1,J,bY+1,ti,td,tr,Ye,J,J,?_,(a.bU sU).trans pP⟩
   .simp only[bh,bI,cO]at hx;rcases hx with rfl | rfl
    .exact⟨J,λc=>c.elim J ut⟩
    exact⟨rx,λc=>c.elim J λc=>by have:=t.q3 _ c;omega⟩
   have e:C.take (bY+1)=C.take bY++[y]:=HG
   rw[Qd]at pm;rw[e,RJ,E3,E3,bC,ahI,qp,qp,bC,cA,cA,<-bq (He xs (qj i) 0 o.mv),<-bq r];rw[bq,bq,cb,cb]at pm;exact pm
  have T:=aU T;have me:bY=qj C:=J
  subst me;rw[bm (H _)]at t;refine⟨I,qi,qd,qr,?_,DJ.of0 V a⟩;rw[Kw,Mi,cf,cf];exact t
end
structure PlR (w:aw) (F:A) (s si sd sr:Sl) (p:Pl):Prop where
 sp:aB oV 5 w F s p.sp
 ini:aB rInt 1 w F si p.ini
 dft:aB rInt 1 w F sd p.dft
 ro:aB rRo 7 w F sr p.ro
def PlR.o0{w w'}{F}{s si sd sr}{p}(h:PlR w F s si sd sr p)(O:az [] w w'):PlR w' F s si sd sr p:=
 ⟨Wg dj Z h.sp O X,Wg bO Z h.ini O X,Wg bO Z h.dft O X,Wg jp Z h.ro O X⟩
def ab3{c}(h:(kU c).1=0):kU c=(0,0):=by
 obtain⟨a,b⟩:=vJ h;unfold kU;rw[R (λe=>e a),b];rfl
structure PlO (w0 w:aw) (s si sd sr:Sl) (p:Pl):Prop where
 sp:UX w (λk=>w0.heap.size<=k) 146 5 s
 ro:UX w (λk=>w0.heap.size<=k) 84 7 sr
 own:∃B,w0.heap.size<=B/\cY B w si p.ini/\cY B w sd p.dft
 ap:∀k,jK si k->¬jK sd k
def adY{w:aw}{F}{D}{c}{vs}{cs}(hx:ChR aM (D+1) w F c vs cs)(f:HX c)(g:oq c.vars+mL c.root<=8388608)(E:Er w)(T:Tb w):
  aA aq 6 #[ah (vs.v::cs).toArray] w λe a=>(∃s i sd sr,e=ak (ai #[ah #[s.v,i.v,sd.v,sr.v],ah #[O U (kU c).1,O U (kU c).2]])/\((kU c).1=0->PlR a (λk=>w.heap.size<=k) s i sd sr (my c)/\PlO w a s i sd sr (my c))/\((kU c).1≠0->s=Sl.nil/\i=Sl.nil/\sd=Sl.nil/\sr=Sl.nil))/\az [] w a:=by
 obtain⟨H,Y,mv,kids,m,_⟩:=hx.root;subst m;refine gX (auJ ?_);intro L M R w0 N B W K rF sR n;have z0:=n.size;have keep:∀{u:aw},az [] w u->ChR aM (D+1) u F c vs _:=λd=>⟨hx.vars.keep ft Z λk _ b=>d.block k b X,(cG aM _).keep hx.root λk _ b=>d.block k b X⟩
 refine(At6 (keep n) f g (E.only n) (T.only n)).mono ?_;rintro _ w1 ⟨rfl,r⟩;have z1:=r.size;have o:=n.bU r;refine⟨_,_,I,r.same S,λhc k3 w2 zE uQ P p q t v y z=>?_,λhc V j l wx C sP A Q=>?_⟩
 .have hc:(kU c).1≠0:=Yc
  refine⟨λk=>k=k3,I,λh=>y h,λh=>z h,λs e=>⟨⟨Sl.nil,Sl.nil,Sl.nil,Sl.nil,I,λh=>absurd h hc,λ_=>⟨I,I,I,I⟩⟩,(o.bU P).trans e λx hx=>.inr Ua⟩⟩
 have hc:=Yc
 have hp:=(vJ hc).1;have aS:=BD hp;have o4:=o.bU Q;refine(X7 (keep o4) f g (E.only o4) (T.only o4)).mono ?_;rintro _ w5 ⟨⟨s,rfl,O,_⟩,eJ⟩;have hS:=O hp;have z5:=eJ.size;refine⟨s,_,I,eJ.same S,λw6 U Qi p q t v=>?_⟩;have z6:=U.size;have o6:=(o4.bU eJ).trans U λx hx=>.inr Ua;have aC:=
  (cG aM _).keep ((cG aM _).mono ((cG aM _).inHeap hx.root) λk hk=>hk.2) λk _ b=>o6.block k b X
 have TI:aB oV 5 w6 (λk=>l.heap.size<=k/\k<w5.heap.size) s (eI c):=Wg dj Z ((WV dj (hS.slice dj) Z).mono dj λk hk=>⟨(hk.1.resolve_left id).1,hk.2⟩) U λk hk _ hm=>by simp at hm;omega
 have e:∀k,¬Q3 Sl.nil Sl.nil Sl.nil k:=λk hk=>by rcases hk with hk | hk | hk<;>cases hk
 have am:La w6 j _ s Sl.nil Sl.nil Sl.nil _ [] [] []:=⟨⟨TI,λk hk=>⟨J,J,e k⟩,Yb _ _ _ _ _ _,Yb _ _ _ _ _ _,Yb _ _ _ _ _ _,λk h=>Ue,λk h=>Ue⟩,Qi⟩
 have fi:qj (eI c)=iQ c.root:=by unfold eI;rw[nB]
 refine(agf (Dw c) J (D+1) aC (λk hk=>J) am J PF I PF).mono ?_;rintro _ w7 ⟨rfl,i,sd,sr,F,m7⟩;refine⟨I,m7.1.same λx hx=>?_,s,i,sd,sr,F.blk,λw8 fK yW=>⟨⟨s,i,sd,sr,by rw[ab3 hc],λ_=>⟨?_,?_⟩,λh=>absurd hc h⟩,?_⟩⟩
 .simp at hx;refine⟨J,λh=>h.elim J (e x)⟩
 .have kp:=λk O h=>fK.block k O h;refine⟨(F.sp.keep dj Z λk hk b=>kp k b S).mono dj λk hk=>J,((F.i.slice bO).keep bO Z λk hk b=>kp k b ?_).mono bO λk hk=>?_,((F.d.slice bO).keep bO Z λk hk b=>kp k b ?_).mono bO λk hk=>?_,((F.r.slice jp).keep jp Z λk hk b=>kp k b ?_).mono jp λk hk=>?_⟩
  .have:=hk.resolve_left id;simp;omega
  .have:=hk.resolve_left id;omega
  .have:=hk.resolve_left id;simp;omega
  .have:=hk.resolve_left id;omega
  .rcases hk with hk | hk
   .have:=hk.1;simp;omega
   simp;omega
  rcases hk with hk | hk
  .have:=hk.1;omega
  omega
 .have kp:=λk O G=>fK.block k O G;have hR:UX w5 (λk=>l.heap.size<=k/\k<w5.heap.size) 146 5 s:=hS.roC λD x=>hS.blk x;refine⟨(((hR.keep λk hk c=>U.block k c S).keep λk hk c=>m7.1.block k c λh=>h.elim J (e k)).keep λk hk c=>kp k c S).imp λk hk _=>J,((F.r.roC λD x=>F.br D x).keep λk hk c=>kp k c S).imp λk hk _=>J,⟨j+1,J,F.i.keep bO λk hk c=>kp k c ?_,F.d.keep bO λk hk c=>kp k c ?_⟩,λk hk=>(F.ap k hk).1⟩
  .have:=hk.resolve_left id;simp;omega
  have:=hk.resolve_left id;simp;omega
 refine((o6.nP (m7.1.mono (G:=λk=>w.heap.size<=k) λk _ hk=>hk.elim J λh=>absurd h (e k))).only λk hk=>hk).trans fK λx hx=>.inr Ua
def Zf{w}{F}{D}{c}{vs}{cs}(x:ChR aM (D+1) w F c vs cs)(n:HX c)(g:oq c.vars+mL c.root<=8388608)(E:Er w)(T:Tb w):
  aA aq 6 #[ah (vs.v::cs).toArray] w λe a=>(∃s i sd sr,e=ak (ai #[ah #[s.v,i.v,sd.v,sr.v],ah #[O U (kU c).1,O U (kU c).2]])/\((kU c).1=0->PlR a (λk=>w.heap.size<=k) s i sd sr (my c)))/\az [] w a:=
 (adY x n g E T).mono λ_ _ ⟨⟨s,i,sd,sr,b,d,_⟩,h⟩=>⟨⟨s,i,sd,sr,b,λf=>(d f).1⟩,h⟩
end
structure ClI (w:aw) (S:A) (VD:FuncId) (cap:aJ) (l:List Int) (p:Int->Bool):Prop where
 en:∀(args:Array ay) (w:aw),(callFunc VD args).run aq w=.ok (.enter VD args) w
 call:∀x,x∈l->∀u,aE S w u->aA aq VD ((O U x::cap):aJ).toArray u λe u'=>e=ak (aj (p x))/\az [] u u'
section
variable {w:aw} {s:Sl} {l:L Int} {B VD:Nat} {cap:aJ} {p:Int->M}
def Zg{S F:A}(g:aB rInt 1 w F s l)(r:qj l<=2000000)(o:∀k,F k->S k)(d:ClI w (λ_=>False) VD cap l p){f:OV}(b:f.v=.func (.func VD) #[] cap.toArray):
  aA aq 95 #[s.v,f.v] w λe m=>(∃i:Int,e=ak (O U i)/\((i= -1/\∀x,x∈l->p x=aM)∨∃n:Nat,i=(n:Int)/\n<qj l/\(l.take n).filter (λx=>!p x)=l.take n/\∀x,l[n]? =aN x->p x=aF))/\az [] w m:=by
 refine gX (Xb _ _ _ _ ?_);have t:=g.len;refine⟨λv i c=>∃j:Nat,i=(j:Int)/\v+j=qj l/\j<=qj l/\(∀x,x∈l.take j->p x=aM)/\az [] w c,qj l,⟨0,I,J,bf _,X,Ib _ _⟩,?_⟩;rintro v _ c ⟨j,rfl,Q,q,a,h⟩;refine⟨λN=>?_,λN=>?_⟩
 .have N:=u N;have mV:j<qj l:=J
  obtain⟨ad,f,k⟩:=gW (kI g h) (aX mV);refine⟨ad,f,_,k,VD,[],cap,b,d.en,(d.call _ (gU mV) c h.p0).mono ?_⟩;rintro _ p ⟨rfl,Y⟩;have S:l.take (j+1)=l.take j++[l[j]]:=Rw
  refine⟨_,I,λn=>⟨⟨_,I,.inr ⟨j,I,mV,?_,λx e=>?_⟩⟩,h.bU Y⟩,λb=>⟨v-1,J,j+1,Ye,J,J,λx e=>?_,h.bU Y⟩⟩
  .rw[List.filter_eq_self];intro x e;rw[a x e];rfl
  .rw[aX mV]at e;injection e with e;rw[<-e];exact n
  rw[S,bQ,aV]at e;rcases e with e | rfl
  .exact a x e
  exact b
 have N:=aU N;rw[bm J]at a;exact⟨⟨-1,I,.inl ⟨I,a⟩⟩,h⟩
def DK(g:cY B w s l)(A:qj l<=2000000)(d:ClI w (λk=>s.a=aN ⟨k,0,Pw⟩) VD cap l p){f:OV}(o:f.v=.func (.func VD) #[] cap.toArray):
  aA aq 50 #[s.v,f.v] w λe q=>∃j:Sl,e=ak j.v/\j.a=s.a/\j.c=s.c/\cY B q j (l.filter λx=>!p x)/\aE (λk=>s.a=aN ⟨k,0,Pw⟩) w q:=by
 refine gX (am7 ?_);have M:=g.len;have D:=g.cap;refine(Zg (S:=λ_=>True) g.sl A (λ_ _=>trivial) ⟨d.en,λx m c z=>d.call x m c (z.mono λk _ y=>y.elim)⟩ o).mono ?_;rintro _ K ⟨⟨i,rfl,h⟩,r⟩;have C:cY B K s l:=g.keep bO λk _ W=>r.block k W X;refine⟨i,I,λh1=>?_,λh1=>?_⟩
 .have h1:i= -1:=Gb
  rcases h with⟨_,h⟩ | ⟨n,rfl,_⟩
  .have:l.filter (λx=>!p x)=l:=by
    rw[List.filter_eq_self];intro x m;rw[h x m];rfl
   rw[this];exact⟨s,I,I,I,C,r.p0⟩
  omega
 have h1:i≠ -1:=Gb
 rcases h with⟨h,_⟩ | ⟨n,rfl,N,f,e⟩
 .exact absurd h h1
 rw[eS (x:=(n:Int)+1) J J];refine⟨λR i S c=>∃(a b:Nat) (Q:L Int),i=(a:Int)/\S=(b:Int)/\a<b/\b<=qj l/\R=(qj l)-b/\qj Q=qj l/\Q.take a=(l.take b).filter (λx=>!p x)/\Q.drop b=l.drop b/\cY B c s Q/\aE (λk=>s.a=aN ⟨k,0,Pw⟩) w c,(qj l)-(n+1),⟨n,n+1,l,I,J,J,J,I,I,?_,I,C,r.p0⟩,?_⟩
 .have:l.take (n+1)=l.take n++[l[n]]:=by rw[bn,aX N];rfl
  rw[this,fh,f];simp[e _ (aX N)]
 rintro R _ _ w2 ⟨a,b,Q,rfl,rfl,am,Gx,rfl,VU,T,V,sJ,cP⟩;refine⟨λY=>?_,λY=>?_⟩
 .have Y:(b:Int)<s.n:=u Y;have oI:b<qj l:=J
  rw[eS (x:=(b:Int)+1) J J];have P:Q[b]? =aN l[b]:=by
   have:=bN List.head? V;rw[Rs,Rs,aX oI]at this;exact this
  have lS:l.take (b+1)=l.take b++[l[b]]:=by rw[bn,aX oI];rfl
  have aC:Q.drop (b+1)=l.drop (b+1):=by
   have:=bN (List.drop 1) V;simpa[jI]using this
  obtain⟨ad,a1,a2⟩:=gW sJ.sl P;obtain⟨cs,NU⟩:=sJ.sl.mem (bp P);refine⟨λi1 c=>∃(v:Nat) (t:L Int),i1=(v:Int)/\v<b+1/\qj t=qj l/\t.take v=(l.take (b+1)).filter (λx=>!p x)/\t.drop (b+1)=l.drop (b+1)/\cY B c s t/\aE (λk=>s.a=aN ⟨k,0,Pw⟩) w c,?_,ad,a1,_,a2,VD,[],cap,o,d.en,(d.call _ (gU oI) w2 cP).mono ?_⟩
  .rintro _ w ⟨v,t,rfl,a,k,q3,n,p,s⟩;exact⟨(qj l)-(b+1),J,v,b+1,t,I,J,a,J,I,k,q3,n,p,s⟩
  rintro _ w5 ⟨rfl,eJ⟩;have aS:cY B w5 s Q:=sJ.keep bO λk _ W=>eJ.block k W X;have B9:=cP.bU eJ;refine⟨_,I,λw=>?_,λw=>?_⟩
  .have w:p l[b]=aM:=by simpa using w
   obtain⟨aT,cells,p1,p2,p3,p4,p5⟩:=Own.store (x:=l[b]) (n:=a) (vs:=[O U l[b]]) (G:=λ_=>False) bO aS J I ⟨I,NU.2⟩ (λk hk _=>hk.elim) Z;refine⟨_,p2,aT,a*1,cells,_,I,p3,p4,λw6 dV B=>?_⟩;rw[eS (x:=(a:Int)+1) J J];refine⟨a+1,Q.set a l[b],J,J,by rw[wz];exact VU,?_,?_,p5 w6 dV B,B9.trans (dV.p (F:=λk=>s.a=aN ⟨k,0,Pw⟩) λk hk=>.inl (by simp only[aV]at hk;rw[hk];exact p1)) λk hk=>.inl hk⟩
   .rw[bn,Ko (H _),T,sY J,lS,fh];simp[w]
   rw[List.drop_set_of_lt J];exact aC
  have w:p l[b]=aF:=by simpa using w
  refine⟨a,Q,I,J,VU,?_,aC,aS,B9⟩;rw[lS,fh,T];simp[w]
 have Y:¬(b:Int)<s.n:=aU Y;have B:b=qj l:=J
 subst B;rw[bm (H _)]at T;obtain⟨O,U,x,p,k3,G⟩:=Own.clear (P:=aq) (t:=31) (ty:=0) (i:=a) bO Z E (λw=>Tryz.zeroValue3 w) (by intro v n;simp[Value.cells]at n;rcases n with rfl<;>rfl) I sJ J;refine⟨a,⟨I,J,D⟩,O,x,a,⟨I,J⟩,_,I,?_,?_,by rw[<-T];exact G,cP.trans (k3.p (F:=λk=>s.a=aN ⟨k,0,Pw⟩) λk hk=>.inl (by simp only[aV]at hk;rw[hk];exact p)) λk hk=>.inl hk⟩
 .simp only[Sl.cut];split
  .rfl
  rw[p];rfl
 exact pM _
end
def agv(x:L dC)(a b:Int):Pf x a b=rX x a b:=by rw[bK,AK,Ax]
def ap1{w:aw}{s:Sl}{l:L Int}{V:Nat}{cap:aJ}{p:Int->M}{F:A}(j:aB rInt 1 w F s l)(g:qj l<=2000000)(c:ClI w (λ_=>False) V cap l p){f:OV}(d:f.v=.func (.func V) #[] cap.toArray):
  aA aq 47 #[s.v,f.v] w λe m=>e=ak (aj (l.any p))/\az [] w m:=by
 refine ret (Xa _ _ _ _ ?_);refine(Zg (S:=λ_=>True) j g (λ_ _=>trivial) c d).mono ?_;rintro _ q ⟨⟨k,rfl,i⟩,O⟩;refine⟨k,I,?_,O⟩;congr 1;rcases i with⟨rfl,a⟩ | ⟨n,rfl,h,o,b⟩
 .rw[bD J];symm;rw[eF];intro e;obtain⟨x,f,p⟩:=gr.1 e;rw[a x f]at p;cases p
 rw[bG J];exact(gr.2 ⟨l[n],gU h,b _ (aX h)⟩).symm
def tst(w:aw)(s i sd sr:Sl):aA aq 59 #[ah #[s.v,i.v,sd.v,sr.v],Sl.nil.v] w λe f=>(∃(b:Nat) (v x:Option Nat),e=ak (ae (aN ⟨b,0,Pw⟩))/\w.heap.size<=b/\b<f.heap.size/\aG f b 117 [s.v,i.v,sd.v,sr.v,.map v,.map x])/\az [] w f:=by
 refine gX (auU ?_);intro z h N y n;obtain⟨l,_,a⟩:=X1 (P:=aq) (mty:=115) (kv:=kS) (g:=gS) h;have D:=a.size;refine⟨_,_,l,a.same S,?_⟩;obtain⟨m,_,c⟩:=X1 (P:=aq) (mty:=111) (kv:=kS) (g:=gS) (h.alloc (.map #[] 0));have E:=c.size;refine⟨_,_,m,c.same S,λt j A r Z=>?_⟩;have F:=Z.size;have C:=n.size;refine⟨λk q d=>q=0/\d=j,0,⟨I,I⟩,?_⟩;rintro k _ d ⟨rfl,p⟩;obtain rfl:j=d:=p.symm;refine⟨λo=>absurd (u o) (by show ¬(0:Int)<((0:Nat):Int);omega),λ_ B _=>⟨⟨t,_,_,I,J,r,B⟩,((n.bU a).bU c).bU Z⟩⟩
section
variable {w:aw} {F G:A} {s si sd sr sa:Sl} {p:Pl} {act:L Int} {b:Nat} {ty:TypeId}
def A5{r:L Ro}(h:aB rRo 7 w F sr r){i:Nat}{x:Ro}(a:r[i]? =aN x):∃ad t,cK sr (i:Int) 7 ad/\aD w ad [O U x.src,O U x.slot,O U x.k,ab (T x.ev),O U x.wt,t.v,O U x.dom]/\aB rInt 1 w F t x.tg:=by
 have W:=(bc.1 a).1;have l:=h.len;obtain⟨ad,y,s,b,g,e,f,c,t,rfl,d,j⟩:=h.get (be i) J;rw[ba,a]at g;injection g with g;subst g;exact⟨ad,t,b,c,d⟩
def ahO{A C E G H:ay}{o:L Ro}(B:aG w b ty [A,C,E,sr.v,G,H])(h:aB rRo 7 w F sr o)(k:Int):aA aq 60 #[ae (aN ⟨b,0,Pw⟩),O U k] w λe m=>
  (∃(a f i:Int) (ev:D) (wt:Int) (t:Sl) (d:Int) (s:M),e=ak (ai #[ah #[O U a,O U f,O U i,ab ev,O U wt,t.v,O U d],aj s])/\(s=aF->∃(n:Nat) (r:Ro),k=n/\o[n]? =aN r/\0<=r.dom/\d=r.dom/\aB rInt 1 m F t r.tg)/\(s=aM->∀(n:Nat) (r:Ro),k=n->o[n]? =aN r->r.dom<0))/\az [] w m:=by
 refine gX (auV ?_);intro z p K S c;have Q:=c.size;have g:=c.blk B X;have v:aB rRo 7 p F sr o:=Wg jp Z h c X;have P:=v.len;have j:∀{l:aw},az [z] p l->az [] w l:=λy=>c.trans y λx hx=>.inr CQ;by_cases N:0<=k/\k<qj o
 .obtain⟨n,rfl⟩:∃n:Nat,k=n:=⟨k.toNat,J⟩
  obtain⟨r,q⟩:∃r,o[n]? =aN r:=⟨_,aX J⟩
  obtain⟨ad,t,a,f,i⟩:=A5 ((WV jp h Z).keep jp Z λk _ W=>c.block k W X) q;have x:YR ((n:Int)<0)=aM:=bD J;have F:YR ((n:Int)>=((sr.n:Nat):Int))=aM:=bD J;refine⟨sr,λ_=>Om g 3 I,sr,λ_=>Om g 3 I,ad,λ_=>a,r.dom,λ_=>f.dP 6 _ I,λb Y R=>⟨⟨0,0,0,_,0,Sl.nil,0,aM,I,λh=>Ue,λ_ T V hm e=>?_⟩,j R⟩,λb=>⟨sr,Om g 3 I,ad,a,_,_,_,_,_,t,_,f,λw2 w=>⟨⟨_,_,_,_,_,t,_,aF,I,λ_=>⟨n,r,I,q,?_,I,?_⟩,λh=>Ue⟩,j w⟩⟩⟩
  .have:T=n:=J
   subst this;rw[q,bP]at e;subst e;rw[x,F,kz,kz]at b;exact u b
  .rw[x,F,kz,kz]at b;have:=aU b;omega
  exact(Wg bO Z i w λk hk _ hm=>US).mono bO λk hk=>hk.1
 have w:((YR (k<0))||(YR (k>=(sr.n:Int))))=aF:=by
  rw[cy,cx,cx];omega
 have n:∀{q:Prop},((YR (k<0))||(YR (k>=(sr.n:Int))))=aM->q:=λh=>by rw[w]at h;cases h
 refine⟨sr,λ_=>Om g 3 I,sr,λh=>n h,⟨0,0,Pw⟩,λh=>n h,0,λh=>n h,λb T x=>⟨⟨0,0,0,_,0,Sl.nil,0,aM,I,λh=>Ue,λ_ F R hm e=>?_⟩,j x⟩,λb=>?_⟩
 .have:=(bc.1 e).1;omega
 rw[w,Dd]at b;cases b
def JJ(z:PlR w F s si sd sr p)(V:Fo p.sp)(ha:aB rInt 1 w G sa act)(hm:qj act<=2000000)(k:Int):aA aq 22 #[ah #[s.v,si.v,sd.v,sr.v],sa.v,O U k] w λe N=>(∃t:Sl,e=ak t.v/\cY w.heap.size N t (fR p.sp p.ro act k))/\az [] w N:=by
 refine gX (auM ?_);intro a w0 fN dS v;have z0:=v.size;refine(tst w0 s si sd sr).mono ?_;rintro _ w1 ⟨⟨b,m0,m1,rfl,hb,oI,hB⟩,r⟩;have z1:=r.size;have B:=v.bU r;refine⟨_,I,r.same S,(ahO hB (Wg jp Z z.ro B X) k).mono ?_⟩;rintro _ w2 ⟨⟨a1,a2,a3,ev,wt,H,d,i,rfl,l,W⟩,P⟩;have z2:=P.size;have o2:=B.bU P;refine⟨a1,a2,a3,ev,wt,H,d,i,I,P.same S,λg j m lm jP rF sR o=>?_⟩;have z3:=o.size;have C:=o2.bU o;refine(Yq (kI ha C) J).mono ?_;rintro _ w4 ⟨t,rfl,u,Q⟩;have z4:=Q.size;have D:=C.bU Q;have lA:∀{q:Nat},t.a=aN ⟨q,0,Pw⟩->m.heap.size<=q:=λe=>(u.blk e).1;refine⟨t,I,Q.same S,λT L A=>?_⟩;have Y:aB oV 5 w4 (λk=>F k/\k<w.heap.size) s p.sp:=Wg dj Z (WV dj z.sp Z) D X;refine(DK (f:=⟨.func (.func 62) #[] #[ae (aN ⟨j,0,Pw⟩),ae (aN ⟨a,0,Pw⟩),ae (aN ⟨g,0,Pw⟩)],I⟩) u hm ⟨gN E,λy hy M h=>?_⟩ (p:=λy=>!(i&&rX p.sp y d)) (cap:=[ae (aN ⟨j,0,Pw⟩),ae (aN ⟨a,0,Pw⟩),ae (aN ⟨g,0,Pw⟩)]) I).mono ?_
 .have n:∀q,q<m.heap.size->¬(t.a=aN ⟨q,0,Pw⟩):=λq x e=>UO
  have F:=Y.keep dj Z λq x f=>h.block q f (n q J);have c0:=h.blk T (n a J);have k:=h.blk L (n g J);have w:=h.blk A (n j J);refine gX (auW ?_);refine⟨λc b=>c=(!(i&&rX p.sp y d))/\az [] M b,?_,i,w.cells 0 _ X,λhc=>⟨?_,Ib _ _⟩,λhc=>⟨s,Om c0 0 I,d,Om k 6 I,(BE F V y d).mono ?_⟩⟩
  .rintro c b ⟨rfl,e⟩;exact⟨I,e⟩
  .have:i=aM:=Yc
   rw[this];rfl
  have:i=aF:=Yc
  rintro _ b ⟨rfl,c⟩;obtain rfl:M=b:=c.symm;refine⟨_,I,?_,Ib _ _⟩;rw[agv,this,ch]
 rintro _ w5 ⟨F,rfl,U,_,O,b⟩;have c:∀q,q<m.heap.size->¬(t.a=aN ⟨q,0,Pw⟩):=λq f e=>UO
 refine⟨F,I,s,si,sd,sr,b.blk T (c a J),_,_,_,_,_,H,_,b.blk L (c g J),_,b.blk A (c j J),⟨F,I,?_⟩,(D.nP (b.mono (G:=λq=>w.heap.size<=q) λq _ e=>UO)).only λq f=>f⟩;have e:fR p.sp p.ro act k=act.filter λx=>!(λy=>!(i&&rX p.sp y d)) x:=by
  have e:(act.filter λx=>!(λy=>!(i&&rX p.sp y d)) x)=act.filter λx=>i&&rX p.sp x d:=by
   congr 1;funext x;show(!!_)=_;rw[QD]
  rw[e];cases i
  .have q:(act.filter λx=>aM&&rX p.sp x d)=[]:=by
    rw[List.filter_eq_nil_iff];intro x _ n;cases n
   rw[q];unfold fR;split
   .rfl
   rename_i n;split
   .rename_i s p;rw[K];exact W I k.toNat s J p
   rfl
  obtain⟨n,s,k,p,q,hd,_⟩:=l I;unfold fR;rw[k,R J,ba,p];dsimp only;rw[R J,hd];rfl
 rw[e];exact Oq O J
def SX(d:PlR w F s si sd sr p)(B:Fo p.sp)(g:aB rInt 1 w G sa act)(h:qj act<=2000000)(i j:Int):aA aq 15 #[ah #[s.v,si.v,sd.v,sr.v],sa.v,O U i,O U j] w λe J=>e=ak (aj (fY p.sp p.ro act i j))/\az [] w J:=by
 refine ret (v7w ?_);intro R W N K a;have z0:=a.size;have V:∀q,qj (fR p.sp p.ro act q)<=2000000:=λq=>by
  unfold fR;split
  .exact bf _
  split
  .split
   .exact bf _
   exact bB (cH _ _) h
  exact bf _
 refine(JJ (d.o0 a) B (kI g a) h i).mono ?_;rintro _ Y ⟨⟨t,rfl,u⟩,r⟩;have z1:=r.size;have z:=a.bU r;refine⟨t,I,r.same S,λl Z T Q P=>?_⟩;have z2:=P.size;have o:=z.bU P;refine(JJ (d.o0 o) B (kI g o) h j).mono ?_;rintro _ m ⟨⟨C,rfl,v⟩,c⟩;have z3:=c.size;have A:=o.bU c;refine⟨C,I,c.same S,λb M=>?_⟩;have H:aB rInt 1 m _ t (fR p.sp p.ro act i):=kI (kI (u.slice bO) P) c;refine(ap1 (f:=⟨.func (.func 56) #[] #[ae (aN ⟨l,0,Pw⟩)],I⟩) (v.slice bO) (V j) ⟨gN E,λy L D x=>?_⟩ (p:=λn=>YR (n∈fR p.sp p.ro act i)) (cap:=[ae (aN ⟨l,0,Pw⟩)]) I).mono ?_
 .have f:az [] m D:=x.only λk n=>n.elim;refine gX (v6w ?_);refine⟨t,(f.blk b X).cells 0 _ X,(xv (kI H f) y).mono ?_⟩;rintro _ p ⟨rfl,e⟩;exact⟨_,I,I,e⟩
 rintro _ w ⟨rfl,e⟩;exact⟨_,I,e.same S,t,e.blk b X,I,A.bU e⟩
end
def aju(w:aw)(k:Int):aA aq 109 #[O U k] w λe a=>e=ak (aj ((k==3)||(k==4)))/\a=w:=by
 have h:=DI w k;rw[show gv k=((k==3)||(k==4)) by unfold gv;rw[bK];simp]at h;exact h
section
variable {w:aw} {F G:A} {l sa:Sl} {xs:L dC} {is:L Int}
def JK(h:aB rInt 1 w F sa is)(n:Int)(m:qj is<=4611686018427387903):aA aq 55 #[sa.v,O U n] w λe d=>e=ak (aj (YR (n∈is)))/\d=w:=by
 refine ret (ana ?_);have l:=h.len;refine⟨λk i b=>∃j:Nat,i=(j:Int)/\k+j=qj is/\j<=qj is/\n∉is.take j/\w=b,qj is,⟨0,I,J,bf _,X,I⟩,?_⟩;rintro k _ _ ⟨j,rfl,Q,f,a,rfl⟩;refine⟨λc=>?_,λc=>?_⟩
 .have c:=u c;have V:j<qj is:=J
  obtain⟨ad,e,g⟩:=gW h (aX V);refine⟨ad,e,_,g,λhe=>?_,λhe=>⟨k-1,J,j+1,Ye,J,J,?_,I⟩⟩
  .have he:is[j]=n:=UB
   exact⟨by rw[bG (by rw[<-he];exact gU V)],I⟩
  have he:¬is[j]=n:=UB
  rw[bn,aX V,bQ];rintro(h | h)
  .exact a h
  simp only[Option.toList,aV]at h;exact he h.symm
 have c:=aU c;rw[bm J]at a;exact⟨by rw[bD a],I⟩
def gx{w u:aw}{s:Sl}{i:L Int}{B:Nat}(h:cY B w s i)(O:az [] w u):cY B u s i:=h.keep bO λk _ b=>O.block k b X
def adZ(c:aB oV 5 w F l xs)(n:Nat)(m:qj xs<=1000):aA aq 134 #[l.v,O U (n:Int)] w λe d=>(∃(s:Sl),e=ak (Sl.v s)/\cY w.heap.size d s (fQ xs n (qj xs)))/\az [] w d:=by
 refine gX (anE ?_);have g:=c.len;refine⟨λk q i a=>∃j:Nat,i=(j:Int)/\k+j=qj xs/\j<=qj xs/\cY w.heap.size a q (fQ xs n j)/\az [] w a,qj xs,⟨0,I,J,bf _,Yb _ _ _ _ _ _,Ib _ _⟩,?_⟩;rintro k q _ a ⟨j,rfl,Q,f,S,b⟩;refine⟨λh=>?_,λh=>?_⟩
 .have h:=u h;obtain⟨y,o⟩:=fE (xs:=xs) (i:=j) J;obtain⟨ad,p,_,r,_⟩:=iP (Wg dj Z c b X) o;have v:qj (fQ xs n j)<=j:=by
   unfold fQ;rw[bH];exact bB (cH _ _) UY
  refine⟨λq a=>cY w.heap.size a q (fQ xs n (j+1))/\az [] w a,λq a ⟨s,t⟩=>⟨k-1,J,j+1,Ye,J,J,s,t⟩,ad,p,_,r,λl=>?_,λl=>⟨?_,b⟩⟩
  .rw[B,dr]at l;obtain⟨D,A,y,k3,z,C,e,n,x,E⟩:=X8 w S b j ⟨J,J⟩ J;refine⟨D,A,y,z,C,e,?_,x⟩;rw[nV,K (by rw[o];exact bN aN l.1)];exact n
  rw[nV,R,bC]
  .exact S
  rw[o];intro e;injection e with e;have e:y.pa=n:=e;rw[e]at l;simp at l
 have h:=aU h;have:j=qj xs:=J
 subst this;exact⟨⟨q,I,S⟩,b⟩
def SY{k:Int}(h:1<=k/\k<=4):(!((k==3)||(k==4)))=Hk k:=by
 unfold Hk;rcases h with⟨a,b⟩
 rcases(show k=1∨k=2∨k=3∨k=4 by omega)with rfl | rfl | rfl | rfl<;>rfl
def zr(f:aB oV 5 w F l xs)(o:Sd xs)(n:Nat):aA aq 87 #[l.v,O U (n:Int)] w λe A=>(∃(s:Sl),e=ak (Sl.v s)/\cY w.heap.size A s (gH xs n))/\az [] w A:=by
 have T:=o.le;refine gX (ank ?_);refine(adZ f n J).mono ?_;rintro _ B ⟨⟨d,rfl,S⟩,C⟩;have L:=S.len;have N:qj (fQ xs n (qj xs))<=qj xs:=by
  unfold fQ;rw[bH];exact bB (cH _ _) UY
 have p:∀k,k∈fQ xs n (qj xs)->∃(q:Nat) (t:dC),k=q/\xs[q]? =aN t:=λk hk=>by
  obtain⟨q,t,e,_,k,_⟩:=Fc.1 hk;exact⟨q,t,e,k⟩
 have D:gH xs n=(fQ xs n (qj xs)).filter λk=>Hk (kd xs k):=I;rw[D];generalize fQ xs n (qj xs)=a at*
 refine⟨d,I,λy q z b=>∃j:Nat,z=(j:Int)/\y+j=qj a/\j<=qj a/\cY w.heap.size b q ((a.take j).filter λk=>Hk (kd xs k))/\cY w.heap.size b d a/\(q.a=Pw∨q.a≠d.a)/\az [] w b/\B.heap.size<=b.heap.size,qj a,⟨0,I,J,bf _,Yb _ _ _ _ _ _,S,.inl I,C,H _⟩,?_⟩;rintro y q _ b ⟨j,rfl,V,Q,m,g,i,h,M⟩;refine⟨λc=>?_,λc=>?_⟩
 .have c:=u c;have Y:j<qj a:=J
  obtain⟨ad,a1,a2⟩:=gW g.sl (aX Y);obtain⟨n,t,s,l⟩:=p _ (gU Y);obtain⟨yI,b1,b2,_⟩:=iP (Wg dj Z f h X) l;have lS:(a.take (j+1)).filter (λk=>Hk (kd xs k))=(a.take j).filter (λk=>Hk (kd xs k))++if Hk t.k=aF then[(n:Int)]else[]:=by
   rw[bn,aX Y,fh,s];congr 1;show List.filter _ [(n:Int)]=_;rw[pO,AM l,fj]
  have VW:qj ((a.take j).filter λk=>Hk (kd xs k))<=64:=by
   refine bB (cH _ _) ?_;rw[ci];omega
  refine⟨λq b=>cY w.heap.size b q ((a.take (j+1)).filter λk=>Hk (kd xs k))/\cY w.heap.size b d a/\(q.a=Pw∨q.a≠d.a)/\az [] w b/\B.heap.size<=b.heap.size,λq b ⟨h1,h2⟩=>⟨y-1,J,j+1,Ye,J,J,h1,h2⟩,ad,a1,_,a2,yI,by rw[s];exact b1,t.k,b2.dP 0 _ I,(aju b t.k).mono ?_⟩;rintro _ u' ⟨rfl,W⟩;obtain rfl:b=u':=W.symm;refine⟨_,I,?_,?_⟩
  .rw[SY (o.kn n t l)];intro hb;obtain⟨y1,w2,k1,k3,s',w3,g1,g2,⟨gs,g3,g4⟩,g5⟩:=kx (P:=aq) (t:=31) (ty:=31) (e:=3) (i:=Tryz.t3) (bytes:=8) (size:=1) (r:=rInt) (G:=λ_=>False) (v:=O U (a[j])) (x:=a[j]) E E I I I I Z Z Z bO m h.size I ⟨I,by rw[s];exact⟨J,by have:=gp l;omega⟩⟩ (λ_ f=>f.elim) J;have z3:=g3.size;have z2:=k3.size;refine⟨ad,a1,_,a2,y1,w2,k1,s',w3,g1,?_,?_,?_,?_,J⟩
   .rw[lS,K hb,<-s];exact YZ g2
   .refine(gx g k3).keep bO λk hk r=>g3.block k r λt=>?_;have e:=g4 _ t;rcases hk with hk | ⟨_,hk⟩
    .exact hk
    rcases i with i | i
    .rw[i]at e;cases e.1
    exact i (e.1.trans hk.symm)
   .rcases g5 with e | ⟨k,e,r⟩
    .rw[e];exact i
    right;rw[e];intro t;have:=g.blk t.symm;dsimp only at this;omega
   exact((h.bU k3).nP (g3.p (F:=λk=>w.heap.size<=k) λe r=>.inl (g4 e r).2.1)).only λk hk=>hk
  rw[SY (o.kn n t l)];intro hb;refine⟨?_,g,i,h,M⟩;rw[lS,R PO,bC];exact m
 have c:=aU c;have:j=qj a:=J
 subst this;rw[bm (H _)]at m;exact⟨⟨q,I,m⟩,h⟩
end
section
variable {w:aw} {F G:A} {l sa:Sl} {xs:L dC} {act:L Int}
def CY{u}(h:aB oV 5 w F l xs)(O:az [] w u):aB oV 5 u F l xs:=Wg dj Z h O X
def abU(d:aB oV 5 w F l xs)(f:Sd xs)(m:aB rInt 1 w G sa act)(n:qj act<=4611686018427387903):aA aq 98 #[l.v,sa.v] w λe g=>(∃s,e=ak (Sl.v s)/\cY w.heap.size g s (Hm xs act))/\az [] w g:=by
 have x:=f.le;refine gX (ann ?_);have p:=d.len;refine⟨λk q i a=>∃j:Nat,i=j/\k+j=qj xs/\j<=qj xs/\cY w.heap.size a q (MA j (Bi xs act))/\az [] w a,qj xs,⟨0,I,J,bf _,Yb _ _ _ _ _ _,Ib _ _⟩,?_⟩;rintro k q _ a ⟨j,rfl,Q,o,S,h⟩;refine⟨λc=>?_,λc=>?_⟩
 .have c:=u c;obtain⟨y,e⟩:=fE (xs:=xs) (i:=j) J;obtain⟨ad,r,s,_⟩:=iP (CY d h) e;have C:=AN j (Bi xs act);refine⟨λl a=>cY w.heap.size a l _/\az [] w a,λl a ⟨t,v⟩=>⟨k-1,J,j+1,Ye,J,J,t,v⟩,(JK (kI m h) j n).mono ?_⟩;rintro _ A ⟨rfl,z⟩;obtain rfl:a=A:=z.symm;have N:=AM e;refine⟨_,I,λb a=>b=Bi xs act j/\cY w.heap.size a q (MA j (Bi xs act))/\az [] w a,?_,ad,λ_=>r,y.k,λ_=>s.dP 0 _ I,λhb=>?_,λhb=>⟨?_,S,h⟩⟩
  .rintro _ b ⟨rfl,D,Z⟩;refine⟨λhb=>?_,λhb=>⟨by rw[Ff,R PO,bC];exact D,Z⟩⟩;obtain⟨L,H,F,k3,G,b,q,y,E,M⟩:=X8 w D Z j ⟨J,J⟩ J;exact⟨L,H,F,G,b,q,by rw[Ff,K hb];exact y,E⟩
  .refine(zr (CY d h) f j).mono ?_;rintro _ w ⟨⟨q,rfl,b⟩,V⟩;refine⟨q,I,?_,gx S V,h.bU V⟩;rw[B]at hb;unfold Bi;rw[hb.1,N,hb.2,b.len,ch,ch,bK,dr,dr];omega
  unfold Bi;rw[N,hb,cR]
 have c:=aU c;have:j=qj xs:=J
 subst this;exact⟨⟨q,I,S⟩,h⟩
end
end Go.Proofs.YtdfibecibkijiaaGreatDoor.Con
namespace Go.Proofs.YtdfibecibkijiaaGreatDoor.Con
open Go Go.RowKit Go.Kt Go.Kt.V Go.Proofs.YtdfibecibkijiaaGreatDoor.Vc
def JL{x:L dC}{a:Nat}{r:Ro}{l:L Mv}{i:Nat}(h:r∈He x a i l):r.src=a:=by
 obtain⟨j,m,_,rfl⟩:=Jq h;rfl
def SZ{xs:L dC}{r:Ro}{x:Nd}{a:Nat}(h:r∈Mi xs a x):(a:Int)<=r.src/\r.src<(a+iQ x:Nat):=by
 obtain⟨n,b,j,m,c,_,rfl⟩:=Jr h;have:=(bc.1 c).1;rw[Az]at this;unfold LJ;dsimp only;omega
def Nq{x:L dC}{r:Ro}{l:L Nd}{a:Nat}(h:r∈qp x a l):(a:Int)<=r.src/\r.src<(a+dJ l:Nat):=by
 obtain⟨n,b,j,m,c,_,rfl⟩:=Fm h;have:=(bc.1 c).1;rw[AA]at this;unfold LJ;dsimp only;omega
mutual
def ahb(c:L dC):∀(x:Nd) (a:Nat),(Mi c a x).Pairwise λr s=>r.src<=s.src
 | .mk b l,a=>by
  rw[Mi,lX];refine⟨?_,ahm c l _,λr h s d=>?_⟩
  .exact List.pairwise_of_forall_mem_list λr h s d=>by rw[JL h,JL d];exact ja _
  rw[JL h];have:=(Nq d).1;omega
def ahm(b:L dC):∀(l:L Nd) (a:Nat),(qp b a l).Pairwise λr s=>r.src<=s.src
 | [],a=>by rw[qp];exact List.Pairwise.nil
 | x::l,a=>by
  rw[qp,lX];exact⟨ahb b x a,ahm b l _,λr h s c=>by
   have:=(SZ h).2;have:=(Nq c).1;omega⟩
end
def xw{o:L Ro}{m:L M}{n:Int}{k:Nat}:CX o m n k=aF↔∃r,o[k]? =aN r/\m[k]? =aN aF/\r.src=n:=by
 unfold CX;constructor
 .intro h;split at h
  .rename_i r a b;exact⟨r,a,b,u h⟩
  cases h
 rintro⟨r,h,a,b⟩;rw[h,a];exact bG b
def JM{r:L Ro}{m:L M}{n:Int}(h:∀k,CX r m n k=aM):qH r m n=Pw:=by
 unfold qH;rw[List.find?_eq_none];intro k _ hk;rw[h k]at hk;cases hk
def S0{r:L Ro}{m:L M}{n:Int}{k:Nat}(d:∀j,j<k->CX r m n j=aM)(hk:CX r m n k=aF):qH r m n=aN k:=by
 have h:k∈List.range (min (qj r) (qj m)):=by
  obtain⟨g,e,f,_⟩:=xw.1 hk;have a:=(bc.1 e).1;have b:=(bc.1 f).1;rw[mM];omega
 rcases hf:qH r m n with _|c
 .unfold qH at hf;rw[List.find?_eq_none]at hf;exact absurd hk (hf k h)
 unfold qH at hf;have a:=List.find?_some hf;congr 1;rcases Nat.lt_trichotomy c k with l | l | l
 .rw[d c l]at a;cases a
 .exact l
 .exfalso;obtain⟨_,f,g,e,b⟩:=List.find?_eq_some_iff_append.1 hf;have s:(List.range (min (qj r) (qj m))).Pairwise (· <·):=List.pairwise_lt_range;rw[e]at h s;rcases bQ.1 h with h | h
  .have:=b k h;rw[hk]at this;cases this
  .rcases bh.1 h with rfl | h
   .omega
   .have:=(lX.1 s).2.1;rw[jB]at this;have:=this.1 k h;omega
def S1{o:L Ro}{m:L M}{n:Int}(z:o.Pairwise λr s=>r.src<=s.src){e k:Nat}{l:Ro}(i:o[e]? =aN l)(A:l.src=n)(u:∀j,j<e->∀r,o[j]? =aN r->r.src≠n)(hk:e<=k)(v:∀j,e<=j->j<k->m[j]? ≠aN aF)(h:qj o<=k∨(qj m)<=k∨∃r,o[k]? =aN r/\r.src≠n):qH o m n=Pw:=by
 refine JM λj=>?_;rw[eF];intro w;obtain⟨r,g,f,t⟩:=xw.1 w;have a:=(bc.1 g).1;have b:=(bc.1 f).1;by_cases T:j<e
 .exact u j T r g t
 by_cases a:j<k
 .exact v j J a f
 rcases h with h | h | ⟨s,h,b⟩
 .omega
 .omega
 have c:=(bc.1 h).1;have d:=(bc.1 i).1;have le:∀{k n:Nat} {x y:Ro},k<=n->o[k]? =aN x->o[n]? =aN y->x.src<=y.src:=fun{k n x y} ru hx hy=>by
  rcases nu k n with c | c
  .obtain⟨p,rfl⟩:=bc.1 hx;obtain⟨q,rfl⟩:=bc.1 hy;exact qg.1 z k n p q c
  have:k=n:=J
  subst this;rw[hx,bP]at hy;rw[hy];exact ja _
 have s:=le hk i h;have B:=le J h g;omega
def ad0{o:L Ro}{m:L M}{n:Int}{a k:Nat}{r:Ro}(h:∀j,j<a->∀r,o[j]? =aN r->r.src≠n)(d:∀j,a<=j->j<k->m[j]? ≠aN aF)(e:o[k]? =aN r)(f:r.src=n)(i:m[k]? =aN aF):qH o m n=aN k:=by
 refine S0 (λj p=>?_) (xw.2 ⟨r,e,i,f⟩);rw[eF];intro l;obtain⟨q,g,b,c⟩:=xw.1 l;by_cases T:j<a
 .exact h j T q g c
 exact d j J p b
def ajm{o:L Ro}{m:L M}{n:Int}(h:∀r,r∈o->r.src≠n):qH o m n=Pw:=JM λk=>by
 rw[eF];intro b;obtain⟨r,g,_,a⟩:=xw.1 b;exact h r (bp g) a
section
variable {w:aw} {F G:A} {l sa:Sl} {xs:L dC} {act:L Int}
def agh{u:aw}{S:A}(h:aB oV 5 w F l xs)(O:aE S w u)(a:∀k,F k->k<w.heap.size->¬S k):aB oV 5 u F l xs:=U6 dj Z h O a
def ad5(w:aw)(k:Int):aA aq 188 #[O U k] w λe a=>e=ak (aj (Hk k))/\a=w:=by
 refine ret (avq ?_);exact⟨I,I⟩
def abR{k t:Nat}(h:aB oV 5 w F l xs)(B:aG w k t [l.v]){q:Nat}{s:dC}(c:xs[q]? =aN s):aA aq 187 #[O U (q:Int),ae (aN ⟨k,0,Pw⟩)] w λe d=>e=ak (aj (!(Hk s.k)))/\d=w:=by
 refine ret (avp ?_);obtain⟨ad,a,b,_⟩:=iP h c;refine⟨l,B.cells 0 _ X,ad,a,s.k,b.dP 0 _ I,(ad5 w s.k).mono ?_⟩;rintro _ f ⟨rfl,u⟩;exact⟨_,I,I,u⟩
def aaL(h:aB oV 5 w F l xs)(b:Sd xs){n:Nat}{x:dC}(m:xs[n]? =aN x):aA aq 135 #[l.v,O U (n:Int)] w λe i=>(∃(s:Sl),e=ak (Sl.v s)/\cY w.heap.size i s (gH xs n))/\az [] w i:=by
 have K:=b.le;refine gX (avg ?_);intro a L N D c;have M:=c.size;refine(air (Wg dj Z h c X) b.fo m J).mono ?_;rintro _ z ⟨⟨g,rfl,C⟩,r⟩;have P:=r.size;refine⟨g,I,r.same S,λB=>?_⟩;have A:qj (fQ xs n (qj xs))<=qj xs:=by
  unfold fQ;rw[bH];exact bB (cH _ _) UY
 have o:=c.bU r;have j:aB oV 5 z (λk=>F k/\k<w.heap.size) l xs:=Wg dj Z (WV dj h Z) o X;have V:g.a≠aN ⟨a,0,Pw⟩:=λe=>by
  have:=(C.blk e).1;dsimp only at this;omega
 refine(DK (f:=⟨.func (.func 187) #[] #[ae (aN ⟨a,0,Pw⟩)],I⟩) C J ⟨gN E,λy u v d=>?_⟩ (p:=λk=>!(Hk (kd xs k))) (cap:=[ae (aN ⟨a,0,Pw⟩)]) I).mono ?_
 .obtain⟨q,t,rfl,_,f,_⟩:=Fc.1 u;rw[AM f];refine(abR (agh j d λk hk _ e=>?_) (d.blk B V) f).mono ?_
  .have:=(C.blk e).1;dsimp only at this;omega
  rintro _ k ⟨rfl,e⟩;obtain rfl:v=k:=e.symm;exact⟨I,Ib _ _⟩
 rintro _ q ⟨s,rfl,p,_,Q,f⟩;refine⟨s,I,l,f.blk B V,⟨s,I,?_⟩,(o.nP (f.mono (G:=λk=>w.heap.size<=k) λk _ e=>by have:=(C.blk e).1;dsimp only at this;omega)).only λk hk=>hk⟩;have:(fQ xs n (qj xs)).filter (λx=>!!(Hk (kd xs x)))=gH xs n:=by
  unfold gH;congr 1;funext k;rw[QD]
 rw[this]at Q;exact Oq Q J
end
def F9(x:L dC)(n:Int):M:=YR (n>=0)&&YR (n<qj x)&&(kd x n==1)&&(qj (gH x n.toNat)==0)
def aiX xs act:Fq (act.filter (F9 xs))=Hm xs act:=by
 refine Fe (Ht) (MB) λx=>?_;unfold Hm;rw[Fs,DA,jb];unfold F9 Bi;constructor
 .rintro⟨a,h⟩;simp only[B,bF]at h;obtain⟨k,rfl⟩:∃k:Nat,x=k:=⟨x.toNat,J⟩
  exact⟨k,I,J,by simp only[B,bF];exact⟨⟨a,h.1.2⟩,h.2⟩⟩
 rintro⟨k,rfl,a,h⟩;simp only[B,bF]at h;refine⟨h.1.1,?_⟩;simp only[B,bF];exact⟨⟨⟨J,J⟩,h.1.2⟩,h.2⟩
def agI{xs}(h:Fo xs):∀(n:Nat) {p:Int} {l:L Int},p<n->Ups xs p l->qj l<=n
 | 0,p,l,b,a=>by
  cases a with
  | stop=>exact H _
  | go c d=>omega
 | n+1,p,l,b,a=>by
  cases a with
  | stop=>exact bf _
  | go c d=>
   have:=h.yT c;have:=agI h n (p:=_) J d;rw[aZ];omega
section
variable {w:aw} {F G:A} {l sa:Sl} {xs:L dC} {act:L Int}
def abe(g:aB oV 5 w F l xs)(o:Sd xs)(n:Int):aA aq 90 #[l.v,O U n] w λe p=>e=ak (aj (F9 xs n))/\az [] w p:=by
 refine ret (au5 ?_);have j:=g.len;obtain⟨ad,k,c,d,f⟩:∃(ad:Addr) (k:Int),((YR (n>=0)&&YR (n<(l.n:Int)))=aF->cK l n 5 ad)/\((YR (n>=0)&&YR (n<(l.n:Int)))=aF->aD w (ad.add 0) [O U k])/\(_=aF->kd xs n=k/\∃s,xs[n.toNat]? =aN s):=by
  by_cases h:0<=n/\n<qj xs
  .obtain⟨e,rfl⟩:∃e:Nat,n=e:=⟨n.toNat,J⟩
   obtain⟨y,b⟩:=fE (xs:=xs) (i:=e) J;obtain⟨ad,c,d,_⟩:=iP g b;exact⟨ad,y.k,λ_=>c,λ_=>d.dP 0 _ I,λ_=>⟨AM b,y,by rw[ba];exact b⟩⟩
  have b:(YR (n>=0)&&YR (n<(l.n:Int)))=aF->False:=λa=>by
   rw[B]at a;have e:=u a.1;have i:=u a.2;omega
  exact⟨default,0,λa=>(b a).elim,λa=>(b a).elim,λa=>(b a).elim⟩
 refine⟨λb m=>b=F9 xs n/\az [] w m,λb m a=>⟨by rw[a.1],a.2⟩,ad,c,k,d,λh=>?_,λh=>⟨?_,Ib _ _⟩⟩
 .rw[B]at h;obtain⟨i,s,b⟩:=f h.1;rw[B]at h;have l:=u h.1.1;have q:=u h.1.2;obtain⟨e,rfl⟩:∃e:Nat,n=e:=⟨n.toNat,J⟩
  rw[ba]at b;refine(aaL g o b).mono ?_;rintro _ w ⟨⟨k,rfl,C⟩,r⟩;refine⟨k,I,?_,r⟩;unfold F9;rw[j]at h;rw[h.1.1,h.1.2,i,h.2,C.len,ba,ch,ch,ch,bK,dr,dr];omega
 unfold F9;rw[j]at h f;cases b:YR (n>=0)&&YR (n<qj xs)with
 | false=>rfl
 | true=>
  rw[b]at h;rw[(f b).1,h,cR]
def ahy(g:aB oV 5 w F l xs)(j:Sd xs)(m:aB rInt 1 w G sa act)(t:qj act<=1100000):aA aq 43 #[l.v,sa.v] w λe d=>(∃(s:Sl),e=ak (Sl.v s)/\cY w.heap.size d s (Hm xs act))/\az [] w d:=by
 refine gX (auR ?_);intro a n N q c;have z:=c.size;refine(Yq (kI m c) J).mono ?_;rintro _ A ⟨b,rfl,C,r⟩;have B:=r.size;have o:=c.bU r;refine⟨b,I,r.same S,λh=>?_⟩;have i:=Wg dj Z (WV dj g Z) o X;have lA:∀{k:Nat},b.a=aN ⟨k,0,Pw⟩->n.heap.size<=k:=λe=>(C.blk e).1;have V:b.a≠aN ⟨a,0,Pw⟩:=λe=>UO
 refine(DK (f:=⟨.func (.func 89) #[] #[ae (aN ⟨a,0,Pw⟩)],I⟩) C J ⟨gN E,λy u v O=>?_⟩ (p:=λk=>!(F9 xs k)) (cap:=[ae (aN ⟨a,0,Pw⟩)]) I).mono ?_
 .have p:=agh i O λk hk _ e=>UO
  have f:=O.blk h V;refine gX (au4 ?_);refine⟨l,f.cells 0 _ X,(abe p j y).mono ?_⟩;rintro _ s ⟨rfl,Y⟩;exact⟨_,I,I,Y⟩
 rintro _ L ⟨K,rfl,s,_,Q,P⟩;have y:act.filter (λx=>!!(F9 xs x))=act.filter (F9 xs):=by
  congr 1;funext k;rw[QD]
 rw[y]at Q;have U:=P.blk h V;have W:=cH (F9 xs) act;refine⟨K,I,l,U,(agw Q J).mono ?_⟩;rintro _ M ⟨p,rfl,F,D,f⟩;rw[aiX]at D;refine⟨p,I,l,f.blk U (by rw[s];exact V),⟨p,I,Oq D z⟩,?_⟩;have H:aE (λk=>w.heap.size<=k) w L:=o.nP (P.mono λk _ e=>UO);exact(H.trans (f.mono (G:=λk=>w.heap.size<=k) λk _ e=>by rw[s]at e;have:=lA e;omega) λk hk=>.inl hk).only λk hk=>hk
end
structure Cb (w:aw) (c:Nat) (F G H:A) (s si sd sr sa sm:Sl) (p:Pl) (act:List Int) (may:List Bool):Prop where
 blk:aG w c 90 [s.v,si.v,sd.v,sr.v,sa.v,sm.v]
 pl:PlR w F s si sd sr p
 act:aB rInt 1 w G sa act
 may:aB rBool 1 w H sm may
section
variable {w w':aw} {F G H:A} {s si sd sr sa sm:Sl} {p:Pl} {act:L Int} {may:L M} {c:Nat}
def Cb.o0(h:Cb w c F G H s si sd sr sa sm p act may)(O:az [] w w'):Cb w' c F G H s si sd sr sa sm p act may:=
 ⟨O.blk h.blk X,h.pl.o0 O,kI h.act O,Wg j6 Z h.may O X⟩
def DL(h:aB rBool 1 w H sm may){i:Nat}{b:M}(x:may[i]? =aN b):∃ad,cK sm (i:Int) 1 ad/\aD w ad [aj b]:=by
 have W:=(bc.1 x).1;have l:=h.len;obtain⟨ad,y,s,c,g,e,f,d,a⟩:=h.get (be i) J;rw[ba,x]at g;injection g with g;subst g;unfold rBool at a;subst a;exact⟨ad,c,d⟩
def aeX{b:Nat}{o:L Ro}(h:aB rRo 7 w F sr o){n:Int}(B:aG w b 3 [O U n]):aA aq 92 #[sr.v,.func (.func 93) #[] #[ae (aN ⟨b,0,Pw⟩)]] w λe w'=>
  (∃i:Int,e=ak (O U i)/\((i= -1/\∀r,r∈o->r.src≠n)∨∃(k:Nat) (r:Ro),i=k/\o[k]? =aN r/\r.src=n/\∀j,j<k->∀r,o[j]? =aN r->r.src≠n))/\az [] w w':=by
 refine(anl sr ⟨.func (.func 93) #[] #[ae (aN ⟨b,0,Pw⟩)],I⟩ (λv w'=>(∃i:Int,v=O U i/\((i= -1/\∀r,r∈o->r.src≠n)∨∃(k:Nat) (r:Ro),i=k/\o[k]? =aN r/\r.src=n/\∀j,j<k->∀r,o[j]? =aN r->r.src≠n))/\az [] w w') w ?_).mono (by rintro _ w' ⟨v,rfl,⟨i,rfl,h⟩,p⟩;exact⟨⟨i,I,h⟩,p⟩);have t:=h.len;have q:=h.cap;have Q:=h.big;refine⟨λl i f=>∃j:Nat,i=(j:Int)/\l+j=qj o/\j<=qj o/\(∀m,m<j->∀r,o[m]? =aN r->r.src≠n)/\az [] w f,qj o,⟨0,I,J,bf _,λm d=>J,Ib _ _⟩,?_⟩;rintro l _ f ⟨j,rfl,x,s,g,a⟩;refine⟨λc=>?_,λc=>?_⟩
 .have c:=u c;obtain⟨r,k⟩:∃r,o[j]? =aN r:=⟨_,aX J⟩
  obtain⟨ad,w,y,z,A⟩:=A5 (Wg jp Z h a X) k;refine⟨ad,y,_,_,_,_,_,w,_,z,93,[],[ae (aN ⟨b,0,Pw⟩)],I,gN E,?_⟩;refine(v9w r.src r.slot r.k (T r.ev) r.wt w r.dom ⟨b,0,Pw⟩ (λv w'=>v=aj (YR (r.src=n))/\az [] f w') f ?_).mono ?_
  .intro v C _ _ e;refine⟨n,((a.bU e).blk B X).cells 0 _ X,?_,e⟩;congr 1
  rintro _ F ⟨v,rfl,rfl,N⟩;refine⟨_,I,λC=>⟨⟨_,I,.inr ⟨j,r,I,k,u C,g⟩⟩,a.bU N⟩,λC=>⟨l-1,J,j+1,Ye,J,J,λm d D n=>?_,a.bU N⟩⟩;by_cases e:m=j
  .subst e;rw[k,bP]at n;subst n;exact aU C
  exact g m J D n
 have c:=aU c;refine⟨⟨_,I,.inl ⟨I,λr e=>?_⟩⟩,a⟩;obtain⟨m,d⟩:=FZ.1 e;exact g m (by have:=(bc.1 d).1;omega) r d
def ajv(m:Cb w c F G H s si sd sr sa sm p act may)(B:Fo p.sp){i j:Nat}{r a:Ro}(b:p.ro[i]? =aN r)(d:p.ro[j]? =aN a):aA aq 49 #[ae (aN ⟨c,0,Pw⟩),O U (i:Int),O U (j:Int)] w λe w'=>e=ak (aj (mS p.sp p.ro i j))/\az [] w w':=by
 refine ret (auT ?_);intro q n;have h:=m.o0 n;obtain⟨ad,v,f,g,_⟩:=A5 h.pl.ro b;obtain⟨y,t,k,l,_⟩:=A5 h.pl.ro d;refine⟨s,Om h.blk 0 I,sr,Om h.blk 3 I,ad,f,r.src,g.dP 0 _ I,sr,Om h.blk 3 I,y,k,a.src,l.dP 0 _ I,(BE h.pl.sp B r.src a.src).mono ?_⟩;rintro _ o ⟨rfl,u⟩;obtain rfl:q=o:=u.symm;refine⟨_,I,?_,n⟩;rw[agv];unfold mS MQ;rw[ba,ba,b,d]
def ad6(h:Cb w c F G H s si sd sr sa sm p act may)(A:Fo p.sp)(HS:qj p.sp<=64)(S:p.ro.Pairwise λr s=>r.src<=s.src){x:Nat}(hx:x<qj p.sp):aA aq 44 #[ae (aN ⟨c,0,Pw⟩),O U (x:Int)] w λe w'=>e=ak (O U (lj p.sp p.ro may x))/\az [] w w':=by
 refine ret (auS ?_);obtain⟨y,w0,k1,k3,K⟩:=Np w (a:=(x:Int)) ⟨J,J⟩;have z0:=k3.size;have P:=h.o0 k3;obtain⟨t,E⟩:=fE hx;refine⟨y,w0,k1,s,Om P.blk 0 I,(awj P.pl.sp A x J).mono ?_⟩;rintro _ w1 ⟨⟨q,is,rfl,hq,_,hu⟩,C⟩;have z1:=C.size;have Q:=hu x t I E;have aC:=agI A x (A.yT E) Q;have M:cY w.heap.size w1 y [(x:Int)]:=K.keep bO λk _ W=>C.block k W X;obtain⟨q2,f,T,N,V,_⟩:=HE M J (hq.slice bO) (λk hk e=>by
  have a:=(hk.resolve_left id).1;have h:=(K.blk e).2;dsimp only at h;omega) TX
 have z:az [] w f:=((k3.bU C).nP (V.mono (G:=λk=>w.heap.size<=k) λk _ e=>(K.blk e).1)).only λk hk=>hk;have eL:[(x:Int)]++is=qG p.sp (qj p.sp+1) x:=by
  rw[qG,R J,jZ E];exact bN _ (Q.eq _ J)
 rw[eL]at N;refine⟨q,I,q2,f,T,?_⟩;have m:=N.slice bO;generalize D:qG p.sp (qj p.sp+1) (x:Int)=L at*
 have FW:=m.len;have am:=m.cap;have Y:=m.big;have g:lj p.sp p.ro may x=match L.findSome? (qH p.ro may)with
  | some k=>(k:Int)
  | none=> -1:=by unfold lj;rw[D];try rfl
 refine⟨λv i d=>∃j:Nat,i=(j:Int)/\v+j=qj L/\j<=qj L/\(∀n,n∈L.take j->qH p.ro may n=Pw)/\az [] f d,qj L,⟨0,I,J,bf _,X,Ib _ _⟩,?_⟩;rintro v _ w3 ⟨j,rfl,nQ,hj,o,Z⟩;refine⟨λl=>?_,λl=>?_⟩
 .have l:=u l;have mV:j<qj L:=J
  obtain⟨ad,a1,a2⟩:=gW (kI m Z) (aX mV);have lS:L.take (j+1)=L.take j++[L[j]]:=Rw
  refine⟨ad,a1,_,a2,λk5 w4 sP FU dQ=>?_⟩;have o4:=Z.bU dQ;have s:=(h.o0 z).o0 o4;have bV:=s.pl.ro.len;have bv:=s.pl.ro.cap;have aT:=s.pl.ro.big;have aS:=s.may.len;refine⟨sr,Om s.blk 3 I,λG=>(aeX s.pl.ro G).mono ?_⟩;rintro _ w5 ⟨⟨i,rfl,F⟩,y⟩;have o5:=o4.bU y;have next:∀{d:aw},az [] f d->qH p.ro may L[j]=Pw->∃n,n<v/\∃c:Nat,au U ((j:Int)+1)=(c:Int)/\n+c=qj L/\c<=qj L/\(∀n,n∈L.take c->qH p.ro may n=Pw)/\az [] f d:=λhO w=>⟨v-1,J,j+1,Ye,J,J,λn x=>by
   rw[lS,bQ,aV]at x;rcases x with x | rfl
   .exact o n x
   exact w,hO⟩
  refine⟨i,I,L[j],y.blk G X,λH i d=>((i= -1/\∀r,r∈p.ro->r.src≠L[j])∨∃(t k:Nat) (r:Ro),i=(k:Int)/\t<=k/\H+k=qj p.ro/\p.ro[t]? =aN r/\r.src=L[j]/\(∀c,c<t->∀r,p.ro[c]? =aN r->r.src≠L[j])/\∀c,t<=c->c<k->may[c]? ≠aN aF)/\az [] f d/\aG d k5 3 [O U L[j]],(match i with | .ofNat bY=>(qj p.ro)-bY | _=>0),⟨?_,o5,y.blk G X⟩,?_⟩
  .rcases F with⟨rfl,F⟩ | ⟨k,r,rfl,h,e,n⟩
   .exact .inl ⟨I,F⟩
   have:=(bc.1 h).1;exact .inr ⟨k,k,r,I,aY _,by show (qj p.ro)-k+k=_;omega,h,e,n,λc a b=>J⟩
  rintro H i2 w6 ⟨hI,o6,Qi⟩;have n:=(h.o0 z).o0 o6;rcases hI with⟨rfl,hI⟩ | ⟨t,k,r0,rfl,fN,Cj,cc,Bd,hf,hm⟩
  .refine⟨Sl.nil,λh=>Ue,Sl.nil,λh=>Ue,Sl.nil,λh=>Ue,⟨0,0,Pw⟩,λh=>Ue,0,λh=>Ue,λh=>Ue,λ_ b a _=>next (o6.bU a) (ajm hI)⟩
  have ek:YR ((k:Int)>=0)=aF:=bG J;have ce:(if(sm.n:Int)<(sr.n:Int)then(sm.n:Int)else(sr.n:Int))=((min (qj p.ro) (qj may):Nat):Int):=by
   split<;>omega
  by_cases W:k<min (qj p.ro) (qj may)
  .obtain⟨r,w⟩:∃r,p.ro[k]? =aN r:=⟨_,aX J⟩
   obtain⟨mb,q⟩:∃mb,may[k]? =aN mb:=⟨_,aX J⟩
   obtain⟨yI,tg,b1,b2,_⟩:=A5 n.pl.ro w;refine⟨sr,λ_=>Om n.blk 3 I,sm,λ_=>Om n.blk 5 I,sr,λ_=>Om n.blk 3 I,yI,λ_=>b1,r.src,λ_=>b2.dP 0 _ I,λNW w7 gq co=>?_,λNW w8 fK _=>next (o6.bU fK) ?_⟩
   .have h7:=n.o0 gq;rw[B]at NW;have cC:r.src=L[j]:=by simpa using NW.2
    obtain⟨Qw,d1,d2⟩:=DL h7.may q;refine⟨sm,Om h7.blk 5 I,Qw,d1,mb,d2,λhb=>⟨?_,z.bU (o6.bU gq)⟩,λhb=>⟨H-1,J,.inr ⟨t,k+1,r0,Ye,J,J,cc,Bd,hf,λc a b=>?_⟩,o6.bU gq,co⟩⟩
    .subst hb;have a:=ad0 hf hm w cC q;rw[g];have:L.findSome? (qH p.ro may)=aN k:=by
      rw[<-dM j L,F0];have e:(L.take j).findSome? (qH p.ro may)=Pw:=by
       rw[List.findSome?_eq_none_iff];exact o
      rw[e,eu mV,List.findSome?_cons,a];rfl
     rw[this]
    by_cases e:c=k
    .rw[e,q,hb];intro h;cases h
    exact hm c a J
   refine S1 S cc Bd hf fN hm (.inr (.inr ⟨r,w,λe=>?_⟩));rw[ek,ce,ch,bG (by omega:(k:Int)<((min (qj p.ro) (qj may):Nat):Int)),ch,e]at NW;simp at NW
  have e:((YR ((k:Int)>=0))&&(YR ((k:Int)<(if(sm.n:Int)<(sr.n:Int)then(sm.n:Int)else(sr.n:Int)))))=aM:=by
   rw[ce,bD (by omega:¬(k:Int)<((min (qj p.ro) (qj may):Nat):Int)),ga]
  have b:∀{q:Prop},((YR ((k:Int)>=0))&&(YR ((k:Int)<(if(sm.n:Int)<(sr.n:Int)then(sm.n:Int)else(sr.n:Int)))))=aF->q:=λh=>by rw[e]at h;cases h
  refine⟨sr,λ_=>Om n.blk 3 I,sm,λ_=>Om n.blk 5 I,Sl.nil,λh=>b h,⟨0,0,Pw⟩,λh=>b h,0,λh=>b h,λa=>?_,λa w8 fK _=>next (o6.bU fK) (S1 S cc Bd hf fN hm J)⟩;rw[e,cR]at a;cases a
 have l:=aU l;rw[bm J]at o;refine⟨?_,z.bU Z⟩;have:L.findSome? (qH p.ro may)=Pw:=by
  rw[List.findSome?_eq_none_iff];exact o
 rw[g,this]
end
def ad7{w}{F}{s}{l}(h:aB rInt 1 w F s l){i:Nat}{x}(a:l[i]? =aN x):qO x:=by
 have W:=(bc.1 a).1;have k:=h.len;obtain⟨ad,y,c,d,g,e,f,j,b⟩:=h.get (be i) J;rw[ba,a]at g;injection g with g;subst g;exact b.2
def U0{w0 u}{s}{is}(j:cY w0.heap.size u s is)(h:az [] w0 u){n}(l:qO n)(m:qj is<=20000000) bs (c:∀k,k∈bs->k<w0.heap.size):
  ∃y w,(av 31 1 #[.mk 0 (O U n)]).run aq u=.ok (Sl.v y) w/\cj bs u w/\∃b a,(Builtin.append_ #[31,31] 31 #[Sl.v s,Sl.v y]).run aq w=.ok (Sl.v b) a/\cj bs w a/\cY w0.heap.size a b (is++[n])/\az [] w0 a:=by
 obtain⟨y,w,o,k3,b,a,g,d,f,i⟩:=X8 w0 j h n l m;have e:=λk hk=>k3.block k (cq (c k hk) h.size) X;exact⟨y,w,o,e,b,a,g,λk hk=>((λk hk=>i.block k (cq (c k hk) h.size) (by have:=c k hk;omega)) k hk).trans (e k hk).symm,d,f⟩
def BX{b:Type}{f}{l:L b}{n}{x}(h:l[n]? =aN x):(l.take (n+1)).filter f=(l.take n).filter f++if f x=aF then[x]else[]:=by
 rw[bn,h,fh];cases a:f x<;>simp[List.filter,a]
section
variable {w:aw} {F G H:A} {s si sd sr sa sm:Sl} {p:Pl} {act:L Int} {may:L M}
def FE(P:PlR w F s si sd sr p)(f:Fo p.sp)(hd:∀r,r∈p.ro->r.dom<qj p.sp)(h:aB rInt 1 w G sa act)(m:qj act<=2000000)(k:Int):
  aA aq 28 #[ah #[s.v,si.v,sd.v,sr.v],sa.v,O U k] w λe d=>(∃t,e=ak t.v/\cY w.heap.size d t (fR p.sp p.ro act k))/\az [] w d:=by
 refine gX (amY ?_);rw[<-rSl f hd];intro i a N l c;have z:=c.size;have V:=P.ro.len;have j:=h.len;have C:=h.cap;have g:=h.big;refine⟨λb=>⟨⟨Sl.nil,I,?_⟩,c⟩,λb=>?_⟩
 .rw[cy,cx,cx]at b;have e:BW p.sp p.ro act k=[]:=by
   unfold BW;split
   .rfl
   rw[cW J]
  rw[e];exact Yb _ _ _ _ _ _
 rw[fe,db,db]at b;obtain⟨v,rfl⟩:∃v:Nat,k=v:=⟨k.toNat,J⟩
 obtain⟨r,A⟩:∃r,p.ro[v]? =aN r:=⟨_,aX J⟩
 have e:BW p.sp p.ro act (v:Int)=act.filter λx=>wD p.sp x r.dom:=by
  unfold BW;rw[R J,ba,A]
 rw[e];refine⟨λw q B o=>∃n:Nat,B=(n:Int)/\w+n=qj act/\n<=qj act/\cY a.heap.size o q ((act.take n).filter λx=>wD p.sp x r.dom)/\az [] a o,qj act,⟨0,I,J,bf _,Yb _ _ _ _ _ _,Ib _ _⟩,?_⟩;rintro w q _ o ⟨n,rfl,Q,D,t,s⟩;refine⟨λG=>?_,λG=>?_⟩
 .have G:=u G;obtain⟨x,e⟩:∃x,act[n]? =aN x:=⟨_,aX J⟩
  have H:=c.bU s;obtain⟨ad,k,_⟩:=gW (kI h H) e;have ht:qj ((act.take n).filter λx=>wD p.sp x r.dom)<=n:=bB (cH _ _) Uq;refine⟨λL o=>cY a.heap.size o L _/\az [] a o,λL o ⟨h1,h2⟩=>⟨w-1,J,n+1,Ye,J,J,h1,h2⟩,ad,k,λw3 Z=>?_⟩;have E:=H.bU Z;obtain⟨yE,q,F⟩:=gW (kI h E) e;obtain rfl:=Zk k q;obtain⟨yI,tg,M,T,_⟩:=A5 (P.o0 E).ro A;refine⟨x,F,yI,M,r.dom,T.dP 6 _ I,(BU (P.o0 E).sp x r.dom).mono ?_⟩;rintro _ u' ⟨rfl,hu⟩;obtain rfl:w3=u':=hu.symm;rw[BX e];refine⟨_,I,TT _ _,λhb=>?_,λhb=>⟨by rw[R PO,bC];exact gx t Z,s.bU Z⟩⟩;obtain⟨y,w5,k1,k2,s',w6,W,X,Y,g4⟩:=U0 (gx t Z) (s.bU Z) (ad7 h e) J [i] S;exact⟨ad,k,x,F,y,w5,k1,k2,s',w6,W,X,by rw[K hb];exact Y,g4⟩
 have G:=aU G;have:n=qj act:=J
 subst this;rw[bm (aY _)]at t;exact⟨⟨q,I,Oq t z⟩,c.bU s⟩
def Ns(P:PlR w F s si sd sr p)(l:Fo p.sp)(hd:∀z,z∈p.ro->z.dom<qj p.sp)(v:aB rInt 1 w G sa act)(m:qj act<=2000000)(i j:Int):
  aA aq 16 #[ah #[s.v,si.v,sd.v,sr.v],sa.v,O U i,O U j] w λe K=>e=ak (aj (fY p.sp p.ro act i j))/\az [] w K:=by
 refine ret (amX ?_);rw[adG];unfold fY;have V:∀q,qj (fR p.sp p.ro act q)<=2000000:=λq=>by
  unfold fR;split
  .exact bf _
  split
  .split
   .exact bf _
   exact bB (cH _ _) m
  exact bf _
 intro Z w0 Q L d;have z0:=d.size;refine(FE (P.o0 d) l hd (kI v d) m i).mono ?_;rintro _ w1 ⟨⟨t,rfl,C⟩,r⟩;have z1:=r.size;have o:=d.bU r;refine⟨t,I,r.same S,(FE (P.o0 o) l hd (kI v o) m j).mono ?_⟩;rintro _ A ⟨⟨D,rfl,g⟩,c⟩;have z2:=c.size;have y:=o.bU c;have h:=(gx C c).slice bO;have B:=g.slice bO;have M:=V i;have N:=V j;generalize fR p.sp p.ro act i=a at*
 generalize fR p.sp p.ro act j=Y at*
 have T:=h.len;have R:=h.cap;have f:=h.big;refine⟨D,I,c.same S,λk i E=>∃n:Nat,i=(n:Int)/\k+n=qj a/\n<=qj a/\((a.take n).any λx=>YR (x∈Y))=aM/\A=E,qj a,⟨0,I,J,bf _,X,I⟩,?_⟩;rintro k _ _ ⟨n,rfl,nQ,W,H,rfl⟩;refine⟨λb=>?_,λb=>?_⟩
 .have b:=u b;obtain⟨x,e⟩:∃x,a[n]? =aN x:=⟨_,aX J⟩
  obtain⟨ad,p,q⟩:=gW h e;refine⟨ad,p,x,q,(JK B x J).mono ?_⟩;rintro _ t ⟨rfl,s⟩;obtain rfl:A=t:=s.symm;refine⟨_,I,TT _ _,λf=>⟨?_,y⟩,λf=>⟨k-1,J,n+1,Ye,J,J,?_,I⟩⟩
  .have:(a.any λx=>YR (x∈Y))=aF:=gr.2 ⟨x,bp e,f⟩;rw[this]
  rw[bn,e,qW,H];simpa using f
 have b:=aU b;rw[bm J]at H;exact⟨by rw[H],y⟩
def agi{l}{x:L dC}(h:aB oV 5 w F l x)(a:Fo x)(m:qj x<=1000000){n}(f:n<qj x):
  aA aq 99 #[l.v,O U (n:Int)] w λe d=>(∃t:Sl,e=ak t.v/\cY w.heap.size d t (qG x (qj x) (yB x n)))/\az [] w d:=by
 refine gX (ano ?_);have g:=h.len;refine⟨λc=>?_,λc=>?_⟩
 .rw[cy,cx,cx]at c;omega
 obtain⟨y,l⟩:=fE f;obtain⟨ad,r,_,s,_⟩:=iP h l;have A:=a.yT l;refine⟨ad,r,y.pa,s,λk q i o=>∃out:L Int,cY w.heap.size o q out/\az [] w o/\out++qG x k i=qG x (qj x) (yB x n)/\i<k/\k<=qj x/\qj out+k<=qj x,qj x,⟨[],Yb _ _ _ _ _ _,Ib _ _,by rw[jZ l];rfl,J,aY _,X⟩,?_⟩;rintro k q i o ⟨out,S,p,j,v,hk,t⟩;refine⟨λG=>?_,λG=>?_⟩
 .have G:=u G;obtain⟨q,rfl⟩:∃q,k=q+1:=⟨k-1,J⟩
  obtain⟨b,rfl⟩:∃b:Nat,i=b:=⟨i.toNat,J⟩
  obtain⟨z,e⟩:=fE (xs:=x) (i:=b) J;obtain⟨P,M,F,_,H,N,C,_,D,w⟩:=U0 S p (n:=b) ⟨J,J⟩ J [] X;obtain⟨Q,y,_,B,_⟩:=iP (CY h w) e;have E:=a.yT e;refine⟨P,M,F,H,N,C,Q,y,z.pa,B,q,J,out++[(b:Int)],D,w,?_,J,J,XO⟩;rw[qG,R J,jZ e]at j;rw[<-j,bq];rfl
 have G:=aU G;have e:qG x k i=[]:=by
  cases k with
  | zero=>rfl
  | succ b=>rw[qG,K J]
 rw[e,bC]at j;rw[<-j];exact⟨⟨q,I,S⟩,p⟩
def gdM{ro}{may}{n}{k}(h:qj ro<=k∨(qj may)<=k):CX ro may n k=aM:=by
 unfold CX;rcases h with h | h
 .rw[cW h]
 rw[cW h];cases ro[k]? <;>rfl
def dpL(h:PlR w F s si sd sr p)(d:aB rBool 1 w H sm may)(n:Int):
  aA aq 100 #[ah #[s.v,si.v,sd.v,sr.v],O U n,sm.v] w λe l=>e=ak (O U (match qH p.ro may n with | some k=>k | none=> -1))/\az [] w l:=by
 refine ret (anp ?_);intro t f N S c;have V:=h.ro.len;have g:=h.ro.cap;have r:=h.ro.big;have y:=d.len;have M:aB rBool 1 f H sm may:=Wg j6 Z d c X;refine⟨λv i u=>∃j:Nat,i=j/\v+j=qj p.ro/\j<=qj p.ro/\(∀m,m<j->CX p.ro may n m=aM)/\f=u,qj p.ro,⟨0,I,J,bf _,λm o=>J,I⟩,?_⟩;rintro v _ _ ⟨j,rfl,Q,q,R,rfl⟩;refine⟨λa=>?_,λa=>?_⟩
 .rw[B,cx,cx]at a;obtain⟨k,x⟩:∃k,p.ro[j]? =aN k:=⟨_,aX J⟩
  obtain⟨b,w⟩:∃b,may[j]? =aN b:=⟨_,aX J⟩
  obtain⟨ad,G,z,A,_⟩:=A5 (h.o0 c).ro x;obtain⟨E,C,D⟩:=DL M w;have hk:CX p.ro may n j=(b&&(k.src==n)):=by
   unfold CX;rw[x,w];cases b
   .rfl
   dsimp only;rw[ch,bK];simp
  refine⟨E,C,b,D,ad,λ_=>z,k.src,λ_=>A.dP 0 _ I,λs=>⟨?_,c⟩,λs=>⟨v-1,J,j+1,Ye,J,J,λm F=>?_,I⟩⟩
  .rw[S0 R (hk.trans s)]
  by_cases e:m=j
  .subst e;exact hk.trans s
  exact R m J
 rw[JM λk=>?_]
 .exact⟨I,c⟩
 by_cases b:k<j
 .exact R k b
 refine gdM ?_;rw[ii,db,db]at a;omega
end
def Nt(x:L dC):∀(f:Nat) (n:Int),qj (qG x f n)<=f
 | 0,_=>H _
 | f+1,n=>by
  unfold qG;split
  .exact bf _
  rw[aZ];have:=Nt x f (yB x n);omega
section
variable {w:aw} {F G H:A} {s si sd sr sa sm:Sl} {p:Pl} {act:L Int} {may:L M}
def aiY(h:PlR w F s si sd sr p)(j:Sd p.sp)(E:aB rInt 1 w G sa act)(hm:qj act<=2000000)(M:aB rBool 1 w H sm may):
  aA aq 53 #[ah #[s.v,si.v,sd.v,sr.v],sa.v,sm.v] w λe C=>(∃t:Sl,e=ak t.v/\cY w.heap.size C t ((Hm p.sp act).foldl (sQ p.sp p.ro may) []))/\az [] w C:=by
 refine gX (am8 ?_);have ru:=j.le;intro Y w0 fN dS i;have z0:=i.size;refine(abU (h.o0 i).sp j (kI E i) J).mono ?_;rintro _ c ⟨⟨tl,rfl,yU⟩,r⟩;have z1:=r.size;have o:=i.bU r;have L:=yU.slice bO;have D:∀x,x∈Hm p.sp act->∃k:Nat,x=k/\k<qj p.sp:=λx f=>by
  obtain⟨k,e,hk,_⟩:=DA.1 f;exact⟨k,e,hk⟩
 have W:qj (Hm p.sp act)<=qj p.sp:=AN _ _;generalize Hm p.sp act=v at*
 have Ke:=L.len;have P:=L.cap;have N:=L.big;have V:=h.ro.cap;have T:=h.ro.big;have Vy:=h.ro.len;refine⟨tl,I,r.same S,λg q m z=>∃n:Nat,m=(n:Int)/\g+n=qj v/\n<=qj v/\cY c.heap.size z q ((v.take n).foldl (sQ p.sp p.ro may) [])/\az [] c z,qj v,⟨0,I,J,bf _,Yb _ _ _ _ _ _,Ib _ _⟩,?_⟩;rintro g q _ z ⟨n,rfl,nQ,hn,Q,B⟩;refine⟨λd=>?_,λd=>?_⟩
 .have d:=u d;obtain⟨x,f⟩:∃x,v[n]? =aN x:=⟨_,aX J⟩
  obtain⟨b,rfl,hb⟩:=D x (bp f);have mR:(v.take (n+1)).foldl (sQ p.sp p.ro may) []=sQ p.sp p.ro may ((v.take n).foldl (sQ p.sp p.ro may) []) (b:Int):=by
   rw[bn,f,jR];rfl
  have aS:qj ((v.take n).foldl (sQ p.sp p.ro may) [])<=1000:=by
   have:=Nn (xs:=p.sp) (ro:=p.ro) (may:=may) (l:=v.take n) (A:=[]);rw[ci,bE]at this;omega
  generalize (v.take n).foldl (sQ p.sp p.ro may) []=out at*
  have am:qG p.sp (qj p.sp+1) (b:Int)=(b:Int)::qG p.sp (qj p.sp) (yB p.sp b):=by rw[qG,R J]
  have aT:=Nt p.sp (qj p.sp) (yB p.sp (b:Int));have s:lj p.sp p.ro may (b:Int)=match((b:Int)::qG p.sp (qj p.sp) (yB p.sp b)).findSome? (qH p.ro may)with
   | some k=>(k:Int)
   | none=> -1:=by rw[<-am];rfl
  have aC:qj ((b:Int)::qG p.sp (qj p.sp) (yB p.sp b))<=1000:=by rw[aZ];omega
  refine⟨λH F=>cY c.heap.size F H (sQ p.sp p.ro may out (b:Int))/\az [] c F,λH F ⟨h1,h2⟩=>⟨g-1,J,n+1,Ye,J,J,by rw[mR];exact h1,h2⟩,λH F=>(∃Gw,aB rInt 1 F Gw H ((b:Int)::qG p.sp (qj p.sp) (yB p.sp b)))/\cY c.heap.size F q out/\az [] c F,?_,λw eG=>?_⟩
  .rintro l3 w4 ⟨⟨Gw,hW⟩,t,l⟩;generalize (b:Int)::qG p.sp (qj p.sp) (yB p.sp b)=a at*
   have bv:=hW.len;refine⟨λg H m F=>∃e:Nat,m=(e:Int)/\g+e=qj a/\e<=qj a/\q=H/\(a.take e).findSome? (qH p.ro may)=Pw/\az [] w4 F,qj a,⟨0,I,J,bf _,I,X,Ib _ _⟩,?_⟩;rintro tS _ _ w5 ⟨e,rfl,Cj,rD,rfl,A,x⟩;refine⟨λG=>?_,λG=>?_⟩
   .have G:=u G;obtain⟨y,hy⟩:∃y,a[e]? =aN y:=⟨_,aX J⟩
    obtain⟨ad,a1,_⟩:=gW (kI hW x) hy;refine⟨ad,a1,λw6 dV=>?_⟩;have q:=x.bU dV;obtain⟨yE,cc,a2⟩:=gW (kI hW q) hy;obtain rfl:=Zk a1 cc;have o6:=o.bU (l.bU q);have z6:=(l.bU q).size;refine⟨y,a2,(dpL (h.o0 o6) (Wg j6 Z M o6 X) y).mono ?_⟩;rintro _ w7 ⟨rfl,gq⟩;have z7:=gq.size;have bV:=q.bU gq;have bY:(a.take (e+1)).findSome? (qH p.ro may)=qH p.ro may y:=by
     rw[bn,hy,F0,A];simp
    rcases hr:qH p.ro may y with _|k
    .exact⟨_,I,gq.same S,λ_=>⟨tS-1,J,e+1,Ye,J,J,I,by rw[bY,hr],bV⟩,λb=>absurd b Z⟩
    have co:a.findSome? (qH p.ro may)=aN k:=by
     rw[<-dM (e+1) a,F0,bY,hr];rfl
    rw[co]at s;have s:lj p.sp p.ro may (b:Int)=(k:Int):=s;obtain⟨dO,cC,_⟩:=BI hr;have B8:=(bc.1 cC).1;have y:=gx t bV;refine⟨(k:Int),I,gq.same S,λce=>absurd (u ce) J,λ_=>(JK (y.slice bO) k J).mono ?_⟩;rintro _ u8 ⟨rfl,hu⟩;obtain rfl:w7=u8:=hu.symm;refine⟨_,I,TT _ _,λsF=>?_,λsF=>?_⟩
    .obtain⟨y1,w9,b,p,s',dq,d3,d4,d5,d6⟩:=U0 y (l.bU bV) (n:=(k:Int)) ⟨J,J⟩ J [Y] S;exact⟨y1,w9,b,p,s',dq,d3,d4,by rw[sQ,s,R (λce=>ce.elim J (by simpa using sF))];exact d5,d6⟩
    exact⟨by rw[sQ,s,K (.inr (by simpa using sF))];exact y,l.bU bV⟩
   have G:=aU G;rw[bm J]at A;rw[A]at s;have s:lj p.sp p.ro may (b:Int)= -1:=s;exact⟨by rw[sQ,s,K (.inl Z)];exact gx t x,l.bU x⟩
  have l:=B.bU eG;have GD:=l.size;have x:=o.bU l;obtain⟨ad,q,n⟩:=gW (kI L l) f;have p:ad.block<w.heap.size:=n.lt;refine⟨λk=>k<w.heap.size,ad,q,p,(b:Int),n,J,ad,q,p,(b:Int),n,?_,?_⟩
  .obtain⟨y,ey,k1,k3,k2⟩:=Np w (a:=(b:Int)) ⟨J,J⟩;have eQ:=k3.size;refine⟨y,ey,k1,k3.same S,Uy k3,(agi (h.o0 (x.bU k3)).sp j.fo J hb).mono ?_⟩;rintro _ eY ⟨⟨t,rfl,ht⟩,dE⟩;have Vl:=dE.size;obtain⟨s',fV,g1,g2,g3,g4⟩:=HE (A:=w.heap.size) (gx k2 dE) J (ht.slice bO) (λk hk e=>by have h1:=(k2.blk e).2;have h2:=(hk.resolve_left id).1;dsimp only at h1;omega) TX;have lA:∀k,jK y k->w.heap.size<=k:=λk e=>(k2.blk e).1;have el:az [] w fV:=((k3.bU dE).nP (g3.mono (G:=λk=>w.heap.size<=k) λk _ e=>lA k e)).only λk hk=>hk;exact⟨t,I,dE.same S,Uy dE,s',fV,g1,g3.same (λk hk=>⟨TQ,λe=>by have:=lA k e;simp only[aV]at hk;omega⟩),λk hk hl=>g3.block k hl λe=>PS,⟨_,g2.slice bO⟩,gx (gx Q eG) el,l.bU el⟩
  refine(agi (h.o0 x).sp j.fo J hb).mono ?_;rintro _ fT ⟨⟨t,rfl,ht⟩,ir⟩;have f5:=ir.size;obtain⟨y,iE,k1,k3,k2⟩:=Np fT (a:=(b:Int)) ⟨J,J⟩;have f6:=k3.size;have QA:=WV bO (ht.slice bO) Z;obtain⟨s',gL,g1,g2,g3,g4⟩:=HE (A:=fT.heap.size) k2 J (kI QA k3) (λk hk e=>by have h1:=(k2.blk e).1;have h2:=hk.2;dsimp only at h1;omega) TX;have lA:∀k,jK y k->fT.heap.size<=k:=λk e=>(k2.blk e).1;have fd:az [] w gL:=((ir.bU k3).nP (g3.mono (G:=λk=>w.heap.size<=k) λk _ e=>PS)).only λk hk=>hk;exact⟨t,I,ir.same S,Uy ir,y,iE,k1,k3.same S,Uy k3,s',gL,g1,g3.same (λk hk=>⟨TQ,λe=>by have:=lA k e;simp only[aV]at hk;omega⟩),λk hk hl=>g3.block k hl λe=>PS,⟨_,g2.slice bO⟩,gx (gx Q eG) fd,l.bU fd⟩
 have d:=aU d;rw[bm J]at Q;exact⟨⟨q,I,Oq Q J⟩,o.bU B⟩
end
section
variable {xs:L dC} {ro:L Ro} {act:L Int} {may:L M}
def ad9{leaf}(h:0<=lj xs ro may leaf):∃k:Nat,lj xs ro may leaf=k/\k<qj ro:=by
 unfold lj at h⊢;rcases hf:(qG xs _ leaf).findSome? _ with _|k
 .rw[hf]at h;exact absurd h Z
 obtain⟨n,_,hk⟩:=unM hf;obtain⟨r,a,_⟩:=BI hk;exact⟨k,I,(bc.1 a).1⟩
def aea{l A:L Int}:∀x,x∈l.foldl (sQ xs ro may) A->x∈A∨∃k:Nat,x=k/\k<qj ro:=by
 induction l generalizing A with
 | nil=>exact λx h=>.inl h
 | cons y l i=>
  intro x a;rcases i x a with h | h
  .unfold sQ at h;split at h
   .exact .inl h
   rename_i c;rcases bQ.1 h with h | h
   .exact .inl h
   obtain⟨k,e,hk⟩:=ad9 (Int.not_lt.1 λh=>c (.inl h));exact .inr ⟨k,by rw[<-e];simpa using h,hk⟩
  exact .inr h
def aiZ{l g:L Int}:∀x,x∈l.foldl (CH xs ro act) g->x∈g∨x∈l:=by
 induction l generalizing g with
 | nil=>exact λx h=>.inl h
 | cons y l i=>
  intro x a;rcases i x a with h | h
  .unfold CH at h;split at h
   .exact .inl h
   rcases bQ.1 h with h | h
   .exact .inl (jb.1 h).1
   exact .inr (by rw[aV.1 h];exact .head _)
  exact .inr (.tail _ h)
def ag0{k:Nat}{r}(h:ro[k]? =aN r):MQ ro k=r.src:=by
 unfold MQ;rw[ba,h]
end
section
variable {w:aw} {F G H:A} {s si sd sr sa sm sk:Sl} {p:Pl} {act ks:L Int} {may:L M}
def ajH(h:PlR w F s si sd sr p)(j:Sd p.sp)(hd:∀r,r∈p.ro->r.dom<qj p.sp)(z:∀r,r∈p.ro->r.src<qj p.sp)(E:aB rInt 1 w G sa act)(M:qj act<=2000000)(W:aB rBool 1 w H sm may):
  aA aq 13 #[ah #[s.v,si.v,sd.v,sr.v],sa.v,sm.v] w λe T=>(∃t:Sl,e=ak t.v/\cY w.heap.size T t (pZ p.sp p.ro act may))/\az [] w T:=by
 refine gX (amV ?_);rw[aeD];have ru:=j.le;intro P V fN dS g;have z0:=g.size;refine(aiY (h.o0 g) j (kI E g) M (Wg j6 Z W g X)).mono ?_;rintro _ m ⟨⟨tl,rfl,yU⟩,o⟩;have z1:=o.size;have D:=g.bU o;have L:=yU.slice bO;have N:∀x,x∈(Hm p.sp act).foldl (sQ p.sp p.ro may) []->∃k:Nat,x=k/\k<qj p.ro:=λx d=>(aea x d).resolve_left X;have aC:qj ((Hm p.sp act).foldl (sQ p.sp p.ro may) [])<=64:=by
  have:=Nn (xs:=p.sp) (ro:=p.ro) (may:=may) (l:=Hm p.sp act) (A:=[]);have b:qj (Hm p.sp act)<=qj p.sp:=AN _ _;rw[bE]at this;omega
 generalize (Hm p.sp act).foldl (sQ p.sp p.ro may) []=v at*
 have Ke:=L.len;have Vy:=h.ro.len;have am:=h.ro.cap;have Y:=h.ro.big;refine⟨tl,I,o.same S,λC q B a=>∃n:Nat,B=(n:Int)/\C+n=qj v/\n<=qj v/\cY m.heap.size a q ((v.take n).foldl (CH p.sp p.ro act) [])/\az [] m a,qj v,⟨0,I,J,bf _,Yb _ _ _ _ _ _,Ib _ _⟩,?_⟩;rintro C q _ a ⟨n,rfl,nQ,hn,Q,f⟩;refine⟨λi=>?_,λi=>?_⟩
 .have i:=u i;obtain⟨x,d⟩:∃x,v[n]? =aN x:=⟨_,aX J⟩
  obtain⟨b,rfl,hb⟩:=N x (bp d);have mR:(v.take (n+1)).foldl (CH p.sp p.ro act) []=CH p.sp p.ro act ((v.take n).foldl (CH p.sp p.ro act) []) (b:Int):=by
   rw[bn,d,jR];rfl
  have aT:qj ((v.take n).foldl (CH p.sp p.ro act) [])<=64:=by
   have:=aew (xs:=p.sp) (ro:=p.ro) (act:=act) (l:=v.take n) (g:=[]);rw[ci,bE]at this;omega
  have aS:∀e,e∈(v.take n).foldl (CH p.sp p.ro act) []->∃k:Nat,e=k/\k<qj p.ro:=λe A=>N e (GN ((aiZ e A).resolve_left X));generalize (v.take n).foldl (CH p.sp p.ro act) []=q at*
  obtain⟨rb,G⟩:∃r,p.ro[b]? =aN r:=⟨_,aX hb⟩
  have bv:=(Q.slice bO).len;refine⟨λq' t=>cY m.heap.size t q' (CH p.sp p.ro act q (b:Int))/\az [] m t,λq' t ⟨h1,h2⟩=>⟨C-1,J,n+1,Ye,J,J,by rw[mR];exact h1,h2⟩,λtS q2 ok B t=>∃s:Nat,B=(s:Int)/\tS+s=qj q/\s<=qj q/\cY a.heap.size t q2 ((q.take s).filter λe=>!fY p.sp p.ro act b e)/\ok=(q.take s).all (λe=>!fY p.sp p.ro act b e||mS p.sp p.ro b e)/\az [] a t,qj q,⟨0,I,J,bf _,Yb _ _ _ _ _ _,X,Ib _ _⟩,?_⟩;rintro tS q2 _ _ w4 ⟨s,rfl,Cj,rD,w,rfl,F⟩;refine⟨λH=>?_,λH=>?_⟩
  .have H:=u H;obtain⟨e,A⟩:∃e,q[s]? =aN e:=⟨_,aX J⟩
   obtain⟨c,rfl,sK⟩:=aS e (bp A);obtain⟨rc,k⟩:∃r,p.ro[c]? =aN r:=⟨_,aX sK⟩
   have o4:=f.bU F;obtain⟨ad,a1,_⟩:=gW (kI L o4) d;refine⟨ad,a1,λw5 eJ=>?_⟩;have o5:=o4.bU eJ;have bV:=D.bU o5;have p5:=F.bU eJ;obtain⟨yE,bY,a2⟩:=gW (kI L o5) d;obtain rfl:=Zk a1 bY;have ce:=(gx Q p5).slice bO;obtain⟨yI,b1,b2⟩:=gW ce A;refine⟨(b:Int),a2,yI,b1,(c:Int),b2,(Ns (h.o0 bV) j.fo hd (kI E bV) M b c).mono ?_⟩;rintro _ w6 ⟨rfl,dV⟩;have z5:=o5.size;refine⟨_,I,dV.same S,ad,a1,λw7 gq=>?_⟩;have o7:=(o5.bU dV).bU gq;have l:=D.bU o7;have p7:=(p5.bU dV).bU gq;have z7:=o7.size;obtain⟨Qw,a3,a4⟩:=gW (kI L o7) d;obtain rfl:=Zk a1 a3;obtain⟨x,b3,b4⟩:=gW ((gx Q p7).slice bO) A;obtain⟨ar,_,c1,c2,_⟩:=A5 (h.o0 l).ro G;obtain⟨cc,_,c3,c4,_⟩:=A5 (h.o0 l).ro k;refine⟨(b:Int),a4,ar,c1,rb.src,c2.dP 0 _ I,x,b3,(c:Int),b4,cc,c3,rc.src,c4.dP 0 _ I,(BU (h.o0 l).sp rb.src rc.src).mono ?_⟩;rintro _ u8 ⟨rfl,hu⟩;obtain rfl:w7=u8:=hu.symm;have NU:wD p.sp rb.src rc.src=mS p.sp p.ro b c:=by
    rw[PM j.fo _ _ (z rc (bp k)),mS,ag0 G,ag0 k]
   rw[NU];have lS:qj (q.take s)=s:=Uq
   have VW:qj ((q.take s).filter λe=>!fY p.sp p.ro act b e)<=s:=bB (cH _ _) J;refine⟨_,I,TT _ _,λq' t=>cY a.heap.size t q' ((q.take (s+1)).filter λe=>!fY p.sp p.ro act b e)/\az [] a t,λq' t ⟨h1,h2⟩=>⟨tS-1,J,s+1,Ye,J,J,h1,by rw[bn,A,iw];simp,h2⟩,λsF=>?_,λsF=>?_⟩
   .obtain⟨y,dq,b,p,s',dB,d3,d4,d5,d6⟩:=U0 (w0:=a) (gx w ((eJ.bU dV).bU gq)) p7 (n:=(c:Int)) ⟨J,J⟩ J [P] (by have:=f.size;simp;omega);exact⟨x,b3,(c:Int),b4,y,dq,b,p,s',dB,d3,d4,by rw[BX A,K sF];exact d5,d6⟩
   exact⟨by rw[BX A,R (by rw[sF];decide),bC];exact gx w ((eJ.bU dV).bU gq),p7⟩
  have H:=aU H;have k:s=qj q:=J
  subst k;rw[bm (aY _)]at w⊢;have VW:qj (q.filter λe=>!fY p.sp p.ro act b e)<=64:=bB (cH _ _) aT;have l:(q.all λe=>!fY p.sp p.ro act b e||mS p.sp p.ro b e)=!(q.any λe=>fY p.sp p.ro act b e&&!mS p.sp p.ro b e):=by
   rw[List.not_any_eq_all_not];congr 1;funext e;cases fY p.sp p.ro act b e<;>cases mS p.sp p.ro b e<;>rfl
  have x:=f.size;refine⟨λc=>?_,λc=>?_⟩
  .obtain⟨ad,p,a2⟩:=gW (kI L (f.bU F)) d;obtain⟨y,ey,d1,d2,s',eY,d3,d4,d5,d6⟩:=U0 (w0:=a) w F (n:=(b:Int)) ⟨J,J⟩ J [P] S;refine⟨ad,p,(b:Int),a2,y,ey,d1,d2,s',eY,d3,d4,?_,f.bU d6⟩;rw[l]at c;rw[CH,R (by rw[da]at c;rw[c];decide)];exact Oq d5 x
  rw[l]at c;refine⟨?_,f.bU F⟩;rw[CH,K (by simpa using c)];exact gx Q F
 have i:=aU i;rw[bm J]at Q;exact⟨⟨q,I,Oq Q J⟩,D.bU f⟩
def aeb(P:PlR w F s si sd sr p)(l:Fo p.sp)(M:qj p.sp<=64)(hd:∀r,r∈p.ro->r.dom<qj p.sp)(o:aB rInt 1 w G sa act)(m:qj act<=2000000)(h:aB rInt 1 w H sk ks):
  aA aq 14 #[ah #[s.v,si.v,sd.v,sr.v],sa.v,sk.v] w λe j=>(∃t:Sl,e=ak t.v/\cY w.heap.size j t (MA (qj p.sp) (CI p.sp p.ro act ks)))/\az [] w j:=by
 refine gX (amW ?_);have V:∀q,qj (fR p.sp p.ro act q)<=2000000:=λq=>by
  unfold fR;split
  .exact bf _
  split
  .split
   .exact bf _
   exact bB (cH _ _) m
  exact bf _
 have T:=P.sp.len;have C:=h.len;have z:=h.cap;have x:=h.big;intro A f N D g;have B:=g.size;refine⟨λv q i d=>∃n:Nat,i=(n:Int)/\v+n=qj p.sp/\n<=qj p.sp/\cY f.heap.size d q (MA n (CI p.sp p.ro act ks))/\az [] f d,qj p.sp,⟨0,I,J,bf _,Yb _ _ _ _ _ _,Ib _ _⟩,?_⟩;rintro v q _ d ⟨n,rfl,L,E,Q,a⟩;refine⟨λc=>?_,λc=>?_⟩
 .have c:=u c;have Y:=AN n (CI p.sp p.ro act ks);refine⟨λH q=>cY f.heap.size q H (MA (n+1) (CI p.sp p.ro act ks))/\az [] f q,λH q ⟨s,w⟩=>⟨v-1,J,n+1,Ye,J,J,s,w⟩,λF b i q=>∃e:Nat,i=(e:Int)/\F+e=qj ks/\e<=qj ks/\b=((ks.take e).any λk=>YR ((n:Int)∈fR p.sp p.ro act k))/\az [] d q,qj ks,⟨0,I,J,bf _,X,Ib _ _⟩,?_⟩;rintro F _ _ w3 ⟨e,rfl,W,rD,rfl,Z⟩;refine⟨λG=>?_,λG=>?_⟩
  .have G:=u G;obtain⟨k,hk⟩:∃k,ks[e]? =aN k:=⟨_,aX J⟩
   have lS:((ks.take (e+1)).any λk=>YR ((n:Int)∈fR p.sp p.ro act k))=(((ks.take e).any λk=>YR ((n:Int)∈fR p.sp p.ro act k))||YR ((n:Int)∈fR p.sp p.ro act k)):=by
    rw[bn,hk,qW];simp
   refine⟨λb' q=>b'=((ks.take (e+1)).any λk=>YR ((n:Int)∈fR p.sp p.ro act k))/\az [] d q,λb' q ⟨s,w⟩=>⟨F-1,J,e+1,Ye,J,J,s,w⟩,λhb w5 eJ=>⟨by rw[lS,hb];rfl,Z.bU eJ⟩,λhb=>?_⟩;have ow:=g.bU (a.bU Z);obtain⟨ad,a1,_⟩:=gW (kI h ow) hk;refine⟨ad,a1,λw6 dV=>?_⟩;have b:=ow.bU dV;have z6:=((a.bU Z).bU dV).size;obtain⟨yE,y,a2⟩:=gW (kI h b) hk;obtain rfl:=Zk a1 y;refine⟨k,a2,(FE (P.o0 b) l hd (kI o b) m k).mono ?_⟩;rintro _ w7 ⟨⟨t,rfl,ht⟩,gq⟩;have:=V k;refine⟨t,I,gq.same S,(JK (ht.slice bO) n J).mono ?_⟩;rintro _ u8 ⟨rfl,hu⟩;obtain rfl:w7=u8:=hu.symm;exact⟨_,I,TT _ _,by rw[lS,hb];rfl,(Z.bU dV).bU gq⟩
  have G:=aU G;rw[bm J];have hp:(ks.any λk=>YR ((n:Int)∈fR p.sp p.ro act k))=CI p.sp p.ro act ks n:=I;rw[hp,Ff];refine⟨λhb=>?_,λhb=>⟨by rw[R PO,bC];exact gx Q Z,a.bU Z⟩⟩;obtain⟨y,w9,b,t,s',dq,d3,d4,d5,d6⟩:=U0 (gx Q Z) (a.bU Z) (n:=(n:Int)) ⟨J,J⟩ J [A] S;exact⟨y,w9,b,t,s',dq,d3,d4,by rw[K hb];exact d5,d6⟩
 have c:=aU c;have:n=qj p.sp:=J
 subst this;exact⟨⟨q,I,Oq Q B⟩,g.bU a⟩
end
def kZ(W:Int->Nat):L Int->Nat
 | []=>0
 | r::l=>W r+kZ W l
def nZ(W:Int->Nat):L Int->Nat
 | []=>1
 | r::l=>W r*nZ W l
def BZ W r:∀l,kZ W (l++[r])=kZ W l+W r
 | []=>by simp[kZ]
 | x::l=>by rw[cb,kZ,kZ,BZ W r l,dA]
def B0 W r:∀l,nZ W (l++[r])=nZ W l*W r
 | []=>by simp[nZ]
 | x::l=>by rw[cb,nZ,nZ,B0 W r l,Nat.mul_assoc]
def FF{W V}:∀{l:L Int},(∀r,r∈l->W r=V r)->kZ W l=kZ V l
 | [],_=>rfl
 | x::l,h=>by rw[kZ,kZ,h x (.head _),FF λr a=>h r (.tail _ a)]
def FG{W V}:∀{l:L Int},(∀r,r∈l->W r=V r)->nZ W l=nZ V l
 | [],_=>rfl
 | x::l,h=>by rw[nZ,nZ,h x (.head _),FG λr a=>h r (.tail _ a)]
def HH W:∀l j,kZ W (l.take j)<=kZ W l
 | [],j=>X
 | x::l,0=>by simp[kZ]
 | x::l,j+1=>by rw[fF,kZ,kZ];have:=HH W l j;omega
def FH{W}:∀{l:L Int},(∀r,r∈l->0<W r)->0<nZ W l
 | [],_=>Nat.one_pos
 | x::l,h=>by rw[nZ];exact Nat.mul_pos (h x (.head _)) (FH λr a=>h r (.tail _ a))
def aia{W}:∀{l:L Int} j,(∀r,r∈l->0<W r)->nZ W (l.take j)<=nZ W l
 | [],j,_=>X
 | x::l,0,h=>by rw[cu];exact FH h
 | x::l,j+1,h=>by rw[fF,nZ,nZ];exact Km _ (aia j λr a=>h r (.tail _ a))
def wy(x:L dC):Nat->Nat->Nat
 | 0,_=>1
 | f+1,n=>if(gH x n).length=0 then 1 else if kd x n=2 then nZ (λr=>wy x f r.toNat) (gH x n)else kZ (λr=>wy x f r.toNat) (gH x n)
def W(x:L dC)(r:Int):Nat:=wy x (qj x) r.toNat
section
variable {xs:L dC}
def S3(h:Sd xs):∀f g n,qj xs<=n+f->qj xs<=n+g->wy xs f n=wy xs g n
 | 0,0,_,_,_=>rfl
 | 0,g+1,n,f,_=>by
  have:gH xs n=[]:=uV.2 λa r=>by
   obtain⟨q,t,_,b,_,_,c,_⟩:=h.U9 r;have:=gp b;omega
  rw[wy,wy,this];rfl
 | f+1,0,n,_,a=>by
  have:gH xs n=[]:=uV.2 λb r=>by
   obtain⟨q,t,_,c,_,_,d,_⟩:=h.U9 r;have:=gp c;omega
  rw[wy,wy,this];rfl
 | f+1,g+1,n,b,c=>by
  have k:∀r,r∈gH xs n->wy xs f r.toNat=wy xs g r.toNat:=λr a=>by
   obtain⟨q,t,rfl,_,_,_,d,_⟩:=h.U9 a;exact S3 h f g q J J
  rw[wy,wy,FF k,FG k]
def Sd.aqf(F:Sd xs)(n:Nat):W xs n=if(gH xs n).length=0 then 1 else if kd xs n=2 then nZ (W xs) (gH xs n)else kZ (W xs) (gH xs n):=by
 have h:W xs n=wy xs (qj xs+1) n:=by
  unfold W;exact S3 F _ _ n J J
 rw[h,wy];rfl
def qQ(x:L dC)(r:Int):Nat:=(Wj x r-r).toNat
def ai0{x y}(h:2<=x)(c:2<=y):x+y<=x*y:=by
 obtain⟨a,rfl⟩:∃a,x=a+2:=⟨x-2,J⟩
 obtain⟨b,rfl⟩:∃b,y=b+2:=⟨y-2,J⟩
 rw[gY,Nat.mul_add];omega
def vP{m}(h:1<=m):2<=2 ^ m:=by
 have:=GQ (n:=2) Z h;simpa using this
def JN{V}{z}:∀{l:L Int},(∀r,r∈l->2*V r<=2 ^ z r/\1<=z r)->l≠[]->2*kZ V l<=2 ^ (kZ z l)
 | [],_,h=>absurd I h
 | [x],h,_=>by simpa[kZ]using(h x (.head _)).1
 | x::y::l,h,_=>by
  have b:=h x (.head _);have i:=JN (l:=y::l) (λr c=>h r (.tail _ c)) X;have d:1<=kZ z (y::l):=by
   have:=(h y (.tail _ (.head _))).2;rw[kZ];omega
  have e:kZ V (x::y::l)=V x+kZ V _:=I;have a:kZ z (x::y::l)=z x+kZ z _:=I;rw[e,a,Nat.pow_add];have:=ai0 (vP b.2) (vP d);omega
def JO{V}{z}:∀{l:L Int},(∀r,r∈l->2*V r<=2 ^ z r/\1<=z r)->l≠[]->2*nZ V l<=2 ^ (kZ z l)
 | [],_,h=>absurd I h
 | [x],h,_=>by simpa[kZ,nZ]using(h x (.head _)).1
 | x::y::l,h,_=>by
  have i:=JO (l:=y::l) (λr b=>h r (.tail _ b)) X;have e:nZ V (x::y::l)=V x*nZ V (y::l):=I;have a:kZ z (x::y::l)=z x+kZ z (y::l):=I;rw[e,a,Nat.pow_add];have:2*(V x*nZ V (y::l))<=(2*V x)*(2*nZ V (y::l)):=by
   rw[Nat.mul_assoc,Nat.mul_left_comm (V x) 2];omega
  exact bB this (Nat.mul_le_mul (h x (.head _)).1 i)
def agj{z}{en:Int->Int}:∀{l:L Int} {lo hi:Int},l.Pairwise (λa b=>en a<=b)->(∀r,r∈l->lo<=r/\en r<=hi/\(z r)=en r-r)->lo<=hi->(kZ z l)<=hi-lo
 | [],lo,hi,_,_,h=>by rw[kZ];omega
 | x::l,lo,hi,h,m,c=>by
  rw[jB]at h;have b:=m x (.head _);have:=agj (l:=l) (lo:=en x) (hi:=hi) h.2 (λr a=>⟨h.1 r a,(m r (.tail _ a)).2⟩) b.2.1;rw[kZ];omega
def Sd.Tm(h:Sd xs){n}{s}(a:xs[n]? =aN s):(kZ (qQ xs) (gH xs n):Int)<=s.en-n-1:=by
 have u:=h.fo.up n s a;have:=agj (z:=qQ xs) (en:=Wj xs) (l:=gH xs n) (lo:=n+1) (hi:=s.en) (h.FM n (abL xs n) λb r=>r) (λb r=>by
  obtain⟨q,t,rfl,c,_,_,d,e⟩:=h.U9 r;have f:=h.fo.up q t c;unfold qQ;rw[xr c];exact⟨J,h.fo.lam q a c d (e s a),J⟩) J
 omega
def Sd.Tn(h:Sd xs):∀(f n) {s:dC},xs[n]? =aN s->1<=wy xs f n/\2*wy xs f n<=2 ^ qQ xs n
 | 0,n,s,a=>by
  have u:=h.fo.up n s a;have:1<=qQ xs n:=by unfold qQ;rw[xr a];omega
  rw[wy];exact⟨H _,vP this⟩
 | f+1,n,s,a=>by
  have u:=h.fo.up n s a;have z:1<=qQ xs n:=by unfold qQ;rw[xr a];omega
  rw[wy];split
  .exact⟨H _,vP z⟩
  rename_i i;have Y:gH xs n≠[]:=λe=>i (by rw[e];rfl);have k:∀r,r∈gH xs n->2*wy xs f r.toNat<=2 ^ qQ xs r/\1<=qQ xs r:=λr b=>by
   obtain⟨q,t,rfl,d,_⟩:=h.U9 b;have e:=h.fo.up q t d;exact⟨(h.Tn f q d).2,by unfold qQ;rw[xr d];omega⟩
  have p:∀r,r∈gH xs n->0<wy xs f r.toNat:=λr b=>by
   obtain⟨q,t,rfl,d,_⟩:=h.U9 b;rw[ba];exact(h.Tn f q d).1
  have c:2 ^ kZ (qQ xs) (gH xs n)<=2 ^ qQ xs n:=GQ Z (by
   have:=h.Tm a;unfold qQ at*
   rw[xr a];omega)
  split
  .exact⟨FH p,bB (JO k Y) c⟩
  refine⟨?_,bB (JN k Y) c⟩;cases b:gH xs n with
  | nil=>exact absurd b Y
  | cons x l=>
   have:=p x (by rw[b];exact .head _);rw[kZ];omega
def Sd.agr(h:Sd xs){n:Nat}{s}(a:xs[n]? =aN s):1<=W xs n:=by
 unfold W;exact(h.Tn _ n a).1
def Sd.ags(h:Sd xs){n}{s}(b:xs[n]? =aN s):kZ (W xs) (gH xs n)<=4611686018427387904/\nZ (W xs) (gH xs n)<=4611686018427387904:=by
 have k:∀a,a∈gH xs n->2*W xs a<=2 ^ qQ xs a/\1<=qQ xs a:=λa r=>by
  obtain⟨q,t,rfl,c,_⟩:=h.U9 r;have d:=h.fo.up q t c;unfold W;exact⟨(h.Tn _ q c).2,by unfold qQ;rw[xr c];omega⟩
 have u:2 ^ kZ (qQ xs) (gH xs n)<=2 ^ 63:=GQ Z (by
  have:=h.Tm b;have c:=h.fo.up n s b;have:=h.le;omega)
 by_cases r:gH xs n=[]
 .rw[r];exact⟨bf _,by rw[nZ];decide⟩
 have c:=JN k r;have d:=JO k r;have e:2 ^ 63=9223372036854775808:=Z
 omega
def Sd.aqg(h:Sd xs){n:Nat}{s}(a:xs[n]? =aN s):W xs n<=4611686018427387904:=by
 rw[h.aqf n];have:=h.ags a;split
 .decide
 split
 .exact this.2
 exact this.1
def Sd.agt(h:Sd xs){n}{r}(b:r∈gH xs n):0<W xs r:=by
 obtain⟨q,t,rfl,a,_⟩:=h.U9 b;exact h.agr a
def pick(V:Int->Nat):L Int->Nat->Option (Int×Nat)
 | [],_=>Pw
 | r::l,k=>if k<V r then aN (r,k)else pick V l (k-V r)
def rq(V:Int->Nat):L Int->Nat->L Nat×Nat
 | [],k=>([],k)
 | r::l,k=>((rq V l k).2 % V r::(rq V l k).1,(rq V l k).2/V r)
def wl(x:L dC):Nat->Nat->Nat->L Int
 | 0,n,_=>[n]
 | f+1,n,k=>n::if kd x n=1 then(match pick (W x) (gH x n) k with
  | some (r,k')=>wl x f r.toNat k'
  | none=>[])else((gH x n).zip (rq (W x) (gH x n) k).1).flatMap λp=>wl x f p.1.toNat p.2
def afW{V}:∀{l:L Int} {k:Nat} {r:Int} {a:Nat},pick V l k=aN (r,a)->r∈l/\a<V r
 | [],_,_,_,h=>Ue
 | x::l,k,r,a,h=>by
  rw[pick]at h;split at h
  .injection h with h;injection h with b c;subst b c;exact⟨.head _,by assumption⟩
  obtain⟨b,c⟩:=afW h;exact⟨.tail _ b,c⟩
def PU(h:Sd xs):∀(f n k:Nat) {s:dC},xs[n]? =aN s->(wl xs f n k).Pairwise (· <·)/\∀x,x∈wl xs f n k->(n:Int)<=x/\x<s.en
 | 0,n,k,s,a=>by
  have:=h.fo.up n s a;rw[wl];exact⟨X,λx b=>by rw[aV]at b;omega⟩
 | f+1,n,k,s,o=>by
  have u:=h.fo.up n s o;rw[wl];have y:∀(r:Int) d,r∈gH xs n->(wl xs f r.toNat d).Pairwise (· <·)/\(∀x,x∈wl xs f r.toNat d->r<=x/\x<Wj xs r)/\(n:Int)<r/\Wj xs r<=s.en:=λr d m=>by
   obtain⟨q,t,rfl,e,_,_,a,b⟩:=h.U9 m;rw[ba,xr e];obtain⟨k,n⟩:=PU h f q d e;exact⟨k,n,J,h.fo.lam q o e a (b s o)⟩
  have i:∀(g:L Int),g.Pairwise (· <·)->(∀x,x∈g->(n:Int)<x/\x<s.en)->((n:Int)::g).Pairwise (· <·)/\∀x,x∈(n:Int)::g->(n:Int)<=x/\x<s.en:=λg j e=>⟨jB.2 ⟨λx c=>(e x c).1,j⟩,λx c=>by
   rw[bh]at c;rcases c with rfl | c
   .omega
   .have:=e x c;omega⟩
  split
  .rcases l:pick (W xs) _ k with _|p
   .exact i [] X X
   obtain⟨r,k⟩:=p;obtain⟨j,e,a,b⟩:=y r k (afW l).1;exact i _ j λx c=>by have:=e x c;omega
  .have z:=by
    have j:=h.FM n (abL xs n) λr m=>m;have:(((gH xs n).zip (rq (W xs) (gH xs n) k).1).map Prod.fst).Pairwise λa b=>Wj xs a<=b:=by
     have a:((gH xs n).zip (rq (W xs) (gH xs n) k).1).map Prod.fst=(gH xs n).take ((rq (W xs) (gH xs n) k).1.length):=by
      generalize (rq _ _ k).1=s;generalize gH xs n=b
      induction b generalizing s with
      | nil=>simp
      | cons r b f=>
       cases s with
       | nil=>simp
       | cons d s=>simp[f]
     rw[a];exact j.sublist (List.take_sublist _ _)
    rwa[List.pairwise_map]at this
   refine i _ (aiO (f:=λp:Int×Nat=>wl xs f p.1.toNat p.2) (lo:=λp=>p.1) (hi:=λp=>Wj xs p.1) z λp l=>?_) λx c=>?_
   .have:=y p.1 p.2 (List.of_mem_zip l).1;exact⟨this.1,this.2.1⟩
   .obtain⟨p,l,c⟩:=Cm.1 c;obtain⟨_,e,a,b⟩:=y p.1 p.2 (List.of_mem_zip l).1;have:=e x c;omega
def S4(h:Sd xs) f n k {s} (a:xs[n]? =aN s):qj (wl xs f n k)<=64:=by
 obtain⟨b,c⟩:=PU h f n k a;have u:=h.fo.up n s a;have r:=h.le;have:=MR b c J;omega
end
def Nv V:∀l k,(rq V l k).1.length=qj l
 | [],k=>rfl
 | r::l,k=>by rw[rq,aZ,aZ,Nv V l k]
def S6 V:∀l k,(rq V l k).2<=k
 | [],k=>H _
 | r::l,k=>by rw[rq];exact bB (Nat.div_le_self _ _) (S6 V l k)
def ap3 u {a} (h:qO a):∃y b,(av 31 1 #[.mk 0 (O U a)]).run aq u=.ok (Sl.v y) b/\az [] u b/\cY u.heap.size b y [a]:=by
 obtain⟨y,b,k,c,k3,_⟩:=iU (P:=aq) (t:=31) (e:=3) (i:=Tryz.t3) (w:=u) (F:=λ_=>False) (vs:=[O U a]) (parts:=#[.mk 0 _]) (len:=1) (xs:=[a]) (r:=rInt) (size:=1) E E I I Z I I Z Z bO ⟨⟨I,I,h⟩,trivial⟩;exact⟨y,b,k,k3,c⟩
section
variable {w:aw} {F G:A} {l sa:Sl} {xs:L dC} {act:L Int}
def PV{u}{B C}{s y}{is js}(h:cY B u s is)(m:cY C u y js)(j:B<=u.heap.size)(hd:∀g,s.a=aN ⟨g,0,Pw⟩->y.a≠aN ⟨g,0,Pw⟩)(p:qj is+qj js<=1000000000):
  ∃a w,(Builtin.append_ #[31,31] 31 #[Sl.v s,Sl.v y]).run aq u=.ok (Sl.v a) w/\cY B w a (is++js)/\aE (λk=>B<=k) u w:=by
 obtain⟨a,w,b,c,o,d,f,n⟩:=tf (P:=aq) (t:=31) (ty:=31) (e:=3) (i:=Tryz.t3) (bytes:=8) (size:=1) (r:=rInt) (F:=λ_=>True) (y:=y) (ys:=js) E E I I I I bO (h.mono bO λk hk=>trivial) ((m.slice bO).mono bO λk hk=>⟨trivial,λe=>hd k e (hk.elim False.elim λh=>h.2)⟩) j J Z;exact⟨a,w,b,YZ c,d.p λg l=>.inl (f g l).2.1⟩
def DM(h:Sd xs):∀(f n:Nat) {w:aw} {x:dC},aB oV 5 w F l xs->xs[n]? =aN x->qj xs<=n+f->
  aA aq 41 #[l.v,O U n] w λe a=>e=ak (O U (W xs n:Int))/\az [] w a
 | 0,n,w,x,_,b,f=>by
  have:=gp b;omega
 | f+1,n,w,x,d,g,p=>by
  refine ret (am4 ?_);have z:=h.le;refine(zr d h n).mono ?_;rintro _ m ⟨⟨s,rfl,C⟩,i⟩;have V:=C.len;have o:=Mz xs n;have b:=h.aqf n;have Q:=h.ags g;have j:=fun{c} d=>h.U9 (n:=n) (r:=c) d;have N:∀c,c∈gH xs n->0<W xs c:=λc k=>h.agt k;rw[AM g]at b;have l:∀t,kZ _ _<=kZ (W xs) (gH xs n):=λt=>HH _ _ t;generalize gH xs n=r at*
  refine⟨s,I,λhc=>⟨?_,i⟩,λhc=>?_⟩
  .have hc:s.n=0:=Yc
   rw[b,K J];rfl
  have hc:(s.n:Int)≠0:=Yc
  rw[R J]at b;refine⟨λB G F D E=>∃t:Nat,D=(t:Int)/\B+t=qj r/\t<=qj r/\G=(kZ (W xs) (r.take t):Int)/\F=(nZ (W xs) (r.take t))/\az [] m E,qj r,⟨0,I,J,bf _,I,by simp[nZ],Ib _ _⟩,?_⟩;rintro B _ _ _ E ⟨t,rfl,M,L,rfl,rfl,A⟩;have w:=i.bU A;refine⟨λn=>?_,λn=>?_⟩
  .have n:=u n;have x:t<qj r:=J
   obtain⟨ad,P,T⟩:=gW (gx C A).sl (aX x);have oQ:=gU x;obtain⟨q,y,v,hy,_,_,am,_⟩:=j oQ;have S:r.take (t+1)=r.take t++[r[t]]:=by rw[bn,aX x];rfl
   have Y:=l (t+1);have Z:=(λt=>aia t N) (t+1)
   rw[S,BZ,v]at Y;rw[S,B0,v]at Z;refine⟨ad,P,_,T,?_⟩;rw[v]at S⊢;refine(DM h f q (CY d w) hy J).mono ?_;rintro _ w2 ⟨rfl,X⟩;refine⟨_,I,B-1,J,t+1,Ye,J,J,?_,?_,A.bU X⟩
   .rw[S,BZ,eS J J];omega
   have e:(nZ (W xs) (r.take t))*(W xs q)=((nZ (W xs) (r.take t)*W xs (q:Int):Nat):Int):=by rw[Int.natCast_mul]
   rw[S,B0,e,eS J J]
  have n:=aU n;have:t=qj r:=J
  subst this;obtain⟨ad,e,f,_⟩:=iP (CY d w) g;rw[bm (H _)];refine⟨ad,e,x.k,f.part 0 λD v q=>qw q I,λhk=>⟨?_,w⟩,λhk=>⟨?_,w⟩⟩
  .rw[b,K WH]
  rw[b,R WH]
def PW(h:Sd xs):∀(f n k:Nat) {w:aw} {x:dC},aB oV 5 w F l xs->xs[n]? =aN x->qj xs<=n+f->k<W xs n->
  aA aq 42 #[l.v,O U (n:Int),O U (k:Int)] w λe b=>(∃s:Sl,e=ak s.v/\cY w.heap.size b s (wl xs f n k))/\az [] w b
 | 0,n,k,w,x,_,a,f,_=>by
  have:=gp a;omega
 | f+1,n,k,w,x,s,D,hf,hk=>by
  have ru:=h.le;have GK:=gp D;have i:=S4 h (f+1) n k D;refine gX (am5 ?_);have am:=h.aqg D;have e0:wl xs (f+1) n k=(n:Int)::if kd xs n=1 then(match pick (W xs) (gH xs n) k with
   | some (g,c)=>wl xs f g.toNat c
   | none=>[])else((gH xs n).zip (rq (W xs) (gH xs n) k).1).flatMap λp=>wl xs f p.1.toNat p.2:=I
  rw[e0,AM D]at i⊢;obtain⟨F,w0,m1,S,m3⟩:=ap3 w (a:=(n:Int)) ⟨J,J⟩;have z0:=S.size;refine⟨F,w0,m1,(zr (CY s S) h n).mono ?_⟩;rintro _ C ⟨⟨s1,rfl,X⟩,N⟩;have z1:=N.size;have o:=S.bU N;have z:cY w.heap.size C F [(n:Int)]:=gx m3 N;have Y:∀{B:Nat},F.a=aN ⟨B,0,Pw⟩->w.heap.size<=B/\B<w0.heap.size:=λe=>m3.blk e;obtain⟨ad,a1,a2,_⟩:=iP (CY s o) D;have V0:=X.len;have Vy:=Mz xs n;have T:∀{g:Int},g∈gH xs n->_:=fun{g} s=>h.U9 (n:=n) (r:=g) s;have NK:∀g,g∈gH xs n->0<W xs g:=λg P=>h.agt P;have M:∀g,g∈gH xs n->W xs g<=4611686018427387904:=λg P=>by
   obtain⟨q,t,rfl,a,_⟩:=T P;exact h.aqg a
  generalize gH xs n=r at*
  have m:∀{j:aw} {t:Nat} {g:Int},r[t]? =aN g->az [] C j->∃(q:Nat) (y:dC) (ad:Addr),g=q/\xs[q]? =aN y/\n<q/\cK s1 (t:Int) 1 ad/\aD j ad [O U g]:=fun{j t g} Q hu=>by
   obtain⟨q,y,rfl,e,_,_,n,_⟩:=T (bp Q);obtain⟨ad,a,d⟩:=gW (gx X hu).sl Q;exact⟨q,y,ad,I,e,n,a,d⟩
  refine⟨s1,I,ad,a1,x.k,a2.part 0 λE v hi=>qw hi I,λA=>?_,λA=>?_⟩
  .have A:x.k=1:=by simpa using A
   rw[K A]at i⊢;refine⟨λv e E j=>∃t c:Nat,E=(t:Int)/\e=(c:Int)/\v+t=qj r/\t<=qj r/\c<=k/\pick (W xs) r k=pick (W xs) (r.drop t) c/\az [] C j,qj r,⟨0,k,I,I,J,bf _,H _,by rw[gJ],Ib _ _⟩,?_⟩;rintro v _ _ j ⟨t,c,rfl,rfl,n,Q,V,p,a⟩;refine⟨λd=>?_,λd=>?_⟩
   .have d:=u d;have yU:t<qj r:=J
    have w:=aX yU;obtain⟨q,y,ad,hq,hy,aS,b1,b2⟩:=m w a;have aC:pick (W xs) (r.drop t) c=if c<W xs r[t]then aN (r[t],c)else pick (W xs) (r.drop (t+1)) (c-W xs r[t]):=by
     rw[eu yU,pick]
    have G:=M _ (gU yU);rw[aC]at p;refine⟨ad,b1,_,b2,?_⟩;rw[hq]at p G⊢;refine(DM h (qj xs) q (CY s (o.bU a)) hy J).mono ?_;rintro _ w3 ⟨rfl,cZ⟩;have x:=a.bU cZ;obtain⟨_,_,yE,_,_,_,c1,c2⟩:=m w x;refine⟨_,I,λl=>⟨yE,c1,_,c2,?_⟩,λl=>⟨v-1,J,t+1,c-W xs (q:Int),Ye,?_,J,J,J,?_,x⟩⟩
    .have l:=u l;have t:c<W xs (q:Int):=J
     rw[K t]at p;rw[p]at i⊢;dsimp only at i⊢;rw[ba]at i⊢;rw[aZ]at i;rw[hq];refine(PW h f q c (CY s (o.bU x)) hy J t).mono ?_;rintro _ w4 ⟨⟨s4,rfl,y⟩,dQ⟩;have z3:=cZ.size;have z4:=dQ.size;have zO:=a.size;have o4:=x.bU dQ;obtain⟨s5,w5,p1,p2,p3⟩:=PV (gx z o4) y (by have:=o.size;omega) (λB e1 e2=>by
      have:=Y e1;have:=(y.blk e2).1;dsimp only at this;omega) (by simp only[bA];omega)
     exact⟨s4,I,s5,w5,p1,⟨s5,I,p2⟩,((o.bU o4).nP p3).only λk hk=>hk⟩
    .have l:=aU l;rw[eS J J];omega
    have l:=aU l;rw[R J]at p;exact p
   have d:=aU d;rw[Db J,pick]at p;rw[p];exact⟨⟨F,I,gx z a⟩,o.bU a⟩
  have A:x.k≠1:=by simpa using A
  rw[R A]at i⊢;have bV:=Nv (W xs) r k;let n:=(rq (W xs) r k).1
  have cc:n=(rq (W xs) r k).1:=I;rw[<-cc]at i bV⊢;have bv:∀e,(rq (W xs) (r.drop e) k).1=n.drop e:=by
   have:∀(V:Int->Nat) (l:L Int) (k e:Nat),(rq V (l.drop e) k).1=(rq V l k).1.drop e:=by
    intro V l
    induction l with
    | nil=>intro k e;simp[rq]
    | cons a l d=>
     intro k e;cases e with
     | zero=>rfl
     | succ e=>rw[ki,rq,ki];exact d k e
   exact this (W xs) r k
  let t:Nat->L Int:=λe=>((r.drop e).zip (n.drop e)).flatMap λp=>wl xs f p.1.toNat p.2
  have hZ:∀e g d,r[e]? =aN g->n[e]? =aN d->t e=wl xs f g.toNat d++t (e+1):=λe g d v w=>by
   obtain⟨x,a⟩:=bc.1 v;obtain⟨f,d⟩:=bc.1 w;show((r.drop e).zip (n.drop e)).flatMap _=_;rw[eu x,eu f,List.zip_cons_cons,lW,a,d]
  have bY:t 0=(r.zip n).flatMap λp=>wl xs f p.1.toNat p.2:=I;have aT:∀e,e<=(qj r)->qj (t e)<=qj (t 0):=by
   intro e
   induction e with
   | zero=>intro _;exact H _
   | succ e a=>
    intro d;have v:=a J;have w:=hZ e _ _ (aX (show e<(qj r) by omega)) (aX (show e<(qj n) by omega));rw[w,aP]at v;omega
  rw[<-bY]at i⊢;rw[aZ]at i;refine⟨λkv i6 q E j=>∃(e c:Nat),E=(e:Int)-1/\i6=(c:Int)/\kv=e/\e<=qj r/\c=(rq (W xs) (r.drop e) k).2/\cY C.heap.size j q (t e)/\az [] C j,qj r,⟨qj r,k,Hv,I,I,H _,by rw[List.drop_length];rfl,by
   have:t (qj r)=[]:=by show((r.drop (qj r)).zip _).flatMap _=_;rw[List.drop_length];rfl
   rw[this];exact Yb _ _ _ _ _ _,Ib _ _⟩,?_⟩
  rintro kv _ q _ j ⟨e,c,rfl,rfl,nQ,yq,jG,hq,hO⟩;have zu:=hO.size;refine⟨λhc=>?_,λhc=>?_⟩
  .have hc:=u hc;obtain⟨e,rfl⟩:∃m',e=m'+1:=⟨e-1,J⟩
   have em:((e+1:Nat):Int)-1=(e:Int):=J
   rw[em];have d:e<qj r:=J
   have p:=aX d;have cC:=aX (show e<(qj n) by omega);obtain⟨x,y,ad,co,hy,f7,b1,b2⟩:=m p hO;have dO:=NK _ (gU d);have f5:c<=k:=by rw[jG];exact S6 _ _ _
   have l:rq (W xs) (r.drop e) k=(c % W xs r[e]::(rq (W xs) (r.drop (e+1)) k).1,c/W xs r[e]):=by
    rw[eu d,rq,<-jG]
   have fd:n[e]' J=c % W xs r[e]:=by
    have v:=bv e;rw[l]at v;have w:=bN List.head? v;rw[Rs,cC]at w;exact(DX w).symm
   have a:=hZ e _ _ p cC;have q:=aT e J;have f6:=aT (e+1) J;rw[fd]at a;rw[a,aP]at q;refine⟨ad,b1,_,b2,?_⟩;rw[co]at l a dO q⊢;rw[ba]at a q;refine(DM h (qj xs) x (CY s (o.bU hO)) hy J).mono ?_;rintro _ w7 ⟨rfl,gq⟩;have o7:=hO.bU gq;have z7:=gq.size;refine⟨_,I,ad,b1,λw8 fK=>?_⟩;have o8:=o7.bU fK;have z8:=fK.size;obtain⟨_,_,yE,_,_,_,c1,c2⟩:=m p o8;obtain rfl:=Zk b1 c1;rw[co]at c2;have el:(c:Int).tmod (W xs (x:Int):Int)=((c % W xs (x:Int):Nat):Int):=I;have ce:(c:Int).tdiv (W xs (x:Int):Int)=((c/W xs (x:Int):Nat):Int):=I;have eQ:c/W xs (x:Int)<=c:=Nat.div_le_self _ _;refine⟨_,c2,J,?_⟩;rw[el];refine(PW h f x _ (CY s (o.bU o8)) hy J (NZ _ dO)).mono ?_;rintro _ w9 ⟨⟨s9,rfl,V⟩,gA⟩;have z9:=gA.size;have o9:=o8.bU gA;obtain⟨HU,dq,p1,p2,p3⟩:=PV V (gx hq ((gq.bU fK).bU gA)) J (λB e1 e2=>by
    have:=(V.blk e1).1;have:=(hq.blk e2).2;dsimp only at*
    omega) J
   refine⟨s9,I,HU,dq,p1,J,e,J,e,_,by rw[eS J J],by rw[ce,eS (Int.le_trans Z (be _)) (Int.le_trans (Int.ofNat_le.2 eQ) J)],I,J,by rw[l],by rw[a];exact Oq p2 J,(o9.nP (p3.mono (G:=λk=>C.heap.size<=k) λk _ hk=>J)).only λk hk=>hk⟩
  have hc:=aU hc;have V:e=0:=J
  subst V;obtain⟨a,x,p,l,q⟩:=PV (gx z hO) hq J (λB d f=>by
   have:=Y d;have:=(hq.blk f).1;dsimp only at this;omega) (by simp only[bA];omega)
  exact⟨a,x,p,⟨a,I,l⟩,((o.bU hO).nP q).only λk hk=>hk⟩
end
section
variable {w:aw} {F G:A} {l sa:Sl} {xs:L dC} {act:L Int}
def Nw(a:aB oV 5 w F l xs)(h:Sd xs):aA aq 8 #[l.v] w λe d=>e=ak (O U (W xs 0:Int))/\az [] w d:=by
 refine ret (amT ?_);obtain⟨s,c,_⟩:=h.rt;refine(DM h (qj xs) 0 a c J).mono ?_;rintro _ f ⟨rfl,b⟩;exact⟨_,I,I,b⟩
def ai1(h:aB oV 5 w F l xs)(a:Sd xs){k:Int}:aA aq 9 #[l.v,O U k] w λe d=>(∃(s:Sl) (b:M) (i:L Int),e=ak (ai #[s.v,aj b])/\cY w.heap.size d s i/\(b=aF↔0<=k/\k<W xs 0)/\i=if b=aF then wl xs (qj xs) 0 k.toNat else[])/\az [] w d:=by
 refine gX (amU ?_);obtain⟨s,f,_⟩:=a.rt;refine(Nw h a).mono ?_;rintro _ g ⟨rfl,r⟩;have z:=r.size;refine⟨_,I,λc=>⟨⟨Sl.nil,aM,[],I,Yb _ _ _ _ _ _,⟨(λh=>Ue),λhk=>?_⟩,I⟩,r⟩,λc=>?_⟩
 .rw[cy]at c;rcases c with c | c
  .have:=u c;omega
  have:=u c;omega
 rw[fe]at c;have j:=aU c.1;have l:=aU c.2;obtain⟨m,rfl⟩:∃m:Nat,k=m:=⟨k.toNat,J⟩
 have b:m<W xs ((0:Nat):Int):=by
  have e:W xs ((0:Nat):Int)=W xs 0:=I;omega
 refine(PW a (qj xs) 0 m (CY h r) f J b).mono ?_;rintro _ w ⟨⟨s,rfl,Q⟩,P⟩;exact⟨s,I,⟨s,aF,_,I,Oq Q z,⟨λ_=>⟨J,J⟩,λ_=>I⟩,by rw[K I,ba]⟩,r.bU P⟩
end
section
variable {w u:aw} {F G H:A} {s si sd sr sa sm:Sl} {p:Pl} {act:L Int} {may:L M} {k0 k1 k2 k3 k7 k8:Nat} {t0 t1 t3 t7 t8:TypeId} {k o:Int}
def HJ(b:aG u k0 t0 [s.v,si.v,sd.v,sr.v])(c:aG u k1 t1 [sa.v])(d:aG u k7 t7 [O U k])(P:PlR u F s si sd sr p)(B:Fo p.sp)(f:aB rInt 1 u G sa act)(m:qj act<=2000000):
  aA aq 46 #[O U o,ae (aN ⟨k0,0,Pw⟩),ae (aN ⟨k1,0,Pw⟩),ae (aN ⟨k7,0,Pw⟩)] u λe a=>e=ak (aj (fY p.sp p.ro act k o))/\az [] u a:=by
 refine ret (v3w ?_);refine⟨s,si,sd,sr,b.cells 0 _ X,sa,c.cells 0 _ X,k,d.cells 0 _ X,(SX P B f m k o).mono ?_⟩;rintro _ a ⟨rfl,h⟩;exact⟨_,I,I,h⟩
def abl(d:aG u k0 t0 [s.v,si.v,sd.v,sr.v])(f:aG u k1 t1 [sa.v])(c:aG u k7 t7 [O U k])(g:aG u k3 t3 [ae (aN ⟨k2,0,Pw⟩)])(l:aG u k8 t8 [.func (.func 46) #[] #[ae (aN ⟨k0,0,Pw⟩),ae (aN ⟨k1,0,Pw⟩),ae (aN ⟨k7,0,Pw⟩)]])
  (h:Cb u k2 F G H s si sd sr sa sm p act may) (B:Fo p.sp) (q:qj act<=2000000) {i j:Nat} {ri rj} (hk:k=i) (r:o=j) (m:p.ro[i]? =aN ri) (n:p.ro[j]? =aN rj):
  aA aq 48 #[O U o,ae (aN ⟨k8,0,Pw⟩),ae (aN ⟨k3,0,Pw⟩),ae (aN ⟨k7,0,Pw⟩)] u λe a=>e=ak (aj (fY p.sp p.ro act k o&&!mS p.sp p.ro k o))/\az [] u a:=by
 refine ret (v4w ?_);refine⟨λb a=>b=(fY p.sp p.ro act k o&&!mS p.sp p.ro k o)/\az [] u a,?_,⟨.func _ #[] #[ae _,ae _,ae _],I⟩,l.cells 0 _ X,46,[],[ae _,ae _,ae _],I,gN E,(HJ d f c h.pl B h.act q).mono ?_⟩
 .rintro b a ⟨rfl,e⟩;exact⟨I,e⟩
 rintro _ a ⟨rfl,O⟩;refine⟨_,I,λb=>?_,λb=>⟨by rw[b,cR],O⟩⟩;subst hk r;refine⟨_,(O.blk g X).cells 0 _ X,_,(O.blk c X).cells 0 _ X,(ajv (h.o0 O) B m n).mono ?_⟩;rintro _ u ⟨rfl,P⟩;exact⟨_,I,by rw[b,ch],O.bU P⟩
end
def PlR.kp{w w'}{F}{s si sd sr}{p}(h:PlR w F s si sd sr p)(hk:∀k,F k->k<w.heap.size->w'.heap[k]? =w.heap[k]?):PlR w' F s si sd sr p:=
 ⟨h.sp.keep dj Z hk,h.ini.keep bO Z hk,h.dft.keep bO Z hk,h.ro.keep jp Z hk⟩
def PlR.inH{w}{F}{s si sd sr}{p}(h:PlR w F s si sd sr p):PlR w (λk=>F k/\k<w.heap.size) s si sd sr p:=
 ⟨h.sp.inHeap dj Z,h.ini.inHeap bO Z,h.dft.inHeap bO Z,h.ro.inHeap jp Z⟩
def aec{xs}{ro}{may}{leaf}(h:0<=lj xs ro may leaf):∃(k:Nat) (r:Ro),lj xs ro may leaf=k/\ro[k]? =aN r:=by
 unfold lj at h⊢;rcases hf:(qG xs _ leaf).findSome? _ with _|k
 .rw[hf]at h;exact absurd h Z
 obtain⟨n,b,hk⟩:=unM hf;obtain⟨r,a,_⟩:=BI hk;exact⟨k,r,I,a⟩
structure Asked (ro:List Ro) (st:List Int×List Int):Prop where
 a:∀x,x∈st.1->∃(n:Nat) (r:Ro),x=n/\ro[n]? =aN r
 b:∀x,x∈st.2->x∈st.1
 c:st.1.Nodup
 d:qj st.2<=qj st.1
def Asked.len{ro}{st}(h:Asked ro st):qj st.1<=qj ro:=by
 have:=h.c.length_le_of_subset (l₂:=(List.range (qj ro)).map λn:Nat=>(n:Int)) λx a=>by
  obtain⟨n,r,e,b⟩:=h.a x a;exact eo.2 ⟨n,mM.2 (bc.1 b).1,e.symm⟩
 rwa[bH,iT]at this
section
variable {w:aw} {F G H:A} {s si sd sr sa sm:Sl} {p:Pl} {act:L Int} {may:L M}
def agk(hP:PlR w F s si sd sr p)(hS:Sd p.sp)(HS:qj p.sp<=64)(hs:p.ro.Pairwise λco s=>co.src<=s.src)(Vy:qj p.ro<=1900000)(ha:aB rInt 1 w G sa act)(hm:qj act<=1000000)(hM:aB rBool 1 w H sm may):
  aA aq 10 #[ah #[s.v,si.v,sd.v,sr.v],sa.v,sm.v] w λe w'=>(∃t:Sl,e=ak t.v/\cY w.heap.size w' t (pZ p.sp p.ro act may))/\az [] w w':=by
 have Bg:=hS.fo;refine gX (v5w ?_);intro Y k1 T k3 w0 fN dS lm jP rF sR zE uQ U;have z0:=U.size;refine(ahy (xs:=p.sp) (Wg dj Z hP.sp U X) hS (kI ha U) J).mono ?_;rintro _ c ⟨⟨l0,rfl,hL⟩,cr⟩;have z1:=cr.size;have am:=hL.slice bO;have FW:=am.len;have Ke:qj (Hm p.sp act)<=qj p.sp:=AN _ _;generalize aC:Hm p.sp act=g at*
 have bV:∀x,x∈g->∃n:Nat,x=n/\n<qj p.sp:=λx d=>by
  rw[<-aC]at d;obtain⟨n,e,h,_⟩:=DA.1 d;exact⟨n,e,h⟩
 refine⟨l0,I,cr.same S,λkv P l W i m o r z q B C D M N O v=>∃(j:Nat) (st:L Int×L Int),W=(j:Int)/\kv+j=qj g/\j<=qj g/\st=(g.take j).foldl (Pu p.sp p.ro act may) ([],[])/\Asked p.ro st/\cY c.heap.size v P st.1/\cY c.heap.size v l st.2/\(∀k,jK P k->¬jK l k)/\(i=s/\m=si/\o=sd/\r=sr/\z=sa/\q=aN ⟨T,0,Pw⟩/\B=s/\C=si/\D=sd/\M=sr/\N=sa/\O=sm)/\az [] c v,qj g,⟨0,([],[]),I,J,bf _,I,⟨λ_ h=>Ue,λ_ h=>Ue,List.nodup_nil,aY _⟩,Yb _ _ _ _ _ _,Yb _ _ _ _ _ _,λk h=>Ue,⟨I,I,I,I,I,I,I,I,I,I,I,I⟩,Ib _ _⟩,?_⟩;rintro kv P l _ i m o r z q0 c1 c2 c3 c4 c5 c6 w2 ⟨j,st,rfl,nQ,hj,lh,Q,V0,xA,V,⟨e1,e2,e3,e4,e5,e6,e7,e8,e9,aS,aT,bv⟩,cP⟩;subst i m o r z q0 c1 c2 c3 c4 c5 c6;have z2:=cP.size;refine⟨λhc mU bY cc ce=>?_,λhc mU bY cc ce=>?_⟩
 .have hc:=u hc;have mV:j<qj g:=J
  have lS:g.take (j+1)=g.take j++[g[j]]:=Rw
  obtain⟨x,d,cC⟩:=bV _ (gU mV);refine⟨λP l i m o r z q B C D M N O v=>∃t:L Int×L Int,t=Pu p.sp p.ro act may st g[j]/\Asked p.ro t/\cY c.heap.size v P t.1/\cY c.heap.size v l t.2/\(∀k,jK P k->¬jK l k)/\(i=s/\m=si/\o=sd/\r=sr/\z=sa/\q=aN ⟨T,0,Pw⟩/\B=s/\C=si/\D=sd/\M=sr/\N=sa/\O=sm)/\az [] c v,?_,?_⟩
  .rintro p s i m o r z q B C D M N O v ⟨t,h,a,b,e,f,k,n⟩;refine⟨kv-1,J,j+1,t,Ye,J,J,?_,a,b,e,f,k,n⟩;rw[h,lS,jR,<-lh];rfl
  obtain⟨ad,d1,d2⟩:=gW (kI am cP) (aX mV);have o2:az [] w w2:=(U.bU cr).bU cP;have el:Cb w2 T F G H s si sd sr sa sm p act may:=⟨mU,hP.o0 o2,kI ha o2,Wg j6 Z hM o2 X⟩
  rw[d]at d2;refine⟨ad,d1,_,d2,(ad6 el Bg HS hs cC).mono ?_⟩;rintro _ w4 ⟨rfl,dQ⟩;have z4:=dQ.size;refine⟨_,I,dQ.same S,s,si,sd,sr,sa,sm,(el.o0 dQ).blk,λk7 w5 fd eQ eJ wq=>?_⟩;have z5:=eJ.size;have o5:=dQ.bU eJ;have p5:=cP.bU o5;rw[<-d];obtain⟨kk,FV⟩:∃kk,kk=lj p.sp p.ro may g[j]:=⟨_,I⟩
  rw[<-FV];have CH:Pu p.sp p.ro act may st g[j]=if kk<0∨kk∈st.1 then st else(st.1++[kk],if(st.2.any λdO=>fY p.sp p.ro act kk dO&&!mS p.sp p.ro kk dO)=aF then st.2 else(st.2.filter λdO=>!fY p.sp p.ro act kk dO)++[kk]):=by
   rw[FV];rfl
  refine⟨λb i m o r z q W B C D M N O v=>b=YR (kk<0∨kk∈st.1)/\(i=s/\m=si/\o=sd/\r=sr/\z=sa/\q=aN ⟨T,0,Pw⟩/\B=s/\C=si/\D=sd/\M=sr/\N=sa/\O=sm)/\W=kk/\az [] w5 v,?_,λhn=>⟨(bG (.inl (u hn))).symm,⟨I,I,I,I,I,I,I,I,I,I,I,I⟩,I,Ib _ _⟩,λhn=>?_⟩;rotate_left
  .refine(xv ((V0.keep bO λk _ b=>o5.block k b X).slice bO) kk).mono ?_;rintro _ f ⟨rfl,a⟩;have hn:=aU hn;refine⟨_,I,a.same S,s,si,sd,sr,sa,sm,a.blk wq X,?_,⟨I,I,I,I,I,I,I,I,I,I,I,I⟩,I,a⟩;rw[mN];exact⟨.inr,λh=>h.resolve_left hn⟩
  rintro b i m o r z q W B C D M N O w6 ⟨rfl,⟨e1,e2,e3,e4,e5,e6,e7,e8,e9,aS,aT,bv⟩,ei,dV⟩;subst i m o r z q B C D M N O W;have z6:=dV.size;have o6:=o5.bU dV;have p6:=p5.bU dV;have m1:cY c.heap.size w6 P st.1:=V0.keep bO λk _ bW=>o6.block k bW X;have m2:cY c.heap.size w6 l st.2:=xA.keep bO λk _ bW=>o6.block k bW X;have g1:∀k,jK P k->c.heap.size<=k/\k<w2.heap.size:=λk e=>V0.blk e;have g2:∀k,jK l k->c.heap.size<=k/\k<w2.heap.size:=λk e=>xA.blk e;refine⟨λhb=>?_,λhb=>?_⟩
  .have hb:=u hb;exact⟨st,by rw[CH,K hb],Q,m1,m2,V,⟨I,I,I,I,I,I,I,I,I,I,I,I⟩,p6⟩
  have hb:=aU hb;rw[R hb]at CH;have fN:0<=kk:=Int.not_lt.1 λh=>hb (.inl h);obtain⟨kn,rk,Ki,f7⟩:=aec (xs:=p.sp) (ro:=p.ro) (may:=may) (leaf:=g[j]) (by rw[<-FV];exact fN);rw[<-FV]at Ki;have ip:=(bc.1 f7).1;have iN:=Q.len;have iD:=Q.d;have Vm:Asked p.ro (st.1++[kk],if(st.2.any λdO=>fY p.sp p.ro act kk dO&&!mS p.sp p.ro kk dO)=aF then st.2 else(st.2.filter λdO=>!fY p.sp p.ro act kk dO)++[kk]):=by
   refine⟨λx d=>?_,λx d=>?_,?_,?_⟩
   .rcases bQ.1 d with d | d
    .exact Q.a x d
    exact⟨kn,rk,by rw[aV.1 d];exact Ki,f7⟩
   .dsimp only at d⊢;split at d
    .exact bQ.2 (.inl (Q.b x d))
    rcases bQ.1 d with d | d
    .exact bQ.2 (.inl (Q.b x (jb.1 d).1))
    exact bQ.2 (.inr d)
   .rw[List.nodup_append];refine⟨Q.c,List.pairwise_singleton _ _,λa ha b f=>?_⟩;rw[aV.1 f];exact λe=>hb (.inr (by rw[<-e];exact ha))
   dsimp only;rw[aP,bA];split
   .omega
   rw[aP,bA];have:=cH (λdO=>!fY p.sp p.ro act kk dO) st.2;omega
  obtain⟨y,w7,r1,r2,t1,w8,r3,r4,r5,r6⟩:=UU m1 J (n:=kk) ⟨J,J⟩ J;have z7:=r2.size;have z8:=r5.size;have f5:∀{g9 v:aw} {f8:A} {bs:L Nat},aE f8 g9 v->(∀k,f8 k->jK P k∨jK l k)->(∀k,k∈bs->k<g9.heap.size/\(k<c.heap.size∨w2.heap.size<=k))->cj bs g9 v:=λhO f6 VF=>hO.same λx d=>⟨(VF x d).1,λe=>by
   rcases f6 x e with e | e
   .have:=g1 x e;have:=(VF x d).2;omega
   have:=g2 x e;have:=(VF x d).2;omega⟩
  have g8:∀k,jK t1 k->jK P k∨w6.heap.size<=k:=r6;have gO:∀k,jK t1 k->k<w8.heap.size:=λk e=>(r4.blk e).2;refine⟨y,w7,r1,r2.same S,t1,w8,r3,f5 r5 (λk e=>.inl e) S,λk8 w9 iS iF gA DQ zA sF gE Vk gG=>?_⟩;have z9:=gA.size;have p8:az [] c w8:=((p6.bU r2).nP (r5.mono (G:=λk=>c.heap.size<=k) λk _ e=>(g1 k e).1)).only λk hk=>hk;have p9:=p8.bU gA;have o9:az [] w w9:=(U.bU cr).bU p9;have n1:cY c.heap.size w9 t1 (st.1++[kk]):=r4.keep bO λk _ bW=>gA.block k bW X;have n2:cY c.heap.size w9 l st.2:=((m2.keep bO λk _ bW=>r2.block k bW X).keep bO λk hk bW=>r5.block k bW λe=>V k e (hk.resolve_left id).2).keep bO λk _ bW=>gA.block k bW X;have QB:∀k,jK t1 k->¬jK l k:=λk e e'=>by
   rcases g8 k e with h | h
   .exact V k h e'
   have:=g2 k e';omega
  have gT:Cb w9 T F G H s si sd sr sa sm p act may:=⟨sF,hP.o0 o9,kI ha o9,Wg j6 Z hM o9 X⟩
  refine(ap1 (f:=⟨.func (.func 48) #[] #[ae (aN ⟨k8,0,Pw⟩),ae (aN ⟨k3,0,Pw⟩),ae (aN ⟨k7,0,Pw⟩)],I⟩) (n2.slice bO) J ⟨gN E,λdO ho v hO=>?_⟩ (p:=λdO=>fY p.sp p.ro act kk dO&&!mS p.sp p.ro kk dO) (cap:=[ae (aN ⟨k8,0,Pw⟩),ae (aN ⟨k3,0,Pw⟩),ae (aN ⟨k7,0,Pw⟩)]) I).mono ?_
  .have a:az [] w9 v:=hO.only λk h=>h.elim;obtain⟨n,f,e,b⟩:=Q.a dO (Q.b dO ho);exact abl (a.blk DQ X) (a.blk zA X) (a.blk Vk X) (a.blk gE X) (a.blk gG X) (gT.o0 a) Bg J Ki e f7 b
  rintro _ dq ⟨rfl,y⟩;have KG:=y.size;have H:=p9.bU y;refine⟨_,I,s,si,sd,sr,y.blk DQ X,sa,y.blk zA X,s,si,sd,sr,sa,sm,y.blk sF X,_,y.blk gE X,kk,y.blk Vk X,⟨.func (.func 46) #[] #[ae (aN ⟨Y,0,Pw⟩),ae (aN ⟨k1,0,Pw⟩),ae (aN ⟨k7,0,Pw⟩)],I⟩,y.blk gG X,λhy=>?_,λhy=>?_⟩
  .rw[K hy]at CH Vm;exact⟨_,CH.symm,Vm,n1.keep bO λk _ bW=>y.block k bW X,n2.keep bO λk _ bW=>y.block k bW X,QB,⟨I,I,I,I,I,I,I,I,I,I,I,I⟩,H⟩
  rw[R (by rw[hy];decide)]at CH Vm;refine⟨λot i m o r z q W vv B C D M N O v=>cY c.heap.size v ot ((st.2.filter λdO=>!fY p.sp p.ro act kk dO)++[kk])/\cY c.heap.size v t1 (st.1++[kk])/\(∀k,jK t1 k->¬jK ot k)/\(i=s/\m=si/\o=sd/\r=sr/\z=sa/\q=aN ⟨T,0,Pw⟩/\B=s/\C=si/\D=sd/\M=sr/\N=sa/\O=sm)/\az [] c v,?_,λey eV lE lT mK nO mt oF=>?_⟩
  .rintro ot i m o r z q W vv B C D M N O v ⟨h,a,b,e,f⟩;exact⟨_,CH.symm,Vm,a,h,b,e,f⟩
  have pm:=eV.size;have oN:=H.bU eV;have pi:az [] w ey:=(U.bU cr).bU oN;have v1:cY c.heap.size ey t1 (st.1++[kk]):=(n1.keep bO λk _ bW=>y.block k bW X).keep bO λk _ bW=>eV.block k bW X;have v2:cY c.heap.size ey l st.2:=(n2.keep bO λk _ bW=>y.block k bW X).keep bO λk _ bW=>eV.block k bW X;have nl:∀k,k<c.heap.size∨w2.heap.size<=k->¬jK l k:=λk h e=>by have:=g2 k e;omega
  have fl:∀k,F k/\k<w.heap.size->¬jK l k:=λk h=>nl k (.inl J);have oR:∀{v:aw},az [] ey v->cY c.heap.size v l st.2->aA aq 50 #[l.v,.func (.func 46) #[] #[ae (aN ⟨Y,0,Pw⟩),ae (aN ⟨k1,0,Pw⟩),ae (aN ⟨k7,0,Pw⟩)]] v λe v'=>∃q:Sl,e=ak q.v/\q.a=l.a/\q.c=l.c/\cY c.heap.size v' q (st.2.filter λdO=>!fY p.sp p.ro act kk dO)/\aE (jK l) v v':=fun{v} hOv hv=>by
   have v:=pi.bU hOv;have b:=hOv.size;refine DK (f:=⟨.func (.func 46) #[] #[ae (aN ⟨Y,0,Pw⟩),ae (aN ⟨k1,0,Pw⟩),ae (aN ⟨k7,0,Pw⟩)],I⟩) hv J ⟨gN E,λdO ho x hO=>?_⟩ (p:=λdO=>fY p.sp p.ro act kk dO) (cap:=[ae (aN ⟨Y,0,Pw⟩),ae (aN ⟨k1,0,Pw⟩),ae (aN ⟨k7,0,Pw⟩)]) I;have h:PlR x (λk=>F k/\k<w.heap.size) s si sd sr p:=(hP.inH.o0 v).kp λk hk bW=>hO.block k bW (fl k hk);have a:aB rInt 1 x (λk=>G k/\k<w.heap.size) sa act:=(kI (WV bO ha Z) v).keep bO Z λk hk bW=>hO.block k bW (nl k (.inl J));exact HJ (hO.blk (hOv.blk lE X) (nl Y (.inl J))) (hO.blk (hOv.blk lT X) (nl k1 (.inl J))) (hO.blk (hOv.blk mt X) (nl k7 (.inr J))) h Bg a J
  have kJ:∀{a b:aw} {f8:A},aE f8 a b->(∀k,f8 k->jK l k)->bX (λk=>k<ey.heap.size/\¬jK l k) a b:=λhO f6 k hk bW=>hO.block k bW λe=>hk.2 (f6 k e);refine⟨λk=>k<ey.heap.size/\¬jK l k,⟨J,nl k8 (.inr J)⟩,⟨J,nl k7 (.inr J)⟩,?_,?_⟩
  .refine(oR (Ib _ _) v2).mono ?_;rintro _ eY ⟨q,rfl,w,_,zL,a⟩;have Vl:=a.size;have b:∀k,jK q k↔jK l k:=λk=>by unfold jK;rw[w]
   obtain⟨y2,F,u1,f,ot,x,u3,u4,v,u6⟩:=UU zL J (n:=kk) ⟨J,J⟩ (by have:=cH (λdO=>!fY p.sp p.ro act kk dO) st.2;omega);have pP:=f.size;have rg:=v.size;refine⟨q,I,s,si,sd,sr,a.blk lE (nl Y (.inl J)),sa,a.blk lT (nl k1 (.inl J)),s,si,sd,sr,sa,sm,a.blk mK (nl T (.inl J)),_,a.blk nO (nl k3 (.inl J)),kk,a.blk mt (nl k7 (.inr J)),_,a.blk oF (nl k8 (.inr J)),kJ a (λ_ e=>e),y2,F,u1,f.same S,Uy f,ot,x,u3,f5 v (λk e=>.inr ((b k).1 e)) S,kJ v (λk e=>(b k).1 e),u4,?_,λk e e'=>?_,⟨I,I,I,I,I,I,I,I,I,I,I,I⟩,?_⟩
   .exact((v1.keep bO λk hk bW=>a.block k bW (QB k (hk.resolve_left id).2)).keep bO λk _ bW=>f.block k bW X).keep bO λk hk bW=>v.block k bW λe=>QB k (hk.resolve_left id).2 ((b k).1 e)
   .rcases u6 k e' with h | h
    .exact QB k e ((b k).1 h)
    have:=gO k e;omega
   exact((((oN.nP (a.mono (G:=λk=>c.heap.size<=k) λk _ e=>(g2 k e).1)).only λk hk=>hk).bU f).nP (v.mono (G:=λk=>c.heap.size<=k) λk _ e=>(g2 k ((b k).1 e)).1)).only λk hk=>hk
  obtain⟨y2,iE,u1,b,uY⟩:=Np ey (a:=kk) ⟨J,J⟩;have rx:=b.size;refine⟨y2,iE,u1,b.same S,Uy b,(oR b (v2.keep bO λk _ bW=>b.block k bW X)).mono ?_⟩;rintro _ gL ⟨q,rfl,x,_,zL,f⟩;have tO:=f.size;have n:∀k,jK q k↔jK l k:=λk=>by unfold jK;rw[x]
  have yb:∀k,jK y2 k->ey.heap.size<=k/\k<iE.heap.size:=λk e=>uY.blk e;have w:cY ey.heap.size gL y2 [kk]:=uY.keep bO λk hk bW=>f.block k bW (nl k (.inr (by have:=(hk.resolve_left id).1;omega)));obtain⟨ot,jH,u3,u4,v,u6⟩:=HE zL J (w.slice bO) (λk hk e=>nl k (.inr (by have:=(hk.resolve_left id).1;omega)) ((n k).1 e)) (by have:=cH (λdO=>!fY p.sp p.ro act kk dO) st.2;rw[bA];omega);have ut:=v.size;have F:∀k,jK ot k->jK l k∨gL.heap.size<=k:=λk e=>(u6 k e).imp (n k).1 id;refine⟨q,I,s,si,sd,sr,f.blk (b.blk lE X) (nl Y (.inl J)),sa,f.blk (b.blk lT X) (nl k1 (.inl J)),s,si,sd,sr,sa,sm,f.blk (b.blk mK X) (nl T (.inl J)),_,f.blk (b.blk nO X) (nl k3 (.inl J)),kk,f.blk (b.blk mt X) (nl k7 (.inr J)),_,f.blk (b.blk oF X) (nl k8 (.inr J)),kJ f (λ_ e=>e),ot,jH,u3,f5 v (λk e=>.inr ((n k).1 e)) S,kJ v (λk e=>(n k).1 e),u4,?_,λk e e'=>?_,⟨I,I,I,I,I,I,I,I,I,I,I,I⟩,?_⟩
  .exact((v1.keep bO λk _ bW=>b.block k bW X).keep bO λk hk bW=>f.block k bW (QB k (hk.resolve_left id).2)).keep bO λk hk bW=>v.block k bW λe=>QB k (hk.resolve_left id).2 ((n k).1 e)
  .rcases F k e' with h | h
   .exact QB k e h
   have:=gO k e;omega
  exact((((oN.bU b).nP (f.mono (G:=λk=>c.heap.size<=k) λk _ e=>(g2 k e).1)).only λk hk=>hk).nP (v.mono (G:=λk=>c.heap.size<=k) λk _ e=>(g2 k ((n k).1 e)).1)).only λk hk=>hk
 have hc:=aU hc;have:j=qj g:=J
 subst this;rw[bm (aY _)]at lh;refine⟨⟨l,I,?_⟩,(U.bU cr).bU cP⟩;have e:pZ p.sp p.ro act may=st.2:=by
  unfold pZ;rw[aC,lh]
 rw[e];exact Oq xA J
end
def A6:C:=[99,104,97,114,116,32,99,32,123,32,105,110,105,116,105,97,108,32,112,59,32,111,110,32,120,32,45,62,32,112,59,32,112,97,114,97,108,108,101,108,32,112,32,123,32,115,116,97,116,101,32,97,32,123,32,105,110,105,116,105,97,108,32,98,59,32,111,110,32,120,32,45,62,32,100,59,32,115,116,97,116,101,32,98,32,123,32,111,110,32,120,32,45,62,32,100,59,32,125,32,115,116,97,116,101,32,100,32,123,32,125,32,125,32,115,116,97,116,101,32,101,32,123,32,111,110,32,120,59,32,111,110,32,120,32,45,62,32,112,59,32,125,32,125,32,125]
def agl:M:=YR ((tN A6).1=0)&&Sa A6&&YR (qj (Mi (eI (fp A6).1) 0 (fp A6).1.root)=5)&&YR (pZ (eI (fp A6).1) (Mi (eI (fp A6).1) 0 (fp A6).1.root) [0,1,2,3,5] [aF,aF,aF,aF,aF]=[2,3])
def aed:agl=aF:=E
def HK(c:Ch):(my c).ro.Pairwise λr s=>r.src<=s.src:=ahb (eI c) c.root 0
def Ifc(w:aw)(u:Er w)(T:Tb w):aA aq 5 #[] w λe w'=>e=ak (aj aF)/\az [] w w':=by
 refine ret (auI ?_);have M:=aed;unfold agl at M;simp only[B,bF]at M;obtain⟨⟨⟨h,a⟩,L⟩,R⟩:=M;have a:=aiw a;have hc:Fj A6=(fp A6).1:=by unfold Fj;rw[K h]
 have l:(kU (fp A6).1).1=0:=by
  unfold tN at h;split at h
  .exact h
  rename_i e;exact absurd h e
 refine(ady A6 a.1 a.2 u T).mono ?_;rintro _ w0 ⟨v,cs,rfl,C,q⟩;rw[hc]at C;obtain⟨xe,xl,xm,xk,rfl,_⟩:=C.root;have z0:=q.size;refine⟨v,_,_,_,_,xe,xl,xm,xk,_,_,_,I,λk0 k1 w1 fN dS lm jP c=>?_⟩;have z1:=c.size;have o:=q.bU c;have g:ChR aF 15 w1 (Fr w.heap.size) (fp A6).1 v _:=⟨C.vars.keep ft Z λk _ W=>c.block k W X,(cG aF 15).keep C.root λk _ W=>c.block k W X⟩
 refine(Zf (D:=14) g.off a.1 a.2 (u.only o) (T.only o)).mono ?_;rintro _ w2 ⟨⟨s,si,m,sr,rfl,Y⟩,d⟩;have z2:=d.size;have o2:=o.bU d;refine⟨s,si,m,sr,_,_,I,d.same S,λk2 k3 w3 rF sR zE uQ f=>?_⟩;have z3:=f.size;have o3:=o2.bU f;have b:=(Y l).o0 f;have N:=Ps l;obtain⟨y,x,p1,p2,p,_⟩:=iU (P:=aq) (t:=31) (e:=3) (i:=Tryz.t3) (z:=O U 0) (w:=w3) (F:=λ_=>False) (vs:=[O U 0,O U 1,O U 2,O U 3,O U 5]) (parts:=#[.mk 0 (O U 0),.mk 1 (O U 1),.mk 2 (O U 2),.mk 3 (O U 3),.mk 4 (O U 5)]) (len:=5) (xs:=[0,1,2,3,5]) (r:=rInt) (size:=1) E E I I Z I I Z Z bO ⟨⟨I,I,Z,Z⟩,⟨I,I,Z,Z⟩,⟨I,I,Z,Z⟩,⟨I,I,Z,Z⟩,⟨I,I,Z,Z⟩,trivial⟩;have z4:=p.size;obtain⟨yb,w5,q1,q2,q3,_⟩:=iU (P:=aq) (t:=30) (e:=4) (i:=Tryz.t4) (z:=aj aM) (w:=x) (F:=λ_=>False) (vs:=[aj aF,aj aF,aj aF,aj aF,aj aF]) (parts:=#[.mk 0 (aj aF),.mk 1 (aj aF),.mk 2 (aj aF),.mk 3 (aj aF),.mk 4 (aj aF)]) (len:=5) (xs:=[aF,aF,aF,aF,aF]) (r:=rBool) (size:=1) E E I I Z I I Z Z j6 ⟨⟨I,I⟩,⟨I,I⟩,⟨I,I⟩,⟨I,I⟩,⟨I,I⟩,trivial⟩;have z5:=q3.size;refine⟨y,x,p1,p.same S,yb,w5,q1,q3.same S,(agk ((b.o0 p).o0 q3) N.sd N.le (HK _) (by show(Mi _ _ _).length<=_;omega) (kI (p2.slice bO) q3) Z (q2.slice j6)).mono ?_⟩;rintro _ w6 ⟨⟨t,rfl,j⟩,V⟩;have e:pZ (my (fp A6).1).sp (my (fp A6).1).ro [0,1,2,3,5] [aF,aF,aF,aF,aF]=[2,3]:=R;rw[e]at j;have Q:=j.slice bO;obtain⟨ad,A,G⟩:=gW Q (i:=0) I;obtain⟨yE,H,J⟩:=gW Q (i:=1) I;have n:sr.n=5:=by rw[b.ro.len];exact L
 refine⟨t,I,V.same S,ad,λ_=>A,_,λ_=>G,yE,λ_=>H,_,λ_=>J,?_,((o3.bU p).bU q3).bU V⟩;rw[h,l,n,j.len];rfl
def HL(x:L dC)(r:L Ro)(act:L Int)(k:Int):qj (fR x r act k)<=qj act:=by
 unfold fR;split
 .exact bf _
 split
 .split
  .exact bf _
  exact cH _ _
 exact bf _
def zw(x:L dC)(r:L Ro)(act:L Int):∀s:L Int,qj (s.flatMap (fR x r act))<=qj s*qj act
 | []=>bf _
 | k::s=>by
  rw[lW,aP,aZ,gY];have:=zw x r act s;have:=HL x r act k;omega
def aee{w:aw}{F G H:A}{s r f sr m z:Sl}{p:Pl}{act a:L Int}(P:PlR w F s r f sr p)(D:Fo p.sp)(E:aB rInt 1 w G m act)(K:qj act<=64)(hk:aB rInt 1 w H z a)(C:qj a<=1048576):
  aA aq 11 #[ah #[s.v,r.v,f.v,sr.v],m.v,z.v] w λe B=>∃t:Sl,e=ak t.v/\cY w.heap.size B t (Fq (a.flatMap (fR p.sp p.ro act)))/\az [] w B:=by
 refine gX (v8w ?_);intro V g R N i;have Y:=i.size;have U:=hk.len;have c:=hk.cap;have Q:=hk.big;refine⟨λv t M b=>∃j:Nat,M=(j:Int)/\v+j=qj a/\j<=qj a/\cY g.heap.size b t ((a.take j).flatMap (fR p.sp p.ro act))/\az [] g b,qj a,⟨0,I,J,bf _,Yb _ _ _ _ _ _,Ib _ _⟩,?_⟩;rintro v t _ b ⟨j,rfl,W,T,h,O⟩;have zu:=O.size;have o:=i.bU O;have l:∀q,jK t q->g.heap.size<=q:=λq e=>(h.blk e).1;refine⟨λc=>?_,λc=>?_⟩
 .have c:=u c;have mV:j<qj a:=J
  obtain⟨ad,a1,a2⟩:=gW (kI hk o) (aX mV);refine⟨ad,a1,_,a2,(JJ (P.o0 o) D (kI E o) J a[j]).mono ?_⟩;rintro _ w2 ⟨⟨l1,rfl,y⟩,d⟩;have z2:=d.size;have h1:=zw p.sp p.ro act (a.take j);have h2:=HL p.sp p.ro act a[j];have h3:qj (a.take j)<=1048576:=Uq
  have h4:qj (a.take j)*qj act<=1048576*64:=Nat.mul_le_mul h3 K;have s:cY g.heap.size w2 t _:=h.keep bO λk _ bW=>d.block k bW X;obtain⟨s',w3,g1,g2,x,g4⟩:=HE s J (y.slice bO) (λk hk hA=>by
   have e:=(h.blk hA).2;dsimp only at e;rcases hk with hk | ⟨hk,_⟩
   .exact hk
   omega) J
  refine⟨l1,I,d.same S,s',w3,g1,λq n=>x.block q ?_ λe=>?_,v-1,J,j+1,Ye,J,J,?_,((O.bU d).nP (x.mono (G:=λq=>g.heap.size<=q) λq _ e=>l q e)).only λq n=>n⟩
  .simp only[aV]at n;omega
  .simp only[aV]at n;have:=l q e;omega
  have t:a.take (j+1)=a.take j++[a[j]]:=Rw
  rw[t,kj,List.flatMap_singleton];exact g2
 have c:=aU c;have mV:j=qj a:=J
 subst mV;rw[gV]at h;have xB:=zw p.sp p.ro act a;have rD:qj a*qj act<=1048576*64:=Nat.mul_le_mul C K;generalize a.flatMap (fR p.sp p.ro act)=e at*
 rcases h.Tj with⟨rfl,rfl⟩ | ⟨k,s⟩
 .refine(Tryz.slices_Sort_int_none Pw 0 b).mono ?_;rintro _ n ⟨rfl,d⟩;obtain rfl:b=n:=d.symm;refine⟨I,λ_ _=>I,(Tryz.slices_Compact_int_empty Pw 0 b).mono ?_⟩;rintro _ n ⟨rfl,d⟩;obtain rfl:b=n:=d.symm;exact⟨Sl.nil,I,λ_ _=>I,Sl.nil,I,by rw[MS];exact Yb _ _ _ _ _ _,o⟩
 obtain⟨tail,h1,h2,h3,h4,h5,h6,h7⟩:=h.cells s;obtain⟨ta,tn,tc⟩:=t;dsimp only at s h3 h4 h5 h6;subst s h4;refine(Tryz.slices_Sort_int k 0 tc e b (h.holds I) h2.lt J).mono ?_;rintro _ w1 ⟨rfl,n,os,rfl⟩;have FX:=Kp e λx y=>YR (x<=y);have am:∀x,x∈(e.mergeSort λx y=>YR (x<=y))->qO x:=λx p=>h7 x (FX.mem_iff.1 p);obtain⟨Cg,cr⟩:=h.put (d:=e.mergeSort λx y=>YR (x<=y)) I FX.length_eq am n os;have z1:=cr.size;refine⟨I,cr.same S,?_⟩;have aS:Fq e=Lib.compact (e.mergeSort λx y=>YR (x<=y)):=I;have yq:=FX.length_eq;rw[aS];generalize bv:Sort.grow _ os=w1 at*
 generalize aT:(e.mergeSort λx y=>YR (x<=y))=ms at*
 have sK:=NdE ms;have aC:∀x,x∈Lib.compact ms->x∈ms:=λx p=>by
  have:=(rl (xY e)).2 x;rw[aT]at this;exact this.1 p
 rw[<-yq];refine(Tryz.slices_Compact_int k 0 tc ms w1 (Cg.holds I) J J).mono ?_;rintro _ w2 ⟨rfl,q,rfl⟩;obtain⟨Qy,cP⟩:=Cg.put (d:=Lib.compact ms++List.replicate ((qj ms)-(qj (Lib.compact ms))) 0) I (by rw[aP,tY];omega) (λx p=>by
  rw[bQ]at p;rcases p with p | p
  .exact am x (aC x p)
  rw[(List.mem_replicate.1 p).2];exact⟨Z,Z⟩) q #[]
 rw[Sort.grow_empty]at Qy cP;have DT:=Qy.cut (qj (Lib.compact ms)) Px X;rw[List.take_left]at DT;refine⟨⟨aN ⟨k,0,Pw⟩,_,tc⟩,I,cP.same S,_,I,DT.low J,(o.trans cr λx p=>.inr ?_).trans cP λx p=>.inr ?_⟩
 .simp only[aV]at p;omega
 simp only[aV]at p;omega
structure Lk (f:Ft) (w:aw) (b:Nat) (F:A) (vs:Sl) (vars:List Vr) (nc:aJ) (sl:Sl) (xs:List dC):Prop where
 blk:aG w b 143 (vs.v::(nc++[sl.v,O U f.1,O U f.2]))
 nc9:qj nc=9
 vr:aB Ry 3 w F vs vars
 sp:aB oV 5 w F sl xs
 nF:∀k,F k->k≠b
section
variable {f g:Ft} {w w':aw} {b:Nat} {F G:A} {vs sl:Sl} {vars:L Vr} {nc:aJ} {xs:L dC}
def Lk.only(h:Lk f w b F vs vars nc sl xs)(O:az [] w w'):Lk f w' b F vs vars nc sl xs:=
 ⟨O.blk h.blk X,h.nc9,Wg ft Z h.vr O X,Wg dj Z h.sp O X,h.nF⟩
def Lk.lG(h:Lk f w b F vs vars nc sl xs)(a:az [b] w w')(B:aG w' b 143 (vs.v::(nc++[sl.v,O U g.1,O U g.2]))):Lk g w' b F vs vars nc sl xs:=
 ⟨B,h.nc9,Wg ft Z h.vr a λk hk _ hm=>h.nF k hk Ie,Wg dj Z h.sp a λk hk _ hm=>h.nF k hk Ie,h.nF⟩
def Lk.lb(h:Lk f w b F vs vars nc sl xs):b<w.heap.size:=h.blk.lt
def Lk.row(h:Lk f w b F vs vars nc sl xs):aD w ((⟨b,0,Pw⟩:Addr).add 10) [sl.v]:=by
 have a:=h.nc9;exact Om h.blk 10 (by rw[dI,ck J,a];rfl)
def uJ(h:Lk f w b F vs vars nc sl xs)(e a:Int):aA aq 84 #[ae (aN ⟨b,0,Pw⟩),O U e,O U a] w λr w'=>r=ak (ai #[])/\Lk (jQ f [(e,a)]) w' b F vs vars nc sl xs/\az [b] w w':=by
 refine ret (anh ?_);have c:=h.nc9;have g:(vs.v::(nc++[sl.v,O U f.1,O U f.2]))[11]? =aN (.int U f.1):=by
  rw[dI,ck J,c];rfl
 refine⟨f.1,Om h.blk 11 g,λhf=>⟨b,11,_,_,I,h.blk,S,λi d B=>⟨I,?_,d⟩⟩,λhf=>⟨I,?_,Ib _ _⟩⟩
 .have b:gD (vs.v::(nc++[sl.v,O U f.1,O U f.2])) 11 [O U e,O U a]=vs.v::(nc++[sl.v,O U e,O U a]):=by
   unfold gD;rw[fF,List.take_append,c,bm J];simp[c]
  rw[b]at B;have hf:f.1=0:=f0
  have:jQ f [(e,a)]=(e,a):=by simp[jQ,hf]
  rw[this];exact h.lG d B
 have hf:f.1≠0:=f0
 rw[EW hf];exact h
def agz(h:Lk f w b F vs vars nc sl xs){ok} e a (j:ok=aM):aA aq 84 #[ae (aN ⟨b,0,Pw⟩),O U e,O U a] w λr w'=>r=ak (ai #[])/\Lk (jQ f (bad ok e a)) w' b F vs vars nc sl xs/\az [b] w w':=by
 subst j;exact uJ h e a
def S8(a:Lk f w b F vs vars nc sl xs)(m:qj vars<=8388608){s:C}:aA aq 234 #[ae (aN ⟨b,0,Pw⟩),ab (T s)] w λe w'=>e=ak (aj (YR (s∈vars.map λv=>v.n)))/\w'=w:=by
 refine ret (aou ?_);have l:=a.vr.len;refine⟨λk i d=>∃j:Nat,i=j/\k+j=qj vars/\j<=qj vars/\s∉(vars.take j).map (λv=>v.n)/\w=d,qj vars,⟨0,I,J,bf _,X,I⟩,?_⟩;rintro k _ _ ⟨j,rfl,n,g,c,rfl⟩;refine⟨vs,Om a.blk 0 I,λh=>?_,λh=>⟨?_,I⟩⟩
 .have h:=u h;obtain⟨ad,y,s,f,e,q,r,o,p⟩:=a.vr.get (be j) J;subst p;rw[ba]at e;refine⟨vs,Om a.blk 0 I,ad,f,_,o.dP 0 _ I,λb=>⟨?_,I⟩,λb=>⟨k-1,J,j+1,Ye,J,J,?_,I⟩⟩
  .rw[ji]at b;have b:=u b;rw[bG (eo.2 ⟨y,bp e,b⟩)]
  rw[ji]at b;rw[bn,e,cA,bQ];rintro(t | t)
  .exact c t
  simp at t;exact aU b t.symm
 have h:=aU h;rw[bm J]at c;rw[bD c]
def aeK(h:Lk f w b F vs vars nc sl xs)(m:qj xs<=1000) s:aA aq 235 #[ae (aN ⟨b,0,Pw⟩),ab (T s)] w λe w'=>e=ak (aj (Ku xs s))/\w'=w:=by
 refine ret (aov ?_);refine⟨sl,h.row,(vO h.sp s).mono ?_⟩;rintro _ a ⟨rfl,d⟩;obtain rfl:w=a:=d.symm;refine⟨_,I,λr a=>r=Ku xs s/\w=a,λr a ⟨g,i⟩=>⟨by rw[g],i.symm⟩,λc=>?_,λc=>⟨?_,I⟩⟩
 .have c:=u c;rcases jt xs s with⟨e,_⟩ | ⟨j,y,e,b,_⟩
  .omega
  obtain⟨ad,f,k,_⟩:=iP h.sp b;rw[e];refine⟨sl,h.row,ad,f,_,k.dP 0 _ I,(DI w y.k).mono ?_⟩;rintro _ a ⟨rfl,d⟩;refine⟨_,I,?_,d.symm⟩;unfold Ku;rw[e,fJ b,bG J,ch]
 unfold Ku;rw[show decide _=aM from c,cR]
def FI(h:∀k,G k->k≠b)(g:qj vars<=8388608)(hm:qj xs<=1000):∀(d:Nat) {f:Ft} {w:aw} {x:Ex} {c:aJ},Lk f w b F vs vars nc sl xs->O4 aM d w G x c->F2 x<=8388608->
  aA aq 185 #[ae (aN ⟨b,0,Pw⟩),ah c.toArray] w λe w'=>e=ak (ai #[])/\Lk (jQ f (Uo xs (vars.map λv=>v.n) x)) w' b F vs vars nc sl xs/\az [b] w w'
 | 0,_,_,_,_,_,a,_=>a.elim
 | d+1,f,w,x,c,t,⟨s,P,K⟩,B=>by
  subst P;have A:=K.1;have tR:=A.len;have Y:=t.lb;rw[I6]at B;have N:qj x.dK<=Ul x.dK:=by
   have:∀b:L Ex,qj b<=Ul b:=λb=>by induction b with
    | nil=>exact bf _
    | cons a b d=>
     rw[Ul,aZ];have:=I6 a;omega
   exact this _
  generalize T:(vars.map λv=>v.n)=n;refine ret (an4 ?_);intro Q i X W j;have z0:=j.size;have z:=t.only j;have sm:∀{e G:aw},az [b] w e->i.heap.size<=e.heap.size->az [b] e G->cj [Q] e G:=λ_ B M=>M.same S;let St:Ft->aw->Prop:=λf e=>Lk f e b F vs vars nc sl xs/\az [b] w e/\i.heap.size<=e.heap.size
  have C:St f i:=⟨z,only1 j,H _⟩
  refine⟨λr e=>r=(YR (x.k≠2)||YR (x.s∈n))/\St f e,λm V ⟨p,D⟩=>⟨λr e=>r=(YR (x.k≠3)||Ku xs x.s)/\St f e,λo w2 ⟨q,E⟩=>⟨St (jQ f (bad (N2 xs n x.k x.s) 23 x.a)),λw3 R=>?_,λl=>?_,λl=>?_⟩,λhk=>⟨?_,D⟩,λhk=>?_⟩,λhk=>⟨?_,C⟩,λhk=>?_⟩
  .refine⟨λw F e=>∃a:Nat,F=(a:Int)/\w+a=qj x.dK/\a<=qj x.dK/\St (jQ f (bad (N2 xs n x.k x.s) 23 x.a++uB xs n (x.dK.take a))) e,qj x.dK,⟨0,I,J,bf _,by rw[cu,uB,bC];exact R⟩,?_⟩;rintro w _ w4 ⟨a,rfl,nQ,hj,v,s,z4⟩;refine⟨λb=>?_,λb=>?_⟩
   .have b:=u b;obtain⟨ad,y,ds,g1,g2,g3,g4,g5,g6⟩:=(Wg (mq aM d) Z A s λk hk _ hm=>h k hk Ie).get (be a) J;rw[ba]at g2;have am:=I7 (bp g2);have FT:=g6;obtain⟨s',rfl⟩:=fD ⟨d,g6⟩;have CP:=FI h g hm d v FT J;rw[T]at CP;refine⟨ad,g1,_,_,_,_,_,_,g5,CP.mono ?_⟩;rintro _ w5 ⟨rfl,h5,f⟩;have z5:=f.size;have lS:x.dK.take (a+1)=x.dK.take a++[y]:=by rw[bn,g2];rfl
    refine⟨I,sm s z4 f,w-1,J,a+1,Ye,J,J,?_,ic s f,J⟩;rw[lS,EY,uB,uB,bC,<-bq,gz];exact h5
   have b:=aU b;have d:a=qj x.dK:=J
   subst d;rw[bm (H _),<-ajf]at v;exact⟨I,v,s⟩
  .obtain⟨b,a,s⟩:=E;have k:N2 xs n x.k x.s=aM:=by
    unfold N2;rw[<-p,<-q];cases m<;>cases o<;>simp at l⊢
   refine(agz b 23 x.a k).mono ?_;rintro _ w ⟨rfl,f,d⟩;have v:=d.size;exact⟨I,sm a s d,f,ic a d,J⟩
  .have a:N2 xs n x.k x.s=aF:=by
    unfold N2;rw[<-p,<-q];cases m<;>cases o<;>simp at l⊢
   rw[a];exact E
  .have hk:x.k≠3:=WH
   rw[bG hk];rfl
  .have hk:x.k=3:=WH
   obtain⟨a,d,f⟩:=D;refine(aeK a hm _).mono ?_;rintro _ e ⟨rfl,b⟩;obtain rfl:V=e:=b.symm;exact⟨_,I,TT _ _,UR,a,d,f⟩
  .have hk:x.k≠2:=WH
   rw[bG hk];rfl
  have hk:x.k=2:=WH
  refine(S8 z g).mono ?_;rintro _ e ⟨rfl,a⟩;obtain rfl:i=e:=a.symm;exact⟨_,I,TT _ _,by rw[hk,T];rfl,C⟩
def Nx(o:∀k,G k->k≠b)(c:qj vars<=8388608)(hm:qj xs<=1000){l}{qM}(q:Lk f w b F vs vars nc sl xs)(p:ly aM (uW aM) 9 227 w G l qM)(z:lg qM<=8388608):
  aA aq 184 #[ae (aN ⟨b,0,Pw⟩),l.v] w λe w'=>e=ak (ai #[])/\Lk (jQ f (mw xs (vars.map λv=>v.n) qM)) w' b F vs vars nc sl xs/\az [b] w w':=by
 generalize L:(vars.map λv=>v.n)=n;refine ret (an3 ?_);have W:=p.1.len;have K:=iB qM;have kp:∀{a:aw},az [b] w a->aB (uW aM) 9 a G l qM:=λr=>Wg (dW aM) Z p.1 r λk hk _ hm=>o k hk Ie;let St:Ft->aw->Prop:=λf a=>Lk f a b F vs vars nc sl xs/\az [b] w a
 refine⟨λg i a=>∃j:Nat,i=(j:Int)/\g+j=qj qM/\j<=qj qM/\St (jQ f (mw xs n (qM.take j))) a,qj qM,⟨0,I,J,bf _,by rw[cu];exact q,Ib _ _⟩,?_⟩;rintro g i a ⟨j,rfl,Q,t,h⟩;refine⟨λm=>?_,λm=>?_⟩
 .have m:=u m;obtain⟨y,x⟩:∃y,qM[j]? =aN y:=⟨_,aX (show j<(qj qM) by omega)⟩
  have D:=uE (bp x);unfold Kx at D;have E:mw xs n (qM.take (j+1))=mw xs n (qM.take j)++(bad (YR (y.k≠1)||YR (y.n∈n)) 23 y.a++Uo xs n y.x):=by
   rw[bn,x];unfold mw;rw[kj];simp[Y5]
  have at_:∀{v:aw},az [b] w v->∃ad s,cK l (j:Int) 9 ad/\aD v (ad.add 0) [O U y.k]/\aD v (ad.add 1) [ab (T y.n)]/\aD v (ad.add 2) (oM y.x.k y.x.n y.x.s y.x.op s y.x.a)/\aD v (ad.add 8) [O U y.a]/\rE aM v G y.x (oM y.x.k y.x.n y.x.s y.x.op s y.x.a):=fun{v} c=>by
   obtain⟨ad,y',G,w,b,q3,T,d,y⟩:=(kp c).get (be j) J;rw[ba,x]at b;injection b with b;subst b;obtain⟨xc,rfl,f⟩:=y;obtain⟨s,rfl⟩:=fD f;exact⟨ad,s,w,d.dP 0 _ I,d.dP 1 _ I,d.part 2 λi v l=>Ng l,d.dP 8 _ I,f⟩
  obtain⟨ad,s,C,F,M,S,V,X⟩:=at_ h.2;refine⟨λN v=>N=(YR (y.k≠1)||YR (y.n∈n))/\St (jQ f (mw xs n (qM.take j))) v,λR P ⟨B,e⟩=>⟨St (jQ f (mw xs n (qM.take j)++bad (YR (y.k≠1)||YR (y.n∈n)) 23 y.a)),λY A=>?_,λk=>?_,λk=>?_⟩,ad,C,_,F,λhk=>⟨?_,h⟩,λhk=>⟨ad,C,_,M,(S8 h.1 c).mono ?_⟩⟩
  .obtain⟨G,y,s,T,p3,v,p5,d,w⟩:=at_ A.2;have b:=FI o c hm d A.1 w J;rw[L]at b;refine⟨G,s,_,_,_,_,_,_,v,b.mono ?_⟩;rintro _ w3 ⟨rfl,l,f⟩;refine⟨I,g-1,J,j+1,Ye,J,J,?_,ic A.2 f⟩;rw[E,<-bq,gz];exact l
  .obtain⟨w,v,l,G,T,p4,s,p6⟩:=at_ e.2;have f:(YR (y.k≠1)||YR (y.n∈n))=aM:=by rw[<-B];simpa using k
   refine⟨w,l,_,s,(agz e.1 23 _ f).mono ?_⟩;rintro _ w4 ⟨rfl,b,d⟩;refine⟨I,?_,ic e.2 d⟩;rw[gz];exact b
  .have b:(YR (y.k≠1)||YR (y.n∈n))=aF:=by rw[<-B];simpa using k
   rw[b];show St (jQ f (_++[])) P;rw[bC];exact e
  .have hk:y.k≠1:=WH
   rw[bG hk];rfl
  have hk:y.k=1:=WH
  rintro _ v ⟨rfl,b⟩;obtain rfl:a=v:=b.symm;exact⟨_,I,by rw[hk,L];rfl,h⟩
 have m:=aU m;have e:j=qj qM:=J
 subst e;rw[bm (H _)]at h;exact⟨I,h.1,h.2⟩
end
section
variable {f:Ft} {w w':aw} {b:Nat} {F G:A} {vs sl:Sl} {vars:L Vr} {nc:aJ} {xs:L dC}
def aef(F:Fo xs){a b:Int}(c:vG xs a)(d:vG xs b):∃(m:Nat) (x:dC),yQ xs a b=m/\xs[m]? =aN x:=by
 unfold yQ;rcases uC (xs:=xs) a b (qj xs) with⟨_,h⟩ | ⟨m,e,f,_⟩
 .have b:=h 0 F.ne;obtain⟨x,a⟩:=fE (xs:=xs) (i:=0) F.ne;have r:=(F.rt x a).2.2;obtain⟨e,j⟩:=c;obtain⟨g,k⟩:=d;rw[yi a e,yi a g,bG J,bG J]at b;cases b
 obtain⟨x,a⟩:=fE (xs:=xs) f;exact⟨m,x,e,a⟩
def st0(A:Fo xs)(B:qj xs<=64){H:Sl}{g:L (C)}(c:Lk f w b F vs vars nc sl xs)(N:aB nU 1 w G H g)(Y:qj g<=1100000):
  aA aq 186 #[ae (aN ⟨b,0,Pw⟩),H.v] w λe w'=>e=ak (aj (Kv xs [] g))/\az [] w w':=by
 refine ret (an5 ?_);have W:=N.len;have S:∀{a:aw},az [] w a->aB nU 1 a G H g:=λd=>Wg dG Z N d X;have v:∀{a:aw},az [] w a->aB oV 5 a F sl xs:=λd=>(c.only d).sp;refine⟨λE q D a=>∃(j:Nat) (i:L Int),D=(j:Int)/\E+j=qj g/\j<=qj g/\qj i=j/\(∀n,n∈i->vG xs n)/\cY w.heap.size a q i/\Kv xs [] g=Kv xs i (g.drop j)/\az [] w a,qj g,⟨0,[],I,J,bf _,I,λn h=>by simp at h,Yb _ _ _ _ _ _,I,Ib _ _⟩,?_⟩;rintro E q _ w0 ⟨j,i,rfl,nQ,V,Q,r,P,o,d⟩;refine⟨λm l M=>?_,λm=>⟨?_,d⟩⟩
 .have m:=u m;have f:=d.bU M;obtain⟨ad,s,cs,g1,G,g3,g4,g5,g6⟩:=(S f).get (be j) J;have g6:cs=[ab (T s)]:=g6;subst g6;rw[ba]at G;have am:g.drop j=s::g.drop (j+1):=by
   obtain⟨bW,e⟩:=bc.1 G;rw[<-e,Dc]
  rw[am,Fh]at o;refine⟨sl,(c.only f).row,ad,g1,_,g5,(vO (v f) s).mono ?_⟩;rintro _ a ⟨rfl,hu⟩;obtain rfl:l=a:=hu.symm;refine⟨_,I,λF=>⟨?_,f⟩,λF=>?_⟩
  .rw[o,K (u F)]
  have F:=aU F;rw[R F]at o;have T:=Sj A F;obtain⟨e,_⟩ | ⟨p,x,e,hx,_⟩:=jt xs s
  .omega
  obtain⟨aC,a1,a2,a3,_⟩:=iP (v f) hx;have aS:cY w.heap.size l q i:=P.kp M;have eN:Cx xs s=if gv x.k=aF then x.pa else(p:Int):=by
   unfold Cx;rw[e,fJ hx,jZ hx]
  rw[e]at F⊢;refine⟨sl,(c.only f).row,aC,a1,_,a2.dP 0 _ I,(DI l x.k).mono ?_⟩;rintro _ a ⟨rfl,hu⟩;obtain rfl:l=a:=hu.symm;refine⟨_,I,λi3 a=>i3=Cx xs s/\l=a,λi3 w4 ⟨h3,aT⟩=>?_,λhh=>⟨sl,(c.only f).row,aC,a1,_,a3,?_,I⟩,λhh=>⟨?_,I⟩⟩
  .subst aT h3;refine⟨λtS D a=>∃t:Nat,D=(t:Int)/\tS+t=qj i/\t<=qj i/\((i.take t).any λbV=>!Hd xs (Cx xs s) bV)=aM/\az [] l a,qj i,⟨0,I,J,bf _,I,Ib _ _⟩,?_⟩;rintro tS _ w5 ⟨t,rfl,Cj,ht,x,eJ⟩;have bv:=aS.len;have o5:=f.bU eJ;have e:cY w.heap.size w5 q i:=aS.kp eJ;refine⟨λp w6 dV=>?_,λp=>?_⟩
   .have p:=u p;have o6:=o5.bU dV;have cc:cY w.heap.size w6 q i:=e.kp dV;obtain⟨y,hy⟩:∃y,i[t]? =aN y:=⟨_,aX (show t<(qj i) by omega)⟩
    have n:=r y (bp hy);obtain⟨yI,b1,b2⟩:=JG (ap0 cc) hy;obtain⟨y4,w7,k1,k2,k3⟩:=apr w6 (BF T B) (BF n B);refine⟨λk=>k=b,I,sl,(c.only o6).row,yI,b1,y,b2,y4,w7,k1,Uy k2,(adV (v (o6.bU k2)) A J k3 T n).mono ?_⟩;rintro _ w8 ⟨rfl,fK⟩;have o8:=(o6.bU k2).bU fK;obtain⟨Qw,c1,c2⟩:=JG (ap0 ((cc.kp k2).kp fK)) hy;obtain⟨ce,z,em,Kz⟩:=aef A T n;obtain⟨co,d1,d2,_⟩:=iP (v o8) Kz;have bY:(!Hd xs (Cx xs s) y)=(((ce:Int)==Cx xs s||(ce:Int)==y)||z.k !=2):=by
     unfold Hd;rw[em,fJ Kz,bK];by_cases q:(ce:Int)=Cx xs s<;>by_cases b:(ce:Int)=y<;>by_cases q3:z.k=2<;>simp[q,b,q3]
    rw[em];refine⟨_,I,Uy fK,Qw,λ_=>c1,_,λ_=>c2,sl,λ_=>(c.only o8).row,co,λ_=>d1,_,λ_=>d2.dP 0 _ I,λhq=>⟨?_,o8⟩,λhq=>⟨tS-1,J,t+1,Ye,J,J,?_,(eJ.bU dV).bU (k2.bU fK)⟩⟩
    .rw[o,K];exact gr.2 ⟨y,bp hy,bY.trans hq⟩
    rw[bn,hy,qW,x,kz];simp only[Option.toList,List.any_cons,List.any_nil,KL];exact bY.trans hq
   have p:=aU p;rw[bm J]at x;rw[R (by rw[x];decide)]at o;obtain⟨y,t,k,k3,b,q,g1,G,g3,_⟩:=af0 w e o5 (Cx xs s) (BF T B) J;refine⟨y,t,k,b,q,g1,E-1,J,j+1,i++[Cx xs s],Ye,J,J,by rw[aP,bA,Q],λn h=>?_,G,o,g3⟩;rcases bQ.1 h with h | h
   .exact r n h
   simp only[aV]at h;subst h;exact T
  .rw[eN,K hh]
  rw[eN,R Oy]
 have m:=aU m;rw[dT J]at o;rw[o];rfl
end
def Ey(k:Int)(n:Nat)(i:C)(g:M):M:=YR (k=2/\(i≠[]∨n<2))||YR (k=1/\0<n/\g=aM)||YR (k=1/\n=0/\i≠[])
def agm n i g:Ey 2 n i g=aF↔i≠[]∨n<2:=by unfold Ey;simp
def S9 n i g:Ey 1 n i g=aF↔(0<n/\g=aM)∨(n=0/\i≠[]):=by unfold Ey;simp
def ap4{xs}{b}{l}{n} f (hk:1<=b.k/\b.k<=4) (hh:gv b.k=aM):jQ f (wa xs b l n)=if Ey b.k (EZ l) b.ini (Av b.ini l)=aF then jQ f [(25,b.a)]else if b.k=1/\EZ l=0/\qj l≠0 then jQ f [(26,b.a)]else f:=by
 have e:¬_:=λh=>by unfold gv at hh;rw[bG h]at hh;cases hh
 unfold wa;rw[R Oy];rcases(by omega:b.k=2∨b.k=1)with a | d
 .rw[K a,a];by_cases c:b.ini≠[]∨EZ l<2
  .have:(YR (b.ini=[])&&YR (1<EZ l))=aM:=by
    rw[ii,db,db];rcases c with c | c
    .exact .inl c
    exact .inr J
   rw[K ((agm _ _ _).2 c),this];rfl
  have:(YR (b.ini=[])&&YR (1<EZ l))=aF:=by
   rw[B,cx,cx];exact⟨ob.1 λh=>c (.inl h),Nat.lt_of_not_le λh=>c (.inr J)⟩
  rw[R (λh=>c ((agm _ _ _).1 h)),R (λh=>absurd h.1 Z),this];rfl
 rw[R J,d];by_cases s:0<EZ l
 .rw[K s];cases g:Av b.ini l
  .rw[K ((S9 _ _ _).2 (.inl ⟨s,I⟩))];rfl
  rw[R (λh=>((S9 _ _ _).1 h).elim (λh=>(by cases h.2)) λh=>J),R (λh=>J)];rfl
 rw[R s];have c:EZ l=0:=J
 by_cases i:b.ini=[]
 .rw[R (λh=>((S9 _ _ _).1 h).elim (λh=>J) λh=>h.2 i),bG i];by_cases b:qj l=0
  .rw[R (λh=>h.2.2 b),bG b];rfl
  rw[K ⟨I,c,b⟩,bD b];rfl
 rw[K ((S9 _ _ _).2 (.inr ⟨c,i⟩)),bD i,gz];show jQ (jQ f [_]) _=_;refine EW ?_ _;rw[show jQ f [_]=if f.1=0 then _ else f from rfl];split
 .show 25≠0;decide
 assumption
section
variable {f:Ft} {w w':aw} {b:Nat} {F G:A} {vs sl:Sl} {vars:L Vr} {nc:aJ} {xs:L dC}
def mtM(hG:∀k,G k->k≠b)(hF:Fo xs)(hv:qj vars<=8388608)(hm:qj xs<=64){X:Nat}{d:Nb}{s:L Nd}{cs:aJ}(aS:Lk f w b F vs vars nc sl xs)(hx:nX aM (X+1) w G (.mk d s) cs){a:Nat}(ha:a<qj xs)(E:mL (.mk d s)<=1048576){dp:Nat}(jM:kc dp (.mk d s)=aF):
  aA aq 133 #[ae (aN ⟨b,0,Pw⟩),ah cs.toArray,O U (a:Int)] w λe w'=>e=ak (ai #[])/\Lk (jQ f (wa xs d s a++(mw xs (vars.map λv=>v.n) (d.en++d.lv)++d.mv.flatMap (Dx xs (vars.map λv=>v.n))))) w' b F vs vars nc sl xs/\az [b] w w':=by
 have NS:1<=d.k/\d.k<=4:=by
  rw[kc,B,B]at jM;have m:=jM.1.2;unfold qE at m;rw[B]at m;have m:=m.2;split at m
  .rename_i a;unfold gv at a;have:=u a;omega
  simp only[B]at m;have:=(u m.1.1.1.1).1;omega
 have am:∀P,P∈d.mv->P.k=3->0<=P.wt:=λP V hk=>by
  rw[kc,B,B]at jM;have m:=jM.1.2;unfold qE at m;rw[B]at m;have m:=m.2;split at m
  .simp only[B]at m;have:=(u m.2).2.2.2.1;rw[rH.1 this]at V;simp at V
  rw[B]at m;have:=du.1 m.2 P V;unfold mr at this;rw[B]at this;have:=u this.2;omega
 obtain⟨en,lv,mv,kids,jh,⟨he,Cf,oW⟩,fN⟩:=hx;dsimp only[Nd.kids,Nd.b]at jh he Cf oW fN;subst jh;have hk:=fN.1;rw[mL]at E;unfold zl at E;have FV:=qu s;have m:=aS.lb;generalize TL:(vars.map λv=>v.n)=o;let aT:L Ft:=wa xs d s a
 refine ret (anC ?_);intro k0 w0 dS xH cn;have z0:=cn.size;let St:Ft->aw->Prop:=λf c=>Lk f c b F vs vars nc sl xs/\az [b] w c/\w0.heap.size<=c.heap.size
 have s0:St f w0:=⟨aS.only cn,only1 cn,H _⟩
 have sm:∀{g:Ft} {c h:aw},St g c->az [b] c h->cj [k0] c h:=λhs hO=>hO.same (by have:=hs.2.2;simp;omega);have Ny:∀{g:Ft} {c h:aw},St g c->az [] c h->St g h:=fun{g c h} hs hO=>⟨hs.1.only hO,ic hs.2.1 (only1 hO),RH⟩
 have KA:∀{g A:Ft} {c h:aw},St g c->Lk A h b F vs vars nc sl xs->az [b] c h->St A h:=fun{g A c h} hs C hO=>⟨C,ic hs.2.1 hO,RH⟩
 have lP:∀(e Y:Int) {g:Ft} {c:aw},St g c->aA aq 84 #[ae (aN ⟨b,0,Pw⟩),O U e,O U Y] c λS h=>S=ak (ai #[])/\cj [k0] c h/\St (jQ g [(e,Y)]) h:=λe Y {g c} hs=>(uJ hs.1 e Y).mono (by
  rintro _ h ⟨rfl,C,hO⟩;exact⟨I,sm hs hO,KA hs C hO⟩)
 have x:∀(k:Int) {c:aw},aA aq 109 #[O U k] c λS h=>∃b':M,S=ak (aj b')/\c=h/\b'=gv k:=λk {c}=>(DI c k).mono (by
  rintro _ h ⟨rfl,a⟩;exact⟨_,I,a.symm,I⟩)
 have kA:∀{c:aw} {q:Sl} {r:L Ac},ly aM (uW aM) 9 227 w G q r->∀{g:Ft},St g c->ly aM (uW aM) 9 227 c G q r:=fun{c q r} i {g} hs=>i.keep (dW aM) Z λk hk W=>hs.2.1.block k W SM;have kK:∀{g:Ft} {c:aw},St g c->aB (nX aM X) 9 c G kids s:=λhs=>Wg (cG aM X) Z hk hs.2.1 λk hk _ hm=>hG k hk Ie;have Ki:=hk.len;refine⟨λN i0 b0 aC c=>∃j:Nat,aC=(j:Int)/\N+j=qj s/\j<=qj s/\i0=(EZ (s.take j):Nat)/\b0=Av d.ini (s.take j)/\St f c,qj s,⟨0,I,J,bf _,I,I,s0⟩,?_⟩;rintro N _ _ _ w1 ⟨j,rfl,nQ,hj,rfl,rfl,D⟩;refine⟨λQ=>?_,λQ=>(x d.k).mono ?_⟩
 .have Q:=u Q;obtain⟨y,l⟩:∃y,s[j]? =aN y:=⟨_,aX (show j<(qj s) by omega)⟩
  have at_:∀{g:Ft} {c:aw},St g c->∃(ad:Addr),cK kids (j:Int) 9 ad/\aD c (ad.add 0) [O U y.b.k]/\aD c (ad.add 1) [ab (T y.b.nm)]:=fun{g c} hs=>by
   obtain⟨ad,T,y,k,a,v,G,e,f⟩:=(kK hs).get (be j) J;rw[ba,l]at a;injection a with a;subst a;cases X with
   | zero=>exact f.elim
   | succ D'=>
    obtain⟨vT,vU,rG,ju,rfl,_⟩:=f;exact⟨ad,k,e.dP 0 _ I,e.dP 1 _ I⟩
  have t:=Fi l;have w:=Yg (s.take j);rw[ci]at w;have b:Av d.ini (s.take (j+1))=(Av d.ini (s.take j)||YR (y.b.nm=d.ini)):=by
   unfold Av;rw[bn,l,qW];simp
  obtain⟨ad,k,a,v⟩:=at_ D;refine⟨ad,k,_,a,(x y.b.k).mono ?_⟩;rintro _ c ⟨z,rfl,rfl,rfl⟩;refine⟨_,I,TT _ _,λn c=>n=(EZ (s.take (j+1)):Nat)/\St f c,λn F ⟨q,p⟩=>?_,λhn=>⟨?_,D⟩,λhn=>⟨?_,D⟩⟩
  .obtain⟨e,y,T,G⟩:=at_ p;exact⟨e,λ_=>y,_,λ_=>G,λw4 f=>⟨N-1,J,j+1,Ye,J,J,q,by rw[b,ji],Ny p f⟩⟩
  .rw[eS J J,t,R (by intro e;rw[e]at hn;cases hn)];rfl
  rw[t,K H7];rfl
 have Q:=aU Q;have me:j=qj s:=J
 subst me;rw[bm (H _)];rintro _ c ⟨b2,rfl,rfl,sF⟩;have rT:∀{q:Sl} {r:L Ac},ly aM (uW aM) 9 227 w G q r->lg r<=8388608->∀{g:Ft} {c:aw},St g c->aA aq 184 #[ae (aN ⟨b,0,Pw⟩),q.v] c λS h=>S=ak (ai #[])/\az [b] c h/\St (jQ g (mw xs o r)) h:=fun{q r} i v {g c} hs=>(Nx hG hv J hs.1 (kA i hs) v).mono (by
  rw[TL];rintro _ h ⟨rfl,C,hO⟩;exact⟨I,hO,KA hs C hO⟩)
 refine⟨b2,I,TT _ _,St (jQ f (wa xs d s a)),λw6 T=>?_,?_,?_⟩
 .refine(rT he J T).mono ?_;rintro _ w7 ⟨rfl,gq,p⟩;refine⟨I,sm T gq,(rT Cf J p).mono ?_⟩;rintro _ w8 ⟨rfl,fK,q⟩;have G:jQ (jQ (jQ f (wa xs d s a)) (mw xs o d.en)) (mw xs o d.lv)=jQ f (wa xs d s a++mw xs o (d.en++d.lv)):=by
   rw[<-gz,<-gz];unfold mw;rw[kj]
  rw[G]at q;have yq:=oW.1.len;have bv:=nf d.mv;refine⟨I,sm p fK,λN aC c=>∃j:Nat,aC=(j:Int)/\N+j=qj d.mv/\j<=qj d.mv/\St (jQ f (wa xs d s a++(mw xs o (d.en++d.lv)++(d.mv.take j).flatMap (Dx xs o)))) c,qj d.mv,⟨0,I,J,bf _,by rw[cu,uU,bC];exact q⟩,?_⟩;rintro n _ w ⟨t,rfl,z,ht,l⟩;refine⟨λe=>?_,λe=>?_⟩
  .have e:=u e;obtain⟨ad,y,ds,g1,g2,g3,g4,g5,g6⟩:=(Wg (nJ aM) Z oW.1 l.2.1 λk hk _ hm=>hG k hk Ie).get (be t) J;rw[ba]at g2;have vd:=bp g2;have TJ:=qs vd;have cC:=am y vd;unfold Hj at TJ;obtain⟨gc,tU,tg,rfl,hg,Ce,oJ⟩:=g6;obtain⟨gs,rfl⟩:=fD hg;have yU:=xU y.tg;have e9:jQ f (wa xs d s a++(mw xs o (d.en++d.lv)++(d.mv.take (t+1)).flatMap (Dx xs o)))=jQ (jQ (jQ (jQ (jQ f (wa xs d s a++(mw xs o (d.en++d.lv)++(d.mv.take t).flatMap (Dx xs o)))) (bad (Mg y) 28 y.a)) (Uo xs o y.g)) (mw xs o y.acts)) (bad (Kv xs [] y.tg) 27 y.a):=by
    rw[bn,g2,kj];simp only[Option.toList,lW,uU,bC,Dx,gz]
   refine⟨λc=>St (jQ f (wa xs d s a++_)) c,λdq HU=>⟨n-1,J,t+1,Ye,J,J,HU⟩,ad,g1,_,_,_,_,_,_,_,_,_,_,_,_,_,g5,λk7 dB co ce eG=>?_⟩;rw[e9];generalize jQ f (wa xs d s a++(mw xs o (d.en++d.lv)++(d.mv.take t).flatMap (Dx xs o)))=f9 at*
   have z9:=l.2.2;have cc:k7≠b:=by have:=l.1.lb;omega
   have bV:∀{c h:aw},dB.heap.size<=c.heap.size->az [b] c h->cj [k0,k7] c h:=λv hO=>hO.same (by have:=eG.size;simp;omega);have TM:az [b] w dB:=only1 eG;have HV:=Ny l eG;obtain⟨dg,bY⟩:=hg;let S5:Ft->aw->Prop:=λg c=>St g c/\az [b] w c/\dB.heap.size<=c.heap.size
   have up:∀{g A:Ft} {c h:aw},S5 g c->Lk A h b F vs vars nc sl xs->az [b] c h->S5 A h:=fun{g A c h} hs C hO=>⟨KA hs.1 C hO,ic hs.2.1 hO,RH⟩
   refine⟨S5 (jQ f9 (bad (Mg y) 28 y.a)),λey NI=>?_,λhw=>?_,λhw=>?_⟩
   .refine(FI hG hv J dg NI.1.1 ((mq aM dg).keep bY λk hk W=>NI.2.1.block k W SM) J).mono ?_;rw[TL];rintro _ eY ⟨rfl,vS,dE⟩;have a:=up NI vS dE;refine⟨I,bV NI.2.2 dE,(Nx hG hv J vS (Ce.keep (dW aM) Z λk hk W=>a.2.1.block k W SM) J).mono ?_⟩;rw[TL];rintro _ fV ⟨rfl,f,eZ⟩;have b:=up a f eZ;refine⟨I,bV a.2.2 eZ,(st0 hF hm f (Wg dG Z oJ.1 b.2.1 λk hk _ V=>hG k hk (by simpa using V)) J).mono ?_⟩;rintro _ fT ⟨rfl,t⟩;have F:=up b (f.only t) (only1 t);refine⟨_,I,bV b.2.2 (only1 t),λi=>(uJ F.1.1 27 _).mono ?_,λi=>?_⟩
    .rintro _ iE ⟨rfl,k,iH⟩;rw[show Kv xs [] y.tg=aM by simpa using i];exact⟨I,bV F.2.2 iH,(up F k iH).1⟩
    rw[show Kv xs [] y.tg=aF by simpa using i];exact F.1
   .refine(uJ HV.1 28 _).mono ?_;rintro _ f ⟨rfl,b,a⟩;have:Mg y=aM:=by
     unfold Mg;simp at hw⊢;omega
    rw[this];exact⟨I,bV (H _) a,up ⟨HV,TM,H _⟩ b a⟩
   have:Mg y=aF:=by
    unfold Mg;simp at hw⊢;omega
   rw[this];exact⟨HV,TM,H _⟩
  have e:=aU e;rw[bm J]at l;exact⟨I,l.1,l.2.1⟩
 .intro hh jH kg;have G:gv d.k=aF:=by rw[<-sF];exact hh
  have n:=Ny D kg;refine⟨sl,n.1.row,(vO n.1.sp d.dft).mono ?_⟩;rintro _ c ⟨rfl,hu⟩;obtain rfl:jH=c:=hu.symm;refine⟨_,I,TT _ _,λj8 lc=>?_⟩;have l:=Ny n lc;obtain⟨y,F⟩:=fE ha;obtain⟨ad,a1,_,a3,_⟩:=iP l.1.sp F;refine⟨sl,l.1.row,sl,l.1.row,ad,a1,_,a3,(BU l.1.sp _ _).mono ?_⟩;rintro _ c ⟨rfl,hu⟩;obtain rfl:j8=c:=hu.symm;have KJ:y.pa<qj xs:=by
   by_cases e:a=0
   .subst e;have:=(hF.rt y F).1;omega
   obtain⟨p,t,z,f,q,_⟩:=hF.pa a y J F;have:=gp f;omega
  rw[PM hF _ _ KJ];have Qx:wa xs d s a=bad (Ku xs d.dft&&rX xs (gj xs d.dft) y.pa) 26 d.a:=by unfold wa;rw[K G,jZ F]
  refine⟨_,I,TT _ _,λb6 c=>b6=(!(Ku xs d.dft&&rX xs (gj xs d.dft) y.pa))/\St f c,λb6 oH ⟨k,w⟩=>⟨λi=>(lP 26 d.a w).mono ?_,λi=>?_⟩,λb=>⟨?_,l⟩,λb=>?_⟩
  .rintro _ c ⟨rfl,a,e⟩;rw[Qx,show(Ku xs d.dft&&rX xs (gj xs d.dft) y.pa)=aM by rw[i]at k;exact(da _).mp k.symm];exact⟨I,a,e⟩
  .rw[Qx,show(Ku xs d.dft&&rX xs (gj xs d.dft) y.pa)=aF by rw[i]at k;exact(jA _).mp k.symm];exact w
  .unfold Ku;rw[cy]at b;rcases b with b | b
   .rw[bD (by have:=u b;omega:¬0<=gj xs d.dft)];simp[b]
   rw[show rX xs (gj xs d.dft) y.pa=aM by simpa using b];simp
  rw[fe]at b;have p:=aU b.1;have f:=by simpa using b.2
  rcases jt xs d.dft with⟨e,_⟩ | ⟨q,z,e,a,_⟩
  .omega
  obtain⟨y,q,t,_⟩:=iP l.1.sp a;rw[e];refine⟨sl,l.1.row,y,q,_,t.dP 0 _ I,(x z.k).mono ?_⟩;rintro _ c ⟨b7,rfl,rfl,rfl⟩;refine⟨_,I,TT _ _,?_,l⟩;rw[<-e,f];unfold Ku;rw[e,fJ a,bG J];simp
 intro hh;have w:gv d.k=aM:=by rw[<-sF];exact hh
 have G:(kids.n:Int)=qj s:=J
 have t:=ap4 (xs:=xs) (l:=s) (n:=a) f NS w;have y:=ji d.ini [];refine⟨λF c=>F=Ey d.k (EZ s) d.ini (Av d.ini s)/\St f c,λF pI ⟨b,p⟩=>⟨λi=>(lP 25 d.a p).mono ?_,λq=>⟨λi=>(lP 26 d.a p).mono ?_,λi=>?_⟩⟩,λk=>⟨?_,D⟩,λk=>⟨λz=>⟨?_,D⟩,λz=>⟨?_,D⟩⟩⟩
 .rintro _ c ⟨rfl,a,e⟩;rw[t,K (by rw[<-b];exact i)];exact⟨I,a,e⟩
 .rintro _ c ⟨rfl,a,e⟩;rw[B,B,dr,dr,cx]at i;rw[t,R (by rw[<-b,q];decide),K ⟨i.1.1,J,J⟩];exact⟨I,a,e⟩
 .rw[t,R (by rw[<-b,q];decide),R]
  .exact p
  rintro⟨a,f,l⟩;have e:((d.k==1&&((EZ s:Nat):Int)==0)&&YR ((kids.n:Int)>0))=aF:=by
   rw[B,B,dr,dr,cx];exact⟨⟨a,J⟩,J⟩
  rw[e]at i;cases i
 .rw[y]at k⊢;unfold Ey;rw[bK];revert k;generalize Av d.ini s=g;by_cases a:d.ini=[]<;>cases g<;>simp[a]<;>omega
 .rw[y]at k;unfold Ey;rw[bK];revert k z;generalize Av d.ini s=g;by_cases a:d.ini=[]<;>cases g<;>simp[a]<;>omega
 rw[y]at k⊢;unfold Ey;rw[bK];revert k z;generalize Av d.ini s=g;by_cases a:d.ini=[]<;>cases g<;>simp[a]<;>omega
end
def abT:∀{l:L Nd} {d:Nat} {y:Nd},iX d l=aF->y∈l->kc d y=aF
 | [],_,_,_,h=>Ux
 | x::l,d,y,h,a=>by
  rw[iX,B]at h;rcases bh.1 a with rfl | a
  .exact h.1
  exact abT h.2 a
section
variable {b:Nat} {F G:A} {vs sl:Sl} {vars:L Vr} {nc:aJ} {xs:L dC}
def acJ(h:∀k,G k->k≠b)(g:Fo xs)(i:qj vars<=8388608)(hm:qj xs<=64):∀(D:Nat) {f:Ft} {w:aw} {x:Nd} {c:aJ} {a d:Nat},Lk f w b F vs vars nc sl xs->nX aM D w G x c->mL x<=1048576->a+iQ x<=(qj xs)->kc d x=aF->
  aA aq 85 #[ae (aN ⟨b,0,Pw⟩),ah c.toArray,O U (a:Int)] w λe j=>e=ak (O U ((a+iQ x:Nat):Int))/\Lk (jQ f (N3 xs (vars.map λv=>v.n) a x)) j b F vs vars nc sl xs/\az [b] w j
 | 0,_,_,_,_,_,_,_,a,_,_,_=>a.elim
 | D+1,f,w,.mk m s,c,a,d,E,G,K,ha,P=>by
  have R:=G;obtain⟨en,lv,mv,kids,Q,_,N⟩:=G;dsimp only[Nd.kids,Nd.b]at Q N;subst Q;have hk:=N.1;have Ki:=hk.len;have T:=K;rw[mL]at T;have FV:=qu s;have hb:=E.lb;rw[iQ]at ha⊢;have q:=P;rw[kc,B]at q;refine ret (ani ?_);intro k0 w0 dS xH p;have z0:=p.size;refine(mtM h g i hm (E.only p) ((cG aM _).keep R λk _ W=>p.block k W X) (a:=a) J K P).mono ?_;rw[N3];generalize V:(vars.map λv=>v.n)=n at*
  generalize eL:wa xs m s a++(mw xs n (m.en++m.lv)++m.mv.flatMap (Dx xs n))=C;have L:∀M,wa xs m s a++(mw xs n (m.en++m.lv)++(m.mv.flatMap (Dx xs n)++M))=C++M:=λM=>by rw[<-eL,bq,bq]
  rw[L];rintro _ w1 ⟨rfl,Y,r⟩;have z1:=r.size;have o1:az [b] w w1:=ic (only1 p) r;refine⟨I,r.same S,λx am i2 A=>∃l:Nat,i2=(l:Int)/\x+l=qj s/\l<=qj s/\am=((a+1+dJ (s.take l):Nat):Int)/\Lk (jQ f (C++qo xs n (a+1) (s.take l))) A b F vs vars nc sl xs/\az [b] w A/\w0.heap.size<=A.heap.size,qj s,⟨0,I,J,bf _,by rw[cu,dJ,eS J J];rfl,by rw[cu,qo,bC];exact Y,o1,J⟩,?_⟩;rintro x _ _ w2 ⟨l,rfl,nQ,hj,rfl,t,z,z2⟩;refine⟨λo=>?_,λo=>?_⟩
  .have o:=u o;obtain⟨ad,y,ds,g1,f,g3,g4,g5,v⟩:=(Wg (cG aM D) Z hk z λk hk _ hm=>h k hk Ie).get (be l) J;rw[ba]at f;have F:=bp f;have aC:=qt F;have ru:=mH f;have FT:=v;obtain⟨b,rfl⟩:∃b,D=b+1:=by
    cases D with
    | zero=>exact v.elim
    | succ b=>exact⟨b,I⟩
   obtain⟨vT,vU,rG,ju,rfl,_⟩:=v;have CP:=acJ h g i hm (b+1) (a:=a+1+dJ (s.take l)) t FT J J (abT q.2 F);rw[V]at CP;refine⟨ad,g1,_,_,_,_,vT,vU,rG,ju,_,g5,CP.mono ?_⟩;rintro _ w3 ⟨rfl,h3,k⟩;have z3:=k.size;have e:dJ (s.take (l+1))=dJ (s.take l)+iQ y:=by
    rw[bn,f,Ap];show _+dJ [y]=_;rw[dJ,dJ];omega
   have e2:qo xs n (a+1) (s.take (l+1))=qo xs n (a+1) (s.take l)++N3 xs n (a+1+dJ (s.take l)) y:=by
    rw[bn,f,E1];show _++qo xs n _ [y]=_;rw[qo,qo,bC]
   refine⟨_,I,k.same S,x-1,J,l+1,Ye,J,J,by rw[e];congr 1;omega,?_,ic z k,J⟩;rw[e2,<-bq,gz];exact h3
  have o:=aU o;have e:l=qj s:=J
  subst e;rw[bm (H _)]at t⊢;exact⟨by congr 2;omega,t,z⟩
end
abbrev Zu:Rp Int:=λ_ _ (x:Int) c=>c=[Value.int U x]
def A7:Rp.Ok Zu:=⟨λh _=>h,λh=>h,λh _=>h,λh=>by
 subst h;intro v a;simp only[bh,bI,cO]at a;subst a;rfl⟩
abbrev Zv(B:Nat)(w:aw)(s:Sl)(i:L Int):Prop:=Own Zu 1 3 B w (λ_=>False) s i
def agn(t:M):∀(D:Nat) {w:aw} {G:A} {x:Nd} {b:aJ} {B:Nat} {s:Sl} {is:L Int},nX t D w G x b->(∀k,G k->k<B)->Zv B w s is->B<=w.heap.size->qj is+iQ x<=1000000->
  aA aq 83 #[ah b.toArray,s.v] w λe a=>∃d,e=ak (Sl.v d)/\Zv B a d (is++(Cy x).map λp=>p.2)/\Gr s w d a
 | 0,_,_,_,_,_,_,_,h,_,_,_,_=>h.elim
 | D+1,w,G,.mk i f,b,B,s,is,⟨en,lv,mv,kids,jh,_,N⟩,W,hS,aC,hn=>by
  have hk:=N.1;clear N;dsimp only[Nd.kids,Nd.b]at hk jh;subst jh;rw[iQ]at hn;rw[Cy];have B8:=hk.len;have aS:=qn f;refine gX (ang ?_);intro Q w0 N dS n;have z0:=n.size;have K:Zv B w0 s is:=hS.keep A7 λk _ bW=>n.block k bW X;obtain⟨y,w2,k1,k3,l,m,g1,g2,⟨gs,o,g4⟩,V⟩:=kx (P:=aq) (t:=31) (ty:=31) (e:=3) (i:=Tryz.t3) (bytes:=8) (size:=1) (r:=Zu) (G:=λ_=>False) (v:=O U i.a) (x:=i.a) E E I I I I Z Z Z A7 K J I I (λ_ h=>h.elim) J;have z2:=k3.size;have z3:=o.size;have rA:s.a≠aN ⟨Q,0,Pw⟩:=λe=>XZ
  have m3:Gr s w l m:=by
   refine⟨(n.bU k3).nP (o.p (F:=λk=>s.a=aN ⟨k,0,Pw⟩) λc p=>.inl (g4 c p).1),λk hk=>?_⟩;rcases V with e | ⟨c,e,h⟩
   .exact .inl KN
   rw[e]at hk;injection hk with hk;injection hk with hk;exact .inr J
  have n3:∀k,l.a=aN ⟨k,0,Pw⟩->k≠Q:=λk hk e=>by
   subst e;rcases V with e | ⟨c,e,h⟩
   .exact rA KN
   rw[e]at hk;injection hk with hk;injection hk with hk;omega
  have DT:Zv B m l (is++[i.a]):=by
   rcases g2 with⟨F,e⟩ | ⟨h,s,tail,k,p,q,r,t,v,B,y⟩
   .simp at e
   exact .inr ⟨h,s,tail,k,p,q,r,t,v,B,iL.ZH (λx c _ g=>g) y⟩
  have jG:∀{am:aw} {q:Sl},Gr s w q am->aB (nX t D) 9 am G kids f:=λhm=>U6 (cG t D) Z hk hm.1 λk z _ h=>by
   have:=W k z;have:=(hS.blk h).1;dsimp only at this;omega
  refine⟨y,w2,k1,k3.same S,l,m,g1,o.same λx hx=>⟨CQ,λh=>Hf⟩,λR q Y a=>∃j:Nat,Y=(j:Int)/\R+j=qj f/\j<=qj f/\Zv B a q (is++i.a::(yR (f.take j)).map λp=>p.2)/\Gr s w q a/\m.heap.size<=a.heap.size/\∀k,q.a=aN ⟨k,0,Pw⟩->k≠Q,qj f,⟨0,I,J,bf _,by rw[cu,yR];exact DT,m3,H _,n3⟩,?_⟩;rintro R q _ w5 ⟨j,rfl,nQ,mV,C,T,z5,n5⟩;refine⟨λg=>?_,λg=>?_⟩
  .have g:=u g;obtain⟨ad,y,P,r,p,B,F,s,q⟩:=(jG T).get (be j) J;rw[ba]at p;have v:=q;obtain⟨c,rfl⟩:∃c,D=c+1:=by
    cases D with
    | zero=>exact q.elim
    | succ c=>exact⟨c,I⟩
   obtain⟨vT,vU,rG,ju,rfl,_⟩:=v;have ru:=mH p;refine⟨ad,r,_,_,_,_,vT,vU,rG,ju,_,s,(agn t (c+1) q W C J (by rw[aP,aZ,bH,ahF];omega)).mono ?_⟩;rintro _ w7 ⟨q7,rfl,V9,m7⟩;have z7:=m7.1.size;refine⟨q7,I,m7.1.same λx hx=>?_,R-1,J,j+1,Ye,J,J,?_,T.trans m7,J,λk hk e=>?_⟩
   .simp only[aV]at hx;subst hx;exact⟨J,λh=>n5 _ h I⟩
   .have e:yR (f.take (j+1))=yR (f.take j)++Cy y:=by
     rw[bn,p,Jc];show _++yR [y]=_;rw[yR,yR,bC]
    rw[e,cA,<-cb,<-bq];exact V9
   subst e;rcases m7.2 _ hk with h | h
   .exact n5 _ h I
   omega
  have g:=aU g;have e:j=qj f:=J
  subst e;rw[bm (H _)]at C;exact⟨q,I,C,T⟩
def aeN f ok {e a} (h:e≠0):jQ (jQ f (bad ok e a)) [(e,a)]=jQ f [(e,a)]:=by
 cases ok
 .show jQ (jQ f [_]) [_]=_;refine EW ?_ _;rw[show jQ f [_]=if f.1=0 then _ else f from rfl];split
  .exact h
  assumption
 rfl
def aiI{xs}{s}{j:Nat}(h:s∈(xs.take j).map λx:dC=>x.nm):gj xs s<j:=by
 have e:xs.map (λx:dC=>x.nm)=(xs.take j).map (λx:dC=>x.nm)++(xs.drop j).map λx:dC=>x.nm:=by
  rw[<-cA,dM]
 have a:=pW.2 h;rw[bH,ci]at a;unfold gj;rw[e,Jd ((xs.drop j).map λx:dC=>x.nm) h,K J];omega
def oG(c:Ch):Ft:=if(jo c).2≠0 then((jo c).2, -1)else jQ (0,0) (Aw c)
def jg.sl'{B}{w}{s}{xs}(h:jg B w s xs):aB oV 5 w (λk=>B<=k) s xs:=(h.slice dj).mono dj λk hk=>hk.elim (λh=>h.elim) λh=>h.1
def aaD{w:aw}{F:A}{i:Nat}{c:Ch}{f:Sl}{P:aJ}(h:ChR aM (i+1) w F c f P)(hn:HX c)(j:oq c.vars+mL c.root<=1048576):
  aA aq 36 #[ah (f.v::P).toArray] w λe w'=>e=ak (ah #[O U (oG c).1,O U (oG c).2])/\az [] w w':=by
 obtain⟨n,l,mv,kids,jh,_⟩:=h.root;subst jh;refine ret (amZ ?_);intro m o w0 fN dS lm jP M;have z0:=M.size;have keep:∀{b:aw},az [] w b->ChR aM (i+1) b F c f (qD c.root.b.k c.root.b.nm c.root.b.ini c.root.b.dft n l mv kids c.root.b.a):=λg=>⟨h.vars.keep ft Z λk _ W=>g.block k W X,(cG aM _).keep h.root λk _ W=>g.block k W X⟩
 refine(adU (keep M) hn j).mono ?_;rintro _ r ⟨⟨sl,rfl,V,_⟩,N⟩;have z1:=N.size;have Q:=M.bU N;refine⟨sl,_,I,N.same S,λhc w2 Y=>⟨?_,?_⟩,λhc d t rF sR E=>?_⟩
 .have hc:(jo c).2≠0:=Yc
  unfold oG;rw[K hc]
 .exact(Q.nP (Y.p (F:=λk=>w.heap.size<=k) λx h=>by simp only[aV]at h;exact .inl J)).only λk hk=>hk
 have hc:(jo c).2=0:=Yc
 have Cg:=V hc;have f7:=BT hc;have jM:=BS hc;unfold pz at jM;simp at jM;have el:oG c=jQ (0,0) (Aw c):=by unfold oG;rw[R (λaC=>aC hc)]
 rw[el];have z3:=E.size;have o3:=Q.bU E;have cc:=
  (cG aM _).keep ((cG aM _).mono ((cG aM _).inHeap h.root) λk hk=>hk.2) λk _ W=>o3.block k W X
 refine(agn aM (i+1) (B:=t.heap.size) (s:=Sl.nil) (is:=[]) cc (λk hk=>J) (Yb _ _ _ _ _ _) (H _) PF).mono ?_;rintro _ w4 ⟨l1,rfl,hA,f5⟩;rw[cd]at hA;have dQ:az [] t w4:=f5.1.only λk hk=>IL
 have z4:=dQ.size;have o4:=o3.bU dQ;have Bg:=Dw c;have VW:qj (eI c)=iQ c.root:=by unfold eI;rw[nB]
 have GK:=adi c.root;have bY:(eI c).map (λs:dC=>s.nm)=(Cy c.root).map λp=>p.1:=Mf 0 (-1) 0 c.root;have f8:=h.vars.1.len;have B4:=AJ c.vars;let VP:L (C×Int):=c.vars.map λv=>(v.n,v.a)
 have dO:Aw c=wj [] (Cy c.root)++(wj [] VP++N3 (eI c) _ 0 c.root):=I;rw[dO];generalize gE:eI c=xs at*
 have ce:aB Ry 3 w4 (λk=>k<r.heap.size) f c.vars:=UK ft (Ic ft (WV ft h.vars.1 Z) Z λk hk W=>o4.block k W X) λk hk=>LH
 have F8:aB oV 5 w4 _ sl xs:=UK dj (Ic dj (WV dj Cg.sl' Z) Z λk hk W=>(E.bU dQ).block k W X) λk hk=>hk.2;have Vb:=F8.len;let NC:aJ:=qD c.root.b.k c.root.b.nm c.root.b.ini c.root.b.dft n l mv kids c.root.b.a
 have bV:∀{b:aw} {f1 f2:Int},az [d] w4 b->aG b d 143 (f.v::(NC++[sl.v,O U f1,O U f2]))->Lk (f1,f2) b d (λk=>k<r.heap.size) f c.vars NC sl xs:=fun{b f1 f2} g hB=>
  ⟨hB,I,Wg ft Z ce g λk hk _ hm=>US,Wg dj Z F8 g λk hk _ hm=>US,λk hk=>J⟩
 let SC:Sl->Int->D->D->D->Sl->Sl->Sl->Sl->Int->Sl->Prop:=λl2 i2 s0 s1 s2 l3 l4 l5 l6 i3 l7=>f=l2/\c.root.b.k=i2/\T c.root.b.nm=s0/\T c.root.b.ini=s1/\T c.root.b.dft=s2/\n=l3/\l=l4/\mv=l5/\kids=l6/\c.root.b.a=i3/\sl=l7
 have aS:SC f c.root.b.k (T c.root.b.nm) (T c.root.b.ini) (T c.root.b.dft) n l mv kids c.root.b.a sl:=⟨I,I,I,I,I,I,I,I,I,I,I⟩
 have co:∀{b u':aw},az [d] w4 b->az [d] b u'->az [d] w4 u':=λaC k=>ic aC k;have eQ:∀{b:aw},az [d] w4 b->az [] w b:=λaC=>(o4.nP (aC.p (F:=λk=>w.heap.size<=k) λx h=>by simp at h;exact .inl J)).only λk hk=>hk;have sm:∀{b u':aw},az [d] w4 b->m≠d->o≠d->az [d] b u'->cj [m,o] b u':=fun{b u'} hu h1 h2 g=>g.same (by have:=hu.size;simp;omega);refine⟨l1,I,dQ.same S,λkv bv l2 i2 s0 s1 s2 l3 l4 l5 l6 i3 l7 f1 f2 b=>∃am:Nat,bv=(am:Int)/\kv+am=qj xs/\am<=qj xs/\SC l2 i2 s0 s1 s2 l3 l4 l5 l6 i3 l7/\(f1,f2)=jQ (0,0) (wj [] ((Cy c.root).take am))/\az [d] w4 b,qj xs,⟨0,I,J,bf _,aS,I,Ib _ _⟩,?_⟩;have fd:aB Zu 1 w4 (λk=>t.heap.size<=k) l1 ((Cy c.root).map λp=>p.2):=(hA.slice A7).mono A7 λk hk=>hk.elim (λaC=>aC.elim) λaC=>aC.1;have f6:d<w4.heap.size:=J
 have kA:∀{b:aw},az [d] w4 b->aB Zu 1 b (λk=>t.heap.size<=k) l1 ((Cy c.root).map λp=>p.2):=λaC=>Wg A7 Z fd aC λk hk _ hm=>US
 have kS:∀{b:aw},az [d] w4 b->aB oV 5 b (λk=>k<r.heap.size) sl xs:=λaC=>Wg dj Z F8 aC λk hk _ hm=>by simp at hm;omega
 have kV:∀{b:aw},az [d] w4 b->aB Ry 3 b (λk=>k<r.heap.size) f c.vars:=λaC=>Wg ft Z ce aC λk hk _ hm=>US
 have cC:∀{b:aw} (e a f1 f2:Int),az [d] w4 b->m≠d->o≠d->aG b d 143 (f.v::(NC++[sl.v,O U f1,O U f2]))->
   aA aq 84 #[ae _,O U e,O U a] b λq u'=>q=ak (ai #[])/\cj [m,o] b u'/\∃c k:Int,aG u' d 143 (f.v::(NC++[sl.v,O U c,O U k]))/\(c,k)=jQ (f1,f2) [(e,a)]/\az [d] w4 u':=fun{b} e a f1 f2 hu h1 h2 hB=>(uJ (bV hu hB) e a).mono (by
  rintro _ u' ⟨rfl,p,g⟩;exact⟨I,sm hu h1 h2 g,_,_,p.blk,I,co hu g⟩)
 rintro kv _ _ _ _ _ _ _ _ _ _ _ _ i4 i5 w5 ⟨am,rfl,nQ,hj,⟨rfl,rfl,rfl,rfl,rfl,rfl,rfl,rfl,rfl,rfl,rfl⟩,aT,h5⟩;refine⟨λhc=>?_,λhc=>?_⟩
 .have hc:=u hc;obtain⟨y,v⟩:=fE (xs:=xs) (i:=am) J;obtain⟨ad,B,F,_⟩:=iP (kS h5) v;obtain⟨p,k⟩:∃p,(Cy c.root)[am]? =aN p:=⟨_,aX (show am<(qj (Cy c.root)) by omega)⟩
  have q:p.1=y.nm:=by
   have h1:(xs.map λs:dC=>s.nm)[am]? =aN y.nm:=by rw[cw,v];rfl
   rw[bY,cw,k]at h1;exact DX h1
  have x:wj [] ((Cy c.root).take (am+1))=wj [] ((Cy c.root).take am)++bad (!YR (y.nm∈(xs.take am).map λs:dC=>s.nm)) 24 p.2:=by
   rw[bn,k,Au,cd,mg,<-bY,<-mg];simp only[Option.toList,wj,bC,q]
  have a:YR (y.nm∈(xs.take am).map λs:dC=>s.nm)=(gj xs y.nm !=(am:Int)):=by
   by_cases c:y.nm∈(xs.take am).map λs:dC=>s.nm
   .have:=aiI c;rw[bG c];simp;omega
   rw[bD c,zn v (λz p e=>c (eo.2 ⟨z,p,e⟩)) rfl];simp
  refine⟨λl2 i2 s0 s1 s2 l3 l4 l5 l6 i3 l7 f1 f2 b=>SC l2 i2 s0 s1 s2 l3 l4 l5 l6 i3 l7/\(f1,f2)=jQ (0,0) (wj [] ((Cy c.root).take (am+1)))/\az [d] w4 b,?_,ad,B,_,F.dP 1 _ I,(vO (kS h5) _).mono ?_⟩
  .rintro _ _ _ _ _ _ _ _ _ _ _ _ _ b ⟨j,c,hu⟩;exact⟨kv-1,J,am+1,Ye,J,J,j,c,hu⟩
  rintro _ b ⟨rfl,hu⟩;obtain rfl:w5=b:=hu.symm;refine⟨_,I,TT _ _,λc=>?_,λc=>⟨aS,?_,h5⟩⟩
  .obtain⟨p1,z,s,q1,e,q3,q4,q5,O⟩:=(kA h5).get (i:=(am:Int)) (be am) (by have:=(kA h5).len;rw[bH]at this;omega);have O:s=[Value.int U z]:=O;subst O;rw[ba,cw,k]at e;have e:p.2=z:=DX e;refine⟨p1,q1,_,q5,λhB h1 h2=>(cC 24 z _ _ h5 h1 h2 hB).mono ?_⟩;rintro _ b ⟨rfl,hS,T,g2,G,hg,hu⟩;refine⟨I,hS,f,_,_,_,_,n,l,mv,kids,_,sl,T,g2,G,aS,?_,hu⟩;rw[hg,aT,x,gz,a,show(gj xs y.nm !=(am:Int))=aF from c,e];rfl
  rw[aT,x,gz,a,show(gj xs y.nm !=(am:Int))=aM from c];rfl
 have hc:=aU hc;have me:am=qj xs:=J
 subst me;rw[bm J]at aT;have gG:qj VP=qj c.vars:=bH _;refine⟨λkv bv l2 i2 s0 s1 s2 l3 l4 l5 l6 i3 l7 f1 f2 b=>∃am:Nat,bv=(am:Int)/\kv+am=qj c.vars/\am<=qj c.vars/\SC l2 i2 s0 s1 s2 l3 l4 l5 l6 i3 l7/\(f1,f2)=jQ (0,0) (wj [] (Cy c.root)++wj [] (VP.take am))/\az [d] w4 b,qj c.vars,⟨0,I,J,bf _,aS,by rw[cu,wj,bC];exact aT,h5⟩,?_⟩;rintro tS _ _ _ _ _ _ _ _ _ _ _ _ i6 i7 w9 ⟨e,rfl,Cj,hm,⟨rfl,rfl,rfl,rfl,rfl,rfl,rfl,rfl,rfl,rfl,rfl⟩,s,B⟩;refine⟨λiG=>?_,λiG hB h1 h2=>?_⟩
 .have iG:=u iG;obtain⟨v,G⟩:∃v,c.vars[e]? =aN v:=⟨_,aX (show e<(qj c.vars) by omega)⟩
  have mR:wj [] (VP.take (e+1))=wj [] (VP.take e)++bad (!YR (v.n∈(c.vars.take e).map λv=>v.n)) 24 v.a:=by
   have q:VP[e]? =aN (v.n,v.a):=by show(c.vars.map λv=>(v.n,v.a))[e]? =_;rw[cw,G];rfl
   have y:(VP.take e).map (λp=>p.1)=(c.vars.take e).map λv=>v.n:=by
    show((c.vars.map λv=>(v.n,v.a)).take e).map _=_;rw[<-mg,iv];rfl
   rw[bn,q,Au,cd,y];simp only[Option.toList,wj,bC]
  refine⟨λkv bv l2 i2 s0 s1 s2 l3 l4 l5 l6 i3 l7 f1 f2 b=>∃am:Nat,bv=(am:Int)/\kv+am=e/\am<=e/\SC l2 i2 s0 s1 s2 l3 l4 l5 l6 i3 l7/\(f1,f2)=jQ (i6,i7) (bad (!YR (v.n∈(c.vars.take am).map λv=>v.n)) 24 v.a)/\az [d] w4 b,e,⟨0,I,J,bf _,aS,I,B⟩,?_⟩;rintro gO _ _ _ _ _ _ _ _ _ _ _ _ i8 i9 dq ⟨q,rfl,gT,a,⟨rfl,rfl,rfl,rfl,rfl,rfl,rfl,rfl,rfl,rfl,rfl⟩,k,F⟩;refine⟨λx=>?_,λx=>⟨tS-1,J,e+1,Ye,J,J,aS,?_,F⟩⟩
  .have x:=u x;obtain⟨v2,g8⟩:∃v,c.vars[q]? =aN v:=⟨_,aX (show q<(qj c.vars) by omega)⟩
   have p:∀{b:aw} {q:Nat} {v:Vr},az [d] w4 b->c.vars[q]? =aN v->∃(ad:Addr),cK f (q:Int) 3 ad/\aD b (ad.add 0) [ab (T v.n)]/\aD b (ad.add 2) [O U v.a]:=fun{b q v} hu a=>by
    have g9:=(bc.1 a).1;obtain⟨ad,y,ds,g1,c,g3,g4,g5,z⟩:=(kV hu).get (i:=(q:Int)) (be q) J;rw[ba,a]at c;injection c with c;subst c;have z:ds=[ab (T v.n),O U v.v,O U v.a]:=z;subst z;exact⟨ad,g1,g5.dP 0 _ I,g5.dP 2 _ I⟩
   obtain⟨p2,e1,e2,_⟩:=p F g8;obtain⟨p3,e3,e4,_⟩:=p F G;have oQ:∀z:C,z∈(c.vars.take (q+1)).map (λv=>v.n)↔z∈(c.vars.take q).map (λv=>v.n)∨v2.n=z:=λz=>by
    rw[bn,g8,cA,bQ];simp[eq_comm]
   refine⟨λl2 i2 s0 s1 s2 l3 l4 l5 l6 i3 l7 f1 f2 b=>SC l2 i2 s0 s1 s2 l3 l4 l5 l6 i3 l7/\(f1,f2)=jQ (i6,i7) (bad (!YR (v.n∈(c.vars.take (q+1)).map λv=>v.n)) 24 v.a)/\az [d] w4 b,?_,p2,e1,_,e2,p3,e3,_,e4,λa=>⟨p3,e3,λey eV=>?_⟩,λa fV eZ=>⟨aS,?_,F.bU eZ⟩⟩
   .rintro _ _ _ _ _ _ _ _ _ _ _ _ _ b ⟨j,c,hu⟩;exact⟨gO-1,J,q+1,Ye,J,J,j,c,hu⟩
   .have q:=F.bU eV;obtain⟨p4,y,_,z⟩:=p q G;obtain rfl:=Zk e3 y;refine⟨_,z,λhB h1 h2=>(cC 24 v.a _ _ q h1 h2 hB).mono ?_⟩;rintro _ b ⟨rfl,U,O,T,c,hg,hu⟩;refine⟨I,U,f,_,_,_,_,n,l,mv,kids,_,sl,O,T,c,aS,?_,hu⟩;rw[ji]at a;have a:=u a;rw[hg,k,aeN _ _ Z,bG ((oQ _).2 (.inr a))];rfl
   rw[ji]at a;have a:=aU a;rw[k];congr 3;exact mN.2 ⟨λaC=>(oQ _).2 (.inl aC),λaC=>((oQ _).1 aC).resolve_right a⟩
  have x:=aU x;have:q=e:=J
  subst this;rw[k,s,mR,<-gz,bq]
 have iG:=aU iG;have:e=qj c.vars:=J
 subst this;rw[bm J]at s;have v:nX aM (i+1) w9 _ c.root NC:=(cG aM _).keep cc λk hk W=>(B.block k J S).trans (dQ.block k W X);refine(acJ (G:=λk=>k<w.heap.size) (λk hk=>J) Bg J J (i+1) (bV B hB) v J (a:=0) J jM.1.2).mono ?_;rintro _ T ⟨rfl,p,q⟩;rw[s,<-gz,bq]at p;exact⟨_,I,sm B h1 h2 q,f,_,_,_,_,n,l,mv,kids,_,sl,_,_,p.blk,λz y _=>⟨I,by
  have:=((eQ (co B q)).nP (y.p (F:=λk=>w.heap.size<=k) λx h=>by simp at h;exact .inl J))
  exact this.only λk hk=>hk⟩⟩
section
def acG:∀l m:L Nd,zK (l++m)=zK l++zK m
 | [],m=>by rw[cd,zK,cd]
 | x::l,m=>by rw[cb,zK,zK,acG l m,bq]
def F6(x:L dC):Nat->L Nd->L Ro
 | _,[]=>[]
 | a,y::l=>He x a 0 y.b.mv++F6 x (a+1) l
def A8(x:L dC):∀(l m:L Nd) (a:Nat),F6 x a (l++m)=F6 x a l++F6 x (a+qj l) m
 | [],m,a=>by rw[cd,F6,cd];rfl
 | y::l,m,a=>by rw[cb,F6,F6,A8 x l m,bq,aZ];congr 3;omega
mutual
def Zx(s:L dC):∀(x:Nd) (a:Nat),F6 s a (BH x)=Mi s a x
 | .mk b l,a=>by rw[BH,F6,Mi,ago s l];rfl
def ago(s:L dC):∀(l:L Nd) (a:Nat),F6 s a (zK l)=qp s a l
 | [],a=>by rw[zK,qp];rfl
 | x::l,a=>by rw[zK,qp,A8,Zx s x,ago s l,AP]
end
section
variable {xs:L dC} (F:Fo xs)
include F
theorem Nz{l:L Int}(a:l≠[]){q:Nat}(b:∀n,n∈l->∃k:Nat,n=k/\nL xs q k)(h:q=0∨ke xs q=1/\(q:Int)∉l):∀(f d:Nat),d<(qj xs)->(∀n,n∈l->∃k:Nat,n=k/\nL xs d k)->q<=d->(q:Int)<=Gs xs l f d
 | 0,d,c,hd,q=>by
  unfold Gs;omega
 | f+1,d,c,hd,g=>by
  unfold Gs;by_cases x:0<(d:Int)/\(ke xs d≠1∨(d:Int)∈l)
  .rw[K x];obtain⟨t,j⟩:=fE c;obtain⟨p,s,w,m,i,_,o,r⟩:=F.par j J;rw[jZ j,m];have z:q≠d:=by
    rintro rfl;rcases h with y | ⟨u,v⟩
    .omega
    exact x.2.elim (λc=>c u) v
   refine Nz a b h f p (gp i) (λn d=>?_) (jy λt=>?_)
   .obtain⟨k,e,hk⟩:=hd n d;exact⟨k,e,F.pH ⟨s,i,J,o⟩ hk⟩
   obtain⟨n,d⟩:=qf l a;obtain⟨k,A,s,f,B,C⟩:=b n d;obtain⟨F,e,G,p,D,E⟩:=hd n d;have:=r q s f J J;omega
  rw[R x];omega
def U7(x:L dC)(a:Int)(g:L Int)(d:Nat):M:=(YR (ke x d=1)&&(wD x a d||(d:Int)==0))&&g.all λt=>wD x t d
def JP(x:L dC)(a:Int)(t:L Int):Nat->Int
 | 0=> -1
 | m+1=>if U7 x a t m=aF then m else JP x a t m
omit F in
theorem FJ (a:Int) (tg:List Int):∀n:Nat,(JP xs a tg n= -1/\∀m,m<n->U7 xs a tg m=aM)∨∃m:Nat,JP xs a tg n=m/\m<n/\U7 xs a tg m=aF/\∀j,m<j->j<n->U7 xs a tg j=aM
 | 0=>.inl ⟨rfl,λm h=>J⟩
 | n+1=>by
  unfold JP;by_cases h:U7 xs a tg n=aF
  .rw[K h];exact .inr ⟨n,rfl,J,h,λj h1 h2=>J⟩
  rw[R h];have h:U7 xs a tg n=aM:=U3
  rcases FJ a tg n with⟨h1,h2⟩ | ⟨m,h1,h2,h3,h4⟩
  .exact .inl ⟨h1,λm hm=>(qN.1 hm).elim (h2 m) λe=>EC⟩
  exact .inr ⟨m,h1,J,h3,λj h5 h6=>(qN.1 h6).elim (h4 j h5) λe=>EC⟩
section
variable {a:Nat} {tg:L Int} (ha:a<xs.length) (h0:ke xs 0=1) (ht:∀t,t∈tg->1<=t/\t<xs.length)
include ha ht
theorem JQ{d:Nat}(h:U7 xs a tg d=aF)(hd:d<qj xs):(∀n,n∈(a:Int)::tg->∃k:Nat,n=k/\nL xs d k)/\(d=0∨ke xs d=1/\(d:Int)∉(a:Int)::tg):=by
 unfold U7 at h;simp only[B,bF,cy,dr,du]at h;obtain⟨⟨j,b⟩,g⟩:=h;obtain⟨x,i⟩:=fE hd;have c:∀n:Int,wD xs n d=aF->∃k:Nat,n=k/\d<k/\nL xs d k:=λn h=>by
  rw[SU i,cx]at h;exact⟨n.toNat,J,J,x,i,J,J⟩
 by_cases f:d=0
 .subst f;refine⟨λn d=>?_,.inl I⟩;rcases bh.1 d with rfl | d
  .exact⟨a,I,F.uM ha⟩
  obtain⟨k,e,_,hk⟩:=c n (g n d);exact⟨k,e,hk⟩
 have b:=b.resolve_right J;have m:∀n,n∈(a:Int)::tg->∃k:Nat,n=k/\d<k/\nL xs d k:=λn l=>by
  rcases bh.1 l with rfl | l
  .exact c _ b
  exact c _ (g n l)
 refine⟨λn l=>?_,.inr ⟨j,λl=>?_⟩⟩
 .obtain⟨k,e,_,hk⟩:=m n l;exact⟨k,e,hk⟩
 obtain⟨k,e,hk,_⟩:=m _ l;omega
include h0
theorem ae9(i:tg≠[]):JP xs a tg (qj xs)=BA xs a tg:=by
 obtain⟨r,f,d,l,hk⟩:=Sv F ha (λt b=>⟨by have:=ht t b;omega,(ht t b).2⟩) i;have j:U7 xs a tg r=aF:=by
  obtain⟨x,s⟩:=fE d;have q:ke xs r=1:=by
   rcases hk with rfl | hk
   .exact h0
   exact hk.1
  have w:∀n,n∈(a:Int)::tg->n≠r->wD xs n r=aF:=λn p i=>by
   obtain⟨k,e,y,a,t,u⟩:=l n p;rw[s,bP]at a;subst a;rw[SU s,cx];omega
  unfold U7;simp only[B,bF,cy,dr,du];refine⟨⟨q,?_⟩,λt h=>w t (.tail _ h) ?_⟩
  .rcases hk with rfl | ⟨_,p⟩
   .exact .inr I
   exact .inl (w _ (.head _) λe=>p (by rw[<-e];exact .head _))
  rcases hk with rfl | ⟨_,p⟩
  .have:=ht t h;omega
  exact λe=>p (by rw[<-e];exact .tail _ h)
 rcases FJ (xs:=xs) (a:Int) tg (qj xs) with⟨_,g⟩ | ⟨m,e,h,o,c⟩
 .rw[g r d]at j;cases j
 have u:r<=m:=jy λb=>by
  rw[c r b d]at j;cases j
 obtain⟨k,p⟩:=JQ F ha ht o h;have y:(m:Int)<=BA xs a tg:=by
  unfold BA Zs;rw[R i,R]
  .rcases xi xs ((a:Int)::tg) (qj xs) with⟨_,g⟩ | ⟨q,e,n,k3,s⟩
   .have:=g m h;rw[tB.2 k]at this;cases this
   rw[e];refine Nz F X k p _ q n (tB.1 k3) (jy λb=>?_);have:=s m b h;rw[tB.2 k]at this;cases this
  rintro(e | e)
  .cases e
  obtain⟨n,a,q⟩:=gr.1 e;rw[da,eF]at q;refine q (Ay.2 ?_);rcases bh.1 a with rfl | a
  .exact⟨J,J⟩
  have:=ht n a;exact⟨J,this.2⟩
 rw[e,f];omega
end
end
end
section
variable {w w':aw} {F G:A} {sl sT:Sl} {xs:L dC} {tg:L Int}
def ai2(h:aB oV 5 w F sl xs)(b:Fo xs)(o:qj xs<=64)(j:ke xs 0=1){a:Nat}(c:a<qj xs)(T:aB rInt 1 w G sT tg)(f:∀t,t∈tg->1<=t/\t<qj xs):
  aA aq 40 #[sl.v,O U (a:Int),sT.v] w λe w'=>e=ak (O U (BA xs a tg))/\az [] w w':=by
 refine ret (am3 ?_);have m:=h.len;have g:=T.len;have E:=T.big;have l:=T.cap;by_cases i:tg=[]
 .subst i;refine⟨λ_ a _ k=>a= -1/\az [] w k,0,⟨I,Ib _ _⟩,?_⟩;rintro v _ d k ⟨rfl,n⟩;refine⟨λe=>?_,λ_=>⟨I,n⟩⟩;rw[B]at e;have:=u e.2;rw[bE]at g;omega
 have D:0<qj tg:=mD.2 i;have L:∀{p:aw},az [] w p->aB oV 5 p F sl xs:=λq=>Wg dj Z h q X;have H:∀{p:aw},az [] w p->aB rInt 1 p G sT tg:=λq=>Wg bO Z T q X;refine⟨λA v s p=>∃d:Nat,s=(d:Int)/\A+d=qj xs/\d<=qj xs/\az [] w p/\v=JP xs a tg d,qj xs,⟨0,I,J,bf _,Ib _ _,I⟩,?_⟩;rintro A _ _ C ⟨d,rfl,Q,M,q,rfl⟩;refine⟨λr=>?_,λr=>?_⟩
 .rw[B]at r;have nD:=u r.1;obtain⟨x,N⟩:=fE (xs:=xs) (i:=d) J;obtain⟨ad,P,W,_,Y,_⟩:=iP (L q) N;refine⟨λV p=>V=JP xs a tg (d+1)/\az [] w p,λV p ⟨h1,h2⟩=>⟨A-1,J,d+1,Ye,J,J,h2,h1⟩,(BU (L q) a d).mono ?_⟩;rintro _ p ⟨rfl,F⟩;obtain rfl:C=p:=F.symm;refine⟨_,I,ad,P,x.k,W.dP 0 _ I,λS ok s p=>∃t:Nat,s=(t:Int)/\S+t=qj tg/\t<=qj tg/\ok=(((x.k==1)&&(wD xs a d||(d:Int)==0))&&(tg.take t).all λn=>wD xs n d)/\C=p,qj tg,⟨0,I,J,bf _,X,I⟩,?_⟩;rintro S _ _ _ ⟨t,rfl,Cj,yU,rfl,rfl⟩;refine⟨λG=>?_,λG=>?_⟩
  .have G:=u G;obtain⟨y,e⟩:∃y,tg[t]? =aN y:=⟨_,aX (show t<(qj tg) by omega)⟩
   obtain⟨a,k,n⟩:=JG (H q) e;refine⟨a,k,y,n,(BU (L q) y d).mono ?_⟩;rintro _ p ⟨rfl,F⟩;obtain rfl:C=p:=F.symm;refine⟨_,I,S-1,J,t+1,Ye,J,J,?_,I⟩;rw[bn,e,iw];simp[sZ]
  have G:=aU G;have y:(((x.k==1)&&(wD xs a d||(d:Int)==0))&&(tg.take t).all λn=>wD xs n d)=U7 xs a tg d:=by
   rw[bm J];unfold U7;rw[fJ N];rfl
  rw[y];have w:JP xs a tg (d+1)=if U7 xs a tg d=aF then(d:Int)else JP xs a tg d:=I
  rcases FJ (xs:=xs) a tg d with⟨e,_⟩ | ⟨am,e,hj,VT,_⟩
  .rw[e]at w⊢;refine⟨ad,λ_ h=>absurd h Z,0,λ_ h=>absurd h Z,ad,λ_ h=>absurd h Z,0,λ_ h=>absurd h Z,λhq n a=>⟨?_,q.bU a⟩,λhq t k=>⟨?_,q.bU k⟩⟩
   .rw[w,K JH]
   rw[w,R JH]
  obtain⟨z,t⟩:=fE (xs:=xs) (i:=am) J;obtain⟨yI,b1,_,_,b4,_⟩:=iP (L q) t;rw[e]at w⊢;refine⟨ad,λ_ _=>P,_,λ_ _=>Y,yI,λ_ _=>b1,_,λ_ _=>b4,λhq w4 h4=>⟨?_,q.bU h4⟩,λhq w5 h5=>⟨?_,q.bU h5⟩⟩
  .rw[w,K];rw[B]at hq;exact hq.1
  rw[w,R];intro e;obtain⟨k,ek,s1,C1,g1,g2⟩:=(JQ b c f VT J).1 a (.head _);obtain⟨k',aC,s2,Oc,g3,g4⟩:=(JQ b c f e J).1 a (.head _);rw[t,bP]at C1;subst C1;have:=b.deep (n:=a) d hj t N J J;rw[e,bG (show x.dp>z.dp from this)]at hq;simp at hq
 have:d=qj xs:=by
  rw[ii]at r;rcases r with r | r
  .have:=aU r;omega
  have:=aU r;omega
 rw[this,ae9 b c j f i];exact⟨I,q⟩
end
def rNX:Rp Nd:=λw F x c=>∃d,nX aM d w F x c
def xx:rNX.Ok where
 keep:=λ⟨d,h⟩ hk=>⟨d,(cG aM d).keep h hk⟩
 inHeap:=λ⟨d,h⟩=>⟨d,(cG aM d).inHeap h⟩
 mono:=λ⟨d,h⟩ hk=>⟨d,(cG aM d).mono h hk⟩
 one:=λ⟨d,h⟩=>(cG aM d).one h
abbrev Zz(B:Nat)(w:aw)(F:A)(s:Sl)(l:L Nd):Prop:=Own rNX 9 27 B w (λk=>F k∨B<=k) s l
def abZ:∀(D:Nat) {w:aw} {F:A} {x:Nd} {c:aJ} {B:Nat} {s:Sl} {ns:L Nd},nX aM D w F x c->(∀k,F k->k<B)->Zz B w F s ns->B<=w.heap.size->qj ns+iQ x<=100000->
  aA aq 38 #[s.v,ah c.toArray] w λe a=>∃b,e=ak (Sl.v b)/\Zz B a F b (ns++BH x)/\Gr s w b a
 | 0,_,_,_,_,_,_,_,h,_,_,_,_=>h.elim
 | D+1,w,F,.mk f d,c,B,s,ns,hx,p,hS,aC,hn=>by
  have M:=hx;obtain⟨en,lv,mv,kids,jh,_,N⟩:=hx;have hk:=N.1;clear N;dsimp only[Nd.kids,Nd.b]at hk jh;subst jh;rw[iQ]at hn;rw[BH];have B8:=hk.len;have aS:=qn d;refine gX (am1 ?_);intro Q w0 N dS n;have z0:=n.size;have K:Zz B w0 F s ns:=hS.keep xx λk _ W=>n.block k W X;obtain⟨y,w2,k1,k3,l,m,g1,g2,⟨gs,o,g4⟩,V⟩:=kx (P:=aq) (t:=25) (ty:=25) (e:=27) (i:=Tryz.t27) (bytes:=160) (size:=9) (r:=rNX) (G:=F) (v:=ah (qD f.k f.nm f.ini f.dft en lv mv kids f.a).toArray) (x:=.mk f d) E E I I I I Z Z Z xx K J I ⟨D+1,(cG aM _).mono ((cG aM _).keep ((cG aM _).inHeap M) λk _ W=>n.block k W X) λk hk=>hk.1⟩ (λq i _=>⟨.inl i,λe=>by have h1:=p q i;have:=(hS.blk e).1;dsimp only at this;omega⟩) J;have z2:=k3.size;have z3:=o.size;have rA:s.a≠aN ⟨Q,0,Pw⟩:=λe=>XZ
  have m3:Gr s w l m:=by
   refine⟨(n.bU k3).nP (o.p (F:=λk=>s.a=aN ⟨k,0,Pw⟩) λq r=>.inl (g4 q r).1),λk hk=>?_⟩;rcases V with e | ⟨q,e,h⟩
   .exact .inl KN
   rw[e]at hk;injection hk with hk;injection hk with hk;exact .inr J
  have n3:∀k,l.a=aN ⟨k,0,Pw⟩->k≠Q:=λk hk e=>by
   subst e;rcases V with e | ⟨k,e,h⟩
   .exact rA KN
   rw[e]at hk;injection hk with hk;injection hk with hk;omega
  have DT:Zz B m F l (ns++[.mk f d]):=g2.mono xx λq i=>i.elim id λh=>.inr J;have jG:∀{am:aw} {q:Sl},Gr s w q am->aB (nX aM D) 9 am F kids d:=λhm=>U6 (cG aM D) Z hk hm.1 λk z _ h=>by
   have:=p k z;have:=(hS.blk h).1;dsimp only at this;omega
  refine⟨y,w2,k1,k3.same S,l,m,g1,o.same λx hx=>⟨CQ,λh=>Hf⟩,λR q Y a=>∃j:Nat,Y=(j:Int)/\R+j=qj d/\j<=qj d/\Zz B a F q (ns++.mk f d::zK (d.take j))/\Gr s w q a/\m.heap.size<=a.heap.size/\∀k,q.a=aN ⟨k,0,Pw⟩->k≠Q,qj d,⟨0,I,J,bf _,by rw[cu,zK];exact DT,m3,H _,n3⟩,?_⟩;rintro R q _ w5 ⟨j,rfl,nQ,mV,C,T,z5,n5⟩;refine⟨λg=>?_,λg=>?_⟩
  .have g:=u g;obtain⟨ad,y,ds,t,r,G,P,B,s⟩:=(jG T).get (be j) J;rw[ba]at r;have v:=s;obtain⟨q,rfl⟩:∃q,D=q+1:=by
    cases D with
    | zero=>exact s.elim
    | succ q=>exact⟨q,I⟩
   obtain⟨vT,vU,rG,ju,rfl,_⟩:=v;have ru:=mH r;refine⟨ad,t,_,_,_,_,vT,vU,rG,ju,_,B,(abZ (q+1) s p C J (by rw[aP,aZ,Jp];omega)).mono ?_⟩;rintro _ w7 ⟨q7,rfl,V9,m7⟩;have z7:=m7.1.size;refine⟨q7,I,m7.1.same λx hx=>?_,R-1,J,j+1,Ye,J,J,?_,T.trans m7,J,λk hk e=>?_⟩
   .simp only[aV]at hx;subst hx;exact⟨J,λh=>n5 _ h I⟩
   .have e:zK (d.take (j+1))=zK (d.take j)++BH y:=by
     rw[bn,r,acG];show _++zK [y]=_;rw[zK,zK,bC]
    rw[e,<-cb,<-bq];exact V9
   subst e;rcases m7.2 _ hk with h | h
   .exact n5 _ h I
   omega
  have g:=aU g;have e:j=qj d:=J
  subst e;rw[bm (H _)]at C;exact⟨q,I,C,T⟩
end Go.Proofs.YtdfibecibkijiaaGreatDoor.Con
