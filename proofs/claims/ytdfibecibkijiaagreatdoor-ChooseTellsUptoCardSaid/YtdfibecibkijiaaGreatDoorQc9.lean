import Derived.Test.YtdfibecibkijiaaGreatDoorQc8
set_option linter.defProp false
set_option linter.unusedSectionVars false
set_option linter.unusedSimpArgs false
set_option linter.unusedVariables false
set_option maxHeartbeats 3200000
set_option maxRecDepth 100000
open Bool renaming true->aF,false->aM
open Option renaming some->aN,none->Pw
open List renaming length->qj
open Decidable renaming decide->YR
open Go.Value renaming int->O,string->ab,pointer->ae,agg->ah,tuple->ai,bool->aj
open Go.IntKind renaming i64->U,wrap->au
open Go.Ending renaming returned->ak
open _root_.ByteArray renaming mk->ao
open _root_.Go.Proofs.Tryz renaming prog->aq
open Go.Instr renaming buildSlice->av
open Go renaming World->aw,Value->ay,Calls->aA
open Go.Kt renaming Only->az,SliceF->aB,Cells->aD,OnlyP->aE,Blk->aG
namespace Go.Proofs.YtdfibecibkijiaaGreatDoor.Con
open Go Go.RowKit Go.Kt Go.Kt.V Go.Proofs.YtdfibecibkijiaaGreatDoor.Vc
def awu{c}(a:(oG c).1=0):(jo c).2=0/\Snd c (eI c) (Mh c):=by
 unfold oG at a;by_cases h:(jo c).2≠0
 .rw[K h]at a;exact absurd a h
 rw[R h]at a;have h:=ob.1 h;exact⟨h,adH (BS h) (EX (E2 c) a)⟩
def abN{c}(h:(oG c).1=0):oG c=(0,0):=by
 unfold oG at h⊢;by_cases p:(jo c).2≠0
 .rw[K p]at h;exact absurd h p
 rw[R p]at h⊢;rw[EX (E2 c) h];rfl
def Snd.aqh{c}{xs}{vs}(N:Snd c xs vs){a:Nat}{y}{m}(d:(BH c.root)[a]? =aN y)(h:m∈y.b.mv):∀s,s∈m.tg->n9 xs s=gj xs s/\∃k:Nat,gj xs s=k/\1<=k/\k<qj xs:=by
 obtain⟨g,p,_,_,W,j,_⟩:=N.nice _ _ d;have o:=by
  have:=W m h;obtain⟨_,this⟩:=dU.1 this;obtain⟨_,this⟩:=dU.1 this;obtain⟨_,this⟩:=dU.1 this;exact Aq.1 this
 have V:=λs b=>by
  unfold qE at j;by_cases a:gv y.b.k=aF
  .rw[K a]at j;simp only[B]at j;have:=rH.1 (aO j.2.2).2.2.2.1;rw[this]at h;cases h
  rw[R a]at j;simp only[B]at j;have:=du.1 j.2.2 m h;unfold mr at this;simp only[B]at this;exact Fl (du.1 this.1.2 s b)
 intro s b;have f:=Jo o s b;rcases jt xs s with⟨e,_⟩ | ⟨k,i,e,u,_⟩
 .omega
 exact⟨by unfold n9;rw[R (V s b)],k,e,J,gp u⟩
mutual
def ge0:∀(x y:Nd),y∈BH x->zl y.b<=mL x
 | .mk b l,y,h=>by
  rw[BH]at h;rw[mL];rcases bh.1 h with rfl | h
  .show zl b<=_;omega
  have:=ahn l y h;omega
def ahn:∀(l:L Nd) (y:Nd),y∈zK l->zl y.b<=j5 l
 | [],y,h=>by rw[zK]at h;cases h
 | x::l,y,h=>by
  rw[zK,bQ]at h;rw[j5];rcases h with h | h
  .have:=ge0 x y h;omega
  have:=ahn l y h;omega
end
def aeh xs {y} {ns} {a} (h:ns[a]? =aN y):qj (F6 xs 0 (ns.take a))+qj y.b.mv<=qj (F6 xs 0 ns):=by
 have e:ns.take (a+1)=ns.take a++[y]:=by rw[bn,h];rfl
 have:=bN List.length (A8 xs (ns.take (a+1)) (ns.drop (a+1)) 0);rw[dM,aP,e,A8,aP,F6,F6,bC,xT]at this;omega
def abv xs {y} {n:L Nd} {a} (h:n[a]? =aN y):F6 xs 0 (n.take (a+1))=F6 xs 0 (n.take a)++He xs a 0 y.b.mv:=by
 have e:n.take (a+1)=n.take a++[y]:=by rw[bn,h];rfl
 have l:qj (n.take a)=a:=by
  have:=(bc.1 h).1;rw[ci];omega
 rw[e,A8,F6,F6,bC,l,bR]
def PlQ(w:aw)(B:Nat)(b:Prop)(s i sd sr:Sl)(c:Ch):Prop:=(b->PlR w (λk=>B<=k) s i sd sr (my c))/\(¬b->s=Sl.nil/\i=Sl.nil/\sd=Sl.nil/\sr=Sl.nil)
def ai3{w:aw}{F:A}{D:Nat}{c:Ch}{C:Sl}{E:aJ}(hx:ChR aM (D+1) w F c C E)(Q:HX c)(j:oq c.vars+mL c.root<=1048576):
  aA aq 7 #[ah (C.v::E).toArray] w λe N=>(∃s M sd sr:Sl,e=ak (ai #[ah #[s.v,M.v,sd.v,sr.v],ah #[O U (oG c).1,O U (oG c).2]])/\PlQ N w.heap.size ((oG c).1=0) s M sd sr c)/\az [] w N:=by
 obtain⟨g,l,mv,kids,V,_⟩:=hx.root;subst V;refine gX (amS ?_);intro Y k1 k2 w0 fN dS lm jP rF sR p;have z0:=p.size;have keep:∀{b:aw},az [] w b->ChR aM (D+1) b F c C (qD c.root.b.k c.root.b.nm c.root.b.ini c.root.b.dft g l mv kids c.root.b.a):=λi=>⟨hx.vars.keep ft Z λk _ W=>i.block k W X,(cG aM _).keep hx.root λk _ W=>i.block k W X⟩
 refine(aaD (keep p) Q j).mono ?_;rintro _ w1 ⟨rfl,r⟩;have z1:=r.size;have L:=p.bU r;refine⟨_,_,I,r.same S,λhc k3 w2 zE uQ P n1 n2 n3 n4 n5 n6=>?_,λhc k3 m zE uQ o=>?_⟩
 .have hc:(oG c).1≠0:=Yc
  refine⟨λk=>k=k3,I,λh=>n5 h,λh=>n6 h,λm o=>⟨⟨Sl.nil,Sl.nil,Sl.nil,Sl.nil,I,λh=>absurd h hc,λ_=>⟨I,I,I,I⟩⟩,(L.bU P).trans o λx hx=>.inr LM⟩⟩
 have hc:(oG c).1=0:=Yc
 obtain⟨hp,co⟩:=awu hc;have fd:=BT hp;have z3:=o.size;have o3:=L.bU o;refine(Za (keep o3) fd).mono ?_;rintro _ w4 ⟨⟨x2,rfl,Qu⟩,dQ⟩;have z4:=dQ.size;have o4:=o3.bU dQ;have f5:nX aM (D+1) w4 (λk=>k<w.heap.size) c.root (qD c.root.b.k c.root.b.nm c.root.b.ini c.root.b.dft g l mv kids c.root.b.a):=
  (cG aM _).keep ((cG aM _).mono ((cG aM _).inHeap hx.root) λk hk=>hk.2) λk _ W=>o4.block k W X
 have HW:(2:Nat)*iQ c.root<=128:=J
 refine⟨x2,I,dQ.same S,(abZ (D+1) (B:=w4.heap.size) (s:=Sl.nil) (ns:=[]) f5 (λk hk=>J) (Yb _ _ _ _ _ _) (H _) PF).mono ?_⟩;rintro _ w5 ⟨x3,rfl,aT,eQ⟩;rw[cd]at aT;have eJ:az [] w4 w5:=eQ.1.only λk hk=>IL
 have z5:=eJ.size;have o5:=o4.bU eJ;refine⟨x3,I,eJ.same S,λk4 w6 wx C5 dV=>?_⟩;have z6:=dV.size;have o6:=o5.bU dV;have fi:qj (eI c)=iQ c.root:=by unfold eI;rw[nB]
 have GK:qj (BH c.root)=iQ c.root:=AP _;have TE:∀{a:Nat} {y:Nd} {am:Mv},(BH c.root)[a]? =aN y->am∈y.b.mv->∀s,s∈am.tg->n9 (eI c) s=gj (eI c) s/\∃k:Nat,gj (eI c) s=k/\1<=k/\k<qj (eI c):=λh hm=>co.aqh h hm;have f7:=ge0 c.root;have dO:ke (eI c) 0=1:=by
  obtain⟨s,j,hk⟩:=co.sd.rt;exact(fJ j).trans hk
 have f6:=PQ (eI c) c.root 0;have Bg:=co.fo;have cC:my c=⟨eI c,(BH c.root).map λy=>n9 (eI c) y.b.ini,(BH c.root).map λy=>n9 (eI c) y.b.dft,F6 (eI c) 0 (BH c.root)⟩:=by
  unfold my;rw[Zx,<-Sp,iv,iv];rfl
 rw[<-Zx]at f6;have el:aB oV 5 w6 (λk=>k<k4/\m.heap.size<=k) x2 (eI c):=Wg dj Z (UK dj (WV dj (Wg dj Z (WV dj Qu.sl' Z) eJ X) Z) λk hk=>⟨LH,by have:=hk.1.1;omega⟩) dV X;have cc:aB rNX 9 w6 (λk=>k<k4) x3 (BH c.root):=Wg xx Z (UK xx (WV xx (aT.slice xx) Z) λk hk=>LH) dV X;clear aT Qu;generalize gG:eI c=xs at*
 generalize f8:BH c.root=ns at*
 have ce:∀k,¬Q3 Sl.nil Sl.nil Sl.nil k:=λk hk=>by rcases hk with hk | hk | hk<;>cases hk
 have Qt:Lb w6 k4 (λk=>k<k4/\m.heap.size<=k) x2 Sl.nil Sl.nil Sl.nil xs [] [] []:=⟨el,λk hk=>⟨J,J,ce k⟩,Yb _ _ _ _ _ _,Yb _ _ _ _ _ _,Yb _ _ _ _ _ _,λk h=>Ue,λk h=>Ue⟩
 have bv:∀n,qO (n9 xs n):=λn=>by
  rcases blb xs n with h | ⟨c,h,a⟩
  .rw[h];exact⟨Z,Z⟩
  rw[h];exact⟨J,J⟩
 have bY:∀{b:aw},aE (λk=>k=k4) w6 b->∀{a:Nat} {y:Nd},ns[a]? =aN y->∃ad g l mv kids,cK x3 (a:Int) 9 ad/\aD b ad (qD y.b.k y.b.nm y.b.ini y.b.dft g l mv kids y.b.a)/\aB (L9 aM) 13 b (λk=>k<k4) mv y.b.mv:=fun{b} i {a y} hy=>by
  have h:=U6 xx Z cc i λk hk _ hm=>J
  have:=h.len;obtain⟨ad,v,t,f,c,q,s,n,e⟩:=h.get (i:=(a:Int)) (be a) (by have:=(bc.1 hy).1;omega);rw[ba,hy]at c;injection c with c;subst c;obtain⟨d,e⟩:=e;cases d with
  | zero=>exact e.elim
  | succ d=>
   obtain⟨k,x⟩:=y;obtain⟨g,l,mv,kids,rfl,⟨_,_,a⟩,_⟩:=e;exact⟨ad,g,l,mv,kids,f,n,a.1⟩
 refine⟨λkv bV q0 q1 q2 q3 b=>∃a:Nat,bV=(a:Int)/\kv+a=qj ns/\a<=qj ns/\x2=q0/\Lb b k4 (λk=>k<k4/\m.heap.size<=k) x2 q1 q2 q3 xs ((ns.take a).map λy=>n9 xs y.b.ini) ((ns.take a).map λy=>n9 xs y.b.dft) (F6 xs 0 (ns.take a))/\aE (λk=>k=k4) w6 b/\∀k,Q3 q1 q2 q3 k->w6.heap.size<=k,qj ns,⟨0,I,J,bf _,I,by rw[cu,F6];exact Qt,YW _ _,λk hk=>absurd hk (ce k)⟩,?_⟩;rintro kv _ _ q1 q2 q3 w7 ⟨a,rfl,nQ,ha,rfl,zF,m7,aC⟩;have z7:=m7.size;have gE:x3.n=qj ns:=cc.len;refine⟨λaS=>?_,λaS=>?_⟩
 .have aS:=u aS;obtain⟨y,hy⟩:∃y,ns[a]? =aN y:=⟨_,aX (show a<(qj ns) by omega)⟩
  obtain⟨ad,vT,vU,rG,ju,d,n,B⟩:=bY m7 hy;have Kk:a<qj xs:=J
  have gO:=aeh xs hy;have yq:=B.len;have lS:∀f:Nd->Int,(ns.take (a+1)).map f=(ns.take a).map f++[f y]:=λf=>by rw[bn,hy,cA];rfl
  refine⟨λv b=>v=n9 xs y.b.ini/\w7=b,?_,ad,d,_,n.dP 2 _ I,λc=>⟨ad,d,_,n.dP 2 _ I,(vO zF.sp y.b.ini).mono ?_⟩,λc=>⟨?_,I⟩⟩
  .rintro _ _ ⟨rfl,rfl⟩;refine⟨λv b=>v=n9 xs y.b.dft/\w7=b,?_,ad,d,_,n.dP 3 _ I,λc=>⟨ad,d,_,n.dP 3 _ I,(vO zF.sp y.b.dft).mono ?_⟩,λc=>⟨?_,I⟩⟩
   .rintro _ _ ⟨rfl,rfl⟩;have Vk:k4<w7.heap.size:=J
    have Oe:qj ((ns.take a).map λy=>n9 xs y.b.ini)=a:=Y7
    have iF:qj ((ns.take a).map λy=>n9 xs y.b.dft)=a:=Y7
    obtain⟨y1,w8,p1,p2,s1,w9,p3,p4,p5,p6⟩:=zF.aes (bv y.b.ini) Vk (by rw[Oe];omega);have z8:=p2.size;have z9:=p4.size;have sm:∀{b v:aw} {g9:A},w6.heap.size<=b.heap.size->aE g9 b v->(∀k,g9 k->w6.heap.size<=k)->cj [Y,k1,k2,k3,k4] b v:=fun{b v g9} hz i hP=>i.same λx hx=>by
     simp only[bh,bI,cO]at hx;exact⟨J,λh=>by have:=hP x h;omega⟩
    refine⟨y1,w8,p1,p2.same S,s1,w9,p3,sm J p4 λk hk=>aC k (.inl hk),λdq dN=>?_⟩;have iD:=p6 dq dN;have KG:=dN.size;have iN:aE (λk=>k=k4) w6 dq:=(m7.trans (p2.nP p4) λk hk=>.inr (aC k (.inl hk))).trans (dN.p (F:=λk=>k=k4) X) λk hk=>.inl hk;have lE:∀k,jK s1 k->w6.heap.size<=k:=λk hk=>(p5 k hk).elim (λh=>aC k (.inl h)) λh=>J
    obtain⟨y2,dB,r1,r2,s2,ey,r3,r4,r5,r6⟩:=iD.aet (bv y.b.dft) J (by rw[iF];omega);have GD:=r2.size;have oN:=r4.size;refine⟨y2,dB,r1,r2.same S,s2,ey,r3,sm J r4 λk hk=>aC k (.inr (.inl hk)),λeY dE=>?_⟩;have ip:=r6 eY dE;have Vl:=dE.size;have iS:aE (λk=>k=k4) w6 eY:=(iN.trans (r2.nP r4) λk hk=>.inr (aC k (.inr (.inl hk)))).trans (dE.p (F:=λk=>k=k4) X) λk hk=>.inl hk;have lT:∀k,jK s2 k->w6.heap.size<=k:=λk hk=>(r5 k hk).elim (λh=>aC k (.inr (.inl h))) λh=>J
    refine⟨λtS bV p0 p1 p2 p3 b=>∃f:Nat,bV=(f:Int)/\tS+f=qj y.b.mv/\f<=qj y.b.mv/\x2=p0/\s1=p1/\s2=p2/\Lb b k4 (λk=>k<k4/\m.heap.size<=k) x2 s1 s2 p3 xs (((ns.take a).map λy=>n9 xs y.b.ini)++[n9 xs y.b.ini]) (((ns.take a).map λy=>n9 xs y.b.dft)++[n9 xs y.b.dft]) (F6 xs 0 (ns.take a)++He xs a 0 (y.b.mv.take f))/\aE (λk=>k=k4) w6 b/\∀k,jK p3 k->w6.heap.size<=k,qj y.b.mv,⟨0,I,J,bf _,I,I,I,by rw[cu,He,bC];exact ip,iS,λk hk=>aC k (.inr (.inr hk))⟩,?_⟩;rintro tS _ _ _ _ q fV ⟨f,rfl,Cj,hj,rfl,rfl,rfl,FY,gT,g8⟩;have oR:=gT.size;obtain⟨yE,mK,nO,oF,mt,b1,b5,oW⟩:=bY gT hy;obtain rfl:=Zk d b1;have rD:=oW.len;refine⟨ad,b1,_,b5.dP 6 _ I,λnD=>?_,λnD=>?_⟩
    .have nD:=u nD;obtain⟨yI,am,ds,d1,d2,d3,d4,d5,d6⟩:=oW.get (be f) J;rw[ba]at d2;obtain⟨gc,tU,tg,rfl,tO,Ce,oJ⟩:=d6;obtain⟨sl,rfl⟩:=fD tO;have oJ:=oJ.1;have yU:=oJ.len;have pm:=bp d2;have ut:Hj am<=zj y.b.mv:=qs pm;have AS:=f7 y (bp hy);have AC:=xU am.tg;have wd:zj y.b.mv<=zl y.b:=by unfold zl;omega
     have pP:=TE hy pm;unfold Hj at ut;refine⟨ad,b1,_,b5.dP 6 _ I,yI,d1,_,_,_,_,_,_,_,_,sl,_,tU,tg,_,d5,λk5 k6 q sP FU As Vx ir=>?_⟩;have AT:=ir.size;refine⟨λv bV v0 v1 v2 ev wt rx dm b=>∃t:Nat,bV=(t:Int)/\v0=(a:Int)/\v1=(f:Int)/\v2=am.k/\ev=T am.ev/\wt=am.wt/\dm=0/\v+t=qj am.tg/\t<=qj am.tg/\cY q.heap.size b rx ((am.tg.take t).map (n9 xs))/\az [] fV b/\q.heap.size<=b.heap.size,qj am.tg,⟨0,I,I,I,I,I,I,I,J,bf _,Yb _ _ _ _ _ _,ir,H _⟩,?_⟩;rintro v _ _ _ _ _ _ rx _ iE ⟨t,rfl,rfl,rfl,rfl,rfl,rfl,rfl,uP,ht,hT,iH,Bv⟩;have lA:∀k,jK rx k->q.heap.size<=k:=λk e=>(hT.blk e).1;have pi:=Wg dj Z FY.sp iH X;have rg:qj ((am.tg.take t).map (n9 xs))=t:=Y7
     refine⟨λiG=>?_,λiG=>?_⟩
     .have iG:=u iG;refine λgL a=>⟨λk=>k<q.heap.size,Vx,?_⟩
      have BY:=a.size;obtain⟨Qw,s,BV,e1,T,e3,e4,e5,e6⟩:=(Wg dG Z oJ (iH.bU a) X).get (be t) J;rw[ba]at T;unfold nU at e6;subst e6;refine⟨Qw,e1,_,e5,?_⟩;refine(vO (Wg dj Z pi a X) s).mono ?_;rintro _ b ⟨rfl,hu⟩;obtain rfl:gL=b:=hu.symm;rw[<-(pP s (bp T)).1];have z:cY q.heap.size gL rx _:=hT.keep bO λk _ W=>a.block k W X;obtain⟨y3,jH,c1,h,l2,kf,c3,c4,y,c6⟩:=UU z J (bv s) (by rw[rg];omega);have Cc:=h.size;have CC:=y.size;have By:az [] fV kf:=(((iH.bU a).bU h).nP (y.mono (G:=λk=>fV.heap.size<=k) λk _ e=>PS)).only λk hk=>hk;refine⟨_,I,TT _ _,λ_ _ _=>I,y3,jH,c1,h.same S,Uy h,l2,kf,c3,y.same λx hx=>?_,λk hk _=>y.block k J λe=>PS,λj8 lc=>⟨v-1,J,t+1,Ye,I,I,I,I,I,I,J,J,?_,By.trans lc λx hx=>.inr CQ,by have:=lc.size;omega⟩⟩
      .simp only[bh,bI,cO]at hx;exact⟨J,λe=>LV⟩
      rw[bn,T,cA];exact c4.keep bO λk hk W=>lc.block k W Hl
     have iG:=aU iG;have G:t=qj am.tg:=J
     subst G;rw[bm (H _)]at hT rg;refine(ai2 pi Bg J dO Kk (hT.slice bO) (λz hz=>?_)).mono ?_
     .obtain⟨s,j,rfl⟩:=eo.1 hz;obtain⟨e,k,a,h,t⟩:=pP s j;rw[e,a];exact⟨J,J⟩
     rintro _ mB ⟨rfl,z⟩;have Do:=z.size;refine⟨_,I,z.same S,λoH qL=>?_⟩;have DO:=qL.size;have t:az [] fV oH:=(iH.bU z).trans qL λx hx=>.inr CQ;have T:=FY.o0 t;have s:cY q.heap.size oH rx _:=(hT.keep bO λk _ W=>z.block k W X).keep bO λk hk W=>qL.block k W Hl;obtain⟨y4,sM,g1,g2,q',qK,g3,g4,g5,g6⟩:=T.aeu (x:=LJ xs a f am) (s.slice bO) (s.roC λFn hg=>.inr ⟨(s.blk hg).1,hg⟩) (λk hk=>by
      have hk:=hk.resolve_left id;exact⟨J,λe=>by have:=FY.bi k e;omega,λe=>by have:=FY.bd k e;omega,λe=>by have:=FY.br k e;omega⟩) J (by rw[aP,xT,ci];omega)
     have EQ:=g2.size;have Fd:=g4.size;refine⟨y4,sM,g1,g2.same S,q',qK,g3,g4.same λx hx=>?_,λpI sU=>⟨tS-1,J,f+1,Ye,J,J,I,I,I,?_,?_,λk hk=>(g5 k hk).elim (g8 k) λh=>J⟩⟩
     .simp only[bh,bI,cO]at hx;refine⟨J,λh=>?_⟩;have a:=g8 x h;have e:=FY.br x h;omega
     .have e:y.b.mv.take (f+1)=y.b.mv.take f++[am]:=by rw[bn,d2];rfl
      have h:qj (y.b.mv.take f)=f:=Uq
      rw[e,E4,h,bR,<-bq];exact g6 pI sU
     exact(gT.trans (t.nP (g2.nP g4)) λk hk=>.inr (g8 k hk)).trans (sU.p (F:=λk=>k=k4) X) λk hk=>.inl hk
    have nD:=aU nD;have e:f=qj y.b.mv:=J
    subst e;rw[bm (H _)]at FY;refine⟨kv-1,J,a+1,Ye,J,J,I,?_,gT,λk hk=>hk.elim (lE k) λhk=>hk.elim (lT k) (g8 k)⟩;rw[lS,lS,abv xs hy];exact FY
   .rintro _ b ⟨rfl,h⟩;obtain rfl:w7=b:=h.symm;rw[ji]at c;refine⟨_,I,TT _ _,?_,I⟩;unfold n9;rw[R];simpa using c
   rw[ji]at c;unfold n9;rw[K];simpa using c
  .rintro _ b ⟨rfl,h⟩;obtain rfl:w7=b:=h.symm;rw[ji]at c;refine⟨_,I,TT _ _,?_,I⟩;unfold n9;rw[R];simpa using c
  rw[ji]at c;unfold n9;rw[K];simpa using c
 have aS:=aU aS;have e:a=qj ns:=J
 subst e;rw[bm (H _)]at zF;refine λc f=>⟨⟨x2,q1,q2,q3,by rw[abN hc],λ_=>?_,λh=>absurd hc h⟩,?_⟩
 .rw[cC];refine⟨(zF.sp.keep dj Z λk hk W=>f.block k W S).mono dj λk hk=>J,((zF.i.slice bO).keep bO Z λk hk W=>f.block k W ?_).mono bO λk hk=>?_,((zF.d.slice bO).keep bO Z λk hk W=>f.block k W ?_).mono bO λk hk=>?_,((zF.r.slice jp).keep jp Z λk hk W=>f.block k W ?_).mono jp λk hk=>?_⟩
  .have:=hk.resolve_left id;simp;omega
  .have:=hk.resolve_left id;omega
  .have:=hk.resolve_left id;simp;omega
  .have:=hk.resolve_left id;omega
  .rcases hk with hk | hk
   .have:=hk.1;simp;omega
   simp;omega
  rcases hk with hk | hk
  .have:=hk.1;omega
  omega
 refine((o6.nP (m7.mono (G:=λk=>w.heap.size<=k) λk _ hk=>J)).only λk hk=>hk).trans f λx hx=>.inr LM
def opk{c:Ch}(h:HX c):oG c=kU c:=by unfold oG kU;rw[dfs h]
def DN{w:aw}{F G:A}{s sb:Sl}{l m:L Int}(a:aB rInt 1 w F s l)(c:aB rInt 1 w G sb m):aA aq 12 #[s.v,sb.v] w λe f=>e=ak (aj (YR (l=m)))/\az [] w f:=by
 refine ret (auK ?_);have g:=a.len;have o:=c.len;have p:=a.big;have q:=a.cap;refine⟨λhc=>⟨by rw[bD];rintro rfl;simp only[bne_iff_ne]at hc;omega,Ib _ _⟩,λhc=>?_⟩;have hc:(s.n:Int)=sb.n:=Yc
 refine⟨λk i d=>∃j:Nat,i=(j:Int)/\k+j=qj l/\j<=qj l/\l.take j=m.take j/\az [] w d,qj l,⟨0,I,J,bf _,X,Ib _ _⟩,?_⟩;rintro k _ d ⟨j,rfl,Q,r,b,h⟩;refine⟨λn=>?_,λn=>?_⟩
 .have n:=u n;have V:j<qj l:=J
  have e:j<qj m:=J
  obtain⟨ad,t,v⟩:=gW (kI a h) (aX V);obtain⟨E,x,y⟩:=gW (kI c h) (aX e);refine⟨ad,t,_,v,E,x,_,y,λhn B z=>⟨?_,h.bU z⟩,λhn C P=>⟨k-1,J,j+1,Ye,J,J,?_,h.bU P⟩⟩
  .rw[bD];rintro rfl;simp at hn
  rw[bn,bn,b,aX V,aX e];have:l[j]=m[j]:=H7
  rw[this]
 have n:=aU n;rw[bm J,bm J]at b;exact⟨by rw[b,bG I],h⟩
def zx(w:aw)(s:Sl):Prop:=s.c<=9223372036854775807/\(s.c=0∨∃(g t:Nat) (y:aJ),s.a=aN ⟨g,0,Pw⟩/\aG w g t y/\qj y=s.c)
def cY.aev{B:Nat}{w:aw}{s:Sl}{l:L Int}(h:cY B w s l):zx w s:=by
 rcases h.Tj with⟨rfl,_⟩ | ⟨a,g⟩
 .exact⟨Z,.inl I⟩
 obtain⟨tail,d,b,e,f,i,c,j⟩:=h.cells g;exact⟨c,.inr ⟨a,_,_,g,b,by rw[aP,bH];omega⟩⟩
def zx.only{w u:aw}{s:Sl}(h:zx w s){b:L Nat}(O:az b w u)(e:∀g,s.a=aN ⟨g,0,Pw⟩->g∉b):zx u s:=by
 refine⟨h.1,?_⟩;rcases h.2 with h | ⟨g,t,y,a,c,d⟩
 .exact .inl h
 exact .inr ⟨g,t,y,a,O.blk c (e g a),d⟩
def is1(s:Sl):s.cut 0 s.c s.c 1=⟨s.a,s.c,s.c⟩:=by
 unfold Sl.cut;rw[pM];congr 1;split
 .rfl
 cases s.a<;>rfl
def HN{w:aw}{a b:Sl}(q:zx w a)(D:zx w b)(hd:∀g,a.a=aN ⟨g,0,Pw⟩->b.a≠aN ⟨g,0,Pw⟩):
  aA aq 17 #[a.v,b.v] w λe z=>e=ak (aj aF)/\aE (λk=>a.a=aN ⟨k,0,Pw⟩∨b.a=aN ⟨k,0,Pw⟩) w z/\zx z a/\zx z b:=by
 refine ret (auL ?_);have E:=q.1;have r:=D.1;let Q:A:=λk=>a.a=aN ⟨k,0,Pw⟩
 let B:A:=λk=>b.a=aN ⟨k,0,Pw⟩
 let C:Nat->aw->Prop:=λj f=>∀g,a.a=aN ⟨g,0,Pw⟩->∃(t:Nat) (y:aJ),aG f g t y/\qj y=a.c/\∀i,i<j->y[i]? =aN (.int U (-7))
 have at_:∀{s:Sl} {j:Nat} {g:Nat},s.a=aN ⟨g,0,Pw⟩->j<s.c->cK ⟨s.a,s.c,s.c⟩ (j:Int) 1 ⟨g,j,Pw⟩:=fun{s j g} h m=>⟨_,h,J,by show(j:Int)<(s.c:Int);omega,by rw[iK,ba];simp⟩
 have K:0<a.c->C 0 w:=λc g h=>by
  rcases q.2 with s | ⟨k,t,y,a,b,e⟩
  .omega
  rw[a]at h;injection h with h;injection h with h;subst h;exact⟨t,y,b,e,λi v=>J⟩
 have n:0<a.c->∃g,a.a=aN ⟨g,0,Pw⟩:=λc=>by
  rcases q.2 with e | ⟨a,t,y,b,k,s⟩
  .omega
  exact⟨a,b⟩
 refine⟨a.c,⟨I,H _⟩,λd i f=>∃j:Nat,i=(j:Int)/\d+j=a.c/\j<=a.c/\(0<a.c->C j f)/\aE Q w f,a.c,⟨0,I,J,bf _,K,YW _ _⟩,?_⟩;rw[is1];rintro d _ f ⟨j,rfl,L,m,p,o⟩;refine⟨λl=>?_,λl=>?_⟩
 .have l:(j:Int)<a.c:=u l;obtain⟨g,h⟩:=n J;obtain⟨t,y,N,P,R⟩:=p J g h;refine⟨_,at_ h J,g,j,y,t,I,N,J,λV M v=>⟨d-1,J,j+1,Ye,J,J,λ_ S b=>?_,o.trans (M.p (F:=Q) λx s=>by simp only[aV]at s;subst s;exact .inl h) λk hk=>.inl hk⟩⟩;rw[h]at b;injection b with b;injection b with b;subst b;rw[yZ J]at v;refine⟨t,_,v,by rw[wz];exact P,λi T=>?_⟩;by_cases G:i=j
  .subst G;rw[sY J]
  rw[GM (λe=>G e.symm)];exact R i J
 have l:¬(j:Int)<a.c:=aU l;have e:j=a.c:=J
 subst e;have M:0<b.c->∃g,b.a=aN ⟨g,0,Pw⟩/\∃(t:Nat) (y:aJ),aG f g t y/\qj y=b.c:=λc=>by
  rcases D.2 with v | ⟨g,t,y,a,b,k⟩
  .omega
  exact⟨g,a,t,y,o.blk b (λx=>hd g x a),k⟩
 refine⟨b.c,⟨I,H _⟩,λd i v=>∃j:Nat,i=(j:Int)/\d+j=b.c/\j<=b.c/\(0<b.c->∃g,b.a=aN ⟨g,0,Pw⟩/\∃(t:Nat) (y:aJ),aG v g t y/\qj y=b.c)/\aE B f v,b.c,⟨0,I,J,bf _,M,YW _ _⟩,?_⟩;rw[is1];rintro S _ v ⟨i,rfl,N,R,Y,P⟩;refine⟨λs=>?_,λs=>?_⟩
 .have s:(i:Int)<b.c:=u s;obtain⟨g,h,t,y,G,T⟩:=Y J;refine⟨_,at_ h J,g,i,y,t,I,G,J,λW v V=>⟨S-1,J,i+1,Ye,J,J,λ_=>⟨g,h,t,_,V,?_⟩,P.trans (v.p (F:=B) λx a=>by simp only[aV]at a;subst a;exact .inl h) λk hk=>.inl hk⟩⟩;rw[yZ J,wz];exact T
 have Vs:aE (λk=>a.a=aN ⟨k,0,Pw⟩∨b.a=aN ⟨k,0,Pw⟩) w v:=(o.mono (G:=λk=>a.a=aN ⟨k,0,Pw⟩∨b.a=aN ⟨k,0,Pw⟩) λk _ hk=>.inl hk).trans P λk hk=>.inl (.inr hk);refine⟨λd i x=>∃j:Nat,i=(j:Int)/\d+j=a.c/\j<=a.c/\v=x,a.c,⟨0,I,J,bf _,I⟩,?_⟩;rintro am _ _ ⟨V,rfl,aC,hm,rfl⟩;have fa:zx v a:=by
  refine⟨E,?_⟩;by_cases c:0<a.c
  .obtain⟨g,h⟩:=n c;obtain⟨t,y,F,T,h3⟩:=p c g h;exact .inr ⟨g,t,y,h,P.blk F (λX=>hd g h X),T⟩
  exact .inl J
 have fb:zx v b:=by
  refine⟨r,?_⟩;by_cases c:0<b.c
  .obtain⟨g,h,t,y,F,T⟩:=Y c;exact .inr ⟨g,t,y,h,F,T⟩
  exact .inl J
 refine⟨λHZ=>?_,λ_=>⟨I,Vs,fa,fb⟩⟩;have HZ:(V:Int)<a.c:=u HZ;obtain⟨g,h⟩:=n J;obtain⟨t,y,F,T,h3⟩:=p J g h;have W:=P.blk F (λX=>hd g h X);refine⟨_,at_ h J, -7,?_,λhn=>absurd hn Z,λ_=>⟨am-1,J,V+1,Ye,J,J,I⟩⟩;refine W.cells V _ λj v m=>?_;cases j with
 | zero=>
  simp only[cQ,bP]at m;subst m;exact h3 V J
 | succ j=>simp at m
def aei(k:Int):0<=bits .and U k 1048575:=by
 have h:(BitVec.ofInt 64 k&&& BitVec.ofInt 64 1048575).toNat<=1048575:=by
  rw[BitVec.toNat_and];exact Nat.and_le_right
 show 0<=IntKind.i64.wrap (((BitVec.ofInt 64 k&&& BitVec.ofInt 64 1048575).toNat:Nat):Int);rw[eS J J];omega
def M6{p:Type}{r:Rp p}{a bytes:Nat}{t e:TypeId}{i:TypeInfo}{z:ay}(o:Tryz.prog.underlying t=aN (.slice e))(n:Tryz.prog.info? e=aN i)(I:i.zero=aN z)(O:i.size=a)(Z:i.bytes=bytes)(N:z.cells.size=a)(h:r.Ok)(C:0<bytes)(B:0<a)
  {w:aw} {F:A} {s:Sl} {l:L p} (x:aB r a w F s l) (E:qj l*bytes<=140737488355328) (f:L Nat) (j:∀k,k∈f->k<w.heap.size):
  ∃y b,(av t 0 #[]).run aq w=.ok (Sl.v y) b/\cj f w b/\∃d c,(Builtin.append_ #[t,t] t #[Sl.v y,Sl.v s]).run aq b=.ok (Sl.v d) c/\cj f b c/\Own r a e w.heap.size c (λk=>F k/\k<w.heap.size) d l/\az [] w c:=by
 obtain⟨y,b,v,m,g⟩:=aag (P:=aq) o n r a w (λk=>F k/\k<w.heap.size);have Q:=g.size;have H:=UK h (Ic h (WV h x B) B λk hk S=>g.block k hk.2 X) (G:=λk=>(F k/\k<w.heap.size)/\y.a≠aN ⟨k,0,Pw⟩) λk hk=>⟨hk,λe=>by have:=(m.blk e).1;have:=hk.2;dsimp only at*;omega⟩
 obtain⟨d,c,J,K,R,k3,M,_⟩:=tf (P:=aq) (ty:=t) o n I O Z N h m H Q (by rw[bE,bR];exact E) C;have q:aE (λk=>w.heap.size<=k) b c:=k3.p λu D=>.inl (M u D).2.1;exact⟨y,b,v,g.same λk hk=>⟨j k hk,X⟩,d,c,J,q.same λk hk=>⟨by have:=j k hk;omega,by have:=j k hk;omega⟩,K,(g.nP q).only λk hk=>hk⟩
def aej:Rp Sl:=λ_ _ s c=>c=[s.v]
def rr:aej.Ok where
 keep h _:=h
 inHeap h:=h
 mono h _:=h
 one h v hv:=by
  rw[show _=[Sl.v _]from h]at hv;simp only[aV]at hv;subst hv;rfl
def PX{w:aw}{F:A}{s:Sl}{l:L Sl}(h:aB aej 1 w F s l){i:Nat}{x:Sl}(b:l[i]? =aN x):∃ad,cK s (i:Int) 1 ad/\aD w ad [x.v]:=by
 have W:=(bc.1 b).1;have k:=h.len;obtain⟨ad,y,c,d,g,f,j,a,e⟩:=h.get (be i) J;rw[ba,b]at g;injection g with g;subst g;rw[show c=[x.v]from e]at a;exact⟨ad,d,a⟩
def zx.mP{w u:aw}{s:Sl}{F:A}(h:zx w s)(O:aE F w u)(d:∀g,s.a=aN ⟨g,0,Pw⟩->¬F g):zx u s:=by
 refine⟨h.1,?_⟩;rcases h.2 with h | ⟨g,t,y,a,b,c⟩
 .exact .inl h
 exact .inr ⟨g,t,y,a,O.blk b (d g a),c⟩
def ZF(c:Ch):∀r,r∈(my c).ro->r.src<(my c).sp.length:=λr h=>by
 have a:=(SZ (xs:=eI c) h).2;have b:(my c).sp.length=iQ c.root:=by
  show(eI c).length=_;unfold eI;rw[nB]
 omega
def ai4{c:Ch}(l:(kU c).1=0):∀r,r∈(my c).ro->r.dom<(my c).sp.length:=λr h=>by
 have N:=Ps l;have s:=ZF c r h;rcases N.ZR (MN.none _) rfl h with⟨_,e⟩ | ⟨_,_,a,d,_,_,e,_,⟨t,b,_⟩,_⟩
 .rw[e];omega
 rw[e];have:=gp b;show(d:Int)<(qj (eI c):Int);omega
def ctells_c{w:aw}{x:Ch×Nat}{l:aJ}{sm p:Sl}{m:L M}{a:L Int}(i:rChU w (λ_=>True) x l)(k:Int)(g:aB rBool 1 w (λ_=>True) sm m)(f:aB rInt 1 w (λ_=>True) p a)(H:x.2+qj m+qj a<=1048576)(y:Er w)(T:Tb w):
  aA aq 3 #[ah l.toArray,O U k,sm.v,p.v] w λe j=>e=ak (aj aF)/\az [] w j:=by
 obtain⟨c,d⟩:=x;obtain⟨D,A,l,rfl,C,n,N⟩:=i;dsimp only at C n N H;have o:=C;cases D with
 | zero=>exact C.root.elim
 | succ D=>
 obtain⟨en,lv,mv,kids,rfl,_⟩:=o.root;refine ret (auH ?_);have keep:∀{j:aw},az [] w j->ChR aM (D+1) j (λ_=>True) c A (qD c.root.b.k c.root.b.nm c.root.b.ini c.root.b.dft en lv mv kids c.root.b.a):=λR=>⟨C.vars.keep ft Z λk _ bW=>R.block k bW X,(cG aM _).keep C.root λk _ bW=>R.block k bW X⟩
 intro k0 w0 fN dS cn;have z0:=cn.size;refine(Ifc w0 (y.only cn) (T.only cn)).mono ?_;rintro _ w1 ⟨rfl,cr⟩;have z1:=cr.size;have o1:=cn.bU cr;refine⟨_,I,cr.same S,(Zf (keep o1) n J (y.only o1) (T.only o1)).mono ?_⟩;rintro _ w2 ⟨⟨s,si,el,sr,rfl,hP⟩,cP⟩;have z2:=cP.size;have o2:=o1.bU cP;refine⟨s,si,el,sr,_,_,I,cP.same S,λk1 k2 w3 lm jP rF sR cZ=>⟨λhc=>⟨I,o2.bU cZ⟩,λhc=>?_⟩⟩;have hl:(kU c).1=0:=Yc
 have z3:=cZ.size;have o3:=o2.bU cZ;have ip:=(hP hl).o0 cZ;have lT:=Ps hl;have sd:=lT.sd;have ru:qj (eI c)<=64:=lT.le;refine(ai3 (keep o3) n J).mono ?_;rintro _ w4 ⟨⟨t0,t1,t2,t3,rfl,hr⟩,dQ⟩;have hX:=hr.1 (by rw[opk n];exact hl);have z4:=dQ.size;have o4:=o3.bU dQ;refine⟨t0,t1,t2,t3,_,_,I,dQ.same S,λk3 k4 w5 zE uQ wx C5 eJ=>?_⟩;have z5:=eJ.size;have o5:=o4.bU eJ;have f8:=hX.o0 eJ;obtain⟨s0,Bd,_⟩:=sd.rt;have hW:1<=W (eI c) ((0:Nat):Int):=sd.agr Bd;have hW:1<=W (eI c) 0:=hW;have oR:(my c).ro.length<=mL c.root:=PQ (eI c) c.root 0;refine(Nw (xs:=eI c) f8.sp sd).mono ?_;rintro _ w6 ⟨rfl,dV⟩;have z6:=dV.size;refine⟨_,I,dV.same S,J,λw7 gq=>?_⟩;have z7:=gq.size;have p7:=dV.bU gq;have o7:=o5.bU p7;have gE:=f8.o0 p7;have Vf:0<=(bits .and U k 1048575).tmod ((W (eI c) 0:Nat):Int):=Int.tmod_nonneg _ (aei k);have xB:(bits .and U k 1048575).tmod ((W (eI c) 0:Nat):Int)<((W (eI c) 0:Nat):Int):=Int.tmod_lt_of_pos _ J;refine(ai1 (xs:=eI c) gE.sp sd).mono ?_;rintro _ w8 ⟨⟨sa,bt,act,rfl,g8,ce,cc⟩,fK⟩;have z8:=fK.size;have ce:bt=aF:=ce.2 ⟨Vf,xB⟩;rw[K ce]at cc;have Kk:qj act<=64:=by rw[cc];exact S4 sd _ _ _ Bd
 have hA:∀x,x∈act->∃k:Nat,x=k/\k<qj (eI c):=λx i=>by
  rw[cc]at i;have h1:=(PU sd _ _ _ Bd).2 x i;have h2:=sd.fo.up 0 s0 Bd;exact⟨x.toNat,J,J⟩
 have Ce:=g8.slice bO;have o8:=o7.bU fK;have iF:PlR w8 _ t0 t1 t2 t3 (my c):=gE.o0 fK;have iD:PlR w8 _ s si el sr (my c):=(((ip.o0 dQ).o0 eJ).o0 p7).o0 fK;have VF:∀q,q∈[k0,k1,k2,k3,k4]->q<w8.heap.size:=S
 obtain⟨l9,w9,a1,a2,Q,dq,a3,a4,a5,a6⟩:=M6 (t:=31) (e:=3) (i:=Tryz.t3) (z:=O U 0) (bytes:=8) E E I I I I bO Z Z Ce J [k0,k1,k2,k3,k4] VF;have KG:=a6.size;obtain⟨qJ,dB,b1,b2,qy,ey,b3,b4,b5,b6⟩:=M6 (t:=31) (e:=3) (i:=Tryz.t3) (z:=O U 0) (bytes:=8) E E I I I I bO Z Z (kI f (o8.bU a6)) J [k0,k1,k2,k3,k4] λq V=>cq (VF q V) KG;have pi:=b6.size;have gG:=a6.bU b6;obtain⟨tT,eY,c1,c2,c3,_⟩:=iU (P:=aq) (t:=45) (e:=31) (i:=Tryz.t31) (z:=Sl.v Sl.nil) (w:=ey) (F:=λ_=>False) (vs:=[Q.v,qy.v]) (parts:=#[.mk 0 Q.v,.mk 1 qy.v]) (len:=2) (xs:=[Q,qy]) (r:=aej) (size:=1) E E I I Z I I Z Z rr ⟨⟨I,I⟩,⟨I,I⟩,trivial⟩;have Vl:=c3.size;have dO:=gG.bU c3;have iS:=o8.bU dO;obtain⟨B6,fV,d1,d2,C2,Y,d3,d4,d5,d6⟩:=M6 (t:=30) (e:=4) (i:=Tryz.t4) (z:=aj aM) (bytes:=1) E E I I I I j6 Z Z (Wg j6 Z g iS X) J [k0,k1,k2,k3,k4] λq V=>cq (VF q V) dO.size;have pm:=d6.size;have aC:=dO.bU d6;have cC:=o8.bU aC;have f5:cY w8.heap.size Y Q act:=gx (YZ a5) ((b6.bU c3).bU d6);have f6:cY dq.heap.size Y qy a:=gx (YZ b5) (c3.bU d6);have bY:aB aej 1 Y (λk=>ey.heap.size<=k/\k<eY.heap.size) tT [Q,qy]:=Wg rr Z ((WV rr (c2.slice rr) Z).mono rr λk hk=>⟨(hk.1.resolve_left id).1,hk.2⟩) d6 X;have g9:=d5.slice j6;have gO:∀{P:aw},az [] Y P->PlR P _ s si el sr (my c):=λR=>(iD.o0 aC).o0 R;have gT:∀{P:aw},az [] Y P->PlR P _ t0 t1 t2 t3 (my c):=λR=>(iF.o0 aC).o0 R;have Ac:∀{P:aw},az [] Y P->aB rInt 1 P _ sa act:=λR=>kI (kI Ce aC) R;have A1:∀{P:aw},az [] Y P->aB rInt 1 P _ Q act:=λR=>kI (f5.slice bO) R;have K1:∀{P:aw},az [] Y P->aB rInt 1 P _ qy a:=λR=>kI (f6.slice bO) R;have K0:∀{P:aw},az [] Y P->aB rInt 1 P _ p a:=λR=>kI (kI f cC) R;have M0:∀{P:aw},az [] Y P->aB rBool 1 P _ sm m:=λR=>Wg j6 Z (Wg j6 Z g cC X) R X;have M1:∀{P:aw},az [] Y P->aB rBool 1 P _ C2 m:=λR=>Wg j6 Z g9 R X;have R0:∀{P:aw},az [] Y P->∃ad,cK tT 0 1 ad/\aD P ad [Q.v]:=λR=>PX (Wg rr Z bY R X) (i:=0) I;have R1:∀{P:aw},az [] Y P->∃ad,cK tT 1 1 ad/\aD P ad [qy.v]:=λR=>PX (Wg rr Z bY R X) (i:=1) I;have bv:∀{P v:aw},az [] Y P->az [] P v->cj [k0,k1,k2,k3,k4] P v:=fun{P v} h1 h2=>h2.same λq V=>⟨cq (VF q V) (bB aC.size h1.size),X⟩
 have co:=ai4 hl;have iN:=ZF c;have oN:=g.len;have oF:=g.cap;have nO:=g.big;have Ki:=f.len;have mK:=f.cap;have mt:=f.big;obtain⟨p0,e1,_⟩:=R0 (Ib [] Y);have C0:∀{P:aw},az [] Y P->aD P p0 [Q.v]:=λR=>by
  obtain⟨ad,h1,h2⟩:=R0 R;rw[Zk e1 h1];exact h2
 refine⟨sa,bt,I,fK.same S,l9,w9,a1,a2,Q,dq,a3,a4,qJ,dB,b1,b2,qy,ey,b3,b4,tT,eY,c1,c3.same λq V=>⟨cq (VF q V) gG.size,X⟩,B6,fV,d1,d2,C2,Y,d3,d4,p0,e1,λiE iH=>⟨Q,C0 iH,(agk (gO iH) sd ru (HK c) J (A1 iH) J (M1 iH)).mono ?_⟩⟩;rintro _ gL ⟨⟨bV,rfl,f7⟩,gC⟩;have pP:=gC.size;have lE:=iH.bU gC;refine⟨bV,I,bv iH gC,p0,e1,λjH kg=>?_⟩;have aS:=lE.bU kg;obtain⟨p1,f1,f2⟩:=R1 aS;refine⟨Q,C0 aS,p1,f1,qy,f2,(aee (gO aS) sd.fo (A1 aS) Kk (K1 aS) J).mono ?_⟩;rintro _ kf ⟨eQ,rfl,VG,ku⟩;have rg:=ku.size;have am:=aS.bU ku;have fd:cY iE.heap.size kf bV (pZ (eI c) (my c).ro act m):=gx f7 (kg.bU ku);have VG:cY jH.heap.size kf eQ (Fq (a.flatMap (fR (eI c) (my c).ro act))):=VG;rw[adX (xs:=eI c) hA]at VG;refine⟨eQ,I,bv aS ku,λb P=>b=aF/\az [] kf P,?_,(ajH (gT am) sd co iN (Ac am) J (M0 am)).mono ?_⟩
 .rintro _ W ⟨rfl,t⟩;refine⟨λv b aT P=>∃c:Nat,aT=(c:Int)/\v+c=min (qj a) 4/\c<=min (qj a) 4/\b=aF/\az [] kf P,min (qj a) 4,⟨0,I,J,bf _,I,t⟩,?_⟩;rintro v _ _ mB ⟨c,rfl,z,s,rfl,r⟩;have k:=am.bU r;refine⟨λhc=>?_,λhc=>?_⟩
  .rw[B,cx,cx]at hc;obtain⟨x1,rx⟩:∃x,a[c]? =aN x:=⟨_,aX J⟩
   refine⟨λv b aT P=>∃d:Nat,aT=(d:Int)/\v+d=min (qj a) 4/\d<=min (qj a) 4/\b=aF/\az [] kf P,min (qj a) 4,⟨0,I,J,bf _,I,r⟩,?_⟩;rintro tS _ _ oH ⟨d,rfl,Cj,rD,rfl,qL⟩;refine⟨λiG=>?_,λiG=>⟨v-1,J,c+1,Ye,J,J,I,qL⟩⟩;rw[B,cx,cx]at iG;obtain⟨x2,tO⟩:∃x,a[d]? =aN x:=⟨_,aX J⟩
   refine⟨λb P=>b=aF/\az [] kf P,λb P ⟨h1,h2⟩=>⟨tS-1,J,d+1,Ye,J,J,h1,h2⟩,λqK C3=>?_⟩;have G:=qL.bU C3;have e:=am.bU G;have uP:=e.size;have ut:=aC.size;obtain⟨g1,g2,g3⟩:=gW (K0 e) rx;obtain⟨g4,g5,g6⟩:=gW (K0 e) tO;refine⟨λq=>q<qK.heap.size,λ_=>⟨p0,e1,Q,C0 e,g1,g2,x1,g3,g4,g5,x2,g6,J,g1,g2,g3.lt,x1,g3,g4,g5,g6.lt,x2,g6,(SX (gO e) sd.fo (A1 e) J x1 x2).mono ?_⟩,λh=>Ue⟩;rintro _ pI ⟨rfl,sU⟩;have F:=e.bU sU;refine⟨_,I,bv e sU,Uy sU,(Ns (gT F) sd.fo co (Ac F) J x1 x2).mono ?_⟩;rintro _ ry ⟨rfl,ld⟩;exact⟨_,I,bv F ld,Uy ld,X,(G.bU sU).bU ld⟩
  obtain⟨p1,f1,f2⟩:=R1 k;refine⟨λb P=>b=aF/\az [] kf P,?_,p0,e1,Q,C0 k,(DN (A1 k) (Ac k)).mono ?_⟩
  .rintro _ uZ ⟨rfl,sV⟩;refine⟨λv b aT P=>∃c:Nat,aT=(c:Int)/\v+c=qj m/\c<=qj m/\b=aF/\az [] kf P,qj m,⟨0,I,J,bf _,I,sV⟩,?_⟩;rintro v _ _ we ⟨c,rfl,z,s,rfl,sW⟩;have x:=am.bU sW;have wd:=sW.size;refine⟨λiG=>?_,λiG=>?_⟩
   .have iG:=u iG;obtain⟨b,F⟩:∃b,m[c]? =aN b:=⟨_,aX J⟩
    obtain⟨e,h,q⟩:=DL (M1 x) F;obtain⟨G,g5,g6⟩:=DL (M0 x) F;exact⟨e,λ_=>h,b,λ_=>q,G,λ_=>g5,b,λ_=>g6,λCN vR=>⟨v-1,J,c+1,Ye,J,J,X,sW.bU vR⟩⟩
   have zz:=aC.size;have Cc:=iH.size;have Do:=kg.size;have AT:∀As,bV.a=aN ⟨As,0,Pw⟩->iE.heap.size<=As/\As<gL.heap.size:=λAs e=>by have:=f7.blk e;exact this
   have Tv:∀As,Q.a=aN ⟨As,0,Pw⟩->w8.heap.size<=As/\As<dq.heap.size:=λAs e=>by have:=a5.blk e;exact this
   have AC:∀As,eQ.a=aN ⟨As,0,Pw⟩->jH.heap.size<=As/\As<kf.heap.size:=λAs e=>by have:=VG.blk e;exact this
   have Tw:∀As,qy.a=aN ⟨As,0,Pw⟩->dq.heap.size<=As/\As<ey.heap.size:=λAs e=>by have:=b5.blk e;exact this
   refine⟨λb P=>b=aF/\az [] w P,λb P ⟨h1,h2⟩=>⟨Yp,h2⟩,p0,e1,Q,C0 x,(HN (gx fd sW).aev (gx f5 x).aev λAs h1 h2=>by have:=AT As h1;have:=Tv As h2;omega).mono ?_⟩;rintro _ KD ⟨rfl,C4,_⟩;have BY:=C4.size;have hG:∀q,(bV.a=aN ⟨q,0,Pw⟩∨Q.a=aN ⟨q,0,Pw⟩)->(iE.heap.size<=q/\q<gL.heap.size)∨(w8.heap.size<=q/\q<dq.heap.size):=λq h=>h.imp (AT q) (Tv q);have Bv:cj [k0,k1,k2,k3,k4] we KD:=C4.same λq V=>⟨cq (VF q V) (bB zz x.size),λh=>by have:=VF q V;have:=hG q h;omega⟩
   obtain⟨p2,f3,f4⟩:=PX (U6 rr Z (Wg rr Z bY x X) C4 λq V _ h=>by have:=hG q h;omega) (i:=1) I;refine⟨_,I,Bv,λ_=>⟨p2,f3,qy,f4,(HN ((gx VG sW).aev.mP C4 λAs h1 h=>by have:=AC As h1;have:=hG As h;omega) ((gx f6 x).aev.mP C4 λAs h1 h=>by have:=Tw As h1;have:=hG As h;omega) λAs h1 h2=>by have:=AC As h1;have:=Tw As h2;omega).mono ?_⟩,λh=>Ue⟩;rintro _ ZZ ⟨rfl,AS,_⟩;have By:cj [k0,k1,k2,k3,k4] KD ZZ:=AS.same λq V=>⟨cq (VF q V) (bB (bB zz x.size) BY),λh=>by have:=VF q V;exact h.elim (λh=>by have:=AC q h;omega) λh=>by have:=Tw q h;omega⟩
   refine⟨_,I,By,I,?_⟩;have BV:=cC.bU x;have CC:=o8.size;exact(BV.nP (F:=λq=>w.heap.size<=q) ((C4.mono (G:=λq=>w.heap.size<=q) λq _ h=>by have:=hG q h;omega).trans (AS.mono (G:=λq=>w.heap.size<=q) λq _ h=>h.elim (λh=>by have:=AC q h;omega) λh=>by have:=Tw q h;omega) λq V=>.inl V)).only λq V=>V
  rintro _ x ⟨rfl,e⟩;have q:=k.bU e;obtain⟨p1,f1,f2⟩:=R1 q;refine⟨_,I,bv k e,λ_=>⟨p1,f1,qy,f2,(DN (K1 q) (K0 q)).mono ?_⟩,λh=>absurd h X⟩;rintro _ F ⟨rfl,b⟩;exact⟨_,I,bv q b,X,(r.bU e).bU b⟩
 rintro _ G ⟨⟨x,rfl,k⟩,s⟩;have v:=am.bU s;have k:cY kf.heap.size G x (pZ (eI c) (my c).ro act m):=k;refine⟨x,I,bv am s,(DN (kI (fd.slice bO) s) (k.slice bO)).mono ?_⟩;rintro _ W ⟨rfl,b⟩;have q:=v.bU b;refine⟨_,I,bv v b,λ_=>(aeb (gT q) sd.fo ru co (Ac q) J (K0 q)).mono ?_,λh=>absurd h X⟩;rintro _ DO ⟨⟨z,rfl,r⟩,e⟩;have F:=q.bU e;have r:cY W.heap.size DO z (MA (qj (eI c)) (CI (eI c) (my c).ro act a)):=r;refine⟨z,I,bv q e,(DN (kI (VG.slice bO) ((s.bU b).bU e)) (r.slice bO)).mono ?_⟩;rintro _ EQ ⟨rfl,t⟩;exact⟨_,I,bv F t,X,((s.bU b).bU e).bU t⟩
end Go.Proofs.YtdfibecibkijiaaGreatDoor.Con
