import Derived.Test.YteoblgpbapdhiaaGreatDoorQg6
set_option maxHeartbeats 3200000
set_option maxRecDepth 100000
set_option linter.all false
open Go.Proofs
open Bool renaming true->aE,false->aL
open Option renaming some->aM,none->VM
open List renaming length->WS
open Decidable renaming decide->JW
open Go.Value renaming int->O,string->ab,pointer->ae,agg->ah,tuple->ai,bool->aj
open Go.IntKind renaming i64->U,wrap->ar
open Go.Ending renaming returned->ak
open _root_.ByteArray renaming mk->ao
open _root_.Go.Proofs.Tryz renaming prog->aq
open Go.Instr renaming buildSlice->au
open Go renaming World->av,Value->aw,Calls->az
open Go.Kt renaming Only->ay,SliceF->aA,Cells->aB,OnlyP->aD,Blk->aF
namespace Con
open Go Go.RowKit Go.Kt Go.Kt.V Vc
def aBO{c}(a:(pc c).1=0):(jd c).2=0/\Snd c (cQ c) (Io c):=by
 rw[pc]at a;by_cases h:(jd c).2≠0
 .grind
 rw[Q h]at a;let h:=AM.1 h;exact⟨h,cpy (CZ h)<|F1 (F4 c) a⟩
def ach{c}(h:(pc c).1=0):pc c=(0,0):=by
 unfold pc at h⊢;by_cases p:(jd c).2≠0
 .grind
 rw[Q p]at h⊢;rw[F1 (F4 c) h];rfl
def Snd.auy{c}{xs}{vs}(N:Snd c xs vs){a:Nat}{y}{m}(f:(CM c.root)[a]? =aM y)(h:m∈y.b.mv):∀s∈m.tg,nf xs s=gr xs s/\∃k:Nat,gr xs s=k/\1<=k/\k<WS xs:=by
 let⟨j,g,_,_,p,q,_⟩:=N.nice _ _ f;let o:=by
  have:=p m h;let⟨_,this⟩:=dD.1 this;let⟨_,this⟩:=dD.1 this;let⟨_,this⟩:=dD.1 this;exact wc.1 this
 let d:=λs b=>by
  rw[qH]at q;by_cases a:fh y.b.k=aE
  .rw[E a]at q;simp only[aO]at q;have:=mY.1 (S q.2.2).2.2.2.1;rw[this]at h;cases h
  rw[Q a]at q;simp only[aO]at q;have:=gv.1 q.2.2 m h;rw[nq]at this;simp only[aO]at this;exact BD<|gv.1 this.1.2 s b
 intro s b;have:=KJ o s b;rcases jf xs s with⟨e,_⟩|⟨k,l,e,u,_⟩
 .omega
 exact⟨by unfold nf;rw[Q (d s b)],k,e,X,fG u⟩
mutual
def py:∀(x y:Nd),y∈CM x->yK y.b<=ml x
 |.mk b l,y,h=>by
  rw[CM]at h;rw[ml];rcases ba.1 h with rfl|h
  .show yK b<=_;omega
  have:=pA l y h;omega
def pA:∀(l:J Nd) (y:Nd),y∈DE l->yK y.b<=jF l
 |[],y,h=>by rw[DE]at h;cases h
 |x::l,y,h=>by
  rw[DE,cZ]at h;rw[jF];rcases h with h|h
  .have:=py x y h;omega
  have:=pA l y h;omega
end
def ag1 xs {y} {ns} {a} (h:ns[a]? =aM y):WS (HB xs 0<|ns.take a)+WS y.b.mv<=WS (HB xs 0 ns):=by
 let e:ns.take (a+1)=ns.take a++[y]:=by rw[aX,h];rfl
 have:=bn List.length<|BW xs (ns.take<|a+1) (ns.drop<|a+1) 0;rw[eS,aU,e,BW,aU,HB,HB,bq,yN]at this;omega
def ack xs {y} {n:J Nd} {a} (h:n[a]? =aM y):HB xs 0 (n.take<|a+1)=HB xs 0 (n.take a)++LW xs a 0 y.b.mv:=by
 let e:n.take (a+1)=n.take a++[y]:=by rw[aX,h];rfl
 let l:WS (n.take a)=a:=by
  grind
 rw[e,BW,HB,HB,bq,l,bS]
def PlQ(w:av)(B:Nat)(b:Prop)(s i sd sr:Sl)(c:Ch):Prop:=(b->PlR w (λk=>B<=k) s i sd sr (gY c))/\(¬b->s=Sl.nil/\i=Sl.nil/\sd=Sl.nil/\sr=Sl.nil)
def amr{w:av}{F:aJ}{D:Nat}{c:Ch}{H:Sl}{J:aI}(hx:ChR aL (D+1) w F c H J)(V:Jd c)(m:oQ c.vars+ml c.root<=1048576):
  az aq 6 #[ah (H.v::J).toArray] w λe M=>(∃s L sd sr:Sl,e=(ai #[ah #[s,L,sd,sr],ah #[O U (pc c).1,O U (pc c).2]])/\PlQ M w.heap.size ((pc c).1=0) s L sd sr c)/\ay [] w M:=by
 let⟨i,l,mv,kids,W,_⟩:=hx.root;subst W;refine jK<|aqz ?_;intro Y k1 k2 w0 fH dC kZ jl yq uu A;have z0:=A.size;have keep:∀{u:av},ay [] w u->ChR aL (D+1) u F c H (uY c.root.b.k c.root.b.nm c.root.b.ini c.root.b.dft i l mv kids c.root.b.a):=λj=>⟨hx.vars.keep fI Z λk _ b=>j.block k b N,(cq aL _).keep hx.root λk _ b=>j.block k b N⟩
 refine(ace (keep A) V m).mono ?_;rintro _ w1 ⟨rfl,C⟩;have z1:=C.size;have K:=A.bG C;refine⟨_,_,I,C.same o,λhc k3 w2 P wz R n1 n2 n3 n4 n5 n6=>?_,λhc k3 p P wz r=>?_⟩
 .have hc:(pc c).1≠0:=WH
  refine⟨λk=>k=k3,I,λh=>n5 h,λh=>n6 h,λp r=>⟨⟨Sl.nil,Sl.nil,Sl.nil,Sl.nil,I,λh=>absurd h hc,λ_=>⟨I,I,I,I⟩⟩,(K.bG R).trans r λx hx=>.inr Nk⟩⟩
 have hc:(pc c).1=0:=WH
 let⟨hp,co⟩:=aBO hc;have gE:=C0 hp;have z3:=r.size;have o3:=K.bG r;refine(kC (keep o3) gE).mono ?_;rintro _ w4 ⟨⟨x2,rfl,L9⟩,dB⟩;have z4:=dB.size;have o4:=o3.bG dB;have gG:pq aL (D+1) w4 (λk=>k<w.heap.size) c.root (uY c.root.b.k c.root.b.nm c.root.b.ini c.root.b.dft i l mv kids c.root.b.a):=
  (cq aL _).keep ((cq aL _).mono ((cq aL _).inHeap hx.root) λk hk=>hk.2) λk _ b=>o4.block k b N
 have Jb:(2:Nat)*iI c.root<=128:=X
 refine⟨x2,I,dB.same o,(OU (D+1) (B:=w4.heap.size) (s:=Sl.nil) (ns:=[]) gG (λk hk=>X) (E7 ..) (bc _) Te).mono ?_⟩;rintro _ w5 ⟨x3,rfl,aT,fd⟩;rw[cJ]at aT;have dV:ay [] w4 w5:=fd.1.only λk hk=>by cases hk
 have z5:=dV.size;have o5:=o4.bG dV;refine⟨x3,I,dV.same o,λk4 w6 rr yu dr=>?_⟩;have z6:=dr.size;have o6:=o5.bG dr;have fj:WS (cQ c)=iI c.root:=by unfold cQ;rw[lZ]
 have E4:WS (CM c.root)=iI c.root:=BE _;have bJ:∀{a:Nat} {y:Nd} {am:Mv},(CM c.root)[a]? =aM y->am∈y.b.mv->∀s∈am.tg,nf (cQ c) s=gr (cQ c) s/\∃k:Nat,gr (cQ c) s=k/\1<=k/\k<WS (cQ c):=λh hm=>co.auy h hm;have gT:=py c.root;have cC:kb (cQ c) 0=1:=by
  let⟨s,m,hk⟩:=co.sd.rt;exact(fz m).trans hk
 have gO:=QX (cQ c) c.root 0;have eQ:=co.fo;have el:gY c=⟨cQ c,(CM c.root).map λy=>nf (cQ c) y.b.ini,(CM c.root).map λy=>nf (cQ c) y.b.dft,HB (cQ c) 0<|CM c.root⟩:=by
  unfold gY;rw[Zg,<-N2,gV,gV];rfl
 rw[<-Zg]at gO;have dO:aA nS 5 w6 (λk=>k<k4/\p.heap.size<=k) x2 (cQ c):=ZH cH Z (YE cH (PY cH (ZH cH Z (PY cH L9.sl' Z) dV N) Z) λk hk=>⟨PW,by have:=hk.1.1;omega⟩) dr N;have cc:aA rNX 9 w6 (λk=>k<k4) x3 (CM c.root):=ZH Ar Z (YE Ar (PY Ar (aT.slice Ar) Z) λk hk=>PW) dr N;clear aT L9;generalize ip:cQ c=xs at*
 generalize g8:CM c.root=ns at*
 have ce:∀k,¬Q3 Sl.nil Sl.nil Sl.nil k:=λk hk=>by rcases hk with hk|hk|hk<;>cases hk
 have R0:Lb w6 k4 (λk=>k<k4/\p.heap.size<=k) x2 Sl.nil Sl.nil Sl.nil xs [] [] []:=⟨dO,λk hk=>⟨X,X,ce k⟩,E7 ..,E7 ..,E7 ..,λk h=>VI,λk h=>VI⟩
 have bv:∀n,ri (nf xs n):=λn=>by
  rcases eC xs n with h|⟨c,h,a⟩
  .rw[h];exact⟨Z,Z⟩
  rw[h];exact⟨X,X⟩
 have bY:∀{u:av},aD (λk=>k=k4) w6 u->∀{a:Nat} {y:Nd},ns[a]? =aM y->∃ad i l mv kids,ci x3 (a:Int) 9 ad/\aB u ad (uY y.b.k y.b.nm y.b.ini y.b.dft i l mv kids y.b.a)/\aA (Nq aL) 13 u (λk=>k<k4) mv y.b.mv:=fun{u} j {a y} hy=>by
  have h:=Zz Ar Z cc j λk hk _ hm=>X
  have:=h.len;let⟨ad,t,s,f,c,n,q,g,e⟩:=h.get (i:=(a:Int)) (bf a) (by have:=(aZ.1 hy).1;omega);rw[aV,hy]at c;injection c with c;subst c;let⟨d,e⟩:=e;cases d with
  |zero=>exact e.elim
  |succ d=>
   let⟨k,v⟩:=y;obtain⟨i,l,mv,kids,rfl,⟨_,_,a⟩,_⟩:=e;exact⟨ad,i,l,mv,kids,f,g,a.1⟩
 refine⟨λkv bV q0 q1 q2 q3 u=>∃a:Nat,bV=(a:Int)/\kv+a=WS ns/\a<=WS ns/\x2=q0/\Lb u k4 (λk=>k<k4/\p.heap.size<=k) x2 q1 q2 q3 xs ((ns.take a).map λy=>nf xs y.b.ini) ((ns.take a).map λy=>nf xs y.b.dft) (HB xs 0<|ns.take a)/\aD (λk=>k=k4) w6 u/\∀k,Q3 q1 q2 q3 k->w6.heap.size<=k,WS ns,⟨0,I,X,bE _,I,by rw[cr,HB];exact R0,V8 _ _,λk hk=>absurd hk<|ce k⟩,?_⟩;rintro kv _ _ q1 q2 q3 w7 ⟨a,rfl,me,ha,rfl,B5,m7,aC⟩;have z7:=m7.size;have g9:x3.n=WS ns:=cc.len;refine⟨λaS=>?_,λaS=>?_⟩
 .have aS:=S aS;obtain⟨y,hy⟩:∃y,ns[a]? =aM y:=⟨_,aR<|show a<(WS ns) by omega⟩
  let⟨ad,wA,wC,rT,ji,d,n,B⟩:=bY m7 hy;have R4:a<WS xs:=X
  have iD:=ag1 xs hy;have Dk:=B.len;have nj:∀f:Nd->Int,(ns.take<|a+1).map f=(ns.take a).map f++[f y]:=λf=>by rw[aX,hy,cK];rfl
  refine⟨λv u=>v=nf xs y.b.ini/\w7=u,?_,ad,d,_,n.dv 2 _ I,λc=>⟨ad,d,_,n.dv 2 _ I,(wv B5.sp y.b.ini).mono ?_⟩,λc=>⟨?_,I⟩⟩
  .rintro _ _ ⟨rfl,rfl⟩;refine⟨λv u=>v=nf xs y.b.dft/\w7=u,?_,ad,d,_,n.dv 3 _ I,λc=>⟨ad,d,_,n.dv 3 _ I,(wv B5.sp y.b.dft).mono ?_⟩,λc=>⟨?_,I⟩⟩
   .rintro _ _ ⟨rfl,rfl⟩;have lT:k4<w7.heap.size:=X
    have PT:WS ((ns.take a).map λy=>nf xs y.b.ini)=a:=by rw[bP,dj];omega
    have mt:WS ((ns.take a).map λy=>nf xs y.b.dft)=a:=by rw[bP,dj];omega
    let⟨y1,w8,p1,p2,s1,w9,p3,p4,p5,p6⟩:=B5.ag7 (bv y.b.ini) lT (by rw[PT];omega);have z8:=p2.size;have z9:=p4.size;have sm:∀{u v:av} {iS:aJ},w6.heap.size<=u.heap.size->aD iS u v->(∀k,iS k->w6.heap.size<=k)->bX [Y,k1,k2,k3,k4] u v:=fun{u v iS} hz j hP=>j.same λx hx=>by
     simp only[ba,cy,fQ]at hx;exact⟨X,λh=>by have:=hP x h;omega⟩
    refine⟨y1,w8,p1,p2.same o,s1,w9,p3,sm X p4 λk hk=>aC k<|.inl hk,λdh dy=>?_⟩;have ld:=p6 dh dy;have Ja:=dy.size;have mK:aD (λk=>k=k4) w6 dh:=(m7.trans (p2.ph p4) λk hk=>.inr<|aC k<|.inl hk).trans (dy.p (F:=λk=>k=k4) N) λk hk=>.inl hk;have n8:∀k,iJ s1 k->w6.heap.size<=k:=λk hk=>(p5 k hk).elim (λh=>aC k<|.inl h) λh=>X
    let⟨y2,dE,r1,r2,s2,ey,r3,r4,r5,r6⟩:=ld.ag8 (bv y.b.dft) X (by rw[mt];omega);have Hi:=r2.size;have pP:=r4.size;refine⟨y2,dE,r1,r2.same o,s2,ey,r3,sm X r4 λk hk=>aC k<|.inr<|.inl hk,λff dL=>?_⟩;have lE:=r6 ff dL;have Yl:=dL.size;have nO:aD (λk=>k=k4) w6 ff:=(mK.trans (r2.ph r4) λk hk=>.inr<|aC k<|.inr<|.inl hk).trans (dL.p (F:=λk=>k=k4) N) λk hk=>.inl hk;have oF:∀k,iJ s2 k->w6.heap.size<=k:=λk hk=>(r5 k hk).elim (λh=>aC k<|.inr<|.inl h) λh=>X
    refine⟨λrM bV p0 p1 p2 p3 u=>∃f:Nat,bV=(f:Int)/\rM+f=WS y.b.mv/\f<=WS y.b.mv/\x2=p0/\s1=p1/\s2=p2/\Lb u k4 (λk=>k<k4/\p.heap.size<=k) x2 s1 s2 p3 xs (((ns.take a).map λy=>nf xs y.b.ini)++[nf xs y.b.ini]) (((ns.take a).map λy=>nf xs y.b.dft)++[nf xs y.b.dft]) (HB xs 0 (ns.take a)++LW xs a 0 (y.b.mv.take f))/\aD (λk=>k=k4) w6 u/\∀k,iJ p3 k->w6.heap.size<=k,WS y.b.mv,⟨0,I,X,bE _,I,I,I,by rw[cr,LW,bq];exact lE,nO,λk hk=>aC k<|.inr<|.inr hk⟩,?_⟩;rintro rM _ _ _ _ q fS ⟨f,rfl,Ea,hj,rfl,rfl,rfl,G8,iF,iN⟩;have Ym:=iF.size;let⟨zT,oR,pi,pm,oN,b1,b5,pE⟩:=bY iF hy;obtain rfl:=ci.OW d b1;have uq:=pE.len;refine⟨ad,b1,_,b5.dv 6 _ I,λpf=>?_,λpf=>?_⟩
    .have pf:=S pf;let⟨vJ,am,ds,d1,d2,d3,d4,d5,d6⟩:=pE.get (bf f) X;rw[aV]at d2;obtain⟨gc,uv,tg,rfl,wd,AI,ob⟩:=d6;obtain⟨sl,rfl⟩:=fK wd;have ob:=ob.1;have B1:=ob.len;have rx:=be d2;have As:He am<=Ai y.b.mv:=oP rx;have By:=gT y<|be hy;have Bv:=wh am.tg;have AC:Ai y.b.mv<=yK y.b:=by unfold yK;omega
     have tO:=bJ hy rx;unfold He at As;refine⟨ad,b1,_,b5.dv 6 _ I,vJ,d1,_,_,_,_,_,_,_,_,sl,_,uv,tg,_,d5,λk5 k6 q tA Az AT gz ik=>have BV:=ik.size;⟨λVF bV v0 v1 v2 ev wt uP qj u=>∃t:Nat,bV=(t:Int)/\v0=(a:Int)/\v1=(f:Int)/\v2=am.k/\ev=T am.ev/\wt=am.wt/\qj=0/\VF+t=WS am.tg/\t<=WS am.tg/\dc q.heap.size u uP ((am.tg.take t).map<|nf xs)/\ay [] fS u/\q.heap.size<=u.heap.size,WS am.tg,⟨0,I,I,I,I,I,I,I,X,bE _,E7 ..,ik,bc _⟩,?_⟩⟩;rintro VF _ _ _ _ _ _ uP _ iA ⟨t,rfl,rfl,rfl,rfl,rfl,rfl,rfl,AS,ht,hT,iE,BY⟩;have qk:∀k,iJ uP k->q.heap.size<=k:=λk e=>(hT.blk e).1;have v:=ZH cH Z G8.sp iE N;have ut:WS ((am.tg.take t).map<|nf xs)=t:=by rw[bP,dj];omega
     refine⟨λiH=>?_,λiH=>?_⟩
     .have iH:=S iH;refine λfV a=>⟨λk=>k<q.heap.size,gz,?_⟩
      have Do:=a.size;let⟨Hk,s,CC,e1,z,e3,e4,e5,e6⟩:=(ZH dI Z ob (iE.bG a) N).get (bf t) X;rw[aV]at z;unfold oK at e6;subst e6;refine⟨Hk,e1,_,e5,(wv (ZH cH Z v a N) s).mono ?_⟩;rintro _ u ⟨rfl,hu⟩;obtain rfl:fV=u:=hu.symm;rw[<-(tO s<|be z).1];have y:dc q.heap.size fV uP _:=hT.keep bA λk _ b=>a.block k b N;let⟨y3,iW,c1,g,l2,kf,c3,c4,h,c6⟩:=T9 y X (bv s) (by rw[ut];omega);have DO:=g.size;have EQ:=h.size;have Cc:ay [] fS kf:=(((iE.bG a).bG g).ph (h.mono (G:=λk=>fS.heap.size<=k) λk _ e=>by have:=qk k e;omega)).only λk hk=>hk;refine⟨_,I,Zm _ _,λ_ _ _=>I,y3,iW,c1,g.same o,ZX g,l2,kf,c3,h.same λx hx=>?_,λk hk _=>h.block k X λe=>(by have:=qk k e;omega),λje T=>⟨VF-1,X,t+1,N0,I,I,I,I,I,I,X,X,?_,Cc.trans T λx hx=>.inr H2,by have:=T.size;omega⟩⟩
      .simp only[ba,cy,fQ]at hx;exact⟨X,λe=>by have:=qk _ e;omega⟩
      rw[aX,z,cK];exact c4.keep bA λk hk b=>T.block k b (by have:=hk.resolve_left id;simp;omega)
     have iH:=aQ iH;have G:t=WS am.tg:=X
     subst G;rw[bm (bc _)]at hT ut;refine(amq v eQ X cC R4 (hT.slice bA)<|λz hz=>?_).mono ?_
     .obtain⟨s,m,rfl⟩:=dK.1 hz;let⟨e,k,a,g,h⟩:=tO s m;rw[e,a];exact⟨X,X⟩
     rintro _ ky ⟨rfl,z⟩;have Fd:=z.size;refine⟨_,I,z.same o,λnK ql=>?_⟩;have Fn:=ql.size;have t:ay [] fS nK:=(iE.bG z).trans ql λx hx=>.inr H2;have T:=G8.o0 t;have s:dc q.heap.size nK uP _:=(hT.keep bA λk _ b=>z.block k b N).keep bA λk hk b=>ql.block k b (by have:=hk.resolve_left id;simp;omega);let⟨y4,nL,g1,g2,q',pe,g3,g4,g5,g6⟩:=T.ag9 (x:=Mj xs a f am) (s.slice bA) (s.roC λg hg=>.inr ⟨(s.blk hg).1,hg⟩) (λk hk=>by
      have hk:=hk.resolve_left id;exact⟨X,λe=>by have:=G8.bi k e;omega,λe=>by have:=G8.bd k e;omega,λe=>by have:=G8.br k e;omega⟩) X (by rw[aU,yN,dj];omega)
     have zqF:=g2.size;have Ge:=g4.size;refine⟨y4,nL,g1,g2.same o,q',pe,g3,g4.same λx hx=>?_,λlS rK=>⟨rM-1,X,f+1,N0,X,X,I,I,I,?_,?_,λk hk=>(g5 k hk).elim (iN k) λh=>X⟩⟩
     .simp only[ba,cy,fQ]at hx;refine⟨X,λh=>?_⟩;have a:=iN x h;have e:=G8.br x h;omega
     .have e:y.b.mv.take (f+1)=y.b.mv.take f++[am]:=by rw[aX,d2];rfl
      have h:WS (y.b.mv.take f)=f:=by rw[dj];omega
      rw[e,Gk,h,bS,<-bp];exact g6 lS rK
     exact(iF.trans (t.ph<|g2.ph g4) λk hk=>.inr<|iN k hk).trans (rK.p (F:=λk=>k=k4) N) λk hk=>.inl hk
    have pf:=aQ pf;have e:f=WS y.b.mv:=X
    subst e;rw[bm (bc _)]at G8;refine⟨kv-1,X,a+1,N0,X,X,I,?_,iF,λk hk=>hk.elim (n8 k) λhk=>hk.elim (oF k)<|iN k⟩;rw[nj,nj,ack xs hy];exact G8
   .rintro _ u ⟨rfl,h⟩;obtain rfl:w7=u:=h.symm;rw[jC]at c;refine⟨_,I,Zm _ _,?_,I⟩;unfold nf;rw[Q];simpa using c
   rw[jC]at c;unfold nf;rw[E];simpa using c
  .rintro _ u ⟨rfl,h⟩;obtain rfl:w7=u:=h.symm;rw[jC]at c;refine⟨_,I,Zm _ _,?_,I⟩;unfold nf;rw[Q];simpa using c
  rw[jC]at c;unfold nf;rw[E];simpa using c
 have aS:=aQ aS;have e:a=WS ns:=X
 subst e;rw[bm (bc _)]at B5;refine λc f=>⟨⟨x2,q1,q2,q3,by rw[ach hc],λ_=>?_,λh=>absurd hc h⟩,?_⟩
 .rw[el];refine⟨(B5.sp.keep cH Z λk hk b=>f.block k b o).mono cH λk hk=>X,((B5.i.slice bA).keep bA Z λk hk b=>f.block k b ?_).mono bA λk hk=>?_,((B5.d.slice bA).keep bA Z λk hk b=>f.block k b ?_).mono bA λk hk=>?_,((B5.r.slice gu).keep gu Z λk hk b=>f.block k b ?_).mono gu λk hk=>?_⟩
  .have:=hk.resolve_left id;simp;omega
  .have:=hk.resolve_left id;omega
  .have:=hk.resolve_left id;simp;omega
  .have:=hk.resolve_left id;omega
  .rcases hk with hk|hk
   .have:=hk.1;simp;omega
   simp;omega
  rcases hk with hk|hk
  .have:=hk.1;omega
  omega
 refine((o6.ph<|m7.mono (G:=λk=>w.heap.size<=k) λk _ hk=>X).only λk hk=>hk).trans f λx hx=>.inr Nk
def tm{w}{F G}{a0 a1 a2 a3 b0 b1 b2 b3}{p}(h:PlR w F a0 a1 a2 a3 p)(g:PlR w G b0 b1 b2 b3 p)(m:WS p.sp<=1000000):
  az aq 16 #[ah #[a0,a1,a2,a3],ah #[b0,b1,b2,b3]] w λe k=>e=aj aE/\ay [] w k:=by
 refine ret<|aqD ?_;intro s t u H C Z r b;refine(abM (h.o0 b).sp (g.o0 b).sp m).mono ?_;rintro _ v ⟨rfl,a⟩;have:=a.size;let f:=b.bG a;refine⟨_,I,a.same o,(nT (h.o0 f).ini (g.o0 f).ini).mono ?_⟩;rintro _ y ⟨rfl,d⟩;have:=d.size;let i:=f.bG d;refine⟨_,I,d.same o,(nT (h.o0 i).dft (g.o0 i).dft).mono ?_⟩;rintro _ l ⟨rfl,N⟩;have:=N.size;have:=h.ro.len;have:=h.ro.big;have:=h.ro.cap;refine⟨_,I,N.same o,λc=>?_,λ_=>?_⟩
 .rw[h.ro.len,g.ro.len]at c;simp at c
 refine⟨λJ am P=>∃e:Nat,am=e/\J+e=WS p.ro/\e<=WS p.ro/\ay [] w P/\l.heap.size<=P.heap.size,WS p.ro,⟨0,I,X,X,i.bG N,X⟩,?_⟩;rintro J _ w4 ⟨e,rfl,me,hj,D,z4⟩;refine⟨λc=>?_,λ_=>⟨I,D⟩⟩;have c:=S c;obtain⟨x,G⟩:∃x,p.ro[e]? =aM x:=⟨_,aR<|show e<(WS p.ro) by omega⟩
 let⟨ad,tg,Q,R,T⟩:=BF (h.o0 D).ro G;let⟨zT,_,L,_,_⟩:=BF (g.o0 D).ro G;refine⟨ad,Q,_,_,_,_,_,tg,_,R,zT,L,λk4 w5 rr yu V=>?_⟩;let M:=D.bG V;let⟨vJ,K,W,Y,e3⟩:=BF (g.o0 M).ro G;obtain rfl:=ci.OW L W;refine⟨_,_,_,_,_,K,_,Y,λk5 w6 tA Az E=>(nT (kI (kI T V) E)<|kI e3 E).mono ?_⟩;rintro _ w7 ⟨rfl,F⟩;have:=F.size;refine⟨_,I,F.same o,λc=>?_,λ_=>⟨J-1,X,e+1,N0,X,X,(M.bG E).bG F,X⟩⟩;simp at c
def GX{c:Ch}(h:Jd c):pc c=kU c:=by unfold pc kU;rw[acV h]
def T4{v:Type}{r:Rp v}{a bytes:Nat}{t e:TypeId}{i:TypeInfo}{z:aw}(u:Tryz.prog.underlying t=aM (.slice e))(p:Tryz.prog.info? e=aM i)(K:i.zero=aM z)(R:i.size=a)(O:i.bytes=bytes)(H:z.cells.size=a)(f:r.Ok)(B:0<bytes)(E:0<a)
  {w:av} {F:h} {s:Sl} {n:J v} (A:aA r a w F s n) (D:WS n*bytes<=140737488355328) (l:J Nat) (m:∀k∈l,k<w):
  ∃y b,(au t 0 #[]).run aq w=.ok (Sl.v y) b/\bX l w b/\∃j c,(Builtin.append_ #[t,t] t #[Sl.v y,Sl.v s]).run aq b=.ok (Sl.v j) c/\bX l b c/\Own r a e w c (λk=>F k/\k<w) j n/\ay [] w c:=by
 let⟨y,b,x,o,d⟩:=hdT (P:=aq) u p r a w<|λk=>F k/\k<w;have S:=d.size;have I:=YE f (WJ f (PY f A E) E λk hk U=>d.block k hk.2 N) (G:=λk=>(F k/\k<w)/\y.a≠aM ⟨k,0,VM⟩) λk hk=>⟨hk,λe=>by have:=(o.blk e).1;have:=hk.2;dsimp only at*;omega⟩
 let⟨j,c,L,M,T,k3,Q,_⟩:=rA (P:=aq) (ty:=t) u p K R O H f o I S (by rw[ck,bS];exact D) B;have q:aD (λk=>w<=k) b c:=k3.p λg C=>.inl (Q g C).2.1;exact⟨y,b,x,d.same λk hk=>⟨m k hk,N⟩,j,c,L,q.same λk hk=>⟨by have:=m k hk;omega,by have:=m k hk;omega⟩,M,(d.ph q).only λk hk=>hk⟩
def ams:Rp Sl:=λ_ _ s c=>c=[s.v]
def EW:ams.Ok where
 keep h _:=h
 inHeap h:=h
 mono h _:=h
 one h v hv:=by
  rw[show _=[Sl.v _]from h]at hv;simp only[bh]at hv;subst hv;rfl
def amt(c:Ch):∀r,r∈(gY c).ro->r.src<(gY c).sp.length:=λr h=>by
 have:=(agQ (xs:=cQ c) h).2;have:(gY c).sp.length=iI c.root:=by
  show(cQ c).length=_;unfold cQ;rw[lZ]
 omega
def amu{c:Ch}(l:(kU c).1=0):∀r,r∈(gY c).ro->r.dom<(gY c).sp.length:=λr h=>by
 have N:=QZ l;have:=amt c r h;rcases N.GZ (Mn _) rfl h with⟨_,e⟩|⟨_,_,a,d,_,_,e,_,⟨t,b,_⟩,_⟩
 .rw[e];omega
 rw[e];have:=fG b;show(d:Int)<(WS (cQ c):Int);omega
section
mutual
def RY{b:Nb}:∀{x:Nd},b∈CJ x->yK b<=ml x
 |.mk b l,h=>by
  rw[CJ]at h;rw[ml];rcases ba.1 h with rfl|h
  .omega
  have:=pF h;omega
def pF{b:Nb}:∀{l:J Nd},b∈EF l->yK b<=jF l
 |x::l,h=>by
  rw[EF]at h;rw[jF];rcases cZ.1 h with h|h
  .have:=RY h;omega
  have:=pF h;omega
end
def auj{c:Ch}{r:Ro}(h:r∈(gY c).ro):WS r.tg<=ml c.root:=by
 obtain⟨n,b,j,m,a,d,rfl⟩:=EI h;have e:=RY<|be a;have f:=oP d;have:=wh m.tg;unfold yK at e;unfold He at f;show(m.tg.map _).length<=_
 grind
section
variable{c:Ch}(N:Snd c (cQ c) (Io c)){L:J (Int×J Int)}
include N
theorem acn{M:EH}(b:sU (cQ c) M)(t:Int):∀g,g∈eX (cQ c) (gY c).dft M t->qW (cQ c) g:=λg h=>by
 by_cases a:t<0∨(WS (cQ c):Int)<=t
 .rw[eX,E a]at h;cases h
 obtain⟨n,rfl⟩:∃n:Nat,t=n:=⟨t.toNat,X⟩
 let⟨x,d⟩:=eW (xs:=cQ c) (i:=n) X;obtain⟨k,rfl,⟨e,u,_⟩,_⟩:=(N.acD b I d).2.2 g h;have:=fG u;exact⟨X,X⟩
theorem qa{u:av}{F:h}{l:Sl}(f:PaX (cQ c) u F l L):Gdx (gY c) L where
 g:=eb N f.ok
 n:=rR f.srt
 len:=f.ahg
 gl n t b h2 hr g hg:=by
  let⟨q,e⟩:=gj _ hr;obtain⟨m,u,rfl,i,p,_⟩:=mF.1 e;let⟨j,a,hk⟩:=N.hk n m ⟨u,i,p⟩;let b:(cQ c)[n]? =aM t:=b;rw[b,bN]at a;subst a;let⟨G,H⟩:=J5 N f.ok n t b X hr;let d:=H g hg;obtain⟨k,rfl⟩:∃k:Nat,g=k:=⟨g.toNat,by have:=d.1;omega⟩
  exact⟨k,I,(G.bl k hg).1⟩
 ro r hr hd t b g hg:=by
  rcases N.GZ f.ok rfl hr with⟨_,e⟩|⟨_,_,a,d,_,_,e,_,_,G,H⟩
  .omega
  have a:=H t b g hg;obtain⟨k,rfl⟩:∃k:Nat,g=k:=⟨g.toNat,by have:=a.1;omega⟩
  rw[e];exact⟨k,I,(G.bl k ⟨t,b,hg⟩).1⟩
end
def ag2(c:Ch)(u:av):PaX (cQ c) u (λ_=>False) Sl.nil []:=⟨WB ..,List.Pairwise.nil,λ_ h=>VI,Mn _,R⟩
def ptells_c{w:av}{x:Ch×Nat}{a:aI}{i st H:Sl}{j:J (Int×J Int×Unit)}{l f:J Int}(m:rChU w (λ_=>True) x a)(S:aA GL 2 w (λ_=>True) i j)(V:∀x∈j,WS x.2.1<=1048576)(k E:Int)(T:aA rInt 1 w (λ_=>True) st l)(P:aA rInt 1 w (λ_=>True) H f)(Q:x.2+WS l+WS f<=1048576)(K:Er w)(L:Tb w):
  az aq 3 #[ah a,i.v,k,E,st.v,H.v] w λe p=>e=aj aE/\ay [] w p:=by
 obtain⟨c,Y⟩:=x;obtain⟨u,M,a,rfl,C,n,d⟩:=m;dsimp only at C n d Q;have B:=C;cases u with
 |zero=>exact C.root.elim
 |succ u=>
 obtain⟨en,lv,mv,kids,rfl,_⟩:=B.root;refine ret<|azX ?_;have keep:∀{p:av},ay [] w p->ChR aL (u+1) p (λ_=>True) c M (uY c.root.b.k c.root.b.nm c.root.b.ini c.root.b.dft en lv mv kids c.root.b.a):=λhO=>⟨C.vars.keep fI Z λk _ bJ=>hO.block k bJ N,(cq aL _).keep C.root λk _ bJ=>hO.block k bJ N⟩
 intro k0 w0 fH dC bT;have z0:=bT.size;refine(ahV w0 (K.only bT)<|L.only bT).mono ?_;rintro _ w1 ⟨rfl,bU⟩;have z1:=bU.size;have o1:=bT.bG bU;refine⟨aE,I,bU.same o,(eD (keep o1) n X (K.only o1)<|L.only o1).mono ?_⟩;rintro _ w2 ⟨⟨s,si,ny,sr,rfl,hP⟩,cF⟩;have z2:=cF.size;refine⟨s,si,ny,sr,_,_,I,cF.same o,λk1 k2 w3 kZ jl yq uu cN=>have z3:=cN.size;have o3:=(o1.bG cF).bG cN;(amr (keep o3) n X).mono ?_⟩;rintro _ w4 ⟨⟨t0,t1,t2,t3,rfl,hr⟩,dB⟩;have z4:=dB.size;have o4:=o3.bG dB;refine⟨t0,t1,t2,t3,_,_,I,dB.same o,λk3 k4 w5 AH wz rr yu dV=>⟨λhc=>⟨?_,o4.bG dV⟩,λhc=>?_⟩⟩
 .rw[GX n];simp
 rw[eH]at hc;have hl:(kU c).1=0:=by rw[<-GX n];simpa using hc.2
 have z5:=dV.size;have o5:=o4.bG dV;have XJ:=(((hP hl).o0<|cN.bG dB).o0 dV).Da;have am:=((hr.1<|by rw[GX n];exact hl).o0 dV).Da;have aC:=QZ hl;have sd:=aC.sd;have lG:WS (cQ c)<=64:=aC.le;obtain⟨s0,EX,_⟩:=sd.rt;have hW:1<=W (cQ c) ((0:Nat):Int):=sd.Vd EX;have hW:1<=W (cQ c) 0:=hW;have bV:(gY c).ro.length<=ml c.root:=QX (cQ c) c.root 0;refine(ajO (c:=c) aC XJ am.sp S o5 V).mono ?_;rintro _ w6 ⟨⟨l8,aS,rfl,hL⟩,dr⟩;have z6:=dr.size;have o6:=o5.bG dr;have D0:=qa aC hL;have D1:=qa aC<|ag2 c w;refine⟨l8,aE,I,dr.same o,R,λ_=>(amp (XJ.o0 dr) ⟨fG EX,lG⟩ D0.g.i D0.g.d X<|λr hr=>?_).mono ?_⟩
 .have:=auj hr;omega
 rintro _ w7 ⟨⟨l9,nO,qh,rn,rfl,hQ⟩,fu⟩;have z7:=fu.size;refine⟨l9,nO,qh,rn,I,fu.same o,λk5 w8 tA Az fD=>have z8:=fD.size;have n8:=(dr.bG fu).bG fD;⟨λq=>q<w8,(by omega:k3<w8),(GU (xs:=cQ c) (am.o0 n8).sp sd).mono ?_⟩⟩;rintro _ w9 ⟨rfl,fx⟩;have z9:=fx.size;have oF:=n8.bG fx;have BY:∀q,q∈[k0,k1,k2,k3,k4,k5]->q<w8:=o
 refine⟨_,I,fx.same R,ZX fx,X,(yb (am.o0 oF).sp sd k).mono ?_⟩;rintro _ dh ⟨⟨sa,act,rfl,rx,Gt,R4⟩,dy⟩;have Ja:=dy.size;have fd:=oF.bG dy;have jc:∀q,q∈[k0,k1,k2,k3,k4,k5]->q<dh:=R
 have AI:=PY bA (rx.slice bA) Z;have mK:=PY bA T Z;have mt:=PY bA P Z;have dO:=o5.bG fd;obtain⟨y1,dE,a1,a2,m1,ey,a3,a4,a5,a6⟩:=T4 (t:=31) (e:=3) (i:=Tryz.t3) (z:=O U 0) (bytes:=8) D D I I I I bA Z Z AI X [k0,k1,k2,k3,k4,k5] jc;have Cc:=a6.size;obtain⟨y2,ff,b1,b2,m2,fS,b3,b4,b5,b6⟩:=T4 (t:=31) (e:=3) (i:=Tryz.t3) (z:=O U 0) (bytes:=8) D D I I I I bA Z Z (kI mK<|dO.bG a6) X [k0,k1,k2,k3,k4,k5] R;have Ym:=b6.size;obtain⟨y3,gz,c1,c2,m3,iA,c3,c4,c5,c6⟩:=T4 (t:=31) (e:=3) (i:=Tryz.t3) (z:=O U 0) (bytes:=8) D D I I I I bA Z Z (kI mt<|(dO.bG a6).bG b6) X [k0,k1,k2,k3,k4,k5] R;have CC:=c6.size;obtain⟨zx,fV,d1,d2,d3,_⟩:=jP (P:=aq) (t:=49) (e:=31) (i:=Tryz.t31) (z:=Sl.v Sl.nil) (w:=iA) (F:=λ_=>False) (vs:=[m1.v,m2.v,m3.v]) (parts:=#[.mk 0 m1.v,.mk 1 m2.v,.mk 2 m3.v]) (len:=3) (xs:=[m1,m2,m3]) (r:=ams) (size:=1) D D I I Z I I Z Z EW ⟨⟨I,I⟩,⟨I,I⟩,⟨I,I⟩,trivial⟩;have Do:=d3.size;have Jh:=((a6.bG b6).bG c6).bG d3;have g8:=dO.bG Jh;have g9:=fd.bG Jh;have M1:dc dh fV m1 act:=ke (dc.of a5)<|(b6.bG c6).bG d3;have M2:dc ey fV m2 l:=ke (dc.of b5)<|c6.bG d3;have M3:dc fS fV m3 f:=ke (dc.of c5) d3;have r1:∀{g:Nat},m1.a=aM ⟨g,0,VM⟩->dh<=g/\g<ey:=λe=>a5.blk e;have r2:∀{g:Nat},m2.a=aM ⟨g,0,VM⟩->ey<=g/\g<fS:=λe=>b5.blk e;have r3:∀{g:Nat},m3.a=aM ⟨g,0,VM⟩->fS<=g/\g<iA:=λe=>c5.blk e;have hR:aA ams 1 fV (λk=>iA<=k/\k<fV) zx [m1,m2,m3]:=(PY EW (d2.slice EW) Z).mono EW A;have pP:PaX (cQ c) fV _ l8 aS:=(hL.o0<|(fu.bG fD).bG<|fx.bG dy).o0 Jh;have sq:∀{W v:av},ay [] fV W->ay [] W v->bX [k0,k1,k2,k3,k4,k5] W v:=fun{W v} h1 h2=>h2.same λq hq=>⟨by have:=jc q hq;have:=h1.size;omega,N⟩
 have gT:∀{W:av},ay [] fV W->PlR W _ s si ny sr (gY c):=λhO=>(XJ.o0 g9).o0 hO;have pi:∀{W:av},ay [] fV W->PlR W _ t0 t1 t2 t3 (gY c):=λhO=>(am.o0 g9).o0 hO;have qj:∀{W:av},ay [] fV W->aA rInt 1 W _ sa act:=λhO=>kI (kI AI Jh) hO;have k8:∀{W:av},ay [] fV W->aA rInt 1 W _ m1 act:=λhO=>kI (M1.slice bA) hO;have xn:∀{W:av},ay [] fV W->aA rInt 1 W _ st l:=λhO=>kI (kI mK g8) hO;have nv:∀{W:av},ay [] fV W->aA rInt 1 W _ m2 l:=λhO=>kI (M2.slice bA) hO;have me:∀{W:av},ay [] fV W->aA rInt 1 W _ H f:=λhO=>kI (kI mt g8) hO;have nj:∀{W:av},ay [] fV W->aA rInt 1 W _ m3 f:=λhO=>kI (M3.slice bA) hO;have xp:∀{W:av},ay [] fV W->PlR W _ l9 nO qh rn (gY c):=λhO=>(hQ.Da.o0<|(fD.bG<|fx.bG dy).bG Jh).o0 hO;have vw:∀{W:av},ay [] fV W->PaX (cQ c) W _ l8 aS:=λhO=>pP.o0 hO;have R_:∀(eQ:Nat) (x:Sl),[m1,m2,m3][eQ]? =aM x->∃ad,ci zx (eQ:Int) 1 ad/\(ad.block<fV/\iA<=ad.block)/\aB fV ad [x.v]:=λeQ x m=>by
  have bJ:=(aZ.1 m).1;have e:=hR.len;obtain⟨ad,y,a,k,g,q,r,b,c⟩:=hR.get (bf eQ) X;rw[aV,m]at g;injection g with g;subst g;rw[show a=[x.v]from c]at b
  grind
 obtain⟨p0,e0,⟨f0,By⟩,q0⟩:=R_ 0 m1 I;obtain⟨p1,e1,⟨f1,BV⟩,q1⟩:=R_ 1 m2 I;obtain⟨p2,e2,⟨f2,tO⟩,q2⟩:=R_ 2 m3 I;have lT:=λt=>acn aC hL.ok t;have wd:=amu hl;have uP:=hL.ahg;refine⟨sa,aE,I,dy.same R,ZX dy,y1,dE,a1,a2,m1,ey,a3,a4,y2,ff,b1,b2,m2,fS,b3,b4,y3,gz,c1,c2,m3,iA,c3,c4,zx,fV,d1,d3.same R,(sw (vw<|qE _ _).sl (hL.cnt lG) hL.len).mono ?_⟩;rintro _ iW ⟨⟨EZ,rfl,ut⟩,jO⟩;have oN:=jO;refine⟨EZ,I,sq (qE _ _) jO,p0,e0,λkf lH=>⟨m1,q0.keep<|(oN.bG lH).block _ f0 N,have ce:=oN.bG lH;(ags (gT ce) sd.fo (k8 ce) X E).mono ?_⟩⟩;rintro _ je ⟨⟨HH,rfl,iS⟩,iL⟩;have gG:=ce.bG iL;refine⟨HH,I,sq ce iL,p1,e1,λky iU=>⟨m2,q1.keep<|(gG.bG iU).block _ f1 N,have co:=gG.bG iU;have gE:∀{W:av},ay [] iW W->aA vG 2 W _ EZ aS:=λhO=>(ut.o0 hO).slice eM;(agu (gT co) D0.g (gE<|(lH.bG iL).bG iU) (hL.g lG) (nv co) λt _=>lT t).mono ?_⟩⟩;rintro _ nK ⟨⟨PJ,rfl,Yn⟩,ql⟩;have gO:=co.bG ql;refine⟨PJ,I,sq co ql,p2,e2,λnL mV=>⟨m3,q2.keep<|(gO.bG mV).block _ f2 N,have cC:=gO.bG mV;have oR:ay [] iW nL:=(((lH.bG iL).bG iU).bG ql).bG mV;(Oa (gT cC) D0.g (gE oR) (hL.g lG)<|nj cC).mono ?_⟩⟩;rintro _ pe ⟨⟨HI,rfl,ld⟩,vB⟩;have el:=cC.bG vB;refine⟨HI,I,sq cC vB,(Ob (gT el) D1.g).mono ?_⟩;rintro _ lS ⟨⟨L1,rfl,lE⟩,rK⟩;have cc:=el.bG rK;have Gg:=cc.size;refine⟨L1,I,sq el rK,?_⟩;have AC:ay [] iW lS:=(oR.bG vB).bG rK;have ip:∀{W:av},ay [] lS W->dc kf W HH _:=λhO=>ke iS<|(((((iU).bG ql).bG mV).bG vB).bG rK).bG hO;have iD:∀{W:av},ay [] lS W->dc ky W PJ _:=λhO=>ke Yn<|((mV.bG vB).bG rK).bG hO;have iF:∀{W:av},ay [] lS W->dc nL W HI _:=λhO=>ke ld<|rK.bG hO;have iN:∀{W:av},ay [] lS W->dc pe W L1 _:=λhO=>ke lE hO;have AS:∀{g:Nat},HH.a=aM ⟨g,0,VM⟩->kf<=g/\g<je:=λe=>iS.blk e;have Wy:∀{g:Nat},PJ.a=aM ⟨g,0,VM⟩->ky<=g/\g<nK:=λe=>Yn.blk e;have AT:∀{g:Nat},HI.a=aM ⟨g,0,VM⟩->nL<=g/\g<pe:=λe=>ld.blk e;have Bv:∀{g:Nat},L1.a=aM ⟨g,0,VM⟩->pe<=g/\g<lS:=λe=>lE.blk e;have DO:=ce.size;have EQ:=gG.size;have Fd:=co.size;have Fn:=gO.size;have zqF:=cC.size;have Ge:=el.size;have step:∀{W v:av} {pm:h},(∀k,pm k->dh<=k/\(k<iA.heap.size∨fV.heap.size<=k))->aD pm W v->ay [] dh W->fV.heap.size<=W.heap.size->ay [] dh v/\fV.heap.size<=v.heap.size/\bX [k0,k1,k2,k3,k4,k5] W v/\∀q,q<fV.heap.size/\iA.heap.size<=q->v.heap[q]? =W.heap[q]? :=fun{W v pm} d hO tE hz=>⟨(tE.ph<|hO.mono (G:=λq=>dh.heap.size<=q) λq _ bY=>(d q bY).1).only λq bY=>bY,bC hz hO.size,hO.same λq hq=>⟨by have:=jc q hq;omega,λbY=>by have:=jc q hq;have:=d q bY;omega⟩,λq hq=>hO.block q X λbY=>by have:=d q bY;omega⟩
 refine⟨λb W=>b=aE/\ay [] lS W,?_,(tm (gT cc) (xp cc)<|bC lG Z).mono ?_⟩
 .rintro _ e ⟨rfl,c⟩;have q:=cc.bG c;refine⟨λb W=>b=aE/\ay [] lS W,?_,(abU (pi q) sd.fo wd (qj q) X E).mono ?_⟩
  .rintro _ v ⟨rfl,r⟩;have g:=cc.bG r;refine⟨λb W=>b=aE/\ay [] lS W,?_,(ab5 (pi g) D0 (vw g).sl<|me g).mono ?_⟩
   .rintro _ x ⟨rfl,t⟩;have s:=cc.bG t;refine⟨λb W=>b=aE/\ay [] dh W,?_,p0,e0,m1,q0.keep<|s.block _ f0 N,(th (ip t).Lz (ke M1 s).Lz R).mono ?_⟩
    .rintro _ F ⟨rfl,k⟩;have z:=k.size;refine⟨λb W=>b=aE/\ay [] w W,R,λ_=>(tm (XJ.o0<|fd.bG k) (hQ.Da.o0<|(fD.bG<|fx.bG dy).bG k)<|bC lG Z).mono ?_,R⟩;rintro _ G ⟨rfl,y⟩;exact⟨_,I,y.same R,I,(dO.bG k).bG y⟩
    rintro _ Vl ⟨rfl,G,_,_,b⟩;obtain⟨IN,H1,Is,Le⟩:=step R G (Jh.bG s) s.size;refine⟨_,I,Is,λ_=>⟨p1,e1,m2,(q1.keep<|s.block _ f1 N).keep R,(th ((iD t).Lz.kp b) ((ke M2 s).Lz.kp b) R).mono ?_⟩,R⟩;rintro _ Xh ⟨rfl,GG,_,_,y⟩;obtain⟨zqI,Id,ID,GT⟩:=step R GG IN H1;refine⟨_,I,ID,λ_=>⟨p2,e2,m3,((q2.keep<|s.block _ f2 N).keep R).keep<|GT _ ⟨f2,tO⟩,(th (((iF t).Lz.kp b).kp y) (((ke M3 s).Lz.kp b).kp y) R).mono ?_⟩,R⟩;rintro _ LE ⟨rfl,GE,F,_,z⟩;obtain⟨IS,If,IF,_⟩:=step (λk bY=>bY.elim R R) GE zqI Id;refine⟨_,I,IF,λ_=>(th ((((iN t).Lz.kp b).kp y).kp z) F R).mono ?_,R⟩;rintro _ LT ⟨rfl,GO,_⟩;obtain⟨MK,_,Lt,_⟩:=step (λk bY=>bY.elim R R) GO IS If
    grind
   rintro _ Nm ⟨⟨Vo,rfl,z⟩,b⟩;have t:=g.bG b;refine⟨Vo,I,sq g b,(nT ((iF<|r.bG b).slice bA)<|z.slice bA).mono ?_⟩;rintro _ No ⟨rfl,F⟩;have y:=t.bG F;refine⟨_,I,sq t F,λ_=>(ab6 (pi y) D1).mono ?_,λbY=>absurd bY N⟩;rintro _ NO ⟨⟨Vp,rfl,G⟩,x⟩;have k:=((r.bG b).bG F).bG x;refine⟨Vp,I,sq y x,(nT ((iN k).slice bA)<|G.slice bA).mono ?_⟩;rintro _ Of ⟨rfl,s⟩;exact⟨_,I,sq (cc.bG k) s,N,k.bG s⟩
  rintro _ OF ⟨⟨y,rfl,r⟩,b⟩;have k:=q.bG b;refine⟨y,I,sq q b,(nT ((ip<|c.bG b).slice bA)<|r.slice bA).mono ?_⟩;rintro _ ON ⟨rfl,G⟩;have g:=k.bG G;refine⟨_,I,sq k G,λ_=>(GS (pi g) sd D0.g.d (vw g).sl D0.n uP (xn g) λt _=>lT t).mono ?_,λbY=>absurd bY N⟩;rintro _ vJ ⟨⟨F,rfl,s⟩,x⟩;have v:=((c.bG b).bG G).bG x;refine⟨F,I,sq g x,(nT ((iD v).slice bA)<|s.slice bA).mono ?_⟩;rintro _ OR ⟨rfl,z⟩;exact⟨_,I,sq (cc.bG v) z,N,v.bG z⟩
 rintro _ t ⟨rfl,c⟩;have s:=cc.bG c;refine⟨_,I,sq cc c,λ_=>(BT (gE<|AC.bG c) (vw s).sl).mono ?_,R⟩;rintro _ v ⟨rfl,g⟩;have q:=s.bG g;refine⟨_,I,sq s g,λ_=>⟨p0,e0,m1,q0.keep<|q.block _ f0 N,(nT (k8 q)<|qj q).mono ?_⟩,λbY=>absurd bY N⟩;rintro _ y ⟨rfl,k⟩;have b:=q.bG k;refine⟨_,I,sq q k,λ_=>⟨p1,e1,m2,q1.keep<|b.block _ f1 N,(nT (nv b)<|xn b).mono ?_⟩,λbY=>absurd bY N⟩;rintro _ z ⟨rfl,r⟩;have e:=b.bG r;refine⟨_,I,sq b r,λ_=>⟨p2,e2,m3,q2.keep<|e.block _ f2 N,(nT (nj e)<|me e).mono ?_⟩,λbY=>absurd bY N⟩;rintro _ F ⟨rfl,x⟩;exact⟨_,I,sq e x,N,(((c.bG g).bG k).bG r).bG x⟩
end
end Con
