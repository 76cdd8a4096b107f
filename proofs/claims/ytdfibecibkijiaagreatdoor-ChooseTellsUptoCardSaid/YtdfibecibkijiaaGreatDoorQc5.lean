import Derived.Test.YtdfibecibkijiaaGreatDoorQc4
set_option linter.defProp false
set_option linter.unusedSectionVars false
set_option linter.unusedSimpArgs false
set_option linter.unusedVariables false
set_option maxHeartbeats 4000000
set_option maxRecDepth 100000
open Bool renaming true->aF,false->aM
open Option renaming some->aN,none->Pw
open List renaming length->qj
open Decidable renaming decide->YR
open Go.Value renaming int->O,string->ab,pointer->ae,agg->ah,tuple->ai,bool->aj
open Go.IntKind renaming i64->U,wrap->au
open Go.Ending renaming returned->ak
open _root_.ByteArray renaming mk->ao
open _root_.Go.Proofs.Tryz renaming prog->aq
open Go.Instr renaming buildSlice->av
open Go renaming World->aw,Value->ay,Calls->aA
open Go.Kt renaming Only->az,SliceF->aB,Cells->aD,OnlyP->aE,Blk->aG
open Go renaming World->aw,Value->ay
namespace Go.Proofs.YtdfibecibkijiaaGreatDoor.Con
open Go Go.RowKit Go.Kt Go.Kt.V Go.Proofs.YtdfibecibkijiaaGreatDoor.Vc
section
variable {F:A} {ts:L Tk} {w w' w2:aw} {b:Nat} {l:Sl} {s s':Sx}
structure Cl0 (F:A) (ts:List Tk) (w w':aw) (b:Nat) (l:Sl) (g t:Nat) (lr:aJ) (kh B:Nat) (s:Sx) (n:Nb) (en lv mv:Sl):Prop where
 r:Sr F ts w' b l s
 nb:aG w' g t (lr++qD n.k n.nm n.ini n.dft en lv mv Sl.nil n.a)
 no:NbO B w' n en lv mv
 o:∃gs,az (b::g::kh::gs) w w'/\∀x,x∈gs->B<=x
 ng:g≠b/\¬F g
 nh:b<kh
 gh:g≠kh
 gB:g<B
 hB:kh<B
 lB:B<=w'.heap.size
section
variable {g t:Nat} {lr:aJ} {kh B:Nat} {n:Nb} {h:V6} {en lv mv:Sl}
def Cl.c0(c:Cl F ts w w' b l g t lr kh B s n h en lv mv):Cl0 F ts w w' b l g t lr kh B s n en lv mv:=⟨c.r,c.nb,c.no,c.o,c.ng,c.nh,c.gh,c.gB,c.hB,c.lB⟩
def Cl0.cl(c:Cl0 F ts w w' b l g t lr kh B s n en lv mv)(a:aG w' kh 221 (Ut h)):Cl F ts w w' b l g t lr kh B s n h en lv mv:=⟨c.r,c.nb,a,c.no,c.o,c.ng,c.nh,c.gh,c.gB,c.hB,c.lB⟩
def Cl0.nx(c:Cl0 F ts w w' b l g t lr kh B s n en lv mv)(k:Dn F ts w' w2 b l s'):Cl0 F ts w w2 b l g t lr kh B s' n en lv mv:=by
 have f:=c.ng;have i:=c.nh;have e:=c.hB;obtain⟨a,h,d⟩:=c.o;exact⟨k.r,k.o.blk c.nb S,c.no.go k.o λx hx=>Ua,
  ⟨a,h.trans k.o λx hx=>.inl T5,d⟩,f,c.nh,c.gh,c.gB,c.hB,bB c.lB k.o.size⟩
def Cl0.q(c:Cl0 F ts w w' b l g t lr kh B s n en lv mv)(k:az [] w' w2):Cl0 F ts w w2 b l g t lr kh B s n en lv mv:=c.nx (c.r.dn.q k)
def Cl0.sc(c:Cl0 F ts w w' b l g t lr kh B s n en lv mv)(k:Dn F ts w' w2 b l s'):cj [kh] w' w2:=k.o.same λx h=>by
 have:=c.nh;have:=c.hB;have:=c.lB;simp at h⊢;omega
def Cl0.sq(c:Cl0 F ts w w' b l g t lr kh B s n en lv mv)(k:az [] w' w2):cj [kh] w' w2:=c.sc (c.r.dn.q k)
end
def Vfn n h s:(eK ts n h s).2.1.mv.length<=qj n.mv+1:=by
 unfold eK;split
 .dsimp only;rw[aP,bA];omega
 split
 .exact kB _
 .split<;>exact kB _
 .split<;>exact kB _
 split<;>exact kB _
def RP{f:Nat}(o:Sr F ts w b l s){g t:Nat}{lr:aJ}{n:Nb}(GJ:n.en=[])(Cf:n.lv=[])(oW:n.mv=[])(hB:aG w g t (lr++qD n.k n.nm n.ini n.dft Sl.nil Sl.nil Sl.nil Sl.nil n.a))(hg:g≠b/\¬F g)(hd:qO s.d)(hN:s.fc=0->0<f/\afN F ts b l f (Bw s.d)):
  aA aq 121 #[rp b,ae (aN ⟨g,qj lr,Pw⟩)] w λe w'=>e=ak (ai #[])/\∃z,aG w' g t (lr++z)/\nX aF (f+1) w' (Fr w.heap.size) (uw ts (mO ts f) n s).1 z/\az [b,g] w w'/\Sr F ts w' b l (uw ts (mO ts f) n s).2:=by
 refine ret (anw ?_);intro i w0 fN dS cn;have S:=o.zt.al cn fN dS;have bV:=hB.lt;have bv:=o.lb;refine⟨_,Om S.r.blk 6 I,b,6,_,_,I,S.r.blk,X,S.ne X,λY cr sL=>?_⟩;have W:Zt F ts w Y b l {s with d:=Bw s.d} [i]:=S.up cr sL o.lt;have aT:aG Y g t (lr++qD n.k n.nm n.ini n.dft Sl.nil Sl.nil Sl.nil Sl.nil n.a):=cr.blk (cn.blk hB X) Uf;have V:=W.z.o.size;have zk:=(W.z.k i X).2;generalize am:Y.heap.size=B at*
 have aS:g<B:=J
 have c1:Cl0 F ts w Y b l g t lr i B {s with d:=Bw s.d} n Sl.nil Sl.nil Sl.nil:=⟨W.r,aT,⟨by rw[GJ];exact Nh _ _ _ _ _ _,by rw[Cf];exact Nh _ _ _ _ _ _,by rw[oW];exact Yb _ _ _ _ _ _⟩,
  ⟨[],W.z.o.weaken λx hx=>.inl Wl,λx hx=>Ub⟩,hg,J,J,aS,zk,QE am.symm⟩
 have aC:b<B:=J
 unfold uw;dsimp only;generalize hC:iA ts (qj ts+1) n ⟨aM,aM,aM⟩ {s with d:=Bw s.d}=C;have D:On ts {s with d:=Bw s.d} C.2:=by rw[<-hC];exact zh o.en _ _ _ _
 refine⟨λm b0 b1 b2 b3 w'=>∃(j:Nb) (hd:V6) (s':Sx) (c v mv:Sl),b0=aM/\b1=hd.i/\b2=hd.e/\b3=hd.l/\Cl0 F ts w w' b l g t lr i B s' j c v mv/\iA ts m j hd s'=C/\mu ts s'<m/\qj j.mv+mu ts s'<=qj ts,qj ts+1,
  ⟨n,⟨aM,aM,aM⟩,_,_,_,_,I,I,I,I,c1,hC,zM (wb _ _),by rw[oW,bE,bR];exact wb _ _⟩,?_⟩
 rintro m _ _ _ _ w2 ⟨j,p,s',c,v,mv,rfl,rfl,rfl,rfl,M,h,N,xB⟩;obtain⟨Q,rfl⟩:∃Q,m=Q+1:=⟨m-1,J⟩
 rw[iA]at h;refine⟨λb4 b5 b6 b7 b8 w'=>(b4=aF/\∃(j:Nb) (hd:V6) (s':Sx) (c v mv:Sl),b5=aM/\b6=hd.i/\b7=hd.e/\b8=hd.l/\Cl0 F ts w w' b l g t lr i B s' j c v mv/\iA ts Q j hd s'=C/\mu ts s'<Q/\qj j.mv+mu ts s'<=qj ts)∨
  (b4=aM/\∃(c v mv:Sl),Cl0 F ts w w' b l g t lr i B C.2 C.1 c v mv),?_,(pX M.r).mono ?_⟩
 rotate_left
 .rintro _ C ⟨rfl,b⟩;have a:=M.q b;refine⟨_,I,M.sq b,λhc k=>?_,λhc=>?_⟩
  .have hc:s'.fc=0:=Yc
   rw[R (by simp[hc])]at h;have y:=wb ts s';have f:=M.r.lt;have e:0<mu ts s':=by unfold mu;rw[K hc];omega
   have n:=Vfn (ts:=ts) j p s';refine(afK (a.cl (h:=p) k) J).mono ?_;rintro _ P ⟨rfl,T,l,r,d⟩;refine⟨_,I,_,_,_,_,d.hb,?_⟩;cases s:(eK ts j p s').1
   .rw[R (by rw[s];decide)]at h;refine .inr ⟨I,T,l,r,?_⟩;rw[<-h];exact d.c0
   rw[K s]at h;have u:=ai8 o.en j p hc f s;exact .inl ⟨I,_,_,_,_,_,_,I,I,I,I,d.c0,h,J,J⟩
  have hc:s'.fc≠0:=Yc
  rw[K hc]at h;refine .inr ⟨I,c,v,mv,?_⟩;rw[<-h];exact a
 clear h N xB M;rintro b4 b5 b6 b7 b8 w3 (⟨rfl,hh⟩ | ⟨rfl,c,v,mv,c3⟩)
 .exact⟨λ_=>⟨Q,VJ _,hh⟩,λhh=>(by cases hh)⟩
 refine⟨λhh=>(by cases hh),λ_=>?_⟩;generalize C.1=n1 at*
 generalize C.2=s1 at*
 have f5:B<=w3.heap.size:=c3.lB;have eQ:I3 aF w3 (λk=>B<=k/\k<w3.heap.size) n1 c v mv:=
  ⟨(c3.no.en.inHeap (dW aF) Z).mono (dW aF) λk hk=>⟨hk.1.1,hk.2⟩,(c3.no.lv.inHeap (dW aF) Z).mono (dW aF) λk hk=>⟨hk.1.1,hk.2⟩,(c3.no.mv.sl (nJ aF) λk hk=>hk).inHeap (nJ aF) Z⟩
 obtain⟨f8,o3,fd⟩:=c3.o;have o3:az [b,g] w w3:=o3.weaken λx hx=>by
  simp only[bh]at hx;rcases hx with rfl | rfl | rfl | hx
  .exact .inl X
  .exact .inl X
  .exact .inr fN
  exact .inr (bB V (fd x hx))
 have k3:Kd F ts w w3 b l g t lr f B w3.heap.size n1 c v mv s1 [] Sl.nil:=⟨c3.r,c3.nb,eQ,Yb _ _ _ _ _ _,o3,aY _⟩
 generalize mU:w3.heap.size=B2 at*
 clear c3 eQ o3 fd hC;generalize hK:vZ ts (mO ts f) (qj ts+1) [] s1=f6;have sk:∀{u u':aw} {x y:Sx},B2<=u.heap.size->Dn F ts u u' b l y->cj [i] u u':=λhz k=>k.o.same λx hx=>by
  simp only[aV]at hx⊢;omega
 have cc:∀{u u':aw} {x y:Sx} {bY:L Nd} {kids:Sl},Kd F ts w u b l g t lr f B B2 n1 c v mv x bY kids->Dn F ts u u' b l y->Kd F ts w u' b l g t lr f B B2 n1 c v mv y bY kids:=λa k=>a.nx hg.1 aC f5 k;have go:∀{u:aw} {x:Sx} {bY:L Nd} {kids:Sl},Kd F ts w u b l g t lr f B B2 n1 c v mv x bY kids->∃(q:Sl) (u2:aw),(av 80 4 #[.mk 0 (ab (ao #[115,116,97,116,101])),.mk 1 (ab (ao #[112,97,114,97,108,108,101,108])),.mk 2 (ab (ao #[104,105,115,116,111,114,121])),.mk 3 (ab (ao #[100,101,101,112]))]).run aq u=.ok q.v u2/\cj [i] u u2/\aA aq 160 #[rp b,q.v] u2 λe u3=>e=ak (O U (cX ts x rV:Nat))/\cj [i] u2 u3/\Kd F ts w u3 b l g t lr f B B2 n1 c v mv x bY kids:=fun{u x bY kids} a=>by
  obtain⟨q,u2,e1,e,f⟩:=RL a.r rV (n:=4) (parts:=#[(0,ab (T EN)),(1,ab (T ur)),(2,ab (T wX)),(3,ab (T L3))]) I I Z Z;have b:=cc a (a.r.dn.q e);refine⟨q,u2,e1,sk (x:=x) a.lB (a.r.dn.q e),f.mono ?_⟩;rintro _ u3 ⟨rfl,d⟩;exact⟨I,sk (x:=x) b.lB (b.r.dn.q d),cc b (b.r.dn.q d)⟩
 obtain⟨q,w4,e1,F8,dO⟩:=go k3;refine⟨q,w4,e1,F8,dO.mono ?_⟩;rintro _ w5 ⟨rfl,TG,k5⟩;refine⟨_,I,TG,λm i2 _ _ _ _ w'=>∃(s':Sx) (bY:L Nd) (kids:Sl),i2=((cX ts s' rV:Nat):Int)/\Kd F ts w w' b l g t lr f B B2 n1 c v mv s' bY kids/\vZ ts (mO ts f) m bY s'=f6/\mu ts s'<m/\qj bY+mu ts s'<=qj ts/\s'.d=Bw s.d/\(s'.fc=0->s.fc=0),qj ts+1,
  ⟨s1,[],Sl.nil,I,k5,hK,zM (wb _ _),D0,D.d,λe=>(D.le e).1⟩,?_⟩
 clear TG k5 dO F8 e1 k3 hK;rintro m _ b9 Tv f7 Tw w6 ⟨s',bY,kids,rfl,k6,h,N,xB,ce,el⟩;obtain⟨m',rfl⟩:∃m',m=m'+1:=⟨m-1,J⟩
 rw[vZ]at h;have co:i≠b:=S.ne X;have cC:i≠g:=J
 refine⟨λhc=>?_,λhc=>?_⟩
 .have hc:=Us hc;rw[R hc]at h;obtain⟨gE,sP⟩:=dZ hc;obtain⟨g9,gT⟩:=hN (el gE);have a:=k6.r.lt;refine⟨_,Om k6.r.blk 1 I,b,1,_,_,I,k6.r.blk,X,co,λw7 gq T=>?_⟩;rw[k6.r.wr]at T;have k7:=cc k6 (y:=ez s') ⟨gq,k6.r.lG gq T (Top k6.r hc)⟩;have yV:=o.sm;have ip:=wb ts s';have n:=abP o.en f (cX ts s' rV:Nat) (ez s') (by show qO s'.d;rw[ce];exact Wn _);have lE:=tA o.en gE a sP n.toOn0;generalize cX ts s' rV=kk at*
  generalize g8:mO ts f (kk:Int) (ez s')=d at*
  have gG:d.2.d=Bw s.d:=n.d.trans ce;have gO:d.2.fc=0->s.fc=0:=λe=>el (n.le e).1;refine⟨λ_ _ _ _ w'=>∃ju,Kd F ts w w' b l g t lr f B B2 n1 c v mv d.2 (bY++[d.1]) ju,λiD iF iN iS w8 h8=>?_,λC eG=>?_⟩
  .obtain⟨ju,k⟩:=h8;obtain⟨q,w,e1,s,e⟩:=go k;refine⟨q,w,e1,s,e.mono ?_⟩;rintro _ l ⟨rfl,b,f⟩;exact⟨_,I,b,m',VJ _,_,_,_,I,f,h,J,XO,gG,gO⟩
  have s:=cc k7 (k7.r.dn.q eG);have GD:=s.lB;have zy:∀{u:aw},Sr F ts u b l (ez s')->aA aq 162 #[rp b,O U (kk:Int)] u λe w'=>∃z,e=ak (ah z.toArray)/\nX aF f w' (Fr u.heap.size) d.1 z/\Dn F ts u w' b l d.2:=λhu=>by
   have:=gT (kk:Int) (ez s') _ hu ce;rw[g8]at this;exact this
  have HY:∀{u u':aw} {bs:L Nat},az bs u u'->(∀x,x∈bs->x≠g)->bX (λk=>k=g) u u':=λhO hb k hk a=>by subst hk;exact hO.block k a λq=>hb k q I
  have zc:Value.cells (ah (qD 0 [] [] [] Sl.nil Sl.nil Sl.nil Sl.nil 0).toArray)=(qD 0 [] [] [] Sl.nil Sl.nil Sl.nil Sl.nil 0).toArray:=I;have hz:∀(u:aw),∃(y:Sl) (u2:aw),(av 25 1 #[.mk 0 (ah (qD 0 [] [] [] Sl.nil Sl.nil Sl.nil Sl.nil 0).toArray)]).run aq u=.ok y.v u2/\Own (nX aF f) 9 27 u.heap.size u2 (λ_=>False) y [Ui]/\az [] u u2:=λu=>by
   obtain⟨y,u2,b,k,l,_⟩:=iU (P:=aq) (t:=25) (e:=27) (i:=Tryz.t27) (w:=u) (F:=λ_=>False) (r:=nX aF f) (size:=9) (vs:=[ah (qD 0 [] [] [] Sl.nil Sl.nil Sl.nil Sl.nil 0).toArray]) (xs:=[Ui]) (len:=1) (parts:=#[(0,ah (qD 0 [] [] [] Sl.nil Sl.nil Sl.nil Sl.nil 0).toArray)]) E E I I Z I I Z Z (cG aF f) ⟨⟨I,XR g9 _⟩,trivial⟩;exact⟨y,u2,b,k,l⟩
  have mt:∀{u:aw} {y:Sl} {A:Nat},B2<=A->Yw f B2 u kids bY->(∀k,A<=k->kids.a≠aN ⟨k,0,Pw⟩)->aB (nX aF f) 9 u (Fr A) y [Ui]->A<=u.heap.size->∃(s8:Sl) (u2:aw),(Builtin.append_ #[25,25] 25 #[kids.v,y.v]).run aq u=.ok s8.v u2/\Yw f B2 u2 s8 (bY++[Ui])/\(∃gs,az gs u u2/\∀x,x∈gs->B2<=x/\x<A)/\(∀k,A<=k->k<u.heap.size->s8.a≠aN ⟨k,0,Pw⟩):=fun{u y A} hA ho hk hy hAu=>by
   obtain⟨s8,u2,r,u,gs,w,l,b⟩:=tf (P:=aq) (t:=25) (ty:=25) (e:=27) (i:=Tryz.t27) (bytes:=160) (size:=9) (y:=y) (ys:=[Ui]) E E I I I I (cG aF f) ho (hy.mono (cG aF f) λk G=>⟨bB hA G,hk k G⟩) (bB hA hAu) TX Z;refine⟨s8,u2,r,u,⟨gs,w,λx hx=>⟨(l x hx).2.1,?_⟩⟩,λk h1 h2=>?_⟩
   .exact Nat.lt_of_not_le λe=>hk x e (l x hx).1
   rcases b with b | b
   .rw[b];exact hk k h1
   rw[b];intro e;injection e with e;injection e with e;omega
  have Vs:∀{u:aw} {s8:Sl},Sr F ts u b l d.2->aG u g t (lr++qD n1.k n1.nm n1.ini n1.dft c v mv kids n1.a)->I3 aF u (λk=>B<=k/\k<B2) n1 c v mv->az [b,g] w u->B2<=u.heap.size->Yw f B2 u s8 (bY++[Ui])->∀w',aG w' g t (lr++qD n1.k n1.nm n1.ini n1.dft c v mv s8 n1.a)->Yw f B2 w' s8 (bY++[d.1])->(∃gk,B2<=gk/\az [g,gk] u w')->∃ju,Kd F ts w w' b l g t lr f B B2 n1 c v mv d.2 (bY++[d.1]) ju:=λhr wE HR ho hz _ w' h1 h2 ⟨gk,h3,h4⟩=>
   ⟨_,hr.ZP h4 λx hx=>(by
    simp only[bh,bI,cO]at hx;rcases hx with rfl | rfl
    .exact hg
    .exact hr.gt J),h1,HR.keep λlT b a=>h4.block lT a (by simp only[bh,bI,cO];omega),h2,ho.trans h4 λx hx=>by
    simp only[bh,bI,cO]at hx⊢;omega,bB hz h4.size⟩
  refine⟨λk=>k=g,_,I,I,kids,s.nb.at0 (qj lr+7) (RO I),(zy s.r).mono ?_,?_⟩
  .rintro _ ey ⟨z,rfl,hx,G⟩;have r:=cc s G;have F7:=hx;obtain⟨f',rfl⟩:∃f',f=f'+1:=⟨f-1,J⟩
   obtain⟨xe,xl,xm,xk,rfl,_⟩:=F7;obtain⟨y,eY,e2,hy,b⟩:=hz ey;have F:=cc r (r.r.dn.q b);obtain⟨s8,fV,e3,P,⟨gs,e,yX⟩,t⟩:=mt (u:=eY) (y:=y) (A:=C.heap.size) GD F.kd (λk hk=>s.kd.new hk) ((hy.slice (cG aF _)).mono (cG aF _) λk hk=>(by
    rcases hk with hk | hk
    .exact hk.elim
    exact bB G.o.size hk.1)) (bB G.o.size b.size)
   have l:∀x,x∈gs->x≠g:=λx hx=>Xp
   have w:=e.size;have Vl:=F.lB;have mK:=G.o.size;refine⟨_,_,_,_,xe,xl,xm,xk,_,I,sk (x:=s') s.lB G,HY G.o Uf,y,eY,e2,sk (x:=s') r.lB (r.r.dn.q b),HY b X,s8,fV,e3,e.same (λx hx=>?_),HY e l,?_⟩
   .simp only[aV]at hx;subst hx;exact⟨J,λq=>by have:=(yX x q).1;omega⟩
   refine afa (H:=λk=>C.heap.size<=k/\k<ey.heap.size) (acc:=bY) ?_ (λk hk _=>⟨bB GD hk.1,t k hk.1 (cq hk.2 b.size)⟩) (λk hk=>bB GD hk.1) P s.kd.len (e.blk F.nb λq=>l g q I) J J cC (Vs (F.r.own e λx hx=>Xp) (e.blk F.nb λq=>l g q I) (F.no.keep λlT f a=>e.block lT a λq=>(by have:=(yX lT q).1;omega)) (F.o.trans e λx hx=>.inr (by have:=(yX x hx).1;have:=s.o.size;omega)) (bB Vl w) P);refine(cG aF _).keep ((cG aF _).inHeap hx) λk hk a=>?_;exact(e.block k (cq a b.size) λq=>by have:=(yX k q).2;have:=hk.1;omega).trans (b.block k a X)
  obtain⟨y,kf,e2,hy,t⟩:=hz C;have w:=cc s (s.r.dn.q t);refine⟨y,kf,e2,sk (x:=s') s.lB (s.r.dn.q t),HY t X,(zy w.r).mono ?_⟩;rintro _ j8 ⟨z,rfl,hx,r⟩;have e:=cc w r;have F7:=hx;obtain⟨f',rfl⟩:∃f',f=f'+1:=⟨f-1,J⟩
  obtain⟨xe,xl,xm,xk,rfl,_⟩:=F7;have F:=(((hy.slice (cG aF _)).inHeap (cG aF _) Z).keep (cG aF _) Z (w':=j8) λk hk a=>r.o.block k a (by
   rcases hk.1 with hk | hk
   .exact hk.elim
   .have:=hk.1;simp only[aV];omega)).mono (cG aF _) (G:=Fr C.heap.size) λk hk=>(by
   rcases hk.1 with hk | hk
   .exact hk.elim
   exact hk.1)
  obtain⟨s8,mB,e3,Qq,⟨gs,b,yX⟩,P⟩:=mt (u:=j8) (y:=y) (A:=C.heap.size) GD e.kd (λk hk=>s.kd.new hk) F (bB t.size r.o.size);have l:∀x,x∈gs->x≠g:=λx hx=>Xp
  have oF:=b.size;have nO:=e.lB;have oN:=t.size;refine⟨_,_,_,_,xe,xl,xm,xk,_,I,sk (x:=s') w.lB r,HY r.o Uf,s8,mB,e3,b.same (λx hx=>?_),HY b l,?_⟩
  .simp only[aV]at hx;subst hx;exact⟨J,λq=>by have:=(yX x q).1;omega⟩
  refine afa (H:=λk=>kf.heap.size<=k/\k<j8.heap.size) (acc:=bY) ?_ (λk hk _=>⟨by show B2<=k;omega,P k J hk.2⟩) (λk hk=>J) Qq s.kd.len (b.blk e.nb λq=>l g q I) J J cC (Vs (e.r.own b λx hx=>Xp) (b.blk e.nb λq=>l g q I) (e.no.keep λlT f a=>b.block lT a λq=>(by have:=(yX lT q).1;omega)) (e.o.trans b λx hx=>.inr (by have:=(yX x hx).1;have:=s.o.size;omega)) (bB nO oF) Qq);refine(cG aF _).keep ((cG aF _).inHeap hx) λk hk a=>?_;exact b.block k a λq=>by have:=(yX k q).2;have:=hk.1;omega
 have hc:=Ur hc;rw[K hc]at h;refine⟨_,Om k6.r.blk 6 I,b,6,_,_,I,k6.r.blk,X,co,λw r C=>?_⟩;have a:=cc k6 (y:={s' with d:=XP s'.d}) ⟨r,k6.r.lG r C k6.r.lt⟩;obtain⟨q,u,e1,s,t⟩:=uD a.r [125];have n:=cc a (a.r.dn.q s);refine⟨q,u,e1,sk (x:=s') a.lB (a.r.dn.q s),t.mono ?_⟩;rintro _ A ⟨rfl,l⟩;have e:=cc n l;refine⟨I,sk (x:=s') n.lB l,I,_,e.nb,?_,e.o,?_⟩
 .rw[<-h];refine⟨c,v,mv,kids,I,e.no.mono λk hk=>bB V hk.1,(e.kd.sl (cG aF f) λk hk=>hk).low (cG aF f) J⟩
 rw[<-h];exact e.r
end
def Tk.Good(t:Tk):Prop:=(t.k=2->∃c r,t.t=c::r/\fx c=aF)/\(t.k=4->∃c r,t.t=c::r/\fx c=aM)/\0<=t.n/\t.n<=9223372036854775807
def abD{m:C}{q:Tq}(h:nI m=.ok q):q.1≠5/\∀a,Tk.Good ⟨q.1,q.2.1,q.2.2.1,a⟩:=by
 cases m with
 | nil=>cases h
 | cons c r=>
  simp only[nI]at h;split at h
  .rename_i b;unfold oU at h;split at h
   .cases h
   injection h with h;subst h;have w:fx c=aF:=by unfold fx;rw[b];rfl
   refine⟨by dsimp only;split<;>decide,λa=>⟨λ_=>?_,λd=>?_,ZD,ZD⟩⟩
   .dsimp only;rw[dF,K w];exact⟨c,_,I,w⟩
   dsimp only at d;split at d<;>exact absurd d Z
  rename_i hl;split at h
  .rename_i c;unfold vB at h;split at h
   .cases h
   split at h
   .cases h
   injection h with h;subst h;refine⟨ZD,λa=>⟨λh=>absurd h ZD,λh=>absurd h ZD,KQ,?_⟩⟩;dsimp only;unfold gK;split
   .dsimp only;decide
   split
   .dsimp only;decide
   split
   .dsimp only;omega
   dsimp only;decide
  rename_i hd;unfold qk at h;split at h
  .cases h
  rename_i s;injection h with h;subst h;refine⟨ZD,λa=>⟨λh=>absurd h ZD,λ_=>?_,ZD,ZD⟩⟩;obtain⟨n,b⟩:∃n,jV (c::r)=n+1:=⟨jV (c::r)-1,J⟩
  dsimp only;rw[b,fF];refine⟨c,_,I,?_⟩;unfold fx;rw[fe];exact⟨G5,by simpa using hd⟩
def Mm{l:C}:∀(n i:Nat),i<=(qj l)->(qj l)-i<=n->∀r,lN l i=.ok r->∃(fr:L Tk) (a:Int),r=fr++[⟨5,[],0,a⟩]/\(∀t,t∈fr->t.k≠5/\t.Good)/\qj r<=(qj l)-i+1
 | n,i,c,b,r,h=>by
  rw[lI c]at h;split at h
  .injection h with h;exact⟨[],_,h.symm,λt a=>(by cases a),by rw[<-h,bA];omega⟩
  split at h
  .cases h
  rename_i q d;have g:=xR d;have f:=EF d;rw[cD]at f;split at h
  .cases h
  rename_i k j;injection h with h;subst h
  match n,b with
  | 0,b=>omega
  | n+1,b=>
   obtain⟨fr,a,e,p,q⟩:=Mm n _ J J _ j;have o:=abD d;refine⟨_::fr,a,by rw[e];rfl,λt m=>?_,by rw[aZ];omega⟩;rcases bh.1 m with rfl | m
   .exact⟨o.1,o.2 _⟩
   exact p t m
def adl{fr:L Tk}{a:Int}(b:∀t,t∈fr->t.k≠5):um (fr++[⟨5,[],0,a⟩]):=λi c=>by
 rw[aP,bA]at c;unfold tk;by_cases h:i<qj fr
 .rw[bZ h,aX h,jw,aP,bA];exact⟨λe=>absurd e (b _ (gU h)),λe=>J⟩
 have e:i=qj fr:=J
 subst e;rw[ck (H _),pQ,aP,bA];exact⟨λ_=>I,λ_=>I⟩
def RQ{l:C}:∀(n i:Nat),i<=(qj l)->(qj l)-i<=n->∀x,lN l i=.error x->x.1≠0
 | n,i,b,a,x,h=>by
  rw[lI b]at h;split at h
  .cases h
  split at h
  .rename_i e q;injection h with h;subst h;exact IQ q
  rename_i q c;have e:=xR c;have d:=EF c;rw[cD]at d;split at h
  .rename_i y f;injection h with h;subst h
   match n,a with
   | 0,a=>omega
   | n+1,a=>exact RQ n _ J J _ f
  cases h
def zi{l:C}(h:(de l).2.1=0):um (de l).1/\(∀t,t∈(de l).1->t.Good)/\0<(de l).1.length/\(de l).1.length<=16385:=by
 unfold de at h⊢;split at h
 .cases h
 rename_i b;rw[R b];cases r:lN l 0 with
 | error x=>
  rw[r]at h;exact absurd h (RQ (qj l) 0 (bf _) J _ r)
 | ok d=>
  obtain⟨fr,a,e,f,n⟩:=Mm (qj l) 0 (bf _) J d r;dsimp only;subst e;refine⟨adl λt c=>(f t c).1,λt c=>?_,XO,J⟩;rcases bQ.1 c with c | c
  .exact(f t c).2
  simp only[aV]at c;subst c;exact⟨λh=>absurd h ZD,λh=>absurd h ZD,ZD,ZD⟩
section
section
variable {F:A} {ts:L Tk} {w w' w2:aw} {b:Nat} {l:Sl} {s s':Sx}
def RR:∀(f:Nat) (d:Int),0<=d->d<f->d<=9223372036854775807->afN F ts b l f d
 | 0,d,h,a,_=>J
 | f+1,d,h0,h1,G=>by
  intro k a w e hd;refine gX (anP ?_);intro c w0 F S B;have t:=e.zt.al B F S;refine(Ml t.r k).mono ?_;rintro _ w1 ⟨rfl,h⟩;have i:=t.nx h;have o:=ER e.en k a;have g:=adb (ts:=ts) (k:=k) (s:=a);rw[mO];have wE:(fI ts k a).1.ini=[]/\(fI ts k a).1.dft=[]/\(fI ts k a).1.en=[]/\(fI ts k a).1.lv=[]/\(fI ts k a).1.mv=[]:=⟨I,I,I,I,I⟩
  generalize fI ts k a=N at*
  obtain⟨Q,A⟩:=N;dsimp only at*
  obtain⟨j,l,p,r,v⟩:=wE;obtain⟨V,m,D,E,T,W,Y,M⟩:=Q;dsimp only at j l p r v;subst j l p r v;dsimp only at*
  refine⟨_,_,_,_,Sl.nil,Sl.nil,Sl.nil,Sl.nil,_,I,t.sc h X,λhc k1 w2 L H P=>?_,λhc z dq Z sR C=>?_⟩
  .rw[K Zm];have f:=i.al P L H;obtain⟨q,w3,b,s,d⟩:=uD f.r [45,62];have t3:=f.q s;refine⟨q,w3,b,f.sq s X,d.mono ?_⟩;rintro _ w4 ⟨rfl,x⟩;have k:=t3.nx x;refine⟨I,t3.sc x X,(AD k.r).mono ?_⟩;rintro _ w5 ⟨rfl,y⟩;have t5:=k.nx y;refine⟨_,I,k.sc y X,λw6 dV=>?_⟩;have n:=t5.f dV X;obtain⟨q,w7,b,w,d⟩:=uD n.r [59];have t7:=n.q w;refine⟨q,w7,b,n.sq w X,d.mono ?_⟩;rintro _ w8 ⟨rfl,h8⟩;have t8:=t7.nx h8;refine⟨I,t7.sc h8 X,λw9 gA=>⟨_,I,⟨Sl.nil,Sl.nil,Sl.nil,Sl.nil,I,⟨Nh _ _ _ _ _ _,Nh _ _ _ _ _ _,Nh _ _ _ _ _ _⟩,Nh _ _ _ _ _ _⟩,(t8.f gA X).dn⟩⟩
  rw[R Xt];have am:=i.al C Z sR;obtain⟨q,dB,e1,eG,hm⟩:=uD am.r [123];have aT:=am.q eG;refine⟨q,dB,e1,am.sq eG X,hm.mono ?_⟩;rintro _ ey ⟨rfl,GI⟩;have k:=aT.nx GI;have aC:=jY (s:=A) e.en [123];refine⟨I,aT.sc GI X,λhB _=>?_⟩;have aS:(fA ts A [123]).d=d:=aC.d.trans (o.d.trans hd);refine(RP (f:=f) k.r (lr:=[]) (n:=⟨V,m,[],[],[],[],[],M⟩) I I I hB (k.r.gt (k.lt X)) (by rw[aS];exact⟨J,G⟩) (λhf=>?_)).mono ?_
  .have b:=g (aC.le hf).1;rw[hd]at b;have n:Bw d=d-1:=by unfold Bw;rw[eS J J]
   rw[aS,n];exact⟨J,RR f (d-1) J J J⟩
  rintro _ eY ⟨rfl,cs,xF,hx,n,d⟩;have q:=hx;obtain⟨xe,xl,xm,xk,rfl,_⟩:=q;have s:Fz [b] w eY [z,c]:=k.z.go n λx hx=>SG
  have l2:=k.lt (k0:=z) X;have l0:=k.lt (k0:=c) X;have bv:=(i.z.k c X).2;refine⟨I,k.z.sm n X (λx hx=>?_),_,_,_,_,xe,xl,xm,xk,_,xF,λfV f NL=>⟨_,I,?_,?_⟩⟩
  .simp only[bh,bI,cO]at hx;rcases hx with rfl | rfl
   .exact .inl X
   exact .inr λy hy=>Ya
  .refine(cG aF _).low ((cG aF _).stay hx ((PR _ _).f f (.inl ?_))) k.z.o.size;have:=(k.z.k c X).2;exact this
  exact⟨(s.f f X).o,d.one f l0⟩
def aih(j:Sr F ts w b l s)(m:∀t,t∈ts->t.Good):aA aq 120 #[rp b] w λe w'=>e=ak (ah #[ab (T (wY ts s).1.n),O U (wY ts s).1.v,O U (wY ts s).1.a])/\Dn F ts w w' b l (wY ts s).2:=by
 refine ret (anv ?_);intro o r N S f;have a:=j.zt.al f N S;obtain⟨ad,h,i⟩:=a.r.now;unfold wY;dsimp only;generalize C:(if(tk ts s.i).k=1 then Gn ts s else s)=c;refine⟨λw'=>Zt F ts w w' b l c [o],λu d=>(AB d.r (k:=1) Z).mono ?_,l,Om a.r.blk 0 I,_,Om a.r.blk 1 I,ad,h,_,i.dP 0 _ I,λhc y V=>?_,λhc p g=>?_⟩
 .rintro _ w2 ⟨rfl,G⟩;have t2:=d.nx G;refine⟨_,_,_,_,I,d.sc G X,λk1 w3 lm jP cZ=>?_⟩;have z:=t2.al cZ lm jP;obtain⟨q,w4,l,Q,s⟩:=uD z.r [61];have O:=z.q Q;refine⟨q,w4,l,z.sq Q X,s.mono ?_⟩;rintro _ w5 ⟨rfl,H⟩;have A:=O.nx H;refine⟨I,O.sc H X,?_⟩;obtain⟨q,w6,l,E,s⟩:=Hh A.r [[45]] (n:=1) (parts:=#[(0,ab (T [45]))]) I I Z Z;have P:=A.q E;refine⟨q,w6,l,A.sq E X,s.mono ?_⟩;rintro _ w7 ⟨rfl,L⟩;have B:=P.nx L;generalize w:cX ts (fA ts (io ts c 1).2 [61]) [[45]]=b at*
  have am:b<=1:=by rw[<-w];exact L4 _
  refine⟨_,I,P.sc L X,(AB B.r (k:=3) Z).mono ?_⟩;rintro _ w8 ⟨rfl,M⟩;have D:=B.nx M;refine⟨_,_,_,_,I,B.sc M X,?_⟩;obtain⟨q,w9,l,F,s⟩:=uD D.r [59];have W:=D.q F;refine⟨q,w9,l,D.sq F X,s.mono ?_⟩;rintro _ dq ⟨rfl,Y⟩;refine⟨I,W.sc Y X,λdB eG=>⟨?_,((W.nx Y).f eG X).dn⟩⟩;have hn:∀v:Sx,0<=(io ts v 3).1.n/\(io ts v 3).1.n<=9223372036854775807:=λv=>by
   unfold io;split
   .exact⟨ja 0,(by decide:(0:Int)<=9223372036854775807)⟩
   unfold tk;rcases hx:ts[v.i]? with _|t
   .exact⟨ja 0,(by decide:(0:Int)<=9223372036854775807)⟩
   exact(m t (bp hx)).2.2
  obtain⟨n0,n1⟩:=hn (if b=0 then fA ts (io ts c 1).2 [61]else ez (fA ts (io ts c 1).2 [61]));generalize (io ts (if b=0 then fA ts (io ts c 1).2 [61]else ez (fA ts (io ts c 1).2 [61])) 3).1.n=x at*
  have e:au U ((au U (1-(au U (2*(b:Int)))))*x)=if b=0 then x else au U (-x):=by
   rcases(by omega:b=0∨b=1)with rfl | rfl
   .rw[K I];show au U (1*x)=x;rw[Int.one_mul,eS J J]
   rw[R Z];show au U (-1*x)=_;rw[Int.neg_one_mul]
  rw[e]
 .refine(aie (a.q V).r).mono ?_;rintro _ e ⟨rfl,v⟩;refine⟨I,(a.q V).sc v X,?_⟩;rw[<-C,K Yc];exact(a.q V).nx v
 rw[<-C,R Yc];exact a.q g
end
def afP{w:aw}{F:A}:ChR aF 15 w F WX Sl.nil (qD 0 [] [] [] Sl.nil Sl.nil Sl.nil Sl.nil 0):=⟨Nh _ _ _ _ _ _,XR Z _⟩
def ChR.stay{d:Nat}{w b:aw}{B:Nat}{c:Ch}{v:Sl}{s:aJ}(h:ChR aF d w (Fr B) c v s)(a:Stay B w b):ChR aF d b (Fr B) c v s:=⟨h.vars.stay ft Z a,(cG aF d).stay h.root a⟩
def ChR.low{d:Nat}{w:aw}{A B:Nat}{c:Ch}{v:Sl}{s:aJ}(h:ChR aF d w (Fr B) c v s)(a:A<=B):ChR aF d w (Fr A) c v s:=⟨h.vars.low ft a,(cG aF d).low h.root a⟩
def aii{t:L Tk}(h:um t){s:Sx}{a:L (C)}(i:s.i<qj t)(w:cX t s a≠0):mu t (wY t (ez s)).2<mu t s:=
 tA h (dZ w).1 i (dZ w).2 (ahf h (ez s)).toOn0
def afM{w:aw}(l:C)(hE:Er w):aA aq 74 #[ab (T l)] w λe c=>
  ∃(vs:Sl) (s:aJ),e=ak (ai #[ah (vs.v::s).toArray,ah #[O U (fp l).2.1,O U (fp l).2.2]])/\ChR aF 15 c (Fr w.heap.size) (fp l).1 vs s/\az [] w c:=by
 refine gX (anb ?_);generalize h:fp l=am;unfold fp at h;intro m o p fN dS lm jP B;have z0:=B.size;refine(LQ l (hE.only B)).mono ?_;rintro _ g ⟨r,rfl,W,D⟩;have z1:=D.size;have Y:=B.bU D;have j:=zi (l:=l);have z:∀{M N:aw},az [] g M->az [o,m] M N->az [] w N:=λP A=>((Y.bU P).trans A λx hx=>.inr LM)
 refine⟨r,_,_,I,D.same S,λhc k2 M rF sR P n1 n2 n3=>⟨λk=>k=k2,I,λe=>n2 e,λe=>n3 e,λN A=>?_⟩,λhc k3 a b w4 zE uQ wx C5 sP FU Q=>?_⟩
 .have hc:(de l).2.1≠0:=Yc
  rw[K hc]at h;subst h;exact⟨Sl.nil,_,I,afP,z P A⟩
 have hc:(de l).2.1=0:=Yc
 obtain⟨bv,g8,f8,fi⟩:=j hc;rw[R Yc]at h;have gE:=((W.sl.inHeap jk Z).mono jk (G:=λk=>p.heap.size<=k/\k<g.heap.size) λk hk=>⟨hk.1.1,hk.2⟩)
 generalize (de l).1=ts at*
 clear j W;have z4:=Q.size;obtain⟨q,w5,e1,hq,eJ⟩:=lp w4 [fX] (n:=1) (parts:=#[(0,ab (T fX))]) I I Z Z;have z5:=eJ.size;refine⟨q,w5,e1,eJ.same S,λwq ut uP wd dO=>?_⟩;have r5:Sr (λk=>p.heap.size<=k/\k<g.heap.size) ts w5 a r yO:=⟨wq,Wg jk Z gE (Q.bU eJ) X,λk hk=>LH,bv,f8,J⟩
 have Tt:∀k,(λk=>p.heap.size<=k/\k<g.heap.size) k->k<g.heap.size:=λk hk=>hk.2;generalize (λk=>p.heap.size<=k/\k<g.heap.size)=F at*
 have f6:az [] w w5:=(Y.bU Q).bU eJ;have sm:∀{aS u':aw} {x:Sx},w5.heap.size<=aS.heap.size->Dn F ts aS u' a r x->cj [m,o,k3,b] aS u':=λhz d=>d.o.same (by
  intro x hx;simp only[bh,bI,cO]at hx⊢;omega)
 have sq:∀{aS u':aw},w5.heap.size<=aS.heap.size->az [] aS u'->cj [m,o,k3,a,b] aS u':=λhz bY=>bY.same λx hx=>⟨by
  simp only[bh,bI,cO]at hx;omega,X⟩
 have oD:∀{aS u':aw} {x:Sx},az [] w aS->Dn F ts aS u' a r x->az [] w u':=λbY d=>bY.trans d.o λx hx=>.inr CQ;have o5:∀{aS u':aw},az [] w aS->az [b] aS u'->az [] w u':=λbY d=>bY.trans d λx hx=>.inr CQ;have f5:∀{aS u':aw} {x:Sx},Sr F ts aS a r x->az [b] aS u'->Sr F ts u' a r x:=λAT bY=>AT.ai7 bY ⟨dO,λhF=>by have:=Tt _ hF;omega⟩;have VY:=wq.lt;refine(RM r5 (vY hq) λk hk e=>Wi).mono ?_;rintro _ w6 ⟨rfl,h6⟩;have z6:=h6.o.size;refine⟨I,sm (H _) h6,r,_,_,_,_,_,_,_,_,h6.r.blk,(Ml h6.r 1).mono ?_⟩;rintro _ w7 ⟨rfl,h7⟩;have z7:=h7.o.size;have hC:xa ts=(⟨(wZ ts (qj ts+1) [] (fA ts (fI ts 1 (fA ts yO fX)).2 [123])).1,(uw ts (mO ts 14) (fI ts 1 (fA ts yO fX)).1 (wZ ts (qj ts+1) [] (fA ts (fI ts 1 (fA ts yO fX)).2 [123])).2).1⟩,O3 ts (uw ts (mO ts 14) (fI ts 1 (fA ts yO fX)).1 (wZ ts (qj ts+1) [] (fA ts (fI ts 1 (fA ts yO fX)).2 [123])).2).2):=I;have wE:(fI ts 1 (fA ts yO fX)).1.ini=[]/\(fI ts 1 (fA ts yO fX)).1.dft=[]/\(fI ts 1 (fA ts yO fX)).1.en=[]/\(fI ts 1 (fA ts yO fX)).1.lv=[]/\(fI ts 1 (fA ts yO fX)).1.mv=[]:=⟨I,I,I,I,I⟩
 have oF:On ts yO (fI ts 1 (fA ts yO fX)).2:=(jY bv _).trans (ER bv _ _);generalize fI ts 1 (fA ts yO fX)=oR at*
 obtain⟨⟨nk,co,pi,pm,As,AC,AS,na⟩,u1⟩:=oR;dsimp only at*
 obtain⟨i1,i2,i3,i4,i5⟩:=wE;subst i1 i2 i3 i4 i5;refine⟨_,_,_,_,Sl.nil,Sl.nil,Sl.nil,Sl.nil,_,I,sm z6 h7,r,_,_,_,_,_,_,_,_,h7.r.blk,λw8 fK yW=>?_⟩;have z8:=fK.size;have r8:=f5 h7.r fK;have oN:=o5 (oD (oD f6 h6) h7) fK;obtain⟨q,w9,e1,gA,hm⟩:=uD r8 [123];have z9:=gA.size;refine⟨q,w9,e1,sq J gA,hm.mono ?_⟩;rintro _ dq ⟨rfl,wF⟩;have KG:=wF.o.size;have gG:=oD (oN.bU gA) wF;have gO:On ts yO (fA ts u1 [123]):=oF.trans (jY bv _);clear hm;generalize fA ts u1 [123]=u2 at*
 generalize hV:wZ ts (qj ts+1) [] u2=V at*
 generalize hB:dq.heap.size=bV at*
 refine⟨I,sm J wF,r,_,_,_,_,_,_,_,_,wF.r.blk,λnv aC g9 s3 s4 s5 qJ qy tT B6 ip C2 iD iF iN iS lE lT mt mK c=>∃(aS:Sx) (aT:L Vr),g9=nk/\s3=T co/\s4=T []/\s5=T []/\qJ=Sl.nil/\qy=Sl.nil/\tT=Sl.nil/\B6=Sl.nil/\ip=na/\Sr F ts c a r aS/\Own Ry 3 130 bV c (Fr bV) aC aT/\wZ ts nv aT aS=V/\mu ts aS<nv/\qj aT+mu ts aS<=qj ts/\az [] w c/\bV<=c.heap.size/\aS.d=12,
  (qj ts)+1,⟨u2,[],I,I,I,I,I,I,I,I,I,wF.r,Yb _ _ _ _ _ _,hV,zM (wb _ _),D0,gG,QE hB.symm,gO.d⟩,?_⟩
 clear hV;rintro nv aC eQ _ _ _ _ _ _ _ el C2 iD iF iN iS lE lT mt mK dB ⟨aS,aT,rfl,rfl,rfl,rfl,rfl,rfl,rfl,rfl,rfl,fd,f7,hR,pP,xB,gT,zB,ce⟩;obtain⟨nO,rfl⟩:∃nO,nv=nO+1:=⟨nv-1,J⟩
 rw[wZ]at hR;obtain⟨q,ey,e1,eV,hm⟩:=Hh fd [zg] (n:=1) (parts:=#[(0,ab (T zg))]) I I Z Z;have Bv:=eV.size;refine⟨q,ey,e1,sq J eV,hm.mono ?_⟩;rintro _ eY ⟨rfl,vS⟩;have Vl:=vS.o.size;have cc:=oD (gT.bU eV) vS;have cC:Own Ry 3 130 bV eY (Fr bV) aC aT:=(f7.stay ft eV λx hx=>Ub).stay ft vS.o λx hx=>.inl CQ;refine⟨_,I,sm J vS,r,_,_,_,_,_,_,_,_,vS.r.blk,λnD fV eZ NL=>?_,λnD xF rg rx tO=>?_⟩
 .have nD:=Us nD;rw[R nD]at hR vS;have DO:=eZ.size;have BY:=vS.r.only eZ;refine⟨λk=>k=b,I,(aih BY g8).mono ?_⟩;rintro _ fT ⟨rfl,d⟩;have EQ:=d.o.size;have Do:=aii bv fd.lt nD;have BV:=ahf bv (ez aS);generalize wY ts (ez aS)=Cc at*
  obtain⟨x,u'⟩:=Cc;dsimp only at*
  have yq:=wb ts aS;have By:Own Ry 3 130 bV fT (Fr bV) aC aT:=(cC.stay ft eZ λx hx=>Ub).stay ft d.o λx hx=>.inl CQ;obtain⟨y,iE,e2,n,KK,gL,e3,sJ,⟨gs,f,yX⟩,_⟩:=kx (P:=aq) (t:=22) (ty:=22) (e:=130) (i:=Tryz.t130) (bytes:=32) (size:=3) (v:=ah #[ab (T x.n),O U x.v,O U x.a]) (x:=x) (G:=λ_=>False) E E I I I I Z Z Z ft By J I I (λk hk _=>hk.elim) J;have uS:∀q,q∈gs->bV<=q:=λq hg=>(yX q hg).2.1;have Fd:=n.size;have Fn:=f.size;refine⟨_,_,_,I,sm J d,r,_,_,_,_,_,_,_,_,d.r.blk,λk hk bW=>(by subst hk;exact d.o.block k bW Uf),y,iE,e2,sq J n,Uy n,KK,gL,e3,f.same (λx hx=>?_),λk hk bW=>(by subst hk;exact f.block k bW λhm=>(by have:=uS k hm;omega)),λjH V CC=>?_⟩
  .simp only[bh,bI,cO]at hx;exact⟨J,λhm=>by have:=uS x hm;omega⟩
  have i:=V.size;have e:Sr F ts gL a r u':=(d.r.only n).own f λx hx=>(by have:=uS x hx;omega)
  refine⟨nO,VJ _,u',aT++[x],I,I,I,I,I,I,I,I,I,f5 e V,?_,hR,J,XO,o5 (((oD (cc.bU eZ) d).bU n).trans f λx hx=>.inr (by have:=uS x hx;have:=cc.size;omega)) V,J,BV.d.trans ce⟩;refine(sJ.mono ft λk hk=>?_).stay ft V λx hx=>.inl CQ;rcases hk with hk | hk
  .exact hk
  show bV<=k;omega
 have nD:=Ur nD;rw[K nD]at hR vS;subst hR;dsimp only at hC;have IS:=vS.r;refine(RP (f:=14) IS (lr:=[aC.v]) (n:=⟨eQ,co,[],[],[],[],[],el⟩) I I I xF ⟨dO,λhF=>(by have:=Tt _ hF;omega)⟩ (by rw[ce];exact⟨Z,Z⟩) (λ_=>by
  rw[ce];exact⟨Z,RR 14 11 Z Z Z⟩)).mono ?_
 generalize uw ts (mO ts 14) ⟨eQ,co,[],[],[],[],[],el⟩ aS=Le at*
 obtain⟨t,s1⟩:=Le;dsimp only at hC;rw[hC]at h;dsimp only at h;rintro _ kf ⟨rfl,s,Ge,hx,ku,FS⟩;dsimp only at*
 have Lt:=ku.size;have Gg:az [] w kf:=cc.trans ku λx hx=>.inr LM;have Gt:Stay bV eY kf:=Stay.of ku λx hx=>.inl LM;have GE:ChR aF 15 kf (Fr w5.heap.size) ⟨aT,t⟩ aC s:=⟨((cC.sl ft λk hk=>hk).stay ft Z Gt).low ft J,(cG aF 15).low hx J⟩
 have F7:=hx;obtain⟨q,G,O,v,rfl,_⟩:=F7;have T:∀{aS u':aw} {bs:L Nat},w5.heap.size<=aS.heap.size->az bs aS u'->(∀x,x∈bs->x=a∨x=b)->cj [m,o,k3] aS u':=λhz bY hb=>bY.same λx hx=>⟨LM,λhm=>by have:=hb x hm;simp only[bh,bI,cO]at hx;omega⟩
 refine⟨I,T J ku X,r,_,_,_,_,_,_,_,_,FS.blk,aC,_,_,_,_,q,G,O,v,_,Ge,?_⟩;have st:∀{aS u':aw} {x:Sx},Sr F ts aS a r x->aG aS b 29 (aC.v::qD t.b.k t.b.nm t.b.ini t.b.dft q G O v t.b.a)->az [] w aS->ChR aF 15 aS (Fr w5.heap.size) ⟨aT,t⟩ aC (qD t.b.k t.b.nm t.b.ini t.b.dft q G O v t.b.a)->∀{y:Sx},Dn F ts aS u' a r y->Sr F ts u' a r y/\aG u' b 29 (aC.v::qD t.b.k t.b.nm t.b.ini t.b.dft q G O v t.b.a)/\az [] w u'/\ChR aF 15 u' (Fr w5.heap.size) ⟨aT,t⟩ aC (qD t.b.k t.b.nm t.b.ini t.b.dft q G O v t.b.a):=fun{aS u' x} i U V a4 {y} d=>
  ⟨d.r,d.o.blk U Uf,oD V d,a4.stay (Stay.of d.o λx hx=>.inl CQ)⟩
 refine⟨λVg GG HU HV NI Z1 Z2 Z3 Z4 GO IO GT H1 Id If Is ID IF IN j8=>w5.heap.size<=j8.heap.size/\Sr F ts j8 a r (O3 ts s1)/\aG j8 b 29 (aC.v::qD t.b.k t.b.nm t.b.ini t.b.dft q G O v t.b.a)/\az [] w j8/\ChR aF 15 j8 (Fr w5.heap.size) ⟨aT,t⟩ aC (qD t.b.k t.b.nm t.b.ini t.b.dft q G O v t.b.a),?_,?_⟩
 .rintro Vg GG HU HV NI Z1 Z2 Z3 Z4 GO IO GT H1 Id If Is ID IF IN j8 ⟨y,i,U,V,a4⟩;refine(pX i).mono ?_;rintro _ mB ⟨rfl,d⟩;obtain⟨b1,b2,b3,b4⟩:=st i U V a4 (i.dn.q d);have OF:=d.size;refine⟨_,I,T y d X,r,_,_,_,_,_,_,_,_,b1.blk,aC,_,_,_,_,q,G,O,v,_,b2,λhf oH qL _ _ LE LT f MK Nm n No NO Of Or=>⟨λk=>k=a,I,λe=>f e,λe=>n e,λsM uR _ _=>?_⟩,λhf qK F _ _=>?_⟩
  .have hf:(O3 ts s1).fc≠0:=f0
   rw[K hf]at h;subst h;exact⟨Sl.nil,_,I,afP,(b3.bU qL).trans uR λx hx=>.inr LM⟩
  have hf:¬(O3 ts s1).fc≠0:=f0
  rw[R hf]at h;subst h;refine⟨aC,_,I,(b4.stay (Stay.of F λx hx=>.inl LM)).low f6.size,b3.trans F λx hx=>.inr LM⟩
 refine⟨λd So f Z9 WF WP ST To TO UP k UV n x y ON OR Pi Pp RK e=>d=YR (s1.fc=0/\(tk ts s1.i).k≠5)/\w5.heap.size<=e.heap.size/\Sr F ts e a r s1/\aG e b 29 (aC.v::qD t.b.k t.b.nm t.b.ini t.b.dft q G O v t.b.a)/\az [] w e/\ChR aF 15 e (Fr w5.heap.size) ⟨aT,t⟩ aC (qD t.b.k t.b.nm t.b.ini t.b.dft q G O v t.b.a),?_,λuZ sV _ _=>?_⟩
 .rintro d So f Z9 WF WP ST To TO UP k UV n x y ON OR Pi Pp RK e ⟨rfl,F,i,U,V,a4⟩;unfold O3;refine⟨λhb=>(xj i).mono ?_,λhb=>?_⟩
  .rw[K (u hb)];rintro _ ry ⟨rfl,h26⟩;obtain⟨d,b2,b3,b4⟩:=st i U V a4 h26;have z26:=h26.o.size;exact⟨I,T F h26.o X,r,_,_,_,_,_,_,_,_,d.blk,aC,_,_,_,_,q,G,O,v,_,b2,J,d,b2,b3,b4⟩
  rw[R (aU hb)];exact⟨F,i,U,V,a4⟩
 have z27:=sV.size;obtain⟨i,U,V,a4⟩:=st FS Ge Gg GE (FS.dn.q sV);refine(pX i).mono ?_;rintro _ we ⟨rfl,sW⟩;obtain⟨d,F,b3,b4⟩:=st i U V a4 (i.dn.q sW);have z28:=sW.size;obtain⟨ad,g1,g2⟩:=d.now;refine⟨_,I,T J sW X,r,_,_,_,_,_,_,_,_,d.blk,aC,_,_,_,_,q,G,O,v,_,F,λhb=>⟨ad,g1,_,g2.dP 0 _ I,?_,J,d,F,b3,b4⟩,λhb=>⟨?_,J,d,F,b3,b4⟩⟩
 .have hb:s1.fc=0:=Xu
  rw[bK];simp[hb]
 have hb:¬s1.fc=0:=Xu
 simp[hb]
def Bu(w:aw)(b k:Nat):Prop:=∃n c,w.cell? ⟨b,1,Pw⟩=aN (.slice (aN ⟨k,0,Pw⟩) n c)
structure Mw (f:Bool) (b:Nat) (w w':aw):Prop where
 o:aE (λk=>k=b∨(f=aM/\Bu w b k)) w w'
 u:∀k,Bu w' b k->Bu w b k∨(f=aM/\w.heap.size<=k)
abbrev St:=M×Int
structure Qz (w0:aw) (b:Nat) (w:aw) (l:C) (st:St):Prop where
 o:az [] w0 w
 lo:w0.heap.size<=b
 ex:∃(q:Option Addr) (sl:Sl),(q=Pw∨q=aN ⟨b,0,Pw⟩)/\aG w b 234 [ae q,sl.v,aj st.1,O U st.2]/\Bf w (b+1) sl l
 i:st.1=aM->0<=st.2/\st.2<=400
 big:qj l<=274877906944
structure Up (st:St) (c:Bool) (n:Nat) (dk:St):Prop where
 w:dk.1=((st.1||!c)||decide (400<st.2+n))
 a:dk.1=aM->dk.2=st.2+n
def Hy{a b c}(h:aM=((a||!b)||c)):a=aM/\b=aF/\c=aM:=by
 revert h;cases a<;>cases b<;>cases c<;>decide
def Up.ok{st dk}{c}{n}(h:Up st c n dk)(e:dk.1=aM):st.1=aM/\c=aF/\dk.2=st.2+n/\¬400<st.2+n:=by
 obtain⟨a,b,d⟩:=Hy (e.symm.trans h.w);exact⟨a,b,h.a e,aU d⟩
def Up.tr{st dk akg}{c c'}{n n'}(h:Up st c n dk)(k:Up dk c' n' akg):Up st (c&&c') (n+n') akg:=by
 cases e:akg.1
 .obtain⟨d,f,k3,j⟩:=k.ok e;obtain⟨a,b,g,i⟩:=h.ok d;have c:¬400<st.2+((n+n':Nat)):=J
  refine⟨?_,λ_=>J⟩;rw[e,a,b,f,bD c];rfl
 refine⟨?_,λb=>by rw[e]at b;cases b⟩;rw[e];refine Eq.symm (bS λj=>?_);obtain⟨f,a,c⟩:=Hy (eF.2 j).symm;rw[B]at a;have c:=aU c;have g:¬400<st.2+n:=J
 have d:dk.1=aM:=by rw[h.w,f,a.1,bD g];rfl
 have b:=h.a d;have i:¬400<dk.2+n':=J
 have:=k.w;rw[e,d,a.2,bD i]at this;cases this
def Up.cg{st dk}{c c'}{n n'}(h:Up st c n dk)(e:c=c')(a:n=n'):Up st c' n' dk:=by subst e a;exact h
def Up.le{st dk}{c}{n}(h:Up st c n dk)(f:st.1=aM->0<=st.2)(e:dk.1=aM):0<=dk.2/\dk.2<=400:=by
 obtain⟨a,b,d,g⟩:=h.ok e;have:=f a;omega
section
variable {f g:M} {w0 ws w w' w1 wo:aw} {b k:Nat} {l l':C} {st dk:St} {ks ks':L Nat}
def Mw.refl f b w:Mw f b w w:=⟨YW _ _,λ_ h=>.inl h⟩
def Mw.trans(a:Mw f b w w')(k:Mw f b w' wo):Mw f b w wo:=by
 have z:=a.o.size;refine⟨a.o.trans k.o λx h=>?_,λx h=>?_⟩
 .rcases h with h | ⟨f,h⟩
  .exact .inl (.inl h)
  rcases a.u x h with e | ⟨_,e⟩
  .exact .inl (.inr ⟨f,e⟩)
  exact .inr e
 rcases k.u x h with e | ⟨f,e⟩
 .exact a.u x e
 exact .inr ⟨f,J⟩
def Mw.up(h:Mw f b w w'):Mw aM b w w':=⟨h.o.mono λk _ hk=>hk.elim .inl λe=>.inr ⟨I,e.2⟩,λk hk=>(h.u k hk).elim .inl λe=>.inr ⟨I,e.2⟩⟩
def Mw.only1(h:Mw aF b w w'):az [b] w w':=h.o.ap6 λk hk=>hk.elim (λe=>.inl (by rw[e];simp)) λe=>(by cases e.1)
def AE(a:w'.heap[b]? =w.heap[b]?){k}(d:Bu w' b k):Bu w b k:=by
 obtain⟨n,c,h⟩:=d;refine⟨n,c,?_⟩;unfold World.cell? at h⊢;rw[a]at h;exact h
def Qz.lb(h:Qz w0 b w l st):b<w.heap.size:=by
 obtain⟨q,sl,_,B,_⟩:=h.ex;exact B.lt
def Qz.arg(h:Qz w0 b w l st)(a:Qz w0 b w' l' dk){k}(hk:k<w0.heap.size):w'.heap[k]? =w.heap[k]? :=(a.o.block k hk X).trans (h.o.block k hk X).symm
def Mw.only(a:b<w.heap.size)(h:az [] w w'):Mw f b w w':=⟨h.p0,λk hk=>.inl (AE (h.block b a X) hk)⟩
def RS{q v2 v3}{t}{sl:Sl}(B:aG w b t [q,sl.v,v2,v3]){k}(h:Bu w b k):sl.a=aN ⟨k,0,Pw⟩:=by
 obtain⟨n,c,d⟩:=h;have:=Om B 1 I 0 sl.v I;have e:(Addr.add ⟨b,0,Pw⟩ 1).add 0=⟨b,1,Pw⟩:=I;rw[e,d]at this;have:=DX this;injection this with a _ _;exact a.symm
def Mo{q v2 v3}{t}{sl:Sl}(B:aG w b t [q,sl.v,v2,v3]){k}(h:sl.a=aN ⟨k,0,Pw⟩):Bu w b k:=by
 have:=Om B 1 I 0 sl.v I;have e:(Addr.add ⟨b,0,Pw⟩ 1).add 0=⟨b,1,Pw⟩:=I;rw[e]at this;refine⟨sl.n,sl.c,?_⟩;rw[this,<-h]
def Qz.bu(h:Qz w0 b w l st){k}(hk:Bu w b k):b<k/\k<w.heap.size:=by
 obtain⟨q,sl,_,B,a⟩:=h.ex;have:=a.lt (RS B hk);omega
def Qz.only(h:Qz w0 b w l st)(O:az [] w w'):Qz w0 b w' l st:=by
 obtain⟨q,sl,d,B,a⟩:=h.ex;exact⟨h.o.bU O,h.lo,⟨q,sl,d,O.blk B X,a.keep λg _ c=>O.block g c X⟩,h.i,h.big⟩
structure Zq (f:Bool) (w0 ws:aw) (b:Nat) (w:aw) (l:C) (st:St) (ks:List Nat):Prop extends Qz w0 b w l st where
 m:Mw f b ws w
 k:∀k,k∈ks->k<w.heap.size/\k≠b/\¬Bu w b k
def Qz.z f (h:Qz w0 b w l st):Zq f w0 w b w l st []:=⟨h,Mw.refl f b w,λk hk=>IL⟩
def Zq.q(t:Zq f w0 ws b w l st ks)(h:az [] w w'):Zq f w0 ws b w' l st ks:=by
 have a:=t.toQz.lb;refine⟨t.toQz.only h,t.m.trans (Mw.only a h),λk hk=>?_⟩;obtain⟨d,e,g⟩:=t.k k hk;exact⟨cq d h.size,e,λc=>g (AE (h.block b a X) c)⟩
def Zq.al(t:Zq f w0 ws b w l st ks)(O:az [] w w')(e:w.heap.size<=k)(c:k<w'.heap.size):Zq f w0 ws b w' l st (k::ks):=by
 have d:=t.toQz.lb;have a:=t.q O;refine⟨a.toQz,a.m,λx h=>?_⟩;rcases bh.1 h with rfl | h
 .exact⟨c,J,λf=>by have:=(t.toQz.bu (AE (O.block b d X) f)).2;omega⟩
 exact a.k x h
def Zq.nx(t:Zq f w0 ws b w l st ks)(p:Qz w0 b w' l' dk)(m:Mw f b w w'):Zq f w0 ws b w' l' dk ks:=by
 refine⟨p,t.m.trans m,λk hk=>?_⟩;obtain⟨a,c,d⟩:=t.k k hk;exact⟨cq a m.o.size,c,λh=>(m.u k h).elim d λe=>by have:=e.2;omega⟩
def Zq.sq(t:Zq f w0 ws b w l st ks)(h:az [] w w')(hk:∀k,k∈ks'->k∈ks):cj ks' w w':=h.same λx a=>⟨(t.k x (hk x a)).1,X⟩
def Zq.sm(t:Zq f w0 ws b w l st ks)(m:Mw g b w w')(hk:∀k,k∈ks'->k∈ks):cj ks' w w':=m.o.same λx h=>⟨(t.k x (hk x h)).1,λa=>a.elim (t.k x (hk x h)).2.1 λe=>(t.k x (hk x h)).2.2 e.2⟩
def Zq.sj(t:Zq f w0 ws b w l st ks)(z:w.heap.size<=w1.heap.size)(h:aE (λk=>w.heap.size<=k) w1 w')(hk:∀k,k∈ks'->k∈ks):cj ks' w1 w':=h.same λx a=>by
 have:=(t.k x (hk x a)).1;exact⟨J,J⟩
def Zq.row(t:Zq aF w0 ws b w l st ks)(r:b<ws.heap.size)(u:∀k,Bu ws b k->k<ws.heap.size)(h:aE (λk=>ws.heap.size<=k) w w'):Zq aF w0 ws b w' l st ks:=by
 have o:=t.lo;have a:=λk hk=>(t.m.u k hk).elim id λe=>(by cases e.1)
 have V:=h.block b t.toQz.lb J;obtain⟨q,sl,p,B,f⟩:=t.ex;refine⟨⟨⟨h.os.trans t.o.os,h.tape.trans t.o.tape,h.output.trans t.o.output,bB t.o.size h.size,λk hk _=>(h.block k (cq hk t.o.size) J).trans (t.o.block k hk X)⟩,o,⟨q,sl,p,V.trans B,f.keep λg m n=>h.block g n λe=>(by have:=u g (a g (Mo B m));omega)⟩,t.i,t.big⟩,⟨t.m.o.trans h λk hk=>.inr hk,λk hk=>.inl (a k (AE V hk))⟩,λk hk=>?_⟩;obtain⟨d,i,j⟩:=t.k k hk;exact⟨cq d h.size,i,λc=>j (AE V c)⟩
def bX.of{ks}(h:cj ks w w'):bX (λk=>k∈ks) w w':=λk hk _=>h k hk
def Zp:=@bX.of
def xn{w2}(a:az [] w w1)(b:aE (λk=>w.heap.size<=k) w1 w2):az [] w w2:=(a.nP b).only λ_ h=>h
end
def niP w (s:L _) {n} {parts} (p:parts=(((s.map λx=>Value.string (T x)).zipIdx 0).map λx=>(x.2,x.1)).toArray) (h:qj s=n) (k:0<n) (y:n*1<=16777216):
  ∃(q:Sl) (a:aw) (g:Nat) (c:aJ),(av 80 n parts).run aq w=.ok q.v a/\az [] w a/\w.heap.size<=g/\g<a.heap.size/\aG a g 9 c/\
   ∀(e:Nat) x,s[e]? =aN x->cK q e 1 ⟨g,e,Pw⟩/\∀w,aG w g 9 c->aD w ⟨g,e,Pw⟩ [ab (T x)]:=by
 obtain⟨q,a,l,m,k3⟩:=lp w s p h k y;rcases m with⟨_,e⟩ | ⟨g,j,tail,d,f,b,o,r,t,u,i⟩
 .subst e;simp at h;omega
 refine⟨q,a,g,_,l,k3,f,b.lt,b,λe x hx=>⟨⟨_,d,be e,?_,?_⟩,λw B=>Blk.at0 B e ?_⟩⟩
 .have:=(bc.1 hx).1;omega
 .rw[iK,ba,vV,bR]
 have:(s.map λx=>Value.string (T x))[e]? =aN (ab (T x)):=ui
 rw[Pc i,bZ (bc.1 this).1,this]
section
variable {w0 w:aw} {b:Nat} {l:C} {st:St}
def XV b j:(Addr.add ⟨b,0,Pw⟩ j)=⟨b,j,Pw⟩:=by rw[iK,bR]
def Qz.set(h:Qz w0 b w l st):∃(q:Option Addr) (sl:Sl),aG w b 234 [ae q,sl.v,aj st.1,O U st.2]/\
  ∀a d,az [b] w a->aG a b 234 [ae q,sl.v,aj d.1,O U d.2]->(d.1=aM->0<=d.2/\d.2<=400)->Qz w0 b a l d/\Mw aF b w a:=by
 obtain⟨q,sl,m,B,e⟩:=h.ex;exact⟨q,sl,B,λn K c s i=>⟨⟨⟨c.os.trans h.o.os,c.tape.trans h.o.tape,c.output.trans h.o.output,bB h.o.size c.size,λk hk _=>(c.block k (cq hk h.o.size) (by have:=h.lo;simp;omega)).trans (h.o.block k hk X)⟩,h.lo,⟨q,sl,m,s,e.keep λg f j=>c.block g j (by have:=(e.lt f).1;simp;omega)⟩,i,h.big⟩,⟨c.p λx hx=>.inl (.inl Xi),λk hk=>.inl (Mo B (RS s hk))⟩⟩⟩
def Qz.up0(h:Qz w0 b w l st):Up st aF 0 st:=by
 refine⟨?_,λ_=>X⟩;cases e:st.1
 .have:=(h.i e).2;have a:¬400<st.2+((0:Nat)):=J
  rw[bD a];rfl
 rfl
def RT{q}{sl:Sl}{wr}{ac}(h:aG w b 234 [ae q,sl.v,aj wr,O U ac]) ok:aA aq 170 #[rp b,aj ok] w λe a=>
  e=ak (ai #[])/\az [b] w a/\aG a b 234 [ae q,sl.v,aj (wr||!ok),O U ac]:=by
 exact ret (anS ok w ⟨wr,Om h 2 I,b,2,_,_,XV b 2,h,X,λd c s=>⟨I,c,s⟩⟩)
def mJ(h:Qz w0 b w l st) ok:aA aq 170 #[rp b,aj ok] w λe a=>e=ak (ai #[])/\∃d,Up st ok 0 d/\Qz w0 b a l d/\Mw aF b w a:=by
 obtain⟨q,sl,B,N⟩:=h.set;refine(RT B ok).mono ?_;rintro _ f ⟨rfl,c,s⟩;have u:Up st ok 0 (st.1||!ok,st.2):=by
  refine⟨?_,λe=>X⟩;cases e:st.1
  .have:=(h.i e).2;have b:¬400<st.2+((0:Nat)):=J
   rw[bD b,KL]
  simp
 exact⟨I,_,u,N f _ c s λe=>u.le (λe=>(h.i e).1) e⟩
def pY(h:Qz w0 b w l st) s (j:qj s<9223372036854775807):aA aq 172 #[rp b,ab (T s)] w λe a=>e=ak (ab (T s))/\∃d,Up st (dD s) 0 d/\Qz w0 b a l d/\Mw aF b w a:=by
 refine ret (anU ?_);refine(aeJ s j).mono ?_;rintro _ k ⟨rfl,c⟩;refine⟨_,I,(mJ (h.only c) _).mono ?_⟩;rintro _ m ⟨rfl,d,f,g,i⟩;exact⟨I,I,d,f,g,(Mw.only h.lb c).trans i⟩
def acu(m:Qz w0 b w l st){F}{x}{cs}(i:rE aM w F x cs)(o:Um x)(s:F2 x<=1759218604441)(E:Er w0)(n:Tb w0):
  aA aq 260 #[rp b,ah cs.toArray] w λe j=>e=ak (ab (T (yz x)))/\∃d,Up st (uz x) 0 d/\Qz w0 b j l d/\Mw aF b w j:=by
 obtain⟨y,rfl⟩:=fD i;refine ret (aoH ?_);intro p q N S r;have t:=(m.z aF).al r N S;refine(adf ((jJ aM).keep i λk _ W=>r.block k W X) o s (E.only t.o) (n.only t.o)).mono ?_;rintro _ u ⟨rfl,c⟩;have a:=t.q c;refine⟨_,I,t.sq c X,(mJ a.toQz _).mono ?_⟩;rintro _ v ⟨rfl,d,h,f,g⟩;rw[show ao #[]=T []from rfl,ji]at h;have e:(!YR (yz x=[]))=uz x:=by unfold uz;rw[decide_not]
 rw[e]at h;exact⟨I,a.sm g X,I,d,h,f,(a.nx f g).m⟩
def acH(j:Qz w0 b w l st){F}{x}{cs}(c:rE aM w F x cs):
  aA aq 261 #[rp b,ah cs.toArray] w λe g=>e=ak (ai #[])/\∃k,Up st (rW x) 0 k/\Qz w0 b g l k/\Mw aF b w g:=by
 have i:∃s,cs=oM x.k x.n x.s x.op s x.a/\s.n=qj x.dK:=by
  obtain⟨d,c⟩:=c;cases d with
  | zero=>exact c.elim
  | succ d=>
   obtain⟨sl,h,a,_⟩:=c;exact⟨sl,h,a.len⟩
 obtain⟨s,rfl,m⟩:=i;refine ret (aoI ?_);intro n o N S r;have t:=(j.z aF).al r N S;refine(mJ t.toQz _).mono ?_;rintro _ p ⟨rfl,k,h,a,f⟩;rw[show ao #[]=T []from rfl,ji,m]at h;exact⟨I,t.sm f X,I,k,h,a,(t.nx a f).m⟩
def neN(h:Qz w0 b w l st):aA aq 175 #[rp b] w λe a=>e=ak (aj (YR (16384<qj l)))/\a=w:=by
 refine ret (anW ?_);obtain⟨q,sl,d,B,c⟩:=h.ex;refine(afA (λv a=>v=O U (qj l)/\a=w) w ?_).mono ?_
 .exact⟨sl,Om B 1 I,by rw[c.len],I⟩
 rintro _ w ⟨v,rfl,rfl,rfl⟩;refine⟨_,I,?_,I⟩;congr 1;simp;omega
end
def Kx(a:Ac):Nat:=F2 a.x+(qj a.n+1)
def lg:L Ac->Nat
 | []=>0
 | a::l=>Kx a+lg l
def uE{a:Ac}:∀{l:L Ac},a∈l->Kx a<=lg l
 | [],h=>Ux
 | x::l,h=>by
  rw[lg];rcases bh.1 h with rfl | h
  .omega
  have:=uE h;omega
def iB:∀(l:L Ac),qj l<=lg l
 | []=>bf _
 | a::l=>by
  have:=iB l;rw[lg,aZ];unfold Kx;omega
def Mp(l:L (C)):Nat:=(l.map λs=>qj s+1).sum
def Hj(m:Mv):Nat:=(lg m.acts+F2 m.g)+(Mp m.tg+(qj m.ev+1))
def Jg(x:Ex):qj (yz x)<=16384:=by
 by_cases h:yz x=[]
 .rw[h];exact bf _
 obtain⟨c,b,a⟩:=Mb h;refine bS λd=>?_;have e:yz x=rQ (Gp x) x aM []:=b;rw[<-e]at a;unfold iV at a;have:de (yz x)=([],2, -1):=by rw[de,K J]
 rw[this,K Z]at a;exact absurd a (show ¬(2:Int)=0 by decide)
def vH{s:C}(h:dD s=aF):ne s=aF:=by
 unfold dD at h;simp only[B]at h;have:=(u h.1.1.1).1;unfold ne;rw[bD this];rfl
def apk{x:Ex}(h:uz x=aF):ne (yz x)=aF:=by
 unfold ne;rw[bD (u h)];rfl
def tC{x:C}(h:ne x=aF)(w:L (C)):iJ (x::w)=x++Lib.joinTail [32] (w.filter ne):=by
 unfold iJ;rw[pO,h,K I,Lib.join_cons]
def ix(x:C)(r:L (C)):Lib.joinTail [32] (x::r)=32::(x++Lib.joinTail [32] r):=by
 unfold Lib.joinTail;rw[cf,fk];rfl
def pD:Lib.joinTail [32] []=[]:=rfl
def iy{x:C}(h:ne x=aF)(w:L (C)):(x::w).filter ne=x::w.filter ne:=by rw[pO,h,K I]
def aij(w:L (C)):([]::w).filter ne=w.filter ne:=by rw[pO,R Z]
def YF(a:Ac):L (C):=if a.k=2 then[lQ,a.n]else[if a.k=1 then tM else mZ,a.n,[61],yz a.x]
def afQ{a:Ac}(h:iZ a=aF):iJ (YF a)++[59]=Du a:=by
 unfold iZ at h;simp only[B]at h;obtain⟨⟨d,b⟩,c⟩:=h;unfold YF Du;by_cases hk:a.k=2
 .rw[K hk,K hk,tC Z,iy (vH b),fj,ix,pD];simp
 rw[R hk]at c;have w:ne (if a.k=1 then tM else mZ)=aF:=by split<;>decide
 rw[R hk,R hk,tC w,iy (vH b),iy Z,iy (apk c),fj,ix,ix,ix,pD];simp
def adm(a:Ac):qj (iJ (YF a))<=16398+qj a.n:=by
 refine bB (kR _) ?_;have:=Jg a.x;unfold YF;split
 .simp only[cf,iu,dl,lY];show 5+1+(qj a.n+1+0)<=_;omega
 simp only[cf,iu,dl,lY];have:qj (if a.k=1 then tM else mZ)<=4:=by split<;>decide
 show _+1+(qj a.n+1+(1+1+(_+1+0)))<=_;omega
section
variable {w0 w:aw} {b:Nat} {l:C} {st:St}
def apl(i:Qz w0 b w l st){F:A}{a:Ac}{c:aJ}(h:uW aM w F a c)(p:∀k,F k->k<w0.heap.size)(B:Hc a)(C:Kx a<=1759218604441)(E:Er w0)(z:Tb w0):
  aA aq 259 #[rp b,ah c.toArray] w λe d=>∃s f,e=ak (ab (T s))/\qj s<=16400+qj a.n/\(iZ a=aF->s=Du a)/\Up st (iZ a) 0 f/\Qz w0 b d l f/\Mw aF b w d:=by
 obtain⟨H,rfl,h⟩:=h;obtain⟨M,rfl⟩:=fD h;unfold Kx at C;refine gX (aoG ?_);intro r D N S v;have u:=(i.z aF).al v N S;obtain⟨q,G,g,c,y,P,m,o,U,L⟩:=niP D [[],tM,lQ,mZ] (n:=4) (parts:=#[.mk 0 (ab (ao #[])),.mk 1 (ab (ao #[115,101,116])),.mk 2 (ab (ao #[114,97,105,115,101])),.mk 3 (ab (ao #[101,109,105,116]))]) I I Z Z;have t:=u.al P m o;have tail:=adm a;refine⟨q,G,y,u.sq P X,λj=>?_,λj=>?_⟩
 .refine(mJ t.toQz aM).mono ?_;rintro _ w ⟨rfl,f,l,b,k⟩;have hk:iZ a=aM:=by
   unfold iZ;have:¬(1<=a.k/\a.k<=3):=by
    simp only[cy,bF]at j;omega
   rw[bD this];rfl
  exact⟨I,t.sm k X,[],f,I,bf _,λe=>(by rw[hk]at e;cases e),by rw[hk];exact l,b,(t.nx b k).m⟩
 have V:1<=a.k/\a.k<=3:=by
  simp only[fe,db]at j;omega
 have w:∀x,[[],tM,lQ,mZ][a.k.toNat]? =aN x->cK q a.k 1 ⟨g,a.k.toNat,Pw⟩/\∀d,aG d g 9 c->aD d ⟨g,a.k.toNat,Pw⟩ [ab (T x)]:=λx h=>by
  have:=L _ x h;rwa[gu J]at this
 refine⟨λiG=>?_,λiG e b=>?_⟩
 .have hk:a.k=2:=LB
  have hW:YF a=[lQ,a.n]:=by unfold YF;rw[K hk]
  refine(acH t.toQz ((jJ aM).keep h λk hk _=>i.arg t.toQz (p k hk))).mono ?_;rintro _ w3 ⟨rfl,am,u1,u2,W⟩;have t3:=t.nx u2 W;refine⟨I,t.sm W X,λw4 dQ=>⟨λk=>k∈[r,g],X,?_⟩⟩;have s:=t3.q dQ;obtain⟨y1,y2⟩:=w lQ UR;have sO:aG w4 g 9 c:=(t3.sq (ks':=[g]) dQ X g X).trans ((t.sm (ks':=[g]) W X g X).trans U);refine⟨_,y1,X,_,y2 w4 sO,(pY s.toQz a.n J).mono ?_⟩;rintro _ w5 ⟨rfl,Q,v1,v2,Y⟩;have l:=s.nx v2 Y;obtain⟨q6,w6,e6,q,_,hj⟩:=Hg w5 [lQ,a.n] (n:=2) (parts:=#[.mk 0 (ab (T lQ)),.mk 1 (ab (T a.n))]) I I Z Z (by rw[<-hW];omega);have z6:=q.size;refine⟨_,I,s.sm Y X,Zp (s.sm Y X),q6,w6,e6,l.sq q X,Zp (l.sq q X),hj.mono ?_⟩;rintro _ w7 ⟨rfl,x⟩;have gq:=xn q x;have t7:=l.q gq;have hU:=u1.tr v1;have O:iZ a=(rW a.x&&dD a.n):=by
   unfold iZ;rw[K hk,bG V,ch,Bool.and_comm]
  rw[<-O]at hU;rw[<-hW];refine⟨_,I,l.sj z6 x X,Zp (l.sj z6 x X),Yv,iJ (YF a)++[59],Q,K5,XO,λO=>afQ O,hU,t7.toQz,t7.m⟩
 have hk:a.k≠2:=LB
 have hW:YF a=[if a.k=1 then tM else mZ,a.n,[61],yz a.x]:=by unfold YF;rw[R hk]
 have Q:=t.q b;obtain⟨y1,y2⟩:=w (if a.k=1 then tM else mZ) (by
  by_cases k:a.k=1
  .rw[K k,k];rfl
  rw[R k,show a.k=3 by omega];rfl)
 have yW:aG e g 9 c:=(t.sq (ks':=[g]) b X g X).trans U;refine⟨λk=>k∈[r,g],X,_,y1,X,_,y2 e yW,X,(pY Q.toQz a.n J).mono ?_⟩;rintro _ w9 ⟨rfl,aS,u1,u2,u3⟩;have x:=Q.nx u2 u3;refine⟨_,I,Q.sm u3 X,Zp (Q.sm u3 X),(acu x.toQz ((jJ aM).keep h λk hk _=>i.arg x.toQz (p k hk)) B J E z).mono ?_⟩;rintro _ dq ⟨rfl,W,v1,v2,v3⟩;have l:=x.nx v2 v3;obtain⟨aC,dB,Y,O,_,hj⟩:=Hg dq [if a.k=1 then tM else mZ,a.n,[61],yz a.x] (n:=4) (parts:=#[.mk 0 (ab (T (if a.k=1 then tM else mZ))),.mk 1 (ab (T a.n)),.mk 2 (ab (T [61])),.mk 3 (ab (T (yz a.x)))]) I I Z Z (by rw[<-hW];omega);have GD:=O.size;refine⟨_,I,x.sm v3 X,Zp (x.sm v3 X),aC,dB,Y,l.sq O X,Zp (l.sq O X),hj.mono ?_⟩;rintro _ ey ⟨rfl,q⟩;have eV:=xn O q;have s:=l.q eV;have hU:=u1.tr v1;have jM:iZ a=(dD a.n&&uz a.x):=by
  unfold iZ;rw[R hk,bG V,ch]
 rw[<-jM]at hU;rw[<-hW];refine⟨_,I,l.sj GD q X,Zp (l.sj GD q X),Yv,iJ (YF a)++[59],W,K5,XO,λjM=>afQ jM,hU,s.toQz,s.m⟩
end
def Up.bad{st d:St}{c b:M}{n g:Nat}(j:Up st c n d)(e:d.1=aF)(k:b=aF->c=aF)(l:n<=g):Up st b g d:=by
 refine⟨?_,λf=>by rw[e]at f;cases f⟩;rw[e];refine Eq.symm (bS λhk=>?_);obtain⟨h,i,a⟩:=Hy (eF.2 hk).symm;have a:=aU a;have:=j.w;rw[e,h,k i,bD (show ¬400<st.2+(n:Int) by omega)]at this;cases this
def AF:∀(l m:L Ac),lg (l++m)=lg l+lg m
 | [],m=>by rw[cd];show _=0+_;omega
 | a::l,m=>by rw[cb,lg,lg,AF l m];omega
def aik(a:Ac):ne (Du a)=aF:=by
 have:Du a≠[]:=by unfold Du;split<;>simp
 unfold ne;rw[bD this];rfl
def XW:∀l:L Ac,Lib.joinTail [32] ((l.map Du).filter ne)=An l
 | []=>rfl
 | a::l=>by rw[cf,iy (aik a),ix,XW l,An]
def ail(x y:L (C)):Lib.joinTail [32] (x++y)=Lib.joinTail [32] x++Lib.joinTail [32] y:=by
 unfold Lib.joinTail;rw[cA,Kn]
def apm(l:L Ac):iJ ([123]::(l.map Du++[[125]]))=zU l:=by
 rw[tC Z,fh,ail,XW];rfl
def afR{d:aw}{B:Nat}{s:Sl}{f:L (C)}(n:Own nU 1 9 B d (λ_=>True) s f)(x:C)(o:B<=d.heap.size)(q:qj f<=1073741824):
  ∃y w,(av 80 1 #[.mk 0 (ab (T x))]).run aq d=.ok (Sl.v y) w/\az [] d w/\∃c a,(Builtin.append_ #[80,80] 80 #[Sl.v s,Sl.v y]).run aq w=.ok (Sl.v c) a/\
   Own nU 1 9 B a (λ_=>True) c (f++[x])/\∃b,az b w a/\∀g,g∈b->s.a=aN ⟨g,0,Pw⟩/\B<=g:=by
 obtain⟨y,w,l,r,c,a,m,p,⟨b,j,X⟩,_⟩:=kx (P:=aq) (t:=80) (ty:=80) (e:=9) (i:=Tryz.t9) (bytes:=16) (size:=1) (v:=ab (T x)) (x:=x) (G:=λ_=>False) E E I I I I Z Z Z dG n o I I (λk hk _=>hk.elim) J;exact⟨y,w,l,r,c,a,m,p.mono dG λk _=>trivial,b,j,λg h=>⟨(X g h).1,(X g h).2.1⟩⟩
def _root_.Go.Kt.Own.ZP{w d:aw}{B b:Nat}{s:Sl}{f:L (C)}(h:Own nU 1 9 B w (λ_=>True) s f)(r:az [b] w d)(t:b<B):Own nU 1 9 B d (λ_=>True) s f:=by
 rcases h with⟨rfl,rfl⟩ | ⟨g,a,tail,i,j,l,m,n,o,q,p⟩
 .exact .inl ⟨I,I⟩
 have e:∀{b:L (C)} {a:L (aJ)},pR nU 1 w (λk=>True/\k≠g) b a->pR nU 1 d (λk=>True/\k≠g) b a:=fun{b}=>by
  induction b with
  | nil=>intro a h;cases a with | nil=>trivial | cons _ _=>exact h
  | cons x b e=>intro a h;cases a with | nil=>exact h | cons c a=>exact⟨h.1,e h.2⟩
 exact .inr ⟨g,a,tail,i,j,r.blk l S,m,n,o,q,e p⟩
def nXb{a:Type}{p:a->M}{s:L a}{j:Nat}(h:s.all p=aF):(s.take j).all p=aF:=by
 rw[du]at h⊢;exact λx b=>h x (GN b)
def nMb(w:L (C))(x:C):((w++[x]).map λl=>qj l+1).sum=(w.map λl=>qj l+1).sum+(qj x+1):=by
 rw[cA,Rk];simp
section
variable {w0 w:aw} {b:Nat} {l:C} {st:St}
def Jh(h:Qz w0 b w l st){F:A}{s:Sl}{c:L Ac}(hx:aB (uW aM) 9 w F s c)(g:∀k,F k->k<w0.heap.size)(m:∀a,a∈c->Hc a)(o:lg c<=16777216)(E:Er w0)(j:Tb w0):
  aA aq 223 #[rp b,s.v] w λe f=>∃t d,e=ak (ab (T t))/\qj t<=16405*lg c/\(d.1=aM->t=if c=[]then[]else zU c)/\Up st (c.all iZ) (qj c) d/\Qz w0 b f l d/\Mw aF b w f:=by
 refine gX (aom ?_);have i:=hx.len;have z:=iB c;refine⟨λhc=>?_,λhc=>?_⟩
 .have hc:s.n=0:=by have:((s.n:Int))=0:=Yc;omega
  have:c=[]:=bL J;subst this;exact⟨[],st,I,bf _,λ_=>(K I).symm,h.up0,h,Mw.refl _ _ _⟩
 have P:c≠[]:=λe=>by
  subst e;have:s.n=0:=i;rw[this]at hc;exact absurd hc Z
 obtain⟨q,sl,O,S⟩:=h.set;refine⟨st.2,Om O 3 I,b,3,_,_,XV b 3,O,X,λw1 Y Q=>⟨_,Om Q 3 I,(RT (q:=q) (sl:=sl) (wr:=st.1) (ac:=au U (st.2+(s.n:Int))) Q _).mono ?_⟩⟩;rintro _ p ⟨rfl,V,mU⟩;have t:Up st aF (qj c) (st.1||!YR (au U (st.2+(s.n:Int))<=400),au U (st.2+(s.n:Int))):=by
  cases e:st.1
  .have:=h.i e;have b:au U (st.2+(s.n:Int))=st.2+qj c:=by rw[i];exact eS J J
   rw[b];refine⟨?_,λ_=>I⟩;rw[e];by_cases a:st.2+(qj c:Int)<=400
   .rw[bG a,bD J];rfl
   rw[bD a,bG J];rfl
  exact⟨by rw[e];rfl,λa=>by cases a⟩
 obtain⟨B,rD⟩:=S p _ (Y.trans V λx hx=>.inl hx) mU λe=>t.le (λe=>(h.i e).1) e;generalize (st.1||!YR (au U (st.2+(s.n:Int))<=400),au U (st.2+(s.n:Int)))=M at*
 have v:=B.lb;have r:∀k,Bu p b k->k<p.heap.size:=λk hk=>(B.bu hk).2;obtain⟨q3,w3,e3,W,N,_⟩:=Hg p [[123]] (n:=1) (parts:=#[.mk 0 (ab (T [123]))]) I I Z Z Z;have t3:=(B.z aF).q W;refine⟨I,q3,w3,e3,λD f=>∃w d,Own nU 1 9 p.heap.size f (λ_=>True) D w/\qj w<=16777217/\(w.map λl=>qj l+1).sum<=2+16401*lg c/\(d.1=aM->w=[123]::c.map Du)/\Up M (c.all iZ) 0 d/\Zq aF w0 p b f l d [],?_,?_⟩
 .rintro D w4 ⟨w,s,a,aC,aS,l,b,n⟩;have z4:=n.m.o.size;obtain⟨y,w5,e5,eJ,s6,w6,e6,U,gs,T,yX⟩:=afR a [125] z4 J;refine⟨y,w5,e5,s6,w6,e6,?_⟩;have t6:=(n.q eJ).row v r (T.p (F:=λk=>p.heap.size<=k) λx hx=>.inl (yX x hx).2);have Qs:=nMb w [125];have mV:=kR (w++[[125]]);have V0:qj ([125]:C)=1:=I;refine(E5 U J XO).mono ?_;rintro _ w7 ⟨rfl,G⟩;have q:=t6.row v r G;have am:1<=lg c:=by
   have:1<=qj c:=mD.2 P;omega
  refine⟨_,I,iJ (w++[[125]]),s,I,J,λe=>?_,(t.tr b).cg X X,q.toQz,rD.trans q.m⟩;rw[R P,l e];exact apm c
 refine⟨λnv D bV f=>∃(n:Nat) (w:L (C)) (d:St),bV=n/\n<=qj c/\nv=(qj c)-n/\Own nU 1 9 p.heap.size f (λ_=>True) D w/\qj w<=n+1/\(w.map λl=>qj l+1).sum<=2+16401*lg (c.take n)/\(d.1=aM->w=[123]::(c.take n).map Du)/\Up M ((c.take n).all iZ) 0 d/\Zq aF w0 p b f l d [],
  (qj c),⟨0,[[123]],M,I,bf _,I,N,H _,H _,λ_=>I,B.up0,t3⟩,?_⟩
 rintro nv l4 _ w7 ⟨n,w,T,rfl,hj,rfl,q,bv,aT,U,TH,t7⟩;have z7:=t7.m.o.size;have ZT:lg c=lg (c.take n)+lg (c.drop n):=by rw[<-AF,dM]
 refine⟨λhc=>?_,λhc=>?_⟩
 .have bW:(n:Int)<s.n:=u hc;have ce:aB (uW aM) 9 w7 F s c:=Ic (dW aM) hx Z λk hk _=>h.arg t7.toQz (g k hk);obtain⟨ad,a,cs,g1,g2,g3,g4,g5,g6⟩:=ce.get (be n) bW;rw[ba]at g2;have ha:=bp g2;have lS:c.take (n+1)=c.take n++[a]:=by
   rw[bn,g2];rfl
  have cc:lg (c.take (n+1))=lg (c.take n)+Kx a:=by
   rw[lS,AF];show _+(Kx a+0)=_;omega
  have co:lg c=lg (c.take (n+1))+lg (c.drop (n+1)):=by rw[<-AF,dM]
  obtain⟨xc,rfl,bY⟩:=g6;obtain⟨xl,rfl⟩:=fD bY;refine⟨ad,g1,_,_,_,_,_,_,_,_,_,g5,λk5 w8 sP FU fK=>?_⟩;have t8:=t7.al fK sP FU;obtain⟨q8,cC,yW,_⟩:=t8.toQz.set;refine⟨T.1,Om yW 2 I,λhw=>?_,λhw=>?_⟩
  .have a:Zq aF w0 p b w8 l T []:=⟨t8.toQz,t8.m,λk hk=>IL⟩
   have s:=q.keep dG λk hk bW=>fK.block k bW X;exact⟨w,T,s,J,J,λe=>absurd (hw.symm.trans e) Z,TH.bad hw nXb (H _),a⟩
  refine(apl t8.toQz ((dW aM).keep ⟨_,I,bY⟩ λk _ bW=>fK.block k bW X) g (m a ha) (by have:=uE ha;omega) E j).mono ?_;rintro _ w9 ⟨tx,gG,rfl,gO,f5,s,h9,b⟩;have t9:=t8.nx h9 b;have f6:∀eQ,l4.a=aN ⟨eQ,0,Pw⟩->p.heap.size<=eQ/\eQ<w7.heap.size:=λeQ l=>by
   rcases q with⟨rfl,_⟩ | ⟨y,x,G,a,e,k,_⟩
   .cases l
   rw[a]at l;injection l with l;injection l with l;subst l;exact⟨e,k.lt⟩
  have f7:Own nU 1 9 p.heap.size w9 (λ_=>True) l4 w:=by
   have a:=q.keep dG (w':=w8) λk hk bW=>fK.block k bW X;refine(a.mono (G:=λ_=>True) dG λ_ _=>trivial).ZP b.only1 v
  obtain⟨y,dq,f8,dN,HV,dB,gE,fd,gs,eG,yX⟩:=afR f7 tx (bB z7 (bB fK.size b.o.size)) J;have dO:=t9.q dN;have el:=dO.row v r (eG.p (F:=λk=>p.heap.size<=k) λx hx=>.inl (yX x hx).2);have HV:cj [k5] dq dB:=eG.same λx hx=>by
   have:=(dO.k x Xi).1;refine⟨this,λa=>?_⟩;have:=(f6 x (yX x a).1).2;simp only[aV]at hx;omega
  have Qs:=nMb w tx;refine⟨_,I,t8.sm b X,y,dq,f8,t9.sq dN X,_,dB,gE,HV,(qj c)-(n+1),J,n+1,w++[tx],gG,Ye,J,I,fd,XO,?_,λe=>?_,(TH.tr s).cg ?_ I,⟨el.toQz,el.m,λk hk=>IL⟩⟩
  .rw[Qs,cc];have:16400+qj a.n+1<=16401*Kx a:=by unfold Kx;omega
   omega
  .obtain⟨a,k,_⟩:=s.ok e;rw[U a,f5 k,lS,cA];rfl
  rw[lS,iw];simp
 have l:¬(n:Int)<s.n:=aU hc;have e:n=qj c:=J
 subst e;rw[bm (H _)]at aT U TH;exact⟨w,T,q,J,aT,U,TH,t7⟩
end
def awb{w}{F}{s}{a}(h:aB nU 1 w F s a) sep (l:qj (Lib.join a sep)<=140737488355328) (n:qj a<=140737488355328):
  aA aq 255 #[s.v,ab (T sep)] w λe c=>e=ak (ab (T (Lib.join a sep)))/\az [] w c:=by
 have f:=h.len;have p:=h.cap;obtain⟨b,sn,sc⟩:=s;subst f;cases a with
 | nil=>
  refine(Tryz.strings_Join_none b sc _ w).mono ?_;rintro _ d ⟨rfl,rfl⟩;exact⟨I,Ib _ _⟩
 | cons x a=>
  obtain⟨s,t,g,u,A,i,j⟩:=h.at_ 0 x I;subst j g;have d:=i 0 _ I;have r:s.spot=Pw:=by
   unfold World.cell? at d;split at d
   .split at d
    .cases d
    rename_i w;have e:((s.add (0*1)).add 0).spot=s.spot:=I;rw[e]at w;rcases hb:s.spot with _|v
    .rfl
    rw[hb]at w;simp at w
   cases d
  obtain⟨k,o,sp⟩:=s;subst r;have W:k<w.heap.size:=by
   have e:((Addr.add ⟨k,o,Pw⟩ (0*1)).add 0)=⟨k,o,Pw⟩:=I;rw[e]at d;refine bS λn=>?_;unfold World.cell? at d;rw[iR KQ]at d;cases d
  have:=Tryz.strings_Join k o sc _ (T sep) w (λm y q=>by
   rw[cw,fm]at q;obtain⟨z,v,rfl⟩:=q;obtain⟨s,t,g,u,A,i,j⟩:=h.at_ m z v;subst j;cases g;have:=i 0 _ I;have e:((Addr.add ⟨k,o,Pw⟩ (m*1)).add 0)=⟨k,o+m,Pw⟩:=by simp[Addr.add]
   rw[e]at this;exact this) W UI UI (by
   rw[iv];have:((λx:D=>x.data.toList)∘T)=id:=I;rw[this,VK];exact l)
  rw[bH]at this;refine this.mono ?_;rintro _ C ⟨rfl,B⟩;refine⟨?_,Only.below B⟩;rw[iv];have:((λx:D=>x.data.toList)∘T)=id:=I;rw[this,VK]
def RY:∀l,Lib.joinTail [44,32] l=Ha l
 | []=>rfl
 | s::l=>by
  unfold Lib.joinTail;show[44,32]++s++Lib.joinTail [44,32] l=_;rw[RY l];rfl
def aex s l:qj (Lib.join (s::l) [44,32])<=2*Mp (s::l):=by
 have h:∀l,qj (Ha l)<=2*Mp l:=λl=>by
  induction l with
  | nil=>exact bf _
  | cons s l i=>
   unfold Mp at i⊢;rw[cf,dl,Ha,aZ,aZ,aP];omega
 rw[Lib.join_cons,RY,aP];have:=h l;have e:Mp (s::l)=(qj s+1)+Mp l:=by unfold Mp;rw[cf,dl]
 omega
def xU l:qj l<=Mp l:=by
 unfold Mp
 induction l with
 | nil=>exact bf _
 | cons s l i=>rw[cf,dl,aZ];omega
def Ji{s}{l}(h:s∈l):qj s+1<=Mp l:=by
 unfold Mp
 induction l with
 | nil=>simp at h
 | cons x l i=>
  rw[cf,dl];rcases bh.1 h with rfl | h
  .omega
  have:=i h;omega
def Y8(m:Mv):C:=if m.k=1 then iJ [Ds,m.ev]else if m.k=3 then iJ [jF,Lib.itoa m.wt]else iW
def U1(m:Mv):C:=if m.gd then 91::(yz m.g++[93])else[]
def VM(m:Mv):C:=match m.tg with
 | []=>[]
 | s::l=>45::62::32::(s++Ha l)
def Mr{n}(h:qO n):qj (Lib.itoa n)<=21:=Lib.itoa_length_le n h.1 h.2
def adn n:ne (Lib.itoa n)=aF:=by
 have:Lib.itoa n≠[]:=by
  unfold Lib.itoa;split
  .simp
  rw[Lib.decDigits];split<;>simp
 unfold ne;rw[bD this];rfl
def aeg{m:Mv}(h:mr m=aF):iJ [Y8 m,U1 m,(if m.acts=[]then[]else zU m.acts),VM m]++[59]=Gq m:=by
 unfold mr at h;simp at h;obtain⟨⟨⟨⟨⟨c,a⟩,d⟩,f⟩,g⟩,i⟩:=h;have b:Y8 m=KS m/\ne (Y8 m)=aF:=by
  unfold Y8 KS;by_cases k:m.k=1
  .rw[K k]at a;rw[K k,K k,tC Z,iy (vH a),fj,ix,pD,bC];exact⟨I,I⟩
  rw[R k,R k];by_cases k3:m.k=3
  .rw[K k3,K k3,tC Z,iy (adn _),fj,ix,pD,bC];exact⟨I,I⟩
  rw[R k3,R k3];exact⟨I,Z⟩
 rw[tC b.2,b.1];rw[bq];congr 1;have e:Lib.joinTail [32] ([U1 m,(if m.acts=[]then[]else zU m.acts),VM m].filter ne)=VL m++((if m.acts=[]then[]else 32::zU m.acts)++(match m.tg with
  | []=>[]
  | s::l=>32::45::62::32::(s++Ha l))):=by
  have k:∀w:L (C),Lib.joinTail [32] ((U1 m::w).filter ne)=VL m++Lib.joinTail [32] (w.filter ne):=λw=>by
   unfold U1 VL;cases m.gd
   .simp only[nr,lV];rfl
   rfl
  have j:∀w:L (C),Lib.joinTail [32] (((if m.acts=[]then[]else zU m.acts)::w).filter ne)=(if m.acts=[]then[]else 32::zU m.acts)++Lib.joinTail [32] (w.filter ne):=λw=>by
   by_cases l:m.acts=[]
   .rw[K l,K l,aij];rfl
   rw[R l,R l,iy (by rfl),ix];rfl
  rw[k,j];congr 2;unfold VM;cases m.tg with
  | nil=>rfl
  | cons s l=>
   rw[iy (by rfl),ix,fj,pD,bC]
 rw[e];simp[bq]
 all_goals rfl
def mvB(m:Mv):((((if m.k=1 then dD m.ev else if m.k=3 then YR (0<=m.wt)else YR (m.k=2))&&((YR (m.ev=[])||(m.k==1))&&((m.wt==0)||(m.k==3))))&&(if m.gd then uz m.g else rW m.g))&&(m.tg.all dD&&m.acts.all iZ))=mr m:=by
 unfold mr;generalize (if m.gd then uz m.g else rW m.g)=A;generalize m.tg.all dD=B;generalize m.acts.all iZ=C;generalize dD m.ev=D;by_cases k:m.k=1
 .rw[K k,K k,k];cases D<;>cases A<;>cases B<;>cases C<;>by_cases h:m.wt=0<;>simp[h]
 rw[R k,R k];by_cases k3:m.k=3
 .rw[K k3,k3];cases A<;>cases B<;>cases C<;>by_cases h:m.ev=[]<;>by_cases w:m.wt=0<;>by_cases p:0<m.wt<;>simp[w,h,p]<;>omega
 rw[R k3];by_cases a:m.k=2
 .rw[a];cases A<;>cases B<;>cases C<;>by_cases h:m.ev=[]<;>by_cases w:m.wt=0<;>simp[w,h]
 have:¬(1<=m.k/\m.k<=3):=J
 rw[bD this,bD a];simp
section
variable {w0 w:aw} {b:Nat} {l:C} {st:St}
def ain(h:Qz w0 b w l st){j:A}{m:Mv}{q:aJ}(P:L9 aM w j m q)(F:∀k,j k->k<w0.heap.size)(f:V7 m)(L:Hj m<=16777216)(E:Er w0)(r:Tb w0):
  aA aq 224 #[rp b,ah q.toArray] w λe a=>∃t d,e=ak (ab (T t))/\qj t<=16450*Hj m/\(d.1=aM->t=Gq m)/\Up st (mr m) (qj m.acts) d/\Qz w0 b a l d/\Mw aF b w a:=by
 obtain⟨V,Y,i,rfl,v,C,o⟩:=P;obtain⟨W,rfl⟩:=fD v;have C:=C.1;have o:=o.1;have z:=L;unfold Hj at z;refine gX (aon ?_);intro g w1 N G D;have c:=(h.z aF).al D N G;have B:=o.len;have M:=xU m.tg;refine⟨λQ a=>∃hd d,Q=T hd/\qj hd<=30+qj m.ev/\(d.1=aM->hd=Y8 m)/\Up st (if m.k=1 then dD m.ev else if m.k=3 then YR (0<=m.wt)else YR (m.k=2)) 0 d/\Zq aF w0 w b a l d [g],?_,λhc=>?_,λhc=>⟨λp=>?_,λp=>?_⟩⟩
 .rintro _ w2 ⟨hd,CM,rfl,Be,aS,am,t2⟩;refine(mJ t2.toQz _).mono ?_;rintro _ w3 ⟨rfl,aT,u1,u2,u3⟩;have t3:=t2.nx u2 u3;have aC:=am.tr u1;rw[show ao #[]=T []from rfl,ji]at aC;refine⟨I,t2.sm u3 X,λs1 a=>∃gt d,s1=T gt/\qj gt<=16386/\(d.1=aM->gt=U1 m)/\Up aT (if m.gd then uz m.g else rW m.g) 0 d/\Zq aF w0 w b a l d [g],?_,λt=>?_,λt=>?_⟩
  .rintro _ w4 ⟨gt,Qr,rfl,cC,ce,cc,t4⟩;refine⟨λnv dO a=>∃(bv:Nat) (d:St),dO=bv/\bv<=qj m.tg/\nv=(qj m.tg)-bv/\Up Qr ((m.tg.take bv).all dD) 0 d/\Zq aF w0 w b a l d [g],qj m.tg,⟨0,Qr,I,bf _,I,t4.toQz.up0,t4⟩,?_⟩;rintro nv _ w5 ⟨bv,co,rfl,hj,rfl,bV,t5⟩;have bY:aB nU 1 w5 j i m.tg:=Ic dG o Z λk hk _=>h.arg t5.toQz (F k hk);refine⟨λhc=>?_,λhc=>?_⟩
   .have l:(bv:Int)<i.n:=u hc;obtain⟨ad,x,q,n,b,g3,g4,w,e⟩:=bY.get (be bv) l;rw[ba]at b;unfold nU at e;subst e;have y:=Ji (bp b);refine⟨ad,n,_,w,(pY t5.toQz x J).mono ?_⟩;rintro _ w6 ⟨rfl,s,T,v2,k⟩;refine⟨_,I,t5.sm k X,(qj m.tg)-(bv+1),J,bv+1,s,Ye,J,I,(bV.tr T).cg ?_ I,t5.nx v2 k⟩;rw[bn,b,iw];simp
   have lA:¬(bv:Int)<i.n:=aU hc;have x:bv=qj m.tg:=J
   subst x;rw[bm (H _)]at bV;refine⟨λs4 a=>s4=T (VM m)/\Zq aF w0 w b a l co [g],?_,λhc=>?_,λhc=>?_⟩
   .rintro _ w7 ⟨rfl,t7⟩;refine(Jh t7.toQz (Ic (dW aM) C Z λk hk _=>h.arg t7.toQz (F k hk)) F f.a J E r).mono ?_;rintro _ w8 ⟨w,eQ,rfl,f5,el,b,v2,v3⟩;have t8:=t7.nx v2 v3;have fd:qj (VM m)<=3+2*Mp m.tg:=by
     unfold VM;cases hm:m.tg with
     | nil=>exact bf _
     | cons s l=>
      have:=aex s l;rw[Lib.join_cons,RY]at this;rw[aZ,aZ,aZ];omega
    have mV:=kR [hd,gt,w,VM m];simp only[cf,iu,dl,lY]at mV;have Ts:Hj m=(lg m.acts+F2 m.g)+(Mp m.tg+(qj m.ev+1)):=I;obtain⟨q9,w9,e9,s,_,f6⟩:=Hg w8 [hd,gt,w,VM m] (n:=4) (parts:=#[.mk 0 (ab (T hd)),.mk 1 (ab (T gt)),.mk 2 (ab (T w)),.mk 3 (ab (T (VM m)))]) I I Z Z J;have z9:=s.size;refine⟨_,I,t7.sm v3 X,q9,w9,e9,t8.sq s X,f6.mono ?_⟩;rintro _ dq ⟨rfl,k⟩;have l:=t8.q (xn s k);have hU:=(aC.tr cc).tr (bV.tr b);refine⟨_,I,t8.sj z9 k X,Yv,iJ [hd,gt,w,VM m]++[59],eQ,K5,XO,λe=>?_,hU.cg ?_ J,l.toQz,l.m⟩
    .obtain⟨x5,x8,_⟩:=b.ok e;obtain⟨T,gG,_⟩:=bV.ok x5;obtain⟨x3,gE,_⟩:=cc.ok T;obtain⟨n,f8,_⟩:=u1.ok x3;obtain⟨x1,f7,_⟩:=am.ok n;rw[aS n,ce T,el e];refine aeg ?_;obtain⟨_,y,_⟩:=hU.ok e;exact(mvB m).symm.trans y
    exact mvB m
   .have k:m.tg≠[]:=λe=>by
     rw[e]at B;have:i.n=0:=B;rw[this]at hc;exact absurd hc Z
    have w:qj (Lib.join m.tg [44,32])<=2*Mp m.tg:=by
     cases b:m.tg with
     | nil=>exact absurd b k
     | cons s l=>exact aex s l
    refine(awb bY [44,32] J J).mono ?_;rintro _ y ⟨rfl,n⟩;refine⟨_,I,t5.sq n X,Yv,?_,t5.q n⟩;rw[show ao #[45,62,32]=T [45,62,32]from rfl,fz];congr 1;unfold VM;cases b:m.tg with
    | nil=>exact absurd b k
    | cons s l=>
     rw[Lib.join_cons,RY];rfl
   have b:m.tg=[]:=bL Xt;refine⟨?_,t5⟩;unfold VM;rw[b]
  .refine(acu t3.toQz ((jJ aM).keep v λk hk _=>h.arg t3.toQz (F k hk)) f.g J E r).mono ?_;rintro _ w ⟨rfl,e,n,s,b⟩;have l:=t3.nx s b;have:=Jg m.g;refine⟨_,I,t3.sm b X,Yv,?_,91::(yz m.g++[93]),e,?_,S,λ_=>by unfold U1;rw[K t],by rw[K t];exact n,l⟩
   .rw[show ao #[91]=T [91]from rfl,fz,cJ,aP,bA];omega
   rw[show ao #[91]=T [91]from rfl,show ao #[93]=T [93]from rfl,fz,fz];rfl
  refine(acH t3.toQz ((jJ aM).keep v λk hk _=>h.arg t3.toQz (F k hk))).mono ?_;rintro _ w ⟨rfl,e,l,n,b⟩;exact⟨I,t3.sm b X,[],e,I,bf _,λ_=>by unfold U1;rw[R (by rw[t];decide)],by rw[R (by rw[t];decide)];exact l,t3.nx n b⟩
 .have hk:m.k=1:=Yc
  refine(pY c.toQz m.ev J).mono ?_;rintro _ w2 ⟨rfl,s,y,v2,l⟩;have t:=c.nx v2 l;have x:=kR [Ds,m.ev];simp only[cf,iu,dl,lY]at x;have hw:qj Ds=2:=I;obtain⟨q3,w3,w,e,_,k⟩:=Hg w2 [Ds,m.ev] (n:=2) (parts:=#[.mk 0 (ab (T Ds)),.mk 1 (ab (T m.ev))]) I I Z Z J;have z3:=e.size;refine⟨_,I,c.sm l X,q3,w3,w,t.sq e X,k.mono ?_⟩;rintro _ w4 ⟨rfl,b⟩;exact⟨_,I,t.sj z3 b X,_,s,I,J,λ_=>by unfold Y8;rw[K hk],by rw[K hk];exact y,t.q (xn e b)⟩
 .have w:m.k≠1:=Yc
  have hk:m.k=3:=by simpa using p
  refine(mJ c.toQz _).mono ?_;rintro _ w2 ⟨rfl,y,v1,v2,x⟩;have t:=c.nx v2 x;refine⟨I,c.sm x X,(Dp m.wt f.w (r.only t.o)).mono ?_⟩;rintro _ w3 ⟨rfl,s⟩;have l:=t.q s;have mV:=kR [jF,Lib.itoa m.wt];simp only[cf,iu,dl,lY]at mV;have hw:qj jF=5:=I;have Qd:=Mr f.w;obtain⟨q4,w4,e4,e,_,k⟩:=Hg w3 [jF,Lib.itoa m.wt] (n:=2) (parts:=#[.mk 0 (ab (T jF)),.mk 1 (ab (T (Lib.itoa m.wt)))]) I I Z Z J;have z4:=e.size;refine⟨_,I,t.sq s X,q4,w4,e4,l.sq e X,k.mono ?_⟩;rintro _ w5 ⟨rfl,b⟩;exact⟨_,I,l.sj z4 b X,_,y,I,J,λ_=>by unfold Y8;rw[R w,K hk],by rw[R w,K hk];exact v1,l.q (xn e b)⟩
 have l:m.k≠1:=Yc
 have e:m.k≠3:=by simpa using p
 refine(mJ c.toQz _).mono ?_;rintro _ w ⟨rfl,k,n,s,b⟩;have t:=c.nx s b;refine⟨I,c.sm b X,iW,k,I,by show 6<=_;omega,λ_=>by unfold Y8;rw[R l,R e],by rw[R l,R e];exact n,t⟩
end
def abn{w:aw}{b:Nat}{q:Option Addr}{v a c:ay}(f:q=Pw∨q=aN ⟨b,0,Pw⟩)(h:aG w b 234 [ae q,v,a,c]):
  aA aq 252 #[ae (aN ⟨b,0,Pw⟩)] w λe d=>e=ak (ai #[])/\az [b] w d/\aG d b 234 [ae (aN ⟨b,0,Pw⟩),v,a,c]:=by
 refine ret (afC ?_);have g:w.shape? b=aN (234,4):=by
  unfold World.shape?;unfold aG at h;rw[h];rfl
 refine⟨q,Om h 0 I,λn=>?_,λn=>⟨q,Om h 0 I,?_⟩⟩
 .have r:=Lib.run_to_unsafe (P:=aq) (src:=229) (dst:=318) w ⟨b,0,Pw⟩ (t:=232) (j:=Tryz.t232) E E E Z g (by decide:(0:Nat)<4);have e:=Lib.run_from_unsafe (P:=aq) (src:=318) (dst:=229) w ⟨b,0,Pw⟩ (u:=232) (j:=Tryz.t232) E E E g E;exact⟨⟨ae (aN ⟨b,0,Pw⟩),I⟩,w,r,⟨ae (aN ⟨b,0,Pw⟩),I⟩,w,afI _ w,aN ⟨b,0,Pw⟩,w,e,b,0,_,_,I,h,X,λi O B=>⟨I,O,B⟩⟩
 rcases f with rfl | rfl
 .cases n
 exact⟨aM,w,Lib.run_neq_ptr_same w _ (te:=232) (j:=Tryz.t232) E E,λe=>U4,λ_=>⟨I,Ib _ _,h⟩⟩
section
variable {w0 w:aw} {b:Nat} {l:C} {st:St}
def ado(h:Qz w0 b w l st){m:C}(t:qj l+qj m<=274877906944):aA aq 217 #[ae (aN ⟨b,0,Pw⟩),ab (T m)] w λe j=>
  e=ak (ai #[O U (qj m:Int),.nilIface])/\Qz w0 b j (l++m) st/\Mw aM b w j:=by
 refine ret (afz ?_);obtain⟨q,sl,u,B,a⟩:=h.ex;refine(abn u B).mono ?_;rintro _ z ⟨rfl,n,r⟩;have D:=n.size;have A:=B.lt;have Bb:Bf z (b+1) sl l:=a.keep λg hg d=>n.block g d (by have:=(a.lt hg).1;simp;omega);obtain⟨s,o,v,y,k3,f⟩:=Dr Bb m J J;have E:=k3.size;have L:aG o b 234 [ae (aN ⟨b,0,Pw⟩),sl.v,aj st.1,O U st.2]:=k3.blk r λe=>Hi
 have zL:∀g,s.a=aN ⟨g,0,Pw⟩->b<g:=λg hg=>by
  rcases f with e | e
  .rw[e]at hg;exact(Bb.lt hg).1
  rw[e]at hg;injection hg with hg;injection hg with hg;omega
 refine⟨I,sl,Om r 1 I,s,o,v,b,1,_,_,I,L,X,λp P c=>?_⟩;have c:aG p b 234 [ae (aN ⟨b,0,Pw⟩),s.v,aj st.1,O U st.2]:=c;have i:aE (λk=>k=b∨(aM=aM/\Bu w b k)) w p:=((n.p (F:=λk=>k=b∨(aM=aM/\Bu w b k)) λx hx=>.inl (.inl Xi)).trans k3 λk hk=>.inl (.inr ⟨I,Mo B hk⟩)).trans (P.p (F:=λk=>k=b) λx hx=>.inl Xi) λk hk=>.inl (.inl hk);refine⟨by rw[cJ],⟨?_,h.lo,⟨_,_,.inr I,c,y.keep λg hg d=>P.block g d Wp⟩,h.i,by rw[aP];exact t⟩,i,λk hk=>?_⟩
 .refine⟨i.os.trans h.o.os,i.tape.trans h.o.tape,i.output.trans h.o.output,bB h.o.size i.size,λk hk _=>(i.block k (cq hk h.o.size) ?_).trans (h.o.block k hk X)⟩;rintro(e | ⟨_,e⟩)
  .have:=h.lo;omega
  have:=(h.bu e).1;have:=h.lo;omega
 have e:=RS c hk;rcases f with b | b
 .exact .inl (Mo B (b▸e))
 rw[b]at e;injection e with e;injection e with e;exact .inr ⟨I,J⟩
def Zq.sl{f g:M}{e d c:aw}{a s:L Nat}(t:Zq f w0 e b w l st a)(O:az [] w d)(m:Mw g b w c)(hk:∀k,k∈s->k∈a):cj s d c:=λx h=>
 (t.sm m hk x h).trans (t.sq O hk x h).symm
def R3:∀d,Lib.repeatL [32,32] d=xf d
 | 0=>rfl
 | d+1=>by rw[Lib.repeatL,R3 d];rfl
def R4:∀d,qj (xf d)=2*d
 | 0=>rfl
 | d+1=>by rw[xf,aZ,aZ,R4 d];omega
def Cz(h:Qz w0 b w l st)(s:L (C)){n:Nat}{parts:Array (Nat×ay)}(v:parts=(((s.map λx=>Value.string (T x)).zipIdx 0).map λx=>(x.2,x.1)).toArray)(p:qj s=n)(j:0<n)(V:n*1<=16777216)(d:Nat)(hd:d<=12)(z:qj (iJ s)<=274877889536):
  ∃(q:Sl) (a:aw),(av 80 n parts).run aq w=.ok q.v a/\az [] w a/\aA aq 171 #[rp b,O U (d:Int),q.v] a λe f=>e=ak (ai #[])/\Qz w0 b f (if st.1 then l else kQ l (d,iJ s)) st/\Mw aM b w f:=by
 obtain⟨q,a,i,c,r⟩:=lp w s v p j V;refine⟨q,a,i,r,?_⟩;have t:=(h.z aF).q r;have o:=h.lb;have u:∀k,Bu w b k->k<w.heap.size:=λk hk=>(h.bu hk).2;refine ret (anT ?_);refine(neN t.toQz).mono ?_;rintro _ D ⟨rfl,rfl⟩;obtain⟨A,sl,m,_⟩:=t.toQz.set;refine⟨_,I,st.1,λ_=>Om m 2 I,λhc y g=>?_,λhc=>?_⟩
 .simp only[B,da,db]at hc;obtain⟨n,G⟩:=hc;have q:=t.q g;refine(Tryz.strings_Repeat (T [32,32]) d y J (by show 2*d<=_;omega)).mono ?_;rintro _ x ⟨rfl,O⟩;have Q:=Only.below O;have w:=q.q Q;have e:=c.keep dG (w':=x) λk hk W=>(g.bU Q).block k W X;have E:=R4 d;refine⟨T (xf d),by rw[show(T [32,32]).data.toList=[32,32]from rfl,R3],(E5 e J J).mono ?_⟩;rintro _ F ⟨rfl,P⟩;have l:=w.row o u P;refine⟨_,I,by rw[cJ,cJ];omega,by rw[fz,cJ,aP];omega,?_⟩;rw[show ao #[10]=T [10]from rfl,fz,fz,show(Addr.add ⟨b,0,Pw⟩ 0:Addr)=⟨b,0,Pw⟩from rfl];refine(ado l.toQz ?_).mono ?_
  .simp only[aP,aZ,bE];omega
  rintro _ k ⟨rfl,b,d⟩;refine⟨_,⟨.nilIface,I⟩,I,I,?_,l.m.up.trans d⟩;rw[G,R Z];unfold kQ Zb;rw[R n];dsimp only;rw[bq]at b;exact b
 refine⟨I,?_,t.m.up⟩;have:(if st.1 then l else kQ l (d,iJ s))=l:=by
  cases e:st.1
  .rw[e]at hc;have hc:16384<qj l:=Yc
   rw[R Z];unfold kQ;rw[K hc]
  rfl
 rw[this];exact t.toQz
def E9(h:Qz w0 b w l st)(d:Nat)(hd:d<=12)(word t:C)(f:qj word<=100)(c:qj t<=274877880000):
  aA aq 222 #[rp b,O U (d:Int),ab (T word),ab (T t)] w λe a=>e=ak (ai #[])/\Qz w0 b a (if st.1||YR (t=[])then l else kQ l (d,iJ [word,t])) st/\Mw aM b w a:=by
 refine ret (aol ?_);rw[show ao #[]=T []from rfl,ji];refine⟨λhc=>?_,λhc=>?_⟩
 .have hc:t≠[]:=Yc
  have V:=kR [word,t];simp only[cf,iu,dl,lY]at V;obtain⟨q,w,e,r,j⟩:=Cz h [word,t] (n:=2) (parts:=#[.mk 0 (ab (T word)),.mk 1 (ab (T t))]) I I Z Z d hd J;refine⟨q,w,e,j.mono ?_⟩;rintro _ g ⟨rfl,b,m⟩;refine⟨I,I,?_,m⟩;rw[bD hc,KL];exact b
 have hc:t=[]:=Yc
 refine⟨I,?_,Mw.refl _ _ _⟩;rw[bG hc,pL,K I];exact h
end
def zj:L Mv->Nat
 | []=>0
 | m::l=>Hj m+zj l
def zl(b:Nb):Nat:=((qj b.nm+qj b.ini)+(qj b.dft+1))+((lg b.en+lg b.lv)+zj b.mv)
mutual
def mL:Nd->Nat
 | .mk b l=>zl b+j5 l
def j5:L Nd->Nat
 | []=>0
 | x::l=>mL x+j5 l
end
def qs{m:Mv}:∀{l:L Mv},m∈l->Hj m<=zj l
 | [],h=>Ux
 | x::l,h=>by
  rw[zj];rcases bh.1 h with rfl | h
  .omega
  have:=qs h;omega
def nf:∀(l:L Mv),qj l<=zj l
 | []=>bf _
 | m::l=>by
  have:=nf l;rw[zj,aZ];unfold Hj;omega
def qt{x:Nd}:∀{l:L Nd},x∈l->mL x<=j5 l
 | [],h=>Ux
 | y::l,h=>by
  rw[j5];rcases bh.1 h with rfl | h
  .omega
  have:=qt h;omega
def adp(x:Nd):1<=mL x:=by
 obtain⟨b,l⟩:=x;rw[mL];unfold zl;omega
def qu:∀(l:L Nd),qj l<=j5 l
 | []=>bf _
 | x::l=>by
  have:=qu l;have:=adp x;rw[j5,aZ];omega
def AG{x:Nd}:∀{l:L Nd},Ao l->x∈l->Dv x
 | [],_,h=>Ux
 | y::l,n,h=>by
  rw[Ao]at n;rcases bh.1 h with rfl | h
  .exact n.1
  exact AG n.2 h
def zm(d:Nat)(x:Nd):∀l:L Nd,iX d (l++[x])=(iX d l&&kc d x)
 | []=>by simp[iX]
 | y::l=>by rw[cb,iX,iX,zm d x l,sZ]
def BB(x:Nd):∀l:L Nd,nK (l++[x])=nK l+yP x
 | []=>by simp[nK]
 | y::l=>by rw[cb,nK,nK,BB x l];omega
def BC(d:Nat)(x:Nd):∀l:L Nd,qm d (l++[x])=qm d l++F3 d x
 | []=>by simp[qm]
 | y::l=>by rw[cb,qm,qm,BC d x l,bq]
def Fa(x:Nb)(k:L Nd)(d:Nat):M:=(YR (x.ini=[])||dD x.ini)&&(x.en.all iZ&&(x.lv.all iZ&&(x.mv.all mr&&iX d k)))
def pE(l:C)(p:Ln):eh l [p]=kQ l p:=rfl
def ajy{l:L Ac}:zU l≠[]:=by unfold zU;simp
def AH{d:St}{l f g:C}{a b:L Ln}{K:St}{c:M}{n:Nat}(U:Up K c n d)(h:K.1=aM->f=eh l a)(i:d.1=aM->g=eh f b):d.1=aM->g=eh l (a++b):=λe=>by
 rw[i e,h (U.ok e).1,gR]
def X2(D:Nat):Prop:=∀(w a:aw) (b:Nat) (l:C) (st:St) (F:A) (x:Nd) (s:aJ) (d:Nat),Qz w b a l st->nX aM D a F x s->(∀k,F k->k<w.heap.size)->Dv x->mL x<=8388608->d<=12->Er w->Tb w->
 aA aq 225 #[rp b,ah s.toArray,O U (d:Int)] a λe g=>e=ak (ai #[])/\∃c f,Up st (kc d x) (yP x) c/\(c.1=aM->f=eh l (F3 d x))/\Qz w b g f c/\Mw aM b a g
section
variable {w0 w:aw} {b:Nat} {l:C} {st:St}
def X3{D:Nat}(P:X2 D)(g:Qz w0 b w l st){F:A}{x:Nb}{r z mv kids:Sl}{s:L Nd}(Q:I3 aM w F x r z mv)(hk:ly aM (nX aM D) 9 27 w F kids s)(h:∀k,F k->k<w0.heap.size)(p:nbN x)(V:Ao s)(W:zl x+j5 s<=8388608)(d:Nat)(hd:d<=12)(E:Er w0)(i:Tb w0):
  aA aq 174 #[rp b,ah (qD x.k x.nm x.ini x.dft r z mv kids x.a).toArray,O U (d:Int)] w λe f=>e=ak (ai #[])/\∃a c,Up st (Fa x s d) (Cu x+nK s) a/\(a.1=aM->c=eh l (Hb d x++qm d s))/\Qz w0 b f c a/\Mw aM b w f:=by
 have B:=W;unfold zl at B;have yq:=nf x.mv;have Y:=qu s;obtain⟨G,j,o⟩:=Q;have G:=G.1;have j:=j.1;have o:=o.1;have hk:=hk.1;refine ret (anV ?_);intro q w1 N S M;have t:=(g.z aM).al M N S;rw[show ao #[]=T []from rfl,ji];refine⟨λf=>∃m v,Up st (YR (x.ini=[])||dD x.ini) 0 m/\(m.1=aM->v=eh l (yA d x))/\Zq aM w0 w b f v m [q],?_,λhc=>?_,λhc=>?_⟩
 .rintro w2 ⟨CM,l2,aS,xA,t2⟩;refine(Jh t2.toQz (Ic (dW aM) G Z λk hk _=>g.arg t2.toQz (h k hk)) h p.en J E i).mono ?_;rintro _ w3 ⟨l,am,rfl,bV,bv,aC,q3,m3⟩;have t3:=t2.nx q3 m3.up;refine⟨_,I,t2.sm m3 X,(E9 t3.toQz d hd jl l Z J).mono ?_⟩;rintro _ w4 ⟨rfl,q4,m4⟩;have t4:=t3.nx q4 m4;have aT:am.1=aM->(if am.1||YR (l=[])then l2 else kQ l2 (d,iJ [jl,l]))=eh l2 (RC d x):=λe=>by
   rw[e,bv e];unfold RC;by_cases he:x.en=[]
   .rw[K he,K he];rfl
   rw[R he,R he,bD (ajy),R Z,pE,tC Z,iy (by rfl),fj,ix,pD,bC]
  generalize (if am.1||YR (l=[])then l2 else kQ l2 (d,iJ [jl,l]))=l4 at*
  refine⟨I,t3.sm m4 X,(Jh t4.toQz (Ic (dW aM) j Z λk hk _=>g.arg t4.toQz (h k hk)) h p.lv J E i).mono ?_⟩;rintro _ w5 ⟨ce,cc,rfl,f8,f6,cC,q5,m5⟩;have t5:=t4.nx q5 m5.up;refine⟨_,I,t4.sm m5 X,(E9 t5.toQz d hd jm ce Z J).mono ?_⟩;rintro _ w6 ⟨rfl,q6,m6⟩;have t6:=t5.nx q6 m6;have fd:cc.1=aM->(if cc.1||YR (ce=[])then l4 else kQ l4 (d,iJ [jm,ce]))=eh l4 (Un d x):=λe=>by
   rw[e,f6 e];unfold Un;by_cases he:x.lv=[]
   .rw[K he,K he];rfl
   rw[R he,R he,bD (ajy),R Z,pE,tC Z,iy (by rfl),fj,ix,pD,bC]
  generalize (if cc.1||YR (ce=[])then l4 else kQ l4 (d,iJ [jm,ce]))=l6 at*
  have eQ:=AH aC xA aT;have Qt:=AH cC eQ fd;refine⟨I,t5.sm m6 X,λnv f5 f=>∃(bY:Nat) (a:St) (c:C),f5=bY/\bY<=qj x.mv/\nv=(qj x.mv)-bY/\Up cc ((x.mv.take bY).all mr) ((x.mv.take bY).map λco=>qj co.acts).sum a/\(a.1=aM->c=eh l6 ((x.mv.take bY).map λco=>(d,Gq co)))/\Zq aM w0 w b f c a [q],
   (qj x.mv),⟨0,cc,l6,I,bf _,I,t6.toQz.up0,λ_=>I,t6⟩,?_⟩
  rintro nv _ w7 ⟨bY,dO,l7,rfl,hj,rfl,TH,Oe,t7⟩;have f7:=o.len;have el:aB (L9 aM) 13 w7 F mv x.mv:=Ic (nJ aM) o Z λk hk _=>g.arg t7.toQz (h k hk);refine⟨λhc=>?_,λhc=>?_⟩
  .have bW:(bY:Int)<mv.n:=u hc;obtain⟨ad,co,cs,g1,g2,g3,g4,g5,g6⟩:=el.get (be bY) bW;rw[ba]at g2;have gE:=bp g2;have iF:=qs gE;have lS:x.mv.take (bY+1)=x.mv.take bY++[co]:=by
    rw[bn,g2];rfl
   have FT:=g6;obtain⟨gc,tU,tg,rfl,r1,r2,r3⟩:=FT;obtain⟨gl,rfl⟩:=fD r1;refine⟨ad,g1,_,_,_,_,_,_,_,_,_,_,_,_,_,g5,λk3 w8 zE uQ fK=>?_⟩;have t8:=t7.al fK zE uQ;refine(ain t8.toQz ((nJ aM).keep g6 λk _ bW=>fK.block k bW X) h (p.mv co gE) J E i).mono ?_;rintro _ w9 ⟨w,ip,rfl,iN,iD,y,q9,m9⟩;have t9:=t8.nx q9 m9.up;have mV:=kR [w];simp only[cf,iu,dl,lY]at mV;obtain⟨g8,dq,gT,dN,gO⟩:=Cz t9.toQz [w] (n:=1) (parts:=#[.mk 0 (ab (T w))]) I I Z Z d hd J;refine⟨_,I,t8.sm m9 X,g8,dq,gT,t9.sq dN X,gO.mono ?_⟩;rintro _ dB ⟨rfl,g9,gG⟩;have b:=t9.nx g9 gG;refine⟨I,t9.sl dN gG X,(qj x.mv)-(bY+1),J,bY+1,ip,_,Ye,J,I,(TH.tr y).cg ?_ ?_,λe=>?_,⟨b.toQz,b.m,λk hk=>b.k k U5⟩⟩
   .rw[lS,iw];simp
   .rw[lS,cA,Rk];simp
   rw[e,R Z,Oe (y.ok e).1,lS,cA,gR,iD e];show _=kQ _ (d,Gq co);have:ne (Gq co)=aF:=by
    have:Gq co≠[]:=by unfold Gq;simp
    unfold ne;rw[bD this];rfl
   rw[tC this,fj,pD,bC]
  have lA:¬(bY:Int)<mv.n:=aU hc;have me:bY=qj x.mv:=J
  subst me;rw[bm (H _)]at TH Oe;have zF:=AH TH Qt Oe;refine⟨λnv f5 f=>∃(bY:Nat) (a:St) (c:C),f5=bY/\bY<=qj s/\nv=(qj s)-bY/\Up dO (iX d (s.take bY)) (nK (s.take bY)) a/\(a.1=aM->c=eh l7 (qm d (s.take bY)))/\Zq aM w0 w b f c a [q],
   (qj s),⟨0,dO,l7,I,bf _,I,by rw[cu,iX,nK];exact t7.toQz.up0,λ_=>by rw[cu,qm];rfl,t7⟩,?_⟩
  rintro nv _ dB ⟨bY,lE,qJ,rfl,hj,rfl,n,iS,T⟩;have mt:=hk.len;have lT:aB (nX aM D) 9 dB F kids s:=Ic (cG aM D) hk Z λk hk _=>g.arg T.toQz (h k hk);refine⟨λhc=>?_,λhc=>?_⟩
  .have b:(bY:Int)<kids.n:=u hc;obtain⟨ad,y,cs,g1,w,g3,g4,g5,g6⟩:=lT.get (be bY) b;rw[ba]at w;have vd:=bp w;have TJ:=qt vd;have x:s.take (bY+1)=s.take bY++[y]:=by
    rw[bn,w];rfl
   have FT:=g6;cases D with
   | zero=>exact FT.elim
   | succ D=>
   obtain⟨vT,vU,rG,ju,rfl,_⟩:=FT;refine⟨ad,g1,_,_,_,_,vT,vU,rG,ju,_,g5,λk7 ey pm oN eV=>?_⟩;have y:=T.al eV pm oN;refine(P _ _ _ _ _ _ _ _ d y.toQz ((cG aM _).keep g6 λk _ b=>eV.block k b X) h (AG V vd) J hd E i).mono ?_;rintro _ eY ⟨rfl,oR,tT,nO,pi,pP,oF⟩;have mK:=y.nx pP oF;refine⟨I,y.sm oF X,(qj s)-(bY+1),J,bY+1,oR,tT,Ye,J,I,(n.tr nO).cg ?_ ?_,λe=>?_,⟨mK.toQz,mK.m,λk hk=>mK.k k U5⟩⟩
   .rw[x,zm]
   .rw[x,BB]
   rw[pi e,iS (nO.ok e).1,x,BC,gR]
  have lA:¬(bY:Int)<kids.n:=aU hc;have me:bY=qj s:=J
  subst me;rw[bm (H _)]at n iS;have b:=AH n zF iS;refine⟨I,lE,qJ,(aS.tr (aC.tr (cC.tr (TH.tr n)))).cg I ?_,λe=>?_,T.toQz,T.m⟩
  .unfold Cu;omega
  rw[b e];unfold Hb Ni;simp only[bq]
 .have hc:x.ini≠[]:=Yc
  refine(pY t.toQz x.ini J).mono ?_;rintro _ w2 ⟨rfl,CM,k,q2,w⟩;have l:=t.nx q2 w.up;refine⟨_,I,t.sm w X,Yv,?_⟩;rw[show ao #[59]=T [59]from rfl,fz];refine(E9 l.toQz d hd fM (x.ini++[59]) Z XO).mono ?_;rintro _ w3 ⟨rfl,q3,y⟩;refine⟨I,l.sm y X,CM,_,k.cg (by rw[bD hc,kz]) I,λe=>?_,l.nx q3 y⟩;have n:x.ini++[59]≠[]:=X
  have b:ne (x.ini++[59])=aF:=by unfold ne;rw[bD n];rfl
  rw[e,bD n,R Z,tC Z,iy b,fj,ix,pD,bC];unfold yA;rw[R hc];rfl
 have hc:x.ini=[]:=Yc
 refine⟨st,l,g.up0.cg (by rw[bG hc];rfl) I,λ_=>by unfold yA;rw[K hc];rfl,t⟩
end
def Up.more{st dk}{c}{n}(h:Up st c 0 dk)(a:c=aF->n=0):Up st c n dk:=by
 cases c
 .refine⟨?_,λe=>?_⟩
  .rw[h.w];simp
  have:=h.w;rw[e]at this;simp at this
 rw[a I];exact h
def afT:L (C):=[[],EN,ur,wX,L3]
def apn{k}(h:1<=k)(a:k<=4):afT[k.toNat]? =aN (kW k):=by
 have:k=1∨k=2∨k=3∨k=4:=J
 rcases this with rfl | rfl | rfl | rfl<;>rfl
def afU k:ne (kW k)=aF:=by
 unfold kW;split
 .rfl
 split
 .rfl
 split
 .rfl
 rfl
def aio k:qj (kW k)<=8:=by
 unfold kW;split
 .decide
 split
 .decide
 split
 .decide
 decide
def acv{d}{b}{l}(hk:b.k=1∨b.k=2)(hd:d<12):((YR (b.dft=[])&&dD b.nm)&&Fa b l (d+1))=kc d (.mk b l):=by
 have h:gv b.k=aM:=Rt
 rw[kc,bG hd,ch];unfold qE Fa;rw[h,R Z];have:YR ((b.k=1∨b.k=2)/\b.dft=[])=YR (b.dft=[]):=by simp[hk]
 rw[this];generalize YR (b.dft=[])=A;generalize dD b.nm=B;generalize (YR (b.ini=[])||dD b.ini)=C;generalize b.en.all iZ=D;generalize b.lv.all iZ=E;generalize b.mv.all mr=G;cases A<;>cases B<;>cases C<;>cases D<;>cases E<;>rfl
def R6{d}{b}{l}(hk:b.k=3∨b.k=4)(hd:d<12):(((YR (b.ini=[])&&YR (b.en=[]/\b.lv=[]/\b.mv=[]/\l=[]))&&dD b.nm)&&dD b.dft)=kc d (.mk b l):=by
 have a:gv b.k=aF:=by unfold gv;exact bG hk
 rw[kc,bG hd,ch];unfold qE;rw[a,K I];by_cases h:l=[]
 .subst h;have:YR (b.ini=[]/\b.en=[]/\b.lv=[]/\qj b.mv=0/\qj ([]:L Nd)=0)=(YR (b.ini=[])&&YR (b.en=[]/\b.lv=[]/\b.mv=[]/\([]:L Nd)=[])):=by
   simp
  rw[this,iX];generalize YR (b.ini=[])=A;generalize YR (b.en=[]/\b.lv=[]/\b.mv=[]/\([])=[])=B;cases A<;>cases B<;>cases dD b.nm<;>cases dD b.dft<;>rfl
 have d:YR (b.en=[]/\b.lv=[]/\b.mv=[]/\l=[])=aM:=bD λc=>h c.2.2.2;have e:YR (b.ini=[]/\b.en=[]/\b.lv=[]/\qj b.mv=0/\qj l=0)=aM:=bD λc=>h (bL c.2.2.2.2);rw[d,e];simp
def R7{d}{b}{l}(h:¬(1<=b.k/\b.k<=4)∨12<=d):kc d (.mk b l)=aM:=by
 rw[kc];rcases h with h | h
 .have a:gv b.k=aM:=Rt
  have:YR ((b.k=1∨b.k=2)/\b.dft=[])=aM:=bD J;unfold qE;rw[a,R Z,this];simp
 rw[bD J];rfl
def afY:∀D,X2 D
 | 0=>by
  intro e w b l st F x c d a h;exact h.elim
 | D+1=>by
  intro G h b l st H x i d p L F z A hd W Y;obtain⟨a,s⟩:=x;have am:=L;obtain⟨j,v,mv,kids,rfl,E,y⟩:=L;have E:I3 aM h H a j v mv:=E;have y:ly aM (nX aM D) 9 27 h H kids s:=y;show aA aq 225 #[rp b,ah (qD a.k a.nm a.ini a.dft j v mv kids a.a).toArray,O U (d:Int)] h _;rw[Dv]at z;rw[mL]at A;have P:=A;unfold zl at P;refine ret (aoo ?_);intro o w1 V S Q;have g:=(p.z aM).al Q V S;obtain⟨q,sl,r,_⟩:=g.toQz.set;have bad:∀{w:aw} {c:St} {m:C},c.1=aF->Zq aM G h b w m c [o]->(st.1=aF∨kc d (.mk a s)=aM)->∃c N,Up st (kc d (.mk a s)) (yP (.mk a s)) c/\(c.1=aM->N=eh l (F3 d (.mk a s)))/\Qz G b w N c/\Mw aM b h w:=by
   intro w c m e t hc;refine⟨c,m,⟨?_,λb=>absurd (e.symm.trans b) Z⟩,λb=>absurd (e.symm.trans b) Z,t.toQz,t.m⟩;rw[e];rcases hc with hc | hc
   .rw[hc];rfl
   rw[hc];simp
  refine⟨st.1,Om r 2 I,λhc=>?_,λhc=>?_⟩
  .refine(mJ g.toQz aM).mono ?_;rintro _ k ⟨rfl,f,d,e,b⟩;refine⟨I,g.sm b X,I,bad (by rw[d.w];simp) (g.nx e b.up) ?_⟩;rw[cy]at hc;rcases hc with hc | hc
   .exact .inl hc
   exact .inr (R7 (.inr Zm))
  rw[fe]at hc;have aC:d<12:=by have:=aU hc.2;omega
  obtain⟨q2,w2,q,i,e2,cP,bv,bV,mU,dL⟩:=niP w1 afT (n:=5) (parts:=#[.mk 0 (ab (ao #[])),.mk 1 (ab (ao #[115,116,97,116,101])),.mk 2 (ab (ao #[112,97,114,97,108,108,101,108])),.mk 3 (ab (ao #[104,105,115,116,111,114,121])),.mk 4 (ab (ao #[100,101,101,112]))]) I I Z Z;have t2:=g.al cP bv bV;have aS:1<=a.k/\a.k<=4->cK q2 a.k 1 ⟨q,a.k.toNat,Pw⟩/\∀w,aG w q 9 i->aD w ⟨q,a.k.toNat,Pw⟩ [ab (T (kW a.k))]:=λhk=>by
   have:=dL _ _ (apn hk.1 hk.2);rwa[gu J]at this
  have B8:=aio a.k;have z2:∀{w3:aw},az [] w2 w3->aG w3 q 9 i:=λhO=>hO.blk mU X;have aT:∀{w3 w4:aw} {m:C} {sx:St} {f:M},Zq aM G h b w3 m sx [q,o]->Mw f b w3 w4->aG w3 q 9 i->aG w4 q 9 i:=λt bY r=>(t.sm (ks':=[q]) bY X q X).trans r;refine⟨q2,w2,e2,g.sq cP X,λb1 w3=>w2=w3/\b1=YR (a.k=1∨a.k=2),?_,λnD=>⟨I,?_⟩,λnD=>⟨I,?_⟩⟩
  .rintro b1 _ ⟨rfl,rfl⟩;refine⟨λb=>?_,λb=>?_⟩
   .have hk:=u b;have dO:1<=a.k/\a.k<=4:=J
    obtain⟨y1,y2⟩:=aS dO;rw[show ao #[]=T []from rfl,ji];refine(mJ t2.toQz _).mono ?_;rintro _ w4 ⟨rfl,Qr,u1,u2,u3⟩;have t4:=t2.nx u2 u3.up;refine⟨I,t2.sm u3 X,λw5 eJ=>⟨λk=>k∈[o,q],X,_,y1,X,_,y2 w5 (eJ.blk (aT t2 u3 mU) X),?_⟩⟩;have t5:=t4.q eJ;refine(pY t5.toQz a.nm J).mono ?_;rintro _ w6 ⟨rfl,t,v1,v2,v3⟩;have f:=t5.nx v2 v3.up;have mV:=kR [kW a.k,a.nm,[123]];simp only[cf,iu,dl,lY,aZ,bE]at mV;obtain⟨q7,w7,e7,gq,cC⟩:=Cz f.toQz [kW a.k,a.nm,[123]] (n:=3) (parts:=#[.mk 0 (ab (T (kW a.k))),.mk 1 (ab (T a.nm)),.mk 2 (ab (T [123]))]) I I Z Z d hd J;refine⟨_,I,t5.sm v3 X,Zp (t5.sm v3 X),q7,w7,e7,f.sq gq X,Zp (f.sq gq X),cC.mono ?_⟩;rintro _ w8 ⟨rfl,x1,x2⟩;have t8:=f.nx x1 x2;have el:t.1=aM->(if t.1 then l else kQ l (d,iJ [kW a.k,a.nm,[123]]))=eh l [(d,kW a.k++32::(a.nm++[32,123]))]:=λe=>by
     rw[e,R Z,pE,tC (afU _),iy (vH (v1.ok e).2.1),iy (by rfl),fj,ix,ix,pD];rfl
    generalize (if t.1 then l else kQ l (d,iJ [kW a.k,a.nm,[123]]))=l8 at*
    have ed:au U ((d:Int)+1)=((d+1:Nat):Int):=Ye
    rw[ed];refine⟨I,f.sl gq x2 X,Zp (f.sl gq x2 X),(X3 (afY D) t8.toQz (E.keep λk hk _=>p.arg t8.toQz (F k hk)) (y.keep (cG aM D) Z λk hk _=>p.arg t8.toQz (F k hk)) F z.1 z.2 A (d+1) J W Y).mono ?_⟩;rintro _ w9 ⟨rfl,f5,l9,x,eQ,y3,y4⟩;have t9:=t8.nx y3 y4;obtain⟨fd,dq,co,dN,ce⟩:=Cz t9.toQz [[125]] (n:=1) (parts:=#[.mk 0 (ab (T [125]))]) I I Z Z d hd Z;refine⟨I,t8.sm y4 X,fd,dq,co,t9.sq dN X,ce.mono ?_⟩;rintro _ dB ⟨rfl,x3,x4⟩;have cc:=t9.nx x3 x4;refine⟨I,t9.sl dN x4 X,I,f5,_,((u1.tr v1).tr x).cg (acv hk aC) (by rw[yP];omega),λe=>?_,cc.toQz,cc.m⟩;have hh:gv a.k=aM:=Rt
    rw[F3,hh,e];simp only[nr,lV];rw[eQ e,el (x.ok e).1,<-gR];have e1:iJ [[125]]=[125]:=Z
    rw[e1,<-pE,<-gR];simp only[bq,cb,cd]
   have V8:=aU b;refine⟨λt ey=>w2=ey/\t=YR (a.k=3∨a.k=4),?_,λf=>⟨I,?_⟩,λf=>⟨I,?_⟩⟩
   .rintro t _ ⟨rfl,rfl⟩;refine⟨λf6=>?_,λf6=>?_⟩
    .have hk:=u f6;have ip:1<=a.k/\a.k<=4:=J
     obtain⟨y1,y2⟩:=aS ip;have n4:=E.1.1.len;have n5:=E.2.1.1.len;have n6:=E.2.2.1.len;have n7:=y.1.len;have a4:=iB a.en;have a5:=iB a.lv;have a6:=nf a.mv;have a7:=qu s;have gO:(au U ((au U ((au U ((j.n:Int)+(v.n:Int)))+(mv.n:Int)))+(kids.n:Int))==0)=YR (a.en=[]/\a.lv=[]/\a.mv=[]/\s=[]):=by
      rw[eS (x:=(j.n:Int)+(v.n:Int)) J J,eS (x:=(j.n:Int)+(v.n:Int)+(mv.n:Int)) J J,eS J J,bK];simp only[dr,bF];refine⟨λe=>?_,λ⟨d,e2,k,n⟩=>?_⟩
      .exact⟨bL J,bL J,bL J,bL J⟩
      rw[n4,n5,n6,n7,d,e2,k,n];rfl
     rw[show ao #[]=T []from rfl,ji,gO];refine(mJ t2.toQz _).mono ?_;rintro _ eY ⟨rfl,iS,u1,u2,u3⟩;have iF:=t2.nx u2 u3.up;refine⟨I,t2.sm u3 X,λfV eZ=>⟨λk=>k∈[o,q],X,_,y1,X,_,y2 fV (eZ.blk (aT t2 u3 mU) X),X,?_⟩⟩;have f8:=iF.q eZ;refine(pY f8.toQz a.nm J).mono ?_;rintro _ fT ⟨rfl,iN,v1,v2,v3⟩;have gE:=f8.nx v2 v3.up;refine⟨_,I,f8.sm v3 X,Zp (f8.sm v3 X),(pY gE.toQz a.dft J).mono ?_⟩;rintro _ iE ⟨rfl,gT,x1,x2,x3⟩;have f7:=gE.nx x2 x3.up;have mV:=kR [kW a.k,a.nm,[45,62],a.dft++[59]];simp only[cf,iu,dl,lY,aZ,bE,aP]at mV;obtain⟨iD,gL,g9,gC,g8⟩:=Cz f7.toQz [kW a.k,a.nm,[45,62],a.dft++[59]] (n:=4) (parts:=#[.mk 0 (ab (T (kW a.k))),.mk 1 (ab (T a.nm)),.mk 2 (ab (T [45,62])),.mk 3 (ab (T (a.dft++[59])))]) I I Z Z d hd J;refine⟨T a.dft,I,gE.sm x3 X,Zp (gE.sm x3 X),Yv,iD,gL,by rw[show ao #[59]=T [59]from rfl,fz];exact g9,f7.sq gC X,Zp (f7.sq gC X),g8.mono ?_⟩;rintro _ jH ⟨rfl,y3,y4⟩;have gG:=f7.nx y3 y4;have hU:=((u1.tr v1).tr x1).cg (R6 hk aC) I;refine⟨I,f7.sl gC y4 X,Zp (f7.sl gC y4 X),I,gT,_,hU.more λjM=>?_,λe=>?_,gG.toQz,gG.m⟩
     .rw[<-R6 hk aC]at jM;simp only[B,bF]at jM;obtain⟨⟨⟨_,e,e2,d,k⟩,_⟩,_⟩:=jM;rw[yP,k,nK];unfold Cu;rw[e,e2,d];rfl
     have k:gv a.k=aF:=by unfold gv;exact bG hk
     have d:ne (a.dft++[59])=aF:=by
      have:a.dft++[59]≠[]:=X
      unfold ne;rw[bD this];rfl
     rw[F3,k,K I,e,R Z,pE,tC (afU _),iy (vH (v1.ok (x1.ok e).1).2.1),iy (by rfl),iy d,fj,ix,ix,ix,pD,bC];rfl
    have n:=aU f6;refine(mJ t2.toQz aM).mono ?_;rintro _ eY ⟨rfl,x,T,u2,e⟩;have d:=t2.nx u2 e.up;exact⟨I,t2.sm e X,I,bad (by rw[T.w];simp) ⟨d.toQz,d.m,λk hk=>d.k k U5⟩ (.inr (R7 (.inl J)))⟩
   .have:a.k=3:=by simpa using f
    rw[f,bG (.inl this)]
   have:a.k≠3:=by simpa using f
   rw[bK];simp[this]
  .have:a.k=1:=by simpa using nD
   rw[nD,bG (.inl this)]
  have:a.k≠1:=by simpa using nD
  rw[bK];simp[this]
mutual
def X4:∀x:Nd,iQ x<=mL x
 | .mk b l=>by
  rw[iQ,mL];have:=Dz l;unfold zl;omega
def Dz:∀l:L Nd,dJ l<=j5 l
 | []=>by rw[dJ];exact bf _
 | x::l=>by
  rw[dJ,j5];exact oL (X4 x) (Dz l)
end
mutual
def aip:∀x:Nd,Am x<=mL x
 | .mk b l=>by
  rw[Am,mL];have:=AI l;have:=nf b.mv;unfold zl;omega
def AI:∀l:L Nd,oO l<=j5 l
 | []=>by rw[oO];exact bf _
 | x::l=>by
  rw[oO,j5];exact oL (aip x) (AI l)
end
def uF x:∀l,dJ (l++[x])=dJ l+iQ x
 | []=>by simp[dJ]
 | y::l=>by rw[cb,dJ,dJ,uF x l];omega
def xV x:∀l,oO (l++[x])=oO l+Am x
 | []=>by simp[oO]
 | y::l=>by rw[cb,oO,oO,xV x l];omega
def unR:∀l m,j5 (l++m)=j5 l+j5 m
 | [],m=>by rw[cd,j5];omega
 | y::l,m=>by rw[cb,j5,j5,unR l m];omega
def R9:∀D w F x c,nX aM D w F x c->mL x<=8388608->aA aq 169 #[ah c.toArray] w λe b=>e=ak (ai #[O U (iQ x),O U (Am x)])/\az [] w b
 | 0,w,F,x,c,h,_=>h.elim
 | D+1,w,F,x,c,g,f=>by
  obtain⟨e,s⟩:=x;obtain⟨p,v,mv,kids,rfl,E,Y⟩:=g;have o:=E.2.2.1;have hk:aB _ 9 w F kids s:=Y.1;refine ret (anR ?_);have C:=Dz s;have G:=AI s;have K:=nf e.mv;rw[mL]at f;unfold zl at f;have t:=hk.len;have L:=qu s;intro l z N S r A P;refine⟨λn a m i b=>∃j:Nat,i=j/\j<=qj s/\n=(qj s)-j/\a=(1+dJ (s.take j):Nat)/\m=(qj e.mv+oO (s.take j):Nat)/\l<b.heap.size/\az [] w b,qj s,⟨0,I,bf _,I,by rw[cu,dJ];rfl,by rw[cu,oO,o.len];rfl,cq S P.size,r.bU P⟩,?_⟩;rintro n _ _ _ B ⟨j,rfl,q,rfl,rfl,rfl,M,d⟩;refine⟨λh=>?_,λh=>?_⟩
  .have W:(j:Int)<kids.n:=u h;obtain⟨ad,y,c,V,x,g3,g4,g5,Q⟩:=(Wg (cG aM D) Z hk d X).get (be j) W;rw[ba]at x;have TJ:=qt (bp x);have a:s.take (j+1)=s.take j++[y]:=by
    rw[bn,x];rfl
   have R:j5 s=j5 (s.take (j+1))+j5 (s.drop (j+1)):=by rw[<-unR,dM]
   have y3:dJ (s.take j)+iQ y<=j5 (s.take (j+1)):=by rw[<-uF,<-a];exact Dz _
   have y4:oO (s.take j)+Am y<=j5 (s.take (j+1)):=by rw[<-xV,<-a];exact AI _
   have T:=Q;cases D with
   | zero=>exact T.elim
   | succ D=>
   obtain⟨vT,vU,rG,ju,rfl,_⟩:=T;refine⟨ad,V,_,_,_,_,vT,vU,rG,ju,_,g5,λk3 w4 uQ am dQ=>?_⟩;refine(R9 _ w4 F y _ ((cG aM _).keep Q λk _ W=>dQ.block k W X) J).mono ?_;rintro _ w5 ⟨rfl,eJ⟩;refine⟨_,_,I,eJ.same (by have:=dQ.size;simp;omega),(qj s)-_,J,j+1,Ye,J,I,?_,?_,?_,(d.bU dQ).bU eJ⟩
   .rw[a,uF,eS J J];omega
   .rw[a,xV,eS J J];omega
   have:=dQ.size;have:=eJ.size;omega
  have k:¬(j:Int)<kids.n:=aU h;have a:j=qj s:=J
  subst a;rw[bm (H _)];refine⟨?_,d⟩;rw[iQ,Am,kw]
structure Pt4 (w:aw) (b:Nat) (sl:Sl) (l:C) (v2 v3:ay):Prop where
 blk:∃q:Option Addr,aG w b 234 [ae q,sl.v,v2,v3]
 len:sl.n=qj l
 aN:l≠[]->∃g,sl.a=.some ⟨g,0,Pw⟩/\b<g/\sl.c≠0/\(∃n,w.shape? g=.some (5,n)/\qj l<=n)/\aD w ⟨g,0,Pw⟩ (l.map jc)
 cap:sl.a=Pw∨sl.c≠0
 big:qj l<=9223372036854775807
section
variable {w:aw} {b:Nat} {sl:Sl} {l:C} {v2 v3:ay}
def Pt4.only{w'}(j:Pt4 w b sl l v2 v3)(h:az [] w w'):Pt4 w' b sl l v2 v3:=by
 obtain⟨⟨q,k⟩,m,o,p,r⟩:=j;refine⟨⟨q,h.blk k X⟩,m,λt=>?_,p,r⟩;obtain⟨g,c,d,e,⟨n,a,f⟩,i⟩:=o t;have s:g<w.heap.size:=by
  refine bS λn=>?_;unfold World.shape? at a;rw[iR J]at a;cases a
 have hk:=h.block g s X;exact⟨g,c,d,e,⟨n,(EM hk).trans a,f⟩,i.keep hk⟩
def Qz.pt{w0}{st}(a:Qz w0 b w l st):∃sl,Pt4 w b sl l (aj st.1) (O U st.2)/\∀k,sl.a=aN ⟨k,0,Pw⟩->Bu w b k:=by
 obtain⟨q,sl,d,B,h⟩:=a.ex;refine⟨sl,⟨⟨_,B⟩,h.len,λc=>?_,?_,?_⟩,λk hk=>Mo B hk⟩
 .rcases h with⟨_,e⟩ | ⟨g,tail,f,i,b,j,k,l,m,n⟩
  .exact absurd e c
  refine⟨g,f,i,J,⟨_,by unfold World.shape?;unfold aG at b;rw[b],X⟩,b.cells 0 _ λe v hj=>HM⟩
 .rcases h with⟨e,_⟩ | _
  .exact .inl (by rw[e])
  exact .inr J
 rcases h with⟨_,e⟩ | _
 .subst e;simp
 omega
def aiv(g:Pt4 w b sl l v2 v3):aA aq 176 #[ae (aN ⟨b,0,Pw⟩)] w λe d=>e=ak (ab (T l))/\Pt4 d b sl l v2 v3/\aE (λk=>b<k/\sl.a=aN ⟨k,0,Pw⟩) w d:=by
 refine ret (afx ?_);intro c n;obtain⟨⟨q,h⟩,f,N,p,s⟩:=g.only n;refine⟨λk=>k=b,sl,Om h 1 I,I,sl,Om h 1 I,sl.a,c,?_,λk _ _=>I,?_⟩
 .obtain⟨b,i,sc⟩:=sl;rcases b with _|a
  .exact Lib.run_unsafeSliceData_nil _ _ _ _ _
  rcases p with e | e
  .cases e
  exact Lib.run_unsafeSliceData_row _ _ _ _ _ _ e
 by_cases a:l=[]
 .subst a;refine⟨T [],c,?_,λk _ _=>I,I,⟨⟨q,h⟩,f,N,p,s⟩,n.p0⟩;rw[f];exact Lib.run_unsafeString_none _ _ _ _ _
 obtain⟨b,e,Q,r,⟨o,w,m⟩,z⟩:=N a;have F:=wV c ⟨b,0,Pw⟩ (qj l);refine⟨T l,c.freeze _ (qj l),?_,λk hk W=>F.block k W KQ,I,⟨⟨q,F.blk h KQ⟩,f,λ_=>⟨b,e,Q,r,⟨o,(agF).trans w,m⟩,λi v j=>by rw[wU];exact z i v j⟩,p,s⟩,n.nP (F.mono λk _ hk=>by dsimp only at hk;exact⟨J,by rw[hk];exact e⟩)⟩;rw[e,f];exact Lib.run_unsafeString_row _ _ _ _ 5 E E b o w l a m s λi x j=>z i _ (by rw[cw,j];rfl)
end
def iO(c:Ch):C×Int:=
 if pz c=aF then(if 16384<qj (eh [] (F4 c)) then([],2)else if(fp (eh [] (F4 c))).2.1≠0 then([],22)else(eh [] (F4 c),0))else([],22)
def oq:L Vr->Nat
 | []=>0
 | v::l=>(qj v.n+1)+oq l
def xo{v}:∀{l:L Vr},v∈l->qj v.n+1<=oq l
 | [],h=>Ux
 | x::l,h=>by
  rw[oq];rcases bh.1 h with rfl | h
  .omega
  have:=xo h;omega
def AJ:∀l,qj l<=oq l
 | []=>bf _
 | v::l=>by
  have:=AJ l;rw[oq,aZ];omega
def yC(v:Vr):M:=dD v.n&&YR (v.v≠ -9223372036854775808)
def adq c:((((((YR (c.root.b.k=1)&&YR (c.root.b.dft=[]))&&YR (qj c.vars<=16))&&YR (iQ c.root<=64))&&YR (Am c.root<=200))&&dD c.root.b.nm)&&(c.vars.all yC&&Fa c.root.b c.root.kids 1)&&YR (yP c.root<=400))=pz c:=by
 obtain⟨v,⟨b,l⟩⟩:=c;show((((((YR (b.k=1)&&YR (b.dft=[]))&&decide _)&&decide _)&&decide _)&&dD b.nm)&&(v.all yC&&Fa b l 1)&&decide _)=(v.all yC&&kc 0 _&&YR (b.k=1/\qj v<=16/\iQ _<=64/\Am _<=200/\yP _<=400))
 by_cases hk:b.k=1
 .rw[<-acv (d:=0) (.inl hk) Z];have:YR (b.k=1/\qj v<=16/\iQ (.mk b l)<=64/\Am (.mk b l)<=200/\yP (.mk b l)<=400)=(YR (qj v<=16)&&YR (iQ (.mk b l)<=64)&&YR (Am (.mk b l)<=200)&&YR (yP (.mk b l)<=400)):=by
   rw[bK];simp[hk,and_assoc]
  rw[this,bG hk];generalize YR (b.dft=[])=A;generalize YR (qj v<=16)=B;generalize YR (iQ _<=64)=C;generalize YR (Am _<=200)=D;generalize dD b.nm=G;generalize v.all yC=H;generalize Fa b l _=I;cases A<;>cases B<;>cases C<;>cases D<;>cases G<;>cases H<;>cases I<;>rfl
 have:YR (b.k=1/\qj v<=16/\iQ (.mk b l)<=64/\Am (.mk b l)<=200/\yP (.mk b l)<=400)=aM:=bD λh=>hk h.1;rw[this,bD hk];simp
def adr{w:aw}{F:A}{D:Nat}{c:Ch}{i:Sl}{g:aJ}(h:ChR aM D w F c i g)(m:HX c)(j:oq c.vars+mL c.root<=8388608)(E:Er w)(l:Tb w):
  aA aq 129 #[ah (i.v::g).toArray] w λe f=>e=ak (ai #[ab (T (iO c).1),O U (iO c).2])/\az [] w f:=by
 obtain⟨a,⟨d,s⟩⟩:=c;cases D with
 | zero=>exact h.root.elim
 | succ D=>
 have TK:nX aM (D+1) w F (.mk d s) g:=h.root;have B4:aB Ry 3 w F i a:=h.vars.1;obtain⟨en,lv,mv,kids,rfl,wE,yY⟩:=(cG aM _).inHeap TK;have wE:I3 aM w (λk=>F k/\k<w.heap.size) d en lv mv:=wE;have yY:ly aM (nX aM D) 9 27 w (λk=>F k/\k<w.heap.size) kids s:=yY;have c:=m.r;have c:Dv (.mk d s):=c;have TL:∀v,v∈a->qO v.v:=m.v;rw[Dv]at c;have j:oq a+mL (.mk d s)<=8388608:=j;have N:mL (.mk d s)=zl d+j5 s:=by rw[mL]
 have Bd:=j;rw[N]at Bd;unfold zl at Bd;have r:=adq ⟨a,.mk d s⟩;generalize P:iO ⟨a,.mk d s⟩=aS;unfold iO at P;rw[<-r]at P;clear r;have P:(if((((((YR (d.k=1)&&YR (d.dft=[]))&&decide _)&&decide _)&&decide _)&&dD d.nm)&&(a.all yC&&Fa d s 1)&&YR (yP (.mk d s)<=400))=aF then(if 16384<qj (eh [] (F4 ⟨a,.mk d s⟩)) then([],2)else if(fp (eh [] (F4 ⟨a,.mk d s⟩))).2.1≠0 then([],22)else(eh [] (F4 ⟨a,.mk d s⟩),0))else([],22))=aS:=P;show aA aq 129 #[ah (i.v::qD d.k d.nm d.ini d.dft en lv mv kids d.a).toArray] w _;refine ret (anA ?_);intro M b w1 fN dS hb oI cr;have G:=B4.len;have L:=AJ a;refine(R9 (D+1) w1 F (.mk d s) _ ((cG aM _).keep TK λk _ bW=>cr.block k bW X) J).mono ?_;rintro _ o ⟨rfl,y⟩;have z2:=y.size;refine⟨_,_,I,y.same S,λmU ig=>?_⟩;have q2:Qz w b o [] (aM,0):=⟨cr.bU y,hb,⟨Pw,Sl.nil,.inl I,mU,.inl ⟨I,I⟩⟩,λ_=>⟨ja 0,Z⟩,bf _⟩
 have t2:Zq aM w o b o [] (aM,0) [M]:=⟨q2,Mw.refl _ _ _,λk hk=>by
  simp only[aV]at hk;subst hk;exact⟨J,ig,λb=>by have:=RS mU b;cases this⟩⟩
 have hF:∀k,(λk=>F k/\k<w.heap.size) k->k<w.heap.size:=λk hk=>hk.2;have hw:=q2.o;rw[show ao #[]=T []from rfl,ji,G];refine(mJ t2.toQz _).mono ?_;rintro _ w3 ⟨rfl,bv,u1,u2,u3⟩;have p:=t2.nx u2 u3.up;have HZ:((((d.k==1)&&YR (d.dft=[]))&&YR ((qj a:Int)<=16))&&YR ((iQ (.mk d s):Int)<=64)&&YR ((Am (.mk d s):Int)<=200))=((((YR (d.k=1)&&YR (d.dft=[]))&&YR (qj a<=16))&&YR (iQ (.mk d s)<=64))&&YR (Am (.mk d s)<=200)):=by
  rw[bK];simp only[B,dr,bF];constructor
  .rintro⟨⟨⟨⟨b,e⟩,k⟩,n⟩,q⟩;exact⟨⟨⟨⟨b,e⟩,J⟩,J⟩,J⟩
  rintro⟨⟨⟨⟨b,e⟩,k⟩,n⟩,q⟩;exact⟨⟨⟨⟨b,e⟩,J⟩,J⟩,J⟩
 rw[HZ]at u1;obtain⟨W,Y,_,wv,_⟩:=p.ex;refine⟨I,t2.sm u3 X,W,Y,_,_,wv,(pY p.toQz d.nm J).mono ?_⟩;rintro _ w4 ⟨rfl,Q,v1,v2,v3⟩;have t:=p.nx v2 v3.up;obtain⟨am,aC,_,sO,_⟩:=t.ex;have V:=kR [fX,d.nm,[123]];simp at V;have aT:qj fX=5:=I;obtain⟨q5,w5,e5,eJ,z⟩:=Cz t.toQz [fX,d.nm,[123]] (n:=3) (parts:=#[.mk 0 (ab (T fX)),.mk 1 _,.mk 2 (ab (T [123]))]) I I Z Z 0 Z J;refine⟨_,I,p.sm v3 X,am,aC,_,_,sO,q5,w5,e5,?_,z.mono ?_⟩
 .refine eJ.same λx h=>⟨?_,X⟩
  simp at h;rcases h with rfl | rfl
  .exact(t.k x X).1
  exact t.toQz.lb
 rintro _ w6 ⟨rfl,x1,x2⟩;have t6:=t.nx x1 x2;have bY:=u1.tr v1;have cc:Q.1=aM->(if Q.1 then([]:C)else kQ [] (0,iJ [fX,d.nm,[123]]))=eh [] [(0,fX++32::(d.nm++[32,123]))]:=λe=>by
  rw[e];simp only[nr,lV];rw[pE,tC Z,iy (vH (v1.ok e).2.1),iy (by rfl),fj,ix,ix,pD];rfl
 generalize (if Q.1 then([]:C)else kQ [] (0,iJ [fX,d.nm,[123]]))=l6 at*
 obtain⟨ce,co,_,Qi,_⟩:=t6.ex;refine⟨I,t.sl eJ x2 X,ce,co,_,_,Qi,λnv cC q l' wr ac f=>∃(bV:Nat) (dk:St) (l':C),cC=bV/\bV<=qj a/\nv=(qj a)-bV/\Up Q ((a.take bV).all yC) 0 dk/\(dk.1=aM->l'=eh l6 ((a.take bV).map λv=>(1,Y0 v)))/\Zq aM w o b f l' dk [M],
  (qj a),⟨0,Q,l6,I,bf _,I,t6.toQz.up0,λ_=>I,t6⟩,?_⟩
 rintro nv _ qa la wr ac w7 ⟨bV,dO,l7,rfl,hj,rfl,TH,Oe,t7⟩;refine⟨λhc=>?_,λhc=>?_⟩
 .have bW:(bV:Int)<qj a:=u hc;obtain⟨ad,v,g,g1,g2,g3,g4,g5,g6⟩:=(Wg ft Z B4 t7.o X).get (be bV) J;rw[ba]at g2;have eQ:=bp g2;have L:=xo eQ;have lS:a.take (bV+1)=a.take bV++[v]:=by
   rw[bn,g2];rfl
  unfold Ry at g6;subst g6;refine⟨ad,g1,_,_,_,g5,λk4 w8 wx C5 fK _=>?_⟩;have t8:=t7.al fK wx C5;refine(mJ t8.toQz _).mono ?_;rintro _ w9 ⟨rfl,iD,y1,y2,y3⟩;have t9:=t8.nx y2 y3.up;obtain⟨g8,g9,_,gO,_⟩:=t9.ex;refine⟨I,t8.sm y3 X,g8,g9,_,_,gO,λdq dN _=>⟨λk=>k∈[k4],X,?_⟩⟩;have el:=t9.q dN;refine(pY el.toQz v.n J).mono ?_;rintro _ dB ⟨rfl,fd,y4,y5,y6⟩;have q:=el.nx y5 y6.up;obtain⟨f5,f6,_,GC,_⟩:=q.ex;refine⟨_,I,el.sm y6 X,f5,f6,_,_,GC,Zp (el.sm y6 X),(Dp v.v (TL v eQ) (l.only q.o)).mono ?_⟩;rintro _ ey ⟨rfl,eV⟩;have b:=q.q eV;obtain⟨f7,f8,_,Kj,_⟩:=b.ex;have Qd:=Mr (TL v eQ);have V:=kR [zg,v.n,[61],Lib.itoa v.v++[59]];simp only[cf,iu,dl,lY,aZ,bE,aP]at V;have ip:qj zg=3:=I;obtain⟨gT,eY,gG,dE,gE⟩:=Cz b.toQz [zg,v.n,[61],Lib.itoa v.v++[59]] (n:=4) (parts:=#[.mk 0 (ab (T zg)),.mk 1 (ab (T v.n)),.mk 2 (ab (T [61])),.mk 3 (ab (T (Lib.itoa v.v++[59])))]) I I Z Z 1 Z J;refine⟨T (Lib.itoa v.v),I,q.sq eV X,f7,f8,_,_,Kj,Zp (q.sq eV X),Yv,gT,eY,by rw[show ao #[59]=T [59]from rfl,fz];exact gG,?_,Zp (b.sq dE X),gE.mono ?_⟩
  .refine dE.same λx h=>⟨?_,X⟩
   simp only[bh,bI,cO]at h;rcases h with rfl | rfl | rfl
   .exact(b.k x X).1
   .exact b.toQz.lb
   exact(b.k x X).1
  rintro _ fV ⟨rfl,y7,y8⟩;have n:=b.nx y7 y8;obtain⟨x,T,_,NL,_⟩:=n.ex;refine⟨I,b.sl dE y8 X,x,T,_,_,NL,Zp (b.sl dE y8 X),(qj a)-(bV+1),J,bV+1,fd,_,Ye,J,I,((TH.tr y1).tr y4).cg ?_ I,λe=>?_,⟨n.toQz,n.m,λk hk=>n.k k U5⟩⟩
  .rw[lS,iw];have:(v.v != -9223372036854775808)=YR (v.v≠ -9223372036854775808):=by rw[bK];simp
   rw[this];unfold yC;simp only[mf,List.all_nil,dY];rw[sZ,Bool.and_comm (decide _) (dD _)]
  have k:ne (Lib.itoa v.v++[59])=aF:=by
   have:Lib.itoa v.v++[59]≠[]:=X
   unfold ne;rw[bD this];rfl
  rw[e];simp only[nr,lV];rw[Oe (y1.ok (y4.ok e).1).1,lS,cA,gR,tC Z,iy (vH (y4.ok e).2.1),iy (by rfl),iy k,fj,ix,ix,ix,pD,bC];rfl
 have lA:=aU hc;have me:bV=qj a:=J
 subst me;rw[bm (H _)]at TH Oe;refine(X3 (afY D) t7.toQz (wE.keep λk hk _=>t7.o.block k hk.2 X) (yY.keep (cG aM D) Z λk hk _=>t7.o.block k hk.2 X) hF c.1 c.2 J 1 Z E l).mono ?_;rintro _ w8 ⟨rfl,q,l8,iF,iS,y1,y2⟩;have v:=t7.nx y1 y2;obtain⟨lE,lT,_,yW,_⟩:=v.ex;obtain⟨q9,w9,e9,gA,iN⟩:=Cz v.toQz [[125]] (n:=1) (parts:=#[.mk 0 (ab (T [125]))]) I I Z Z 0 Z Z;refine⟨I,t7.sm y2 X,lE,lT,_,_,yW,q9,w9,e9,?_,iN.mono ?_⟩
 .refine gA.same λx h=>⟨?_,X⟩
  simp only[bh,bI,cO]at h;rcases h with rfl | rfl
  .exact(v.k x X).1
  exact v.toQz.lb
 rintro _ dq ⟨rfl,x3,x4⟩;have n:=v.nx x3 x4;have hU:=bY.tr (TH.tr iF);have oN:q.1=aM->(if q.1 then l8 else kQ l8 (0,iJ [[125]]))=eh [] (F4 ⟨a,.mk d s⟩):=λe=>by
  obtain⟨b,_⟩:=iF.ok e;obtain⟨x,_⟩:=TH.ok b;rw[e];simp;rw[iS e,Oe b,cc x];have k:iJ [[125]]=[125]:=Z
  rw[k,<-pE,<-gR,<-gR,<-gR];unfold F4;rw[bq (Hb 1 d)];exact I
 obtain⟨nO,oF,_,pK,_⟩:=n.ex;have mt:((((((YR (d.k=1)&&YR (d.dft=[]))&&YR (qj a<=16))&&YR (iQ (.mk d s)<=64))&&YR (Am (.mk d s)<=200))&&dD d.nm)&&(a.all yC&&Fa d s 1)&&YR (yP (.mk d s)<=400))=!q.1:=by
  have b:=hU.w;have e:YR (400<(0:Int)+((0+0+(0+(Cu d+nK s)):Nat):Int))=!YR (yP (.mk d s)<=400):=by
   rw[yP];by_cases h4:Cu d+nK s<=400
   .rw[bG h4,bD J];rfl
   rw[bD h4,bG J];rfl
  have b:q.1=((aM||!(_&&(a.all yC&&Fa d s 1)))||decide _):=b;rw[e]at b;rw[b];generalize (_&&(a.all yC&&Fa d s 1))=k;generalize YR (yP (.mk d s)<=400)=x;cases k<;>cases x<;>rfl
 rw[mt]at P;have oR:∀{f:aw},az [] o f->az [] w f:=λT=>hw.bU T;have mK:az [] w dq:=n.o;refine⟨I,v.sl gA x4 X,nO,oF,_,_,pK,λe=>?_,λe=>(neN n.toQz).mono ?_⟩
 .rw[R (by rw[e];decide)]at P;subst P;exact⟨I,mK⟩
 rw[K (by rw[e];rfl),<-oN e]at P;rintro _ _ ⟨rfl,rfl⟩;obtain⟨pi,rg,pm⟩:=n.toQz.pt;have pP:=λk hk=>n.toQz.bu (pm k hk);refine⟨_,I,λ_ _=>I,nO,oF,_,_,pK,λe2=>?_,λe2=>(aiv rg).mono ?_⟩
 .rw[K (u e2)]at P;subst P;exact⟨I,mK⟩
 rw[R (aU e2)]at P;rintro _ dB ⟨rfl,rx,eG⟩;have GD:=eG.size;have ut:=n.toQz.lb;have e:=n.k M X;have ko:∀k,(b<k/\pi.a=aN ⟨k,0,Pw⟩)->w.heap.size<=k:=λk hk=>by have:=n.lo;omega
 have TM:az [] w dB:=(mK.nP eG).only ko;obtain⟨tO,GC⟩:=rx.blk;refine⟨_,I,eG.same λx h=>?_,tO,pi,_,_,GC,(afM _ (E.only TM)).mono ?_⟩
 .simp only[aV]at h;subst h;exact⟨e.1,λT=>e.2.2 (pm _ T.2)⟩
 rintro _ ey ⟨AC,AS,rfl,hC,eV⟩;obtain⟨xe,xl,xm,xk,rfl,_⟩:=hC.root;have b:=rx.only eV;obtain⟨As,Kj⟩:=b.blk;have k:=TM.bU eV;have By:=eV.size;refine⟨AC,_,_,_,_,xe,xl,xm,xk,_,_,_,I,eV.same S,As,pi,_,_,Kj,λe3 k6 k7 eY _ _ _ _ dE _=>?_,λe3 k8 k9 fV AT uP Bv wd eZ _=>?_⟩
 .rw[K (by simpa using e3)]at P;subst P;exact⟨I,k.bU dE⟩
 rw[R (by simpa using e3)]at P;subst P;refine(aiv (b.only eZ)).mono ?_;rintro _ fT ⟨rfl,BY,ir⟩;obtain⟨Cc,BV⟩:=BY.blk;have CC:=eZ.size;refine⟨_,I,ir.same λx h=>?_,Cc,pi,_,_,BV,I,((k.bU eZ).nP ir).only ko⟩;simp only[bh,bI,cO]at h;rcases h with rfl | rfl | rfl
 .exact⟨J,λT=>e.2.2 (pm _ T.2)⟩
 .exact⟨uP,λT=>by have:=(pP _ T.2).2;omega⟩
 exact⟨wd,λT=>by have:=(pP _ T.2).2;omega⟩
def Xq(n:Int):M:=YR (-9223372036854775808<=n/\n<=9223372036854775807)
def X5{n:Int}(h:Xq n=aF):qO n:=by
 have h:=u h;exact⟨h.1,h.2⟩
mutual
def XX:Ex->M
 | .mk _ n _ _ l _=>Xq n&&LC l
def LC:L Ex->M
 | []=>aF
 | x::l=>XX x&&LC l
end
def Sc{y:Ex}:∀{l:L Ex},LC l=aF->y∈l->XX y=aF
 | [],_,h=>Ux
 | x::l,h,y=>by
  rw[LC,B]at h;rcases bh.1 y with rfl | y
  .exact h.1
  exact Sc h.2 y
def LF:∀(d:Nat) {x:Ex},XX x=aF->mo d x
 | 0,_,_=>trivial
 | d+1,.mk k n s op l a,h=>by
  rw[XX,B]at h;exact⟨X5 h.1,λy b=>LF d (Sc h.2 b)⟩
def K9(a:Ac):M:=XX a.x
def Mq(m:Mv):M:=XX m.g&&m.acts.all K9&&Xq m.wt
def MH(b:Nb):M:=b.en.all K9&&b.lv.all K9&&b.mv.all Mq
mutual
def Lz:Nd->M
 | .mk b l=>MH b&&Hq l
def Hq:L Nd->M
 | []=>aF
 | x::l=>Lz x&&Hq l
end
def X6{l:L Ac}(h:l.all K9=aF):∀a,a∈l->Hc a:=λa b d=>LF d ((du.1 h) a b)
def awe{m:Mv}(h:Mq m=aF):V7 m:=by
 unfold Mq at h;simp only[B]at h;exact⟨λd=>LF d h.1.1,X6 h.1.2,X5 h.2⟩
def awf{b:Nb}(h:MH b=aF):nbN b:=by
 unfold MH at h;simp only[B]at h;exact⟨X6 h.1.1,X6 h.1.2,λa m=>awe ((du.1 h.2) a m)⟩
mutual
def apo:∀(x:Nd),Lz x=aF->Dv x
 | .mk b l,h=>by
  rw[Lz,B]at h;rw[Dv];exact⟨awf h.1,afV l h.2⟩
def afV:∀(l:L Nd),Hq l=aF->Ao l
 | [],_=>by rw[Ao];trivial
 | x::l,h=>by
  rw[Hq,B]at h;rw[Ao];exact⟨apo x h.1,afV l h.2⟩
end
def CG(c:Ch):M:=(c.vars.all λv=>Xq v.v)&&Lz c.root
def awh{c:Ch}(h:CG c=aF):HX c:=by
 unfold CG at h;simp only[B]at h;exact⟨λv a=>X5 ((du.1 h.1) v a),apo _ h.2⟩
def awi(c:Ch):M:=YR (oq c.vars+mL c.root<=8388608)
def ChR.off{d:Nat}{w:aw}{F:A}{c:Ch}{v:Sl}{s:aJ}(h:ChR aF d w F c v s):ChR aM d w F c v s:=⟨h.vars.off λ_ _ _ h=>h,Rz h.root⟩
end
def TV(x:dC):aJ:=[O U x.k,ab (T x.nm),O U x.pa,O U x.dp,O U x.en]
def oV:Rp dC:=λ_ _ x c=>c=TV x
def dj:oV.Ok:=⟨λh _=>h,λh=>h,λh _=>h,λh=>by
 unfold oV TV at h;subst h;intro v a;simp only[bh,bI,cO]at a;rcases a with rfl | rfl | rfl | rfl | rfl<;>rfl⟩
abbrev jg(B:Nat)(w:aw)(s:Sl)(x:L dC):Prop:=Own oV 5 146 B w (λ_=>False) s x
def jg.of{B:Nat}{w:aw}{F:A}{s:Sl}{b:L dC}(h:Own oV 5 146 B w F s b):jg B w s b:=by
 rcases h with⟨rfl,rfl⟩ | ⟨g,a,tail,d,e,f,i,j,k,m,l⟩
 .exact .inl ⟨I,I⟩
 exact .inr ⟨g,a,tail,d,e,f,i,j,k,m,iL.ZH (λx c _ n=>n) l⟩
def jg.Ba{B:Nat}{w a:aw}{G:A}{s:Sl}{x:L dC}(h:jg B w s x)(O:aE G w a)(c:∀k,B<=k->s.a=aN ⟨k,0,Pw⟩->¬G k):jg B a s x:=
 h.keep dj λk hk b=>O.block k b (hk.elim (λh=>h.elim) λh=>c k h.1 h.2)
def afX(t:M):∀(D:Nat) {w:aw} {F:A} {x:Nd} {c:aJ} {b:Nat} {s:Sl} {xs:L dC} {pa dp:Int},nX t D w F x c->(∀k,F k->k<b)->aG w b 136 [s.v]->jg (b+1) w s xs->
  (qj xs)+iQ x<=1000000->0<=dp->dp+iQ x<=1000000->
  aA aq 79 #[ae (aN ⟨b,0,Pw⟩),ah c.toArray,O U pa,O U dp] w λe a=>e=ak (ai #[])/\∃d,aG a b 136 [d.v]/\jg (b+1) a d (xs++I9 (qj xs) pa dp x)/\kq b s w d a
 | 0,_,_,_,_,_,_,_,_,_,h,_,_,_,_,_,_=>h.elim
 | D+1,w,F,.mk f g,c,b,s,xs,pa,dp,⟨en,lv,mv,kids,jh,_,N⟩,hF,R,hS,hn,h0,hd=>by
  have hk:=N.1;clear N;dsimp only[Nd.kids,Nd.b]at hk jh;subst jh;rw[iQ]at hn hd;have B8:=hk.len;have aC:=qn g;refine ret (au0 ?_);intro V w0 N dS B;have z0:=B.size;have Gx:=R.lt;have cell:∀{p:aw} {q:Sl},aG p b 136 [q.v]->aD p ((⟨b,0,Pw⟩:Addr).add 0) [q.v]:=λh=>h.cells 0 [_] λj v hj=>Ol
  have ww:=B.blk R X;refine⟨s,cell ww,λw1 C=>⟨λk=>k=b,I,s,cell (C.blk ww X),?_⟩⟩;have Y:=B.bU C;have z1:=C.size;have Cg:jg (b+1) w1 s xs:=hS.Ba Y.p0 λ_ _ _ h=>h;have sL:=Y.blk R X;obtain⟨y,w2,k1,k3,l,w3,g1,g2,⟨gs,m,K⟩,g5⟩:=kx (P:=aq) (t:=134) (ty:=134) (e:=146) (i:=Tryz.t146) (bytes:=48) (size:=5) (r:=oV) (G:=λ_=>False) (v:=ah #[O U f.k,ab (T f.nm),O U pa,O U dp,O U 0]) (x:=⟨f.k,f.nm,pa,dp,0⟩) E E I I I I Z Z Z dj Cg J I I (λ_ h=>h.elim) J;have z2:=k3.size;have z3:=m.size;have z:∀i,i∈gs->i≠b/\i<w1.heap.size/\s.a=aN ⟨i,0,Pw⟩:=λi n=>⟨by have:=(K i n).2.1;omega,(K i n).2.2,(K i n).1⟩
  have rA:s.a≠aN ⟨V,0,Pw⟩:=λe=>XZ
  have wv:aG w3 b 136 [s.v]:=m.blk (k3.blk sL X) λh=>(z b h).1 I;refine⟨y,w2,k1,k3.same S,Uy k3,l,w3,g1,m.same λx o=>?_,λk hk W=>?_,b,0,_,_,I,wv,H 1,J,λw4 Q sO=>?_⟩
  .simp only[aV]at o;subst o;exact⟨J,λh=>rA (z _ h).2.2⟩
  .subst hk;exact m.block _ W λh=>(z _ h).1 I
  have z4:=Q.size;have DT:jg (b+1) w3 l (xs++[⟨f.k,f.nm,pa,dp,0⟩]):=jg.of g2;have Qu:jg (b+1) w4 l (xs++[⟨f.k,f.nm,pa,dp,0⟩]):=DT.Ba (G:=λk=>k=b) (Q.p X) λk h _=>J
  have m4:kq b s w l w4:=by
   refine⟨((Y.bU k3).nP (m.p (F:=λk=>k=b∨s.a=aN ⟨k,0,Pw⟩) λi n=>.inl (.inr (z i n).2.2))).trans (Q.p (F:=λk=>k=b∨s.a=aN ⟨k,0,Pw⟩) X) λk hk=>.inl hk,λk hk=>?_⟩;rcases g5 with e | ⟨i,e,h⟩
   .exact .inl KN
   rw[e]at hk;injection hk with hk;injection hk with hk;exact .inr J
  have n4:∀k,l.a=aN ⟨k,0,Pw⟩->k≠V:=λk hk e=>by
   subst e;rcases g5 with e | ⟨i,e,h⟩
   .exact rA KN
   rw[e]at hk;injection hk with hk;injection hk with hk;omega
  have jG:∀{p:aw} {q:Sl},kq b s w q p->aB (nX t D) 9 p F kids g:=λhm=>U6 (cG t D) Z hk hm.1 λk yr _=>by
   have:=hF k yr;exact λh=>h.elim J λh=>by have:=(hS.blk h).1;dsimp only at this;omega
  refine⟨λP am a=>∃(j:Nat) (q:Sl),am=(j:Int)/\P+j=qj g/\j<=qj g/\aG a b 136 [q.v]/\jg (b+1) a q (xs++⟨f.k,f.nm,pa,dp,0⟩::uA (qj xs+1) (qj xs) (dp+1) (g.take j))/\kq b s w q a/\w4.heap.size<=a.heap.size/\∀k,q.a=aN ⟨k,0,Pw⟩->k≠V,qj g,⟨0,l,I,J,bf _,sO,by rw[cu,uA];exact Qu,m4,H _,n4⟩,?_⟩;rintro P _ w5 ⟨j,q,rfl,nQ,mV,wq,r,T,z5,n5⟩;have v:s.n=qj xs:=hS.len;constructor
  .intro hc;have hj:j<qj g:=Zm
   obtain⟨y,hy⟩:∃y,g[j]? =aN y:=⟨_,aX hj⟩
   obtain⟨ad,y',ds,a1,a2,a3,a4,a5,a6⟩:=(jG T).get (be j) J;rw[ba,hy]at a2;injection a2 with a2;subst a2;have Qv:=a6;obtain⟨G,rfl⟩:∃G,D=G+1:=by
    cases D with
    | zero=>exact a6.elim
    | succ G=>exact⟨G,I⟩
   obtain⟨vT,vU,rG,ju,rfl,_⟩:=Qv;have ru:=mH hy;have aS:qj (xs++⟨f.k,f.nm,pa,dp,0⟩::uA (qj xs+1) (qj xs) (dp+1) (g.take j))=qj xs+1+dJ (g.take j):=by
    rw[aP,aZ,vF];omega
   refine⟨ad,a1,_,_,_,_,vT,vU,rG,ju,_,a5,λk6 w6 bv Vx dV=>?_⟩;have z6:=dV.size;have m6:kq b s w q w6:=T.trans (UW dV);rw[eS J J,v];refine(afX t (G+1) (pa:=((qj xs:Nat):Int)) ((cG t (G+1)).keep a6 λk _ W=>dV.block k W X) (s:=q) (xs:=xs++⟨f.k,f.nm,pa,dp,0⟩::uA (qj xs+1) (qj xs) (dp+1) (g.take j)) (b:=b) (dp:=dp+1) hF (dV.blk wq X) (r.Ba dV.p0 λ_ _ _ h=>h) (by rw[aS];omega) J J).mono ?_;rintro _ w7 ⟨rfl,q7,aT,V9,m7⟩;have z7:=m7.1.size;refine⟨I,m7.1.same λx o=>?_,P-1,J,j+1,q7,Ye,J,J,aT,?_,m6.trans m7,J,λk hk e=>?_⟩
   .simp only[bh,bI,cO]at o;rcases o with rfl | rfl
    .exact⟨J,λh=>h.elim J λh=>n5 _ h I⟩
    refine⟨Vx,λh=>h.elim J λh=>?_⟩;have:=(r.blk h).2;dsimp only at this;omega
   .have e:g.take (j+1)=g.take j++[y]:=QG
    rw[e,Ja,uA,uA,bC];rw[aS,bq,cb]at V9;exact V9
   subst e;rcases m7.2 _ hk with h | h
   .exact n5 _ h I
   omega
  intro hc w8 s;have me:j=qj g:=Xt
  subst me;rw[bm (H _)]at r;have yW:=s.blk wq X;have G:jg (b+1) w8 q _:=r.Ba s.p0 λ_ _ _ h=>h;have z8:=s.size;have dL:(xs++⟨f.k,f.nm,pa,dp,0⟩::uA (qj xs+1) (qj xs) (dp+1) g)[qj xs]? =aN ⟨f.k,f.nm,pa,dp,0⟩:=by
   rw[ck (H _),pQ];rfl
  obtain⟨i,cells,DP,p1,p2,p3,p4,p5,p6,p7⟩:=Own.ap7 dj G dL;have t:DP=TV ⟨f.k,f.nm,pa,dp,0⟩:=p6;subst t;have bY:q.n=qj xs+1+dJ g:=by rw[r.len,aP,aZ,vF];omega
  obtain⟨p8,p9⟩:=p7 4 (O U (q.n:Int)) ⟨f.k,f.nm,pa,dp,(q.n:Int)⟩ (λ_=>False) Z I λ_ h=>h.elim;rw[<-v]at p2;have bV:=(r.blk p1).1;dsimp only at bV;refine⟨q,cell yW,q,cell yW,_,p2,i,qj xs*5+4,cells,_,by rw[iK,v],p3,by rw[<-v]at p8⊢;exact p8,λe=>n5 i p1 e.symm,λw9 x y=>⟨I,q,x.blk yW S,?_,?_⟩⟩
  .have:=p9 w9 x y;rw[tV _ _ (H _),pQ,List.set_cons_zero]at this;rw[I9];have e:(q.n:Int)=((qj xs+1+dJ g:Nat):Int):=by rw[bY]
   rw[e]at this;exact this
  refine(T.trans (UW s)).trans ⟨x.p λk hk=>?_,λk hk=>.inl hk⟩;simp only[aV]at hk;subst hk;exact .inl (.inr p1)
def adu{w:aw}{F:A}{D:Nat}{c:Ch}{v:Sl}{s:aJ}(h:ChR aM (D+1) w F c v s)(d:HX c)(f:oq c.vars+mL c.root<=8388608)(E:Er w)(T:Tb w):
  aA aq 78 #[ah (v.v::s).toArray] w λe g=>e=ak (O U (iO c).2)/\az [] w g:=by
 obtain⟨a,l,mv,kids,rfl,_⟩:=h.root;refine ret (ane ?_);intro m i N j n;have x:ChR aM (D+1) i F c v (qD c.root.b.k c.root.b.nm c.root.b.ini c.root.b.dft a l mv kids c.root.b.a):=⟨h.vars.keep ft Z λk _ b=>n.block k b X,(cG aM _).keep h.root λk _ b=>n.block k b X⟩
 refine(adr x d f (E.only n) (T.only n)).mono ?_;rintro _ o ⟨rfl,r⟩;exact⟨_,_,I,r.same S,I,n.bU r⟩
def BD{c:Ch}(a:(iO c).2=0):iQ c.root<=64:=by
 unfold iO at a;by_cases h:pz c=aF
 .unfold pz at h;simp only[B]at h;exact(u h.2).2.2.1
 rw[R h]at a;exact absurd a Z
def X7{w:aw}{F:A}{D:Nat}{c:Ch}{d:Sl}{f:aJ}(a:ChR aM (D+1) w F c d f)(i:HX c)(j:oq c.vars+mL c.root<=8388608)(E:Er w)(g:Tb w):
  aA aq 34 #[ah (d.v::f).toArray] w λe b=>(∃s,e=ak (ai #[Sl.v s,O U (iO c).2])/\((iO c).2=0->jg w.heap.size b s (eI c))/\((iO c).2≠0->s=Sl.nil))/\az [] w b:=by
 obtain⟨n,l,mv,kids,m,_⟩:=a.root;subst m;refine(auP d c.root.b.k (T c.root.b.nm) (T c.root.b.ini) (T c.root.b.dft) n l mv kids c.root.b.a (λv b=>(∃s,v=ai #[Sl.v s,O U (iO c).2]/\((iO c).2=0->jg w.heap.size b s (eI c))/\((iO c).2≠0->s=Sl.nil))/\az [] w b) w ?_).mono ?_
 .intro v B N q e;have G:=e.size;have keep:∀{u:aw},az [] w u->ChR aM (D+1) u F c d (qD c.root.b.k c.root.b.nm c.root.b.ini c.root.b.dft n l mv kids c.root.b.a):=λO=>⟨a.vars.keep ft Z λk _ W=>O.block k W X,(cG aM _).keep a.root λk _ W=>O.block k W X⟩
  refine(adu (keep e) i j (E.only e) (g.only e)).mono ?_;rintro _ C ⟨rfl,r⟩;have H:=r.size;have o:=e.bU r;refine⟨_,I,r.same S,λhc=>?_,λhc y p z t P U=>?_⟩
  .have hc:(iO c).2≠0:=Yc
   exact⟨⟨Sl.nil,I,λh=>absurd h hc,λ_=>I⟩,o⟩
  have hc:(iO c).2=0:=Yc
  have R:=BD hc;have M:=o.bU P;have z2:=P.size;have K:nX aM (D+1) p (λk=>k<w.heap.size) c.root (qD c.root.b.k c.root.b.nm c.root.b.ini c.root.b.dft n l mv kids c.root.b.a):=
   (cG aM _).keep ((cG aM _).mono ((cG aM _).inHeap a.root) λk hk=>hk.2) λk _ W=>M.block k W X
  refine(afX aM (D+1) (s:=Sl.nil) (xs:=[]) (pa:= -1) (dp:=0) K (λk hk=>J) U (Yb _ _ _ _ _ _) PF Z J).mono ?_;rintro _ Y ⟨rfl,Q,V,T,L⟩;have z3:=L.1.size;refine⟨I,L.1.same λx a=>?_,Q,V,⟨Q,by rw[hc],λ_=>?_,λh=>absurd hc h⟩,?_⟩
  .simp only[aV]at a;subst a;exact⟨J,λh=>h.elim J λh=>Ue⟩
  .rw[cd]at T;exact Oq T J
  exact(M.nP L.1).only λk hk=>hk.elim J λh=>Ue
 rintro _ b ⟨v,rfl,⟨s,rfl,h,c⟩,e⟩;exact⟨⟨s,I,h,c⟩,e⟩
section
variable {w:aw} {F:A} {l:Sl} {xs:L dC}
def iP(c:aB oV 5 w F l xs){i:Nat}{x:dC}(d:xs[i]? =aN x):∃ad,cK l (i:Int) 5 ad/\aD w ad (TV x)/\aD w (ad.add 2) [O U x.pa]/\aD w (ad.add 3) [O U x.dp]/\aD w (ad.add 4) [O U x.en]:=by
 have W:=(bc.1 d).1;have o:=c.len;obtain⟨ad,y,s,e,g,k,m,b,a⟩:=c.get (be i) J;rw[ba,d]at g;injection g with g;subst g;have a:s=TV x:=a;subst a;have one:∀(n:Nat) (v:ay),(TV x)[n]? =aN v->aD w (ad.add n) [v]:=λn v f j u h=>by
  cases j with
  | zero=>
   rw[cQ,bP]at h;subst h;have:=b n v f;rw[rI,gy];exact this
  | succ j=>simp at h
 exact⟨ad,e,b,one 2 _ I,one 3 _ I,one 4 _ I⟩
def Fb(x:L dC)(n:Int):M:=YR (n>=0)&&YR (n<(qj x:Int))
def oy{n:Int}:Fb xs n=aF↔vG xs n:=by
 unfold Fb vG;rw[B,cx,cx]
def Mu(h:aB oV 5 w F l xs)(n:Int):aA aq 136 #[l.v,O U n] w λe a=>e=ak (aj (Fb xs n))/\a=w:=by
 refine ret (avh ?_);rw[h.len];exact⟨I,I⟩
noncomputable def Uv(xs:List dC)(b a:Int):Bool:=open Classical in decide (∃i j:Nat,b=i/\a=j/\nL xs i j)
def uG{b a:Int}:Uv xs b a=aF↔∃i j:Nat,b=i/\a=j/\nL xs i j:=by
 unfold Uv;exact @cx _ (Classical.propDecidable _)
def Mx(h:aB oV 5 w F l xs)(i:Fo xs)(b a:Int):aA aq 110 #[l.v,O U b,O U a] w λe d=>e=ak (aj (Uv xs b a))/\d=w:=by
 refine ret (au8 ?_);refine⟨λr d=>r=Uv xs b a/\d=w,λr d ⟨f,g⟩=>⟨by rw[f],g⟩,(Mu h a).mono ?_⟩;rintro _ _ ⟨rfl,rfl⟩;refine⟨_,I,λc=>(Mu h b).mono ?_,λc=>⟨?_,I⟩⟩
 .rintro _ _ ⟨rfl,rfl⟩;have c:=oy.1 c;by_cases e:(Fb xs b&&YR (b<=a))=aF
  .rw[B]at e;have z:=oy.1 e.1;have s:=u e.2;obtain⟨j,rfl⟩:∃j:Nat,b=j:=⟨b.toNat,by have:=z.1;omega⟩
   obtain⟨l,rfl⟩:∃l:Nat,a=l:=⟨a.toNat,by have:=c.1;omega⟩
   obtain⟨x,k⟩:=fE (xs:=xs) (i:=j) (by have:=z.2;omega);obtain⟨ad,m,o,_,_,n⟩:=iP h k;refine⟨_,I,ad,λ_=>m,x.en,λ_=>n,?_,I⟩;rw[e.1,e.2,ch,ch,bK,uG,cx];constructor
   .exact λh=>⟨j,l,I,I,x,k,J,h⟩
   rintro⟨p,t,a,q,y,b,f,g⟩;have a:j=p:=J
   subst a;rw[k,bP]at b;subst b;omega
  rw[pN]at e;refine⟨_,I,⟨0,0,Pw⟩,λh=>(by rw[e]at h;cases h),0,λh=>(by rw[e]at h;cases h),?_,I⟩;rw[e,cR,eq_comm,<-pN,uG];rintro⟨a,j,rfl,rfl,y,b,f,g⟩;have:=gp b;rw[show Fb xs (a:Int)=aF from oy.2 ⟨J,J⟩,show YR ((a:Int)<=(j:Int))=aF from bG J]at e;cases e
 rw[eq_comm,<-pN,uG];rintro⟨b,j,rfl,rfl,a⟩;have:=i.FL a;rw[show Fb xs (j:Int)=aF from oy.2 ⟨J,J⟩]at c;cases c
noncomputable def Pf(xs:List dC)(a b:Int):Bool:=open Classical in decide (∃i j:Nat,b=i/\a=j/\i<j/\nL xs i j)
def AK{a b:Int}:Pf xs a b=aF↔∃i j:Nat,b=i/\a=j/\i<j/\nL xs i j:=by
 unfold Pf;exact @cx _ (Classical.propDecidable _)
def BE(h:aB oV 5 w F l xs)(g:Fo xs)(a b:Int):aA aq 63 #[l.v,O U a,O U b] w λe c=>e=ak (aj (Pf xs a b))/\c=w:=by
 refine ret (auX ?_);refine⟨λr c=>r=Pf xs a b/\c=w,λr c ⟨d,f⟩=>⟨by rw[d],f⟩,λhc=>(Mx h g b a).mono ?_,λhc=>⟨?_,I⟩⟩
 .rintro _ _ ⟨rfl,rfl⟩;have hc:a≠b:=Yc
  refine⟨_,I,?_,I⟩;rw[bK,uG,AK];refine⟨λ⟨j,k,e,i,u⟩=>⟨j,k,e,i,?_,u⟩,λ⟨j,k,e,i,_,u⟩=>⟨j,k,e,i,u⟩⟩;obtain⟨s,_,l,_⟩:=u;omega
 have hc:a=b:=Yc
 subst hc;rw[eq_comm,<-pN,AK];rintro⟨j,k,e,i,l,_⟩;omega
abbrev cY(B:Nat)(w:aw)(s:Sl)(l:L Int):Prop:=Own rInt 1 3 B w (λ_=>False) s l
def cY.of{B:Nat}{w:aw}{F:A}{s:Sl}{l:L Int}(h:Own rInt 1 3 B w F s l):cY B w s l:=by
 rcases h with⟨rfl,rfl⟩ | ⟨g,a,tail,b,d,e,f,i,j,m,k⟩
 .exact .inl ⟨I,I⟩
 exact .inr ⟨g,a,tail,b,d,e,f,i,j,m,iL.ZH (λx c _ n=>n) k⟩
def YZ:=@cY.of
def X8(w:aw){u:aw}{s:Sl}{f:L Int}(h:cY w.heap.size u s f)(m:az [] w u)(n:Int)(q:qO n)(C:qj f<=20000000):
  ∃y b,(av 31 1 #[.mk 0 (O U n)]).run aq u=.ok (Sl.v y) b/\az [] u b/\∃c a,(Builtin.append_ #[31,31] 31 #[Sl.v s,Sl.v y]).run aq b=.ok (Sl.v c) a/\cY w.heap.size a c (f++[n])/\az [] w a/\aE (λk=>w.heap.size<=k) u a:=by
 obtain⟨y,b,z,k3,c,a,o,p,⟨B,j,l⟩,A⟩:=kx (P:=aq) (t:=31) (ty:=31) (e:=3) (i:=Tryz.t3) (bytes:=8) (size:=1) (r:=rInt) (G:=λ_=>False) (v:=O U n) (x:=n) E E I I I I Z Z Z bO h m.size I ⟨I,q⟩ (λ_ h=>h.elim) J;refine⟨y,b,z,k3,c,a,o,YZ p,?_,k3.nP (j.p λg d=>.inl (l g d).2.1)⟩;exact((m.bU k3).nP (j.p (F:=λk=>w.heap.size<=k) λg d=>.inl (l g d).2.1)).only λk hk=>hk
def awj(b:aB oV 5 w F l xs)(h:Fo xs)(n:Int)(m:qj xs<=1000):aA aq 91 #[l.v,O U n] w λe a=>(∃(s:Sl) (i:L Int),e=ak (Sl.v s)/\cY w.heap.size a s i/\(¬vG xs n->i=[])/\∀(k:Nat) (x:dC),n=k->xs[k]? =aN x->Ups xs x.pa i)/\az [] w a:=by
 refine(au6 l n (λv a=>(∃(s:Sl) (i:L Int),v=Sl.v s/\cY w.heap.size a s i/\(¬vG xs n->i=[])/\∀(k:Nat) (x:dC),n=k->xs[k]? =aN x->Ups xs x.pa i)/\az [] w a) w ?_).mono ?_
 .refine(Mu b n).mono ?_;rintro _ f ⟨rfl,d⟩;obtain rfl:w=f:=d.symm;refine⟨_,I,λhc=>⟨⟨Sl.nil,[],I,Yb _ _ _ _ _ _,λ_=>I,λk x e c=>?_⟩,Ib _ _⟩,λhc=>?_⟩
  .subst e;have:=gp c;rw[show Fb xs (k:Int)=aF from oy.2 ⟨J,J⟩]at hc;cases hc
  have l:vG xs n:=oy.1 Yc;obtain⟨k,rfl⟩:∃k:Nat,n=k:=⟨n.toNat,by have:=l.1;omega⟩
  obtain⟨x,c⟩:=fE (xs:=xs) (i:=k) (by have:=l.2;omega);obtain⟨ad,o,_,r,_,_⟩:=iP b c;have t:=h.yT c;have B:=gp c;refine⟨ad,o,x.pa,r,λv g q a=>∃i:L Int,(g<(v:Int))/\qj i+v<=qj xs+1/\cY w.heap.size a q i/\(∀s,Ups xs g s->Ups xs x.pa (i++s))/\(g<0∨∃(j:Nat) (y:dC),g=(j:Int)/\xs[j]? =aN y)/\az [] w a,k+1,⟨[],J,PF,Yb _ _ _ _ _ _,λs d=>d,?_,Ib _ _⟩,?_⟩
  .by_cases n:0<k
   .obtain⟨p,y,_,e,k,_⟩:=h.par c n;exact .inr ⟨p,y,e,k⟩
   have:k=0:=J
   subst this;exact .inl (by rw[(h.rt x c).1];decide)
  rintro v g q A ⟨i,z,Q,S,n,x,O⟩;refine⟨λhc=>?_,λhc=>?_⟩
  .have q:0<=g:=u hc;rcases x with x | ⟨j,y,rfl,k⟩
   .omega
   obtain⟨R,N,K,k3,M,P,F,G,C,U⟩:=X8 w S O j ⟨J,J⟩ J;obtain⟨T,D,_,E,_,_⟩:=iP (Wg dj Z b C X) k;have H:=h.yT k;refine⟨R,N,K,M,P,F,T,D,y.pa,E,v-1,J,i++[(j:Int)],J,XO,G,λs d=>?_,?_,C⟩
   .rw[bq];exact n _ (.go k d)
   by_cases w:0<j
   .obtain⟨p,V,_,e,y,_⟩:=h.par k w;exact .inr ⟨p,V,e,y⟩
   have:j=0:=J
   subst this;exact .inl (by rw[(h.rt y k).1];decide)
  have p:g<0:=Xt
  refine⟨⟨q,i,I,S,λw=>absurd l w,λy C e F=>?_⟩,O⟩;have e:k=y:=J
  subst e;rw[c,bP]at F;subst F;have:=n [] (.stop p);rwa[bC]at this
 rintro _ a ⟨v,rfl,⟨s,i,rfl,c,d,e⟩,f⟩;exact⟨⟨s,i,I,c,d,e⟩,f⟩
def air(c:aB oV 5 w F l xs)(h:Fo xs){n:Nat}{x:dC}(b:xs[n]? =aN x)(m:qj xs<=1000):aA aq 104 #[l.v,O U (n:Int)] w λe a=>(∃(s:Sl),e=ak (Sl.v s)/\cY w.heap.size a s (fQ xs n (qj xs)))/\az [] w a:=by
 refine(au7 l n (λv a=>(∃(s:Sl),v=Sl.v s/\cY w.heap.size a s (fQ xs n (qj xs)))/\az [] w a) w ?_).mono ?_
 .refine(Mu c n).mono ?_;rintro _ g ⟨rfl,t⟩;obtain rfl:w=g:=t.symm;have K:=gp b;have p:Fb xs (n:Int)=aF:=oy.2 ⟨J,J⟩;rw[p];refine⟨_,I,λd=>(by cases d),λ_=>?_⟩;have z:=h.up n x b;have G:∃e:Nat,x.en=e:=⟨x.en.toNat,J⟩
  obtain⟨e,r⟩:=G;refine⟨λv q i a=>∃k:Nat,i=(k:Int)/\n<k/\k<=e/\v+k=qj xs/\cY w.heap.size a q (fQ xs n k)/\(∀(j:Nat) g,n<j->j<k->xs[j]? =aN g->g.en<=(k:Int))/\az [] w a,(qj xs)-(n+1),⟨n+1,Ye,J,J,J,by rw[h.awx b];exact Yb _ _ _ _ _ _,λj g A B=>J,Ib _ _⟩,?_⟩;rintro v q _ C ⟨k,rfl,V,s,Q,S,f,O⟩;obtain⟨ad,l,_,_,_,o⟩:=iP (Wg dj Z c O X) b;refine⟨ad,l,x.en,o,λd=>?_,λd=>?_⟩
  .have d:=u d;obtain⟨y,e⟩:=fE (xs:=xs) (i:=k) J;have fi:qj (fQ xs n k)<=k:=by
    unfold fQ;rw[bH];exact bB (cH _ _) UY
   obtain⟨Y,U,R,k3,T,W,L,M,D,g4⟩:=X8 w S O k ⟨J,J⟩ J;obtain⟨yE,E,_,_,_,F⟩:=iP (Wg dj Z c D X) e;have P:=h.up k y e;have N:=h.lam k b e V d;obtain⟨q,x⟩:∃q:Nat,y.en=q:=⟨y.en.toNat,J⟩
   refine⟨Y,U,R,T,W,L,yE,E,y.en,F,v-(q-k),J,q,x,J,J,J,?_,h.ZL e x f,D⟩;rw[h.ZM b e V d x f];exact M
  have d:=aU d;have:k=e:=J
  subst this;exact⟨⟨q,I,by rw[h.aem b r];exact S⟩,O⟩
 rintro _ a ⟨v,rfl,⟨s,rfl,d⟩,e⟩;exact⟨⟨s,I,d⟩,e⟩
end
section
variable {w:aw} {F G:A} {l sN:Sl} {xs:L dC} {ns:L Int}
def adv{k:Nat}(h:aB oV 5 w F l xs)(B:aG w k 33 [l.v])(n:Int):aA aq 179 #[O U n,ae (aN ⟨k,0,Pw⟩)] w λe a=>e=ak (aj (!Fb xs n))/\a=w:=by
 refine ret (avo ?_);refine⟨l,B.cells 0 [_] λj v hj=>Ol,(Mu h n).mono ?_⟩;rintro _ _ ⟨rfl,rfl⟩;exact⟨_,I,I,I⟩
def ajC{k:Nat}(b:aB oV 5 w F l xs)(B:aG w k 33 [l.v])(h:aB rInt 1 w G sN ns):aA aq 95 #[sN.v,.func (.func 179) #[] #[ae (aN ⟨k,0,Pw⟩)]] w λe a=>(∃i:Int,e=ak (O U i)/\(i>=0↔∃n,n∈ns/\¬vG xs n))/\a=w:=by
 refine(Xb sN ⟨.func (.func 179) #[] #[ae (aN ⟨k,0,Pw⟩)],I⟩ (λv a=>(∃i:Int,v=O U i/\(i>=0↔∃n,n∈ns/\¬vG xs n))/\a=w) w ?_).mono ?_
 .have o:=h.len;have l:=h.cap;have D:=h.big;refine⟨λv i a=>∃j:Nat,i=(j:Int)/\v+j=qj ns/\j<=qj ns/\(∀n,n∈ns.take j->vG xs n)/\a=w,qj ns,⟨0,I,J,bf _,λn c=>by simp at c,I⟩,?_⟩;rintro v _ f ⟨j,rfl,Q,m,g,e⟩;obtain rfl:w=f:=e.symm;refine⟨λd=>?_,λd=>⟨⟨-1,I,λb=>absurd b Z,λ⟨n,c,hb⟩=>absurd (g n ?_) hb⟩,I⟩⟩
  .have d:=u d;obtain⟨ad,y,x,r,p,z,A,s,t⟩:=h.get (be j) J;rw[ba]at p;obtain⟨rfl,C⟩:=t;refine⟨ad,r,y,s,179,[],[ae (aN ⟨k,0,Pw⟩)],I,gN E,(adv b B y).mono ?_⟩;rintro _ f ⟨rfl,e⟩;obtain rfl:w=f:=e.symm;refine⟨_,I,λhb=>⟨⟨j,I,λ_=>⟨y,bp p,λq=>?_⟩,λ_=>J⟩,I⟩,λhb=>⟨v-1,J,j+1,Ye,J,J,λn c=>?_,I⟩⟩
   .rw[oy.2 q]at hb;cases hb
   rw[bn,p,bQ]at c;rcases c with c | c
   .exact g n c
   simp only[Option.toList,aV]at c;subst c;exact oy.1 Xu
  have d:=aU d;rwa[bm J]
 rintro _ a ⟨v,rfl,⟨i,rfl,c⟩,d⟩;exact⟨⟨i,I,c⟩,d⟩
def apq(x:L dC)(s:L Int):Prop:=s=[]∨∃n,n∈s/\¬vG x n
def acN(h:aB oV 5 w F l xs)(c:Fo xs)(N:aB rInt 1 w G sN ns):aA aq 131 #[l.v,sN.v] w λe d=>(∃r:Int,e=ak (O U r)/\Mt xs ns r)/\az [] w d:=by
 refine(avf l sN (λv d=>(∃r:Int,v=O U r/\Mt xs ns r)/\az [] w d) w ?_).mono ?_
 .intro z j C A i;have x:=N.len;have m:=N.cap;have D:=N.big;have S:=h.len;have L:∀{f:aw},az [] w f->aB oV 5 f F l xs:=λg=>Wg dj Z h g X;have kN:∀{f:aw},az [] w f->aB rInt 1 f G sN ns:=λg=>Wg bO Z N g X;refine⟨λb q f=>(b=aF↔apq xs ns)/\l=q/\az [] w f,?_,λhc=>?_,λhc B=>?_⟩
  .rintro b _ f ⟨hb,rfl,g⟩;refine⟨λV=>⟨⟨-1,I,.inl ⟨hb.1 V,I⟩⟩,g⟩,λP=>?_⟩;have hg:¬apq xs ns:=λQ=>by rw[hb.2 Q]at P;cases P
   have ig:ns≠[]:=λe=>hg (.inl e);have Q:∀n,n∈ns->vG xs n:=λn F=>qe λhx=>hg (.inr ⟨n,F,hx⟩);have am:0<qj ns:=mD.2 ig;obtain⟨ad,T,cs,g1,K,g3,g4,g5,g6⟩:=(kN g).get (i:=0) J J;obtain⟨rfl,_⟩:=g6;have K:ns[0]? =aN T:=K;have R:=Q T (bp K);obtain⟨G,rfl⟩:∃E:Nat,T=E:=⟨T.toNat,by have:=R.1;omega⟩
   have W:ns.take 1=[(G:Int)]:=by
    cases ns with
    | nil=>exact absurd I ig
    | cons a ns=>
     rw[cQ,bP]at K;subst K;rfl
   refine⟨ad,g1,_,g5,⟨J,m⟩,λkv i1 i2 q f=>∃E v:Nat,i1=(E:Int)/\i2=(v:Int)/\kv+v=(qj ns)-1/\v<=(qj ns)-1/\l=q/\az [] w f/\E8 xs (ns.take (v+1)) E,(qj ns)-1,⟨G,0,I,I,J,J,I,g,?_⟩,?_⟩
   .rw[W];refine⟨G,I,λn F=>?_,λv a=>?_⟩
    .simp only[aV]at F;subst F;exact⟨G,I,c.uL (by have:=R.2;omega)⟩
    obtain⟨k,e,s,_,b,_⟩:=a G X;omega
   rintro kv _ _ _ u1 ⟨E,v,rfl,rfl,nQ,hj,rfl,b,a⟩;have ZT:=SliceF.cut (kN b) (lo:=1) (hi:=sN.n) (m:=sN.c) J m (H _) (H _);have sK:(sN.cut 1 sN.n sN.c 1).n=(qj ns)-1:=by
    rw[ZT.len,ci,cD];omega
   refine⟨λhc=>?_,λhc=>?_⟩
   .have hc:=u hc;obtain⟨bv,n3,cs,p1,p2,p3,p4,p5,p6⟩:=ZT.get (be v) J;obtain⟨rfl,_⟩:=p6;rw[ba,List.getElem?_take_of_lt J,iC]at p2;have p2:ns[v+1]? =aN n3:=by rw[<-p2];congr 1;omega
    have aS:=Q n3 (bp p2);obtain⟨t,rfl⟩:∃E:Nat,n3=E:=⟨n3.toNat,by have:=aS.1;omega⟩
    have lS:ns.take (v+1+1)=ns.take (v+1)++[(t:Int)]:=by rw[bn,p2];rfl
    obtain⟨m',em,t1,t2⟩:=a;have em:E=m':=J
    subst em;refine⟨bv,p1,_,p5,λaT i4 q f=>∃E:Nat,i4=(E:Int)/\E=aT/\l=q/\az [] w f/\(∀n,n∈ns.take (v+1)->∃k:Nat,n=k/\nL xs E k)/\∀j':Nat,(∀n,n∈ns.take (v+1+1)->∃k:Nat,n=k/\nL xs j' k)->j'<=E,E,⟨E,I,I,I,b,t1,λj' aC=>t2 j' λn F=>aC n ?_⟩,?_⟩
    .rw[lS];exact GP _ F
    rintro aT _ _ u2 ⟨q,rfl,rfl,rfl,w,q1,q2⟩;refine(Mx (L w) c q t).mono ?_;rintro _ u3 ⟨rfl,hu⟩;obtain rfl:u2=u3:=hu.symm;refine⟨_,I,TT _ _,λl=>?_,λl=>?_⟩
    .have l:¬∃Y v:Nat,(q:Int)=Y/\(t:Int)=v/\nL xs Y v:=λe=>by rw[uG.2 e]at l;cases l
     have yU:t<qj xs:=by have:=aS.2;omega
     have rD:0<q:=Nat.pos_of_ne_zero λe=>l ⟨0,t,J,I,c.uM yU⟩;have bV:(G:Int)∈ns.take (v+1):=by
      rw[FZ];exact⟨0,by rw[List.getElem?_take_of_lt J];exact K⟩
     have bY:q<qj xs:=by
      obtain⟨k,_,s,e,_⟩:=q1 _ bV;exact gp e
     obtain⟨y,hy⟩:=fE bY;obtain⟨p,s,r1,r2,r3,r4,r5,r6⟩:=c.par hy rD;obtain⟨yI,b1,_,b3,_,_⟩:=iP (L w) hy;have cc:nL xs p q:=⟨s,r3,J,r5⟩
     refine⟨yI,b1,y.pa,b3,p,r1,p,r2,I,I,w,λn F=>?_,λj' aC=>?_⟩
     .obtain⟨k,e,hk⟩:=q1 n F;exact⟨k,e,c.pH cc hk⟩
     have y:=q2 j' aC;have n:j'≠q:=λe=>by
      subst e;obtain⟨k,e,hk⟩:=aC t (by rw[lS];simp);exact l ⟨j',k,I,e,hk⟩
     obtain⟨k,e,hk⟩:=aC G (by rw[lS];exact GP _ bV);obtain⟨s,e',p⟩:=q1 G bV;have:k=s:=J
     subst this;obtain⟨s',v1,v2,v3⟩:=c.tQ hk p y;exact r6 j' s' v1 J v3
    have l:Uv xs q t=aF:=by simpa using l
    obtain⟨s,y,k,p,e⟩:=uG.1 l;have k:q=s:=J
    have p:t=y:=J
    subst k p;refine⟨kv-1,J,q,v+1,I,Ye,J,J,I,w,q,I,λn F=>?_,q2⟩;rw[lS,bQ]at F;rcases F with F | F
    .exact q1 n F
    simp only[aV]at F;subst F;exact⟨t,I,e⟩
   have hc:=aU hc;rw[bm J]at a;exact⟨⟨E,I,.inr ⟨⟨ig,Q⟩,a⟩⟩,b⟩
  .have hc:(sN.n:Int)=0:=Yc
   exact⟨⟨λ_=>.inl (bL J),λ_=>I⟩,I,i⟩
  have hc:¬(sN.n:Int)=0:=Yc
  refine(Xa sN ⟨.func (.func 179) #[] #[ae (aN ⟨z,0,Pw⟩)],I⟩ (λv d=>(∃b:M,v=aj b/\(b=aF↔∃n,n∈ns/\¬vG xs n))/\d=j) j ?_).mono ?_
  .refine(ajC (L i) B (kN i)).mono ?_;rintro _ f ⟨⟨b,rfl,o⟩,a⟩;obtain rfl:j=f:=a.symm;exact⟨b,I,⟨_,I,by rw[cx];exact o⟩,I⟩
  rintro _ f ⟨v,rfl,⟨b,rfl,a⟩,e⟩;obtain rfl:j=f:=e.symm;refine⟨b,I,l,B,⟨λh=>.inr (a.1 h),λh=>?_⟩,I,i⟩;rcases h with h | h
  .subst h;exact absurd (by rw[x];rfl) hc
  exact a.2 h
 rintro _ d ⟨v,rfl,⟨r,rfl,a⟩,b⟩;exact⟨⟨r,I,a⟩,b⟩
end
def apr(u:aw){a b:Int}(h:qO a)(d:qO b):∃y c,(av 31 2 #[.mk 0 (O U a),.mk 1 (O U b)]).run aq u=.ok (Sl.v y) c/\az [] u c/\aB rInt 1 c (λ_=>True) y [a,b]:=by
 obtain⟨y,c,k,f,k3,_⟩:=iU (P:=aq) (t:=31) (e:=3) (i:=Tryz.t3) (z:=O U 0) (w:=u) (F:=λ_=>False) (vs:=[O U a,O U b]) (parts:=#[.mk 0 (O U a),.mk 1 (O U b)]) (len:=2) (xs:=[a,b]) (r:=rInt) (size:=1) E E I I Z I I Z Z bO ⟨⟨I,I,h⟩,⟨I,I,d⟩,trivial⟩;exact⟨y,c,k,k3,(f.slice bO).mono bO λ_ _=>trivial⟩
def cY.sl{B:Nat}{w:aw}{s:Sl}{x:L Int}(h:cY B w s x):aB rInt 1 w (λk=>B<=k) s x:=(h.slice bO).mono bO λk hk=>hk.elim (λh=>h.elim) λh=>h.1
def gW{w:aw}{F:A}{s:Sl}{l:L Int}(h:aB rInt 1 w F s l){i:Nat}{x:Int}(a:l[i]? =aN x):∃ad,cK s (i:Int) 1 ad/\aD w ad [O U x]:=by
 have W:=(bc.1 a).1;have k:=h.len;obtain⟨ad,y,e,b,g,f,j,c,d⟩:=h.get (be i) J;rw[ba,a]at g;injection g with g;subst g;obtain⟨rfl,_⟩:=d;exact⟨ad,b,c⟩
def kI{w a:aw}{F:A}{s:Sl}{l:L Int}(h:aB rInt 1 w F s l)(O:az [] w a):aB rInt 1 a F s l:=Wg bO Z h O X
def kd(x:L dC)(i:Int):Int:=((x[i.toNat]?).map λs:dC=>s.k).getD 0
def AM{x:L dC}{i:Nat}{s:dC}(h:x[i]? =aN s):kd x (i:Int)=s.k:=by
 unfold kd;rw[ba,h];rfl
def Hk(k:Int):M:=(k==1)||(k==2)
def gH(x:L dC)(n:Nat):L Int:=(fQ x n (qj x)).filter λk=>Hk (kd x k)
structure Sd (xs:List dC):Prop where
 fo:Fo xs
 le:qj xs<=64
 kn:∀(i:Nat) (s:dC),xs[i]? =aN s->1<=s.k/\s.k<=4
 rt:∃s,xs[0]? =aN s/\s.k=1
 pr:∀(i:Nat) (s:dC),xs[i]? =aN s->s.k=2->gH xs i≠[]
def Fc{x:L dC}{i n:Nat}{k:Int}:k∈fQ x i n↔∃(q:Nat) (t:dC),k=q/\q<n/\x[q]? =aN t/\t.pa=i:=by
 unfold fQ;rw[eo];constructor
 .rintro⟨q,h,rfl⟩;rw[jb,mM]at h;have:=u h.2;rcases hx:x[q]? with _|t
  .rw[hx]at this;cases this
  rw[hx]at this;injection this with this;exact⟨q,t,I,h.1,hx,this⟩
 rintro⟨q,t,rfl,h,a,b⟩;exact⟨q,by rw[jb,mM];exact⟨h,bG (by rw[a];exact bN aN b)⟩,I⟩
def My{x:L dC}{i:Nat}{k:Int}:k∈gH x i↔∃(q:Nat) (t:dC),k=q/\x[q]? =aN t/\t.pa=i/\Hk t.k=aF:=by
 unfold gH;rw[jb,Fc];constructor
 .rintro⟨⟨q,t,rfl,_,h,b⟩,a⟩;rw[AM h]at a;exact⟨q,t,I,h,b,a⟩
 rintro⟨q,t,rfl,h,a,b⟩;exact⟨⟨q,t,I,gp h,h,a⟩,by rw[AM h];exact b⟩
def abL(x:L dC)(i:Nat):(gH x i).Pairwise (· <·):=(mLs x i (qj x)).1.filter _
def Mz(x:L dC)(i:Nat):qj (gH x i)<=qj x:=by
 unfold gH;refine bB (cH _ _) ?_;unfold fQ;rw[bH];exact bB (cH _ _) UY
def Fe:∀{l m:L Int},l.Pairwise (· <·)->m.Pairwise (· <·)->(∀x,x∈l↔x∈m)->l=m
 | [],[],_,_,_=>rfl
 | [],y::m,_,_,h=>absurd ((h y).2 (.head _)) X
 | x::l,[],_,_,h=>absurd ((h x).1 (.head _)) X
 | x::l,y::m,h,a,b=>by
  rw[jB]at h a;have c:x=y:=by
   have e:=(b x).1 (.head _);have f:=(b y).2 (.head _);rw[bh]at e f;rcases e with e | e
   .exact e
   rcases f with f | f
   .exact f.symm
   have:=h.1 y f;have:=a.1 x e;omega
  subst c;rw[Fe h.2 a.2 λz=>?_];have d:=b z;rw[bh,bh]at d;constructor
  .intro K;rcases d.1 (.inr K)with e | e
   .subst e;exact absurd (h.1 z K) J
   .exact e
  .intro K;rcases d.2 (.inr K)with e | e
   .subst e;exact absurd (a.1 z K) J
   .exact e
def MA(n:Nat)(p:Nat->M):L Int:=((List.range n).filter p).map λk:Nat=>(k:Int)
def Ff(n:Nat)(p:Nat->M):MA (n+1) p=MA n p++if p n then[(n:Int)]else[]:=by
 unfold MA;rw[List.range_succ,fh,cA];cases h:p n<;>simp[h]
def AN(n:Nat)(p:Nat->M):qj (MA n p)<=n:=by
 unfold MA;rw[bH];exact bB (cH _ _) UY
def DA{n:Nat}{p:Nat->M}{x:Int}:x∈MA n p↔∃k:Nat,x=k/\k<n/\p k=aF:=by
 unfold MA;rw[eo];constructor
 .rintro⟨k,hk,rfl⟩;rw[jb,mM]at hk;exact⟨k,I,hk⟩
 rintro⟨k,rfl,hk⟩;exact⟨k,by rw[jb,mM];exact hk,I⟩
def MB{n:Nat}{p:Nat->M}:(MA n p).Pairwise (· <·):=by
 unfold MA;rw[List.pairwise_map];refine List.Pairwise.imp (R:=(· <·)) (λh=>J) ?_;exact List.Pairwise.filter _ List.pairwise_lt_range
def Bi(x:L dC)(act:L Int)(n:Nat):M:=YR ((n:Int)∈act)&&(kd x n==1)&&(qj (gH x n)==0)
def Hm(x:L dC)(act:L Int):L Int:=MA (qj x) (Bi x act)
def onC(x:L dC)(act:L Int)(n:Nat):Nat:=(gH x n).countP λr=>YR (r∈act)
def awk(x:L dC)(act:L Int)(n:Nat):M:=if kd x n=2 then onC x act n==qj (gH x n) else onC x act n==min 1 (qj (gH x n))
structure ayn (xs:List dC) (act:List Int) (x:Int):Prop where
 ge:0<=x
 lt:x<qj xs
 st:Hk (kd xs x)=aF
 up:x=0∨∀s,xs[x.toNat]? =aN s->s.pa∈act
 on:awk xs act x.toNat=aF
structure Lg (xs:List dC) (act:List Int):Prop where
 rt:(0:Int)∈act
 rise:act.Pairwise (· <·)
 at_:∀x,x∈act->ayn xs act x
end Go.Proofs.YtdfibecibkijiaaGreatDoor.Con
namespace Go.Proofs.YtdfibecibkijiaaGreatDoor.Con
open Go Go.RowKit Go.Kt
def ais(x:L dC)(S n:Nat):Prop:=(kd x n=2->∀r,r∈gH x n->S.testBit r.toNat=aF)/\(kd x n=1->gH x n=[]∨∃r,r∈gH x n/\S.testBit r.toNat=aF)
def ais.mono{x:L dC}{S a n:Nat}(b:ais x S n)(s:∀m,S.testBit m=aF->a.testBit m=aF):ais x a n:=
 ⟨λe r h=>s _ (b.1 e r h),λe=>(b.2 e).imp id λ⟨r,h,c⟩=>⟨r,h,s _ c⟩⟩
end Go.Proofs.YtdfibecibkijiaaGreatDoor.Con
namespace Go.Kt
open Go Go.RowKit Go.MapKept
structure aeZ {κ:Type} (d:TypeDesc) (kv:κ->ay) (g:κ->Prop):Prop where
 is:∀k,IsKey d (kv k)
 inj:∀{k l},kv k=kv l->k=l
structure MapV {κ:Type} (kv:κ->ay) (g:κ->Prop) (w:aw) (r:Nat) (m:κ->Option ay) (n:Nat):Prop where
 mem:∃es clock,w.heap[r]? =aN (.map es clock)/\Stamped es clock/\es.size<=n/\(∀x,x∈es.toList->∃k,x.key=kv k/\g k)/\
  ∀k v,m k=aN v↔∃x,x∈es.toList/\x.key=kv k/\x.val=v
section
variable {κ:Type} {d:TypeDesc} {kv:κ->ay} {g:κ->Prop} {P:Program} {w w':aw} {r n:Nat} {m:κ->Option ay} {mty kt et:TypeId}
def MapV.keep(h:MapV kv g w r m n)(hk:w'.heap[r]? =w.heap[r]?):MapV kv g w' r m n:=by
 obtain⟨e,c,a,b⟩:=h.mem;exact⟨e,c,hk.trans a,b⟩
def MapV.le(h:MapV kv g w r m n){n'}(i:n<=n'):MapV kv g w r m n':=by
 obtain⟨e,c,a,b,d,f⟩:=h.mem;exact⟨e,c,a,b,bB d i,f⟩
def MapV.lt(h:MapV kv g w r m n):r<w.heap.size:=by
 obtain⟨e,c,a,b⟩:=h.mem;exact(oK.1 a).1
def MapV.only(h:MapV kv g w r m n){bs}(O:Only bs w w')(a:r∉bs):MapV kv g w' r m n:=h.keep (O.block r h.lt a)
def MapV.ext(h:MapV kv g w r m n){m'}(j:∀k,m' k=m k):MapV kv g w r m' n:=by
 obtain⟨e,c,a,b,d,f,i⟩:=h.mem;exact⟨e,c,a,b,d,f,λk v=>by rw[j,i]⟩
def MapV.make w:(Instr.makeMap mty Pw).run P w=.ok (.map (aN w.heap.size)) (w.alloc (.map #[] 0))/\MapV kv g (w.alloc (.map #[] 0)) w.heap.size (λ_=>Pw) 0/\Only [] w (w.alloc (.map #[] 0)):=
 ⟨I,⟨#[],0,heap_alloc_new w _,stamped_empty 0,X,X,X⟩,X0 _ _⟩
def X1:=@MapV.make
def afZ(K:aeZ d kv g){s:Array MapEntry}(h:∀x,x∈s.toList->∃k,x.key=kv k/\g k):∀x∈s.toList,IsKey d x.key:=λx a=>by
 obtain⟨k,e,_⟩:=h x a;rw[e];exact K.is k
variable [DecidableEq κ]
def MapV.update(b:aeZ d kv g)(B:P.underlying mty=aN (.map kt et))(hd:P.underlying kt=aN d)(h:MapV kv g w r m n){k}(A:g k) v:
  ∃w',(Instr.mapUpdate mty (.map (aN r)) (kv k) v).run P w=.ok () w'/\MapV kv g w' r (λx=>if x=k then aN v else m x) (if m k=Pw then n+1 else n)/\Only [r] w w':=by
 obtain⟨z,c,f,q,hn,t,j⟩:=h.mem;have l:∀{s:Array MapEntry} {o y:Nat},Stamped s o->s.size<=y->(∀x,x∈s.toList->∃k,x.key=kv k/\g k)->
   (∀c d,(∃x,x∈s.toList/\x.key=kv c/\x.val=d)↔(c=k/\d=v)∨(c≠k/\m c=aN d))->∀w',w'.heap[r]? =aN (.map s o)->MapV kv g w' r (λx=>if x=k then aN v else m x) y:=by
  intro s o y e C n w w' D;refine⟨s,o,D,e,C,n,λc d=>?_⟩;rw[w];by_cases F:c=k
  .simp[F,H2,bP,true_and,ne_eq,not_true_eq_false,false_and,cO];exact⟨λh=>h.symm,λh=>h.symm⟩
  simp[R F,F,false_and,false_or,ne_eq,not_false_eq_true,true_and,lV]
 rcases findNow_spec (b.is k) z.toList 0 (afZ b t)with⟨p,a⟩ | ⟨u,e,p,a,i⟩
 .have d:m k=Pw:=by
   rcases hq:m k with _|v
   .rfl
   obtain⟨x,e,hk,_⟩:=(j k v).1 hq;exact absurd hk (a x e)
  rw[K d];refine⟨{w with heap:=w.heap.setIfInBounds r (.map (z.push {key:=kv k,val:=v,born:=c}) _)},?_,l (stamped_push q a) S ?_ ?_ _ (heap_set f).1,aeM f⟩
  .simp[Instr.mapUpdate,run_underlying B,MapKept.run_getObj_map f,MapKept.run_checkKey hd (b.is k),MapKept.run_findKey hd p,MapKept.run_setObj_map _ f,Result.andThen]
  .intro x e;simp only[Array.toList_push,bQ,aV]at e;rcases e with e | rfl
   .exact t x e
   exact⟨k,I,A⟩
  intro k v;simp only[Array.toList_push,bQ,aV];constructor
  .rintro⟨x,e | rfl,c,g⟩
   .exact .inr ⟨λh=>a x e (by rw[c,h]),(j k v).2 ⟨x,e,c,g⟩⟩
   exact .inl ⟨(b.inj c).symm,g.symm⟩
  rintro(⟨rfl,rfl⟩ | ⟨hn,h⟩)
  .exact⟨_,.inr I,I,I⟩
  obtain⟨x,e,c,g⟩:=(j k v).1 h;exact⟨x,.inl e,c,g⟩
 have d:=by simpa using a
 have V:=(bc.1 a).1;have c:m k≠Pw:=by rw[(j k e.val).2 ⟨e,bp a,i,I⟩];simp
 rw[R c];refine⟨{w with heap:=w.heap.setIfInBounds r _},?_,
  l (stamped_modify q u (λe=>{e with key:=kv k,val:=v}) (λ_ _=>I) (λm _ g=>by rw[d]at g;injection g with g;rw[<-g];exact i.symm)) H7 ?_ ?_ _ (heap_set f).1,aeM f⟩
 .simp[Instr.mapUpdate,run_underlying B,MapKept.run_getObj_map f,MapKept.run_checkKey hd (b.is k),MapKept.run_findKey hd p,d,i,MapKept.run_keyThatStays (b.is k),MapKept.run_setObj_map _ f,Result.andThen]
 all_goals rw[Array.toList_modify,msN a]
 .intro x e;rcases List.mem_or_eq_of_mem_set e with e | rfl
  .exact t x e
  exact⟨k,I,A⟩
 intro e v;constructor
 .rintro⟨x,w,m,n⟩;obtain⟨r,g⟩:=gI w;rw[QC]at g;split at g
  .injection g with g;rw[<-g]at m n;exact .inl ⟨(b.inj m).symm,n.symm⟩
  rename_i C;by_cases F:e=k
  .have Q:=(bc.1 g).1;have D:=qg.1 ((stamped_iff _ _).1 q).2.2;have ex:=(bc.1 g).2;have x:=(bc.1 a).2;exfalso;rcases Nat.lt_or_gt_of_ne C with W | k
   .exact D u r V Q W (by rw[x,ex,i,m,F])
   exact D r u Q V k (by rw[x,ex,i,m,F])
  exact .inr ⟨F,(j e v).2 ⟨x,bp g,m,n⟩⟩
 rintro(⟨rfl,rfl⟩ | ⟨hn,h⟩)
 .exact⟨_,List.mem_set V _,I,I⟩
 obtain⟨x,r,k,n⟩:=(j e v).1 h;obtain⟨m,g⟩:=gI r;refine⟨x,bp (i:=m) ?_,k,n⟩;rw[GM]
 .exact g
 rintro rfl;rw[a]at g;injection g with g;rw[<-g,i]at k;exact hn (b.inj k).symm
end
abbrev kS(s:L UInt8):ay:=.string ⟨s.toArray⟩
abbrev gS(s:L UInt8):Prop:=qj s<=maxLen
def aps:aeZ .string kS gS:=⟨λ_=>trivial,λh=>U3⟩
abbrev kN(k:Int):ay:=.int .i64 k
section
variable {κ:Type} {d:TypeDesc} {kv:κ->ay} {g:κ->Prop} {P:Program} {w w':aw} {r n:Nat} {m:κ->Option ay} {mty kt et:TypeId}
def MapV.aeo(K:aeZ d kv g)(i:P.underlying mty=aN (.map kt et))(hd:P.underlying kt=aN d){z}(q:∀w,(zeroValue et).run P w=.ok z w)(o:MapV kv g w r m n) k:
  (Instr.lookup mty (.map (aN r)) (kv k) aF).run P w=.ok (.tuple #[(m k).getD z,.bool (m k).isSome]) w:=by
 obtain⟨s,c,h,t,j,p,f⟩:=o.mem;rcases findNow_spec (K.is k) s.toList 0 (afZ K p)with⟨a,b⟩ | ⟨u,e,a,b,l⟩
 .have j:m k=Pw:=by
   rcases hmk:m k with _|v
   .rfl
   obtain⟨x,c,hk,_⟩:=(f k v).1 hmk;exact absurd hk (b x c)
  simp[Instr.lookup,run_underlying i,MapKept.run_getObj_map h,MapKept.run_checkKey hd (K.is k),MapKept.run_findKey hd a,Result.andThen,q,j]
 have c:=bp b;simp[Instr.lookup,run_underlying i,MapKept.run_getObj_map h,MapKept.run_checkKey hd (K.is k),MapKept.run_findKey hd a,Result.andThen,(f k e.val).2 ⟨e,c,l,I⟩]
end
end Go.Kt
namespace Go.Proofs.YtdfibecibkijiaaGreatDoor.Con
open Go Go.RowKit Go.Kt Go.Kt.V Go.Proofs.YtdfibecibkijiaaGreatDoor.Vc
def mI(l:L (C)):C->Option ay:=λk=>if zJ k l<qj l then aN (.int U (zJ k l))else Pw
def Se l x k:mI (l++[x]) k=if x∈l then mI l k else if k=x then aN (.int U (qj l))else mI l k:=by
 unfold mI;rw[aP,bA];by_cases hk:k∈l
 .have a:=pW.2 hk;rw[Jd [x] hk,K J,K a];by_cases h:x∈l
  .rw[K h]
  rw[R h,R λe=>h KN]
 have a:=λh=>hk (pW.1 h);by_cases e:k=x
 .subst e;rw[R hk,K I,Je [] hk,K J]
 have:¬zJ k _<qj (l++[x]):=λh=>by
  have:=pW.1 h;rw[bQ,aV]at this;exact this.elim hk e
 rw[aP,bA]at this;rw[R this,R e];split<;>rfl
def adw l k:(mI l k).isSome=YR (k∈l):=by
 unfold mI;by_cases hk:k∈l
 .rw[K (pW.2 hk),bG hk];rfl
 rw[R λh=>hk (pW.1 h),bD hk];rfl
abbrev NmV(w:aw)(r:Nat)(l:L (C)):Prop:=MapV kS gS w r (mI l) (qj l)
def NmV.at{w}{r}{l}(h:NmV w r l) k:(Instr.lookup 126 (.map (aN r)) (ab (T k)) aF).run aq w=.ok (ai #[O U (if zJ k l<qj l then zJ k l else 0),aj (YR (k∈l))]) w:=by
 have:=h.aeo (P:=aq) (mty:=126) (kt:=9) (et:=3) (z:=O U 0) aps E E (λw=>Tryz.zeroValue3 w) k;rw[adw]at this;rw[this];unfold mI;split<;>rfl
def NmV.add{w}{r}{l}(h:NmV w r l){x}(e:gS x)(n:x∉l):
  ∃a,(Instr.mapUpdate 126 (.map (aN r)) (ab (T x)) (O U (qj l))).run aq w=.ok () a/\NmV a r (l++[x])/\az [r] w a:=by
 obtain⟨a,b,c,d⟩:=h.update (P:=aq) (mty:=126) (kt:=9) (et:=3) aps E E e _;refine⟨a,b,(c.ext λk=>?_).le ?_,d⟩
 .rw[Se,R n]
 rw[aP,bA];split<;>omega
def NmV.has{w}{r}{l}(h:NmV w r l){x}(a:x∈l):NmV w r (l++[x]):=by
 refine(h.ext λk=>?_).le Px;rw[Se,K a]
structure Lo (w:aw) (b m0 m1:Nat) (s:Sl) (nn vn:List (C)) (f:Ft):Prop where
 blk:aG w b 128 [.map (aN m0),s.v,.map (aN m1),O U f.1,O U f.2]
 nm:NmV w m0 nn
 vr:NmV w m1 vn
 n0:m0<m1
 n1:m1<b
section
variable {w w':aw} {b m0 m1:Nat} {s:Sl} {nn vn:L (C)} {f:Ft}
def Lo.only(h:Lo w b m0 m1 s nn vn f){bs}(O:az bs w w')(a:b∉bs)(c:m0∉bs)(d:m1∉bs):Lo w' b m0 m1 s nn vn f:=⟨O.blk h.blk a,h.nm.only O c,h.vr.only O d,h.n0,h.n1⟩
def Lo.o0(h:Lo w b m0 m1 s nn vn f)(O:az [] w w'):Lo w' b m0 m1 s nn vn f:=h.only O X X X
def Lo.lG(h:Lo w b m0 m1 s nn vn f)(a:az [b] w w'){s'}{f'}(B:aG w' b 128 [.map (aN m0),s'.v,.map (aN m1),O U f'.1,O U f'.2]):Lo w' b m0 m1 s' nn vn f':=
 ⟨B,h.nm.only a (by have:=h.n0;have:=h.n1;simp;omega),h.vr.only a (by have:=h.n1;simp;omega),h.n0,h.n1⟩
def Lo.lt(h:Lo w b m0 m1 s nn vn f):b<w.heap.size:=h.blk.lt
def DB w k:aA aq 163 #[O U k] w λe w'=>e=ak (aj (gv k))/\w'=w:=by
 refine ret (avi ?_);refine⟨?_,I⟩;unfold gv;rw[show(_||_)=YR (k=3∨k=4) by rw[bK];simp]
def Jj(h:Lo w b m0 m1 s nn vn f) ok e a:aA aq 124 #[ae (aN ⟨b,0,Pw⟩),aj ok,O U e,O U a] w λr w'=>r=ak (ai #[])/\Lo w' b m0 m1 s nn vn (jQ f (bad ok e a))/\az [b] w w':=by
 refine ret (au9 ?_);rw[adg];refine⟨f.1,λ_=>Om h.blk 3 I,λc=>⟨b,3,_,_,I,h.blk,X,λg d B=>⟨I,?_,d⟩⟩,λc=>⟨I,?_,Ib _ _⟩⟩
 .rw[K c];exact h.lG d B
 rw[R (by rw[c];decide)];exact h
def ah6(h:Lo w b m0 m1 s nn vn f){x}(hx:gS x) a:aA aq 76 #[ae (aN ⟨b,0,Pw⟩),.map (aN m0),ab (T x),O U (qj nn),O U a] w λd w'=>d=ak (ai #[])/\Lo w' b m0 m1 s (nn++[x]) vn (jQ f (bad (!YR (x∈nn)) 24 a))/\az [b,m0] w w':=by
 refine ret (anc ?_);refine⟨_,_,w,h.nm.at x,(Jj h _ 24 a).mono ?_⟩;rintro _ e ⟨rfl,c,r⟩;refine⟨I,λhc=>?_,λhc=>?_⟩
 .obtain⟨w,a,f,u⟩:=c.nm.add hx Yc;refine⟨w,a,I,⟨u.blk c.blk (by have:=h.n0;have:=h.n1;simp;omega),f,c.vr.only u (by have:=h.n0;simp;omega),h.n0,h.n1⟩,(r.weaken (bs':=[b,m0]) (λx hx=>.inl T5)).trans u λx hx=>.inl T5⟩
 exact⟨I,⟨c.blk,c.nm.has Yc,c.vr,h.n0,h.n1⟩,r.weaken λx hx=>.inl T5⟩
def aaT(h:Lo w b m0 m1 s nn vn f){x}(hx:gS x) a:aA aq 76 #[ae (aN ⟨b,0,Pw⟩),.map (aN m1),ab (T x),O U (qj vn),O U a] w λd w'=>d=ak (ai #[])/\Lo w' b m0 m1 s nn (vn++[x]) (jQ f (bad (!YR (x∈vn)) 24 a))/\az [b,m1] w w':=by
 refine ret (anc ?_);refine⟨_,_,w,h.vr.at x,(Jj h _ 24 a).mono ?_⟩;rintro _ e ⟨rfl,c,r⟩;refine⟨I,λhc=>?_,λhc=>?_⟩
 .obtain⟨w,a,f,u⟩:=c.vr.add hx Yc;refine⟨w,a,I,⟨u.blk c.blk (by have:=h.n1;simp;omega),c.nm.only u (by have:=h.n0;simp;omega),f,h.n0,h.n1⟩,(r.weaken (bs':=[b,m1]) (λx hx=>.inl T5)).trans u λx hx=>.inl T5⟩
 exact⟨I,⟨c.blk,c.nm,c.vr.has Yc,h.n0,h.n1⟩,r.weaken λx hx=>.inl T5⟩
end
def Sf(P:A)(s:Sl)(w:aw)(a:Sl)(b:aw):Prop:=aE (λk=>P k∨s.a=aN ⟨k,0,Pw⟩) w b/\∀k,a.a=aN ⟨k,0,Pw⟩->s.a=aN ⟨k,0,Pw⟩∨w.heap.size<=k
def Sf.trans{P}{s t u}{w w' wo}(h:Sf P s w t w')(g:Sf P t w' u wo):Sf P s w u wo:=by
 refine⟨h.1.trans g.1 λk hk=>?_,λk hk=>?_⟩
 .rcases hk with hk | hk
  .exact .inl (.inl hk)
  exact(h.2 k hk).elim (λh=>.inl (.inr h)) .inr
 rcases g.2 k hk with hk | hk
 .exact h.2 k hk
 exact .inr (bB h.1.size hk)
def Sf.of{P}{s}{w w'}{bs}(h:az bs w w')(b:∀k,k∈bs->P k):Sf P s w s w':=⟨h.p λk hk=>.inl (.inl (b k hk)),λk hk=>.inl hk⟩
def QI:dC:=⟨0,[],0,0,0⟩
def Yd:∀(D:Nat) {w:aw} {F:A} {x:Nd} {g:aJ} {b m c:Nat} {s:Sl} {n d:L (C)} {f:Ft},nX aM D w F x g->(∀k,F k->k<m)->Lo w b m c s n d f->jg (b+1) w s (List.replicate (qj n) QI)->
  mL x<=8388608->qj n+iQ x<=1000000->
  aA aq 75 #[ae (aN ⟨b,0,Pw⟩),ah g.toArray] w λe a=>e=ak (ai #[])/\∃h,Lo a b m c h (n++(Cy x).map λp=>p.1) d (jQ f (wj n (Cy x)))/\jg (b+1) a h (List.replicate (qj n+iQ x) QI)/\Sf (λk=>k=b∨k=m) s w h a
 | 0,_,_,_,_,_,_,_,_,_,_,_,b,_,_,_,_,_=>b.elim
 | D+1,w,F,.mk l j,g,b,m,c,s,n,d,f,⟨en,lv,mv,kids,jh,_,fN⟩,hF,Y,hS,hz,hn=>by
  have hk:=fN.1;clear fN;dsimp only[Nd.kids,Nd.b]at hk jh;subst jh;rw[iQ]at hn;rw[mL]at hz;have B8:=hk.len;have bv:=qn j;have n0:=Y.n0;have n1:=Y.n1;have aC:gS l.nm:=by
   show (qj l.nm)<=maxLen;have:maxLen=9223372036854775807:=I;unfold zl at hz;omega
  refine ret (auY ?_);intro k0 w0 fN dS R;have z0:=R.size;have Gx:=Y.lt;have z:=Y.o0 R;have am:jg (b+1) w0 s _:=hS.Ba R.p0 λ_ _ _ i=>i;have Vb:s.n=qj n:=by rw[hS.len,tY]
  have rA:s.a≠aN ⟨k0,0,Pw⟩:=λe=>XZ
  refine⟨_,Om z.blk 0 I,s,Om z.blk 1 I,?_⟩;dsimp only;rw[Vb];refine(ah6 z aC l.a).mono ?_;rintro _ w1 ⟨rfl,K,T⟩;have z1:=T.size;have Cg:=am.Ba (G:=λk=>k=b∨k=m) (T.p λk hk=>.inl WH) λk i _=>J
  have aS:Sf (λk=>k=b∨k=m) s w s w1:=(Sf.of R X).trans (Sf.of T X);obtain⟨y,w2,k1,k3,s3,w3,g1,g2,⟨gs,W,g4⟩,g5⟩:=kx (P:=aq) (t:=33) (ty:=33) (e:=146) (i:=Tryz.t146) (bytes:=48) (size:=5) (r:=oV) (G:=λ_=>False) (v:=ah #[O U 0,ab (ao #[]),O U 0,O U 0,O U 0]) (x:=QI) E E I I I I Z Z Z dj Cg J I I (λ_ i=>i.elim) (by rw[tY];omega);have z2:=k3.size;have z3:=W.size;have B:∀o,o∈gs->b<o/\o<w1.heap.size/\s.a=aN ⟨o,0,Pw⟩:=λo N=>⟨by have:=(g4 o N).2.1;omega,(g4 o N).2.2,(g4 o N).1⟩
  have M:Lo w3 b m c s (n++[l.nm]) d _:=(K.o0 k3).only W (λi=>by have:=B _ i;omega) (λi=>by have:=B _ i;omega) (λi=>by have:=B _ i;omega);refine⟨I,T.same S,s,Om K.blk 1 I,y,w2,k1,k3.same S,s3,w3,g1,W.same λx Q=>?_,b,1,_,_,I,M.blk,X,J,λw4 V sO=>?_⟩
  .simp only[aV]at Q;subst Q;exact⟨J,λi=>rA (B _ i).2.2⟩
  have z4:=V.size;have P:=M.lG V sO;have DT:=by
   have:=jg.of g2;rwa[<-List.replicate_succ']at this
  have Qu:=DT.Ba (G:=λk=>k=b) (V.p X) λk i _=>J
  have m4:Sf (λk=>k=b∨k=m) s w s3 w4:=by
   refine aS.trans ⟨((k3.nP (W.p (F:=λk=>(k=b∨k=m)∨s.a=aN ⟨k,0,Pw⟩) λo N=>.inl (.inr (B o N).2.2))).trans (V.p (F:=λk=>k=b) X) λk hk=>.inl (.inl (.inl hk))),λk hk=>?_⟩;rcases g5 with e | ⟨o,e,i⟩
   .exact .inl KN
   rw[e]at hk;injection hk with hk;injection hk with hk;exact .inr J
  have n4:∀k,s3.a=aN ⟨k,0,Pw⟩->k≠k0:=λk hk e=>by
   subst e;rcases g5 with e | ⟨o,e,i⟩
   .exact rA KN
   rw[e]at hk;injection hk with hk;injection hk with hk;omega
  have jG:∀{bV:aw} {q:Sl},Sf (λk=>k=b∨k=m) s w q bV->aB (nX aM D) 9 bV F kids j:=λhm=>U6 (cG aM D) Z hk hm.1 λk yr _=>by
   have:=hF k yr;exact λi=>i.elim J λi=>by have:=(hS.blk i).1;dsimp only at this;omega
  refine⟨λkv aT a=>∃(r:Nat) (q:Sl),aT=(r:Int)/\kv+r=qj j/\r<=qj j/\Lo a b m c q (n++l.nm::(yR (j.take r)).map λp=>p.1) d (jQ f (wj n ((l.nm,l.a)::yR (j.take r))))/\jg (b+1) a q (List.replicate (qj n+1+dJ (j.take r)) QI)/\Sf (λk=>k=b∨k=m) s w q a/\w4.heap.size<=a.heap.size/\∀k,q.a=aN ⟨k,0,Pw⟩->k≠k0,qj j,⟨0,s3,I,J,bf _,by
   rw[cu,yR,wj,wj,bC];exact P,by rw[cu,dJ,gy];exact Qu,m4,H _,n4⟩,?_⟩
  rintro kv _ w5 ⟨r,q,rfl,nQ,mV,t,v,m5,z5,n5⟩;constructor
  .intro hc;have hj:r<qj j:=Zm
   obtain⟨y,hy⟩:∃y,j[r]? =aN y:=⟨_,aX hj⟩
   obtain⟨ad,y',ds,a1,s,a3,a4,a5,a6⟩:=(jG m5).get (be r) J;rw[ba,hy]at s;injection s with s;subst s;have Qv:=a6;obtain⟨b,rfl⟩:∃b,D=b+1:=by
    cases D with
    | zero=>exact a6.elim
    | succ b=>exact⟨b,I⟩
   obtain⟨vT,vU,rG,ju,rfl,_⟩:=Qv;have ru:=mH hy;have cc:=qt (bp hy);have G:qj (n++l.nm::(yR (j.take r)).map λp=>p.1)=qj n+1+dJ (j.take r):=by
    rw[aP,aZ,bH,ahF];omega
   refine⟨ad,a1,_,_,_,_,vT,vU,rG,ju,_,a5,λk6 w6 bY Vx f=>?_⟩;have z6:=f.size;have Qt:=t.o0 f;have VY:=t.lt;refine(Yd (b+1) ((cG aM (b+1)).keep a6 λk _ bW=>f.block k bW X) hF Qt (by rw[G];exact v.Ba f.p0 λ_ _ _ i=>i) J (by rw[G];omega)).mono ?_;rintro _ w7 ⟨rfl,q7,zF,V9,F⟩;have z7:=F.1.size;have e:j.take (r+1)=j.take r++[y]:=QG
   have q:yR (j.take (r+1))=yR (j.take r)++Cy y:=by rw[e,Jc,yR,yR,bC]
   refine⟨I,F.1.same λx Q=>?_,kv-1,J,r+1,q7,Ye,J,J,?_,?_,(m5.trans (Sf.of f X)).trans F,J,λk hk e=>?_⟩
   .simp at Q;rcases Q with rfl | rfl
    .exact⟨J,λi=>i.elim J λi=>n5 _ i I⟩
    refine⟨Vx,λi=>i.elim J λi=>?_⟩;have:=(v.blk i).2;dsimp only at this;omega
   .have e:n++l.nm::(yR (j.take (r+1))).map (λp=>p.1)=(n++l.nm::(yR (j.take r)).map λp=>p.1)++(Cy y).map λp=>p.1:=by
     rw[q,cA,bq,cb]
    have k:wj n ((l.nm,l.a)::yR (j.take (r+1)))=wj n ((l.nm,l.a)::yR (j.take r))++wj (n++l.nm::(yR (j.take r)).map λp=>p.1) (Cy y):=by
     rw[q,<-cb,Au];rfl
    rw[e,k,gz];exact zF
   .rw[G]at V9;rw[e,Ap,dJ,dJ,gy,<-dA];exact V9
   subst e;rcases F.2 _ hk with i | i
   .exact n5 _ i I
   omega
  intro hc;have e:r=qj j:=Xt
  subst e;rw[bm (H _)]at v t;refine⟨I,q,?_,?_,m5⟩
  .rw[Cy];exact t
  rw[iQ,show (qj n)+(dJ j+1)=qj n+1+dJ j by omega];exact v
end Go.Proofs.YtdfibecibkijiaaGreatDoor.Con
namespace Go.Kt
open Go Go.RowKit
section
variable {P:Program} {w:aw}
set_option maxRecDepth 20000 in
def abO {t it ty e:TypeId} {i:TypeInfo} {z:Value} (ht:P.underlying t=some (.slice e)) (hit:P.underlying it=some (.int .i64)) (hi:P.info? e=some i) (hz:i.zero=some z)
  {n:Nat} (hn0:0<n) (Bd:0<i.size) (h63:n<=9223372036854775807) (ZS:n*i.bytes<=281474976710656) (Va:Builtin.nextslicecap n 0*i.bytes<=281474976710656):
  (Builtin.append_ #[t,it] ty #[.slice none 0 0,.int .i64 n]).run P w=
   .ok (.slice (some ⟨w.heap.size,0,none⟩) n (grownCap w n 0 e))
    (w.drew.alloc (.cells (Builtin.zeroCells z.cells n++Builtin.zeroCells z.cells (grownCap w n 0 e-n)) e)):=by
 have hn:¬(n<=0):=W3
 have ayo:¬(9223372036854775807<(n:Int)):=W3
 have ayp:¬(281474976710656<Builtin.nextslicecap n 0*i.bytes):=W3
 have hwr:IntKind.i64.wrap (n:Int)=n:=eS W3 W3;have oI:¬(281474976710656<(n:Int)*(i.bytes:Int)):=by
  have:((n*i.bytes:Nat):Int)<=281474976710656:=Int.ofNat_le.2 ZS;rw[Int.natCast_mul]at this;omega
 have ae0:¬((n:Int)<0):=W3
 have ig:n≠0:=W3
 have V5:n*i.size≠0:=by have:=Nat.mul_pos hn0 Bd;omega
 simp[Builtin.append_,run_underlying ht,run_underlying hit,sizeOf,typeInfo,zeroValue,hi,hz,asInt,asIntOf,hwr,ae0,oI,ig,V5,ayo,ayp,Question.forced,run_firstCells_none,newRow,grownCap]
def aaC{o:Type}{r:Rp o}{F:Nat->Prop}{size bytes:Nat}{t it ty e:TypeId}{i:TypeInfo}{z:ay}(j:P.underlying t=aN (.slice e))(a:P.underlying it=aN (.int .i64))(g:P.info? e=aN i)(k:i.zero=aN z)(l:i.size=size)(Z:i.bytes=bytes)(N:z.cells.size=size)
  {n:Nat} (h:0<n) (c:0<size) (m:n*bytes<=140737488355328) (D:0<bytes):
  ∃s b,(Builtin.append_ #[t,it] ty #[.slice Pw 0 0,.int .i64 n]).run P w=.ok (Sl.v s) b/\Own r size e w.heap.size b F (s.cut 0 0 s.c size) []/\Only [] w b/\s.a=aN ⟨w.heap.size,0,Pw⟩:=by
 subst l;subst Z;have d:n<=140737488355328:=bB (by have:=Km n D;omega) m;have f:=(growslice_fits h m:Builtin.nextslicecap n 0*i.bytes<=281474976710656)
 refine⟨⟨aN ⟨w.heap.size,0,Pw⟩,n,grownCap w n 0 e⟩,_,abO j a g k h c J J f,?_,(Only.drew w).bU (X0 _ _),I⟩;have A:=grownCap_ge w n 0 e;have u:=grownCap_le_maxLen w n 0 e (by simp only[maxLen];omega);refine .inr ⟨w.heap.size,([]:L (L ay)),(Builtin.zeroCells z.cells n++Builtin.zeroCells z.cells (grownCap w n 0 e-n)).toList,?_,H _,?_,?_,I,?_,?_,trivial⟩
 .simp[Sl.cut,Addr.add]
 .have:=Yf w.drew e (Builtin.zeroCells z.cells n++Builtin.zeroCells z.cells (grownCap w n 0 e-n)).toList;rw[Array.toArray_toList]at this;exact this
 .rw[Array.toList_append,aP,zQ w _ N,zQ w _ N,<-gY];simp only[Sl.cut];congr 1;omega
 .simp[Sl.cut]
 simp only[Sl.cut];simp only[maxLen]at u;omega
end
end Go.Kt
namespace Go.Proofs.YtdfibecibkijiaaGreatDoor.Con
open Go Go.RowKit Go.Kt Go.Kt.V Go.Proofs.YtdfibecibkijiaaGreatDoor.Vc
structure Lx (w:aw) (b m0 m1:Nat) (F:A) (s:Sl) (xs:List dC) (vn:List (C)) (f:Ft):Prop where
 lo:Lo w b m0 m1 s (xs.map λx:dC=>x.nm) vn f
 sp:aB oV 5 w F s xs
 fo:Fo xs
 ln:qj xs<=64
 nF:∀k,F k->k≠b
section
variable {w w':aw} {b m0 m1:Nat} {F G:A} {s:Sl} {xs:L dC} {vn:L (C)} {f g:Ft}
def Lx.o0(h:Lx w b m0 m1 F s xs vn f)(O:az [] w w'):Lx w' b m0 m1 F s xs vn f:=⟨h.lo.o0 O,Wg dj Z h.sp O X,h.fo,h.ln,h.nF⟩
def Lx.to(h:Lx w b m0 m1 F s xs vn f)(O:az [b] w w')(l:Lo w' b m0 m1 s (xs.map λx:dC=>x.nm) vn g):Lx w' b m0 m1 F s xs vn g:=
 ⟨l,Wg dj Z h.sp O λk hk _ hm=>h.nF k hk Ie,h.fo,h.ln,h.nF⟩
def oz(h:Lx w b m0 m1 F s xs vn f) ok e a:aA aq 124 #[ae (aN ⟨b,0,Pw⟩),aj ok,O U e,O U a] w λr w'=>r=ak (ai #[])/\Lx w' b m0 m1 F s xs vn (jQ f (bad ok e a))/\az [b] w w':=by
 refine(Jj h.lo ok e a).mono ?_;rintro _ w' ⟨rfl,d,c⟩;exact⟨I,h.to c d,c⟩
def Fg xs n:gj xs n= -1∨∃j:Nat,gj xs n=j/\j<qj xs:=by
 rcases jt xs n with⟨h,_⟩ | ⟨j,x,h,a,_⟩
 .exact .inl h
 exact .inr ⟨j,h,gp a⟩
def Jk(h:Lx w b m0 m1 F s xs vn f) n:aA aq 164 #[.map (aN m0),ab (T n)] w λr w'=>r=ak (O U (gj xs n))/\w'=w:=by
 refine ret (avj ?_);refine⟨_,_,w,h.lo.nm.at n,λa=>⟨?_,I⟩,λa=>⟨?_,I⟩⟩
 .have l:=pW.2 (u a);unfold gj;rw[K l,K (by rwa[bH]at l)]
 have l:=λh=>aU a (pW.1 h);unfold gj;rw[R (by rwa[bH]at l)]
def ahG(a:Lx w b m0 m1 F s xs vn f){n:Int}(e:n<qj xs):aA aq 165 #[ae (aN ⟨b,0,Pw⟩),O U n] w λr w'=>r=ak (aj (YR (0<=n)&&!gv (ke xs n)))/\w'=w:=by
 refine ret (avk ?_);refine⟨λr w'=>r=(YR (0<=n)&&!gv (ke xs n))/\w'=w,λr w' ⟨c,d⟩=>⟨by rw[c],d⟩,λh=>?_,λh=>⟨?_,I⟩⟩
 .have h:=u h;obtain⟨j,rfl⟩:∃j:Nat,n=j:=⟨n.toNat,J⟩
  obtain⟨x,b⟩:=fE (xs:=xs) (i:=j) J;obtain⟨ad,f,g,_⟩:=iP a.sp b;refine⟨s,Om a.lo.blk 1 I,ad,f,x.k,g.dP 0 _ I,(DB w x.k).mono ?_⟩;rintro _ l ⟨rfl,k⟩;refine⟨_,I,?_,k⟩;rw[fJ b,bG h];rfl
 rw[show decide _=aM from h];rfl
def Jl{b k0}(O:az [b] w w')(h:k0≠b):bX (λk=>k=k0) w w':=λk hk W=>O.block k W (by subst hk;simp[h])
def xp{b}{u v}(h:az [b] w u)(g:az [b] u v):az [b] w v:=h.trans g λx a=>.inl a
def CV{b}(h:az [] w w'):az [b] w w':=h.weaken λx a=>(by simp at a)
def Jm:∀(d:Nat) {w:aw} {x:Ex} {c:aJ} {f:Ft},O4 aM d w G x c->(∀k,G k->k≠b)->Lx w b m0 m1 F s xs vn f->
  aA aq 127 #[ae (aN ⟨b,0,Pw⟩),ah c.toArray] w λr w'=>r=ak (ai #[])/\Lx w' b m0 m1 F s xs vn (jQ f (Uo xs vn x))/\az [b] w w'
 | 0,_,_,_,_,h,_,_=>h.elim
 | d+1,w,x,c,f,⟨sl,m,t⟩,i,h=>by
  subst m;have t:=t.1;refine ret (avc ?_);intro j l N v n;have A:=n.size;have q:=h.lo.lt;have g:=h.o0 n;have W:=t.len;have p:=t.cap;have Q:=t.big;have o:j≠b:=J
  refine⟨λa=>Lx a b m0 m1 F s xs vn (jQ f (bad (N2 xs vn x.k x.s) 23 x.a))/\az [b] w a/\l.heap.size<=a.heap.size,?_,λhk=>?_,λhk=>⟨λz=>?_,λz=>?_⟩⟩
  .rintro w1 ⟨L,P,T⟩;refine⟨λE M a=>∃B:Nat,M=(B:Int)/\E+B=qj x.dK/\B<=qj x.dK/\Lx a b m0 m1 F s xs vn (jQ f (bad (N2 xs vn x.k x.s) 23 x.a++uB xs vn (x.dK.take B)))/\az [b] w a/\l.heap.size<=a.heap.size,qj x.dK,⟨0,I,I,bf _,by rw[cu,uB,bC];exact L,P,T⟩,?_⟩;rintro E _ R ⟨B,rfl,Y,V,D,K,z2⟩;refine⟨λC=>?_,λC=>?_⟩
   .have C:=u C;have f:aB (O4 aM d) 6 R G sl x.dK:=Wg (mq aM d) Z t K λk hk _ hm=>i k hk Ie;obtain⟨ad,y,ds,w,a2,a3,a4,F,b⟩:=f.get (be B) J;rw[ba]at a2;have s:=b;obtain⟨d',rfl⟩:∃e,d=e+1:=by
     cases d with
     | zero=>exact b.elim
     | succ e=>exact⟨e,I⟩
    obtain⟨sl',rfl,_⟩:=s;refine⟨ad,w,_,_,_,_,_,_,F,λk3 w3 z uQ d=>?_⟩;have z3:=d.size;refine(Jm _ ((mq aM _).keep b λk hk G=>d.block k G X) i (D.o0 d)).mono ?_;rintro _ w4 ⟨rfl,h4,e⟩;have z4:=e.size;have lS:x.dK.take (B+1)=x.dK.take B++[y]:=HG
    have sF:=D.lo.lt;refine⟨I,e.same S,E-1,J,B+1,Ye,J,J,?_,(K.bU d).trans e λx hx=>.inl hx,J⟩;rw[lS,EY,uB,uB,bC,<-bq,gz];exact h4
   have C:=aU C;have e:B=qj x.dK:=J
   subst e;rw[bm (H _),<-ajf]at D;exact⟨I,D,K⟩
  .have hk:x.k=2:=WH
   intro w e;have s:=e.size;have d:=g.o0 e;refine⟨_,Om d.lo.blk 2 I,_,_,w,d.lo.vr.at x.s,TT _ _,(oz d _ 23 x.a).mono ?_⟩;rintro _ k ⟨rfl,f,b⟩;have y:=b.size;refine⟨I,b.same S,?_,xp (CV (n.bU e)) b,J⟩;have:N2 xs vn x.k x.s=YR (x.s∈vn):=by unfold N2;rw[hk];simp
   rw[this];exact f
  .have z:x.k=3:=by simpa using z
   intro w f;have E:=f.size;have b:=g.o0 f;refine⟨λk=>k=j,_,Om b.lo.blk 0 I,I,(Jk b x.s).mono ?_⟩;rintro _ y ⟨rfl,d⟩;obtain rfl:w=y:=d.symm;refine⟨_,I,TT _ _,Y4 _ _,(ahG b (by rcases Fg xs x.s with h | ⟨D,h,C⟩<;>omega)).mono ?_⟩;rintro _ s ⟨rfl,d⟩;obtain rfl:w=s:=d.symm;refine⟨_,I,TT _ _,Y4 _ _,(oz b _ 23 x.a).mono ?_⟩;rintro _ B ⟨rfl,V,e⟩;have G:=e.size;refine⟨I,e.same S,Jl e o,?_,xp (CV (n.bU f)) e,J⟩;have:N2 xs vn x.k x.s=Ku xs x.s:=by unfold N2;rw[z];simp
   rw[this];exact V
  have F:x.k≠2:=WH
  have z:x.k≠3:=by simpa using z
  have:N2 xs vn x.k x.s=aF:=by unfold N2;simp[F,z]
  rw[this];exact⟨g,CV n,H _⟩
end
def Ph:Rp Sl:=λ_ _ x c=>c=[x.v]
def vI:Ph.Ok:=⟨λh _=>h,λh=>h,λh _=>h,λh=>by
 subst h;intro v a;simp at a;subst a;rfl⟩
abbrev Sg(B:Nat)(w:aw)(G:A)(s:Sl)(l:L Ac):Prop:=Own (uW aM) 9 227 B w G s l
def adx w G {n:Nat} (d:n<=20000000):aA aq 216 #[Sl.nil.v,O U n] w λe b=>(∃s,e=ak s.v/\Sg w.heap.size b G s [])/\az [] w b:=by
 refine gX (aoi ?_);have c:au U (n-(au U (Sl.nil.c-Sl.nil.n)))=n:=by
  rw[eS (x:=((0:Nat))-((0:Nat))) J J,eS J J];omega
 refine⟨λa=>w=a,?_,λh=>?_,λ_=>I⟩
 .rintro _ rfl;rw[c];refine⟨λl a=>Sg w.heap.size a G l []/\az [] w a,λl a f=>⟨⟨l,I,f.1⟩,f.2⟩,λh=>?_,λh=>⟨Yb _ _ _ _ _ _,Ib _ _⟩⟩;have h:=u h;obtain⟨s,m,g,j,k,_⟩:=aaC (P:=aq) (w:=w) (r:=uW aM) (F:=G) (size:=9) (bytes:=104) (t:=23) (it:=3) (ty:=23) (e:=227) (i:=Tryz.t227) (n:=n) E E E I I I I J Z J Z;exact⟨0,⟨I,H _⟩,s,m,g,0,⟨I,bf _⟩,j,k⟩
 have:=u h;omega
def qF(l:L (Sl×L Ac)):L Ac:=l.flatMap λp=>p.2
def xW{l:L _}{j}{p}(h:l[j]? =aN p):qF (l.take (j+1))=qF (l.take j)++p.2:=by
 rw[bn,h];unfold qF;simp
def Sh{l} j:qj (qF (l.take j))<=qj (qF l):=by
 have:qF l=qF (l.take j)++qF (l.drop j):=by
  unfold qF;rw[<-kj,dM]
 rw[this,aP];omega
def frD{w}{rows}{F G}{l}(R:aB Ph 1 w F rows (l.map λp=>p.1))(A:∀p,p∈l->aB (uW aM) 9 w G p.1 p.2)(m:qj (qF l)<=20000000):
  aA aq 166 #[rows.v] w λe c=>(∃s,e=ak s.v/\Sg w.heap.size c (λk=>G k/\k<w.heap.size) s (qF l))/\az [] w c:=by
 refine gX (anQ ?_);have V:=R.len;have d:=R.cap;have f:=R.big;rw[bH]at V;have row:∀{a:aw} {j:Nat},az [] w a->j<(qj l)->∃ad p,cK rows j 1 ad/\l[j]? =aN p/\aD a ad [p.1.v]/\aB _ 9 a _ p.1 p.2:=fun{a j} hO b=>by
  obtain⟨ad,y,s,l,e,q,r,n,o⟩:=(Wg vI Z R hO X).get (be j) J;rw[ba,cw,fm]at e;obtain⟨p,g,rfl⟩:=e;subst o;exact⟨ad,p,l,g,n,((A p (bp g)).inHeap (dW aM) Z).keep (dW aM) Z λk _ W=>hO.block k W X⟩
 refine⟨λv n i a=>∃j:Nat,i=j/\n=(qj (qF (l.take j)))/\v+j=qj l/\j<=qj l/\w=a,qj l,⟨0,I,I,I,bf _,I⟩,?_⟩;rintro v _ _ _ ⟨j,rfl,rfl,Q,b,rfl⟩;refine⟨λh=>?_,λh=>?_⟩
 .have h:=u h;obtain⟨ad,p,g,e,k,o⟩:=row (Ib _ _) (j:=j) J;have K:=o.len;have s:=Sh (l:=l) (j+1);rw[xW e,aP]at s;have r:au U ((qj (qF (l.take j)))+p.1.n)=(qj (qF (l.take (j+1)))):=by
   rw[eS J J,xW e,aP];omega
  refine⟨λn a=>n=(qj (qF _))/\w=a,?_,ad,g,p.1,k,λq=>?_,λ_=>⟨r,I⟩⟩
  .rintro _ _ ⟨rfl,rfl⟩;exact⟨v-1,J,j+1,Ye,I,J,J,I⟩
  have:=u q;omega
 have h:=aU h;have n:j=qj l:=J
 subst n;rw[bm (H _)];refine(adx w (λk=>G k/\k<w.heap.size) m).mono ?_;rintro _ q ⟨⟨s,rfl,S⟩,o⟩;refine⟨s,I,λv t i a=>∃j:Nat,i=j/\v+j=qj l/\j<=qj l/\Sg w.heap.size a (λk=>G k/\k<w.heap.size) t (qF (l.take j))/\az [] w a,qj l,⟨0,I,I,bf _,by rw[cu];exact S,o⟩,?_⟩;rintro v t _ x ⟨j,rfl,Q,b,T,g⟩;refine⟨λh=>?_,λh=>?_⟩
 .have h:=u h;obtain⟨ad,p,w,s,y,z⟩:=row g (j:=j) J;have L:=Sh (l:=l) (j+1);rw[xW s,aP]at L;obtain⟨M,N,C,D,O,F,G,_⟩:=tf (P:=aq) (t:=23) (ty:=23) (e:=227) (i:=Tryz.t227) (bytes:=104) (size:=9) (r:=uW aM) E E I I I I (dW aM) T (z.mono (dW aM) λk hk=>⟨hk,λe=>by have:=(T.blk e).1;dsimp only at this;omega⟩) g.size J Z;refine⟨ad,w,p.1,y,M,N,C,v-1,J,j+1,Ye,J,J,by rw[xW s];exact D,g.trans F λB K=>.inr (G B K).2.1⟩
 have h:=aU h;have n:j=qj l:=J
 subst n;rw[bm (H _)]at T;exact⟨⟨t,I,T⟩,g⟩
section
variable {w w':aw} {b m0 m1:Nat} {F G H:A} {s:Sl} {xs:L dC} {vn:L (C)} {f g:Ft}
def aeT{rows}{l}(R:aB Ph 1 w H rows (l.map λp=>p.1))(A:∀p,p∈l->aB (uW aM) 9 w G p.1 p.2)(m:qj (qF l)<=20000000)(g:∀k,G k->k≠b)(h:Lx w b m0 m1 F s xs vn f):
  aA aq 126 #[ae (aN ⟨b,0,Pw⟩),rows.v] w λq w'=>q=ak (ai #[])/\Lx w' b m0 m1 F s xs vn (jQ f (mw xs vn (qF l)))/\az [b] w w':=by
 refine ret (avb ?_);refine(frD R A m).mono ?_;rintro _ x ⟨⟨t,rfl,T⟩,n⟩;have z:=h.lo.lt;have D:=n.size;generalize qF l=al at*
 have i:=T.len;refine⟨t,I,λv o a=>∃j:Nat,o=j/\v+j=qj al/\j<=qj al/\Lx a b m0 m1 F s xs vn (jQ f (mw xs vn (al.take j)))/\az [b] x a,qj al,⟨0,I,I,bf _,by rw[cu];exact h.o0 n,Ib _ _⟩,?_⟩;rintro v _ C ⟨j,rfl,Q,B,e,r⟩;have E:=r.size;refine⟨λc=>?_,λc=>?_⟩
 .have c:=u c;have l:=Wg (dW aM) Z (T.slice (dW aM)) r λk hk _ m=>by
   simp at m;rcases hk with hk | hk
   .exact g k hk.1 m
   omega
  obtain⟨ad,y,ds,M,H,a3,a4,N,V⟩:=l.get (be j) J;rw[ba]at H;obtain⟨xc,rfl,L⟩:=V;obtain⟨sl,rfl⟩:=fD L;refine⟨ad,M,_,_,_,_,_,_,sl,_,_,N,λk2 Y rF sR P=>?_⟩;have K:=e.o0 P;have W:mw xs vn (al.take (j+1))=mw xs vn (al.take j)++(bad (YR (y.k≠1)||YR (y.n∈vn)) 23 y.a++Uo xs vn y.x):=by
   rw[bn,H];unfold mw;simp[Y5]
  refine⟨λa=>Lx a b m0 m1 F s xs vn (jQ f (mw xs vn (al.take j)++bad (YR (y.k≠1)||YR (y.n∈vn)) 23 y.a))/\az [b] Y a,?_,λhk w5 p=>?_,λhk=>?_⟩
  .rintro w3 ⟨h3,y⟩;have z3:=y.size;obtain⟨d,F⟩:=L;have f:∀k,((G k/\k<w.heap.size)∨(w.heap.size<=k/\t.a=aN ⟨k,0,Pw⟩))->k≠b:=λk hk=>hk.elim (λh=>g k h.1) λh=>J
   refine(Jm d ((mq aM d).keep ((mq aM d).keep F λk _ s=>P.block k s X) λk hk s=>y.block k s (by simp;exact f k hk)) f h3).mono ?_;rintro _ w4 ⟨rfl,h4,dQ⟩;refine⟨I,dQ.same S,v-1,J,j+1,Ye,J,J,?_,xp (xp (r.bU P) y) dQ⟩;rw[W,<-bq,gz];exact h4
  .have hk:=WH
   have k:=p.size;have b:=K.o0 p;refine⟨_,Om b.lo.blk 2 I,_,_,w5,b.lo.vr.at y.n,TT _ _,(oz b _ 23 y.a).mono ?_⟩;rintro _ w ⟨rfl,f,d⟩;refine⟨I,d.same S,?_,xp (CV p) d⟩;rw[gz,hk];exact f
  refine⟨?_,Ib _ _⟩;rw[gz,bG WH];exact K
 have c:=aU c;have b:j=qj al:=J
 subst b;rw[bm (aY _)]at e;exact⟨I,e,xp (CV n) r⟩
end
def jg.sl{B:Nat}{w:aw}{s:Sl}{x:L dC}(h:jg B w s x):aB oV 5 w (λk=>B<=k) s x:=(h.slice dj).mono dj λk hk=>hk.elim (λh=>h.elim) λh=>h.1
def tup(x:dC):Int×C×Int×Int×Int:=(x.k,x.nm,x.pa,x.dp,x.en)
section
variable {w w':aw} {b m0 m1:Nat} {F G:A} {s:Sl} {xs:L dC} {vn:L (C)} {f g:Ft}
def BF{n:Int}(h:vG xs n)(l:qj xs<=64):qO n:=⟨by have:=h.1;omega,by have:=h.2;omega⟩
def ahd(h:Lx w b m0 m1 F s xs vn f){n d:Int}(c:vG xs n)(o:vG xs d):aA aq 168 #[ae (aN ⟨b,0,Pw⟩),O U n,O U d] w λp w'=>p=ak (aj (Hd xs n d))/\az [] w w':=by
 refine ret (avm ?_);obtain⟨y,A,v,m,k3⟩:=apr w (BF c h.ln) (BF o h.ln);have g:=h.o0 m;refine⟨s,Om h.lo.blk 1 I,y,A,v,(acN g.sp h.fo k3).mono ?_⟩;rintro _ D ⟨⟨p,rfl,r⟩,P⟩;have i:=g.o0 P;have u:=h.fo.aen r c o;have a:=r.aqa X λB j=>by
  simp only[bh,bI,cO]at j;rcases j with rfl | rfl
  .exact c
  exact o
 obtain⟨C,e,z,_⟩:=a;obtain⟨k,_,x,l,_⟩:=z n X;obtain⟨ad,q,t,_⟩:=iP i.sp l;subst e;refine⟨_,I,s,λ_=>Om i.lo.blk 1 I,ad,λ_=>q,x.k,λ_=>t.dP 0 _ I,?_,m.bU P⟩;unfold Hd;rw[<-u,fJ l];congr 1;rw[bK];simp
def ait{k a:Nat}(h:Lx w b m0 m1 F s xs vn f){n o:Int}(g:vG xs n)(i:vG xs o)(c:aG w k 124 [ae (aN ⟨b,0,Pw⟩)])(d:aG w a 3 [O U n]):
  aA aq 167 #[O U o,ae (aN ⟨k,0,Pw⟩),ae (aN ⟨a,0,Pw⟩)] w λr w'=>r=ak (aj (!Hd xs n o))/\az [] w w':=by
 refine ret (avl ?_);refine⟨_,c.cells 0 [_] λj v hj=>Ol,_,d.cells 0 [_] λj v hj=>Ol,(ahd h g i).mono ?_⟩;rintro _ l ⟨rfl,e⟩;exact⟨_,I,I,e⟩
def aiu{k d:Nat}(p:Lx w b m0 m1 F s xs vn f){n:Int}(t:vG xs n){e:Sl}{a:L Int}(N:aB rInt 1 w G e a)(T:∀o,o∈a->vG xs o)(q:aG w k 124 [ae (aN ⟨b,0,Pw⟩)])(r:aG w d 3 [O U n]):
  aA aq 47 #[e.v,.func (.func 167) #[] #[ae (aN ⟨k,0,Pw⟩),ae (aN ⟨d,0,Pw⟩)]] w λx w'=>x=ak (aj (a.any λo=>!Hd xs n o))/\az [] w w':=by
 refine ret (Xa e ⟨.func (.func 167) #[] #[ae (aN ⟨k,0,Pw⟩),ae (aN ⟨d,0,Pw⟩)],I⟩ (λv w'=>v=aj (a.any λo=>!Hd xs n o)/\az [] w w') w ?_);refine(Xb e ⟨.func (.func 167) #[] #[ae (aN ⟨k,0,Pw⟩),ae (aN ⟨d,0,Pw⟩)],I⟩ (λv w'=>(∃i:Int,v=O U i/\YR (i>=0)=a.any λo=>!Hd xs n o)/\az [] w w') w ?_).mono (by
  rintro _ w' ⟨v,rfl,⟨i,rfl,b⟩,h⟩;exact⟨i,I,by rw[b],h⟩)
 have B:=N.len;have z:=N.cap;have D:=N.big;refine⟨λl i m=>∃j:Nat,i=(j:Int)/\l+j=qj a/\j<=qj a/\((a.take j).any λo=>!Hd xs n o)=aM/\az [] w m,qj a,⟨0,I,J,bf _,I,Ib _ _⟩,?_⟩;rintro l _ m ⟨j,rfl,Q,A,g,h⟩;refine⟨λc=>?_,λc=>?_⟩
 .have c:=u c;obtain⟨ad,y,F,s,b,G,H,w,C⟩:=(Wg bO Z N h X).get (be j) J;rw[ba]at b;obtain⟨rfl,K⟩:=C;have v:=bp b;refine⟨ad,s,y,w,167,[],[ae (aN ⟨k,0,Pw⟩),ae (aN ⟨d,0,Pw⟩)],I,gN E,(ait (p.o0 h) t (T y v) (h.blk q X) (h.blk r X)).mono ?_⟩;rintro _ M ⟨rfl,n⟩;refine⟨_,I,λf=>⟨⟨j,I,?_⟩,h.bU n⟩,λf=>⟨l-1,J,j+1,Ye,J,J,?_,h.bU n⟩⟩
  .rw[bG (by omega:(j:Int)>=0)];exact(gr.2 ⟨y,v,f⟩).symm
  rw[bn,b,qW,g];simpa using f
 have c:=aU c;rw[bm J]at g;exact⟨⟨-1,I,by rw[g];rfl⟩,h⟩
def Sj(F:Fo xs){n:C}(a:¬gj xs n<1):vG xs (Cx xs n):=by
 rcases jt xs n with⟨e,_⟩ | ⟨j,x,e,h,_⟩
 .omega
 have l:=gp h;unfold Cx;rw[e,fJ h,jZ h];split
 .obtain⟨p,_,b,c,_⟩:=F.par h J;exact⟨J,J⟩
 exact⟨J,J⟩
def cY.kp{B:Nat}{w a:aw}{s:Sl}{l:L Int}(h:cY B w s l)(O:az [] w a):cY B a s l:=Own.keep bO h λk _ b=>O.block k b X
def af0(c:aw){u:aw}{s:Sl}{m:L Int}(h:cY c.heap.size u s m)(p:az [] c u)(n:Int)(B:qO n)(H:qj m<=20000000):
  ∃y w,(av 31 1 #[.mk 0 (O U n)]).run aq u=.ok (Sl.v y) w/\az [] u w/\∃b a,(Builtin.append_ #[31,31] 31 #[Sl.v s,Sl.v y]).run aq w=.ok (Sl.v b) a/\cY c.heap.size a b (m++[n])/\az [] c a/\w.heap.size<=a.heap.size/\
   (∀k,k<u.heap.size->s.a≠aN ⟨k,0,Pw⟩->a.heap[k]? =w.heap[k]?)/\∀k,k<u.heap.size->s.a≠aN ⟨k,0,Pw⟩->b.a≠aN ⟨k,0,Pw⟩:=by
 obtain⟨y,w,C,k3,b,a,q,z,⟨D,f,o⟩,A⟩:=kx (P:=aq) (t:=31) (ty:=31) (e:=3) (i:=Tryz.t3) (bytes:=8) (size:=1) (r:=rInt) (G:=λ_=>False) (v:=O U n) (x:=n) E E I I I I Z Z Z bO h p.size I ⟨I,B⟩ (λ_ h=>h.elim) J;have K:=k3.size;refine⟨y,w,C,k3,b,a,q,YZ z,((p.bU k3).nP (f.p (F:=λk=>c.heap.size<=k) λg j=>.inl (o g j).2.1)).only λk hk=>hk,f.size,λk hk l=>f.block k J λj=>l (o k j).1,λk hk l e=>?_⟩;rcases A with d | ⟨g,d,h⟩
 .exact l (by rw[<-d,e])
 rw[d]at e;injection e with e;injection e with e;omega
def Fh(l:L Int)(n:C)(r:L (C)):Kv xs l (n::r)=if gj xs n<1 then aM else if(l.any λo=>!Hd xs (Cx xs n) o)=aF then aM else Kv xs (l++[Cx xs n]) r:=rfl
def bxs(h:Lx w b m0 m1 F s xs vn f){sT:Sl}{t:L (C)}(r:aB nU 1 w G sT t)(Q:qj t<=20000000):aA aq 128 #[ae (aN ⟨b,0,Pw⟩),sT.v] w λB w'=>B=ak (aj (Kv xs [] t))/\az [] w w':=by
 refine ret (avd ?_);intro z D O N p;have W:=p.size;have M:=h.lo.lt;have A:=r.len;refine⟨λv l m q a=>∃(j:Nat) (al:L Int),m=(j:Int)/\v+j=qj t/\j<=qj t/\q=aN ⟨b,0,Pw⟩/\cY w.heap.size a l al/\(∀i,i∈al->vG xs i)/\qj al<=j/\Kv xs [] t=Kv xs al (t.drop j)/\az [] w a/\D.heap.size<=a.heap.size/\l.a≠aN ⟨z,0,Pw⟩,qj t,
  ⟨0,[],I,I,bf _,I,Yb _ _ _ _ _ _,X,H _,I,p,H _,by intro e;cases e⟩,?_⟩
 rintro v l _ _ E ⟨j,al,rfl,V,P,rfl,hS,n,U,o,c,Y,g⟩;refine⟨λd=>?_,λd=>?_⟩
 .have d:=u d;obtain⟨ad,y,cs,g1,g2,g3,g4,g5,F⟩:=(Wg dG Z r c X).get (be j) J;rw[ba]at g2;have F:cs=[ab (T y)]:=F;subst F;have h1:=h.o0 c;have G:t.drop j=y::t.drop (j+1):=by
   obtain⟨bW,e⟩:=bc.1 g2;rw[<-e,Dc]
  rw[G,Fh]at o;refine⟨ad,g1,_,g5,_,I,_,Om h1.lo.blk 0 I,(Jk h1 y).mono ?_⟩;rintro _ w2 ⟨rfl,hu⟩;obtain rfl:E=w2:=hu.symm;refine⟨_,I,TT _ _,λf k3 w3 _ _ cZ=>⟨?_,c.bU cZ⟩,λf k4 w4 wx C5 s=>?_⟩
  .have f:=u f;rw[o,K f]
  have f:=aU f;rw[R f]at o;have Kl:=Sj h.fo f;have z4:=s.size;have o4:=c.bU s;have Qu:cY w.heap.size w4 l al:=hS.kp s;have T:l.a≠aN ⟨k4,0,Pw⟩:=λe=>XZ
  refine⟨λq m a=>q=aN ⟨b,0,Pw⟩/\m=Cx xs y/\az [] w a/\cY w.heap.size a l al/\w4.heap.size<=a.heap.size,?_,_,I,λw9 gA=>?_⟩
  .rintro _ _ w5 ⟨rfl,rfl,x,q,z5⟩ ww sO;have h5:=h.o0 x;refine(aiu h5 Kl (q.slice bO) n ww sO).mono ?_;rintro _ w6 ⟨rfl,b⟩;have z6:=b.size;have o6:=x.bU b;refine⟨_,I,_,b.blk ww X,_,b.blk sO X,λe=>⟨?_,o6⟩,λe=>?_⟩
   .rw[o,K e]
   rw[R (by rw[e];decide)]at o;have am:cY w.heap.size w6 l al:=q.kp b;obtain⟨y1,w7,p1,p3,s',w8,q1,q2,q3,z8,q4,q5⟩:=af0 w am o6 (Cx xs y) (BF Kl h.ln) J;have z7:=p3.size;refine⟨y1,w7,p1,p3.same S,s',w8,q1,λk hk=>?_,v-1,J,j+1,al++[Cx xs y],Ye,J,J,I,q2,λi ho=>?_,XO,o,q3,J,q5 z J g⟩
   .simp only[bh,bI,cO]at hk;rcases hk with rfl | rfl
    .exact q4 _ J g
    exact q4 _ J T
   rcases bQ.1 ho with ho | ho
   .exact n i ho
   simp only[aV]at ho;subst ho;exact Kl
  have z9:=gA.size;have q:=o4.bU gA;have w:=h.o0 q;obtain⟨e,_⟩ | ⟨jx,x,e,b,_⟩:=jt xs y
  .omega
  obtain⟨yI,b1,b2,b3,_⟩:=iP w.sp b;rw[e]at f⊢;refine⟨_,Om w.lo.blk 1 I,yI,b1,x.k,b2.dP 0 _ I,(DB w9 x.k).mono ?_⟩;rintro _ dq ⟨rfl,hu⟩;obtain rfl:w9=dq:=hu.symm;refine⟨_,I,TT _ _,λhh=>⟨_,I,λdB y=>?_⟩,λhh=>⟨I,?_,q,Qu.kp gA,J⟩⟩
  .have GD:=y.size;have TM:=q.bU y;have Vv:=h.o0 TM;obtain⟨Qw,c1,_,c3,_⟩:=iP Vv.sp b;refine⟨_,Om Vv.lo.blk 1 I,Qw,c1,x.pa,c3,λey eV=>⟨I,?_,TM.trans eV λk hk=>.inr TQ,?_,by have:=eV.size;omega⟩⟩
   .unfold Cx;rw[e,fJ b,jZ b,K hh]
   refine Own.keep bO ((Qu.kp gA).kp y) λk hk bW=>eV.block k bW ?_;simp only[aV];rintro rfl;exact hk.elim (λh=>h) λh=>T h.2
  unfold Cx;rw[e,fJ b,R Oy]
 have d:=aU d;have e:j=qj t:=J
 subst e;rw[dT (H _)]at o;exact⟨by rw[o];rfl,c⟩
end
end Go.Proofs.YtdfibecibkijiaaGreatDoor.Con
