import Derived.Test.YtbkjcdocjfknfaaGreatDoorQp10
set_option linter.unusedSectionVars false
namespace Go.Proofs.YtbkjcdocjfknfaaGreatDoor.Con
open Go.Value renaming int->O,string->ah,pointer->ai,agg->aj,tuple->ak,bool->ao
open Go.IntKind renaming i64->ae,wrap->av
open Go.Ending renaming returned->aq
open _root_.ByteArray renaming mk->ar
open _root_.Go.Proofs.Tryz renaming prog->au
open Go.Instr renaming buildSlice->aw
open Go renaming World->ay,Value->az,Calls->aB
open Go.Kt renaming Only->aA,SliceF->aD,Cells->aE,OnlyP->aF,Blk->aH
open Go Go.RowKit Go.Kt Go.Kt.V Go.Proofs.YtbkjcdocjfknfaaGreatDoor.Vc
set_option linter.unusedSimpArgs false
set_option linter.unusedVariables false
set_option maxHeartbeats 4000000
set_option maxRecDepth 100000
def inB(n:Int):Bool:=decide (-9223372036854775808<=n/\n<=9223372036854775807)
theorem P8{n:Int}(h:inB n=true):ry n:=by
 have h:=aP h;exact⟨h.1,h.2⟩
mutual
def nXb:Ex->Bool
 | .mk _ n _ _ l _=>inB n&&T7 l
def T7:List Ex->Bool
 | []=>true
 | x::l=>nXb x&&T7 l
end
theorem KQ{y:Ex}:∀{l:List Ex},T7 l=true->y∈l->nXb y=true
 | [],_,h=>by simp at h
 | x::l,h,hy=>by
  rw[T7,aQ]at h;rcases aR.1 hy with rfl | hy
  ·exact h.1
  ·exact KQ h.2 hy
theorem Yu:∀(d:Nat) {x:Ex},nXb x=true->qV d x
 | 0,_,_=>trivial
 | d+1,.mk k n s op l a,h=>by
  rw[nXb,aQ]at h;exact⟨P8 h.1,fun y hy=>Yu d (KQ h.2 hy)⟩
def nAb(a:Ac):Bool:=nXb a.x
def nMb(m:Mv):Bool:=nXb m.g&&m.acts.all nAb&&inB m.wt
def nNb(b:Nb):Bool:=b.en.all nAb&&b.lv.all nAb&&b.mv.all nMb
mutual
def nDb:Nd->Bool
 | .mk b l=>nNb b&&T8 l
def T8:List Nd->Bool
 | []=>true
 | x::l=>nDb x&&T8 l
end
theorem P9{l:List Ac}(h:l.all nAb=true):∀a,a∈l->V4 a:=fun a ha d=>Yu d ((dS.1 h) a ha)
theorem ako{m:Mv}(h:nMb m=true):mvN m:=by
 unfold nMb at h;simp only[aQ]at h;exact⟨fun d=>Yu d h.1.1,P9 h.1.2,P8 h.2⟩
theorem akp{b:Nb}(h:nNb b=true):nbN b:=by
 unfold nNb at h;simp only[aQ]at h;exact⟨P9 h.1.1,P9 h.1.2,fun m hm=>ako ((dS.1 h.2) m hm)⟩
mutual
theorem adU:∀(x:Nd),nDb x=true->Kj x
 | .mk b l,h=>by
  rw[nDb,aQ]at h;rw[Kj];exact⟨akp h.1,We l h.2⟩
theorem We:∀(l:List Nd),T8 l=true->zH l
 | [],_=>by rw[zH];trivial
 | x::l,h=>by
  rw[T8,aQ]at h;rw[zH];exact⟨adU x h.1,We l h.2⟩
end
def nCb(c:Ch):Bool:=(c.vars.all fun v=>inB v.v)&&nDb c.root
theorem akr{c:Ch}(h:nCb c=true):U8 c:=by
 unfold nCb at h;simp only[aQ]at h;exact⟨fun v hv=>P8 ((dS.1 h.1) v hv),adU _ h.2⟩
def aks(c:Ch):Bool:=decide (rj c.vars+pc c.root<=8388608)
theorem ChR.off{d:Nat}{w:ay}{F:aL}{c:Ch}{vs:Sl}{cs:aK}(h:ChR true d w F c vs cs):ChR false d w F c vs cs:=⟨h.vars.off fun _ _ _ h=>h,Kg h.root⟩
def Yv(x:cM):aK:=[O ae x.k,ah (T x.nm),O ae x.pa,O ae x.dp,O ae x.en]
def nq:Rp cM:=fun _ _ x cs=>cs=Yv x
theorem db:nq.Ok:=⟨fun h _=>h,fun h=>h,fun h _=>h,fun h=>by
 unfold nq Yv at h;subst h;intro v hv;simp only[aR,bf,bU]at hv;rcases hv with rfl | rfl | rfl | rfl | rfl<;>rfl⟩
abbrev iH(B:Nat)(w:ay)(s:Sl)(xs:List cM):Prop:=Own nq 5 125 B w (fun _=>False) s xs
theorem iH.of{B:Nat}{w:ay}{F:aL}{s:Sl}{xs:List cM}(h:Own nq 5 125 B w F s xs):iH B w s xs:=by
 rcases h with⟨rfl,rfl⟩ | ⟨g,css,tail,h1,h2,h4,h5,h6,h7,h9,h8⟩
 ·exact .inl ⟨rfl,rfl⟩
 ·exact .inr ⟨g,css,tail,h1,h2,h4,h5,h6,h7,h9,gp.Uy (fun x c _ hc=>hc) h8⟩
theorem iH.xr{B:Nat}{w w':ay}{G:aL}{s:Sl}{xs:List cM}(h:iH B w s xs)(hO:aF G w w')(hG:∀k,B<=k->s.a=some ⟨k,0,none⟩->¬G k):iH B w' s xs:=
 h.keep db fun k hk bX=>hO.block k bX (hk.elim (fun h=>h.elim) fun h=>hG k h.1 h.2)
theorem Wf(t:Bool):∀(D:Nat) {w:ay} {F:aL} {x:Nd} {cs:aK} {b:Nat} {s:Sl} {xs:List cM} {pa dp:Int},oY t D w F x cs->(∀k,F k->k<b)->aH w b 161 [s.v]->iH (b+1) w s xs->
  xs.length+iO x<=1000000->0<=dp->dp+iO x<=1000000->
  aB au 87 #[ai (some ⟨b,0,none⟩),aj cs.toArray,O ae pa,O ae dp] w fun e w'=>e=aq (ak #[])/\∃s',aH w' b 161 [s'.v]/\iH (b+1) w' s' (xs++AZ xs.length pa dp x)/\tv b s w s' w'
 | 0,_,_,_,_,_,_,_,_,_,h,_,_,_,_,_,_=>h.elim
 | D+1,w,F,.mk bb ks,cs,b,s,xs,pa,dp,⟨en,lv,mv,kids,pe,_,gU⟩,hF,hB,hS,hn,h0,hd=>by
  have hk:=gU.1;clear gU;dsimp only[Nd.kids,Nd.b]at hk pe;subst pe;rw[iO]at hn hd;have NS:=hk.len;have hnn:=rV ks;refine ret (ajd _ _ _ _ _ _ _ _ _ _ _ _ _ _ ?_);intro k0 w0 gU fi cK;have z0:=cK.size;have Ck:=hB.lt;have cell:∀{u:ay} {q:Sl},aH u b 161 [q.v]->aE u ((⟨b,0,none⟩:Addr).add 0) [q.v]:=fun h=>h.cells 0 [_] fun j v hj=>by rw[bM];exact hj
  have tU:=cK.blk hB (by simp);refine⟨s,cell tU,fun w1 cF=>⟨fun k=>k=b,rfl,s,cell (cF.blk tU (by simp)),?_⟩⟩;have o1:=cK.cz cF;have z1:=cF.size;have wP:iH (b+1) w1 s xs:=hS.xr o1.p0 fun _ _ _ h=>h;have vJ:=o1.blk hB (by simp);obtain⟨y,w2,k1,k3,s3,w3,g1,g2,⟨gs,g3,g4⟩,g5⟩:=jj (P:=au) (t:=159) (ty:=159) (e:=125) (i:=Tryz.t125) (bytes:=48) (size:=5) (r:=nq) (G:=fun _=>False) (v:=aj #[O ae bb.k,ah (T bb.nm),O ae pa,O ae dp,O ae 0]) (x:=⟨bb.k,bb.nm,pa,dp,0⟩) (by kernel_rfl) (by kernel_rfl) rfl rfl rfl rfl (by decide) (by decide) (by decide) db wP (by omega) rfl rfl (fun _ h=>h.elim) (by omega);have z2:=k3.size;have z3:=g3.size;have gb:∀g,g∈gs->g≠b/\g<w1.heap.size/\s.a=some ⟨g,0,none⟩:=fun g hg=>⟨by have:=(g4 g hg).2.1;omega,(g4 g hg).2.2,(g4 g hg).1⟩
  have RU:s.a≠some ⟨k0,0,none⟩:=fun e=>by have:=(hS.blk e).2;dsimp only at this;omega
  have xy:aH w3 b 161 [s.v]:=g3.blk (k3.blk vJ (by simp)) fun h=>(gb b h).1 rfl;refine⟨y,w2,k1,k3.same (by simp;omega),bS.only k3,s3,w3,g1,g3.same fun x hx=>?_,fun k hk bX=>?_,b,0,_,_,rfl,xy,aY 1,by omega,fun w4 dP vG=>?_⟩
  ·simp only[aO]at hx;subst hx;exact⟨by omega,fun h=>RU (gb _ h).2.2⟩
  ·subst hk;exact g3.block _ bX fun h=>(gb _ h).1 rfl
  have z4:=dP.size;have Ej:iH (b+1) w3 s3 (xs++[⟨bb.k,bb.nm,pa,dp,0⟩]):=iH.of g2;have LQ:iH (b+1) w4 s3 (xs++[⟨bb.k,bb.nm,pa,dp,0⟩]):=Ej.xr (G:=fun k=>k=b) (dP.p (by simp)) fun k h _=>by omega
  have m4:tv b s w s3 w4:=by
   refine⟨((o1.cz k3).pd (g3.p (F:=fun k=>k=b∨s.a=some ⟨k,0,none⟩) fun g hg=>.inl (.inr (gb g hg).2.2))).trans (dP.p (F:=fun k=>k=b∨s.a=some ⟨k,0,none⟩) (by simp)) fun k hk=>.inl hk,fun k hk=>?_⟩;rcases g5 with e | ⟨g,e,h⟩
   ·exact .inl (by rw[<-e];exact hk)
   ·rw[e]at hk;injection hk with hk;injection hk with hk;exact .inr (by omega)
  have n4:∀k,s3.a=some ⟨k,0,none⟩->k≠k0:=fun k hk e=>by
   subst e;rcases g5 with e | ⟨g,e,h⟩
   ·exact RU (by rw[<-e];exact hk)
   ·rw[e]at hk;injection hk with hk;injection hk with hk;omega
  have iv:∀{u:ay} {q:Sl},tv b s w q u->aD (oY t D) 9 u F kids ks:=fun hm=>SliceF.mw (cN t D) (by decide) hk hm.1 fun k tW _=>by
   have:=hF k tW;exact fun h=>h.elim (by omega) fun h=>by have:=(hS.blk h).1;dsimp only at this;omega
  refine⟨fun kv i w'=>∃(j:Nat) (q:Sl),i=(j:Int)/\kv+j=ks.length/\j<=ks.length/\aH w' b 161 [q.v]/\iH (b+1) w' q (xs++⟨bb.k,bb.nm,pa,dp,0⟩::pU (xs.length+1) xs.length (dp+1) (ks.take j))/\tv b s w q w'/\w4.heap.size<=w'.heap.size/\∀k,q.a=some ⟨k,0,none⟩->k≠k0,ks.length,⟨0,s3,rfl,by omega,bA _,vG,by rw[dr,pU];exact LQ,m4,aY _,n4⟩,?_⟩;rintro kv _ w5 ⟨j,q,rfl,tX,ja,wL,LR,m5,z5,n5⟩;have NZ:s.n=xs.length:=hS.len;constructor
  ·intro hc;have hj:j<ks.length:=by have:=aP hc;omega
   obtain⟨y,hy⟩:∃y,ks[j]? =some y:=⟨_,aV hj⟩
   obtain⟨ad,y',ds,a1,a2,a3,a4,a5,a6⟩:=(iv m5).get (bE j) (by omega);rw[aX,hy]at a2;injection a2 with a2;subst a2;have Vg:=a6;obtain⟨D',rfl⟩:∃D',D=D'+1:=by
    cases D with
    | zero=>exact a6.elim
    | succ D'=>exact⟨D',rfl⟩
   obtain⟨xT,xU,tq,li,rfl,_⟩:=Vg;have ma:=pV hy;have hx1:(xs++⟨bb.k,bb.nm,pa,dp,0⟩::pU (xs.length+1) xs.length (dp+1) (ks.take j)).length=xs.length+1+eV (ks.take j):=by
    rw[aU,bp,sX];omega
   refine⟨ad,a1,_,_,_,_,xT,xU,tq,li,_,a5,fun k6 w6 hk6 Vh ez=>?_⟩;have z6:=ez.size;have m6:tv b s w q w6:=m5.trans (tv.only ez);rw[gD (by omega) (by omega),NZ];refine(Wf t (D'+1) (pa:=((xs.length:Nat):Int)) ((cN t (D'+1)).keep a6 fun k _ bX=>ez.block k bX (by simp)) (s:=q) (xs:=xs++⟨bb.k,bb.nm,pa,dp,0⟩::pU (xs.length+1) xs.length (dp+1) (ks.take j)) (b:=b) (dp:=dp+1) hF (ez.blk wL (by simp)) (LR.xr ez.p0 fun _ _ _ h=>h) (by rw[hx1];omega) (by omega) (by omega)).mono ?_;rintro _ w7 ⟨rfl,q7,hB7,hS7,m7⟩;have z7:=m7.1.size;refine⟨rfl,m7.1.same fun x hx=>?_,kv-1,by omega,j+1,q7,by rw[gD (by omega) (by omega)];rfl,by omega,by omega,hB7,?_,m6.trans m7,by omega,fun k hk e=>?_⟩
   ·simp only[aR,bf,bU]at hx;rcases hx with rfl | rfl
    ·exact⟨by omega,fun h=>h.elim (by omega) fun h=>n5 _ h rfl⟩
    ·refine⟨Vh,fun h=>h.elim (by omega) fun h=>?_⟩;have:=(LR.blk h).2;dsimp only at this;omega
   ·have e:ks.take (j+1)=ks.take j++[y]:=by rw[bI,hy];rfl
    rw[e,Kk,pU,pU,bR];rw[hx1,bQ,ck]at hS7;exact hS7
   ·subst e;rcases m7.2 _ hk with h | h
    ·exact n5 _ h rfl
    ·omega
  ·intro hc w8 gn;have qo:j=ks.length:=by have:=aW hc;omega
   subst qo;rw[bC (aY _)]at LR;have uz:=gn.blk wL (by simp);have hS8:iH (b+1) w8 q _:=LR.xr gn.p0 fun _ _ _ h=>h;have z8:=gn.size;have Zk:(xs++⟨bb.k,bb.nm,pa,dp,0⟩::pU (xs.length+1) xs.length (dp+1) ks)[xs.length]? =some ⟨bb.k,bb.nm,pa,dp,0⟩:=by
    rw[cd (aY _),Ja];rfl
   obtain⟨g,cells,D7,p1,p2,p3,p4,p5,p6,p7⟩:=Own.akD db hS8 Zk;have amQ:D7=Yv ⟨bb.k,bb.nm,pa,dp,0⟩:=p6;subst amQ;have hql:q.n=xs.length+1+eV ks:=by rw[LR.len,aU,bp,sX];omega
   obtain⟨p8,p9⟩:=p7 4 (O ae (q.n:Int)) ⟨bb.k,bb.nm,pa,dp,(q.n:Int)⟩ (fun _=>False) (by decide) rfl fun _ h=>h.elim;rw[<-NZ]at p2;have hgb:=(LR.blk p1).1;dsimp only at hgb;refine⟨q,cell uz,q,cell uz,_,p2,g,xs.length*5+4,cells,_,by rw[fV,NZ],p3,by rw[<-NZ]at p8⊢;exact p8,fun e=>n5 g p1 e.symm,fun w9 gv hB9=>⟨rfl,q,gv.blk uz (by simp;omega),?_,?_⟩⟩
   ·have:=p9 w9 gv hB9;rw[AF _ _ (aY _),Ja,List.set_cons_zero]at this;rw[AZ];have e:(q.n:Int)=((xs.length+1+eV ks:Nat):Int):=by rw[hql]
    rw[e]at this;exact this
   ·refine(m5.trans (tv.only gn)).trans ⟨gv.p fun k hk=>?_,fun k hk=>.inl hk⟩;simp only[aO]at hk;subst hk;exact .inl (.inr p1)
theorem T9{w:ay}{F:aL}{D:Nat}{c:Ch}{vs:Sl}{cs:aK}(hx:ChR false (D+1) w F c vs cs)(hn:U8 c)(hs:rj c.vars+pc c.root<=8388608)(hE:Er w)(hT:Tb w):
  aB au 86 #[aj (vs.v::cs).toArray] w fun e w'=>e=aq (O ae (gy c).2)/\aA [] w w':=by
 obtain⟨en,lv,mv,kids,rfl,_⟩:=hx.root;refine ret (ajb _ _ _ _ _ _ _ _ _ _ _ _ ?_);intro k0 w0 gU fi cK;have hx0:ChR false (D+1) w0 F c vs (om c.root.b.k c.root.b.nm c.root.b.ini c.root.b.dft en lv mv kids c.root.b.a):=⟨hx.vars.keep gq (by decide) fun k _ bX=>cK.block k bX (by simp),(cN false _).keep hx.root fun k _ bX=>cK.block k bX (by simp)⟩
 refine(T6 hx0 hn hs (hE.only cK) (hT.only cK)).mono ?_;rintro _ w1 ⟨rfl,cF⟩;exact⟨_,_,rfl,cF.same (by simp;omega),rfl,cK.cz cF⟩
theorem wk{c:Ch}(h:(gy c).2=0):iO c.root<=64:=by
 unfold gy at h;by_cases h1:FR c=true
 ·unfold FR at h1;simp only[aQ]at h1;exact(aP h1.2).2.2.1
 ·rw[if_neg h1]at h;exact absurd h (by decide)
theorem Qa{w:ay}{F:aL}{D:Nat}{c:Ch}{vs:Sl}{cs:aK}(hx:ChR false (D+1) w F c vs cs)(hn:U8 c)(hs:rj c.vars+pc c.root<=8388608)(hE:Er w)(hT:Tb w):
  aB au 42 #[aj (vs.v::cs).toArray] w fun e w'=>(∃s,e=aq (ak #[Sl.v s,O ae (gy c).2])/\((gy c).2=0->iH w.heap.size w' s (cX c))/\((gy c).2≠0->s=Sl.nil))/\aA [] w w':=by
 obtain⟨en,lv,mv,kids,pe,_⟩:=hx.root;subst pe;refine(ajc vs c.root.b.k (T c.root.b.nm) (T c.root.b.ini) (T c.root.b.dft) en lv mv kids c.root.b.a (fun v w'=>(∃s,v=ak #[Sl.v s,O ae (gy c).2]/\((gy c).2=0->iH w.heap.size w' s (cX c))/\((gy c).2≠0->s=Sl.nil))/\aA [] w w') w ?_).mono ?_
 ·intro k0 w0 gU fi cK;have z0:=cK.size;have keep:∀{u:ay},aA [] w u->ChR false (D+1) u F c vs (om c.root.b.k c.root.b.nm c.root.b.ini c.root.b.dft en lv mv kids c.root.b.a):=fun hO=>⟨hx.vars.keep gq (by decide) fun k _ bX=>hO.block k bX (by simp),(cN false _).keep hx.root fun k _ bX=>hO.block k bX (by simp)⟩
  refine(T9 (keep cK) hn hs (hE.only cK) (hT.only cK)).mono ?_;rintro _ w1 ⟨rfl,cF⟩;have z1:=cF.size;have o1:=cK.cz cF;refine⟨_,rfl,cF.same (by simp;omega),fun hc=>?_,fun hc k1 w2 ke jH dh re=>?_⟩
  ·have hc:(gy c).2≠0:=by simpa using hc
   exact⟨⟨Sl.nil,rfl,fun h=>absurd h hc,fun _=>rfl⟩,o1⟩
  have hc:(gy c).2=0:=by simpa using hc
  have hnd:=wk hc;have o2:=o1.cz dh;have z2:=dh.size;have SH:oY false (D+1) w2 (fun k=>k<w.heap.size) c.root (om c.root.b.k c.root.b.nm c.root.b.ini c.root.b.dft en lv mv kids c.root.b.a):=
   (cN false _).keep ((cN false _).mono ((cN false _).inHeap hx.root) fun k hk=>hk.2) fun k _ bX=>o2.block k bX (by simp)
  refine(Wf false (D+1) (s:=Sl.nil) (xs:=[]) (pa:= -1) (dp:=0) SH (fun k hk=>by omega) re (Own.nil _ _ _ _ _ _) (by rw[cO];omega) (by decide) (by omega)).mono ?_;rintro _ w3 ⟨rfl,s',xy,Ej,m3⟩;have z3:=m3.1.size;refine⟨rfl,m3.1.same fun x hx=>?_,s',xy,⟨s',by rw[hc],fun _=>?_,fun h=>absurd hc h⟩,?_⟩
  ·simp only[aO]at hx;subst hx;exact⟨by omega,fun h=>h.elim (by omega) fun h=>by cases h⟩
  ·rw[cr]at Ej;exact Own.low Ej (by omega)
  ·exact(o2.pd m3.1).only fun k hk=>hk.elim (by omega) fun h=>by cases h
 ·rintro _ w' ⟨v,rfl,⟨s,rfl,h1,h2⟩,h3⟩;exact⟨⟨s,rfl,h1,h2⟩,h3⟩
section
variable {w:ay} {F:aL} {l:Sl} {xs:List cM}
theorem jL(h:aD nq 5 w F l xs){i:Nat}{x:cM}(hx:xs[i]? =some x):∃ad,dL l (i:Int) 5 ad/\aE w ad (Yv x)/\aE w (ad.add 2) [O ae x.pa]/\aE w (ad.add 3) [O ae x.dp]/\aE w (ad.add 4) [O ae x.en]:=by
 have bX:=(aZ.1 hx).1;have hl:=h.len;obtain⟨ad,y,cs,g1,g2,g3,g4,g5,g6⟩:=h.get (bE i) (by omega);rw[aX,hx]at g2;injection g2 with g2;subst g2;have g6:cs=Yv x:=g6;subst g6;have one:∀(n:Nat) (v:az),(Yv x)[n]? =some v->aE w (ad.add n) [v]:=fun n v hv j u hu=>by
  cases j with
  | zero=>
   rw[cE,ba]at hu;subst hu;have:=g5 n v hv;rw[pz,fx];exact this
  | succ j=>simp at hu
 exact⟨ad,g1,g5,one 2 _ rfl,one 3 _ rfl,one 4 _ rfl⟩
def A1(xs:List cM)(n:Int):Bool:=decide (n>=0)&&decide (n<(xs.length:Int))
theorem nW{n:Int}:A1 xs n=true↔pj xs n:=by
 unfold A1 pj;rw[aQ,cm,cm]
theorem KR(h:aD nq 5 w F l xs)(n:Int):aB au 100 #[l.v,O ae n] w fun e w'=>e=aq (ao (A1 xs n))/\w'=w:=by
 refine ret (ajg _ _ _ _ ?_);rw[h.len];exact⟨rfl,rfl⟩
noncomputable def ME(xs:List cM)(b a:Int):Bool:=open Classical in decide (∃i j:Nat,b=i/\a=j/\jq xs i j)
theorem pY{b a:Int}:ME xs b a=true↔∃i j:Nat,b=i/\a=j/\jq xs i j:=by
 unfold ME;exact @cm _ (Classical.propDecidable _)
theorem F8(h:aD nq 5 w F l xs)(hF:Fo xs)(b a:Int):aB au 92 #[l.v,O ae b,O ae a] w fun e w'=>e=aq (ao (ME xs b a))/\w'=w:=by
 refine ret (ajh _ _ _ _ _ ?_);refine⟨fun r w'=>r=ME xs b a/\w'=w,fun r w' ⟨h1,h2⟩=>⟨by rw[h1],h2⟩,(KR h a).mono ?_⟩;rintro _ _ ⟨rfl,rfl⟩;refine⟨_,rfl,fun ha=>(KR h b).mono ?_,fun ha=>⟨?_,rfl⟩⟩
 ·rintro _ _ ⟨rfl,rfl⟩;have ha:=nW.1 ha;by_cases hb:(A1 xs b&&decide (b<=a))=true
  ·rw[aQ]at hb;have tB:=nW.1 hb.1;have xx:=aP hb.2;obtain⟨i,rfl⟩:∃i:Nat,b=i:=⟨b.toNat,by have:=tB.1;omega⟩
   obtain⟨j,rfl⟩:∃j:Nat,a=j:=⟨a.toNat,by have:=ha.1;omega⟩
   obtain⟨x,hx⟩:=fO (xs:=xs) (i:=i) (by have:=tB.2;omega);obtain⟨ad,g1,g2,_,_,g5⟩:=jL h hx;refine⟨_,rfl,ad,fun _=>g1,x.en,fun _=>g5,?_,rfl⟩;rw[hb.1,hb.2,cY,cY,bT,pY,cm];constructor
   ·exact fun h=>⟨i,j,rfl,rfl,x,hx,by omega,h⟩
   ·rintro⟨i',j',e1,e2,y,hy,h1,h2⟩;have e1:i=i':=by omega
    subst e1;rw[hx,ba]at hy;subst hy;omega
  ·rw[lR]at hb;refine⟨_,rfl,⟨0,0,none⟩,fun h=>(by rw[hb]at h;cases h),0,fun h=>(by rw[hb]at h;cases h),?_,rfl⟩;rw[hb,eu,eq_comm,<-lR,pY];rintro⟨i,j,rfl,rfl,y,hy,h1,h2⟩;have:=eZ hy;rw[show A1 xs (i:Int)=true from nW.2 ⟨by omega,by omega⟩,show decide ((i:Int)<=(j:Int))=true from bK (by omega)]at hb;cases hb
 ·rw[eq_comm,<-lR,pY];rintro⟨i,j,rfl,rfl,hc⟩;have:=hF.wF hc;rw[show A1 xs (j:Int)=true from nW.2 ⟨by omega,by omega⟩]at ha;cases ha
noncomputable def H7(xs:List cM)(a b:Int):Bool:=open Classical in decide (∃i j:Nat,b=i/\a=j/\i<j/\jq xs i j)
theorem vj{a b:Int}:H7 xs a b=true↔∃i j:Nat,b=i/\a=j/\i<j/\jq xs i j:=by
 unfold H7;exact @cm _ (Classical.propDecidable _)
theorem wl(h:aD nq 5 w F l xs)(hF:Fo xs)(a b:Int):aB au 51 #[l.v,O ae a,O ae b] w fun e w'=>e=aq (ao (H7 xs a b))/\w'=w:=by
 refine ret (aji _ _ _ _ _ ?_);refine⟨fun r w'=>r=H7 xs a b/\w'=w,fun r w' ⟨h1,h2⟩=>⟨by rw[h1],h2⟩,fun hc=>(F8 h hF b a).mono ?_,fun hc=>⟨?_,rfl⟩⟩
 ·rintro _ _ ⟨rfl,rfl⟩;have hc:a≠b:=by simpa using hc
  refine⟨_,rfl,?_,rfl⟩;rw[bT,pY,vj];refine⟨fun⟨i,j,e1,e2,qg⟩=>⟨i,j,e1,e2,?_,qg⟩,fun⟨i,j,e1,e2,_,qg⟩=>⟨i,j,e1,e2,qg⟩⟩;obtain⟨s,_,ma,_⟩:=qg;omega
 ·have hc:a=b:=by simpa using hc
  subst hc;rw[eq_comm,<-lR,vj];rintro⟨i,j,e1,e2,hl,_⟩;omega
abbrev dz(B:Nat)(w:ay)(s:Sl)(l:List Int):Prop:=Own rInt 1 3 B w (fun _=>False) s l
theorem dz.of{B:Nat}{w:ay}{F:aL}{s:Sl}{l:List Int}(h:Own rInt 1 3 B w F s l):dz B w s l:=by
 rcases h with⟨rfl,rfl⟩ | ⟨g,css,tail,h1,h2,h4,h5,h6,h7,h9,h8⟩
 ·exact .inl ⟨rfl,rfl⟩
 ·exact .inr ⟨g,css,tail,h1,h2,h4,h5,h6,h7,h9,gp.Uy (fun x c _ hc=>hc) h8⟩
theorem akt(w0:ay){u:ay}{s:Sl}{is:List Int}(h:dz w0.heap.size u s is)(hO:aA [] w0 u)(n:Int)(hn:ry n)(hm:is.length<=20000000):
  ∃y w1,(aw 32 1 #[.mk 0 (O ae n)]).run au u=.ok (Sl.v y) w1/\aA [] u w1/\∃s' w2,(Builtin.append_ #[32,32] 32 #[Sl.v s,Sl.v y]).run au w1=.ok (Sl.v s') w2/\dz w0.heap.size w2 s' (is++[n])/\aA [] w0 w2/\aF (fun k=>w0.heap.size<=k) u w2:=by
 obtain⟨y,w1,k1,k3,s',w2,g1,g2,⟨gs,g3,g4⟩,g5⟩:=jj (P:=au) (t:=32) (ty:=32) (e:=3) (i:=Tryz.t3) (bytes:=8) (size:=1) (r:=rInt) (G:=fun _=>False) (v:=O ae n) (x:=n) (by kernel_rfl) (by kernel_rfl) rfl rfl rfl rfl (by decide) (by decide) (by decide) bN h hO.size rfl ⟨rfl,hn⟩ (fun _ h=>h.elim) (by omega);refine⟨y,w1,k1,k3,s',w2,g1,dz.of g2,?_,k3.pd (g3.p fun g hg=>.inl (g4 g hg).2.1)⟩;exact((hO.cz k3).pd (g3.p (F:=fun k=>w0.heap.size<=k) fun g hg=>.inl (g4 g hg).2.1)).only fun k hk=>hk
theorem H8(h:aD nq 5 w F l xs)(hF:Fo xs){n:Nat}{x:cM}(hx:xs[n]? =some x)(hm:xs.length<=1000):aB au 65 #[l.v,O ae (n:Int)] w fun e w'=>(∃(s:Sl),e=aq (Sl.v s)/\dz w.heap.size w' s (eP xs n xs.length))/\aA [] w w':=by
 refine(ajU l n (fun v w'=>(∃(s:Sl),v=Sl.v s/\dz w.heap.size w' s (eP xs n xs.length))/\aA [] w w') w ?_).mono ?_
 ·refine(KR h n).mono ?_;rintro _ u ⟨rfl,hu⟩;obtain rfl:w=u:=hu.symm;have W0:=eZ hx;have hb:A1 xs (n:Int)=true:=nW.2 ⟨by omega,by omega⟩;rw[hb];refine⟨_,rfl,fun hc=>(by cases hc),fun _=>?_⟩;have hup:=hF.up n x hx;have Eg:∃e:Nat,x.en=e:=⟨x.en.toNat,by omega⟩
  obtain⟨e,he⟩:=Eg;refine⟨fun kv q i w'=>∃k:Nat,i=(k:Int)/\n<k/\k<=e/\kv+k=xs.length/\dz w.heap.size w' q (eP xs n k)/\(∀(j:Nat) u,n<j->j<k->xs[j]? =some u->u.en<=(k:Int))/\aA [] w w',xs.length-(n+1),⟨n+1,by rw[gD (by omega) (by omega)];rfl,by omega,by omega,by omega,by rw[hF.akF hx];exact Own.nil _ _ _ _ _ _,fun j u h1 h2=>by omega,Only.refl _ _⟩,?_⟩;rintro kv q _ w1 ⟨k,rfl,NY,hke,tX,hS,hbn,hO⟩;obtain⟨ad,a1,_,_,_,a5⟩:=jL (SliceF.only db (by decide) h hO (by simp)) hx;refine⟨ad,a1,x.en,a5,fun hc=>?_,fun hc=>?_⟩
  ·have hc:=aP hc;obtain⟨y,hy⟩:=fO (xs:=xs) (i:=k) (by omega);have fu:(eP xs n k).length<=k:=by
    unfold eP;rw[bq];exact bh (cQ _ _) (by rw[fE];exact aY _)
   obtain⟨y1,w2,k1,k3,s',w3,g1,g2,g3,g4⟩:=akt w hS hO k ⟨by omega,by omega⟩ (by omega);obtain⟨M4,b1,_,_,_,b5⟩:=jL (SliceF.only db (by decide) h g3 (by simp)) hy;have hyu:=hF.up k y hy;have hye:=hF.Y8 k hx hy NY hc;obtain⟨m,NW⟩:∃m:Nat,y.en=m:=⟨y.en.toNat,by omega⟩
   refine⟨y1,w2,k1,s',w3,g1,M4,b1,y.en,b5,kv-(m-k),by omega,m,NW,by omega,by omega,by omega,?_,hF.Q7 hy NW hbn,g3⟩;rw[hF.Q8 hx hy NY hc NW hbn];exact g2
  ·have hc:=aW hc;have:k=e:=by omega
   subst this;exact⟨⟨q,rfl,by rw[hF.UB hx he];exact hS⟩,hO⟩
 ·rintro _ w' ⟨v,rfl,⟨s,rfl,h1⟩,h4⟩;exact⟨⟨s,rfl,h1⟩,h4⟩
end
section
variable {w:ay} {F G:aL} {l sN:Sl} {xs:List cM} {ns:List Int}
theorem Ua{k0:Nat}(h:aD nq 5 w F l xs)(hB:aH w k0 52 [l.v])(n:Int):aB au 178 #[O ae n,ai (some ⟨k0,0,none⟩)] w fun e w'=>e=aq (ao (!A1 xs n))/\w'=w:=by
 refine ret (ajf _ _ _ _ ?_);refine⟨l,hB.cells 0 [_] fun j v hj=>(by rw[bM];exact hj),(KR h n).mono ?_⟩;rintro _ _ ⟨rfl,rfl⟩;exact⟨_,rfl,rfl,rfl⟩
theorem Qb{k0:Nat}(h:aD nq 5 w F l xs)(hB:aH w k0 52 [l.v])(hN:aD rInt 1 w G sN ns):aB au 91 #[sN.v,.func (.func 178) #[] #[ai (some ⟨k0,0,none⟩)]] w fun e w'=>(∃i:Int,e=aq (O ae i)/\(i>=0↔∃n,n∈ns/\¬pj xs n))/\w'=w:=by
 refine(O4 sN ⟨.func (.func 178) #[] #[ai (some ⟨k0,0,none⟩)],rfl⟩ (fun v w'=>(∃i:Int,v=O ae i/\(i>=0↔∃n,n∈ns/\¬pj xs n))/\w'=w) w ?_).mono ?_
 ·have hl:=hN.len;have NX:=hN.cap;have Av:=hN.big;refine⟨fun kv i w'=>∃j:Nat,i=(j:Int)/\kv+j=ns.length/\j<=ns.length/\(∀n,n∈ns.take j->pj xs n)/\w'=w,ns.length,⟨0,rfl,by omega,bA _,fun n hn=>by simp at hn,rfl⟩,?_⟩;rintro kv _ u ⟨j,rfl,tX,hj,hh,hu⟩;obtain rfl:w=u:=hu.symm;refine⟨fun hc=>?_,fun hc=>⟨⟨-1,rfl,fun h=>absurd h (by decide),fun⟨n,hn,hb⟩=>absurd (hh n ?_) hb⟩,rfl⟩⟩
  ·have hc:=aP hc;obtain⟨ad,y,cs,g1,g2,g3,g4,g5,g6⟩:=hN.get (bE j) (by omega);rw[aX]at g2;obtain⟨rfl,hy⟩:=g6;refine⟨ad,g1,y,g5,178,[],[ai (some ⟨k0,0,none⟩)],rfl,fF (by kernel_rfl),(Ua h hB y).mono ?_⟩;rintro _ u ⟨rfl,hu⟩;obtain rfl:w=u:=hu.symm;refine⟨_,rfl,fun hb=>⟨⟨j,rfl,fun _=>⟨y,bD g2,fun hh'=>?_⟩,fun _=>by omega⟩,rfl⟩,fun hb=>⟨kv-1,by omega,j+1,by rw[gD (by omega) (by omega)];rfl,by omega,by omega,fun n hn=>?_,rfl⟩⟩
   ·rw[nW.2 hh']at hb;cases hb
   ·rw[bI,g2,ch]at hn;rcases hn with hn | hn
    ·exact hh n hn
    ·simp only[Option.toList,aO]at hn;subst hn;exact nW.1 (by simpa using hb)
  ·have hc:=aW hc;rwa[bC (by omega)]
 ·rintro _ w' ⟨v,rfl,⟨i,rfl,h1⟩,h2⟩;exact⟨⟨i,rfl,h1⟩,h2⟩
def adV(xs:List cM)(ns:List Int):Prop:=ns=[]∨∃n,n∈ns/\¬pj xs n
theorem Qc(h:aD nq 5 w F l xs)(hF:Fo xs)(hN:aD rInt 1 w G sN ns):aB au 130 #[l.v,sN.v] w fun e w'=>(∃r:Int,e=aq (O ae r)/\Mt xs ns r)/\aA [] w w':=by
 refine(aje l sN (fun v w'=>(∃r:Int,v=O ae r/\Mt xs ns r)/\aA [] w w') w ?_).mono ?_
 ·intro k0 w0 gU fi cK;have hl:=hN.len;have NX:=hN.cap;have Av:=hN.big;have IG:=h.len;have kL:∀{u:ay},aA [] w u->aD nq 5 u F l xs:=fun hO=>SliceF.only db (by decide) h hO (by simp);have kN:∀{u:ay},aA [] w u->aD rInt 1 u G sN ns:=fun hO=>SliceF.only bN (by decide) hN hO (by simp);refine⟨fun b q u=>(b=true↔adV xs ns)/\l=q/\aA [] w u,?_,fun hc=>?_,fun hc hB=>?_⟩
  ·rintro b _ u ⟨hb,rfl,hO⟩;refine⟨fun hbt=>⟨⟨-1,rfl,.inl ⟨hb.1 hbt,rfl⟩⟩,hO⟩,fun hbf=>?_⟩;have hg:¬adV xs ns:=fun hh=>by rw[hb.2 hh]at hbf;cases hbf
   have gz:ns≠[]:=fun e=>hg (.inl e);have hh:∀n,n∈ns->pj xs n:=fun n hn=>gw fun hx=>hg (.inr ⟨n,hn,hx⟩);have hlp:0<ns.length:=io.2 gz;obtain⟨ad,n0,cs,g1,g2,g3,g4,g5,g6⟩:=(kN hO).get (i:=0) (by omega) (by omega);obtain⟨rfl,_⟩:=g6;have g2:ns[0]? =some n0:=g2;have hn0:=hh n0 (bD g2);obtain⟨m0,rfl⟩:∃m:Nat,n0=m:=⟨n0.toNat,by have:=hn0.1;omega⟩
   have ht1:ns.take 1=[(m0:Int)]:=by
    cases ns with
    | nil=>exact absurd rfl gz
    | cons a ns=>
     rw[cE,ba]at g2;subst g2;rfl
   refine⟨ad,g1,_,g5,⟨by omega,NX⟩,fun kv i1 i2 q u=>∃m j:Nat,i1=(m:Int)/\i2=(j:Int)/\kv+j=ns.length-1/\j<=ns.length-1/\l=q/\aA [] w u/\Top xs (ns.take (j+1)) m,ns.length-1,⟨m0,0,rfl,rfl,by omega,by omega,rfl,hO,?_⟩,?_⟩
   ·rw[ht1];refine⟨m0,rfl,fun n hn=>?_,fun j hj=>?_⟩
    ·simp only[aO]at hn;subst hn;exact⟨m0,rfl,hF.jW (by have:=hn0.2;omega)⟩
    ·obtain⟨k,e,s,_,ma,_⟩:=hj m0 (by simp);omega
   rintro kv _ _ _ u1 ⟨m,j,rfl,rfl,tX,hj,rfl,cF,RV⟩;have Rh:=SliceF.cut (kN cF) (lo:=1) (hi:=sN.n) (m:=sN.c) (by omega) NX (aY _) (aY _);have qf:(sN.cut 1 sN.n sN.c 1).n=ns.length-1:=by
    rw[Rh.len,dd,cG];omega
   refine⟨fun hc=>?_,fun hc=>?_⟩
   ·have hc:=aP hc;obtain⟨ad1,n3,cs,p1,p2,p3,p4,p5,p6⟩:=Rh.get (bE j) (by omega);obtain⟨rfl,_⟩:=p6;rw[aX,List.getElem?_take_of_lt (by omega),jZ]at p2;have p2:ns[j+1]? =some n3:=by rw[<-p2];congr 1;omega
    have hn3:=hh n3 (bD p2);obtain⟨t,rfl⟩:∃m:Nat,n3=m:=⟨n3.toNat,by have:=hn3.1;omega⟩
    have og:ns.take (j+1+1)=ns.take (j+1)++[(t:Int)]:=by rw[bI,p2];rfl
    obtain⟨m',em,t1,t2⟩:=RV;have em:m=m':=by omega
    subst em;refine⟨ad1,p1,_,p5,fun kv' i4 q u=>∃m:Nat,i4=(m:Int)/\m=kv'/\l=q/\aA [] w u/\(∀n,n∈ns.take (j+1)->∃k:Nat,n=k/\jq xs m k)/\∀j':Nat,(∀n,n∈ns.take (j+1+1)->∃k:Nat,n=k/\jq xs j' k)->j'<=m,m,⟨m,rfl,rfl,rfl,cF,t1,fun j' NE=>t2 j' fun n hn=>NE n ?_⟩,?_⟩
    ·rw[og];exact Bd _ hn
    rintro kv' _ _ u2 ⟨m2,rfl,rfl,rfl,dh,q1,q2⟩;refine(F8 (kL dh) hF m2 t).mono ?_;rintro _ u3 ⟨rfl,hu⟩;obtain rfl:u2=u3:=hu.symm;refine⟨_,rfl,ci.refl _ _,fun Vi=>?_,fun Vi=>?_⟩
    ·have Vi:¬∃i j:Nat,(m2:Int)=i/\(t:Int)=j/\jq xs i j:=fun e=>by rw[pY.2 e]at Vi;cases Vi
     have yw:t<xs.length:=by have:=hn3.2;omega
     have NK:0<m2:=Nat.pos_of_ne_zero fun e=>Vi ⟨0,t,by omega,rfl,hF.sF yw⟩;have RW:(m0:Int)∈ns.take (j+1):=by
      rw[List.mem_iff_getElem?];exact⟨0,by rw[List.getElem?_take_of_lt (by omega)];exact g2⟩
     have amR:m2<xs.length:=by
      obtain⟨k,_,s,e,_⟩:=q1 _ RW;exact eZ e
     obtain⟨y,hy⟩:=fO amR;obtain⟨p,s,r1,r2,r3,r4,r5,r6⟩:=hF.par hy NK;obtain⟨wQ,b1,_,b3,_,_⟩:=jL (kL dh) hy;have cpm:jq xs p m2:=⟨s,r3,by omega,r5⟩
     refine⟨wQ,b1,y.pa,b3,p,r1,p,r2,rfl,rfl,dh,fun n hn=>?_,fun j' NE=>?_⟩
     ·obtain⟨k,e,hk⟩:=q1 n hn;exact⟨k,e,hF.kq cpm hk⟩
     ·have ma:=q2 j' NE;have Vj:j'≠m2:=fun e=>by
       subst e;obtain⟨k,e,hk⟩:=NE t (by rw[og];simp);exact Vi ⟨j',k,rfl,e,hk⟩
      obtain⟨k,e,hk⟩:=NE m0 (by rw[og];exact Bd _ RW);obtain⟨k',e',iv⟩:=q1 m0 RW;have:k=k':=by omega
      subst this;obtain⟨s',v1,v2,v3⟩:=hF.lN hk iv ma;exact r6 j' s' v1 (by omega) v3
    ·have Vi:ME xs m2 t=true:=by simpa using Vi
     obtain⟨i',t',e1,e2,hct⟩:=pY.1 Vi;have e1:m2=i':=by omega
     have e2:t=t':=by omega
     subst e1 e2;refine⟨kv-1,by omega,m2,j+1,rfl,by rw[gD (by omega) (by omega)];rfl,by omega,by omega,rfl,dh,m2,rfl,fun n hn=>?_,q2⟩;rw[og,ch]at hn;rcases hn with hn | hn
     ·exact q1 n hn
     ·simp only[aO]at hn;subst hn;exact⟨t,rfl,hct⟩
   ·have hc:=aW hc;rw[bC (by omega)]at RV;exact⟨⟨m,rfl,.inr ⟨⟨gz,hh⟩,RV⟩⟩,cF⟩
  ·have hc:(sN.n:Int)=0:=by simpa using hc
   exact⟨⟨fun _=>.inl (bO (by omega)),fun _=>rfl⟩,rfl,cK⟩
  ·have hc:¬(sN.n:Int)=0:=by simpa using hc
   refine(O3 sN ⟨.func (.func 178) #[] #[ai (some ⟨k0,0,none⟩)],rfl⟩ (fun v w'=>(∃b:Bool,v=ao b/\(b=true↔∃n,n∈ns/\¬pj xs n))/\w'=w0) w0 ?_).mono ?_
   ·refine(Qb (kL cK) hB (kN cK)).mono ?_;rintro _ u ⟨⟨i,rfl,hi⟩,hu⟩;obtain rfl:w0=u:=hu.symm;exact⟨i,rfl,⟨_,rfl,by rw[cm];exact hi⟩,rfl⟩
   ·rintro _ u ⟨v,rfl,⟨b,rfl,hb⟩,hu⟩;obtain rfl:w0=u:=hu.symm;refine⟨b,rfl,l,hB,⟨fun h=>.inr (hb.1 h),fun h=>?_⟩,rfl,cK⟩;rcases h with h | h
    ·subst h;exact absurd (by rw[hl];rfl) hc
    ·exact hb.2 h
 ·rintro _ w' ⟨v,rfl,⟨r,rfl,h1⟩,h2⟩;exact⟨⟨r,rfl,h1⟩,h2⟩
end
end Go.Proofs.YtbkjcdocjfknfaaGreatDoor.Con
namespace Go.Kt
open Go renaming World->ay,Value->az
open Go Go.RowKit Go.MapKept
set_option linter.unusedSimpArgs false
set_option linter.unusedVariables false
structure A9 {κ:Type} (d:TypeDesc) (kv:κ->az) (g:κ->Prop):Prop where
 is:∀k,IsKey d (kv k)
 inj:∀{k l},kv k=kv l->k=l
structure MapV {κ:Type} (kv:κ->az) (g:κ->Prop) (w:ay) (r:Nat) (m:κ->Option az) (n:Nat):Prop where
 mem:∃es clock,w.heap[r]? =some (.map es clock)/\Stamped es clock/\es.size<=n/\(∀x,x∈es.toList->∃k,x.key=kv k/\g k)/\
  ∀k v,m k=some v↔∃x,x∈es.toList/\x.key=kv k/\x.val=v
section
variable {κ:Type} {d:TypeDesc} {kv:κ->az} {g:κ->Prop} {P:Program} {w w':ay} {r n:Nat} {m:κ->Option az} {mty kt et:TypeId}
theorem MapV.keep(h:MapV kv g w r m n)(hk:w'.heap[r]? =w.heap[r]?):MapV kv g w' r m n:=by
 obtain⟨es,c,h1,h2⟩:=h.mem;exact⟨es,c,hk.trans h1,h2⟩
theorem MapV.le(h:MapV kv g w r m n){n'}(hn:n<=n'):MapV kv g w r m n':=by
 obtain⟨es,c,h1,h2,h3,h4⟩:=h.mem;exact⟨es,c,h1,h2,bh h3 hn,h4⟩
theorem MapV.lt(h:MapV kv g w r m n):r<w.heap.size:=by
 obtain⟨es,c,h1,h2⟩:=h.mem;exact(fX.1 h1).1
theorem MapV.only(h:MapV kv g w r m n){bs}(hO:Only bs w w')(hn:r∉bs):MapV kv g w' r m n:=h.keep (hO.block r h.lt hn)
theorem MapV.ext(h:MapV kv g w r m n){m'}(he:∀k,m' k=m k):MapV kv g w r m' n:=by
 obtain⟨es,c,h1,h2,h3,h4,h5⟩:=h.mem;exact⟨es,c,h1,h2,h3,h4,fun k v=>by rw[he,h5]⟩
theorem MapV.ok(h:MapV kv g w r m n)(K:A9 d kv g){k}(hk:m k≠none):g k:=by
 obtain⟨es,c,h1,h2,h3,h4,h5⟩:=h.mem;cases hm:m k with
 | none=>exact absurd hm hk
 | some v=>
  obtain⟨x,hx,e1,_⟩:=(h5 k v).1 hm;obtain⟨l,e2,hl⟩:=h4 x hx;rwa[K.inj (e1.symm.trans e2)]
theorem MapV.make w:(Instr.makeMap mty none).run P w=.ok (.map (some w.heap.size)) (w.alloc (.map #[] 0))/\MapV kv g (w.alloc (.map #[] 0)) w.heap.size (fun _=>none) 0/\Only [] w (w.alloc (.map #[] 0)):=
 ⟨rfl,⟨#[],0,heap_alloc_new w _,stamped_empty 0,by simp,by simp,by simp⟩,Only.alloc _ _⟩
theorem KS(K:A9 d kv g){es:Array MapEntry}(h:∀x,x∈es.toList->∃k,x.key=kv k/\g k):∀x∈es.toList,IsKey d x.key:=fun x hx=>by
 obtain⟨k,e,_⟩:=h x hx;rw[e];exact K.is k
theorem MapV.lookup(K:A9 d kv g)(hm:P.underlying mty=some (.map kt et))(hd:P.underlying kt=some d){z}(hz:∀w,(zeroValue et).run P w=.ok z w)(h:MapV kv g w r m n) k:
  (Instr.lookup mty (.map (some r)) (kv k) false).run P w=.ok ((m k).getD z) w:=by
 obtain⟨es,c,h1,h0,hn,h2,h4⟩:=h.mem;rcases findNow_spec (K.is k) es.toList 0 (KS K h2)with⟨g1,g2⟩ | ⟨j,e,g1,g2,g3⟩
 ·have hn:m k=none:=by
   cases I4:m k with
   | none=>rfl
   | some v=>
    obtain⟨x,hx,hk,_⟩:=(h4 k v).1 I4;exact absurd hk (g2 x hx)
  simp[Instr.lookup,run_underlying hm,MapKept.run_getObj_map h1,MapKept.run_checkKey hd (K.is k),MapKept.run_findKey hd g1,Result.andThen,hz,hn]
 ·have he:=bD g2;simp[Instr.lookup,run_underlying hm,MapKept.run_getObj_map h1,MapKept.run_checkKey hd (K.is k),MapKept.run_findKey hd g1,Result.andThen,(h4 k e.val).2 ⟨e,he,g3,rfl⟩]
variable [DecidableEq κ]
theorem MapV.update(K:A9 d kv g)(hm:P.underlying mty=some (.map kt et))(hd:P.underlying kt=some d)(h:MapV kv g w r m n){k}(hg:g k) v:
  ∃w',(Instr.mapUpdate mty (.map (some r)) (kv k) v).run P w=.ok () w'/\MapV kv g w' r (fun x=>if x=k then some v else m x) (if m k=none then n+1 else n)/\Only [r] w w':=by
 obtain⟨es,c,h1,h0,hn,h2,h4⟩:=h.mem;have fin:∀{es':Array MapEntry} {c' n':Nat},Stamped es' c'->es'.size<=n'->(∀x,x∈es'.toList->∃k,x.key=kv k/\g k)->
   (∀k' v',(∃x,x∈es'.toList/\x.key=kv k'/\x.val=v')↔(k'=k/\v'=v)∨(k'≠k/\m k'=some v'))->∀w',w'.heap[r]? =some (.map es' c')->MapV kv g w' r (fun x=>if x=k then some v else m x) n':=by
  intro es' c' n' e0 en e1 e3 w' hw;refine⟨es',c',hw,e0,en,e1,fun k' v'=>?_⟩;rw[e3];by_cases LO:k'=k
  ·simp[LO,if_true,ba,true_and,ne_eq,not_true_eq_false,false_and,bU];exact⟨fun h=>h.symm,fun h=>h.symm⟩
  ·simp[if_neg LO,LO,false_and,false_or,ne_eq,not_false_eq_true,true_and,jI]
 rcases findNow_spec (K.is k) es.toList 0 (KS K h2)with⟨g1,g2⟩ | ⟨j,e,g1,g2,g3⟩
 ·have I4:m k=none:=by
   cases hq:m k with
   | none=>rfl
   | some v=>
    obtain⟨x,hx,hk,_⟩:=(h4 k v).1 hq;exact absurd hk (g2 x hx)
  rw[if_pos I4];refine⟨{w with heap:=w.heap.setIfInBounds r (.map (es.push {key:=kv k,val:=v,born:=c}) _)},?_,fin (stamped_push h0 g2) (by simp;omega) ?_ ?_ _ (heap_set h1).1,uH h1⟩
  ·simp[Instr.mapUpdate,run_underlying hm,MapKept.run_getObj_map h1,MapKept.run_checkKey hd (K.is k),MapKept.run_findKey hd g1,MapKept.run_setObj_map _ h1,Result.andThen]
  ·intro x hx;simp only[Array.toList_push,ch,aO]at hx;rcases hx with hx | rfl
   ·exact h2 x hx
   ·exact⟨k,rfl,hg⟩
  ·intro k' v';simp only[Array.toList_push,ch,aO];constructor
   ·rintro⟨x,hx | rfl,e1,e2⟩
    ·exact .inr ⟨fun h=>g2 x hx (by rw[e1,h]),(h4 k' v').2 ⟨x,hx,e1,e2⟩⟩
    ·exact .inl ⟨(K.inj e1).symm,e2.symm⟩
   ·rintro(⟨rfl,rfl⟩ | ⟨hn,h⟩)
    ·exact⟨_,.inr rfl,rfl,rfl⟩
    ·obtain⟨x,hx,e1,e2⟩:=(h4 k' v').1 h;exact⟨x,.inl hx,e1,e2⟩
 ·have hj:=by simpa using g2
  have ja:=(aZ.1 g2).1;have I4:m k≠none:=by rw[(h4 k e.val).2 ⟨e,bD g2,g3,rfl⟩];simp
  rw[if_neg I4];refine⟨{w with heap:=w.heap.setIfInBounds r _},?_,
   fin (stamped_modify h0 j (fun e=>{e with key:=kv k,val:=v}) (fun _ _=>rfl) (fun e' _ he=>by rw[hj]at he;injection he with he;rw[<-he];exact g3.symm)) (by simpa using hn) ?_ ?_ _ (heap_set h1).1,uH h1⟩
  ·simp[Instr.mapUpdate,run_underlying hm,MapKept.run_getObj_map h1,MapKept.run_checkKey hd (K.is k),MapKept.run_findKey hd g1,hj,g3,MapKept.run_keyThatStays (K.is k),MapKept.run_setObj_map _ h1,Result.andThen]
  all_goals rw[Array.toList_modify,Hz g2]
  ·intro x hx;rcases List.mem_or_eq_of_mem_set hx with hx | rfl
   ·exact h2 x hx
   ·exact⟨k,rfl,hg⟩
  ·intro k' v';constructor
   ·rintro⟨x,hx,e1,e2⟩;obtain⟨i,hi⟩:=eT hx;rw[I9]at hi;split at hi
    ·injection hi with hi;rw[<-hi]at e1 e2;exact .inl ⟨(K.inj e1).symm,e2.symm⟩
    ·rename_i rk;by_cases LO:k'=k
     ·have Hh:=(aZ.1 hi).1;have gz:=eU.1 ((stamped_iff _ _).1 h0).2.2;have ex:=(aZ.1 hi).2;have ee:=(aZ.1 g2).2;exfalso;rcases G7 rk with bX | W3
      ·exact gz j i ja Hh bX (by rw[ee,ex,g3,e1,LO])
      ·exact gz i j Hh ja W3 (by rw[ee,ex,g3,e1,LO])
     ·exact .inr ⟨LO,(h4 k' v').2 ⟨x,bD hi,e1,e2⟩⟩
   ·rintro(⟨rfl,rfl⟩ | ⟨hn,h⟩)
    ·exact⟨_,List.mem_set ja _,rfl,rfl⟩
    ·obtain⟨x,hx,e1,e2⟩:=(h4 k' v').1 h;obtain⟨i,hi⟩:=eT hx;refine⟨x,bD (i:=i) ?_,e1,e2⟩;rw[Bc]
     ·exact hi
     ·rintro rfl;rw[g2]at hi;injection hi with hi;rw[<-hi,g3]at e1;exact hn (K.inj e1).symm
theorem MapV.delete(K:A9 d kv g)(hm:P.underlying mty=some (.map kt et))(hd:P.underlying kt=some d)(h:MapV kv g w r m n) k ty:
  ∃w',(Builtin.delete_ #[mty,kt] ty #[.map (some r),kv k]).run P w=.ok (.tuple #[]) w'/\MapV kv g w' r (fun x=>if x=k then none else m x) (if m k=none then n else n-1)/\Only [r] w w':=by
 obtain⟨es,c,h1,h0,hn,h2,h4⟩:=h.mem;rcases findNow_spec (K.is k) es.toList 0 (KS K h2)with⟨g1,g2⟩ | ⟨j,e,g1,g2,g3⟩
 ·have I4:m k=none:=by
   cases hq:m k with
   | none=>rfl
   | some v=>
    obtain⟨x,hx,hk,_⟩:=(h4 k v).1 hq;exact absurd hk (g2 x hx)
  rw[if_pos I4];refine⟨{w with heap:=w.heap.setIfInBounds r (.map es c)},?_,⟨_,_,(heap_set h1).1,h0,hn,h2,?_⟩,uH h1⟩
  ·simp[Builtin.delete_,run_underlying hm,MapKept.run_getObj_map h1,MapKept.run_checkKey hd (K.is k),MapKept.run_findKey hd g1,MapKept.run_setObj_map _ h1,Result.andThen]
  ·intro k' v';by_cases hk:k'=k
   ·subst hk;simp only[if_true];constructor
    ·intro h;cases h
    ·rintro⟨x,hx,e1,_⟩;exact absurd e1 (g2 x hx)
   ·rw[if_neg hk,h4]
 ·have ja:=(aZ.1 g2).1;have qo:=(aZ.1 g2).2;have hes:(es.eraseIdxIfInBounds j).toList=es.toList.eraseIdx j:=by
   unfold Array.eraseIdxIfInBounds;rw[dif_pos (by simpa using ja),Array.toList_eraseIdx]
  have I4:m k≠none:=by rw[(h4 k e.val).2 ⟨e,bD g2,g3,rfl⟩];simp
  rw[if_neg I4];have hsz:(es.eraseIdxIfInBounds j).size<=n-1:=by
   rw[<-fe,hes,List.length_eraseIdx_of_lt ja];have:es.toList.length=es.size:=fe;omega
  refine⟨{w with heap:=w.heap.setIfInBounds r _},?_,⟨_,_,(heap_set h1).1,stamped_erase h0 j,hsz,?_,?_⟩,uH h1⟩
  ·simp[Builtin.delete_,run_underlying hm,MapKept.run_getObj_map h1,MapKept.run_checkKey hd (K.is k),MapKept.run_findKey hd g1,MapKept.run_setObj_map _ h1,Result.andThen]
  ·rw[hes];exact fun x hx=>h2 x ((List.eraseIdx_sublist _ _).subset hx)
  ·intro k' v';rw[hes];have gz:=eU.1 ((stamped_iff _ _).1 h0).2.2;by_cases hk:k'=k
   ·subst hk;simp only[if_true];constructor
    ·intro h;cases h
    ·rintro⟨x,hx,e1,_⟩;rw[N1]at hx;obtain⟨i,hi,rk,M7⟩:=hx;rcases G7 rk with bX | W3
     ·exact absurd (by rw[qo,M7,e1,g3]) (gz i j hi ja bX)
     ·exact absurd (by rw[qo,M7,e1,g3]) (gz j i ja hi W3)
   ·rw[if_neg hk,h4];constructor
    ·rintro⟨x,hx,e1,e2⟩;refine⟨x,?_,e1,e2⟩;rw[N1];obtain⟨i,hi,M7⟩:=rv hx;refine⟨i,hi,?_,M7⟩;rintro rfl;rw[qo]at M7;rw[<-M7,g3]at e1;exact hk (K.inj e1).symm
    ·rintro⟨x,hx,e1,e2⟩;exact⟨x,(List.eraseIdx_sublist _ _).subset hx,e1,e2⟩
end
abbrev kS(s:List UInt8):az:=.string ⟨s.toArray⟩
abbrev gS(s:List UInt8):Prop:=s.length<=maxLen
theorem adW:A9 .string kS gS:=⟨fun _=>trivial,fun h=>by simpa using h⟩
abbrev kN(k:Int):az:=.int .i64 k
section
variable {κ:Type} {d:TypeDesc} {kv:κ->az} {g:κ->Prop} {P:Program} {w w':ay} {r n:Nat} {m:κ->Option az} {mty kt et:TypeId}
theorem MapV.Lv(K:A9 d kv g)(hm:P.underlying mty=some (.map kt et))(hd:P.underlying kt=some d){z:az}(hz:∀w,(zeroValue et).run P w=.ok z w)(h:MapV kv g w r m n)(k:κ):
  (Instr.lookup mty (.map (some r)) (kv k) true).run P w=.ok (.tuple #[(m k).getD z,.bool (m k).isSome]) w:=by
 obtain⟨es,c,h1,h0,hn,h2,h4⟩:=h.mem;rcases findNow_spec (K.is k) es.toList 0 (KS K h2)with⟨g1,g2⟩ | ⟨j,e,g1,g2,g3⟩
 ·have hn:m k=none:=by
   cases I4:m k with
   | none=>rfl
   | some v=>
    obtain⟨x,hx,hk,_⟩:=(h4 k v).1 I4;exact absurd hk (g2 x hx)
  simp[Instr.lookup,run_underlying hm,MapKept.run_getObj_map h1,MapKept.run_checkKey hd (K.is k),MapKept.run_findKey hd g1,Result.andThen,hz,hn]
 ·have he:=bD g2;have I4:m k=some e.val:=(h4 k e.val).2 ⟨e,he,g3,rfl⟩;simp[Instr.lookup,run_underlying hm,MapKept.run_getObj_map h1,MapKept.run_checkKey hd (K.is k),MapKept.run_findKey hd g1,Result.andThen,I4]
end
end Go.Kt
namespace Go.Proofs.YtbkjcdocjfknfaaGreatDoor.Con
open Go.Value renaming int->O,string->ah,pointer->ai,agg->aj,tuple->ak,bool->ao
open Go.IntKind renaming i64->ae,wrap->av
open Go.Ending renaming returned->aq
open _root_.ByteArray renaming mk->ar
open _root_.Go.Proofs.Tryz renaming prog->au
open Go.Instr renaming buildSlice->aw
open Go renaming World->ay,Value->az,Calls->aB
open Go.Kt renaming Only->aA,SliceF->aD,Cells->aE,OnlyP->aF,Blk->aH
open Go Go.RowKit Go.Kt Go.Kt.V Go.Proofs.YtbkjcdocjfknfaaGreatDoor.Vc
set_option linter.unusedSimpArgs false
set_option linter.unusedVariables false
set_option maxHeartbeats 800000
set_option maxRecDepth 100000
def mI(l:List (aJ)):aJ->Option az:=fun k=>if rQ k l<l.length then some (.int ae (rQ k l:Nat))else none
theorem KT(l:List (aJ))(x k:aJ):mI (l++[x]) k=if x∈l then mI l k else if k=x then some (.int ae (l.length:Nat))else mI l k:=by
 unfold mI;rw[aU,bP];by_cases hk:k∈l
 ·have h1:=nl.2 hk;rw[Kr [x] hk,if_pos (by omega),if_pos h1];by_cases hx:x∈l
  ·rw[if_pos hx]
  ·rw[if_neg hx,if_neg fun e=>hx (by rw[<-e];exact hk)]
 ·have h1:¬rQ k l<l.length:=fun h=>hk (nl.1 h);rw[if_neg h1];by_cases e:k=x
  ·subst e;rw[if_neg hk,if_pos rfl,DC [] hk,if_pos (by omega)]
  ·have:¬rQ k (l++[x])<(l++[x]).length:=fun h=>by
    have:=nl.1 h;rw[ch,aO]at this;exact this.elim hk e
   rw[aU,bP]at this;rw[if_neg this,if_neg e];split<;>rfl
theorem Ub(l:List (aJ))(k:aJ):(mI l k).isSome=decide (k∈l):=by
 unfold mI;by_cases hk:k∈l
 ·rw[if_pos (nl.2 hk),bK hk];rfl
 ·rw[if_neg fun h=>hk (nl.1 h),bG hk];rfl
abbrev Sn(w:ay)(r:Nat)(l:List (aJ)):Prop:=MapV kS gS w r (mI l) l.length
theorem Sn.at{w:ay}{r:Nat}{l:List (aJ)}(h:Sn w r l)(k:aJ):(Instr.lookup 153 (.map (some r)) (ah (T k)) true).run au w=.ok (ak #[O ae (if rQ k l<l.length then(rQ k l:Nat)else 0:Int),ao (decide (k∈l))]) w:=by
 have:=h.Lv (P:=au) (mty:=153) (kt:=9) (et:=3) (z:=O ae 0) adW (by kernel_rfl) (by kernel_rfl) (fun w=>Tryz.zeroValue3 w) k;rw[Ub]at this;rw[this];unfold mI;split<;>rfl
theorem Sn.add{w:ay}{r:Nat}{l:List (aJ)}(h:Sn w r l){x:aJ}(hx:gS x)(hn:x∉l):
  ∃w',(Instr.mapUpdate 153 (.map (some r)) (ah (T x)) (O ae (l.length:Nat))).run au w=.ok () w'/\Sn w' r (l++[x])/\aA [r] w w':=by
 obtain⟨w',h1,h2,h3⟩:=h.update (P:=au) (mty:=153) (kt:=9) (et:=3) adW (by kernel_rfl) (by kernel_rfl) hx (O ae (l.length:Nat));refine⟨w',h1,(h2.ext fun k=>?_).le ?_,h3⟩
 ·rw[KT,if_neg hn]
 ·rw[aU,bP];split<;>omega
theorem Sn.has{w:ay}{r:Nat}{l:List (aJ)}(h:Sn w r l){x:aJ}(hx:x∈l):Sn w r (l++[x]):=by
 refine(h.ext fun k=>?_).le (by rw[aU];omega);rw[KT,if_pos hx]
structure Lo (w:ay) (b m0 m1:Nat) (s:Sl) (nn vn:List (aJ)) (f:Ft):Prop where
 blk:aH w b 155 [.map (some m0),s.v,.map (some m1),O ae f.1,O ae f.2]
 nm:Sn w m0 nn
 vr:Sn w m1 vn
 n0:m0<m1
 n1:m1<b
section
variable {w w':ay} {b m0 m1:Nat} {s:Sl} {nn vn:List (aJ)} {f:Ft}
theorem Lo.only(h:Lo w b m0 m1 s nn vn f){bs:List Nat}(hO:aA bs w w')(h0:b∉bs)(h1:m0∉bs)(h2:m1∉bs):Lo w' b m0 m1 s nn vn f:=⟨hO.blk h.blk h0,h.nm.only hO h1,h.vr.only hO h2,h.n0,h.n1⟩
theorem Lo.o0(h:Lo w b m0 m1 s nn vn f)(hO:aA [] w w'):Lo w' b m0 m1 s nn vn f:=h.only hO (by simp) (by simp) (by simp)
theorem Lo.nu(h:Lo w b m0 m1 s nn vn f)(hO:aA [b] w w'){s':Sl}{f':Ft}(hB:aH w' b 155 [.map (some m0),s'.v,.map (some m1),O ae f'.1,O ae f'.2]):Lo w' b m0 m1 s' nn vn f':=
 ⟨hB,h.nm.only hO (by have:=h.n0;have:=h.n1;simp;omega),h.vr.only hO (by have:=h.n1;simp;omega),h.n0,h.n1⟩
theorem Lo.lt(h:Lo w b m0 m1 s nn vn f):b<w.heap.size:=h.blk.lt
theorem yp(w:ay)(k:Int):aB au 162 #[O ae k] w fun e w'=>e=aq (ao (fL k))/\w'=w:=by
 refine ret (ajp _ _ _ ?_);refine⟨?_,rfl⟩;unfold fL;rw[show((k==3)||(k==4))=decide (k=3∨k=4) by rw[bT];simp]
theorem DG(h:Lo w b m0 m1 s nn vn f)(ok:Bool)(e a:Int):aB au 123 #[ai (some ⟨b,0,none⟩),ao ok,O ae e,O ae a] w fun r w'=>r=aq (ak #[])/\Lo w' b m0 m1 s nn vn (oZ f (bad ok e a))/\aA [b] w w':=by
 refine ret (ajm _ _ _ _ _ _ ?_);rw[TV];refine⟨f.1,fun _=>Blk.dZ h.blk 3 rfl,fun hc=>⟨b,3,_,_,rfl,h.blk,by simp,fun w0 hO hB=>⟨rfl,?_,hO⟩⟩,fun hc=>⟨rfl,?_,Only.refl _ _⟩⟩
 ·rw[if_pos hc];exact h.nu hO hB
 ·rw[if_neg (by rw[hc];decide)];exact h
theorem Qd(h:Lo w b m0 m1 s nn vn f){x:aJ}(hx:gS x)(a:Int):aB au 84 #[ai (some ⟨b,0,none⟩),.map (some m0),ah (T x),O ae (nn.length:Nat),O ae a] w fun r w'=>r=aq (ak #[])/\Lo w' b m0 m1 s (nn++[x]) vn (oZ f (bad (!decide (x∈nn)) 24 a))/\aA [b,m0] w w':=by
 refine ret (adv _ _ _ _ _ _ _ ?_);refine⟨_,_,w,h.nm.at x,(DG h _ 24 a).mono ?_⟩;rintro _ w1 ⟨rfl,h1,cF⟩;refine⟨rfl,fun hc=>?_,fun hc=>?_⟩
 ·obtain⟨w2,u1,u2,u3⟩:=h1.nm.add hx (by simpa using hc);refine⟨w2,u1,rfl,⟨u3.blk h1.blk (by have:=h.n0;have:=h.n1;simp;omega),u2,h1.vr.only u3 (by have:=h.n0;simp;omega),h.n0,h.n1⟩,(cF.weaken (bs':=[b,m0]) (fun x hx=>.inl (by simp at hx;simp[hx]))).trans u3 fun x hx=>.inl (by simp at hx;simp[hx])⟩
 ·exact⟨rfl,⟨h1.blk,h1.nm.has (by simpa using hc),h1.vr,h.n0,h.n1⟩,cF.weaken fun x hx=>.inl (by simp at hx;simp[hx])⟩
theorem Qe(h:Lo w b m0 m1 s nn vn f){x:aJ}(hx:gS x)(a:Int):aB au 84 #[ai (some ⟨b,0,none⟩),.map (some m1),ah (T x),O ae (vn.length:Nat),O ae a] w fun r w'=>r=aq (ak #[])/\Lo w' b m0 m1 s nn (vn++[x]) (oZ f (bad (!decide (x∈vn)) 24 a))/\aA [b,m1] w w':=by
 refine ret (adv _ _ _ _ _ _ _ ?_);refine⟨_,_,w,h.vr.at x,(DG h _ 24 a).mono ?_⟩;rintro _ w1 ⟨rfl,h1,cF⟩;refine⟨rfl,fun hc=>?_,fun hc=>?_⟩
 ·obtain⟨w2,u1,u2,u3⟩:=h1.vr.add hx (by simpa using hc);refine⟨w2,u1,rfl,⟨u3.blk h1.blk (by have:=h.n1;simp;omega),h1.nm.only u3 (by have:=h.n0;simp;omega),u2,h.n0,h.n1⟩,(cF.weaken (bs':=[b,m1]) (fun x hx=>.inl (by simp at hx;simp[hx]))).trans u3 fun x hx=>.inl (by simp at hx;simp[hx])⟩
 ·exact⟨rfl,⟨h1.blk,h1.nm,h1.vr.has (by simpa using hc),h.n0,h.n1⟩,cF.weaken fun x hx=>.inl (by simp at hx;simp[hx])⟩
end
def H9(P:aL)(s:Sl)(w:ay)(s':Sl)(w':ay):Prop:=aF (fun k=>P k∨s.a=some ⟨k,0,none⟩) w w'/\∀k,s'.a=some ⟨k,0,none⟩->s.a=some ⟨k,0,none⟩∨w.heap.size<=k
theorem H9.trans{P:aL}{s t u:Sl}{w w' th:ay}(h:H9 P s w t w')(g:H9 P t w' u th):H9 P s w u th:=by
 refine⟨h.1.trans g.1 fun k hk=>?_,fun k hk=>?_⟩
 ·rcases hk with hk | hk
  ·exact .inl (.inl hk)
  ·exact(h.2 k hk).elim (fun h=>.inl (.inr h)) .inr
 ·rcases g.2 k hk with hk | hk
  ·exact h.2 k hk
  ·exact .inr (bh h.1.size hk)
theorem H9.of{P:aL}{s:Sl}{w w':ay}{bs:List Nat}(hO:aA bs w w')(hb:∀k,k∈bs->P k):H9 P s w s w':=⟨hO.p fun k hk=>.inl (.inl (hb k hk)),fun k hk=>.inl hk⟩
def Wg:cM:=⟨0,[],0,0,0⟩
theorem Qf:∀(D:Nat) {w:ay} {F:aL} {x:Nd} {cs:aK} {b m0 m1:Nat} {s:Sl} {nn vn:List (aJ)} {f:Ft},oY false D w F x cs->(∀k,F k->k<m0)->Lo w b m0 m1 s nn vn f->iH (b+1) w s (List.replicate nn.length Wg)->
  pc x<=8388608->nn.length+iO x<=1000000->
  aB au 83 #[ai (some ⟨b,0,none⟩),aj cs.toArray] w fun e w'=>e=aq (ak #[])/\∃s',Lo w' b m0 m1 s' (nn++(HY x).map fun p=>p.1) vn (oZ f (xf nn (HY x)))/\iH (b+1) w' s' (List.replicate (nn.length+iO x) Wg)/\H9 (fun k=>k=b∨k=m0) s w s' w'
 | 0,_,_,_,_,_,_,_,_,_,_,_,h,_,_,_,_,_=>h.elim
 | D+1,w,F,.mk bb ks,cs,b,m0,m1,s,nn,vn,f,⟨en,lv,mv,kids,pe,_,gU⟩,hF,hL,hS,hz,hn=>by
  have hk:=gU.1;clear gU;dsimp only[Nd.kids,Nd.b]at hk pe;subst pe;rw[iO]at hn;rw[pc]at hz;have NS:=hk.len;have hnn:=rV ks;have n0:=hL.n0;have n1:=hL.n1;have hgx:gS bb.nm:=by
   show bb.nm.length<=maxLen;have:maxLen=9223372036854775807:=rfl;unfold F6 at hz;omega
  refine ret (ajl _ _ _ _ _ _ _ _ _ _ _ _ ?_);intro k0 w0 gU fi cK;have z0:=cK.size;have Ck:=hL.lt;have Sz:=hL.o0 cK;have hS0:iH (b+1) w0 s _:=hS.xr cK.p0 fun _ _ _ h=>h;have Ss:s.n=nn.length:=by rw[hS.len,gC]
  have RU:s.a≠some ⟨k0,0,none⟩:=fun e=>by have:=(hS.blk e).2;dsimp only at this;omega
  refine⟨_,Blk.dZ Sz.blk 0 rfl,s,Blk.dZ Sz.blk 1 rfl,?_⟩;dsimp only;rw[Ss];refine(Qd Sz hgx bb.a).mono ?_;rintro _ w1 ⟨rfl,hL1,cF⟩;have z1:=cF.size;have wP:iH (b+1) w1 s (List.replicate nn.length Wg):=hS0.xr (G:=fun k=>k=b∨k=m0) (cF.p fun k hk=>.inl (by simpa using hk)) fun k h _=>by omega
  have m1':H9 (fun k=>k=b∨k=m0) s w s w1:=(H9.of cK (by simp)).trans (H9.of cF (by simp));obtain⟨y,w2,k1,k3,s3,w3,g1,g2,⟨gs,g3,g4⟩,g5⟩:=jj (P:=au) (t:=52) (ty:=52) (e:=125) (i:=Tryz.t125) (bytes:=48) (size:=5) (r:=nq) (G:=fun _=>False) (v:=aj #[O ae 0,ah (ar #[]),O ae 0,O ae 0,O ae 0]) (x:=Wg) (by kernel_rfl) (by kernel_rfl) rfl rfl rfl rfl (by decide) (by decide) (by decide) db wP (by omega) rfl rfl (fun _ h=>h.elim) (by rw[gC];omega);have z2:=k3.size;have z3:=g3.size;have gb:∀g,g∈gs->b<g/\g<w1.heap.size/\s.a=some ⟨g,0,none⟩:=fun g hg=>⟨by have:=(g4 g hg).2.1;omega,(g4 g hg).2.2,(g4 g hg).1⟩
  have hL3:Lo w3 b m0 m1 s (nn++[bb.nm]) vn _:=(hL1.o0 k3).only g3 (fun h=>by have:=gb _ h;omega) (fun h=>by have:=gb _ h;omega) (fun h=>by have:=gb _ h;omega);refine⟨rfl,cF.same (by simp;omega),s,Blk.dZ hL1.blk 1 rfl,y,w2,k1,k3.same (by simp;omega),s3,w3,g1,g3.same fun x hx=>?_,b,1,_,_,rfl,hL3.blk,by simp,by omega,fun w4 dP vG=>?_⟩
  ·simp only[aO]at hx;subst hx;exact⟨by omega,fun h=>RU (gb _ h).2.2⟩
  have z4:=dP.size;have hL4:Lo w4 b m0 m1 s3 (nn++[bb.nm]) vn (oZ f (bad (!decide (bb.nm∈nn)) 24 bb.a)):=hL3.nu dP vG;have Ej:iH (b+1) w3 s3 (List.replicate (nn.length+1) Wg):=by
   have:=iH.of g2;rwa[<-List.replicate_succ']at this
  have LQ:iH (b+1) w4 s3 (List.replicate (nn.length+1) Wg):=Ej.xr (G:=fun k=>k=b) (dP.p (by simp)) fun k h _=>by omega
  have m4:H9 (fun k=>k=b∨k=m0) s w s3 w4:=by
   refine m1'.trans ⟨((k3.pd (g3.p (F:=fun k=>(k=b∨k=m0)∨s.a=some ⟨k,0,none⟩) fun g hg=>.inl (.inr (gb g hg).2.2))).trans (dP.p (F:=fun k=>k=b) (by simp)) fun k hk=>.inl (.inl (.inl hk))),fun k hk=>?_⟩;rcases g5 with e | ⟨g,e,h⟩
   ·exact .inl (by rw[<-e];exact hk)
   ·rw[e]at hk;injection hk with hk;injection hk with hk;exact .inr (by omega)
  have n4:∀k,s3.a=some ⟨k,0,none⟩->k≠k0:=fun k hk e=>by
   subst e;rcases g5 with e | ⟨g,e,h⟩
   ·exact RU (by rw[<-e];exact hk)
   ·rw[e]at hk;injection hk with hk;injection hk with hk;omega
  have iv:∀{u:ay} {q:Sl},H9 (fun k=>k=b∨k=m0) s w q u->aD (oY false D) 9 u F kids ks:=fun hm=>SliceF.mw (cN false D) (by decide) hk hm.1 fun k tW _=>by
   have:=hF k tW;exact fun h=>h.elim (by omega) fun h=>by have:=(hS.blk h).1;dsimp only at this;omega
  refine⟨fun kv i w'=>∃(j:Nat) (q:Sl),i=(j:Int)/\kv+j=ks.length/\j<=ks.length/\Lo w' b m0 m1 q (nn++bb.nm::(xJ (ks.take j)).map fun p=>p.1) vn (oZ f (xf nn ((bb.nm,bb.a)::xJ (ks.take j))))/\iH (b+1) w' q (List.replicate (nn.length+1+eV (ks.take j)) Wg)/\H9 (fun k=>k=b∨k=m0) s w q w'/\w4.heap.size<=w'.heap.size/\∀k,q.a=some ⟨k,0,none⟩->k≠k0,ks.length,⟨0,s3,rfl,by omega,bA _,by
   rw[dr,xJ,xf,xf,bR];exact hL4,by rw[dr,eV,fx];exact LQ,m4,aY _,n4⟩,?_⟩
  rintro kv _ w5 ⟨j,q,rfl,tX,ja,W4,LR,m5,z5,n5⟩;constructor
  ·intro hc;have hj:j<ks.length:=by have:=aP hc;omega
   obtain⟨y,hy⟩:∃y,ks[j]? =some y:=⟨_,aV hj⟩
   obtain⟨ad,y',ds,a1,a2,a3,a4,a5,a6⟩:=(iv m5).get (bE j) (by omega);rw[aX,hy]at a2;injection a2 with a2;subst a2;have Vg:=a6;obtain⟨D',rfl⟩:∃D',D=D'+1:=by
    cases D with
    | zero=>exact a6.elim
    | succ D'=>exact⟨D',rfl⟩
   obtain⟨xT,xU,tq,li,rfl,_⟩:=Vg;have ma:=pV hy;have hzy:=pX (bD hy);have NZ:(nn++bb.nm::(xJ (ks.take j)).map fun p=>p.1).length=nn.length+1+eV (ks.take j):=by
    rw[aU,bp,bq,TW];omega
   refine⟨ad,a1,_,_,_,_,xT,xU,tq,li,_,a5,fun k6 w6 hk6 Vh ez=>?_⟩;have z6:=ez.size;have Nj:=W4.o0 ez;have LD:=W4.lt;refine(Qf (D'+1) ((cN false (D'+1)).keep a6 fun k _ bX=>ez.block k bX (by simp)) hF Nj (by rw[NZ];exact LR.xr ez.p0 fun _ _ _ h=>h) (by omega) (by rw[NZ];omega)).mono ?_;rintro _ w7 ⟨rfl,q7,Ei,hS7,m7⟩;have z7:=m7.1.size;have e:ks.take (j+1)=ks.take j++[y]:=by rw[bI,hy];rfl
   have en1:xJ (ks.take (j+1))=xJ (ks.take j)++HY y:=by rw[e,Km,xJ,xJ,bR]
   refine⟨rfl,m7.1.same fun x hx=>?_,kv-1,by omega,j+1,q7,by rw[gD (by omega) (by omega)];rfl,by omega,by omega,?_,?_,(m5.trans (H9.of ez (by simp))).trans m7,by omega,fun k hk e=>?_⟩
   ·simp only[aR,bf,bU]at hx;rcases hx with rfl | rfl
    ·exact⟨by omega,fun h=>h.elim (by omega) fun h=>n5 _ h rfl⟩
    ·refine⟨Vh,fun h=>h.elim (by omega) fun h=>?_⟩;have:=(LR.blk h).2;dsimp only at this;omega
   ·have e1:nn++bb.nm::(xJ (ks.take (j+1))).map (fun p=>p.1)=(nn++bb.nm::(xJ (ks.take j)).map fun p=>p.1)++(HY y).map fun p=>p.1:=by
     rw[en1,da,bQ,ck]
    have e2:xf nn ((bb.nm,bb.a)::xJ (ks.take (j+1)))=xf nn ((bb.nm,bb.a)::xJ (ks.take j))++xf (nn++bb.nm::(xJ (ks.take j)).map fun p=>p.1) (HY y):=by
     rw[en1,<-ck,DA];rfl
    rw[e1,e2,jk];exact Ei
   ·rw[NZ]at hS7;rw[e,zI,eV,eV,fx,<-eM];exact hS7
   ·subst e;rcases m7.2 _ hk with h | h
    ·exact n5 _ h rfl
    ·omega
  ·intro hc;have qo:j=ks.length:=by have:=aW hc;omega
   subst qo;rw[bC (aY _)]at LR W4;refine⟨rfl,q,?_,?_,m5⟩
   ·rw[HY];exact W4
   ·rw[iO,show nn.length+(eV ks+1)=nn.length+1+eV ks by omega];exact LR
end Go.Proofs.YtbkjcdocjfknfaaGreatDoor.Con
namespace Go.Kt
open Go renaming World->ay,Value->az
open Go Go.RowKit
set_option linter.unusedSimpArgs false
set_option linter.unusedVariables false
section
variable {P:Program} {w:ay}
set_option maxRecDepth 20000 in
theorem vm {t it ty e:TypeId} {i:TypeInfo} {z:Value} (ht:P.underlying t=some (.slice e)) (hit:P.underlying it=some (.int .i64)) (hi:P.info? e=some i) (hz:i.zero=some z)
  {n:Nat} (hn0:0<n) (EA:0<i.size) (Rg:n<=9223372036854775807) (UL:n*i.bytes<=281474976710656) (IE:Builtin.nextslicecap n 0*i.bytes<=281474976710656):
  (Builtin.append_ #[t,it] ty #[.slice none 0 0,.int .i64 n]).run P w=
   .ok (.slice (some ⟨w.heap.size,0,none⟩) n (grownCap w n 0 e))
    (w.drew.alloc (.cells (Builtin.zeroCells z.cells n++Builtin.zeroCells z.cells (grownCap w n 0 e-n)) e)):=by
 have hn:¬(n<=0):=by omega
 have amT:¬(9223372036854775807<(n:Int)):=by omega
 have amU:¬(281474976710656<Builtin.nextslicecap n 0*i.bytes):=by omega
 have hwr:IntKind.i64.wrap (n:Int)=n:=gD (by omega) (by omega);have kc:¬(281474976710656<(n:Int)*(i.bytes:Int)):=by
  have:((n*i.bytes:Nat):Int)<=281474976710656:=Int.ofNat_le.2 UL;rw[Int.natCast_mul]at this;omega
 have amV:¬((n:Int)<0):=by omega
 have gz:n≠0:=by omega
 have Z2:n*i.size≠0:=by have:=Nat.mul_pos hn0 EA;omega
 simp[Builtin.append_,run_underlying ht,run_underlying hit,sizeOf,typeInfo,zeroValue,hi,hz,asInt,asIntOf,hwr,amV,kc,gz,Z2,amT,amU,Question.forced,run_firstCells_none,newRow,grownCap]
theorem Qg{α:Type}{r:Rp α}{F:Nat->Prop}{size bytes:Nat}{t it ty e:TypeId}{i:TypeInfo}{z:az}(ht:P.underlying t=some (.slice e))(hit:P.underlying it=some (.int .i64))(hi:P.info? e=some i)(hz:i.zero=some z)(qh:i.size=size)(UL:i.bytes=bytes)(M5:z.cells.size=size)
  {n:Nat} (hn0:0<n) (h0:0<size) (hm:n*bytes<=140737488355328) (Av:0<bytes):
  ∃s w',(Builtin.append_ #[t,it] ty #[.slice none 0 0,.int .i64 n]).run P w=.ok (Sl.v s) w'/\Own r size e w.heap.size w' F (s.cut 0 0 s.c size) []/\Only [] w w'/\s.a=some ⟨w.heap.size,0,none⟩:=by
 subst qh;subst UL;have Rg:n<=140737488355328:=bh (by have:=Em n Av;omega) hm;have hf:=(growslice_fits hn0 hm:Builtin.nextslicecap n 0*i.bytes<=281474976710656)
 refine⟨⟨some ⟨w.heap.size,0,none⟩,n,grownCap w n 0 e⟩,_,vm ht hit hi hz hn0 h0 (by omega) (by omega) hf,?_,(Only.drew w).cz (Only.alloc _ _),rfl⟩;have mz:=grownCap_ge w n 0 e;have ma:=grownCap_le_maxLen w n 0 e (by simp only[maxLen];omega);refine .inr ⟨w.heap.size,([]:List (List az)),(Builtin.zeroCells z.cells n++Builtin.zeroCells z.cells (grownCap w n 0 e-n)).toList,?_,aY _,?_,?_,rfl,?_,?_,trivial⟩
 ·simp[Sl.cut,Addr.add]
 ·have:=Blk.alloc w.drew e (Builtin.zeroCells z.cells n++Builtin.zeroCells z.cells (grownCap w n 0 e-n)).toList;rw[Array.toArray_toList]at this;exact this
 ·rw[Array.toList_append,aU,uE w _ M5,uE w _ M5,<-eC];simp only[Sl.cut];congr 1;omega
 ·simp[Sl.cut]
 ·simp only[Sl.cut];simp only[maxLen]at ma;omega
end
end Go.Kt
namespace Go.Proofs.YtbkjcdocjfknfaaGreatDoor.Con
open Go.Value renaming int->O,string->ah,pointer->ai,agg->aj,tuple->ak,bool->ao
open Go.IntKind renaming i64->ae,wrap->av
open Go.Ending renaming returned->aq
open _root_.ByteArray renaming mk->ar
open _root_.Go.Proofs.Tryz renaming prog->au
open Go.Instr renaming buildSlice->aw
open Go renaming World->ay,Value->az,Calls->aB
open Go.Kt renaming Only->aA,SliceF->aD,Cells->aE,OnlyP->aF,Blk->aH
open Go Go.RowKit Go.Kt Go.Kt.V Go.Proofs.YtbkjcdocjfknfaaGreatDoor.Vc
set_option linter.unusedSimpArgs false
set_option linter.unusedVariables false
set_option maxHeartbeats 800000
set_option maxRecDepth 100000
structure Lx (w:ay) (b m0 m1:Nat) (F:aL) (s:Sl) (xs:List cM) (vn:List (aJ)) (f:Ft):Prop where
 lo:Lo w b m0 m1 s (xs.map fun x:cM=>x.nm) vn f
 sp:aD nq 5 w F s xs
 fo:Fo xs
 ln:xs.length<=64
 nF:∀k,F k->k≠b
section
variable {w w':ay} {b m0 m1:Nat} {F G:aL} {s:Sl} {xs:List cM} {vn:List (aJ)} {f g:Ft}
theorem Lx.o0(h:Lx w b m0 m1 F s xs vn f)(hO:aA [] w w'):Lx w' b m0 m1 F s xs vn f:=⟨h.lo.o0 hO,SliceF.only db (by decide) h.sp hO (by simp),h.fo,h.ln,h.nF⟩
theorem Lx.to(h:Lx w b m0 m1 F s xs vn f)(hO:aA [b] w w')(hl:Lo w' b m0 m1 s (xs.map fun x:cM=>x.nm) vn g):Lx w' b m0 m1 F s xs vn g:=
 ⟨hl,SliceF.only db (by decide) h.sp hO fun k hk _ hm=>h.nF k hk (by simpa using hm),h.fo,h.ln,h.nF⟩
theorem kR(h:Lx w b m0 m1 F s xs vn f)(ok:Bool)(e a:Int):aB au 123 #[ai (some ⟨b,0,none⟩),ao ok,O ae e,O ae a] w fun r w'=>r=aq (ak #[])/\Lx w' b m0 m1 F s xs vn (oZ f (bad ok e a))/\aA [b] w w':=by
 refine(DG h.lo ok e a).mono ?_;rintro _ w' ⟨rfl,h1,hO⟩;exact⟨rfl,h.to hO h1,hO⟩
theorem zV(xs:List cM)(n:aJ):gj xs n= -1∨∃j:Nat,gj xs n=j/\j<xs.length:=by
 rcases mr xs n with⟨h,_⟩ | ⟨j,x,h,hx,_⟩
 ·exact .inl h
 ·exact .inr ⟨j,h,eZ hx⟩
theorem DH(h:Lx w b m0 m1 F s xs vn f)(n:aJ):aB au 163 #[.map (some m0),ah (T n)] w fun r w'=>r=aq (O ae (gj xs n))/\w'=w:=by
 refine ret (ajq _ _ _ _ ?_);refine⟨_,_,w,h.lo.nm.at n,fun hb=>⟨?_,rfl⟩,fun hb=>⟨?_,rfl⟩⟩
 ·have hl:=nl.2 (aP hb);unfold gj;rw[if_pos hl,if_pos (by rwa[bq]at hl)]
 ·have hl:¬_:=fun h=>aW hb (nl.1 h);unfold gj;rw[if_neg (by rwa[bq]at hl)]
theorem F9(h:Lx w b m0 m1 F s xs vn f){n:Int}(hn:n<xs.length):aB au 164 #[ai (some ⟨b,0,none⟩),O ae n] w fun r w'=>r=aq (ao (decide (0<=n)&&!fL (kP xs n)))/\w'=w:=by
 refine ret (ajr _ _ _ _ ?_);refine⟨fun r w'=>r=(decide (0<=n)&&!fL (kP xs n))/\w'=w,fun r w' ⟨h1,h2⟩=>⟨by rw[h1],h2⟩,fun hc=>?_,fun hc=>⟨?_,rfl⟩⟩
 ·have hc:0<=n:=aP hc;obtain⟨j,rfl⟩:∃j:Nat,n=j:=⟨n.toNat,by omega⟩
  obtain⟨x,hx⟩:=fO (xs:=xs) (i:=j) (by omega);obtain⟨ad,a1,a2,_⟩:=jL h.sp hx;refine⟨s,Blk.dZ h.lo.blk 1 rfl,ad,a1,x.k,a2.dZ 0 _ rfl,(yp w x.k).mono ?_⟩;rintro _ w1 ⟨rfl,hu⟩;refine⟨_,rfl,?_,hu⟩;rw[fP hx,bK hc];rfl
 ·rw[show decide (0<=n)=false from hc];rfl
theorem DI{b k0:Nat}(hO:aA [b] w w')(h:k0≠b):bS (fun k=>k=k0) w w':=fun k hk bX=>hO.block k bX (by subst hk;simp[h])
theorem rZ{b:Nat}{u v:ay}(h:aA [b] w u)(g:aA [b] u v):aA [b] w v:=h.trans g fun x hx=>.inl hx
theorem xL{b:Nat}(h:aA [] w w'):aA [b] w w':=h.weaken fun x hx=>(by simp at hx)
theorem DJ:∀(d:Nat) {w:ay} {x:Ex} {cs:aK} {f:Ft},Ke false d w G x cs->(∀k,G k->k≠b)->Lx w b m0 m1 F s xs vn f->
  aB au 126 #[ai (some ⟨b,0,none⟩),aj cs.toArray] w fun r w'=>r=aq (ak #[])/\Lx w' b m0 m1 F s xs vn (oZ f (Sk xs vn x))/\aA [b] w w'
 | 0,_,_,_,_,h,_,_=>h.elim
 | d+1,w,x,cs,f,⟨sl,pe,rA⟩,hG,h=>by
  subst pe;have rA:=rA.1;refine ret (ajt _ _ _ _ _ _ _ _ _ ?_);intro k0 w0 gU fi cK;have z0:=cK.size;have Ck:=h.lo.lt;have h0:=h.o0 cK;have NZ:=rA.len;have hcp:=rA.cap;have IP:=rA.big;have RY:k0≠b:=by omega
  refine⟨fun u=>Lx u b m0 m1 F s xs vn (oZ f (bad (Sj xs vn x.k x.s) 23 x.a))/\aA [b] w u/\w0.heap.size<=u.heap.size,?_,fun hk=>?_,fun hk=>⟨fun yx=>?_,fun yx=>?_⟩⟩
  ·rintro w1 ⟨h1,o1,z1⟩;refine⟨fun kv i u=>∃j:Nat,i=(j:Int)/\kv+j=x.fW.length/\j<=x.fW.length/\Lx u b m0 m1 F s xs vn (oZ f (bad (Sj xs vn x.k x.s) 23 x.a++tz xs vn (x.fW.take j)))/\aA [b] w u/\w0.heap.size<=u.heap.size,x.fW.length,⟨0,rfl,rfl,bA _,by rw[dr,tz,bR];exact h1,o1,z1⟩,?_⟩;rintro kv _ w2 ⟨j,rfl,tX,hj,h2,o2,z2⟩;refine⟨fun hc=>?_,fun hc=>?_⟩
   ·have hc:=aP hc;have U4:aD (Ke false d) 6 w2 G sl x.fW:=SliceF.only (kl false d) (by decide) rA o2 fun k hk _ hm=>hG k hk (by simpa using hm);obtain⟨ad,y,ds,a1,a2,a3,a4,a5,a6⟩:=U4.get (bE j) (by omega);rw[aX]at a2;have Vg:=a6;obtain⟨d',rfl⟩:∃e,d=e+1:=by
     cases d with
     | zero=>exact a6.elim
     | succ e=>exact⟨e,rfl⟩
    obtain⟨pq,rfl,_⟩:=Vg;refine⟨ad,a1,_,_,_,_,_,_,a5,fun k3 w3 yx wN dx=>?_⟩;have z3:=dx.size;refine(DJ (d'+1) ((kl false (d'+1)).keep a6 fun k hk bX=>dx.block k bX (by simp)) hG (h2.o0 dx)).mono ?_;rintro _ w4 ⟨rfl,h4,dP⟩;have z4:=dP.size;have og:x.fW.take (j+1)=x.fW.take j++[y]:=by rw[bI,a2];rfl
    have xx:=h2.lo.lt;refine⟨rfl,dP.same (by simp;omega),kv-1,by omega,j+1,by rw[gD (by omega) (by omega)];rfl,by omega,by omega,?_,(o2.cz dx).trans dP fun x hx=>.inl hx,by omega⟩;rw[og,FV,tz,tz,bR,<-bQ,jk];exact h4
   ·have hc:=aW hc;have qo:j=x.fW.length:=by omega
    subst qo;rw[bC (aY _),<-Yb]at h2;exact⟨rfl,h2,o2⟩
  ·have hk:x.k=2:=by simpa using hk
   intro w5 eE;have z5:=eE.size;have h5:=h0.o0 eE;refine⟨_,Blk.dZ h5.lo.blk 2 rfl,_,_,w5,h5.lo.vr.at x.s,ci.refl _ _,(kR h5 _ 23 x.a).mono ?_⟩;rintro _ w7 ⟨rfl,h7,fI⟩;have z7:=fI.size;refine⟨rfl,fI.same (by simp;omega),?_,rZ (xL (cK.cz eE)) fI,by omega⟩;have:Sj xs vn x.k x.s=decide (x.s∈vn):=by unfold Sj;rw[hk];simp
   rw[this];exact h7
  ·have yx:x.k=3:=by simpa using yx
   intro w8 gn;have z8:=gn.size;have h8:=h0.o0 gn;refine⟨fun k=>k=k0,_,Blk.dZ h8.lo.blk 0 rfl,rfl,(DH h8 x.s).mono ?_⟩;rintro _ w9 ⟨rfl,hu⟩;obtain rfl:w8=w9:=hu.symm;refine⟨_,rfl,ci.refl _ _,bS.refl _ _,(F9 h8 (by rcases zV xs x.s with h | ⟨j,h,hl⟩<;>omega)).mono ?_⟩;rintro _ dI ⟨rfl,hu⟩;obtain rfl:w8=dI:=hu.symm;refine⟨_,rfl,ci.refl _ _,bS.refl _ _,(kR h8 _ 23 x.a).mono ?_⟩;rintro _ dJ ⟨rfl,AB,dT⟩;have Co:=dT.size;refine⟨rfl,dT.same (by simp;omega),DI dT RY,?_,rZ (xL (cK.cz gn)) dT,by omega⟩;have:Sj xs vn x.k x.s=Ya xs x.s:=by unfold Sj;rw[yx];simp
   rw[this];exact AB
  ·have tF:x.k≠2:=by simpa using hk
   have yx:x.k≠3:=by simpa using yx
   have:Sj xs vn x.k x.s=true:=by unfold Sj;simp[tF,yx]
   rw[this];exact⟨h0,xL cK,aY _⟩
end
def Ga:Rp Sl:=fun _ _ x cs=>cs=[x.v]
theorem qL:Ga.Ok:=⟨fun h _=>h,fun h=>h,fun h _=>h,fun h=>by
 unfold Ga at h;subst h;intro v hv;simp only[aO]at hv;subst hv;rfl⟩
abbrev BQ(B:Nat)(w:ay)(G:aL)(s:Sl)(l:List Ac):Prop:=Own (tN false) 9 196 B w G s l
theorem Uc(w:ay)(G:aL){n:Nat}(hn:n<=20000000):aB au 201 #[Sl.nil.v,O ae (n:Int)] w fun e w'=>(∃s:Sl,e=aq s.v/\BQ w.heap.size w' G s [])/\aA [] w w':=by
 refine(adx Sl.nil n (fun v w'=>(∃s:Sl,v=s.v/\BQ w.heap.size w' G s [])/\aA [] w w') w ?_).mono (by rintro _ w' ⟨v,rfl,⟨s,rfl,h⟩,h'⟩;exact⟨⟨s,rfl,h⟩,h'⟩);have e0:av ae ((n:Int)-(av ae ((Sl.nil.c:Int)-(Sl.nil.n:Int))))=n:=by
  show av ae ((n:Int)-(av ae (((0:Nat):Int)-((0:Nat):Int))))=n;rw[gD (x:=((0:Nat):Int)-((0:Nat):Int)) (by omega) (by omega),gD (by omega) (by omega)];omega
 refine⟨fun u=>w=u,?_,fun hc=>?_,fun _=>rfl⟩
 ·rintro _ rfl;rw[e0];refine⟨fun l u=>BQ w.heap.size u G l []/\aA [] w u,fun l u h=>⟨⟨l,rfl,h.1⟩,h.2⟩,fun hc=>?_,fun hc=>⟨Own.nil _ _ _ _ _ _,Only.refl _ _⟩⟩;have hc:=aP hc;obtain⟨s,w2,g1,g2,g3,_⟩:=Qg (P:=au) (w:=w) (r:=tN false) (F:=G) (size:=9) (bytes:=104) (t:=23) (it:=3) (ty:=23) (e:=196) (i:=Tryz.t196) (n:=n) (by kernel_rfl) (by kernel_rfl) (by kernel_rfl) rfl rfl rfl rfl (by omega) (by decide) (by omega) (by decide);exact⟨0,⟨rfl,aY _⟩,s,w2,g1,0,⟨rfl,bA _⟩,g2,g3⟩
 ·have:=aP hc;omega
def lJ(l:List (Sl×List Ac)):List Ac:=l.flatMap fun p=>p.2
theorem sZ{l:List (Sl×List Ac)}{j:Nat}{p:Sl×List Ac}(h:l[j]? =some p):lJ (l.take (j+1))=lJ (l.take j)++p.2:=by
 rw[bI,h];unfold lJ;rw[jB];simp
theorem KU{l:List (Sl×List Ac)}(j:Nat):(lJ (l.take j)).length<=(lJ l).length:=by
 have:lJ l=lJ (l.take j)++lJ (l.drop j):=by
  unfold lJ;rw[<-jB,dv]
 rw[this,aU];omega
theorem MF{w:ay}{rows:Sl}{F G:aL}{l:List (Sl×List Ac)}(hR:aD Ga 1 w F rows (l.map fun p=>p.1))(hA:∀p,p∈l->aD (tN false) 9 w G p.1 p.2)(hm:(lJ l).length<=20000000):
  aB au 165 #[rows.v] w fun e w'=>(∃s:Sl,e=aq s.v/\BQ w.heap.size w' (fun k=>G k/\k<w.heap.size) s (lJ l))/\aA [] w w':=by
 refine(adw rows (fun v w'=>(∃s:Sl,v=s.v/\BQ w.heap.size w' (fun k=>G k/\k<w.heap.size) s (lJ l))/\aA [] w w') w ?_).mono (by rintro _ w' ⟨v,rfl,⟨s,rfl,h⟩,h'⟩;exact⟨⟨s,rfl,h⟩,h'⟩);have RZ:=hR.len;have hcp:=hR.cap;have IP:=hR.big;rw[bq]at RZ;have row:∀{u:ay} {j:Nat},aA [] w u->j<l.length->∃ad p,dL rows (j:Int) 1 ad/\l[j]? =some p/\aE u ad [p.1.v]/\aD (tN false) 9 u (fun k=>G k/\k<w.heap.size) p.1 p.2:=fun{u j} hO hj=>by
  obtain⟨ad,y,ds,a1,a2,a3,a4,a5,a6⟩:=(SliceF.only qL (by decide) hR hO (by simp)).get (bE j) (by omega);rw[aX,bZ,fZ]at a2;obtain⟨p,hp,rfl⟩:=a2;have a6:ds=[p.1.v]:=a6;subst a6;exact⟨ad,p,a1,hp,a5,((hA p (bD hp)).inHeap (dN false) (by decide)).keep (dN false) (by decide) fun k _ bX=>hO.block k bX (by simp)⟩
 refine⟨fun kv n i u=>∃j:Nat,i=(j:Int)/\n=((lJ (l.take j)).length:Nat)/\kv+j=l.length/\j<=l.length/\w=u,l.length,⟨0,rfl,rfl,rfl,bA _,rfl⟩,?_⟩;rintro kv _ _ _ ⟨j,rfl,rfl,tX,hj,rfl⟩;refine⟨fun hc=>?_,fun hc=>?_⟩
 ·have hc:=aP hc;obtain⟨ad,p,a1,a2,a3,a4⟩:=row (Only.refl _ _) (j:=j) (by omega);have Ng:=a4.len;have ma:=KU (l:=l) (j+1);rw[sZ a2,aU]at ma;have hw:av ae (((lJ (l.take j)).length:Nat)+(p.1.n:Int))=((lJ (l.take (j+1))).length:Nat):=by
   rw[gD (by omega) (by omega),sZ a2,aU];omega
  refine⟨fun n u=>n=((lJ (l.take (j+1))).length:Nat)/\w=u,?_,ad,a1,p.1,a3,fun hb=>?_,fun _=>⟨hw,rfl⟩⟩
  ·rintro _ _ ⟨rfl,rfl⟩;exact⟨kv-1,by omega,j+1,by rw[gD (by omega) (by omega)];rfl,rfl,by omega,by omega,rfl⟩
  ·have:=aP hb;rw[hw]at this;omega
 ·have hc:=aW hc;have qo:j=l.length:=by omega
  subst qo;rw[bC (aY _)];refine(Uc w (fun k=>G k/\k<w.heap.size) hm).mono ?_;rintro _ w2 ⟨⟨s,rfl,hS⟩,dh⟩;refine⟨s,rfl,fun kv t i u=>∃j:Nat,i=(j:Int)/\kv+j=l.length/\j<=l.length/\BQ w.heap.size u (fun k=>G k/\k<w.heap.size) t (lJ (l.take j))/\aA [] w u,l.length,⟨0,rfl,rfl,bA _,by rw[dr];exact hS,dh⟩,?_⟩;rintro kv t _ w3 ⟨j,rfl,tX,hj,hT,dx⟩;refine⟨fun hc=>?_,fun hc=>?_⟩
  ·have hc:=aP hc;obtain⟨ad,p,a1,a2,a3,a4⟩:=row dx (j:=j) (by omega);have ma:=KU (l:=l) (j+1);rw[sZ a2,aU]at ma;obtain⟨t',w4,g1,g2,gs,g3,g4,_⟩:=uF (P:=au) (t:=23) (ty:=23) (e:=196) (i:=Tryz.t196) (bytes:=104) (size:=9) (r:=tN false) (by kernel_rfl) (by kernel_rfl) rfl rfl rfl rfl (dN false) hT (a4.mono (dN false) fun k hk=>⟨hk,fun e=>by have:=(hT.blk e).1;dsimp only at this;omega⟩) dx.size (by omega) (by decide);refine⟨ad,a1,p.1,a3,t',w4,g1,kv-1,by omega,j+1,by rw[gD (by omega) (by omega)];rfl,by omega,by omega,by rw[sZ a2];exact g2,dx.trans g3 fun g hg=>.inr (g4 g hg).2.1⟩
  ·have hc:=aW hc;have qo:j=l.length:=by omega
   subst qo;rw[bC (aY _)]at hT;exact⟨⟨t,rfl,hT⟩,dx⟩
section
variable {w w':ay} {b m0 m1:Nat} {F G H:aL} {s:Sl} {xs:List cM} {vn:List (aJ)} {f g:Ft}
theorem KV{rows:Sl}{l:List (Sl×List Ac)}(hR:aD Ga 1 w H rows (l.map fun p=>p.1))(hA:∀p,p∈l->aD (tN false) 9 w G p.1 p.2)(hm:(lJ l).length<=20000000)(hG:∀k,G k->k≠b)(h:Lx w b m0 m1 F s xs vn f):
  aB au 125 #[ai (some ⟨b,0,none⟩),rows.v] w fun r w'=>r=aq (ak #[])/\Lx w' b m0 m1 F s xs vn (oZ f (tA xs vn (lJ l)))/\aA [b] w w':=by
 refine ret (ajs _ _ _ _ ?_);refine(MF hR hA hm).mono ?_;rintro _ w0 ⟨⟨t,rfl,hT⟩,cK⟩;have Ck:=h.lo.lt;have z0:=cK.size;generalize lJ l=al at*
 have SI:=hT.len;refine⟨t,rfl,fun kv i u=>∃j:Nat,i=(j:Int)/\kv+j=al.length/\j<=al.length/\Lx u b m0 m1 F s xs vn (oZ f (tA xs vn (al.take j)))/\aA [b] w0 u,al.length,⟨0,rfl,rfl,bA _,by rw[dr];exact h.o0 cK,Only.refl _ _⟩,?_⟩;rintro kv _ w1 ⟨j,rfl,tX,hj,h1,cF⟩;have z1:=cF.size;refine⟨fun hc=>?_,fun hc=>?_⟩
 ·have hc:=aP hc;have hT1:aD (tN false) 9 w1 _ t al:=SliceF.only (dN false) (by decide) (hT.slice (dN false)) cF fun k hk _ hm=>by
   simp only[aO]at hm;rcases hk with hk | hk
   ·exact hG k hk.1 hm
   ·omega
  obtain⟨ad,y,ds,a1,a2,a3,a4,a5,a6⟩:=hT1.get (bE j) (by omega);rw[aX]at a2;obtain⟨xc,rfl,hx⟩:=a6;obtain⟨sl,rfl⟩:=iW hx;have tB:=h1.lo.lt;refine⟨ad,a1,_,_,_,_,_,_,sl,_,_,a5,fun k2 w2 tF wM dh=>?_⟩;have z2:=dh.size;have h2:=h1.o0 dh;have e1:tA xs vn (al.take (j+1))=tA xs vn (al.take j)++(bad (decide (y.k≠1)||decide (y.n∈vn)) 23 y.a++Sk xs vn y.x):=by
   rw[bI,a2];unfold tA;rw[jB];simp[acF]
  refine⟨fun u=>Lx u b m0 m1 F s xs vn (oZ f (tA xs vn (al.take j)++bad (decide (y.k≠1)||decide (y.n∈vn)) 23 y.a))/\aA [b] w2 u,?_,fun hk w5 eE=>?_,fun hk=>?_⟩
  ·rintro w3 ⟨h3,dx⟩;have z3:=dx.size;obtain⟨d,hxd⟩:=hx;have hfp:∀k,((G k/\k<w.heap.size)∨(w.heap.size<=k/\t.a=some ⟨k,0,none⟩))->k≠b:=fun k hk=>hk.elim (fun h=>hG k h.1) fun h=>by omega
   refine(DJ d ((kl false d).keep ((kl false d).keep hxd fun k _ bX=>dh.block k bX (by simp)) fun k hk bX=>dx.block k bX (by simp;exact hfp k hk)) hfp h3).mono ?_;rintro _ w4 ⟨rfl,h4,dP⟩;have z4:=dP.size;refine⟨rfl,dP.same (by simp;omega),kv-1,by omega,j+1,by rw[gD (by omega) (by omega)];rfl,by omega,by omega,?_,rZ (rZ (cF.cz dh) dx) dP⟩;rw[e1,<-bQ,jk];exact h4
  ·have hk:y.k=1:=by simpa using hk
   have z5:=eE.size;have h5:=h2.o0 eE;refine⟨_,Blk.dZ h5.lo.blk 2 rfl,_,_,w5,h5.lo.vr.at y.n,ci.refl _ _,(kR h5 _ 23 y.a).mono ?_⟩;rintro _ w7 ⟨rfl,h7,fI⟩;have z7:=fI.size;refine⟨rfl,fI.same (by simp;omega),?_,rZ (xL eE) fI⟩;rw[jk,hk];exact h7
  ·have hk:y.k≠1:=by simpa using hk
   refine⟨?_,Only.refl _ _⟩;rw[jk,bK hk];exact h2
 ·have hc:=aW hc;have qo:j=al.length:=by omega
  subst qo;rw[bC (aY _)]at h1;exact⟨rfl,h1,rZ (xL cK) cF⟩
end
theorem aku(u:ay){a b:Int}(ha:ry a)(hb:ry b):∃y w1,(aw 32 2 #[.mk 0 (O ae a),.mk 1 (O ae b)]).run au u=.ok (Sl.v y) w1/\aA [] u w1/\aD rInt 1 w1 (fun _=>True) y [a,b]:=by
 obtain⟨y,w1,k1,k2,k3,_⟩:=kx (P:=au) (t:=32) (e:=3) (i:=Tryz.t3) (z:=O ae 0) (w:=u) (F:=fun _=>False) (vs:=[O ae a,O ae b]) (parts:=#[.mk 0 (O ae a),.mk 1 (O ae b)]) (len:=2) (xs:=[a,b]) (r:=rInt) (size:=1) (by kernel_rfl) (by kernel_rfl) rfl rfl (by decide) rfl rfl (by decide) (by decide) bN ⟨⟨rfl,rfl,ha⟩,⟨rfl,rfl,hb⟩,trivial⟩;exact⟨y,w1,k1,k3,(k2.slice bN).mono bN fun _ _=>trivial⟩
theorem iH.sl{B:Nat}{w:ay}{s:Sl}{xs:List cM}(h:iH B w s xs):aD nq 5 w (fun k=>B<=k) s xs:=(h.slice db).mono db fun k hk=>hk.elim (fun h=>h.elim) fun h=>h.1
def tup(x:cM):Int×aJ×Int×Int×Int:=(x.k,x.nm,x.pa,x.dp,x.en)
section
variable {w w':ay} {b m0 m1:Nat} {F G:aL} {s:Sl} {xs:List cM} {vn:List (aJ)} {f g:Ft}
theorem Ia{n:Int}(h:pj xs n)(hl:xs.length<=64):ry n:=⟨by have:=h.1;omega,by have:=h.2;omega⟩
theorem Qh(h:Lx w b m0 m1 F s xs vn f){n o:Int}(hn:pj xs n)(ho:pj xs o):aB au 167 #[ai (some ⟨b,0,none⟩),O ae n,O ae o] w fun r w'=>r=aq (ao (Dz xs n o))/\aA [] w w':=by
 refine ret (ajw _ _ _ _ _ ?_);obtain⟨y,w1,k1,k2,k3⟩:=aku w (Ia hn h.ln) (Ia ho h.ln);have h1:=h.o0 k2;refine⟨s,Blk.dZ h.lo.blk 1 rfl,y,w1,k1,(Qc h1.sp h.fo k3).mono ?_⟩;rintro _ w2 ⟨⟨r,rfl,hr⟩,dh⟩;have h2:=h1.o0 dh;have er:=h.fo.UC hr hn ho;have RV:=hr.aej (by simp) fun i hi=>by
  simp only[aR,bf,bU]at hi;rcases hi with rfl | rfl
  ·exact hn
  ·exact ho
 obtain⟨m,e,t1,_⟩:=RV;obtain⟨k,_,x,hx,_⟩:=t1 n (by simp);obtain⟨ad,a1,a2,_⟩:=jL h2.sp hx;subst e;refine⟨_,rfl,s,fun _=>Blk.dZ h2.lo.blk 1 rfl,ad,fun _=>a1,x.k,fun _=>a2.dZ 0 _ rfl,?_,k2.cz dh⟩;unfold Dz;rw[<-er,fP hx];congr 1;rw[bT];simp
theorem Yw{k0 k4:Nat}(h:Lx w b m0 m1 F s xs vn f){n o:Int}(hn:pj xs n)(ho:pj xs o)(h0:aH w k0 151 [ai (some ⟨b,0,none⟩)])(h4:aH w k4 3 [O ae n]):
  aB au 166 #[O ae o,ai (some ⟨k0,0,none⟩),ai (some ⟨k4,0,none⟩)] w fun r w'=>r=aq (ao (!Dz xs n o))/\aA [] w w':=by
 refine ret (ajv _ _ _ _ _ ?_);refine⟨_,h0.cells 0 [_] fun j v hj=>(by rw[bM];exact hj),_,h4.cells 0 [_] fun j v hj=>(by rw[bM];exact hj),(Qh h hn ho).mono ?_⟩;rintro _ w1 ⟨rfl,hO⟩;exact⟨_,rfl,rfl,hO⟩
theorem Yx{k0 k4:Nat}(h:Lx w b m0 m1 F s xs vn f){n:Int}(hn:pj xs n){sN:Sl}{ns:List Int}(hN:aD rInt 1 w G sN ns)(WR:∀o,o∈ns->pj xs o)(h0:aH w k0 151 [ai (some ⟨b,0,none⟩)])(h4:aH w k4 3 [O ae n]):
  aB au 58 #[sN.v,.func (.func 166) #[] #[ai (some ⟨k0,0,none⟩),ai (some ⟨k4,0,none⟩)]] w fun r w'=>r=aq (ao (ns.any fun o=>!Dz xs n o))/\aA [] w w':=by
 refine ret (O3 sN ⟨.func (.func 166) #[] #[ai (some ⟨k0,0,none⟩),ai (some ⟨k4,0,none⟩)],rfl⟩ (fun v w'=>v=ao (ns.any fun o=>!Dz xs n o)/\aA [] w w') w ?_);refine(O4 sN ⟨.func (.func 166) #[] #[ai (some ⟨k0,0,none⟩),ai (some ⟨k4,0,none⟩)],rfl⟩ (fun v w'=>(∃i:Int,v=O ae i/\decide (i>=0)=ns.any fun o=>!Dz xs n o)/\aA [] w w') w ?_).mono (by
  rintro _ w' ⟨v,rfl,⟨i,rfl,hi⟩,hO⟩;exact⟨i,rfl,by rw[hi],hO⟩)
 have hl:=hN.len;have NX:=hN.cap;have Av:=hN.big;refine⟨fun kv i u=>∃j:Nat,i=(j:Int)/\kv+j=ns.length/\j<=ns.length/\((ns.take j).any fun o=>!Dz xs n o)=false/\aA [] w u,ns.length,⟨0,rfl,by omega,bA _,rfl,Only.refl _ _⟩,?_⟩;rintro kv _ u ⟨j,rfl,tX,hj,hh,hO⟩;refine⟨fun hc=>?_,fun hc=>?_⟩
 ·have hc:=aP hc;obtain⟨ad,y,cs,g1,g2,g3,g4,g5,g6⟩:=(SliceF.only bN (by decide) hN hO (by simp)).get (bE j) (by omega);rw[aX]at g2;obtain⟨rfl,hy⟩:=g6;have hym:=bD g2;refine⟨ad,g1,y,g5,166,[],[ai (some ⟨k0,0,none⟩),ai (some ⟨k4,0,none⟩)],rfl,fF (by kernel_rfl),(Yw (h.o0 hO) hn (WR y hym) (hO.blk h0 (by simp)) (hO.blk h4 (by simp))).mono ?_⟩;rintro _ u1 ⟨rfl,cF⟩;refine⟨_,rfl,fun hb=>⟨⟨j,rfl,?_⟩,hO.cz cF⟩,fun hb=>⟨kv-1,by omega,j+1,by rw[gD (by omega) (by omega)];rfl,by omega,by omega,?_,hO.cz cF⟩⟩
  ·rw[bK (by omega:(j:Int)>=0)];exact(fy.2 ⟨y,hym,hb⟩).symm
  ·rw[bI,g2,Sc,hh];simpa using hb
 ·have hc:=aW hc;rw[bC (by omega)]at hh;exact⟨⟨-1,rfl,by rw[hh];rfl⟩,hO⟩
theorem Ud(hF:Fo xs){n:aJ}(h:¬gj xs n<1):pj xs (AI xs n):=by
 rcases mr xs n with⟨e,_⟩ | ⟨j,x,e,hx,_⟩
 ·omega
 ·have hl:=eZ hx;unfold AI;rw[e,fP hx,kQ hx];split
  ·obtain⟨p,_,h1,h2,_⟩:=hF.par hx (by omega);exact⟨by omega,by omega⟩
  ·exact⟨by omega,by omega⟩
theorem dz.kp{B:Nat}{w w':ay}{s:Sl}{l:List Int}(h:dz B w s l)(hO:aA [] w w'):dz B w' s l:=Own.keep bN h fun k _ bX=>hO.block k bX (by simp)
theorem adX(w0:ay){u:ay}{s:Sl}{is:List Int}(h:dz w0.heap.size u s is)(hO:aA [] w0 u)(n:Int)(hn:ry n)(hm:is.length<=20000000):
  ∃y w1,(aw 32 1 #[.mk 0 (O ae n)]).run au u=.ok (Sl.v y) w1/\aA [] u w1/\∃s' w2,(Builtin.append_ #[32,32] 32 #[Sl.v s,Sl.v y]).run au w1=.ok (Sl.v s') w2/\dz w0.heap.size w2 s' (is++[n])/\aA [] w0 w2/\w1.heap.size<=w2.heap.size/\
   (∀k,k<u.heap.size->s.a≠some ⟨k,0,none⟩->w2.heap[k]? =w1.heap[k]?)/\∀k,k<u.heap.size->s.a≠some ⟨k,0,none⟩->s'.a≠some ⟨k,0,none⟩:=by
 obtain⟨y,w1,k1,k3,s',w2,g1,g2,⟨gs,g3,g4⟩,g5⟩:=jj (P:=au) (t:=32) (ty:=32) (e:=3) (i:=Tryz.t3) (bytes:=8) (size:=1) (r:=rInt) (G:=fun _=>False) (v:=O ae n) (x:=n) (by kernel_rfl) (by kernel_rfl) rfl rfl rfl rfl (by decide) (by decide) (by decide) bN h hO.size rfl ⟨rfl,hn⟩ (fun _ h=>h.elim) (by omega);have z3:=k3.size;refine⟨y,w1,k1,k3,s',w2,g1,dz.of g2,((hO.cz k3).pd (g3.p (F:=fun k=>w0.heap.size<=k) fun g hg=>.inl (g4 g hg).2.1)).only fun k hk=>hk,g3.size,fun k hk hs=>g3.block k (by omega) fun hg=>hs (g4 k hg).1,fun k hk hs e=>?_⟩;rcases g5 with e' | ⟨g,e',h⟩
 ·exact hs (by rw[<-e',e])
 ·rw[e']at e;injection e with e;injection e with e;omega
theorem Gb(l:List Int)(n:aJ)(r:List (aJ)):Nw xs l (n::r)=if gj xs n<1 then false else if(l.any fun o=>!Dz xs (AI xs n) o)=true then false else Nw xs (l++[AI xs n]) r:=rfl
theorem Ib(h:Lx w b m0 m1 F s xs vn f){sT:Sl}{tg:List (aJ)}(hT:aD kz 1 w G sT tg)(hm:tg.length<=20000000):aB au 127 #[ai (some ⟨b,0,none⟩),sT.v] w fun r w'=>r=aq (ao (Nw xs [] tg))/\aA [] w w':=by
 refine ret (aju _ _ _ _ ?_);intro k0 w0 gU fi cK;have z0:=cK.size;have Ck:=h.lo.lt;have SI:=hT.len;refine⟨fun kv l i q u=>∃(j:Nat) (al:List Int),i=(j:Int)/\kv+j=tg.length/\j<=tg.length/\q=some ⟨b,0,none⟩/\dz w.heap.size u l al/\(∀o,o∈al->pj xs o)/\al.length<=j/\Nw xs [] tg=Nw xs al (tg.drop j)/\aA [] w u/\w0.heap.size<=u.heap.size/\l.a≠some ⟨k0,0,none⟩,tg.length,
  ⟨0,[],rfl,rfl,bA _,rfl,Own.nil _ _ _ _ _ _,by simp,aY _,rfl,cK,aY _,by intro e;cases e⟩,?_⟩
 rintro kv l _ _ w1 ⟨j,al,rfl,tX,hj,rfl,hS,SJ,jw,rq,cF,z1,hl0⟩;refine⟨fun hc=>?_,fun hc=>?_⟩
 ·have hc:=aP hc;obtain⟨ad,y,cs,g1,g2,g3,g4,g5,g6⟩:=(SliceF.only dD (by decide) hT cF (by simp)).get (bE j) (by omega);rw[aX]at g2;have g6:cs=[ah (T y)]:=g6;subst g6;have h1:=h.o0 cF;have hdr:tg.drop j=y::tg.drop (j+1):=by
   obtain⟨bX,e⟩:=aZ.1 g2;rw[<-e,List.getElem_cons_drop]
  rw[hdr,Gb]at rq;refine⟨ad,g1,_,g5,_,rfl,_,Blk.dZ h1.lo.blk 0 rfl,(DH h1 y).mono ?_⟩;rintro _ w2 ⟨rfl,hu⟩;obtain rfl:w1=w2:=hu.symm;refine⟨_,rfl,ci.refl _ _,fun hb k3 w3 _ _ dx=>⟨?_,cF.cz dx⟩,fun hb k4 w4 yy A7 dP=>?_⟩
  ·have hb:=aP hb;rw[rq,if_pos hb]
  have hb:=aW hb;rw[if_neg hb]at rq;have xW:=Ud h.fo hb;have z4:=dP.size;have o4:=cF.cz dP;have LQ:dz w.heap.size w4 l al:=hS.kp dP;have hl4:l.a≠some ⟨k4,0,none⟩:=fun e=>by have:=(hS.blk e).2;dsimp only at this;omega
  refine⟨fun q i u=>q=some ⟨b,0,none⟩/\i=AI xs y/\aA [] w u/\dz w.heap.size u l al/\w4.heap.size<=u.heap.size,?_,_,rfl,fun w9 gv=>?_⟩
  ·rintro _ _ w5 ⟨rfl,rfl,o5,LR,z5⟩ tU vG;have h5:=h.o0 o5;refine(Yx h5 xW (LR.slice bN) SJ tU vG).mono ?_;rintro _ w6 ⟨rfl,ez⟩;have z6:=ez.size;have o6:=o5.cz ez;refine⟨_,rfl,_,ez.blk tU (by simp),_,ez.blk vG (by simp),fun ha=>⟨?_,o6⟩,fun ha=>?_⟩
   ·rw[rq,if_pos ha]
   rw[if_neg (by rw[ha];decide)]at rq;have hS6:dz w.heap.size w6 l al:=LR.kp ez;obtain⟨y1,w7,p1,p3,s',w8,q1,q2,q3,z8,q4,q5⟩:=adX w hS6 o6 (AI xs y) (Ia xW h.ln) (by omega);have z7:=p3.size;refine⟨y1,w7,p1,p3.same (by simp;omega),s',w8,q1,fun k hk=>?_,kv-1,by omega,j+1,al++[AI xs y],by rw[gD (by omega) (by omega)];rfl,by omega,by omega,rfl,q2,fun o ho=>?_,by rw[aU,bP];omega,rq,q3,by omega,q5 k0 (by omega) hl0⟩
   ·simp only[aR,bf,bU]at hk;rcases hk with rfl | rfl
    ·exact q4 _ (by omega) hl0
    ·exact q4 _ (by omega) hl4
   ·rcases ch.1 ho with ho | ho
    ·exact SJ o ho
    ·simp only[aO]at ho;subst ho;exact xW
  ·have z9:=gv.size;have o9:=o4.cz gv;have h9:=h.o0 o9;obtain⟨e,_⟩ | ⟨jx,x,e,hx,_⟩:=mr xs y
   ·omega
   obtain⟨wQ,b1,b2,b3,_⟩:=jL h9.sp hx;rw[e]at hb⊢;refine⟨_,Blk.dZ h9.lo.blk 1 rfl,wQ,b1,x.k,b2.dZ 0 _ rfl,(yp w9 x.k).mono ?_⟩;rintro _ dI ⟨rfl,hu⟩;obtain rfl:w9=dI:=hu.symm;refine⟨_,rfl,ci.refl _ _,fun hh=>⟨_,rfl,fun dJ dT=>?_⟩,fun hh=>⟨rfl,?_,o9,LQ.kp gv,by omega⟩⟩
   ·have Co:=dT.size;have o11:=o9.cz dT;have AB:=h.o0 o11;obtain⟨ad3,c1,_,c3,_⟩:=jL AB.sp hx;refine⟨_,Blk.dZ AB.lo.blk 1 rfl,ad3,c1,x.pa,c3,fun fg fj=>⟨rfl,?_,o11.trans fj fun k hk=>.inr (by simp only[aO]at hk;omega),?_,by have:=fj.size;omega⟩⟩
    ·unfold AI;rw[e,fP hx,kQ hx,if_pos hh]
    ·refine Own.keep bN ((LQ.kp gv).kp dT) fun k hk bX=>fj.block k bX ?_;simp only[aO];rintro rfl;exact hk.elim (fun h=>h) fun h=>hl4 h.2
   ·unfold AI;rw[e,fP hx,if_neg (by rw[hh];decide)]
 ·have hc:=aW hc;have qo:j=tg.length:=by omega
  subst qo;rw[j5 (aY _)]at rq;exact⟨by rw[rq];rfl,cF⟩
end
section
variable {w w':ay} {b m0 m1:Nat} {F G:aL} {s:Sl} {xs:List cM} {vn:List (aJ)} {f g:Ft}
theorem Gc{l:List Nd}{j:Nat}{y:Nd}(h:l[j]? =some y):Hc (l.take (j+1))=Hc (l.take j)+if fL y.b.k=true then 0 else 1:=by
 unfold Hc;rw[bI,h,fm,aU];simp only[Option.toList,qs,eG];cases fL y.b.k<;>simp
theorem Yy(l:List Nd):Hc l<=l.length:=cQ _ _
theorem Qi{D:Nat}{bb:Nb}{ks:List Nd}{cs:aK}(hx:oY false (D+1) w G (.mk bb ks) cs)(hG:∀k,G k->k≠b)(h:Lx w b m0 m1 F s xs vn f){n:Nat}(hn:n<xs.length):
  aB au 124 #[ai (some ⟨b,0,none⟩),aj cs.toArray,O ae (n:Int)] w fun r w'=>r=aq (ak #[])/\Lx w' b m0 m1 F s xs vn (oZ f (xh xs bb ks n))/\aA [b] w w':=by
 obtain⟨en,lv,mv,kids,pe,_,gU⟩:=hx;have hk:=gU.1;clear gU;dsimp only[Nd.kids,Nd.b]at hk pe;subst pe;refine ret (ajo _ _ _ _ _ _ _ _ _ _ _ _ _ ?_);intro k0 w0 gU fi cK;have z0:=cK.size;have Ck:=h.lo.lt;have NS:=hk.len;have at6:=hk.cap;have at7:=hk.big;have RY:k0≠b:=by omega
 refine⟨fun kv c bg i u=>∃j:Nat,i=(j:Int)/\kv+j=ks.length/\j<=ks.length/\c=(Hc (ks.take j):Nat)/\bg=DB bb.ini (ks.take j)/\aA [] w u/\w0.heap.size<=u.heap.size,ks.length,⟨0,rfl,by omega,bA _,rfl,rfl,cK,aY _⟩,?_⟩;rintro kv _ _ _ w1 ⟨j,rfl,tX,hj,rfl,rfl,cF,z1⟩;refine⟨fun hc=>?_,fun hc=>?_⟩
 ·have hc:=aP hc;obtain⟨ad,y,ds,a1,a2,a3,a4,a5,a6⟩:=(SliceF.only (cN false D) (by decide) hk cF (by simp)).get (bE j) (by omega);rw[aX]at a2;obtain⟨D',rfl⟩:∃D',D=D'+1:=by
   cases D with
   | zero=>exact a6.elim
   | succ D'=>exact⟨D',rfl⟩
  obtain⟨xT,xU,tq,li,rfl,_⟩:=a6;have nA:=Yy (ks.take j);have rA:(ks.take j).length<=j:=by rw[dd];omega
  refine⟨ad,a1,_,_,_,_,xT,xU,tq,li,_,a5,fun k3 w2 yx wN dh=>?_⟩;have z2:=dh.size;refine⟨fun c u=>c=(Hc (ks.take (j+1)):Nat)/\aA [] w2 u,?_,(yp w2 y.b.k).mono ?_⟩
  ·rintro _ w3 ⟨rfl,dx⟩;have z3:=dx.size;refine⟨kv-1,by omega,j+1,by rw[gD (by omega) (by omega)];rfl,by omega,by omega,rfl,?_,(cF.cz dh).cz dx,by omega⟩;unfold DB;rw[bI,a2,Sc,mf];simp
  ·rintro _ w4 ⟨rfl,hu⟩;obtain rfl:w2=w4:=hu.symm;refine⟨_,rfl,ci.refl _ _,fun hh=>⟨?_,Only.refl _ _⟩,fun hh=>⟨?_,Only.refl _ _⟩⟩
   ·rw[gD (by omega) (by omega),Gc a2,if_neg (by intro e;rw[e]at hh;cases hh)];rfl
   ·rw[Gc a2,if_pos (by simpa using hh)];rfl
 ·have hc:=aW hc;have qo:j=ks.length:=by omega
  subst qo;rw[bC (aY _)];have h1:=h.o0 cF;have q0:∀u:aJ,((T u).toList==(ar #[]).toList)=decide (u=[]):=fun u=>mf u [];refine(yp w1 bb.k).mono ?_;rintro _ w5 ⟨rfl,hu⟩;obtain rfl:w1=w5:=hu.symm;refine⟨_,rfl,ci.refl _ _,fun hh w6 ez=>?_,fun hh=>⟨fun hp=>?_,fun hp=>⟨fun hs=>?_,fun hs=>?_⟩⟩⟩
  ·have z6:=ez.size;have o6:=cF.cz ez;have h6:=h.o0 o6;have W5:xh xs bb ks n=bad (Ya xs bb.dft&&kB xs (gj xs bb.dft) (FT xs n)) 26 bb.a:=by unfold xh;rw[if_pos hh]
   refine⟨_,Blk.dZ h6.lo.blk 0 rfl,(DH h6 bb.dft).mono ?_⟩;rintro _ w7 ⟨rfl,hu⟩;obtain rfl:w6=w7:=hu.symm;refine⟨_,rfl,ci.refl _ _,fun u=>Lx u b m0 m1 F s xs vn (oZ f (xh xs bb ks n))/\aA [b] w u,fun u h=>⟨rfl,h.1,h.2⟩,fun w9 gv=>?_⟩;have z9:=gv.size;have o9:=o6.cz gv;have h9:=h.o0 o9;refine⟨fun k=>k=k0,rfl,(F9 h9 (by rcases zV xs bb.dft with h | ⟨j,h,hl⟩<;>omega)).mono ?_⟩;rintro _ dI ⟨rfl,hu⟩;obtain rfl:w9=dI:=hu.symm;obtain⟨x,hx⟩:=fO hn;obtain⟨ad,a1,a2,a3,_⟩:=jL h9.sp hx;refine⟨_,rfl,ci.refl _ _,bS.refl _ _,fun hb=>⟨s,Blk.dZ h9.lo.blk 1 rfl,s,Blk.dZ h9.lo.blk 1 rfl,ad,a1,x.pa,a3,(wl h9.sp h9.fo (gj xs bb.dft) x.pa).mono ?_⟩,fun hb=>(kR h9 false 26 bb.a).mono ?_⟩
   ·rintro _ dJ ⟨rfl,hu⟩;obtain rfl:w9=dJ:=hu.symm;refine⟨_,rfl,ci.refl _ _,bS.refl _ _,(kR h9 _ 26 bb.a).mono ?_⟩;rintro _ fg ⟨rfl,AD,fj⟩;refine⟨rfl,fj.same (by simp;omega),DI fj RY,?_,rZ (xL o9) fj⟩;have e1:H7 xs (gj xs bb.dft) x.pa=kB xs (gj xs bb.dft) x.pa:=by rw[bT,vj,nT]
    rw[W5,kQ hx,<-e1,show Ya xs bb.dft=true from hb,cY];exact AD
   ·rintro _ fC ⟨rfl,tj,eS⟩;refine⟨rfl,eS.same (by simp;omega),DI eS RY,?_,rZ (xL o9) eS⟩;rw[W5,show Ya xs bb.dft=false from hb,eu];exact tj
  ·have hp:bb.k=2:=by simpa using hp
   have W5:xh xs bb ks n=bad (decide (bb.ini=[])&&decide (1<Hc ks)) 25 bb.a:=by unfold xh;rw[if_neg (by rw[hh];decide),if_pos hp]
   rw[q0,show decide ((Hc ks:Int)>1)=decide (1<Hc ks)from fS.2 (by omega)];refine(kR h1 _ 25 bb.a).mono ?_;rintro _ fT ⟨rfl,h14,dU⟩;exact⟨rfl,dU.same (by simp;omega),rfl,by rw[W5];exact h14,rZ (xL cF) dU⟩
  ·have hp:bb.k≠2:=by simpa using hp
   have hs:=aP hs;have W5:xh xs bb ks n=bad (DB bb.ini ks) 25 bb.a:=by unfold xh;rw[if_neg (by rw[hh];decide),if_neg hp,if_pos (by omega)]
   refine(kR h1 _ 25 bb.a).mono ?_;rintro _ fT ⟨rfl,h14,dU⟩;exact⟨rfl,dU.same (by simp;omega),rfl,by rw[W5];exact h14,rZ (xL cF) dU⟩
  ·have hp:bb.k≠2:=by simpa using hp
   have hs:=aW hs;have W5:xh xs bb ks n=bad (decide (bb.ini=[])) 25 bb.a++bad (decide (ks.length=0)) 26 bb.a:=by unfold xh;rw[if_neg (by rw[hh];decide),if_neg hp,if_neg (by omega)]
   rw[q0];refine(kR h1 _ 25 bb.a).mono ?_;rintro _ iX ⟨rfl,h16,ig⟩;have z16:=ig.size;have e0:((kids.n:Int)==0)=decide (ks.length=0):=by rw[NS,bT];simp
   rw[e0];refine⟨rfl,ig.same (by simp;omega),(kR h16 _ 26 bb.a).mono ?_⟩;rintro _ fR ⟨rfl,NT,iY⟩;exact⟨rfl,iY.same (by simp;omega),rfl,by rw[W5,jk];exact NT,rZ (rZ (xL cF) ig) iY⟩
theorem adY(u:ay)(l:Sl):∃y w1,(aw 237 1 #[.mk 0 l.v]).run au u=.ok (Sl.v y) w1/\aA [] u w1/\aD Ga 1 w1 (fun _=>True) y [l]:=by
 obtain⟨y,w1,k1,k2,k3,_⟩:=kx (P:=au) (t:=237) (e:=23) (i:=Tryz.t23) (z:=Sl.nil.v) (w:=u) (F:=fun _=>False) (vs:=[l.v]) (parts:=#[.mk 0 l.v]) (len:=1) (xs:=[l]) (r:=Ga) (size:=1) (by kernel_rfl) (by kernel_rfl) rfl rfl (by decide) rfl rfl (by decide) (by decide) qL ⟨⟨rfl,rfl⟩,trivial⟩;exact⟨y,w1,k1,k3,(k2.slice qL).mono qL fun _ _=>trivial⟩
theorem adZ(u:ay)(l m:Sl):∃y w1,(aw 237 2 #[.mk 0 l.v,.mk 1 m.v]).run au u=.ok (Sl.v y) w1/\aA [] u w1/\aD Ga 1 w1 (fun _=>True) y [l,m]:=by
 obtain⟨y,w1,k1,k2,k3,_⟩:=kx (P:=au) (t:=237) (e:=23) (i:=Tryz.t23) (z:=Sl.nil.v) (w:=u) (F:=fun _=>False) (vs:=[l.v,m.v]) (parts:=#[.mk 0 l.v,.mk 1 m.v]) (len:=2) (xs:=[l,m]) (r:=Ga) (size:=1) (by kernel_rfl) (by kernel_rfl) rfl rfl (by decide) rfl rfl (by decide) (by decide) qL ⟨⟨rfl,rfl⟩,⟨rfl,rfl⟩,trivial⟩;exact⟨y,w1,k1,k3,(k2.slice qL).mono qL fun _ _=>trivial⟩
theorem Qj:∀(D:Nat) {w:ay} {x:Nd} {cs:aK} {f:Ft} {n:Nat},oY false D w G x cs->(∀k,G k->k≠b)->Lx w b m0 m1 F s xs vn f->n+iO x<=xs.length->pc x<=8388608->
  aB au 85 #[ai (some ⟨b,0,none⟩),aj cs.toArray,O ae (n:Int)] w fun r w'=>r=aq (O ae ((n+iO x:Nat):Int))/\Lx w' b m0 m1 F s xs vn (oZ f (Nx xs vn n x))/\aA [b] w w'
 | 0,_,_,_,_,_,h,_,_,_,_=>h.elim
 | D+1,w,.mk bb ks,cs,f,n,hx,hG,h,hn,hz=>by
  have hx0:=hx;obtain⟨en,lv,mv,kids,pe,⟨Eg,G4,rB⟩,gU⟩:=hx;have hk:=gU.1;have Eg:=Eg.1;have G4:=G4.1;have rB:=rB.1;clear gU;dsimp only[Nd.kids,Nd.b]at hk pe Eg G4 rB;subst pe;rw[iO]at hn;rw[pc]at hz;have UM:=hz;unfold F6 at UM;have hl1:=nU bb.en;have Rm:=nU bb.lv;have NS:=hk.len;have Cs:=rB.len;have NZ:=h.ln;have at8:=rB.cap;have at9:=rB.big;have aua:=rV ks;refine ret (ajn _ _ _ _ _ _ _ _ _ _ _ _ _ ?_);intro k0 w0 gU fi cK;have z0:=cK.size;have Ck:=h.lo.lt;have RY:k0≠b:=by omega
  have tr:∀{u v:ay},aA [b] w u->aA [b] u v->aA [b] w v:=fun h g=>rZ h g;refine(Qi ((cN false (D+1)).keep hx0 fun k hk bX=>cK.block k bX (by simp)) hG (h.o0 cK) (n:=n) (by omega)).mono ?_;rintro _ w1 ⟨rfl,h1,cF⟩;have z1:=cF.size;have o1:=tr (xL cK) cF;obtain⟨y,w2,p1,p2,p3⟩:=adZ w1 en lv;have z2:=p2.size;have o2:=o1.cz p2;have row:∀{u:ay} {sl:Sl} {l:List Ac},aD (tN false) 9 w G sl l->aA [b] w u->aD (tN false) 9 u G sl l:=fun hs hO=>SliceF.only (dN false) (by decide) hs hO fun k hk _ hm=>hG k hk (by simpa using hm);refine⟨rfl,cF.same (by simp;omega),y,w2,p1,p2.same (by simp;omega),(KV (l:=[(en,bb.en),(lv,bb.lv)]) p3 (fun p hp=>?_) ?_ hG (h1.o0 p2)).mono ?_⟩
  ·simp only[aR,bf,bU]at hp;rcases hp with rfl | rfl
   ·exact row Eg o2
   ·exact row G4 o2
  ·unfold lJ;simp only[uA,Nr,aU,bR];omega
  rintro _ w3 ⟨rfl,h3,dx⟩;have z3:=dx.size;have o3:=tr o2 dx;have aaJ:lJ [(en,bb.en),(lv,bb.lv)]=bb.en++bb.lv:=by unfold lJ;simp
  rw[aaJ]at h3;refine⟨rfl,dx.same (by simp;omega),fun kv i u=>∃j:Nat,i=(j:Int)/\kv+j=bb.mv.length/\j<=bb.mv.length/\Lx u b m0 m1 F s xs vn (oZ f (xh xs bb ks n++(tA xs vn (bb.en++bb.lv)++(bb.mv.take j).flatMap (FW xs vn))))/\aA [b] w u/\w0.heap.size<=u.heap.size,bb.mv.length,
   ⟨0,rfl,by omega,bA _,by rw[dr,Nr,bR,jk];exact h3,o3,by omega⟩,?_⟩
  rintro kv _ w4 ⟨j,rfl,tX,hj,h4,o4,z4⟩;refine⟨fun hc=>?_,fun hc=>?_⟩
  ·have hc:=aP hc;obtain⟨ad,m,ds,a1,a2,a3,a4,a5,a6⟩:=(SliceF.only (mE false) (by decide) rB o4 fun k hk _ hm=>hG k hk (by simpa using hm)).get (bE j) (by omega);rw[aX]at a2;obtain⟨gc,tG,tg,rfl,hgx,RL,rq⟩:=a6;obtain⟨gs,rfl⟩:=iW hgx;have RL:=RL.1;have rq:=rq.1;have hmz:=ve (bD a2);unfold MD at hmz;have SJ:=nU m.acts;have yw:=DF m.tg;have U2:=h4.lo.lt;refine⟨ad,a1,_,_,_,_,_,_,_,_,gs,_,tG,tg,_,a5,fun k3 w5 yx wN eE=>?_⟩;have z5:=eE.size;have h5:=h4.o0 eE;have amZ:k3≠b:=by omega
   refine(kR h5 (adL m) 28 m.a).mono ?_;rintro _ w6 ⟨rfl,h6,ez⟩;have z6:=ez.size;obtain⟨d,hxd⟩:=hgx;refine⟨rfl,ez.same (by simp;omega),(DJ d ((kl false d).keep hxd fun k hk bX=>?_) hG h6).mono ?_⟩
   ·exact(ez.block k (by omega) (by simpa using hG k hk)).trans (eE.block k bX (by simp))
   rintro _ w7 ⟨rfl,h7,fI⟩;have z7:=fI.size;obtain⟨y8,w8,q1,q2,q3⟩:=adY w7 tG;have z8:=q2.size;have s7:aA [b] w5 w7:=rZ ez fI;have s8:aA [b] w4 w8:=(rZ (xL eE) s7).cz q2;refine⟨rfl,fI.same (by simp;omega),y8,w8,q1,q2.same (by simp;omega),(KV (l:=[(tG,m.acts)]) q3 (fun p hp=>?_) ?_ hG (h7.o0 q2)).mono ?_⟩
   ·simp only[aO]at hp;subst hp;exact SliceF.only (dN false) (by decide) RL s8 fun k hk _ hm=>hG k hk (by simpa using hm)
   ·unfold lJ;simp only[uA,Nr,bR];omega
   rintro _ w9 ⟨rfl,h9,gv⟩;have z9:=gv.size;have aaJ:lJ [(tG,m.acts)]=m.acts:=by unfold lJ;simp
   rw[aaJ]at h9;refine⟨rfl,gv.same (by simp;omega),fun dI eH=>⟨fun k=>k=k3,rfl,?_⟩⟩;have NP:=eH.size;have M8:aA [b] w4 dI:=(rZ s8 gv).cz eH;refine(Ib (h9.o0 eH) (SliceF.only dD (by decide) rq M8 fun k hk _ hm=>hG k hk (by simpa using hm)) (by omega)).mono ?_;rintro _ dJ ⟨rfl,dT⟩;have Co:=dT.size;refine⟨_,rfl,dT.same (by simp;omega),bS.only dT,(kR ((h9.o0 eH).o0 dT) _ 27 m.a).mono ?_⟩;rintro _ fg ⟨rfl,AD,fj⟩;have z12:=fj.size;refine⟨rfl,fj.same (by simp;omega),DI fj amZ,kv-1,by omega,j+1,by rw[gD (by omega) (by omega)];rfl,by omega,by omega,?_,tr o4 (rZ (M8.cz dT) fj),by omega⟩;have e1:(bb.mv.take (j+1)).flatMap (FW xs vn)=(bb.mv.take j).flatMap (FW xs vn)++FW xs vn m:=by
    rw[bI,a2,jB];simp
   have e2:xh xs bb ks n++(tA xs vn (bb.en++bb.lv)++((bb.mv.take j).flatMap (FW xs vn)++FW xs vn m))=(xh xs bb ks n++(tA xs vn (bb.en++bb.lv)++(bb.mv.take j).flatMap (FW xs vn)))++FW xs vn m:=by simp only[bQ]
   rw[e1,e2,jk,FW,jk,jk,jk];exact AD
  ·have hc:=aW hc;have qo:j=bb.mv.length:=by omega
   subst qo;rw[bC (aY _)]at h4;refine⟨fun kv a i u=>∃j:Nat,i=(j:Int)/\kv+j=ks.length/\j<=ks.length/\a=((n+1+eV (ks.take j):Nat):Int)/\Lx u b m0 m1 F s xs vn (oZ f (xh xs bb ks n++(tA xs vn (bb.en++bb.lv)++(bb.mv.flatMap (FW xs vn)++qJ xs vn (n+1) (ks.take j)))))/\aA [b] w u/\w0.heap.size<=u.heap.size,ks.length,
    ⟨0,rfl,by omega,bA _,by rw[gD (by omega) (by omega)];rfl,by rw[dr,qJ,bR];exact h4,o4,z4⟩,?_⟩
   rintro kv _ _ fC ⟨j,rfl,tX,hj,rfl,tj,o13,SE⟩;refine⟨fun hc=>?_,fun hc=>?_⟩
   ·have hc:=aP hc;obtain⟨ad,y,ds,a1,a2,a3,a4,a5,a6⟩:=(SliceF.only (cN false D) (by decide) hk o13 fun k hk _ hm=>hG k hk (by simpa using hm)).get (bE j) (by omega);rw[aX]at a2;have Vg:=a6;obtain⟨D',rfl⟩:∃D',D=D'+1:=by
     cases D with
     | zero=>exact a6.elim
     | succ D'=>exact⟨D',rfl⟩
    obtain⟨xT,xU,tq,li,rfl,_⟩:=Vg;have ma:=pV a2;have hzy:=pX (bD a2);refine⟨ad,a1,_,_,_,_,xT,xU,tq,li,_,a5,fun k7 fT hk7 af3 dU=>?_⟩;have ZL:=dU.size;have aub:=tj.lo.lt;refine(Qj (D'+1) ((cN false (D'+1)).keep a6 fun k _ bX=>dU.block k bX (by simp)) hG (tj.o0 dU) (n:=n+1+eV (ks.take j)) (by omega) (by omega)).mono ?_;rintro _ iJ ⟨rfl,NU,iu⟩;have z15:=iu.size;have e:ks.take (j+1)=ks.take j++[y]:=by rw[bI,a2];rfl
    refine⟨_,rfl,iu.same (by simp;omega),kv-1,by omega,j+1,by rw[gD (by omega) (by omega)];rfl,by omega,by omega,?_,?_,tr (o13.cz dU) iu,by omega⟩
    ·have:eV (ks.take (j+1))=eV (ks.take j)+iO y:=by rw[e,zI,eV,eV];omega
     omega
    ·have e2:xh xs bb ks n++(tA xs vn (bb.en++bb.lv)++(bb.mv.flatMap (FW xs vn)++(qJ xs vn (n+1) (ks.take j)++Nx xs vn (n+1+eV (ks.take j)) y)))=(xh xs bb ks n++(tA xs vn (bb.en++bb.lv)++(bb.mv.flatMap (FW xs vn)++qJ xs vn (n+1) (ks.take j))))++Nx xs vn (n+1+eV (ks.take j)) y:=by simp only[bQ]
     rw[e,FX,qJ,qJ,bR,e2,jk];exact NU
   ·have hc:=aW hc;have qo:j=ks.length:=by omega
    subst qo;rw[bC (aY _)]at tj⊢;refine⟨?_,by rw[Nx];exact tj,o13⟩;rw[iO];congr 2;omega
end
def jl(c:Ch):Ft:=if(gy c).2≠0 then((gy c).2, -1)else oZ (0,0) (BJ c)
theorem Gf{w:ay}{F:aL}{D:Nat}{c:Ch}{vs:Sl}{cs:aK}(hx:ChR false (D+1) w F c vs cs)(hn:U8 c)(hs:rj c.vars+pc c.root<=8388608)(hE:Er w)(hT:Tb w):
  aB au 41 #[aj (vs.v::cs).toArray] w fun e w'=>e=aq (aj #[O ae (jl c).1,O ae (jl c).2])/\aA [] w w':=by
 have hxr:=hx.root;obtain⟨en,lv,mv,kids,pe,_⟩:=hx.root;subst pe;refine ret (ajk _ _ _ _ _ _ _ _ _ _ _ _ ?_);intro k0 k1 w0 gU fi ke jH cK;have z0:=cK.size;have keep:∀{u:ay},aA [] w u->ChR false (D+1) u F c vs (om c.root.b.k c.root.b.nm c.root.b.ini c.root.b.dft en lv mv kids c.root.b.a):=fun hO=>⟨hx.vars.keep gq (by decide) fun k _ bX=>hO.block k bX (by simp),(cN false _).keep hx.root fun k _ bX=>hO.block k bX (by simp)⟩
 refine(Qa (keep cK) hn hs (hE.only cK) (hT.only cK)).mono ?_;rintro _ w1 ⟨⟨t,rfl,ht,_⟩,cF⟩;have z1:=cF.size;have o1:=cK.cz cF;refine⟨_,_,rfl,cF.same (by simp;omega),fun hc w2 dh=>?_,fun hc=>?_⟩
 ·have hc:(gy c).2≠0:=by simpa using hc
  unfold jl;rw[if_pos hc];exact⟨rfl,o1.trans dh fun k hk=>.inr (by simp only[aO]at hk;omega)⟩
 have hc:(gy c).2=0:=by simpa using hc
 have elm:jl c=oZ (0,0) (BJ c):=by unfold jl;rw[if_neg (fun h=>h hc)]
 rw[elm];have ht:=ht hc;have hnd:=wk hc;obtain⟨r3,hM3,dx⟩:=MapV.make (P:=au) (mty:=153) (kv:=kS) (g:=gS) w1;have hl3:=hM3.lt;refine⟨_,_,r3,dx.same (by simp;omega),?_⟩;generalize w1.alloc (.map #[] 0)=w3 at*
 obtain⟨r4,hM4,dP⟩:=MapV.make (P:=au) (mty:=153) (kv:=kS) (g:=gS) w3;have hl4:=hM4.lt;have z3:=dx.size;refine⟨_,_,r4,dP.same (by simp;omega),?_⟩;generalize w3.alloc (.map #[] 0)=w4 at*
 have z4:=dP.size;intro b w5 hb kc eE wL;have z5:=eE.size;have o5:=((o1.cz dx).cz dP).cz eE;have W4:Lo w5 b w1.heap.size w3.heap.size Sl.nil [] [] (0,0):=⟨wL,(((hM3.only dP (by simp)).only eE (by simp)).ext fun k=>rfl).le (aY _),((hM4.only eE (by simp)).ext fun k=>rfl).le (aY _),by omega,by omega⟩
 have hxh:oY false (D+1) w (fun k=>k<w.heap.size) c.root (om c.root.b.k c.root.b.nm c.root.b.ini c.root.b.dft en lv mv kids c.root.b.a):=(cN false _).mono ((cN false _).inHeap hxr) fun k hk=>hk.2;have hvh:aD Sg 3 w (fun k=>k<w.heap.size) vs c.vars:=(hx.vars.1.inHeap gq (by decide)).mono gq fun k hk=>hk.2;refine(Qf (D+1) ((cN false _).keep hxh fun k hk bX=>o5.block k bX (by simp)) (fun k hk=>by omega) W4 (Own.nil _ _ _ _ _ _) (by omega) (by rw[cO];omega)).mono ?_;rintro _ w6 ⟨rfl,s6,Nj,hS6,m6⟩;have z6:=m6.1.size;rw[cr]at Nj;have enm:(HY c.root).map (fun p=>p.1)=(cX c).map fun x:cM=>x.nm:=(PM 0 (-1) 0 c.root).symm;rw[enm]at Nj;have p6:aF (fun k=>w1.heap.size<=k) w w6:=(o5.p0).trans m6.1 fun k hk=>.inl (hk.elim (fun h=>by omega) fun h=>by cases h);have s56:ci [k0,k1] w5 w6:=m6.1.same fun x hx=>by
  simp only[aR,bf,bU]at hx;rcases hx with rfl | rfl
  ·exact⟨by omega,fun h=>h.elim (by omega) fun h=>by cases h⟩
  ·exact⟨by omega,fun h=>h.elim (by omega) fun h=>by cases h⟩
 have hvl:=hvh.len;have hvz:=zU c.vars;refine⟨rfl,s56,_,s6,_,_,_,Nj.blk,fun kv i p l q x y u=>∃(j:Nat) (f:Ft),i=(j:Int)/\kv+j=c.vars.length/\j<=c.vars.length/\p=some w1.heap.size/\q=some w3.heap.size/\f=(x,y)/\Lo u b w1.heap.size w3.heap.size l ((cX c).map fun x:cM=>x.nm) ((Ev c).take j) f/\f=oZ (0,0) (xf [] (HY c.root)++xf [] ((c.vars.take j).map fun v=>(v.n,v.a)))/\aF (fun k=>w1.heap.size<=k) w u/\aF (fun k=>k=b∨k=w3.heap.size) w6 u,c.vars.length,
  ⟨0,_,rfl,by omega,bA _,rfl,rfl,rfl,Nj,by rw[dr,fM,xf,bR],p6,OnlyP.refl _ _⟩,?_⟩
 rintro kv _ _ l2 _ _ _ w7 ⟨j,f,rfl,tX,hj,rfl,rfl,hf,Ei,hfe,p7,p67⟩;have z7:=p67.size;refine⟨fun bX=>?_,fun mz=>?_⟩
 ·have bX:=aP bX;obtain⟨ad,v,ds,a1,a2,a3,a4,a5,a6⟩:=(SliceF.mw gq (by decide) hvh p7 fun k hk _=>by omega).get (bE j) (by omega);rw[aX]at a2;have a6:ds=[ah (T v.n),O ae v.v,O ae v.a]:=a6;subst a6;have xw:=zT (bD a2);have hgv:gS v.n:=by
   show v.n.length<=maxLen;have:maxLen=9223372036854775807:=rfl;omega
  have ja:((Ev c).take j).length=j:=by rw[dd];unfold Ev;rw[bq];omega
  refine⟨ad,a1,_,_,_,a5,fun k5 w8 Cp G3 gn uz=>?_⟩;have z8:=gn.size;have WM:=Ei.lt;have c9:=Qe (Ei.o0 gn) hgv v.a;rw[ja]at c9;refine c9.mono ?_;rintro _ w9 ⟨rfl,hL9,gv⟩;have z9:=gv.size;have ev:(Ev c).take (j+1)=(Ev c).take j++[v.n]:=by
   rw[bI];unfold Ev;rw[bZ,a2];rfl
  refine⟨rfl,gv.same (by simp;omega),_,_,_,_,_,hL9.blk,kv-1,by omega,j+1,_,by rw[gD (by omega) (by omega)];rfl,by omega,by omega,rfl,rfl,rfl,by rw[ev];exact hL9,?_,(p7.cz gn).trans (gv.p (F:=fun k=>w1.heap.size<=k) fun k hk=>.inl (by simp only[aR,bf,bU]at hk;omega)) fun k hk=>.inl hk,(p67.cz gn).trans (gv.p (F:=fun k=>k=b∨k=w3.heap.size) fun k hk=>.inl (by simpa using hk)) fun k hk=>.inl hk⟩;rw[hfe,<-jk];have ed:xf [] ((c.vars.take (j+1)).map fun v=>(v.n,v.a))=xf [] ((c.vars.take j).map fun v=>(v.n,v.a))++bad (!decide (v.n∈(Ev c).take j)) 24 v.a:=by
   rw[bI,a2,da,DA,cr];simp only[Option.toList,bF,fM,xf,bR,iw];unfold Ev;rw[<-mP];rfl
  rw[ed,bQ]
 ·have mz:=aW mz;have qo:j=c.vars.length:=by omega
  subst qo;intro dI eH tE n0 n1;have NP:=eH.size;have hvt:(Ev c).take c.vars.length=Ev c:=bC (by unfold Ev;rw[bq];exact aY _);rw[hvt]at Ei;rw[bC (aY _)]at hfe;have AE:Lo dI b w1.heap.size w3.heap.size t ((cX c).map fun x:cM=>x.nm) (Ev c) f:=Ei.nu eH (by subst hf;exact tE);have ZG:aF (fun k=>w1.heap.size<=k) w dI:=p7.trans (eH.p (F:=fun k=>w1.heap.size<=k) fun k hk=>.inl (by simp only[aO]at hk;omega)) fun k hk=>.inl hk;have xz:aD nq 5 dI (fun k=>k<w1.heap.size) t (cX c):=by
   have h0:=(ht.sl.inHeap db (by decide)).mono db (G:=fun k=>k<w1.heap.size) fun k hk=>hk.2;have q5:aA [] w1 w5:=(dx.cz dP).cz eE;have h1:=SliceF.only db (by decide) h0 q5 (by simp);have h2:=SliceF.mw db (by decide) h1 m6.1 fun k hk _ h=>h.elim (by omega) fun h=>by cases h
   have h3:=SliceF.mw db (by decide) h2 p67 fun k hk _ h=>by omega
   exact SliceF.only db (by decide) h3 eH fun k hk _ hm=>by simp only[aO]at hm;omega
  have hX:Lx dI b w1.heap.size w3.heap.size (fun k=>k<w1.heap.size) t (cX c) (Ev c) f:=⟨AE,xz,Dy c,by unfold cX;rw[lX];exact hnd,fun k hk=>by omega⟩
  refine(Qj (n:=0) (D+1) ((cN false (D+1)).keep hxh fun k hk bX=>ZG.block k bX (by omega)) (fun k hk=>by omega) hX (by unfold cX;rw[lX];omega) (by omega)).mono ?_;rintro _ dJ ⟨rfl,AB,dT⟩;have Co:=dT.size;have hg:oZ f (Nx (cX c) (Ev c) 0 c.root)=oZ (0,0) (BJ c):=by
   rw[hfe,<-jk,bQ];rfl
  rw[hg]at AB;refine⟨_,rfl,dT.same (by simp;omega),_,_,_,_,_,AB.lo.blk,fun fg fj _=>⟨rfl,?_⟩⟩;have p11:aF (fun k=>w.heap.size<=k) w dJ:=(ZG.mono fun k _ hk=>by omega).trans (dT.p (F:=fun k=>w.heap.size<=k) fun k hk=>.inl (by simp only[aO]at hk;omega)) fun k hk=>.inl hk;exact(p11.only fun k hk=>hk).trans fj fun k hk=>.inr (by simp only[aO]at hk;omega)
def mG(l:aJ):Ft:=if(dE l).2.1=0 then jl (dE l).1 else(dE l).2
def wm(l:aJ):Ch:=if(mG l).1=0 then(dE l).1 else ch0
theorem Ue{w:ay}(l:aJ)(hn:U8 (dE l).1)(hs:rj (dE l).1.vars+pc (dE l).1.root<=8388608)(hE:Er w)(hT:Tb w):aB au 37 #[ah (T l)] w fun e w'=>
  ∃(vs:Sl) (cs:aK),e=aq (ak #[aj (vs.v::cs).toArray,aj #[O ae (mG l).1,O ae (mG l).2]])/\ChR true 15 w' (Fr w.heap.size) (wm l) vs cs/\aA [] w w':=by
 refine(ajj (T l) (fun v w'=>∃(vs:Sl) (cs:aK),v=(ak #[aj (vs.v::cs).toArray,aj #[O ae (mG l).1,O ae (mG l).2]])/\ChR true 15 w' (Fr w.heap.size) (wm l) vs cs/\aA [] w w') w ?_).mono (by
  rintro e w' ⟨v,rfl,vs,cs,rfl,h⟩;exact⟨vs,cs,rfl,h⟩)
 intro k0 k1 w0 gU fi ke jH cK;have z0:=cK.size;refine(F0 l (hE.only cK)).mono ?_;rintro _ w1 ⟨vs,cs,rfl,hC,cF⟩;have z1:=cF.size;have o1:=cK.cz cF;obtain⟨xe,xl,xm,xk,rfl,_⟩:=hC.root;refine⟨vs,_,_,_,_,xe,xl,xm,xk,_,_,_,rfl,cF.same (by simp;omega),fun k2 k3 w2 tF wM yx wN dh=>?_⟩;have z2:=dh.size;have o2:=o1.cz dh;have kC:∀{u:ay},aA [] w1 u->ChR true 15 u (Fr w0.heap.size) (dE l).1 vs (om (dE l).1.root.b.k (dE l).1.root.b.nm (dE l).1.root.b.ini (dE l).1.root.b.dft xe xl xm xk (dE l).1.root.b.a):=fun{u} hO=>
  ⟨hC.vars.keep gq (by decide) fun k _ bX=>hO.block k bX (by simp),(cN true 15).keep hC.root fun k _ bX=>hO.block k bX (by simp)⟩
 have fin:∀{u v:ay},aA [] w u->aA [k1,k0] u v->aA [] w v:=fun h1 h2=>h1.trans h2 fun x hx=>.inr (by simp only[aR,bf,bU]at hx;omega);refine⟨fun a b u=>(a,b)=mG l/\aA [] w1 u/\w2.heap.size<=u.heap.size,?_,fun hc=>?_,fun hc=>⟨?_,dh,aY _⟩⟩
 ·rintro a b w3 ⟨he,dx,z3⟩;have e1:(mG l).1=a:=by rw[<-he]
  have e2:(mG l).2=b:=by rw[<-he]
  refine⟨fun hc w4 dP n1 n2 n3 n4 n5 n6=>⟨fun k=>k=k3,rfl,?_,?_,fun w5 eE=>⟨Sl.nil,_,by rw[e1,e2],?_,fin ((o1.cz dx).cz dP) eE⟩⟩,fun hc w6 ez n1 n2 n3 n4 n5 n6=>⟨fun k=>k=k3,rfl,?_,?_,fun w7 fI=>⟨vs,_,by rw[e1,e2],?_,fin ((o1.cz dx).cz ez) fI⟩⟩⟩
  ·exact fun h=>n3 h
  ·exact fun h=>n5 h
  ·have hc:a≠0:=by simpa using hc
   unfold wm;rw[e1,if_neg hc];exact⟨jE.nil _ _ _ _ _ _,PU (by decide) w5 _⟩
  ·exact fun h=>n3 h
  ·exact fun h=>n5 h
  ·have hc:a=0:=by simpa using hc
   unfold wm;rw[e1,if_pos hc];have hC6:=kC (dx.cz ez);have ap:∀k,Fr w0.heap.size k->k∉[k1,k0]:=fun k (hk:w0.heap.size<=k)=>by simp;omega
   have lo:∀k,Fr w0.heap.size k->Fr w.heap.size k:=fun k (hk:w0.heap.size<=k)=>(by omega:w.heap.size<=k)
   exact⟨(hC6.vars.keep gq (by decide) fun k hk bX=>fI.block k bX (ap k hk)).mono gq lo,(cN true 15).mono ((cN true 15).keep hC6.root fun k hk bX=>fI.block k bX (ap k hk)) lo⟩
 ·have hc:(dE l).2.1=0:=by simpa using hc
  refine(Gf (D:=14) (kC dh).off hn hs (hE.only o2) (hT.only o2)).mono ?_;rintro _ w8 ⟨rfl,gn⟩;have z8:=gn.size;refine⟨_,_,rfl,gn.same (by simp;omega),fun w9 gv=>⟨?_,?_,by have:=gv.size;omega⟩⟩
  ·unfold mG;rw[if_pos hc]
  ·exact(dh.cz gn).trans gv fun x hx=>.inr (by simp only[aO]at hx;omega)
 ·have hc:(dE l).2.1≠0:=by simpa using hc
  unfold mG;rw[if_neg hc]
def Yz(l:aJ):Bool:=nCb (dE l).1&&aks (dE l).1
theorem YA{l:aJ}(h:Yz l=true):U8 (dE l).1/\rj (dE l).1.vars+pc (dE l).1.root<=8388608:=by
 unfold Yz at h;rw[aQ]at h;exact⟨akr h.1,aP h.2⟩
end Go.Proofs.YtbkjcdocjfknfaaGreatDoor.Con
