import Derived.Test.YtbkjcdocjfknfaaGreatDoorQp13
set_option linter.unusedSectionVars false
namespace Go.Proofs.YtbkjcdocjfknfaaGreatDoor.Con
open Go.Value renaming int->O,string->ah,pointer->ai,agg->aj,tuple->ak,bool->ao
open Go.IntKind renaming i64->ae,wrap->av
open Go.Ending renaming returned->aq
open _root_.ByteArray renaming mk->ar
open _root_.Go.Proofs.Tryz renaming prog->au
open Go.Instr renaming buildSlice->aw
open Go renaming World->ay,Value->az,Calls->aB
open Go.Kt renaming Only->aA,SliceF->aD,Cells->aE,OnlyP->aF,Blk->aH
open Go Go.RowKit Go.Kt Go.Kt.V Go.Proofs.YtbkjcdocjfknfaaGreatDoor.Vc
set_option linter.unusedSimpArgs false
set_option linter.unusedVariables false
set_option linter.unusedSectionVars false
set_option maxHeartbeats 800000
set_option maxRecDepth 100000
theorem YS{w:ay}{F:aL}{s:Sl}{l:List Int}(h:aD rInt 1 w F s l){i:Nat}{x:Int}(hx:l[i]? =some x):ry x:=by
 have bX:=(aZ.1 hx).1;have hl:=h.len;obtain⟨ad,y,cs,g1,g2,g3,g4,g5,g6⟩:=h.get (bE i) (by omega);rw[aX,hx]at g2;injection g2 with g2;subst g2;exact g6.2
theorem MU{xs:List cM}(sd:Sd xs)(n:Nat):((eP xs n xs.length).filter fun x=>!(fun y=>fL (kd xs y)) x)=cZ xs n:=by
 unfold cZ;refine List.filter_congr fun x hx=>?_;obtain⟨q,t,rfl,_,ht,_⟩:=pZ.1 hx;have hk:=sd.kn q t ht;dsimp only;rw[nX ht];unfold fL AJ;rw[bT];simp;omega
section
variable {w:ay} {b r0 r1:Nat} {s si ph sr:Sl} {F G:aL} {p:Pl} {M:xo} {S:Nat}
theorem Ld(h:WkP w b s si ph sr r0 r1 F G p M S)(sd:Sd p.sp)(hi:p.ini.length=p.sp.length)(xP:p.dft.length=p.sp.length)(hgl:∀(n:Nat) (t:cM),p.sp[n]? =some t->t.k≠2->cZ p.sp n≠[]->∀g,g∈dX p.sp p.dft M ((p.ini[n]?).getD 0)->pj p.sp g):
  aB au 72 #[ai (some ⟨b,0,none⟩)] w fun e w'=>∃t:Sl,e=aq t.v/\dz w.heap.size w' t (gX (lc p.sp (fun n=>dX p.sp p.dft M ((p.ini[n]?).getD 0)) p.sp.length S))/\aA [r1] w w':=by
 refine(ajY ⟨b,0,none⟩ (fun v w'=>∃t:Sl,v=t.v/\dz w.heap.size w' t (gX (lc p.sp (fun n=>dX p.sp p.dft M ((p.ini[n]?).getD 0)) p.sp.length S))/\aA [r1] w w') w ?_).mono (by rintro _ w' ⟨v,rfl,t,rfl,h⟩;exact⟨t,rfl,h⟩);intro k0 w0 gU fi cK;have z0:=cK.size;have h0:=h.o0 cK;have SG:=MapV.lt h.set;have Ck:=h.blk.lt;have ma:=sd.le;have hxn:=h.pl.sp.len;have hxc:=h.pl.sp.cap;have hxb:=h.pl.sp.big;have up1:∀{a u:ay},aA [] a u->aA [r1] a u:=fun hO=>(Only.refl [r1] _).cz hO;generalize Nh:(fun n:Nat=>dX p.sp p.dft M ((p.ini[n]?).getD 0))=gl at*
 have hgj:∀j:Nat,gl j=dX p.sp p.dft M ((p.ini[j]?).getD 0):=fun j=>by rw[<-Nh]
 refine⟨s,Blk.dZ h0.blk 0 rfl,fun kv i q u=>∃j:Nat,i=(j:Int)/\kv+j=p.sp.length/\j<=p.sp.length/\q=some ⟨b,0,none⟩/\iR u r1 (mH (lc p.sp gl j S))/\aA [r1] w0 u,p.sp.length,⟨0,rfl,by omega,bA _,rfl,h0.set,Only.refl _ _⟩,?_⟩;rintro kv _ _ u ⟨j,rfl,tX,hj,rfl,hS,hO⟩;have hW:=h0.step hO hS;have zu:=hO.size;refine⟨fun hc=>?_,fun hc=>?_⟩
 ·have hc:=aP hc;have ja:j<p.sp.length:=by omega
  obtain⟨x,hx⟩:∃x,p.sp[j]? =some x:=⟨_,aV ja⟩
  refine⟨fun q u2=>q=some ⟨b,0,none⟩/\iR u2 r1 (mH (lc p.sp gl (j+1) S))/\aA [r1] w0 u2,?_,?_⟩
  ·rintro _ u2 ⟨rfl,h1,h2⟩;exact⟨kv-1,by omega,j+1,by rw[gD (by omega) (by omega)];rfl,by omega,by omega,rfl,h1,h2⟩
  have hcm:lc p.sp gl (j+1) S=Gy p.sp gl (lc p.sp gl j S) j:=rfl;rw[hcm];generalize lc p.sp gl j S=T at*
  have Vl:kd p.sp (j:Int)=x.k:=nX hx;obtain⟨ad,e1,e2,_⟩:=jL hW.pl.sp hx;refine⟨ad,e1,_,_,_,_,_,e2,_,rfl,fun k4 w3 yy A7 dx=>?_⟩;have z3:=dx.size;have W9:=hW.o0 dx;have o3:=hO.cz dx;refine⟨some r1,Blk.dZ W9.blk 5 rfl,_,w3,iR.at W9.set (j:Int),fun _ _=>rfl,fun hb=>?_,fun hb=>?_⟩
  ·have hb:T.testBit j=false:=by rw[Ag]at hb;simpa using hb
   refine⟨rfl,?_,o3⟩;unfold Gy;rw[hb,if_neg (by simp)];exact W9.set
  have hb:T.testBit j=true:=by rw[Ag]at hb;simpa using hb
  refine⟨_,rfl,s,Blk.dZ W9.blk 0 rfl,(H8 W9.pl.sp sd.fo hx (by omega)).mono ?_⟩;rintro _ w5 ⟨⟨t,rfl,ht⟩,eE⟩;have z5:=eE.size;refine⟨t,rfl,eE.same (by simp;omega),fun agv gz=>?_⟩;have Xa:=W9.o0 eE;have mz:∀{q:Nat},t.a=some ⟨q,0,none⟩->w3.heap.size<=q:=fun e=>(ht.blk e).1;have nk:∀q,q<w3.heap.size->¬(t.a=some ⟨q,0,none⟩):=fun q hq e=>by have:=mz e;omega
  have NS:(eP p.sp j p.sp.length).length<=2000000:=by
   have:(eP p.sp j p.sp.length).length<=p.sp.length:=by
    unfold eP;rw[bq];exact bh (cQ _ _) (oC fE)
   omega
  have anE:=SliceF.inHeap db W9.pl.sp (by decide);refine(tf (f:=⟨.func (.func 104) #[] #[ai (some ⟨k0,0,none⟩)],rfl⟩) ht NS ⟨fF (by kernel_rfl),fun y hy v I7=>?_⟩ (p:=fun y=>fL (kd p.sp y)) (cap:=[ai (some ⟨k0,0,none⟩)]) rfl).mono ?_
  ·obtain⟨m,tm,rfl,_,WL,_⟩:=pZ.1 hy;have cb:=I7.blk agv (nk k0 (by omega));have cw:=I7.blk Xa.blk (nk b (by omega));have cs:aD nq 5 v (fun k=>F k/\k<w3.heap.size) s p.sp:=(SliceF.only db (by decide) anE eE (by simp)).keep db (by decide) fun k hk bX=>I7.block k bX (nk k hk.2);refine(aj8 m ⟨k0,0,none⟩ (fun c w'=>c=ao (fL (kd p.sp m))/\aA [] v w') v ?_).mono (by rintro _ w' ⟨c,rfl,rfl,h⟩;exact⟨rfl,h⟩);obtain⟨wQ,g1,g2,_⟩:=jL cs WL;refine⟨some ⟨b,0,none⟩,cb.cells 0 _ (by simp),⟨b,0,none⟩,rfl,s,Blk.dZ cw 0 rfl,wQ,g1,tm.k,g2.dZ 0 _ rfl,(DS v tm.k).mono ?_⟩;rintro _ v' ⟨rfl,hv⟩;obtain rfl:v=v':=hv.symm;exact⟨_,rfl,by rw[nX WL],Only.refl _ _⟩
  rintro _ w6 ⟨t2,rfl,_,_,hR6,ez⟩;rw[MU sd j]at hR6;have o36:aA [] w3 w6:=(eE.pd (ez.mono (G:=fun q=>w3.heap.size<=q) fun q _ e=>mz e)).only fun q hq=>hq;have z6:=o36.size;have hW6:=W9.o0 o36;have o6:=o3.cz o36;have cb6:aH w6 k0 111 [ai (some ⟨b,0,none⟩)]:=ez.blk agv (nk k0 (by omega));have z56:=ez.size;have Rn:=hR6.slice bN;have RZ:=Rn.len;have hRg:∀y,y∈cZ p.sp j->gI y:=fun y hy=>by
   obtain⟨m,tm,rfl,WL,_⟩:=kT.1 hy;have:=(aZ.1 WL).1;exact⟨by omega,by omega⟩
  have anG:¬(False∨w3.heap.size<=r1/\t2.a=some ⟨r1,0,none⟩):=by rintro(h | ⟨h,_⟩)<;>omega
  refine⟨t2,rfl,fun q hq=>?_,some ⟨b,0,none⟩,cb6,fun h2=>?_,fun h2=>?_⟩
  ·simp only[aO]at hq;subst hq;exact ez.block _ (by omega) (nk _ (by omega))
  ·have h2:x.k=2:=by simpa using h2
   refine⟨⟨b,0,none⟩,rfl,some r1,Blk.dZ hW6.blk 5 rfl,(wx hW6.set Rn anG hRg).mono ?_⟩;rintro _ w7 ⟨rfl,h7,fI⟩;refine⟨rfl,fI.same (by simp;omega),some ⟨b,0,none⟩,fI.blk cb6 (by simp;omega),rfl,?_,o6.trans fI fun x hx=>.inl hx⟩;unfold Gy;rw[hb,if_pos rfl,Vl,if_pos h2];exact h7.of fun k=>by rw[B6 _ hRg]
  ·have h2:x.k≠2:=by simpa using h2
   have hcb:Gy p.sp gl T j=if cZ p.sp j≠[]/\((cZ p.sp j).all fun r=>!T.testBit r.toNat)=true then jV p.sp j (gl j) T else T:=by
    unfold Gy;rw[hb,if_pos rfl,Vl,if_neg h2]
   refine⟨fun bb q u8=>q=some ⟨b,0,none⟩/\aA [] w6 u8/\(bb=true↔cZ p.sp j≠[]/\((cZ p.sp j).all fun r=>!T.testBit r.toNat)=true),?_,?_⟩
   ·rintro bb _ u8 ⟨rfl,gn,hbb⟩;have z8:=gn.size;have o8:=o6.cz gn;refine⟨fun ht=>fun w9 gv hB9=>?_,fun hf=>⟨rfl,?_,o8⟩⟩
    ·have ht:=hbb.1 ht;rw[if_pos ht]at hcb;have z9:=gv.size;have o9:=o8.cz gv;have hW9:=(hW6.o0 gn).o0 gv;obtain⟨v,hv⟩:∃v,p.ini[j]? =some v:=⟨_,aV (by omega)⟩
     obtain⟨wQ,g1,g2⟩:=iQ hW9.pl.ini hv;have anH:=YS hW9.pl.ini hv;obtain⟨y,dI,f1,f2,f3⟩:=xn w9 (a:=v) anH;have NP:=f2.size;have R4:=hW9.o0 f2;have hgv:gl j=dX p.sp p.dft M v:=by rw[hgj,hv];rfl
     have xW:∀g,g∈dX p.sp p.dft M v->pj p.sp g:=fun g hg=>hgl j x hx h2 ht.1 g (by rw[hv];exact hg);refine⟨fun k=>k=k0,rfl,rfl,⟨b,0,none⟩,rfl,si,Blk.dZ hW9.blk 1 rfl,wQ,g1,v,g2,y,dI,f1,f2.same (by simp;omega),bS.only f2,(Ah R4.blk R4.pl.sp R4.pl.dft R4.past (f3.slice bN) xP (fun t ht g hg=>?_)).mono ?_⟩
     ·rw[aO]at ht;subst ht;have:=xW g hg;exact⟨this.1,by have:=this.2;omega⟩
     rintro _ dJ ⟨⟨r,rfl,hr,anI⟩,dT⟩;have Co:=dT.size;have anJ:=R4.o0 dT;have agw:=dT.blk (f2.blk hB9 (by simp)) (by simp);refine⟨some r,rfl,dT.same (by simp;omega),some ⟨b,0,none⟩,agw,bS.only dT,(Lc anJ anI (L:=gl j) (by omega) (fun k=>by rw[hgv];simp) (fun g hg=>xW g (by rw[<-hgv];exact hg)) (by omega) sd.fo ma).mono ?_⟩;rintro _ fg ⟨rfl,AD,fj⟩;refine⟨rfl,fj.same (by simp;omega),some ⟨b,0,none⟩,fj.blk agw (by simp;omega),fun k hk bX=>fj.block k bX (by rw[hk];simp;omega),rfl,by rw[hcb];exact AD,((o9.cz f2).cz dT).trans fj fun x hx=>.inl hx⟩
    ·rw[if_neg fun hh=>by rw[hbb.2 hh]at hf;cases hf]at hcb;rw[hcb];exact MapV.only hW6.set gn (by simp)
   ·refine⟨fun hn=>?_,fun hn=>⟨rfl,Only.refl _ _,⟨fun h=>(by cases h),fun⟨h,_⟩=>?_⟩⟩⟩
    ·have hn:=aP hn;refine(akx (f:=⟨.func (.func 105) #[] #[ai (some ⟨k0,0,none⟩)],rfl⟩) Rn (by have:=zZ p.sp j;omega) ⟨fF (by kernel_rfl),fun y hy v I7=>?_⟩ (p:=fun y=>mH T y) (cap:=[ai (some ⟨k0,0,none⟩)]) rfl).mono ?_
     ·have I7:aA [] w6 v:=I7.only fun _ h=>h.elim;have cb:=I7.blk cb6 (by simp);have cW:=hW6.o0 I7;refine(aj9 y ⟨k0,0,none⟩ (fun c w'=>c=ao (mH T y)/\aA [] v w') v ?_).mono (by rintro _ w' ⟨c,rfl,rfl,h⟩;exact⟨rfl,h⟩);exact⟨some ⟨b,0,none⟩,cb.cells 0 _ (by simp),⟨b,0,none⟩,rfl,some r1,Blk.dZ cW.blk 5 rfl,_,v,iR.at cW.set y,rfl,Only.refl _ _⟩
     ·rintro _ fC ⟨rfl,eS⟩;refine⟨_,rfl,eS.same (by simp;omega),some ⟨b,0,none⟩,eS.blk cb6 (by simp),rfl,eS,?_⟩;have e:((cZ p.sp j).any fun y=>mH T y)=!((cZ p.sp j).all fun r=>!T.testBit r.toNat):=by
       rw[List.all_eq_not_any_not,j7];simp only[j7];rw[bT,fy,fy];refine exists_congr fun y=>and_congr_right fun hy=>?_;have:=(hRg y hy).1;unfold mH;rw[bK this,cY]
      rw[e,j7];constructor
      ·exact fun h=>⟨fun e=>by rw[e]at RZ;simp at RZ;omega,h⟩
      ·exact fun h=>h.2
    ·have hn:=aW hn;have:(cZ p.sp j).length=0:=by omega
     exact absurd (bO this) h
 ·have hc:=aW hc;have ja:j=p.sp.length:=by omega
  subst ja;refine⟨_,rfl,some r1,Blk.dZ hW.blk 5 rfl,(QJ hW.set (uj (lc p.sp gl p.sp.length S)) fun a=>?_).mono ?_⟩
  ·rw[lK];constructor
   ·rintro⟨k,rfl,_,h⟩;rw[Ag];exact h
   ·intro h;have hg:=hW.set.ok h;unfold mH at h;rw[aQ,cm]at h;exact⟨a.toNat,by omega,by have:=hg.2;omega,h.2⟩
  ·rintro _ fT ⟨t,rfl,ht,dU⟩;refine⟨t,rfl,dU.same (by simp;omega),t,rfl,ht.low (by omega),?_⟩;exact((up1 cK).trans hO fun x hx=>.inl hx).cz dU
end
def sB(p:Pl)(M:xo)(S:Nat)(k:Int):Nat:=if k<0 then S else match p.ro[k.toNat]? with
 | some r=>if r.dom<0 then S else jV p.sp r.dom (r.tg.flatMap (dX p.sp p.dft M)) S
 | none=>S
abbrev Hd(p:Pl)(M:xo)(n:Nat):List Int:=dX p.sp p.dft M ((p.ini[n]?).getD 0)
structure Gdp (p:Pl) (M:xo):Prop where
 sd:Sd p.sp
 i:p.ini.length=p.sp.length
 d:p.dft.length=p.sp.length
 gl:∀(n:Nat) (t:cM),p.sp[n]? =some t->t.k≠2->cZ p.sp n≠[]->∀g,g∈Hd p M n->pj p.sp g
 ro:∀r,r∈p.ro->∀t,t∈r.tg->∀g,g∈dX p.sp p.dft M t->pj p.sp g
theorem PlR.akJ{w:ay}{F:aL}{s si sd sr:Sl}{p:Pl}(h:PlR w F s si sd sr p):PlR w (fun k=>F k/\k<w.heap.size) s si sd sr p:=
 ⟨SliceF.inHeap db h.sp (by decide),SliceF.inHeap bN h.ini (by decide),SliceF.inHeap bN h.dft (by decide),SliceF.inHeap ik h.ro (by decide)⟩
theorem Lh{l:List Int}{f:Int->List Int}{k:Int}:(l.any fun t=>decide (k∈f t))=true↔k∈l.flatMap f:=by
 rw[fy,eI];simp only[bL]
section
variable {w w1 w0:ay} {b r0 r1:Nat} {s si ph sr sp sk:Sl} {F G H:aL} {p:Pl} {L:List (Int×List Int)} {ks:List Int}
theorem Li(hP:PlR w0 F s si ph sr p)(hb:w0.heap.size<=b)(h0:w0.heap.size<=r0)(Xb:r0<r1)(h1:r1<b)(hB:Wk w1 b s si ph sr r0 r1)(Vn:PastV w1 (fun k=>G k/\k<w0.heap.size) r0 (fQ L))(hS:iR w1 r1 fun _=>false)(cF:aA [] w0 w1):WkP w1 b s si ph sr r0 r1 (fun k=>F k/\k<w0.heap.size) (fun k=>G k/\k<w0.heap.size) p (fQ L) 0:=
 ⟨hB,hP.akJ.o0 cF,Vn,hS.of fun k=>by simp[mH],by omega,by omega,by omega,⟨by rintro⟨_,h⟩;omega,by rintro⟨_,h⟩;omega⟩,⟨by rintro⟨_,h⟩;omega,by rintro⟨_,h⟩;omega⟩⟩
theorem GI(hP:PlR w F s si ph sr p)(D:Gdp p (fQ L))(hL:aD B5 2 w G sp L)(hg:∀x,x∈L->gI x.1)(hR:aD rInt 1 w H sk ks):
  aB au 30 #[aj #[s.v,si.v,ph.v,sr.v],sp.v,sk.v] w fun e w'=>(∃t:Sl,e=aq t.v/\dz w.heap.size w' t (gX (lc p.sp (Hd p (fQ L)) p.sp.length (ks.foldl (sB p (fQ L)) 0))))/\aA [] w w':=by
 refine(ajG s si ph sr sp sk (fun v w'=>(∃t:Sl,v=t.v/\dz w.heap.size w' t (gX (lc p.sp (Hd p (fQ L)) p.sp.length (ks.foldl (sB p (fQ L)) 0))))/\aA [] w w') w ?_).mono (by rintro _ w' ⟨v,rfl,⟨t,rfl,h⟩,h'⟩;exact⟨⟨t,rfl,h⟩,h'⟩);intro k0 w0 gU fi cK;have z0:=cK.size;refine(yu w0 s si ph sr (SliceF.only lM (by decide) hL cK (by simp)) hg).mono ?_;rintro _ w1 ⟨⟨b,r0,r1,rfl,hb,kc,h0,Xb,h1,hB,Vn,wP⟩,cF⟩;have z1:=cF.size;have W1:=Li (hP.o0 cK) hb h0 Xb h1 hB Vn wP cF;have o1:=cK.cz cF;have hn:=hR.len;have hc:=hR.cap;have IP:=hR.big;refine⟨_,rfl,cF.same (by simp;omega),fun kv i u=>∃j:Nat,i=(j:Int)/\kv+j=ks.length/\j<=ks.length/\iR u r1 (mH ((ks.take j).foldl (sB p (fQ L)) 0))/\aA [r1] w1 u,ks.length,⟨0,rfl,by omega,bA _,W1.set,Only.refl _ _⟩,?_⟩;rintro kv _ u ⟨j,rfl,tX,hj,hS,hO⟩;have hW:=W1.step hO hS;have zu:=hO.size;have o:aA [] w u:=o1.trans hO fun x hx=>.inr (by simp only[aO]at hx;omega);refine⟨fun hc=>?_,fun hc=>?_⟩
 ·have hc:=aP hc;have ja:j<ks.length:=by omega
  obtain⟨k,hk⟩:∃k,ks[j]? =some k:=⟨_,aV ja⟩
  refine⟨fun u2=>iR u2 r1 (mH ((ks.take (j+1)).foldl (sB p (fQ L)) 0))/\aA [r1] w1 u2,?_,?_⟩
  ·rintro u2 ⟨g1,g2⟩;exact⟨kv-1,by omega,j+1,by rw[gD (by omega) (by omega)];rfl,by omega,by omega,g1,g2⟩
  have agx:(ks.take (j+1)).foldl (sB p (fQ L)) 0=sB p (fQ L) ((ks.take j).foldl (sB p (fQ L)) 0) k:=by
   rw[bI,hk,oB];rfl
  rw[agx];generalize (ks.take j).foldl (sB p (fQ L)) 0=T at*
  obtain⟨ad,a1,a2⟩:=iQ (kI hR o) hk;refine⟨ad,a1,_,a2,(GH hW.blk hW.pl.ro k).mono ?_⟩;rintro _ w4 ⟨⟨x1,x2,x3,ev,wt,tg,dom,is,rfl,his,Zo⟩,dP⟩;have z4:=dP.size;refine⟨x1,x2,x3,ev,wt,tg,dom,is,rfl,dP.same (by simp;omega),fun ht k4 w5 yy A7 eE=>?_,fun hf k5 w8 Cp G3 gn=>⟨?_,(hO.cz dP).cz gn⟩⟩
  ·obtain⟨n,r,rfl,hr,hd,rfl,rq⟩:=his ht;have z5:=eE.size;have Xa:=(hW.o0 dP).o0 eE;have xW:=D.ro r (bD hr);have ma:=D.sd.le;refine⟨fun k=>k=k4,rfl,(Ah Xa.blk Xa.pl.sp Xa.pl.dft Xa.past (kI rq eE) D.d fun t ht g hg=>?_).mono ?_⟩
   ·have:=xW t ht g hg;exact⟨this.1,by have:=this.2;omega⟩
   rintro _ w6 ⟨⟨r',rfl,hr',hs6⟩,ez⟩;have z6:=ez.size;have hW6:=Xa.o0 ez;have SG:=MapV.lt Xa.set;refine⟨some r',rfl,ez.same (by simp;omega),bS.only ez,(Lc hW6 hs6 (L:=r.tg.flatMap (dX p.sp p.dft (fQ L))) (by omega) (fun k=>Lh) (fun g hg=>?_) (by omega) D.sd.fo ma).mono ?_⟩
   ·obtain⟨t,ht,hg⟩:=eI.1 hg;exact xW t ht g hg
   rintro _ w7 ⟨rfl,h7,fI⟩;have e:sB p (fQ L) T (n:Int)=jV p.sp r.dom (r.tg.flatMap (dX p.sp p.dft (fQ L))) T:=by
    unfold sB;rw[if_neg (by omega),aX,hr];dsimp only;rw[if_neg (by omega)]
   refine⟨rfl,fI.same (by simp;omega),fun k hk bX=>fI.block k bX (by rw[hk];simp;omega),by rw[e];exact h7,(((hO.cz dP).cz eE).cz ez).trans fI fun x hx=>.inl hx⟩
  ·have e:sB p (fQ L) T k=T:=by
    unfold sB;by_cases gU:k<0
    ·rw[if_pos gU]
    rw[if_neg gU];obtain⟨n,rfl⟩:∃n:Nat,k=n:=⟨k.toNat,by omega⟩
    rw[aX];cases hr:p.ro[n]? with
    | none=>rfl
    | some r=>
     dsimp only;rw[if_pos (Zo hf n r rfl hr)]
   rw[e];exact MapV.only (MapV.only hW.set dP (by simp)) gn (by simp)
 ·have hc:=aW hc;have ja:j=ks.length:=by omega
  subst ja;rw[wR]at hW;refine(Ld hW D.sd D.i D.d D.gl).mono ?_;rintro _ w9 ⟨t,rfl,ht,gv⟩;exact⟨t,rfl,gv.same (by simp;omega),⟨t,rfl,ht.low (by omega)⟩,o.trans gv fun x hx=>.inr (by simp only[aO]at hx;omega)⟩
theorem Ul(hP:PlR w F s si ph sr p)(D:Gdp p (fQ L))(hL:aD B5 2 w G sp L)(hg:∀x,x∈L->gI x.1)(hR:aD rInt 1 w H sk ks)(hk:∀t,t∈ks->∀g,g∈dX p.sp p.dft (fQ L) t->pj p.sp g):
  aB au 31 #[aj #[s.v,si.v,ph.v,sr.v],sp.v,sk.v] w fun e w'=>(∃t:Sl,e=aq t.v/\dz w.heap.size w' t (gX (qZ (ks.flatMap (dX p.sp p.dft (fQ L))))))/\aA [] w w':=by
 refine(ajJ s si ph sr sp sk (fun v w'=>(∃t:Sl,v=t.v/\dz w.heap.size w' t (gX (qZ (ks.flatMap (dX p.sp p.dft (fQ L))))))/\aA [] w w') w ?_).mono (by rintro _ w' ⟨v,rfl,⟨t,rfl,h⟩,h'⟩;exact⟨⟨t,rfl,h⟩,h'⟩);intro k0 w0 gU fi cK;have z0:=cK.size;have ma:=D.sd.le;refine(yu w0 s si ph sr (SliceF.only lM (by decide) hL cK (by simp)) hg).mono ?_;rintro _ w1 ⟨⟨b,r0,r1,rfl,hb,kc,h0,Xb,h1,hB,Vn,wP⟩,cF⟩;have z1:=cF.size;have W1:=Li (hP.o0 cK) hb h0 Xb h1 hB Vn wP cF;have o1:=cK.cz cF;refine⟨_,rfl,cF.same (by simp;omega),(Ah W1.blk W1.pl.sp W1.pl.dft W1.past (kI hR o1) D.d fun t ht g hg=>?_).mono ?_⟩
 ·have:=hk t ht g hg;exact⟨this.1,by have:=this.2;omega⟩
 rintro _ w2 ⟨⟨r,rfl,hr,U4⟩,dh⟩;have z2:=dh.size;refine⟨some r,rfl,dh.same (by simp;omega),(QJ U4 (uj (qZ (ks.flatMap (dX p.sp p.dft (fQ L))))) fun a=>?_).mono ?_⟩
 ·rw[lK,Lh];constructor
  ·rintro⟨k,rfl,_,h⟩;rw[qc,cm]at h;exact h.2
  ·intro h;obtain⟨t,ht,hg⟩:=eI.1 h;have:=hk t ht a hg;have h1:=this.1;have h2:=this.2;refine⟨a.toNat,by omega,by omega,?_⟩;rw[qc,cm,iq h1];exact⟨by omega,h⟩
 ·rintro _ w3 ⟨t,rfl,ht,dx⟩;exact⟨t,rfl,dx.same (by simp;omega),⟨t,rfl,ht.low (by omega)⟩,(o1.cz dh).cz dx⟩
theorem QM(hP:PlR w F s si ph sr p)(D:Gdp p fun _=>none):
  aB au 33 #[aj #[s.v,si.v,ph.v,sr.v]] w fun e w'=>(∃t:Sl,e=aq t.v/\dz w.heap.size w' t (gX (lc p.sp (Hd p fun _=>none) p.sp.length 1)))/\aA [] w w':=by
 refine(ajK s si ph sr (fun v w'=>(∃t:Sl,v=t.v/\dz w.heap.size w' t (gX (lc p.sp (Hd p fun _=>none) p.sp.length 1)))/\aA [] w w') w ?_).mono (by rintro _ w' ⟨v,rfl,⟨t,rfl,h⟩,h'⟩;exact⟨⟨t,rfl,h⟩,h'⟩);intro k0 w0 gU fi cK;have z0:=cK.size;refine(yu w0 s si ph sr (L:=[]) (SliceF.nil B5 2 w0 (fun _=>False)) (by simp)).mono ?_;rintro _ w1 ⟨⟨b,r0,r1,rfl,hb,kc,h0,Xb,h1,hB,Vn,wP⟩,cF⟩;have z1:=cF.size;have W1:=Li (hP.o0 cK) hb h0 Xb h1 hB Vn wP cF;have o1:=cK.cz cF;have hn:=W1.pl.sp.len;have gz:=D.sd.fo.ne;refine⟨_,rfl,cF.same (by simp;omega),fun u=>iR u r1 (mH 1)/\aA [r1] w1 u,?_,fun _=>⟨_,rfl,some r1,Blk.dZ W1.blk 5 rfl,?_⟩,fun hc=>absurd (aW hc) (by omega)⟩
 ·rintro u ⟨hS,hO⟩;have hW:=W1.step hO hS;have zu:=hO.size;refine(Ld hW D.sd D.i D.d D.gl).mono ?_;rintro _ w9 ⟨t,rfl,ht,gv⟩;exact⟨t,rfl,gv.same (by simp;omega),⟨t,rfl,ht.low (by omega)⟩,(o1.trans hO fun x hx=>.inr (by simp only[aO]at hx;omega)).trans gv fun x hx=>.inr (by simp only[aO]at hx;omega)⟩
 ·obtain⟨y,w4,f1,f2,f3⟩:=xn w1 (a:=0) ⟨by omega,by omega⟩;have z4:=f2.size;have SG:=MapV.lt W1.set;refine⟨y,w4,f1,f2.same (by simp;omega),(wx (MapV.only W1.set f2 (by simp)) (f3.slice bN) (by rintro(h | ⟨h,_⟩)<;>omega) (fun z hz=>by rw[aO]at hz;rw[hz];exact⟨by omega,by omega⟩)).mono ?_⟩;rintro _ w5 ⟨rfl,h5,eE⟩;refine⟨rfl,eE.same (by simp;omega),h5.of fun k=>?_,((Only.refl [r1] w1).cz f2).trans eE fun x hx=>.inl hx⟩;have:(1:Nat)=Ew 0 0:=by decide
  rw[this,DR ⟨by omega,by omega⟩];congr 1;rw[fS,aO]
end
theorem B7(xs:List cM)(gl:Nat->List Int):∀n,lc xs gl n 0=0
 | 0=>rfl
 | n+1=>by
  rw[lc,B7 xs gl n];unfold Gy;rw[lS,if_neg (by simp)]
theorem GJ:gX 0=[]:=jK.2 fun x hx=>by
 obtain⟨k,_,_,h⟩:=lK.1 hx;rw[lS]at h;cases h
section
variable {c:Ch} {M:xo} (N:Snd c (cX c) (Ev c)) (hM:tQ (cX c) M)
include N hM
theorem Wl:∀(n:Nat) (t:cM),(cX c)[n]? =some t->t.k=1->cZ (cX c) n≠[]->Gd (cX c) n (fun g=>(g:Int)∈Hd (dB c) M n)/\∀g,g∈Hd (dB c) M n->pj (cX c) g:=fun n t ht h1 hr=>by
 have hb:n<(vu c.root).length:=by rw[qN,<-N.len];exact eZ ht
 obtain⟨b,hb⟩:∃b,(vu c.root)[n]? =some b:=⟨_,aV hb⟩
 have:Hd (dB c) M n=dX (cX c) ((vu c.root).map fun b=>mX (cX c) b.dft) M (mX (cX c) b.ini):=by
  unfold Hd;have e:(dB c).ini[n]? =some (mX (cX c) b.ini):=by
   show((vu c.root).map fun b=>mX (cX c) b.ini)[n]? =_;rw[bZ,hb];rfl
  rw[e];rfl
 rw[this];exact N.Zd hM rfl ht hb h1 hr
theorem QN:Gdp (dB c) M where
 sd:=N.sd
 i:=by
  show((vu c.root).map _).length=(cX c).length;rw[bq,qN,<-N.len]
 d:=by
  show((vu c.root).map _).length=(cX c).length;rw[bq,qN,<-N.len]
 gl n t ht h2 hr:=by
  obtain⟨q,hq⟩:=fA _ hr;obtain⟨m,u,rfl,hu,hp,_⟩:=kT.1 hq;obtain⟨t',ht',hk⟩:=N.hk n m ⟨u,hu,hp⟩;have ht:(cX c)[n]? =some t:=ht;rw[ht,ba]at ht';subst ht';exact(Wl N hM n t ht (hk.resolve_right h2) hr).2
 ro r hr t ht g hg:=by
  rcases N.Ar hM rfl hr with⟨h,_⟩ | ⟨_,_,_,_,_,_,_,_,_,_,h⟩
  ·rw[h]at ht;cases ht
  ·exact h t ht g hg
theorem YU{r:Ro}(hr:r∈(dB c).ro)(gz:r.tg≠[]){T:Nat}(hT:T=lc (cX c) (Hd (dB c) M) (cX c).length (jV (cX c) r.dom (r.tg.flatMap (dX (cX c) (dB c).dft M)) 0)):
  (∃d:Nat,r.dom=d)/\(r.tg.flatMap (dX (cX c) (dB c).dft M))≠[]/\(∀g,g∈r.tg.flatMap (dX (cX c) (dB c).dft M)->∃n:Nat,g=n/\n<64/\T.testBit n=true)/\∀m:Nat,T.testBit m=true->kB (cX c) m r.dom=true:=by
 obtain⟨_,_,a,d,_,_,ed,_,hda,G,hH⟩:=(N.Ar hM rfl hr).resolve_left fun h=>gz h.1;have sd:=N.sd;have xW:∀g,g∈r.tg.flatMap (dX (cX c) (dB c).dft M)->pj (cX c) g:=fun g hg=>by
  obtain⟨t,ht,hg⟩:=eI.1 hg;exact hH t ht g hg
 have Vo:=qe N.fo N.le (d:=r.dom) (by omega) (r.tg.flatMap (dX (cX c) (dB c).dft M)) 0 xW;have hP:Part (cX c) (fun d'=>d'=r.dom) fun m=>(jV (cX c) r.dom (r.tg.flatMap (dX (cX c) (dB c).dft M)) 0).testBit m=true:=by
  have:=N.fo.M0 N.hk (D:=fun d'=>d'=r.dom) (fun d d' _ h h' _ _=>h.trans h'.symm) (G:=fun _ k=>∃s,s∈r.tg/\(k:Int)∈dX (cX c) (dB c).dft M s) (by rintro _ rfl;rw[ed];exact G);have e:(fun m=>(jV (cX c) r.dom (r.tg.flatMap (dX (cX c) (dB c).dft M)) 0).testBit m=true)=fun m:Nat=>∃d',d'=r.dom/\d'<m/\∃g:Nat,(∃s,s∈r.tg/\(g:Int)∈dX (cX c) (dB c).dft M s)/\jq (cX c) m g:=funext fun m=>propext ((Vo m).trans ⟨fun h=>h.elim (fun h=>by rw[lS]at h;cases h) fun⟨h1,g,h2,h3⟩=>⟨_,rfl,h1,g,eI.1 h2,h3⟩,fun⟨_,e,h1,g,h2,h3⟩=>.inr ⟨by rw[<-e];exact h1,g,eI.2 h2,h3⟩⟩);rw[e];exact this
 obtain⟨Q,LK,_⟩:=B1 sd N.hk (fun d d' _ h h' _ _=>h.trans h'.symm) (Wl N hM) hP (cX c).length (aY _);rw[<-hT]at Q LK;refine⟨⟨d,ed⟩,?_,fun g hg=>?_,fun m hm=>?_⟩
 ·obtain⟨g,s,hs,hg⟩:=G.ne;exact j8 (eI.2 ⟨s,hs,hg⟩)
 ·have hh:=xW g hg;have ma:=N.le;have h1:=hh.1;have h2:=hh.2;obtain⟨n,rfl⟩:∃n:Nat,g=n:=⟨g.toNat,by omega⟩
  refine⟨n,rfl,by omega,LK n ((Vo n).2 (.inr ⟨?_,n,hg,N.fo.jW (by omega)⟩))⟩;obtain⟨hb,_⟩:=G.bl n (eI.1 hg);rw[ed];exact hb.1
 ·obtain⟨_,d',e,hb⟩:=Q.st m hm;subst e;rw[ed]at hb⊢;obtain⟨h1,h2,h3 | ⟨k,ek,h3⟩⟩:=hb
  ·omega
  ·have:k=d:=by omega
   subst this;exact YQ.2 ⟨by omega,h3⟩
end
end Go.Proofs.YtbkjcdocjfknfaaGreatDoor.Con
namespace Go.Proofs
open Go.Shelf
def Tryz.IA:Go.Shelf.Ren:=⟨fun | 6=>67 | 15=>102 | 14=>101 | 28=>139 | 29=>140 | 20=>131 | 21=>132 | 22=>133 | 23=>134 | 24=>135 | 25=>136 | 26=>137 | 27=>138 | 46=>179 | 47=>180 | 48=>181 | 49=>182 | 50=>183 | 57=>212 | n=>n,fun | 22=>77 | 24=>133 | 25=>136 | 3=>3 | 39=>150 | 0=>0 | 53=>215 | 55=>42 | 4=>4 | 46=>209 | 45=>208 | 50=>142 | 5=>5 | 9=>9 | 66=>255 | 70=>231 | 76=>285 | 77=>246 | n=>n,fun | n=>n⟩
theorem Tryz.Ra:Go.Proofs.SlLaysF0.n6 Tryz.prog Tryz.IA:={
 mixed:=by kernel_rfl
 f6:=⟨Tryz.f67.name,by decide,Tryz.func67.trans (bm some (by kernel_rfl))⟩
 f14:=⟨Tryz.f101.name,by decide,Tryz.func101.trans (bm some (by kernel_rfl))⟩
 f15:=Tryz.func102.trans (bm some (by kernel_rfl))
 f20:=⟨Tryz.f131.name,by decide,Tryz.func131.trans (bm some (by kernel_rfl))⟩
 f21:=⟨Tryz.f132.name,by decide,Tryz.func132.trans (bm some (by kernel_rfl))⟩
 f22:=⟨Tryz.f133.name,by decide,Tryz.func133.trans (bm some (by kernel_rfl))⟩
 f23:=⟨Tryz.f134.name,by decide,Tryz.func134.trans (bm some (by kernel_rfl))⟩
 f24:=⟨Tryz.f135.name,by decide,Tryz.func135.trans (bm some (by kernel_rfl))⟩
 f25:=⟨Tryz.f136.name,by decide,Tryz.func136.trans (bm some (by kernel_rfl))⟩
 f26:=⟨Tryz.f137.name,by decide,Tryz.func137.trans (bm some (by kernel_rfl))⟩
 f27:=⟨Tryz.f138.name,by decide,Tryz.func138.trans (bm some (by kernel_rfl))⟩
 f28:=Tryz.func139.trans (bm some (by kernel_rfl))
 f29:=Tryz.func140.trans (bm some (by kernel_rfl))
 f46:=⟨Tryz.f179.name,by decide,Tryz.func179.trans (bm some (by kernel_rfl))⟩
 f47:=Tryz.func180.trans (bm some (by kernel_rfl))
 f48:=Tryz.func181.trans (bm some (by kernel_rfl))
 f49:=⟨Tryz.f182.name,by decide,Tryz.func182.trans (bm some (by kernel_rfl))⟩
 f50:=⟨Tryz.f183.name,by decide,Tryz.func183.trans (bm some (by kernel_rfl))⟩
 f57:=⟨Tryz.f212.name,by decide,Tryz.func212.trans (bm some (by kernel_rfl))⟩
 t0:=Tryz.underlying0
 a0:=Tryz.isAgg0
 z0:=Tryz.sizeOf0
 v0:=Tryz.zeroValue0
 t3:=Tryz.underlying3
 a3:=Tryz.isAgg3
 z3:=Tryz.sizeOf3
 v3:=Tryz.zeroValue3
 t4:=Tryz.underlying4
 a4:=Tryz.isAgg4
 z4:=Tryz.sizeOf4
 v4:=Tryz.zeroValue4
 t5:=Tryz.underlying5
 a5:=Tryz.isAgg5
 z5:=Tryz.sizeOf5
 v5:=Tryz.zeroValue5
 t9:=Tryz.underlying9
 a9:=Tryz.isAgg9
 z9:=Tryz.sizeOf9
 v9:=Tryz.zeroValue9
 t22:=Tryz.underlying77
 a22:=Tryz.isAgg77
 z22:=Tryz.sizeOf77
 v22:=Tryz.zeroValue77
 t25:=Tryz.underlying136
 a25:=Tryz.isAgg136
 z25:=Tryz.sizeOf136
 v25:=Tryz.zeroValue136
 t39:=Tryz.underlying150
 a39:=Tryz.isAgg150
 z39:=Tryz.sizeOf150
 v39:=Tryz.zeroValue150
 t45:=Tryz.underlying208
 a45:=Tryz.isAgg208
 z45:=Tryz.sizeOf208
 v45:=Tryz.zeroValue208
 t46:=Tryz.underlying209
 a46:=Tryz.isAgg209
 z46:=Tryz.sizeOf209
 v46:=Tryz.zeroValue209
 t50:=Tryz.underlying142
 a50:=Tryz.isAgg142
 z50:=Tryz.sizeOf142
 v50:=Tryz.zeroValue142
 t53:=Tryz.underlying215
 a53:=Tryz.isAgg215
 z53:=Tryz.sizeOf215
 v53:=Tryz.zeroValue215
 t55:=Tryz.underlying42
 a55:=Tryz.isAgg42
 z55:=Tryz.sizeOf42
 v55:=Tryz.zeroValue42
 t66:=Tryz.underlying255
 a66:=Tryz.isAgg255
 z66:=Tryz.sizeOf255
 v66:=Tryz.zeroValue255
 t70:=Tryz.underlying231
 a70:=Tryz.isAgg231
 z70:=Tryz.sizeOf231
 v70:=Tryz.zeroValue231
 t76:=Tryz.underlying285
 a76:=Tryz.isAgg285
 z76:=Tryz.sizeOf285
 v76:=Tryz.zeroValue285
 t77:=Tryz.underlying246
 a77:=Tryz.isAgg246
 z77:=Tryz.sizeOf246
 v77:=Tryz.zeroValue246}
def Tryz.IB:Go.Shelf.Ren:=⟨fun | 5=>69 | 7=>103 | n=>n,fun | 22=>3 | 3=>3 | 4=>4 | n=>n,fun | n=>n⟩
theorem Tryz.Zg:Go.Proofs.SlLaysC2.n5 Tryz.prog Tryz.IB:={
 mixed:=by kernel_rfl
 f5:=⟨Tryz.f69.name,by decide,Tryz.func69.trans (bm some (by kernel_rfl))⟩
 f7:=⟨Tryz.f103.name,by decide,Tryz.func103.trans (bm some (by kernel_rfl))⟩
 t3:=Tryz.underlying3
 a3:=Tryz.isAgg3
 z3:=Tryz.sizeOf3
 v3:=Tryz.zeroValue3
 t4:=Tryz.underlying4
 a4:=Tryz.isAgg4
 z4:=Tryz.sizeOf4
 v4:=Tryz.zeroValue4
 t22:=Tryz.underlying3
 a22:=Tryz.isAgg3
 z22:=Tryz.sizeOf3
 v22:=Tryz.zeroValue3}
open Go.RowKit Go.Lib Go.Sort Go.Shelf in
theorem Tryz.UK (x y:Int) (a1 a2:Option Addr) (n1 c1 n2 c2:Nat) (W:World):Calls Tryz.prog 68 #[.agg #[.int .i64 x,.slice a1 n1 c1],.agg #[.int .i64 y,.slice a2 n2 c2]] W fun e w'=>e=.returned (.int .i64 (Lib.compareInt x y))/\∃q os',w'=grow (W.drewN q) os':=by
 have aaU:=fun W'=>AnyG.cmp_Compare_int Tryz.Zg x y W';change ∀W',Calls Tryz.prog 69 _ _ _ at aaU;generalize Lib.compareInt x y=r at aaU⊢
 go_enter Tryz.func68,Tryz.ntmps68
 go_wp2_with (go_at_call 69;refine(aaU _).mono ?_;rintro e w' ⟨rfl,rfl⟩)
 go_ret
 exact⟨rfl,0,_,by rw[alloc_eq_grow,alloc_eq_grow,grow_grow];rfl⟩
open Go.RowKit Go.Lib Go.Sort Go.Shelf in
theorem Tryz.Rb {α:Type} [Inhabited α] (enc:α->List Value) (hk:∀x,(enc x).length=2) (h1:∀x,∀v∈enc x,v.oneCell'=true) (cf:α->α->Int) (hO:SWO (ltOf cf)) (blk off cap:Nat) (d:Array α) (w:World)
  (anK:Go.Proofs.CmpLays Tryz.prog 68 #[] enc 2 cf blk off d.size w) (hH:HoldsK enc 2 w blk off d) (hblk:blk<w.heap.size) (hsz:d.size<4611686018427387904):
  Calls Tryz.prog 67 #[.slice (some ⟨blk,off,none⟩) d.size cap,.func (.func 68) #[] #[]] w fun e w'=>
   e=.returned (.tuple #[])/\∃d' n os,PermIn 0 d.size d d'/\SortedIn (ltOf cf) 0 d.size d'/\w'=sortWorldK enc 2 w blk off n d' os:=
 Go.Proofs.AnyQ.slices_SortFunc Tryz.Ra 2 Tryz.isAgg133 Tryz.sizeOf133 enc hk h1 cf hO 68 #[] blk off cap d w (enters_of Tryz.func68 (by kernel_rfl) rfl) anK hH hblk hsz
open Go.RowKit Go.Lib Go.Sort Go.Shelf in
theorem Tryz.GU (p:Option Addr) (cap:Nat) (fv:Value) (w:World):Calls Tryz.prog 67 #[.slice p 0 cap,fv] w fun e w'=>e=.returned (.tuple #[])/\w'=w:=
 Go.Proofs.AnyF.slices_SortFunc_none Tryz.Ra p cap fv w
end Go.Proofs
namespace Go.Proofs.YtbkjcdocjfknfaaGreatDoor.Con
open Go.Value renaming int->O,string->ah,pointer->ai,agg->aj,tuple->ak,bool->ao
open Go.IntKind renaming i64->ae,wrap->av
open Go.Ending renaming returned->aq
open _root_.ByteArray renaming mk->ar
open _root_.Go.Proofs.Tryz renaming prog->au
open Go.Instr renaming buildSlice->aw
open Go renaming World->ay,Value->az,Calls->aB
open Go.Kt renaming Only->aA,SliceF->aD,Cells->aE,OnlyP->aF,Blk->aH
open Go Go.RowKit Go.Kt Go.Kt.V Go.Proofs.YtbkjcdocjfknfaaGreatDoor.Vc
set_option linter.unusedSimpArgs false
set_option linter.unusedVariables false
set_option linter.unusedSectionVars false
set_option maxHeartbeats 1600000
set_option maxRecDepth 100000
instance aqU:Inhabited Sl:=⟨Sl.nil⟩
abbrev YV:=Int×Sl×List Int
def lh(z:YV):aK:=[O ae z.1,z.2.1.v]
section
variable {w:ay} {F:aL}
theorem GK:∀{L:List (Int×List Int)} {css:List (aK)},lm B5 2 w F L css->∃Z:List YV,Z.map (fun z=>(z.1,z.2.2))=L/\css=Z.map lh/\∀z,z∈Z->aD rInt 1 w F z.2.1 z.2.2
 | [],[],_=>⟨[],rfl,rfl,fun _ h=>(by cases h)⟩
 | x::L,c::css,⟨⟨_,t,e,ht⟩,h⟩=>by
  obtain⟨Z,h1,h2,h3⟩:=GK h;refine⟨(x.1,t,x.2)::Z,by rw[bF,h1],by rw[bF,<-h2,e];rfl,fun z hz=>?_⟩;rcases aR.1 hz with rfl | hz
  ·exact ht
  ·exact h3 z hz
 | [],_::_,h=>h.elim
 | _::_,[],h=>h.elim
theorem QO:∀{Z:List YV},(∀z,z∈Z->aD rInt 1 w F z.2.1 z.2.2)->lm B5 2 w F (Z.map fun z=>(z.1,z.2.2)) (Z.map lh)
 | [],_=>trivial
 | z::Z,h=>⟨⟨rfl,z.2.1,rfl,h z (.head _)⟩,QO fun y hy=>h y (.tail _ hy)⟩
end
theorem Ai(Z:List YV):Sort.flatK lh 2 Z.toArray=((Z.map lh).flatten).toArray:=by
 have fu:((Z.map lh).flatten).length=Z.length*2:=by
  rw[pA (size:=2) (fun c hc=>by obtain⟨z,_,rfl⟩:=cJ.1 hc;rfl),bq]
 refine Sort.ext_get! (by rw[Sort.size_flatK,eh,eh,fu]) fun t ht=>?_;rw[Sort.size_flatK,eh]at ht;rw[Sort.get_flatK _ _ _ _ (by rw[eh];exact ht)];have hq:t/2<Z.length:=by omega
 have h1:(Z.map lh)[t/2]? =some (lh Z[t/2]):=by rw[bZ,aV hq];rfl
 have h2:t % 2<(lh Z[t/2]).length:=by
  show t % 2<2;omega
 have h3:=CI (size:=2) (fun c hc=>by obtain⟨z,_,rfl⟩:=cJ.1 hc;rfl) h1 (aV h2);rw[show t/2*2+t % 2=t by omega]at h3;rw[oy (Z.toArray) (t/2) (by simpa using hq),oy ((Z.map lh).flatten).toArray t (by rw[eh,fu];exact ht)];simp only[List.getElem_toArray];rw[oy (lh Z[t/2]) (t % 2) h2];have h4:=(aZ.1 h3).2;exact h4.symm
theorem ad8{a b tail:aK}(h:a.length=b.length):Sort.putCells id 0 a.toArray ((b++tail).toArray)=(a++tail).toArray:=by
 apply Array.ext_getElem?;intro k;simp only[Sort.putCells,Array.getElem?_mapIdx,iM,eh];by_cases hk:k<a.length
 ·rw[bJ (by omega),bJ hk,aV (show k<b.length by omega),aV hk];simp only[dk];rw[if_pos ⟨bA _,by omega⟩,lQ,oy _ k (by simpa using hk)];simp
 ·rw[cd (by omega),cd (by omega),h];cases tail[k-b.length]? with
  | none=>rfl
  | some v=>
   simp only[dk];rw[if_neg (by omega)]
theorem QP{w:ay}{g:Nat}{e:TypeId}{b tail a:aK}(h:aH w g e (b++tail))(ha:a.length=b.length)(n:Nat)(os:Array Obj):aH (Sort.grow (Sort.putRow id (Sort.ahead w n) g 0 a.toArray) os) g e (a++tail)/\aA [g] w (Sort.grow (Sort.putRow id (Sort.ahead w n) g 0 a.toArray) os):=by
 have bX:=h.lt;refine⟨?_,rfl,rfl,rfl,by simp,fun k hk hn=>?_⟩
 ·unfold aH;rw[Sort.heap_grow_old _ _ (by simpa using bX)];show(w.heap.modify g _)[g]? =_;rw[gA,if_pos rfl];unfold aH at h;rw[h];show some (Sort.onCells _ _)=_;unfold Sort.onCells;dsimp only;rw[ad8 ha]
 ·rw[Sort.heap_grow_old _ _ (by simpa using hk)];show(w.heap.modify g _)[k]? =_;rw[gA,if_neg fun e=>hn (by simp[e])]
theorem Ip{w:ay}{g:Nat}{e:TypeId}{b tail:aK}(h:aH w g e (b++tail)):Sort.Holds id w g 0 b.toArray:=by
 intro j hj;have hj:j<b.length:=by simpa using hj
 rw[bM];refine⟨?_,?_⟩
 ·rw[h.cell,bJ hj,aV hj,oy _ j (by simpa using hj)];simp
 ·unfold World.frozen?;unfold aH at h;dsimp only;rw[h];simp
theorem Iq(x y:YV):Go.Proofs.ltOf (fun x y:YV=>Lib.compareInt x.1 y.1) x y=decide (x.1<y.1):=by
 unfold Go.Proofs.ltOf Lib.compareInt;by_cases h1:x.1<y.1
 ·simp[h1]
 ·by_cases h2:y.1<x.1<;>simp[h1,h2]
theorem Um:Sort.SWO (Go.Proofs.ltOf fun x y:YV=>Lib.compareInt x.1 y.1) where
 irrefl x:=by rw[Iq];simp
 trans x y z h1 h2:=by rw[Iq]at*;simp at*;omega
 ntrans x y z h1 h2:=by rw[Iq]at*;simp at*;omega
theorem Un{w:ay}{B:Nat}{F:aL}{s:Sl}{L:List (Int×List Int)}(h:Own B5 2 133 B w F s L)(hm:L.length<=1000000):aB au 67 #[s.v,.func (.func 68) #[] #[]] w fun e w'=>e=aq (ak #[])/\∃L':List (Int×List Int),L'.Perm L/\Own B5 2 133 B w' F s L'/\aF (jM s) w w':=by
 rcases h with⟨rfl,rfl⟩ | ⟨g,css,tail,ha,hB,hblk,yw,hn,hc,Rg,hE⟩
 ·refine(Tryz.GU none 0 _ w).mono ?_;rintro _ u ⟨rfl,hu⟩;obtain rfl:w=u:=hu.symm;exact⟨rfl,[],List.Perm.refl _,Own.nil _ _ _ _ _ _,OnlyP.refl _ _⟩
 ·obtain⟨Z,rfl,rfl,hZ⟩:=GK hE;obtain⟨sa,sn,sc⟩:=s;dsimp only at ha yw hn hc Rg;subst ha;rw[bq]at hn hm;subst hn;have hH:Sort.HoldsK lh 2 w g 0 Z.toArray:=by
   unfold Sort.HoldsK;rw[Ai];exact Ip hblk
  refine(Tryz.Rb lh (fun _=>rfl) (fun x v hv=>by
   simp only[lh,aR,bf,bU]at hv;rcases hv with rfl | rfl<;>rfl) (fun x y=>Lib.compareInt x.1 y.1) Um g 0 sc Z.toArray w (fun _ _ _ _ x y=>Tryz.UK x.1 y.1 _ _ _ _ _ _ _) hH hblk.lt (by rw[eh];omega)).mono ?_
  rintro _ w' ⟨rfl,d',n,os,⟨hsz,_,hp⟩,_,rfl⟩;have hd:d'.extract 0 Z.toArray.size=d':=by rw[<-hsz];simp
  have hz:Z.toArray.extract 0 Z.toArray.size=Z.toArray:=by simp
  rw[hd,hz]at hp;have hp:d'.toList.Perm Z:=hp;have LB:((d'.toList.map lh).flatten).length=((Z.map lh).flatten).length:=by
   rw[pA (size:=2) (fun c hc=>by obtain⟨z,_,rfl⟩:=cJ.1 hc;rfl),pA (size:=2) (fun c hc=>by obtain⟨z,_,rfl⟩:=cJ.1 hc;rfl),bq,bq,hp.length_eq]
  have ew:Go.Proofs.sortWorldK lh 2 w g 0 n d' os=Sort.grow (Sort.putRow id (Sort.ahead w n) g 0 ((d'.toList.map lh).flatten).toArray) os:=by
   unfold Go.Proofs.sortWorldK Sort.putRowK;rw[<-Ai]
  obtain⟨kc,hO⟩:=QP hblk LB n os;rw[ew];refine⟨rfl,d'.toList.map fun z=>(z.1,z.2.2),hp.map _,.inr ⟨g,d'.toList.map lh,tail,rfl,hB,kc,yw,by rw[bq,hp.length_eq],hc,Rg,QO fun z hz=>SliceF.only bN (by decide) (hZ z (hp.mem_iff.1 hz)) hO fun k hk _ hm=>hk.2 (by simpa using hm)⟩,hO.p fun x hx=>?_⟩;simp only[aO]at hx;subst hx;exact .inl rfl
section
variable {w:ay} {F G:aL} {l sa:Sl} {xs:List cM} {is:List Int}
theorem YW(h:aD rInt 1 w F sa is)(n:Int)(hm:is.length<=4611686018427387903):aB au 26 #[sa.v,O ae n] w fun e w'=>e=aq (ao (decide (n∈is)))/\w'=w:=by
 refine ret (ajF _ _ _ _ ?_);have hl:=h.len;refine⟨fun kv i u=>∃j:Nat,i=(j:Int)/\kv+j=is.length/\j<=is.length/\n∉is.take j/\w=u,is.length,⟨0,rfl,by omega,bA _,by simp,rfl⟩,?_⟩;rintro kv _ _ ⟨j,rfl,tX,hj,hn,rfl⟩;refine⟨fun hc=>?_,fun hc=>?_⟩
 ·have hc:=aP hc;have ja:j<is.length:=by omega
  obtain⟨ad,a1,a2⟩:=iQ h (aV ja);refine⟨ad,a1,_,a2,fun he=>?_,fun he=>⟨kv-1,by omega,j+1,by rw[gD (by omega) (by omega)];rfl,by omega,by omega,?_,rfl⟩⟩
  ·have he:is[j]=n:=by simpa using he
   exact⟨by rw[bK (by rw[<-he];exact eJ ja)],rfl⟩
  ·have he:¬is[j]=n:=by simpa using he
   rw[bI,aV ja,ch];rintro(h | h)
   ·exact hn h
   ·simp only[Option.toList,aO]at h;exact he h.symm
 ·have hc:=aW hc;rw[bC (by omega)]at hn;exact⟨by rw[bG hn],rfl⟩
theorem sC{w u:ay}{s:Sl}{is:List Int}{B:Nat}(h:dz B w s is)(hO:aA [] w u):dz B u s is:=h.keep bN fun k _ bX=>hO.block k bX (by simp)
end
section
variable {w:ay} {F G:aL} {l sa:Sl} {xs:List cM} {act:List Int}
theorem Wm{u:ay}{S:aL}(h:aD nq 5 w F l xs)(hO:aF S w u)(hS:∀k,F k->k<w.heap.size->¬S k):aD nq 5 u F l xs:=SliceF.mw db (by decide) h hO hS
theorem Uo(w:ay)(k:Int):aB au 109 #[O ae k] w fun e w'=>e=aq (ao (AJ k))/\w'=w:=by
 refine ret (akb _ _ _ ?_);exact⟨rfl,rfl⟩
theorem Ir{k0 t:Nat}(h:aD nq 5 w F l xs)(hB:aH w k0 t [l.v]){q:Nat}{s:cM}(hq:xs[q]? =some s):aB au 108 #[O ae (q:Int),ai (some ⟨k0,0,none⟩)] w fun e w'=>e=aq (ao (!(AJ s.k)))/\w'=w:=by
 refine ret (aka _ _ _ _ ?_);obtain⟨ad,a1,a2,_⟩:=jL h hq;refine⟨l,hB.cells 0 _ (by simp),ad,a1,s.k,a2.dZ 0 _ rfl,(Uo w s.k).mono ?_⟩;rintro _ u ⟨rfl,hu⟩;exact⟨_,rfl,rfl,hu⟩
theorem wz(h:aD nq 5 w F l xs)(hF:Sd xs){n:Nat}{x:cM}(hx:xs[n]? =some x):aB au 76 #[l.v,O ae (n:Int)] w fun e w'=>(∃(s:Sl),e=aq (Sl.v s)/\dz w.heap.size w' s (cZ xs n))/\aA [] w w':=by
 have hm:=hF.le;refine(aj1 l n (fun v w'=>(∃(s:Sl),v=Sl.v s/\dz w.heap.size w' s (cZ xs n))/\aA [] w w') w ?_).mono (by rintro _ w' ⟨v,rfl,⟨s,rfl,h⟩,h'⟩;exact⟨⟨s,rfl,h⟩,h'⟩);intro k0 w0 gU fi cK;have z0:=cK.size;refine(H8 (SliceF.only db (by decide) h cK (by simp)) hF.fo hx (by omega)).mono ?_;rintro _ w1 ⟨⟨s1,rfl,wP⟩,cF⟩;have z1:=cF.size;refine⟨s1,rfl,cF.same (by simp;omega),fun hB=>?_⟩;have NS:(eP xs n xs.length).length<=xs.length:=by
  unfold eP;rw[bq];exact bh (cQ _ _) (by rw[fE];exact aY _)
 have o1:=cK.cz cF;have h1:aD nq 5 w1 (fun k=>F k/\k<w.heap.size) l xs:=SliceF.only db (by decide) (SliceF.inHeap db h (by decide)) o1 (by simp);have NY:s1.a≠some ⟨k0,0,none⟩:=fun e=>by
  have:=(wP.blk e).1;dsimp only at this;omega
 refine(tf (f:=⟨.func (.func 108) #[] #[ai (some ⟨k0,0,none⟩)],rfl⟩) wP (by omega) ⟨fF (by kernel_rfl),fun y hy u hO=>?_⟩ (p:=fun k=>!(AJ (kd xs k))) (cap:=[ai (some ⟨k0,0,none⟩)]) rfl).mono ?_
 ·obtain⟨q,t,rfl,_,h2,_⟩:=pZ.1 hy;rw[nX h2];refine(Ir (Wm h1 hO fun k hk _ e=>?_) (hO.blk hB NY) h2).mono ?_
  ·have:=(wP.blk e).1;dsimp only at this;omega
  ·rintro _ u' ⟨rfl,hu⟩;obtain rfl:u=u':=hu.symm;exact⟨rfl,Only.refl _ _⟩
 ·rintro _ w2 ⟨s2,rfl,hsa,_,I5,dh⟩;refine⟨s2,rfl,l,dh.blk hB NY,⟨s2,rfl,?_⟩,(o1.pd (dh.mono (G:=fun k=>w.heap.size<=k) fun k _ e=>by have:=(wP.blk e).1;dsimp only at this;omega)).only fun k hk=>hk⟩;have:(eP xs n xs.length).filter (fun x=>!!(AJ (kd xs x)))=cZ xs n:=by
   unfold cZ;congr 1;funext k;rw[j7]
  rw[this]at I5;exact Own.low I5 (by omega)
end
def NB(xs:List cM)(n:Int):Bool:=decide (n>=0)&&decide (n<(xs.length:Int))&&(kd xs n==1)&&((cZ xs n.toNat).length==0)
theorem YX{xs:List cM}{a:Int}{k:Nat}:wB xs a k=true↔∃j:Nat,a=j/\k<j/\jq xs k j:=by
 unfold wB jq;rw[aX];simp only[aQ,bL];constructor
 ·rintro⟨⟨⟨_,h2⟩,h3⟩,h4⟩;obtain⟨s,hs⟩:=fO (xs:=xs) (i:=k) (by omega);rw[hs]at h4;have h4:a<s.en:=h4;exact⟨a.toNat,by omega,by omega,s,hs,by omega,by omega⟩
 ·rintro⟨j,rfl,h1,s,hs,_,h3⟩;have:=eZ hs;rw[hs];refine⟨⟨⟨by omega,by omega⟩,by omega⟩,?_⟩;exact h3
theorem YY(xs:List cM)(act:List Int):Gv (act.filter (NB xs))=Im xs act:=by
 refine Aa (MP _) (Gq _ _) fun x=>?_;unfold Im;rw[Gw,vv,dG];unfold NB lvP;constructor
 ·rintro⟨h1,h2⟩;simp only[aQ,bL]at h2;obtain⟨k,rfl⟩:∃k:Nat,x=k:=⟨x.toNat,by omega⟩
  rw[aX]at h2;exact⟨k,rfl,by omega,by simp only[aQ,bL];exact⟨⟨h1,h2.1.2⟩,h2.2⟩⟩
 ·rintro⟨k,rfl,h1,h2⟩;simp only[aQ,bL]at h2;refine⟨h2.1.1,?_⟩;rw[aX];simp only[aQ,bL];exact⟨⟨⟨by omega,by omega⟩,h2.1.2⟩,h2.2⟩
section
variable {w:ay} {F G:aL} {l sa:Sl} {xs:List cM} {act:List Int}
theorem QQ(h:aD nq 5 w F l xs)(hF:Sd xs)(n:Int):aB au 95 #[l.v,O ae n] w fun e w'=>e=aq (ao (NB xs n))/\aA [] w w':=by
 refine ret (aj7 _ _ _ _ ?_);have hl:=h.len;obtain⟨ad,k,a1,a2,a3⟩:∃(ad:Addr) (k:Int),((decide (n>=0)&&decide (n<(l.n:Int)))=true->dL l n 5 ad)/\((decide (n>=0)&&decide (n<(l.n:Int)))=true->aE w (ad.add 0) [O ae k])/\((decide (n>=0)&&decide (n<(l.n:Int)))=true->kd xs n=k/\∃s,xs[n.toNat]? =some s):=by
  by_cases hb:0<=n/\n<xs.length
  ·obtain⟨m,rfl⟩:∃m:Nat,n=m:=⟨n.toNat,by omega⟩
   obtain⟨y,hy⟩:=fO (xs:=xs) (i:=m) (by omega);obtain⟨ad,a1,a2,_⟩:=jL h hy;exact⟨ad,y.k,fun _=>a1,fun _=>a2.dZ 0 _ rfl,fun _=>⟨nX hy,y,by rw[aX];exact hy⟩⟩
  ·have hf:(decide (n>=0)&&decide (n<(l.n:Int)))=true->False:=fun hh=>by
    rw[aQ]at hh;have h1:=aP hh.1;have h2:=aP hh.2;omega
   exact⟨default,0,fun hh=>(hf hh).elim,fun hh=>(hf hh).elim,fun hh=>(hf hh).elim⟩
 refine⟨fun b u=>b=NB xs n/\aA [] w u,fun b u hh=>⟨by rw[hh.1],hh.2⟩,ad,a1,k,a2,fun hb=>?_,fun hb=>⟨?_,Only.refl _ _⟩⟩
 ·rw[aQ]at hb;obtain⟨e1,s,hs⟩:=a3 hb.1;rw[aQ]at hb;have h1:=aP hb.1.1;have h2:=aP hb.1.2;obtain⟨m,rfl⟩:∃m:Nat,n=m:=⟨n.toNat,by omega⟩
  rw[aX]at hs;refine(wz h hF hs).mono ?_;rintro _ w1 ⟨⟨s1,rfl,wP⟩,cF⟩;refine⟨s1,rfl,?_,cF⟩;unfold NB;rw[hl]at hb;rw[hb.1.1,hb.1.2,e1,hb.2,wP.len,aX,cY,cY,cY,bT,dW,dW];omega
 ·unfold NB;rw[hl]at hb a3;cases hc:decide (n>=0)&&decide (n<(xs.length:Int))with
  | false=>rfl
  | true=>
   rw[hc]at hb;rw[(a3 hc).1,hb,eu]
theorem QS(h:aD nq 5 w F l xs)(hF:Sd xs)(ha:aD rInt 1 w G sa act)(hm:act.length<=1100000):aB au 54 #[l.v,sa.v] w fun e w'=>(∃(s:Sl),e=aq (Sl.v s)/\dz w.heap.size w' s (Im xs act))/\aA [] w w':=by
 refine(ajQ l sa (fun v w'=>(∃(s:Sl),v=Sl.v s/\dz w.heap.size w' s (Im xs act))/\aA [] w w') w ?_).mono (by rintro _ w' ⟨v,rfl,⟨s,rfl,h⟩,h'⟩;exact⟨⟨s,rfl,h⟩,h'⟩);intro k0 w0 gU fi cK;have z0:=cK.size;refine(DP (kI ha cK) (by omega)).mono ?_;rintro _ w1 ⟨s1,rfl,wP,cF⟩;have z1:=cF.size;have o1:=cK.cz cF;refine⟨s1,rfl,cF.same (by simp;omega),fun hB=>?_⟩;have h1:aD nq 5 w1 (fun k=>F k/\k<w.heap.size) l xs:=SliceF.only db (by decide) (SliceF.inHeap db h (by decide)) o1 (by simp);have mz:∀{k:Nat},s1.a=some ⟨k,0,none⟩->w0.heap.size<=k:=fun e=>(wP.blk e).1;have NY:s1.a≠some ⟨k0,0,none⟩:=fun e=>by have:=mz e;omega
 refine(tf (f:=⟨.func (.func 94) #[] #[ai (some ⟨k0,0,none⟩)],rfl⟩) wP (by omega) ⟨fF (by kernel_rfl),fun y hy u hO=>?_⟩ (p:=fun k=>!(NB xs k)) (cap:=[ai (some ⟨k0,0,none⟩)]) rfl).mono ?_
 ·have hu:=Wm h1 hO fun k hk _ e=>by have:=mz e;omega
  have Vm:=hO.blk hB NY;refine(aj6 y ⟨k0,0,none⟩ (fun v w'=>v=ao (!(NB xs y))/\aA [] u w') u ?_).mono (by rintro _ w' ⟨v,rfl,rfl,h⟩;exact⟨rfl,h⟩);refine⟨l,Vm.cells 0 _ (by simp),(QQ hu hF y).mono ?_⟩;rintro _ u' ⟨rfl,hO'⟩;exact⟨_,rfl,rfl,hO'⟩
 ·rintro _ w2 ⟨s2,rfl,hsa,_,I5,dh⟩;have e2:act.filter (fun x=>!!(NB xs x))=act.filter (NB xs):=by
   congr 1;funext k;rw[j7]
  rw[e2]at I5;have re:=dh.blk hB NY;have LB:=cQ (NB xs) act;refine⟨s2,rfl,l,re,(Qx I5 (by omega)).mono ?_⟩;rintro _ w3 ⟨s3,rfl,hsb,Ej,dx⟩;rw[YY]at Ej;refine⟨s3,rfl,l,dx.blk re (by rw[hsa];exact NY),⟨s3,rfl,Own.low Ej z0⟩,?_⟩;have o2:aF (fun k=>w.heap.size<=k) w w2:=o1.pd (dh.mono fun k _ e=>by have:=mz e;omega);exact(o2.trans (dx.mono (G:=fun k=>w.heap.size<=k) fun k _ e=>by rw[hsa]at e;have:=mz e;omega) fun k hk=>.inl hk).only fun k hk=>hk
end
theorem B8:∀{L:List (Int×List Int)} {M:xo} {k:Int} {l:List Int},(L.map (·.1)).Nodup->((L.foldl (fun M x=>fun k=>if k=x.1 then some x.2 else M k) M) k=some l↔(k,l)∈L∨(k∉L.map (·.1)/\M k=some l))
 | [],M,k,l,_=>by simp
 | x::L,M,k,l,h=>by
  obtain⟨h1,h2⟩:=kw.1 h;rw[mY,B8 h2];constructor
  ·rintro(h3 | ⟨h3,h4⟩)
   ·exact .inl (.tail _ h3)
   ·by_cases e:k=x.1
    ·rw[if_pos e]at h4;injection h4 with h4;exact .inl (by rw[e,<-h4];exact .head _)
    ·rw[if_neg e]at h4;exact .inr ⟨fun hm=>(aR.1 hm).elim e h3,h4⟩
  ·rintro(h3 | ⟨h3,h4⟩)
   ·rcases aR.1 h3 with h3 | h3
    ·subst h3;exact .inr ⟨h1,if_pos rfl⟩
    ·exact .inl h3
   ·have:k≠x.1:=fun e=>h3 (by rw[e];exact .head _);exact .inr ⟨fun hm=>h3 (.tail _ hm),by rw[if_neg this];exact h4⟩
theorem Uq{L:List (Int×List Int)}{M:xo}(hn:(L.map (·.1)).Nodup)(h:∀k l,(k,l)∈L↔M k=some l):fQ L=M:=by
 funext k;have key:∀l,fQ L k=some l↔M k=some l:=fun l=>by
  unfold fQ;rw[B8 hn,<-h];exact⟨fun h=>h.elim id fun h=>(by cases h.2),.inl⟩
 cases hm:M k with
 | none=>
  cases hl:fQ L k with
  | none=>rfl
  | some l=>rw[(key l).1 hl]at hm;cases hm
 | some l=>exact(key l).2 hm
def xO(xs:List cM)(act left:List Int)(M:xo)(j:Nat):xo:=fun h=>if h<(j:Int)then uk xs act left M h else M h
def Wn(x:cM)(act left:List Int):Bool:=fL x.k&&decide (x.pa∈act)&&decide (x.pa∈left)
def Ur(xs:List cM)(x:cM)(act:List Int):List Int:=if x.k=4 then(Im xs act).filter fun k=>kB xs k x.pa else(eP xs x.pa.toNat xs.length).filter fun k=>decide (k∈act)
section
variable {xs:List cM} {act left:List Int} {M:xo}
theorem Lj{j:Nat}{x:cM}(h:xs[j]? =some x):uk xs act left M j=if Wn x act left=true then some (Ur xs x act)else M j:=by
 unfold uk;rw[if_neg (by omega),aX,h];rfl
theorem MV:xO xs act left M 0=M:=by
 funext h;unfold xO;by_cases h0:h<((0:Nat):Int)
 ·rw[if_pos h0];unfold uk;rw[if_pos (by omega)]
 ·rw[if_neg h0]
theorem QT:xO xs act left M xs.length=uk xs act left M:=by
 funext h;unfold xO;by_cases h0:h<(xs.length:Int)
 ·rw[if_pos h0]
 ·rw[if_neg h0];unfold uk;rw[if_neg (by omega),du (by omega)]
theorem Us{j:Nat}{x:cM}(h:xs[j]? =some x)(hc:Wn x act left=false):xO xs act left M (j+1)=xO xs act left M j:=by
 funext k;unfold xO;by_cases e:k=(j:Int)
 ·subst e;rw[if_pos (by omega),if_neg (by omega),Lj h,if_neg (by rw[hc];simp)]
 ·by_cases h1:k<(j:Int)
  ·rw[if_pos (by omega),if_pos h1]
  ·rw[if_neg (by omega),if_neg h1]
theorem QU{j:Nat}{x:cM}(h:xs[j]? =some x)(hc:Wn x act left=true):xO xs act left M (j+1)=fun k=>if k=(j:Int)then some (Ur xs x act)else if k=(j:Int)then none else xO xs act left M j k:=by
 funext k;unfold xO;by_cases e:k=(j:Int)
 ·subst e;rw[if_pos (by omega),if_pos rfl,Lj h,if_pos hc]
 ·rw[if_neg e,if_neg e];by_cases h1:k<(j:Int)
  ·rw[if_pos (by omega),if_pos h1]
  ·rw[if_neg (by omega),if_neg h1]
end
theorem Lk(xs:List cM)(x:cM)(act:List Int):(Ur xs x act).length<=xs.length:=by
 have hk:(eP xs x.pa.toNat xs.length).length<=xs.length:=by
  unfold eP;rw[bq];exact bh (cQ _ _) (oC fE)
 have hl:(Im xs act).length<=xs.length:=DN _ _;unfold Ur;split
 ·exact bh (cQ _ _) hl
 ·exact bh (cQ _ _) hk
section
variable {w:ay} {k1:Nat} {sa sl:Sl} {G H:aL} {act l:List Int}
theorem Wo(hB:aH w k1 32 [sa.v])(ha:aD rInt 1 w G sa act)(hl:aD rInt 1 w H sl l)(hm:l.length<=2000000):aB au 62 #[sl.v,ai (some ⟨k1,0,none⟩)] w fun e w'=>∃t:Sl,e=aq t.v/\dz w.heap.size w' t (l.filter fun k=>decide (k∈act))/\aA [] w w':=by
 refine(ajR sl ⟨k1,0,none⟩ (fun v w'=>∃t:Sl,v=t.v/\dz w.heap.size w' t (l.filter fun k=>decide (k∈act))/\aA [] w w') w ?_).mono (by rintro _ w' ⟨v,rfl,t,rfl,h⟩;exact⟨t,rfl,h⟩);refine(DP hl (by omega)).mono ?_;rintro _ w4 ⟨t,rfl,LQ,dP⟩;have z4:=dP.size;have mz:∀{q:Nat},t.a=some ⟨q,0,none⟩->w.heap.size<=q:=fun e=>(LQ.blk e).1;have nk:∀q,q<w.heap.size->¬(t.a=some ⟨q,0,none⟩):=fun q hq e=>by have:=mz e;omega
 have ke:=hB.lt;refine⟨t,rfl,(tf (f:=⟨.func (.func 63) #[] #[ai (some ⟨k1,0,none⟩)],rfl⟩) LQ hm ⟨fF (by kernel_rfl),fun y hy u hO=>?_⟩ (p:=fun y=>!decide (y∈act)) (cap:=[ai (some ⟨k1,0,none⟩)]) rfl).mono ?_⟩
 ·have cb:=hO.blk (dP.blk hB (by simp)) (nk k1 ke);have ca:=(kI (SliceF.inHeap bN ha (by decide)) dP).keep bN (by decide) fun k hk bX=>hO.block k bX (nk k hk.2);refine(ajS y ⟨k1,0,none⟩ (fun v w'=>v=ao (!decide (y∈act))/\aA [] u w') u ?_).mono (by rintro _ w' ⟨v,rfl,rfl,h⟩;exact⟨rfl,h⟩);refine⟨sa,cb.cells 0 _ (by simp),(sA ca y).mono ?_⟩;rintro _ u' ⟨rfl,h⟩;exact⟨_,rfl,rfl,h⟩
 ·rintro _ w5 ⟨s2,rfl,hsa,_,I5,eE⟩;refine⟨s2,rfl,s2,rfl,?_,(dP.pd (eE.mono (G:=fun q=>w.heap.size<=q) fun q _ e=>mz e)).only fun q hq=>hq⟩;have e:(l.filter fun x=>!(fun y=>!decide (y∈act)) x)=l.filter fun k=>decide (k∈act):=by
   congr 1;funext x;exact j7 _
  rw[<-e];exact I5
end
section
variable {w u:ay} {b r0 r1:Nat} {s si ph sr sp sa sl:Sl} {F G G' H:aL} {p:Pl} {M:xo} {S:Nat} {L:List (Int×List Int)} {act left:List Int}
theorem WkP.ND(h:WkP w b s si ph sr r0 r1 F G p M S)(hO:aA [r0] w u):Wk u b s si ph sr r0 r1/\PlR u F s si ph sr p:=by
 have n:∀k,F k->k<w.heap.size->k∉[r0]:=fun k hk _ hm=>by
  simp only[aO]at hm;exact h.nF.1 (by rw[<-hm];exact hk)
 exact⟨hO.blk h.blk (by simpa using fun e=>h.n0 e.symm),⟨SliceF.only db (by decide) h.pl.sp hO n,SliceF.only bN (by decide) h.pl.ini hO n,SliceF.only bN (by decide) h.pl.dft hO n,SliceF.only ik (by decide) h.pl.ro hO n⟩⟩
theorem MW(hP:PlR w F s si ph sr p)(sd:Sd p.sp)(A:Lg p.sp act)(ha:aD rInt 1 w G sa act)(SJ:act.length<=1000000)(hlf:aD rInt 1 w H sl left)(SC:left.length<=2000000)(hL:aD B5 2 w G' sp L)(hg:∀x,x∈L->gI x.1)(hx:∀k l,fQ L k=some l->l.length<=1000000):
  aB au 29 #[aj #[s.v,si.v,ph.v,sr.v],sa.v,sl.v,sp.v] w fun e w'=>(∃(t:Sl) (L':List (Int×List Int)),e=aq t.v/\Own B5 2 133 w.heap.size w' (fun k=>w.heap.size<=k) t L'/\fQ L'=uk p.sp act left (fQ L)/\∀x,x∈L'->gI x.1)/\aA [] w w':=by
 refine(ajI s si ph sr sa sl sp (fun v w'=>(∃(t:Sl) (L':List (Int×List Int)),v=t.v/\Own B5 2 133 w.heap.size w' (fun k=>w.heap.size<=k) t L'/\fQ L'=uk p.sp act left (fQ L)/\∀x,x∈L'->gI x.1)/\aA [] w w') w ?_).mono (by rintro _ w' ⟨v,rfl,⟨t,L',rfl,h⟩,h'⟩;exact⟨⟨t,L',rfl,h⟩,h'⟩);intro k0 k1 w0 gU fi ke jH cK;have z0:=cK.size;have ma:=sd.le;have hxn:=hP.sp.len;have hxc:=hP.sp.cap;have hxb:=hP.sp.big;refine(yu w0 s si ph sr (SliceF.only lM (by decide) hL cK (by simp)) hg).mono ?_;rintro _ w1 ⟨⟨b,r0,r1,rfl,hb,kc,h0,Xb,h1,hB,Vn,wP⟩,cF⟩;have z1:=cF.size;have W1:=Li (hP.o0 cK) hb h0 Xb h1 hB Vn wP cF;have o1:=cK.cz cF;refine⟨_,rfl,cF.same (by simp;omega),fun hBk gz=>(Wo hBk (kI ha o1) (kI hlf o1) SC).mono ?_⟩;rintro _ w2 ⟨tg,rfl,rq,dh⟩;have z2:=dh.size;have W2:=W1.o0 dh;have o2:=o1.cz dh;have cB2:=dh.blk hBk (by simp);have agy:∀y:Int,y∈(left.filter fun k=>decide (k∈act))↔y∈left/\y∈act:=fun y=>by rw[dG,cm]
 generalize Nh:(left.filter fun k=>decide (k∈act))=gone at*
 have anM:=W2.n0;have aqW:r0<w1.heap.size:=by omega
 have up0:∀{a u:ay},aA [] a u->aA [r0] a u:=fun hO=>(Only.refl [r0] _).cz hO;have P2:PastV w2 (fun k=>(G' k/\k<w0.heap.size)∨w1.heap.size<=k) r0 (fQ L):=W2.past.mono fun k hk=>.inl hk;have hQr:¬((G' r0/\r0<w0.heap.size)∨w1.heap.size<=r0):=by rintro(⟨_,h⟩ | h)<;>omega
 refine⟨tg,rfl,dh.same (by simp;omega),sa,cB2,fun kv i l2 l3 l4 l5 l6 u=>∃j:Nat,i=(j:Int)/\kv+j=p.sp.length/\j<=p.sp.length/\(s=l2/\si=l3/\ph=l4/\sr=l5/\sa=l6)/\PastV u (fun k=>(G' k/\k<w0.heap.size)∨w1.heap.size<=k) r0 (xO p.sp act left (fQ L) j)/\aA [r0] w2 u,p.sp.length,⟨0,rfl,by omega,bA _,⟨rfl,rfl,rfl,rfl,rfl⟩,by rw[MV];exact P2,Only.refl _ _⟩,?_⟩;rintro kv _ _ _ _ _ _ w3 ⟨j,rfl,tX,hj,⟨rfl,rfl,rfl,rfl,rfl⟩,I8,dx⟩;have z3:=dx.size;have o23:aA [] w w3:=o2.trans dx fun x hx=>.inr (by simp only[aO]at hx;omega);obtain⟨xy,agz⟩:=W2.ND dx;have cB3:aH w3 k1 32 [sa.v]:=dx.blk cB2 (by simp;omega);refine⟨fun hc=>?_,fun hc=>?_⟩
 ·have hc:=aP hc;have ja:j<p.sp.length:=by omega
  obtain⟨x,hx⟩:∃x,p.sp[j]? =some x:=⟨_,aV ja⟩
  refine⟨fun l7 l8 l9 l10 oh u=>(s=l7/\si=l8/\ph=l9/\sr=l10/\sa=oh)/\PastV u (fun k=>(G' k/\k<w0.heap.size)∨w1.heap.size<=k) r0 (xO p.sp act left (fQ L) (j+1))/\aA [r0] w2 u,?_,?_⟩
  ·rintro _ _ _ _ _ u ⟨⟨rfl,rfl,rfl,rfl,rfl⟩,h1,h2⟩;exact⟨kv-1,by omega,j+1,by rw[gD (by omega) (by omega)];rfl,by omega,by omega,⟨rfl,rfl,rfl,rfl,rfl⟩,h1,h2⟩
  obtain⟨ad,e1,e2,_⟩:=jL agz.sp hx;refine⟨ad,e1,_,_,_,_,_,e2,fun k5 w5 Cp G3 eE cB5=>?_⟩;have z5:=eE.size;have o35:=dx.cz eE;refine⟨fun b0 ql vC xR AK IL i5 s1 i6 i7 i8 u=>(s=ql/\si=vC/\ph=xR/\sr=AK/\sa=IL)/\i5=x.k/\i6=x.pa/\b0=!Wn x act left/\aA [] w5 u,?_,(DS w5 x.k).mono ?_⟩
  ·rintro b0 _ _ _ _ _ _ s1 _ i7 i8 w6 ⟨⟨rfl,rfl,rfl,rfl,rfl⟩,rfl,rfl,Av,ez⟩;have z6:=ez.size;have o36:=o35.cz ez;refine⟨fun ht=>⟨⟨rfl,rfl,rfl,rfl,rfl⟩,?_,o36⟩,fun hf=>?_⟩
   ·rw[Us hx (by rw[ht]at Av;simpa using Av.symm)];exact(I8.o0 eE).o0 ez
   have hcd:Wn x act left=true:=by rw[hf]at Av;simpa using Av.symm
   have aaW:=hcd;unfold Wn at aaW;simp only[aQ,bL]at aaW;obtain⟨⟨hh,U3⟩,Ng⟩:=aaW;obtain⟨pn,epa,anP,_⟩:=wu sd A U3;obtain⟨y,hy⟩:∃y,p.sp[pn]? =some y:=⟨_,aV anP⟩
   have agA:=(agz.o0 eE).o0 ez;have cB6:=ez.blk cB5 (by simp);have anQ:aD rInt 1 w6 G sa act:=kI (kI (kI ha o23) eE) ez;have hkn:(eP p.sp pn p.sp.length).length<=p.sp.length:=by
    unfold eP;rw[bq];exact bh (cQ _ _) (oC fE)
   rw[epa];refine(H8 agA.sp sd.fo hy (by omega)).mono ?_;rintro _ w7 ⟨⟨t17,rfl,anR⟩,fI⟩;have z7:=fI.size;have cB7:=fI.blk cB6 (by simp);refine⟨t17,rfl,fI.same (by simp;omega),sa,cB7,fun LG NM UT l22 l23 l24 i9 s2 i10 i11 i12 u=>(s=NM/\si=UT/\ph=l22/\sr=l23/\sa=l24)/\(∃Hf:List Int,aD rInt 1 u (fun k=>w1.heap.size<=k) LG Hf/\Hf.length<=2000000/\(Hf.filter fun k=>decide (k∈act))=Ur p.sp x act)/\aA [] w6 u,?_,fun h4=>?_,fun h4=>⟨⟨rfl,rfl,rfl,rfl,rfl⟩,⟨_,anR.sl.mono bN fun k hk=>by omega,by omega,?_⟩,fI⟩⟩
   ·rintro LG _ _ _ _ _ i9 s2 i10 i11 i12 w8 ⟨⟨rfl,rfl,rfl,rfl,rfl⟩,⟨Hf,anS,fu,hv⟩,gn⟩;have z8:=gn.size;have o38:=o36.cz gn;have hP8:=((I8.o0 eE).o0 ez).o0 gn;obtain⟨uz,_⟩:=W2.ND o38;obtain⟨w9,d1,d2,d3⟩:=PastV.drop hP8 (j:Int) hQr;have z9:=d3.size;refine⟨⟨b,0,none⟩,rfl,some r0,Blk.dZ uz 4 rfl,w9,d1,d3.same (by simp;omega),fun dI eH agB=>?_⟩;have NP:=eH.size;have aaX:aA [r0] w2 dI:=(o38.trans d3 fun x hx=>.inl hx).cz eH;obtain⟨tE,_⟩:=W2.ND aaX;have o10:aA [] w dI:=o2.trans aaX fun x hx=>.inr (by simp only[aO]at hx;omega);have anT:aD rInt 1 dI (fun k=>w1.heap.size<=k) LG Hf:=kI (SliceF.only bN (by decide) anS d3 fun k hk _ hm=>by
     simp only[aO]at hm;omega) eH
    refine⟨fun k=>k=b,⟨b,0,none⟩,rfl,rfl,some r0,Blk.dZ tE 4 rfl,(Wo agB (kI ha o10) anT fu).mono ?_⟩;rintro _ dJ ⟨t25,rfl,anU,dT⟩;have Co:=dT.size;have anV:=dT.blk agB (by simp);obtain⟨fg,f1,f2,f3⟩:=PastV.set ((d2.o0 eH).o0 dT) (k:=(j:Int)) ⟨by omega,by omega⟩ (anU.sl.mono bN (G:=fun k=>(G' k/\k<w0.heap.size)∨w1.heap.size<=k) fun k hk=>.inr (by omega)) hQr;refine⟨t25,rfl,dT.same (by simp;omega),sa,anV,bS.only dT,fg,f1,f3.same (by simp;omega),fun k hk bX=>f3.block k bX (by rw[hk];simpa using fun e=>anM e.symm),⟨rfl,rfl,rfl,rfl,rfl⟩,?_,(aaX.cz dT).trans f3 fun x hx=>.inl hx⟩;rw[QU hx hcd,<-hv];exact f2
   ·have h4:x.k=4:=by simpa using h4
    have agC:=agA.o0 fI;refine(QS agC.sp sd (kI anQ fI) (by omega)).mono ?_;rintro _ fC ⟨⟨t27,rfl,agD⟩,eS⟩;have SE:=eS.size;have agE:=eS.blk cB7 (by simp);refine⟨t27,rfl,eS.same (by simp;omega),sa,agE,fun cA cS=>?_⟩;have mz:∀{q:Nat},t27.a=some ⟨q,0,none⟩->w7.heap.size<=q:=fun e=>(agD.blk e).1;have nk:∀q,q<w7.heap.size->¬(t27.a=some ⟨q,0,none⟩):=fun q hq e=>by have:=mz e;omega
    have auY:(Im p.sp act).length<=p.sp.length:=DN _ _;have anW:=SliceF.inHeap db agC.sp (by decide);refine(tf (f:=⟨.func (.func 66) #[] #[ai (some ⟨k0,0,none⟩),ai (some ⟨k5,0,none⟩)],rfl⟩) agD (by omega) ⟨fF (by kernel_rfl),fun q hq v I7=>?_⟩ (p:=fun k=>!kB p.sp k x.pa) (cap:=[ai (some ⟨k0,0,none⟩),ai (some ⟨k5,0,none⟩)]) rfl).mono ?_
    ·have ca:=I7.blk cA (nk k0 (by omega));have cs:=I7.blk cS (nk k5 (by omega));have csp:aD nq 5 v (fun k=>(F k/\k<w0.heap.size)/\k<w7.heap.size) s p.sp:=(SliceF.only db (by decide) anW eS (by simp)).keep db (by decide) fun k hk bX=>I7.block k bX (nk k hk.2);refine(ajV q ⟨k0,0,none⟩ ⟨k5,0,none⟩ (fun c w'=>c=ao (!kB p.sp q x.pa)/\aA [] v w') v ?_).mono (by rintro _ w' ⟨c,rfl,rfl,h⟩;exact⟨rfl,h⟩);refine⟨s,Blk.dZ ca 0 rfl,_,Blk.dZ cs 2 rfl,(wl csp sd.fo q _).mono ?_⟩;rintro _ v' ⟨rfl,hv⟩;obtain rfl:v=v':=hv.symm;exact⟨_,rfl,by rw[QE,epa],Only.refl _ _⟩
    ·rintro _ fT ⟨t29,rfl,_,_,anX,dU⟩;have anZ:aA [] w7 fT:=(eS.pd (dU.mono (G:=fun q=>w7.heap.size<=q) fun q _ e=>mz e)).only fun q hq=>hq;refine⟨t29,rfl,s,si,ph,sr,dU.blk cA (nk k0 (by omega)),sa,dU.blk agE (nk k1 (by omega)),_,_,_,_,_,dU.blk cS (nk k5 (by omega)),⟨rfl,rfl,rfl,rfl,rfl⟩,⟨_,anX.sl.mono bN fun k hk=>by omega,bh (cQ _ _) (by omega),?_⟩,fI.cz anZ⟩;unfold Ur;rw[if_pos h4];have e:((Im p.sp act).filter fun k=>!(fun k=>!kB p.sp k x.pa) k)=(Im p.sp act).filter fun k=>kB p.sp k x.pa:=by
      congr 1;funext k;exact j7 _
     rw[e,Es];intro k hk;exact bK (Ui (dG.1 hk).1)
   ·have h4:x.k≠4:=by simpa using h4
    unfold Ur;rw[if_neg h4,epa,aX]
  ·rintro _ u ⟨rfl,hu⟩;obtain rfl:w5=u:=hu.symm;refine⟨_,rfl,fun _ _=>rfl,sa,cB5,fun hn=>⟨⟨rfl,rfl,rfl,rfl,rfl⟩,rfl,rfl,?_,Only.refl _ _⟩,fun hn=>?_⟩
   ·unfold Wn;have:fL x.k=false:=by simpa using hn
    rw[this];rfl
   ·have hh:fL x.k=true:=by simpa using hn
    have Ve:aD rInt 1 w5 (fun k=>w1.heap.size<=k) tg gone:=kI (SliceF.only bN (by decide) rq.sl dx fun k hk _ hm=>by
     simp only[aO]at hm;omega) eE
    refine(sA Ve x.pa).mono ?_;rintro _ iX ⟨rfl,ig⟩;refine⟨_,rfl,ig.same (by simp;omega),sa,ig.blk cB5 (by simp),⟨rfl,rfl,rfl,rfl,rfl⟩,rfl,rfl,?_,ig⟩;unfold Wn;rw[hh,cY];congr 1;rw[bT,aQ,cm,cm,cm,agy];exact and_comm
 ·have hc:=aW hc;have ja:j=p.sp.length:=by omega
  subst ja;rw[QT]at I8;have AA:∀k l,uk p.sp act left (fQ L) k=some l->l.length<=1000000:=fun k l hl=>by
   unfold uk at hl;split at hl
   ·rename_i t _;split at hl
    ·injection hl with hl;have:=Lk p.sp t act;unfold Ur at this;rw[<-hl];omega
    ·exact hx k l hl
   ·exact hx k l hl
  generalize uk p.sp act left (fQ L)=M' at*
  obtain⟨m,m1,m2,m3⟩:=I8.ex;obtain⟨fR,a1,a2,a3,a4⟩:=MapV.range (P:=au) (mty:=127) (kt:=3) (et:=32) (by kernel_rfl) m1;have z17:=a3.size;refine⟨⟨b,0,none⟩,rfl,some r0,Blk.dZ xy 4 rfl,_,fR,a1,a3.same (by simp;omega),fun Ek IM UW UX UY UZ WG u=>∃(V:List Int) (Lo:List (Int×List Int)),ItV kN gI u w3.heap.size r0 m 64 V/\Ek+V.length=64/\Lo.map (·.1)=V.reverse/\(∀k l,(k,l)∈Lo->M' k=some l)/\Own B5 2 133 fR.heap.size u (fun k=>fR.heap.size<=k) IM Lo/\aA [] w3 u/\aA [w3.heap.size] fR u,64,⟨[],[],a2,rfl,rfl,fun _ _ h=>(by cases h),Own.nil _ _ _ _ _ _,a3,Only.refl _ _⟩,?_⟩;rintro Ek IM UW UX UY UZ WG jA ⟨V,Lo,hI,aaL,hVo,hLo,hOw,lO,Xc⟩;have z18:=lO.size;have au0:=Xc.size;have an0:=lO.blk cB3 (by simp);have hVl:=ItV.len ww hI;have hLl:Lo.length=V.length:=by
   have:=bm List.length hVo;rwa[bq,List.length_reverse]at this
  rcases ItV.next (P:=au) ww hI 0 with⟨jw,Va⟩ | ⟨k,v,u1,hm,hgk,hkV,Va,Eg,hI1,hOn⟩
  ·refine .inl ⟨jA,Va,fun _ _=>rfl,(Un hOw (by omega)).mono ?_⟩;rintro _ jm ⟨rfl,L',hp,an1,mL⟩;have mz:∀{q:Nat},jM IM q->fR.heap.size<=q:=fun e=>(hOw.blk e).1;have o20:aA [] w3 jm:=(lO.pd (mL.mono (G:=fun q=>w3.heap.size<=q) fun q _ e=>by have:=mz e;omega)).only fun q hq=>hq;refine⟨rfl,fun q hq=>?_,sa,mL.blk an0 fun e=>by have:=mz e;omega,⟨IM,L',rfl,(an1.low (by omega)).mono lM fun k hk=>by omega,?_,fun x hx=>?_⟩,o23.cz o20⟩
   ·simp only[aO]at hq;subst hq;exact mL.block _ (by omega) fun e=>by have:=mz e;omega
   ·obtain⟨_,_,_,_,_,_,_,_,_,_,_,hnd,_⟩:=hI.mem;refine Uq ?_ fun k l=>?_
    ·rw[(hp.map _).nodup_iff,hVo];exact(List.reverse_perm V).nodup_iff.2 hnd
    ·rw[hp.mem_iff];refine⟨hLo k l,fun hk=>?_⟩;have I4:(m k).isSome=true:=by
      obtain⟨t,e,_⟩:=m3 k l hk;rw[e];rfl
     have hkV:=jw k I4;have:k∈Lo.map (·.1):=by rw[hVo];exact wS.2 hkV
     obtain⟨⟨k',l'⟩,NW,e⟩:=cJ.1 this;dsimp only at e;subst e;have:=hLo k' l' NW;rw[hk]at this;injection this with this;rw[this];exact NW
   ·have IG:=hp.mem_iff.1 hx;obtain⟨t,e,_⟩:=m3 x.1 x.2 (hLo x.1 x.2 IG);exact MapV.ok m1 ww (k:=x.1) (by rw[e];simp)
  ·have hMk:∃l,M' k=some l:=by
    cases e:M' k with
    | none=>rw[m2 k e]at hm;cases hm
    | some l=>exact⟨l,rfl⟩
   obtain⟨l,hl⟩:=hMk;obtain⟨t,et,ht⟩:=m3 k l hl;rw[hm]at et;injection et with et;subst et;have zn:=hOn.size;have an2:=ItV.len ww hI1;rw[bp]at an2;have on:aA [] w3 u1:=lO.trans hOn fun x hx=>.inr (by simp only[aO]at hx;omega);have on':aA [w3.heap.size] fR u1:=Xc.trans hOn fun x hx=>.inl hx;have cBn:=on.blk cB3 (by simp);refine .inr ⟨⟨kN k,rfl⟩,⟨t.v,rfl⟩,u1,Va,hOn.same (by simp;omega),⟨kN k,rfl⟩,⟨t.v,rfl⟩,u1,Eg,fun _ _=>rfl,k,rfl,t,rfl,(DP (kI ht on) (by have:=AA k l hl;omega)).mono ?_⟩;rintro _ nH ⟨t45,rfl,an3,jX⟩;have z23:=jX.size;have agG:Own B5 2 133 fR.heap.size nH (fun k=>fR.heap.size<=k) IM Lo:=hOw.keep lM fun q hq bX=>by
    have hq:fR.heap.size<=q:=by rcases hq with hq | hq<;>omega
    rw[jX.block q (by omega) (by simp),hOn.block q bX (by simp;omega)]
   obtain⟨y,ot,b1,b3,s',nB,g1,g2,⟨gs,g3,g4⟩,g5⟩:=jj (P:=au) (t:=77) (ty:=77) (e:=133) (i:=Tryz.t133) (bytes:=32) (size:=2) (r:=B5) (G:=fun q=>u1.heap.size<=q) (v:=aj #[O ae k,t45.v]) (x:=(k,l)) (by kernel_rfl) (by kernel_rfl) rfl rfl rfl rfl (by decide) (by decide) (by decide) lM agG (by omega) rfl ⟨t45,rfl,an3.sl⟩ (fun q hq _=>⟨by omega,fun e=>by have:=(hOw.blk e).2;dsimp only at this;omega⟩) (by omega);have z24:=b3.size;have rm:∀q,q∈gs->fR.heap.size<=q:=fun q hq=>(g4 q hq).2.1;have o25:aA [] u1 nB∨True:=.inr trivial;have c1:∀q,q<fR.heap.size->q<jA.heap.size->nB.heap[q]? =u1.heap[q]? :=fun q hq hq'=>by
    rw[g3.block q (by omega) fun e=>by have:=rm q e;omega,b3.block q (by omega) (by simp),jX.block q (by omega) (by simp)]
   have z25:=g3.size;refine⟨t45,rfl,jX.same (by simp;omega),sa,jX.blk cBn (by simp),y,ot,b1,b3.same (by simp;omega),s',nB,g1,fun q hq=>g3.block q ?_ fun e=>?_,Ek-1,by omega,k::V,Lo++[(k,l)],hI1.keep (c1 _ (by omega) (by omega)) (c1 _ (by omega) (by omega)),by rw[bp];omega,?_,fun k' l' h'=>?_,g2.mono lM fun q hq=>hq.elim id fun h=>by omega,?_,?_⟩
   ·simp only[aR,bf,bU]at hq;rcases hq with rfl | rfl<;>omega
   ·simp only[aR,bf,bU]at hq;have:=rm q e;rcases hq with rfl | rfl<;>omega
   ·rw[da,hVo,List.reverse_cons];rfl
   ·rcases ch.1 h' with h' | h'
    ·exact hLo k' l' h'
    ·rw[aO]at h';injection h' with e1 e2;rw[e1,e2];exact hl
   ·exact((on.cz jX).cz b3).trans g3 fun q hq=>.inr (by have:=rm q hq;omega)
   ·exact((on'.cz jX).cz b3).trans g3 fun q hq=>.inr (rm q hq)
end
end Go.Proofs.YtbkjcdocjfknfaaGreatDoor.Con
set_option linter.unusedSectionVars false
namespace Go.Proofs.YtbkjcdocjfknfaaGreatDoor.Con
open Go.Value renaming int->O,string->ah,pointer->ai,agg->aj,tuple->ak,bool->ao
open Go.IntKind renaming i64->ae,wrap->av
open Go.Ending renaming returned->aq
open _root_.ByteArray renaming mk->ar
open _root_.Go.Proofs.Tryz renaming prog->au
open Go.Instr renaming buildSlice->aw
open Go renaming World->ay,Value->az,Calls->aB
open Go.Kt renaming Only->aA,SliceF->aD,Cells->aE,OnlyP->aF,Blk->aH
open Go Go.RowKit Go.Kt Go.Kt.V Go.Proofs.YtbkjcdocjfknfaaGreatDoor.Vc
set_option linter.unusedSimpArgs false
set_option linter.unusedVariables false
set_option linter.unusedSectionVars false
set_option maxHeartbeats 4000000
set_option maxRecDepth 100000
def upK(xs:List cM)(i:Nat):Nat:=qZ (Sp xs.length fun k=>decide (k<i)&&PL xs k i)
def dnK(xs:List cM)(i:Nat):Nat:=qZ (Sp xs.length fun k=>decide (i<k)&&PL xs i k)
def rgK(xs:List cM)(i:Nat):Nat:=qZ (cZ xs i)
structure Ce where
 k:Int
 pa:Int
 up:Nat
 dn:Nat
 rg:Nat
 ini:Int
 dft:Int
 f0:Nat
 f1:Nat
def aky(p:Pl)(a e:Nat)(b:Nb):Ce:=⟨b.k,FT p.sp a,upK p.sp a,dnK p.sp a,rgK p.sp a,(p.ini[a]?).getD 0,(p.dft[a]?).getD 0,e,e+b.mv.length⟩
mutual
def nMo:Nd->Nat
 | .mk b l=>b.mv.length+ad9 l
def ad9:List Nd->Nat
 | []=>0
 | x::l=>nMo x+ad9 l
end
mutual
def ceN(p:Pl):Nat->Nat->Nd->List Ce
 | a,e,.mk b l=>aky p a e b::aea p (a+1) (e+b.mv.length) l
def aea(p:Pl):Nat->Nat->List Nd->List Ce
 | _,_,[]=>[]
 | a,e,x::l=>ceN p a e x++aea p (a+iO x) (e+nMo x) l
end
def exM(xs:List cM)(r:Ro):Nat:=if 0<=r.dom then dnK xs r.dom.toNat else 0
structure Cb (w:ay) (c:Nat) (F G H:aL) (s si sd sr sa sm:Sl) (p:Pl) (act:List Int) (may:List Bool):Prop where
 blk:aH w c 119 [s.v,si.v,sd.v,sr.v,sa.v,sm.v]
 pl:PlR w F s si sd sr p
 act:aD rInt 1 w G sa act
 may:aD Wh 1 w H sm may
structure aq3 (ro:List Ro) (st:List Int×List Int):Prop where
 a:∀x,x∈st.1->∃(n:Nat) (r:Ro),x=n/\ro[n]? =some r
 b:∀x,x∈st.2->x∈st.1
 c:st.1.Nodup
 d:st.2.length<=st.1.length
def Dj(w:ay):Prop:=Lib.TabIs au w "math/bits.deBruijn64tab" .u8 (Lib.deBruijn64tab.map fun x:Nat=>(x:Int))
theorem YZ:Tryz.prog.globalNamed "math/bits.deBruijn64tab" =some 0:=by kernel_rfl
theorem Dj.keep{w w':ay}(h:Dj w)(hk:0<w.heap.size->w'.heap[0]? =w.heap[0]?):Dj w':=by
 unfold Dj Lib.TabIs World.var? at h⊢;rw[YZ]at h⊢;simp only[lP]at h⊢;rw[hk]
 ·exact h
 ·refine cq fun hn=>?_;rw[eW (by omega)]at h;cases h
theorem Dj.only{w w':ay}(h:Dj w)(hO:aA [] w w'):Dj w':=h.keep fun bX=>hO.block _ bX (by simp)
end Go.Proofs.YtbkjcdocjfknfaaGreatDoor.Con
namespace Go.Kt
open Go renaming World->ay,Value->az
open Go Go.RowKit
set_option linter.unusedSimpArgs false
set_option linter.unusedVariables false
end Go.Kt
namespace Go.Proofs.YtbkjcdocjfknfaaGreatDoor.Con
open Go.Value renaming int->O,string->ah,pointer->ai,agg->aj,tuple->ak,bool->ao
open Go.IntKind renaming i64->ae,wrap->av
open Go.Ending renaming returned->aq
open _root_.ByteArray renaming mk->ar
open _root_.Go.Proofs.Tryz renaming prog->au
open Go.Instr renaming buildSlice->aw
open Go renaming World->ay,Value->az,Calls->aB
open Go.Kt renaming Only->aA,SliceF->aD,Cells->aE,OnlyP->aF,Blk->aH
open Go Go.RowKit Go.Kt Go.Kt.V Go.Proofs.YtbkjcdocjfknfaaGreatDoor.Vc
set_option linter.unusedSimpArgs false
set_option linter.unusedVariables false
set_option linter.unusedSectionVars false
set_option maxHeartbeats 4000000
set_option maxRecDepth 100000
def rCe:Rp Ce:=fun _ _ x cs=>∃en lv:Sl,cs=[O ae x.k,O ae x.pa,.int .u64 (x.up:Nat),.int .u64 (x.dn:Nat),.int .u64 (x.rg:Nat),O ae x.ini,O ae x.dft,en.v,lv.v,O ae (x.f0:Nat),O ae (x.f1:Nat)]
def rEd:Rp Nat:=fun _ _ x cs=>cs[7]? =some (.int .u64 (x:Int))/\∀v,v∈cs->v.oneCell'=true
structure Ma (w:ay) (b:Nat) (F:aL) (sn sv su sc se s si sd sr:Sl) (nm:List (aJ)) (ce:List Ce) (ed:List Nat) (p:Pl):Prop where
 blk:aH w b 93 [sn.v,sv.v,su.v,sc.v,se.v,s.v,si.v,sd.v,sr.v]
 pl:PlR w F s si sd sr p
 hF:∀k,F k->k<w.heap.size/\k≠b/\¬Q3 sn sc se k
 n:Own kz 1 9 (b+1) w (fun _=>False) sn nm
 c:Own rCe 11 44 (b+1) w (fun _=>False) sc ce
 e:Own rEd 16 66 (b+1) w (fun _=>False) se ed
 ap:∀k,jM sn k->¬jM sc k/\¬jM se k
 ap2:∀k,jM sc k->¬jM se k
section
variable {w w' u:ay} {F:aL} {sn sv su sc se s si sd sr sn' sc' se':Sl} {b:Nat} {nm nm':List (aJ)} {ce ce':List Ce} {ed ed':List Nat} {p:Pl}
theorem Ma.bn(h:Ma w b F sn sv su sc se s si sd sr nm ce ed p):∀k,jM sn k->b<k/\k<w.heap.size:=fun k e=>by have:=h.n.blk e;dsimp only at this;omega
theorem Ma.bc(h:Ma w b F sn sv su sc se s si sd sr nm ce ed p):∀k,jM sc k->b<k/\k<w.heap.size:=fun k e=>by have:=h.c.blk e;dsimp only at this;omega
theorem Ma.be(h:Ma w b F sn sv su sc se s si sd sr nm ce ed p):∀k,jM se k->b<k/\k<w.heap.size:=fun k e=>by have:=h.e.blk e;dsimp only at this;omega
theorem Ma.q3(h:Ma w b F sn sv su sc se s si sd sr nm ce ed p):∀k,Q3 sn sc se k->b<k/\k<w.heap.size:=fun k hk=>hk.elim (h.bn k) fun hk=>hk.elim (h.bc k) (h.be k)
end
theorem It{w w':ay}{a:Addr}{v:az}{cs:aK}(h:aE w a (v::cs))(hO:aA [] w w'):aE w' a (v::cs):=h.keep (hO.block _ (by
 have:=h 0 v rfl;unfold World.cell? at this;refine cq fun hn=>?_;rw[show(a.add 0).block=a.block from rfl,eW (by omega)]at this;cases this) (by simp))
section
variable {w u:ay} {F:aL} {sn sv su sc se s si sd sr:Sl} {b:Nat} {nm:List (aJ)} {ce:List Ce} {ed:List Nat} {p:Pl}
structure Two (w:ay) (b:Nat) (sn sc:Sl) (nm:List (aJ)) (ce:List Ce) (x:aJ) (y:Ce) (sn' sc':Sl) (u:ay):Prop where
 n:Own kz 1 9 (b+1) u (fun _=>False) sn' (nm++[x])
 c:Own rCe 11 44 (b+1) u (fun _=>False) sc' (ce++[y])
 o:aF (fun k=>jM sn k∨jM sc k) w u
 n1:∀k,jM sn' k->jM sn k∨w.heap.size<=k
 c1:∀k,jM sc' k->jM sc k∨w.heap.size<=k
 ap:∀k,jM sn' k->¬jM sc' k
end
def rI0:Rp Int:=fun _ _ x cs=>cs=[O ae x]
theorem Y1:rI0.Ok where
 keep h _:=h
 inHeap h:=h
 mono h _:=h
 one:=by
  rintro w F x cs h v hv;unfold rI0 at h;subst h;simp only[aO]at hv;subst hv;rfl
structure Vs (A:Nat) (u:ay) (sv su:Sl) (n:Nat):Prop where
 v:∃xs,Own kz 1 9 A u (fun _=>False) sv xs/\xs.length=n
 u:∃xs,Own rI0 1 3 A u (fun _=>False) su xs/\xs.length=n
 ap:∀k,jM sv k->¬jM su k
section
variable {A n:Nat} {w:ay} {sv su:Sl}
theorem Vs.only{w':ay}{bs:List Nat}(h:Vs A w sv su n)(hO:aA bs w w')(hb:∀k,k∈bs->k<A):Vs A w' sv su n:=by
 obtain⟨⟨x1,a1,a2⟩,⟨x2,b1,b2⟩,c⟩:=h;exact⟨⟨x1,a1.keep dD fun k hk bX=>hO.block k bX fun e=>(by have:=hb k e;have:=(hk.resolve_left id).1;omega),a2⟩,⟨x2,b1.keep Y1 fun k hk bX=>hO.block k bX fun e=>(by have:=hb k e;have:=(hk.resolve_left id).1;omega),b2⟩,c⟩
end
structure TbR (w:ay) (F:aL) (sn sc se:Sl) (c:Ch):Prop where
 tn:aD kz 1 w F sn ((vu c.root).map fun b=>b.nm)
 tc:aD rCe 11 w F sc (ceN (dB c) 0 0 c.root)
 te:aD rEd 16 w F se ((Qq (cX c) 0 c.root).map (exM (cX c)))
end Go.Proofs.YtbkjcdocjfknfaaGreatDoor.Con
set_option linter.unusedSectionVars false
namespace Go.Proofs.YtbkjcdocjfknfaaGreatDoor.Con
open Go.Value renaming int->O,string->ah,pointer->ai,agg->aj,tuple->ak,bool->ao
open Go.IntKind renaming i64->ae,wrap->av
open Go.Ending renaming returned->aq
open _root_.ByteArray renaming mk->ar
open _root_.Go.Proofs.Tryz renaming prog->au
open Go.Instr renaming buildSlice->aw
open Go renaming World->ay,Value->az,Calls->aB
open Go.Kt renaming Only->aA,SliceF->aD,Cells->aE,OnlyP->aF,Blk->aH
open Go Go.RowKit Go.Kt Go.Kt.V Go.Proofs.YtbkjcdocjfknfaaGreatDoor.Vc
set_option linter.unusedSimpArgs false
set_option linter.unusedVariables false
set_option linter.unusedSectionVars false
set_option maxHeartbeats 1600000
set_option maxRecDepth 100000
def pk:List Nat->Nat
 | []=>0
 | a::l=>a+256*pk l
def Ey(a:Nat):Nat:=(a/2&&& 85)+(a&&& 85)
def ul(a:Nat):Nat:=(a/4&&& 51)+(a&&& 51)
def QV(a:Nat):Nat:=(a/16+a)&&& 15
theorem Y2(k:Int):0<=bits .and ae k 1048575:=by
 have h:(BitVec.ofInt 64 k&&& BitVec.ofInt 64 1048575).toNat<=1048575:=by
  rw[BitVec.toNat_and];exact Nat.and_le_right
 show 0<=IntKind.i64.wrap (((BitVec.ofInt 64 k&&& BitVec.ofInt 64 1048575).toNat:Nat):Int);rw[gD (by omega) (by omega)];omega
section
variable {xs:List cM} (sd:Sd xs) (hl:xs.length<=64) {act:List Int} (A:Lg xs act)
include sd hl A
theorem GL{k:Nat}:(qZ act).testBit k=true↔(k:Int)∈act:=by
 rw[qc,cm];refine⟨fun h=>h.2,fun h=>⟨?_,h⟩⟩;have:=(A.at_ k h).lt;omega
theorem MX:gX (qZ act)=act:=Aa (uj _) A.rise fun x=>by
 rw[lK];constructor
 ·rintro⟨k,rfl,_,hk⟩;exact(GL sd hl A).1 hk
 ·intro h;have h1:=(A.at_ x h).ge;have h2:=(A.at_ x h).lt;obtain⟨k,rfl⟩:∃k:Nat,x=k:=⟨x.toNat,by omega⟩
  exact⟨k,rfl,by omega,(GL sd hl A).2 h⟩
end
def gN(W:Int->Nat):List Int->Nat
 | []=>0
 | r::l=>W r+gN W l
def ir(W:Int->Nat):List Int->Nat
 | []=>1
 | r::l=>W r*ir W l
theorem wA(W:Int->Nat)(r:Int):∀l,gN W (l++[r])=gN W l+W r
 | []=>by simp[gN]
 | x::l=>by rw[ck,gN,gN,wA W r l,eM]
theorem wC(W:Int->Nat)(r:Int):∀l,ir W (l++[r])=ir W l*W r
 | []=>by simp[ir]
 | x::l=>by rw[ck,ir,ir,wC W r l,EG]
theorem Aj{W V:Int->Nat}:∀{l:List Int},(∀r,r∈l->W r=V r)->gN W l=gN V l
 | [],_=>rfl
 | x::l,h=>by rw[gN,gN,h x (.head _),Aj fun r hr=>h r (.tail _ hr)]
theorem Ak{W V:Int->Nat}:∀{l:List Int},(∀r,r∈l->W r=V r)->ir W l=ir V l
 | [],_=>rfl
 | x::l,h=>by rw[ir,ir,h x (.head _),Ak fun r hr=>h r (.tail _ hr)]
theorem B9(W:Int->Nat):∀(l:List Int) (j:Nat),gN W (l.take j)<=gN W l
 | [],j=>by simp[gN]
 | x::l,0=>by simp[gN]
 | x::l,j+1=>by rw[fD,gN,gN];have:=B9 W l j;omega
theorem Al{W:Int->Nat}:∀{l:List Int},(∀r,r∈l->0<W r)->0<ir W l
 | [],_=>Nat.one_pos
 | x::l,h=>by rw[ir];exact Nat.mul_pos (h x (.head _)) (Al fun r hr=>h r (.tail _ hr))
theorem Ca{W:Int->Nat}:∀{l:List Int} (j:Nat),(∀r,r∈l->0<W r)->ir W (l.take j)<=ir W l
 | [],j,_=>by simp[ir]
 | x::l,0,h=>by rw[dr];exact Al h
 | x::l,j+1,h=>by rw[fD,ir,ir];exact Em _ (Ca j fun r hr=>h r (.tail _ hr))
def wy(xs:List cM):Nat->Nat->Nat
 | 0,_=>1
 | f+1,n=>if(cZ xs n).length=0 then 1 else if kd xs n=2 then ir (fun r=>wy xs f r.toNat) (cZ xs n)else gN (fun r=>wy xs f r.toNat) (cZ xs n)
def W(xs:List cM)(r:Int):Nat:=wy xs xs.length r.toNat
section
variable {xs:List cM}
theorem Ll(hF:Sd xs):∀(f g n:Nat),xs.length<=n+f->xs.length<=n+g->wy xs f n=wy xs g n
 | 0,0,_,_,_=>rfl
 | 0,g+1,n,hf,_=>by
  have:cZ xs n=[]:=jK.2 fun r hr=>by
   obtain⟨q,t,_,h2,_,_,h5,_⟩:=hF.Iy hr;have:=eZ h2;omega
  rw[wy,wy,this];rfl
 | f+1,0,n,_,hg=>by
  have:cZ xs n=[]:=jK.2 fun r hr=>by
   obtain⟨q,t,_,h2,_,_,h5,_⟩:=hF.Iy hr;have:=eZ h2;omega
  rw[wy,wy,this];rfl
 | f+1,g+1,n,hf,hg=>by
  have key:∀r,r∈cZ xs n->wy xs f r.toNat=wy xs g r.toNat:=fun r hr=>by
   obtain⟨q,t,rfl,_,_,_,h5,_⟩:=hF.Iy hr;rw[aX];exact Ll hF f g q (by omega) (by omega)
  rw[wy,wy,Aj key,Ak key]
theorem Sd.Zh(hF:Sd xs)(n:Nat):W xs n=if(cZ xs n).length=0 then 1 else if kd xs n=2 then ir (W xs) (cZ xs n)else gN (W xs) (cZ xs n):=by
 have h1:W xs n=wy xs (xs.length+1) n:=by
  unfold W;rw[aX];exact Ll hF _ _ n (by omega) (by omega)
 rw[h1,wy];rfl
def mQ(xs:List cM)(r:Int):Nat:=(Gs xs r-r).toNat
theorem Y3{x y:Nat}(hx:2<=x)(hy:2<=y):x+y<=x*y:=by
 obtain⟨a,rfl⟩:∃a,x=a+2:=⟨x-2,by omega⟩
 obtain⟨b,rfl⟩:∃b,y=b+2:=⟨y-2,by omega⟩
 rw[eC,Nat.mul_add];have:=bA (a*b);omega
theorem qQ{m:Nat}(h:1<=m):2<=2 ^ m:=by
 have:=Be (n:=2) (by decide) h;simpa using this
theorem DT{V:Int->Nat}{z:Int->Nat}:∀{l:List Int},(∀r,r∈l->2*V r<=2 ^ z r/\1<=z r)->l≠[]->2*gN V l<=2 ^ (gN z l)
 | [],_,h=>absurd rfl h
 | [x],h,_=>by simpa[gN]using(h x (.head _)).1
 | x::y::l,h,_=>by
  have h1:=h x (.head _);have ih:=DT (l:=y::l) (fun r hr=>h r (.tail _ hr)) (by simp);have hz:1<=gN z (y::l):=by
   have:=(h y (.tail _ (.head _))).2;rw[gN];omega
  have e1:gN V (x::y::l)=V x+gN V (y::l):=rfl;have e2:gN z (x::y::l)=z x+gN z (y::l):=rfl;rw[e1,e2,Nat.pow_add];have:=Y3 (qQ h1.2) (qQ hz);omega
theorem DU{V:Int->Nat}{z:Int->Nat}:∀{l:List Int},(∀r,r∈l->2*V r<=2 ^ z r/\1<=z r)->l≠[]->2*ir V l<=2 ^ (gN z l)
 | [],_,h=>absurd rfl h
 | [x],h,_=>by simpa[gN,ir]using(h x (.head _)).1
 | x::y::l,h,_=>by
  have h1:=h x (.head _);have ih:=DU (l:=y::l) (fun r hr=>h r (.tail _ hr)) (by simp);have e1:ir V (x::y::l)=V x*ir V (y::l):=rfl;have e2:gN z (x::y::l)=z x+gN z (y::l):=rfl;rw[e1,e2,Nat.pow_add];have:2*(V x*ir V (y::l))<=(2*V x)*(2*ir V (y::l)):=by
   rw[EG,Nat.mul_left_comm (V x) 2];have:=bA (V x*ir V (y::l));omega
  exact bh this (Nat.mul_le_mul h1.1 ih)
theorem Wp{z:Int->Nat}{en:Int->Int}:∀{l:List Int} {lo hi:Int},l.Pairwise (fun a b=>en a<=b)->(∀r,r∈l->lo<=r/\en r<=hi/\(z r:Int)=en r-r)->lo<=hi->(gN z l:Int)<=hi-lo
 | [],lo,hi,_,_,h=>by rw[gN];omega
 | x::l,lo,hi,hp,hm,h=>by
  rw[fp]at hp;have hx:=hm x (.head _);have:=Wp (l:=l) (lo:=en x) (hi:=hi) hp.2 (fun r hr=>⟨hp.1 r hr,(hm r (.tail _ hr)).2⟩) hx.2.1;rw[gN];omega
theorem Sd.Ly(hF:Sd xs){n:Nat}{s:cM}(hs:xs[n]? =some s):(gN (mQ xs) (cZ xs n):Int)<=s.en-n-1:=by
 have hu:=hF.fo.up n s hs;have:=Wp (z:=mQ xs) (en:=Gs xs) (l:=cZ xs n) (lo:=n+1) (hi:=s.en) (hF.um n (ta xs n) fun r hr=>hr) (fun r hr=>by
  obtain⟨q,t,rfl,h2,_,_,h5,h6⟩:=hF.Iy hr;have h7:=hF.fo.up q t h2;have h8:=hF.fo.Y8 q hs h2 h5 (h6 s hs);unfold mQ;rw[nY h2];exact⟨by omega,h8,by omega⟩) (by omega)
 omega
theorem Sd.Lz(hF:Sd xs):∀(f n:Nat) {s:cM},xs[n]? =some s->1<=wy xs f n/\2*wy xs f n<=2 ^ mQ xs n
 | 0,n,s,hs=>by
  have hu:=hF.fo.up n s hs;have:1<=mQ xs n:=by unfold mQ;rw[nY hs];omega
  rw[wy];exact⟨aY _,qQ this⟩
 | f+1,n,s,hs=>by
  have hu:=hF.fo.up n s hs;have hz:1<=mQ xs n:=by unfold mQ;rw[nY hs];omega
  rw[wy];split
  ·exact⟨aY _,qQ hz⟩
  rename_i gz;have Vj:cZ xs n≠[]:=fun e=>gz (by rw[e];rfl);have key:∀r,r∈cZ xs n->2*wy xs f r.toNat<=2 ^ mQ xs r/\1<=mQ xs r:=fun r hr=>by
   obtain⟨q,t,rfl,h2,_⟩:=hF.Iy hr;have h7:=hF.fo.up q t h2;rw[aX];exact⟨(hF.Lz f q h2).2,by unfold mQ;rw[nY h2];omega⟩
  have pos:∀r,r∈cZ xs n->0<wy xs f r.toNat:=fun r hr=>by
   obtain⟨q,t,rfl,h2,_⟩:=hF.Iy hr;rw[aX];exact(hF.Lz f q h2).1
  have ma:2 ^ gN (mQ xs) (cZ xs n)<=2 ^ mQ xs n:=Be (by decide) (by
   have:=hF.Ly hs;unfold mQ at*
   rw[nY hs];omega)
  split
  ·exact⟨Al pos,bh (DU key Vj) ma⟩
  ·refine⟨?_,bh (DT key Vj) ma⟩;cases hr:cZ xs n with
   | nil=>exact absurd hr Vj
   | cons x l=>
    have:=pos x (by rw[hr];exact .head _);rw[gN];omega
theorem Sd.Rc(hF:Sd xs){n:Nat}{s:cM}(hs:xs[n]? =some s):1<=W xs n:=by
 unfold W;rw[aX];exact(hF.Lz _ n hs).1
theorem Sd.Wx(hF:Sd xs){n:Nat}{s:cM}(hs:xs[n]? =some s):gN (W xs) (cZ xs n)<=4611686018427387904/\ir (W xs) (cZ xs n)<=4611686018427387904:=by
 have key:∀r,r∈cZ xs n->2*W xs r<=2 ^ mQ xs r/\1<=mQ xs r:=fun r hr=>by
  obtain⟨q,t,rfl,h2,_⟩:=hF.Iy hr;have h7:=hF.fo.up q t h2;unfold W;rw[aX];exact⟨(hF.Lz _ q h2).2,by unfold mQ;rw[nY h2];omega⟩
 have ma:2 ^ gN (mQ xs) (cZ xs n)<=2 ^ 63:=Be (by decide) (by
  have:=hF.Ly hs;have hu:=hF.fo.up n s hs;have:=hF.le;omega)
 by_cases hr:cZ xs n=[]
 ·rw[hr];exact⟨bA _,by rw[ir];decide⟩
 ·have h1:=DT key hr;have h2:=DU key hr;have e63:2 ^ 63=9223372036854775808:=by decide
  rw[e63]at ma;omega
theorem Sd.Zj(hF:Sd xs){n:Nat}{s:cM}(hs:xs[n]? =some s):W xs n<=4611686018427387904:=by
 rw[hF.Zh n];have:=hF.Wx hs;split
 ·decide
 ·split
  ·exact this.2
  ·exact this.1
theorem Sd.Re(hF:Sd xs){n:Nat}{r:Int}(hr:r∈cZ xs n):0<W xs r:=by
 obtain⟨q,t,rfl,h2,_⟩:=hF.Iy hr;exact hF.Rc h2
def pick(V:Int->Nat):List Int->Nat->Option (Int×Nat)
 | [],_=>none
 | r::l,k=>if k<V r then some (r,k)else pick V l (k-V r)
def jo(V:Int->Nat):List Int->Nat->List Nat×Nat
 | [],k=>([],k)
 | r::l,k=>((jo V l k).2 % V r::(jo V l k).1,(jo V l k).2/V r)
def jf(xs:List cM):Nat->Nat->Nat->List Int
 | 0,n,_=>[(n:Int)]
 | f+1,n,k=>(n:Int)::if kd xs n=1 then(match pick (W xs) (cZ xs n) k with
  | some (r,k')=>jf xs f r.toNat k'
  | none=>[])else((cZ xs n).zip (jo (W xs) (cZ xs n) k).1).flatMap fun p=>jf xs f p.1.toNat p.2
def NC(xs:List cM)(act:List Int)(par:Bool)(rec:Int->Nat):List Int->Nat->Nat
 | [],k=>k
 | r::l,k=>if par then NC xs act par rec l (k*W xs r+rec r)else if r∈act then k+rec r else NC xs act par rec l (k+W xs r)
def Wq(xs:List cM)(act:List Int):Nat->Nat->Nat
 | 0,_=>0
 | f+1,n=>NC xs act (kd xs n==2) (fun r=>Wq xs act f r.toNat) (cZ xs n) 0
theorem vw{V:Int->Nat}:∀{l:List Int} {k:Nat} {r:Int} {k':Nat},pick V l k=some (r,k')->r∈l/\k'<V r
 | [],_,_,_,h=>by cases h
 | x::l,k,r,k',h=>by
  rw[pick]at h;split at h
  ·injection h with h;injection h with h1 h2;subst h1 h2;exact⟨.head _,by assumption⟩
  ·obtain⟨h1,h2⟩:=vw h;exact⟨.tail _ h1,h2⟩
theorem DV(hF:Sd xs):∀(f n k:Nat) {s:cM},xs[n]? =some s->(jf xs f n k).Pairwise (· <·)/\∀x,x∈jf xs f n k->(n:Int)<=x/\x<s.en
 | 0,n,k,s,hs=>by
  have:=hF.fo.up n s hs;rw[jf];exact⟨by simp,fun x hx=>by rw[aO]at hx;omega⟩
 | f+1,n,k,s,hs=>by
  have hu:=hF.fo.up n s hs;rw[jf];have key:∀(r:Int) (d:Nat),r∈cZ xs n->(jf xs f r.toNat d).Pairwise (· <·)/\(∀x,x∈jf xs f r.toNat d->r<=x/\x<Gs xs r)/\(n:Int)<r/\Gs xs r<=s.en:=fun r d hr=>by
   obtain⟨q,t,rfl,h2,_,_,h5,h6⟩:=hF.Iy hr;rw[aX,nY h2];obtain⟨h7,h8⟩:=DV hF f q d h2;exact⟨h7,h8,by omega,hF.fo.Y8 q hs h2 h5 (h6 s hs)⟩
  have fin:∀(L:List Int),L.Pairwise (· <·)->(∀x,x∈L->(n:Int)<x/\x<s.en)->((n:Int)::L).Pairwise (· <·)/\∀x,x∈(n:Int)::L->(n:Int)<=x/\x<s.en:=fun L h1 h2=>⟨fp.2 ⟨fun x hx=>(h2 x hx).1,h1⟩,fun x hx=>by
   rw[aR]at hx;rcases hx with rfl | hx
   ·omega
   ·have:=h2 x hx;omega⟩
  split
  ·cases hp:pick (W xs) (cZ xs n) k with
   | none=>exact fin [] (by simp) (by simp)
   | some p=>
    obtain⟨r,k'⟩:=p;obtain⟨h1,h2,h3,h4⟩:=key r k' (vw hp).1;exact fin _ h1 fun x hx=>by have:=h2 x hx;omega
  ·have hz:((cZ xs n).zip (jo (W xs) (cZ xs n) k).1).Pairwise fun a b=>Gs xs a.1<=b.1:=by
    have h1:=hF.um n (ta xs n) fun r hr=>hr;have:(((cZ xs n).zip (jo (W xs) (cZ xs n) k).1).map Prod.fst).Pairwise fun a b=>Gs xs a<=b:=by
     have Vp:((cZ xs n).zip (jo (W xs) (cZ xs n) k).1).map Prod.fst=(cZ xs n).take ((jo (W xs) (cZ xs n) k).1.length):=by
      generalize (jo (W xs) (cZ xs n) k).1=ds;generalize cZ xs n=rs
      induction rs generalizing ds with
      | nil=>simp
      | cons r rs ih=>
       cases ds with
       | nil=>simp
       | cons d ds=>simp[ih]
     rw[Vp];exact h1.sublist (List.take_sublist _ _)
    rwa[oE]at this
   refine fin _ (BZ (f:=fun p:Int×Nat=>jf xs f p.1.toNat p.2) (lo:=fun p=>p.1) (hi:=fun p=>Gs xs p.1) hz fun p hp=>?_) fun x hx=>?_
   ·have:=key p.1 p.2 (Se hp).1;exact⟨this.1,this.2.1⟩
   ·obtain⟨p,hp,hx⟩:=eI.1 hx;obtain⟨_,h2,h3,h4⟩:=key p.1 p.2 (Se hp).1;have:=h2 x hx;omega
theorem Ut(hF:Sd xs)(f n k:Nat){s:cM}(hs:xs[n]? =some s):(jf xs f n k).length<=64:=by
 obtain⟨h1,h2⟩:=DV hF f n k hs;have hu:=hF.fo.up n s hs;have ma:=hF.le;have:=Gu h1 h2 (by omega);omega
end
section
variable {w:ay} {F G:aL} {l sa:Sl} {xs:List cM} {act:List Int}
theorem MY{u:ay}(h:aD nq 5 w F l xs)(hO:aA [] w u):aD nq 5 u F l xs:=SliceF.only db (by decide) h hO (by simp)
end
theorem mkI(w:ay){n:Nat}(hn:n<=1000000):∃(s:Sl) (w':ay),(Instr.makeSlice 32 (O ae (n:Int)) (O ae (n:Int))).run au w=.ok s.v w'/\dz w.heap.size w' s (List.replicate n 0)/\aA [] w w':=by
 obtain⟨w',h1,h2,h3⟩:=run_makeSlice_full (P:=au) (w:=w) w.heap.size 32 3 Tryz.t3 (O ae 0) 1 (by kernel_rfl) (by kernel_rfl) rfl rfl ae ae n (by omega) (by show 8*n<=_;omega) (by show n<=9223372036854775807;omega) (aY _);have e:(madeCells (Value.int ae 0).cells (n*1)).toList=(List.replicate n (0:Int)).map (Value.int ae):=by
  rw[jP,List.map_replicate];exact toList_madeCells_one _ _
 rw[e]at h2;have h2':w'.ownsRow w.heap.size 3 1 (.slice (some ⟨w.heap.size,0,none⟩) n n) (List.replicate n (0:Int)).length ((List.replicate n (0:Int)).map (Value.int ae)):=by rw[gC];exact h2
 obtain⟨s,ux,U4⟩:=dz.ofRow h2' fun x hx=>by rw[(List.mem_replicate.1 hx).2];exact⟨by decide,by decide⟩
 exact⟨s,w',by rw[<-ux];exact h1,U4,by have:=Only.QZ h3;simpa using this⟩
def wsL(xs:List cM):List Int:=(List.range xs.length).map fun n:Nat=>(W xs (n:Int):Int)
theorem DW{xs:List cM}{n:Nat}(h:n<xs.length):(wsL xs)[n]? =some (W xs n:Int):=by
 unfold wsL;rw[bZ,List.getElem?_range h];rfl
section
variable {w:ay} {F G:aL} {l ws sa:Sl} {xs:List cM} {cu act:List Int} {k0 n:Nat} {x:cM}
theorem Uu(hB:aH w k0 106 [l.v,ws.v])(h:aD nq 5 w F l xs)(hF:Sd xs)(ZE:aD rInt 1 w G ws cu)(hv:∀q:Nat,(q:Int)∈cZ xs n->cu[q]? =some (W xs q:Int))(hx:xs[n]? =some x):
  aB au 90 #[ai (some ⟨k0,0,none⟩),O ae (n:Int)] w fun e w'=>e=aq (O ae (W xs n:Int))/\aA [] w w':=by
 refine ret (aj4 _ _ _ _ ?_);have ma:=hF.le;refine⟨l,Blk.dZ hB 0 rfl,(wz h hF hx).mono ?_⟩;rintro _ w0 ⟨⟨s1,rfl,wP⟩,cF⟩;have hl1:=wP.len;have RZ:=zZ xs n;have R5:=hF.Zh n;have I2:=hF.Wx hx;have SK:∀{r:Int},r∈cZ xs n->_:=fun{r} h=>hF.Iy (n:=n) (r:=r) h;have tD:∀r,r∈cZ xs n->0<W xs r:=fun r hr=>hF.Re hr;rw[nX hx]at R5;have nA:∀t,gN (W xs) ((cZ xs n).take t)<=gN (W xs) (cZ xs n):=fun t=>B9 _ _ t;have hpt:∀t,ir (W xs) ((cZ xs n).take t)<=ir (W xs) (cZ xs n):=fun t=>Ca t tD;generalize cZ xs n=rs at*
 refine⟨s1,rfl,fun hc=>⟨?_,cF⟩,fun hc=>?_⟩
 ·have hc:(s1.n:Int)=0:=by simpa using hc
  rw[R5,if_pos (by omega)];rfl
 ·have hc:(s1.n:Int)≠0:=by simpa using hc
  rw[if_neg (by omega)]at R5;refine⟨fun kv su pr i u=>∃t:Nat,i=(t:Int)/\kv+t=rs.length/\t<=rs.length/\su=(gN (W xs) (rs.take t):Int)/\pr=(ir (W xs) (rs.take t):Int)/\aA [] w0 u,rs.length,⟨0,rfl,by omega,bA _,by simp[gN],by simp[ir],Only.refl _ _⟩,?_⟩;rintro kv _ _ _ u ⟨t,rfl,tX,ht,rfl,rfl,hO⟩;have o:=cF.cz hO;have Vm:=o.blk hB (by simp);refine⟨fun uu=>?_,fun uu=>?_⟩
  ·have uu:=aP uu;have yw:t<rs.length:=by omega
   obtain⟨ad,a1,a2⟩:=iQ (sC wP hO).sl (aV yw);have qk:=eJ yw;obtain⟨q,y,hq,hy,_⟩:=SK qk;have hvq:=hv q (by rw[<-hq];exact qk);obtain⟨wQ,b1,b2⟩:=iQ (kI ZE o) hvq;have c1:aE u (Addr.add ⟨k0,0,none⟩ 1) [ws.v]:=Blk.dZ Vm 1 rfl;have og:rs.take (t+1)=rs.take t++[rs[t]]:=by rw[bI,aV yw];rfl
   have h1:=nA (t+1);have h2:=hpt (t+1);rw[og,wA,hq]at h1;rw[og,wC,hq]at h2;refine⟨ad,a1,_,a2,ws,c1,wQ,by rw[hq];exact b1,_,b2,ws,c1,wQ,by rw[hq];exact b1,_,b2,fun w2 dh=>⟨kv-1,by omega,t+1,by rw[gD (by omega) (by omega)];rfl,by omega,by omega,?_,?_,hO.cz dh⟩⟩
   ·rw[og,wA,hq,gD (by omega) (by omega)];omega
   ·have e:(ir (W xs) (rs.take t):Int)*(W xs (q:Int):Int)=((ir (W xs) (rs.take t)*W xs (q:Int):Nat):Int):=by rw[Int.natCast_mul]
    rw[og,wC,hq,e,gD (by omega) (by omega)]
  ·have uu:=aW uu;have:t=rs.length:=by omega
   subst this;obtain⟨ad,a1,a2,_⟩:=jL (MY h o) hx;rw[bC (aY _)];refine⟨l,Blk.dZ Vm 0 rfl,ad,a1,x.k,a2.dZ 0 _ rfl,fun hk=>⟨?_,o⟩,fun hk=>⟨?_,o⟩⟩
   ·rw[R5,if_pos (by simpa using hk)]
   ·rw[R5,if_neg (by simpa using hk)]
structure CtB (w:ay) (k0:Nat) (l ws:Sl) (xs:List cM) (F G:aL):Prop where
 blk:aH w k0 106 [l.v,ws.v]
 sp:aD nq 5 w F l xs
 ws:aD rInt 1 w G ws (wsL xs)
theorem CtB.only{u:ay}(h:CtB w k0 l ws xs F G)(hO:aA [] w u):CtB u k0 l ws xs F G:=⟨hO.blk h.blk (by simp),MY h.sp hO,kI h.ws hO⟩
theorem CtB.mono{F' G':aL}(h:CtB w k0 l ws xs F G)(hF:∀k,F k->F' k)(hG:∀k,G k->G' k):CtB w k0 l ws xs F' G':=⟨h.blk,SliceF.mono db h.sp hF,SliceF.mono bN h.ws hG⟩
theorem Cf(h:aD nq 5 w F l xs)(hF:Sd xs):aB au 44 #[l.v] w fun e w'=>(∃(k0:Nat) (ws:Sl),e=aq (ai (some ⟨k0,0,none⟩))/\w.heap.size<=k0/\k0<w'.heap.size/\CtB w' k0 l ws xs (fun k=>F k/\k<w.heap.size) (fun k=>w.heap.size<=k))/\aA [] w w':=by
 refine(ajM l (fun v w'=>(∃(k0:Nat) (ws:Sl),v=ai (some ⟨k0,0,none⟩)/\w.heap.size<=k0/\k0<w'.heap.size/\CtB w' k0 l ws xs (fun k=>F k/\k<w.heap.size) (fun k=>w.heap.size<=k))/\aA [] w w') w ?_).mono (by rintro _ w' ⟨v,rfl,⟨s,t,rfl,h⟩,h'⟩;exact⟨⟨s,t,rfl,h⟩,h'⟩);have ma:=hF.le;have hl:=h.len;obtain⟨ws,w0,m1,m2,m3⟩:=mkI w (n:=l.n) (by omega);have z0:=m3.size;refine⟨ws,w0,m1,fun k0 w1 gU fi cF=>?_⟩;have o1:=m3.cz cF;have z1:=cF.size;have h1:aD nq 5 w1 (fun k=>F k/\k<w.heap.size) l xs:=MY (SliceF.inHeap db h (by decide)) o1;have tD:=hF.fo.ne;have hwa:∀{g:Nat},ws.a=some ⟨g,0,none⟩->w.heap.size<=g/\g<w0.heap.size:=fun e=>m2.blk e;refine⟨fun kv i l1 l2 u=>∃(m:Nat) (cu:List Int),i=(m:Int)-1/\kv=m/\m<=xs.length/\l=l1/\ws=l2/\dz w.heap.size u ws cu/\cu.length=xs.length/\(∀q:Nat,m<=q->q<xs.length->cu[q]? =some (W xs q:Int))/\aD nq 5 u (fun k=>F k/\k<w.heap.size) l xs/\aA [] w u/\w1.heap.size<=u.heap.size,xs.length,⟨xs.length,List.replicate l.n 0,by rw[gD (by omega) (by omega)];omega,rfl,aY _,rfl,rfl,sC m2 cF,by rw[gC];exact hl,fun q h1 h2=>by omega,h1,o1,aY _⟩,?_⟩;rintro kv _ _ _ u ⟨m,cu,rfl,tX,hm,rfl,rfl,hS,hvl,xw,xz,hO,hz⟩;refine⟨fun hc w3 dx=>?_,fun hc hB=>⟨⟨k0,ws,rfl,by omega,by omega,hB,xz,?_⟩,hO⟩⟩
 ·have hc:=aP hc;obtain⟨m,rfl⟩:∃m',m=m'+1:=⟨m-1,by omega⟩
  have em:((m+1:Nat):Int)-1=(m:Int):=by omega
  rw[em];obtain⟨x,hx⟩:=fO (xs:=xs) (i:=m) (by omega);have Ej:=sC hS dx;refine⟨fun k=>k=k0,rfl,fun hB=>(Uu hB (MY xz dx) hF Ej.sl (fun q hq=>?_) hx).mono ?_⟩
  ·obtain⟨q',t,e,h2,_,_,h5,_⟩:=hF.Iy hq;have:q'=q:=by omega
   subst this;exact xw q' (by omega) (eZ h2)
  rintro _ w4 ⟨rfl,dP⟩;have z3:=dx.size;have z4:=dP.size;have LQ:=sC Ej dP;have an4:=hF.Zj hx;obtain⟨g,cells,p1,p2,p3,p4,p5⟩:=Own.store (x:=(W xs m:Int)) (n:=m) (vs:=[O ae (W xs m:Int)]) (G:=fun _=>False) bN LQ (by omega) rfl ⟨rfl,by omega,by omega⟩ (fun k hk _=>hk.elim) (by decide);have hgw:=hwa p1;refine⟨_,rfl,l,ws,dP.blk hB (by simp),bS.only dP,_,p2,g,m*1,cells,_,rfl,p3,p4,by omega,fun w5 eE wL=>⟨m,by omega,m,cu.set m (W xs m:Int),by rw[gD (by omega) (by omega)],rfl,by omega,rfl,rfl,p5 w5 eE wL,by rw[ii];exact hvl,fun q h1 h2=>?_,SliceF.only db (by decide) (MY (MY xz dx) dP) eE fun k hk _ NW=>by simp only[aO]at NW;omega,?_,?_⟩⟩
  ·by_cases hqm:q=m
   ·subst hqm;rw[oz (by omega)]
   ·rw[Bc (fun e=>hqm e.symm)];exact xw q (by omega) h2
  ·exact(((hO.cz dx).cz dP).pd (eE.p (F:=fun k=>w.heap.size<=k) fun k hk=>by simp only[aO]at hk;exact .inl (by omega))).only fun k hk=>hk
  ·have:=eE.size;omega
 ·have hc:=aW hc;have LF:m=0:=by omega
  subst LF;have e:cu=wsL xs:=jh fun q=>by
   by_cases hq:q<xs.length
   ·rw[xw q (bA _) hq,DW hq]
   ·rw[du (by omega),du (by unfold wsL;rw[bq,fE];omega)]
  rw[e]at hS;exact hS.sl
theorem Uv(h:aD nq 5 w F l xs)(hF:Sd xs):aB au 20 #[l.v] w fun e w'=>e=aq (O ae (W xs 0:Int))/\aA [] w w':=by
 refine ret (ajC _ _ _ ?_);have hl:=h.len;have tD:=hF.fo.ne;refine⟨fun hc=>absurd (show(l.n:Int)=0 by simpa using hc) (by omega),fun _=>(Cf h hF).mono ?_⟩;rintro _ w1 ⟨⟨k0,ws,rfl,_,_,hC⟩,hO⟩;obtain⟨ad,a1,a2⟩:=iQ hC.ws (DW tD);exact⟨_,rfl,⟨k0,0,none⟩,rfl,ws,Blk.dZ hC.blk 1 rfl,ad,a1,_,a2,rfl,hO⟩
end
def Gr(s:Sl)(w:ay)(s':Sl)(w':ay):Prop:=aF (fun k=>s.a=some ⟨k,0,none⟩) w w'/\∀k,s'.a=some ⟨k,0,none⟩->s.a=some ⟨k,0,none⟩∨w.heap.size<=k
theorem Gr.trans{s s' s'':Sl}{w w' th:ay}(h:Gr s w s' w')(k:Gr s' w' s'' th):Gr s w s'' th:=by
 have z:=h.1.size;refine⟨h.1.trans k.1 fun x hx=>?_,fun x hx=>?_⟩
 ·rcases h.2 x hx with e | e
  ·exact .inl e
  ·exact .inr e
 ·rcases k.2 x hx with e | e
  ·exact h.2 x e
  ·exact .inr (by omega)
theorem Gr.only{s:Sl}{w w':ay}(h:aA [] w w'):Gr s w s w':=⟨h.p0,fun _ h=>.inl h⟩
theorem Am(V:Int->Nat):∀(l:List Int) (k:Nat),(jo V l k).1.length=l.length
 | [],k=>rfl
 | r::l,k=>by rw[jo,bp,bp,Am V l k]
theorem Lm(V:Int->Nat):∀(l:List Int) (k:Nat),(jo V l k).2<=k
 | [],k=>aY _
 | r::l,k=>by rw[jo];exact bh (Nat.div_le_self _ _) (Lm V l k)
theorem DX{V:Int->Nat}:∀{l:List Int} {k j:Nat} {r:Int} {d:Nat},(∀r,r∈l->0<V r)->l[j]? =some r->(jo V l k).1[j]? =some d->d<V r
 | [],_,_,_,_,_,h,_=>by cases h
 | x::l,k,0,r,d,hp,h,g=>by
  rw[jo]at g;rw[cE,ba]at h g;subst h g;exact Nat.mod_lt _ (hp _ (.head _))
 | x::l,k,j+1,r,d,hp,h,g=>by
  rw[jo]at g;rw[de]at h g;exact DX (fun r hr=>hp r (.tail _ hr)) h g
theorem akB(w0:ay){u:ay}{s:Sl}{is:List Int}(h:dz w0.heap.size u s is)(hO:aA [] w0 u)(n:Int)(hn:ry n)(hm:is.length<=2000000):
  ∃y w1,(aw 32 1 #[.mk 0 (O ae n)]).run au u=.ok (Sl.v y) w1/\∃s' w2,(Builtin.append_ #[32,32] 32 #[Sl.v s,Sl.v y]).run au w1=.ok (Sl.v s') w2/\dz w0.heap.size w2 s' (is++[n])/\aA [] w0 w2/\Gr s u s' w2:=by
 obtain⟨y,w1,k1,k3,s',w2,g1,g2,⟨gs,g3,g4⟩,g5⟩:=jj (P:=au) (t:=32) (ty:=32) (e:=3) (i:=Tryz.t3) (bytes:=8) (size:=1) (r:=rInt) (G:=fun _=>False) (v:=O ae n) (x:=n) (by kernel_rfl) (by kernel_rfl) rfl rfl rfl rfl (by decide) (by decide) (by decide) bN h hO.size rfl ⟨rfl,hn⟩ (fun _ h=>h.elim) (by omega);refine⟨y,w1,k1,s',w2,g1,dz.of g2,((hO.cz k3).pd (g3.p (F:=fun k=>w0.heap.size<=k) fun g hg=>.inl (g4 g hg).2.1)).only fun k hk=>hk,k3.pd (g3.p fun g hg=>.inl (g4 g hg).1),fun k hk=>?_⟩;rcases g5 with e | ⟨g,e,h⟩
 ·exact .inl (by rw[<-e];exact hk)
 ·rw[e]at hk;injection hk with hk;injection hk with hk;exact .inr (by omega)
section
variable {w0:ay} {F G:aL} {l ws:Sl} {xs:List cM} {k0:Nat}
theorem CtB.mw{w u:ay}{S:aL}(h:CtB w k0 l ws xs F G)(hO:aF S w u)(h0:¬S k0)(hF:∀k,F k->¬S k)(hG:∀k,G k->¬S k):CtB u k0 l ws xs F G:=
 ⟨hO.blk h.blk h0,SliceF.mw db (by decide) h.sp hO fun k hk _=>hF k hk,SliceF.mw bN (by decide) h.ws hO fun k hk _=>hG k hk⟩
theorem Iu(hF:Sd xs)(hC:CtB w0 k0 l ws xs F G)(hFw:∀k,F k->k<w0.heap.size)(hGw:∀k,G k->k<w0.heap.size):∀(f n k:Nat) {w:ay} {x:cM} {out:Sl} {L:List Int},xs[n]? =some x->xs.length<=n+f->k<W xs n->dz w0.heap.size w out L->aA [] w0 w->L.length+(jf xs f n k).length<=1000000->
  aB au 45 #[ai (some ⟨k0,0,none⟩),out.v,O ae (n:Int),O ae (k:Int)] w fun e w'=>∃s:Sl,e=aq s.v/\dz w0.heap.size w' s (L++jf xs f n k)/\Gr out w s w'
 | 0,n,k,w,x,out,L,hx,hf,_,_,_,_=>by
  have:=eZ hx;omega
 | f+1,n,k,w,x,out,L,hx,hf,hk,hL,hO,hm=>by
  have ma:=hF.le;have W0:=eZ hx;refine(ajN ⟨k0,0,none⟩ out n k (fun v w'=>∃s:Sl,v=s.v/\dz w0.heap.size w' s (L++jf xs (f+1) n k)/\Gr out w s w') w ?_).mono (by rintro _ w' ⟨v,rfl,s,rfl,h⟩;exact⟨s,rfl,h⟩);have an4:=hF.Zj hx;have e0:jf xs (f+1) n k=(n:Int)::if kd xs n=1 then(match pick (W xs) (cZ xs n) k with
   | some (r,k')=>jf xs f r.toNat k'
   | none=>[])else((cZ xs n).zip (jo (W xs) (cZ xs n) k).1).flatMap fun p=>jf xs f p.1.toNat p.2:=rfl
  rw[e0,nX hx]at hm⊢;have au9:=hC.blk.lt;obtain⟨y1,w1,k1,s1,w2,g1,g2,g3,g4⟩:=akB w0 hL hO n ⟨by omega,by omega⟩ (by omega);have hC2:=hC.only g3;refine⟨y1,w1,k1,s1,w2,g1,l,Blk.dZ hC2.blk 0 rfl,(wz hC2.sp hF hx).mono ?_⟩;rintro _ w3 ⟨⟨s3,rfl,Ej⟩,dx⟩;have o3:=g3.cz dx;have hC3:=hC.only o3;have cF:dz w0.heap.size w3 s1 (L++[(n:Int)]):=sC g2 dx;have ux:∀{g:Nat},s1.a=some ⟨g,0,none⟩->w0.heap.size<=g/\g<w2.heap.size:=fun e=>g2.blk e;have hs3:∀{g:Nat},s3.a=some ⟨g,0,none⟩->w2.heap.size<=g/\g<w3.heap.size:=fun e=>Ej.blk e;have g4':Gr out w s1 w3:=g4.trans (Gr.only dx);obtain⟨ad,a1,a2,_⟩:=jL hC3.sp hx;have hl3:=Ej.len;have RZ:=zZ xs n;have SK:∀{r:Int},r∈cZ xs n->_:=fun{r} h=>hF.Iy (n:=n) (r:=r) h;have tD:∀r,r∈cZ xs n->0<W xs r:=fun r hr=>hF.Re hr;have an8:∀r,r∈cZ xs n->W xs r<=4611686018427387904:=fun r hr=>by
   obtain⟨q,t,rfl,h2,_⟩:=SK hr;exact hF.Zj h2
  generalize cZ xs n=rs at*
  have rat:∀{u:ay} {t:Nat} {r:Int},rs[t]? =some r->aF (fun k=>s1.a=some ⟨k,0,none⟩) w3 u->∃(q:Nat) (y:cM) (ad wQ:Addr),r=q/\xs[q]? =some y/\n<q/\dL s3 (t:Int) 1 ad/\aE u ad [O ae r]/\aE u (Addr.add ⟨k0,0,none⟩ 1) [ws.v]/\dL ws r 1 wQ/\aE u wQ [O ae (W xs r:Int)]:=fun{u t r} ht hu=>by
   obtain⟨q,y,rfl,hy,_,_,hnq,_⟩:=SK (bD ht);have hSu:dz w2.heap.size u s3 rs:=Ej.keep bN fun k hk bX=>hu.block k bX fun hh=>by
    have h1:=ux hh;rcases hk with hk | hk
    ·exact hk.elim
    ·omega
   obtain⟨ad,b1,b2⟩:=iQ hSu.sl ht;have hCu:=hC3.mw hu (fun hh=>by have:=ux hh;omega) (fun k hk hh=>by have:=ux hh;have:=hFw k hk;omega) (fun k hk hh=>by have:=ux hh;have:=hGw k hk;omega);obtain⟨wQ,c1,c2⟩:=iQ hCu.ws (DW (eZ hy));exact⟨q,y,ad,wQ,rfl,hy,hnq,b1,b2,Blk.dZ hCu.blk 1 rfl,c1,c2⟩
  refine⟨s3,rfl,l,Blk.dZ hC3.blk 0 rfl,ad,a1,x.k,a2.dZ 0 _ rfl,fun ke=>?_,fun ke=>?_⟩
  ·have ke:x.k=1:=by simpa using ke
   rw[if_pos ke]at hm⊢;refine⟨fun kv i1 i u=>∃t k':Nat,i=(t:Int)/\i1=(k':Int)/\kv+t=rs.length/\t<=rs.length/\k'<=k/\pick (W xs) rs k=pick (W xs) (rs.drop t) k'/\w3=u,rs.length,⟨0,k,rfl,rfl,by omega,bA _,aY _,by rw[fY],rfl⟩,?_⟩;rintro kv _ _ _ ⟨t,k',rfl,rfl,tX,ht,LO,UO,rfl⟩;refine⟨fun hc=>?_,fun hc=>?_⟩
   ·have hc:=aP hc;have yw:t<rs.length:=by omega
    have Xd:=aV yw;obtain⟨q,y,ad,wQ,hq,hy,hnq,b1,b2,b3,b4,b5⟩:=rat Xd (OnlyP.refl _ _);have hpd:pick (W xs) (rs.drop t) k'=if k'<W xs rs[t]then some (rs[t],k')else pick (W xs) (rs.drop (t+1)) (k'-W xs rs[t]):=by
     rw[gx yw,pick]
    have avc:=an8 _ (eJ yw);rw[hpd]at UO;refine⟨ad,b1,_,b2,ws,b3,wQ,b4,_,b5,fun bX=>?_,fun bX=>⟨ws,b3,wQ,b4,_,b5,kv-1,by omega,t+1,k'-W xs rs[t],by rw[gD (by omega) (by omega)];rfl,?_,by omega,by omega,by omega,?_,rfl⟩⟩
    ·have bX:=aP bX;have aaY:k'<W xs rs[t]:=by omega
     rw[if_pos aaY]at UO;rw[UO]at hm⊢;dsimp only at hm⊢;rw[hq,aX]at hm⊢;rw[hq]at aaY;rw[bp]at hm;refine(Iu hF hC hFw hGw f q k' hy (by omega) aaY cF o3 (by rw[aU,bP];omega)).mono ?_;rintro _ w4 ⟨s4,rfl,h4,o4⟩;exact⟨s4,rfl,s4,rfl,by rw[bQ]at h4;exact h4,g4'.trans o4⟩
    ·have bX:=aW bX;rw[gD (by omega) (by omega)];omega
    ·have bX:=aW bX;rw[if_neg (by omega)]at UO;exact UO
   ·have hc:=aW hc;rw[ov (by omega),pick]at UO;rw[UO];exact⟨s1,rfl,cF,g4'⟩
  ·have ke:x.k≠1:=by simpa using ke
   rw[if_neg ke]at hm⊢;obtain⟨es,w5,m1,m2,m3⟩:=mkI w3 (n:=s3.n) (by omega);have o5:=o3.cz m3;have z5:=m3.size;have hea:∀{g:Nat},es.a=some ⟨g,0,none⟩->w3.heap.size<=g/\g<w5.heap.size:=fun e=>m2.blk e;refine⟨es,w5,m1,fun kv i6 i u=>∃(m k':Nat) (ds:List Int),i=(m:Int)-1/\i6=(k':Int)/\kv=m/\m<=rs.length/\k'=(jo (W xs) (rs.drop m) k).2/\dz w3.heap.size u es ds/\ds.length=rs.length/\ds.drop m=(jo (W xs) (rs.drop m) k).1.map (fun d:Nat=>(d:Int))/\aA [] w3 u/\w5.heap.size<=u.heap.size,rs.length,⟨rs.length,k,List.replicate s3.n 0,by rw[gD (by omega) (by omega)];omega,rfl,rfl,aY _,by rw[List.drop_length];rfl,m2,by rw[gC];exact hl3,by rw[List.drop_length,ov (by rw[gC];omega)];rfl,m3,aY _⟩,?_⟩;rintro kv _ _ u ⟨m,k',ds,rfl,rfl,tX,Cs,iv,hD,xP,Sy,hOu,hz⟩;refine⟨fun hc w7 fI=>?_,fun hc=>?_⟩
   ·have hc:=aP hc;obtain⟨m,rfl⟩:∃m',m=m'+1:=⟨m-1,by omega⟩
    have em:((m+1:Nat):Int)-1=(m:Int):=by omega
    rw[em];have Xd:=aV (show m<rs.length by omega);have o7:=hOu.cz fI;obtain⟨q,y,ad,wQ,hq,hy,hnq,b1,b2,b3,b4,b5⟩:=rat Xd o7.p0;have hD7:=sC hD fI;have z7:=fI.size;have hwp:=tD _ (eJ (show m<rs.length by omega));have aq7:k'<=k:=by rw[iv];exact Lm _ _ _
    have hdg:jo (W xs) (rs.drop m) k=(k' % W xs rs[m]::(jo (W xs) (rs.drop (m+1)) k).1,k'/W xs rs[m]):=by
     rw[gx (show m<rs.length by omega),jo,<-iv]
    have an9:(k':Int).tmod (W xs rs[m]:Int)=((k' % W xs rs[m]:Nat):Int):=rfl;have hdiv:(k':Int).tdiv (W xs rs[m]:Int)=((k'/W xs rs[m]:Nat):Int):=rfl;have avf:k' % W xs rs[m]<=k':=Nat.mod_le _ _;have aoa:k'/W xs rs[m]<=k':=Nat.div_le_self _ _;obtain⟨g,cells,p1,p2,p3,p4,p5⟩:=Own.store (x:=((k' % W xs rs[m]:Nat):Int)) (n:=m) (vs:=[O ae ((k' % W xs rs[m]:Nat):Int)]) (G:=fun _=>False) bN hD7 (by omega) rfl ⟨rfl,by omega,by omega⟩ (fun k hk _=>hk.elim) (by decide);have hgw:=hea p1;refine⟨ws,b3,ad,b1,_,b2,wQ,b4,_,b5,by omega,_,p2,g,m*1,cells,_,rfl,p3,p4,fun w8 gn uz=>?_⟩;rw[an9]at uz;have o8:aA [] w3 w8:=(o7.pd (gn.p (F:=fun k=>w3.heap.size<=k) fun k hk=>by simp only[aO]at hk;exact .inl (by omega))).only fun k hk=>hk;have z8:=gn.size;obtain⟨q',y',M4,aob,_,_,_,c1,c2,c3,c4,c5⟩:=rat Xd o8.p0;refine⟨ws,c3,M4,c1,_,c2,aob,c4,_,c5,by omega,fun w9 gv=>?_⟩;have z9:=gv.size;rw[hdiv];refine⟨m,by omega,m,_,ds.set m ((k' % W xs rs[m]:Nat):Int),by rw[gD (by omega) (by omega)],by rw[gD (Int.le_trans (by decide) (bE _)) (Int.le_trans (Int.ofNat_le.2 aoa) (by omega))],rfl,by omega,by rw[hdg],sC (p5 w8 gn uz) gv,by rw[ii];exact xP,?_,o8.cz gv,by omega⟩;rw[hdg,bF,<-Sy,gx (show m<(ds.set m ((k' % W xs rs[m]:Nat):Int)).length by rw[ii];omega),List.getElem_set_self,Ep (by omega)]
   ·have hc:=aW hc;have LF:m=0:=by omega
    subst LF;rw[fY,fY]at Sy;have aoc:=Am (W xs) rs k;let dg:=(jo (W xs) rs k).1
    have hdg:dg=(jo (W xs) rs k).1:=rfl;rw[<-hdg]at hm Sy aoc⊢;have ou:=o3.cz hOu;have hDv:∀{v:ay} {q:Sl},Gr s1 u q v->dz w3.heap.size v es ds:=fun{v q} hg=>hD.keep bN fun k hk bX=>hg.1.block k bX fun hh=>by
     have h1:=ux hh;have z3:=dx.size;rcases hk with hk | hk
     ·exact hk.elim
     ·omega
    have aod:dz w0.heap.size u s1 (L++[(n:Int)]):=sC cF hOu;let Z:Nat->List Int:=fun t=>((rs.zip dg).take t).flatMap fun p=>jf xs f p.1.toNat p.2
    have hZ:∀t r d,rs[t]? =some r->dg[t]? =some d->Z (t+1)=Z t++jf xs f r.toNat d:=fun t r d h1 h2=>by
     show((rs.zip dg).take (t+1)).flatMap _=_;rw[bI,jB];congr 1;have:(rs.zip dg)[t]? =some (r,d):=iZ.2 ⟨h1,h2⟩;rw[this];simp
    have aoe:∀t,(Z t).length<=(Z rs.length).length:=fun t=>by
     show(((rs.zip dg).take t).flatMap _).length<=(((rs.zip dg).take rs.length).flatMap _).length;rw[bC (i:=rs.length) (by rw[List.length_zip];omega)]
     conv=>rhs;rw[<-dv t (rs.zip dg)]
     rw[jB,aU];omega
    have agI:Z rs.length=(rs.zip dg).flatMap fun p=>jf xs f p.1.toNat p.2:=by
     show((rs.zip dg).take rs.length).flatMap _=_;rw[bC (i:=rs.length) (by rw[List.length_zip];omega)]
    rw[<-agI]at hm⊢;rw[bp]at hm;refine⟨fun kv q i v=>∃t:Nat,i=(t:Int)/\kv+t=rs.length/\t<=rs.length/\dz w0.heap.size v q (L++(n:Int)::Z t)/\Gr s1 u q v,rs.length,⟨0,rfl,by omega,bA _,by simpa[Z]using aod,Gr.only (Only.refl _ _)⟩,?_⟩;rintro Ek q _ v ⟨t,rfl,aaL,ht,hq,hGv⟩;have I7:aF (fun k=>s1.a=some ⟨k,0,none⟩) w3 v:=hOu.pd hGv.1;have aof:aA [] w0 v:=(o3.pd (I7.mono (G:=fun k=>w0.heap.size<=k) fun k _ hk=>(ux hk).1)).only fun k hk=>hk;refine⟨fun pu=>?_,fun pu=>?_⟩
    ·have pu:=aP pu;have yw:t<rs.length:=by omega
     have Xd:=aV yw;have htd:=aV (show t<dg.length by omega);obtain⟨q',y,ad,wQ,hq',hy,hnq,b1,b2,_⟩:=rat Xd I7;have hds:ds[t]? =some ((dg[t]'(by omega):Nat):Int):=(bm (fun z:List Int=>z[t]?) Sy).trans (by rw[bZ,htd];rfl);obtain⟨ad3,c1,c2⟩:=iQ (hDv hGv).sl hds;have agJ:=DX tD Xd htd;have hz1:=hZ t _ _ Xd htd;have Cq:=aoe (t+1);rw[hz1,aU]at Cq;refine⟨ad,b1,_,b2,ad3,c1,_,c2,?_⟩;rw[hq']at agJ hz1⊢;rw[hq']at Cq;rw[aX]at hz1 Cq;refine(Iu hF hC hFw hGw f q' _ hy (by omega) agJ hq aof (by simp only[aU,bp];omega)).mono ?_;rintro _ dJ ⟨LH,rfl,AB,o11⟩;refine⟨LH,rfl,Ek-1,by omega,t+1,by rw[gD (by omega) (by omega)];rfl,by omega,by omega,?_,hGv.trans o11⟩;rw[hz1];rw[bQ,ck]at AB;exact AB
    ·have pu:=aW pu;have:t=rs.length:=by omega
     subst this;exact⟨q,rfl,hq,(g4'.trans (Gr.only hOu)).trans hGv⟩
end
structure WkB (b b1 b2 b3:Nat) (l sa:Sl) (xs:List cM) (act:List Int) (F G:aL) (w:ay):Prop where
 lb:aH w b 52 [l.v]
 ab:aH w b1 32 [sa.v]
 fb:aH w b3 116 [.func (.func 75) #[] #[ai (some ⟨b2,0,none⟩),ai (some ⟨b,0,none⟩),ai (some ⟨b1,0,none⟩),ai (some ⟨b3,0,none⟩)]]
 sp:aD nq 5 w F l xs
 ac:aD rInt 1 w G sa act
 nF:∀k,F k->k≠b2
 nG:∀k,G k->k≠b2
 n0:b≠b2
 n1:b1≠b2
 n3:b3≠b2
section
variable {b b1 b2 b3:Nat} {F G:aL} {l sa:Sl} {xs:List cM} {act:List Int}
theorem WkB.only{w w':ay}(h:WkB b b1 b2 b3 l sa xs act F G w)(hO:aA [b2] w w'):WkB b b1 b2 b3 l sa xs act F G w':=
 ⟨hO.blk h.lb (by simpa using h.n0),hO.blk h.ab (by simpa using h.n1),hO.blk h.fb (by simpa using h.n3),SliceF.only db (by decide) h.sp hO fun k hk _ hm=>h.nF k hk (by simpa using hm),SliceF.only bN (by decide) h.ac hO fun k hk _ hm=>h.nG k hk (by simpa using hm),h.nF,h.nG,h.n0,h.n1,h.n3⟩
end
section
variable {w w0:ay} {F G G':aL} {l ws sa:Sl} {xs:List cM} {act:List Int} {k0:Nat}
theorem aec(h:aD nq 5 w F l xs)(hF:Sd xs)(k:Int)(hm:∀n:Nat,(jf xs xs.length 0 n).length<=1000000):aB au 21 #[l.v,O ae k] w fun e w'=>(∃(s:Sl) (b:Bool) (is:List Int),e=aq (ak #[s.v,ao b])/\dz w.heap.size w' s is/\(b=true↔0<=k/\k<W xs 0)/\is=if b=true then jf xs xs.length 0 k.toNat else[])/\aA [] w w':=by
 refine(ajD l k (fun v w'=>(∃(s:Sl) (b:Bool) (is:List Int),v=ak #[s.v,ao b]/\dz w.heap.size w' s is/\(b=true↔0<=k/\k<W xs 0)/\is=if b=true then jf xs xs.length 0 k.toNat else[])/\aA [] w w') w ?_).mono (by rintro _ w' ⟨v,rfl,⟨k,b,is,rfl,h⟩,h'⟩;exact⟨⟨k,b,is,rfl,h⟩,h'⟩);have hl:=h.len;have tD:=hF.fo.ne;refine(Cf h hF).mono ?_;rintro _ w1 ⟨⟨k0,ws,rfl,gU,fi,hC⟩,cF⟩;have z1:=cF.size;obtain⟨ad,a1,a2⟩:=iQ hC.ws (DW tD);refine⟨_,rfl,⟨k0,0,none⟩,fun _=>rfl,ws,fun _=>Blk.dZ hC.blk 1 rfl,ad,fun _=>a1,_,fun _=>a2,fun hc=>⟨⟨Sl.nil,false,[],rfl,Own.nil _ _ _ _ _ _,⟨(fun h=>by cases h),fun hk=>?_⟩,rfl⟩,cF⟩,fun hc=>?_⟩
 ·rw[cp,cp]at hc;rcases hc with(hc | hc) | hc
  ·have:(l.n:Int)=0:=by simpa using hc
   omega
  ·have:=aP hc;omega
  ·have:=aP hc;have:=hk.2;simp only[Int.ofNat_zero]at*
   omega
 ·rw[gP,gP]at hc;have c1:=aW hc.1.2;have c2:=aW hc.2;obtain⟨m,rfl⟩:∃m:Nat,k=m:=⟨k.toNat,by omega⟩
  obtain⟨x,hx⟩:=fO (xs:=xs) (i:=0) tD;have hC':CtB w1 k0 l ws xs (fun k=>k<w1.heap.size) (fun k=>k<w1.heap.size):=⟨hC.blk,SliceF.mono db (SliceF.inHeap db hC.sp (by decide)) fun k hk=>hk.2,SliceF.mono bN (SliceF.inHeap bN hC.ws (by decide)) fun k hk=>hk.2⟩
  have bX:m<W xs ((0:Nat):Int):=by omega
  refine(Iu hF hC' (fun k hk=>hk) (fun k hk=>hk) xs.length 0 m (out:=Sl.nil) (L:=[]) hx (by omega) bX (Own.nil _ _ _ _ _ _) (Only.refl _ _) (by have:=hm m;simpa using this)).mono ?_;rintro _ w2 ⟨s2,rfl,I5,hG2⟩;have dh:aA [] w1 w2:=hG2.1.only fun k hk=>by cases hk
  rw[cr]at I5;exact⟨s2,rfl,⟨s2,true,_,rfl,Own.low I5 z1,⟨fun _=>⟨by omega,by simpa using bX⟩,fun _=>rfl⟩,by rw[if_pos rfl,aX]⟩,cF.cz dh⟩
end
end Go.Proofs.YtbkjcdocjfknfaaGreatDoor.Con
