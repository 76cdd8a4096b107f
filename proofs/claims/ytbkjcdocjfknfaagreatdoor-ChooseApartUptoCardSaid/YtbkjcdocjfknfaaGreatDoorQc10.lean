import Derived.Test.YtbkjcdocjfknfaaGreatDoorQc9
set_option linter.unusedSectionVars false
namespace Go.Proofs.YtbkjcdocjfknfaaGreatDoor.Con
open Go.Value renaming int->O,string->ab,pointer->ae,agg->ah,tuple->ai,bool->aj
open Go.IntKind renaming i64->U,wrap->ar
open Go.Ending renaming returned->ak
open _root_.ByteArray renaming mk->ao
open _root_.Go.Proofs.Tryz renaming prog->aq
open Go.Instr renaming buildSlice->au
open Go renaming World->av,Value->aw,Calls->az
open Go.Kt renaming Only->ay,SliceF->aA,Cells->aB,OnlyP->aD,Blk->aF
open Go Go.RowKit Go.Kt Go.Kt.V Go.Proofs.YtbkjcdocjfknfaaGreatDoor.Vc
set_option linter.unusedSimpArgs false
set_option linter.unusedVariables false
set_option maxHeartbeats 4000000
theorem Yd(w:av)(F:aJ):ChR true 15 w F ch0 Sl.nil (nE 0 [] [] [] Sl.nil Sl.nil Sl.nil Sl.nil 0):=⟨jM.nil _ _ _ _ _ _,Rx (by decide) _ _⟩
theorem ChR.stay{d:Nat}{w w':av}{B:Nat}{c:Ch}{vs:Sl}{cs:aI}(h:ChR true d w (Fr B) c vs cs)(hs:Stay B w w'):ChR true d w' (Fr B) c vs cs:=⟨h.vars.stay fA (by decide) hs,(cG true d).stay h.root hs⟩
theorem ChR.low{d:Nat}{w:av}{A B:Nat}{c:Ch}{vs:Sl}{cs:aI}(h:ChR true d w (Fr B) c vs cs)(hA:A<=B):ChR true d w (Fr A) c vs cs:=⟨h.vars.low fA hA,(cG true d).low h.root hA⟩
theorem aau{ts:List Tk}(hE:xa ts){s:Sx}{ss:List (aH)}(hi:s.i<ts.length)(hw:cQ ts s ss≠0):mu ts (uR ts (dy s)).2<mu ts s:=
 oM hE (dl hw).1 hi (dl hw).2 (Ra hE (dy s)).toOn0
theorem G5{w:av}(l:aH)(hE:Er w):az aq 80 #[ab (T l)] w fun e w'=>
  ∃(vs:Sl) (cs:aI),e=ak (ai #[ah (vs.v::cs).toArray,ah #[O U (dE l).2.1,O U (dE l).2.2]])/\ChR true 15 w' (Fr w.heap.size) (dE l).1 vs cs/\ay [] w w':=by
 refine(aeS (T l) (fun v w'=>∃(vs:Sl) (cs:aI),v=(ai #[ah (vs.v::cs).toArray,ah #[O U (dE l).2.1,O U (dE l).2.2]])/\ChR true 15 w' (Fr w.heap.size) (dE l).1 vs cs/\ay [] w w') w ?_).mono (by
  rintro e w' ⟨v,rfl,vs,cs,rfl,h⟩;exact⟨vs,cs,rfl,h⟩)
 generalize hP:dE l=P;unfold dE at hP;intro k0 k1 w0 gu fe j5 iX cD;have z0:=cD.size;refine(Gw l (hE.only cD)).mono ?_;rintro _ w1 ⟨rs,rfl,hT,cr⟩;have z1:=cr.size;have jz:=cD.cf cr;have tOk:=Jm (l:=l);have aop:∀{w2 w3:av},ay [] w1 w2->ay [k1,k0] w2 w3->ay [] w w3:=fun cR de=>((jz.cf cR).trans de fun x hx=>.inr (by simp only[aU,ba,bW]at hx;omega))
 refine⟨rs,_,_,rfl,cr.same (by simp;omega),fun hc k2 w2 rm rn cR n1 n2 n3=>⟨fun k=>k=k2,rfl,fun e=>n2 e,fun e=>n3 e,fun w3 de=>?_⟩,fun hc k3 k4 k5 w4 wG rL Bl E9 C7 H2 dL=>?_⟩
 ·have hc:(dr l).2.1≠0:=by simpa using hc
  rw[if_pos hc]at hP;subst hP;exact⟨Sl.nil,_,rfl,Yd _ _,aop cR de⟩
 have hc:(dr l).2.1=0:=by simpa using hc
 obtain⟨hEn,UM,ahT,fi⟩:=tOk hc;rw[if_neg (by simpa using hc)]at hP;have aoq:=((hT.sl.inHeap jB (by decide)).mono jB (G:=fun k=>w0.heap.size<=k/\k<w1.heap.size) fun k hk=>⟨hk.1.1,hk.2⟩)
 generalize (dr l).1=ts at*
 clear tOk hT;have z4:=dL.size;obtain⟨q,w5,e1,hq,eP⟩:=nU w4 [gA] (n:=1) (parts:=#[(0,ab (T gA))]) rfl rfl (by decide) (by decide);have z5:=eP.size;refine⟨q,w5,e1,eP.same (by simp;omega),fun u7 n04 n14 n34 n54=>?_⟩;have r5:Sr (fun k=>w0.heap.size<=k/\k<w1.heap.size) ts w5 k4 rs Ia:=⟨u7,SliceF.only jB (by decide) aoq (dL.cf eP) (by simp),fun k hk=>by have:=hk.2;omega,hEn,ahT,by omega⟩
 have Pw:∀k,(fun k=>w0.heap.size<=k/\k<w1.heap.size) k->k<w1.heap.size:=fun k hk=>hk.2;generalize (fun k=>w0.heap.size<=k/\k<w1.heap.size)=F at*
 have w5w:ay [] w w5:=(jz.cf dL).cf eP;have sm:∀{u u':av} {x:Sx},w5.heap.size<=u.heap.size->Dn F ts u u' k4 rs x->bU [k0,k1,k3,k5] u u':=fun hz d=>d.o.same (by
  intro x hx;simp only[aU,ba,bW]at hx⊢;omega)
 have sq:∀{u u':av},w5.heap.size<=u.heap.size->ay [] u u'->bU [k0,k1,k3,k4,k5] u u':=fun hz o=>o.same fun x hx=>⟨by
  simp only[aU,ba,bW]at hx;omega,by simp⟩
 have oD:∀{u u':av} {x:Sx},ay [] w u->Dn F ts u u' k4 rs x->ay [] w u':=fun o d=>o.trans d.o fun x hx=>.inr (by simp only[aN]at hx;omega);have o5:∀{u u':av},ay [] w u->ay [k5] u u'->ay [] w u':=fun o d=>o.trans d fun x hx=>.inr (by simp only[aN]at hx;omega);have r55:∀{u u':av} {x:Sx},Sr F ts u k4 rs x->ay [k5] u u'->Sr F ts u' k4 rs x:=fun r o=>r.aa7 o ⟨n54,fun hF=>by have:=Pw _ hF;omega⟩;have Ni:=u7.lt;refine(L5 r5 (vT hq) fun k hk e=>(by have:=hk.1;omega)).mono ?_;rintro _ w6 ⟨rfl,h6⟩;have z6:=h6.o.size;refine⟨rfl,sm (aX _) h6,rs,_,_,_,_,_,_,_,_,h6.r.blk,(G3 h6.r 1).mono ?_⟩;rintro _ w7 ⟨rfl,h7⟩;have z7:=h7.o.size;have hC:An ts=(⟨(xT ts (ts.length+1) [] (eA ts (eZ ts 1 (eA ts Ia gA)).2 [123])).1,(ry ts (ld ts 14) (eZ ts 1 (eA ts Ia gA)).1 (xT ts (ts.length+1) [] (eA ts (eZ ts 1 (eA ts Ia gA)).2 [123])).2).1⟩,N0 ts (ry ts (ld ts 14) (eZ ts 1 (eA ts Ia gA)).1 (xT ts (ts.length+1) [] (eA ts (eZ ts 1 (eA ts Ia gA)).2 [123])).2).2):=rfl;have yI:(eZ ts 1 (eA ts Ia gA)).1.ini=[]/\(eZ ts 1 (eA ts Ia gA)).1.dft=[]/\(eZ ts 1 (eA ts Ia gA)).1.en=[]/\(eZ ts 1 (eA ts Ia gA)).1.lv=[]/\(eZ ts 1 (eA ts Ia gA)).1.mv=[]:=⟨rfl,rfl,rfl,rfl,rfl⟩
 have on7:On ts Ia (eZ ts 1 (eA ts Ia gA)).2:=(ii hEn _).trans (Ap hEn _ _);generalize eZ ts 1 (eA ts Ia gA)=N at*
 obtain⟨⟨nk,nnm,aom,aon,nen,nlv,nmv,na⟩,u1⟩:=N;dsimp only at*
 obtain⟨i1,i2,i3,i4,i5⟩:=yI;subst i1 i2 i3 i4 i5;refine⟨_,_,_,_,Sl.nil,Sl.nil,Sl.nil,Sl.nil,_,rfl,sm z6 h7,rs,_,_,_,_,_,_,_,_,h7.r.blk,fun w8 fy vt=>?_⟩;have z8:=fy.size;have r8:=r55 h7.r fy;have w8w:=o5 (oD (oD w5w h6) h7) fy;obtain⟨q,w9,e1,fQ,hm⟩:=pZ r8 [123];have z9:=fQ.size;refine⟨q,w9,e1,sq (by omega) fQ,hm.mono ?_⟩;rintro _ du ⟨rfl,TI⟩;have PB:=TI.o.size;have aor:=oD (w8w.cf fQ) TI;have aos:On ts Ia (eA ts u1 [123]):=on7.trans (ii hEn _);clear hm;generalize eA ts u1 [123]=u2 at*
 generalize hV:xT ts (ts.length+1) [] u2=V at*
 generalize hB:du.heap.size=B at*
 refine⟨rfl,sm (by omega) TI,rs,_,_,_,_,_,_,_,_,TI.r.blk,fun nv l10 i28 s3 s4 s5 mP qm xD zi i29 BS i30 i31 i32 i33 i34 i35 i36 i37 w'=>∃(u:Sx) (acc:List Vr),i28=nk/\s3=T nnm/\s4=T []/\s5=T []/\mP=Sl.nil/\qm=Sl.nil/\xD=Sl.nil/\zi=Sl.nil/\i29=na/\Sr F ts w' k4 rs u/\Own Uf 3 95 B w' (Fr B) l10 acc/\xT ts nv acc u=V/\mu ts u<nv/\acc.length+mu ts u<=ts.length/\ay [] w w'/\B<=w'.heap.size/\u.d=12,
  ts.length+1,⟨u2,[],rfl,rfl,rfl,rfl,rfl,rfl,rfl,rfl,rfl,TI.r,Own.nil _ _ _ _ _ _,hV,vD (rB _ _),by rw[cz,bO];exact rB _ _,aor,KH hB.symm,aos.d⟩,?_⟩
 clear hV;rintro nv l10 nk2 _ _ _ _ _ _ _ na2 BS i30 i31 i32 i33 i34 i35 i36 i37 dC ⟨u,acc,rfl,rfl,rfl,rfl,rfl,rfl,rfl,rfl,rfl,r11,TR,hR,hf1,Ih,aot,zB,hud⟩;obtain⟨m,rfl⟩:∃m,nv=m+1:=⟨nv-1,by omega⟩
 rw[xT]at hR;obtain⟨q,dN,e1,eS,hm⟩:=CB r11 [GK] (n:=1) (parts:=#[(0,ab (T GK))]) rfl rfl (by decide) (by decide);have z12:=eS.size;refine⟨q,dN,e1,sq (by omega) eS,hm.mono ?_⟩;rintro _ fb ⟨rfl,u9⟩;have PF:=u9.o.size;have aco:=oD (aot.cf eS) u9;have Y1:Own Uf 3 95 B fb (Fr B) l10 acc:=(TR.stay fA eS fun x hx=>(by cases hx)).stay fA u9.o fun x hx=>.inl (by simp only[aN]at hx;omega);refine⟨_,rfl,sm (by omega) u9,rs,_,_,_,_,_,_,_,_,u9.r.blk,fun uj fk ep HY=>?_,fun uj Bi m05 m15 m35=>?_⟩
 ·have uj:=N9 uj;rw[if_neg uj]at hR u9;have W0:=ep.size;have r14:=u9.r.only ep;refine⟨fun k=>k=k5,rfl,(aat r14 UM).mono ?_⟩;rintro _ fZ ⟨rfl,PH⟩;have z15:=PH.o.size;have hmu:=aau hEn r11.lt uj;have Ff:=Ra hEn (dy u);generalize uR ts (dy u)=X at*
  obtain⟨x,u'⟩:=X;dsimp only at*
  have Bx:=rB ts u;have ahU:Own Uf 3 95 B fZ (Fr B) l10 acc:=(Y1.stay fA ep fun x hx=>(by cases hx)).stay fA PH.o fun x hx=>.inl (by simp only[aN]at hx;omega);obtain⟨y,gI,e2,iR,C9,gf,e3,mW,⟨gs,io,uE⟩,_⟩:=jK (P:=aq) (t:=22) (ty:=22) (e:=95) (i:=Tryz.t95) (bytes:=32) (size:=3) (v:=ah #[ab (T x.n),O U x.v,O U x.a]) (x:=x) (G:=fun _=>False) (by kernel_rfl) (by kernel_rfl) rfl rfl rfl rfl (by decide) (by decide) (by decide) fA ahU (by omega) rfl rfl (fun k hk _=>hk.elim) (by omega);have qs:∀g,g∈gs->B<=g:=fun g hg=>(uE g hg).2.1;have z16:=iR.size;have z17:=io.size;refine⟨_,_,_,rfl,sm (by omega) PH,rs,_,_,_,_,_,_,_,_,PH.r.blk,fun k hk bS=>(by subst hk;exact PH.o.block k bS (by simp only[aN];omega)),y,gI,e2,sq (by omega) iR,bP.only iR,C9,gf,e3,io.same (fun x hx=>?_),fun k hk bS=>(by subst hk;exact io.block k bS fun hm=>(by have:=qs k hm;omega)),fun iy mV TP=>?_⟩
  ·simp only[aU,ba,bW]at hx;exact⟨by omega,fun hm=>by have:=qs x hm;omega⟩
  ·have z18:=mV.size;have r17:Sr F ts gf k4 rs u':=(PH.r.only iR).own io fun x hx=>(by have:=qs x hx;omega)
   refine⟨m,O6 _,u',acc++[x],rfl,rfl,rfl,rfl,rfl,rfl,rfl,rfl,rfl,r55 r17 mV,?_,hR,by omega,by rw[aP,bG];omega,o5 (((oD (aco.cf ep) PH).cf iR).trans io fun x hx=>.inr (by have:=qs x hx;have:=aco.size;omega)) mV,by omega,Ff.d.trans hud⟩;refine(mW.mono fA fun k hk=>?_).stay fA mV fun x hx=>.inl (by simp only[aN]at hx;omega);rcases hk with hk | hk
   ·exact hk
   ·show B<=k;omega
 ·have uj:=N8 uj;rw[if_pos uj]at hR u9;subst hR;dsimp only at hC;have r13:=u9.r;refine(L8 (f:=14) r13 (iY:=[l10.v]) (n:=⟨nk2,nnm,[],[],[],[],[],na2⟩) rfl rfl rfl Bi ⟨n54,fun hF=>(by have:=Pw _ hF;omega)⟩ (by rw[hud];exact⟨by decide,by decide⟩) (fun _=>by
   rw[hud];exact⟨by decide,Mb 14 11 (by decide) (by decide) (by decide)⟩)).mono ?_
  generalize ry ts (ld ts 14) ⟨nk2,nnm,[],[],[],[],[],na2⟩ u=D at*
  obtain⟨root,s1⟩:=D;dsimp only at hC;rw[hC]at hP;dsimp only at hP;rintro _ jA ⟨rfl,cs,ahV,hx,j6,r19⟩;dsimp only at*
  have z19:=j6.size;have aow:ay [] w jA:=aco.trans j6 fun x hx=>.inr (by simp only[aU,ba,bW]at hx;omega);have aox:Stay B fb jA:=Stay.of j6 fun x hx=>.inl (by simp only[aU,ba,bW]at hx;omega);have c19:ChR true 15 jA (Fr w5.heap.size) ⟨acc,root⟩ l10 cs:=⟨((Y1.sl fA fun k hk=>hk).stay fA (by decide) aox).low fA (by omega),(cG true 15).low hx (by omega)⟩
  have Kv:=hx;obtain⟨xe,xl,xm,xk,rfl,_⟩:=Kv;have sm3:∀{u u':av} {bs:List Nat},w5.heap.size<=u.heap.size->ay bs u u'->(∀x,x∈bs->x=k4∨x=k5)->bU [k0,k1,k3] u u':=fun hz o hb=>o.same fun x hx=>⟨by simp only[aU,ba,bW]at hx;omega,fun hm=>by have:=hb x hm;simp only[aU,ba,bW]at hx;omega⟩
  refine⟨rfl,sm3 (by omega) j6 (by simp),rs,_,_,_,_,_,_,_,_,r19.blk,l10,_,_,_,_,xe,xl,xm,xk,_,ahV,?_⟩;have st:∀{u u':av} {x:Sx},Sr F ts u k4 rs x->aF u k5 29 (l10.v::nE root.b.k root.b.nm root.b.ini root.b.dft xe xl xm xk root.b.a)->ay [] w u->ChR true 15 u (Fr w5.heap.size) ⟨acc,root⟩ l10 (nE root.b.k root.b.nm root.b.ini root.b.dft xe xl xm xk root.b.a)->∀{y:Sx},Dn F ts u u' k4 rs y->Sr F ts u' k4 rs y/\aF u' k5 29 (l10.v::nE root.b.k root.b.nm root.b.ini root.b.dft xe xl xm xk root.b.a)/\ay [] w u'/\ChR true 15 u' (Fr w5.heap.size) ⟨acc,root⟩ l10 (nE root.b.k root.b.nm root.b.ini root.b.dft xe xl xm xk root.b.a):=fun{u u' x} a1 a2 a3 a4 {y} d=>
   ⟨d.r,d.o.blk a2 (by simp only[aN];omega),oD a3 d,a4.stay (Stay.of d.o fun x hx=>.inl (by simp only[aN]at hx;omega))⟩
  refine⟨fun Uw i67 Il HV PA Ux Uy Uz UA i68 UB i69 i70 i71 i72 i73 i74 i75 i76 iW=>w5.heap.size<=iW.heap.size/\Sr F ts iW k4 rs (N0 ts s1)/\aF iW k5 29 (l10.v::nE root.b.k root.b.nm root.b.ini root.b.dft xe xl xm xk root.b.a)/\ay [] w iW/\ChR true 15 iW (Fr w5.heap.size) ⟨acc,root⟩ l10 (nE root.b.k root.b.nm root.b.ini root.b.dft xe xl xm xk root.b.a),?_,?_⟩
  ·rintro Uw i67 Il HV PA Ux Uy Uz UA i68 UB i69 i70 i71 i72 i73 i74 i75 i76 iW ⟨z20,a1,a2,a3,a4⟩;refine(ml a1).mono ?_;rintro _ lu ⟨rfl,kE⟩;obtain⟨b1,b2,b3,b4⟩:=st a1 a2 a3 a4 (a1.dn.q kE);have z21:=kE.size;refine⟨_,rfl,sm3 z20 kE (by simp),rs,_,_,_,_,_,_,_,_,b1.blk,l10,_,_,_,_,xe,xl,xm,xk,_,b2,fun hf oT Bj _ _ p01 p03 p04 p05 p13 p14 p15 p34 p35 p45=>⟨fun k=>k=k4,rfl,fun e=>p04 e,fun e=>p14 e,fun om qo _ _=>?_⟩,fun hf oU wH _ _=>?_⟩
   ·have hf:(N0 ts s1).fc≠0:=by simpa using hf
    rw[if_pos hf]at hP;subst hP;exact⟨Sl.nil,_,rfl,Yd _ _,(b3.cf Bj).trans qo fun x hx=>.inr (by simp only[aU,ba,bW]at hx;omega)⟩
   ·have hf:¬(N0 ts s1).fc≠0:=by simpa using hf
    rw[if_neg hf]at hP;subst hP;refine⟨l10,_,rfl,(b4.stay (Stay.of wH fun x hx=>.inl (by simp only[aU,ba,bW]at hx;omega))).low w5w.size,b3.trans wH fun x hx=>.inr (by simp only[aU,ba,bW]at hx;omega)⟩
  ·refine⟨fun b1 OG i87 Tg s17 s18 OH OI UC UD i88 YM i89 i90 i91 i92 i93 i94 i95 i96 mM=>b1=decide (s1.fc=0/\(tk ts s1.i).k≠5)/\w5.heap.size<=mM.heap.size/\Sr F ts mM k4 rs s1/\aF mM k5 29 (l10.v::nE root.b.k root.b.nm root.b.ini root.b.dft xe xl xm xk root.b.a)/\ay [] w mM/\ChR true 15 mM (Fr w5.heap.size) ⟨acc,root⟩ l10 (nE root.b.k root.b.nm root.b.ini root.b.dft xe xl xm xk root.b.a),?_,fun rP qp _ _=>?_⟩
   ·rintro b1 OG i87 Tg s17 s18 OH OI UC UD i88 YM i89 i90 i91 i92 i93 i94 i95 i96 mM ⟨rfl,z25,a1,a2,a3,a4⟩;unfold N0;refine⟨fun hb=>(sO a1).mono ?_,fun hb=>?_⟩
    ·rw[if_pos (aO hb)];rintro _ oo ⟨rfl,h26⟩;obtain⟨b1,b2,b3,b4⟩:=st a1 a2 a3 a4 h26;have z26:=h26.o.size;exact⟨rfl,sm3 z25 h26.o (by simp),rs,_,_,_,_,_,_,_,_,b1.blk,l10,_,_,_,_,xe,xl,xm,xk,_,b2,by omega,b1,b2,b3,b4⟩
    ·rw[if_neg (aR hb)];exact⟨z25,a1,a2,a3,a4⟩
   ·have z27:=qp.size;obtain⟨a1,a2,a3,a4⟩:=st r19 ahV aow c19 (r19.dn.q qp);refine(ml a1).mono ?_;rintro _ vp ⟨rfl,ui⟩;obtain⟨b1,b2,b3,b4⟩:=st a1 a2 a3 a4 (a1.dn.q ui);have z28:=ui.size;obtain⟨ad,g1,g2⟩:=b1.now;refine⟨_,rfl,sm3 (by omega) ui (by simp),rs,_,_,_,_,_,_,_,_,b1.blk,l10,_,_,_,_,xe,xl,xm,xk,_,b2,fun hb=>⟨ad,g1,_,g2.dQ 0 _ rfl,?_,by omega,b1,b2,b3,b4⟩,fun hb=>⟨?_,by omega,b1,b2,b3,b4⟩⟩
    ·have hb:s1.fc=0:=by simpa using hb
     rw[bX];simp[hb]
    ·have hb:¬s1.fc=0:=by simpa using hb
     simp[hb]
def Bu(w:av)(b k:Nat):Prop:=∃n c,w.cell? ⟨b,1,none⟩=some (.slice (some ⟨k,0,none⟩) n c)
structure Mw (f:Bool) (b:Nat) (w w':av):Prop where
 o:aD (fun k=>k=b∨(f=false/\Bu w b k)) w w'
 u:∀k,Bu w' b k->Bu w b k∨(f=false/\w.heap.size<=k)
abbrev St:=Bool×Int
structure Qz (w0:av) (b:Nat) (w:av) (l:aH) (st:St):Prop where
 o:ay [] w0 w
 lo:w0.heap.size<=b
 ex:∃(q:Option Addr) (sl:Sl),(q=none∨q=some ⟨b,0,none⟩)/\aF w b 245 [ae q,sl.v,aj st.1,O U st.2]/\Bf w (b+1) sl l
 i:st.1=false->0<=st.2/\st.2<=400
 big:l.length<=274877906944
structure Up (st:St) (c:Bool) (n:Nat) (cE:St):Prop where
 w:cE.1=((st.1||!c)||decide (400<st.2+n))
 a:cE.1=false->cE.2=st.2+n
theorem or3{a b c:Bool}(h:false=((a||!b)||c)):a=false/\b=true/\c=false:=by
 revert h;cases a<;>cases b<;>cases c<;>decide
theorem Up.ok{st cE:St}{c:Bool}{n:Nat}(h:Up st c n cE)(e:cE.1=false):st.1=false/\c=true/\cE.2=st.2+n/\¬400<st.2+(n:Int):=by
 obtain⟨a,b,d⟩:=or3 (e.symm.trans h.w);exact⟨a,b,h.a e,aR d⟩
theorem Up.tr{st cE acq:St}{c c':Bool}{n n':Nat}(h:Up st c n cE)(k:Up cE c' n' acq):Up st (c&&c') (n+n') acq:=by
 cases e:acq.1 with
 | false=>
  obtain⟨k1,k2,k3,k4⟩:=k.ok e;obtain⟨h1,h2,h3,h4⟩:=h.ok k1;have h5:¬400<st.2+((n+n':Nat):Int):=by omega
  refine⟨?_,fun _=>by omega⟩;rw[e,h1,h2,k2,bC h5];rfl
 | true=>
  refine⟨?_,fun e2=>by rw[e]at e2;cases e2⟩;rw[e];refine Eq.symm (cx fun hn=>?_);obtain⟨a1,a2,a3⟩:=or3 (dx.2 hn).symm;rw[aQ]at a2;have a3:=aR a3;have h5:¬400<st.2+(n:Int):=by omega
  have e1:cE.1=false:=by rw[h.w,a1,a2.1,bC h5];rfl
  have e2:=h.a e1;have h6:¬400<cE.2+(n':Int):=by omega
  have:=k.w;rw[e,e1,a2.2,bC h6]at this;cases this
theorem Up.cg{st cE:St}{c c':Bool}{n n':Nat}(h:Up st c n cE)(e:c=c')(en:n=n'):Up st c' n' cE:=by subst e en;exact h
theorem Up.le{st cE:St}{c:Bool}{n:Nat}(h:Up st c n cE)(h0:st.1=false->0<=st.2)(e:cE.1=false):0<=cE.2/\cE.2<=400:=by
 obtain⟨a,b,d,h2⟩:=h.ok e;have:=h0 a;omega
section
variable {f g:Bool} {w0 ws w w' w1 tV:av} {b k:Nat} {l l':aH} {st cE:St} {ks ks':List Nat}
theorem Mw.refl(f:Bool)(b:Nat)(w:av):Mw f b w w:=⟨OnlyP.refl _ _,fun _ h=>.inl h⟩
theorem Mw.trans(h:Mw f b w w')(k:Mw f b w' tV):Mw f b w tV:=by
 have z:=h.o.size;refine⟨h.o.trans k.o fun x hx=>?_,fun x hx=>?_⟩
 ·rcases hx with hx | ⟨ef,hx⟩
  ·exact .inl (.inl hx)
  ·rcases h.u x hx with e | ⟨_,e⟩
   ·exact .inl (.inr ⟨ef,e⟩)
   ·exact .inr e
 ·rcases k.u x hx with e | ⟨ef,e⟩
  ·exact h.u x e
  ·exact .inr ⟨ef,by omega⟩
theorem Mw.up(h:Mw f b w w'):Mw false b w w':=⟨h.o.mono fun k _ hk=>hk.elim .inl fun e=>.inr ⟨rfl,e.2⟩,fun k hk=>(h.u k hk).elim .inl fun e=>.inr ⟨rfl,e.2⟩⟩
theorem Mw.agD(h:Mw true b w w'):ay [b] w w':=h.o.agx fun k hk=>hk.elim (fun e=>.inl (by rw[e];simp)) fun e=>(by cases e.1)
theorem wh(h:w'.heap[b]? =w.heap[b]?){k:Nat}(hb:Bu w' b k):Bu w b k:=by
 obtain⟨n,c,hc⟩:=hb;refine⟨n,c,?_⟩;unfold World.cell? at hc⊢;rw[h]at hc;exact hc
theorem Qz.lb(h:Qz w0 b w l st):b<w.heap.size:=by
 obtain⟨q,sl,_,hB,_⟩:=h.ex;exact hB.lt
theorem Qz.arg(h:Qz w0 b w l st)(h':Qz w0 b w' l' cE){k:Nat}(hk:k<w0.heap.size):w'.heap[k]? =w.heap[k]? :=(h'.o.block k hk (by simp)).trans (h.o.block k hk (by simp)).symm
theorem Mw.only(hb:b<w.heap.size)(h:ay [] w w'):Mw f b w w':=⟨h.p0,fun k hk=>.inl (wh (h.block b hb (by simp)) hk)⟩
theorem Mc{q v2 v3:aw}{t:TypeId}{sl:Sl}(hB:aF w b t [q,sl.v,v2,v3]){k:Nat}(h:Bu w b k):sl.a=some ⟨k,0,none⟩:=by
 obtain⟨n,c,hc⟩:=h;have:=Blk.dQ hB 1 rfl 0 sl.v rfl;have e:(Addr.add ⟨b,0,none⟩ 1).add 0=⟨b,1,none⟩:=by simp[Addr.add]
 rw[e,hc]at this;have:(Value.slice (some ⟨k,0,none⟩) n c)=.slice sl.a sl.n sl.c:=zm this;injection this with e1 _ _;exact e1.symm
theorem G6{q v2 v3:aw}{t:TypeId}{sl:Sl}(hB:aF w b t [q,sl.v,v2,v3]){k:Nat}(h:sl.a=some ⟨k,0,none⟩):Bu w b k:=by
 have:=Blk.dQ hB 1 rfl 0 sl.v rfl;have e:(Addr.add ⟨b,0,none⟩ 1).add 0=⟨b,1,none⟩:=by simp[Addr.add]
 rw[e]at this;refine⟨sl.n,sl.c,?_⟩;rw[this,<-h]
theorem Qz.bu(h:Qz w0 b w l st){k:Nat}(hk:Bu w b k):b<k/\k<w.heap.size:=by
 obtain⟨q,sl,_,hB,hb⟩:=h.ex;have:=hb.lt (Mc hB hk);omega
theorem Qz.only(h:Qz w0 b w l st)(hO:ay [] w w'):Qz w0 b w' l st:=by
 obtain⟨q,sl,hq,hB,hb⟩:=h.ex;exact⟨h.o.cf hO,h.lo,⟨q,sl,hq,hO.blk hB (by simp),hb.keep fun g _ hl=>hO.block g hl (by simp)⟩,h.i,h.big⟩
structure Zq (f:Bool) (w0 ws:av) (b:Nat) (w:av) (l:aH) (st:St) (ks:List Nat):Prop extends Qz w0 b w l st where
 m:Mw f b ws w
 k:∀k,k∈ks->k<w.heap.size/\k≠b/\¬Bu w b k
theorem Qz.z(f:Bool)(h:Qz w0 b w l st):Zq f w0 w b w l st []:=⟨h,Mw.refl f b w,fun k hk=>(by cases hk)⟩
theorem Zq.q(t:Zq f w0 ws b w l st ks)(hO:ay [] w w'):Zq f w0 ws b w' l st ks:=by
 have hb:=t.toQz.lb;refine⟨t.toQz.only hO,t.m.trans (Mw.only hb hO),fun k hk=>?_⟩;obtain⟨h1,h2,h3⟩:=t.k k hk;exact⟨cm h1 hO.size,h2,fun h=>h3 (wh (hO.block b hb (by simp)) h)⟩
theorem Zq.al(t:Zq f w0 ws b w l st ks)(hO:ay [] w w')(h1:w.heap.size<=k)(h2:k<w'.heap.size):Zq f w0 ws b w' l st (k::ks):=by
 have hb:=t.toQz.lb;have t':=t.q hO;refine⟨t'.toQz,t'.m,fun x hx=>?_⟩;rcases aU.1 hx with rfl | hx
 ·exact⟨h2,by omega,fun h=>by have:=(t.toQz.bu (wh (hO.block b hb (by simp)) h)).2;omega⟩
 ·exact t'.k x hx
theorem Zq.nx(t:Zq f w0 ws b w l st ks)(p:Qz w0 b w' l' cE)(m:Mw f b w w'):Zq f w0 ws b w' l' cE ks:=by
 refine⟨p,t.m.trans m,fun k hk=>?_⟩;obtain⟨h1,h2,h3⟩:=t.k k hk;exact⟨cm h1 m.o.size,h2,fun h=>(m.u k h).elim h3 fun e=>by have:=e.2;omega⟩
theorem Zq.sq(t:Zq f w0 ws b w l st ks)(hO:ay [] w w')(hk:∀k,k∈ks'->k∈ks):bU ks' w w':=hO.same fun x hx=>⟨(t.k x (hk x hx)).1,by simp⟩
theorem Zq.sm(t:Zq f w0 ws b w l st ks)(m:Mw g b w w')(hk:∀k,k∈ks'->k∈ks):bU ks' w w':=m.o.same fun x hx=>⟨(t.k x (hk x hx)).1,fun h=>h.elim (t.k x (hk x hx)).2.1 fun e=>(t.k x (hk x hx)).2.2 e.2⟩
theorem Zq.sj(t:Zq f w0 ws b w l st ks)(hz:w.heap.size<=w1.heap.size)(h:aD (fun k=>w.heap.size<=k) w1 w')(hk:∀k,k∈ks'->k∈ks):bU ks' w1 w':=h.same fun x hx=>by
 have:=(t.k x (hk x hx)).1;exact⟨by omega,by omega⟩
theorem Zq.row(t:Zq true w0 ws b w l st ks)(hb:b<ws.heap.size)(hu:∀k,Bu ws b k->k<ws.heap.size)(hO:aD (fun k=>ws.heap.size<=k) w w'):Zq true w0 ws b w' l st ks:=by
 have hB:=t.toQz.lb;have hlo:=t.lo;have hkb:∀k,Bu w b k->Bu ws b k:=fun k hk=>(t.m.u k hk).elim id fun e=>(by cases e.1)
 have Pv:=hO.block b hB (by omega);obtain⟨q,sl,hq,hBl,hbf⟩:=t.ex;refine⟨⟨⟨hO.os.trans t.o.os,hO.tape.trans t.o.tape,hO.output.trans t.o.output,bp t.o.size hO.size,fun k hk _=>(hO.block k (cm hk t.o.size) (by omega)).trans (t.o.block k hk (by simp))⟩,hlo,⟨q,sl,hq,Pv.trans hBl,hbf.keep fun g hg hl=>hO.block g hl fun e=>(by have:=hu g (hkb g (G6 hBl hg));omega)⟩,t.i,t.big⟩,⟨t.m.o.trans hO fun k hk=>.inr hk,fun k hk=>.inl (hkb k (wh Pv hk))⟩,fun k hk=>?_⟩;obtain⟨h1,h2,h3⟩:=t.k k hk;exact⟨cm h1 hO.size,h2,fun h=>h3 (wh Pv h)⟩
theorem bP.of{ks:List Nat}(h:bU ks w w'):bP (fun k=>k∈ks) w w':=fun k hk _=>h k hk
theorem sP{w2:av}(h1:ay [] w w1)(h2:aD (fun k=>w.heap.size<=k) w1 w2):ay [] w w2:=(h1.mL h2).only fun _ h=>h
end
theorem Rz(w:av)(ws:List (aH)){n:Nat}{parts:Array (Nat×aw)}(hp:parts=(((ws.map fun x=>Value.string (T x)).zipIdx 0).map fun x=>(x.2,x.1)).toArray)(hn:ws.length=n)(h0:0<n)(zg:n*1<=16777216):
  ∃(q:Sl) (w1:av) (g:Nat) (cs:aI),(au 31 n parts).run aq w=.ok q.v w1/\ay [] w w1/\w.heap.size<=g/\g<w1.heap.size/\aF w1 g 9 cs/\
   ∀(i:Nat) x,ws[i]? =some x->cW q (i:Int) 1 ⟨g,i,none⟩/\∀w',aF w' g 9 cs->aB w' ⟨g,i,none⟩ [ab (T x)]:=by
 obtain⟨q,w1,k1,k2,k3⟩:=nU w ws hp hn h0 zg;rcases k2 with⟨_,e⟩ | ⟨g,css,tail,a1,a2,a4,a5,a6,a7,a9,a8⟩
 ·subst e;simp at hn;omega
 ·have Pu:=Jk a8;refine⟨q,w1,g,_,k1,k3,a2,a4.lt,a4,fun i x hx=>⟨⟨⟨g,0,none⟩,a1,bA i,?_,?_⟩,fun w' hB=>Blk.Yy hB i ?_⟩⟩
  ·have:=(aV.1 hx).1;omega
  ·rw[fL,aY,gj,bO]
  ·have:(ws.map fun x=>Value.string (T x))[i]? =some (ab (T x)):=by rw[ch,hx];rfl
   rw[Pu,bK (aV.1 this).1,this]
section
variable {w0 w:av} {b:Nat} {l:aH} {st:St}
theorem Jn(b j:Nat):(Addr.add ⟨b,0,none⟩ j:Addr)=⟨b,j,none⟩:=by rw[fL,bO]
theorem Qz.set(h:Qz w0 b w l st):∃(q:Option Addr) (sl:Sl),aF w b 245 [ae q,sl.v,aj st.1,O U st.2]/\
  ∀(w':av) (cE:St),ay [b] w w'->aF w' b 245 [ae q,sl.v,aj cE.1,O U cE.2]->(cE.1=false->0<=cE.2/\cE.2<=400)->Qz w0 b w' l cE/\Mw true b w w':=by
 obtain⟨q,sl,hq,hB,hb⟩:=h.ex;refine⟨q,sl,hB,fun w1 wN cr wD hi=>⟨⟨⟨cr.os.trans h.o.os,cr.tape.trans h.o.tape,cr.output.trans h.o.output,bp h.o.size cr.size,fun k hk _=>(cr.block k (cm hk h.o.size) (by have:=h.lo;simp;omega)).trans (h.o.block k hk (by simp))⟩,h.lo,⟨q,sl,hq,wD,hb.keep fun g hg hl=>cr.block g hl (by have:=(hb.lt hg).1;simp;omega)⟩,hi,h.big⟩,?_⟩⟩;exact⟨cr.p fun x hx=>.inl (.inl (by simpa using hx)),fun k hk=>.inl (G6 hB (Mc wD hk))⟩
theorem Qz.up0(h:Qz w0 b w l st):Up st true 0 st:=by
 refine⟨?_,fun _=>by simp⟩;cases e:st.1
 ·have:=(h.i e).2;have h2:¬400<st.2+((0:Nat):Int):=by omega
  rw[bC h2];rfl
 ·rfl
theorem Md{q:Option Addr}{sl:Sl}{wr:Bool}{ac:Int}(hB:aF w b 245 [ae q,sl.v,aj wr,O U ac])(ok:Bool):az aq 169 #[rp b,aj ok] w fun e w'=>
  e=ak (ai #[])/\ay [b] w w'/\aF w' b 245 [ae q,sl.v,aj (wr||!ok),O U ac]:=by
 refine ret (afz _ _ _ _ ?_);exact⟨wr,Blk.dQ hB 2 rfl,b,2,_,_,Jn b 2,hB,by simp,fun w1 cr wD=>⟨rfl,cr,wD⟩⟩
theorem jO(h:Qz w0 b w l st)(ok:Bool):az aq 169 #[rp b,aj ok] w fun e w'=>e=ak (ai #[])/\∃cE,Up st ok 0 cE/\Qz w0 b w' l cE/\Mw true b w w':=by
 obtain⟨q,sl,hB,HU⟩:=h.set;refine(Md hB ok).mono ?_;rintro _ w1 ⟨rfl,cr,wD⟩;have hu:Up st ok 0 (st.1||!ok,st.2):=by
  refine⟨?_,fun e=>by simp⟩;cases e:st.1
  ·have:=(h.i e).2;have h2:¬400<st.2+((0:Nat):Int):=by omega
   rw[bC h2,Bool.or_false]
  ·simp
 exact⟨rfl,_,hu,HU w1 _ cr wD fun e=>hu.le (fun e=>(h.i e).1) e⟩
theorem mo(h:Qz w0 b w l st)(s:aH)(hs:s.length<9223372036854775807):az aq 171 #[rp b,ab (T s)] w fun e w'=>e=ak (ab (T s))/\∃cE,Up st (eM s) 0 cE/\Qz w0 b w' l cE/\Mw true b w w':=by
 refine ret (afA _ _ _ _ ?_);refine(Q1 s hs).mono ?_;rintro _ w1 ⟨rfl,cr⟩;refine⟨_,rfl,(jO (h.only cr) _).mono ?_⟩;rintro _ w2 ⟨rfl,cE,h1,h2,h3⟩;exact⟨rfl,rfl,cE,h1,h2,(Mw.only h.lb cr).trans h3⟩
theorem Me(h:Qz w0 b w l st){F:aJ}{x:Ex}{cs:aI}(hx:rE false w F x cs)(hn:okN x)(hs:Cu x<=1759218604441)(hE:Er w0)(hT:Tb w0):
  az aq 233 #[rp b,ah cs.toArray] w fun e w'=>e=ak (ab (T (Cv x)))/\∃cE,Up st (Ar x) 0 cE/\Qz w0 b w' l cE/\Mw true b w w':=by
 obtain⟨xs,rfl⟩:=jc hx;refine ret (alo _ _ _ _ _ _ _ _ _ ?_);intro k0 w1 gu fe cr;have t1:=(h.z true).al cr gu fe;refine(VS ((ja false).keep hx fun k _ bS=>cr.block k bS (by simp)) hn hs (hE.only t1.o) (hT.only t1.o)).mono ?_;rintro _ w2 ⟨rfl,cR⟩;have t2:=t1.q cR;refine⟨_,rfl,t1.sq cR (by simp),(jO t2.toQz _).mono ?_⟩;rintro _ w3 ⟨rfl,cE,h1,h2,h3⟩;rw[show ao #[]=T []from rfl,mA]at h1;have e:(!decide (Cv x=[]))=Ar x:=by unfold Ar;rw[decide_not]
 rw[e]at h1;exact⟨rfl,t2.sm h3 (by simp),rfl,cE,h1,h2,(t2.nx h2 h3).m⟩
theorem Mf(h:Qz w0 b w l st){F:aJ}{x:Ex}{cs:aI}(hx:rE false w F x cs):
  az aq 234 #[rp b,ah cs.toArray] w fun e w'=>e=ak (ai #[])/\∃cE,Up st (xU x) 0 cE/\Qz w0 b w' l cE/\Mw true b w w':=by
 have fi:∃xs:Sl,cs=qQ x.k x.n x.s x.op xs x.a/\xs.n=x.fF.length:=by
  obtain⟨d,hx⟩:=hx;cases d with
  | zero=>exact hx.elim
  | succ d=>
   obtain⟨sl,h1,h2,_⟩:=hx;exact⟨sl,h1,h2.len⟩
 obtain⟨xs,rfl,hl⟩:=fi;refine ret (aln _ _ _ _ _ _ _ _ _ ?_);intro k0 w1 gu fe cr;have t1:=(h.z true).al cr gu fe;refine(jO t1.toQz _).mono ?_;rintro _ w3 ⟨rfl,cE,h1,h2,h3⟩;rw[show ao #[]=T []from rfl,mA,hl]at h1;exact⟨rfl,t1.sm h3 (by simp),rfl,cE,h1,h2,(t1.nx h2 h3).m⟩
theorem Mg(h:Qz w0 b w l st):az aq 174 #[rp b] w fun e w'=>e=ak (aj (decide (16384<l.length)))/\w'=w:=by
 refine ret (afC _ _ _ ?_);obtain⟨q,sl,hq,hB,hb⟩:=h.ex;refine(XO _ (fun v w'=>v=O U (l.length:Int)/\w'=w) w ?_).mono ?_
 ·rw[Jn];exact⟨sl,Blk.dQ hB 1 rfl,by rw[hb.len],rfl⟩
 ·rintro _ w1 ⟨v,rfl,rfl,rfl⟩;refine⟨_,rfl,?_,rfl⟩;congr 1;rw[bX];simp;omega
end
def Oc(a:Ac):Nat:=Cu a.x+(a.n.length+1)
def jw:List Ac->Nat
 | []=>0
 | a::l=>Oc a+jw l
theorem AE{a:Ac}:∀{l:List Ac},a∈l->Oc a<=jw l
 | [],h=>by simp at h
 | x::l,h=>by
  rw[jw];rcases aU.1 h with rfl | h
  ·omega
  ·have:=AE h;omega
theorem mH:∀(l:List Ac),l.length<=jw l
 | []=>bh _
 | a::l=>by
  have:=mH l;rw[jw,bf];unfold Oc;omega
def G7(l:List (aH)):Nat:=(l.map fun s=>s.length+1).sum
def Jo(m:Mv):Nat:=(jw m.acts+Cu m.g)+(G7 m.tg+(m.ev.length+1))
theorem Mh(x:Ex):(Cv x).length<=16384:=by
 by_cases h:Cv x=[]
 ·rw[h];exact bh _
 ·obtain⟨h1,h2,h3⟩:=Rj h;refine cx fun hc=>?_;have e:Cv x=vi (Fu x) x false []:=h2;rw[<-e]at h3;unfold oI at h3;have:dr (Cv x)=([],2, -1):=by rw[dr,if_pos (by omega)]
  rw[this,if_pos (by decide)]at h3;exact absurd h3 (show ¬(2:Int)=0 by decide)
theorem qW{s:aH}(h:eM s=true):ne s=true:=by
 unfold eM at h;simp only[aQ]at h;have:=(aO h.1.1.1).1;unfold ne;rw[bC this];rfl
theorem agd{x:Ex}(h:Ar x=true):ne (Cv x)=true:=by
 unfold ne;rw[bC (aO h)];rfl
theorem oQ{x:aH}(h:ne x=true)(ws:List (aH)):fM (x::ws)=x++Lib.joinTail [32] (ws.filter ne):=by
 unfold fM;rw[qw,h,if_pos rfl,Lib.join_cons]
theorem fC(x:aH)(r:List (aH)):Lib.joinTail [32] (x::r)=32::(x++Lib.joinTail [32] r):=by
 unfold Lib.joinTail;rw[bD,di];rfl
theorem lX:Lib.joinTail [32] []=[]:=rfl
theorem fD{x:aH}(h:ne x=true)(ws:List (aH)):(x::ws).filter ne=x::ws.filter ne:=by rw[qw,h,if_pos rfl]
theorem RA(ws:List (aH)):([]::ws).filter ne=ws.filter ne:=by rw[qw,if_neg (by decide)]
def Uj(a:Ac):List (aH):=if a.k=2 then[lc,a.n]else[if a.k=1 then uc else nj,a.n,[61],Cv a.x]
theorem Ye{a:Ac}(h:mS a=true):fM (Uj a)++[59]=Pc a:=by
 unfold mS at h;simp only[aQ]at h;obtain⟨⟨h1,h2⟩,h3⟩:=h;unfold Uj Pc;by_cases hk:a.k=2
 ·rw[if_pos hk,if_pos hk,oQ (by decide),fD (qW h2),eG,fC,lX];simp
 ·rw[if_neg hk]at h3;have hw:ne (if a.k=1 then uc else nj)=true:=by split<;>decide
  rw[if_neg hk,if_neg hk,oQ hw,fD (qW h2),fD (by decide),fD (agd h3),eG,fC,fC,fC,lX];simp
theorem V1(a:Ac):(fM (Uj a)).length<=16398+a.n.length:=by
 refine bp (iJ _) ?_;have:=Mh a.x;unfold Uj;split
 ·simp only[bD,eV,cp,gF];show 5+1+(a.n.length+1+0)<=_;omega
 ·simp only[bD,eV,cp,gF];have:(if a.k=1 then uc else nj).length<=4:=by split<;>decide
  show _+1+(a.n.length+1+(1+1+(_+1+0)))<=_;omega
section
variable {w0 w:av} {b:Nat} {l:aH} {st:St}
theorem age(h:Qz w0 b w l st){F:aJ}{a:Ac}{cs:aI}(hx:rA false w F a cs)(hF:∀k,F k->k<w0.heap.size)(hn:X8 a)(hs:Oc a<=1759218604441)(hE:Er w0)(hT:Tb w0):
  az aq 232 #[rp b,ah cs.toArray] w fun e w'=>∃s cE,e=ak (ab (T s))/\s.length<=16400+a.n.length/\(mS a=true->s=Pc a)/\Up st (mS a) 0 cE/\Qz w0 b w' l cE/\Mw true b w w':=by
 obtain⟨xc,rfl,hx⟩:=hx;obtain⟨xs,rfl⟩:=jc hx;unfold Oc at hs;refine(alm ⟨b,0,none⟩ a.k (T a.n) a.x.k a.x.n (T a.x.s) a.x.op xs a.x.a a.a (fun v w'=>∃s cE,v=ab (T s)/\s.length<=16400+a.n.length/\(mS a=true->s=Pc a)/\Up st (mS a) 0 cE/\Qz w0 b w' l cE/\Mw true b w w') w ?_).mono (by
  rintro e w' ⟨v,rfl,s,cE,rfl,h⟩;exact⟨s,cE,rfl,h⟩)
 intro k0 w1 gu fe cr;have t1:=(h.z true).al cr gu fe;obtain⟨q,w2,g,cs,e1,cR,hg1,hg2,po,hat⟩:=Rz w1 [[],uc,lc,nj] (n:=4) (parts:=#[.mk 0 (ab (ao #[])),.mk 1 (ab (ao #[115,101,116])),.mk 2 (ab (ao #[114,97,105,115,101])),.mk 3 (ab (ao #[101,109,105,116]))]) rfl rfl (by decide) (by decide);have t2:=t1.al cR hg1 hg2;have tail:=V1 a;refine⟨q,w2,e1,t1.sq cR (by simp),fun hc=>?_,fun hc=>?_⟩
 ·refine(jO t2.toQz false).mono ?_;rintro _ w3 ⟨rfl,cE,u1,u2,u3⟩;have hk:mS a=false:=by
   unfold mS;have:¬(1<=a.k/\a.k<=3):=by
    simp only[cn,bM]at hc;omega
   rw[bC this];rfl
  exact⟨rfl,t2.sm u3 (by simp),[],cE,rfl,bh _,fun e=>(by rw[hk]at e;cases e),by rw[hk];exact u1,u2,(t2.nx u2 u3).m⟩
 have Fe:1<=a.k/\a.k<=3:=by
  simp only[eb,cY]at hc;omega
 have hwd:∀x,[[],uc,lc,nj][a.k.toNat]? =some x->cW q a.k 1 ⟨g,a.k.toNat,none⟩/\∀w',aF w' g 9 cs->aB w' ⟨g,a.k.toNat,none⟩ [ab (T x)]:=fun x hx=>by
  have:=hat _ x hx;rwa[mz (by omega)]at this
 refine⟨fun lw=>?_,fun lw w8 fy=>?_⟩
 ·have hk:a.k=2:=by simpa using lw
  have hW:Uj a=[lc,a.n]:=by unfold Uj;rw[if_pos hk]
  refine(Mf t2.toQz ((ja false).keep hx fun k hk _=>h.arg t2.toQz (hF k hk))).mono ?_;rintro _ w3 ⟨rfl,M2,u1,u2,u3⟩;have t3:=t2.nx u2 u3;refine⟨rfl,t2.sm u3 (by simp),fun w4 dL=>⟨fun k=>k∈[k0,g],by simp,?_⟩⟩;have t4:=t3.q dL;obtain⟨y1,y2⟩:=hwd lc (by rw[hk];rfl);have uh:aF w4 g 9 cs:=(t3.sq (ks':=[g]) dL (by simp) g (by simp)).trans ((t2.sm (ks':=[g]) u3 (by simp) g (by simp)).trans po);refine⟨_,y1,by simp,_,y2 w4 uh,(mo t4.toQz a.n (by omega)).mono ?_⟩;rintro _ w5 ⟨rfl,W9,v1,v2,v3⟩;have t5:=t4.nx v2 v3;obtain⟨q6,w6,e6,eB,_,hj⟩:=CA w5 [lc,a.n] (n:=2) (parts:=#[.mk 0 (ab (T lc)),.mk 1 (ab (T a.n))]) rfl rfl (by decide) (by decide) (by rw[<-hW];omega);have z6:=eB.size;refine⟨_,rfl,t4.sm v3 (by simp),bP.of (t4.sm v3 (by simp)),q6,w6,e6,t5.sq eB (by simp),bP.of (t5.sq eB (by simp)),hj.mono ?_⟩;rintro _ w7 ⟨rfl,Y2⟩;have fE:=sP eB Y2;have t7:=t5.q fE;have hU:=u1.tr v1;have oe:mS a=(xU a.x&&eM a.n):=by
   unfold mS;rw[if_pos hk,bL Fe,cO,Bool.and_comm]
  rw[<-oe]at hU;rw[<-hW];refine⟨_,rfl,t5.sj z6 Y2 (by simp),bP.of (t5.sj z6 Y2 (by simp)),by rw[dI];omega,fM (Uj a)++[59],W9,by rw[show ao #[59]=T [59]from rfl,lD],by rw[aP,bG];omega,fun oe=>Ye oe,hU,t7.toQz,t7.m⟩
 ·have hk:a.k≠2:=by simpa using lw
  have hW:Uj a=[if a.k=1 then uc else nj,a.n,[61],Cv a.x]:=by unfold Uj;rw[if_neg hk]
  have t8:=t2.q fy;obtain⟨y1,y2⟩:=hwd (if a.k=1 then uc else nj) (by
   by_cases h1:a.k=1
   ·rw[if_pos h1,h1];rfl
   ·rw[if_neg h1,show a.k=3 by omega];rfl)
  have vt:aF w8 g 9 cs:=(t2.sq (ks':=[g]) fy (by simp) g (by simp)).trans po;refine⟨fun k=>k∈[k0,g],by simp,_,y1,by simp,_,y2 w8 vt,by simp,(mo t8.toQz a.n (by omega)).mono ?_⟩;rintro _ w9 ⟨rfl,st9,u1,u2,u3⟩;have t9:=t8.nx u2 u3;refine⟨_,rfl,t8.sm u3 (by simp),bP.of (t8.sm u3 (by simp)),(Me t9.toQz ((ja false).keep hx fun k hk _=>h.arg t9.toQz (hF k hk)) hn (by omega) hE hT).mono ?_⟩;rintro _ du ⟨rfl,aoB,v1,v2,v3⟩;have t10:=t9.nx v2 v3;obtain⟨q11,dC,e11,eu,_,hj⟩:=CA du [if a.k=1 then uc else nj,a.n,[61],Cv a.x] (n:=4) (parts:=#[.mk 0 (ab (T (if a.k=1 then uc else nj))),.mk 1 (ab (T a.n)),.mk 2 (ab (T [61])),.mk 3 (ab (T (Cv a.x)))]) rfl rfl (by decide) (by decide) (by rw[<-hW];omega);have C6:=eu.size;refine⟨_,rfl,t9.sm v3 (by simp),bP.of (t9.sm v3 (by simp)),q11,dC,e11,t10.sq eu (by simp),bP.of (t10.sq eu (by simp)),hj.mono ?_⟩;rintro _ dN ⟨rfl,TS⟩;have eS:=sP eu TS;have t12:=t10.q eS;have hU:=u1.tr v1;have oe:mS a=(eM a.n&&Ar a.x):=by
   unfold mS;rw[if_neg hk,bL Fe,cO]
  rw[<-oe]at hU;rw[<-hW];refine⟨_,rfl,t10.sj C6 TS (by simp),bP.of (t10.sj C6 TS (by simp)),by rw[dI];omega,fM (Uj a)++[59],aoB,by rw[show ao #[59]=T [59]from rfl,lD],by rw[aP,bG];omega,fun oe=>Ye oe,hU,t12.toQz,t12.m⟩
end
theorem Up.bad{st cE:St}{c c':Bool}{n n':Nat}(h:Up st c n cE)(e:cE.1=true)(hc:c'=true->c=true)(hn:n<=n'):Up st c' n' cE:=by
 refine⟨?_,fun e2=>by rw[e]at e2;cases e2⟩;rw[e];refine Eq.symm (cx fun hk=>?_);obtain⟨a1,a2,a3⟩:=or3 (dx.2 hk).symm;have a3:=aR a3;have:=h.w;rw[e,a1,hc a2,bC (show ¬400<st.2+(n:Int) by omega)]at this;cases this
theorem wi:∀(l m:List Ac),jw (l++m)=jw l+jw m
 | [],m=>by rw[ck];show _=0+_;omega
 | a::l,m=>by rw[bZ,jw,jw,wi l m];omega
theorem aav(a:Ac):ne (Pc a)=true:=by
 have:Pc a≠[]:=by unfold Pc;split<;>simp
 unfold ne;rw[bC this];rfl
theorem RB:∀l:List Ac,Lib.joinTail [32] ((l.map Pc).filter ne)=VT l
 | []=>rfl
 | a::l=>by rw[bD,fD (aav a),fC,RB l,VT]
theorem aaw(x y:List (aH)):Lib.joinTail [32] (x++y)=Lib.joinTail [32] x++Lib.joinTail [32] y:=by
 unfold Lib.joinTail;rw[cJ,Fl]
theorem agf(l:List Ac):fM ([123]::(l.map Pc++[[125]]))=FZ l:=by
 rw[oQ (by decide),fj,aaw,RB];rfl
theorem Yf{w:av}{B:Nat}{s:Sl}{ws:List (aH)}(h:Own ju 1 9 B w (fun _=>True) s ws)(x:aH)(hB:B<=w.heap.size)(hm:ws.length<=1073741824):
  ∃y w1,(au 31 1 #[.mk 0 (ab (T x))]).run aq w=.ok (Sl.v y) w1/\ay [] w w1/\∃s' w2,(Builtin.append_ #[31,31] 31 #[Sl.v s,Sl.v y]).run aq w1=.ok (Sl.v s') w2/\
   Own ju 1 9 B w2 (fun _=>True) s' (ws++[x])/\∃gs,ay gs w1 w2/\∀g,g∈gs->s.a=some ⟨g,0,none⟩/\B<=g:=by
 obtain⟨y,w1,e1,cr,s',w2,e2,mW,⟨gs,cR,uE⟩,_⟩:=jK (P:=aq) (t:=31) (ty:=31) (e:=9) (i:=Tryz.t9) (bytes:=16) (size:=1) (v:=ab (T x)) (x:=x) (G:=fun _=>False) (by kernel_rfl) (by kernel_rfl) rfl rfl rfl rfl (by decide) (by decide) (by decide) cP h hB rfl rfl (fun k hk _=>hk.elim) (by omega);exact⟨y,w1,e1,cr,s',w2,e2,mW.mono cP fun k _=>trivial,gs,cR,fun g hg=>⟨(uE g hg).1,(uE g hg).2.1⟩⟩
theorem _root_.Go.Kt.Own.far{w w':av}{B b:Nat}{s:Sl}{ws:List (aH)}(h:Own ju 1 9 B w (fun _=>True) s ws)(hO:ay [b] w w')(hb:b<B):Own ju 1 9 B w' (fun _=>True) s ws:=by
 rcases h with⟨rfl,rfl⟩ | ⟨g,css,tail,h1,h2,h4,h5,h6,h7,h9,h8⟩
 ·exact .inl ⟨rfl,rfl⟩
 ·have e:∀{l:List (aH)} {css:List (aI)},mN ju 1 w (fun k=>True/\k≠g) l css->mN ju 1 w' (fun k=>True/\k≠g) l css:=fun{l}=>by
   induction l with
   | nil=>intro css h;cases css with | nil=>trivial | cons _ _=>exact h
   | cons x l ih=>intro css h;cases css with | nil=>exact h | cons c css=>exact⟨h.1,ih h.2⟩
  exact .inr ⟨g,css,tail,h1,h2,hO.blk h4 (by simp;omega),h5,h6,h7,h9,e h8⟩
theorem RC{α:Type}{p:α->Bool}{xs:List α}{j:Nat}(h:xs.all p=true):(xs.take j).all p=true:=by
 rw[dY]at h⊢;exact fun x hx=>h x (List.mem_of_mem_take hx)
theorem G8(ws:List (aH))(x:aH):((ws++[x]).map fun l=>l.length+1).sum=(ws.map fun l=>l.length+1).sum+(x.length+1):=by
 rw[cJ,List.sum_append];simp
section
variable {w0 w:av} {b:Nat} {l:aH} {st:St}
theorem Ed(h:Qz w0 b w l st){F:aJ}{s:Sl}{xs:List Ac}(hx:aA (rA false) 9 w F s xs)(hF:∀k,F k->k<w0.heap.size)(hn:∀a,a∈xs->X8 a)(hs:jw xs<=16777216)(hE:Er w0)(hT:Tb w0):
  az aq 208 #[rp b,s.v] w fun e w'=>∃t cE,e=ak (ab (T t))/\t.length<=16405*jw xs/\(cE.1=false->t=if xs=[]then[]else FZ xs)/\Up st (xs.all mS) xs.length cE/\Qz w0 b w' l cE/\Mw true b w w':=by
 refine(alk ⟨b,0,none⟩ s (fun v w'=>∃t cE,v=ab (T t)/\t.length<=16405*jw xs/\(cE.1=false->t=if xs=[]then[]else FZ xs)/\Up st (xs.all mS) xs.length cE/\Qz w0 b w' l cE/\Mw true b w w') w ?_).mono (by
  rintro e w' ⟨v,rfl,s,cE,rfl,h⟩;exact⟨s,cE,rfl,h⟩)
 have fi:=hx.len;have hlz:=mH xs;refine⟨fun hc=>?_,fun hc=>?_⟩
 ·have hc:s.n=0:=by have:((s.n:Int))=0:=(by simpa using hc);omega
  have:xs=[]:=cb (by omega);subst this;exact⟨[],st,rfl,bh _,fun _=>(if_pos rfl).symm,h.up0,h,Mw.refl _ _ _⟩
 have ik:xs≠[]:=fun e=>by
  subst e;have:s.n=0:=fi;rw[this]at hc;exact absurd hc (by decide)
 obtain⟨q,sl,hB,HU⟩:=h.set;refine⟨st.2,Blk.dQ hB 3 rfl,b,3,_,_,Jn b 3,hB,by simp,fun w1 cr wD=>⟨_,Blk.dQ wD 3 rfl,(Md (q:=q) (sl:=sl) (wr:=st.1) (ac:=ar U (st.2+(s.n:Int))) wD _).mono ?_⟩⟩;rintro _ w2 ⟨rfl,cR,po⟩;have hU1:Up st true xs.length (st.1||!decide (ar U (st.2+(s.n:Int))<=400),ar U (st.2+(s.n:Int))):=by
  cases e:st.1
  ·have:=h.i e;have ew:ar U (st.2+(s.n:Int))=st.2+xs.length:=by rw[fi];exact fR (by omega) (by omega)
   rw[ew];refine⟨?_,fun _=>rfl⟩;rw[e];by_cases h4:st.2+(xs.length:Int)<=400
   ·rw[bL h4,bC (by omega)];rfl
   ·rw[bC h4,bL (by omega)];rfl
  ·exact⟨by rw[e];rfl,fun e2=>by cases e2⟩
 obtain⟨h2,Nj⟩:=HU w2 _ (cr.trans cR fun x hx=>.inl hx) po fun e=>hU1.le (fun e=>(h.i e).1) e;generalize (st.1||!decide (ar U (st.2+(s.n:Int))<=400),ar U (st.2+(s.n:Int)))=wN at*
 have b2:=h2.lb;have hu2:∀k,Bu w2 b k->k<w2.heap.size:=fun k hk=>(h2.bu hk).2;obtain⟨q3,w3,e3,de,aoC,_⟩:=CA w2 [[123]] (n:=1) (parts:=#[.mk 0 (ab (T [123]))]) rfl rfl (by decide) (by decide) (by decide);have t3:=(h2.z true).q de;refine⟨rfl,q3,w3,e3,fun l1 w'=>∃ws cE,Own ju 1 9 w2.heap.size w' (fun _=>True) l1 ws/\ws.length<=16777217/\(ws.map fun l=>l.length+1).sum<=2+16401*jw xs/\(cE.1=false->ws=[123]::xs.map Pc)/\Up wN (xs.all mS) 0 cE/\Zq true w0 w2 b w' l cE [],?_,?_⟩
 ·rintro l1 w4 ⟨ws,Ky,acs,hwl,hws,htx,hU4,t4⟩;have z4:=t4.m.o.size;obtain⟨y,w5,e5,eP,s6,w6,e6,aoD,gs,eB,uE⟩:=Yf acs [125] z4 (by omega);refine⟨y,w5,e5,s6,w6,e6,?_⟩;have t6:=(t4.q eP).row b2 hu2 (eB.p (F:=fun k=>w2.heap.size<=k) fun x hx=>.inl (uE x hx).2);have Kz:=G8 ws [125];have j8:=iJ (ws++[[125]]);have WO:([125]:aH).length=1:=rfl;refine(Az aoD (by omega) (by rw[aP,bG];omega)).mono ?_;rintro _ w7 ⟨rfl,Y2⟩;have t7:=t6.row b2 hu2 Y2;have hsz:1<=jw xs:=by
   have:1<=xs.length:=jH.2 ik;omega
  refine⟨_,rfl,fM (ws++[[125]]),Ky,rfl,by omega,fun e=>?_,(hU1.tr hU4).cg (by simp) (by simp),t7.toQz,Nj.trans t7.m⟩;rw[if_neg ik,htx e];exact agf xs
 refine⟨fun nv l1 i w'=>∃(j:Nat) (ws:List (aH)) (cE:St),i=j/\j<=xs.length/\nv=xs.length-j/\Own ju 1 9 w2.heap.size w' (fun _=>True) l1 ws/\ws.length<=j+1/\(ws.map fun l=>l.length+1).sum<=2+16401*jw (xs.take j)/\(cE.1=false->ws=[123]::(xs.take j).map Pc)/\Up wN ((xs.take j).all mS) 0 cE/\Zq true w0 w2 b w' l cE [],
  xs.length,⟨0,[[123]],wN,rfl,bh _,rfl,aoC,aX _,aX _,fun _=>rfl,h2.up0,t3⟩,?_⟩
 rintro nv l4 _ w7 ⟨j,ws,Y3,rfl,hj,rfl,Xa,hwl,hws,htx,Ns,t7⟩;have z7:=t7.m.o.size;have S9:jw xs=jw (xs.take j)+jw (xs.drop j):=by rw[<-wi,cZ]
 refine⟨fun hc=>?_,fun hc=>?_⟩
 ·have bS:(j:Int)<s.n:=aO hc;have hx7:aA (rA false) 9 w7 F s xs:=SliceF.keep (dq false) hx (by decide) fun k hk _=>h.arg t7.toQz (hF k hk);obtain⟨ad,a,cs,g1,g2,g3,g4,g5,g6⟩:=hx7.get (bA j) bS;rw[aY]at g2;have ha:=bF g2;have nt:xs.take (j+1)=xs.take j++[a]:=by
   rw[bJ,g2];rfl
  have UQ:jw (xs.take (j+1))=jw (xs.take j)+Oc a:=by
   rw[nt,wi];show _+(Oc a+0)=_;omega
  have arW:jw xs=jw (xs.take (j+1))+jw (xs.drop (j+1)):=by rw[<-wi,cZ]
  obtain⟨xc,rfl,hxc⟩:=g6;obtain⟨xl,rfl⟩:=jc hxc;refine⟨ad,g1,_,_,_,_,_,_,_,_,_,g5,fun k5 w8 C7 H2 fy=>?_⟩;have t8:=t7.al fy C7 H2;obtain⟨q8,sl8,vt,_⟩:=t8.toQz.set;refine⟨Y3.1,Blk.dQ vt 2 rfl,fun hw=>?_,fun hw=>?_⟩
  ·have t8':Zq true w0 w2 b w8 l Y3 []:=⟨t8.toQz,t8.m,fun k hk=>(by cases hk)⟩
   have Kx:=Xa.keep cP fun k hk bS=>fy.block k bS (by simp);exact⟨ws,Y3,Kx,by omega,by omega,fun e=>absurd (hw.symm.trans e) (by decide),Ns.bad hw RC (aX _),t8'⟩
  refine(age t8.toQz ((dq false).keep ⟨_,rfl,hxc⟩ fun k _ bS=>fy.block k bS (by simp)) hF (hn a ha) (by have:=AE ha;omega) hE hT).mono ?_;rintro _ w9 ⟨tx,st9,rfl,hl9,aoE,Y4,h9,hm9⟩;have t9:=t8.nx h9 hm9;have aoF:∀g,l4.a=some ⟨g,0,none⟩->w2.heap.size<=g/\g<w7.heap.size:=fun g hg=>by
   rcases Xa with⟨rfl,_⟩ | ⟨g',css,tl,a1,a2,a4,_⟩
   ·cases hg
   ·rw[a1]at hg;injection hg with hg;injection hg with hg;subst hg;exact⟨a2,a4.lt⟩
  have aoG:Own ju 1 9 w2.heap.size w9 (fun _=>True) l4 ws:=by
   have o1:=Xa.keep cP (w':=w8) fun k hk bS=>fy.block k bS (by simp);refine(o1.mono (G:=fun _=>True) cP fun _ _=>trivial).far hm9.agD b2
  obtain⟨y,du,e10,dM,HV,dC,e11,TR,gs,eu,uE⟩:=Yf aoG tx (bp z7 (bp fy.size hm9.o.size)) (by omega);have t10:=t9.q dM;have t11:=t10.row b2 hu2 (eu.p (F:=fun k=>w2.heap.size<=k) fun x hx=>.inl (uE x hx).2);have HV:bU [k5] du dC:=eu.same fun x hx=>by
   have:=(t10.k x (by simpa using hx)).1;refine⟨this,fun hm=>?_⟩;have:=(aoF x (uE x hm).1).2;simp only[aN]at hx;omega
  have Kz:=G8 ws tx;refine⟨_,rfl,t8.sm hm9 (by simp),y,du,e10,t9.sq dM (by simp),_,dC,e11,HV,xs.length-(j+1),by omega,j+1,ws++[tx],st9,by rw[fR (by omega) (by omega)];rfl,by omega,rfl,TR,by rw[aP,bG];omega,?_,fun e=>?_,(Ns.tr Y4).cg ?_ rfl,⟨t11.toQz,t11.m,fun k hk=>(by cases hk)⟩⟩
  ·rw[Kz,UQ];have:16400+a.n.length+1<=16401*Oc a:=by unfold Oc;omega
   omega
  ·obtain⟨e1,e2,_⟩:=Y4.ok e;rw[htx e1,aoE e2,nt,cJ];rfl
  ·rw[nt,zn];simp
 ·have rl:¬(j:Int)<s.n:=aR hc;have qt:j=xs.length:=by omega
  subst qt;rw[bq (aX _)]at hws htx Ns;exact⟨ws,Y3,Xa,by omega,hws,htx,Ns,t7⟩
end
theorem amy{w:av}{F:aJ}{s:Sl}{xs:List (aH)}(h:aA ju 1 w F s xs)(sep:aH)(hl:(Lib.join xs sep).length<=140737488355328)(hn:xs.length<=140737488355328):
  az aq 228 #[s.v,ab (T sep)] w fun e w'=>e=ak (ab (T (Lib.join xs sep)))/\ay [] w w':=by
 have fi:=h.len;have mU:=h.cap;obtain⟨sa,sn,sc⟩:=s;dsimp only at fi mU;subst fi;cases xs with
 | nil=>
  refine(Tryz.strings_Join_none sa sc (T sep) w).mono ?_;rintro _ w2 ⟨rfl,rfl⟩;exact⟨rfl,Only.refl _ _⟩
 | cons x xs=>
  obtain⟨base,cs,g1,g2,g3,g4,g5⟩:=h.at_ 0 x rfl;have g1:sa=some base:=g1;unfold ju at g5;subst g5 g1;have h0:=g4 0 _ rfl;have Fg:base.spot=none:=by
   unfold World.cell? at h0;split at h0
   ·split at h0
    ·cases h0
    ·rename_i hs;have e:((base.add (0*1)).add 0).spot=base.spot:=rfl;rw[e]at hs;cases hb:base.spot with
     | none=>rfl
     | some v=>rw[hb]at hs;simp at hs
   ·cases h0
  obtain⟨bk,o,sp⟩:=base;dsimp only at Fg;subst Fg;have bS:bk<w.heap.size:=by
   have e:((Addr.add ⟨bk,o,none⟩ (0*1)).add 0:Addr)=⟨bk,o,none⟩:=by simp[Addr.add]
   rw[e]at h0;refine cx fun hn=>?_;unfold World.cell? at h0;rw[eU (by dsimp only;omega)]at h0;cases h0
  have:=Tryz.strings_Join bk o sc ((x::xs).map T) (T sep) w (fun j y hj=>by
   rw[ch,fW]at hj;obtain⟨z,hz,rfl⟩:=hj;obtain⟨base,cs,g1,g2,g3,g4,g5⟩:=h.at_ j z hz;unfold ju at g5;subst g5;cases g1;have:=g4 0 _ rfl;have e:((Addr.add ⟨bk,o,none⟩ (j*1)).add 0:Addr)=⟨bk,o+j,none⟩:=by simp[Addr.add]
   rw[e]at this;exact this) bS (by rw[bm];omega) (by rw[bm];omega) (by
   rw[gD];have:((fun x:aK=>x.data.toList)∘T)=id:=rfl;rw[this,O9];exact hl)
  rw[bm]at this;refine this.mono ?_;rintro _ w2 ⟨rfl,hB⟩;refine⟨?_,Only.below hB⟩;rw[gD];have:((fun x:aK=>x.data.toList)∘T)=id:=rfl;rw[this,O9]
theorem Mi:∀l:List (aH),Lib.joinTail [44,32] l=tgT l
 | []=>rfl
 | s::l=>by
  unfold Lib.joinTail;rw[bD,di];show[44,32]++s++Lib.joinTail [44,32] l=_;rw[Mi l];rfl
theorem Mj(s:aH)(l:List (aH)):(Lib.join (s::l) [44,32]).length<=2*G7 (s::l):=by
 have h1:∀l:List (aH),(tgT l).length<=2*G7 l:=fun l=>by
  induction l with
  | nil=>exact bh _
  | cons s l ih=>
   unfold G7 at ih⊢;rw[bD,cp,tgT,bf,bf,aP];omega
 rw[Lib.join_cons,Mi,aP];have:=h1 l;have e:G7 (s::l)=(s.length+1)+G7 l:=by unfold G7;rw[bD,cp]
 omega
theorem yV(l:List (aH)):l.length<=G7 l:=by
 unfold G7
 induction l with
 | nil=>exact bh _
 | cons s l ih=>rw[bD,cp,bf];omega
theorem V2{s:aH}{l:List (aH)}(h:s∈l):s.length+1<=G7 l:=by
 unfold G7
 induction l with
 | nil=>simp at h
 | cons x l ih=>
  rw[bD,cp];rcases aU.1 h with rfl | h
  ·omega
  ·have:=ih h;omega
def Yg(m:Mv):aH:=if m.k=1 then fM [Jb,m.ev]else if m.k=3 then fM [kz,Lib.itoa m.wt]else ku
def gdM(m:Mv):aH:=if m.gd then 91::(Cv m.g++[93])else[]
def Pf(m:Mv):aH:=match m.tg with
 | []=>[]
 | s::l=>45::62::32::(s++tgT l)
theorem G9{n:Int}(h:rS n):(Lib.itoa n).length<=21:=Lib.itoa_length_le n h.1 h.2
theorem V3(n:Int):ne (Lib.itoa n)=true:=by
 have:Lib.itoa n≠[]:=by
  unfold Lib.itoa;split
  ·simp
  ·rw[Lib.decDigits];split<;>simp
 unfold ne;rw[bC this];rfl
theorem RD{m:Mv}(h:BM m=true):fM [Yg m,gdM m,(if m.acts=[]then[]else FZ m.acts),Pf m]++[59]=Ug m:=by
 unfold BM at h;simp only[aQ]at h;obtain⟨⟨⟨⟨⟨h1,h2⟩,h3⟩,h4⟩,h5⟩,h6⟩:=h;have hh:Yg m=hdT m/\ne (Yg m)=true:=by
  unfold Yg hdT;by_cases k1:m.k=1
  ·rw[if_pos k1]at h2;rw[if_pos k1,if_pos k1,oQ (by decide),fD (qW h2),eG,fC,lX,bQ];exact⟨rfl,rfl⟩
  ·rw[if_neg k1,if_neg k1];by_cases k3:m.k=3
   ·rw[if_pos k3,if_pos k3,oQ (by decide),fD (V3 _),eG,fC,lX,bQ];exact⟨rfl,rfl⟩
   ·rw[if_neg k3,if_neg k3];exact⟨rfl,by decide⟩
 rw[oQ hh.2,hh.1];unfold Ug;rw[bH];congr 1;have e1:Lib.joinTail [32] ([gdM m,(if m.acts=[]then[]else FZ m.acts),Pf m].filter ne)=gdT m++((if m.acts=[]then[]else 32::FZ m.acts)++(match m.tg with
  | []=>[]
  | s::l=>32::45::62::32::(s++tgT l))):=by
  have eg:∀ws:List (aH),Lib.joinTail [32] ((gdM m::ws).filter ne)=gdT m++Lib.joinTail [32] (ws.filter ne):=fun ws=>by
   unfold gdM gdT;cases m.gd
   ·simp only[kf,jQ];rw[RA];rfl
   ·simp only[if_true];rw[fD (by rfl),fC];rfl
  have ea:∀ws:List (aH),Lib.joinTail [32] (((if m.acts=[]then[]else FZ m.acts)::ws).filter ne)=(if m.acts=[]then[]else 32::FZ m.acts)++Lib.joinTail [32] (ws.filter ne):=fun ws=>by
   by_cases ha:m.acts=[]
   ·rw[if_pos ha,if_pos ha,RA];rfl
   ·rw[if_neg ha,if_neg ha,fD (by rfl),fC];rfl
  rw[eg,ea];congr 2;unfold Pf;cases m.tg with
  | nil=>rfl
  | cons s l=>
   rw[fD (by rfl),fC,eG,lX,bQ]
 rw[e1];simp only[bH]
 all_goals rfl
theorem mvB(m:Mv):((((if m.k=1 then eM m.ev else if m.k=3 then decide (0<=m.wt)else decide (m.k=2))&&((decide (m.ev=[])||(m.k==1))&&((m.wt==0)||(m.k==3))))&&(if m.gd then Ar m.g else xU m.g))&&(m.tg.all eM&&m.acts.all mS))=BM m:=by
 unfold BM;generalize (if m.gd then Ar m.g else xU m.g)=A;generalize m.tg.all eM=B;generalize m.acts.all mS=C;generalize eM m.ev=D;by_cases k1:m.k=1
 ·rw[if_pos k1,if_pos k1,k1];cases D<;>cases A<;>cases B<;>cases C<;>by_cases hw:m.wt=0<;>simp[hw]
 ·rw[if_neg k1,if_neg k1];by_cases k3:m.k=3
  ·rw[if_pos k3,k3];cases A<;>cases B<;>cases C<;>by_cases he:m.ev=[]<;>by_cases hw:m.wt=0<;>by_cases hp:0<m.wt<;>simp[hw,he,hp]<;>omega
  ·rw[if_neg k3];by_cases k2:m.k=2
   ·rw[k2];cases A<;>cases B<;>cases C<;>by_cases he:m.ev=[]<;>by_cases hw:m.wt=0<;>simp[hw,he]
   ·have:¬(1<=m.k/\m.k<=3):=by omega
    rw[bC this,bC k2];simp
section
variable {w0 w:av} {b:Nat} {l:aH} {st:St}
theorem aay(h:Qz w0 b w l st){F:aJ}{m:Mv}{cs:aI}(hx:Jd false w F m cs)(hF:∀k,F k->k<w0.heap.size)(hn:mvN m)(hs:Jo m<=16777216)(hE:Er w0)(hT:Tb w0):
  az aq 209 #[rp b,ah cs.toArray] w fun e w'=>∃t cE,e=ak (ab (T t))/\t.length<=16450*Jo m/\(cE.1=false->t=Ug m)/\Up st (BM m) m.acts.length cE/\Qz w0 b w' l cE/\Mw true b w w':=by
 obtain⟨gc,tv,tg,rfl,hg,yr,vd⟩:=hx;obtain⟨gl,rfl⟩:=jc hg;have yr:=yr.1;have vd:=vd.1;have hsz:=hs;unfold Jo at hsz;refine(afI ⟨b,0,none⟩ m.k (T m.ev) m.wt m.gd m.g.k m.g.n (T m.g.s) m.g.op gl m.g.a tv tg m.a (fun v w'=>∃t cE,v=ab (T t)/\t.length<=16450*Jo m/\(cE.1=false->t=Ug m)/\Up st (BM m) m.acts.length cE/\Qz w0 b w' l cE/\Mw true b w w') w ?_).mono (by
  rintro e w' ⟨v,rfl,s,cE,rfl,h⟩;exact⟨s,cE,rfl,h⟩)
 intro k0 w1 gu fe cr;have t1:=(h.z true).al cr gu fe;have BR:=vd.len;have Xb:=yV m.tg;refine⟨fun s0 w'=>∃hd cE,s0=T hd/\hd.length<=30+m.ev.length/\(cE.1=false->hd=Yg m)/\Up st (if m.k=1 then eM m.ev else if m.k=3 then decide (0<=m.wt)else decide (m.k=2)) 0 cE/\Zq true w0 w b w' l cE [k0],?_,fun hc=>?_,fun hc=>⟨fun Bz=>?_,fun Bz=>?_⟩⟩
 ·rintro _ w2 ⟨hd,rJ,rfl,zf,hdt,hU2,t2⟩;refine(jO t2.toQz _).mono ?_;rintro _ w3 ⟨rfl,M2,u1,u2,u3⟩;have t3:=t2.nx u2 u3;have hU3:=hU2.tr u1;rw[show ao #[]=T []from rfl,mA]at hU3;refine⟨rfl,t2.sm u3 (by simp),fun s1 w'=>∃gt cE,s1=T gt/\gt.length<=16386/\(cE.1=false->gt=gdM m)/\Up M2 (if m.gd then Ar m.g else xU m.g) 0 cE/\Zq true w0 w b w' l cE [k0],?_,fun UM=>?_,fun UM=>?_⟩
  ·rintro _ w4 ⟨gt,Ky,rfl,gtl,gtt,hU4,t4⟩;refine⟨fun nv i w'=>∃(j:Nat) (cE:St),i=j/\j<=m.tg.length/\nv=m.tg.length-j/\Up Ky ((m.tg.take j).all eM) 0 cE/\Zq true w0 w b w' l cE [k0],m.tg.length,⟨0,Ky,rfl,bh _,rfl,t4.toQz.up0,t4⟩,?_⟩;rintro nv _ w5 ⟨j,W9,rfl,hj,rfl,hU5,t5⟩;have ahZ:aA ju 1 w5 F tg m.tg:=SliceF.keep cP vd (by decide) fun k hk _=>h.arg t5.toQz (hF k hk);refine⟨fun hc=>?_,fun hc=>?_⟩
   ·have bS:(j:Int)<tg.n:=aO hc;obtain⟨ad,x,cs,g1,g2,g3,g4,g5,g6⟩:=ahZ.get (bA j) bS;rw[aY]at g2;unfold ju at g6;subst g6;have hxm:=V2 (bF g2);refine⟨ad,g1,_,g5,(mo t5.toQz x (by omega)).mono ?_⟩;rintro _ w6 ⟨rfl,st6,v1,v2,v3⟩;refine⟨_,rfl,t5.sm v3 (by simp),m.tg.length-(j+1),by omega,j+1,st6,by rw[fR (by omega) (by omega)];rfl,by omega,rfl,(hU5.tr v1).cg ?_ rfl,t5.nx v2 v3⟩;rw[bJ,g2,zn];simp
   ·have rl:¬(j:Int)<tg.n:=aR hc;have qt:j=m.tg.length:=by omega
    subst qt;rw[bq (aX _)]at hU5;refine⟨fun s4 w'=>s4=T (Pf m)/\Zq true w0 w b w' l W9 [k0],?_,fun hc=>?_,fun hc=>?_⟩
    ·rintro _ w7 ⟨rfl,t7⟩;refine(Ed t7.toQz (SliceF.keep (dq false) yr (by decide) fun k hk _=>h.arg t7.toQz (hF k hk)) hF hn.a (by omega) hE hT).mono ?_;rintro _ w8 ⟨bt,st8,rfl,btl,btt,hU8,v2,v3⟩;have t8:=t7.nx v2 v3;have avP:(Pf m).length<=3+2*G7 m.tg:=by
      unfold Pf;cases hm:m.tg with
      | nil=>exact bh _
      | cons s l=>
       have:=Mj s l;rw[Lib.join_cons,Mi]at this;rw[bf,bf,bf];omega
     have j8:=iJ [hd,gt,bt,Pf m];simp only[bD,eV,cp,gF]at j8;have Ng:Jo m=(jw m.acts+Cu m.g)+(G7 m.tg+(m.ev.length+1)):=rfl;obtain⟨q9,w9,e9,fQ,_,hj9⟩:=CA w8 [hd,gt,bt,Pf m] (n:=4) (parts:=#[.mk 0 (ab (T hd)),.mk 1 (ab (T gt)),.mk 2 (ab (T bt)),.mk 3 (ab (T (Pf m)))]) rfl rfl (by decide) (by decide) (by omega);have z9:=fQ.size;refine⟨_,rfl,t7.sm v3 (by simp),q9,w9,e9,t8.sq fQ (by simp),hj9.mono ?_⟩;rintro _ du ⟨rfl,ah2⟩;have t10:=t8.q (sP fQ ah2);have hU:=(hU3.tr hU4).tr (hU5.tr hU8);refine⟨_,rfl,t8.sj z9 ah2 (by simp),by rw[dI];omega,fM [hd,gt,bt,Pf m]++[59],st8,by rw[show ao #[59]=T [59]from rfl,lD],by rw[aP,bG];omega,fun e=>?_,hU.cg ?_ (by omega),t10.toQz,t10.m⟩
     ·obtain⟨x5,x8,_⟩:=hU8.ok e;obtain⟨x4,x5',_⟩:=hU5.ok x5;obtain⟨x3,x4',_⟩:=hU4.ok x4;obtain⟨x2,x3',_⟩:=u1.ok x3;obtain⟨x1,x2',_⟩:=hU2.ok x2;rw[hdt x2,gtt x4,btt e];refine RD ?_;obtain⟨_,y,_⟩:=hU.ok e;exact(mvB m).symm.trans y
     ·exact mvB m
    ·have ug:m.tg≠[]:=fun e=>by
      rw[e]at BR;have:tg.n=0:=BR;rw[this]at hc;exact absurd hc (by decide)
     have j8:(Lib.join m.tg [44,32]).length<=2*G7 m.tg:=by
      cases hm:m.tg with
      | nil=>exact absurd hm ug
      | cons s l=>exact Mj s l
     refine(amy ahZ [44,32] (by omega) (by omega)).mono ?_;rintro _ w7 ⟨rfl,fE⟩;refine⟨_,rfl,t5.sq fE (by simp),by rw[dI];omega,?_,t5.q fE⟩;rw[show ao #[45,62,32]=T [45,62,32]from rfl,lD];congr 1;unfold Pf;cases hm:m.tg with
     | nil=>exact absurd hm ug
     | cons s l=>
      rw[Lib.join_cons,Mi];rfl
    ·have hz:m.tg=[]:=cb (by have:=aR hc;omega);refine⟨?_,t5⟩;unfold Pf;rw[hz]
  ·refine(Me t3.toQz ((ja false).keep hg fun k hk _=>h.arg t3.toQz (hF k hk)) hn.g (by omega) hE hT).mono ?_;rintro _ w4 ⟨rfl,Ky,v1,v2,v3⟩;have t4:=t3.nx v2 v3;have:=Mh m.g;refine⟨_,rfl,t3.sm v3 (by simp),by rw[dI];omega,?_,91::(Cv m.g++[93]),Ky,?_,by simp;omega,fun _=>by unfold gdM;rw[if_pos UM],by rw[if_pos UM];exact v1,t4⟩
   ·rw[show ao #[91]=T [91]from rfl,lD,dI,aP,bG];omega
   ·rw[show ao #[91]=T [91]from rfl,show ao #[93]=T [93]from rfl,lD,lD];rfl
  ·refine(Mf t3.toQz ((ja false).keep hg fun k hk _=>h.arg t3.toQz (hF k hk))).mono ?_;rintro _ w4 ⟨rfl,Ky,v1,v2,v3⟩;exact⟨rfl,t3.sm v3 (by simp),[],Ky,rfl,bh _,fun _=>by unfold gdM;rw[if_neg (by rw[UM];decide)],by rw[if_neg (by rw[UM];decide)];exact v1,t3.nx v2 v3⟩
 ·have hk:m.k=1:=by simpa using hc
  refine(mo t1.toQz m.ev (by omega)).mono ?_;rintro _ w2 ⟨rfl,rJ,v1,v2,v3⟩;have t2:=t1.nx v2 v3;have j8:=iJ [Jb,m.ev];simp only[bD,eV,cp,gF]at j8;have hw:Jb.length=2:=rfl;obtain⟨q3,w3,e3,de,_,Uq⟩:=CA w2 [Jb,m.ev] (n:=2) (parts:=#[.mk 0 (ab (T Jb)),.mk 1 (ab (T m.ev))]) rfl rfl (by decide) (by decide) (by omega);have z3:=de.size;refine⟨_,rfl,t1.sm v3 (by simp),q3,w3,e3,t2.sq de (by simp),Uq.mono ?_⟩;rintro _ w4 ⟨rfl,hP4⟩;exact⟨_,rfl,t2.sj z3 hP4 (by simp),_,rJ,rfl,by omega,fun _=>by unfold Yg;rw[if_pos hk],by rw[if_pos hk];exact v1,t2.q (sP de hP4)⟩
 ·have j5:m.k≠1:=by simpa using hc
  have hk:m.k=3:=by simpa using Bz
  refine(jO t1.toQz _).mono ?_;rintro _ w2 ⟨rfl,rJ,v1,v2,v3⟩;have t2:=t1.nx v2 v3;refine⟨rfl,t1.sm v3 (by simp),(yR m.wt hn.w (hT.only t2.o)).mono ?_⟩;rintro _ w3 ⟨rfl,de⟩;have t3:=t2.q de;have j8:=iJ [kz,Lib.itoa m.wt];simp only[bD,eV,cp,gF]at j8;have hw:kz.length=5:=rfl;have Bg:=G9 hn.w;obtain⟨q4,w4,e4,dL,_,hj4⟩:=CA w3 [kz,Lib.itoa m.wt] (n:=2) (parts:=#[.mk 0 (ab (T kz)),.mk 1 (ab (T (Lib.itoa m.wt)))]) rfl rfl (by decide) (by decide) (by omega);have z4:=dL.size;refine⟨_,rfl,t2.sq de (by simp),q4,w4,e4,t3.sq dL (by simp),hj4.mono ?_⟩;rintro _ w5 ⟨rfl,Iu⟩;exact⟨_,rfl,t3.sj z4 Iu (by simp),_,rJ,rfl,by omega,fun _=>by unfold Yg;rw[if_neg j5,if_pos hk],by rw[if_neg j5,if_pos hk];exact v1,t3.q (sP dL Iu)⟩
 ·have j5:m.k≠1:=by simpa using hc
  have wG:m.k≠3:=by simpa using Bz
  refine(jO t1.toQz _).mono ?_;rintro _ w2 ⟨rfl,rJ,v1,v2,v3⟩;have t2:=t1.nx v2 v3;refine⟨rfl,t1.sm v3 (by simp),ku,rJ,rfl,by show 6<=_;omega,fun _=>by unfold Yg;rw[if_neg j5,if_neg wG],by rw[if_neg j5,if_neg wG];exact v1,t2⟩
end
theorem RE{w:av}{b:Nat}{q:Option Addr}{v1 v2 v3:aw}(hq:q=none∨q=some ⟨b,0,none⟩)(h:aF w b 245 [ae q,v1,v2,v3]):
  az aq 225 #[ae (some ⟨b,0,none⟩)] w fun e w'=>e=ak (ai #[])/\ay [b] w w'/\aF w' b 245 [ae (some ⟨b,0,none⟩),v1,v2,v3]:=by
 refine ret (XQ _ _ _ ?_);have FB:w.shape? b=some (245,4):=by
  unfold World.shape?;unfold aF at h;rw[h];rfl
 refine⟨q,Blk.dQ h 0 rfl,fun hn=>?_,fun hn=>⟨q,Blk.dQ h 0 rfl,?_⟩⟩
 ·have hr1:=Lib.run_to_unsafe (P:=aq) (src:=240) (dst:=308) w ⟨b,0,none⟩ (t:=243) (j:=Tryz.t243) (by kernel_rfl) (by kernel_rfl) (by kernel_rfl) (by decide) FB (by decide:(0:Nat)<4);have hr2:=Lib.run_from_unsafe (P:=aq) (src:=308) (dst:=240) w ⟨b,0,none⟩ (u:=243) (j:=Tryz.t243) (by kernel_rfl) (by kernel_rfl) (by kernel_rfl) FB (by kernel_rfl);exact⟨⟨ae (some ⟨b,0,none⟩),rfl⟩,w,hr1,⟨ae (some ⟨b,0,none⟩),rfl⟩,w,XX _ w,some ⟨b,0,none⟩,w,hr2,b,0,_,_,rfl,h,by simp,fun w3 hO hB=>⟨rfl,hO,hB⟩⟩
 ·rcases hq with rfl | rfl
  ·cases hn
  ·exact⟨false,w,Lib.run_neq_ptr_same w _ (te:=243) (j:=Tryz.t243) (by kernel_rfl) (by kernel_rfl),fun e=>(by cases e),fun _=>⟨rfl,Only.refl _ _,h⟩⟩
section
variable {w0 w:av} {b:Nat} {l:aH} {st:St}
theorem V4(h:Qz w0 b w l st)(m:aH)(hm:l.length+m.length<=274877906944):az aq 202 #[ae (some ⟨b,0,none⟩),ab (T m)] w fun e w'=>
  e=ak (ai #[O U (m.length:Int),.nilIface])/\Qz w0 b w' (l++m) st/\Mw false b w w':=by
 refine ret (XP _ _ _ _ ?_);obtain⟨q,sl,hq,hB,Y5⟩:=h.ex;refine(RE hq hB).mono ?_;rintro _ w1 ⟨rfl,cD,uD⟩;have z0:=cD.size;have hb:=hB.lt;have wJ:Bf w1 (b+1) sl l:=Y5.keep fun g hg hl=>cD.block g hl (by have:=(Y5.lt hg).1;simp;omega);obtain⟨s',w2,k1,k2,k3,k4⟩:=LB wJ m (by omega) (by omega);have z1:=k3.size;have wD:aF w2 b 245 [ae (some ⟨b,0,none⟩),sl.v,aj st.1,O U st.2]:=k3.blk uD fun e=>by have:=(wJ.lt e).1;omega
 have E7:∀g,s'.a=some ⟨g,0,none⟩->b<g:=fun g hg=>by
  rcases k4 with e | e
  ·rw[e]at hg;exact(wJ.lt hg).1
  ·rw[e]at hg;injection hg with hg;injection hg with hg;omega
 refine⟨rfl,sl,Blk.dQ uD 1 rfl,s',w2,k1,b,1,_,_,rfl,wD,by simp,fun w3 cR po=>?_⟩;have po:aF w3 b 245 [ae (some ⟨b,0,none⟩),s'.v,aj st.1,O U st.2]:=po;have mc:aD (fun k=>k=b∨(false=false/\Bu w b k)) w w3:=((cD.p (F:=fun k=>k=b∨(false=false/\Bu w b k)) fun x hx=>.inl (.inl (by simpa using hx))).trans k3 fun k hk=>.inl (.inr ⟨rfl,G6 hB hk⟩)).trans (cR.p (F:=fun k=>k=b) fun x hx=>.inl (by simpa using hx)) fun k hk=>.inl (.inl hk);refine⟨by rw[dI],⟨?_,h.lo,⟨_,_,.inr rfl,po,k2.keep fun g hg hl=>cR.block g hl (by have:=E7 g hg;simp;omega)⟩,h.i,by rw[aP];exact hm⟩,mc,fun k hk=>?_⟩
 ·refine⟨mc.os.trans h.o.os,mc.tape.trans h.o.tape,mc.output.trans h.o.output,bp h.o.size mc.size,fun k hk _=>(mc.block k (cm hk h.o.size) ?_).trans (h.o.block k hk (by simp))⟩;rintro(e | ⟨_,e⟩)
  ·have:=h.lo;omega
  ·have:=(h.bu e).1;have:=h.lo;omega
 ·have e:=Mc po hk;rcases k4 with e2 | e2
  ·exact .inl (G6 hB (e2▸e))
  ·rw[e2]at e;injection e with e;injection e with e;exact .inr ⟨rfl,by omega⟩
theorem Zq.sl{f g:Bool}{ws w1 w':av}{ks ks':List Nat}(t:Zq f w0 ws b w l st ks)(hO:ay [] w w1)(m:Mw g b w w')(hk:∀k,k∈ks'->k∈ks):bU ks' w1 w':=fun x hx=>
 (t.sm m hk x hx).trans (t.sq hO hk x hx).symm
theorem Ml:∀d,Lib.repeatL [32,32] d=N4 d
 | 0=>rfl
 | d+1=>by rw[Lib.repeatL,Ml d];rfl
theorem Mm:∀d,(N4 d).length=2*d
 | 0=>rfl
 | d+1=>by rw[N4,bf,bf,Mm d];omega
theorem xX(h:Qz w0 b w l st)(ws:List (aH)){n:Nat}{parts:Array (Nat×aw)}(hp:parts=(((ws.map fun x=>Value.string (T x)).zipIdx 0).map fun x=>(x.2,x.1)).toArray)(hn:ws.length=n)(h0:0<n)(zg:n*1<=16777216)(d:Nat)(hd:d<=12)(hl:(fM ws).length<=274877889536):
  ∃(q:Sl) (w1:av),(au 31 n parts).run aq w=.ok q.v w1/\ay [] w w1/\az aq 170 #[rp b,O U (d:Int),q.v] w1 fun e w'=>e=ak (ai #[])/\Qz w0 b w' (if st.1 then l else pU l (d,fM ws)) st/\Mw false b w w':=by
 obtain⟨q,w1,e1,aoI,cr⟩:=nU w ws hp hn h0 zg;refine⟨q,w1,e1,cr,?_⟩;have t1:=(h.z true).q cr;have hb:=h.lb;have hbu:∀k,Bu w b k->k<w.heap.size:=fun k hk=>(h.bu hk).2;refine ret (alf _ _ _ _ _ ?_);refine(Mg t1.toQz).mono ?_;rintro _ w2 ⟨rfl,rfl⟩;obtain⟨qq,sl,hB,_⟩:=t1.toQz.set;refine⟨_,rfl,st.1,fun _=>Blk.dQ hB 2 rfl,fun hc w3 de=>?_,fun hc=>?_⟩
 ·simp only[aQ,dS,cY]at hc;obtain⟨uj,lw⟩:=hc;have t3:=t1.q de;refine(Tryz.strings_Repeat (T [32,32]) d w3 (by omega) (by show 2*d<=_;omega)).mono ?_;rintro _ w4 ⟨rfl,uh⟩;have dL:=Only.below uh;have t4:=t3.q dL;have acs:=aoI.keep cP (w':=w4) fun k hk bS=>(de.cf dL).block k bS (by simp);have zf:=Mm d;refine⟨T (N4 d),by rw[show(T [32,32]).data.toList=[32,32]from rfl,Ml],(Az acs (by omega) (by omega)).mono ?_⟩;rintro _ w5 ⟨rfl,Iu⟩;have t5:=t4.row hb hbu Iu;refine⟨_,rfl,by rw[dI,dI];omega,by rw[lD,dI,aP];omega,?_⟩;rw[show ao #[10]=T [10]from rfl,lD,lD,show(Addr.add ⟨b,0,none⟩ 0:Addr)=⟨b,0,none⟩from rfl];refine(V4 t5.toQz _ ?_).mono ?_
  ·simp only[aP,bf,cz];omega
  rintro _ w6 ⟨rfl,h6,m6⟩;refine⟨_,⟨.nilIface,rfl⟩,rfl,rfl,?_,t5.m.up.trans m6⟩;rw[lw,if_neg (by decide)];unfold pU lnT;rw[if_neg uj];dsimp only;rw[bH]at h6;exact h6
 ·refine⟨rfl,?_,t1.m.up⟩;have:(if st.1 then l else pU l (d,fM ws))=l:=by
   cases e:st.1
   ·rw[e]at hc;have hc:16384<l.length:=by simpa using hc
    rw[if_neg (by decide)];unfold pU;rw[if_pos hc]
   ·rfl
  rw[this];exact t1.toQz
theorem AF(h:Qz w0 b w l st)(d:Nat)(hd:d<=12)(word text:aH)(hw:word.length<=100)(hl:text.length<=274877880000):
  az aq 207 #[rp b,O U (d:Int),ab (T word),ab (T text)] w fun e w'=>e=ak (ai #[])/\Qz w0 b w' (if st.1||decide (text=[])then l else pU l (d,fM [word,text])) st/\Mw false b w w':=by
 refine ret (alj _ _ _ _ _ _ ?_);rw[show ao #[]=T []from rfl,mA];refine⟨fun hc=>?_,fun hc=>?_⟩
 ·have hc:text≠[]:=by simpa using hc
  have j8:=iJ [word,text];simp only[bD,eV,cp,gF]at j8;obtain⟨q,w1,e1,cr,hj⟩:=xX h [word,text] (n:=2) (parts:=#[.mk 0 (ab (T word)),.mk 1 (ab (T text))]) rfl rfl (by decide) (by decide) d hd (by omega);refine⟨q,w1,e1,hj.mono ?_⟩;rintro _ w2 ⟨rfl,h2,m2⟩;refine⟨rfl,rfl,?_,m2⟩;rw[bC hc,Bool.or_false];exact h2
 ·have hc:text=[]:=by simpa using hc
  refine⟨rfl,?_,Mw.refl _ _ _⟩;rw[bL hc,KE,if_pos rfl];exact h
end
def xj:List Mv->Nat
 | []=>0
 | m::l=>Jo m+xj l
def CE(b:Nb):Nat:=((b.nm.length+b.ini.length)+(b.dft.length+1))+((jw b.en+jw b.lv)+xj b.mv)
mutual
def mO:Nd->Nat
 | .mk b l=>CE b+iw l
def iw:List Nd->Nat
 | []=>0
 | x::l=>mO x+iw l
end
theorem sQ{m:Mv}:∀{l:List Mv},m∈l->Jo m<=xj l
 | [],h=>by simp at h
 | x::l,h=>by
  rw[xj];rcases aU.1 h with rfl | h
  ·omega
  ·have:=sQ h;omega
theorem lj:∀(l:List Mv),l.length<=xj l
 | []=>bh _
 | m::l=>by
  have:=lj l;rw[xj,bf];unfold Jo;omega
theorem nX{x:Nd}:∀{l:List Nd},x∈l->mO x<=iw l
 | [],h=>by simp at h
 | y::l,h=>by
  rw[iw];rcases aU.1 h with rfl | h
  ·omega
  ·have:=nX h;omega
theorem V5(x:Nd):1<=mO x:=by
 obtain⟨b,l⟩:=x;rw[mO];unfold CE;omega
theorem wj:∀(l:List Nd),l.length<=iw l
 | []=>bh _
 | x::l=>by
  have:=wj l;have:=V5 x;rw[iw,bf];omega
theorem Ha{x:Nd}:∀{l:List Nd},Au l->x∈l->LS x
 | [],_,h=>by simp at h
 | y::l,hn,h=>by
  rw[Au]at hn;rcases aU.1 h with rfl | h
  ·exact hn.1
  ·exact Ha hn.2 h
theorem AG(d:Nat)(x:Nd):∀l:List Nd,nq d (l++[x])=(nq d l&&qT d x)
 | []=>by simp[nq]
 | y::l=>by rw[bZ,nq,nq,AG d x l,BW]
theorem CF(x:Nd):∀l:List Nd,uT (l++[x])=uT l+Cw x
 | []=>by simp[uT]
 | y::l=>by rw[bZ,uT,uT,CF x l];omega
theorem CG(d:Nat)(x:Nd):∀l:List Nd,yB d (l++[x])=yB d l++ndL d x
 | []=>by simp[yB]
 | y::l=>by rw[bZ,yB,yB,CG d x l,bH]
def yE(x:Nb)(ks:List Nd)(d:Nat):Bool:=(decide (x.ini=[])||eM x.ini)&&(x.en.all mS&&(x.lv.all mS&&(x.mv.all BM&&nq d ks)))
theorem lY(l:aH)(p:Ln):iI l [p]=pU l p:=rfl
theorem RF(l:List Ac):FZ l≠[]:=by unfold FZ;simp
theorem wk{cE:St}{l l1 l2:aH}{L M:List Ln}{wN:St}{c:Bool}{n:Nat}(hU:Up wN c n cE)(h1:wN.1=false->l1=iI l L)(h2:cE.1=false->l2=iI l1 M):cE.1=false->l2=iI l (L++M):=fun e=>by
 rw[h2 e,h1 (hU.ok e).1,jN]
def RG(D:Nat):Prop:=∀(w0 w:av) (b:Nat) (l:aH) (st:St) (F:aJ) (x:Nd) (cs:aI) (d:Nat),Qz w0 b w l st->ol false D w F x cs->(∀k,F k->k<w0.heap.size)->LS x->mO x<=8388608->d<=12->Er w0->Tb w0->
 az aq 210 #[rp b,ah cs.toArray,O U (d:Int)] w fun e w'=>e=ak (ai #[])/\∃cE l',Up st (qT d x) (Cw x) cE/\(cE.1=false->l'=iI l (ndL d x))/\Qz w0 b w' l' cE/\Mw false b w w'
section
variable {w0 w:av} {b:Nat} {l:aH} {st:St}
theorem RH{D:Nat}(hN:RG D)(h:Qz w0 b w l st){F:aJ}{x:Nb}{en lv mv kids:Sl}{ks:List Nd}(hb:D5 false w F x en lv mv)(hk:jM false (ol false D) 9 27 w F kids ks)(hF:∀k,F k->k<w0.heap.size)(hn:nbN x)(PJ:Au ks)(hs:CE x+iw ks<=8388608)(d:Nat)(hd:d<=12)(hE:Er w0)(hT:Tb w0):
  az aq 173 #[rp b,ah (nE x.k x.nm x.ini x.dft en lv mv kids x.a).toArray,O U (d:Int)] w fun e w'=>e=ak (ai #[])/\∃cE l',Up st (yE x ks d) (X6 x+uT ks) cE/\(cE.1=false->l'=iI l (nbL d x++yB d ks))/\Qz w0 b w' l' cE/\Mw false b w w':=by
 have yh:=hs;unfold CE at yh;have Bx:=lj x.mv;have Tu:=wj ks;obtain⟨BU,FC,qy⟩:=hb;have BU:=BU.1;have FC:=FC.1;have qy:=qy.1;have hk:=hk.1;refine ret (ali _ _ _ _ _ _ _ _ _ _ _ _ _ ?_);intro k0 w1 gu fe cr;have t1:=(h.z false).al cr gu fe;rw[show ao #[]=T []from rfl,mA];refine⟨fun w'=>∃wN l1,Up st (decide (x.ini=[])||eM x.ini) 0 wN/\(wN.1=false->l1=iI l (VU d x))/\Zq false w0 w b w' l1 wN [k0],?_,fun hc=>?_,fun hc=>?_⟩
 ·rintro w2 ⟨rJ,l2,hU2,Ka,t2⟩;refine(Ed t2.toQz (SliceF.keep (dq false) BU (by decide) fun k hk _=>h.arg t2.toQz (hF k hk)) hF hn.en (by omega) hE hT).mono ?_;rintro _ w3 ⟨tx3,M2,rfl,tl3,tt3,hU3,q3,m3⟩;have t3:=t2.nx q3 m3.up;refine⟨_,rfl,t2.sm m3 (by simp),(AF t3.toQz d hd jh tx3 (by decide) (by omega)).mono ?_⟩;rintro _ w4 ⟨rfl,q4,m4⟩;have t4:=t3.nx q4 m4;have hl4:M2.1=false->(if M2.1||decide (tx3=[])then l2 else pU l2 (d,fM [jh,tx3]))=iI l2 (enL d x):=fun e=>by
   rw[e,tt3 e];unfold enL;by_cases he:x.en=[]
   ·rw[if_pos he,if_pos he];rfl
   ·rw[if_neg he,if_neg he,bC (RF _),if_neg (by decide),lY,oQ (by decide),fD (by rfl),eG,fC,lX,bQ]
  generalize (if M2.1||decide (tx3=[])then l2 else pU l2 (d,fM [jh,tx3]))=l4 at*
  refine⟨rfl,t3.sm m4 (by simp),(Ed t4.toQz (SliceF.keep (dq false) FC (by decide) fun k hk _=>h.arg t4.toQz (hF k hk)) hF hn.lv (by omega) hE hT).mono ?_⟩;rintro _ w5 ⟨tx5,W9,rfl,tl5,tt5,hU5,q5,m5⟩;have t5:=t4.nx q5 m5.up;refine⟨_,rfl,t4.sm m5 (by simp),(AF t5.toQz d hd ji tx5 (by decide) (by omega)).mono ?_⟩;rintro _ w6 ⟨rfl,q6,m6⟩;have t6:=t5.nx q6 m6;have hl6:W9.1=false->(if W9.1||decide (tx5=[])then l4 else pU l4 (d,fM [ji,tx5]))=iI l4 (lvL d x):=fun e=>by
   rw[e,tt5 e];unfold lvL;by_cases he:x.lv=[]
   ·rw[if_pos he,if_pos he];rfl
   ·rw[if_neg he,if_neg he,bC (RF _),if_neg (by decide),lY,oQ (by decide),fD (by rfl),eG,fC,lX,bQ]
  generalize (if W9.1||decide (tx5=[])then l4 else pU l4 (d,fM [ji,tx5]))=l6 at*
  have hL4:=wk hU3 Ka hl4;have OW:=wk hU5 hL4 hl6;refine⟨rfl,t5.sm m6 (by simp),fun nv i w'=>∃(j:Nat) (cE:St) (l':aH),i=j/\j<=x.mv.length/\nv=x.mv.length-j/\Up W9 ((x.mv.take j).all BM) ((x.mv.take j).map fun m=>m.acts.length).sum cE/\(cE.1=false->l'=iI l6 ((x.mv.take j).map fun m=>(d,Ug m)))/\Zq false w0 w b w' l' cE [k0],
   x.mv.length,⟨0,W9,l6,rfl,bh _,rfl,t6.toQz.up0,fun _=>rfl,t6⟩,?_⟩
  rintro nv _ w7 ⟨j,Y3,l7,rfl,hj,rfl,Ns,hl7,t7⟩;have ar0:=qy.len;have aoK:aA (Jd false) 13 w7 F mv x.mv:=SliceF.keep (lV false) qy (by decide) fun k hk _=>h.arg t7.toQz (hF k hk);refine⟨fun hc=>?_,fun hc=>?_⟩
  ·have bS:(j:Int)<mv.n:=aO hc;obtain⟨ad,m,cs,g1,g2,g3,g4,g5,g6⟩:=aoK.get (bA j) bS;rw[aY]at g2;have hmm:=bF g2;have hms:=sQ hmm;have nt:x.mv.take (j+1)=x.mv.take j++[m]:=by
    rw[bJ,g2];rfl
   have g6':=g6;obtain⟨gc,tv,tg,rfl,r1,r2,r3⟩:=g6';obtain⟨gl,rfl⟩:=jc r1;refine⟨ad,g1,_,_,_,_,_,_,_,_,_,_,_,_,_,g5,fun k3 w8 wG rL fy=>?_⟩;have t8:=t7.al fy wG rL;refine(aay t8.toQz ((lV false).keep g6 fun k _ bS=>fy.block k bS (by simp)) hF (hn.mv m hmm) (by omega) hE hT).mono ?_;rintro _ w9 ⟨tx9,st9,rfl,tl9,tt9,Y4,q9,m9⟩;have t9:=t8.nx q9 m9.up;have j8:=iJ [tx9];simp only[bD,eV,cp,gF]at j8;obtain⟨q10,du,e10,dM,acA⟩:=xX t9.toQz [tx9] (n:=1) (parts:=#[.mk 0 (ab (T tx9))]) rfl rfl (by decide) (by decide) d hd (by omega);refine⟨_,rfl,t8.sm m9 (by simp),q10,du,e10,t9.sq dM (by simp),acA.mono ?_⟩;rintro _ dC ⟨rfl,q11,m11⟩;have t11:=t9.nx q11 m11;refine⟨rfl,t9.sl dM m11 (by simp),x.mv.length-(j+1),by omega,j+1,st9,_,by rw[fR (by omega) (by omega)];rfl,by omega,rfl,(Ns.tr Y4).cg ?_ ?_,fun e=>?_,⟨t11.toQz,t11.m,fun k hk=>t11.k k (by simp at hk;simp[hk])⟩⟩
   ·rw[nt,zn];simp
   ·rw[nt,cJ,List.sum_append];simp
   ·rw[e,if_neg (by decide),hl7 (Y4.ok e).1,nt,cJ,jN,tt9 e];show _=pU _ (d,Ug m);have:ne (Ug m)=true:=by
     have:Ug m≠[]:=by unfold Ug;simp
     unfold ne;rw[bC this];rfl
    rw[oQ this,eG,lX,bQ]
  ·have rl:¬(j:Int)<mv.n:=aR hc;have qt:j=x.mv.length:=by omega
   subst qt;rw[bq (aX _)]at Ns hl7;have Fh:=wk Ns OW hl7;refine⟨fun nv i w'=>∃(j:Nat) (cE:St) (l':aH),i=j/\j<=ks.length/\nv=ks.length-j/\Up Y3 (nq d (ks.take j)) (uT (ks.take j)) cE/\(cE.1=false->l'=iI l7 (yB d (ks.take j)))/\Zq false w0 w b w' l' cE [k0],
    ks.length,⟨0,Y3,l7,rfl,bh _,rfl,by rw[cM,nq,uT];exact t7.toQz.up0,fun _=>by rw[cM,yB];rfl,t7⟩,?_⟩
   rintro nv _ dC ⟨j,acB,mP,rfl,hj,rfl,Xc,acC,t11⟩;have ar1:=hk.len;have aoM:aA (ol false D) 9 dC F kids ks:=SliceF.keep (cG false D) hk (by decide) fun k hk _=>h.arg t11.toQz (hF k hk);refine⟨fun hc=>?_,fun hc=>?_⟩
   ·have bS:(j:Int)<kids.n:=aO hc;obtain⟨ad,y,cs,g1,g2,g3,g4,g5,g6⟩:=aoM.get (bA j) bS;rw[aY]at g2;have hym:=bF g2;have hys:=nX hym;have nt:ks.take (j+1)=ks.take j++[y]:=by
     rw[bJ,g2];rfl
    have g6':=g6;cases D with
    | zero=>exact g6'.elim
    | succ D=>
    obtain⟨vu,xH,rQ,kK,rfl,_⟩:=g6';refine⟨ad,g1,_,_,_,_,vu,xH,rQ,kK,_,g5,fun k7 dN hk7 Xd eS=>?_⟩;have t12:=t11.al eS hk7 Xd;refine(hN _ _ _ _ _ _ _ _ d t12.toQz ((cG false _).keep g6 fun k _ bS=>eS.block k bS (by simp)) hF (Ha PJ hym) (by omega) hd hE hT).mono ?_;rintro _ fb ⟨rfl,acD,xD,ah7,aoN,q13,m13⟩;have t13:=t12.nx q13 m13;refine⟨rfl,t12.sm m13 (by simp),ks.length-(j+1),by omega,j+1,acD,xD,by rw[fR (by omega) (by omega)];rfl,by omega,rfl,(Xc.tr ah7).cg ?_ ?_,fun e=>?_,⟨t13.toQz,t13.m,fun k hk=>t13.k k (by simp at hk;simp[hk])⟩⟩
    ·rw[nt,AG]
    ·rw[nt,CF]
    ·rw[aoN e,acC (ah7.ok e).1,nt,CG,jN]
   ·have rl:¬(j:Int)<kids.n:=aR hc;have qt:j=ks.length:=by omega
    subst qt;rw[bq (aX _)]at Xc acC;have yK:=wk Xc Fh acC;refine⟨rfl,acB,mP,(hU2.tr (hU3.tr (hU5.tr (Ns.tr Xc)))).cg rfl ?_,fun e=>?_,t11.toQz,t11.m⟩
    ·unfold X6;omega
    ·rw[yK e];unfold nbL mvL;simp only[bH]
 ·have hc:x.ini≠[]:=by simpa using hc
  refine(mo t1.toQz x.ini (by omega)).mono ?_;rintro _ w2 ⟨rfl,rJ,hU2,q2,m2⟩;have t2:=t1.nx q2 m2.up;refine⟨_,rfl,t1.sm m2 (by simp),by rw[dI];omega,?_⟩;rw[show ao #[59]=T [59]from rfl,lD];refine(AF t2.toQz d hd gn (x.ini++[59]) (by decide) (by rw[aP,bG];omega)).mono ?_;rintro _ w3 ⟨rfl,q3,m3⟩;refine⟨rfl,t2.sm m3 (by simp),rJ,_,hU2.cg (by rw[bC hc,mX]) rfl,fun e=>?_,t2.nx q3 m3⟩;have ik:x.ini++[59]≠[]:=by simp
  have TT:ne (x.ini++[59])=true:=by unfold ne;rw[bC ik];rfl
  rw[e,bC ik,if_neg (by decide),oQ (by decide),fD TT,eG,fC,lX,bQ];unfold VU;rw[if_neg hc];rfl
 ·have hc:x.ini=[]:=by simpa using hc
  refine⟨st,l,h.up0.cg (by rw[bL hc];rfl) rfl,fun _=>by unfold VU;rw[if_pos hc];rfl,t1⟩
end
theorem Up.more{st cE:St}{c:Bool}{n:Nat}(h:Up st c 0 cE)(hn:c=true->n=0):Up st c n cE:=by
 cases c with
 | true=>rw[hn rfl];exact h
 | false=>
  refine⟨?_,fun e=>?_⟩
  ·rw[h.w];simp
  ·have:=h.w;rw[e]at this;simp at this
def Yh:List (aH):=[[],DX,tK,vZ,LF]
theorem agh{k:Int}(h1:1<=k)(h2:k<=4):Yh[k.toNat]? =some (kW k):=by
 have:k=1∨k=2∨k=3∨k=4:=by omega
 rcases this with rfl | rfl | rfl | rfl<;>rfl
theorem Yi(k:Int):ne (kW k)=true:=by
 unfold kW;split
 ·rfl
 split
 ·rfl
 split
 ·rfl
 ·rfl
theorem aaz(k:Int):(kW k).length<=8:=by
 unfold kW;split
 ·decide
 split
 ·decide
 split
 ·decide
 ·decide
theorem Mn{d:Nat}{b:Nb}{l:List Nd}(hk:b.k=1∨b.k=2)(hd:d<12):((decide (b.dft=[])&&eM b.nm)&&yE b l (d+1))=qT d (.mk b l):=by
 have hh:lg b.k=false:=by unfold lg;exact bC (by omega)
 rw[qT,bL hd,cO];unfold GU yE;rw[hh,if_neg (by decide)];have:decide ((b.k=1∨b.k=2)/\b.dft=[])=decide (b.dft=[]):=by simp[hk]
 rw[this];generalize decide (b.dft=[])=A;generalize eM b.nm=B;generalize (decide (b.ini=[])||eM b.ini)=C;generalize b.en.all mS=D;generalize b.lv.all mS=E;generalize b.mv.all BM=G;generalize nq (d+1) l=H;cases A<;>cases B<;>cases C<;>cases D<;>cases E<;>cases G<;>cases H<;>rfl
theorem Mo{d:Nat}{b:Nb}{l:List Nd}(hk:b.k=3∨b.k=4)(hd:d<12):(((decide (b.ini=[])&&decide (b.en=[]/\b.lv=[]/\b.mv=[]/\l=[]))&&eM b.nm)&&eM b.dft)=qT d (.mk b l):=by
 have hh:lg b.k=true:=by unfold lg;exact bL hk
 rw[qT,bL hd,cO];unfold GU;rw[hh,if_pos rfl];by_cases hl:l=[]
 ·subst hl;have:decide (b.ini=[]/\b.en=[]/\b.lv=[]/\b.mv.length=0/\([]:List Nd).length=0)=(decide (b.ini=[])&&decide (b.en=[]/\b.lv=[]/\b.mv=[]/\([]:List Nd)=[])):=by
   rw[bX];simp
  rw[this,nq];generalize decide (b.ini=[])=A;generalize decide (b.en=[]/\b.lv=[]/\b.mv=[]/\([]:List Nd)=[])=B;cases A<;>cases B<;>cases eM b.nm<;>cases eM b.dft<;>rfl
 ·have h1:decide (b.en=[]/\b.lv=[]/\b.mv=[]/\l=[])=false:=bC fun h=>hl h.2.2.2;have h2:decide (b.ini=[]/\b.en=[]/\b.lv=[]/\b.mv.length=0/\l.length=0)=false:=bC fun h=>hl (cb h.2.2.2.2);rw[h1,h2];simp
theorem Mp{d:Nat}{b:Nb}{l:List Nd}(h:¬(1<=b.k/\b.k<=4)∨12<=d):qT d (.mk b l)=false:=by
 rw[qT];rcases h with h | h
 ·have hh:lg b.k=false:=by unfold lg;exact bC (by omega)
  have:decide ((b.k=1∨b.k=2)/\b.dft=[])=false:=bC (by omega);unfold GU;rw[hh,if_neg (by decide),this];simp
 ·rw[bC (by omega)];rfl
theorem Mq:∀D,RG D
 | 0=>by
  intro w0 w b l st F x cs d h hx;exact hx.elim
 | D+1=>by
  intro w0 w b l st F x cs d h hx hF hn hs hd hE hT;obtain⟨bb,ks⟩:=x;have hx0:=hx;obtain⟨en,lv,mv,kids,rfl,yI,uF⟩:=hx;have yI:D5 false w F bb en lv mv:=yI;have uF:jM false (ol false D) 9 27 w F kids ks:=uF;show az aq 210 #[rp b,ah (nE bb.k bb.nm bb.ini bb.dft en lv mv kids bb.a).toArray,O U (d:Int)] w _;rw[LS]at hn;rw[mO]at hs;have yh:=hs;unfold CE at yh;refine ret (afJ _ _ _ _ _ _ _ _ _ _ _ _ _ ?_);intro k0 w1 gu fe cr;have t1:=(h.z false).al cr gu fe;obtain⟨q,sl,hB,_⟩:=t1.toQz.set;have bad:∀{w':av} {cE:St} {lx:aH},cE.1=true->Zq false w0 w b w' lx cE [k0]->(st.1=true∨qT d (.mk bb ks)=false)->∃cE l',Up st (qT d (.mk bb ks)) (Cw (.mk bb ks)) cE/\(cE.1=false->l'=iI l (ndL d (.mk bb ks)))/\Qz w0 b w' l' cE/\Mw false b w w':=by
   intro w' cE lx e t hc;refine⟨cE,lx,⟨?_,fun e2=>absurd (e.symm.trans e2) (by decide)⟩,fun e2=>absurd (e.symm.trans e2) (by decide),t.toQz,t.m⟩;rw[e];rcases hc with hc | hc
   ·rw[hc];rfl
   ·rw[hc];simp
  refine⟨st.1,Blk.dQ hB 2 rfl,fun hc=>?_,fun hc=>?_⟩
  ·refine(jO t1.toQz false).mono ?_;rintro _ w2 ⟨rfl,rJ,u1,u2,u3⟩;refine⟨rfl,t1.sm u3 (by simp),rfl,bad (by rw[u1.w];simp) (t1.nx u2 u3.up) ?_⟩;rw[cn]at hc;rcases hc with hc | hc
   ·exact .inl hc
   ·exact .inr (Mp (.inr (by have:=aO hc;omega)))
  rw[eb]at hc;have acE:d<12:=by have:=aR hc.2;omega
  obtain⟨q2,w2,g,cs,e2,cR,hg1,hg2,po,hat⟩:=Rz w1 Yh (n:=5) (parts:=#[.mk 0 (ab (ao #[])),.mk 1 (ab (ao #[115,116,97,116,101])),.mk 2 (ab (ao #[112,97,114,97,108,108,101,108])),.mk 3 (ab (ao #[104,105,115,116,111,114,121])),.mk 4 (ab (ao #[100,101,101,112]))]) rfl rfl (by decide) (by decide);have t2:=t1.al cR hg1 hg2;have hwd:1<=bb.k/\bb.k<=4->cW q2 bb.k 1 ⟨g,bb.k.toNat,none⟩/\∀w',aF w' g 9 cs->aB w' ⟨g,bb.k.toNat,none⟩ [ab (T (kW bb.k))]:=fun hk=>by
   have:=hat _ _ (agh hk.1 hk.2);rwa[mz (by omega)]at this
  have Tu:=aaz bb.k;have z2:∀{w3:av},ay [] w2 w3->aF w3 g 9 cs:=fun hO=>hO.blk po (by simp);have z2m:∀{w3 w4:av} {lx:aH} {sx:St} {f:Bool},Zq false w0 w b w3 lx sx [g,k0]->Mw f b w3 w4->aF w3 g 9 cs->aF w4 g 9 cs:=fun t m hB=>(t.sm (ks':=[g]) m (by simp) g (by simp)).trans hB;refine⟨q2,w2,e2,t1.sq cR (by simp),fun b1 w3=>w2=w3/\b1=decide (bb.k=1∨bb.k=2),?_,fun uj=>⟨rfl,?_⟩,fun uj=>⟨rfl,?_⟩⟩
  ·rintro b1 _ ⟨rfl,rfl⟩;refine⟨fun Bz=>?_,fun Bz=>?_⟩
   ·have hk:=aO Bz;have hkr:1<=bb.k/\bb.k<=4:=by omega
    obtain⟨y1,y2⟩:=hwd hkr;rw[show ao #[]=T []from rfl,mA];refine(jO t2.toQz _).mono ?_;rintro _ w4 ⟨rfl,Ky,u1,u2,u3⟩;have t4:=t2.nx u2 u3.up;refine⟨rfl,t2.sm u3 (by simp),fun w5 eP=>⟨fun k=>k∈[k0,g],by simp,_,y1,by simp,_,y2 w5 (eP.blk (z2m t2 u3 po) (by simp)),?_⟩⟩;have t5:=t4.q eP;refine(mo t5.toQz bb.nm (by omega)).mono ?_;rintro _ w6 ⟨rfl,st6,v1,v2,v3⟩;have t6:=t5.nx v2 v3.up;have j8:=iJ [kW bb.k,bb.nm,[123]];simp only[bD,eV,cp,gF,bf,cz]at j8;obtain⟨q7,w7,e7,fE,hj7⟩:=xX t6.toQz [kW bb.k,bb.nm,[123]] (n:=3) (parts:=#[.mk 0 (ab (T (kW bb.k))),.mk 1 (ab (T bb.nm)),.mk 2 (ab (T [123]))]) rfl rfl (by decide) (by decide) d hd (by omega);refine⟨_,rfl,t5.sm v3 (by simp),bP.of (t5.sm v3 (by simp)),q7,w7,e7,t6.sq fE (by simp),bP.of (t6.sq fE (by simp)),hj7.mono ?_⟩;rintro _ w8 ⟨rfl,x1,x2⟩;have t8:=t6.nx x1 x2;have hl8:st6.1=false->(if st6.1 then l else pU l (d,fM [kW bb.k,bb.nm,[123]]))=iI l [(d,kW bb.k++32::(bb.nm++[32,123]))]:=fun e=>by
     rw[e,if_neg (by decide),lY,oQ (Yi _),fD (qW (v1.ok e).2.1),fD (by rfl),eG,fC,fC,lX];rfl
    generalize (if st6.1 then l else pU l (d,fM [kW bb.k,bb.nm,[123]]))=l8 at*
    have ed:ar U ((d:Int)+1)=((d+1:Nat):Int):=by rw[fR (by omega) (by omega)];rfl
    rw[ed];refine⟨rfl,t6.sl fE x2 (by simp),bP.of (t6.sl fE x2 (by simp)),(RH (Mq D) t8.toQz (yI.keep fun k hk _=>h.arg t8.toQz (hF k hk)) (uF.keep (cG false D) (by decide) fun k hk _=>h.arg t8.toQz (hF k hk)) hF hn.1 hn.2 hs (d+1) (by omega) hE hT).mono ?_⟩;rintro _ w9 ⟨rfl,st9,l9,Y4,hl9,y3,y4⟩;have t9:=t8.nx y3 y4;obtain⟨q10,du,e10,dM,acA⟩:=xX t9.toQz [[125]] (n:=1) (parts:=#[.mk 0 (ab (T [125]))]) rfl rfl (by decide) (by decide) d hd (by decide);refine⟨rfl,t8.sm y4 (by simp),q10,du,e10,t9.sq dM (by simp),acA.mono ?_⟩;rintro _ dC ⟨rfl,x3,x4⟩;have t11:=t9.nx x3 x4;refine⟨rfl,t9.sl dM x4 (by simp),rfl,st9,_,((u1.tr v1).tr Y4).cg (Mn hk acE) (by rw[Cw];omega),fun e=>?_,t11.toQz,t11.m⟩;have hh:lg bb.k=false:=by unfold lg;exact bC (by omega)
    rw[ndL,hh,e];simp only[kf,jQ];rw[hl9 e,hl8 (Y4.ok e).1,<-jN];have e1:fM [[125]]=[125]:=by decide
    rw[e1,<-lY,<-jN];simp only[bH,bZ,ck]
   ·have PJ:=aR Bz;refine⟨fun b2 dN=>w2=dN/\b2=decide (bb.k=3∨bb.k=4),?_,fun Y6=>⟨rfl,?_⟩,fun Y6=>⟨rfl,?_⟩⟩
    ·rintro b2 _ ⟨rfl,rfl⟩;refine⟨fun hc5=>?_,fun hc5=>?_⟩
     ·have hk:=aO hc5;have hkr:1<=bb.k/\bb.k<=4:=by omega
      obtain⟨y1,y2⟩:=hwd hkr;have n4:=yI.1.1.len;have n5:=yI.2.1.1.len;have n6:=yI.2.2.1.len;have n7:=uF.1.len;have a4:=mH bb.en;have a5:=mH bb.lv;have a6:=lj bb.mv;have a7:=wj ks;have aoR:(ar U ((ar U ((ar U ((en.n:Int)+(lv.n:Int)))+(mv.n:Int)))+(kids.n:Int))==0)=decide (bb.en=[]/\bb.lv=[]/\bb.mv=[]/\ks=[]):=by
       rw[fR (x:=(en.n:Int)+(lv.n:Int)) (by omega) (by omega),fR (x:=(en.n:Int)+(lv.n:Int)+(mv.n:Int)) (by omega) (by omega),fR (by omega) (by omega),bX];simp only[ey,bM];refine⟨fun e=>?_,fun⟨e1,e2,e3,e4⟩=>?_⟩
       ·exact⟨cb (by omega),cb (by omega),cb (by omega),cb (by omega)⟩
       ·rw[n4,n5,n6,n7,e1,e2,e3,e4];rfl
      rw[show ao #[]=T []from rfl,mA,aoR];refine(jO t2.toQz _).mono ?_;rintro _ fb ⟨rfl,acD,u1,u2,u3⟩;have t13:=t2.nx u2 u3.up;refine⟨rfl,t2.sm u3 (by simp),fun fk ep=>⟨fun k=>k∈[k0,g],by simp,_,y1,by simp,_,y2 fk (ep.blk (z2m t2 u3 po) (by simp)),by simp,?_⟩⟩;have t14:=t13.q ep;refine(mo t14.toQz bb.nm (by omega)).mono ?_;rintro _ fZ ⟨rfl,avW,v1,v2,v3⟩;have t15:=t14.nx v2 v3.up;refine⟨_,rfl,t14.sm v3 (by simp),bP.of (t14.sm v3 (by simp)),(mo t15.toQz bb.dft (by omega)).mono ?_⟩;rintro _ gI ⟨rfl,aoS,x1,x2,x3⟩;have t16:=t15.nx x2 x3.up;have j8:=iJ [kW bb.k,bb.nm,[45,62],bb.dft++[59]];simp only[bD,eV,cp,gF,bf,cz,aP]at j8;obtain⟨q17,gf,e17,io,aoT⟩:=xX t16.toQz [kW bb.k,bb.nm,[45,62],bb.dft++[59]] (n:=4) (parts:=#[.mk 0 (ab (T (kW bb.k))),.mk 1 (ab (T bb.nm)),.mk 2 (ab (T [45,62])),.mk 3 (ab (T (bb.dft++[59])))]) rfl rfl (by decide) (by decide) d hd (by omega);refine⟨T bb.dft,rfl,t15.sm x3 (by simp),bP.of (t15.sm x3 (by simp)),by rw[dI];omega,q17,gf,by rw[show ao #[59]=T [59]from rfl,lD];exact e17,t16.sq io (by simp),bP.of (t16.sq io (by simp)),aoT.mono ?_⟩;rintro _ iy ⟨rfl,y3,y4⟩;have t18:=t16.nx y3 y4;have hU:=((u1.tr v1).tr x1).cg (Mo hk acE) rfl;refine⟨rfl,t16.sl io y4 (by simp),bP.of (t16.sl io y4 (by simp)),rfl,aoS,_,hU.more fun oe=>?_,fun e=>?_,t18.toQz,t18.m⟩
      ·rw[<-Mo hk acE]at oe;simp only[aQ,bM]at oe;obtain⟨⟨⟨_,e1,e2,e3,e4⟩,_⟩,_⟩:=oe;rw[Cw,e4,uT];unfold X6;rw[e1,e2,e3];rfl
      ·have hh:lg bb.k=true:=by unfold lg;exact bL hk
       have TT:ne (bb.dft++[59])=true:=by
        have:bb.dft++[59]≠[]:=by simp
        unfold ne;rw[bC this];rfl
       rw[ndL,hh,if_pos rfl,e,if_neg (by decide),lY,oQ (Yi _),fD (qW (v1.ok (x1.ok e).1).2.1),fD (by rfl),fD TT,eG,fC,fC,fC,lX,bQ];rfl
     ·have avY:=aR hc5;refine(jO t2.toQz false).mono ?_;rintro _ fb ⟨rfl,acD,u1,u2,u3⟩;have t13:=t2.nx u2 u3.up;exact⟨rfl,t2.sm u3 (by simp),rfl,bad (by rw[u1.w];simp) ⟨t13.toQz,t13.m,fun k hk=>t13.k k (by simp at hk;simp[hk])⟩ (.inr (Mp (.inl (by omega))))⟩
    ·have:bb.k=3:=by simpa using Y6
     rw[Y6,bL (.inl this)]
    ·have:bb.k≠3:=by simpa using Y6
     rw[bX];simp[this]
  ·have:bb.k=1:=by simpa using uj
   rw[uj,bL (.inl this)]
  ·have:bb.k≠1:=by simpa using uj
   rw[bX];simp[this]
mutual
theorem aaA:∀x:Nd,iQ x<=mO x
 | .mk b l=>by
  rw[iQ,mO];have:=wl l;unfold CE;omega
theorem wl:∀l:List Nd,dJ l<=iw l
 | []=>by rw[dJ];exact bh _
 | x::l=>by
  rw[dJ,iw];exact jR (aaA x) (wl l)
end
mutual
theorem aaB:∀x:Nd,Bp x<=mO x
 | .mk b l=>by
  rw[Bp,mO];have:=wm l;have:=lj b.mv;unfold CE;omega
theorem wm:∀l:List Nd,xi l<=iw l
 | []=>by rw[xi];exact bh _
 | x::l=>by
  rw[xi,iw];exact jR (aaB x) (wm l)
end
theorem xn(x:Nd):∀l:List Nd,dJ (l++[x])=dJ l+iQ x
 | []=>by simp[dJ]
 | y::l=>by rw[bZ,dJ,dJ,xn x l];omega
theorem xo(x:Nd):∀l:List Nd,xi (l++[x])=xi l+Bp x
 | []=>by simp[xi]
 | y::l=>by rw[bZ,xi,xi,xo x l];omega
theorem AH:∀l m:List Nd,iw (l++m)=iw l+iw m
 | [],m=>by rw[ck,iw];omega
 | y::l,m=>by rw[bZ,iw,iw,AH l m];omega
theorem Mr:∀(D:Nat) (w:av) (F:aJ) (x:Nd) (cs:aI),ol false D w F x cs->mO x<=8388608->az aq 168 #[ah cs.toArray] w fun e w'=>e=ak (ai #[O U (iQ x:Int),O U (Bp x:Int)])/\ay [] w w'
 | 0,w,F,x,cs,hx,_=>hx.elim
 | D+1,w,F,x,cs,hx,hs=>by
  obtain⟨bb,ks⟩:=x;obtain⟨en,lv,mv,kids,rfl,yI,uF⟩:=hx;have qy:=yI.2.2.1;have qy:aA (Jd false) 13 w F mv bb.mv:=qy;have hk:aA (ol false D) 9 w F kids ks:=uF.1;show az aq 168 #[ah (nE bb.k bb.nm bb.ini bb.dft en lv mv kids bb.a).toArray] w _;refine ret (afy _ _ _ _ _ _ _ _ _ _ _ ?_);have z1:=wl ks;have z2:=wm ks;have z3:=lj bb.mv;rw[mO]at hs;have yh:=hs;unfold CE at yh;have n6:=qy.len;have n7:=hk.len;have z4:=wj ks;intro k0 w1 gu fe cr w2 cR;refine⟨fun nv a m i w'=>∃j:Nat,i=j/\j<=ks.length/\nv=ks.length-j/\a=(1+dJ (ks.take j):Nat)/\m=(bb.mv.length+xi (ks.take j):Nat)/\k0<w'.heap.size/\ay [] w w',ks.length,⟨0,rfl,bh _,rfl,by rw[cM,dJ];rfl,by rw[cM,xi,n6];rfl,cm fe cR.size,cr.cf cR⟩,?_⟩;rintro nv _ _ _ w3 ⟨j,rfl,hj,rfl,rfl,rfl,wG,de⟩;have avZ:iw ks=iw (ks.take j)+iw (ks.drop j):=by rw[<-AH,cZ]
  have y1:=wl (ks.take j);have y2:=wm (ks.take j);refine⟨fun hc=>?_,fun hc=>?_⟩
  ·have bS:(j:Int)<kids.n:=aO hc;obtain⟨ad,y,cs,g1,g2,g3,g4,g5,g6⟩:=(SliceF.only (cG false D) (by decide) hk de (by simp)).get (bA j) bS;rw[aY]at g2;have hys:=nX (bF g2);have nt:ks.take (j+1)=ks.take j++[y]:=by
    rw[bJ,g2];rfl
   have ar3:iw ks=iw (ks.take (j+1))+iw (ks.drop (j+1)):=by rw[<-AH,cZ]
   have y3:dJ (ks.take j)+iQ y<=iw (ks.take (j+1)):=by rw[<-xn,<-nt];exact wl _
   have y4:xi (ks.take j)+Bp y<=iw (ks.take (j+1)):=by rw[<-xo,<-nt];exact wm _
   have g6':=g6;cases D with
   | zero=>exact g6'.elim
   | succ D=>
   obtain⟨vu,xH,rQ,kK,rfl,_⟩:=g6';refine⟨ad,g1,_,_,_,_,vu,xH,rQ,kK,_,g5,fun k3 w4 rL ar4 dL=>?_⟩;refine(Mr (D+1) w4 F y _ ((cG false _).keep g6 fun k _ bS=>dL.block k bS (by simp)) (by omega)).mono ?_;rintro _ w5 ⟨rfl,eP⟩;refine⟨_,_,rfl,eP.same (by have:=dL.size;simp;omega),ks.length-(j+1),by omega,j+1,by rw[fR (by omega) (by omega)];rfl,by omega,rfl,?_,?_,?_,(de.cf dL).cf eP⟩
   ·rw[nt,xn,fR (by omega) (by omega)];omega
   ·rw[nt,xo,fR (by omega) (by omega)];omega
   ·have:=dL.size;have:=eP.size;omega
  ·have rl:¬(j:Int)<kids.n:=aR hc;have qt:j=ks.length:=by omega
   subst qt;rw[bq (aX _)];refine⟨?_,de⟩;rw[iQ,Bp,fK]
structure Pt4 (w:av) (b:Nat) (sl:Sl) (l:aH) (v2 v3:aw):Prop where
 blk:∃q:Option Addr,aF w b 245 [ae q,sl.v,v2,v3]
 len:sl.n=l.length
 some:l≠[]->∃g,sl.a=.some ⟨g,0,none⟩/\b<g/\sl.c≠0/\(∃n,w.shape? g=.some (5,n)/\l.length<=n)/\aB w ⟨g,0,none⟩ (l.map fY)
 cap:sl.a=none∨sl.c≠0
 big:l.length<=9223372036854775807
section
variable {w:av} {b:Nat} {sl:Sl} {l:aH} {v2 v3:aw}
theorem Pt4.only{w':av}(h:Pt4 w b sl l v2 v3)(hO:ay [] w w'):Pt4 w' b sl l v2 v3:=by
 obtain⟨⟨q,h1⟩,h2,h3,h4,h5⟩:=h;refine⟨⟨q,hO.blk h1 (by simp)⟩,h2,fun hl=>?_,h4,h5⟩;obtain⟨g,a1,a2,a3,⟨n,a4,a5⟩,a6⟩:=h3 hl;have hg:g<w.heap.size:=by
  refine cx fun hn=>?_;unfold World.shape? at a4;rw[eU (by omega)]at a4;cases a4
 have hk:=hO.block g hg (by simp);exact⟨g,a1,a2,a3,⟨n,(Am hk).trans a4,a5⟩,a6.keep hk⟩
theorem Qz.pt{w0:av}{st:St}(h:Qz w0 b w l st):∃sl,Pt4 w b sl l (aj st.1) (O U st.2)/\∀k,sl.a=some ⟨k,0,none⟩->Bu w b k:=by
 obtain⟨q,sl,hq,hB,hb⟩:=h.ex;refine⟨sl,⟨⟨_,hB⟩,hb.len,fun hl=>?_,?_,?_⟩,fun k hk=>G6 hB hk⟩
 ·rcases hb with⟨_,e⟩ | ⟨g,tail,h1,h2,h3,h4,h5,h6,h7,h8⟩
  ·exact absurd e hl
  ·have h0:l.length≠0:=fun e=>hl (cb e);refine⟨g,h1,h2,by omega,⟨_,by unfold World.shape?;unfold aF at h3;rw[h3],by simp⟩,h3.cells 0 (l.map fY) fun j v hj=>by rw[bO,bK (aV.1 hj).1];exact hj⟩
 ·rcases hb with⟨e,_⟩ | ⟨g,tail,h1,h2,h3,h4,h5,h6,h7,h8⟩
  ·exact .inl (by rw[e])
  ·exact .inr (by omega)
 ·rcases hb with⟨_,e⟩ | ⟨g,tail,h1,h2,h3,h4,h5,h6,h7⟩
  ·subst e;simp
  ·omega
theorem Ms(h:Pt4 w b sl l v2 v3):az aq 175 #[ae (some ⟨b,0,none⟩)] w fun e w'=>e=ak (ab (T l))/\Pt4 w' b sl l v2 v3/\aD (fun k=>b<k/\sl.a=some ⟨k,0,none⟩) w w':=by
 refine ret (XR _ _ _ ?_);intro w0 cD;have h0:=h.only cD;obtain⟨⟨q,hB⟩,fi,Bm,mU,rK⟩:=h0;refine⟨fun k=>k=b,sl,Blk.dQ hB 1 rfl,rfl,sl,Blk.dQ hB 1 rfl,sl.a,w0,?_,fun k _ _=>rfl,?_⟩
 ·obtain⟨sa,Bn,sc⟩:=sl;cases sa with
  | none=>exact Lib.run_unsafeSliceData_nil _ _ _ _ _
  | some a=>
   rcases mU with e | e
   ·cases e
   ·exact Lib.run_unsafeSliceData_row _ _ _ _ _ _ e
 ·by_cases hl:l=[]
  ·subst hl;have hn:sl.n=0:=fi;refine⟨T [],w0,?_,fun k _ _=>rfl,rfl,⟨⟨q,hB⟩,fi,Bm,mU,rK⟩,cD.p0⟩;rw[hn];exact Lib.run_unsafeString_none _ _ _ _ _
  ·obtain⟨g,ha,Ts,hc,⟨m,FB,hm⟩,uZ⟩:=Bm hl;have hF:=sE w0 ⟨g,0,none⟩ l.length;have C4:b<w0.heap.size:=hB.lt;refine⟨T l,w0.freeze ⟨g,0,none⟩ l.length,?_,fun k hk bS=>hF.block k bS (by dsimp only;omega),rfl,⟨⟨q,hF.blk hB (by dsimp only;omega)⟩,fi,fun _=>⟨g,ha,Ts,hc,⟨m,(vY _ _ _ _).trans FB,hm⟩,fun j v hj=>by rw[sD];exact uZ j v hj⟩,mU,rK⟩,cD.mL (hF.mono fun k _ hk=>by dsimp only at hk;exact⟨by omega,by rw[hk];exact ha⟩)⟩;rw[ha,fi];exact Lib.run_unsafeString_row _ _ _ _ 5 (by kernel_rfl) (by kernel_rfl) g m FB l hl hm rK fun j x hj=>uZ j (fY x) (by rw[ch,hj];rfl)
end
def gr(c:Ch):aH×Int:=
 if GV c=true then(if 16384<(iI [] (X7 c)).length then([],2)else if(dE (iI [] (X7 c))).2.1≠0 then([],22)else(iI [] (X7 c),0))else([],22)
def qX:List Vr->Nat
 | []=>0
 | v::l=>(v.n.length+1)+qX l
theorem AI{v:Vr}:∀{l:List Vr},v∈l->v.n.length+1<=qX l
 | [],h=>by simp at h
 | x::l,h=>by
  rw[qX];rcases aU.1 h with rfl | h
  ·omega
  ·have:=AI h;omega
theorem wo:∀l:List Vr,l.length<=qX l
 | []=>bh _
 | v::l=>by
  have:=wo l;rw[qX,bf];omega
def BN(v:Vr):Bool:=eM v.n&&decide (v.v≠ -9223372036854775808)
theorem V6(c:Ch):((((((decide (c.root.b.k=1)&&decide (c.root.b.dft=[]))&&decide (c.vars.length<=16))&&decide (iQ c.root<=64))&&decide (Bp c.root<=200))&&eM c.root.b.nm)&&(c.vars.all BN&&yE c.root.b c.root.kids 1)&&decide (Cw c.root<=400))=GV c:=by
 obtain⟨vars,⟨b,l⟩⟩:=c;unfold GV;show((((((decide (b.k=1)&&decide (b.dft=[]))&&decide (vars.length<=16))&&decide (iQ (.mk b l)<=64))&&decide (Bp (.mk b l)<=200))&&eM b.nm)&&(vars.all BN&&yE b l 1)&&decide (Cw (.mk b l)<=400))=(vars.all BN&&qT 0 (.mk b l)&&decide (b.k=1/\vars.length<=16/\iQ (.mk b l)<=64/\Bp (.mk b l)<=200/\Cw (.mk b l)<=400))
 by_cases hk:b.k=1
 ·rw[<-Mn (d:=0) (.inl hk) (by decide)];have:decide (b.k=1/\vars.length<=16/\iQ (.mk b l)<=64/\Bp (.mk b l)<=200/\Cw (.mk b l)<=400)=(decide (vars.length<=16)&&decide (iQ (.mk b l)<=64)&&decide (Bp (.mk b l)<=200)&&decide (Cw (.mk b l)<=400)):=by
   rw[bX];simp[hk,and_assoc]
  rw[this,bL hk];generalize decide (b.dft=[])=A;generalize decide (vars.length<=16)=B;generalize decide (iQ (.mk b l)<=64)=C;generalize decide (Bp (.mk b l)<=200)=D;generalize decide (Cw (.mk b l)<=400)=E;generalize eM b.nm=G;generalize vars.all BN=H;show _=(H&&((A&&G)&&yE b l (0+1))&&(B&&C&&D&&E))
  generalize yE b l (0+1)=I;cases A<;>cases B<;>cases C<;>cases D<;>cases E<;>cases G<;>cases H<;>cases I<;>rfl
 ·have:decide (b.k=1/\vars.length<=16/\iQ (.mk b l)<=64/\Bp (.mk b l)<=200/\Cw (.mk b l)<=400)=false:=bC fun h=>hk h.1;rw[this,bC hk];simp
theorem V7{w:av}{F:aJ}{D:Nat}{c:Ch}{vs:Sl}{cs:aI}(hx:ChR false D w F c vs cs)(hn:UL c)(hs:qX c.vars+mO c.root<=8388608)(hE:Er w)(hT:Tb w):
  az aq 128 #[ah (vs.v::cs).toArray] w fun e w'=>e=ak (ai #[ab (T (gr c).1),O U (gr c).2])/\ay [] w w':=by
 obtain⟨vars,⟨bb,ks⟩⟩:=c;cases D with
 | zero=>exact hx.root.elim
 | succ D=>
 have Y7:ol false (D+1) w F (.mk bb ks) cs:=hx.root;have acG:=(cG false _).inHeap Y7;have yj:aA Uf 3 w F vs vars:=hx.vars.1;obtain⟨en,lv,mv,kids,rfl,yI,uF⟩:=acG;have yI:D5 false w (fun k=>F k/\k<w.heap.size) bb en lv mv:=yI;have uF:jM false (ol false D) 9 27 w (fun k=>F k/\k<w.heap.size) kids ks:=uF;have hr:=hn.r;have hr:LS (.mk bb ks):=hr;have hvn:∀v,v∈vars->rS v.v:=hn.v;rw[LS]at hr;have hs:qX vars+mO (.mk bb ks)<=8388608:=hs;have hsN:mO (.mk bb ks)=CE bb+iw ks:=by rw[mO]
 have yh:=hs;rw[hsN]at yh;unfold CE at yh;have ah8:=V6 ⟨vars,.mk bb ks⟩;generalize hP:gr ⟨vars,.mk bb ks⟩=P;unfold gr at hP;rw[<-ah8]at hP;clear ah8;have hP:(if((((((decide (bb.k=1)&&decide (bb.dft=[]))&&decide (vars.length<=16))&&decide (iQ (.mk bb ks)<=64))&&decide (Bp (.mk bb ks)<=200))&&eM bb.nm)&&(vars.all BN&&yE bb ks 1)&&decide (Cw (.mk bb ks)<=400))=true then(if 16384<(iI [] (X7 ⟨vars,.mk bb ks⟩)).length then([],2)else if(dE (iI [] (X7 ⟨vars,.mk bb ks⟩))).2.1≠0 then([],22)else(iI [] (X7 ⟨vars,.mk bb ks⟩),0))else([],22))=P:=hP;show az aq 128 #[ah (vs.v::nE bb.k bb.nm bb.ini bb.dft en lv mv kids bb.a).toArray] w _;refine ret (ale _ _ _ _ _ _ _ _ _ _ _ _ ?_);intro k0 b w1 gu fe hb j9 cr;have hvl:=yj.len;have hvz:=wo vars;refine(Mr (D+1) w1 F (.mk bb ks) _ ((cG false _).keep Y7 fun k _ bS=>cr.block k bS (by simp)) (by omega)).mono ?_;rintro _ w2 ⟨rfl,cR⟩;have z2:=cR.size;refine⟨_,_,rfl,cR.same (by simp;omega),fun po ik=>?_⟩;have q2:Qz w b w2 [] (false,0):=⟨cr.cf cR,hb,⟨none,Sl.nil,.inl rfl,po,.inl ⟨rfl,rfl⟩⟩,fun _=>⟨iB 0,by decide⟩,bh _⟩
 have t2:Zq false w w2 b w2 [] (false,0) [k0]:=⟨q2,Mw.refl _ _ _,fun k hk=>by
  simp only[aN]at hk;subst hk;exact⟨by omega,ik,fun h=>by have:=Mc po h;cases this⟩⟩
 have hF:∀k,(fun k=>F k/\k<w.heap.size) k->k<w.heap.size:=fun k hk=>hk.2;have hw:=q2.o;rw[show ao #[]=T []from rfl,mA,hvl];refine(jO t2.toQz _).mono ?_;rintro _ w3 ⟨rfl,M2,u1,u2,u3⟩;have t3:=t2.nx u2 u3.up;have Bz:((((bb.k==1)&&decide (bb.dft=[]))&&decide ((vars.length:Int)<=16))&&decide ((iQ (.mk bb ks):Int)<=64)&&decide ((Bp (.mk bb ks):Int)<=200))=((((decide (bb.k=1)&&decide (bb.dft=[]))&&decide (vars.length<=16))&&decide (iQ (.mk bb ks)<=64))&&decide (Bp (.mk bb ks)<=200)):=by
  rw[bX];simp only[aQ,ey,bM];constructor
  ·rintro⟨⟨⟨⟨a1,a2⟩,a3⟩,a4⟩,a5⟩;exact⟨⟨⟨⟨a1,a2⟩,by omega⟩,by omega⟩,by omega⟩
  ·rintro⟨⟨⟨⟨a1,a2⟩,a3⟩,a4⟩,a5⟩;exact⟨⟨⟨⟨a1,a2⟩,by omega⟩,by omega⟩,by omega⟩
 rw[Bz]at u1;obtain⟨q3a,q3b,_,wO,_⟩:=t3.ex;refine⟨rfl,t2.sm u3 (by simp),q3a,q3b,_,_,wO,(mo t3.toQz bb.nm (by omega)).mono ?_⟩;rintro _ w4 ⟨rfl,Ky,v1,v2,v3⟩;have t4:=t3.nx v2 v3.up;obtain⟨q4a,q4b,_,uh,_⟩:=t4.ex;have j8:=iJ [gA,bb.nm,[123]];simp only[bD,eV,cp,gF,bf,cz]at j8;have hwc:gA.length=5:=rfl;obtain⟨q5,w5,e5,eP,hj5⟩:=xX t4.toQz [gA,bb.nm,[123]] (n:=3) (parts:=#[.mk 0 (ab (T gA)),.mk 1 (ab (T bb.nm)),.mk 2 (ab (T [123]))]) rfl rfl (by decide) (by decide) 0 (by decide) (by omega);refine⟨_,rfl,t3.sm v3 (by simp),q4a,q4b,_,_,uh,q5,w5,e5,?_,hj5.mono ?_⟩
 ·refine eP.same fun x hx=>⟨?_,by simp⟩
  simp only[aU,ba,bW]at hx;rcases hx with rfl | rfl
  ·exact(t4.k x (by simp)).1
  ·exact t4.toQz.lb
 rintro _ w6 ⟨rfl,x1,x2⟩;have t6:=t4.nx x1 x2;have hU6:=u1.tr v1;have hl6:Ky.1=false->(if Ky.1 then([]:aH)else pU [] (0,fM [gA,bb.nm,[123]]))=iI [] [(0,gA++32::(bb.nm++[32,123]))]:=fun e=>by
  rw[e];simp only[kf,jQ];rw[lY,oQ (by decide),fD (qW (v1.ok e).2.1),fD (by rfl),eG,fC,fC,lX];rfl
 generalize (if Ky.1 then([]:aH)else pU [] (0,fM [gA,bb.nm,[123]]))=l6 at*
 obtain⟨q6a,q6b,_,Tx,_⟩:=t6.ex;refine⟨rfl,t4.sl eP x2 (by simp),q6a,q6b,_,_,Tx,fun nv i q l' wr ac w'=>∃(j:Nat) (cE:St) (l':aH),i=j/\j<=vars.length/\nv=vars.length-j/\Up Ky ((vars.take j).all BN) 0 cE/\(cE.1=false->l'=iI l6 ((vars.take j).map fun v=>(1,vrT v)))/\Zq false w w2 b w' l' cE [k0],
  vars.length,⟨0,Ky,l6,rfl,bh _,rfl,t6.toQz.up0,fun _=>rfl,t6⟩,?_⟩
 rintro nv _ qa la wr ac w7 ⟨j,Y3,l7,rfl,hj,rfl,Ns,hl7,t7⟩;refine⟨fun hc=>?_,fun hc=>?_⟩
 ·have bS:(j:Int)<vars.length:=aO hc;obtain⟨ad,v,cs,g1,g2,g3,g4,g5,g6⟩:=(SliceF.only fA (by decide) yj t7.o (by simp)).get (bA j) (by omega);rw[aY]at g2;have hvm:=bF g2;have hvz:=AI hvm;have nt:vars.take (j+1)=vars.take j++[v]:=by
   rw[bJ,g2];rfl
  unfold Uf at g6;subst g6;refine⟨ad,g1,_,_,_,g5,fun k4 w8 Bl E9 fy _=>?_⟩;have t8:=t7.al fy Bl E9;refine(jO t8.toQz _).mono ?_;rintro _ w9 ⟨rfl,st9,y1,y2,y3⟩;have t9:=t8.nx y2 y3.up;obtain⟨q9a,q9b,_,hB9,_⟩:=t9.ex;refine⟨rfl,t8.sm y3 (by simp),q9a,q9b,_,_,hB9,fun du dM _=>⟨fun k=>k∈[k4],by simp,?_⟩⟩;have t10:=t9.q dM;refine(mo t10.toQz v.n (by omega)).mono ?_;rintro _ dC ⟨rfl,acB,y4,y5,y6⟩;have t11:=t10.nx y5 y6.up;obtain⟨aoX,aoY,_,HZ,_⟩:=t11.ex;refine⟨_,rfl,t10.sm y6 (by simp),aoX,aoY,_,_,HZ,bP.of (t10.sm y6 (by simp)),(yR v.v (hvn v hvm) (hT.only t11.o)).mono ?_⟩;rintro _ dN ⟨rfl,eS⟩;have t12:=t11.q eS;obtain⟨aoZ,ao0,_,acH,_⟩:=t12.ex;have Bg:=G9 (hvn v hvm);have j8:=iJ [GK,v.n,[61],Lib.itoa v.v++[59]];simp only[bD,eV,cp,gF,bf,cz,aP]at j8;have hwv:GK.length=3:=rfl;obtain⟨q13,fb,e13,eH,ao1⟩:=xX t12.toQz [GK,v.n,[61],Lib.itoa v.v++[59]] (n:=4) (parts:=#[.mk 0 (ab (T GK)),.mk 1 (ab (T v.n)),.mk 2 (ab (T [61])),.mk 3 (ab (T (Lib.itoa v.v++[59])))]) rfl rfl (by decide) (by decide) 1 (by decide) (by omega);refine⟨T (Lib.itoa v.v),rfl,t11.sq eS (by simp),aoZ,ao0,_,_,acH,bP.of (t11.sq eS (by simp)),by rw[dI];omega,q13,fb,by rw[show ao #[59]=T [59]from rfl,lD];exact e13,?_,bP.of (t12.sq eH (by simp)),ao1.mono ?_⟩
  ·refine eH.same fun x hx=>⟨?_,by simp⟩
   simp only[aU,ba,bW]at hx;rcases hx with rfl | rfl | rfl
   ·exact(t12.k x (by simp)).1
   ·exact t12.toQz.lb
   ·exact(t12.k x (by simp)).1
  rintro _ fk ⟨rfl,y7,y8⟩;have t14:=t12.nx y7 y8;obtain⟨ao2,ao3,_,HY,_⟩:=t14.ex;refine⟨rfl,t12.sl eH y8 (by simp),ao2,ao3,_,_,HY,bP.of (t12.sl eH y8 (by simp)),vars.length-(j+1),by omega,j+1,acB,_,by rw[fR (by omega) (by omega)];rfl,by omega,rfl,((Ns.tr y1).tr y4).cg ?_ rfl,fun e=>?_,⟨t14.toQz,t14.m,fun k hk=>t14.k k (by simp at hk;simp[hk])⟩⟩
  ·rw[nt,zn];have:(v.v != -9223372036854775808)=decide (v.v≠ -9223372036854775808):=by rw[bX];simp
   rw[this];unfold BN;simp only[List.all_cons,List.all_nil,kM];rw[BW,Bool.and_comm (decide _) (eM _)]
  ·have TT:ne (Lib.itoa v.v++[59])=true:=by
    have:Lib.itoa v.v++[59]≠[]:=by simp
    unfold ne;rw[bC this];rfl
   rw[e];simp only[kf,jQ];rw[hl7 (y1.ok (y4.ok e).1).1,nt,cJ,jN,oQ (by decide),fD (qW (y4.ok e).2.1),fD (by rfl),fD TT,eG,fC,fC,fC,lX,bQ];rfl
 have rl:¬(j:Int)<vars.length:=aR hc;have qt:j=vars.length:=by omega
 subst qt;rw[bq (aX _)]at Ns hl7;refine(RH (Mq D) t7.toQz (yI.keep fun k hk _=>t7.o.block k hk.2 (by simp)) (uF.keep (cG false D) (by decide) fun k hk _=>t7.o.block k hk.2 (by simp)) hF hr.1 hr.2 (by omega) 1 (by decide) hE hT).mono ?_;rintro _ w8 ⟨rfl,st8,l8,hU8,hl8,y1,y2⟩;have t8:=t7.nx y1 y2;obtain⟨q8a,q8b,_,vt,_⟩:=t8.ex;obtain⟨q9,w9,e9,fQ,hj9⟩:=xX t8.toQz [[125]] (n:=1) (parts:=#[.mk 0 (ab (T [125]))]) rfl rfl (by decide) (by decide) 0 (by decide) (by decide);refine⟨rfl,t7.sm y2 (by simp),q8a,q8b,_,_,vt,q9,w9,e9,?_,hj9.mono ?_⟩
 ·refine fQ.same fun x hx=>⟨?_,by simp⟩
  simp only[aU,ba,bW]at hx;rcases hx with rfl | rfl
  ·exact(t8.k x (by simp)).1
  ·exact t8.toQz.lb
 rintro _ du ⟨rfl,x3,x4⟩;have t10:=t8.nx x3 x4;have hU:=hU6.tr (Ns.tr hU8);have hlF:st8.1=false->(if st8.1 then l8 else pU l8 (0,fM [[125]]))=iI [] (X7 ⟨vars,.mk bb ks⟩):=fun e=>by
  obtain⟨e7,_⟩:=hU8.ok e;obtain⟨e4,_⟩:=Ns.ok e7;rw[e];simp only[kf,jQ];rw[hl8 e,hl7 e7,hl6 e4];have e1:fM [[125]]=[125]:=by decide
  rw[e1,<-lY,<-jN,<-jN,<-jN];unfold X7;rw[bH (nbL 1 bb)];exact rfl
 generalize (if st8.1 then l8 else pU l8 (0,fM [[125]]))=lF at*
 obtain⟨aia,aib,_,wF,_⟩:=t10.ex;have hcond:((((((decide (bb.k=1)&&decide (bb.dft=[]))&&decide (vars.length<=16))&&decide (iQ (.mk bb ks)<=64))&&decide (Bp (.mk bb ks)<=200))&&eM bb.nm)&&(vars.all BN&&yE bb ks 1)&&decide (Cw (.mk bb ks)<=400))=!st8.1:=by
  have h1:=hU.w;have ao4:decide (400<(0:Int)+((0+0+(0+(X6 bb+uT ks)):Nat):Int))=!decide (Cw (.mk bb ks)<=400):=by
   rw[Cw];by_cases h4:X6 bb+uT ks<=400
   ·rw[bL h4,bC (by omega)];rfl
   ·rw[bC h4,bL (by omega)];rfl
  have h1:st8.1=((false||!((((((decide (bb.k=1)&&decide (bb.dft=[]))&&decide (vars.length<=16))&&decide (iQ (.mk bb ks)<=64))&&decide (Bp (.mk bb ks)<=200))&&eM bb.nm)&&(vars.all BN&&yE bb ks 1)))||decide (400<(0:Int)+((0+0+(0+(X6 bb+uT ks)):Nat):Int))):=h1;rw[ao4]at h1;rw[h1];generalize ((((((decide (bb.k=1)&&decide (bb.dft=[]))&&decide (vars.length<=16))&&decide (iQ (.mk bb ks)<=64))&&decide (Bp (.mk bb ks)<=200))&&eM bb.nm)&&(vars.all BN&&yE bb ks 1))=A;generalize decide (Cw (.mk bb ks)<=400)=B;cases A<;>cases B<;>rfl
 rw[hcond]at hP;have fin:∀{w':av},ay [] w2 w'->ay [] w w':=fun h=>hw.cf h;have o10:ay [] w du:=t10.o;refine⟨rfl,t8.sl fQ x4 (by simp),aia,aib,_,_,wF,fun e=>?_,fun e=>(Mg t10.toQz).mono ?_⟩
 ·rw[if_neg (by rw[e];decide)]at hP;subst hP;exact⟨rfl,o10⟩
 rw[if_pos (by rw[e];rfl),<-hlF e]at hP;rintro _ _ ⟨rfl,rfl⟩;obtain⟨slP,hPt,hPb⟩:=t10.toQz.pt;have hbu:=fun k hk=>t10.toQz.bu (hPb k hk);refine⟨_,rfl,fun _ _=>rfl,aia,aib,_,_,wF,fun e2=>?_,fun e2=>(Ms hPt).mono ?_⟩
 ·rw[if_pos (aO e2)]at hP;subst hP;exact⟨rfl,o10⟩
 rw[if_neg (aR e2)]at hP;rintro _ dC ⟨rfl,Y8,eu⟩;have C6:=eu.size;have hlb:=t10.toQz.lb;have k0h:=t10.k k0 (by simp);have ko:∀k,(b<k/\slP.a=some ⟨k,0,none⟩)->w.heap.size<=k:=fun k hk=>by have:=t10.lo;omega
 have UR:ay [] w dC:=(o10.mL eu).only ko;obtain⟨q11,HZ⟩:=Y8.blk;refine⟨_,rfl,eu.same fun x hx=>?_,q11,slP,_,_,HZ,(G5 _ (hE.only UR)).mono ?_⟩
 ·simp only[aN]at hx;subst hx;exact⟨k0h.1,fun h=>k0h.2.2 (hPb _ h.2)⟩
 rintro _ dN ⟨vsx,csx,rfl,hC,eS⟩;obtain⟨xe,xl,xm,xk,rfl,_⟩:=hC.root;have Y9:=Y8.only eS;obtain⟨q12,acH⟩:=Y9.blk;have Xe:=UR.cf eS;have z12:=eS.size;refine⟨vsx,_,_,_,_,xe,xl,xm,xk,_,_,_,rfl,eS.same (by simp;omega),q12,slP,_,_,acH,fun e3 k6 k7 fb _ _ _ _ eH _=>?_,fun e3 k8 k9 fk hk8 Tt hk9 acI ep _=>?_⟩
 ·rw[if_pos (by simpa using e3)]at hP;subst hP;exact⟨rfl,Xe.cf eH⟩
 ·rw[if_neg (by simpa using e3)]at hP;subst hP;refine(Ms (Y9.only ep)).mono ?_;rintro _ fZ ⟨rfl,aid,gL⟩;obtain⟨q15,ack⟩:=aid.blk;have W0:=ep.size;refine⟨_,rfl,gL.same fun x hx=>?_,q15,slP,_,_,ack,rfl,((Xe.cf ep).mL gL).only ko⟩;simp only[aU,ba,bW]at hx;rcases hx with rfl | rfl | rfl
  ·exact⟨by omega,fun h=>k0h.2.2 (hPb _ h.2)⟩
  ·exact⟨Tt,fun h=>by have:=(hbu _ h.2).2;omega⟩
  ·exact⟨acI,fun h=>by have:=(hbu _ h.2).2;omega⟩
end Go.Proofs.YtbkjcdocjfknfaaGreatDoor.Con
