import Derived.Test.YtbkjcdocjfknfaaGreatDoorQp9
set_option linter.unusedSectionVars false
namespace Go.Proofs.YtbkjcdocjfknfaaGreatDoor.Con
open Go.Value renaming int->O,string->ah,pointer->ai,agg->aj,tuple->ak,bool->ao
open Go.IntKind renaming i64->ae,wrap->av
open Go.Ending renaming returned->aq
open _root_.ByteArray renaming mk->ar
open _root_.Go.Proofs.Tryz renaming prog->au
open Go.Instr renaming buildSlice->aw
open Go renaming World->ay,Value->az,Calls->aB
open Go.Kt renaming Only->aA,SliceF->aD,Cells->aE,OnlyP->aF,Blk->aH
open Go Go.RowKit Go.Kt Go.Kt.V Go.Proofs.YtbkjcdocjfknfaaGreatDoor.Vc
set_option linter.unusedSimpArgs false
set_option linter.unusedVariables false
set_option maxHeartbeats 4000000
theorem V8(w:ay)(F:aL):ChR true 15 w F ch0 Sl.nil (om 0 [] [] [] Sl.nil Sl.nil Sl.nil Sl.nil 0):=⟨jE.nil _ _ _ _ _ _,PU (by decide) _ _⟩
theorem ChR.stay{d:Nat}{w w':ay}{B:Nat}{c:Ch}{vs:Sl}{cs:aK}(h:ChR true d w (Fr B) c vs cs)(hs:Stay B w w'):ChR true d w' (Fr B) c vs cs:=⟨h.vars.stay gq (by decide) hs,(cN true d).stay h.root hs⟩
theorem ChR.low{d:Nat}{w:ay}{A B:Nat}{c:Ch}{vs:Sl}{cs:aK}(h:ChR true d w (Fr B) c vs cs)(hA:A<=B):ChR true d w (Fr A) c vs cs:=⟨h.vars.low gq hA,(cN true d).low h.root hA⟩
theorem Ym{ts:List Tk}(hE:wa ts){s:Sx}{ss:List (aJ)}(hi:s.i<ts.length)(hw:cT ts s ss≠0):mu ts (uf ts (dA s)).2<mu ts s:=
 oM hE (dl hw).1 hi (dl hw).2 (Px hE (dA s)).toOn0
theorem F0{w:ay}(l:aJ)(hE:Er w):aB au 80 #[ah (T l)] w fun e w'=>
  ∃(vs:Sl) (cs:aK),e=aq (ak #[aj (vs.v::cs).toArray,aj #[O ae (dE l).2.1,O ae (dE l).2.2]])/\ChR true 15 w' (Fr w.heap.size) (dE l).1 vs cs/\aA [] w w':=by
 refine(acu (T l) (fun v w'=>∃(vs:Sl) (cs:aK),v=(ak #[aj (vs.v::cs).toArray,aj #[O ae (dE l).2.1,O ae (dE l).2.2]])/\ChR true 15 w' (Fr w.heap.size) (dE l).1 vs cs/\aA [] w w') w ?_).mono (by
  rintro e w' ⟨v,rfl,vs,cs,rfl,h⟩;exact⟨vs,cs,rfl,h⟩)
 generalize hP:dE l=P;unfold dE at hP;intro k0 k1 w0 gU fi ke jH cK;have z0:=cK.size;refine(Fx l (hE.only cK)).mono ?_;rintro _ w1 ⟨rs,rfl,hT,cF⟩;have z1:=cF.size;have jp:=cK.cz cF;have tOk:=H5 (l:=l);have amb:∀{w2 w3:ay},aA [] w1 w2->aA [k1,k0] w2 w3->aA [] w w3:=fun dh dx=>((jp.cz dh).trans dx fun x hx=>.inr (by simp only[aR,bf,bU]at hx;omega))
 refine⟨rs,_,_,rfl,cF.same (by simp;omega),fun hc k2 w2 tF wM dh n1 n2 n3=>⟨fun k=>k=k2,rfl,fun e=>n2 e,fun e=>n3 e,fun w3 dx=>?_⟩,fun hc k3 k4 k5 w4 yx wN yy A7 Cp G3 dP=>?_⟩
 ·have hc:(dq l).2.1≠0:=by simpa using hc
  rw[if_pos hc]at hP;subst hP;exact⟨Sl.nil,_,rfl,V8 _ _,amb dh dx⟩
 have hc:(dq l).2.1=0:=by simpa using hc
 obtain⟨hEn,Nh,afN,fu⟩:=tOk hc;rw[if_neg (by simpa using hc)]at hP;have amc:=((hT.sl.inHeap ju (by decide)).mono ju (G:=fun k=>w0.heap.size<=k/\k<w1.heap.size) fun k hk=>⟨hk.1.1,hk.2⟩)
 generalize (dq l).1=ts at*
 clear tOk hT;have z4:=dP.size;obtain⟨q,w5,e1,hq,eE⟩:=nP w4 [gL] (n:=1) (parts:=#[(0,ah (T gL))]) rfl rfl (by decide) (by decide);have z5:=eE.size;refine⟨q,w5,e1,eE.same (by simp;omega),fun wL n04 n14 n34 n54=>?_⟩;have r5:Sr (fun k=>w0.heap.size<=k/\k<w1.heap.size) ts w5 k4 rs Hb:=⟨wL,SliceF.only ju (by decide) amc (dP.cz eE) (by simp),fun k hk=>by have:=hk.2;omega,hEn,afN,by omega⟩
 have NI:∀k,(fun k=>w0.heap.size<=k/\k<w1.heap.size) k->k<w1.heap.size:=fun k hk=>hk.2;generalize (fun k=>w0.heap.size<=k/\k<w1.heap.size)=F at*
 have w5w:aA [] w w5:=(jp.cz dP).cz eE;have sm:∀{u u':ay} {x:Sx},w5.heap.size<=u.heap.size->Dn F ts u u' k4 rs x->ci [k0,k1,k3,k5] u u':=fun hz d=>d.o.same (by
  intro x hx;simp only[aR,bf,bU]at hx⊢;omega)
 have sq:∀{u u':ay},w5.heap.size<=u.heap.size->aA [] u u'->ci [k0,k1,k3,k4,k5] u u':=fun hz o=>o.same fun x hx=>⟨by
  simp only[aR,bf,bU]at hx;omega,by simp⟩
 have oD:∀{u u':ay} {x:Sx},aA [] w u->Dn F ts u u' k4 rs x->aA [] w u':=fun o d=>o.trans d.o fun x hx=>.inr (by simp only[aO]at hx;omega);have o5:∀{u u':ay},aA [] w u->aA [k5] u u'->aA [] w u':=fun o d=>o.trans d fun x hx=>.inr (by simp only[aO]at hx;omega);have r55:∀{u u':ay} {x:Sx},Sr F ts u k4 rs x->aA [k5] u u'->Sr F ts u' k4 rs x:=fun r o=>r.Za o ⟨n54,fun hF=>by have:=NI _ hF;omega⟩;have LD:=wL.lt;refine(Ku r5 (uT hq) fun k hk e=>(by have:=hk.1;omega)).mono ?_;rintro _ w6 ⟨rfl,h6⟩;have z6:=h6.o.size;refine⟨rfl,sm (aY _) h6,rs,_,_,_,_,_,_,_,_,h6.r.blk,(FY h6.r 1).mono ?_⟩;rintro _ w7 ⟨rfl,h7⟩;have z7:=h7.o.size;have hC:zz ts=(⟨(xa ts (ts.length+1) [] (eB ts (eY ts 1 (eB ts Hb gL)).2 [123])).1,(qW ts (kM ts 14) (eY ts 1 (eB ts Hb gL)).1 (xa ts (ts.length+1) [] (eB ts (eY ts 1 (eB ts Hb gL)).2 [123])).2).1⟩,Mr ts (qW ts (kM ts 14) (eY ts 1 (eB ts Hb gL)).1 (xa ts (ts.length+1) [] (eB ts (eY ts 1 (eB ts Hb gL)).2 [123])).2).2):=rfl;have wH:(eY ts 1 (eB ts Hb gL)).1.ini=[]/\(eY ts 1 (eB ts Hb gL)).1.dft=[]/\(eY ts 1 (eB ts Hb gL)).1.en=[]/\(eY ts 1 (eB ts Hb gL)).1.lv=[]/\(eY ts 1 (eB ts Hb gL)).1.mv=[]:=⟨rfl,rfl,rfl,rfl,rfl⟩
 have on7:On ts Hb (eY ts 1 (eB ts Hb gL)).2:=(ic hEn _).trans (zC hEn _ _);generalize eY ts 1 (eB ts Hb gL)=N at*
 obtain⟨⟨nk,nnm,al8,al9,nen,nlv,nmv,na⟩,u1⟩:=N;dsimp only at*
 obtain⟨i1,i2,i3,i4,i5⟩:=wH;subst i1 i2 i3 i4 i5;refine⟨_,_,_,_,Sl.nil,Sl.nil,Sl.nil,Sl.nil,_,rfl,sm z6 h7,rs,_,_,_,_,_,_,_,_,h7.r.blk,fun w8 gn uz=>?_⟩;have z8:=gn.size;have r8:=r55 h7.r gn;have w8w:=o5 (oD (oD w5w h6) h7) gn;obtain⟨q,w9,e1,gv,hm⟩:=pW r8 [123];have z9:=gv.size;refine⟨q,w9,e1,sq (by omega) gv,hm.mono ?_⟩;rintro _ dI ⟨rfl,RI⟩;have NP:=RI.o.size;have amd:=oD (w8w.cz gv) RI;have ame:On ts Hb (eB ts u1 [123]):=on7.trans (ic hEn _);clear hm;generalize eB ts u1 [123]=u2 at*
 generalize hV:xa ts (ts.length+1) [] u2=V at*
 generalize hB:dI.heap.size=B at*
 refine⟨rfl,sm (by omega) RI,rs,_,_,_,_,_,_,_,_,RI.r.blk,fun nv l10 i28 s3 s4 s5 oh ql vC xR i29 AK i30 i31 i32 i33 i34 i35 i36 i37 w'=>∃(u:Sx) (acc:List Vr),i28=nk/\s3=T nnm/\s4=T []/\s5=T []/\oh=Sl.nil/\ql=Sl.nil/\vC=Sl.nil/\xR=Sl.nil/\i29=na/\Sr F ts w' k4 rs u/\Own Sg 3 95 B w' (Fr B) l10 acc/\xa ts nv acc u=V/\mu ts u<nv/\acc.length+mu ts u<=ts.length/\aA [] w w'/\B<=w'.heap.size/\u.d=12,
  ts.length+1,⟨u2,[],rfl,rfl,rfl,rfl,rfl,rfl,rfl,rfl,rfl,RI.r,Own.nil _ _ _ _ _ _,hV,uC (qY _ _),by rw[cO,bM];exact qY _ _,amd,oC hB.symm,ame.d⟩,?_⟩
 clear hV;rintro nv l10 nk2 _ _ _ _ _ _ _ na2 AK i30 i31 i32 i33 i34 i35 i36 i37 dJ ⟨u,acc,rfl,rfl,rfl,rfl,rfl,rfl,rfl,rfl,rfl,r11,RS,hR,Zm,NL,amf,zB,hud⟩;obtain⟨m,rfl⟩:∃m,nv=m+1:=⟨nv-1,by omega⟩
 rw[xa]at hR;obtain⟨q,fg,e1,fj,hm⟩:=BM r11 [FJ] (n:=1) (parts:=#[(0,ah (T FJ))]) rfl rfl (by decide) (by decide);have z12:=fj.size;refine⟨q,fg,e1,sq (by omega) fj,hm.mono ?_⟩;rintro _ fC ⟨rfl,tj⟩;have SE:=tj.o.size;have aal:=oD (amf.cz fj) tj;have WS:Own Sg 3 95 B fC (Fr B) l10 acc:=(RS.stay gq fj fun x hx=>(by cases hx)).stay gq tj.o fun x hx=>.inl (by simp only[aO]at hx;omega);refine⟨_,rfl,sm (by omega) tj,rs,_,_,_,_,_,_,_,_,tj.r.blk,fun uu fT dU GY=>?_,fun uu Ay m05 m15 m35=>?_⟩
 ·have uu:=MA uu;rw[if_neg uu]at hR tj;have ZL:=dU.size;have r14:=tj.r.only dU;refine⟨fun k=>k=k5,rfl,(Yl r14 Nh).mono ?_⟩;rintro _ iJ ⟨rfl,NU⟩;have z15:=NU.o.size;have hmu:=Ym hEn r11.lt uu;have RR:=Px hEn (dA u);generalize uf ts (dA u)=X at*
  obtain⟨x,u'⟩:=X;dsimp only at*
  have Cs:=qY ts u;have afO:Own Sg 3 95 B iJ (Fr B) l10 acc:=(WS.stay gq dU fun x hx=>(by cases hx)).stay gq NU.o fun x hx=>.inl (by simp only[aO]at hx;omega);obtain⟨y,iX,e2,ig,Ct,fR,e3,mM,⟨gs,iY,rm⟩,_⟩:=jj (P:=au) (t:=22) (ty:=22) (e:=95) (i:=Tryz.t95) (bytes:=32) (size:=3) (v:=aj #[ah (T x.n),O ae x.v,O ae x.a]) (x:=x) (G:=fun _=>False) (by kernel_rfl) (by kernel_rfl) rfl rfl rfl rfl (by decide) (by decide) (by decide) gq afO (by omega) rfl rfl (fun k hk _=>hk.elim) (by omega);have qn:∀g,g∈gs->B<=g:=fun g hg=>(rm g hg).2.1;have z16:=ig.size;have z17:=iY.size;refine⟨_,_,_,rfl,sm (by omega) NU,rs,_,_,_,_,_,_,_,_,NU.r.blk,fun k hk bX=>(by subst hk;exact NU.o.block k bX (by simp only[aO];omega)),y,iX,e2,sq (by omega) ig,bS.only ig,Ct,fR,e3,iY.same (fun x hx=>?_),fun k hk bX=>(by subst hk;exact iY.block k bX fun hm=>(by have:=qn k hm;omega)),fun jA lO RP=>?_⟩
  ·simp only[aR,bf,bU]at hx;exact⟨by omega,fun hm=>by have:=qn x hm;omega⟩
  ·have z18:=lO.size;have r17:Sr F ts fR k4 rs u':=(NU.r.only ig).own iY fun x hx=>(by have:=qn x hx;omega)
   refine⟨m,Nq _,u',acc++[x],rfl,rfl,rfl,rfl,rfl,rfl,rfl,rfl,rfl,r55 r17 lO,?_,hR,by omega,by rw[aU,bP];omega,o5 (((oD (aal.cz dU) NU).cz ig).trans iY fun x hx=>.inr (by have:=qn x hx;have:=aal.size;omega)) lO,by omega,RR.d.trans hud⟩;refine(mM.mono gq fun k hk=>?_).stay gq lO fun x hx=>.inl (by simp only[aO]at hx;omega);rcases hk with hk | hk
   ·exact hk
   ·show B<=k;omega
 ·have uu:=Mz uu;rw[if_pos uu]at hR tj;subst hR;dsimp only at hC;have r13:=tj.r;refine(Kx (f:=14) r13 (iT:=[l10.v]) (n:=⟨nk2,nnm,[],[],[],[],[],na2⟩) rfl rfl rfl Ay ⟨n54,fun hF=>(by have:=NI _ hF;omega)⟩ (by rw[hud];exact⟨by decide,by decide⟩) (fun _=>by
   rw[hud];exact⟨by decide,Kz 14 11 (by decide) (by decide) (by decide)⟩)).mono ?_
  generalize qW ts (kM ts 14) ⟨nk2,nnm,[],[],[],[],[],na2⟩ u=D at*
  obtain⟨root,s1⟩:=D;dsimp only at hC;rw[hC]at hP;dsimp only at hP;rintro _ jO ⟨rfl,cs,afP,hx,kU,r19⟩;dsimp only at*
  have z19:=kU.size;have amj:aA [] w jO:=aal.trans kU fun x hx=>.inr (by simp only[aR,bf,bU]at hx;omega);have amk:Stay B fC jO:=Stay.of kU fun x hx=>.inl (by simp only[aR,bf,bU]at hx;omega);have c19:ChR true 15 jO (Fr w5.heap.size) ⟨acc,root⟩ l10 cs:=⟨((WS.sl gq fun k hk=>hk).stay gq (by decide) amk).low gq (by omega),(cN true 15).low hx (by omega)⟩
  have AA:=hx;obtain⟨xe,xl,xm,xk,rfl,_⟩:=AA;have sm3:∀{u u':ay} {bs:List Nat},w5.heap.size<=u.heap.size->aA bs u u'->(∀x,x∈bs->x=k4∨x=k5)->ci [k0,k1,k3] u u':=fun hz o hb=>o.same fun x hx=>⟨by simp only[aR,bf,bU]at hx;omega,fun hm=>by have:=hb x hm;simp only[aR,bf,bU]at hx;omega⟩
  refine⟨rfl,sm3 (by omega) kU (by simp),rs,_,_,_,_,_,_,_,_,r19.blk,l10,_,_,_,_,xe,xl,xm,xk,_,afP,?_⟩;have st:∀{u u':ay} {x:Sx},Sr F ts u k4 rs x->aH u k5 29 (l10.v::om root.b.k root.b.nm root.b.ini root.b.dft xe xl xm xk root.b.a)->aA [] w u->ChR true 15 u (Fr w5.heap.size) ⟨acc,root⟩ l10 (om root.b.k root.b.nm root.b.ini root.b.dft xe xl xm xk root.b.a)->∀{y:Sx},Dn F ts u u' k4 rs y->Sr F ts u' k4 rs y/\aH u' k5 29 (l10.v::om root.b.k root.b.nm root.b.ini root.b.dft xe xl xm xk root.b.a)/\aA [] w u'/\ChR true 15 u' (Fr w5.heap.size) ⟨acc,root⟩ l10 (om root.b.k root.b.nm root.b.ini root.b.dft xe xl xm xk root.b.a):=fun{u u' x} a1 a2 a3 a4 {y} d=>
   ⟨d.r,d.o.blk a2 (by simp only[aO];omega),oD a3 d,a4.stay (Stay.of d.o fun x hx=>.inl (by simp only[aO]at hx;omega))⟩
  refine⟨fun l27 i67 M8 LH UU l28 l29 l30 l31 i68 l32 i69 i70 i71 i72 i73 i74 i75 i76 jm=>w5.heap.size<=jm.heap.size/\Sr F ts jm k4 rs (Mr ts s1)/\aH jm k5 29 (l10.v::om root.b.k root.b.nm root.b.ini root.b.dft xe xl xm xk root.b.a)/\aA [] w jm/\ChR true 15 jm (Fr w5.heap.size) ⟨acc,root⟩ l10 (om root.b.k root.b.nm root.b.ini root.b.dft xe xl xm xk root.b.a),?_,?_⟩
  ·rintro l27 i67 M8 LH UU l28 l29 l30 l31 i68 l32 i69 i70 i71 i72 i73 i74 i75 i76 jm ⟨z20,a1,a2,a3,a4⟩;refine(lY a1).mono ?_;rintro _ kV ⟨rfl,ku⟩;obtain⟨b1,b2,b3,b4⟩:=st a1 a2 a3 a4 (a1.dn.q ku);have z21:=ku.size;refine⟨_,rfl,sm3 z20 ku (by simp),rs,_,_,_,_,_,_,_,_,b1.blk,l10,_,_,_,_,xe,xl,xm,xk,_,b2,fun hf oS Az _ _ p01 p03 p04 p05 p13 WK p15 p34 p35 p45=>⟨fun k=>k=k4,rfl,fun e=>p04 e,fun e=>WK e,fun nH jX _ _=>?_⟩,fun hf ot A6 _ _=>?_⟩
   ·have hf:(Mr ts s1).fc≠0:=by simpa using hf
    rw[if_pos hf]at hP;subst hP;exact⟨Sl.nil,_,rfl,V8 _ _,(b3.cz Az).trans jX fun x hx=>.inr (by simp only[aR,bf,bU]at hx;omega)⟩
   ·have hf:¬(Mr ts s1).fc≠0:=by simpa using hf
    rw[if_neg hf]at hP;subst hP;refine⟨l10,_,rfl,(b4.stay (Stay.of A6 fun x hx=>.inl (by simp only[aR,bf,bU]at hx;omega))).low w5w.size,b3.trans A6 fun x hx=>.inr (by simp only[aR,bf,bU]at hx;omega)⟩
  ·refine⟨fun b1 UX i87 M9 s17 s18 UY UZ WG l43 i88 Zw i89 i90 i91 i92 i93 i94 i95 i96 nB=>b1=decide (s1.fc=0/\(tk ts s1.i).k≠5)/\w5.heap.size<=nB.heap.size/\Sr F ts nB k4 rs s1/\aH nB k5 29 (l10.v::om root.b.k root.b.nm root.b.ini root.b.dft xe xl xm xk root.b.a)/\aA [] w nB/\ChR true 15 nB (Fr w5.heap.size) ⟨acc,root⟩ l10 (om root.b.k root.b.nm root.b.ini root.b.dft xe xl xm xk root.b.a),?_,fun uy sI _ _=>?_⟩
   ·rintro b1 UX i87 M9 s17 s18 UY UZ WG l43 i88 Zw i89 i90 i91 i92 i93 i94 i95 i96 nB ⟨rfl,z25,a1,a2,a3,a4⟩;unfold Mr;refine⟨fun hb=>(rX a1).mono ?_,fun hb=>?_⟩
    ·rw[if_pos (aP hb)];rintro _ rb ⟨rfl,h26⟩;obtain⟨b1,b2,b3,b4⟩:=st a1 a2 a3 a4 h26;have z26:=h26.o.size;exact⟨rfl,sm3 z25 h26.o (by simp),rs,_,_,_,_,_,_,_,_,b1.blk,l10,_,_,_,_,xe,xl,xm,xk,_,b2,by omega,b1,b2,b3,b4⟩
    ·rw[if_neg (aW hb)];exact⟨z25,a1,a2,a3,a4⟩
   ·have z27:=sI.size;obtain⟨a1,a2,a3,a4⟩:=st r19 afP amj c19 (r19.dn.q sI);refine(lY a1).mono ?_;rintro _ Aw ⟨rfl,wO⟩;obtain⟨b1,b2,b3,b4⟩:=st a1 a2 a3 a4 (a1.dn.q wO);have z28:=wO.size;obtain⟨ad,g1,g2⟩:=b1.now;refine⟨_,rfl,sm3 (by omega) wO (by simp),rs,_,_,_,_,_,_,_,_,b1.blk,l10,_,_,_,_,xe,xl,xm,xk,_,b2,fun hb=>⟨ad,g1,_,g2.dZ 0 _ rfl,?_,by omega,b1,b2,b3,b4⟩,fun hb=>⟨?_,by omega,b1,b2,b3,b4⟩⟩
    ·have hb:s1.fc=0:=by simpa using hb
     rw[bT];simp[hb]
    ·have hb:¬s1.fc=0:=by simpa using hb
     simp[hb]
def Bu(w:ay)(b k:Nat):Prop:=∃n c,w.cell? ⟨b,1,none⟩=some (.slice (some ⟨k,0,none⟩) n c)
structure Mw (f:Bool) (b:Nat) (w w':ay):Prop where
 o:aF (fun k=>k=b∨(f=false/\Bu w b k)) w w'
 u:∀k,Bu w' b k->Bu w b k∨(f=false/\w.heap.size<=k)
abbrev St:=Bool×Int
structure Qz (w0:ay) (b:Nat) (w:ay) (l:aJ) (st:St):Prop where
 o:aA [] w0 w
 lo:w0.heap.size<=b
 ex:∃(q:Option Addr) (sl:Sl),(q=none∨q=some ⟨b,0,none⟩)/\aH w b 245 [ai q,sl.v,ao st.1,O ae st.2]/\Bf w (b+1) sl l
 i:st.1=false->0<=st.2/\st.2<=400
 big:l.length<=274877906944
structure Up (st:St) (c:Bool) (n:Nat) (cH:St):Prop where
 w:cH.1=((st.1||!c)||decide (400<st.2+n))
 a:cH.1=false->cH.2=st.2+n
theorem or3{a b c:Bool}(h:false=((a||!b)||c)):a=false/\b=true/\c=false:=by
 revert h;cases a<;>cases b<;>cases c<;>decide
theorem Up.ok{st cH:St}{c:Bool}{n:Nat}(h:Up st c n cH)(e:cH.1=false):st.1=false/\c=true/\cH.2=st.2+n/\¬400<st.2+(n:Int):=by
 obtain⟨a,b,d⟩:=or3 (e.symm.trans h.w);exact⟨a,b,h.a e,aW d⟩
theorem Up.tr{st cH aam:St}{c c':Bool}{n n':Nat}(h:Up st c n cH)(k:Up cH c' n' aam):Up st (c&&c') (n+n') aam:=by
 cases e:aam.1 with
 | false=>
  obtain⟨k1,k2,k3,k4⟩:=k.ok e;obtain⟨h1,h2,h3,h4⟩:=h.ok k1;have h5:¬400<st.2+((n+n':Nat):Int):=by omega
  refine⟨?_,fun _=>by omega⟩;rw[e,h1,h2,k2,bG h5];rfl
 | true=>
  refine⟨?_,fun e2=>by rw[e]at e2;cases e2⟩;rw[e];refine Eq.symm (cq fun hn=>?_);obtain⟨a1,a2,a3⟩:=or3 (fh.2 hn).symm;rw[aQ]at a2;have a3:=aW a3;have h5:¬400<st.2+(n:Int):=by omega
  have e1:cH.1=false:=by rw[h.w,a1,a2.1,bG h5];rfl
  have e2:=h.a e1;have h6:¬400<cH.2+(n':Int):=by omega
  have:=k.w;rw[e,e1,a2.2,bG h6]at this;cases this
theorem Up.cg{st cH:St}{c c':Bool}{n n':Nat}(h:Up st c n cH)(e:c=c')(en:n=n'):Up st c' n' cH:=by subst e en;exact h
theorem Up.le{st cH:St}{c:Bool}{n:Nat}(h:Up st c n cH)(h0:st.1=false->0<=st.2)(e:cH.1=false):0<=cH.2/\cH.2<=400:=by
 obtain⟨a,b,d,h2⟩:=h.ok e;have:=h0 a;omega
section
variable {f g:Bool} {w0 ws w w' w1 th:ay} {b k:Nat} {l l':aJ} {st cH:St} {ks ks':List Nat}
theorem Mw.refl(f:Bool)(b:Nat)(w:ay):Mw f b w w:=⟨OnlyP.refl _ _,fun _ h=>.inl h⟩
theorem Mw.trans(h:Mw f b w w')(k:Mw f b w' th):Mw f b w th:=by
 have z:=h.o.size;refine⟨h.o.trans k.o fun x hx=>?_,fun x hx=>?_⟩
 ·rcases hx with hx | ⟨ef,hx⟩
  ·exact .inl (.inl hx)
  ·rcases h.u x hx with e | ⟨_,e⟩
   ·exact .inl (.inr ⟨ef,e⟩)
   ·exact .inr e
 ·rcases k.u x hx with e | ⟨ef,e⟩
  ·exact h.u x e
  ·exact .inr ⟨ef,by omega⟩
theorem Mw.up(h:Mw f b w w'):Mw false b w w':=⟨h.o.mono fun k _ hk=>hk.elim .inl fun e=>.inr ⟨rfl,e.2⟩,fun k hk=>(h.u k hk).elim .inl fun e=>.inr ⟨rfl,e.2⟩⟩
theorem Mw.aem(h:Mw true b w w'):aA [b] w w':=h.o.aeg fun k hk=>hk.elim (fun e=>.inl (by rw[e];simp)) fun e=>(by cases e.1)
theorem u9(h:w'.heap[b]? =w.heap[b]?){k:Nat}(hb:Bu w' b k):Bu w b k:=by
 obtain⟨n,c,hc⟩:=hb;refine⟨n,c,?_⟩;unfold World.cell? at hc⊢;rw[h]at hc;exact hc
theorem Qz.lb(h:Qz w0 b w l st):b<w.heap.size:=by
 obtain⟨q,sl,_,hB,_⟩:=h.ex;exact hB.lt
theorem Qz.arg(h:Qz w0 b w l st)(h':Qz w0 b w' l' cH){k:Nat}(hk:k<w0.heap.size):w'.heap[k]? =w.heap[k]? :=(h'.o.block k hk (by simp)).trans (h.o.block k hk (by simp)).symm
theorem Mw.only(hb:b<w.heap.size)(h:aA [] w w'):Mw f b w w':=⟨h.p0,fun k hk=>.inl (u9 (h.block b hb (by simp)) hk)⟩
theorem KA{q v2 v3:az}{t:TypeId}{sl:Sl}(hB:aH w b t [q,sl.v,v2,v3]){k:Nat}(h:Bu w b k):sl.a=some ⟨k,0,none⟩:=by
 obtain⟨n,c,hc⟩:=h;have:=Blk.dZ hB 1 rfl 0 sl.v rfl;have e:(Addr.add ⟨b,0,none⟩ 1).add 0=⟨b,1,none⟩:=by simp[Addr.add]
 rw[e,hc]at this;have:(Value.slice (some ⟨k,0,none⟩) n c)=.slice sl.a sl.n sl.c:=yB this;injection this with e1 _ _;exact e1.symm
theorem F1{q v2 v3:az}{t:TypeId}{sl:Sl}(hB:aH w b t [q,sl.v,v2,v3]){k:Nat}(h:sl.a=some ⟨k,0,none⟩):Bu w b k:=by
 have:=Blk.dZ hB 1 rfl 0 sl.v rfl;have e:(Addr.add ⟨b,0,none⟩ 1).add 0=⟨b,1,none⟩:=by simp[Addr.add]
 rw[e]at this;refine⟨sl.n,sl.c,?_⟩;rw[this,<-h]
theorem Qz.bu(h:Qz w0 b w l st){k:Nat}(hk:Bu w b k):b<k/\k<w.heap.size:=by
 obtain⟨q,sl,_,hB,hb⟩:=h.ex;have:=hb.lt (KA hB hk);omega
theorem Qz.only(h:Qz w0 b w l st)(hO:aA [] w w'):Qz w0 b w' l st:=by
 obtain⟨q,sl,hq,hB,hb⟩:=h.ex;exact⟨h.o.cz hO,h.lo,⟨q,sl,hq,hO.blk hB (by simp),hb.keep fun g _ hl=>hO.block g hl (by simp)⟩,h.i,h.big⟩
structure Zq (f:Bool) (w0 ws:ay) (b:Nat) (w:ay) (l:aJ) (st:St) (ks:List Nat):Prop extends Qz w0 b w l st where
 m:Mw f b ws w
 k:∀k,k∈ks->k<w.heap.size/\k≠b/\¬Bu w b k
theorem Qz.z(f:Bool)(h:Qz w0 b w l st):Zq f w0 w b w l st []:=⟨h,Mw.refl f b w,fun k hk=>(by cases hk)⟩
theorem Zq.q(t:Zq f w0 ws b w l st ks)(hO:aA [] w w'):Zq f w0 ws b w' l st ks:=by
 have hb:=t.toQz.lb;refine⟨t.toQz.only hO,t.m.trans (Mw.only hb hO),fun k hk=>?_⟩;obtain⟨h1,h2,h3⟩:=t.k k hk;exact⟨cx h1 hO.size,h2,fun h=>h3 (u9 (hO.block b hb (by simp)) h)⟩
theorem Zq.al(t:Zq f w0 ws b w l st ks)(hO:aA [] w w')(h1:w.heap.size<=k)(h2:k<w'.heap.size):Zq f w0 ws b w' l st (k::ks):=by
 have hb:=t.toQz.lb;have t':=t.q hO;refine⟨t'.toQz,t'.m,fun x hx=>?_⟩;rcases aR.1 hx with rfl | hx
 ·exact⟨h2,by omega,fun h=>by have:=(t.toQz.bu (u9 (hO.block b hb (by simp)) h)).2;omega⟩
 ·exact t'.k x hx
theorem Zq.nx(t:Zq f w0 ws b w l st ks)(p:Qz w0 b w' l' cH)(m:Mw f b w w'):Zq f w0 ws b w' l' cH ks:=by
 refine⟨p,t.m.trans m,fun k hk=>?_⟩;obtain⟨h1,h2,h3⟩:=t.k k hk;exact⟨cx h1 m.o.size,h2,fun h=>(m.u k h).elim h3 fun e=>by have:=e.2;omega⟩
theorem Zq.sq(t:Zq f w0 ws b w l st ks)(hO:aA [] w w')(hk:∀k,k∈ks'->k∈ks):ci ks' w w':=hO.same fun x hx=>⟨(t.k x (hk x hx)).1,by simp⟩
theorem Zq.sm(t:Zq f w0 ws b w l st ks)(m:Mw g b w w')(hk:∀k,k∈ks'->k∈ks):ci ks' w w':=m.o.same fun x hx=>⟨(t.k x (hk x hx)).1,fun h=>h.elim (t.k x (hk x hx)).2.1 fun e=>(t.k x (hk x hx)).2.2 e.2⟩
theorem Zq.sj(t:Zq f w0 ws b w l st ks)(hz:w.heap.size<=w1.heap.size)(h:aF (fun k=>w.heap.size<=k) w1 w')(hk:∀k,k∈ks'->k∈ks):ci ks' w1 w':=h.same fun x hx=>by
 have:=(t.k x (hk x hx)).1;exact⟨by omega,by omega⟩
theorem Zq.row(t:Zq true w0 ws b w l st ks)(hb:b<ws.heap.size)(hu:∀k,Bu ws b k->k<ws.heap.size)(hO:aF (fun k=>ws.heap.size<=k) w w'):Zq true w0 ws b w' l st ks:=by
 have hB:=t.toQz.lb;have hlo:=t.lo;have hkb:∀k,Bu w b k->Bu ws b k:=fun k hk=>(t.m.u k hk).elim id fun e=>(by cases e.1)
 have NH:=hO.block b hB (by omega);obtain⟨q,sl,hq,hBl,hbf⟩:=t.ex;refine⟨⟨⟨hO.os.trans t.o.os,hO.tape.trans t.o.tape,hO.output.trans t.o.output,bh t.o.size hO.size,fun k hk _=>(hO.block k (cx hk t.o.size) (by omega)).trans (t.o.block k hk (by simp))⟩,hlo,⟨q,sl,hq,NH.trans hBl,hbf.keep fun g hg hl=>hO.block g hl fun e=>(by have:=hu g (hkb g (F1 hBl hg));omega)⟩,t.i,t.big⟩,⟨t.m.o.trans hO fun k hk=>.inr hk,fun k hk=>.inl (hkb k (u9 NH hk))⟩,fun k hk=>?_⟩;obtain⟨h1,h2,h3⟩:=t.k k hk;exact⟨cx h1 hO.size,h2,fun h=>h3 (u9 NH h)⟩
theorem bS.of{ks:List Nat}(h:ci ks w w'):bS (fun k=>k∈ks) w w':=fun k hk _=>h k hk
theorem rY{w2:ay}(h1:aA [] w w1)(h2:aF (fun k=>w.heap.size<=k) w1 w2):aA [] w w2:=(h1.pd h2).only fun _ h=>h
end
theorem PW(w:ay)(ws:List (aJ)){n:Nat}{parts:Array (Nat×az)}(hp:parts=(((ws.map fun x=>Value.string (T x)).zipIdx 0).map fun x=>(x.2,x.1)).toArray)(hn:ws.length=n)(h0:0<n)(A4:n*1<=16777216):
  ∃(q:Sl) (w1:ay) (g:Nat) (cs:aK),(aw 31 n parts).run au w=.ok q.v w1/\aA [] w w1/\w.heap.size<=g/\g<w1.heap.size/\aH w1 g 9 cs/\
   ∀(i:Nat) x,ws[i]? =some x->dL q (i:Int) 1 ⟨g,i,none⟩/\∀w',aH w' g 9 cs->aE w' ⟨g,i,none⟩ [ah (T x)]:=by
 obtain⟨q,w1,k1,k2,k3⟩:=nP w ws hp hn h0 A4;rcases k2 with⟨_,e⟩ | ⟨g,css,tail,a1,a2,a4,a5,a6,a7,a9,a8⟩
 ·subst e;simp at hn;omega
 ·have LB:=H3 a8;refine⟨q,w1,g,_,k1,k3,a2,a4.lt,a4,fun i x hx=>⟨⟨⟨g,0,none⟩,a1,bE i,?_,?_⟩,fun w' hB=>Blk.ND hB i ?_⟩⟩
  ·have:=(aZ.1 hx).1;omega
  ·rw[fV,aX,jP,bM]
  ·have:(ws.map fun x=>Value.string (T x))[i]? =some (ah (T x)):=by rw[bZ,hx];rfl
   rw[LB,bJ (aZ.1 this).1,this]
section
variable {w0 w:ay} {b:Nat} {l:aJ} {st:St}
theorem H6(b j:Nat):(Addr.add ⟨b,0,none⟩ j:Addr)=⟨b,j,none⟩:=by rw[fV,bM]
theorem Qz.set(h:Qz w0 b w l st):∃(q:Option Addr) (sl:Sl),aH w b 245 [ai q,sl.v,ao st.1,O ae st.2]/\
  ∀(w':ay) (cH:St),aA [b] w w'->aH w' b 245 [ai q,sl.v,ao cH.1,O ae cH.2]->(cH.1=false->0<=cH.2/\cH.2<=400)->Qz w0 b w' l cH/\Mw true b w w':=by
 obtain⟨q,sl,hq,hB,hb⟩:=h.ex;refine⟨q,sl,hB,fun w1 Ey cF vJ hi=>⟨⟨⟨cF.os.trans h.o.os,cF.tape.trans h.o.tape,cF.output.trans h.o.output,bh h.o.size cF.size,fun k hk _=>(cF.block k (cx hk h.o.size) (by have:=h.lo;simp;omega)).trans (h.o.block k hk (by simp))⟩,h.lo,⟨q,sl,hq,vJ,hb.keep fun g hg hl=>cF.block g hl (by have:=(hb.lt hg).1;simp;omega)⟩,hi,h.big⟩,?_⟩⟩;exact⟨cF.p fun x hx=>.inl (.inl (by simpa using hx)),fun k hk=>.inl (F1 hB (KA vJ hk))⟩
theorem Qz.Zb(h:Qz w0 b w l st):Up st true 0 st:=by
 refine⟨?_,fun _=>by simp⟩;cases e:st.1
 ·have:=(h.i e).2;have h2:¬400<st.2+((0:Nat):Int):=by omega
  rw[bG h2];rfl
 ·rfl
theorem KB{q:Option Addr}{sl:Sl}{wr:Bool}{ac:Int}(hB:aH w b 245 [ai q,sl.v,ao wr,O ae ac])(ok:Bool):aB au 169 #[rp b,ao ok] w fun e w'=>
  e=aq (ak #[])/\aA [b] w w'/\aH w' b 245 [ai q,sl.v,ao (wr||!ok),O ae ac]:=by
 refine ret (adi _ _ _ _ ?_);exact⟨wr,Blk.dZ hB 2 rfl,b,2,_,_,H6 b 2,hB,by simp,fun w1 cF vJ=>⟨rfl,cF,vJ⟩⟩
theorem jG(h:Qz w0 b w l st)(ok:Bool):aB au 169 #[rp b,ao ok] w fun e w'=>e=aq (ak #[])/\∃cH,Up st ok 0 cH/\Qz w0 b w' l cH/\Mw true b w w':=by
 obtain⟨q,sl,hB,xQ⟩:=h.set;refine(KB hB ok).mono ?_;rintro _ w1 ⟨rfl,cF,vJ⟩;have hu:Up st ok 0 (st.1||!ok,st.2):=by
  refine⟨?_,fun e=>by simp⟩;cases e:st.1
  ·have:=(h.i e).2;have h2:¬400<st.2+((0:Nat):Int):=by omega
   rw[bG h2,Bool.or_false]
  ·simp
 exact⟨rfl,_,hu,xQ w1 _ cF vJ fun e=>hu.le (fun e=>(h.i e).1) e⟩
theorem lZ(h:Qz w0 b w l st)(s:aJ)(hs:s.length<9223372036854775807):aB au 171 #[rp b,ah (T s)] w fun e w'=>e=aq (ah (T s))/\∃cH,Up st (eK s) 0 cH/\Qz w0 b w' l cH/\Mw true b w w':=by
 refine ret (adj _ _ _ _ ?_);refine(Pm s hs).mono ?_;rintro _ w1 ⟨rfl,cF⟩;refine⟨_,rfl,(jG (h.only cF) _).mono ?_⟩;rintro _ w2 ⟨rfl,cH,h1,h2,h3⟩;exact⟨rfl,rfl,cH,h1,h2,(Mw.only h.lb cF).trans h3⟩
theorem KC(h:Qz w0 b w l st){F:aL}{x:Ex}{cs:aK}(hx:rE false w F x cs)(hn:X7 x)(hs:Du x<=1759218604441)(hE:Er w0)(hT:Tb w0):
  aB au 233 #[rp b,aj cs.toArray] w fun e w'=>e=aq (ah (T (BG x)))/\∃cH,Up st (zE x) 0 cH/\Qz w0 b w' l cH/\Mw true b w w':=by
 obtain⟨xs,rfl⟩:=iW hx;refine ret (adp _ _ _ _ _ _ _ _ _ ?_);intro k0 w1 gU fi cF;have t1:=(h.z true).al cF gU fi;refine(TS ((iV false).keep hx fun k _ bX=>cF.block k bX (by simp)) hn hs (hE.only t1.o) (hT.only t1.o)).mono ?_;rintro _ w2 ⟨rfl,dh⟩;have t2:=t1.q dh;refine⟨_,rfl,t1.sq dh (by simp),(jG t2.toQz _).mono ?_⟩;rintro _ w3 ⟨rfl,cH,h1,h2,h3⟩;rw[show ar #[]=T []from rfl,mf]at h1;have e:(!decide (BG x=[]))=zE x:=by unfold zE;rw[decide_not]
 rw[e]at h1;exact⟨rfl,t2.sm h3 (by simp),rfl,cH,h1,h2,(t2.nx h2 h3).m⟩
theorem KD(h:Qz w0 b w l st){F:aL}{x:Ex}{cs:aK}(hx:rE false w F x cs):
  aB au 234 #[rp b,aj cs.toArray] w fun e w'=>e=aq (ak #[])/\∃cH,Up st (xb x) 0 cH/\Qz w0 b w' l cH/\Mw true b w w':=by
 have fu:∃xs:Sl,cs=qU x.k x.n x.s x.op xs x.a/\xs.n=x.fW.length:=by
  obtain⟨d,hx⟩:=hx;cases d with
  | zero=>exact hx.elim
  | succ d=>
   obtain⟨sl,h1,h2,_⟩:=hx;exact⟨sl,h1,h2.len⟩
 obtain⟨xs,rfl,hl⟩:=fu;refine ret (ai6 _ _ _ _ _ _ _ _ _ ?_);intro k0 w1 gU fi cF;have t1:=(h.z true).al cF gU fi;refine(jG t1.toQz _).mono ?_;rintro _ w3 ⟨rfl,cH,h1,h2,h3⟩;rw[show ar #[]=T []from rfl,mf,hl]at h1;exact⟨rfl,t1.sm h3 (by simp),rfl,cH,h1,h2,(t1.nx h2 h3).m⟩
theorem KE(h:Qz w0 b w l st):aB au 174 #[rp b] w fun e w'=>e=aq (ao (decide (16384<l.length)))/\w'=w:=by
 refine ret (adm _ _ _ ?_);obtain⟨q,sl,hq,hB,hb⟩:=h.ex;refine(VP _ (fun v w'=>v=O ae (l.length:Int)/\w'=w) w ?_).mono ?_
 ·rw[H6];exact⟨sl,Blk.dZ hB 1 rfl,by rw[hb.len],rfl⟩
 ·rintro _ w1 ⟨v,rfl,rfl,rfl⟩;refine⟨_,rfl,?_,rfl⟩;congr 1;rw[bT];simp;omega
end
def PX(a:Ac):Nat:=Du a.x+(a.n.length+1)
def jU:List Ac->Nat
 | []=>0
 | a::l=>PX a+jU l
theorem F2{a:Ac}:∀{l:List Ac},a∈l->PX a<=jU l
 | [],h=>by simp at h
 | x::l,h=>by
  rw[jU];rcases aR.1 h with rfl | h
  ·omega
  ·have:=F2 h;omega
theorem nU:∀(l:List Ac),l.length<=jU l
 | []=>bA _
 | a::l=>by
  have:=nU l;rw[jU,bp];unfold PX;omega
def F3(l:List (aJ)):Nat:=(l.map fun s=>s.length+1).sum
def MD(m:Mv):Nat:=(jU m.acts+Du m.g)+(F3 m.tg+(m.ev.length+1))
theorem KF(x:Ex):(BG x).length<=16384:=by
 by_cases h:BG x=[]
 ·rw[h];exact bA _
 ·obtain⟨h1,h2,h3⟩:=PH h;refine cq fun hc=>?_;have e:BG x=uw (Eu x) x false []:=h2;rw[<-e]at h3;unfold oI at h3;have:dq (BG x)=([],2, -1):=by rw[dq,if_pos (by omega)]
  rw[this,if_pos (by decide)]at h3;exact absurd h3 (show ¬(2:Int)=0 by decide)
theorem qK{s:aJ}(h:eK s=true):ne s=true:=by
 unfold eK at h;simp only[aQ]at h;have:=(aP h.1.1.1).1;unfold ne;rw[bG this];rfl
theorem adQ{x:Ex}(h:zE x=true):ne (BG x)=true:=by
 unfold ne;rw[bG (aP h)];rfl
theorem oP{x:aJ}(h:ne x=true)(ws:List (aJ)):fN (x::ws)=x++Lib.joinTail [32] (ws.filter ne):=by
 unfold fN;rw[qs,h,if_pos rfl,Lib.join_cons]
theorem fG(x:aJ)(r:List (aJ)):Lib.joinTail [32] (x::r)=32::(x++Lib.joinTail [32] r):=by
 unfold Lib.joinTail;rw[bF,dj];rfl
theorem lH:Lib.joinTail [32] []=[]:=rfl
theorem fH{x:aJ}(h:ne x=true)(ws:List (aJ)):(x::ws).filter ne=x::ws.filter ne:=by rw[qs,h,if_pos rfl]
theorem PY(ws:List (aJ)):([]::ws).filter ne=ws.filter ne:=by rw[qs,if_neg (by decide)]
def Sm(a:Ac):List (aJ):=if a.k=2 then[kK,a.n]else[if a.k=1 then tw else mV,a.n,[61],BG a.x]
theorem V9{a:Ac}(h:mF a=true):fN (Sm a)++[59]=Nv a:=by
 unfold mF at h;simp only[aQ]at h;obtain⟨⟨h1,h2⟩,h3⟩:=h;unfold Sm Nv;by_cases hk:a.k=2
 ·rw[if_pos hk,if_pos hk,oP (by decide),fH (qK h2),eG,fG,lH];simp
 ·rw[if_neg hk]at h3;have hw:ne (if a.k=1 then tw else mV)=true:=by split<;>decide
  rw[if_neg hk,if_neg hk,oP hw,fH (qK h2),fH (by decide),fH (adQ h3),eG,fG,fG,fG,lH];simp
theorem T0(a:Ac):(fN (Sm a)).length<=16398+a.n.length:=by
 refine bh (iG _) ?_;have:=KF a.x;unfold Sm;split
 ·simp only[bF,fM,cy,ix];show 5+1+(a.n.length+1+0)<=_;omega
 ·simp only[bF,fM,cy,ix];have:(if a.k=1 then tw else mV).length<=4:=by split<;>decide
  show _+1+(a.n.length+1+(1+1+(_+1+0)))<=_;omega
section
variable {w0 w:ay} {b:Nat} {l:aJ} {st:St}
theorem adR(h:Qz w0 b w l st){F:aL}{a:Ac}{cs:aK}(hx:tN false w F a cs)(hF:∀k,F k->k<w0.heap.size)(hn:V4 a)(hs:PX a<=1759218604441)(hE:Er w0)(hT:Tb w0):
  aB au 232 #[rp b,aj cs.toArray] w fun e w'=>∃s cH,e=aq (ah (T s))/\s.length<=16400+a.n.length/\(mF a=true->s=Nv a)/\Up st (mF a) 0 cH/\Qz w0 b w' l cH/\Mw true b w w':=by
 obtain⟨xc,rfl,hx⟩:=hx;obtain⟨xs,rfl⟩:=iW hx;unfold PX at hs;refine(ai5 ⟨b,0,none⟩ a.k (T a.n) a.x.k a.x.n (T a.x.s) a.x.op xs a.x.a a.a (fun v w'=>∃s cH,v=ah (T s)/\s.length<=16400+a.n.length/\(mF a=true->s=Nv a)/\Up st (mF a) 0 cH/\Qz w0 b w' l cH/\Mw true b w w') w ?_).mono (by
  rintro e w' ⟨v,rfl,s,cH,rfl,h⟩;exact⟨s,cH,rfl,h⟩)
 intro k0 w1 gU fi cF;have t1:=(h.z true).al cF gU fi;obtain⟨q,w2,g,cs,e1,dh,hg1,hg2,re,Zk⟩:=PW w1 [[],tw,kK,mV] (n:=4) (parts:=#[.mk 0 (ah (ar #[])),.mk 1 (ah (ar #[115,101,116])),.mk 2 (ah (ar #[114,97,105,115,101])),.mk 3 (ah (ar #[101,109,105,116]))]) rfl rfl (by decide) (by decide);have t2:=t1.al dh hg1 hg2;have tail:=T0 a;refine⟨q,w2,e1,t1.sq dh (by simp),fun hc=>?_,fun hc=>?_⟩
 ·refine(jG t2.toQz false).mono ?_;rintro _ w3 ⟨rfl,cH,u1,u2,u3⟩;have hk:mF a=false:=by
   unfold mF;have:¬(1<=a.k/\a.k<=3):=by
    simp only[cp,bL]at hc;omega
   rw[bG this];rfl
  exact⟨rfl,t2.sm u3 (by simp),[],cH,rfl,bA _,fun e=>(by rw[hk]at e;cases e),by rw[hk];exact u1,u2,(t2.nx u2 u3).m⟩
 have LO:1<=a.k/\a.k<=3:=by
  simp only[gP,dF]at hc;omega
 have hwd:∀x,[[],tw,kK,mV][a.k.toNat]? =some x->dL q a.k 1 ⟨g,a.k.toNat,none⟩/\∀w',aH w' g 9 cs->aE w' ⟨g,a.k.toNat,none⟩ [ah (T x)]:=fun x hx=>by
  have:=Zk _ x hx;rwa[iq (by omega)]at this
 refine⟨fun pu=>?_,fun pu w8 gn=>?_⟩
 ·have hk:a.k=2:=by simpa using pu
  have hW:Sm a=[kK,a.n]:=by unfold Sm;rw[if_pos hk]
  refine(KD t2.toQz ((iV false).keep hx fun k hk _=>h.arg t2.toQz (hF k hk))).mono ?_;rintro _ w3 ⟨rfl,QV,u1,u2,u3⟩;have t3:=t2.nx u2 u3;refine⟨rfl,t2.sm u3 (by simp),fun w4 dP=>⟨fun k=>k∈[k0,g],by simp,?_⟩⟩;have t4:=t3.q dP;obtain⟨y1,y2⟩:=hwd kK (by rw[hk];rfl);have vG:aH w4 g 9 cs:=(t3.sq (ks':=[g]) dP (by simp) g (by simp)).trans ((t2.sm (ks':=[g]) u3 (by simp) g (by simp)).trans re);refine⟨_,y1,by simp,_,y2 w4 vG,(lZ t4.toQz a.n (by omega)).mono ?_⟩;rintro _ w5 ⟨rfl,Vb,v1,v2,v3⟩;have t5:=t4.nx v2 v3;obtain⟨q6,w6,e6,ez,_,hj⟩:=BL w5 [kK,a.n] (n:=2) (parts:=#[.mk 0 (ah (T kK)),.mk 1 (ah (T a.n))]) rfl rfl (by decide) (by decide) (by rw[<-hW];omega);have z6:=ez.size;refine⟨_,rfl,t4.sm v3 (by simp),bS.of (t4.sm v3 (by simp)),q6,w6,e6,t5.sq ez (by simp),bS.of (t5.sq ez (by simp)),hj.mono ?_⟩;rintro _ w7 ⟨rfl,hP7⟩;have fI:=rY ez hP7;have t7:=t5.q fI;have hU:=u1.tr v1;have nE:mF a=(xb a.x&&eK a.n):=by
   unfold mF;rw[if_pos hk,bK LO,cY,Bool.and_comm]
  rw[<-nE]at hU;rw[<-hW];refine⟨_,rfl,t5.sj z6 hP7 (by simp),bS.of (t5.sj z6 hP7 (by simp)),by rw[dH];omega,fN (Sm a)++[59],Vb,by rw[show ar #[59]=T [59]from rfl,lf],by rw[aU,bP];omega,fun nE=>V9 nE,hU,t7.toQz,t7.m⟩
 ·have hk:a.k≠2:=by simpa using pu
  have hW:Sm a=[if a.k=1 then tw else mV,a.n,[61],BG a.x]:=by unfold Sm;rw[if_neg hk]
  have t8:=t2.q gn;obtain⟨y1,y2⟩:=hwd (if a.k=1 then tw else mV) (by
   by_cases h1:a.k=1
   ·rw[if_pos h1,h1];rfl
   ·rw[if_neg h1,show a.k=3 by omega];rfl)
  have uz:aH w8 g 9 cs:=(t2.sq (ks':=[g]) gn (by simp) g (by simp)).trans re;refine⟨fun k=>k∈[k0,g],by simp,_,y1,by simp,_,y2 w8 uz,by simp,(lZ t8.toQz a.n (by omega)).mono ?_⟩;rintro _ w9 ⟨rfl,st9,u1,u2,u3⟩;have t9:=t8.nx u2 u3;refine⟨_,rfl,t8.sm u3 (by simp),bS.of (t8.sm u3 (by simp)),(KC t9.toQz ((iV false).keep hx fun k hk _=>h.arg t9.toQz (hF k hk)) hn (by omega) hE hT).mono ?_⟩;rintro _ dI ⟨rfl,amn,v1,v2,v3⟩;have t10:=t9.nx v2 v3;obtain⟨q11,dJ,ZA,dT,_,hj⟩:=BL dI [if a.k=1 then tw else mV,a.n,[61],BG a.x] (n:=4) (parts:=#[.mk 0 (ah (T (if a.k=1 then tw else mV))),.mk 1 (ah (T a.n)),.mk 2 (ah (T [61])),.mk 3 (ah (T (BG a.x)))]) rfl rfl (by decide) (by decide) (by rw[<-hW];omega);have Co:=dT.size;refine⟨_,rfl,t9.sm v3 (by simp),bS.of (t9.sm v3 (by simp)),q11,dJ,ZA,t10.sq dT (by simp),bS.of (t10.sq dT (by simp)),hj.mono ?_⟩;rintro _ fg ⟨rfl,aao⟩;have fj:=rY dT aao;have t12:=t10.q fj;have hU:=u1.tr v1;have nE:mF a=(eK a.n&&zE a.x):=by
   unfold mF;rw[if_neg hk,bK LO,cY]
  rw[<-nE]at hU;rw[<-hW];refine⟨_,rfl,t10.sj Co aao (by simp),bS.of (t10.sj Co aao (by simp)),by rw[dH];omega,fN (Sm a)++[59],amn,by rw[show ar #[59]=T [59]from rfl,lf],by rw[aU,bP];omega,fun nE=>V9 nE,hU,t12.toQz,t12.m⟩
end
theorem Up.bad{st cH:St}{c c':Bool}{n n':Nat}(h:Up st c n cH)(e:cH.1=true)(hc:c'=true->c=true)(hn:n<=n'):Up st c' n' cH:=by
 refine⟨?_,fun e2=>by rw[e]at e2;cases e2⟩;rw[e];refine Eq.symm (cq fun hk=>?_);obtain⟨a1,a2,a3⟩:=or3 (fh.2 hk).symm;have a3:=aW a3;have:=h.w;rw[e,a1,hc a2,bG (show ¬400<st.2+(n:Int) by omega)]at this;cases this
theorem vd:∀(l m:List Ac),jU (l++m)=jU l+jU m
 | [],m=>by rw[cr];show _=0+_;omega
 | a::l,m=>by rw[ck,jU,jU,vd l m];omega
theorem Yn(a:Ac):ne (Nv a)=true:=by
 have:Nv a≠[]:=by unfold Nv;split<;>simp
 unfold ne;rw[bG this];rfl
theorem PZ:∀l:List Ac,Lib.joinTail [32] ((l.map Nv).filter ne)=TT l
 | []=>rfl
 | a::l=>by rw[bF,fH (Yn a),fG,PZ l,TT]
theorem Yo(x y:List (aJ)):Lib.joinTail [32] (x++y)=Lib.joinTail [32] x++Lib.joinTail [32] y:=by
 unfold Lib.joinTail;rw[da,En]
theorem adS(l:List Ac):fN ([123]::(l.map Nv++[[125]]))=E2 l:=by
 rw[oP (by decide),fm,Yo,PZ];rfl
theorem Wa{w:ay}{B:Nat}{s:Sl}{ws:List (aJ)}(h:Own kz 1 9 B w (fun _=>True) s ws)(x:aJ)(hB:B<=w.heap.size)(hm:ws.length<=1073741824):
  ∃y w1,(aw 31 1 #[.mk 0 (ah (T x))]).run au w=.ok (Sl.v y) w1/\aA [] w w1/\∃s' w2,(Builtin.append_ #[31,31] 31 #[Sl.v s,Sl.v y]).run au w1=.ok (Sl.v s') w2/\
   Own kz 1 9 B w2 (fun _=>True) s' (ws++[x])/\∃gs,aA gs w1 w2/\∀g,g∈gs->s.a=some ⟨g,0,none⟩/\B<=g:=by
 obtain⟨y,w1,e1,cF,s',w2,e2,mM,⟨gs,dh,rm⟩,_⟩:=jj (P:=au) (t:=31) (ty:=31) (e:=9) (i:=Tryz.t9) (bytes:=16) (size:=1) (v:=ah (T x)) (x:=x) (G:=fun _=>False) (by kernel_rfl) (by kernel_rfl) rfl rfl rfl rfl (by decide) (by decide) (by decide) dD h hB rfl rfl (fun k hk _=>hk.elim) (by omega);exact⟨y,w1,e1,cF,s',w2,e2,mM.mono dD fun k _=>trivial,gs,dh,fun g hg=>⟨(rm g hg).1,(rm g hg).2.1⟩⟩
theorem _root_.Go.Kt.Own.far{w w':ay}{B b:Nat}{s:Sl}{ws:List (aJ)}(h:Own kz 1 9 B w (fun _=>True) s ws)(hO:aA [b] w w')(hb:b<B):Own kz 1 9 B w' (fun _=>True) s ws:=by
 rcases h with⟨rfl,rfl⟩ | ⟨g,css,tail,h1,h2,h4,h5,h6,h7,h9,h8⟩
 ·exact .inl ⟨rfl,rfl⟩
 ·have e:∀{l:List (aJ)} {css:List (aK)},lm kz 1 w (fun k=>True/\k≠g) l css->lm kz 1 w' (fun k=>True/\k≠g) l css:=fun{l}=>by
   induction l with
   | nil=>intro css h;cases css with | nil=>trivial | cons _ _=>exact h
   | cons x l ih=>intro css h;cases css with | nil=>exact h | cons c css=>exact⟨h.1,ih h.2⟩
  exact .inr ⟨g,css,tail,h1,h2,hO.blk h4 (by simp;omega),h5,h6,h7,h9,e h8⟩
theorem P0{α:Type}{p:α->Bool}{xs:List α}{j:Nat}(h:xs.all p=true):(xs.take j).all p=true:=by
 rw[dS]at h⊢;exact fun x hx=>h x (List.mem_of_mem_take hx)
theorem F4(ws:List (aJ))(x:aJ):((ws++[x]).map fun l=>l.length+1).sum=(ws.map fun l=>l.length+1).sum+(x.length+1):=by
 rw[da,List.sum_append];simp
section
variable {w0 w:ay} {b:Nat} {l:aJ} {st:St}
theorem DE(h:Qz w0 b w l st){F:aL}{s:Sl}{xs:List Ac}(hx:aD (tN false) 9 w F s xs)(hF:∀k,F k->k<w0.heap.size)(hn:∀a,a∈xs->V4 a)(hs:jU xs<=16777216)(hE:Er w0)(hT:Tb w0):
  aB au 208 #[rp b,s.v] w fun e w'=>∃t cH,e=aq (ah (T t))/\t.length<=16405*jU xs/\(cH.1=false->t=if xs=[]then[]else E2 xs)/\Up st (xs.all mF) xs.length cH/\Qz w0 b w' l cH/\Mw true b w w':=by
 refine(ai4 ⟨b,0,none⟩ s (fun v w'=>∃t cH,v=ah (T t)/\t.length<=16405*jU xs/\(cH.1=false->t=if xs=[]then[]else E2 xs)/\Up st (xs.all mF) xs.length cH/\Qz w0 b w' l cH/\Mw true b w w') w ?_).mono (by
  rintro e w' ⟨v,rfl,s,cH,rfl,h⟩;exact⟨s,cH,rfl,h⟩)
 have fu:=hx.len;have hlz:=nU xs;refine⟨fun hc=>?_,fun hc=>?_⟩
 ·have hc:s.n=0:=by have:((s.n:Int))=0:=(by simpa using hc);omega
  have:xs=[]:=bO (by omega);subst this;exact⟨[],st,rfl,bA _,fun _=>(if_pos rfl).symm,h.Zb,h,Mw.refl _ _ _⟩
 have gz:xs≠[]:=fun e=>by
  subst e;have:s.n=0:=fu;rw[this]at hc;exact absurd hc (by decide)
 obtain⟨q,sl,hB,xQ⟩:=h.set;refine⟨st.2,Blk.dZ hB 3 rfl,b,3,_,_,H6 b 3,hB,by simp,fun w1 cF vJ=>⟨_,Blk.dZ vJ 3 rfl,(KB (q:=q) (sl:=sl) (wr:=st.1) (ac:=av ae (st.2+(s.n:Int))) vJ _).mono ?_⟩⟩;rintro _ w2 ⟨rfl,dh,re⟩;have hU1:Up st true xs.length (st.1||!decide (av ae (st.2+(s.n:Int))<=400),av ae (st.2+(s.n:Int))):=by
  cases e:st.1
  ·have:=h.i e;have ew:av ae (st.2+(s.n:Int))=st.2+xs.length:=by rw[fu];exact gD (by omega) (by omega)
   rw[ew];refine⟨?_,fun _=>rfl⟩;rw[e];by_cases h4:st.2+(xs.length:Int)<=400
   ·rw[bK h4,bG (by omega)];rfl
   ·rw[bG h4,bK (by omega)];rfl
  ·exact⟨by rw[e];rfl,fun e2=>by cases e2⟩
 obtain⟨h2,NK⟩:=xQ w2 _ (cF.trans dh fun x hx=>.inl hx) re fun e=>hU1.le (fun e=>(h.i e).1) e;generalize (st.1||!decide (av ae (st.2+(s.n:Int))<=400),av ae (st.2+(s.n:Int)))=Ey at*
 have b2:=h2.lb;have Zr:∀k,Bu w2 b k->k<w2.heap.size:=fun k hk=>(h2.bu hk).2;obtain⟨q3,w3,e3,dx,amo,_⟩:=BL w2 [[123]] (n:=1) (parts:=#[.mk 0 (ah (T [123]))]) rfl rfl (by decide) (by decide) (by decide);have t3:=(h2.z true).q dx;refine⟨rfl,q3,w3,e3,fun l1 w'=>∃ws cH,Own kz 1 9 w2.heap.size w' (fun _=>True) l1 ws/\ws.length<=16777217/\(ws.map fun l=>l.length+1).sum<=2+16401*jU xs/\(cH.1=false->ws=[123]::xs.map Nv)/\Up Ey (xs.all mF) 0 cH/\Zq true w0 w2 b w' l cH [],?_,?_⟩
 ·rintro l1 w4 ⟨ws,I1,aap,hwl,ZE,htx,hU4,t4⟩;have z4:=t4.m.o.size;obtain⟨y,w5,e5,eE,s6,w6,e6,amp,gs,ez,rm⟩:=Wa aap [125] z4 (by omega);refine⟨y,w5,e5,s6,w6,e6,?_⟩;have t6:=(t4.q eE).row b2 Zr (ez.p (F:=fun k=>w2.heap.size<=k) fun x hx=>.inl (rm x hx).2);have I2:=F4 ws [125];have ja:=iG (ws++[[125]]);have hl1:([125]:aJ).length=1:=rfl;refine(zK amp (by omega) (by rw[aU,bP];omega)).mono ?_;rintro _ w7 ⟨rfl,hP7⟩;have t7:=t6.row b2 Zr hP7;have hsz:1<=jU xs:=by
   have:1<=xs.length:=io.2 gz;omega
  refine⟨_,rfl,fN (ws++[[125]]),I1,rfl,by omega,fun e=>?_,(hU1.tr hU4).cg (by simp) (by simp),t7.toQz,NK.trans t7.m⟩;rw[if_neg gz,htx e];exact adS xs
 refine⟨fun nv l1 i w'=>∃(j:Nat) (ws:List (aJ)) (cH:St),i=j/\j<=xs.length/\nv=xs.length-j/\Own kz 1 9 w2.heap.size w' (fun _=>True) l1 ws/\ws.length<=j+1/\(ws.map fun l=>l.length+1).sum<=2+16401*jU (xs.take j)/\(cH.1=false->ws=[123]::(xs.take j).map Nv)/\Up Ey ((xs.take j).all mF) 0 cH/\Zq true w0 w2 b w' l cH [],
  xs.length,⟨0,[[123]],Ey,rfl,bA _,rfl,amo,aY _,aY _,fun _=>rfl,h2.Zb,t3⟩,?_⟩
 rintro nv l4 _ w7 ⟨j,ws,WT,rfl,hj,rfl,Vd,hwl,ZE,htx,LP,t7⟩;have z7:=t7.m.o.size;have Rh:jU xs=jU (xs.take j)+jU (xs.drop j):=by rw[<-vd,dv]
 refine⟨fun hc=>?_,fun hc=>?_⟩
 ·have bX:(j:Int)<s.n:=aP hc;have hx7:aD (tN false) 9 w7 F s xs:=SliceF.keep (dN false) hx (by decide) fun k hk _=>h.arg t7.toQz (hF k hk);obtain⟨ad,a,cs,g1,g2,g3,g4,g5,g6⟩:=hx7.get (bE j) bX;rw[aX]at g2;have ha:=bD g2;have og:xs.take (j+1)=xs.take j++[a]:=by
   rw[bI,g2];rfl
  have hsa:jU (xs.take (j+1))=jU (xs.take j)+PX a:=by
   rw[og,vd];show _+(PX a+0)=_;omega
  have ap7:jU xs=jU (xs.take (j+1))+jU (xs.drop (j+1)):=by rw[<-vd,dv]
  obtain⟨xc,rfl,hxc⟩:=g6;obtain⟨xl,rfl⟩:=iW hxc;refine⟨ad,g1,_,_,_,_,_,_,_,_,_,g5,fun k5 w8 Cp G3 gn=>?_⟩;have t8:=t7.al gn Cp G3;obtain⟨q8,sl8,uz,_⟩:=t8.toQz.set;refine⟨WT.1,Blk.dZ uz 2 rfl,fun hw=>?_,fun hw=>?_⟩
  ·have t8':Zq true w0 w2 b w8 l WT []:=⟨t8.toQz,t8.m,fun k hk=>(by cases hk)⟩
   have I0:=Vd.keep dD fun k hk bX=>gn.block k bX (by simp);exact⟨ws,WT,I0,by omega,by omega,fun e=>absurd (hw.symm.trans e) (by decide),LP.bad hw P0 (aY _),t8'⟩
  refine(adR t8.toQz ((dN false).keep ⟨_,rfl,hxc⟩ fun k _ bX=>gn.block k bX (by simp)) hF (hn a ha) (by have:=F2 ha;omega) hE hT).mono ?_;rintro _ w9 ⟨tx,st9,rfl,hl9,amq,WU,h9,hm9⟩;have t9:=t8.nx h9 hm9;have amr:∀g,l4.a=some ⟨g,0,none⟩->w2.heap.size<=g/\g<w7.heap.size:=fun g hg=>by
   rcases Vd with⟨rfl,_⟩ | ⟨g',css,tl,a1,a2,a4,_⟩
   ·cases hg
   ·rw[a1]at hg;injection hg with hg;injection hg with hg;subst hg;exact⟨a2,a4.lt⟩
  have ams:Own kz 1 9 w2.heap.size w9 (fun _=>True) l4 ws:=by
   have o1:=Vd.keep dD (w':=w8) fun k hk bX=>gn.block k bX (by simp);refine(o1.mono (G:=fun _=>True) dD fun _ _=>trivial).far hm9.aem b2
  obtain⟨y,dI,e10,eH,LH,dJ,ZA,RS,gs,dT,rm⟩:=Wa ams tx (bh z7 (bh gn.size hm9.o.size)) (by omega);have t10:=t9.q eH;have t11:=t10.row b2 Zr (dT.p (F:=fun k=>w2.heap.size<=k) fun x hx=>.inl (rm x hx).2);have LH:ci [k5] dI dJ:=dT.same fun x hx=>by
   have:=(t10.k x (by simpa using hx)).1;refine⟨this,fun hm=>?_⟩;have:=(amr x (rm x hm).1).2;simp only[aO]at hx;omega
  have I2:=F4 ws tx;refine⟨_,rfl,t8.sm hm9 (by simp),y,dI,e10,t9.sq eH (by simp),_,dJ,ZA,LH,xs.length-(j+1),by omega,j+1,ws++[tx],st9,by rw[gD (by omega) (by omega)];rfl,by omega,rfl,RS,by rw[aU,bP];omega,?_,fun e=>?_,(LP.tr WU).cg ?_ rfl,⟨t11.toQz,t11.m,fun k hk=>(by cases hk)⟩⟩
  ·rw[I2,hsa];have:16400+a.n.length+1<=16401*PX a:=by unfold PX;omega
   omega
  ·obtain⟨e1,e2,_⟩:=WU.ok e;rw[htx e1,amq e2,og,da];rfl
  ·rw[og,yC];simp
 ·have mz:¬(j:Int)<s.n:=aW hc;have qo:j=xs.length:=by omega
  subst qo;rw[bC (aY _)]at ZE htx LP;exact⟨ws,WT,Vd,by omega,ZE,htx,LP,t7⟩
end
theorem akl{w:ay}{F:aL}{s:Sl}{xs:List (aJ)}(h:aD kz 1 w F s xs)(sep:aJ)(hl:(Lib.join xs sep).length<=140737488355328)(hn:xs.length<=140737488355328):
  aB au 228 #[s.v,ah (T sep)] w fun e w'=>e=aq (ah (T (Lib.join xs sep)))/\aA [] w w':=by
 have fu:=h.len;have mJ:=h.cap;obtain⟨sa,sn,sc⟩:=s;dsimp only at fu mJ;subst fu;cases xs with
 | nil=>
  refine(Tryz.strings_Join_none sa sc (T sep) w).mono ?_;rintro _ w2 ⟨rfl,rfl⟩;exact⟨rfl,Only.refl _ _⟩
 | cons x xs=>
  obtain⟨base,cs,g1,g2,g3,g4,g5⟩:=h.at_ 0 x rfl;have g1:sa=some base:=g1;unfold kz at g5;subst g5 g1;have h0:=g4 0 _ rfl;have xz:base.spot=none:=by
   unfold World.cell? at h0;split at h0
   ·split at h0
    ·cases h0
    ·rename_i hs;have e:((base.add (0*1)).add 0).spot=base.spot:=rfl;rw[e]at hs;cases hb:base.spot with
     | none=>rfl
     | some v=>rw[hb]at hs;simp at hs
   ·cases h0
  obtain⟨bk,o,sp⟩:=base;dsimp only at xz;subst xz;have bX:bk<w.heap.size:=by
   have e:((Addr.add ⟨bk,o,none⟩ (0*1)).add 0:Addr)=⟨bk,o,none⟩:=by simp[Addr.add]
   rw[e]at h0;refine cq fun hn=>?_;unfold World.cell? at h0;rw[eW (by dsimp only;omega)]at h0;cases h0
  have:=Tryz.strings_Join bk o sc ((x::xs).map T) (T sep) w (fun j y hj=>by
   rw[bZ,fZ]at hj;obtain⟨z,hz,rfl⟩:=hj;obtain⟨base,cs,g1,g2,g3,g4,g5⟩:=h.at_ j z hz;unfold kz at g5;subst g5;cases g1;have:=g4 0 _ rfl;have e:((Addr.add ⟨bk,o,none⟩ (j*1)).add 0:Addr)=⟨bk,o+j,none⟩:=by simp[Addr.add]
   rw[e]at this;exact this) bX (by rw[bq];omega) (by rw[bq];omega) (by
   rw[iw];have:((fun x:aM=>x.data.toList)∘T)=id:=rfl;rw[this,Ns];exact hl)
  rw[bq]at this;refine this.mono ?_;rintro _ w2 ⟨rfl,hB⟩;refine⟨?_,Only.below hB⟩;rw[iw];have:((fun x:aM=>x.data.toList)∘T)=id:=rfl;rw[this,Ns]
theorem KG:∀l:List (aJ),Lib.joinTail [44,32] l=X8 l
 | []=>rfl
 | s::l=>by
  unfold Lib.joinTail;rw[bF,dj];show[44,32]++s++Lib.joinTail [44,32] l=_;rw[KG l];rfl
theorem KH(s:aJ)(l:List (aJ)):(Lib.join (s::l) [44,32]).length<=2*F3 (s::l):=by
 have h1:∀l:List (aJ),(X8 l).length<=2*F3 l:=fun l=>by
  induction l with
  | nil=>exact bA _
  | cons s l ih=>
   unfold F3 at ih⊢;rw[bF,cy,X8,bp,bp,aU];omega
 rw[Lib.join_cons,KG,aU];have:=h1 l;have e:F3 (s::l)=(s.length+1)+F3 l:=by unfold F3;rw[bF,cy]
 omega
theorem DF(l:List (aJ)):l.length<=F3 l:=by
 unfold F3
 induction l with
 | nil=>exact bA _
 | cons s l ih=>rw[bF,cy,bp];omega
theorem T1{s:aJ}{l:List (aJ)}(h:s∈l):s.length+1<=F3 l:=by
 unfold F3
 induction l with
 | nil=>simp at h
 | cons x l ih=>
  rw[bF,cy];rcases aR.1 h with rfl | h
  ·omega
  ·have:=ih h;omega
def Wb(m:Mv):aJ:=if m.k=1 then fN [HU,m.ev]else if m.k=3 then fN [kj,Lib.itoa m.wt]else kb
def Yp(m:Mv):aJ:=if m.gd then 91::(BG m.g++[93])else[]
def Ny(m:Mv):aJ:=match m.tg with
 | []=>[]
 | s::l=>45::62::32::(s++X8 l)
theorem F5{n:Int}(h:ry n):(Lib.itoa n).length<=21:=Lib.itoa_length_le n h.1 h.2
theorem T2(n:Int):ne (Lib.itoa n)=true:=by
 have:Lib.itoa n≠[]:=by
  unfold Lib.itoa;split
  ·simp
  ·rw[Lib.decDigits];split<;>simp
 unfold ne;rw[bG this];rfl
theorem P1{m:Mv}(h:zF m=true):fN [Wb m,Yp m,(if m.acts=[]then[]else E2 m.acts),Ny m]++[59]=Si m:=by
 unfold zF at h;simp only[aQ]at h;obtain⟨⟨⟨⟨⟨h1,h2⟩,h3⟩,h4⟩,h5⟩,h6⟩:=h;have hh:Wb m=hdT m/\ne (Wb m)=true:=by
  unfold Wb hdT;by_cases k1:m.k=1
  ·rw[if_pos k1]at h2;rw[if_pos k1,if_pos k1,oP (by decide),fH (qK h2),eG,fG,lH,bR];exact⟨rfl,rfl⟩
  ·rw[if_neg k1,if_neg k1];by_cases k3:m.k=3
   ·rw[if_pos k3,if_pos k3,oP (by decide),fH (T2 _),eG,fG,lH,bR];exact⟨rfl,rfl⟩
   ·rw[if_neg k3,if_neg k3];exact⟨rfl,by decide⟩
 rw[oP hh.2,hh.1];unfold Si;rw[bQ];congr 1;have e1:Lib.joinTail [32] ([Yp m,(if m.acts=[]then[]else E2 m.acts),Ny m].filter ne)=gdT m++((if m.acts=[]then[]else 32::E2 m.acts)++(match m.tg with
  | []=>[]
  | s::l=>32::45::62::32::(s++X8 l))):=by
  have eg:∀ws:List (aJ),Lib.joinTail [32] ((Yp m::ws).filter ne)=gdT m++Lib.joinTail [32] (ws.filter ne):=fun ws=>by
   unfold Yp gdT;cases m.gd
   ·simp only[jY,jI];rw[PY];rfl
   ·simp only[if_true];rw[fH (by rfl),fG];rfl
  have ea:∀ws:List (aJ),Lib.joinTail [32] (((if m.acts=[]then[]else E2 m.acts)::ws).filter ne)=(if m.acts=[]then[]else 32::E2 m.acts)++Lib.joinTail [32] (ws.filter ne):=fun ws=>by
   by_cases ha:m.acts=[]
   ·rw[if_pos ha,if_pos ha,PY];rfl
   ·rw[if_neg ha,if_neg ha,fH (by rfl),fG];rfl
  rw[eg,ea];congr 2;unfold Ny;cases m.tg with
  | nil=>rfl
  | cons s l=>
   rw[fH (by rfl),fG,eG,lH,bR]
 rw[e1];simp only[bQ]
 all_goals rfl
theorem mvB(m:Mv):((((if m.k=1 then eK m.ev else if m.k=3 then decide (0<=m.wt)else decide (m.k=2))&&((decide (m.ev=[])||(m.k==1))&&((m.wt==0)||(m.k==3))))&&(if m.gd then zE m.g else xb m.g))&&(m.tg.all eK&&m.acts.all mF))=zF m:=by
 unfold zF;generalize (if m.gd then zE m.g else xb m.g)=A;generalize m.tg.all eK=B;generalize m.acts.all mF=C;generalize eK m.ev=D;by_cases k1:m.k=1
 ·rw[if_pos k1,if_pos k1,k1];cases D<;>cases A<;>cases B<;>cases C<;>by_cases hw:m.wt=0<;>simp[hw]
 ·rw[if_neg k1,if_neg k1];by_cases k3:m.k=3
  ·rw[if_pos k3,k3];cases A<;>cases B<;>cases C<;>by_cases he:m.ev=[]<;>by_cases hw:m.wt=0<;>by_cases hp:0<m.wt<;>simp[hw,he,hp]<;>omega
  ·rw[if_neg k3];by_cases k2:m.k=2
   ·rw[k2];cases A<;>cases B<;>cases C<;>by_cases he:m.ev=[]<;>by_cases hw:m.wt=0<;>simp[hw,he]
   ·have:¬(1<=m.k/\m.k<=3):=by omega
    rw[bG this,bG k2];simp
section
variable {w0 w:ay} {b:Nat} {l:aJ} {st:St}
theorem Yq(h:Qz w0 b w l st){F:aL}{m:Mv}{cs:aK}(hx:Kf false w F m cs)(hF:∀k,F k->k<w0.heap.size)(hn:mvN m)(hs:MD m<=16777216)(hE:Er w0)(hT:Tb w0):
  aB au 209 #[rp b,aj cs.toArray] w fun e w'=>∃t cH,e=aq (ah (T t))/\t.length<=16450*MD m/\(cH.1=false->t=Si m)/\Up st (zF m) m.acts.length cH/\Qz w0 b w' l cH/\Mw true b w w':=by
 obtain⟨gc,tG,tg,rfl,hg,RL,rq⟩:=hx;obtain⟨gl,rfl⟩:=iW hg;have RL:=RL.1;have rq:=rq.1;have hsz:=hs;unfold MD at hsz;refine(adt ⟨b,0,none⟩ m.k (T m.ev) m.wt m.gd m.g.k m.g.n (T m.g.s) m.g.op gl m.g.a tG tg m.a (fun v w'=>∃t cH,v=ah (T t)/\t.length<=16450*MD m/\(cH.1=false->t=Si m)/\Up st (zF m) m.acts.length cH/\Qz w0 b w' l cH/\Mw true b w w') w ?_).mono (by
  rintro e w' ⟨v,rfl,s,cH,rfl,h⟩;exact⟨s,cH,rfl,h⟩)
 intro k0 w1 gU fi cF;have t1:=(h.z true).al cF gU fi;have yw:=rq.len;have SI:=DF m.tg;refine⟨fun s0 w'=>∃hd cH,s0=T hd/\hd.length<=30+m.ev.length/\(cH.1=false->hd=Wb m)/\Up st (if m.k=1 then eK m.ev else if m.k=3 then decide (0<=m.wt)else decide (m.k=2)) 0 cH/\Zq true w0 w b w' l cH [k0],?_,fun hc=>?_,fun hc=>⟨fun I3=>?_,fun I3=>?_⟩⟩
 ·rintro _ w2 ⟨hd,ul,rfl,xP,hdt,hU2,t2⟩;refine(jG t2.toQz _).mono ?_;rintro _ w3 ⟨rfl,QV,u1,u2,u3⟩;have t3:=t2.nx u2 u3;have hU3:=hU2.tr u1;rw[show ar #[]=T []from rfl,mf]at hU3;refine⟨rfl,t2.sm u3 (by simp),fun s1 w'=>∃gt cH,s1=T gt/\gt.length<=16386/\(cH.1=false->gt=Yp m)/\Up QV (if m.gd then zE m.g else xb m.g) 0 cH/\Zq true w0 w b w' l cH [k0],?_,fun Nh=>?_,fun Nh=>?_⟩
  ·rintro _ w4 ⟨gt,I1,rfl,gtl,gtt,hU4,t4⟩;refine⟨fun nv i w'=>∃(j:Nat) (cH:St),i=j/\j<=m.tg.length/\nv=m.tg.length-j/\Up I1 ((m.tg.take j).all eK) 0 cH/\Zq true w0 w b w' l cH [k0],m.tg.length,⟨0,I1,rfl,bA _,rfl,t4.toQz.Zb,t4⟩,?_⟩;rintro nv _ w5 ⟨j,Vb,rfl,hj,rfl,hU5,t5⟩;have Ve:aD kz 1 w5 F tg m.tg:=SliceF.keep dD rq (by decide) fun k hk _=>h.arg t5.toQz (hF k hk);refine⟨fun hc=>?_,fun hc=>?_⟩
   ·have bX:(j:Int)<tg.n:=aP hc;obtain⟨ad,x,cs,g1,g2,g3,g4,g5,g6⟩:=Ve.get (bE j) bX;rw[aX]at g2;unfold kz at g6;subst g6;have hxm:=T1 (bD g2);refine⟨ad,g1,_,g5,(lZ t5.toQz x (by omega)).mono ?_⟩;rintro _ w6 ⟨rfl,st6,v1,v2,v3⟩;refine⟨_,rfl,t5.sm v3 (by simp),m.tg.length-(j+1),by omega,j+1,st6,by rw[gD (by omega) (by omega)];rfl,by omega,rfl,(hU5.tr v1).cg ?_ rfl,t5.nx v2 v3⟩;rw[bI,g2,yC];simp
   ·have mz:¬(j:Int)<tg.n:=aW hc;have qo:j=m.tg.length:=by omega
    subst qo;rw[bC (aY _)]at hU5;refine⟨fun s4 w'=>s4=T (Ny m)/\Zq true w0 w b w' l Vb [k0],?_,fun hc=>?_,fun hc=>?_⟩
    ·rintro _ w7 ⟨rfl,t7⟩;refine(DE t7.toQz (SliceF.keep (dN false) RL (by decide) fun k hk _=>h.arg t7.toQz (hF k hk)) hF hn.a (by omega) hE hT).mono ?_;rintro _ w8 ⟨bt,st8,rfl,btl,btt,hU8,v2,v3⟩;have t8:=t7.nx v2 v3;have atl:(Ny m).length<=3+2*F3 m.tg:=by
      unfold Ny;cases hm:m.tg with
      | nil=>exact bA _
      | cons s l=>
       have:=KH s l;rw[Lib.join_cons,KG]at this;rw[bp,bp,bp];omega
     have ja:=iG [hd,gt,bt,Ny m];simp only[bF,fM,cy,ix]at ja;have LC:MD m=(jU m.acts+Du m.g)+(F3 m.tg+(m.ev.length+1)):=rfl;obtain⟨q9,w9,e9,gv,_,hj9⟩:=BL w8 [hd,gt,bt,Ny m] (n:=4) (parts:=#[.mk 0 (ah (T hd)),.mk 1 (ah (T gt)),.mk 2 (ah (T bt)),.mk 3 (ah (T (Ny m)))]) rfl rfl (by decide) (by decide) (by omega);have z9:=gv.size;refine⟨_,rfl,t7.sm v3 (by simp),q9,w9,e9,t8.sq gv (by simp),hj9.mono ?_⟩;rintro _ dI ⟨rfl,Eh⟩;have t10:=t8.q (rY gv Eh);have hU:=(hU3.tr hU4).tr (hU5.tr hU8);refine⟨_,rfl,t8.sj z9 Eh (by simp),by rw[dH];omega,fN [hd,gt,bt,Ny m]++[59],st8,by rw[show ar #[59]=T [59]from rfl,lf],by rw[aU,bP];omega,fun e=>?_,hU.cg ?_ (by omega),t10.toQz,t10.m⟩
     ·obtain⟨x5,x8,_⟩:=hU8.ok e;obtain⟨x4,x5',_⟩:=hU5.ok x5;obtain⟨x3,x4',_⟩:=hU4.ok x4;obtain⟨x2,x3',_⟩:=u1.ok x3;obtain⟨x1,x2',_⟩:=hU2.ok x2;rw[hdt x2,gtt x4,btt e];refine P1 ?_;obtain⟨_,y,_⟩:=hU.ok e;exact(mvB m).symm.trans y
     ·exact mvB m
    ·have tD:m.tg≠[]:=fun e=>by
      rw[e]at yw;have:tg.n=0:=yw;rw[this]at hc;exact absurd hc (by decide)
     have ja:(Lib.join m.tg [44,32]).length<=2*F3 m.tg:=by
      cases hm:m.tg with
      | nil=>exact absurd hm tD
      | cons s l=>exact KH s l
     refine(akl Ve [44,32] (by omega) (by omega)).mono ?_;rintro _ w7 ⟨rfl,fI⟩;refine⟨_,rfl,t5.sq fI (by simp),by rw[dH];omega,?_,t5.q fI⟩;rw[show ar #[45,62,32]=T [45,62,32]from rfl,lf];congr 1;unfold Ny;cases hm:m.tg with
     | nil=>exact absurd hm tD
     | cons s l=>
      rw[Lib.join_cons,KG];rfl
    ·have hz:m.tg=[]:=bO (by have:=aW hc;omega);refine⟨?_,t5⟩;unfold Ny;rw[hz]
  ·refine(KC t3.toQz ((iV false).keep hg fun k hk _=>h.arg t3.toQz (hF k hk)) hn.g (by omega) hE hT).mono ?_;rintro _ w4 ⟨rfl,I1,v1,v2,v3⟩;have t4:=t3.nx v2 v3;have:=KF m.g;refine⟨_,rfl,t3.sm v3 (by simp),by rw[dH];omega,?_,91::(BG m.g++[93]),I1,?_,by simp;omega,fun _=>by unfold Yp;rw[if_pos Nh],by rw[if_pos Nh];exact v1,t4⟩
   ·rw[show ar #[91]=T [91]from rfl,lf,dH,aU,bP];omega
   ·rw[show ar #[91]=T [91]from rfl,show ar #[93]=T [93]from rfl,lf,lf];rfl
  ·refine(KD t3.toQz ((iV false).keep hg fun k hk _=>h.arg t3.toQz (hF k hk))).mono ?_;rintro _ w4 ⟨rfl,I1,v1,v2,v3⟩;exact⟨rfl,t3.sm v3 (by simp),[],I1,rfl,bA _,fun _=>by unfold Yp;rw[if_neg (by rw[Nh];decide)],by rw[if_neg (by rw[Nh];decide)];exact v1,t3.nx v2 v3⟩
 ·have hk:m.k=1:=by simpa using hc
  refine(lZ t1.toQz m.ev (by omega)).mono ?_;rintro _ w2 ⟨rfl,ul,v1,v2,v3⟩;have t2:=t1.nx v2 v3;have ja:=iG [HU,m.ev];simp only[bF,fM,cy,ix]at ja;have hw:HU.length=2:=rfl;obtain⟨q3,w3,e3,dx,_,Su⟩:=BL w2 [HU,m.ev] (n:=2) (parts:=#[.mk 0 (ah (T HU)),.mk 1 (ah (T m.ev))]) rfl rfl (by decide) (by decide) (by omega);have z3:=dx.size;refine⟨_,rfl,t1.sm v3 (by simp),q3,w3,e3,t2.sq dx (by simp),Su.mono ?_⟩;rintro _ w4 ⟨rfl,hP4⟩;exact⟨_,rfl,t2.sj z3 hP4 (by simp),_,ul,rfl,by omega,fun _=>by unfold Wb;rw[if_pos hk],by rw[if_pos hk];exact v1,t2.q (rY dx hP4)⟩
 ·have ke:m.k≠1:=by simpa using hc
  have hk:m.k=3:=by simpa using I3
  refine(jG t1.toQz _).mono ?_;rintro _ w2 ⟨rfl,ul,v1,v2,v3⟩;have t2:=t1.nx v2 v3;refine⟨rfl,t1.sm v3 (by simp),(yi m.wt hn.w (hT.only t2.o)).mono ?_⟩;rintro _ w3 ⟨rfl,dx⟩;have t3:=t2.q dx;have ja:=iG [kj,Lib.itoa m.wt];simp only[bF,fM,cy,ix]at ja;have hw:kj.length=5:=rfl;have Hh:=F5 hn.w;obtain⟨q4,w4,e4,dP,_,hj4⟩:=BL w3 [kj,Lib.itoa m.wt] (n:=2) (parts:=#[.mk 0 (ah (T kj)),.mk 1 (ah (T (Lib.itoa m.wt)))]) rfl rfl (by decide) (by decide) (by omega);have z4:=dP.size;refine⟨_,rfl,t2.sq dx (by simp),q4,w4,e4,t3.sq dP (by simp),hj4.mono ?_⟩;rintro _ w5 ⟨rfl,hP5⟩;exact⟨_,rfl,t3.sj z4 hP5 (by simp),_,ul,rfl,by omega,fun _=>by unfold Wb;rw[if_neg ke,if_pos hk],by rw[if_neg ke,if_pos hk];exact v1,t3.q (rY dP hP5)⟩
 ·have ke:m.k≠1:=by simpa using hc
  have yx:m.k≠3:=by simpa using I3
  refine(jG t1.toQz _).mono ?_;rintro _ w2 ⟨rfl,ul,v1,v2,v3⟩;have t2:=t1.nx v2 v3;refine⟨rfl,t1.sm v3 (by simp),kb,ul,rfl,by show 6<=_;omega,fun _=>by unfold Wb;rw[if_neg ke,if_neg yx],by rw[if_neg ke,if_neg yx];exact v1,t2⟩
end
theorem P4{w:ay}{b:Nat}{q:Option Addr}{v1 v2 v3:az}(hq:q=none∨q=some ⟨b,0,none⟩)(h:aH w b 245 [ai q,v1,v2,v3]):
  aB au 225 #[ai (some ⟨b,0,none⟩)] w fun e w'=>e=aq (ak #[])/\aA [b] w w'/\aH w' b 245 [ai (some ⟨b,0,none⟩),v1,v2,v3]:=by
 refine ret (VR _ _ _ ?_);have Hi:w.shape? b=some (245,4):=by
  unfold World.shape?;unfold aH at h;rw[h];rfl
 refine⟨q,Blk.dZ h 0 rfl,fun hn=>?_,fun hn=>⟨q,Blk.dZ h 0 rfl,?_⟩⟩
 ·have SG:=Lib.run_to_unsafe (P:=au) (src:=240) (dst:=308) w ⟨b,0,none⟩ (t:=243) (j:=Tryz.t243) (by kernel_rfl) (by kernel_rfl) (by kernel_rfl) (by decide) Hi (by decide:(0:Nat)<4);have SH:=Lib.run_from_unsafe (P:=au) (src:=308) (dst:=240) w ⟨b,0,none⟩ (u:=243) (j:=Tryz.t243) (by kernel_rfl) (by kernel_rfl) (by kernel_rfl) Hi (by kernel_rfl);exact⟨⟨ai (some ⟨b,0,none⟩),rfl⟩,w,SG,⟨ai (some ⟨b,0,none⟩),rfl⟩,w,VW _ w,some ⟨b,0,none⟩,w,SH,b,0,_,_,rfl,h,by simp,fun w3 hO hB=>⟨rfl,hO,hB⟩⟩
 ·rcases hq with rfl | rfl
  ·cases hn
  ·exact⟨false,w,Lib.run_neq_ptr_same w _ (te:=243) (j:=Tryz.t243) (by kernel_rfl) (by kernel_rfl),fun e=>(by cases e),fun _=>⟨rfl,Only.refl _ _,h⟩⟩
section
variable {w0 w:ay} {b:Nat} {l:aJ} {st:St}
theorem T3(h:Qz w0 b w l st)(m:aJ)(hm:l.length+m.length<=274877906944):aB au 202 #[ai (some ⟨b,0,none⟩),ah (T m)] w fun e w'=>
  e=aq (ak #[O ae (m.length:Int),.nilIface])/\Qz w0 b w' (l++m) st/\Mw false b w w':=by
 refine ret (VQ _ _ _ _ ?_);obtain⟨q,sl,hq,hB,WV⟩:=h.ex;refine(P4 hq hB).mono ?_;rintro _ w1 ⟨rfl,cK,tU⟩;have z0:=cK.size;have hb:=hB.lt;have vI:Bf w1 (b+1) sl l:=WV.keep fun g hg hl=>cK.block g hl (by have:=(WV.lt hg).1;simp;omega);obtain⟨s',w2,k1,k2,k3,k4⟩:=JU vI m (by omega) (by omega);have z1:=k3.size;have vJ:aH w2 b 245 [ai (some ⟨b,0,none⟩),sl.v,ao st.1,O ae st.2]:=k3.blk tU fun e=>by have:=(vI.lt e).1;omega
 have AM:∀g,s'.a=some ⟨g,0,none⟩->b<g:=fun g hg=>by
  rcases k4 with e | e
  ·rw[e]at hg;exact(vI.lt hg).1
  ·rw[e]at hg;injection hg with hg;injection hg with hg;omega
 refine⟨rfl,sl,Blk.dZ tU 1 rfl,s',w2,k1,b,1,_,_,rfl,vJ,by simp,fun w3 dh re=>?_⟩;have re:aH w3 b 245 [ai (some ⟨b,0,none⟩),s'.v,ao st.1,O ae st.2]:=re;have jw:aF (fun k=>k=b∨(false=false/\Bu w b k)) w w3:=((cK.p (F:=fun k=>k=b∨(false=false/\Bu w b k)) fun x hx=>.inl (.inl (by simpa using hx))).trans k3 fun k hk=>.inl (.inr ⟨rfl,F1 hB hk⟩)).trans (dh.p (F:=fun k=>k=b) fun x hx=>.inl (by simpa using hx)) fun k hk=>.inl (.inl hk);refine⟨by rw[dH],⟨?_,h.lo,⟨_,_,.inr rfl,re,k2.keep fun g hg hl=>dh.block g hl (by have:=AM g hg;simp;omega)⟩,h.i,by rw[aU];exact hm⟩,jw,fun k hk=>?_⟩
 ·refine⟨jw.os.trans h.o.os,jw.tape.trans h.o.tape,jw.output.trans h.o.output,bh h.o.size jw.size,fun k hk _=>(jw.block k (cx hk h.o.size) ?_).trans (h.o.block k hk (by simp))⟩;rintro(e | ⟨_,e⟩)
  ·have:=h.lo;omega
  ·have:=(h.bu e).1;have:=h.lo;omega
 ·have e:=KA re hk;rcases k4 with e2 | e2
  ·exact .inl (F1 hB (e2▸e))
  ·rw[e2]at e;injection e with e;injection e with e;exact .inr ⟨rfl,by omega⟩
theorem Zq.sl{f g:Bool}{ws w1 w':ay}{ks ks':List Nat}(t:Zq f w0 ws b w l st ks)(hO:aA [] w w1)(m:Mw g b w w')(hk:∀k,k∈ks'->k∈ks):ci ks' w1 w':=fun x hx=>
 (t.sm m hk x hx).trans (t.sq hO hk x hx).symm
theorem KI:∀d,Lib.repeatL [32,32] d=Mx d
 | 0=>rfl
 | d+1=>by rw[Lib.repeatL,KI d];rfl
theorem KJ:∀d,(Mx d).length=2*d
 | 0=>rfl
 | d+1=>by rw[Mx,bp,bp,KJ d];omega
theorem xi(h:Qz w0 b w l st)(ws:List (aJ)){n:Nat}{parts:Array (Nat×az)}(hp:parts=(((ws.map fun x=>Value.string (T x)).zipIdx 0).map fun x=>(x.2,x.1)).toArray)(hn:ws.length=n)(h0:0<n)(A4:n*1<=16777216)(d:Nat)(hd:d<=12)(hl:(fN ws).length<=274877889536):
  ∃(q:Sl) (w1:ay),(aw 31 n parts).run au w=.ok q.v w1/\aA [] w w1/\aB au 170 #[rp b,O ae (d:Int),q.v] w1 fun e w'=>e=aq (ak #[])/\Qz w0 b w' (if st.1 then l else pT l (d,fN ws)) st/\Mw false b w w':=by
 obtain⟨q,w1,e1,amu,cF⟩:=nP w ws hp hn h0 A4;refine⟨q,w1,e1,cF,?_⟩;have t1:=(h.z true).q cF;have hb:=h.lb;have hbu:∀k,Bu w b k->k<w.heap.size:=fun k hk=>(h.bu hk).2;refine ret (adl _ _ _ _ _ ?_);refine(KE t1.toQz).mono ?_;rintro _ w2 ⟨rfl,rfl⟩;obtain⟨qq,sl,hB,_⟩:=t1.toQz.set;refine⟨_,rfl,st.1,fun _=>Blk.dZ hB 2 rfl,fun hc w3 dx=>?_,fun hc=>?_⟩
 ·simp only[aQ,dy,dF]at hc;obtain⟨uu,pu⟩:=hc;have t3:=t1.q dx;refine(Tryz.strings_Repeat (T [32,32]) d w3 (by omega) (by show 2*d<=_;omega)).mono ?_;rintro _ w4 ⟨rfl,vG⟩;have dP:=Only.below vG;have t4:=t3.q dP;have aap:=amu.keep dD (w':=w4) fun k hk bX=>(dx.cz dP).block k bX (by simp);have xP:=KJ d;refine⟨T (Mx d),by rw[show(T [32,32]).data.toList=[32,32]from rfl,KI],(zK aap (by omega) (by omega)).mono ?_⟩;rintro _ w5 ⟨rfl,hP5⟩;have t5:=t4.row hb hbu hP5;refine⟨_,rfl,by rw[dH,dH];omega,by rw[lf,dH,aU];omega,?_⟩;rw[show ar #[10]=T [10]from rfl,lf,lf,show(Addr.add ⟨b,0,none⟩ 0:Addr)=⟨b,0,none⟩from rfl];refine(T3 t5.toQz _ ?_).mono ?_
  ·simp only[aU,bp,cO];omega
  rintro _ w6 ⟨rfl,h6,m6⟩;refine⟨_,⟨.nilIface,rfl⟩,rfl,rfl,?_,t5.m.up.trans m6⟩;rw[pu,if_neg (by decide)];unfold pT lnT;rw[if_neg uu];dsimp only;rw[bQ]at h6;exact h6
 ·refine⟨rfl,?_,t1.m.up⟩;have:(if st.1 then l else pT l (d,fN ws))=l:=by
   cases e:st.1
   ·rw[e]at hc;have hc:16384<l.length:=by simpa using hc
    rw[if_neg (by decide)];unfold pT;rw[if_pos hc]
   ·rfl
  rw[this];exact t1.toQz
theorem zO(h:Qz w0 b w l st)(d:Nat)(hd:d<=12)(word text:aJ)(hw:word.length<=100)(hl:text.length<=274877880000):
  aB au 207 #[rp b,O ae (d:Int),ah (T word),ah (T text)] w fun e w'=>e=aq (ak #[])/\Qz w0 b w' (if st.1||decide (text=[])then l else pT l (d,fN [word,text])) st/\Mw false b w w':=by
 refine ret (ai3 _ _ _ _ _ _ ?_);rw[show ar #[]=T []from rfl,mf];refine⟨fun hc=>?_,fun hc=>?_⟩
 ·have hc:text≠[]:=by simpa using hc
  have ja:=iG [word,text];simp only[bF,fM,cy,ix]at ja;obtain⟨q,w1,e1,cF,hj⟩:=xi h [word,text] (n:=2) (parts:=#[.mk 0 (ah (T word)),.mk 1 (ah (T text))]) rfl rfl (by decide) (by decide) d hd (by omega);refine⟨q,w1,e1,hj.mono ?_⟩;rintro _ w2 ⟨rfl,h2,m2⟩;refine⟨rfl,rfl,?_,m2⟩;rw[bG hc,Bool.or_false];exact h2
 ·have hc:text=[]:=by simpa using hc
  refine⟨rfl,?_,Mw.refl _ _ _⟩;rw[bK hc,xY,if_pos rfl];exact h
end
def zP:List Mv->Nat
 | []=>0
 | m::l=>MD m+zP l
def F6(b:Nb):Nat:=((b.nm.length+b.ini.length)+(b.dft.length+1))+((jU b.en+jU b.lv)+zP b.mv)
mutual
def pc:Nd->Nat
 | .mk b l=>F6 b+iP l
def iP:List Nd->Nat
 | []=>0
 | x::l=>pc x+iP l
end
theorem ve{m:Mv}:∀{l:List Mv},m∈l->MD m<=zP l
 | [],h=>by simp at h
 | x::l,h=>by
  rw[zP];rcases aR.1 h with rfl | h
  ·omega
  ·have:=ve h;omega
theorem nV:∀(l:List Mv),l.length<=zP l
 | []=>bA _
 | m::l=>by
  have:=nV l;rw[zP,bp];unfold MD;omega
theorem pX{x:Nd}:∀{l:List Nd},x∈l->pc x<=iP l
 | [],h=>by simp at h
 | y::l,h=>by
  rw[iP];rcases aR.1 h with rfl | h
  ·omega
  ·have:=pX h;omega
theorem T4(x:Nd):1<=pc x:=by
 obtain⟨b,l⟩:=x;rw[pc];unfold F6;omega
theorem vf:∀(l:List Nd),l.length<=iP l
 | []=>bA _
 | x::l=>by
  have:=vf l;have:=T4 x;rw[iP,bp];omega
theorem F7{x:Nd}:∀{l:List Nd},zH l->x∈l->Kj x
 | [],_,h=>by simp at h
 | y::l,hn,h=>by
  rw[zH]at hn;rcases aR.1 h with rfl | h
  ·exact hn.1
  ·exact F7 hn.2 h
theorem zQ(d:Nat)(x:Nd):∀l:List Nd,mW d (l++[x])=(mW d l&&pS d x)
 | []=>by simp[mW]
 | y::l=>by rw[ck,mW,mW,zQ d x l,Ba]
theorem BO(x:Nd):∀l:List Nd,uh (l++[x])=uh l+BH x
 | []=>by simp[uh]
 | y::l=>by rw[ck,uh,uh,BO x l];omega
theorem BP(d:Nat)(x:Nd):∀l:List Nd,xI d (l++[x])=xI d l++X9 d x
 | []=>by simp[xI]
 | y::l=>by rw[ck,xI,xI,BP d x l,bQ]
def xK(x:Nb)(ks:List Nd)(d:Nat):Bool:=(decide (x.ini=[])||eK x.ini)&&(x.en.all mF&&(x.lv.all mF&&(x.mv.all zF&&mW d ks)))
theorem lI(l:aJ)(p:Ln):iE l [p]=pT l p:=rfl
theorem P5(l:List Ac):E2 l≠[]:=by unfold E2;simp
theorem vg{cH:St}{l l1 l2:aJ}{L M:List Ln}{Ey:St}{c:Bool}{n:Nat}(hU:Up Ey c n cH)(h1:Ey.1=false->l1=iE l L)(h2:cH.1=false->l2=iE l1 M):cH.1=false->l2=iE l (L++M):=fun e=>by
 rw[h2 e,h1 (hU.ok e).1,jF]
def P6(D:Nat):Prop:=∀(w0 w:ay) (b:Nat) (l:aJ) (st:St) (F:aL) (x:Nd) (cs:aK) (d:Nat),Qz w0 b w l st->oY false D w F x cs->(∀k,F k->k<w0.heap.size)->Kj x->pc x<=8388608->d<=12->Er w0->Tb w0->
 aB au 210 #[rp b,aj cs.toArray,O ae (d:Int)] w fun e w'=>e=aq (ak #[])/\∃cH l',Up st (pS d x) (BH x) cH/\(cH.1=false->l'=iE l (X9 d x))/\Qz w0 b w' l' cH/\Mw false b w w'
section
variable {w0 w:ay} {b:Nat} {l:aJ} {st:St}
theorem P7{D:Nat}(hN:P6 D)(h:Qz w0 b w l st){F:aL}{x:Nb}{en lv mv kids:Sl}{ks:List Nd}(hb:Ds false w F x en lv mv)(hk:jE false (oY false D) 9 27 w F kids ks)(hF:∀k,F k->k<w0.heap.size)(hn:nbN x)(NY:zH ks)(hs:F6 x+iP ks<=8388608)(d:Nat)(hd:d<=12)(hE:Er w0)(hT:Tb w0):
  aB au 173 #[rp b,aj (om x.k x.nm x.ini x.dft en lv mv kids x.a).toArray,O ae (d:Int)] w fun e w'=>e=aq (ak #[])/\∃cH l',Up st (xK x ks d) (V2 x+uh ks) cH/\(cH.1=false->l'=iE l (nbL d x++xI d ks))/\Qz w0 b w' l' cH/\Mw false b w w':=by
 have EA:=hs;unfold F6 at EA;have Cs:=nV x.mv;have NS:=vf ks;obtain⟨Eg,G4,rB⟩:=hb;have Eg:=Eg.1;have G4:=G4.1;have rB:=rB.1;have hk:=hk.1;refine ret (ai2 _ _ _ _ _ _ _ _ _ _ _ _ _ ?_);intro k0 w1 gU fi cF;have t1:=(h.z false).al cF gU fi;rw[show ar #[]=T []from rfl,mf];refine⟨fun w'=>∃Ey l1,Up st (decide (x.ini=[])||eK x.ini) 0 Ey/\(Ey.1=false->l1=iE l (TU d x))/\Zq false w0 w b w' l1 Ey [k0],?_,fun hc=>?_,fun hc=>?_⟩
 ·rintro w2 ⟨ul,l2,hU2,Rm,t2⟩;refine(DE t2.toQz (SliceF.keep (dN false) Eg (by decide) fun k hk _=>h.arg t2.toQz (hF k hk)) hF hn.en (by omega) hE hT).mono ?_;rintro _ w3 ⟨tx3,QV,rfl,tl3,tt3,hU3,q3,m3⟩;have t3:=t2.nx q3 m3.up;refine⟨_,rfl,t2.sm m3 (by simp),(zO t3.toQz d hd jc tx3 (by decide) (by omega)).mono ?_⟩;rintro _ w4 ⟨rfl,q4,m4⟩;have t4:=t3.nx q4 m4;have hl4:QV.1=false->(if QV.1||decide (tx3=[])then l2 else pT l2 (d,fN [jc,tx3]))=iE l2 (enL d x):=fun e=>by
   rw[e,tt3 e];unfold enL;by_cases he:x.en=[]
   ·rw[if_pos he,if_pos he];rfl
   ·rw[if_neg he,if_neg he,bG (P5 _),if_neg (by decide),lI,oP (by decide),fH (by rfl),eG,fG,lH,bR]
  generalize (if QV.1||decide (tx3=[])then l2 else pT l2 (d,fN [jc,tx3]))=l4 at*
  refine⟨rfl,t3.sm m4 (by simp),(DE t4.toQz (SliceF.keep (dN false) G4 (by decide) fun k hk _=>h.arg t4.toQz (hF k hk)) hF hn.lv (by omega) hE hT).mono ?_⟩;rintro _ w5 ⟨tx5,Vb,rfl,tl5,tt5,hU5,q5,m5⟩;have t5:=t4.nx q5 m5.up;refine⟨_,rfl,t4.sm m5 (by simp),(zO t5.toQz d hd jd tx5 (by decide) (by omega)).mono ?_⟩;rintro _ w6 ⟨rfl,q6,m6⟩;have t6:=t5.nx q6 m6;have hl6:Vb.1=false->(if Vb.1||decide (tx5=[])then l4 else pT l4 (d,fN [jd,tx5]))=iE l4 (lvL d x):=fun e=>by
   rw[e,tt5 e];unfold lvL;by_cases he:x.lv=[]
   ·rw[if_pos he,if_pos he];rfl
   ·rw[if_neg he,if_neg he,bG (P5 _),if_neg (by decide),lI,oP (by decide),fH (by rfl),eG,fG,lH,bR]
  generalize (if Vb.1||decide (tx5=[])then l4 else pT l4 (d,fN [jd,tx5]))=l6 at*
  have hL4:=vg hU3 Rm hl4;have Nj:=vg hU5 hL4 hl6;refine⟨rfl,t5.sm m6 (by simp),fun nv i w'=>∃(j:Nat) (cH:St) (l':aJ),i=j/\j<=x.mv.length/\nv=x.mv.length-j/\Up Vb ((x.mv.take j).all zF) ((x.mv.take j).map fun m=>m.acts.length).sum cH/\(cH.1=false->l'=iE l6 ((x.mv.take j).map fun m=>(d,Si m)))/\Zq false w0 w b w' l' cH [k0],
   x.mv.length,⟨0,Vb,l6,rfl,bA _,rfl,t6.toQz.Zb,fun _=>rfl,t6⟩,?_⟩
  rintro nv _ w7 ⟨j,WT,l7,rfl,hj,rfl,LP,hl7,t7⟩;have aqa:=rB.len;have amv:aD (Kf false) 13 w7 F mv x.mv:=SliceF.keep (mE false) rB (by decide) fun k hk _=>h.arg t7.toQz (hF k hk);refine⟨fun hc=>?_,fun hc=>?_⟩
  ·have bX:(j:Int)<mv.n:=aP hc;obtain⟨ad,m,cs,g1,g2,g3,g4,g5,g6⟩:=amv.get (bE j) bX;rw[aX]at g2;have hmm:=bD g2;have hms:=ve hmm;have og:x.mv.take (j+1)=x.mv.take j++[m]:=by
    rw[bI,g2];rfl
   have g6':=g6;obtain⟨gc,tG,tg,rfl,r1,r2,r3⟩:=g6';obtain⟨gl,rfl⟩:=iW r1;refine⟨ad,g1,_,_,_,_,_,_,_,_,_,_,_,_,_,g5,fun k3 w8 yx wN gn=>?_⟩;have t8:=t7.al gn yx wN;refine(Yq t8.toQz ((mE false).keep g6 fun k _ bX=>gn.block k bX (by simp)) hF (hn.mv m hmm) (by omega) hE hT).mono ?_;rintro _ w9 ⟨tx9,st9,rfl,tl9,tt9,WU,q9,m9⟩;have t9:=t8.nx q9 m9.up;have ja:=iG [tx9];simp only[bF,fM,cy,ix]at ja;obtain⟨q10,dI,e10,eH,aaw⟩:=xi t9.toQz [tx9] (n:=1) (parts:=#[.mk 0 (ah (T tx9))]) rfl rfl (by decide) (by decide) d hd (by omega);refine⟨_,rfl,t8.sm m9 (by simp),q10,dI,e10,t9.sq eH (by simp),aaw.mono ?_⟩;rintro _ dJ ⟨rfl,q11,m11⟩;have t11:=t9.nx q11 m11;refine⟨rfl,t9.sl eH m11 (by simp),x.mv.length-(j+1),by omega,j+1,st9,_,by rw[gD (by omega) (by omega)];rfl,by omega,rfl,(LP.tr WU).cg ?_ ?_,fun e=>?_,⟨t11.toQz,t11.m,fun k hk=>t11.k k (by simp at hk;simp[hk])⟩⟩
   ·rw[og,yC];simp
   ·rw[og,da,List.sum_append];simp
   ·rw[e,if_neg (by decide),hl7 (WU.ok e).1,og,da,jF,tt9 e];show _=pT _ (d,Si m);have:ne (Si m)=true:=by
     have:Si m≠[]:=by unfold Si;simp
     unfold ne;rw[bG this];rfl
    rw[oP this,eG,lH,bR]
  ·have mz:¬(j:Int)<mv.n:=aW hc;have qo:j=x.mv.length:=by omega
   subst qo;rw[bC (aY _)]at LP hl7;have Ei:=vg LP Nj hl7;refine⟨fun nv i w'=>∃(j:Nat) (cH:St) (l':aJ),i=j/\j<=ks.length/\nv=ks.length-j/\Up WT (mW d (ks.take j)) (uh (ks.take j)) cH/\(cH.1=false->l'=iE l7 (xI d (ks.take j)))/\Zq false w0 w b w' l' cH [k0],
    ks.length,⟨0,WT,l7,rfl,bA _,rfl,by rw[dr,mW,uh];exact t7.toQz.Zb,fun _=>by rw[dr,xI];rfl,t7⟩,?_⟩
   rintro nv _ dJ ⟨j,aax,oh,rfl,hj,rfl,Vf,aay,t11⟩;have aqb:=hk.len;have amx:aD (oY false D) 9 dJ F kids ks:=SliceF.keep (cN false D) hk (by decide) fun k hk _=>h.arg t11.toQz (hF k hk);refine⟨fun hc=>?_,fun hc=>?_⟩
   ·have bX:(j:Int)<kids.n:=aP hc;obtain⟨ad,y,cs,g1,g2,g3,g4,g5,g6⟩:=amx.get (bE j) bX;rw[aX]at g2;have hym:=bD g2;have hys:=pX hym;have og:ks.take (j+1)=ks.take j++[y]:=by
     rw[bI,g2];rfl
    have g6':=g6;cases D with
    | zero=>exact g6'.elim
    | succ D=>
    obtain⟨xT,xU,tq,li,rfl,_⟩:=g6';refine⟨ad,g1,_,_,_,_,xT,xU,tq,li,_,g5,fun k7 fg hk7 af3 fj=>?_⟩;have t12:=t11.al fj hk7 af3;refine(hN _ _ _ _ _ _ _ _ d t12.toQz ((cN false _).keep g6 fun k _ bX=>fj.block k bX (by simp)) hF (F7 NY hym) (by omega) hd hE hT).mono ?_;rintro _ fC ⟨rfl,aaz,vC,af4,amy,q13,m13⟩;have t13:=t12.nx q13 m13;refine⟨rfl,t12.sm m13 (by simp),ks.length-(j+1),by omega,j+1,aaz,vC,by rw[gD (by omega) (by omega)];rfl,by omega,rfl,(Vf.tr af4).cg ?_ ?_,fun e=>?_,⟨t13.toQz,t13.m,fun k hk=>t13.k k (by simp at hk;simp[hk])⟩⟩
    ·rw[og,zQ]
    ·rw[og,BO]
    ·rw[amy e,aay (af4.ok e).1,og,BP,jF]
   ·have mz:¬(j:Int)<kids.n:=aW hc;have qo:j=ks.length:=by omega
    subst qo;rw[bC (aY _)]at Vf aay;have xV:=vg Vf Ei aay;refine⟨rfl,aax,oh,(hU2.tr (hU3.tr (hU5.tr (LP.tr Vf)))).cg rfl ?_,fun e=>?_,t11.toQz,t11.m⟩
    ·unfold V2;omega
    ·rw[xV e];unfold nbL mvL;simp only[bQ]
 ·have hc:x.ini≠[]:=by simpa using hc
  refine(lZ t1.toQz x.ini (by omega)).mono ?_;rintro _ w2 ⟨rfl,ul,hU2,q2,m2⟩;have t2:=t1.nx q2 m2.up;refine⟨_,rfl,t1.sm m2 (by simp),by rw[dH];omega,?_⟩;rw[show ar #[59]=T [59]from rfl,lf];refine(zO t2.toQz d hd gr (x.ini++[59]) (by decide) (by rw[aU,bP];omega)).mono ?_;rintro _ w3 ⟨rfl,q3,m3⟩;refine⟨rfl,t2.sm m3 (by simp),ul,_,hU2.cg (by rw[bG hc,mN]) rfl,fun e=>?_,t2.nx q3 m3⟩;have gz:x.ini++[59]≠[]:=by simp
  have RT:ne (x.ini++[59])=true:=by unfold ne;rw[bG gz];rfl
  rw[e,bG gz,if_neg (by decide),oP (by decide),fH RT,eG,fG,lH,bR];unfold TU;rw[if_neg hc];rfl
 ·have hc:x.ini=[]:=by simpa using hc
  refine⟨st,l,h.Zb.cg (by rw[bK hc];rfl) rfl,fun _=>by unfold TU;rw[if_pos hc];rfl,t1⟩
end
theorem Up.more{st cH:St}{c:Bool}{n:Nat}(h:Up st c 0 cH)(hn:c=true->n=0):Up st c n cH:=by
 cases c with
 | true=>rw[hn rfl];exact h
 | false=>
  refine⟨?_,fun e=>?_⟩
  ·rw[h.w];simp
  ·have:=h.w;rw[e]at this;simp at this
def Wc:List (aJ):=[[],Dh,sW,uZ,JX]
theorem adT{k:Int}(h1:1<=k)(h2:k<=4):Wc[k.toNat]? =some (kW k):=by
 have:k=1∨k=2∨k=3∨k=4:=by omega
 rcases this with rfl | rfl | rfl | rfl<;>rfl
theorem Wd(k:Int):ne (kW k)=true:=by
 unfold kW;split
 ·rfl
 split
 ·rfl
 split
 ·rfl
 ·rfl
theorem Yr(k:Int):(kW k).length<=8:=by
 unfold kW;split
 ·decide
 split
 ·decide
 split
 ·decide
 ·decide
theorem KK{d:Nat}{b:Nb}{l:List Nd}(hk:b.k=1∨b.k=2)(hd:d<12):((decide (b.dft=[])&&eK b.nm)&&xK b l (d+1))=pS d (.mk b l):=by
 have hh:fL b.k=false:=by unfold fL;exact bG (by omega)
 rw[pS,bK hd,cY];unfold zG xK;rw[hh,if_neg (by decide)];have:decide ((b.k=1∨b.k=2)/\b.dft=[])=decide (b.dft=[]):=by simp[hk]
 rw[this];generalize decide (b.dft=[])=A;generalize eK b.nm=B;generalize (decide (b.ini=[])||eK b.ini)=C;generalize b.en.all mF=D;generalize b.lv.all mF=E;generalize b.mv.all zF=G;generalize mW (d+1) l=H;cases A<;>cases B<;>cases C<;>cases D<;>cases E<;>cases G<;>cases H<;>rfl
theorem KL{d:Nat}{b:Nb}{l:List Nd}(hk:b.k=3∨b.k=4)(hd:d<12):(((decide (b.ini=[])&&decide (b.en=[]/\b.lv=[]/\b.mv=[]/\l=[]))&&eK b.nm)&&eK b.dft)=pS d (.mk b l):=by
 have hh:fL b.k=true:=by unfold fL;exact bK hk
 rw[pS,bK hd,cY];unfold zG;rw[hh,if_pos rfl];by_cases hl:l=[]
 ·subst hl;have:decide (b.ini=[]/\b.en=[]/\b.lv=[]/\b.mv.length=0/\([]:List Nd).length=0)=(decide (b.ini=[])&&decide (b.en=[]/\b.lv=[]/\b.mv=[]/\([]:List Nd)=[])):=by
   rw[bT];simp
  rw[this,mW];generalize decide (b.ini=[])=A;generalize decide (b.en=[]/\b.lv=[]/\b.mv=[]/\([]:List Nd)=[])=B;cases A<;>cases B<;>cases eK b.nm<;>cases eK b.dft<;>rfl
 ·have h1:decide (b.en=[]/\b.lv=[]/\b.mv=[]/\l=[])=false:=bG fun h=>hl h.2.2.2;have h2:decide (b.ini=[]/\b.en=[]/\b.lv=[]/\b.mv.length=0/\l.length=0)=false:=bG fun h=>hl (bO h.2.2.2.2);rw[h1,h2];simp
theorem KM{d:Nat}{b:Nb}{l:List Nd}(h:¬(1<=b.k/\b.k<=4)∨12<=d):pS d (.mk b l)=false:=by
 rw[pS];rcases h with h | h
 ·have hh:fL b.k=false:=by unfold fL;exact bG (by omega)
  have:decide ((b.k=1∨b.k=2)/\b.dft=[])=false:=bG (by omega);unfold zG;rw[hh,if_neg (by decide),this];simp
 ·rw[bG (by omega)];rfl
theorem KN:∀D,P6 D
 | 0=>by
  intro w0 w b l st F x cs d h hx;exact hx.elim
 | D+1=>by
  intro w0 w b l st F x cs d h hx hF hn hs hd hE hT;obtain⟨bb,ks⟩:=x;have hx0:=hx;obtain⟨en,lv,mv,kids,rfl,wH,tV⟩:=hx;have wH:Ds false w F bb en lv mv:=wH;have tV:jE false (oY false D) 9 27 w F kids ks:=tV;show aB au 210 #[rp b,aj (om bb.k bb.nm bb.ini bb.dft en lv mv kids bb.a).toArray,O ae (d:Int)] w _;rw[Kj]at hn;rw[pc]at hs;have EA:=hs;unfold F6 at EA;refine ret (adu _ _ _ _ _ _ _ _ _ _ _ _ _ ?_);intro k0 w1 gU fi cF;have t1:=(h.z false).al cF gU fi;obtain⟨q,sl,hB,_⟩:=t1.toQz.set;have bad:∀{w':ay} {cH:St} {lx:aJ},cH.1=true->Zq false w0 w b w' lx cH [k0]->(st.1=true∨pS d (.mk bb ks)=false)->∃cH l',Up st (pS d (.mk bb ks)) (BH (.mk bb ks)) cH/\(cH.1=false->l'=iE l (X9 d (.mk bb ks)))/\Qz w0 b w' l' cH/\Mw false b w w':=by
   intro w' cH lx e t hc;refine⟨cH,lx,⟨?_,fun e2=>absurd (e.symm.trans e2) (by decide)⟩,fun e2=>absurd (e.symm.trans e2) (by decide),t.toQz,t.m⟩;rw[e];rcases hc with hc | hc
   ·rw[hc];rfl
   ·rw[hc];simp
  refine⟨st.1,Blk.dZ hB 2 rfl,fun hc=>?_,fun hc=>?_⟩
  ·refine(jG t1.toQz false).mono ?_;rintro _ w2 ⟨rfl,ul,u1,u2,u3⟩;refine⟨rfl,t1.sm u3 (by simp),rfl,bad (by rw[u1.w];simp) (t1.nx u2 u3.up) ?_⟩;rw[cp]at hc;rcases hc with hc | hc
   ·exact .inl hc
   ·exact .inr (KM (.inr (by have:=aP hc;omega)))
  rw[gP]at hc;have aaA:d<12:=by have:=aW hc.2;omega
  obtain⟨q2,w2,g,cs,e2,dh,hg1,hg2,re,Zk⟩:=PW w1 Wc (n:=5) (parts:=#[.mk 0 (ah (ar #[])),.mk 1 (ah (ar #[115,116,97,116,101])),.mk 2 (ah (ar #[112,97,114,97,108,108,101,108])),.mk 3 (ah (ar #[104,105,115,116,111,114,121])),.mk 4 (ah (ar #[100,101,101,112]))]) rfl rfl (by decide) (by decide);have t2:=t1.al dh hg1 hg2;have hwd:1<=bb.k/\bb.k<=4->dL q2 bb.k 1 ⟨g,bb.k.toNat,none⟩/\∀w',aH w' g 9 cs->aE w' ⟨g,bb.k.toNat,none⟩ [ah (T (kW bb.k))]:=fun hk=>by
   have:=Zk _ _ (adT hk.1 hk.2);rwa[iq (by omega)]at this
  have NS:=Yr bb.k;have z2:∀{w3:ay},aA [] w2 w3->aH w3 g 9 cs:=fun hO=>hO.blk re (by simp);have z2m:∀{w3 w4:ay} {lx:aJ} {sx:St} {f:Bool},Zq false w0 w b w3 lx sx [g,k0]->Mw f b w3 w4->aH w3 g 9 cs->aH w4 g 9 cs:=fun t m hB=>(t.sm (ks':=[g]) m (by simp) g (by simp)).trans hB;refine⟨q2,w2,e2,t1.sq dh (by simp),fun b1 w3=>w2=w3/\b1=decide (bb.k=1∨bb.k=2),?_,fun uu=>⟨rfl,?_⟩,fun uu=>⟨rfl,?_⟩⟩
  ·rintro b1 _ ⟨rfl,rfl⟩;refine⟨fun I3=>?_,fun I3=>?_⟩
   ·have hk:=aP I3;have hkr:1<=bb.k/\bb.k<=4:=by omega
    obtain⟨y1,y2⟩:=hwd hkr;rw[show ar #[]=T []from rfl,mf];refine(jG t2.toQz _).mono ?_;rintro _ w4 ⟨rfl,I1,u1,u2,u3⟩;have t4:=t2.nx u2 u3.up;refine⟨rfl,t2.sm u3 (by simp),fun w5 eE=>⟨fun k=>k∈[k0,g],by simp,_,y1,by simp,_,y2 w5 (eE.blk (z2m t2 u3 re) (by simp)),?_⟩⟩;have t5:=t4.q eE;refine(lZ t5.toQz bb.nm (by omega)).mono ?_;rintro _ w6 ⟨rfl,st6,v1,v2,v3⟩;have t6:=t5.nx v2 v3.up;have ja:=iG [kW bb.k,bb.nm,[123]];simp only[bF,fM,cy,ix,bp,cO]at ja;obtain⟨q7,w7,e7,fI,hj7⟩:=xi t6.toQz [kW bb.k,bb.nm,[123]] (n:=3) (parts:=#[.mk 0 (ah (T (kW bb.k))),.mk 1 (ah (T bb.nm)),.mk 2 (ah (T [123]))]) rfl rfl (by decide) (by decide) d hd (by omega);refine⟨_,rfl,t5.sm v3 (by simp),bS.of (t5.sm v3 (by simp)),q7,w7,e7,t6.sq fI (by simp),bS.of (t6.sq fI (by simp)),hj7.mono ?_⟩;rintro _ w8 ⟨rfl,x1,x2⟩;have t8:=t6.nx x1 x2;have hl8:st6.1=false->(if st6.1 then l else pT l (d,fN [kW bb.k,bb.nm,[123]]))=iE l [(d,kW bb.k++32::(bb.nm++[32,123]))]:=fun e=>by
     rw[e,if_neg (by decide),lI,oP (Wd _),fH (qK (v1.ok e).2.1),fH (by rfl),eG,fG,fG,lH];rfl
    generalize (if st6.1 then l else pT l (d,fN [kW bb.k,bb.nm,[123]]))=l8 at*
    have ed:av ae ((d:Int)+1)=((d+1:Nat):Int):=by rw[gD (by omega) (by omega)];rfl
    rw[ed];refine⟨rfl,t6.sl fI x2 (by simp),bS.of (t6.sl fI x2 (by simp)),(P7 (KN D) t8.toQz (wH.keep fun k hk _=>h.arg t8.toQz (hF k hk)) (tV.keep (cN false D) (by decide) fun k hk _=>h.arg t8.toQz (hF k hk)) hF hn.1 hn.2 hs (d+1) (by omega) hE hT).mono ?_⟩;rintro _ w9 ⟨rfl,st9,l9,WU,hl9,y3,y4⟩;have t9:=t8.nx y3 y4;obtain⟨q10,dI,e10,eH,aaw⟩:=xi t9.toQz [[125]] (n:=1) (parts:=#[.mk 0 (ah (T [125]))]) rfl rfl (by decide) (by decide) d hd (by decide);refine⟨rfl,t8.sm y4 (by simp),q10,dI,e10,t9.sq eH (by simp),aaw.mono ?_⟩;rintro _ dJ ⟨rfl,x3,x4⟩;have t11:=t9.nx x3 x4;refine⟨rfl,t9.sl eH x4 (by simp),rfl,st9,_,((u1.tr v1).tr WU).cg (KK hk aaA) (by rw[BH];omega),fun e=>?_,t11.toQz,t11.m⟩;have hh:fL bb.k=false:=by unfold fL;exact bG (by omega)
    rw[X9,hh,e];simp only[jY,jI];rw[hl9 e,hl8 (WU.ok e).1,<-jF];have e1:fN [[125]]=[125]:=by decide
    rw[e1,<-lI,<-jF];simp only[bQ,ck,cr]
   ·have NY:=aW I3;refine⟨fun b2 fg=>w2=fg/\b2=decide (bb.k=3∨bb.k=4),?_,fun WW=>⟨rfl,?_⟩,fun WW=>⟨rfl,?_⟩⟩
    ·rintro b2 _ ⟨rfl,rfl⟩;refine⟨fun hc5=>?_,fun hc5=>?_⟩
     ·have hk:=aP hc5;have hkr:1<=bb.k/\bb.k<=4:=by omega
      obtain⟨y1,y2⟩:=hwd hkr;have n4:=wH.1.1.len;have n5:=wH.2.1.1.len;have n6:=wH.2.2.1.len;have n7:=tV.1.len;have a4:=nU bb.en;have a5:=nU bb.lv;have a6:=nV bb.mv;have a7:=vf ks;have amC:(av ae ((av ae ((av ae ((en.n:Int)+(lv.n:Int)))+(mv.n:Int)))+(kids.n:Int))==0)=decide (bb.en=[]/\bb.lv=[]/\bb.mv=[]/\ks=[]):=by
       rw[gD (x:=(en.n:Int)+(lv.n:Int)) (by omega) (by omega),gD (x:=(en.n:Int)+(lv.n:Int)+(mv.n:Int)) (by omega) (by omega),gD (by omega) (by omega),bT];simp only[dW,bL];refine⟨fun e=>?_,fun⟨e1,e2,e3,e4⟩=>?_⟩
       ·exact⟨bO (by omega),bO (by omega),bO (by omega),bO (by omega)⟩
       ·rw[n4,n5,n6,n7,e1,e2,e3,e4];rfl
      rw[show ar #[]=T []from rfl,mf,amC];refine(jG t2.toQz _).mono ?_;rintro _ fC ⟨rfl,aaz,u1,u2,u3⟩;have t13:=t2.nx u2 u3.up;refine⟨rfl,t2.sm u3 (by simp),fun fT dU=>⟨fun k=>k∈[k0,g],by simp,_,y1,by simp,_,y2 fT (dU.blk (z2m t2 u3 re) (by simp)),by simp,?_⟩⟩;have t14:=t13.q dU;refine(lZ t14.toQz bb.nm (by omega)).mono ?_;rintro _ iJ ⟨rfl,att,v1,v2,v3⟩;have t15:=t14.nx v2 v3.up;refine⟨_,rfl,t14.sm v3 (by simp),bS.of (t14.sm v3 (by simp)),(lZ t15.toQz bb.dft (by omega)).mono ?_⟩;rintro _ iX ⟨rfl,amD,x1,x2,x3⟩;have t16:=t15.nx x2 x3.up;have ja:=iG [kW bb.k,bb.nm,[45,62],bb.dft++[59]];simp only[bF,fM,cy,ix,bp,cO,aU]at ja;obtain⟨q17,fR,e17,iY,amE⟩:=xi t16.toQz [kW bb.k,bb.nm,[45,62],bb.dft++[59]] (n:=4) (parts:=#[.mk 0 (ah (T (kW bb.k))),.mk 1 (ah (T bb.nm)),.mk 2 (ah (T [45,62])),.mk 3 (ah (T (bb.dft++[59])))]) rfl rfl (by decide) (by decide) d hd (by omega);refine⟨T bb.dft,rfl,t15.sm x3 (by simp),bS.of (t15.sm x3 (by simp)),by rw[dH];omega,q17,fR,by rw[show ar #[59]=T [59]from rfl,lf];exact e17,t16.sq iY (by simp),bS.of (t16.sq iY (by simp)),amE.mono ?_⟩;rintro _ jA ⟨rfl,y3,y4⟩;have t18:=t16.nx y3 y4;have hU:=((u1.tr v1).tr x1).cg (KL hk aaA) rfl;refine⟨rfl,t16.sl iY y4 (by simp),bS.of (t16.sl iY y4 (by simp)),rfl,amD,_,hU.more fun nE=>?_,fun e=>?_,t18.toQz,t18.m⟩
      ·rw[<-KL hk aaA]at nE;simp only[aQ,bL]at nE;obtain⟨⟨⟨_,e1,e2,e3,e4⟩,_⟩,_⟩:=nE;rw[BH,e4,uh];unfold V2;rw[e1,e2,e3];rfl
      ·have hh:fL bb.k=true:=by unfold fL;exact bK hk
       have RT:ne (bb.dft++[59])=true:=by
        have:bb.dft++[59]≠[]:=by simp
        unfold ne;rw[bG this];rfl
       rw[X9,hh,if_pos rfl,e,if_neg (by decide),lI,oP (Wd _),fH (qK (v1.ok (x1.ok e).1).2.1),fH (by rfl),fH RT,eG,fG,fG,fG,lH,bR];rfl
     ·have atv:=aW hc5;refine(jG t2.toQz false).mono ?_;rintro _ fC ⟨rfl,aaz,u1,u2,u3⟩;have t13:=t2.nx u2 u3.up;exact⟨rfl,t2.sm u3 (by simp),rfl,bad (by rw[u1.w];simp) ⟨t13.toQz,t13.m,fun k hk=>t13.k k (by simp at hk;simp[hk])⟩ (.inr (KM (.inl (by omega))))⟩
    ·have:bb.k=3:=by simpa using WW
     rw[WW,bK (.inl this)]
    ·have:bb.k≠3:=by simpa using WW
     rw[bT];simp[this]
  ·have:bb.k=1:=by simpa using uu
   rw[uu,bK (.inl this)]
  ·have:bb.k≠1:=by simpa using uu
   rw[bT];simp[this]
mutual
theorem Ys:∀x:Nd,iO x<=pc x
 | .mk b l=>by
  rw[iO,pc];have:=vh l;unfold F6;omega
theorem vh:∀l:List Nd,eV l<=iP l
 | []=>by rw[eV];exact bA _
 | x::l=>by
  rw[eV,iP];exact kZ (Ys x) (vh l)
end
mutual
theorem Yt:∀x:Nd,AH x<=pc x
 | .mk b l=>by
  rw[AH,pc];have:=vi l;have:=nV b.mv;unfold F6;omega
theorem vi:∀l:List Nd,wg l<=iP l
 | []=>by rw[wg];exact bA _
 | x::l=>by
  rw[wg,iP];exact kZ (Yt x) (vi l)
end
theorem wi(x:Nd):∀l:List Nd,eV (l++[x])=eV l+iO x
 | []=>by simp[eV]
 | y::l=>by rw[ck,eV,eV,wi x l];omega
theorem wj(x:Nd):∀l:List Nd,wg (l++[x])=wg l+AH x
 | []=>by simp[wg]
 | y::l=>by rw[ck,wg,wg,wj x l];omega
theorem zR:∀l m:List Nd,iP (l++m)=iP l+iP m
 | [],m=>by rw[cr,iP];omega
 | y::l,m=>by rw[ck,iP,iP,zR l m];omega
theorem KO:∀(D:Nat) (w:ay) (F:aL) (x:Nd) (cs:aK),oY false D w F x cs->pc x<=8388608->aB au 168 #[aj cs.toArray] w fun e w'=>e=aq (ak #[O ae (iO x:Int),O ae (AH x:Int)])/\aA [] w w'
 | 0,w,F,x,cs,hx,_=>hx.elim
 | D+1,w,F,x,cs,hx,hs=>by
  obtain⟨bb,ks⟩:=x;obtain⟨en,lv,mv,kids,rfl,wH,tV⟩:=hx;have rB:=wH.2.2.1;have rB:aD (Kf false) 13 w F mv bb.mv:=rB;have hk:aD (oY false D) 9 w F kids ks:=tV.1;show aB au 168 #[aj (om bb.k bb.nm bb.ini bb.dft en lv mv kids bb.a).toArray] w _;refine ret (adh _ _ _ _ _ _ _ _ _ _ _ ?_);have z1:=vh ks;have z2:=vi ks;have z3:=nV bb.mv;rw[pc]at hs;have EA:=hs;unfold F6 at EA;have n6:=rB.len;have n7:=hk.len;have z4:=vf ks;intro k0 w1 gU fi cF w2 dh;refine⟨fun nv a m i w'=>∃j:Nat,i=j/\j<=ks.length/\nv=ks.length-j/\a=(1+eV (ks.take j):Nat)/\m=(bb.mv.length+wg (ks.take j):Nat)/\k0<w'.heap.size/\aA [] w w',ks.length,⟨0,rfl,bA _,rfl,by rw[dr,eV];rfl,by rw[dr,wg,n6];rfl,cx fi dh.size,cF.cz dh⟩,?_⟩;rintro nv _ _ _ w3 ⟨j,rfl,hj,rfl,rfl,rfl,yx,dx⟩;have atw:iP ks=iP (ks.take j)+iP (ks.drop j):=by rw[<-zR,dv]
  have y1:=vh (ks.take j);have y2:=vi (ks.take j);refine⟨fun hc=>?_,fun hc=>?_⟩
  ·have bX:(j:Int)<kids.n:=aP hc;obtain⟨ad,y,cs,g1,g2,g3,g4,g5,g6⟩:=(SliceF.only (cN false D) (by decide) hk dx (by simp)).get (bE j) bX;rw[aX]at g2;have hys:=pX (bD g2);have og:ks.take (j+1)=ks.take j++[y]:=by
    rw[bI,g2];rfl
   have aqe:iP ks=iP (ks.take (j+1))+iP (ks.drop (j+1)):=by rw[<-zR,dv]
   have y3:eV (ks.take j)+iO y<=iP (ks.take (j+1)):=by rw[<-wi,<-og];exact vh _
   have y4:wg (ks.take j)+AH y<=iP (ks.take (j+1)):=by rw[<-wj,<-og];exact vi _
   have g6':=g6;cases D with
   | zero=>exact g6'.elim
   | succ D=>
   obtain⟨xT,xU,tq,li,rfl,_⟩:=g6';refine⟨ad,g1,_,_,_,_,xT,xU,tq,li,_,g5,fun k3 w4 wN aqf dP=>?_⟩;refine(KO (D+1) w4 F y _ ((cN false _).keep g6 fun k _ bX=>dP.block k bX (by simp)) (by omega)).mono ?_;rintro _ w5 ⟨rfl,eE⟩;refine⟨_,_,rfl,eE.same (by have:=dP.size;simp;omega),ks.length-(j+1),by omega,j+1,by rw[gD (by omega) (by omega)];rfl,by omega,rfl,?_,?_,?_,(dx.cz dP).cz eE⟩
   ·rw[og,wi,gD (by omega) (by omega)];omega
   ·rw[og,wj,gD (by omega) (by omega)];omega
   ·have:=dP.size;have:=eE.size;omega
  ·have mz:¬(j:Int)<kids.n:=aW hc;have qo:j=ks.length:=by omega
   subst qo;rw[bC (aY _)];refine⟨?_,dx⟩;rw[iO,AH,j6]
structure Pt4 (w:ay) (b:Nat) (sl:Sl) (l:aJ) (v2 v3:az):Prop where
 blk:∃q:Option Addr,aH w b 245 [ai q,sl.v,v2,v3]
 len:sl.n=l.length
 some:l≠[]->∃g,sl.a=.some ⟨g,0,none⟩/\b<g/\sl.c≠0/\(∃n,w.shape? g=.some (5,n)/\l.length<=n)/\aE w ⟨g,0,none⟩ (l.map ga)
 cap:sl.a=none∨sl.c≠0
 big:l.length<=9223372036854775807
section
variable {w:ay} {b:Nat} {sl:Sl} {l:aJ} {v2 v3:az}
theorem Pt4.only{w':ay}(h:Pt4 w b sl l v2 v3)(hO:aA [] w w'):Pt4 w' b sl l v2 v3:=by
 obtain⟨⟨q,h1⟩,h2,h3,h4,h5⟩:=h;refine⟨⟨q,hO.blk h1 (by simp)⟩,h2,fun hl=>?_,h4,h5⟩;obtain⟨g,a1,a2,a3,⟨n,a4,a5⟩,a6⟩:=h3 hl;have hg:g<w.heap.size:=by
  refine cq fun hn=>?_;unfold World.shape? at a4;rw[eW (by omega)]at a4;cases a4
 have hk:=hO.block g hg (by simp);exact⟨g,a1,a2,a3,⟨n,(zy hk).trans a4,a5⟩,a6.keep hk⟩
theorem Qz.pt{w0:ay}{st:St}(h:Qz w0 b w l st):∃sl,Pt4 w b sl l (ao st.1) (O ae st.2)/\∀k,sl.a=some ⟨k,0,none⟩->Bu w b k:=by
 obtain⟨q,sl,hq,hB,hb⟩:=h.ex;refine⟨sl,⟨⟨_,hB⟩,hb.len,fun hl=>?_,?_,?_⟩,fun k hk=>F1 hB hk⟩
 ·rcases hb with⟨_,e⟩ | ⟨g,tail,h1,h2,h3,h4,h5,h6,h7,h8⟩
  ·exact absurd e hl
  ·have h0:l.length≠0:=fun e=>hl (bO e);refine⟨g,h1,h2,by omega,⟨_,by unfold World.shape?;unfold aH at h3;rw[h3],by simp⟩,h3.cells 0 (l.map ga) fun j v hj=>by rw[bM,bJ (aZ.1 hj).1];exact hj⟩
 ·rcases hb with⟨e,_⟩ | ⟨g,tail,h1,h2,h3,h4,h5,h6,h7,h8⟩
  ·exact .inl (by rw[e])
  ·exact .inr (by omega)
 ·rcases hb with⟨_,e⟩ | ⟨g,tail,h1,h2,h3,h4,h5,h6,h7⟩
  ·subst e;simp
  ·omega
theorem KP(h:Pt4 w b sl l v2 v3):aB au 175 #[ai (some ⟨b,0,none⟩)] w fun e w'=>e=aq (ah (T l))/\Pt4 w' b sl l v2 v3/\aF (fun k=>b<k/\sl.a=some ⟨k,0,none⟩) w w':=by
 refine ret (VS _ _ _ ?_);intro w0 cK;have h0:=h.only cK;obtain⟨⟨q,hB⟩,fu,G2,mJ,rl⟩:=h0;refine⟨fun k=>k=b,sl,Blk.dZ hB 1 rfl,rfl,sl,Blk.dZ hB 1 rfl,sl.a,w0,?_,fun k _ _=>rfl,?_⟩
 ·obtain⟨sa,sn',sc⟩:=sl;cases sa with
  | none=>exact Lib.run_unsafeSliceData_nil _ _ _ _ _
  | some a=>
   rcases mJ with e | e
   ·cases e
   ·exact Lib.run_unsafeSliceData_row _ _ _ _ _ _ e
 ·by_cases hl:l=[]
  ·subst hl;have hn:sl.n=0:=fu;refine⟨T [],w0,?_,fun k _ _=>rfl,rfl,⟨⟨q,hB⟩,fu,G2,mJ,rl⟩,cK.p0⟩;rw[hn];exact Lib.run_unsafeString_none _ _ _ _ _
  ·obtain⟨g,ha,IP,hc,⟨m,Hi,hm⟩,ur⟩:=G2 hl;have hF:=rP w0 ⟨g,0,none⟩ l.length;have Ck:b<w0.heap.size:=hB.lt;refine⟨T l,w0.freeze ⟨g,0,none⟩ l.length,?_,fun k hk bX=>hF.block k bX (by dsimp only;omega),rfl,⟨⟨q,hF.blk hB (by dsimp only;omega)⟩,fu,fun _=>⟨g,ha,IP,hc,⟨m,(uY _ _ _ _).trans Hi,hm⟩,fun j v hj=>by rw[rO];exact ur j v hj⟩,mJ,rl⟩,cK.pd (hF.mono fun k _ hk=>by dsimp only at hk;exact⟨by omega,by rw[hk];exact ha⟩)⟩;rw[ha,fu];exact Lib.run_unsafeString_row _ _ _ _ 5 (by kernel_rfl) (by kernel_rfl) g m Hi l hl hm rl fun j x hj=>ur j (ga x) (by rw[bZ,hj];rfl)
end
def gy(c:Ch):aJ×Int:=
 if FR c=true then(if 16384<(iE [] (V3 c)).length then([],2)else if(dE (iE [] (V3 c))).2.1≠0 then([],22)else(iE [] (V3 c),0))else([],22)
def rj:List Vr->Nat
 | []=>0
 | v::l=>(v.n.length+1)+rj l
theorem zT{v:Vr}:∀{l:List Vr},v∈l->v.n.length+1<=rj l
 | [],h=>by simp at h
 | x::l,h=>by
  rw[rj];rcases aR.1 h with rfl | h
  ·omega
  ·have:=zT h;omega
theorem zU:∀l:List Vr,l.length<=rj l
 | []=>bA _
 | v::l=>by
  have:=zU l;rw[rj,bp];omega
def A0(v:Vr):Bool:=eK v.n&&decide (v.v≠ -9223372036854775808)
theorem T5(c:Ch):((((((decide (c.root.b.k=1)&&decide (c.root.b.dft=[]))&&decide (c.vars.length<=16))&&decide (iO c.root<=64))&&decide (AH c.root<=200))&&eK c.root.b.nm)&&(c.vars.all A0&&xK c.root.b c.root.kids 1)&&decide (BH c.root<=400))=FR c:=by
 obtain⟨vars,⟨b,l⟩⟩:=c;unfold FR;show((((((decide (b.k=1)&&decide (b.dft=[]))&&decide (vars.length<=16))&&decide (iO (.mk b l)<=64))&&decide (AH (.mk b l)<=200))&&eK b.nm)&&(vars.all A0&&xK b l 1)&&decide (BH (.mk b l)<=400))=(vars.all A0&&pS 0 (.mk b l)&&decide (b.k=1/\vars.length<=16/\iO (.mk b l)<=64/\AH (.mk b l)<=200/\BH (.mk b l)<=400))
 by_cases hk:b.k=1
 ·rw[<-KK (d:=0) (.inl hk) (by decide)];have:decide (b.k=1/\vars.length<=16/\iO (.mk b l)<=64/\AH (.mk b l)<=200/\BH (.mk b l)<=400)=(decide (vars.length<=16)&&decide (iO (.mk b l)<=64)&&decide (AH (.mk b l)<=200)&&decide (BH (.mk b l)<=400)):=by
   rw[bT];simp[hk,and_assoc]
  rw[this,bK hk];generalize decide (b.dft=[])=A;generalize decide (vars.length<=16)=B;generalize decide (iO (.mk b l)<=64)=C;generalize decide (AH (.mk b l)<=200)=D;generalize decide (BH (.mk b l)<=400)=E;generalize eK b.nm=G;generalize vars.all A0=H;show _=(H&&((A&&G)&&xK b l (0+1))&&(B&&C&&D&&E))
  generalize xK b l (0+1)=I;cases A<;>cases B<;>cases C<;>cases D<;>cases E<;>cases G<;>cases H<;>cases I<;>rfl
 ·have:decide (b.k=1/\vars.length<=16/\iO (.mk b l)<=64/\AH (.mk b l)<=200/\BH (.mk b l)<=400)=false:=bG fun h=>hk h.1;rw[this,bG hk];simp
theorem T6{w:ay}{F:aL}{D:Nat}{c:Ch}{vs:Sl}{cs:aK}(hx:ChR false D w F c vs cs)(hn:U8 c)(hs:rj c.vars+pc c.root<=8388608)(hE:Er w)(hT:Tb w):
  aB au 128 #[aj (vs.v::cs).toArray] w fun e w'=>e=aq (ak #[ah (T (gy c).1),O ae (gy c).2])/\aA [] w w':=by
 obtain⟨vars,⟨bb,ks⟩⟩:=c;cases D with
 | zero=>exact hx.root.elim
 | succ D=>
 have WX:oY false (D+1) w F (.mk bb ks) cs:=hx.root;have aaB:=(cN false _).inHeap WX;have xw:aD Sg 3 w F vs vars:=hx.vars.1;obtain⟨en,lv,mv,kids,rfl,wH,tV⟩:=aaB;have wH:Ds false w (fun k=>F k/\k<w.heap.size) bb en lv mv:=wH;have tV:jE false (oY false D) 9 27 w (fun k=>F k/\k<w.heap.size) kids ks:=tV;have hr:=hn.r;have hr:Kj (.mk bb ks):=hr;have hvn:∀v,v∈vars->ry v.v:=hn.v;rw[Kj]at hr;have hs:rj vars+pc (.mk bb ks)<=8388608:=hs;have hsN:pc (.mk bb ks)=F6 bb+iP ks:=by rw[pc]
 have EA:=hs;rw[hsN]at EA;unfold F6 at EA;have af5:=T5 ⟨vars,.mk bb ks⟩;generalize hP:gy ⟨vars,.mk bb ks⟩=P;unfold gy at hP;rw[<-af5]at hP;clear af5;have hP:(if((((((decide (bb.k=1)&&decide (bb.dft=[]))&&decide (vars.length<=16))&&decide (iO (.mk bb ks)<=64))&&decide (AH (.mk bb ks)<=200))&&eK bb.nm)&&(vars.all A0&&xK bb ks 1)&&decide (BH (.mk bb ks)<=400))=true then(if 16384<(iE [] (V3 ⟨vars,.mk bb ks⟩)).length then([],2)else if(dE (iE [] (V3 ⟨vars,.mk bb ks⟩))).2.1≠0 then([],22)else(iE [] (V3 ⟨vars,.mk bb ks⟩),0))else([],22))=P:=hP;show aB au 128 #[aj (vs.v::om bb.k bb.nm bb.ini bb.dft en lv mv kids bb.a).toArray] w _;refine ret (aiZ _ _ _ _ _ _ _ _ _ _ _ _ ?_);intro k0 b w1 gU fi hb kc cF;have hvl:=xw.len;have hvz:=zU vars;refine(KO (D+1) w1 F (.mk bb ks) _ ((cN false _).keep WX fun k _ bX=>cF.block k bX (by simp)) (by omega)).mono ?_;rintro _ w2 ⟨rfl,dh⟩;have z2:=dh.size;refine⟨_,_,rfl,dh.same (by simp;omega),fun re gz=>?_⟩;have q2:Qz w b w2 [] (false,0):=⟨cF.cz dh,hb,⟨none,Sl.nil,.inl rfl,re,.inl ⟨rfl,rfl⟩⟩,fun _=>⟨nJ 0,by decide⟩,bA _⟩
 have t2:Zq false w w2 b w2 [] (false,0) [k0]:=⟨q2,Mw.refl _ _ _,fun k hk=>by
  simp only[aO]at hk;subst hk;exact⟨by omega,gz,fun h=>by have:=KA re h;cases this⟩⟩
 have hF:∀k,(fun k=>F k/\k<w.heap.size) k->k<w.heap.size:=fun k hk=>hk.2;have hw:=q2.o;rw[show ar #[]=T []from rfl,mf,hvl];refine(jG t2.toQz _).mono ?_;rintro _ w3 ⟨rfl,QV,u1,u2,u3⟩;have t3:=t2.nx u2 u3.up;have I3:((((bb.k==1)&&decide (bb.dft=[]))&&decide ((vars.length:Int)<=16))&&decide ((iO (.mk bb ks):Int)<=64)&&decide ((AH (.mk bb ks):Int)<=200))=((((decide (bb.k=1)&&decide (bb.dft=[]))&&decide (vars.length<=16))&&decide (iO (.mk bb ks)<=64))&&decide (AH (.mk bb ks)<=200)):=by
  rw[bT];simp only[aQ,dW,bL];constructor
  ·rintro⟨⟨⟨⟨a1,a2⟩,a3⟩,a4⟩,a5⟩;exact⟨⟨⟨⟨a1,a2⟩,by omega⟩,by omega⟩,by omega⟩
  ·rintro⟨⟨⟨⟨a1,a2⟩,a3⟩,a4⟩,a5⟩;exact⟨⟨⟨⟨a1,a2⟩,by omega⟩,by omega⟩,by omega⟩
 rw[I3]at u1;obtain⟨q3a,q3b,_,xy,_⟩:=t3.ex;refine⟨rfl,t2.sm u3 (by simp),q3a,q3b,_,_,xy,(lZ t3.toQz bb.nm (by omega)).mono ?_⟩;rintro _ w4 ⟨rfl,I1,v1,v2,v3⟩;have t4:=t3.nx v2 v3.up;obtain⟨q4a,q4b,_,vG,_⟩:=t4.ex;have ja:=iG [gL,bb.nm,[123]];simp only[bF,fM,cy,ix,bp,cO]at ja;have hwc:gL.length=5:=rfl;obtain⟨q5,w5,e5,eE,hj5⟩:=xi t4.toQz [gL,bb.nm,[123]] (n:=3) (parts:=#[.mk 0 (ah (T gL)),.mk 1 (ah (T bb.nm)),.mk 2 (ah (T [123]))]) rfl rfl (by decide) (by decide) 0 (by decide) (by omega);refine⟨_,rfl,t3.sm v3 (by simp),q4a,q4b,_,_,vG,q5,w5,e5,?_,hj5.mono ?_⟩
 ·refine eE.same fun x hx=>⟨?_,by simp⟩
  simp only[aR,bf,bU]at hx;rcases hx with rfl | rfl
  ·exact(t4.k x (by simp)).1
  ·exact t4.toQz.lb
 rintro _ w6 ⟨rfl,x1,x2⟩;have t6:=t4.nx x1 x2;have hU6:=u1.tr v1;have hl6:I1.1=false->(if I1.1 then([]:aJ)else pT [] (0,fN [gL,bb.nm,[123]]))=iE [] [(0,gL++32::(bb.nm++[32,123]))]:=fun e=>by
  rw[e];simp only[jY,jI];rw[lI,oP (by decide),fH (qK (v1.ok e).2.1),fH (by rfl),eG,fG,fG,lH];rfl
 generalize (if I1.1 then([]:aJ)else pT [] (0,fN [gL,bb.nm,[123]]))=l6 at*
 obtain⟨q6a,q6b,_,SF,_⟩:=t6.ex;refine⟨rfl,t4.sl eE x2 (by simp),q6a,q6b,_,_,SF,fun nv i q l' wr ac w'=>∃(j:Nat) (cH:St) (l':aJ),i=j/\j<=vars.length/\nv=vars.length-j/\Up I1 ((vars.take j).all A0) 0 cH/\(cH.1=false->l'=iE l6 ((vars.take j).map fun v=>(1,vrT v)))/\Zq false w w2 b w' l' cH [k0],
  vars.length,⟨0,I1,l6,rfl,bA _,rfl,t6.toQz.Zb,fun _=>rfl,t6⟩,?_⟩
 rintro nv _ qa la wr ac w7 ⟨j,WT,l7,rfl,hj,rfl,LP,hl7,t7⟩;refine⟨fun hc=>?_,fun hc=>?_⟩
 ·have bX:(j:Int)<vars.length:=aP hc;obtain⟨ad,v,cs,g1,g2,g3,g4,g5,g6⟩:=(SliceF.only gq (by decide) xw t7.o (by simp)).get (bE j) (by omega);rw[aX]at g2;have hvm:=bD g2;have hvz:=zT hvm;have og:vars.take (j+1)=vars.take j++[v]:=by
   rw[bI,g2];rfl
  unfold Sg at g6;subst g6;refine⟨ad,g1,_,_,_,g5,fun k4 w8 yy A7 gn _=>?_⟩;have t8:=t7.al gn yy A7;refine(jG t8.toQz _).mono ?_;rintro _ w9 ⟨rfl,st9,y1,y2,y3⟩;have t9:=t8.nx y2 y3.up;obtain⟨q9a,q9b,_,hB9,_⟩:=t9.ex;refine⟨rfl,t8.sm y3 (by simp),q9a,q9b,_,_,hB9,fun dI eH _=>⟨fun k=>k∈[k4],by simp,?_⟩⟩;have t10:=t9.q eH;refine(lZ t10.toQz v.n (by omega)).mono ?_;rintro _ dJ ⟨rfl,aax,y4,y5,y6⟩;have t11:=t10.nx y5 y6.up;obtain⟨amG,amH,_,GZ,_⟩:=t11.ex;refine⟨_,rfl,t10.sm y6 (by simp),amG,amH,_,_,GZ,bS.of (t10.sm y6 (by simp)),(yi v.v (hvn v hvm) (hT.only t11.o)).mono ?_⟩;rintro _ fg ⟨rfl,fj⟩;have t12:=t11.q fj;obtain⟨amI,amJ,_,aaC,_⟩:=t12.ex;have Hh:=F5 (hvn v hvm);have ja:=iG [FJ,v.n,[61],Lib.itoa v.v++[59]];simp only[bF,fM,cy,ix,bp,cO,aU]at ja;have hwv:FJ.length=3:=rfl;obtain⟨q13,fC,e13,eS,amK⟩:=xi t12.toQz [FJ,v.n,[61],Lib.itoa v.v++[59]] (n:=4) (parts:=#[.mk 0 (ah (T FJ)),.mk 1 (ah (T v.n)),.mk 2 (ah (T [61])),.mk 3 (ah (T (Lib.itoa v.v++[59])))]) rfl rfl (by decide) (by decide) 1 (by decide) (by omega);refine⟨T (Lib.itoa v.v),rfl,t11.sq fj (by simp),amI,amJ,_,_,aaC,bS.of (t11.sq fj (by simp)),by rw[dH];omega,q13,fC,by rw[show ar #[59]=T [59]from rfl,lf];exact e13,?_,bS.of (t12.sq eS (by simp)),amK.mono ?_⟩
  ·refine eS.same fun x hx=>⟨?_,by simp⟩
   simp only[aR,bf,bU]at hx;rcases hx with rfl | rfl | rfl
   ·exact(t12.k x (by simp)).1
   ·exact t12.toQz.lb
   ·exact(t12.k x (by simp)).1
  rintro _ fT ⟨rfl,y7,y8⟩;have t14:=t12.nx y7 y8;obtain⟨amL,amM,_,GY,_⟩:=t14.ex;refine⟨rfl,t12.sl eS y8 (by simp),amL,amM,_,_,GY,bS.of (t12.sl eS y8 (by simp)),vars.length-(j+1),by omega,j+1,aax,_,by rw[gD (by omega) (by omega)];rfl,by omega,rfl,((LP.tr y1).tr y4).cg ?_ rfl,fun e=>?_,⟨t14.toQz,t14.m,fun k hk=>t14.k k (by simp at hk;simp[hk])⟩⟩
  ·rw[og,yC];have:(v.v != -9223372036854775808)=decide (v.v≠ -9223372036854775808):=by rw[bT];simp
   rw[this];unfold A0;simp only[List.all_cons,List.all_nil,mO];rw[Ba,Bool.and_comm (decide _) (eK _)]
  ·have RT:ne (Lib.itoa v.v++[59])=true:=by
    have:Lib.itoa v.v++[59]≠[]:=by simp
    unfold ne;rw[bG this];rfl
   rw[e];simp only[jY,jI];rw[hl7 (y1.ok (y4.ok e).1).1,og,da,jF,oP (by decide),fH (qK (y4.ok e).2.1),fH (by rfl),fH RT,eG,fG,fG,fG,lH,bR];rfl
 have mz:¬(j:Int)<vars.length:=aW hc;have qo:j=vars.length:=by omega
 subst qo;rw[bC (aY _)]at LP hl7;refine(P7 (KN D) t7.toQz (wH.keep fun k hk _=>t7.o.block k hk.2 (by simp)) (tV.keep (cN false D) (by decide) fun k hk _=>t7.o.block k hk.2 (by simp)) hF hr.1 hr.2 (by omega) 1 (by decide) hE hT).mono ?_;rintro _ w8 ⟨rfl,st8,l8,hU8,hl8,y1,y2⟩;have t8:=t7.nx y1 y2;obtain⟨q8a,q8b,_,uz,_⟩:=t8.ex;obtain⟨q9,w9,e9,gv,hj9⟩:=xi t8.toQz [[125]] (n:=1) (parts:=#[.mk 0 (ah (T [125]))]) rfl rfl (by decide) (by decide) 0 (by decide) (by decide);refine⟨rfl,t7.sm y2 (by simp),q8a,q8b,_,_,uz,q9,w9,e9,?_,hj9.mono ?_⟩
 ·refine gv.same fun x hx=>⟨?_,by simp⟩
  simp only[aR,bf,bU]at hx;rcases hx with rfl | rfl
  ·exact(t8.k x (by simp)).1
  ·exact t8.toQz.lb
 rintro _ dI ⟨rfl,x3,x4⟩;have t10:=t8.nx x3 x4;have hU:=hU6.tr (LP.tr hU8);have hlF:st8.1=false->(if st8.1 then l8 else pT l8 (0,fN [[125]]))=iE [] (V3 ⟨vars,.mk bb ks⟩):=fun e=>by
  obtain⟨e7,_⟩:=hU8.ok e;obtain⟨e4,_⟩:=LP.ok e7;rw[e];simp only[jY,jI];rw[hl8 e,hl7 e7,hl6 e4];have e1:fN [[125]]=[125]:=by decide
  rw[e1,<-lI,<-jF,<-jF,<-jF];unfold V3;rw[bQ (nbL 1 bb)];exact rfl
 generalize (if st8.1 then l8 else pT l8 (0,fN [[125]]))=lF at*
 obtain⟨af7,af8,_,tE,_⟩:=t10.ex;have hcond:((((((decide (bb.k=1)&&decide (bb.dft=[]))&&decide (vars.length<=16))&&decide (iO (.mk bb ks)<=64))&&decide (AH (.mk bb ks)<=200))&&eK bb.nm)&&(vars.all A0&&xK bb ks 1)&&decide (BH (.mk bb ks)<=400))=!st8.1:=by
  have h1:=hU.w;have amN:decide (400<(0:Int)+((0+0+(0+(V2 bb+uh ks)):Nat):Int))=!decide (BH (.mk bb ks)<=400):=by
   rw[BH];by_cases h4:V2 bb+uh ks<=400
   ·rw[bK h4,bG (by omega)];rfl
   ·rw[bG h4,bK (by omega)];rfl
  have h1:st8.1=((false||!((((((decide (bb.k=1)&&decide (bb.dft=[]))&&decide (vars.length<=16))&&decide (iO (.mk bb ks)<=64))&&decide (AH (.mk bb ks)<=200))&&eK bb.nm)&&(vars.all A0&&xK bb ks 1)))||decide (400<(0:Int)+((0+0+(0+(V2 bb+uh ks)):Nat):Int))):=h1;rw[amN]at h1;rw[h1];generalize ((((((decide (bb.k=1)&&decide (bb.dft=[]))&&decide (vars.length<=16))&&decide (iO (.mk bb ks)<=64))&&decide (AH (.mk bb ks)<=200))&&eK bb.nm)&&(vars.all A0&&xK bb ks 1))=A;generalize decide (BH (.mk bb ks)<=400)=B;cases A<;>cases B<;>rfl
 rw[hcond]at hP;have fin:∀{w':ay},aA [] w2 w'->aA [] w w':=fun h=>hw.cz h;have o10:aA [] w dI:=t10.o;refine⟨rfl,t8.sl gv x4 (by simp),af7,af8,_,_,tE,fun e=>?_,fun e=>(KE t10.toQz).mono ?_⟩
 ·rw[if_neg (by rw[e];decide)]at hP;subst hP;exact⟨rfl,o10⟩
 rw[if_pos (by rw[e];rfl),<-hlF e]at hP;rintro _ _ ⟨rfl,rfl⟩;obtain⟨slP,hPt,hPb⟩:=t10.toQz.pt;have hbu:=fun k hk=>t10.toQz.bu (hPb k hk);refine⟨_,rfl,fun _ _=>rfl,af7,af8,_,_,tE,fun e2=>?_,fun e2=>(KP hPt).mono ?_⟩
 ·rw[if_pos (aP e2)]at hP;subst hP;exact⟨rfl,o10⟩
 rw[if_neg (aW e2)]at hP;rintro _ dJ ⟨rfl,WY,dT⟩;have Co:=dT.size;have hlb:=t10.toQz.lb;have k0h:=t10.k k0 (by simp);have ko:∀k,(b<k/\slP.a=some ⟨k,0,none⟩)->w.heap.size<=k:=fun k hk=>by have:=t10.lo;omega
 have o11:aA [] w dJ:=(o10.pd dT).only ko;obtain⟨q11,GZ⟩:=WY.blk;refine⟨_,rfl,dT.same fun x hx=>?_,q11,slP,_,_,GZ,(F0 _ (hE.only o11)).mono ?_⟩
 ·simp only[aO]at hx;subst hx;exact⟨k0h.1,fun h=>k0h.2.2 (hPb _ h.2)⟩
 rintro _ fg ⟨vsx,csx,rfl,hC,fj⟩;obtain⟨xe,xl,xm,xk,rfl,_⟩:=hC.root;have WZ:=WY.only fj;obtain⟨q12,aaC⟩:=WZ.blk;have o12:=o11.cz fj;have z12:=fj.size;refine⟨vsx,_,_,_,_,xe,xl,xm,xk,_,_,_,rfl,fj.same (by simp;omega),q12,slP,_,_,aaC,fun e3 k6 k7 fC _ _ _ _ eS _=>?_,fun e3 k8 k9 fT hk8 ZH hk9 af9 dU _=>?_⟩
 ·rw[if_pos (by simpa using e3)]at hP;subst hP;exact⟨rfl,o12.cz eS⟩
 ·rw[if_neg (by simpa using e3)]at hP;subst hP;refine(KP (WZ.only dU)).mono ?_;rintro _ iJ ⟨rfl,aga,iu⟩;obtain⟨q15,aai⟩:=aga.blk;have ZL:=dU.size;refine⟨_,rfl,iu.same fun x hx=>?_,q15,slP,_,_,aai,rfl,((o12.cz dU).pd iu).only ko⟩;simp only[aR,bf,bU]at hx;rcases hx with rfl | rfl | rfl
  ·exact⟨by omega,fun h=>k0h.2.2 (hPb _ h.2)⟩
  ·exact⟨ZH,fun h=>by have:=(hbu _ h.2).2;omega⟩
  ·exact⟨af9,fun h=>by have:=(hbu _ h.2).2;omega⟩
end Go.Proofs.YtbkjcdocjfknfaaGreatDoor.Con
