import Derived.Test.YtmgndgpgngcgpaaGreatDoorQm5
set_option linter.unusedSectionVars false
set_option linter.unusedSimpArgs false
set_option linter.unusedVariables false
set_option maxHeartbeats 4000000
set_option maxRecDepth 100000
open Go.Value renaming int->O,string->ab,pointer->ae,agg->ah,tuple->ai,bool->aj
open Go.IntKind renaming i64->U,wrap->ar
open Go.Ending renaming returned->ak
open _root_.ByteArray renaming mk->ao
open _root_.Go.Proofs.Tryz renaming prog->aq
open Go.Instr renaming buildSlice->au
open Go renaming World->av,Value->aw,Calls->az
open Go.Kt renaming Only->ay,SliceF->aA,Cells->aB,OnlyP->aD,Blk->aF
open Go renaming World->av,Value->aw
namespace Go.Proofs.YtmgndgpgngcgpaaGreatDoor.Con
open Go Go.RowKit Go.Kt Go.Kt.V Go.Proofs.YtmgndgpgngcgpaaGreatDoor.Vc
theorem HH{iT xs:aI}{j:Nat}{v:aw}(h:xs[j]? =some v):(iT++xs)[iT.length+j]? =some v:=by
 rw[dE aE,dI];exact h
theorem lG(iT xs vs:aI)(j:Nat):bZ (iT++xs) (iT.length+j) vs=iT++bZ xs j vs:=by
 unfold bZ;rw[PB,fb,PC];simp only[bf]
structure NbO (B:Nat) (w:av) (n:Nb) (en lv mv:Sl):Prop where
 en:ja true (sN true) 9 139 w (λk=>B<=k/\mv.a≠some ⟨k,0,none⟩) en n.en
 lv:ja true (sN true) 9 139 w (λk=>B<=k/\mv.a≠some ⟨k,0,none⟩) lv n.lv
 mv:Own (zq true) 13 43 B w (Fr B) mv n.mv
section
variable {B:Nat} {w w':av} {n:Nb} {en lv mv:Sl}
theorem NbO.go(h:NbO B w n en lv mv){bs:List Nat}(k:ay bs w w')(hb:∀x,x∈bs->x<B):NbO B w' n en lv mv:=
 ⟨h.en.keep (dH true) aL λi hi cd=>k.block i cd λhm=>(by have:=hb i hm;omega),h.lv.keep (dH true) aL λi hi cd=>k.block i cd λhm=>(by have:=hb i hm;omega),h.mv.stay (gj true) k λx hx=>.inl (hb x hx)⟩
theorem NbO.mU(h:NbO B w n en lv mv){gs:List Nat}{ve:Sl}{m:Mv}(qy:Own (zq true) 13 43 B w' (λk=>Fr B k∨w.heap.size<=k) ve (n.mv++[m]))(k:ay gs w w')(tv:∀g,g∈gs->mv.a=some ⟨g,0,none⟩)(ha:ve.a=mv.a∨∃g,ve.a=some ⟨g,0,none⟩/\w.heap.size<=g)(hB:B<=w.heap.size):NbO B w' {n with mv:=n.mv++[m]} en lv ve:=by
 have go:∀{la:Sl} {xs:List Ac},ja true (sN true) 9 139 w (λk=>B<=k/\mv.a≠some ⟨k,0,none⟩) la xs->ja true (sN true) 9 139 w' (λk=>B<=k/\ve.a≠some ⟨k,0,none⟩) la xs:=λhx=>
  ((hx.inHeap (dH true) aL).keep (dH true) aL λi hi cd=>k.block i cd λhm=>hi.1.2 (tv i hm)).mono (dH true) λi hi=>⟨hi.1.1,by
   rcases ha with ha | ⟨g,ha,hg⟩
   ·rw[ha];exact hi.1.2
   rw[ha];intro e;injection e with e;injection e with e;have:=hi.2;omega⟩
 exact⟨go h.en,go h.lv,qy.mono (gj true) λi hi=>hi.elim id λhi=>bh hB hi⟩
theorem NbO.ZS(h:NbO B w n en lv mv){A:Nat}{la:Sl}{xs:List Ac}(hx:ja true (sN true) 9 139 w (Fr A) la xs)(hA:B<=A)(hm:∀k,A<=k->mv.a≠some ⟨k,0,none⟩):NbO B w {n with en:=xs} la lv mv:=
 ⟨hx.mono (dH true) λk hk=>⟨bh hA hk,hm k hk⟩,h.lv,h.mv⟩
theorem NbO.ZT(h:NbO B w n en lv mv){A:Nat}{la:Sl}{xs:List Ac}(hx:ja true (sN true) 9 139 w (Fr A) la xs)(hA:B<=A)(hm:∀k,A<=k->mv.a≠some ⟨k,0,none⟩):NbO B w {n with lv:=xs} en la mv:=
 ⟨h.en,hx.mono (dH true) λk hk=>⟨bh hA hk,hm k hk⟩,h.mv⟩
end
abbrev Jx(h:y9):aI:=[aj false,aj h.i,aj h.e,aj h.l]
structure Cl (F:aJ) (ts:List Tk) (w w':av) (b:Nat) (l:Sl) (g t:Nat) (iT:aI) (kh B:Nat) (s:Sx) (n:Nb) (h:y9) (en lv mv:Sl):Prop where
 r:Sr F ts w' b l s
 nb:aF w' g t (iT++oB n.k n.nm n.ini n.dft en lv mv Sl.nil n.a)
 hb:aF w' kh 166 (Jx h)
 no:NbO B w' n en lv mv
 o:∃gs,ay (b::g::kh::gs) w w'/\∀x,x∈gs->B<=x
 ng:g≠b/\¬F g
 nh:b<kh
 gh:g≠kh
 gB:g<B
 hB:kh<B
 lB:B<=w'.heap.size
section
variable {F:aJ} {ts:List Tk} {w w' w2:av} {b:Nat} {l:Sl} {g t:Nat} {iT:aI} {kh B:Nat} {s s':Sx} {n n':Nb} {h h':y9} {en lv mv Co Cp ve:Sl}
theorem Cl.nx(c:Cl F ts w w' b l g t iT kh B s n h en lv mv)(k:Dn F ts w' w2 b l s'):Cl F ts w w2 b l g t iT kh B s' n h en lv mv:=by
 have ng:=c.ng;have nh:=c.nh;have gB:=c.gB;have hBl:=c.hB;obtain⟨gs,h1,h2⟩:=c.o;exact⟨k.r,k.o.blk c.nb aal,k.o.blk c.hb aal,c.no.go k.o λx hx=>aai,
  ⟨gs,h1.trans k.o λx hx=>.inl aag,h2⟩,ng,nh,c.gh,gB,c.hB,bh c.lB k.o.size⟩
theorem Cl.q(c:Cl F ts w w' b l g t iT kh B s n h en lv mv)(k:ay [] w' w2):Cl F ts w w2 b l g t iT kh B s n h en lv mv:=c.nx (c.r.dn.q k)
theorem Cl.st(c:Cl F ts w w' b l g t iT kh B s n h en lv mv)(k:ay [g] w' w2)(hB:aF w2 g t (iT++oB n'.k n'.nm n'.ini n'.dft Co Cp ve Sl.nil n'.a))(no:NbO B w' n' Co Cp ve):Cl F ts w w2 b l g t iT kh B s n' h Co Cp ve:=by
 obtain⟨gs,h1,h2⟩:=c.o;have gB:=c.gB;exact⟨c.r.U0 k c.ng,hB,k.blk c.hb (by simpa using λe=>c.gh e.symm),no.go k λx hx=>aai,⟨gs,h1.trans k λx hx=>.inl aag,h2⟩,c.ng,c.nh,c.gh,gB,c.hB,bh c.lB k.size⟩
theorem Cl.hd(c:Cl F ts w w' b l g t iT kh B s n h en lv mv)(k:ay [kh] w' w2)(hB:aF w2 kh 166 (Jx h')):Cl F ts w w2 b l g t iT kh B s n h' en lv mv:=by
 obtain⟨gs,h1,h2⟩:=c.o;have hB':=c.hB;exact⟨c.r.one k c.nh,k.blk c.nb (by simpa using c.gh),hB,c.no.go k λx hx=>aai,⟨gs,h1.trans k λx hx=>.inl aag,h2⟩,c.ng,c.nh,c.gh,c.gB,hB',bh c.lB k.size⟩
def Y7(h:y9)(j:Nat):Bool:=if j=1 then h.i else if j=2 then h.e else h.l
def Mg(h:y9)(j:Nat):y9:=if j=1 then{h with i:=true}else if j=2 then{h with e:=true}else{h with l:=true}
theorem j3{j:Nat}(h0:j≠0)(h3:j<=3):j=1∨j=2∨j=3:=aE
theorem Jy(c:Cl F ts w w' b l g t iT kh B s n h en lv mv)(hm:n.mv.length<ts.length):az aq 97 #[rp b,ae (some ⟨g,iT.length,none⟩),ae (some ⟨kh,0,none⟩)] w' λe w2=>e=ak (aj (dm ts n h s).1)/\
  ∃Co Cp ve,Cl F ts w w2 b l g t iT kh B (dm ts n h s).2.2.2 (dm ts n h s).2.1 (dm ts n h s).2.2.1 Co Cp ve:=by
 refine ret (YD _ _ _ _ _ ?_);have tP:=c.r.sm;obtain⟨q,w0,e1,cw,NM⟩:=HE c.r [wG,fI,fY] (n:=3) (parts:=#[(0,ab (T wG)),(1,ab (T fI)),(2,ab (T fY))]) rfl rfl aL aL;refine⟨q,w0,e1,NM.mono ?_⟩;rintro _ w1 ⟨rfl,cA⟩;have c1:=(c.q cw).q cA;refine⟨_,rfl,λhc w2 cO=>?_,λhc=>?_⟩
 ·have hc:=Jw hc;have c2:=c1.q cO;have pj:dm ts n h s=(true,{n with mv:=n.mv++[(lf ts (cu ts s [wG,fI,fY]:Nat) s).1]},h,(lf ts (cu ts s [wG,fI,fY]:Nat) s).2):=by
   unfold dm;rw[aR hc]
  rw[pj];refine⟨λk=>k=g,_,rfl,rfl,mv,c2.nb.SX (iT.length+6) (HH rfl),(QB c2.r _ (dc hc).2).mono ?_⟩;rintro _ w3 ⟨cs,rfl,hx,h3⟩;have c3:=c2.nx h3;generalize (lf ts (cu ts s [wG,fI,fY]:Nat) s).1=m at*
  generalize (lf ts (cu ts s [wG,fI,fY]:Nat) s).2=u at*
  have EI:=hx;obtain⟨gc,nM,tg,rfl,hg,_,_⟩:=EI;obtain⟨sl,rfl⟩:=eV hg;have ng:=c.ng;have gB:=c.gB;obtain⟨y,w4,e2,dR,ve,w5,e3,qy,⟨gs,fe,tv⟩,ha⟩:=rO (P:=aq) (t:=24) (ty:=24) (e:=43) (i:=Tryz.t43) (bytes:=168) (size:=13) (v:=ah (mvv m.k m.ev m.wt m.gd (kD m.g.k m.g.n m.g.s m.g.op sl m.g.a) nM tg m.a).toArray) (x:=m) (G:=Fr w2.heap.size) (by kernel_rfl) (by kernel_rfl) rfl rfl rfl rfl aL aL aL (gj true) c3.no.mv c3.lB rfl hx (λk hk _=>⟨bh c2.lB hk,c2.no.mv.new hk⟩) aE;have wN:ay gs w3 w5:=(dR.weaken (bs':=gs) λ_ h=>aah).trans fe λx hx=>.inl hx;have pu:∀x,x∈gs->B<=x:=λx hx=>(tv x hx).2.1;have hn:g∉gs:=λhm=>by have:=pu g hm;omega
  have vd:=wN.blk c3.nb hn;refine⟨_,_,_,_,_,_,_,_,sl,_,nM,tg,_,rfl,λk hk cd=>(by subst hk;exact h3.o.block k cd aal),y,w4,e2,bR.only dR,ve,w5,e3,λk hk cd=>(by subst hk;exact fe.block k cd hn),_,rfl,g,_,_,_,rfl,vd,aM,λw6 ez KG=>⟨rfl,en,lv,ve,?_⟩⟩;rw[lG]at KG;have no5:=c3.no.mU qy wN (λx hx=>(tv x hx).1) ha c3.lB;obtain⟨gs0,o1,o2⟩:=c3.o;have nh:=c.nh;have hBB:=c.hB;have lB:=c3.lB;have hgh:=c.gh;have z5:=wN.size;have z6:=ez.size;exact⟨(c3.r.own wN λx hx=>(by have:=pu x hx;omega)).U0 ez ng,KG,(ez.block kh (by have:=c3.hb.lt;omega) aal).trans (wN.blk c3.hb λhm=>(by have:=pu kh hm;omega)),
   no5.go ez λx hx=>aai,⟨gs++gs0,((o1.weaken (bs':=b::g::kh::(gs++gs0)) λx hx=>.inl (by simp only[aX,cD]at hx⊢;rcases hx with hx | hx | hx | hx<;>simp[hx])).trans wN λx hx=>.inl aa4).trans ez λx hx=>.inl aag,λx hx=>(cD.1 hx).elim (pu x) (o2 x)⟩,ng,nh,hgh,gB,hBB,aE⟩
 have hc:=Jv hc;obtain⟨q,w7,e1,gD,NM⟩:=HE c1.r [ec,fZ,ga] (n:=3) (parts:=#[(0,ab (T ec)),(1,ab (T fZ)),(2,ab (T ga))]) rfl rfl aL aL;refine⟨q,w7,e1,NM.mono ?_⟩;rintro _ w8 ⟨rfl,gp⟩;have c8:=(c1.q gD).q gp;have IE:cu ts s [ec,fZ,ga]<=3:=DI _;refine⟨_,rfl,λhj=>?_,λhj=>?_⟩
 ·have hj:=Y5 hj;have pj:dm ts n h s=(false,n,h,s):=by unfold dm;rw[aO aaf,hj];rfl
  rw[pj];exact⟨rfl,_,_,_,c8⟩
 have hj:=Y6 hj;have hnx:=yD c.r hj;have pj:dm ts n h s=(if Y7 h (cu ts s [ec,fZ,ga])then(false,n,h,jA ts s)else if cu ts s [ec,fZ,ga]=1 then(true,{n with ini:=(io ts (cX s)).1},Mg h 1,dP ts (io ts (cX s)).2 [59])else if cu ts s [ec,fZ,ga]=2 then(true,{n with en:=(gf ts (cX s)).1},Mg h 2,(gf ts (cX s)).2)else(true,{n with lv:=(gf ts (cX s)).1},Mg h 3,(gf ts (cX s)).2)):=by
  unfold dm;rw[aO aaf];rcases j3 hj IE with e | e | e<;>rw[e]<;>rfl
 rw[pj];generalize cu ts s [ec,fZ,ga]=j at*
 have Oc:(Jx h)[j]? =some (aj (Y7 h j)):=by rcases j3 hj IE with e | e | e<;>rw[e]<;>rfl
 have hp:GR ⟨kh,0,none⟩ (j:Int) 4 1 ⟨kh,j,none⟩:=⟨aE,aE,by rw[gM,ba];simp⟩
 refine⟨_,rfl,⟨kh,j,none⟩,hp,_,c8.hb.SX j Oc,λhh=>?_,λhh=>?_⟩
 ·rw[aR hh];refine(rj c8.r).mono ?_;rintro _ w9 ⟨rfl,h9⟩;exact⟨rfl,rfl,_,_,_,c8.nx h9⟩
 rw[aO (by rw[hh];decide)];refine⟨_,rfl,⟨kh,j,none⟩,hp,kh,j,_,_,rfl,c8.hb,by show j+1<=4;omega,λdz dL nG=>?_⟩;have c10:Cl F ts w dz b l g t iT kh B s n (Mg h j) en lv mv:=c8.hd dL (by
  have e:bZ (Jx h) j [aj true]=Jx (Mg h j):=by rcases j3 hj IE with e | e | e<;>rw[e]<;>rfl
  rwa[e]at nG)
 refine⟨_,Blk.eo c10.r.blk 1 rfl,b,1,_,_,rfl,c10.r.blk,aM,λdJ dW zD=>?_⟩;rw[c.r.wr]at zD;have Pv:=c10.nx (s':=cX s) ⟨dW,c10.r.j5 dW zD hnx⟩;refine⟨λw'=>∃Co Cp ve,Cl F ts w w' b l g t iT kh B _ _ _ Co Cp ve,λeM IW=>⟨by split<;>(try split)<;>rfl,IW⟩,λEV=>?_,λEV=>⟨λRi=>?_,λRi=>?_⟩⟩
 ·have e1:j=1:=by have:(j:Int)=1:=(by simpa using EV);omega
  subst e1;rw[aR rfl];refine(uA Pv.r).mono ?_;rintro _ eW ⟨rfl,vU⟩;have c13:=Pv.nx vU;refine⟨_,rfl,_,rfl,g,_,_,_,rfl,c13.nb,aM,λfJ eF EC=>?_⟩;rw[lG]at EC;have c14:=c13.st (n':={n with ini:=(io ts (cX s)).1}) eF EC ⟨c13.no.en,c13.no.lv,c13.no.mv⟩;obtain⟨q,ir,e1,j7,NM⟩:=pc c14.r [59];refine⟨q,ir,e1,NM.mono ?_⟩;rintro _ jD ⟨rfl,h16⟩;exact⟨rfl,_,_,_,(c14.q j7).nx h16⟩
 ·have e1:j=2:=by have:(j:Int)=2:=(by simpa using Ri);omega
  subst e1;rw[aO aL,aR rfl];refine(yC Pv.r).mono ?_;rintro _ iK ⟨la,rfl,hla,Pj⟩;have c17:=Pv.nx Pj;refine⟨la,rfl,_,rfl,g,_,_,_,rfl,c17.nb,aM,λjt jP Ow=>?_⟩;rw[lG]at Ow;exact⟨_,_,_,c17.st (n':={n with en:=(gf ts (cX s)).1}) jP Ow (c17.no.ZS hla Pv.lB λk hk=>Pv.no.mv.new hk)⟩
 have e0:j≠1:=λe=>by rw[e]at EV;simp at EV
 have e1:j=3:=by have:¬(j:Int)=2:=(by simpa using Ri);omega
 subst e1;rw[aO aL,aO aL];refine(yC Pv.r).mono ?_;rintro _ jS ⟨la,rfl,hla,h19⟩;have c19:=Pv.nx h19;refine⟨la,rfl,_,rfl,g,_,_,_,rfl,c19.nb,aM,λjs kO aa8=>?_⟩;rw[lG]at aa8;exact⟨_,_,_,c19.st (n':={n with lv:=(gf ts (cX s)).1}) kO aa8 (c19.no.ZT hla Pv.lB λk hk=>Pv.no.mv.new hk)⟩
end
section
variable {F:aJ} {ts:List Tk} {w w' w2:av} {b:Nat} {l:Sl} {s s':Sx}
theorem DT(h:Sr F ts w b l s)(k:Int):az aq 46 #[rp b,O U k] w λe w'=>e=ak (ah (oB (dY ts k s).1.k (dY ts k s).1.nm [] [] Sl.nil Sl.nil Sl.nil Sl.nil (dY ts k s).1.a).toArray)/\Dn F ts w w' b l (dY ts k s).2:=by
 refine ret (Yx _ _ _ _ ?_);intro k0 k1 w0 iJ dV ku jK cw;have t0:=((h.zt.q cw).ad iJ dV).ad ku jK;obtain⟨ad,g1,g2⟩:=t0.r.now;refine⟨λw'=>Zt F ts w w' b l (nW ts s) [k1,k0],λw1 t1=>(uz t1.r (k:=1) aL).mono ?_,l,Blk.eo t0.r.blk 0 rfl,_,Blk.eo t0.r.blk 1 rfl,ad,g1,_,g2.eo 0 _ rfl,λhc w5 fe=>?_,λhc w8 gp=>?_⟩
 ·rintro _ w2 ⟨rfl,h2⟩;have t2:=t1.nx h2;refine⟨_,_,_,_,rfl,t1.sc h2 aM,λk2 w3 qw vS da n1 n2 n3=>⟨λk=>k=k2,rfl,λe=>n3 e,λe=>n3 e,λw4 dR=>⟨rfl,?_⟩⟩⟩;have t3:=t2.q da;have z3:=t3.z.go dR λx hx=>.inr aaF;exact⟨z3.o,t3.r.own dR λx hx=>t3.lt aaF⟩
 ·have hc:(tk ts s.i).k=1:=aaf
  have t5:=t0.q fe;unfold nW;rw[aR hc];refine(Uj t5.r).mono ?_;rintro _ w6 ⟨rfl,h6⟩;have t6:=t5.nx h6;refine⟨rfl,t5.sc h6 aM,_,Blk.eo t6.r.blk 6 rfl,λhd=>?_,λhd=>?_⟩
  ·rw[aR (by simpa using hd)];refine(xf t6.r 21).mono ?_;rintro _ w7 ⟨rfl,h7⟩;exact⟨rfl,t6.sc h7 aM,t6.nx h7⟩
  rw[aO (by simpa using hd)];exact t6
 have hc:¬(tk ts s.i).k=1:=aaf
 unfold nW;rw[aO hc];exact t0.q gp
def Sq(F:aJ)(ts:List Tk)(b:Nat)(l:Sl)(f:Nat)(d:Int):Prop:=∀(k:Int) (u:Sx) (w:av),Sr F ts w b l u->u.d=d->az aq 98 #[rp b,O U k] w λe w'=>∃cs,e=ak (ah cs.toArray)/\rY true f w' (Fr w.heap.size) (jr ts f k u).1 cs/\Dn F ts w w' b l (jr ts f k u).2
theorem Ss{f:Nat}(hf:0<f)(w:av)(G:aJ):rY true f w G Jp (oB 0 [] [] [] Sl.nil Sl.nil Sl.nil Sl.nil 0):=by
 obtain⟨m,rfl⟩:∃m,f=m+1:=⟨f-1,aE⟩
 exact⟨_,_,_,_,rfl,⟨ja.nil _ _ _ _ _ _,ja.nil _ _ _ _ _ _,ja.nil _ _ _ _ _ _⟩,ja.nil _ _ _ _ _ _⟩
abbrev Su(f B:Nat)(w:av)(s:Sl)(xs:List Nd):Prop:=Own (rY true f) 9 27 B w (Fr B) s xs
theorem Ag{f B g t:Nat}{iT:aI}{n1:Nb}{en lv mv l2 l8:Sl}{acc:List Nd}{x:Nd}{k:Int}{nm ini dft:aH}{a b1 b2 b3:Sl}{at_:Int}{k0:Nat}{Q:av->Prop}{H:aJ}
  (hx:rY true f w H x (oB k nm ini dft a b1 b2 b3 at_)) (hH:∀i,H i->i<w.heap.size->Fr B i/\l8.a≠some ⟨i,0,none⟩) (hH':∀i,H i->B<=i) (qy:Su f B w l8 (acc++[Jp])) (hn:l2.n=acc.length)
  (sR:aF w g t (iT++oB n1.k n1.nm n1.ini n1.dft en lv mv l2 n1.a)) (hg:g<B) (iJ:k0<B) (hgk:k0≠g)
  (hQ:∀w',aF w' g t (iT++oB n1.k n1.nm n1.ini n1.dft en lv mv l8 n1.a)->Su f B w' l8 (acc++[x])->(∃gk,B<=gk/\ay [g,gk] w w')->Q w'):
  ∃p1:Addr,dN l8 (l2.n:Int) 9 p1/\∃p2:Addr,(some (⟨g,iT.length,none⟩:Addr))=(some p2)/\
   (∃tt IK:Nat,∃z2:aI,∃JV:Nat,p1=⟨tt,IK,none⟩/\aF w tt JV z2/\(IK+9)<=z2.length/\k0≠tt/\
    ∀ir:av,ay [tt] w ir->aF ir tt JV (bZ z2 IK [O U k,ab (T nm),ab (T ini),ab (T dft),a.v,b1.v,b2.v,b3.v,O U at_])->∃EB Pe:Nat,∃z3:aI,∃k18:Nat,(p2.add 7)=⟨EB,Pe,none⟩/\
    aF ir EB k18 z3/\(Pe+1)<=z3.length/\k0≠EB/\∀jD:av,ay [EB] ir jD->aF jD EB k18 (bZ z3 Pe [l8.v])->Q jD)/\
   ∃Gk Gl:Nat,∃z4:aI,∃k21:Nat,(p2.add 7)=⟨Gk,Gl,none⟩/\aF w Gk k21 z4/\(Gl+1)<=z4.length/\k0≠Gk/\
    ∀iK:av,ay [Gk] w iK->aF iK Gk k21 (bZ z4 Gl [l8.v])->∃NP Vg:Nat,∃z5:aI,∃k24:Nat,p1=⟨NP,Vg,none⟩/\
    aF iK NP k24 z5/\(Vg+9)<=z5.length/\k0≠NP/\∀jt:av,ay [NP] iK jt->aF jt NP k24 (bZ z5 Vg [O U k,ab (T nm),ab (T ini),ab (T dft),a.v,b1.v,b2.v,b3.v,O U at_])->Q jt:=by
 have cd:l2.n<(acc++[Jp]).length:=aay
 have Ey:(acc++[Jp]).set l2.n x=acc++[x]:=by rw[hn,List.set_append_right _ _ (aY _),GI];rfl
 obtain⟨gk,cells,a1,a2,a3,a4,a5⟩:=Own.store (du true f) qy cd (vs:=oB k nm ini dft a b1 b2 b3 at_) rfl hx hH aL;have hgB:=(qy.blk a1).1;dsimp only at hgB;refine⟨_,a2,_,rfl,⟨gk,l2.n*9,cells,_,rfl,a3,a4,aE,λir j7 VY=>⟨g,iT.length+7,_,t,rfl,j7.blk sR aal,aM,hgk,λjD jQ Ot=>?_⟩⟩,g,iT.length+7,_,t,rfl,sR,aM,hgk,λiK jf aba=>?_⟩
 ·rw[lG]at Ot;have o15:=a5 ir j7 VY;rw[Ey]at o15;exact hQ jD Ot (o15.stay (du true f) jQ λx hx=>.inl aai) ⟨gk,hgB,(j7.weaken (bs':=[g,gk]) λx hx=>.inl aag).trans jQ λx hx=>.inl aag⟩
 rw[lG]at aba;have z17:=jf.size;have abb:Su f B iK l8 (acc++[Jp]):=qy.stay (du true f) jf λx hx=>.inl aai;have agJ:rY true f iK (λi=>H i/\i<w.heap.size) x (oB k nm ini dft a b1 b2 b3 at_):=(du true f).keep ((du true f).inHeap hx) λi hi cd=>jf.block i cd (by have:=hH' i hi.1;simp only[aQ];omega);obtain⟨gk',VZ,c1,c2,c3,c4,c5⟩:=Own.store (du true f) abb cd (vs:=oB k nm ini dft a b1 b2 b3 at_) rfl agJ (λi hi _=>hH i hi.1 hi.2) aL;have e:gk'=gk:=by
  rw[a1]at c1;injection c1 with c1;injection c1 with c1;exact c1.symm
 subst e;refine⟨gk',l2.n*9,VZ,_,rfl,c3,c4,aE,λjt jP Ow=>?_⟩;have o18:=c5 jt jP Ow;rw[Ey]at o18;exact hQ jt (jP.blk aba aal) o18 ⟨gk',hgB,(jf.weaken (bs':=[g,gk']) λx hx=>.inl aag).trans jP λx hx=>.inl aag⟩
structure Kd (F:aJ) (ts:List Tk) (w w':av) (b:Nat) (l:Sl) (g t:Nat) (iT:aI) (f B B2:Nat) (n:Nb) (en lv mv:Sl) (s:Sx) (acc:List Nd) (kids:Sl):Prop where
 r:Sr F ts w' b l s
 nb:aF w' g t (iT++oB n.k n.nm n.ini n.dft en lv mv kids n.a)
 no:BC true w' (λk=>B<=k/\k<B2) n en lv mv
 kd:Su f B2 w' kids acc
 o:ay [b,g] w w'
 lB:B2<=w'.heap.size
section
variable {g t:Nat} {iT:aI} {f B B2:Nat} {n:Nb} {en lv mv kids:Sl} {acc:List Nd}
theorem Kd.nx(h:Kd F ts w w' b l g t iT f B B2 n en lv mv s acc kids)(N1:g≠b)(hb:b<B)(hB:B<=B2)(k:Dn F ts w' w2 b l s'):Kd F ts w w2 b l g t iT f B B2 n en lv mv s' acc kids:=
 ⟨k.r,k.o.blk h.nb aal,h.no.keep λi hi cd=>k.o.block i cd aal,h.kd.stay (du true f) k.o λx hx=>.inl aai,
  h.o.trans k.o λx hx=>.inl aag,bh h.lB k.o.size⟩
end
end
section
variable {F:aJ} {ts:List Tk} {w w' w2:av} {b:Nat} {l:Sl} {s s':Sx}
structure Cl0 (F:aJ) (ts:List Tk) (w w':av) (b:Nat) (l:Sl) (g t:Nat) (iT:aI) (kh B:Nat) (s:Sx) (n:Nb) (en lv mv:Sl):Prop where
 r:Sr F ts w' b l s
 nb:aF w' g t (iT++oB n.k n.nm n.ini n.dft en lv mv Sl.nil n.a)
 no:NbO B w' n en lv mv
 o:∃gs,ay (b::g::kh::gs) w w'/\∀x,x∈gs->B<=x
 ng:g≠b/\¬F g
 nh:b<kh
 gh:g≠kh
 gB:g<B
 hB:kh<B
 lB:B<=w'.heap.size
section
variable {g t:Nat} {iT:aI} {kh B:Nat} {n:Nb} {h:y9} {en lv mv:Sl}
theorem Cl.c0(c:Cl F ts w w' b l g t iT kh B s n h en lv mv):Cl0 F ts w w' b l g t iT kh B s n en lv mv:=⟨c.r,c.nb,c.no,c.o,c.ng,c.nh,c.gh,c.gB,c.hB,c.lB⟩
theorem Cl0.cl(c:Cl0 F ts w w' b l g t iT kh B s n en lv mv)(hb:aF w' kh 166 (Jx h)):Cl F ts w w' b l g t iT kh B s n h en lv mv:=⟨c.r,c.nb,hb,c.no,c.o,c.ng,c.nh,c.gh,c.gB,c.hB,c.lB⟩
theorem Cl0.nx(c:Cl0 F ts w w' b l g t iT kh B s n en lv mv)(k:Dn F ts w' w2 b l s'):Cl0 F ts w w2 b l g t iT kh B s' n en lv mv:=by
 have ng:=c.ng;have gB:=c.gB;have nh:=c.nh;have hBl:=c.hB;obtain⟨gs,h1,h2⟩:=c.o;exact⟨k.r,k.o.blk c.nb aal,c.no.go k.o λx hx=>aai,
  ⟨gs,h1.trans k.o λx hx=>.inl aag,h2⟩,ng,c.nh,c.gh,gB,c.hB,bh c.lB k.o.size⟩
theorem Cl0.q(c:Cl0 F ts w w' b l g t iT kh B s n en lv mv)(k:ay [] w' w2):Cl0 F ts w w2 b l g t iT kh B s n en lv mv:=c.nx (c.r.dn.q k)
theorem Cl0.sc(c:Cl0 F ts w w' b l g t iT kh B s n en lv mv)(k:Dn F ts w' w2 b l s'):cb [kh] w' w2:=k.o.same λx hx=>by
 have:=c.nh;have:=c.hB;have:=c.lB;simp only[aQ]at hx⊢;omega
theorem Cl0.sq(c:Cl0 F ts w w' b l g t iT kh B s n en lv mv)(k:ay [] w' w2):cb [kh] w' w2:=c.sc (c.r.dn.q k)
end
theorem FO(n:Nb)(h:y9)(s:Sx):(dm ts n h s).2.1.mv.length<=n.mv.length+1:=by
 unfold dm;split
 ·dsimp only;rw[aN,bp];omega
 split
 ·exact iw _
 ·split<;>exact iw _
 ·split<;>exact iw _
 split<;>exact iw _
theorem HI{f:Nat}(h:Sr F ts w b l s){g t:Nat}{iT:aI}{n:Nb}(Kf:n.en=[])(Cq:n.lv=[])(tn:n.mv=[])(hB:aF w g t (iT++oB n.k n.nm n.ini n.dft Sl.nil Sl.nil Sl.nil Sl.nil n.a))(hg:g≠b/\¬F g)(hd:wA s.d)(hN:s.fc=0->0<f/\Sq F ts b l f (vw s.d)):
  az aq 49 #[rp b,ae (some ⟨g,iT.length,none⟩)] w λe w'=>e=ak (ai #[])/\∃cs,aF w' g t (iT++cs)/\rY true (f+1) w' (Fr w.heap.size) (nV ts (jr ts f) n s).1 cs/\ay [b,g] w w'/\Sr F ts w' b l (nV ts (jr ts f) n s).2:=by
 refine ret (YC _ _ _ _ ?_);intro k0 w0 iJ dV cw;have t0:=h.zt.al cw iJ dV;have hgw:=hB.lt;have hbw:=h.lb;refine⟨_,Blk.eo t0.r.blk 6 rfl,b,6,_,_,rfl,t0.r.blk,aM,t0.ne aM,λw1 cA pv=>?_⟩;have t1:Zt F ts w w1 b l {s with d:=vw s.d} [k0]:=t0.up cA pv h.lt;have nb1:aF w1 g t (iT++oB n.k n.nm n.ini n.dft Sl.nil Sl.nil Sl.nil Sl.nil n.a):=cA.blk (cw.blk hB aM) aal;have zw1:=t1.z.o.size;have zk:=(t1.z.k k0 aM).2;generalize hBB:w1.heap.size=B at*
 have hgB:g<B:=aE
 have c1:Cl0 F ts w w1 b l g t iT k0 B {s with d:=vw s.d} n Sl.nil Sl.nil Sl.nil:=⟨t1.r,nb1,⟨by rw[Kf];exact ja.nil _ _ _ _ _ _,by rw[Cq];exact ja.nil _ _ _ _ _ _,by rw[tn];exact Own.nil _ _ _ _ _ _⟩,
  ⟨[],t1.z.o.weaken λx hx=>.inl aag,λx hx=>ab2⟩,hg,aE,aE,hgB,zk,GH hBB.symm⟩
 have hbB:b<B:=aE
 unfold nV;dsimp only;generalize hC:fz ts (ts.length+1) n ⟨false,false,false⟩ {s with d:=vw s.d}=C;have abc:On ts {s with d:=vw s.d} C.2:=by rw[<-hC];exact tG h.en _ _ _ _
 refine⟨λnv b0 b1 b2 b3 w'=>∃(n':Nb) (hd:y9) (s':Sx) (en lv mv:Sl),b0=false/\b1=hd.i/\b2=hd.e/\b3=hd.l/\Cl0 F ts w w' b l g t iT k0 B s' n' en lv mv/\fz ts nv n' hd s'=C/\mu ts s'<nv/\n'.mv.length+mu ts s'<=ts.length,ts.length+1,
  ⟨n,⟨false,false,false⟩,_,_,_,_,rfl,rfl,rfl,rfl,c1,hC,tY (qj _ _),by rw[tn,aZ,bI];exact qj _ _⟩,?_⟩
 rintro nv _ _ _ _ w2 ⟨n',Xi,s',en,lv,mv,rfl,rfl,rfl,rfl,c2,hR,U3,wK⟩;obtain⟨m,rfl⟩:∃m,nv=m+1:=⟨nv-1,aE⟩
 rw[fz]at hR;refine⟨λb4 b5 b6 b7 b8 w'=>(b4=true/\∃(n':Nb) (hd:y9) (s':Sx) (en lv mv:Sl),b5=false/\b6=hd.i/\b7=hd.e/\b8=hd.l/\Cl0 F ts w w' b l g t iT k0 B s' n' en lv mv/\fz ts m n' hd s'=C/\mu ts s'<m/\n'.mv.length+mu ts s'<=ts.length)∨
  (b4=false/\∃(en lv mv:Sl),Cl0 F ts w w' b l g t iT k0 B C.2 C.1 en lv mv),?_,(lV c2.r).mono ?_⟩
 rotate_left
 ·rintro _ zx ⟨rfl,rF⟩;have c29:=c2.q rF;refine⟨_,rfl,c2.sq rF,λhc hBk=>?_,λhc=>?_⟩
  ·have hc:s'.fc=0:=aaf
   rw[aO (by simp[hc])]at hR;have Oe:=qj ts s';have cd:=c2.r.lt;have aml:0<mu ts s':=by unfold mu;rw[aR hc];omega
   have eu:=FO (ts:=ts) n' Xi s';refine(Jy (c29.cl (h:=Xi) hBk) aE).mono ?_;rintro _ KE ⟨rfl,Co,Cp,ve,c30⟩;refine⟨_,rfl,_,_,_,_,c30.hb,?_⟩;cases pj:(dm ts n' Xi s').1 with
   | true=>
    rw[aR pj]at hR;have hmu:=Jr h.en n' Xi hc cd pj;exact .inl ⟨rfl,_,_,_,_,_,_,rfl,rfl,rfl,rfl,c30.c0,hR,aE,aE⟩
   | false=>
    rw[aO (by rw[pj];decide)]at hR;refine .inr ⟨rfl,Co,Cp,ve,?_⟩;rw[<-hR];exact c30.c0
  have hc:s'.fc≠0:=aaf
  rw[aR hc]at hR;refine .inr ⟨rfl,en,lv,mv,?_⟩;rw[<-hR];exact c29
 clear hR U3 wK c2;rintro b4 b5 b6 b7 b8 w3 (⟨rfl,hh⟩ | ⟨rfl,en,lv,mv,c3⟩)
 ·exact⟨λ_=>⟨m,Ko _,hh⟩,λhh=>(by cases hh)⟩
 refine⟨λhh=>(by cases hh),λ_=>?_⟩;generalize C.1=n1 at*
 generalize C.2=s1 at*
 have hsB:B<=w3.heap.size:=c3.lB;have no3:BC true w3 (λk=>B<=k/\k<w3.heap.size) n1 en lv mv:=
  ⟨(c3.no.en.inHeap (dH true) aL).mono (dH true) λk hk=>⟨hk.1.1,hk.2⟩,(c3.no.lv.inHeap (dH true) aL).mono (dH true) λk hk=>⟨hk.1.1,hk.2⟩,(c3.no.mv.sl (gj true) λk hk=>hk).inHeap (gj true) aL⟩
 obtain⟨gs3,o3,o3'⟩:=c3.o;have o3:ay [b,g] w w3:=o3.weaken λx hx=>by
  simp only[aX]at hx;rcases hx with rfl | rfl | rfl | hx
  ·exact .inl aM
  ·exact .inl aM
  ·exact .inr iJ
  exact .inr (bh zw1 (o3' x hx))
 have k3:Kd F ts w w3 b l g t iT f B w3.heap.size n1 en lv mv s1 [] Sl.nil:=⟨c3.r,c3.nb,no3,Own.nil _ _ _ _ _ _,o3,aY _⟩
 generalize kQ:w3.heap.size=B2 at*
 clear c3 no3 o3 o3' hC;generalize hK:qi ts (jr ts f) (ts.length+1) [] s1=K;have sk:∀{u u':av} {x y:Sx},B2<=u.heap.size->Dn F ts u u' b l y->cb [k0] u u':=λhz k=>k.o.same λx hx=>by
  simp only[aQ]at hx⊢;omega
 have Ox:∀{u u':av} {x y:Sx} {acc:List Nd} {kids:Sl},Kd F ts w u b l g t iT f B B2 n1 en lv mv x acc kids->Dn F ts u u' b l y->Kd F ts w u' b l g t iT f B B2 n1 en lv mv y acc kids:=λa k=>a.nx hg.1 hbB hsB k;have go:∀{u:av} {x:Sx} {acc:List Nd} {kids:Sl},Kd F ts w u b l g t iT f B B2 n1 en lv mv x acc kids->∃(q:Sl) (u2:av),(au 41 4 #[.mk 0 (ab (ao #[115,116,97,116,101])),.mk 1 (ab (ao #[112,97,114,97,108,108,101,108])),.mk 2 (ab (ao #[104,105,115,116,111,114,121])),.mk 3 (ab (ao #[100,101,101,112]))]).run aq u=.ok q.v u2/\cb [k0] u u2/\az aq 96 #[rp b,q.v] u2 λe u3=>e=ak (O U (cu ts x nr:Nat))/\cb [k0] u2 u3/\Kd F ts w u3 b l g t iT f B B2 n1 en lv mv x acc kids:=fun{u x acc kids} a=>by
  obtain⟨q,u2,e1,hO,hm⟩:=HE a.r nr (n:=4) (parts:=#[(0,ab (T yt)),(1,ab (T oX)),(2,ab (T qX)),(3,ab (T DH))]) rfl rfl aL aL;have a2:=Ox a (a.r.dn.q hO);refine⟨q,u2,e1,sk (x:=x) a.lB (a.r.dn.q hO),hm.mono ?_⟩;rintro _ u3 ⟨rfl,da⟩;exact⟨rfl,sk (x:=x) a2.lB (a2.r.dn.q da),Ox a2 (a2.r.dn.q da)⟩
 obtain⟨q,w4,e1,CG,Xf⟩:=go k3;refine⟨q,w4,e1,CG,Xf.mono ?_⟩;rintro _ w5 ⟨rfl,IU,k5⟩;refine⟨_,rfl,IU,λnv i2 _ _ _ _ w'=>∃(s':Sx) (acc:List Nd) (kids:Sl),i2=((cu ts s' nr:Nat):Int)/\Kd F ts w w' b l g t iT f B B2 n1 en lv mv s' acc kids/\qi ts (jr ts f) nv acc s'=K/\mu ts s'<nv/\acc.length+mu ts s'<=ts.length/\s'.d=vw s.d/\(s'.fc=0->s.fc=0),ts.length+1,
  ⟨s1,[],Sl.nil,rfl,k5,hK,tY (qj _ _),ab8,abc.d,λe=>(abc.le e).1⟩,?_⟩
 clear IU k5 Xf CG e1 k3 hK;rintro nv _ b9 S5 Ve Vf w6 ⟨s',acc,kids,rfl,k6,hR,U3,wK,hd6,hz6⟩;obtain⟨m',rfl⟩:∃m',nv=m'+1:=⟨nv-1,aE⟩
 rw[qi]at hR;have Xj:k0≠b:=t0.ne aM;have hkg:k0≠g:=aE
 refine⟨λhc=>?_,λhc=>?_⟩
 ·have hc:=Jw hc;rw[aO hc]at hR;obtain⟨hfc,oy⟩:=dc hc;obtain⟨hf0,hNC⟩:=hN (hz6 hfc);have cd:=k6.r.lt;refine⟨_,Blk.eo k6.r.blk 1 rfl,b,1,_,_,rfl,k6.r.blk,aM,Xj,λw7 gD V0=>?_⟩;rw[k6.r.wr]at V0;have k7:=Ox k6 (y:=cX s') ⟨gD,k6.r.j5 gD V0 (yD k6.r hc)⟩;have tP:=h.sm;have hmul:=qj ts s';have V1:=Hu h.en f (cu ts s' nr:Nat) (cX s') (by show wA s'.d;rw[hd6];exact KT _);have hmu:=nZ h.en hfc cd oy V1.toOn0;generalize cu ts s' nr=kk at*
  generalize hNx:jr ts f (kk:Int) (cX s')=N at*
  have agM:N.2.d=vw s.d:=V1.d.trans hd6;have agN:N.2.fc=0->s.fc=0:=λe=>hz6 (V1.le e).1;refine⟨λ_ _ _ _ w'=>∃qn,Kd F ts w w' b l g t iT f B B2 n1 en lv mv N.2 (acc++[N.1]) qn,λWY b14 b15 b16 w8 h8=>?_,λdJ dW=>?_⟩
  ·obtain⟨qn,k8⟩:=h8;obtain⟨q,w9,e1,hs9,Xk⟩:=go k8;refine⟨q,w9,e1,hs9,Xk.mono ?_⟩;rintro _ dz ⟨rfl,Oy,sF⟩;exact⟨_,rfl,Oy,m',Ko _,_,_,_,rfl,sF,hR,aE,aay,agM,agN⟩
  have oC:=Ox k7 (k7.r.dn.q dW);have ED:=oC.lB;have tN:∀{u:av},Sr F ts u b l (cX s')->az aq 98 #[rp b,O U (kk:Int)] u λe w'=>∃cs,e=ak (ah cs.toArray)/\rY true f w' (Fr u.heap.size) N.1 cs/\Dn F ts u w' b l N.2:=λhu=>by
   have:=hNC (kk:Int) (cX s') _ hu hd6;rw[hNx]at this;exact this
  have AE:∀{u u':av} {bs:List Nat},ay bs u u'->(∀x,x∈bs->x≠g)->bR (λk=>k=g) u u':=λhO hb k hk cd=>by subst hk;exact hO.block k cd λhm=>hb k hm rfl
  have zc:Value.cells (ah (oB 0 [] [] [] Sl.nil Sl.nil Sl.nil Sl.nil 0).toArray)=(oB 0 [] [] [] Sl.nil Sl.nil Sl.nil Sl.nil 0).toArray:=rfl;have hz:∀(u:av),∃(y:Sl) (u2:av),(au 25 1 #[.mk 0 (ah (oB 0 [] [] [] Sl.nil Sl.nil Sl.nil Sl.nil 0).toArray)]).run aq u=.ok y.v u2/\Own (rY true f) 9 27 u.heap.size u2 (λ_=>False) y [Jp]/\ay [] u u2:=λu=>by
   obtain⟨y,u2,a1,a2,a3,_⟩:=li (P:=aq) (t:=25) (e:=27) (i:=Tryz.t27) (w:=u) (F:=λ_=>False) (r:=rY true f) (size:=9) (vs:=[ah (oB 0 [] [] [] Sl.nil Sl.nil Sl.nil Sl.nil 0).toArray]) (xs:=[Jp]) (len:=1) (parts:=#[(0,ah (oB 0 [] [] [] Sl.nil Sl.nil Sl.nil Sl.nil 0).toArray)]) (by kernel_rfl) (by kernel_rfl) rfl rfl aL rfl rfl aL aL (du true f) ⟨⟨rfl,Ss hf0 _ _⟩,trivial⟩;exact⟨y,u2,a1,a2,a3⟩
  have abd:∀{u:av} {y:Sl} {A:Nat},B2<=A->Su f B2 u kids acc->(∀k,A<=k->kids.a≠some ⟨k,0,none⟩)->aA (rY true f) 9 u (Fr A) y [Jp]->A<=u.heap.size->∃(s8:Sl) (u2:av),(Builtin.append_ #[25,25] 25 #[kids.v,y.v]).run aq u=.ok s8.v u2/\Su f B2 u2 s8 (acc++[Jp])/\(∃gs,ay gs u u2/\∀x,x∈gs->B2<=x/\x<A)/\(∀k,A<=k->k<u.heap.size->s8.a≠some ⟨k,0,none⟩):=fun{u y A} hA ho hk hy hAu=>by
   obtain⟨s8,u2,a1,a2,gs,a3,a4,a5⟩:=wS (P:=aq) (t:=25) (ty:=25) (e:=27) (i:=Tryz.t27) (bytes:=160) (size:=9) (y:=y) (ys:=[Jp]) (by kernel_rfl) (by kernel_rfl) rfl rfl rfl rfl (du true f) ho (hy.mono (du true f) λk wM=>⟨bh hA wM,hk k wM⟩) (bh hA hAu) ack aL;refine⟨s8,u2,a1,a2,⟨gs,a3,λx hx=>⟨(a4 x hx).2.1,?_⟩⟩,λk h1 h2=>?_⟩
   ·exact Nat.lt_of_not_le λIE=>hk x IE (a4 x hx).1
   rcases a5 with a5 | a5
   ·rw[a5];exact hk k h1
   rw[a5];intro e;injection e with e;injection e with e;omega
  have Rz:∀{u:av} {s8:Sl},Sr F ts u b l N.2->aF u g t (iT++oB n1.k n1.nm n1.ini n1.dft en lv mv kids n1.a)->BC true u (λk=>B<=k/\k<B2) n1 en lv mv->ay [b,g] w u->B2<=u.heap.size->Su f B2 u s8 (acc++[Jp])->∀w',aF w' g t (iT++oB n1.k n1.nm n1.ini n1.dft en lv mv s8 n1.a)->Su f B2 w' s8 (acc++[N.1])->(∃gk,B2<=gk/\ay [g,gk] u w')->∃qn,Kd F ts w w' b l g t iT f B B2 n1 en lv mv N.2 (acc++[N.1]) qn:=λhr sR WO ho hz _ w' h1 h2 ⟨gk,h3,h4⟩=>
   ⟨_,hr.NE h4 λx hx=>(by
    simp only[aX,be,ca]at hx;rcases hx with rfl | rfl
    ·exact hg
    ·exact hr.gt aE),h1,WO.keep λi hi cd=>h4.block i cd (by simp only[aX,be,ca];omega),h2,ho.trans h4 λx hx=>by
    simp only[aX,be,ca]at hx⊢;omega,bh hz h4.size⟩
  refine⟨λk=>k=g,_,rfl,rfl,kids,oC.nb.SX (iT.length+7) (HH rfl),(tN oC.r).mono ?_,?_⟩
  ·rintro _ eM ⟨cs,rfl,hx,IW⟩;have EY:=Ox oC IW;have EI:=hx;obtain⟨f',rfl⟩:∃f',f=f'+1:=⟨f-1,aE⟩
   obtain⟨xe,xl,xm,xk,rfl,_⟩:=EI;obtain⟨y,eW,e2,hy,dD⟩:=hz eM;have tt:=Ox EY (EY.r.dn.q dD);obtain⟨s8,fJ,e3,GD,⟨gs,eF,tv⟩,hs8⟩:=abd (u:=eW) (y:=y) (A:=dJ.heap.size) ED tt.kd (λk hk=>oC.kd.new hk) ((hy.slice (du true _)).mono (du true _) λk hk=>(by
    rcases hk with hk | hk
    ·exact hk.elim
    exact bh IW.o.size hk.1)) (bh IW.o.size dD.size)
   have V2:∀x,x∈gs->x≠g:=λx hx=>abl
   have Xa:=eF.size;have S8:=tt.lB;have z12:=IW.o.size;refine⟨_,_,_,_,xe,xl,xm,xk,_,rfl,sk (x:=s') oC.lB IW,AE IW.o aal,y,eW,e2,sk (x:=s') EY.lB (EY.r.dn.q dD),AE dD aM,s8,fJ,e3,eF.same (λx hx=>?_),AE eF V2,?_⟩
   ·simp only[aQ]at hx;subst hx;exact⟨aE,λhm=>by have:=(tv x hm).1;omega⟩
   refine Ag (H:=λk=>dJ.heap.size<=k/\k<eM.heap.size) (acc:=acc) ?_ (λk hk _=>⟨bh ED hk.1,hs8 k hk.1 (cj hk.2 dD.size)⟩) (λk hk=>bh ED hk.1) GD oC.kd.len (eF.blk tt.nb λhm=>V2 g hm rfl) aE aE hkg (Rz (tt.r.own eF λx hx=>abl) (eF.blk tt.nb λhm=>V2 g hm rfl) (tt.no.keep λi hi cd=>eF.block i cd λhm=>(by have:=(tv i hm).1;omega)) (tt.o.trans eF λx hx=>.inr (by have:=(tv x hx).1;have:=oC.o.size;omega)) (bh S8 Xa) GD);refine(du true _).keep ((du true _).inHeap hx) λk hk cd=>?_;exact(eF.block k (cj cd dD.size) λhm=>by have:=(tv k hm).2;have:=hk.1;omega).trans (dD.block k cd aM)
  obtain⟨y,jS,e2,hy,kZ⟩:=hz dJ;have Gk:=Ox oC (oC.r.dn.q kZ);refine⟨y,jS,e2,sk (x:=s') oC.lB (oC.r.dn.q kZ),AE kZ aM,(tN Gk.r).mono ?_⟩;rintro _ js ⟨cs,rfl,hx,xq⟩;have Gl:=Ox Gk xq;have EI:=hx;obtain⟨f',rfl⟩:∃f',f=f'+1:=⟨f-1,aE⟩
  obtain⟨xe,xl,xm,xk,rfl,_⟩:=EI;have agQ:=(((hy.slice (du true _)).inHeap (du true _) aL).keep (du true _) aL (w':=js) λk hk cd=>xq.o.block k cd (by
   rcases hk.1 with hk | hk
   ·exact hk.elim
   ·have:=hk.1;simp only[aQ];omega)).mono (du true _) (G:=Fr dJ.heap.size) λk hk=>(by
   rcases hk.1 with hk | hk
   ·exact hk.elim
   exact hk.1)
  obtain⟨s8,mr,e3,GD,⟨gs,iL,tv⟩,hs8⟩:=abd (u:=js) (y:=y) (A:=dJ.heap.size) ED Gl.kd (λk hk=>oC.kd.new hk) agQ (bh kZ.size xq.o.size);have V2:∀x,x∈gs->x≠g:=λx hx=>abl
  have z21:=iL.size;have z20:=Gl.lB;have z19:=kZ.size;refine⟨_,_,_,_,xe,xl,xm,xk,_,rfl,sk (x:=s') Gk.lB xq,AE xq.o aal,s8,mr,e3,iL.same (λx hx=>?_),AE iL V2,?_⟩
  ·simp only[aQ]at hx;subst hx;exact⟨aE,λhm=>by have:=(tv x hm).1;omega⟩
  refine Ag (H:=λk=>jS.heap.size<=k/\k<js.heap.size) (acc:=acc) ?_ (λk hk _=>⟨by show B2<=k;omega,hs8 k aE hk.2⟩) (λk hk=>aE) GD oC.kd.len (iL.blk Gl.nb λhm=>V2 g hm rfl) aE aE hkg (Rz (Gl.r.own iL λx hx=>abl) (iL.blk Gl.nb λhm=>V2 g hm rfl) (Gl.no.keep λi hi cd=>iL.block i cd λhm=>(by have:=(tv i hm).1;omega)) (Gl.o.trans iL λx hx=>.inr (by have:=(tv x hx).1;have:=oC.o.size;omega)) (bh z20 z21) GD);refine(du true _).keep ((du true _).inHeap hx) λk hk cd=>?_;exact iL.block k cd λhm=>by have:=(tv k hm).2;have:=hk.1;omega
 have hc:=Jv hc;rw[aR hc]at hR;refine⟨_,Blk.eo k6.r.blk 6 rfl,b,6,_,_,rfl,k6.r.blk,aM,Xj,λqd jp agR=>?_⟩;have Rk:=Ox k6 (y:={s' with d:=Ud s'.d}) ⟨jp,k6.r.j5 jp agR k6.r.lt⟩;obtain⟨q,sS,e1,pr,hm⟩:=pc Rk.r [125];have k27:=Ox Rk (Rk.r.dn.q pr);refine⟨q,sS,e1,sk (x:=s') Rk.lB (Rk.r.dn.q pr),hm.mono ?_⟩;rintro _ vR ⟨rfl,h28⟩;have NQ:=Ox k27 h28;refine⟨rfl,sk (x:=s') k27.lB h28,rfl,_,NQ.nb,?_,NQ.o,?_⟩
 ·rw[<-hR];refine⟨en,lv,mv,kids,rfl,NQ.no.mono λk hk=>bh zw1 hk.1,(NQ.kd.sl (du true f) λk hk=>hk).low (du true f) aE⟩
 rw[<-hR];exact NQ.r
end
def Tk.Good(t:Tk):Prop:=(t.k=2->∃c r,t.t=c::r/\dM c=true)/\(t.k=4->∃c r,t.t=c::r/\dM c=false)/\0<=t.n/\t.n<=9223372036854775807
theorem Mh{m:aH}{q:Tq}(h:ki m=.ok q):q.1≠5/\∀a,Tk.Good ⟨q.1,q.2.1,q.2.2.1,a⟩:=by
 cases m with
 | nil=>cases h
 | cons c r=>
  simp only[ki]at h;split at h
  ·rename_i hc;unfold kC at h;split at h
   ·cases h
   injection h with h;subst h;have hw:dM c=true:=by unfold dM;rw[hc];rfl
   refine⟨by dsimp only;split<;>decide,λa=>⟨λ_=>?_,λh4=>?_,aar,aar⟩⟩
   ·dsimp only;rw[cT,aR hw];exact⟨c,_,rfl,hw⟩
   dsimp only at h4;split at h4<;>exact absurd h4 aL
  rename_i hl;split at h
  ·rename_i hc;unfold pM at h;split at h
   ·cases h
   split at h
   ·cases h
   injection h with h;subst h;refine⟨aar,λa=>⟨λh=>absurd h aar,λh=>absurd h aar,aaq,?_⟩⟩;dsimp only;unfold eI;split
   ·dsimp only;decide
   split
   ·dsimp only;decide
   split
   ·dsimp only;omega
   dsimp only;decide
  rename_i hd;unfold mg at h;split at h
  ·cases h
  rename_i hs;injection h with h;subst h;refine⟨aar,λa=>⟨λh=>absurd h aar,λ_=>?_,aar,aar⟩⟩;obtain⟨n,hn⟩:∃n,gR (c::r)=n+1:=⟨gR (c::r)-1,aE⟩
  dsimp only;rw[hn,ii];refine⟨c,_,rfl,?_⟩;unfold dM;rw[eZ];exact⟨acp,by simpa using hd⟩
theorem DU{l:aH}:∀(n i:Nat),i<=l.length->l.length-i<=n->∀r,jl l i=.ok r->∃(fr:List Tk) (a:Int),r=fr++[⟨5,[],0,a⟩]/\(∀t,t∈fr->t.k≠5/\t.Good)/\r.length<=l.length-i+1
 | n,i,hi,hn,r,h=>by
  rw[jg hi]at h;split at h
  ·injection h with h;exact⟨[],_,h.symm,λt ht=>(by cases ht),by rw[<-h,bp];omega⟩
  split at h
  ·cases h
  rename_i q hq;have q1:=rW hq;have q2:=yf hq;rw[bW]at q2;split at h
  ·cases h
  rename_i r' hr';injection h with h;subst h
  match n,hn with
  | 0,hn=>omega
  | n+1,hn=>
   obtain⟨fr,a,e,hf,hl⟩:=DU n _ aE aE _ hr';have hg:=Mh hq;refine⟨_::fr,a,by rw[e];rfl,λt ht=>?_,by rw[aU];omega⟩;rcases aX.1 ht with rfl | ht
   ·exact⟨hg.1,hg.2 _⟩
   exact hf t ht
theorem QC{fr:List Tk}{a:Int}(h:∀t,t∈fr->t.k≠5):od (fr++[⟨5,[],0,a⟩]):=λi hi=>by
 rw[aN,bp]at hi;unfold tk;by_cases hl:i<fr.length
 ·rw[bT hl,bJ hl,iH,aN,bp];exact⟨λe=>absurd e (h _ (List.getElem_mem hl)),λe=>aE⟩
 have e:i=fr.length:=aE
 subst e;rw[dE (aY _),GI,aN,bp];exact⟨λ_=>rfl,λ_=>rfl⟩
theorem HJ{l:aH}:∀(n i:Nat),i<=l.length->l.length-i<=n->∀x,jl l i=.error x->x.1≠0
 | n,i,hi,hn,x,h=>by
  rw[jg hi]at h;split at h
  ·cases h
  split at h
  ·rename_i e hq;injection h with h;subst h;exact Bm hq
  rename_i q hq;have q1:=rW hq;have q2:=yf hq;rw[bW]at q2;split at h
  ·rename_i y hy;injection h with h;subst h
   match n,hn with
   | 0,hn=>omega
   | n+1,hn=>exact HJ n _ aE aE _ hy
  cases h
theorem tI{l:aH}(h:(ch l).2.1=0):od (ch l).1/\(∀t,t∈(ch l).1->t.Good)/\0<(ch l).1.length/\(ch l).1.length<=16385:=by
 unfold ch at h⊢;split at h
 ·cases h
 rename_i hl;rw[aO hl];cases hr:jl l 0 with
 | error x=>
  rw[hr]at h;exact absurd h (HJ l.length 0 (bm _) aE _ hr)
 | ok r=>
  obtain⟨fr,a,e,hf,hn⟩:=DU l.length 0 (bm _) aE r hr;dsimp only;subst e;refine⟨QC λt ht=>(hf t ht).1,λt ht=>?_,aay,aE⟩;rcases cD.1 ht with ht | ht
  ·exact(hf t ht).2
  simp only[aQ]at ht;subst ht;exact⟨λh=>absurd h aar,λh=>absurd h aar,aar,aar⟩
section
section
variable {F:aJ} {ts:List Tk} {w w' w2:av} {b:Nat} {l:Sl} {s s':Sx}
theorem HK:∀(f:Nat) (d:Int),0<=d->d<f->d<=9223372036854775807->Sq F ts b l f d
 | 0,d,h0,h1,_=>aE
 | f+1,d,h0,h1,h2=>by
  intro k u w h hd;refine(YO ⟨b,0,none⟩ k (λv w'=>∃cs,v=(ah cs.toArray)/\rY true (f+1) w' (Fr w.heap.size) (jr ts (f+1) k u).1 cs/\Dn F ts w w' b l (jr ts (f+1) k u).2) w ?_).mono (by
   rintro e w' ⟨v,rfl,cs,rfl,h⟩;exact⟨cs,rfl,h⟩)
  intro k0 w0 iJ dV cw;have t0:=h.zt.al cw iJ dV;refine(DT t0.r k).mono ?_;rintro _ w1 ⟨rfl,h1'⟩;have t1:=t0.nx h1';have V1:=yw h.en k u;have hnd:=Qv (ts:=ts) (k:=k) (s:=u);rw[jr];have sR:(dY ts k u).1.ini=[]/\(dY ts k u).1.dft=[]/\(dY ts k u).1.en=[]/\(dY ts k u).1.lv=[]/\(dY ts k u).1.mv=[]:=⟨rfl,rfl,rfl,rfl,rfl⟩
  generalize dY ts k u=N at*
  obtain⟨nb,u1⟩:=N;dsimp only at*
  obtain⟨i1,i2,i3,i4,i5⟩:=sR;obtain⟨nk,nnm,agS,agU,nen,nlv,nmv,na⟩:=nb;dsimp only at i1 i2 i3 i4 i5;subst i1 i2 i3 i4 i5;dsimp only at*
  refine⟨_,_,_,_,Sl.nil,Sl.nil,Sl.nil,Sl.nil,_,rfl,t0.sc h1' aM,λhc k1 w2 ku jK cO=>?_,λhc k2 dz qw vS dL=>?_⟩
  ·rw[aR aan];have t2:=t1.al cO ku jK;obtain⟨q,w3,e1,da,hm⟩:=pc t2.r [45,62];have t3:=t2.q da;refine⟨q,w3,e1,t2.sq da aM,hm.mono ?_⟩;rintro _ w4 ⟨rfl,h4⟩;have t4:=t3.nx h4;refine⟨rfl,t3.sc h4 aM,(uA t4.r).mono ?_⟩;rintro _ w5 ⟨rfl,h5⟩;have t5:=t4.nx h5;refine⟨_,rfl,t4.sc h5 aM,λw6 ez=>?_⟩;have t6:=t5.f ez aM;obtain⟨q,w7,e1,gD,hm⟩:=pc t6.r [59];have t7:=t6.q gD;refine⟨q,w7,e1,t6.sq gD aM,hm.mono ?_⟩;rintro _ w8 ⟨rfl,h8⟩;have t8:=t7.nx h8;refine⟨rfl,t7.sc h8 aM,λw9 gr=>⟨_,rfl,⟨Sl.nil,Sl.nil,Sl.nil,Sl.nil,rfl,⟨ja.nil _ _ _ _ _ _,ja.nil _ _ _ _ _ _,ja.nil _ _ _ _ _ _⟩,ja.nil _ _ _ _ _ _⟩,(t8.f gr aM).dn⟩⟩
  rw[aO aao];have t10:=t1.al dL qw vS;obtain⟨q,dJ,e1,dW,hm⟩:=pc t10.r [123];have t11:=t10.q dW;refine⟨q,dJ,e1,t10.sq dW aM,hm.mono ?_⟩;rintro _ eM ⟨rfl,IW⟩;have t12:=t11.nx IW;have hms:=gW (s:=u1) h.en [123];refine⟨rfl,t11.sc IW aM,λhB _=>?_⟩;have hsd:(dP ts u1 [123]).d=d:=hms.d.trans (V1.d.trans hd);refine(HI (f:=f) t12.r (iT:=[]) (n:=⟨nk,nnm,[],[],[],[],[],na⟩) rfl rfl rfl hB (t12.r.gt (t12.lt aM)) (by rw[hsd];exact⟨aE,h2⟩) (λhf=>?_)).mono ?_
  ·have hd0:=hnd (hms.le hf).1;rw[hd]at hd0;have NK:vw d=d-1:=by unfold vw;rw[fS aE aE]
   rw[hsd,NK];exact⟨aE,HK f (d-1) aE aE aE⟩
  rintro _ eW ⟨rfl,cs,rG,hx,dD,agW⟩;have EI:=hx;obtain⟨xe,xl,xm,xk,rfl,_⟩:=EI;have S8:Fz [b] w eW [k2,k0]:=t12.z.go dD λx hx=>aaF
  have l2:=t12.lt (k0:=k2) aM;have l0:=t12.lt (k0:=k0) aM;have k0l:=(t1.z.k k0 aM).2;refine⟨rfl,t12.z.sm dD aM (λx hx=>?_),_,_,_,_,xe,xl,xm,xk,_,rG,λfJ eF EC=>⟨_,rfl,?_,?_⟩⟩
  ·simp only[aX,be,ca]at hx;rcases hx with rfl | rfl
   ·exact .inl aM
   exact .inr λy hy=>abi
  ·refine(du true _).low ((du true _).stay hx ((Stay.refl _ _).f eF (.inl ?_))) t12.z.o.size;have:=(t12.z.k k0 aM).2;exact this
  exact⟨(S8.f eF aM).o,agW.one eF l0⟩
theorem Un(h:Sr F ts w b l s)(hg:∀t,t∈ts->t.Good):az aq 48 #[rp b] w λe w'=>e=ak (ah #[ab (T (qY ts s).1.n),O U (qY ts s).1.v,O U (qY ts s).1.a])/\Dn F ts w w' b l (qY ts s).2:=by
 refine ret (YA _ _ _ ?_);intro k0 w0 iJ dV cw;have t0:=h.zt.al cw iJ dV;obtain⟨ad,g1,g2⟩:=t0.r.now;unfold qY;dsimp only;generalize NG:(if(tk ts s.i).k=1 then zo ts s else s)=s1;refine⟨λw'=>Zt F ts w w' b l s1 [k0],λw1 t1=>(uz t1.r (k:=1) aL).mono ?_,l,Blk.eo t0.r.blk 0 rfl,_,Blk.eo t0.r.blk 1 rfl,ad,g1,_,g2.eo 0 _ rfl,λhc eM eJ=>?_,λhc fJ eF=>?_⟩
 ·rintro _ w2 ⟨rfl,h2⟩;have t2:=t1.nx h2;refine⟨_,_,_,_,rfl,t1.sc h2 aM,λk1 w3 ku jK da=>?_⟩;have t3:=t2.al da ku jK;obtain⟨q,w4,e1,dR,hm⟩:=pc t3.r [61];have t4:=t3.q dR;refine⟨q,w4,e1,t3.sq dR aM,hm.mono ?_⟩;rintro _ w5 ⟨rfl,h5⟩;have t5:=t4.nx h5;refine⟨rfl,t4.sc h5 aM,?_⟩;obtain⟨q,w6,e1,ez,hm⟩:=Af t5.r [[45]] (n:=1) (parts:=#[(0,ab (T [45]))]) rfl rfl aL aL;have t6:=t5.q ez;refine⟨q,w6,e1,t5.sq ez aM,hm.mono ?_⟩;rintro _ w7 ⟨rfl,h7⟩;have t7:=t6.nx h7;generalize hgg:cu ts (dP ts (fu ts s1 1).2 [61]) [[45]]=gg at*
  have hgl:gg<=1:=by rw[<-hgg];exact DI _
  refine⟨_,rfl,t6.sc h7 aM,(uz t7.r (k:=3) aL).mono ?_⟩;rintro _ w8 ⟨rfl,h8⟩;have t8:=t7.nx h8;refine⟨_,_,_,_,rfl,t7.sc h8 aM,?_⟩;obtain⟨q,w9,e1,gr,hm⟩:=pc t8.r [59];have t9:=t8.q gr;refine⟨q,w9,e1,t8.sq gr aM,hm.mono ?_⟩;rintro _ dz ⟨rfl,tV⟩;refine⟨rfl,t9.sc tV aM,λdJ dW=>⟨?_,((t9.nx tV).f dW aM).dn⟩⟩;have hn:∀u:Sx,0<=(fu ts u 3).1.n/\(fu ts u 3).1.n<=9223372036854775807:=λu=>by
   unfold fu;split
   ·exact⟨ix 0,(by decide:(0:Int)<=9223372036854775807)⟩
   unfold tk;cases hx:ts[u.i]? with
   | none=>exact⟨ix 0,(by decide:(0:Int)<=9223372036854775807)⟩
   | some t=>exact(hg t (bF hx)).2.2
  obtain⟨n0,n1⟩:=hn (if gg=0 then dP ts (fu ts s1 1).2 [61]else cX (dP ts (fu ts s1 1).2 [61]));generalize (fu ts (if gg=0 then dP ts (fu ts s1 1).2 [61]else cX (dP ts (fu ts s1 1).2 [61])) 3).1.n=x at*
  have e:ar U ((ar U (1-(ar U (2*(gg:Int)))))*x)=if gg=0 then x else ar U (-x):=by
   rcases(by omega:gg=0∨gg=1)with rfl | rfl
   ·rw[aR rfl];show ar U (1*x)=x;rw[Int.one_mul,fS aE aE]
   rw[aO aL];show ar U (-1*x)=_;rw[Int.neg_one_mul]
  rw[e]
 ·refine(Uk (t0.q eJ).r).mono ?_;rintro _ eW ⟨rfl,vU⟩;refine⟨rfl,(t0.q eJ).sc vU aM,?_⟩;rw[<-NG,aR aaf];exact(t0.q eJ).nx vU
 rw[<-NG,aO aaf];exact t0.q eF
end
theorem Sv(w:av)(F:aJ):ChR true 15 w F ch0 Sl.nil (oB 0 [] [] [] Sl.nil Sl.nil Sl.nil Sl.nil 0):=⟨ja.nil _ _ _ _ _ _,Ss aL _ _⟩
theorem ChR.stay{d:Nat}{w w':av}{B:Nat}{c:Ch}{vs:Sl}{cs:aI}(h:ChR true d w (Fr B) c vs cs)(hs:Stay B w w'):ChR true d w' (Fr B) c vs cs:=⟨h.vars.stay iW aL hs,(du true d).stay h.root hs⟩
theorem ChR.low{d:Nat}{w:av}{A B:Nat}{c:Ch}{vs:Sl}{cs:aI}(h:ChR true d w (Fr B) c vs cs)(hA:A<=B):ChR true d w (Fr A) c vs cs:=⟨h.vars.low iW hA,(du true d).low h.root hA⟩
theorem Uo{ts:List Tk}(hE:od ts){s:Sx}{ss:List (aH)}(hi:s.i<ts.length)(hw:cu ts s ss≠0):mu ts (qY ts (cX s)).2<mu ts s:=
 nZ hE (dc hw).1 hi (dc hw).2 (L8 hE (cX s)).toOn0
theorem DV{w:av}(l:aH)(hE:Er w):az aq 25 #[ab (T l)] w λe w'=>
  ∃(vs:Sl) (cs:aI),e=ak (ai #[ah (vs.v::cs).toArray,ah #[O U (jm l).2.1,O U (jm l).2.2]])/\ChR true 15 w' (Fr w.heap.size) (jm l).1 vs cs/\ay [] w w':=by
 refine(Yb (T l) (λv w'=>∃(vs:Sl) (cs:aI),v=(ai #[ah (vs.v::cs).toArray,ah #[O U (jm l).2.1,O U (jm l).2.2]])/\ChR true 15 w' (Fr w.heap.size) (jm l).1 vs cs/\ay [] w w') w ?_).mono (by
  rintro e w' ⟨v,rfl,vs,cs,rfl,h⟩;exact⟨vs,cs,rfl,h⟩)
 generalize hP:jm l=P;unfold jm at hP;intro k0 k1 w0 iJ dV ku jK cw;have z0:=cw.size;refine(Dw l (hE.only cw)).mono ?_;rintro _ w1 ⟨rs,rfl,hT,cA⟩;have z1:=cA.size;have gK:=cw.cn cA;have tOk:=tI (l:=l);have agX:∀{w2 w3:av},ay [] w1 w2->ay [k1,k0] w2 w3->ay [] w w3:=λcO da=>((gK.cn cO).trans da λx hx=>.inr aaj)
 refine⟨rs,_,_,rfl,cA.same aae,λhc k2 w2 qw vS cO n1 n2 n3=>⟨λk=>k=k2,rfl,λe=>n2 e,λe=>n3 e,λw3 da=>?_⟩,λhc k3 k4 k5 w4 J9 zA sV EG oy GB dR=>?_⟩
 ·have hc:(ch l).2.1≠0:=aaf
  rw[aR hc]at hP;subst hP;exact⟨Sl.nil,_,rfl,Sv _ _,agX cO da⟩
 have hc:(ch l).2.1=0:=aaf
 obtain⟨RB,Pu,abf,eu⟩:=tOk hc;rw[aO aaf]at hP;have agY:=((hT.sl.inHeap fX aL).mono fX (G:=λk=>w0.heap.size<=k/\k<w1.heap.size) λk hk=>⟨hk.1.1,hk.2⟩)
 generalize (ch l).1=ts at*
 clear tOk hT;have z4:=dR.size;obtain⟨q,w5,e1,hq,fe⟩:=iR w4 [dX] (n:=1) (parts:=#[(0,ab (T dX))]) rfl rfl aL aL;have z5:=fe.size;refine⟨q,w5,e1,fe.same aae,λvd n04 n14 n34 n54=>?_⟩;have r5:Sr (λk=>w0.heap.size<=k/\k<w1.heap.size) ts w5 k4 rs ta:=⟨vd,SliceF.only fX aL agY (dR.cn fe) aM,λk hk=>aaP,RB,abf,aE⟩
 have KB:∀k,(λk=>w0.heap.size<=k/\k<w1.heap.size) k->k<w1.heap.size:=λk hk=>hk.2;generalize (λk=>w0.heap.size<=k/\k<w1.heap.size)=F at*
 have w5w:ay [] w w5:=(gK.cn dR).cn fe;have sm:∀{u u':av} {x:Sx},w5.heap.size<=u.heap.size->Dn F ts u u' k4 rs x->cb [k0,k1,k3,k5] u u':=λhz d=>d.o.same (by
  intro x hx;simp only[aX,be,ca]at hx⊢;omega)
 have sq:∀{u u':av},w5.heap.size<=u.heap.size->ay [] u u'->cb [k0,k1,k3,k4,k5] u u':=λhz o=>o.same λx hx=>⟨by
  simp only[aX,be,ca]at hx;omega,aM⟩
 have oD:∀{u u':av} {x:Sx},ay [] w u->Dn F ts u u' k4 rs x->ay [] w u':=λo d=>o.trans d.o λx hx=>.inr aai;have o5:∀{u u':av},ay [] w u->ay [k5] u u'->ay [] w u':=λo d=>o.trans d λx hx=>.inr aai;have r55:∀{u u':av} {x:Sx},Sr F ts u k4 rs x->ay [k5] u u'->Sr F ts u' k4 rs x:=λr o=>r.U0 o ⟨n54,λhF=>by have:=KB _ hF;omega⟩;have JS:=vd.lt;refine(HF r5 (qh hq) λk hk e=>abU).mono ?_;rintro _ w6 ⟨rfl,h6⟩;have z6:=h6.o.size;refine⟨rfl,sm (aY _) h6,rs,_,_,_,_,_,_,_,_,h6.r.blk,(DT h6.r 1).mono ?_⟩;rintro _ w7 ⟨rfl,h7⟩;have z7:=h7.o.size;have hC:ra ts=(⟨(qZ ts (ts.length+1) [] (dP ts (dY ts 1 (dP ts ta dX)).2 [123])).1,(nV ts (jr ts 14) (dY ts 1 (dP ts ta dX)).1 (qZ ts (ts.length+1) [] (dP ts (dY ts 1 (dP ts ta dX)).2 [123])).2).1⟩,FG ts (nV ts (jr ts 14) (dY ts 1 (dP ts ta dX)).1 (qZ ts (ts.length+1) [] (dP ts (dY ts 1 (dP ts ta dX)).2 [123])).2).2):=rfl;have sR:(dY ts 1 (dP ts ta dX)).1.ini=[]/\(dY ts 1 (dP ts ta dX)).1.dft=[]/\(dY ts 1 (dP ts ta dX)).1.en=[]/\(dY ts 1 (dP ts ta dX)).1.lv=[]/\(dY ts 1 (dP ts ta dX)).1.mv=[]:=⟨rfl,rfl,rfl,rfl,rfl⟩
 have on7:On ts ta (dY ts 1 (dP ts ta dX)).2:=(gW RB _).trans (yw RB _ _);generalize dY ts 1 (dP ts ta dX)=N at*
 obtain⟨⟨nk,nnm,agS,agU,nen,nlv,nmv,na⟩,u1⟩:=N;dsimp only at*
 obtain⟨i1,i2,i3,i4,i5⟩:=sR;subst i1 i2 i3 i4 i5;refine⟨_,_,_,_,Sl.nil,Sl.nil,Sl.nil,Sl.nil,_,rfl,sm z6 h7,rs,_,_,_,_,_,_,_,_,h7.r.blk,λw8 gp wy=>?_⟩;have z8:=gp.size;have r8:=r55 h7.r gp;have w8w:=o5 (oD (oD w5w h6) h7) gp;obtain⟨q,w9,e1,gr,hm⟩:=pc r8 [123];have z9:=gr.size;refine⟨q,w9,e1,sq aE gr,hm.mono ?_⟩;rintro _ dz ⟨rfl,tV⟩;have IL:=tV.o.size;have agZ:=oD (w8w.cn gr) tV;have ag0:On ts ta (dP ts u1 [123]):=on7.trans (gW RB _);clear hm;generalize dP ts u1 [123]=u2 at*
 generalize hV:qZ ts (ts.length+1) [] u2=V at*
 generalize hB:dz.heap.size=B at*
 refine⟨rfl,sm aE tV,rs,_,_,_,_,_,_,_,_,tV.r.blk,λnv l10 i28 s3 s4 s5 wL yQ EX IJ i29 NN i30 i31 i32 i33 i34 i35 i36 i37 w'=>∃(u:Sx) (acc:List Vr),i28=nk/\s3=T nnm/\s4=T []/\s5=T []/\wL=Sl.nil/\yQ=Sl.nil/\EX=Sl.nil/\IJ=Sl.nil/\i29=na/\Sr F ts w' k4 rs u/\Own OY 3 59 B w' (Fr B) l10 acc/\qZ ts nv acc u=V/\mu ts u<nv/\acc.length+mu ts u<=ts.length/\ay [] w w'/\B<=w'.heap.size/\u.d=12,
  ts.length+1,⟨u2,[],rfl,rfl,rfl,rfl,rfl,rfl,rfl,rfl,rfl,tV.r,Own.nil _ _ _ _ _ _,hV,tY (qj _ _),ab8,agZ,GH hB.symm,ag0.d⟩,?_⟩
 clear hV;rintro nv l10 nk2 _ _ _ _ _ _ _ na2 NN i30 i31 i32 i33 i34 i35 i36 i37 dJ ⟨u,acc,rfl,rfl,rfl,rfl,rfl,rfl,rfl,rfl,rfl,r11,Oz,hR,U3,wK,ag1,zB,hud⟩;obtain⟨m,rfl⟩:∃m,nv=m+1:=⟨nv-1,aE⟩
 rw[qZ]at hR;obtain⟨q,eM,e1,eJ,hm⟩:=Af r11 [sM] (n:=1) (parts:=#[(0,ab (T sM))]) rfl rfl aL aL;have z12:=eJ.size;refine⟨q,eM,e1,sq aE eJ,hm.mono ?_⟩;rintro _ eW ⟨rfl,vU⟩;have S8:=vU.o.size;have V3:=oD (ag1.cn eJ) vU;have Td:Own OY 3 59 B eW (Fr B) l10 acc:=(Oz.stay iW eJ λx hx=>ab2).stay iW vU.o λx hx=>.inl aai;refine⟨_,rfl,sm aE vU,rs,_,_,_,_,_,_,_,_,vU.r.blk,λwO fJ eF EC=>?_,λwO rG m05 m15 m35=>?_⟩
 ·have wO:=Jw wO;rw[aO wO]at hR vU;have Xa:=eF.size;have r14:=vU.r.only eF;refine⟨λk=>k=k5,rfl,(Un r14 Pu).mono ?_⟩;rintro _ ir ⟨rfl,Cj⟩;have z15:=Cj.o.size;have hmu:=Uo RB r11.lt wO;have V1:=L8 RB (cX u);generalize qY ts (cX u)=X at*
  obtain⟨x,u'⟩:=X;dsimp only at*
  have Oe:=qj ts u;have abg:Own OY 3 59 B ir (Fr B) l10 acc:=(Td.stay iW eF λx hx=>ab2).stay iW Cj.o λx hx=>.inl aai;obtain⟨y,jD,e2,jQ,AD,iK,e3,qy,⟨gs,jf,tv⟩,_⟩:=rO (P:=aq) (t:=22) (ty:=22) (e:=59) (i:=Tryz.t59) (bytes:=32) (size:=3) (v:=ah #[ab (T x.n),O U x.v,O U x.a]) (x:=x) (G:=λ_=>False) (by kernel_rfl) (by kernel_rfl) rfl rfl rfl rfl aL aL aL iW abg aE rfl rfl (λk hk _=>hk.elim) aE;have pu:∀g,g∈gs->B<=g:=λg hg=>(tv g hg).2.1;have z16:=jQ.size;have z17:=jf.size;refine⟨_,_,_,rfl,sm aE Cj,rs,_,_,_,_,_,_,_,_,Cj.r.blk,λk hk cd=>(by subst hk;exact Cj.o.block k cd aal),y,jD,e2,sq aE jQ,bR.only jQ,AD,iK,e3,jf.same (λx hx=>?_),λk hk cd=>(by subst hk;exact jf.block k cd λhm=>(by have:=pu k hm;omega)),λjt jP Ow=>?_⟩
  ·simp only[aX,be,ca]at hx;exact⟨aE,λhm=>by have:=pu x hm;omega⟩
  have z18:=jP.size;have r17:Sr F ts iK k4 rs u':=(Cj.r.only jQ).own jf λx hx=>(by have:=pu x hx;omega)
  refine⟨m,Ko _,u',acc++[x],rfl,rfl,rfl,rfl,rfl,rfl,rfl,rfl,rfl,r55 r17 jP,?_,hR,aE,aay,o5 (((oD (V3.cn eF) Cj).cn jQ).trans jf λx hx=>.inr (by have:=pu x hx;have:=V3.size;omega)) jP,aE,V1.d.trans hud⟩;refine(qy.mono iW λk hk=>?_).stay iW jP λx hx=>.inl aai;rcases hk with hk | hk
  ·exact hk
  show B<=k;omega
 have wO:=Jv wO;rw[aR wO]at hR vU;subst hR;dsimp only at hC;have r13:=vU.r;refine(HI (f:=14) r13 (iT:=[l10.v]) (n:=⟨nk2,nnm,[],[],[],[],[],na2⟩) rfl rfl rfl rG ⟨n54,λhF=>(by have:=KB _ hF;omega)⟩ (by rw[hud];exact⟨aL,aL⟩) (λ_=>by
  rw[hud];exact⟨aL,HK 14 11 aL aL aL⟩)).mono ?_
 generalize nV ts (jr ts 14) ⟨nk2,nnm,[],[],[],[],[],na2⟩ u=D at*
 obtain⟨root,s1⟩:=D;dsimp only at hC;rw[hC]at hP;dsimp only at hP;rintro _ jS ⟨rfl,cs,OA,hx,kZ,r19⟩;dsimp only at*
 have z19:=kZ.size;have ag4:ay [] w jS:=V3.trans kZ λx hx=>.inr aaj;have ag5:Stay B eW jS:=Stay.of kZ λx hx=>.inl aaj;have c19:ChR true 15 jS (Fr w5.heap.size) ⟨acc,root⟩ l10 cs:=⟨((Td.sl iW λk hk=>hk).stay iW aL ag5).low iW aE,(du true 15).low hx aE⟩
 have EI:=hx;obtain⟨xe,xl,xm,xk,rfl,_⟩:=EI;have sm3:∀{u u':av} {bs:List Nat},w5.heap.size<=u.heap.size->ay bs u u'->(∀x,x∈bs->x=k4∨x=k5)->cb [k0,k1,k3] u u':=λhz o hb=>o.same λx hx=>⟨aaj,λhm=>by have:=hb x hm;simp only[aX,be,ca]at hx;omega⟩
 refine⟨rfl,sm3 aE kZ aM,rs,_,_,_,_,_,_,_,_,r19.blk,l10,_,_,_,_,xe,xl,xm,xk,_,OA,?_⟩;have st:∀{u u':av} {x:Sx},Sr F ts u k4 rs x->aF u k5 29 (l10.v::oB root.b.k root.b.nm root.b.ini root.b.dft xe xl xm xk root.b.a)->ay [] w u->ChR true 15 u (Fr w5.heap.size) ⟨acc,root⟩ l10 (oB root.b.k root.b.nm root.b.ini root.b.dft xe xl xm xk root.b.a)->∀{y:Sx},Dn F ts u u' k4 rs y->Sr F ts u' k4 rs y/\aF u' k5 29 (l10.v::oB root.b.k root.b.nm root.b.ini root.b.dft xe xl xm xk root.b.a)/\ay [] w u'/\ChR true 15 u' (Fr w5.heap.size) ⟨acc,root⟩ l10 (oB root.b.k root.b.nm root.b.ini root.b.dft xe xl xm xk root.b.a):=fun{u u' x} a1 a2 a3 a4 {y} d=>
  ⟨d.r,d.o.blk a2 aal,oD a3 d,a4.stay (Stay.of d.o λx hx=>.inl aai)⟩
 refine⟨λl27 i67 Pc KD Rj l28 l29 l30 l31 i68 l32 i69 i70 i71 i72 i73 i74 i75 i76 js=>w5.heap.size<=js.heap.size/\Sr F ts js k4 rs (FG ts s1)/\aF js k5 29 (l10.v::oB root.b.k root.b.nm root.b.ini root.b.dft xe xl xm xk root.b.a)/\ay [] w js/\ChR true 15 js (Fr w5.heap.size) ⟨acc,root⟩ l10 (oB root.b.k root.b.nm root.b.ini root.b.dft xe xl xm xk root.b.a),?_,?_⟩
 ·rintro l27 i67 Pc KD Rj l28 l29 l30 l31 i68 l32 i69 i70 i71 i72 i73 i74 i75 i76 js ⟨z20,a1,a2,a3,a4⟩;refine(lV a1).mono ?_;rintro _ mr ⟨rfl,iL⟩;obtain⟨b1,b2,b3,b4⟩:=st a1 a2 a3 a4 (a1.dn.q iL);have z21:=iL.size;refine⟨_,rfl,sm3 z20 iL aM,rs,_,_,_,_,_,_,_,_,b1.blk,l10,_,_,_,_,xe,xl,xm,xk,_,b2,λhf qc qx _ _ p01 p03 p04 p05 p13 p14 p15 p34 p35 p45=>⟨λk=>k=k4,rfl,λe=>p04 e,λe=>p14 e,λql rH _ _=>?_⟩,λhf sE zC _ _=>?_⟩
  ·have hf:(FG ts s1).fc≠0:=abR
   rw[aR hf]at hP;subst hP;exact⟨Sl.nil,_,rfl,Sv _ _,(b3.cn qx).trans rH λx hx=>.inr aaj⟩
  have hf:¬(FG ts s1).fc≠0:=abR
  rw[aO hf]at hP;subst hP;refine⟨l10,_,rfl,(b4.stay (Stay.of zC λx hx=>.inl aaj)).low w5w.size,b3.trans zC λx hx=>.inr aaj⟩
 refine⟨λb1 l39 i87 S4 WX s18 l40 l41 l42 l43 i88 l44 i89 i90 i91 i92 i93 i94 i95 i96 ow=>b1=decide (s1.fc=0/\(tk ts s1.i).k≠5)/\w5.heap.size<=ow.heap.size/\Sr F ts ow k4 rs s1/\aF ow k5 29 (l10.v::oB root.b.k root.b.nm root.b.ini root.b.dft xe xl xm xk root.b.a)/\ay [] w ow/\ChR true 15 ow (Fr w5.heap.size) ⟨acc,root⟩ l10 (oB root.b.k root.b.nm root.b.ini root.b.dft xe xl xm xk root.b.a),?_,λsS pr _ _=>?_⟩
 ·rintro b1 l39 i87 S4 WX s18 l40 l41 l42 l43 i88 l44 i89 i90 i91 i92 i93 i94 i95 i96 ow ⟨rfl,z25,a1,a2,a3,a4⟩;unfold FG;refine⟨λhb=>(rj a1).mono ?_,λhb=>?_⟩
  ·rw[aR (aV hb)];rintro _ qd ⟨rfl,h26⟩;obtain⟨b1,b2,b3,b4⟩:=st a1 a2 a3 a4 h26;have z26:=h26.o.size;exact⟨rfl,sm3 z25 h26.o aM,rs,_,_,_,_,_,_,_,_,b1.blk,l10,_,_,_,_,xe,xl,xm,xk,_,b2,aE,b1,b2,b3,b4⟩
  rw[aO (aW hb)];exact⟨z25,a1,a2,a3,a4⟩
 have z27:=pr.size;obtain⟨a1,a2,a3,a4⟩:=st r19 OA ag4 c19 (r19.dn.q pr);refine(lV a1).mono ?_;rintro _ vR ⟨rfl,sU⟩;obtain⟨b1,b2,b3,b4⟩:=st a1 a2 a3 a4 (a1.dn.q sU);have z28:=sU.size;obtain⟨ad,g1,g2⟩:=b1.now;refine⟨_,rfl,sm3 aE sU aM,rs,_,_,_,_,_,_,_,_,b1.blk,l10,_,_,_,_,xe,xl,xm,xk,_,b2,λhb=>⟨ad,g1,_,g2.eo 0 _ rfl,?_,aE,b1,b2,b3,b4⟩,λhb=>⟨?_,aE,b1,b2,b3,b4⟩⟩
 ·have hb:s1.fc=0:=aap
  rw[bH];simp[hb]
 have hb:¬s1.fc=0:=aap
 simp[hb]
def Bu(w:av)(b k:Nat):Prop:=∃n c,w.cell? ⟨b,1,none⟩=some (.slice (some ⟨k,0,none⟩) n c)
structure Mw (f:Bool) (b:Nat) (w w':av):Prop where
 o:aD (λk=>k=b∨(f=false/\Bu w b k)) w w'
 u:∀k,Bu w' b k->Bu w b k∨(f=false/\w.heap.size<=k)
abbrev St:=Bool×Int
structure Qz (w0:av) (b:Nat) (w:av) (l:aH) (st:St):Prop where
 o:ay [] w0 w
 lo:w0.heap.size<=b
 ex:∃(q:Option Addr) (sl:Sl),(q=none∨q=some ⟨b,0,none⟩)/\aF w b 116 [ae q,sl.v,aj st.1,O U st.2]/\Bf w (b+1) sl l
 i:st.1=false->0<=st.2/\st.2<=400
 big:l.length<=274877906944
structure Up (st:St) (c:Bool) (n:Nat) (cq:St):Prop where
 w:cq.1=((st.1||!c)||decide (400<st.2+n))
 a:cq.1=false->cq.2=st.2+n
theorem or3{a b c:Bool}(h:false=((a||!b)||c)):a=false/\b=true/\c=false:=by
 revert h;cases a<;>cases b<;>cases c<;>decide
theorem Up.ok{st cq:St}{c:Bool}{n:Nat}(h:Up st c n cq)(e:cq.1=false):st.1=false/\c=true/\cq.2=st.2+n/\¬400<st.2+(n:Int):=by
 obtain⟨a,b,d⟩:=or3 (e.symm.trans h.w);exact⟨a,b,h.a e,aW d⟩
theorem Up.tr{st cq V4:St}{c c':Bool}{n n':Nat}(h:Up st c n cq)(k:Up cq c' n' V4):Up st (c&&c') (n+n') V4:=by
 cases e:V4.1 with
 | false=>
  obtain⟨k1,k2,k3,k4⟩:=k.ok e;obtain⟨h1,h2,h3,h4⟩:=h.ok k1;have h5:¬400<st.2+((n+n':Nat):Int):=aE
  refine⟨?_,λ_=>aE⟩;rw[e,h1,h2,k2,bq h5];rfl
 | true=>
  refine⟨?_,λe2=>by rw[e]at e2;cases e2⟩;rw[e];refine Eq.symm (bD λhn=>?_);obtain⟨a1,a2,a3⟩:=or3 (fK.2 hn).symm;rw[aP]at a2;have a3:=aW a3;have h5:¬400<st.2+(n:Int):=aE
  have e1:cq.1=false:=by rw[h.w,a1,a2.1,bq h5];rfl
  have e2:=h.a e1;have h6:¬400<cq.2+(n':Int):=aE
  have:=k.w;rw[e,e1,a2.2,bq h6]at this;cases this
theorem Up.cg{st cq:St}{c c':Bool}{n n':Nat}(h:Up st c n cq)(e:c=c')(en:n=n'):Up st c' n' cq:=by subst e en;exact h
theorem Up.le{st cq:St}{c:Bool}{n:Nat}(h:Up st c n cq)(h0:st.1=false->0<=st.2)(e:cq.1=false):0<=cq.2/\cq.2<=400:=by
 obtain⟨a,b,d,h2⟩:=h.ok e;have:=h0 a;omega
section
variable {f g:Bool} {w0 ws w w' w1 sD:av} {b k:Nat} {l l':aH} {st cq:St} {ks ks':List Nat}
theorem Mw.refl(f:Bool)(b:Nat)(w:av):Mw f b w w:=⟨OnlyP.refl _ _,λ_ h=>.inl h⟩
theorem Mw.trans(h:Mw f b w w')(k:Mw f b w' sD):Mw f b w sD:=by
 have z:=h.o.size;refine⟨h.o.trans k.o λx hx=>?_,λx hx=>?_⟩
 ·rcases hx with hx | ⟨ef,hx⟩
  ·exact .inl (.inl hx)
  rcases h.u x hx with e | ⟨_,e⟩
  ·exact .inl (.inr ⟨ef,e⟩)
  exact .inr e
 rcases k.u x hx with e | ⟨ef,e⟩
 ·exact h.u x e
 exact .inr ⟨ef,aE⟩
theorem Mw.up(h:Mw f b w w'):Mw false b w w':=⟨h.o.mono λk _ hk=>hk.elim .inl λe=>.inr ⟨rfl,e.2⟩,λk hk=>(h.u k hk).elim .inl λe=>.inr ⟨rfl,e.2⟩⟩
theorem Mw.only1(h:Mw true b w w'):ay [b] w w':=h.o.ZP λk hk=>hk.elim (λe=>.inl (by rw[e];simp)) λe=>(by cases e.1)
theorem uB(h:w'.heap[b]? =w.heap[b]?){k:Nat}(hb:Bu w' b k):Bu w b k:=by
 obtain⟨n,c,hc⟩:=hb;refine⟨n,c,?_⟩;unfold World.cell? at hc⊢;rw[h]at hc;exact hc
theorem Qz.lb(h:Qz w0 b w l st):b<w.heap.size:=by
 obtain⟨q,sl,_,hB,_⟩:=h.ex;exact hB.lt
theorem Qz.arg(h:Qz w0 b w l st)(h':Qz w0 b w' l' cq){k:Nat}(hk:k<w0.heap.size):w'.heap[k]? =w.heap[k]? :=(h'.o.block k hk aM).trans (h.o.block k hk aM).symm
theorem Mw.only(hb:b<w.heap.size)(h:ay [] w w'):Mw f b w w':=⟨h.p0,λk hk=>.inl (uB (h.block b hb aM) hk)⟩
theorem HL{q v2 v3:aw}{t:TypeId}{sl:Sl}(hB:aF w b t [q,sl.v,v2,v3]){k:Nat}(h:Bu w b k):sl.a=some ⟨k,0,none⟩:=by
 obtain⟨n,c,hc⟩:=h;have:=Blk.eo hB 1 rfl 0 sl.v rfl;have e:(Addr.add ⟨b,0,none⟩ 1).add 0=⟨b,1,none⟩:=acC
 rw[e,hc]at this;have:(Value.slice (some ⟨k,0,none⟩) n c)=.slice sl.a sl.n sl.c:=Option.some.inj this;injection this with e1 _ _;exact e1.symm
theorem DW{q v2 v3:aw}{t:TypeId}{sl:Sl}(hB:aF w b t [q,sl.v,v2,v3]){k:Nat}(h:sl.a=some ⟨k,0,none⟩):Bu w b k:=by
 have:=Blk.eo hB 1 rfl 0 sl.v rfl;have e:(Addr.add ⟨b,0,none⟩ 1).add 0=⟨b,1,none⟩:=acC
 rw[e]at this;refine⟨sl.n,sl.c,?_⟩;rw[this,<-h]
theorem Qz.bu(h:Qz w0 b w l st){k:Nat}(hk:Bu w b k):b<k/\k<w.heap.size:=by
 obtain⟨q,sl,_,hB,hb⟩:=h.ex;have:=hb.lt (HL hB hk);omega
theorem Qz.only(h:Qz w0 b w l st)(hO:ay [] w w'):Qz w0 b w' l st:=by
 obtain⟨q,sl,hq,hB,hb⟩:=h.ex;exact⟨h.o.cn hO,h.lo,⟨q,sl,hq,hO.blk hB aM,hb.keep λg _ hl=>hO.block g hl aM⟩,h.i,h.big⟩
structure Zq (f:Bool) (w0 ws:av) (b:Nat) (w:av) (l:aH) (st:St) (ks:List Nat):Prop extends Qz w0 b w l st where
 m:Mw f b ws w
 k:∀k,k∈ks->k<w.heap.size/\k≠b/\¬Bu w b k
theorem Qz.z(f:Bool)(h:Qz w0 b w l st):Zq f w0 w b w l st []:=⟨h,Mw.refl f b w,λk hk=>(by cases hk)⟩
theorem Zq.q(t:Zq f w0 ws b w l st ks)(hO:ay [] w w'):Zq f w0 ws b w' l st ks:=by
 have hb:=t.toQz.lb;refine⟨t.toQz.only hO,t.m.trans (Mw.only hb hO),λk hk=>?_⟩;obtain⟨h1,h2,h3⟩:=t.k k hk;exact⟨cj h1 hO.size,h2,λh=>h3 (uB (hO.block b hb aM) h)⟩
theorem Zq.al(t:Zq f w0 ws b w l st ks)(hO:ay [] w w')(h1:w.heap.size<=k)(h2:k<w'.heap.size):Zq f w0 ws b w' l st (k::ks):=by
 have hb:=t.toQz.lb;have t':=t.q hO;refine⟨t'.toQz,t'.m,λx hx=>?_⟩;rcases aX.1 hx with rfl | hx
 ·exact⟨h2,aE,λh=>by have:=(t.toQz.bu (uB (hO.block b hb aM) h)).2;omega⟩
 exact t'.k x hx
theorem Zq.nx(t:Zq f w0 ws b w l st ks)(p:Qz w0 b w' l' cq)(m:Mw f b w w'):Zq f w0 ws b w' l' cq ks:=by
 refine⟨p,t.m.trans m,λk hk=>?_⟩;obtain⟨h1,h2,h3⟩:=t.k k hk;exact⟨cj h1 m.o.size,h2,λh=>(m.u k h).elim h3 λe=>by have:=e.2;omega⟩
theorem Zq.sq(t:Zq f w0 ws b w l st ks)(hO:ay [] w w')(hk:∀k,k∈ks'->k∈ks):cb ks' w w':=hO.same λx hx=>⟨(t.k x (hk x hx)).1,aM⟩
theorem Zq.sm(t:Zq f w0 ws b w l st ks)(m:Mw g b w w')(hk:∀k,k∈ks'->k∈ks):cb ks' w w':=m.o.same λx hx=>⟨(t.k x (hk x hx)).1,λh=>h.elim (t.k x (hk x hx)).2.1 λe=>(t.k x (hk x hx)).2.2 e.2⟩
theorem Zq.sj(t:Zq f w0 ws b w l st ks)(hz:w.heap.size<=w1.heap.size)(h:aD (λk=>w.heap.size<=k) w1 w')(hk:∀k,k∈ks'->k∈ks):cb ks' w1 w':=h.same λx hx=>by
 have:=(t.k x (hk x hx)).1;exact⟨aE,aE⟩
theorem Zq.row(t:Zq true w0 ws b w l st ks)(hb:b<ws.heap.size)(hu:∀k,Bu ws b k->k<ws.heap.size)(hO:aD (λk=>ws.heap.size<=k) w w'):Zq true w0 ws b w' l st ks:=by
 have hB:=t.toQz.lb;have hlo:=t.lo;have Xj:∀k,Bu w b k->Bu ws b k:=λk hk=>(t.m.u k hk).elim id λe=>(by cases e.1)
 have KA:=hO.block b hB aE;obtain⟨q,sl,hq,hBl,hbf⟩:=t.ex;refine⟨⟨⟨hO.os.trans t.o.os,hO.tape.trans t.o.tape,hO.output.trans t.o.output,bh t.o.size hO.size,λk hk _=>(hO.block k (cj hk t.o.size) aE).trans (t.o.block k hk aM)⟩,hlo,⟨q,sl,hq,KA.trans hBl,hbf.keep λg hg hl=>hO.block g hl λe=>(by have:=hu g (Xj g (DW hBl hg));omega)⟩,t.i,t.big⟩,⟨t.m.o.trans hO λk hk=>.inr hk,λk hk=>.inl (Xj k (uB KA hk))⟩,λk hk=>?_⟩;obtain⟨h1,h2,h3⟩:=t.k k hk;exact⟨cj h1 hO.size,h2,λh=>h3 (uB KA h)⟩
theorem bR.of{ks:List Nat}(h:cb ks w w'):bR (λk=>k∈ks) w w':=λk hk _=>h k hk
theorem rl{w2:av}(h1:ay [] w w1)(h2:aD (λk=>w.heap.size<=k) w1 w2):ay [] w w2:=(h1.CA h2).only λ_ h=>h
end
theorem Mi(w:av)(ws:List (aH)){n:Nat}{parts:Array (Nat×aw)}(hp:parts=(((ws.map λx=>Value.string (T x)).zipIdx 0).map λx=>(x.2,x.1)).toArray)(hn:ws.length=n)(h0:0<n)(tP:n*1<=16777216):
  ∃(q:Sl) (w1:av) (g:Nat) (cs:aI),(au 41 n parts).run aq w=.ok q.v w1/\ay [] w w1/\w.heap.size<=g/\g<w1.heap.size/\aF w1 g 9 cs/\
   ∀(i:Nat) x,ws[i]? =some x->dN q (i:Int) 1 ⟨g,i,none⟩/\∀w',aF w' g 9 cs->aB w' ⟨g,i,none⟩ [ab (T x)]:=by
 obtain⟨q,w1,k1,k2,k3⟩:=iR w ws hp hn h0 tP;rcases k2 with⟨_,e⟩ | ⟨g,css,tail,a1,a2,a4,a5,a6,a7,a9,a8⟩
 ·subst e;simp at hn;omega
 have S0:=FN a8;refine⟨q,w1,g,_,k1,k3,a2,a4.lt,a4,λi x hx=>⟨⟨⟨g,0,none⟩,a1,bc i,?_,?_⟩,λw' hB=>Blk.SX hB i ?_⟩⟩
 ·have:=(bd.1 hx).1;omega
 ·rw[gM,ba,tW,bI]
 have:(ws.map λx=>Value.string (T x))[i]? =some (ab (T x)):=acE
 rw[S0,bT (bd.1 this).1,this]
section
variable {w0 w:av} {b:Nat} {l:aH} {st:St}
theorem FP(b j:Nat):(Addr.add ⟨b,0,none⟩ j:Addr)=⟨b,j,none⟩:=by rw[gM,bI]
theorem Qz.set(h:Qz w0 b w l st):∃(q:Option Addr) (sl:Sl),aF w b 116 [ae q,sl.v,aj st.1,O U st.2]/\
  ∀(w':av) (cq:St),ay [b] w w'->aF w' b 116 [ae q,sl.v,aj cq.1,O U cq.2]->(cq.1=false->0<=cq.2/\cq.2<=400)->Qz w0 b w' l cq/\Mw true b w w':=by
 obtain⟨q,sl,hq,hB,hb⟩:=h.ex;refine⟨q,sl,hB,λw1 II cA pv hi=>⟨⟨⟨cA.os.trans h.o.os,cA.tape.trans h.o.tape,cA.output.trans h.o.output,bh h.o.size cA.size,λk hk _=>(cA.block k (cj hk h.o.size) (by have:=h.lo;simp;omega)).trans (h.o.block k hk aM)⟩,h.lo,⟨q,sl,hq,pv,hb.keep λg hg hl=>cA.block g hl (by have:=(hb.lt hg).1;simp;omega)⟩,hi,h.big⟩,?_⟩⟩;exact⟨cA.p λx hx=>.inl (.inl aas),λk hk=>.inl (DW hB (HL pv hk))⟩
theorem Qz.U1(h:Qz w0 b w l st):Up st true 0 st:=by
 refine⟨?_,λ_=>aM⟩;cases e:st.1
 ·have:=(h.i e).2;have h2:¬400<st.2+((0:Nat):Int):=aE
  rw[bq h2];rfl
 rfl
theorem HM{q:Option Addr}{sl:Sl}{wr:Bool}{ac:Int}(hB:aF w b 116 [ae q,sl.v,aj wr,O U ac])(ok:Bool):az aq 53 #[rp b,aj ok] w λe w'=>
  e=ak (ai #[])/\ay [b] w w'/\aF w' b 116 [ae q,sl.v,aj (wr||!ok),O U ac]:=by
 refine ret (adR _ _ _ _ ?_);exact⟨wr,Blk.eo hB 2 rfl,b,2,_,_,FP b 2,hB,aM,λw1 cA pv=>⟨rfl,cA,pv⟩⟩
theorem jH(h:Qz w0 b w l st)(ok:Bool):az aq 53 #[rp b,aj ok] w λe w'=>e=ak (ai #[])/\∃cq,Up st ok 0 cq/\Qz w0 b w' l cq/\Mw true b w w':=by
 obtain⟨q,sl,hB,Ey⟩:=h.set;refine(HM hB ok).mono ?_;rintro _ w1 ⟨rfl,cA,pv⟩;have hu:Up st ok 0 (st.1||!ok,st.2):=by
  refine⟨?_,λe=>aM⟩;cases e:st.1
  ·have:=(h.i e).2;have h2:¬400<st.2+((0:Nat):Int):=aE
   rw[bq h2,Bool.or_false]
  simp
 exact⟨rfl,_,hu,Ey w1 _ cA pv λe=>hu.le (λe=>(h.i e).1) e⟩
theorem lW(h:Qz w0 b w l st)(s:aH)(hs:s.length<9223372036854775807):az aq 55 #[rp b,ab (T s)] w λe w'=>e=ak (ab (T s))/\∃cq,Up st (cN s) 0 cq/\Qz w0 b w' l cq/\Mw true b w w':=by
 refine ret (adS _ _ _ _ ?_);refine(L1 s hs).mono ?_;rintro _ w1 ⟨rfl,cA⟩;refine⟨_,rfl,(jH (h.only cA) _).mono ?_⟩;rintro _ w2 ⟨rfl,cq,h1,h2,h3⟩;exact⟨rfl,rfl,cq,h1,h2,(Mw.only h.lb cA).trans h3⟩
theorem HN(h:Qz w0 b w l st){F:aJ}{x:Ex}{cs:aI}(hx:rE false w F x cs)(hn:Js x)(hs:yV x<=1759218604441)(hE:Er w0)(hT:Tb w0):
  az aq 152 #[rp b,ah cs.toArray] w λe w'=>e=ak (ab (T (qD x)))/\∃cq,Up st (oo x) 0 cq/\Qz w0 b w' l cq/\Mw true b w w':=by
 obtain⟨xs,rfl⟩:=eV hx;refine ret (ad6 _ _ _ _ _ _ _ _ _ ?_);intro k0 w1 iJ dV cA;have t1:=(h.z true).al cA iJ dV;refine(Qx ((gF false).keep hx λk _ cd=>cA.block k cd aM) hn hs (hE.only t1.o) (hT.only t1.o)).mono ?_;rintro _ w2 ⟨rfl,cO⟩;have t2:=t1.q cO;refine⟨_,rfl,t1.sq cO aM,(jH t2.toQz _).mono ?_⟩;rintro _ w3 ⟨rfl,cq,h1,h2,h3⟩;rw[show ao #[]=T []from rfl,ju]at h1;have e:(!decide (qD x=[]))=oo x:=by unfold oo;rw[decide_not]
 rw[e]at h1;exact⟨rfl,t2.sm h3 aM,rfl,cq,h1,h2,(t2.nx h2 h3).m⟩
theorem HO(h:Qz w0 b w l st){F:aJ}{x:Ex}{cs:aI}(hx:rE false w F x cs):
  az aq 153 #[rp b,ah cs.toArray] w λe w'=>e=ak (ai #[])/\∃cq,Up st (mj x) 0 cq/\Qz w0 b w' l cq/\Mw true b w w':=by
 have eu:∃xs:Sl,cs=kD x.k x.n x.s x.op xs x.a/\xs.n=x.dq.length:=by
  obtain⟨d,hx⟩:=hx;cases d with
  | zero=>exact hx.elim
  | succ d=>
   obtain⟨sl,h1,h2,_⟩:=hx;exact⟨sl,h1,h2.len⟩
 obtain⟨xs,rfl,hl⟩:=eu;refine ret (ad5 _ _ _ _ _ _ _ _ _ ?_);intro k0 w1 iJ dV cA;have t1:=(h.z true).al cA iJ dV;refine(jH t1.toQz _).mono ?_;rintro _ w3 ⟨rfl,cq,h1,h2,h3⟩;rw[show ao #[]=T []from rfl,ju,hl]at h1;exact⟨rfl,t1.sm h3 aM,rfl,cq,h1,h2,(t1.nx h2 h3).m⟩
theorem HP(h:Qz w0 b w l st):az aq 58 #[rp b] w λe w'=>e=ak (aj (decide (16384<l.length)))/\w'=w:=by
 refine ret (adV _ _ _ ?_);obtain⟨q,sl,hq,hB,hb⟩:=h.ex;refine(Sc _ (λv w'=>v=O U (l.length:Int)/\w'=w) w ?_).mono ?_
 ·rw[FP];exact⟨sl,Blk.eo hB 1 rfl,by rw[hb.len],rfl⟩
 rintro _ w1 ⟨v,rfl,rfl,rfl⟩;refine⟨_,rfl,?_,rfl⟩;congr 1;rw[bH];simp;omega
end
def DX(a:Ac):Nat:=yV a.x+(a.n.length+1)
def iG:List Ac->Nat
 | []=>0
 | a::l=>DX a+iG l
theorem rm{a:Ac}:∀{l:List Ac},a∈l->DX a<=iG l
 | [],h=>aax
 | x::l,h=>by
  rw[iG];rcases aX.1 h with rfl | h
  ·omega
  have:=rm h;omega
theorem gY:∀(l:List Ac),l.length<=iG l
 | []=>bm _
 | a::l=>by
  have:=gY l;rw[iG,aU];unfold DX;omega
def Cz(l:List (aH)):Nat:=(l.map λs=>s.length+1).sum
def DY(m:Mv):Nat:=(iG m.acts+yV m.g)+(Cz m.tg+(m.ev.length+1))
theorem BH(x:Ex):(qD x).length<=16384:=by
 by_cases h:qD x=[]
 ·rw[h];exact bm _
 obtain⟨h1,h2,h3⟩:=DP h;refine bD λhc=>?_;have e:qD x=mF (yy x) x false []:=h2;rw[<-e]at h3;unfold fi at h3;have:ch (qD x)=([],2, -1):=by rw[ch,aR aE]
 rw[this,aR aL]at h3;exact absurd h3 (show ¬(2:Int)=0 by decide)
theorem pT{s:aH}(h:cN s=true):ne s=true:=by
 unfold cN at h;simp only[aP]at h;have:=(aV h.1.1.1).1;unfold ne;rw[bq this];rfl
theorem Y8{x:Ex}(h:oo x=true):ne (qD x)=true:=by
 unfold ne;rw[bq (aV h)];rfl
theorem n9{x:aH}(h:ne x=true)(ws:List (aH)):fA (x::ws)=x++Lib.joinTail [32] (ws.filter ne):=by
 unfold fA;rw[vW,h,aR rfl,Lib.join_cons]
theorem fk(x:aH)(r:List (aH)):Lib.joinTail [32] (x::r)=32::(x++Lib.joinTail [32] r):=by
 unfold Lib.joinTail;rw[bG,dw];rfl
theorem lH:Lib.joinTail [32] []=[]:=rfl
theorem fl{x:aH}(h:ne x=true)(ws:List (aH)):(x::ws).filter ne=x::ws.filter ne:=by rw[vW,h,aR rfl]
theorem Mj(ws:List (aH)):([]::ws).filter ne=ws.filter ne:=by rw[vW,aO aL]
def O1(a:Ac):List (aH):=if a.k=2 then[iC,a.n]else[if a.k=1 then nK else jL,a.n,[61],qD a.x]
theorem Sw{a:Ac}(h:fx a=true):fA (O1 a)++[59]=u6 a:=by
 unfold fx at h;simp only[aP]at h;obtain⟨⟨h1,h2⟩,h3⟩:=h;unfold O1 u6;by_cases hk:a.k=2
 ·rw[aR hk,aR hk,n9 aL,fl (pT h2),eH,fk,lH];simp
 rw[aO hk]at h3;have hw:ne (if a.k=1 then nK else jL)=true:=by split<;>decide
 rw[aO hk,aO hk,n9 hw,fl (pT h2),fl aL,fl (Y8 h3),eH,fk,fk,fk,lH];simp
theorem QD(a:Ac):(fA (O1 a)).length<=16398+a.n.length:=by
 refine bh (iE _) ?_;have:=BH a.x;unfold O1;split
 ·simp only[bG,gA,cr,iu];show 5+1+(a.n.length+1+0)<=_;omega
 simp only[bG,gA,cr,iu];have:(if a.k=1 then nK else jL).length<=4:=by split<;>decide
 show _+1+(a.n.length+1+(1+1+(_+1+0)))<=_;omega
section
variable {w0 w:av} {b:Nat} {l:aH} {st:St}
theorem Y9(h:Qz w0 b w l st){F:aJ}{a:Ac}{cs:aI}(hx:sN false w F a cs)(hF:∀k,F k->k<w0.heap.size)(hn:Ab a)(hs:DX a<=1759218604441)(hE:Er w0)(hT:Tb w0):
  az aq 151 #[rp b,ah cs.toArray] w λe w'=>∃s cq,e=ak (ab (T s))/\s.length<=16400+a.n.length/\(fx a=true->s=u6 a)/\Up st (fx a) 0 cq/\Qz w0 b w' l cq/\Mw true b w w':=by
 obtain⟨xc,rfl,hx⟩:=hx;obtain⟨xs,rfl⟩:=eV hx;unfold DX at hs;refine(ad1 ⟨b,0,none⟩ a.k (T a.n) a.x.k a.x.n (T a.x.s) a.x.op xs a.x.a a.a (λv w'=>∃s cq,v=ab (T s)/\s.length<=16400+a.n.length/\(fx a=true->s=u6 a)/\Up st (fx a) 0 cq/\Qz w0 b w' l cq/\Mw true b w w') w ?_).mono (by
  rintro e w' ⟨v,rfl,s,cq,rfl,h⟩;exact⟨s,cq,rfl,h⟩)
 intro k0 w1 iJ dV cA;have t1:=(h.z true).al cA iJ dV;obtain⟨q,w2,g,cs,e1,cO,hg1,hg2,kQ,cG⟩:=Mi w1 [[],nK,iC,jL] (n:=4) (parts:=#[.mk 0 (ab (ao #[])),.mk 1 (ab (ao #[115,101,116])),.mk 2 (ab (ao #[114,97,105,115,101])),.mk 3 (ab (ao #[101,109,105,116]))]) rfl rfl aL aL;have t2:=t1.al cO hg1 hg2;have tail:=QD a;refine⟨q,w2,e1,t1.sq cO aM,λhc=>?_,λhc=>?_⟩
 ·refine(jH t2.toQz false).mono ?_;rintro _ w3 ⟨rfl,cq,u1,u2,u3⟩;have hk:fx a=false:=by
   unfold fx;have:¬(1<=a.k/\a.k<=3):=by
    simp only[ci,bC]at hc;omega
   rw[bq this];rfl
  exact⟨rfl,t2.sm u3 aM,[],cq,rfl,bm _,λe=>(by rw[hk]at e;cases e),by rw[hk];exact u1,u2,(t2.nx u2 u3).m⟩
 have VU:1<=a.k/\a.k<=3:=by
  simp only[eZ,fE]at hc;omega
 have hwd:∀x,[[],nK,iC,jL][a.k.toNat]? =some x->dN q a.k 1 ⟨g,a.k.toNat,none⟩/\∀w',aF w' g 9 cs->aB w' ⟨g,a.k.toNat,none⟩ [ab (T x)]:=λx hx=>by
  have:=cG _ x hx;rwa[fO aE]at this
 refine⟨λKc=>?_,λKc w8 gp=>?_⟩
 ·have hk:a.k=2:=acB
  have hW:O1 a=[iC,a.n]:=by unfold O1;rw[aR hk]
  refine(HO t2.toQz ((gF false).keep hx λk hk _=>h.arg t2.toQz (hF k hk))).mono ?_;rintro _ w3 ⟨rfl,V5,u1,u2,u3⟩;have t3:=t2.nx u2 u3;refine⟨rfl,t2.sm u3 aM,λw4 dR=>⟨λk=>k∈[k0,g],aM,?_⟩⟩;have t4:=t3.q dR;obtain⟨y1,y2⟩:=hwd iC acI;have rD:aF w4 g 9 cs:=(t3.sq (ks':=[g]) dR aM g aM).trans ((t2.sm (ks':=[g]) u3 aM g aM).trans kQ);refine⟨_,y1,aM,_,y2 w4 rD,(lW t4.toQz a.n aE).mono ?_⟩;rintro _ w5 ⟨rfl,RC,v1,v2,v3⟩;have t5:=t4.nx v2 v3;obtain⟨q6,w6,e6,ez,_,hj⟩:=Ae w5 [iC,a.n] (n:=2) (parts:=#[.mk 0 (ab (T iC)),.mk 1 (ab (T a.n))]) rfl rfl aL aL (by rw[<-hW];omega);have z6:=ez.size;refine⟨_,rfl,t4.sm v3 aM,bR.of (t4.sm v3 aM),q6,w6,e6,t5.sq ez aM,bR.of (t5.sq ez aM),hj.mono ?_⟩;rintro _ w7 ⟨rfl,Kg⟩;have gD:=rl ez Kg;have t7:=t5.q gD;have hU:=u1.tr v1;have qE:fx a=(mj a.x&&cN a.n):=by
   unfold fx;rw[aR hk,bE VU,bS,Bool.and_comm]
  rw[<-qE]at hU;rw[<-hW];refine⟨_,rfl,t5.sj z6 Kg aM,bR.of (t5.sj z6 Kg aM),aam,fA (O1 a)++[59],RC,aaY,aay,λqE=>Sw qE,hU,t7.toQz,t7.m⟩
 have hk:a.k≠2:=acB
 have hW:O1 a=[if a.k=1 then nK else jL,a.n,[61],qD a.x]:=by unfold O1;rw[aO hk]
 have t8:=t2.q gp;obtain⟨y1,y2⟩:=hwd (if a.k=1 then nK else jL) (by
  by_cases h1:a.k=1
  ·rw[aR h1,h1];rfl
  rw[aO h1,show a.k=3 by omega];rfl)
 have wy:aF w8 g 9 cs:=(t2.sq (ks':=[g]) gp aM g aM).trans kQ;refine⟨λk=>k∈[k0,g],aM,_,y1,aM,_,y2 w8 wy,aM,(lW t8.toQz a.n aE).mono ?_⟩;rintro _ w9 ⟨rfl,V6,u1,u2,u3⟩;have t9:=t8.nx u2 u3;refine⟨_,rfl,t8.sm u3 aM,bR.of (t8.sm u3 aM),(HN t9.toQz ((gF false).keep hx λk hk _=>h.arg t9.toQz (hF k hk)) hn aE hE hT).mono ?_⟩;rintro _ dz ⟨rfl,ag8,v1,v2,v3⟩;have t10:=t9.nx v2 v3;obtain⟨W2,dJ,e11,dW,_,hj⟩:=Ae dz [if a.k=1 then nK else jL,a.n,[61],qD a.x] (n:=4) (parts:=#[.mk 0 (ab (T (if a.k=1 then nK else jL))),.mk 1 (ab (T a.n)),.mk 2 (ab (T [61])),.mk 3 (ab (T (qD a.x)))]) rfl rfl aL aL (by rw[<-hW];omega);have ED:=dW.size;refine⟨_,rfl,t9.sm v3 aM,bR.of (t9.sm v3 aM),W2,dJ,e11,t10.sq dW aM,bR.of (t10.sq dW aM),hj.mono ?_⟩;rintro _ eM ⟨rfl,OB⟩;have eJ:=rl dW OB;have t12:=t10.q eJ;have hU:=u1.tr v1;have qE:fx a=(cN a.n&&oo a.x):=by
  unfold fx;rw[aO hk,bE VU,bS]
 rw[<-qE]at hU;rw[<-hW];refine⟨_,rfl,t10.sj ED OB aM,bR.of (t10.sj ED OB aM),aam,fA (O1 a)++[59],ag8,aaY,aay,λqE=>Sw qE,hU,t12.toQz,t12.m⟩
end
theorem Up.bad{st cq:St}{c c':Bool}{n n':Nat}(h:Up st c n cq)(e:cq.1=true)(hc:c'=true->c=true)(hn:n<=n'):Up st c' n' cq:=by
 refine⟨?_,λe2=>by rw[e]at e2;cases e2⟩;rw[e];refine Eq.symm (bD λhk=>?_);obtain⟨a1,a2,a3⟩:=or3 (fK.2 hk).symm;have a3:=aW a3;have:=h.w;rw[e,a1,hc a2,bq (show ¬400<st.2+(n:Int) by omega)]at this;cases this
theorem uC:∀(l m:List Ac),iG (l++m)=iG l+iG m
 | [],m=>by rw[cp];show _=0+_;omega
 | a::l,m=>by rw[cy,iG,iG,uC l m];omega
theorem Uq(a:Ac):ne (u6 a)=true:=by
 have:u6 a≠[]:=by unfold u6;split<;>simp
 unfold ne;rw[bq this];rfl
theorem Ml:∀l:List Ac,Lib.joinTail [32] ((l.map u6).filter ne)=tH l
 | []=>rfl
 | a::l=>by rw[bG,fl (Uq a),fk,Ml l,tH]
theorem Ur(x y:List (aH)):Lib.joinTail [32] (x++y)=Lib.joinTail [32] x++Lib.joinTail [32] y:=by
 unfold Lib.joinTail;rw[dx,Cv]
theorem Za(l:List Ac):fA ([123]::(l.map u6++[[125]]))=sI l:=by
 rw[n9 aL,mR,Ur,Ml];rfl
theorem Sy{w:av}{B:Nat}{s:Sl}{ws:List (aH)}(h:Own jR 1 9 B w (λ_=>True) s ws)(x:aH)(hB:B<=w.heap.size)(hm:ws.length<=1073741824):
  ∃y w1,(au 41 1 #[.mk 0 (ab (T x))]).run aq w=.ok (Sl.v y) w1/\ay [] w w1/\∃s' w2,(Builtin.append_ #[41,41] 41 #[Sl.v s,Sl.v y]).run aq w1=.ok (Sl.v s') w2/\
   Own jR 1 9 B w2 (λ_=>True) s' (ws++[x])/\∃gs,ay gs w1 w2/\∀g,g∈gs->s.a=some ⟨g,0,none⟩/\B<=g:=by
 obtain⟨y,w1,e1,cA,s',w2,e2,qy,⟨gs,cO,tv⟩,_⟩:=rO (P:=aq) (t:=41) (ty:=41) (e:=9) (i:=Tryz.t9) (bytes:=16) (size:=1) (v:=ab (T x)) (x:=x) (G:=λ_=>False) (by kernel_rfl) (by kernel_rfl) rfl rfl rfl rfl aL aL aL db h hB rfl rfl (λk hk _=>hk.elim) aE;exact⟨y,w1,e1,cA,s',w2,e2,qy.mono db λk _=>trivial,gs,cO,λg hg=>⟨(tv g hg).1,(tv g hg).2.1⟩⟩
theorem _root_.Go.Kt.Own.NE{w w':av}{B b:Nat}{s:Sl}{ws:List (aH)}(h:Own jR 1 9 B w (λ_=>True) s ws)(hO:ay [b] w w')(hb:b<B):Own jR 1 9 B w' (λ_=>True) s ws:=by
 rcases h with⟨rfl,rfl⟩ | ⟨g,css,tail,h1,h2,h4,h5,h6,h7,h9,h8⟩
 ·exact .inl ⟨rfl,rfl⟩
 have e:∀{l:List (aH)} {css:List (aI)},nJ jR 1 w (λk=>True/\k≠g) l css->nJ jR 1 w' (λk=>True/\k≠g) l css:=fun{l}=>by
  induction l with
  | nil=>intro css h;cases css with | nil=>trivial | cons _ _=>exact h
  | cons x l ih=>intro css h;cases css with | nil=>exact h | cons c css=>exact⟨h.1,ih h.2⟩
 exact .inr ⟨g,css,tail,h1,h2,hO.blk h4 aae,h5,h6,h7,h9,e h8⟩
theorem Mm{α:Type}{p:α->Bool}{xs:List α}{j:Nat}(h:xs.all p=true):(xs.take j).all p=true:=by
 rw[dv]at h⊢;exact λx hx=>h x (List.mem_of_mem_take hx)
theorem DZ(ws:List (aH))(x:aH):((ws++[x]).map λl=>l.length+1).sum=(ws.map λl=>l.length+1).sum+(x.length+1):=by
 rw[dx,OU];simp
section
variable {w0 w:av} {b:Nat} {l:aH} {st:St}
theorem BI(h:Qz w0 b w l st){F:aJ}{s:Sl}{xs:List Ac}(hx:aA (sN false) 9 w F s xs)(hF:∀k,F k->k<w0.heap.size)(hn:∀a,a∈xs->Ab a)(hs:iG xs<=16777216)(hE:Er w0)(hT:Tb w0):
  az aq 105 #[rp b,s.v] w λe w'=>∃t cq,e=ak (ab (T t))/\t.length<=16405*iG xs/\(cq.1=false->t=if xs=[]then[]else sI xs)/\Up st (xs.all fx) xs.length cq/\Qz w0 b w' l cq/\Mw true b w w':=by
 refine(ad0 ⟨b,0,none⟩ s (λv w'=>∃t cq,v=ab (T t)/\t.length<=16405*iG xs/\(cq.1=false->t=if xs=[]then[]else sI xs)/\Up st (xs.all fx) xs.length cq/\Qz w0 b w' l cq/\Mw true b w w') w ?_).mono (by
  rintro e w' ⟨v,rfl,s,cq,rfl,h⟩;exact⟨s,cq,rfl,h⟩)
 have eu:=hx.len;have hlz:=gY xs;refine⟨λhc=>?_,λhc=>?_⟩
 ·have hc:s.n=0:=by have:((s.n:Int))=0:=aaf;omega
  have:xs=[]:=bA aE;subst this;exact⟨[],st,rfl,bm _,λ_=>(aR rfl).symm,h.U1,h,Mw.refl _ _ _⟩
 have ia:xs≠[]:=λe=>by
  subst e;have:s.n=0:=eu;rw[this]at hc;exact absurd hc aL
 obtain⟨q,sl,hB,Ey⟩:=h.set;refine⟨st.2,Blk.eo hB 3 rfl,b,3,_,_,FP b 3,hB,aM,λw1 cA pv=>⟨_,Blk.eo pv 3 rfl,(HM (q:=q) (sl:=sl) (wr:=st.1) (ac:=ar U (st.2+(s.n:Int))) pv _).mono ?_⟩⟩;rintro _ w2 ⟨rfl,cO,kQ⟩;have hU1:Up st true xs.length (st.1||!decide (ar U (st.2+(s.n:Int))<=400),ar U (st.2+(s.n:Int))):=by
  cases e:st.1
  ·have:=h.i e;have ew:ar U (st.2+(s.n:Int))=st.2+xs.length:=by rw[eu];exact fS aE aE
   rw[ew];refine⟨?_,λ_=>rfl⟩;rw[e];by_cases h4:st.2+(xs.length:Int)<=400
   ·rw[bE h4,bq aE];rfl
   rw[bq h4,bE aE];rfl
  exact⟨by rw[e];rfl,λe2=>by cases e2⟩
 obtain⟨h2,tq⟩:=Ey w2 _ (cA.trans cO λx hx=>.inl hx) kQ λe=>hU1.le (λe=>(h.i e).1) e;generalize (st.1||!decide (ar U (st.2+(s.n:Int))<=400),ar U (st.2+(s.n:Int)))=II at*
 have b2:=h2.lb;have U9:∀k,Bu w2 b k->k<w2.heap.size:=λk hk=>(h2.bu hk).2;obtain⟨q3,w3,e3,da,ag9,_⟩:=Ae w2 [[123]] (n:=1) (parts:=#[.mk 0 (ab (T [123]))]) rfl rfl aL aL aL;have t3:=(h2.z true).q da;refine⟨rfl,q3,w3,e3,λl1 w'=>∃ws cq,Own jR 1 9 w2.heap.size w' (λ_=>True) l1 ws/\ws.length<=16777217/\(ws.map λl=>l.length+1).sum<=2+16401*iG xs/\(cq.1=false->ws=[123]::xs.map u6)/\Up II (xs.all fx) 0 cq/\Zq true w0 w2 b w' l cq [],?_,?_⟩
 ·rintro l1 w4 ⟨ws,GF,V7,W4,hws,Te,hU4,t4⟩;have z4:=t4.m.o.size;obtain⟨y,w5,e5,fe,s6,w6,e6,aha,gs,ez,tv⟩:=Sy V7 [125] z4 aE;refine⟨y,w5,e5,s6,w6,e6,?_⟩;have t6:=(t4.q fe).row b2 U9 (ez.p (F:=λk=>w2.heap.size<=k) λx hx=>.inl (tv x hx).2);have RD:=DZ ws [125];have xr:=iE (ws++[[125]]);have hl1:([125]:aH).length=1:=rfl;refine(yA aha aE aay).mono ?_;rintro _ w7 ⟨rfl,Kg⟩;have t7:=t6.row b2 U9 Kg;have hsz:1<=iG xs:=by
   have:1<=xs.length:=Cw.2 ia;omega
  refine⟨_,rfl,fA (ws++[[125]]),GF,rfl,aE,λe=>?_,(hU1.tr hU4).cg aM aM,t7.toQz,tq.trans t7.m⟩;rw[aO ia,Te e];exact Za xs
 refine⟨λnv l1 i w'=>∃(j:Nat) (ws:List (aH)) (cq:St),i=j/\j<=xs.length/\nv=xs.length-j/\Own jR 1 9 w2.heap.size w' (λ_=>True) l1 ws/\ws.length<=j+1/\(ws.map λl=>l.length+1).sum<=2+16401*iG (xs.take j)/\(cq.1=false->ws=[123]::(xs.take j).map u6)/\Up II ((xs.take j).all fx) 0 cq/\Zq true w0 w2 b w' l cq [],
  xs.length,⟨0,[[123]],II,rfl,bm _,rfl,ag9,aY _,aY _,λ_=>rfl,h2.U1,t3⟩,?_⟩
 rintro nv l4 _ w7 ⟨j,ws,Tf,rfl,hj,rfl,RE,W4,hws,Te,IX,t7⟩;have z7:=t7.m.o.size;have Z2:iG xs=iG (xs.take j)+iG (xs.drop j):=by rw[<-uC,eL]
 refine⟨λhc=>?_,λhc=>?_⟩
 ·have cd:(j:Int)<s.n:=aV hc;have hx7:aA (sN false) 9 w7 F s xs:=SliceF.keep (dH false) hx aL λk hk _=>h.arg t7.toQz (hF k hk);obtain⟨ad,a,cs,g1,g2,g3,g4,g5,g6⟩:=hx7.get (bc j) cd;rw[ba]at g2;have ha:=bF g2;have ov:xs.take (j+1)=xs.take j++[a]:=by
   rw[bK,g2];rfl
  have hsa:iG (xs.take (j+1))=iG (xs.take j)+DX a:=by
   rw[ov,uC];show _+(DX a+0)=_;omega
  have ajK:iG xs=iG (xs.take (j+1))+iG (xs.drop (j+1)):=by rw[<-uC,eL]
  obtain⟨xc,rfl,hxc⟩:=g6;obtain⟨xl,rfl⟩:=eV hxc;refine⟨ad,g1,_,_,_,_,_,_,_,_,_,g5,λk5 w8 oy GB gp=>?_⟩;have t8:=t7.al gp oy GB;obtain⟨q8,sl8,wy,_⟩:=t8.toQz.set;refine⟨Tf.1,Blk.eo wy 2 rfl,λhw=>?_,λhw=>?_⟩
  ·have t8':Zq true w0 w2 b w8 l Tf []:=⟨t8.toQz,t8.m,λk hk=>(by cases hk)⟩
   have GD:=RE.keep db λk hk cd=>gp.block k cd aM;exact⟨ws,Tf,GD,aE,aE,λe=>absurd (hw.symm.trans e) aL,IX.bad hw Mm (aY _),t8'⟩
  refine(Y9 t8.toQz ((dH false).keep ⟨_,rfl,hxc⟩ λk _ cd=>gp.block k cd aM) hF (hn a ha) (by have:=rm ha;omega) hE hT).mono ?_;rintro _ w9 ⟨tx,V6,rfl,hl9,ahc,Tg,h9,Xk⟩;have t9:=t8.nx h9 Xk;have ahd:∀g,l4.a=some ⟨g,0,none⟩->w2.heap.size<=g/\g<w7.heap.size:=λg hg=>by
   rcases RE with⟨rfl,_⟩ | ⟨g',css,tl,a1,a2,a4,_⟩
   ·cases hg
   rw[a1]at hg;injection hg with hg;injection hg with hg;subst hg;exact⟨a2,a4.lt⟩
  have ahe:Own jR 1 9 w2.heap.size w9 (λ_=>True) l4 ws:=by
   have o1:=RE.keep db (w':=w8) λk hk cd=>gp.block k cd aM;refine(o1.mono (G:=λ_=>True) db λ_ _=>trivial).NE Xk.only1 b2
  obtain⟨y,dz,V8,dL,KD,dJ,e11,Oz,gs,dW,tv⟩:=Sy ahe tx (bh z7 (bh gp.size Xk.o.size)) aE;have t10:=t9.q dL;have t11:=t10.row b2 U9 (dW.p (F:=λk=>w2.heap.size<=k) λx hx=>.inl (tv x hx).2);have KD:cb [k5] dz dJ:=dW.same λx hx=>by
   have:=(t10.k x aas).1;refine⟨this,λhm=>?_⟩;have:=(ahd x (tv x hm).1).2;simp only[aQ]at hx;omega
  have RD:=DZ ws tx;refine⟨_,rfl,t8.sm Xk aM,y,dz,V8,t9.sq dL aM,_,dJ,e11,KD,xs.length-(j+1),aE,j+1,ws++[tx],V6,aad,aE,rfl,Oz,aay,?_,λe=>?_,(IX.tr Tg).cg ?_ rfl,⟨t11.toQz,t11.m,λk hk=>(by cases hk)⟩⟩
  ·rw[RD,hsa];have:16400+a.n.length+1<=16401*DX a:=by unfold DX;omega
   omega
  ·obtain⟨e1,e2,_⟩:=Tg.ok e;rw[Te e1,ahc e2,ov,dx];rfl
  rw[ov,ji];simp
 have nE:¬(j:Int)<s.n:=aW hc;have uW:j=xs.length:=aE
 subst uW;rw[bU (aY _)]at hws Te IX;exact⟨ws,Tf,RE,aE,hws,Te,IX,t7⟩
end
theorem ae7{w:av}{F:aJ}{s:Sl}{xs:List (aH)}(h:aA jR 1 w F s xs)(sep:aH)(hl:(Lib.join xs sep).length<=140737488355328)(hn:xs.length<=140737488355328):
  az aq 145 #[s.v,ab (T sep)] w λe w'=>e=ak (ab (T (Lib.join xs sep)))/\ay [] w w':=by
 have eu:=h.len;have nD:=h.cap;obtain⟨sa,sn,sc⟩:=s;dsimp only at eu nD;subst eu;cases xs with
 | nil=>
  refine(Tryz.strings_Join_none sa sc (T sep) w).mono ?_;rintro _ w2 ⟨rfl,rfl⟩;exact⟨rfl,Only.refl _ _⟩
 | cons x xs=>
  obtain⟨base,cs,g1,g2,g3,g4,g5⟩:=h.at_ 0 x rfl;have g1:sa=some base:=g1;unfold jR at g5;subst g5 g1;have h0:=g4 0 _ rfl;have OC:base.spot=none:=by
   unfold World.cell? at h0;split at h0
   ·split at h0
    ·cases h0
    rename_i hs;have e:((base.add (0*1)).add 0).spot=base.spot:=rfl;rw[e]at hs;cases hb:base.spot with
    | none=>rfl
    | some v=>rw[hb]at hs;simp at hs
   cases h0
  obtain⟨bk,o,sp⟩:=base;dsimp only at OC;subst OC;have cd:bk<w.heap.size:=by
   have e:((Addr.add ⟨bk,o,none⟩ (0*1)).add 0:Addr)=⟨bk,o,none⟩:=acC
   rw[e]at h0;refine bD λhn=>?_;unfold World.cell? at h0;rw[fL aaq]at h0;cases h0
  have:=Tryz.strings_Join bk o sc ((x::xs).map T) (T sep) w (λj y hj=>by
   rw[cR,fM]at hj;obtain⟨z,hz,rfl⟩:=hj;obtain⟨base,cs,g1,g2,g3,g4,g5⟩:=h.at_ j z hz;unfold jR at g5;subst g5;cases g1;have:=g4 0 _ rfl;have e:((Addr.add ⟨bk,o,none⟩ (j*1)).add 0:Addr)=⟨bk,o+j,none⟩:=acC
   rw[e]at this;exact this) cd abI abI (by
   rw[j8];have:((λx:aK=>x.data.toList)∘T)=id:=rfl;rw[this,Kp];exact hl)
  rw[bX]at this;refine this.mono ?_;rintro _ w2 ⟨rfl,hB⟩;refine⟨?_,Only.below hB⟩;rw[j8];have:((λx:aK=>x.data.toList)∘T)=id:=rfl;rw[this,Kp]
theorem HQ:∀l:List (aH),Lib.joinTail [44,32] l=zr l
 | []=>rfl
 | s::l=>by
  unfold Lib.joinTail;rw[bG,dw];show[44,32]++s++Lib.joinTail [44,32] l=_;rw[HQ l];rfl
theorem HR(s:aH)(l:List (aH)):(Lib.join (s::l) [44,32]).length<=2*Cz (s::l):=by
 have h1:∀l:List (aH),(zr l).length<=2*Cz l:=λl=>by
  induction l with
  | nil=>exact bm _
  | cons s l ih=>
   unfold Cz at ih⊢;rw[bG,cr,zr,aU,aU,aN];omega
 rw[Lib.join_cons,HQ,aN];have:=h1 l;have e:Cz (s::l)=(s.length+1)+Cz l:=by unfold Cz;rw[bG,cr]
 omega
theorem HS(l:List (aH)):l.length<=Cz l:=by
 unfold Cz
 induction l with
 | nil=>exact bm _
 | cons s l ih=>rw[bG,cr,aU];omega
theorem BJ{s:aH}{l:List (aH)}(h:s∈l):s.length+1<=Cz l:=by
 unfold Cz
 induction l with
 | nil=>simp at h
 | cons x l ih=>
  rw[bG,cr];rcases aX.1 h with rfl | h
  ·omega
  have:=ih h;omega
def Sz(m:Mv):aH:=if m.k=1 then fA [wG,m.ev]else if m.k=3 then fA [fY,Lib.itoa m.wt]else fI
def Us(m:Mv):aH:=if m.gd then 91::(qD m.g++[93])else[]
def Ku(m:Mv):aH:=match m.tg with
 | []=>[]
 | s::l=>45::62::32::(s++zr l)
theorem D0{n:Int}(h:wA n):(Lib.itoa n).length<=21:=Lib.itoa_length_le n h.1 h.2
theorem QE(n:Int):ne (Lib.itoa n)=true:=by
 have:Lib.itoa n≠[]:=by
  unfold Lib.itoa;split
  ·simp
  rw[Lib.decDigits];split<;>simp
 unfold ne;rw[bq this];rfl
theorem Mn{m:Mv}(h:jo m=true):fA [Sz m,Us m,(if m.acts=[]then[]else sI m.acts),Ku m]++[59]=sO m:=by
 unfold jo at h;simp only[aP]at h;obtain⟨⟨⟨⟨⟨h1,h2⟩,h3⟩,h4⟩,h5⟩,h6⟩:=h;have hh:Sz m=Jt m/\ne (Sz m)=true:=by
  unfold Sz Jt;by_cases k1:m.k=1
  ·rw[aR k1]at h2;rw[aR k1,aR k1,n9 aL,fl (pT h2),eH,fk,lH,bL];exact⟨rfl,rfl⟩
  rw[aO k1,aO k1];by_cases k3:m.k=3
  ·rw[aR k3,aR k3,n9 aL,fl (QE _),eH,fk,lH,bL];exact⟨rfl,rfl⟩
  rw[aO k3,aO k3];exact⟨rfl,aL⟩
 rw[n9 hh.2,hh.1];unfold sO;rw[bf];congr 1;have e1:Lib.joinTail [32] ([Us m,(if m.acts=[]then[]else sI m.acts),Ku m].filter ne)=Hz m++((if m.acts=[]then[]else 32::sI m.acts)++(match m.tg with
  | []=>[]
  | s::l=>32::45::62::32::(s++zr l))):=by
  have eg:∀ws:List (aH),Lib.joinTail [32] ((Us m::ws).filter ne)=Hz m++Lib.joinTail [32] (ws.filter ne):=λws=>by
   unfold Us Hz;cases m.gd
   ·simp only[gu,iM];rw[Mj];rfl
   simp only[wQ];rw[fl (by rfl),fk];rfl
  have ea:∀ws:List (aH),Lib.joinTail [32] (((if m.acts=[]then[]else sI m.acts)::ws).filter ne)=(if m.acts=[]then[]else 32::sI m.acts)++Lib.joinTail [32] (ws.filter ne):=λws=>by
   by_cases ha:m.acts=[]
   ·rw[aR ha,aR ha,Mj];rfl
   rw[aO ha,aO ha,fl (by rfl),fk];rfl
  rw[eg,ea];congr 2;unfold Ku;cases m.tg with
  | nil=>rfl
  | cons s l=>
   rw[fl (by rfl),fk,eH,lH,bL]
 rw[e1];simp only[bf]
 all_goals rfl
theorem mvB(m:Mv):((((if m.k=1 then cN m.ev else if m.k=3 then decide (0<=m.wt)else decide (m.k=2))&&((decide (m.ev=[])||(m.k==1))&&((m.wt==0)||(m.k==3))))&&(if m.gd then oo m.g else mj m.g))&&(m.tg.all cN&&m.acts.all fx))=jo m:=by
 unfold jo;generalize (if m.gd then oo m.g else mj m.g)=A;generalize m.tg.all cN=B;generalize m.acts.all fx=C;generalize cN m.ev=D;by_cases k1:m.k=1
 ·rw[aR k1,aR k1,k1];cases D<;>cases A<;>cases B<;>cases C<;>by_cases hw:m.wt=0<;>simp[hw]
 rw[aO k1,aO k1];by_cases k3:m.k=3
 ·rw[aR k3,k3];cases A<;>cases B<;>cases C<;>by_cases he:m.ev=[]<;>by_cases hw:m.wt=0<;>by_cases hp:0<m.wt<;>simp[hw,he,hp]<;>omega
 rw[aO k3];by_cases k2:m.k=2
 ·rw[k2];cases A<;>cases B<;>cases C<;>by_cases he:m.ev=[]<;>by_cases hw:m.wt=0<;>simp[hw,he]
 have:¬(1<=m.k/\m.k<=3):=aE
 rw[bq this,bq k2];simp
section
variable {w0 w:av} {b:Nat} {l:aH} {st:St}
theorem Ut(h:Qz w0 b w l st){F:aJ}{m:Mv}{cs:aI}(hx:zq false w F m cs)(hF:∀k,F k->k<w0.heap.size)(hn:IV m)(hs:DY m<=16777216)(hE:Er w0)(hT:Tb w0):
  az aq 106 #[rp b,ah cs.toArray] w λe w'=>∃t cq,e=ak (ab (T t))/\t.length<=16450*DY m/\(cq.1=false->t=sO m)/\Up st (jo m) m.acts.length cq/\Qz w0 b w' l cq/\Mw true b w w':=by
 obtain⟨gc,nM,tg,rfl,hg,EZ,za⟩:=hx;obtain⟨gl,rfl⟩:=eV hg;have EZ:=EZ.1;have za:=za.1;have hsz:=hs;unfold DY at hsz;refine(aec ⟨b,0,none⟩ m.k (T m.ev) m.wt m.gd m.g.k m.g.n (T m.g.s) m.g.op gl m.g.a nM tg m.a (λv w'=>∃t cq,v=ab (T t)/\t.length<=16450*DY m/\(cq.1=false->t=sO m)/\Up st (jo m) m.acts.length cq/\Qz w0 b w' l cq/\Mw true b w w') w ?_).mono (by
  rintro e w' ⟨v,rfl,s,cq,rfl,h⟩;exact⟨s,cq,rfl,h⟩)
 intro k0 w1 iJ dV cA;have t1:=(h.z true).al cA iJ dV;have Kz:=za.len;have htn:=HS m.tg;refine⟨λs0 w'=>∃hd cq,s0=T hd/\hd.length<=30+m.ev.length/\(cq.1=false->hd=Sz m)/\Up st (if m.k=1 then cN m.ev else if m.k=3 then decide (0<=m.wt)else decide (m.k=2)) 0 cq/\Zq true w0 w b w' l cq [k0],?_,λhc=>?_,λhc=>⟨λRF=>?_,λRF=>?_⟩⟩
 ·rintro _ w2 ⟨hd,ww,rfl,u9,Z9,Xl,t2⟩;refine(jH t2.toQz _).mono ?_;rintro _ w3 ⟨rfl,V5,u1,u2,u3⟩;have t3:=t2.nx u2 u3;have hU3:=Xl.tr u1;rw[show ao #[]=T []from rfl,ju]at hU3;refine⟨rfl,t2.sm u3 aM,λs1 w'=>∃gt cq,s1=T gt/\gt.length<=16386/\(cq.1=false->gt=Us m)/\Up V5 (if m.gd then oo m.g else mj m.g) 0 cq/\Zq true w0 w b w' l cq [k0],?_,λPu=>?_,λPu=>?_⟩
  ·rintro _ w4 ⟨gt,GF,rfl,gtl,gtt,hU4,t4⟩;refine⟨λnv i w'=>∃(j:Nat) (cq:St),i=j/\j<=m.tg.length/\nv=m.tg.length-j/\Up GF ((m.tg.take j).all cN) 0 cq/\Zq true w0 w b w' l cq [k0],m.tg.length,⟨0,GF,rfl,bm _,rfl,t4.toQz.U1,t4⟩,?_⟩;rintro nv _ w5 ⟨j,RC,rfl,hj,rfl,V9,t5⟩;have abj:aA jR 1 w5 F tg m.tg:=SliceF.keep db za aL λk hk _=>h.arg t5.toQz (hF k hk);refine⟨λhc=>?_,λhc=>?_⟩
   ·have cd:(j:Int)<tg.n:=aV hc;obtain⟨ad,x,cs,g1,g2,g3,g4,g5,g6⟩:=abj.get (bc j) cd;rw[ba]at g2;unfold jR at g6;subst g6;have hxm:=BJ (bF g2);refine⟨ad,g1,_,g5,(lW t5.toQz x aE).mono ?_⟩;rintro _ w6 ⟨rfl,st6,v1,v2,v3⟩;refine⟨_,rfl,t5.sm v3 aM,m.tg.length-(j+1),aE,j+1,st6,aad,aE,rfl,(V9.tr v1).cg ?_ rfl,t5.nx v2 v3⟩;rw[bK,g2,ji];simp
   have nE:¬(j:Int)<tg.n:=aW hc;have uW:j=m.tg.length:=aE
   subst uW;rw[bU (aY _)]at V9;refine⟨λs4 w'=>s4=T (Ku m)/\Zq true w0 w b w' l RC [k0],?_,λhc=>?_,λhc=>?_⟩
   ·rintro _ w7 ⟨rfl,t7⟩;refine(BI t7.toQz (SliceF.keep (dH false) EZ aL λk hk _=>h.arg t7.toQz (hF k hk)) hF hn.a aE hE hT).mono ?_;rintro _ w8 ⟨bt,Wa,rfl,btl,btt,hU8,v2,v3⟩;have t8:=t7.nx v2 v3;have amK:(Ku m).length<=3+2*Cz m.tg:=by
     unfold Ku;cases hm:m.tg with
     | nil=>exact bm _
     | cons s l=>
      have:=HR s l;rw[Lib.join_cons,HQ]at this;rw[aU,aU,aU];omega
    have xr:=iE [hd,gt,bt,Ku m];simp only[bG,gA,cr,iu]at xr;have IG:DY m=(iG m.acts+yV m.g)+(Cz m.tg+(m.ev.length+1)):=rfl;obtain⟨q9,w9,e9,gr,_,hj9⟩:=Ae w8 [hd,gt,bt,Ku m] (n:=4) (parts:=#[.mk 0 (ab (T hd)),.mk 1 (ab (T gt)),.mk 2 (ab (T bt)),.mk 3 (ab (T (Ku m)))]) rfl rfl aL aL aE;have z9:=gr.size;refine⟨_,rfl,t7.sm v3 aM,q9,w9,e9,t8.sq gr aM,hj9.mono ?_⟩;rintro _ dz ⟨rfl,abm⟩;have t10:=t8.q (rl gr abm);have hU:=(hU3.tr hU4).tr (V9.tr hU8);refine⟨_,rfl,t8.sj z9 abm aM,aam,fA [hd,gt,bt,Ku m]++[59],Wa,aaY,aay,λe=>?_,hU.cg ?_ aE,t10.toQz,t10.m⟩
    ·obtain⟨x5,x8,_⟩:=hU8.ok e;obtain⟨x4,x5',_⟩:=V9.ok x5;obtain⟨x3,x4',_⟩:=hU4.ok x4;obtain⟨x2,x3',_⟩:=u1.ok x3;obtain⟨x1,x2',_⟩:=Xl.ok x2;rw[Z9 x2,gtt x4,btt e];refine Mn ?_;obtain⟨_,y,_⟩:=hU.ok e;exact(mvB m).symm.trans y
    exact mvB m
   ·have Rs:m.tg≠[]:=λe=>by
     rw[e]at Kz;have:tg.n=0:=Kz;rw[this]at hc;exact absurd hc aL
    have xr:(Lib.join m.tg [44,32]).length<=2*Cz m.tg:=by
     cases hm:m.tg with
     | nil=>exact absurd hm Rs
     | cons s l=>exact HR s l
    refine(ae7 abj [44,32] aE aE).mono ?_;rintro _ w7 ⟨rfl,gD⟩;refine⟨_,rfl,t5.sq gD aM,aam,?_,t5.q gD⟩;rw[show ao #[45,62,32]=T [45,62,32]from rfl,dQ];congr 1;unfold Ku;cases hm:m.tg with
    | nil=>exact absurd hm Rs
    | cons s l=>
     rw[Lib.join_cons,HQ];rfl
   have hz:m.tg=[]:=bA aao;refine⟨?_,t5⟩;unfold Ku;rw[hz]
  ·refine(HN t3.toQz ((gF false).keep hg λk hk _=>h.arg t3.toQz (hF k hk)) hn.g aE hE hT).mono ?_;rintro _ w4 ⟨rfl,GF,v1,v2,v3⟩;have t4:=t3.nx v2 v3;have:=BH m.g;refine⟨_,rfl,t3.sm v3 aM,aam,?_,91::(qD m.g++[93]),GF,?_,aae,λ_=>by unfold Us;rw[aR Pu],by rw[aR Pu];exact v1,t4⟩
   ·rw[show ao #[91]=T [91]from rfl,dQ,bO,aN,bp];omega
   rw[show ao #[91]=T [91]from rfl,show ao #[93]=T [93]from rfl,dQ,dQ];rfl
  refine(HO t3.toQz ((gF false).keep hg λk hk _=>h.arg t3.toQz (hF k hk))).mono ?_;rintro _ w4 ⟨rfl,GF,v1,v2,v3⟩;exact⟨rfl,t3.sm v3 aM,[],GF,rfl,bm _,λ_=>by unfold Us;rw[aO (by rw[Pu];decide)],by rw[aO (by rw[Pu];decide)];exact v1,t3.nx v2 v3⟩
 ·have hk:m.k=1:=aaf
  refine(lW t1.toQz m.ev aE).mono ?_;rintro _ w2 ⟨rfl,ww,v1,v2,v3⟩;have t2:=t1.nx v2 v3;have xr:=iE [wG,m.ev];simp only[bG,gA,cr,iu]at xr;have hw:wG.length=2:=rfl;obtain⟨q3,w3,e3,da,_,O8⟩:=Ae w2 [wG,m.ev] (n:=2) (parts:=#[.mk 0 (ab (T wG)),.mk 1 (ab (T m.ev))]) rfl rfl aL aL aE;have z3:=da.size;refine⟨_,rfl,t1.sm v3 aM,q3,w3,e3,t2.sq da aM,O8.mono ?_⟩;rintro _ w4 ⟨rfl,Th⟩;exact⟨_,rfl,t2.sj z3 Th aM,_,ww,rfl,aE,λ_=>by unfold Sz;rw[aR hk],by rw[aR hk];exact v1,t2.q (rl da Th)⟩
 ·have ku:m.k≠1:=aaf
  have hk:m.k=3:=by simpa using RF
  refine(jH t1.toQz _).mono ?_;rintro _ w2 ⟨rfl,ww,v1,v2,v3⟩;have t2:=t1.nx v2 v3;refine⟨rfl,t1.sm v3 aM,(xa m.wt hn.w (hT.only t2.o)).mono ?_⟩;rintro _ w3 ⟨rfl,da⟩;have t3:=t2.q da;have xr:=iE [fY,Lib.itoa m.wt];simp only[bG,gA,cr,iu]at xr;have hw:fY.length=5:=rfl;have hil:=D0 hn.w;obtain⟨q4,w4,e4,dR,_,hj4⟩:=Ae w3 [fY,Lib.itoa m.wt] (n:=2) (parts:=#[.mk 0 (ab (T fY)),.mk 1 (ab (T (Lib.itoa m.wt)))]) rfl rfl aL aL aE;have z4:=dR.size;refine⟨_,rfl,t2.sq da aM,q4,w4,e4,t3.sq dR aM,hj4.mono ?_⟩;rintro _ w5 ⟨rfl,hP5⟩;exact⟨_,rfl,t3.sj z4 hP5 aM,_,ww,rfl,aE,λ_=>by unfold Sz;rw[aO ku,aR hk],by rw[aO ku,aR hk];exact v1,t3.q (rl dR hP5)⟩
 have ku:m.k≠1:=aaf
 have J9:m.k≠3:=by simpa using RF
 refine(jH t1.toQz _).mono ?_;rintro _ w2 ⟨rfl,ww,v1,v2,v3⟩;have t2:=t1.nx v2 v3;refine⟨rfl,t1.sm v3 aM,fI,ww,rfl,by show 6<=_;omega,λ_=>by unfold Sz;rw[aO ku,aO J9],by rw[aO ku,aO J9];exact v1,t2⟩
end
theorem Mo{w:av}{b:Nat}{q:Option Addr}{v1 v2 v3:aw}(hq:q=none∨q=some ⟨b,0,none⟩)(h:aF w b 116 [ae q,v1,v2,v3]):
  az aq 142 #[ae (some ⟨b,0,none⟩)] w λe w'=>e=ak (ai #[])/\ay [b] w w'/\aF w' b 116 [ae (some ⟨b,0,none⟩),v1,v2,v3]:=by
 refine ret (Se _ _ _ ?_);have qm:w.shape? b=some (116,4):=by
  unfold World.shape?;unfold aF at h;rw[h];rfl
 refine⟨q,Blk.eo h 0 rfl,λhn=>?_,λhn=>⟨q,Blk.eo h 0 rfl,?_⟩⟩
 ·have hr1:=Lib.run_to_unsafe (P:=aq) (src:=111) (dst:=230) w ⟨b,0,none⟩ (t:=114) (j:=Tryz.t114) (by kernel_rfl) (by kernel_rfl) (by kernel_rfl) aL qm (by decide:(0:Nat)<4);have hr2:=Lib.run_from_unsafe (P:=aq) (src:=230) (dst:=111) w ⟨b,0,none⟩ (u:=114) (j:=Tryz.t114) (by kernel_rfl) (by kernel_rfl) (by kernel_rfl) qm (by kernel_rfl);exact⟨⟨ae (some ⟨b,0,none⟩),rfl⟩,w,hr1,⟨ae (some ⟨b,0,none⟩),rfl⟩,w,Sj _ w,some ⟨b,0,none⟩,w,hr2,b,0,_,_,rfl,h,aM,λw3 hO hB=>⟨rfl,hO,hB⟩⟩
 rcases hq with rfl | rfl
 ·cases hn
 exact⟨false,w,Lib.run_neq_ptr_same w _ (te:=114) (j:=Tryz.t114) (by kernel_rfl) (by kernel_rfl),λe=>abW,λ_=>⟨rfl,Only.refl _ _,h⟩⟩
section
variable {w0 w:av} {b:Nat} {l:aH} {st:St}
theorem QF(h:Qz w0 b w l st)(m:aH)(hm:l.length+m.length<=274877906944):az aq 99 #[ae (some ⟨b,0,none⟩),ab (T m)] w λe w'=>
  e=ak (ai #[O U (m.length:Int),.nilIface])/\Qz w0 b w' (l++m) st/\Mw false b w w':=by
 refine ret (Sd _ _ _ _ ?_);obtain⟨q,sl,hq,hB,Ti⟩:=h.ex;refine(Mo hq hB).mono ?_;rintro _ w1 ⟨rfl,cw,AB⟩;have z0:=cw.size;have hb:=hB.lt;have uV:Bf w1 (b+1) sl l:=Ti.keep λg hg hl=>cw.block g hl (by have:=(Ti.lt hg).1;simp;omega);obtain⟨s',w2,k1,k2,k3,k4⟩:=xb uV m aE aE;have z1:=k3.size;have pv:aF w2 b 116 [ae (some ⟨b,0,none⟩),sl.v,aj st.1,O U st.2]:=k3.blk AB λe=>ab5
 have AA:∀g,s'.a=some ⟨g,0,none⟩->b<g:=λg hg=>by
  rcases k4 with e | e
  ·rw[e]at hg;exact(uV.lt hg).1
  rw[e]at hg;injection hg with hg;injection hg with hg;omega
 refine⟨rfl,sl,Blk.eo AB 1 rfl,s',w2,k1,b,1,_,_,rfl,pv,aM,λw3 cO kQ=>?_⟩;have kQ:aF w3 b 116 [ae (some ⟨b,0,none⟩),s'.v,aj st.1,O U st.2]:=kQ;have fm:aD (λk=>k=b∨(false=false/\Bu w b k)) w w3:=((cw.p (F:=λk=>k=b∨(false=false/\Bu w b k)) λx hx=>.inl (.inl aas)).trans k3 λk hk=>.inl (.inr ⟨rfl,DW hB hk⟩)).trans (cO.p (F:=λk=>k=b) λx hx=>.inl aas) λk hk=>.inl (.inl hk);refine⟨by rw[bO],⟨?_,h.lo,⟨_,_,.inr rfl,kQ,k2.keep λg hg hl=>cO.block g hl abh⟩,h.i,by rw[aN];exact hm⟩,fm,λk hk=>?_⟩
 ·refine⟨fm.os.trans h.o.os,fm.tape.trans h.o.tape,fm.output.trans h.o.output,bh h.o.size fm.size,λk hk _=>(fm.block k (cj hk h.o.size) ?_).trans (h.o.block k hk aM)⟩;rintro(e | ⟨_,e⟩)
  ·have:=h.lo;omega
  have:=(h.bu e).1;have:=h.lo;omega
 have e:=HL kQ hk;rcases k4 with e2 | e2
 ·exact .inl (DW hB (e2▸e))
 rw[e2]at e;injection e with e;injection e with e;exact .inr ⟨rfl,aE⟩
theorem Zq.sl{f g:Bool}{ws w1 w':av}{ks ks':List Nat}(t:Zq f w0 ws b w l st ks)(hO:ay [] w w1)(m:Mw g b w w')(hk:∀k,k∈ks'->k∈ks):cb ks' w1 w':=λx hx=>
 (t.sm m hk x hx).trans (t.sq hO hk x hx).symm
theorem HT:∀d,Lib.repeatL [32,32] d=qs d
 | 0=>rfl
 | d+1=>by rw[Lib.repeatL,HT d];rfl
theorem HU:∀d,(qs d).length=2*d
 | 0=>rfl
 | d+1=>by rw[qs,aU,aU,HU d];omega
theorem wg(h:Qz w0 b w l st)(ws:List (aH)){n:Nat}{parts:Array (Nat×aw)}(hp:parts=(((ws.map λx=>Value.string (T x)).zipIdx 0).map λx=>(x.2,x.1)).toArray)(hn:ws.length=n)(h0:0<n)(tP:n*1<=16777216)(d:Nat)(hd:d<=12)(hl:(fA ws).length<=274877889536):
  ∃(q:Sl) (w1:av),(au 41 n parts).run aq w=.ok q.v w1/\ay [] w w1/\az aq 54 #[rp b,O U (d:Int),q.v] w1 λe w'=>e=ak (ai #[])/\Qz w0 b w' (if st.1 then l else iq l (d,fA ws)) st/\Mw false b w w':=by
 obtain⟨q,w1,e1,ahg,cA⟩:=iR w ws hp hn h0 tP;refine⟨q,w1,e1,cA,?_⟩;have t1:=(h.z true).q cA;have hb:=h.lb;have hbu:∀k,Bu w b k->k<w.heap.size:=λk hk=>(h.bu hk).2;refine ret (adU _ _ _ _ _ ?_);refine(HP t1.toQz).mono ?_;rintro _ w2 ⟨rfl,rfl⟩;obtain⟨qq,sl,hB,_⟩:=t1.toQz.set;refine⟨_,rfl,st.1,λ_=>Blk.eo hB 2 rfl,λhc w3 da=>?_,λhc=>?_⟩
 ·simp only[aP,cP,fE]at hc;obtain⟨wO,Kc⟩:=hc;have t3:=t1.q da;refine(Tryz.strings_Repeat (T [32,32]) d w3 aE (by show 2*d<=_;omega)).mono ?_;rintro _ w4 ⟨rfl,rD⟩;have dR:=Only.below rD;have t4:=t3.q dR;have V7:=ahg.keep db (w':=w4) λk hk cd=>(da.cn dR).block k cd aM;have u9:=HU d;refine⟨T (qs d),by rw[show(T [32,32]).data.toList=[32,32]from rfl,HT],(yA V7 aE aE).mono ?_⟩;rintro _ w5 ⟨rfl,hP5⟩;have t5:=t4.row hb hbu hP5;refine⟨_,rfl,by rw[bO,bO];omega,by rw[dQ,bO,aN];omega,?_⟩;rw[show ao #[10]=T [10]from rfl,dQ,dQ,show(Addr.add ⟨b,0,none⟩ 0:Addr)=⟨b,0,none⟩from rfl];refine(QF t5.toQz _ ?_).mono ?_
  ·simp only[aN,aU,aZ];omega
  rintro _ w6 ⟨rfl,h6,m6⟩;refine⟨_,⟨.nilIface,rfl⟩,rfl,rfl,?_,t5.m.up.trans m6⟩;rw[Kc,aO aL];unfold iq So;rw[aO wO];dsimp only;rw[bf]at h6;exact h6
 refine⟨rfl,?_,t1.m.up⟩;have:(if st.1 then l else iq l (d,fA ws))=l:=by
  cases e:st.1
  ·rw[e]at hc;have hc:16384<l.length:=aaf
   rw[aO aL];unfold iq;rw[aR hc]
  rfl
 rw[this];exact t1.toQz
theorem yE(h:Qz w0 b w l st)(d:Nat)(hd:d<=12)(word text:aH)(hw:word.length<=100)(hl:text.length<=274877880000):
  az aq 104 #[rp b,O U (d:Int),ab (T word),ab (T text)] w λe w'=>e=ak (ai #[])/\Qz w0 b w' (if st.1||decide (text=[])then l else iq l (d,fA [word,text])) st/\Mw false b w w':=by
 refine ret (adZ _ _ _ _ _ _ ?_);rw[show ao #[]=T []from rfl,ju];refine⟨λhc=>?_,λhc=>?_⟩
 ·have hc:text≠[]:=aaf
  have xr:=iE [word,text];simp only[bG,gA,cr,iu]at xr;obtain⟨q,w1,e1,cA,hj⟩:=wg h [word,text] (n:=2) (parts:=#[.mk 0 (ab (T word)),.mk 1 (ab (T text))]) rfl rfl aL aL d hd aE;refine⟨q,w1,e1,hj.mono ?_⟩;rintro _ w2 ⟨rfl,h2,m2⟩;refine⟨rfl,rfl,?_,m2⟩;rw[bq hc,Bool.or_false];exact h2
 have hc:text=[]:=aaf
 refine⟨rfl,?_,Mw.refl _ _ _⟩;rw[bE hc,lN,aR rfl];exact h
end
def BK:List Mv->Nat
 | []=>0
 | m::l=>DY m+BK l
def BL(b:Nb):Nat:=((b.nm.length+b.ini.length)+(b.dft.length+1))+((iG b.en+iG b.lv)+BK b.mv)
mutual
def qt:Nd->Nat
 | .mk b l=>BL b+jB l
def jB:List Nd->Nat
 | []=>0
 | x::l=>qt x+jB l
end
theorem uD{m:Mv}:∀{l:List Mv},m∈l->DY m<=BK l
 | [],h=>aax
 | x::l,h=>by
  rw[BK];rcases aX.1 h with rfl | h
  ·omega
  have:=uD h;omega
theorem nt:∀(l:List Mv),l.length<=BK l
 | []=>bm _
 | m::l=>by
  have:=nt l;rw[BK,aU];unfold DY;omega
theorem rn{x:Nd}:∀{l:List Nd},x∈l->qt x<=jB l
 | [],h=>aax
 | y::l,h=>by
  rw[jB];rcases aX.1 h with rfl | h
  ·omega
  have:=rn h;omega
theorem QG(x:Nd):1<=qt x:=by
 obtain⟨b,l⟩:=x;rw[qt];unfold BL;omega
theorem pd:∀(l:List Nd),l.length<=jB l
 | []=>bm _
 | x::l=>by
  have:=pd l;have:=QG x;rw[jB,aU];omega
theorem uE{x:Nd}:∀{l:List Nd},uy l->x∈l->yY x
 | [],_,h=>aax
 | y::l,hn,h=>by
  rw[uy]at hn;rcases aX.1 h with rfl | h
  ·exact hn.1
  exact uE hn.2 h
theorem tJ(d:Nat)(x:Nd):∀l:List Nd,gX d (l++[x])=(gX d l&&jM d x)
 | []=>by simp[gX]
 | y::l=>by rw[cy,gX,gX,tJ d x l,sX]
theorem vB(x:Nd):∀l:List Nd,jN (l++[x])=jN l+r9 x
 | []=>by simp[jN]
 | y::l=>by rw[cy,jN,jN,vB x l];omega
theorem vC(d:Nat)(x:Nd):∀l:List Nd,lD d (l++[x])=lD d l++yX d x
 | []=>by simp[lD]
 | y::l=>by rw[cy,lD,lD,vC d x l,bf]
def wH(x:Nb)(ks:List Nd)(d:Nat):Bool:=(decide (x.ini=[])||cN x.ini)&&(x.en.all fx&&(x.lv.all fx&&(x.mv.all jo&&gX d ks)))
theorem lI(l:aH)(p:Ln):cZ l [p]=iq l p:=rfl
theorem Mp(l:List Ac):sI l≠[]:=by unfold sI;simp
theorem uF{cq:St}{l l1 l2:aH}{L M:List Ln}{II:St}{c:Bool}{n:Nat}(hU:Up II c n cq)(h1:II.1=false->l1=cZ l L)(h2:cq.1=false->l2=cZ l1 M):cq.1=false->l2=cZ l (L++M):=λe=>by
 rw[h2 e,h1 (hU.ok e).1,fg]
def Mq(D:Nat):Prop:=∀(w0 w:av) (b:Nat) (l:aH) (st:St) (F:aJ) (x:Nd) (cs:aI) (d:Nat),Qz w0 b w l st->rY false D w F x cs->(∀k,F k->k<w0.heap.size)->yY x->qt x<=8388608->d<=12->Er w0->Tb w0->
 az aq 107 #[rp b,ah cs.toArray,O U (d:Int)] w λe w'=>e=ak (ai #[])/\∃cq l',Up st (jM d x) (r9 x) cq/\(cq.1=false->l'=cZ l (yX d x))/\Qz w0 b w' l' cq/\Mw false b w w'
section
variable {w0 w:av} {b:Nat} {l:aH} {st:St}
theorem Mr{D:Nat}(hN:Mq D)(h:Qz w0 b w l st){F:aJ}{x:Nb}{en lv mv kids:Sl}{ks:List Nd}(hb:BC false w F x en lv mv)(hk:ja false (rY false D) 9 27 w F kids ks)(hF:∀k,F k->k<w0.heap.size)(hn:Tc x)(hnk:uy ks)(hs:BL x+jB ks<=8388608)(d:Nat)(hd:d<=12)(hE:Er w0)(hT:Tb w0):
  az aq 57 #[rp b,ah (oB x.k x.nm x.ini x.dft en lv mv kids x.a).toArray,O U (d:Int)] w λe w'=>e=ak (ai #[])/\∃cq l',Up st (wH x ks d) (uZ x+jN ks) cq/\(cq.1=false->l'=cZ l (yW d x++lD d ks))/\Qz w0 b w' l' cq/\Mw false b w w':=by
 have NF:=hs;unfold BL at NF;have Oe:=nt x.mv;have N2:=pd ks;obtain⟨Kf,Cq,tn⟩:=hb;have Kf:=Kf.1;have Cq:=Cq.1;have tn:=tn.1;have hk:=hk.1;refine ret (adY _ _ _ _ _ _ _ _ _ _ _ _ _ ?_);intro k0 w1 iJ dV cA;have t1:=(h.z false).al cA iJ dV;rw[show ao #[]=T []from rfl,ju];refine⟨λw'=>∃II l1,Up st (decide (x.ini=[])||cN x.ini) 0 II/\(II.1=false->l1=cZ l (ri d x))/\Zq false w0 w b w' l1 II [k0],?_,λhc=>?_,λhc=>?_⟩
 ·rintro w2 ⟨ww,l2,Xl,tU,t2⟩;refine(BI t2.toQz (SliceF.keep (dH false) Kf aL λk hk _=>h.arg t2.toQz (hF k hk)) hF hn.en aE hE hT).mono ?_;rintro _ w3 ⟨tx3,V5,rfl,tl3,tt3,hU3,q3,m3⟩;have t3:=t2.nx q3 m3.up;refine⟨_,rfl,t2.sm m3 aM,(yE t3.toQz d hd fZ tx3 aL aE).mono ?_⟩;rintro _ w4 ⟨rfl,q4,m4⟩;have t4:=t3.nx q4 m4;have hl4:V5.1=false->(if V5.1||decide (tx3=[])then l2 else iq l2 (d,fA [fZ,tx3]))=cZ l2 (FL d x):=λe=>by
   rw[e,tt3 e];unfold FL;by_cases he:x.en=[]
   ·rw[aR he,aR he];rfl
   rw[aO he,aO he,bq (Mp _),aO aL,lI,n9 aL,fl (by rfl),eH,fk,lH,bL]
  generalize (if V5.1||decide (tx3=[])then l2 else iq l2 (d,fA [fZ,tx3]))=l4 at*
  refine⟨rfl,t3.sm m4 aM,(BI t4.toQz (SliceF.keep (dH false) Cq aL λk hk _=>h.arg t4.toQz (hF k hk)) hF hn.lv aE hE hT).mono ?_⟩;rintro _ w5 ⟨tx5,RC,rfl,tl5,tt5,V9,q5,m5⟩;have t5:=t4.nx q5 m5.up;refine⟨_,rfl,t4.sm m5 aM,(yE t5.toQz d hd ga tx5 aL aE).mono ?_⟩;rintro _ w6 ⟨rfl,q6,m6⟩;have t6:=t5.nx q6 m6;have Xd:RC.1=false->(if RC.1||decide (tx5=[])then l4 else iq l4 (d,fA [ga,tx5]))=cZ l4 (HA d x):=λe=>by
   rw[e,tt5 e];unfold HA;by_cases he:x.lv=[]
   ·rw[aR he,aR he];rfl
   rw[aO he,aO he,bq (Mp _),aO aL,lI,n9 aL,fl (by rfl),eH,fk,lH,bL]
  generalize (if RC.1||decide (tx5=[])then l4 else iq l4 (d,fA [ga,tx5]))=l6 at*
  have hL4:=uF hU3 tU hl4;have hL6:=uF V9 hL4 Xd;refine⟨rfl,t5.sm m6 aM,λnv i w'=>∃(j:Nat) (cq:St) (l':aH),i=j/\j<=x.mv.length/\nv=x.mv.length-j/\Up RC ((x.mv.take j).all jo) ((x.mv.take j).map λm=>m.acts.length).sum cq/\(cq.1=false->l'=cZ l6 ((x.mv.take j).map λm=>(d,sO m)))/\Zq false w0 w b w' l' cq [k0],
   x.mv.length,⟨0,RC,l6,rfl,bm _,rfl,t6.toQz.U1,λ_=>rfl,t6⟩,?_⟩
  rintro nv _ w7 ⟨j,Tf,l7,rfl,hj,rfl,IX,IY,t7⟩;have ajN:=tn.len;have ahh:aA (zq false) 13 w7 F mv x.mv:=SliceF.keep (gj false) tn aL λk hk _=>h.arg t7.toQz (hF k hk);refine⟨λhc=>?_,λhc=>?_⟩
  ·have cd:(j:Int)<mv.n:=aV hc;obtain⟨ad,m,cs,g1,g2,g3,g4,g5,g6⟩:=ahh.get (bc j) cd;rw[ba]at g2;have VX:=bF g2;have hms:=uD VX;have ov:x.mv.take (j+1)=x.mv.take j++[m]:=by
    rw[bK,g2];rfl
   have Ci:=g6;obtain⟨gc,nM,tg,rfl,r1,r2,r3⟩:=Ci;obtain⟨gl,rfl⟩:=eV r1;refine⟨ad,g1,_,_,_,_,_,_,_,_,_,_,_,_,_,g5,λk3 w8 J9 zA gp=>?_⟩;have t8:=t7.al gp J9 zA;refine(Ut t8.toQz ((gj false).keep g6 λk _ cd=>gp.block k cd aM) hF (hn.mv m VX) aE hE hT).mono ?_;rintro _ w9 ⟨tx9,V6,rfl,tl9,tt9,Tg,q9,m9⟩;have t9:=t8.nx q9 m9.up;have xr:=iE [tx9];simp only[bG,gA,cr,iu]at xr;obtain⟨S6,dz,V8,dL,Wb⟩:=wg t9.toQz [tx9] (n:=1) (parts:=#[.mk 0 (ab (T tx9))]) rfl rfl aL aL d hd aE;refine⟨_,rfl,t8.sm m9 aM,S6,dz,V8,t9.sq dL aM,Wb.mono ?_⟩;rintro _ dJ ⟨rfl,W2,m11⟩;have t11:=t9.nx W2 m11;refine⟨rfl,t9.sl dL m11 aM,x.mv.length-(j+1),aE,j+1,V6,_,aad,aE,rfl,(IX.tr Tg).cg ?_ ?_,λe=>?_,⟨t11.toQz,t11.m,λk hk=>t11.k k abY⟩⟩
   ·rw[ov,ji];simp
   ·rw[ov,dx,OU];simp
   rw[e,aO aL,IY (Tg.ok e).1,ov,dx,fg,tt9 e];show _=iq _ (d,sO m);have:ne (sO m)=true:=by
    have:sO m≠[]:=by unfold sO;simp
    unfold ne;rw[bq this];rfl
   rw[n9 this,eH,lH,bL]
  have nE:¬(j:Int)<mv.n:=aW hc;have uW:j=x.mv.length:=aE
  subst uW;rw[bU (aY _)]at IX IY;have hL7:=uF IX hL6 IY;refine⟨λnv i w'=>∃(j:Nat) (cq:St) (l':aH),i=j/\j<=ks.length/\nv=ks.length-j/\Up Tf (gX d (ks.take j)) (jN (ks.take j)) cq/\(cq.1=false->l'=cZ l7 (lD d (ks.take j)))/\Zq false w0 w b w' l' cq [k0],
   ks.length,⟨0,Tf,l7,rfl,bm _,rfl,by rw[dF,gX,jN];exact t7.toQz.U1,λ_=>by rw[dF,lD];rfl,t7⟩,?_⟩
  rintro nv _ dJ ⟨j,Wc,wL,rfl,hj,rfl,RG,Wd,t11⟩;have ajO:=hk.len;have ahj:aA (rY false D) 9 dJ F kids ks:=SliceF.keep (du false D) hk aL λk hk _=>h.arg t11.toQz (hF k hk);refine⟨λhc=>?_,λhc=>?_⟩
  ·have cd:(j:Int)<kids.n:=aV hc;obtain⟨ad,y,cs,g1,g2,g3,g4,g5,g6⟩:=ahj.get (bc j) cd;rw[ba]at g2;have tS:=bF g2;have Pw:=rn tS;have ov:ks.take (j+1)=ks.take j++[y]:=by
    rw[bK,g2];rfl
   have Ci:=g6;cases D with
   | zero=>exact Ci.elim
   | succ D=>
   obtain⟨Co,Cp,ve,qn,rfl,_⟩:=Ci;refine⟨ad,g1,_,_,_,_,Co,Cp,ve,qn,_,g5,λk7 eM hk7 abr eJ=>?_⟩;have t12:=t11.al eJ hk7 abr;refine(hN _ _ _ _ _ _ _ _ d t12.toQz ((du false _).keep g6 λk _ cd=>eJ.block k cd aM) hF (uE hnk tS) aE hd hE hT).mono ?_;rintro _ eW ⟨rfl,We,EX,abt,ahk,W3,m13⟩;have t13:=t12.nx W3 m13;refine⟨rfl,t12.sm m13 aM,ks.length-(j+1),aE,j+1,We,EX,aad,aE,rfl,(RG.tr abt).cg ?_ ?_,λe=>?_,⟨t13.toQz,t13.m,λk hk=>t13.k k abY⟩⟩
   ·rw[ov,tJ]
   ·rw[ov,vB]
   rw[ahk e,Wd (abt.ok e).1,ov,vC,fg]
  have nE:¬(j:Int)<kids.n:=aW hc;have uW:j=ks.length:=aE
  subst uW;rw[bU (aY _)]at RG Wd;have ahl:=uF RG hL7 Wd;refine⟨rfl,Wc,wL,(Xl.tr (hU3.tr (V9.tr (IX.tr RG)))).cg rfl ?_,λe=>?_,t11.toQz,t11.m⟩
  ·unfold uZ;omega
  rw[ahl e];unfold yW WH;simp only[bf]
 ·have hc:x.ini≠[]:=aaf
  refine(lW t1.toQz x.ini aE).mono ?_;rintro _ w2 ⟨rfl,ww,Xl,q2,m2⟩;have t2:=t1.nx q2 m2.up;refine⟨_,rfl,t1.sm m2 aM,aam,?_⟩;rw[show ao #[59]=T [59]from rfl,dQ];refine(yE t2.toQz d hd ec (x.ini++[59]) aL aay).mono ?_;rintro _ w3 ⟨rfl,q3,m3⟩;refine⟨rfl,t2.sm m3 aM,ww,_,Xl.cg (by rw[bq hc,uY]) rfl,λe=>?_,t2.nx q3 m3⟩;have ia:x.ini++[59]≠[]:=aM
  have OD:ne (x.ini++[59])=true:=by unfold ne;rw[bq ia];rfl
  rw[e,bq ia,aO aL,n9 aL,fl OD,eH,fk,lH,bL];unfold ri;rw[aO hc];rfl
 have hc:x.ini=[]:=aaf
 refine⟨st,l,h.U1.cg (by rw[bE hc];rfl) rfl,λ_=>by unfold ri;rw[aR hc];rfl,t1⟩
end
theorem Up.more{st cq:St}{c:Bool}{n:Nat}(h:Up st c 0 cq)(hn:c=true->n=0):Up st c n cq:=by
 cases c with
 | true=>rw[hn rfl];exact h
 | false=>
  refine⟨?_,λe=>?_⟩
  ·rw[h.w];simp
  have:=h.w;rw[e]at this;simp at this
def SA:List (aH):=[[],yt,oX,qX,DH]
theorem Zb{k:Int}(h1:1<=k)(h2:k<=4):SA[k.toNat]? =some (kW k):=by
 have:k=1∨k=2∨k=3∨k=4:=aE
 rcases this with rfl | rfl | rfl | rfl<;>rfl
theorem SB(k:Int):ne (kW k)=true:=by
 unfold kW;split
 ·rfl
 split
 ·rfl
 split
 ·rfl
 rfl
theorem Uu(k:Int):(kW k).length<=8:=by
 unfold kW;split
 ·decide
 split
 ·decide
 split
 ·decide
 decide
theorem HV{d:Nat}{b:Nb}{l:List Nd}(hk:b.k=1∨b.k=2)(hd:d<12):((decide (b.dft=[])&&cN b.nm)&&wH b l (d+1))=jM d (.mk b l):=by
 have hh:jX b.k=false:=abp
 rw[jM,bE hd,bS];unfold rh wH;rw[hh,aO aL];have:decide ((b.k=1∨b.k=2)/\b.dft=[])=decide (b.dft=[]):=by simp[hk]
 rw[this];generalize decide (b.dft=[])=A;generalize cN b.nm=B;generalize (decide (b.ini=[])||cN b.ini)=C;generalize b.en.all fx=D;generalize b.lv.all fx=E;generalize b.mv.all jo=G;generalize gX (d+1) l=H;cases A<;>cases B<;>cases C<;>cases D<;>cases E<;>cases G<;>cases H<;>rfl
theorem HW{d:Nat}{b:Nb}{l:List Nd}(hk:b.k=3∨b.k=4)(hd:d<12):(((decide (b.ini=[])&&decide (b.en=[]/\b.lv=[]/\b.mv=[]/\l=[]))&&cN b.nm)&&cN b.dft)=jM d (.mk b l):=by
 have hh:jX b.k=true:=by unfold jX;exact bE hk
 rw[jM,bE hd,bS];unfold rh;rw[hh,aR rfl];by_cases hl:l=[]
 ·subst hl;have:decide (b.ini=[]/\b.en=[]/\b.lv=[]/\b.mv.length=0/\([]:List Nd).length=0)=(decide (b.ini=[])&&decide (b.en=[]/\b.lv=[]/\b.mv=[]/\([]:List Nd)=[])):=by
   rw[bH];simp
  rw[this,gX];generalize decide (b.ini=[])=A;generalize decide (b.en=[]/\b.lv=[]/\b.mv=[]/\([]:List Nd)=[])=B;cases A<;>cases B<;>cases cN b.nm<;>cases cN b.dft<;>rfl
 have h1:decide (b.en=[]/\b.lv=[]/\b.mv=[]/\l=[])=false:=bq λh=>hl h.2.2.2;have h2:decide (b.ini=[]/\b.en=[]/\b.lv=[]/\b.mv.length=0/\l.length=0)=false:=bq λh=>hl (bA h.2.2.2.2);rw[h1,h2];simp
theorem HX{d:Nat}{b:Nb}{l:List Nd}(h:¬(1<=b.k/\b.k<=4)∨12<=d):jM d (.mk b l)=false:=by
 rw[jM];rcases h with h | h
 ·have hh:jX b.k=false:=abp
  have:decide ((b.k=1∨b.k=2)/\b.dft=[])=false:=bq aE;unfold rh;rw[hh,aO aL,this];simp
 rw[bq aE];rfl
theorem HY:∀D,Mq D
 | 0=>by
  intro w0 w b l st F x cs d h hx;exact hx.elim
 | D+1=>by
  intro w0 w b l st F x cs d h hx hF hn hs hd hE hT;obtain⟨bb,ks⟩:=x;have KH:=hx;obtain⟨en,lv,mv,kids,rfl,sR,tw⟩:=hx;have sR:BC false w F bb en lv mv:=sR;have tw:ja false (rY false D) 9 27 w F kids ks:=tw;show az aq 107 #[rp b,ah (oB bb.k bb.nm bb.ini bb.dft en lv mv kids bb.a).toArray,O U (d:Int)] w _;rw[yY]at hn;rw[qt]at hs;have NF:=hs;unfold BL at NF;refine ret (aed _ _ _ _ _ _ _ _ _ _ _ _ _ ?_);intro k0 w1 iJ dV cA;have t1:=(h.z false).al cA iJ dV;obtain⟨q,sl,hB,_⟩:=t1.toQz.set;have bad:∀{w':av} {cq:St} {lx:aH},cq.1=true->Zq false w0 w b w' lx cq [k0]->(st.1=true∨jM d (.mk bb ks)=false)->∃cq l',Up st (jM d (.mk bb ks)) (r9 (.mk bb ks)) cq/\(cq.1=false->l'=cZ l (yX d (.mk bb ks)))/\Qz w0 b w' l' cq/\Mw false b w w':=by
   intro w' cq lx e t hc;refine⟨cq,lx,⟨?_,λe2=>absurd (e.symm.trans e2) aL⟩,λe2=>absurd (e.symm.trans e2) aL,t.toQz,t.m⟩;rw[e];rcases hc with hc | hc
   ·rw[hc];rfl
   rw[hc];simp
  refine⟨st.1,Blk.eo hB 2 rfl,λhc=>?_,λhc=>?_⟩
  ·refine(jH t1.toQz false).mono ?_;rintro _ w2 ⟨rfl,ww,u1,u2,u3⟩;refine⟨rfl,t1.sm u3 aM,rfl,bad (by rw[u1.w];simp) (t1.nx u2 u3.up) ?_⟩;rw[ci]at hc;rcases hc with hc | hc
   ·exact .inl hc
   exact .inr (HX (.inr aan))
  rw[eZ]at hc;have Wf:d<12:=by have:=aW hc.2;omega
  obtain⟨q2,w2,g,cs,e2,cO,hg1,hg2,kQ,cG⟩:=Mi w1 SA (n:=5) (parts:=#[.mk 0 (ab (ao #[])),.mk 1 (ab (ao #[115,116,97,116,101])),.mk 2 (ab (ao #[112,97,114,97,108,108,101,108])),.mk 3 (ab (ao #[104,105,115,116,111,114,121])),.mk 4 (ab (ao #[100,101,101,112]))]) rfl rfl aL aL;have t2:=t1.al cO hg1 hg2;have hwd:1<=bb.k/\bb.k<=4->dN q2 bb.k 1 ⟨g,bb.k.toNat,none⟩/\∀w',aF w' g 9 cs->aB w' ⟨g,bb.k.toNat,none⟩ [ab (T (kW bb.k))]:=λhk=>by
   have:=cG _ _ (Zb hk.1 hk.2);rwa[fO aE]at this
  have N2:=Uu bb.k;have z2:∀{w3:av},ay [] w2 w3->aF w3 g 9 cs:=λhO=>hO.blk kQ aM;have z2m:∀{w3 w4:av} {lx:aH} {sx:St} {f:Bool},Zq false w0 w b w3 lx sx [g,k0]->Mw f b w3 w4->aF w3 g 9 cs->aF w4 g 9 cs:=λt m hB=>(t.sm (ks':=[g]) m aM g aM).trans hB;refine⟨q2,w2,e2,t1.sq cO aM,λb1 w3=>w2=w3/\b1=decide (bb.k=1∨bb.k=2),?_,λwO=>⟨rfl,?_⟩,λwO=>⟨rfl,?_⟩⟩
  ·rintro b1 _ ⟨rfl,rfl⟩;refine⟨λRF=>?_,λRF=>?_⟩
   ·have hk:=aV RF;have Wg:1<=bb.k/\bb.k<=4:=aE
    obtain⟨y1,y2⟩:=hwd Wg;rw[show ao #[]=T []from rfl,ju];refine(jH t2.toQz _).mono ?_;rintro _ w4 ⟨rfl,GF,u1,u2,u3⟩;have t4:=t2.nx u2 u3.up;refine⟨rfl,t2.sm u3 aM,λw5 fe=>⟨λk=>k∈[k0,g],aM,_,y1,aM,_,y2 w5 (fe.blk (z2m t2 u3 kQ) aM),?_⟩⟩;have t5:=t4.q fe;refine(lW t5.toQz bb.nm aE).mono ?_;rintro _ w6 ⟨rfl,st6,v1,v2,v3⟩;have t6:=t5.nx v2 v3.up;have xr:=iE [kW bb.k,bb.nm,[123]];simp only[bG,gA,cr,iu,aU,aZ]at xr;obtain⟨q7,w7,e7,gD,hj7⟩:=wg t6.toQz [kW bb.k,bb.nm,[123]] (n:=3) (parts:=#[.mk 0 (ab (T (kW bb.k))),.mk 1 (ab (T bb.nm)),.mk 2 (ab (T [123]))]) rfl rfl aL aL d hd aE;refine⟨_,rfl,t5.sm v3 aM,bR.of (t5.sm v3 aM),q7,w7,e7,t6.sq gD aM,bR.of (t6.sq gD aM),hj7.mono ?_⟩;rintro _ w8 ⟨rfl,x1,x2⟩;have t8:=t6.nx x1 x2;have Tj:st6.1=false->(if st6.1 then l else iq l (d,fA [kW bb.k,bb.nm,[123]]))=cZ l [(d,kW bb.k++32::(bb.nm++[32,123]))]:=λe=>by
     rw[e,aO aL,lI,n9 (SB _),fl (pT (v1.ok e).2.1),fl (by rfl),eH,fk,fk,lH];rfl
    generalize (if st6.1 then l else iq l (d,fA [kW bb.k,bb.nm,[123]]))=l8 at*
    have ed:ar U ((d:Int)+1)=((d+1:Nat):Int):=aad
    rw[ed];refine⟨rfl,t6.sl gD x2 aM,bR.of (t6.sl gD x2 aM),(Mr (HY D) t8.toQz (sR.keep λk hk _=>h.arg t8.toQz (hF k hk)) (tw.keep (du false D) aL λk hk _=>h.arg t8.toQz (hF k hk)) hF hn.1 hn.2 hs (d+1) aE hE hT).mono ?_⟩;rintro _ w9 ⟨rfl,V6,l9,Tg,hl9,y3,y4⟩;have t9:=t8.nx y3 y4;obtain⟨S6,dz,V8,dL,Wb⟩:=wg t9.toQz [[125]] (n:=1) (parts:=#[.mk 0 (ab (T [125]))]) rfl rfl aL aL d hd aL;refine⟨rfl,t8.sm y4 aM,S6,dz,V8,t9.sq dL aM,Wb.mono ?_⟩;rintro _ dJ ⟨rfl,x3,x4⟩;have t11:=t9.nx x3 x4;refine⟨rfl,t9.sl dL x4 aM,rfl,V6,_,((u1.tr v1).tr Tg).cg (HV hk Wf) (by rw[r9];omega),λe=>?_,t11.toQz,t11.m⟩;have hh:jX bb.k=false:=abp
    rw[yX,hh,e];simp only[gu,iM];rw[hl9 e,Tj (Tg.ok e).1,<-fg];have e1:fA [[125]]=[125]:=aL
    rw[e1,<-lI,<-fg];simp only[bf,cy,cp]
   have hnk:=aW RF;refine⟨λb2 eM=>w2=eM/\b2=decide (bb.k=3∨bb.k=4),?_,λhc4=>⟨rfl,?_⟩,λhc4=>⟨rfl,?_⟩⟩
   ·rintro b2 _ ⟨rfl,rfl⟩;refine⟨λhc5=>?_,λhc5=>?_⟩
    ·have hk:=aV hc5;have Wg:1<=bb.k/\bb.k<=4:=aE
     obtain⟨y1,y2⟩:=hwd Wg;have n4:=sR.1.1.len;have n5:=sR.2.1.1.len;have n6:=sR.2.2.1.len;have n7:=tw.1.len;have a4:=gY bb.en;have a5:=gY bb.lv;have a6:=nt bb.mv;have a7:=pd ks;have ahn:(ar U ((ar U ((ar U ((en.n:Int)+(lv.n:Int)))+(mv.n:Int)))+(kids.n:Int))==0)=decide (bb.en=[]/\bb.lv=[]/\bb.mv=[]/\ks=[]):=by
      rw[fS (x:=(en.n:Int)+(lv.n:Int)) aE aE,fS (x:=(en.n:Int)+(lv.n:Int)+(mv.n:Int)) aE aE,fS aE aE,bH];simp only[dy,bC];refine⟨λe=>?_,λ⟨e1,e2,e3,e4⟩=>?_⟩
      ·exact⟨bA aE,bA aE,bA aE,bA aE⟩
      rw[n4,n5,n6,n7,e1,e2,e3,e4];rfl
     rw[show ao #[]=T []from rfl,ju,ahn];refine(jH t2.toQz _).mono ?_;rintro _ eW ⟨rfl,We,u1,u2,u3⟩;have t13:=t2.nx u2 u3.up;refine⟨rfl,t2.sm u3 aM,λfJ eF=>⟨λk=>k∈[k0,g],aM,_,y1,aM,_,y2 fJ (eF.blk (z2m t2 u3 kQ) aM),aM,?_⟩⟩;have t14:=t13.q eF;refine(lW t14.toQz bb.nm aE).mono ?_;rintro _ ir ⟨rfl,amT,v1,v2,v3⟩;have t15:=t14.nx v2 v3.up;refine⟨_,rfl,t14.sm v3 aM,bR.of (t14.sm v3 aM),(lW t15.toQz bb.dft aE).mono ?_⟩;rintro _ jD ⟨rfl,aho,x1,x2,x3⟩;have t16:=t15.nx x2 x3.up;have xr:=iE [kW bb.k,bb.nm,[45,62],bb.dft++[59]];simp only[bG,gA,cr,iu,aU,aZ,aN]at xr;obtain⟨q17,iK,e17,jf,ahp⟩:=wg t16.toQz [kW bb.k,bb.nm,[45,62],bb.dft++[59]] (n:=4) (parts:=#[.mk 0 (ab (T (kW bb.k))),.mk 1 (ab (T bb.nm)),.mk 2 (ab (T [45,62])),.mk 3 (ab (T (bb.dft++[59])))]) rfl rfl aL aL d hd aE;refine⟨T bb.dft,rfl,t15.sm x3 aM,bR.of (t15.sm x3 aM),aam,q17,iK,by rw[show ao #[59]=T [59]from rfl,dQ];exact e17,t16.sq jf aM,bR.of (t16.sq jf aM),ahp.mono ?_⟩;rintro _ jt ⟨rfl,y3,y4⟩;have t18:=t16.nx y3 y4;have hU:=((u1.tr v1).tr x1).cg (HW hk Wf) rfl;refine⟨rfl,t16.sl jf y4 aM,bR.of (t16.sl jf y4 aM),rfl,aho,_,hU.more λqE=>?_,λe=>?_,t18.toQz,t18.m⟩
     ·rw[<-HW hk Wf]at qE;simp only[aP,bC]at qE;obtain⟨⟨⟨_,e1,e2,e3,e4⟩,_⟩,_⟩:=qE;rw[r9,e4,jN];unfold uZ;rw[e1,e2,e3];rfl
     have hh:jX bb.k=true:=by unfold jX;exact bE hk
     have OD:ne (bb.dft++[59])=true:=by
      have:bb.dft++[59]≠[]:=aM
      unfold ne;rw[bq this];rfl
     rw[yX,hh,aR rfl,e,aO aL,lI,n9 (SB _),fl (pT (v1.ok (x1.ok e).1).2.1),fl (by rfl),fl OD,eH,fk,fk,fk,lH,bL];rfl
    have amV:=aW hc5;refine(jH t2.toQz false).mono ?_;rintro _ eW ⟨rfl,We,u1,u2,u3⟩;have t13:=t2.nx u2 u3.up;exact⟨rfl,t2.sm u3 aM,rfl,bad (by rw[u1.w];simp) ⟨t13.toQz,t13.m,λk hk=>t13.k k abY⟩ (.inr (HX (.inl aE)))⟩
   ·have:bb.k=3:=by simpa using hc4
    rw[hc4,bE (.inl this)]
   have:bb.k≠3:=by simpa using hc4
   rw[bH];simp[this]
  ·have:bb.k=1:=by simpa using wO
   rw[wO,bE (.inl this)]
  have:bb.k≠1:=by simpa using wO
  rw[bH];simp[this]
mutual
theorem Ms:∀x:Nd,n8 x<=qt x
 | .mk b l=>by
  rw[n8,qt];have:=uG l;unfold BL;omega
theorem uG:∀l:List Nd,gH l<=jB l
 | []=>by rw[gH];exact bm _
 | x::l=>by
  rw[gH,jB];exact kX (Ms x) (uG l)
end
mutual
theorem Uv:∀x:Nd,rZ x<=qt x
 | .mk b l=>by
  rw[rZ,qt];have:=se l;have:=nt b.mv;unfold BL;omega
theorem se:∀l:List Nd,kH l<=jB l
 | []=>by rw[kH];exact bm _
 | x::l=>by
  rw[kH,jB];exact kX (Uv x) (se l)
end
theorem pe(x:Nd):∀l:List Nd,gH (l++[x])=gH l+n8 x
 | []=>by simp[gH]
 | y::l=>by rw[cy,gH,gH,pe x l];omega
theorem sf(x:Nd):∀l:List Nd,kH (l++[x])=kH l+rZ x
 | []=>by simp[kH]
 | y::l=>by rw[cy,kH,kH,sf x l];omega
theorem yF:∀l m:List Nd,jB (l++m)=jB l+jB m
 | [],m=>by rw[cp,jB];omega
 | y::l,m=>by rw[cy,jB,jB,yF l m];omega
theorem HZ:∀(D:Nat) (w:av) (F:aJ) (x:Nd) (cs:aI),rY false D w F x cs->qt x<=8388608->az aq 52 #[ah cs.toArray] w λe w'=>e=ak (ai #[O U (n8 x:Int),O U (rZ x:Int)])/\ay [] w w'
 | 0,w,F,x,cs,hx,_=>hx.elim
 | D+1,w,F,x,cs,hx,hs=>by
  obtain⟨bb,ks⟩:=x;obtain⟨en,lv,mv,kids,rfl,sR,tw⟩:=hx;have tn:=sR.2.2.1;have tn:aA (zq false) 13 w F mv bb.mv:=tn;have hk:aA (rY false D) 9 w F kids ks:=tw.1;show az aq 52 #[ah (oB bb.k bb.nm bb.ini bb.dft en lv mv kids bb.a).toArray] w _;refine ret (adQ _ _ _ _ _ _ _ _ _ _ _ ?_);have z1:=uG ks;have z2:=se ks;have z3:=nt bb.mv;rw[qt]at hs;have NF:=hs;unfold BL at NF;have n6:=tn.len;have n7:=hk.len;have z4:=pd ks;intro k0 w1 iJ dV cA w2 cO;refine⟨λnv a m i w'=>∃j:Nat,i=j/\j<=ks.length/\nv=ks.length-j/\a=(1+gH (ks.take j):Nat)/\m=(bb.mv.length+kH (ks.take j):Nat)/\k0<w'.heap.size/\ay [] w w',ks.length,⟨0,rfl,bm _,rfl,by rw[dF,gH];rfl,by rw[dF,kH,n6];rfl,cj dV cO.size,cA.cn cO⟩,?_⟩;rintro nv _ _ _ w3 ⟨j,rfl,hj,rfl,rfl,rfl,J9,da⟩;have amW:jB ks=jB (ks.take j)+jB (ks.drop j):=by rw[<-yF,eL]
  have y1:=uG (ks.take j);have y2:=se (ks.take j);refine⟨λhc=>?_,λhc=>?_⟩
  ·have cd:(j:Int)<kids.n:=aV hc;obtain⟨ad,y,cs,g1,g2,g3,g4,g5,g6⟩:=(SliceF.only (du false D) aL hk da aM).get (bc j) cd;rw[ba]at g2;have Pw:=rn (bF g2);have ov:ks.take (j+1)=ks.take j++[y]:=by
    rw[bK,g2];rfl
   have ajR:jB ks=jB (ks.take (j+1))+jB (ks.drop (j+1)):=by rw[<-yF,eL]
   have y3:gH (ks.take j)+n8 y<=jB (ks.take (j+1)):=by rw[<-pe,<-ov];exact uG _
   have y4:kH (ks.take j)+rZ y<=jB (ks.take (j+1)):=by rw[<-sf,<-ov];exact se _
   have Ci:=g6;cases D with
   | zero=>exact Ci.elim
   | succ D=>
   obtain⟨Co,Cp,ve,qn,rfl,_⟩:=Ci;refine⟨ad,g1,_,_,_,_,Co,Cp,ve,qn,_,g5,λk3 w4 zA ajS dR=>?_⟩;refine(HZ (D+1) w4 F y _ ((du false _).keep g6 λk _ cd=>dR.block k cd aM) aE).mono ?_;rintro _ w5 ⟨rfl,fe⟩;refine⟨_,_,rfl,fe.same (by have:=dR.size;simp;omega),ks.length-(j+1),aE,j+1,aad,aE,rfl,?_,?_,?_,(da.cn dR).cn fe⟩
   ·rw[ov,pe,fS aE aE];omega
   ·rw[ov,sf,fS aE aE];omega
   have:=dR.size;have:=fe.size;omega
  have nE:¬(j:Int)<kids.n:=aW hc;have uW:j=ks.length:=aE
  subst uW;rw[bU (aY _)];refine⟨?_,da⟩;rw[n8,rZ,lO]
structure Pt4 (w:av) (b:Nat) (sl:Sl) (l:aH) (v2 v3:aw):Prop where
 blk:∃q:Option Addr,aF w b 116 [ae q,sl.v,v2,v3]
 len:sl.n=l.length
 some:l≠[]->∃g,sl.a=.some ⟨g,0,none⟩/\b<g/\sl.c≠0/\(∃n,w.shape? g=.some (5,n)/\l.length<=n)/\aB w ⟨g,0,none⟩ (l.map fG)
 cap:sl.a=none∨sl.c≠0
 big:l.length<=9223372036854775807
section
variable {w:av} {b:Nat} {sl:Sl} {l:aH} {v2 v3:aw}
theorem Pt4.only{w':av}(h:Pt4 w b sl l v2 v3)(hO:ay [] w w'):Pt4 w' b sl l v2 v3:=by
 obtain⟨⟨q,h1⟩,h2,h3,h4,h5⟩:=h;refine⟨⟨q,hO.blk h1 aM⟩,h2,λhl=>?_,h4,h5⟩;obtain⟨g,a1,a2,a3,⟨n,a4,a5⟩,a6⟩:=h3 hl;have hg:g<w.heap.size:=by
  refine bD λhn=>?_;unfold World.shape? at a4;rw[fL aE]at a4;cases a4
 have hk:=hO.block g hg aM;exact⟨g,a1,a2,a3,⟨n,(yr hk).trans a4,a5⟩,a6.keep hk⟩
theorem Qz.pt{w0:av}{st:St}(h:Qz w0 b w l st):∃sl,Pt4 w b sl l (aj st.1) (O U st.2)/\∀k,sl.a=some ⟨k,0,none⟩->Bu w b k:=by
 obtain⟨q,sl,hq,hB,hb⟩:=h.ex;refine⟨sl,⟨⟨_,hB⟩,hb.len,λhl=>?_,?_,?_⟩,λk hk=>DW hB hk⟩
 ·rcases hb with⟨_,e⟩ | ⟨g,tail,h1,h2,h3,h4,h5,h6,h7,h8⟩
  ·exact absurd e hl
  have h0:l.length≠0:=λe=>hl (bA e);refine⟨g,h1,h2,aE,⟨_,by unfold World.shape?;unfold aF at h3;rw[h3],aM⟩,h3.cells 0 (l.map fG) λj v hj=>aaV⟩
 ·rcases hb with⟨e,_⟩ | ⟨g,tail,h1,h2,h3,h4,h5,h6,h7,h8⟩
  ·exact .inl (by rw[e])
  exact .inr aE
 rcases hb with⟨_,e⟩ | ⟨g,tail,h1,h2,h3,h4,h5,h6,h7⟩
 ·subst e;simp
 omega
theorem H0(h:Pt4 w b sl l v2 v3):az aq 59 #[ae (some ⟨b,0,none⟩)] w λe w'=>e=ak (ab (T l))/\Pt4 w' b sl l v2 v3/\aD (λk=>b<k/\sl.a=some ⟨k,0,none⟩) w w':=by
 refine ret (Sf _ _ _ ?_);intro w0 cw;have h0:=h.only cw;obtain⟨⟨q,hB⟩,eu,EH,nD,pq⟩:=h0;refine⟨λk=>k=b,sl,Blk.eo hB 1 rfl,rfl,sl,Blk.eo hB 1 rfl,sl.a,w0,?_,λk _ _=>rfl,?_⟩
 ·obtain⟨sa,sn',sc⟩:=sl;cases sa with
  | none=>exact Lib.run_unsafeSliceData_nil _ _ _ _ _
  | some a=>
   rcases nD with e | e
   ·cases e
   exact Lib.run_unsafeSliceData_row _ _ _ _ _ _ e
 by_cases hl:l=[]
 ·subst hl;have hn:sl.n=0:=eu;refine⟨T [],w0,?_,λk _ _=>rfl,rfl,⟨⟨q,hB⟩,eu,EH,nD,pq⟩,cw.p0⟩;rw[hn];exact Lib.run_unsafeString_none _ _ _ _ _
 obtain⟨g,ha,N1,hc,⟨m,qm,hm⟩,tR⟩:=EH hl;have hF:=qT w0 ⟨g,0,none⟩ l.length;have IH:b<w0.heap.size:=hB.lt;refine⟨T l,w0.freeze ⟨g,0,none⟩ l.length,?_,λk hk cd=>hF.block k cd aaq,rfl,⟨⟨q,hF.blk hB aaq⟩,eu,λ_=>⟨g,ha,N1,hc,⟨m,(uv _ _ _ _).trans qm,hm⟩,λj v hj=>by rw[qS];exact tR j v hj⟩,nD,pq⟩,cw.CA (hF.mono λk _ hk=>by dsimp only at hk;exact⟨aE,by rw[hk];exact ha⟩)⟩;rw[ha,eu];exact Lib.run_unsafeString_row _ _ _ _ 5 (by kernel_rfl) (by kernel_rfl) g m qm l hl hm pq λj x hj=>tR j (fG x) (by rw[cR,hj];rfl)
end
def tK(c:Ch):aH×Int:=
 if pR c=true then(if 16384<(cZ [] (we c)).length then([],2)else if(jm (cZ [] (we c))).2.1≠0 then([],22)else(cZ [] (we c),0))else([],22)
def pU:List Vr->Nat
 | []=>0
 | v::l=>(v.n.length+1)+pU l
theorem uH{v:Vr}:∀{l:List Vr},v∈l->v.n.length+1<=pU l
 | [],h=>aax
 | x::l,h=>by
  rw[pU];rcases aX.1 h with rfl | h
  ·omega
  have:=uH h;omega
theorem D1:∀l:List Vr,l.length<=pU l
 | []=>bm _
 | v::l=>by
  have:=D1 l;rw[pU,aU];omega
def sP(v:Vr):Bool:=cN v.n&&decide (v.v≠ -9223372036854775808)
theorem QH(c:Ch):((((((decide (c.root.b.k=1)&&decide (c.root.b.dft=[]))&&decide (c.vars.length<=16))&&decide (n8 c.root<=64))&&decide (rZ c.root<=200))&&cN c.root.b.nm)&&(c.vars.all sP&&wH c.root.b c.root.kids 1)&&decide (r9 c.root<=400))=pR c:=by
 obtain⟨vars,⟨b,l⟩⟩:=c;unfold pR;show((((((decide (b.k=1)&&decide (b.dft=[]))&&decide (vars.length<=16))&&decide (n8 (.mk b l)<=64))&&decide (rZ (.mk b l)<=200))&&cN b.nm)&&(vars.all sP&&wH b l 1)&&decide (r9 (.mk b l)<=400))=(vars.all sP&&jM 0 (.mk b l)&&decide (b.k=1/\vars.length<=16/\n8 (.mk b l)<=64/\rZ (.mk b l)<=200/\r9 (.mk b l)<=400))
 by_cases hk:b.k=1
 ·rw[<-HV (d:=0) (.inl hk) aL];have:decide (b.k=1/\vars.length<=16/\n8 (.mk b l)<=64/\rZ (.mk b l)<=200/\r9 (.mk b l)<=400)=(decide (vars.length<=16)&&decide (n8 (.mk b l)<=64)&&decide (rZ (.mk b l)<=200)&&decide (r9 (.mk b l)<=400)):=by
   rw[bH];simp[hk,and_assoc]
  rw[this,bE hk];generalize decide (b.dft=[])=A;generalize decide (vars.length<=16)=B;generalize decide (n8 (.mk b l)<=64)=C;generalize decide (rZ (.mk b l)<=200)=D;generalize decide (r9 (.mk b l)<=400)=E;generalize cN b.nm=G;generalize vars.all sP=H;show _=(H&&((A&&G)&&wH b l (0+1))&&(B&&C&&D&&E))
  generalize wH b l (0+1)=I;cases A<;>cases B<;>cases C<;>cases D<;>cases E<;>cases G<;>cases H<;>cases I<;>rfl
 have:decide (b.k=1/\vars.length<=16/\n8 (.mk b l)<=64/\rZ (.mk b l)<=200/\r9 (.mk b l)<=400)=false:=bq λh=>hk h.1;rw[this,bq hk];simp
theorem H2{w:av}{F:aJ}{D:Nat}{c:Ch}{vs:Sl}{cs:aI}(hx:ChR false D w F c vs cs)(hn:Ry c)(hs:pU c.vars+qt c.root<=8388608)(hE:Er w)(hT:Tb w):
  az aq 26 #[ah (vs.v::cs).toArray] w λe w'=>e=ak (ai #[ab (T (tK c).1),O U (tK c).2])/\ay [] w w':=by
 obtain⟨vars,⟨bb,ks⟩⟩:=c;cases D with
 | zero=>exact hx.root.elim
 | succ D=>
 have IZ:rY false (D+1) w F (.mk bb ks) cs:=hx.root;have Wh:=(du false _).inHeap IZ;have zv:aA OY 3 w F vs vars:=hx.vars.1;obtain⟨en,lv,mv,kids,rfl,sR,tw⟩:=Wh;have sR:BC false w (λk=>F k/\k<w.heap.size) bb en lv mv:=sR;have tw:ja false (rY false D) 9 27 w (λk=>F k/\k<w.heap.size) kids ks:=tw;have hr:=hn.r;have hr:yY (.mk bb ks):=hr;have hvn:∀v,v∈vars->wA v.v:=hn.v;rw[yY]at hr;have hs:pU vars+qt (.mk bb ks)<=8388608:=hs;have hsN:qt (.mk bb ks)=BL bb+jB ks:=by rw[qt]
 have NF:=hs;rw[hsN]at NF;unfold BL at NF;have abu:=QH ⟨vars,.mk bb ks⟩;generalize hP:tK ⟨vars,.mk bb ks⟩=P;unfold tK at hP;rw[<-abu]at hP;clear abu;have hP:(if((((((decide (bb.k=1)&&decide (bb.dft=[]))&&decide (vars.length<=16))&&decide (n8 (.mk bb ks)<=64))&&decide (rZ (.mk bb ks)<=200))&&cN bb.nm)&&(vars.all sP&&wH bb ks 1)&&decide (r9 (.mk bb ks)<=400))=true then(if 16384<(cZ [] (we ⟨vars,.mk bb ks⟩)).length then([],2)else if(jm (cZ [] (we ⟨vars,.mk bb ks⟩))).2.1≠0 then([],22)else(cZ [] (we ⟨vars,.mk bb ks⟩),0))else([],22))=P:=hP;show az aq 26 #[ah (vs.v::oB bb.k bb.nm bb.ini bb.dft en lv mv kids bb.a).toArray] w _;refine ret (adP _ _ _ _ _ _ _ _ _ _ _ _ ?_);intro k0 b w1 iJ dV hb mH cA;have hvl:=zv.len;have hvz:=D1 vars;refine(HZ (D+1) w1 F (.mk bb ks) _ ((du false _).keep IZ λk _ cd=>cA.block k cd aM) aE).mono ?_;rintro _ w2 ⟨rfl,cO⟩;have z2:=cO.size;refine⟨_,_,rfl,cO.same aae,λkQ ia=>?_⟩;have q2:Qz w b w2 [] (false,0):=⟨cA.cn cO,hb,⟨none,Sl.nil,.inl rfl,kQ,.inl ⟨rfl,rfl⟩⟩,λ_=>⟨ix 0,aL⟩,bm _⟩
 have t2:Zq false w w2 b w2 [] (false,0) [k0]:=⟨q2,Mw.refl _ _ _,λk hk=>by
  simp only[aQ]at hk;subst hk;exact⟨aE,ia,λh=>by have:=HL kQ h;cases this⟩⟩
 have hF:∀k,(λk=>F k/\k<w.heap.size) k->k<w.heap.size:=λk hk=>hk.2;have hw:=q2.o;rw[show ao #[]=T []from rfl,ju,hvl];refine(jH t2.toQz _).mono ?_;rintro _ w3 ⟨rfl,V5,u1,u2,u3⟩;have t3:=t2.nx u2 u3.up;have RF:((((bb.k==1)&&decide (bb.dft=[]))&&decide ((vars.length:Int)<=16))&&decide ((n8 (.mk bb ks):Int)<=64)&&decide ((rZ (.mk bb ks):Int)<=200))=((((decide (bb.k=1)&&decide (bb.dft=[]))&&decide (vars.length<=16))&&decide (n8 (.mk bb ks)<=64))&&decide (rZ (.mk bb ks)<=200)):=by
  rw[bH];simp only[aP,dy,bC];constructor
  ·rintro⟨⟨⟨⟨a1,a2⟩,a3⟩,a4⟩,a5⟩;exact⟨⟨⟨⟨a1,a2⟩,aE⟩,aE⟩,aE⟩
  rintro⟨⟨⟨⟨a1,a2⟩,a3⟩,a4⟩,a5⟩;exact⟨⟨⟨⟨a1,a2⟩,aE⟩,aE⟩,aE⟩
 rw[RF]at u1;obtain⟨q3a,q3b,_,sT,_⟩:=t3.ex;refine⟨rfl,t2.sm u3 aM,q3a,q3b,_,_,sT,(lW t3.toQz bb.nm aE).mono ?_⟩;rintro _ w4 ⟨rfl,GF,v1,v2,v3⟩;have t4:=t3.nx v2 v3.up;obtain⟨q4a,q4b,_,rD,_⟩:=t4.ex;have xr:=iE [dX,bb.nm,[123]];simp only[bG,gA,cr,iu,aU,aZ]at xr;have hwc:dX.length=5:=rfl;obtain⟨q5,w5,e5,fe,hj5⟩:=wg t4.toQz [dX,bb.nm,[123]] (n:=3) (parts:=#[.mk 0 (ab (T dX)),.mk 1 (ab (T bb.nm)),.mk 2 (ab (T [123]))]) rfl rfl aL aL 0 aL aE;refine⟨_,rfl,t3.sm v3 aM,q4a,q4b,_,_,rD,q5,w5,e5,?_,hj5.mono ?_⟩
 ·refine fe.same λx hx=>⟨?_,aM⟩
  simp only[aX,be,ca]at hx;rcases hx with rfl | rfl
  ·exact(t4.k x aM).1
  exact t4.toQz.lb
 rintro _ w6 ⟨rfl,x1,x2⟩;have t6:=t4.nx x1 x2;have hU6:=u1.tr v1;have Xd:GF.1=false->(if GF.1 then([]:aH)else iq [] (0,fA [dX,bb.nm,[123]]))=cZ [] [(0,dX++32::(bb.nm++[32,123]))]:=λe=>by
  rw[e];simp only[gu,iM];rw[lI,n9 aL,fl (pT (v1.ok e).2.1),fl (by rfl),eH,fk,fk,lH];rfl
 generalize (if GF.1 then([]:aH)else iq [] (0,fA [dX,bb.nm,[123]]))=l6 at*
 obtain⟨q6a,q6b,_,KG,_⟩:=t6.ex;refine⟨rfl,t4.sl fe x2 aM,q6a,q6b,_,_,KG,λnv i q l' wr ac w'=>∃(j:Nat) (cq:St) (l':aH),i=j/\j<=vars.length/\nv=vars.length-j/\Up GF ((vars.take j).all sP) 0 cq/\(cq.1=false->l'=cZ l6 ((vars.take j).map λv=>(1,O0 v)))/\Zq false w w2 b w' l' cq [k0],
  vars.length,⟨0,GF,l6,rfl,bm _,rfl,t6.toQz.U1,λ_=>rfl,t6⟩,?_⟩
 rintro nv _ qa la wr ac w7 ⟨j,Tf,l7,rfl,hj,rfl,IX,IY,t7⟩;refine⟨λhc=>?_,λhc=>?_⟩
 ·have cd:(j:Int)<vars.length:=aV hc;obtain⟨ad,v,cs,g1,g2,g3,g4,g5,g6⟩:=(SliceF.only iW aL zv t7.o aM).get (bc j) aE;rw[ba]at g2;have hvm:=bF g2;have hvz:=uH hvm;have ov:vars.take (j+1)=vars.take j++[v]:=by
   rw[bK,g2];rfl
  unfold OY at g6;subst g6;refine⟨ad,g1,_,_,_,g5,λk4 w8 sV EG gp _=>?_⟩;have t8:=t7.al gp sV EG;refine(jH t8.toQz _).mono ?_;rintro _ w9 ⟨rfl,V6,y1,y2,y3⟩;have t9:=t8.nx y2 y3.up;obtain⟨q9a,q9b,_,hB9,_⟩:=t9.ex;refine⟨rfl,t8.sm y3 aM,q9a,q9b,_,_,hB9,λdz dL _=>⟨λk=>k∈[k4],aM,?_⟩⟩;have t10:=t9.q dL;refine(lW t10.toQz v.n aE).mono ?_;rintro _ dJ ⟨rfl,Wc,y4,y5,y6⟩;have t11:=t10.nx y5 y6.up;obtain⟨ahr,ahs,_,zD,_⟩:=t11.ex;refine⟨_,rfl,t10.sm y6 aM,ahr,ahs,_,_,zD,bR.of (t10.sm y6 aM),(xa v.v (hvn v hvm) (hT.only t11.o)).mono ?_⟩;rintro _ eM ⟨rfl,eJ⟩;have t12:=t11.q eJ;obtain⟨aht,ahu,_,Cs,_⟩:=t12.ex;have hil:=D0 (hvn v hvm);have xr:=iE [sM,v.n,[61],Lib.itoa v.v++[59]];simp only[bG,gA,cr,iu,aU,aZ,aN]at xr;have hwv:sM.length=3:=rfl;obtain⟨W3,eW,e13,dD,ahv⟩:=wg t12.toQz [sM,v.n,[61],Lib.itoa v.v++[59]] (n:=4) (parts:=#[.mk 0 (ab (T sM)),.mk 1 (ab (T v.n)),.mk 2 (ab (T [61])),.mk 3 (ab (T (Lib.itoa v.v++[59])))]) rfl rfl aL aL 1 aL aE;refine⟨T (Lib.itoa v.v),rfl,t11.sq eJ aM,aht,ahu,_,_,Cs,bR.of (t11.sq eJ aM),aam,W3,eW,by rw[show ao #[59]=T [59]from rfl,dQ];exact e13,?_,bR.of (t12.sq dD aM),ahv.mono ?_⟩
  ·refine dD.same λx hx=>⟨?_,aM⟩
   simp only[aX,be,ca]at hx;rcases hx with rfl | rfl | rfl
   ·exact(t12.k x aM).1
   ·exact t12.toQz.lb
   exact(t12.k x aM).1
  rintro _ fJ ⟨rfl,y7,y8⟩;have t14:=t12.nx y7 y8;obtain⟨ahw,ahx,_,EC,_⟩:=t14.ex;refine⟨rfl,t12.sl dD y8 aM,ahw,ahx,_,_,EC,bR.of (t12.sl dD y8 aM),vars.length-(j+1),aE,j+1,Wc,_,aad,aE,rfl,((IX.tr y1).tr y4).cg ?_ rfl,λe=>?_,⟨t14.toQz,t14.m,λk hk=>t14.k k abY⟩⟩
  ·rw[ov,ji];have:(v.v != -9223372036854775808)=decide (v.v≠ -9223372036854775808):=by rw[bH];simp
   rw[this];unfold sP;simp only[fp,List.all_nil,cH];rw[sX,Bool.and_comm (decide _) (cN _)]
  have OD:ne (Lib.itoa v.v++[59])=true:=by
   have:Lib.itoa v.v++[59]≠[]:=aM
   unfold ne;rw[bq this];rfl
  rw[e];simp only[gu,iM];rw[IY (y1.ok (y4.ok e).1).1,ov,dx,fg,n9 aL,fl (pT (y4.ok e).2.1),fl (by rfl),fl OD,eH,fk,fk,fk,lH,bL];rfl
 have nE:¬(j:Int)<vars.length:=aW hc;have uW:j=vars.length:=aE
 subst uW;rw[bU (aY _)]at IX IY;refine(Mr (HY D) t7.toQz (sR.keep λk hk _=>t7.o.block k hk.2 aM) (tw.keep (du false D) aL λk hk _=>t7.o.block k hk.2 aM) hF hr.1 hr.2 aE 1 aL hE hT).mono ?_;rintro _ w8 ⟨rfl,Wa,l8,hU8,Tj,y1,y2⟩;have t8:=t7.nx y1 y2;obtain⟨q8a,q8b,_,wy,_⟩:=t8.ex;obtain⟨q9,w9,e9,gr,hj9⟩:=wg t8.toQz [[125]] (n:=1) (parts:=#[.mk 0 (ab (T [125]))]) rfl rfl aL aL 0 aL aL;refine⟨rfl,t7.sm y2 aM,q8a,q8b,_,_,wy,q9,w9,e9,?_,hj9.mono ?_⟩
 ·refine gr.same λx hx=>⟨?_,aM⟩
  simp only[aX,be,ca]at hx;rcases hx with rfl | rfl
  ·exact(t8.k x aM).1
  exact t8.toQz.lb
 rintro _ dz ⟨rfl,x3,x4⟩;have t10:=t8.nx x3 x4;have hU:=hU6.tr (IX.tr hU8);have hlF:Wa.1=false->(if Wa.1 then l8 else iq l8 (0,fA [[125]]))=cZ [] (we ⟨vars,.mk bb ks⟩):=λe=>by
  obtain⟨e7,_⟩:=hU8.ok e;obtain⟨e4,_⟩:=IX.ok e7;rw[e];simp only[gu,iM];rw[Tj e,IY e7,Xd e4];have e1:fA [[125]]=[125]:=aL
  rw[e1,<-lI,<-fg,<-fg,<-fg];unfold we;rw[bf (yW 1 bb)];exact rfl
 generalize (if Wa.1 then l8 else iq l8 (0,fA [[125]]))=lF at*
 obtain⟨abw,abx,_,nG,_⟩:=t10.ex;have hcond:((((((decide (bb.k=1)&&decide (bb.dft=[]))&&decide (vars.length<=16))&&decide (n8 (.mk bb ks)<=64))&&decide (rZ (.mk bb ks)<=200))&&cN bb.nm)&&(vars.all sP&&wH bb ks 1)&&decide (r9 (.mk bb ks)<=400))=!Wa.1:=by
  have h1:=hU.w;have ahy:decide (400<(0:Int)+((0+0+(0+(uZ bb+jN ks)):Nat):Int))=!decide (r9 (.mk bb ks)<=400):=by
   rw[r9];by_cases h4:uZ bb+jN ks<=400
   ·rw[bE h4,bq aE];rfl
   rw[bq h4,bE aE];rfl
  have h1:Wa.1=((false||!((((((decide (bb.k=1)&&decide (bb.dft=[]))&&decide (vars.length<=16))&&decide (n8 (.mk bb ks)<=64))&&decide (rZ (.mk bb ks)<=200))&&cN bb.nm)&&(vars.all sP&&wH bb ks 1)))||decide (400<(0:Int)+((0+0+(0+(uZ bb+jN ks)):Nat):Int))):=h1;rw[ahy]at h1;rw[h1];generalize ((((((decide (bb.k=1)&&decide (bb.dft=[]))&&decide (vars.length<=16))&&decide (n8 (.mk bb ks)<=64))&&decide (rZ (.mk bb ks)<=200))&&cN bb.nm)&&(vars.all sP&&wH bb ks 1))=A;generalize decide (r9 (.mk bb ks)<=400)=B;cases A<;>cases B<;>rfl
 rw[hcond]at hP;have fin:∀{w':av},ay [] w2 w'->ay [] w w':=λh=>hw.cn h;have Xm:ay [] w dz:=t10.o;refine⟨rfl,t8.sl gr x4 aM,abw,abx,_,_,nG,λe=>?_,λe=>(HP t10.toQz).mono ?_⟩
 ·rw[aO (by rw[e];decide)]at hP;subst hP;exact⟨rfl,Xm⟩
 rw[aR (by rw[e];rfl),<-hlF e]at hP;rintro _ _ ⟨rfl,rfl⟩;obtain⟨slP,hPt,hPb⟩:=t10.toQz.pt;have hbu:=λk hk=>t10.toQz.bu (hPb k hk);refine⟨_,rfl,λ_ _=>rfl,abw,abx,_,_,nG,λe2=>?_,λe2=>(H0 hPt).mono ?_⟩
 ·rw[aR (aV e2)]at hP;subst hP;exact⟨rfl,Xm⟩
 rw[aO (aW e2)]at hP;rintro _ dJ ⟨rfl,Tl,dW⟩;have ED:=dW.size;have hlb:=t10.toQz.lb;have k0h:=t10.k k0 aM;have ko:∀k,(b<k/\slP.a=some ⟨k,0,none⟩)->w.heap.size<=k:=λk hk=>by have:=t10.lo;omega
 have o11:ay [] w dJ:=(Xm.CA dW).only ko;obtain⟨W2,zD⟩:=Tl.blk;refine⟨_,rfl,dW.same λx hx=>?_,W2,slP,_,_,zD,(DV _ (hE.only o11)).mono ?_⟩
 ·simp only[aQ]at hx;subst hx;exact⟨k0h.1,λh=>k0h.2.2 (hPb _ h.2)⟩
 rintro _ eM ⟨vsx,csx,rfl,hC,eJ⟩;obtain⟨xe,xl,xm,xk,rfl,_⟩:=hC.root;have Tm:=Tl.only eJ;obtain⟨q12,Cs⟩:=Tm.blk;have o12:=o11.cn eJ;have z12:=eJ.size;refine⟨vsx,_,_,_,_,xe,xl,xm,xk,_,_,_,rfl,eJ.same aae,q12,slP,_,_,Cs,λe3 k6 k7 eW _ _ _ _ dD _=>?_,λe3 k8 k9 fJ hk8 Rv hk9 aby eF _=>?_⟩
 ·rw[aR (by simpa using e3)]at hP;subst hP;exact⟨rfl,o12.cn dD⟩
 rw[aO (by simpa using e3)]at hP;subst hP;refine(H0 (Tm.only eF)).mono ?_;rintro _ ir ⟨rfl,abz,j7⟩;obtain⟨q15,VY⟩:=abz.blk;have Xa:=eF.size;refine⟨_,rfl,j7.same λx hx=>?_,q15,slP,_,_,VY,rfl,((o12.cn eF).CA j7).only ko⟩;simp only[aX,be,ca]at hx;rcases hx with rfl | rfl | rfl
 ·exact⟨aE,λh=>k0h.2.2 (hPb _ h.2)⟩
 ·exact⟨Rv,λh=>by have:=(hbu _ h.2).2;omega⟩
 exact⟨aby,λh=>by have:=(hbu _ h.2).2;omega⟩
def vD:aH:=[99,104,97,114,116,32,99,123,118,97,114,32,110,61,45,50,59,115,116,97,116,101,32,97,123,111,110,32,103,111,91,110,60,48,93,123,115,101,116,32,110,61,110,43,49,59,125,45,62,98,44,97,59,101,110,116,101,114,123,125,125,100,101,101,112,32,104,45,62,97,59,125]
def SC:aH:=[99,104,97,114,116,32,99,32,123,10,32,32,118,97,114,32,110,32,61,32,45,50,59,10,32,32,115,116,97,116,101,32,97,32,123,10,32,32,32,32,111,110,32,103,111,32,91,110,32,60,32,48,93,32,123,32,115,101,116,32,110,32,61,32,110,32,43,32,49,59,32,125,32,45,62,32,98,44,32,97,59,10,32,32,125,10,32,32,100,101,101,112,32,104,32,45,62,32,97,59,10,125,10]
def inB(n:Int):Bool:=decide (-9223372036854775808<=n/\n<=9223372036854775807)
theorem Mt{n:Int}(h:inB n=true):wA n:=by
 have h:=aV h;exact⟨h.1,h.2⟩
mutual
def WI:Ex->Bool
 | .mk _ n _ _ l _=>inB n&&QI l
def QI:List Ex->Bool
 | []=>true
 | x::l=>WI x&&QI l
end
theorem H3{y:Ex}:∀{l:List Ex},QI l=true->y∈l->WI y=true
 | [],_,h=>aax
 | x::l,h,hy=>by
  rw[QI,aP]at h;rcases aX.1 hy with rfl | hy
  ·exact h.1
  exact H3 h.2 hy
theorem Uw:∀(d:Nat) {x:Ex},WI x=true->jz d x
 | 0,_,_=>trivial
 | d+1,.mk k n s op l a,h=>by
  rw[WI,aP]at h;exact⟨Mt h.1,λy hy=>Uw d (H3 h.2 hy)⟩
def nAb(a:Ac):Bool:=WI a.x
def nMb(m:Mv):Bool:=WI m.g&&m.acts.all nAb&&inB m.wt
def nNb(b:Nb):Bool:=b.en.all nAb&&b.lv.all nAb&&b.mv.all nMb
mutual
def nDb:Nd->Bool
 | .mk b l=>nNb b&&QJ l
def QJ:List Nd->Bool
 | []=>true
 | x::l=>nDb x&&QJ l
end
theorem Mu{l:List Ac}(h:l.all nAb=true):∀a,a∈l->Ab a:=λa ha d=>Uw d ((dv.1 h) a ha)
theorem afa{m:Mv}(h:nMb m=true):IV m:=by
 unfold nMb at h;simp only[aP]at h;exact⟨λd=>Uw d h.1.1,Mu h.1.2,Mt h.2⟩
theorem afb{b:Nb}(h:nNb b=true):Tc b:=by
 unfold nNb at h;simp only[aP]at h;exact⟨Mu h.1.1,Mu h.1.2,λm hm=>afa ((dv.1 h.2) m hm)⟩
mutual
theorem Zc:∀(x:Nd),nDb x=true->yY x
 | .mk b l,h=>by
  rw[nDb,aP]at h;rw[yY];exact⟨afb h.1,SD l h.2⟩
theorem SD:∀(l:List Nd),QJ l=true->uy l
 | [],_=>by rw[uy];trivial
 | x::l,h=>by
  rw[QJ,aP]at h;rw[uy];exact⟨Zc x h.1,SD l h.2⟩
end
def nCb(c:Ch):Bool:=(c.vars.all λv=>inB v.v)&&nDb c.root
theorem afd{c:Ch}(h:nCb c=true):Ry c:=by
 unfold nCb at h;simp only[aP]at h;exact⟨λv hv=>Mt ((dv.1 h.1) v hv),Zc _ h.2⟩
def afe(c:Ch):Bool:=decide (pU c.vars+qt c.root<=8388608)
def sm8:Bool:=(decide ((jm vD).2.1=0/\tK (jm vD).1=(SC,0))&&nCb (jm vD).1)&&afe (jm vD).1
theorem Ux:sm8=true:=by kernel_rfl
theorem ChR.off{d:Nat}{w:av}{F:aJ}{c:Ch}{vs:Sl}{cs:aI}(h:ChR true d w F c vs cs):ChR false d w F c vs cs:=⟨h.vars.off λ_ _ _ h=>h,Hv h.root⟩
theorem Mx(w:av)(hE:Er w)(hT:Tb w):az aq 10 #[] w λe w'=>e=ak (aj true)/\ay [] w w':=by
 refine ret (adx _ _ ?_);refine(DV vD hE).mono ?_;rintro _ w0 ⟨vs,cs,rfl,hC,cw⟩;have qE:=Ux;unfold sm8 at qE;simp only[aP]at qE;obtain⟨⟨qE,hn⟩,hz⟩:=qE;have qE:=aV qE;have hn:=afd hn;have hz:=aV hz;generalize jm vD=P at*
 obtain⟨xe,xl,xm,xk,rfl,_⟩:=hC.root;have z0:=cw.size;refine⟨vs,_,_,_,_,xe,xl,xm,xk,_,_,_,rfl,λk0 k1 w1 iJ dV ku jK cA=>?_⟩;have z1:=cA.size;have o1:=cw.cn cA;have hC1:ChR true 15 w1 (Fr w.heap.size) P.1 vs (oB P.1.root.b.k P.1.root.b.nm P.1.root.b.ini P.1.root.b.dft xe xl xm xk P.1.root.b.a):=⟨hC.vars.keep iW aL λk _ cd=>cA.block k cd aM,(du true 15).keep hC.root λk _ cd=>cA.block k cd aM⟩
 refine(H2 hC1.off hn hz (hE.only o1) (hT.only o1)).mono ?_;rintro _ w2 ⟨rfl,cO⟩;refine⟨_,_,rfl,cO.same aae,?_,o1.cn cO⟩;rw[show(ao #[99,104,97,114,116,32,99,32,123,10,32,32,118,97,114,32,110,32,61,32,45,50,59,10,32,32,115,116,97,116,101,32,97,32,123,10,32,32,32,32,111,110,32,103,111,32,91,110,32,60,32,48,93,32,123,32,115,101,116,32,110,32,61,32,110,32,43,32,49,59,32,125,32,45,62,32,98,44,32,97,59,10,32,32,125,10,32,32,100,101,101,112,32,104,32,45,62,32,97,59,10,125,10])=T SC from rfl,qE.2,qE.1,ju];simp
end
def spv(x:GC):aI:=[O U x.k,ab (T x.nm),O U x.pa,O U x.dp,O U x.en]
def WJ:Rp GC:=λ_ _ x cs=>cs=spv x
theorem My:WJ.Ok:=⟨λh _=>h,λh=>h,λh _=>h,λh=>by
 unfold WJ spv at h;subst h;intro v hv;simp only[aX,be,ca]at hv;rcases hv with rfl | rfl | rfl | rfl | rfl<;>rfl⟩
abbrev H4(B:Nat)(w:av)(s:Sl)(xs:List GC):Prop:=Own WJ 5 70 B w (λ_=>False) s xs
theorem H4.of{B:Nat}{w:av}{F:aJ}{s:Sl}{xs:List GC}(h:Own WJ 5 70 B w F s xs):H4 B w s xs:=by
 rcases h with⟨rfl,rfl⟩ | ⟨g,css,tail,h1,h2,h4,h5,h6,h7,h9,h8⟩
 ·exact .inl ⟨rfl,rfl⟩
 exact .inr ⟨g,css,tail,h1,h2,h4,h5,h6,h7,h9,fP.Ra (λx c _ hc=>hc) h8⟩
section
variable {w:av} {F:aJ} {l:Sl} {xs:List GC}
abbrev Zd(B:Nat)(w:av)(s:Sl)(l:List Int):Prop:=Own Fh 1 3 B w (λ_=>False) s l
theorem Zd.of{B:Nat}{w:av}{F:aJ}{s:Sl}{l:List Int}(h:Own Fh 1 3 B w F s l):Zd B w s l:=by
 rcases h with⟨rfl,rfl⟩ | ⟨g,css,tail,h1,h2,h4,h5,h6,h7,h9,h8⟩
 ·exact .inl ⟨rfl,rfl⟩
 exact .inr ⟨g,css,tail,h1,h2,h4,h5,h6,h7,h9,fP.Ra (λx c _ hc=>hc) h8⟩
end
end Go.Proofs.YtmgndgpgngcgpaaGreatDoor.Con
namespace Go.Kt
open Go Go.RowKit Go.MapKept
structure Wi {κ:Type} (d:TypeDesc) (kv:κ->aw) (g:κ->Prop):Prop where
 is:∀k,IsKey d (kv k)
 inj:∀{k l},kv k=kv l->k=l
structure MapV {κ:Type} (kv:κ->aw) (g:κ->Prop) (w:av) (r:Nat) (m:κ->Option aw) (n:Nat):Prop where
 mem:∃es clock,w.heap[r]? =some (.map es clock)/\Stamped es clock/\es.size<=n/\(∀x,x∈es.toList->∃k,x.key=kv k/\g k)/\
  ∀k v,m k=some v↔∃x,x∈es.toList/\x.key=kv k/\x.val=v
section
variable {κ:Type} {d:TypeDesc} {kv:κ->aw} {g:κ->Prop} {P:Program} {w w':av} {r n:Nat} {m:κ->Option aw} {mty kt et:TypeId}
theorem MapV.keep(h:MapV kv g w r m n)(hk:w'.heap[r]? =w.heap[r]?):MapV kv g w' r m n:=by
 obtain⟨es,c,h1,h2⟩:=h.mem;exact⟨es,c,hk.trans h1,h2⟩
theorem MapV.le(h:MapV kv g w r m n){n'}(hn:n<=n'):MapV kv g w r m n':=by
 obtain⟨es,c,h1,h2,h3,h4⟩:=h.mem;exact⟨es,c,h1,h2,bh h3 hn,h4⟩
theorem MapV.lt(h:MapV kv g w r m n):r<w.heap.size:=by
 obtain⟨es,c,h1,h2⟩:=h.mem;exact(kR.1 h1).1
theorem MapV.only(h:MapV kv g w r m n){bs}(hO:Only bs w w')(hn:r∉bs):MapV kv g w' r m n:=h.keep (hO.block r h.lt hn)
theorem MapV.ext(h:MapV kv g w r m n){m'}(he:∀k,m' k=m k):MapV kv g w r m' n:=by
 obtain⟨es,c,h1,h2,h3,h4,h5⟩:=h.mem;exact⟨es,c,h1,h2,h3,h4,λk v=>by rw[he,h5]⟩
theorem Ze(K:Wi d kv g){es:Array MapEntry}(h:∀x,x∈es.toList->∃k,x.key=kv k/\g k):∀x∈es.toList,IsKey d x.key:=λx hx=>by
 obtain⟨k,e,_⟩:=h x hx;rw[e];exact K.is k
variable [DecidableEq κ]
end
abbrev kS(s:List UInt8):aw:=.string ⟨s.toArray⟩
abbrev gS(s:List UInt8):Prop:=s.length<=maxLen
theorem aff:Wi .string kS gS:=⟨λ_=>trivial,λh=>aat⟩
end Go.Kt
