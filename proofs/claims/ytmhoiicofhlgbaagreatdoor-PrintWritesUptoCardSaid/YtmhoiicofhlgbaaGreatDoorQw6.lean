import Derived.Test.YtmhoiicofhlgbaaGreatDoorQw5
set_option linter.unusedSectionVars false
namespace Go.Proofs.YtmhoiicofhlgbaaGreatDoor.Con
open Go.Value renaming int->O,string->ab,pointer->ae,agg->ah,tuple->ai,bool->aj
open Go.IntKind renaming i64->U,wrap->ar
open Go.Ending renaming returned->ak
open _root_.ByteArray renaming mk->ao
open _root_.Go.Proofs.Tryz renaming prog->aq
open Go.Instr renaming buildSlice->au
open Go renaming World->av,Value->aw,Calls->az
open Go.Kt renaming Only->ay
open Go Go.RowKit Go.Kt Go.Kt.V Go.Proofs.YtmhoiicofhlgbaaGreatDoor.Vc
set_option linter.unusedSimpArgs false
set_option linter.unusedVariables false
set_option maxHeartbeats 4000000
section
variable {F:Nat->Prop} {ts:List Tk} {w w' w2:av} {b:Nat} {l:Sl} {s s':Sx}
structure Cl0 (F:Nat->Prop) (ts:List Tk) (w w':av) (b:Nat) (l:Sl) (g t:Nat) (iC:List aw) (kh B:Nat) (s:Sx) (n:Nb) (en lv mv:Sl):Prop where
 r:Sr F ts w' b l s
 nb:Blk w' g t (iC++mU n.k n.nm n.ini n.dft en lv mv Sl.nil n.a)
 no:NbO B w' n en lv mv
 o:∃gs,ay (b::g::kh::gs) w w'/\∀x,x∈gs->B<=x
 ng:g≠b/\¬F g
 nh:b<kh
 gh:g≠kh
 gB:g<B
 hB:kh<B
 lB:B<=w'.heap.size
section
variable {g t:Nat} {iC:List aw} {kh B:Nat} {n:Nb} {h:wK} {en lv mv:Sl}
theorem Cl.c0 (c:Cl F ts w w' b l g t iC kh B s n h en lv mv):Cl0 F ts w w' b l g t iC kh B s n en lv mv:=⟨c.r,c.nb,c.no,c.o,c.ng,c.nh,c.gh,c.gB,c.hB,c.lB⟩
theorem Cl0.cl (c:Cl0 F ts w w' b l g t iC kh B s n en lv mv) (hb:Blk w' kh 206 (JP h)):Cl F ts w w' b l g t iC kh B s n h en lv mv:=⟨c.r,c.nb,hb,c.no,c.o,c.ng,c.nh,c.gh,c.gB,c.hB,c.lB⟩
theorem Cl0.nx (c:Cl0 F ts w w' b l g t iC kh B s n en lv mv) (k:Dn F ts w' w2 b l s'):Cl0 F ts w w2 b l g t iC kh B s' n en lv mv:=by
 have ng:=c.ng;have gB:=c.gB;have nh:=c.nh;have hBl:=c.hB;obtain⟨gs,h1,h2⟩:=c.o;exact⟨k.r,k.o.blk c.nb (by simp only[aF];omega),c.no.go k.o fun x hx=>(by simp only[aF]at hx;omega),
  ⟨gs,h1.trans k.o fun x hx=>.inl (by simp only[aF]at hx;simp[hx]),h2⟩,ng,c.nh,c.gh,gB,c.hB,aX c.lB k.o.size⟩
theorem Cl0.q (c:Cl0 F ts w w' b l g t iC kh B s n en lv mv) (k:ay [] w' w2):Cl0 F ts w w2 b l g t iC kh B s n en lv mv:=c.nx (c.r.dn.q k)
theorem Cl0.sc (c:Cl0 F ts w w' b l g t iC kh B s n en lv mv) (k:Dn F ts w' w2 b l s'):aR [kh] w' w2:=k.o.same fun x hx=>by
 have:=c.nh;have:=c.hB;have:=c.lB;simp only[aF]at hx⊢;omega
theorem Cl0.sq (c:Cl0 F ts w w' b l g t iC kh B s n en lv mv) (k:ay [] w' w2):aR [kh] w' w2:=c.sc (c.r.dn.q k)
end
theorem F3 (n:Nb) (h:wK) (s:Sx):(db ts n h s).2.1.mv.length<=n.mv.length+1:=by
 unfold db;split
 ·dsimp only;rw[aD,aW];omega
 ·split
  ·exact ic _
  ·split<;>exact ic _
  ·split<;>exact ic _
  ·split<;>exact ic _
theorem HZ {f:Nat} (h:Sr F ts w b l s) {g t:Nat} {iC:List aw} {n:Nb} (zJ:n.en=[]) (vM:n.lv=[]) (qn:n.mv=[]) (hB:Blk w g t (iC++mU n.k n.nm n.ini n.dft Sl.nil Sl.nil Sl.nil Sl.nil n.a)) (hg:g≠b/\¬F g) (hd:vR s.d) (hN:s.fc=0->0<f/\TK F ts b l f (uN s.d)):
  az aq 77 #[rp b,ae (some ⟨g,iC.length,none⟩)] w fun e w'=>e=ak (ai #[])/\∃cs,Blk w' g t (iC++cs)/\li true (f+1) w' (Fr w.heap.size) (nJ ts (jf ts f) n s).1 cs/\ay [b,g] w w'/\Sr F ts w' b l (nJ ts (jf ts f) n s).2:=by
 refine ret (ZX _ _ _ _ ?_);unfold S6;intro k0 w0 gN dJ bT;have t0:=h.zt.al bT gN dJ;have hgw:=hB.lt;have hbw:=h.lb;refine⟨_,Blk.dI t0.r.blk 6 rfl,b,6,_,_,rfl,t0.r.blk,by simp,t0.ne (by simp),fun w1 bZ pi=>?_⟩;have t1:Zt F ts w w1 b l {s with d:=uN s.d} [k0]:=t0.up bZ pi h.lt;have nb1:Blk w1 g t (iC++mU n.k n.nm n.ini n.dft Sl.nil Sl.nil Sl.nil Sl.nil n.a):=bZ.blk (bT.blk hB (by simp)) (by simp only[aF];omega);have zw1:=t1.z.o.size;have zk:=(t1.z.k k0 (by simp)).2;generalize hBB:w1.heap.size=B at*
 have hgB:g<B:=by omega
 have c1:Cl0 F ts w w1 b l g t iC k0 B {s with d:=uN s.d} n Sl.nil Sl.nil Sl.nil:=⟨t1.r,nb1,⟨by rw[zJ];exact ja.nil _ _ _ _ _ _,by rw[vM];exact ja.nil _ _ _ _ _ _,by rw[qn];exact Own.nil _ _ _ _ _ _⟩,
  ⟨[],t1.z.o.weaken fun x hx=>.inl (by simp only[aF]at hx;simp[hx]),fun x hx=>(by cases hx)⟩,hg,by omega,by omega,hgB,zk,G2 hBB.symm⟩
 have hbB:b<B:=by omega
 unfold nJ;dsimp only;generalize hC:fi ts (ts.length+1) n ⟨false,false,false⟩ {s with d:=uN s.d}=C;have aei:On ts {s with d:=uN s.d} C.2:=by rw[<-hC];exact tq h.en _ _ _ _
 refine⟨fun nv b0 b1 b2 b3 w'=>∃(n':Nb) (hd:wK) (s':Sx) (en lv mv:Sl),b0=false/\b1=hd.i/\b2=hd.e/\b3=hd.l/\Cl0 F ts w w' b l g t iC k0 B s' n' en lv mv/\fi ts nv n' hd s'=C/\mu ts s'<nv/\n'.mv.length+mu ts s'<=ts.length,ts.length+1,
  ⟨n,⟨false,false,false⟩,_,_,_,_,rfl,rfl,rfl,rfl,c1,hC,tP (qe _ _),by rw[qn,aN,bm];exact qe _ _⟩,?_⟩
 rintro nv _ _ _ _ w2 ⟨n',Yv,s',en,lv,mv,rfl,rfl,rfl,rfl,c2,hR,Ub,wB⟩;obtain⟨m,rfl⟩:∃m,nv=m+1:=⟨nv-1,by omega⟩
 rw[fi]at hR;refine⟨fun b4 b5 b6 b7 b8 w'=>(b4=true/\∃(n':Nb) (hd:wK) (s':Sx) (en lv mv:Sl),b5=false/\b6=hd.i/\b7=hd.e/\b8=hd.l/\Cl0 F ts w w' b l g t iC k0 B s' n' en lv mv/\fi ts m n' hd s'=C/\mu ts s'<m/\n'.mv.length+mu ts s'<=ts.length)∨
  (b4=false/\∃(en lv mv:Sl),Cl0 F ts w w' b l g t iC k0 B C.2 C.1 en lv mv),?_,(lH c2.r).mono ?_⟩
 rotate_left
 ·rintro _ wD ⟨rfl,ru⟩;have c29:=c2.q ru;refine⟨_,rfl,c2.sq ru,fun hc hBk=>?_,fun hc=>?_⟩
  ·have hc:s'.fc=0:=by simpa using hc
   rw[if_neg (by simp[hc])]at hR;have OD:=qe ts s';have bJ:=c2.r.lt;have apj:0<mu ts s':=by unfold mu;rw[if_pos hc];omega
   have dN:=F3 (ts:=ts) n' Yv s';refine(JQ (c29.cl (h:=Yv) hBk) (by omega)).mono ?_;rintro _ GJ ⟨rfl,uT,uU,pX,c30⟩;refine⟨_,rfl,_,_,_,_,c30.hb,?_⟩;cases oY:(db ts n' Yv s').1 with
   | true=>
    rw[if_pos oY]at hR;have hmu:=JE h.en n' Yv hc bJ oY;exact .inl ⟨rfl,_,_,_,_,_,_,rfl,rfl,rfl,rfl,c30.c0,hR,by omega,by omega⟩
   | false=>
    rw[if_neg (by rw[oY];decide)]at hR;refine .inr ⟨rfl,uT,uU,pX,?_⟩;rw[<-hR];exact c30.c0
  ·have hc:s'.fc≠0:=by simpa using hc
   rw[if_pos hc]at hR;refine .inr ⟨rfl,en,lv,mv,?_⟩;rw[<-hR];exact c29
 clear hR Ub wB c2;rintro b4 b5 b6 b7 b8 w3 (⟨rfl,hh⟩ | ⟨rfl,en,lv,mv,c3⟩)
 ·exact⟨fun _=>⟨m,KG _,hh⟩,fun hh=>(by cases hh)⟩
 refine⟨fun hh=>(by cases hh),fun _=>?_⟩;generalize C.1=n1 at*
 generalize C.2=s1 at*
 have hsB:B<=w3.heap.size:=c3.lB;have no3:BI true w3 (fun k=>B<=k/\k<w3.heap.size) n1 en lv mv:=
  ⟨(c3.no.en.inHeap (ci true) (by decide)).mono (ci true) fun k hk=>⟨hk.1.1,hk.2⟩,(c3.no.lv.inHeap (ci true) (by decide)).mono (ci true) fun k hk=>⟨hk.1.1,hk.2⟩,(c3.no.mv.sl (gp true) fun k hk=>hk).inHeap (gp true) (by decide)⟩
 obtain⟨gs3,o3,o3'⟩:=c3.o;have o3:ay [b,g] w w3:=o3.weaken fun x hx=>by
  simp only[aL]at hx;rcases hx with rfl | rfl | rfl | hx
  ·exact .inl (by simp)
  ·exact .inl (by simp)
  ·exact .inr gN
  ·exact .inr (aX zw1 (o3' x hx))
 have k3:Kd F ts w w3 b l g t iC f B w3.heap.size n1 en lv mv s1 [] Sl.nil:=⟨c3.r,c3.nb,no3,Own.nil _ _ _ _ _ _,o3,aK _⟩
 generalize kC:w3.heap.size=B2 at*
 clear c3 no3 o3 o3' hC;generalize hK:qd ts (jf ts f) (ts.length+1) [] s1=K;have sk:∀{u u':av} {x y:Sx},B2<=u.heap.size->Dn F ts u u' b l y->aR [k0] u u':=fun hz k=>k.o.same fun x hx=>by
  simp only[aF]at hx⊢;omega
 have OT:∀{u u':av} {x y:Sx} {acc:List Nd} {kids:Sl},Kd F ts w u b l g t iC f B B2 n1 en lv mv x acc kids->Dn F ts u u' b l y->Kd F ts w u' b l g t iC f B B2 n1 en lv mv y acc kids:=fun a k=>a.nx hg.1 hbB hsB k;have go:∀{u:av} {x:Sx} {acc:List Nd} {kids:Sl},Kd F ts w u b l g t iC f B B2 n1 en lv mv x acc kids->∃(q:Sl) (u2:av),(au 52 4 #[.mk 0 (ab (ao #[115,116,97,116,101])),.mk 1 (ab (ao #[112,97,114,97,108,108,101,108])),.mk 2 (ab (ao #[104,105,115,116,111,114,121])),.mk 3 (ab (ao #[100,101,101,112]))]).run aq u=.ok q.v u2/\aR [k0] u u2/\az aq 141 #[rp b,q.v] u2 fun e u3=>e=ak (O U (bU ts x mT:Nat))/\aR [k0] u2 u3/\Kd F ts w u3 b l g t iC f B B2 n1 en lv mv x acc kids:=fun{u x acc kids} a=>by
  obtain⟨q,u2,e1,hO,hm⟩:=HV a.r mT (n:=4) (parts:=#[(0,ab (T yp)),(1,ab (T oM)),(2,ab (T qN)),(3,ab (T DS))]) rfl rfl (by decide) (by decide);have a2:=OT a (a.r.dn.q hO);refine⟨q,u2,e1,sk (x:=x) a.lB (a.r.dn.q hO),hm.mono ?_⟩;rintro _ u3 ⟨rfl,cO⟩;exact⟨rfl,sk (x:=x) a2.lB (a2.r.dn.q cO),OT a2 (a2.r.dn.q cO)⟩
 obtain⟨q,w4,e1,CU,Ys⟩:=go k3;refine⟨q,w4,e1,CU,Ys.mono ?_⟩;rintro _ w5 ⟨rfl,Ja,k5⟩;refine⟨_,rfl,Ja,fun nv i2 _ _ _ _ w'=>∃(s':Sx) (acc:List Nd) (kids:Sl),i2=((bU ts s' mT:Nat):Int)/\Kd F ts w w' b l g t iC f B B2 n1 en lv mv s' acc kids/\qd ts (jf ts f) nv acc s'=K/\mu ts s'<nv/\acc.length+mu ts s'<=ts.length/\s'.d=uN s.d/\(s'.fc=0->s.fc=0),ts.length+1,
  ⟨s1,[],Sl.nil,rfl,k5,hK,tP (qe _ _),by rw[aN,bm];exact qe _ _,aei.d,fun e=>(aei.le e).1⟩,?_⟩
 clear Ja k5 Ys CU e1 k3 hK;rintro nv _ b9 PM Ui Uj w6 ⟨s',acc,kids,rfl,k6,hR,Ub,wB,hd6,hz6⟩;obtain⟨m',rfl⟩:∃m',nv=m'+1:=⟨nv-1,by omega⟩
 rw[qd]at hR;have Yw:k0≠b:=t0.ne (by simp);have hkg:k0≠g:=by omega
 refine⟨fun hc=>?_,fun hc=>?_⟩
 ·have hc:=JO hc;rw[if_neg hc]at hR;obtain⟨hfc,ol⟩:=cS hc;obtain⟨hf0,hNC⟩:=hN (hz6 hfc);have bJ:=k6.r.lt;refine⟨_,Blk.dI k6.r.blk 1 rfl,b,1,_,_,rfl,k6.r.blk,by simp,Yw,fun w7 fz RW=>?_⟩;rw[k6.r.wr]at RW;have k7:=OT k6 (y:=cJ s') ⟨fz,k6.r.jM fz RW (yH k6.r hc)⟩;have sI:=h.sm;have hmul:=qe ts s';have Kk:=HI h.en f (bU ts s' mT:Nat) (cJ s') (by show vR s'.d;rw[hd6];exact Lb _);have hmu:=nN h.en hfc bJ ol Kk.toOn0;generalize bU ts s' mT=kk at*
  generalize hNx:jf ts f (kk:Int) (cJ s')=N at*
  have ajw:N.2.d=uN s.d:=Kk.d.trans hd6;have ajx:N.2.fc=0->s.fc=0:=fun e=>hz6 (Kk.le e).1;refine⟨fun _ _ _ _ w'=>∃jq,Kd F ts w w' b l g t iC f B B2 n1 en lv mv N.2 (acc++[N.1]) jq,fun Wm b14 b15 b16 w8 h8=>?_,fun cY dP=>?_⟩
  ·obtain⟨jq,k8⟩:=h8;obtain⟨q,w9,e1,hs9,Yx⟩:=go k8;refine⟨q,w9,e1,hs9,Yx.mono ?_⟩;rintro _ cK ⟨rfl,OU,rn⟩;exact⟨_,rfl,OU,m',KG _,_,_,_,rfl,rn,hR,by omega,by rw[aD,aW];omega,ajw,ajx⟩
  ·have ou:=OT k7 (k7.r.dn.q dP);have E1:=ou.lB;have rl:∀{u:av},Sr F ts u b l (cJ s')->az aq 143 #[rp b,O U (kk:Int)] u fun e w'=>∃cs,e=ak (ah cs.toArray)/\li true f w' (Fr u.heap.size) N.1 cs/\Dn F ts u w' b l N.2:=fun hu=>by
    have:=hNC (kk:Int) (cJ s') _ hu hd6;rw[hNx]at this;exact this
   have AO:∀{u u':av} {bs:List Nat},ay bs u u'->(∀x,x∈bs->x≠g)->bE (fun k=>k=g) u u':=fun hO hb k hk bJ=>by subst hk;exact hO.block k bJ fun hm=>hb k hm rfl
   have zc:Value.cells (ah (mU 0 [] [] [] Sl.nil Sl.nil Sl.nil Sl.nil 0).toArray)=(mU 0 [] [] [] Sl.nil Sl.nil Sl.nil Sl.nil 0).toArray:=rfl;have hz:∀(u:av),∃(y:Sl) (u2:av),(au 25 1 #[.mk 0 (ah (mU 0 [] [] [] Sl.nil Sl.nil Sl.nil Sl.nil 0).toArray)]).run aq u=.ok y.v u2/\Own (li true f) 9 27 u.heap.size u2 (fun _=>False) y [JC]/\ay [] u u2:=fun u=>by
    obtain⟨y,u2,a1,a2,a3,_⟩:=kR (P:=aq) (t:=25) (e:=27) (i:=Tryz.t27) (w:=u) (F:=fun _=>False) (r:=li true f) (size:=9) (vs:=[ah (mU 0 [] [] [] Sl.nil Sl.nil Sl.nil Sl.nil 0).toArray]) (xs:=[JC]) (len:=1) (parts:=#[(0,ah (mU 0 [] [] [] Sl.nil Sl.nil Sl.nil Sl.nil 0).toArray)]) (by kernel_rfl) (by kernel_rfl) rfl rfl (by decide) rfl rfl (by decide) (by decide) (cf true f) ⟨⟨rfl,TL hf0 _ _⟩,trivial⟩;exact⟨y,u2,a1,a2,a3⟩
   have aej:∀{u:av} {y:Sl} {A:Nat},B2<=A->TM f B2 u kids acc->(∀k,A<=k->kids.a≠some ⟨k,0,none⟩)->SliceF (li true f) 9 u (Fr A) y [JC]->A<=u.heap.size->∃(s8:Sl) (u2:av),(Builtin.append_ #[25,25] 25 #[kids.v,y.v]).run aq u=.ok s8.v u2/\TM f B2 u2 s8 (acc++[JC])/\(∃gs,ay gs u u2/\∀x,x∈gs->B2<=x/\x<A)/\(∀k,A<=k->k<u.heap.size->s8.a≠some ⟨k,0,none⟩):=fun{u y A} hA ho hk hy hAu=>by
    obtain⟨s8,u2,a1,a2,gs,a3,a4,a5⟩:=pu (P:=aq) (t:=25) (ty:=25) (e:=27) (i:=Tryz.t27) (bytes:=160) (size:=9) (y:=y) (ys:=[JC]) (by kernel_rfl) (by kernel_rfl) rfl rfl rfl rfl (cf true f) ho (hy.mono (cf true f) fun k wI=>⟨aX hA wI,hk k wI⟩) (aX hA hAu) (by rw[aW];omega) (by decide);refine⟨s8,u2,a1,a2,⟨gs,a3,fun x hx=>⟨(a4 x hx).2.1,?_⟩⟩,fun k h1 h2=>?_⟩
    ·exact Nat.lt_of_not_le fun IY=>hk x IY (a4 x hx).1
    ·rcases a5 with a5 | a5
     ·rw[a5];exact hk k h1
     ·rw[a5];intro e;injection e with e;injection e with e;omega
   have RU:∀{u:av} {s8:Sl},Sr F ts u b l N.2->Blk u g t (iC++mU n1.k n1.nm n1.ini n1.dft en lv mv kids n1.a)->BI true u (fun k=>B<=k/\k<B2) n1 en lv mv->ay [b,g] w u->B2<=u.heap.size->TM f B2 u s8 (acc++[JC])->∀w',Blk w' g t (iC++mU n1.k n1.nm n1.ini n1.dft en lv mv s8 n1.a)->TM f B2 w' s8 (acc++[N.1])->(∃gk,B2<=gk/\ay [g,gk] u w')->∃jq,Kd F ts w w' b l g t iC f B B2 n1 en lv mv N.2 (acc++[N.1]) jq:=fun hr sJ X5 ho hz _ w' h1 h2 ⟨gk,h3,h4⟩=>
    ⟨_,hr.NW h4 fun x hx=>(by
     simp only[aL,aU,bM]at hx;rcases hx with rfl | rfl
     ·exact hg
     ·exact hr.gt (by omega)),h1,X5.keep fun i hi bJ=>h4.block i bJ (by simp only[aL,aU,bM];omega),h2,ho.trans h4 fun x hx=>by
     simp only[aL,aU,bM]at hx⊢;omega,aX hz h4.size⟩
   refine⟨fun k=>k=g,_,rfl,rfl,kids,ou.nb.Ua (iC.length+7) (HY rfl),(rl ou.r).mono ?_,?_⟩
   ·rintro _ dz ⟨cs,rfl,hx,Jb⟩;have ER:=OT ou Jb;have Cz:=hx;obtain⟨f',rfl⟩:∃f',f=f'+1:=⟨f-1,by omega⟩
    obtain⟨xe,xl,xm,xk,rfl,_⟩:=Cz;obtain⟨y,dF,e2,hy,dq⟩:=hz dz;have sY:=OT ER (ER.r.dn.q dq);obtain⟨s8,eI,e3,GY,⟨gs,eh,sZ⟩,hs8⟩:=aej (u:=dF) (y:=y) (A:=cY.heap.size) E1 sY.kd (fun k hk=>ou.kd.new hk) ((hy.slice (cf true _)).mono (cf true _) fun k hk=>(by
     rcases hk with hk | hk
     ·exact hk.elim
     ·exact aX Jb.o.size hk.1)) (aX Jb.o.size dq.size)
    have Xj:∀x,x∈gs->x≠g:=fun x hx=>by have:=(sZ x hx).1;omega
    have WE:=eh.size;have KT:=sY.lB;have z12:=Jb.o.size;refine⟨_,_,_,_,xe,xl,xm,xk,_,rfl,sk (x:=s') ou.lB Jb,AO Jb.o (by simp only[aF];omega),y,dF,e2,sk (x:=s') ER.lB (ER.r.dn.q dq),AO dq (by simp),s8,eI,e3,eh.same (fun x hx=>?_),AO eh Xj,?_⟩
    ·simp only[aF]at hx;subst hx;exact⟨by omega,fun hm=>by have:=(sZ x hm).1;omega⟩
    ·refine Am (H:=fun k=>cY.heap.size<=k/\k<dz.heap.size) (acc:=acc) ?_ (fun k hk _=>⟨aX E1 hk.1,hs8 k hk.1 (cb hk.2 dq.size)⟩) (fun k hk=>aX E1 hk.1) GY ou.kd.len (eh.blk sY.nb fun hm=>Xj g hm rfl) (by omega) (by omega) hkg (RU (sY.r.own eh fun x hx=>(by have:=(sZ x hx).1;omega)) (eh.blk sY.nb fun hm=>Xj g hm rfl) (sY.no.keep fun i hi bJ=>eh.block i bJ fun hm=>(by have:=(sZ i hm).1;omega)) (sY.o.trans eh fun x hx=>.inr (by have:=(sZ x hx).1;have:=ou.o.size;omega)) (aX KT WE) GY);refine(cf true _).keep ((cf true _).inHeap hx) fun k hk bJ=>?_;exact(eh.block k (cb bJ dq.size) fun hm=>by have:=(sZ k hm).2;have:=hk.1;omega).trans (dq.block k bJ (by simp))
   ·obtain⟨y,ji,e2,hy,kJ⟩:=hz cY;have GF:=OT ou (ou.r.dn.q kJ);refine⟨y,ji,e2,sk (x:=s') ou.lB (ou.r.dn.q kJ),AO kJ (by simp),(rl GF.r).mono ?_⟩;rintro _ iw ⟨cs,rfl,hx,xp⟩;have GH:=OT GF xp;have Cz:=hx;obtain⟨f',rfl⟩:∃f',f=f'+1:=⟨f-1,by omega⟩
    obtain⟨xe,xl,xm,xk,rfl,_⟩:=Cz;have ajA:=(((hy.slice (cf true _)).inHeap (cf true _) (by decide)).keep (cf true _) (by decide) (w':=iw) fun k hk bJ=>xp.o.block k bJ (by
     rcases hk.1 with hk | hk
     ·exact hk.elim
     ·have:=hk.1;simp only[aF];omega)).mono (cf true _) (G:=Fr cY.heap.size) fun k hk=>(by
     rcases hk.1 with hk | hk
     ·exact hk.elim
     ·exact hk.1)
    obtain⟨s8,j9,e3,GY,⟨gs,ix,sZ⟩,hs8⟩:=aej (u:=iw) (y:=y) (A:=cY.heap.size) E1 GH.kd (fun k hk=>ou.kd.new hk) ajA (aX kJ.size xp.o.size);have Xj:∀x,x∈gs->x≠g:=fun x hx=>by have:=(sZ x hx).1;omega
    have z21:=ix.size;have z20:=GH.lB;have z19:=kJ.size;refine⟨_,_,_,_,xe,xl,xm,xk,_,rfl,sk (x:=s') GF.lB xp,AO xp.o (by simp only[aF];omega),s8,j9,e3,ix.same (fun x hx=>?_),AO ix Xj,?_⟩
    ·simp only[aF]at hx;subst hx;exact⟨by omega,fun hm=>by have:=(sZ x hm).1;omega⟩
    ·refine Am (H:=fun k=>ji.heap.size<=k/\k<iw.heap.size) (acc:=acc) ?_ (fun k hk _=>⟨by show B2<=k;omega,hs8 k (by omega) hk.2⟩) (fun k hk=>by omega) GY ou.kd.len (ix.blk GH.nb fun hm=>Xj g hm rfl) (by omega) (by omega) hkg (RU (GH.r.own ix fun x hx=>(by have:=(sZ x hx).1;omega)) (ix.blk GH.nb fun hm=>Xj g hm rfl) (GH.no.keep fun i hi bJ=>ix.block i bJ fun hm=>(by have:=(sZ i hm).1;omega)) (GH.o.trans ix fun x hx=>.inr (by have:=(sZ x hx).1;have:=ou.o.size;omega)) (aX z20 z21) GY);refine(cf true _).keep ((cf true _).inHeap hx) fun k hk bJ=>?_;exact ix.block k bJ fun hm=>by have:=(sZ k hm).2;have:=hk.1;omega
 ·have hc:=JN hc;rw[if_pos hc]at hR;refine⟨_,Blk.dI k6.r.blk 6 rfl,b,6,_,_,rfl,k6.r.blk,by simp,Yw,fun oe jc ajB=>?_⟩;have RL:=OT k6 (y:={s' with d:=Vi s'.d}) ⟨jc,k6.r.jM jc ajB k6.r.lt⟩;obtain⟨q,pT,e1,pe,hm⟩:=oS RL.r [125];have k27:=OT RL (RL.r.dn.q pe);refine⟨q,pT,e1,sk (x:=s') RL.lB (RL.r.dn.q pe),hm.mono ?_⟩;rintro _ tI ⟨rfl,h28⟩;have N8:=OT k27 h28;refine⟨rfl,sk (x:=s') k27.lB h28,rfl,_,N8.nb,?_,N8.o,?_⟩
  ·rw[<-hR];refine⟨en,lv,mv,kids,rfl,N8.no.mono fun k hk=>aX zw1 hk.1,(N8.kd.sl (cf true f) fun k hk=>hk).low (cf true f) (by omega)⟩
  ·rw[<-hR];exact N8.r
end
end Go.Proofs.YtmhoiicofhlgbaaGreatDoor.Con
namespace Go.Proofs.YtmhoiicofhlgbaaGreatDoor.Con
open Go.Value renaming int->O,string->ab,pointer->ae,agg->ah,tuple->ai,bool->aj
open Go.IntKind renaming i64->U,wrap->ar
open Go.Ending renaming returned->ak
open _root_.ByteArray renaming mk->ao
open _root_.Go.Proofs.Tryz renaming prog->aq
open Go.Instr renaming buildSlice->au
open Go renaming World->av,Value->aw,Calls->az
open Go.Kt renaming Only->ay
open Go Go.RowKit Go.Kt Go.Kt.V
set_option linter.unusedSimpArgs false
set_option linter.unusedVariables false
set_option maxHeartbeats 4000000
def Tk.Good (t:Tk):Prop:=(t.k=2->∃c r,t.t=c::r/\dC c=true)/\(t.k=4->∃c r,t.t=c::r/\dC c=false)/\0<=t.n/\t.n<=9223372036854775807
theorem MD {m:aB} {q:Tq} (h:jZ m=.ok q):q.1≠5/\∀a,Tk.Good ⟨q.1,q.2.1,q.2.2.1,a⟩:=by
 cases m with
 | nil=>cases h
 | cons c r=>
  simp only[jZ]at h;split at h
  ·rename_i hc;unfold kl at h;split at h
   ·cases h
   ·injection h with h;subst h;have hw:dC c=true:=by unfold dC;rw[hc];rfl
    refine⟨by dsimp only;split<;>decide,fun a=>⟨fun _=>?_,fun h4=>?_,by dsimp only;decide,by dsimp only;decide⟩⟩
    ·dsimp only;rw[cI,if_pos hw];exact⟨c,_,rfl,hw⟩
    ·dsimp only at h4;split at h4<;>exact absurd h4 (by decide)
  ·rename_i hl;split at h
   ·rename_i hc;unfold pI at h;split at h
    ·cases h
    ·split at h
     ·cases h
     ·injection h with h;subst h;refine⟨by dsimp only;decide,fun a=>⟨fun h=>absurd h (by dsimp only;decide),fun h=>absurd h (by dsimp only;decide),by dsimp only;omega,?_⟩⟩;dsimp only;unfold eu;split
      ·dsimp only;decide
      ·split
       ·dsimp only;decide
       ·split
        ·dsimp only;omega
        ·dsimp only;decide
   ·rename_i hd;unfold lQ at h;split at h
    ·cases h
    ·rename_i hs;injection h with h;subst h;refine⟨by dsimp only;decide,fun a=>⟨fun h=>absurd h (by dsimp only;decide),fun _=>?_,by dsimp only;decide,by dsimp only;decide⟩⟩;obtain⟨n,hn⟩:∃n,gH (c::r)=n+1:=⟨gH (c::r)-1,by omega⟩
     dsimp only;rw[hn,fL];refine⟨c,_,rfl,?_⟩;unfold dC;rw[dX];exact⟨by simpa using hl,by simpa using hd⟩
theorem D6 {l:aB}:∀(n i:Nat),i<=l.length->l.length-i<=n->∀r,iX l i=.ok r->∃(fr:List Tk) (a:Int),r=fr++[⟨5,[],0,a⟩]/\(∀t,t∈fr->t.k≠5/\t.Good)/\r.length<=l.length-i+1
 | n,i,hi,hn,r,h=>by
  rw[iR hi]at h;split at h
  ·injection h with h;exact⟨[],_,h.symm,fun t ht=>(by cases ht),by rw[<-h,aW];omega⟩
  ·split at h
   ·cases h
   ·rename_i q hq;have q1:=rN hq;have q2:=xZ hq;rw[bN]at q2;split at h
    ·cases h
    ·rename_i r' hr';injection h with h;subst h
     match n,hn with
     | 0,hn=>omega
     | n+1,hn=>
      obtain⟨fr,a,e,hf,hl⟩:=D6 n _ (by omega) (by omega) _ hr';have hg:=MD hq;refine⟨_::fr,a,by rw[e];rfl,fun t ht=>?_,by rw[aH];omega⟩;rcases aL.1 ht with rfl | ht
      ·exact⟨hg.1,hg.2 _⟩
      ·exact hf t ht
theorem Q5 {fr:List Tk} {a:Int} (h:∀t,t∈fr->t.k≠5):nY (fr++[⟨5,[],0,a⟩]):=fun i hi=>by
 rw[aD,aW]at hi;unfold tk;by_cases hl:i<fr.length
 ·rw[bF hl,bA hl,fZ,aD,aW];exact⟨fun e=>absurd e (h _ (List.getElem_mem hl)),fun e=>by omega⟩
 ·have e:i=fr.length:=by omega
  subst e;rw[cQ (aK _),G3,aD,aW];exact⟨fun _=>rfl,fun _=>rfl⟩
theorem H0 {l:aB}:∀(n i:Nat),i<=l.length->l.length-i<=n->∀x,iX l i=.error x->x.1≠0
 | n,i,hi,hn,x,h=>by
  rw[iR hi]at h;split at h
  ·cases h
  ·split at h
   ·rename_i e hq;injection h with h;subst h;exact Bz hq
   ·rename_i q hq;have q1:=rN hq;have q2:=xZ hq;rw[bN]at q2;split at h
    ·rename_i y hy;injection h with h;subst h
     match n,hn with
     | 0,hn=>omega
     | n+1,hn=>exact H0 n _ (by omega) (by omega) _ hy
    ·cases h
theorem tw {l:aB} (h:(ca l).2.1=0):nY (ca l).1/\(∀t,t∈(ca l).1->t.Good)/\0<(ca l).1.length/\(ca l).1.length<=16385:=by
 unfold ca at h⊢;split at h
 ·cases h
 ·rename_i hl;rw[if_neg hl];cases hr:iX l 0 with
  | error x=>
   rw[hr]at h;exact absurd h (H0 l.length 0 (aQ _) (by omega) _ hr)
  | ok r=>
   obtain⟨fr,a,e,hf,hn⟩:=D6 l.length 0 (aQ _) (by omega) r hr;dsimp only;subst e;refine⟨Q5 fun t ht=>(hf t ht).1,fun t ht=>?_,by rw[aD,aW];omega,by omega⟩;rcases cq.1 ht with ht | ht
   ·exact(hf t ht).2
   ·simp only[aF]at ht;subst ht;exact⟨fun h=>absurd h (by dsimp only;decide),fun h=>absurd h (by dsimp only;decide),by dsimp only;decide,by dsimp only;decide⟩
end Go.Proofs.YtmhoiicofhlgbaaGreatDoor.Con
namespace Go.Proofs.YtmhoiicofhlgbaaGreatDoor.Con
open Go.Value renaming int->O,string->ab,pointer->ae,agg->ah,tuple->ai,bool->aj
open Go.IntKind renaming i64->U,wrap->ar
open Go.Ending renaming returned->ak
open _root_.ByteArray renaming mk->ao
open _root_.Go.Proofs.Tryz renaming prog->aq
open Go.Instr renaming buildSlice->au
open Go renaming World->av,Value->aw,Calls->az
open Go.Kt renaming Only->ay
open Go Go.RowKit Go.Kt Go.Kt.V Go.Proofs.YtmhoiicofhlgbaaGreatDoor.Vc
set_option linter.unusedSimpArgs false
set_option linter.unusedVariables false
set_option maxHeartbeats 4000000
section
variable {F:Nat->Prop} {ts:List Tk} {w w' w2:av} {b:Nat} {l:Sl} {s s':Sx}
theorem H2:∀(f:Nat) (d:Int),0<=d->d<f->d<=9223372036854775807->TK F ts b l f d
 | 0,d,h0,h1,_=>by omega
 | f+1,d,h0,h1,h2=>by
  intro k u w h hd;refine(aai ⟨b,0,none⟩ k (fun v w'=>∃cs,v=(ah cs.toArray)/\li true (f+1) w' (Fr w.heap.size) (jf ts (f+1) k u).1 cs/\Dn F ts w w' b l (jf ts (f+1) k u).2) w ?_).mono (by
   rintro e w' ⟨v,rfl,cs,rfl,h⟩;exact⟨cs,rfl,h⟩)
  unfold Th;intro k0 w0 gN dJ bT;have t0:=h.zt.al bT gN dJ;refine(D5 t0.r k).mono ?_;rintro _ w1 ⟨rfl,X2⟩;have t1:=t0.nx X2;have Kk:=yt h.en k u;have hnd:=QW (ts:=ts) (k:=k) (s:=u);rw[jf];have sJ:(dR ts k u).1.ini=[]/\(dR ts k u).1.dft=[]/\(dR ts k u).1.en=[]/\(dR ts k u).1.lv=[]/\(dR ts k u).1.mv=[]:=⟨rfl,rfl,rfl,rfl,rfl⟩
  generalize dR ts k u=N at*
  obtain⟨nb,u1⟩:=N;dsimp only at*
  obtain⟨i1,i2,i3,i4,i5⟩:=sJ;obtain⟨nk,nnm,ajC,ajD,nen,nlv,nmv,na⟩:=nb;dsimp only at i1 i2 i3 i4 i5;subst i1 i2 i3 i4 i5;dsimp only at*
  refine⟨_,_,_,_,Sl.nil,Sl.nil,Sl.nil,Sl.nil,_,rfl,t0.sc X2 (by simp),fun hc k1 w2 jO jb cp=>?_,fun hc k2 cK nW nD dy=>?_⟩
  ·rw[if_pos (by have:=aG hc;omega)];have t2:=t1.al cp jO jb;obtain⟨q,w3,e1,cO,hm⟩:=oS t2.r [45,62];have t3:=t2.q cO;refine⟨q,w3,e1,t2.sq cO (by simp),hm.mono ?_⟩;rintro _ w4 ⟨rfl,h4⟩;have t4:=t3.nx h4;refine⟨rfl,t3.sc h4 (by simp),(ul t4.r).mono ?_⟩;rintro _ w5 ⟨rfl,h5⟩;have t5:=t4.nx h5;refine⟨_,rfl,t4.sc h5 (by simp),fun w6 dG=>?_⟩;have t6:=t5.f dG (by simp);obtain⟨q,w7,e1,fz,hm⟩:=oS t6.r [59];have t7:=t6.q fz;refine⟨q,w7,e1,t6.sq fz (by simp),hm.mono ?_⟩;rintro _ w8 ⟨rfl,h8⟩;have t8:=t7.nx h8;refine⟨rfl,t7.sc h8 (by simp),fun w9 fK=>⟨_,rfl,⟨Sl.nil,Sl.nil,Sl.nil,Sl.nil,rfl,⟨ja.nil _ _ _ _ _ _,ja.nil _ _ _ _ _ _,ja.nil _ _ _ _ _ _⟩,ja.nil _ _ _ _ _ _⟩,(t8.f fK (by simp)).dn⟩⟩
  ·rw[if_neg (by have:=aI hc;omega)];have t10:=t1.al dy nW nD;obtain⟨q,cY,e1,dP,hm⟩:=oS t10.r [123];have t11:=t10.q dP;refine⟨q,cY,e1,t10.sq dP (by simp),hm.mono ?_⟩;rintro _ dz ⟨rfl,Jb⟩;have t12:=t11.nx Jb;have hms:=gJ (s:=u1) h.en [123];refine⟨rfl,t11.sc Jb (by simp),fun hB _=>?_⟩;have hsd:(dA ts u1 [123]).d=d:=hms.d.trans (Kk.d.trans hd);refine(HZ (f:=f) t12.r (iC:=[]) (n:=⟨nk,nnm,[],[],[],[],[],na⟩) rfl rfl rfl hB (t12.r.gt (t12.lt (by simp))) (by rw[hsd];exact⟨by omega,h2⟩) (fun hf=>?_)).mono ?_
   ·have hd0:=hnd (hms.le hf).1;rw[hd]at hd0;have N2:uN d=d-1:=by unfold uN;rw[fy (by omega) (by omega)]
    rw[hsd,N2];exact⟨by omega,H2 f (d-1) (by omega) (by omega) (by omega)⟩
   ·rintro _ dF ⟨rfl,cs,ry,hx,dq,ajF⟩;have Cz:=hx;obtain⟨xe,xl,xm,xk,rfl,_⟩:=Cz;have KT:Fz [b] w dF [k2,k0]:=t12.z.go dq fun x hx=>(by simp only[aL,aU,bM]at hx⊢;omega)
    have l2:=t12.lt (k0:=k2) (by simp);have l0:=t12.lt (k0:=k0) (by simp);have k0l:=(t1.z.k k0 (by simp)).2;refine⟨rfl,t12.z.sm dq (by simp) (fun x hx=>?_),_,_,_,_,xe,xl,xm,xk,_,ry,fun eI eh EZ=>⟨_,rfl,?_,?_⟩⟩
    ·simp only[aL,aU,bM]at hx;rcases hx with rfl | rfl
     ·exact .inl (by simp)
     ·exact .inr fun y hy=>by simp only[aF]at hy;omega
    ·refine(cf true _).low ((cf true _).stay hx ((Stay.refl _ _).f eh (.inl ?_))) t12.z.o.size;have:=(t12.z.k k0 (by simp)).2;exact this
    ·exact⟨(KT.f eh (by simp)).o,ajF.one eh l0⟩
theorem Vy (h:Sr F ts w b l s) (hg:∀t,t∈ts->t.Good):az aq 76 #[rp b] w fun e w'=>e=ak (ah #[ab (T (qO ts s).1.n),O U (qO ts s).1.v,O U (qO ts s).1.a])/\Dn F ts w w' b l (qO ts s).2:=by
 refine ret (ZW _ _ _ ?_);unfold S5;intro k0 w0 gN dJ bT;have t0:=h.zt.al bT gN dJ;obtain⟨ad,g1,g2⟩:=t0.r.now;unfold qO;dsimp only;generalize NY:(if(tk ts s.i).k=1 then zw ts s else s)=s1;refine⟨fun w'=>Zt F ts w w' b l s1 [k0],fun w1 t1=>(uk t1.r (k:=1) (by decide)).mono ?_,l,Blk.dI t0.r.blk 0 rfl,_,Blk.dI t0.r.blk 1 rfl,ad,g1,_,g2.dI 0 _ rfl,fun hc dz ey=>?_,fun hc eI eh=>?_⟩
 ·rintro _ w2 ⟨rfl,h2⟩;have t2:=t1.nx h2;refine⟨_,_,_,_,rfl,t1.sc h2 (by simp),fun k1 w3 jO jb cO=>?_⟩;have t3:=t2.al cO jO jb;obtain⟨q,w4,e1,dm,hm⟩:=oS t3.r [61];have t4:=t3.q dm;refine⟨q,w4,e1,t3.sq dm (by simp),hm.mono ?_⟩;rintro _ w5 ⟨rfl,h5⟩;have t5:=t4.nx h5;refine⟨rfl,t4.sc h5 (by simp),?_⟩;obtain⟨q,w6,e1,dG,hm⟩:=Al t5.r [[45]] (n:=1) (parts:=#[(0,ab (T [45]))]) rfl rfl (by decide) (by decide);have t6:=t5.q dG;refine⟨q,w6,e1,t5.sq dG (by simp),hm.mono ?_⟩;rintro _ w7 ⟨rfl,h7⟩;have t7:=t6.nx h7;generalize hgg:bU ts (dA ts (eW ts s1 1).2 [61]) [[45]]=gg at*
  have hgl:gg<=1:=by rw[<-hgg];exact DT _
  refine⟨_,rfl,t6.sc h7 (by simp),(uk t7.r (k:=3) (by decide)).mono ?_⟩;rintro _ w8 ⟨rfl,h8⟩;have t8:=t7.nx h8;refine⟨_,_,_,_,rfl,t7.sc h8 (by simp),?_⟩;obtain⟨q,w9,e1,fK,hm⟩:=oS t8.r [59];have t9:=t8.q fK;refine⟨q,w9,e1,t8.sq fK (by simp),hm.mono ?_⟩;rintro _ cK ⟨rfl,tK⟩;refine⟨rfl,t9.sc tK (by simp),fun cY dP=>⟨?_,((t9.nx tK).f dP (by simp)).dn⟩⟩;have hn:∀u:Sx,0<=(eW ts u 3).1.n/\(eW ts u 3).1.n<=9223372036854775807:=fun u=>by
   unfold eW;split
   ·exact⟨ig 0,(by decide:(0:Int)<=9223372036854775807)⟩
   ·unfold tk;cases hx:ts[u.i]? with
    | none=>exact⟨ig 0,(by decide:(0:Int)<=9223372036854775807)⟩
    | some t=>exact(hg t (be hx)).2.2
  obtain⟨n0,n1⟩:=hn (if gg=0 then dA ts (eW ts s1 1).2 [61]else cJ (dA ts (eW ts s1 1).2 [61]));generalize (eW ts (if gg=0 then dA ts (eW ts s1 1).2 [61]else cJ (dA ts (eW ts s1 1).2 [61])) 3).1.n=x at*
  have e:ar U ((ar U (1-(ar U (2*(gg:Int)))))*x)=if gg=0 then x else ar U (-x):=by
   rcases(by omega:gg=0∨gg=1)with rfl | rfl
   ·rw[if_pos rfl];show ar U (1*x)=x;rw[Int.one_mul,fy (by omega) (by omega)]
   ·rw[if_neg (by decide)];show ar U (-1*x)=_;rw[Int.neg_one_mul]
  rw[e]
 ·refine(Vv (t0.q ey).r).mono ?_;rintro _ dF ⟨rfl,vL⟩;refine⟨rfl,(t0.q ey).sc vL (by simp),?_⟩;rw[<-NY,if_pos (by simpa using hc)];exact(t0.q ey).nx vL
 ·rw[<-NY,if_neg (by simpa using hc)];exact t0.q eh
end
theorem TN (w:av) (F:Nat->Prop):ChR true 15 w F ch0 Sl.nil (mU 0 [] [] [] Sl.nil Sl.nil Sl.nil Sl.nil 0):=⟨ja.nil _ _ _ _ _ _,TL (by decide) _ _⟩
theorem ChR.stay {d:Nat} {w w':av} {B:Nat} {c:Ch} {vs:Sl} {cs:List aw} (h:ChR true d w (Fr B) c vs cs) (hs:Stay B w w'):ChR true d w' (Fr B) c vs cs:=⟨h.vars.stay ec (by decide) hs,(cf true d).stay h.root hs⟩
theorem ChR.low {d:Nat} {w:av} {A B:Nat} {c:Ch} {vs:Sl} {cs:List aw} (h:ChR true d w (Fr B) c vs cs) (hA:A<=B):ChR true d w (Fr A) c vs cs:=⟨h.vars.low ec hA,(cf true d).low h.root hA⟩
theorem Vz {ts:List Tk} (hE:nY ts) {s:Sx} {ss:List (aB)} (hi:s.i<ts.length) (hw:bU ts s ss≠0):mu ts (qO ts (cJ s)).2<mu ts s:=
 nN hE (cS hw).1 hi (cS hw).2 (Mh hE (cJ s)).toOn0
theorem D7 {w:av} (l:aB) (hE:Er w):az aq 34 #[ab (T l)] w fun e w'=>
  ∃(vs:Sl) (cs:List aw),e=ak (ai #[ah (vs.v::cs).toArray,ah #[O U (iZ l).2.1,O U (iZ l).2.2]])/\ChR true 15 w' (Fr w.heap.size) (iZ l).1 vs cs/\ay [] w w':=by
 refine(Zp (T l) (fun v w'=>∃(vs:Sl) (cs:List aw),v=(ai #[ah (vs.v::cs).toArray,ah #[O U (iZ l).2.1,O U (iZ l).2.2]])/\ChR true 15 w' (Fr w.heap.size) (iZ l).1 vs cs/\ay [] w w') w ?_).mono (by
  rintro e w' ⟨v,rfl,vs,cs,rfl,h⟩;exact⟨vs,cs,rfl,h⟩)
 unfold Sy;generalize hP:iZ l=P;unfold iZ at hP;intro k0 k1 w0 gN dJ jO jb bT;have z0:=bT.size;refine(DK l (hE.only bT)).mono ?_;rintro _ w1 ⟨rs,rfl,hT,bZ⟩;have z1:=bZ.size;have fb:=bT.bP bZ;have tOk:=tw (l:=l);have ajG:∀{w2 w3:av},ay [] w1 w2->ay [k1,k0] w2 w3->ay [] w w3:=fun cp cO=>((fb.bP cp).trans cO fun x hx=>.inr (by simp only[aL,aU,bM]at hx;omega))
 refine⟨rs,_,_,rfl,bZ.same (by simp;omega),fun hc k2 w2 nW nD cp n1 n2 n3=>⟨fun k=>k=k2,rfl,fun e=>n2 e,fun e=>n3 e,fun w3 cO=>?_⟩,fun hc k3 k4 k5 w4 I5 yX sM E3 ol GX dm=>?_⟩
 ·have hc:(ca l).2.1≠0:=by simpa using hc
  rw[if_pos hc]at hP;subst hP;exact⟨Sl.nil,_,rfl,TN _ _,ajG cp cO⟩
 have hc:(ca l).2.1=0:=by simpa using hc
 obtain⟨RY,PW,ael,dN⟩:=tOk hc;rw[if_neg (by simpa using hc)]at hP;have ajH:=((hT.sl.inHeap fT (by decide)).mono fT (G:=fun k=>w0.heap.size<=k/\k<w1.heap.size) fun k hk=>⟨hk.1.1,hk.2⟩)
 generalize (ca l).1=ts at*
 clear tOk hT;have z4:=dm.size;obtain⟨q,w5,e1,hq,dS⟩:=iB w4 [dZ] (n:=1) (parts:=#[(0,ab (T dZ))]) rfl rfl (by decide) (by decide);have z5:=dS.size;refine⟨q,w5,e1,dS.same (by simp;omega),fun tJ n04 n14 n34 n54=>?_⟩;have r5:Sr (fun k=>w0.heap.size<=k/\k<w1.heap.size) ts w5 k4 rs sS:=⟨tJ,SliceF.only fT (by decide) ajH (dm.bP dS) (by simp),fun k hk=>by have:=hk.2;omega,RY,ael,by omega⟩
 have KQ:∀k,(fun k=>w0.heap.size<=k/\k<w1.heap.size) k->k<w1.heap.size:=fun k hk=>hk.2;generalize (fun k=>w0.heap.size<=k/\k<w1.heap.size)=F at*
 have w5w:ay [] w w5:=(fb.bP dm).bP dS;have sm:∀{u u':av} {x:Sx},w5.heap.size<=u.heap.size->Dn F ts u u' k4 rs x->aR [k0,k1,k3,k5] u u':=fun hz d=>d.o.same (by
  intro x hx;simp only[aL,aU,bM]at hx⊢;omega)
 have sq:∀{u u':av},w5.heap.size<=u.heap.size->ay [] u u'->aR [k0,k1,k3,k4,k5] u u':=fun hz o=>o.same fun x hx=>⟨by
  simp only[aL,aU,bM]at hx;omega,by simp⟩
 have oD:∀{u u':av} {x:Sx},ay [] w u->Dn F ts u u' k4 rs x->ay [] w u':=fun o d=>o.trans d.o fun x hx=>.inr (by simp only[aF]at hx;omega);have o5:∀{u u':av},ay [] w u->ay [k5] u u'->ay [] w u':=fun o d=>o.trans d fun x hx=>.inr (by simp only[aF]at hx;omega);have r55:∀{u u':av} {x:Sx},Sr F ts u k4 rs x->ay [k5] u u'->Sr F ts u' k4 rs x:=fun r o=>r.V6 o ⟨n54,fun hF=>by have:=KQ _ hF;omega⟩;have Kl:=tJ.lt;refine(HW r5 (qc hq) fun k hk e=>(by have:=hk.1;omega)).mono ?_;rintro _ w6 ⟨rfl,h6⟩;have z6:=h6.o.size;refine⟨rfl,sm (aK _) h6,rs,_,_,_,_,_,_,_,_,h6.r.blk,(D5 h6.r 1).mono ?_⟩;rintro _ w7 ⟨rfl,h7⟩;have z7:=h7.o.size;have hC:qR ts=(⟨(qQ ts (ts.length+1) [] (dA ts (dR ts 1 (dA ts sS dZ)).2 [123])).1,(nJ ts (jf ts 14) (dR ts 1 (dA ts sS dZ)).1 (qQ ts (ts.length+1) [] (dA ts (dR ts 1 (dA ts sS dZ)).2 [123])).2).1⟩,FU ts (nJ ts (jf ts 14) (dR ts 1 (dA ts sS dZ)).1 (qQ ts (ts.length+1) [] (dA ts (dR ts 1 (dA ts sS dZ)).2 [123])).2).2):=rfl;have sJ:(dR ts 1 (dA ts sS dZ)).1.ini=[]/\(dR ts 1 (dA ts sS dZ)).1.dft=[]/\(dR ts 1 (dA ts sS dZ)).1.en=[]/\(dR ts 1 (dA ts sS dZ)).1.lv=[]/\(dR ts 1 (dA ts sS dZ)).1.mv=[]:=⟨rfl,rfl,rfl,rfl,rfl⟩
 have on7:On ts sS (dR ts 1 (dA ts sS dZ)).2:=(gJ RY _).trans (yt RY _ _);generalize dR ts 1 (dA ts sS dZ)=N at*
 obtain⟨⟨nk,nnm,ajC,ajD,nen,nlv,nmv,na⟩,u1⟩:=N;dsimp only at*
 obtain⟨i1,i2,i3,i4,i5⟩:=sJ;subst i1 i2 i3 i4 i5;refine⟨_,_,_,_,Sl.nil,Sl.nil,Sl.nil,Sl.nil,_,rfl,sm z6 h7,rs,_,_,_,_,_,_,_,_,h7.r.blk,fun w8 fh wm=>?_⟩;have z8:=fh.size;have r8:=r55 h7.r fh;have w8w:=o5 (oD (oD w5w h6) h7) fh;obtain⟨q,w9,e1,fK,hm⟩:=oS r8 [123];have z9:=fK.size;refine⟨q,w9,e1,sq (by omega) fK,hm.mono ?_⟩;rintro _ cK ⟨rfl,tK⟩;have GI:=tK.o.size;have ajI:=oD (w8w.bP fK) tK;have ajJ:On ts sS (dA ts u1 [123]):=on7.trans (gJ RY _);clear hm;generalize dA ts u1 [123]=u2 at*
 generalize hV:qQ ts (ts.length+1) [] u2=V at*
 generalize hB:cK.heap.size=B at*
 refine⟨rfl,sm (by omega) tK,rs,_,_,_,_,_,_,_,_,tK.r.blk,fun nv l10 i28 s3 s4 s5 qo rm wC zC i29 EP i30 i31 i32 i33 i34 i35 i36 i37 w'=>∃(u:Sx) (acc:List Vr),i28=nk/\s3=T nnm/\s4=T []/\s5=T []/\qo=Sl.nil/\rm=Sl.nil/\wC=Sl.nil/\zC=Sl.nil/\i29=na/\Sr F ts w' k4 rs u/\Own wW 3 79 B w' (Fr B) l10 acc/\qQ ts nv acc u=V/\mu ts u<nv/\acc.length+mu ts u<=ts.length/\ay [] w w'/\B<=w'.heap.size/\u.d=12,
  ts.length+1,⟨u2,[],rfl,rfl,rfl,rfl,rfl,rfl,rfl,rfl,rfl,tK.r,Own.nil _ _ _ _ _ _,hV,tP (qe _ _),by rw[aN,bm];exact qe _ _,ajI,G2 hB.symm,ajJ.d⟩,?_⟩
 clear hV;rintro nv l10 nk2 _ _ _ _ _ _ _ na2 EP i30 i31 i32 i33 i34 i35 i36 i37 cY ⟨u,acc,rfl,rfl,rfl,rfl,rfl,rfl,rfl,rfl,rfl,r11,OW,hR,Ub,wB,ajK,zB,hud⟩;obtain⟨m,rfl⟩:∃m,nv=m+1:=⟨nv-1,by omega⟩
 rw[qQ]at hR;obtain⟨q,dz,e1,ey,hm⟩:=Al r11 [sB] (n:=1) (parts:=#[(0,ab (T sB))]) rfl rfl (by decide) (by decide);have z12:=ey.size;refine⟨q,dz,e1,sq (by omega) ey,hm.mono ?_⟩;rintro _ dF ⟨rfl,vL⟩;have KT:=vL.o.size;have Xk:=oD (ajK.bP ey) vL;have Uo:Own wW 3 79 B dF (Fr B) l10 acc:=(OW.stay ec ey fun x hx=>(by cases hx)).stay ec vL.o fun x hx=>.inl (by simp only[aF]at hx;omega);refine⟨_,rfl,sm (by omega) vL,rs,_,_,_,_,_,_,_,_,vL.r.blk,fun wL eI eh EZ=>?_,fun wL ry m05 m15 m35=>?_⟩
 ·have wL:=JO wL;rw[if_neg wL]at hR vL;have WE:=eh.size;have r14:=vL.r.only eh;refine⟨fun k=>k=k5,rfl,(Vy r14 PW).mono ?_⟩;rintro _ fQ ⟨rfl,CA⟩;have z15:=CA.o.size;have hmu:=Vz RY r11.lt wL;have Kk:=Mh RY (cJ u);generalize qO ts (cJ u)=X at*
  obtain⟨x,u'⟩:=X;dsimp only at*
  have OD:=qe ts u;have aem:Own wW 3 79 B fQ (Fr B) l10 acc:=(Uo.stay ec eh fun x hx=>(by cases hx)).stay ec CA.o fun x hx=>.inl (by simp only[aF]at hx;omega);obtain⟨y,gP,e2,jD,AN,fY,e3,me,⟨gs,iP,sZ⟩,_⟩:=pv (P:=aq) (t:=22) (ty:=22) (e:=79) (i:=Tryz.t79) (bytes:=32) (size:=3) (v:=ah #[ab (T x.n),O U x.v,O U x.a]) (x:=x) (G:=fun _=>False) (by kernel_rfl) (by kernel_rfl) rfl rfl rfl rfl (by decide) (by decide) (by decide) ec aem (by omega) rfl rfl (fun k hk _=>hk.elim) (by omega);have pf:∀g,g∈gs->B<=g:=fun g hg=>(sZ g hg).2.1;have z16:=jD.size;have z17:=iP.size;refine⟨_,_,_,rfl,sm (by omega) CA,rs,_,_,_,_,_,_,_,_,CA.r.blk,fun k hk bJ=>(by subst hk;exact CA.o.block k bJ (by simp only[aF];omega)),y,gP,e2,sq (by omega) jD,bE.only jD,AN,fY,e3,iP.same (fun x hx=>?_),fun k hk bJ=>(by subst hk;exact iP.block k bJ fun hm=>(by have:=pf k hm;omega)),fun iv jC OS=>?_⟩
  ·simp only[aL,aU,bM]at hx;exact⟨by omega,fun hm=>by have:=pf x hm;omega⟩
  ·have z18:=jC.size;have r17:Sr F ts fY k4 rs u':=(CA.r.only jD).own iP fun x hx=>(by have:=pf x hx;omega)
   refine⟨m,KG _,u',acc++[x],rfl,rfl,rfl,rfl,rfl,rfl,rfl,rfl,rfl,r55 r17 jC,?_,hR,by omega,by rw[aD,aW];omega,o5 (((oD (Xk.bP eh) CA).bP jD).trans iP fun x hx=>.inr (by have:=pf x hx;have:=Xk.size;omega)) jC,by omega,Kk.d.trans hud⟩;refine(me.mono ec fun k hk=>?_).stay ec jC fun x hx=>.inl (by simp only[aF]at hx;omega);rcases hk with hk | hk
   ·exact hk
   ·show B<=k;omega
 ·have wL:=JN wL;rw[if_pos wL]at hR vL;subst hR;dsimp only at hC;have r13:=vL.r;refine(HZ (f:=14) r13 (iC:=[l10.v]) (n:=⟨nk2,nnm,[],[],[],[],[],na2⟩) rfl rfl rfl ry ⟨n54,fun hF=>(by have:=KQ _ hF;omega)⟩ (by rw[hud];exact⟨by decide,by decide⟩) (fun _=>by
   rw[hud];exact⟨by decide,H2 14 11 (by decide) (by decide) (by decide)⟩)).mono ?_
  generalize nJ ts (jf ts 14) ⟨nk2,nnm,[],[],[],[],[],na2⟩ u=D at*
  obtain⟨root,s1⟩:=D;dsimp only at hC;rw[hC]at hP;dsimp only at hP;rintro _ ji ⟨rfl,cs,OX,hx,kJ,r19⟩;dsimp only at*
  have z19:=kJ.size;have ajN:ay [] w ji:=Xk.trans kJ fun x hx=>.inr (by simp only[aL,aU,bM]at hx;omega);have ajO:Stay B dF ji:=Stay.of kJ fun x hx=>.inl (by simp only[aL,aU,bM]at hx;omega);have c19:ChR true 15 ji (Fr w5.heap.size) ⟨acc,root⟩ l10 cs:=⟨((Uo.sl ec fun k hk=>hk).stay ec (by decide) ajO).low ec (by omega),(cf true 15).low hx (by omega)⟩
  have Cz:=hx;obtain⟨xe,xl,xm,xk,rfl,_⟩:=Cz;have sm3:∀{u u':av} {bs:List Nat},w5.heap.size<=u.heap.size->ay bs u u'->(∀x,x∈bs->x=k4∨x=k5)->aR [k0,k1,k3] u u':=fun hz o hb=>o.same fun x hx=>⟨by simp only[aL,aU,bM]at hx;omega,fun hm=>by have:=hb x hm;simp only[aL,aU,bM]at hx;omega⟩
  refine⟨rfl,sm3 (by omega) kJ (by simp),rs,_,_,_,_,_,_,_,_,r19.blk,l10,_,_,_,_,xe,xl,xm,xk,_,OX,?_⟩;have st:∀{u u':av} {x:Sx},Sr F ts u k4 rs x->Blk u k5 29 (l10.v::mU root.b.k root.b.nm root.b.ini root.b.dft xe xl xm xk root.b.a)->ay [] w u->ChR true 15 u (Fr w5.heap.size) ⟨acc,root⟩ l10 (mU root.b.k root.b.nm root.b.ini root.b.dft xe xl xm xk root.b.a)->∀{y:Sx},Dn F ts u u' k4 rs y->Sr F ts u' k4 rs y/\Blk u' k5 29 (l10.v::mU root.b.k root.b.nm root.b.ini root.b.dft xe xl xm xk root.b.a)/\ay [] w u'/\ChR true 15 u' (Fr w5.heap.size) ⟨acc,root⟩ l10 (mU root.b.k root.b.nm root.b.ini root.b.dft xe xl xm xk root.b.a):=fun{u u' x} a1 a2 a3 a4 {y} d=>
   ⟨d.r,d.o.blk a2 (by simp only[aF];omega),oD a3 d,a4.stay (Stay.of d.o fun x hx=>.inl (by simp only[aF]at hx;omega))⟩
  refine⟨fun X9 i67 GD CP N6 l28 l29 l30 l31 i68 l32 i69 i70 i71 i72 i73 i74 i75 i76 iw=>w5.heap.size<=iw.heap.size/\Sr F ts iw k4 rs (FU ts s1)/\Blk iw k5 29 (l10.v::mU root.b.k root.b.nm root.b.ini root.b.dft xe xl xm xk root.b.a)/\ay [] w iw/\ChR true 15 iw (Fr w5.heap.size) ⟨acc,root⟩ l10 (mU root.b.k root.b.nm root.b.ini root.b.dft xe xl xm xk root.b.a),?_,?_⟩
  ·rintro X9 i67 GD CP N6 l28 l29 l30 l31 i68 l32 i69 i70 i71 i72 i73 i74 i75 i76 iw ⟨z20,a1,a2,a3,a4⟩;refine(lH a1).mono ?_;rintro _ j9 ⟨rfl,ix⟩;obtain⟨b1,b2,b3,b4⟩:=st a1 a2 a3 a4 (a1.dn.q ix);have z21:=ix.size;refine⟨_,rfl,sm3 z20 ix (by simp),rs,_,_,_,_,_,_,_,_,b1.blk,l10,_,_,_,_,xe,xl,xm,xk,_,b2,fun hf nU qp _ _ p01 p03 p04 p05 p13 p14 p15 p34 p35 p45=>⟨fun k=>k=k4,rfl,fun e=>p04 e,fun e=>p14 e,fun pc rz _ _=>?_⟩,fun hf qg zE _ _=>?_⟩
   ·have hf:(FU ts s1).fc≠0:=by simpa using hf
    rw[if_pos hf]at hP;subst hP;exact⟨Sl.nil,_,rfl,TN _ _,(b3.bP qp).trans rz fun x hx=>.inr (by simp only[aL,aU,bM]at hx;omega)⟩
   ·have hf:¬(FU ts s1).fc≠0:=by simpa using hf
    rw[if_neg hf]at hP;subst hP;refine⟨l10,_,rfl,(b4.stay (Stay.of zE fun x hx=>.inl (by simp only[aL,aU,bM]at hx;omega))).low w5w.size,b3.trans zE fun x hx=>.inr (by simp only[aL,aU,bM]at hx;omega)⟩
  ·refine⟨fun b1 l39 i87 RJ Wl s18 l40 l41 l42 l43 i88 l44 i89 i90 i91 i92 i93 i94 i95 i96 mL=>b1=decide (s1.fc=0/\(tk ts s1.i).k≠5)/\w5.heap.size<=mL.heap.size/\Sr F ts mL k4 rs s1/\Blk mL k5 29 (l10.v::mU root.b.k root.b.nm root.b.ini root.b.dft xe xl xm xk root.b.a)/\ay [] w mL/\ChR true 15 mL (Fr w5.heap.size) ⟨acc,root⟩ l10 (mU root.b.k root.b.nm root.b.ini root.b.dft xe xl xm xk root.b.a),?_,fun pT pe _ _=>?_⟩
   ·rintro b1 l39 i87 RJ Wl s18 l40 l41 l42 l43 i88 l44 i89 i90 i91 i92 i93 i94 i95 i96 mL ⟨rfl,z25,a1,a2,a3,a4⟩;unfold FU;refine⟨fun hb=>(qW a1).mono ?_,fun hb=>?_⟩
    ·rw[if_pos (aG hb)];rintro _ oe ⟨rfl,h26⟩;obtain⟨b1,b2,b3,b4⟩:=st a1 a2 a3 a4 h26;have z26:=h26.o.size;exact⟨rfl,sm3 z25 h26.o (by simp),rs,_,_,_,_,_,_,_,_,b1.blk,l10,_,_,_,_,xe,xl,xm,xk,_,b2,by omega,b1,b2,b3,b4⟩
    ·rw[if_neg (aI hb)];exact⟨z25,a1,a2,a3,a4⟩
   ·have z27:=pe.size;obtain⟨a1,a2,a3,a4⟩:=st r19 OX ajN c19 (r19.dn.q pe);refine(lH a1).mono ?_;rintro _ tI ⟨rfl,sL⟩;obtain⟨b1,b2,b3,b4⟩:=st a1 a2 a3 a4 (a1.dn.q sL);have z28:=sL.size;obtain⟨ad,g1,g2⟩:=b1.now;refine⟨_,rfl,sm3 (by omega) sL (by simp),rs,_,_,_,_,_,_,_,_,b1.blk,l10,_,_,_,_,xe,xl,xm,xk,_,b2,fun hb=>⟨ad,g1,_,g2.dI 0 _ rfl,?_,by omega,b1,b2,b3,b4⟩,fun hb=>⟨?_,by omega,b1,b2,b3,b4⟩⟩
    ·have hb:s1.fc=0:=by simpa using hb
     rw[bq];simp[hb]
    ·have hb:¬s1.fc=0:=by simpa using hb
     simp[hb]
def Bu (w:av) (b k:Nat):Prop:=∃n c,w.cell? ⟨b,1,none⟩=some (.slice (some ⟨k,0,none⟩) n c)
structure Mw (f:Bool) (b:Nat) (w w':av):Prop where
 o:OnlyP (fun k=>k=b∨(f=false/\Bu w b k)) w w'
 u:∀k,Bu w' b k->Bu w b k∨(f=false/\w.heap.size<=k)
abbrev St:=Bool×Int
structure Qz (w0:av) (b:Nat) (w:av) (l:aB) (st:St):Prop where
 o:ay [] w0 w
 lo:w0.heap.size<=b
 ex:∃(q:Option Addr) (sl:Sl),(q=none∨q=some ⟨b,0,none⟩)/\Blk w b 72 [ae q,sl.v,aj st.1,O U st.2]/\Bf w (b+1) sl l
 i:st.1=false->0<=st.2/\st.2<=400
 big:l.length<=274877906944
structure Up (st:St) (c:Bool) (n:Nat) (ch:St):Prop where
 w:ch.1=((st.1||!c)||decide (400<st.2+n))
 a:ch.1=false->ch.2=st.2+n
theorem or3 {a b c:Bool} (h:false=((a||!b)||c)):a=false/\b=true/\c=false:=by
 revert h;cases a<;>cases b<;>cases c<;>decide
theorem Up.ok {st ch:St} {c:Bool} {n:Nat} (h:Up st c n ch) (e:ch.1=false):st.1=false/\c=true/\ch.2=st.2+n/\¬400<st.2+(n:Int):=by
 obtain⟨a,b,d⟩:=or3 (e.symm.trans h.w);exact⟨a,b,h.a e,aI d⟩
theorem Up.tr {st ch Xl:St} {c c':Bool} {n n':Nat} (h:Up st c n ch) (k:Up ch c' n' Xl):Up st (c&&c') (n+n') Xl:=by
 cases e:Xl.1 with
 | false=>
  obtain⟨k1,k2,k3,k4⟩:=k.ok e;obtain⟨h1,h2,h3,h4⟩:=h.ok k1;have h5:¬400<st.2+((n+n':Nat):Int):=by omega
  refine⟨?_,fun _=>by omega⟩;rw[e,h1,h2,k2,aZ h5];rfl
 | true=>
  refine⟨?_,fun e2=>by rw[e]at e2;cases e2⟩;rw[e];refine Eq.symm (bf fun hn=>?_);obtain⟨a1,a2,a3⟩:=or3 (fH.2 hn).symm;rw[aE]at a2;have a3:=aI a3;have h5:¬400<st.2+(n:Int):=by omega
  have e1:ch.1=false:=by rw[h.w,a1,a2.1,aZ h5];rfl
  have e2:=h.a e1;have h6:¬400<ch.2+(n':Int):=by omega
  have:=k.w;rw[e,e1,a2.2,aZ h6]at this;cases this
theorem Up.cg {st ch:St} {c c':Bool} {n n':Nat} (h:Up st c n ch) (e:c=c') (en:n=n'):Up st c' n' ch:=by subst e en;exact h
theorem Up.le {st ch:St} {c:Bool} {n:Nat} (h:Up st c n ch) (h0:st.1=false->0<=st.2) (e:ch.1=false):0<=ch.2/\ch.2<=400:=by
 obtain⟨a,b,d,h2⟩:=h.ok e;have:=h0 a;omega
section
variable {f g:Bool} {w0 ws w w' w1 se:av} {b k:Nat} {l l':aB} {st ch:St} {ks ks':List Nat}
theorem Mw.refl (f:Bool) (b:Nat) (w:av):Mw f b w w:=⟨OnlyP.refl _ _,fun _ h=>.inl h⟩
theorem Mw.trans (h:Mw f b w w') (k:Mw f b w' se):Mw f b w se:=by
 have z:=h.o.size;refine⟨h.o.trans k.o fun x hx=>?_,fun x hx=>?_⟩
 ·rcases hx with hx | ⟨ef,hx⟩
  ·exact .inl (.inl hx)
  ·rcases h.u x hx with e | ⟨_,e⟩
   ·exact .inl (.inr ⟨ef,e⟩)
   ·exact .inr e
 ·rcases k.u x hx with e | ⟨ef,e⟩
  ·exact h.u x e
  ·exact .inr ⟨ef,by omega⟩
theorem Mw.up (h:Mw f b w w'):Mw false b w w':=⟨h.o.mono fun k _ hk=>hk.elim .inl fun e=>.inr ⟨rfl,e.2⟩,fun k hk=>(h.u k hk).elim .inl fun e=>.inr ⟨rfl,e.2⟩⟩
theorem Mw.only1 (h:Mw true b w w'):ay [b] w w':=h.o.acy fun k hk=>hk.elim (fun e=>.inl (by rw[e];simp)) fun e=>(by cases e.1)
theorem um (h:w'.heap[b]? =w.heap[b]?) {k:Nat} (hb:Bu w' b k):Bu w b k:=by
 obtain⟨n,c,hc⟩:=hb;refine⟨n,c,?_⟩;unfold World.cell? at hc⊢;rw[h]at hc;exact hc
theorem Qz.lb (h:Qz w0 b w l st):b<w.heap.size:=by
 obtain⟨q,sl,_,hB,_⟩:=h.ex;exact hB.lt
theorem Qz.arg (h:Qz w0 b w l st) (h':Qz w0 b w' l' ch) {k:Nat} (hk:k<w0.heap.size):w'.heap[k]? =w.heap[k]? :=(h'.o.block k hk (by simp)).trans (h.o.block k hk (by simp)).symm
theorem Mw.only (hb:b<w.heap.size) (h:ay [] w w'):Mw f b w w':=⟨h.p0,fun k hk=>.inl (um (h.block b hb (by simp)) hk)⟩
theorem H3 {q v2 v3:aw} {t:TypeId} {sl:Sl} (hB:Blk w b t [q,sl.v,v2,v3]) {k:Nat} (h:Bu w b k):sl.a=some ⟨k,0,none⟩:=by
 obtain⟨n,c,hc⟩:=h;have:=Blk.dI hB 1 rfl 0 sl.v rfl;have e:(Addr.add ⟨b,0,none⟩ 1).add 0=⟨b,1,none⟩:=by simp[Addr.add]
 rw[e,hc]at this;have:(Value.slice (some ⟨k,0,none⟩) n c)=.slice sl.a sl.n sl.c:=Option.some.inj this;injection this with e1 _ _;exact e1.symm
theorem D8 {q v2 v3:aw} {t:TypeId} {sl:Sl} (hB:Blk w b t [q,sl.v,v2,v3]) {k:Nat} (h:sl.a=some ⟨k,0,none⟩):Bu w b k:=by
 have:=Blk.dI hB 1 rfl 0 sl.v rfl;have e:(Addr.add ⟨b,0,none⟩ 1).add 0=⟨b,1,none⟩:=by simp[Addr.add]
 rw[e]at this;refine⟨sl.n,sl.c,?_⟩;rw[this,<-h]
theorem Qz.bu (h:Qz w0 b w l st) {k:Nat} (hk:Bu w b k):b<k/\k<w.heap.size:=by
 obtain⟨q,sl,_,hB,hb⟩:=h.ex;have:=hb.lt (H3 hB hk);omega
theorem Qz.only (h:Qz w0 b w l st) (hO:ay [] w w'):Qz w0 b w' l st:=by
 obtain⟨q,sl,hq,hB,hb⟩:=h.ex;exact⟨h.o.bP hO,h.lo,⟨q,sl,hq,hO.blk hB (by simp),hb.keep fun g _ hl=>hO.block g hl (by simp)⟩,h.i,h.big⟩
structure Zq (f:Bool) (w0 ws:av) (b:Nat) (w:av) (l:aB) (st:St) (ks:List Nat):Prop extends Qz w0 b w l st where
 m:Mw f b ws w
 k:∀k,k∈ks->k<w.heap.size/\k≠b/\¬Bu w b k
theorem Qz.z (f:Bool) (h:Qz w0 b w l st):Zq f w0 w b w l st []:=⟨h,Mw.refl f b w,fun k hk=>(by cases hk)⟩
theorem Zq.q (t:Zq f w0 ws b w l st ks) (hO:ay [] w w'):Zq f w0 ws b w' l st ks:=by
 have hb:=t.toQz.lb;refine⟨t.toQz.only hO,t.m.trans (Mw.only hb hO),fun k hk=>?_⟩;obtain⟨h1,h2,h3⟩:=t.k k hk;exact⟨cb h1 hO.size,h2,fun h=>h3 (um (hO.block b hb (by simp)) h)⟩
theorem Zq.al (t:Zq f w0 ws b w l st ks) (hO:ay [] w w') (h1:w.heap.size<=k) (h2:k<w'.heap.size):Zq f w0 ws b w' l st (k::ks):=by
 have hb:=t.toQz.lb;have t':=t.q hO;refine⟨t'.toQz,t'.m,fun x hx=>?_⟩;rcases aL.1 hx with rfl | hx
 ·exact⟨h2,by omega,fun h=>by have:=(t.toQz.bu (um (hO.block b hb (by simp)) h)).2;omega⟩
 ·exact t'.k x hx
theorem Zq.nx (t:Zq f w0 ws b w l st ks) (p:Qz w0 b w' l' ch) (m:Mw f b w w'):Zq f w0 ws b w' l' ch ks:=by
 refine⟨p,t.m.trans m,fun k hk=>?_⟩;obtain⟨h1,h2,h3⟩:=t.k k hk;exact⟨cb h1 m.o.size,h2,fun h=>(m.u k h).elim h3 fun e=>by have:=e.2;omega⟩
theorem Zq.sq (t:Zq f w0 ws b w l st ks) (hO:ay [] w w') (hk:∀k,k∈ks'->k∈ks):aR ks' w w':=hO.same fun x hx=>⟨(t.k x (hk x hx)).1,by simp⟩
theorem Zq.sm (t:Zq f w0 ws b w l st ks) (m:Mw g b w w') (hk:∀k,k∈ks'->k∈ks):aR ks' w w':=m.o.same fun x hx=>⟨(t.k x (hk x hx)).1,fun h=>h.elim (t.k x (hk x hx)).2.1 fun e=>(t.k x (hk x hx)).2.2 e.2⟩
theorem Zq.sj (t:Zq f w0 ws b w l st ks) (hz:w.heap.size<=w1.heap.size) (h:OnlyP (fun k=>w.heap.size<=k) w1 w') (hk:∀k,k∈ks'->k∈ks):aR ks' w1 w':=h.same fun x hx=>by
 have:=(t.k x (hk x hx)).1;exact⟨by omega,by omega⟩
theorem Zq.row (t:Zq true w0 ws b w l st ks) (hb:b<ws.heap.size) (hu:∀k,Bu ws b k->k<ws.heap.size) (hO:OnlyP (fun k=>ws.heap.size<=k) w w'):Zq true w0 ws b w' l st ks:=by
 have hB:=t.toQz.lb;have hlo:=t.lo;have Yw:∀k,Bu w b k->Bu ws b k:=fun k hk=>(t.m.u k hk).elim id fun e=>(by cases e.1)
 have KP:=hO.block b hB (by omega);obtain⟨q,sl,hq,hBl,hbf⟩:=t.ex;refine⟨⟨⟨hO.os.trans t.o.os,hO.tape.trans t.o.tape,hO.output.trans t.o.output,aX t.o.size hO.size,fun k hk _=>(hO.block k (cb hk t.o.size) (by omega)).trans (t.o.block k hk (by simp))⟩,hlo,⟨q,sl,hq,KP.trans hBl,hbf.keep fun g hg hl=>hO.block g hl fun e=>(by have:=hu g (Yw g (D8 hBl hg));omega)⟩,t.i,t.big⟩,⟨t.m.o.trans hO fun k hk=>.inr hk,fun k hk=>.inl (Yw k (um KP hk))⟩,fun k hk=>?_⟩;obtain⟨h1,h2,h3⟩:=t.k k hk;exact⟨cb h1 hO.size,h2,fun h=>h3 (um KP h)⟩
theorem bE.of {ks:List Nat} (h:aR ks w w'):bE (fun k=>k∈ks) w w':=fun k hk _=>h k hk
theorem qX {w2:av} (h1:ay [] w w1) (h2:OnlyP (fun k=>w.heap.size<=k) w1 w2):ay [] w w2:=(h1.yT h2).only fun _ h=>h
end
theorem ME (w:av) (ws:List (aB)) {n:Nat} {parts:Array (Nat×aw)} (hp:parts=(((ws.map fun x=>Value.string (T x)).zipIdx 0).map fun x=>(x.2,x.1)).toArray) (hn:ws.length=n) (h0:0<n) (sI:n*1<=16777216):
  ∃(q:Sl) (w1:av) (g:Nat) (cs:List aw),(au 52 n parts).run aq w=.ok q.v w1/\ay [] w w1/\w.heap.size<=g/\g<w1.heap.size/\Blk w1 g 9 cs/\
   ∀(i:Nat) x,ws[i]? =some x->ck q (i:Int) 1 ⟨g,i,none⟩/\∀w',Blk w' g 9 cs->Cells w' ⟨g,i,none⟩ [ab (T x)]:=by
 obtain⟨q,w1,k1,k2,k3⟩:=iB w ws hp hn h0 sI;rcases k2 with⟨_,e⟩ | ⟨g,css,tail,a1,a2,a4,a5,a6,a7,a9,a8⟩
 ·subst e;simp at hn;omega
 ·have Ud:=F2 a8;refine⟨q,w1,g,_,k1,k3,a2,a4.lt,a4,fun i x hx=>⟨⟨⟨g,0,none⟩,a1,aO i,?_,?_⟩,fun w' hB=>Blk.Ua hB i ?_⟩⟩
  ·have:=(aP.1 hx).1;omega
  ·rw[gC,aM,tL,bm]
  ·have:(ws.map fun x=>Value.string (T x))[i]? =some (ab (T x)):=by rw[cH,hx];rfl
   rw[Ud,bF (aP.1 this).1,this]
section
variable {w0 w:av} {b:Nat} {l:aB} {st:St}
theorem F4 (b j:Nat):(Addr.add ⟨b,0,none⟩ j:Addr)=⟨b,j,none⟩:=by rw[gC,bm]
theorem Qz.set (h:Qz w0 b w l st):∃(q:Option Addr) (sl:Sl),Blk w b 72 [ae q,sl.v,aj st.1,O U st.2]/\
  ∀(w':av) (ch:St),ay [b] w w'->Blk w' b 72 [ae q,sl.v,aj ch.1,O U ch.2]->(ch.1=false->0<=ch.2/\ch.2<=400)->Qz w0 b w' l ch/\Mw true b w w':=by
 obtain⟨q,sl,hq,hB,hb⟩:=h.ex;refine⟨q,sl,hB,fun w1 I2 bZ pi hi=>⟨⟨⟨bZ.os.trans h.o.os,bZ.tape.trans h.o.tape,bZ.output.trans h.o.output,aX h.o.size bZ.size,fun k hk _=>(bZ.block k (cb hk h.o.size) (by have:=h.lo;simp;omega)).trans (h.o.block k hk (by simp))⟩,h.lo,⟨q,sl,hq,pi,hb.keep fun g hg hl=>bZ.block g hl (by have:=(hb.lt hg).1;simp;omega)⟩,hi,h.big⟩,?_⟩⟩;exact⟨bZ.p fun x hx=>.inl (.inl (by simpa using hx)),fun k hk=>.inl (D8 hB (H3 pi hk))⟩
theorem Qz.V7 (h:Qz w0 b w l st):Up st true 0 st:=by
 refine⟨?_,fun _=>by simp⟩;cases e:st.1
 ·have:=(h.i e).2;have h2:¬400<st.2+((0:Nat):Int):=by omega
  rw[aZ h2];rfl
 ·rfl
theorem H4 {q:Option Addr} {sl:Sl} {wr:Bool} {ac:Int} (hB:Blk w b 72 [ae q,sl.v,aj wr,O U ac]) (ok:Bool):az aq 37 #[rp b,aj ok] w fun e w'=>
  e=ak (ai #[])/\ay [b] w w'/\Blk w' b 72 [ae q,sl.v,aj (wr||!ok),O U ac]:=by
 refine ret (agr _ _ _ _ ?_);unfold aal;exact⟨wr,Blk.dI hB 2 rfl,b,2,_,_,F4 b 2,hB,by simp,fun w1 bZ pi=>⟨rfl,bZ,pi⟩⟩
theorem ju (h:Qz w0 b w l st) (ok:Bool):az aq 37 #[rp b,aj ok] w fun e w'=>e=ak (ai #[])/\∃ch,Up st ok 0 ch/\Qz w0 b w' l ch/\Mw true b w w':=by
 obtain⟨q,sl,hB,EN⟩:=h.set;refine(H4 hB ok).mono ?_;rintro _ w1 ⟨rfl,bZ,pi⟩;have hu:Up st ok 0 (st.1||!ok,st.2):=by
  refine⟨?_,fun e=>by simp⟩;cases e:st.1
  ·have:=(h.i e).2;have h2:¬400<st.2+((0:Nat):Int):=by omega
   rw[aZ h2,Bool.or_false]
  ·simp
 exact⟨rfl,_,hu,EN w1 _ bZ pi fun e=>hu.le (fun e=>(h.i e).1) e⟩
theorem lI (h:Qz w0 b w l st) (s:aB) (hs:s.length<9223372036854775807):az aq 39 #[rp b,ab (T s)] w fun e w'=>e=ak (ab (T s))/\∃ch,Up st (cF s) 0 ch/\Qz w0 b w' l ch/\Mw true b w w':=by
 refine ret (aam _ _ _ _ ?_);unfold Tj;refine(Mr s hs).mono ?_;rintro _ w1 ⟨rfl,bZ⟩;refine⟨_,rfl,(ju (h.only bZ) _).mono ?_⟩;rintro _ w2 ⟨rfl,ch,h1,h2,h3⟩;exact⟨rfl,rfl,ch,h1,h2,(Mw.only h.lb bZ).trans h3⟩
theorem H5 (h:Qz w0 b w l st) {F:Nat->Prop} {x:Ex} {cs:List aw} (hx:rE false w F x cs) (hn:JJ x) (hs:yB x<=1759218604441) (hE:Er w0) (hT:Tb w0):
  az aq 157 #[rp b,ah cs.toArray] w fun e w'=>e=ak (ab (T (rO x)))/\∃ch,Up st (oa x) 0 ch/\Qz w0 b w' l ch/\Mw true b w w':=by
 obtain⟨xs,rfl⟩:=dU hx;refine ret (agA _ _ _ _ _ _ _ _ _ ?_);unfold aaz;intro k0 w1 gN dJ bZ;have t1:=(h.z true).al bZ gN dJ;refine(Q2 ((fO false).keep hx fun k _ bJ=>bZ.block k bJ (by simp)) hn hs (hE.only t1.o) (hT.only t1.o)).mono ?_;rintro _ w2 ⟨rfl,cp⟩;have t2:=t1.q cp;refine⟨_,rfl,t1.sq cp (by simp),(ju t2.toQz _).mono ?_⟩;rintro _ w3 ⟨rfl,ch,h1,h2,h3⟩;rw[show ao #[]=T []from rfl,gV]at h1;have e:(!decide (rO x=[]))=oa x:=by unfold oa;rw[decide_not]
 rw[e]at h1;exact⟨rfl,t2.sm h3 (by simp),rfl,ch,h1,h2,(t2.nx h2 h3).m⟩
theorem H6 (h:Qz w0 b w l st) {F:Nat->Prop} {x:Ex} {cs:List aw} (hx:rE false w F x cs):
  az aq 158 #[rp b,ah cs.toArray] w fun e w'=>e=ak (ai #[])/\∃ch,Up st (lU x) 0 ch/\Qz w0 b w' l ch/\Mw true b w w':=by
 have dN:∃xs:Sl,cs=jy x.k x.n x.s x.op xs x.a/\xs.n=x.cR.length:=by
  obtain⟨d,hx⟩:=hx;cases d with
  | zero=>exact hx.elim
  | succ d=>
   obtain⟨sl,h1,h2,_⟩:=hx;exact⟨sl,h1,h2.len⟩
 obtain⟨xs,rfl,hl⟩:=dN;refine ret (agz _ _ _ _ _ _ _ _ _ ?_);unfold aay;intro k0 w1 gN dJ bZ;have t1:=(h.z true).al bZ gN dJ;refine(ju t1.toQz _).mono ?_;rintro _ w3 ⟨rfl,ch,h1,h2,h3⟩;rw[show ao #[]=T []from rfl,gV,hl]at h1;exact⟨rfl,t1.sm h3 (by simp),rfl,ch,h1,h2,(t1.nx h2 h3).m⟩
theorem H7 (h:Qz w0 b w l st):az aq 42 #[rp b] w fun e w'=>e=ak (aj (decide (16384<l.length)))/\w'=w:=by
 refine ret (aap _ _ _ ?_);unfold Tm;obtain⟨q,sl,hq,hB,hb⟩:=h.ex;refine(Tn _ (fun v w'=>v=O U (l.length:Int)/\w'=w) w ?_).mono ?_
 ·unfold L0;rw[F4];exact⟨sl,Blk.dI hB 1 rfl,by rw[hb.len],rfl⟩
 ·rintro _ w1 ⟨v,rfl,rfl,rfl⟩;refine⟨_,rfl,?_,rfl⟩;congr 1;rw[bq];simp;omega
end
def BP (a:Ac):Nat:=yB a.x+(a.n.length+1)
def gX:List Ac->Nat
 | []=>0
 | a::l=>BP a+gX l
theorem oT {a:Ac}:∀{l:List Ac},a∈l->BP a<=gX l
 | [],h=>by simp at h
 | x::l,h=>by
  rw[gX];rcases aL.1 h with rfl | h
  ·omega
  ·have:=oT h;omega
theorem gq:∀(l:List Ac),l.length<=gX l
 | []=>aQ _
 | a::l=>by
  have:=gq l;rw[gX,aH];unfold BP;omega
def CM (l:List (aB)):Nat:=(l.map fun s=>s.length+1).sum
def D9 (m:Mv):Nat:=(gX m.acts+yB m.g)+(CM m.tg+(m.ev.length+1))
theorem BQ (x:Ex):(rO x).length<=16384:=by
 by_cases h:rO x=[]
 ·rw[h];exact aQ _
 ·obtain⟨h1,h2,h3⟩:=D2 h;refine bf fun hc=>?_;have e:rO x=mJ (yA x) x false []:=h2;rw[<-e]at h3;unfold eV at h3;have:ca (rO x)=([],2, -1):=by rw[ca,if_pos (by omega)]
  rw[this,if_pos (by decide)]at h3;exact absurd h3 (show ¬(2:Int)=0 by decide)
theorem pN {s:aB} (h:cF s=true):ne s=true:=by
 unfold cF at h;simp only[aE]at h;have:=(aG h.1.1.1).1;unfold ne;rw[aZ this];rfl
theorem abT {x:Ex} (h:oa x=true):ne (rO x)=true:=by
 unfold ne;rw[aZ (aG h)];rfl
theorem nR {x:aB} (h:ne x=true) (ws:List (aB)):fk (x::ws)=x++Lib.joinTail [32] (ws.filter ne):=by
 unfold fk;rw[vO,h,if_pos rfl,Lib.join_cons]
theorem eY (x:aB) (r:List (aB)):Lib.joinTail [32] (x::r)=32::(x++Lib.joinTail [32] r):=by
 unfold Lib.joinTail;rw[bg,cE];rfl
theorem lm:Lib.joinTail [32] []=[]:=rfl
theorem eZ {x:aB} (h:ne x=true) (ws:List (aB)):(x::ws).filter ne=x::ws.filter ne:=by rw[vO,h,if_pos rfl]
theorem MF (ws:List (aB)):([]::ws).filter ne=ws.filter ne:=by rw[vO,if_neg (by decide)]
def Pu (a:Ac):List (aB):=if a.k=2 then[ik,a.n]else[if a.k=1 then nA else jz,a.n,[61],rO a.x]
theorem TP {a:Ac} (h:fC a=true):fk (Pu a)++[59]=vV a:=by
 unfold fC at h;simp only[aE]at h;obtain⟨⟨h1,h2⟩,h3⟩:=h;unfold Pu vV;by_cases hk:a.k=2
 ·rw[if_pos hk,if_pos hk,nR (by decide),eZ (pN h2),ei,eY,lm];simp
 ·rw[if_neg hk]at h3;have hw:ne (if a.k=1 then nA else jz)=true:=by split<;>decide
  rw[if_neg hk,if_neg hk,nR hw,eZ (pN h2),eZ (by decide),eZ (abT h3),ei,eY,eY,eY,lm];simp
theorem Q6 (a:Ac):(fk (Pu a)).length<=16398+a.n.length:=by
 refine aX (io _) ?_;have:=BQ a.x;unfold Pu;split
 ·simp only[bg,gu,bQ,gZ];show 5+1+(a.n.length+1+0)<=_;omega
 ·simp only[bg,gu,bQ,gZ];have:(if a.k=1 then nA else jz).length<=4:=by split<;>decide
  show _+1+(a.n.length+1+(1+1+(_+1+0)))<=_;omega
section
variable {w0 w:av} {b:Nat} {l:aB} {st:St}
theorem abU (h:Qz w0 b w l st) {F:Nat->Prop} {a:Ac} {cs:List aw} (hx:ot false w F a cs) (hF:∀k,F k->k<w0.heap.size) (hn:Ai a) (hs:BP a<=1759218604441) (hE:Er w0) (hT:Tb w0):
  az aq 156 #[rp b,ah cs.toArray] w fun e w'=>∃s ch,e=ak (ab (T s))/\s.length<=16400+a.n.length/\(fC a=true->s=vV a)/\Up st (fC a) 0 ch/\Qz w0 b w' l ch/\Mw true b w w':=by
 obtain⟨xc,rfl,hx⟩:=hx;obtain⟨xs,rfl⟩:=dU hx;unfold BP at hs;refine(agy ⟨b,0,none⟩ a.k (T a.n) a.x.k a.x.n (T a.x.s) a.x.op xs a.x.a a.a (fun v w'=>∃s ch,v=ab (T s)/\s.length<=16400+a.n.length/\(fC a=true->s=vV a)/\Up st (fC a) 0 ch/\Qz w0 b w' l ch/\Mw true b w w') w ?_).mono (by
  rintro e w' ⟨v,rfl,s,ch,rfl,h⟩;exact⟨s,ch,rfl,h⟩)
 unfold aax;intro k0 w1 gN dJ bZ;have t1:=(h.z true).al bZ gN dJ;obtain⟨q,w2,g,cs,e1,cp,hg1,hg2,kC,cy⟩:=ME w1 [[],nA,ik,jz] (n:=4) (parts:=#[.mk 0 (ab (ao #[])),.mk 1 (ab (ao #[115,101,116])),.mk 2 (ab (ao #[114,97,105,115,101])),.mk 3 (ab (ao #[101,109,105,116]))]) rfl rfl (by decide) (by decide);have t2:=t1.al cp hg1 hg2;have tail:=Q6 a;refine⟨q,w2,e1,t1.sq cp (by simp),fun hc=>?_,fun hc=>?_⟩
 ·refine(ju t2.toQz false).mono ?_;rintro _ w3 ⟨rfl,ch,u1,u2,u3⟩;have hk:fC a=false:=by
   unfold fC;have:¬(1<=a.k/\a.k<=3):=by
    simp only[bS,bd]at hc;omega
   rw[aZ this];rfl
  exact⟨rfl,t2.sm u3 (by simp),[],ch,rfl,aQ _,fun e=>(by rw[hk]at e;cases e),by rw[hk];exact u1,u2,(t2.nx u2 u3).m⟩
 have Xc:1<=a.k/\a.k<=3:=by
  simp only[dX,ft]at hc;omega
 have hwd:∀x,[[],nA,ik,jz][a.k.toNat]? =some x->ck q a.k 1 ⟨g,a.k.toNat,none⟩/\∀w',Blk w' g 9 cs->Cells w' ⟨g,a.k.toNat,none⟩ [ab (T x)]:=fun x hx=>by
  have:=cy _ x hx;rwa[fM (by omega)]at this
 refine⟨fun Kw=>?_,fun Kw w8 fh=>?_⟩
 ·have hk:a.k=2:=by simpa using Kw
  have hW:Pu a=[ik,a.n]:=by unfold Pu;rw[if_pos hk]
  refine(H6 t2.toQz ((fO false).keep hx fun k hk _=>h.arg t2.toQz (hF k hk))).mono ?_;rintro _ w3 ⟨rfl,Xm,u1,u2,u3⟩;have t3:=t2.nx u2 u3;refine⟨rfl,t2.sm u3 (by simp),fun w4 dm=>⟨fun k=>k∈[k0,g],by simp,?_⟩⟩;have t4:=t3.q dm;obtain⟨y1,y2⟩:=hwd ik (by rw[hk];rfl);have qj:Blk w4 g 9 cs:=(t3.sq (ks':=[g]) dm (by simp) g (by simp)).trans ((t2.sm (ks':=[g]) u3 (by simp) g (by simp)).trans kC);refine⟨_,y1,by simp,_,y2 w4 qj,(lI t4.toQz a.n (by omega)).mono ?_⟩;rintro _ w5 ⟨rfl,RZ,v1,v2,v3⟩;have t5:=t4.nx v2 v3;obtain⟨q6,w6,e6,dG,_,hj⟩:=Ak w5 [ik,a.n] (n:=2) (parts:=#[.mk 0 (ab (T ik)),.mk 1 (ab (T a.n))]) rfl rfl (by decide) (by decide) (by rw[<-hW];omega);have z6:=dG.size;refine⟨_,rfl,t4.sm v3 (by simp),bE.of (t4.sm v3 (by simp)),q6,w6,e6,t5.sq dG (by simp),bE.of (t5.sq dG (by simp)),hj.mono ?_⟩;rintro _ w7 ⟨rfl,Ky⟩;have fz:=qX dG Ky;have t7:=t5.q fz;have hU:=u1.tr v1;have qx:fC a=(lU a.x&&cF a.n):=by
   unfold fC;rw[if_pos hk,bh Xc,bK,Bool.and_comm]
  rw[<-qx]at hU;rw[<-hW];refine⟨_,rfl,t5.sj z6 Ky (by simp),bE.of (t5.sj z6 Ky (by simp)),by rw[bI];omega,fk (Pu a)++[59],RZ,by rw[show ao #[59]=T [59]from rfl,dH],by rw[aD,aW];omega,fun qx=>TP qx,hU,t7.toQz,t7.m⟩
 ·have hk:a.k≠2:=by simpa using Kw
  have hW:Pu a=[if a.k=1 then nA else jz,a.n,[61],rO a.x]:=by unfold Pu;rw[if_neg hk]
  have t8:=t2.q fh;obtain⟨y1,y2⟩:=hwd (if a.k=1 then nA else jz) (by
   by_cases h1:a.k=1
   ·rw[if_pos h1,h1];rfl
   ·rw[if_neg h1,show a.k=3 by omega];rfl)
  have wm:Blk w8 g 9 cs:=(t2.sq (ks':=[g]) fh (by simp) g (by simp)).trans kC;refine⟨fun k=>k∈[k0,g],by simp,_,y1,by simp,_,y2 w8 wm,by simp,(lI t8.toQz a.n (by omega)).mono ?_⟩;rintro _ w9 ⟨rfl,Xn,u1,u2,u3⟩;have t9:=t8.nx u2 u3;refine⟨_,rfl,t8.sm u3 (by simp),bE.of (t8.sm u3 (by simp)),(H5 t9.toQz ((fO false).keep hx fun k hk _=>h.arg t9.toQz (hF k hk)) hn (by omega) hE hT).mono ?_⟩;rintro _ cK ⟨rfl,ajR,v1,v2,v3⟩;have t10:=t9.nx v2 v3;obtain⟨Wq,cY,Ko,dP,_,hj⟩:=Ak cK [if a.k=1 then nA else jz,a.n,[61],rO a.x] (n:=4) (parts:=#[.mk 0 (ab (T (if a.k=1 then nA else jz))),.mk 1 (ab (T a.n)),.mk 2 (ab (T [61])),.mk 3 (ab (T (rO a.x)))]) rfl rfl (by decide) (by decide) (by rw[<-hW];omega);have E1:=dP.size;refine⟨_,rfl,t9.sm v3 (by simp),bE.of (t9.sm v3 (by simp)),Wq,cY,Ko,t10.sq dP (by simp),bE.of (t10.sq dP (by simp)),hj.mono ?_⟩;rintro _ dz ⟨rfl,OY⟩;have ey:=qX dP OY;have t12:=t10.q ey;have hU:=u1.tr v1;have qx:fC a=(cF a.n&&oa a.x):=by
   unfold fC;rw[if_neg hk,bh Xc,bK]
  rw[<-qx]at hU;rw[<-hW];refine⟨_,rfl,t10.sj E1 OY (by simp),bE.of (t10.sj E1 OY (by simp)),by rw[bI];omega,fk (Pu a)++[59],ajR,by rw[show ao #[59]=T [59]from rfl,dH],by rw[aD,aW];omega,fun qx=>TP qx,hU,t12.toQz,t12.m⟩
end
theorem Up.bad {st ch:St} {c c':Bool} {n n':Nat} (h:Up st c n ch) (e:ch.1=true) (hc:c'=true->c=true) (hn:n<=n'):Up st c' n' ch:=by
 refine⟨?_,fun e2=>by rw[e]at e2;cases e2⟩;rw[e];refine Eq.symm (bf fun hk=>?_);obtain⟨a1,a2,a3⟩:=or3 (fH.2 hk).symm;have a3:=aI a3;have:=h.w;rw[e,a1,hc a2,aZ (show ¬400<st.2+(n:Int) by omega)]at this;cases this
theorem uo:∀(l m:List Ac),gX (l++m)=gX l+gX m
 | [],m=>by rw[cd];show _=0+_;omega
 | a::l,m=>by rw[cn,gX,gX,uo l m];omega
theorem VA (a:Ac):ne (vV a)=true:=by
 have:vV a≠[]:=by unfold vV;split<;>simp
 unfold ne;rw[aZ this];rfl
theorem MG:∀l:List Ac,Lib.joinTail [32] ((l.map vV).filter ne)=uj l
 | []=>rfl
 | a::l=>by rw[bg,eZ (VA a),eY,MG l,uj]
theorem VB (x y:List (aB)):Lib.joinTail [32] (x++y)=Lib.joinTail [32] x++Lib.joinTail [32] y:=by
 unfold Lib.joinTail;rw[di,CI]
theorem abV (l:List Ac):fk ([123]::(l.map vV++[[125]]))=sP l:=by
 rw[nR (by decide),mF,VB,MG];rfl
theorem TQ {w:av} {B:Nat} {s:Sl} {ws:List (aB)} (h:Own iW 1 9 B w (fun _=>True) s ws) (x:aB) (hB:B<=w.heap.size) (hm:ws.length<=1073741824):
  ∃y w1,(au 52 1 #[.mk 0 (ab (T x))]).run aq w=.ok (Sl.v y) w1/\ay [] w w1/\∃s' w2,(Builtin.append_ #[52,52] 52 #[Sl.v s,Sl.v y]).run aq w1=.ok (Sl.v s') w2/\
   Own iW 1 9 B w2 (fun _=>True) s' (ws++[x])/\∃gs,ay gs w1 w2/\∀g,g∈gs->s.a=some ⟨g,0,none⟩/\B<=g:=by
 obtain⟨y,w1,e1,bZ,s',w2,e2,me,⟨gs,cp,sZ⟩,_⟩:=pv (P:=aq) (t:=52) (ty:=52) (e:=9) (i:=Tryz.t9) (bytes:=16) (size:=1) (v:=ab (T x)) (x:=x) (G:=fun _=>False) (by kernel_rfl) (by kernel_rfl) rfl rfl rfl rfl (by decide) (by decide) (by decide) cG h hB rfl rfl (fun k hk _=>hk.elim) (by omega);exact⟨y,w1,e1,bZ,s',w2,e2,me.mono cG fun k _=>trivial,gs,cp,fun g hg=>⟨(sZ g hg).1,(sZ g hg).2.1⟩⟩
theorem _root_.Go.Kt.Own.NW {w w':av} {B b:Nat} {s:Sl} {ws:List (aB)} (h:Own iW 1 9 B w (fun _=>True) s ws) (hO:ay [b] w w') (hb:b<B):Own iW 1 9 B w' (fun _=>True) s ws:=by
 rcases h with⟨rfl,rfl⟩ | ⟨g,css,tail,h1,h2,h4,h5,h6,h7,h9,h8⟩
 ·exact .inl ⟨rfl,rfl⟩
 ·have e:∀{l:List (aB)} {css:List (List aw)},ny iW 1 w (fun k=>True/\k≠g) l css->ny iW 1 w' (fun k=>True/\k≠g) l css:=fun{l}=>by
   induction l with
   | nil=>intro css h;cases css with | nil=>trivial | cons _ _=>exact h
   | cons x l ih=>intro css h;cases css with | nil=>exact h | cons c css=>exact⟨h.1,ih h.2⟩
  exact .inr ⟨g,css,tail,h1,h2,hO.blk h4 (by simp;omega),h5,h6,h7,h9,e h8⟩
theorem MH {α:Type} {p:α->Bool} {xs:List α} {j:Nat} (h:xs.all p=true):(xs.take j).all p=true:=by
 rw[dB]at h⊢;exact fun x hx=>h x (List.mem_of_mem_take hx)
theorem Ea (ws:List (aB)) (x:aB):((ws++[x]).map fun l=>l.length+1).sum=(ws.map fun l=>l.length+1).sum+(x.length+1):=by
 rw[di,Pf];simp
section
variable {w0 w:av} {b:Nat} {l:aB} {st:St}
theorem BR (h:Qz w0 b w l st) {F:Nat->Prop} {s:Sl} {xs:List Ac} (hx:SliceF (ot false) 9 w F s xs) (hF:∀k,F k->k<w0.heap.size) (hn:∀a,a∈xs->Ai a) (hs:gX xs<=16777216) (hE:Er w0) (hT:Tb w0):
  az aq 88 #[rp b,s.v] w fun e w'=>∃t ch,e=ak (ab (T t))/\t.length<=16405*gX xs/\(ch.1=false->t=if xs=[]then[]else sP xs)/\Up st (xs.all fC) xs.length ch/\Qz w0 b w' l ch/\Mw true b w w':=by
 refine(agx ⟨b,0,none⟩ s (fun v w'=>∃t ch,v=ab (T t)/\t.length<=16405*gX xs/\(ch.1=false->t=if xs=[]then[]else sP xs)/\Up st (xs.all fC) xs.length ch/\Qz w0 b w' l ch/\Mw true b w w') w ?_).mono (by
  rintro e w' ⟨v,rfl,s,ch,rfl,h⟩;exact⟨s,ch,rfl,h⟩)
 unfold aaw;have dN:=hx.len;have hlz:=gq xs;refine⟨fun hc=>?_,fun hc=>?_⟩
 ·have hc:s.n=0:=by have:((s.n:Int))=0:=(by simpa using hc);omega
  have:xs=[]:=bc (by omega);subst this;exact⟨[],st,rfl,aQ _,fun _=>(if_pos rfl).symm,h.V7,h,Mw.refl _ _ _⟩
 have gf:xs≠[]:=fun e=>by
  subst e;have:s.n=0:=dN;rw[this]at hc;exact absurd hc (by decide)
 obtain⟨q,sl,hB,EN⟩:=h.set;refine⟨st.2,Blk.dI hB 3 rfl,b,3,_,_,F4 b 3,hB,by simp,fun w1 bZ pi=>⟨_,Blk.dI pi 3 rfl,(H4 (q:=q) (sl:=sl) (wr:=st.1) (ac:=ar U (st.2+(s.n:Int))) pi _).mono ?_⟩⟩;rintro _ w2 ⟨rfl,cp,kC⟩;have hU1:Up st true xs.length (st.1||!decide (ar U (st.2+(s.n:Int))<=400),ar U (st.2+(s.n:Int))):=by
  cases e:st.1
  ·have:=h.i e;have ew:ar U (st.2+(s.n:Int))=st.2+xs.length:=by rw[dN];exact fy (by omega) (by omega)
   rw[ew];refine⟨?_,fun _=>rfl⟩;rw[e];by_cases h4:st.2+(xs.length:Int)<=400
   ·rw[bh h4,aZ (by omega)];rfl
   ·rw[aZ h4,bh (by omega)];rfl
  ·exact⟨by rw[e];rfl,fun e2=>by cases e2⟩
 obtain⟨h2,sX⟩:=EN w2 _ (bZ.trans cp fun x hx=>.inl hx) kC fun e=>hU1.le (fun e=>(h.i e).1) e;generalize (st.1||!decide (ar U (st.2+(s.n:Int))<=400),ar U (st.2+(s.n:Int)))=I2 at*
 have b2:=h2.lb;have Wh:∀k,Bu w2 b k->k<w2.heap.size:=fun k hk=>(h2.bu hk).2;obtain⟨q3,w3,e3,cO,ajS,_⟩:=Ak w2 [[123]] (n:=1) (parts:=#[.mk 0 (ab (T [123]))]) rfl rfl (by decide) (by decide) (by decide);have t3:=(h2.z true).q cO;refine⟨rfl,q3,w3,e3,fun l1 w'=>∃ws ch,Own iW 1 9 w2.heap.size w' (fun _=>True) l1 ws/\ws.length<=16777217/\(ws.map fun l=>l.length+1).sum<=2+16401*gX xs/\(ch.1=false->ws=[123]::xs.map vV)/\Up I2 (xs.all fC) 0 ch/\Zq true w0 w2 b w' l ch [],?_,?_⟩
 ·rintro l1 w4 ⟨ws,GZ,Xo,Yi,hws,Uq,hU4,t4⟩;have z4:=t4.m.o.size;obtain⟨y,w5,e5,dS,s6,w6,e6,ajT,gs,dG,sZ⟩:=TQ Xo [125] z4 (by omega);refine⟨y,w5,e5,s6,w6,e6,?_⟩;have t6:=(t4.q dS).row b2 Wh (dG.p (F:=fun k=>w2.heap.size<=k) fun x hx=>.inl (sZ x hx).2);have Kz:=Ea ws [125];have xq:=io (ws++[[125]]);have hl1:([125]:aB).length=1:=rfl;refine(yE ajT (by omega) (by rw[aD,aW];omega)).mono ?_;rintro _ w7 ⟨rfl,Ky⟩;have t7:=t6.row b2 Wh Ky;have hsz:1<=gX xs:=by
   have:1<=xs.length:=CJ.2 gf;omega
  refine⟨_,rfl,fk (ws++[[125]]),GZ,rfl,by omega,fun e=>?_,(hU1.tr hU4).cg (by simp) (by simp),t7.toQz,sX.trans t7.m⟩;rw[if_neg gf,Uq e];exact abV xs
 refine⟨fun nv l1 i w'=>∃(j:Nat) (ws:List (aB)) (ch:St),i=j/\j<=xs.length/\nv=xs.length-j/\Own iW 1 9 w2.heap.size w' (fun _=>True) l1 ws/\ws.length<=j+1/\(ws.map fun l=>l.length+1).sum<=2+16401*gX (xs.take j)/\(ch.1=false->ws=[123]::(xs.take j).map vV)/\Up I2 ((xs.take j).all fC) 0 ch/\Zq true w0 w2 b w' l ch [],
  xs.length,⟨0,[[123]],I2,rfl,aQ _,rfl,ajS,aK _,aK _,fun _=>rfl,h2.V7,t3⟩,?_⟩
 rintro nv l4 _ w7 ⟨j,ws,Ur,rfl,hj,rfl,R0,Yi,hws,Uq,Jc,t7⟩;have z7:=t7.m.o.size;have acL:gX xs=gX (xs.take j)+gX (xs.drop j):=by rw[<-uo,eE]
 refine⟨fun hc=>?_,fun hc=>?_⟩
 ·have bJ:(j:Int)<s.n:=aG hc;have hx7:SliceF (ot false) 9 w7 F s xs:=SliceF.keep (ci false) hx (by decide) fun k hk _=>h.arg t7.toQz (hF k hk);obtain⟨ad,a,cs,g1,g2,g3,g4,g5,g6⟩:=hx7.get (aO j) bJ;rw[aM]at g2;have ha:=be g2;have od:xs.take (j+1)=xs.take j++[a]:=by
   rw[bn,g2];rfl
  have hsa:gX (xs.take (j+1))=gX (xs.take j)+BP a:=by
   rw[od,uo];show _+(BP a+0)=_;omega
  have amQ:gX xs=gX (xs.take (j+1))+gX (xs.drop (j+1)):=by rw[<-uo,eE]
  obtain⟨xc,rfl,hxc⟩:=g6;obtain⟨xl,rfl⟩:=dU hxc;refine⟨ad,g1,_,_,_,_,_,_,_,_,_,g5,fun k5 w8 ol GX fh=>?_⟩;have t8:=t7.al fh ol GX;obtain⟨q8,sl8,wm,_⟩:=t8.toQz.set;refine⟨Ur.1,Blk.dI wm 2 rfl,fun hw=>?_,fun hw=>?_⟩
  ·have t8':Zq true w0 w2 b w8 l Ur []:=⟨t8.toQz,t8.m,fun k hk=>(by cases hk)⟩
   have GY:=R0.keep cG fun k hk bJ=>fh.block k bJ (by simp);exact⟨ws,Ur,GY,by omega,by omega,fun e=>absurd (hw.symm.trans e) (by decide),Jc.bad hw MH (aK _),t8'⟩
  refine(abU t8.toQz ((ci false).keep ⟨_,rfl,hxc⟩ fun k _ bJ=>fh.block k bJ (by simp)) hF (hn a ha) (by have:=oT ha;omega) hE hT).mono ?_;rintro _ w9 ⟨tx,Xn,rfl,hl9,ajV,Us,h9,Yx⟩;have t9:=t8.nx h9 Yx;have ajW:∀g,l4.a=some ⟨g,0,none⟩->w2.heap.size<=g/\g<w7.heap.size:=fun g hg=>by
   rcases R0 with⟨rfl,_⟩ | ⟨g',css,tl,a1,a2,a4,_⟩
   ·cases hg
   ·rw[a1]at hg;injection hg with hg;injection hg with hg;subst hg;exact⟨a2,a4.lt⟩
  have ajX:Own iW 1 9 w2.heap.size w9 (fun _=>True) l4 ws:=by
   have o1:=R0.keep cG (w':=w8) fun k hk bJ=>fh.block k bJ (by simp);refine(o1.mono (G:=fun _=>True) cG fun _ _=>trivial).NW Yx.only1 b2
  obtain⟨y,cK,Cs,dy,CP,cY,Ko,OW,gs,dP,sZ⟩:=TQ ajX tx (aX z7 (aX fh.size Yx.o.size)) (by omega);have t10:=t9.q dy;have t11:=t10.row b2 Wh (dP.p (F:=fun k=>w2.heap.size<=k) fun x hx=>.inl (sZ x hx).2);have CP:aR [k5] cK cY:=dP.same fun x hx=>by
   have:=(t10.k x (by simpa using hx)).1;refine⟨this,fun hm=>?_⟩;have:=(ajW x (sZ x hm).1).2;simp only[aF]at hx;omega
  have Kz:=Ea ws tx;refine⟨_,rfl,t8.sm Yx (by simp),y,cK,Cs,t9.sq dy (by simp),_,cY,Ko,CP,xs.length-(j+1),by omega,j+1,ws++[tx],Xn,by rw[fy (by omega) (by omega)];rfl,by omega,rfl,OW,by rw[aD,aW];omega,?_,fun e=>?_,(Jc.tr Us).cg ?_ rfl,⟨t11.toQz,t11.m,fun k hk=>(by cases hk)⟩⟩
  ·rw[Kz,hsa];have:16400+a.n.length+1<=16401*BP a:=by unfold BP;omega
   omega
  ·obtain⟨e1,e2,_⟩:=Us.ok e;rw[Uq e1,ajV e2,od,di];rfl
  ·rw[od,iU];simp
 ·have kO:¬(j:Int)<s.n:=aI hc;have rB:j=xs.length:=by omega
  subst rB;rw[bB (aK _)]at hws Uq Jc;exact⟨ws,Ur,R0,by omega,hws,Uq,Jc,t7⟩
end
theorem ahF {w:av} {F:Nat->Prop} {s:Sl} {xs:List (aB)} (h:SliceF iW 1 w F s xs) (sep:aB) (hl:(Lib.join xs sep).length<=140737488355328) (hn:xs.length<=140737488355328):
  az aq 149 #[s.v,ab (T sep)] w fun e w'=>e=ak (ab (T (Lib.join xs sep)))/\ay [] w w':=by
 have dN:=h.len;have mD:=h.cap;obtain⟨sa,sn,sc⟩:=s;dsimp only at dN mD;subst dN;cases xs with
 | nil=>
  refine(Tryz.strings_Join_none sa sc (T sep) w).mono ?_;rintro _ w2 ⟨rfl,rfl⟩;exact⟨rfl,Only.refl _ _⟩
 | cons x xs=>
  obtain⟨base,cs,g1,g2,g3,g4,g5⟩:=h.at_ 0 x rfl;have g1:sa=some base:=g1;unfold iW at g5;subst g5 g1;have h0:=g4 0 _ rfl;have Xp:base.spot=none:=by
   unfold World.cell? at h0;split at h0
   ·split at h0
    ·cases h0
    ·rename_i hs;have e:((base.add (0*1)).add 0).spot=base.spot:=rfl;rw[e]at hs;cases hb:base.spot with
     | none=>rfl
     | some v=>rw[hb]at hs;simp at hs
   ·cases h0
  obtain⟨bk,o,sp⟩:=base;dsimp only at Xp;subst Xp;have bJ:bk<w.heap.size:=by
   have e:((Addr.add ⟨bk,o,none⟩ (0*1)).add 0:Addr)=⟨bk,o,none⟩:=by simp[Addr.add]
   rw[e]at h0;refine bf fun hn=>?_;unfold World.cell? at h0;rw[eL (by dsimp only;omega)]at h0;cases h0
  have:=Tryz.strings_Join bk o sc ((x::xs).map T) (T sep) w (fun j y hj=>by
   rw[cH,eM]at hj;obtain⟨z,hz,rfl⟩:=hj;obtain⟨base,cs,g1,g2,g3,g4,g5⟩:=h.at_ j z hz;unfold iW at g5;subst g5;cases g1;have:=g4 0 _ rfl;have e:((Addr.add ⟨bk,o,none⟩ (j*1)).add 0:Addr)=⟨bk,o+j,none⟩:=by simp[Addr.add]
   rw[e]at this;exact this) bJ (by rw[bL];omega) (by rw[bL];omega) (by
   rw[gY];have:((fun x:asw=>x.data.toList)∘T)=id:=rfl;rw[this,KH];exact hl)
  rw[bL]at this;refine this.mono ?_;rintro _ w2 ⟨rfl,hB⟩;refine⟨?_,Only.below hB⟩;rw[gY];have:((fun x:asw=>x.data.toList)∘T)=id:=rfl;rw[this,KH]
theorem H8:∀l:List (aB),Lib.joinTail [44,32] l=Ah l
 | []=>rfl
 | s::l=>by
  unfold Lib.joinTail;rw[bg,cE];show[44,32]++s++Lib.joinTail [44,32] l=_;rw[H8 l];rfl
theorem H9 (s:aB) (l:List (aB)):(Lib.join (s::l) [44,32]).length<=2*CM (s::l):=by
 have h1:∀l:List (aB),(Ah l).length<=2*CM l:=fun l=>by
  induction l with
  | nil=>exact aQ _
  | cons s l ih=>
   unfold CM at ih⊢;rw[bg,bQ,Ah,aH,aH,aD];omega
 rw[Lib.join_cons,H8,aD];have:=h1 l;have e:CM (s::l)=(s.length+1)+CM l:=by unfold CM;rw[bg,bQ]
 omega
theorem BS (l:List (aB)):l.length<=CM l:=by
 unfold CM
 induction l with
 | nil=>exact aQ _
 | cons s l ih=>rw[bg,bQ,aH];omega
theorem BT {s:aB} {l:List (aB)} (h:s∈l):s.length+1<=CM l:=by
 unfold CM
 induction l with
 | nil=>simp at h
 | cons x l ih=>
  rw[bg,bQ];rcases aL.1 h with rfl | h
  ·omega
  ·have:=ih h;omega
def TR (m:Mv):aB:=if m.k=1 then fk [wx,m.ev]else if m.k=3 then fk [fU,Lib.itoa m.wt]else fA
def VC (m:Mv):aB:=if m.gd then 91::(rO m.g++[93])else[]
def KL (m:Mv):aB:=match m.tg with
 | []=>[]
 | s::l=>45::62::32::(s++Ah l)
theorem Eb {n:Int} (h:vR n):(Lib.itoa n).length<=21:=Lib.itoa_length_le n h.1 h.2
theorem Q7 (n:Int):ne (Lib.itoa n)=true:=by
 have:Lib.itoa n≠[]:=by
  unfold Lib.itoa;split
  ·simp
  ·rw[Lib.decDigits];split<;>simp
 unfold ne;rw[aZ this];rfl
theorem MJ {m:Mv} (h:jA m=true):fk [TR m,VC m,(if m.acts=[]then[]else sP m.acts),KL m]++[59]=yD m:=by
 unfold jA at h;simp only[aE]at h;obtain⟨⟨⟨⟨⟨h1,h2⟩,h3⟩,h4⟩,h5⟩,h6⟩:=h;have hh:TR m=Po m/\ne (TR m)=true:=by
  unfold TR Po;by_cases k1:m.k=1
  ·rw[if_pos k1]at h2;rw[if_pos k1,if_pos k1,nR (by decide),eZ (pN h2),ei,eY,lm,br];exact⟨rfl,rfl⟩
  ·rw[if_neg k1,if_neg k1];by_cases k3:m.k=3
   ·rw[if_pos k3,if_pos k3,nR (by decide),eZ (Q7 _),ei,eY,lm,br];exact⟨rfl,rfl⟩
   ·rw[if_neg k3,if_neg k3];exact⟨rfl,by decide⟩
 rw[nR hh.2,hh.1];unfold yD;rw[aV];congr 1;have e1:Lib.joinTail [32] ([VC m,(if m.acts=[]then[]else sP m.acts),KL m].filter ne)=JK m++((if m.acts=[]then[]else 32::sP m.acts)++(match m.tg with
  | []=>[]
  | s::l=>32::45::62::32::(s++Ah l))):=by
  have eg:∀ws:List (aB),Lib.joinTail [32] ((VC m::ws).filter ne)=JK m++Lib.joinTail [32] (ws.filter ne):=fun ws=>by
   unfold VC JK;cases m.gd
   ·simp only[fm,iy];rw[MF];rfl
   ·simp only[if_true];rw[eZ (by rfl),eY];rfl
  have ea:∀ws:List (aB),Lib.joinTail [32] (((if m.acts=[]then[]else sP m.acts)::ws).filter ne)=(if m.acts=[]then[]else 32::sP m.acts)++Lib.joinTail [32] (ws.filter ne):=fun ws=>by
   by_cases ha:m.acts=[]
   ·rw[if_pos ha,if_pos ha,MF];rfl
   ·rw[if_neg ha,if_neg ha,eZ (by rfl),eY];rfl
  rw[eg,ea];congr 2;unfold KL;cases m.tg with
  | nil=>rfl
  | cons s l=>
   rw[eZ (by rfl),eY,ei,lm,br]
 rw[e1];simp only[aV]
 all_goals rfl
theorem mvB (m:Mv):((((if m.k=1 then cF m.ev else if m.k=3 then decide (0<=m.wt)else decide (m.k=2))&&((decide (m.ev=[])||(m.k==1))&&((m.wt==0)||(m.k==3))))&&(if m.gd then oa m.g else lU m.g))&&(m.tg.all cF&&m.acts.all fC))=jA m:=by
 unfold jA;generalize (if m.gd then oa m.g else lU m.g)=A;generalize m.tg.all cF=B;generalize m.acts.all fC=C;generalize cF m.ev=D;by_cases k1:m.k=1
 ·rw[if_pos k1,if_pos k1,k1];cases D<;>cases A<;>cases B<;>cases C<;>by_cases hw:m.wt=0<;>simp[hw]
 ·rw[if_neg k1,if_neg k1];by_cases k3:m.k=3
  ·rw[if_pos k3,k3];cases A<;>cases B<;>cases C<;>by_cases he:m.ev=[]<;>by_cases hw:m.wt=0<;>by_cases hp:0<m.wt<;>simp[hw,he,hp]<;>omega
  ·rw[if_neg k3];by_cases k2:m.k=2
   ·rw[k2];cases A<;>cases B<;>cases C<;>by_cases he:m.ev=[]<;>by_cases hw:m.wt=0<;>simp[hw,he]
   ·have:¬(1<=m.k/\m.k<=3):=by omega
    rw[aZ this,aZ k2];simp
section
variable {w0 w:av} {b:Nat} {l:aB} {st:St}
theorem VD (h:Qz w0 b w l st) {F:Nat->Prop} {m:Mv} {cs:List aw} (hx:wV false w F m cs) (hF:∀k,F k->k<w0.heap.size) (hn:KW m) (hs:D9 m<=16777216) (hE:Er w0) (hT:Tb w0):
  az aq 89 #[rp b,ah cs.toArray] w fun e w'=>∃t ch,e=ak (ab (T t))/\t.length<=16450*D9 m/\(ch.1=false->t=yD m)/\Up st (jA m) m.acts.length ch/\Qz w0 b w' l ch/\Mw true b w w':=by
 obtain⟨gc,pW,tg,rfl,hg,E5,za⟩:=hx;obtain⟨gl,rfl⟩:=dU hg;have E5:=E5.1;have za:=za.1;have hsz:=hs;unfold D9 at hsz;refine(agF ⟨b,0,none⟩ m.k (T m.ev) m.wt m.gd m.g.k m.g.n (T m.g.s) m.g.op gl m.g.a pW tg m.a (fun v w'=>∃t ch,v=ab (T t)/\t.length<=16450*D9 m/\(ch.1=false->t=yD m)/\Up st (jA m) m.acts.length ch/\Qz w0 b w' l ch/\Mw true b w w') w ?_).mono (by
  rintro e w' ⟨v,rfl,s,ch,rfl,h⟩;exact⟨s,ch,rfl,h⟩)
 unfold aaH;intro k0 w1 gN dJ bZ;have t1:=(h.z true).al bZ gN dJ;have KO:=za.len;have htn:=BS m.tg;refine⟨fun s0 w'=>∃hd ch,s0=T hd/\hd.length<=30+m.ev.length/\(ch.1=false->hd=TR m)/\Up st (if m.k=1 then cF m.ev else if m.k=3 then decide (0<=m.wt)else decide (m.k=2)) 0 ch/\Zq true w0 w b w' l ch [k0],?_,fun hc=>?_,fun hc=>⟨fun R4=>?_,fun R4=>?_⟩⟩
 ·rintro _ w2 ⟨hd,wk,rfl,uR,hdt,Yy,t2⟩;refine(ju t2.toQz _).mono ?_;rintro _ w3 ⟨rfl,Xm,u1,u2,u3⟩;have t3:=t2.nx u2 u3;have hU3:=Yy.tr u1;rw[show ao #[]=T []from rfl,gV]at hU3;refine⟨rfl,t2.sm u3 (by simp),fun s1 w'=>∃gt ch,s1=T gt/\gt.length<=16386/\(ch.1=false->gt=VC m)/\Up Xm (if m.gd then oa m.g else lU m.g) 0 ch/\Zq true w0 w b w' l ch [k0],?_,fun PW=>?_,fun PW=>?_⟩
  ·rintro _ w4 ⟨gt,GZ,rfl,gtl,gtt,hU4,t4⟩;refine⟨fun nv i w'=>∃(j:Nat) (ch:St),i=j/\j<=m.tg.length/\nv=m.tg.length-j/\Up GZ ((m.tg.take j).all cF) 0 ch/\Zq true w0 w b w' l ch [k0],m.tg.length,⟨0,GZ,rfl,aQ _,rfl,t4.toQz.V7,t4⟩,?_⟩;rintro nv _ w5 ⟨j,RZ,rfl,hj,rfl,Xq,t5⟩;have aep:SliceF iW 1 w5 F tg m.tg:=SliceF.keep cG za (by decide) fun k hk _=>h.arg t5.toQz (hF k hk);refine⟨fun hc=>?_,fun hc=>?_⟩
   ·have bJ:(j:Int)<tg.n:=aG hc;obtain⟨ad,x,cs,g1,g2,g3,g4,g5,g6⟩:=aep.get (aO j) bJ;rw[aM]at g2;unfold iW at g6;subst g6;have hxm:=BT (be g2);refine⟨ad,g1,_,g5,(lI t5.toQz x (by omega)).mono ?_⟩;rintro _ w6 ⟨rfl,st6,v1,v2,v3⟩;refine⟨_,rfl,t5.sm v3 (by simp),m.tg.length-(j+1),by omega,j+1,st6,by rw[fy (by omega) (by omega)];rfl,by omega,rfl,(Xq.tr v1).cg ?_ rfl,t5.nx v2 v3⟩;rw[bn,g2,iU];simp
   ·have kO:¬(j:Int)<tg.n:=aI hc;have rB:j=m.tg.length:=by omega
    subst rB;rw[bB (aK _)]at Xq;refine⟨fun s4 w'=>s4=T (KL m)/\Zq true w0 w b w' l RZ [k0],?_,fun hc=>?_,fun hc=>?_⟩
    ·rintro _ w7 ⟨rfl,t7⟩;refine(BR t7.toQz (SliceF.keep (ci false) E5 (by decide) fun k hk _=>h.arg t7.toQz (hF k hk)) hF hn.a (by omega) hE hT).mono ?_;rintro _ w8 ⟨bt,Xr,rfl,btl,btt,hU8,v2,v3⟩;have t8:=t7.nx v2 v3;have apI:(KL m).length<=3+2*CM m.tg:=by
      unfold KL;cases hm:m.tg with
      | nil=>exact aQ _
      | cons s l=>
       have:=H9 s l;rw[Lib.join_cons,H8]at this;rw[aH,aH,aH];omega
     have xq:=io [hd,gt,bt,KL m];simp only[bg,gu,bQ,gZ]at xq;have I0:D9 m=(gX m.acts+yB m.g)+(CM m.tg+(m.ev.length+1)):=rfl;obtain⟨q9,w9,e9,fK,_,hj9⟩:=Ak w8 [hd,gt,bt,KL m] (n:=4) (parts:=#[.mk 0 (ab (T hd)),.mk 1 (ab (T gt)),.mk 2 (ab (T bt)),.mk 3 (ab (T (KL m)))]) rfl rfl (by decide) (by decide) (by omega);have z9:=fK.size;refine⟨_,rfl,t7.sm v3 (by simp),q9,w9,e9,t8.sq fK (by simp),hj9.mono ?_⟩;rintro _ cK ⟨rfl,aes⟩;have t10:=t8.q (qX fK aes);have hU:=(hU3.tr hU4).tr (Xq.tr hU8);refine⟨_,rfl,t8.sj z9 aes (by simp),by rw[bI];omega,fk [hd,gt,bt,KL m]++[59],Xr,by rw[show ao #[59]=T [59]from rfl,dH],by rw[aD,aW];omega,fun e=>?_,hU.cg ?_ (by omega),t10.toQz,t10.m⟩
     ·obtain⟨x5,x8,_⟩:=hU8.ok e;obtain⟨x4,x5',_⟩:=Xq.ok x5;obtain⟨x3,x4',_⟩:=hU4.ok x4;obtain⟨x2,x3',_⟩:=u1.ok x3;obtain⟨x1,x2',_⟩:=Yy.ok x2;rw[hdt x2,gtt x4,btt e];refine MJ ?_;obtain⟨_,y,_⟩:=hU.ok e;exact(mvB m).symm.trans y
     ·exact mvB m
    ·have RO:m.tg≠[]:=fun e=>by
      rw[e]at KO;have:tg.n=0:=KO;rw[this]at hc;exact absurd hc (by decide)
     have xq:(Lib.join m.tg [44,32]).length<=2*CM m.tg:=by
      cases hm:m.tg with
      | nil=>exact absurd hm RO
      | cons s l=>exact H9 s l
     refine(ahF aep [44,32] (by omega) (by omega)).mono ?_;rintro _ w7 ⟨rfl,fz⟩;refine⟨_,rfl,t5.sq fz (by simp),by rw[bI];omega,?_,t5.q fz⟩;rw[show ao #[45,62,32]=T [45,62,32]from rfl,dH];congr 1;unfold KL;cases hm:m.tg with
     | nil=>exact absurd hm RO
     | cons s l=>
      rw[Lib.join_cons,H8];rfl
    ·have hz:m.tg=[]:=bc (by have:=aI hc;omega);refine⟨?_,t5⟩;unfold KL;rw[hz]
  ·refine(H5 t3.toQz ((fO false).keep hg fun k hk _=>h.arg t3.toQz (hF k hk)) hn.g (by omega) hE hT).mono ?_;rintro _ w4 ⟨rfl,GZ,v1,v2,v3⟩;have t4:=t3.nx v2 v3;have:=BQ m.g;refine⟨_,rfl,t3.sm v3 (by simp),by rw[bI];omega,?_,91::(rO m.g++[93]),GZ,?_,by simp;omega,fun _=>by unfold VC;rw[if_pos PW],by rw[if_pos PW];exact v1,t4⟩
   ·rw[show ao #[91]=T [91]from rfl,dH,bI,aD,aW];omega
   ·rw[show ao #[91]=T [91]from rfl,show ao #[93]=T [93]from rfl,dH,dH];rfl
  ·refine(H6 t3.toQz ((fO false).keep hg fun k hk _=>h.arg t3.toQz (hF k hk))).mono ?_;rintro _ w4 ⟨rfl,GZ,v1,v2,v3⟩;exact⟨rfl,t3.sm v3 (by simp),[],GZ,rfl,aQ _,fun _=>by unfold VC;rw[if_neg (by rw[PW];decide)],by rw[if_neg (by rw[PW];decide)];exact v1,t3.nx v2 v3⟩
 ·have hk:m.k=1:=by simpa using hc
  refine(lI t1.toQz m.ev (by omega)).mono ?_;rintro _ w2 ⟨rfl,wk,v1,v2,v3⟩;have t2:=t1.nx v2 v3;have xq:=io [wx,m.ev];simp only[bg,gu,bQ,gZ]at xq;have hw:wx.length=2:=rfl;obtain⟨q3,w3,e3,cO,_,PD⟩:=Ak w2 [wx,m.ev] (n:=2) (parts:=#[.mk 0 (ab (T wx)),.mk 1 (ab (T m.ev))]) rfl rfl (by decide) (by decide) (by omega);have z3:=cO.size;refine⟨_,rfl,t1.sm v3 (by simp),q3,w3,e3,t2.sq cO (by simp),PD.mono ?_⟩;rintro _ w4 ⟨rfl,Ut⟩;exact⟨_,rfl,t2.sj z3 Ut (by simp),_,wk,rfl,by omega,fun _=>by unfold TR;rw[if_pos hk],by rw[if_pos hk];exact v1,t2.q (qX cO Ut)⟩
 ·have jO:m.k≠1:=by simpa using hc
  have hk:m.k=3:=by simpa using R4
  refine(ju t1.toQz _).mono ?_;rintro _ w2 ⟨rfl,wk,v1,v2,v3⟩;have t2:=t1.nx v2 v3;refine⟨rfl,t1.sm v3 (by simp),(wX m.wt hn.w (hT.only t2.o)).mono ?_⟩;rintro _ w3 ⟨rfl,cO⟩;have t3:=t2.q cO;have xq:=io [fU,Lib.itoa m.wt];simp only[bg,gu,bQ,gZ]at xq;have hw:fU.length=5:=rfl;have hil:=Eb hn.w;obtain⟨q4,w4,e4,dm,_,hj4⟩:=Ak w3 [fU,Lib.itoa m.wt] (n:=2) (parts:=#[.mk 0 (ab (T fU)),.mk 1 (ab (T (Lib.itoa m.wt)))]) rfl rfl (by decide) (by decide) (by omega);have z4:=dm.size;refine⟨_,rfl,t2.sq cO (by simp),q4,w4,e4,t3.sq dm (by simp),hj4.mono ?_⟩;rintro _ w5 ⟨rfl,hP5⟩;exact⟨_,rfl,t3.sj z4 hP5 (by simp),_,wk,rfl,by omega,fun _=>by unfold TR;rw[if_neg jO,if_pos hk],by rw[if_neg jO,if_pos hk];exact v1,t3.q (qX dm hP5)⟩
 ·have jO:m.k≠1:=by simpa using hc
  have I5:m.k≠3:=by simpa using R4
  refine(ju t1.toQz _).mono ?_;rintro _ w2 ⟨rfl,wk,v1,v2,v3⟩;have t2:=t1.nx v2 v3;refine⟨rfl,t1.sm v3 (by simp),fA,wk,rfl,by show 6<=_;omega,fun _=>by unfold TR;rw[if_neg jO,if_neg I5],by rw[if_neg jO,if_neg I5];exact v1,t2⟩
end
theorem ML {w:av} {b:Nat} {q:Option Addr} {v1 v2 v3:aw} (hq:q=none∨q=some ⟨b,0,none⟩) (h:Blk w b 72 [ae q,v1,v2,v3]):
  az aq 145 #[ae (some ⟨b,0,none⟩)] w fun e w'=>e=ak (ai #[])/\ay [b] w w'/\Blk w' b 72 [ae (some ⟨b,0,none⟩),v1,v2,v3]:=by
 refine ret (Tu _ _ _ ?_);unfold L2;have qi:w.shape? b=some (72,4):=by
  unfold World.shape?;unfold Blk at h;rw[h];rfl
 refine⟨q,Blk.dI h 0 rfl,fun hn=>?_,fun hn=>⟨q,Blk.dI h 0 rfl,?_⟩⟩
 ·have hr1:=Lib.run_to_unsafe (P:=aq) (src:=67) (dst:=248) w ⟨b,0,none⟩ (t:=70) (j:=Tryz.t70) (by kernel_rfl) (by kernel_rfl) (by kernel_rfl) (by decide) qi (by decide:(0:Nat)<4);have hr2:=Lib.run_from_unsafe (P:=aq) (src:=248) (dst:=67) w ⟨b,0,none⟩ (u:=70) (j:=Tryz.t70) (by kernel_rfl) (by kernel_rfl) (by kernel_rfl) qi (by kernel_rfl);exact⟨⟨ae (some ⟨b,0,none⟩),rfl⟩,w,hr1,⟨ae (some ⟨b,0,none⟩),rfl⟩,w,TG _ w,some ⟨b,0,none⟩,w,hr2,b,0,_,_,rfl,h,by simp,fun w3 hO hB=>⟨rfl,hO,hB⟩⟩
 ·rcases hq with rfl | rfl
  ·cases hn
  ·exact⟨false,w,Lib.run_neq_ptr_same w _ (te:=70) (j:=Tryz.t70) (by kernel_rfl) (by kernel_rfl),fun e=>(by cases e),fun _=>⟨rfl,Only.refl _ _,h⟩⟩
section
variable {w0 w:av} {b:Nat} {l:aB} {st:St}
theorem Q8 (h:Qz w0 b w l st) (m:aB) (hm:l.length+m.length<=274877906944):az aq 82 #[ae (some ⟨b,0,none⟩),ab (T m)] w fun e w'=>
  e=ak (ai #[O U (m.length:Int),.nilIface])/\Qz w0 b w' (l++m) st/\Mw false b w w':=by
 refine ret (Tt _ _ _ _ ?_);unfold L1;obtain⟨q,sl,hq,hB,Uu⟩:=h.ex;refine(ML hq hB).mono ?_;rintro _ w1 ⟨rfl,bT,AM⟩;have z0:=bT.size;have hb:=hB.lt;have uI:Bf w1 (b+1) sl l:=Uu.keep fun g hg hl=>bT.block g hl (by have:=(Uu.lt hg).1;simp;omega);obtain⟨s',w2,k1,k2,k3,k4⟩:=wY uI m (by omega) (by omega);have z1:=k3.size;have pi:Blk w2 b 72 [ae (some ⟨b,0,none⟩),sl.v,aj st.1,O U st.2]:=k3.blk AM fun e=>by have:=(uI.lt e).1;omega
 have AK:∀g,s'.a=some ⟨g,0,none⟩->b<g:=fun g hg=>by
  rcases k4 with e | e
  ·rw[e]at hg;exact(uI.lt hg).1
  ·rw[e]at hg;injection hg with hg;injection hg with hg;omega
 refine⟨rfl,sl,Blk.dI AM 1 rfl,s',w2,k1,b,1,_,_,rfl,pi,by simp,fun w3 cp kC=>?_⟩;have kC:Blk w3 b 72 [ae (some ⟨b,0,none⟩),s'.v,aj st.1,O U st.2]:=kC;have eU:OnlyP (fun k=>k=b∨(false=false/\Bu w b k)) w w3:=((bT.p (F:=fun k=>k=b∨(false=false/\Bu w b k)) fun x hx=>.inl (.inl (by simpa using hx))).trans k3 fun k hk=>.inl (.inr ⟨rfl,D8 hB hk⟩)).trans (cp.p (F:=fun k=>k=b) fun x hx=>.inl (by simpa using hx)) fun k hk=>.inl (.inl hk);refine⟨by rw[bI],⟨?_,h.lo,⟨_,_,.inr rfl,kC,k2.keep fun g hg hl=>cp.block g hl (by have:=AK g hg;simp;omega)⟩,h.i,by rw[aD];exact hm⟩,eU,fun k hk=>?_⟩
 ·refine⟨eU.os.trans h.o.os,eU.tape.trans h.o.tape,eU.output.trans h.o.output,aX h.o.size eU.size,fun k hk _=>(eU.block k (cb hk h.o.size) ?_).trans (h.o.block k hk (by simp))⟩;rintro(e | ⟨_,e⟩)
  ·have:=h.lo;omega
  ·have:=(h.bu e).1;have:=h.lo;omega
 ·have e:=H3 kC hk;rcases k4 with e2 | e2
  ·exact .inl (D8 hB (e2▸e))
  ·rw[e2]at e;injection e with e;injection e with e;exact .inr ⟨rfl,by omega⟩
theorem Zq.sl {f g:Bool} {ws w1 w':av} {ks ks':List Nat} (t:Zq f w0 ws b w l st ks) (hO:ay [] w w1) (m:Mw g b w w') (hk:∀k,k∈ks'->k∈ks):aR ks' w1 w':=fun x hx=>
 (t.sm m hk x hx).trans (t.sq hO hk x hx).symm
theorem Ia:∀d,Lib.repeatL [32,32] d=qV d
 | 0=>rfl
 | d+1=>by rw[Lib.repeatL,Ia d];rfl
theorem Ib:∀d,(qV d).length=2*d
 | 0=>rfl
 | d+1=>by rw[qV,aH,aH,Ib d];omega
theorem vY (h:Qz w0 b w l st) (ws:List (aB)) {n:Nat} {parts:Array (Nat×aw)} (hp:parts=(((ws.map fun x=>Value.string (T x)).zipIdx 0).map fun x=>(x.2,x.1)).toArray) (hn:ws.length=n) (h0:0<n) (sI:n*1<=16777216) (d:Nat) (hd:d<=12) (hl:(fk ws).length<=274877889536):
  ∃(q:Sl) (w1:av),(au 52 n parts).run aq w=.ok q.v w1/\ay [] w w1/\az aq 38 #[rp b,O U (d:Int),q.v] w1 fun e w'=>e=ak (ai #[])/\Qz w0 b w' (if st.1 then l else gW l (d,fk ws)) st/\Mw false b w w':=by
 obtain⟨q,w1,e1,ajZ,bZ⟩:=iB w ws hp hn h0 sI;refine⟨q,w1,e1,bZ,?_⟩;have t1:=(h.z true).q bZ;have hb:=h.lb;have hbu:∀k,Bu w b k->k<w.heap.size:=fun k hk=>(h.bu hk).2;refine ret (ags _ _ _ _ _ ?_);unfold aao;refine(H7 t1.toQz).mono ?_;rintro _ w2 ⟨rfl,rfl⟩;obtain⟨qq,sl,hB,_⟩:=t1.toQz.set;refine⟨_,rfl,st.1,fun _=>Blk.dI hB 2 rfl,fun hc w3 cO=>?_,fun hc=>?_⟩
 ·simp only[aE,bX,ft]at hc;obtain⟨wL,Kw⟩:=hc;have t3:=t1.q cO;refine(Tryz.strings_Repeat (T [32,32]) d w3 (by omega) (by show 2*d<=_;omega)).mono ?_;rintro _ w4 ⟨rfl,qj⟩;have dm:=Only.below qj;have t4:=t3.q dm;have Xo:=ajZ.keep cG (w':=w4) fun k hk bJ=>(cO.bP dm).block k bJ (by simp);have uR:=Ib d;refine⟨T (qV d),by rw[show(T [32,32]).data.toList=[32,32]from rfl,Ia],(yE Xo (by omega) (by omega)).mono ?_⟩;rintro _ w5 ⟨rfl,hP5⟩;have t5:=t4.row hb hbu hP5;refine⟨_,rfl,by rw[bI,bI];omega,by rw[dH,bI,aD];omega,?_⟩;rw[show ao #[10]=T [10]from rfl,dH,dH,show(Addr.add ⟨b,0,none⟩ 0:Addr)=⟨b,0,none⟩from rfl];refine(Q8 t5.toQz _ ?_).mono ?_
  ·simp only[aD,aH,aN];omega
  rintro _ w6 ⟨rfl,h6,m6⟩;refine⟨_,⟨.nilIface,rfl⟩,rfl,rfl,?_,t5.m.up.trans m6⟩;rw[Kw,if_neg (by decide)];unfold gW Vq;rw[if_neg wL];dsimp only;rw[aV]at h6;exact h6
 ·refine⟨rfl,?_,t1.m.up⟩;have:(if st.1 then l else gW l (d,fk ws))=l:=by
   cases e:st.1
   ·rw[e]at hc;have hc:16384<l.length:=by simpa using hc
    rw[if_neg (by decide)];unfold gW;rw[if_pos hc]
   ·rfl
  rw[this];exact t1.toQz
theorem yI (h:Qz w0 b w l st) (d:Nat) (hd:d<=12) (word text:aB) (hw:word.length<=100) (hl:text.length<=274877880000):
  az aq 87 #[rp b,O U (d:Int),ab (T word),ab (T text)] w fun e w'=>e=ak (ai #[])/\Qz w0 b w' (if st.1||decide (text=[])then l else gW l (d,fk [word,text])) st/\Mw false b w w':=by
 refine ret (agw _ _ _ _ _ _ ?_);unfold aav;rw[show ao #[]=T []from rfl,gV];refine⟨fun hc=>?_,fun hc=>?_⟩
 ·have hc:text≠[]:=by simpa using hc
  have xq:=io [word,text];simp only[bg,gu,bQ,gZ]at xq;obtain⟨q,w1,e1,bZ,hj⟩:=vY h [word,text] (n:=2) (parts:=#[.mk 0 (ab (T word)),.mk 1 (ab (T text))]) rfl rfl (by decide) (by decide) d hd (by omega);refine⟨q,w1,e1,hj.mono ?_⟩;rintro _ w2 ⟨rfl,h2,m2⟩;refine⟨rfl,rfl,?_,m2⟩;rw[aZ hc,Bool.or_false];exact h2
 ·have hc:text=[]:=by simpa using hc
  refine⟨rfl,?_,Mw.refl _ _ _⟩;rw[bh hc,lA,if_pos rfl];exact h
end
def vh:List Mv->Nat
 | []=>0
 | m::l=>D9 m+vh l
def An (b:Nb):Nat:=((b.nm.length+b.ini.length)+(b.dft.length+1))+((gX b.en+gX b.lv)+vh b.mv)
mutual
def mX:Nd->Nat
 | .mk b l=>An b+iq l
def iq:List Nd->Nat
 | []=>0
 | x::l=>mX x+iq l
end
theorem qY {m:Mv}:∀{l:List Mv},m∈l->D9 m<=vh l
 | [],h=>by simp at h
 | x::l,h=>by
  rw[vh];rcases aL.1 h with rfl | h
  ·omega
  ·have:=qY h;omega
theorem lW:∀(l:List Mv),l.length<=vh l
 | []=>aQ _
 | m::l=>by
  have:=lW l;rw[vh,aH];unfold D9;omega
theorem oU {x:Nd}:∀{l:List Nd},x∈l->mX x<=iq l
 | [],h=>by simp at h
 | y::l,h=>by
  rw[iq];rcases aL.1 h with rfl | h
  ·omega
  ·have:=oU h;omega
theorem Q9 (x:Nd):1<=mX x:=by
 obtain⟨b,l⟩:=x;rw[mX];unfold An;omega
theorem mY:∀(l:List Nd),l.length<=iq l
 | []=>aQ _
 | x::l=>by
  have:=mY l;have:=Q9 x;rw[iq,aH];omega
theorem uq {x:Nd}:∀{l:List Nd},sE l->x∈l->vX x
 | [],_,h=>by simp at h
 | y::l,hn,h=>by
  rw[sE]at hn;rcases aL.1 h with rfl | h
  ·exact hn.1
  ·exact uq hn.2 h
theorem tA (d:Nat) (x:Nd):∀l:List Nd,gK d (l++[x])=(gK d l&&jJ d x)
 | []=>by simp[gK]
 | y::l=>by rw[cn,gK,gK,tA d x l,sO]
theorem vi (x:Nd):∀l:List Nd,jB (l++[x])=jB l+rQ x
 | []=>by simp[jB]
 | y::l=>by rw[cn,jB,jB,vi x l];omega
theorem vj (d:Nat) (x:Nd):∀l:List Nd,lV d (l++[x])=lV d l++ze d x
 | []=>by simp[lV]
 | y::l=>by rw[cn,lV,lV,vj d x l,aV]
def wy (x:Nb) (ks:List Nd) (d:Nat):Bool:=(decide (x.ini=[])||cF x.ini)&&(x.en.all fC&&(x.lv.all fC&&(x.mv.all jA&&gK d ks)))
theorem lp (l:aB) (p:Ln):cT l [p]=gW l p:=rfl
theorem MM (l:List Ac):sP l≠[]:=by unfold sP;simp
theorem ur {ch:St} {l l1 l2:aB} {L M:List Ln} {I2:St} {c:Bool} {n:Nat} (hU:Up I2 c n ch) (h1:I2.1=false->l1=cT l L) (h2:ch.1=false->l2=cT l1 M):ch.1=false->l2=cT l (L++M):=fun e=>by
 rw[h2 e,h1 (hU.ok e).1,eK]
def MN (D:Nat):Prop:=∀(w0 w:av) (b:Nat) (l:aB) (st:St) (F:Nat->Prop) (x:Nd) (cs:List aw) (d:Nat),Qz w0 b w l st->li false D w F x cs->(∀k,F k->k<w0.heap.size)->vX x->mX x<=8388608->d<=12->Er w0->Tb w0->
 az aq 90 #[rp b,ah cs.toArray,O U (d:Int)] w fun e w'=>e=ak (ai #[])/\∃ch l',Up st (jJ d x) (rQ x) ch/\(ch.1=false->l'=cT l (ze d x))/\Qz w0 b w' l' ch/\Mw false b w w'
section
variable {w0 w:av} {b:Nat} {l:aB} {st:St}
theorem MO {D:Nat} (hN:MN D) (h:Qz w0 b w l st) {F:Nat->Prop} {x:Nb} {en lv mv kids:Sl} {ks:List Nd} (hb:BI false w F x en lv mv) (hk:ja false (li false D) 9 27 w F kids ks) (hF:∀k,F k->k<w0.heap.size) (hn:Un x) (hnk:sE ks) (hs:An x+iq ks<=8388608) (d:Nat) (hd:d<=12) (hE:Er w0) (hT:Tb w0):
  az aq 41 #[rp b,ah (mU x.k x.nm x.ini x.dft en lv mv kids x.a).toArray,O U (d:Int)] w fun e w'=>e=ak (ai #[])/\∃ch l',Up st (wy x ks d) (uO x+jB ks) ch/\(ch.1=false->l'=cT l (zx d x++lV d ks))/\Qz w0 b w' l' ch/\Mw false b w w':=by
 have NX:=hs;unfold An at NX;have OD:=lW x.mv;have Oo:=mY ks;obtain⟨zJ,vM,qn⟩:=hb;have zJ:=zJ.1;have vM:=vM.1;have qn:=qn.1;have hk:=hk.1;refine ret (agv _ _ _ _ _ _ _ _ _ _ _ _ _ ?_);unfold aau;intro k0 w1 gN dJ bZ;have t1:=(h.z false).al bZ gN dJ;rw[show ao #[]=T []from rfl,gV];refine⟨fun w'=>∃I2 l1,Up st (decide (x.ini=[])||cF x.ini) 0 I2/\(I2.1=false->l1=cT l (sD d x))/\Zq false w0 w b w' l1 I2 [k0],?_,fun hc=>?_,fun hc=>?_⟩
 ·rintro w2 ⟨wk,l2,Yy,tH,t2⟩;refine(BR t2.toQz (SliceF.keep (ci false) zJ (by decide) fun k hk _=>h.arg t2.toQz (hF k hk)) hF hn.en (by omega) hE hT).mono ?_;rintro _ w3 ⟨tx3,Xm,rfl,tl3,tt3,hU3,q3,m3⟩;have t3:=t2.nx q3 m3.up;refine⟨_,rfl,t2.sm m3 (by simp),(yI t3.toQz d hd fD tx3 (by decide) (by omega)).mono ?_⟩;rintro _ w4 ⟨rfl,q4,m4⟩;have t4:=t3.nx q4 m4;have hl4:Xm.1=false->(if Xm.1||decide (tx3=[])then l2 else gW l2 (d,fk [fD,tx3]))=cT l2 (HT d x):=fun e=>by
   rw[e,tt3 e];unfold HT;by_cases he:x.en=[]
   ·rw[if_pos he,if_pos he];rfl
   ·rw[if_neg he,if_neg he,aZ (MM _),if_neg (by decide),lp,nR (by decide),eZ (by rfl),ei,eY,lm,br]
  generalize (if Xm.1||decide (tx3=[])then l2 else gW l2 (d,fk [fD,tx3]))=l4 at*
  refine⟨rfl,t3.sm m4 (by simp),(BR t4.toQz (SliceF.keep (ci false) vM (by decide) fun k hk _=>h.arg t4.toQz (hF k hk)) hF hn.lv (by omega) hE hT).mono ?_⟩;rintro _ w5 ⟨tx5,RZ,rfl,tl5,tt5,Xq,q5,m5⟩;have t5:=t4.nx q5 m5.up;refine⟨_,rfl,t4.sm m5 (by simp),(yI t5.toQz d hd fE tx5 (by decide) (by omega)).mono ?_⟩;rintro _ w6 ⟨rfl,q6,m6⟩;have t6:=t5.nx q6 m6;have Yq:RZ.1=false->(if RZ.1||decide (tx5=[])then l4 else gW l4 (d,fk [fE,tx5]))=cT l4 (JL d x):=fun e=>by
   rw[e,tt5 e];unfold JL;by_cases he:x.lv=[]
   ·rw[if_pos he,if_pos he];rfl
   ·rw[if_neg he,if_neg he,aZ (MM _),if_neg (by decide),lp,nR (by decide),eZ (by rfl),ei,eY,lm,br]
  generalize (if RZ.1||decide (tx5=[])then l4 else gW l4 (d,fk [fE,tx5]))=l6 at*
  have hL4:=ur hU3 tH hl4;have hL6:=ur Xq hL4 Yq;refine⟨rfl,t5.sm m6 (by simp),fun nv i w'=>∃(j:Nat) (ch:St) (l':aB),i=j/\j<=x.mv.length/\nv=x.mv.length-j/\Up RZ ((x.mv.take j).all jA) ((x.mv.take j).map fun m=>m.acts.length).sum ch/\(ch.1=false->l'=cT l6 ((x.mv.take j).map fun m=>(d,yD m)))/\Zq false w0 w b w' l' ch [k0],
   x.mv.length,⟨0,RZ,l6,rfl,aQ _,rfl,t6.toQz.V7,fun _=>rfl,t6⟩,?_⟩
  rintro nv _ w7 ⟨j,Ur,l7,rfl,hj,rfl,Jc,Jd,t7⟩;have amT:=qn.len;have aj1:SliceF (wV false) 13 w7 F mv x.mv:=SliceF.keep (gp false) qn (by decide) fun k hk _=>h.arg t7.toQz (hF k hk);refine⟨fun hc=>?_,fun hc=>?_⟩
  ·have bJ:(j:Int)<mv.n:=aG hc;obtain⟨ad,m,cs,g1,g2,g3,g4,g5,g6⟩:=aj1.get (aO j) bJ;rw[aM]at g2;have Xg:=be g2;have hms:=qY Xg;have od:x.mv.take (j+1)=x.mv.take j++[m]:=by
    rw[bn,g2];rfl
   have Cy:=g6;obtain⟨gc,pW,tg,rfl,r1,r2,r3⟩:=Cy;obtain⟨gl,rfl⟩:=dU r1;refine⟨ad,g1,_,_,_,_,_,_,_,_,_,_,_,_,_,g5,fun k3 w8 I5 yX fh=>?_⟩;have t8:=t7.al fh I5 yX;refine(VD t8.toQz ((gp false).keep g6 fun k _ bJ=>fh.block k bJ (by simp)) hF (hn.mv m Xg) (by omega) hE hT).mono ?_;rintro _ w9 ⟨tx9,Xn,rfl,tl9,tt9,Us,q9,m9⟩;have t9:=t8.nx q9 m9.up;have xq:=io [tx9];simp only[bg,gu,bQ,gZ]at xq;obtain⟨RM,cK,Cs,dy,Xs⟩:=vY t9.toQz [tx9] (n:=1) (parts:=#[.mk 0 (ab (T tx9))]) rfl rfl (by decide) (by decide) d hd (by omega);refine⟨_,rfl,t8.sm m9 (by simp),RM,cK,Cs,t9.sq dy (by simp),Xs.mono ?_⟩;rintro _ cY ⟨rfl,Wq,m11⟩;have t11:=t9.nx Wq m11;refine⟨rfl,t9.sl dy m11 (by simp),x.mv.length-(j+1),by omega,j+1,Xn,_,by rw[fy (by omega) (by omega)];rfl,by omega,rfl,(Jc.tr Us).cg ?_ ?_,fun e=>?_,⟨t11.toQz,t11.m,fun k hk=>t11.k k (by simp at hk;simp[hk])⟩⟩
   ·rw[od,iU];simp
   ·rw[od,di,Pf];simp
   ·rw[e,if_neg (by decide),Jd (Us.ok e).1,od,di,eK,tt9 e];show _=gW _ (d,yD m);have:ne (yD m)=true:=by
     have:yD m≠[]:=by unfold yD;simp
     unfold ne;rw[aZ this];rfl
    rw[nR this,ei,lm,br]
  ·have kO:¬(j:Int)<mv.n:=aI hc;have rB:j=x.mv.length:=by omega
   subst rB;rw[bB (aK _)]at Jc Jd;have hL7:=ur Jc hL6 Jd;refine⟨fun nv i w'=>∃(j:Nat) (ch:St) (l':aB),i=j/\j<=ks.length/\nv=ks.length-j/\Up Ur (gK d (ks.take j)) (jB (ks.take j)) ch/\(ch.1=false->l'=cT l7 (lV d (ks.take j)))/\Zq false w0 w b w' l' ch [k0],
    ks.length,⟨0,Ur,l7,rfl,aQ _,rfl,by rw[dr,gK,jB];exact t7.toQz.V7,fun _=>by rw[dr,lV];rfl,t7⟩,?_⟩
   rintro nv _ cY ⟨j,Xt,qo,rfl,hj,rfl,R5,Xu,t11⟩;have amU:=hk.len;have aj4:SliceF (li false D) 9 cY F kids ks:=SliceF.keep (cf false D) hk (by decide) fun k hk _=>h.arg t11.toQz (hF k hk);refine⟨fun hc=>?_,fun hc=>?_⟩
   ·have bJ:(j:Int)<kids.n:=aG hc;obtain⟨ad,y,cs,g1,g2,g3,g4,g5,g6⟩:=aj4.get (aO j) bJ;rw[aM]at g2;have tF:=be g2;have PY:=oU tF;have od:ks.take (j+1)=ks.take j++[y]:=by
     rw[bn,g2];rfl
    have Cy:=g6;cases D with
    | zero=>exact Cy.elim
    | succ D=>
    obtain⟨uT,uU,pX,jq,rfl,_⟩:=Cy;refine⟨ad,g1,_,_,_,_,uT,uU,pX,jq,_,g5,fun k7 dz hk7 aex ey=>?_⟩;have t12:=t11.al ey hk7 aex;refine(hN _ _ _ _ _ _ _ _ d t12.toQz ((cf false _).keep g6 fun k _ bJ=>ey.block k bJ (by simp)) hF (uq hnk tF) (by omega) hd hE hT).mono ?_;rintro _ dF ⟨rfl,Xv,wC,aey,aj5,Wu,m13⟩;have t13:=t12.nx Wu m13;refine⟨rfl,t12.sm m13 (by simp),ks.length-(j+1),by omega,j+1,Xv,wC,by rw[fy (by omega) (by omega)];rfl,by omega,rfl,(R5.tr aey).cg ?_ ?_,fun e=>?_,⟨t13.toQz,t13.m,fun k hk=>t13.k k (by simp at hk;simp[hk])⟩⟩
    ·rw[od,tA]
    ·rw[od,vi]
    ·rw[aj5 e,Xu (aey.ok e).1,od,vj,eK]
   ·have kO:¬(j:Int)<kids.n:=aI hc;have rB:j=ks.length:=by omega
    subst rB;rw[bB (aK _)]at R5 Xu;have aj6:=ur R5 hL7 Xu;refine⟨rfl,Xt,qo,(Yy.tr (hU3.tr (Xq.tr (Jc.tr R5)))).cg rfl ?_,fun e=>?_,t11.toQz,t11.m⟩
    ·unfold uO;omega
    ·rw[aj6 e];unfold zx mvL;simp only[aV]
 ·have hc:x.ini≠[]:=by simpa using hc
  refine(lI t1.toQz x.ini (by omega)).mono ?_;rintro _ w2 ⟨rfl,wk,Yy,q2,m2⟩;have t2:=t1.nx q2 m2.up;refine⟨_,rfl,t1.sm m2 (by simp),by rw[bI];omega,?_⟩;rw[show ao #[59]=T [59]from rfl,dH];refine(yI t2.toQz d hd dE (x.ini++[59]) (by decide) (by rw[aD,aW];omega)).mono ?_;rintro _ w3 ⟨rfl,q3,m3⟩;refine⟨rfl,t2.sm m3 (by simp),wk,_,Yy.cg (by rw[aZ hc,uK]) rfl,fun e=>?_,t2.nx q3 m3⟩;have gf:x.ini++[59]≠[]:=by simp
  have OZ:ne (x.ini++[59])=true:=by unfold ne;rw[aZ gf];rfl
  rw[e,aZ gf,if_neg (by decide),nR (by decide),eZ OZ,ei,eY,lm,br];unfold sD;rw[if_neg hc];rfl
 ·have hc:x.ini=[]:=by simpa using hc
  refine⟨st,l,h.V7.cg (by rw[bh hc];rfl) rfl,fun _=>by unfold sD;rw[if_pos hc];rfl,t1⟩
end
end Go.Proofs.YtmhoiicofhlgbaaGreatDoor.Con
namespace Go.Kt
open Go Go.RowKit
set_option linter.unusedSimpArgs false
set_option linter.unusedVariables false
section
variable {P:Program} {w:World}
theorem JR {α:Type} {r:Rp α} {size bytes:Nat} {F:Nat->Prop} {y:Sl} {ys:List α} {e t ty:TypeId} {i:TypeInfo} {z:Value} (ht:P.underlying t=some (.slice e)) (hi:P.info? e=some i) (hz:i.zero=some z) (nq:i.size=size) (RF:i.bytes=bytes) (Fc:z.cells.size=size) (h0:0<size)
  (hr:r.Ok) (hy:SliceF r size w F y ys) (hm:ys.length*bytes<=140737488355328) (EM:0<bytes):
  ∃x1 w1,(Instr.buildSlice t 0 #[]).run P w=.ok (Sl.v x1) w1/\Only [] w w1/\∃x2 w2,(Builtin.append_ #[t,t] ty #[Sl.v x1,Sl.v y]).run P w1=.ok (Sl.v x2) w2/\Own r size e w.heap.size w2 F x2 ys/\OnlyP (fun k=>w.heap.size<=k) w1 w2:=by
 have hO:Only [] w (w.alloc (.cells #[] e)):=Only.alloc _ _;have me:Own r size e w.heap.size (w.alloc (.cells #[] e)) (fun k=>F k/\k<w.heap.size) (⟨some ⟨w.heap.size,0,none⟩,0,0⟩:Sl) []:=
  .inr ⟨w.heap.size,[],[],rfl,aK _,Blk.alloc w e [],by simp,rfl,aK _,aQ _,trivial⟩
 have hyk:SliceF r size (w.alloc (.cells #[] e)) (fun k=>(F k/\k<w.heap.size)/\(⟨some ⟨w.heap.size,0,none⟩,0,0⟩:Sl).a≠some ⟨k,0,none⟩) y ys:=
  ((hy.inHeap hr h0).keep hr h0 fun k _ bJ=>hO.block k bJ (by simp)).mono hr fun k hk=>⟨hk,fun h=>by
   injection h with h;injection h with h;have:=hk.2;omega⟩
 refine⟨⟨some ⟨w.heap.size,0,none⟩,0,0⟩,_,xw w ht hi,hO,?_⟩;obtain⟨s',w',g1,g2,gs,g3,g4,g5⟩:=pu (ty:=ty) ht hi hz nq RF Fc hr me hyk hO.size (by simpa using hm) EM;exact⟨s',w',g1,(by simpa using g2.mono hr fun k hk=>hk.1),g3.p fun g hg=>.inl (g4 g hg).2.1⟩
end
end Go.Kt
namespace Go.Proofs.YtmhoiicofhlgbaaGreatDoor.Con
open Go.Value renaming int->O,string->ab,pointer->ae,agg->ah,tuple->ai,bool->aj
open Go.IntKind renaming i64->U,wrap->ar
open Go.Ending renaming returned->ak
open _root_.ByteArray renaming mk->ao
open _root_.Go.Proofs.Tryz renaming prog->aq
open Go.Instr renaming buildSlice->au
open Go renaming World->av,Value->aw,Calls->az
open Go.Kt renaming Only->ay
open Go Go.RowKit Go.Kt Go.Kt.V Go.Proofs.YtmhoiicofhlgbaaGreatDoor.Vc
set_option linter.unusedSimpArgs false
set_option linter.unusedVariables false
set_option maxHeartbeats 800000
set_option maxRecDepth 100000
theorem Ic {w:av} {F:Nat->Prop} {x:Ex} {cs:List aw} (h:rE false w F x cs):∃sl d,cs=jy x.k x.n x.s x.op sl x.a/\SliceF (mA d) 6 w F sl x.cR:=by
 obtain⟨d,h⟩:=h;cases d with
 | zero=>exact h.elim
 | succ d=>
  obtain⟨sl,h,h2⟩:=h;exact⟨sl,d,h,yu h2.1 fun x cs _ h=>tt h⟩
theorem TS {w:av} {F:Nat->Prop} {x:Ex} {sl:Sl} {d:Nat} (h:SliceF (mA d) 6 w F sl x.cR):rE false w F x (jy x.k x.n x.s x.op sl x.a):=
 ⟨d+1,sl,rfl,yu h fun x cs _ h=>FW h,fun h=>(by cases h)⟩
theorem BU (d:Nat):∀l:List Ex,mB (kq d) l<=JI l
 | []=>aQ _
 | y::l=>by rw[mB,JI];exact jx (F0 d y) (BU d l)
theorem MP (x:Ex):JI x.cR<=yB x:=by rw[BM];omega
theorem BW {α:Type} {r:Rp α} {size bytes:Nat} {w u:av} {A:Nat} {s:Sl} {xs:List α} {e t ty:TypeId} {i:TypeInfo} {z v:aw} {x:α} {G:Nat->Prop} (ht:Tryz.prog.underlying t=some (.slice e)) (hi:Tryz.prog.info? e=some i) (hz:i.zero=some z) (nq:i.size=size) (RF:i.bytes=bytes) (Fc:z.cells.size=size) (h0:0<size) (EM:0<bytes) (sI:1*size<=16777216)
  (hr:r.Ok) (hs:Own r size e A w (fun k=>A<=k) s xs) (hA:A<=w.heap.size) (hO:ay [] w u) (hv:v.cells.toList.length=size) (hx:r u G x v.cells.toList) (hG:∀k,G k->w.heap.size<=k) (hm:(xs.length+1)*bytes<=140737488355328):
  ∃y w1,(au t 1 #[(0,v)]).run aq u=.ok (Sl.v y) w1/\ay [] u w1/\∃s' w2,(Builtin.append_ #[t,t] ty #[Sl.v s,Sl.v y]).run aq w1=.ok (Sl.v s') w2/\
   Own r size e A w2 (fun k=>A<=k) s' (xs++[x])/\OnlyP (fun k=>A<=k/\k<w.heap.size) w1 w2:=by
 have z:=hO.size;have hsb:∀k,s.a=some ⟨k,0,none⟩->k<w.heap.size:=fun k e=>by have:=(hs.blk e).2;exact this
 obtain⟨y,w1,q1,q3,s',w2,g1,g2,⟨gg,g3,g4⟩,g5⟩:=pv (P:=aq) (w:=u) (ty:=ty) ht hi hz nq RF Fc h0 EM sI hr (hs.keep hr fun k _ bJ=>hO.block k bJ (by simp)) (by omega) hv hx (fun k hk _=>⟨by have:=hG k hk;omega,fun e=>by have:=hsb k e;have:=hG k hk;omega⟩) hm;exact⟨y,w1,q1,q3,s',w2,g1,g2.mono hr fun k hk=>hk.elim id fun h=>by omega,g3.p fun g hg=>.inl ⟨(g4 g hg).2.1,hsb g (g4 g hg).1⟩⟩
theorem BX {w:av} {H:Nat->Prop} {s:Sl} {l:List Ac} (h:SliceF (ot false) 9 w H s l) (hz:gX l<=8388608):
  az aq 80 #[s.v] w fun e w'=>(∃t:Sl,e=ak t.v/\SliceF (ot false) 9 w' (fun k=>w.heap.size<=k) t l)/\ay [] w w':=by
 refine(agO s (fun v w'=>(∃t:Sl,v=t.v/\SliceF (ot false) 9 w' (fun k=>w.heap.size<=k) t l)/\ay [] w w') w ?_).mono (by rintro _ w' ⟨v,rfl,⟨t,rfl,h⟩,h'⟩;exact⟨⟨t,rfl,h⟩,h'⟩);unfold aaS;have hl:=h.len;have CR:=gq l;refine⟨fun kv t i u=>∃j:Nat,i=(j:Int)/\kv+j=l.length/\j<=l.length/\Own (ot false) 9 116 w.heap.size u (fun k=>w.heap.size<=k) t (l.take j)/\ay [] w u,l.length,⟨0,rfl,by omega,aQ _,Own.nil _ _ _ _ _ _,Only.refl _ _⟩,?_⟩;rintro kv t _ w0 ⟨j,rfl,O0,hj,hT,bT⟩;have z0:=bT.size;refine⟨fun hc=>?_,fun hc=>?_⟩
 ·have hc:=aG hc;obtain⟨ad,y,ds,a1,a2,a3,a4,a5,a6⟩:=(SliceF.only (ci false) (by decide) h bT (by simp)).get (aO j) (by omega);rw[aM]at a2;obtain⟨xc,rfl,hx⟩:=a6;obtain⟨sl,d,rfl,rj⟩:=Ic hx;have hyz:BP y<=gX l:=oT (be a2);unfold BP at hyz;have:=MP y.x;have:=BU d y.x.cR;refine⟨ad,a1,_,_,_,_,_,_,sl,_,_,a5,fun k2 w1 nW nD bZ=>(DY d (SliceF.only (dD d) (by decide) rj bZ (by simp)) (by omega)).mono ?_⟩;rintro _ w2 ⟨l2,rfl,hL2,cp⟩;have z1:=bZ.size;have z2:=cp.size;refine⟨l2,rfl,cp.same (by simp;omega),fun w3 cO=>?_⟩;have z3:=cO.size;have o3:ay [] w0 w3:=(bZ.bP cp).trans cO fun x hx=>.inr (by simp only[aF]at hx;omega);have hL3:SliceF (mA d) 6 w3 (fun k=>w1.heap.size<=k/\k<w2.heap.size) l2 y.x.cR:=SliceF.only (dD d) (by decide) hL2 cO fun k hk _ hm=>by simp only[aF]at hm;omega
  obtain⟨y4,w4,q1,q2,t',w5,g1,g2,g3⟩:=BW (w:=w0) (u:=w3) (t:=23) (ty:=23) (e:=116) (i:=Tryz.t116) (bytes:=104) (size:=9) (r:=ot false) (G:=fun k=>w1.heap.size<=k/\k<w2.heap.size) (v:=ah #[O U y.k,ab (T y.n),O U y.x.k,O U y.x.n,ab (T y.x.s),O U y.x.op,l2.v,O U y.x.a,O U y.a]) (x:=y) (by kernel_rfl) (by kernel_rfl) rfl rfl rfl rfl (by decide) (by decide) (by decide) (ci false) hT bT.size o3 rfl ⟨_,rfl,TS hL3⟩ (fun k hk=>by omega) (by rw[cM];omega);have z4:=q2.size;refine⟨y4,w4,q1,q2.same (by simp;omega),t',w5,g1,g3.same fun x hx=>?_,kv-1,by omega,j+1,by rw[fy (by omega) (by omega)];rfl,by omega,by omega,?_,((bT.bP o3).bP q2).yT (F:=fun k=>w.heap.size<=k) (g3.mono fun k _ hk=>hk.1) |>.only fun k hk=>hk⟩
  ·simp only[aF]at hx;subst hx;exact⟨by omega,fun h=>by omega⟩
  ·rw[bn,a2];exact g2
 ·have hc:=aI hc;have rB:j=l.length:=by omega
  subst rB;rw[bB (aK _)]at hT;exact⟨⟨t,rfl,(hT.slice (ci false)).mono (ci false) fun k hk=>hk.elim id fun h=>h.1⟩,bT⟩
theorem MQ {w:av} {H:Nat->Prop} {s:Sl} {l:List Mv} (h:SliceF (wV false) 13 w H s l) (hz:vh l<=8388608):
  az aq 81 #[s.v] w fun e w'=>(∃t:Sl,e=ak t.v/\SliceF (wV false) 13 w' (fun k=>w.heap.size<=k) t l)/\ay [] w w':=by
 refine(agP s (fun v w'=>(∃t:Sl,v=t.v/\SliceF (wV false) 13 w' (fun k=>w.heap.size<=k) t l)/\ay [] w w') w ?_).mono (by rintro _ w' ⟨v,rfl,⟨t,rfl,h⟩,h'⟩;exact⟨⟨t,rfl,h⟩,h'⟩);unfold aaU;have hl:=h.len;have CR:=lW l;refine⟨fun kv t i u=>∃j:Nat,i=(j:Int)/\kv+j=l.length/\j<=l.length/\Own (wV false) 13 54 w.heap.size u (fun k=>w.heap.size<=k) t (l.take j)/\ay [] w u,l.length,⟨0,rfl,by omega,aQ _,Own.nil _ _ _ _ _ _,Only.refl _ _⟩,?_⟩;rintro kv t _ w0 ⟨j,rfl,O0,hj,hT,bT⟩;have z0:=bT.size;refine⟨fun hc=>?_,fun hc=>?_⟩
 ·have hc:=aG hc;obtain⟨ad,m,ds,a1,a2,a3,a4,a5,a6⟩:=(SliceF.only (gp false) (by decide) h bT (by simp)).get (aO j) (by omega);rw[aM]at a2;obtain⟨gc,pW,tg,rfl,hgx,E5,za⟩:=a6;obtain⟨sl,d,rfl,rj⟩:=Ic hgx;have E5:=E5.1;have za:=za.1;have hmz:D9 m<=vh l:=qY (be a2);unfold D9 at hmz;have:=MP m.g;have:=BU d m.g.cR;have:=BS m.tg;refine⟨ad,a1,_,_,_,_,_,_,_,_,sl,_,pW,tg,_,a5,fun k2 w1 nW nD bZ=>(DY d (SliceF.only (dD d) (by decide) rj bZ (by simp)) (by omega)).mono ?_⟩;rintro _ w2 ⟨l2,rfl,hL2,cp⟩;have z1:=bZ.size;have z2:=cp.size;refine⟨l2,rfl,cp.same (by simp;omega),fun w3 cO=>?_⟩;have z3:=cO.size;have o3:ay [] w0 w3:=(bZ.bP cp).trans cO fun x hx=>.inr (by simp only[aF]at hx;omega);have nk:∀{u v:av},w3.heap.size<=u.heap.size->ay [k2] u v->SliceF (mA d) 6 u (fun k=>w1.heap.size<=k/\k<w2.heap.size) l2 m.g.cR->SliceF (mA d) 6 v (fun k=>w1.heap.size<=k/\k<w2.heap.size) l2 m.g.cR:=fun _ hO hh=>SliceF.only (dD d) (by decide) hh hO fun k hk _ hm=>by simp only[aF]at hm;omega
  have hL3:=SliceF.only (dD d) (by decide) hL2 cO fun k hk _ hm=>by simp only[aF]at hm;omega
  refine(BX (SliceF.only (ci false) (by decide) E5 o3 (by simp)) (by omega)).mono ?_;rintro _ w4 ⟨⟨l5,rfl,hL5⟩,dm⟩;have z4:=dm.size;refine⟨l5,rfl,dm.same (by simp;omega),fun w5 dS=>?_⟩;have z5:=dS.size;have o5:ay [] w0 w5:=(o3.bP dm).trans dS fun x hx=>.inr (by simp only[aF]at hx;omega);have aka:=nk (by omega) dS (SliceF.only (dD d) (by decide) hL3 dm (by simp));have hA5:SliceF (ot false) 9 w5 (fun k=>w3.heap.size<=k) l5 m.acts:=SliceF.only (ci false) (by decide) hL5 dS fun k hk _ hm=>by simp only[aF]at hm;omega
  obtain⟨x1,w6,p1,p2,x2,w7,p3,p4,p5⟩:=JR (P:=aq) (w:=w5) (t:=52) (ty:=52) (e:=9) (i:=Tryz.t9) (bytes:=16) (size:=1) (r:=iW) (by kernel_rfl) (by kernel_rfl) rfl rfl rfl rfl (by decide) cG (SliceF.only cG (by decide) za o5 (by simp)) (by omega) (by decide);have z6:=p2.size;have z7:=p5.size;refine⟨x1,w6,p1,p2.same (by simp;omega),x2,w7,p3,p5.same fun x hx=>?_,fun w8 fh=>?_⟩
  ·simp only[aF]at hx;subst hx;exact⟨by omega,by omega⟩
  have z8:=fh.size;have p57:ay [] w5 w7:=(p2.yT p5).only fun k hk=>hk;have o8:ay [] w0 w8:=(o5.bP p57).trans fh fun x hx=>.inr (by simp only[aF]at hx;omega);have akd:=nk (by omega) fh (SliceF.only (dD d) (by decide) aka p57 (by simp));have hA8:SliceF (ot false) 9 w8 (fun k=>w3.heap.size<=k) l5 m.acts:=SliceF.only (ci false) (by decide) (SliceF.only (ci false) (by decide) hA5 p57 (by simp)) fh fun k hk _ hm=>by simp only[aF]at hm;omega
  have hX8:SliceF iW 1 w8 (fun k=>w5.heap.size<=k) x2 m.tg:=by
   have h0:SliceF iW 1 w7 (fun k=>w5.heap.size<=k) x2 m.tg:=by
    obtain⟨b1,b2,b3,b4,b5⟩:=p4.slice cG;refine⟨b1,b2,b3,b4,fun j x hx=>?_⟩;obtain⟨base,cs,c1,c2,c3,c4,c5⟩:=b5 j x hx;refine⟨base,cs,c1,?_,c3,c4,c5⟩;have:=(p4.blk c1).1;exact this
   exact SliceF.only cG (by decide) h0 fh fun k hk _ hm=>by simp only[aF]at hm;omega
  obtain⟨y9,w9,q1,q2,t',cK,g1,g2,g3⟩:=BW (w:=w0) (u:=w8) (t:=24) (ty:=24) (e:=54) (i:=Tryz.t54) (bytes:=168) (size:=13) (r:=wV false) (G:=fun k=>w1.heap.size<=k) (v:=ah #[O U m.k,ab (T m.ev),O U m.wt,aj m.gd,O U m.g.k,O U m.g.n,ab (T m.g.s),O U m.g.op,l2.v,O U m.g.a,l5.v,x2.v,O U m.a]) (x:=m) (by kernel_rfl) (by kernel_rfl) rfl rfl rfl rfl (by decide) (by decide) (by decide) (gp false) hT bT.size o8 rfl ⟨_,l5,x2,rfl,(fO false).mono (TS akd) fun k hk=>hk.1,⟨hA8.mono (ci false) fun k hk=>by omega,fun h=>(by cases h)⟩,⟨hX8.mono cG fun k hk=>by omega,fun h=>(by cases h)⟩⟩ (fun k hk=>by omega) (by rw[cM];omega);have z9:=q2.size;refine⟨y9,w9,q1,q2.same (by simp;omega),t',cK,g1,g3.same fun x hx=>?_,kv-1,by omega,j+1,by rw[fy (by omega) (by omega)];rfl,by omega,by omega,?_,((bT.bP o8).bP q2).yT (F:=fun k=>w.heap.size<=k) (g3.mono fun k _ hk=>hk.1) |>.only fun k hk=>hk⟩
  ·simp only[aF]at hx;subst hx;exact⟨by omega,fun h=>by omega⟩
  ·rw[bn,a2];exact g2
 ·have hc:=aI hc;have rB:j=l.length:=by omega
  subst rB;rw[bB (aK _)]at hT;exact⟨⟨t,rfl,(hT.slice (gp false)).mono (gp false) fun k hk=>hk.elim id fun h=>h.1⟩,bT⟩
theorem MR:∀(D:Nat) {w:av} {H:Nat->Prop} {s:Sl} {l:List Nd},SliceF (li false D) 9 w H s l->iq l<=8388608->
  az aq 35 #[s.v] w fun e w'=>(∃t:Sl,e=ak t.v/\SliceF (li false D) 9 w' (fun k=>w.heap.size<=k) t l)/\ay [] w w':=by
 intro D
 induction D with
 | zero=>
  intro w H s l h hz;have hx:l=[]:=by
   cases l with
   | nil=>rfl
   | cons x xs=>
    obtain⟨base,cs,_,_,_,_,h5⟩:=h.at_ 0 x rfl;exact h5.elim
  subst hx;have hn:s.n=0:=h.len;refine(aaR s (fun v w'=>(∃t:Sl,v=t.v/\SliceF (li false 0) 9 w' (fun k=>w.heap.size<=k) t [])/\ay [] w w') w ?_).mono (by rintro _ w' ⟨v,rfl,⟨t,rfl,h⟩,h'⟩;exact⟨⟨t,rfl,h⟩,h'⟩);unfold U7;refine⟨fun nv s i w'=>s=Sl.nil/\i=0/\w'=w,0,⟨rfl,rfl,rfl⟩,?_⟩;rintro nv _ _ _ ⟨rfl,rfl,rfl⟩;exact⟨fun bJ=>absurd (aG bJ) (by omega),fun _=>⟨⟨_,rfl,SliceF.nil _ _ _ _⟩,Only.refl _ _⟩⟩
 | succ D ih=>
  intro w H s l h hz;refine(aaR s (fun v w'=>(∃t:Sl,v=t.v/\SliceF (li false (D+1)) 9 w' (fun k=>w.heap.size<=k) t l)/\ay [] w w') w ?_).mono (by rintro _ w' ⟨v,rfl,⟨t,rfl,h⟩,h'⟩;exact⟨⟨t,rfl,h⟩,h'⟩);unfold U7;have hl:=h.len;have CR:=mY l;refine⟨fun kv t i u=>∃j:Nat,i=(j:Int)/\kv+j=l.length/\j<=l.length/\Own (li false (D+1)) 9 27 w.heap.size u (fun k=>w.heap.size<=k) t (l.take j)/\ay [] w u,l.length,⟨0,rfl,by omega,aQ _,Own.nil _ _ _ _ _ _,Only.refl _ _⟩,?_⟩;rintro kv t _ w0 ⟨j,rfl,O0,hj,hT,bT⟩;have z0:=bT.size;refine⟨fun hc=>?_,fun hc=>?_⟩
  ·have hc:=aG hc;obtain⟨ad,y,ds,a1,a2,a3,a4,a5,a6⟩:=(SliceF.only (cf false (D+1)) (by decide) h bT (by simp)).get (aO j) (by omega);rw[aM]at a2;obtain⟨en,lv,mv,kids,rfl,⟨zJ,vM,qn⟩,G0⟩:=a6;have zJ:=zJ.1;have vM:=vM.1;have qn:=qn.1;have G0:=G0.1;have hyz:mX y<=iq l:=oU (be a2);obtain⟨bb,ks⟩:=y;rw[mX]at hyz;unfold An at hyz;dsimp only[Nd.b,Nd.kids]at zJ vM qn G0 a5;have ap:∀{α:Type} {r:Rp α} {size:Nat} {u v:av} {k2 B:Nat} {q:Sl} {xs:List α},r.Ok->0<size->SliceF r size u (fun k=>B<=k) q xs->ay [k2] u v->k2<B->SliceF r size v (fun k=>B<=k) q xs:=fun hr h0 hh hO hb=>SliceF.only hr h0 hh hO fun k hk _ hm=>by simp only[aF]at hm;omega
   refine⟨ad,a1,_,_,_,_,en,lv,mv,kids,_,a5,fun k2 w1 nW nD bZ=>(BX (SliceF.only (ci false) (by decide) zJ bZ (by simp)) (by omega)).mono ?_⟩;rintro _ w2 ⟨⟨l5,rfl,hL5⟩,cp⟩;have z1:=bZ.size;have z2:=cp.size;refine⟨l5,rfl,cp.same (by simp;omega),fun w3 cO=>?_⟩;have z3:=cO.size;have nw:∀{u v v':av},ay [] w0 u->ay [] u v->ay [k2] v v'->ay [] w0 v':=fun h1 h2 h3=>(h1.bP h2).trans h3 fun x hx=>.inr (by simp only[aF]at hx;omega);have o3:=nw bZ cp cO;have hA3:=ap (ci false) (by decide) hL5 cO nD;refine(BX (SliceF.only (ci false) (by decide) vM o3 (by simp)) (by omega)).mono ?_;rintro _ w4 ⟨⟨l6,rfl,hL6⟩,dm⟩;have z4:=dm.size;refine⟨l6,rfl,dm.same (by simp;omega),fun w5 dS=>?_⟩;have z5:=dS.size;have o5:=nw o3 dm dS;have hA5:=ap (ci false) (by decide) (SliceF.only (ci false) (by decide) hA3 dm (by simp)) dS nD;have tJ:=ap (ci false) (by decide) hL6 dS (by omega);refine(MQ (SliceF.only (gp false) (by decide) qn o5 (by simp)) (by omega)).mono ?_;rintro _ w6 ⟨⟨l7,rfl,hL7⟩,dG⟩;have z6:=dG.size;refine⟨l7,rfl,dG.same (by simp;omega),fun w7 fz=>?_⟩;have z7:=fz.size;have o7:=nw o5 dG fz;have hA7:=ap (ci false) (by decide) (SliceF.only (ci false) (by decide) hA5 dG (by simp)) fz nD;have RW:=ap (ci false) (by decide) (SliceF.only (ci false) (by decide) tJ dG (by simp)) fz (by omega);have R6:=ap (gp false) (by decide) hL7 fz (by omega);refine(ih (SliceF.only (cf false D) (by decide) G0 o7 (by simp)) (by omega)).mono ?_;rintro _ w8 ⟨⟨l8,rfl,hL8⟩,fh⟩;have z8:=fh.size;refine⟨l8,rfl,fh.same (by simp;omega),fun w9 fK=>?_⟩;have z9:=fK.size;have o9:=nw o7 fh fK;have hA9:=ap (ci false) (by decide) (SliceF.only (ci false) (by decide) hA7 fh (by simp)) fK nD;have Xw:=ap (ci false) (by decide) (SliceF.only (ci false) (by decide) RW fh (by simp)) fK (by omega);have hM9:=ap (gp false) (by decide) (SliceF.only (gp false) (by decide) R6 fh (by simp)) fK (by omega);have hK9:=ap (cf false D) (by decide) hL8 fK (by omega);obtain⟨y9,cK,q1,q2,t',cY,g1,g2,g3⟩:=BW (w:=w0) (u:=w9) (t:=25) (ty:=25) (e:=27) (i:=Tryz.t27) (bytes:=160) (size:=9) (r:=li false (D+1)) (G:=fun k=>w1.heap.size<=k) (v:=ah (mU bb.k bb.nm bb.ini bb.dft l5 l6 l7 l8 bb.a).toArray) (x:=.mk bb ks) (by kernel_rfl) (by kernel_rfl) rfl rfl rfl rfl (by decide) (by decide) (by decide) (cf false (D+1)) hT bT.size o9 rfl ⟨l5,l6,l7,l8,rfl,⟨⟨hA9,fun h=>(by cases h)⟩,⟨Xw.mono (ci false) fun k hk=>by omega,fun h=>(by cases h)⟩,⟨hM9.mono (gp false) fun k hk=>by omega,fun h=>(by cases h)⟩⟩,⟨hK9.mono (cf false D) fun k hk=>by omega,fun h=>(by cases h)⟩⟩ (fun k hk=>by omega) (by rw[cM];omega);have GI:=q2.size;refine⟨y9,cK,q1,q2.same (by simp;omega),t',cY,g1,g3.same fun x hx=>?_,kv-1,by omega,j+1,by rw[fy (by omega) (by omega)];rfl,by omega,by omega,?_,((bT.bP o9).bP q2).yT (F:=fun k=>w.heap.size<=k) (g3.mono fun k _ hk=>hk.1) |>.only fun k hk=>hk⟩
   ·simp only[aF]at hx;subst hx;exact⟨by omega,fun h=>by omega⟩
   ·rw[bn,a2];exact g2
  ·have hc:=aI hc;have rB:j=l.length:=by omega
   subst rB;rw[bB (aK _)]at hT;exact⟨⟨t,rfl,(hT.slice (cf false (D+1))).mono (cf false (D+1)) fun k hk=>hk.elim id fun h=>h.1⟩,bT⟩
end Go.Proofs.YtmhoiicofhlgbaaGreatDoor.Con
namespace Go.Proofs.YtmhoiicofhlgbaaGreatDoor.Con
open Go.Value renaming int->O,string->ab,pointer->ae,agg->ah,tuple->ai,bool->aj
open Go.IntKind renaming i64->U,wrap->ar
open Go.Ending renaming returned->ak
open _root_.ByteArray renaming mk->ao
open _root_.Go.Proofs.Tryz renaming prog->aq
open Go.Instr renaming buildSlice->au
open Go renaming World->av,Value->aw,Calls->az
open Go.Kt renaming Only->ay
set_option linter.unusedSimpArgs false
set_option linter.unusedVariables false
structure G1 where
 k:Int
 nm:aB
 pa:Int
 dp:Int
 en:Int
theorem Ra:∀x,1<=nQ x
 | .mk b l=>by rw[nQ];omega
theorem Ec {x:Nd}:∀{l:List Nd},x∈l->nQ x<=gy l
 | [],h=>by simp at h
 | y::l,h=>by
  rw[gy];rcases aL.1 h with rfl | h
  ·omega
  ·have:=Ec h;omega
def ahG (L:List G1) (a i:Nat) (s:G1):Prop:=∃p t,p<i/\L[p]? =some t/\s.pa=((a+p:Nat):Int)/\s.dp=t.dp+1/\((a+i:Nat):Int)<t.en/\s.en<=t.en/\∀j u,p<j->j<i->L[j]? =some u->u.en<=((a+i:Nat):Int)
structure Fo (xs:List G1):Prop where
 ne:0<xs.length
 rt:∀s:G1,xs[0]? =some s->s.pa= -1/\s.dp=0/\s.en=(xs.length:Int)
 up:∀(i:Nat) (s:G1),xs[i]? =some s->(i:Int)<s.en/\s.en<=(xs.length:Int)
 pa:∀(i:Nat) (s:G1),0<i->xs[i]? =some s->ahG xs 0 i s
abbrev Ft:=Int×Int
def bad (ok:Bool) (e a:Int):List Ft:=if ok then[]else[(e,a)]
def Cd (L:List Ft):Prop:=∀p,p∈L->p.1≠0
theorem Cd.nil:Cd []:=fun p h=>by simp at h
theorem rR {s:aB}:∀{l:List (aB)},uM s l<l.length↔s∈l
 | []=>by simp
 | x::l=>by
  rw[uM,aL,aH];split
  ·rename_i e;exact⟨fun _=>.inl e,fun _=>by omega⟩
  ·rename_i e;have:=rR (s:=s) (l:=l);exact⟨fun h=>.inr (this.1 (by omega)),fun h=>by have:=this.2 (h.resolve_left e);omega⟩
theorem Ie {s:aB} (m:List (aB)):∀{l:List (aB)},s∈l->uM s (l++m)=uM s l
 | [],h=>by simp at h
 | x::l,h=>by
  rw[cn,uM,uM];split
  ·rfl
  ·rename_i e;rw[Ie m ((aL.1 h).resolve_left e)]
theorem Ig {s:aB} (m:List (aB)):∀{l:List (aB)},s∉l->uM s (l++s::m)=l.length
 | [],_=>by rw[cd,uM,if_pos rfl];rfl
 | x::l,h=>by
  rw[cn,uM,if_neg (fun e=>h (by rw[e];simp)),Ig m (fun hm=>h (cL _ hm))];rfl
end Go.Proofs.YtmhoiicofhlgbaaGreatDoor.Con
namespace Go.Proofs.YtmhoiicofhlgbaaGreatDoor.Con
open Go.Value renaming int->O,string->ab,pointer->ae,agg->ah,tuple->ai,bool->aj
open Go.IntKind renaming i64->U,wrap->ar
open Go.Ending renaming returned->ak
open _root_.ByteArray renaming mk->ao
open _root_.Go.Proofs.Tryz renaming prog->aq
open Go.Instr renaming buildSlice->au
open Go renaming World->av,Value->aw,Calls->az
open Go.Kt renaming Only->ay
open Go Go.RowKit Go.Kt Go.Kt.V Go.Proofs.YtmhoiicofhlgbaaGreatDoor.Vc
set_option linter.unusedSimpArgs false
set_option linter.unusedVariables false
set_option maxHeartbeats 4000000
theorem Up.more {st ch:St} {c:Bool} {n:Nat} (h:Up st c 0 ch) (hn:c=true->n=0):Up st c n ch:=by
 cases c with
 | true=>rw[hn rfl];exact h
 | false=>
  refine⟨?_,fun e=>?_⟩
  ·rw[h.w];simp
  ·have:=h.w;rw[e]at this;simp at this
def TT:List (aB):=[[],yp,oM,qN,DS]
theorem abW {k:Int} (h1:1<=k) (h2:k<=4):TT[k.toNat]? =some (kW k):=by
 have:k=1∨k=2∨k=3∨k=4:=by omega
 rcases this with rfl | rfl | rfl | rfl<;>rfl
theorem TU (k:Int):ne (kW k)=true:=by
 unfold kW;split
 ·rfl
 split
 ·rfl
 split
 ·rfl
 ·rfl
theorem VE (k:Int):(kW k).length<=8:=by
 unfold kW;split
 ·decide
 split
 ·decide
 split
 ·decide
 ·decide
theorem Ih {d:Nat} {b:Nb} {l:List Nd} (hk:b.k=1∨b.k=2) (hd:d<12):((decide (b.dft=[])&&cF b.nm)&&wy b l (d+1))=jJ d (.mk b l):=by
 have hh:j5 b.k=false:=by unfold j5;exact aZ (by omega)
 rw[jJ,bh hd,bK];unfold sC wy;rw[hh,if_neg (by decide)];have:decide ((b.k=1∨b.k=2)/\b.dft=[])=decide (b.dft=[]):=by simp[hk]
 rw[this];generalize decide (b.dft=[])=A;generalize cF b.nm=B;generalize (decide (b.ini=[])||cF b.ini)=C;generalize b.en.all fC=D;generalize b.lv.all fC=E;generalize b.mv.all jA=G;generalize gK (d+1) l=H;cases A<;>cases B<;>cases C<;>cases D<;>cases E<;>cases G<;>cases H<;>rfl
theorem Ii {d:Nat} {b:Nb} {l:List Nd} (hk:b.k=3∨b.k=4) (hd:d<12):(((decide (b.ini=[])&&decide (b.en=[]/\b.lv=[]/\b.mv=[]/\l=[]))&&cF b.nm)&&cF b.dft)=jJ d (.mk b l):=by
 have hh:j5 b.k=true:=by unfold j5;exact bh hk
 rw[jJ,bh hd,bK];unfold sC;rw[hh,if_pos rfl];by_cases hl:l=[]
 ·subst hl;have:decide (b.ini=[]/\b.en=[]/\b.lv=[]/\b.mv.length=0/\([]:List Nd).length=0)=(decide (b.ini=[])&&decide (b.en=[]/\b.lv=[]/\b.mv=[]/\([]:List Nd)=[])):=by
   rw[bq];simp
  rw[this,gK];generalize decide (b.ini=[])=A;generalize decide (b.en=[]/\b.lv=[]/\b.mv=[]/\([]:List Nd)=[])=B;cases A<;>cases B<;>cases cF b.nm<;>cases cF b.dft<;>rfl
 ·have h1:decide (b.en=[]/\b.lv=[]/\b.mv=[]/\l=[])=false:=aZ fun h=>hl h.2.2.2;have h2:decide (b.ini=[]/\b.en=[]/\b.lv=[]/\b.mv.length=0/\l.length=0)=false:=aZ fun h=>hl (bc h.2.2.2.2);rw[h1,h2];simp
theorem Ij {d:Nat} {b:Nb} {l:List Nd} (h:¬(1<=b.k/\b.k<=4)∨12<=d):jJ d (.mk b l)=false:=by
 rw[jJ];rcases h with h | h
 ·have hh:j5 b.k=false:=by unfold j5;exact aZ (by omega)
  have:decide ((b.k=1∨b.k=2)/\b.dft=[])=false:=aZ (by omega);unfold sC;rw[hh,if_neg (by decide),this];simp
 ·rw[aZ (by omega)];rfl
theorem Ik:∀D,MN D
 | 0=>by
  intro w0 w b l st F x cs d h hx;exact hx.elim
 | D+1=>by
  intro w0 w b l st F x cs d h hx hF hn hs hd hE hT;obtain⟨bb,ks⟩:=x;have R7:=hx;obtain⟨en,lv,mv,kids,rfl,sJ,ta⟩:=hx;have sJ:BI false w F bb en lv mv:=sJ;have ta:ja false (li false D) 9 27 w F kids ks:=ta;show az aq 90 #[rp b,ah (mU bb.k bb.nm bb.ini bb.dft en lv mv kids bb.a).toArray,O U (d:Int)] w _;rw[vX]at hn;rw[mX]at hs;have NX:=hs;unfold An at NX;refine ret (aaI _ _ _ _ _ _ _ _ _ _ _ _ _ ?_);unfold Ty;intro k0 w1 gN dJ bZ;have t1:=(h.z false).al bZ gN dJ;obtain⟨q,sl,hB,_⟩:=t1.toQz.set;have bad:∀{w':av} {ch:St} {lx:aB},ch.1=true->Zq false w0 w b w' lx ch [k0]->(st.1=true∨jJ d (.mk bb ks)=false)->∃ch l',Up st (jJ d (.mk bb ks)) (rQ (.mk bb ks)) ch/\(ch.1=false->l'=cT l (ze d (.mk bb ks)))/\Qz w0 b w' l' ch/\Mw false b w w':=by
   intro w' ch lx e t hc;refine⟨ch,lx,⟨?_,fun e2=>absurd (e.symm.trans e2) (by decide)⟩,fun e2=>absurd (e.symm.trans e2) (by decide),t.toQz,t.m⟩;rw[e];rcases hc with hc | hc
   ·rw[hc];rfl
   ·rw[hc];simp
  refine⟨st.1,Blk.dI hB 2 rfl,fun hc=>?_,fun hc=>?_⟩
  ·refine(ju t1.toQz false).mono ?_;rintro _ w2 ⟨rfl,wk,u1,u2,u3⟩;refine⟨rfl,t1.sm u3 (by simp),rfl,bad (by rw[u1.w];simp) (t1.nx u2 u3.up) ?_⟩;rw[bS]at hc;rcases hc with hc | hc
   ·exact .inl hc
   ·exact .inr (Ij (.inr (by have:=aG hc;omega)))
  rw[dX]at hc;have Xx:d<12:=by have:=aI hc.2;omega
  obtain⟨q2,w2,g,cs,e2,cp,hg1,hg2,kC,cy⟩:=ME w1 TT (n:=5) (parts:=#[.mk 0 (ab (ao #[])),.mk 1 (ab (ao #[115,116,97,116,101])),.mk 2 (ab (ao #[112,97,114,97,108,108,101,108])),.mk 3 (ab (ao #[104,105,115,116,111,114,121])),.mk 4 (ab (ao #[100,101,101,112]))]) rfl rfl (by decide) (by decide);have t2:=t1.al cp hg1 hg2;have hwd:1<=bb.k/\bb.k<=4->ck q2 bb.k 1 ⟨g,bb.k.toNat,none⟩/\∀w',Blk w' g 9 cs->Cells w' ⟨g,bb.k.toNat,none⟩ [ab (T (kW bb.k))]:=fun hk=>by
   have:=cy _ _ (abW hk.1 hk.2);rwa[fM (by omega)]at this
  have Oo:=VE bb.k;have z2:∀{w3:av},ay [] w2 w3->Blk w3 g 9 cs:=fun hO=>hO.blk kC (by simp);have z2m:∀{w3 w4:av} {lx:aB} {sx:St} {f:Bool},Zq false w0 w b w3 lx sx [g,k0]->Mw f b w3 w4->Blk w3 g 9 cs->Blk w4 g 9 cs:=fun t m hB=>(t.sm (ks':=[g]) m (by simp) g (by simp)).trans hB;refine⟨q2,w2,e2,t1.sq cp (by simp),fun b1 w3=>w2=w3/\b1=decide (bb.k=1∨bb.k=2),?_,fun wL=>⟨rfl,?_⟩,fun wL=>⟨rfl,?_⟩⟩
  ·rintro b1 _ ⟨rfl,rfl⟩;refine⟨fun R4=>?_,fun R4=>?_⟩
   ·have hk:=aG R4;have Xy:1<=bb.k/\bb.k<=4:=by omega
    obtain⟨y1,y2⟩:=hwd Xy;rw[show ao #[]=T []from rfl,gV];refine(ju t2.toQz _).mono ?_;rintro _ w4 ⟨rfl,GZ,u1,u2,u3⟩;have t4:=t2.nx u2 u3.up;refine⟨rfl,t2.sm u3 (by simp),fun w5 dS=>⟨fun k=>k∈[k0,g],by simp,_,y1,by simp,_,y2 w5 (dS.blk (z2m t2 u3 kC) (by simp)),?_⟩⟩;have t5:=t4.q dS;refine(lI t5.toQz bb.nm (by omega)).mono ?_;rintro _ w6 ⟨rfl,st6,v1,v2,v3⟩;have t6:=t5.nx v2 v3.up;have xq:=io [kW bb.k,bb.nm,[123]];simp only[bg,gu,bQ,gZ,aH,aN]at xq;obtain⟨q7,w7,e7,fz,hj7⟩:=vY t6.toQz [kW bb.k,bb.nm,[123]] (n:=3) (parts:=#[.mk 0 (ab (T (kW bb.k))),.mk 1 (ab (T bb.nm)),.mk 2 (ab (T [123]))]) rfl rfl (by decide) (by decide) d hd (by omega);refine⟨_,rfl,t5.sm v3 (by simp),bE.of (t5.sm v3 (by simp)),q7,w7,e7,t6.sq fz (by simp),bE.of (t6.sq fz (by simp)),hj7.mono ?_⟩;rintro _ w8 ⟨rfl,x1,x2⟩;have t8:=t6.nx x1 x2;have Uv:st6.1=false->(if st6.1 then l else gW l (d,fk [kW bb.k,bb.nm,[123]]))=cT l [(d,kW bb.k++32::(bb.nm++[32,123]))]:=fun e=>by
     rw[e,if_neg (by decide),lp,nR (TU _),eZ (pN (v1.ok e).2.1),eZ (by rfl),ei,eY,eY,lm];rfl
    generalize (if st6.1 then l else gW l (d,fk [kW bb.k,bb.nm,[123]]))=l8 at*
    have ed:ar U ((d:Int)+1)=((d+1:Nat):Int):=by rw[fy (by omega) (by omega)];rfl
    rw[ed];refine⟨rfl,t6.sl fz x2 (by simp),bE.of (t6.sl fz x2 (by simp)),(MO (Ik D) t8.toQz (sJ.keep fun k hk _=>h.arg t8.toQz (hF k hk)) (ta.keep (cf false D) (by decide) fun k hk _=>h.arg t8.toQz (hF k hk)) hF hn.1 hn.2 hs (d+1) (by omega) hE hT).mono ?_⟩;rintro _ w9 ⟨rfl,Xn,l9,Us,hl9,y3,y4⟩;have t9:=t8.nx y3 y4;obtain⟨RM,cK,Cs,dy,Xs⟩:=vY t9.toQz [[125]] (n:=1) (parts:=#[.mk 0 (ab (T [125]))]) rfl rfl (by decide) (by decide) d hd (by decide);refine⟨rfl,t8.sm y4 (by simp),RM,cK,Cs,t9.sq dy (by simp),Xs.mono ?_⟩;rintro _ cY ⟨rfl,x3,x4⟩;have t11:=t9.nx x3 x4;refine⟨rfl,t9.sl dy x4 (by simp),rfl,Xn,_,((u1.tr v1).tr Us).cg (Ih hk Xx) (by rw[rQ];omega),fun e=>?_,t11.toQz,t11.m⟩;have hh:j5 bb.k=false:=by unfold j5;exact aZ (by omega)
    rw[ze,hh,e];simp only[fm,iy];rw[hl9 e,Uv (Us.ok e).1,<-eK];have e1:fk [[125]]=[125]:=by decide
    rw[e1,<-lp,<-eK];simp only[aV,cn,cd]
   ·have hnk:=aI R4;refine⟨fun b2 dz=>w2=dz/\b2=decide (bb.k=3∨bb.k=4),?_,fun hc4=>⟨rfl,?_⟩,fun hc4=>⟨rfl,?_⟩⟩
    ·rintro b2 _ ⟨rfl,rfl⟩;refine⟨fun hc5=>?_,fun hc5=>?_⟩
     ·have hk:=aG hc5;have Xy:1<=bb.k/\bb.k<=4:=by omega
      obtain⟨y1,y2⟩:=hwd Xy;have n4:=sJ.1.1.len;have n5:=sJ.2.1.1.len;have n6:=sJ.2.2.1.len;have n7:=ta.1.len;have a4:=gq bb.en;have a5:=gq bb.lv;have a6:=lW bb.mv;have a7:=mY ks;have akf:(ar U ((ar U ((ar U ((en.n:Int)+(lv.n:Int)))+(mv.n:Int)))+(kids.n:Int))==0)=decide (bb.en=[]/\bb.lv=[]/\bb.mv=[]/\ks=[]):=by
       rw[fy (x:=(en.n:Int)+(lv.n:Int)) (by omega) (by omega),fy (x:=(en.n:Int)+(lv.n:Int)+(mv.n:Int)) (by omega) (by omega),fy (by omega) (by omega),bq];simp only[cZ,bd];refine⟨fun e=>?_,fun⟨e1,e2,e3,e4⟩=>?_⟩
       ·exact⟨bc (by omega),bc (by omega),bc (by omega),bc (by omega)⟩
       ·rw[n4,n5,n6,n7,e1,e2,e3,e4];rfl
      rw[show ao #[]=T []from rfl,gV,akf];refine(ju t2.toQz _).mono ?_;rintro _ dF ⟨rfl,Xv,u1,u2,u3⟩;have t13:=t2.nx u2 u3.up;refine⟨rfl,t2.sm u3 (by simp),fun eI eh=>⟨fun k=>k∈[k0,g],by simp,_,y1,by simp,_,y2 eI (eh.blk (z2m t2 u3 kC) (by simp)),by simp,?_⟩⟩;have t14:=t13.q eh;refine(lI t14.toQz bb.nm (by omega)).mono ?_;rintro _ fQ ⟨rfl,ap0,v1,v2,v3⟩;have t15:=t14.nx v2 v3.up;refine⟨_,rfl,t14.sm v3 (by simp),bE.of (t14.sm v3 (by simp)),(lI t15.toQz bb.dft (by omega)).mono ?_⟩;rintro _ gP ⟨rfl,akg,x1,x2,x3⟩;have t16:=t15.nx x2 x3.up;have xq:=io [kW bb.k,bb.nm,[45,62],bb.dft++[59]];simp only[bg,gu,bQ,gZ,aH,aN,aD]at xq;obtain⟨q17,fY,e17,iP,akh⟩:=vY t16.toQz [kW bb.k,bb.nm,[45,62],bb.dft++[59]] (n:=4) (parts:=#[.mk 0 (ab (T (kW bb.k))),.mk 1 (ab (T bb.nm)),.mk 2 (ab (T [45,62])),.mk 3 (ab (T (bb.dft++[59])))]) rfl rfl (by decide) (by decide) d hd (by omega);refine⟨T bb.dft,rfl,t15.sm x3 (by simp),bE.of (t15.sm x3 (by simp)),by rw[bI];omega,q17,fY,by rw[show ao #[59]=T [59]from rfl,dH];exact e17,t16.sq iP (by simp),bE.of (t16.sq iP (by simp)),akh.mono ?_⟩;rintro _ iv ⟨rfl,y3,y4⟩;have t18:=t16.nx y3 y4;have hU:=((u1.tr v1).tr x1).cg (Ii hk Xx) rfl;refine⟨rfl,t16.sl iP y4 (by simp),bE.of (t16.sl iP y4 (by simp)),rfl,akg,_,hU.more fun qx=>?_,fun e=>?_,t18.toQz,t18.m⟩
      ·rw[<-Ii hk Xx]at qx;simp only[aE,bd]at qx;obtain⟨⟨⟨_,e1,e2,e3,e4⟩,_⟩,_⟩:=qx;rw[rQ,e4,jB];unfold uO;rw[e1,e2,e3];rfl
      ·have hh:j5 bb.k=true:=by unfold j5;exact bh hk
       have OZ:ne (bb.dft++[59])=true:=by
        have:bb.dft++[59]≠[]:=by simp
        unfold ne;rw[aZ this];rfl
       rw[ze,hh,if_pos rfl,e,if_neg (by decide),lp,nR (TU _),eZ (pN (v1.ok (x1.ok e).1).2.1),eZ (by rfl),eZ OZ,ei,eY,eY,eY,lm,br];rfl
     ·have ap2:=aI hc5;refine(ju t2.toQz false).mono ?_;rintro _ dF ⟨rfl,Xv,u1,u2,u3⟩;have t13:=t2.nx u2 u3.up;exact⟨rfl,t2.sm u3 (by simp),rfl,bad (by rw[u1.w];simp) ⟨t13.toQz,t13.m,fun k hk=>t13.k k (by simp at hk;simp[hk])⟩ (.inr (Ij (.inl (by omega))))⟩
    ·have:bb.k=3:=by simpa using hc4
     rw[hc4,bh (.inl this)]
    ·have:bb.k≠3:=by simpa using hc4
     rw[bq];simp[this]
  ·have:bb.k=1:=by simpa using wL
   rw[wL,bh (.inl this)]
  ·have:bb.k≠1:=by simpa using wL
   rw[bq];simp[this]
mutual
theorem MS:∀x:Nd,nQ x<=mX x
 | .mk b l=>by
  rw[nQ,mX];have:=uu l;unfold An;omega
theorem uu:∀l:List Nd,gy l<=iq l
 | []=>by rw[gy];exact aQ _
 | x::l=>by
  rw[gy,iq];exact jx (MS x) (uu l)
end
mutual
theorem VF:∀x:Nd,rP x<=mX x
 | .mk b l=>by
  rw[rP,mX];have:=rS l;have:=lW b.mv;unfold An;omega
theorem rS:∀l:List Nd,ku l<=iq l
 | []=>by rw[ku];exact aQ _
 | x::l=>by
  rw[ku,iq];exact jx (VF x) (rS l)
end
theorem oV (x:Nd):∀l:List Nd,gy (l++[x])=gy l+nQ x
 | []=>by simp[gy]
 | y::l=>by rw[cn,gy,gy,oV x l];omega
theorem rT (x:Nd):∀l:List Nd,ku (l++[x])=ku l+rP x
 | []=>by simp[ku]
 | y::l=>by rw[cn,ku,ku,rT x l];omega
theorem yJ:∀l m:List Nd,iq (l++m)=iq l+iq m
 | [],m=>by rw[cd,iq];omega
 | y::l,m=>by rw[cn,iq,iq,yJ l m];omega
theorem Il:∀(D:Nat) (w:av) (F:Nat->Prop) (x:Nd) (cs:List aw),li false D w F x cs->mX x<=8388608->az aq 36 #[ah cs.toArray] w fun e w'=>e=ak (ai #[O U (nQ x:Int),O U (rP x:Int)])/\ay [] w w'
 | 0,w,F,x,cs,hx,_=>hx.elim
 | D+1,w,F,x,cs,hx,hs=>by
  obtain⟨bb,ks⟩:=x;obtain⟨en,lv,mv,kids,rfl,sJ,ta⟩:=hx;have qn:=sJ.2.2.1;have qn:SliceF (wV false) 13 w F mv bb.mv:=qn;have hk:SliceF (li false D) 9 w F kids ks:=ta.1;show az aq 36 #[ah (mU bb.k bb.nm bb.ini bb.dft en lv mv kids bb.a).toArray] w _;refine ret (aak _ _ _ _ _ _ _ _ _ _ _ ?_);unfold Ti;have z1:=uu ks;have z2:=rS ks;have z3:=lW bb.mv;rw[mX]at hs;have NX:=hs;unfold An at NX;have n6:=qn.len;have n7:=hk.len;have z4:=mY ks;intro k0 w1 gN dJ bZ w2 cp;refine⟨fun nv a m i w'=>∃j:Nat,i=j/\j<=ks.length/\nv=ks.length-j/\a=(1+gy (ks.take j):Nat)/\m=(bb.mv.length+ku (ks.take j):Nat)/\k0<w'.heap.size/\ay [] w w',ks.length,⟨0,rfl,aQ _,rfl,by rw[dr,gy];rfl,by rw[dr,ku,n6];rfl,cb dJ cp.size,bZ.bP cp⟩,?_⟩;rintro nv _ _ _ w3 ⟨j,rfl,hj,rfl,rfl,rfl,I5,cO⟩;have ap3:iq ks=iq (ks.take j)+iq (ks.drop j):=by rw[<-yJ,eE]
  have y1:=uu (ks.take j);have y2:=rS (ks.take j);refine⟨fun hc=>?_,fun hc=>?_⟩
  ·have bJ:(j:Int)<kids.n:=aG hc;obtain⟨ad,y,cs,g1,g2,g3,g4,g5,g6⟩:=(SliceF.only (cf false D) (by decide) hk cO (by simp)).get (aO j) bJ;rw[aM]at g2;have PY:=oU (be g2);have od:ks.take (j+1)=ks.take j++[y]:=by
    rw[bn,g2];rfl
   have amY:iq ks=iq (ks.take (j+1))+iq (ks.drop (j+1)):=by rw[<-yJ,eE]
   have y3:gy (ks.take j)+nQ y<=iq (ks.take (j+1)):=by rw[<-oV,<-od];exact uu _
   have y4:ku (ks.take j)+rP y<=iq (ks.take (j+1)):=by rw[<-rT,<-od];exact rS _
   have Cy:=g6;cases D with
   | zero=>exact Cy.elim
   | succ D=>
   obtain⟨uT,uU,pX,jq,rfl,_⟩:=Cy;refine⟨ad,g1,_,_,_,_,uT,uU,pX,jq,_,g5,fun k3 w4 yX amZ dm=>?_⟩;refine(Il (D+1) w4 F y _ ((cf false _).keep g6 fun k _ bJ=>dm.block k bJ (by simp)) (by omega)).mono ?_;rintro _ w5 ⟨rfl,dS⟩;refine⟨_,_,rfl,dS.same (by have:=dm.size;simp;omega),ks.length-(j+1),by omega,j+1,by rw[fy (by omega) (by omega)];rfl,by omega,rfl,?_,?_,?_,(cO.bP dm).bP dS⟩
   ·rw[od,oV,fy (by omega) (by omega)];omega
   ·rw[od,rT,fy (by omega) (by omega)];omega
   ·have:=dm.size;have:=dS.size;omega
  ·have kO:¬(j:Int)<kids.n:=aI hc;have rB:j=ks.length:=by omega
   subst rB;rw[bB (aK _)];refine⟨?_,cO⟩;rw[nQ,rP,jR]
structure Pt4 (w:av) (b:Nat) (sl:Sl) (l:aB) (v2 v3:aw):Prop where
 blk:∃q:Option Addr,Blk w b 72 [ae q,sl.v,v2,v3]
 len:sl.n=l.length
 some:l≠[]->∃g,sl.a=.some ⟨g,0,none⟩/\b<g/\sl.c≠0/\(∃n,w.shape? g=.some (5,n)/\l.length<=n)/\Cells w ⟨g,0,none⟩ (l.map fx)
 cap:sl.a=none∨sl.c≠0
 big:l.length<=9223372036854775807
section
variable {w:av} {b:Nat} {sl:Sl} {l:aB} {v2 v3:aw}
theorem Pt4.only {w':av} (h:Pt4 w b sl l v2 v3) (hO:ay [] w w'):Pt4 w' b sl l v2 v3:=by
 obtain⟨⟨q,h1⟩,h2,h3,h4,h5⟩:=h;refine⟨⟨q,hO.blk h1 (by simp)⟩,h2,fun hl=>?_,h4,h5⟩;obtain⟨g,a1,a2,a3,⟨n,a4,a5⟩,a6⟩:=h3 hl;have hg:g<w.heap.size:=by
  refine bf fun hn=>?_;unfold World.shape? at a4;rw[eL (by omega)]at a4;cases a4
 have hk:=hO.block g hg (by simp);exact⟨g,a1,a2,a3,⟨n,(yz hk).trans a4,a5⟩,a6.keep hk⟩
theorem Qz.pt {w0:av} {st:St} (h:Qz w0 b w l st):∃sl,Pt4 w b sl l (aj st.1) (O U st.2)/\∀k,sl.a=some ⟨k,0,none⟩->Bu w b k:=by
 obtain⟨q,sl,hq,hB,hb⟩:=h.ex;refine⟨sl,⟨⟨_,hB⟩,hb.len,fun hl=>?_,?_,?_⟩,fun k hk=>D8 hB hk⟩
 ·rcases hb with⟨_,e⟩ | ⟨g,tail,h1,h2,h3,h4,h5,h6,h7,h8⟩
  ·exact absurd e hl
  ·have h0:l.length≠0:=fun e=>hl (bc e);refine⟨g,h1,h2,by omega,⟨_,by unfold World.shape?;unfold Blk at h3;rw[h3],by simp⟩,h3.cells 0 (l.map fx) fun j v hj=>by rw[bm,bF (aP.1 hj).1];exact hj⟩
 ·rcases hb with⟨e,_⟩ | ⟨g,tail,h1,h2,h3,h4,h5,h6,h7,h8⟩
  ·exact .inl (by rw[e])
  ·exact .inr (by omega)
 ·rcases hb with⟨_,e⟩ | ⟨g,tail,h1,h2,h3,h4,h5,h6,h7⟩
  ·subst e;simp
  ·omega
theorem Im (h:Pt4 w b sl l v2 v3):az aq 43 #[ae (some ⟨b,0,none⟩)] w fun e w'=>e=ak (ab (T l))/\Pt4 w' b sl l v2 v3/\OnlyP (fun k=>b<k/\sl.a=some ⟨k,0,none⟩) w w':=by
 refine ret (Tx _ _ _ ?_);unfold L3;intro w0 bT;have h0:=h.only bT;obtain⟨⟨q,hB⟩,dN,E4,mD,og⟩:=h0;refine⟨fun k=>k=b,sl,Blk.dI hB 1 rfl,rfl,sl,Blk.dI hB 1 rfl,sl.a,w0,?_,fun k _ _=>rfl,?_⟩
 ·obtain⟨sa,sn',sc⟩:=sl;cases sa with
  | none=>exact Lib.run_unsafeSliceData_nil _ _ _ _ _
  | some a=>
   rcases mD with e | e
   ·cases e
   ·exact Lib.run_unsafeSliceData_row _ _ _ _ _ _ e
 ·by_cases hl:l=[]
  ·subst hl;have hn:sl.n=0:=dN;refine⟨T [],w0,?_,fun k _ _=>rfl,rfl,⟨⟨q,hB⟩,dN,E4,mD,og⟩,bT.p0⟩;rw[hn];exact Lib.run_unsafeString_none _ _ _ _ _
  ·obtain⟨g,ha,Om,hc,⟨m,qi,hm⟩,tE⟩:=E4 hl;have hF:=qL w0 ⟨g,0,none⟩ l.length;have I1:b<w0.heap.size:=hB.lt;refine⟨T l,w0.freeze ⟨g,0,none⟩ l.length,?_,fun k hk bJ=>hF.block k bJ (by dsimp only;omega),rfl,⟨⟨q,hF.blk hB (by dsimp only;omega)⟩,dN,fun _=>⟨g,ha,Om,hc,⟨m,(ui _ _ _ _).trans qi,hm⟩,fun j v hj=>by rw[qK];exact tE j v hj⟩,mD,og⟩,bT.yT (hF.mono fun k _ hk=>by dsimp only at hk;exact⟨by omega,by rw[hk];exact ha⟩)⟩;rw[ha,dN];exact Lib.run_unsafeString_row _ _ _ _ 5 (by kernel_rfl) (by kernel_rfl) g m qi l hl hm og fun j x hj=>tE j (fx x) (by rw[cH,hj];rfl)
end
def pO (c:Ch):aB×Int:=
 if qk c=true then(if 16384<(cT [] (xa c)).length then([],2)else if(iZ (cT [] (xa c))).2.1≠0 then([],22)else(cT [] (xa c),0))else([],22)
def nB:List Vr->Nat
 | []=>0
 | v::l=>(v.n.length+1)+nB l
theorem uv {v:Vr}:∀{l:List Vr},v∈l->v.n.length+1<=nB l
 | [],h=>by simp at h
 | x::l,h=>by
  rw[nB];rcases aL.1 h with rfl | h
  ·omega
  ·have:=uv h;omega
theorem yK:∀l:List Vr,l.length<=nB l
 | []=>aQ _
 | v::l=>by
  have:=yK l;rw[nB,aH];omega
def sF (v:Vr):Bool:=cF v.n&&decide (v.v≠ -9223372036854775808)
theorem Rb (c:Ch):((((((decide (c.root.b.k=1)&&decide (c.root.b.dft=[]))&&decide (c.vars.length<=16))&&decide (nQ c.root<=64))&&decide (rP c.root<=200))&&cF c.root.b.nm)&&(c.vars.all sF&&wy c.root.b c.root.kids 1)&&decide (rQ c.root<=400))=qk c:=by
 obtain⟨vars,⟨b,l⟩⟩:=c;unfold qk;show((((((decide (b.k=1)&&decide (b.dft=[]))&&decide (vars.length<=16))&&decide (nQ (.mk b l)<=64))&&decide (rP (.mk b l)<=200))&&cF b.nm)&&(vars.all sF&&wy b l 1)&&decide (rQ (.mk b l)<=400))=(vars.all sF&&jJ 0 (.mk b l)&&decide (b.k=1/\vars.length<=16/\nQ (.mk b l)<=64/\rP (.mk b l)<=200/\rQ (.mk b l)<=400))
 by_cases hk:b.k=1
 ·rw[<-Ih (d:=0) (.inl hk) (by decide)];have:decide (b.k=1/\vars.length<=16/\nQ (.mk b l)<=64/\rP (.mk b l)<=200/\rQ (.mk b l)<=400)=(decide (vars.length<=16)&&decide (nQ (.mk b l)<=64)&&decide (rP (.mk b l)<=200)&&decide (rQ (.mk b l)<=400)):=by
   rw[bq];simp[hk,and_assoc]
  rw[this,bh hk];generalize decide (b.dft=[])=A;generalize decide (vars.length<=16)=B;generalize decide (nQ (.mk b l)<=64)=C;generalize decide (rP (.mk b l)<=200)=D;generalize decide (rQ (.mk b l)<=400)=E;generalize cF b.nm=G;generalize vars.all sF=H;show _=(H&&((A&&G)&&wy b l (0+1))&&(B&&C&&D&&E))
  generalize wy b l (0+1)=I;cases A<;>cases B<;>cases C<;>cases D<;>cases E<;>cases G<;>cases H<;>cases I<;>rfl
 ·have:decide (b.k=1/\vars.length<=16/\nQ (.mk b l)<=64/\rP (.mk b l)<=200/\rQ (.mk b l)<=400)=false:=aZ fun h=>hk h.1;rw[this,aZ hk];simp
theorem BZ {w:av} {F:Nat->Prop} {D:Nat} {c:Ch} {vs:Sl} {cs:List aw} (hx:ChR false D w F c vs cs) (hn:PV c) (hs:nB c.vars+mX c.root<=8388608) (hE:Er w) (hT:Tb w):
  az aq 14 #[ah (vs.v::cs).toArray] w fun e w'=>e=ak (ai #[ab (T (pO c).1),O U (pO c).2])/\ay [] w w':=by
 obtain⟨vars,⟨bb,ks⟩⟩:=c;cases D with
 | zero=>exact hx.root.elim
 | succ D=>
 have Je:li false (D+1) w F (.mk bb ks) cs:=hx.root;have Xz:=(cf false _).inHeap Je;have vI:SliceF wW 3 w F vs vars:=hx.vars.1;obtain⟨en,lv,mv,kids,rfl,sJ,ta⟩:=Xz;have sJ:BI false w (fun k=>F k/\k<w.heap.size) bb en lv mv:=sJ;have ta:ja false (li false D) 9 27 w (fun k=>F k/\k<w.heap.size) kids ks:=ta;have hr:=hn.r;have hr:vX (.mk bb ks):=hr;have hvn:∀v,v∈vars->vR v.v:=hn.v;rw[vX]at hr;have hs:nB vars+mX (.mk bb ks)<=8388608:=hs;have hsN:mX (.mk bb ks)=An bb+iq ks:=by rw[mX]
 have NX:=hs;rw[hsN]at NX;unfold An at NX;have aez:=Rb ⟨vars,.mk bb ks⟩;generalize hP:pO ⟨vars,.mk bb ks⟩=P;unfold pO at hP;rw[<-aez]at hP;clear aez;have hP:(if((((((decide (bb.k=1)&&decide (bb.dft=[]))&&decide (vars.length<=16))&&decide (nQ (.mk bb ks)<=64))&&decide (rP (.mk bb ks)<=200))&&cF bb.nm)&&(vars.all sF&&wy bb ks 1)&&decide (rQ (.mk bb ks)<=400))=true then(if 16384<(cT [] (xa ⟨vars,.mk bb ks⟩)).length then([],2)else if(iZ (cT [] (xa ⟨vars,.mk bb ks⟩))).2.1≠0 then([],22)else(cT [] (xa ⟨vars,.mk bb ks⟩),0))else([],22))=P:=hP;show az aq 14 #[ah (vs.v::mU bb.k bb.nm bb.ini bb.dft en lv mv kids bb.a).toArray] w _;refine ret (agq _ _ _ _ _ _ _ _ _ _ _ _ ?_);unfold aaj;intro k0 b w1 gN dJ hb ml bZ;have hvl:=vI.len;have hvz:=yK vars;refine(Il (D+1) w1 F (.mk bb ks) _ ((cf false _).keep Je fun k _ bJ=>bZ.block k bJ (by simp)) (by omega)).mono ?_;rintro _ w2 ⟨rfl,cp⟩;have z2:=cp.size;refine⟨_,_,rfl,cp.same (by simp;omega),fun kC gf=>?_⟩;have q2:Qz w b w2 [] (false,0):=⟨bZ.bP cp,hb,⟨none,Sl.nil,.inl rfl,kC,.inl ⟨rfl,rfl⟩⟩,fun _=>⟨ig 0,by decide⟩,aQ _⟩
 have t2:Zq false w w2 b w2 [] (false,0) [k0]:=⟨q2,Mw.refl _ _ _,fun k hk=>by
  simp only[aF]at hk;subst hk;exact⟨by omega,gf,fun h=>by have:=H3 kC h;cases this⟩⟩
 have hF:∀k,(fun k=>F k/\k<w.heap.size) k->k<w.heap.size:=fun k hk=>hk.2;have hw:=q2.o;rw[show ao #[]=T []from rfl,gV,hvl];refine(ju t2.toQz _).mono ?_;rintro _ w3 ⟨rfl,Xm,u1,u2,u3⟩;have t3:=t2.nx u2 u3.up;have R4:((((bb.k==1)&&decide (bb.dft=[]))&&decide ((vars.length:Int)<=16))&&decide ((nQ (.mk bb ks):Int)<=64)&&decide ((rP (.mk bb ks):Int)<=200))=((((decide (bb.k=1)&&decide (bb.dft=[]))&&decide (vars.length<=16))&&decide (nQ (.mk bb ks)<=64))&&decide (rP (.mk bb ks)<=200)):=by
  rw[bq];simp only[aE,cZ,bd];constructor
  ·rintro⟨⟨⟨⟨a1,a2⟩,a3⟩,a4⟩,a5⟩;exact⟨⟨⟨⟨a1,a2⟩,by omega⟩,by omega⟩,by omega⟩
  ·rintro⟨⟨⟨⟨a1,a2⟩,a3⟩,a4⟩,a5⟩;exact⟨⟨⟨⟨a1,a2⟩,by omega⟩,by omega⟩,by omega⟩
 rw[R4]at u1;obtain⟨q3a,q3b,_,sK,_⟩:=t3.ex;refine⟨rfl,t2.sm u3 (by simp),q3a,q3b,_,_,sK,(lI t3.toQz bb.nm (by omega)).mono ?_⟩;rintro _ w4 ⟨rfl,GZ,v1,v2,v3⟩;have t4:=t3.nx v2 v3.up;obtain⟨q4a,q4b,_,qj,_⟩:=t4.ex;have xq:=io [dZ,bb.nm,[123]];simp only[bg,gu,bQ,gZ,aH,aN]at xq;have hwc:dZ.length=5:=rfl;obtain⟨q5,w5,e5,dS,hj5⟩:=vY t4.toQz [dZ,bb.nm,[123]] (n:=3) (parts:=#[.mk 0 (ab (T dZ)),.mk 1 (ab (T bb.nm)),.mk 2 (ab (T [123]))]) rfl rfl (by decide) (by decide) 0 (by decide) (by omega);refine⟨_,rfl,t3.sm v3 (by simp),q4a,q4b,_,_,qj,q5,w5,e5,?_,hj5.mono ?_⟩
 ·refine dS.same fun x hx=>⟨?_,by simp⟩
  simp only[aL,aU,bM]at hx;rcases hx with rfl | rfl
  ·exact(t4.k x (by simp)).1
  ·exact t4.toQz.lb
 rintro _ w6 ⟨rfl,x1,x2⟩;have t6:=t4.nx x1 x2;have hU6:=u1.tr v1;have Yq:GZ.1=false->(if GZ.1 then([]:aB)else gW [] (0,fk [dZ,bb.nm,[123]]))=cT [] [(0,dZ++32::(bb.nm++[32,123]))]:=fun e=>by
  rw[e];simp only[fm,iy];rw[lp,nR (by decide),eZ (pN (v1.ok e).2.1),eZ (by rfl),ei,eY,eY,lm];rfl
 generalize (if GZ.1 then([]:aB)else gW [] (0,fk [dZ,bb.nm,[123]]))=l6 at*
 obtain⟨q6a,q6b,_,KU,_⟩:=t6.ex;refine⟨rfl,t4.sl dS x2 (by simp),q6a,q6b,_,_,KU,fun nv i q l' wr ac w'=>∃(j:Nat) (ch:St) (l':aB),i=j/\j<=vars.length/\nv=vars.length-j/\Up GZ ((vars.take j).all sF) 0 ch/\(ch.1=false->l'=cT l6 ((vars.take j).map fun v=>(1,Ps v)))/\Zq false w w2 b w' l' ch [k0],
  vars.length,⟨0,GZ,l6,rfl,aQ _,rfl,t6.toQz.V7,fun _=>rfl,t6⟩,?_⟩
 rintro nv _ qa la wr ac w7 ⟨j,Ur,l7,rfl,hj,rfl,Jc,Jd,t7⟩;refine⟨fun hc=>?_,fun hc=>?_⟩
 ·have bJ:(j:Int)<vars.length:=aG hc;obtain⟨ad,v,cs,g1,g2,g3,g4,g5,g6⟩:=(SliceF.only ec (by decide) vI t7.o (by simp)).get (aO j) (by omega);rw[aM]at g2;have hvm:=be g2;have hvz:=uv hvm;have od:vars.take (j+1)=vars.take j++[v]:=by
   rw[bn,g2];rfl
  unfold wW at g6;subst g6;refine⟨ad,g1,_,_,_,g5,fun k4 w8 sM E3 fh _=>?_⟩;have t8:=t7.al fh sM E3;refine(ju t8.toQz _).mono ?_;rintro _ w9 ⟨rfl,Xn,y1,y2,y3⟩;have t9:=t8.nx y2 y3.up;obtain⟨q9a,q9b,_,Xw,_⟩:=t9.ex;refine⟨rfl,t8.sm y3 (by simp),q9a,q9b,_,_,Xw,fun cK dy _=>⟨fun k=>k∈[k4],by simp,?_⟩⟩;have t10:=t9.q dy;refine(lI t10.toQz v.n (by omega)).mono ?_;rintro _ cY ⟨rfl,Xt,y4,y5,y6⟩;have t11:=t10.nx y5 y6.up;obtain⟨akj,akk,_,zF,_⟩:=t11.ex;refine⟨_,rfl,t10.sm y6 (by simp),akj,akk,_,_,zF,bE.of (t10.sm y6 (by simp)),(wX v.v (hvn v hvm) (hT.only t11.o)).mono ?_⟩;rintro _ dz ⟨rfl,ey⟩;have t12:=t11.q ey;obtain⟨akl,akm,_,CF,_⟩:=t12.ex;have hil:=Eb (hvn v hvm);have xq:=io [sB,v.n,[61],Lib.itoa v.v++[59]];simp only[bg,gu,bQ,gZ,aH,aN,aD]at xq;have hwv:sB.length=3:=rfl;obtain⟨Wu,dF,Wt,dq,akn⟩:=vY t12.toQz [sB,v.n,[61],Lib.itoa v.v++[59]] (n:=4) (parts:=#[.mk 0 (ab (T sB)),.mk 1 (ab (T v.n)),.mk 2 (ab (T [61])),.mk 3 (ab (T (Lib.itoa v.v++[59])))]) rfl rfl (by decide) (by decide) 1 (by decide) (by omega);refine⟨T (Lib.itoa v.v),rfl,t11.sq ey (by simp),akl,akm,_,_,CF,bE.of (t11.sq ey (by simp)),by rw[bI];omega,Wu,dF,by rw[show ao #[59]=T [59]from rfl,dH];exact Wt,?_,bE.of (t12.sq dq (by simp)),akn.mono ?_⟩
  ·refine dq.same fun x hx=>⟨?_,by simp⟩
   simp only[aL,aU,bM]at hx;rcases hx with rfl | rfl | rfl
   ·exact(t12.k x (by simp)).1
   ·exact t12.toQz.lb
   ·exact(t12.k x (by simp)).1
  rintro _ eI ⟨rfl,y7,y8⟩;have t14:=t12.nx y7 y8;obtain⟨ako,akp,_,EZ,_⟩:=t14.ex;refine⟨rfl,t12.sl dq y8 (by simp),ako,akp,_,_,EZ,bE.of (t12.sl dq y8 (by simp)),vars.length-(j+1),by omega,j+1,Xt,_,by rw[fy (by omega) (by omega)];rfl,by omega,rfl,((Jc.tr y1).tr y4).cg ?_ rfl,fun e=>?_,⟨t14.toQz,t14.m,fun k hk=>t14.k k (by simp at hk;simp[hk])⟩⟩
  ·rw[od,iU];have:(v.v != -9223372036854775808)=decide (v.v≠ -9223372036854775808):=by rw[bq];simp
   rw[this];unfold sF;simp only[jh,List.all_nil,cA];rw[sO,Bool.and_comm (decide _) (cF _)]
  ·have OZ:ne (Lib.itoa v.v++[59])=true:=by
    have:Lib.itoa v.v++[59]≠[]:=by simp
    unfold ne;rw[aZ this];rfl
   rw[e];simp only[fm,iy];rw[Jd (y1.ok (y4.ok e).1).1,od,di,eK,nR (by decide),eZ (pN (y4.ok e).2.1),eZ (by rfl),eZ OZ,ei,eY,eY,eY,lm,br];rfl
 have kO:¬(j:Int)<vars.length:=aI hc;have rB:j=vars.length:=by omega
 subst rB;rw[bB (aK _)]at Jc Jd;refine(MO (Ik D) t7.toQz (sJ.keep fun k hk _=>t7.o.block k hk.2 (by simp)) (ta.keep (cf false D) (by decide) fun k hk _=>t7.o.block k hk.2 (by simp)) hF hr.1 hr.2 (by omega) 1 (by decide) hE hT).mono ?_;rintro _ w8 ⟨rfl,Xr,l8,hU8,Uv,y1,y2⟩;have t8:=t7.nx y1 y2;obtain⟨q8a,q8b,_,wm,_⟩:=t8.ex;obtain⟨q9,w9,e9,fK,hj9⟩:=vY t8.toQz [[125]] (n:=1) (parts:=#[.mk 0 (ab (T [125]))]) rfl rfl (by decide) (by decide) 0 (by decide) (by decide);refine⟨rfl,t7.sm y2 (by simp),q8a,q8b,_,_,wm,q9,w9,e9,?_,hj9.mono ?_⟩
 ·refine fK.same fun x hx=>⟨?_,by simp⟩
  simp only[aL,aU,bM]at hx;rcases hx with rfl | rfl
  ·exact(t8.k x (by simp)).1
  ·exact t8.toQz.lb
 rintro _ cK ⟨rfl,x3,x4⟩;have t10:=t8.nx x3 x4;have hU:=hU6.tr (Jc.tr hU8);have hlF:Xr.1=false->(if Xr.1 then l8 else gW l8 (0,fk [[125]]))=cT [] (xa ⟨vars,.mk bb ks⟩):=fun e=>by
  obtain⟨e7,_⟩:=hU8.ok e;obtain⟨e4,_⟩:=Jc.ok e7;rw[e];simp only[fm,iy];rw[Uv e,Jd e7,Yq e4];have e1:fk [[125]]=[125]:=by decide
  rw[e1,<-lp,<-eK,<-eK,<-eK];unfold xa;rw[aV (zx 1 bb)];exact rfl
 generalize (if Xr.1 then l8 else gW l8 (0,fk [[125]]))=lF at*
 obtain⟨aeB,aeC,_,nt,_⟩:=t10.ex;have hcond:((((((decide (bb.k=1)&&decide (bb.dft=[]))&&decide (vars.length<=16))&&decide (nQ (.mk bb ks)<=64))&&decide (rP (.mk bb ks)<=200))&&cF bb.nm)&&(vars.all sF&&wy bb ks 1)&&decide (rQ (.mk bb ks)<=400))=!Xr.1:=by
  have h1:=hU.w;have akq:decide (400<(0:Int)+((0+0+(0+(uO bb+jB ks)):Nat):Int))=!decide (rQ (.mk bb ks)<=400):=by
   rw[rQ];by_cases h4:uO bb+jB ks<=400
   ·rw[bh h4,aZ (by omega)];rfl
   ·rw[aZ h4,bh (by omega)];rfl
  have h1:Xr.1=((false||!((((((decide (bb.k=1)&&decide (bb.dft=[]))&&decide (vars.length<=16))&&decide (nQ (.mk bb ks)<=64))&&decide (rP (.mk bb ks)<=200))&&cF bb.nm)&&(vars.all sF&&wy bb ks 1)))||decide (400<(0:Int)+((0+0+(0+(uO bb+jB ks)):Nat):Int))):=h1;rw[akq]at h1;rw[h1];generalize ((((((decide (bb.k=1)&&decide (bb.dft=[]))&&decide (vars.length<=16))&&decide (nQ (.mk bb ks)<=64))&&decide (rP (.mk bb ks)<=200))&&cF bb.nm)&&(vars.all sF&&wy bb ks 1))=A;generalize decide (rQ (.mk bb ks)<=400)=B;cases A<;>cases B<;>rfl
 rw[hcond]at hP;have fin:∀{w':av},ay [] w2 w'->ay [] w w':=fun h=>hw.bP h;have Yz:ay [] w cK:=t10.o;refine⟨rfl,t8.sl fK x4 (by simp),aeB,aeC,_,_,nt,fun e=>?_,fun e=>(H7 t10.toQz).mono ?_⟩
 ·rw[if_neg (by rw[e];decide)]at hP;subst hP;exact⟨rfl,Yz⟩
 rw[if_pos (by rw[e];rfl),<-hlF e]at hP;rintro _ _ ⟨rfl,rfl⟩;obtain⟨slP,hPt,hPb⟩:=t10.toQz.pt;have hbu:=fun k hk=>t10.toQz.bu (hPb k hk);refine⟨_,rfl,fun _ _=>rfl,aeB,aeC,_,_,nt,fun e2=>?_,fun e2=>(Im hPt).mono ?_⟩
 ·rw[if_pos (aG e2)]at hP;subst hP;exact⟨rfl,Yz⟩
 rw[if_neg (aI e2)]at hP;rintro _ cY ⟨rfl,Uw,dP⟩;have E1:=dP.size;have hlb:=t10.toQz.lb;have k0h:=t10.k k0 (by simp);have ko:∀k,(b<k/\slP.a=some ⟨k,0,none⟩)->w.heap.size<=k:=fun k hk=>by have:=t10.lo;omega
 have o11:ay [] w cY:=(Yz.yT dP).only ko;obtain⟨Wq,zF⟩:=Uw.blk;refine⟨_,rfl,dP.same fun x hx=>?_,Wq,slP,_,_,zF,(D7 _ (hE.only o11)).mono ?_⟩
 ·simp only[aF]at hx;subst hx;exact⟨k0h.1,fun h=>k0h.2.2 (hPb _ h.2)⟩
 rintro _ dz ⟨vsx,csx,rfl,hC,ey⟩;obtain⟨xe,xl,xm,xk,rfl,_⟩:=hC.root;have Ux:=Uw.only ey;obtain⟨q12,CF⟩:=Ux.blk;have o12:=o11.bP ey;have z12:=ey.size;refine⟨vsx,_,_,_,_,xe,xl,xm,xk,_,_,_,rfl,ey.same (by simp;omega),q12,slP,_,_,CF,fun e3 k6 k7 dF _ _ _ _ dq _=>?_,fun e3 k8 k9 eI hk8 RR hk9 aeD eh _=>?_⟩
 ·rw[if_pos (by simpa using e3)]at hP;subst hP;exact⟨rfl,o12.bP dq⟩
 ·rw[if_neg (by simpa using e3)]at hP;subst hP;refine(Im (Ux.only eh)).mono ?_;rintro _ fQ ⟨rfl,aeE,jN⟩;obtain⟨q15,Xh⟩:=aeE.blk;have WE:=eh.size;refine⟨_,rfl,jN.same fun x hx=>?_,q15,slP,_,_,Xh,rfl,((o12.bP eh).yT jN).only ko⟩;simp only[aL,aU,bM]at hx;rcases hx with rfl | rfl | rfl
  ·exact⟨by omega,fun h=>k0h.2.2 (hPb _ h.2)⟩
  ·exact⟨RR,fun h=>by have:=(hbu _ h.2).2;omega⟩
  ·exact⟨aeD,fun h=>by have:=(hbu _ h.2).2;omega⟩
def vm:aB:=[99,104,97,114,116,32,99,123,118,97,114,32,110,61,45,50,59,115,116,97,116,101,32,97,123,111,110,32,103,111,91,110,60,48,93,123,115,101,116,32,110,61,110,43,49,59,125,45,62,98,44,97,59,101,110,116,101,114,123,125,125,100,101,101,112,32,104,45,62,97,59,125]
def TV:aB:=[99,104,97,114,116,32,99,32,123,10,32,32,118,97,114,32,110,32,61,32,45,50,59,10,32,32,115,116,97,116,101,32,97,32,123,10,32,32,32,32,111,110,32,103,111,32,91,110,32,60,32,48,93,32,123,32,115,101,116,32,110,32,61,32,110,32,43,32,49,59,32,125,32,45,62,32,98,44,32,97,59,10,32,32,125,10,32,32,100,101,101,112,32,104,32,45,62,32,97,59,10,125,10]
def inB (n:Int):Bool:=decide (-9223372036854775808<=n/\n<=9223372036854775807)
theorem MT {n:Int} (h:inB n=true):vR n:=by
 have h:=aG h;exact⟨h.1,h.2⟩
mutual
def XW:Ex->Bool
 | .mk _ n _ _ l _=>inB n&&Rc l
def Rc:List Ex->Bool
 | []=>true
 | x::l=>XW x&&Rc l
end
theorem Io {y:Ex}:∀{l:List Ex},Rc l=true->y∈l->XW y=true
 | [],_,h=>by simp at h
 | x::l,h,hy=>by
  rw[Rc,aE]at h;rcases aL.1 hy with rfl | hy
  ·exact h.1
  ·exact Io h.2 hy
theorem VG:∀(d:Nat) {x:Ex},XW x=true->jm d x
 | 0,_,_=>trivial
 | d+1,.mk k n s op l a,h=>by
  rw[XW,aE]at h;exact⟨MT h.1,fun y hy=>VG d (Io h.2 hy)⟩
def nAb (a:Ac):Bool:=XW a.x
def nMb (m:Mv):Bool:=XW m.g&&m.acts.all nAb&&inB m.wt
def nNb (b:Nb):Bool:=b.en.all nAb&&b.lv.all nAb&&b.mv.all nMb
mutual
def nDb:Nd->Bool
 | .mk b l=>nNb b&&Re l
def Re:List Nd->Bool
 | []=>true
 | x::l=>nDb x&&Re l
end
theorem MU {l:List Ac} (h:l.all nAb=true):∀a,a∈l->Ai a:=fun a ha d=>VG d ((dB.1 h) a ha)
theorem ahJ {m:Mv} (h:nMb m=true):KW m:=by
 unfold nMb at h;simp only[aE]at h;exact⟨fun d=>VG d h.1.1,MU h.1.2,MT h.2⟩
theorem ahK {b:Nb} (h:nNb b=true):Un b:=by
 unfold nNb at h;simp only[aE]at h;exact⟨MU h.1.1,MU h.1.2,fun m hm=>ahJ ((dB.1 h.2) m hm)⟩
mutual
theorem abX:∀(x:Nd),nDb x=true->vX x
 | .mk b l,h=>by
  rw[nDb,aE]at h;rw[vX];exact⟨ahK h.1,TW l h.2⟩
theorem TW:∀(l:List Nd),Re l=true->sE l
 | [],_=>by rw[sE];trivial
 | x::l,h=>by
  rw[Re,aE]at h;rw[sE];exact⟨abX x h.1,TW l h.2⟩
end
def nCb (c:Ch):Bool:=(c.vars.all fun v=>inB v.v)&&nDb c.root
theorem ahM {c:Ch} (h:nCb c=true):PV c:=by
 unfold nCb at h;simp only[aE]at h;exact⟨fun v hv=>MT ((dB.1 h.1) v hv),abX _ h.2⟩
def ahN (c:Ch):Bool:=decide (nB c.vars+mX c.root<=8388608)
def sm8:Bool:=(decide ((iZ vm).2.1=0/\pO (iZ vm).1=(TV,0))&&nCb (iZ vm).1)&&ahN (iZ vm).1
theorem VH:sm8=true:=by kernel_rfl
theorem ChR.off {d:Nat} {w:av} {F:Nat->Prop} {c:Ch} {vs:Sl} {cs:List aw} (h:ChR true d w F c vs cs):ChR false d w F c vs cs:=⟨h.vars.off fun _ _ _ h=>h,HJ h.root⟩
theorem MV (w:av) (hE:Er w) (hT:Tb w):az aq 11 #[] w fun e w'=>e=ak (aj true)/\ay [] w w':=by
 refine ret (agc _ _ ?_);unfold Zo;refine(D7 vm hE).mono ?_;rintro _ w0 ⟨vs,cs,rfl,hC,bT⟩;have qx:=VH;unfold sm8 at qx;simp only[aE]at qx;obtain⟨⟨qx,hn⟩,hz⟩:=qx;have qx:=aG qx;have hn:=ahM hn;have hz:=aG hz;generalize iZ vm=P at*
 obtain⟨xe,xl,xm,xk,rfl,_⟩:=hC.root;have z0:=bT.size;refine⟨vs,_,_,_,_,xe,xl,xm,xk,_,_,_,rfl,fun k0 k1 w1 gN dJ jO jb bZ=>?_⟩;have z1:=bZ.size;have o1:=bT.bP bZ;have hC1:ChR true 15 w1 (Fr w.heap.size) P.1 vs (mU P.1.root.b.k P.1.root.b.nm P.1.root.b.ini P.1.root.b.dft xe xl xm xk P.1.root.b.a):=⟨hC.vars.keep ec (by decide) fun k _ bJ=>bZ.block k bJ (by simp),(cf true 15).keep hC.root fun k _ bJ=>bZ.block k bJ (by simp)⟩
 refine(BZ hC1.off hn hz (hE.only o1) (hT.only o1)).mono ?_;rintro _ w2 ⟨rfl,cp⟩;refine⟨_,_,rfl,cp.same (by simp;omega),?_,o1.bP cp⟩;rw[show(ao #[99,104,97,114,116,32,99,32,123,10,32,32,118,97,114,32,110,32,61,32,45,50,59,10,32,32,115,116,97,116,101,32,97,32,123,10,32,32,32,32,111,110,32,103,111,32,91,110,32,60,32,48,93,32,123,32,115,101,116,32,110,32,61,32,110,32,43,32,49,59,32,125,32,45,62,32,98,44,32,97,59,10,32,32,125,10,32,32,100,101,101,112,32,104,32,45,62,32,97,59,10,125,10])=T TV from rfl,qx.2,qx.1,gV];simp
end Go.Proofs.YtmhoiicofhlgbaaGreatDoor.Con
namespace Go.Proofs.YtmhoiicofhlgbaaGreatDoor.Con
open Go.Value renaming int->O,string->ab,pointer->ae,agg->ah,tuple->ai,bool->aj
open Go.IntKind renaming i64->U,wrap->ar
open Go.Ending renaming returned->ak
open _root_.ByteArray renaming mk->ao
open _root_.Go.Proofs.Tryz renaming prog->aq
open Go.Instr renaming buildSlice->au
open Go renaming World->av,Value->aw,Calls->az
open Go.Kt renaming Only->ay
open Go Go.RowKit Go.Kt Go.Kt.V Go.Proofs.YtmhoiicofhlgbaaGreatDoor.Vc
set_option linter.unusedSimpArgs false
set_option linter.unusedVariables false
set_option maxHeartbeats 4000000
set_option maxRecDepth 100000
def spv (x:G1):List aw:=[O U x.k,ab (T x.nm),O U x.pa,O U x.dp,O U x.en]
def XX:Rp G1:=fun _ _ x cs=>cs=spv x
theorem MW:XX.Ok:=⟨fun h _=>h,fun h=>h,fun h _=>h,fun h=>by
 unfold XX spv at h;subst h;intro v hv;simp only[aL,aU,bM]at hv;rcases hv with rfl | rfl | rfl | rfl | rfl<;>rfl⟩
abbrev Ip (B:Nat) (w:av) (s:Sl) (xs:List G1):Prop:=Own XX 5 43 B w (fun _=>False) s xs
theorem Ip.of {B:Nat} {w:av} {F:Nat->Prop} {s:Sl} {xs:List G1} (h:Own XX 5 43 B w F s xs):Ip B w s xs:=by
 rcases h with⟨rfl,rfl⟩ | ⟨g,css,tail,h1,h2,h4,h5,h6,h7,h9,h8⟩
 ·exact .inl ⟨rfl,rfl⟩
 ·exact .inr ⟨g,css,tail,h1,h2,h4,h5,h6,h7,h9,fG.NS (fun x c _ hc=>hc) h8⟩
theorem Rf {w:av} {F:Nat->Prop} {D:Nat} {c:Ch} {vs:Sl} {cs:List aw} (hx:ChR false (D+1) w F c vs cs) (hn:PV c) (hs:nB c.vars+mX c.root<=8388608) (hE:Er w) (hT:Tb w):
  az aq 13 #[ah (vs.v::cs).toArray] w fun e w'=>e=ak (O U (pO c).2)/\ay [] w w':=by
 obtain⟨en,lv,mv,kids,rfl,_⟩:=hx.root;refine ret (agQ _ _ _ _ _ _ _ _ _ _ _ _ ?_);unfold aaV;intro k0 w0 gN dJ bT;have R7:ChR false (D+1) w0 F c vs (mU c.root.b.k c.root.b.nm c.root.b.ini c.root.b.dft en lv mv kids c.root.b.a):=⟨hx.vars.keep ec (by decide) fun k _ bJ=>bT.block k bJ (by simp),(cf false _).keep hx.root fun k _ bJ=>bT.block k bJ (by simp)⟩
 refine(BZ R7 hn hs (hE.only bT) (hT.only bT)).mono ?_;rintro _ w1 ⟨rfl,bZ⟩;exact⟨_,_,rfl,bZ.same (by simp;omega),rfl,bT.bP bZ⟩
section
variable {w:av} {F:Nat->Prop} {l:Sl} {xs:List G1}
abbrev abY (B:Nat) (w:av) (s:Sl) (l:List Int):Prop:=Own A4 1 3 B w (fun _=>False) s l
theorem abY.of {B:Nat} {w:av} {F:Nat->Prop} {s:Sl} {l:List Int} (h:Own A4 1 3 B w F s l):abY B w s l:=by
 rcases h with⟨rfl,rfl⟩ | ⟨g,css,tail,h1,h2,h4,h5,h6,h7,h9,h8⟩
 ·exact .inl ⟨rfl,rfl⟩
 ·exact .inr ⟨g,css,tail,h1,h2,h4,h5,h6,h7,h9,fG.NS (fun x c _ hc=>hc) h8⟩
end
end Go.Proofs.YtmhoiicofhlgbaaGreatDoor.Con
namespace Go.Proofs.YtmhoiicofhlgbaaGreatDoor.Con
open Go.Value renaming int->O,string->ab,pointer->ae,agg->ah,tuple->ai,bool->aj
open Go.IntKind renaming i64->U,wrap->ar
open Go.Ending renaming returned->ak
open _root_.ByteArray renaming mk->ao
open _root_.Go.Proofs.Tryz renaming prog->aq
open Go.Instr renaming buildSlice->au
open Go renaming World->av,Value->aw,Calls->az
open Go.Kt renaming Only->ay
open Go Go.RowKit Go.Kt Go.Kt.V Go.Proofs.YtmhoiicofhlgbaaGreatDoor.Vc
set_option linter.unusedSimpArgs false
set_option linter.unusedVariables false
set_option maxHeartbeats 800000
set_option maxRecDepth 100000
end Go.Proofs.YtmhoiicofhlgbaaGreatDoor.Con
namespace Go.Kt
open Go Go.RowKit Go.MapKept
set_option linter.unusedSimpArgs false
set_option linter.unusedVariables false
structure XA {κ:Type} (d:TypeDesc) (kv:κ->Value) (g:κ->Prop):Prop where
 is:∀k,IsKey d (kv k)
 inj:∀{k l},kv k=kv l->k=l
structure MapV {κ:Type} (kv:κ->Value) (g:κ->Prop) (w:World) (r:Nat) (m:κ->Option Value) (n:Nat):Prop where
 mem:∃es clock,w.heap[r]? =some (.map es clock)/\Stamped es clock/\es.size<=n/\(∀x,x∈es.toList->∃k,x.key=kv k/\g k)/\
  ∀k v,m k=some v↔∃x,x∈es.toList/\x.key=kv k/\x.val=v
section
variable {κ:Type} {d:TypeDesc} {kv:κ->Value} {g:κ->Prop} {P:Program} {w w':World} {r n:Nat} {m:κ->Option Value} {mty kt et:TypeId}
theorem MapV.keep (h:MapV kv g w r m n) (hk:w'.heap[r]? =w.heap[r]?):MapV kv g w' r m n:=by
 obtain⟨es,c,h1,h2⟩:=h.mem;exact⟨es,c,hk.trans h1,h2⟩
theorem MapV.le (h:MapV kv g w r m n) {n':Nat} (hn:n<=n'):MapV kv g w r m n':=by
 obtain⟨es,c,h1,h2,h3,h4⟩:=h.mem;exact⟨es,c,h1,h2,aX h3 hn,h4⟩
theorem MapV.lt (h:MapV kv g w r m n):r<w.heap.size:=by
 obtain⟨es,c,h1,h2⟩:=h.mem;exact(kD.1 h1).1
theorem MapV.only (h:MapV kv g w r m n) {bs:List Nat} (hO:Only bs w w') (hn:r∉bs):MapV kv g w' r m n:=h.keep (hO.block r h.lt hn)
theorem MapV.ext (h:MapV kv g w r m n) {m':κ->Option Value} (he:∀k,m' k=m k):MapV kv g w r m' n:=by
 obtain⟨es,c,h1,h2,h3,h4,h5⟩:=h.mem;exact⟨es,c,h1,h2,h3,h4,fun k v=>by rw[he,h5]⟩
theorem abZ (K:XA d kv g) {es:Array MapEntry} (h:∀x,x∈es.toList->∃k,x.key=kv k/\g k):∀x∈es.toList,IsKey d x.key:=fun x hx=>by
 obtain⟨k,e,_⟩:=h x hx;rw[e];exact K.is k
variable [DecidableEq κ]
end
abbrev kS (s:List UInt8):Value:=.string ⟨s.toArray⟩
abbrev gS (s:List UInt8):Prop:=s.length<=maxLen
theorem ahO:XA .string kS gS:=⟨fun _=>trivial,fun h=>by simpa using h⟩
end Go.Kt
namespace Go.Kt
open Go Go.RowKit Go.MapKept
set_option linter.unusedSimpArgs false
set_option linter.unusedVariables false
section
variable {κ:Type} {d:TypeDesc} {kv:κ->Value} {g:κ->Prop} {P:Program} {w w':World} {r n:Nat} {m:κ->Option Value} {mty kt et:TypeId}
theorem MapV.RE (K:XA d kv g) (hm:P.underlying mty=some (.map kt et)) (hd:P.underlying kt=some d) {z:Value} (hz:∀w,(zeroValue et).run P w=.ok z w) (h:MapV kv g w r m n) (k:κ):
  (Instr.lookup mty (.map (some r)) (kv k) true).run P w=.ok (.tuple #[(m k).getD z,.bool (m k).isSome]) w:=by
 obtain⟨es,c,h1,h0,hn,h2,h4⟩:=h.mem;rcases findNow_spec (K.is k) es.toList 0 (abZ K h2)with⟨g1,g2⟩ | ⟨j,e,g1,g2,g3⟩
 ·have hn:m k=none:=by
   cases hmk:m k with
   | none=>rfl
   | some v=>
    obtain⟨x,hx,hk,_⟩:=(h4 k v).1 hmk;exact absurd hk (g2 x hx)
  simp[Instr.lookup,run_underlying hm,MapKept.run_getObj_map h1,MapKept.run_checkKey hd (K.is k),MapKept.run_findKey hd g1,Result.andThen,hz,hn]
 ·have he:=be g2;have hmk:m k=some e.val:=(h4 k e.val).2 ⟨e,he,g3,rfl⟩;simp[Instr.lookup,run_underlying hm,MapKept.run_getObj_map h1,MapKept.run_checkKey hd (K.is k),MapKept.run_findKey hd g1,Result.andThen,hmk]
end
end Go.Kt
namespace Go.Proofs.YtmhoiicofhlgbaaGreatDoor.Con
open Go.Value renaming int->O,string->ab,pointer->ae,agg->ah,tuple->ai,bool->aj
open Go.IntKind renaming i64->U,wrap->ar
open Go.Ending renaming returned->ak
open _root_.ByteArray renaming mk->ao
open _root_.Go.Proofs.Tryz renaming prog->aq
open Go.Instr renaming buildSlice->au
open Go renaming World->av,Value->aw,Calls->az
open Go.Kt renaming Only->ay
open Go Go.RowKit Go.Kt Go.Kt.V Go.Proofs.YtmhoiicofhlgbaaGreatDoor.Vc
set_option linter.unusedSimpArgs false
set_option linter.unusedVariables false
set_option maxHeartbeats 800000
set_option maxRecDepth 100000
def mI (l:List (aB)):aB->Option aw:=fun k=>if uM k l<l.length then some (.int U (uM k l:Nat))else none
theorem Rg (l:List (aB)) (x k:aB):mI (l++[x]) k=if x∈l then mI l k else if k=x then some (.int U (l.length:Nat))else mI l k:=by
 unfold mI;rw[aD,aW];by_cases hk:k∈l
 ·have h1:=rR.2 hk;rw[Ie [x] hk,if_pos (by omega),if_pos h1];by_cases hx:x∈l
  ·rw[if_pos hx]
  ·rw[if_neg hx,if_neg fun e=>hx (by rw[<-e];exact hk)]
 ·have h1:¬uM k l<l.length:=fun h=>hk (rR.1 h);rw[if_neg h1];by_cases e:k=x
  ·subst e;rw[if_neg hk,if_pos rfl,Ig [] hk,if_pos (by omega)]
  ·have:¬uM k (l++[x])<(l++[x]).length:=fun h=>by
    have:=rR.1 h;rw[cq,aF]at this;exact this.elim hk e
   rw[aD,aW]at this;rw[if_neg this,if_neg e];split<;>rfl
theorem Rh (l:List (aB)) (k:aB):(mI l k).isSome=decide (k∈l):=by
 unfold mI;by_cases hk:k∈l
 ·rw[if_pos (rR.2 hk),bh hk];rfl
 ·rw[if_neg fun h=>hk (rR.1 h),aZ hk];rfl
abbrev VI (w:av) (r:Nat) (l:List (aB)):Prop:=MapV kS gS w r (mI l) l.length
theorem VI.at {w:av} {r:Nat} {l:List (aB)} (h:VI w r l) (k:aB):(Instr.lookup 97 (.map (some r)) (ab (T k)) true).run aq w=.ok (ai #[O U (if uM k l<l.length then(uM k l:Nat)else 0:Int),aj (decide (k∈l))]) w:=by
 have:=h.RE (P:=aq) (mty:=97) (kt:=9) (et:=3) (z:=O U 0) ahO (by kernel_rfl) (by kernel_rfl) (fun w=>Tryz.zeroValue3 w) k;rw[Rh]at this;rw[this];unfold mI;split<;>rfl
theorem VI.has {w:av} {r:Nat} {l:List (aB)} (h:VI w r l) {x:aB} (hx:x∈l):VI w r (l++[x]):=by
 refine(h.ext fun k=>?_).le (by rw[aD];omega);rw[Rg,if_pos hx]
structure Lo (w:av) (b m0 m1:Nat) (s:Sl) (nn vn:List (aB)) (f:Ft):Prop where
 blk:Blk w b 99 [.map (some m0),s.v,.map (some m1),O U f.1,O U f.2]
 nm:VI w m0 nn
 vr:VI w m1 vn
 n0:m0<m1
 n1:m1<b
section
variable {w w':av} {b m0 m1:Nat} {s:Sl} {nn vn:List (aB)} {f:Ft}
theorem Lo.only (h:Lo w b m0 m1 s nn vn f) {bs:List Nat} (hO:ay bs w w') (h0:b∉bs) (h1:m0∉bs) (h2:m1∉bs):Lo w' b m0 m1 s nn vn f:=⟨hO.blk h.blk h0,h.nm.only hO h1,h.vr.only hO h2,h.n0,h.n1⟩
end
def XY (P:Nat->Prop) (s:Sl) (w:av) (s':Sl) (w':av):Prop:=OnlyP (fun k=>P k∨s.a=some ⟨k,0,none⟩) w w'/\∀k,s'.a=some ⟨k,0,none⟩->s.a=some ⟨k,0,none⟩∨w.heap.size<=k
theorem XY.trans {P:Nat->Prop} {s t u:Sl} {w w' se:av} (h:XY P s w t w') (g:XY P t w' u se):XY P s w u se:=by
 refine⟨h.1.trans g.1 fun k hk=>?_,fun k hk=>?_⟩
 ·rcases hk with hk | hk
  ·exact .inl (.inl hk)
  ·exact(h.2 k hk).elim (fun h=>.inl (.inr h)) .inr
 ·rcases g.2 k hk with hk | hk
  ·exact h.2 k hk
  ·exact .inr (aX h.1.size hk)
theorem XY.of {P:Nat->Prop} {s:Sl} {w w':av} {bs:List Nat} (hO:ay bs w w') (hb:∀k,k∈bs->P k):XY P s w s w':=⟨hO.p fun k hk=>.inl (.inl (hb k hk)),fun k hk=>.inl hk⟩
end Go.Proofs.YtmhoiicofhlgbaaGreatDoor.Con
namespace Go.Kt
open Go Go.RowKit
set_option linter.unusedSimpArgs false
set_option linter.unusedVariables false
end Go.Kt
namespace Go.Proofs.YtmhoiicofhlgbaaGreatDoor.Con
open Go.Value renaming int->O,string->ab,pointer->ae,agg->ah,tuple->ai,bool->aj
open Go.IntKind renaming i64->U,wrap->ar
open Go.Ending renaming returned->ak
open _root_.ByteArray renaming mk->ao
open _root_.Go.Proofs.Tryz renaming prog->aq
open Go.Instr renaming buildSlice->au
open Go renaming World->av,Value->aw,Calls->az
open Go.Kt renaming Only->ay
open Go Go.RowKit Go.Kt Go.Kt.V Go.Proofs.YtmhoiicofhlgbaaGreatDoor.Vc
set_option linter.unusedSimpArgs false
set_option linter.unusedVariables false
set_option maxHeartbeats 800000
set_option maxRecDepth 100000
structure Lx (w:av) (b m0 m1:Nat) (F:Nat->Prop) (s:Sl) (xs:List G1) (vn:List (aB)) (f:Ft):Prop where
 lo:Lo w b m0 m1 s (xs.map fun x:G1=>x.nm) vn f
 sp:SliceF XX 5 w F s xs
 fo:Fo xs
 ln:xs.length<=64
 nF:∀k,F k->k≠b
theorem Ip.sl {B:Nat} {w:av} {s:Sl} {xs:List G1} (h:Ip B w s xs):SliceF XX 5 w (fun k=>B<=k) s xs:=(h.slice MW).mono MW fun k hk=>hk.elim (fun h=>h.elim) fun h=>h.1
def tup (x:G1):Int×aB×Int×Int×Int:=(x.k,x.nm,x.pa,x.dp,x.en)
end Go.Proofs.YtmhoiicofhlgbaaGreatDoor.Con
namespace Go.Proofs.YtmhoiicofhlgbaaGreatDoor.Con
open Go.Value renaming int->O,string->ab,pointer->ae,agg->ah,tuple->ai,bool->aj
open Go.IntKind renaming i64->U,wrap->ar
open Go.Ending renaming returned->ak
open _root_.ByteArray renaming mk->ao
open _root_.Go.Proofs.Tryz renaming prog->aq
open Go.Instr renaming buildSlice->au
open Go renaming World->av,Value->aw,Calls->az
open Go.Kt renaming Only->ay
open Go Go.RowKit Go.Kt Go.Kt.V
set_option linter.unusedSimpArgs false
set_option linter.unusedVariables false
set_option maxHeartbeats 4000000
def sh (t:Tk):Tk:=⟨t.k,t.t,t.n,t.a+1⟩
inductive Sim:Ex->Ex->Prop
 | leaf (k n:Int) (s:aB) (op a b:Int):Sim (.mk k n s op [] a) (.mk k n s op [] b)
 | one (k n:Int) (s:aB) (op a b:Int) (x y:Ex):Sim x y->Sim (.mk k n s op [x] a) (.mk k n s op [y] b)
 | two (k n:Int) (s:aB) (op a b:Int) (x y x' y':Ex):Sim x x'->Sim y y'->Sim (.mk k n s op [x,y] a) (.mk k n s op [x',y'] b)
structure Wr (ts lw:List Tk) (n:Nat):Prop where
 e:∀i,n<=i->(tk ts i).k=5
 s:∀i,i<n->(tk lw (i+1)).k=(tk ts i).k/\(tk lw (i+1)).t=(tk ts i).t/\(tk lw (i+1)).n=(tk ts i).n
 c:(tk lw (n+1)).k=4/\(tk lw (n+1)).t=[41]
def qw (n:Nat) (r r':Pr):Prop:=∀x j,r=.ok (x,j)->(∃x',r'=.ok (x',j+1)/\Sim x x'/\j<=n)∨∃a,r'=.error (21,a)
section
variable {ts lw:List Tk} {n:Nat}
theorem Wr.lt (h:Wr ts lw n) {i:Nat} (hk:(tk ts i).k≠5):i<n:=by
 refine bf fun hn=>hk (h.e i (by omega))
theorem Wr.IV (h:Wr ts lw n) {i:Nat} (hi:i<n) (s:aB):sg lw (i+1) s=sg ts i s:=by
 unfold sg;obtain⟨h1,h2,_⟩:=h.s i hi;rw[h1,h2]
theorem qw.map {r r':Pr} (h:qw n r r') {g g':Ex->Ex} (hg:∀x x',Sim x x'->Sim (g x) (g' x')):qw n (DL g r) (DL g' r'):=by
 intro x j hx;obtain⟨y,h1,rfl⟩:=wS hx;rcases h y j h1 with⟨x',h2,h3,h4⟩ | ⟨a,h2⟩
 ·exact .inl ⟨g' x',by rw[h2];rfl,hg _ _ h3,h4⟩
 ·exact .inr ⟨a,by rw[h2];rfl⟩
theorem qw.nest {r r':Pr} {d:Nat} {a a':Int} (h:d+1≠20->qw n r r'):qw n (gU d a r) (gU (d+1) a' r'):=by
 intro x j hx;obtain⟨h1,h2⟩:=oL hx;by_cases h3:d+1=20
 ·exact .inr ⟨a',by rw[gU,if_pos h3]⟩
 ·rw[gU,if_neg h3];exact h h3 x j h1
theorem qw.par (hw:Wr ts lw n) {r r':Pr} (h:qw n r r'):qw n (pJ ts r) (pJ lw r'):=by
 intro x j hx;obtain⟨j',h1,h2,rfl⟩:=wT hx;rcases h x j' h1 with⟨x',h3,h4,h5⟩ | ⟨a,h3⟩
 ·have hl:=hw.lt (sw h2);exact .inl ⟨x',by rw[h3];simp only[pJ];rw[if_pos (by rw[hw.IV hl];exact h2)],h4,hl⟩
 ·exact .inr ⟨a,by rw[h3];rfl⟩
theorem qw.err {e:Int×Int} {r':Pr}:qw n (.error e) r':=fun x j hx=>by cases hx
theorem qw.in_ (hw:Wr ts lw n) (i:Nat):qw n (yf ts i) (yf lw (i+1)):=by
 intro x j hx;have R7:=hx;obtain⟨rfl,rfl⟩:=FQ R7;unfold yf at hx;split at hx
 ·rename_i h1;split at hx
  ·rename_i h2;split at hx
   ·rename_i h3;have hl:=hw.lt (sw h3);refine .inl ⟨.mk 3 0 (tk lw (i+1+2)).t 0 [] (tk lw (i+1)).a,?_,?_,hl⟩
    ·unfold yf;rw[if_pos (by rw[hw.IV (by omega:i+1<n)];exact h1),if_pos (by rw[(hw.s (i+2) (by omega)).1];exact h2),if_pos (by rw[hw.IV hl];exact h3)]
    ·have e:(tk lw (i+1+2)).t=(tk ts (i+2)).t:=(hw.s (i+2) (by omega)).2.1;rw[e];exact .leaf ..
   ·cases hx
  ·cases hx
 ·cases hx
theorem qw.one (hw:Wr ts lw n) {E0 One E0' O1:Nat->Pr} {d i:Nat} (hE:d+1≠20->∀i,i<=n->qw n (E0 i) (E0' (i+1))) (hO:d+1≠20->∀i,i<=n->qw n (One i) (O1 (i+1))) (hi:i<=n):qw n (mz ts E0 One d i) (mz lw E0' O1 (d+1) (i+1)):=by
 by_cases KX:i=n
 ·subst KX;have h5:=hw.e i (aK _);have hs:∀s,sg ts i s=false:=fun s=>by
   unfold sg;rw[h5];rfl
  have:mz ts E0 One d i=.error (eF ts i):=by
   unfold mz;rw[hs,hs,hs,if_neg (by decide),if_neg (by decide),if_neg (by rw[h5];decide),if_neg (by rw[h5];decide),if_neg (by rw[h5];rintro⟨h,_⟩;exact absurd h (by decide))]
  rw[this];exact qw.err
 ·have hl:i<n:=by omega
  obtain⟨k1,k2,k3⟩:=hw.s i hl;unfold mz;rw[hw.IV hl,hw.IV hl,hw.IV hl,k1,k2,k3];split
  ·exact qw.map (qw.nest fun h=>hO h (i+1) hl) fun x x' hx=>.one _ _ _ _ _ _ _ _ hx
  ·split
   ·exact qw.nest fun h=>qw.par hw (hE h (i+1) hl)
   ·split
    ·intro x j hx;simp only[dj,cW]at hx;obtain⟨rfl,rfl⟩:=hx;exact .inl ⟨_,rfl,.leaf ..,hl⟩
    ·split
     ·intro x j hx;simp only[dj,cW]at hx;obtain⟨rfl,rfl⟩:=hx;exact .inl ⟨_,rfl,.leaf ..,hl⟩
     ·split
      ·exact qw.in_ hw i
      ·exact qw.err
end
theorem TX {ts:List Tk} {E:Nat->Pr} {k:Int} {x:Ex} {j:Nat} (h:iE ts k j=0):∀g,gI ts E k g x j=.ok (x,j)
 | 0=>rfl
 | g+1=>by rw[gI,if_pos h]
theorem VJ {ts:List Tk} {j:Nat} (h:(tk ts j).k=5) (k:Int):iE ts k j=0:=by
 refine bf fun hn=>?_;exact mH _ _ hn h
theorem ab0 {ts:List Tk} {j:Nat} {t:aB} (h:(tk ts j).t=t) (hn:∀op,op<16->dh op≠t∨op=0∨14<=op) (k:Int):iE ts k j=0:=by
 have:∀(f op:Nat),1<=op->op+f<=14->ij ts k j f op=0:=by
  intro f
  induction f with
  | zero=>intro op _ _;rfl
  | succ f ih=>
   intro op h1 h2;rw[ij,if_neg,ih (op+1) (by omega) (by omega)];rintro⟨_,hs⟩;simp only[sg,aE,bd]at hs;rcases hn op (by omega)with e | e | e
   ·exact e (by rw[<-h,hs.2])
   ·omega
   ·omega
 exact this 13 1 (by omega) (by omega)
end Go.Proofs.YtmhoiicofhlgbaaGreatDoor.Con
namespace Go.Proofs.YtmhoiicofhlgbaaGreatDoor.Con
open Go.Value renaming int->O,string->ab,pointer->ae,agg->ah,tuple->ai,bool->aj
open Go.IntKind renaming i64->U,wrap->ar
open Go.Ending renaming returned->ak
open _root_.ByteArray renaming mk->ao
open _root_.Go.Proofs.Tryz renaming prog->aq
open Go.Instr renaming buildSlice->au
open Go renaming World->av,Value->aw,Calls->az
open Go.Kt renaming Only->ay
open Go Go.RowKit Go.Kt Go.Kt.V Go.Proofs.YtmhoiicofhlgbaaGreatDoor.Vc
set_option linter.unusedSimpArgs false
set_option linter.unusedVariables false
set_option maxHeartbeats 4000000
theorem Sim.same {x y:Ex} (h:Sim x y):∀d,kN false d x y=true:=by
 have hd:∀{k n:Int} {s:aB} {op:Int} {xs ys:List Ex} {a b:Int},xs.length=ys.length->yw false (.mk k n s op xs a) (.mk k n s op ys b)=false:=fun h=>by
  simp[yw,Ex.k,Ex.n,Ex.s,Ex.op,Ex.cR,Ex.a,h]
 induction h with
 | leaf k n s op a b=>
  intro d;cases d with
  | zero=>rfl
  | succ d=>rw[kN,if_neg (by rw[hd rfl];decide)];rfl
 | one k n s op a b x y h ih=>
  intro d;cases d with
  | zero=>rfl
  | succ d=>
   rw[kN,if_neg (by rw[hd (xs:=[x]) (ys:=[y]) rfl];decide)];simp only[Ex.cR,yv,ih d,cA]
 | two k n s op a b x y x' y' h1 h2 zD CS=>
  intro d;cases d with
  | zero=>rfl
  | succ d=>
   rw[kN,if_neg (by rw[hd (xs:=[x,y]) (ys:=[x',y']) rfl];decide)];simp only[Ex.cR,yv,zD d,CS d,cA]
def kt (t:Tk):Int×aB:=(t.k,t.t)
theorem Fa {c:UInt8} {r:aB} (h1:lY c=false) (h2:(c==47)=false):iL false (c::r)=0:=by
 rw[iL,if_neg (by rw[h1];decide),if_neg (by rw[h2,da];decide)]
theorem kw {c:UInt8} {r:aB} (h1:dT c=false) (h2:cw c=false) (h3:lZ.contains c=true) (h4:oJ (c::r)=false):jZ (c::r)=.ok (4,[c],0,1):=by
 have e:jZ (c::r)=if dT c then kl (c::r)else if cw c then pI (c::r)else lQ (c::r):=rfl
 have hn:gH (c::r)=1:=by
  unfold gH;rw[h4];dsimp only;rw[if_neg (by decide),if_pos h3]
 rw[e,h1,h2,if_neg (by decide),if_neg (by decide),lQ,hn];rfl
def soft (r:aB):Prop:=∀d,r.head? =some d->d≠61/\d≠62
theorem jo {c:UInt8} {r:aB} (hc:[38,124].contains c=false) (h:soft r):oJ (c::r)=false:=by
 cases r with
 | nil=>rfl
 | cons d r=>
  obtain⟨h1,h2⟩:=h d rfl;have e1:(d==61)=false:=by simpa using h1
  have e2:(d==62)=false:=by simpa using h2
  show((d==61&&[60,62,61,33].contains c)||(d==c&&[38,124].contains c)||(c==45&&d==62))=false;rw[e1,e2,hc,da,fI,fI];rfl
structure De (ts:List Tk) (n m:Nat) (s:aB):Prop where
 a:∀i,i<n->(tk ts i).k=4/\(tk ts i).t=s
 b:∀i,n<=i->i<n+m->(tk ts i).k=4/\(tk ts i).t=[40]
 c:(tk ts (n+m)).k=1/\(tk ts (n+m)).t=[120]
 e:∀i,n+m<i->i<=n+m+m->(tk ts i).k=4/\(tk ts i).t=[41]
 z:(tk ts (n+m+m+1)).k=5
 l:ts.length=n+m+m+2
section
variable {ts:List Tk} {n m:Nat} {s:aB}
theorem MX {ts:List Tk} {i:Nat} {t s:aB} (h:(tk ts i).t=t) (gf:t≠s):sg ts i s=false:=by
 unfold sg;rw[h,aZ gf,fI]
theorem F5 {ts:List Tk} {i:Nat} {t:aB} (h:(tk ts i).k=4/\(tk ts i).t=t):sg ts i t=true:=by
 unfold sg;rw[h.1,h.2,bh rfl];rfl
end
end Go.Proofs.YtmhoiicofhlgbaaGreatDoor.Con
namespace Go.Proofs.YtmhoiicofhlgbaaGreatDoor.Con
open Go.Value renaming int->O,string->ab,pointer->ae,agg->ah,tuple->ai,bool->aj
open Go.IntKind renaming i64->U,wrap->ar
open Go.Ending renaming returned->ak
open _root_.ByteArray renaming mk->ao
open _root_.Go.Proofs.Tryz renaming prog->aq
open Go.Instr renaming buildSlice->au
open Go renaming World->av,Value->aw,Calls->az
open Go.Kt renaming Only->ay
open Go Go.RowKit Go.Kt Go.Kt.V
set_option linter.unusedSimpArgs false
set_option linter.unusedVariables false
set_option maxHeartbeats 4000000
abbrev K3:=Int×aB×Int
def k3 (t:Tk):K3:=(t.k,t.t,t.n)
theorem MY {p:UInt8->Prop} (h:∀n:Fin 256,p (UInt8.ofNat n.val)) (c:UInt8):p c:=by
 have:=h ⟨c.toNat,c.toNat_lt⟩;simpa using this
theorem vp {p:UInt8->Bool} {r:aB} (hr:∀c,r.head? =some c->p c=false):∀(l:aB),(∀c,c∈l->p c=true)->(l++r).takeWhile p=l
 | [],_=>by
  cases r with
  | nil=>rfl
  | cons c r=>rw[cd,cI,if_neg (by rw[hr c rfl];decide)]
 | c::l,hl=>by rw[cn,cI,if_pos (hl c (by simp)),vp hr l fun x hx=>hl x (by simp[hx])]
theorem Ed {a b:aB} (h:a≠[]):(a++b).head? =a.head? :=by
 cases a with
 | nil=>exact absurd rfl h
 | cons c a=>rfl
theorem mC {u:Nat} (h:u<10):Lib.decDigits u=[UInt8.ofNat (48+u)]:=by rw[Lib.decDigits,dif_pos h]
theorem oW {u:Nat} (h:¬u<10):Lib.decDigits u=Lib.decDigits (u/10)++[UInt8.ofNat (48+u % 10)]:=by rw[Lib.decDigits,dif_neg h]
theorem uw {u:Nat} (h:u<10):(UInt8.ofNat (48+u)).toNat=48+u:=by
 rw[UInt8.toNat_ofNat'];omega
theorem TY {u:Nat} (h:u<10):cw (UInt8.ofNat (48+u))=true:=by
 unfold cw;rw[uw h];simp;omega
theorem xd (u:Nat):∀c,c∈Lib.decDigits u->cw c=true:=by
 induction u using Nat.strongRecOn with
 | _ u ih=>
  intro c hc;by_cases h:u<10
  ·rw[mC h,aF]at hc;subst hc;exact TY h
  ·rw[oW h,cq,aF]at hc;rcases hc with hc | rfl
   ·exact ih (u/10) (by omega) c hc
   ·exact TY (Nat.mod_lt _ (by decide))
theorem vq (u:Nat):Lib.decDigits u≠[]:=by
 by_cases h:u<10
 ·rw[mC h];simp
 ·rw[oW h];simp
theorem F6 (a:Nat) (l:aB) (c:UInt8):js a (l++[c])=js a l*10+(c.toNat-48):=by
 simp[js,tN]
theorem Ri (u:Nat):js 0 (Lib.decDigits u)=u:=by
 induction u using Nat.strongRecOn with
 | _ u ih=>
  by_cases h:u<10
  ·rw[mC h];have:=uw h;simp only[js,List.foldl_cons,List.foldl_nil];omega
  ·rw[oW h,F6,ih (u/10) (by omega),uw (Nat.mod_lt _ (by decide))];omega
theorem MZ (u:Nat) (h0:0<u):(Lib.decDigits u).head? ≠some 48:=by
 induction u using Nat.strongRecOn with
 | _ u ih=>
  by_cases h:u<10
  ·rw[mC h,fN];intro e;injection e with e;have:=bp UInt8.toNat e;rw[uw h]at this;have h48:(48:UInt8).toNat=48:=rfl;omega
  ·rw[oW h,Ed (vq _)];exact ih (u/10) (by omega) (by omega)
theorem M0 (u:Nat) (h:1<(Lib.decDigits u).length):0<u:=by
 refine bf fun hn=>?_;have:u=0:=by omega
 subst this;rw[mC (by decide)]at h;simp at h
theorem F7 {c:UInt8} (h:cw c=true):dC c=true:=by unfold dC;rw[h,lA]
theorem M1 {c:UInt8} (h:cw c=true):dT c=false:=by
 unfold cw at h;unfold dT;simp only[aE,bd]at h;simp;omega
theorem mZ {n:Int} (h:0<=n):Lib.itoa n=Lib.decDigits n.toNat:=by
 unfold Lib.itoa;rw[if_neg (by omega)]
theorem M2 {n:Int} (h0:0<=n) (h1:n<=9223372036854775807) {r:aB} (hr:∀c,r.head? =some c->dC c=false):jZ (Lib.itoa n++r)=.ok (3,[],n,(Lib.itoa n).length):=by
 rw[mZ h0];generalize hu:n.toNat=u;have hn:n=(u:Int):=by omega
 have eU:=xd u;have gf:=vq u;have hw:=vp (p:=dC) hr (Lib.decDigits u) fun c hc=>F7 (eU c hc);have hd:=vp (p:=cw) (fun c h=>by
  have:=hr c h;unfold dC at this;exact(dX.1 this).2) (Lib.decDigits u) eU
 have hp:eu (Lib.decDigits u++r)=(u,(Lib.decDigits u).length,0):=by
  unfold eu;rw[hd,Ri];rw[if_neg (by simp[gf]),if_neg,if_pos (by omega)];rintro(h | ⟨h2,h3⟩)
  ·exact gf h
  ·rw[Ed gf]at h3;exact MZ u (M0 u h2) h3
 have aku:pI (Lib.decDigits u++r)=.ok (3,[],n,(Lib.decDigits u).length):=by
  unfold pI;rw[hp,hw,if_neg (by simp),if_neg (by simp),hn]
 generalize hm:Lib.decDigits u=m at*
 cases m with
 | nil=>exact absurd rfl gf
 | cons c m=>
  have hc:=eU c (by simp);have e:jZ (c::m++r)=if dT c then kl (c::m++r)else if cw c then pI (c::m++r)else lQ (c::m++r):=rfl
  rw[e,M1 hc,hc,if_neg (by decide),if_pos rfl,aku]
theorem qZ {l:aB} {i:Nat} {p r:aB} {k:Int} {t:aB} {n:Int} {ts:List Tk} (h:l.drop i=p++r) (hp:p≠[]) (hb:iL false (p++r)=0) (ht:jZ (p++r)=.ok (k,t,n,p.length)) (hr:iX l (i+p.length)=.ok ts):iX l i=.ok (⟨k,t,n,(i:Nat)⟩::ts):=by
 have Yr:=CJ.2 hp;have hi:i<l.length:=by
  have:=bp List.length h;rw[bN,aD]at this;omega
 rw[iR (by omega),h,hb,gr,if_neg (by omega),h,ht];dsimp only;rw[hr]
theorem iM {l:aB} {i:Nat} {p r:aB} (h:l.drop i=p++r):l.drop (i+p.length)=r:=by
 rw[<-iA,h,List.drop_left]
theorem vZ {l:aB} {i:Nat} {p r:aB} (hi:i<=l.length) (h:l.drop i=p++r):i+p.length<=l.length:=by
 have:=bp List.length h;rw[bN,aD]at this;omega
def jK:Nat->Ex->Bool->aB
 | 0,_,_=>[]
 | d+1,x,wr=>clo wr (opn wr []++(
  if x.k=1 then Lib.itoa x.n
  else if x.k=2 then x.s
  else if x.k=3 then[105,110,40]++x.s++[41]
  else if x.k=4 then(match x.cR with
   | [y]=>dh x.op.toNat++jK d y (decide (bD y<6))
   | _=>[])
  else(match x.cR with
   | [y,z]=>jK d y (decide (bD y<bD x))++([32]++dh x.op.toNat++[32])++jK d z (decide (bD z<=bD x))
   | _=>[])))
theorem lq (wr:Bool) (l:aB):opn wr l=l++opn wr []:=by cases wr<;>simp[opn]
theorem M3 (wr:Bool) (l m:aB):clo wr (l++m)=l++clo wr m:=by cases wr<;>simp[clo]
theorem F8 (wr:Bool) (l:aB):l.length<=(clo wr l).length:=by cases wr<;>simp[clo]
theorem VK (wr:Bool) (l:aB):l.length<=(opn wr l).length:=by cases wr<;>simp[opn]
theorem Ee:∀(d:Nat) (x:Ex) (wr:Bool) (l:aB),l.length<=(mJ d x wr l).length
 | 0,_,_,_=>aK _
 | d+1,x,wr,l=>by
  rw[mJ];split
  ·exact aK _
  refine aX ?_ (F8 _ _);have h1:=VK wr l;split
  ·rw[aD];omega
  ·split
   ·rw[aD];omega
   ·split
    ·rw[aD];omega
    ·split
     ·split
      ·rename_i y _;have:=Ee d y (decide (bD y<6)) (opn wr l++dh x.op.toNat);rw[aD]at this;omega
      ·exact aK _
     ·split
      ·rename_i y z _;have a1:=Ee d y (decide (bD y<bD x)) (opn wr l);have a2:=Ee d z (decide (bD z<=bD x)) (mJ d y (decide (bD y<bD x)) (opn wr l)++([32]++dh x.op.toNat++[32]));rw[aD]at a2;omega
      ·exact aK _
theorem Ao:∀(d:Nat) {x:Ex} (wr:Bool) (l:aB),bW d x=true->(mJ d x wr l).length<=16384->mJ d x wr l=l++jK d x wr
 | 0,x,wr,l,h,_=>by cases h
 | d+1,x,wr,l,h,hl=>by
  rw[bW,aE]at h;obtain⟨hh,ha⟩:=h;have h0:=Ee (d+1) x wr l;have hc:¬16384<l.length:=by omega
  rw[mJ,if_neg hc]at hl⊢;rw[jK,<-M3];have tH:=aX (F8 wr _) hl;congr 1;by_cases k1:x.k=1
  ·rw[if_pos k1,if_pos k1,lq wr l,aV]
  by_cases k2:x.k=2
  ·rw[if_neg k1,if_neg k1,if_pos k2,if_pos k2,lq wr l,aV]
  by_cases k3:x.k=3
  ·rw[if_neg k1,if_neg k1,if_neg k2,if_neg k2,if_pos k3,if_pos k3,lq wr l,aV]
  by_cases k4:x.k=4
  ·obtain⟨y,hy,_⟩:=qU hh k4;rw[if_neg k1,if_neg k2,if_neg k3,if_pos k4,hy]at tH;rw[if_neg k1,if_neg k1,if_neg k2,if_neg k2,if_neg k3,if_neg k3,if_pos k4,if_pos k4,hy];rw[hy]at ha;dsimp only at tH⊢;simp only[im,cA]at ha;rw[Ao d _ _ ha tH,lq wr l];simp only[aV]
  ·obtain⟨_,y,z,hy,_⟩:=mV hh k1 k2 k3 k4;rw[if_neg k1,if_neg k2,if_neg k3,if_neg k4,hy]at tH;rw[if_neg k1,if_neg k1,if_neg k2,if_neg k2,if_neg k3,if_neg k3,if_neg k4,if_neg k4,hy];rw[hy]at ha;dsimp only at tH⊢;simp only[im,cA,aE]at ha;have h1:=Ee d z (decide (bD z<=bD x)) (mJ d y (decide (bD y<bD x)) (opn wr l)++([32]++dh x.op.toNat++[32]));rw[aD]at h1;rw[Ao d _ _ ha.2 tH,Ao d _ _ ha.1 (by omega),lq wr l];simp only[aV]
def opk (wr:Bool):List K3:=if wr then[(4,[40],0)]else[]
def clk (wr:Bool):List K3:=if wr then[(4,[41],0)]else[]
def lX:Nat->Ex->Bool->List K3
 | 0,_,_=>[]
 | d+1,x,wr=>opk wr++(
  if x.k=1 then[(3,[],x.n)]
  else if x.k=2 then[(1,x.s,0)]
  else if x.k=3 then[(2,[105,110],0),(4,[40],0),(1,x.s,0),(4,[41],0)]
  else if x.k=4 then(match x.cR with
   | [y]=>(4,dh x.op.toNat,0)::lX d y (decide (bD y<6))
   | _=>[])
  else(match x.cR with
   | [y,z]=>lX d y (decide (bD y<bD x))++(4,dh x.op.toNat,0)::lX d z (decide (bD z<=bD x))
   | _=>[]))++clk wr
def j6 (c:UInt8):Bool:=dT c||cw c||c==40||c==45||c==33
theorem JS:∀n:Fin 256,j6 (UInt8.ofNat n.val)=true->lY (UInt8.ofNat n.val)=false/\(UInt8.ofNat n.val==47)=false/\UInt8.ofNat n.val≠61/\UInt8.ofNat n.val≠62:=by decide+kernel
theorem jL {c:UInt8} (h:j6 c=true):lY c=false/\(c==47)=false/\c≠61/\c≠62:=MY (p:=fun c=>j6 c=true->lY c=false/\(c==47)=false/\c≠61/\c≠62) JS c h
def M4 (c:UInt8):Bool:=[32,41,59,93,44,10].contains c
def ql (r:aB):Prop:=∀c,r.head? =some c->M4 c=true
theorem Rj:∀n:Fin 256,M4 (UInt8.ofNat n.val)=true->dC (UInt8.ofNat n.val)=false/\cw (UInt8.ofNat n.val)=false/\UInt8.ofNat n.val≠61/\UInt8.ofNat n.val≠62:=by decide+kernel
theorem F9 {c:UInt8} (h:M4 c=true):dC c=false/\cw c=false/\c≠61/\c≠62:=MY (p:=fun c=>M4 c=true->dC c=false/\cw c=false/\c≠61/\c≠62) Rj c h
theorem ql.word {r:aB} (h:ql r):∀(l:aB),(∀c,c∈l->dC c=true)->(l++r).takeWhile dC=l
 | [],_=>by
  cases r with
  | nil=>rfl
  | cons c r=>
   rw[cd,cI,if_neg (by rw[(F9 (h c rfl)).1];decide)]
 | c::l,hl=>by
  rw[cn,cI,if_pos (hl c (by simp)),h.word l fun x hx=>hl x (by simp[hx])]
theorem Iq {n:Int} (h0:0<=n) (h1:n<=9223372036854775807) {r:aB} (hr:ql r):jZ (Lib.itoa n++r)=.ok (3,[],n,(Lib.itoa n).length):=M2 h0 h1 fun c h=>(F9 (hr c h)).1
theorem Ef {s r:aB} (hn:cF s=true) (hr:ql r):jZ (s++r)=.ok (1,s,0,s.length):=by
 unfold cF at hn;simp only[aE]at hn;obtain⟨⟨⟨h1,h2⟩,h3⟩,h4⟩:=hn;obtain⟨h1,h5⟩:=aG h1;have h3:=aG h3;have h4:gQ.contains s=false:=by simpa using h4
 have hw:=hr.word s fun c hc=>by rw[<-h3]at hc;exact vf c hc
 have hwr:kl (s++r)=.ok (1,s,0,s.length):=by
  unfold kl;rw[hw,if_neg (by omega),h4];rfl
 cases s with
 | nil=>exact absurd rfl h1
 | cons c s=>
  have e:jZ (c::s++r)=if dT c then kl (c::s++r)else if cw c then pI (c::s++r)else lQ (c::s++r):=rfl
  have h2:dT c=true:=h2;rw[e,h2,if_pos rfl,hwr]
theorem VL {op:Nat} (h1:1<=op) (h2:op<=13) (r:aB):jZ (dh op++32::r)=.ok (4,dh op,0,(dh op).length)/\iL false (dh op++32::r)=0:=by
 match op,h1,h2 with
 | 1,_,_=>exact⟨rfl,rfl⟩
 | 2,_,_=>exact⟨rfl,rfl⟩
 | 3,_,_=>exact⟨rfl,rfl⟩
 | 4,_,_=>exact⟨rfl,rfl⟩
 | 5,_,_=>exact⟨rfl,rfl⟩
 | 6,_,_=>exact⟨rfl,rfl⟩
 | 7,_,_=>exact⟨rfl,rfl⟩
 | 8,_,_=>exact⟨rfl,rfl⟩
 | 9,_,_=>exact⟨rfl,rfl⟩
 | 10,_,_=>exact⟨rfl,rfl⟩
 | 11,_,_=>exact⟨rfl,rfl⟩
 | 12,_,_=>exact⟨rfl,rfl⟩
 | 13,_,_=>exact⟨rfl,rfl⟩
theorem rU:∀(d:Nat) {x:Ex} (wr:Bool),bW d x=true->jm d x->∃c t,jK d x wr=c::t/\j6 c=true
 | 0,x,wr,h,_=>by cases h
 | d+1,x,true,h,_=>⟨40,_,rfl,by decide⟩
 | d+1,x,false,h,⟨hn,hs⟩=>by
  rw[bW,aE]at h;obtain⟨hh,ha⟩:=h;have e:jK (d+1) x false=(
  if x.k=1 then Lib.itoa x.n
  else if x.k=2 then x.s
  else if x.k=3 then[105,110,40]++x.s++[41]
  else if x.k=4 then(match x.cR with
   | [y]=>dh x.op.toNat++jK d y (decide (bD y<6))
   | _=>[])
  else(match x.cR with
   | [y,z]=>jK d y (decide (bD y<bD x))++([32]++dh x.op.toNat++[32])++jK d z (decide (bD z<=bD x))
   | _=>[])):=rfl
  rw[e];by_cases k1:x.k=1
  ·rw[if_pos k1];have h0:0<=x.n:=by
    rw[fF,if_pos k1]at hh;have:=(sU hh).1;split at this<;>omega
   rw[mZ h0];cases hm:Lib.decDigits x.n.toNat with
   | nil=>exact absurd hm (vq _)
   | cons c m=>
    have:=xd x.n.toNat c (by rw[hm];simp);exact⟨c,m,rfl,by unfold j6;rw[this];simp⟩
  have name:cF x.s=true->∃c t,x.s=c::t/\j6 c=true:=fun hn=>by
   unfold cF at hn;simp only[aE]at hn;obtain⟨⟨⟨h1,h2⟩,h3⟩,h4⟩:=hn;cases hs:x.s with
   | nil=>rw[hs]at h2;cases h2
   | cons c t=>
    rw[hs]at h2;have h2:dT c=true:=h2;exact⟨c,t,rfl,by unfold j6;rw[h2];simp⟩
  by_cases k2:x.k=2
  ·rw[if_neg k1,if_pos k2];exact name (iG hh (.inl k2))
  by_cases k3:x.k=3
  ·rw[if_neg k1,if_neg k2,if_pos k3];exact⟨105,_,rfl,by decide⟩
  by_cases k4:x.k=4
  ·obtain⟨y,hy,ho⟩:=qU hh k4;rw[if_neg k1,if_neg k2,if_neg k3,if_pos k4,hy];rcases ho with ho | ho
   ·rw[ho];exact⟨45,_,rfl,by decide⟩
   ·rw[ho];exact⟨33,_,rfl,by decide⟩
  ·obtain⟨_,y,z,hy,_⟩:=mV hh k1 k2 k3 k4;rw[if_neg k1,if_neg k2,if_neg k3,if_neg k4,hy];rw[hy]at ha hs;simp only[im,cA,aE]at ha;obtain⟨c,t,h1,h2⟩:=rU d (decide (bD y<bD x)) ha.1 (hs y (by simp));dsimp only;rw[h1];exact⟨c,_,rfl,h2⟩
theorem nc {r:aB} (h:∃c t,r=c::t/\j6 c=true):soft r:=by
 obtain⟨c,t,rfl,hs⟩:=h;intro d hd;simp only[fN,aJ]at hd;subst hd;exact⟨(jL hs).2.2.1,(jL hs).2.2.2⟩
theorem ql.soft {r:aB} (h:ql r):soft r:=fun d hd=>(F9 (h d hd)).2.2
theorem rV {a b:aB} (h:∃c t,a=c::t/\j6 c=true):∃c t,a++b=c::t/\j6 c=true:=by
 obtain⟨c,t,rfl,hs⟩:=h;exact⟨c,t++b,rfl,hs⟩
theorem TZ {l:aB} {i:Nat} {r:aB} (h:l.drop i=32::r) (hr:iL false r=0):iX l i=iX l (i+1):=by
 have hi:i<=l.length:=by
  refine bf fun hn=>?_;rw[cX (by omega)]at h;cases h
 rw[lg hi,h,iL,if_pos (by decide),hr]
theorem rW {l:aB}:∀(d:Nat) {x:Ex} (wr:Bool) (i:Nat) {r:aB} {ts:List Tk},bW d x=true->jm d x->i<=l.length->l.drop i=jK d x wr++r->ql r->iX l (i+(jK d x wr).length)=.ok ts->∃us,iX l i=.ok (us++ts)/\us.map k3=lX d x wr
 | 0,x,wr,i,r,ts,h,_,_,_,_,_=>by cases h
 | d+1,x,wr,i,r,ts,h,⟨hn,hs⟩,hi,hl,hr,ht=>by
  have qi:=h;rw[bW,aE]at h;obtain⟨hh,ha⟩:=h;have core:∀(i:Nat) {r:aB} {ts:List Tk},i<=l.length->l.drop i=jK (d+1) x false++r->ql r->iX l (i+(jK (d+1) x false).length)=.ok ts->∃us,iX l i=.ok (us++ts)/\us.map k3=lX (d+1) x false:=by
   intro i r ts hi hl hr ht;have e:jK (d+1) x false=(
   if x.k=1 then Lib.itoa x.n
   else if x.k=2 then x.s
   else if x.k=3 then[105,110,40]++x.s++[41]
   else if x.k=4 then(match x.cR with
    | [y]=>dh x.op.toNat++jK d y (decide (bD y<6))
    | _=>[])
   else(match x.cR with
    | [y,z]=>jK d y (decide (bD y<bD x))++([32]++dh x.op.toNat++[32])++jK d z (decide (bD z<=bD x))
    | _=>[])):=rfl
   have e2:lX (d+1) x false=(
   if x.k=1 then[(3,[],x.n)]
   else if x.k=2 then[(1,x.s,0)]
   else if x.k=3 then[(2,[105,110],0),(4,[40],0),(1,x.s,0),(4,[41],0)]
   else if x.k=4 then(match x.cR with
    | [y]=>(4,dh x.op.toNat,0)::lX d y (decide (bD y<6))
    | _=>[])
   else(match x.cR with
    | [y,z]=>lX d y (decide (bD y<bD x))++(4,dh x.op.toNat,0)::lX d z (decide (bD z<=bD x))
    | _=>[]))++[]:=rfl
   rw[br]at e2;obtain⟨c0,t0,Yt,aeG⟩:=rU (d+1) false qi ⟨hn,hs⟩;have Yj:iL false (jK (d+1) x false++r)=0:=by
    rw[Yt,cn];exact Fa (jL aeG).1 (jL aeG).2.1
   have gf:jK (d+1) x false≠[]:=by rw[Yt];simp
   by_cases k1:x.k=1
   ·rw[if_pos k1]at e e2;have h0:0<=x.n:=by
     rw[fF,if_pos k1]at hh;have:=(sU hh).1;split at this<;>omega
    rw[e2];exact⟨[⟨3,[],x.n,(i:Nat)⟩],qZ hl gf Yj (by rw[e];exact Iq h0 hn.2 hr) ht,rfl⟩
   by_cases k2:x.k=2
   ·rw[if_neg k1,if_pos k2]at e e2;rw[e2];exact⟨[⟨1,x.s,0,(i:Nat)⟩],qZ hl gf Yj (by rw[e];exact Ef (iG hh (.inl k2)) hr) ht,rfl⟩
   by_cases KY:x.k=3
   ·rw[if_neg k1,if_neg k2,if_pos KY]at e e2;have YA:=iG hh (.inr KY);obtain⟨cs,tss,kH,XC⟩:∃c t,x.s=c::t/\j6 c=true:=by
     have XD:=YA;unfold cF at XD;simp only[aE]at XD;obtain⟨⟨⟨_,h2⟩,_⟩,_⟩:=XD;cases hs:x.s with
     | nil=>rw[hs]at h2;cases h2
     | cons c t=>
      rw[hs]at h2;have h2:dT c=true:=h2;exact⟨c,t,rfl,by unfold j6;rw[h2];simp⟩
    have a0:l.drop i=[105,110]++([40]++(x.s++([41]++r))):=by rw[hl,e];simp
    have a1:=iM a0;have a2:=iM a1;have a3:=iM a2;have len:(jK (d+1) x false).length=2+1+x.s.length+1:=by rw[e];simp;omega
    have ht:iX l (i+([105,110]:aB).length+([40]:aB).length+x.s.length+([41]:aB).length)=.ok ts:=by
     rw[<-ht,len];congr 1;simp only[aH,aN];omega
    have b3:=qZ (n:=0) a3 (by simp) (Fa (by decide) (by decide)) (kw (by decide) (by decide) (by decide) (jo (by decide) hr.soft)) ht;have b2:=qZ (n:=0) (k:=1) (t:=x.s) a2 (by rw[kH];simp) (by rw[kH,cn];exact Fa (jL XC).1 (jL XC).2.1) (Ef YA fun c hc=>by simp only[dL,fN,aJ]at hc;exact hc▸rfl) b3;have b1:=qZ (n:=0) a1 (by simp) (Fa (by decide) (by decide)) (kw (by decide) (by decide) (by decide) (jo (by decide) (nc (rV (a:=x.s) (b:=[41]++r) ⟨cs,tss,kH,XC⟩)))) b2;have b0:=qZ (n:=0) (k:=2) (t:=[105,110]) a0 (by simp) (Fa (by decide) (by decide)) rfl b1;rw[e2];exact⟨[_,_,_,_],b0,rfl⟩
   by_cases k4:x.k=4
   ·obtain⟨y,hy,ho⟩:=qU hh k4;rw[if_neg k1,if_neg k2,if_neg KY,if_pos k4,hy]at e e2;dsimp only at e e2;rw[hy]at ha hs;simp only[im,cA]at ha;have zI:=hs y (by simp);have kb:=rU d (decide (bD y<6)) ha zI;have a0:l.drop i=dh x.op.toNat++(jK d y (decide (bD y<6))++r):=by rw[hl,e,aV]
    have a1:=iM a0;have ht:iX l (i+(dh x.op.toNat).length+(jK d y (decide (bD y<6))).length)=.ok ts:=by
     rw[<-ht,e,aD,eH]
    obtain⟨us,u1,u2⟩:=rW d (decide (bD y<6)) _ ha zI (vZ hi a0) a1 hr ht;have nu:jZ (dh x.op.toNat++(jK d y (decide (bD y<6))++r))=.ok (4,dh x.op.toNat,0,(dh x.op.toNat).length)/\dh x.op.toNat≠[]/\iL false (dh x.op.toNat++(jK d y (decide (bD y<6))++r))=0:=by
     rcases ho with ho | ho
     ·rw[ho];exact⟨kw (c:=45) (by decide) (by decide) (by decide) (jo (by decide) (nc (rV (a:=jK d y (decide (bD y<6))) (b:=r) kb))),by decide,Fa (by decide) (by decide)⟩
     ·rw[ho];exact⟨kw (c:=33) (by decide) (by decide) (by decide) (jo (by decide) (nc (rV (a:=jK d y (decide (bD y<6))) (b:=r) kb))),by decide,Fa (by decide) (by decide)⟩
    rw[e2];exact⟨⟨4,dh x.op.toNat,0,(i:Nat)⟩::us,qZ a0 nu.2.1 nu.2.2 nu.1 u1,by rw[bg,u2];rfl⟩
   ·obtain⟨_,y,z,hy,Oi,Fg⟩:=mV hh k1 k2 KY k4;rw[if_neg k1,if_neg k2,if_neg KY,if_neg k4,hy]at e e2;dsimp only at e e2;rw[hy]at ha hs;simp only[im,cA,aE]at ha;have zI:=hs y (by simp);have PU:=hs z (by simp);obtain⟨cz,tz,hz1,CB⟩:=rU d (decide (bD z<=bD x)) ha.2 PU;have Fc:iL false (jK d z (decide (bD z<=bD x))++r)=0:=by
     rw[hz1,cn];exact Fa (jL CB).1 (jL CB).2.1
    have nu:=VL (op:=x.op.toNat) (by omega) (by omega) (jK d z (decide (bD z<=bD x))++r);have OC:dh x.op.toNat≠[]:=by
     have:∀q,q<14->1<=q->dh q≠[]:=by decide
     exact this _ (by omega) (by omega)
    have a0:l.drop i=jK d y (decide (bD y<bD x))++([32]++(dh x.op.toNat++([32]++(jK d z (decide (bD z<=bD x))++r)))):=by rw[hl,e];simp only[aV]
    have a1:=iM a0;have a2:=iM a1;have a3:=iM a2;have a4:=iM a3;have i1:=vZ hi a0;have i2:=vZ i1 a1;have i3:=vZ i2 a2;have i4:=vZ i3 a3;have ht:iX l (i+(jK d y (decide (bD y<bD x))).length+([32]:aB).length+(dh x.op.toNat).length+([32]:aB).length+(jK d z (decide (bD z<=bD x))).length)=.ok ts:=by
     rw[<-ht,e];congr 1;simp only[aD,aH,aN];omega
    obtain⟨vs,v1,v2⟩:=rW d (decide (bD z<=bD x)) _ ha.2 PU i4 a4 hr ht;have b3:iX l (i+(jK d y (decide (bD y<bD x))).length+([32]:aB).length+(dh x.op.toNat).length)=.ok (vs++ts):=by
     exact(TZ a3 Fc).trans v1
    have b2:=qZ a2 OC nu.2 nu.1 b3;have b1:=(TZ a1 nu.2).trans b2;obtain⟨us,u1,u2⟩:=rW d (decide (bD y<bD x)) i ha.1 zI hi a0 (fun c hc=>by simp only[dL,fN,aJ]at hc;exact hc▸rfl) b1;rw[e2];exact⟨us++⟨4,dh x.op.toNat,0,_⟩::vs,by rw[u1,aV];rfl,by rw[di,bg,u2,v2];rfl⟩
  cases wr with
  | false=>exact core i hi hl hr ht
  | true=>
   have e:jK (d+1) x true=[40]++(jK (d+1) x false++[41]):=by
    unfold jK;simp[clo,opn]
   have e2:lX (d+1) x true=(4,[40],0)::(lX (d+1) x false++[(4,[41],0)]):=by
    unfold lX;simp[opk,clk]
   have kb:=rU (d+1) false qi ⟨hn,hs⟩;have a0:l.drop i=[40]++(jK (d+1) x false++([41]++r)):=by rw[hl,e];simp only[aV]
   have a1:=iM a0;have a2:=iM a1;have ht:iX l (i+([40]:aB).length+(jK (d+1) x false).length+([41]:aB).length)=.ok ts:=by
    rw[<-ht,e];congr 1;simp only[aD,aH,aN];omega
   have b2:=qZ (n:=0) a2 (by simp) (Fa (by decide) (by decide)) (kw (by decide) (by decide) (by decide) (jo (by decide) hr.soft)) ht;obtain⟨us,u1,u2⟩:=core _ (vZ hi a0) a1 (fun c hc=>by simp only[dL,fN,aJ]at hc;exact hc▸rfl) b2;have b0:=qZ (n:=0) a0 (by simp) (Fa (by decide) (by decide)) (kw (by decide) (by decide) (by decide) (jo (by decide) (nc (rV (a:=jK (d+1) x false) (b:=[41]++r) kb)))) u1;rw[e2];refine⟨⟨4,[40],0,(i:Nat)⟩::(us++[⟨4,[41],0,((i+([40]:aB).length+(jK (d+1) x false).length:Nat):Int)⟩]),by rw[b0];simp only[cn,aV,cd,dL],?_⟩;rw[bg,di,u2];rfl
def At (ts:List Tk) (i:Nat) (L:List K3):Prop:=∀j q,L[j]? =some q->k3 (tk ts (i+j))=q
section
variable {ts:List Tk} {i:Nat} {A B:List K3}
theorem At.left (h:At ts i (A++B)):At ts i A:=fun j q hj=>h j q (by rw[bF (aP.1 hj).1];exact hj)
theorem At.right (h:At ts i (A++B)):At ts (i+A.length) B:=fun j q hj=>by
 have:=h (A.length+j) q (by rw[cQ (by omega),dw];exact hj);rwa[<-eH]at this
theorem At.head {q:K3} (h:At ts i (q::A)):(tk ts i).k=q.1/\(tk ts i).t=q.2.1/\(tk ts i).n=q.2.2:=by
 have:=h 0 q rfl;rw[gr]at this;rw[<-this];exact⟨rfl,rfl,rfl⟩
theorem At.tail {q:K3} (h:At ts i (q::A)):At ts (i+1) A:=fun j p hj=>by
 have:=h (j+1) p hj;rwa[eH,jR 1 j]
theorem M5 {p q:Nat} (hp:1<=p) (Oj:p<=13) (hq:1<=q) (Wk:q<=13) (h:dh p=dh q):p=q:=by
 have:∀p,p<14->∀q,q<14->1<=p->1<=q->dh p=dh q->p=q:=by decide
 exact this p (by omega) q (by omega) hp hq h
theorem ab3 {op:Nat} (h1:1<=op) (h2:op<=13) (hk:(tk ts i).k=4) (ht:(tk ts i).t=dh op) (k:Int):iE ts k i=if dY (op:Int)=k then(op:Int)else 0:=by
 have:∀(f q:Nat),1<=q->q+f<=14->ij ts k i f q=if q<=op/\op<q+f/\dY (op:Int)=k then(op:Int)else 0:=by
  intro f
  induction f with
  | zero=>intro q _ _;rw[if_neg (by omega)];rfl
  | succ f ih=>
   intro q hq hf;rw[ij,ih (q+1) (by omega) (by omega)];by_cases he:q=op
   ·subst he;have hs:sg ts i (dh q)=true:=F5 ⟨hk,ht⟩;by_cases hr:dY (q:Int)=k
    ·rw[if_pos ⟨hr,hs⟩,if_pos ⟨aK _,by omega,hr⟩]
    ·rw[if_neg (fun h=>hr h.1),if_neg (by omega),if_neg (fun h=>hr h.2.2)]
   ·have hs:¬sg ts i (dh q)=true:=fun hs=>he (by
     simp only[sg,aE,bd]at hs;exact M5 hq (by omega) h1 h2 (by rw[<-ht,hs.2]))
    rw[if_neg (fun h=>hs h.2)];by_cases hc:q+1<=op/\op<q+1+f/\dY (op:Int)=k
    ·rw[if_pos hc,if_pos ⟨by omega,by omega,hc.2.2⟩]
    ·rw[if_neg hc,if_neg (fun h=>hc ⟨by omega,by omega,h.2.2⟩)]
 rw[iE,this 13 1 (by omega) (by omega)];by_cases hr:dY (op:Int)=k
 ·rw[if_pos hr,if_pos ⟨h1,by omega,hr⟩]
 ·rw[if_neg hr,if_neg (fun h=>hr h.2.2)]
theorem xf {op:Int} (h1:1<=op) (h2:op<=13):0<=dY op/\dY op<=5:=by
 unfold dY;split
 ·omega
 split
 ·omega
 split
 ·omega
 split
 ·omega
 split
 ·omega
 split
 ·omega
 ·omega
theorem Ir {f d k0:Nat} {x:Ex} {j:Nat} (h:cx ts f k0 d i=.ok (x,j)) (h6:k0<=6):∀(m k:Nat),k+m=k0->(∀q:Int,(k:Int)<=q->q<(k0:Int)->iE ts q j=0)->cx ts (f+m) k d i=.ok (x,j)
 | 0,k,hk,_=>by
  have:k=k0:=by omega
  subst this;exact h
 | m+1,k,hk,h0=>by
  rw[<-eH,cx,if_neg (by omega),Ir h h6 m (k+1) (by omega) fun q h1 h2=>h0 q (by omega) h2];simp only[yd];exact TX (h0 _ (ig _) (by omega)) _
theorem Eg {f d k0:Nat} {e:Int×Int} (h:cx ts f k0 d i=.error e) (h6:k0<=6):∀(m k:Nat),k+m=k0->cx ts (f+m) k d i=.error e
 | 0,k,hk=>by
  have:k=k0:=by omega
  subst this;exact h
 | m+1,k,hk=>by
  rw[<-eH,cx,if_neg (by omega),Eg h h6 m (k+1) (by omega)];rfl
end
def T0 (x:Ex) (j:Nat) (r:Pr):Prop:=(∃x',r=.ok (x',j)/\Sim x x')∨∃a,r=.error (21,a)
theorem T0.down {ts:List Tk} {i f d k0 k:Nat} {x:Ex} {j:Nat} (h:T0 x j (cx ts (f-(k0-k)) k0 d i)) (hf:k0-k<=f) (h6:k0<=6) (hk:k<=k0) (h0:∀q:Int,(k:Int)<=q->q<(k0:Int)->iE ts q j=0):T0 x j (cx ts f k d i):=by
 have e:f=(f-(k0-k))+(k0-k):=by omega
 rcases h with⟨x',h1,h2⟩ | ⟨a,h1⟩
 ·exact .inl ⟨x',by rw[e];exact Ir h1 h6 _ k (by omega) h0,h2⟩
 ·exact .inr ⟨a,by rw[e];exact Eg h1 h6 _ k (by omega)⟩
abbrev PP (ts:List Tk) (d:Nat):Prop:=∀{x:Ex} (wr:Bool) (k dd i f:Nat),bW d x=true->At ts i (lX d x wr)->k<=6->(wr=false->(k:Int)<=bD x)->dd<=20->eS k dd<=f->i+(lX d x wr).length<ts.length->(∀q:Int,(k:Int)<=q->q<=5->iE ts q (i+(lX d x wr).length)=0)->T0 x (i+(lX d x wr).length) (cx ts f k dd i)
abbrev QQ (ts:List Tk) (d:Nat):Prop:=∀{x:Ex} (k dd i f:Nat),bW d x=true->x.k=5->(k:Int)=bD x->At ts i (lX d x false)->dd<=20->eS k dd<=f+1->i+(lX d x false).length<ts.length->(∀q:Int,(k:Int)<q->q<=5->iE ts q (i+(lX d x false).length)=0)->
 (∃x' g,ts.length-(i+(lX d x false).length)<=g/\cx ts (f+1) k dd i=gI ts (cx ts f (k+1) dd) k g x' (i+(lX d x false).length)/\Sim x x')∨∃a,cx ts (f+1) k dd i=.error (21,a)
theorem yL (x:Ex):x=.mk x.k x.n x.s x.op x.cR x.a:=by cases x;rfl
section
variable {ts:List Tk} {d:Nat}
theorem It (hP:PP ts d) (hQ:QQ ts d):QQ ts (d+1):=by
 intro x k dd i f qi ol Oo cy N2 hf bJ h0;rw[bW,aE]at qi;obtain⟨hh,ha⟩:=qi;obtain⟨_,y,z,hy,Oi,Fg⟩:=mV hh (by omega) (by omega) (by omega) (by omega);have hnx:x.n=0/\x.s=[]:=by
  rw[fF,if_neg (by omega),if_neg (by omega),if_neg (by omega),if_pos ol,aE]at hh;have:=sU hh.2;exact⟨this.1,this.2.1⟩
 have hlx:bD x=dY x.op:=by rw[bD,if_pos ol]
 obtain⟨r0,r5⟩:=xf Oi Fg;have e2:lX (d+1) x false=(lX d y (decide (bD y<bD x))++(4,dh x.op.toNat,0)::lX d z (decide (bD z<=bD x))):=by
  rw[lX,if_neg (by omega),if_neg (by omega),if_neg (by omega),if_neg (by omega),hy];simp[opk,clk]
 rw[e2]at cy bJ h0⊢;rw[hy]at ha;simp only[im,cA,aE]at ha;have XE:=cy.left;have aeH:=cy.right;have akw:=aeH.tail;obtain⟨t1,t2,_⟩:=aeH.head;rw[aD,aH]at bJ h0⊢;generalize Fe:i+(lX d y (decide (bD y<bD x))).length=j1 at*
 have hjz:i+((lX d y (decide (bD y<bD x))).length+((lX d z (decide (bD z<=bD x))).length+1))=j1+1+(lX d z (decide (bD z<=bD x))).length:=by omega
 rw[hjz]at bJ h0⊢;generalize RI:j1+1+(lX d z (decide (bD z<=bD x))).length=j2 at*
 have nu:∀q:Int,iE ts q j1=if dY x.op=q then x.op else 0:=fun q=>by
  have:=ab3 (ts:=ts) (i:=j1) (op:=x.op.toNat) (by omega) (by omega) t1 t2 q;rwa[fM (by omega)]at this
 have hex:x=.mk 5 0 [] x.op [y,z] x.a:=by
  have:=yL x;rw[ol,hnx.1,hnx.2,hy]at this;exact this
 have Jf:eS (k+1) dd<=f:=by unfold eS at hf⊢;omega
 have aeI:(∃y' g,ts.length-j1<=g/\cx ts (f+1) k dd i=gI ts (cx ts f (k+1) dd) k g y' j1/\Sim y y')∨∃a,cx ts (f+1) k dd i=.error (21,a):=by
  by_cases hB:bD y=bD x
  ·have hwr:decide (bD y<bD x)=false:=aZ (by omega);have hy5:y.k=5:=by
    refine bf fun hn=>?_;have:bD y=6:=by rw[bD,if_neg hn]
    omega
   rw[hwr]at XE Fe;have:=hQ (x:=y) k dd i f ha.1 hy5 (by rw[hB];exact Oo) XE N2 hf (by omega) (fun q h1 h2=>by rw[Fe,nu,if_neg (by omega)]);rw[Fe]at this;exact this
  ·have:=hP (x:=y) (decide (bD y<bD x)) (k+1) dd i f ha.1 XE (by omega) (fun hw=>by have:=aI hw;omega) N2 Jf (by omega) (fun q h1 h2=>by rw[Fe,nu,if_neg (by omega)]);rw[Fe]at this;rw[cx,if_neg (by omega)];rcases this with⟨y',h1,h2⟩ | ⟨a,h1⟩
   ·exact .inl ⟨y',ts.length-j1,aK _,by rw[h1];rfl,h2⟩
   ·exact .inr ⟨a,by rw[h1];rfl⟩
 refine aeI.elim (fun⟨y',g,hg,h1,h2⟩=>?_) .inr;obtain⟨g,rfl⟩:∃m,g=m+1:=⟨g-1,by omega⟩
 have qx:iE ts (k:Int) j1=x.op:=by rw[nu,if_pos (by omega)]
 have hz:=hP (x:=z) (decide (bD z<=bD x)) (k+1) dd (j1+1) f ha.2 akw (by omega) (fun hw=>by have:=aI hw;omega) N2 Jf (by omega) (fun q h1 h2=>by rw[RI];exact h0 q (by omega) h2);rw[RI]at hz;rw[h1,gI,qx,if_neg (by omega)];rcases hz with⟨z',h3,h4⟩ | ⟨a,h3⟩
 ·refine .inl ⟨.mk 5 0 [] x.op [y',z'] y'.a,g,by omega,by rw[h3];rfl,?_⟩;rw[hex];exact .two _ _ _ _ _ _ _ _ _ _ h2 h4
 ·exact .inr ⟨a,by rw[h3];rfl⟩
theorem Rk (hP:PP ts d) (hQ:QQ ts d):PP ts (d+1):=by
 have plain:∀{x:Ex} (k dd i f:Nat),bW (d+1) x=true->At ts i (lX (d+1) x false)->k<=6->(k:Int)<=bD x->dd<=20->eS k dd<=f->i+(lX (d+1) x false).length<ts.length->(∀q:Int,(k:Int)<=q->q<=5->iE ts q (i+(lX (d+1) x false).length)=0)->T0 x (i+(lX (d+1) x false).length) (cx ts f k dd i):=by
  intro x k dd i f qi cy WG Oo N2 hf bJ h0;have akx:=qi;rw[bW,aE]at qi;obtain⟨hh,ha⟩:=qi;by_cases ol:x.k=5
  ·obtain⟨_,y,z,hy,Oi,Fg⟩:=mV hh (by omega) (by omega) (by omega) (by omega);have hlx:bD x=dY x.op:=by rw[bD,if_pos ol]
   obtain⟨r0,r5⟩:=xf Oi Fg;obtain⟨k0,gN⟩:∃k0:Nat,(k0:Int)=bD x:=⟨(bD x).toNat,by omega⟩
   refine T0.down (k0:=k0) ?_ (by unfold eS at hf;omega) (by omega) (by omega) fun q h1 h2=>h0 q h1 (by omega);obtain⟨f',hf'⟩:∃m,f-(k0-k)=m+1:=⟨f-(k0-k)-1,by unfold eS at hf;omega⟩
   rw[hf'];rcases It hP hQ k0 dd i f' akx ol gN cy N2 (by unfold eS at hf⊢;omega) bJ (fun q h1 h2=>h0 q (by omega) h2)with⟨x',g,hg,h1,h2⟩ | h
   ·exact .inl ⟨x',by rw[h1];exact TX (h0 _ (by omega) (by omega)) _,h2⟩
   ·exact .inr h
  ·have hlx:bD x=6:=by rw[bD,if_neg ol]
   refine T0.down (k0:=6) ?_ (by unfold eS at hf;omega) (by omega) (by omega) fun q h1 h2=>h0 q h1 (by omega);obtain⟨f',hf'⟩:∃m,f-(6-k)=m+1:=⟨f-(6-k)-1,by unfold eS at hf;omega⟩
   have Jf:(20-dd)*8<=f':=by unfold eS at hf;omega
   rw[hf',cx,if_pos rfl];unfold mz;by_cases k1:x.k=1
   ·have e2:lX (d+1) x false=[(3,[],x.n)]:=by rw[lX,if_pos k1];rfl
    rw[e2]at cy⊢;obtain⟨t1,t2,t3⟩:=cy.head;dsimp only at t1 t2 t3;rw[MX t2 (by decide),MX t2 (by decide),MX t2 (by decide),if_neg (by decide),if_neg (by decide),if_pos t1,t3];refine .inl ⟨_,rfl,?_⟩;rw[fF,if_pos k1]at hh;obtain⟨_,b2,b3,b4⟩:=sU hh;have hs:x.cR=[]:=bc (by omega);have:=yL x;rw[k1,b2,b3,hs]at this;rw[this];exact .leaf ..
   by_cases k2:x.k=2
   ·have e2:lX (d+1) x false=[(1,x.s,0)]:=by rw[lX,if_neg k1,if_pos k2];rfl
    rw[e2]at cy⊢;obtain⟨t1,t2,t3⟩:=cy.head;dsimp only at t1 t2 t3;have CU:∀s,sg ts i s=false:=fun s=>by unfold sg;rw[t1];rfl
    rw[CU,CU,CU,if_neg (by decide),if_neg (by decide),if_neg (by rw[t1];decide),if_pos t1,t2];refine .inl ⟨_,rfl,?_⟩;rw[fF,if_neg k1,if_pos (.inl k2),aE]at hh;obtain⟨b1,b2,b3,b4⟩:=sU hh.2;have hs:x.cR=[]:=bc (by omega);have:=yL x;rw[k2,b1,b3,hs]at this;rw[this];exact .leaf ..
   by_cases KY:x.k=3
   ·have e2:lX (d+1) x false=[(2,[105,110],0),(4,[40],0),(1,x.s,0),(4,[41],0)]:=by rw[lX,if_neg k1,if_neg k2,if_pos KY];rfl
    rw[e2]at cy⊢;obtain⟨t1,t2,t3⟩:=cy.head;obtain⟨u1,u2,u3⟩:=cy.tail.head;obtain⟨v1,v2,v3⟩:=cy.tail.tail.head;obtain⟨p1,p2,p3⟩:=cy.tail.tail.tail.head;dsimp only at t1 t2 t3 u1 u2 u3 v1 v2 v3 p1 p2 p3;have CU:∀s,sg ts i s=false:=fun s=>by unfold sg;rw[t1];rfl
    rw[CU,CU,CU,if_neg (by decide),if_neg (by decide),if_neg (by rw[t1];decide),if_neg (by rw[t1];decide),if_pos ⟨t1,t2⟩];unfold yf;rw[if_pos (F5 ⟨u1,u2⟩),if_pos v1,if_pos (F5 ⟨p1,p2⟩)];refine .inl ⟨_,rfl,?_⟩;rw[fF,if_neg k1,if_pos (.inr KY),aE]at hh;obtain⟨b1,b2,b3,b4⟩:=sU hh.2;have hs:x.cR=[]:=bc (by omega);have:=yL x;rw[KY,b1,b3,hs]at this;have v2:(tk ts (i+2)).t=x.s:=v2;rw[v2,this];exact .leaf ..
   have k4:x.k=4:=bf fun k4=>ol (mV hh k1 k2 KY k4).1;obtain⟨y,hy,ho⟩:=qU hh k4;have e2:lX (d+1) x false=(4,dh x.op.toNat,0)::lX d y (decide (bD y<6)):=by
    rw[lX,if_neg k1,if_neg k2,if_neg KY,if_pos k4,hy];simp[opk,clk]
   rw[e2]at cy bJ⊢;rw[hy]at ha;simp only[im,cA]at ha;obtain⟨t1,t2,t3⟩:=cy.head;dsimp only at t1 t2 t3;have hor:(sg ts i [45]||sg ts i [33])=true:=by
    rcases ho with ho | ho
    ·have:sg ts i [45]=true:=F5 ⟨t1,by rw[t2,ho];rfl⟩;rw[this,G4]
    ·have:sg ts i [33]=true:=F5 ⟨t1,by rw[t2,ho];rfl⟩;rw[this,lA]
   rw[if_pos hor];by_cases xp:dd=20
   ·exact .inr ⟨(tk ts i).a,by rw[gU,if_pos xp];rfl⟩
   rw[gU,if_neg xp];rw[aH]at bJ⊢;have hj:i+((lX d y (decide (bD y<6))).length+1)=i+1+(lX d y (decide (bD y<6))).length:=by omega
   rw[hj]at bJ⊢;have hy6:bD y<=6:=by
    unfold bD dY;split
    ·split
     ·omega
     split
     ·omega
     split
     ·omega
     split
     ·omega
     split
     ·omega
     split
     ·omega
     ·omega
    ·omega
   rcases hP (x:=y) (decide (bD y<6)) 6 (dd+1) (i+1) f' ha cy.tail (aK _) (fun hw=>by have:=aI hw;omega) (by omega) (by unfold eS;omega) bJ (fun q h1 h2=>by omega)with⟨y',h1,h2⟩ | ⟨a,h1⟩
   ·refine .inl ⟨_,by rw[h1];rfl,?_⟩;rw[fF,if_neg k1,if_neg (by omega),if_pos k4]at hh;obtain⟨b1,b2,b3,b4⟩:=sU hh;have nu:(if(tk ts i).t=[33]then(15:Int)else 14)=x.op:=by
     rcases ho with ho | ho
     ·rw[t2,ho];rfl
     ·rw[t2,ho];rfl
    have:=yL x;rw[k4,b1,b2,hy]at this;rw[nu,this];exact .one _ _ _ _ _ _ _ _ h2
   ·exact .inr ⟨a,by rw[h1];rfl⟩
 intro x wr k dd i f qi cy WG Oo N2 hf bJ h0;cases wr with
 | false=>exact plain k dd i f qi cy WG (Oo rfl) N2 hf bJ h0
 | true=>
  have e2:lX (d+1) x true=(4,[40],0)::(lX (d+1) x false++[(4,[41],0)]):=by
   unfold lX;simp[opk,clk]
  refine T0.down (k0:=6) ?_ (by unfold eS at hf;omega) (by omega) (by omega) fun q h1 h2=>h0 q h1 (by omega);rw[e2]at cy bJ⊢;obtain⟨f',hf'⟩:∃m,f-(6-k)=m+1:=⟨f-(6-k)-1,by unfold eS at hf;omega⟩
  have Jf:(20-dd)*8<=f':=by unfold eS at hf;omega
  obtain⟨t1,t2,t3⟩:=cy.head;have KX:=cy.tail.left;obtain⟨p1,p2,p3⟩:=cy.tail.right.head;dsimp only at t1 t2 t3 p1 p2 p3;rw[hf',cx,if_pos rfl];unfold mz;rw[MX t2 (by decide),MX t2 (by decide),F5 ⟨t1,t2⟩,if_neg (by decide),if_pos rfl];by_cases xp:dd=20
  ·exact .inr ⟨(tk ts i).a,by rw[gU,if_pos xp]⟩
  rw[gU,if_neg xp];rw[aH,aD,aW]at bJ⊢;have hj:i+((lX (d+1) x false).length+1+1)=i+1+(lX (d+1) x false).length+1:=by omega
  rw[hj]at bJ⊢;have aky:0<=bD x:=by
   unfold bD dY;split
   ·split
    ·omega
    split
    ·omega
    split
    ·omega
    split
    ·omega
    split
    ·omega
    split
    ·omega
    ·omega
   ·omega
  rcases plain 0 (dd+1) (i+1) f' qi KX (by omega) (by omega) (by omega) (by unfold eS;omega) (by omega) (fun q h1 h2=>ab0 p2 (by decide) q)with⟨x',h1,h2⟩ | ⟨a,h1⟩
  ·refine .inl ⟨x',?_,h2⟩;rw[h1];simp only[pJ];rw[if_pos (F5 ⟨p1,p2⟩)]
  ·exact .inr ⟨a,by rw[h1];rfl⟩
theorem Eh (ts:List Tk):∀d,PP ts d/\QQ ts d
 | 0=>⟨(by intro x wr k dd i f h;cases h),(by intro x k dd i f h;cases h)⟩
 | d+1=>⟨Rk (Eh ts d).1 (Eh ts d).2,It (Eh ts d).1 (Eh ts d).2⟩
end
theorem Ei {d:Nat} {x:Ex} (hs:bW d x=true) (hn:jm d x) (hr:(eV (mJ d x false [])).2.1=0):(mJ d x false []).length<=16384/\Sim x (eV (mJ d x false [])).1:=by
 have dN:(mJ d x false []).length<=16384:=by
  refine bf fun hc=>?_;unfold eV at hr;have:ca (mJ d x false [])=([],2, -1):=by rw[ca,if_pos (by omega)]
  rw[this,if_pos (by decide)]at hr;exact absurd hr (show ¬(2:Int)=0 by decide)
 refine⟨dN,?_⟩;have Uq:=Ao d false [] hs dN;rw[cd]at Uq;rw[Uq]at hr dN⊢;generalize hL:jK d x false=L at*
 have O2:iX L (0+L.length)=.ok [⟨5,[],0,((L.length:Nat):Int)⟩]:=by
  have hd:L.drop L.length=[]:=cX (aK _);have h5:iL false []=0:=rfl;rw[bm,iR (aK _),hd,h5,if_pos (by omega)];rfl
 obtain⟨us,h1,h2⟩:=rW (l:=L) d (x:=x) false 0 (r:=[]) hs hn (aQ _) (by rw[fg,br,hL]) (fun c hc=>by cases hc) (by rw[hL];exact O2);generalize PZ:us++[(⟨5,[],0,((L.length:Nat):Int)⟩:Tk)]=ts at*
 have t1:ca L=(ts,0,0):=by
  rw[ca,if_neg (by omega),h1]
 have YC:us.length=(lX d x false).length:=by rw[<-h2,bL]
 have KO:ts.length=us.length+1:=by rw[<-PZ,aD,aW]
 have cy:At ts 0 (lX d x false):=fun j q hj=>by
  rw[<-h2,cH,eM]at hj;obtain⟨t,g1,rfl⟩:=hj;have:tk ts (0+j)=t:=by
   unfold tk;rw[<-PZ,bm,bF (aP.1 g1).1,g1];rfl
  rw[this]
 have hke:(tk ts us.length).k=5:=by
  unfold tk;rw[<-PZ,cQ (aK _),G3];rfl
 have aky:0<=bD x:=by
  unfold bD dY;split
  ·split
   ·omega
   split
   ·omega
   split
   ·omega
   split
   ·omega
   split
   ·omega
   split
   ·omega
   ·omega
  ·omega
 have hP:=(Eh ts d).1 (x:=x) false 0 0 0 (eS 0 0) hs cy (by decide) (fun _=>by omega) (by decide) (aK _) (by omega) (fun q _ _=>VJ (by rw[bm,<-YC];exact hke) q);have Wj:nZ ts 0=cx ts (eS 0 0) 0 0 0:=rfl;rw[<-Wj]at hP;have hrd:eV L=if(bH ts 0).2.2.1≠0 then(tG,(bH ts 0).2.2.1,(bH ts 0).2.2.2)else if(tk ts (bH ts 0).2.1.toNat).k≠5 then(tG,4,(tk ts (bH ts 0).2.1.toNat).a)else((bH ts 0).1,0,(bH ts 0).2.2.2):=by
  unfold eV;rw[t1];rfl
 rw[hrd]at hr⊢;have RQ:bH ts 0=if 0<ts.length/\jl ts+1=ts.length then(match nZ ts 0 with
  | .error (c,p)=>(tG,0,c,p)
  | .ok (x,j)=>(x,(j:Int),0,0))else(tG,0,1, -1):=by
  unfold bH;by_cases hc:0<ts.length/\jl ts+1=ts.length
  ·rw[if_pos hc,if_pos ⟨ig _,by omega,hc.2⟩];rfl
  ·rw[if_neg hc,if_neg (fun hh=>hc ⟨by omega,hh.2.2⟩)]
 rw[RQ]at hr⊢;have hc:0<ts.length/\jl ts+1=ts.length:=bf fun hc=>by
  rw[if_neg hc,if_pos (by decide)]at hr;exact absurd hr (show ¬(1:Int)=0 by decide)
 rw[if_pos hc]at hr⊢;rcases hP with⟨x',g1,g2⟩ | ⟨a,g1⟩
 ·rw[g1]at hr⊢;dsimp only at hr⊢;rw[if_neg (by decide),aM,bm,<-YC,hke,if_neg (by decide)];exact g2
 ·rw[g1]at hr;dsimp only at hr;rw[if_pos (by decide)]at hr;exact absurd hr (show ¬(21:Int)=0 by decide)
end Go.Proofs.YtmhoiicofhlgbaaGreatDoor.Con
