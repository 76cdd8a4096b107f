import Derived.Test.YtbkjcdocjfknfaaGreatDoorQc13
set_option linter.unusedSectionVars false
namespace Go.Proofs.YtbkjcdocjfknfaaGreatDoor.Con
open Go.Value renaming int->O,string->ab,pointer->ae,agg->ah,tuple->ai,bool->aj
open Go.IntKind renaming i64->U,wrap->ar
open Go.Ending renaming returned->ak
open _root_.ByteArray renaming mk->ao
open _root_.Go.Proofs.Tryz renaming prog->aq
open Go.Instr renaming buildSlice->au
open Go renaming World->av,Value->aw,Calls->az
open Go.Kt renaming Only->ay,SliceF->aA,Cells->aB,OnlyP->aD,Blk->aF
open Go Go.RowKit Go.Kt Go.Kt.V Go.Proofs.YtbkjcdocjfknfaaGreatDoor.Vc
set_option linter.unusedSimpArgs false
set_option linter.unusedVariables false
set_option linter.unusedSectionVars false
set_option maxHeartbeats 4000000
set_option maxRecDepth 100000
section
theorem HH(w:av)(k:Int):az aq 53 #[O U k] w fun e w'=>e=ak (aj (Bq k))/\w'=w:=by
 refine ret (afV _ _ _ ?_);exact⟨rfl,rfl⟩
theorem SH{m:Nat}(h:m<2 ^ 64)(n:Int):Pm m n<2 ^ 64:=Nat.or_lt_two_pow h (tR n)
theorem JG(xs:List cN)(i:Nat):∀n,Ig xs i n<2 ^ 64
 | 0=>Nat.pow_pos (by decide)
 | n+1=>by
  unfold Ig;split
  ·exact SH (JG xs i n) _
  ·exact JG xs i n
theorem JH(xs:List cN)(i:Nat):∀n,MP xs i n<2 ^ 64
 | 0=>Nat.pow_pos (by decide)
 | n+1=>by
  unfold MP;split
  ·exact SH (JH xs i n) _
  ·exact JH xs i n
theorem SI(xs:List cN)(a:Nat):∀(l:List Mv) (i j:Nat),(xr xs a i l)[j]? =(l[j]?).map fun m=>Fv xs a (i+j) m
 | [],i,j=>by rw[xr];rfl
 | m::l,i,0=>by rw[xr];rfl
 | m::l,i,j+1=>by
  rw[xr,cu,cu,SI xs a l];congr 1;funext m;congr 1;omega
theorem A2{w w':av}{a:Addr}{v:aw}{cs:aI}(h:aB w a (v::cs))(hO:ay [] w w'):aB w' a (v::cs):=h.keep (hO.block _ (by
 have:=h 0 v rfl;unfold World.cell? at this;refine cx fun hn=>?_;rw[show(a.add 0).block=a.block from rfl,eU (by omega)]at this;cases this) (by simp))
section
variable {w u:av} {F:aJ} {sn sv su sc se s si sd sr:Sl} {b:Nat} {nm:List (aH)} {ce:List Ce} {ed:List Nat} {p:Pl}
structure Two (w:av) (b:Nat) (sn sc:Sl) (nm:List (aH)) (ce:List Ce) (x:aH) (y:Ce) (Bn xI:Sl) (u:av):Prop where
 n:Own ju 1 9 (b+1) u (fun _=>False) Bn (nm++[x])
 c:Own JF 11 44 (b+1) u (fun _=>False) xI (ce++[y])
 o:aD (fun k=>ez sn k∨ez sc k) w u
 n1:∀k,ez Bn k->ez sn k∨w.heap.size<=k
 c1:∀k,ez xI k->ez sc k∨w.heap.size<=k
 ap:∀k,ez Bn k->¬ez xI k
theorem Ww(u:av)(x:aH):∃y w1,(au 31 1 #[.mk 0 (ab (T x))]).run aq u=.ok (Sl.v y) w1/\ay [] u w1/\aA ju 1 w1 (fun k=>u.heap.size<=k/\k<w1.heap.size) y [x]:=
 Wv (e:=9) (i:=Tryz.t9) (z:=ab (ao #[])) (by kernel_rfl) (by kernel_rfl) rfl rfl (by decide) (by decide) cP rfl rfl
theorem aaY(u:av)(x:Ce)(l m:Sl):∃y w1,(au 33 1 #[.mk 0 (ah #[O U x.k,O U x.pa,.int .u64 (x.up:Nat),.int .u64 (x.dn:Nat),.int .u64 (x.rg:Nat),O U x.ini,O U x.dft,l.v,m.v,O U (x.f0:Nat),O U (x.f1:Nat)])]).run aq u=.ok (Sl.v y) w1/\ay [] u w1/\aA JF 11 w1 (fun k=>u.heap.size<=k/\k<w1.heap.size) y [x]:=
 Wv (e:=44) (i:=Tryz.t44) (by kernel_rfl) (by kernel_rfl) rfl rfl (by decide) (by decide) jl rfl ⟨l,m,rfl⟩
theorem amM{A:Nat}{u:av}{s y:Sl}{xs:List (aH)}{x:aH}(h:Own ju 1 9 A u (fun _=>False) s xs)(hA:A<=u.heap.size){G:aJ}(hy:aA ju 1 u G y [x])(hG:∀k,G k->¬ez s k)(hm:xs.length<=1000):
  ∃s' w2,(Builtin.append_ #[31,31] 31 #[Sl.v s,Sl.v y]).run aq u=.ok (Sl.v s') w2/\Own ju 1 9 A w2 (fun _=>False) s' (xs++[x])/\aD (ez s) u w2/\∀k,ez s' k->ez s k∨u.heap.size<=k:=
 SD (i:=Tryz.t9) (bytes:=16) (by kernel_rfl) (by kernel_rfl) rfl rfl rfl rfl (by decide) cP HG h hA hy hG (by omega)
theorem amN{A:Nat}{u:av}{s y:Sl}{xs:List Ce}{x:Ce}(h:Own JF 11 44 A u (fun _=>False) s xs)(hA:A<=u.heap.size){G:aJ}(hy:aA JF 11 u G y [x])(hG:∀k,G k->¬ez s k)(hm:xs.length<=1000):
  ∃s' w2,(Builtin.append_ #[33,33] 33 #[Sl.v s,Sl.v y]).run aq u=.ok (Sl.v s') w2/\Own JF 11 44 A w2 (fun _=>False) s' (xs++[x])/\aD (ez s) u w2/\∀k,ez s' k->ez s k∨u.heap.size<=k:=
 SD (i:=Tryz.t44) (bytes:=120) (by kernel_rfl) (by kernel_rfl) rfl rfl rfl rfl (by decide) jl SF h hA hy hG (by omega)
theorem amO(u:av)(v:aI)(x:Nat)(hv:v.length=16)(h:SE u (fun _=>False) x v):∃y w1,(au 34 1 #[.mk 0 (ah v.toArray)]).run aq u=.ok (Sl.v y) w1/\ay [] u w1/\aA SE 16 w1 (fun k=>u.heap.size<=k/\k<w1.heap.size) y [x]:=
 Wv (e:=66) (i:=Tryz.t66) (by kernel_rfl) (by kernel_rfl) rfl rfl (by decide) (by decide) rf hv h
theorem amP{A:Nat}{u:av}{s y:Sl}{xs:List Nat}{x:Nat}(h:Own SE 16 66 A u (fun _=>False) s xs)(hA:A<=u.heap.size){G:aJ}(hy:aA SE 16 u G y [x])(hG:∀k,G k->¬ez s k)(hm:xs.length<=100000000):
  ∃s' w2,(Builtin.append_ #[34,34] 34 #[Sl.v s,Sl.v y]).run aq u=.ok (Sl.v s') w2/\Own SE 16 66 A w2 (fun _=>False) s' (xs++[x])/\aD (ez s) u w2/\∀k,ez s' k->ez s k∨u.heap.size<=k:=
 SD (i:=Tryz.t66) (bytes:=192) (by kernel_rfl) (by kernel_rfl) rfl rfl rfl rfl (by decide) rf SG h hA hy hG (by omega)
theorem Ma.seq(h:Ma w b F sn sv su sc se s si sd sr nm ce ed p){u1:av}(o1:ay [] w u1){y1:Sl}{x:aH}{G1:aJ}(hy1:aA ju 1 u1 G1 y1 [x])(g1:∀k,G1 k->w.heap.size<=k)(hm:nm.length<=1000)(Nj:ce.length<=1000):
  ∃Bn u2,(Builtin.append_ #[31,31] 31 #[Sl.v sn,Sl.v y1]).run aq u1=.ok (Sl.v Bn) u2/\aD (ez sn) u1 u2/\∀{u3:av},ay [] u2 u3->∀{y2:Sl} {y:Ce} {G2:aJ},aA JF 11 u3 G2 y2 [y]->(∀k,G2 k->w.heap.size<=k)->
   ∃xI u4,(Builtin.append_ #[33,33] 33 #[Sl.v sc,Sl.v y2]).run aq u3=.ok (Sl.v xI) u4/\aD (ez sc) u3 u4/\Two w b sn sc nm ce x y Bn xI u4:=by
 have bS:=h.lt;have z1:=o1.size;have h1:=h.o0 o1;obtain⟨Bn,u2,r1,r2,r3,r4⟩:=amM h1.n (by omega) hy1 (fun k hk e=>by have:=h.bn k e;have:=g1 k hk;omega) hm;have z2:=r3.size;refine⟨Bn,u2,r1,r3,fun{u3} o2 {y2 y G2} hy2 g2=>?_⟩;have z3:=o2.size;have lw:Own JF 11 44 (b+1) u2 (fun _=>False) sc ce:=h1.c.keep jl fun k hk bS=>r3.block k bS fun e=>(h.ap k e).1 (hk.resolve_left id).2;obtain⟨xI,u4,t1,t2,t3,t4⟩:=amN (lw.keep jl fun k hk bS=>o2.block k bS (by simp)) (by omega) hy2 (fun k hk e=>by have:=h.bc k e;have:=g2 k hk;omega) Nj;refine⟨xI,u4,t1,t3,(r2.keep cP fun k hk bS=>o2.block k bS (by simp)).keep cP fun k hk bS=>t3.block k bS fun e=>?_,t2,?_,fun k e=>(r4 k e).imp id fun h=>by omega,fun k e=>(t4 k e).imp id fun h=>by omega,fun k e e'=>?_⟩
 ·rcases r4 k (hk.resolve_left id).2 with e' | e'
  ·exact(h.ap k e').1 e
  ·have:=h.bc k e;omega
 ·exact((o1.mL (r3.mono (G:=fun k=>ez sn k∨ez sc k) fun k _ e=>.inl e)).cf o2).trans (t3.mono (G:=fun k=>ez sn k∨ez sc k) fun k _ e=>.inr e) fun k e=>.inl e
 ·have hs:=(r2.blk e).2;dsimp only at hs;rcases r4 k e with e1 | e1
  ·rcases t4 k e' with e2 | e2
   ·exact(h.ap k e1).1 e2
   ·have:=h.bn k e1;omega
  ·rcases t4 k e' with e2 | e2
   ·have:=h.bc k e2;omega
   ·omega
theorem Ma.two(h:Ma w b F sn sv su sc se s si sd sr nm ce ed p){x:aH}{y:Ce}{Bn xI:Sl}(t:Two w b sn sc nm ce x y Bn xI u):
  aF u b 93 [sn.v,sv.v,su.v,sc.v,se.v,s.v,si.v,sd.v,sr.v]/\∀w1,ay [b] u w1->aF w1 b 93 [Bn.v,sv.v,su.v,sc.v,se.v,s.v,si.v,sd.v,sr.v]->∀w2,ay [b] w1 w2->aF w2 b 93 [Bn.v,sv.v,su.v,xI.v,se.v,s.v,si.v,sd.v,sr.v]->
   Ma w2 b F Bn sv su xI se s si sd sr (nm++[x]) (ce++[y]) ed p/\rI b (Q3 sn sc se) w (Q3 Bn xI se) w2:=by
 have bS:=h.lt;refine⟨t.o.blk h.blk fun e=>e.elim (fun e=>by have:=h.bn b e;omega) fun e=>by have:=h.bc b e;omega,fun w1 cr wD w2 cR po=>?_⟩;have z:=t.o.size;have z1:=cr.size;have z2:=cR.size;have hq:∀k,Q3 Bn xI se k->Q3 sn sc se k∨w.heap.size<=k:=fun k hk=>by
  rcases hk with hk | hk | hk
  ·exact(t.n1 k hk).imp .inl id
  ·exact(t.c1 k hk).imp (fun h=>.inr (.inl h)) id
  ·exact .inl (.inr (.inr hk))
 have kp:∀k,k<w.heap.size->k≠b->¬Q3 sn sc se k->w2.heap[k]? =w.heap[k]? :=fun k h1 h2 h3=>by
  rw[cR.block k (by omega) (by simpa using h2),cr.block k (by omega) (by simpa using h2),t.o.block k h1 fun e=>h3 (e.imp id .inl)]
 refine⟨h.fin (by omega) kp (sX cP (sX cP t.n cr) cR) (sX jl (sX jl t.c cr) cR) (h.e.keep rf fun k hk bS=>?_) hq (fun k e=>⟨t.ap k e,fun e'=>?_⟩) (fun k e e'=>?_) po,⟨((t.o.mono (G:=fun k=>k=b∨Q3 sn sc se k) fun k _ e=>.inr (e.imp id .inl)).trans (cr.p (F:=fun k=>k=b) (by simp)) fun k hk=>.inl (.inl hk)).trans (cR.p (F:=fun k=>k=b) (by simp)) fun k hk=>.inl (.inl hk),hq⟩⟩
 ·have hk:=hk.resolve_left id;rw[cR.block k (by omega) (by simp;omega),cr.block k (by omega) (by simp;omega),t.o.block k bS fun e=>e.elim (fun e=>(h.ap k e).2 hk.2) fun e=>h.ap2 k e hk.2]
 ·rcases t.n1 k e with e | e
  ·exact(h.ap k e).2 e'
  ·have:=h.be k e';omega
 ·rcases t.c1 k e with e | e
  ·exact h.ap2 k e e'
  ·have:=h.be k e';omega
end
theorem pc.head{xs:List cN}{a:Nat}{pa dp:Int}{bb:Nb}{ks:List Nd}(h:pc xs (yC a pa dp (.mk bb ks)) a):xs[a]? =some ⟨bb.k,bb.nm,pa,dp,((a+1+dJ ks:Nat):Int)⟩/\pc xs (pV (a+1) a (dp+1) ks) (a+1):=by
 unfold pc at h⊢;rw[yC]at h;exact⟨h 0 _ rfl,fun i x hi=>by rw[dA,fK 1 i];exact h (i+1) x hi⟩
theorem pc.kid{xs:List cN}{pa dp:Int}:∀{ks:List Nd} {a:Nat} {j:Nat} {y:Nd},pc xs (pV a pa dp ks) a->ks[j]? =some y->pc xs (yC (a+dJ (ks.take j)) pa dp y) (a+dJ (ks.take j))
 | [],_,_,_,_,h=>by simp at h
 | x::ks,a,0,y,h,hy=>by
  rw[ci,aZ]at hy;subst hy;rw[pV]at h;rw[cM,dJ,dG];exact h.left
 | x::ks,a,j+1,y,h,hy=>by
  rw[cu]at hy;rw[pV]at h;have:=h.right;rw[lh]at this;have:=pc.kid this hy;rw[dV,dJ,<-dA];exact this
theorem HI{xs:List cN}:∀{ks:List Nd} {a:Nat} {j:Nat} {y:Nd},ks[j]? =some y->∀{i:Nat} {r:Ro},(wM xs (a+dJ (ks.take j)) y)[i]? =some r->(jP xs a ks)[re (ks.take j)+i]? =some r
 | [],_,_,_,h,_,_,_=>by simp at h
 | x::ks,a,0,y,hy,i,r,h=>by
  rw[ci,aZ]at hy;subst hy;rw[cM,dJ,dG]at h;rw[cM,re,bO,jP,bK (aV.1 h).1];exact h
 | x::ks,a,j+1,y,hy,i,r,h=>by
  rw[cu]at hy;rw[dV,dJ,<-dA]at h;have:=HI hy h;have hl:=MS xs x a;rw[dV,re,jP,bT (by omega),hl];rw[show Um x+re (ks.take j)+i-Um x=re (ks.take j)+i by omega];exact this
mutual
theorem aaZ:∀x:Nd,Um x<=mO x
 | .mk b l=>by
  have:=ED l;have:=lj b.mv;rw[Um,mO];unfold CE;omega
theorem ED:∀l:List Nd,re l<=iw l
 | []=>bh _
 | x::l=>by
  have:=aaZ x;have:=ED l;rw[re,iw];omega
end
section
variable {b:Nat} {F:aJ} {sv su s si sd sr:Sl} {p:Pl}
theorem Ys(tZ:Fo p.sp)(yH:p.sp.length<=64)(Bg:p.ini.length=p.sp.length)(zf:p.dft.length=p.sp.length):∀(D:Nat) {w:av} {G:aJ} {x:Nd} {cs:aI} {qn sc se:Sl} {nm:List (aH)} {ce:List Ce} {ed:List Nat} {pa dp:Int},
  ol false D w G x cs->(∀k,G k->k<b)->Ma w b F qn sv su sc se s si sd sr nm ce ed p->mO x<=8388608->pc p.sp (yC ce.length pa dp x) ce.length->(∀j r,(wM p.sp ce.length x)[j]? =some r->p.ro[ed.length+j]? =some r)->
  (∀i c,ce[i]? =some c->c.up=JB p.sp i/\c.dn=Wi p.sp i)->nm.length=ce.length->ed.length+mO x<=16777216->
  az aq 38 #[ae (some ⟨b,0,none⟩),ah cs.toArray] w fun e w'=>e=ak (ai #[])/\∃qn' xI PM,Ma w' b F qn' sv su xI PM s si sd sr (nm++(AN x).map fun c=>c.nm) (ce++Pn p ce.length ed.length x) (ed++(wM p.sp ce.length x).map (CT p.sp)) p/\rI b (Q3 qn sc se) w (Q3 qn' xI PM) w'
 | 0,_,_,_,_,_,_,_,_,_,_,_,_,h,_,_,_,_,_,_,_,_=>h.elim
 | D+1,w,G,.mk bb ks,cs,qn,sc,se,nm,ce,ed,pa,dp,⟨en,lv,mv,kids,nP,⟨BU,FC,qy⟩,gu⟩,hG,hM,hz,aiv,hro,hce,hnm,hed=>by
  have hk:=gu.1;have qy:=qy.1;have BU:=BU.1;have FC:=FC.1;clear gu;dsimp only[Nd.kids,Nd.b]at hk nP qy BU FC;subst nP;rw[mO]at hz hed;have Tu:=hk.len;have Bx:=qy.len;have hnn:=pW ks;have zg:=lj bb.mv;have hsb:(jw bb.en+jw bb.lv)+xj bb.mv<=CE bb:=by unfold CE;omega
  obtain⟨hx,aiD⟩:=aiv.head;have hal:=fJ hx;have hup:=tZ.up _ _ hx;have hql:ce.length+1+dJ ks<=p.sp.length:=by have:=hup.2;dsimp only at this;omega
  refine ret (afT _ _ _ _ _ _ _ _ _ _ _ _ ?_);intro k0 w0 gu fe cD;have z0:=cD.size;have C4:=hM.lt;have hq:=hM.q3;have Zj:=hM.o0 cD;have acZ:sc.n=ce.length:=hM.c.len;have apR:se.n=ed.length:=hM.e.len;obtain⟨ad,a1,a2,_⟩:=kH Zj.pl.sp hx;refine⟨sc,Blk.dQ Zj.blk 3 rfl,?_⟩;dsimp only;rw[acZ];refine⟨s,Blk.dQ Zj.blk 5 rfl,ad,a1,_,_,_,_,_,a2,fun k1 w1 j5 iX cr=>⟨fun _=>True,trivial,trivial,fun w2 cR=>⟨trivial,?_⟩⟩⟩;have z1:=cr.size;have z2:=cR.size;have o2:=cr.cf cR;have hM2:=Zj.o0 o2;obtain⟨iv,hiv⟩:∃iv,p.ini[ce.length]? =some iv:=⟨_,aW (by omega)⟩
  obtain⟨dv,hdv⟩:∃dv,p.dft[ce.length]? =some dv:=⟨_,aW (by omega)⟩
  obtain⟨ad1,b1,b2⟩:=gW hM2.pl.ini hiv;refine⟨si,Blk.dQ hM2.blk 6 rfl,ad1,b1,fun w3 de=>⟨trivial,iv,A2 b2 de,fun w4 dL=>⟨trivial,?_⟩⟩⟩;have o4:=(o2.cf de).cf dL;have hM4:=Zj.o0 o4;obtain⟨ve,c1,c2⟩:=gW hM4.pl.dft hdv;refine⟨sd,Blk.dQ hM4.blk 7 rfl,ve,c1,fun w5 eP=>⟨trivial,dv,A2 c2 eP,trivial,trivial,fun w6 eB=>⟨trivial,se,Blk.dQ ((hM4.o0 eP).o0 eB).blk 4 rfl,?_⟩⟩⟩;dsimp only;rw[apR,Bx];intro w7 fE;have o7:=((o4.cf eP).cf eB).cf fE;have z7:=o7.size;have q7:w1.heap.size<=w7.heap.size:=by have:=de.size;have:=dL.size;have:=eP.size;have:=eB.size;have:=fE.size;omega
  refine(EC (SliceF.only (dq false) (by decide) BU (cD.cf o7) (by simp)) (by omega)).mono ?_;rintro _ w8 ⟨⟨t1,rfl⟩,fy⟩;have z8:=fy.size;refine⟨t1,rfl,fy.same (by simp;omega),jt.yd fy,bP.only fy,fun w9 fQ=>?_⟩;have z9:=fQ.size;have o9:=(o7.cf fy).cf fQ;refine(EC (SliceF.only (dq false) (by decide) FC (cD.cf o9) (by simp)) (by omega)).mono ?_;rintro _ du ⟨⟨t2,rfl⟩,dM⟩;have PB:=dM.size;refine⟨t2,rfl,dM.same (by simp;omega),jt.yd dM,bP.only dM,fun dC eu k2 rm rn _ dN eS=>?_⟩;have C6:=eu.size;have z12:=eS.size;have Xe:ay [] w0 dN:=((o9.cf dM).cf eu).trans eS fun x hx=>.inr (by simp only[aN]at hx;omega);have en0:((ce.length+1+dJ ks:Nat):Int)=((ce.length+1+dJ ks:Nat):Int):=rfl;have eI:(p.ini[ce.length]?).getD 0=iv:=by rw[hiv];rfl
  have eD:(p.dft[ce.length]?).getD 0=dv:=by rw[hdv];rfl
  have wE:IntKind.i64.wrap ((ed.length:Int)+(bb.mv.length:Int))=((ed.length+bb.mv.length:Nat):Int):=by rw[fR (by omega) (by omega)];omega
  refine⟨fun a1 a2 a3 a4 a5 a6 a7 l7 l8 a8 a9 u=>a1=bb.k/\a2=pa/\a3=(JB p.sp ce.length:Nat)/\a4=0/\a5=0/\a6=iv/\a7=dv/\a8=(ed.length:Nat)/\a9=((ed.length+bb.mv.length:Nat):Int)/\ay [] w0 u/\dN.heap.size<=u.heap.size,?_,fun PD WX ac0=>?_,fun PD=>⟨rfl,rfl,?_,rfl,rfl,rfl,rfl,rfl,wE,Xe,aX _⟩⟩;rotate_left
  ·have PD:=aO PD;have z64:=ac0.size;have aiE:=Zj.o0 (Xe.cf ac0);obtain⟨q,hqe⟩:∃q:Nat,pa=q:=⟨pa.toNat,by omega⟩
   have YZ:=tZ.uy hx;dsimp only at YZ;obtain⟨cq,hcq⟩:∃cq,ce[q]? =some cq:=⟨_,aW (by omega)⟩
   obtain⟨Iv,y3,cs3,d1,d2,d3,d4,d5,el,ll,rfl⟩:=(aiE.c.slice jl).get (bA q) (by omega);rw[aY,hcq,aZ]at d2;subst d2;refine⟨fun _=>True,trivial,sc,Blk.dQ aiE.blk 3 rfl,trivial,Iv,by rw[hqe];exact d1,trivial,_,d5.dQ 2 _ rfl,(Ez WX pa).mono ?_⟩;rintro _ w65 ⟨rfl,hu⟩;obtain rfl:WX=w65:=hu.symm;refine⟨_,rfl,bU.refl _ _,fun _ _ _=>rfl,fun w66 aiG=>⟨rfl,rfl,?_,rfl,rfl,rfl,rfl,rfl,wE,(Xe.cf ac0).trans aiG fun x hx=>.inr (by simp only[aN]at hx;omega),by have:=aiG.size;omega⟩⟩;have hu:=(hce q cq hcq).1;have bS:cq.up<2 ^ 64:=by rw[hu];exact nZ _
   rw[u64_or_nat _ _ bS (tR pa),hu,Wj tZ yH hx hqe,<-hqe];rfl
  ·have PD:=aR PD;have h0:ce.length=0:=by
    refine Nat.eq_zero_of_not_pos fun hp=>?_;obtain⟨q,t,e1,e2,_⟩:=tZ.par hx hp;dsimp only at e2;omega
   rw[h0,Sn tZ yH];rfl
  rintro a1' a2' a3' a4' a5' US a7' l7 l8 a8' a9' fb ⟨g1,g2,g3,g4,g5,g6,g7,g8,g9,o13,PF⟩;have WO:ce.length+1<=p.sp.length:=by omega
  refine⟨fun kv i a1 a2 a3 a4 a5 a6 a7 l7 l8 a8 a9 u=>∃q:Nat,i=(q:Int)/\ce.length+1<=q/\kv+q=ce.length+1+dJ ks/\a1=bb.k/\a2=pa/\a3=(JB p.sp ce.length:Nat)/\a4=(Ig p.sp ce.length q:Nat)/\a5=(MP p.sp ce.length q:Nat)/\a6=iv/\a7=dv/\a8=(ed.length:Nat)/\a9=((ed.length+bb.mv.length:Nat):Int)/\ay [] w0 u/\dN.heap.size<=u.heap.size,dJ ks,⟨ce.length+1,by rw[fR (by omega) (by omega)];rfl,aX _,by omega,g1,g2,g3,by rw[g4,CR tZ yH _ (aX _)];rfl,by rw[g5,CS tZ yH _ (aX _) WO];rfl,g6,g7,g8,g9,o13,PF⟩,?_⟩;clear g1 g2 g3 g4 g5 g6 g7 g8 g9 o13 PF;rintro kv _ a1 a2 a3 a4 a5 a6 a7 l9 l10 a8 a9 fk ⟨q,rfl,hq1,tY,g1,g2,g3,g4,g5,g6,g7,g8,g9,o14,W0⟩;refine⟨fun hc=>?_,fun hc=>?_⟩
  ·have hc:=aO hc;obtain⟨t,ht⟩:=gV (xs:=p.sp) (i:=q) (by omega);refine⟨fun a1 a2 a3 a4 a5 a6 a7 l7 l8 a8 a9 u=>a1=bb.k/\a2=pa/\a3=(JB p.sp ce.length:Nat)/\a4=(Ig p.sp ce.length (q+1):Nat)/\a5=(MP p.sp ce.length (q+1):Nat)/\a6=iv/\a7=dv/\a8=(ed.length:Nat)/\a9=((ed.length+bb.mv.length:Nat):Int)/\ay [] w0 u/\dN.heap.size<=u.heap.size,?_,fun gI iR=>⟨fun _=>True,trivial,?_⟩⟩
   ·rintro b1 b2 b3 b4 b5 b6 b7 mP qm b8 b9 fZ ⟨e1,e2,e3,e4,e5,e6,e7,e8,e9,o15,z15⟩;exact⟨kv-1,by omega,q+1,by rw[fR (by omega) (by omega)];rfl,by omega,by omega,e1,e2,e3,e4,e5,e6,e7,e8,e9,o15,z15⟩
   have z16:=iR.size;refine(Ez gI q).mono ?_;rintro _ gf ⟨rfl,hu⟩;obtain rfl:gI=gf:=hu.symm;refine⟨_,rfl,bU.refl _ _,fun _ _ _=>rfl,fun iy mV=>?_⟩;have z18:=mV.size;have o18:ay [] w0 iy:=(o14.cf iR).trans mV fun x hx=>.inr (by simp only[aN]at hx;omega);have ac1:=Zj.o0 o18;have hdn:Ig p.sp ce.length (q+1)=Pm (Ig p.sp ce.length q) q:=by
    rw[Ig,if_pos ⟨by omega,pY.2 ⟨_,hx,by omega,by dsimp only;omega⟩⟩]
   have edn:bits .or .u64 a4 ((AU (q:Int):Nat):Int)=(Ig p.sp ce.length (q+1):Nat):=by
    rw[g4,u64_or_nat _ _ (JG _ _ _) (tR _),hdn];rfl
   refine⟨fun c u=>c=decide ((q:Int)∈dz p.sp ce.length)/\ay [] w0 u/\dN.heap.size<=u.heap.size,?_,?_⟩
   ·rintro c jA ⟨hcr,o19,z19⟩;refine⟨fun hb iW nJ=>⟨fun _=>True,trivial,(Ez iW q).mono ?_⟩,fun hb=>⟨g1,g2,g3,edn,?_,g6,g7,g8,g9,o19,z19⟩⟩
    ·rintro _ lu ⟨rfl,hu⟩;obtain rfl:iW=lu:=hu.symm;have z20:=nJ.size;refine⟨_,rfl,bU.refl _ _,fun _ _ _=>rfl,fun oT Bj=>⟨g1,g2,g3,edn,?_,g6,g7,g8,g9,(o19.cf nJ).trans Bj fun x hx=>.inr (by simp only[aN]at hx;omega),by have:=Bj.size;omega⟩⟩;rw[hb]at hcr;rw[g5,u64_or_nat _ _ (JH _ _ _) (tR _),MP,if_pos (aO hcr.symm)];rfl
    ·rw[hb]at hcr;rw[g5,MP,if_neg (aR hcr.symm)]
   ·obtain⟨Iv,d1,d2,d3,_⟩:=kH ac1.pl.sp ht;refine⟨s,Blk.dQ ac1.blk 5 rfl,Iv,d1,t.pa,d3,fun he=>⟨s,Blk.dQ ac1.blk 5 rfl,Iv,d1,t.k,d2.dQ 0 _ rfl,(HH iy t.k).mono ?_⟩,fun he=>⟨?_,o18,by omega⟩⟩
    ·have he:t.pa=(ce.length:Int):=by simpa using he
     rintro _ om ⟨rfl,hu⟩;obtain rfl:iy=om:=hu.symm;refine⟨_,rfl,bU.refl _ _,?_,o18,by omega⟩;rw[bX,cA,jE];constructor
     ·exact fun h=>⟨q,t,rfl,ht,he,h⟩
     ·rintro⟨q',t',e,h1,_,h3⟩;have:q'=q:=by omega
      subst this;rw[ht,aZ]at h1;rw[h1];exact h3
    ·have he:¬t.pa=(ce.length:Int):=by simpa using he
     refine(bC fun h=>?_).symm;obtain⟨q',t',e,h1,h2,_⟩:=jE.1 h;have:q'=q:=by omega
     subst this;rw[ht,aZ]at h1;rw[h1]at he;exact he h2
  have hc:=aR hc;have hqe:q=ce.length+1+dJ ks:=by omega
  subst hqe;obtain⟨y,hy⟩:∃y,y=Sp p ce.length ed.length bb:=⟨_,rfl⟩
  have hye:a1=y.k/\a2=y.pa/\a3=(y.up:Nat)/\a4=(y.dn:Nat)/\a5=(y.rg:Nat)/\a6=y.ini/\a7=y.dft/\a8=(y.f0:Nat)/\a9=((y.f1:Nat):Int):=by
   rw[hy];unfold Sp;dsimp only;rw[li hx,eI,eD,<-Wk tZ yH hx rfl,<-Wl tZ yH hx rfl];exact⟨g1,g2,g3,g4,g5,g6,g7,g8,g9⟩
  clear g1 g2 g3 g4 g5 g6 g7 g8 g9;obtain⟨rfl,rfl,rfl,rfl,rfl,rfl,rfl,rfl,rfl⟩:=hye;have hyc:y.up=JB p.sp ce.length/\y.dn=Wi p.sp ce.length:=by rw[hy];exact⟨rfl,rfl⟩
  refine⟨fun u=>∃n1 c1,Ma u b F n1 sv su c1 se s si sd sr (nm++[bb.nm]) (ce++[y]) ed p/\rI b (Q3 qn sc se) w0 (Q3 n1 c1 se) u/\(∀k,Q3 n1 c1 se k->Q3 qn sc se k∨dN.heap.size<=k)/\dN.heap.size<=u.heap.size,?_,fun Bw aiH=>?_⟩;rotate_left
  ·have o46:=o14.cf aiH;have z46:=aiH.size;have H3:=Zj.o0 o46;have st:∀{u v:av} {P:aJ},aD P u v->(∀k,P k->ez qn k∨ez sc k)->Bw.heap.size<=u.heap.size->bU [k0,k1,k2] u v/\bP (fun k=>k<Bw.heap.size/\¬ez qn k/\¬ez sc k) u v:=fun hO hP hz=>by
    refine⟨hO.same fun x hx=>?_,fun k hk bS=>hO.block k bS fun e=>(hP k e).elim hk.2.1 hk.2.2⟩;simp only[aU,ba,bW]at hx;refine⟨by omega,fun e=>?_⟩;have:=hP x e;rcases this with h | h
    ·have:=hM.bn x h;omega
    ·have:=hM.bc x h;omega
   have jb:b<Bw.heap.size/\¬ez qn b/\¬ez sc b:=⟨by omega,fun e=>by have:=hM.bn b e;omega,fun e=>by have:=hM.bc b e;omega⟩
   have jk:∀k,w.heap.size<=k->k<Bw.heap.size->k<Bw.heap.size/\¬ez qn k/\¬ez sc k:=fun k h1 h2=>⟨h2,fun e=>by have:=hM.bn k e;omega,fun e=>by have:=hM.bc k e;omega⟩
   refine⟨fun k=>k<Bw.heap.size/\¬ez qn k/\¬ez sc k,jb,qn,Blk.dQ H3.blk 0 rfl,jk k0 (by omega) (by omega),jb,sc,Blk.dQ H3.blk 3 rfl,jk k2 (by omega) (by omega),?_⟩;have fin:∀{u:av} {n1 c1:Sl},Two Bw b qn sc nm ce bb.nm y n1 c1 u->∃uf yp z1 Kh,(((⟨b,0,none⟩:Addr).add 0).add 0)=⟨uf,yp,none⟩/\aF u uf Kh z1/\(yp+1)<=z1.length/\k0≠uf/\k1≠uf/\k2≠uf/\∀Tm,ay [uf] u Tm->aF Tm uf Kh (cj z1 yp [n1.v])->∃xE Ki z2 Th,(((⟨b,0,none⟩:Addr).add 0).add 3)=⟨xE,Ki,none⟩/\aF Tm xE Th z2/\(Ki+1)<=z2.length/\k0≠xE/\k1≠xE/\k2≠xE/\∀Tn,ay [xE] Tm Tn->aF Tn xE Th (cj z2 Ki [c1.v])->
     ∃n1 c1,Ma Tn b F n1 sv su c1 se s si sd sr (nm++[bb.nm]) (ce++[y]) ed p/\rI b (Q3 qn sc se) w0 (Q3 n1 c1 se) Tn/\(∀k,Q3 n1 c1 se k->Q3 qn sc se k∨dN.heap.size<=k)/\dN.heap.size<=Tn.heap.size:=fun{u n1 c1} T=>by
    obtain⟨t1,t2⟩:=H3.two T;refine⟨b,0,_,_,rfl,t1,cy rfl,by omega,by omega,by omega,fun Tm apS aiI=>⟨b,3,_,_,rfl,aiI,cy rfl,by omega,by omega,by omega,fun Tn apT apU=>?_⟩⟩;obtain⟨t3,t4⟩:=t2 Tm apS aiI Tn apT apU;exact⟨n1,c1,t3,rI.of0 o46 t4,fun k hk=>(t4.2 k hk).imp id fun h=>by omega,by have:=t4.1.size;omega⟩
   refine⟨?_,?_⟩
   ·obtain⟨y1,HX,p1,p2,p3⟩:=Ww Bw bb.nm;have z47:=p2.size;have s47:=st (P:=fun _=>False) p2.p0 (fun _ h=>h.elim) (aX _);refine⟨y1,HX,p1,s47.1,s47.2,?_,?_⟩
    ·obtain⟨n1,PC,r1,r3,r4⟩:=H3.seq p2 p3 (fun k hk=>hk.1) (by omega) (by omega);have z48:=r3.size;have s48:=st r3 (fun _ h=>.inl h) z47;obtain⟨y2,UH,q1,q2,q3⟩:=aaY PC y l9 l10;have z49:=q2.size;have s49:=st (P:=fun _=>False) q2.p0 (fun _ h=>h.elim) (by omega);obtain⟨c1,w50,t1,t3,t4⟩:=r4 q2 q3 (fun k hk=>by omega);have s50:=st t3 (fun _ h=>.inr h) (by omega);exact⟨n1,PC,r1,s48.1,s48.2,y2,UH,q1,s49.1,s49.2,c1,w50,t1,s50.1,s50.2,fin t4⟩
    ·obtain⟨y2,w53,q1,q2,q3⟩:=aaY HX y l9 l10;have z53:=q2.size;have s53:=st (P:=fun _=>False) q2.p0 (fun _ h=>h.elim) (by omega);obtain⟨n1,w54,r1,r3,r4⟩:=H3.seq (p2.cf q2) (SliceF.only cP (by decide) p3 q2 (by simp)) (fun k hk=>hk.1) (by omega) (by omega);have z54:=r3.size;have s54:=st r3 (fun _ h=>.inl h) (by omega);obtain⟨c1,w55,t1,t3,t4⟩:=r4 (Only.refl _ _) (SliceF.jV jl (by decide) q3 r3 fun k hk _ e=>by have:=H3.bn k e;omega) (fun k hk=>by omega);have s55:=st t3 (fun _ h=>.inr h) (by omega);exact⟨y2,w53,q1,s53.1,s53.2,n1,w54,r1,s54.1,s54.2,c1,w55,t1,s55.1,s55.2,fin t4⟩
   ·obtain⟨y2,YU,q1,q2,q3⟩:=aaY Bw y l9 l10;have z58:=q2.size;have s58:=st (P:=fun _=>False) q2.p0 (fun _ h=>h.elim) (aX _);obtain⟨y1,w59,p1,p2,p3⟩:=Ww YU bb.nm;have z59:=p2.size;have s59:=st (P:=fun _=>False) p2.p0 (fun _ h=>h.elim) (by omega);obtain⟨n1,w60,r1,r3,r4⟩:=H3.seq (q2.cf p2) p3 (fun k hk=>by omega) (by omega) (by omega);have z60:=r3.size;have s60:=st r3 (fun _ h=>.inl h) (by omega);obtain⟨c1,w61,t1,t3,t4⟩:=r4 (Only.refl _ _) (SliceF.jV jl (by decide) (SliceF.only jl (by decide) q3 p2 (by simp)) r3 fun k hk _ e=>by have:=H3.bn k e;omega) (fun k hk=>by omega);have s61:=st t3 (fun _ h=>.inr h) (by omega);exact⟨y2,YU,q1,s58.1,s58.2,y1,w59,p1,s59.1,s59.2,n1,w60,r1,s60.1,s60.2,c1,w61,t1,s61.1,s61.2,fin t4⟩
  rintro oU ⟨n1,c1,apV,m24,apW,z24⟩;have aiJ:∀i c,(ce++[y])[i]? =some c->c.up=JB p.sp i/\c.dn=Wi p.sp i:=fun i c h=>by
   by_cases hi:i<ce.length
   ·rw[bK hi]at h;exact hce i c h
   ·rw[bT (by omega)]at h;have:i-ce.length=0:=by
     have:=(aV.1 h).1;rw[bG]at this;omega
    rw[this,ci,aZ]at h;have:i=ce.length:=by omega
    rw[<-h,this];exact hyc
  have hf0:y.f0=ed.length:=by rw[hy];rfl
  have mT:(ce++[y]).length=ce.length+1:=by rw[aP,bG]
  have Zk:∀{u:av} {Q':aJ},rI b (Q3 qn sc se) w0 Q' u->∀k,G k->¬(k=b∨Q3 qn sc se k):=fun m k Xj=>by
   have:=hG k Xj;exact fun h=>h.elim (by omega) fun h=>by have:=hq k h;omega
  have iM:∀{u:av} {Q':aJ},rI b (Q3 qn sc se) w0 Q' u->aA (ol false D) 9 u G kids ks:=fun m=>SliceF.jV (cG false D) (by decide) hk (cD.mL m.1) fun k Xj _=>Zk m k Xj;have Tz:∀{u:av} {Q':aJ},rI b (Q3 qn sc se) w0 Q' u->aA (Jd false) 13 u G mv bb.mv:=fun m=>SliceF.jV (lV false) (by decide) qy (cD.mL m.1) fun k Xj _=>Zk m k Xj;have noq:∀{Q':aJ},(∀k,Q' k->Q3 qn sc se k∨dN.heap.size<=k)->∀k,w.heap.size<=k->k<dN.heap.size->¬Q' k:=fun hh k h1 h2 e=>by
   rcases hh k e with h | h
   ·have:=hq k h;omega
   ·omega
  refine⟨fun kv i u=>∃(j:Nat) (q:Sl),i=(j:Int)/\kv+j=bb.mv.length/\j<=bb.mv.length/\Ma u b F n1 sv su c1 q s si sd sr (nm++[bb.nm]) (ce++[y]) (ed++(xr p.sp ce.length 0 (bb.mv.take j)).map (CT p.sp)) p/\rI b (Q3 qn sc se) w0 (Q3 n1 c1 q) u/\(∀k,Q3 n1 c1 q k->Q3 qn sc se k∨dN.heap.size<=k)/\dN.heap.size<=u.heap.size,bb.mv.length,⟨0,se,rfl,by omega,bh _,by rw[cM,xr,eV,bQ];exact apV,m24,apW,z24⟩,?_⟩;rintro kv _ mM ⟨j,q,rfl,OZ,hj,Xn,m25,T2,z25⟩;refine⟨fun lw=>?_,fun lw=>?_⟩
  ·have lw:=aO lw;obtain⟨Iv,m,ds,d1,d2,d3,d4,d5,d6⟩:=(Tz m25).get (bA j) (by omega);rw[aY]at d2;obtain⟨gc,tv,tgl,rfl,Za,yr,vd⟩:=d6;obtain⟨sl,d,rfl,rO⟩:=M0 Za;have yr:=yr.1;have hmz:Jo m<=xj bb.mv:=sQ (bF d2);have htz:=yV m.tg;have q1:=M1 m.g;have q2:=EB d m.g.fF;unfold Jo at hmz;have j8:j<bb.mv.length:=by omega
   have hrj:p.ro[ed.length+j]? =some (Fv p.sp ce.length j m):=by
    refine hro j _ ?_;rw[wM,bK (by rw[mq];exact j8),SI,d2,bO];rfl
   refine⟨Iv,d1,_,_,_,_,_,_,_,_,sl,_,tv,tgl,_,d5,fun k8 oo hk8 Tt iO=>⟨fun _=>True,trivial,?_⟩⟩;have z26:=iO.size;have T3:=Xn.o0 iO;have Zc:=(aV.1 hrj).1;have hrn:=T3.pl.ro.len;obtain⟨ad4,r,ds4,e1,e2,e3,e4,e5,e6⟩:=T3.pl.ro.get (i:=((ed.length+j:Nat):Int)) (bA _) (by omega);rw[aY,hrj,aZ]at e2;subst e2;obtain⟨tr,rfl,hTr⟩:=e6;have wI:IntKind.i64.wrap ((y.f0:Int)+(j:Int))=((ed.length+j:Nat):Int):=by rw[hf0,fR (by omega) (by omega)];omega
   refine⟨sr,Blk.dQ T3.blk 8 rfl,trivial,ad4,by rw[wI];exact e1,trivial,_,_,_,_,_,tr,_,e5,fun k9 rP hk9 acI qp=>⟨fun _=>True,trivial,trivial,trivial,trivial,trivial,trivial,trivial,trivial,fun vp ui=>?_⟩⟩;have z27:=qp.size;have z28:=ui.size;have hrt:(Fv p.sp ce.length j m).tg.length=m.tg.length:=by unfold Fv;rw[bm]
   have o28:=qp.cf ui;refine(Jy (kI hTr o28) (by omega)).mono ?_;rintro _ xF ⟨t5,rfl,_,oh⟩;have z29:=oh.size;refine⟨t5,rfl,oh.same (by simp;omega),jt.yd oh,bP.only oh,fun E5 Tw=>?_⟩;have z30:=Tw.size;have o30:=(o28.cf oh).cf Tw;refine(EC (SliceF.only (dq false) (by decide) yr (iO.cf o30) (by simp)) (by omega)).mono ?_;rintro _ Ip ⟨⟨t6,rfl⟩,Bk⟩;have z31:=Bk.size;refine⟨t6,rfl,Bk.same (by simp;omega),jt.yd Bk,bP.only Bk,fun Ti aiL jd ail TZ _ Tj TM=>?_⟩;have z32:=aiL.size;have z33:=TM.size;have o33:ay [] oo Tj:=((o30.cf Bk).cf aiL).trans TM fun x hx=>.inr (by simp only[aN]at hx;omega);refine(HF d (SliceF.only (jW d) (by decide) rO (iO.cf o33) (by simp)) (by omega)).mono ?_;rintro _ UE ⟨⟨t7,rfl⟩,ac2⟩;have z34:=ac2.size;refine⟨t7,rfl,ac2.same (by simp;omega),fun OO TN=>?_⟩;have z35:=TN.size;have o35:ay [] oo OO:=(o33.cf ac2).trans TN fun x hx=>.inr (by simp only[aN]at hx;omega);refine⟨fun _ _ _ _ _ _ _ ex _ _ _ _ _ _ _ _ u=>ex=(CT p.sp (Fv p.sp ce.length j m):Nat)/\ay [] oo u/\OO.heap.size<=u.heap.size,?_,fun hdm w41 ac3=>?_,fun hdm=>⟨?_,o35,aX _⟩⟩;rotate_left
   ·have hdm:=aO hdm;have z41:=ac3.size;have ac4:=T3.o0 (o35.cf ac3);have air:=Wn tZ (a:=ce.length) (m.tg.map (vj p.sp));obtain⟨dd,Py⟩:∃dd:Nat,(Fv p.sp ce.length j m).dom=dd:=⟨(Fv p.sp ce.length j m).dom.toNat,by omega⟩
    have axf:Ej p.sp ce.length (m.tg.map (vj p.sp))=dd:=Py;obtain⟨cq,hcq⟩:∃cq,(ce++[y])[dd]? =some cq:=⟨_,aW (by rw[mT];omega)⟩
    have hcn:=ac4.c.len;obtain⟨ad5,y5,cs5,f1,f2,f3,f4,f5,el,ll,rfl⟩:=(ac4.c.slice jl).get (bA dd) (by omega);rw[aY,hcq,aZ]at f2;subst f2;refine⟨c1,Blk.dQ ac4.blk 3 rfl,ad5,by rw[Py];exact f1,_,f5.dQ 3 _ rfl,fun WW aiN=>⟨?_,(o35.cf ac3).trans aiN fun x hx=>.inr (by simp only[aN]at hx;omega),by have:=aiN.size;omega⟩⟩;rw[(aiJ dd cq hcq).2];unfold CT;rw[Py,if_pos (by omega),aY]
   ·have hdm:=aR hdm;unfold CT;rw[if_neg (by omega)];rfl
   rintro v1 v2 v3 v4 v5 v6 v7 ex v9 v10 v11 v12 v13 v14 v15 v16 WV ⟨rfl,o36,z36⟩ UF aiO;have z37:=aiO.size;have o37:=o36.cf aiO;have ac5:=T3.o0 o37;have m37:=(m25.cf iO).cf o37;obtain⟨y6,Iq,p1,p2,p3⟩:=amO UF [O U v1,O U v2,O U v3,ab v4,O U v5,v6.v,O U v7,.int .u64 (CT p.sp (Fv p.sp ce.length j m):Nat),aj v9,O U v10,O U v11,ab v12,O U v13,v14.v,O U v15,v16.v] (CT p.sp (Fv p.sp ce.length j m)) rfl ⟨rfl,fun v hv=>by
    simp only[aU,ba,bW]at hv;rcases hv with rfl | rfl | rfl | rfl | rfl | rfl | rfl | rfl | rfl | rfl | rfl | rfl | rfl | rfl | rfl | rfl<;>rfl⟩
   have z38:=p2.size;have wK:=ac5.o0 p2;obtain⟨q',UG,t1,t2,t3,t4⟩:=amP wK.e (by omega) p3 (fun k hk e=>by have:=ac5.be k e;omega) (by rw[aP,bm,mq,cT];omega);have z39:=t3.size;refine⟨fun k=>k=b,rfl,q,Blk.dQ ac5.blk 4 rfl,y6,Iq,p1,p2.same (by simp;omega),bP.only p2,q',UG,t1,t3.same fun x hx=>?_,fun k hk bS=>?_,b,4,_,_,rfl,t3.blk wK.blk fun e=>(by have:=wK.be b e;omega),cy rfl,by omega,by omega,by omega,by omega,by omega,by omega,fun YQ T4 apZ=>⟨kv-1,by omega,j+1,q',by rw[fR (by omega) (by omega)];rfl,by omega,by omega,?_,?_,fun k hk=>?_,by have:=T4.size;omega⟩⟩
   ·simp only[aU,ba,bW]at hx;have ap0:=Xn.be x;have hn:=noq T2 x;refine⟨by omega,fun e=>?_⟩;have:=ap0 e;exact hn (by omega) (by omega) (.inr (.inr e))
   ·subst hk;exact t3.block _ bS fun e=>by have:=wK.be _ e;omega
   ·have hq':∀k,Q3 n1 c1 q' k->Q3 n1 c1 q k∨Iq.heap.size<=k:=fun k hk=>by
     rcases hk with hk | hk | hk
     ·exact .inl (.inl hk)
     ·exact .inl (.inr (.inl hk))
     ·exact(t4 k hk).imp (fun h=>.inr (.inr h)) id
    have z40:=T4.size;have kp:∀k,k<Iq.heap.size->k≠b->¬ez q k->YQ.heap[k]? =Iq.heap[k]? :=fun k h1 h2 h3=>by
     rw[T4.block k (by omega) (by simpa using h2),t3.block k h1 h3]
    have hr:xr p.sp ce.length 0 (bb.mv.take (j+1))=xr p.sp ce.length 0 (bb.mv.take j)++[Fv p.sp ce.length j m]:=by
     have e:bb.mv.take (j+1)=bb.mv.take j++[m]:=by rw[bJ,d2];rfl
     have hl:(bb.mv.take j).length=j:=by rw[cT];omega
     rw[e,AP,hl,bO]
    rw[hr,cJ,<-bH];refine wK.fin (by omega) (fun k h1 h2 h3=>kp k h1 h2 fun e=>h3 (.inr (.inr e))) (wK.n.keep cP fun k hk bS=>?_) (wK.c.keep jl fun k hk bS=>?_) (sX rf t2 T4) hq' (fun k e=>⟨(wK.ap k e).1,fun e'=>?_⟩) (fun k e e'=>?_) apZ
    ·have hk:=hk.resolve_left id;exact kp k bS (by omega) fun e=>(wK.ap k hk.2).2 e
    ·have hk:=hk.resolve_left id;exact kp k bS (by omega) fun e=>wK.ap2 k hk.2 e
    ·rcases t4 k e' with e' | e'
     ·exact(wK.ap k e).2 e'
     ·have:=wK.bn k e;omega
    ·rcases t4 k e' with e' | e'
     ·exact wK.ap2 k e e'
     ·have:=wK.bc k e;omega
   ·refine m37.trans ⟨(p2.mL (t3.mono (G:=fun k=>k=b∨Q3 n1 c1 q k) fun k _ e=>.inr (.inr (.inr e)))).trans (T4.p (F:=fun k=>k=b) (by simp)) fun k hk=>.inl (.inl hk),fun k hk=>?_⟩;rcases hk with hk | hk | hk
    ·exact .inl (.inl hk)
    ·exact .inl (.inr (.inl hk))
    ·exact(t4 k hk).imp (fun h=>.inr (.inr h)) fun h=>by omega
   ·rcases hk with hk | hk | hk
    ·exact T2 k (.inl hk)
    ·exact T2 k (.inr (.inl hk))
    ·rcases t4 k hk with h | h
     ·exact T2 k (.inr (.inr h))
     ·exact .inr (by omega)
  ·have lw:=aR lw;have qt:j=bb.mv.length:=by omega
   subst qt;rw[bq (aX _)]at Xn;clear OZ;refine⟨fun kv i u=>∃(j:Nat) (n2 c2 q2:Sl),i=(j:Int)/\kv+j=ks.length/\j<=ks.length/\Ma u b F n2 sv su c2 q2 s si sd sr (nm++(bb.nm::(vm (ks.take j)).map fun c=>c.nm)) (ce++(y::ob p (ce.length+1) (ed.length+bb.mv.length) (ks.take j))) (ed++((xr p.sp ce.length 0 bb.mv).map (CT p.sp)++(jP p.sp (ce.length+1) (ks.take j)).map (CT p.sp))) p/\rI b (Q3 qn sc se) w0 (Q3 n2 c2 q2) u/\(∀k,Q3 n2 c2 q2 k->Q3 qn sc se k∨dN.heap.size<=k)/\dN.heap.size<=u.heap.size,ks.length,⟨0,n1,c1,q,rfl,by omega,bh _,by rw[cM,vm,ob,jP,eV,eV,bQ];exact Xn,m25,T2,z25⟩,?_⟩;rintro kv _ YR ⟨j,n2,c2,q2,rfl,OZ,hj,Xo,m43,aiP,z43⟩;refine⟨fun Bz=>?_,fun Bz=>?_⟩
   ·have Bz:=aO Bz;obtain⟨Iv,x,ds,d1,d2,d3,d4,d5,d6⟩:=(iM m43).get (bA j) (by omega);rw[aY]at d2;have d6':=d6;obtain⟨D',rfl⟩:∃D',D=D'+1:=by
     cases D with
     | zero=>exact d6.elim
     | succ D'=>exact⟨D',rfl⟩
    obtain⟨vu,xH,rQ,kK,rfl,_⟩:=d6';have lC:=nM d2;have hzt:=xt d2;have hyz:mO x<=iw ks:=nX (bF d2);refine⟨Iv,d1,_,_,_,_,vu,xH,rQ,kK,_,d5,fun Kg w44 W6 as3 Xp=>?_⟩;have z44:=Xp.size;have ap3:=Xo.o0 Xp;have Xq:(ce++(y::ob p (ce.length+1) (ed.length+bb.mv.length) (ks.take j))).length=ce.length+1+dJ (ks.take j):=by
     rw[aP,bf,A1];omega
    have ap4:(nm++(bb.nm::(vm (ks.take j)).map fun c=>c.nm)).length=ce.length+1+dJ (ks.take j):=by
     rw[aP,bf,bm,tQ];omega
    have ac6:(ed++((xr p.sp ce.length 0 bb.mv).map (CT p.sp)++(jP p.sp (ce.length+1) (ks.take j)).map (CT p.sp))).length=ed.length+bb.mv.length+re (ks.take j):=by
     rw[aP,aP,bm,bm,mq,A0];omega
    have hms:=ED (ks.take j);refine(Ys tZ yH Bg zf (D'+1) (pa:=(ce.length:Int)) (dp:=dp+1) ((cG false (D'+1)).keep d6 fun k _ bS=>Xp.block k bS (by simp)) hG ap3 (by omega) (by rw[Xq];exact aiD.kid d2) (fun i r hr=>?_) (fun i c h=>?_) (by rw[Xq,ap4]) (by rw[ac6];omega)).mono ?_
    ·rw[Xq]at hr;have:=HI d2 hr;have e:=hro (bb.mv.length+(re (ks.take j)+i)) r (by
      rw[wM,bT (by rw[mq];omega),mq,dF];exact this)
     rw[ac6,<-e];congr 1;omega
    ·by_cases hi:i<ce.length+1
     ·rw[show ce++(y::ob p (ce.length+1) (ed.length+bb.mv.length) (ks.take j))=(ce++[y])++ob p (ce.length+1) (ed.length+bb.mv.length) (ks.take j) by rw[bH];rfl,bK (by rw[mT];exact hi)]at h;exact aiJ i c h
     ·rw[show ce++(y::ob p (ce.length+1) (ed.length+bb.mv.length) (ks.take j))=(ce++[y])++ob p (ce.length+1) (ed.length+bb.mv.length) (ks.take j) by rw[bH];rfl,bT (by rw[mT];omega),mT]at h;obtain⟨b',f,_,h2,_⟩:=Eu p _ _ _ _ c h;rw[h2,show ce.length+1+(i-(ce.length+1))=i by omega];exact⟨rfl,rfl⟩
    rintro _ YS ⟨rfl,n3,c3,q3,ac7,m45⟩;have z45:=m45.1.size;refine⟨rfl,m45.1.same fun x hx=>?_,kv-1,by omega,j+1,n3,c3,q3,by rw[fR (by omega) (by omega)];rfl,by omega,by omega,?_,(m43.cf Xp).trans m45,fun k hk=>?_,by omega⟩
    ·simp only[aU,ba,bW]at hx;have hn:=noq aiP x;refine⟨by omega,fun h=>?_⟩;rcases h with h | h
     ·omega
     ·have:=Xo.q3 x h;exact hn (by omega) (by omega) h
    ·have e:ks.take (j+1)=ks.take j++[x]:=by rw[bJ,d2];rfl
     rw[Xq,ac6]at ac7;rw[e,Ek,vm,vm,bQ,AO,jP,jP,bQ,HC,ob,ob,bQ,cJ,cJ,<-bH ((xr p.sp ce.length 0 bb.mv).map _),<-bH ed];rw[bH nm,bZ,bH ce,bZ]at ac7;exact ac7
    ·rcases m45.2 k hk with h | h
     ·exact aiP k h
     ·exact .inr (by omega)
   ·have Bz:=aR Bz;have qt:j=ks.length:=by omega
    subst qt;rw[bq (aX _)]at Xo;refine⟨rfl,n2,c2,q2,?_,rI.of0 cD m43⟩;rw[AN,wM,Pn,bD,cJ,<-hy];exact Xo
end
end
def Wx:Rp Int:=fun _ _ x cs=>cs=[O U x]
theorem sY:Wx.Ok where
 keep h _:=h
 inHeap h:=h
 mono h _:=h
 one:=by
  rintro w F x cs h v hv;unfold Wx at h;subst h;simp only[aN]at hv;subst hv;rfl
theorem aa0(u:av)(x:Int):∃y w1,(au 32 1 #[.mk 0 (O U x)]).run aq u=.ok (Sl.v y) w1/\ay [] u w1/\aA Wx 1 w1 (fun k=>u.heap.size<=k/\k<w1.heap.size) y [x]:=
 Wv (e:=3) (i:=Tryz.t3) (z:=O U 0) (by kernel_rfl) (by kernel_rfl) rfl rfl (by decide) (by decide) sY rfl rfl
theorem amQ{A:Nat}{u:av}{s y:Sl}{xs:List Int}{x:Int}(h:Own Wx 1 3 A u (fun _=>False) s xs)(hA:A<=u.heap.size){G:aJ}(hy:aA Wx 1 u G y [x])(hG:∀k,G k->¬ez s k)(hm:xs.length<=100000000):
  ∃s' w2,(Builtin.append_ #[32,32] 32 #[Sl.v s,Sl.v y]).run aq u=.ok (Sl.v s') w2/\Own Wx 1 3 A w2 (fun _=>False) s' (xs++[x])/\aD (ez s) u w2/\∀k,ez s' k->ez s k∨u.heap.size<=k:=
 SD (i:=Tryz.t3) (bytes:=8) (by kernel_rfl) (by kernel_rfl) rfl rfl rfl rfl (by decide) sY (fun _ _ _ _ _ h=>h) h hA hy hG (by omega)
theorem amR{A:Nat}{u:av}{s y:Sl}{xs:List (aH)}{x:aH}(h:Own ju 1 9 A u (fun _=>False) s xs)(hA:A<=u.heap.size){G:aJ}(hy:aA ju 1 u G y [x])(hG:∀k,G k->¬ez s k)(hm:xs.length<=100000000):
  ∃s' w2,(Builtin.append_ #[31,31] 31 #[Sl.v s,Sl.v y]).run aq u=.ok (Sl.v s') w2/\Own ju 1 9 A w2 (fun _=>False) s' (xs++[x])/\aD (ez s) u w2/\∀k,ez s' k->ez s k∨u.heap.size<=k:=
 SD (i:=Tryz.t9) (bytes:=16) (by kernel_rfl) (by kernel_rfl) rfl rfl rfl rfl (by decide) cP HG h hA hy hG (by omega)
structure Vs (A:Nat) (u:av) (sv su:Sl) (n:Nat):Prop where
 v:∃xs,Own ju 1 9 A u (fun _=>False) sv xs/\xs.length=n
 u:∃xs,Own Wx 1 3 A u (fun _=>False) su xs/\xs.length=n
 ap:∀k,ez sv k->¬ez su k
section
variable {A n:Nat} {w:av} {sv su:Sl}
theorem Vs.bv(h:Vs A w sv su n):∀k,ez sv k->A<=k/\k<w.heap.size:=fun k e=>by obtain⟨xs,h,_⟩:=h.v;exact h.blk e
theorem Vs.bu(h:Vs A w sv su n):∀k,ez su k->A<=k/\k<w.heap.size:=fun k e=>by obtain⟨xs,h,_⟩:=h.u;exact h.blk e
theorem Vs.only{w':av}{bs:List Nat}(h:Vs A w sv su n)(hO:ay bs w w')(hb:∀k,k∈bs->k<A):Vs A w' sv su n:=by
 obtain⟨⟨x1,a1,a2⟩,⟨x2,b1,b2⟩,c⟩:=h;exact⟨⟨x1,a1.keep cP fun k hk bS=>hO.block k bS fun e=>(by have:=hb k e;have:=(hk.resolve_left id).1;omega),a2⟩,⟨x2,b1.keep sY fun k hk bS=>hO.block k bS fun e=>(by have:=hb k e;have:=(hk.resolve_left id).1;omega),b2⟩,c⟩
theorem Vs.seq(h:Vs A w sv su n)(hA:A<=w.heap.size)(hn:n<=100000000){u1:av}(o1:ay [] w u1){y1:Sl}{x:aH}{G1:aJ}(hy1:aA ju 1 u1 G1 y1 [x])(g1:∀k,G1 k->w.heap.size<=k):
  ∃sv' u2,(Builtin.append_ #[31,31] 31 #[Sl.v sv,Sl.v y1]).run aq u1=.ok (Sl.v sv') u2/\aD (ez sv) u1 u2/\∀{u3:av},ay [] u2 u3->∀{y2:Sl} {y:Int} {G2:aJ},aA Wx 1 u3 G2 y2 [y]->(∀k,G2 k->w.heap.size<=k)->
   ∃su' u4,(Builtin.append_ #[32,32] 32 #[Sl.v su,Sl.v y2]).run aq u3=.ok (Sl.v su') u4/\aD (ez su) u3 u4/\Vs A u4 sv' su' (n+1)/\aD (fun k=>ez sv k∨ez su k) w u4:=by
 have z1:=o1.size;have bv:=h.bv;have bu:=h.bu;have h1:=h.only o1 (by simp);obtain⟨⟨x1,a1,a2⟩,⟨x2,b1,b2⟩,c⟩:=h1;obtain⟨sv',u2,r1,r2,r3,r4⟩:=amR a1 (by omega) hy1 (fun k hk e=>by have:=bv k e;have:=g1 k hk;omega) (by omega);have z2:=r3.size;refine⟨sv',u2,r1,r3,fun{u3} o2 {y2 y G2} hy2 g2=>?_⟩;have z3:=o2.size;have lw:Own Wx 1 3 A u2 (fun _=>False) su x2:=b1.keep sY fun k hk bS=>r3.block k bS fun e=>c k e (hk.resolve_left id).2;obtain⟨su',u4,t1,t2,t3,t4⟩:=amQ (lw.keep sY fun k hk bS=>o2.block k bS (by simp)) (by omega) hy2 (fun k hk e=>by have:=bu k e;have:=g2 k hk;omega) (by omega);refine⟨su',u4,t1,t3,⟨⟨_,(r2.keep cP fun k hk bS=>o2.block k bS (by simp)).keep cP fun k hk bS=>t3.block k bS fun e=>?_,by rw[aP,a2];rfl⟩,⟨_,t2,by rw[aP,b2];rfl⟩,fun k e e'=>?_⟩,?_⟩
 ·rcases r4 k (hk.resolve_left id).2 with e' | e'
  ·exact c k e' e
  ·have:=bu k e;omega
 ·have hs:=(r2.blk e).2;dsimp only at hs;rcases r4 k e with e1 | e1
  ·rcases t4 k e' with e2 | e2
   ·exact c k e1 e2
   ·have:=bv k e1;omega
  ·rcases t4 k e' with e2 | e2
   ·have:=bu k e2;omega
   ·omega
 ·exact((o1.mL (r3.mono (G:=fun k=>ez sv k∨ez su k) fun k _ e=>.inl e)).cf o2).trans (t3.mono (G:=fun k=>ez sv k∨ez su k) fun k _ e=>.inr e) fun k e=>.inl e
end
structure TbR (w:av) (F:aJ) (sn sc se:Sl) (c:Ch):Prop where
 tn:aA ju 1 w F sn ((AN c.root).map fun b=>b.nm)
 tc:aA JF 11 w F sc (Pn (gp c) 0 0 c.root)
 te:aA SE 16 w F se ((wM (cF c) 0 c.root).map (CT (cF c)))
theorem TbR.o0{w w':av}{F:aJ}{sn sc se:Sl}{c:Ch}(h:TbR w F sn sc se c)(hO:ay [] w w'):TbR w' F sn sc se c:=
 ⟨SliceF.only cP (by decide) h.tn hO (by simp),SliceF.only jl (by decide) h.tc hO (by simp),SliceF.only rf (by decide) h.te hO (by simp)⟩
theorem PlR.inHeap{w:av}{F:aJ}{s si sd sr:Sl}{p:Pl}(h:PlR w F s si sd sr p):PlR w (fun k=>F k/\k<w.heap.size) s si sd sr p:=
 ⟨h.sp.inHeap dk (by decide),h.ini.inHeap bN (by decide),h.dft.inHeap bN (by decide),h.ro.inHeap gC (by decide)⟩
theorem A3{w:av}{F:aJ}{D:Nat}{c:Ch}{vs:Sl}{cs:aI}(hx:ChR false (D+1) w F c vs cs)(hn:UL c)(hs:qX c.vars+mO c.root<=8388608)(hE:Er w)(hT:Tb w):
  az aq 13 #[ah (vs.v::cs).toArray] w fun e w'=>(∃qn sv su sc se:Sl,e=ak (ai #[ah #[qn.v,sv.v,su.v,sc.v,se.v],ah #[O U (fU c).1,O U (fU c).2]])/\((fU c).1=0->TbR w' (fun k=>w.heap.size<=k) qn sc se c))/\ay [] w w':=by
 obtain⟨en,lv,mv,kids,nP,_⟩:=hx.root;subst nP;refine(afO vs c.root.b.k (T c.root.b.nm) (T c.root.b.ini) (T c.root.b.dft) en lv mv kids c.root.b.a (fun v w'=>(∃qn sv su sc se:Sl,v=ai #[ah #[qn.v,sv.v,su.v,sc.v,se.v],ah #[O U (fU c).1,O U (fU c).2]]/\((fU c).1=0->TbR w' (fun k=>w.heap.size<=k) qn sc se c))/\ay [] w w') w ?_).mono (by rintro _ w' ⟨v,rfl,⟨s,si,sd,sr,se,rfl,h⟩,h'⟩;exact⟨⟨s,si,sd,sr,se,rfl,h⟩,h'⟩);intro k0 k1 k2 w0 gu fe j5 iX rm rn cD;have z0:=cD.size;have keep:∀{u:av},ay [] w u->ChR false (D+1) u F c vs (nE c.root.b.k c.root.b.nm c.root.b.ini c.root.b.dft en lv mv kids c.root.b.a):=fun hO=>⟨hx.vars.keep fA (by decide) fun k _ bS=>hO.block k bS (by simp),(cG false _).keep hx.root fun k _ bS=>hO.block k bS (by simp)⟩
 refine(AQ (keep cD) hn hs (hE.only cD) (hT.only cD)).mono ?_;rintro _ w1 ⟨⟨s,si,sd,sr,rfl,hP⟩,cr⟩;have z1:=cr.size;have o1:=cD.cf cr;refine⟨s,si,sd,sr,_,_,rfl,cr.same (by simp;omega),fun hc k3 k4 w2 wG rL Bl E9 cR n1 n2 n3 n4 n5 n6 n7 n8 n9 n10=>?_,fun hc k5 k6 k7 w4 C7 H2 hk6 Xf hk7 Xd dL=>?_⟩
 ·have hc:(fU c).1≠0:=by simpa using hc
  refine⟨fun k=>k=k4,rfl,fun h=>n7 h,fun h=>n9 h,fun w3 de=>⟨⟨Sl.nil,Sl.nil,Sl.nil,Sl.nil,Sl.nil,rfl,fun h=>absurd h hc⟩,(o1.cf cR).trans de fun x hx=>.inr (by simp only[aU,ba,bW]at hx;omega)⟩⟩
 have hc:(fU c).1=0:=by simpa using hc
 have hnd:=tL (qZ hc).1;have z4:=dL.size;have o4:=o1.cf dL;have hvl:=hx.vars.1.len;have hvz:=wo c.vars;refine⟨fun kv i l1 l2 l3 l4 l5 l6 l7 l8 l9 u=>∃j:Nat,i=(j:Int)/\kv+j=c.vars.length/\j<=c.vars.length/\l1=Sl.nil/\l4=Sl.nil/\l5=Sl.nil/\l6=s/\l7=si/\l8=sd/\l9=sr/\Vs w4.heap.size u l2 l3 j/\ay [] w1 u/\w4.heap.size<=u.heap.size,c.vars.length,⟨0,rfl,by omega,bh _,rfl,rfl,rfl,rfl,rfl,rfl,rfl,⟨⟨[],Own.nil _ _ _ _ _ _,rfl⟩,⟨[],Own.nil _ _ _ _ _ _,rfl⟩,fun k h=>(by cases h)⟩,dL,aX _⟩,?_⟩;rintro kv _ _ sv su _ _ l6 l7 l8 l9 w5 ⟨j,rfl,tY,hj,rfl,rfl,rfl,f1,f2,f3,f4,hV,o5,z5⟩;obtain rfl:s=l6:=f1.symm;obtain rfl:si=l7:=f2.symm;obtain rfl:sd=l8:=f3.symm;obtain rfl:sr=l9:=f4.symm;refine⟨fun lw=>?_,fun lw u7 n1 n2 n3 n4 n5=>?_⟩
 ·have lw:=aO lw;obtain⟨ad,x,ds,a1,a2,a3,a4,a5,a6⟩:=((keep (o1.cf o5)).vars.1).get (bA j) (by omega);have a6:ds=[ab (T x.n),O U x.v,O U x.a]:=a6;subst a6;refine⟨ad,a1,_,_,_,a5,fun jd w6 ail TZ eB=>⟨fun l1 l2 l3 l4 l5 l6 l7 l8 l9 u=>l1=Sl.nil/\l4=Sl.nil/\l5=Sl.nil/\l6=s/\l7=si/\l8=sd/\l9=sr/\Vs w4.heap.size u l2 l3 (j+1)/\ay [] w1 u/\w4.heap.size<=u.heap.size,?_,fun w8 fy=>?_⟩⟩
  ·rintro l1 l2 l3 l4 l5 l6 l7 l8 l9 w7 h;exact⟨kv-1,by omega,j+1,by rw[fR (by omega) (by omega)];rfl,by omega,by omega,h⟩
  have z6:=eB.size;have z8:=fy.size;have o8:=(o5.cf eB).cf fy;have hV8:=(hV.only eB (by simp)).only fy (by simp);have bv:=hV.bv;have bu:=hV.bu;have st:∀{u v:av} {P:aJ},aD P u v->(∀k,P k->ez sv k∨ez su k)->w8.heap.size<=u.heap.size->bU [k0,k1,k2,k5,k6,k7,jd] u v/\bP (fun k=>k<w8.heap.size/\¬ez sv k/\¬ez su k) u v:=fun hO hP hz=>by
   refine⟨hO.same fun x hx=>?_,fun k hk bS=>hO.block k bS fun e=>(hP k e).elim hk.2.1 hk.2.2⟩;simp only[aU,ba,bW]at hx;refine⟨by omega,fun e=>?_⟩;rcases hP x e with h | h
   ·have:=bv x h;omega
   ·have:=bu x h;omega
  have j7:k7<w8.heap.size/\¬ez sv k7/\¬ez su k7:=⟨by omega,fun e=>by have:=bv k7 e;omega,fun e=>by have:=bu k7 e;omega⟩
  have j10:jd<w8.heap.size/\¬ez sv jd/\¬ez su jd:=⟨by omega,fun e=>by have:=bv jd e;omega,fun e=>by have:=bu jd e;omega⟩
  have fin:∀{u v:av} {sv' su':Sl},Vs w4.heap.size u sv' su' (j+1)->aD (fun k=>ez sv k∨ez su k) w8 u->ay [k7] u v->Vs w4.heap.size v sv' su' (j+1)/\ay [] w1 v/\w4.heap.size<=v.heap.size:=fun hV' Db fE=>by
   refine⟨hV'.only fE fun k hk=>by simp only[aN]at hk;omega,?_,by have:=Db.size;have:=fE.size;omega⟩;exact((o8.mL (Db.mono (G:=fun k=>w1.heap.size<=k) fun k _ e=>e.elim (fun e=>by have:=bv k e;omega) fun e=>by have:=bu k e;omega)).only fun k hk=>hk).trans fE fun x hx=>.inr (by simp only[aN]at hx;omega)
  refine⟨fun k=>k<w8.heap.size/\¬ez sv k/\¬ez su k,j7,j10,j7,j10,?_,?_⟩
  ·obtain⟨y1,w9,p1,p2,p3⟩:=Ww w8 x.n;have z9:=p2.size;have s9:=st (P:=fun _=>False) p2.p0 (fun _ h=>h.elim) (aX _);refine⟨y1,w9,p1,s9.1,s9.2,?_,?_⟩
   ·obtain⟨v1,du,r1,r3,r4⟩:=hV8.seq (by omega) (by omega) p2 p3 (fun k hk=>hk.1);have PB:=r3.size;have Il:=st r3 (fun _ h=>.inl h) z9;obtain⟨y2,dC,q1,q2,q3⟩:=aa0 du x.v;have C6:=q2.size;have HV:=st (P:=fun _=>False) q2.p0 (fun _ h=>h.elim) (by omega);obtain⟨u1,dN,t1,t3,t4,t5⟩:=r4 q2 q3 (fun k hk=>by omega);have PA:=st t3 (fun _ h=>.inr h) (by omega);exact⟨v1,du,r1,Il.1,Il.2,y2,dC,q1,HV.1,HV.2,u1,dN,t1,PA.1,PA.2,fun fb eH=>⟨rfl,rfl,rfl,rfl,rfl,rfl,rfl,fin t4 t5 eH⟩⟩
   ·obtain⟨y2,fk,q1,q2,q3⟩:=aa0 w9 x.v;have W0:=q2.size;have WU:=st (P:=fun _=>False) q2.p0 (fun _ h=>h.elim) (by omega);obtain⟨v1,fZ,r1,r3,r4⟩:=hV8.seq (by omega) (by omega) (p2.cf q2) (SliceF.only cP (by decide) p3 q2 (by simp)) (fun k hk=>hk.1);have z15:=r3.size;have Tf:=st r3 (fun _ h=>.inl h) (by omega);obtain⟨u1,gI,t1,t3,t4,t5⟩:=r4 (Only.refl _ _) (SliceF.jV sY (by decide) q3 r3 fun k hk _ e=>by have:=hV8.bv k e;omega) (fun k hk=>by omega);have Tg:=st t3 (fun _ h=>.inr h) (by omega);exact⟨y2,fk,q1,WU.1,WU.2,v1,fZ,r1,Tf.1,Tf.2,u1,gI,t1,Tg.1,Tg.2,fun gf io=>⟨rfl,rfl,rfl,rfl,rfl,rfl,rfl,fin t4 t5 io⟩⟩
  ·obtain⟨y2,iy,q1,q2,q3⟩:=aa0 w8 x.v;have z18:=q2.size;have s18:=st (P:=fun _=>False) q2.p0 (fun _ h=>h.elim) (aX _);obtain⟨y1,jA,p1,p2,p3⟩:=Ww iy x.n;have z19:=p2.size;have s19:=st (P:=fun _=>False) p2.p0 (fun _ h=>h.elim) (by omega);obtain⟨v1,iW,r1,r3,r4⟩:=hV8.seq (by omega) (by omega) (q2.cf p2) p3 (fun k hk=>by omega);have z20:=r3.size;have s20:=st r3 (fun _ h=>.inl h) (by omega);obtain⟨u1,lu,t1,t3,t4,t5⟩:=r4 (Only.refl _ _) (SliceF.jV sY (by decide) (SliceF.only sY (by decide) q3 p2 (by simp)) r3 fun k hk _ e=>by have:=hV8.bv k e;omega) (fun k hk=>by omega);have YN:=st t3 (fun _ h=>.inr h) (by omega);exact⟨y2,iy,q1,s18.1,s18.2,y1,jA,p1,s19.1,s19.2,v1,iW,r1,s20.1,s20.2,u1,lu,t1,YN.1,YN.2,fun oT Bj=>⟨rfl,rfl,rfl,rfl,rfl,rfl,rfl,fin t4 t5 Bj⟩⟩
 ·have o5':=o1.cf o5;have hr5:ol false (D+1) w5 (fun k=>k<w.heap.size) c.root (nE c.root.b.k c.root.b.nm c.root.b.ini c.root.b.dft en lv mv kids c.root.b.a):=
   (cG false _).keep ((cG false _).mono ((cG false _).inHeap hx.root) fun k hk=>hk.2) fun k _ bS=>o5'.block k bS (by simp)
  have noQ:∀k,¬Q3 Sl.nil Sl.nil Sl.nil k:=fun k hk=>by rcases hk with hk | hk | hk<;>cases hk
  have Iu:PlR w5 (fun k=>w0.heap.size<=k/\k<w1.heap.size) s si sd sr (gp c):=(hP hc).inHeap.keep fun k _ bS=>o5.block k bS (by simp);have hMa:Ma w5 k7 (fun k=>w0.heap.size<=k/\k<w1.heap.size) Sl.nil sv su Sl.nil Sl.nil s si sd sr [] [] [] (gp c):=⟨u7,Iu,fun k hk=>⟨by omega,by omega,noQ k⟩,Own.nil _ _ _ _ _ _,Own.nil _ _ _ _ _ _,Own.nil _ _ _ _ _ _,fun k h=>(by cases h),fun k h=>(by cases h)⟩
  have fi:(cF c).length=iQ c.root:=by unfold cF;rw[lh]
  refine(Ys (yT c) (by show(cF c).length<=64;omega) (by show((AN c.root).map _).length=_;rw[bm,tP];exact fi.symm) (by show((AN c.root).map _).length=_;rw[bm,tP];exact fi.symm) (D+1) (pa:= -1) (dp:=0) hr5 (fun k hk=>by omega) hMa (by omega) (fun i x hi=>by rw[cz,bO];exact hi) (fun j r hr=>by rw[cz,bO];exact hr) (fun i c h=>by cases h) rfl (by rw[cz];omega)).mono ?_;rintro _ om ⟨rfl,qn,sc,se,O2,m23⟩;have z23:=m23.1.size;refine⟨rfl,m23.1.same fun x hx=>?_,qn,sv,su,sc,se,s,si,sd,sr,O2.blk,fun oU wH _ m1 m2 m3 m4 m5 m6 m7 m8 m9 m10 m11 m12 m13 m14 m15=>⟨fun k=>k=k6,rfl,fun h=>m8 h,fun h=>m11 h,fun mM tu _=>⟨⟨qn,sv,su,sc,se,rfl,fun _=>?_⟩,?_⟩⟩⟩
  ·simp only[aU,ba,bW]at hx;exact⟨by omega,fun h=>h.elim (by omega) (noQ x)⟩
  ·have kp:∀k,k7+1<=k->k<om.heap.size->mM.heap[k]? =om.heap[k]? :=fun k h1 h2=>by
    rw[tu.block k (by have:=wH.size;omega) (by simp;omega),wH.block k h2 (by simp)]
   simp only[ck]at O2;have e0:([]:List Ce).length=0:=rfl;have e1:([]:List Nat).length=0:=rfl;rw[e0,e1]at O2;exact⟨((O2.n.slice cP).keep cP (by decide) fun k hk bS=>kp k (hk.resolve_left id).1 bS).mono cP fun k hk=>by have:=(hk.resolve_left id).1;omega,((O2.c.slice jl).keep jl (by decide) fun k hk bS=>kp k (hk.resolve_left id).1 bS).mono jl fun k hk=>by have:=(hk.resolve_left id).1;omega,((O2.e.slice rf).keep rf (by decide) fun k hk bS=>kp k (hk.resolve_left id).1 bS).mono rf fun k hk=>by have:=(hk.resolve_left id).1;omega⟩
  ·exact(((o5'.mL (m23.1.mono (G:=fun k=>w.heap.size<=k) fun k _ hk=>hk.elim (by omega) fun h=>absurd h (noQ k))).only fun k hk=>hk).cf wH).trans tu fun x hx=>.inr (by simp only[aU,ba,bW]at hx;omega)
def yG:aH:=[99,104,97,114,116,32,99,32,123,32,105,110,105,116,105,97,108,32,97,59,32,115,116,97,116,101,32,97,32,123,32,111,110,32,120,32,45,62,32,100,59,32,125,32,112,97,114,97,108,108,101,108,32,112,32,123,32,115,116,97,116,101,32,98,32,123,32,125,32,115,116,97,116,101,32,100,32,123,32,125,32,125,32,125]
def Yt:Bool:=decide ((lp yG).1=0)&&Wf yG&&(decide (((Pn (gp (dE yG).1) 0 0 (dE yG).1.root).map fun c=>(c.dn,c.up))=[(30,0),(0,1),(24,1),(0,5),(0,5)])&&decide (((wM (cF (dE yG).1) 0 (dE yG).1.root).map (CT (cF (dE yG).1)))=[30]))&&decide (iu [4,0,99]=17)
theorem Wy:Yt=true:=by kernel_rfl
theorem SJ{α β:Type}{f:α->β}{l:List α}{m:List β}(h:l.map f=m){i:Nat}{y:β}(hy:m[i]? =some y):∃x,l[i]? =some x/\f x=y:=by
 rw[<-h,ch]at hy;cases hx:l[i]? with
 | none=>rw[hx]at hy;cases hy
 | some x=>
  rw[hx]at hy;injection hy with hy;exact⟨x,rfl,hy⟩
theorem SK{w:av}{F:aJ}{s:Sl}{l:List Ce}(h:aA JF 11 w F s l){i:Nat}{x:Ce}(hx:l[i]? =some x):∃ad,cW s (i:Int) 11 ad/\∃en lv:Sl,aB w ad [O U x.k,O U x.pa,.int .u64 (x.up:Nat),.int .u64 (x.dn:Nat),.int .u64 (x.rg:Nat),O U x.ini,O U x.dft,en.v,lv.v,O U (x.f0:Nat),O U (x.f1:Nat)]:=by
 have bS:=(aV.1 hx).1;have hl:=h.len;obtain⟨ad,y,cs,g1,g2,g3,g4,g5,en,lv,rfl⟩:=h.get (bA i) (by omega);rw[aY,hx]at g2;injection g2 with g2;subst g2;exact⟨ad,g1,en,lv,g5⟩
theorem SL(w:av)(hE:Er w)(hT:Tb w):az aq 12 #[] w fun e w'=>e=ak (aj true)/\ay [] w w':=by
 refine ret (alX _ _ ?_);have oe:=Wy;unfold Yt at oe;simp only[aQ,bM]at oe;obtain⟨⟨⟨h1,h2⟩,h3,h4⟩,h5⟩:=oe;have h2:=RW h2;have hc:sS yG=(dE yG).1:=by unfold sS;rw[if_pos h1]
 have hl:(fU (dE yG).1).1=0:=by
  unfold lp at h1;split at h1
  ·exact h1
  ·rename_i h;exact absurd h1 h
 refine(MA yG h2.1 h2.2 hE hT).mono ?_;rintro _ w0 ⟨vs,cs,rfl,hC,cD⟩;rw[hc]at hC;obtain⟨xe,xl,xm,xk,rfl,_⟩:=hC.root;have z0:=cD.size;refine⟨vs,_,_,_,_,xe,xl,xm,xk,_,_,_,rfl,fun k0 k1 w1 gu fe j5 iX cr=>?_⟩;have z1:=cr.size;have o1:=cD.cf cr;have hC1:ChR true 15 w1 (Fr w.heap.size) (dE yG).1 vs _:=⟨hC.vars.keep fA (by decide) fun k _ bS=>cr.block k bS (by simp),(cG true 15).keep hC.root fun k _ bS=>cr.block k bS (by simp)⟩
 refine(A3 (D:=14) hC1.off h2.1 h2.2 (hE.only o1) (hT.only o1)).mono ?_;rintro _ w2 ⟨⟨qn,sv,su,sc,se,rfl,Ty⟩,cR⟩;have z2:=cR.size;have o2:=o1.cf cR;refine⟨qn,sv,su,sc,se,_,_,rfl,cR.same (by simp;omega),fun k2 k3 w3 rm rn wG rL de=>?_⟩;have z3:=de.size;have o3:=o2.cf de;have hT3:=(Ty hl).o0 de;obtain⟨x0,e0,f0⟩:=SJ h3 (i:=0) (y:=(30,0)) rfl;obtain⟨x4,e4,f4⟩:=SJ h3 (i:=4) (y:=(0,5)) rfl;simp only[fm]at f0 f4;obtain⟨ad0,a1,_,_,a2⟩:=SK hT3.tc e0;obtain⟨ad4,b1,_,_,b2⟩:=SK hT3.tc e4;have mT:sc.n=5:=by rw[hT3.tc.len,<-bm (f:=fun c:Ce=>(c.dn,c.up)),h3];rfl
 have hel:se.n=1:=by rw[hT3.te.len,h4];rfl
 have hte:=hT3.te;rw[h4]at hte;obtain⟨ad9,y9,c9,g1,g2,g3,g4,g5,g6⟩:=hte.get (i:=0) (by omega) (by omega);have g2:some (30:Nat)=some y9:=g2;injection g2 with g2;subst g2;refine⟨fun b u=>b=true/\ay [] w u,?_,ad0,fun _=>a1,_,fun _=>a2.dQ 3 _ rfl,ad4,fun _=>b1,_,fun _=>b2.dQ 2 _ rfl,ad9,fun _=>g1,_,fun _=>g5.dQ 7 _ g6.1,fun _=>?_,fun hf=>?_⟩
 ·rintro _ u ⟨rfl,h⟩;exact⟨rfl,h⟩
 ·obtain⟨y,w4,p1,p2,p3,_⟩:=gY (P:=aq) (t:=32) (e:=3) (i:=Tryz.t3) (z:=O U 0) (w:=w3) (F:=fun _=>False) (vs:=[O U 4,O U 0,O U 99]) (parts:=#[.mk 0 (O U 4),.mk 1 (O U 0),.mk 2 (O U 99)]) (len:=3) (xs:=[4,0,99]) (r:=fz) (size:=1) (by kernel_rfl) (by kernel_rfl) rfl rfl (by decide) rfl rfl (by decide) (by decide) bN ⟨⟨rfl,rfl,by decide,by decide⟩,⟨rfl,rfl,by decide,by decide⟩,⟨rfl,rfl,by decide,by decide⟩,trivial⟩;refine⟨y,w4,p1,p3.same (by simp;omega),(zd (p2.slice bN)).mono ?_⟩;rintro _ u ⟨rfl,hu⟩;obtain rfl:w4=u:=hu.symm;refine⟨_,rfl,bU.refl _ _,?_,o3.cf p3⟩;rw[h5];rfl
 ·rw[h1,hl,mT,f0.1,f4.2,hel]at hf;cases hf
theorem aa1(xs:List cN)(i:Nat):JB xs i<18446744073709551616:=nZ _
theorem aa2(xs:List cN)(i:Nat):Wi xs i<18446744073709551616:=nZ _
theorem EF(xs:List cN)(i:Nat):Sm xs i<18446744073709551616:=nZ _
end Go.Proofs.YtbkjcdocjfknfaaGreatDoor.Con
set_option linter.unusedSectionVars false
namespace Go.Proofs.YtbkjcdocjfknfaaGreatDoor.Con
open Go.Value renaming int->O,string->ab,pointer->ae,agg->ah,tuple->ai,bool->aj
open Go.IntKind renaming i64->U,wrap->ar
open Go.Ending renaming returned->ak
open _root_.ByteArray renaming mk->ao
open _root_.Go.Proofs.Tryz renaming prog->aq
open Go.Instr renaming buildSlice->au
open Go renaming World->av,Value->aw,Calls->az
open Go.Kt renaming Only->ay,SliceF->aA,Cells->aB,OnlyP->aD,Blk->aF
open Go Go.RowKit Go.Kt Go.Kt.V Go.Proofs.YtbkjcdocjfknfaaGreatDoor.Vc
set_option linter.unusedSimpArgs false
set_option linter.unusedVariables false
set_option linter.unusedSectionVars false
set_option maxHeartbeats 1600000
set_option maxRecDepth 100000
def pf(n x:Nat):Nat:=(List.range n).countP fun i=>x.testBit i
theorem A4(x:Nat):(kD x).length=pf 64 x:=by
 unfold kD Ph pf;rw[bm,Ua]
theorem JI(n x:Nat):pf (8+n) x=pf 8 (x % 256)+pf n (x/256):=by
 unfold pf;rw[List.range_add,List.countP_append,List.countP_map];congr 1
 ·refine List.countP_congr fun i hi=>?_;rw[fG]at hi;rw[show 256=2 ^ 8 from rfl,Nat.testBit_mod_two_pow,bL hi,cO]
 ·refine List.countP_congr fun i _=>?_;rw[Function.comp_apply,show 256=2 ^ 8 from rfl,Nat.testBit_div_two_pow,fK]
def pk:List Nat->Nat
 | []=>0
 | a::l=>a+256*pk l
def Bs(m:Nat):Nat->Nat
 | 0=>0
 | n+1=>m+256*Bs m n
def oc:Nat->Nat->List Nat
 | 0,_=>[]
 | n+1,x=>x % 256::oc n (x/256)
theorem A5:∀n x,(oc n x).length=n
 | 0,x=>rfl
 | n+1,x=>by rw[oc,bf,A5 n]
theorem CX:∀n x,∀a,a∈oc n x->a<256
 | 0,x,a,h=>by cases h
 | n+1,x,a,h=>by
  rw[oc]at h;rcases aU.1 h with rfl | h
  ·exact Nat.mod_lt _ (by decide)
  ·exact CX n _ a h
theorem HJ:∀n x,x<256 ^ n->pk (oc n x)=x
 | 0,x,h=>by
  rw[oc,pk];omega
 | n+1,x,h=>by
  rw[oc,pk,HJ n (x/256) (by rw[Nat.pow_succ]at h;omega)];omega
theorem A6:∀n x,pf (8*n) x=((oc n x).map (pf 8)).sum
 | 0,x=>rfl
 | n+1,x=>by
  rw[show 8*(n+1)=8+8*n by omega,JI,oc,bD,cp,A6 n]
theorem qh{a m u v:Nat}(ha:a<256)(hm:m<256):(a+256*u)&&& (m+256*v)=(a&&& m)+256*(u&&& v):=gN fun i=>by
 have bS:a&&& m<2 ^ 8:=um T9 ha;rw[fK a,fK m,fK (a&&& m),show 256=2 ^ 8 from rfl,kF,tw _ ha,tw _ hm,tw _ bS];split<;>rw[kF]
def wN(a:Nat):Nat:=(a/2&&& 85)+(a&&& 85)
def rJ(a:Nat):Nat:=(a/4&&& 51)+(a&&& 51)
def M2(a:Nat):Nat:=(a/16+a)&&& 15
def okB:Bool:=(List.range 256).all fun a=>decide (wN a<256)&&decide (rJ (wN a)<=68)&&decide (rJ (wN a) % 16<=4)&&decide (M2 (rJ (wN a))=pf 8 a)&&decide ((a/2+128)&&& 85=a/2&&& 85)&&((List.range 4).all fun b=>decide ((a/4+64*b)&&& 51=a/4&&& 51))&&decide (pf 8 a<=8)
theorem agp:okB=true:=by kernel_rfl
theorem xx{a:Nat}(h:a<256):wN a<256/\rJ (wN a)<=68/\rJ (wN a) % 16<=4/\M2 (rJ (wN a))=pf 8 a/\(a/2+128)&&& 85=a/2&&& 85/\(∀b,b<4->(a/4+64*b)&&& 51=a/4&&& 51)/\pf 8 a<=8:=by
 have:=agp;unfold okB at this;rw[dY]at this;have:=this a (fG.2 h);simp only[aQ,bM,dY,fG]at this;obtain⟨⟨⟨⟨⟨⟨h1,h2⟩,h3⟩,h4⟩,h5⟩,h6⟩,h7⟩:=this;exact⟨h1,h2,h3,h4,h5,h6,h7⟩
theorem agq:∀(l:List Nat),(∀a,a∈l->a<256)->(pk l/2&&& Bs 85 l.length)+(pk l&&& Bs 85 l.length)=pk (l.map wN)
 | [],_=>rfl
 | a::l,h=>by
  have ha:=h a (.head _);have ih:=agq l fun b hb=>h b (.tail _ hb);rw[bD,pk,pk,bf,Bs,<-ih];have e:(a+256*pk l)/2=(a/2+128*(pk l % 2))+256*(pk l/2):=by omega
  rw[e,qh (by omega) (by decide),qh ha (by decide)];have e2:(a/2+128*(pk l % 2))&&& 85=a/2&&& 85:=by
   rcases Nat.mod_two_eq_zero_or_one (pk l)with h | h
   ·rw[h,Nat.mul_zero,dG]
   ·rw[h,gj];exact(xx ha).2.2.2.2.1
  rw[e2];unfold wN;omega
theorem agr:∀(l:List Nat),(∀a,a∈l->a<256)->(pk l/4&&& Bs 51 l.length)+(pk l&&& Bs 51 l.length)=pk (l.map rJ)
 | [],_=>rfl
 | a::l,h=>by
  have ha:=h a (.head _);have ih:=agr l fun b hb=>h b (.tail _ hb);rw[bD,pk,pk,bf,Bs,<-ih];have e:(a+256*pk l)/4=(a/4+64*(pk l % 4))+256*(pk l/4):=by omega
  rw[e,qh (by omega) (by decide),qh ha (by decide),(xx ha).2.2.2.2.2.1 _ (Nat.mod_lt _ (by decide))];unfold rJ;omega
theorem ags:∀(l:List Nat),(∀a,a∈l->a<=68/\a % 16<=4)->(pk l/16+pk l)&&& Bs 15 l.length=pk (l.map M2)
 | [],_=>rfl
 | a::l,h=>by
  have ha:=h a (.head _);have ih:=ags l fun b hb=>h b (.tail _ hb);have hm:pk l % 16<=4:=by
   cases l with
   | nil=>exact bh _
   | cons b l=>
    have:=(h b (.tail _ (.head _))).2;rw[pk];omega
  rw[bD,pk,pk,bf,Bs,<-ih];have e:(a+256*pk l)/16+(a+256*pk l)=(a/16+a+16*(pk l % 16))+256*(pk l/16+pk l):=by omega
  rw[e,qh (by omega) (by decide)];have e2:(a/16+a+16*(pk l % 16))&&& 15=M2 a:=by
   unfold M2;rw[show(15:Nat)=2 ^ 4-1 from rfl,O8,O8];omega
  rw[e2]
theorem amS(a b c d e f g i:Nat):[a,b,c,d,e,f,g,i].sum=a+b+c+d+e+f+g+i:=by
 simp only[cp,gF];omega
theorem pk8(a b c d e f g i:Nat):pk [a,b,c,d,e,f,g,i]=a+b*256+c*65536+d*16777216+e*4294967296+f*1099511627776+g*281474976710656+i*72057594037927936:=by
 simp only[pk];omega
theorem Wz{a b c d e f g i:Nat}(q1:a<=8)(q2:b<=8)(q3:c<=8)(q4:d<=8)(q5:e<=8)(q6:f<=8)(q7:g<=8)(q8:i<=8){Y X4 X5:Nat}(hY:Y=a+b*256+c*65536+d*16777216+e*4294967296+f*1099511627776+g*281474976710656+i*72057594037927936)(h4:X4=Y+Y/256)(h5:X5=X4+X4/65536):(X5+X5/4294967296) % 128=a+b+c+d+e+f+g+i:=by
 have e1:Y/256=b+c*256+d*65536+e*16777216+f*4294967296+g*1099511627776+i*281474976710656:=by omega
 have g4:X4=(a+b)+(b+c)*256+(c+d)*65536+(d+e)*16777216+(e+f)*4294967296+(f+g)*1099511627776+(g+i)*281474976710656+i*72057594037927936:=by omega
 clear h4 e1 hY;have e3:X4/65536=(c+d)+(d+e)*256+(e+f)*65536+(f+g)*16777216+(g+i)*4294967296+i*1099511627776:=by omega
 have g5:X5=(a+b+c+d)+(b+c+d+e)*256+(c+d+e+f)*65536+(d+e+f+g)*16777216+(e+f+g+i)*4294967296+(f+g+i)*1099511627776+(g+i)*281474976710656+i*72057594037927936:=by omega
 clear h5 e3 g4;have e5:X5/4294967296=(e+f+g+i)+(f+g+i)*256+(g+i)*65536+i*16777216:=by omega
 omega
def JJ(x:Nat):Nat:=
 let x1:=(x/2&&& Bs 85 8)+(x&&& Bs 85 8)
 let x2:=(x1/4&&& Bs 51 8)+(x1&&& Bs 51 8)
 let x3:=(x2/16+x2)&&& Bs 15 8
 let x4:=x3+x3/256
 let x5:=x4+x4/65536
 x5+x5/4294967296
theorem WA{x:Nat}(h:x<2 ^ 64):JJ x % 128=pf 64 x:=by
 have e:=HJ 8 x h;have hl:=A5 8 x;have hb:=CX 8 x;have hc:=A6 8 x;rw[show 8*8=64 from rfl]at hc;generalize oc 8 x=l at*
 subst e;have h1:=agq l hb;rw[hl]at h1;have h2:=agr (l.map wN) fun a ha=>by
  obtain⟨b,j9,rfl⟩:=eE.1 ha;exact(xx (hb b j9)).1
 rw[bm,hl]at h2;have h3:=ags ((l.map wN).map rJ) fun a ha=>by
  obtain⟨b,j9,rfl⟩:=eE.1 ha;obtain⟨c,BQ,rfl⟩:=eE.1 j9;have:=xx (hb c BQ);exact⟨this.2.1,this.2.2.1⟩
 rw[bm,bm,hl]at h3;have h4:((l.map wN).map rJ).map M2=l.map (pf 8):=by
  rw[gD,gD];exact mw fun a ha=>(xx (hb a ha)).2.2.2.1
 have h5:∀c,c∈l.map (pf 8)->c<=8:=fun c hc=>by
  obtain⟨b,j9,rfl⟩:=eE.1 hc;exact(xx (hb b j9)).2.2.2.2.2.2
 unfold JJ;dsimp only;rw[h1,h2,h3,h4,hc];have h6:(l.map (pf 8)).length=8:=by rw[bm,hl]
 generalize l.map (pf 8)=m at*
 match m,h6,h5 with
 | [a,b,c,d,e,f,g,i],_,h5=>
  have q1:=h5 a (by simp);have q2:=h5 b (by simp);have q3:=h5 c (by simp);have q4:=h5 d (by simp);have q5:=h5 e (by simp);have q6:=h5 f (by simp);have q7:=h5 g (by simp);have q8:=h5 i (by simp);have es:[a,b,c,d,e,f,g,i].sum=a+b+c+d+e+f+g+i:=amS a b c d e f g i;rw[es];exact Wz q1 q2 q3 q4 q5 q6 q7 q8 (pk8 a b c d e f g i) rfl rfl
theorem fd2(x:Nat)(k:Nat):((x:Nat):Int).fdiv (k:Int)=((x/k:Nat):Int):=by
 rw[Int.fdiv_eq_ediv_of_nonneg _ (by omega),Int.natCast_ediv]
theorem JK(w:av){x:Nat}(hx:x<18446744073709551616):az aq 52 #[.int .u64 (x:Int)] w fun e w'=>e=ak (O U (pf 64 x:Nat))/\w'=w:=by
 refine ret (ama _ _ _ ?_);have m1:Bs 85 8=6148914691236517205:=rfl;have m2:Bs 51 8=3689348814741910323:=rfl;have m3:Bs 15 8=1085102592571150095:=rfl;obtain⟨x1,h1⟩:∃x1,x1=(x/2&&& Bs 85 8)+(x&&& Bs 85 8):=⟨_,rfl⟩
 obtain⟨x2,h2⟩:∃x2,x2=(x1/4&&& Bs 51 8)+(x1&&& Bs 51 8):=⟨_,rfl⟩
 obtain⟨x3,h3⟩:∃x3,x3=(x2/16+x2)&&& Bs 15 8:=⟨_,rfl⟩
 have hp:JJ x=(x3+x3/256+(x3+x3/256)/65536)+(x3+x3/256+(x3+x3/256)/65536)/4294967296:=by
  unfold JJ;rw[<-h1];dsimp only;rw[<-h2,<-h3]
 rw[m1]at h1;rw[m2]at h2;rw[m3]at h3;have a1:x/2&&& 6148914691236517205<=6148914691236517205:=jU;have a2:x&&& 6148914691236517205<=6148914691236517205:=jU;have b1:x1/4&&& 3689348814741910323<=3689348814741910323:=jU;have b2:x1&&& 3689348814741910323<=3689348814741910323:=jU;have c1:x3<=1085102592571150095:=by rw[h3];exact jU
 have e1:ar .u64 ((bits .and .u64 ((x:Int).fdiv 2) 6148914691236517205)+(bits .and .u64 (x:Int) 6148914691236517205))=(x1:Int):=by
  have f:=fd2 x 2;rw[show((2:Nat):Int)=2 from rfl]at f;rw[f,show(6148914691236517205:Int)=((6148914691236517205:Nat):Int)from rfl,u64_and_nat _ _ (by omega) (by decide),u64_and_nat _ _ hx (by decide),pe,h1];omega
 have e2:ar .u64 ((bits .and .u64 ((x1:Int).fdiv 4) 3689348814741910323)+(bits .and .u64 (x1:Int) 3689348814741910323))=(x2:Int):=by
  have f:=fd2 x1 4;rw[show((4:Nat):Int)=4 from rfl]at f;rw[f,show(3689348814741910323:Int)=((3689348814741910323:Nat):Int)from rfl,u64_and_nat _ _ (by omega) (by decide),u64_and_nat _ _ (by omega) (by decide),pe,h2];omega
 have e3:bits .and .u64 (ar .u64 (((x2:Int).fdiv 16)+(x2:Int))) 1085102592571150095=(x3:Int):=by
  have f:=fd2 x2 16;rw[show((16:Nat):Int)=16 from rfl]at f;have g:ar .u64 (((x2/16:Nat):Int)+(x2:Int))=((x2/16+x2:Nat):Int):=by rw[pe];omega
  rw[f,g,show(1085102592571150095:Int)=((1085102592571150095:Nat):Int)from rfl,u64_and_nat _ _ (by omega) (by decide),h3]
 rw[e1,e2,e3];have f4:=fd2 x3 256;rw[show((256:Nat):Int)=256 from rfl]at f4;have e4:ar .u64 ((x3:Int)+((x3:Int).fdiv 256))=((x3+x3/256:Nat):Int):=by rw[f4,pe];omega
 rw[e4];have f5:=fd2 (x3+x3/256) 65536;rw[show((65536:Nat):Int)=65536 from rfl]at f5;have e5:ar .u64 (((x3+x3/256:Nat):Int)+(((x3+x3/256:Nat):Int).fdiv 65536))=((x3+x3/256+(x3+x3/256)/65536:Nat):Int):=by rw[f5,pe];omega
 rw[e5];have f6:=fd2 (x3+x3/256+(x3+x3/256)/65536) 4294967296;rw[show((4294967296:Nat):Int)=4294967296 from rfl]at f6;have e6:ar .u64 (((x3+x3/256+(x3+x3/256)/65536:Nat):Int)+(((x3+x3/256+(x3+x3/256)/65536:Nat):Int).fdiv 4294967296))=((JJ x:Nat):Int):=by rw[f6,pe,hp];omega
 rw[e6,i64_and127];refine⟨?_,rfl⟩;have hpc:=WA hx;have e7:ar U ((JJ x:Nat):Int)=((JJ x:Nat):Int):=fR (by omega) (by rw[hp];omega);rw[e7,<-hpc];rfl
theorem JL(k:Int):0<=bits .and U k 1048575:=by
 have h:(BitVec.ofInt 64 k&&& BitVec.ofInt 64 1048575).toNat<=1048575:=by
  rw[BitVec.toNat_and];exact jU
 show 0<=IntKind.i64.wrap (((BitVec.ofInt 64 k&&& BitVec.ofInt 64 1048575).toNat:Nat):Int);rw[fR (by omega) (by omega)];omega
section
variable {xs:List cN} (sd:Sd xs) (hl:xs.length<=64) {act:List Int} (A:Lg xs act)
include sd hl A
theorem mJ{k:Nat}:(iu act).testBit k=true↔(k:Int)∈act:=by
 rw[tS,cA];refine⟨fun h=>h.2,fun h=>⟨?_,h⟩⟩;have:=(A.at_ k h).lt;omega
omit A in
theorem SM (n:Nat):kD (Sm xs n)=dz xs n:=qc (oa _) (nN xs n) fun x=>by
 rw[ma];constructor
 ·rintro⟨k,rfl,_,hk⟩;exact(ww sd.fo hl).1 hk
 ·intro h;obtain⟨q,t,rfl,h1,_⟩:=jE.1 h;have:=fJ h1;exact⟨q,rfl,by omega,(ww sd.fo hl).2 h⟩
theorem agt(n:Nat):(kD (Sm xs n&&& iu act)).length=Pj xs act n:=by
 unfold Pj;rw[Ua];congr 1;refine qc (oa _) ((nN xs n).filter _) fun x=>?_;rw[ma,ft,cA];constructor
 ·rintro⟨k,rfl,_,hk⟩;rw[kF,aQ]at hk;exact⟨(ww sd.fo hl).1 hk.1,(mJ sd hl A).1 hk.2⟩
 ·rintro⟨h1,h2⟩;obtain⟨q,t,rfl,g1,_⟩:=jE.1 h1;have:=fJ g1;exact⟨q,rfl,by omega,by rw[kF,(ww sd.fo hl).2 h1,(mJ sd hl A).2 h2];rfl⟩
theorem agu{n:Nat}(hn:(n:Int)∈act):JB xs n&&& (18446744073709551615-iu act)=0:=gN fun i=>by
 rw[kF,jT,dx];intro h;rw[aQ,y0 sd.fo hl,show 18446744073709551615-iu act=2 ^ 64-(iu act+1) by omega,Nat.testBit_two_pow_sub_succ (nZ act),aQ]at h;have hi:=Sg sd A n i hn h.1.2;rw[(mJ sd hl A).2 hi]at h;have:=h.2.2;cases this
theorem SN:iu act/2 ^ xs.length=0:=xL (Nat.lt_pow_two_of_testBit _ fun i hi=>by
 rw[dx];intro h;have:=(A.at_ i ((mJ sd hl A).1 h)).lt;omega)
theorem qj:kD (iu act)=act:=qc (oa _) A.rise fun x=>by
 rw[ma];constructor
 ·rintro⟨k,rfl,_,hk⟩;exact(mJ sd hl A).1 hk
 ·intro h;have h1:=(A.at_ x h).ge;have h2:=(A.at_ x h).lt;obtain⟨k,rfl⟩:∃k:Nat,x=k:=⟨x.toNat,by omega⟩
  exact⟨k,rfl,by omega,(mJ sd hl A).2 h⟩
end
mutual
theorem Yu(a:Nat)(pa dp:Int):∀x:Nd,(yC a pa dp x).map (fun s:cN=>s.k)=(AN x).map fun b=>b.k
 | .mk b l=>by rw[yC,AN,bD,bD,SO]
theorem SO(a:Nat)(pa dp:Int):∀l:List Nd,(pV a pa dp l).map (fun s:cN=>s.k)=(vm l).map fun b=>b.k
 | []=>by rw[pV,vm];rfl
 | x::l=>by rw[pV,vm,cJ,cJ,Yu,SO]
end
theorem SP{w:av}{F:aJ}{qn sv su sc se:Sl}{c:Ch}(hD:Dj w)(hT:aA JF 11 w F sc (Pn (gp c) 0 0 c.root))(sd:Sd (cF c))(hl:(cF c).length<=64){act:List Int}(A:Lg (cF c) act):
  az aq 23 #[ah #[qn.v,sv.v,su.v,sc.v,se.v],.int .u64 (iu act:Nat)] w fun e w'=>e=ak (aj true)/\ay [] w w':=by
 refine ret (afR _ _ _ _ _ _ _ _ ?_);intro k0 w0 gu fe cD;have z0:=cD.size;have Xr:iu act<18446744073709551616:=nZ act;have fi:(cF c).length=iQ c.root:=by unfold cF;rw[lh]
 have acZ:sc.n=(cF c).length:=by rw[hT.len,za,fi]
 have h0:bits .and .u64 ((iu act:Nat):Int) 1=1:=by
  rw[show(1:Int)=((1:Nat):Int)from rfl,u64_and_nat _ _ Xr (by decide),Nat.and_one_is_mod];have:=(mJ sd hl A (k:=0)).2 A.rt;rw[jq,cA]at this;rw[Nat.pow_zero,Nat.div_one]at this;rw[this]
 have FB:((iu act:Nat):Int).fdiv (2 ^ (min (Int.toNat (sc.n:Int)) 64))=0:=by
  rw[aY,Nat.min_eq_left (by omega),MX,fd2,acZ,SN sd hl A];rfl
 refine⟨fun _=>by omega,fun hh=>?_,fun _=>(SA (hD.only cD) Xr).mono ?_⟩
 ·rw[h0,FB]at hh;simp at hh
 rintro _ w1 ⟨⟨l0,rfl,hL⟩,cr⟩;have z1:=cr.size;have o1:=cD.cf cr;rw[qj sd hl A]at hL;have hLs:=hL.slice bN;have KA:=hLs.len;have hlb:act.length<=64:=by rw[<-qj sd hl A];exact qf _
 refine⟨l0,rfl,cr.same (by simp;omega),fun kv i u=>∃j:Nat,i=(j:Int)/\kv+j=act.length/\j<=act.length/\ay [] w1 u,act.length,⟨0,rfl,by omega,bh _,Only.refl _ _⟩,?_⟩;rintro kv _ w2 ⟨j,rfl,tY,hj,cR⟩;refine⟨fun hc=>?_,fun hc=>⟨rfl,o1.cf cR⟩⟩;have hc:=aO hc;have j8:j<act.length:=by omega
 obtain⟨ad,a1,a2⟩:=gW (kI hLs cR) (aW j8);have hm:=dZ j8;obtain⟨n,hn,PK,_⟩:=AW sd A hm;rw[hn]at a2 hm;obtain⟨x,hx⟩:∃x,(Pn (gp c) 0 0 c.root)[n]? =some x:=⟨_,aW (by rw[za];omega)⟩
 obtain⟨b,f,hb,YI,_⟩:=Sq _ _ _ _ _ _ hx;rw[bO]at YI;obtain⟨ve,b1,el,ll,b2⟩:=SK (SliceF.only jl (by decide) hT (o1.cf cR) (by simp)) hx;have hk:x.k=kd (cF c) n:=by
  have:((cF c).map fun s:cN=>s.k)[n]? =some b.k:=by
   have e:(cF c).map (fun s:cN=>s.k)=(AN c.root).map fun b=>b.k:=Yu 0 (-1) 0 c.root;rw[e,ch,hb];rfl
  rw[ch]at this;obtain⟨t,ht⟩:=gV PK;rw[ht]at this;injection this with this;rw[ux ht,YI];exact this.symm
 have hu:x.up=JB (cF c) n:=by rw[YI];rfl
 have hr:x.rg=Sm (cF c) n:=by rw[YI];rfl
 have G:=A.at_ n hm;have ph:=G.st;have Ff:=G.on;rw[aY]at Ff;have ap6:Sm (cF c) n&&& iu act<18446744073709551616:=um T9 (EF _ _);have cOn:pf 64 (Sm (cF c) n&&& iu act)=Pj (cF c) act n:=by rw[<-A4];exact agt sd hl A n
 have aiR:pf 64 (Sm (cF c) n)=(dz (cF c) n).length:=by rw[<-A4,SM sd hl n]
 refine⟨ad,a1,_,a2,ve,b1,_,_,_,_,_,_,_,el,ll,_,_,b2,fun k3 w3 wG rL de=>?_⟩;have z2:=cR.size;have z3:=de.size;dsimp only;rw[hr,hu,u64_and_nat _ _ (EF _ _) Xr];refine(JK w3 ap6).mono ?_;rintro _ u ⟨rfl,Xl⟩;obtain rfl:w3=u:=Xl.symm;refine⟨_,rfl,bU.refl _ _,(JK w3 (EF _ _)).mono ?_⟩;rintro _ u ⟨rfl,Xl⟩;obtain rfl:w3=u:=Xl.symm;rw[cOn,aiR];refine⟨_,rfl,bU.refl _ _,fun v u=>v=((Pj (cF c) act n:Nat):Int)/\ay [] w1 u/\w3.heap.size<=u.heap.size,?_,fun he=>(JK w3 (EF _ _)).mono ?_,fun he=>⟨?_,cR.cf de,aX _⟩⟩
 ·rintro _ w6 ⟨rfl,o6,z6⟩;refine(HH w6 x.k).mono ?_;rintro _ u ⟨rfl,Xl⟩;obtain rfl:w6=u:=Xl.symm;refine⟨_,rfl,bU.refl _ _,fun hh=>?_,fun _=>⟨kv-1,by omega,j+1,by rw[fR (by omega) (by omega)];rfl,by omega,by omega,o6⟩⟩;exfalso;rw[hk,ph,u64_andNot_nat _ _ (aa1 _ _) Xr,agu sd hl A hm]at hh;simp at hh
 ·rintro _ u ⟨rfl,Xl⟩;obtain rfl:w3=u:=Xl.symm;refine⟨_,rfl,bU.refl _ _,?_,cR.cf de,aX _⟩;have he:x.k=2:=by simpa using he
  rw[aiR];unfold xu at Ff;rw[if_pos (by rw[<-hk];exact he)]at Ff;have:Pj (cF c) act n=(dz (cF c) n).length:=by simpa using Ff
  rw[this]
 ·have he:x.k≠2:=by simpa using he
  unfold xu at Ff;rw[if_neg (by rw[<-hk];exact he)]at Ff;have:Pj (cF c) act n=min 1 (dz (cF c) n).length:=by simpa using Ff
  rw[this];split<;>omega
def gK(W:Int->Nat):List Int->Nat
 | []=>0
 | r::l=>W r+gK W l
def ix(W:Int->Nat):List Int->Nat
 | []=>1
 | r::l=>W r*ix W l
theorem xy(W:Int->Nat)(r:Int):∀l,gK W (l++[r])=gK W l+W r
 | []=>by simp[gK]
 | x::l=>by rw[bZ,gK,gK,xy W r l,dA]
theorem xz(W:Int->Nat)(r:Int):∀l,ix W (l++[r])=ix W l*W r
 | []=>by simp[ix]
 | x::l=>by rw[bZ,ix,ix,xz W r l,FD]
theorem A7{W V:Int->Nat}:∀{l:List Int},(∀r,r∈l->W r=V r)->gK W l=gK V l
 | [],_=>rfl
 | x::l,h=>by rw[gK,gK,h x (.head _),A7 fun r hr=>h r (.tail _ hr)]
theorem A8{W V:Int->Nat}:∀{l:List Int},(∀r,r∈l->W r=V r)->ix W l=ix V l
 | [],_=>rfl
 | x::l,h=>by rw[ix,ix,h x (.head _),A8 fun r hr=>h r (.tail _ hr)]
theorem CY(W:Int->Nat):∀(l:List Int) (j:Nat),gK W (l.take j)<=gK W l
 | [],j=>by simp[gK]
 | x::l,0=>by simp[gK]
 | x::l,j+1=>by rw[dV,gK,gK];have:=CY W l j;omega
theorem A9{W:Int->Nat}:∀{l:List Int},(∀r,r∈l->0<W r)->0<ix W l
 | [],_=>Nat.one_pos
 | x::l,h=>by rw[ix];exact Nat.mul_pos (h x (.head _)) (A9 fun r hr=>h r (.tail _ hr))
theorem CZ{W:Int->Nat}:∀{l:List Int} (j:Nat),(∀r,r∈l->0<W r)->ix W (l.take j)<=ix W l
 | [],j,_=>by simp[ix]
 | x::l,0,h=>by rw[cM];exact A9 h
 | x::l,j+1,h=>by rw[dV,ix,ix];exact Fk _ (CZ j fun r hr=>h r (.tail _ hr))
def wy(xs:List cN):Nat->Nat->Nat
 | 0,_=>1
 | f+1,n=>if(dz xs n).length=0 then 1 else if kd xs n=2 then ix (fun r=>wy xs f r.toNat) (dz xs n)else gK (fun r=>wy xs f r.toNat) (dz xs n)
def W(xs:List cN)(r:Int):Nat:=wy xs xs.length r.toNat
section
variable {xs:List cN}
theorem M3(hF:Sd xs):∀(f g n:Nat),xs.length<=n+f->xs.length<=n+g->wy xs f n=wy xs g n
 | 0,0,_,_,_=>rfl
 | 0,g+1,n,hf,_=>by
  have:dz xs n=[]:=jS.2 fun r hr=>by
   obtain⟨q,t,_,h2,_,_,h5,_⟩:=hF.JR hr;have:=fJ h2;omega
  rw[wy,wy,this];rfl
 | f+1,0,n,_,hg=>by
  have:dz xs n=[]:=jS.2 fun r hr=>by
   obtain⟨q,t,_,h2,_,_,h5,_⟩:=hF.JR hr;have:=fJ h2;omega
  rw[wy,wy,this];rfl
 | f+1,g+1,n,hf,hg=>by
  have key:∀r,r∈dz xs n->wy xs f r.toNat=wy xs g r.toNat:=fun r hr=>by
   obtain⟨q,t,rfl,_,_,_,h5,_⟩:=hF.JR hr;rw[aY];exact M3 hF f g q (by omega) (by omega)
  rw[wy,wy,A7 key,A8 key]
theorem Sd.aba(hF:Sd xs)(n:Nat):W xs n=if(dz xs n).length=0 then 1 else if kd xs n=2 then ix (W xs) (dz xs n)else gK (W xs) (dz xs n):=by
 have h1:W xs n=wy xs (xs.length+1) n:=by
  unfold W;rw[aY];exact M3 hF _ _ n (by omega) (by omega)
 rw[h1,wy];rfl
def mZ(xs:List cN)(r:Int):Nat:=(Hr xs r-r).toNat
theorem aa4{x y:Nat}(hx:2<=x)(hy:2<=y):x+y<=x*y:=by
 obtain⟨a,rfl⟩:∃a,x=a+2:=⟨x-2,by omega⟩
 obtain⟨b,rfl⟩:∃b,y=b+2:=⟨y-2,by omega⟩
 rw[eC,Nat.mul_add];have:=bh (a*b);omega
theorem rh{m:Nat}(h:1<=m):2<=2 ^ m:=by
 have:=rq (n:=2) (by decide) h;simpa using this
theorem EG{V:Int->Nat}{z:Int->Nat}:∀{l:List Int},(∀r,r∈l->2*V r<=2 ^ z r/\1<=z r)->l≠[]->2*gK V l<=2 ^ (gK z l)
 | [],_,h=>absurd rfl h
 | [x],h,_=>by simpa[gK]using(h x (.head _)).1
 | x::y::l,h,_=>by
  have h1:=h x (.head _);have ih:=EG (l:=y::l) (fun r hr=>h r (.tail _ hr)) (by simp);have hz:1<=gK z (y::l):=by
   have:=(h y (.tail _ (.head _))).2;rw[gK];omega
  have e1:gK V (x::y::l)=V x+gK V (y::l):=rfl;have e2:gK z (x::y::l)=z x+gK z (y::l):=rfl;rw[e1,e2,vw];have:=aa4 (rh h1.2) (rh hz);omega
theorem EH{V:Int->Nat}{z:Int->Nat}:∀{l:List Int},(∀r,r∈l->2*V r<=2 ^ z r/\1<=z r)->l≠[]->2*ix V l<=2 ^ (gK z l)
 | [],_,h=>absurd rfl h
 | [x],h,_=>by simpa[gK,ix]using(h x (.head _)).1
 | x::y::l,h,_=>by
  have h1:=h x (.head _);have ih:=EH (l:=y::l) (fun r hr=>h r (.tail _ hr)) (by simp);have e1:ix V (x::y::l)=V x*ix V (y::l):=rfl;have e2:gK z (x::y::l)=z x+gK z (y::l):=rfl;rw[e1,e2,vw];have:2*(V x*ix V (y::l))<=(2*V x)*(2*ix V (y::l)):=by
   rw[FD,Nat.mul_left_comm (V x) 2];have:=bh (V x*ix V (y::l));omega
  exact bp this (Nat.mul_le_mul h1.1 ih)
theorem Yv{z:Int->Nat}{en:Int->Int}:∀{l:List Int} {lo hi:Int},l.Pairwise (fun a b=>en a<=b)->(∀r,r∈l->lo<=r/\en r<=hi/\(z r:Int)=en r-r)->lo<=hi->(gK z l:Int)<=hi-lo
 | [],lo,hi,_,_,h=>by rw[gK];omega
 | x::l,lo,hi,hp,hm,h=>by
  rw[fN]at hp;have hx:=hm x (.head _);have:=Yv (l:=l) (lo:=en x) (hi:=hi) hp.2 (fun r hr=>⟨hp.1 r hr,(hm r (.tail _ hr)).2⟩) hx.2.1;rw[gK];omega
theorem Sd.M9(hF:Sd xs){n:Nat}{s:cN}(hs:xs[n]? =some s):(gK (mZ xs) (dz xs n):Int)<=s.en-n-1:=by
 have hu:=hF.fo.up n s hs;have:=Yv (z:=mZ xs) (en:=Hr xs) (l:=dz xs n) (lo:=n+1) (hi:=s.en) (hF.uW n (nN xs n) fun r hr=>hr) (fun r hr=>by
  obtain⟨q,t,rfl,h2,_,_,h5,h6⟩:=hF.JR hr;have h7:=hF.fo.up q t h2;have h8:=hF.fo.lam q hs h2 h5 (h6 s hs);unfold mZ;rw[nY h2];exact⟨by omega,h8,by omega⟩) (by omega)
 omega
theorem Sd.Na(hF:Sd xs):∀(f n:Nat) {s:cN},xs[n]? =some s->1<=wy xs f n/\2*wy xs f n<=2 ^ mZ xs n
 | 0,n,s,hs=>by
  have hu:=hF.fo.up n s hs;have:1<=mZ xs n:=by unfold mZ;rw[nY hs];omega
  rw[wy];exact⟨aX _,rh this⟩
 | f+1,n,s,hs=>by
  have hu:=hF.fo.up n s hs;have hz:1<=mZ xs n:=by unfold mZ;rw[nY hs];omega
  rw[wy];split
  ·exact⟨aX _,rh hz⟩
  rename_i ik;have Xh:dz xs n≠[]:=fun e=>ik (by rw[e];rfl);have key:∀r,r∈dz xs n->2*wy xs f r.toNat<=2 ^ mZ xs r/\1<=mZ xs r:=fun r hr=>by
   obtain⟨q,t,rfl,h2,_⟩:=hF.JR hr;have h7:=hF.fo.up q t h2;rw[aY];exact⟨(hF.Na f q h2).2,by unfold mZ;rw[nY h2];omega⟩
  have pos:∀r,r∈dz xs n->0<wy xs f r.toNat:=fun r hr=>by
   obtain⟨q,t,rfl,h2,_⟩:=hF.JR hr;rw[aY];exact(hF.Na f q h2).1
  have lC:2 ^ gK (mZ xs) (dz xs n)<=2 ^ mZ xs n:=rq (by decide) (by
   have:=hF.M9 hs;unfold mZ at*
   rw[nY hs];omega)
  split
  ·exact⟨A9 pos,bp (EH key Xh) lC⟩
  ·refine⟨?_,bp (EG key Xh) lC⟩;cases hr:dz xs n with
   | nil=>exact absurd hr Xh
   | cons x l=>
    have:=pos x (by rw[hr];exact .head _);rw[gK];omega
theorem Sd.Nc(hF:Sd xs){n:Nat}{s:cN}(hs:xs[n]? =some s):1<=W xs n:=by
 unfold W;rw[aY];exact(hF.Na _ n hs).1
theorem Sd.YA(hF:Sd xs){n:Nat}{s:cN}(hs:xs[n]? =some s):gK (W xs) (dz xs n)<=4611686018427387904/\ix (W xs) (dz xs n)<=4611686018427387904:=by
 have key:∀r,r∈dz xs n->2*W xs r<=2 ^ mZ xs r/\1<=mZ xs r:=fun r hr=>by
  obtain⟨q,t,rfl,h2,_⟩:=hF.JR hr;have h7:=hF.fo.up q t h2;unfold W;rw[aY];exact⟨(hF.Na _ q h2).2,by unfold mZ;rw[nY h2];omega⟩
 have lC:2 ^ gK (mZ xs) (dz xs n)<=2 ^ 63:=rq (by decide) (by
  have:=hF.M9 hs;have hu:=hF.fo.up n s hs;have:=hF.le;omega)
 by_cases hr:dz xs n=[]
 ·rw[hr];exact⟨bh _,by rw[ix];decide⟩
 ·have h1:=EG key hr;have h2:=EH key hr;have e63:2 ^ 63=9223372036854775808:=by decide
  rw[e63]at lC;omega
theorem Sd.abb(hF:Sd xs){n:Nat}{s:cN}(hs:xs[n]? =some s):W xs n<=4611686018427387904:=by
 rw[hF.aba n];have:=hF.YA hs;split
 ·decide
 ·split
  ·exact this.2
  ·exact this.1
theorem Sd.S8(hF:Sd xs){n:Nat}{r:Int}(hr:r∈dz xs n):0<W xs r:=by
 obtain⟨q,t,rfl,h2,_⟩:=hF.JR hr;exact hF.Nc h2
def pick(V:Int->Nat):List Int->Nat->Option (Int×Nat)
 | [],_=>none
 | r::l,k=>if k<V r then some (r,k)else pick V l (k-V r)
def jy(V:Int->Nat):List Int->Nat->List Nat×Nat
 | [],k=>([],k)
 | r::l,k=>((jy V l k).2 % V r::(jy V l k).1,(jy V l k).2/V r)
def jm(xs:List cN):Nat->Nat->Nat->List Int
 | 0,n,_=>[(n:Int)]
 | f+1,n,k=>(n:Int)::if kd xs n=1 then(match pick (W xs) (dz xs n) k with
  | some (r,k')=>jm xs f r.toNat k'
  | none=>[])else((dz xs n).zip (jy (W xs) (dz xs n) k).1).flatMap fun p=>jm xs f p.1.toNat p.2
def Pq(xs:List cN)(act:List Int)(par:Bool)(rec:Int->Nat):List Int->Nat->Nat
 | [],k=>k
 | r::l,k=>if par then Pq xs act par rec l (k*W xs r+rec r)else if r∈act then k+rec r else Pq xs act par rec l (k+W xs r)
def Yw(xs:List cN)(act:List Int):Nat->Nat->Nat
 | 0,_=>0
 | f+1,n=>Pq xs act (kd xs n==2) (fun r=>Yw xs act f r.toNat) (dz xs n) 0
theorem wx{V:Int->Nat}:∀{l:List Int} {k:Nat} {r:Int} {k':Nat},pick V l k=some (r,k')->r∈l/\k'<V r
 | [],_,_,_,h=>by cases h
 | x::l,k,r,k',h=>by
  rw[pick]at h;split at h
  ·injection h with h;injection h with h1 h2;subst h1 h2;exact⟨.head _,by assumption⟩
  ·obtain⟨h1,h2⟩:=wx h;exact⟨.tail _ h1,h2⟩
theorem EI(hF:Sd xs):∀(f n k:Nat) {s:cN},xs[n]? =some s->(jm xs f n k).Pairwise (· <·)/\∀x,x∈jm xs f n k->(n:Int)<=x/\x<s.en
 | 0,n,k,s,hs=>by
  have:=hF.fo.up n s hs;rw[jm];exact⟨by simp,fun x hx=>by rw[aN]at hx;omega⟩
 | f+1,n,k,s,hs=>by
  have hu:=hF.fo.up n s hs;rw[jm];have key:∀(r:Int) (d:Nat),r∈dz xs n->(jm xs f r.toNat d).Pairwise (· <·)/\(∀x,x∈jm xs f r.toNat d->r<=x/\x<Hr xs r)/\(n:Int)<r/\Hr xs r<=s.en:=fun r d hr=>by
   obtain⟨q,t,rfl,h2,_,_,h5,h6⟩:=hF.JR hr;rw[aY,nY h2];obtain⟨h7,h8⟩:=EI hF f q d h2;exact⟨h7,h8,by omega,hF.fo.lam q hs h2 h5 (h6 s hs)⟩
  have fin:∀(L:List Int),L.Pairwise (· <·)->(∀x,x∈L->(n:Int)<x/\x<s.en)->((n:Int)::L).Pairwise (· <·)/\∀x,x∈(n:Int)::L->(n:Int)<=x/\x<s.en:=fun L h1 h2=>⟨fN.2 ⟨fun x hx=>(h2 x hx).1,h1⟩,fun x hx=>by
   rw[aU]at hx;rcases hx with rfl | hx
   ·omega
   ·have:=h2 x hx;omega⟩
  split
  ·cases hp:pick (W xs) (dz xs n) k with
   | none=>exact fin [] (by simp) (by simp)
   | some p=>
    obtain⟨r,k'⟩:=p;obtain⟨h1,h2,h3,h4⟩:=key r k' (wx hp).1;exact fin _ h1 fun x hx=>by have:=h2 x hx;omega
  ·have hz:((dz xs n).zip (jy (W xs) (dz xs n) k).1).Pairwise fun a b=>Hr xs a.1<=b.1:=by
    have h1:=hF.uW n (nN xs n) fun r hr=>hr;have:(((dz xs n).zip (jy (W xs) (dz xs n) k).1).map Prod.fst).Pairwise fun a b=>Hr xs a<=b:=by
     have Xs:((dz xs n).zip (jy (W xs) (dz xs n) k).1).map Prod.fst=(dz xs n).take ((jy (W xs) (dz xs n) k).1.length):=by
      generalize (jy (W xs) (dz xs n) k).1=ds;generalize dz xs n=rs
      induction rs generalizing ds with
      | nil=>simp
      | cons r rs ih=>
       cases ds with
       | nil=>simp
       | cons d ds=>simp[ih]
     rw[Xs];exact h1.sublist (List.take_sublist _ _)
    rwa[List.pairwise_map]at this
   refine fin _ (CM (f:=fun p:Int×Nat=>jm xs f p.1.toNat p.2) (lo:=fun p=>p.1) (hi:=fun p=>Hr xs p.1) hz fun p hp=>?_) fun x hx=>?_
   ·have:=key p.1 p.2 (Ub hp).1;exact⟨this.1,this.2.1⟩
   ·obtain⟨p,hp,hx⟩:=qu.1 hx;obtain⟨_,h2,h3,h4⟩:=key p.1 p.2 (Ub hp).1;have:=h2 x hx;omega
theorem EJ(hF:Sd xs)(f n k:Nat){s:cN}(hs:xs[n]? =some s):(jm xs f n k).length<=64:=by
 obtain⟨h1,h2⟩:=EI hF f n k hs;have hu:=hF.fo.up n s hs;have lC:=hF.le;have:=Hs h1 h2 (by omega);omega
end
section
variable {w:av} {F G:aJ} {l sa:Sl} {xs:List cN} {act:List Int}
theorem Ox{u:av}(h:aA pb 5 w F l xs)(hO:ay [] w u):aA pb 5 u F l xs:=SliceF.only dk (by decide) h hO (by simp)
end
theorem mkI(w:av){n:Nat}(hn:n<=1000000):∃(s:Sl) (w':av),(Instr.makeSlice 32 (O U (n:Int)) (O U (n:Int))).run aq w=.ok s.v w'/\dc w.heap.size w' s (List.replicate n 0)/\ay [] w w':=by
 obtain⟨w',h1,h2,h3⟩:=run_makeSlice_full (P:=aq) (w:=w) w.heap.size 32 3 Tryz.t3 (O U 0) 1 (by kernel_rfl) (by kernel_rfl) rfl rfl U U n (by omega) (by show 8*n<=_;omega) (by show n<=9223372036854775807;omega) (aX _);have e:(madeCells (Value.int U 0).cells (n*1)).toList=(List.replicate n (0:Int)).map (Value.int U):=by
  rw[gj,List.map_replicate];exact toList_madeCells_one _ _
 rw[e]at h2;have h2':w'.ownsRow w.heap.size 3 1 (.slice (some ⟨w.heap.size,0,none⟩) n n) (List.replicate n (0:Int)).length ((List.replicate n (0:Int)).map (Value.int U)):=by rw[db];exact h2
 obtain⟨s,C3,hs2⟩:=dc.ofRow h2' fun x hx=>by rw[(List.mem_replicate.1 hx).2];exact⟨by decide,by decide⟩
 exact⟨s,w',by rw[<-C3];exact h1,hs2,by have:=Only.HP h3;simpa using this⟩
def wsL(xs:List cN):List Int:=(List.range xs.length).map fun n:Nat=>(W xs (n:Int):Int)
theorem EK{xs:List cN}{n:Nat}(h:n<xs.length):(wsL xs)[n]? =some (W xs n:Int):=by
 unfold wsL;rw[ch,List.getElem?_range h];rfl
section
variable {w:av} {F G:aJ} {l ws sa:Sl} {xs:List cN} {cw act:List Int} {k0 n:Nat} {x:cN}
theorem WB(hB:aF w k0 106 [l.v,ws.v])(h:aA pb 5 w F l xs)(hF:Sd xs)(hws:aA fz 1 w G ws cw)(hv:∀q:Nat,(q:Int)∈dz xs n->cw[q]? =some (W xs q:Int))(hx:xs[n]? =some x):
  az aq 90 #[ae (some ⟨k0,0,none⟩),O U (n:Int)] w fun e w'=>e=ak (O U (W xs n:Int))/\ay [] w w':=by
 refine ret (amh _ _ _ _ ?_);have lC:=hF.le;refine⟨l,Blk.dQ hB 0 rfl,(xw h hF hx).mono ?_⟩;rintro _ w0 ⟨⟨s1,rfl,Fi⟩,cr⟩;have WO:=Fi.len;have Zc:=Hp xs n;have T5:=hF.aba n;have Kz:=hF.YA hx;have UT:∀{r:Int},r∈dz xs n->_:=fun{r} h=>hF.JR (n:=n) (r:=r) h;have ug:∀r,r∈dz xs n->0<W xs r:=fun r hr=>hF.S8 hr;rw[ux hx]at T5;have ph:∀t,gK (W xs) ((dz xs n).take t)<=gK (W xs) (dz xs n):=fun t=>CY _ _ t;have hpt:∀t,ix (W xs) ((dz xs n).take t)<=ix (W xs) (dz xs n):=fun t=>CZ t ug;generalize dz xs n=rs at*
 refine⟨s1,rfl,fun hc=>⟨?_,cr⟩,fun hc=>?_⟩
 ·have hc:(s1.n:Int)=0:=by simpa using hc
  rw[T5,if_pos (by omega)];rfl
 ·have hc:(s1.n:Int)≠0:=by simpa using hc
  rw[if_neg (by omega)]at T5;refine⟨fun kv su pr i u=>∃t:Nat,i=(t:Int)/\kv+t=rs.length/\t<=rs.length/\su=(gK (W xs) (rs.take t):Int)/\pr=(ix (W xs) (rs.take t):Int)/\ay [] w0 u,rs.length,⟨0,rfl,by omega,bh _,by simp[gK],by simp[ix],Only.refl _ _⟩,?_⟩;rintro kv _ _ _ u ⟨t,rfl,tY,ht,rfl,rfl,hO⟩;have o:=cr.cf hO;have hBu:=o.blk hB (by simp);refine⟨fun uj=>?_,fun uj=>?_⟩
  ·have uj:=aO uj;have BR:t<rs.length:=by omega
   obtain⟨ad,a1,a2⟩:=gW (sW Fi hO).sl (aW BR);have th:=dZ BR;obtain⟨q,y,hq,hy,_⟩:=UT th;have hvq:=hv q (by rw[<-hq];exact th);obtain⟨ve,b1,b2⟩:=gW (kI hws o) hvq;have c1:aB u (Addr.add ⟨k0,0,none⟩ 1) [ws.v]:=Blk.dQ hBu 1 rfl;have nt:rs.take (t+1)=rs.take t++[rs[t]]:=by rw[bJ,aW BR];rfl
   have h1:=ph (t+1);have h2:=hpt (t+1);rw[nt,xy,hq]at h1;rw[nt,xz,hq]at h2;refine⟨ad,a1,_,a2,ws,c1,ve,by rw[hq];exact b1,_,b2,ws,c1,ve,by rw[hq];exact b1,_,b2,fun w2 cR=>⟨kv-1,by omega,t+1,by rw[fR (by omega) (by omega)];rfl,by omega,by omega,?_,?_,hO.cf cR⟩⟩
   ·rw[nt,xy,hq,fR (by omega) (by omega)];omega
   ·have e:(ix (W xs) (rs.take t):Int)*(W xs (q:Int):Int)=((ix (W xs) (rs.take t)*W xs (q:Int):Nat):Int):=by rw[Int.natCast_mul]
    rw[nt,xz,hq,e,fR (by omega) (by omega)]
  ·have uj:=aR uj;have:t=rs.length:=by omega
   subst this;obtain⟨ad,a1,a2,_⟩:=kH (Ox h o) hx;rw[bq (aX _)];refine⟨l,Blk.dQ hBu 0 rfl,ad,a1,x.k,a2.dQ 0 _ rfl,fun hk=>⟨?_,o⟩,fun hk=>⟨?_,o⟩⟩
   ·rw[T5,if_pos (by simpa using hk)]
   ·rw[T5,if_neg (by simpa using hk)]
structure CtB (w:av) (k0:Nat) (l ws:Sl) (xs:List cN) (F G:aJ):Prop where
 blk:aF w k0 106 [l.v,ws.v]
 sp:aA pb 5 w F l xs
 ws:aA fz 1 w G ws (wsL xs)
theorem CtB.only{u:av}(h:CtB w k0 l ws xs F G)(hO:ay [] w u):CtB u k0 l ws xs F G:=⟨hO.blk h.blk (by simp),Ox h.sp hO,kI h.ws hO⟩
theorem CtB.mono{F' G':aJ}(h:CtB w k0 l ws xs F G)(hF:∀k,F k->F' k)(hG:∀k,G k->G' k):CtB w k0 l ws xs F' G':=⟨h.blk,SliceF.mono dk h.sp hF,SliceF.mono bN h.ws hG⟩
theorem C0(h:aA pb 5 w F l xs)(hF:Sd xs):az aq 44 #[l.v] w fun e w'=>(∃(k0:Nat) (ws:Sl),e=ak (ae (some ⟨k0,0,none⟩))/\w.heap.size<=k0/\k0<w'.heap.size/\CtB w' k0 l ws xs (fun k=>F k/\k<w.heap.size) (fun k=>w.heap.size<=k))/\ay [] w w':=by
 refine(al5 l (fun v w'=>(∃(k0:Nat) (ws:Sl),v=ae (some ⟨k0,0,none⟩)/\w.heap.size<=k0/\k0<w'.heap.size/\CtB w' k0 l ws xs (fun k=>F k/\k<w.heap.size) (fun k=>w.heap.size<=k))/\ay [] w w') w ?_).mono (by rintro _ w' ⟨v,rfl,⟨s,t,rfl,h⟩,h'⟩;exact⟨⟨s,t,rfl,h⟩,h'⟩);have lC:=hF.le;have hl:=h.len;obtain⟨ws,w0,m1,m2,m3⟩:=mkI w (n:=l.n) (by omega);have z0:=m3.size;refine⟨ws,w0,m1,fun k0 w1 gu fe cr=>?_⟩;have o1:=m3.cf cr;have z1:=cr.size;have h1:aA pb 5 w1 (fun k=>F k/\k<w.heap.size) l xs:=Ox (SliceF.inHeap dk h (by decide)) o1;have ug:=hF.fo.ne;have hwa:∀{g:Nat},ws.a=some ⟨g,0,none⟩->w.heap.size<=g/\g<w0.heap.size:=fun e=>m2.blk e;refine⟨fun kv i l1 l2 u=>∃(m:Nat) (cw:List Int),i=(m:Int)-1/\kv=m/\m<=xs.length/\l=l1/\ws=l2/\dc w.heap.size u ws cw/\cw.length=xs.length/\(∀q:Nat,m<=q->q<xs.length->cw[q]? =some (W xs q:Int))/\aA pb 5 u (fun k=>F k/\k<w.heap.size) l xs/\ay [] w u/\w1.heap.size<=u.heap.size,xs.length,⟨xs.length,List.replicate l.n 0,by rw[fR (by omega) (by omega)];omega,rfl,aX _,rfl,rfl,sW m2 cr,by rw[db];exact hl,fun q h1 h2=>by omega,h1,o1,aX _⟩,?_⟩;rintro kv _ _ _ u ⟨m,cw,rfl,tY,hm,rfl,rfl,hS,hvl,yj,Fg,hO,hz⟩;refine⟨fun hc w3 de=>?_,fun hc hB=>⟨⟨k0,ws,rfl,by omega,by omega,hB,Fg,?_⟩,hO⟩⟩
 ·have hc:=aO hc;obtain⟨m,rfl⟩:∃m',m=m'+1:=⟨m-1,by omega⟩
  have em:((m+1:Nat):Int)-1=(m:Int):=by omega
  rw[em];obtain⟨x,hx⟩:=gV (xs:=xs) (i:=m) (by omega);have Fj:=sW hS de;refine⟨fun k=>k=k0,rfl,fun hB=>(WB hB (Ox Fg de) hF Fj.sl (fun q hq=>?_) hx).mono ?_⟩
  ·obtain⟨q',t,e,h2,_,_,h5,_⟩:=hF.JR hq;have:q'=q:=by omega
   subst this;exact yj q' (by omega) (fJ h2)
  rintro _ w4 ⟨rfl,dL⟩;have z3:=de.size;have z4:=dL.size;have TV:=sW Fj dL;have ap7:=hF.abb hx;obtain⟨g,cells,p1,p2,p3,p4,p5⟩:=Own.store (x:=(W xs m:Int)) (n:=m) (vs:=[O U (W xs m:Int)]) (G:=fun _=>False) bN TV (by omega) rfl ⟨rfl,by omega,by omega⟩ (fun k hk _=>hk.elim) (by decide);have hgw:=hwa p1;refine⟨_,rfl,l,ws,dL.blk hB (by simp),bP.only dL,_,p2,g,m*1,cells,_,rfl,p3,p4,by omega,fun w5 eP u7=>⟨m,by omega,m,cw.set m (W xs m:Int),by rw[fR (by omega) (by omega)],rfl,by omega,rfl,rfl,p5 w5 eP u7,by rw[ij];exact hvl,fun q h1 h2=>?_,SliceF.only dk (by decide) (Ox (Ox Fg de) dL) eP fun k hk _ Tz=>by simp only[aN]at Tz;omega,?_,?_⟩⟩
  ·by_cases hqm:q=m
   ·subst hqm;rw[oB (by omega)]
   ·rw[BX (fun e=>hqm e.symm)];exact yj q (by omega) h2
  ·exact(((hO.cf de).cf dL).mL (eP.p (F:=fun k=>w.heap.size<=k) fun k hk=>by simp only[aN]at hk;exact .inl (by omega))).only fun k hk=>hk
  ·have:=eP.size;omega
 ·have hc:=aR hc;have Fy:m=0:=by omega
  subst Fy;have e:cw=wsL xs:=jp fun q=>by
   by_cases hq:q<xs.length
   ·rw[yj q (bh _) hq,EK hq]
   ·rw[dH (by omega),dH (by unfold wsL;rw[bm,gZ];omega)]
  rw[e]at hS;exact hS.sl
theorem EM(h:aA pb 5 w F l xs)(hF:Sd xs):az aq 20 #[l.v] w fun e w'=>e=ak (O U (W xs 0:Int))/\ay [] w w':=by
 refine ret (alZ _ _ _ ?_);have hl:=h.len;have ug:=hF.fo.ne;refine⟨fun hc=>absurd (show(l.n:Int)=0 by simpa using hc) (by omega),fun _=>(C0 h hF).mono ?_⟩;rintro _ w1 ⟨⟨k0,ws,rfl,_,_,hC⟩,hO⟩;obtain⟨ad,a1,a2⟩:=gW hC.ws (EK ug);exact⟨_,rfl,⟨k0,0,none⟩,rfl,ws,Blk.dQ hC.blk 1 rfl,ad,a1,_,a2,rfl,hO⟩
end
def Gr(s:Sl)(w:av)(s':Sl)(w':av):Prop:=aD (fun k=>s.a=some ⟨k,0,none⟩) w w'/\∀k,s'.a=some ⟨k,0,none⟩->s.a=some ⟨k,0,none⟩∨w.heap.size<=k
theorem Gr.trans{s s' s'':Sl}{w w' tV:av}(h:Gr s w s' w')(k:Gr s' w' s'' tV):Gr s w s'' tV:=by
 have z:=h.1.size;refine⟨h.1.trans k.1 fun x hx=>?_,fun x hx=>?_⟩
 ·rcases h.2 x hx with e | e
  ·exact .inl e
  ·exact .inr e
 ·rcases k.2 x hx with e | e
  ·exact h.2 x e
  ·exact .inr (by omega)
theorem Gr.only{s:Sl}{w w':av}(h:ay [] w w'):Gr s w s w':=⟨h.p0,fun _ h=>.inl h⟩
theorem Ba(V:Int->Nat):∀(l:List Int) (k:Nat),(jy V l k).1.length=l.length
 | [],k=>rfl
 | r::l,k=>by rw[jy,bf,bf,Ba V l k]
theorem M4(V:Int->Nat):∀(l:List Int) (k:Nat),(jy V l k).2<=k
 | [],k=>aX _
 | r::l,k=>by rw[jy];exact bp (Nat.div_le_self _ _) (M4 V l k)
theorem EN{V:Int->Nat}:∀{l:List Int} {k j:Nat} {r:Int} {d:Nat},(∀r,r∈l->0<V r)->l[j]? =some r->(jy V l k).1[j]? =some d->d<V r
 | [],_,_,_,_,_,h,_=>by cases h
 | x::l,k,0,r,d,hp,h,g=>by
  rw[jy]at g;rw[ci,aZ]at h g;subst h g;exact Nat.mod_lt _ (hp _ (.head _))
 | x::l,k,j+1,r,d,hp,h,g=>by
  rw[jy]at g;rw[cu]at h g;exact EN (fun r hr=>hp r (.tail _ hr)) h g
theorem amT(w0:av){u:av}{s:Sl}{is:List Int}(h:dc w0.heap.size u s is)(hO:ay [] w0 u)(n:Int)(hn:rS n)(hm:is.length<=2000000):
  ∃y w1,(au 32 1 #[.mk 0 (O U n)]).run aq u=.ok (Sl.v y) w1/\∃s' w2,(Builtin.append_ #[32,32] 32 #[Sl.v s,Sl.v y]).run aq w1=.ok (Sl.v s') w2/\dc w0.heap.size w2 s' (is++[n])/\ay [] w0 w2/\Gr s u s' w2:=by
 obtain⟨y,w1,k1,k3,s',w2,g1,g2,⟨gs,g3,g4⟩,g5⟩:=jK (P:=aq) (t:=32) (ty:=32) (e:=3) (i:=Tryz.t3) (bytes:=8) (size:=1) (r:=fz) (G:=fun _=>False) (v:=O U n) (x:=n) (by kernel_rfl) (by kernel_rfl) rfl rfl rfl rfl (by decide) (by decide) (by decide) bN h hO.size rfl ⟨rfl,hn⟩ (fun _ h=>h.elim) (by omega);refine⟨y,w1,k1,s',w2,g1,dc.of g2,((hO.cf k3).mL (g3.p (F:=fun k=>w0.heap.size<=k) fun g hg=>.inl (g4 g hg).2.1)).only fun k hk=>hk,k3.mL (g3.p fun g hg=>.inl (g4 g hg).1),fun k hk=>?_⟩;rcases g5 with e | ⟨g,e,h⟩
 ·exact .inl (by rw[<-e];exact hk)
 ·rw[e]at hk;injection hk with hk;injection hk with hk;exact .inr (by omega)
section
variable {w0:av} {F G:aJ} {l ws:Sl} {xs:List cN} {k0:Nat}
theorem CtB.jV{w u:av}{S:aJ}(h:CtB w k0 l ws xs F G)(hO:aD S w u)(h0:¬S k0)(hF:∀k,F k->¬S k)(hG:∀k,G k->¬S k):CtB u k0 l ws xs F G:=
 ⟨hO.blk h.blk h0,SliceF.jV dk (by decide) h.sp hO fun k hk _=>hF k hk,SliceF.jV bN (by decide) h.ws hO fun k hk _=>hG k hk⟩
theorem JM(hF:Sd xs)(hC:CtB w0 k0 l ws xs F G)(hFw:∀k,F k->k<w0.heap.size)(hGw:∀k,G k->k<w0.heap.size):∀(f n k:Nat) {w:av} {x:cN} {out:Sl} {L:List Int},xs[n]? =some x->xs.length<=n+f->k<W xs n->dc w0.heap.size w out L->ay [] w0 w->L.length+(jm xs f n k).length<=1000000->
  az aq 45 #[ae (some ⟨k0,0,none⟩),out.v,O U (n:Int),O U (k:Int)] w fun e w'=>∃s:Sl,e=ak s.v/\dc w0.heap.size w' s (L++jm xs f n k)/\Gr out w s w'
 | 0,n,k,w,x,out,L,hx,hf,_,_,_,_=>by
  have:=fJ hx;omega
 | f+1,n,k,w,x,out,L,hx,hf,hk,hL,hO,hm=>by
  have lC:=hF.le;have PK:=fJ hx;refine(al6 ⟨k0,0,none⟩ out n k (fun v w'=>∃s:Sl,v=s.v/\dc w0.heap.size w' s (L++jm xs (f+1) n k)/\Gr out w s w') w ?_).mono (by rintro _ w' ⟨v,rfl,s,rfl,h⟩;exact⟨s,rfl,h⟩);have ap7:=hF.abb hx;have e0:jm xs (f+1) n k=(n:Int)::if kd xs n=1 then(match pick (W xs) (dz xs n) k with
   | some (r,k')=>jm xs f r.toNat k'
   | none=>[])else((dz xs n).zip (jy (W xs) (dz xs n) k).1).flatMap fun p=>jm xs f p.1.toNat p.2:=rfl
  rw[e0,ux hx]at hm⊢;have axz:=hC.blk.lt;obtain⟨y1,w1,k1,s1,w2,g1,g2,g3,g4⟩:=amT w0 hL hO n ⟨by omega,by omega⟩ (by omega);have hC2:=hC.only g3;refine⟨y1,w1,k1,s1,w2,g1,l,Blk.dQ hC2.blk 0 rfl,(xw hC2.sp hF hx).mono ?_⟩;rintro _ w3 ⟨⟨s3,rfl,Fj⟩,de⟩;have o3:=g3.cf de;have hC3:=hC.only o3;have cr:dc w0.heap.size w3 s1 (L++[(n:Int)]):=sW g2 de;have C3:∀{g:Nat},s1.a=some ⟨g,0,none⟩->w0.heap.size<=g/\g<w2.heap.size:=fun e=>g2.blk e;have hs3:∀{g:Nat},s3.a=some ⟨g,0,none⟩->w2.heap.size<=g/\g<w3.heap.size:=fun e=>Fj.blk e;have g4':Gr out w s1 w3:=g4.trans (Gr.only de);obtain⟨ad,a1,a2,_⟩:=kH hC3.sp hx;have hl3:=Fj.len;have Zc:=Hp xs n;have UT:∀{r:Int},r∈dz xs n->_:=fun{r} h=>hF.JR (n:=n) (r:=r) h;have ug:∀r,r∈dz xs n->0<W xs r:=fun r hr=>hF.S8 hr;have aqb:∀r,r∈dz xs n->W xs r<=4611686018427387904:=fun r hr=>by
   obtain⟨q,t,rfl,h2,_⟩:=UT hr;exact hF.abb h2
  generalize dz xs n=rs at*
  have rat:∀{u:av} {t:Nat} {r:Int},rs[t]? =some r->aD (fun k=>s1.a=some ⟨k,0,none⟩) w3 u->∃(q:Nat) (y:cN) (ad ve:Addr),r=q/\xs[q]? =some y/\n<q/\cW s3 (t:Int) 1 ad/\aB u ad [O U r]/\aB u (Addr.add ⟨k0,0,none⟩ 1) [ws.v]/\cW ws r 1 ve/\aB u ve [O U (W xs r:Int)]:=fun{u t r} ht hu=>by
   obtain⟨q,y,rfl,hy,_,_,hnq,_⟩:=UT (bF ht);have hSu:dc w2.heap.size u s3 rs:=Fj.keep bN fun k hk bS=>hu.block k bS fun hh=>by
    have h1:=C3 hh;rcases hk with hk | hk
    ·exact hk.elim
    ·omega
   obtain⟨ad,b1,b2⟩:=gW hSu.sl ht;have hCu:=hC3.jV hu (fun hh=>by have:=C3 hh;omega) (fun k hk hh=>by have:=C3 hh;have:=hFw k hk;omega) (fun k hk hh=>by have:=C3 hh;have:=hGw k hk;omega);obtain⟨ve,c1,c2⟩:=gW hCu.ws (EK (fJ hy));exact⟨q,y,ad,ve,rfl,hy,hnq,b1,b2,Blk.dQ hCu.blk 1 rfl,c1,c2⟩
  refine⟨s3,rfl,l,Blk.dQ hC3.blk 0 rfl,ad,a1,x.k,a2.dQ 0 _ rfl,fun j5=>?_,fun j5=>?_⟩
  ·have j5:x.k=1:=by simpa using j5
   rw[if_pos j5]at hm⊢;refine⟨fun kv i1 i u=>∃t k':Nat,i=(t:Int)/\i1=(k':Int)/\kv+t=rs.length/\t<=rs.length/\k'<=k/\pick (W xs) rs k=pick (W xs) (rs.drop t) k'/\w3=u,rs.length,⟨0,k,rfl,rfl,by omega,bh _,aX _,by rw[fV],rfl⟩,?_⟩;rintro kv _ _ _ ⟨t,k',rfl,rfl,tY,ht,Fe,WN,rfl⟩;refine⟨fun hc=>?_,fun hc=>?_⟩
   ·have hc:=aO hc;have BR:t<rs.length:=by omega
    have Zl:=aW BR;obtain⟨q,y,ad,ve,hq,hy,hnq,b1,b2,b3,b4,b5⟩:=rat Zl (OnlyP.refl _ _);have hpd:pick (W xs) (rs.drop t) k'=if k'<W xs rs[t]then some (rs[t],k')else pick (W xs) (rs.drop (t+1)) (k'-W xs rs[t]):=by
     rw[dW BR,pick]
    have axC:=aqb _ (dZ BR);rw[hpd]at WN;refine⟨ad,b1,_,b2,ws,b3,ve,b4,_,b5,fun bS=>?_,fun bS=>⟨ws,b3,ve,b4,_,b5,kv-1,by omega,t+1,k'-W xs rs[t],by rw[fR (by omega) (by omega)];rfl,?_,by omega,by omega,by omega,?_,rfl⟩⟩
    ·have bS:=aO bS;have ada:k'<W xs rs[t]:=by omega
     rw[if_pos ada]at WN;rw[WN]at hm⊢;dsimp only at hm⊢;rw[hq,aY]at hm⊢;rw[hq]at ada;rw[bf]at hm;refine(JM hF hC hFw hGw f q k' hy (by omega) ada cr o3 (by rw[aP,bG];omega)).mono ?_;rintro _ w4 ⟨s4,rfl,h4,o4⟩;exact⟨s4,rfl,s4,rfl,by rw[bH]at h4;exact h4,g4'.trans o4⟩
    ·have bS:=aR bS;rw[fR (by omega) (by omega)];omega
    ·have bS:=aR bS;rw[if_neg (by omega)]at WN;exact WN
   ·have hc:=aR hc;rw[oA (by omega),pick]at WN;rw[WN];exact⟨s1,rfl,cr,g4'⟩
  ·have j5:x.k≠1:=by simpa using j5
   rw[if_neg j5]at hm⊢;obtain⟨es,w5,m1,m2,m3⟩:=mkI w3 (n:=s3.n) (by omega);have o5:=o3.cf m3;have z5:=m3.size;have hea:∀{g:Nat},es.a=some ⟨g,0,none⟩->w3.heap.size<=g/\g<w5.heap.size:=fun e=>m2.blk e;refine⟨es,w5,m1,fun kv i6 i u=>∃(m k':Nat) (ds:List Int),i=(m:Int)-1/\i6=(k':Int)/\kv=m/\m<=rs.length/\k'=(jy (W xs) (rs.drop m) k).2/\dc w3.heap.size u es ds/\ds.length=rs.length/\ds.drop m=(jy (W xs) (rs.drop m) k).1.map (fun d:Nat=>(d:Int))/\ay [] w3 u/\w5.heap.size<=u.heap.size,rs.length,⟨rs.length,k,List.replicate s3.n 0,by rw[fR (by omega) (by omega)];omega,rfl,rfl,aX _,by rw[List.drop_length];rfl,m2,by rw[db];exact hl3,by rw[List.drop_length,oA (by rw[db];omega)];rfl,m3,aX _⟩,?_⟩;rintro kv _ _ u ⟨m,k',ds,rfl,rfl,tY,Bx,iM,hD,zf,Py,hOu,hz⟩;refine⟨fun hc w7 fE=>?_,fun hc=>?_⟩
   ·have hc:=aO hc;obtain⟨m,rfl⟩:∃m',m=m'+1:=⟨m-1,by omega⟩
    have em:((m+1:Nat):Int)-1=(m:Int):=by omega
    rw[em];have Zl:=aW (show m<rs.length by omega);have o7:=hOu.cf fE;obtain⟨q,y,ad,ve,hq,hy,hnq,b1,b2,b3,b4,b5⟩:=rat Zl o7.p0;have hD7:=sW hD fE;have z7:=fE.size;have hwp:=ug _ (dZ (show m<rs.length by omega));have as8:k'<=k:=by rw[iM];exact M4 _ _ _
    have hdg:jy (W xs) (rs.drop m) k=(k' % W xs rs[m]::(jy (W xs) (rs.drop (m+1)) k).1,k'/W xs rs[m]):=by
     rw[dW (show m<rs.length by omega),jy,<-iM]
    have aqc:(k':Int).tmod (W xs rs[m]:Int)=((k' % W xs rs[m]:Nat):Int):=rfl;have hdiv:(k':Int).tdiv (W xs rs[m]:Int)=((k'/W xs rs[m]:Nat):Int):=rfl;have axF:k' % W xs rs[m]<=k':=Nat.mod_le _ _;have aqd:k'/W xs rs[m]<=k':=Nat.div_le_self _ _;obtain⟨g,cells,p1,p2,p3,p4,p5⟩:=Own.store (x:=((k' % W xs rs[m]:Nat):Int)) (n:=m) (vs:=[O U ((k' % W xs rs[m]:Nat):Int)]) (G:=fun _=>False) bN hD7 (by omega) rfl ⟨rfl,by omega,by omega⟩ (fun k hk _=>hk.elim) (by decide);have hgw:=hea p1;refine⟨ws,b3,ad,b1,_,b2,ve,b4,_,b5,by omega,_,p2,g,m*1,cells,_,rfl,p3,p4,fun w8 fy vt=>?_⟩;rw[aqc]at vt;have o8:ay [] w3 w8:=(o7.mL (fy.p (F:=fun k=>w3.heap.size<=k) fun k hk=>by simp only[aN]at hk;exact .inl (by omega))).only fun k hk=>hk;have z8:=fy.size;obtain⟨q',y',EZ,aqe,_,_,_,c1,c2,c3,c4,c5⟩:=rat Zl o8.p0;refine⟨ws,c3,EZ,c1,_,c2,aqe,c4,_,c5,by omega,fun w9 fQ=>?_⟩;have z9:=fQ.size;rw[hdiv];refine⟨m,by omega,m,_,ds.set m ((k' % W xs rs[m]:Nat):Int),by rw[fR (by omega) (by omega)],by rw[fR (Int.le_trans (by decide) (bA _)) (Int.le_trans (Int.ofNat_le.2 aqd) (by omega))],rfl,by omega,by rw[hdg],sW (p5 w8 fy vt) fQ,by rw[ij];exact zf,?_,o8.cf fQ,by omega⟩;rw[hdg,bD,<-Py,dW (show m<(ds.set m ((k' % W xs rs[m]:Nat):Int)).length by rw[ij];omega),List.getElem_set_self,Fp (by omega)]
   ·have hc:=aR hc;have Fy:m=0:=by omega
    subst Fy;rw[fV,fV]at Py;have aqf:=Ba (W xs) rs k;let dg:=(jy (W xs) rs k).1
    have hdg:dg=(jy (W xs) rs k).1:=rfl;rw[<-hdg]at hm Py aqf⊢;have ou:=o3.cf hOu;have hDv:∀{v:av} {q:Sl},Gr s1 u q v->dc w3.heap.size v es ds:=fun{v q} hg=>hD.keep bN fun k hk bS=>hg.1.block k bS fun hh=>by
     have h1:=C3 hh;have z3:=de.size;rcases hk with hk | hk
     ·exact hk.elim
     ·omega
    have aqg:dc w0.heap.size u s1 (L++[(n:Int)]):=sW cr hOu;let Z:Nat->List Int:=fun t=>((rs.zip dg).take t).flatMap fun p=>jm xs f p.1.toNat p.2
    have hZ:∀t r d,rs[t]? =some r->dg[t]? =some d->Z (t+1)=Z t++jm xs f r.toNat d:=fun t r d h1 h2=>by
     show((rs.zip dg).take (t+1)).flatMap _=_;rw[bJ,jI];congr 1;have:(rs.zip dg)[t]? =some (r,d):=je.2 ⟨h1,h2⟩;rw[this];simp
    have aqh:∀t,(Z t).length<=(Z rs.length).length:=fun t=>by
     show(((rs.zip dg).take t).flatMap _).length<=(((rs.zip dg).take rs.length).flatMap _).length;rw[bq (i:=rs.length) (by rw[List.length_zip];omega)]
     conv=>rhs;rw[<-cZ t (rs.zip dg)]
     rw[jI,aP];omega
    have aiT:Z rs.length=(rs.zip dg).flatMap fun p=>jm xs f p.1.toNat p.2:=by
     show((rs.zip dg).take rs.length).flatMap _=_;rw[bq (i:=rs.length) (by rw[List.length_zip];omega)]
    rw[<-aiT]at hm⊢;rw[bf]at hm;refine⟨fun kv q i v=>∃t:Nat,i=(t:Int)/\kv+t=rs.length/\t<=rs.length/\dc w0.heap.size v q (L++(n:Int)::Z t)/\Gr s1 u q v,rs.length,⟨0,rfl,by omega,bh _,by simpa[Z]using aqg,Gr.only (Only.refl _ _)⟩,?_⟩;rintro T0 q _ v ⟨t,rfl,OZ,ht,hq,hGv⟩;have Zh:aD (fun k=>s1.a=some ⟨k,0,none⟩) w3 v:=hOu.mL hGv.1;have aqi:ay [] w0 v:=(o3.mL (Zh.mono (G:=fun k=>w0.heap.size<=k) fun k _ hk=>(C3 hk).1)).only fun k hk=>hk;refine⟨fun lw=>?_,fun lw=>?_⟩
    ·have lw:=aO lw;have BR:t<rs.length:=by omega
     have Zl:=aW BR;have htd:=aW (show t<dg.length by omega);obtain⟨q',y,ad,ve,hq',hy,hnq,b1,b2,_⟩:=rat Zl Zh;have hds:ds[t]? =some ((dg[t]'(by omega):Nat):Int):=(bI (fun z:List Int=>z[t]?) Py).trans (by rw[ch,htd];rfl);obtain⟨Iv,c1,c2⟩:=gW (hDv hGv).sl hds;have aiU:=EN ug Zl htd;have hz1:=hZ t _ _ Zl htd;have C8:=aqh (t+1);rw[hz1,aP]at C8;refine⟨ad,b1,_,b2,Iv,c1,_,c2,?_⟩;rw[hq']at aiU hz1⊢;rw[hq']at C8;rw[aY]at hz1 C8;refine(JM hF hC hFw hGw f q' _ hy (by omega) aiU hq aqi (by simp only[aP,bf];omega)).mono ?_;rintro _ dC ⟨HV,rfl,It,UR⟩;refine⟨HV,rfl,T0-1,by omega,t+1,by rw[fR (by omega) (by omega)];rfl,by omega,by omega,?_,hGv.trans UR⟩;rw[hz1];rw[bH,bZ]at It;exact It
    ·have lw:=aR lw;have:t=rs.length:=by omega
     subst this;exact⟨q,rfl,hq,(g4'.trans (Gr.only hOu)).trans hGv⟩
end
section
variable {w w0:av} {F G G':aJ} {l ws sa:Sl} {xs:List cN} {act:List Int} {k0:Nat}
theorem SQ(h:aA pb 5 w F l xs)(hF:Sd xs)(k:Int)(hm:∀n:Nat,(jm xs xs.length 0 n).length<=1000000):az aq 21 #[l.v,O U k] w fun e w'=>(∃(s:Sl) (b:Bool) (is:List Int),e=ak (ai #[s.v,aj b])/\dc w.heap.size w' s is/\(b=true↔0<=k/\k<W xs 0)/\is=if b=true then jm xs xs.length 0 k.toNat else[])/\ay [] w w':=by
 refine(al0 l k (fun v w'=>(∃(s:Sl) (b:Bool) (is:List Int),v=ai #[s.v,aj b]/\dc w.heap.size w' s is/\(b=true↔0<=k/\k<W xs 0)/\is=if b=true then jm xs xs.length 0 k.toNat else[])/\ay [] w w') w ?_).mono (by rintro _ w' ⟨v,rfl,⟨k,b,is,rfl,h⟩,h'⟩;exact⟨⟨k,b,is,rfl,h⟩,h'⟩);have hl:=h.len;have ug:=hF.fo.ne;refine(C0 h hF).mono ?_;rintro _ w1 ⟨⟨k0,ws,rfl,gu,fe,hC⟩,cr⟩;have z1:=cr.size;obtain⟨ad,a1,a2⟩:=gW hC.ws (EK ug);refine⟨_,rfl,⟨k0,0,none⟩,fun _=>rfl,ws,fun _=>Blk.dQ hC.blk 1 rfl,ad,fun _=>a1,_,fun _=>a2,fun hc=>⟨⟨Sl.nil,false,[],rfl,Own.nil _ _ _ _ _ _,⟨(fun h=>by cases h),fun hk=>?_⟩,rfl⟩,cr⟩,fun hc=>?_⟩
 ·rw[cn,cn]at hc;rcases hc with(hc | hc) | hc
  ·have:(l.n:Int)=0:=by simpa using hc
   omega
  ·have:=aO hc;omega
  ·have:=aO hc;have:=hk.2;simp only[Int.ofNat_zero]at*
   omega
 ·rw[eb,eb]at hc;have c1:=aR hc.1.2;have c2:=aR hc.2;obtain⟨m,rfl⟩:∃m:Nat,k=m:=⟨k.toNat,by omega⟩
  obtain⟨x,hx⟩:=gV (xs:=xs) (i:=0) ug;have hC':CtB w1 k0 l ws xs (fun k=>k<w1.heap.size) (fun k=>k<w1.heap.size):=⟨hC.blk,SliceF.mono dk (SliceF.inHeap dk hC.sp (by decide)) fun k hk=>hk.2,SliceF.mono bN (SliceF.inHeap bN hC.ws (by decide)) fun k hk=>hk.2⟩
  have bS:m<W xs ((0:Nat):Int):=by omega
  refine(JM hF hC' (fun k hk=>hk) (fun k hk=>hk) xs.length 0 m (out:=Sl.nil) (L:=[]) hx (by omega) bS (Own.nil _ _ _ _ _ _) (Only.refl _ _) (by have:=hm m;simpa using this)).mono ?_;rintro _ w2 ⟨s2,rfl,O0,hG2⟩;have cR:ay [] w1 w2:=hG2.1.only fun k hk=>by cases hk
  rw[ck]at O0;exact⟨s2,rfl,⟨s2,true,_,rfl,Own.low O0 z1,⟨fun _=>⟨by omega,by simpa using bS⟩,fun _=>rfl⟩,by rw[if_pos rfl,aY]⟩,cr.cf cR⟩
end
end Go.Proofs.YtbkjcdocjfknfaaGreatDoor.Con
