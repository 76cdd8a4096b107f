import Derived.Test.YtbkjcdocjfknfaaGreatDoorQc10
set_option linter.unusedSectionVars false
namespace Go.Proofs.YtbkjcdocjfknfaaGreatDoor.Con
open Go.Value renaming int->O,string->ab,pointer->ae,agg->ah,tuple->ai,bool->aj
open Go.IntKind renaming i64->U,wrap->ar
open Go.Ending renaming returned->ak
open _root_.ByteArray renaming mk->ao
open _root_.Go.Proofs.Tryz renaming prog->aq
open Go.Instr renaming buildSlice->au
open Go renaming World->av,Value->aw,Calls->az
open Go.Kt renaming Only->ay,SliceF->aA,Cells->aB,OnlyP->aD,Blk->aF
open Go Go.RowKit Go.Kt Go.Kt.V Go.Proofs.YtbkjcdocjfknfaaGreatDoor.Vc
set_option linter.unusedSimpArgs false
set_option linter.unusedVariables false
set_option maxHeartbeats 4000000
set_option maxRecDepth 100000
def inB(n:Int):Bool:=decide (-9223372036854775808<=n/\n<=9223372036854775807)
theorem RI{n:Int}(h:inB n=true):rS n:=by
 have h:=aO h;exact⟨h.1,h.2⟩
mutual
def nXb:Ex->Bool
 | .mk _ n _ _ l _=>inB n&&V8 l
def V8:List Ex->Bool
 | []=>true
 | x::l=>nXb x&&V8 l
end
theorem Mu{y:Ex}:∀{l:List Ex},V8 l=true->y∈l->nXb y=true
 | [],_,h=>by simp at h
 | x::l,h,hy=>by
  rw[V8,aQ]at h;rcases aU.1 hy with rfl | hy
  ·exact h.1
  ·exact Mu h.2 hy
theorem aaC:∀(d:Nat) {x:Ex},nXb x=true->rv d x
 | 0,_,_=>trivial
 | d+1,.mk k n s op l a,h=>by
  rw[nXb,aQ]at h;exact⟨RI h.1,fun y hy=>aaC d (Mu h.2 hy)⟩
def nAb(a:Ac):Bool:=nXb a.x
def nMb(m:Mv):Bool:=nXb m.g&&m.acts.all nAb&&inB m.wt
def nNb(b:Nb):Bool:=b.en.all nAb&&b.lv.all nAb&&b.mv.all nMb
mutual
def nDb:Nd->Bool
 | .mk b l=>nNb b&&V9 l
def V9:List Nd->Bool
 | []=>true
 | x::l=>nDb x&&V9 l
end
theorem RJ{l:List Ac}(h:l.all nAb=true):∀a,a∈l->X8 a:=fun a ha d=>aaC d ((dY.1 h) a ha)
theorem amB{m:Mv}(h:nMb m=true):mvN m:=by
 unfold nMb at h;simp only[aQ]at h;exact⟨fun d=>aaC d h.1.1,RJ h.1.2,RI h.2⟩
theorem amC{b:Nb}(h:nNb b=true):nbN b:=by
 unfold nNb at h;simp only[aQ]at h;exact⟨RJ h.1.1,RJ h.1.2,fun m hm=>amB ((dY.1 h.2) m hm)⟩
mutual
theorem agi:∀(x:Nd),nDb x=true->LS x
 | .mk b l,h=>by
  rw[nDb,aQ]at h;rw[LS];exact⟨amC h.1,Yj l h.2⟩
theorem Yj:∀(l:List Nd),V9 l=true->Au l
 | [],_=>by rw[Au];trivial
 | x::l,h=>by
  rw[V9,aQ]at h;rw[Au];exact⟨agi x h.1,Yj l h.2⟩
end
def nCb(c:Ch):Bool:=(c.vars.all fun v=>inB v.v)&&nDb c.root
theorem amE{c:Ch}(h:nCb c=true):UL c:=by
 unfold nCb at h;simp only[aQ]at h;exact⟨fun v hv=>RI ((dY.1 h.1) v hv),agi _ h.2⟩
def amF(c:Ch):Bool:=decide (qX c.vars+mO c.root<=8388608)
theorem ChR.off{d:Nat}{w:av}{F:aJ}{c:Ch}{vs:Sl}{cs:aI}(h:ChR true d w F c vs cs):ChR false d w F c vs cs:=⟨h.vars.off fun _ _ _ h=>h,LP h.root⟩
def spv(x:cN):aI:=[O U x.k,ab (T x.nm),O U x.pa,O U x.dp,O U x.en]
def pb:Rp cN:=fun _ _ x cs=>cs=spv x
theorem dk:pb.Ok:=⟨fun h _=>h,fun h=>h,fun h _=>h,fun h=>by
 unfold pb spv at h;subst h;intro v hv;simp only[aU,ba,bW]at hv;rcases hv with rfl | rfl | rfl | rfl | rfl<;>rfl⟩
abbrev iK(B:Nat)(w:av)(s:Sl)(xs:List cN):Prop:=Own pb 5 125 B w (fun _=>False) s xs
theorem iK.of{B:Nat}{w:av}{F:aJ}{s:Sl}{xs:List cN}(h:Own pb 5 125 B w F s xs):iK B w s xs:=by
 rcases h with⟨rfl,rfl⟩ | ⟨g,css,tail,h1,h2,h4,h5,h6,h7,h9,h8⟩
 ·exact .inl ⟨rfl,rfl⟩
 ·exact .inr ⟨g,css,tail,h1,h2,h4,h5,h6,h7,h9,fS.SZ (fun x c _ hc=>hc) h8⟩
theorem iK.yg{B:Nat}{w w':av}{G:aJ}{s:Sl}{xs:List cN}(h:iK B w s xs)(hO:aD G w w')(hG:∀k,B<=k->s.a=some ⟨k,0,none⟩->¬G k):iK B w' s xs:=
 h.keep dk fun k hk bS=>hO.block k bS (hk.elim (fun h=>h.elim) fun h=>hG k h.1 h.2)
theorem Yk(t:Bool):∀(D:Nat) {w:av} {F:aJ} {x:Nd} {cs:aI} {b:Nat} {s:Sl} {xs:List cN} {pa dp:Int},ol t D w F x cs->(∀k,F k->k<b)->aF w b 161 [s.v]->iK (b+1) w s xs->
  xs.length+iQ x<=1000000->0<=dp->dp+iQ x<=1000000->
  az aq 87 #[ae (some ⟨b,0,none⟩),ah cs.toArray,O U pa,O U dp] w fun e w'=>e=ak (ai #[])/\∃s',aF w' b 161 [s'.v]/\iK (b+1) w' s' (xs++yC xs.length pa dp x)/\ub b s w s' w'
 | 0,_,_,_,_,_,_,_,_,_,h,_,_,_,_,_,_=>h.elim
 | D+1,w,F,.mk bb ks,cs,b,s,xs,pa,dp,⟨en,lv,mv,kids,nP,_,gu⟩,hF,hB,hS,hn,h0,hd=>by
  have hk:=gu.1;clear gu;dsimp only[Nd.kids,Nd.b]at hk nP;subst nP;rw[iQ]at hn hd;have Tu:=hk.len;have hnn:=pW ks;refine ret (alx _ _ _ _ _ _ _ _ _ _ _ _ _ _ ?_);intro k0 w0 gu fe cD;have z0:=cD.size;have C4:=hB.lt;have cell:∀{u:av} {q:Sl},aF u b 161 [q.v]->aB u ((⟨b,0,none⟩:Addr).add 0) [q.v]:=fun h=>h.cells 0 [_] fun j v hj=>by rw[bO];exact hj
  have uD:=cD.blk hB (by simp);refine⟨s,cell uD,fun w1 cr=>⟨fun k=>k=b,rfl,s,cell (cr.blk uD (by simp)),?_⟩⟩;have o1:=cD.cf cr;have z1:=cr.size;have Fi:iK (b+1) w1 s xs:=hS.yg o1.p0 fun _ _ _ h=>h;have wD:=o1.blk hB (by simp);obtain⟨y,w2,k1,k3,s3,w3,g1,g2,⟨gs,g3,g4⟩,g5⟩:=jK (P:=aq) (t:=159) (ty:=159) (e:=125) (i:=Tryz.t125) (bytes:=48) (size:=5) (r:=pb) (G:=fun _=>False) (v:=ah #[O U bb.k,ab (T bb.nm),O U pa,O U dp,O U 0]) (x:=⟨bb.k,bb.nm,pa,dp,0⟩) (by kernel_rfl) (by kernel_rfl) rfl rfl rfl rfl (by decide) (by decide) (by decide) dk Fi (by omega) rfl rfl (fun _ h=>h.elim) (by omega);have z2:=k3.size;have z3:=g3.size;have gb:∀g,g∈gs->g≠b/\g<w1.heap.size/\s.a=some ⟨g,0,none⟩:=fun g hg=>⟨by have:=(g4 g hg).2.1;omega,(g4 g hg).2.2,(g4 g hg).1⟩
  have TU:s.a≠some ⟨k0,0,none⟩:=fun e=>by have:=(hS.blk e).2;dsimp only at this;omega
  have wO:aF w3 b 161 [s.v]:=g3.blk (k3.blk wD (by simp)) fun h=>(gb b h).1 rfl;refine⟨y,w2,k1,k3.same (by simp;omega),bP.only k3,s3,w3,g1,g3.same fun x hx=>?_,fun k hk bS=>?_,b,0,_,_,rfl,wO,aX 1,by omega,fun w4 dL uh=>?_⟩
  ·simp only[aN]at hx;subst hx;exact⟨by omega,fun h=>TU (gb _ h).2.2⟩
  ·subst hk;exact g3.block _ bS fun h=>(gb _ h).1 rfl
  have z4:=dL.size;have Fj:iK (b+1) w3 s3 (xs++[⟨bb.k,bb.nm,pa,dp,0⟩]):=iK.of g2;have TV:iK (b+1) w4 s3 (xs++[⟨bb.k,bb.nm,pa,dp,0⟩]):=Fj.yg (G:=fun k=>k=b) (dL.p (by simp)) fun k h _=>by omega
  have m4:ub b s w s3 w4:=by
   refine⟨((o1.cf k3).mL (g3.p (F:=fun k=>k=b∨s.a=some ⟨k,0,none⟩) fun g hg=>.inl (.inr (gb g hg).2.2))).trans (dL.p (F:=fun k=>k=b∨s.a=some ⟨k,0,none⟩) (by simp)) fun k hk=>.inl hk,fun k hk=>?_⟩;rcases g5 with e | ⟨g,e,h⟩
   ·exact .inl (by rw[<-e];exact hk)
   ·rw[e]at hk;injection hk with hk;injection hk with hk;exact .inr (by omega)
  have n4:∀k,s3.a=some ⟨k,0,none⟩->k≠k0:=fun k hk e=>by
   subst e;rcases g5 with e | ⟨g,e,h⟩
   ·exact TU (by rw[<-e];exact hk)
   ·rw[e]at hk;injection hk with hk;injection hk with hk;omega
  have iM:∀{u:av} {q:Sl},ub b s w q u->aA (ol t D) 9 u F kids ks:=fun hm=>SliceF.jV (cG t D) (by decide) hk hm.1 fun k uG _=>by
   have:=hF k uG;exact fun h=>h.elim (by omega) fun h=>by have:=(hS.blk h).1;dsimp only at this;omega
  refine⟨fun kv i w'=>∃(j:Nat) (q:Sl),i=(j:Int)/\kv+j=ks.length/\j<=ks.length/\aF w' b 161 [q.v]/\iK (b+1) w' q (xs++⟨bb.k,bb.nm,pa,dp,0⟩::pV (xs.length+1) xs.length (dp+1) (ks.take j))/\ub b s w q w'/\w4.heap.size<=w'.heap.size/\∀k,q.a=some ⟨k,0,none⟩->k≠k0,ks.length,⟨0,s3,rfl,by omega,bh _,uh,by rw[cM,pV];exact TV,m4,aX _,n4⟩,?_⟩;rintro kv _ w5 ⟨j,q,rfl,tY,j8,u7,Nt,m5,z5,n5⟩;have KA:s.n=xs.length:=hS.len;constructor
  ·intro hc;have hj:j<ks.length:=by have:=aO hc;omega
   obtain⟨y,hy⟩:∃y,ks[j]? =some y:=⟨_,aW hj⟩
   obtain⟨ad,y',ds,a1,a2,a3,a4,a5,a6⟩:=(iM m5).get (bA j) (by omega);rw[aY,hy]at a2;injection a2 with a2;subst a2;have US:=a6;obtain⟨D',rfl⟩:∃D',D=D'+1:=by
    cases D with
    | zero=>exact a6.elim
    | succ D'=>exact⟨D',rfl⟩
   obtain⟨vu,xH,rQ,kK,rfl,_⟩:=US;have lC:=nM hy;have hx1:(xs++⟨bb.k,bb.nm,pa,dp,0⟩::pV (xs.length+1) xs.length (dp+1) (ks.take j)).length=xs.length+1+dJ (ks.take j):=by
    rw[aP,bf,wc];omega
   refine⟨ad,a1,_,_,_,_,vu,xH,rQ,kK,_,a5,fun k6 w6 hk6 Xf eB=>?_⟩;have z6:=eB.size;have m6:ub b s w q w6:=m5.trans (ub.only eB);rw[fR (by omega) (by omega),KA];refine(Yk t (D'+1) (pa:=((xs.length:Nat):Int)) ((cG t (D'+1)).keep a6 fun k _ bS=>eB.block k bS (by simp)) (s:=q) (xs:=xs++⟨bb.k,bb.nm,pa,dp,0⟩::pV (xs.length+1) xs.length (dp+1) (ks.take j)) (b:=b) (dp:=dp+1) hF (eB.blk u7 (by simp)) (Nt.yg eB.p0 fun _ _ _ h=>h) (by rw[hx1];omega) (by omega) (by omega)).mono ?_;rintro _ w7 ⟨rfl,q7,hB7,hS7,m7⟩;have z7:=m7.1.size;refine⟨rfl,m7.1.same fun x hx=>?_,kv-1,by omega,j+1,q7,by rw[fR (by omega) (by omega)];rfl,by omega,by omega,hB7,?_,m6.trans m7,by omega,fun k hk e=>?_⟩
   ·simp only[aU,ba,bW]at hx;rcases hx with rfl | rfl
    ·exact⟨by omega,fun h=>h.elim (by omega) fun h=>n5 _ h rfl⟩
    ·refine⟨Xf,fun h=>h.elim (by omega) fun h=>?_⟩;have:=(Nt.blk h).2;dsimp only at this;omega
   ·have e:ks.take (j+1)=ks.take j++[y]:=by rw[bJ,hy];rfl
    rw[e,LU,pV,pV,bQ];rw[hx1,bH,bZ]at hS7;exact hS7
   ·subst e;rcases m7.2 _ hk with h | h
    ·exact n5 _ h rfl
    ·omega
  ·intro hc w8 fy;have qt:j=ks.length:=by have:=aR hc;omega
   subst qt;rw[bq (aX _)]at Nt;have vt:=fy.blk u7 (by simp);have hS8:iK (b+1) w8 q _:=Nt.yg fy.p0 fun _ _ _ h=>h;have z8:=fy.size;have hat:(xs++⟨bb.k,bb.nm,pa,dp,0⟩::pV (xs.length+1) xs.length (dp+1) ks)[xs.length]? =some ⟨bb.k,bb.nm,pa,dp,0⟩:=by
    rw[bT (aX _),oG];rfl
   obtain⟨g,cells,EY,p1,p2,p3,p4,p5,p6,p7⟩:=Own.SY dk hS8 hat;have ao8:EY=spv ⟨bb.k,bb.nm,pa,dp,0⟩:=p6;subst ao8;have hql:q.n=xs.length+1+dJ ks:=by rw[Nt.len,aP,bf,wc];omega
   obtain⟨p8,p9⟩:=p7 4 (O U (q.n:Int)) ⟨bb.k,bb.nm,pa,dp,(q.n:Int)⟩ (fun _=>False) (by decide) rfl fun _ h=>h.elim;rw[<-KA]at p2;have hgb:=(Nt.blk p1).1;dsimp only at hgb;refine⟨q,cell vt,q,cell vt,_,p2,g,xs.length*5+4,cells,_,by rw[fL,KA],p3,by rw[<-KA]at p8⊢;exact p8,fun e=>n5 g p1 e.symm,fun w9 fQ hB9=>⟨rfl,q,fQ.blk vt (by simp;omega),?_,?_⟩⟩
   ·have:=p9 w9 fQ hB9;rw[pw _ _ (aX _),oG,H4]at this;rw[yC];have e:(q.n:Int)=((xs.length+1+dJ ks:Nat):Int):=by rw[hql]
    rw[e]at this;exact this
   ·refine(m5.trans (ub.only fy)).trans ⟨fQ.p fun k hk=>?_,fun k hk=>.inl hk⟩;simp only[aN]at hk;subst hk;exact .inl (.inr p1)
theorem Wa{w:av}{F:aJ}{D:Nat}{c:Ch}{vs:Sl}{cs:aI}(hx:ChR false (D+1) w F c vs cs)(hn:UL c)(hs:qX c.vars+mO c.root<=8388608)(hE:Er w)(hT:Tb w):
  az aq 86 #[ah (vs.v::cs).toArray] w fun e w'=>e=ak (O U (gr c).2)/\ay [] w w':=by
 obtain⟨en,lv,mv,kids,rfl,_⟩:=hx.root;refine ret (alv _ _ _ _ _ _ _ _ _ _ _ _ ?_);intro k0 w0 gu fe cD;have hx0:ChR false (D+1) w0 F c vs (nE c.root.b.k c.root.b.nm c.root.b.ini c.root.b.dft en lv mv kids c.root.b.a):=⟨hx.vars.keep fA (by decide) fun k _ bS=>cD.block k bS (by simp),(cG false _).keep hx.root fun k _ bS=>cD.block k bS (by simp)⟩
 refine(V7 hx0 hn hs (hE.only cD) (hT.only cD)).mono ?_;rintro _ w1 ⟨rfl,cr⟩;exact⟨_,_,rfl,cr.same (by simp;omega),rfl,cD.cf cr⟩
theorem tL{c:Ch}(h:(gr c).2=0):iQ c.root<=64:=by
 unfold gr at h;by_cases h1:GV c=true
 ·unfold GV at h1;simp only[aQ]at h1;exact(aO h1.2).2.2.1
 ·rw[if_neg h1]at h;exact absurd h (by decide)
theorem RL{w:av}{F:aJ}{D:Nat}{c:Ch}{vs:Sl}{cs:aI}(hx:ChR false (D+1) w F c vs cs)(hn:UL c)(hs:qX c.vars+mO c.root<=8388608)(hE:Er w)(hT:Tb w):
  az aq 42 #[ah (vs.v::cs).toArray] w fun e w'=>(∃s,e=ak (ai #[Sl.v s,O U (gr c).2])/\((gr c).2=0->iK w.heap.size w' s (cF c))/\((gr c).2≠0->s=Sl.nil))/\ay [] w w':=by
 obtain⟨en,lv,mv,kids,nP,_⟩:=hx.root;subst nP;refine(alw vs c.root.b.k (T c.root.b.nm) (T c.root.b.ini) (T c.root.b.dft) en lv mv kids c.root.b.a (fun v w'=>(∃s,v=ai #[Sl.v s,O U (gr c).2]/\((gr c).2=0->iK w.heap.size w' s (cF c))/\((gr c).2≠0->s=Sl.nil))/\ay [] w w') w ?_).mono ?_
 ·intro k0 w0 gu fe cD;have z0:=cD.size;have keep:∀{u:av},ay [] w u->ChR false (D+1) u F c vs (nE c.root.b.k c.root.b.nm c.root.b.ini c.root.b.dft en lv mv kids c.root.b.a):=fun hO=>⟨hx.vars.keep fA (by decide) fun k _ bS=>hO.block k bS (by simp),(cG false _).keep hx.root fun k _ bS=>hO.block k bS (by simp)⟩
  refine(Wa (keep cD) hn hs (hE.only cD) (hT.only cD)).mono ?_;rintro _ w1 ⟨rfl,cr⟩;have z1:=cr.size;have o1:=cD.cf cr;refine⟨_,rfl,cr.same (by simp;omega),fun hc=>?_,fun hc k1 w2 j5 iX cR po=>?_⟩
  ·have hc:(gr c).2≠0:=by simpa using hc
   exact⟨⟨Sl.nil,rfl,fun h=>absurd h hc,fun _=>rfl⟩,o1⟩
  have hc:(gr c).2=0:=by simpa using hc
  have hnd:=tL hc;have o2:=o1.cf cR;have z2:=cR.size;have hr2:ol false (D+1) w2 (fun k=>k<w.heap.size) c.root (nE c.root.b.k c.root.b.nm c.root.b.ini c.root.b.dft en lv mv kids c.root.b.a):=
   (cG false _).keep ((cG false _).mono ((cG false _).inHeap hx.root) fun k hk=>hk.2) fun k _ bS=>o2.block k bS (by simp)
  refine(Yk false (D+1) (s:=Sl.nil) (xs:=[]) (pa:= -1) (dp:=0) hr2 (fun k hk=>by omega) po (Own.nil _ _ _ _ _ _) (by rw[cz];omega) (by decide) (by omega)).mono ?_;rintro _ w3 ⟨rfl,s',wO,Fj,m3⟩;have z3:=m3.1.size;refine⟨rfl,m3.1.same fun x hx=>?_,s',wO,⟨s',by rw[hc],fun _=>?_,fun h=>absurd hc h⟩,?_⟩
  ·simp only[aN]at hx;subst hx;exact⟨by omega,fun h=>h.elim (by omega) fun h=>by cases h⟩
  ·rw[ck]at Fj;exact Own.low Fj (by omega)
  ·exact(o2.mL m3.1).only fun k hk=>hk.elim (by omega) fun h=>by cases h
 ·rintro _ w' ⟨v,rfl,⟨s,rfl,h1,h2⟩,h3⟩;exact⟨⟨s,rfl,h1,h2⟩,h3⟩
section
variable {w:av} {F:aJ} {l:Sl} {xs:List cN}
theorem kH(h:aA pb 5 w F l xs){i:Nat}{x:cN}(hx:xs[i]? =some x):∃ad,cW l (i:Int) 5 ad/\aB w ad (spv x)/\aB w (ad.add 2) [O U x.pa]/\aB w (ad.add 3) [O U x.dp]/\aB w (ad.add 4) [O U x.en]:=by
 have bS:=(aV.1 hx).1;have hl:=h.len;obtain⟨ad,y,cs,g1,g2,g3,g4,g5,g6⟩:=h.get (bA i) (by omega);rw[aY,hx]at g2;injection g2 with g2;subst g2;have g6:cs=spv x:=g6;subst g6;have one:∀(n:Nat) (v:aw),(spv x)[n]? =some v->aB w (ad.add n) [v]:=fun n v hv j u hu=>by
  cases j with
  | zero=>
   rw[ci,aZ]at hu;subst hu;have:=g5 n v hv;rw[pB,dG];exact this
  | succ j=>simp at hu
 exact⟨ad,g1,g5,one 2 _ rfl,one 3 _ rfl,one 4 _ rfl⟩
def AJ(xs:List cN)(n:Int):Bool:=decide (n>=0)&&decide (n<(xs.length:Int))
theorem lk{n:Int}:AJ xs n=true↔wL xs n:=by
 unfold AJ wL;rw[aQ,cA,cA]
theorem Hb(h:aA pb 5 w F l xs)(n:Int):az aq 100 #[l.v,O U n] w fun e w'=>e=ak (aj (AJ xs n))/\w'=w:=by
 refine ret (alA _ _ _ _ ?_);rw[h.len];exact⟨rfl,rfl⟩
noncomputable def Od(xs:List cN)(b a:Int):Bool:=open Classical in decide (∃i j:Nat,b=i/\a=j/\qU xs i j)
theorem qb{b a:Int}:Od xs b a=true↔∃i j:Nat,b=i/\a=j/\qU xs i j:=by
 unfold Od;exact @cA _ (Classical.propDecidable _)
theorem Hc(h:aA pb 5 w F l xs)(hF:Fo xs)(b a:Int):az aq 92 #[l.v,O U b,O U a] w fun e w'=>e=ak (aj (Od xs b a))/\w'=w:=by
 refine ret (alB _ _ _ _ _ ?_);refine⟨fun r w'=>r=Od xs b a/\w'=w,fun r w' ⟨h1,h2⟩=>⟨by rw[h1],h2⟩,(Hb h a).mono ?_⟩;rintro _ _ ⟨rfl,rfl⟩;refine⟨_,rfl,fun ha=>(Hb h b).mono ?_,fun ha=>⟨?_,rfl⟩⟩
 ·rintro _ _ ⟨rfl,rfl⟩;have ha:=lk.1 ha;by_cases hb:(AJ xs b&&decide (b<=a))=true
  ·rw[aQ]at hb;have zh:=lk.1 hb.1;have ym:=aO hb.2;obtain⟨i,rfl⟩:∃i:Nat,b=i:=⟨b.toNat,by have:=zh.1;omega⟩
   obtain⟨j,rfl⟩:∃j:Nat,a=j:=⟨a.toNat,by have:=ha.1;omega⟩
   obtain⟨x,hx⟩:=gV (xs:=xs) (i:=i) (by have:=zh.2;omega);obtain⟨ad,g1,g2,_,_,g5⟩:=kH h hx;refine⟨_,rfl,ad,fun _=>g1,x.en,fun _=>g5,?_,rfl⟩;rw[hb.1,hb.2,cO,cO,bX,qb,cA];constructor
   ·exact fun h=>⟨i,j,rfl,rfl,x,hx,by omega,h⟩
   ·rintro⟨i',j',e1,e2,y,hy,h1,h2⟩;have e1:i=i':=by omega
    subst e1;rw[hx,aZ]at hy;subst hy;omega
  ·rw[qv]at hb;refine⟨_,rfl,⟨0,0,none⟩,fun h=>(by rw[hb]at h;cases h),0,fun h=>(by rw[hb]at h;cases h),?_,rfl⟩;rw[hb,dU,eq_comm,<-qv,qb];rintro⟨i,j,rfl,rfl,y,hy,h1,h2⟩;have:=fJ hy;rw[show AJ xs (i:Int)=true from lk.2 ⟨by omega,by omega⟩,show decide ((i:Int)<=(j:Int))=true from bL (by omega)]at hb;cases hb
 ·rw[eq_comm,<-qv,qb];rintro⟨i,j,rfl,rfl,hc⟩;have:=hF.Bd hc;rw[show AJ xs (j:Int)=true from lk.2 ⟨by omega,by omega⟩]at ha;cases ha
noncomputable def Jp(xs:List cN)(a b:Int):Bool:=open Classical in decide (∃i j:Nat,b=i/\a=j/\i<j/\qU xs i j)
theorem wq{a b:Int}:Jp xs a b=true↔∃i j:Nat,b=i/\a=j/\i<j/\qU xs i j:=by
 unfold Jp;exact @cA _ (Classical.propDecidable _)
theorem xp(h:aA pb 5 w F l xs)(hF:Fo xs)(a b:Int):az aq 51 #[l.v,O U a,O U b] w fun e w'=>e=ak (aj (Jp xs a b))/\w'=w:=by
 refine ret (alC _ _ _ _ _ ?_);refine⟨fun r w'=>r=Jp xs a b/\w'=w,fun r w' ⟨h1,h2⟩=>⟨by rw[h1],h2⟩,fun hc=>(Hc h hF b a).mono ?_,fun hc=>⟨?_,rfl⟩⟩
 ·rintro _ _ ⟨rfl,rfl⟩;have hc:a≠b:=by simpa using hc
  refine⟨_,rfl,?_,rfl⟩;rw[bX,qb,wq];refine⟨fun⟨i,j,e1,e2,BQ⟩=>⟨i,j,e1,e2,?_,BQ⟩,fun⟨i,j,e1,e2,_,BQ⟩=>⟨i,j,e1,e2,BQ⟩⟩;obtain⟨s,_,lC,_⟩:=BQ;omega
 ·have hc:a=b:=by simpa using hc
  subst hc;rw[eq_comm,<-qv,wq];rintro⟨i,j,e1,e2,hl,_⟩;omega
abbrev dc(B:Nat)(w:av)(s:Sl)(l:List Int):Prop:=Own fz 1 3 B w (fun _=>False) s l
theorem dc.of{B:Nat}{w:av}{F:aJ}{s:Sl}{l:List Int}(h:Own fz 1 3 B w F s l):dc B w s l:=by
 rcases h with⟨rfl,rfl⟩ | ⟨g,css,tail,h1,h2,h4,h5,h6,h7,h9,h8⟩
 ·exact .inl ⟨rfl,rfl⟩
 ·exact .inr ⟨g,css,tail,h1,h2,h4,h5,h6,h7,h9,fS.SZ (fun x c _ hc=>hc) h8⟩
theorem aaE(w0:av){u:av}{s:Sl}{is:List Int}(h:dc w0.heap.size u s is)(hO:ay [] w0 u)(n:Int)(hn:rS n)(hm:is.length<=20000000):
  ∃y w1,(au 32 1 #[.mk 0 (O U n)]).run aq u=.ok (Sl.v y) w1/\ay [] u w1/\∃s' w2,(Builtin.append_ #[32,32] 32 #[Sl.v s,Sl.v y]).run aq w1=.ok (Sl.v s') w2/\dc w0.heap.size w2 s' (is++[n])/\ay [] w0 w2/\aD (fun k=>w0.heap.size<=k) u w2:=by
 obtain⟨y,w1,k1,k3,s',w2,g1,g2,⟨gs,g3,g4⟩,g5⟩:=jK (P:=aq) (t:=32) (ty:=32) (e:=3) (i:=Tryz.t3) (bytes:=8) (size:=1) (r:=fz) (G:=fun _=>False) (v:=O U n) (x:=n) (by kernel_rfl) (by kernel_rfl) rfl rfl rfl rfl (by decide) (by decide) (by decide) bN h hO.size rfl ⟨rfl,hn⟩ (fun _ h=>h.elim) (by omega);refine⟨y,w1,k1,k3,s',w2,g1,dc.of g2,?_,k3.mL (g3.p fun g hg=>.inl (g4 g hg).2.1)⟩;exact((hO.cf k3).mL (g3.p (F:=fun k=>w0.heap.size<=k) fun g hg=>.inl (g4 g hg).2.1)).only fun k hk=>hk
theorem amG(h:aA pb 5 w F l xs)(hF:Fo xs)(n:Int)(hm:xs.length<=1000):az aq 96 #[l.v,O U n] w fun e w'=>(∃(s:Sl) (is:List Int),e=ak (Sl.v s)/\dc w.heap.size w' s is/\(¬wL xs n->is=[])/\∀(k:Nat) (x:cN),n=k->xs[k]? =some x->Ups xs x.pa is)/\ay [] w w':=by
 refine(aml l n (fun v w'=>(∃(s:Sl) (is:List Int),v=Sl.v s/\dc w.heap.size w' s is/\(¬wL xs n->is=[])/\∀(k:Nat) (x:cN),n=k->xs[k]? =some x->Ups xs x.pa is)/\ay [] w w') w ?_).mono ?_
 ·refine(Hb h n).mono ?_;rintro _ u ⟨rfl,hu⟩;obtain rfl:w=u:=hu.symm;refine⟨_,rfl,fun hc=>⟨⟨Sl.nil,[],rfl,Own.nil _ _ _ _ _ _,fun _=>rfl,fun k x e hx=>?_⟩,Only.refl _ _⟩,fun hc=>?_⟩
  ·subst e;have:=fJ hx;rw[show AJ xs (k:Int)=true from lk.2 ⟨by omega,by omega⟩]at hc;cases hc
  have hh:wL xs n:=lk.1 (by simpa using hc);obtain⟨k,rfl⟩:∃k:Nat,n=k:=⟨n.toNat,by have:=hh.1;omega⟩
  obtain⟨x,hx⟩:=gV (xs:=xs) (i:=k) (by have:=hh.2;omega);obtain⟨ad,a1,_,a3,_,_⟩:=kH h hx;have hp:=hF.uy hx;have Tu:=fJ hx;refine⟨ad,a1,x.pa,a3,fun kv i q w'=>∃is:List Int,(i<(kv:Int))/\is.length+kv<=xs.length+1/\dc w.heap.size w' q is/\(∀us,Ups xs i us->Ups xs x.pa (is++us))/\(i<0∨∃(j:Nat) (y:cN),i=(j:Int)/\xs[j]? =some y)/\ay [] w w',k+1,⟨[],by omega,by rw[cz];omega,Own.nil _ _ _ _ _ _,fun us hu=>hu,?_,Only.refl _ _⟩,?_⟩
  ·by_cases h0:0<k
   ·obtain⟨p,y,_,e,hy,_⟩:=hF.par hx h0;exact .inr ⟨p,y,e,hy⟩
   ·have:k=0:=by omega
    subst this;exact .inl (by rw[(hF.rt x hx).1];decide)
  rintro kv i q w1 ⟨is,hik,Bg,hS,hus,hj,hO⟩;refine⟨fun hc=>?_,fun hc=>?_⟩
  ·have hi0:0<=i:=aO hc;rcases hj with hj | ⟨j,y,rfl,hy⟩
   ·omega
   obtain⟨y1,w2,k1,k3,s',w3,g1,g2,g3,g4⟩:=aaE w hS hO j ⟨by omega,by omega⟩ (by omega);obtain⟨EZ,b1,_,b3,_,_⟩:=kH (SliceF.only dk (by decide) h g3 (by simp)) hy;have hpj:=hF.uy hy;refine⟨y1,w2,k1,s',w3,g1,EZ,b1,y.pa,b3,kv-1,by omega,is++[(j:Int)],by omega,by rw[aP,bG];omega,g2,fun us hu=>?_,?_,g3⟩
   ·rw[bH];exact hus _ (.go hy hu)
   ·by_cases h0:0<j
    ·obtain⟨p,y',_,e,hy',_⟩:=hF.par hy h0;exact .inr ⟨p,y',e,hy'⟩
    ·have:j=0:=by omega
     subst this;exact .inl (by rw[(hF.rt y hy).1];decide)
  ·have hi:i<0:=by have:=aR hc;omega
   refine⟨⟨q,is,rfl,hS,fun hn=>absurd hh hn,fun k' x' e Kv=>?_⟩,hO⟩;have e:k=k':=by omega
   subst e;rw[hx,aZ]at Kv;subst Kv;have:=hus [] (.stop hi);rwa[bQ]at this
 ·rintro _ w' ⟨v,rfl,⟨s,is,rfl,h1,h2,h3⟩,h4⟩;exact⟨⟨s,is,rfl,h1,h2,h3⟩,h4⟩
theorem aaF(h:aA pb 5 w F l xs)(hF:Fo xs){n:Nat}{x:cN}(hx:xs[n]? =some x)(hm:xs.length<=1000):az aq 65 #[l.v,O U (n:Int)] w fun e w'=>(∃(s:Sl),e=ak (Sl.v s)/\dc w.heap.size w' s (fT xs n xs.length))/\ay [] w w':=by
 refine(amd l n (fun v w'=>(∃(s:Sl),v=Sl.v s/\dc w.heap.size w' s (fT xs n xs.length))/\ay [] w w') w ?_).mono ?_
 ·refine(Hb h n).mono ?_;rintro _ u ⟨rfl,hu⟩;obtain rfl:w=u:=hu.symm;have PK:=fJ hx;have hb:AJ xs (n:Int)=true:=lk.2 ⟨by omega,by omega⟩;rw[hb];refine⟨_,rfl,fun hc=>(by cases hc),fun _=>?_⟩;have hup:=hF.up n x hx;have BU:∃e:Nat,x.en=e:=⟨x.en.toNat,by omega⟩
  obtain⟨e,he⟩:=BU;refine⟨fun kv q i w'=>∃k:Nat,i=(k:Int)/\n<k/\k<=e/\kv+k=xs.length/\dc w.heap.size w' q (fT xs n k)/\(∀(j:Nat) u,n<j->j<k->xs[j]? =some u->u.en<=(k:Int))/\ay [] w w',xs.length-(n+1),⟨n+1,by rw[fR (by omega) (by omega)];rfl,by omega,by omega,by omega,by rw[hF.amW hx];exact Own.nil _ _ _ _ _ _,fun j u h1 h2=>by omega,Only.refl _ _⟩,?_⟩;rintro kv q _ w1 ⟨k,rfl,PJ,hke,tY,hS,hbn,hO⟩;obtain⟨ad,a1,_,_,_,a5⟩:=kH (SliceF.only dk (by decide) h hO (by simp)) hx;refine⟨ad,a1,x.en,a5,fun hc=>?_,fun hc=>?_⟩
  ·have hc:=aO hc;obtain⟨y,hy⟩:=gV (xs:=xs) (i:=k) (by omega);have fi:(fT xs n k).length<=k:=by
    unfold fT;rw[bm];exact bp (da _ _) (by rw[gZ];exact aX _)
   obtain⟨y1,w2,k1,k3,s',w3,g1,g2,g3,g4⟩:=aaE w hS hO k ⟨by omega,by omega⟩ (by omega);obtain⟨EZ,b1,_,_,_,b5⟩:=kH (SliceF.only dk (by decide) h g3 (by simp)) hy;have hyu:=hF.up k y hy;have hye:=hF.lam k hx hy PJ hc;obtain⟨m,Tz⟩:∃m:Nat,y.en=m:=⟨y.en.toNat,by omega⟩
   refine⟨y1,w2,k1,s',w3,g1,EZ,b1,y.en,b5,kv-(m-k),by omega,m,Tz,by omega,by omega,by omega,?_,hF.S6 hy Tz hbn,g3⟩;rw[hF.S7 hx hy PJ hc Tz hbn];exact g2
  ·have hc:=aR hc;have:k=e:=by omega
   subst this;exact⟨⟨q,rfl,by rw[hF.WG hx he];exact hS⟩,hO⟩
 ·rintro _ w' ⟨v,rfl,⟨s,rfl,h1⟩,h4⟩;exact⟨⟨s,rfl,h1⟩,h4⟩
end
section
variable {w:av} {F G:aJ} {l sN:Sl} {xs:List cN} {ns:List Int}
theorem Wb{k0:Nat}(h:aA pb 5 w F l xs)(hB:aF w k0 52 [l.v])(n:Int):az aq 178 #[O U n,ae (some ⟨k0,0,none⟩)] w fun e w'=>e=ak (aj (!AJ xs n))/\w'=w:=by
 refine ret (alz _ _ _ _ ?_);refine⟨l,hB.cells 0 [_] fun j v hj=>(by rw[bO];exact hj),(Hb h n).mono ?_⟩;rintro _ _ ⟨rfl,rfl⟩;exact⟨_,rfl,rfl,rfl⟩
theorem RM{k0:Nat}(h:aA pb 5 w F l xs)(hB:aF w k0 52 [l.v])(hN:aA fz 1 w G sN ns):az aq 91 #[sN.v,.func (.func 178) #[] #[ae (some ⟨k0,0,none⟩)]] w fun e w'=>(∃i:Int,e=ak (O U i)/\(i>=0↔∃n,n∈ns/\¬wL xs n))/\w'=w:=by
 refine(QL sN ⟨.func (.func 178) #[] #[ae (some ⟨k0,0,none⟩)],rfl⟩ (fun v w'=>(∃i:Int,v=O U i/\(i>=0↔∃n,n∈ns/\¬wL xs n))/\w'=w) w ?_).mono ?_
 ·have hl:=hN.len;have OT:=hN.cap;have yi:=hN.big;refine⟨fun kv i w'=>∃j:Nat,i=(j:Int)/\kv+j=ns.length/\j<=ns.length/\(∀n,n∈ns.take j->wL xs n)/\w'=w,ns.length,⟨0,rfl,by omega,bh _,fun n hn=>by simp at hn,rfl⟩,?_⟩;rintro kv _ u ⟨j,rfl,tY,hj,hh,hu⟩;obtain rfl:w=u:=hu.symm;refine⟨fun hc=>?_,fun hc=>⟨⟨-1,rfl,fun h=>absurd h (by decide),fun⟨n,hn,hb⟩=>absurd (hh n ?_) hb⟩,rfl⟩⟩
  ·have hc:=aO hc;obtain⟨ad,y,cs,g1,g2,g3,g4,g5,g6⟩:=hN.get (bA j) (by omega);rw[aY]at g2;obtain⟨rfl,hy⟩:=g6;refine⟨ad,g1,y,g5,178,[],[ae (some ⟨k0,0,none⟩)],rfl,fu (by kernel_rfl),(Wb h hB y).mono ?_⟩;rintro _ u ⟨rfl,hu⟩;obtain rfl:w=u:=hu.symm;refine⟨_,rfl,fun hb=>⟨⟨j,rfl,fun _=>⟨y,bF g2,fun hh'=>?_⟩,fun _=>by omega⟩,rfl⟩,fun hb=>⟨kv-1,by omega,j+1,by rw[fR (by omega) (by omega)];rfl,by omega,by omega,fun n hn=>?_,rfl⟩⟩
   ·rw[lk.2 hh']at hb;cases hb
   ·rw[bJ,g2,bR]at hn;rcases hn with hn | hn
    ·exact hh n hn
    ·simp only[Option.toList,aN]at hn;subst hn;exact lk.1 (by simpa using hb)
  ·have hc:=aR hc;rwa[bq (by omega)]
 ·rintro _ w' ⟨v,rfl,⟨i,rfl,h1⟩,h2⟩;exact⟨⟨i,rfl,h1⟩,h2⟩
def agj(xs:List cN)(ns:List Int):Prop:=ns=[]∨∃n,n∈ns/\¬wL xs n
theorem RN(h:aA pb 5 w F l xs)(hF:Fo xs)(hN:aA fz 1 w G sN ns):az aq 130 #[l.v,sN.v] w fun e w'=>(∃r:Int,e=ak (O U r)/\Mt xs ns r)/\ay [] w w':=by
 refine(aly l sN (fun v w'=>(∃r:Int,v=O U r/\Mt xs ns r)/\ay [] w w') w ?_).mono ?_
 ·intro k0 w0 gu fe cD;have hl:=hN.len;have OT:=hN.cap;have yi:=hN.big;have yH:=h.len;have kL:∀{u:av},ay [] w u->aA pb 5 u F l xs:=fun hO=>SliceF.only dk (by decide) h hO (by simp);have kN:∀{u:av},ay [] w u->aA fz 1 u G sN ns:=fun hO=>SliceF.only bN (by decide) hN hO (by simp);refine⟨fun b q u=>(b=true↔agj xs ns)/\l=q/\ay [] w u,?_,fun hc=>?_,fun hc hB=>?_⟩
  ·rintro b _ u ⟨hb,rfl,hO⟩;refine⟨fun OX=>⟨⟨-1,rfl,.inl ⟨hb.1 OX,rfl⟩⟩,hO⟩,fun hbf=>?_⟩;have hg:¬agj xs ns:=fun hh=>by rw[hb.2 hh]at hbf;cases hbf
   have ik:ns≠[]:=fun e=>hg (.inl e);have hh:∀n,n∈ns->wL xs n:=fun n hn=>gq fun hx=>hg (.inr ⟨n,hn,hx⟩);have hlp:0<ns.length:=jH.2 ik;obtain⟨ad,n0,cs,g1,g2,g3,g4,g5,g6⟩:=(kN hO).get (i:=0) (by omega) (by omega);obtain⟨rfl,_⟩:=g6;have g2:ns[0]? =some n0:=g2;have hn0:=hh n0 (bF g2);obtain⟨m0,rfl⟩:∃m:Nat,n0=m:=⟨n0.toNat,by have:=hn0.1;omega⟩
   have ht1:ns.take 1=[(m0:Int)]:=by
    cases ns with
    | nil=>exact absurd rfl ik
    | cons a ns=>
     rw[ci,aZ]at g2;subst g2;rfl
   refine⟨ad,g1,_,g5,⟨by omega,OT⟩,fun kv i1 i2 q u=>∃m j:Nat,i1=(m:Int)/\i2=(j:Int)/\kv+j=ns.length-1/\j<=ns.length-1/\l=q/\ay [] w u/\Top xs (ns.take (j+1)) m,ns.length-1,⟨m0,0,rfl,rfl,by omega,by omega,rfl,hO,?_⟩,?_⟩
   ·rw[ht1];refine⟨m0,rfl,fun n hn=>?_,fun j hj=>?_⟩
    ·simp only[aN]at hn;subst hn;exact⟨m0,rfl,hF.wC (by have:=hn0.2;omega)⟩
    ·obtain⟨k,e,s,_,lC,_⟩:=hj m0 (by simp);omega
   rintro kv _ _ _ u1 ⟨m,j,rfl,rfl,tY,hj,rfl,cr,TW⟩;have S9:=SliceF.cut (kN cr) (lo:=1) (hi:=sN.n) (m:=sN.c) (by omega) OT (aX _) (aX _);have mT:(sN.cut 1 sN.n sN.c 1).n=ns.length-1:=by
    rw[S9.len,cT,cH];omega
   refine⟨fun hc=>?_,fun hc=>?_⟩
   ·have hc:=aO hc;obtain⟨ad1,n3,cs,p1,p2,p3,p4,p5,p6⟩:=S9.get (bA j) (by omega);obtain⟨rfl,_⟩:=p6;rw[aY,List.getElem?_take_of_lt (by omega),kg]at p2;have p2:ns[j+1]? =some n3:=by rw[<-p2];congr 1;omega
    have hn3:=hh n3 (bF p2);obtain⟨t,rfl⟩:∃m:Nat,n3=m:=⟨n3.toNat,by have:=hn3.1;omega⟩
    have nt:ns.take (j+1+1)=ns.take (j+1)++[(t:Int)]:=by rw[bJ,p2];rfl
    obtain⟨m',em,t1,t2⟩:=TW;have em:m=m':=by omega
    subst em;refine⟨ad1,p1,_,p5,fun kv' i4 q u=>∃m:Nat,i4=(m:Int)/\m=kv'/\l=q/\ay [] w u/\(∀n,n∈ns.take (j+1)->∃k:Nat,n=k/\qU xs m k)/\∀j':Nat,(∀n,n∈ns.take (j+1+1)->∃k:Nat,n=k/\qU xs j' k)->j'<=m,m,⟨m,rfl,rfl,rfl,cr,t1,fun j' OA=>t2 j' fun n hn=>OA n ?_⟩,?_⟩
    ·rw[nt];exact BZ _ hn
    rintro kv' _ _ u2 ⟨m2,rfl,rfl,rfl,cR,q1,q2⟩;refine(Hc (kL cR) hF m2 t).mono ?_;rintro _ u3 ⟨rfl,hu⟩;obtain rfl:u2=u3:=hu.symm;refine⟨_,rfl,bU.refl _ _,fun Xg=>?_,fun Xg=>?_⟩
    ·have Xg:¬∃i j:Nat,(m2:Int)=i/\(t:Int)=j/\qU xs i j:=fun e=>by rw[qb.2 e]at Xg;cases Xg
     have BR:t<xs.length:=by have:=hn3.2;omega
     have Nj:0<m2:=H6 fun e=>Xg ⟨0,t,by omega,rfl,hF.S5 BR⟩;have TX:(m0:Int)∈ns.take (j+1):=by
      rw[List.mem_iff_getElem?];exact⟨0,by rw[List.getElem?_take_of_lt (by omega)];exact g2⟩
     have apa:m2<xs.length:=by
      obtain⟨k,_,s,e,_⟩:=q1 _ TX;exact fJ e
     obtain⟨y,hy⟩:=gV apa;obtain⟨p,s,r1,r2,r3,r4,r5,r6⟩:=hF.par hy Nj;obtain⟨ve,b1,_,b3,_,_⟩:=kH (kL cR) hy;have cpm:qU xs p m2:=⟨s,r3,by omega,r5⟩
     refine⟨ve,b1,y.pa,b3,p,r1,p,r2,rfl,rfl,cR,fun n hn=>?_,fun j' OA=>?_⟩
     ·obtain⟨k,e,hk⟩:=q1 n hn;exact⟨k,e,hF.EW cpm hk⟩
     ·have lC:=q2 j' OA;have Xh:j'≠m2:=fun e=>by
       subst e;obtain⟨k,e,hk⟩:=OA t (by rw[nt];simp);exact Xg ⟨j',k,rfl,e,hk⟩
      obtain⟨k,e,hk⟩:=OA m0 (by rw[nt];exact BZ _ TX);obtain⟨k',e',iM⟩:=q1 m0 TX;have:k=k':=by omega
      subst this;obtain⟨s',v1,v2,v3⟩:=hF.EX hk iM lC;exact r6 j' s' v1 (by omega) v3
    ·have Xg:Od xs m2 t=true:=by simpa using Xg
     obtain⟨i',t',e1,e2,hct⟩:=qb.1 Xg;have e1:m2=i':=by omega
     have e2:t=t':=by omega
     subst e1 e2;refine⟨kv-1,by omega,m2,j+1,rfl,by rw[fR (by omega) (by omega)];rfl,by omega,by omega,rfl,cR,m2,rfl,fun n hn=>?_,q2⟩;rw[nt,bR]at hn;rcases hn with hn | hn
     ·exact q1 n hn
     ·simp only[aN]at hn;subst hn;exact⟨t,rfl,hct⟩
   ·have hc:=aR hc;rw[bq (by omega)]at TW;exact⟨⟨m,rfl,.inr ⟨⟨ik,hh⟩,TW⟩⟩,cr⟩
  ·have hc:(sN.n:Int)=0:=by simpa using hc
   exact⟨⟨fun _=>.inl (cb (by omega)),fun _=>rfl⟩,rfl,cD⟩
  ·have hc:¬(sN.n:Int)=0:=by simpa using hc
   refine(QJ sN ⟨.func (.func 178) #[] #[ae (some ⟨k0,0,none⟩)],rfl⟩ (fun v w'=>(∃b:Bool,v=aj b/\(b=true↔∃n,n∈ns/\¬wL xs n))/\w'=w0) w0 ?_).mono ?_
   ·refine(RM (kL cD) hB (kN cD)).mono ?_;rintro _ u ⟨⟨i,rfl,hi⟩,hu⟩;obtain rfl:w0=u:=hu.symm;exact⟨i,rfl,⟨_,rfl,by rw[cA];exact hi⟩,rfl⟩
   ·rintro _ u ⟨v,rfl,⟨b,rfl,hb⟩,hu⟩;obtain rfl:w0=u:=hu.symm;refine⟨b,rfl,l,hB,⟨fun h=>.inr (hb.1 h),fun h=>?_⟩,rfl,cD⟩;rcases h with h | h
    ·subst h;exact absurd (by rw[hl];rfl) hc
    ·exact hb.2 h
 ·rintro _ w' ⟨v,rfl,⟨r,rfl,h1⟩,h2⟩;exact⟨⟨r,rfl,h1⟩,h2⟩
end
end Go.Proofs.YtbkjcdocjfknfaaGreatDoor.Con
namespace Go.Kt
open Go renaming World->av,Value->aw
open Go Go.RowKit Go.MapKept
set_option linter.unusedSimpArgs false
set_option linter.unusedVariables false
structure Xi {κ:Type} (d:TypeDesc) (kv:κ->aw) (g:κ->Prop):Prop where
 is:∀k,IsKey d (kv k)
 inj:∀{k l},kv k=kv l->k=l
structure MapV {κ:Type} (kv:κ->aw) (g:κ->Prop) (w:av) (r:Nat) (m:κ->Option aw) (n:Nat):Prop where
 mem:∃es clock,w.heap[r]? =some (.map es clock)/\Stamped es clock/\es.size<=n/\(∀x,x∈es.toList->∃k,x.key=kv k/\g k)/\
  ∀k v,m k=some v↔∃x,x∈es.toList/\x.key=kv k/\x.val=v
section
variable {κ:Type} {d:TypeDesc} {kv:κ->aw} {g:κ->Prop} {P:Program} {w w':av} {r n:Nat} {m:κ->Option aw} {mty kt et:TypeId}
theorem MapV.keep(h:MapV kv g w r m n)(hk:w'.heap[r]? =w.heap[r]?):MapV kv g w' r m n:=by
 obtain⟨es,c,h1,h2⟩:=h.mem;exact⟨es,c,hk.trans h1,h2⟩
theorem MapV.le(h:MapV kv g w r m n){n'}(hn:n<=n'):MapV kv g w r m n':=by
 obtain⟨es,c,h1,h2,h3,h4⟩:=h.mem;exact⟨es,c,h1,h2,bp h3 hn,h4⟩
theorem MapV.lt(h:MapV kv g w r m n):r<w.heap.size:=by
 obtain⟨es,c,h1,h2⟩:=h.mem;exact(ly.1 h1).1
theorem MapV.only(h:MapV kv g w r m n){bs}(hO:Only bs w w')(hn:r∉bs):MapV kv g w' r m n:=h.keep (hO.block r h.lt hn)
theorem MapV.ext(h:MapV kv g w r m n){m'}(he:∀k,m' k=m k):MapV kv g w r m' n:=by
 obtain⟨es,c,h1,h2,h3,h4,h5⟩:=h.mem;exact⟨es,c,h1,h2,h3,h4,fun k v=>by rw[he,h5]⟩
theorem MapV.make w:(Instr.makeMap mty none).run P w=.ok (.map (some w.heap.size)) (w.alloc (.map #[] 0))/\MapV kv g (w.alloc (.map #[] 0)) w.heap.size (fun _=>none) 0/\Only [] w (w.alloc (.map #[] 0)):=
 ⟨rfl,⟨#[],0,heap_alloc_new w _,stamped_empty 0,by simp,by simp,by simp⟩,Only.alloc _ _⟩
theorem Yl(K:Xi d kv g){es:Array MapEntry}(h:∀x,x∈es.toList->∃k,x.key=kv k/\g k):∀x∈es.toList,IsKey d x.key:=fun x hx=>by
 obtain⟨k,e,_⟩:=h x hx;rw[e];exact K.is k
variable [DecidableEq κ]
theorem MapV.update(K:Xi d kv g)(hm:P.underlying mty=some (.map kt et))(hd:P.underlying kt=some d)(h:MapV kv g w r m n){k}(hg:g k) v:
  ∃w',(Instr.mapUpdate mty (.map (some r)) (kv k) v).run P w=.ok () w'/\MapV kv g w' r (fun x=>if x=k then some v else m x) (if m k=none then n+1 else n)/\Only [r] w w':=by
 obtain⟨es,c,h1,h0,hn,h2,h4⟩:=h.mem;have fin:∀{es':Array MapEntry} {c' n':Nat},Stamped es' c'->es'.size<=n'->(∀x,x∈es'.toList->∃k,x.key=kv k/\g k)->
   (∀k' v',(∃x,x∈es'.toList/\x.key=kv k'/\x.val=v')↔(k'=k/\v'=v)∨(k'≠k/\m k'=some v'))->∀w',w'.heap[r]? =some (.map es' c')->MapV kv g w' r (fun x=>if x=k then some v else m x) n':=by
  intro es' c' n' e0 en e1 e3 w' hw;refine⟨es',c',hw,e0,en,e1,fun k' v'=>?_⟩;rw[e3];by_cases Fe:k'=k
  ·simp[Fe,if_true,aZ,true_and,ne_eq,not_true_eq_false,false_and,bW];exact⟨fun h=>h.symm,fun h=>h.symm⟩
  ·simp[if_neg Fe,Fe,false_and,false_or,ne_eq,not_false_eq_true,true_and,jQ]
 rcases findNow_spec (K.is k) es.toList 0 (Yl K h2)with⟨g1,g2⟩ | ⟨j,e,g1,g2,g3⟩
 ·have hmk:m k=none:=by
   cases hq:m k with
   | none=>rfl
   | some v=>
    obtain⟨x,hx,hk,_⟩:=(h4 k v).1 hq;exact absurd hk (g2 x hx)
  rw[if_pos hmk];refine⟨{w with heap:=w.heap.setIfInBounds r (.map (es.push {key:=kv k,val:=v,born:=c}) _)},?_,fin (stamped_push h0 g2) (by simp;omega) ?_ ?_ _ (heap_set h1).1,FQ h1⟩
  ·simp[Instr.mapUpdate,run_underlying hm,MapKept.run_getObj_map h1,MapKept.run_checkKey hd (K.is k),MapKept.run_findKey hd g1,MapKept.run_setObj_map _ h1,Result.andThen]
  ·intro x hx;simp only[Array.toList_push,bR,aN]at hx;rcases hx with hx | rfl
   ·exact h2 x hx
   ·exact⟨k,rfl,hg⟩
  ·intro k' v';simp only[Array.toList_push,bR,aN];constructor
   ·rintro⟨x,hx | rfl,e1,e2⟩
    ·exact .inr ⟨fun h=>g2 x hx (by rw[e1,h]),(h4 k' v').2 ⟨x,hx,e1,e2⟩⟩
    ·exact .inl ⟨(K.inj e1).symm,e2.symm⟩
   ·rintro(⟨rfl,rfl⟩ | ⟨hn,h⟩)
    ·exact⟨_,.inr rfl,rfl,rfl⟩
    ·obtain⟨x,hx,e1,e2⟩:=(h4 k' v').1 h;exact⟨x,.inl hx,e1,e2⟩
 ·have hj:=by simpa using g2
  have j8:=(aV.1 g2).1;have hmk:m k≠none:=by rw[(h4 k e.val).2 ⟨e,bF g2,g3,rfl⟩];simp
  rw[if_neg hmk];refine⟨{w with heap:=w.heap.setIfInBounds r _},?_,
   fin (stamped_modify h0 j (fun e=>{e with key:=kv k,val:=v}) (fun _ _=>rfl) (fun e' _ he=>by rw[hj]at he;injection he with he;rw[<-he];exact g3.symm)) (by simpa using hn) ?_ ?_ _ (heap_set h1).1,FQ h1⟩
  ·simp[Instr.mapUpdate,run_underlying hm,MapKept.run_getObj_map h1,MapKept.run_checkKey hd (K.is k),MapKept.run_findKey hd g1,hj,g3,MapKept.run_keyThatStays (K.is k),MapKept.run_setObj_map _ h1,Result.andThen]
  all_goals rw[Array.toList_modify,IR g2]
  ·intro x hx;rcases vg hx with hx | rfl
   ·exact h2 x hx
   ·exact⟨k,rfl,hg⟩
  ·intro k' v';constructor
   ·rintro⟨x,hx,e1,e2⟩;obtain⟨i,hi⟩:=eT hx;rw[vA]at hi;split at hi
    ·injection hi with hi;rw[<-hi]at e1 e2;exact .inl ⟨(K.inj e1).symm,e2.symm⟩
    ·rename_i tW;by_cases Fe:k'=k
     ·have Bg:=(aV.1 hi).1;have ik:=dX.1 ((stamped_iff _ _).1 h0).2.2;have ex:=(aV.1 hi).2;have ee:=(aV.1 g2).2;exfalso;rcases Nat.lt_or_gt_of_ne tW with bS | hgt
      ·exact ik j i j8 Bg bS (by rw[ee,ex,g3,e1,Fe])
      ·exact ik i j Bg j8 hgt (by rw[ee,ex,g3,e1,Fe])
     ·exact .inr ⟨Fe,(h4 k' v').2 ⟨x,bF hi,e1,e2⟩⟩
   ·rintro(⟨rfl,rfl⟩ | ⟨hn,h⟩)
    ·exact⟨_,List.mem_set j8 _,rfl,rfl⟩
    ·obtain⟨x,hx,e1,e2⟩:=(h4 k' v').1 h;obtain⟨i,hi⟩:=eT hx;refine⟨x,bF (i:=i) ?_,e1,e2⟩;rw[BX]
     ·exact hi
     ·rintro rfl;rw[g2]at hi;injection hi with hi;rw[<-hi,g3]at e1;exact hn (K.inj e1).symm
end
abbrev kS(s:List UInt8):aw:=.string ⟨s.toArray⟩
abbrev gS(s:List UInt8):Prop:=s.length<=maxLen
theorem agk:Xi .string kS gS:=⟨fun _=>trivial,fun h=>by simpa using h⟩
abbrev kN(k:Int):aw:=.int .i64 k
section
variable {κ:Type} {d:TypeDesc} {kv:κ->aw} {g:κ->Prop} {P:Program} {w w':av} {r n:Nat} {m:κ->Option aw} {mty kt et:TypeId}
theorem MapV.WI(K:Xi d kv g)(hm:P.underlying mty=some (.map kt et))(hd:P.underlying kt=some d){z:aw}(hz:∀w,(zeroValue et).run P w=.ok z w)(h:MapV kv g w r m n)(k:κ):
  (Instr.lookup mty (.map (some r)) (kv k) true).run P w=.ok (.tuple #[(m k).getD z,.bool (m k).isSome]) w:=by
 obtain⟨es,c,h1,h0,hn,h2,h4⟩:=h.mem;rcases findNow_spec (K.is k) es.toList 0 (Yl K h2)with⟨g1,g2⟩ | ⟨j,e,g1,g2,g3⟩
 ·have hn:m k=none:=by
   cases hmk:m k with
   | none=>rfl
   | some v=>
    obtain⟨x,hx,hk,_⟩:=(h4 k v).1 hmk;exact absurd hk (g2 x hx)
  simp[Instr.lookup,run_underlying hm,MapKept.run_getObj_map h1,MapKept.run_checkKey hd (K.is k),MapKept.run_findKey hd g1,Result.andThen,hz,hn]
 ·have he:=bF g2;have hmk:m k=some e.val:=(h4 k e.val).2 ⟨e,he,g3,rfl⟩;simp[Instr.lookup,run_underlying hm,MapKept.run_getObj_map h1,MapKept.run_checkKey hd (K.is k),MapKept.run_findKey hd g1,Result.andThen,hmk]
end
end Go.Kt
namespace Go.Proofs.YtbkjcdocjfknfaaGreatDoor.Con
open Go.Value renaming int->O,string->ab,pointer->ae,agg->ah,tuple->ai,bool->aj
open Go.IntKind renaming i64->U,wrap->ar
open Go.Ending renaming returned->ak
open _root_.ByteArray renaming mk->ao
open _root_.Go.Proofs.Tryz renaming prog->aq
open Go.Instr renaming buildSlice->au
open Go renaming World->av,Value->aw,Calls->az
open Go.Kt renaming Only->ay,SliceF->aA,Cells->aB,OnlyP->aD,Blk->aF
open Go Go.RowKit Go.Kt Go.Kt.V Go.Proofs.YtbkjcdocjfknfaaGreatDoor.Vc
set_option linter.unusedSimpArgs false
set_option linter.unusedVariables false
set_option maxHeartbeats 800000
set_option maxRecDepth 100000
def mI(l:List (aH)):aH->Option aw:=fun k=>if uv k l<l.length then some (.int U (uv k l:Nat))else none
theorem Mx(l:List (aH))(x k:aH):mI (l++[x]) k=if x∈l then mI l k else if k=x then some (.int U (l.length:Nat))else mI l k:=by
 unfold mI;rw[aP,bG];by_cases hk:k∈l
 ·have h1:=nG.2 hk;rw[L3 [x] hk,if_pos (by omega),if_pos h1];by_cases hx:x∈l
  ·rw[if_pos hx]
  ·rw[if_neg hx,if_neg fun e=>hx (by rw[<-e];exact hk)]
 ·have h1:¬uv k l<l.length:=fun h=>hk (nG.1 h);rw[if_neg h1];by_cases e:k=x
  ·subst e;rw[if_neg hk,if_pos rfl,Eb [] hk,if_pos (by omega)]
  ·have:¬uv k (l++[x])<(l++[x]).length:=fun h=>by
    have:=nG.1 h;rw[bR,aN]at this;exact this.elim hk e
   rw[aP,bG]at this;rw[if_neg this,if_neg e];split<;>rfl
theorem Wc(l:List (aH))(k:aH):(mI l k).isSome=decide (k∈l):=by
 unfold mI;by_cases hk:k∈l
 ·rw[if_pos (nG.2 hk),bL hk];rfl
 ·rw[if_neg fun h=>hk (nG.1 h),bC hk];rfl
abbrev Uk(w:av)(r:Nat)(l:List (aH)):Prop:=MapV kS gS w r (mI l) l.length
theorem Uk.at{w:av}{r:Nat}{l:List (aH)}(h:Uk w r l)(k:aH):(Instr.lookup 153 (.map (some r)) (ab (T k)) true).run aq w=.ok (ai #[O U (if uv k l<l.length then(uv k l:Nat)else 0:Int),aj (decide (k∈l))]) w:=by
 have:=h.WI (P:=aq) (mty:=153) (kt:=9) (et:=3) (z:=O U 0) agk (by kernel_rfl) (by kernel_rfl) (fun w=>Tryz.zeroValue3 w) k;rw[Wc]at this;rw[this];unfold mI;split<;>rfl
theorem Uk.add{w:av}{r:Nat}{l:List (aH)}(h:Uk w r l){x:aH}(hx:gS x)(hn:x∉l):
  ∃w',(Instr.mapUpdate 153 (.map (some r)) (ab (T x)) (O U (l.length:Nat))).run aq w=.ok () w'/\Uk w' r (l++[x])/\ay [r] w w':=by
 obtain⟨w',h1,h2,h3⟩:=h.update (P:=aq) (mty:=153) (kt:=9) (et:=3) agk (by kernel_rfl) (by kernel_rfl) hx (O U (l.length:Nat));refine⟨w',h1,(h2.ext fun k=>?_).le ?_,h3⟩
 ·rw[Mx,if_neg hn]
 ·rw[aP,bG];split<;>omega
theorem Uk.has{w:av}{r:Nat}{l:List (aH)}(h:Uk w r l){x:aH}(hx:x∈l):Uk w r (l++[x]):=by
 refine(h.ext fun k=>?_).le (by rw[aP];omega);rw[Mx,if_pos hx]
structure Lo (w:av) (b m0 m1:Nat) (s:Sl) (nn vn:List (aH)) (f:Ft):Prop where
 blk:aF w b 155 [.map (some m0),s.v,.map (some m1),O U f.1,O U f.2]
 nm:Uk w m0 nn
 vr:Uk w m1 vn
 n0:m0<m1
 n1:m1<b
section
variable {w w':av} {b m0 m1:Nat} {s:Sl} {nn vn:List (aH)} {f:Ft}
theorem Lo.only(h:Lo w b m0 m1 s nn vn f){bs:List Nat}(hO:ay bs w w')(h0:b∉bs)(h1:m0∉bs)(h2:m1∉bs):Lo w' b m0 m1 s nn vn f:=⟨hO.blk h.blk h0,h.nm.only hO h1,h.vr.only hO h2,h.n0,h.n1⟩
theorem Lo.o0(h:Lo w b m0 m1 s nn vn f)(hO:ay [] w w'):Lo w' b m0 m1 s nn vn f:=h.only hO (by simp) (by simp) (by simp)
theorem Lo.nI(h:Lo w b m0 m1 s nn vn f)(hO:ay [b] w w'){s':Sl}{f':Ft}(hB:aF w' b 155 [.map (some m0),s'.v,.map (some m1),O U f'.1,O U f'.2]):Lo w' b m0 m1 s' nn vn f':=
 ⟨hB,h.nm.only hO (by have:=h.n0;have:=h.n1;simp;omega),h.vr.only hO (by have:=h.n1;simp;omega),h.n0,h.n1⟩
theorem Lo.lt(h:Lo w b m0 m1 s nn vn f):b<w.heap.size:=h.blk.lt
theorem yW(w:av)(k:Int):az aq 162 #[O U k] w fun e w'=>e=ak (aj (lg k))/\w'=w:=by
 refine ret (alJ _ _ _ ?_);refine⟨?_,rfl⟩;unfold lg;rw[show((k==3)||(k==4))=decide (k=3∨k=4) by rw[bX];simp]
theorem Ee(h:Lo w b m0 m1 s nn vn f)(ok:Bool)(e a:Int):az aq 123 #[ae (some ⟨b,0,none⟩),aj ok,O U e,O U a] w fun r w'=>r=ak (ai #[])/\Lo w' b m0 m1 s nn vn (oY f (bad ok e a))/\ay [b] w w':=by
 refine ret (alG _ _ _ _ _ _ ?_);rw[VV];refine⟨f.1,fun _=>Blk.dQ h.blk 3 rfl,fun hc=>⟨b,3,_,_,rfl,h.blk,by simp,fun w0 hO hB=>⟨rfl,?_,hO⟩⟩,fun hc=>⟨rfl,?_,Only.refl _ _⟩⟩
 ·rw[if_pos hc];exact h.nI hO hB
 ·rw[if_neg (by rw[hc];decide)];exact h
theorem RO(h:Lo w b m0 m1 s nn vn f){x:aH}(hx:gS x)(a:Int):az aq 84 #[ae (some ⟨b,0,none⟩),.map (some m0),ab (T x),O U (nn.length:Nat),O U a] w fun r w'=>r=ak (ai #[])/\Lo w' b m0 m1 s (nn++[x]) vn (oY f (bad (!decide (x∈nn)) 24 a))/\ay [b,m0] w w':=by
 refine ret (afK _ _ _ _ _ _ _ ?_);refine⟨_,_,w,h.nm.at x,(Ee h _ 24 a).mono ?_⟩;rintro _ w1 ⟨rfl,h1,cr⟩;refine⟨rfl,fun hc=>?_,fun hc=>?_⟩
 ·obtain⟨w2,u1,u2,u3⟩:=h1.nm.add hx (by simpa using hc);refine⟨w2,u1,rfl,⟨u3.blk h1.blk (by have:=h.n0;have:=h.n1;simp;omega),u2,h1.vr.only u3 (by have:=h.n0;simp;omega),h.n0,h.n1⟩,(cr.weaken (bs':=[b,m0]) (fun x hx=>.inl (by simp at hx;simp[hx]))).trans u3 fun x hx=>.inl (by simp at hx;simp[hx])⟩
 ·exact⟨rfl,⟨h1.blk,h1.nm.has (by simpa using hc),h1.vr,h.n0,h.n1⟩,cr.weaken fun x hx=>.inl (by simp at hx;simp[hx])⟩
theorem RP(h:Lo w b m0 m1 s nn vn f){x:aH}(hx:gS x)(a:Int):az aq 84 #[ae (some ⟨b,0,none⟩),.map (some m1),ab (T x),O U (vn.length:Nat),O U a] w fun r w'=>r=ak (ai #[])/\Lo w' b m0 m1 s nn (vn++[x]) (oY f (bad (!decide (x∈vn)) 24 a))/\ay [b,m1] w w':=by
 refine ret (afK _ _ _ _ _ _ _ ?_);refine⟨_,_,w,h.vr.at x,(Ee h _ 24 a).mono ?_⟩;rintro _ w1 ⟨rfl,h1,cr⟩;refine⟨rfl,fun hc=>?_,fun hc=>?_⟩
 ·obtain⟨w2,u1,u2,u3⟩:=h1.vr.add hx (by simpa using hc);refine⟨w2,u1,rfl,⟨u3.blk h1.blk (by have:=h.n1;simp;omega),h1.nm.only u3 (by have:=h.n0;simp;omega),u2,h.n0,h.n1⟩,(cr.weaken (bs':=[b,m1]) (fun x hx=>.inl (by simp at hx;simp[hx]))).trans u3 fun x hx=>.inl (by simp at hx;simp[hx])⟩
 ·exact⟨rfl,⟨h1.blk,h1.nm,h1.vr.has (by simpa using hc),h.n0,h.n1⟩,cr.weaken fun x hx=>.inl (by simp at hx;simp[hx])⟩
end
def Jq(P:aJ)(s:Sl)(w:av)(s':Sl)(w':av):Prop:=aD (fun k=>P k∨s.a=some ⟨k,0,none⟩) w w'/\∀k,s'.a=some ⟨k,0,none⟩->s.a=some ⟨k,0,none⟩∨w.heap.size<=k
theorem Jq.trans{P:aJ}{s t u:Sl}{w w' tV:av}(h:Jq P s w t w')(g:Jq P t w' u tV):Jq P s w u tV:=by
 refine⟨h.1.trans g.1 fun k hk=>?_,fun k hk=>?_⟩
 ·rcases hk with hk | hk
  ·exact .inl (.inl hk)
  ·exact(h.2 k hk).elim (fun h=>.inl (.inr h)) .inr
 ·rcases g.2 k hk with hk | hk
  ·exact h.2 k hk
  ·exact .inr (bp h.1.size hk)
theorem Jq.of{P:aJ}{s:Sl}{w w':av}{bs:List Nat}(hO:ay bs w w')(hb:∀k,k∈bs->P k):Jq P s w s w':=⟨hO.p fun k hk=>.inl (.inl (hb k hk)),fun k hk=>.inl hk⟩
def Ym:cN:=⟨0,[],0,0,0⟩
theorem RQ:∀(D:Nat) {w:av} {F:aJ} {x:Nd} {cs:aI} {b m0 m1:Nat} {s:Sl} {nn vn:List (aH)} {f:Ft},ol false D w F x cs->(∀k,F k->k<m0)->Lo w b m0 m1 s nn vn f->iK (b+1) w s (List.replicate nn.length Ym)->
  mO x<=8388608->nn.length+iQ x<=1000000->
  az aq 83 #[ae (some ⟨b,0,none⟩),ah cs.toArray] w fun e w'=>e=ak (ai #[])/\∃s',Lo w' b m0 m1 s' (nn++(Jg x).map fun p=>p.1) vn (oY f (xW nn (Jg x)))/\iK (b+1) w' s' (List.replicate (nn.length+iQ x) Ym)/\Jq (fun k=>k=b∨k=m0) s w s' w'
 | 0,_,_,_,_,_,_,_,_,_,_,_,h,_,_,_,_,_=>h.elim
 | D+1,w,F,.mk bb ks,cs,b,m0,m1,s,nn,vn,f,⟨en,lv,mv,kids,nP,_,gu⟩,hF,hL,hS,hz,hn=>by
  have hk:=gu.1;clear gu;dsimp only[Nd.kids,Nd.b]at hk nP;subst nP;rw[iQ]at hn;rw[mO]at hz;have Tu:=hk.len;have hnn:=pW ks;have n0:=hL.n0;have n1:=hL.n1;have Za:gS bb.nm:=by
   show bb.nm.length<=maxLen;have:maxLen=9223372036854775807:=rfl;unfold CE at hz;omega
  refine ret (alF _ _ _ _ _ _ _ _ _ _ _ _ ?_);intro k0 w0 gu fe cD;have z0:=cD.size;have C4:=hL.lt;have Uu:=hL.o0 cD;have hS0:iK (b+1) w0 s _:=hS.yg cD.p0 fun _ _ _ h=>h;have Uo:s.n=nn.length:=by rw[hS.len,db]
  have TU:s.a≠some ⟨k0,0,none⟩:=fun e=>by have:=(hS.blk e).2;dsimp only at this;omega
  refine⟨_,Blk.dQ Uu.blk 0 rfl,s,Blk.dQ Uu.blk 1 rfl,?_⟩;dsimp only;rw[Uo];refine(RO Uu Za bb.a).mono ?_;rintro _ w1 ⟨rfl,hL1,cr⟩;have z1:=cr.size;have Fi:iK (b+1) w1 s (List.replicate nn.length Ym):=hS0.yg (G:=fun k=>k=b∨k=m0) (cr.p fun k hk=>.inl (by simpa using hk)) fun k h _=>by omega
  have m1':Jq (fun k=>k=b∨k=m0) s w s w1:=(Jq.of cD (by simp)).trans (Jq.of cr (by simp));obtain⟨y,w2,k1,k3,s3,w3,g1,g2,⟨gs,g3,g4⟩,g5⟩:=jK (P:=aq) (t:=52) (ty:=52) (e:=125) (i:=Tryz.t125) (bytes:=48) (size:=5) (r:=pb) (G:=fun _=>False) (v:=ah #[O U 0,ab (ao #[]),O U 0,O U 0,O U 0]) (x:=Ym) (by kernel_rfl) (by kernel_rfl) rfl rfl rfl rfl (by decide) (by decide) (by decide) dk Fi (by omega) rfl rfl (fun _ h=>h.elim) (by rw[db];omega);have z2:=k3.size;have z3:=g3.size;have gb:∀g,g∈gs->b<g/\g<w1.heap.size/\s.a=some ⟨g,0,none⟩:=fun g hg=>⟨by have:=(g4 g hg).2.1;omega,(g4 g hg).2.2,(g4 g hg).1⟩
  have hL3:Lo w3 b m0 m1 s (nn++[bb.nm]) vn _:=(hL1.o0 k3).only g3 (fun h=>by have:=gb _ h;omega) (fun h=>by have:=gb _ h;omega) (fun h=>by have:=gb _ h;omega);refine⟨rfl,cr.same (by simp;omega),s,Blk.dQ hL1.blk 1 rfl,y,w2,k1,k3.same (by simp;omega),s3,w3,g1,g3.same fun x hx=>?_,b,1,_,_,rfl,hL3.blk,by simp,by omega,fun w4 dL uh=>?_⟩
  ·simp only[aN]at hx;subst hx;exact⟨by omega,fun h=>TU (gb _ h).2.2⟩
  have z4:=dL.size;have hL4:Lo w4 b m0 m1 s3 (nn++[bb.nm]) vn (oY f (bad (!decide (bb.nm∈nn)) 24 bb.a)):=hL3.nI dL uh;have Fj:iK (b+1) w3 s3 (List.replicate (nn.length+1) Ym):=by
   have:=iK.of g2;rwa[<-List.replicate_succ']at this
  have TV:iK (b+1) w4 s3 (List.replicate (nn.length+1) Ym):=Fj.yg (G:=fun k=>k=b) (dL.p (by simp)) fun k h _=>by omega
  have m4:Jq (fun k=>k=b∨k=m0) s w s3 w4:=by
   refine m1'.trans ⟨((k3.mL (g3.p (F:=fun k=>(k=b∨k=m0)∨s.a=some ⟨k,0,none⟩) fun g hg=>.inl (.inr (gb g hg).2.2))).trans (dL.p (F:=fun k=>k=b) (by simp)) fun k hk=>.inl (.inl (.inl hk))),fun k hk=>?_⟩;rcases g5 with e | ⟨g,e,h⟩
   ·exact .inl (by rw[<-e];exact hk)
   ·rw[e]at hk;injection hk with hk;injection hk with hk;exact .inr (by omega)
  have n4:∀k,s3.a=some ⟨k,0,none⟩->k≠k0:=fun k hk e=>by
   subst e;rcases g5 with e | ⟨g,e,h⟩
   ·exact TU (by rw[<-e];exact hk)
   ·rw[e]at hk;injection hk with hk;injection hk with hk;omega
  have iM:∀{u:av} {q:Sl},Jq (fun k=>k=b∨k=m0) s w q u->aA (ol false D) 9 u F kids ks:=fun hm=>SliceF.jV (cG false D) (by decide) hk hm.1 fun k uG _=>by
   have:=hF k uG;exact fun h=>h.elim (by omega) fun h=>by have:=(hS.blk h).1;dsimp only at this;omega
  refine⟨fun kv i w'=>∃(j:Nat) (q:Sl),i=(j:Int)/\kv+j=ks.length/\j<=ks.length/\Lo w' b m0 m1 q (nn++bb.nm::(yD (ks.take j)).map fun p=>p.1) vn (oY f (xW nn ((bb.nm,bb.a)::yD (ks.take j))))/\iK (b+1) w' q (List.replicate (nn.length+1+dJ (ks.take j)) Ym)/\Jq (fun k=>k=b∨k=m0) s w q w'/\w4.heap.size<=w'.heap.size/\∀k,q.a=some ⟨k,0,none⟩->k≠k0,ks.length,⟨0,s3,rfl,by omega,bh _,by
   rw[cM,yD,xW,xW,bQ];exact hL4,by rw[cM,dJ,dG];exact TV,m4,aX _,n4⟩,?_⟩
  rintro kv _ w5 ⟨j,q,rfl,tY,j8,Zb,Nt,m5,z5,n5⟩;constructor
  ·intro hc;have hj:j<ks.length:=by have:=aO hc;omega
   obtain⟨y,hy⟩:∃y,ks[j]? =some y:=⟨_,aW hj⟩
   obtain⟨ad,y',ds,a1,a2,a3,a4,a5,a6⟩:=(iM m5).get (bA j) (by omega);rw[aY,hy]at a2;injection a2 with a2;subst a2;have US:=a6;obtain⟨D',rfl⟩:∃D',D=D'+1:=by
    cases D with
    | zero=>exact a6.elim
    | succ D'=>exact⟨D',rfl⟩
   obtain⟨vu,xH,rQ,kK,rfl,_⟩:=US;have lC:=nM hy;have hzy:=nX (bF hy);have KA:(nn++bb.nm::(yD (ks.take j)).map fun p=>p.1).length=nn.length+1+dJ (ks.take j):=by
    rw[aP,bf,bm,VW];omega
   refine⟨ad,a1,_,_,_,_,vu,xH,rQ,kK,_,a5,fun k6 w6 hk6 Xf eB=>?_⟩;have z6:=eB.size;have OW:=Zb.o0 eB;have Ni:=Zb.lt;refine(RQ (D'+1) ((cG false (D'+1)).keep a6 fun k _ bS=>eB.block k bS (by simp)) hF OW (by rw[KA];exact Nt.yg eB.p0 fun _ _ _ h=>h) (by omega) (by rw[KA];omega)).mono ?_;rintro _ w7 ⟨rfl,q7,Fh,hS7,m7⟩;have z7:=m7.1.size;have e:ks.take (j+1)=ks.take j++[y]:=by rw[bJ,hy];rfl
   have en1:yD (ks.take (j+1))=yD (ks.take j)++Jg y:=by rw[e,LX,yD,yD,bQ]
   refine⟨rfl,m7.1.same fun x hx=>?_,kv-1,by omega,j+1,q7,by rw[fR (by omega) (by omega)];rfl,by omega,by omega,?_,?_,(m5.trans (Jq.of eB (by simp))).trans m7,by omega,fun k hk e=>?_⟩
   ·simp only[aU,ba,bW]at hx;rcases hx with rfl | rfl
    ·exact⟨by omega,fun h=>h.elim (by omega) fun h=>n5 _ h rfl⟩
    ·refine⟨Xf,fun h=>h.elim (by omega) fun h=>?_⟩;have:=(Nt.blk h).2;dsimp only at this;omega
   ·have e1:nn++bb.nm::(yD (ks.take (j+1))).map (fun p=>p.1)=(nn++bb.nm::(yD (ks.take j)).map fun p=>p.1)++(Jg y).map fun p=>p.1:=by
     rw[en1,cJ,bH,bZ]
    have e2:xW nn ((bb.nm,bb.a)::yD (ks.take (j+1)))=xW nn ((bb.nm,bb.a)::yD (ks.take j))++xW (nn++bb.nm::(yD (ks.take j)).map fun p=>p.1) (Jg y):=by
     rw[en1,<-bZ,Ea];rfl
    rw[e1,e2,jv];exact Fh
   ·rw[KA]at hS7;rw[e,Av,dJ,dJ,dG,<-dA];exact hS7
   ·subst e;rcases m7.2 _ hk with h | h
    ·exact n5 _ h rfl
    ·omega
  ·intro hc;have qt:j=ks.length:=by have:=aR hc;omega
   subst qt;rw[bq (aX _)]at Nt Zb;refine⟨rfl,q,?_,?_,m5⟩
   ·rw[Jg];exact Zb
   ·rw[iQ,show nn.length+(dJ ks+1)=nn.length+1+dJ ks by omega];exact Nt
end Go.Proofs.YtbkjcdocjfknfaaGreatDoor.Con
namespace Go.Kt
open Go renaming World->av,Value->aw
open Go Go.RowKit
set_option linter.unusedSimpArgs false
set_option linter.unusedVariables false
section
variable {P:Program} {w:av}
set_option maxRecDepth 20000 in
theorem wu {t it ty e:TypeId} {i:TypeInfo} {z:Value} (ht:P.underlying t=some (.slice e)) (hit:P.underlying it=some (.int .i64)) (hi:P.info? e=some i) (hz:i.zero=some z)
  {n:Nat} (hn0:0<n) (yh:0<i.size) (YG:n<=9223372036854775807) (OB:n*i.bytes<=281474976710656) (JU:Builtin.nextslicecap n 0*i.bytes<=281474976710656):
  (Builtin.append_ #[t,it] ty #[.slice none 0 0,.int .i64 n]).run P w=
   .ok (.slice (some ⟨w.heap.size,0,none⟩) n (grownCap w n 0 e))
    (w.drew.alloc (.cells (Builtin.zeroCells z.cells n++Builtin.zeroCells z.cells (grownCap w n 0 e-n)) e)):=by
 have hn:¬(n<=0):=by omega
 have apb:¬(9223372036854775807<(n:Int)):=by omega
 have apc:¬(281474976710656<Builtin.nextslicecap n 0*i.bytes):=by omega
 have hwr:IntKind.i64.wrap (n:Int)=n:=fR (by omega) (by omega);have j9:¬(281474976710656<(n:Int)*(i.bytes:Int)):=by
  have:((n*i.bytes:Nat):Int)<=281474976710656:=Int.ofNat_le.2 OB;rw[Int.natCast_mul]at this;omega
 have apd:¬((n:Int)<0):=by omega
 have ik:n≠0:=by omega
 have hnz:n*i.size≠0:=by have:=Nat.mul_pos hn0 yh;omega
 simp[Builtin.append_,run_underlying ht,run_underlying hit,sizeOf,typeInfo,zeroValue,hi,hz,asInt,asIntOf,hwr,apd,j9,ik,hnz,apb,apc,Question.forced,run_firstCells_none,newRow,grownCap]
theorem RR{α:Type}{r:Rp α}{F:Nat->Prop}{size bytes:Nat}{t it ty e:TypeId}{i:TypeInfo}{z:aw}(ht:P.underlying t=some (.slice e))(hit:P.underlying it=some (.int .i64))(hi:P.info? e=some i)(hz:i.zero=some z)(lq:i.size=size)(OB:i.bytes=bytes)(HT:z.cells.size=size)
  {n:Nat} (hn0:0<n) (h0:0<size) (hm:n*bytes<=140737488355328) (yi:0<bytes):
  ∃s w',(Builtin.append_ #[t,it] ty #[.slice none 0 0,.int .i64 n]).run P w=.ok (Sl.v s) w'/\Own r size e w.heap.size w' F (s.cut 0 0 s.c size) []/\Only [] w w'/\s.a=some ⟨w.heap.size,0,none⟩:=by
 subst lq;subst OB;have YG:n<=140737488355328:=bp (by have:=Fk n yi;omega) hm;have hf:=(growslice_fits hn0 hm:Builtin.nextslicecap n 0*i.bytes<=281474976710656)
 refine⟨⟨some ⟨w.heap.size,0,none⟩,n,grownCap w n 0 e⟩,_,wu ht hit hi hz hn0 h0 (by omega) (by omega) hf,?_,(Only.drew w).cf (Only.alloc _ _),rfl⟩;have rl:=grownCap_ge w n 0 e;have lC:=grownCap_le_maxLen w n 0 e (by simp only[maxLen];omega);refine .inr ⟨w.heap.size,([]:List (List aw)),(Builtin.zeroCells z.cells n++Builtin.zeroCells z.cells (grownCap w n 0 e-n)).toList,?_,aX _,?_,?_,rfl,?_,?_,trivial⟩
 ·simp[Sl.cut,Addr.add]
 ·have:=Blk.alloc w.drew e (Builtin.zeroCells z.cells n++Builtin.zeroCells z.cells (grownCap w n 0 e-n)).toList;rw[Array.toArray_toList]at this;exact this
 ·rw[Array.toList_append,aP,vG w _ HT,vG w _ HT,<-eC];simp only[Sl.cut];congr 1;omega
 ·simp[Sl.cut]
 ·simp only[Sl.cut];simp only[maxLen]at lC;omega
end
end Go.Kt
namespace Go.Proofs.YtbkjcdocjfknfaaGreatDoor.Con
open Go.Value renaming int->O,string->ab,pointer->ae,agg->ah,tuple->ai,bool->aj
open Go.IntKind renaming i64->U,wrap->ar
open Go.Ending renaming returned->ak
open _root_.ByteArray renaming mk->ao
open _root_.Go.Proofs.Tryz renaming prog->aq
open Go.Instr renaming buildSlice->au
open Go renaming World->av,Value->aw,Calls->az
open Go.Kt renaming Only->ay,SliceF->aA,Cells->aB,OnlyP->aD,Blk->aF
open Go Go.RowKit Go.Kt Go.Kt.V Go.Proofs.YtbkjcdocjfknfaaGreatDoor.Vc
set_option linter.unusedSimpArgs false
set_option linter.unusedVariables false
set_option maxHeartbeats 800000
set_option maxRecDepth 100000
structure Lx (w:av) (b m0 m1:Nat) (F:aJ) (s:Sl) (xs:List cN) (vn:List (aH)) (f:Ft):Prop where
 lo:Lo w b m0 m1 s (xs.map fun x:cN=>x.nm) vn f
 sp:aA pb 5 w F s xs
 fo:Fo xs
 ln:xs.length<=64
 nF:∀k,F k->k≠b
section
variable {w w':av} {b m0 m1:Nat} {F G:aJ} {s:Sl} {xs:List cN} {vn:List (aH)} {f g:Ft}
theorem Lx.o0(h:Lx w b m0 m1 F s xs vn f)(hO:ay [] w w'):Lx w' b m0 m1 F s xs vn f:=⟨h.lo.o0 hO,SliceF.only dk (by decide) h.sp hO (by simp),h.fo,h.ln,h.nF⟩
theorem Lx.to(h:Lx w b m0 m1 F s xs vn f)(hO:ay [b] w w')(hl:Lo w' b m0 m1 s (xs.map fun x:cN=>x.nm) vn g):Lx w' b m0 m1 F s xs vn g:=
 ⟨hl,SliceF.only dk (by decide) h.sp hO fun k hk _ hm=>h.nF k hk (by simpa using hm),h.fo,h.ln,h.nF⟩
theorem lm(h:Lx w b m0 m1 F s xs vn f)(ok:Bool)(e a:Int):az aq 123 #[ae (some ⟨b,0,none⟩),aj ok,O U e,O U a] w fun r w'=>r=ak (ai #[])/\Lx w' b m0 m1 F s xs vn (oY f (bad ok e a))/\ay [b] w w':=by
 refine(Ee h.lo ok e a).mono ?_;rintro _ w' ⟨rfl,h1,hO⟩;exact⟨rfl,h.to hO h1,hO⟩
theorem AK(xs:List cN)(n:aH):ir xs n= -1∨∃j:Nat,ir xs n=j/\j<xs.length:=by
 rcases oP xs n with⟨h,_⟩ | ⟨j,x,h,hx,_⟩
 ·exact .inl h
 ·exact .inr ⟨j,h,fJ hx⟩
theorem Ef(h:Lx w b m0 m1 F s xs vn f)(n:aH):az aq 163 #[.map (some m0),ab (T n)] w fun r w'=>r=ak (O U (ir xs n))/\w'=w:=by
 refine ret (alK _ _ _ _ ?_);refine⟨_,_,w,h.lo.nm.at n,fun hb=>⟨?_,rfl⟩,fun hb=>⟨?_,rfl⟩⟩
 ·have hl:=nG.2 (aO hb);unfold ir;rw[if_pos hl,if_pos (by rwa[bm]at hl)]
 ·have hl:¬_:=fun h=>aR hb (nG.1 h);unfold ir;rw[if_neg (by rwa[bm]at hl)]
theorem Hd(h:Lx w b m0 m1 F s xs vn f){n:Int}(hn:n<xs.length):az aq 164 #[ae (some ⟨b,0,none⟩),O U n] w fun r w'=>r=ak (aj (decide (0<=n)&&!lg (oZ xs n)))/\w'=w:=by
 refine ret (alM _ _ _ _ ?_);refine⟨fun r w'=>r=(decide (0<=n)&&!lg (oZ xs n))/\w'=w,fun r w' ⟨h1,h2⟩=>⟨by rw[h1],h2⟩,fun hc=>?_,fun hc=>⟨?_,rfl⟩⟩
 ·have hc:0<=n:=aO hc;obtain⟨j,rfl⟩:∃j:Nat,n=j:=⟨n.toNat,by omega⟩
  obtain⟨x,hx⟩:=gV (xs:=xs) (i:=j) (by omega);obtain⟨ad,a1,a2,_⟩:=kH h.sp hx;refine⟨s,Blk.dQ h.lo.blk 1 rfl,ad,a1,x.k,a2.dQ 0 _ rfl,(yW w x.k).mono ?_⟩;rintro _ w1 ⟨rfl,hu⟩;refine⟨_,rfl,?_,hu⟩;rw[kB hx,bL hc];rfl
 ·rw[show decide (0<=n)=false from hc];rfl
theorem Eg{b k0:Nat}(hO:ay [b] w w')(h:k0≠b):bP (fun k=>k=k0) w w':=fun k hk bS=>hO.block k bS (by subst hk;simp[h])
theorem sR{b:Nat}{u v:av}(h:ay [b] w u)(g:ay [b] u v):ay [b] w v:=h.trans g fun x hx=>.inl hx
theorem yF{b:Nat}(h:ay [] w w'):ay [b] w w':=h.weaken fun x hx=>(by simp at hx)
theorem Eh:∀(d:Nat) {w:av} {x:Ex} {cs:aI} {f:Ft},LO false d w G x cs->(∀k,G k->k≠b)->Lx w b m0 m1 F s xs vn f->
  az aq 126 #[ae (some ⟨b,0,none⟩),ah cs.toArray] w fun r w'=>r=ak (ai #[])/\Lx w' b m0 m1 F s xs vn (oY f (Ui xs vn x))/\ay [b] w w'
 | 0,_,_,_,_,h,_,_=>h.elim
 | d+1,w,x,cs,f,⟨sl,nP,rO⟩,hG,h=>by
  subst nP;have rO:=rO.1;refine ret (alO _ _ _ _ _ _ _ _ _ ?_);intro k0 w0 gu fe cD;have z0:=cD.size;have C4:=h.lo.lt;have h0:=h.o0 cD;have KA:=rO.len;have hcp:=rO.cap;have Ts:=rO.big;have TY:k0≠b:=by omega
  refine⟨fun u=>Lx u b m0 m1 F s xs vn (oY f (bad (Uh xs vn x.k x.s) 23 x.a))/\ay [b] w u/\w0.heap.size<=u.heap.size,?_,fun hk=>?_,fun hk=>⟨fun wG=>?_,fun wG=>?_⟩⟩
  ·rintro w1 ⟨h1,o1,z1⟩;refine⟨fun kv i u=>∃j:Nat,i=(j:Int)/\kv+j=x.fF.length/\j<=x.fF.length/\Lx u b m0 m1 F s xs vn (oY f (bad (Uh xs vn x.k x.s) 23 x.a++ud xs vn (x.fF.take j)))/\ay [b] w u/\w0.heap.size<=u.heap.size,x.fF.length,⟨0,rfl,rfl,bh _,by rw[cM,ud,bQ];exact h1,o1,z1⟩,?_⟩;rintro kv _ w2 ⟨j,rfl,tY,hj,h2,o2,z2⟩;refine⟨fun hc=>?_,fun hc=>?_⟩
   ·have hc:=aO hc;have hs2:aA (LO false d) 6 w2 G sl x.fF:=SliceF.only (kA false d) (by decide) rO o2 fun k hk _ hm=>hG k hk (by simpa using hm);obtain⟨ad,y,ds,a1,a2,a3,a4,a5,a6⟩:=hs2.get (bA j) (by omega);rw[aY]at a2;have US:=a6;obtain⟨d',rfl⟩:∃e,d=e+1:=by
     cases d with
     | zero=>exact a6.elim
     | succ e=>exact⟨e,rfl⟩
    obtain⟨pv,rfl,_⟩:=US;refine⟨ad,a1,_,_,_,_,_,_,a5,fun k3 w3 wG rL de=>?_⟩;have z3:=de.size;refine(Eh (d'+1) ((kA false (d'+1)).keep a6 fun k hk bS=>de.block k bS (by simp)) hG (h2.o0 de)).mono ?_;rintro _ w4 ⟨rfl,h4,dL⟩;have z4:=dL.size;have nt:x.fF.take (j+1)=x.fF.take j++[y]:=by rw[bJ,a2];rfl
    have ym:=h2.lo.lt;refine⟨rfl,dL.same (by simp;omega),kv-1,by omega,j+1,by rw[fR (by omega) (by omega)];rfl,by omega,by omega,?_,(o2.cf de).trans dL fun x hx=>.inl hx,by omega⟩;rw[nt,GZ,ud,ud,bQ,<-bH,jv];exact h4
   ·have hc:=aR hc;have qt:j=x.fF.length:=by omega
    subst qt;rw[bq (aX _),<-aaj]at h2;exact⟨rfl,h2,o2⟩
  ·have hk:x.k=2:=by simpa using hk
   intro w5 eP;have z5:=eP.size;have h5:=h0.o0 eP;refine⟨_,Blk.dQ h5.lo.blk 2 rfl,_,_,w5,h5.lo.vr.at x.s,bU.refl _ _,(lm h5 _ 23 x.a).mono ?_⟩;rintro _ w7 ⟨rfl,h7,fE⟩;have z7:=fE.size;refine⟨rfl,fE.same (by simp;omega),?_,sR (yF (cD.cf eP)) fE,by omega⟩;have:Uh xs vn x.k x.s=decide (x.s∈vn):=by unfold Uh;rw[hk];simp
   rw[this];exact h7
  ·have wG:x.k=3:=by simpa using wG
   intro w8 fy;have z8:=fy.size;have h8:=h0.o0 fy;refine⟨fun k=>k=k0,_,Blk.dQ h8.lo.blk 0 rfl,rfl,(Ef h8 x.s).mono ?_⟩;rintro _ w9 ⟨rfl,hu⟩;obtain rfl:w8=w9:=hu.symm;refine⟨_,rfl,bU.refl _ _,bP.refl _ _,(Hd h8 (by rcases AK xs x.s with h | ⟨j,h,hl⟩<;>omega)).mono ?_⟩;rintro _ du ⟨rfl,hu⟩;obtain rfl:w8=du:=hu.symm;refine⟨_,rfl,bU.refl _ _,bP.refl _ _,(lm h8 _ 23 x.a).mono ?_⟩;rintro _ dC ⟨rfl,It,eu⟩;have C6:=eu.size;refine⟨rfl,eu.same (by simp;omega),Eg eu TY,?_,sR (yF (cD.cf fy)) eu,by omega⟩;have:Uh xs vn x.k x.s=stM xs x.s:=by unfold Uh;rw[wG];simp
   rw[this];exact It
  ·have rm:x.k≠2:=by simpa using hk
   have wG:x.k≠3:=by simpa using wG
   have:Uh xs vn x.k x.s=true:=by unfold Uh;simp[rm,wG]
   rw[this];exact⟨h0,yF cD,aX _⟩
end
def He:Rp Sl:=fun _ _ x cs=>cs=[x.v]
theorem qY:He.Ok:=⟨fun h _=>h,fun h=>h,fun h _=>h,fun h=>by
 unfold He at h;subst h;intro v hv;simp only[aN]at hv;subst hv;rfl⟩
abbrev CH(B:Nat)(w:av)(G:aJ)(s:Sl)(l:List Ac):Prop:=Own (rA false) 9 196 B w G s l
theorem Wd(w:av)(G:aJ){n:Nat}(hn:n<=20000000):az aq 201 #[Sl.nil.v,O U (n:Int)] w fun e w'=>(∃s:Sl,e=ak s.v/\CH w.heap.size w' G s [])/\ay [] w w':=by
 refine(afM Sl.nil n (fun v w'=>(∃s:Sl,v=s.v/\CH w.heap.size w' G s [])/\ay [] w w') w ?_).mono (by rintro _ w' ⟨v,rfl,⟨s,rfl,h⟩,h'⟩;exact⟨⟨s,rfl,h⟩,h'⟩);have e0:ar U ((n:Int)-(ar U ((Sl.nil.c:Int)-(Sl.nil.n:Int))))=n:=by
  show ar U ((n:Int)-(ar U (((0:Nat):Int)-((0:Nat):Int))))=n;rw[fR (x:=((0:Nat):Int)-((0:Nat):Int)) (by omega) (by omega),fR (by omega) (by omega)];omega
 refine⟨fun u=>w=u,?_,fun hc=>?_,fun _=>rfl⟩
 ·rintro _ rfl;rw[e0];refine⟨fun l u=>CH w.heap.size u G l []/\ay [] w u,fun l u h=>⟨⟨l,rfl,h.1⟩,h.2⟩,fun hc=>?_,fun hc=>⟨Own.nil _ _ _ _ _ _,Only.refl _ _⟩⟩;have hc:=aO hc;obtain⟨s,w2,g1,g2,g3,_⟩:=RR (P:=aq) (w:=w) (r:=rA false) (F:=G) (size:=9) (bytes:=104) (t:=23) (it:=3) (ty:=23) (e:=196) (i:=Tryz.t196) (n:=n) (by kernel_rfl) (by kernel_rfl) (by kernel_rfl) rfl rfl rfl rfl (by omega) (by decide) (by omega) (by decide);exact⟨0,⟨rfl,aX _⟩,s,w2,g1,0,⟨rfl,bh _⟩,g2,g3⟩
 ·have:=aO hc;omega
def lZ(l:List (Sl×List Ac)):List Ac:=l.flatMap fun p=>p.2
theorem tM{l:List (Sl×List Ac)}{j:Nat}{p:Sl×List Ac}(h:l[j]? =some p):lZ (l.take (j+1))=lZ (l.take j)++p.2:=by
 rw[bJ,h];unfold lZ;rw[jI];simp
theorem My{l:List (Sl×List Ac)}(j:Nat):(lZ (l.take j)).length<=(lZ l).length:=by
 have:lZ l=lZ (l.take j)++lZ (l.drop j):=by
  unfold lZ;rw[<-jI,cZ]
 rw[this,aP];omega
theorem Oe{w:av}{rows:Sl}{F G:aJ}{l:List (Sl×List Ac)}(hR:aA He 1 w F rows (l.map fun p=>p.1))(hA:∀p,p∈l->aA (rA false) 9 w G p.1 p.2)(hm:(lZ l).length<=20000000):
  az aq 165 #[rows.v] w fun e w'=>(∃s:Sl,e=ak s.v/\CH w.heap.size w' (fun k=>G k/\k<w.heap.size) s (lZ l))/\ay [] w w':=by
 refine(afL rows (fun v w'=>(∃s:Sl,v=s.v/\CH w.heap.size w' (fun k=>G k/\k<w.heap.size) s (lZ l))/\ay [] w w') w ?_).mono (by rintro _ w' ⟨v,rfl,⟨s,rfl,h⟩,h'⟩;exact⟨⟨s,rfl,h⟩,h'⟩);have Zc:=hR.len;have hcp:=hR.cap;have Ts:=hR.big;rw[bm]at Zc;have row:∀{u:av} {j:Nat},ay [] w u->j<l.length->∃ad p,cW rows (j:Int) 1 ad/\l[j]? =some p/\aB u ad [p.1.v]/\aA (rA false) 9 u (fun k=>G k/\k<w.heap.size) p.1 p.2:=fun{u j} hO hj=>by
  obtain⟨ad,y,ds,a1,a2,a3,a4,a5,a6⟩:=(SliceF.only qY (by decide) hR hO (by simp)).get (bA j) (by omega);rw[aY,ch,fW]at a2;obtain⟨p,hp,rfl⟩:=a2;have a6:ds=[p.1.v]:=a6;subst a6;exact⟨ad,p,a1,hp,a5,((hA p (bF hp)).inHeap (dq false) (by decide)).keep (dq false) (by decide) fun k _ bS=>hO.block k bS (by simp)⟩
 refine⟨fun kv n i u=>∃j:Nat,i=(j:Int)/\n=((lZ (l.take j)).length:Nat)/\kv+j=l.length/\j<=l.length/\w=u,l.length,⟨0,rfl,rfl,rfl,bh _,rfl⟩,?_⟩;rintro kv _ _ _ ⟨j,rfl,rfl,tY,hj,rfl⟩;refine⟨fun hc=>?_,fun hc=>?_⟩
 ·have hc:=aO hc;obtain⟨ad,p,a1,a2,a3,a4⟩:=row (Only.refl _ _) (j:=j) (by omega);have YZ:=a4.len;have lC:=My (l:=l) (j+1);rw[tM a2,aP]at lC;have hw:ar U (((lZ (l.take j)).length:Nat)+(p.1.n:Int))=((lZ (l.take (j+1))).length:Nat):=by
   rw[fR (by omega) (by omega),tM a2,aP];omega
  refine⟨fun n u=>n=((lZ (l.take (j+1))).length:Nat)/\w=u,?_,ad,a1,p.1,a3,fun hb=>?_,fun _=>⟨hw,rfl⟩⟩
  ·rintro _ _ ⟨rfl,rfl⟩;exact⟨kv-1,by omega,j+1,by rw[fR (by omega) (by omega)];rfl,rfl,by omega,by omega,rfl⟩
  ·have:=aO hb;rw[hw]at this;omega
 ·have hc:=aR hc;have qt:j=l.length:=by omega
  subst qt;rw[bq (aX _)];refine(Wd w (fun k=>G k/\k<w.heap.size) hm).mono ?_;rintro _ w2 ⟨⟨s,rfl,hS⟩,cR⟩;refine⟨s,rfl,fun kv t i u=>∃j:Nat,i=(j:Int)/\kv+j=l.length/\j<=l.length/\CH w.heap.size u (fun k=>G k/\k<w.heap.size) t (lZ (l.take j))/\ay [] w u,l.length,⟨0,rfl,rfl,bh _,by rw[cM];exact hS,cR⟩,?_⟩;rintro kv t _ w3 ⟨j,rfl,tY,hj,hT,de⟩;refine⟨fun hc=>?_,fun hc=>?_⟩
  ·have hc:=aO hc;obtain⟨ad,p,a1,a2,a3,a4⟩:=row de (j:=j) (by omega);have lC:=My (l:=l) (j+1);rw[tM a2,aP]at lC;obtain⟨t',w4,g1,g2,gs,g3,g4,_⟩:=qE (P:=aq) (t:=23) (ty:=23) (e:=196) (i:=Tryz.t196) (bytes:=104) (size:=9) (r:=rA false) (by kernel_rfl) (by kernel_rfl) rfl rfl rfl rfl (dq false) hT (a4.mono (dq false) fun k hk=>⟨hk,fun e=>by have:=(hT.blk e).1;dsimp only at this;omega⟩) de.size (by omega) (by decide);refine⟨ad,a1,p.1,a3,t',w4,g1,kv-1,by omega,j+1,by rw[fR (by omega) (by omega)];rfl,by omega,by omega,by rw[tM a2];exact g2,de.trans g3 fun g hg=>.inr (g4 g hg).2.1⟩
  ·have hc:=aR hc;have qt:j=l.length:=by omega
   subst qt;rw[bq (aX _)]at hT;exact⟨⟨t,rfl,hT⟩,de⟩
section
variable {w w':av} {b m0 m1:Nat} {F G H:aJ} {s:Sl} {xs:List cN} {vn:List (aH)} {f g:Ft}
theorem Mz{rows:Sl}{l:List (Sl×List Ac)}(hR:aA He 1 w H rows (l.map fun p=>p.1))(hA:∀p,p∈l->aA (rA false) 9 w G p.1 p.2)(hm:(lZ l).length<=20000000)(hG:∀k,G k->k≠b)(h:Lx w b m0 m1 F s xs vn f):
  az aq 125 #[ae (some ⟨b,0,none⟩),rows.v] w fun r w'=>r=ak (ai #[])/\Lx w' b m0 m1 F s xs vn (oY f (ue xs vn (lZ l)))/\ay [b] w w':=by
 refine ret (alN _ _ _ _ ?_);refine(Oe hR hA hm).mono ?_;rintro _ w0 ⟨⟨t,rfl,hT⟩,cD⟩;have C4:=h.lo.lt;have z0:=cD.size;generalize lZ l=al at*
 have Xb:=hT.len;refine⟨t,rfl,fun kv i u=>∃j:Nat,i=(j:Int)/\kv+j=al.length/\j<=al.length/\Lx u b m0 m1 F s xs vn (oY f (ue xs vn (al.take j)))/\ay [b] w0 u,al.length,⟨0,rfl,rfl,bh _,by rw[cM];exact h.o0 cD,Only.refl _ _⟩,?_⟩;rintro kv _ w1 ⟨j,rfl,tY,hj,h1,cr⟩;have z1:=cr.size;refine⟨fun hc=>?_,fun hc=>?_⟩
 ·have hc:=aO hc;have hT1:aA (rA false) 9 w1 _ t al:=SliceF.only (dq false) (by decide) (hT.slice (dq false)) cr fun k hk _ hm=>by
   simp only[aN]at hm;rcases hk with hk | hk
   ·exact hG k hk.1 hm
   ·omega
  obtain⟨ad,y,ds,a1,a2,a3,a4,a5,a6⟩:=hT1.get (bA j) (by omega);rw[aY]at a2;obtain⟨xc,rfl,hx⟩:=a6;obtain⟨sl,rfl⟩:=jc hx;have zh:=h1.lo.lt;refine⟨ad,a1,_,_,_,_,_,_,sl,_,_,a5,fun k2 w2 rm rn cR=>?_⟩;have z2:=cR.size;have h2:=h1.o0 cR;have e1:ue xs vn (al.take (j+1))=ue xs vn (al.take j)++(bad (decide (y.k≠1)||decide (y.n∈vn)) 23 y.a++Ui xs vn y.x):=by
   rw[bJ,a2];unfold ue;rw[jI];simp[acF]
  refine⟨fun u=>Lx u b m0 m1 F s xs vn (oY f (ue xs vn (al.take j)++bad (decide (y.k≠1)||decide (y.n∈vn)) 23 y.a))/\ay [b] w2 u,?_,fun hk w5 eP=>?_,fun hk=>?_⟩
  ·rintro w3 ⟨h3,de⟩;have z3:=de.size;obtain⟨d,hxd⟩:=hx;have hfp:∀k,((G k/\k<w.heap.size)∨(w.heap.size<=k/\t.a=some ⟨k,0,none⟩))->k≠b:=fun k hk=>hk.elim (fun h=>hG k h.1) fun h=>by omega
   refine(Eh d ((kA false d).keep ((kA false d).keep hxd fun k _ bS=>cR.block k bS (by simp)) fun k hk bS=>de.block k bS (by simp;exact hfp k hk)) hfp h3).mono ?_;rintro _ w4 ⟨rfl,h4,dL⟩;have z4:=dL.size;refine⟨rfl,dL.same (by simp;omega),kv-1,by omega,j+1,by rw[fR (by omega) (by omega)];rfl,by omega,by omega,?_,sR (sR (cr.cf cR) de) dL⟩;rw[e1,<-bH,jv];exact h4
  ·have hk:y.k=1:=by simpa using hk
   have z5:=eP.size;have h5:=h2.o0 eP;refine⟨_,Blk.dQ h5.lo.blk 2 rfl,_,_,w5,h5.lo.vr.at y.n,bU.refl _ _,(lm h5 _ 23 y.a).mono ?_⟩;rintro _ w7 ⟨rfl,h7,fE⟩;have z7:=fE.size;refine⟨rfl,fE.same (by simp;omega),?_,sR (yF eP) fE⟩;rw[jv,hk];exact h7
  ·have hk:y.k≠1:=by simpa using hk
   refine⟨?_,Only.refl _ _⟩;rw[jv,bL hk];exact h2
 ·have hc:=aR hc;have qt:j=al.length:=by omega
  subst qt;rw[bq (aX _)]at h1;exact⟨rfl,h1,sR (yF cD) cr⟩
end
theorem amH(u:av){a b:Int}(ha:rS a)(hb:rS b):∃y w1,(au 32 2 #[.mk 0 (O U a),.mk 1 (O U b)]).run aq u=.ok (Sl.v y) w1/\ay [] u w1/\aA fz 1 w1 (fun _=>True) y [a,b]:=by
 obtain⟨y,w1,k1,k2,k3,_⟩:=gY (P:=aq) (t:=32) (e:=3) (i:=Tryz.t3) (z:=O U 0) (w:=u) (F:=fun _=>False) (vs:=[O U a,O U b]) (parts:=#[.mk 0 (O U a),.mk 1 (O U b)]) (len:=2) (xs:=[a,b]) (r:=fz) (size:=1) (by kernel_rfl) (by kernel_rfl) rfl rfl (by decide) rfl rfl (by decide) (by decide) bN ⟨⟨rfl,rfl,ha⟩,⟨rfl,rfl,hb⟩,trivial⟩;exact⟨y,w1,k1,k3,(k2.slice bN).mono bN fun _ _=>trivial⟩
theorem iK.sl{B:Nat}{w:av}{s:Sl}{xs:List cN}(h:iK B w s xs):aA pb 5 w (fun k=>B<=k) s xs:=(h.slice dk).mono dk fun k hk=>hk.elim (fun h=>h.elim) fun h=>h.1
def tup(x:cN):Int×aH×Int×Int×Int:=(x.k,x.nm,x.pa,x.dp,x.en)
section
variable {w w':av} {b m0 m1:Nat} {F G:aJ} {s:Sl} {xs:List cN} {vn:List (aH)} {f g:Ft}
theorem Jr{n:Int}(h:wL xs n)(hl:xs.length<=64):rS n:=⟨by have:=h.1;omega,by have:=h.2;omega⟩
theorem RS(h:Lx w b m0 m1 F s xs vn f){n o:Int}(hn:wL xs n)(ho:wL xs o):az aq 167 #[ae (some ⟨b,0,none⟩),O U n,O U o] w fun r w'=>r=ak (aj (Rn xs n o))/\ay [] w w':=by
 refine ret (alR _ _ _ _ _ ?_);obtain⟨y,w1,k1,k2,k3⟩:=amH w (Jr hn h.ln) (Jr ho h.ln);have h1:=h.o0 k2;refine⟨s,Blk.dQ h.lo.blk 1 rfl,y,w1,k1,(RN h1.sp h.fo k3).mono ?_⟩;rintro _ w2 ⟨⟨r,rfl,hr⟩,cR⟩;have h2:=h1.o0 cR;have er:=h.fo.WH hr hn ho;have TW:=hr.agA (by simp) fun i hi=>by
  simp only[aU,ba,bW]at hi;rcases hi with rfl | rfl
  ·exact hn
  ·exact ho
 obtain⟨m,e,t1,_⟩:=TW;obtain⟨k,_,x,hx,_⟩:=t1 n (by simp);obtain⟨ad,a1,a2,_⟩:=kH h2.sp hx;subst e;refine⟨_,rfl,s,fun _=>Blk.dQ h2.lo.blk 1 rfl,ad,fun _=>a1,x.k,fun _=>a2.dQ 0 _ rfl,?_,k2.cf cR⟩;unfold Rn;rw[<-er,kB hx];congr 1;rw[bX];simp
theorem aaG{k0 k4:Nat}(h:Lx w b m0 m1 F s xs vn f){n o:Int}(hn:wL xs n)(ho:wL xs o)(h0:aF w k0 151 [ae (some ⟨b,0,none⟩)])(h4:aF w k4 3 [O U n]):
  az aq 166 #[O U o,ae (some ⟨k0,0,none⟩),ae (some ⟨k4,0,none⟩)] w fun r w'=>r=ak (aj (!Rn xs n o))/\ay [] w w':=by
 refine ret (alQ _ _ _ _ _ ?_);refine⟨_,h0.cells 0 [_] fun j v hj=>(by rw[bO];exact hj),_,h4.cells 0 [_] fun j v hj=>(by rw[bO];exact hj),(RS h hn ho).mono ?_⟩;rintro _ w1 ⟨rfl,hO⟩;exact⟨_,rfl,rfl,hO⟩
theorem aaH{k0 k4:Nat}(h:Lx w b m0 m1 F s xs vn f){n:Int}(hn:wL xs n){sN:Sl}{ns:List Int}(hN:aA fz 1 w G sN ns)(YY:∀o,o∈ns->wL xs o)(h0:aF w k0 151 [ae (some ⟨b,0,none⟩)])(h4:aF w k4 3 [O U n]):
  az aq 58 #[sN.v,.func (.func 166) #[] #[ae (some ⟨k0,0,none⟩),ae (some ⟨k4,0,none⟩)]] w fun r w'=>r=ak (aj (ns.any fun o=>!Rn xs n o))/\ay [] w w':=by
 refine ret (QJ sN ⟨.func (.func 166) #[] #[ae (some ⟨k0,0,none⟩),ae (some ⟨k4,0,none⟩)],rfl⟩ (fun v w'=>v=aj (ns.any fun o=>!Rn xs n o)/\ay [] w w') w ?_);refine(QL sN ⟨.func (.func 166) #[] #[ae (some ⟨k0,0,none⟩),ae (some ⟨k4,0,none⟩)],rfl⟩ (fun v w'=>(∃i:Int,v=O U i/\decide (i>=0)=ns.any fun o=>!Rn xs n o)/\ay [] w w') w ?_).mono (by
  rintro _ w' ⟨v,rfl,⟨i,rfl,hi⟩,hO⟩;exact⟨i,rfl,by rw[hi],hO⟩)
 have hl:=hN.len;have OT:=hN.cap;have yi:=hN.big;refine⟨fun kv i u=>∃j:Nat,i=(j:Int)/\kv+j=ns.length/\j<=ns.length/\((ns.take j).any fun o=>!Rn xs n o)=false/\ay [] w u,ns.length,⟨0,rfl,by omega,bh _,rfl,Only.refl _ _⟩,?_⟩;rintro kv _ u ⟨j,rfl,tY,hj,hh,hO⟩;refine⟨fun hc=>?_,fun hc=>?_⟩
 ·have hc:=aO hc;obtain⟨ad,y,cs,g1,g2,g3,g4,g5,g6⟩:=(SliceF.only bN (by decide) hN hO (by simp)).get (bA j) (by omega);rw[aY]at g2;obtain⟨rfl,hy⟩:=g6;have hym:=bF g2;refine⟨ad,g1,y,g5,166,[],[ae (some ⟨k0,0,none⟩),ae (some ⟨k4,0,none⟩)],rfl,fu (by kernel_rfl),(aaG (h.o0 hO) hn (YY y hym) (hO.blk h0 (by simp)) (hO.blk h4 (by simp))).mono ?_⟩;rintro _ u1 ⟨rfl,cr⟩;refine⟨_,rfl,fun hb=>⟨⟨j,rfl,?_⟩,hO.cf cr⟩,fun hb=>⟨kv-1,by omega,j+1,by rw[fR (by omega) (by omega)];rfl,by omega,by omega,?_,hO.cf cr⟩⟩
  ·rw[bL (by omega:(j:Int)>=0)];exact(qx.2 ⟨y,hym,hb⟩).symm
  ·rw[bJ,g2,List.any_append,hh];simpa using hb
 ·have hc:=aR hc;rw[bq (by omega)]at hh;exact⟨⟨-1,rfl,by rw[hh];rfl⟩,hO⟩
theorem We(hF:Fo xs){n:aH}(h:¬ir xs n<1):wL xs (Rq xs n):=by
 rcases oP xs n with⟨e,_⟩ | ⟨j,x,e,hx,_⟩
 ·omega
 ·have hl:=fJ hx;unfold Rq;rw[e,kB hx,li hx];split
  ·obtain⟨p,_,h1,h2,_⟩:=hF.par hx (by omega);exact⟨by omega,by omega⟩
  ·exact⟨by omega,by omega⟩
theorem dc.kp{B:Nat}{w w':av}{s:Sl}{l:List Int}(h:dc B w s l)(hO:ay [] w w'):dc B w' s l:=Own.keep bN h fun k _ bS=>hO.block k bS (by simp)
theorem agl(w0:av){u:av}{s:Sl}{is:List Int}(h:dc w0.heap.size u s is)(hO:ay [] w0 u)(n:Int)(hn:rS n)(hm:is.length<=20000000):
  ∃y w1,(au 32 1 #[.mk 0 (O U n)]).run aq u=.ok (Sl.v y) w1/\ay [] u w1/\∃s' w2,(Builtin.append_ #[32,32] 32 #[Sl.v s,Sl.v y]).run aq w1=.ok (Sl.v s') w2/\dc w0.heap.size w2 s' (is++[n])/\ay [] w0 w2/\w1.heap.size<=w2.heap.size/\
   (∀k,k<u.heap.size->s.a≠some ⟨k,0,none⟩->w2.heap[k]? =w1.heap[k]?)/\∀k,k<u.heap.size->s.a≠some ⟨k,0,none⟩->s'.a≠some ⟨k,0,none⟩:=by
 obtain⟨y,w1,k1,k3,s',w2,g1,g2,⟨gs,g3,g4⟩,g5⟩:=jK (P:=aq) (t:=32) (ty:=32) (e:=3) (i:=Tryz.t3) (bytes:=8) (size:=1) (r:=fz) (G:=fun _=>False) (v:=O U n) (x:=n) (by kernel_rfl) (by kernel_rfl) rfl rfl rfl rfl (by decide) (by decide) (by decide) bN h hO.size rfl ⟨rfl,hn⟩ (fun _ h=>h.elim) (by omega);have z3:=k3.size;refine⟨y,w1,k1,k3,s',w2,g1,dc.of g2,((hO.cf k3).mL (g3.p (F:=fun k=>w0.heap.size<=k) fun g hg=>.inl (g4 g hg).2.1)).only fun k hk=>hk,g3.size,fun k hk hs=>g3.block k (by omega) fun hg=>hs (g4 k hg).1,fun k hk hs e=>?_⟩;rcases g5 with e' | ⟨g,e',h⟩
 ·exact hs (by rw[<-e',e])
 ·rw[e']at e;injection e with e;injection e with e;omega
theorem RT(l:List Int)(n:aH)(r:List (aH)):X9 xs l (n::r)=if ir xs n<1 then false else if(l.any fun o=>!Rn xs (Rq xs n) o)=true then false else X9 xs (l++[Rq xs n]) r:=rfl
theorem Js(h:Lx w b m0 m1 F s xs vn f){sT:Sl}{tg:List (aH)}(hT:aA ju 1 w G sT tg)(hm:tg.length<=20000000):az aq 127 #[ae (some ⟨b,0,none⟩),sT.v] w fun r w'=>r=ak (aj (X9 xs [] tg))/\ay [] w w':=by
 refine ret (alP _ _ _ _ ?_);intro k0 w0 gu fe cD;have z0:=cD.size;have C4:=h.lo.lt;have Xb:=hT.len;refine⟨fun kv l i q u=>∃(j:Nat) (al:List Int),i=(j:Int)/\kv+j=tg.length/\j<=tg.length/\q=some ⟨b,0,none⟩/\dc w.heap.size u l al/\(∀o,o∈al->wL xs o)/\al.length<=j/\X9 xs [] tg=X9 xs al (tg.drop j)/\ay [] w u/\w0.heap.size<=u.heap.size/\l.a≠some ⟨k0,0,none⟩,tg.length,
  ⟨0,[],rfl,rfl,bh _,rfl,Own.nil _ _ _ _ _ _,by simp,aX _,rfl,cD,aX _,by intro e;cases e⟩,?_⟩
 rintro kv l _ _ w1 ⟨j,al,rfl,tY,hj,rfl,hS,hal,mc,vd,cr,z1,hl0⟩;refine⟨fun hc=>?_,fun hc=>?_⟩
 ·have hc:=aO hc;obtain⟨ad,y,cs,g1,g2,g3,g4,g5,g6⟩:=(SliceF.only cP (by decide) hT cr (by simp)).get (bA j) (by omega);rw[aY]at g2;have g6:cs=[ab (T y)]:=g6;subst g6;have h1:=h.o0 cr;have hdr:tg.drop j=y::tg.drop (j+1):=by
   obtain⟨bS,e⟩:=aV.1 g2;rw[<-e,List.getElem_cons_drop]
  rw[hdr,RT]at vd;refine⟨ad,g1,_,g5,_,rfl,_,Blk.dQ h1.lo.blk 0 rfl,(Ef h1 y).mono ?_⟩;rintro _ w2 ⟨rfl,hu⟩;obtain rfl:w1=w2:=hu.symm;refine⟨_,rfl,bU.refl _ _,fun hb k3 w3 _ _ de=>⟨?_,cr.cf de⟩,fun hb k4 w4 Bl E9 dL=>?_⟩
  ·have hb:=aO hb;rw[vd,if_pos hb]
  have hb:=aR hb;rw[if_neg hb]at vd;have acP:=We h.fo hb;have z4:=dL.size;have o4:=cr.cf dL;have TV:dc w.heap.size w4 l al:=hS.kp dL;have hl4:l.a≠some ⟨k4,0,none⟩:=fun e=>by have:=(hS.blk e).2;dsimp only at this;omega
  refine⟨fun q i u=>q=some ⟨b,0,none⟩/\i=Rq xs y/\ay [] w u/\dc w.heap.size u l al/\w4.heap.size<=u.heap.size,?_,_,rfl,fun w9 fQ=>?_⟩
  ·rintro _ _ w5 ⟨rfl,rfl,o5,Nt,z5⟩ uD uh;have h5:=h.o0 o5;refine(aaH h5 acP (Nt.slice bN) hal uD uh).mono ?_;rintro _ w6 ⟨rfl,eB⟩;have z6:=eB.size;have o6:=o5.cf eB;refine⟨_,rfl,_,eB.blk uD (by simp),_,eB.blk uh (by simp),fun ha=>⟨?_,o6⟩,fun ha=>?_⟩
   ·rw[vd,if_pos ha]
   rw[if_neg (by rw[ha];decide)]at vd;have hS6:dc w.heap.size w6 l al:=Nt.kp eB;obtain⟨y1,w7,p1,p3,s',w8,q1,q2,q3,z8,q4,q5⟩:=agl w hS6 o6 (Rq xs y) (Jr acP h.ln) (by omega);have z7:=p3.size;refine⟨y1,w7,p1,p3.same (by simp;omega),s',w8,q1,fun k hk=>?_,kv-1,by omega,j+1,al++[Rq xs y],by rw[fR (by omega) (by omega)];rfl,by omega,by omega,rfl,q2,fun o ho=>?_,by rw[aP,bG];omega,vd,q3,by omega,q5 k0 (by omega) hl0⟩
   ·simp only[aU,ba,bW]at hk;rcases hk with rfl | rfl
    ·exact q4 _ (by omega) hl0
    ·exact q4 _ (by omega) hl4
   ·rcases bR.1 ho with ho | ho
    ·exact hal o ho
    ·simp only[aN]at ho;subst ho;exact acP
  ·have z9:=fQ.size;have o9:=o4.cf fQ;have h9:=h.o0 o9;obtain⟨e,_⟩ | ⟨jx,x,e,hx,_⟩:=oP xs y
   ·omega
   obtain⟨ve,b1,b2,b3,_⟩:=kH h9.sp hx;rw[e]at hb⊢;refine⟨_,Blk.dQ h9.lo.blk 1 rfl,ve,b1,x.k,b2.dQ 0 _ rfl,(yW w9 x.k).mono ?_⟩;rintro _ du ⟨rfl,hu⟩;obtain rfl:w9=du:=hu.symm;refine⟨_,rfl,bU.refl _ _,fun hh=>⟨_,rfl,fun dC eu=>?_⟩,fun hh=>⟨rfl,?_,o9,TV.kp fQ,by omega⟩⟩
   ·have C6:=eu.size;have UR:=o9.cf eu;have It:=h.o0 UR;obtain⟨Iv,c1,_,c3,_⟩:=kH It.sp hx;refine⟨_,Blk.dQ It.lo.blk 1 rfl,Iv,c1,x.pa,c3,fun dN eS=>⟨rfl,?_,UR.trans eS fun k hk=>.inr (by simp only[aN]at hk;omega),?_,by have:=eS.size;omega⟩⟩
    ·unfold Rq;rw[e,kB hx,li hx,if_pos hh]
    ·refine Own.keep bN ((TV.kp fQ).kp eu) fun k hk bS=>eS.block k bS ?_;simp only[aN];rintro rfl;exact hk.elim (fun h=>h) fun h=>hl4 h.2
   ·unfold Rq;rw[e,kB hx,if_neg (by rw[hh];decide)]
 ·have hc:=aR hc;have qt:j=tg.length:=by omega
  subst qt;rw[ki (aX _)]at vd;exact⟨by rw[vd];rfl,cr⟩
end
section
variable {w w':av} {b m0 m1:Nat} {F G:aJ} {s:Sl} {xs:List cN} {vn:List (aH)} {f g:Ft}
theorem Hf{l:List Nd}{j:Nat}{y:Nd}(h:l[j]? =some y):N6 (l.take (j+1))=N6 (l.take j)+if lg y.b.k=true then 0 else 1:=by
 unfold N6;rw[bJ,h,fj,aP];simp only[Option.toList,qw,eG];cases lg y.b.k<;>simp
theorem aaI(l:List Nd):N6 l<=l.length:=da _ _
theorem RU{D:Nat}{bb:Nb}{ks:List Nd}{cs:aI}(hx:ol false (D+1) w G (.mk bb ks) cs)(hG:∀k,G k->k≠b)(h:Lx w b m0 m1 F s xs vn f){n:Nat}(hn:n<xs.length):
  az aq 124 #[ae (some ⟨b,0,none⟩),ah cs.toArray,O U (n:Int)] w fun r w'=>r=ak (ai #[])/\Lx w' b m0 m1 F s xs vn (oY f (Ax xs bb ks n))/\ay [b] w w':=by
 obtain⟨en,lv,mv,kids,nP,_,gu⟩:=hx;have hk:=gu.1;clear gu;dsimp only[Nd.kids,Nd.b]at hk nP;subst nP;refine ret (alI _ _ _ _ _ _ _ _ _ _ _ _ _ ?_);intro k0 w0 gu fe cD;have z0:=cD.size;have C4:=h.lo.lt;have Tu:=hk.len;have aws:=hk.cap;have awt:=hk.big;have TY:k0≠b:=by omega
 refine⟨fun kv c bg i u=>∃j:Nat,i=(j:Int)/\kv+j=ks.length/\j<=ks.length/\c=(N6 (ks.take j):Nat)/\bg=VX bb.ini (ks.take j)/\ay [] w u/\w0.heap.size<=u.heap.size,ks.length,⟨0,rfl,by omega,bh _,rfl,rfl,cD,aX _⟩,?_⟩;rintro kv _ _ _ w1 ⟨j,rfl,tY,hj,rfl,rfl,cr,z1⟩;refine⟨fun hc=>?_,fun hc=>?_⟩
 ·have hc:=aO hc;obtain⟨ad,y,ds,a1,a2,a3,a4,a5,a6⟩:=(SliceF.only (cG false D) (by decide) hk cr (by simp)).get (bA j) (by omega);rw[aY]at a2;obtain⟨D',rfl⟩:∃D',D=D'+1:=by
   cases D with
   | zero=>exact a6.elim
   | succ D'=>exact⟨D',rfl⟩
  obtain⟨vu,xH,rQ,kK,rfl,_⟩:=a6;have ph:=aaI (ks.take j);have rO:(ks.take j).length<=j:=by rw[cT];omega
  refine⟨ad,a1,_,_,_,_,vu,xH,rQ,kK,_,a5,fun k3 w2 wG rL cR=>?_⟩;have z2:=cR.size;refine⟨fun c u=>c=(N6 (ks.take (j+1)):Nat)/\ay [] w2 u,?_,(yW w2 y.b.k).mono ?_⟩
  ·rintro _ w3 ⟨rfl,de⟩;have z3:=de.size;refine⟨kv-1,by omega,j+1,by rw[fR (by omega) (by omega)];rfl,by omega,by omega,rfl,?_,(cr.cf cR).cf de,by omega⟩;unfold VX;rw[bJ,a2,List.any_append,mA];simp
  ·rintro _ w4 ⟨rfl,hu⟩;obtain rfl:w2=w4:=hu.symm;refine⟨_,rfl,bU.refl _ _,fun hh=>⟨?_,Only.refl _ _⟩,fun hh=>⟨?_,Only.refl _ _⟩⟩
   ·rw[fR (by omega) (by omega),Hf a2,if_neg (by intro e;rw[e]at hh;cases hh)];rfl
   ·rw[Hf a2,if_pos (by simpa using hh)];rfl
 ·have hc:=aR hc;have qt:j=ks.length:=by omega
  subst qt;rw[bq (aX _)];have h1:=h.o0 cr;have q0:∀u:aH,((T u).toList==(ao #[]).toList)=decide (u=[]):=fun u=>mA u [];refine(yW w1 bb.k).mono ?_;rintro _ w5 ⟨rfl,hu⟩;obtain rfl:w1=w5:=hu.symm;refine⟨_,rfl,bU.refl _ _,fun hh w6 eB=>?_,fun hh=>⟨fun hp=>?_,fun hp=>⟨fun hs=>?_,fun hs=>?_⟩⟩⟩
  ·have z6:=eB.size;have o6:=cr.cf eB;have h6:=h.o0 o6;have Zd:Ax xs bb ks n=bad (stM xs bb.dft&&sL xs (ir xs bb.dft) (GW xs n)) 26 bb.a:=by unfold Ax;rw[if_pos hh]
   refine⟨_,Blk.dQ h6.lo.blk 0 rfl,(Ef h6 bb.dft).mono ?_⟩;rintro _ w7 ⟨rfl,hu⟩;obtain rfl:w6=w7:=hu.symm;refine⟨_,rfl,bU.refl _ _,fun u=>Lx u b m0 m1 F s xs vn (oY f (Ax xs bb ks n))/\ay [b] w u,fun u h=>⟨rfl,h.1,h.2⟩,fun w9 fQ=>?_⟩;have z9:=fQ.size;have o9:=o6.cf fQ;have h9:=h.o0 o9;refine⟨fun k=>k=k0,rfl,(Hd h9 (by rcases AK xs bb.dft with h | ⟨j,h,hl⟩<;>omega)).mono ?_⟩;rintro _ du ⟨rfl,hu⟩;obtain rfl:w9=du:=hu.symm;obtain⟨x,hx⟩:=gV hn;obtain⟨ad,a1,a2,a3,_⟩:=kH h9.sp hx;refine⟨_,rfl,bU.refl _ _,bP.refl _ _,fun hb=>⟨s,Blk.dQ h9.lo.blk 1 rfl,s,Blk.dQ h9.lo.blk 1 rfl,ad,a1,x.pa,a3,(xp h9.sp h9.fo (ir xs bb.dft) x.pa).mono ?_⟩,fun hb=>(lm h9 false 26 bb.a).mono ?_⟩
   ·rintro _ dC ⟨rfl,hu⟩;obtain rfl:w9=dC:=hu.symm;refine⟨_,rfl,bU.refl _ _,bP.refl _ _,(lm h9 _ 26 bb.a).mono ?_⟩;rintro _ dN ⟨rfl,Kw,eS⟩;refine⟨rfl,eS.same (by simp;omega),Eg eS TY,?_,sR (yF o9) eS⟩;have e1:Jp xs (ir xs bb.dft) x.pa=sL xs (ir xs bb.dft) x.pa:=by rw[bX,wq,Ay]
    rw[Zd,li hx,<-e1,show stM xs bb.dft=true from hb,cO];exact Kw
   ·rintro _ fb ⟨rfl,u9,eH⟩;refine⟨rfl,eH.same (by simp;omega),Eg eH TY,?_,sR (yF o9) eH⟩;rw[Zd,show stM xs bb.dft=false from hb,dU];exact u9
  ·have hp:bb.k=2:=by simpa using hp
   have Zd:Ax xs bb ks n=bad (decide (bb.ini=[])&&decide (1<N6 ks)) 25 bb.a:=by unfold Ax;rw[if_neg (by rw[hh];decide),if_pos hp]
   rw[q0,show decide ((N6 ks:Int)>1)=decide (1<N6 ks)from iP.2 (by omega)];refine(lm h1 _ 25 bb.a).mono ?_;rintro _ fk ⟨rfl,h14,ep⟩;exact⟨rfl,ep.same (by simp;omega),rfl,by rw[Zd];exact h14,sR (yF cr) ep⟩
  ·have hp:bb.k≠2:=by simpa using hp
   have hs:=aO hs;have Zd:Ax xs bb ks n=bad (VX bb.ini ks) 25 bb.a:=by unfold Ax;rw[if_neg (by rw[hh];decide),if_neg hp,if_pos (by omega)]
   refine(lm h1 _ 25 bb.a).mono ?_;rintro _ fk ⟨rfl,h14,ep⟩;exact⟨rfl,ep.same (by simp;omega),rfl,by rw[Zd];exact h14,sR (yF cr) ep⟩
  ·have hp:bb.k≠2:=by simpa using hp
   have hs:=aR hs;have Zd:Ax xs bb ks n=bad (decide (bb.ini=[])) 25 bb.a++bad (decide (ks.length=0)) 26 bb.a:=by unfold Ax;rw[if_neg (by rw[hh];decide),if_neg hp,if_neg (by omega)]
   rw[q0];refine(lm h1 _ 25 bb.a).mono ?_;rintro _ gI ⟨rfl,h16,iR⟩;have z16:=iR.size;have e0:((kids.n:Int)==0)=decide (ks.length=0):=by rw[Tu,bX];simp
   rw[e0];refine⟨rfl,iR.same (by simp;omega),(lm h16 _ 26 bb.a).mono ?_⟩;rintro _ gf ⟨rfl,PG,io⟩;exact⟨rfl,io.same (by simp;omega),rfl,by rw[Zd,jv];exact PG,sR (sR (yF cr) iR) io⟩
theorem agm(u:av)(l:Sl):∃y w1,(au 237 1 #[.mk 0 l.v]).run aq u=.ok (Sl.v y) w1/\ay [] u w1/\aA He 1 w1 (fun _=>True) y [l]:=by
 obtain⟨y,w1,k1,k2,k3,_⟩:=gY (P:=aq) (t:=237) (e:=23) (i:=Tryz.t23) (z:=Sl.nil.v) (w:=u) (F:=fun _=>False) (vs:=[l.v]) (parts:=#[.mk 0 l.v]) (len:=1) (xs:=[l]) (r:=He) (size:=1) (by kernel_rfl) (by kernel_rfl) rfl rfl (by decide) rfl rfl (by decide) (by decide) qY ⟨⟨rfl,rfl⟩,trivial⟩;exact⟨y,w1,k1,k3,(k2.slice qY).mono qY fun _ _=>trivial⟩
theorem agn(u:av)(l m:Sl):∃y w1,(au 237 2 #[.mk 0 l.v,.mk 1 m.v]).run aq u=.ok (Sl.v y) w1/\ay [] u w1/\aA He 1 w1 (fun _=>True) y [l,m]:=by
 obtain⟨y,w1,k1,k2,k3,_⟩:=gY (P:=aq) (t:=237) (e:=23) (i:=Tryz.t23) (z:=Sl.nil.v) (w:=u) (F:=fun _=>False) (vs:=[l.v,m.v]) (parts:=#[.mk 0 l.v,.mk 1 m.v]) (len:=2) (xs:=[l,m]) (r:=He) (size:=1) (by kernel_rfl) (by kernel_rfl) rfl rfl (by decide) rfl rfl (by decide) (by decide) qY ⟨⟨rfl,rfl⟩,⟨rfl,rfl⟩,trivial⟩;exact⟨y,w1,k1,k3,(k2.slice qY).mono qY fun _ _=>trivial⟩
theorem RV:∀(D:Nat) {w:av} {x:Nd} {cs:aI} {f:Ft} {n:Nat},ol false D w G x cs->(∀k,G k->k≠b)->Lx w b m0 m1 F s xs vn f->n+iQ x<=xs.length->mO x<=8388608->
  az aq 85 #[ae (some ⟨b,0,none⟩),ah cs.toArray,O U (n:Int)] w fun r w'=>r=ak (O U ((n+iQ x:Nat):Int))/\Lx w' b m0 m1 F s xs vn (oY f (Pe xs vn n x))/\ay [b] w w'
 | 0,_,_,_,_,_,h,_,_,_,_=>h.elim
 | D+1,w,.mk bb ks,cs,f,n,hx,hG,h,hn,hz=>by
  have hx0:=hx;obtain⟨en,lv,mv,kids,nP,⟨BU,FC,qy⟩,gu⟩:=hx;have hk:=gu.1;have BU:=BU.1;have FC:=FC.1;have qy:=qy.1;clear gu;dsimp only[Nd.kids,Nd.b]at hk nP BU FC qy;subst nP;rw[iQ]at hn;rw[mO]at hz;have WK:=hz;unfold CE at WK;have WO:=mH bb.en;have Ka:=mH bb.lv;have Tu:=hk.len;have Bx:=qy.len;have KA:=h.ln;have awu:=qy.cap;have awv:=qy.big;have aww:=pW ks;refine ret (alH _ _ _ _ _ _ _ _ _ _ _ _ _ ?_);intro k0 w0 gu fe cD;have z0:=cD.size;have C4:=h.lo.lt;have TY:k0≠b:=by omega
  have tr:∀{u v:av},ay [b] w u->ay [b] u v->ay [b] w v:=fun h g=>sR h g;refine(RU ((cG false (D+1)).keep hx0 fun k hk bS=>cD.block k bS (by simp)) hG (h.o0 cD) (n:=n) (by omega)).mono ?_;rintro _ w1 ⟨rfl,h1,cr⟩;have z1:=cr.size;have o1:=tr (yF cD) cr;obtain⟨y,w2,p1,p2,p3⟩:=agn w1 en lv;have z2:=p2.size;have o2:=o1.cf p2;have row:∀{u:av} {sl:Sl} {l:List Ac},aA (rA false) 9 w G sl l->ay [b] w u->aA (rA false) 9 u G sl l:=fun hs hO=>SliceF.only (dq false) (by decide) hs hO fun k hk _ hm=>hG k hk (by simpa using hm);refine⟨rfl,cr.same (by simp;omega),y,w2,p1,p2.same (by simp;omega),(Mz (l:=[(en,bb.en),(lv,bb.lv)]) p3 (fun p hp=>?_) ?_ hG (h1.o0 p2)).mono ?_⟩
  ·simp only[aU,ba,bW]at hp;rcases hp with rfl | rfl
   ·exact row BU o2
   ·exact row FC o2
  ·unfold lZ;simp only[vB,O7,aP,bQ];omega
  rintro _ w3 ⟨rfl,h3,de⟩;have z3:=de.size;have o3:=tr o2 de;have acQ:lZ [(en,bb.en),(lv,bb.lv)]=bb.en++bb.lv:=by unfold lZ;simp
  rw[acQ]at h3;refine⟨rfl,de.same (by simp;omega),fun kv i u=>∃j:Nat,i=(j:Int)/\kv+j=bb.mv.length/\j<=bb.mv.length/\Lx u b m0 m1 F s xs vn (oY f (Ax xs bb ks n++(ue xs vn (bb.en++bb.lv)++(bb.mv.take j).flatMap (Ib xs vn))))/\ay [b] w u/\w0.heap.size<=u.heap.size,bb.mv.length,
   ⟨0,rfl,by omega,bh _,by rw[cM,O7,bQ,jv];exact h3,o3,by omega⟩,?_⟩
  rintro kv _ w4 ⟨j,rfl,tY,hj,h4,o4,z4⟩;refine⟨fun hc=>?_,fun hc=>?_⟩
  ·have hc:=aO hc;obtain⟨ad,m,ds,a1,a2,a3,a4,a5,a6⟩:=(SliceF.only (lV false) (by decide) qy o4 fun k hk _ hm=>hG k hk (by simpa using hm)).get (bA j) (by omega);rw[aY]at a2;obtain⟨gc,tv,tg,rfl,Za,yr,vd⟩:=a6;obtain⟨gs,rfl⟩:=jc Za;have yr:=yr.1;have vd:=vd.1;have hmz:=sQ (bF a2);unfold Jo at hmz;have hal:=mH m.acts;have BR:=yV m.tg;have WZ:=h4.lo.lt;refine⟨ad,a1,_,_,_,_,_,_,_,_,gs,_,tv,tg,_,a5,fun k3 w5 wG rL eP=>?_⟩;have z5:=eP.size;have h5:=h4.o0 eP;have apg:k3≠b:=by omega
   refine(lm h5 (af8 m) 28 m.a).mono ?_;rintro _ w6 ⟨rfl,h6,eB⟩;have z6:=eB.size;obtain⟨d,hxd⟩:=Za;refine⟨rfl,eB.same (by simp;omega),(Eh d ((kA false d).keep hxd fun k hk bS=>?_) hG h6).mono ?_⟩
   ·exact(eB.block k (by omega) (by simpa using hG k hk)).trans (eP.block k bS (by simp))
   rintro _ w7 ⟨rfl,h7,fE⟩;have z7:=fE.size;obtain⟨y8,w8,q1,q2,q3⟩:=agm w7 tv;have z8:=q2.size;have s7:ay [b] w5 w7:=sR eB fE;have s8:ay [b] w4 w8:=(sR (yF eP) s7).cf q2;refine⟨rfl,fE.same (by simp;omega),y8,w8,q1,q2.same (by simp;omega),(Mz (l:=[(tv,m.acts)]) q3 (fun p hp=>?_) ?_ hG (h7.o0 q2)).mono ?_⟩
   ·simp only[aN]at hp;subst hp;exact SliceF.only (dq false) (by decide) yr s8 fun k hk _ hm=>hG k hk (by simpa using hm)
   ·unfold lZ;simp only[vB,O7,bQ];omega
   rintro _ w9 ⟨rfl,h9,fQ⟩;have z9:=fQ.size;have acQ:lZ [(tv,m.acts)]=m.acts:=by unfold lZ;simp
   rw[acQ]at h9;refine⟨rfl,fQ.same (by simp;omega),fun du dM=>⟨fun k=>k=k3,rfl,?_⟩⟩;have PB:=dM.size;have Il:ay [b] w4 du:=(sR s8 fQ).cf dM;refine(Js (h9.o0 dM) (SliceF.only cP (by decide) vd Il fun k hk _ hm=>hG k hk (by simpa using hm)) (by omega)).mono ?_;rintro _ dC ⟨rfl,eu⟩;have C6:=eu.size;refine⟨_,rfl,eu.same (by simp;omega),bP.only eu,(lm ((h9.o0 dM).o0 eu) _ 27 m.a).mono ?_⟩;rintro _ dN ⟨rfl,Kw,eS⟩;have z12:=eS.size;refine⟨rfl,eS.same (by simp;omega),Eg eS apg,kv-1,by omega,j+1,by rw[fR (by omega) (by omega)];rfl,by omega,by omega,?_,tr o4 (sR (Il.cf eu) eS),by omega⟩;have e1:(bb.mv.take (j+1)).flatMap (Ib xs vn)=(bb.mv.take j).flatMap (Ib xs vn)++Ib xs vn m:=by
    rw[bJ,a2,jI];simp
   have e2:Ax xs bb ks n++(ue xs vn (bb.en++bb.lv)++((bb.mv.take j).flatMap (Ib xs vn)++Ib xs vn m))=(Ax xs bb ks n++(ue xs vn (bb.en++bb.lv)++(bb.mv.take j).flatMap (Ib xs vn)))++Ib xs vn m:=by simp only[bH]
   rw[e1,e2,jv,Ib,jv,jv,jv];exact Kw
  ·have hc:=aR hc;have qt:j=bb.mv.length:=by omega
   subst qt;rw[bq (aX _)]at h4;refine⟨fun kv a i u=>∃j:Nat,i=(j:Int)/\kv+j=ks.length/\j<=ks.length/\a=((n+1+dJ (ks.take j):Nat):Int)/\Lx u b m0 m1 F s xs vn (oY f (Ax xs bb ks n++(ue xs vn (bb.en++bb.lv)++(bb.mv.flatMap (Ib xs vn)++qV xs vn (n+1) (ks.take j)))))/\ay [b] w u/\w0.heap.size<=u.heap.size,ks.length,
    ⟨0,rfl,by omega,bh _,by rw[fR (by omega) (by omega)];rfl,by rw[cM,qV,bQ];exact h4,o4,z4⟩,?_⟩
   rintro kv _ _ fb ⟨j,rfl,tY,hj,rfl,u9,o13,PF⟩;refine⟨fun hc=>?_,fun hc=>?_⟩
   ·have hc:=aO hc;obtain⟨ad,y,ds,a1,a2,a3,a4,a5,a6⟩:=(SliceF.only (cG false D) (by decide) hk o13 fun k hk _ hm=>hG k hk (by simpa using hm)).get (bA j) (by omega);rw[aY]at a2;have US:=a6;obtain⟨D',rfl⟩:∃D',D=D'+1:=by
     cases D with
     | zero=>exact a6.elim
     | succ D'=>exact⟨D',rfl⟩
    obtain⟨vu,xH,rQ,kK,rfl,_⟩:=US;have lC:=nM a2;have hzy:=nX (bF a2);refine⟨ad,a1,_,_,_,_,vu,xH,rQ,kK,_,a5,fun k7 fk hk7 Xd ep=>?_⟩;have W0:=ep.size;have awx:=u9.lo.lt;refine(RV (D'+1) ((cG false (D'+1)).keep a6 fun k _ bS=>ep.block k bS (by simp)) hG (u9.o0 ep) (n:=n+1+dJ (ks.take j)) (by omega) (by omega)).mono ?_;rintro _ fZ ⟨rfl,PH,gL⟩;have z15:=gL.size;have e:ks.take (j+1)=ks.take j++[y]:=by rw[bJ,a2];rfl
    refine⟨_,rfl,gL.same (by simp;omega),kv-1,by omega,j+1,by rw[fR (by omega) (by omega)];rfl,by omega,by omega,?_,?_,tr (o13.cf ep) gL,by omega⟩
    ·have:dJ (ks.take (j+1))=dJ (ks.take j)+iQ y:=by rw[e,Av,dJ,dJ];omega
     omega
    ·have e2:Ax xs bb ks n++(ue xs vn (bb.en++bb.lv)++(bb.mv.flatMap (Ib xs vn)++(qV xs vn (n+1) (ks.take j)++Pe xs vn (n+1+dJ (ks.take j)) y)))=(Ax xs bb ks n++(ue xs vn (bb.en++bb.lv)++(bb.mv.flatMap (Ib xs vn)++qV xs vn (n+1) (ks.take j))))++Pe xs vn (n+1+dJ (ks.take j)) y:=by simp only[bH]
     rw[e,G0,qV,qV,bQ,e2,jv];exact PH
   ·have hc:=aR hc;have qt:j=ks.length:=by omega
    subst qt;rw[bq (aX _)]at u9⊢;refine⟨?_,by rw[Pe];exact u9,o13⟩;rw[iQ];congr 2;omega
end
def fU(c:Ch):Ft:=if(gr c).2≠0 then((gr c).2, -1)else oY (0,0) (Cx c)
theorem Hg{w:av}{F:aJ}{D:Nat}{c:Ch}{vs:Sl}{cs:aI}(hx:ChR false (D+1) w F c vs cs)(hn:UL c)(hs:qX c.vars+mO c.root<=8388608)(hE:Er w)(hT:Tb w):
  az aq 41 #[ah (vs.v::cs).toArray] w fun e w'=>e=ak (ah #[O U (fU c).1,O U (fU c).2])/\ay [] w w':=by
 have hxr:=hx.root;obtain⟨en,lv,mv,kids,nP,_⟩:=hx.root;subst nP;refine ret (alE _ _ _ _ _ _ _ _ _ _ _ _ ?_);intro k0 k1 w0 gu fe j5 iX cD;have z0:=cD.size;have keep:∀{u:av},ay [] w u->ChR false (D+1) u F c vs (nE c.root.b.k c.root.b.nm c.root.b.ini c.root.b.dft en lv mv kids c.root.b.a):=fun hO=>⟨hx.vars.keep fA (by decide) fun k _ bS=>hO.block k bS (by simp),(cG false _).keep hx.root fun k _ bS=>hO.block k bS (by simp)⟩
 refine(RL (keep cD) hn hs (hE.only cD) (hT.only cD)).mono ?_;rintro _ w1 ⟨⟨t,rfl,ht,_⟩,cr⟩;have z1:=cr.size;have o1:=cD.cf cr;refine⟨_,_,rfl,cr.same (by simp;omega),fun hc w2 cR=>?_,fun hc=>?_⟩
 ·have hc:(gr c).2≠0:=by simpa using hc
  unfold fU;rw[if_pos hc];exact⟨rfl,o1.trans cR fun k hk=>.inr (by simp only[aN]at hk;omega)⟩
 have hc:(gr c).2=0:=by simpa using hc
 have elm:fU c=oY (0,0) (Cx c):=by unfold fU;rw[if_neg (fun h=>h hc)]
 rw[elm];have ht:=ht hc;have hnd:=tL hc;obtain⟨r3,hM3,de⟩:=MapV.make (P:=aq) (mty:=153) (kv:=kS) (g:=gS) w1;have hl3:=hM3.lt;refine⟨_,_,r3,de.same (by simp;omega),?_⟩;generalize w1.alloc (.map #[] 0)=w3 at*
 obtain⟨r4,hM4,dL⟩:=MapV.make (P:=aq) (mty:=153) (kv:=kS) (g:=gS) w3;have hl4:=hM4.lt;have z3:=de.size;refine⟨_,_,r4,dL.same (by simp;omega),?_⟩;generalize w3.alloc (.map #[] 0)=w4 at*
 have z4:=dL.size;intro b w5 hb j9 eP u7;have z5:=eP.size;have o5:=((o1.cf de).cf dL).cf eP;have Zb:Lo w5 b w1.heap.size w3.heap.size Sl.nil [] [] (0,0):=⟨u7,(((hM3.only dL (by simp)).only eP (by simp)).ext fun k=>rfl).le (aX _),((hM4.only eP (by simp)).ext fun k=>rfl).le (aX _),by omega,by omega⟩
 have hxh:ol false (D+1) w (fun k=>k<w.heap.size) c.root (nE c.root.b.k c.root.b.nm c.root.b.ini c.root.b.dft en lv mv kids c.root.b.a):=(cG false _).mono ((cG false _).inHeap hxr) fun k hk=>hk.2;have hvh:aA Uf 3 w (fun k=>k<w.heap.size) vs c.vars:=(hx.vars.1.inHeap fA (by decide)).mono fA fun k hk=>hk.2;refine(RQ (D+1) ((cG false _).keep hxh fun k hk bS=>o5.block k bS (by simp)) (fun k hk=>by omega) Zb (Own.nil _ _ _ _ _ _) (by omega) (by rw[cz];omega)).mono ?_;rintro _ w6 ⟨rfl,s6,OW,hS6,m6⟩;have z6:=m6.1.size;rw[ck]at OW;have enm:(Jg c.root).map (fun p=>p.1)=(cF c).map fun x:cN=>x.nm:=(Rr 0 (-1) 0 c.root).symm;rw[enm]at OW;have p6:aD (fun k=>w1.heap.size<=k) w w6:=(o5.p0).trans m6.1 fun k hk=>.inl (hk.elim (fun h=>by omega) fun h=>by cases h);have s56:bU [k0,k1] w5 w6:=m6.1.same fun x hx=>by
  simp only[aU,ba,bW]at hx;rcases hx with rfl | rfl
  ·exact⟨by omega,fun h=>h.elim (by omega) fun h=>by cases h⟩
  ·exact⟨by omega,fun h=>h.elim (by omega) fun h=>by cases h⟩
 have hvl:=hvh.len;have hvz:=wo c.vars;refine⟨rfl,s56,_,s6,_,_,_,OW.blk,fun kv i p l q x y u=>∃(j:Nat) (f:Ft),i=(j:Int)/\kv+j=c.vars.length/\j<=c.vars.length/\p=some w1.heap.size/\q=some w3.heap.size/\f=(x,y)/\Lo u b w1.heap.size w3.heap.size l ((cF c).map fun x:cN=>x.nm) ((Ic c).take j) f/\f=oY (0,0) (xW [] (Jg c.root)++xW [] ((c.vars.take j).map fun v=>(v.n,v.a)))/\aD (fun k=>w1.heap.size<=k) w u/\aD (fun k=>k=b∨k=w3.heap.size) w6 u,c.vars.length,
  ⟨0,_,rfl,by omega,bh _,rfl,rfl,rfl,OW,by rw[cM,eV,xW,bQ],p6,OnlyP.refl _ _⟩,?_⟩
 rintro kv _ _ l2 _ _ _ w7 ⟨j,f,rfl,tY,hj,rfl,rfl,hf,Fh,hfe,p7,p67⟩;have z7:=p67.size;refine⟨fun bS=>?_,fun rl=>?_⟩
 ·have bS:=aO bS;obtain⟨ad,v,ds,a1,a2,a3,a4,a5,a6⟩:=(SliceF.jV fA (by decide) hvh p7 fun k hk _=>by omega).get (bA j) (by omega);rw[aY]at a2;have a6:ds=[ab (T v.n),O U v.v,O U v.a]:=a6;subst a6;have yj:=AI (bF a2);have hgv:gS v.n:=by
   show v.n.length<=maxLen;have:maxLen=9223372036854775807:=rfl;omega
  have j8:((Ic c).take j).length=j:=by rw[cT];unfold Ic;rw[bm];omega
  refine⟨ad,a1,_,_,_,a5,fun k5 w8 C7 H2 fy vt=>?_⟩;have z8:=fy.size;have Tr:=Fh.lt;have c9:=RP (Fh.o0 fy) hgv v.a;rw[j8]at c9;refine c9.mono ?_;rintro _ w9 ⟨rfl,hL9,fQ⟩;have z9:=fQ.size;have ev:(Ic c).take (j+1)=(Ic c).take j++[v.n]:=by
   rw[bJ];unfold Ic;rw[ch,a2];rfl
  refine⟨rfl,fQ.same (by simp;omega),_,_,_,_,_,hL9.blk,kv-1,by omega,j+1,_,by rw[fR (by omega) (by omega)];rfl,by omega,by omega,rfl,rfl,rfl,by rw[ev];exact hL9,?_,(p7.cf fy).trans (fQ.p (F:=fun k=>w1.heap.size<=k) fun k hk=>.inl (by simp only[aU,ba,bW]at hk;omega)) fun k hk=>.inl hk,(p67.cf fy).trans (fQ.p (F:=fun k=>k=b∨k=w3.heap.size) fun k hk=>.inl (by simpa using hk)) fun k hk=>.inl hk⟩;rw[hfe,<-jv];have ed:xW [] ((c.vars.take (j+1)).map fun v=>(v.n,v.a))=xW [] ((c.vars.take j).map fun v=>(v.n,v.a))++bad (!decide (v.n∈(Ic c).take j)) 24 v.a:=by
   rw[bJ,a2,cJ,Ea,ck];simp only[Option.toList,bD,eV,xW,bQ,gD];unfold Ic;rw[<-mY];rfl
  rw[ed,bH]
 ·have rl:=aR rl;have qt:j=c.vars.length:=by omega
  subst qt;intro du dM wF n0 n1;have PB:=dM.size;have hvt:(Ic c).take c.vars.length=Ic c:=bq (by unfold Ic;rw[bm];exact aX _);rw[hvt]at Fh;rw[bq (aX _)]at hfe;have acR:Lo du b w1.heap.size w3.heap.size t ((cF c).map fun x:cN=>x.nm) (Ic c) f:=Fh.nI dM (by subst hf;exact wF);have UJ:aD (fun k=>w1.heap.size<=k) w du:=p7.trans (dM.p (F:=fun k=>w1.heap.size<=k) fun k hk=>.inl (by simp only[aN]at hk;omega)) fun k hk=>.inl hk;have Fg:aA pb 5 du (fun k=>k<w1.heap.size) t (cF c):=by
   have h0:=(ht.sl.inHeap dk (by decide)).mono dk (G:=fun k=>k<w1.heap.size) fun k hk=>hk.2;have q5:ay [] w1 w5:=(de.cf dL).cf eP;have h1:=SliceF.only dk (by decide) h0 q5 (by simp);have h2:=SliceF.jV dk (by decide) h1 m6.1 fun k hk _ h=>h.elim (by omega) fun h=>by cases h
   have h3:=SliceF.jV dk (by decide) h2 p67 fun k hk _ h=>by omega
   exact SliceF.only dk (by decide) h3 dM fun k hk _ hm=>by simp only[aN]at hm;omega
  have hX:Lx du b w1.heap.size w3.heap.size (fun k=>k<w1.heap.size) t (cF c) (Ic c) f:=⟨acR,Fg,yT c,by unfold cF;rw[lh];exact hnd,fun k hk=>by omega⟩
  refine(RV (n:=0) (D+1) ((cG false (D+1)).keep hxh fun k hk bS=>UJ.block k bS (by omega)) (fun k hk=>by omega) hX (by unfold cF;rw[lh];omega) (by omega)).mono ?_;rintro _ dC ⟨rfl,It,eu⟩;have C6:=eu.size;have hg:oY f (Pe (cF c) (Ic c) 0 c.root)=oY (0,0) (Cx c):=by
   rw[hfe,<-jv,bH];rfl
  rw[hg]at It;refine⟨_,rfl,eu.same (by simp;omega),_,_,_,_,_,It.lo.blk,fun dN eS _=>⟨rfl,?_⟩⟩;have p11:aD (fun k=>w.heap.size<=k) w dC:=(UJ.mono fun k _ hk=>by omega).trans (eu.p (F:=fun k=>w.heap.size<=k) fun k hk=>.inl (by simp only[aN]at hk;omega)) fun k hk=>.inl hk;exact(p11.only fun k hk=>hk).trans eS fun k hk=>.inr (by simp only[aN]at hk;omega)
def lp(l:aH):Ft:=if(dE l).2.1=0 then fU (dE l).1 else(dE l).2
def sS(l:aH):Ch:=if(lp l).1=0 then(dE l).1 else ch0
theorem MA{w:av}(l:aH)(hn:UL (dE l).1)(hs:qX (dE l).1.vars+mO (dE l).1.root<=8388608)(hE:Er w)(hT:Tb w):az aq 37 #[ab (T l)] w fun e w'=>
  ∃(vs:Sl) (cs:aI),e=ak (ai #[ah (vs.v::cs).toArray,ah #[O U (lp l).1,O U (lp l).2]])/\ChR true 15 w' (Fr w.heap.size) (sS l) vs cs/\ay [] w w':=by
 refine(alD (T l) (fun v w'=>∃(vs:Sl) (cs:aI),v=(ai #[ah (vs.v::cs).toArray,ah #[O U (lp l).1,O U (lp l).2]])/\ChR true 15 w' (Fr w.heap.size) (sS l) vs cs/\ay [] w w') w ?_).mono (by
  rintro e w' ⟨v,rfl,vs,cs,rfl,h⟩;exact⟨vs,cs,rfl,h⟩)
 intro k0 k1 w0 gu fe j5 iX cD;have z0:=cD.size;refine(G5 l (hE.only cD)).mono ?_;rintro _ w1 ⟨vs,cs,rfl,hC,cr⟩;have z1:=cr.size;have o1:=cD.cf cr;obtain⟨xe,xl,xm,xk,rfl,_⟩:=hC.root;refine⟨vs,_,_,_,_,xe,xl,xm,xk,_,_,_,rfl,cr.same (by simp;omega),fun k2 k3 w2 rm rn wG rL cR=>?_⟩;have z2:=cR.size;have o2:=o1.cf cR;have kC:∀{u:av},ay [] w1 u->ChR true 15 u (Fr w0.heap.size) (dE l).1 vs (nE (dE l).1.root.b.k (dE l).1.root.b.nm (dE l).1.root.b.ini (dE l).1.root.b.dft xe xl xm xk (dE l).1.root.b.a):=fun{u} hO=>
  ⟨hC.vars.keep fA (by decide) fun k _ bS=>hO.block k bS (by simp),(cG true 15).keep hC.root fun k _ bS=>hO.block k bS (by simp)⟩
 have fin:∀{u v:av},ay [] w u->ay [k1,k0] u v->ay [] w v:=fun h1 h2=>h1.trans h2 fun x hx=>.inr (by simp only[aU,ba,bW]at hx;omega);refine⟨fun a b u=>(a,b)=lp l/\ay [] w1 u/\w2.heap.size<=u.heap.size,?_,fun hc=>?_,fun hc=>⟨?_,cR,aX _⟩⟩
 ·rintro a b w3 ⟨he,de,z3⟩;have e1:(lp l).1=a:=by rw[<-he]
  have e2:(lp l).2=b:=by rw[<-he]
  refine⟨fun hc w4 dL n1 n2 n3 n4 n5 n6=>⟨fun k=>k=k3,rfl,?_,?_,fun w5 eP=>⟨Sl.nil,_,by rw[e1,e2],?_,fin ((o1.cf de).cf dL) eP⟩⟩,fun hc w6 eB n1 n2 n3 n4 n5 n6=>⟨fun k=>k=k3,rfl,?_,?_,fun w7 fE=>⟨vs,_,by rw[e1,e2],?_,fin ((o1.cf de).cf eB) fE⟩⟩⟩
  ·exact fun h=>n3 h
  ·exact fun h=>n5 h
  ·have hc:a≠0:=by simpa using hc
   unfold sS;rw[e1,if_neg hc];exact⟨jM.nil _ _ _ _ _ _,Rx (by decide) w5 _⟩
  ·exact fun h=>n3 h
  ·exact fun h=>n5 h
  ·have hc:a=0:=by simpa using hc
   unfold sS;rw[e1,if_pos hc];have hC6:=kC (de.cf eB);have ap:∀k,Fr w0.heap.size k->k∉[k1,k0]:=fun k (hk:w0.heap.size<=k)=>by simp;omega
   have lo:∀k,Fr w0.heap.size k->Fr w.heap.size k:=fun k (hk:w0.heap.size<=k)=>(by omega:w.heap.size<=k)
   exact⟨(hC6.vars.keep fA (by decide) fun k hk bS=>fE.block k bS (ap k hk)).mono fA lo,(cG true 15).mono ((cG true 15).keep hC6.root fun k hk bS=>fE.block k bS (ap k hk)) lo⟩
 ·have hc:(dE l).2.1=0:=by simpa using hc
  refine(Hg (D:=14) (kC cR).off hn hs (hE.only o2) (hT.only o2)).mono ?_;rintro _ w8 ⟨rfl,fy⟩;have z8:=fy.size;refine⟨_,_,rfl,fy.same (by simp;omega),fun w9 fQ=>⟨?_,?_,by have:=fQ.size;omega⟩⟩
  ·unfold lp;rw[if_pos hc]
  ·exact(cR.cf fy).trans fQ fun x hx=>.inr (by simp only[aN]at hx;omega)
 ·have hc:(dE l).2.1≠0:=by simpa using hc
  unfold lp;rw[if_neg hc]
def Wf(l:aH):Bool:=nCb (dE l).1&&amF (dE l).1
theorem RW{l:aH}(h:Wf l=true):UL (dE l).1/\qX (dE l).1.vars+mO (dE l).1.root<=8388608:=by
 unfold Wf at h;rw[aQ]at h;exact⟨amE h.1,aO h.2⟩
end Go.Proofs.YtbkjcdocjfknfaaGreatDoor.Con
