import Derived.Test.YtbkjcdocjfknfaaGreatDoorQt10
set_option linter.unusedSectionVars false
namespace Go.Proofs.YtbkjcdocjfknfaaGreatDoor.Con
open Go.Value renaming int->O,string->ab,pointer->ae,agg->ah,tuple->ai,bool->aj
open Go.IntKind renaming i64->U,wrap->ar
open Go.Ending renaming returned->ak
open _root_.ByteArray renaming mk->ao
open _root_.Go.Proofs.Tryz renaming prog->aq
open Go.Instr renaming buildSlice->au
open Go renaming World->av,Value->aw,Calls->az
open Go.Kt renaming Only->ay,SliceF->aA,Cells->aB,OnlyP->aD,Blk->aF
open Go Go.RowKit Go.Kt Go.Kt.V Go.Proofs.YtbkjcdocjfknfaaGreatDoor.Vc
set_option linter.unusedSimpArgs false
set_option linter.unusedVariables false
set_option maxHeartbeats 4000000
set_option maxRecDepth 100000
theorem QY{w:av}{F:aJ}{D:Nat}{c:Ch}{vs:Sl}{cs:aI}(hx:ChR false (D+1) w F c vs cs)(hn:PC c)(hs:oT c.vars+lm c.root<=8388608)(hE:Er w)(hT:Tb w):
  az aq 86 #[ah (vs.v::cs).toArray] w fun e w'=>e=ak (O U (fI c).2)/\ay [] w w':=by
 obtain⟨en,lv,mv,kids,rfl,_⟩:=hx.root;refine ret (afb _ _ _ _ _ _ _ _ _ _ _ _ ?_);intro k0 w0 gH eW cE;have hx0:ChR false (D+1) w0 F c vs (me c.root.b.k c.root.b.nm c.root.b.ini c.root.b.dft en lv mv kids c.root.b.a):=⟨hx.vars.keep fe (by decide) fun k _ bQ=>cE.block k bQ (by simp),(cw false _).keep hx.root fun k _ bQ=>cE.block k bQ (by simp)⟩
 refine(QV hx0 hn hs (hE.only cE) (hT.only cE)).mono ?_;rintro _ w1 ⟨rfl,cA⟩;exact⟨_,_,rfl,cA.same (by simp;omega),rfl,cE.cp cA⟩
theorem nV{c:Ch}(h:(fI c).2=0):gp c.root<=64:=by
 unfold fI at h;by_cases h1:My c=true
 ·unfold My at h1;simp only[aR]at h1;exact(aP h1.2).2.2.1
 ·rw[if_neg h1]at h;exact absurd h (by decide)
theorem M1{w:av}{F:aJ}{D:Nat}{c:Ch}{vs:Sl}{cs:aI}(hx:ChR false (D+1) w F c vs cs)(hn:PC c)(hs:oT c.vars+lm c.root<=8388608)(hE:Er w)(hT:Tb w):
  az aq 42 #[ah (vs.v::cs).toArray] w fun e w'=>(∃s,e=ak (ai #[Sl.v s,O U (fI c).2])/\((fI c).2=0->gu w.heap.size w' s (eY c))/\((fI c).2≠0->s=Sl.nil))/\ay [] w w':=by
 obtain⟨en,lv,mv,kids,lQ,_⟩:=hx.root;subst lQ;refine(afc vs c.root.b.k (T c.root.b.nm) (T c.root.b.ini) (T c.root.b.dft) en lv mv kids c.root.b.a (fun v w'=>(∃s,v=ai #[Sl.v s,O U (fI c).2]/\((fI c).2=0->gu w.heap.size w' s (eY c))/\((fI c).2≠0->s=Sl.nil))/\ay [] w w') w ?_).mono ?_
 ·intro k0 w0 gH eW cE;have z0:=cE.size;have keep:∀{u:av},ay [] w u->ChR false (D+1) u F c vs (me c.root.b.k c.root.b.nm c.root.b.ini c.root.b.dft en lv mv kids c.root.b.a):=fun hO=>⟨hx.vars.keep fe (by decide) fun k _ bQ=>hO.block k bQ (by simp),(cw false _).keep hx.root fun k _ bQ=>hO.block k bQ (by simp)⟩
  refine(QY (keep cE) hn hs (hE.only cE) (hT.only cE)).mono ?_;rintro _ w1 ⟨rfl,cA⟩;have z1:=cA.size;have o1:=cE.cp cA;refine⟨_,rfl,cA.same (by simp;omega),fun hc=>?_,fun hc k1 w2 lr jq cR qY=>?_⟩
  ·have hc:(fI c).2≠0:=by simpa using hc
   exact⟨⟨Sl.nil,rfl,fun h=>absurd h hc,fun _=>rfl⟩,o1⟩
  have hc:(fI c).2=0:=by simpa using hc
  have hnd:=nV hc;have o2:=o1.cp cR;have z2:=cR.size;have hr2:mr false (D+1) w2 (fun k=>k<w.heap.size) c.root (me c.root.b.k c.root.b.nm c.root.b.ini c.root.b.dft en lv mv kids c.root.b.a):=
   (cw false _).keep ((cw false _).mono ((cw false _).inHeap hx.root) fun k hk=>hk.2) fun k _ bQ=>o2.block k bQ (by simp)
  refine(S4 false (D+1) (s:=Sl.nil) (xs:=[]) (pa:= -1) (dp:=0) hr2 (fun k hk=>by omega) qY (Own.nil _ _ _ _ _ _) (by rw[cu];omega) (by decide) (by omega)).mono ?_;rintro _ w3 ⟨rfl,s',um,Yh,m3⟩;have z3:=m3.1.size;refine⟨rfl,m3.1.same fun x hx=>?_,s',um,⟨s',by rw[hc],fun _=>?_,fun h=>absurd hc h⟩,?_⟩
  ·simp only[aN]at hx;subst hx;exact⟨by omega,fun h=>h.elim (by omega) fun h=>by cases h⟩
  ·rw[cf]at Yh;exact Own.low Yh (by omega)
  ·exact(o2.oZ m3.1).only fun k hk=>hk.elim (by omega) fun h=>by cases h
 ·rintro _ w' ⟨v,rfl,⟨s,rfl,h1,h2⟩,h3⟩;exact⟨⟨s,rfl,h1,h2⟩,h3⟩
section
variable {w:av} {F:aJ} {l:Sl} {xs:List du}
theorem pu(h:aA xT 5 w F l xs){i:Nat}{x:du}(hx:xs[i]? =some x):∃ad,dy l (i:Int) 5 ad/\aB w ad (U9 x)/\aB w (ad.add 2) [O U x.pa]/\aB w (ad.add 3) [O U x.dp]/\aB w (ad.add 4) [O U x.en]:=by
 have bQ:=(aY.1 hx).1;have hl:=h.len;obtain⟨ad,y,cs,g1,g2,g3,g4,g5,g6⟩:=h.get (bm i) (by omega);rw[aZ,hx]at g2;injection g2 with g2;subst g2;have g6:cs=U9 x:=g6;subst g6;have one:∀(n:Nat) (v:aw),(U9 x)[n]? =some v->aB w (ad.add n) [v]:=fun n v hv j u hu=>by
  cases j with
  | zero=>
   rw[ck,aX]at hu;subst hu;have:=g5 n v hv;rw[nr,dx];exact this
  | succ j=>simp at hu
 exact⟨ad,g1,g5,one 2 _ rfl,one 3 _ rfl,one 4 _ rfl⟩
def Bd(xs:List du)(n:Int):Bool:=decide (n>=0)&&decide (n<(xs.length:Int))
theorem nW{n:Int}:Bd xs n=true↔vM xs n:=by
 unfold Bd vM;rw[aR,dz,dz]
theorem M2(h:aA xT 5 w F l xs)(n:Int):az aq 100 #[l.v,O U n] w fun e w'=>e=ak (aj (Bd xs n))/\w'=w:=by
 refine ret (afg _ _ _ _ ?_);rw[h.len];exact⟨rfl,rfl⟩
noncomputable def Jx(xs:List du)(b a:Int):Bool:=open Classical in decide (∃i j:Nat,b=i/\a=j/\rC xs i j)
theorem nX{b a:Int}:Jx xs b a=true↔∃i j:Nat,b=i/\a=j/\rC xs i j:=by
 unfold Jx;exact @dz _ (Classical.propDecidable _)
theorem DG(h:aA xT 5 w F l xs)(hF:Fo xs)(b a:Int):az aq 92 #[l.v,O U b,O U a] w fun e w'=>e=ak (aj (Jx xs b a))/\w'=w:=by
 refine ret (afh _ _ _ _ _ ?_);refine⟨fun r w'=>r=Jx xs b a/\w'=w,fun r w' ⟨h1,h2⟩=>⟨by rw[h1],h2⟩,(M2 h a).mono ?_⟩;rintro _ _ ⟨rfl,rfl⟩;refine⟨_,rfl,fun ha=>(M2 h b).mono ?_,fun ha=>⟨?_,rfl⟩⟩
 ·rintro _ _ ⟨rfl,rfl⟩;have ha:=nW.1 ha;by_cases hb:(Bd xs b&&decide (b<=a))=true
  ·rw[aR]at hb;have yU:=nW.1 hb.1;have ym:=aP hb.2;obtain⟨i,rfl⟩:∃i:Nat,b=i:=⟨b.toNat,by have:=yU.1;omega⟩
   obtain⟨j,rfl⟩:∃j:Nat,a=j:=⟨a.toNat,by have:=ha.1;omega⟩
   obtain⟨x,hx⟩:=mf (xs:=xs) (i:=i) (by have:=yU.2;omega);obtain⟨ad,g1,g2,_,_,g5⟩:=pu h hx;refine⟨_,rfl,ad,fun _=>g1,x.en,fun _=>g5,?_,rfl⟩;rw[hb.1,hb.2,dk,dk,bT,nX,dz];constructor
   ·exact fun h=>⟨i,j,rfl,rfl,x,hx,by omega,h⟩
   ·rintro⟨i',j',e1,e2,y,hy,h1,h2⟩;have e1:i=i':=by omega
    subst e1;rw[hx,aX]at hy;subst hy;omega
  ·rw[om]at hb;refine⟨_,rfl,⟨0,0,none⟩,fun h=>(by rw[hb]at h;cases h),0,fun h=>(by rw[hb]at h;cases h),?_,rfl⟩;rw[hb,dZ,eq_comm,<-om,nX];rintro⟨i,j,rfl,rfl,y,hy,h1,h2⟩;have:=jm hy;rw[show Bd xs (i:Int)=true from nW.2 ⟨by omega,by omega⟩,show decide ((i:Int)<=(j:Int))=true from bI (by omega)]at hb;cases hb
 ·rw[eq_comm,<-om,nX];rintro⟨i,j,rfl,rfl,hc⟩;have:=hF.NS hc;rw[show Bd xs (j:Int)=true from nW.2 ⟨by omega,by omega⟩]at ha;cases ha
noncomputable def Jy(xs:List du)(a b:Int):Bool:=open Classical in decide (∃i j:Nat,b=i/\a=j/\i<j/\rC xs i j)
theorem xU{a b:Int}:Jy xs a b=true↔∃i j:Nat,b=i/\a=j/\i<j/\rC xs i j:=by
 unfold Jy;exact @dz _ (Classical.propDecidable _)
theorem Jz(h:aA xT 5 w F l xs)(hF:Fo xs)(a b:Int):az aq 51 #[l.v,O U a,O U b] w fun e w'=>e=ak (aj (Jy xs a b))/\w'=w:=by
 refine ret (afi _ _ _ _ _ ?_);refine⟨fun r w'=>r=Jy xs a b/\w'=w,fun r w' ⟨h1,h2⟩=>⟨by rw[h1],h2⟩,fun hc=>(DG h hF b a).mono ?_,fun hc=>⟨?_,rfl⟩⟩
 ·rintro _ _ ⟨rfl,rfl⟩;have hc:a≠b:=by simpa using hc
  refine⟨_,rfl,?_,rfl⟩;rw[bT,nX,xU];refine⟨fun⟨i,j,e1,e2,BL⟩=>⟨i,j,e1,e2,?_,BL⟩,fun⟨i,j,e1,e2,_,BL⟩=>⟨i,j,e1,e2,BL⟩⟩;obtain⟨s,_,pC,_⟩:=BL;omega
 ·have hc:a=b:=by simpa using hc
  subst hc;rw[eq_comm,<-om,xU];rintro⟨i,j,e1,e2,hl,_⟩;omega
abbrev fD(B:Nat)(w:av)(s:Sl)(l:List Int):Prop:=Own rInt 1 3 B w (fun _=>False) s l
theorem fD.of{B:Nat}{w:av}{F:aJ}{s:Sl}{l:List Int}(h:Own rInt 1 3 B w F s l):fD B w s l:=by
 rcases h with⟨rfl,rfl⟩ | ⟨g,css,tail,h1,h2,h4,h5,h6,h7,h9,h8⟩
 ·exact .inl ⟨rfl,rfl⟩
 ·exact .inr ⟨g,css,tail,h1,h2,h4,h5,h6,h7,h9,ff.NL (fun x c _ hc=>hc) h8⟩
theorem Z1(w0:av){u:av}{s:Sl}{is:List Int}(h:fD w0.heap.size u s is)(hO:ay [] w0 u)(n:Int)(hn:rn n)(hm:is.length<=20000000):
  ∃y w1,(au 32 1 #[.mk 0 (O U n)]).run aq u=.ok (Sl.v y) w1/\ay [] u w1/\∃s' w2,(Builtin.append_ #[32,32] 32 #[Sl.v s,Sl.v y]).run aq w1=.ok (Sl.v s') w2/\fD w0.heap.size w2 s' (is++[n])/\ay [] w0 w2/\aD (fun k=>w0.heap.size<=k) u w2:=by
 obtain⟨y,w1,k1,k3,s',w2,g1,g2,⟨gs,g3,g4⟩,g5⟩:=ja (P:=aq) (t:=32) (ty:=32) (e:=3) (i:=Tryz.t3) (bytes:=8) (size:=1) (r:=rInt) (G:=fun _=>False) (v:=O U n) (x:=n) (by kernel_rfl) (by kernel_rfl) rfl rfl rfl rfl (by decide) (by decide) (by decide) cx h hO.size rfl ⟨rfl,hn⟩ (fun _ h=>h.elim) (by omega);refine⟨y,w1,k1,k3,s',w2,g1,fD.of g2,?_,k3.oZ (g3.p fun g hg=>.inl (g4 g hg).2.1)⟩;exact((hO.cp k3).oZ (g3.p (F:=fun k=>w0.heap.size<=k) fun g hg=>.inl (g4 g hg).2.1)).only fun k hk=>hk
end
section
variable {w:av} {F G:aJ} {l sN:Sl} {xs:List du} {ns:List Int}
theorem QZ{k0:Nat}(h:aA xT 5 w F l xs)(hB:aF w k0 52 [l.v])(n:Int):az aq 178 #[O U n,ae (some ⟨k0,0,none⟩)] w fun e w'=>e=ak (aj (!Bd xs n))/\w'=w:=by
 refine ret (aff _ _ _ _ ?_);refine⟨l,hB.cells 0 [_] fun j v hj=>(by rw[bJ];exact hj),(M2 h n).mono ?_⟩;rintro _ _ ⟨rfl,rfl⟩;exact⟨_,rfl,rfl,rfl⟩
theorem M3{k0:Nat}(h:aA xT 5 w F l xs)(hB:aF w k0 52 [l.v])(hN:aA rInt 1 w G sN ns):az aq 91 #[sN.v,.func (.func 178) #[] #[ae (some ⟨k0,0,none⟩)]] w fun e w'=>(∃i:Int,e=ak (O U i)/\(i>=0↔∃n,n∈ns/\¬vM xs n))/\w'=w:=by
 refine(SB sN ⟨.func (.func 178) #[] #[ae (some ⟨k0,0,none⟩)],rfl⟩ (fun v w'=>(∃i:Int,v=O U i/\(i>=0↔∃n,n∈ns/\¬vM xs n))/\w'=w) w ?_).mono ?_
 ·have hl:=hN.len;have PD:=hN.cap;have yj:=hN.big;refine⟨fun kv i w'=>∃j:Nat,i=(j:Int)/\kv+j=ns.length/\j<=ns.length/\(∀n,n∈ns.take j->vM xs n)/\w'=w,ns.length,⟨0,rfl,by omega,bp _,fun n hn=>by simp at hn,rfl⟩,?_⟩;rintro kv _ u ⟨j,rfl,u5,hj,hh,hu⟩;obtain rfl:w=u:=hu.symm;refine⟨fun hc=>?_,fun hc=>⟨⟨-1,rfl,fun h=>absurd h (by decide),fun⟨n,hn,hb⟩=>absurd (hh n ?_) hb⟩,rfl⟩⟩
  ·have hc:=aP hc;obtain⟨ad,y,cs,g1,g2,g3,g4,g5,g6⟩:=hN.get (bm j) (by omega);rw[aZ]at g2;obtain⟨rfl,hy⟩:=g6;refine⟨ad,g1,y,g5,178,[],[ae (some ⟨k0,0,none⟩)],rfl,gN (by kernel_rfl),(QZ h hB y).mono ?_⟩;rintro _ u ⟨rfl,hu⟩;obtain rfl:w=u:=hu.symm;refine⟨_,rfl,fun hb=>⟨⟨j,rfl,fun _=>⟨y,bG g2,fun hh'=>?_⟩,fun _=>by omega⟩,rfl⟩,fun hb=>⟨kv-1,by omega,j+1,by rw[fQ (by omega) (by omega)];rfl,by omega,by omega,fun n hn=>?_,rfl⟩⟩
   ·rw[nW.2 hh']at hb;cases hb
   ·rw[bH,g2,cr]at hn;rcases hn with hn | hn
    ·exact hh n hn
    ·simp only[Option.toList,aN]at hn;subst hn;exact nW.1 (by simpa using hb)
  ·have hc:=aU hc;rwa[bA (by omega)]
 ·rintro _ w' ⟨v,rfl,⟨i,rfl,h1⟩,h2⟩;exact⟨⟨i,rfl,h1⟩,h2⟩
def Z2(xs:List du)(ns:List Int):Prop:=ns=[]∨∃n,n∈ns/\¬vM xs n
theorem M4(h:aA xT 5 w F l xs)(hF:Fo xs)(hN:aA rInt 1 w G sN ns):az aq 130 #[l.v,sN.v] w fun e w'=>(∃r:Int,e=ak (O U r)/\Mt xs ns r)/\ay [] w w':=by
 refine(afe l sN (fun v w'=>(∃r:Int,v=O U r/\Mt xs ns r)/\ay [] w w') w ?_).mono ?_
 ·intro k0 w0 gH eW cE;have hl:=hN.len;have PD:=hN.cap;have yj:=hN.big;have tY:=h.len;have kL:∀{u:av},ay [] w u->aA xT 5 u F l xs:=fun hO=>SliceF.only ey (by decide) h hO (by simp);have kN:∀{u:av},ay [] w u->aA rInt 1 u G sN ns:=fun hO=>SliceF.only cx (by decide) hN hO (by simp);refine⟨fun b q u=>(b=true↔Z2 xs ns)/\l=q/\ay [] w u,?_,fun hc=>?_,fun hc hB=>?_⟩
  ·rintro b _ u ⟨hb,rfl,hO⟩;refine⟨fun hbt=>⟨⟨-1,rfl,.inl ⟨hb.1 hbt,rfl⟩⟩,hO⟩,fun hbf=>?_⟩;have hg:¬Z2 xs ns:=fun hh=>by rw[hb.2 hh]at hbf;cases hbf
   have gL:ns≠[]:=fun e=>hg (.inl e);have hh:∀n,n∈ns->vM xs n:=fun n hn=>Classical.byContradiction fun hx=>hg (.inr ⟨n,hn,hx⟩);have hlp:0<ns.length:=pJ.2 gL;obtain⟨ad,n0,cs,g1,g2,g3,g4,g5,g6⟩:=(kN hO).get (i:=0) (by omega) (by omega);obtain⟨rfl,_⟩:=g6;have g2:ns[0]? =some n0:=g2;have W6:=hh n0 (bG g2);obtain⟨m0,rfl⟩:∃m:Nat,n0=m:=⟨n0.toNat,by have:=W6.1;omega⟩
   have ht1:ns.take 1=[(m0:Int)]:=by
    cases ns with
    | nil=>exact absurd rfl gL
    | cons a ns=>
     rw[ck,aX]at g2;subst g2;rfl
   refine⟨ad,g1,_,g5,⟨by omega,PD⟩,fun kv i1 i2 q u=>∃m j:Nat,i1=(m:Int)/\i2=(j:Int)/\kv+j=ns.length-1/\j<=ns.length-1/\l=q/\ay [] w u/\Top xs (ns.take (j+1)) m,ns.length-1,⟨m0,0,rfl,rfl,by omega,by omega,rfl,hO,?_⟩,?_⟩
   ·rw[ht1];refine⟨m0,rfl,fun n hn=>?_,fun j hj=>?_⟩
    ·simp only[aN]at hn;subst hn;exact⟨m0,rfl,hF.NT (by have:=W6.2;omega)⟩
    ·obtain⟨k,e,s,_,pC,_⟩:=hj m0 (by simp);omega
   rintro kv _ _ _ u1 ⟨m,j,rfl,rfl,u5,hj,rfl,cA,OP⟩;have N1:=SliceF.cut (kN cA) (lo:=1) (hi:=sN.n) (m:=sN.c) (by omega) PD (aV _) (aV _);have lq:(sN.cut 1 sN.n sN.c 1).n=ns.length-1:=by
    rw[N1.len,cO,cy];omega
   refine⟨fun hc=>?_,fun hc=>?_⟩
   ·have hc:=aP hc;obtain⟨ad1,n3,cs,p1,p2,p3,p4,p5,p6⟩:=N1.get (bm j) (by omega);obtain⟨rfl,_⟩:=p6;rw[aZ,List.getElem?_take_of_lt (by omega),iY]at p2;have p2:ns[j+1]? =some n3:=by rw[<-p2];congr 1;omega
    have hn3:=hh n3 (bG p2);obtain⟨t,rfl⟩:∃m:Nat,n3=m:=⟨n3.toNat,by have:=hn3.1;omega⟩
    have pM:ns.take (j+1+1)=ns.take (j+1)++[(t:Int)]:=by rw[bH,p2];rfl
    obtain⟨m',em,t1,t2⟩:=OP;have em:m=m':=by omega
    subst em;refine⟨ad1,p1,_,p5,fun kv' i4 q u=>∃m:Nat,i4=(m:Int)/\m=kv'/\l=q/\ay [] w u/\(∀n,n∈ns.take (j+1)->∃k:Nat,n=k/\rC xs m k)/\∀j':Nat,(∀n,n∈ns.take (j+1+1)->∃k:Nat,n=k/\rC xs j' k)->j'<=m,m,⟨m,rfl,rfl,rfl,cA,t1,fun j' Rr=>t2 j' fun n hn=>Rr n ?_⟩,?_⟩
    ·rw[pM];exact List.mem_append_left _ hn
    rintro kv' _ _ u2 ⟨m2,rfl,rfl,rfl,cR,q1,q2⟩;refine(DG (kL cR) hF m2 t).mono ?_;rintro _ u3 ⟨rfl,hu⟩;obtain rfl:u2=u3:=hu.symm;refine⟨_,rfl,bS.refl _ _,fun RU=>?_,fun RU=>?_⟩
    ·have RU:¬∃i j:Nat,(m2:Int)=i/\(t:Int)=j/\rC xs i j:=fun e=>by rw[nX.2 e]at RU;cases RU
     have NZ:t<xs.length:=by have:=hn3.2;omega
     have IC:0<m2:=Em fun e=>RU ⟨0,t,by omega,rfl,hF.NU NZ⟩;have OQ:(m0:Int)∈ns.take (j+1):=by
      rw[List.mem_iff_getElem?];exact⟨0,by rw[List.getElem?_take_of_lt (by omega)];exact g2⟩
     have aiJ:m2<xs.length:=by
      obtain⟨k,_,s,e,_⟩:=q1 _ OQ;exact jm e
     obtain⟨y,hy⟩:=mf aiJ;obtain⟨p,s,r1,r2,r3,r4,r5,r6⟩:=hF.par hy IC;obtain⟨RV,b1,_,b3,_,_⟩:=pu (kL cR) hy;have cpm:rC xs p m2:=⟨s,r3,by omega,r5⟩
     refine⟨RV,b1,y.pa,b3,p,r1,p,r2,rfl,rfl,cR,fun n hn=>?_,fun j' Rr=>?_⟩
     ·obtain⟨k,e,hk⟩:=q1 n hn;exact⟨k,e,hF.NV cpm hk⟩
     ·have pC:=q2 j' Rr;have aoz:j'≠m2:=fun e=>by
       subst e;obtain⟨k,e,hk⟩:=Rr t (by rw[pM];simp);exact RU ⟨j',k,rfl,e,hk⟩
      obtain⟨k,e,hk⟩:=Rr m0 (by rw[pM];exact List.mem_append_left _ OQ);obtain⟨k',e',iq⟩:=q1 m0 OQ;have:k=k':=by omega
      subst this;obtain⟨s',v1,v2,v3⟩:=hF.NW hk iq pC;exact r6 j' s' v1 (by omega) v3
    ·have RU:Jx xs m2 t=true:=by simpa using RU
     obtain⟨i',t',e1,e2,hct⟩:=nX.1 RU;have e1:m2=i':=by omega
     have e2:t=t':=by omega
     subst e1 e2;refine⟨kv-1,by omega,m2,j+1,rfl,by rw[fQ (by omega) (by omega)];rfl,by omega,by omega,rfl,cR,m2,rfl,fun n hn=>?_,q2⟩;rw[pM,cr]at hn;rcases hn with hn | hn
     ·exact q1 n hn
     ·simp only[aN]at hn;subst hn;exact⟨t,rfl,hct⟩
   ·have hc:=aU hc;rw[bA (by omega)]at OP;exact⟨⟨m,rfl,.inr ⟨⟨gL,hh⟩,OP⟩⟩,cA⟩
  ·have hc:(sN.n:Int)=0:=by simpa using hc
   exact⟨⟨fun _=>.inl (ca (by omega)),fun _=>rfl⟩,rfl,cE⟩
  ·have hc:¬(sN.n:Int)=0:=by simpa using hc
   refine(SA sN ⟨.func (.func 178) #[] #[ae (some ⟨k0,0,none⟩)],rfl⟩ (fun v w'=>(∃b:Bool,v=aj b/\(b=true↔∃n,n∈ns/\¬vM xs n))/\w'=w0) w0 ?_).mono ?_
   ·refine(M3 (kL cE) hB (kN cE)).mono ?_;rintro _ u ⟨⟨i,rfl,hi⟩,hu⟩;obtain rfl:w0=u:=hu.symm;exact⟨i,rfl,⟨_,rfl,by rw[dz];exact hi⟩,rfl⟩
   ·rintro _ u ⟨v,rfl,⟨b,rfl,hb⟩,hu⟩;obtain rfl:w0=u:=hu.symm;refine⟨b,rfl,l,hB,⟨fun h=>.inr (hb.1 h),fun h=>?_⟩,rfl,cE⟩;rcases h with h | h
    ·subst h;exact absurd (by rw[hl];rfl) hc
    ·exact hb.2 h
 ·rintro _ w' ⟨v,rfl,⟨r,rfl,h1⟩,h2⟩;exact⟨⟨r,rfl,h1⟩,h2⟩
end
end Go.Proofs.YtbkjcdocjfknfaaGreatDoor.Con
namespace Go.Kt
open Go renaming World->av,Value->aw
open Go Go.RowKit Go.MapKept
set_option linter.unusedSimpArgs false
set_option linter.unusedVariables false
structure RW {κ:Type} (d:TypeDesc) (kv:κ->aw) (g:κ->Prop):Prop where
 is:∀k,IsKey d (kv k)
 inj:∀{k l},kv k=kv l->k=l
structure MapV {κ:Type} (kv:κ->aw) (g:κ->Prop) (w:av) (r:Nat) (m:κ->Option aw) (n:Nat):Prop where
 mem:∃es clock,w.heap[r]? =some (.map es clock)/\Stamped es clock/\es.size<=n/\(∀x,x∈es.toList->∃k,x.key=kv k/\g k)/\
  ∀k v,m k=some v↔∃x,x∈es.toList/\x.key=kv k/\x.val=v
section
variable {κ:Type} {d:TypeDesc} {kv:κ->aw} {g:κ->Prop} {P:Program} {w w':av} {r n:Nat} {m:κ->Option aw} {mty kt et:TypeId}
theorem MapV.keep(h:MapV kv g w r m n)(hk:w'.heap[r]? =w.heap[r]?):MapV kv g w' r m n:=by
 obtain⟨es,c,h1,h2⟩:=h.mem;exact⟨es,c,hk.trans h1,h2⟩
theorem MapV.le(h:MapV kv g w r m n){n'}(hn:n<=n'):MapV kv g w r m n':=by
 obtain⟨es,c,h1,h2,h3,h4⟩:=h.mem;exact⟨es,c,h1,h2,bh h3 hn,h4⟩
theorem MapV.lt(h:MapV kv g w r m n):r<w.heap.size:=by
 obtain⟨es,c,h1,h2⟩:=h.mem;exact(jP.1 h1).1
theorem MapV.only(h:MapV kv g w r m n){bs}(hO:Only bs w w')(hn:r∉bs):MapV kv g w' r m n:=h.keep (hO.block r h.lt hn)
theorem MapV.ext(h:MapV kv g w r m n){m'}(he:∀k,m' k=m k):MapV kv g w r m' n:=by
 obtain⟨es,c,h1,h2,h3,h4,h5⟩:=h.mem;exact⟨es,c,h1,h2,h3,h4,fun k v=>by rw[he,h5]⟩
theorem MapV.make w:(Instr.makeMap mty none).run P w=.ok (.map (some w.heap.size)) (w.alloc (.map #[] 0))/\MapV kv g (w.alloc (.map #[] 0)) w.heap.size (fun _=>none) 0/\Only [] w (w.alloc (.map #[] 0)):=
 ⟨rfl,⟨#[],0,heap_alloc_new w _,stamped_empty 0,by simp,by simp,by simp⟩,Only.alloc _ _⟩
theorem S5(K:RW d kv g){es:Array MapEntry}(h:∀x,x∈es.toList->∃k,x.key=kv k/\g k):∀x∈es.toList,IsKey d x.key:=fun x hx=>by
 obtain⟨k,e,_⟩:=h x hx;rw[e];exact K.is k
variable [DecidableEq κ]
theorem MapV.update(K:RW d kv g)(hm:P.underlying mty=some (.map kt et))(hd:P.underlying kt=some d)(h:MapV kv g w r m n){k}(hg:g k) v:
  ∃w',(Instr.mapUpdate mty (.map (some r)) (kv k) v).run P w=.ok () w'/\MapV kv g w' r (fun x=>if x=k then some v else m x) (if m k=none then n+1 else n)/\Only [r] w w':=by
 obtain⟨es,c,h1,h0,hn,h2,h4⟩:=h.mem;have fin:∀{W7:Array MapEntry} {c' n':Nat},Stamped W7 c'->W7.size<=n'->(∀x,x∈W7.toList->∃k,x.key=kv k/\g k)->
   (∀k' v',(∃x,x∈W7.toList/\x.key=kv k'/\x.val=v')↔(k'=k/\v'=v)∨(k'≠k/\m k'=some v'))->∀w',w'.heap[r]? =some (.map W7 c')->MapV kv g w' r (fun x=>if x=k then some v else m x) n':=by
  intro W7 c' n' e0 en e1 e3 w' hw;refine⟨W7,c',hw,e0,en,e1,fun k' v'=>?_⟩;rw[e3];by_cases Kb:k'=k
  ·simp[Kb,if_true,aX,true_and,ne_eq,not_true_eq_false,false_and,bP];exact⟨fun h=>h.symm,fun h=>h.symm⟩
  ·simp[if_neg Kb,Kb,false_and,false_or,ne_eq,not_false_eq_true,true_and,iI]
 rcases findNow_spec (K.is k) es.toList 0 (S5 K h2)with⟨g1,g2⟩ | ⟨j,e,g1,g2,g3⟩
 ·have W8:m k=none:=by
   cases hq:m k with
   | none=>rfl
   | some v=>
    obtain⟨x,hx,hk,_⟩:=(h4 k v).1 hq;exact absurd hk (g2 x hx)
  rw[if_pos W8];refine⟨{w with heap:=w.heap.setIfInBounds r (.map (es.push {key:=kv k,val:=v,born:=c}) _)},?_,fin (stamped_push h0 g2) (by simp;omega) ?_ ?_ _ (heap_set h1).1,Cu h1⟩
  ·simp[Instr.mapUpdate,run_underlying hm,MapKept.run_getObj_map h1,MapKept.run_checkKey hd (K.is k),MapKept.run_findKey hd g1,MapKept.run_setObj_map _ h1,Result.andThen]
  ·intro x hx;simp only[Array.toList_push,cr,aN]at hx;rcases hx with hx | rfl
   ·exact h2 x hx
   ·exact⟨k,rfl,hg⟩
  ·intro k' v';simp only[Array.toList_push,cr,aN];constructor
   ·rintro⟨x,hx | rfl,e1,e2⟩
    ·exact .inr ⟨fun h=>g2 x hx (by rw[e1,h]),(h4 k' v').2 ⟨x,hx,e1,e2⟩⟩
    ·exact .inl ⟨(K.inj e1).symm,e2.symm⟩
   ·rintro(⟨rfl,rfl⟩ | ⟨hn,h⟩)
    ·exact⟨_,.inr rfl,rfl,rfl⟩
    ·obtain⟨x,hx,e1,e2⟩:=(h4 k' v').1 h;exact⟨x,.inl hx,e1,e2⟩
 ·have hj:=by simpa using g2
  have lK:=(aY.1 g2).1;have W8:m k≠none:=by rw[(h4 k e.val).2 ⟨e,bG g2,g3,rfl⟩];simp
  rw[if_neg W8];refine⟨{w with heap:=w.heap.setIfInBounds r _},?_,
   fin (stamped_modify h0 j (fun e=>{e with key:=kv k,val:=v}) (fun _ _=>rfl) (fun e' _ he=>by rw[hj]at he;injection he with he;rw[<-he];exact g3.symm)) (by simpa using hn) ?_ ?_ _ (heap_set h1).1,Cu h1⟩
  ·simp[Instr.mapUpdate,run_underlying hm,MapKept.run_getObj_map h1,MapKept.run_checkKey hd (K.is k),MapKept.run_findKey hd g1,hj,g3,MapKept.run_keyThatStays (K.is k),MapKept.run_setObj_map _ h1,Result.andThen]
  all_goals rw[Array.toList_modify,ES g2]
  ·intro x hx;rcases sI hx with hx | rfl
   ·exact h2 x hx
   ·exact⟨k,rfl,hg⟩
  ·intro k' v';constructor
   ·rintro⟨x,hx,e1,e2⟩;obtain⟨i,hi⟩:=ig hx;rw[Gd]at hi;split at hi
    ·injection hi with hi;rw[<-hi]at e1 e2;exact .inl ⟨(K.inj e1).symm,e2.symm⟩
    ·rename_i uk;by_cases Kb:k'=k
     ·have IH:=(aY.1 hi).1;have gL:=List.pairwise_iff_getElem.1 ((stamped_iff _ _).1 h0).2.2;have ex:=(aY.1 hi).2;have ee:=(aY.1 g2).2;exfalso;rcases Nat.lt_or_gt_of_ne uk with bQ | hgt
      ·exact gL j i lK IH bQ (by rw[ee,ex,g3,e1,Kb])
      ·exact gL i j IH lK hgt (by rw[ee,ex,g3,e1,Kb])
     ·exact .inr ⟨Kb,(h4 k' v').2 ⟨x,bG hi,e1,e2⟩⟩
   ·rintro(⟨rfl,rfl⟩ | ⟨hn,h⟩)
    ·exact⟨_,List.mem_set lK _,rfl,rfl⟩
    ·obtain⟨x,hx,e1,e2⟩:=(h4 k' v').1 h;obtain⟨i,hi⟩:=ig hx;refine⟨x,bG (i:=i) ?_,e1,e2⟩;rw[List.getElem?_set_ne]
     ·exact hi
     ·rintro rfl;rw[g2]at hi;injection hi with hi;rw[<-hi,g3]at e1;exact hn (K.inj e1).symm
end
abbrev kS(s:List UInt8):aw:=.string ⟨s.toArray⟩
abbrev gS(s:List UInt8):Prop:=s.length<=maxLen
theorem Z3:RW .string kS gS:=⟨fun _=>trivial,fun h=>by simpa using h⟩
abbrev kN(k:Int):aw:=.int .i64 k
section
variable {κ:Type} {d:TypeDesc} {kv:κ->aw} {g:κ->Prop} {P:Program} {w w':av} {r n:Nat} {m:κ->Option aw} {mty kt et:TypeId}
theorem MapV.Rq(K:RW d kv g)(hm:P.underlying mty=some (.map kt et))(hd:P.underlying kt=some d){z:aw}(hz:∀w,(zeroValue et).run P w=.ok z w)(h:MapV kv g w r m n)(k:κ):
  (Instr.lookup mty (.map (some r)) (kv k) true).run P w=.ok (.tuple #[(m k).getD z,.bool (m k).isSome]) w:=by
 obtain⟨es,c,h1,h0,hn,h2,h4⟩:=h.mem;rcases findNow_spec (K.is k) es.toList 0 (S5 K h2)with⟨g1,g2⟩ | ⟨j,e,g1,g2,g3⟩
 ·have hn:m k=none:=by
   cases W8:m k with
   | none=>rfl
   | some v=>
    obtain⟨x,hx,hk,_⟩:=(h4 k v).1 W8;exact absurd hk (g2 x hx)
  simp[Instr.lookup,run_underlying hm,MapKept.run_getObj_map h1,MapKept.run_checkKey hd (K.is k),MapKept.run_findKey hd g1,Result.andThen,hz,hn]
 ·have he:=bG g2;have W8:m k=some e.val:=(h4 k e.val).2 ⟨e,he,g3,rfl⟩;simp[Instr.lookup,run_underlying hm,MapKept.run_getObj_map h1,MapKept.run_checkKey hd (K.is k),MapKept.run_findKey hd g1,Result.andThen,W8]
end
end Go.Kt
namespace Go.Proofs.YtbkjcdocjfknfaaGreatDoor.Con
open Go.Value renaming int->O,string->ab,pointer->ae,agg->ah,tuple->ai,bool->aj
open Go.IntKind renaming i64->U,wrap->ar
open Go.Ending renaming returned->ak
open _root_.ByteArray renaming mk->ao
open _root_.Go.Proofs.Tryz renaming prog->aq
open Go.Instr renaming buildSlice->au
open Go renaming World->av,Value->aw,Calls->az
open Go.Kt renaming Only->ay,SliceF->aA,Cells->aB,OnlyP->aD,Blk->aF
open Go Go.RowKit Go.Kt Go.Kt.V Go.Proofs.YtbkjcdocjfknfaaGreatDoor.Vc
set_option linter.unusedSimpArgs false
set_option linter.unusedVariables false
set_option maxHeartbeats 800000
set_option maxRecDepth 100000
def mI(l:List (aH)):aH->Option aw:=fun k=>if rA k l<l.length then some (.int U (rA k l:Nat))else none
theorem H0(l:List (aH))(x k:aH):mI (l++[x]) k=if x∈l then mI l k else if k=x then some (.int U (l.length:Nat))else mI l k:=by
 unfold mI;rw[aO,bK];by_cases hk:k∈l
 ·have h1:=lG.2 hk;rw[HB [x] hk,if_pos (by omega),if_pos h1];by_cases hx:x∈l
  ·rw[if_pos hx]
  ·rw[if_neg hx,if_neg fun e=>hx (by rw[<-e];exact hk)]
 ·have h1:¬rA k l<l.length:=fun h=>hk (lG.1 h);rw[if_neg h1];by_cases e:k=x
  ·subst e;rw[if_neg hk,if_pos rfl,Ba [] hk,if_pos (by omega)]
  ·have:¬rA k (l++[x])<(l++[x]).length:=fun h=>by
    have:=lG.1 h;rw[cr,aN]at this;exact this.elim hk e
   rw[aO,bK]at this;rw[if_neg this,if_neg e];split<;>rfl
theorem Q0(l:List (aH))(k:aH):(mI l k).isSome=decide (k∈l):=by
 unfold mI;by_cases hk:k∈l
 ·rw[if_pos (lG.2 hk),bI hk];rfl
 ·rw[if_neg fun h=>hk (lG.1 h),bq hk];rfl
abbrev Pa(w:av)(r:Nat)(l:List (aH)):Prop:=MapV kS gS w r (mI l) l.length
theorem Pa.at{w:av}{r:Nat}{l:List (aH)}(h:Pa w r l)(k:aH):(Instr.lookup 153 (.map (some r)) (ab (T k)) true).run aq w=.ok (ai #[O U (if rA k l<l.length then(rA k l:Nat)else 0:Int),aj (decide (k∈l))]) w:=by
 have:=h.Rq (P:=aq) (mty:=153) (kt:=9) (et:=3) (z:=O U 0) Z3 (by kernel_rfl) (by kernel_rfl) (fun w=>Tryz.zeroValue3 w) k;rw[Q0]at this;rw[this];unfold mI;split<;>rfl
theorem Pa.add{w:av}{r:Nat}{l:List (aH)}(h:Pa w r l){x:aH}(hx:gS x)(hn:x∉l):
  ∃w',(Instr.mapUpdate 153 (.map (some r)) (ab (T x)) (O U (l.length:Nat))).run aq w=.ok () w'/\Pa w' r (l++[x])/\ay [r] w w':=by
 obtain⟨w',h1,h2,h3⟩:=h.update (P:=aq) (mty:=153) (kt:=9) (et:=3) Z3 (by kernel_rfl) (by kernel_rfl) hx (O U (l.length:Nat));refine⟨w',h1,(h2.ext fun k=>?_).le ?_,h3⟩
 ·rw[H0,if_neg hn]
 ·rw[aO,bK];split<;>omega
theorem Pa.has{w:av}{r:Nat}{l:List (aH)}(h:Pa w r l){x:aH}(hx:x∈l):Pa w r (l++[x]):=by
 refine(h.ext fun k=>?_).le (by rw[aO];omega);rw[H0,if_pos hx]
structure Lo (w:av) (b m0 m1:Nat) (s:Sl) (nn vn:List (aH)) (f:Ft):Prop where
 blk:aF w b 155 [.map (some m0),s.v,.map (some m1),O U f.1,O U f.2]
 nm:Pa w m0 nn
 vr:Pa w m1 vn
 n0:m0<m1
 n1:m1<b
section
variable {w w':av} {b m0 m1:Nat} {s:Sl} {nn vn:List (aH)} {f:Ft}
theorem Lo.only(h:Lo w b m0 m1 s nn vn f){bs:List Nat}(hO:ay bs w w')(h0:b∉bs)(h1:m0∉bs)(h2:m1∉bs):Lo w' b m0 m1 s nn vn f:=⟨hO.blk h.blk h0,h.nm.only hO h1,h.vr.only hO h2,h.n0,h.n1⟩
theorem Lo.o0(h:Lo w b m0 m1 s nn vn f)(hO:ay [] w w'):Lo w' b m0 m1 s nn vn f:=h.only hO (by simp) (by simp) (by simp)
theorem Lo.lI(h:Lo w b m0 m1 s nn vn f)(hO:ay [b] w w'){s':Sl}{f':Ft}(hB:aF w' b 155 [.map (some m0),s'.v,.map (some m1),O U f'.1,O U f'.2]):Lo w' b m0 m1 s' nn vn f':=
 ⟨hB,h.nm.only hO (by have:=h.n0;have:=h.n1;simp;omega),h.vr.only hO (by have:=h.n1;simp;omega),h.n0,h.n1⟩
theorem Lo.lt(h:Lo w b m0 m1 s nn vn f):b<w.heap.size:=h.blk.lt
theorem wl(w:av)(k:Int):az aq 162 #[O U k] w fun e w'=>e=ak (aj (kR k))/\w'=w:=by
 refine ret (afp _ _ _ ?_);refine⟨?_,rfl⟩;unfold kR;rw[show((k==3)||(k==4))=decide (k=3∨k=4) by rw[bT];simp]
theorem Be(h:Lo w b m0 m1 s nn vn f)(ok:Bool)(e a:Int):az aq 123 #[ae (some ⟨b,0,none⟩),aj ok,O U e,O U a] w fun r w'=>r=ak (ai #[])/\Lo w' b m0 m1 s nn vn (mW f (bad ok e a))/\ay [b] w w':=by
 refine ret (afm _ _ _ _ _ _ ?_);rw[QH];refine⟨f.1,fun _=>Blk.dT h.blk 3 rfl,fun hc=>⟨b,3,_,_,rfl,h.blk,by simp,fun w0 hO hB=>⟨rfl,?_,hO⟩⟩,fun hc=>⟨rfl,?_,Only.refl _ _⟩⟩
 ·rw[if_pos hc];exact h.lI hO hB
 ·rw[if_neg (by rw[hc];decide)];exact h
theorem M5(h:Lo w b m0 m1 s nn vn f){x:aH}(hx:gS x)(a:Int):az aq 84 #[ae (some ⟨b,0,none⟩),.map (some m0),ab (T x),O U (nn.length:Nat),O U a] w fun r w'=>r=ak (ai #[])/\Lo w' b m0 m1 s (nn++[x]) vn (mW f (bad (!decide (x∈nn)) 24 a))/\ay [b,m0] w w':=by
 refine ret (ZA _ _ _ _ _ _ _ ?_);refine⟨_,_,w,h.nm.at x,(Be h _ 24 a).mono ?_⟩;rintro _ w1 ⟨rfl,h1,cA⟩;refine⟨rfl,fun hc=>?_,fun hc=>?_⟩
 ·obtain⟨w2,u1,u2,u3⟩:=h1.nm.add hx (by simpa using hc);refine⟨w2,u1,rfl,⟨u3.blk h1.blk (by have:=h.n0;have:=h.n1;simp;omega),u2,h1.vr.only u3 (by have:=h.n0;simp;omega),h.n0,h.n1⟩,(cA.weaken (bs':=[b,m0]) (fun x hx=>.inl (by simp at hx;simp[hx]))).trans u3 fun x hx=>.inl (by simp at hx;simp[hx])⟩
 ·exact⟨rfl,⟨h1.blk,h1.nm.has (by simpa using hc),h1.vr,h.n0,h.n1⟩,cA.weaken fun x hx=>.inl (by simp at hx;simp[hx])⟩
theorem M6(h:Lo w b m0 m1 s nn vn f){x:aH}(hx:gS x)(a:Int):az aq 84 #[ae (some ⟨b,0,none⟩),.map (some m1),ab (T x),O U (vn.length:Nat),O U a] w fun r w'=>r=ak (ai #[])/\Lo w' b m0 m1 s nn (vn++[x]) (mW f (bad (!decide (x∈vn)) 24 a))/\ay [b,m1] w w':=by
 refine ret (ZA _ _ _ _ _ _ _ ?_);refine⟨_,_,w,h.vr.at x,(Be h _ 24 a).mono ?_⟩;rintro _ w1 ⟨rfl,h1,cA⟩;refine⟨rfl,fun hc=>?_,fun hc=>?_⟩
 ·obtain⟨w2,u1,u2,u3⟩:=h1.vr.add hx (by simpa using hc);refine⟨w2,u1,rfl,⟨u3.blk h1.blk (by have:=h.n1;simp;omega),h1.nm.only u3 (by have:=h.n0;simp;omega),u2,h.n0,h.n1⟩,(cA.weaken (bs':=[b,m1]) (fun x hx=>.inl (by simp at hx;simp[hx]))).trans u3 fun x hx=>.inl (by simp at hx;simp[hx])⟩
 ·exact⟨rfl,⟨h1.blk,h1.nm,h1.vr.has (by simpa using hc),h.n0,h.n1⟩,cA.weaken fun x hx=>.inl (by simp at hx;simp[hx])⟩
end
def Fy(P:aJ)(s:Sl)(w:av)(s':Sl)(w':av):Prop:=aD (fun k=>P k∨s.a=some ⟨k,0,none⟩) w w'/\∀k,s'.a=some ⟨k,0,none⟩->s.a=some ⟨k,0,none⟩∨w.heap.size<=k
theorem Fy.trans{P:aJ}{s t u:Sl}{w w' sA:av}(h:Fy P s w t w')(g:Fy P t w' u sA):Fy P s w u sA:=by
 refine⟨h.1.trans g.1 fun k hk=>?_,fun k hk=>?_⟩
 ·rcases hk with hk | hk
  ·exact .inl (.inl hk)
  ·exact(h.2 k hk).elim (fun h=>.inl (.inr h)) .inr
 ·rcases g.2 k hk with hk | hk
  ·exact h.2 k hk
  ·exact .inr (bh h.1.size hk)
theorem Fy.of{P:aJ}{s:Sl}{w w':av}{bs:List Nat}(hO:ay bs w w')(hb:∀k,k∈bs->P k):Fy P s w s w':=⟨hO.p fun k hk=>.inl (.inl (hb k hk)),fun k hk=>.inl hk⟩
def S6:du:=⟨0,[],0,0,0⟩
theorem M7:∀(D:Nat) {w:av} {F:aJ} {x:Nd} {cs:aI} {b m0 m1:Nat} {s:Sl} {nn vn:List (aH)} {f:Ft},mr false D w F x cs->(∀k,F k->k<m0)->Lo w b m0 m1 s nn vn f->gu (b+1) w s (List.replicate nn.length S6)->
  lm x<=8388608->nn.length+gp x<=1000000->
  az aq 83 #[ae (some ⟨b,0,none⟩),ah cs.toArray] w fun e w'=>e=ak (ai #[])/\∃s',Lo w' b m0 m1 s' (nn++(Hv x).map fun p=>p.1) vn (mW f (wi nn (Hv x)))/\gu (b+1) w' s' (List.replicate (nn.length+gp x) S6)/\Fy (fun k=>k=b∨k=m0) s w s' w'
 | 0,_,_,_,_,_,_,_,_,_,_,_,h,_,_,_,_,_=>h.elim
 | D+1,w,F,.mk bb ks,cs,b,m0,m1,s,nn,vn,f,⟨en,lv,mv,kids,lQ,_,gH⟩,hF,hL,hS,hz,hn=>by
  have hk:=gH.1;clear gH;dsimp only[Nd.kids,Nd.b]at hk lQ;subst lQ;rw[gp]at hn;rw[lm]at hz;have RI:=hk.len;have hnn:=nQ ks;have n0:=hL.n0;have n1:=hL.n1;have TP:gS bb.nm:=by
   show bb.nm.length<=maxLen;have:maxLen=9223372036854775807:=rfl;unfold zG at hz;omega
  refine ret (afl _ _ _ _ _ _ _ _ _ _ _ _ ?_);intro k0 w0 gH eW cE;have z0:=cE.size;have BM:=hL.lt;have Pn:=hL.o0 cE;have hS0:gu (b+1) w0 s _:=hS.vv cE.p0 fun _ _ _ h=>h;have Pe:s.n=nn.length:=by rw[hS.len,gD]
  have OM:s.a≠some ⟨k0,0,none⟩:=fun e=>by have:=(hS.blk e).2;dsimp only at this;omega
  refine⟨_,Blk.dT Pn.blk 0 rfl,s,Blk.dT Pn.blk 1 rfl,?_⟩;dsimp only;rw[Pe];refine(M5 Pn TP bb.a).mono ?_;rintro _ w1 ⟨rfl,Yj,cA⟩;have z1:=cA.size;have hS1:gu (b+1) w1 s (List.replicate nn.length S6):=hS0.vv (G:=fun k=>k=b∨k=m0) (cA.p fun k hk=>.inl (by simpa using hk)) fun k h _=>by omega
  have m1':Fy (fun k=>k=b∨k=m0) s w s w1:=(Fy.of cE (by simp)).trans (Fy.of cA (by simp));obtain⟨y,w2,k1,k3,s3,w3,g1,g2,⟨gs,g3,g4⟩,g5⟩:=ja (P:=aq) (t:=52) (ty:=52) (e:=125) (i:=Tryz.t125) (bytes:=48) (size:=5) (r:=xT) (G:=fun _=>False) (v:=ah #[O U 0,ab (ao #[]),O U 0,O U 0,O U 0]) (x:=S6) (by kernel_rfl) (by kernel_rfl) rfl rfl rfl rfl (by decide) (by decide) (by decide) ey hS1 (by omega) rfl rfl (fun _ h=>h.elim) (by rw[gD];omega);have z2:=k3.size;have z3:=g3.size;have gb:∀g,g∈gs->b<g/\g<w1.heap.size/\s.a=some ⟨g,0,none⟩:=fun g hg=>⟨by have:=(g4 g hg).2.1;omega,(g4 g hg).2.2,(g4 g hg).1⟩
  have hL3:Lo w3 b m0 m1 s (nn++[bb.nm]) vn _:=(Yj.o0 k3).only g3 (fun h=>by have:=gb _ h;omega) (fun h=>by have:=gb _ h;omega) (fun h=>by have:=gb _ h;omega);refine⟨rfl,cA.same (by simp;omega),s,Blk.dT Yj.blk 1 rfl,y,w2,k1,k3.same (by simp;omega),s3,w3,g1,g3.same fun x hx=>?_,b,1,_,_,rfl,hL3.blk,by simp,by omega,fun w4 dA ub=>?_⟩
  ·simp only[aN]at hx;subst hx;exact⟨by omega,fun h=>OM (gb _ h).2.2⟩
  have z4:=dA.size;have hL4:Lo w4 b m0 m1 s3 (nn++[bb.nm]) vn (mW f (bad (!decide (bb.nm∈nn)) 24 bb.a)):=hL3.lI dA ub;have Yh:gu (b+1) w3 s3 (List.replicate (nn.length+1) S6):=by
   have:=gu.of g2;rwa[<-List.replicate_succ']at this
  have Yi:gu (b+1) w4 s3 (List.replicate (nn.length+1) S6):=Yh.vv (G:=fun k=>k=b) (dA.p (by simp)) fun k h _=>by omega
  have m4:Fy (fun k=>k=b∨k=m0) s w s3 w4:=by
   refine m1'.trans ⟨((k3.oZ (g3.p (F:=fun k=>(k=b∨k=m0)∨s.a=some ⟨k,0,none⟩) fun g hg=>.inl (.inr (gb g hg).2.2))).trans (dA.p (F:=fun k=>k=b) (by simp)) fun k hk=>.inl (.inl (.inl hk))),fun k hk=>?_⟩;rcases g5 with e | ⟨g,e,h⟩
   ·exact .inl (by rw[<-e];exact hk)
   ·rw[e]at hk;injection hk with hk;injection hk with hk;exact .inr (by omega)
  have n4:∀k,s3.a=some ⟨k,0,none⟩->k≠k0:=fun k hk e=>by
   subst e;rcases g5 with e | ⟨g,e,h⟩
   ·exact OM (by rw[<-e];exact hk)
   ·rw[e]at hk;injection hk with hk;injection hk with hk;omega
  have iq:∀{u:av} {q:Sl},Fy (fun k=>k=b∨k=m0) s w q u->aA (mr false D) 9 u F kids ks:=fun hm=>SliceF.kU (cw false D) (by decide) hk hm.1 fun k rL _=>by
   have:=hF k rL;exact fun h=>h.elim (by omega) fun h=>by have:=(hS.blk h).1;dsimp only at this;omega
  refine⟨fun kv i w'=>∃(j:Nat) (q:Sl),i=(j:Int)/\kv+j=ks.length/\j<=ks.length/\Lo w' b m0 m1 q (nn++bb.nm::(vN (ks.take j)).map fun p=>p.1) vn (mW f (wi nn ((bb.nm,bb.a)::vN (ks.take j))))/\gu (b+1) w' q (List.replicate (nn.length+1+di (ks.take j)) S6)/\Fy (fun k=>k=b∨k=m0) s w q w'/\w4.heap.size<=w'.heap.size/\∀k,q.a=some ⟨k,0,none⟩->k≠k0,ks.length,⟨0,s3,rfl,by omega,bp _,by
   rw[cK,vN,wi,wi,bN];exact hL4,by rw[cK,di,dx];exact Yi,m4,aV _,n4⟩,?_⟩
  rintro kv _ w5 ⟨j,q,rfl,u5,lK,TQ,IM,m5,z5,n5⟩;constructor
  ·intro hc;have hj:j<ks.length:=by have:=aP hc;omega
   obtain⟨y,hy⟩:∃y,ks[j]? =some y:=⟨_,bB hj⟩
   obtain⟨ad,y',ds,a1,a2,a3,a4,a5,a6⟩:=(iq m5).get (bm j) (by omega);rw[aZ,hy]at a2;injection a2 with a2;subst a2;have PG:=a6;obtain⟨D',rfl⟩:∃D',D=D'+1:=by
    cases D with
    | zero=>exact a6.elim
    | succ D'=>exact⟨D',rfl⟩
   obtain⟨uY,uZ,pO,jv,rfl,_⟩:=PG;have pC:=lO hy;have hzy:=mg (bG hy);have OO:(nn++bb.nm::(vN (ks.take j)).map fun p=>p.1).length=nn.length+1+di (ks.take j):=by
    rw[aO,bf,bC,QI];omega
   refine⟨ad,a1,_,_,_,_,uY,uZ,pO,jv,_,a5,fun k6 w6 hk6 RT eh=>?_⟩;have z6:=eh.size;have Ki:=TQ.o0 eh;have IB:=TQ.lt;refine(M7 (D'+1) ((cw false (D'+1)).keep a6 fun k _ bQ=>eh.block k bQ (by simp)) hF Ki (by rw[OO];exact IM.vv eh.p0 fun _ _ _ h=>h) (by omega) (by rw[OO];omega)).mono ?_;rintro _ w7 ⟨rfl,q7,BX,hS7,m7⟩;have z7:=m7.1.size;have e:ks.take (j+1)=ks.take j++[y]:=by rw[bH,hy];rfl
   have en1:vN (ks.take (j+1))=vN (ks.take j)++Hv y:=by rw[e,Hw,vN,vN,bN]
   refine⟨rfl,m7.1.same fun x hx=>?_,kv-1,by omega,j+1,q7,by rw[fQ (by omega) (by omega)];rfl,by omega,by omega,?_,?_,(m5.trans (Fy.of eh (by simp))).trans m7,by omega,fun k hk e=>?_⟩
   ·simp only[aQ,aW,bP]at hx;rcases hx with rfl | rfl
    ·exact⟨by omega,fun h=>h.elim (by omega) fun h=>n5 _ h rfl⟩
    ·refine⟨RT,fun h=>h.elim (by omega) fun h=>?_⟩;have:=(IM.blk h).2;dsimp only at this;omega
   ·have e1:nn++bb.nm::(vN (ks.take (j+1))).map (fun p=>p.1)=(nn++bb.nm::(vN (ks.take j)).map fun p=>p.1)++(Hv y).map fun p=>p.1:=by
     rw[en1,cN,bF,bZ]
    have e2:wi nn ((bb.nm,bb.a)::vN (ks.take (j+1)))=wi nn ((bb.nm,bb.a)::vN (ks.take j))++wi (nn++bb.nm::(vN (ks.take j)).map fun p=>p.1) (Hv y):=by
     rw[en1,<-bZ,A9];rfl
    rw[e1,e2,io];exact BX
   ·rw[OO]at hS7;rw[e,xI,di,di,dx,<-dJ];exact hS7
   ·subst e;rcases m7.2 _ hk with h | h
    ·exact n5 _ h rfl
    ·omega
  ·intro hc;have og:j=ks.length:=by have:=aU hc;omega
   subst og;rw[bA (aV _)]at IM TQ;refine⟨rfl,q,?_,?_,m5⟩
   ·rw[Hv];exact TQ
   ·rw[gp,show nn.length+(di ks+1)=nn.length+1+di ks by omega];exact IM
end Go.Proofs.YtbkjcdocjfknfaaGreatDoor.Con
namespace Go.Kt
open Go renaming World->av,Value->aw
open Go Go.RowKit
set_option linter.unusedSimpArgs false
set_option linter.unusedVariables false
section
variable {P:Program} {w:av}
set_option maxRecDepth 20000 in
theorem tQ {t it ty e:TypeId} {i:TypeInfo} {z:Value} (ht:P.underlying t=some (.slice e)) (hit:P.underlying it=some (.int .i64)) (hi:P.info? e=some i) (hz:i.zero=some z)
  {n:Nat} (W6:0<n) (JM:0<i.size) (Tj:n<=9223372036854775807) (JL:n*i.bytes<=281474976710656) (FP:Builtin.nextslicecap n 0*i.bytes<=281474976710656):
  (Builtin.append_ #[t,it] ty #[.slice none 0 0,.int .i64 n]).run P w=
   .ok (.slice (some ⟨w.heap.size,0,none⟩) n (grownCap w n 0 e))
    (w.drew.alloc (.cells (Builtin.zeroCells z.cells n++Builtin.zeroCells z.cells (grownCap w n 0 e-n)) e)):=by
 have hn:¬(n<=0):=by omega
 have aiK:¬(9223372036854775807<(n:Int)):=by omega
 have aiL:¬(281474976710656<Builtin.nextslicecap n 0*i.bytes):=by omega
 have hwr:IntKind.i64.wrap (n:Int)=n:=fQ (by omega) (by omega);have kV:¬(281474976710656<(n:Int)*(i.bytes:Int)):=by
  have:((n*i.bytes:Nat):Int)<=281474976710656:=Int.ofNat_le.2 JL;rw[Int.natCast_mul]at this;omega
 have aiM:¬((n:Int)<0):=by omega
 have gL:n≠0:=by omega
 have Wq:n*i.size≠0:=by have:=Nat.mul_pos W6 JM;omega
 simp[Builtin.append_,run_underlying ht,run_underlying hit,sizeOf,typeInfo,zeroValue,hi,hz,asInt,asIntOf,hwr,aiM,kV,gL,Wq,aiK,aiL,Question.forced,run_firstCells_none,newRow,grownCap]
theorem M8{α:Type}{r:Rp α}{F:Nat->Prop}{size bytes:Nat}{t it ty e:TypeId}{i:TypeInfo}{z:aw}(ht:P.underlying t=some (.slice e))(hit:P.underlying it=some (.int .i64))(hi:P.info? e=some i)(hz:i.zero=some z)(jM:i.size=size)(JL:i.bytes=bytes)(D7:z.cells.size=size)
  {n:Nat} (W6:0<n) (h0:0<size) (hm:n*bytes<=140737488355328) (yj:0<bytes):
  ∃s w',(Builtin.append_ #[t,it] ty #[.slice none 0 0,.int .i64 n]).run P w=.ok (Sl.v s) w'/\Own r size e w.heap.size w' F (s.cut 0 0 s.c size) []/\Only [] w w'/\s.a=some ⟨w.heap.size,0,none⟩:=by
 subst jM;subst JL;have Tj:n<=140737488355328:=bh (by have:=Nat.mul_le_mul_left n yj;omega) hm;have hf:=(growslice_fits W6 hm:Builtin.nextslicecap n 0*i.bytes<=281474976710656)
 refine⟨⟨some ⟨w.heap.size,0,none⟩,n,grownCap w n 0 e⟩,_,tQ ht hit hi hz W6 h0 (by omega) (by omega) hf,?_,(Only.drew w).cp (Only.alloc _ _),rfl⟩;have sP:=grownCap_ge w n 0 e;have pC:=grownCap_le_maxLen w n 0 e (by simp only[maxLen];omega);refine .inr ⟨w.heap.size,([]:List (List aw)),(Builtin.zeroCells z.cells n++Builtin.zeroCells z.cells (grownCap w n 0 e-n)).toList,?_,aV _,?_,?_,rfl,?_,?_,trivial⟩
 ·simp[Sl.cut,Addr.add]
 ·have:=Blk.alloc w.drew e (Builtin.zeroCells z.cells n++Builtin.zeroCells z.cells (grownCap w n 0 e-n)).toList;rw[Array.toArray_toList]at this;exact this
 ·rw[Array.toList_append,aO,sS w _ D7,sS w _ D7,<-eA];simp only[Sl.cut];congr 1;omega
 ·simp[Sl.cut]
 ·simp only[Sl.cut];simp only[maxLen]at pC;omega
end
end Go.Kt
namespace Go.Proofs.YtbkjcdocjfknfaaGreatDoor.Con
open Go.Value renaming int->O,string->ab,pointer->ae,agg->ah,tuple->ai,bool->aj
open Go.IntKind renaming i64->U,wrap->ar
open Go.Ending renaming returned->ak
open _root_.ByteArray renaming mk->ao
open _root_.Go.Proofs.Tryz renaming prog->aq
open Go.Instr renaming buildSlice->au
open Go renaming World->av,Value->aw,Calls->az
open Go.Kt renaming Only->ay,SliceF->aA,Cells->aB,OnlyP->aD,Blk->aF
open Go Go.RowKit Go.Kt Go.Kt.V Go.Proofs.YtbkjcdocjfknfaaGreatDoor.Vc
set_option linter.unusedSimpArgs false
set_option linter.unusedVariables false
set_option maxHeartbeats 800000
set_option maxRecDepth 100000
structure Lx (w:av) (b m0 m1:Nat) (F:aJ) (s:Sl) (xs:List du) (vn:List (aH)) (f:Ft):Prop where
 lo:Lo w b m0 m1 s (xs.map fun x:du=>x.nm) vn f
 sp:aA xT 5 w F s xs
 fo:Fo xs
 ln:xs.length<=64
 nF:∀k,F k->k≠b
section
variable {w w':av} {b m0 m1:Nat} {F G:aJ} {s:Sl} {xs:List du} {vn:List (aH)} {f g:Ft}
theorem Lx.o0(h:Lx w b m0 m1 F s xs vn f)(hO:ay [] w w'):Lx w' b m0 m1 F s xs vn f:=⟨h.lo.o0 hO,SliceF.only ey (by decide) h.sp hO (by simp),h.fo,h.ln,h.nF⟩
theorem Lx.to(h:Lx w b m0 m1 F s xs vn f)(hO:ay [b] w w')(hl:Lo w' b m0 m1 s (xs.map fun x:du=>x.nm) vn g):Lx w' b m0 m1 F s xs vn g:=
 ⟨hl,SliceF.only ey (by decide) h.sp hO fun k hk _ hm=>h.nF k hk (by simpa using hm),h.fo,h.ln,h.nF⟩
theorem jL(h:Lx w b m0 m1 F s xs vn f)(ok:Bool)(e a:Int):az aq 123 #[ae (some ⟨b,0,none⟩),aj ok,O U e,O U a] w fun r w'=>r=ak (ai #[])/\Lx w' b m0 m1 F s xs vn (mW f (bad ok e a))/\ay [b] w w':=by
 refine(Be h.lo ok e a).mono ?_;rintro _ w' ⟨rfl,h1,hO⟩;exact⟨rfl,h.to hO h1,hO⟩
theorem xV(xs:List du)(n:aH):fW xs n= -1∨∃j:Nat,fW xs n=j/\j<xs.length:=by
 rcases mN xs n with⟨h,_⟩ | ⟨j,x,h,hx,_⟩
 ·exact .inl h
 ·exact .inr ⟨j,h,jm hx⟩
theorem Bg(h:Lx w b m0 m1 F s xs vn f)(n:aH):az aq 163 #[.map (some m0),ab (T n)] w fun r w'=>r=ak (O U (fW xs n))/\w'=w:=by
 refine ret (afq _ _ _ _ ?_);refine⟨_,_,w,h.lo.nm.at n,fun hb=>⟨?_,rfl⟩,fun hb=>⟨?_,rfl⟩⟩
 ·have hl:=lG.2 (aP hb);unfold fW;rw[if_pos hl,if_pos (by rwa[bC]at hl)]
 ·have hl:¬_:=fun h=>aU hb (lG.1 h);unfold fW;rw[if_neg (by rwa[bC]at hl)]
theorem DH(h:Lx w b m0 m1 F s xs vn f){n:Int}(hn:n<xs.length):az aq 164 #[ae (some ⟨b,0,none⟩),O U n] w fun r w'=>r=ak (aj (decide (0<=n)&&!kR (mX xs n)))/\w'=w:=by
 refine ret (afr _ _ _ _ ?_);refine⟨fun r w'=>r=(decide (0<=n)&&!kR (mX xs n))/\w'=w,fun r w' ⟨h1,h2⟩=>⟨by rw[h1],h2⟩,fun hc=>?_,fun hc=>⟨?_,rfl⟩⟩
 ·have hc:0<=n:=aP hc;obtain⟨j,rfl⟩:∃j:Nat,n=j:=⟨n.toNat,by omega⟩
  obtain⟨x,hx⟩:=mf (xs:=xs) (i:=j) (by omega);obtain⟨ad,a1,a2,_⟩:=pu h.sp hx;refine⟨s,Blk.dT h.lo.blk 1 rfl,ad,a1,x.k,a2.dT 0 _ rfl,(wl w x.k).mono ?_⟩;rintro _ w1 ⟨rfl,hu⟩;refine⟨_,rfl,?_,hu⟩;rw[jo hx,bI hc];rfl
 ·rw[show decide (0<=n)=false from hc];rfl
theorem Bh{b k0:Nat}(hO:ay [b] w w')(h:k0≠b):bL (fun k=>k=k0) w w':=fun k hk bQ=>hO.block k bQ (by subst hk;simp[h])
theorem qo{b:Nat}{u v:av}(h:ay [b] w u)(g:ay [b] u v):ay [b] w v:=h.trans g fun x hx=>.inl hx
theorem vP{b:Nat}(h:ay [] w w'):ay [b] w w':=h.weaken fun x hx=>(by simp at hx)
theorem Bi:∀(d:Nat) {w:av} {x:Ex} {cs:aI} {f:Ft},Hp false d w G x cs->(∀k,G k->k≠b)->Lx w b m0 m1 F s xs vn f->
  az aq 126 #[ae (some ⟨b,0,none⟩),ah cs.toArray] w fun r w'=>r=ak (ai #[])/\Lx w' b m0 m1 F s xs vn (mW f (O7 xs vn x))/\ay [b] w w'
 | 0,_,_,_,_,h,_,_=>h.elim
 | d+1,w,x,cs,f,⟨sl,lQ,pL⟩,hG,h=>by
  subst lQ;have pL:=pL.1;refine ret (afu _ _ _ _ _ _ _ _ _ ?_);intro k0 w0 gH eW cE;have z0:=cE.size;have BM:=h.lo.lt;have h0:=h.o0 cE;have OO:=pL.len;have hcp:=pL.cap;have PA:=pL.big;have OS:k0≠b:=by omega
  refine⟨fun u=>Lx u b m0 m1 F s xs vn (mW f (bad (O6 xs vn x.k x.s) 23 x.a))/\ay [b] w u/\w0.heap.size<=u.heap.size,?_,fun hk=>?_,fun hk=>⟨fun vU=>?_,fun vU=>?_⟩⟩
  ·rintro w1 ⟨h1,o1,z1⟩;refine⟨fun kv i u=>∃j:Nat,i=(j:Int)/\kv+j=x.eN.length/\j<=x.eN.length/\Lx u b m0 m1 F s xs vn (mW f (bad (O6 xs vn x.k x.s) 23 x.a++rf xs vn (x.eN.take j)))/\ay [b] w u/\w0.heap.size<=u.heap.size,x.eN.length,⟨0,rfl,rfl,bp _,by rw[cK,rf,bN];exact h1,o1,z1⟩,?_⟩;rintro kv _ w2 ⟨j,rfl,u5,hj,h2,o2,z2⟩;refine⟨fun hc=>?_,fun hc=>?_⟩
   ·have hc:=aP hc;have hs2:aA (Hp false d) 6 w2 G sl x.eN:=SliceF.only (jl false d) (by decide) pL o2 fun k hk _ hm=>hG k hk (by simpa using hm);obtain⟨ad,y,ds,a1,a2,a3,a4,a5,a6⟩:=hs2.get (bm j) (by omega);rw[aZ]at a2;have PG:=a6;obtain⟨d',rfl⟩:∃e,d=e+1:=by
     cases d with
     | zero=>exact a6.elim
     | succ e=>exact⟨e,rfl⟩
    obtain⟨nf,rfl,_⟩:=PG;refine⟨ad,a1,_,_,_,_,_,_,a5,fun k3 w3 vU ud dl=>?_⟩;have z3:=dl.size;refine(Bi (d'+1) ((jl false (d'+1)).keep a6 fun k hk bQ=>dl.block k bQ (by simp)) hG (h2.o0 dl)).mono ?_;rintro _ w4 ⟨rfl,h4,dA⟩;have z4:=dA.size;have pM:x.eN.take (j+1)=x.eN.take j++[y]:=by rw[bH,a2];rfl
    have ym:=h2.lo.lt;refine⟨rfl,dA.same (by simp;omega),kv-1,by omega,j+1,by rw[fQ (by omega) (by omega)];rfl,by omega,by omega,?_,(o2.cp dl).trans dA fun x hx=>.inl hx,by omega⟩;rw[pM,Dv,rf,rf,bN,<-bF,io];exact h4
   ·have hc:=aU hc;have og:j=x.eN.length:=by omega
    subst og;rw[bA (aV _),<-UN]at h2;exact⟨rfl,h2,o2⟩
  ·have hk:x.k=2:=by simpa using hk
   intro w5 eJ;have z5:=eJ.size;have h5:=h0.o0 eJ;refine⟨_,Blk.dT h5.lo.blk 2 rfl,_,_,w5,h5.lo.vr.at x.s,bS.refl _ _,(jL h5 _ 23 x.a).mono ?_⟩;rintro _ w7 ⟨rfl,h7,fm⟩;have z7:=fm.size;refine⟨rfl,fm.same (by simp;omega),?_,qo (vP (cE.cp eJ)) fm,by omega⟩;have:O6 xs vn x.k x.s=decide (x.s∈vn):=by unfold O6;rw[hk];simp
   rw[this];exact h7
  ·have vU:x.k=3:=by simpa using vU
   intro w8 fp;have z8:=fp.size;have h8:=h0.o0 fp;refine⟨fun k=>k=k0,_,Blk.dT h8.lo.blk 0 rfl,rfl,(Bg h8 x.s).mono ?_⟩;rintro _ w9 ⟨rfl,hu⟩;obtain rfl:w8=w9:=hu.symm;refine⟨_,rfl,bS.refl _ _,bL.refl _ _,(DH h8 (by rcases xV xs x.s with h | ⟨j,h,hl⟩<;>omega)).mono ?_⟩;rintro _ dw ⟨rfl,hu⟩;obtain rfl:w8=dw:=hu.symm;refine⟨_,rfl,bS.refl _ _,bL.refl _ _,(jL h8 _ 23 x.a).mono ?_⟩;rintro _ dr ⟨rfl,Kf,dS⟩;have BS:=dS.size;refine⟨rfl,dS.same (by simp;omega),Bh dS OS,?_,qo (vP (cE.cp fp)) dS,by omega⟩;have:O6 xs vn x.k x.s=XE xs x.s:=by unfold O6;rw[vU];simp
   rw[this];exact Kf
  ·have qZ:x.k≠2:=by simpa using hk
   have vU:x.k≠3:=by simpa using vU
   have:O6 xs vn x.k x.s=true:=by unfold O6;simp[qZ,vU]
   rw[this];exact⟨h0,vP cE,aV _⟩
end
def DI:Rp Sl:=fun _ _ x cs=>cs=[x.v]
theorem oU:DI.Ok:=⟨fun h _=>h,fun h=>h,fun h _=>h,fun h=>by
 unfold DI at h;subst h;intro v hv;simp only[aN]at hv;subst hv;rfl⟩
abbrev zJ(B:Nat)(w:av)(G:aJ)(s:Sl)(l:List Ac):Prop:=Own (pj false) 9 196 B w G s l
theorem Q1(w:av)(G:aJ){n:Nat}(hn:n<=20000000):az aq 201 #[Sl.nil.v,O U (n:Int)] w fun e w'=>(∃s:Sl,e=ak s.v/\zJ w.heap.size w' G s [])/\ay [] w w':=by
 refine(ZB Sl.nil n (fun v w'=>(∃s:Sl,v=s.v/\zJ w.heap.size w' G s [])/\ay [] w w') w ?_).mono (by rintro _ w' ⟨v,rfl,⟨s,rfl,h⟩,h'⟩;exact⟨⟨s,rfl,h⟩,h'⟩);have e0:ar U ((n:Int)-(ar U ((Sl.nil.c:Int)-(Sl.nil.n:Int))))=n:=by
  show ar U ((n:Int)-(ar U (((0:Nat):Int)-((0:Nat):Int))))=n;rw[fQ (x:=((0:Nat):Int)-((0:Nat):Int)) (by omega) (by omega),fQ (by omega) (by omega)];omega
 refine⟨fun u=>w=u,?_,fun hc=>?_,fun _=>rfl⟩
 ·rintro _ rfl;rw[e0];refine⟨fun l u=>zJ w.heap.size u G l []/\ay [] w u,fun l u h=>⟨⟨l,rfl,h.1⟩,h.2⟩,fun hc=>?_,fun hc=>⟨Own.nil _ _ _ _ _ _,Only.refl _ _⟩⟩;have hc:=aP hc;obtain⟨s,w2,g1,g2,g3,_⟩:=M8 (P:=aq) (w:=w) (r:=pj false) (F:=G) (size:=9) (bytes:=104) (t:=23) (it:=3) (ty:=23) (e:=196) (i:=Tryz.t196) (n:=n) (by kernel_rfl) (by kernel_rfl) (by kernel_rfl) rfl rfl rfl rfl (by omega) (by decide) (by omega) (by decide);exact⟨0,⟨rfl,aV _⟩,s,w2,g1,0,⟨rfl,bp _⟩,g2,g3⟩
 ·have:=aP hc;omega
def ki(l:List (Sl×List Ac)):List Ac:=l.flatMap fun p=>p.2
theorem qS{l:List (Sl×List Ac)}{j:Nat}{p:Sl×List Ac}(h:l[j]? =some p):ki (l.take (j+1))=ki (l.take j)++p.2:=by
 rw[bH,h];unfold ki;rw[pK];simp
theorem H2{l:List (Sl×List Ac)}(j:Nat):(ki (l.take j)).length<=(ki l).length:=by
 have:ki l=ki (l.take j)++ki (l.drop j):=by
  unfold ki;rw[<-pK,dD]
 rw[this,aO];omega
theorem JA{w:av}{rows:Sl}{F G:aJ}{l:List (Sl×List Ac)}(hR:aA DI 1 w F rows (l.map fun p=>p.1))(hA:∀p,p∈l->aA (pj false) 9 w G p.1 p.2)(hm:(ki l).length<=20000000):
  az aq 165 #[rows.v] w fun e w'=>(∃s:Sl,e=ak s.v/\zJ w.heap.size w' (fun k=>G k/\k<w.heap.size) s (ki l))/\ay [] w w':=by
 refine(aft rows (fun v w'=>(∃s:Sl,v=s.v/\zJ w.heap.size w' (fun k=>G k/\k<w.heap.size) s (ki l))/\ay [] w w') w ?_).mono (by rintro _ w' ⟨v,rfl,⟨s,rfl,h⟩,h'⟩;exact⟨⟨s,rfl,h⟩,h'⟩);have hrl:=hR.len;have hcp:=hR.cap;have PA:=hR.big;rw[bC]at hrl;have row:∀{u:av} {j:Nat},ay [] w u->j<l.length->∃ad p,dy rows (j:Int) 1 ad/\l[j]? =some p/\aB u ad [p.1.v]/\aA (pj false) 9 u (fun k=>G k/\k<w.heap.size) p.1 p.2:=fun{u j} hO hj=>by
  obtain⟨ad,y,ds,a1,a2,a3,a4,a5,a6⟩:=(SliceF.only oU (by decide) hR hO (by simp)).get (bm j) (by omega);rw[aZ,cF,fg]at a2;obtain⟨p,hp,rfl⟩:=a2;have a6:ds=[p.1.v]:=a6;subst a6;exact⟨ad,p,a1,hp,a5,((hA p (bG hp)).inHeap (cV false) (by decide)).keep (cV false) (by decide) fun k _ bQ=>hO.block k bQ (by simp)⟩
 refine⟨fun kv n i u=>∃j:Nat,i=(j:Int)/\n=((ki (l.take j)).length:Nat)/\kv+j=l.length/\j<=l.length/\w=u,l.length,⟨0,rfl,rfl,rfl,bp _,rfl⟩,?_⟩;rintro kv _ _ _ ⟨j,rfl,rfl,u5,hj,rfl⟩;refine⟨fun hc=>?_,fun hc=>?_⟩
 ·have hc:=aP hc;obtain⟨ad,p,a1,a2,a3,a4⟩:=row (Only.refl _ _) (j:=j) (by omega);have TG:=a4.len;have pC:=H2 (l:=l) (j+1);rw[qS a2,aO]at pC;have hw:ar U (((ki (l.take j)).length:Nat)+(p.1.n:Int))=((ki (l.take (j+1))).length:Nat):=by
   rw[fQ (by omega) (by omega),qS a2,aO];omega
  refine⟨fun n u=>n=((ki (l.take (j+1))).length:Nat)/\w=u,?_,ad,a1,p.1,a3,fun hb=>?_,fun _=>⟨hw,rfl⟩⟩
  ·rintro _ _ ⟨rfl,rfl⟩;exact⟨kv-1,by omega,j+1,by rw[fQ (by omega) (by omega)];rfl,rfl,by omega,by omega,rfl⟩
  ·have:=aP hb;rw[hw]at this;omega
 ·have hc:=aU hc;have og:j=l.length:=by omega
  subst og;rw[bA (aV _)];refine(Q1 w (fun k=>G k/\k<w.heap.size) hm).mono ?_;rintro _ w2 ⟨⟨s,rfl,hS⟩,cR⟩;refine⟨s,rfl,fun kv t i u=>∃j:Nat,i=(j:Int)/\kv+j=l.length/\j<=l.length/\zJ w.heap.size u (fun k=>G k/\k<w.heap.size) t (ki (l.take j))/\ay [] w u,l.length,⟨0,rfl,rfl,bp _,by rw[cK];exact hS,cR⟩,?_⟩;rintro kv t _ w3 ⟨j,rfl,u5,hj,hT,dl⟩;refine⟨fun hc=>?_,fun hc=>?_⟩
  ·have hc:=aP hc;obtain⟨ad,p,a1,a2,a3,a4⟩:=row dl (j:=j) (by omega);have pC:=H2 (l:=l) (j+1);rw[qS a2,aO]at pC;obtain⟨t',w4,g1,g2,gs,g3,g4,_⟩:=oA (P:=aq) (t:=23) (ty:=23) (e:=196) (i:=Tryz.t196) (bytes:=104) (size:=9) (r:=pj false) (by kernel_rfl) (by kernel_rfl) rfl rfl rfl rfl (cV false) hT (a4.mono (cV false) fun k hk=>⟨hk,fun e=>by have:=(hT.blk e).1;dsimp only at this;omega⟩) dl.size (by omega) (by decide);refine⟨ad,a1,p.1,a3,t',w4,g1,kv-1,by omega,j+1,by rw[fQ (by omega) (by omega)];rfl,by omega,by omega,by rw[qS a2];exact g2,dl.trans g3 fun g hg=>.inr (g4 g hg).2.1⟩
  ·have hc:=aU hc;have og:j=l.length:=by omega
   subst og;rw[bA (aV _)]at hT;exact⟨⟨t,rfl,hT⟩,dl⟩
section
variable {w w':av} {b m0 m1:Nat} {F G H:aJ} {s:Sl} {xs:List du} {vn:List (aH)} {f g:Ft}
theorem H3{rows:Sl}{l:List (Sl×List Ac)}(hR:aA DI 1 w H rows (l.map fun p=>p.1))(hA:∀p,p∈l->aA (pj false) 9 w G p.1 p.2)(hm:(ki l).length<=20000000)(hG:∀k,G k->k≠b)(h:Lx w b m0 m1 F s xs vn f):
  az aq 125 #[ae (some ⟨b,0,none⟩),rows.v] w fun r w'=>r=ak (ai #[])/\Lx w' b m0 m1 F s xs vn (mW f (rh xs vn (ki l)))/\ay [b] w w':=by
 refine ret (afs _ _ _ _ ?_);refine(JA hR hA hm).mono ?_;rintro _ w0 ⟨⟨t,rfl,hT⟩,cE⟩;have BM:=h.lo.lt;have z0:=cE.size;generalize ki l=al at*
 have Yd:=hT.len;refine⟨t,rfl,fun kv i u=>∃j:Nat,i=(j:Int)/\kv+j=al.length/\j<=al.length/\Lx u b m0 m1 F s xs vn (mW f (rh xs vn (al.take j)))/\ay [b] w0 u,al.length,⟨0,rfl,rfl,bp _,by rw[cK];exact h.o0 cE,Only.refl _ _⟩,?_⟩;rintro kv _ w1 ⟨j,rfl,u5,hj,h1,cA⟩;have z1:=cA.size;refine⟨fun hc=>?_,fun hc=>?_⟩
 ·have hc:=aP hc;have W9:aA (pj false) 9 w1 _ t al:=SliceF.only (cV false) (by decide) (hT.slice (cV false)) cA fun k hk _ hm=>by
   simp only[aN]at hm;rcases hk with hk | hk
   ·exact hG k hk.1 hm
   ·omega
  obtain⟨ad,y,ds,a1,a2,a3,a4,a5,a6⟩:=W9.get (bm j) (by omega);rw[aZ]at a2;obtain⟨xc,rfl,hx⟩:=a6;obtain⟨sl,rfl⟩:=gR hx;have yU:=h1.lo.lt;refine⟨ad,a1,_,_,_,_,_,_,sl,_,_,a5,fun k2 w2 qZ uc cR=>?_⟩;have z2:=cR.size;have h2:=h1.o0 cR;have e1:rh xs vn (al.take (j+1))=rh xs vn (al.take j)++(bad (decide (y.k≠1)||decide (y.n∈vn)) 23 y.a++O7 xs vn y.x):=by
   rw[bH,a2];unfold rh;rw[pK];simp[acF]
  refine⟨fun u=>Lx u b m0 m1 F s xs vn (mW f (rh xs vn (al.take j)++bad (decide (y.k≠1)||decide (y.n∈vn)) 23 y.a))/\ay [b] w2 u,?_,fun hk w5 eJ=>?_,fun hk=>?_⟩
  ·rintro w3 ⟨h3,dl⟩;have z3:=dl.size;obtain⟨d,hxd⟩:=hx;have hfp:∀k,((G k/\k<w.heap.size)∨(w.heap.size<=k/\t.a=some ⟨k,0,none⟩))->k≠b:=fun k hk=>hk.elim (fun h=>hG k h.1) fun h=>by omega
   refine(Bi d ((jl false d).keep ((jl false d).keep hxd fun k _ bQ=>cR.block k bQ (by simp)) fun k hk bQ=>dl.block k bQ (by simp;exact hfp k hk)) hfp h3).mono ?_;rintro _ w4 ⟨rfl,h4,dA⟩;have z4:=dA.size;refine⟨rfl,dA.same (by simp;omega),kv-1,by omega,j+1,by rw[fQ (by omega) (by omega)];rfl,by omega,by omega,?_,qo (qo (cA.cp cR) dl) dA⟩;rw[e1,<-bF,io];exact h4
  ·have hk:y.k=1:=by simpa using hk
   have z5:=eJ.size;have h5:=h2.o0 eJ;refine⟨_,Blk.dT h5.lo.blk 2 rfl,_,_,w5,h5.lo.vr.at y.n,bS.refl _ _,(jL h5 _ 23 y.a).mono ?_⟩;rintro _ w7 ⟨rfl,h7,fm⟩;have z7:=fm.size;refine⟨rfl,fm.same (by simp;omega),?_,qo (vP eJ) fm⟩;rw[io,hk];exact h7
  ·have hk:y.k≠1:=by simpa using hk
   refine⟨?_,Only.refl _ _⟩;rw[io,bI hk];exact h2
 ·have hc:=aU hc;have og:j=al.length:=by omega
  subst og;rw[bA (aV _)]at h1;exact⟨rfl,h1,qo (vP cE) cA⟩
end
theorem af6(u:av){a b:Int}(ha:rn a)(hb:rn b):∃y w1,(au 32 2 #[.mk 0 (O U a),.mk 1 (O U b)]).run aq u=.ok (Sl.v y) w1/\ay [] u w1/\aA rInt 1 w1 (fun _=>True) y [a,b]:=by
 obtain⟨y,w1,k1,k2,k3,_⟩:=gV (P:=aq) (t:=32) (e:=3) (i:=Tryz.t3) (z:=O U 0) (w:=u) (F:=fun _=>False) (vs:=[O U a,O U b]) (parts:=#[.mk 0 (O U a),.mk 1 (O U b)]) (len:=2) (xs:=[a,b]) (r:=rInt) (size:=1) (by kernel_rfl) (by kernel_rfl) rfl rfl (by decide) rfl rfl (by decide) (by decide) cx ⟨⟨rfl,rfl,ha⟩,⟨rfl,rfl,hb⟩,trivial⟩;exact⟨y,w1,k1,k3,(k2.slice cx).mono cx fun _ _=>trivial⟩
theorem gu.sl{B:Nat}{w:av}{s:Sl}{xs:List du}(h:gu B w s xs):aA xT 5 w (fun k=>B<=k) s xs:=(h.slice ey).mono ey fun k hk=>hk.elim (fun h=>h.elim) fun h=>h.1
def tup(x:du):Int×aH×Int×Int×Int:=(x.k,x.nm,x.pa,x.dp,x.en)
section
variable {w w':av} {b m0 m1:Nat} {F G:aJ} {s:Sl} {xs:List du} {vn:List (aH)} {f g:Ft}
theorem FA{n:Int}(h:vM xs n)(hl:xs.length<=64):rn n:=⟨by have:=h.1;omega,by have:=h.2;omega⟩
theorem M9(h:Lx w b m0 m1 F s xs vn f){n o:Int}(hn:vM xs n)(ho:vM xs o):az aq 167 #[ae (some ⟨b,0,none⟩),O U n,O U o] w fun r w'=>r=ak (aj (MD xs n o))/\ay [] w w':=by
 refine ret (afx _ _ _ _ _ ?_);obtain⟨y,w1,k1,k2,k3⟩:=af6 w (FA hn h.ln) (FA ho h.ln);have h1:=h.o0 k2;refine⟨s,Blk.dT h.lo.blk 1 rfl,y,w1,k1,(M4 h1.sp h.fo k3).mono ?_⟩;rintro _ w2 ⟨⟨r,rfl,hr⟩,cR⟩;have h2:=h1.o0 cR;have er:=h.fo.Rn hr hn ho;have OP:=hr.aag (by simp) fun i hi=>by
  simp only[aQ,aW,bP]at hi;rcases hi with rfl | rfl
  ·exact hn
  ·exact ho
 obtain⟨m,e,t1,_⟩:=OP;obtain⟨k,_,x,hx,_⟩:=t1 n (by simp);obtain⟨ad,a1,a2,_⟩:=pu h2.sp hx;subst e;refine⟨_,rfl,s,fun _=>Blk.dT h2.lo.blk 1 rfl,ad,fun _=>a1,x.k,fun _=>a2.dT 0 _ rfl,?_,k2.cp cR⟩;unfold MD;rw[<-er,jo hx];congr 1;rw[bT];simp
theorem Va{k0 k4:Nat}(h:Lx w b m0 m1 F s xs vn f){n o:Int}(hn:vM xs n)(ho:vM xs o)(h0:aF w k0 151 [ae (some ⟨b,0,none⟩)])(h4:aF w k4 3 [O U n]):
  az aq 166 #[O U o,ae (some ⟨k0,0,none⟩),ae (some ⟨k4,0,none⟩)] w fun r w'=>r=ak (aj (!MD xs n o))/\ay [] w w':=by
 refine ret (afw _ _ _ _ _ ?_);refine⟨_,h0.cells 0 [_] fun j v hj=>(by rw[bJ];exact hj),_,h4.cells 0 [_] fun j v hj=>(by rw[bJ];exact hj),(M9 h hn ho).mono ?_⟩;rintro _ w1 ⟨rfl,hO⟩;exact⟨_,rfl,rfl,hO⟩
theorem Vb{k0 k4:Nat}(h:Lx w b m0 m1 F s xs vn f){n:Int}(hn:vM xs n){sN:Sl}{ns:List Int}(hN:aA rInt 1 w G sN ns)(TF:∀o,o∈ns->vM xs o)(h0:aF w k0 151 [ae (some ⟨b,0,none⟩)])(h4:aF w k4 3 [O U n]):
  az aq 58 #[sN.v,.func (.func 166) #[] #[ae (some ⟨k0,0,none⟩),ae (some ⟨k4,0,none⟩)]] w fun r w'=>r=ak (aj (ns.any fun o=>!MD xs n o))/\ay [] w w':=by
 refine ret (SA sN ⟨.func (.func 166) #[] #[ae (some ⟨k0,0,none⟩),ae (some ⟨k4,0,none⟩)],rfl⟩ (fun v w'=>v=aj (ns.any fun o=>!MD xs n o)/\ay [] w w') w ?_);refine(SB sN ⟨.func (.func 166) #[] #[ae (some ⟨k0,0,none⟩),ae (some ⟨k4,0,none⟩)],rfl⟩ (fun v w'=>(∃i:Int,v=O U i/\decide (i>=0)=ns.any fun o=>!MD xs n o)/\ay [] w w') w ?_).mono (by
  rintro _ w' ⟨v,rfl,⟨i,rfl,hi⟩,hO⟩;exact⟨i,rfl,by rw[hi],hO⟩)
 have hl:=hN.len;have PD:=hN.cap;have yj:=hN.big;refine⟨fun kv i u=>∃j:Nat,i=(j:Int)/\kv+j=ns.length/\j<=ns.length/\((ns.take j).any fun o=>!MD xs n o)=false/\ay [] w u,ns.length,⟨0,rfl,by omega,bp _,rfl,Only.refl _ _⟩,?_⟩;rintro kv _ u ⟨j,rfl,u5,hj,hh,hO⟩;refine⟨fun hc=>?_,fun hc=>?_⟩
 ·have hc:=aP hc;obtain⟨ad,y,cs,g1,g2,g3,g4,g5,g6⟩:=(SliceF.only cx (by decide) hN hO (by simp)).get (bm j) (by omega);rw[aZ]at g2;obtain⟨rfl,hy⟩:=g6;have hym:=bG g2;refine⟨ad,g1,y,g5,166,[],[ae (some ⟨k0,0,none⟩),ae (some ⟨k4,0,none⟩)],rfl,gN (by kernel_rfl),(Va (h.o0 hO) hn (TF y hym) (hO.blk h0 (by simp)) (hO.blk h4 (by simp))).mono ?_⟩;rintro _ u1 ⟨rfl,cA⟩;refine⟨_,rfl,fun hb=>⟨⟨j,rfl,?_⟩,hO.cp cA⟩,fun hb=>⟨kv-1,by omega,j+1,by rw[fQ (by omega) (by omega)];rfl,by omega,by omega,?_,hO.cp cA⟩⟩
  ·rw[bI (by omega:(j:Int)>=0)];exact(Ko.2 ⟨y,hym,hb⟩).symm
  ·rw[bH,g2,List.any_append,hh];simpa using hb
 ·have hc:=aU hc;rw[bA (by omega)]at hh;exact⟨⟨-1,rfl,by rw[hh];rfl⟩,hO⟩
theorem Q2(hF:Fo xs){n:aH}(h:¬fW xs n<1):vM xs (ME xs n):=by
 rcases mN xs n with⟨e,_⟩ | ⟨j,x,e,hx,_⟩
 ·omega
 ·have hl:=jm hx;unfold ME;rw[e,jo hx,nS hx];split
  ·obtain⟨p,_,h1,h2,_⟩:=hF.par hx (by omega);exact⟨by omega,by omega⟩
  ·exact⟨by omega,by omega⟩
theorem fD.kp{B:Nat}{w w':av}{s:Sl}{l:List Int}(h:fD B w s l)(hO:ay [] w w'):fD B w' s l:=Own.keep cx h fun k _ bQ=>hO.block k bQ (by simp)
theorem Z4(w0:av){u:av}{s:Sl}{is:List Int}(h:fD w0.heap.size u s is)(hO:ay [] w0 u)(n:Int)(hn:rn n)(hm:is.length<=20000000):
  ∃y w1,(au 32 1 #[.mk 0 (O U n)]).run aq u=.ok (Sl.v y) w1/\ay [] u w1/\∃s' w2,(Builtin.append_ #[32,32] 32 #[Sl.v s,Sl.v y]).run aq w1=.ok (Sl.v s') w2/\fD w0.heap.size w2 s' (is++[n])/\ay [] w0 w2/\w1.heap.size<=w2.heap.size/\
   (∀k,k<u.heap.size->s.a≠some ⟨k,0,none⟩->w2.heap[k]? =w1.heap[k]?)/\∀k,k<u.heap.size->s.a≠some ⟨k,0,none⟩->s'.a≠some ⟨k,0,none⟩:=by
 obtain⟨y,w1,k1,k3,s',w2,g1,g2,⟨gs,g3,g4⟩,g5⟩:=ja (P:=aq) (t:=32) (ty:=32) (e:=3) (i:=Tryz.t3) (bytes:=8) (size:=1) (r:=rInt) (G:=fun _=>False) (v:=O U n) (x:=n) (by kernel_rfl) (by kernel_rfl) rfl rfl rfl rfl (by decide) (by decide) (by decide) cx h hO.size rfl ⟨rfl,hn⟩ (fun _ h=>h.elim) (by omega);have z3:=k3.size;refine⟨y,w1,k1,k3,s',w2,g1,fD.of g2,((hO.cp k3).oZ (g3.p (F:=fun k=>w0.heap.size<=k) fun g hg=>.inl (g4 g hg).2.1)).only fun k hk=>hk,g3.size,fun k hk hs=>g3.block k (by omega) fun hg=>hs (g4 k hg).1,fun k hk hs e=>?_⟩;rcases g5 with e' | ⟨g,e',h⟩
 ·exact hs (by rw[<-e',e])
 ·rw[e']at e;injection e with e;injection e with e;omega
theorem Na(l:List Int)(n:aH)(r:List (aH)):SP xs l (n::r)=if fW xs n<1 then false else if(l.any fun o=>!MD xs (ME xs n) o)=true then false else SP xs (l++[ME xs n]) r:=rfl
theorem FB(h:Lx w b m0 m1 F s xs vn f){sT:Sl}{tg:List (aH)}(hT:aA im 1 w G sT tg)(hm:tg.length<=20000000):az aq 127 #[ae (some ⟨b,0,none⟩),sT.v] w fun r w'=>r=ak (aj (SP xs [] tg))/\ay [] w w':=by
 refine ret (afv _ _ _ _ ?_);intro k0 w0 gH eW cE;have z0:=cE.size;have BM:=h.lo.lt;have Yd:=hT.len;refine⟨fun kv l i q u=>∃(j:Nat) (al:List Int),i=(j:Int)/\kv+j=tg.length/\j<=tg.length/\q=some ⟨b,0,none⟩/\fD w.heap.size u l al/\(∀o,o∈al->vM xs o)/\al.length<=j/\SP xs [] tg=SP xs al (tg.drop j)/\ay [] w u/\w0.heap.size<=u.heap.size/\l.a≠some ⟨k0,0,none⟩,tg.length,
  ⟨0,[],rfl,rfl,bp _,rfl,Own.nil _ _ _ _ _ _,by simp,aV _,rfl,cE,aV _,by intro e;cases e⟩,?_⟩
 rintro kv l _ _ w1 ⟨j,al,rfl,u5,hj,rfl,hS,hal,kl,sE,cA,z1,XI⟩;refine⟨fun hc=>?_,fun hc=>?_⟩
 ·have hc:=aP hc;obtain⟨ad,y,cs,g1,g2,g3,g4,g5,g6⟩:=(SliceF.only cG (by decide) hT cA (by simp)).get (bm j) (by omega);rw[aZ]at g2;have g6:cs=[ab (T y)]:=g6;subst g6;have h1:=h.o0 cA;have hdr:tg.drop j=y::tg.drop (j+1):=by
   obtain⟨bQ,e⟩:=aY.1 g2;rw[<-e,List.getElem_cons_drop]
  rw[hdr,Na]at sE;refine⟨ad,g1,_,g5,_,rfl,_,Blk.dT h1.lo.blk 0 rfl,(Bg h1 y).mono ?_⟩;rintro _ w2 ⟨rfl,hu⟩;obtain rfl:w1=w2:=hu.symm;refine⟨_,rfl,bS.refl _ _,fun hb k3 w3 _ _ dl=>⟨?_,cA.cp dl⟩,fun hb k4 w4 yF Ef dA=>?_⟩
  ·have hb:=aP hb;rw[sE,if_pos hb]
  have hb:=aU hb;rw[if_neg hb]at sE;have Xa:=Q2 h.fo hb;have z4:=dA.size;have o4:=cA.cp dA;have Yi:fD w.heap.size w4 l al:=hS.kp dA;have hl4:l.a≠some ⟨k4,0,none⟩:=fun e=>by have:=(hS.blk e).2;dsimp only at this;omega
  refine⟨fun q i u=>q=some ⟨b,0,none⟩/\i=ME xs y/\ay [] w u/\fD w.heap.size u l al/\w4.heap.size<=u.heap.size,?_,_,rfl,fun w9 fS=>?_⟩
  ·rintro _ _ w5 ⟨rfl,rfl,o5,IM,z5⟩ wy ub;have h5:=h.o0 o5;refine(Vb h5 Xa (IM.slice cx) hal wy ub).mono ?_;rintro _ w6 ⟨rfl,eh⟩;have z6:=eh.size;have o6:=o5.cp eh;refine⟨_,rfl,_,eh.blk wy (by simp),_,eh.blk ub (by simp),fun ha=>⟨?_,o6⟩,fun ha=>?_⟩
   ·rw[sE,if_pos ha]
   rw[if_neg (by rw[ha];decide)]at sE;have hS6:fD w.heap.size w6 l al:=IM.kp eh;obtain⟨y1,w7,p1,p3,s',w8,q1,q2,q3,z8,q4,q5⟩:=Z4 w hS6 o6 (ME xs y) (FA Xa h.ln) (by omega);have z7:=p3.size;refine⟨y1,w7,p1,p3.same (by simp;omega),s',w8,q1,fun k hk=>?_,kv-1,by omega,j+1,al++[ME xs y],by rw[fQ (by omega) (by omega)];rfl,by omega,by omega,rfl,q2,fun o ho=>?_,by rw[aO,bK];omega,sE,q3,by omega,q5 k0 (by omega) XI⟩
   ·simp only[aQ,aW,bP]at hk;rcases hk with rfl | rfl
    ·exact q4 _ (by omega) XI
    ·exact q4 _ (by omega) hl4
   ·rcases cr.1 ho with ho | ho
    ·exact hal o ho
    ·simp only[aN]at ho;subst ho;exact Xa
  ·have z9:=fS.size;have o9:=o4.cp fS;have h9:=h.o0 o9;obtain⟨e,_⟩ | ⟨jx,x,e,hx,_⟩:=mN xs y
   ·omega
   obtain⟨RV,b1,b2,b3,_⟩:=pu h9.sp hx;rw[e]at hb⊢;refine⟨_,Blk.dT h9.lo.blk 1 rfl,RV,b1,x.k,b2.dT 0 _ rfl,(wl w9 x.k).mono ?_⟩;rintro _ dw ⟨rfl,hu⟩;obtain rfl:w9=dw:=hu.symm;refine⟨_,rfl,bS.refl _ _,fun hh=>⟨_,rfl,fun dr dS=>?_⟩,fun hh=>⟨rfl,?_,o9,Yi.kp fS,by omega⟩⟩
   ·have BS:=dS.size;have o11:=o9.cp dS;have Kf:=h.o0 o11;obtain⟨PH,c1,_,c3,_⟩:=pu Kf.sp hx;refine⟨_,Blk.dT Kf.lo.blk 1 rfl,PH,c1,x.pa,c3,fun dX eM=>⟨rfl,?_,o11.trans eM fun k hk=>.inr (by simp only[aN]at hk;omega),?_,by have:=eM.size;omega⟩⟩
    ·unfold ME;rw[e,jo hx,nS hx,if_pos hh]
    ·refine Own.keep cx ((Yi.kp fS).kp dS) fun k hk bQ=>eM.block k bQ ?_;simp only[aN];rintro rfl;exact hk.elim (fun h=>h) fun h=>hl4 h.2
   ·unfold ME;rw[e,jo hx,if_neg (by rw[hh];decide)]
 ·have hc:=aU hc;have og:j=tg.length:=by omega
  subst og;rw[iZ (aV _)]at sE;exact⟨by rw[sE];rfl,cA⟩
end
section
variable {w w':av} {b m0 m1:Nat} {F G:aJ} {s:Sl} {xs:List du} {vn:List (aH)} {f g:Ft}
theorem DJ{l:List Nd}{j:Nat}{y:Nd}(h:l[j]? =some y):MF (l.take (j+1))=MF (l.take j)+if kR y.b.k=true then 0 else 1:=by
 unfold MF;rw[bH,h,gz,aO];simp only[Option.toList,oo,dG];cases kR y.b.k<;>simp
theorem Vd(l:List Nd):MF l<=l.length:=yy _ _
theorem Nc{D:Nat}{bb:Nb}{ks:List Nd}{cs:aI}(hx:mr false (D+1) w G (.mk bb ks) cs)(hG:∀k,G k->k≠b)(h:Lx w b m0 m1 F s xs vn f){n:Nat}(hn:n<xs.length):
  az aq 124 #[ae (some ⟨b,0,none⟩),ah cs.toArray,O U (n:Int)] w fun r w'=>r=ak (ai #[])/\Lx w' b m0 m1 F s xs vn (mW f (yB xs bb ks n))/\ay [b] w w':=by
 obtain⟨en,lv,mv,kids,lQ,_,gH⟩:=hx;have hk:=gH.1;clear gH;dsimp only[Nd.kids,Nd.b]at hk lQ;subst lQ;refine ret (afo _ _ _ _ _ _ _ _ _ _ _ _ _ ?_);intro k0 w0 gH eW cE;have z0:=cE.size;have BM:=h.lo.lt;have RI:=hk.len;have aoH:=hk.cap;have aoI:=hk.big;have OS:k0≠b:=by omega
 refine⟨fun kv c bg i u=>∃j:Nat,i=(j:Int)/\kv+j=ks.length/\j<=ks.length/\c=(MF (ks.take j):Nat)/\bg=QJ bb.ini (ks.take j)/\ay [] w u/\w0.heap.size<=u.heap.size,ks.length,⟨0,rfl,by omega,bp _,rfl,rfl,cE,aV _⟩,?_⟩;rintro kv _ _ _ w1 ⟨j,rfl,u5,hj,rfl,rfl,cA,z1⟩;refine⟨fun hc=>?_,fun hc=>?_⟩
 ·have hc:=aP hc;obtain⟨ad,y,ds,a1,a2,a3,a4,a5,a6⟩:=(SliceF.only (cw false D) (by decide) hk cA (by simp)).get (bm j) (by omega);rw[aZ]at a2;obtain⟨D',rfl⟩:∃D',D=D'+1:=by
   cases D with
   | zero=>exact a6.elim
   | succ D'=>exact⟨D',rfl⟩
  obtain⟨uY,uZ,pO,jv,rfl,_⟩:=a6;have uj:=Vd (ks.take j);have pL:(ks.take j).length<=j:=by rw[cO];omega
  refine⟨ad,a1,_,_,_,_,uY,uZ,pO,jv,_,a5,fun k3 w2 vU ud cR=>?_⟩;have z2:=cR.size;refine⟨fun c u=>c=(MF (ks.take (j+1)):Nat)/\ay [] w2 u,?_,(wl w2 y.b.k).mono ?_⟩
  ·rintro _ w3 ⟨rfl,dl⟩;have z3:=dl.size;refine⟨kv-1,by omega,j+1,by rw[fQ (by omega) (by omega)];rfl,by omega,by omega,rfl,?_,(cA.cp cR).cp dl,by omega⟩;unfold QJ;rw[bH,a2,List.any_append,kH];simp
  ·rintro _ w4 ⟨rfl,hu⟩;obtain rfl:w2=w4:=hu.symm;refine⟨_,rfl,bS.refl _ _,fun hh=>⟨?_,Only.refl _ _⟩,fun hh=>⟨?_,Only.refl _ _⟩⟩
   ·rw[fQ (by omega) (by omega),DJ a2,if_neg (by intro e;rw[e]at hh;cases hh)];rfl
   ·rw[DJ a2,if_pos (by simpa using hh)];rfl
 ·have hc:=aU hc;have og:j=ks.length:=by omega
  subst og;rw[bA (aV _)];have h1:=h.o0 cA;have q0:∀u:aH,((T u).toList==(ao #[]).toList)=decide (u=[]):=fun u=>kH u [];refine(wl w1 bb.k).mono ?_;rintro _ w5 ⟨rfl,hu⟩;obtain rfl:w1=w5:=hu.symm;refine⟨_,rfl,bS.refl _ _,fun hh w6 eh=>?_,fun hh=>⟨fun hp=>?_,fun hp=>⟨fun hs=>?_,fun hs=>?_⟩⟩⟩
  ·have z6:=eh.size;have o6:=cA.cp eh;have h6:=h.o0 o6;have TR:yB xs bb ks n=bad (XE xs bb.dft&&MC xs (fW xs bb.dft) (Fk xs n)) 26 bb.a:=by unfold yB;rw[if_pos hh]
   refine⟨_,Blk.dT h6.lo.blk 0 rfl,(Bg h6 bb.dft).mono ?_⟩;rintro _ w7 ⟨rfl,hu⟩;obtain rfl:w6=w7:=hu.symm;refine⟨_,rfl,bS.refl _ _,fun u=>Lx u b m0 m1 F s xs vn (mW f (yB xs bb ks n))/\ay [b] w u,fun u h=>⟨rfl,h.1,h.2⟩,fun w9 fS=>?_⟩;have z9:=fS.size;have o9:=o6.cp fS;have h9:=h.o0 o9;refine⟨fun k=>k=k0,rfl,(DH h9 (by rcases xV xs bb.dft with h | ⟨j,h,hl⟩<;>omega)).mono ?_⟩;rintro _ dw ⟨rfl,hu⟩;obtain rfl:w9=dw:=hu.symm;obtain⟨x,hx⟩:=mf hn;obtain⟨ad,a1,a2,a3,_⟩:=pu h9.sp hx;refine⟨_,rfl,bS.refl _ _,bL.refl _ _,fun hb=>⟨s,Blk.dT h9.lo.blk 1 rfl,s,Blk.dT h9.lo.blk 1 rfl,ad,a1,x.pa,a3,(Jz h9.sp h9.fo (fW xs bb.dft) x.pa).mono ?_⟩,fun hb=>(jL h9 false 26 bb.a).mono ?_⟩
   ·rintro _ dr ⟨rfl,hu⟩;obtain rfl:w9=dr:=hu.symm;refine⟨_,rfl,bS.refl _ _,bL.refl _ _,(jL h9 _ 26 bb.a).mono ?_⟩;rintro _ dX ⟨rfl,F8,eM⟩;refine⟨rfl,eM.same (by simp;omega),Bh eM OS,?_,qo (vP o9) eM⟩;have e1:Jy xs (fW xs bb.dft) x.pa=MC xs (fW xs bb.dft) x.pa:=by rw[bT,xU,MJ]
    rw[TR,nS hx,<-e1,show XE xs bb.dft=true from hb,dk];exact F8
   ·rintro _ eS ⟨rfl,ug,ez⟩;refine⟨rfl,ez.same (by simp;omega),Bh ez OS,?_,qo (vP o9) ez⟩;rw[TR,show XE xs bb.dft=false from hb,dZ];exact ug
  ·have hp:bb.k=2:=by simpa using hp
   have TR:yB xs bb ks n=bad (decide (bb.ini=[])&&decide (1<MF ks)) 25 bb.a:=by unfold yB;rw[if_neg (by rw[hh];decide),if_pos hp]
   rw[q0,show decide ((MF ks:Int)>1)=decide (1<MF ks)from gw.2 (by omega)];refine(jL h1 _ 25 bb.a).mono ?_;rintro _ eZ ⟨rfl,h14,dN⟩;exact⟨rfl,dN.same (by simp;omega),rfl,by rw[TR];exact h14,qo (vP cA) dN⟩
  ·have hp:bb.k≠2:=by simpa using hp
   have hs:=aP hs;have TR:yB xs bb ks n=bad (QJ bb.ini ks) 25 bb.a:=by unfold yB;rw[if_neg (by rw[hh];decide),if_neg hp,if_pos (by omega)]
   refine(jL h1 _ 25 bb.a).mono ?_;rintro _ eZ ⟨rfl,h14,dN⟩;exact⟨rfl,dN.same (by simp;omega),rfl,by rw[TR];exact h14,qo (vP cA) dN⟩
  ·have hp:bb.k≠2:=by simpa using hp
   have hs:=aU hs;have TR:yB xs bb ks n=bad (decide (bb.ini=[])) 25 bb.a++bad (decide (ks.length=0)) 26 bb.a:=by unfold yB;rw[if_neg (by rw[hh];decide),if_neg hp,if_neg (by omega)]
   rw[q0];refine(jL h1 _ 25 bb.a).mono ?_;rintro _ gy ⟨rfl,h16,ic⟩;have z16:=ic.size;have e0:((kids.n:Int)==0)=decide (ks.length=0):=by rw[RI,bT];simp
   rw[e0];refine⟨rfl,ic.same (by simp;omega),(jL h16 _ 26 bb.a).mono ?_⟩;rintro _ fR ⟨rfl,KN,jp⟩;exact⟨rfl,jp.same (by simp;omega),rfl,by rw[TR,io];exact KN,qo (qo (vP cA) ic) jp⟩
theorem Z5(u:av)(l:Sl):∃y w1,(au 237 1 #[.mk 0 l.v]).run aq u=.ok (Sl.v y) w1/\ay [] u w1/\aA DI 1 w1 (fun _=>True) y [l]:=by
 obtain⟨y,w1,k1,k2,k3,_⟩:=gV (P:=aq) (t:=237) (e:=23) (i:=Tryz.t23) (z:=Sl.nil.v) (w:=u) (F:=fun _=>False) (vs:=[l.v]) (parts:=#[.mk 0 l.v]) (len:=1) (xs:=[l]) (r:=DI) (size:=1) (by kernel_rfl) (by kernel_rfl) rfl rfl (by decide) rfl rfl (by decide) (by decide) oU ⟨⟨rfl,rfl⟩,trivial⟩;exact⟨y,w1,k1,k3,(k2.slice oU).mono oU fun _ _=>trivial⟩
theorem Z6(u:av)(l m:Sl):∃y w1,(au 237 2 #[.mk 0 l.v,.mk 1 m.v]).run aq u=.ok (Sl.v y) w1/\ay [] u w1/\aA DI 1 w1 (fun _=>True) y [l,m]:=by
 obtain⟨y,w1,k1,k2,k3,_⟩:=gV (P:=aq) (t:=237) (e:=23) (i:=Tryz.t23) (z:=Sl.nil.v) (w:=u) (F:=fun _=>False) (vs:=[l.v,m.v]) (parts:=#[.mk 0 l.v,.mk 1 m.v]) (len:=2) (xs:=[l,m]) (r:=DI) (size:=1) (by kernel_rfl) (by kernel_rfl) rfl rfl (by decide) rfl rfl (by decide) (by decide) oU ⟨⟨rfl,rfl⟩,⟨rfl,rfl⟩,trivial⟩;exact⟨y,w1,k1,k3,(k2.slice oU).mono oU fun _ _=>trivial⟩
theorem Nf:∀(D:Nat) {w:av} {x:Nd} {cs:aI} {f:Ft} {n:Nat},mr false D w G x cs->(∀k,G k->k≠b)->Lx w b m0 m1 F s xs vn f->n+gp x<=xs.length->lm x<=8388608->
  az aq 85 #[ae (some ⟨b,0,none⟩),ah cs.toArray,O U (n:Int)] w fun r w'=>r=ak (O U ((n+gp x:Nat):Int))/\Lx w' b m0 m1 F s xs vn (mW f (O8 xs vn n x))/\ay [b] w w'
 | 0,_,_,_,_,_,h,_,_,_,_=>h.elim
 | D+1,w,.mk bb ks,cs,f,n,hx,hG,h,hn,hz=>by
  have hx0:=hx;obtain⟨en,lv,mv,kids,lQ,⟨B9,Ca,ot⟩,gH⟩:=hx;have hk:=gH.1;have B9:=B9.1;have Ca:=Ca.1;have ot:=ot.1;clear gH;dsimp only[Nd.kids,Nd.b]at hk lQ B9 Ca ot;subst lQ;rw[gp]at hn;rw[lm]at hz;have Rs:=hz;unfold zG at Rs;have hl1:=kT bb.en;have N5:=kT bb.lv;have RI:=hk.len;have KQ:=ot.len;have OO:=h.ln;have aoJ:=ot.cap;have aoK:=ot.big;have aoL:=nQ ks;refine ret (afn _ _ _ _ _ _ _ _ _ _ _ _ _ ?_);intro k0 w0 gH eW cE;have z0:=cE.size;have BM:=h.lo.lt;have OS:k0≠b:=by omega
  have tr:∀{u v:av},ay [b] w u->ay [b] u v->ay [b] w v:=fun h g=>qo h g;refine(Nc ((cw false (D+1)).keep hx0 fun k hk bQ=>cE.block k bQ (by simp)) hG (h.o0 cE) (n:=n) (by omega)).mono ?_;rintro _ w1 ⟨rfl,h1,cA⟩;have z1:=cA.size;have o1:=tr (vP cE) cA;obtain⟨y,w2,p1,p2,p3⟩:=Z6 w1 en lv;have z2:=p2.size;have o2:=o1.cp p2;have row:∀{u:av} {sl:Sl} {l:List Ac},aA (pj false) 9 w G sl l->ay [b] w u->aA (pj false) 9 u G sl l:=fun hs hO=>SliceF.only (cV false) (by decide) hs hO fun k hk _ hm=>hG k hk (by simpa using hm);refine⟨rfl,cA.same (by simp;omega),y,w2,p1,p2.same (by simp;omega),(H3 (l:=[(en,bb.en),(lv,bb.lv)]) p3 (fun p hp=>?_) ?_ hG (h1.o0 p2)).mono ?_⟩
  ·simp only[aQ,aW,bP]at hp;rcases hp with rfl | rfl
   ·exact row B9 o2
   ·exact row Ca o2
  ·unfold ki;simp only[Gh,Kp,aO,bN];omega
  rintro _ w3 ⟨rfl,h3,dl⟩;have z3:=dl.size;have o3:=tr o2 dl;have Xb:ki [(en,bb.en),(lv,bb.lv)]=bb.en++bb.lv:=by unfold ki;simp
  rw[Xb]at h3;refine⟨rfl,dl.same (by simp;omega),fun kv i u=>∃j:Nat,i=(j:Int)/\kv+j=bb.mv.length/\j<=bb.mv.length/\Lx u b m0 m1 F s xs vn (mW f (yB xs bb ks n++(rh xs vn (bb.en++bb.lv)++(bb.mv.take j).flatMap (Ep xs vn))))/\ay [b] w u/\w0.heap.size<=u.heap.size,bb.mv.length,
   ⟨0,rfl,by omega,bp _,by rw[cK,Kp,bN,io];exact h3,o3,by omega⟩,?_⟩
  rintro kv _ w4 ⟨j,rfl,u5,hj,h4,o4,z4⟩;refine⟨fun hc=>?_,fun hc=>?_⟩
  ·have hc:=aP hc;obtain⟨ad,m,ds,a1,a2,a3,a4,a5,a6⟩:=(SliceF.only (kc false) (by decide) ot o4 fun k hk _ hm=>hG k hk (by simpa using hm)).get (bm j) (by omega);rw[aZ]at a2;obtain⟨gc,qC,tg,rfl,TP,F7,sE⟩:=a6;obtain⟨gs,rfl⟩:=gR TP;have F7:=F7.1;have sE:=sE.1;have hmz:=qm (bG a2);unfold Fx at hmz;have hal:=kT m.acts;have NZ:=wk m.tg;have RG:=h4.lo.lt;refine⟨ad,a1,_,_,_,_,_,_,_,_,gs,_,qC,tg,_,a5,fun k3 w5 vU ud eJ=>?_⟩;have z5:=eJ.size;have h5:=h4.o0 eJ;have aiP:k3≠b:=by omega
   refine(jL h5 (ZR m) 28 m.a).mono ?_;rintro _ w6 ⟨rfl,h6,eh⟩;have z6:=eh.size;obtain⟨d,hxd⟩:=TP;refine⟨rfl,eh.same (by simp;omega),(Bi d ((jl false d).keep hxd fun k hk bQ=>?_) hG h6).mono ?_⟩
   ·exact(eh.block k (by omega) (by simpa using hG k hk)).trans (eJ.block k bQ (by simp))
   rintro _ w7 ⟨rfl,h7,fm⟩;have z7:=fm.size;obtain⟨y8,w8,q1,q2,q3⟩:=Z5 w7 qC;have z8:=q2.size;have s7:ay [b] w5 w7:=qo eh fm;have s8:ay [b] w4 w8:=(qo (vP eJ) s7).cp q2;refine⟨rfl,fm.same (by simp;omega),y8,w8,q1,q2.same (by simp;omega),(H3 (l:=[(qC,m.acts)]) q3 (fun p hp=>?_) ?_ hG (h7.o0 q2)).mono ?_⟩
   ·simp only[aN]at hp;subst hp;exact SliceF.only (cV false) (by decide) F7 s8 fun k hk _ hm=>hG k hk (by simpa using hm)
   ·unfold ki;simp only[Gh,Kp,bN];omega
   rintro _ w9 ⟨rfl,h9,fS⟩;have z9:=fS.size;have Xb:ki [(qC,m.acts)]=m.acts:=by unfold ki;simp
   rw[Xb]at h9;refine⟨rfl,fS.same (by simp;omega),fun dw dR=>⟨fun k=>k=k3,rfl,?_⟩⟩;have Ob:=dR.size;have Eu:ay [b] w4 dw:=(qo s8 fS).cp dR;refine(FB (h9.o0 dR) (SliceF.only cG (by decide) sE Eu fun k hk _ hm=>hG k hk (by simpa using hm)) (by omega)).mono ?_;rintro _ dr ⟨rfl,dS⟩;have BS:=dS.size;refine⟨_,rfl,dS.same (by simp;omega),bL.only dS,(jL ((h9.o0 dR).o0 dS) _ 27 m.a).mono ?_⟩;rintro _ dX ⟨rfl,F8,eM⟩;have z12:=eM.size;refine⟨rfl,eM.same (by simp;omega),Bh eM aiP,kv-1,by omega,j+1,by rw[fQ (by omega) (by omega)];rfl,by omega,by omega,?_,tr o4 (qo (Eu.cp dS) eM),by omega⟩;have e1:(bb.mv.take (j+1)).flatMap (Ep xs vn)=(bb.mv.take j).flatMap (Ep xs vn)++Ep xs vn m:=by
    rw[bH,a2,pK];simp
   have e2:yB xs bb ks n++(rh xs vn (bb.en++bb.lv)++((bb.mv.take j).flatMap (Ep xs vn)++Ep xs vn m))=(yB xs bb ks n++(rh xs vn (bb.en++bb.lv)++(bb.mv.take j).flatMap (Ep xs vn)))++Ep xs vn m:=by simp only[bF]
   rw[e1,e2,io,Ep,io,io,io];exact F8
  ·have hc:=aU hc;have og:j=bb.mv.length:=by omega
   subst og;rw[bA (aV _)]at h4;refine⟨fun kv a i u=>∃j:Nat,i=(j:Int)/\kv+j=ks.length/\j<=ks.length/\a=((n+1+di (ks.take j):Nat):Int)/\Lx u b m0 m1 F s xs vn (mW f (yB xs bb ks n++(rh xs vn (bb.en++bb.lv)++(bb.mv.flatMap (Ep xs vn)++qh xs vn (n+1) (ks.take j)))))/\ay [b] w u/\w0.heap.size<=u.heap.size,ks.length,
    ⟨0,rfl,by omega,bp _,by rw[fQ (by omega) (by omega)];rfl,by rw[cK,qh,bN];exact h4,o4,z4⟩,?_⟩
   rintro kv _ _ eS ⟨j,rfl,u5,hj,rfl,ug,Yk,Ol⟩;refine⟨fun hc=>?_,fun hc=>?_⟩
   ·have hc:=aP hc;obtain⟨ad,y,ds,a1,a2,a3,a4,a5,a6⟩:=(SliceF.only (cw false D) (by decide) hk Yk fun k hk _ hm=>hG k hk (by simpa using hm)).get (bm j) (by omega);rw[aZ]at a2;have PG:=a6;obtain⟨D',rfl⟩:∃D',D=D'+1:=by
     cases D with
     | zero=>exact a6.elim
     | succ D'=>exact⟨D',rfl⟩
    obtain⟨uY,uZ,pO,jv,rfl,_⟩:=PG;have pC:=lO a2;have hzy:=mg (bG a2);refine⟨ad,a1,_,_,_,_,uY,uZ,pO,jv,_,a5,fun k7 eZ hk7 W0 dN=>?_⟩;have TA:=dN.size;have aoM:=ug.lo.lt;refine(Nf (D'+1) ((cw false (D'+1)).keep a6 fun k _ bQ=>dN.block k bQ (by simp)) hG (ug.o0 dN) (n:=n+1+di (ks.take j)) (by omega) (by omega)).mono ?_;rintro _ fU ⟨rfl,KO,ix⟩;have z15:=ix.size;have e:ks.take (j+1)=ks.take j++[y]:=by rw[bH,a2];rfl
    refine⟨_,rfl,ix.same (by simp;omega),kv-1,by omega,j+1,by rw[fQ (by omega) (by omega)];rfl,by omega,by omega,?_,?_,tr (Yk.cp dN) ix,by omega⟩
    ·have:di (ks.take (j+1))=di (ks.take j)+gp y:=by rw[e,xI,di,di];omega
     omega
    ·have e2:yB xs bb ks n++(rh xs vn (bb.en++bb.lv)++(bb.mv.flatMap (Ep xs vn)++(qh xs vn (n+1) (ks.take j)++O8 xs vn (n+1+di (ks.take j)) y)))=(yB xs bb ks n++(rh xs vn (bb.en++bb.lv)++(bb.mv.flatMap (Ep xs vn)++qh xs vn (n+1) (ks.take j))))++O8 xs vn (n+1+di (ks.take j)) y:=by simp only[bF]
     rw[e,Dw,qh,qh,bN,e2,io];exact KO
   ·have hc:=aU hc;have og:j=ks.length:=by omega
    subst og;rw[bA (aV _)]at ug⊢;refine⟨?_,by rw[O8];exact ug,Yk⟩;rw[gp];congr 2;omega
end
def fz(c:Ch):Ft:=if(fI c).2≠0 then((fI c).2, -1)else mW (0,0) (Dx c)
theorem DK{w:av}{F:aJ}{D:Nat}{c:Ch}{vs:Sl}{cs:aI}(hx:ChR false (D+1) w F c vs cs)(hn:PC c)(hs:oT c.vars+lm c.root<=8388608)(hE:Er w)(hT:Tb w):
  az aq 41 #[ah (vs.v::cs).toArray] w fun e w'=>e=ak (ah #[O U (fz c).1,O U (fz c).2])/\ay [] w w':=by
 have hxr:=hx.root;obtain⟨en,lv,mv,kids,lQ,_⟩:=hx.root;subst lQ;refine ret (afk _ _ _ _ _ _ _ _ _ _ _ _ ?_);intro k0 k1 w0 gH eW lr jq cE;have z0:=cE.size;have keep:∀{u:av},ay [] w u->ChR false (D+1) u F c vs (me c.root.b.k c.root.b.nm c.root.b.ini c.root.b.dft en lv mv kids c.root.b.a):=fun hO=>⟨hx.vars.keep fe (by decide) fun k _ bQ=>hO.block k bQ (by simp),(cw false _).keep hx.root fun k _ bQ=>hO.block k bQ (by simp)⟩
 refine(M1 (keep cE) hn hs (hE.only cE) (hT.only cE)).mono ?_;rintro _ w1 ⟨⟨t,rfl,ht,_⟩,cA⟩;have z1:=cA.size;have o1:=cE.cp cA;refine⟨_,_,rfl,cA.same (by simp;omega),fun hc w2 cR=>?_,fun hc=>?_⟩
 ·have hc:(fI c).2≠0:=by simpa using hc
  unfold fz;rw[if_pos hc];exact⟨rfl,o1.trans cR fun k hk=>.inr (by simp only[aN]at hk;omega)⟩
 have hc:(fI c).2=0:=by simpa using hc
 have elm:fz c=mW (0,0) (Dx c):=by unfold fz;rw[if_neg (fun h=>h hc)]
 rw[elm];have ht:=ht hc;have hnd:=nV hc;obtain⟨r3,hM3,dl⟩:=MapV.make (P:=aq) (mty:=153) (kv:=kS) (g:=gS) w1;have hl3:=hM3.lt;refine⟨_,_,r3,dl.same (by simp;omega),?_⟩;generalize w1.alloc (.map #[] 0)=w3 at*
 obtain⟨r4,Yl,dA⟩:=MapV.make (P:=aq) (mty:=153) (kv:=kS) (g:=gS) w3;have hl4:=Yl.lt;have z3:=dl.size;refine⟨_,_,r4,dA.same (by simp;omega),?_⟩;generalize w3.alloc (.map #[] 0)=w4 at*
 have z4:=dA.size;intro b w5 hb kV eJ uX;have z5:=eJ.size;have o5:=((o1.cp dl).cp dA).cp eJ;have TQ:Lo w5 b w1.heap.size w3.heap.size Sl.nil [] [] (0,0):=⟨uX,(((hM3.only dA (by simp)).only eJ (by simp)).ext fun k=>rfl).le (aV _),((Yl.only eJ (by simp)).ext fun k=>rfl).le (aV _),by omega,by omega⟩
 have hxh:mr false (D+1) w (fun k=>k<w.heap.size) c.root (me c.root.b.k c.root.b.nm c.root.b.ini c.root.b.dft en lv mv kids c.root.b.a):=(cw false _).mono ((cw false _).inHeap hxr) fun k hk=>hk.2;have hvh:aA O4 3 w (fun k=>k<w.heap.size) vs c.vars:=(hx.vars.1.inHeap fe (by decide)).mono fe fun k hk=>hk.2;refine(M7 (D+1) ((cw false _).keep hxh fun k hk bQ=>o5.block k bQ (by simp)) (fun k hk=>by omega) TQ (Own.nil _ _ _ _ _ _) (by omega) (by rw[cu];omega)).mono ?_;rintro _ w6 ⟨rfl,s6,Ki,hS6,m6⟩;have z6:=m6.1.size;rw[cf]at Ki;have enm:(Hv c.root).map (fun p=>p.1)=(eY c).map fun x:du=>x.nm:=(SQ 0 (-1) 0 c.root).symm;rw[enm]at Ki;have p6:aD (fun k=>w1.heap.size<=k) w w6:=(o5.p0).trans m6.1 fun k hk=>.inl (hk.elim (fun h=>by omega) fun h=>by cases h);have s56:bS [k0,k1] w5 w6:=m6.1.same fun x hx=>by
  simp only[aQ,aW,bP]at hx;rcases hx with rfl | rfl
  ·exact⟨by omega,fun h=>h.elim (by omega) fun h=>by cases h⟩
  ·exact⟨by omega,fun h=>h.elim (by omega) fun h=>by cases h⟩
 have hvl:=hvh.len;have hvz:=tP c.vars;refine⟨rfl,s56,_,s6,_,_,_,Ki.blk,fun kv i p l q x y u=>∃(j:Nat) (f:Ft),i=(j:Int)/\kv+j=c.vars.length/\j<=c.vars.length/\p=some w1.heap.size/\q=some w3.heap.size/\f=(x,y)/\Lo u b w1.heap.size w3.heap.size l ((eY c).map fun x:du=>x.nm) ((Fq c).take j) f/\f=mW (0,0) (wi [] (Hv c.root)++wi [] ((c.vars.take j).map fun v=>(v.n,v.a)))/\aD (fun k=>w1.heap.size<=k) w u/\aD (fun k=>k=b∨k=w3.heap.size) w6 u,c.vars.length,
  ⟨0,_,rfl,by omega,bp _,rfl,rfl,rfl,Ki,by rw[cK,dV,wi,bN],p6,OnlyP.refl _ _⟩,?_⟩
 rintro kv _ _ l2 _ _ _ w7 ⟨j,f,rfl,u5,hj,rfl,rfl,hf,BX,hfe,p7,p67⟩;have z7:=p67.size;refine⟨fun bQ=>?_,fun sP=>?_⟩
 ·have bQ:=aP bQ;obtain⟨ad,v,ds,a1,a2,a3,a4,a5,a6⟩:=(SliceF.kU fe (by decide) hvh p7 fun k hk _=>by omega).get (bm j) (by omega);rw[aZ]at a2;have a6:ds=[ab (T v.n),O U v.v,O U v.a]:=a6;subst a6;have yC:=xS (bG a2);have hgv:gS v.n:=by
   show v.n.length<=maxLen;have:maxLen=9223372036854775807:=rfl;omega
  have lK:((Fq c).take j).length=j:=by rw[cO];unfold Fq;rw[bC];omega
  refine⟨ad,a1,_,_,_,a5,fun k5 w8 zT Eh fp vT=>?_⟩;have z8:=fp.size;have Tz:=BX.lt;have c9:=M6 (BX.o0 fp) hgv v.a;rw[lK]at c9;refine c9.mono ?_;rintro _ w9 ⟨rfl,hL9,fS⟩;have z9:=fS.size;have ev:(Fq c).take (j+1)=(Fq c).take j++[v.n]:=by
   rw[bH];unfold Fq;rw[cF,a2];rfl
  refine⟨rfl,fS.same (by simp;omega),_,_,_,_,_,hL9.blk,kv-1,by omega,j+1,_,by rw[fQ (by omega) (by omega)];rfl,by omega,by omega,rfl,rfl,rfl,by rw[ev];exact hL9,?_,(p7.cp fp).trans (fS.p (F:=fun k=>w1.heap.size<=k) fun k hk=>.inl (by simp only[aQ,aW,bP]at hk;omega)) fun k hk=>.inl hk,(p67.cp fp).trans (fS.p (F:=fun k=>k=b∨k=w3.heap.size) fun k hk=>.inl (by simpa using hk)) fun k hk=>.inl hk⟩;rw[hfe,<-io];have ed:wi [] ((c.vars.take (j+1)).map fun v=>(v.n,v.a))=wi [] ((c.vars.take j).map fun v=>(v.n,v.a))++bad (!decide (v.n∈(Fq c).take j)) 24 v.a:=by
   rw[bH,a2,cN,A9,cf];simp only[Option.toList,bE,dV,wi,bN,ii];unfold Fq;rw[<-lg];rfl
  rw[ed,bF]
 ·have sP:=aU sP;have og:j=c.vars.length:=by omega
  subst og;intro dw dR ua n0 n1;have Ob:=dR.size;have hvt:(Fq c).take c.vars.length=Fq c:=bA (by unfold Fq;rw[bC];exact aV _);rw[hvt]at BX;rw[bA (aV _)]at hfe;have Xc:Lo dw b w1.heap.size w3.heap.size t ((eY c).map fun x:du=>x.nm) (Fq c) f:=BX.lI dR (by subst hf;exact ua);have p10:aD (fun k=>w1.heap.size<=k) w dw:=p7.trans (dR.p (F:=fun k=>w1.heap.size<=k) fun k hk=>.inl (by simp only[aN]at hk;omega)) fun k hk=>.inl hk;have Kh:aA xT 5 dw (fun k=>k<w1.heap.size) t (eY c):=by
   have h0:=(ht.sl.inHeap ey (by decide)).mono ey (G:=fun k=>k<w1.heap.size) fun k hk=>hk.2;have q5:ay [] w1 w5:=(dl.cp dA).cp eJ;have h1:=SliceF.only ey (by decide) h0 q5 (by simp);have h2:=SliceF.kU ey (by decide) h1 m6.1 fun k hk _ h=>h.elim (by omega) fun h=>by cases h
   have h3:=SliceF.kU ey (by decide) h2 p67 fun k hk _ h=>by omega
   exact SliceF.only ey (by decide) h3 dR fun k hk _ hm=>by simp only[aN]at hm;omega
  have hX:Lx dw b w1.heap.size w3.heap.size (fun k=>k<w1.heap.size) t (eY c) (Fq c) f:=⟨Xc,Kh,wh c,by unfold eY;rw[lD];exact hnd,fun k hk=>by omega⟩
  refine(Nf (n:=0) (D+1) ((cw false (D+1)).keep hxh fun k hk bQ=>p10.block k bQ (by omega)) (fun k hk=>by omega) hX (by unfold eY;rw[lD];omega) (by omega)).mono ?_;rintro _ dr ⟨rfl,Kf,dS⟩;have BS:=dS.size;have hg:mW f (O8 (eY c) (Fq c) 0 c.root)=mW (0,0) (Dx c):=by
   rw[hfe,<-io,bF];rfl
  rw[hg]at Kf;refine⟨_,rfl,dS.same (by simp;omega),_,_,_,_,_,Kf.lo.blk,fun dX eM _=>⟨rfl,?_⟩⟩;have p11:aD (fun k=>w.heap.size<=k) w dr:=(p10.mono fun k _ hk=>by omega).trans (dS.p (F:=fun k=>w.heap.size<=k) fun k hk=>.inl (by simp only[aN]at hk;omega)) fun k hk=>.inl hk;exact(p11.only fun k hk=>hk).trans eM fun k hk=>.inr (by simp only[aN]at hk;omega)
def ld(l:aH):Ft:=if(dE l).2.1=0 then fz (dE l).1 else(dE l).2
def uM(l:aH):Ch:=if(ld l).1=0 then(dE l).1 else ch0
theorem Q4{w:av}(l:aH)(hn:PC (dE l).1)(hs:oT (dE l).1.vars+lm (dE l).1.root<=8388608)(hE:Er w)(hT:Tb w):az aq 37 #[ab (T l)] w fun e w'=>
  ∃(vs:Sl) (cs:aI),e=ak (ai #[ah (vs.v::cs).toArray,ah #[O U (ld l).1,O U (ld l).2]])/\ChR true 15 w' (Fr w.heap.size) (uM l) vs cs/\ay [] w w':=by
 refine(afj (T l) (fun v w'=>∃(vs:Sl) (cs:aI),v=(ai #[ah (vs.v::cs).toArray,ah #[O U (ld l).1,O U (ld l).2]])/\ChR true 15 w' (Fr w.heap.size) (uM l) vs cs/\ay [] w w') w ?_).mono (by
  rintro e w' ⟨v,rfl,vs,cs,rfl,h⟩;exact⟨vs,cs,rfl,h⟩)
 intro k0 k1 w0 gH eW lr jq cE;have z0:=cE.size;refine(DA l (hE.only cE)).mono ?_;rintro _ w1 ⟨vs,cs,rfl,hC,cA⟩;have z1:=cA.size;have o1:=cE.cp cA;obtain⟨xe,xl,xm,xk,rfl,_⟩:=hC.root;refine⟨vs,_,_,_,_,xe,xl,xm,xk,_,_,_,rfl,cA.same (by simp;omega),fun k2 k3 w2 qZ uc vU ud cR=>?_⟩;have z2:=cR.size;have o2:=o1.cp cR;have kC:∀{u:av},ay [] w1 u->ChR true 15 u (Fr w0.heap.size) (dE l).1 vs (me (dE l).1.root.b.k (dE l).1.root.b.nm (dE l).1.root.b.ini (dE l).1.root.b.dft xe xl xm xk (dE l).1.root.b.a):=fun{u} hO=>
  ⟨hC.vars.keep fe (by decide) fun k _ bQ=>hO.block k bQ (by simp),(cw true 15).keep hC.root fun k _ bQ=>hO.block k bQ (by simp)⟩
 have fin:∀{u v:av},ay [] w u->ay [k1,k0] u v->ay [] w v:=fun h1 h2=>h1.trans h2 fun x hx=>.inr (by simp only[aQ,aW,bP]at hx;omega);refine⟨fun a b u=>(a,b)=ld l/\ay [] w1 u/\w2.heap.size<=u.heap.size,?_,fun hc=>?_,fun hc=>⟨?_,cR,aV _⟩⟩
 ·rintro a b w3 ⟨he,dl,z3⟩;have e1:(ld l).1=a:=by rw[<-he]
  have e2:(ld l).2=b:=by rw[<-he]
  refine⟨fun hc w4 dA n1 n2 n3 n4 n5 n6=>⟨fun k=>k=k3,rfl,?_,?_,fun w5 eJ=>⟨Sl.nil,_,by rw[e1,e2],?_,fin ((o1.cp dl).cp dA) eJ⟩⟩,fun hc w6 eh n1 n2 n3 n4 n5 n6=>⟨fun k=>k=k3,rfl,?_,?_,fun w7 fm=>⟨vs,_,by rw[e1,e2],?_,fin ((o1.cp dl).cp eh) fm⟩⟩⟩
  ·exact fun h=>n3 h
  ·exact fun h=>n5 h
  ·have hc:a≠0:=by simpa using hc
   unfold uM;rw[e1,if_neg hc];exact⟨iE.nil _ _ _ _ _ _,MO (by decide) w5 _⟩
  ·exact fun h=>n3 h
  ·exact fun h=>n5 h
  ·have hc:a=0:=by simpa using hc
   unfold uM;rw[e1,if_pos hc];have hC6:=kC (dl.cp eh);have ap:∀k,Fr w0.heap.size k->k∉[k1,k0]:=fun k (hk:w0.heap.size<=k)=>by simp;omega
   have lo:∀k,Fr w0.heap.size k->Fr w.heap.size k:=fun k (hk:w0.heap.size<=k)=>(by omega:w.heap.size<=k)
   exact⟨(hC6.vars.keep fe (by decide) fun k hk bQ=>fm.block k bQ (ap k hk)).mono fe lo,(cw true 15).mono ((cw true 15).keep hC6.root fun k hk bQ=>fm.block k bQ (ap k hk)) lo⟩
 ·have hc:(dE l).2.1=0:=by simpa using hc
  refine(DK (D:=14) (kC cR).off hn hs (hE.only o2) (hT.only o2)).mono ?_;rintro _ w8 ⟨rfl,fp⟩;have z8:=fp.size;refine⟨_,_,rfl,fp.same (by simp;omega),fun w9 fS=>⟨?_,?_,by have:=fS.size;omega⟩⟩
  ·unfold ld;rw[if_pos hc]
  ·exact(cR.cp fp).trans fS fun x hx=>.inr (by simp only[aN]at hx;omega)
 ·have hc:(dE l).2.1≠0:=by simpa using hc
  unfold ld;rw[if_neg hc]
def Ve(l:aH):Bool:=nCb (dE l).1&&af5 (dE l).1
theorem Vf{l:aH}(h:Ve l=true):PC (dE l).1/\oT (dE l).1.vars+lm (dE l).1.root<=8388608:=by
 unfold Ve at h;rw[aR]at h;exact⟨af4 h.1,aP h.2⟩
end Go.Proofs.YtbkjcdocjfknfaaGreatDoor.Con
namespace Go.Kt
open Go renaming World->av,Value->aw
open Go Go.RowKit Go.ChangeShapes Go.WideShapes
set_option linter.unusedSimpArgs false
set_option linter.unusedVariables false
def lp{α β:Type}(r:Rp α)(q:Rp β):Rp (α×β):=fun w F x cs=>∃c d,cs=c++d/\r w F x.1 c/\q w F x.2 d
def Ng:Rp Unit:=fun _ _ _ cs=>cs=[]
def Z7:Rp Bool:=fun _ _ b cs=>cs=[.bool b]
section
variable {H:Type} {enc:TypeId×aw->H} {P:Program}
theorem rD(hl:laidOutB P=true){W W'}{sp}(hb:Below W.heap.size W W'):∀{ts:List TypeId} {vs:List aw} {ds:List _} {ps:List MemPlace},
  (∀t,t∈ts->P.readableRec t=true/\t<P.types.size)->DataW.TrodAll enc P W 0 (fun _=>true) true ts vs ds ps->(∀x,x∈ps->x.block<W.heap.size)->(∀x,x∈ps->sp x.block=true)->DataW.TrodAll enc P W' 0 sp true ts vs ds ps
 | [],vs,ds,ps,_,h,_,_=>by
  obtain⟨rfl,rfl,rfl⟩:=trodAll_nil h;exact trodAll_mk0
 | t::ts,vs,ds,ps,hr,h,bQ,Kh=>by
  obtain⟨v,vs',d,ds',p,q,rfl,rfl,rfl,h1,h2⟩:=trodAll_cons h;obtain⟨r1,r2⟩:=hr t (by simp);exact trodAll_cons_mk (WideElems.Trod_stays hl r1 r2 h1 (fun x hx=>hb.same (bQ x (by simp[hx]))) fun x hx=>Kh x (by simp[hx]))
   (rD hl hb (fun u hu=>hr u (by simp[hu])) h2 (fun x hx=>bQ x (by simp[hx])) fun x hx=>Kh x (by simp[hx]))
theorem law_post{f}{s:ChangeSpec}{fresh handsOn again}{W W'}{args}{ds gs}{before}{tb}
  (hW:DataW.Whole enc P f.params.toList s.vars false W args.toList ds gs before) (hv:s.vars=[])
  (WG:(s.fn H (ds++gs)).results=[.lit (.bool true)]) (hargs:(s.fn H (ds++gs)).args=ds) (yC:(s.fn H (ds++gs)).vars=[])
  (ht:f.resultTypes=#[tb]) (hu:P.underlying tb=some .bool) (hl:laidOutB P=true) (Xd:(f.params.toList.all fun t=>P.readableRec t&&decide (t<P.types.size))=true) (hO:Only [] W W'):
  s.post enc P f false fresh handsOn again W args (.bool true) W':=by
 have hb:=hO.below (aV _) (by simp);have bQ:=fun p hp=>hW.lt p hp;obtain⟨p,q,hA,hV,rfl,hz,hn⟩:=id hW;rw[hv]at hV;obtain⟨rfl,rfl⟩:=trodVars_none hV;rw[bN]at*
 have hA':∀sp,_->DataW.TrodAll enc P W' 0 sp true f.params.toList args.toList (s.fn H ds).args p:=fun sp Kh=>by
  rw[hargs];exact rD hl hb (fun t ht=>by simpa using eb.1 Xd t ht) hA (fun x hx=>by simpa using bQ x hx) Kh
 have hV':∀sp,DataW.TrodVars enc P W' sp s.vars (s.fn H ds).vars []:=fun sp=>by
  rw[hv,yC];simp[DataW.TrodVars]
 have TS:∀b sp hd,DataW.TrodAll enc P W' b sp hd f.resultTypes.toList ((Value.bool true).resultList f.resultTypes.size) (s.fn H ds).results []:=fun b sp hd=>by
  rw[WG,ht];exact trodAll_cons_mk (shut_bool hu true) trodAll_mk0
 have hold:∀x∈p,(fun b=>decide _) x.block=true:=fun x hx=>by simpa using bQ x hx
 refine⟨ds,[],p,[],p,[],hW,by simpa using TS _ _ _,by simpa using hA' _ hold,by simpa using hV' _,World.keptBut_mono (fun x hx=>⟨hx,by simpa using hx⟩) (hb.frame _),fun _=>?_⟩;refine⟨ok_one ht rfl (okWide_bool_mk hu true),_,_,_++[],⟨[]++p,[],trodAll_append (hA' _ (fun _ _=>rfl)) (TS _ _ _),hV' _,rfl,?_,?_⟩,?_⟩
 ·intro b off hp;have hp:=by simpa using hp
  rw[hb.frozen (p:=_) (bQ _ hp)];exact hz b off hp
 ·intro ha;cases ha
 ·intro x hp _;simpa using hp
variable {W:av} {base:Nat} {spare:Nat->Bool} {held:Bool} {α:Type}
def tR(enc:TypeId×aw->H)(P:Program)(W:av)(base:Nat)(spare:Nat->Bool)(held:Bool)(t:TypeId)(r:Rp α):Prop:=
 ∀ep cs x,DataW.trod enc P W base spare held ep t cs=some x->(∀n,n∈x.1.weights P t->n<=reachBytes)->∃a,r W (fun _=>True) a cs
theorem opens_int{t}(ht:P.underlying t=some (.int .i64)):tR enc P W base spare held t rInt:=fun ep cs x h _=>by
 obtain⟨n,rfl,rfl,hw⟩:=DataW.trod_int ht h;refine⟨n,rfl,?_⟩;simpa[Lit.wf,IntKind.min,IntKind.max,IntKind.signed,IntKind.bits,rn]using hw
def S7(r:Rp α)(size bytes:Nat):Rp (List α):=fun w F xs cs=>∃s,cs=[s.v]/\SliceF r size w F s xs/\xs.length*bytes<=140737488351232
theorem mh{e}:∀{l:List _} {d:DataW H},d∈l->∀n,n∈d.weights P e->n∈DataW.weightsAll P e l
 | d0::l,d,hd,n,hn=>by
  simp[DataW.weightsAll,cr];rcases aQ.1 hd with rfl | hd
  ·exact .inl hn
  ·exact .inr (mh hd n hn)
 | [],d,hd,_,_=>by simp at hd
theorem qp{β:Type}{p:Nat->β->Prop}:∀n,(∀i,i<n->∃b,p i b)->∃l:List β,l.length=n/\∀i b,l[i]? =some b->p i b
 | 0,_=>⟨[],rfl,fun i b h=>by simp at h⟩
 | n+1,h=>by
  obtain⟨l,h1,h2⟩:=qp n fun i hi=>h i (by omega);obtain⟨b,hb⟩:=h n (by omega);refine⟨l++[b],by simp[h1],fun i c hc=>?_⟩;by_cases hi:i<l.length
  ·rw[bM hi]at hc;exact h2 i c hc
  ·have:i=n:=by
    have:=(aY.1 hc).1;simp at this;omega
   subst this;simp[h1]at hc;rw[<-hc];exact hb
theorem opens_slice{t e}{r:Rp α}{size}(ht:P.underlying t=some (.slice e))(hs:P.cellsOf e=size){bytes}(hb:P.bytesOf e=bytes)(he:tR enc P W base spare held e r):
  tR enc P W base spare held t (S7 r size bytes):=fun ep cs x h hw=>by
 subst hs;rcases Deep.open_slice ht h with⟨rfl,rfl⟩ | ⟨a,len,cap,m,n,D,Pl,rfl,_,hl,hm,WH,rfl,Xe⟩
 ·exact⟨[],Sl.nil,rfl,SliceF.nil _ _ _ _,by simp⟩
 ·have hlm:len<=m:=by rw[WH];split<;>omega
  have hex:∀i,i<len->∃b,∃ui,ui.length=P.cellsOf e/\Cells W _ ui/\r W _ b ui:=fun i hi=>by
   obtain⟨ui,g1,g2⟩:=Xe i (by omega);obtain⟨_,g3,g4⟩:=World.cells?_some g1;obtain⟨b,g5⟩:=he n ui _ g2 fun k hk=>hw k (by
    simp[DataW.weights,ht,aQ,cr];exact .inr (.inl (mh (eT.2 ⟨i,jQ.2 hi,rfl⟩) k hk)))
   refine⟨b,ui,g3,fun j v hj=>?_,g5⟩;rw[g4 j (by have:=(aY.1 hj).1;omega)];exact hj
  obtain⟨l,h1,h2⟩:=qp len hex;refine⟨l,⟨some a,len,cap⟩,rfl,⟨h1.symm,hl,fun h=>(by cases h),hm,fun j x hj=>?_⟩,?_⟩
  ·obtain⟨ui,g1,g2,g3⟩:=h2 j x hj;exact⟨a,ui,rfl,trivial,g1,g2,g3⟩
  ·have:=hw _ (by simp only[DataW.weights,ht];exact dc);rw[hb]at this;simp[bC,Gl,reachBytes]at this;rw[h1];have h3:len*bytes<=(len+(m-len))*bytes:=fE _ (by omega);omega
theorem tR.map{β}{t}{r}{q}(h:tR enc P W base spare held t r)(f:α->β)(hf:∀a cs,r W (fun _=>True) a cs->q W (fun _=>True) (f a) cs):tR enc P W base spare held t q:=fun ep cs x hx hw=>by
 obtain⟨a,ha⟩:=h ep cs x hx hw;exact⟨f a,hf a cs ha⟩
theorem FC{t}(ht:P.underlying t=some .bool):tR enc P W base spare held t Z7:=fun ep cs x h _=>by
 obtain⟨b,rfl,rfl⟩:=DataW.trod_bool ht h;exact⟨b,rfl⟩
theorem arg_slice{t e}{r}{size bytes}{b0}{v}{d}{p}(ht:P.underlying t=some (.slice e))(ul:Value.okWide P W .any b0 t v)(h:DataW.Trod enc P W base spare held t v d p)
  (BR:tR enc P W base spare held t (S7 r size bytes)) (hw:∀n,n∈d.weights P t->n<=reachBytes):∃(s:Sl) (xs:List α),v=s.v/\SliceF r size W (fun _=>True) s xs/\xs.length*bytes<=140737488351232:=by
 obtain⟨a0,aiS,aiT,rfl⟩:=okWide_slice ht ul;obtain⟨ep,hf⟩:=h;obtain⟨xs,s,h1,h2,h3⟩:=BR ep _ _ hf hw;have h1:[Value.slice a0 aiS aiT]=[s.v]:=h1;simp only[pG,and_true]at h1;exact⟨s,xs,h1,h2,h3⟩
theorem weights_of{ts}{ds}(h:(DataW.weightsEach P ts ds).all (· <=reachBytes)=true)(j:Nat){t}{d:DataW H}(ht:ts[j]? =some t)(hd:ds[j]? =some d):∀n,n∈d.weights P t->n<=reachBytes:=
 fun n hn=>by simpa using eb.1 h n (DataW.weights_mem_each ht hd n hn)
end
structure IsBulk {H:Type} (B:DataW H->Nat):Prop where
 one:∀d,1<=B d
 sl:∀e s,(e.map B).sum+1<=B (.slice e s)
 str:∀b,b.length+1<=B (.lit (.string b))
 agg:∀p,(p.map B).sum+1<=B (.agg p)
 ptr:∀d,B d+1<=B (.ptr d)
 iface:∀t d,B d+1<=B (.iface t d)
section
variable {H:Type} {enc:TypeId×aw->H} {P:Program} {W:av} {base:Nat} {spare:Nat->Bool} {held:Bool} {α β:Type} {B:DataW H->Nat}
def Nh:Rp ByteArray:=fun _ _ s cs=>cs=[.string s]/\s.size<=140737488351232
def gF(B:DataW H->Nat)(enc:TypeId×aw->H)(P:Program)(W:av)(base:Nat)(spare:Nat->Bool)(held:Bool)(t:TypeId)(r:Rp α)(m:α->Nat):Prop:=
 ∀ep cs x,DataW.trod enc P W base spare held ep t cs=some x->(∀n,n∈x.1.weights P t->n<=reachBytes)->∃a,r W (fun _=>True) a cs/\m a<=B x.1
theorem fj(hB:IsBulk B){t}{r:Rp α}(h:tR enc P W base spare held t r):gF B enc P W base spare held t r fun _=>1:=fun ep cs x hx hw=>by
 obtain⟨a,ha⟩:=h ep cs x hx hw;exact⟨a,ha,hB.one _⟩
theorem iz(hB:IsBulk B){t}(ht:P.underlying t=some .string):gF B enc P W base spare held t Nh fun s=>s.size+1:=fun ep cs x h hw=>by
 obtain⟨s,rfl,rfl,hs⟩:=DataW.trod_string ht h;have h1:=hw _ (by simp;exact dc);have e:s.data.toList.length=s.size:=rfl;simp[e,reachBytes]at h1;refine⟨s,⟨rfl,?_⟩,?_⟩
 ·omega
 ·have:=hB.str s.data.toList;exact this
theorem Ni{p}{g:Nat->Nat}:∀{l:List α} {o:Nat},(∀i b,l[i]? =some b->p b<=g (o+i))->(l.map p).sum<=((List.range l.length).map fun i=>g (o+i)).sum
 | [],_,_=>by simp
 | a::l,o,h=>by
  rw[bf,List.range_succ_eq_map,bE,bE,cj,cj,ii];have ih:=Ni (p:=p) (g:=g) (l:=l) (o:=o+1) fun i b hb=>by
   have:=h (i+1) b hb;rw[show o+1+i=o+(i+1) by omega];exact this
  refine iK (h 0 a rfl) (bh ih (Gk ?_));congr 1;refine pI fun i _=>?_;congr 1;omega
theorem fP(hB:IsBulk B){t e}{r:Rp α}{m}{size}(ht:P.underlying t=some (.slice e))(hs:P.cellsOf e=size){bytes}(hb:P.bytesOf e=bytes)(he:gF B enc P W base spare held e r m):
  gF B enc P W base spare held t (S7 r size bytes) fun xs=>(xs.map m).sum+1:=fun ep cs x h hw=>by
 subst hs;rcases Deep.open_slice ht h with⟨rfl,rfl⟩ | ⟨a,len,cap,mm,n,D,Pl,rfl,_,hl,hm,WH,rfl,Xe⟩
 ·exact⟨[],⟨Sl.nil,rfl,SliceF.nil _ _ _ _,by simp⟩,hB.one _⟩
 ·have hlm:len<=mm:=by rw[WH];split<;>omega
  have hex:∀i,i<len->∃b,(∃ui,ui.length=P.cellsOf e/\Cells W _ ui/\r W _ b ui)/\m b<=B _:=fun i hi=>by
   obtain⟨ui,g1,g2⟩:=Xe i (by omega);obtain⟨_,g3,g4⟩:=World.cells?_some g1;obtain⟨b,g5,g6⟩:=he n ui _ g2 fun k hk=>hw k (by
    simp[DataW.weights,ht,aQ,cr];exact .inr (.inl (mh (eT.2 ⟨i,jQ.2 hi,rfl⟩) k hk)))
   refine⟨b,⟨ui,g3,fun j v hj=>?_,g5⟩,g6⟩;rw[g4 j (by have:=(aY.1 hj).1;omega)];exact hj
  obtain⟨l,h1,h2⟩:=qp len hex;refine⟨l,⟨⟨some a,len,cap⟩,rfl,⟨h1.symm,hl,fun h=>(by cases h),hm,fun j x hj=>?_⟩,?_⟩,?_⟩
  ·obtain⟨⟨ui,g1,g2,g3⟩,_⟩:=h2 j x hj;exact⟨a,ui,rfl,trivial,g1,g2,g3⟩
  ·have:=hw _ (by simp only[DataW.weights,ht];exact dc);rw[hb]at this;simp[bC,Gl,reachBytes]at this;rw[h1];have h3:len*bytes<=(len+(mm-len))*bytes:=fE _ (by omega);omega
  ·refine bh (Km ?_) (hB.sl _ ((List.range _).map fun j=>D _));have h4:=Ni (p:=m) (g:=fun i=>B _) (l:=l) (o:=0) fun i b hb=>by
    rw[bJ];exact(h2 i b hb).2
   rw[h1]at h4;simpa[Function.comp_def]using h4
def Bj(B:DataW H->Nat)(enc:TypeId×aw->H)(P:Program)(W:av)(base:Nat)(spare:Nat->Bool)(held:Bool)(T off:Nat)(fs:List Field)(r:Rp α)(m:α->Nat):Prop:=
 ∀n (cs:List aw) (xs:List _),cs.length=T->xs.length=fs.length->
  (∀(i:Nat) f,fs[i]? =some f->DataW.trod enc P W base spare held n f.type ((cs.drop f.offset).take (P.cellsOf f.type))=xs[i]?)->
  (∀(i:Nat) f x,fs[i]? =some f->xs[i]? =some x->∀k,k∈x.1.weights P f.type->k<=reachBytes)->∃a,r W (fun _=>True) a (cs.drop off)/\m a<=(xs.map fun x=>B x.1).sum
theorem qT{T off}(h:T=off):Bj B enc P W base spare held T off [] Ng fun _=>0:=fun n cs xs hl _ _ _=>⟨(),by
 exact List.drop_eq_nil_of_le (by omega),bp _⟩
theorem db{T off s}{f}{fs}{r:Rp α}{q:Rp β}{m}{m'}(ho:f.offset=off)(hs:P.cellsOf f.type=s)(hr:gF B enc P W base spare held f.type r m)(hq:Bj B enc P W base spare held T (off+s) fs q m'):
  Bj B enc P W base spare held T off (f::fs) (lp r q) fun x=>m x.1+m' x.2:=fun n cs xs hl hx hf hw=>by
 cases xs with
 | nil=>simp at hx
 | cons x xs=>
  have h0:=hf 0 f rfl;rw[ho,hs]at h0;obtain⟨a,ha,D9⟩:=hr n _ x h0 (hw 0 f x rfl rfl);obtain⟨b,hb,kV⟩:=hq n cs xs hl (by simpa using hx) (fun i g hg=>hf (i+1) g hg) (fun i g y hg hy=>hw (i+1) g y hg hy);exact⟨(a,b),⟨_,_,by rw[<-rl,dD],ha,hb⟩,iK D9 kV⟩
theorem gW(hB:IsBulk B){t}{fs}{T}{r:Rp α}{m}(ht:P.underlying t=some (.struct fs))(hT:P.cellsOf t=T)(hF:Bj B enc P W base spare held T 0 fs.toList r m):gF B enc P W base spare held t r fun x=>m x+1:=fun ep cs x h hw=>by
 obtain⟨xs,n,rfl,rfl,hl,tY,hf⟩:=DataW.trod_struct ht h;obtain⟨a,ha,D9⟩:=hF n cs xs (by omega) (by simpa using tY) (fun i f hi=>hf i f (by simpa using hi)) (fun i f x hi hx k hk=>hw k (by
  simp[DataW.weights,ht];refine DataW.weights_mem_each (j:=i) ?_ (by rw[cF,hx];rfl) k hk;simp only[Array.toList_map,cF,hi];rfl))
 refine⟨a,by simpa using ha,bh (Km D9) ?_⟩;have:=hB.agg (xs.map (·.1));rwa[ii]at this
theorem gF.map{t}{r}{q}{m}{m'}(h:gF B enc P W base spare held t r m)(f:α->β)(hf:∀a cs,r W (fun _=>True) a cs->q W (fun _=>True) (f a) cs/\m' (f a)<=m a):gF B enc P W base spare held t q m':=fun ep cs x hx hw=>by
 obtain⟨a,ha,D9⟩:=h ep cs x hx hw;obtain⟨h1,h2⟩:=hf a cs ha;exact⟨f a,h1,bh h2 D9⟩
theorem argB_struct{t}{fs}{r}{m}{b0}{v}{d}{p}(ht:P.underlying t=some (.struct fs))(ul:Value.okWide P W .any b0 t v)(h:DataW.Trod enc P W base spare held t v d p)
  (BR:gF B enc P W base spare held t r m) (hw:∀n,n∈d.weights P t->n<=reachBytes):∃(a:α) (cs:List aw),v=.agg cs.toArray/\r W (fun _=>True) a cs/\m a<=B d:=by
 obtain⟨cs,rfl,_⟩:=okWide_struct ht ul;obtain⟨ep,hf⟩:=h;obtain⟨a,ha,D9⟩:=BR ep _ _ hf hw;exact⟨a,cs.toList,by simp,ha,D9⟩
theorem sum_one:∀l:List α,(l.map fun _=>1).sum=l.length
 | []=>rfl
 | _::l=>by rw[bE,cj,sum_one l,bf];omega
end
end Go.Kt
