import Derived.Test.YtdfibecibkijiaaGreatDoorQc5
set_option linter.defProp false
set_option linter.unusedSectionVars false
set_option linter.unusedSimpArgs false
set_option linter.unusedVariables false
set_option maxHeartbeats 4000000
set_option maxRecDepth 100000
open Bool renaming true->aF,false->aM
open Option renaming some->aN,none->Pw
open List renaming length->qj
open Decidable renaming decide->YR
open Go.Value renaming int->O,string->ab,pointer->ae,agg->ah,tuple->ai,bool->aj
open Go.IntKind renaming i64->U,wrap->au
open Go.Ending renaming returned->ak
open _root_.ByteArray renaming mk->ao
open _root_.Go.Proofs.Tryz renaming prog->aq
open Go.Instr renaming buildSlice->av
open Go renaming World->aw,Value->ay,Calls->aA
open Go.Kt renaming Only->az,SliceF->aB,Cells->aD,OnlyP->aE,Blk->aG
open Go renaming World->aw,Value->ay
namespace Go.Proofs.YtdfibecibkijiaaGreatDoor.Con
open Go Go.RowKit Go.Kt Go.Kt.V Go.Proofs.YtdfibecibkijiaaGreatDoor.Vc
section
variable {w w':aw} {b m0 m1:Nat} {F G:A} {s:Sl} {xs:L dC} {vn:L (C)} {f g:Ft}
def Fi{l:L Nd}{j}{y}(h:l[j]? =aN y):EZ (l.take (j+1))=EZ (l.take j)+if gv y.b.k=aF then 0 else 1:=by
 unfold EZ;rw[bn,h,fh,aP];simp[Option.toList,pO,fj];cases gv y.b.k<;>simp
def Yg l:EZ l<=qj l:=cH _ _
def kTo{D:Nat}{bb}{ks}{cs}(g:nX aM (D+1) w G (.mk bb ks) cs)(M:∀k,G k->k≠b)(h:Lx w b m0 m1 F s xs vn f){n:Nat}(p:n<qj xs):
  aA aq 125 #[ae (aN ⟨b,0,Pw⟩),ah cs.toArray,O U (n:Int)] w λt w'=>t=ak (ai #[])/\Lx w' b m0 m1 F s xs vn (jQ f (wa xs bb ks n))/\az [b] w w':=by
 obtain⟨L,Q,mv,kids,l,_,N⟩:=g;have hk:=N.1;dsimp[Nd.kids,Nd.b]at hk l;subst l;refine ret (ava ?_);intro m A N E i;have z0:=i.size;have C:=h.lo.lt;have B:=hk.len;have V:=hk.cap;have W:=hk.big;have z:m≠b:=J
 refine⟨λv c bg q a=>∃j:Nat,q=(j:Int)/\v+j=qj ks/\j<=qj ks/\c=(EZ (ks.take j):Nat)/\bg=Av bb.ini (ks.take j)/\az [] w a/\A.heap.size<=a.heap.size,qj ks,⟨0,I,J,bf _,I,I,i,H _⟩,?_⟩;rintro v _ _ _ o ⟨j,rfl,Y,P,rfl,rfl,r,z1⟩;refine⟨λd=>?_,λd=>?_⟩
 .have d:=u d;obtain⟨ad,y,F,n,f,w,x,s,k⟩:=(Wg (cG aM D) Z hk r X).get (be j) J;rw[ba]at f;obtain⟨b,rfl⟩:∃b,D=b+1:=by
   cases D with
   | zero=>exact k.elim
   | succ b=>exact⟨b,I⟩
  obtain⟨vT,vU,rG,ju,rfl,_⟩:=k;have lh:=Yg (ks.take j);have tR:qj (ks.take j)<=j:=Uq
  refine⟨ad,n,_,_,_,_,vT,vU,rG,ju,_,s,λk3 G zE uQ T=>?_⟩;have z2:=T.size;refine⟨λc a=>c=(EZ (ks.take (j+1)):Nat)/\az [] G a,?_,(DB G y.b.k).mono ?_⟩
  .rintro _ e ⟨rfl,c⟩;have y:=c.size;refine⟨v-1,J,j+1,Ye,J,J,I,?_,(r.bU T).bU c,J⟩;unfold Av;rw[bn,f,qW,ji];simp
  rintro _ y ⟨rfl,c⟩;obtain rfl:G=y:=c.symm;refine⟨_,I,TT _ _,λhh=>⟨?_,Ib _ _⟩,λhh=>⟨?_,Ib _ _⟩⟩
  .rw[eS J J,Fi f,R (by intro e;rw[e]at hh;cases hh)];rfl
  rw[Fi f,K Zy];rfl
 have d:=aU d;have me:j=qj ks:=J
 subst me;rw[bm (H _)];have y:=h.o0 r;have q0:∀a,((T a).toList==(ao #[]).toList)=YR (a=[]):=λa=>ji a [];refine(DB o bb.k).mono ?_;rintro _ w5 ⟨rfl,c⟩;obtain rfl:o=w5:=c.symm;refine⟨_,I,TT _ _,λhh w6 G=>?_,λhh=>⟨λhp=>?_,λhp=>⟨λe=>?_,λe=>?_⟩⟩⟩
 .have z6:=G.size;have o6:=r.bU G;have h6:=h.o0 o6;have Qx:wa xs bb ks n=bad (Ku xs bb.dft&&rX xs (gj xs bb.dft) (yB xs n)) 26 bb.a:=by unfold wa;rw[K hh]
  refine⟨_,Om h6.lo.blk 0 I,(Jk h6 bb.dft).mono ?_⟩;rintro _ w7 ⟨rfl,c⟩;obtain rfl:w6=w7:=c.symm;refine⟨_,I,TT _ _,λa=>Lx a b m0 m1 F s xs vn (jQ f _)/\az [b] w a,λa h=>⟨I,h.1,h.2⟩,λw9 gA=>?_⟩;have z9:=gA.size;have o9:=o6.bU gA;have T:=h.o0 o9;refine⟨λk=>k=m,I,(ahG T (by rcases Fg xs bb.dft with h | _<;>omega)).mono ?_⟩;rintro _ dq ⟨rfl,c⟩;obtain rfl:w9=dq:=c.symm;obtain⟨x,g⟩:=fE p;obtain⟨ad,a1,a2,a3,_⟩:=iP T.sp g;refine⟨_,I,TT _ _,Y4 _ _,λhb=>⟨s,Om T.lo.blk 1 I,s,Om T.lo.blk 1 I,ad,a1,x.pa,a3,(BE T.sp T.fo _ x.pa).mono ?_⟩,λhb=>(oz T aM 26 bb.a).mono ?_⟩
  .rintro _ k ⟨rfl,c⟩;obtain rfl:w9=k:=c.symm;refine⟨_,I,TT _ _,Y4 _ _,(oz T _ 26 bb.a).mono ?_⟩;rintro _ s ⟨rfl,f,b⟩;refine⟨I,b.same S,Jl b z,?_,xp (CV o9) b⟩;have n:Pf xs (gj xs bb.dft) x.pa=rX xs (gj xs bb.dft) x.pa:=by rw[bK,AK,Ax]
   rw[Qx,jZ g,<-n,show Ku xs bb.dft=aF from hb,ch];exact f
  rintro _ k ⟨rfl,f,b⟩;refine⟨I,b.same S,Jl b z,?_,xp (CV o9) b⟩;rw[Qx,show Ku xs bb.dft=aM from hb,cR];exact f
 .have hp:=W0
  have x:wa xs bb ks n=bad (YR (bb.ini=[])&&YR (1<EZ ks)) 25 bb.a:=by unfold wa;rw[R Oy,K hp]
  rw[q0,show YR ((EZ ks:Int)>1)=YR (1<EZ ks)from mN.2 J];refine(oz y _ 25 bb.a).mono ?_;rintro _ k ⟨rfl,f,b⟩;exact⟨I,b.same S,I,by rw[x];exact f,xp (CV r) b⟩
 .have hp:=W0
  have e:=u e;have x:wa xs bb ks n=bad (Av bb.ini ks) 25 bb.a:=by unfold wa;rw[R Oy,R hp,K J]
  refine(oz y _ 25 bb.a).mono ?_;rintro _ k ⟨rfl,f,b⟩;exact⟨I,b.same S,I,by rw[x];exact f,xp (CV r) b⟩
 have hp:=W0
 have e:=aU e;have x:wa xs bb ks n=bad (YR (bb.ini=[])) 25 bb.a++bad (YR (qj ks=0)) 26 bb.a:=by unfold wa;rw[R Oy,R hp,R J]
 rw[q0];refine(oz y _ 25 bb.a).mono ?_;rintro _ iE ⟨rfl,b,f⟩;have w:=f.size;have s:((kids.n:Int)==0)=YR (qj ks=0):=by rw[B,bK];simp
 rw[s];refine⟨I,f.same S,(oz b _ 26 bb.a).mono ?_⟩;rintro _ F ⟨rfl,T,k⟩;exact⟨I,k.same S,I,by rw[x,gz];exact T,xp (xp (CV r) f) k⟩
def apt u l:∃y a,(av 224 1 #[.mk 0 l.v]).run aq u=.ok (Sl.v y) a/\az [] u a/\aB Ph 1 a (λ_=>True) y [l]:=by
 obtain⟨y,a,k,b,k3,_⟩:=iU (P:=aq) (t:=224) (e:=23) (i:=Tryz.t23) (z:=Sl.nil.v) (w:=u) (F:=λ_=>False) (vs:=[l.v]) (parts:=#[.mk 0 l.v]) (len:=1) (xs:=[l]) (r:=Ph) (size:=1) E E I I Z I I Z Z vI ⟨⟨I,I⟩,trivial⟩;exact⟨y,a,k,k3,(b.slice vI).mono vI λ_ _=>trivial⟩
def apu u l m:∃y a,(av 224 2 #[.mk 0 l.v,.mk 1 m.v]).run aq u=.ok (Sl.v y) a/\az [] u a/\aB Ph 1 a (λ_=>True) y [l,m]:=by
 obtain⟨y,a,k,b,k3,_⟩:=iU (P:=aq) (t:=224) (e:=23) (i:=Tryz.t23) (z:=Sl.nil.v) (w:=u) (F:=λ_=>False) (vs:=[l.v,m.v]) (parts:=#[.mk 0 l.v,.mk 1 m.v]) (len:=2) (xs:=[l,m]) (r:=Ph) (size:=1) E E I I Z I I Z Z vI ⟨⟨I,I⟩,⟨I,I⟩,trivial⟩;exact⟨y,a,k,k3,(b.slice vI).mono vI λ_ _=>trivial⟩
def ahp:∀D {w:aw} {x:Nd} {c:aJ} {f:Ft} {n:Nat},nX aM D w G x c->(∀k,G k->k≠b)->Lx w b m0 m1 F s xs vn f->n+iQ x<=(qj xs)->mL x<=8388608->
  aA aq 77 #[ae (aN ⟨b,0,Pw⟩),ah c.toArray,O U n] w λr w'=>r=ak (O U ((n+iQ x:Nat):Int))/\Lx w' b m0 m1 F s xs vn (jQ f (N3 xs vn n x))/\az [b] w w'
 | 0,_,_,_,_,_,h,_,_,_,_=>h.elim
 | D+1,w,.mk h i,c,f,n,Q,hG,l,hn,R=>by
  have E:=Q;obtain⟨B,M,mv,kids,T,⟨q,C,o⟩,N⟩:=Q;have hk:=N.1;have q:=q.1;have C:=C.1;have o:=o.1;clear N;dsimp only[Nd.kids,Nd.b]at hk T q C o;subst T;rw[iQ]at hn;rw[mL]at R;have K:=R;unfold zl at K;have V0:=iB h.en;have xA:=iB h.lv;have B8:=hk.len;have yq:=o.len;have FW:=l.ln;have Y:=o.cap;have am:=o.big;have aC:=qn i;refine ret (auZ ?_);intro k0 V N dS t;have z0:=t.size;have Gx:=l.lo.lt;have zG:k0≠b:=J
  have tr:∀{j v:aw},az [b] w j->az [b] j v->az [b] w v:=λl g=>xp l g;refine(kTo ((cG aM (D+1)).keep E λk hk W=>t.block k W X) hG (l.o0 t) (n:=n) J).mono ?_;rintro _ w1 ⟨rfl,h1,A⟩;have z1:=A.size;have o1:=tr (CV t) A;obtain⟨y,w2,p1,z,p3⟩:=apu w1 B M;have z2:=z.size;have P:=o1.bU z;have row:∀{j:aw} {sl:Sl} {x:L Ac},aB (uW aM) 9 w G sl x->az [b] w j->aB (uW aM) 9 j G sl x:=λhs hO=>Wg (dW aM) Z hs hO λk hk _ hm=>hG k hk Ie;refine⟨I,A.same S,y,w2,p1,z.same S,(aeT (l:=[(B,h.en),(M,h.lv)]) p3 (λp m=>?_) ?_ hG (h1.o0 z)).mono ?_⟩
  .simp only[bh,bI,cO]at m;rcases m with rfl | rfl
   .exact row q P
   exact row C P
  .unfold qF;simp;omega
  rintro _ w3 ⟨rfl,h3,cZ⟩;have z3:=cZ.size;have o3:=tr P cZ;have G:qF [(B,h.en),(M,h.lv)]=h.en++h.lv:=by unfold qF;simp
  rw[G]at h3;refine⟨I,cZ.same S,λkv aS j=>∃g:Nat,aS=(g:Int)/\kv+g=qj h.mv/\g<=qj h.mv/\Lx j b m0 m1 F s xs vn (jQ f (wa xs h i n++(mw xs vn (h.en++h.lv)++(h.mv.take g).flatMap (Dx xs vn))))/\az [b] w j/\V.heap.size<=j.heap.size,qj h.mv,
   ⟨0,I,J,bf _,by rw[cu,uU,bC,gz];exact h3,o3,J⟩,?_⟩
  rintro kv _ w4 ⟨g,rfl,nQ,hj,h4,o4,z4⟩;refine⟨λv=>?_,λv=>?_⟩
  .have v:=u v;obtain⟨ad,a,ds,a1,a2,a3,a4,a5,a6⟩:=(Wg (nJ aM) Z o o4 λk hk _ hm=>hG k hk Ie).get (be g) J;rw[ba]at a2;obtain⟨gc,w,tg,rfl,e,y,oJ⟩:=a6;obtain⟨gs,rfl⟩:=fD e;have y:=y.1;have oJ:=oJ.1;have aT:=qs (bp a2);unfold Hj at aT;have Kk:=iB a.acts;have yU:=xU a.tg;have bV:=h4.lo.lt;refine⟨ad,a1,_,_,_,_,_,_,_,_,gs,_,w,tg,_,a5,λk3 w5 zE uQ s=>?_⟩;have z5:=s.size;have h5:=h4.o0 s;have F:k3≠b:=J
   refine(oz h5 (Mg a) 28 a.a).mono ?_;rintro _ w6 ⟨rfl,h6,f⟩;have z6:=f.size;obtain⟨d,bv⟩:=e;refine⟨I,f.same S,(Jm d ((mq aM d).keep bv λk hk W=>?_) hG h6).mono ?_⟩
   .exact(f.block k J SM).trans (s.block k W X)
   rintro _ w7 ⟨rfl,h7,gq⟩;have z7:=gq.size;obtain⟨y8,w8,q1,d,q3⟩:=apt w7 w;have z8:=d.size;have s7:az [b] w5 w7:=xp f gq;have s8:az [b] w4 w8:=(xp (CV s) s7).bU d;refine⟨I,gq.same S,y8,w8,q1,d.same S,(aeT (l:=[(w,a.acts)]) q3 (λp m=>?_) ?_ hG (h7.o0 d)).mono ?_⟩
   .simp only[aV]at m;subst m;exact Wg (dW aM) Z y s8 λk hk _ hm=>hG k hk Ie
   .unfold qF;simp only[lW,uU,bC];omega
   rintro _ w9 ⟨rfl,h9,gA⟩;have z9:=gA.size;have G:qF [(w,a.acts)]=a.acts:=by unfold qF;simp
   rw[G]at h9;refine⟨I,gA.same S,λdq dN=>⟨λk=>k=k3,I,?_⟩⟩;have KG:=dN.size;have HU:az [b] w4 dq:=(xp s8 gA).bU dN;refine(bxs (h9.o0 dN) (Wg dG Z oJ HU λk hk _ hm=>hG k hk Ie) J).mono ?_;rintro _ dB ⟨rfl,p⟩;have GD:=p.size;refine⟨_,I,p.same S,Uy p,(oz ((h9.o0 dN).o0 p) _ 27 a.a).mono ?_⟩;rintro _ ey ⟨rfl,GI,eV⟩;have bY:=eV.size;refine⟨I,eV.same S,Jl eV F,kv-1,J,g+1,Ye,J,J,?_,tr o4 (xp (HU.bU p) eV),J⟩;have e1:(h.mv.take (g+1)).flatMap (Dx xs vn)=(h.mv.take g).flatMap (Dx xs vn)++Dx xs vn a:=by
    rw[bn,a2,kj];simp
   have e2:wa xs h i n++(mw xs vn (h.en++h.lv)++((h.mv.take g).flatMap (Dx xs vn)++Dx xs vn a))=(wa xs h i n++(mw xs vn (h.en++h.lv)++(h.mv.take g).flatMap (Dx xs vn)))++Dx xs vn a:=by simp only[bq]
   rw[e1,e2,gz,Dx,gz,gz,gz];exact GI
  have v:=aU v;have me:g=qj h.mv:=J
  subst me;rw[bm (H _)]at h4;refine⟨λkv a aS j=>∃g:Nat,aS=(g:Int)/\kv+g=qj i/\g<=qj i/\a=((n+1+dJ (i.take g):Nat):Int)/\Lx j b m0 m1 F s xs vn (jQ f (wa xs h i n++(mw xs vn (h.en++h.lv)++(h.mv.flatMap (Dx xs vn)++qo xs vn (n+1) (i.take g)))))/\az [b] w j/\V.heap.size<=j.heap.size,qj i,
   ⟨0,I,J,bf _,Ye,by rw[cu,qo,bC];exact h4,o4,z4⟩,?_⟩
  rintro kv _ _ eY ⟨g,rfl,nQ,hj,rfl,p,d,Vl⟩;refine⟨λv=>?_,λv=>?_⟩
  .have v:=u v;obtain⟨ad,y,ds,s,a2,F,a4,w,b⟩:=(Wg (cG aM D) Z hk d λk hk _ hm=>hG k hk Ie).get (be g) J;rw[ba]at a2;have f:=b;obtain⟨a,rfl⟩:∃a,D=a+1:=by
    cases D with
    | zero=>exact b.elim
    | succ a=>exact⟨a,I⟩
   obtain⟨vT,vU,rG,ju,rfl,_⟩:=f;have ru:=mH a2;have cC:=qt (bp a2);refine⟨ad,s,_,_,_,_,vT,vU,rG,ju,_,w,λk7 fV co ce eZ=>?_⟩;have dO:=eZ.size;have cc:=p.lo.lt;refine(ahp (a+1) ((cG aM (a+1)).keep b λk _ W=>eZ.block k W X) hG (p.o0 eZ) (n:=n+1+dJ (i.take g)) J J).mono ?_;rintro _ fT ⟨rfl,DS,ir⟩;have el:=ir.size;have e:i.take (g+1)=i.take g++[y]:=HG
   refine⟨_,I,ir.same S,kv-1,J,g+1,Ye,J,J,?_,?_,tr (d.bU eZ) ir,J⟩
   .have:dJ (i.take (g+1))=dJ (i.take g)+iQ y:=by rw[e,Ap,dJ,dJ];omega
    omega
   have k:wa xs h i n++(mw xs vn (h.en++h.lv)++(h.mv.flatMap (Dx xs vn)++(qo xs vn (n+1) (i.take g)++N3 xs vn (n+1+dJ (i.take g)) y)))=(wa xs h i n++(mw xs vn (h.en++h.lv)++(h.mv.flatMap (Dx xs vn)++qo xs vn (n+1) (i.take g))))++N3 xs vn (n+1+dJ (i.take g)) y:=by simp only[bq]
   rw[e,E1,qo,qo,bC,k,gz];exact DS
  have v:=aU v;have me:g=qj i:=J
  subst me;rw[bm (H _)]at p⊢;refine⟨?_,by rw[N3];exact p,d⟩;rw[iQ];congr 2;omega
end
def kU(c:Ch):Ft:=if(iO c).2≠0 then((iO c).2, -1)else jQ (0,0) (Aw c)
def At6{w}{F}{D}{c}{vs}{cs}(d:ChR aM (D+1) w F c vs cs)(L:HX c)(M:oq c.vars+mL c.root<=8388608)(E:Er w)(C:Tb w):
  aA aq 33 #[ah (vs.v::cs).toArray] w λe Y=>e=ak (ah #[O U (kU c).1,O U (kU c).2])/\az [] w Y:=by
 have m:=d.root;obtain⟨o,z,mv,kids,N,_⟩:=d.root;subst N;refine ret (auO ?_);intro Q V w0 fN dS lm jP j;have z0:=j.size;have keep:∀{i:aw},az [] w i->ChR aM (D+1) i F c vs (qD c.root.b.k c.root.b.nm c.root.b.ini c.root.b.dft o z mv kids c.root.b.a):=λs=>⟨d.vars.keep ft Z λk _ W=>s.block k W X,(cG aM _).keep d.root λk _ W=>s.block k W X⟩
 refine(X7 (keep j) L M (E.only j) (C.only j)).mono ?_;rintro _ a ⟨⟨t,rfl,l,_⟩,r⟩;have z1:=r.size;have A:=j.bU r;refine⟨_,_,I,r.same S,λhc w2 B=>?_,λhc=>?_⟩
 .have hc:(iO c).2≠0:=Yc
  unfold kU;rw[K hc];exact⟨I,A.trans B λk hk=>.inr TQ⟩
 have hc:(iO c).2=0:=Yc
 have bY:kU c=jQ (0,0) (Aw c):=by unfold kU;rw[R (λh=>h hc)]
 rw[bY];have l:=l hc;have co:=BD hc;obtain⟨r3,aS,cZ⟩:=X1 (P:=aq) (mty:=126) (kv:=kS) (g:=gS) a;have el:=aS.lt;refine⟨_,_,r3,cZ.same S,?_⟩;generalize a.alloc (.map #[] 0)=w3 at*
 obtain⟨r4,aT,dQ⟩:=X1 (P:=aq) (mty:=126) (kv:=kS) (g:=gS) w3;have eQ:=aT.lt;have z3:=cZ.size;refine⟨_,_,r4,dQ.same S,?_⟩;intro b w5 hb oI eJ wq;have z5:=eJ.size;have o5:=((A.bU cZ).bU dQ).bU eJ;have ce:Lo w5 b a.heap.size w3.heap.size Sl.nil [] [] (0,0):=⟨wq,(((aS.only dQ X).only eJ X).ext λk=>I).le (H _),((aT.only eJ X).ext λk=>I).le (H _),J,J⟩
 have bV:nX aM (D+1) w (λk=>k<w.heap.size) c.root (qD c.root.b.k c.root.b.nm c.root.b.ini c.root.b.dft o z mv kids c.root.b.a):=(cG aM _).mono ((cG aM _).inHeap m) λk hk=>hk.2;have bv:aB Ry 3 w (λk=>k<w.heap.size) vs c.vars:=(d.vars.1.inHeap ft Z).mono ft λk hk=>hk.2;refine(Yd (D+1) ((cG aM _).keep bV λk hk W=>o5.block k W X) (λk hk=>J) ce (Yb _ _ _ _ _ _) J PF).mono ?_;rintro _ w6 ⟨rfl,s6,Qt,dO,m6⟩;have z6:=m6.1.size;rw[cd]at Qt;have cc:=(Mf 0 (-1) 0 c.root).symm;rw[cc]at Qt;have p6:aE (λk=>a.heap.size<=k) w w6:=(o5.p0).trans m6.1 λk hk=>.inl (hk.elim (λh=>J) λh=>Ue);have cC:cj [Q,V] w5 w6:=m6.1.same λx d=>by
  simp at d;rcases d with rfl | rfl
  .exact⟨J,λh=>h.elim J λh=>Ue⟩
  exact⟨J,λh=>h.elim J λh=>Ue⟩
 have fd:=bv.len;have f5:=AJ c.vars;refine⟨I,cC,_,s6,_,_,_,Qt.blk,λkv f6 p f7 q x y i=>∃(e:Nat) (f:Ft),f6=(e:Int)/\kv+e=qj c.vars/\e<=qj c.vars/\p=aN a.heap.size/\q=aN w3.heap.size/\f=(x,y)/\Lo i b a.heap.size w3.heap.size f7 ((eI c).map λx:dC=>x.nm) ((Mh c).take e) f/\f=jQ (0,0) (wj [] (Cy c.root)++wj [] ((c.vars.take e).map λv=>(v.n,v.a)))/\aE (λk=>a.heap.size<=k) w i/\aE (λk=>k=b∨k=w3.heap.size) w6 i,qj c.vars,
  ⟨0,_,I,J,bf _,I,I,I,Qt,by rw[cu,iu,wj,bC],p6,YW _ _⟩,?_⟩
 rintro kv _ _ l2 _ _ _ w7 ⟨e,f,rfl,nQ,hj,rfl,rfl,hf,zF,am,p7,aC⟩;have z7:=aC.size;refine⟨λW=>?_,λlA=>?_⟩
 .have W:=u W;obtain⟨ad,v,y,w,f,a3,a4,x,p⟩:=(U6 ft Z bv p7 λk hk _=>J).get (be e) J;rw[ba]at f;have p:y=[ab (T v.n),O U v.v,O U v.a]:=p;subst p;have P:=xo (bp f);have q:gS v.n:=by
   show (qj v.n)<=maxLen;have:maxLen=9223372036854775807:=I;omega
  have G:qj ((Mh c).take e)=e:=by rw[ci];unfold Mh;rw[bH];omega
  refine⟨ad,w,_,_,_,x,λk5 w8 sP FU g yW=>?_⟩;have z8:=g.size;have Vk:=zF.lt;have t:=aaT (zF.o0 g) q v.a;rw[G]at t;refine t.mono ?_;rintro _ w9 ⟨rfl,h,n⟩;have z9:=n.size;have ev:(Mh c).take (e+1)=(Mh c).take e++[v.n]:=by
   rw[bn];unfold Mh;rw[cw,f];rfl
  refine⟨I,n.same S,_,_,_,_,_,h.blk,kv-1,J,e+1,_,Ye,J,J,I,I,I,by rw[ev];exact h,?_,(p7.bU g).trans (n.p (F:=λk=>a.heap.size<=k) λk hk=>.inl (by simp at hk;omega)) λk hk=>.inl hk,(aC.bU g).trans (n.p (F:=λk=>k=b∨k=w3.heap.size) λk hk=>.inl WH) λk hk=>.inl hk⟩;rw[am,<-gz];have D:wj [] ((c.vars.take (e+1)).map λv=>(v.n,v.a))=wj [] ((c.vars.take e).map λv=>(v.n,v.a))++bad (!YR (v.n∈(Mh c).take e)) 24 v.a:=by
   rw[bn,f,cA,Au,cd];simp only[Option.toList,cf,iu,wj,bC,iv];unfold Mh;rw[<-mg];rfl
  rw[D,bq]
 have lA:=aU lA;have me:e=qj c.vars:=J
 subst me;intro q g pK n0 n1;have KG:=g.size;have y:(Mh c).take (qj c.vars)=Mh c:=bm (by unfold Mh;rw[bH];exact H _);rw[y]at zF;rw[bm (H _)]at am;have O:Lo q b a.heap.size w3.heap.size t ((eI c).map λx:dC=>x.nm) (Mh c) f:=zF.lG g (by subst hf;exact pK);have p:=p7.trans (g.p (F:=λk=>a.heap.size<=k) λk hk=>.inl TQ) λk hk=>.inl hk;have T:aB oV 5 q (λk=>k<a.heap.size) t (eI c):=by
  have n:az [] a w5:=(cZ.bU dQ).bU eJ;have b:=Wg dj Z ((l.sl.inHeap dj Z).mono dj (G:=λk=>k<a.heap.size) λk hk=>hk.2) n X;have c:=U6 dj Z (U6 dj Z b m6.1 λk hk _ h=>h.elim J λh=>Ue) aC λk hk _ h=>J
  exact Wg dj Z c g λk hk _ f=>by simp at f;omega
 have hX:Lx q b a.heap.size w3.heap.size (λk=>k<a.heap.size) t _ _ f:=⟨O,T,Dw c,by unfold eI;rw[nB];exact co,λk hk=>J⟩
 refine(ahp (n:=0) _ ((cG aM _).keep bV λk hk W=>p.block k W J) (λk hk=>J) hX (by unfold eI;rw[nB];omega) J).mono ?_;rintro _ dB ⟨rfl,P,v⟩;have GD:=v.size;have hg:jQ f (N3 (eI c) (Mh c) 0 c.root)=jQ (0,0) (Aw c):=by
  rw[am,<-gz,bq];rfl
 rw[hg]at P;refine⟨_,I,v.same S,_,_,_,_,_,P.lo.blk,λey U _=>⟨I,?_⟩⟩;have D:=(p.mono λk _ hk=>J).trans (v.p (F:=λk=>w.heap.size<=k) λk hk=>.inl (by simp at hk;omega)) λk hk=>.inl hk;exact(D.only λk hk=>hk).trans U λk hk=>.inr (by simp at hk;omega)
def tN(l:C):Ft:=if(fp l).2.1=0 then kU (fp l).1 else(fp l).2
def Fj(l:C):Ch:=if(tN l).1=0 then(fp l).1 else WX
def ady{w:aw}(l:C)(L:HX (fp l).1)(M:oq (fp l).1.vars+mL (fp l).1.root<=8388608)(E:Er w)(J:Tb w):aA aq 32 #[ab (T l)] w λe q=>
  ∃(s:Sl) (g:aJ),e=ak (ai #[ah (s.v::g).toArray,ah #[O U (tN l).1,O U (tN l).2]])/\ChR aF 15 q (Fr w.heap.size) (Fj l) s g/\az [] w q:=by
 refine gX (auN ?_);intro i j d Q P Y V n;have z0:=n.size;refine(afM l (E.only n)).mono ?_;rintro _ t ⟨s,g,rfl,h,r⟩;have z1:=r.size;have o:=n.bU r;obtain⟨y,A,B,z,rfl,_⟩:=h.root;refine⟨s,_,_,_,_,y,A,B,z,_,_,_,I,r.same S,λW k3 N rF sR zE uQ c=>?_⟩;have z2:=c.size;have p:=o.bU c;have m:∀{u:aw},az [] t u->ChR aF 15 u (Fr d.heap.size) (fp l).1 s (qD (fp l).1.root.b.k (fp l).1.root.b.nm (fp l).1.root.b.ini (fp l).1.root.b.dft y A B z (fp l).1.root.b.a):=fun{u} hO=>
  ⟨h.vars.keep ft Z λk _ b=>hO.block k b X,(cG aF 15).keep h.root λk _ b=>hO.block k b X⟩
 have f:∀{u v:aw},az [] w u->az [j,i] u v->az [] w v:=λF G=>F.trans G λx hx=>.inr LM;refine⟨λa b u=>(a,b)=tN l/\az [] t u/\N.heap.size<=u.heap.size,?_,λhc=>?_,λhc=>⟨?_,c,H _⟩⟩
 .rintro a b w3 ⟨he,v,z3⟩;have e:(tN l).1=a:=by rw[<-he]
  have U:(tN l).2=b:=by rw[<-he]
  refine⟨λhc w4 dQ n1 n2 D n4 O n6=>⟨λk=>k=k3,I,?_,?_,λw5 eJ=>⟨Sl.nil,_,by rw[e,U],?_,f ((o.bU v).bU dQ) eJ⟩⟩,λhc w6 T n1 n2 D n4 O n6=>⟨λk=>k=k3,I,?_,?_,λw7 x=>⟨s,_,by rw[e,U],?_,f ((o.bU v).bU T) x⟩⟩⟩
  .exact λa=>D a
  .exact λa=>O a
  .have hc:a≠0:=Yc
   unfold Fj;rw[e,R hc];exact⟨Nh _ _ _ _ _ _,XR Z w5⟩
  .exact λa=>D a
  .exact λa=>O a
  have hc:a=0:=Yc
  unfold Fj;rw[e,K hc];have b:=m (v.bU T);have ap:∀k,Fr d.heap.size k->k∉[j,i]:=λk (hk:d.heap.size<=k)=>S
  have lo:∀k,Fr d.heap.size k->Fr w.heap.size k:=λk (hk:d.heap.size<=k)=>(by omega:w.heap.size<=k)
  exact⟨(b.vars.keep ft Z λk hk bW=>x.block k bW (ap k hk)).mono ft lo,(cG aF 15).mono ((cG aF 15).keep b.root λk hk bW=>x.block k bW (ap k hk)) lo⟩
 .have hc:(fp l).2.1=0:=Yc
  refine(At6 (D:=14) (m c).off L M (E.only p) (J.only p)).mono ?_;rintro _ e ⟨rfl,a⟩;have v:=a.size;refine⟨_,_,I,a.same S,λk b=>⟨?_,?_,by have:=b.size;omega⟩⟩
  .unfold tN;rw[K hc]
  exact(c.bU a).trans b λx hx=>.inr CQ
 have hc:(fp l).2.1≠0:=Yc
 unfold tN;rw[R hc]
def Sa(l:C):M:=CG (fp l).1&&awi (fp l).1
def aiw{l:C}(h:Sa l=aF):HX (fp l).1/\oq (fp l).1.vars+mL (fp l).1.root<=8388608:=by
 unfold Sa at h;rw[B]at h;exact⟨awh h.1,u h.2⟩
end Go.Proofs.YtdfibecibkijiaaGreatDoor.Con
namespace Go.Kt
open Go Go.RowKit Go.ChangeShapes Go.WideShapes
def qT{a b:Type}(r:Rp a)(q:Rp b):Rp (a×b):=λw F x s=>∃c d,s=c++d/\r w F x.1 c/\q w F x.2 d
def Yj:Rp Unit:=λ_ _ _ c=>c=[]
def rBool:Rp M:=λ_ _ b c=>c=[.bool b]
def j6:rBool.Ok where
 keep h _:=h
 inHeap h:=h
 mono h _:=h
 one h v hv:=by
  rw[show _=[Value.bool _]from h]at hv;simp at hv;subst hv;rfl
section
variable {H:Type} {enc:TypeId×ay->H} {P:Program}
def adh(l:laidOutB P=aF){W W'}{sp}(h:Below W.heap.size W W'):∀{a:L TypeId} {b:L ay} {s:L _} {ps:L MemPlace},
  (∀t,t∈a->P.readableRec t=aF/\t<P.types.size)->DataW.TrodAll enc P W 0 (λ_=>aF) aF a b s ps->(∀x,x∈ps->x.block<W.heap.size)->(∀x,x∈ps->sp x.block=aF)->DataW.TrodAll enc P W' 0 sp aF a b s ps
 | [],b,s,ps,_,c,_,_=>by
  obtain⟨rfl,rfl,rfl⟩:=trodAll_nil c;exact trodAll_mk0
 | t::a,b,s,ps,r,e,W,T=>by
  obtain⟨v,k,d,c,p,q,rfl,rfl,rfl,f,g⟩:=trodAll_cons e;obtain⟨i,j⟩:=r t X;exact trodAll_cons_mk (WideElems.Trod_stays l i j f (λx hx=>h.same (W x Ze)) λx hx=>T x Ze)
   (adh l h (λd u=>r d (by simp[u])) g (λx hx=>W x Ze) λx hx=>T x Ze)
def law_post{f}{s:ChangeSpec}{fresh handsOn again}{W W'}{args}{ds gs}{before}{tb}
  (e:DataW.Whole enc P f.params.toList s.vars aM W args.toList ds gs before) (v:s.vars=[])
  (j:(s.fn H (ds++gs)).results=[.lit (.bool aF)]) (h:(s.fn H (ds++gs)).args=ds) (B:(s.fn H (ds++gs)).vars=[])
  (c:f.resultTypes=#[tb]) (u:P.underlying tb=aN .bool) (l:laidOutB P=aF) (k:(f.params.toList.all λt=>P.readableRec t&&YR (t<P.types.size))=aF) (O:Only [] W W'):
  s.post enc P f aM fresh handsOn again W args (.bool aF) W':=by
 have g:=O.below (aY _) X;have d:=λp hp=>e.lt p hp;obtain⟨p,q,A,i,rfl,z,n⟩:=id e;rw[v]at i;obtain⟨rfl,rfl⟩:=trodVars_none i;rw[bC]at*
 have m:∀sp,_->DataW.TrodAll enc P W' 0 sp aF f.params.toList args.toList (s.fn H ds).args p:=λsp T=>by
  rw[h];exact adh l g (λt c=>by simpa using du.1 k t c) A (λx hx=>by simpa using d x hx) T
 have V:∀sp,DataW.TrodVars enc P W' sp s.vars (s.fn H ds).vars []:=λsp=>by
  rw[v,B];simp[DataW.TrodVars]
 have a:∀b sp hd,DataW.TrodAll enc P W' b sp hd f.resultTypes.toList ((Value.bool aF).resultList f.resultTypes.size) (s.fn H ds).results []:=λb sp hd=>by
  rw[j,c];exact trodAll_cons_mk (shut_bool u aF) trodAll_mk0
 have o:∀x∈p,(λb=>decide _) x.block=aF:=λx hx=>by simpa using d x hx
 refine⟨ds,[],p,[],p,[],e,by simpa using a _ _ _,by simpa using m _ o,by simpa using V _,World.keptBut_mono (λx hx=>⟨hx,Xi⟩) (g.frame _),λ_=>?_⟩;refine⟨ok_one c I (okWide_bool_mk u aF),_,_,_++[],⟨[]++p,[],trodAll_append (m _ (λ_ _=>I)) (a _ _ _),V _,I,?_,?_⟩,?_⟩
 .intro b off hp;have hp:=W0
  rw[g.frozen (p:=_) (d _ hp)];exact z b off hp
 .intro b;cases b
 intro x hp _;simpa using hp
variable {W:aw} {base:Nat} {spare:Nat->M} {held:M} {α:Type}
def Hn(e:TypeId×ay->H)(P:Program)(W:aw)(base:Nat)(spare:Nat->M)(held:M)(t:TypeId)(r:Rp α):Prop:=
 ∀fL c x,DataW.trod e P W base spare held fL t c=aN x->(∀n,n∈x.1.weights P t->n<=reachBytes)->∃a,r W (λ_=>True) a c
def opens_int{t}(a:P.underlying t=aN (.int .i64)):Hn enc P W base spare held t rInt:=λfL c x h _=>by
 obtain⟨n,rfl,rfl,w⟩:=DataW.trod_int a h;refine⟨n,I,?_⟩;simpa[Lit.wf,IntKind.min,IntKind.max,IntKind.signed,IntKind.bits,qO]using w
def UT(r:Rp α)(i bytes:Nat):Rp (L α):=λw F x c=>∃s,c=[s.v]/\SliceF r i w F s x/\qj x*bytes<=140737488351232
def xq{e}:∀{l:L _} {d:DataW H},d∈l->∀n,n∈d.weights P e->n∈DataW.weightsAll P e l
 | a::l,d,hd,n,h=>by
  simp[DataW.weightsAll,bQ];rcases bh.1 hd with rfl | hd
  .exact .inl h
  exact .inr (xq hd n h)
 | [],d,hd,_,_=>by simp at hd
def CA{a:Type}{p:Nat->a->Prop}:∀n,(∀i,i<n->∃b,p i b)->∃l:L a,qj l=n/\∀i b,l[i]? =aN b->p i b
 | 0,_=>⟨[],I,λi b h=>Ux⟩
 | n+1,h=>by
  obtain⟨l,e,g⟩:=CA n λi f=>h i J;obtain⟨b,j⟩:=h n J;refine⟨l++[b],by simp[e],λi c d=>?_⟩;by_cases f:i<qj l
  .rw[bZ f]at d;exact g i c d
  have:i=n:=by
   have:=(bc.1 d).1;simp at this;omega
  subst this;simp[e]at d;rw[<-d];exact j
def Hn.map{β}{t}{r}{q}(h:Hn enc P W base spare held t r)(f:α->β)(d:∀a c,r W (λ_=>True) a c->q W (λ_=>True) (f a) c):Hn enc P W base spare held t q:=λfL c x e w=>by
 obtain⟨a,b⟩:=h fL c x e w;exact⟨f a,d a c b⟩
def opens_bool{t}(a:P.underlying t=aN .bool):Hn enc P W base spare held t rBool:=λfL c x h _=>by
 obtain⟨b,rfl,rfl⟩:=DataW.trod_bool a h;exact⟨b,I⟩
def weights_of{ts}{ds}(h:(DataW.weightsEach P ts ds).all (· <=reachBytes)=aF)(j:Nat){t}{d:DataW H}(b:ts[j]? =aN t)(hd:ds[j]? =aN d):∀n,n∈d.weights P t->n<=reachBytes:=
 λn a=>by simpa using du.1 h n (DataW.weights_mem_each b hd n a)
end
structure IsBulk {H:Type} (B:DataW H->Nat):Prop where
 one:∀d,1<=B d
 sl:∀e s,(e.map B).sum+1<=B (.slice e s)
 str:∀b,qj b+1<=B (.lit (.string b))
 agg:∀p,(p.map B).sum+1<=B (.agg p)
 ptr:∀d,B d+1<=B (.ptr d)
 iface:∀t d,B d+1<=B (.iface t d)
section
variable {H:Type} {enc:TypeId×ay->H} {P:Program} {W:aw} {base:Nat} {spare:Nat->M} {held:M} {α β:Type} {B:DataW H->Nat}
def Yk:Rp ByteArray:=λ_ _ s c=>c=[.string s]/\s.size<=140737488351232
def kY(B:DataW H->Nat)(e:TypeId×ay->H)(P:Program)(W:aw)(base:Nat)(spare:Nat->M)(held:M)(t:TypeId)(r:Rp α)(m:α->Nat):Prop:=
 ∀fL c x,DataW.trod e P W base spare held fL t c=aN x->(∀n,n∈x.1.weights P t->n<=reachBytes)->∃a,r W (λ_=>True) a c/\m a<=B x.1
def opensB_of(b:IsBulk B){t}{r:Rp α}(h:Hn enc P W base spare held t r):kY B enc P W base spare held t r λ_=>1:=λfL c x e w=>by
 obtain⟨a,d⟩:=h fL c x e w;exact⟨a,d,b.one _⟩
def mz(b:IsBulk B){t}(c:P.underlying t=aN .string):kY B enc P W base spare held t Yk λs=>s.size+1:=λfL d x h w=>by
 obtain⟨s,rfl,rfl,f⟩:=DataW.trod_string c h;have a:=w _ (by simp;exact fg);have e:qj s.data.toList=s.size:=I;simp[e,reachBytes]at a;refine⟨s,⟨I,?_⟩,?_⟩
 .omega
 have:=b.str s.data.toList;exact this
def Yl{p}{g:Nat->Nat}:∀{l:L α} {o:Nat},(∀i b,l[i]? =aN b->p b<=g (o+i))->(l.map p).sum<=((List.range (qj l)).map λi=>g (o+i)).sum
 | [],_,_=>X
 | a::l,o,h=>by
  rw[aZ,List.range_succ_eq_map,cf,cf,dl,dl,iv];have d:=Yl (p:=p) (g:=g) (l:=l) (o:=o+1) λi b c=>by
   have:=h (i+1) b c;rw[show o+1+i=o+(i+1) by omega];exact this
  refine oL (h 0 a I) (bB d (QE ?_));congr 1;refine wB λi _=>?_;congr 1;omega
def opensB_slice(i:IsBulk B){t e}{r:Rp α}{m}{size}(f:P.underlying t=aN (.slice e))(u:P.cellsOf e=size){bytes}(c:P.bytesOf e=bytes)(l:kY B enc P W base spare held e r m):
  kY B enc P W base spare held t (UT r size bytes) λy=>(y.map m).sum+1:=λfL z x h w=>by
 subst u;rcases Deep.open_slice f h with⟨rfl,rfl⟩ | ⟨a,len,cap,j,n,D,Pl,rfl,_,q,s,d,rfl,V⟩
 .exact⟨[],⟨Sl.nil,I,Zn _ _ _ _,X⟩,i.one _⟩
 have M:len<=j:=by rw[d];split<;>omega
 have G:∀A,A<len->∃b,(∃t,qj t=P.cellsOf e/\Cells W _ t/\r W _ b t)/\m b<=B _:=λA L=>by
  obtain⟨t,g,a⟩:=V A J;obtain⟨_,e,h⟩:=World.cells?_some g;obtain⟨b,m,o⟩:=l n t _ a λk hk=>w k (by
   simp[DataW.weights,f,bh,bQ];exact .inr (.inl (xq (eo.2 ⟨A,mM.2 L,I⟩) k hk)))
  refine⟨b,⟨t,e,λE v C=>?_,m⟩,o⟩;rw[h E (by have:=(bc.1 C).1;omega)];exact C
 obtain⟨H,F,K⟩:=CA len G;refine⟨H,⟨⟨aN a,len,cap⟩,I,⟨F.symm,q,λh=>Ue,s,λE x C=>?_⟩,?_⟩,?_⟩
 .obtain⟨⟨t,g,b,e⟩,_⟩:=K E x C;exact⟨a,t,I,trivial,g,b,e⟩
 .have:=w _ (by simp only[DataW.weights,f];exact fg);rw[c]at this;simp[bH,iT,reachBytes]at this;rw[F];have h:len*bytes<=(len+(j-len))*bytes:=fS _ J;omega
 refine bB (VI ?_) (i.sl _ ((List.range _).map λE=>D _));have h:=Yl (p:=m) (g:=λA=>B _) (l:=H) (o:=0) λA b c=>by
  rw[bR];exact(K A b c).2
 rw[F]at h;simpa[Function.comp_def]using h
def Jn(B:DataW H->Nat)(e:TypeId×ay->H)(P:Program)(W:aw)(base:Nat)(spare:Nat->M)(held:M)(T off:Nat)(b:L Field)(r:Rp α)(m:α->Nat):Prop:=
 ∀n (c:L ay) (s:L _),qj c=T->qj s=(qj b)->
  (∀(i:Nat) f,b[i]? =aN f->DataW.trod e P W base spare held n f.type ((c.drop f.offset).take (P.cellsOf f.type))=s[i]?)->
  (∀(i:Nat) f x,b[i]? =aN f->s[i]? =aN x->∀k,k∈x.1.weights P f.type->k<=reachBytes)->∃a,r W (λ_=>True) a (c.drop off)/\m a<=(s.map λx=>B x.1).sum
def xX{T off}(h:T=off):Jn B enc P W base spare held T off [] Yj λ_=>0:=λn c x l _ _ _=>⟨(),by
 exact Db J,bf _⟩
def eM{T off s}{f}{fs}{r:Rp α}{q:Rp β}{m}{m'}(o:f.offset=off)(i:P.cellsOf f.type=s)(g:kY B enc P W base spare held f.type r m)(e:Jn B enc P W base spare held T (off+s) fs q m'):
  Jn B enc P W base spare held T off (f::fs) (qT r q) λx=>m x.1+m' x.2:=λn d c l hx h w=>by
 cases c with
 | nil=>simp at hx
 | cons x c=>
  have p:=h 0 f I;rw[o,i]at p;obtain⟨a,q,K⟩:=g n _ x p (w 0 f x I I);obtain⟨b,s,u⟩:=e n d c l Xi (λm j k=>h (m+1) j k) (λm j y k t=>w (m+1) j y k t);exact⟨(a,b),⟨_,_,by rw[<-jI,dM],q,s⟩,oL K u⟩
def lJ(d:IsBulk B){t}{fs}{T}{r:Rp α}{m}(h:P.underlying t=aN (.struct fs))(l:P.cellsOf t=T)(F:Jn B enc P W base spare held T 0 fs.toList r m):kY B enc P W base spare held t r λx=>m x+1:=λfL c x b w=>by
 obtain⟨s,n,rfl,rfl,o,H,g⟩:=DataW.trod_struct h b;obtain⟨a,e,K⟩:=F n c s J (by simpa using H) (λi f hi=>g i f XS) (λi f x hi hx k hk=>w k (by
  simp[DataW.weights,h];refine DataW.weights_mem_each (j:=i) ?_ ui k hk;simp only[Array.toList_map,cw,hi];rfl))
 refine⟨a,by simpa using e,bB (VI K) ?_⟩;have:=d.agg (s.map (·.1));rwa[iv]at this
def kY.map{t}{r}{q}{m}{m'}(h:kY B enc P W base spare held t r m)(f:α->β)(g:∀a c,r W (λ_=>True) a c->q W (λ_=>True) (f a) c/\m' (f a)<=m a):kY B enc P W base spare held t q m':=λfL c x i w=>by
 obtain⟨a,e,K⟩:=h fL c x i w;obtain⟨b,d⟩:=g a c e;exact⟨f a,b,bB d K⟩
def argB_slice{t e}{r}{m}{size bytes}{b0}{v}{d}{p}(j:P.underlying t=aN (.slice e))(M:Value.okWide P W .any b0 t v)(c:DataW.Trod enc P W base spare held t v d p)
  (z:kY B enc P W base spare held t (UT r size bytes) m) (w:∀n,n∈d.weights P t->n<=reachBytes):∃(s:Sl) (x:L α),v=s.v/\SliceF r size W (λ_=>True) s x/\m x<=B d:=by
 obtain⟨b,a,y,rfl⟩:=okWide_slice j M;obtain⟨fL,i⟩:=c;obtain⟨x,⟨s,h,f,k⟩,g⟩:=z fL _ _ i w;have h:[Value.slice b a y]=[s.v]:=h;simp only[DV,and_true]at h;exact⟨s,x,h,f,g⟩
def argB_struct{t}{fs}{r}{m}{b0}{v}{d}{p}(e:P.underlying t=aN (.struct fs))(j:Value.okWide P W .any b0 t v)(h:DataW.Trod enc P W base spare held t v d p)
  (z:kY B enc P W base spare held t r m) (w:∀n,n∈d.weights P t->n<=reachBytes):∃(a:α) (c:L ay),v=.agg c.toArray/\r W (λ_=>True) a c/\m a<=B d:=by
 obtain⟨c,rfl,_⟩:=okWide_struct e j;obtain⟨fL,f⟩:=h;obtain⟨a,b,K⟩:=z fL _ _ f w;exact⟨a,c.toList,X,b,K⟩
def sum_one:∀l:L α,(l.map λ_=>1).sum=qj l
 | []=>rfl
 | _::l=>by rw[cf,dl,sum_one l,aZ];omega
end
end Go.Kt
namespace Go.Proofs.YtdfibecibkijiaaGreatDoor.Con
open Go Go.RowKit Go.Kt Go.Kt.V Go.Proofs.YtdfibecibkijiaaGreatDoor.Vc Go.ChangeShapes Go.WideShapes
def Pm{D E:Type}{B}{sz:E->Nat}{Q:Nat->E->Prop}:∀(s:L D) o,(∀j y,s[j]? =aN y->∃e,Q (o+j) e/\sz e<=B y)->
  ∃l:L E,qj l=qj s/\(∀j e,l[j]? =aN e->Q (o+j) e)/\(l.map sz).sum<=(s.map B).sum
 | [],o,_=>⟨[],I,λj p h=>Ux,H _⟩
 | x::s,o,h=>by
  obtain⟨e,b,c⟩:=h 0 x I;obtain⟨l,d,f,g⟩:=Pm (B:=B) (sz:=sz) (Q:=Q) s _ λj y a=>by
   have:=h (j+1) y a;rwa[dA,kw 1 j]
  refine⟨e::l,by rw[aZ,aZ,d],λj p a=>?_,?_⟩
  .cases j with
   | zero=>
    simp at a;subst a;exact b
   | succ j=>
    have:=f j p a;rwa[dA,kw 1 j]at this
  exact oL c g
def Fk{n}:∀{l:L Nat},n∈l->n<=l.sum
 | [],h=>Ux
 | x::l,h=>by
  rw[dl];rcases bh.1 h with rfl | h
  .omega
  have:=Fk h;omega
def Pn{E:Type}(f:E->Nat):∀(l:L E),∃m,∀p,p∈l->f p<=m
 | []=>⟨0,λp h=>Ux⟩
 | x::l=>by
  obtain⟨m,h⟩:=Pn f l;refine⟨max (f x) m,λp a=>?_⟩;rcases bh.1 a with rfl | a
  .exact DW _ _
  exact bB (h p a) (Ck _ _)
def Sk{α β}{r:Rp α}{q:Rp β}{size}{w}{F}{s}{xs} f (h:aB r size w F s xs) (l:∀x c,x∈xs->r w F x c->q w F (f x) c):aB q size w F s (xs.map f):=by
 refine⟨by rw[bH];exact h.len,h.cap,h.nil0,h.big,λm y j=>?_⟩;rw[cw,fm]at j;obtain⟨x,a,rfl⟩:=j;obtain⟨b,c,g,d,e,i,k⟩:=h.at_ m x a;exact⟨b,c,g,d,e,i,l x c (bp a) k⟩
def Ho{α}{r}{size}{w}{F}{s}{xs}(h:aB r size w F s xs){x:α}(a:x∈xs):∃c,r w F x c:=h.mem a
def rXU:Rp (Ex×Nat):=λw F x c=>rE aM w F x.1 c/\Um x.1/\F2 x.1<=x.2
def LD:Rp (Ac×Nat):=λw F x c=>uW aM w F x.1 c/\Hc x.1/\Kx x.1<=x.2
def KX:Rp (Mv×Nat):=λw F x c=>L9 aM w F x.1 c/\V7 x.1/\Hj x.1+2<=x.2
def awl:Rp (Vr×Nat):=λw F x c=>Ry w F x.1 c/\qO x.1.v/\qj x.1.n+1<=x.2
def Sm:∀l,Ul l=(l.map F2).sum
 | []=>rfl
 | x::l=>by rw[Ul,cf,dl,Sm l]
def Mem:∀l,lg l=(l.map Kx).sum
 | []=>rfl
 | x::l=>by rw[lg,cf,dl,Mem l]
def MF:∀l,zj l=(l.map Hj).sum
 | []=>rfl
 | x::l=>by rw[zj,cf,dl,MF l]
def MG:∀l,oq l=(l.map λv=>qj v.n+1).sum
 | []=>rfl
 | x::l=>by rw[oq,cf,dl,MG l]
def nNb:∀l,j5 l=(l.map mL).sum
 | []=>rfl
 | x::l=>by rw[j5,cf,dl,nNb l]
def DC{a:Type}{f}:∀{l:L (a×Nat)},(∀x,x∈l->f x.1<=x.2)->((l.map (·.1)).map f).sum<=(l.map λx=>x.2).sum
 | [],_=>H _
 | x::l,h=>by
  exact oL (h x X) (DC λy hy=>h y Bh)
def Xl(s:D):qj s.data.toList=s.size:=rfl
section
variable {H:Type} {enc:TypeId×ay->H} {W:aw} {base:Nat} {spare:Nat->M} {held:M} {B:DataW H->Nat}
def Ym(e:TypeId×ay->H)(W:aw)(base:Nat)(spare:Nat->M)(held:M)(t:TypeId):Rp (DataW H):=λ_ _ x c=>∃fL p,DataW.trod e aq W base spare held fL t c=aN (x,p)/\∀n,n∈x.weights aq t->n<=reachBytes
def MJ(a:IsBulk B) t:kY B enc aq W base spare held t (Ym enc W base spare held t) B:=λfL c x h w=>⟨x.1,⟨fL,x.2,h,w⟩,aY _⟩
def abo(h:IsBulk B):kY B enc aq W base spare held 79 (qT rInt (qT rInt (qT Yk (qT rInt (qT (UT (Ym enc W base spare held 79) 6 72) (qT rInt Yj))))))
  λx=>(1+(1+((x.2.2.1.size+1)+(1+(((x.2.2.2.2.1.map B).sum+1)+(1+0))))))+1:=by
 have a:=lJ (enc:=enc) (P:=aq) (W:=W) (base:=base) (spare:=spare) (held:=held) (T:=6) h Tryz.underlying79 E
  (eM (s:=1) I E (opensB_of h (opens_int Tryz.underlying3)) (eM (s:=1) I E (opensB_of h (opens_int Tryz.underlying3)) (eM (s:=1) I E (mz h Tryz.underlying9) (eM (s:=1) I E (opensB_of h (opens_int Tryz.underlying3)) (eM (s:=1) I E (opensB_slice (size:=6) (bytes:=72) h Tryz.underlying77 E E (MJ h _)) (eM (s:=1) I E (opensB_of h (opens_int Tryz.underlying3)) (xX I)))))))
 exact a
def Yn(b:IsBulk B):∀N {x:DataW H} {c:aJ} {F:A},B x<=N->Ym enc W base spare held 79 W F x c->∃(e:Ex) (d:Nat),O4 aM d W (λ_=>True) e c/\Um e/\F2 e<=B x
 | 0,x,c,F,h,_=>by have:=b.one x;omega
 | N+1,x,c,F,h,⟨fL,p,C,D⟩=>by
  obtain⟨⟨k,n,s,op,i,a,am⟩,z,w⟩:=abo (enc:=enc) (W:=W) (base:=base) (spare:=spare) (held:=held) b fL c _ C D;obtain⟨L,Z,rfl,⟨rfl,E⟩,M,r2,rfl,⟨rfl,o⟩,P,r3,rfl,⟨rfl,G⟩,R,r4,rfl,⟨rfl,V⟩,S,r5,rfl,⟨sl,rfl,t,_⟩,T,K,rfl,⟨rfl,X⟩,u⟩:=z;have u:K=[]:=u;subst u;dsimp only at w t E o G;have v:∀y,y∈i->B y<=(i.map B).sum:=λy g=>Fk (List.mem_map_of_mem g);obtain⟨l,H,r,Y⟩:=Pm (B:=B) (sz:=λe:Ex×Nat=>F2 e.1) (Q:=λf e=>∃base c,sl.a=aN base/\qj c=6/\aD W (base.add _) c/\O4 aM e.2 W _ e.1 c/\Um e.1) i 0 λf y j=>by
   rw[bR];obtain⟨s,a,h,Q,k,n,p⟩:=t.at_ f y j;obtain⟨e,d,q,B,F⟩:=Yn b N (x:=y) (by have:=v y (bp j);omega) p;exact⟨(e,d),⟨s,a,h,k,n,q,B⟩,F⟩
  obtain⟨J,m⟩:=Pn (λe:Ex×Nat=>e.2) l;refine⟨.mk k n s.data.toList op (l.map (·.1)) a,J+1,⟨sl,?_,?_,λh=>Ue⟩,λd=>?_,?_⟩
  .have e:oM k n s.data.toList op sl a=[O U k,O U n,ab s,O U op,sl.v,O U a]:=by
    show[_,_,Value.string _,_,_,_]=_;rw[<-K4 s]
   exact e.symm
  .refine⟨by rw[Ex.dK,bH,H];exact t.len,t.cap,t.nil0,t.big,λf e j=>?_⟩;rw[Ex.dK,cw,fm]at j;obtain⟨q,d,rfl⟩:=j;obtain⟨s,h,k,n,a,p,x⟩:=r f q d;rw[bR]at a;exact⟨s,h,k,trivial,n,a,O5 (m q (bp d)) p⟩
  .cases d with
   | zero=>trivial
   | succ d=>
    refine⟨o,λy g=>?_⟩;obtain⟨q,e,rfl⟩:=eo.1 g;obtain⟨f,j⟩:=gI e;obtain⟨s,h,k,n,p,x,a⟩:=r f q j;exact a d
  show Ul _+_<=_;rw[Sm,iv,Xl];have e:(l.map (F2∘λx=>x.1)).sum=(l.map λe:Ex×Nat=>F2 e.1).sum:=I;omega
def ahk(f:IsBulk B):kY B enc aq W base spare held 79 rXU λx=>x.2:=λfL s x h w=>by
 obtain⟨e,d,a,b,c⟩:=Yn f _ (x:=x.1) (F:=λ_=>True) (aY _) ⟨fL,x.2,h,w⟩;exact⟨(e,B x.1),⟨⟨d,a⟩,b,c⟩,aY _⟩
def BG(h:IsBulk B):kY B enc aq W base spare held 227 LD λx=>x.2:=by
 have b:=lJ (enc:=enc) (P:=aq) (W:=W) (base:=base) (spare:=spare) (held:=held) (T:=9) h Tryz.underlying227 E
  (eM (s:=1) I E (opensB_of h (opens_int Tryz.underlying3)) (eM (s:=1) I E (mz h Tryz.underlying9) (eM (s:=6) I E (ahk h) (eM (s:=1) I E (opensB_of h (opens_int Tryz.underlying3)) (xX I)))))
 refine b.map (λx=>((⟨x.1,x.2.1.data.toList,x.2.2.1.1,x.2.2.2.1⟩),x.2.2.1.2+(x.2.1.size+1))) ?_;rintro⟨k,n,⟨e,q⟩,a,y⟩ l ⟨g,r,rfl,⟨rfl,m⟩,i,t,rfl,⟨rfl,o⟩,c,v,rfl,⟨d,f,z⟩,j,w,rfl,⟨rfl,p⟩,u⟩;subst u;refine⟨⟨⟨c,?_,d⟩,f,?_⟩,KQ⟩
 .show _=_::Value.string _::_;simp
 show F2 e+_<=_;rw[Xl];dsimp only at z⊢;omega
def Po{w}{F}{s}{xs}(h:aB LD 9 w F s xs):ly aM (uW aM) 9 227 w F s (xs.map (·.1))/\(∀a,a∈xs.map (·.1)->Hc a)/\lg (xs.map (·.1))<=(xs.map λx=>x.2).sum:=by
 refine⟨⟨Sk _ h λx c _ b=>b.1,λh=>Ue⟩,λa d=>?_,?_⟩
 .obtain⟨x,b,rfl⟩:=eo.1 d;obtain⟨c,a⟩:=Ho h b;exact a.2.1
 rw[Mem];exact DC λx b=>by
  obtain⟨c,a⟩:=Ho h b;exact a.2.2
def ajj(b:IsBulk B):kY B enc aq W base spare held 82 KX λx=>x.2:=by
 have h:=lJ (enc:=enc) (P:=aq) (W:=W) (base:=base) (spare:=spare) (held:=held) (T:=13) b Tryz.underlying82 E
  (eM (s:=1) I E (opensB_of b (opens_int Tryz.underlying3)) (eM (s:=1) I E (mz b Tryz.underlying9) (eM (s:=1) I E (opensB_of b (opens_int Tryz.underlying3)) (eM (s:=1) I E (opensB_of b (opens_bool Tryz.underlying4)) (eM (s:=6) I E (ahk b)
  (eM (s:=1) I E (opensB_slice (size:=9) (bytes:=104) b Tryz.underlying23 E E (BG b)) (eM (s:=1) I E (opensB_slice (size:=1) (bytes:=16) b Tryz.underlying80 E E (mz b Tryz.underlying9)) (eM (s:=1) I E (opensB_of b (opens_int Tryz.underlying3)) (xX I)))))))))
 refine h.map (λx=>((⟨x.1,x.2.1.data.toList,x.2.2.1,x.2.2.2.1,x.2.2.2.2.1.1,x.2.2.2.2.2.1.map (·.1),x.2.2.2.2.2.2.1.map λs=>s.data.toList,x.2.2.2.2.2.2.2.1⟩),(((x.2.2.2.2.2.1.map λx=>x.2).sum+x.2.2.2.2.1.2)+((x.2.2.2.2.2.2.1.map λs=>s.size+1).sum+(x.2.1.size+1)))+2)) ?_;rintro⟨k,ev,wt,K,⟨H,O⟩,q,g,a,am⟩ j ⟨r,Q,rfl,⟨rfl,L⟩,v,R,rfl,⟨rfl,M⟩,w,S,rfl,⟨rfl,p⟩,A,V,rfl,l,i,X,rfl,⟨m,n,z⟩,D,Y,rfl,⟨U,rfl,C,_⟩,F,Z,rfl,⟨t,rfl,J,_⟩,G,r8,rfl,⟨rfl,N⟩,u⟩;subst u l;obtain⟨c,d,f⟩:=Po C;have y:aB nU 1 W _ t _:=Sk _ J λx j _ o=>by
  obtain⟨rfl,_⟩:=o;show _=[Value.string _]
  rw[<-K4 x]
 refine⟨⟨⟨i,U,t,?_,m,c,⟨y,λh=>Ue⟩⟩,⟨n,d,p⟩,?_⟩,KQ⟩
 .show _=_::Value.string _::_;simp
 show _+_+2<=_;have e:Mp (g.map λs=>s.data.toList)=(g.map λs=>s.size+1).sum:=by
  unfold Mp;rw[iv];congr 1
 rw[e,Xl];dsimp only at z f⊢;omega
def aiz{w}{F}{s}{xs}(h:aB KX 13 w F s xs):ly aM (L9 aM) 13 82 w F s (xs.map (·.1))/\(∀a,a∈xs.map (·.1)->V7 a)/\zj (xs.map (·.1))<=(xs.map λx=>x.2).sum:=by
 refine⟨⟨Sk _ h λx c _ b=>b.1,λh=>Ue⟩,λa d=>?_,?_⟩
 .obtain⟨x,b,rfl⟩:=eo.1 d;obtain⟨c,a⟩:=Ho h b;exact a.2.1
 rw[MF];exact DC λx b=>by
  obtain⟨c,a⟩:=Ho h b;exact bB (Nat.le_add_right _ 2) a.2.2
def acs(h:IsBulk B):kY B enc aq W base spare held 130 awl λx=>x.2:=by
 have b:=lJ (enc:=enc) (P:=aq) (W:=W) (base:=base) (spare:=spare) (held:=held) (T:=3) h Tryz.underlying130 E
  (eM (s:=1) I E (mz h Tryz.underlying9) (eM (s:=1) I E (opensB_of h (opens_int Tryz.underlying3)) (eM (s:=1) I E (opensB_of h (opens_int Tryz.underlying3)) (xX I))))
 refine b.map (λx=>((⟨x.1.data.toList,x.2.1,x.2.2.1⟩),x.1.size+1)) ?_;rintro⟨n,v,a,m⟩ f ⟨c,r,rfl,⟨rfl,g⟩,d,k,rfl,⟨rfl,i⟩,e,l,rfl,⟨rfl,j⟩,u⟩;subst u;refine⟨⟨?_,i,?_⟩,KQ⟩
 .rfl
 exact aY _
def abE(h:IsBulk B):kY B enc aq W base spare held 27 (qT rInt (qT Yk (qT Yk (qT Yk (qT (UT LD 9 104) (qT (UT LD 9 104) (qT (UT KX 13 168) (qT (UT (Ym enc W base spare held 27) 9 160) (qT rInt Yj)))))))))
  λx=>(1+((x.2.1.size+1)+((x.2.2.1.size+1)+((x.2.2.2.1.size+1)+(((x.2.2.2.2.1.map λx=>x.2).sum+1)+(((x.2.2.2.2.2.1.map λx=>x.2).sum+1)+(((x.2.2.2.2.2.2.1.map λx=>x.2).sum+1)+(((x.2.2.2.2.2.2.2.1.map B).sum+1)+(1+0)))))))))+1:=by
 have a:=lJ (enc:=enc) (P:=aq) (W:=W) (base:=base) (spare:=spare) (held:=held) (T:=9) h Tryz.underlying27 E
  (eM (s:=1) I E (opensB_of h (opens_int Tryz.underlying3)) (eM (s:=1) I E (mz h Tryz.underlying9) (eM (s:=1) I E (mz h Tryz.underlying9) (eM (s:=1) I E (mz h Tryz.underlying9)
  (eM (s:=1) I E (opensB_slice (size:=9) (bytes:=104) h Tryz.underlying23 E E (BG h)) (eM (s:=1) I E (opensB_slice (size:=9) (bytes:=104) h Tryz.underlying23 E E (BG h))
  (eM (s:=1) I E (opensB_slice (size:=13) (bytes:=168) h Tryz.underlying24 E E (ajj h)) (eM (s:=1) I E (opensB_slice (size:=9) (bytes:=160) h Tryz.underlying25 E E (MJ h _)) (eM (s:=1) I E (opensB_of h (opens_int Tryz.underlying3)) (xX I))))))))))
 exact a
def Sn:∀{l:L Nd},(∀x,x∈l->Dv x)->Ao l
 | [],_=>by rw[Ao];trivial
 | x::l,h=>by
  exact⟨h x X,Sn λy hy=>h y Bh⟩
def Yo(b:IsBulk B):∀(N:Nat) {x:DataW H} {c:aJ} {F:A},B x<=N->Ym enc W base spare held 27 W F x c->∃(e:Nd) (d:Nat),nX aM d W (λ_=>True) e c/\Dv e/\mL e<=B x
 | 0,x,c,F,h,_=>by have:=b.one x;omega
 | N+1,x,c,F,h,⟨fL,p,S,V⟩=>by
  obtain⟨⟨k,o,i,dft,M,Y,mv,s,a,am⟩,R,P⟩:=abE (enc:=enc) (W:=W) (base:=base) (spare:=spare) (held:=held) b fL c _ S V;obtain⟨c1,r1,rfl,⟨rfl,i1⟩,c2,r2,rfl,⟨rfl,i2⟩,c3,r3,rfl,⟨rfl,i3⟩,c4,r4,rfl,⟨rfl,i4⟩,c5,r5,rfl,⟨n,rfl,G,_⟩,c6,r6,rfl,⟨Hm,rfl,C,_⟩,c7,r7,rfl,⟨v,rfl,w,_⟩,c8,r8,rfl,⟨sl,rfl,t,_⟩,c9,r9,rfl,⟨rfl,i9⟩,u⟩:=R;have u:r9=[]:=u;subst u;dsimp only at P t G C w;have z:∀y,y∈s->B y<=(s.map B).sum:=λy g=>Fk (List.mem_map_of_mem g);obtain⟨l,X,r,l3⟩:=Pm (B:=B) (sz:=λe:Nd×Nat=>mL e.1) (Q:=λf e=>∃base c,sl.a=aN base/\qj c=9/\aD W (base.add _) c/\nX aM e.2 W _ e.1 c/\Dv e.1) s 0 λf y j=>by
   rw[bR];obtain⟨a,h,k,W,p,q,B⟩:=t.at_ f y j;obtain⟨e,d,F,Q,T⟩:=Yo b N (x:=y) (by have:=z y (bp j);omega) B;exact⟨(e,d),⟨a,h,k,p,q,F,Q⟩,T⟩
  obtain⟨Z,m⟩:=Pn (λe:Nd×Nat=>e.2) l;obtain⟨D,E,a3⟩:=Po G;obtain⟨H,J,b3⟩:=Po C;obtain⟨K,L,d3⟩:=aiz w;refine⟨.mk ⟨k,o.data.toList,i.data.toList,dft.data.toList,M.map _,Y.map _,mv.map _,a⟩ (l.map (·.1)),Z+1,⟨n,Hm,v,sl,?_,⟨D,H,K⟩,?_,λh=>Ue⟩,?_,?_⟩
  .show _=[_,Value.string (T o.data.toList),Value.string (T i.data.toList),Value.string (T dft.data.toList),_,_,_,_,_]
   rw[<-K4 o,<-K4 i,<-K4 dft];rfl
  .refine⟨by rw[Nd.kids,bH,X];exact t.len,t.cap,t.nil0,t.big,λf e j=>?_⟩;rw[Nd.kids,cw,fm]at j;obtain⟨q,d,rfl⟩:=j;obtain⟨h,k,p,x,a,y,B⟩:=r f q d;rw[bR]at a;exact⟨h,k,p,trivial,x,a,ah5 (m q (bp d)) y⟩
  .rw[Dv];refine⟨⟨E,J,L⟩,Sn λy g=>?_⟩;obtain⟨q,d,rfl⟩:=eo.1 g;obtain⟨f,j⟩:=gI d;obtain⟨e,h,k,p,x,B,a⟩:=r f q j;exact a
  rw[mL,nNb,iv];unfold zl;dsimp only;rw[Xl,Xl,Xl];have e:(l.map (mL∘λx=>x.1)).sum=(l.map λe:Nd×Nat=>mL e.1).sum:=I;omega
def awm:Rp (Nd×Nat):=λw F x c=>∃d,nX aM d w F x.1 c/\Dv x.1/\mL x.1<=x.2
def abA(f:IsBulk B):kY B enc aq W base spare held 27 awm λx=>x.2:=λfL s x h w=>by
 obtain⟨e,d,a,b,c⟩:=Yo f _ (x:=x.1) (F:=λ_=>True) (aY _) ⟨fL,x.2,h,w⟩;exact⟨(e,B x.1),⟨d,a,b,c⟩,aY _⟩
def rChU:Rp (Ch×Nat):=λw F x c=>∃(a:Nat) (v:Sl) (D:aJ),c=v.v::D/\ChR aM a w F x.1 v D/\HX x.1/\oq x.1.vars+mL x.1.root<=x.2
def opensB_ch(b:IsBulk B):kY B enc aq W base spare held 29 rChU λx=>x.2:=by
 have h:=lJ (enc:=enc) (P:=aq) (W:=W) (base:=base) (spare:=spare) (held:=held) (T:=10) b Tryz.underlying29 E
  (eM (s:=1) I E (opensB_slice (size:=3) (bytes:=32) b Tryz.underlying22 E E (acs b)) (eM (s:=9) I E (abA b) (xX I)))
 refine h.map (λx=>((⟨x.1.map (·.1),x.2.1.1⟩),(x.1.map λx=>x.2).sum+x.2.1.2)) ?_;rintro⟨m,⟨nd,p⟩,t⟩ e ⟨o,r,rfl,⟨g,rfl,c,_⟩,i,q,rfl,⟨d,n,j,z⟩,u⟩;subst u;rw[bC];refine⟨⟨d,g,i,I,⟨⟨Sk _ c λx e _ a=>a.1,λh=>Ue⟩,n⟩,⟨λv k=>?_,j⟩,?_⟩,KQ⟩
 .obtain⟨x,a,rfl⟩:=eo.1 k;obtain⟨e,h⟩:=Ho c a;exact h.2.1
 rw[MG];have:=DC (f:=λv:Vr=>qj v.n+1) (l:=m) λx a=>by
  obtain⟨e,h⟩:=Ho c a;exact h.2.2
 dsimp only at z⊢;omega
end
def adt:∀{p:L _} {l:L _},wj l p=[]->(p.map λx=>x.1).Nodup/\∀x,x∈p.map (λx=>x.1)->x∉l
 | [],l,_=>⟨List.nodup_nil,λx h=>Ux⟩
 | x::p,l,h=>by
  obtain⟨c,d⟩:=dU.1 h;obtain⟨b,g⟩:=adt d;refine⟨List.nodup_cons.2 ⟨λm=>g _ m X,b⟩,λy a=>?_⟩;rcases bh.1 a with rfl | a
  .exact by simpa using Aq.1 c
  exact λm=>g y a (GP _ m)
def Jo{xs}:∀{r:L _} {l:L Int},Kv xs l r=aF->∀t,t∈r->1<=gj xs t
 | [],_,_,t,h=>Ux
 | s::r,l,h,t,a=>by
  rw[Fh]at h;by_cases b:gj xs s<1
  .rw[K b]at h;cases h
  rw[R b]at h;split at h
  .cases h
  rcases bh.1 a with rfl | a
  .omega
  exact Jo h t a
def CW(s b:L dC)(a:Nat):Prop:=∀i x,b[i]? =aN x->s[a+i]? =aN x
def CW.left{xs L M}{a}(b:CW xs (L++M) a):CW xs L a:=λi x h=>b i x (by rw[bZ (gp h)];exact h)
def CW.right{xs L M}{a}(h:CW xs (L++M) a):CW xs M (a+qj L):=λb x i=>by
 rw[dA];exact h _ x (by rw[ck J,dH];exact i)
def vJ{c}(h:(kU c).1=0):(iO c).2=0/\Aw c=[]:=by
 unfold kU at h;by_cases p:(iO c).2≠0
 .rw[K p]at h;exact absurd h p
 rw[R p]at h;exact⟨ob.1 p,EX (E2 c) h⟩
def tab{c}(h:(iO c).2=0):pz c=aF:=by
 unfold iO at h;by_cases a:pz c=aF
 .exact a
 rw[R a]at h;exact absurd h Z
section
variable {w w':aw} {F G:A} {s:Sl} {xs:L dC}
def adA{k0} x n (B:aG w k0 9 [ab (T n)]):aA aq 178 #[ah (TV x).toArray,ae (aN ⟨k0,0,Pw⟩)] w λe w'=>e=ak (aj (YR (x.nm=n)))/\az [] w w':=by
 refine ret (avn ?_);intro k a hk G h;exact⟨_,(h.blk B X).cells 0 [_] λj v hj=>Ol,by rw[ji],h⟩
def zn{n}{j}{x}(h:xs[j]? =aN x)(a:∀y,y∈xs.take j->y.nm≠n)(e:x.nm=n):gj xs n=j:=by
 unfold gj;have l:=gp h;have:zJ n (xs.map λx:dC=>x.nm)=j:=by
  have b:xs.map (λx:dC=>x.nm)=(xs.take j).map (λx:dC=>x.nm)++n::(xs.drop (j+1)).map λx:dC=>x.nm:=by
   rw[<-e,<-cf,<-cA];rw[<-(bc.1 h).2,Dc,dM]
  rw[b,Je]
  .rw[bH,ci];omega
  intro m;obtain⟨y,c,e⟩:=eo.1 m;exact a y c e
 rw[this,K l]
def aiA(a:aB oV 5 w F s xs) n:aA aq 130 #[s.v,ab (T n)] w λe w'=>e=ak (O U (gj xs n))/\az [] w w':=by
 refine ret (ave ?_);intro q d N S f l;have p:=a.len;have m:=a.cap;have D:=a.big;refine(anX s ⟨.func _ #[] #[ae _],I⟩ (λv w'=>v=O U (gj xs n)/\az [] d w') d ?_).mono (by
  rintro _ w' ⟨v,rfl,rfl,h⟩;exact⟨_,I,_,h.blk l X,I,f.bU h⟩)
 refine⟨λk i g=>∃j:Nat,i=j/\k+j=qj xs/\j<=qj xs/\(∀y,y∈xs.take j->y.nm≠n)/\az [] d g,qj xs,⟨0,I,J,bf _,X,Ib _ _⟩,?_⟩;rintro k _ g ⟨j,rfl,Q,o,b,h⟩;refine⟨λc=>?_,λc=>?_⟩
 .have c:=u c;obtain⟨x,s⟩:=fE (xs:=xs) (i:=j) J;obtain⟨ad,v,w,_⟩:=iP (Wg dj Z a (f.bU h) X) s;refine⟨ad,v,_,_,_,_,_,w,178,[],[ae _],I,gN E,(adA x n (h.blk l X)).mono ?_⟩;rintro _ z ⟨rfl,t⟩;refine⟨_,I,λr=>⟨?_,h.bU t⟩,λr=>⟨k-1,J,j+1,Ye,J,J,λy e=>?_,h.bU t⟩⟩
  .rw[zn s b (u r)]
  rw[bn,s,bQ]at e;rcases e with e | e
  .exact b y e
  simp at e;subst e;exact aU r
 have c:=aU c;rw[bm J]at b;refine⟨?_,h⟩;rcases jt xs n with⟨e,_⟩ | ⟨i,x,_,r,e⟩
 .rw[e]
 exact absurd e (b x (bp r))
end
end Go.Proofs.YtdfibecibkijiaaGreatDoor.Con
namespace Go.Proofs.YtdfibecibkijiaaGreatDoor.Con
open Go Go.RowKit Go.Kt Go.Kt.V Go.Proofs.YtdfibecibkijiaaGreatDoor.Vc
def Fl{s}(h:dD s=aF):s≠[]:=λe=>by subst e;exact absurd h Z
mutual
def BH:Nd->L Nd
 | .mk b l=>.mk b l::zK l
def zK:L Nd->L Nd
 | []=>[]
 | x::l=>BH x++zK l
end
mutual
def AP:∀x,qj (BH x)=iQ x
 | .mk b l=>by rw[BH,iQ,aZ,Jp]
def Jp:∀l,qj (zK l)=dJ l
 | []=>by rw[zK,dJ];rfl
 | x::l=>by rw[zK,dJ,aP,AP,Jp]
end
mutual
def Sp:∀x,(BH x).map (λy=>y.b)=Kw x
 | .mk b l=>by rw[BH,Kw,cf,af1];rfl
def af1:∀l,(zK l).map (λy=>y.b)=E3 l
 | []=>by rw[zK,E3];rfl
 | x::l=>by rw[zK,E3,cA,Sp,af1]
end
def QX(s:L dC)(v:L (C))(a:Nat)(x:Nd):Prop:=∃b p,CW s (I9 a b p x) a/\wa s x.b x.kids a=[]/\(∀m,m∈x.b.mv->Dx s v m=[])/\qE x.b (qj x.kids)=aF/\∀y,y∈x.kids->∃d,kc d y=aF
section
variable {xs:L dC} {vs:L (C)}
def Hr:∀{l:L Nd} {d:Nat} {y:Nd},iX d l=aF->y∈l->kc d y=aF
 | [],_,_,_,h=>Ue
 | x::l,d,y,h,a=>by
  rw[iX,B]at h;rcases bh.1 a with rfl | a
  .exact h.1
  exact Hr h.2 a
mutual
def Sq:∀(x:Nd) (a d:Nat) (c p:Int),N3 xs vs a x=[]->kc d x=aF->CW xs (I9 a c p x) a->∀i y,(BH x)[i]? =aN y->QX xs vs (a+i) y
 | .mk b l,a,d,c,p,f,j,s,i,y,h=>by
  rw[N3]at f;obtain⟨m,g⟩:=dU.1 f;obtain⟨g,e⟩:=dU.1 g;obtain⟨e,n⟩:=dU.1 e;rw[kc,B,B]at j;obtain⟨⟨_,o⟩,k⟩:=j;rw[BH]at h;cases i with
  | zero=>
   rw[cQ,bP]at h;subst h;exact⟨c,p,s,m,λb a=>List.flatMap_eq_nil_iff.1 e b a,o,λy h=>⟨d+1,Hr k h⟩⟩
  | succ i=>
   rw[dI]at h;rw[I9]at s;have z:CW xs (uA (a+1) a (p+1) l) (a+1):=λi x b=>by rw[dA,kw 1 i];exact s (i+1) x b
   have:=ab2 l (a+1) (d+1) a (p+1) n k z i y h;rwa[dA,kw 1 i]at this
def ab2:∀(l:L Nd) (a d:Nat) (b p:Int),qo xs vs a l=[]->iX d l=aF->CW xs (uA a b p l) a->∀i y,(zK l)[i]? =aN y->QX xs vs (a+i) y
 | [],_,_,_,_,_,_,_,i,y,h=>by rw[zK]at h;simp at h
 | x::l,a,d,b,p,c,j,s,i,y,h=>by
  rw[qo]at c;obtain⟨e,f⟩:=dU.1 c;rw[iX,B]at j;rw[uA]at s;rw[zK]at h;have F:=AP x;by_cases g:i<iQ x
  .rw[bZ J]at h;exact Sq x a d b p e j.1 s.left i y h
  rw[ck J,F]at h;have r:=s.right;rw[nB]at r;have:=ab2 l (a+iQ x) d b p f j.2 r _ y h;rwa[show a+iQ x+(i-iQ x)=a+i by omega]at this
end
def MM{y}{pa dp}:∀{l:L Nd} a,y∈l->∃(j:Nat) (t:dC),(uA a pa dp l)[j]? =aN t/\t.pa=pa/\t.k=y.b.k
 | [],_,h=>Ue
 | .mk b k::l,a,h=>by
  rw[uA];rw[bh]at h;rcases h with rfl | h
  .exact⟨0,_,I,I,I⟩
  obtain⟨j,t,c,d⟩:=MM _ h;exact⟨qj (I9 a pa dp (.mk b k))+j,t,by rw[ck J,dH];exact c,d⟩
end
structure Snd (c:Ch) (xs:List dC) (vs:List (C)):Prop where
 fo:Fo xs
 le:qj xs<=64
 len:qj xs=iQ c.root
 nd:(xs.map λx:dC=>x.nm).Nodup
 rt:c.root.b.k=1
 nice:∀i y,(BH c.root)[i]? =aN y->QX xs vs i y
def adH{c}(j:pz c=aF)(d:Aw c=[]):Snd c (eI c) (Mh c):=by
 unfold pz at j;simp only[B]at j;obtain⟨a,g⟩:=dU.1 d;obtain⟨g,b⟩:=dU.1 g;have h:=(adt a).1;rw[(Mf 0 (-1) 0 c.root).symm]at h;have hd:=u j.2;have f:qj (eI c)=iQ c.root:=nB 0 _ 0 c.root;refine⟨Dw c,J,f,h,hd.1,λi y k=>?_⟩;have:=Sq c.root 0 0 _ 0 b j.1.2 (λi x e=>by rw[bR];exact e) i y k;rwa[bR]at this
def Ps{c}(h:(kU c).1=0):Snd c (eI c) (Mh c):=adH (tab (vJ h).1) (vJ h).2
section
variable {c:Ch} {xs:L dC} {vs:L (C)} (N:Snd c xs vs)
include N
theorem Snd.at_{i}{t}(h:xs[i]? =aN t):∃b l a p,(BH c.root)[i]? =aN (.mk b l)/\t=⟨b.k,b.nm,a,p,((i+iQ (.mk b l):Nat))⟩/\CW xs (uA (i+1) i (p+1) l) (i+1)/\wa xs b l i=[]/\(∀m,m∈b.mv->Dx xs vs m=[])/\qE b (qj l)=aF/\∀y,y∈l->∃d,kc d y=aF:=by
 have r:i<qj (BH c.root):=by rw[AP,<-N.len];exact gp h
 obtain⟨y,g⟩:∃y,(BH c.root)[i]? =aN y:=⟨_,aX r⟩
 obtain⟨a,p,f,k,n,o,q⟩:=N.nice i y g;obtain⟨b,l⟩:=y;have e:=f 0 _ I;rw[gy,h,bP]at e;refine⟨b,l,a,p,g,?_,λj x s=>?_,k,n,o,q⟩
 .rw[e];congr 1;rw[iQ];omega
 have:=f (j+1) x s;rwa[show i+_=i+1+j by omega]at this
theorem Snd.kn{i:Nat}{t}(c:xs[i]? =aN t):1<=t.k/\t.k<=4:=by
 obtain⟨b,l,p,d,_,rfl,_,_,_,h,_⟩:=N.at_ c;dsimp only;unfold qE at h;by_cases a:gv b.k=aF
 .have:=aO a;omega
 rw[R a]at h;simp only[B]at h;have:=(aO h.2.1.1.1.1).1;omega
theorem Snd.hk(n k:Nat)(d:Kc xs n k):SS xs n:=by
 have h:=N.fo.Ti d;obtain⟨g,i,a⟩:=h;rcases a with a | ⟨m,e,f,u,j,c⟩
 .omega
 have:m=n:=J
 subst this;refine⟨f,u,?_⟩;obtain⟨b,l,k,p,_,rfl,_,_,_,h,_⟩:=N.at_ u;dsimp only at c⊢;unfold qE at h;by_cases e:gv b.k=aF
 .rw[K e]at h;simp only[B]at h;have:=(aO h.2.2).2.2.2.2;have:=rH.1 this;subst this;rw[iQ,dJ]at c;omega
 rw[R e]at h;simp only[B]at h;exact(aO h.2.1.1.1.1).1
theorem Snd.aep{n}{l}{dp}(s:CW xs (uA (n+1) n (dp+1) l) (n+1))(c:0<EZ l):gH xs n≠[]:=by
 obtain⟨y,h⟩:=List.exists_mem_of_length_pos c;obtain⟨h,a⟩:=jb.1 h;obtain⟨j,t,d,e,f⟩:=MM (pa:=n) (dp:=dp+1) _ h;have b:=s j t d;have:=N.kn b;have m:=My.2 ⟨_,t,I,b,e,by
  unfold gv at a;rw[da,db]at a;unfold Hk;rw[cy,dr,dr];omega⟩
 exact List.ne_nil_of_mem m
theorem Snd.sd:Sd xs:=by
 refine⟨N.fo,N.le,λi s h=>N.kn h,?_,λi s a hk=>?_⟩
 .obtain⟨t,e⟩:=fE N.fo.ne;refine⟨t,e,?_⟩;obtain⟨b,l,k,p,d,rfl,_⟩:=N.at_ e;have r:=N.rt;generalize c.root=f at d r;obtain⟨g,j⟩:=f;rw[BH,cQ,bP]at d;injection d with d;subst d;exact r
 obtain⟨b,l,e,p,_,rfl,d,c,_⟩:=N.at_ a;dsimp only at hk;unfold wa at c;rw[R (by unfold gv;rw[hk];decide),K hk]at c;have:=Aq.1 c;rw[B,bF,bF]at this;exact N.aep d J
theorem Snd.dft{n:Nat}{t}{b}(f:xs[n]? =aN t)(g:(Kw c.root)[n]? =aN b)(a:gv t.k=aF):∃q:Nat,n9 xs b.dft=q/\SS xs q/\Sb xs t.pa q:=by
 obtain⟨e,C,D,y,m,s,z,d,_,h,A⟩:=N.at_ f;have p:e=b:=by
  rw[<-Sp,cw,m]at g;injection g
 subst p;have o:t.k=e.k:=by rw[s]
 rw[o]at a;unfold wa at d;rw[K a]at d;have:=Aq.1 d;rw[B,Ax]at this;obtain⟨l,v,w,r,j,E,i⟩:=this;unfold Ku at l;rw[B,bF]at l;unfold qE at h;rw[K a]at h;simp at h;have k:=N.fo.FL i;obtain⟨x,u⟩:=fE k;refine⟨w,?_,⟨x,u,?_⟩,?_⟩
 .unfold n9;rw[R (Fl h.2.1)];exact j
 .have hk:=l.2;rw[j,fJ u]at hk;have:=N.kn u;unfold gv at hk;rw[da,db]at hk;omega
 rw[<-jZ f,r];exact⟨J,k,.inr ⟨v,I,i⟩⟩
end
def Cn(x:L dC)(G:A):Prop:=∀(n:Nat) t c a g b,x[n]? =aN t->t.k=1->Kc x n c->Kc x n a->G g->G b->nL x c g->nL x a b->c=a
abbrev ME:=Int->Option (L Int)
def AQ(x:L dC)(dft:L Int)(M:ME)(t:Int):L Int:=
 if t<0∨(qj x)<=t then[]else if gv (ke x t)then(match M t with
  | some l=>l
  | none=>[(dft[t.toNat]?).getD 0])else[t]
def MN(x:L dC)(M:ME):Prop:=∀(n:Nat) t l,x[n]? =aN t->gv t.k=aF->M n=aN l->l≠[]/\(∀g,g∈l->∃k:Nat,g=k/\SS x k/\Sb x t.pa k)/\Cn x λk=>(k:Int)∈l
def MN.none xs:MN xs λ_=>Pw:=λ_ _ _ _ _ h=>Ue
def nw3{c:Type}{R}:∀{l:L c} {a b:c},l.Pairwise R->a∈l->b∈l->a≠b->R a b∨R b a
 | [],_,_,_,h,_,_=>Ue
 | x::l,a,b,h,e,f,n=>by
  rw[jB]at h;rcases bh.1 e with rfl | d<;>rcases bh.1 f with rfl | z
  .exact absurd I n
  .exact .inl (h.1 b z)
  .exact .inr (h.1 a d)
  exact nw3 h.2 d z n
def sv0{xs}:∀{r:L _} {l:L Int},Kv xs l r=aF->(∀s,s∈r->∀o,o∈l->Hd xs (Cx xs s) o=aF)/\r.Pairwise λs a=>Hd xs (Cx xs a) (Cx xs s)=aF
 | [],l,_=>⟨λ_ h=>Ue,List.Pairwise.nil⟩
 | s::r,l,h=>by
  rw[Kv]at h;by_cases b:gj xs s<1
  .rw[K b]at h;cases h
  rw[R b]at h;by_cases c:(l.any λo=>!Hd xs (Cx xs s) o)=aF
  .rw[K c]at h;cases h
  rw[R c]at h;obtain⟨g,e⟩:=sv0 h;refine⟨λa s o d=>?_,jB.2 ⟨λa s=>g a s _ X,e⟩⟩;rcases bh.1 s with rfl | s
  .cases h:Hd xs _ o
   .exact absurd (gr.2 ⟨o,d,by rw[h];rfl⟩) c
   rfl
  exact g a s o (bQ.2 (.inl d))
section
variable {xs:L dC} (F:Fo xs)
include F
theorem Fo.aeq{a b:Nat}(g:a<qj xs)(i:b<qj xs):∃m:Nat,yQ xs a b=m/\nL xs m a/\nL xs m b/\∀j,nL xs j a->nL xs j b->j<=m:=by
 have y:∀j:Nat,(mc xs j a&&mc xs j b)=aF↔nL xs j a/\nL xs j b:=λj=>by
  rw[B,rY,rY];constructor
  .rintro⟨⟨p,k,s,t,h⟩,⟨q,r,e,n,o⟩⟩;have:p=j:=J
   have:q=j:=J
   have:k=a:=J
   have:r=b:=J
   subst_vars;exact⟨h,o⟩
  rintro⟨h,e⟩;exact⟨⟨j,a,I,I,h⟩,⟨j,b,I,I,e⟩⟩
 rcases uC (xs:=xs) a b (qj xs) with⟨_,h⟩ | ⟨m,c,l,d,f⟩
 .have:=h 0 F.ne;rw[(y 0).2 ⟨F.uM g,F.uM i⟩]at this;cases this
 obtain⟨k,n⟩:=(y m).1 d;refine⟨m,c,k,n,λj a Z=>jy λb=>?_⟩;have V:j<qj xs:=by
  obtain⟨_,e,_⟩:=a;exact gp e
 have:=f j b V;rw[(y j).2 ⟨a,Z⟩]at this;cases this
theorem Fo.ZQ{a b}(x:a<qj xs)(o:b<qj xs)(h:Hd xs a b=aF){n c j u w:Nat}{t}(E:xs[n]? =aN t)(G:t.k=1)(A:Kc xs n c)(X:Kc xs n j)(p:nL xs a u)(O:nL xs b w)(f:nL xs c u)(r:nL xs j w):c=j:=by
 obtain⟨m,e,s,l,V⟩:=F.aeq x o;unfold Hd at h;rw[B,bF,bF,e]at h;obtain⟨⟨H,K⟩,C⟩:=h;have i:=F.pH s p;have v:nL xs n c:=by
  obtain⟨_,_,a⟩:=F.Ti A;rcases a with a | ⟨k,e,a⟩
  .omega
  .have:k=n:=J
   rw[<-this];exact a
 have y:nL xs n j:=by
  obtain⟨_,_,a⟩:=F.Ti X;rcases a with a | ⟨k,e,a⟩
  .omega
  .have:k=n:=J
   rw[<-this];exact a
 have g:=F.pH v f;have z:=F.pH y r;rcases Nat.lt_trichotomy n m with W | q | D
 .have a:=F.tQ g i (Nat.le_of_lt W);obtain⟨c0,k,b⟩:=F.ZO (d:=(n:Int)) m ⟨J,F.FL a,.inr ⟨n,I,a⟩⟩;have e:=F.JY A k f (F.pH b i);have c:=F.JY X k r (F.pH b (F.pH l O));omega
 .subst q;rw[fJ E]at C;omega
 .exfalso;by_cases c:n<=a
  .have a:=F.tQ g p c;by_cases d:n<=b
   .have:=V n a (F.tQ z O d);omega
   .have:=F.tQ O z J;have:=V b (F.pH this a) (F.uL o);have:b<=m:=this;have e:m<=b:=by obtain⟨_,_,h,_⟩:=l;exact h
    omega
  ·
   have cg:=F.pH (F.tQ p g J) z;rcases Nat.le_total a b with d | d
   .have:=V a (F.uL x) (F.tQ cg O d);have b:m<=a:=by obtain⟨_,_,h,_⟩:=s;exact h
    omega
   .have:=V b (F.tQ O cg d) (F.uL o);have a:m<=b:=by obtain⟨_,_,h,_⟩:=l;exact h
    omega
end
section
variable {xs:L dC} (F:Fo xs) {l:L Int}
include F
theorem Su:∀f d,d<(qj xs)->d<=f->(∀n,n∈l->∃k:Nat,n=k/\nL xs d k)->∃r:Nat,Gs xs l f d=r/\r<qj xs/\(∀n,n∈l->∃k:Nat,n=k/\nL xs r k)/\(r=0∨ke xs r=1/\(r:Int)∉l)
 | 0,d,h,f,c=>⟨d,I,h,c,.inl J⟩
 | f+1,d,h,a,c=>by
  unfold Gs;by_cases hd:0<(d:Int)/\(ke xs d≠1∨(d:Int)∈l)
  .rw[K hd];obtain⟨t,d⟩:=fE h;obtain⟨p,s,l,g,b,_,i,_⟩:=F.par d J;rw[jZ d,g];exact Su f p (gp b) J λn j=>by
    obtain⟨k,e,hk⟩:=c n j;exact⟨k,e,F.pH ⟨s,b,J,i⟩ hk⟩
  rw[R hd];refine⟨d,I,h,c,?_⟩;by_cases b:d=0
  .exact .inl b
  exact .inr ⟨ob.1 λh=>hd ⟨J,.inl h⟩,λh=>hd ⟨J,.inr h⟩⟩
theorem Sv{a}{tg}(b:a<qj xs)(h:∀t,t∈tg->vG xs t)(i:tg≠[]):∃r:Nat,BA xs a tg=r/\r<qj xs/\(∀n,n∈(a:Int)::tg->∃k:Nat,n=k/\nL xs r k)/\(r=0∨ke xs r=1/\(r:Int)∉(a:Int)::tg):=by
 unfold BA Zs;rw[R i,R]
 .rcases xi xs _ (qj xs) with⟨_,g⟩ | ⟨q,c,d,e,f⟩
  .have:=g 0 F.ne;rw[tB.2]at this
   .cases this
   intro n j;rcases bh.1 j with rfl | j
   .exact⟨a,I,F.uM b⟩
   obtain⟨a,k⟩:=h n j;exact⟨n.toNat,J,F.uM J⟩
  rw[c];exact Su F _ q d J (tB.1 e)
 rintro(e | e)
 .cases e
 obtain⟨n,a,c⟩:=gr.1 e;rw[da,eF]at c;refine c (Ay.2 ?_);rcases bh.1 a with rfl | a
 .exact⟨J,J⟩
 exact h n a
end
section
variable {c:Ch} {xs:L dC} {vs:L (C)} (N:Snd c xs vs) {M:ME} (hM:MN xs M) {dft:L Int} (NR:dft=(Kw c.root).map λb=>n9 xs b.dft)
include N hM NR
theorem Snd.ai9{n:Nat}{t:dC}(h:xs[n]? =aN t):AQ xs dft M n≠[]/\(Cn xs λk=>(k:Int)∈AQ xs dft M n)/\∀g,g∈AQ xs dft M n->∃k:Nat,g=k/\SS xs k/\((gv t.k=aM/\k=n)∨(gv t.k=aF/\Sb xs t.pa k)):=by
 unfold AQ;have l:=gp h;rw[R J,fJ h];have hk:=N.kn h;cases d:gv t.k
 .rw[R X];refine⟨X,λp u a k g c m o e f b F i j=>?_,λg b=>⟨n,by simpa using b,⟨t,h,?_⟩,.inl ⟨I,I⟩⟩⟩
  .have a:g=n:=KM (show(g:Int)=n by simpa using b);have q:c=n:=KM (show(c:Int)=n by simpa using F);subst a q;exact N.fo.JY e f i j
  unfold gv at d;rw[db]at d;omega
 rw[K I];cases m:M n with
 | some i=>
  obtain⟨a,b,c⟩:=hM n t i h d m;exact⟨a,c,λg f=>by
   obtain⟨k,e,j,n⟩:=b g f;exact⟨k,e,j,.inr ⟨I,n⟩⟩⟩
 | none=>
  have f:n<qj (Kw c.root):=by rw[Az,<-N.len];exact l
  obtain⟨b,f⟩:∃b,(Kw c.root)[n]? =aN b:=⟨_,aX f⟩
  obtain⟨q,e,r,s⟩:=N.dft h f d;have p:(dft[(n:Int).toNat]?).getD 0=q:=by
   rw[NR,ba,cw,f];exact e
  dsimp only;rw[p];refine⟨X,λy z a x g j _ _ t u i F v w=>?_,λg i=>⟨q,by simpa using i,r,.inr ⟨I,s⟩⟩⟩;have k:=KM (show(g:Int)=q by simpa using i);have o:j=q:=KM (show(j:Int)=q by simpa using F);subst k o;exact N.fo.JY t u v w
theorem Snd.aer{a:Nat}{t}{b}{m}(f:xs[a]? =aN t)(z:(Kw c.root)[a]? =aN b)(w:m∈b.mv)(D:m.tg≠[]):
  (∀s,s∈m.tg.map (n9 xs)->vG xs s)/\∃d:Nat,BA xs a (m.tg.map (n9 xs))=d/\kd xs d=1/\nL xs d a/\Gd xs d (λk=>∃s,s∈m.tg.map (n9 xs)/\(k:Int)∈AQ xs dft M s)/\∀s,s∈m.tg.map (n9 xs)->∀g,g∈AQ xs dft M s->vG xs g:=by
 obtain⟨x,T,U,Q,G,rfl,_,_,W,l,_⟩:=N.at_ f;have L:x=b:=by
  rw[<-Sp,cw,G]at z;injection z
 subst L;have F:=N.fo;have E:=by
  have:=W m w;obtain⟨_,this⟩:=dU.1 this;obtain⟨_,this⟩:=dU.1 this;obtain⟨_,this⟩:=dU.1 this;exact Aq.1 this
 have V:=λs h=>by
  unfold qE at l;by_cases a:gv x.k=aF
  .rw[K a]at l;simp only[B]at l;have:x.mv=[]:=rH.1 (aO l.2.2).2.2.2.1;rw[this]at w;cases w
  rw[R a]at l;simp only[B]at l;have:=du.1 l.2.2 m w;unfold mr at this;simp only[B]at this;exact Fl (du.1 this.1.2 s h)
 have r:∀s,s∈m.tg->∃(k:Nat) (u:dC),n9 xs s=k/\1<=k/\xs[k]? =aN u/\gj xs s=k:=λs h=>by
  have i:=(Jo E) s h;rcases jt xs s with⟨e,_⟩ | ⟨k,u,e,a,_⟩
  .omega
  refine⟨k,u,?_,J,a,e⟩;unfold n9;rw[R (V s h)];exact e
 have H:∀s,s∈m.tg.map (n9 xs)->vG xs s:=λs h=>by
  obtain⟨s,b,rfl⟩:=eo.1 h;obtain⟨k,u,e,_,a,_⟩:=r s b;exact⟨J,by have:=gp a;omega⟩
 refine⟨H,?_⟩;obtain⟨d,e,hd,C,o⟩:=Sv F (gp f) H (by simpa using D);have S:kd xs d=1:=by
  obtain⟨u,a⟩:=fE hd;rw[AM a];rcases o with rfl | ⟨hk,_⟩
  .obtain⟨s,h,hk⟩:=N.sd.rt;rw[a,bP]at h;subst h;exact hk
  rwa[fJ a]at hk
 have y:nL xs d a:=by
  obtain⟨k,j,hk⟩:=C a (.head _);have:k=a:=J
  rw[<-this];exact hk
 have O:∀s,s∈m.tg->∀k:Nat,n9 xs s=k->1<=k->Sb xs d k:=λs h k j i=>by
  have b:=eo.2 ⟨s,h,j⟩;obtain⟨a,c,hk⟩:=C k (.tail _ b);have:a=k:=J
  subst this;have m:d<=a:=by obtain⟨_,_,f,_⟩:=hk;exact f
  refine⟨?_,F.FL hk,.inr ⟨d,I,hk⟩⟩;rcases o with rfl | ⟨_,n⟩
  .omega
  have:d≠a:=λe=>n (.tail _ (by rw[e];exact b));omega
 have P:∀s,s∈m.tg->∃A:Nat,Cx xs s=A/\A<qj xs/\∀g,g∈AQ xs dft M (n9 xs s)->∃k:Nat,g=k/\SS xs k/\nL xs A k/\Sb xs d k:=λs h=>by
  obtain⟨k,u,j,i,a,m⟩:=r s h;obtain⟨_,_,c⟩:=N.ai9 hM NR a;have b:=O s h k j i;unfold Cx;rw[m,fJ a,j,jZ a];cases d:gv u.k
  .refine⟨k,I,gp a,λg s=>?_⟩;obtain⟨q,eq,p,⟨_,e⟩ | ⟨n,_⟩⟩:=c g s
   .subst e;exact⟨q,eq,p,F.uL (gp a),b⟩
   rw[d]at n;cases n
  obtain⟨p,N,M,n,s,_⟩:=F.par a J;refine⟨p,by rw[K I];exact n,gp s,λg v=>?_⟩;obtain⟨q,eq,t,⟨k,_⟩ | ⟨_,k⟩⟩:=c g v
  .rw[d]at k;cases k
  rw[n]at k;have Y:nL xs p q:=by
   obtain⟨_,_,e | ⟨Z,ep,e⟩⟩:=k
   .omega
   have:Z=p:=J
   rw[<-this];exact e
  refine⟨q,eq,t,Y,?_⟩;rcases F.ZN b a with e | ⟨Z,ep,X,_⟩
  .rw[<-e,n];exact k
  have:Z=p:=J
  subst this;exact F.aqb X k
 refine⟨d,e,S,y,⟨?_,?_,?_⟩,?_⟩
 .obtain⟨s,h⟩:=qf _ D;obtain⟨k,u,j,i,d,_⟩:=r s h;obtain⟨b,_,_⟩:=N.ai9 hM NR d;obtain⟨g,a⟩:=qf _ b;rw[<-j]at a;obtain⟨A,_,_,c⟩:=P s h;obtain⟨q,eq,_⟩:=c g a;exact⟨q,_,eo.2 ⟨s,h,I⟩,by rw[<-eq];exact a⟩
 .rintro g ⟨_,h,e⟩;obtain⟨s,a,rfl⟩:=eo.1 h;obtain⟨A,_,_,d⟩:=P s a;obtain⟨q,eq,b,_,c⟩:=d g e;have:q=g:=J
  subst this;exact⟨c,b⟩
 .rintro n u k k' g g' hn i hk jG ⟨_,h,Z⟩ ⟨_,zL,X⟩ b a;obtain⟨s,M,rfl⟩:=eo.1 h;obtain⟨s',c,rfl⟩:=eo.1 zL;obtain⟨A,eA,m,hA⟩:=P s M;obtain⟨A',Y,d,Vm⟩:=P s' c;obtain⟨q,eq,_,p,_⟩:=hA g Z;obtain⟨q',am,_,e,_⟩:=Vm g' X;have:q=g:=J
  subst this;have:q'=g':=J
  subst this;by_cases t:s=s'
  .subst t;obtain⟨aC,v,ej,_,hv,_⟩:=r s M;obtain⟨_,g2,_⟩:=N.ai9 hM NR hv;rw[ej]at Z X;exact g2 n u k k' q q' hn i hk jG Z X b a
  have k:=nw3 ((sv0 E).2) M c t;rw[eA,Y]at k;rcases k with f | f
  .exact(F.ZQ d m f hn i jG hk e p a b).symm
  exact F.ZQ m d f hn i hk jG p e b a
 rintro _ h g d;obtain⟨s,a,rfl⟩:=eo.1 h;obtain⟨A,_,_,c⟩:=P s a;obtain⟨q,eq,_,_,b⟩:=c g d;exact⟨J,by have:=b.2.1;omega⟩
end
def Jq{x:L dC}{a:Nat}{r:Ro}:∀{l:L Mv} {i:Nat},r∈He x a i l->∃j m,m∈l/\r=LJ x a j m
 | [],_,h=>Ue
 | m::l,i,h=>by
  rw[He]at h;rcases bh.1 h with rfl | h
  .exact⟨i,m,.head _,I⟩
  obtain⟨j,c,a,b⟩:=Jq h;exact⟨j,c,.tail _ a,b⟩
mutual
def Jr{s:L dC}{r:Ro}:∀{x:Nd} {a:Nat},r∈Mi s a x->∃n b j m,(Kw x)[n]? =aN b/\m∈b.mv/\r=LJ s (a+n) j m
 | .mk b l,a,h=>by
  rw[Mi]at h;rw[Kw];rcases bQ.1 h with h | h
  .obtain⟨j,m,a,c⟩:=Jq h;exact⟨0,b,j,m,I,a,c⟩
  obtain⟨n,b,j,m,a,c,d⟩:=Fm h;exact⟨n+1,b,j,m,by rw[dI];exact a,c,by rw[d];congr 1;omega⟩
def Fm{s:L dC}{r:Ro}:∀{l:L Nd} {a:Nat},r∈qp s a l->∃n b j m,(E3 l)[n]? =aN b/\m∈b.mv/\r=LJ s (a+n) j m
 | [],_,h=>by rw[qp]at h;cases h
 | x::l,a,h=>by
  rw[qp]at h;rw[E3];rcases bQ.1 h with h | h
  .obtain⟨n,b,j,m,a,c⟩:=Jr h;exact⟨n,b,j,m,by rw[bZ (bc.1 a).1];exact a,c⟩
  obtain⟨n,b,j,m,a,c,d⟩:=Fm h;have:=Az x;exact⟨iQ x+n,b,j,m,by rw[ck J,this,dH];exact a,c,by rw[d,dA]⟩
end
section
variable {c:Ch} {xs:L dC} {vs:L (C)} (N:Snd c xs vs) {M:ME} (hM:MN xs M) {dft:L Int} (NR:dft=(Kw c.root).map λb=>n9 xs b.dft)
include N hM NR
theorem Snd.ZR{r:Ro}(f:r∈Mi xs 0 c.root):(r.tg=[]/\r.dom= -1)∨(r.tg≠[]/\(∀s,s∈r.tg->vG xs s)/\∃a d:Nat,r.src=a/\a<qj xs/\r.dom=d/\kd xs d=1/\nL xs d a/\Gd xs d (λk=>∃s,s∈r.tg/\(k:Int)∈AQ xs dft M s)/\∀s,s∈r.tg->∀g,g∈AQ xs dft M s->vG xs g):=by
 obtain⟨n,b,l,m,h,i,rfl⟩:=Jr f;rw[bR]at*
 have e:n<qj xs:=by rw[N.len,<-Az];exact(bc.1 h).1
 obtain⟨t,j⟩:=fE e;unfold LJ;dsimp only;by_cases hm:m.tg=[]
 .left;rw[hm];exact⟨I,I⟩
 right;obtain⟨a,d,b,c,k,o,p⟩:=N.aer hM NR j h i hm;exact⟨Ie,a,n,d,I,e,b,c,k,o,p⟩
end
def qG(x:L dC):Nat->Int->L Int
 | 0,_=>[]
 | f+1,n=>if n<0 then[]else n::qG x f (yB x n)
def Ups.eq{x:L dC}{n:Int}{l:L Int}(h:Ups x n l):∀f:Nat,qj l<=f->l=qG x f n:=by
 induction h with
 | stop h=>
  intro f _;cases f with
  | zero=>rfl
  | succ f=>unfold qG;rw[K h]
 | @go c s l b u i=>
  intro f a;cases f with
  | zero=>simp at a
  | succ f=>
   unfold qG;rw[R J,jZ b];congr 1;exact i f (by rw[aZ]at a;omega)
def CX(r:L Ro)(m:L M)(n:Int)(k:Nat):M:=match r[k]?,m[k]? with
 | some a,aN aF=>YR (a.src=n)
 | _,_=>aM
def qH(r:L Ro)(m:L M)(n:Int):Option Nat:=(List.range (min (qj r) (qj m))).find? (CX r m n)
def lj(x:L dC)(r:L Ro)(m:L M)(leaf:Int):Int:=match(qG x (qj x+1) leaf).findSome? (qH r m)with
 | some k=>(k:Int)
 | none=> -1
def fR(s:L dC)(r:L Ro)(act:L Int)(k:Int):L Int:=if k<0 then[]else match r[k.toNat]? with
 | some a=>if a.dom<0 then[]else act.filter λx=>rX s x a.dom
 | none=>[]
def fY(x:L dC)(r:L Ro)(act:L Int)(a b:Int):M:=(fR x r act b).any λn=>YR (n∈fR x r act a)
def MQ(r:L Ro)(k:Int):Int:=match r[k.toNat]? with
 | some a=>a.src
 | none=>0
def mS(x:L dC)(r:L Ro)(a b:Int):M:=rX x (MQ r a) (MQ r b)
def Pu(x:L dC)(r:L Ro)(act:L Int)(m:L M)(st:L Int×L Int)(leaf:Int):L Int×L Int:=
 let k:=lj x r m leaf
 if k<0∨k∈st.1 then st else
  (st.1++[k],if(st.2.any λo=>fY x r act k o&&!mS x r k o)=aF then st.2 else(st.2.filter λo=>!fY x r act k o)++[k])
def pZ(x:L dC)(r:L Ro)(act:L Int)(m:L M):L Int:=((Hm x act).foldl (Pu x r act m) ([],[])).2
def BI{o:L Ro}{m:L M}{n:Int}{k:Nat}(h:qH o m n=aN k):∃r,o[k]? =aN r/\m[k]? =aN aF/\r.src=n:=by
 have:=List.find?_some h;unfold CX at this;split at this
 .rename_i r a b;exact⟨r,a,b,u this⟩
 cases this
structure ChI (xs:List dC) (ro:List Ro) (act:List Int) (may:List Bool) (st:List Int×List Int):Prop where
 ok:∀k,k∈st.1->∃(n:Nat) (r:Ro),k=n/\ro[n]? =aN r/\may[n]? =aN aF/\r.src∈act
 sub:∀k,k∈st.2->k∈st.1
 ap:st.2.Pairwise λb a=>fY xs ro act a b=aM
 ne:st.1≠[]->st.2≠[]
section
variable {xs:L dC}
def Sd.U9(F:Sd xs){n}{r}(b:r∈gH xs n):∃(q:Nat) (t:dC),r=q/\xs[q]? =aN t/\t.pa=n/\Hk t.k=aF/\n<q/\∀s,xs[n]? =aN s->q<s.en:=by
 obtain⟨q,t,c,h,d,e⟩:=My.1 b;have l:=F.fo.yT h;refine⟨q,t,c,h,d,e,J,λs f=>?_⟩;obtain⟨p,m,i,j,g,k,a,_⟩:=F.fo.par h J;have:p=n:=J
 subst this;rw[f]at g;injection g with g;rw[g];exact a
def Sd.apart(F:Sd xs){n q r:Nat}{s t}(a:xs[q]? =aN s)(b:xs[r]? =aN t)(j:s.pa=n)(k:t.pa=n)(h:q<r):s.en<=r:=by
 have l:=F.fo.yT a;obtain⟨p,o,c,d,e,f,i,g⟩:=F.fo.par b J;refine qe λm=>?_;have:=g q s a h J;omega
def aiO{c:Type}{f}{lo:c->Int}{hi:c->Int}:∀{s:L c},s.Pairwise (λa b=>hi a<=lo b)->(∀r,r∈s->(f r).Pairwise (· <·)/\∀x,x∈f r->lo r<=x/\x<hi r)->(s.flatMap f).Pairwise (· <·)
 | [],_,_=>X
 | r::s,p,a=>by
  rw[jB]at p;rw[lW,lX];refine⟨(a r (.head _)).1,aiO p.2 λq h=>a q (.tail _ h),λx d y b=>?_⟩;obtain⟨q,h,b⟩:=Cm.1 b;have e:=(a r (.head _)).2 x d;have f:=(a q (.tail _ h)).2 y b;have g:=p.1 q h;omega
def Wj(x:L dC)(r:Int):Int:=((x[r.toNat]?).map λs:dC=>s.en).getD 0
def xr{i:Nat}{s}(h:xs[i]? =aN s):Wj xs i=s.en:=by
 unfold Wj;rw[ba,h];rfl
def Sd.FM(h:Sd xs) n {l:L Int} (f:l.Pairwise (· <·)) (m:∀r,r∈l->r∈gH xs n):l.Pairwise λa b=>Wj xs a<=b:=by
 refine List.Pairwise.imp_of_mem (fun{a b} ha hb bW=>?_) f;obtain⟨q,s,rfl,c,e,_⟩:=h.U9 (m a ha);obtain⟨r,t,rfl,g,d,_⟩:=h.U9 (m b hb);rw[xr c];exact h.apart c g e d J
def MR:∀{l:L Int} {lo hi:Int},l.Pairwise (· <·)->(∀x,x∈l->lo<=x/\x<hi)->lo<=hi->qj l<=hi-lo
 | [],lo,hi,_,_,h=>S
 | a::l,lo,hi,h,m,c=>by
  rw[jB]at h;have d:=m a (.head _);have:=MR (lo:=a+1) (hi:=hi) h.2 (λx b=>⟨by have:=h.1 x b;omega,(m x (.tail _ b)).2⟩) J;rw[aZ];omega
end
section
variable {B:Nat} {w w':aw} {s:Sl} {l d:L Int}
def cY.cells(d:cY B w s l){g:Nat}(h:s.a=aN ⟨g,0,Pw⟩):∃tail,B<=g/\aG w g 3 (l.map (Value.int U)++tail)/\qj tail=s.c-s.n/\s.n=qj l/\s.n<=s.c/\s.c<=9223372036854775807/\∀x,x∈l->qO x:=by
 rcases d with⟨rfl,rfl⟩ | ⟨e,b,tail,i,j,f,q,m,n,p,o⟩
 .cases h
 rw[i]at h;injection h with h;injection h with h;subst h;have V:∀{l:L Int} {b:L (aJ)},pR rInt 1 w (λk=>False/\k≠e) l b->b.flatten=l.map (Value.int U)/\∀x,x∈l->qO x:=by
  intro l b
  induction l generalizing b with
  | nil=>
   intro d;have:=d.len;cases b with
   | nil=>exact⟨I,λx hx=>Ub⟩
   | cons c b=>cases this
  | cons a l t=>
   intro d;cases b with
   | nil=>have:=d.len;cases this
   | cons c b=>
    have u:=d;unfold pR at u;obtain⟨⟨D,G,H⟩,v⟩:(qj c=1/\rInt w (λk=>False/\k≠e) a c)/\pR rInt 1 w (λk=>False/\k≠e) l b:=u;obtain⟨r,s⟩:=t v;refine⟨by rw[fk,r,G];rfl,λx hx=>?_⟩;rw[bh]at hx;rcases hx with rfl | hx
    .exact H
    exact s x hx
 obtain⟨r,s⟩:=V o;rw[r]at f;exact⟨tail,j,f,J,m,n,p,s⟩
def cY.mk{g:Nat}{tail:aJ}(d:s.a=aN ⟨g,0,Pw⟩)(c:B<=g)(b:aG w g 3 (l.map (Value.int U)++tail))(t:qj tail=s.c-s.n)(n:s.n=qj l)(e:s.n<=s.c)(h:s.c<=9223372036854775807)(i:∀x,x∈l->qO x):cY B w s l:=by
 refine .inr ⟨g,l.map λx=>[Value.int U x],tail,d,c,?_,J,n,e,h,?_⟩
 .have:(l.map λx=>[Value.int U x]).flatten=l.map (Value.int U):=by
   clear b n i
   induction l with
   | nil=>rfl
   | cons a l f=>rw[cf,fk,f];rfl
  rw[this];exact b
 clear b n
 induction l with
 | nil=>trivial
 | cons a l j=>exact⟨⟨I,I,i a (.head _)⟩,j λx f=>i x (.tail _ f)⟩
def cY.Tj(h:cY B w s l):(s=Sl.nil/\l=[])∨∃g,s.a=aN ⟨g,0,Pw⟩:=by
 rcases h with h | ⟨g,c,tail,a,_⟩
 .exact .inl h
 exact .inr ⟨g,a⟩
def cY.ofRow{v:ay}(a:w'.ownsRow B 3 1 v (qj l) (l.map (Value.int U)))(i:∀x,x∈l->qO x):∃s:Sl,v=s.v/\cY B w' s l:=by
 rcases a.2 with⟨rfl,n⟩ | ⟨g,cap,c,rfl,b,d,e,j,f,h⟩
 .have:l=[]:=bL n;subst this;exact⟨Sl.nil,I,Yb _ _ _ _ _ _⟩
 refine⟨⟨aN ⟨g,0,Pw⟩,qj l,cap⟩,I,cY.mk (tail:=c.toList.drop (qj l)) I b ?_ ?_ I e ?_ i⟩
 .rw[vV]at h;rw[<-h,dM];unfold aG;rw[d]
 .dsimp only;rw[cD,wA,f];omega
 have:maxLen=9223372036854775807:=I;dsimp only;omega
end
def Fp{z:L Int}{j:Nat}(h:j<qj z):z.toArray[j]! =z[j]:=by
 rw[getElem!_pos _ j U3];simp
def uH{z:L Int}(h:z.Pairwise (· <=·)):∀m,m<=(qj z)->(Lib.compactUpTo z.toArray m).Pairwise (· <·)/\∀x,x∈Lib.compactUpTo z.toArray m↔∃j,j<m/\z[j]? =aN x
 | 0,_=>by
  refine⟨by simp[Lib.compactUpTo],λx=>⟨λa=>by simp[Lib.compactUpTo]at a,λ⟨j,b,_⟩=>J⟩⟩
 | m+1,c=>by
  obtain⟨b,a⟩:=uH h m J;rw[Lib.compactUpTo_succ,Fp J];have y:m<qj z:=J
  by_cases hk:Lib.keeps z.toArray m=aF
  .rw[K hk];refine⟨lX.2 ⟨b,X,λp e q d=>?_⟩,λx=>?_⟩
   .simp only[aV]at d;subst d;obtain⟨j,g,f⟩:=(a p).1 e;rw[aX J]at f;injection f with f;have hk:=u hk;rcases hk with hk | hk
    .omega
    .rw[Fp y,Fp J]at hk;have k:=qg.1 h (m-1) m J y J;by_cases i:j=m-1
     .subst i;omega
     .have l:=qg.1 h j (m-1) J J J;omega
   .rw[bQ,a,aV];constructor
    .rintro(⟨j,f,x⟩ | rfl)
     .exact⟨j,J,x⟩
     .exact⟨m,J,aX y⟩
    .rintro⟨j,g,x⟩;by_cases f:j=m
     .subst f;rw[aX y]at x;injection x with x;exact .inr x.symm
     .exact .inl ⟨j,J,x⟩
  .rw[R hk,bC];refine⟨b,λx=>(a x).trans ⟨λ⟨j,g,d⟩=>⟨j,J,d⟩,λ⟨j,g,d⟩=>?_⟩⟩;by_cases f:j=m
   .subst f;have G:¬(j=0∨z.toArray[j]! ≠z.toArray[j-1]!):=λi=>hk (bG i);rw[Fp y]at G;have k:j≠0:=λe=>G (.inl e);have e:z[j]=z.toArray[j-1]! :=qe λe=>G (.inr e);rw[Fp J]at e;rw[aX y]at d;injection d with d;exact⟨j-1,J,by rw[aX J,<-e,d]⟩
   .exact⟨j,J,d⟩
def rl{z:L Int}(b:z.Pairwise (· <=·)):(Lib.compact z).Pairwise (· <·)/\∀x,x∈Lib.compact z↔x∈z:=by
 obtain⟨c,d⟩:=uH b (qj z) (H _);refine⟨c,λx=>(d x).trans ⟨λ⟨a,_,h⟩=>bp h,λh=>?_⟩⟩;obtain⟨a,j⟩:=gI h;exact⟨a,(bc.1 j).1,j⟩
def Fq(l:L Int):L Int:=Lib.compact (l.mergeSort λx y=>YR (x<=y))
def xY(l:L Int):(l.mergeSort λx y=>YR (x<=y)).Pairwise (· <=·):=by
 have:=List.pairwise_mergeSort (le:=λx y:Int=>YR (x<=y)) (λa b c d e=>by simp only[bF]at*;omega) (λa b=>by simp only[cy,bF];omega) l;exact this.imp λh=>U3
def Ht{l:L Int}:(Fq l).Pairwise (· <·):=(rl (xY l)).1
def Fs{l:L Int}{x:Int}:x∈Fq l↔x∈l:=by
 unfold Fq;rw[(rl (xY l)).2 x];exact(Kp l _).mem_iff
def MS:Fq []=[]:=uV.2 λx h=>by rw[Fs]at h;cases h
def NdE(z:L Int):qj (Lib.compact z)<=qj z:=by
 unfold Lib.compact Lib.compactUpTo;rw[bH];exact bB (cH _ _) UY
section
variable {B:Nat} {w w':aw} {s:Sl} {l d:L Int}
def cY.cut(h:cY B w s l)(k:Nat)(hk:k<=qj l)(a:s.a≠Pw):cY B w ⟨s.a,k,s.c⟩ (l.take k):=by
 rcases h.Tj with⟨rfl,_⟩ | ⟨b,g⟩
 .exact absurd I a
 obtain⟨tail,c,d,j,m,n,e,f⟩:=h.cells g;refine cY.mk (tail:=(l.drop k).map (Value.int U)++tail) g c ?_ ?_ ?_ KQ e λx i=>f x (GN i)
 .rw[<-bq,<-cA,dM];exact d
 .dsimp only;rw[aP,bH,cD];omega
 dsimp only;rw[ci];omega
def aeE{tail:aJ}(hd:qj d=qj l):Sort.putCells (Value.int U) 0 d.toArray ((l.map (Value.int U)++tail).toArray)=(d.map (Value.int U)++tail).toArray:=by
 apply Array.ext_getElem?;intro k;simp only[Sort.putCells,Array.getElem?_mapIdx,tW,sX];by_cases hk:k<qj d
 .rw[bZ UI,bZ UI,cw,cw,aX (show k<(qj l) by omega),aX hk];simp only[fG];rw[K ⟨bf _,J⟩,pM,Fp hk]
 rw[ck UI,ck UI,bH,bH,hd];rcases tail[k-(qj l)]? with _|v
 .rfl
 simp only[fG];rw[R J]
def cY.put(c:cY B w s l){g:Nat}(a:s.a=aN ⟨g,0,Pw⟩)(hd:qj d=qj l)(p:∀x,x∈d->qO x)(n:Nat)(o:Array Obj):cY B (Sort.grow (Sort.putRow (Value.int U) (Sort.ahead w n) g 0 d.toArray) o) s d/\az [g] w (Sort.grow (Sort.putRow (Value.int U) (Sort.ahead w n) g 0 d.toArray) o):=by
 obtain⟨tail,f,h,i,r,j,m,t⟩:=c.cells a;have b:=h.lt;refine⟨cY.mk (tail:=tail) a f ?_ i J j m p,I,I,I,X,λk hk q=>?_⟩
 .unfold aG;rw[Sort.heap_grow_old _ _ (by simpa using b)];show(w.heap.modify g _)[g]? =_;rw[n8,K I];unfold aG at h;rw[h];show aN (Sort.onCells _ _)=_;unfold Sort.onCells;dsimp only;rw[aeE hd]
 rw[Sort.heap_grow_old _ _ WH];show(w.heap.modify g _)[k]? =_;rw[n8,R λe=>q (by simp[e])]
def cY.holds(a:cY B w s l){g:Nat}(b:s.a=aN ⟨g,0,Pw⟩):Sort.Holds (Value.int U) w g 0 l.toArray:=by
 obtain⟨tail,c,h,d,e,f,i,k⟩:=a.cells b;intro j hj;have hj:j<qj l:=S7
 rw[Fp hj,bR];refine⟨?_,?_⟩
 .rw[h.cell,bZ UI,cw,aX hj];rfl
 unfold World.frozen?;unfold aG at h;dsimp only;rw[h];simp
def agw(h:cY B w s l)(m:qj l<=1000000000):aA aq 88 #[s.v] w λe w'=>∃b:Sl,e=ak b.v/\b.a=s.a/\cY B w' b (Fq l)/\aE (λk=>s.a=aN ⟨k,0,Pw⟩) w w':=by
 refine gX (au3 ?_);rcases h.Tj with⟨rfl,rfl⟩ | ⟨g,a⟩
 .refine(Tryz.slices_Sort_int_none Pw 0 w).mono ?_;rintro _ c ⟨rfl,u⟩;obtain rfl:w=c:=u.symm;refine⟨I,(Tryz.slices_Compact_int_empty Pw 0 w).mono ?_⟩;rintro _ c ⟨rfl,u⟩;obtain rfl:w=c:=u.symm;exact⟨Sl.nil,I,Sl.nil,I,I,by rw[MS];exact Yb _ _ _ _ _ _,YW _ _⟩
 obtain⟨tail,H,t,u,k,v,z,A⟩:=h.cells a;obtain⟨L,sn,sc⟩:=s;dsimp only at a u k v z;subst a k;refine(Tryz.slices_Sort_int g 0 sc l w (h.holds I) t.lt J).mono ?_;rintro _ p ⟨rfl,n,o,rfl⟩;have F:=Kp l λx y=>YR (x<=y);have i:∀x,x∈(l.mergeSort λx y=>YR (x<=y))->qO x:=λx c=>A x (F.mem_iff.1 c);obtain⟨C,r⟩:=h.put (d:=l.mergeSort λx y=>YR (x<=y)) I F.length_eq i n o;refine⟨I,?_⟩;have e:Fq l=Lib.compact (l.mergeSort λx y=>YR (x<=y)):=I;have G:=F.length_eq;rw[e];generalize B:Sort.grow _ o=p at*
 generalize f:(l.mergeSort λx y=>YR (x<=y))=ms at*
 have K:=NdE ms;have Q:∀x,x∈Lib.compact ms->x∈ms:=λx c=>by
  have:=(rl (xY l)).2 x;rw[f]at this;exact this.1 c
 rw[<-G];refine(Tryz.slices_Compact_int g 0 sc ms p (C.holds I) J J).mono ?_;rintro _ M ⟨rfl,q,rfl⟩;obtain⟨j,P⟩:=C.put (d:=Lib.compact ms++List.replicate ((qj ms)-(qj (Lib.compact ms))) 0) I (by rw[aP,tY];omega) (λx c=>by
  rw[bQ]at c;rcases c with c | c
  .exact i x (Q x c)
  rw[(List.mem_replicate.1 c).2];exact⟨Z,Z⟩) q #[]
 rw[Sort.grow_empty]at j P;have D:=j.cut (qj (Lib.compact ms)) Px X;rw[List.take_left]at D;have E:∀x,x∈[g]->(aN (⟨g,0,Pw⟩:Addr)=aN ⟨x,0,Pw⟩)∨w.heap.size<=x:=λx c=>by
  simp only[aV]at c;subst c;exact .inl I
 exact⟨⟨aN ⟨g,0,Pw⟩,_,sc⟩,I,_,I,I,D,(r.mem P X).p E⟩
def Yq{F:A}{f:Sl}{act:L Int}(h:aB rInt 1 w F f act)(m:qj act<=1000000000):aA aq 61 #[f.v] w λe w'=>∃s:Sl,e=ak s.v/\cY w.heap.size w' s act/\az [] w w':=by
 have i:∀x,x∈act->qO x:=λx j=>by
  obtain⟨c,a⟩:=h.mem j;exact a.2
 obtain⟨a,n,c⟩:=f;have g:=h.len;dsimp only at g;subst g;rcases a with _|d
 .have:=ahl h I;subst this;refine(Tryz.slices_Clone_int_nil 0 c w).mono ?_;rintro _ a ⟨rfl,u⟩;obtain rfl:w=a:=u.symm;exact⟨Sl.nil,I,Yb _ _ _ _ _ _,Ib _ _⟩
 by_cases a:act=[]
 .subst a;refine(Tryz.slices_Clone_int_zero d c w).mono ?_;rintro _ w' ⟨v,rfl,b,_,e⟩;obtain⟨s,rfl,k⟩:=cY.ofRow (l:=[]) b i;exact⟨s,I,k,Ou e⟩
 have a:0<qj act:=mD.2 a;obtain⟨B,n,e,_,r,c0,_⟩:=h.at_ 0 _ (aX a);injection e with e;subst e;obtain⟨b,q,sp⟩:=d;have T:sp=Pw:=by
  cases n with
  | nil=>cases r
  | cons v n=>exact World.cell?_spot (c0 0 v I)
 subst T;have N:∀k,k<(qj act)->w.cell? ⟨b,q+k,Pw⟩=aN (.int U (act.getD k 0)):=λk p=>by
  obtain⟨d,n,e,_,_,c0,c,_⟩:=h.at_ k _ (aX p);injection e with e;subst e c;have:=c0 0 _ I;rw[iK,iK]at this;rw[List.getD_eq_getElem?_getD,aX p];simpa using this
 refine(Tryz.slices_Clone_int b q (qj act) c act w (H _) J N).mono ?_;rintro _ w' ⟨v,rfl,o,_,t⟩;rw[bm (H _)]at o;obtain⟨s,rfl,u⟩:=cY.ofRow (l:=act) o i;exact⟨s,I,u,Ou t⟩
end
def nM{a:Type}(R:a->a->Prop)(s b:L a):Prop:=qj s=qj b/\∀(i:Nat) x y,s[i]? =aN x->b[i]? =aN y->R x y
def UL(t:M)(x y:Ex):Prop:=∀d,rP t d x y=aF
structure NT (t:Bool) (x y:Ac):Prop where
 k:x.k=y.k
 n:x.n=y.n
 e:UL t x.x y.x
 a:t=aF->x.a=y.a
structure MvE (t:Bool) (x y:Mv):Prop where
 k:x.k=y.k
 ev:x.ev=y.ev
 wt:x.wt=y.wt
 gd:x.gd=y.gd
 g:UL t x.g y.g
 acts:nM (NT t) x.acts y.acts
 tg:x.tg=y.tg
 a:t=aF->x.a=y.a
structure NbE (t:Bool) (x y:Nb):Prop where
 k:x.k=y.k
 nm:x.nm=y.nm
 ini:x.ini=y.ini
 dft:x.dft=y.dft
 en:nM (NT t) x.en y.en
 lv:nM (NT t) x.lv y.lv
 mv:nM (MvE t) x.mv y.mv
 a:t=aF->x.a=y.a
def CB(t:M):Nat->Nd->Nd->Prop
 | 0,_,_=>True
 | d+1,x,y=>NbE t x.b y.b/\nM (CB t d) x.kids y.kids
structure VrE (t:Bool) (x y:Vr):Prop where
 n:x.n=y.n
 v:x.v=y.v
 a:t=aF->x.a=y.a
structure ChE (t:Bool) (d:Nat) (x y:Ch):Prop where
 vars:nM (VrE t) x.vars y.vars
 root:CB t d x.root y.root
end Go.Proofs.YtdfibecibkijiaaGreatDoor.Con
namespace Go.Kt
open Go Go.RowKit
end Go.Kt
namespace Go.Proofs.YtdfibecibkijiaaGreatDoor.Con
open Go Go.RowKit Go.Kt Go.Kt.V Go.Proofs.YtdfibecibkijiaaGreatDoor.Vc
def sh(t:Tk):Tk:=⟨t.k,t.t,t.n,t.a+1⟩
inductive Sim:Ex->Ex->Prop
 | leaf (k n:Int) (s:C) (op a b:Int):Sim (.mk k n s op [] a) (.mk k n s op [] b)
 | one (k n:Int) (s:C) (op a b:Int) (x y:Ex):Sim x y->Sim (.mk k n s op [x] a) (.mk k n s op [y] b)
 | two (k n:Int) (s:C) (op a b:Int) (x y x' y':Ex):Sim x x'->Sim y y'->Sim (.mk k n s op [x,y] a) (.mk k n s op [x',y'] b)
structure Wr (ts qc:List Tk) (n:Nat):Prop where
 e:∀i,n<=i->(tk ts i).k=5
 s:∀i,i<n->(tk qc (i+1)).k=(tk ts i).k/\(tk qc (i+1)).t=(tk ts i).t/\(tk qc (i+1)).n=(tk ts i).n
 c:(tk qc (n+1)).k=4/\(tk qc (n+1)).t=[41]
def wC(n:Nat)(c r:Pr):Prop:=∀x j,c=.ok (x,j)->(∃b,r=.ok (b,j+1)/\Sim x b/\j<=n)∨∃a,r=.error (21,a)
section
variable {ts qc:L Tk} {n:Nat}
def Wr.lt(h:Wr ts qc n){i}(hk:(tk ts i).k≠5):i<n:=by
 refine bS λa=>hk (h.e i J)
def Wr.Tl(h:Wr ts qc n){i}(c:i<n) s:sg qc (i+1) s=sg ts i s:=by
 unfold sg;obtain⟨a,b,_⟩:=h.s i c;rw[a,b]
def wC.map{r r'}(c:wC n r r'){g g'}(i:∀x b,Sim x b->Sim (g x) (g' b)):wC n (LR g r) (LR g' r'):=by
 intro x k j;obtain⟨y,d,rfl⟩:=Dl j;rcases c y k d with⟨b,h,e,f⟩ | ⟨a,h⟩
 .exact .inl ⟨g' b,by rw[h];rfl,i _ _ e,f⟩
 exact .inr ⟨a,by rw[h];rfl⟩
def wC.nest{r r'}{d}{a a'}(b:d+1≠20->wC n r r'):wC n (kl d a r) (kl (d+1) a' r'):=by
 intro x j e;obtain⟨c,f⟩:=uo e;by_cases h:d+1=20
 .exact .inr ⟨a',by rw[kl,K h]⟩
 rw[kl,R h];exact b h x j c
def wC.par(w:Wr ts qc n){r r'}(c:wC n r r'):wC n (wi ts r) (wi qc r'):=by
 intro x k f;obtain⟨j,d,b,rfl⟩:=Dm f;rcases c x j d with⟨g,h,e,i⟩ | ⟨a,h⟩
 .have l:=w.lt (yx b);exact .inl ⟨g,by rw[h];simp only[wi];rw[K (by rw[w.Tl l];exact b)],e,l⟩
 exact .inr ⟨a,by rw[h];rfl⟩
def wC.err{e}{r'}:wC n (.error e) r':=λx j hx=>Ub
def wC.in_(w:Wr ts qc n) i:wC n (F1 ts i) (F1 qc (i+1)):=by
 intro x j h;obtain⟨rfl,rfl⟩:=O0 h;unfold F1 at h;split at h
 .rename_i a;split at h
  .rename_i b;split at h
   .rename_i c;have l:=w.lt (yx c);refine .inl ⟨.mk 3 0 (tk qc (i+1+2)).t 0 [] (tk qc (i+1)).a,?_,?_,l⟩
    .unfold F1;rw[K (by rw[w.Tl J];exact a),K (by rw[(w.s _ J).1];exact b),K (by rw[w.Tl l];exact c)]
    rw[(w.s (i+2) J).2.1];exact .leaf ..
   cases h
  cases h
 cases h
def wC.one(h:Wr ts qc n){b EV E a:Nat->Pr}{d i:Nat}(c:d+1≠20->∀i,i<=n->wC n (b i) (E (i+1)))(O:d+1≠20->∀i,i<=n->wC n (EV i) (a (i+1)))(e:i<=n):wC n (rh ts b EV d i) (rh qc E a (d+1) (i+1)):=by
 by_cases N:i=n
 .subst N;have h5:=h.e i (H _);have f:∀s,sg ts i s=aM:=λs=>by
   unfold sg;rw[h5];rfl
  have:rh ts b EV d i=.error (jE ts i):=by
   unfold rh;rw[f,f,f,R Z,R Z,R G0,R G0,R (by rw[h5];rintro⟨d,_⟩;exact absurd d Z)]
  rw[this];exact wC.err
 have l:i<n:=J
 obtain⟨k,d,k3⟩:=h.s i l;unfold rh;rw[h.Tl l,h.Tl l,h.Tl l,k,d,k3];split
 .exact wC.map (wC.nest λf=>O f _ l) λx j g=>.one _ _ _ _ _ _ _ _ g
 split
 .exact wC.nest λf=>wC.par h (c f _ l)
 split
 .intro x j f;simp only[fZ,im]at f;obtain⟨rfl,rfl⟩:=f;exact .inl ⟨_,I,.leaf ..,l⟩
 split
 .intro x j f;simp only[fZ,im]at f;obtain⟨rfl,rfl⟩:=f;exact .inl ⟨_,I,.leaf ..,l⟩
 split
 .exact wC.in_ h i
 exact wC.err
end
def af2{ts}{E}{k}{x}{j}(h:lO ts k j=0):∀g,jW ts E k g x j=.ok (x,j)
 | 0=>rfl
 | g+1=>by rw[jW,K h]
def aiC{ts}{j}(h:(tk ts j).k=5) k:lO ts k j=0:=by
 exact bS λn=>rC _ _ n h
def apw{ts}{j}{t}(h:(tk ts j).t=t)(n:∀op,op<16->eX op≠t∨op=0∨14<=op) k:lO ts k j=0:=by
 have:∀f op,1<=op->op+f<=14->kP ts k j f op=0:=by
  intro f
  induction f with
  | zero=>intro op _ _;rfl
  | succ f i=>
   intro op a b;rw[kP,R,i _ J J];rintro⟨_,s⟩;simp[sg,B,bF]at s;rcases n op J with e | e | e
   .exact e (by rw[<-h,s.2])
   .omega
   omega
 exact this 13 1 J J
def Sim.same{x y:Ex}(h:Sim x y):∀d,rP aM d x y=aF:=by
 have hd:∀{k n:Int} {s:C} {op:Int} {xs ys:L Ex} {a b:Int},qj xs=(qj ys)->LY aM (.mk k n s op xs a) (.mk k n s op ys b)=aM:=λh=>by
  simp[LY,Ex.k,Ex.n,Ex.s,Ex.op,Ex.dK,Ex.a,h]
 induction h with
 | leaf k n s op a b=>
  intro d;cases d with
  | zero=>rfl
  | succ d=>rw[rP,R (by rw[hd I];decide)];rfl
 | one k n s op a b x y h i=>
  intro d;cases d with
  | zero=>rfl
  | succ d=>
   rw[rP,R (by rw[hd (xs:=[x]) (ys:=[y]) rfl];decide)];simp only[Ex.dK,IV,i d,dY]
 | two k n s op a b x y c e f g G K=>
  intro d;cases d with
  | zero=>rfl
  | succ d=>
   rw[rP,R (by rw[hd (xs:=[x,y]) (ys:=[c,e]) rfl];decide)];simp only[Ex.dK,IV,G d,K d,dY]
def kt(t:Tk):Int×C:=(t.k,t.t)
def N4{c}{r}(h:qB c=aM)(a:(c==47)=aM):lM aM (c::r)=0:=by
 rw[lM,R (by rw[h];decide),R (by rw[a,cR];decide)]
def oA{c}{r}(h:fU c=aM)(a:dw c=aM)(b:qC.contains c=aF)(d:uk (c::r)=aM):nI (c::r)=.ok (4,[c],0,1):=by
 have e:nI (c::r)=if fU c then oU _ else if dw c then vB _ else qk _:=I
 have n:jV (c::r)=1:=by
  unfold jV;rw[d];dsimp only;rw[R Z,K b]
 rw[e,h,a,R Z,R Z,qk,n];rfl
def soft(r:C):Prop:=∀d,r.head? =aN d->d≠61/\d≠62
def mA{c}{r}(a:[38,124].contains c=aM)(h:soft r):uk (c::r)=aM:=by
 cases r with
 | nil=>rfl
 | cons d r=>
  obtain⟨h1,h2⟩:=h d I;have e:(d==61)=aM:=Gb
  have b:(d==62)=aM:=UD
  show(_||_||_)=aM;rw[e,b,a,cR,ga,ga];rfl
structure De (ts:List Tk) (n m:Nat) (s:C):Prop where
 a:∀i,i<n->(tk ts i).k=4/\(tk ts i).t=s
 b:∀i,n<=i->i<n+m->(tk ts i).k=4/\(tk ts i).t=[40]
 c:(tk ts (n+m)).k=1/\(tk ts (n+m)).t=[120]
 e:∀i,n+m<i->i<=n+m+m->(tk ts i).k=4/\(tk ts i).t=[41]
 z:(tk ts (n+m+m+1)).k=5
 l:qj ts=n+m+m+2
section
variable {ts:L Tk} {n m:Nat} {s:C}
def Yr{ts}{i}{t s}(h:(tk ts i).t=t)(g:t≠s):sg ts i s=aM:=by
 unfold sg;rw[h,bD g,ga]
def Pv{ts}{i}{t}(h:(tk ts i).k=4/\(tk ts i).t=t):sg ts i t=aF:=by
 unfold sg;rw[h.1,h.2,bG I];rfl
end
abbrev K3:=Int×C×Int
def k3(t:Tk):K3:=(t.k,t.t,t.n)
def Ys{p:UInt8->Prop}(h:∀n:Fin 256,p (UInt8.ofNat n.val))(c:UInt8):p c:=by
 have:=h ⟨c.toNat,c.toNat_lt⟩;simpa using this
def BJ{p:UInt8->M}{r:C}(h:∀c,r.head? =aN c->p c=aM):∀(l:C),(∀c,c∈l->p c=aF)->(l++r).takeWhile p=l
 | [],_=>by
  cases r with
  | nil=>rfl
  | cons c r=>rw[cd,dF,R (by rw[h c I];decide)]
 | c::l,a=>by rw[cb,dF,K (a c X),BJ h l λx hx=>a x Ze]
def agG{a b:C}(h:a≠[]):(a++b).head? =a.head? :=by
 cases a with
 | nil=>exact absurd I h
 | cons c a=>rfl
def rm{u:Nat}(h:u<10):Lib.decDigits u=[UInt8.ofNat (48+u)]:=by rw[Lib.decDigits,dif_pos h]
def uI{u:Nat}(h:¬u<10):Lib.decDigits u=Lib.decDigits (u/10)++[UInt8.ofNat (48+u % 10)]:=by rw[Lib.decDigits,dif_neg h]
def AR{u:Nat}(h:u<10):(UInt8.ofNat (48+u)).toNat=48+u:=by
 rw[UInt8.toNat_ofNat'];omega
def af3{u:Nat}(h:u<10):dw (UInt8.ofNat (48+u))=aF:=by
 unfold dw;rw[AR h];simp;omega
def DD(u:Nat):∀c,c∈Lib.decDigits u->dw c=aF:=by
 induction u using Nat.strongRecOn with
 | _ u i=>
  intro c h;by_cases a:u<10
  .rw[rm a,aV]at h;subst h;exact af3 a
  rw[uI a,bQ,aV]at h;rcases h with h | rfl
  .exact i (u/10) J c h
  exact af3 (NZ _ Z)
def BK(u:Nat):Lib.decDigits u≠[]:=by
 by_cases h:u<10
 .rw[rm h];simp
 rw[uI h];simp
def aaa(a:Nat)(l:C)(c:UInt8):mF a (l++[c])=mF a l*10+(c.toNat-48):=by
 simp[mF,jR]
def adC(u:Nat):mF 0 (Lib.decDigits u)=u:=by
 induction u using Nat.strongRecOn with
 | _ u i=>
  by_cases h:u<10
  .rw[rm h];have:=AR h;simp only[mF,qV,List.foldl_nil];omega
  rw[uI h,aaa,i (u/10) J,AR (NZ _ Z)];omega
def rx0(u:Nat)(h:0<u):(Lib.decDigits u).head? ≠aN 48:=by
 induction u using Nat.strongRecOn with
 | _ u i=>
  by_cases a:u<10
  .rw[rm a,nR];intro e;injection e with e;have:=bN UInt8.toNat e;rw[AR a]at this;have b:(48:UInt8).toNat=48:=I;omega
  rw[uI a,agG (BK _)];exact i (u/10) J J
def lsd(u:Nat)(h:1<qj (Lib.decDigits u)):0<u:=by
 refine bS λn=>?_;have:u=0:=J
 subst this;rw[rm Z]at h;simp at h
def abG{c:UInt8}(h:dw c=aF):fx c=aF:=by unfold fx;rw[h,pL]
def abg{c:UInt8}(h:dw c=aF):fU c=aM:=by
 unfold dw at h;unfold fU;simp only[B,bF]at h;simp;omega
def rZ{n:Int}(h:0<=n):Lib.itoa n=Lib.decDigits n.toNat:=by
 unfold Lib.itoa;rw[R J]
def NdO{n:Int}(f:0<=n)(l:n<=9223372036854775807){r:C}(d:∀c,r.head? =aN c->fx c=aM):nI (Lib.itoa n++r)=.ok (3,[],n,qj (Lib.itoa n)):=by
 rw[rZ f];generalize q:n.toNat=u;have g:n=(u:Int):=J
 have j:=DD u;have i:=BK u;have w:=BJ (p:=fx) d (Lib.decDigits u) λc h=>abG (j c h);have hd:=BJ (p:=dw) (λc b=>by
  have:=d c b;unfold fx at this;exact(fe.1 this).2) (Lib.decDigits u) j
 have k:gK (Lib.decDigits u++r)=(u,qj (Lib.decDigits u),0):=by
  unfold gK;rw[hd,adC];rw[R (by simp[i]),R,K J];rintro(b | ⟨e,c⟩)
  .exact i b
  rw[agG i]at c;exact rx0 u (lsd u e) c
 have a:vB (Lib.decDigits u++r)=.ok (3,[],n,qj (Lib.decDigits u)):=by
  unfold vB;rw[k,w,R X,R X,g]
 generalize o:Lib.decDigits u=m at*
 cases m with
 | nil=>exact absurd I i
 | cons c m=>
  have h:=j c X;have e:nI (c::m++r)=if fU c then oU (c::m++r)else if dw c then vB (c::m++r)else qk (c::m++r):=I
  rw[e,abg h,h,R Z,K I,a]
def xt{l:C}{i:Nat}{p r:C}{k:Int}{t:C}{n:Int}{s:L Tk}(h:l.drop i=p++r)(a:p≠[])(b:lM aM (p++r)=0)(d:nI (p++r)=.ok (k,t,n,qj p))(c:lN l (i+qj p)=.ok s):lN l i=.ok (⟨k,t,n,(i:Nat)⟩::s):=by
 have K:=mD.2 a;have e:i<qj l:=by
  have:=bN List.length h;rw[cD,aP]at this;omega
 rw[lI J,h,b,gy,R J,h,d];dsimp only;rw[c]
def lD{l:C}{i:Nat}{p r:C}(h:l.drop i=p++r):l.drop (i+qj p)=r:=by
 rw[<-jI,h,List.drop_left]
def CD{l:C}{i:Nat}{p r:C}(a:i<=qj l)(h:l.drop i=p++r):i+qj p<=qj l:=by
 have:=bN List.length h;rw[cD,aP]at this;omega
def nC:Nat->Ex->M->C
 | 0,_,_=>[]
 | d+1,x,wr=>clo wr (opn wr []++(
  if x.k=1 then Lib.itoa x.n
  else if x.k=2 then x.s
  else if x.k=3 then[105,110,40]++x.s++[41]
  else if x.k=4 then(match x.dK with
   | [y]=>eX x.op.toNat++nC d y (YR (P y<6))
   | _=>[])
  else(match x.dK with
   | [y,z]=>nC d y (YR (P y<P x))++([32]++eX x.op.toNat++[32])++nC d z (YR (P z<=P x))
   | _=>[])))
def pF wr l:opn wr l=l++opn wr []:=by cases wr<;>simp[opn]
def Yx wr l m:clo wr (l++m)=l++clo wr m:=by cases wr<;>simp[clo]
def Py wr l:qj l<=qj (clo wr l):=by cases wr<;>simp[clo]
def aiD wr l:qj l<=qj (opn wr l):=by cases wr<;>simp[opn]
def MU:∀d x wr l,qj l<=qj (rQ d x wr l)
 | 0,_,_,_=>H _
 | d+1,x,wr,l=>by
  rw[rQ];split
  .exact H _
  refine bB ?_ (Py _ _);have h:=aiD wr l;split
  .rw[aP];omega
  split
  .rw[aP];omega
  split
  .rw[aP];omega
  split
  .split
   .rename_i y _;have:=MU d y (YR (P y<6)) (opn wr l++eX x.op.toNat);rw[aP]at this;omega
   exact H _
  split
  .rename_i y z _;have b:=MU d y (YR (P y<P x)) (opn wr l);have a:=MU d z (YR (P z<=P x)) (rQ d y (YR (P y<P x)) (opn wr l)++([32]++eX x.op.toNat++[32]));rw[aP]at a;omega
  exact H _
def Hu:∀d {x:Ex} wr l,cV d x=aF->qj (rQ d x wr l)<=16384->rQ d x wr l=l++nC d x wr
 | 0,x,wr,l,h,_=>Ue
 | d+1,x,wr,l,h,c=>by
  rw[cV,B]at h;obtain⟨b,a⟩:=h;have f:=MU (d+1) x wr l;have e:¬16384<qj l:=J
  rw[rQ,R e]at c⊢;rw[nC,<-Yx];have A:=bB (Py wr _) c;by_cases k:x.k=1
  .rw[K k,K k,pF wr l,bq]
  by_cases g:x.k=2
  .rw[R k,R k,K g,K g,pF wr l,bq]
  by_cases k3:x.k=3
  .rw[R k,R k,R g,R g,K k3,K k3,pF wr l,bq]
  by_cases h:x.k=4
  .obtain⟨y,i,_⟩:=wW b h;rw[R k,R g,R k3,K h,i]at A;rw[R k,R k,R g,R g,R k3,R k3,K h,K h,i];rw[i]at a;dsimp only at A⊢;simp[lu,dY]at a;rw[Hu d _ _ a A,pF wr l];simp
  obtain⟨_,y,z,i,_⟩:=rR b k g k3 h;rw[R k,R g,R k3,R h,i]at A;rw[R k,R k,R g,R g,R k3,R k3,R h,R h,i];rw[i]at a;dsimp only at A⊢;simp[lu,dY,B]at a;have j:=MU d z (YR (P z<=P x)) (rQ d y (YR (P y<P x)) (opn wr l)++([32]++eX x.op.toNat++[32]));rw[aP]at j;rw[Hu d _ _ a.2 A,Hu d _ _ a.1 J,pF wr l];simp
def ZE(wr:M):L K3:=if wr then[(4,[40],0)]else[]
def UE(wr:M):L K3:=if wr then[(4,[41],0)]else[]
def qv:Nat->Ex->M->L K3
 | 0,_,_=>[]
 | d+1,x,wr=>ZE wr++(
  if x.k=1 then[(3,[],x.n)]
  else if x.k=2 then[(1,x.s,0)]
  else if x.k=3 then[(2,[105,110],0),(4,[40],0),(1,x.s,0),(4,[41],0)]
  else if x.k=4 then(match x.dK with
   | [y]=>(4,eX x.op.toNat,0)::qv d y (YR (P y<6))
   | _=>[])
  else(match x.dK with
   | [y,z]=>qv d y (YR (P y<P x))++(4,eX x.op.toNat,0)::qv d z (YR (P z<=P x))
   | _=>[]))++UE wr
def nN(c:UInt8):M:=fU c||dw c||c==40||c==45||c==33
def clk:∀n:Fin 256,nN (UInt8.ofNat n.val)=aF->qB (UInt8.ofNat n.val)=aM/\(UInt8.ofNat n.val==47)=aM/\UInt8.ofNat n.val≠61/\UInt8.ofNat n.val≠62:=KR
def nj{c}(h:nN c=aF):qB c=aM/\(c==47)=aM/\c≠61/\c≠62:=Ys (p:=λc=>nN c=aF->qB c=aM/\(c==47)=aM/\c≠61/\c≠62) clk c h
def Yy(c:UInt8):M:=[32,41,59,93,44,10].contains c
def wk(r:C):Prop:=∀c,r.head? =aN c->Yy c=aF
def adE:∀n:Fin 256,Yy (UInt8.ofNat n.val)=aF->fx (UInt8.ofNat n.val)=aM/\dw (UInt8.ofNat n.val)=aM/\UInt8.ofNat n.val≠61/\UInt8.ofNat n.val≠62:=KR
def PA{c}(h:Yy c=aF):fx c=aM/\dw c=aM/\c≠61/\c≠62:=Ys (p:=λc=>Yy c=aF->fx c=aM/\dw c=aM/\c≠61/\c≠62) adE c h
def wk.word{r}(h:wk r):∀l,(∀c,c∈l->fx c=aF)->(l++r).takeWhile fx=l
 | [],_=>by
  cases r with
  | nil=>rfl
  | cons c r=>
   rw[cd,dF,R (by rw[(PA (h c I)).1];decide)]
 | c::l,a=>by
  rw[cb,dF,K (a c X),h.word l λx hx=>a x Ze]
def Sw{n}(a:0<=n)(b:n<=9223372036854775807){r}(d:wk r):nI (Lib.itoa n++r)=.ok (3,[],n,qj (Lib.itoa n)):=NdO a b λc h=>(PA (d c h)).1
def mbN{s r}(n:dD s=aF)(d:wk r):nI (s++r)=.ok (1,s,0,qj s):=by
 unfold dD at n;simp only[B]at n;obtain⟨⟨⟨h,a⟩,b⟩,h4⟩:=n;obtain⟨h,f⟩:=u h;have h4:lq.contains s=aM:=Zo
 have w:oU (s++r)=.ok (1,s,0,qj s):=by
  unfold oU;rw[d.word s λc e=>by rw[<-u b]at e;exact Bt c e,R J,h4];rfl
 cases s with
 | nil=>exact absurd I h
 | cons c s=>
  have e:nI (c::s++r)=if fU c then oU _ else if dw c then vB _ else qk _:=I
  have a:fU c=aF:=a;rw[e,a,K I,w]
def aiE{op}(h:1<=op)(a:op<=13) r:nI (eX op++32::r)=.ok (4,eX op,0,qj (eX op))/\lM aM (eX op++32::r)=0:=by
 match op,h,a with
 | 1,_,_=>exact⟨I,I⟩
 | 2,_,_=>exact⟨I,I⟩
 | 3,_,_=>exact⟨I,I⟩
 | 4,_,_=>exact⟨I,I⟩
 | 5,_,_=>exact⟨I,I⟩
 | 6,_,_=>exact⟨I,I⟩
 | 7,_,_=>exact⟨I,I⟩
 | 8,_,_=>exact⟨I,I⟩
 | 9,_,_=>exact⟨I,I⟩
 | 10,_,_=>exact⟨I,I⟩
 | 11,_,_=>exact⟨I,I⟩
 | 12,_,_=>exact⟨I,I⟩
 | 13,_,_=>exact⟨I,I⟩
def xZ:∀d {x:Ex} wr,cV d x=aF->mo d x->∃c t,nC d x wr=c::t/\nN c=aF
 | 0,x,wr,h,_=>Ue
 | d+1,x,aF,h,_=>⟨40,_,I,Z⟩
 | d+1,x,aM,h,⟨n,s⟩=>by
  rw[cV,B]at h;obtain⟨a,b⟩:=h;have e:nC (d+1) x aM=(
  if x.k=1 then Lib.itoa x.n
  else if x.k=2 then x.s
  else if x.k=3 then[105,110,40]++x.s++[41]
  else if x.k=4 then(match x.dK with
   | [y]=>eX x.op.toNat++nC d y _
   | _=>[])
  else(match x.dK with
   | [y,z]=>nC d y _++_++nC d z _
   | _=>[])):=I
  rw[e];by_cases k:x.k=1
  .rw[K k];have d:0<=x.n:=by
    rw[iM,K k]at a;have:=(yN a).1;split at this<;>omega
   rw[rZ d];cases h:Lib.decDigits x.n.toNat with
   | nil=>exact absurd h (BK _)
   | cons c m=>
    have:=DD x.n.toNat c (by rw[h];simp);exact⟨c,m,I,by unfold nN;rw[this];simp⟩
  have m:dD x.s=aF->∃c t,x.s=c::t/\nN c=aF:=λn=>by
   unfold dD at n;simp at n;obtain⟨⟨⟨d,h⟩,f⟩,g⟩:=n;cases s:x.s with
   | nil=>rw[s]at h;cases h
   | cons c t=>
    rw[s]at h;have h:fU c=aF:=h;exact⟨c,t,I,by unfold nN;rw[h];simp⟩
  by_cases e:x.k=2
  .rw[R k,K e];exact m (lw a (.inl e))
  by_cases k3:x.k=3
  .rw[R k,R e,K k3];exact⟨105,_,I,Z⟩
  by_cases f:x.k=4
  .obtain⟨y,c,h⟩:=wW a f;rw[R k,R e,R k3,K f,c];rcases h with h | h
   .rw[h];exact⟨45,_,I,Z⟩
   rw[h];exact⟨33,_,I,Z⟩
  obtain⟨_,y,z,h,_⟩:=rR a k e k3 f;rw[R k,R e,R k3,R f,h];rw[h]at b s;simp[lu,dY,B]at b;obtain⟨c,t,g,i⟩:=xZ d _ b.1 (s y X);dsimp only;rw[g];exact⟨c,_,I,i⟩
def se{r}(a:∃c t,r=c::t/\nN c=aF):soft r:=by
 obtain⟨c,t,rfl,h⟩:=a;intro d hd;simp at hd;subst hd;exact⟨(nj h).2.2.1,(nj h).2.2.2⟩
def wk.soft{r}(h:wk r):soft r:=λd hd=>(PA (h d hd)).2.2
def yd{a b}(h:∃c t,a=c::t/\nN c=aF):∃c t,a++b=c::t/\nN c=aF:=by
 obtain⟨c,t,rfl,s⟩:=h;exact⟨c,t++b,I,s⟩
def af4{l}{i}{r}(h:l.drop i=32::r)(b:lM aM r=0):lN l i=lN l (i+1):=by
 have a:i<=qj l:=by
  refine bS λn=>?_;rw[dT J]at h;cases h
 rw[pv a,h,lM,K Z,b]
def ye{l}:∀d {x:Ex} wr i {r:C} {s:L Tk},cV d x=aF->mo d x->i<=(qj l)->l.drop i=nC d x wr++r->wk r->lN l (i+qj (nC d x wr))=.ok s->∃u,lN l i=.ok (u++s)/\u.map k3=qv d x wr
 | 0,x,wr,i,r,s,h,_,_,_,_,_=>Ue
 | d+1,x,wr,i,r,s,h,⟨A,g⟩,w,m,p,f=>by
  have D:=h;rw[cV,B]at h;obtain⟨v,j⟩:=h;have o:∀(i:Nat) {r:C} {s:L Tk},i<=(qj l)->l.drop i=nC (d+1) x aM++r->wk r->lN l (i+qj (nC (d+1) x aM))=.ok s->∃u,lN l i=.ok (u++s)/\u.map k3=qv (d+1) x aM:=by
   intro i r s w m p f;have e:nC (d+1) x aM=(
   if x.k=1 then Lib.itoa x.n
   else if x.k=2 then x.s
   else if x.k=3 then[105,110,40]++x.s++[41]
   else if x.k=4 then(match x.dK with
    | [y]=>eX x.op.toNat++nC d y (YR (P y<6))
    | _=>[])
   else(match x.dK with
    | [y,z]=>nC d y (YR (P y<P x))++([32]++eX x.op.toNat++[32])++nC d z (YR (P z<=P x))
    | _=>[])):=I
   have h:qv (d+1) x aM=(
   if x.k=1 then[(3,[],x.n)]
   else if x.k=2 then[(1,x.s,0)]
   else if x.k=3 then[(2,[105,110],0),(4,[40],0),(1,x.s,0),(4,[41],0)]
   else if x.k=4 then(match x.dK with
    | [y]=>(4,eX x.op.toNat,0)::qv d y (YR (P y<6))
    | _=>[])
   else(match x.dK with
    | [y,z]=>qv d y (YR (P y<P x))++(4,eX x.op.toNat,0)::qv d z (YR (P z<=P x))
    | _=>[]))++[]:=I
   rw[bC]at h;obtain⟨c0,M,G,V⟩:=xZ (d+1) aM D ⟨A,g⟩;have F:lM aM (nC (d+1) x aM++r)=0:=by
    rw[G,cb];exact N4 (nj V).1 (nj V).2.1
   have H:nC (d+1) x aM≠[]:=by rw[G];simp
   by_cases E:x.k=1
   .rw[K E]at e h;have a:0<=x.n:=by
     rw[iM,K E]at v;have:=(yN v).1;split at this<;>omega
    rw[h];exact⟨[⟨3,[],x.n,(i:Nat)⟩],xt m H F (by rw[e];exact Sw a A.2 p) f,I⟩
   by_cases N:x.k=2
   .rw[R E,K N]at e h;rw[h];exact⟨[⟨1,x.s,0,(i:Nat)⟩],xt m H F (by rw[e];exact mbN (lw v (.inl N)) p) f,I⟩
   by_cases W:x.k=3
   .rw[R E,R N,K W]at e h;have T:=lw v (.inr W);obtain⟨Y,S,Q,q⟩:∃c t,x.s=c::t/\nN c=aF:=by
     have y:=T;unfold dD at y;simp only[B]at y;obtain⟨⟨⟨_,z⟩,_⟩,_⟩:=y;cases g:x.s with
     | nil=>rw[g]at z;cases z
     | cons c t=>
      rw[g]at z;have z:fU c=aF:=z;exact⟨c,t,I,by unfold nN;rw[z];simp⟩
    have a0:l.drop i=[105,110]++([40]++(x.s++([41]++r))):=by rw[m,e];simp
    have a1:=lD a0;have a2:=lD a1;have a3:=lD a2;have len:qj (nC (d+1) x aM)=2+1+qj x.s+1:=by rw[e];simp;omega
    have f:lN l (i+qj ([105,110]:C)+qj ([40]:C)+qj x.s+qj ([41]:C))=.ok s:=by
     rw[<-f,len];congr 1;simp only[aZ,bE];omega
    have b3:=xt (n:=0) a3 X (N4 Z Z) (oA Z Z Z (mA Z p.soft)) f;have b2:=xt (n:=0) (k:=1) (t:=x.s) a2 (by rw[Q];simp) (by rw[Q,cb];exact N4 (nj q).1 (nj q).2.1) (mbN T λc hc=>L2) b3;have b1:=xt (n:=0) a1 X (N4 Z Z) (oA Z Z Z (mA Z (se (yd (a:=x.s) (b:=[41]++r) ⟨Y,S,Q,q⟩)))) b2;have b0:=xt (n:=0) (k:=2) (t:=[105,110]) a0 X (N4 Z Z) I b1;rw[h];exact⟨[_,_,_,_],b0,I⟩
   by_cases k:x.k=4
   .obtain⟨y,Q,n⟩:=wW v k;rw[R E,R N,R W,K k,Q]at e h;dsimp only at e h;rw[Q]at j g;simp only[lu,dY]at j;have t:=g y X;have S:=xZ d (YR (P y<6)) j t;have q:l.drop i=eX x.op.toNat++(nC d y (YR (P y<6))++r):=by rw[m,e,bq]
    have T:=lD q;have f:lN l (i+qj (eX x.op.toNat)+qj (nC d y (YR (P y<6))))=.ok s:=by
     rw[<-f,e,aP,dA]
    obtain⟨u,Y,u2⟩:=ye d (YR (P y<6)) _ j t (CD w q) T p f;have z:nI (eX x.op.toNat++(nC d y (YR (P y<6))++r))=.ok (4,eX x.op.toNat,0,qj (eX x.op.toNat))/\eX x.op.toNat≠[]/\lM aM (eX x.op.toNat++(nC d y (YR (P y<6))++r))=0:=by
     rcases n with n | n
     .rw[n];exact⟨oA (c:=45) Z Z Z (mA Z (se (yd (a:=nC d y (YR (P y<6))) (b:=r) S))),Z,N4 Z Z⟩
     rw[n];exact⟨oA (c:=33) Z Z Z (mA Z (se (yd (a:=nC d y (YR (P y<6))) (b:=r) S))),Z,N4 Z Z⟩
    rw[h];exact⟨⟨4,eX x.op.toNat,0,(i:Nat)⟩::u,xt q z.2.1 z.2.2 z.1 Y,by rw[cf,u2];rfl⟩
   obtain⟨_,y,z,hy,am,P0⟩:=rR v E N W k;rw[R E,R N,R W,R k,hy]at e h;dsimp only at e h;rw[hy]at j g;simp only[lu,dY,B]at j;have GH:=g y X;have V5:=g z X;obtain⟨cz,tz,S,Y⟩:=xZ d (YR (P z<=P x)) j.2 V5;have N5:lM aM (nC d z (YR (P z<=P x))++r)=0:=by
    rw[S,cb];exact N4 (nj Y).1 (nj Y).2.1
   have T:=aiE (op:=x.op.toNat) J J (nC d z (YR (P z<=P x))++r);have Q:eX x.op.toNat≠[]:=by
    have:∀q,q<14->1<=q->eX q≠[]:=Z
    exact this _ J J
   have a:l.drop i=nC d y (YR (P y<P x))++([32]++(eX x.op.toNat++([32]++(nC d z (YR (P z<=P x))++r)))):=by rw[m,e];simp only[bq]
   have b:=lD a;have n:=lD b;have t:=lD n;have a4:=lD t;have i1:=CD w a;have i2:=CD i1 b;have i3:=CD i2 n;have i4:=CD i3 t;have f:lN l (i+qj (nC d y (YR (P y<P x)))+qj ([32]:C)+qj (eX x.op.toNat)+qj ([32]:C)+qj (nC d z (YR (P z<=P x))))=.ok s:=by
    rw[<-f,e];congr 1;simp only[aP,aZ,bE];omega
   obtain⟨vs,v1,v2⟩:=ye d (YR (P z<=P x)) _ j.2 V5 i4 a4 p f;have b3:lN l (i+qj (nC d y (YR (P y<P x)))+qj ([32]:C)+qj (eX x.op.toNat))=.ok (vs++s):=by
    exact(af4 t N5).trans v1
   have b2:=xt n Q T.2 T.1 b3;have b1:=(af4 b T.2).trans b2;obtain⟨u,u1,u2⟩:=ye d (YR (P y<P x)) i j.1 GH w a (λc hc=>L2) b1;rw[h];exact⟨u++⟨4,eX x.op.toNat,0,_⟩::vs,by rw[u1,bq];rfl,by rw[cA,cf,u2,v2];rfl⟩
  cases wr
  .exact o i w m p f
  have e:nC (d+1) x aF=[40]++(nC (d+1) x aM++[41]):=by
   unfold nC;simp[clo,opn]
  have z:qv (d+1) x aF=(4,[40],0)::(qv (d+1) x aM++[(4,[41],0)]):=by
   unfold qv;simp[ZE,UE]
  have E:=xZ (d+1) aM D ⟨A,g⟩;have h:l.drop i=[40]++(nC (d+1) x aM++([41]++r)):=by rw[m,e];simp only[bq]
  have k:=lD h;have q:=lD k;have f:lN l (i+qj ([40]:C)+qj (nC (d+1) x aM)+qj ([41]:C))=.ok s:=by
   rw[<-f,e];congr 1;simp only[aP,aZ,bE];omega
  have y:=xt (n:=0) q X (N4 Z Z) (oA Z Z Z (mA Z p.soft)) f;obtain⟨u,F,G⟩:=o _ (CD w h) k (λc hc=>L2) y;have t:=xt (n:=0) h X (N4 Z Z) (oA Z Z Z (mA Z (se (yd (a:=nC (d+1) x aM) (b:=[41]++r) E)))) F;rw[z];refine⟨⟨4,[40],0,(i:Nat)⟩::(u++[⟨4,[41],0,((i+qj ([40]:C)+qj (nC (d+1) x aM):Nat):Int)⟩]),by rw[t];simp only[cb,bq,cd,jr],?_⟩;rw[cf,cA,G];rfl
def At(t:L Tk)(i:Nat)(a:L K3):Prop:=∀j q,a[j]? =aN q->k3 (tk t (i+j))=q
section
variable {ts:L Tk} {i:Nat} {A B:L K3}
def At.left(a:At ts i (A++B)):At ts i A:=λj q h=>a j q (by rw[bZ (bc.1 h).1];exact h)
def At.right(h:At ts i (A++B)):At ts (i+qj A) B:=λa q j=>by
 have:=h (qj A+a) q (by rw[ck J,dH];exact j);rwa[<-dA]at this
def At.head{q}(h:At ts i (q::A)):(tk ts i).k=q.1/\(tk ts i).t=q.2.1/\(tk ts i).n=q.2.2:=by
 have:=h 0 q I;rw[<-this];exact⟨I,I,I⟩
def At.tail{q}(h:At ts i (q::A)):At ts (i+1) A:=λj p a=>by
 have:=h (j+1) p a;rwa[dA,kw 1 j]
def gdP{p q}(a:1<=p)(b:p<=13)(c:1<=q)(d:q<=13)(h:eX p=eX q):p=q:=by
 have:∀p,p<14->∀q,q<14->1<=p->1<=q->eX p=eX q->p=q:=Z
 exact this p J q J a c h
def apz{op}(a:1<=op)(b:op<=13)(hk:(tk ts i).k=4)(t:(tk ts i).t=eX op) k:lO ts k i=if gf op=k then(op:Int)else 0:=by
 have:∀f q,1<=q->q+f<=14->kP ts k i f q=if q<=op/\op<q+f/\gf op=k then(op:Int)else 0:=by
  intro f
  induction f with
  | zero=>intro q _ _;rw[R J];rfl
  | succ f d=>
   intro q c g;rw[kP,d _ J J];by_cases e:q=op
   .subst e;have s:=Pv ⟨hk,t⟩;by_cases h:gf q=k
    .rw[K ⟨h,s⟩,K ⟨H _,J,h⟩]
    rw[R (λf=>h f.1),R J,R (λf=>h f.2.2)]
   have s:¬sg ts i _=aF:=λs=>e (by
    simp[sg,aR,bF]at s;exact gdP c J a b (by rw[<-t,s.2]))
   rw[R (λl=>s l.2)];by_cases j:q+1<=op/\op<q+1+f/\gf op=k
   .rw[K j,K ⟨J,J,j.2.2⟩]
   rw[R j,R (λl=>j ⟨J,J,l.2.2⟩)]
 rw[lO,this 13 1 J J];by_cases h:gf op=k
 .rw[K h,K ⟨a,J,h⟩]
 rw[R h,R (λc=>h c.2.2)]
def DE{op}(h:1<=op)(a:op<=13):0<=gf op/\gf op<=5:=by
 unfold gf;split
 .omega
 split
 .omega
 split
 .omega
 split
 .omega
 split
 .omega
 split
 .omega
 omega
def Sy{f d k0}{x}{j}(h:dy ts f k0 d i=.ok (x,j))(a:k0<=6):∀m k,k+m=k0->(∀q:Int,k<=q->q<k0->lO ts q j=0)->dy ts (f+m) k d i=.ok (x,j)
 | 0,k,hk,_=>by
  have:k=k0:=J
  subst this;exact h
 | m+1,k,hk,b=>by
  rw[<-dA,dy,R J,Sy h a m _ J λq d c=>b q J c];exact af2 (b _ (ja _) J) _
def agQ{f d k0}{e}(h:dy ts f k0 d i=.error e)(a:k0<=6):∀m k,k+m=k0->dy ts (f+m) k d i=.error e
 | 0,k,hk=>by
  have:=J
  subst this;exact h
 | m+1,k,hk=>by
  rw[<-dA,dy,R J,agQ h a m _ J];rfl
end
def Ok5(x:Ex)(j:Nat)(r:Pr):Prop:=(∃b,r=.ok (b,j)/\Sim x b)∨∃a,r=.error (21,a)
def Ok5.down{ts}{i f d k0 k}{x}{j}(c:Ok5 x j (dy ts (f-(k0-k)) k0 d i))(n:k0-k<=f)(b:k0<=6)(hk:k<=k0)(g:∀q:Int,k<=q->q<k0->lO ts q j=0):Ok5 x j (dy ts f k d i):=by
 have e:f=(f-(k0-k))+(k0-k):=J
 rcases c with⟨m,h,l⟩ | ⟨a,h⟩
 .exact .inl ⟨m,by rw[e];exact Sy h b _ k J g,l⟩
 exact .inr ⟨a,by rw[e];exact agQ h b _ k J⟩
abbrev PP(t:L Tk)(d:Nat):Prop:=∀{x:Ex} wr (k a i f:Nat),cV d x=aF->At t i (qv d x wr)->k<=6->(wr=aM->k<=P x)->a<=20->ia k a<=f->i+qj (qv d x wr)<(qj t)->(∀q:Int,k<=q->q<=5->lO t q (i+qj (qv d x wr))=0)->Ok5 x (i+qj (qv d x wr)) (dy t f k a i)
abbrev QQ(t:L Tk)(d:Nat):Prop:=∀{x:Ex} (k b i f:Nat),cV d x=aF->x.k=5->k=P x->At t i (qv d x aM)->b<=20->ia k b<=f+1->i+qj (qv d x aM)<(qj t)->(∀q:Int,k<q->q<=5->lO t q (i+qj (qv d x aM))=0)->
 (∃c g,(qj t)-(i+qj (qv d x aM))<=g/\dy t (f+1) k b i=jW t (dy t f (k+1) b) k g c (i+qj (qv d x aM))/\Sim x c)∨∃a,dy t (f+1) k b i=.error (21,a)
def Fu(x:Ex):x=.mk x.k x.n x.s x.op x.dK x.a:=by cases x;rfl
section
variable {ts:L Tk} {d:Nat}
def Sz(G:PP ts d)(hQ:QQ ts d):QQ ts (d+1):=by
 intro x k b i f N D Q L Z I W m;rw[cV,B]at N;obtain⟨t,l⟩:=N;obtain⟨_,y,z,A,v,S⟩:=rR t J J J J;have n:x.n=0/\x.s=[]:=by
  rw[iM,R J,R J,R J,K D,B]at t;have:=yN t.2;exact⟨this.1,this.2.1⟩
 have am:P x=gf x.op:=by rw[P,K D]
 obtain⟨r0,r5⟩:=DE v S;have V:qv (d+1) x aM=(qv d y (YR (P y<P x))++(4,eX x.op.toNat,0)::qv d z (YR (P z<=P x))):=by
  rw[qv,R J,R J,R J,R J,A];simp[ZE,UE]
 rw[V]at L W m⊢;rw[A]at l;simp only[lu,dY,B]at l;have F:=L.left;have r:=L.right;have o:=r.tail;obtain⟨t1,t2,_⟩:=r.head;rw[aP,aZ]at W m⊢;generalize e:i+qj (qv d y _)=j at*
 have u:i+(qj (qv d y (YR (P y<P x)))+(qj (qv d z (YR (P z<=P x)))+1))=j+1+qj (qv d z (YR (P z<=P x))):=J
 rw[u]at W m⊢;generalize E:j+1+qj (qv d z _)=j2 at*
 have C:∀q:Int,lO ts q j=if gf x.op=q then x.op else 0:=λq=>by
  have:=apz (ts:=ts) (i:=j) (op:=x.op.toNat) J J t1 t2 q;rwa[gu J]at this
 have s:x=.mk 5 0 [] x.op [y,z] x.a:=by
  have:=Fu x;rw[D,n.1,n.2,A]at this;exact this
 have T:ia (k+1) b<=f:=by unfold ia at I⊢;omega
 have X:(∃c g,(qj ts)-j<=g/\dy ts (f+1) k b i=jW ts (dy ts f (k+1) b) k g c j/\Sim y c)∨∃a,dy ts (f+1) k b i=.error (21,a):=by
  by_cases d:P y=P x
  .have a:YR (P y<P x)=aM:=bD J;have z:y.k=5:=by
    refine bS λhn=>?_;have:P y=6:=by rw[P,R hn]
    omega
   rw[a]at F e;have:=hQ (x:=y) k b i f l.1 z (by rw[d];exact Q) F Z I J (λq h1 h=>by rw[e,C,R J]);rw[e]at this;exact this
  have:=G (x:=y) _ (k+1) b i f l.1 F J (λw=>by have:=aU w;omega) Z T J (λq h1 h=>by rw[e,C,R J]);rw[e]at this;rw[dy,R J];rcases this with⟨c,h1,h⟩ | ⟨a,h1⟩
  .exact .inl ⟨c,(qj ts)-j,H _,Yp,h⟩
  exact .inr ⟨a,Yp⟩
 refine X.elim (λ⟨c,g,hg,h1,h⟩=>?_) .inr;obtain⟨g,rfl⟩:∃aC,g=aC+1:=⟨g-1,J⟩
 have jM:lO ts (k:Int) j=x.op:=by rw[C,K J]
 have M:=G (x:=z) _ (k+1) b (j+1) f l.2 o J (λw=>by have:=aU w;omega) Z T J (λq h1 h=>by rw[E];exact m q J h);rw[E]at M;rw[h1,jW,jM,R J];rcases M with⟨z',p,Y⟩ | ⟨a,p⟩
 .refine .inl ⟨.mk 5 0 [] x.op [c,z'] c.a,g,J,by rw[p];rfl,?_⟩;rw[s];exact .two _ _ _ _ _ _ _ _ _ _ h Y
 exact .inr ⟨a,by rw[p];rfl⟩
def adF(j:PP ts d)(Q:QQ ts d):PP ts (d+1):=by
 have p:∀{x:Ex} (k b i f:Nat),cV (d+1) x=aF->At ts i (qv (d+1) x aM)->k<=6->(k:Int)<=P x->b<=20->ia k b<=f->i+qj (qv (d+1) x aM)<(qj ts)->(∀q:Int,(k:Int)<=q->q<=5->lO ts q (i+qj (qv (d+1) x aM))=0)->Ok5 x (i+qj (qv (d+1) x aM)) (dy ts f k b i):=by
  intro x k b i f w L e g X hf W h;have m:=w;rw[cV,B]at w;obtain⟨l,n⟩:=w;by_cases o:x.k=5
  .obtain⟨_,y,z,F,r,s⟩:=rR l J J J J;have v:P x=gf x.op:=by rw[P,K o]
   obtain⟨G,M⟩:=DE r s;obtain⟨c,N⟩:∃c:Nat,(c:Int)=P x:=⟨(P x).toNat,J⟩
   refine Ok5.down (k0:=c) ?_ UA J J λq h1 a=>h q h1 J;obtain⟨t,d⟩:∃A,f-(c-k)=A+1:=⟨f-(c-k)-1,UA⟩
   rw[d];rcases Sz j Q c b i t m o N L X (by unfold ia at hf⊢;omega) W (λq h1 a=>h q J a)with⟨C,D,E,h1,a⟩ | u
   .exact .inl ⟨C,by rw[h1];exact af2 (h _ J J) _,a⟩
   exact .inr u
  refine Ok5.down (k0:=6) ?_ UA J J λq h1 t=>h q h1 J;obtain⟨v,u⟩:∃z,f-(6-k)=z+1:=⟨f-(6-k)-1,UA⟩
  have T:(20-b)*8<=v:=UA
  rw[u,dy,K I];unfold rh;by_cases r:x.k=1
  .have y:qv (d+1) x aM=[(3,[],x.n)]:=by rw[qv,K r];rfl
   rw[y]at L⊢;obtain⟨f,a,k⟩:=L.head;dsimp only at f a k;rw[Yr a Z,Yr a Z,Yr a Z,R Z,R Z,K f,k];refine .inl ⟨_,I,?_⟩;rw[iM,K r]at l;obtain⟨_,q,s,C⟩:=yN l;have A:x.dK=[]:=bL J;have:=Fu x;rw[r,q,s,A]at this;rw[this];exact .leaf ..
  by_cases k:x.k=2
  .have A:qv (d+1) x aM=[(1,x.s,0)]:=by rw[qv,R r,K k];rfl
   rw[A]at L⊢;obtain⟨a,f,D⟩:=L.head;dsimp only at a f D;have F:∀s,sg ts i s=aM:=λs=>by unfold sg;rw[a];rfl
   rw[F,F,F,R Z,R Z,R (by rw[a];decide),K a,f];refine .inl ⟨_,I,?_⟩;rw[iM,R r,K (.inl k),B]at l;obtain⟨q,E,y,G⟩:=yN l.2;have C:x.dK=[]:=bL J;have:=Fu x;rw[k,q,y,C]at this;rw[this];exact .leaf ..
  by_cases f:x.k=3
  .have O:qv (d+1) x aM=[(2,[105,110],0),(4,[40],0),(1,x.s,0),(4,[41],0)]:=by rw[qv,R r,R k,K f];rfl
   rw[O]at L⊢;obtain⟨a,A,V⟩:=L.head;obtain⟨C,D,Y⟩:=L.tail.head;obtain⟨E,G,v3⟩:=L.tail.tail.head;obtain⟨q,y,U⟩:=L.tail.tail.tail.head;dsimp only at a A V C D Y E G v3 q y U;have F:∀s,sg ts i s=aM:=λs=>by unfold sg;rw[a];rfl
   rw[F,F,F,R Z,R Z,R (by rw[a];decide),R (by rw[a];decide),K ⟨a,A⟩];unfold F1;rw[K (Pv ⟨C,D⟩),K E,K (Pv ⟨q,y⟩)];refine .inl ⟨_,I,?_⟩;rw[iM,R r,K (.inr f),B]at l;obtain⟨M,b2,N,b4⟩:=yN l.2;have S:x.dK=[]:=bL J;have:=Fu x;rw[f,M,N,S]at this;rw[G,this];exact .leaf ..
  have A:x.k=4:=bS λA=>o (rR l r k f A).1;obtain⟨y,E,s⟩:=wW l A;have M:qv (d+1) x aM=(4,eX x.op.toNat,0)::qv d y (YR (P y<6)):=by
   rw[qv,R r,R k,R f,K A,E];simp[ZE,UE]
  rw[M]at L W⊢;rw[E]at n;simp only[lu,dY]at n;obtain⟨F,C,N⟩:=L.head;dsimp only at F C N;have D:(sg ts i [45]||sg ts i [33])=aF:=by
   rcases s with s | s
   .have:sg ts i [45]=aF:=Pv ⟨F,by rw[C,s];rfl⟩;rw[this,Dd]
   have:sg ts i [33]=aF:=Pv ⟨F,by rw[C,s];rfl⟩;rw[this,pL]
  rw[K D];by_cases G:b=20
  .exact .inr ⟨(tk ts i).a,by rw[kl,K G];rfl⟩
  rw[kl,R G];rw[aZ]at W⊢;have O:i+(qj (qv d y (YR (P y<6)))+1)=i+1+qj (qv d y (YR (P y<6))):=J
  rw[O]at W⊢;rcases j (x:=y) (YR (P y<6)) 6 (b+1) (i+1) v n L.tail (H _) (λS=>by have:=aU S;omega) J KT W (λq h1 t=>J)with⟨U,h1,t⟩ | ⟨a,h1⟩
  .refine .inl ⟨_,Yp,?_⟩;rw[iM,R r,R J,K A]at l;obtain⟨a,d,y,V⟩:=yN l;have q:(if(tk ts i).t=[33]then(15:Int)else 14)=x.op:=by
    rcases s with s | s
    .rw[C,s];rfl
    rw[C,s];rfl
   have:=Fu x;rw[A,a,d,E]at this;rw[q,this];exact .one _ _ _ _ _ _ _ _ t
  exact .inr ⟨a,Yp⟩
 intro x wr k b i f w L e g X hf W h;cases wr
 .exact p k b i f w L e (g I) X hf W h
 have u:qv (d+1) x aF=(4,[40],0)::(qv (d+1) x aM++[(4,[41],0)]):=by
  unfold qv;simp[ZE,UE]
 refine Ok5.down (k0:=6) ?_ UA J J λq h1 l=>h q h1 J;rw[u]at L W⊢;obtain⟨o,m⟩:∃v,f-(6-k)=v+1:=⟨f-(6-k)-1,UA⟩
 have T:(20-b)*8<=o:=UA
 obtain⟨s,t,z⟩:=L.head;have N:=L.tail.left;obtain⟨r,n,y⟩:=L.tail.right.head;dsimp only at s t z r n y;rw[m,dy,K I];unfold rh;rw[Yr t Z,Yr t Z,Pv ⟨s,t⟩,R Z,K I];by_cases D:b=20
 .exact .inr ⟨(tk ts i).a,by rw[kl,K D]⟩
 rw[kl,R D];rw[aZ,aP,bA]at W⊢;have k:i+(qj (qv (d+1) x aM)+1+1)=i+1+qj (qv (d+1) x aM)+1:=J
 rw[k]at W⊢;have f:0<=P x:=by
  unfold P gf;split
  .split
   .omega
   split
   .omega
   split
   .omega
   split
   .omega
   split
   .omega
   split
   .omega
   omega
  omega
 rcases p 0 (b+1) (i+1) o w N J J J KT J (λq h1 l=>apw n Z q)with⟨A,h1,l⟩ | ⟨a,h1⟩
 .refine .inl ⟨A,?_,l⟩;rw[h1];simp only[wi];rw[K (Pv ⟨r,n⟩)]
 exact .inr ⟨a,Yp⟩
def MX ts:∀d,PP ts d/\QQ ts d
 | 0=>⟨(by intro x wr k d i f h;cases h),(by intro x k d i f h;cases h)⟩
 | d+1=>⟨adF (MX ts d).1 (MX ts d).2,Sz (MX ts d).1 (MX ts d).2⟩
end
def ahr{d:Nat}{x:Ex}(o:cV d x=aF)(F:mo d x)(h:(iV (rQ d x aM [])).2.1=0):qj (rQ d x aM [])<=16384/\Sim x (iV (rQ d x aM [])).1:=by
 have i:qj (rQ d x aM [])<=16384:=by
  refine bS λb=>?_;unfold iV at h;have:de (rQ d x aM [])=([],2, -1):=by rw[de,K J]
  rw[this,K Z]at h;exact absurd h (show ¬(2:Int)=0 by decide)
 refine⟨i,?_⟩;have e:=Hu d aM [] o i;rw[cd]at e;rw[e]at h i⊢;generalize y:nC d x aM=L at*
 have S:lN L (0+qj L)=.ok [⟨5,[],0,((qj L:Nat):Int)⟩]:=by
  have hd:L.drop (qj L)=[]:=dT (H _);have a:lM aM []=0:=I;rw[bR,lI (H _),hd,a,K J];rfl
 obtain⟨f,E,w⟩:=ye (l:=L) d (x:=x) aM 0 (r:=[]) o F (bf _) (by rw[gJ,bC,y]) (λc b=>by cases b) (by rw[y];exact S);generalize Q:f++[(⟨5,[],0,((qj L:Nat):Int)⟩:Tk)]=s at*
 have G:de L=(s,0,0):=by
  rw[de,R J,E]
 have u:qj f=qj (qv d x aM):=by rw[<-w,bH]
 have N:qj s=qj f+1:=by rw[<-Q,aP,bA]
 have C:At s 0 (qv d x aM):=λv q A=>by
  rw[<-w,cw,fm]at A;obtain⟨t,g,rfl⟩:=A;have:tk s (0+v)=t:=by
   unfold tk;rw[<-Q,bR,bZ (bc.1 g).1,g];rfl
  rw[this]
 have k:(tk s (qj f)).k=5:=by
  unfold tk;rw[<-Q,ck (H _),pQ];rfl
 have B:0<=P x:=by
  unfold P gf;split
  .split
   .omega
   split
   .omega
   split
   .omega
   split
   .omega
   split
   .omega
   split
   .omega
   omega
  omega
 have z:=(MX s d).1 (x:=x) aM 0 0 0 (ia 0 0) o C Z (λ_=>J) Z (H _) J (λq _ _=>aiC (by rw[bR,<-u];exact k) q);have m:tJ s 0=dy s (ia 0 0) 0 0 0:=I;rw[<-m]at z;have n:iV L=if(cN s 0).2.2.1≠0 then(zI,(cN s 0).2.2.1,(cN s 0).2.2.2)else if(tk s (cN s 0).2.1.toNat).k≠5 then(zI,4,(tk s (cN s 0).2.1.toNat).a)else((cN s 0).1,0,(cN s 0).2.2.2):=by
  unfold iV;rw[G];rfl
 rw[n]at h⊢;have j:cN s 0=if 0<qj s/\om s+1=qj s then(match tJ s 0 with
  | .error (c,p)=>(zI,0,c,p)
  | .ok (x,v)=>(x,(v:Int),0,0))else(zI,0,1, -1):=by
  unfold cN;by_cases b:0<qj s/\om s+1=qj s
  .rw[K b,K ⟨ja _,J,b.2⟩];rfl
  rw[R b,R (λa=>b ⟨J,a.2.2⟩)]
 rw[j]at h⊢;have b:0<qj s/\om s+1=qj s:=bS λb=>by
  rw[R b,K Z]at h;exact absurd h (show ¬(1:Int)=0 by decide)
 rw[K b]at h⊢;rcases z with⟨M,g,D⟩ | ⟨a,g⟩
 .rw[g]at h⊢;dsimp only at h⊢;rw[R Z,ba,bR,<-u,k,R Z];exact D
 rw[g]at h;dsimp only at h;rw[K Z]at h;exact absurd h (show ¬(21:Int)=0 by decide)
structure Em (ts qc:List Tk) (n o:Nat):Prop where
 e:∀i,n<=i->(tk ts i).k=5
 s:∀i,i<n->(tk qc (o+i)).k=(tk ts i).k/\(tk qc (o+i)).t=(tk ts i).t/\(tk qc (o+i)).n=(tk ts i).n
 c:(tk qc (o+n)).k=4/\((tk qc (o+n)).t=[59]∨(tk qc (o+n)).t=[93])
def Rm(n o:Nat)(r b:Pr):Prop:=∀x j,r=.ok (x,j)->∃a,b=.ok (a,o+j)/\Sim x a/\j<=n
def MZ(op:Nat):eX op≠[59]/\eX op≠[93]:=by
 rcases nu op 16 with h | h
 .have:∀q,q<16->eX q≠[59]/\eX q≠[93]:=Z
  exact this op h
 unfold eX;rw[cW (by exact h)];decide
section
variable {ts qc:L Tk} {n o:Nat}
def Em.lt(h:Em ts qc n o){i:Nat}(hk:(tk ts i).k≠5):i<n:=bS λa=>hk (h.e i J)
def Em.Tl(h:Em ts qc n o){i:Nat}(c:i<n)(s:C):sg qc (o+i) s=sg ts i s:=by
 unfold sg;obtain⟨a,b,_⟩:=h.s i c;rw[a,b]
def Em.sgn(h:Em ts qc n o){i:Nat}(d:i<=n){s:C}(a:s≠[59])(b:s≠[93]):sg qc (o+i) s=sg ts i s:=by
 rcases nu i n with l | l
 .exact h.Tl l s
 have:i=n:=J
 subst this;unfold sg;rw[h.e i (H _)];have:YR ((tk qc (o+i)).t=s)=aM:=bD λe=>by
  rcases h.c.2 with c | c
  .exact a (by rw[<-e,c])
  exact b (by rw[<-e,c])
 rw[this,ga];rfl
def Em.opf(h:Em ts qc n o){i:Nat}(a:i<=n)(k:Int):∀(f op:Nat),kP qc k (o+i) f op=kP ts k i f op
 | 0,_=>rfl
 | f+1,op=>by rw[kP,kP,h.sgn a (MZ op).1 (MZ op).2,h.opf a k f]
def Em.op(h:Em ts qc n o){i:Nat}(a:i<=n)(k:Int):lO qc k (o+i)=lO ts k i:=h.opf a k 13 1
def Rm.map{r c:Pr}(h:Rm n o r c){b g:Ex->Ex}(j:∀x a,Sim x a->Sim (b x) (g a)):Rm n o (LR b r) (LR g c):=by
 intro x l k;obtain⟨y,d,rfl⟩:=Dl k;obtain⟨a,e,f,i⟩:=h y l d;exact⟨g a,by rw[e];rfl,j _ _ f,i⟩
def Rm.and{r c:Pr}{f b:Ex->Nat->Pr}(d:Rm n o r c)(l:∀x a j,r=.ok (x,j)->j<=n->Sim x a->Rm n o (f x j) (b a (o+j))):Rm n o (Gl r f) (Gl c b):=by
 intro x j p;obtain⟨y,m,h,k⟩:=Ah p;obtain⟨a,e,g,i⟩:=d y m h;rw[e];exact l y a m h i g x j k
def Rm.nest{r b:Pr}{d:Nat}{a c:Int}(f:Rm n o r b):Rm n o (kl d a r) (kl d c b):=by
 intro x j h;obtain⟨g,i⟩:=uo h;have:d≠20:=λe=>by rw[kl,K e]at h;cases h
 rw[kl,R this];exact f x j g
def Rm.par(w:Em ts qc n o){r a:Pr}(b:Rm n o r a):Rm n o (wi ts r) (wi qc a):=by
 intro x k f;obtain⟨j,c,h,rfl⟩:=Dm f;obtain⟨g,d,e,i⟩:=b x j c;have l:=w.lt (yx h);exact⟨g,by rw[d];simp only[wi];rw[K (by rw[w.Tl l];exact h)];rfl,e,l⟩
def Rm.err{e:Int×Int}{r:Pr}:Rm n o (.error e) r:=λx j hx=>Ub
def Rm.in_(w:Em ts qc n o)(i:Nat):Rm n o (F1 ts i) (F1 qc (o+i)):=by
 intro x j h;have a:=h;obtain⟨rfl,rfl⟩:=O0 a;unfold F1 at h;split at h
 .rename_i b;split at h
  .rename_i c;split at h
   .rename_i d;have l:=w.lt (yx d);have e:(tk qc (o+i+2)).k=(tk ts (i+2)).k/\(tk qc (o+i+2)).t=(tk ts (i+2)).t/\(tk qc (o+i+2)).n=(tk ts (i+2)).n:=w.s (i+2) J;refine⟨.mk 3 0 (tk qc (o+i+2)).t 0 [] (tk qc (o+i)).a,?_,?_,l⟩
    .unfold F1;rw[K (show sg qc (o+i+1) [40]=aF from(w.Tl (i:=i+1) J _).trans b),K (by rw[e.1];exact c),K (show sg qc (o+i+3) [41]=aF from(w.Tl (i:=i+3) l _).trans d)];rfl
    rw[e.2.1];exact .leaf ..
   cases h
  cases h
 cases h
def Rm.one(h:Em ts qc n o){b EV E a:Nat->Pr}{d i:Nat}(c:∀i,i<=n->Rm n o (b i) (E (o+i)))(O:∀i,i<=n->Rm n o (EV i) (a (o+i)))(e:i<=n):Rm n o (rh ts b EV d i) (rh qc E a d (o+i)):=by
 by_cases N:i=n
 .subst N;have h5:=h.e i (H _);have f:∀s,sg ts i s=aM:=λs=>by
   unfold sg;rw[h5];rfl
  have:rh ts b EV d i=.error (jE ts i):=by
   unfold rh;rw[f,f,f,R Z,R Z,R G0,R G0,R (by rw[h5];rintro⟨d,_⟩;exact absurd d Z)]
  rw[this];exact Rm.err
 have l:i<n:=J
 obtain⟨k,d,k3⟩:=h.s i l;unfold rh;rw[h.Tl l,h.Tl l,h.Tl l,k,d,k3];split
 .exact Rm.map (Rm.nest (O (i+1) l)) λx g f=>.one _ _ _ _ _ _ _ _ f
 split
 .exact Rm.nest (Rm.par h (c (i+1) l))
 split
 .intro x j f;simp only[fZ,im]at f;obtain⟨rfl,rfl⟩:=f;exact⟨_,I,.leaf ..,l⟩
 split
 .intro x j f;simp only[fZ,im]at f;obtain⟨rfl,rfl⟩:=f;exact⟨_,I,.leaf ..,l⟩
 split
 .exact Rm.in_ h i
 exact Rm.err
def Rm.loop(h:Em ts qc n o){E c:Nat->Pr}{k:Int}(m:∀i x j,E i=.ok (x,j)->i<j)(d:∀i,i<=n->Rm n o (E i) (c (o+i))):∀(g a:Nat) (x b:Ex) (j:Nat),j<=n->n-j<g->n-j<a->Sim x b->Rm n o (jW ts E k g x j) (jW qc c k a b (o+j))
 | 0,_,_,_,j,_,e,_,_=>J
 | _,0,_,_,j,_,_,e,_=>J
 | g+1,a+1,x,b,j,e,f,k,s=>by
  rw[jW,jW,h.op e];split
  .intro y n l;simp only[fZ,im]at l;obtain⟨rfl,rfl⟩:=l;exact⟨_,I,s,e⟩
  rename_i l;have o:=h.lt (rC _ _ l);refine Rm.and (d (j+1) o) λy r q p n z=>?_;have:=m _ _ _ p;exact Rm.loop h m d g a _ _ q n J J (.two _ _ _ _ _ _ _ _ _ _ s z)
def Rm.expr(w:Em ts qc n o)(l:qj ts=n+1)(h:o+n<qj qc):∀(f k d i:Nat),i<=n->Rm n o (dy ts f k d i) (dy qc f k d (o+i))
 | 0,k,d,i,_=>Rm.err
 | f+1,k,d,i,a=>by
  rw[dy,dy];split
  .exact Rm.one w (λi a=>Rm.expr w l h f 0 (d+1) i a) (λi a=>Rm.expr w l h f 6 (d+1) i a) a
  have R:∀i,i<=n->Rm n o (dy ts f (k+1) d i) (dy qc f (k+1) d (o+i)):=λi a=>Rm.expr w l h f (k+1) d i a;refine Rm.and (R i a) λx g c e j s=>?_;exact Rm.loop w (λi x c b=>ml _ _ _ _ b) R _ _ _ _ _ j J J s
end
def Sim.trans{x y:Ex}(h:Sim x y):∀{z:Ex},Sim y z->Sim x z:=by
 induction h with
 | leaf k n s op a b=>intro z c;cases c;exact .leaf ..
 | one k n s op a b x y h i=>intro z e;cases e with | one _ _ _ _ _ c _ z d=>exact .one _ _ _ _ _ _ _ _ (i d)
 | two k n s op a b x y m o j l i e=>intro z d;cases d with | two _ _ _ _ _ c _ _ p q f g=>exact .two _ _ _ _ _ _ _ _ _ _ (i f) (e g)
def Pk(E:C->Prop)(p:C)(k:L K3):Prop:=∀l i r t,i<=(qj l)->l.drop i=p++r->E r->lN l (i+qj p)=.ok t->∃u,lN l i=.ok (u++t)/\u.map k3=k
abbrev Tr:C->Prop:=λ_=>True
def VN(q:C):Prop:=∃c t,q=c::t/\Yy c=aF
section
variable {E E':C->Prop} {p q:C} {a b:L K3}
def Pk.nil E:Pk E [] []:=λ_ _ _ t _ _ _ h=>⟨[],h,I⟩
def X9:=@Pk.nil
def Pk.glue(d:Pk E p a)(k:Pk E' q b)(j:∀r,E' r->E (q++r)):Pk E' (p++q) (a++b):=by
 intro m l r s h hd c t;rw[bq]at hd;obtain⟨u,e,f⟩:=k _ _ _ _ (CD h hd) (lD hd) c (by rw[dA,<-aP];exact t);obtain⟨v,g,i⟩:=d _ _ _ _ h hd (j r c) e;exact⟨v++u,by rw[bq];exact g,by rw[cA,f,i]⟩
def Pk.t(h:Pk Tr p a)(k:Pk E q b):Pk E (p++q) (a++b):=h.glue k λ_ _=>trivial
def VN.wm(h:VN q) r:wk (q++r):=by
 obtain⟨c,t,rfl,a⟩:=h;intro d hd;rw[cb,nR,bP]at hd;subst hd;exact a
def Pk.e(h:Pk wk p a)(k:Pk E q b)(c:VN q):Pk E (p++q) (a++b):=h.glue k λr _=>c.wm r
def YA{c}(b:qB c=aF):Pk Tr [c] []:=by
 intro l i r s a hd _ t;refine⟨[],?_,I⟩;have h:l.drop i=c::r:=hd;have f:i+1<=qj l:=CD a hd;have d:l.drop (i+1)=r:=lD hd;have e:lM aM (c::r)=1+lM aM r:=by rw[lM,K b]
 rw[pv a,h,e,<-dA];rw[bA,pv f,d]at t;exact t
def Pk.sp(h:Pk E q b):Pk E (32::q) b:=(YA (c:=32) Z).t h
def Ot:=@Pk.sp
def Pk.nl(h:Pk Tr p a):Pk Tr (p++[10]) a:=by
 have:=h.t (YA (c:=10) Z);rwa[bC]at this
def BL{k}{t}{n}(b:p≠[])(h:∀r,E r->lM aM (p++r)=0/\nI (p++r)=.ok (k,t,n,qj p)):Pk E p [(k,t,n)]:=λl d r s i hd a c=>
 ⟨[_],xt hd b (h r a).1 (h r a).2 c,I⟩
def awo{c}(h:fU c=aM)(a:dw c=aM)(b:[60,62,61,33].contains c=aM)(e:[38,124].contains c=aM)(f:(c==45)=aM)(g:qC.contains c=aF) r:nI (c::r)=.ok (4,[c],0,1):=by
 have s:uk (c::r)=aM:=by
  cases r with
  | nil=>rfl
  | cons d r=>
   show(_||_||_)=aM;rw[b,e,f];simp
 exact oA h a g s
def lF(c:UInt8):K3:=(4,[c],0)
def Yh:K3:=(4,[45,62],0)
def Pk.one c (a:fU c=aM) (d:dw c=aM) (e:[60,62,61,33].contains c=aM) (f:[38,124].contains c=aM) (g:(c==45)=aM) (i:qC.contains c=aF) (j:qB c=aM) (k:(c==47)=aM) (h:Pk E q b):Pk E (c::q) (lF c::b):=
 (BL (p:=[c]) (E:=Tr) X λr _=>⟨N4 j k,awo a d e f g i r⟩).t h
def Pk.lb(h:Pk E q b):Pk E (123::q) (lF 123::b):=h.one 123 Z Z Z Z Z Z Z Z
def Pk.rb(h:Pk E q b):Pk E (125::q) (lF 125::b):=h.one 125 Z Z Z Z Z Z Z Z
def Pk.lk(h:Pk E q b):Pk E (91::q) (lF 91::b):=h.one 91 Z Z Z Z Z Z Z Z
def Pk.rk(h:Pk E q b):Pk E (93::q) (lF 93::b):=h.one 93 Z Z Z Z Z Z Z Z
def Pk.sc(h:Pk E q b):Pk E (59::q) (lF 59::b):=h.one 59 Z Z Z Z Z Z Z Z
def Pk.cm(h:Pk E q b):Pk E (44::q) (lF 44::b):=h.one 44 Z Z Z Z Z Z Z Z
def Pk.eq(h:Pk E q b)(a:VN q):Pk E (61::q) (lF 61::b):=
 (BL (p:=[61]) (E:=wk) X λc r=>⟨N4 Z Z,oA Z Z Z (mA Z r.soft)⟩).e h a
def Pk.to(h:Pk E q b):Pk E (45::62::q) (Yh::b):=
 (BL (p:=[45,62]) (E:=Tr) X λr _=>⟨N4 Z Z,I⟩).t h
def zo:VN (59::q):=⟨59,q,I,I⟩
def jL:VN (32::q):=⟨32,q,I,I⟩
def aiF:VN (93::q):=⟨93,q,I,I⟩
def aiG:VN (44::q):=⟨44,q,I,I⟩
def SA{s}(a:s≠[])(g:qj s<=24)(b:∃c t,s=c::t/\fU c=aF)(d:∀c,c∈s->fx c=aF):Pk wk s [(if lq.contains s then 2 else 1,s,0)]:=by
 obtain⟨c,t,rfl,h⟩:=b;refine BL a λf r=>⟨?_,?_⟩
 .have:=nj (c:=c) (by unfold nN;rw[h];simp);exact N4 this.1 this.2.1
 have e:nI (c::t++f)=if fU c then oU _ else if dw c then vB _ else qk _:=I
 rw[e,h,K I];unfold oU;rw[r.word _ d,R J]
def oB{s}(n:dD s=aF):Pk wk s [(1,s,0)]:=by
 unfold dD at n;simp only[B]at n;obtain⟨⟨⟨h,a⟩,b⟩,h4⟩:=n;obtain⟨h,d⟩:=u h;have h4:lq.contains s=aM:=Zo
 have:=SA h d (by
  cases s with
  | nil=>exact absurd I h
  | cons c t=>exact⟨c,t,I,a⟩) (λc e=>by rw[<-u b]at e;exact Bt c e)
 rw[h4]at this;exact this
def sf{s}(a:(YR (s≠[]/\qj s<=24)&&(match s with | c::_=>fU c | []=>aM)&&s.all fx&&lq.contains s)=aF):Pk wk s [(2,s,0)]:=by
 simp only[B]at a;obtain⟨⟨⟨h,b⟩,d⟩,e⟩:=a;obtain⟨h,f⟩:=u h;have:=SA h f (by
  cases s with
  | nil=>exact absurd I h
  | cons c t=>exact⟨c,t,I,b⟩) (λc g=>(du.1 d) c g)
 rw[e]at this;exact this
def PB{n}(h:0<=n)(a:n<=9223372036854775807):Pk wk (Lib.itoa n) [(3,[],n)]:=by
 have i:Lib.itoa n≠[]:=by rw[rZ h];exact BK _
 refine BL i λb r=>⟨?_,Sw h a r⟩
 rw[rZ h];cases m:Lib.decDigits n.toNat with
 | nil=>exact absurd m (BK _)
 | cons c d=>
  have:=nj (c:=c) (by unfold nN;rw[DD n.toNat c (by rw[m];simp)];simp);exact N4 this.1 this.2.1
def Js(v:Int):L K3:=if v<0 then[lF 45,(3,[], -v)]else[(3,[],v)]
def aiH{v}(a:qO v)(m:v≠ -9223372036854775808):Pk wk (Lib.itoa v) (Js v):=by
 obtain⟨b,d⟩:=a;unfold Js;by_cases h:v<0
 .rw[K h];have e:Lib.itoa v=45::Lib.itoa (-v):=by
   unfold Lib.itoa;rw[K h,R J,show v.natAbs=(-v).toNat by omega]
  rw[e];refine(BL (p:=[45]) (E:=λr=>soft r) (k:=4) (t:=[45]) (n:=0) X λr f=>⟨N4 Z Z,oA Z Z Z (mA Z f)⟩).glue (PB (n:= -v) J J) λr f=>?_;show soft (Lib.itoa _++r);rw[rZ (n:= -v) J];cases m:Lib.decDigits (-v).toNat with
  | nil=>exact absurd m (BK _)
  | cons c e=>
   exact se ⟨c,e++r,I,by unfold nN;rw[DD (-v).toNat c (by rw[m];simp)];simp⟩
 rw[R h];exact PB J J
end
def M2(x:Ex):L K3:=qv (Gp x) x aM
def af6{x}(c:uz x=aF)(n:Um x):cV (Gp x) x=aF/\yz x=nC (Gp x) x aM/\(iV (yz x)).2.1=0/\qj (yz x)<=16384/\Sim x (iV (yz x)).1:=by
 obtain⟨h,d,a⟩:=Mb (u c);obtain⟨b,e⟩:=ahr h (n _) a;unfold yz;rw[d];exact⟨h,Hu _ aM [] h b,a,b,e⟩
def af7{x}(a:uz x=aF)(h:Um x):Pk wk (yz x) (M2 x):=by
 obtain⟨b,c,_⟩:=af6 a h;rw[c];exact λl d e s i hd r t=>ye _ aM d b (h _) i hd r t
def PC(a:Ac):L K3:=
 if a.k=2 then(2,lQ,0)::(1,a.n,0)::[lF 59]else(2,if a.k=1 then tM else mZ,0)::(1,a.n,0)::lF 61::(M2 a.x++[lF 59])
def Fv:L Ac->L K3
 | []=>[]
 | a::l=>PC a++Fv l
def F5(l:L Ac):L K3:=lF 123::(Fv l++[lF 125])
def apA{a}(h:iZ a=aF)(n:Hc a):Pk Tr (Du a) (PC a):=by
 unfold iZ at h;simp at h;obtain⟨⟨d,b⟩,c⟩:=h;unfold Du PC;by_cases hk:a.k=2
 .rw[K hk,K hk];exact(sf (s:=lQ) Z).e (Ot ((oB b).e (Pk.sc (X9 _)) zo)) jL
 rw[R hk]at c⊢;rw[R hk];have tail:=Ot ((oB b).e (Ot (Pk.eq (Ot ((af7 c n).e (Pk.sc (X9 Tr)) zo)) jL)) jL);by_cases k:a.k=1
 .simp[K k];exact(sf (s:=tM) Z).e tail jL
 simp[R k];exact(sf (s:=mZ) Z).e tail jL
def YC:∀{l:L Ac},l.all iZ=aF->(∀a,a∈l->Hc a)->Pk Tr (An l) (Fv l)
 | [],_,_=>X9 _
 | a::l,h,n=>by
  rw[mf,B]at h;exact Ot ((apA h.1 (n a X)).t (YC h.2 λb c=>n b (by simp[c])))
def YD{l}(h:l.all iZ=aF)(n:∀a,a∈l->Hc a):Pk Tr (zU l) (F5 l):=
 Pk.lb ((YC h n).t (Ot (Pk.rb (X9 _))))
def VO:L (C)->L K3
 | []=>[]
 | s::l=>lF 44::(1,s,0)::VO l
def PI(m:Mv):L K3:=if m.k=1 then[(2,Ds,0),(1,m.ev,0)]else if m.k=3 then[(2,jF,0),(3,[],m.wt)]else[(2,iW,0)]
def WE(m:Mv):L K3:=if m.gd then lF 91::(M2 m.g++[lF 93])else[]
def SB(m:Mv):L K3:=match m.tg with
 | []=>[]
 | s::l=>Yh::(1,s,0)::VO l
def SD(m:Mv):L K3:=PI m++(WE m++((if m.acts=[]then[]else F5 m.acts)++(SB m++[lF 59])))
def af8:∀{l:L _},l.all dD=aF->Pk Tr (Ha l++[59]) (VO l++[lF 59])/\VN (Ha l++[59])
 | [],_=>⟨Pk.sc (X9 _),zo⟩
 | s::l,h=>by
  rw[mf,B]at h;obtain⟨a,b⟩:=af8 h.2;refine⟨?_,aiG⟩;have:=Pk.cm (Ot ((oB h.1).e a b));simpa[Ha,VO]using this
def apC{m}(h:mr m=aF)(n:V7 m):Pk Tr (Gq m) (SD m):=by
 unfold mr at h;simp only[B]at h;obtain⟨⟨⟨⟨⟨o,d⟩,e⟩,l⟩,a⟩,f⟩:=h;have f:=u f;unfold Gq SD;have g:Pk Tr ((match m.tg with
  | []=>[]
  | s::p=>32::45::62::32::(s++Ha p))++[59]) (SB m++[lF 59])/\VN ((match m.tg with
  | []=>[]
  | s::m=>32::45::62::32::(s++Ha m))++[59]):=by
  unfold SB;cases p:m.tg with
  | nil=>exact⟨Pk.sc (X9 _),zo⟩
  | cons s r=>
   rw[p,mf,B]at a;obtain⟨m,q⟩:=af8 a.2;refine⟨?_,jL⟩;have:=Ot (Pk.to (Ot ((oB a.1).e m q)));simpa using this
 generalize ((match m.tg with
  | []=>[]
  | s::m=>32::45::62::32::(s++Ha m))++[59])=R1 at*
 generalize SB m++[lF 59]=b at*
 have i:Pk Tr ((if m.acts=[]then[]else 32::zU m.acts)++R1) ((if m.acts=[]then[]else F5 m.acts)++b)/\VN ((if m.acts=[]then[]else 32::zU m.acts)++R1):=by
  by_cases p:m.acts=[]
  .rw[K p,K p];exact g
  rw[R p,R p];exact⟨Ot ((YD l n.a).t g.1),jL⟩
 generalize (_++R1)=c at*
 generalize _++b=j at*
 have t:Pk Tr (VL m++c) (WE m++j)/\VN (VL m++c):=by
  unfold VL WE;cases p:m.gd
  .exact i
  rw[p]at e;refine⟨?_,jL⟩;have:=Ot (Pk.lk ((af7 e n.g).e (Pk.rk i.1) aiF));simpa using this
 unfold KS PI;by_cases k:m.k=1
 .rw[K k]at d⊢;rw[K k,bq];exact(sf (s:=Ds) Z).e (Ot ((oB d).e t.1 t.2)) jL
 rw[R k,R k];by_cases k3:m.k=3
 .rw[K k3,K k3,bq];exact(sf (s:=jF) Z).e (Ot ((PB J n.w.2).e t.1 t.2)) jL
 rw[R k3,R k3];exact(sf (s:=iW) Z).e t.1 t.2
def ahB{p}{a}(h:Pk Tr p a):∀d,Pk Tr (xf d++p) a
 | 0=>h
 | d+1=>Ot (Ot (ahB h d))
def apD{d}{p}{a}(h:Pk Tr p a):Pk Tr (Zb (d,p)) a:=ahB h.nl d
def Lq(a:L Ln)(k:L K3):Prop:=Pk Tr (Cv a) k
def Lq.nil:Lq [] []:=X9 _
def yv:=@Lq.nil
def Lq.wm{L M}{a b}(h:Lq L a)(k:Lq M b):Lq (L++M) (a++b):=by
 unfold Lq Cv;rw[kj];exact h.t k
def Lq.one{d}{p}{a}(h:Pk Tr p a):Lq [(d,p)] a:=by
 unfold Lq Cv;rw[lW,uU,bC];exact apD h
def U2:=@Lq.one
def Lq.cons{d}{p}{a}{L}{b}(h:Pk Tr p a)(k:Lq L b):Lq ((d,p)::L) (a++b):=(U2 h).wm k
def UF(b:Nb):L K3:=if b.ini=[]then[]else[(2,fM,0),(1,b.ini,0),lF 59]
def Gk(b:Nb):L K3:=if b.en=[]then[]else(2,jl,0)::F5 b.en
def VQ(b:Nb):L K3:=if b.lv=[]then[]else(2,jm,0)::F5 b.lv
def AU:L Mv->L K3
 | []=>[]
 | m::l=>SD m++AU l
def DF(b:Nb):L K3:=UF b++(Gk b++(VQ b++AU b.mv))
mutual
def VR:Nd->L K3
 | .mk b l=>
  if gv b.k then(2,kW b.k,0)::(1,b.nm,0)::Yh::(1,b.dft,0)::[lF 59]
  else(2,kW b.k,0)::(1,b.nm,0)::lF 123::(DF b++(nY l++[lF 125]))
def nY:L Nd->L K3
 | []=>[]
 | x::l=>VR x++nY l
end
structure nbS (b:Nb):Prop where
 nm:dD b.nm=aF
 ini:b.ini=[]∨dD b.ini=aF
 en:b.en.all iZ=aF
 lv:b.lv.all iZ=aF
 mv:b.mv.all mr=aF
def YG{b}{n}(h:qE b n=aF)(i:gv b.k=aM):(b.k=1∨b.k=2)/\b.dft=[]/\nbS b:=by
 unfold qE at h;rw[i]at h;simp only[B,nr,lV,cy,bF]at h;obtain⟨c,⟨⟨⟨a,d⟩,e⟩,f⟩,g⟩:=h;exact⟨a.1,a.2,c,d,e,f,g⟩
def apE{b}{n}(h:qE b n=aF)(j:gv b.k=aF):dD b.nm=aF/\dD b.dft=aF/\b.ini=[]/\b.en=[]/\b.lv=[]/\b.mv=[]/\n=0:=by
 unfold qE at h;rw[j]at h;simp only[B,H2,bF]at h;obtain⟨a,c,d,e,f,g,i⟩:=h;exact⟨a,c,d,e,f,bL g,i⟩
def af9{d}{b}(h:nbS b)(n:nbN b):Lq (Hb d b) (DF b):=by
 refine Lq.wm ?_ (Lq.wm ?_ (Lq.wm ?_ ?_))
 .unfold yA UF;by_cases i:b.ini=[]
  .rw[K i,K i];exact yv
  rw[R i,R i];exact U2 ((sf (s:=fM) Z).e (Ot ((oB (h.ini.resolve_left i)).e (Pk.sc (X9 _)) zo)) jL)
 .unfold RC Gk;by_cases i:b.en=[]
  .rw[K i,K i];exact yv
  rw[R i,R i];exact U2 ((sf (s:=jl) Z).e (Ot (YD h.en n.en)) jL)
 .unfold Un VQ;by_cases i:b.lv=[]
  .rw[K i,K i];exact yv
  rw[R i,R i];exact U2 ((sf (s:=jm) Z).e (Ot (YD h.lv n.lv)) jL)
 unfold Ni;have m:=h.mv;have hk:=n.mv;generalize b.mv=l at*
 induction l with
 | nil=>exact yv
 | cons a l i=>
  rw[mf,B]at m;exact Lq.cons (apC m.1 (hk a X)) (i m.2 λx hx=>hk x Ze)
def agC k:Pk wk (kW k) [(2,kW k,0)]:=by
 unfold kW;split
 .exact sf Z
 split
 .exact sf Z
 split
 .exact sf Z
 exact sf Z
mutual
def apF:∀(d:Nat) (x:Nd),kc d x=aF->Dv x->Lq (F3 d x) (VR x)
 | d,.mk b l,h,n=>by
  rw[kc]at h;rw[Dv]at n;rw[F3,VR];simp only[B]at h;obtain⟨⟨_,a⟩,e⟩:=h;cases c:gv b.k
  .obtain⟨_,_,s⟩:=YG a c;rw[R Z,R Z];exact Lq.cons ((agC b.k).e (Ot ((oB s.nm).e (Ot (Pk.lb (X9 _))) jL)) jL) ((af9 s n.1).wm ((PD (d+1) l e n.2).wm (U2 (Pk.rb (X9 _)))))
  obtain⟨d,f,_⟩:=apE a c;rw[K I,K I];exact U2 ((agC b.k).e (Ot ((oB d).e (Ot (Pk.to (Ot ((oB f).e (Pk.sc (X9 _)) zo)))) jL)) jL)
def PD:∀(d:Nat) (l:L Nd),iX d l=aF->Ao l->Lq (qm d l) (nY l)
 | d,[],_,_=>by
  rw[qm,nY];exact yv
 | d,x::l,h,n=>by
  rw[iX,B]at h;rw[Ao]at n;rw[qm,nY];exact(apF d x h.1 n.1).wm (PD d l h.2 n.2)
end
def UG(v:Vr):L K3:=(2,zg,0)::(1,v.n,0)::lF 61::(Js v.v++[lF 59])
def AV:L Vr->L K3
 | []=>[]
 | v::l=>UG v++AV l
def Lc(c:Ch):L K3:=(2,fX,0)::(1,c.root.b.nm,0)::lF 123::(AV c.vars++(DF c.root.b++(nY c.root.kids++[lF 125])))
def apG{c}(f:pz c=aF)(n:HX c):Lq (F4 c) (Lc c):=by
 unfold pz at f;simp only[B]at f;obtain⟨⟨h,g⟩,d⟩:=f;replace d:=u d;obtain⟨a,⟨b,m⟩⟩:=c;have r:=n.r;rw[kc]at g;simp only[B]at g;obtain⟨⟨_,i⟩,j⟩:=g;have hk:b.k=1:=d.1;have l:gv b.k=aM:=UR
 obtain⟨_,_,k⟩:=YG i l;have e:Lq (a.map λv=>(1,Y0 v)) (AV a):=by
  have e:=n.v;clear d n i j r
  induction a with
  | nil=>exact yv
  | cons v c b=>
   rw[mf,B,B]at h;exact Lq.cons ((sf (s:=zg) Z).e (Ot ((oB h.1.1).e (Ot (Pk.eq (Ot ((aiH (e v X) (u h.1.2)).e (Pk.sc (X9 _)) zo)) jL)) jL)) jL) (b h.2 λx hx=>e x Ze)
 exact Lq.cons ((sf (s:=fX) Z).e (Ot ((oB k.nm).e (Ot (Pk.lb (X9 _))) jL)) jL) (e.wm ((af9 k r.1).wm ((PD 1 m j r.2).wm (U2 (Pk.rb (X9 _))))))
def Jt{p:Prop}:aM=aF->p:=λh=>Ue
def Fw{α}{R:α->α->Prop}:nM R [] []:=⟨I,λi x y h _=>by simp at h⟩
def Ss{α}{R}{x y:α}{xs ys}(c:R x y)(k:nM R xs ys):nM R (x::xs) (y::ys):=⟨by rw[aZ,aZ,k.1],λi a b h hb=>by
 cases i with
 | zero=>
  simp at h hb;subst h hb;exact c
 | succ i=>exact k.2 i a b (by simpa using h) Xu⟩
def eH(s:Sx)(n:Nat)(a m k:Nat):Sx:={s with i:=s.i+n,a:=s.a-a,m:=s.m-m,n:=s.n-k}
def dx s n a m k n' a' m' k':eH (eH s n a m k) n' a' m' k'=eH s (n+n') (a+a') (m+m') (k+k'):=by
 unfold eH;simp;refine⟨J,?_,?_,?_⟩<;>omega
def GR s:eH s 0 0 0 0=s:=by
 unfold eH;simp
def j7 s:ez s=eH s 1 0 0 0:=by
 unfold ez eH;simp
def M3{ts}(h:um ts)(b:0<qj ts):om ts+1=qj ts:=by
 have a:om ts<qj ts:=by
  refine bS λn=>?_;have:=Ai ts ((qj ts)-1) J;exact this ((h _ J).2 J)
 exact(h _ a).1 (Aj ts a)
def aga{ts}{i}(h:(tk ts i).k≠5):i<qj ts:=bS λn=>h (by
 unfold tk;rw[cW J];rfl)
def VS(q:K3)(l:L (C)):Nat:=if q.1≠2/\q.1≠4 then 0 else if zJ q.2.1 l<qj l then zJ q.2.1 l+1 else 0
section
variable {ts:L Tk} {s:Sx} {q:K3} {A:L K3}
def eP(b:s.fc=0)(a:At ts s.i (q::A)) l:cX ts s l=VS q l:=by
 obtain⟨c,d,_⟩:=a.head;unfold cX VS;rw[c,d];by_cases h:q.1≠2/\q.1≠4
 .rw[K (.inr h),K h]
 rw[R (λa=>a.elim (λe=>e b) h),R h]
def ky(a:s.fc=0){x}(h:At ts s.i (q::A))(b:VS q [x]=1):fA ts s x=eH s 1 0 0 0:=by
 unfold fA;rw[eP a h,b,R Z,j7]
def yf(a:s.fc=0){k}(h:At ts s.i (q::A))(f:q.1=k):(io ts s k).1.t=q.2.1/\(io ts s k).1.n=q.2.2/\(io ts s k).2=eH s 1 0 0 0:=by
 obtain⟨b,c,d⟩:=h.head;unfold io;rw[R (λn=>n.elim (λe=>e a) λe=>e (by rw[b,f])),j7];exact⟨c,d,I⟩
def yg(d:s.fc=0){x}(h:At ts s.i ((1,x,0)::A)):li ts s=(x,eH s 1 0 0 0):=by
 obtain⟨a,b,c⟩:=yf (k:=1) d h I;unfold li;rw[a,c]
def AW{x}(h:1<=x)(a:x<=1000):Bw x=x-1:=by
 unfold Bw;rw[eS J J]
end
def abM{x}(h:rW x=aF):UL aM x zI:=by
 obtain⟨k,n,s,op,l,a⟩:=x;unfold rW at h;simp only[B,dr,bF]at h;obtain⟨⟨⟨⟨b,c⟩,e⟩,f⟩,g⟩:=h;obtain rfl:k=0:=b;obtain rfl:n=0:=c;obtain rfl:s=[]:=e;obtain rfl:op=0:=f;have i:(qj l:Int)=0:=g;obtain rfl:l=[]:=bL J;exact λd=>(Sim.leaf 0 0 [] 0 a 0).same d
section
variable {ts:L Tk} (hE:um ts)
include hE
theorem YH{s}(z:s.fc=0){x}(w:uz x=aF)(n:Um x){q}{A}(i:At ts s.i (M2 x++q::A))(o:q.1=4/\(q.2.1=[59]∨q.2.1=[93])):
  UL aM x (rS ts s).1/\(rS ts s).2=eH s (qj (M2 x)) 0 0 0:=by
 obtain⟨B,C,b,G,h⟩:=af6 w n;have m:=C;generalize yz x=L at*
 have S:lN L (0+qj L)=.ok [⟨5,[],0,qj L⟩]:=by
  have hd:L.drop (qj L)=[]:=dT (H _);have h:lM aM []=0:=I;rw[bR,lI (H _),hd,h,K J];rfl
 obtain⟨u,v,k⟩:=ye (l:=L) _ (x:=x) aM 0 (r:=[]) B (n _) (bf _) (by rw[gJ,bC,m]) (λc D=>by cases D) (by rw[<-m];exact S);generalize f:u++[_]=a at*
 have j:de L=(a,0,0):=by rw[de,R J,v]
 have g:qj u=qj (M2 x):=by unfold M2;rw[<-k,bH]
 have F:qj a=qj u+1:=by rw[<-f,aP,bA]
 have E:um a:=by
  have:=(zi (l:=L) (by rw[j])).1;rw[j]at this;exact this
 unfold iV at b h;rw[j]at b h;dsimp only at b h;rw[R Z]at b h;by_cases d:(cN a 0).2.2.1≠0
 .rw[K d]at b;exact absurd b d
 rw[R d]at b h;by_cases l:(tk a (cN a 0).2.1.toNat).k≠5
 .rw[K l]at b;exact absurd b (show ¬(4:Int)=0 by decide)
 rw[R l]at h;have d:=ob.1 d;have l:=ob.1 l;have q:cN a 0=(match tJ a 0 with
  | .error (c,p)=>(zI,0,c,p)
  | .ok (x,r)=>(x,(r:Int),0,0)):=by
  unfold cN;rw[K ⟨ja 0,J,M3 E J⟩];rfl
 have M:Em a ts (qj u) s.i:=by
  refine⟨λc p=>?_,λc p=>?_,?_⟩
  .unfold tk;rw[<-f];rcases Nat.eq_or_lt_of_le p with e | e
   .rw[<-e,ck (H _),pQ];rfl
   rw[cW XO];rfl
  .have N:c<qj (M2 x):=J
   have s:k3 (tk a c)=(M2 x)[c]:=by
    have:(u.map k3)[c]? =aN (M2 x)[c]:=by
     rw[k];exact aX N
    rw[cw,fm]at this;obtain⟨t,y,P⟩:=this;rw[<-P];unfold tk;rw[<-f,bZ p,y];rfl
   have e:=(i.left c _ (aX N)).trans s.symm;unfold k3 at e;simp at e;exact e
  have:=i.right.head;rw[<-g]at this;rw[this.1,this.2.1];exact o
 cases A:tJ a 0 with
 | error e=>
  obtain⟨c,p⟩:=e;rw[A]at q;exfalso;rw[q]at d l;subst d;exact pw _ _ _ _ A I
 | ok y=>
  obtain⟨P,r⟩:=y;rw[A]at q;dsimp only at q;rw[q]at l h;have W:s.i+qj u<qj ts:=by
   refine aga λe=>?_;have:=i.right.head.1;rw[<-g]at this;rw[this,o.1]at e;exact absurd e Z
  obtain⟨x,c,t,Q⟩:=Rm.expr M F W _ 0 0 0 (bf _) P r A;have p:r=qj u:=by
   have:=(E r J).1 l;omega
  subst p;have N:cN ts s.i=(x,((s.i+qj u:Nat):Int),0,0):=by
   unfold cN;rw[K ⟨be _,J,M3 hE J⟩,ba];unfold tJ;rw[gy]at c;rw[c]
  unfold rS;rw[R (λe=>e z),N];refine⟨(h.trans t).same,?_⟩;rw[ba,g];unfold eH;simp
theorem adI{s}(a:s.fc=0)(h:1<=s.a)(b:s.a<=1000):Bx ts s=eH s 0 1 0 0:=by
 unfold Bx eH;rw[R J,AW h b];simp
theorem apH{s}(h:s.fc=0)(p:1<=s.a)(t:s.a<=1000){a}(c:iZ a=aF)(v:Hc a){A}(d:At ts s.i (PC a++A)):NT aM a (uu ts s).1/\(uu ts s).2=eH s (qj (PC a)) 1 0 0:=by
 unfold iZ at c;simp only[B]at c;obtain⟨⟨f,o⟩,b⟩:=c;have f:=u f;obtain⟨k,n,x,at_⟩:=a;dsimp only at f o b;have r:∃w g,PC ⟨k,n,x,at_⟩++A=(2,w,0)::(1,n,0)::g/\(VS (2,w,0) [tM,lQ,mZ])=k.toNat:=by
  unfold PC;by_cases hk:k=2
  .rw[K hk];exact⟨_,_,I,by rw[hk];decide⟩
  rw[R hk];by_cases a:k=1
  .rw[K a];exact⟨_,_,I,by rw[a];decide⟩
  rw[R a];have:k=3:=J
  exact⟨_,_,I,by rw[this];decide⟩
 obtain⟨w,g,l,m⟩:=r;have V:=d;rw[l]at V;have i:=eP h V [tM,lQ,mZ];rw[m]at i;have j:k.toNat=k:=gu J;unfold uu;rw[i,R J,adI (ts:=ts) hE h p t,R (λe=>e h)];rw[j7,dx,yg (s:=eH s _ _ _ _) h V.tail];unfold O2;by_cases hk:k=2
 .subst hk;rw[K (show Int.toNat 2=2 from I)];rw[ky (s:=eH (eH s _ _ _ _) 1 0 0 0) h d.tail.tail Z,dx,dx];exact⟨⟨I,I,abM b,Jt⟩,I⟩
 rw[R J];rw[R hk]at b;have e:PC ⟨k,n,x,at_⟩=(2,if k=1 then tM else mZ,0)::(1,n,0)::lF 61::(M2 x++[lF 59]):=by
  unfold PC;rw[R hk]
 rw[e]at d⊢;have T:=d.tail.tail;rw[ky (s:=eH (eH s _ _ _ _) 1 0 0 0) h T Z,dx,dx];have a:At ts _ (_++A):=T.tail;rw[bq]at a;obtain⟨y,z⟩:=YH hE (s:=eH s (0+1+1+1) _ _ _) h b v (q:=lF 59) (A:=A) a ⟨I,.inl I⟩;rw[z];rw[ky (s:=eH (eH s (0+1+1+1) _ _ _) (qj (M2 x)) 0 0 0) h a.right Z,dx,dx];refine⟨⟨j.symm,I,y,Jt⟩,?_⟩;simp;congr 1;omega
theorem agb:∀l f c {s:Sx},s.fc=0->qj l<f->qj l<=s.a->s.a<=1000->l.all iZ=aF->(∀a,a∈l->Hc a)->∀{A:L K3},At ts s.i (Fv l++lF 125::A)->
  ∃r,rT ts f c s=(c++r,eH s (qj (Fv l)+1) (qj l) 0 0)/\nM (NT aM) l r
 | [],f,c,s,h,hf,b,i,a,n,A,d=>by
  obtain⟨f,rfl⟩:∃g,f=g+1:=⟨f-1,XY⟩
  rw[rT,R (λe=>e h),eP h d,K Z,j7];exact⟨[],by rw[bC];rfl,Fw⟩
 | a::l,f,c,s,h,hf,o,k,j,n,A,d=>by
  rw[aZ]at hf o;obtain⟨f,rfl⟩:∃m,f=m+1:=⟨f-1,J⟩
  rw[mf,B]at j;have d:At ts s.i ((PC a++Fv l)++lF 125::A):=d;rw[bq]at d;have w:cX ts s [[125]]=0:=by
   have:∃b e,PC a++(Fv l++lF 125::A)=(2,b,0)::e/\VS (2,b,0) [[125]]=0:=by
    unfold PC;split
    .exact⟨_,_,I,Z⟩
    split
    .exact⟨_,_,I,Z⟩
    exact⟨_,_,I,Z⟩
   obtain⟨b,e,g,i⟩:=this;have V:=d;rw[g]at V;rw[eP h V,i]
  obtain⟨p,q⟩:=apH hE h J k j.1 (n a X) d;rw[rT,R (λe=>e h),w,R (λe=>e I),q];obtain⟨r,g,i⟩:=agb l f _ (s:=eH s (qj (PC a)) 1 0 0) h J UZ UZ j.2 (λb k=>n b (by simp[k])) d.right;refine⟨(uu ts s).1::r,?_,Ss p i⟩;rw[g,dx,bq];simp only[Fv,aP,aZ,jr];congr 2<;>omega
theorem ahK:∀l,qj l<=qj (Fv l)
 | []=>H _
 | a::l=>by
  have h:=ahK l;have b:1<=qj (PC a):=by
   unfold PC;split<;>simp
  rw[Fv,aP,aZ];omega
theorem At.inr{s:Sx}{L}{q}{A}(d:At ts s.i (L++q::A))(h:q.1≠5):s.i+qj L<qj ts:=aga (by rw[d.right.head.1];exact h)
theorem FB{s:Sx}(h:s.fc=0){l}(g:qj l<=s.a)(i:s.a<=1000)(f:l.all iZ=aF)(n:∀a,a∈l->Hc a){A}(d:At ts s.i (F5 l++A)):
  ∃r,lR ts s=(r,eH s (qj (F5 l)) (qj l) 0 0)/\nM (NT aM) l r:=by
 unfold lR;have d:At ts s.i (lF 123::(_++A)):=d;rw[bq]at d;have b:=d.tail;have W:=At.inr hE (s:=eH s 1 0 0 0) (L:=Fv l) b Z;rw[ky h d Z];have:=ahK (ts:=ts) hE l;obtain⟨r,e,c⟩:=agb hE l (qj ts+1) [] (s:=eH s 1 0 0 0) h J UZ UZ f n b;refine⟨r,?_,c⟩;rw[e,dx,cd];unfold F5;simp only[aZ,aP,bE];congr 2
 .omega
 omega
theorem apI:∀l f a {s:Sx},s.fc=0->qj l<f->∀{A:L K3},At ts s.i (VO l++lF 59::A)->uv ts f [44] a s=(a++l,eH s (qj (VO l)) 0 0 0)
 | [],f,a,s,h,hf,A,d=>by
  obtain⟨f,rfl⟩:∃g,f=g+1:=⟨f-1,XY⟩
  rw[uv,eP h d,K Z,bC];show _=(a,eH s 0 0 0 0)
  rw[GR]
 | x::l,f,a,s,h,hf,A,d=>by
  rw[aZ]at hf;obtain⟨f,rfl⟩:∃g,f=g+1:=⟨f-1,J⟩
  rw[uv,eP h d,R Z,j7,yg (s:=eH s 1 0 0 0) h d.tail];rw[dx,apI l f _ (s:=eH s (1+1) _ _ _) h J d.tail.tail,dx,bq];simp only[VO,aZ,jr];congr 2;omega
theorem mrg:∀l,qj l<=qj (VO l)
 | []=>H _
 | x::l=>by
  have:=mrg l;rw[VO,aZ,aZ,aZ];omega
theorem abQ{s}(h:s.fc=0) m m0 {A} (d:At ts s.i ((SB m++[lF 59])++A)) (t:m0.tg=[]):EO ts m0 s=({m0 with tg:=m.tg},eH s (qj (SB m++[lF 59])) 0 0 0):=by
 unfold EO;rw[bq]at d;unfold SB at d⊢;cases a:m.tg with
 | nil=>
  rw[a]at d;rw[uv,eP h d,K Z];rw[ky h d Z];rfl
 | cons x l=>
  rw[a]at d;have b:=At.inr hE (s:=eH s 2 0 0 0) (L:=VO l) d.tail.tail Z;have:=mrg (ts:=ts) hE l;rw[uv,eP h d,R Z,j7,yg (s:=eH s 1 0 0 0) h d.tail];rw[dx,apI hE l (qj ts) _ (s:=eH s (1+1) _ _ _) h J d.tail.tail,dx];rw[ky (s:=eH s _ _ _ _) h (q:=lF 59) (A:=A) (by
   have:=d.tail.tail.right;have e:s.i+1+1+qj (VO l)=(eH s (1+1+qj (VO l)) (0+0+0) (0+0+0) (0+0+0)).i:=UZ
   rw[<-e];exact this) Z,dx]
  simp;congr 2;omega
theorem SH{s:Sx}(h:s.fc=0) m m0 (c:qj m.acts<=s.a) (f:s.a<=1000) (b:m.acts.all iZ=aF) (n:∀x,x∈m.acts->Hc x) {A} (d:At ts s.i (((if m.acts=[]then[]else F5 m.acts)++(SB m++[lF 59]))++A)) (t:m0.tg=[]) (a:m0.acts=[]):
  ∃r,Ct ts m0 s=({m0 with acts:=r,tg:=m.tg},eH s (qj ((if m.acts=[]then[]else F5 m.acts)++(SB m++[lF 59]))) (qj m.acts) 0 0)/\nM (NT aM) m.acts r:=by
 obtain⟨k,v,j,g,l,ac0,i,p0⟩:=m0;subst t a;unfold Ct;by_cases e:m.acts=[]
 .rw[K e]at d⊢;have w:cX ts s [[123]]=0:=by
   have u:=d;unfold SB at u;cases o:m.tg with
   | nil=>
    rw[o]at u;rw[eP h (q:=lF 59) (A:=A) u];decide
   | cons x m=>
    rw[o]at u;rw[eP h (q:=Yh) (A:=_) u];decide
  rw[w,K I,abQ hE h m _ d I];refine⟨[],?_,by rw[e];exact Fw⟩;rw[e];rfl
 rw[R e]at d⊢;rw[bq]at d;have w:cX ts s [[123]]=1:=by
  rw[eP h (q:=lF 123) d];decide
 obtain⟨r,o,p⟩:=FB hE h c f b n d;rw[w,R Z,o];rw[abQ hE (s:=eH s (qj (F5 m.acts)) (qj m.acts) 0 0) h m _ d.right I,dx];refine⟨r,?_,p⟩;simp
theorem Ju{s:Sx}(h:s.fc=0) m m0 (o:qj m.acts<=s.a) (p:s.a<=1000) (b:mr m=aF) (n:V7 m) {A} (dL:At ts s.i ((WE m++((if m.acts=[]then[]else F5 m.acts)++(SB m++[lF 59])))++A))
  (t:m0.tg=[]) (c:m0.acts=[]) (d:m0.gd=aM) (f:m0.g=zI):
  ∃g r,rU ts m0 s=({m0 with gd:=m.gd,g:=g,acts:=r,tg:=m.tg},eH s (qj (WE m++((if m.acts=[]then[]else F5 m.acts)++(SB m++[lF 59])))) (qj m.acts) 0 0)/\UL aM m.g g/\nM (NT aM) m.acts r:=by
 unfold mr at b;simp only[B]at b;obtain⟨⟨⟨⟨⟨_,_⟩,a⟩,i⟩,_⟩,_⟩:=b;obtain⟨k,v,l,u,y,ac0,w,p0⟩:=m0;subst t c d f;unfold rU;unfold WE at dL⊢;cases j:m.gd
 .rw[j]at a dL;have z:cX ts s [[91]]=0:=by
   have T:=dL;by_cases e:m.acts=[]
   .rw[K e]at T;unfold SB at T;cases s:m.tg with
    | nil=>
     rw[s]at T;rw[eP h (q:=lF 59) (A:=A) T];decide
    | cons x m=>
     rw[s]at T;rw[eP h (q:=Yh) (A:=_) T];decide
   rw[R e]at T;rw[eP h (q:=lF 123) (A:=_) T];decide
  obtain⟨r,s,x⟩:=SH hE h m ⟨k,v,l,aM,zI,[],[],p0⟩ o p i n.a dL I I;rw[z,K I,s];exact⟨zI,r,I,abM a,x⟩
 rw[j]at a dL;have dL:At ts s.i (lF 91::(M2 m.g++lF 93::(((if m.acts=[]then[]else F5 m.acts)++(SB m++[lF 59]))++A))):=MW
 have C:cX ts s [[91]]=1:=by
  rw[eP h dL];decide
 obtain⟨D,E⟩:=YH hE (s:=eH s 1 0 0 0) h a n.g (q:=lF 93) dL.tail ⟨I,.inr I⟩;rw[C,R Z,j7,E,dx,ky (s:=eH s _ _ _ _) h (q:=lF 93) (by
  have:=dL.tail.right;have e:s.i+1+qj (M2 m.g)=(eH s (1+qj (M2 m.g)) (0+0) (0+0) (0+0)).i:=UZ
  rw[<-e];exact this) Z,dx]
 obtain⟨r,x,z⟩:=SH hE (s:=eH s _ (0+0+0) _ _) h m ⟨k,v,l,aF,(rS ts _).1,[],[],p0⟩ UZ UZ i n.a (by
  have:=dL.tail.right.tail;have e:s.i+1+qj (M2 m.g)+1=(eH s (1+qj (M2 m.g)+1) (0+0+0) (0+0+0) (0+0+0)).i:=UZ
  rw[<-e];exact this) I I
 rw[x,dx];refine⟨_,r,?_,D,z⟩;congr 2<;>(try simp)<;>omega
theorem adJ{s}(a:s.fc=0)(h:1<=s.m)(b:s.m<=1000):vD ts s=eH s 0 0 1 0:=by
 unfold vD eH;rw[R J,AW h b];simp
theorem awp{s:Sx}(h:s.fc=0){m}(o:qj m.acts<=s.a)(p:s.a<=1000)(x:1<=s.m)(r:s.m<=1000)(f:mr m=aF)(n:V7 m){A}(d:At ts s.i (SD m++A)):
  cX ts s [Ds,iW,jF]=m.k.toNat/\1<=m.k/\MvE aM m (qS ts m.k s).1/\(qS ts m.k s).2=eH s (qj (SD m)) (qj m.acts) 1 0:=by
 have g:=f;unfold mr at g;simp only[B]at g;obtain⟨⟨⟨⟨⟨i,a⟩,_⟩,_⟩,_⟩,j⟩:=g;have i:=u i;have j:=u j;unfold SD at d⊢;rw[bq]at d;unfold qS;rw[adJ (ts:=ts) hE h x r,R (λe=>e h)];generalize b:WE m++_=l at*
 unfold PI at d⊢;by_cases c:m.k=1
 .rw[K c]at d a⊢;rw[K c];refine⟨by rw[eP h d,c];decide,J,?_⟩;rw[j7,dx,yg (s:=eH s _ _ _ _) h d.tail];rw[dx];obtain⟨t,v,e,k,q⟩:=Ju hE (s:=eH s (0+1+1) (0+0+0) _ _) h m {Xx m.k (tk ts s.i).a with ev:=m.ev} UZ UZ f n (by rw[b];exact d.tail.tail) I I I I;rw[e,b,dx];refine⟨⟨I,I,?_,I,k,q,I,Jt⟩,?_⟩
  .show m.wt=0;omega
  dsimp only;congr 1<;>(try simp)<;>omega
 rw[R c]at d a⊢;rw[R c];have a:=u a;by_cases k3:m.k=3
 .rw[K k3]at d⊢;rw[K k3];refine⟨by rw[eP h d,k3];decide,J,?_⟩;obtain⟨y,e,q⟩:=yf (s:=eH s _ _ _ _) (k:=3) h d.tail I;rw[j7,dx,e,q];rw[dx];obtain⟨z,A,t,v,w⟩:=Ju hE (s:=eH s (0+1+1) (0+0+0) _ _) h m {Xx m.k (tk ts s.i).a with wt:=m.wt} UZ UZ f n (by rw[b];exact d.tail.tail) I I I I;rw[t,b,dx];refine⟨⟨I,a,I,I,v,w,I,Jt⟩,?_⟩;dsimp only;congr 1<;>(try simp)<;>omega
 rw[R k3]at d⊢;rw[R k3];have t:m.k=2:=J
 refine⟨by rw[eP h d,t];decide,J,?_⟩;rw[j7,dx];obtain⟨v,w,e,k,q⟩:=Ju hE (s:=eH s _ (0+0) _ _) h m (Xx m.k (tk ts s.i).a) UZ UZ f n (by rw[b];exact d.tail) I I I I;rw[e,b,dx];refine⟨⟨I,a,?_,I,k,q,I,Jt⟩,?_⟩
 .show m.wt=0;omega
 dsimp only;congr 1<;>(try simp)<;>omega
end
def YI(x y:Nd):Prop:=∀d,CB aM d x y
def Jv{b b'}{l l'}(h:NbE aM b b')(k:nM YI l l'):YI (.mk b l) (.mk b' l'):=λd=>by
 cases d with
 | zero=>trivial
 | succ d=>exact⟨h,k.1,λi x y a b=>k.2 i x y a b d⟩
def CE(q:K3):Prop:=VS q [Ds,iW,jF]=0/\VS q [fM,jl,jm]=0/\q.1≠5
def xu(l:L Mv):Nat:=(l.map λm=>qj m.acts).sum
def aiL b:Cu b=qj b.en+(qj b.lv+xu b.mv):=by unfold Cu xu;omega
section
variable {ts:L Tk} (hE:um ts)
include hE
theorem aiM{s}(h0:s.fc=0) n {h} (a:h.i=aM) {x} {A} (dL:At ts s.i ((2,fM,0)::(1,x,0)::lF 59::A)):eK ts n h s=(aF,{n with ini:=x},{h with i:=aF},eH s 3 0 0 0):=by
 unfold eK;have w:cX ts s [Ds,iW,jF]=0:=AO
 have b:cX ts s [fM,jl,jm]=1:=AO
 rw[w,R (λe=>e I),b];show(if h.i=aF then _ else _)=_;rw[a,R Z,j7,yg (s:=eH s 1 0 0 0) h0 dL.tail];rw[ky (s:=eH (eH s 1 0 0 0) 1 0 0 0) h0 dL.tail.tail Z,dx,dx]
theorem apK{s:Sx}(h0:s.fc=0) n {h} (i:h.e=aM) {l} (k:qj l<=s.a) (m:s.a<=1000) (f:l.all iZ=aF) (g:∀a,a∈l->Hc a) {A} (dL:At ts s.i ((2,jl,0)::(F5 l++A))):
  ∃r,eK ts n h s=(aF,{n with en:=r},{h with e:=aF},eH s (qj (F5 l)+1) (qj l) 0 0)/\nM (NT aM) l r:=by
 unfold eK;have w:cX ts s [Ds,iW,jF]=0:=AO
 have j:cX ts s [fM,jl,jm]=2:=AO
 rw[w,R (λe=>e I),j];obtain⟨r,b,c⟩:=FB hE (s:=eH s 1 0 0 0) h0 UZ UZ f g dL.tail
 suffices d:(if h.e=aF then _ else _)=_ from⟨r,d,c⟩
 rw[i,R Z,j7,b];dsimp only;rw[dx];congr 4<;>omega
theorem apL{s:Sx}(h0:s.fc=0) n {h} (i:h.l=aM) {l} (k:qj l<=s.a) (m:s.a<=1000) (f:l.all iZ=aF) (g:∀a,a∈l->Hc a) {A} (dL:At ts s.i ((2,jm,0)::(F5 l++A))):
  ∃r,eK ts n h s=(aF,{n with lv:=r},{h with l:=aF},eH s (qj (F5 l)+1) (qj l) 0 0)/\nM (NT aM) l r:=by
 unfold eK;have w:cX ts s [Ds,iW,jF]=0:=AO
 have j:cX ts s [fM,jl,jm]=3:=AO
 rw[w,R (λe=>e I),j];obtain⟨r,b,c⟩:=FB hE (s:=eH s 1 0 0 0) h0 UZ UZ f g dL.tail
 suffices d:(if h.l=aF then _ else _)=_ from⟨r,d,c⟩
 rw[i,R Z,j7,b];dsimp only;rw[dx];congr 4<;>omega
theorem apN{s:Sx}(a:s.fc=0) n h {m} (f:qj m.acts<=s.a) (g:s.a<=1000) (x:1<=s.m) (D:s.m<=1000) (i:mr m=aF) (j:V7 m) {A} (d:At ts s.i (SD m++A)):
  ∃r,eK ts n h s=(aF,{n with mv:=n.mv++[r]},h,eH s (qj (SD m)) (qj m.acts) 1 0)/\MvE aM m r:=by
 obtain⟨b,k,c,e⟩:=awp hE a f g x D i j d;unfold eK;rw[b,K J,gu J,e];exact⟨_,I,c⟩
theorem adK{s}(a:s.fc=0) n h {q} {A} (b:CE q) (d:At ts s.i (q::A)):eK ts n h s=(aM,n,h,s):=by
 unfold eK;rw[eP a d,eP a d,b.1,b.2.1,R (λe=>e I)];rfl
theorem AX{s}(a:s.fc=0){f}{n n'}{h h'}{s'}(c:eK ts n h s=(aF,n',h',s')):iA ts (f+1) n h s=iA ts f n' h' s':=by
 rw[iA,R (λe=>e a),c];rfl
theorem YJ:∀l f n h {s:Sx},s.fc=0->qj l<f->(xu l)<=s.a->s.a<=1000->qj l<=s.m->s.m<=1000->l.all mr=aF->(∀m,m∈l->V7 m)->∀{q:K3} {A:L K3},CE q->At ts s.i (AU l++q::A)->
  ∃r,iA ts f n h s=({n with mv:=n.mv++r},eH s (qj (AU l)) (xu l) (qj l) 0)/\nM (MvE aM) l r
 | [],f,n,h,s,a,hf,c,i,x,D,j,k,q,A,b,d=>by
  obtain⟨f,rfl⟩:∃g,f=g+1:=⟨f-1,XY⟩
  rw[iA,R (λe=>e a),adK hE a n h b d];refine⟨[],?_,Fw⟩;rw[bC];show(n,s)=(n,eH s 0 0 0 0)
  rw[GR]
 | m::l,f,n,h,s,a,hf,v,p,u,D,b,c,q,A,t,d=>by
  rw[aZ]at hf u;obtain⟨f,rfl⟩:∃o,f=o+1:=⟨f-1,J⟩
  rw[mf,B]at b;have k:xu (m::l)=qj m.acts+xu l:=by unfold xu;rw[cf,dl]
  have d:At ts s.i ((SD m++AU l)++q::A):=d;rw[bq]at d;obtain⟨x,e,g⟩:=apN hE a n h J p J D b.1 (c m X) d;rw[AX hE a e];obtain⟨r,i,j⟩:=YJ l f {n with mv:=n.mv++[x]} h (s:=eH s (qj (SD m)) (qj m.acts) 1 0) a J UZ UZ UZ UZ b.2 (λy hy=>c y Bh) t d.right;refine⟨x::r,?_,Ss g j⟩;rw[i,dx,k];simp only[AU,aP,aZ,bq,jr];congr 2;omega
theorem M5:∀l,qj l<=qj (AU l)
 | []=>H _
 | m::l=>by
  have h:=M5 l;have a:1<=qj (SD m):=by
   unfold SD PI;rw[aP];split
   .simp;omega
   split<;>(simp only[aZ];omega)
  rw[AU,aP,aZ];omega
theorem agc{f}{n}{h}{s:Sx}{b}(a:s.fc=0)(g:qj (VQ b)+qj b.mv<f)(p:(qj b.lv+xu b.mv:Nat)<=s.a)(l:s.a<=1000)(x:qj b.mv<=s.m)(D:s.m<=1000)(k:nbS b)(j:nbN b){q}{A}(m:CE q)(d:At ts s.i (VQ b++(AU b.mv++q::A)))(o:h.l=aM)(C:n.lv=[]):
  ∃r i,iA ts f n h s=({n with lv:=r,mv:=n.mv++i},eH s (qj (VQ b)+qj (AU b.mv)) (qj b.lv+xu b.mv) (qj b.mv) 0)/\nM (NT aM) b.lv r/\nM (MvE aM) b.mv i:=by
 obtain⟨v,y,u,nd,ne,nl,w,t⟩:=n;subst C;unfold VQ at d g⊢;by_cases c:b.lv=[]
 .rw[K c]at d g⊢;obtain⟨q,e,n⟩:=YJ hE b.mv f _ h a J J l x D k.mv j.mv m d;refine⟨[],q,?_,by rw[c];exact Fw,n⟩;rw[e,c];simp
 rw[R c]at d g⊢;simp at g;obtain⟨f,rfl⟩:∃A,f=A+1:=⟨f-1,J⟩
 obtain⟨r,h,n⟩:=apL hE a _ o J l k.lv j.lv d;rw[AX hE a h];obtain⟨i,q,z⟩:=YJ hE b.mv f _ _ (s:=eH s _ (qj b.lv) 0 0) a J UZ UZ UZ UZ k.mv j.mv m (by
  have e:s.i+1+qj (F5 b.lv)=(eH s (qj (F5 b.lv)+1) (qj b.lv) 0 0).i:=UZ
  rw[<-e];exact d.tail.right)
 refine⟨r,i,?_,n,z⟩;rw[q,dx,aZ];congr 2;omega
theorem agd{f}{n}{h}{s:Sx}{b}(g:s.fc=0)(j:qj (Gk b)+(qj (VQ b)+qj b.mv)<f)(z:(qj b.en+(qj b.lv+xu b.mv):Nat)<=s.a)(o:s.a<=1000)(B:qj b.mv<=s.m)(D:s.m<=1000)(m:nbS b)(l:nbN b){q}{A}(t:CE q)(d:At ts s.i (Gk b++(VQ b++(AU b.mv++q::A))))(k:h.e=aM)(p:h.l=aM)(G:n.en=[])(C:n.lv=[]):
  ∃c r a,iA ts f n h s=({n with en:=c,lv:=r,mv:=n.mv++a},eH s (qj (Gk b)+(qj (VQ b)+qj (AU b.mv))) (qj b.en+(qj b.lv+xu b.mv)) (qj b.mv) 0)/\nM (NT aM) b.en c/\nM (NT aM) b.lv r/\nM (MvE aM) b.mv a:=by
 obtain⟨w,y,v,nd,ne,nl,x,u⟩:=n;subst C G;unfold Gk at d j⊢;by_cases i:b.en=[]
 .rw[K i]at d j⊢;obtain⟨r,a,e,b,q⟩:=agc hE (f:=f) (h:=h) (n:=⟨w,y,v,nd,[],[],x,u⟩) g J J o B D m l t d p I;refine⟨[],r,a,?_,by rw[i];exact Fw,b,q⟩;rw[e,i];simp
 rw[R i]at d j⊢;simp at j;obtain⟨f,rfl⟩:∃L,f=L+1:=⟨f-1,J⟩
 obtain⟨c,q,A⟩:=apK hE g _ k J o m.en l.en d;rw[AX hE g q];obtain⟨r,a,E,F,H⟩:=agc hE (n:=⟨w,y,v,nd,c,[],x,u⟩) (h:={h with e:=aF}) (s:=eH s _ (qj b.en) 0 0) g (f:=f) J UZ UZ UZ UZ m l t (by
  have e:s.i+1+qj (F5 b.en)=(eH s (qj (F5 b.en)+1) (qj b.en) 0 0).i:=UZ
  rw[<-e];exact d.tail.right) p I
 refine⟨c,r,a,?_,A,F,H⟩;rw[E,dx,aZ];congr 2<;>omega
theorem awq{f}{n}{s:Sx}{b}(d:s.fc=0)(e:qj (UF b)+(qj (Gk b)+(qj (VQ b)+qj b.mv))<f)(i:(Cu b)<=s.a)(u:s.a<=1000)(x:qj b.mv<=s.m)(D:s.m<=1000)(m:nbS b)(j:nbN b){q}{A}(l:CE q)(dL:At ts s.i (DF b++q::A))(k:n.ini=[])(G:n.en=[])(C:n.lv=[])(W:n.mv=[]):
  ∃r a c,iA ts f n ⟨aM,aM,aM⟩ s=({n with ini:=b.ini,en:=r,lv:=a,mv:=c},eH s (qj (DF b)) (Cu b) (qj b.mv) 0)/\nM (NT aM) b.en r/\nM (NT aM) b.lv a/\nM (MvE aM) b.mv c:=by
 rw[aiL]at i⊢;obtain⟨p,t,v,nd,ne,nl,w,o⟩:=n;subst k C G W;unfold DF at dL⊢;have dL:=MW
 simp;unfold UF at dL e⊢;by_cases g:b.ini=[]
 .rw[K g]at dL e⊢;obtain⟨r,a,c,b,q⟩:=agd hE (f:=f) (n:=⟨p,t,[],nd,[],[],[],o⟩) (h:=⟨aM,aM,aM⟩) d J i u x D m j l dL I I I I;refine⟨r,a,c,?_,q⟩;rw[b,g];simp
 rw[R g]at dL e⊢;simp at e;obtain⟨f,rfl⟩:∃z,f=z+1:=⟨f-1,J⟩
 rw[AX hE d (aiM hE d _ (h:=⟨aM,aM,aM⟩) I dL)];obtain⟨r,a,c,q,y⟩:=agd hE (n:=⟨p,t,b.ini,nd,[],[],[],o⟩) (h:=⟨aF,aM,aM⟩) (s:=eH s 3 0 0 0) d (f:=f) J UZ UZ UZ UZ m j l dL.tail.tail.tail I I I I;refine⟨r,a,c,?_,y⟩;rw[q,dx];congr 2<;>omega
theorem Fx{s}(e:s.fc=0) k {nm} {A} (d:At ts s.i ((1,nm,0)::A)) (h:1<=s.n) (n:s.n<=1000) (hd:s.d≠0):∃a,fI ts k s=({WL with k:=k,nm:=nm,a:=a},eH s 1 0 0 1):=by
 have u:Gm ts s=eH s 0 0 0 1:=by
  unfold Gm eH;rw[R J,AW h n];simp
 have r:tu ts s=eH s 0 0 0 1:=by
  unfold tu;rw[K d.head.1,u,R (show ¬(eH s 0 0 0 1).d=0 from hd)]
 obtain⟨c,f,b⟩:=yf (s:=eH s 0 0 0 1) (k:=1) e (q:=_) (A:=A) d I;refine⟨(io ts (eH s 0 0 0 1) 1).1.a,?_⟩;unfold fI;rw[r,c,b,dx]
theorem aiN{k}(h:1<=k)(a:k<=4):VS (2,kW k,0) rV=k.toNat:=by
 have:k=1∨k=2∨k=3∨k=4:=J
 rcases this with rfl | rfl | rfl | rfl<;>decide
theorem Jw{d}{b}{l}(h:kc d (.mk b l)=aF):1<=b.k/\b.k<=4:=by
 rw[kc]at h;simp at h;cases a:gv b.k
 .have:=(YG h.1.2 a).1;omega
 have:=u a;omega
theorem AY x:∃B,VR x=(2,kW x.b.k,0)::B:=by
 obtain⟨b,l⟩:=x;rw[VR];split
 .exact⟨_,I⟩
 exact⟨_,I⟩
abbrev YK(t:L Tk)(f:Nat):Prop:=∀x deep {s:Sx} {A:L K3},kc deep x=aF->Dv x->s.fc=0->s.d=12-deep->13<=deep+f->(iQ x)<=s.n->s.n<=1000->(yP x)<=s.a->s.a<=1000->(Am x)<=s.m->s.m<=1000->At t s.i ((VR x).tail++A)->
 ∃r,mO t f x.b.k s=(r,eH s ((qj (VR x))-1) (yP x) (Am x) (iQ x))/\YI x r
theorem YL{N}(h:YK ts N):∀l f a deep {s:Sx},iX deep l=aF->Ao l->s.fc=0->s.d=12-deep->13<=deep+N->qj l<f->(dJ l)<=s.n->s.n<=1000->(nK l)<=s.a->s.a<=1000->(oO l)<=s.m->s.m<=1000->∀{A:L K3},At ts s.i (nY l++lF 125::A)->
  ∃r,vZ ts (mO ts N) f a s=(a++r,eH s (qj (nY l)) (nK l) (oO l) (dJ l))/\nM YI l r
 | [],f,a,deep,s,i,n,b,hd,W,hf,k,o,c,e,m,j,A,d=>by
  obtain⟨f,rfl⟩:∃g,f=g+1:=⟨f-1,XY⟩
  rw[nY]at d⊢;rw[vZ,eP b d,K Z,nK,oO,dJ];exact⟨[],by rw[bC,bE,GR],Fw⟩
 | x::l,f,a,deep,s,g,n,i,hd,W,hf,C,I,o,F,z,H,A,c=>by
  rw[aZ]at hf;obtain⟨f,rfl⟩:∃v,f=v+1:=⟨f-1,J⟩
  rw[iX,B]at g;rw[dJ]at C⊢;rw[nK]at o⊢;rw[oO]at z⊢;rw[nY]at c⊢;rw[bq]at c;obtain⟨E,j⟩:=AY (ts:=ts) hE x;have hk:=Jw (ts:=ts) hE (d:=deep) (b:=x.b) (l:=x.kids) (by obtain⟨b,k⟩:=x;exact g.1);have y:cX ts s rV=x.b.k.toNat:=by
   have T:=c;rw[j]at T;rw[eP i T];exact aiN (ts:=ts) hE hk.1 hk.2
  have m:x.b.k.toNat=x.b.k:=gu J;have w:At ts (eH s 1 0 0 0).i ((VR x).tail++(nY l++lF 125::A)):=by
   have T:=c;rw[j]at T⊢;exact T.tail
  have G:1<=qj (VR x):=by rw[j,aZ];omega
  obtain⟨r,p,q⟩:=h x deep (s:=eH s 1 0 0 0) g.1 n.1 i hd W UZ UZ UZ UZ UZ UZ w;rw[vZ,y,R J,m,j7,p];rw[dx];obtain⟨D,t,u⟩:=YL h l f _ deep (s:=eH s _ (0+yP x) (0+Am x) (0+iQ x)) g.2 n.2 i hd W J UZ UZ UZ UZ UZ UZ (by
   have e:s.i+qj (VR x)=(eH s (1+((qj (VR x))-1)) (0+yP x) (0+Am x) (0+iQ x)).i:=UZ
   rw[<-e];exact c.right)
  refine⟨r::D,?_,Ss q u⟩;rw[t,dx,bq,aP];congr 2<;>omega
theorem cpy:∀l,qj l<=qj (nY l)
 | []=>bf _
 | x::l=>by
  have:=cpy l;obtain⟨B,h⟩:=AY (ts:=ts) hE x;rw[nY,h,aP,aZ,aZ];omega
theorem abW l (h:∀x,x∈l->1<=x.b.k/\x.b.k<=4) A:∃q B,nY l++lF 125::A=q::B/\CE q:=by
 cases l with
 | nil=>
  exact⟨_,_,I,by unfold CE;decide⟩
 | cons x l=>
  obtain⟨B,a⟩:=AY (ts:=ts) hE x;rw[nY,a];refine⟨_,_,I,?_⟩;obtain _:=h x X;have:x.b.k=1∨x.b.k=2∨x.b.k=3∨x.b.k=4:=J
  unfold CE;rcases this with e | e | e | e<;>rw[e]<;>decide
theorem AZ{d}:∀{l:L Nd},iX d l=aF->∀x,x∈l->1<=x.b.k/\x.b.k<=4
 | [],_,x,h=>by simp at h
 | y::l,h,x,a=>by
  rw[iX,B]at h;rcases bh.1 a with rfl | a
  .obtain⟨b,k⟩:=x;exact Jw (ts:=ts) hE h.1
  exact AZ h.2 x a
theorem YM{N:Nat}(E:YK ts N){b}{l}{deep}{s:Sx}{n}(p:iX (deep+1) l=aF)(K:Ao l)(I:nbS b)(H:nbN b)(h:s.fc=0)(hd:s.d=12-deep)(F:deep<12)(W:13<=deep+1+N)
  (T:(dJ l:Int)<=s.n) (V:s.n<=1000) (R:(Cu b+nK l:Nat)<=s.a) (t:s.a<=1000) (S:(qj b.mv+oO l:Nat)<=s.m) (M:s.m<=1000) {A} (dL:At ts s.i ((DF b++(nY l++[lF 125]))++A)) (k:n.ini=[]) (G:n.en=[]) (C:n.lv=[]) (O:n.mv=[]):
  ∃c e g r,uw ts (mO ts N) n s=(.mk {n with ini:=b.ini,en:=c,lv:=e,mv:=g} r,eH s (qj (DF b++(nY l++[lF 125]))) (Cu b+nK l) (qj b.mv+oO l) (dJ l))/\nM (NT aM) b.en c/\nM (NT aM) b.lv e/\nM (MvE aM) b.mv g/\nM YI l r:=by
 have dL:=MW
 obtain⟨q,P,m,o⟩:=abW hE l (AZ hE p) A;have U:=At.inr hE (s:=s) (L:=DF b++nY l) (q:=lF 125) (A:=A) MW Z;rw[aP]at U;have X:=M5 (ts:=ts) hE b.mv;have Q:=cpy (ts:=ts) hE l;have u:qj (UF b)+(qj (Gk b)+(qj (VQ b)+qj (AU b.mv)))=qj (DF b):=by unfold DF;simp
 have i:Bw s.d=s.d-1:=AW J J;have j:XP (s.d-1)=s.d:=by
  unfold XP;rw[eS J J];omega
 have a:=dL;rw[m]at a;obtain⟨c,e,g,v,w,x,y⟩:=awq hE (f:=qj ts+1) (n:=n) (s:={s with d:=s.d-1}) h J KQ t KQ M I H o a k G C O;obtain⟨r,z,B⟩:=YL hE E l (qj ts+1) [] _ (s:=eH {s with d:=s.d-1} (qj (DF b)) (Cu b) (qj b.mv) 0) p K h UZ W J UZ UZ UZ UZ UZ UZ dL.right;refine⟨c,e,g,r,?_,w,x,y,B⟩;unfold uw;dsimp only;rw[i,v];rw[z];dsimp only;have D:({eH (eH {s with d:=s.d-1} (qj (DF b)) (Cu b) (qj b.mv) 0) (qj (nY l)) (nK l) (oO l) (dJ l)with d:=XP (eH (eH {s with d:=s.d-1} (qj (DF b)) (Cu b) (qj b.mv) 0) (qj (nY l)) (nK l) (oO l) (dJ l)).d})=eH s (qj (DF b)+qj (nY l)) (Cu b+nK l) (qj b.mv+oO l) (0+dJ l):=by
  rw[dx];unfold eH;rw[j]
 rw[D,ky (s:=eH s (qj (DF b)+qj (nY l)) _ _ _) h (q:=lF 125) (A:=A) (by
  have b:=dL.right.right;rw[dA]at b;exact b) Z,dx,cd]
 simp only[aP,aZ,bE];congr 2<;>omega
theorem aeP:∀f,YK ts f
 | 0=>by
  intro x deep s A h n a hd W;obtain⟨b,l⟩:=x;rw[kc]at h;simp only[B]at h;have:=u h.1.1;omega
 | f+1=>by
  intro x deep s A e i h hd W r m o v q w d;obtain⟨b,l⟩:=x;have hk:=Jw (ts:=ts) hE e;rw[kc]at e;rw[Dv]at i;rw[iQ]at r⊢;rw[yP]at o⊢;rw[Am]at q⊢;simp only[B]at e;obtain⟨⟨g,j⟩,p⟩:=e;have g:=u g;show ∃t,mO ts (f+1) b.k s=_/\_;rw[VR]at d⊢;rw[mO];cases c:gv b.k
  .obtain⟨N,F,G⟩:=YG j c;rw[c,R Z]at d;have d:At ts s.i ((1,b.nm,0)::lF 123::((DF b++(nY l++[lF 125]))++A)):=d;obtain⟨a,x⟩:=Fx hE h b.k d J m J;rw[R J,R Z,x];dsimp only;rw[ky (s:=eH s 1 0 0 1) h d.tail Z,dx];obtain⟨H,L,M,t,y,z,C,D,E⟩:=YM hE (aeP f) (deep:=deep) (s:=eH s (1+1) (0+0) (0+0) (1+0)) (n:={WL with k:=b.k,nm:=b.nm,a:=a}) p i.2 G i.1 h hd g J UZ UZ UZ UZ UZ UZ d.tail.tail I I I I;rw[y,dx];refine⟨_,?_,Jv (b':={WL with k:=b.k,nm:=b.nm,a:=a,ini:=b.ini,en:=H,lv:=L,mv:=M}) ⟨I,I,I,F,z,C,D,Jt⟩ E⟩;congr 2<;>(try simp)<;>omega
  obtain⟨F,G,z,n,x,f,C⟩:=apE j c;have D:=u c;have E:l=[]:=bL C;subst E;rw[c,K I]at d;have d:At ts s.i ((1,b.nm,0)::Yh::(1,b.dft,0)::lF 59::A):=d;obtain⟨a,y⟩:=Fx hE h b.k d J m J;rw[K J,K I,y];dsimp only;rw[ky (s:=eH s 1 0 0 1) h d.tail Z,dx,yg (s:=eH s (1+1) (0+0) (0+0) (1+0)) h d.tail.tail];dsimp only;rw[ky (s:=eH (eH s (1+1) _ _ _) 1 0 0 0) h d.tail.tail.tail Z,dx,dx];refine⟨_,?_,Jv (b':={WL with k:=b.k,nm:=b.nm,a:=a,dft:=b.dft}) ⟨I,I,z,I,by rw[n];exact Fw,by rw[x];exact Fw,by rw[f];exact Fw,Jt⟩ Fw⟩;congr 1;rw[nK,oO,dJ];have:Cu b=0:=by unfold Cu;rw[n,x,f];rfl
  rw[this,f];rfl
theorem apO{s}(h0:s.fc=0){v}(c:qO v)(m:v≠ -9223372036854775808){q}{A}(dL:At ts s.i (Js v++q::A)):
  ∃g,cX ts s [[45]]=g/\(if g=0 then(io ts (if g=0 then s else ez s) 3).1.n else au U (-(io ts (if g=0 then s else ez s) 3).1.n))=v/\(io ts (if g=0 then s else ez s) 3).2=eH s (qj (Js v)) 0 0 0:=by
 obtain⟨a,b⟩:=c;unfold Js at dL⊢;by_cases h:v<0
 .rw[K h]at dL⊢;obtain⟨f,d,e⟩:=yf (s:=eH s 1 0 0 0) (k:=3) h0 dL.tail I;refine⟨1,AO,?_,?_⟩
  .rw[R Z,R Z,j7,d];rw[Int.neg_neg,eS a b]
  rw[R Z,j7,e,dx];rfl
 rw[R h]at dL⊢;obtain⟨f,d,e⟩:=yf (s:=s) (k:=3) h0 dL I;exact⟨0,by rw[eP h0 dL];rfl,by rw[K I,K I,d],by rw[K I,e];rfl⟩
theorem apQ{s}(j:s.fc=0)(n:1<=s.v)(o:s.v<=1000){v}(l:qO v.v)(m:v.v≠ -9223372036854775808){A}(d:At ts s.i ((UG v).tail++A)):
  ∃r,wY ts s=(r,eH {s with v:=s.v-1} (UG v).tail.length 0 0 0)/\VrE aM v r:=by
 have u:Gn ts s={s with v:=s.v-1}:=by
  unfold Gn;rw[R J,AW n o]
 unfold wY;dsimp only;rw[K d.head.1,u];generalize C:({s with v:=s.v-1})=s1;have a:s1.fc=0:=by rw[<-C];exact j
 have d:At ts s1.i ((1,v.n,0)::lF 61::((Js v.v++[lF 59])++A)):=by rw[<-C];exact d
 obtain⟨c,p,b⟩:=yf (s:=s1) (k:=1) a d I;rw[c,b,ky (s:=eH s1 1 0 0 0) a d.tail Z,dx];have h:=by
  have:=d.tail.tail;rw[bq]at this;exact this
 obtain⟨t,g,f,i⟩:=apO hE (s:=eH s1 (1+1) _ _ _) a l m h;rw[g,f,i,dx,ky (s:=eH s1 _ _ _ _) a (q:=lF 59) (A:=A) (by
  have e:(eH s1 (1+1) (0+0) (0+0) (0+0)).i+qj (Js v.v)=(eH s1 (1+1+qj (Js v.v)) (0+0+0) (0+0+0) (0+0+0)).i:=UZ
  rw[<-e];exact h.right) Z,dx]
 refine⟨⟨v.n,v.v,(io ts s1 1).1.a⟩,?_,⟨I,I,Jt⟩⟩;unfold UG;simp;congr 2;omega
theorem YO:∀l f a {s:Sx},s.fc=0->qj l<f->qj l<=s.v->s.v<=1000->(∀v,v∈l->qO v.v/\v.v≠ -9223372036854775808)->∀{q:K3} {A:L K3},VS q [zg]=0->At ts s.i (AV l++q::A)->
  ∃r,wZ ts f a s=(a++r,eH {s with v:=s.v-(qj l)} (qj (AV l)) 0 0 0)/\nM (VrE aM) l r
 | [],f,a,s,h,hf,c,e,v,q,A,b,d=>by
  obtain⟨f,rfl⟩:∃g,f=g+1:=⟨f-1,XY⟩
  rw[wZ,eP h d,K b];refine⟨[],?_,Fw⟩;unfold eH AV;simp
 | v::l,f,a,s,h,hf,p,t,c,q,A,n,d=>by
  rw[aZ]at hf p;obtain⟨f,rfl⟩:∃m,f=m+1:=⟨f-1,J⟩
  have d:At ts s.i ((UG v++AV l)++q::A):=d;rw[bq]at d;have b:=d;obtain⟨r,e,g⟩:=apQ hE (s:=eH s 1 0 0 0) h UZ UZ (c v X).1 (c v X).2 b.tail;rw[wZ,eP h b,R Z,j7,e];have i:eH {eH s 1 0 0 0 with v:=(eH s 1 0 0 0).v-1} (UG v).tail.length 0 0 0=eH {s with v:=s.v-1} (qj (UG v)) 0 0 0:=by
   unfold eH UG;simp only[List.tail_cons,aZ,Sx.mk.injEq,true_and];refine⟨J,?_,?_,?_⟩<;>omega
  rw[i];obtain⟨o,j,k⟩:=YO l f _ (s:=eH {s with v:=s.v-1} (qj (UG v)) 0 0 0) h J UZ UZ (λx hx=>c x Ze) n d.right;refine⟨r::o,?_,Ss g k⟩;rw[j,bq,aZ];congr 1;unfold eH;simp only[AV,aP,Sx.mk.injEq,true_and];refine⟨J,J,?_,?_,?_⟩<;>omega
theorem M8:∀l,qj l<=qj (AV l)
 | []=>H _
 | v::l=>by
  have:=M8 l;rw[AV,aP,aZ];unfold UG;rw[aZ];omega
theorem adL{c}(m:pz c=aF)(w:HX c)(L:At ts 0 (Lc c++[(5,[],0)])):(xa ts).2.fc=0/\∀d,ChE aM d c (xa ts).1:=by
 unfold pz at m;simp only[B]at m;obtain⟨⟨t,o⟩,j⟩:=m;replace j:=u j;obtain⟨r,⟨b,l⟩⟩:=c;have A:=w.v;have y:=w.r;rw[kc]at o;simp only[B]at o;obtain⟨⟨_,T⟩,p⟩:=o;dsimp only at t j A;obtain⟨q1,q2,q3,q4,q5⟩:=j;have hk:b.k=1:=q1;rw[iQ]at q3;rw[Am]at q4;rw[yP]at q5;have V:gv b.k=aM:=UR
 obtain⟨_,S,Y⟩:=YG T V;have D:∀v,v∈r->qO v.v/\v.v≠ -9223372036854775808:=λv C=>by
  have:=(du.1 t) v C;simp at this;exact⟨A v C,this.2⟩
 have L:At ts yO.i ((2,fX,0)::(1,b.nm,0)::lF 123::(AV r++((DF b++(nY l++[lF 125]))++[(5,[],0)]))):=by
  have e:(2,fX,0)::(1,b.nm,0)::lF 123::(AV r++((DF b++(nY l++[lF 125]))++[(5,[],0)]))=(2,fX,0)::(1,b.nm,0)::lF 123::(AV r++(DF b++(nY l++[lF 125])))++[(5,[],0)]:=X
  rw[e];exact L
 have z:yO.fc=0:=I;unfold xa;rw[ky (s:=yO) z L Z];obtain⟨a,E⟩:=Fx hE (s:=eH yO 1 0 0 0) z 1 L.tail Z Z Z;rw[E];dsimp only;rw[ky (s:=eH (eH yO 1 0 0 0) 1 0 0 1) z L.tail.tail Z,dx,dx];have f:At ts (eH yO (1+1+1) (0+0+0) (0+0+0) (0+1+0)).i _:=L.tail.tail.tail;obtain⟨q,i,W,h⟩:∃q i,(DF b++(nY l++[lF 125]))++[((5,[],0))]=q::i/\VS q [zg]=0/\q.1≠5:=by
  obtain⟨q,i,a,d⟩:=abW hE l (AZ hE p) [_];have v:VS q [zg]=0:=by
   cases l with
   | nil=>
    have:q=lF 125:=by injection a with b _;exact b.symm
    rw[this];decide
   | cons x l=>
    obtain⟨s,b⟩:=AY (ts:=ts) hE x;rw[nY,b]at a;have:q=(2,kW x.b.k,0):=by injection a with k _;exact k.symm
    obtain _:=AZ (ts:=ts) hE p x X;have n:x.b.k=1∨x.b.k=2∨x.b.k=3∨x.b.k=4:=J
    rw[this];rcases n with e | e | e | e<;>rw[e]<;>decide
  have e:(DF b++(nY l++[lF 125]))++[((5,[],0))]=DF b++(nY l++lF 125::[(5,[],0)]):=X
  rw[e,a];unfold DF UF Gk VQ;by_cases c:b.ini=[]
  .rw[K c];by_cases e:b.en=[]
   .rw[K e];by_cases k:b.lv=[]
    .rw[K k];cases n:b.mv with
     | nil=>exact⟨q,i,I,v,d.2.2⟩
     | cons s ms=>
      have:∃b q,SD s=(2,b,0)::q/\VS (2,b,0) [zg]=0:=by
       unfold SD PI;split
       .exact⟨_,_,I,Z⟩
       split
       .exact⟨_,_,I,Z⟩
       exact⟨_,_,I,Z⟩
      obtain⟨b,q,x,u2⟩:=this;rw[AU,x];exact⟨_,_,I,u2,(by decide:(2:Int)≠5)⟩
    rw[R k];exact⟨_,_,I,Z,Z⟩
   rw[R e];exact⟨_,_,I,Z,Z⟩
  rw[R c];exact⟨_,_,I,Z,Z⟩
 have g:=f;rw[W]at g;have fi:=M8 (ts:=ts) hE r;have NU:=At.inr hE g h.2;obtain⟨rv,F,G⟩:=YO hE r (qj ts+1) [] (s:=eH yO _ _ _ _) z J Uc Z D h.1 g;rw[F];obtain⟨r0,r1,r2,am,H,M,N,P,Q⟩:=YM hE (aeP hE 14) (deep:=0) (s:=eH {eH yO (1+1+1) (0+0+0) (0+0+0) (0+1+0)with v:=(eH yO (1+1+1) _ _ _).v-(qj r)} (qj (AV r)) 0 0 0) (n:={WL with k:=1,nm:=b.nm,a:=a}) p y.2 Y y.1 z I Z Z Uc Uc Uc Uc Uc Uc f.right I I I I;rw[H];rw[dx];refine⟨?_,λd=>⟨by rw[cd];exact G,Jv (b':={WL with k:=1,nm:=b.nm,a:=a,ini:=b.ini,en:=r0,lv:=r1,mv:=r2}) ⟨hk,I,I,S,M,N,P,Jt⟩ Q d⟩⟩;unfold O3;rw[R]
 .exact z
 rintro⟨_,b⟩;refine b ?_;have a:=f.right.right.head.1;rw[dA]at a;exact a
end
def vrK{c}(h:pz c=aF)(n:HX c)(r:qj (Cv (F4 c))<=16384):(fp (Cv (F4 c))).2.1=0/\∀d,ChE aM d c (fp (Cv (F4 c))).1:=by
 have e:=apG h n;unfold Lq at e;generalize Cv _=L at*
 have a:lN L (0+qj L)=.ok [⟨5,[],0,qj L⟩]:=by
  have hd:L.drop (qj L)=[]:=dT (H _);have c:lM aM []=0:=I;rw[bR,lI (H _),hd,c,K J];rfl
 obtain⟨u,k,m⟩:=e L 0 [] _ (bf _) (by rw[gJ,bC]) trivial a;generalize Q:u++[_]=s at*
 have b:de L=(s,0,0):=by rw[de,R J,k]
 have E:=by
  have:=(zi (l:=L) (by rw[b])).1;rw[b]at this;exact this
 have o:s.map k3=Lc c++[(5,[],0)]:=by rw[<-Q,cA,m];rfl
 have i:At s 0 (Lc c++[_]):=λp q j=>by
  rw[<-o,cw,fm]at j;obtain⟨t,c,rfl⟩:=j;have:tk s (0+p)=t:=by
   unfold tk;rw[bR,c];rfl
  rw[this]
 obtain⟨f,g⟩:=adL E h n i;unfold fp;rw[b];dsimp only;rw[R Z,R (by rw[f];decide)];exact⟨I,g⟩
def dfs{c:Ch}(n:HX c):iO c=jo c:=by
 unfold iO jo;by_cases h:pz c=aF
 .rw[K h,K h];by_cases a:16384<qj (eh [] (F4 c))
  .rw[K a,K a]
  rw[R a,R a];have e:=ad3 (F4 c) [] J;rw[cd]at e;have l:=vrK h n (by rw[<-e];omega);rw[e,R (by rw[l.1];decide)]
 rw[R h,R h]
structure Rr (F:A) (ts:List Tk) (w:aw) (b:Nat) (l:Sl) (i:Nat) (fc fa d:Int):Prop where
 blk:aG w b 384 [l.v,O U (i:Int),O U d,O U fc,O U fa]
 tok:aB OZ 4 w F l ts
 hF:∀k,F k->k<b
 en:um ts
 lt:i<qj ts
section
variable {F:A} {ts:L Tk} {w w':aw} {b:Nat} {l:Sl} {i:Nat} {fc fa d:Int}
def Rr.only(h:Rr F ts w b l i fc fa d)(O:az [] w w'):Rr F ts w' b l i fc fa d:=
 ⟨O.blk h.blk X,Wg jk Z h.tok O X,h.hF,h.en,h.lt⟩
def Rr.lG(h:Rr F ts w b l i fc fa d)(c:az [b] w w'){a:Nat}{fc' fa' d'}(B:aG w' b 384 [l.v,O U a,O U d',O U fc',O U fa'])(e:a<qj ts):Rr F ts w' b l a fc' fa' d':=
 ⟨B,Wg jk Z h.tok c λk hk _ hm=>Ta,h.hF,h.en,e⟩
def Rr.own(h:Rr F ts w b l i fc fa d){bs}(O:az bs w w')(hb:∀x,x∈bs->b<x):Rr F ts w' b l i fc fa d:=
 ⟨O.blk h.blk λhm=>by have:=hb b hm;omega,Wg jk Z h.tok O λk hk _ hm=>NA,h.hF,h.en,h.lt⟩
def Rr.lb(h:Rr F ts w b l i fc fa d):b<w.heap.size:=h.blk.lt
def Rr.big(h:Rr F ts w b l i fc fa d):qj ts<=9223372036854775807:=by
 have a:=h.tok.len;have c:=h.tok.cap;have e:=h.tok.big;omega
def Rr.now(h:Rr F ts w b l i fc fa d):∃ad,cK l i 4 ad/\aD w ad [O U (tk ts i).k,ab (T (tk ts i).t),O U (tk ts i).n,O U (tk ts i).a]:=by
 have k:=h.tok.len;have W:=h.lt;obtain⟨ad,x,s,a,g,f,j,c,e⟩:=h.tok.get (be i) J;rw[ba,EG h.lt]at g;injection g with g;subst g;subst e;exact⟨ad,a,c⟩
def Jx(h:Rr F ts w b l i fc fa d) c:aA aq 362 #[ae (aN ⟨b,0,Pw⟩),O U c] w λe w'=>e=ak (ai #[])/\az [b] w w'/\
  Rr F ts w' b l i (if fc=0 then c else fc) (if fc=0 then(tk ts i).a else fa) d:=by
 refine ret (ao9 ?_);refine⟨fc,Om h.blk 3 I,λhc a n=>?_,λhc=>?_⟩
 .have hc:=Yc
  subst hc;have c:=h.only n;obtain⟨ad,g,d⟩:=c.now;exact⟨l,Om c.blk 0 I,_,Om c.blk 1 I,ad,g,_,d.dP 3 _ I,b,3,_,_,I,c.blk,X,λw P m=>⟨I,n.weaken (λ_ h=>Ue) |>.trans P (λx e=>.inl e),c.lG P m h.lt⟩⟩
 have hc:=Yc
 rw[R hc,R hc];exact⟨I,Ib _ _,h⟩
def Fy(h:Rr F ts w b l i fc fa d):aA aq 361 #[ae (aN ⟨b,0,Pw⟩)] w λe w'=>e=ak (ai #[])/\az [b] w w'/\
  Rr F ts w' b l i (if fc=0 then(jE ts i).1 else fc) (if fc=0 then(jE ts i).2 else fa) d:=by
 refine ret (ao8 ?_);obtain⟨ad,g,a⟩:=h.now;refine⟨l,Om h.blk 0 I,_,Om h.blk 1 I,ad,g,_,a.dP 0 _ I,λhc f n=>(Jx (h.only n) 3).mono ?_,λhc j c=>(Jx (h.only c) 4).mono ?_⟩
 .have hc:=Yc
  rintro _ w ⟨rfl,r,b⟩;unfold jE;rw[K hc];exact⟨I,I,n.weaken (λ_ h=>Ue) |>.trans r (λx d=>.inl d),b⟩
 have hc:=Yc
 rintro _ w ⟨rfl,r,b⟩;unfold jE;rw[R hc];exact⟨I,I,c.weaken (λ_ h=>Ue) |>.trans r (λx d=>.inl d),b⟩
def A0(f:Rr F ts w b l i fc fa d) s:aA aq 357 #[ae (aN ⟨b,0,Pw⟩),ab (T s)] w λe w'=>e=ak (aj (fc==0&&sg ts i s))/\az [] w w':=by
 refine ret (ao4 ?_);intro m c;have h:=f.only c;obtain⟨ad,g,a⟩:=h.now;refine⟨λ_=>True,trivial,l,Om h.blk 0 I,trivial,_,Om h.blk 1 I,ad,g,trivial,_,_,_,_,a,λk n hk j r=>⟨fc,Om (h.only r).blk 3 I,?_,c.bU r⟩⟩;rw[ji,sZ];rfl
def DG(h:Rr F ts w b l i fc fa d) s:aA aq 359 #[ae (aN ⟨b,0,Pw⟩),ab (T s)] w λe w'=>e=ak (ai #[])/\az [b] w w'/\
  (if fc==0&&sg ts i s then Rr F ts w' b l (i+1) fc fa d else Rr F ts w' b l i (if fc=0 then(jE ts i).1 else fc) (if fc=0 then(jE ts i).2 else fa) d):=by
 refine ret (ao6 ?_);refine(A0 h s).mono ?_;rintro _ f ⟨rfl,r⟩;have a:=h.only r;have j:az [b] w f:=r.weaken λ_ h=>Ue
 refine⟨_,I,λc=>(Fy a).mono ?_,λc=>?_⟩
 .rintro _ w ⟨rfl,P,h⟩;have c:(fc==0&&sg ts i s)=aM:=by rwa[da]at c
  rw[c];exact⟨I,I,j.trans P (λx b=>.inl b),h⟩
 have c:=by rwa[jA]at c
 rw[c];simp at c;have n:=h.en.next h.lt (yx c.2);have e:=h.big;refine⟨i,Om a.blk 1 I,b,1,_,_,I,a.blk,X,λg Z w=>⟨I,j.trans Z (λx d=>.inl d),a.lG Z ?_ n⟩⟩;rw[eS J J]at w;exact w
def SI{d:Nat}(hd:d<=20)(h:Rr F ts w b l i 0 0 d)(n:i+1<qj ts):aA aq 358 #[ae (aN ⟨b,0,Pw⟩)] w λe w'=>e=ak (aj (!YR (d=20)))/\az [b] w w'/\
  (if d=20 then Rr F ts w' b l i 21 (tk ts i).a d else Rr F ts w' b l (i+1) 0 0 ((d+1:Nat))):=by
 refine ret (ao5 ?_);have a:=h.big;refine⟨d,Om h.blk 2 I,λhc=>(Jx h 21).mono ?_,λhc=>?_⟩
 .have hc:d=20:=by
   have:=Yc
   omega
  rintro _ w ⟨rfl,c,b⟩;refine⟨I,by rw[bG hc];rfl,c,?_⟩;rw[K hc];exact b
 have hc:d≠20:=λe=>Si
 refine⟨d,Om h.blk 2 I,b,2,_,_,I,h.blk,X,λw r s=>?_⟩;rw[eS J J]at s;have c:=h.lG r s h.lt;refine⟨i,Om c.blk 1 I,b,1,_,_,I,c.blk,X,λg P m=>?_⟩;rw[eS J J]at m;refine⟨by rw[bD hc];rfl,r.trans P λx f=>.inl f,?_⟩;rw[R hc];exact c.lG P m n
end
def sA:L (L (C)):=[[[124,124]],[[38,38]],[[61,61],[33,61]],[[60],[60,61],[62],[62,61]],[[43],[45]],[[42],[47],[37]]]
def fH:L (L Int):=[[13],[12],[10,11],[6,7,8,9],[1,2],[3,4,5]]
def FA:Rp Int:=λ_ _ x c=>c=[O U x]
def oC:FA.Ok where
 keep h _:=h
 inHeap h:=h
 mono h _:=h
 one:=by
  rintro w F x c rfl v h;simp at h;subst h;rfl
def Jy{a:Type}(r:Rp a):Rp (L a):=λw F x c=>∃s,c=[s.v]/\aB r 1 w F s x
def yh{α}{b:Rp α}(r:b.Ok):(Jy b).Ok where
 keep:=λ⟨s,h,a⟩ hk=>⟨s,h,Ic r a Z hk⟩
 inHeap:=λ⟨s,h,a⟩=>⟨s,h,WV r a Z⟩
 mono:=λ⟨s,h,a⟩ hk=>⟨s,h,UK r a hk⟩
 one:=by
  rintro w F x d ⟨s,rfl,_⟩ v c;simp at c;subst c;rfl
def BM w l {n} {parts} (h:parts=(((l.map λx=>Value.int U x).zipIdx 0).map λx=>(x.2,x.1)).toArray) (hn:qj l=n) (b:0<n) (y:n*1<=16777216):
  ∃s a,(av 31 n parts).run aq w=.ok (Sl.v s) a/\Own FA 1 3 w.heap.size a (λ_=>True) s l/\az [] w a:=by
 have g:pR FA 1 w (λ_=>True) l ((l.map λx=>Value.int U x).map λv=>v.cells.toList):=by
  clear h hn
  induction l with
  | nil=>trivial
  | cons x l i=>exact⟨⟨I,I⟩,i⟩
 obtain⟨s,a,c,d,f,_⟩:=iU (P:=aq) (t:=31) (e:=3) (i:=Tryz.t3) (r:=FA) (size:=1) E E I I Z h Mc b y oC g;exact⟨s,a,c,d,f⟩
def YP{α}{r:Rp α}(c:r.Ok){t e}{ti}(q:Tryz.prog.underlying t=aN (.slice e))(m:Tryz.prog.info? e=aN ti){z}(u:ti.zero=aN z)(o:ti.size=1){w}{F}{xs}(a:L Sl){n}{parts}(p:parts=(((a.map λs=>s.v).zipIdx 0).map λx=>(x.2,x.1)).toArray)(hn:qj a=n)(f:0<n)(y:n*1<=16777216)
  (E:iL (λx s=>qj s=1/\Jy r w F x s) xs (a.map λs=>[s.v])):
  ∃s b,(av t n parts).run aq w=.ok (Sl.v s) b/\aB (Jy r) 1 b (λk=>F k∨w.heap.size<=k) s xs/\az [] w b:=by
 have h:pR (Jy r) 1 w F xs ((a.map λs=>s.v).map λv=>v.cells.toList):=by
  have:((a.map λs=>s.v).map λv=>v.cells.toList)=a.map λs=>[s.v]:=by
   rw[iv];rfl
  rw[this];exact E
 obtain⟨s,b,g,j,l,_⟩:=iU (P:=aq) (t:=t) (e:=e) (i:=ti) (r:=Jy r) (size:=1) q m u o Z p Mc f y (yh c) h;exact⟨s,b,g,UK (yh c) (j.slice (yh c)) (λk hk=>hk.imp id λd=>d.1),l⟩
def YQ w:aA aq 333 #[] w λe x=>∃s,e=ak s.v/\aB (Jy nU) 1 x (λk=>w.heap.size<=k) s sA/\az [] w x:=by
 refine gX (ao0 ?_);obtain⟨g,y,G,R,c0⟩:=lp w [[124,124]] (n:=1) (parts:=#[_]) I I Z Z;obtain⟨h,z,K,S,f⟩:=lp y [[38,38]] (n:=1) (parts:=#[_]) I I Z Z;obtain⟨i,A,M,T,d⟩:=lp z [[61,61],[33,61]] (n:=2) (parts:=#[_,_]) I I Z Z;obtain⟨j,B,N,U,b⟩:=lp A [[60],[60,61],[62],[62,61]] (n:=4) (parts:=#[_,_,_,_]) I I Z Z;obtain⟨m,C,O,V,a⟩:=lp B [[43],[45]] (n:=2) (parts:=#[_,_]) I I Z Z;obtain⟨o,D,P,W,c⟩:=lp C [[42],[47],[37]] (n:=3) (parts:=#[_,(1,ab _),_]) I I Z Z;have z0:=c0.size;have z1:=f.size;have z2:=d.size;have z3:=b.size;have z4:=a.size;have mk:∀{u q:aw} {s:Sl} {l:L _},w.heap.size<=u.heap.size->∀{v:aw},Own nU 1 9 u.heap.size v (λ_=>True) s l->az [] v q->[s.v].length=1/\Jy nU q (λk=>w.heap.size<=k) l [s.v]:=λhu v hB hO=>⟨I,_,I,Wg dG Z (UK dG (vY hB) λk hk=>Wi) hO X⟩
 obtain⟨p,w6,Q,Y,c6⟩:=YP (r:=nU) dG (t:=370) (e:=80) (ti:=Tryz.t80) E E I I (w:=D) (F:=λk=>w.heap.size<=k) (xs:=sA) [g,h,i,j,m,o] (n:=6) (parts:=#[_,_,_,_,_,_]) I I Z Z
  ⟨mk (H _) R (((((f.bU d).bU b).bU a).bU c)),mk J S ((((d.bU b).bU a).bU c)),mk J T ((b.bU a).bU c),mk J U (a.bU c),mk J V c,mk J W (Ib _ _),trivial⟩
 have z5:=c.size;exact⟨g,y,G,h,z,K,i,A,M,j,B,N,m,C,O,o,D,P,p,w6,Q,p,I,UK (yh dG) Y (λk hk=>by rcases hk with hk | hk<;>omega),(((((c0.bU f).bU d).bU b).bU a).bU c).bU c6⟩
def PE w:aA aq 332 #[] w λe x=>∃s,e=ak s.v/\aB (Jy FA) 1 x (λk=>w.heap.size<=k) s fH/\az [] w x:=by
 refine gX (aoZ ?_);obtain⟨g,y,G,R,c0⟩:=BM w [13] (n:=1) (parts:=#[_]) I I Z Z;obtain⟨h,z,K,S,f⟩:=BM y [12] (n:=1) (parts:=#[_]) I I Z Z;obtain⟨i,A,M,T,d⟩:=BM z [10,11] (n:=2) (parts:=#[_,_]) I I Z Z;obtain⟨j,B,N,U,b⟩:=BM A [6,7,8,9] (n:=4) (parts:=#[_,_,_,_]) I I Z Z;obtain⟨m,C,O,V,a⟩:=BM B [1,2] (n:=2) (parts:=#[_,_]) I I Z Z;obtain⟨o,D,P,W,c⟩:=BM C [3,4,5] (n:=3) (parts:=#[_,_,_]) I I Z Z;have z0:=c0.size;have z1:=f.size;have z2:=d.size;have z3:=b.size;have z4:=a.size;have mk:∀{u q:aw} {s:Sl} {l:L Int},w.heap.size<=u.heap.size->∀{v:aw},Own FA 1 3 u.heap.size v (λ_=>True) s l->az [] v q->[s.v].length=1/\Jy FA q (λk=>w.heap.size<=k) l [s.v]:=λhu v hB hO=>⟨I,_,I,Wg oC Z (UK oC (Rc oC (λ_ _ _ _ _ am=>am) hB) λk hk=>Wi) hO X⟩
 obtain⟨p,w6,Q,Y,c6⟩:=YP (r:=FA) oC (t:=45) (e:=31) (ti:=Tryz.t31) E E I I (w:=D) (F:=λk=>w.heap.size<=k) (xs:=fH) [g,h,i,j,m,o] (n:=6) (parts:=#[_,_,_,_,_,_]) I I Z Z
  ⟨mk (H _) R (((((f.bU d).bU b).bU a).bU c)),mk J S ((((d.bU b).bU a).bU c)),mk J T ((b.bU a).bU c),mk J U (a.bU c),mk J V c,mk J W (Ib _ _),trivial⟩
 have z5:=c.size;exact⟨g,y,G,h,z,K,i,A,M,j,B,N,m,C,O,o,D,P,p,w6,Q,p,I,UK (yh oC) Y (λk hk=>by rcases hk with hk | hk<;>omega),(((((c0.bU f).bU d).bU b).bU a).bU c).bU c6⟩
def pG(t:L Tk)(i:Nat):L (C)->L Int->Int
 | s::b,n::a=>if sg t i s=aF then n else pG t i b a
 | _,_=>0
def aae(t:L Tk)(i k:Nat)(hk:k<6):pG t i ((sA[k]?).getD []) ((fH[k]?).getD [])=lO t (k:Int) i:=by
 match k,hk with
 | 0,_=>simp[lO,kP,gf,pG,sA,fH,eX,ze]
 | 1,_=>simp[lO,kP,gf,pG,sA,fH,eX,ze]
 | 2,_=>simp[lO,kP,gf,pG,sA,fH,eX,ze]
 | 3,_=>simp[lO,kP,gf,pG,sA,fH,eX,ze]
 | 4,_=>simp[lO,kP,gf,pG,sA,fH,eX,ze]
 | 5,_=>simp[lO,kP,gf,pG,sA,fH,eX,ze]
def abI{ts}{i}{b:L _}{a:L Int}{n}{s}{m}(h:b[n]? =aN s)(c:a[n]? =aN m):pG ts i (b.drop n) (a.drop n)=if sg ts i s=aF then m else pG ts i (b.drop (n+1)) (a.drop (n+1)):=by
 rw[eu (bc.1 h).1,(bc.1 h).2,eu (bc.1 c).1,(bc.1 c).2,pG]
def neP(k:Nat):qj ((sA[k]?).getD [])=qj ((fH[k]?).getD []):=by
 rcases nu k 6 with h | h
 .match k,h with
  | 0,_=>rfl
  | 1,_=>rfl
  | 2,_=>rfl
  | 3,_=>rfl
  | 4,_=>rfl
  | 5,_=>rfl
 rw[cW (h),cW (h)];rfl
section
variable {F:A} {ts:L Tk} {w w':aw} {b:Nat} {l:Sl} {i:Nat} {fc fa d:Int}
def asB(C:Rr F ts w b l i fc fa d){k:Nat}(hk:k<6):aA aq 356 #[ae (aN ⟨b,0,Pw⟩),O U k] w λe w'=>e=ak (O U (if fc=0 then lO ts k i else 0))/\az [] w w':=by
 refine ret (ao3 ?_);refine(YQ w).mono ?_;rintro _ Q ⟨E,rfl,j,o⟩;have n0:=j.len;have n6:qj sA=6:=I;obtain⟨p0,x,s,z,g,g3,g4,B,L,rfl,S⟩:=j.get (be k) J;rw[ba]at g;refine⟨E,I,p0,z,L,B,(PE Q).mono ?_⟩;rintro _ T ⟨G,rfl,N,r⟩;have m0:=N.len;have m6:qj fH=6:=I;obtain⟨H,m,p,t,a,Y,e4,y,P,rfl,M⟩:=N.get (be k) J;rw[ba]at a;have h:=aae ts i k hk;have V:=neP k;rw[g,a,jw,jw]at h V;have t1:=S.len;have t2:=M.len;have t3:=S.cap;have t4:=S.big;refine⟨G,I,H,t,P,y,λv D w'=>∃n,n<=qj x/\D=n/\v=(qj x)-n/\(fc=0->pG ts i x m=pG ts i (x.drop n) (m.drop n))/\az [] T w',qj x,⟨0,bf _,I,I,λ_=>I,Ib _ _⟩,?_⟩;rintro v _ w2 ⟨n,hn,rfl,rfl,f,c⟩;have q:=(o.bU r).bU c;refine⟨λW=>?_,λA=>?_⟩
 .have W:=u W;obtain⟨p2,e,F,q1,w,q3,q4,q5,q6⟩:=(Wg dG Z S (r.bU c) X).get (be n) W;subst q6;rw[ba]at w;refine⟨p2,q1,_,q5,(A0 (C.only q) e).mono ?_⟩;rintro _ w3 ⟨rfl,d⟩;obtain⟨p3,U,O,r1,r2,r3,r4,r5,r6⟩:=(Wg oC Z M (c.bU d) X).get (i:=n) (be n) J;subst r6;have l:=abI (ts:=ts) (i:=i) w r2;refine⟨_,I,λb=>⟨p3,r1,U,r5,?_,q.bU d⟩,λb=>⟨(qj x)-_,J,n+1,J,Ye,I,λk=>?_,c.bU d⟩⟩
  .simp at b;rw[K b.1,<-h,f b.1,l,K b.2]
  rw[f k,l,R];intro i;rw[k,i]at b;exact absurd b Z
 have A:=aU A;refine⟨?_,q⟩;by_cases b:fc=0
 .rw[K b,<-h,f b,dT J];rfl
 rw[R b]
end
end Go.Proofs.YtdfibecibkijiaaGreatDoor.Con
