import Derived.Test.YtfemabakfkliiaaGreatDoorQg8
set_option linter.defProp false
set_option linter.unusedSectionVars false
set_option linter.unusedSimpArgs false
set_option linter.unusedVariables false
set_option maxHeartbeats 4000000
set_option maxRecDepth 100000
open Bool renaming true->L,false->aL
open Option renaming some->aM,none->aaf
open List renaming length->I
open Go.Value renaming int->O,string->K,pointer->ae,agg->ah,tuple->ai,bool->aj
open Go.IntKind renaming i64->U,wrap->ar
open Go.Ending renaming returned->ak
open _root_.ByteArray renaming mk->ao
open _root_.Go.Proofs.Tryz renaming prog->Q
open Go.Instr renaming buildSlice->au
open Go renaming World->M,Value->aw,Calls->az
open Go.Kt renaming Only->Z,SliceF->aA,Cells->aB,OnlyP->aD,Blk->aF
open Go renaming World->M,Value->aw
namespace Go.Proofs.YtfemabakfkliiaaGreatDoor.Con
open Go Go.RowKit Go.Kt Go.Kt.V Go.Proofs.YtfemabakfkliiaaGreatDoor.Vc
section
variable {w w':M} {b m0 m1:Nat} {F G:aJ} {s:Sl} {xs:List dN} {vn:List (aH)} {f g:Ft}
def DG{l:List Nd}{j}{y}(h:l[j]? =aM y):Du (l.take (j+1))=Du (l.take j)+if iu y.b.k=L then 0 else 1:=by
 unfold Du;rw[bq,h,gZ,aO];simp[Option.toList,oX,ff];cases iu y.b.k<;>simp
def VV l:Du l<=I l:=gM _ _
def VW{D:Nat}{bb}{ks}{cs}(d:mz aL (D+1) w G (.mk bb ks) cs)(R:∀k,G k->k≠b)(h:Lx w b m0 m1 F s xs vn f){n:Nat}(r:n<I xs):
  az Q 91 #[ae (aM ⟨b,0,aaf⟩),ah cs.toArray,O U (n:Int)] w λA w'=>A=ak (ai #[])/\Lx w' b m0 m1 F s xs vn (iY f (uX xs bb ks n))/\Z [b] w w':=by
 obtain⟨P,V,mv,kids,l,_,i⟩:=d;have hk:=i.1;dsimp[Nd.kids,Nd.b]at hk l;subst l;refine ret (aqU _ _ _ _ _ _ _ _ _ _ _ ?_);intro m C i N g;have Y:=g.size;have H:=h.lo.lt;have q:=hk.len;have B:=hk.cap;have t:=hk.big;have p:m≠b:=J
 refine⟨λv c bg z u=>∃j:Nat,z=(j:Int)/\v+j=I ks/\j<=I ks/\c=(Du (ks.take j):Nat)/\bg=yZ bb.ini (ks.take j)/\Z [] w u/\C.heap.size<=u.heap.size,I ks,⟨0,rfl,J,bm _,rfl,rfl,g,aX _⟩,?_⟩;rintro v _ _ _ o ⟨j,rfl,W,S,rfl,rfl,E,z1⟩;refine⟨λa=>?_,λa=>?_⟩
 ·have a:=aN a;obtain⟨ad,y,F,n,f,w,x,s,k⟩:=(SliceF.only (cA aL D) X hk E aaV).get (aZ j) J;rw[aW]at f;obtain⟨b,rfl⟩:∃b,D=b+1:=by
   cases D with
   | zero=>exact k.elim
   | succ b=>exact⟨b,rfl⟩
  obtain⟨tT,tU,qk,iE,rfl,_⟩:=k;have lP:=VV (ks.take j);have rK:I (ks.take j)<=j:=aej
  refine⟨ad,n,_,_,_,_,tT,tU,qk,iE,_,s,λk3 G xF sA T=>?_⟩;have z2:=T.size;refine⟨λc u=>c=(Du (ks.take (j+1)):Nat)/\Z [] G u,?_,(B5 G y.b.k).mono ?_⟩
  ·rintro _ e ⟨rfl,c⟩;have y:=c.size;refine⟨v-1,J,j+1,aaA,J,J,rfl,?_,(E.cn T).cn c,J⟩;unfold yZ;rw[bq,f,Cu,iV];simp
  rintro _ y ⟨rfl,c⟩;obtain rfl:G=y:=c.symm;refine⟨_,rfl,cr.refl _ _,λhh=>⟨?_,Only.refl _ _⟩,λhh=>⟨?_,Only.refl _ _⟩⟩
  ·rw[fe J J,DG f,aR (by intro e;rw[e]at hh;cases hh)];rfl
  rw[DG f,aV adP];rfl
 have a:=aQ a;have lc:j=I ks:=J
 subst lc;rw[bp (aX _)];have y:=h.o0 E;have q0:∀u,((T u).toList==(ao #[]).toList)=decide (u=[]):=λu=>iV u [];refine(B5 o bb.k).mono ?_;rintro _ w5 ⟨rfl,c⟩;obtain rfl:o=w5:=c.symm;refine⟨_,rfl,cr.refl _ _,λhh w6 G=>?_,λhh=>⟨λhp=>?_,λhp=>⟨λe=>?_,λe=>?_⟩⟩⟩
 ·have z6:=G.size;have o6:=E.cn G;have h6:=h.o0 o6;have Om:uX xs bb ks n=bad (IB xs bb.dft&&Al xs (fN xs bb.dft) (M5 xs n)) 26 bb.a:=by unfold uX;rw[aV hh]
  refine⟨_,Blk.dM h6.lo.blk 0 rfl,(HB h6 bb.dft).mono ?_⟩;rintro _ w7 ⟨rfl,c⟩;obtain rfl:w6=w7:=c.symm;refine⟨_,rfl,cr.refl _ _,λu=>Lx u b m0 m1 F s xs vn (iY f _)/\Z [b] w u,λu h=>⟨rfl,h.1,h.2⟩,λw9 gp=>?_⟩;have z9:=gp.size;have o9:=o6.cn gp;have T:=h.o0 o9;refine⟨λk=>k=m,rfl,(Kz T (by rcases DE xs bb.dft with h | _<;>omega)).mono ?_⟩;rintro _ dA ⟨rfl,c⟩;obtain rfl:w9=dA:=c.symm;obtain⟨x,d⟩:=gj r;obtain⟨ad,a1,a2,a3,_⟩:=jQ T.sp d;refine⟨_,rfl,cr.refl _ _,bR.refl _ _,λhb=>⟨s,Blk.dM T.lo.blk 1 rfl,s,Blk.dM T.lo.blk 1 rfl,ad,a1,x.pa,a3,(R6 T.sp T.fo _ x.pa).mono ?_⟩,λhb=>(nS T aL 26 bb.a).mono ?_⟩
  ·rintro _ k ⟨rfl,c⟩;obtain rfl:w9=k:=c.symm;refine⟨_,rfl,cr.refl _ _,bR.refl _ _,(nS T _ 26 bb.a).mono ?_⟩;rintro _ s ⟨rfl,f,b⟩;refine⟨rfl,b.same aba,HC b p,?_,we (Bw o9) b⟩;have n:R5 xs (fN xs bb.dft) x.pa=Al xs (fN xs bb.dft) x.pa:=by rw[bM,DD,Vq]
   rw[Om,mG d,<-n,show IB xs bb.dft=L from hb,cm];exact f
  rintro _ k ⟨rfl,f,b⟩;refine⟨rfl,b.same aba,HC b p,?_,we (Bw o9) b⟩;rw[Om,show IB xs bb.dft=aL from hb,cV];exact f
 ·have hp:=ahw
  have f:uX xs bb ks n=bad (decide (bb.ini=[])&&decide (1<Du ks)) 25 bb.a:=by unfold uX;rw[aR adz,aV hp]
  rw[q0,show decide ((Du ks:Int)>1)=decide (1<Du ks)from je.2 J];refine(nS y _ 25 bb.a).mono ?_;rintro _ k ⟨rfl,T,b⟩;exact⟨rfl,b.same aba,rfl,by rw[f];exact T,we (Bw E) b⟩
 ·have hp:=ahw
  have e:=aN e;have f:uX xs bb ks n=bad (yZ bb.ini ks) 25 bb.a:=by unfold uX;rw[aR adz,aR hp,aV J]
  refine(nS y _ 25 bb.a).mono ?_;rintro _ k ⟨rfl,T,b⟩;exact⟨rfl,b.same aba,rfl,by rw[f];exact T,we (Bw E) b⟩
 have hp:=ahw
 have e:=aQ e;have k:uX xs bb ks n=bad (decide (bb.ini=[])) 25 bb.a++bad (decide (I ks=0)) 26 bb.a:=by unfold uX;rw[aR adz,aR hp,aR J]
 rw[q0];refine(nS y _ 25 bb.a).mono ?_;rintro _ F ⟨rfl,b,T⟩;have x:=T.size;have w:((kids.n:Int)==0)=decide (I ks=0):=by rw[q,bM];simp
 rw[w];refine⟨rfl,T.same aba,(nS b _ 26 bb.a).mono ?_⟩;rintro _ im ⟨rfl,s,f⟩;exact⟨rfl,f.same aba,rfl,by rw[k,ga];exact s,we (we (Bw E) T) f⟩
def ame u l:∃y a,(au 208 1 #[.mk 0 l.v]).run Q u=.ok (Sl.v y) a/\Z [] u a/\aA KA 1 a (λ_=>True) y [l]:=by
 obtain⟨y,a,k,b,k3,_⟩:=ju (P:=Q) (t:=208) (e:=23) (i:=Tryz.t23) (z:=Sl.nil.v) (w:=u) (F:=λ_=>False) (vs:=[l.v]) (parts:=#[.mk 0 l.v]) (len:=1) (xs:=[l]) (r:=KA) (size:=1) aaz aaz rfl rfl X rfl rfl X X ux ⟨⟨rfl,rfl⟩,trivial⟩;exact⟨y,a,k,k3,(b.slice ux).mono ux λ_ _=>trivial⟩
def amf u l m:∃y a,(au 208 2 #[.mk 0 l.v,.mk 1 m.v]).run Q u=.ok (Sl.v y) a/\Z [] u a/\aA KA 1 a (λ_=>True) y [l,m]:=by
 obtain⟨y,a,k,b,k3,_⟩:=ju (P:=Q) (t:=208) (e:=23) (i:=Tryz.t23) (z:=Sl.nil.v) (w:=u) (F:=λ_=>False) (vs:=[l.v,m.v]) (parts:=#[.mk 0 l.v,.mk 1 m.v]) (len:=2) (xs:=[l,m]) (r:=KA) (size:=1) aaz aaz rfl rfl X rfl rfl X X ux ⟨⟨rfl,rfl⟩,⟨rfl,rfl⟩,trivial⟩;exact⟨y,a,k,k3,(b.slice ux).mono ux λ_ _=>trivial⟩
def VX:∀D {w:M} {x:Nd} {c:aI} {f:Ft} {n:Nat},mz aL D w G x c->(∀k,G k->k≠b)->Lx w b m0 m1 F s xs vn f->n+iB x<=(I xs)->lf x<=8388608->
  az Q 63 #[ae (aM ⟨b,0,aaf⟩),ah c.toArray,O U n] w λr w'=>r=ak (O U ((n+iB x:Nat):Int))/\Lx w' b m0 m1 F s xs vn (iY f (LV xs vn n x))/\Z [b] w w'
 | 0,_,_,_,_,_,h,_,_,_,_=>h.elim
 | D+1,w,.mk h i,c,f,n,N,hG,j,hn,P=>by
  have Y:=N;obtain⟨x,B,mv,kids,R,⟨T,C,o⟩,z⟩:=N;have hk:=z.1;have T:=T.1;have C:=C.1;have o:=o.1;clear z;dsimp only[Nd.kids,Nd.b]at hk R T C o;subst R;rw[iB]at hn;rw[lf]at P;have A:=P;unfold wO at A;have aS:=gI h.en;have ye:=gI h.lv;have ET:=hk.len;have Es:=o.len;have Ed:=j.ln;have V:=o.cap;have am:=o.big;have aC:=nQ i;refine ret (aqO _ _ _ _ _ _ _ _ _ _ _ ?_);intro k0 S z dZ m;have z0:=m.size;have EJ:=j.lo.lt;have yh:k0≠b:=J
  have tr:∀{u v:M},Z [b] w u->Z [b] u v->Z [b] w v:=λj g=>we j g;refine(VW ((cA aL (D+1)).keep Y λk hk W=>m.block k W aaV) hG (j.o0 m) (n:=n) J).mono ?_;rintro _ w1 ⟨rfl,h1,E⟩;have z1:=E.size;have o1:=tr (Bw m) E;obtain⟨y,w2,p1,t,p3⟩:=amf w1 x B;have z2:=t.size;have H:=o1.cn t;have row:∀{u:M} {sl:Sl} {q:List Ac},aA (qv aL) 9 w G sl q->Z [b] w u->aA (qv aL) 9 u G sl q:=λhs hO=>SliceF.only (dy aL) X hs hO λk hk _ hm=>hG k hk abR;refine⟨rfl,E.same aba,y,w2,p1,t.same aba,(Qb (l:=[(x,h.en),(B,h.lv)]) p3 (λp l=>?_) ?_ hG (h1.o0 t)).mono ?_⟩
  ·simp only[aY,bA,cf]at l;rcases l with rfl | rfl
   ·exact row T H
   exact row C H
  ·unfold pH;simp;omega
  rintro _ w3 ⟨rfl,h3,di⟩;have z3:=di.size;have o3:=tr H di;have G:pH [(x,h.en),(B,h.lv)]=h.en++h.lv:=by unfold pH;simp
  rw[G]at h3;refine⟨rfl,di.same aba,λkv aT u=>∃g:Nat,aT=(g:Int)/\kv+g=I h.mv/\g<=I h.mv/\Lx u b m0 m1 F s xs vn (iY f (uX xs h i n++(lm xs vn (h.en++h.lv)++(h.mv.take g).flatMap (B1 xs vn))))/\Z [b] w u/\S.heap.size<=u.heap.size,I h.mv,
   ⟨0,rfl,J,bm _,by rw[ci,tW,bG,ga];exact h3,o3,J⟩,?_⟩
  rintro kv _ w4 ⟨g,rfl,pZ,hj,h4,o4,z4⟩;refine⟨λv=>?_,λv=>?_⟩
  ·have v:=aN v;obtain⟨ad,a,ds,a1,a2,a3,a4,a5,a6⟩:=(SliceF.only (mr aL) X o o4 λk hk _ hm=>hG k hk abR).get (aZ g) J;rw[aW]at a2;obtain⟨gc,s,tg,rfl,TQ,w,om⟩:=a6;obtain⟨gs,rfl⟩:=fp TQ;have w:=w.1;have om:=om.1;have F:=nR (bB a2);unfold El at F;have TR:=gI a.acts;have EI:=uw a.tg;have bY:=h4.lo.lt;refine⟨ad,a1,_,_,_,_,_,_,_,_,gs,_,s,tg,_,a5,λk3 w5 xF sA f=>?_⟩;have z5:=f.size;have h5:=h4.o0 f;have y:k3≠b:=J
   refine(nS h5 (Kn a) 28 a.a).mono ?_;rintro _ w6 ⟨rfl,h6,e⟩;have z6:=e.size;obtain⟨d,bV⟩:=TQ;refine⟨rfl,e.same aba,(HD d ((lM aL d).keep bV λk hk W=>?_) hG h6).mono ?_⟩
   ·exact(e.block k J aeB).trans (f.block k W aaV)
   rintro _ w7 ⟨rfl,h7,gq⟩;have z7:=gq.size;obtain⟨y8,w8,q1,d,q3⟩:=ame w7 s;have z8:=d.size;have s7:Z [b] w5 w7:=we e gq;have s8:Z [b] w4 w8:=(we (Bw f) s7).cn d;refine⟨rfl,gq.same aba,y8,w8,q1,d.same aba,(Qb (l:=[(s,a.acts)]) q3 (λp l=>?_) ?_ hG (h7.o0 d)).mono ?_⟩
   ·simp only[aP]at l;subst l;exact SliceF.only (dy aL) X w s8 λk hk _ hm=>hG k hk abR
   ·unfold pH;simp only[yw,tW,bG];omega
   rintro _ w9 ⟨rfl,h9,gp⟩;have z9:=gp.size;have G:pH [(s,a.acts)]=a.acts:=by unfold pH;simp
   rw[G]at h9;refine⟨rfl,gp.same aba,λdA dR=>⟨λk=>k=k3,rfl,?_⟩⟩;have LA:=dR.size;have EO:Z [b] w4 dA:=(we s8 gp).cn dR;refine(Nh (h9.o0 dR) (SliceF.only cY X om EO λk hk _ hm=>hG k hk abR) J).mono ?_;rintro _ dL ⟨rfl,p⟩;have Cj:=p.size;refine⟨_,rfl,p.same aba,bR.only p,(nS ((h9.o0 dR).o0 p) _ 27 a.a).mono ?_⟩;rintro _ ez ⟨rfl,EY,eM⟩;have cc:=eM.size;refine⟨rfl,eM.same aba,HC eM y,kv-1,J,g+1,aaA,J,J,?_,tr o4 (we (EO.cn p) eM),J⟩;have e1:(h.mv.take (g+1)).flatMap (B1 xs vn)=(h.mv.take g).flatMap (B1 xs vn)++B1 xs vn a:=by
    rw[bq,a2,jM];simp
   have e2:uX xs h i n++(lm xs vn (h.en++h.lv)++((h.mv.take g).flatMap (B1 xs vn)++B1 xs vn a))=(uX xs h i n++(lm xs vn (h.en++h.lv)++(h.mv.take g).flatMap (B1 xs vn)))++B1 xs vn a:=by simp only[bC]
   rw[e1,e2,ga,B1,ga,ga,ga];exact EY
  have v:=aQ v;have lc:g=I h.mv:=J
  subst lc;rw[bp (aX _)]at h4;refine⟨λkv a aT u=>∃g:Nat,aT=(g:Int)/\kv+g=I i/\g<=I i/\a=((n+1+dx (i.take g):Nat):Int)/\Lx u b m0 m1 F s xs vn (iY f (uX xs h i n++(lm xs vn (h.en++h.lv)++(h.mv.flatMap (B1 xs vn)++pF xs vn (n+1) (i.take g)))))/\Z [b] w u/\S.heap.size<=u.heap.size,I i,
   ⟨0,rfl,J,bm _,aaA,by rw[ci,pF,bG];exact h4,o4,z4⟩,?_⟩
  rintro kv _ _ fj ⟨g,rfl,pZ,hj,rfl,p,d,SX⟩;refine⟨λv=>?_,λv=>?_⟩
  ·have v:=aN v;obtain⟨ad,y,ds,s,a2,F,a4,w,b⟩:=(SliceF.only (cA aL D) X hk d λk hk _ hm=>hG k hk abR).get (aZ g) J;rw[aW]at a2;have f:=b;obtain⟨a,rfl⟩:∃a,D=a+1:=by
    cases D with
    | zero=>exact b.elim
    | succ a=>exact⟨a,rfl⟩
   obtain⟨tT,tU,qk,iE,rfl,_⟩:=f;have sB:=ld a2;have dO:=mH (bB a2);refine⟨ad,s,_,_,_,_,tT,tU,qk,iE,_,w,λk7 fU cC Ym eS=>?_⟩;have XN:=eS.size;have co:=p.lo.lt;refine(VX (a+1) ((cA aL (a+1)).keep b λk _ W=>eS.block k W aaV) hG (p.o0 eS) (n:=n+1+dx (i.take g)) J J).mono ?_;rintro _ gC ⟨rfl,Cm,iy⟩;have eQ:=iy.size;have e:i.take (g+1)=i.take g++[y]:=ahH
   refine⟨_,rfl,iy.same aba,kv-1,J,g+1,aaA,J,J,?_,?_,tr (d.cn eS) iy,J⟩
   ·have:dx (i.take (g+1))=dx (i.take g)+iB y:=by rw[e,yU,dx,dx];omega
    omega
   have k:uX xs h i n++(lm xs vn (h.en++h.lv)++(h.mv.flatMap (B1 xs vn)++(pF xs vn (n+1) (i.take g)++LV xs vn (n+1+dx (i.take g)) y)))=(uX xs h i n++(lm xs vn (h.en++h.lv)++(h.mv.flatMap (B1 xs vn)++pF xs vn (n+1) (i.take g))))++LV xs vn (n+1+dx (i.take g)) y:=by simp only[bC]
   rw[e,Dv,pF,pF,bG,k,ga];exact Cm
  have v:=aQ v;have lc:g=I i:=J
  subst lc;rw[bp (aX _)]at p⊢;refine⟨?_,by rw[LV];exact p,d⟩;rw[iB];congr 2;omega
end
def ji(c:Ch):Ft:=if(iH c).2≠0 then((iH c).2, -1)else iY (0,0) (za c)
def KB{w}{F}{D}{c}{vs}{cs}(d:ChR aL (D+1) w F c vs cs)(B:Mb c)(C:nr c.vars+lf c.root<=8388608)(z:Er w)(A:Tb w):
  az Q 34 #[ah (vs.v::cs).toArray] w λe V=>e=ak (ah #[O U (ji c).1,O U (ji c).2])/\Z [] w V:=by
 have r:=d.root;obtain⟨l,o,mv,kids,H,_⟩:=d.root;subst H;refine ret (aqJ _ _ _ _ _ _ _ _ _ _ ?_);intro N S w0 fT Y mA jS i;have z0:=i.size;have keep:∀{u:M},Z [] w u->ChR aL (D+1) u F c vs (od c.root.b.k c.root.b.nm c.root.b.ini c.root.b.dft l o mv kids c.root.b.a):=λm=>⟨d.vars.keep fh X λk _ W=>m.block k W aaV,(cA aL _).keep d.root λk _ W=>m.block k W aaV⟩
 refine(VL (keep i) B C (z.only i) (A.only i)).mono ?_;rintro _ a ⟨⟨t,rfl,j,_⟩,E⟩;have z1:=E.size;have s:=i.cn E;refine⟨_,_,rfl,E.same aba,λhc w2 R=>?_,λhc=>?_⟩
 ·have hc:(iH c).2≠0:=abv
  unfold ji;rw[aV hc];exact⟨rfl,s.trans R λk hk=>.inr ab2⟩
 have hc:(iH c).2=0:=abv
 have bY:ji c=iY (0,0) (za c):=by unfold ji;rw[aR (λh=>h hc)]
 rw[bY];have j:=j hc;have cC:=wQ hc;obtain⟨r3,aS,di⟩:=MapV.make (P:=Q) (mty:=128) (kv:=kS) (g:=gS) a;have fd:=aS.lt;refine⟨_,_,r3,di.same aba,?_⟩;generalize a.alloc (.map #[] 0)=w3 at*
 obtain⟨r4,Zz,dW⟩:=MapV.make (P:=Q) (mty:=128) (kv:=kS) (g:=gS) w3;have Zw:=Zz.lt;have z3:=di.size;refine⟨_,_,r4,dW.same aba,?_⟩;intro b w5 hb oh eW u7;have z5:=eW.size;have o5:=((s.cn di).cn dW).cn eW;have co:Lo w5 b a.heap.size w3.heap.size Sl.nil [] [] (0,0):=⟨u7,(((aS.only dW aaV).only eW aaV).ext λk=>rfl).le (aX _),((Zz.only eW aaV).ext λk=>rfl).le (aX _),J,J⟩
 have bV:mz aL (D+1) w (λk=>k<w.heap.size) c.root (od c.root.b.k c.root.b.nm c.root.b.ini c.root.b.dft l o mv kids c.root.b.a):=(cA aL _).mono ((cA aL _).inHeap r) λk hk=>hk.2;have aT:aA M0 3 w (λk=>k<w.heap.size) vs c.vars:=(d.vars.1.inHeap fh X).mono fh λk hk=>hk.2;refine(VS (D+1) ((cA aL _).keep bV λk hk W=>o5.block k W aaV) (λk hk=>J) co (Own.nil _ _ _ _ _ _) J ack).mono ?_;rintro _ w6 ⟨rfl,s6,Oj,eQ,m6⟩;have z6:=m6.1.size;rw[cb]at Oj;have cc:=(Km 0 (-1) 0 c.root).symm;rw[cc]at Oj;have p6:aD (λk=>a.heap.size<=k) w w6:=(o5.p0).trans m6.1 λk hk=>.inl (hk.elim (λh=>J) λh=>abG);have dO:cr [N,S] w5 w6:=m6.1.same λx d=>by
  simp at d;rcases d with rfl | rfl
  ·exact⟨J,λh=>h.elim J λh=>abG⟩
  exact⟨J,λh=>h.elim J λh=>abG⟩
 have f7:=aT.len;have f8:=wc c.vars;refine⟨rfl,dO,_,s6,_,_,_,Oj.blk,λkv gE p gG q x y u=>∃(e:Nat) (f:Ft),gE=(e:Int)/\kv+e=I c.vars/\e<=I c.vars/\p=aM a.heap.size/\q=aM w3.heap.size/\f=(x,y)/\Lo u b a.heap.size w3.heap.size gG ((dz c).map λx:dN=>x.nm) ((Ko c).take e) f/\f=iY (0,0) (uu [] (zR c.root)++uu [] ((c.vars.take e).map λv=>(v.n,v.a)))/\aD (λk=>a.heap.size<=k) w u/\aD (λk=>k=b∨k=w3.heap.size) w6 u,I c.vars,
  ⟨0,_,rfl,J,bm _,rfl,rfl,rfl,Oj,by rw[ci,ft,uu,bG],p6,OnlyP.refl _ _⟩,?_⟩
 rintro kv _ _ l2 _ _ _ w7 ⟨e,f,rfl,pZ,hj,rfl,rfl,hf,xb,am,p7,aC⟩;have z7:=aC.size;refine⟨λW=>?_,λnA=>?_⟩
 ·have W:=aN W;obtain⟨ad,v,x,t,f,a3,a4,w,n⟩:=(SliceF.lO fh X aT p7 λk hk _=>J).get (aZ e) J;rw[aW]at f;have n:x=[K (T v.n),O U v.v,O U v.a]:=n;subst n;have P:=wb (bB f);have p:gS v.n:=by
   show (I v.n)<=maxLen;have:maxLen=9223372036854775807:=rfl;omega
  have G:I ((Ko c).take e)=e:=by rw[ch];unfold Ko;rw[bJ];omega
  refine⟨ad,t,_,_,_,w,λk5 w8 rk Eb y xE=>?_⟩;have z8:=y.size;have Zm:=xb.lt;have q:=VR (xb.o0 y) p v.a;rw[G]at q;refine q.mono ?_;rintro _ w9 ⟨rfl,h,g⟩;have z9:=g.size;have ev:(Ko c).take (e+1)=(Ko c).take e++[v.n]:=by
   rw[bq];unfold Ko;rw[cN,f];rfl
  refine⟨rfl,g.same aba,_,_,_,_,_,h.blk,kv-1,J,e+1,_,aaA,J,J,rfl,rfl,rfl,by rw[ev];exact h,?_,(p7.cn y).trans (g.p (F:=λk=>a.heap.size<=k) λk hk=>.inl (by simp at hk;omega)) λk hk=>.inl hk,(aC.cn y).trans (g.p (F:=λk=>k=b∨k=w3.heap.size) λk hk=>.inl abI) λk hk=>.inl hk⟩;rw[am,<-ga];have D:uu [] ((c.vars.take (e+1)).map λv=>(v.n,v.a))=uu [] ((c.vars.take e).map λv=>(v.n,v.a))++bad (!decide (v.n∈(Ko c).take e)) 24 v.a:=by
   rw[bq,f,cp,yY,cb];simp only[Option.toList,bQ,ft,uu,bG,fW];unfold Ko;rw[<-lC];rfl
  rw[D,bC]
 have nA:=aQ nA;have lc:e=I c.vars:=J
 subst lc;intro q g oT n0 n1;have LA:=g.size;have y:(Ko c).take (I c.vars)=Ko c:=bp (by unfold Ko;rw[bJ];exact aX _);rw[y]at xb;rw[bp (aX _)]at am;have Yr:Lo q b a.heap.size w3.heap.size t ((dz c).map λx:dN=>x.nm) (Ko c) f:=xb.kY g (by subst hf;exact oT);have p:=p7.trans (g.p (F:=λk=>a.heap.size<=k) λk hk=>.inl ab2) λk hk=>.inl hk;have T:aA tA 5 q (λk=>k<a.heap.size) t (dz c):=by
  have n:Z [] a w5:=(di.cn dW).cn eW;have b:=SliceF.only dI X ((j.sl.inHeap dI X).mono dI (G:=λk=>k<a.heap.size) λk hk=>hk.2) n aaV;have c:=SliceF.lO dI X (SliceF.lO dI X b m6.1 λk hk _ h=>h.elim J λh=>abG) aC λk hk _ h=>J
  exact SliceF.only dI X c g λk hk _ f=>by simp at f;omega
 have hX:Lx q b a.heap.size w3.heap.size (λk=>k<a.heap.size) t _ _ f:=⟨Yr,T,yV c,by unfold dz;rw[lz];exact cC,λk hk=>J⟩
 refine(VX (n:=0) _ ((cA aL _).keep bV λk hk W=>p.block k W J) (λk hk=>J) hX (by unfold dz;rw[lz];omega) J).mono ?_;rintro _ dL ⟨rfl,P,v⟩;have Cj:=v.size;have hg:iY f (LV (dz c) (Ko c) 0 c.root)=iY (0,0) (za c):=by
  rw[am,<-ga,bC];rfl
 rw[hg]at P;refine⟨_,rfl,v.same aba,_,_,_,_,_,P.lo.blk,λez eM _=>⟨rfl,?_⟩⟩;have D:=(p.mono λk _ hk=>J).trans (v.p (F:=λk=>w.heap.size<=k) λk hk=>.inl (by simp at hk;omega)) λk hk=>.inl hk;exact(D.only λk hk=>hk).trans eM λk hk=>.inr (by simp at hk;omega)
def rT(l:aH):Ft:=if(fM l).2.1=0 then ji (fM l).1 else(fM l).2
def DH(l:aH):Ch:=if(rT l).1=0 then(fM l).1 else ch0
def aaS{w:M}(l:aH)(G:Mb (fM l).1)(H:nr (fM l).1.vars+lf (fM l).1.root<=8388608)(i:Er w)(F:Tb w):az Q 17 #[K (T l)] w λe p=>
  ∃(s:Sl) (g:aI),e=ak (ai #[ah (s.v::g).toArray,ah #[O U (rT l).1,O U (rT l).2]])/\ChR L 15 p (Fr w.heap.size) (DH l) s g/\Z [] w p:=by
 refine iW (aqH _ ?_);intro j m d P N V S f;have z0:=f.size;refine(Kr l (i.only f)).mono ?_;rintro _ q ⟨s,g,rfl,h,E⟩;have z1:=E.size;have o:=f.cn E;obtain⟨r,y,z,t,rfl,_⟩:=h.root;refine⟨s,_,_,_,_,r,y,z,t,_,_,_,rfl,E.same aba,λR k3 J W Y xF sA c=>?_⟩;have z2:=c.size;have n:=o.cn c;have C:∀{u:M},Z [] q u->ChR L 15 u (Fr d.heap.size) (fM l).1 s (od (fM l).1.root.b.k (fM l).1.root.b.nm (fM l).1.root.b.ini (fM l).1.root.b.dft r y z t (fM l).1.root.b.a):=fun{u} hO=>
  ⟨h.vars.keep fh X λk _ b=>hO.block k b aaV,(cA L 15).keep h.root λk _ b=>hO.block k b aaV⟩
 have fin:∀{u v:M},Z [] w u->Z [m,j] u v->Z [] w v:=λA B=>A.trans B λx hx=>.inr abH;refine⟨λa b u=>(a,b)=rT l/\Z [] q u/\J.heap.size<=u.heap.size,?_,λhc=>?_,λhc=>⟨?_,c,aX _⟩⟩
 ·rintro a b w3 ⟨he,v,z3⟩;have e:(rT l).1=a:=by rw[<-he]
  have e2:(rT l).2=b:=by rw[<-he]
  refine⟨λhc w4 dW n1 n2 D n4 T n6=>⟨λk=>k=k3,rfl,?_,?_,λw5 eW=>⟨Sl.nil,_,by rw[e,e2],?_,fin ((o.cn v).cn dW) eW⟩⟩,λhc w6 dY n1 n2 D n4 T n6=>⟨λk=>k=k3,rfl,?_,?_,λw7 x=>⟨s,_,by rw[e,e2],?_,fin ((o.cn v).cn dY) x⟩⟩⟩
  ·exact λa=>D a
  ·exact λa=>T a
  ·have hc:a≠0:=abv
   unfold DH;rw[e,aR hc];exact⟨kx.nil _ _ _ _ _ _,Vw X w5 _⟩
  ·exact λa=>D a
  ·exact λa=>T a
  have hc:a=0:=abv
  unfold DH;rw[e,aV hc];have b:=C (v.cn dY);have ap:∀k,Fr d.heap.size k->k∉[m,j]:=λk (hk:d.heap.size<=k)=>aba
  have lo:∀k,Fr d.heap.size k->Fr w.heap.size k:=λk (hk:d.heap.size<=k)=>(by omega:w.heap.size<=k)
  exact⟨(b.vars.keep fh X λk hk bW=>x.block k bW (ap k hk)).mono fh lo,(cA L 15).mono ((cA L 15).keep b.root λk hk bW=>x.block k bW (ap k hk)) lo⟩
 ·have hc:(fM l).2.1=0:=abv
  refine(KB (D:=14) (C c).off G H (i.only n) (F.only n)).mono ?_;rintro _ e ⟨rfl,a⟩;have v:=a.size;refine⟨_,_,rfl,a.same aba,λk b=>⟨?_,?_,by have:=b.size;omega⟩⟩
  ·unfold rT;rw[aV hc]
  exact(c.cn a).trans b λx hx=>.inr abF
 have hc:(fM l).2.1≠0:=abv
 unfold rT;rw[aR hc]
def afV(l:aH):Bool:=nCb (fM l).1&&asf (fM l).1
def afW{l:aH}(h:afV l=L):Mb (fM l).1/\nr (fM l).1.vars+lf (fM l).1.root<=8388608:=by
 unfold afV at h;rw[aU]at h;exact⟨ase h.1,aN h.2⟩
end Go.Proofs.YtfemabakfkliiaaGreatDoor.Con
namespace Go.Kt
open Go Go.RowKit Go.ChangeShapes Go.WideShapes
def qj{a b:Type}(r:Rp a)(q:Rp b):Rp (a×b):=λw F x s=>∃c d,s=c++d/\r w F x.1 c/\q w F x.2 d
def VY:Rp Unit:=λ_ _ _ c=>c=[]
def amg:Rp Bool:=λ_ _ b c=>c=[.bool b]
section
variable {H:Type} {enc:TypeId×aw->H} {P:Program}
def xB(l:laidOutB P=L){W W'}{sp}(h:Below W.heap.size W W'):∀{a:List TypeId} {b:List aw} {s:List _} {ps:List MemPlace},
  (∀t,t∈a->P.readableRec t=L/\t<P.types.size)->DataW.TrodAll enc P W 0 (λ_=>L) L a b s ps->(∀x,x∈ps->x.block<W.heap.size)->(∀x,x∈ps->sp x.block=L)->DataW.TrodAll enc P W' 0 sp L a b s ps
 | [],b,s,ps,_,c,_,_=>by
  obtain⟨rfl,rfl,rfl⟩:=trodAll_nil c;exact trodAll_mk0
 | t::a,b,s,ps,r,e,W,S=>by
  obtain⟨v,k,d,c,p,q,rfl,rfl,rfl,f,g⟩:=trodAll_cons e;obtain⟨i,j⟩:=r t aaV;exact trodAll_cons_mk (WideElems.Trod_stays l i j f (λx hx=>h.same (W x aep)) λx hx=>S x aep)
   (xB l h (λd u=>r d (by simp[u])) g (λx hx=>W x aep) λx hx=>S x aep)
def law_post{f}{s:ChangeSpec}{fresh handsOn again}{W W'}{args}{ds gs}{before}{tb}
  (e:DataW.Whole enc P f.params.toList s.vars aL W args.toList ds gs before) (v:s.vars=[])
  (z:(s.fn H (ds++gs)).results=[.lit (.bool L)]) (h:(s.fn H (ds++gs)).args=ds) (B:(s.fn H (ds++gs)).vars=[])
  (c:f.resultTypes=#[tb]) (u:P.underlying tb=aM .bool) (l:laidOutB P=L) (X:(f.params.toList.all λt=>P.readableRec t&&decide (t<P.types.size))=L) (k:Only [] W W'):
  s.post enc P f aL fresh handsOn again W args (.bool L) W':=by
 have g:=k.below (aX _) aaV;have d:=λp hp=>e.lt p hp;obtain⟨p,q,j,i,rfl,m,n⟩:=id e;rw[v]at i;obtain⟨rfl,rfl⟩:=trodVars_none i;rw[bG]at*
 have A:∀sp,_->DataW.TrodAll enc P W' 0 sp L f.params.toList args.toList (s.fn H ds).args p:=λsp S=>by
  rw[h];exact xB l g (λt c=>by simpa using dF.1 X t c) j (λx hx=>by simpa using d x hx) S
 have V:∀sp,DataW.TrodVars enc P W' sp s.vars (s.fn H ds).vars []:=λsp=>by
  rw[v,B];simp[DataW.TrodVars]
 have a:∀b sp hd,DataW.TrodAll enc P W' b sp hd f.resultTypes.toList ((Value.bool L).resultList f.resultTypes.size) (s.fn H ds).results []:=λb sp hd=>by
  rw[z,c];exact trodAll_cons_mk (shut_bool u L) trodAll_mk0
 have o:∀x∈p,(λb=>decide _) x.block=L:=λx hx=>by simpa using d x hx
 refine⟨ds,[],p,[],p,[],e,by simpa using a _ _ _,by simpa using A _ o,by simpa using V _,World.keptBut_mono (λx hx=>⟨hx,ab5⟩) (g.frame _),λ_=>?_⟩;refine⟨ok_one c rfl (okWide_bool_mk u L),_,_,_++[],⟨[]++p,[],trodAll_append (A _ (λ_ _=>rfl)) (a _ _ _),V _,rfl,?_,?_⟩,?_⟩
 ·intro b off hp;have hp:=ahw
  rw[g.frozen (p:=_) (d _ hp)];exact m b off hp
 ·intro b;cases b
 intro x hp _;simpa using hp
variable {W:M} {base:Nat} {spare:Nat->Bool} {held:Bool} {α:Type}
def FD(e:TypeId×aw->H)(P:Program)(W:M)(base:Nat)(spare:Nat->Bool)(held:Bool)(t:TypeId)(r:Rp α):Prop:=
 ∀fG c x,DataW.trod e P W base spare held fG t c=aM x->(∀n,n∈x.1.weights P t->n<=reachBytes)->∃a,r W (λ_=>True) a c
def ja{t}(a:P.underlying t=aM (.int .i64)):FD enc P W base spare held t iM:=λfG c x h _=>by
 obtain⟨n,rfl,rfl,w⟩:=DataW.trod_int a h;refine⟨n,rfl,?_⟩;simpa[Lit.wf,IntKind.min,IntKind.max,IntKind.signed,IntKind.bits,ub]using w
def rSl(r:Rp α)(i bytes:Nat):Rp (List α):=λw F x c=>∃s,c=[s.v]/\SliceF r i w F s x/\I x*bytes<=140737488351232
def wg{e}:∀{l:List _} {d:DataW H},d∈l->∀n,n∈d.weights P e->n∈DataW.weightsAll P e l
 | a::l,d,hd,n,h=>by
  simp[DataW.weightsAll,cj];rcases aY.1 hd with rfl | hd
  ·exact .inl h
  exact .inr (wg hd n h)
 | [],d,hd,_,_=>by simp at hd
def Ba{a:Type}{p:Nat->a->Prop}:∀n,(∀i,i<n->∃b,p i b)->∃l:List a,I l=n/\∀i b,l[i]? =aM b->p i b
 | 0,_=>⟨[],rfl,λi b h=>abS⟩
 | n+1,h=>by
  obtain⟨l,e,g⟩:=Ba n λi f=>h i J;obtain⟨b,j⟩:=h n J;refine⟨l++[b],by simp[e],λi c d=>?_⟩;by_cases f:i<I l
  ·rw[bX f]at d;exact g i c d
  have:i=n:=by
   have:=(bf.1 d).1;simp at this;omega
  subst this;simp[e]at d;rw[<-d];exact j
def FD.map{β}{t}{r}{q}(h:FD enc P W base spare held t r)(f:α->β)(d:∀a c,r W (λ_=>True) a c->q W (λ_=>True) (f a) c):FD enc P W base spare held t q:=λfG c x e w=>by
 obtain⟨a,b⟩:=h fG c x e w;exact⟨f a,d a c b⟩
def Ni{t}(a:P.underlying t=aM .bool):FD enc P W base spare held t amg:=λfG c x h _=>by
 obtain⟨b,rfl,rfl⟩:=DataW.trod_bool a h;exact⟨b,rfl⟩
def weights_of{ts}{ds}(h:(DataW.weightsEach P ts ds).all (· <=reachBytes)=L)(j:Nat){t}{d:DataW H}(b:ts[j]? =aM t)(hd:ds[j]? =aM d):∀n,n∈d.weights P t->n<=reachBytes:=
 λn a=>by simpa using dF.1 h n (DataW.weights_mem_each b hd n a)
end
structure IsBulk {H:Type} (B:DataW H->Nat):Prop where
 one:∀d,1<=B d
 sl:∀e s,(e.map B).sum+1<=B (.slice e s)
 str:∀b,I b+1<=B (.lit (.string b))
 agg:∀p,(p.map B).sum+1<=B (.agg p)
 ptr:∀d,B d+1<=B (.ptr d)
 iface:∀t d,B d+1<=B (.iface t d)
section
variable {H:Type} {enc:TypeId×aw->H} {P:Program} {W:M} {base:Nat} {spare:Nat->Bool} {held:Bool} {α β:Type} {B:DataW H->Nat}
def VZ:Rp ByteArray:=λ_ _ s c=>c=[.string s]/\s.size<=140737488351232
def ky(B:DataW H->Nat)(e:TypeId×aw->H)(P:Program)(W:M)(base:Nat)(spare:Nat->Bool)(held:Bool)(t:TypeId)(r:Rp α)(m:α->Nat):Prop:=
 ∀fG c x,DataW.trod e P W base spare held fG t c=aM x->(∀n,n∈x.1.weights P t->n<=reachBytes)->∃a,r W (λ_=>True) a c/\m a<=B x.1
def iC(b:IsBulk B){t}{r:Rp α}(h:FD enc P W base spare held t r):ky B enc P W base spare held t r λ_=>1:=λfG c x e w=>by
 obtain⟨a,d⟩:=h fG c x e w;exact⟨a,d,b.one _⟩
def lN(b:IsBulk B){t}(c:P.underlying t=aM .string):ky B enc P W base spare held t VZ λs=>s.size+1:=λfG d x h w=>by
 obtain⟨s,rfl,rfl,f⟩:=DataW.trod_string c h;have a:=w _ (by simp;exact eY);have e:I s.data.toList=s.size:=rfl;simp[e,reachBytes]at a;refine⟨s,⟨rfl,?_⟩,?_⟩
 ·omega
 have:=b.str s.data.toList;exact this
def V0{p}{g:Nat->Nat}:∀{l:List α} {o:Nat},(∀i b,l[i]? =aM b->p b<=g (o+i))->(l.map p).sum<=((List.range (I l)).map λi=>g (o+i)).sum
 | [],_,_=>aaV
 | a::l,o,h=>by
  rw[ba,List.range_succ_eq_map,bQ,bQ,dc,dc,fW];have d:=V0 (p:=p) (g:=g) (l:=l) (o:=o+1) λi b c=>by
   have:=h (i+1) b c;rw[show o+1+i=o+(i+1) by omega];exact this
  refine me (h 0 a rfl) (bH d (Ou ?_));congr 1;refine pq λi _=>?_;congr 1;omega
def jG(f:IsBulk B){t e}{r:Rp α}{m}{size}(d:P.underlying t=aM (.slice e))(u:P.cellsOf e=size){bytes}(c:P.bytesOf e=bytes)(j:ky B enc P W base spare held e r m):
  ky B enc P W base spare held t (rSl r size bytes) λy=>(y.map m).sum+1:=λfG z x h w=>by
 subst u;rcases Deep.open_slice d h with⟨rfl,rfl⟩ | ⟨a,len,cap,i,n,D,Pl,rfl,_,q,s,Y,rfl,l⟩
 ·exact⟨[],⟨Sl.nil,rfl,SliceF.nil _ _ _ _,aaV⟩,f.one _⟩
 have S:len<=i:=by rw[Y];split<;>omega
 have G:∀t,t<len->∃b,(∃C,I C=P.cellsOf e/\Cells W _ C/\r W _ b C)/\m b<=B _:=λt R=>by
  obtain⟨C,g,a⟩:=l t J;obtain⟨_,e,h⟩:=World.cells?_some g;obtain⟨b,m,o⟩:=j n C _ a λk hk=>w k (by
   simp[DataW.weights,d,aY,cj];exact .inr (.inl (wg (eZ.2 ⟨t,kg.2 R,rfl⟩) k hk)))
  refine⟨b,⟨C,e,λE v A=>?_,m⟩,o⟩;rw[h E (by have:=(bf.1 A).1;omega)];exact A
 obtain⟨H,F,N⟩:=Ba len G;refine⟨H,⟨⟨aM a,len,cap⟩,rfl,⟨F.symm,q,λh=>abG,s,λE x A=>?_⟩,?_⟩,?_⟩
 ·obtain⟨⟨C,g,b,e⟩,_⟩:=N E x A;exact⟨a,C,rfl,trivial,g,b,e⟩
 ·have:=w _ (by simp only[DataW.weights,d];exact eY);rw[c]at this;simp[bJ,rr,reachBytes]at this;rw[F];have h:len*bytes<=(len+(i-len))*bytes:=fD _ J;omega
 refine bH (Td ?_) (f.sl _ ((List.range _).map λE=>D _));have h:=V0 (p:=m) (g:=λt=>B _) (l:=H) (o:=0) λt b c=>by
  rw[bS];exact(N t b c).2
 rw[F]at h;simpa[Function.comp_def]using h
def HE(B:DataW H->Nat)(e:TypeId×aw->H)(P:Program)(W:M)(base:Nat)(spare:Nat->Bool)(held:Bool)(T off:Nat)(b:List Field)(r:Rp α)(m:α->Nat):Prop:=
 ∀n (c:List aw) (s:List _),I c=T->I s=(I b)->
  (∀(i:Nat) f,b[i]? =aM f->DataW.trod e P W base spare held n f.type ((c.drop f.offset).take (P.cellsOf f.type))=s[i]?)->
  (∀(i:Nat) f x,b[i]? =aM f->s[i]? =aM x->∀k,k∈x.1.weights P f.type->k<=reachBytes)->∃a,r W (λ_=>True) a (c.drop off)/\m a<=(s.map λx=>B x.1).sum
def wS{T off}(h:T=off):HE B enc P W base spare held T off [] VY λ_=>0:=λn c x l _ _ _=>⟨(),by
 exact List.drop_eq_nil_of_le J,bm _⟩
def ey{T off s}{f}{fs}{r:Rp α}{q:Rp β}{m}{m'}(o:f.offset=off)(i:P.cellsOf f.type=s)(g:ky B enc P W base spare held f.type r m)(e:HE B enc P W base spare held T (off+s) fs q m'):
  HE B enc P W base spare held T off (f::fs) (qj r q) λx=>m x.1+m' x.2:=λn d c l hx h w=>by
 cases c with
 | nil=>simp at hx
 | cons x c=>
  have p:=h 0 f rfl;rw[o,i]at p;obtain⟨a,q,v⟩:=g n _ x p (w 0 f x rfl rfl);obtain⟨b,s,u⟩:=e n d c l ab5 (λm j k=>h (m+1) j k) (λm j y k t=>w (m+1) j y k t);exact⟨(a,b),⟨_,_,by rw[<-ki,fb],q,s⟩,me v u⟩
def lg(d:IsBulk B){t}{fs}{T}{r:Rp α}{m}(h:P.underlying t=aM (.struct fs))(l:P.cellsOf t=T)(F:HE B enc P W base spare held T 0 fs.toList r m):ky B enc P W base spare held t r λx=>m x+1:=λfG c x b w=>by
 obtain⟨s,n,rfl,rfl,o,A,g⟩:=DataW.trod_struct h b;obtain⟨a,e,v⟩:=F n c s J (by simpa using A) (λi f hi=>g i f acg) (λi f x hi hx k hk=>w k (by
  simp[DataW.weights,h];refine DataW.weights_mem_each (j:=i) ?_ ahx k hk;simp only[Array.toList_map,cN,hi];rfl))
 refine⟨a,by simpa using e,bH (Td v) ?_⟩;have:=d.agg (s.map (·.1));rwa[fW]at this
def ky.map{t}{r}{q}{m}{m'}(h:ky B enc P W base spare held t r m)(f:α->β)(g:∀a c,r W (λ_=>True) a c->q W (λ_=>True) (f a) c/\m' (f a)<=m a):ky B enc P W base spare held t q m':=λfG c x i w=>by
 obtain⟨a,e,v⟩:=h fG c x i w;obtain⟨b,d⟩:=g a c e;exact⟨f a,b,bH d v⟩
def argB_struct{t}{fs}{r}{m}{b0}{v}{d}{p}(g:P.underlying t=aM (.struct fs))(k:Value.okWide P W .any b0 t v)(h:DataW.Trod enc P W base spare held t v d p)
  (i:ky B enc P W base spare held t r m) (w:∀n,n∈d.weights P t->n<=reachBytes):∃(a:α) (c:List aw),v=.agg c.toArray/\r W (λ_=>True) a c/\m a<=B d:=by
 obtain⟨c,rfl,_⟩:=okWide_struct g k;obtain⟨fG,f⟩:=h;obtain⟨a,e,b⟩:=i fG _ _ f w;exact⟨a,c.toList,aaV,e,b⟩
def sum_one:∀l:List α,(l.map λ_=>1).sum=I l
 | []=>rfl
 | _::l=>by rw[bQ,dc,sum_one l,ba];omega
end
end Go.Kt
namespace Go.Proofs.YtfemabakfkliiaaGreatDoor.Con
open Go Go.RowKit Go.Kt Go.Kt.V Go.Proofs.YtfemabakfkliiaaGreatDoor.Vc Go.ChangeShapes Go.WideShapes
def Nj{D E:Type}{B}{sz:E->Nat}{Q:Nat->E->Prop}:∀(s:List D) o,(∀j y,s[j]? =aM y->∃e,Q (o+j) e/\sz e<=B y)->
  ∃l:List E,I l=I s/\(∀j e,l[j]? =aM e->Q (o+j) e)/\(l.map sz).sum<=(s.map B).sum
 | [],o,_=>⟨[],rfl,λj p h=>abS,aX _⟩
 | x::s,o,h=>by
  obtain⟨e,b,c⟩:=h 0 x rfl;obtain⟨l,d,f,g⟩:=Nj (B:=B) (sz:=sz) (Q:=Q) s _ λj y a=>by
   have:=h (j+1) y a;rwa[dB,fV 1 j]
  refine⟨e::l,by rw[ba,ba,d],λj p a=>?_,?_⟩
  ·cases j with
   | zero=>
    simp at a;subst a;exact b
   | succ j=>
    have:=f j p a;rwa[dB,fV 1 j]at this
  exact me c g
def DI{n}:∀{l:List Nat},n∈l->n<=l.sum
 | [],h=>abS
 | x::l,h=>by
  rw[dc];rcases aY.1 h with rfl | h
  ·omega
  have:=DI h;omega
def Nk{E:Type}(f:E->Nat):∀(l:List E),∃m,∀p,p∈l->f p<=m
 | []=>⟨0,λp h=>abS⟩
 | x::l=>by
  obtain⟨m,h⟩:=Nk f l;refine⟨max (f x) m,λp a=>?_⟩;rcases aY.1 a with rfl | a
  ·exact Ct _ _
  exact bH (h p a) (AV _ _)
def Qd{α β}{r:Rp α}{q:Rp β}{size}{w}{F}{s}{xs} f (h:aA r size w F s xs) (l:∀x c,x∈xs->r w F x c->q w F (f x) c):aA q size w F s (xs.map f):=by
 refine⟨by rw[bJ];exact h.len,h.cap,h.nil0,h.big,λm y j=>?_⟩;rw[cN,gz]at j;obtain⟨x,a,rfl⟩:=j;obtain⟨b,c,g,d,e,i,k⟩:=h.at_ m x a;exact⟨b,c,g,d,e,i,l x c (bB a) k⟩
def FE{α}{r}{size}{w}{F}{s}{xs}(h:aA r size w F s xs){x:α}(a:x∈xs):∃c,r w F x c:=h.mem a
def rXU:Rp (Ex×Nat):=λw F x c=>rE aL w F x.1 c/\YU x.1/\Di x.1<=x.2
def aaT:Rp (Ac×Nat):=λw F x c=>qv aL w F x.1 c/\Vm x.1/\FC x.1<=x.2
def afX:Rp (Mv×Nat):=λw F x c=>Iz aL w F x.1 c/\mvN x.1/\El x.1+2<=x.2
def asg:Rp (Vr×Nat):=λw F x c=>M0 w F x.1 c/\ub x.1.v/\I x.1.n+1<=x.2
def Qe:∀l,LR l=(l.map Di).sum
 | []=>rfl
 | x::l=>by rw[LR,bQ,dc,Qe l]
def KC:∀l,jF l=(l.map FC).sum
 | []=>rfl
 | x::l=>by rw[jF,bQ,dc,KC l]
def KD:∀l,wa l=(l.map El).sum
 | []=>rfl
 | x::l=>by rw[wa,bQ,dc,KD l]
def KE:∀l,nr l=(l.map λv=>I v.n+1).sum
 | []=>rfl
 | x::l=>by rw[nr,bQ,dc,KE l]
def KF:∀l,iZ l=(l.map lf).sum
 | []=>rfl
 | x::l=>by rw[iZ,bQ,dc,KF l]
def B6{a:Type}{f}:∀{l:List (a×Nat)},(∀x,x∈l->f x.1<=x.2)->((l.map (·.1)).map f).sum<=(l.map λx=>x.2).sum
 | [],_=>aX _
 | x::l,h=>by
  exact me (h x aaV) (B6 λy b=>h y (by simp[b]))
def bsz(s:aK):I s.data.toList=s.size:=rfl
section
variable {H:Type} {enc:TypeId×aw->H} {W:M} {base:Nat} {spare:Nat->Bool} {held:Bool} {B:DataW H->Nat}
def V1(e:TypeId×aw->H)(W:M)(base:Nat)(spare:Nat->Bool)(held:Bool)(t:TypeId):Rp (DataW H):=λ_ _ x c=>∃fG p,DataW.trod e Q W base spare held fG t c=aM (x,p)/\∀n,n∈x.weights Q t->n<=reachBytes
def KG(a:IsBulk B) t:ky B enc Q W base spare held t (V1 enc W base spare held t) B:=λfG c x h w=>⟨x.1,⟨fG,x.2,h,w⟩,aX _⟩
def R8(h:IsBulk B):ky B enc Q W base spare held 68 (qj iM (qj iM (qj VZ (qj iM (qj (rSl (V1 enc W base spare held 68) 6 72) (qj iM VY))))))
  λx=>(1+(1+((x.2.2.1.size+1)+(1+(((x.2.2.2.2.1.map B).sum+1)+(1+0))))))+1:=by
 have a:=lg (enc:=enc) (P:=Q) (W:=W) (base:=base) (spare:=spare) (held:=held) (T:=6) h Tryz.underlying68 aaz
  (ey (s:=1) rfl aaz (iC h (ja Tryz.underlying3)) (ey (s:=1) rfl aaz (iC h (ja Tryz.underlying3)) (ey (s:=1) rfl aaz (lN h Tryz.underlying9) (ey (s:=1) rfl aaz (iC h (ja Tryz.underlying3)) (ey (s:=1) rfl aaz (jG (size:=6) (bytes:=72) h Tryz.underlying66 aaz aaz (KG h _)) (ey (s:=1) rfl aaz (iC h (ja Tryz.underlying3)) (wS rfl)))))))
 exact a
def V2(b:IsBulk B):∀N {x:DataW H} {c:aI} {F:aJ},B x<=N->V1 enc W base spare held 68 W F x c->∃(e:Ex) (d:Nat),MY aL d W (λ_=>True) e c/\YU e/\Di e<=B x
 | 0,x,c,F,h,_=>by have:=b.one x;omega
 | N+1,x,c,F,h,⟨fG,p,z,A⟩=>by
  obtain⟨⟨k,n,s,op,i,a,am⟩,w,v⟩:=R8 (enc:=enc) (W:=W) (base:=base) (spare:=spare) (held:=held) b fG c _ z A;obtain⟨J,r1,rfl,⟨rfl,C⟩,P,r2,rfl,⟨rfl,o⟩,R,r3,rfl,⟨rfl,D⟩,T,r4,rfl,⟨rfl,Y⟩,V,r5,rfl,⟨sl,rfl,r,_⟩,X,H,rfl,⟨rfl,i6⟩,u⟩:=w;have u:H=[]:=u;subst u;dsimp only at v r C o D;have S:∀y,y∈i->B y<=(i.map B).sum:=λy g=>DI (List.mem_map_of_mem g);obtain⟨l,E,t,l3⟩:=Nj (B:=B) (sz:=λe:Ex×Nat=>Di e.1) (Q:=λf e=>∃base c,sl.a=aM base/\I c=6/\aB W (base.add _) c/\MY aL e.2 W _ e.1 c/\YU e.1) i 0 λf y j=>by
   rw[bS];obtain⟨s,a,h,W,k,n,p⟩:=r.at_ f y j;obtain⟨e,d,q,B,F⟩:=V2 b N (x:=y) (by have:=S y (bB j);omega) p;exact⟨(e,d),⟨s,a,h,k,n,q,B⟩,F⟩
  obtain⟨G,m⟩:=Nk (λe:Ex×Nat=>e.2) l;refine⟨.mk k n s.data.toList op (l.map (·.1)) a,G+1,⟨sl,?_,?_,λh=>abG⟩,λd=>?_,?_⟩
  ·have e:oa k n s.data.toList op sl a=[O U k,O U n,K s,O U op,sl.v,O U a]:=by
    show[_,_,Value.string _,_,_,_]=_;rw[<-I9 s]
   exact e.symm
  ·refine⟨by rw[Ex.dC,bJ,E];exact r.len,r.cap,r.nil0,r.big,λf e j=>?_⟩;rw[Ex.dC,cN,gz]at j;obtain⟨q,d,rfl⟩:=j;obtain⟨s,h,k,n,a,p,x⟩:=t f q d;rw[bS]at a;exact⟨s,h,k,trivial,n,a,MZ (m q (bB d)) p⟩
  ·cases d with
   | zero=>trivial
   | succ d=>
    refine⟨o,λy g=>?_⟩;obtain⟨q,e,rfl⟩:=eZ.1 g;obtain⟨f,j⟩:=ig e;obtain⟨s,h,k,n,p,x,a⟩:=t f q j;exact a d
  show LR _+_<=_;rw[Qe,fW,bsz];have e:(l.map (Di∘λx=>x.1)).sum=(l.map λe:Ex×Nat=>Di e.1).sum:=rfl;omega
def FF(f:IsBulk B):ky B enc Q W base spare held 68 rXU λx=>x.2:=λfG s x h w=>by
 obtain⟨e,d,a,b,c⟩:=V2 f _ (x:=x.1) (F:=λ_=>True) (aX _) ⟨fG,x.2,h,w⟩;exact⟨(e,B x.1),⟨⟨d,a⟩,b,c⟩,aX _⟩
def Ap(h:IsBulk B):ky B enc Q W base spare held 161 aaT λx=>x.2:=by
 have b:=lg (enc:=enc) (P:=Q) (W:=W) (base:=base) (spare:=spare) (held:=held) (T:=9) h Tryz.underlying161 aaz
  (ey (s:=1) rfl aaz (iC h (ja Tryz.underlying3)) (ey (s:=1) rfl aaz (lN h Tryz.underlying9) (ey (s:=6) rfl aaz (FF h) (ey (s:=1) rfl aaz (iC h (ja Tryz.underlying3)) (wS rfl)))))
 refine b.map (λx=>((⟨x.1,x.2.1.data.toList,x.2.2.1.1,x.2.2.2.1⟩),x.2.2.1.2+(x.2.1.size+1))) ?_;rintro⟨k,n,⟨e,q⟩,a,y⟩ l ⟨g,r,rfl,⟨rfl,m⟩,i,t,rfl,⟨rfl,o⟩,c,v,rfl,⟨d,f,z⟩,j,w,rfl,⟨rfl,p⟩,u⟩;subst u;refine⟨⟨⟨c,?_,d⟩,f,?_⟩,abQ⟩
 ·show _=_::Value.string _::_;simp
 show Di e+_<=_;rw[bsz];dsimp only at z⊢;omega
def Nl{w}{F}{s}{xs}(h:aA aaT 9 w F s xs):kx aL (qv aL) 9 161 w F s (xs.map (·.1))/\(∀a,a∈xs.map (·.1)->Vm a)/\jF (xs.map (·.1))<=(xs.map λx=>x.2).sum:=by
 refine⟨⟨Qd _ h λx c _ b=>b.1,λh=>abG⟩,λa d=>?_,?_⟩
 ·obtain⟨x,b,rfl⟩:=eZ.1 d;obtain⟨c,a⟩:=FE h b;exact a.2.1
 rw[KC];exact B6 λx b=>by
  obtain⟨c,a⟩:=FE h b;exact a.2.2
def R9(b:IsBulk B):ky B enc Q W base spare held 83 afX λx=>x.2:=by
 have h:=lg (enc:=enc) (P:=Q) (W:=W) (base:=base) (spare:=spare) (held:=held) (T:=13) b Tryz.underlying83 aaz
  (ey (s:=1) rfl aaz (iC b (ja Tryz.underlying3)) (ey (s:=1) rfl aaz (lN b Tryz.underlying9) (ey (s:=1) rfl aaz (iC b (ja Tryz.underlying3)) (ey (s:=1) rfl aaz (iC b (Ni Tryz.underlying4)) (ey (s:=6) rfl aaz (FF b)
  (ey (s:=1) rfl aaz (jG (size:=9) (bytes:=104) b Tryz.underlying23 aaz aaz (Ap b)) (ey (s:=1) rfl aaz (jG (size:=1) (bytes:=16) b Tryz.underlying32 aaz aaz (lN b Tryz.underlying9)) (ey (s:=1) rfl aaz (iC b (ja Tryz.underlying3)) (wS rfl)))))))))
 refine h.map (λx=>((⟨x.1,x.2.1.data.toList,x.2.2.1,x.2.2.2.1,x.2.2.2.2.1.1,x.2.2.2.2.2.1.map (·.1),x.2.2.2.2.2.2.1.map λs=>s.data.toList,x.2.2.2.2.2.2.2.1⟩),(((x.2.2.2.2.2.1.map λx=>x.2).sum+x.2.2.2.2.1.2)+((x.2.2.2.2.2.2.1.map λs=>s.size+1).sum+(x.2.1.size+1)))+2)) ?_;rintro⟨k,ev,wt,N,⟨J,X⟩,w,g,a,am⟩ j ⟨y,Y,rfl,⟨rfl,R⟩,A,r2,rfl,⟨rfl,S⟩,D,r3,rfl,⟨rfl,q⟩,E,r4,rfl,l,i,r5,rfl,⟨m,n,z⟩,F,r6,rfl,⟨v,rfl,C,_⟩,G,r7,rfl,⟨t,rfl,r,_⟩,H,r8,rfl,⟨rfl,V⟩,o⟩;subst o l;obtain⟨c,d,f⟩:=Nl C;have u:aA ke 1 W _ t _:=Qd _ r λx j _ p=>by
  obtain⟨rfl,_⟩:=p;show _=[Value.string _]
  rw[<-I9 x]
 refine⟨⟨⟨i,v,t,?_,m,c,⟨u,λh=>abG⟩⟩,⟨n,d,q⟩,?_⟩,abQ⟩
 ·show _=_::Value.string _::_;simp
 show _+_+2<=_;have e:Ku (g.map λs=>s.data.toList)=(g.map λs=>s.size+1).sum:=by
  unfold Ku;rw[fW];congr 1
 rw[e,bsz];dsimp only at z f⊢;omega
def afY{w}{F}{s}{xs}(h:aA afX 13 w F s xs):kx aL (Iz aL) 13 83 w F s (xs.map (·.1))/\(∀a,a∈xs.map (·.1)->mvN a)/\wa (xs.map (·.1))<=(xs.map λx=>x.2).sum:=by
 refine⟨⟨Qd _ h λx c _ b=>b.1,λh=>abG⟩,λa d=>?_,?_⟩
 ·obtain⟨x,b,rfl⟩:=eZ.1 d;obtain⟨c,a⟩:=FE h b;exact a.2.1
 rw[KD];exact B6 λx b=>by
  obtain⟨c,a⟩:=FE h b;exact bH (Nat.le_add_right _ 2) a.2.2
def Sa(h:IsBulk B):ky B enc Q W base spare held 76 asg λx=>x.2:=by
 have b:=lg (enc:=enc) (P:=Q) (W:=W) (base:=base) (spare:=spare) (held:=held) (T:=3) h Tryz.underlying76 aaz
  (ey (s:=1) rfl aaz (lN h Tryz.underlying9) (ey (s:=1) rfl aaz (iC h (ja Tryz.underlying3)) (ey (s:=1) rfl aaz (iC h (ja Tryz.underlying3)) (wS rfl))))
 refine b.map (λx=>((⟨x.1.data.toList,x.2.1,x.2.2.1⟩),x.1.size+1)) ?_;rintro⟨n,v,a,m⟩ f ⟨c,r,rfl,⟨rfl,g⟩,d,k,rfl,⟨rfl,i⟩,e,l,rfl,⟨rfl,j⟩,u⟩;subst u;refine⟨⟨?_,i,?_⟩,abQ⟩
 ·rfl
 exact aX _
def Sc(h:IsBulk B):ky B enc Q W base spare held 27 (qj iM (qj VZ (qj VZ (qj VZ (qj (rSl aaT 9 104) (qj (rSl aaT 9 104) (qj (rSl afX 13 168) (qj (rSl (V1 enc W base spare held 27) 9 160) (qj iM VY)))))))))
  λx=>(1+((x.2.1.size+1)+((x.2.2.1.size+1)+((x.2.2.2.1.size+1)+(((x.2.2.2.2.1.map λx=>x.2).sum+1)+(((x.2.2.2.2.2.1.map λx=>x.2).sum+1)+(((x.2.2.2.2.2.2.1.map λx=>x.2).sum+1)+(((x.2.2.2.2.2.2.2.1.map B).sum+1)+(1+0)))))))))+1:=by
 have a:=lg (enc:=enc) (P:=Q) (W:=W) (base:=base) (spare:=spare) (held:=held) (T:=9) h Tryz.underlying27 aaz
  (ey (s:=1) rfl aaz (iC h (ja Tryz.underlying3)) (ey (s:=1) rfl aaz (lN h Tryz.underlying9) (ey (s:=1) rfl aaz (lN h Tryz.underlying9) (ey (s:=1) rfl aaz (lN h Tryz.underlying9)
  (ey (s:=1) rfl aaz (jG (size:=9) (bytes:=104) h Tryz.underlying23 aaz aaz (Ap h)) (ey (s:=1) rfl aaz (jG (size:=9) (bytes:=104) h Tryz.underlying23 aaz aaz (Ap h))
  (ey (s:=1) rfl aaz (jG (size:=13) (bytes:=168) h Tryz.underlying24 aaz aaz (R9 h)) (ey (s:=1) rfl aaz (jG (size:=9) (bytes:=160) h Tryz.underlying25 aaz aaz (KG h _)) (ey (s:=1) rfl aaz (iC h (ja Tryz.underlying3)) (wS rfl))))))))))
 exact a
def Qf:∀{l:List Nd},(∀x,x∈l->Fv x)->EF l
 | [],_=>by rw[EF];trivial
 | x::l,h=>by
  exact⟨h x aaV,Qf λy a=>h y (by simp[a])⟩
def V3(b:IsBulk B):∀(N:Nat) {x:DataW H} {c:aI} {F:aJ},B x<=N->V1 enc W base spare held 27 W F x c->∃(e:Nd) (d:Nat),mz aL d W (λ_=>True) e c/\Fv e/\lf e<=B x
 | 0,x,c,F,h,_=>by have:=b.one x;omega
 | N+1,x,c,F,h,⟨fG,p,Y,hw⟩=>by
  obtain⟨⟨k,s,i,f,R,lv,mv,t,a,aC⟩,X,V⟩:=Sc (enc:=enc) (W:=W) (base:=base) (spare:=spare) (held:=held) b fG c _ Y hw;obtain⟨c1,r1,rfl,⟨rfl,i1⟩,c2,r2,rfl,⟨rfl,i2⟩,c3,r3,rfl,⟨rfl,i3⟩,c4,r4,rfl,⟨rfl,i4⟩,c5,r5,rfl,⟨n,rfl,w,_⟩,c6,r6,rfl,⟨lvs,rfl,C,_⟩,c7,r7,rfl,⟨v,rfl,S,_⟩,c8,r8,rfl,⟨sl,rfl,r,_⟩,c9,r9,rfl,⟨rfl,i9⟩,u⟩:=X;have u:r9=[]:=u;subst u;dsimp only at V r w C S;have A:∀y,y∈t->B y<=(t.map B).sum:=λy o=>DI (List.mem_map_of_mem o);obtain⟨l,l1,z,l3⟩:=Nj (B:=B) (sz:=λe:Nd×Nat=>lf e.1) (Q:=λg e=>∃base c,sl.a=aM base/\I c=9/\aB W (base.add _) c/\mz aL e.2 W _ e.1 c/\Fv e.1) t 0 λg y j=>by
   rw[bS];obtain⟨a,h,k,g2,p,q,B⟩:=r.at_ g y j;obtain⟨e,d,F,T,W⟩:=V3 b N (x:=y) (by have:=A y (bB j);omega) B;exact⟨(e,d),⟨a,h,k,p,q,F,T⟩,W⟩
  obtain⟨am,m⟩:=Nk (λe:Nd×Nat=>e.2) l;obtain⟨D,E,a3⟩:=Nl w;obtain⟨G,H,b3⟩:=Nl C;obtain⟨J,P,d3⟩:=afY S;refine⟨.mk ⟨k,s.data.toList,i.data.toList,f.data.toList,R.map _,lv.map _,mv.map _,a⟩ (l.map (·.1)),am+1,⟨n,lvs,v,sl,?_,⟨D,G,J⟩,?_,λh=>abG⟩,?_,?_⟩
  ·show _=[_,Value.string (T s.data.toList),Value.string (T i.data.toList),Value.string (T f.data.toList),_,_,_,_,_]
   rw[<-I9 s,<-I9 i,<-I9 f];rfl
  ·refine⟨by rw[Nd.kids,bJ,l1];exact r.len,r.cap,r.nil0,r.big,λg e j=>?_⟩;rw[Nd.kids,cN,gz]at j;obtain⟨q,d,rfl⟩:=j;obtain⟨h,k,p,x,a,y,B⟩:=z g q d;rw[bS]at a;exact⟨h,k,p,trivial,x,a,afz (m q (bB d)) y⟩
  ·rw[Fv];refine⟨⟨E,H,P⟩,Qf λy o=>?_⟩;obtain⟨q,d,rfl⟩:=eZ.1 o;obtain⟨g,j⟩:=ig d;obtain⟨e,h,k,p,x,B,a⟩:=z g q j;exact a
  rw[lf,KF,fW];unfold wO;dsimp only;rw[bsz,bsz,bsz];have e:(l.map (lf∘λx=>x.1)).sum=(l.map λe:Nd×Nat=>lf e.1).sum:=rfl;omega
def ash:Rp (Nd×Nat):=λw F x c=>∃d,mz aL d w F x.1 c/\Fv x.1/\lf x.1<=x.2
def Se(f:IsBulk B):ky B enc Q W base spare held 27 ash λx=>x.2:=λfG s x h w=>by
 obtain⟨e,d,a,b,c⟩:=V3 f _ (x:=x.1) (F:=λ_=>True) (aX _) ⟨fG,x.2,h,w⟩;exact⟨(e,B x.1),⟨d,a,b,c⟩,aX _⟩
def rChU:Rp (Ch×Nat):=λw F x c=>∃(D:Nat) (v:Sl) (C:aI),c=v.v::C/\ChR aL D w F x.1 v C/\Mb x.1/\nr x.1.vars+lf x.1.root<=x.2
def opensB_ch(b:IsBulk B):ky B enc Q W base spare held 29 rChU λx=>x.2:=by
 have h:=lg (enc:=enc) (P:=Q) (W:=W) (base:=base) (spare:=spare) (held:=held) (T:=10) b Tryz.underlying29 aaz
  (ey (s:=1) rfl aaz (jG (size:=3) (bytes:=32) b Tryz.underlying22 aaz aaz (Sa b)) (ey (s:=9) rfl aaz (Se b) (wS rfl)))
 refine h.map (λx=>((⟨x.1.map (·.1),x.2.1.1⟩),(x.1.map λx=>x.2).sum+x.2.1.2)) ?_;rintro⟨m,⟨nd,p⟩,t⟩ c ⟨o,r,rfl,⟨e,rfl,z,_⟩,g,q,rfl,⟨d,n,i,k⟩,u⟩;subst u;rw[bG];refine⟨⟨d,e,g,rfl,⟨⟨Qd _ z λx c _ a=>a.1,λh=>abG⟩,n⟩,⟨λv j=>?_,i⟩,?_⟩,abQ⟩
 ·obtain⟨x,a,rfl⟩:=eZ.1 j;obtain⟨c,h⟩:=FE z a;exact h.2.1
 rw[KE];have:=B6 (f:=λv:Vr=>I v.n+1) (l:=m) λx a=>by
  obtain⟨c,h⟩:=FE z a;exact h.2.2
 dsimp only at k⊢;omega
end
def FG:∀{p:List (aH×Int)} {l:List (aH)},uu l p=[]->(p.map λx=>x.1).Nodup/\∀x,x∈p.map (λx=>x.1)->x∉l
 | [],l,_=>⟨List.nodup_nil,λx h=>abS⟩
 | x::p,l,h=>by
  rw[uu]at h;obtain⟨a,d⟩:=fg.1 h;have a:x.1∉l:=by simpa using Hr.1 a
  obtain⟨c,g⟩:=FG d;rw[bQ];refine⟨List.nodup_cons.2 ⟨λm=>g _ m aaV,c⟩,λy b=>?_⟩;rcases aY.1 b with rfl | b
  ·exact a
  exact λm=>g y b (E1 _ m)
def Qg{x:List dN}:∀{r:List (aH)} {l:List Int},LS x l r=L->∀t,t∈r->1<=fN x t
 | [],_,_,t,h=>abS
 | s::r,l,h,t,a=>by
  rw[DF]at h;by_cases b:fN x s<1
  ·rw[aV b]at h;cases h
  rw[aR b]at h;split at h
  ·cases h
  rcases aY.1 a with rfl | a
  ·omega
  exact Qg h t a
def rU(s b:List dN)(a:Nat):Prop:=∀(i:Nat) (x:dN),b[i]? =aM x->s[a+i]? =aM x
def rU.left{s b c:List dN}{a:Nat}(d:rU s (b++c) a):rU s b a:=λi x h=>d i x (by rw[bX (iw h)];exact h)
def rU.right{s b c:List dN}{a:Nat}(h:rU s (b++c) a):rU s c (a+I b):=λd x i=>by
 rw[dB];exact h _ x (by rw[cd J,dG];exact i)
def oL{c:Ch}(h:(ji c).1=0):(iH c).2=0/\za c=[]:=by
 unfold ji at h;by_cases p:(iH c).2≠0
 ·rw[aV p]at h;exact absurd h p
 rw[aR p]at h;exact⟨yy.1 p,Ds (Dw c) h⟩
def Sf{c:Ch}(h:(iH c).2=0):rl c=L:=by
 unfold iH at h;by_cases a:rl c=L
 ·exact a
 rw[aR a]at h;exact absurd h X
section
variable {w w':M} {F G:aJ} {s:Sl} {xs:List dN}
def aaU{k:Nat}(x:dN)(n:aH)(B:aF w k 9 [K (T n)]):az Q 139 #[ah (spv x).toArray,ae (aM ⟨k,0,aaf⟩)] w λe w'=>e=ak (aj (decide (x.nm=n)))/\Z [] w w':=by
 refine ret (aq8 _ _ _ _ _ _ ?_);intro a b hk J h;exact⟨_,(h.blk B aaV).cells 0 [_] λj v hj=>aeE,by rw[iV],h⟩
def xW{n:aH}{j:Nat}{x:dN}(h:xs[j]? =aM x)(a:∀y,y∈xs.take j->y.nm≠n)(e:x.nm=n):fN xs n=j:=by
 unfold fN;have l:=iw h;have:yR n (xs.map λx:dN=>x.nm)=j:=by
  have b:xs.map (λx:dN=>x.nm)=(xs.take j).map (λx:dN=>x.nm)++n::(xs.drop (j+1)).map λx:dN=>x.nm:=by
   rw[<-e,<-bQ,<-cp];congr 1;rw[<-(bf.1 h).2,BI,fb]
  rw[b,Hu]
  ·rw[bJ,ch];omega
  intro m;obtain⟨y,c,e⟩:=eZ.1 m;exact a y c e
 rw[this,aV l]
def afZ(a:aA tA 5 w F s xs)(n:aH):az Q 96 #[s.v,K (T n)] w λe w'=>e=ak (O U (fN xs n))/\Z [] w w':=by
 refine ret (aqY _ _ ?_);intro f d l g D z;have o:=a.len;have R:=a.cap;have B:=a.big;refine(ak8 s ⟨.func (.func 139) #[] #[ae (aM ⟨f,0,aaf⟩)],rfl⟩ (λv w'=>v=O U (fN xs n)/\Z [] d w') d ?_).mono (by
  rintro _ w' ⟨v,rfl,rfl,h⟩;exact⟨_,rfl,_,h.blk z aaV,rfl,D.cn h⟩)
 refine⟨λk i u=>∃j:Nat,i=(j:Int)/\k+j=I xs/\j<=I xs/\(∀y,y∈xs.take j->y.nm≠n)/\Z [] d u,I xs,⟨0,rfl,J,bm _,aaV,Only.refl _ _⟩,?_⟩;rintro k _ u ⟨j,rfl,p,m,b,h⟩;refine⟨λc=>?_,λc=>?_⟩
 ·have c:=aN c;obtain⟨x,r⟩:=gj (xs:=xs) (i:=j) J;obtain⟨ad,s,t,_⟩:=jQ (SliceF.only dI X a (D.cn h) aaV) r;refine⟨ad,s,_,_,_,_,_,t,139,[],[ae (aM ⟨f,0,aaf⟩)],rfl,kO aaz,(aaU x n (h.blk z aaV)).mono ?_⟩;rintro _ v ⟨rfl,E⟩;refine⟨_,rfl,λq=>⟨?_,h.cn E⟩,λq=>⟨k-1,J,j+1,aaA,J,J,λy e=>?_,h.cn E⟩⟩
  ·rw[xW r b (aN q)]
  rw[bq,r,cj]at e;rcases e with e | e
  ·exact b y e
  simp only[Option.toList,aP]at e;subst e;exact aQ q
 have c:=aQ c;rw[bp J]at b;refine⟨?_,h⟩;rcases jE xs n with⟨e,_⟩ | ⟨i,x,_,q,e⟩
 ·rw[e]
 exact absurd e (b x (bB q))
end
end Go.Proofs.YtfemabakfkliiaaGreatDoor.Con
namespace Go.Proofs.YtfemabakfkliiaaGreatDoor.Con
open Go Go.RowKit Go.Kt Go.Kt.V Go.Proofs.YtfemabakfkliiaaGreatDoor.Vc
def pV(x:List dN)(s:aH):Int:=if s=[]then -1 else fN x s
def V4(x:List dN)(l:List Int):Nat->Int
 | 0=> -1
 | n+1=>if(l.all λk=>lZ x n k)=L then n else V4 x l n
def af0(x:List dN)(n:Int):Bool:=decide (0<=n)&&decide (n<I x)
def zm{x:List dN}{n:Int}:af0 x n=L↔xU x n:=by
 unfold af0 xU;rw[aU,bF,bF]
def mtM(x:List dN)(l:List Int):Int:=if l=[]∨(l.any λn=>!af0 x n)=L then -1 else V4 x l (I x)
def tD(x:List dN)(l:List Int):∀n:Nat,(V4 x l n= -1/\∀m,m<n->(l.all λk=>lZ x m k)=aL)∨∃m:Nat,V4 x l n=m/\m<n/\(l.all λk=>lZ x m k)=L/\∀j,m<j->j<n->(l.all λk=>lZ x j k)=aL
 | 0=>.inl ⟨rfl,λm h=>J⟩
 | n+1=>by
  unfold V4;by_cases h:(l.all λk=>lZ x n k)=L
  ·rw[aV h];exact .inr ⟨n,rfl,J,h,λj a b=>J⟩
  rw[aR h];have h:(l.all λk=>lZ x n k)=aL:=abT
  rcases tD x l n with⟨a,b⟩ | ⟨m,a,b,c,d⟩
  ·exact .inl ⟨a,λm f=>(qe.1 f).elim (b m) λe=>ahI⟩
  exact .inr ⟨m,a,J,c,λj f g=>(qe.1 g).elim (d j f) λe=>ahI⟩
def qw{x:List dN}{l:List Int}{m:Nat}:(l.all λk=>lZ x m k)=L↔∀n:Int,n∈l->∃k:Nat,n=k/\tq x m k:=by
 rw[dF];constructor
 ·intro h n c;obtain⟨i,j,d,a,b⟩:=vX.1 (h n c);have:i=m:=J
  subst this;exact⟨j,a,b⟩
 intro h n c;obtain⟨k,a,b⟩:=h n c;exact vX.2 ⟨m,k,rfl,a,b⟩
def Fo.amL{x:List dN}(F:Fo x){l:List Int}{r:Int}(h:Mt x l r):r=mtM x l:=by
 unfold mtM;rcases h with⟨a,b⟩ | ⟨⟨a,b⟩,m,d,c,e⟩
 ·rw[aV,b];rcases a with a | ⟨n,g,f⟩
  ·exact .inl a
  refine .inr (oY.2 ⟨n,g,?_⟩);rw[dr,eF];exact λh=>f (zm.1 h)
 rw[aR]
 ·obtain⟨n,p⟩:=List.exists_mem_of_ne_nil l a;obtain⟨k,_,hk⟩:=c n p;have f:m<I x:=by
   obtain⟨s,t,_⟩:=hk;exact iw t
  rcases tD x l (I x) with⟨_,g⟩ | ⟨q,i,u,j,o⟩
  ·have:=g m f;rw[qw.2 c]at this;cases this
  have k:=e q (qw.1 j);have:m<=q:=by
   refine jd λn=>?_;have:=o m n f;rw[qw.2 c]at this;cases this
  rw[i,d];omega
 rintro(h | h)
 ·exact a h
 obtain⟨n,g,f⟩:=oY.1 h;rw[zm.2 (b n g)]at f;cases f
def Aq(x:List dN)(l:List Int):Nat->Int->Int
 | 0,d=>d
 | n+1,d=>if 0<d/\(jI x d≠1∨d∈l)then Aq x l n (M5 x d)else d
def xX(x:List dN)(s:Int)(t:List Int):Int:=if t=[]then -1 else Aq x (s::t) (I x) (mtM x (s::t))
structure Ro where
 src:Int
 slot:Int
 k:Int
 ev:aH
 wt:Int
 tg:List Int
 dom:Int
def Qh(x:List dN)(a i:Nat)(m:Mv):Ro:=⟨a,i,m.k,m.ev,m.wt,m.tg.map (pV x),xX x a (m.tg.map (pV x))⟩
def zT(x:List dN)(a:Nat):Nat->List Mv->List Ro
 | _,[]=>[]
 | i,m::l=>Qh x a i m::zT x a (i+1) l
mutual
def FH(x:List dN):Nat->Nd->List Ro
 | a,.mk b l=>zT x a 0 b.mv++nt x (a+1) l
def nt(s:List dN):Nat->List Nd->List Ro
 | _,[]=>[]
 | a,x::l=>FH s a x++nt s (a+iB x) l
end
mutual
def DJ:Nd->List Nb
 | .mk b l=>b::xY l
def xY:List Nd->List Nb
 | []=>[]
 | x::l=>DJ x++xY l
end
structure Pl where
 sp:List dN
 ini:List Int
 dft:List Int
 ro:List Ro
def uQ(c:Ch):Pl:=⟨dz c,(DJ c.root).map λb=>pV (dz c) b.ini,(DJ c.root).map λb=>pV (dz c) b.dft,FH (dz c) 0 c.root⟩
def HF:∀l m:List Nd,xY (l++m)=xY l++xY m
 | [],m=>by rw[cb,xY,cb]
 | x::l,m=>by rw[ca,xY,xY,HF l m,bC]
mutual
def B7:∀x,I (DJ x)=iB x
 | .mk b l=>by rw[DJ,iB,ba,zn]
def zn:∀l,I (xY l)=dx l
 | []=>by rw[xY,dx];rfl
 | x::l=>by rw[xY,dx,aO,B7,zn]
end
def DK(s:List dN):∀(l m:List Nd) (a:Nat),nt s a (l++m)=nt s a l++nt s (a+dx l) m
 | [],m,a=>by rw[cb,nt,cb,dx,eE]
 | x::l,m,a=>by rw[ca,nt,nt,DK s l m,bC,dx,dB]
def zo(s:List dN)(a:Nat):∀(l:List Mv) (i:Nat) (m:Mv),zT s a i (l++[m])=zT s a i l++[Qh s a (i+I l) m]
 | [],i,m=>rfl
 | x::l,i,m=>by
  rw[ca,zT,zT,zo s a l,ca,ba];congr 4;omega
def mO(s:List dN)(a:Nat):∀(l:List Mv) (i:Nat),I (zT s a i l)=I l
 | [],_=>rfl
 | x::l,i=>by rw[zT,ba,ba,mO s a l]
def gn.sl{B:Nat}{w:M}{s:Sl}{x:List Int}(h:gn B w s x):aA iM 1 w (λk=>B<=k) s x:=(h.slice cK).mono cK λk hk=>hk.elim (λh=>h.elim) λh=>h.1
def rV{w:M}{F:aJ}{s:Sl}{l:List Int}(h:aA iM 1 w F s l){i:Nat}{x:Int}(a:l[i]? =aM x):∃ad,cT s (i:Int) 1 ad/\aB w ad [O U x]:=by
 have W:=(bf.1 a).1;have k:=h.len;obtain⟨ad,y,e,b,g,f,j,c,d⟩:=h.get (aZ i) J;rw[aW,a]at g;injection g with g;subst g;obtain⟨rfl,_⟩:=d;exact⟨ad,b,c⟩
def kI{w a:M}{F:aJ}{s:Sl}{l:List Int}(h:aA iM 1 w F s l)(b:Z [] w a):aA iM 1 a F s l:=SliceF.only cK X h b aaV
def fE(s:Sl)(k:Nat):Prop:=s.a=aM ⟨k,0,aaf⟩
def V5{w}{F}{s}{l}(h:aA iM 1 w F s l) c:
  az Q 142 #[Sl.v s,O U c] w λe b=>∃i,e=ak (O U i)/\decide (i>=0)=decide (c∈l)/\Z [] w b:=by
 refine iW (ak9 _ _ ?_);have f:=h.len;have r:=h.big;have q:=h.cap;refine⟨λv i b=>∃n,n<=I l/\i=n/\v=(I l)-n/\(∀x,x∈l.take n->x≠c)/\b=w,I l,⟨0,bm _,rfl,rfl,aaV,rfl⟩,?_⟩;rintro v _ d ⟨n,g,rfl,rfl,p,u⟩;obtain rfl:w=d:=u.symm;refine⟨λa=>?_,λa=>?_⟩
 ·have W:=aN a;have o:n<I l:=J
  obtain⟨ad,c,j⟩:=rV h (bh o);refine⟨ad,c,_,j,λhe=>⟨_,rfl,?_,Only.refl _ _⟩,λhe=>⟨(I l)-_,J,n+1,J,aaA,rfl,?_,rfl⟩⟩
  ·have he:=abX
   rw[bE J];symm;rw[cP,he];exact kb o
  have he:=abX
  intro y k;rw[bq,bh o]at k;simp only[fH,cj,aP]at k;rcases k with k | rfl
  ·exact p y k
  exact λe=>he e.symm
 have n:=aQ a;rw[bp J]at p;exact⟨_,rfl,(bD λe=>p c e rfl).symm,Only.refl _ _⟩
def KH{w}{F}{s}{l}(h:aA iM 1 w F s l) c:
  az Q 98 #[Sl.v s,O U c] w λe d=>e=ak (aj (decide (c∈l)))/\Z [] w d:=by
 refine ret (akI _ _ ?_);refine(V5 h c).mono ?_;rintro _ f ⟨b,rfl,i,a⟩;exact⟨b,rfl,by rw[i],a⟩
def amh u {a} (h:ub a):∃y b,(au 33 1 #[.mk 0 (O U a)]).run Q u=.ok (Sl.v y) b/\Z [] u b/\gn u.heap.size b y [a]:=by
 obtain⟨y,b,k,c,k3,_⟩:=ju (P:=Q) (t:=33) (e:=3) (i:=Tryz.t3) (z:=O U 0) (w:=u) (F:=λ_=>False) (vs:=[O U a]) (parts:=#[.mk 0 _]) (len:=1) (xs:=[a]) (r:=iM) (size:=1) aaz aaz rfl rfl X rfl rfl X X cK ⟨⟨rfl,rfl,h⟩,trivial⟩;exact⟨y,b,k,k3,c⟩
def ami{A}{u}{s y}{is js}{G}(j:gn A u s is)(l:A<=u.heap.size)(o:aA iM 1 u G y js)(m:∀k,G k->¬fE s k)(q:I is+I js<=1000000000):
  ∃a w,(Builtin.append_ #[33,33] 33 #[Sl.v s,Sl.v y]).run Q u=.ok (Sl.v a) w/\gn A w a (is++js)/\aD (fE s) u w/\∀k,fE a k->fE s k∨u.heap.size<=k:=by
 obtain⟨a,w,b,c,p,d,f,h⟩:=rv (P:=Q) (t:=33) (ty:=33) (e:=3) (i:=Tryz.t3) (bytes:=8) (size:=1) (r:=iM) (F:=λ_=>True) (y:=y) (ys:=js) aaz aaz rfl rfl rfl rfl cK (j.mono cK λk hk=>trivial) (o.mono cK λk hk=>⟨trivial,m k hk⟩) l J X;refine⟨a,w,b,gn.of c,d.p λg n=>.inl (f g n).1,λk hk=>?_⟩;unfold fE at hk⊢;rcases h with e | e
 ·exact .inl abW
 rw[e]at hk;injection hk with hk;injection hk with hk;exact .inr J
def aaW{A}{u}{s}{is}(h:gn A u s is)(m:A<=u.heap.size){n}(p:ub n)(B:I is<=20000000):
  ∃y w,(au 33 1 #[.mk 0 (O U n)]).run Q u=.ok (Sl.v y) w/\Z [] u w/\∃a b,(Builtin.append_ #[33,33] 33 #[Sl.v s,Sl.v y]).run Q w=.ok (Sl.v a) b/\gn A b a (is++[n])/\aD (fE s) w b/\∀k,fE a k->fE s k∨u.heap.size<=k:=by
 obtain⟨y,w,q,k3,a,b,c,d,⟨z,f,j⟩,l⟩:=jV (P:=Q) (t:=33) (ty:=33) (e:=3) (i:=Tryz.t3) (bytes:=8) (size:=1) (r:=iM) (G:=λ_=>False) (v:=O U n) (x:=n) aaz aaz rfl rfl rfl rfl X X X cK h m rfl ⟨rfl,p⟩ (λ_ h=>h.elim) J;refine⟨y,w,q,k3,a,b,c,gn.of d,f.p λg o=>.inl (j g o).1,λk hk=>?_⟩;unfold fE at hk⊢;rcases l with e | ⟨g,e,h⟩
 ·exact .inl abW
 rw[e]at hk;injection hk with hk;injection hk with hk;exact .inr J
section
variable {w w':M} {F G:aJ} {s:Sl} {xs:List dN} {b:Nat} {ty:TypeId} {x1 x2 x3:aw}
def V6(B:aF w b ty [s.v,x1,x2,x3])(a:aA tA 5 w F s xs) n:az Q 66 #[ae (aM ⟨b,0,aaf⟩),K (T n)] w λe w'=>e=ak (O U (pV xs n))/\Z [] w w':=by
 refine ret (aqQ _ _ ?_);rw[iV n []];refine⟨λh=>⟨?_,Only.refl _ _⟩,λh=>⟨s,Blk.dM B 0 rfl,(afZ a n).mono ?_⟩⟩
 ·unfold pV;rw[aV (aN h)]
 rintro _ w ⟨rfl,b⟩;exact⟨_,rfl,by unfold pV;rw[aR (aQ h)],b⟩
def V7 xs n:pV xs n= -1∨∃j:Nat,pV xs n=j/\j<I xs:=by
 unfold pV;split
 ·exact .inl rfl
 exact DE xs n
def Sg(B:aF w b ty [s.v,x1,x2,x3])(h:aA tA 5 w F s xs)(f:Fo xs)(A:I xs<=1000000){sT}{tg}(T:aA iM 1 w G sT tg)(m:I tg<=20000000){a:Nat}(g:a<=1000000):
  az Q 67 #[ae (aM ⟨b,0,aaf⟩),O U a,sT.v] w λe w'=>e=ak (O U (xX xs a tg))/\Z [] w w':=by
 refine ret (aqR _ _ _ ?_);have l:=T.len;refine⟨λhc=>⟨?_,Only.refl _ _⟩,λhc=>?_⟩
 ·have hc:=abv
  have:tg=[]:=bP J;unfold xX;rw[aV this]
 have hc:=abv
 have H:tg≠[]:=λe=>hc (by rw[e]at l;simp at l;omega);obtain⟨y,P,N,k3,o⟩:=amh w (a:=a) ⟨J,J⟩;have i:=kI (SliceF.inHeap cK T X) k3;obtain⟨q,t,D,b,E,_⟩:=ami o k3.size i (λk hk e=>by have:=(o.blk e).1;dsimp only at this;omega) aeJ;have p:=(k3.oQ (E.mono (G:=λk=>w.heap.size<=k) λk _ e=>by have:=(o.blk e).1;exact this)).only λk hk=>hk;refine⟨y,P,N,q,t,D,s,Blk.dM (p.blk B aaV) 0 rfl,(VO (SliceF.only dI X h p aaV) f (b.slice cK)).mono ?_⟩;rintro _ S ⟨⟨z,rfl,F⟩,R⟩;have r:=f.amL F;have C:[(a:Int)]++tg=(a:Int)::tg:=rfl;rw[C]at r b;have j:z<I xs:=by
  rw[r];unfold mtM;split
  ·omega
  rcases tD xs ((a:Int)::tg) (I xs) with⟨c,_⟩ | _<;>omega
 refine⟨z,rfl,λv d u=>Aq xs ((a:Int)::tg) v d=xX xs a tg/\d<I xs/\d<=v/\Z [] w u/\Z [] t u,I xs,⟨?_,j,J,p.cn R,R⟩,?_⟩
 ·unfold xX;rw[aR H,r]
 rintro v d G ⟨hd,V,y,k,q⟩;refine⟨λc u=>c=decide (0<d/\(jI xs d≠1∨d∈(a:Int)::tg))/\Z [] w u/\Z [] t u,?_,λe=>?_,λe=>?_⟩
 ·rintro _ W ⟨rfl,c,w⟩;refine⟨λa=>?_,λa=>⟨?_,c⟩⟩
  ·have a:=aN a;obtain⟨Y,rfl⟩:∃Y:Nat,d=Y:=⟨d.toNat,J⟩
   obtain⟨x,hx⟩:=gj (xs:=xs) (i:=Y) J;obtain⟨ad,a1,_,a3,_⟩:=jQ (SliceF.only dI X h c aaV) hx;have hp:=f.Xr hx;obtain⟨n,rfl⟩:∃n,v=n+1:=⟨v-1,J⟩
   refine⟨s,Blk.dM (c.blk B aaV) 0 rfl,ad,a1,x.pa,a3,n,J,?_,J,J,c,w⟩;rw[Aq,aV a,mG hx]at hd;exact hd
  rw[<-hd];cases v with
  | zero=>rfl
  | succ n=>rw[Aq,aR (aQ a)]
 ·have e:=aN e;obtain⟨a,rfl⟩:∃a:Nat,d=a:=⟨d.toNat,J⟩
  obtain⟨x,c⟩:=gj (xs:=xs) (i:=a) J;obtain⟨ad,n,w,_⟩:=jQ (SliceF.only dI X h k aaV) c;refine⟨s,Blk.dM (k.blk B aaV) 0 rfl,ad,n,x.k,w.dM 0 _ rfl,λhk=>⟨?_,k,q⟩,λhk=>(KH (kI (b.slice cK) q) _).mono ?_⟩
  ·have hk:=abI
   exact(bE ⟨e,.inl (by rw[ic c];exact hk)⟩).symm
  rintro _ s ⟨rfl,W⟩;refine⟨_,rfl,?_,k.cn W,q.cn W⟩;rw[je,ic c];exact⟨λh=>⟨e,.inr h⟩,λh=>h.2.resolve_left λd=>d abI⟩
 have e:=aQ e;exact⟨(bD λh=>e h.1).symm,k,q⟩
end
def Sh(w:M)(F:aJ)(t i:Nat)(s:Sl):Prop:=s.n=0∨∃g c,s.a=aM ⟨g,0,aaf⟩/\aF w g t c/\s.n*i<=I c/\F g
def _root_.Go.Kt.Own.roC{a:Type}{r:Rp a}{i e B:Nat}{w:M}{F G:aJ}{s:Sl}{x:List a}(b:Own r i e B w F s x)(k:∀g,s.a=aM ⟨g,0,aaf⟩->G g):Sh w G e i s:=by
 rcases b with⟨rfl,_⟩ | ⟨g,c,tail,h,_,d,_,f,_,_,j⟩
 ·exact .inl rfl
 exact .inr ⟨g,_,h,d,by rw[aO,j.Lp,f];omega,k g h⟩
def Sh.keep{w w':M}{F:aJ}{t i:Nat}{s:Sl}(h:Sh w F t i s)(hk:∀k,F k->k<w.heap.size->w'.heap[k]? =w.heap[k]?):Sh w' F t i s:=by
 rcases h with h | ⟨g,c,d,a,e,b⟩
 ·exact .inl h
 exact .inr ⟨g,c,d,(hk g b a.lt).trans a,e,b⟩
def Sh.imp{w:M}{F G:aJ}{t i:Nat}{s:Sl}(h:Sh w F t i s)(hk:∀k,F k->k<w.heap.size->G k):Sh w G t i s:=by
 rcases h with h | ⟨g,c,b,a,d,e⟩
 ·exact .inl h
 exact .inr ⟨g,c,b,a,d,hk g e a.lt⟩
def rRo:Rp Ro:=λw F x c=>∃t,c=[O U x.src,O U x.slot,O U x.k,K (T x.ev),O U x.wt,t.v,O U x.dom]/\aA iM 1 w F t x.tg/\Sh w F 3 1 t
def kz:rRo.Ok where
 keep:=by
  rintro w e F x c ⟨d,h,a,b⟩ hk;exact⟨d,h,a.keep cK X hk,b.keep hk⟩
 inHeap:=by
  rintro w F x c ⟨d,h,a,b⟩;exact⟨d,h,a.inHeap cK X,b.imp λk hk l=>⟨hk,l⟩⟩
 mono:=by
  rintro w F G x s ⟨d,a,b,c⟩ hk;exact⟨d,a,b.mono cK hk,c.imp λk h _=>hk k h⟩
 one:=by
  rintro w F x c ⟨d,rfl,_⟩ v h;simp at h;rcases h with rfl | rfl | rfl | rfl | rfl | rfl | rfl<;>rfl
def Q3(a c d:Sl)(k:Nat):Prop:=fE a k∨fE c k∨fE d k
structure Lb (w:M) (b:Nat) (F:aJ) (s si sd sr:Sl) (xs:List dN) (ini dft:List Int) (ro:List Ro):Prop where
 sp:aA tA 5 w F s xs
 hF:∀k,F k->k<w.heap.size/\k≠b/\¬Q3 si sd sr k
 i:gn (b+1) w si ini
 d:gn (b+1) w sd dft
 r:Own rRo 7 57 (b+1) w (λk=>b<k/\¬fE si k/\¬fE sd k) sr ro
 ap:∀k,fE si k->¬fE sd k/\¬fE sr k
 ap2:∀k,fE sd k->¬fE sr k
structure La (w:M) (b:Nat) (F:aJ) (s si sd sr:Sl) (xs:List dN) (ini dft:List Int) (ro:List Ro):Prop extends Lb w b F s si sd sr xs ini dft ro where
 blk:aF w b 93 [s.v,si.v,sd.v,sr.v]
section
variable {w w':M} {F:aJ} {s si sd sr:Sl} {xs:List dN} {b:Nat} {ini dft:List Int} {ro:List Ro}
def La.lt(h:La w b F s si sd sr xs ini dft ro):b<w.heap.size:=h.blk.lt
def Lb.bi(h:Lb w b F s si sd sr xs ini dft ro):∀k,fE si k->b<k/\k<w.heap.size:=λk e=>by have:=h.i.blk e;dsimp only at this;omega
def Lb.bd(h:Lb w b F s si sd sr xs ini dft ro):∀k,fE sd k->b<k/\k<w.heap.size:=λk e=>by have:=h.d.blk e;dsimp only at this;omega
def Lb.br(h:Lb w b F s si sd sr xs ini dft ro):∀k,fE sr k->b<k/\k<w.heap.size:=λk e=>by have:=h.r.blk e;dsimp only at this;omega
def Lb.o0(h:Lb w b F s si sd sr xs ini dft ro)(a:Z [] w w'):Lb w' b F s si sd sr xs ini dft ro:=
 ⟨SliceF.only dI X h.sp a aaV,λk hk=>⟨cH (h.hF k hk).1 a.size,(h.hF k hk).2⟩,h.i.keep cK λk _ W=>a.block k W aaV,h.d.keep cK λk _ W=>a.block k W aaV,h.r.keep kz λk _ W=>a.block k W aaV,h.ap,h.ap2⟩
def La.o0(h:La w b F s si sd sr xs ini dft ro)(a:Z [] w w'):La w' b F s si sd sr xs ini dft ro:=⟨h.toLb.o0 a,a.blk h.blk aaV⟩
def Lb.abB(h:Lb w b F s si sd sr xs ini dft ro){n}(t:ub n)(W:b<w.heap.size)(r:I ini<=20000000):
  ∃y a,(au 33 1 #[.mk 0 (O U n)]).run Q w=.ok (Sl.v y) a/\Z [] w a/\∃c d,(Builtin.append_ #[33,33] 33 #[Sl.v si,Sl.v y]).run Q a=.ok (Sl.v c) d/\aD (fE si) a d/\(∀k,fE c k->fE si k∨w.heap.size<=k)/\
   ∀f,Z [b] d f->Lb f b F s c sd sr xs (ini++[n]) dft ro:=by
 obtain⟨y,a,v,k3,c,d,m,o,i,g⟩:=aaW h.i J t r;have z:=k3.size;have x:=i.size;refine⟨y,a,v,k3,c,d,m,i,g,λf hO=>?_⟩;have hk:∀k,k<w.heap.size->k≠b->¬fE si k->f.heap[k]? =w.heap[k]? :=λk p h2 q=>by
  rw[hO.block k J acO,i.block k J q,k3.block k p aaV]
 refine⟨h.sp.keep dI X λk xd l=>hk k l (h.hF k xd).2.1 λe=>(h.hF k xd).2.2 (.inl e),λk xd=>⟨acY,(h.hF k xd).2.1,λu=>u.elim (λe=>(g k e).elim (λe=>(h.hF k xd).2.2 (.inl e)) λe=>aeG) λe=>(h.hF k xd).2.2 (.inr e)⟩,o.keep cK λk j l=>hO.block k l (by have:=j.resolve_left id;simp;omega),h.d.keep cK λk j l=>?_,((h.r.inHeap kz).keep kz λk j l=>?_).mono kz λk j=>⟨j.1.1,λe=>?_,j.1.2.2⟩,λk e=>?_,h.ap2⟩
 ·have:=j.resolve_left id;exact hk k l J λe=>(h.ap k e).1 this.2
 ·rcases j with j | j
  ·exact hk k l (by have:=j.1.1;omega) j.1.2.1
  exact hk k l J λe=>(h.ap k e).2 j.2
 ·rcases g k e with e | e
  ·exact j.1.2.1 e
  have:=j.2;omega
 rcases g k e with e | e
 ·exact h.ap k e
 exact⟨λe=>by have:=h.bd k e;omega,λe=>by have:=h.br k e;omega⟩
def La.abB(h:La w b F s si sd sr xs ini dft ro){n}(p:ub n)(o:I ini<=20000000):
  ∃y c,(au 33 1 #[.mk 0 (O U n)]).run Q w=.ok (Sl.v y) c/\Z [] w c/\∃a d,(Builtin.append_ #[33,33] 33 #[Sl.v si,Sl.v y]).run Q c=.ok (Sl.v a) d/\aD (fE si) c d/\(∀k,fE a k->fE si k∨w.heap.size<=k)/\aF d b 93 [s.v,si.v,sd.v,sr.v]/\
   ∀f,Z [b] d f->aF f b 93 [s.v,a.v,sd.v,sr.v]->La f b F s a sd sr xs (ini++[n]) dft ro:=by
 obtain⟨y,c,q,k3,a,d,i,g,j,l⟩:=h.toLb.abB p h.lt o;exact⟨y,c,q,k3,a,d,i,g,j,g.blk (k3.blk h.blk aaV) λe=>by have:=h.bi b e;omega,λf m B=>⟨l f m,B⟩⟩
def Lb.abC(h:Lb w b F s si sd sr xs ini dft ro){n}(v:ub n)(W:b<w.heap.size)(u:I dft<=20000000):
  ∃y c,(au 33 1 #[.mk 0 (O U n)]).run Q w=.ok (Sl.v y) c/\Z [] w c/\∃d f,(Builtin.append_ #[33,33] 33 #[Sl.v sd,Sl.v y]).run Q c=.ok (Sl.v d) f/\aD (fE sd) c f/\(∀k,fE d k->fE sd k∨w.heap.size<=k)/\
   ∀i,Z [b] f i->Lb i b F s si d sr xs ini (dft++[n]) ro:=by
 obtain⟨y,c,x,k3,d,f,o,p,m,g⟩:=aaW h.d J v u;have z:=k3.size;have A:=m.size;refine⟨y,c,x,k3,d,f,o,m,g,λi hO=>?_⟩;have hk:∀k,k<w.heap.size->k≠b->¬fE sd k->i.heap[k]? =w.heap[k]? :=λk r h2 t=>by
  rw[hO.block k J acO,m.block k J t,k3.block k r aaV]
 refine⟨h.sp.keep dI X λk xd l=>hk k l (h.hF k xd).2.1 λe=>(h.hF k xd).2.2 (.inr (.inl e)),λk xd=>⟨acY,(h.hF k xd).2.1,λq=>q.elim (λe=>(h.hF k xd).2.2 (.inl e)) λq=>q.elim (λe=>(g k e).elim (λe=>(h.hF k xd).2.2 (.inr (.inl e))) λe=>aeG) λe=>(h.hF k xd).2.2 (.inr (.inr e))⟩,h.i.keep cK λk j l=>?_,p.keep cK λk j l=>hO.block k l (by have:=j.resolve_left id;simp;omega),((h.r.inHeap kz).keep kz λk j l=>?_).mono kz λk j=>⟨j.1.1,j.1.2.1,λe=>?_⟩,λk e=>⟨λa=>?_,(h.ap k e).2⟩,λk e=>?_⟩
 ·have:=j.resolve_left id;exact hk k l J (h.ap k this.2).1
 ·rcases j with j | j
  ·exact hk k l (by have:=j.1.1;omega) j.1.2.2
  exact hk k l J λe=>h.ap2 k e j.2
 ·rcases g k e with e | e
  ·exact j.1.2.2 e
  have:=j.2;omega
 ·rcases g k a with a | a
  ·exact(h.ap k e).1 a
  have:=h.bi k e;omega
 rcases g k e with e | e
 ·exact h.ap2 k e
 exact λa=>by have:=h.br k a;omega
def La.abC(h:La w b F s si sd sr xs ini dft ro){n}(p:ub n)(o:I dft<=20000000):
  ∃y c,(au 33 1 #[.mk 0 (O U n)]).run Q w=.ok (Sl.v y) c/\Z [] w c/\∃a d,(Builtin.append_ #[33,33] 33 #[Sl.v sd,Sl.v y]).run Q c=.ok (Sl.v a) d/\aD (fE sd) c d/\(∀k,fE a k->fE sd k∨w.heap.size<=k)/\aF d b 93 [s.v,si.v,sd.v,sr.v]/\
   ∀f,Z [b] d f->aF f b 93 [s.v,si.v,a.v,sr.v]->La f b F s si a sr xs ini (dft++[n]) ro:=by
 obtain⟨y,c,q,k3,a,d,i,g,j,l⟩:=h.toLb.abC p h.lt o;exact⟨y,c,q,k3,a,d,i,g,j,g.blk (k3.blk h.blk aaV) λe=>by have:=h.bd b e;omega,λf m B=>⟨l f m,B⟩⟩
def Lb.abD(h:Lb w b F s si sd sr xs ini dft ro){x}{tg}{G}(N:aA iM 1 w G tg x.tg)(E:Sh w G 3 1 tg)(H:∀k,G k->b<k/\¬fE si k/\¬fE sd k/\¬fE sr k)(W:b<w.heap.size)(Y:I ro<=20000000):
  ∃y d,(au 44 1 #[.mk 0 (ah #[O U x.src,O U x.slot,O U x.k,K (T x.ev),O U x.wt,tg.v,O U x.dom])]).run Q w=.ok (Sl.v y) d/\Z [] w d/\∃c f,(Builtin.append_ #[44,44] 44 #[Sl.v sr,Sl.v y]).run Q d=.ok (Sl.v c) f/\aD (fE sr) d f/\(∀k,fE c k->fE sr k∨w.heap.size<=k)/\
   ∀m,Z [b] f m->Lb m b F s si sd c xs ini dft (ro++[x]):=by
 obtain⟨y,d,S,k3,c,f,z,A,⟨V,o,p⟩,B⟩:=jV (P:=Q) (t:=44) (ty:=44) (e:=57) (i:=Tryz.t57) (bytes:=80) (size:=7) (r:=rRo) (G:=G) (v:=ah #[O U x.src,O U x.slot,O U x.k,K _,O U x.wt,tg.v,O U x.dom]) (x:=x) aaz aaz rfl rfl rfl rfl X X X kz h.r J rfl ⟨tg,rfl,N,E⟩ (λk hk _=>by have:=H k hk;exact⟨⟨this.1,this.2.1,this.2.2.1⟩,this.2.2.2⟩) J;have n:=o.p λu R=>.inl (p u R).1;have g:∀k,fE c k->fE sr k∨w.heap.size<=k:=λk hk=>by
  unfold fE at hk⊢;rcases B with e | ⟨u,e,h⟩
  ·exact .inl abW
  rw[e]at hk;injection hk with hk;injection hk with hk;exact .inr J
 have z1:=k3.size;have z2:=n.size;refine⟨y,d,S,k3,c,f,z,n,g,λm hO=>?_⟩;have hk:∀k,k<w.heap.size->k≠b->¬fE sr k->m.heap[k]? =w.heap[k]? :=λk C h2 D=>by
  rw[hO.block k J acO,n.block k J D,k3.block k C aaV]
 refine⟨h.sp.keep dI X λk xd l=>hk k l (h.hF k xd).2.1 λe=>(h.hF k xd).2.2 (.inr (.inr e)),λk xd=>⟨acY,(h.hF k xd).2.1,λq=>q.elim (λe=>(h.hF k xd).2.2 (.inl e)) λq=>q.elim (λe=>(h.hF k xd).2.2 (.inr (.inl e))) λe=>(g k e).elim (λe=>(h.hF k xd).2.2 (.inr (.inr e))) λe=>aeG⟩,h.i.keep cK λk j l=>?_,h.d.keep cK λk j l=>?_,(A.keep kz λk j l=>hO.block k l ?_).mono kz λk j=>?_,λk e=>⟨(h.ap k e).1,λa=>?_⟩,λk e a=>?_⟩
 ·have:=j.resolve_left id;exact hk k l J (h.ap k this.2).2
 ·have:=j.resolve_left id;exact hk k l J (h.ap2 k this.2)
 ·simp;rcases j with _ | j<;>omega
 ·rcases j with j | j
  ·exact j
  exact⟨J,λe=>by have:=h.bi k e;omega,λe=>by have:=h.bd k e;omega⟩
 ·rcases g k a with a | a
  ·exact(h.ap k e).2 a
  have:=h.bi k e;omega
 rcases g k a with a | a
 ·exact h.ap2 k e a
 have:=h.bd k e;omega
def La.abD(h:La w b F s si sd sr xs ini dft ro){x:Ro}{tg}{G}(o:aA iM 1 w G tg x.tg)(C:Sh w G 3 1 tg)(m:∀k,G k->b<k/\¬fE si k/\¬fE sd k/\¬fE sr k)(p:I ro<=20000000):
  ∃y c,(au 44 1 #[.mk 0 (ah #[O U x.src,O U x.slot,O U x.k,K (T x.ev),O U x.wt,tg.v,O U x.dom])]).run Q w=.ok (Sl.v y) c/\Z [] w c/\∃a d,(Builtin.append_ #[44,44] 44 #[Sl.v sr,Sl.v y]).run Q c=.ok (Sl.v a) d/\aD (fE sr) c d/\(∀k,fE a k->fE sr k∨w.heap.size<=k)/\aF d b 93 [s.v,si.v,sd.v,sr.v]/\
   ∀f,Z [b] d f->aF f b 93 [s.v,si.v,sd.v,a.v]->La f b F s si sd a xs ini dft (ro++[x]):=by
 obtain⟨y,c,q,k3,a,d,i,g,j,l⟩:=h.toLb.abD o C m h.lt p;exact⟨y,c,q,k3,a,d,i,g,j,g.blk (k3.blk h.blk aaV) λe=>by have:=h.br b e;omega,λf n B=>⟨l f n,B⟩⟩
end
section
def uY(b:Nat)(a:aJ)(w:M)(c:aJ)(d:M):Prop:=aD (λk=>k=b∨a k) w d/\∀k,c k->a k∨w.heap.size<=k
def uY.refl(b:Nat)(a:aJ)(w:M):uY b a w a w:=⟨OnlyP.refl _ _,λ_ h=>.inl h⟩
def uY.trans{b:Nat}{a R S:aJ}{u v w:M}(h:uY b a u R v)(g:uY b R v S w):uY b a u S w:=by
 refine⟨h.1.trans g.1 λk hk=>?_,λk hk=>?_⟩
 ·rcases hk with hk | hk
  ·exact .inl (.inl hk)
  exact(h.2 k hk).elim (λh=>.inl (.inr h)) .inr
 rcases g.2 k hk with hk | hk
 ·exact h.2 k hk
 exact .inr (bH h.1.size hk)
def uY.cn{b:Nat}{a R:aJ}{u v w:M}(h:uY b a u R v)(c:Z [] v w):uY b a u R w:=⟨h.1.cn c,h.2⟩
def uY.of0{b:Nat}{a R:aJ}{u v w:M}(c:Z [] u v)(h:uY b a v R w):uY b a u R w:=⟨c.oQ h.1,λk hk=>(h.2 k hk).imp id λh=>bH c.size h⟩
def HG{y:Nd}:∀{l:List Nd} {j:Nat},l[j]? =aM y->iZ (l.take j)+lf y<=iZ l
 | [],j,h=>abS
 | x::l,0,h=>by
  rw[cw,bN]at h;subst h;rw[ci,iZ,iZ];omega
 | x::l,j+1,h=>by
  rw[cO]at h;have:=HG h;rw[eJ,iZ,iZ];omega
mutual
def V8(s:List dN):∀(x:Nd) (a:Nat),I (FH s a x)<=lf x
 | .mk b l,a=>by
  have:=HH s l (a+1);have:=kR b.mv;rw[FH,aO,mO,lf];unfold wO;omega
def HH(s:List dN):∀(l:List Nd) (a:Nat),I (nt s a l)<=iZ l
 | [],a=>by rw[nt];exact bm _
 | x::l,a=>by
  have:=V8 s x a;have:=HH s l (a+iB x);rw[nt,aO,iZ];omega
end
section
variable {b:Nat} {F:aJ} {s:Sl} {xs:List dN}
def La.q3{w:M}{a sd sr:Sl}{i d:List Int}{r:List Ro}(h:La w b F s a sd sr xs i d r):∀k,Q3 a sd sr k->b<k/\k<w.heap.size:=λk hk=>hk.elim (h.bi k) λhk=>hk.elim (h.bd k) (h.br k)
def adF(m:Fo xs)(A:I xs<=64):∀(D:Nat) {w:M} {G:aJ} {x:Nd} {l:aI} {f sd sr:Sl} {i d:List Int} {r:List Ro},mz aL D w G x l->(∀k,G k->k<b)->La w b F s f sd sr xs i d r->
  lf x<=8388608->I i+iB x<=1000000->I d=(I i)->I r+lf x<=16777216->
  az Q 36 #[ae (aM ⟨b,0,aaf⟩),ah l.toArray] w λe o=>e=ak (ai #[])/\∃h g j,La o b F s h g j xs (i++(DJ x).map λc=>pV xs c.ini) (d++(DJ x).map λc=>pV xs c.dft) (r++FH xs (I i) x)/\uY b (Q3 f sd sr) w (Q3 h g j) o
 | 0,_,_,_,_,_,_,_,_,_,_,a,_,_,_,_,_,_=>a.elim
 | D+1,w,G,.mk p B,l,f,sd,sr,i,d,r,⟨en,lv,mv,kids,ix,⟨_,_,Y⟩,fT⟩,hG,V,hz,hn,yr,aS=>by
  have hk:=fT.1;have Y:=Y.1;clear fT;dsimp only[Nd.kids,Nd.b]at hk ix Y;subst ix;rw[iB]at hn;rw[lf]at hz aS;have ET:=hk.len;have Es:=Y.len;have bV:=nQ B;have wo:=kR p.mv;have aT:wa p.mv<=wO p:=agP
  refine ret (aqL _ _ _ _ _ _ _ _ _ _ ?_);intro k0 E fT dZ R;have z0:=R.size;have EJ:=V.lt;have hq:=V.q3;have Y6:=V.o0 R;have P:∀n,ub (pV xs n):=λn=>by
   rcases V7 xs n with a | ⟨c,a,b⟩
   ·rw[a];exact⟨X,X⟩
   rw[a];exact⟨J,J⟩
  have SL:f.n=I i:=V.i.len;have sw:∀{C:aJ} {z v:M} {bs:List Nat} {am:aJ},uY b (Q3 f sd sr) E C z->aD am z v->(∀k,am k->k=b∨C k)->(∀k,k∈bs->k<E.heap.size/\w.heap.size<=k)->cr bs z v:=fun{C z v bs am} u hO hP hb=>hO.same λx hx=>by
   have hx:=hb x hx;refine⟨by have:=u.1.size;omega,λa=>?_⟩;rcases hP x a with rfl | a
   ·omega
   rcases u.2 x a with a | a
   ·have:=hq x a;omega
   omega
  refine⟨f,Blk.dM Y6.blk 1 rfl,λw1 cE=>⟨λk=>k=b,rfl,f,Blk.dM (cE.blk Y6.blk aaV) 1 rfl,?_⟩⟩;have N:=Y6.o0 cE;have z1:=cE.size;have m1:uY b (Q3 f sd sr) E (Q3 f sd sr) w1:=(uY.refl _ _ _).cn cE;refine(V6 N.blk N.sp p.ini).mono ?_;rintro _ w2 ⟨rfl,S⟩;have aC:=N.o0 S;have m2:=m1.cn S;obtain⟨y,w3,p1,p2,H,w4,p3,p4,p5,p6,p7⟩:=aC.abB (P p.ini) J;have z2:=S.size;have z3:=p2.size;have z4:=p4.size;refine⟨_,rfl,S.same aba,bR.only S,y,w3,p1,p2.same aba,bR.only p2,H,w4,p3,sw (m2.cn p2) p4 (λk hk=>.inr (.inl hk)) aba,λk hk W=>?_,b,1,_,_,rfl,p6,cZ rfl,J,λw5 eW u7 w6 dY=>?_⟩
  ·subst hk;exact p4.block _ W λe=>by have:=V.bi _ e;omega
  have bY:=p7 w5 eW u7;have z5:=eW.size;have m5:uY b (Q3 f sd sr) E (Q3 H sd sr) w5:=by
   refine m2.trans ⟨(p2.oQ (p4.mono (G:=λk=>k=b∨Q3 f sd sr k) λk _ hk=>.inr (.inl hk))).trans (eW.p (F:=λk=>k=b) aaV) λk hk=>.inl (.inl hk),λk hk=>?_⟩;rcases hk with hk | hk
   ·exact(p5 k hk).imp .inl λa=>J
   exact .inl (.inr hk)
  have Oj:=bY.o0 dY;have z6:=dY.size;have m6:=m5.cn dY;refine⟨λk=>k=b,rfl,sd,Blk.dM Oj.blk 2 rfl,(V6 Oj.blk Oj.sp p.dft).mono ?_⟩;rintro _ w7 ⟨rfl,v⟩;have xb:=Oj.o0 v;have m7:=m6.cn v;obtain⟨y8,w8,r1,r2,n,w9,r3,r4,r5,r6,r7⟩:=xb.abC (P p.dft) J;have z7:=v.size;have z8:=r2.size;have z9:=r4.size;refine⟨_,rfl,v.same aba,bR.only v,y8,w8,r1,r2.same aba,bR.only r2,n,w9,r3,sw (m7.cn r2) r4 (λk hk=>.inr (.inr (.inl hk))) aba,λk hk W=>?_,b,2,_,_,rfl,r6,cZ rfl,J,λdA dR oT=>?_⟩
  ·subst hk;exact r4.block _ W λe=>by have:=xb.bd _ e;omega
  have Yr:=r7 dA dR oT;have LA:=dR.size;have eQ:uY b (Q3 f sd sr) E (Q3 H n sr) dA:=by
   refine m7.trans ⟨(r2.oQ (r4.mono (G:=λk=>k=b∨Q3 H sd sr k) λk _ hk=>.inr (.inr (.inl hk)))).trans (dR.p (F:=λk=>k=b) aaV) λk hk=>.inl (.inl hk),λk hk=>?_⟩;rcases hk with hk | hk | hk
   ·exact .inl (.inl hk)
   ·exact(r5 k hk).imp (λa=>.inr (.inl a)) λa=>J
   exact .inl (.inr (.inr hk))
  have cC:∀{C:aJ} {z:M},uY b (Q3 f sd sr) E C z->¬C k0:=λu e=>by
   rcases u.2 k0 e with a | a
   ·have:=hq k0 a;omega
   omega
  have jJ:∀{z:M} {C:aJ},uY b (Q3 f sd sr) E C z->aA (mz aL D) 9 z G kids B:=λu=>SliceF.lO (cA aL D) X hk (R.oQ u.1) λk S9 _=>by
   have:=hG k S9;exact λa=>a.elim J λa=>by have:=hq k a;omega
  have XY:∀{z:M} {C:aJ},uY b (Q3 f sd sr) E C z->aA (Iz aL) 13 z G mv p.mv:=λu=>SliceF.lO (mr aL) X Y (R.oQ u.1) λk S9 _=>by
   have:=hG k S9;exact λa=>a.elim J λa=>by have:=hq k a;omega
  refine⟨λkv dO z=>∃(cc:Nat) (q:Sl),dO=(cc:Int)/\kv+cc=I p.mv/\cc<=I p.mv/\La z b F s H n q xs (i++[pV xs p.ini]) (d++[pV xs p.dft]) (r++zT xs (I i) 0 (p.mv.take cc))/\uY b (Q3 f sd sr) E (Q3 H n q) z,I p.mv,⟨0,sr,rfl,J,bm _,by rw[ci,zT,bG];exact Yr,eQ⟩,?_⟩;rintro kv _ dL ⟨cc,q,rfl,pZ,hj,BD,co⟩;have Cj:=co.1.size;refine⟨λhc=>?_,λhc=>?_⟩
  ·have hc:=aN hc;obtain⟨ad,u,ds,a1,a2,a3,a4,a5,a6⟩:=(XY co).get (aZ cc) J;rw[aW]at a2;obtain⟨gc,rM,tg,rfl,TQ,BC,om⟩:=a6;obtain⟨sl,rfl⟩:=fp TQ;have om:=om.1;have EI:=om.len;have f8:El u<=wa p.mv:=nR (bB a2);have gT:=uw u.tg;unfold El at f8;refine⟨ad,a1,_,_,_,_,_,_,_,_,sl,_,rM,tg,_,a5,λk9 kD c gO gE gG Ys eM=>?_⟩;have ip:=eM.size;refine⟨λAQ dO f7 SY k2 ev wt fd dm z=>∃t:Nat,dO=(t:Int)/\f7=(I i:Int)/\SY=(cc:Int)/\k2=u.k/\ev=T u.ev/\wt=u.wt/\dm=0/\AQ+t=I u.tg/\t<=I u.tg/\gn c.heap.size z fd ((u.tg.take t).map (pV xs))/\Z [] dL z/\c.heap.size<=z.heap.size,I u.tg,⟨0,rfl,by rw[SL],rfl,rfl,rfl,rfl,rfl,J,bm _,Own.nil _ _ _ _ _ _,eM,aX _⟩,?_⟩;rintro AQ _ _ _ _ _ _ fd _ fj ⟨t,rfl,rfl,rfl,rfl,rfl,rfl,rfl,Ee,ht,s,dV,SX⟩;have nA:∀k,fE fd k->c.heap.size<=k:=λk e=>(s.blk e).1;have Yt:=BD.o0 dV;have Zu:I ((u.tg.take t).map (pV xs))=t:=agQ
   refine⟨λy=>?_,λy=>?_⟩
   ·have y:=aN y;obtain⟨xf,x2,iF,b1,b2,b3,b4,b5,b6⟩:=(SliceF.only cY X om dV aaV).get (aZ t) J;rw[aW]at b2;unfold ke at b6;subst b6;refine⟨xf,b1,_,b5,λfU F=>⟨λk=>k<c.heap.size,Ys,?_⟩⟩;have XN:=F.size;have Ef:=Yt.o0 F;refine(V6 Ef.blk Ef.sp x2).mono ?_;rintro _ gC ⟨rfl,a⟩;have iN:=a.size;have T:gn c.heap.size gC fd _:=(s.keep cK λk _ W=>F.block k W aaV).keep cK λk _ W=>a.block k W aaV;obtain⟨y2,iQ,c1,b,l2,im,c3,c4,q,c6⟩:=aaW T J (P x2) (by rw[Zu];omega);have iS:=b.size;have lE:=q.size;have iD:Z [] dL im:=((((dV.cn F).cn a).cn b).oQ (q.mono (G:=λk=>dL.heap.size<=k) λk _ e=>aeX)).only λk hk=>hk;refine⟨_,rfl,a.same aba,bR.only a,y2,iQ,c1,b.same aba,bR.only b,l2,im,c3,q.same λx hx=>?_,λk hk _=>q.block k J λe=>aeX,λiR jR=>⟨AQ-1,J,t+1,aaA,rfl,rfl,rfl,rfl,rfl,rfl,J,J,?_,iD.trans jR λx hx=>.inr abF,by have:=jR.size;omega⟩⟩
    ·simp only[aY,bA,cf]at hx;rcases hx with rfl | rfl | rfl
     ·exact⟨J,λe=>ae3⟩
     ·exact⟨J,λe=>ae3⟩
     exact⟨J,λe=>ae3⟩
    rw[bq,b2,cp];exact c4.keep cK λk hk W=>jR.block k W aca
   have y:=aQ y;have nO:t=I u.tg:=J
   subst nO;rw[bp (aX _)]at s Zu;rw[SL];refine(Sg Yt.blk Yt.sp m J (s.slice cK) (by rw[Zu];omega) (a:=I i) J).mono ?_;rintro _ kf ⟨rfl,my⟩;have oF:=my.size;refine⟨_,rfl,my.same aba,λiU jT=>⟨λk=>k=b,rfl,?_⟩⟩;have oN:=jT.size;have mt:Z [] dL iU:=(dV.cn my).trans jT λx hx=>.inr abF;have lT:=BD.o0 mt;have T:gn c.heap.size iU fd _:=(s.keep cK λk _ W=>my.block k W aaV).keep cK λk hk W=>jT.block k W aca;obtain⟨y3,kZ,d1,d2,q',mV,d3,d4,d5,d6,d7⟩:=lT.abD (x:=Qh xs (I i) cc u) (T.slice cK) (T.roC λpm hg=>.inr ⟨(T.blk hg).1,hg⟩) (λk hk=>by
    have hk:=hk.resolve_left id;exact⟨J,λe=>by have:=BD.bi k e;omega,λe=>by have:=BD.bd k e;omega,λe=>by have:=BD.br k e;omega⟩) (by rw[aO,mO,ch];omega)
   have oR:=d2.size;have pi:=d4.size;refine⟨q,Blk.dM lT.blk 3 rfl,y3,kZ,d1,d2.same aba,bR.only d2,q',mV,d3,d4.same λx hx=>?_,λk hk W=>?_,b,3,_,_,rfl,d6,cZ rfl,J,J,J,λpo tP mK=>⟨kv-1,J,cc+1,q',aaA,J,J,?_,?_⟩⟩
   ·simp only[aY,bA,cf]at hx;rcases hx with rfl | rfl | rfl
    ·exact⟨J,λe=>cC co (.inr (.inr e))⟩
    ·exact⟨J,λe=>agI⟩
    exact⟨J,λe=>agI⟩
   ·subst hk;exact d4.block _ W λe=>agI
   ·have e:p.mv.take (cc+1)=p.mv.take cc++[u]:=ahH
    have a:I (p.mv.take cc)=cc:=aej
    rw[e,zo,a,bS,<-bC];exact d7 po tP mK
   refine(co.cn mt).trans ⟨(d2.oQ (d4.mono (G:=λk=>k=b∨Q3 H n q k) λk _ hk=>.inr (.inr (.inr hk)))).trans (tP.p (F:=λk=>k=b) aaV) λk hk=>.inl (.inl hk),λk hk=>?_⟩;rcases hk with hk | hk | hk
   ·exact .inl (.inl hk)
   ·exact .inl (.inr (.inl hk))
   exact(d5 k hk).imp (λa=>.inr (.inr a)) λa=>J
  have hc:=aQ hc;have lc:cc=I p.mv:=J
  subst lc;rw[bp (aX _)]at BD;clear pZ;refine⟨λkv dO z=>∃(cc:Nat) (qi qd qr:Sl),dO=(cc:Int)/\kv+cc=I B/\cc<=I B/\La z b F s qi qd qr xs (i++(pV xs p.ini::(xY (B.take cc)).map λc=>pV xs c.ini)) (d++(pV xs p.dft::(xY (B.take cc)).map λc=>pV xs c.dft)) (r++(zT xs (I i) 0 p.mv++nt xs (I i+1) (B.take cc)))/\uY b (Q3 f sd sr) E (Q3 qi qd qr) z,I B,⟨0,H,n,q,rfl,J,bm _,by rw[ci,xY,nt,bG];exact BD,co⟩,?_⟩;rintro kv _ ra ⟨cc,qi,qd,qr,rfl,pZ,hj,t,a⟩;have pP:=a.1.size;refine⟨λT=>?_,λT=>?_⟩
  ·have T:=aN T;obtain⟨ad,y,ds,F,a2,a3,a4,a5,q⟩:=(jJ a).get (aZ cc) J;rw[aW]at a2;have s:=q;obtain⟨b,rfl⟩:∃b,D=b+1:=by
    cases D with
    | zero=>exact q.elim
    | succ b=>exact⟨b,rfl⟩
   obtain⟨tT,tU,qk,iE,rfl,_⟩:=s;have sB:=ld a2;have Bv:lf y<=iZ B:=mH (bB a2);have By:=HG a2;refine⟨ad,F,_,_,_,_,tT,tU,qk,iE,_,a5,λEp nu AC uP tQ=>?_⟩;have BV:=tQ.size;have ut:=t.o0 tQ;have L7:I (i++(pV xs p.ini::(xY (B.take cc)).map λc=>pV xs c.ini))=I i+1+dx (B.take cc):=by
    rw[aO,ba,bJ,zn];omega
   have wd:I (d++(pV xs p.dft::(xY (B.take cc)).map λc=>pV xs c.dft))=I d+1+dx (B.take cc):=by
    rw[aO,ba,bJ,zn];omega
   have AT:I (r++(zT xs (I i) 0 p.mv++nt xs (I i+1) (B.take cc)))<=I r+(wO p+iZ (B.take cc)):=by
    have:=HH xs (B.take cc) (I i+1);rw[aO,aO,mO];omega
   refine(adF m A (b+1) ((cA aL (b+1)).keep q λk _ W=>tQ.block k W aaV) hG ut J (by rw[L7];omega) (by rw[L7,wd];omega) J).mono ?_;rintro _ pK ⟨rfl,ti,td,tr,rx,tO⟩;have BY:=tO.1.size;have AS:=ut.q3;have As:=cC a;refine⟨rfl,tO.1.same λx hx=>?_,kv-1,J,cc+1,ti,td,tr,aaA,J,J,?_,(a.cn tQ).trans tO⟩
   ·simp only[aY,bA,cf]at hx;rcases hx with rfl | rfl
    ·exact⟨J,λc=>c.elim J As⟩
    exact⟨uP,λc=>c.elim J λc=>by have:=t.q3 _ c;omega⟩
   have e:B.take (cc+1)=B.take cc++[y]:=ahH
   rw[L7]at rx;rw[e,HF,xY,xY,bG,DK,nt,nt,bG,cp,cp,<-bC (zT xs (I i) 0 p.mv),<-bC r];rw[bC,bC,ca,ca]at rx;exact rx
  have T:=aQ T;have lc:cc=I B:=J
  subst lc;rw[bp (aX _)]at t;refine⟨rfl,qi,qd,qr,?_,uY.of0 R a⟩;rw[DJ,FH,bQ,bQ];exact t
end
structure PlR (w:M) (F:aJ) (s si sd sr:Sl) (p:Pl):Prop where
 sp:aA tA 5 w F s p.sp
 ini:aA iM 1 w F si p.ini
 dft:aA iM 1 w F sd p.dft
 ro:aA rRo 7 w F sr p.ro
def PlR.o0{w b:M}{F:aJ}{s i sd sr:Sl}{p:Pl}(h:PlR w F s i sd sr p)(a:Z [] w b):PlR b F s i sd sr p:=
 ⟨SliceF.only dI X h.sp a aaV,SliceF.only cK X h.ini a aaV,SliceF.only cK X h.dft a aaV,SliceF.only kz X h.ro a aaV⟩
def V9{c:Ch}(h:(ji c).1=0):ji c=(0,0):=by
 obtain⟨a,b⟩:=oL h;unfold ji;rw[aR (λe=>e a),b];rfl
structure PlO (w0 w:M) (s si sd sr:Sl) (p:Pl):Prop where
 sp:Sh w (λk=>w0.heap.size<=k) 59 5 s
 ro:Sh w (λk=>w0.heap.size<=k) 57 7 sr
 own:∃B,w0.heap.size<=B/\gn B w si p.ini/\gn B w sd p.dft
 ap:∀k,fE si k->¬fE sd k
def aaX{w:M}{F:aJ}{a:Nat}{c:Ch}{v:Sl}{g:aI}(hx:ChR aL (a+1) w F c v g)(m:Mb c)(o:nr c.vars+lf c.root<=8388608)(j:Er w)(T:Tb w):
  az Q 13 #[ah (v.v::g).toArray] w λe d=>(∃s i sd sr:Sl,e=ak (ai #[ah #[s.v,i.v,sd.v,sr.v],ah #[O U (ji c).1,O U (ji c).2]])/\((ji c).1=0->PlR d (λk=>w.heap.size<=k) s i sd sr (uQ c)/\PlO w d s i sd sr (uQ c))/\((ji c).1≠0->s=Sl.nil/\i=Sl.nil/\sd=Sl.nil/\sr=Sl.nil))/\Z [] w d:=by
 obtain⟨n,t,mv,kids,z,_⟩:=hx.root;subst z;refine iW (aqG _ _ _ _ _ _ _ _ _ _ ?_);intro k0 p q w0 fT Y mA jS qF rn D;have z0:=D.size;have keep:∀{y:M},Z [] w y->ChR aL (a+1) y F c v (od c.root.b.k c.root.b.nm c.root.b.ini c.root.b.dft n t mv kids c.root.b.a):=λl=>⟨hx.vars.keep fh X λk _ b=>l.block k b aaV,(cA aL _).keep hx.root λk _ b=>l.block k b aaV⟩
 refine(KB (keep D) m o (j.only D) (T.only D)).mono ?_;rintro _ w1 ⟨rfl,E⟩;have z1:=E.size;have u:=D.cn E;refine⟨_,_,rfl,E.same aba,λhc k3 w2 xF sA R A B C H N P=>?_,λhc k4 r f uT S rk V W=>?_⟩
 ·have hc:(ji c).1≠0:=abv
  refine⟨λk=>k=k3,rfl,λh=>N h,λh=>P h,λs e=>⟨⟨Sl.nil,Sl.nil,Sl.nil,Sl.nil,rfl,λh=>absurd h hc,λ_=>⟨rfl,rfl,rfl,rfl⟩⟩,(u.cn R).trans e λx hx=>.inr abH⟩⟩
 have hc:(ji c).1=0:=abv
 have hp:=(oL hc).1;have aS:=wQ hp;have z4:=W.size;have o4:=u.cn W;refine(VL (keep o4) m o (j.only o4) (T.only o4)).mono ?_;rintro _ w5 ⟨⟨s,rfl,h1,_⟩,eW⟩;have hS:=h1 hp;have z5:=eW.size;have o5:=o4.cn eW;refine⟨s,_,rfl,eW.same aba,λw6 dY Ra A B C H=>?_⟩;have z6:=dY.size;have o6:Z [] w w6:=o5.trans dY λx hx=>.inr abF;have aC:mz aL (a+1) w6 (λk=>k<w.heap.size) c.root (od c.root.b.k c.root.b.nm c.root.b.ini c.root.b.dft n t mv kids c.root.b.a):=
  (cA aL _).keep ((cA aL _).mono ((cA aL _).inHeap hx.root) λk hk=>hk.2) λk _ b=>o6.block k b aaV
 have S8:aA tA 5 w6 (λk=>f.heap.size<=k/\k<w5.heap.size) s (dz c):=SliceF.only dI X ((SliceF.inHeap dI (hS.slice dI) X).mono dI λk hk=>⟨(hk.1.resolve_left id).1,hk.2⟩) dY λk hk _ hm=>acn
 have Yu:∀k,¬Q3 Sl.nil Sl.nil Sl.nil k:=λk hk=>by rcases hk with hk | hk | hk<;>cases hk
 have am:La w6 r (λk=>f.heap.size<=k/\k<w5.heap.size) s Sl.nil Sl.nil Sl.nil (dz c) [] [] []:=⟨⟨S8,λk hk=>⟨J,J,Yu k⟩,Own.nil _ _ _ _ _ _,Own.nil _ _ _ _ _ _,Own.nil _ _ _ _ _ _,λk h=>abG,λk h=>abG⟩,Ra⟩
 have fi:I (dz c)=iB c.root:=aew
 refine(adF (yV c) J (a+1) aC (λk hk=>J) am J ack rfl ack).mono ?_;rintro _ w7 ⟨rfl,i,sd,sr,e,m7⟩;have z7:=m7.1.size;refine⟨rfl,m7.1.same λx hx=>?_,s,i,sd,sr,e.blk,λw8 fy xE=>⟨⟨s,i,sd,sr,by rw[V9 hc],λ_=>⟨?_,?_⟩,λh=>absurd hc h⟩,?_⟩⟩
 ·simp only[aY,bA,cf]at hx;refine⟨J,λh=>h.elim J (Yu x)⟩
 ·have kp:∀k,k<w7.heap.size->k∉[q,p]->w8.heap[k]? =w7.heap[k]? :=λk h1 h=>fy.block k h1 h;simp only[cb]at e;rw[show([]:List Int).length=0 from rfl]at e;refine⟨(e.sp.keep dI X λk hk b=>kp k b aba).mono dI λk hk=>J,((e.i.slice cK).keep cK X λk hk b=>kp k b ?_).mono cK λk hk=>?_,((e.d.slice cK).keep cK X λk hk b=>kp k b ?_).mono cK λk hk=>?_,((e.r.slice kz).keep kz X λk hk b=>kp k b ?_).mono kz λk hk=>?_⟩
  ·have:=hk.resolve_left id;simp;omega
  ·have:=hk.resolve_left id;omega
  ·have:=hk.resolve_left id;simp;omega
  ·have:=hk.resolve_left id;omega
  ·rcases hk with hk | hk
   ·have:=hk.1;simp;omega
   simp;omega
  rcases hk with hk | hk
  ·have:=hk.1;omega
  omega
 ·have kp:∀k,k<w7.heap.size->k∉[q,p]->w8.heap[k]? =w7.heap[k]? :=λk h1 h2=>fy.block k h1 h2;simp only[cb]at e;have hR:Sh w5 (λk=>f.heap.size<=k/\k<w5.heap.size) 59 5 s:=hS.roC λG x=>hS.blk x;refine⟨(((hR.keep λk hk c=>dY.block k c aba).keep λk hk c=>m7.1.block k c λh=>h.elim J (Yu k)).keep λk hk c=>kp k c aba).imp λk hk _=>J,((e.r.roC λG x=>e.br G x).keep λk hk c=>kp k c aba).imp λk hk _=>J,⟨r+1,J,e.i.keep cK λk hk c=>kp k c ?_,e.d.keep cK λk hk c=>kp k c ?_⟩,λk hk=>(e.ap k hk).1⟩
  ·have:=hk.resolve_left id;simp;omega
  have:=hk.resolve_left id;simp;omega
 refine((o6.oQ (m7.1.mono (G:=λk=>w.heap.size<=k) λk _ hk=>hk.elim J λh=>absurd h (Yu k))).only λk hk=>hk).trans fy λx hx=>.inr abH
def af1{w:M}{F:aJ}{D:Nat}{c:Ch}{v:Sl}{a:aI}(x:ChR aL (D+1) w F c v a)(n:Mb c)(j:nr c.vars+lf c.root<=8388608)(E:Er w)(T:Tb w):
  az Q 13 #[ah (v.v::a).toArray] w λe b=>(∃s i sd sr:Sl,e=ak (ai #[ah #[s.v,i.v,sd.v,sr.v],ah #[O U (ji c).1,O U (ji c).2]])/\((ji c).1=0->PlR b (λk=>w.heap.size<=k) s i sd sr (uQ c)))/\Z [] w b:=
 (aaX x n j E T).mono λ_ _ ⟨⟨s,i,sd,sr,d,f,_⟩,h⟩=>⟨⟨s,i,sd,sr,d,λg=>(f g).1⟩,h⟩
end
end Go.Proofs.YtfemabakfkliiaaGreatDoor.Con
namespace Go.Proofs.YtfemabakfkliiaaGreatDoor.Con
open Go Go.RowKit Go.Kt Go.Kt.V
def Kc(x:List dN)(d:Int)(c:Nat):Prop:=∃t,x[c]? =aM t/\t.pa=d
def Sb(s:List dN)(d:Int)(x:Nat):Prop:=d<x/\x<I s/\(d= -1∨∃k:Nat,d=k/\tq s k x)
def SS(s:List dN)(x:Nat):Prop:=∃t,s[x]? =aM t/\(t.k=1∨t.k=2)
def DL(x:List dN)(S:aJ)(d:Int):Prop:=∀c a,Kc x d c->Kc x d a->S c->S a->c=a
section
variable {xs:List dN} (F:Fo xs) {d d':Int} {c c' k n x:Nat} {t:dN} {D:Int->Prop} {S G:aJ}
include F
theorem Fo.Xt(a:Kc xs d c):Sb xs d c:=by
 obtain⟨t,h,rfl⟩:=a;have l:=iw h;by_cases b:0<c
 ·obtain⟨p,s,e,g,c,_,d,_⟩:=F.par h b;exact⟨J,l,.inr ⟨p,g,s,c,J,d⟩⟩
 have:c=0:=J
 subst this;have:=(F.rt t h).1;exact⟨J,l,.inl this⟩
end
def kd(x:List dN)(i:Int):Int:=((x[i.toNat]?).map λs:dN=>s.k).getD 0
def KI{x:List dN}{i:Nat}{s:dN}(h:x[i]? =aM s):kd x (i:Int)=s.k:=by
 unfold kd;rw[aW,h];rfl
def IC(k:Int):Bool:=(k==1)||(k==2)
def oe(x:List dN)(n:Nat):List Int:=(j6 x n (I x)).filter λk=>IC (kd x k)
structure Sd (xs:List dN):Prop where
 fo:Fo xs
 le:I xs<=64
 kn:∀(i:Nat) (s:dN),xs[i]? =aM s->1<=s.k/\s.k<=4
 rt:∃s,xs[0]? =aM s/\s.k=1
 pr:∀(i:Nat) (s:dN),xs[i]? =aM s->s.k=2->oe xs i≠[]
def KJ{x:List dN}{i n:Nat}{k:Int}:k∈j6 x i n↔∃(q:Nat) (t:dN),k=q/\q<n/\x[q]? =aM t/\t.pa=i:=by
 unfold j6;rw[eZ];constructor
 ·rintro⟨q,h,rfl⟩;rw[mX,kg]at h;have:=aN h.2;rcases hx:x[q]? with _|t
  ·rw[hx]at this;cases this
  rw[hx]at this;injection this with this;exact⟨q,t,rfl,h.1,hx,this⟩
 rintro⟨q,t,rfl,h,a,b⟩;exact⟨q,by rw[mX,kg];exact⟨h,bE (by rw[a];exact bZ aM b)⟩,rfl⟩
def nT{x:List dN}{i:Nat}{k:Int}:k∈oe x i↔∃(q:Nat) (t:dN),k=q/\x[q]? =aM t/\t.pa=i/\IC t.k=L:=by
 unfold oe;rw[mX,KJ];constructor
 ·rintro⟨⟨q,t,rfl,_,h,b⟩,a⟩;rw[KI h]at a;exact⟨q,t,rfl,h,b,a⟩
 rintro⟨q,t,rfl,h,a,b⟩;exact⟨⟨q,t,rfl,iw h,h,a⟩,by rw[KI h];exact b⟩
def FI(x:List dN)(i:Nat):(oe x i).Pairwise (· <·):=(A8 x i (I x)).1.filter _
def Wa(x:List dN)(i:Nat):I (oe x i)<=I x:=by
 unfold oe;refine bH (gM _ _) ?_;unfold j6;rw[bJ];exact bH (gM _ _) agr
def zq:∀{l m:List Int},l.Pairwise (· <·)->m.Pairwise (· <·)->(∀x,x∈l↔x∈m)->l=m
 | [],[],_,_,_=>rfl
 | [],y::m,_,_,h=>absurd ((h y).2 (.head _)) aaV
 | x::l,[],_,_,h=>absurd ((h x).1 (.head _)) aaV
 | x::l,y::m,h,a,b=>by
  rw[List.pairwise_cons]at h a;have c:x=y:=by
   have e:=(b x).1 (.head _);have f:=(b y).2 (.head _);rw[aY]at e f;rcases e with e | e
   ·exact e
   rcases f with f | f
   ·exact f.symm
   have:=h.1 y f;have:=a.1 x e;omega
  subst c;rw[zq h.2 a.2 λz=>?_];have d:=b z;rw[aY,aY]at d;constructor
  ·intro f;rcases d.1 (.inr f)with e | e
   ·subst e;exact absurd (h.1 z f) J
   ·exact e
  ·intro f;rcases d.2 (.inr f)with e | e
   ·subst e;exact absurd (a.1 z f) J
   ·exact e
def KK(n:Nat)(p:Nat->Bool):List Int:=((List.range n).filter p).map λk:Nat=>(k:Int)
def KL(n:Nat)(p:Nat->Bool):KK (n+1) p=KK n p++if p n then[(n:Int)]else[]:=by
 unfold KK;rw[List.range_succ,gZ,cp];cases h:p n<;>simp[h]
def Qi(n:Nat)(p:Nat->Bool):I (KK n p)<=n:=by
 unfold KK;rw[bJ];exact bH (gM _ _) agr
def HI{n:Nat}{p:Nat->Bool}{x:Int}:x∈KK n p↔∃k:Nat,x=k/\k<n/\p k=L:=by
 unfold KK;rw[eZ];constructor
 ·rintro⟨k,hk,rfl⟩;rw[mX,kg]at hk;exact⟨k,rfl,hk⟩
 rintro⟨k,rfl,hk⟩;exact⟨k,by rw[mX,kg];exact hk,rfl⟩
def Wb(n:Nat)(p:Nat->Bool):(KK n p).Pairwise (· <·):=by
 unfold KK;rw[List.pairwise_map];refine List.Pairwise.imp (R:=(· <·)) (λh=>J) ?_;exact List.Pairwise.filter _ List.pairwise_lt_range
def lvP(x:List dN)(act:List Int)(n:Nat):Bool:=decide ((n:Int)∈act)&&(kd x n==1)&&(I (oe x n)==0)
def lvs(x:List dN)(act:List Int):List Int:=KK (I x) (lvP x act)
def YX(x:List dN)(act:List Int)(n:Nat):Nat:=(oe x n).countP λr=>decide (r∈act)
def Si(x:List dN)(act:List Int)(n:Nat):Bool:=if kd x n=2 then YX x act n==I (oe x n) else YX x act n==min 1 (I (oe x n))
structure acq (xs:List dN) (act:List Int) (x:Int):Prop where
 ge:0<=x
 lt:x<I xs
 st:IC (kd xs x)=L
 up:x=0∨∀s,xs[x.toNat]? =aM s->s.pa∈act
 on:Si xs act x.toNat=L
structure Lg (xs:List dN) (act:List Int):Prop where
 rt:(0:Int)∈act
 rise:act.Pairwise (· <·)
 at_:∀x,x∈act->acq xs act x
end Go.Proofs.YtfemabakfkliiaaGreatDoor.Con
namespace Go.Proofs.YtfemabakfkliiaaGreatDoor.Con
open Go Go.RowKit Go.Kt Go.Kt.V Go.Proofs.YtfemabakfkliiaaGreatDoor.Vc
def DM(n:Int):Nat:=if 0<=n/\n<=63 then 2 ^ n.toNat else 0
def Tp(m:Nat)(n:Int):Nat:=m||| DM n
def pI(l:List Int):Nat:=l.foldl Tp 0
def KM(n:Int)(i:Nat):(DM n).testBit i=decide (i<64/\n=i):=by
 unfold DM;split
 ·rw[Nat.testBit_two_pow,je];omega
 rw[kc];exact(bD J).symm
def wT(n:Int):DM n<2 ^ 64:=by
 unfold DM;split
 ·exact Nat.pow_lt_pow_right X J
 decide
def DN:∀(l:List Int) (m i:Nat),(l.foldl Tp m).testBit i=(m.testBit i||decide (i<64/\(i:Int)∈l))
 | [],m,i=>aaV
 | n::l,m,i=>by
  rw[YK,DN l,Tp,Nat.testBit_or,KM,Bool.or_assoc];congr 1;rw[<-Bool.decide_or,je,aY];constructor
  ·rintro(⟨h,rfl⟩ | ⟨h,a⟩)
   ·exact⟨h,.inl rfl⟩
   exact⟨h,.inr a⟩
  rintro⟨a,h | h⟩
  ·exact .inl ⟨a,h.symm⟩
  exact .inr ⟨a,h⟩
def wU(l:List Int)(i:Nat):(pI l).testBit i=decide (i<64/\(i:Int)∈l):=by
 unfold pI;rw[DN,kc,qc]
def asi{x:Nat}(h:∀i,x.testBit i=L->i<64):x<2 ^ 64:=Nat.lt_pow_two_of_testBit x λi b=>by
 cases a:x.testBit i
 ·rfl
 have:=h i a;omega
def Qj(l:List Int){m:Nat}(a:m<2 ^ 64):l.foldl Tp m<2 ^ 64:=asi λi h=>by
 rw[DN,cu,bF]at h;rcases h with h | h
 ·refine AW λs=>?_;rw[BJ (cH a (E2 X s))]at h;cases h
 exact h.1
def zr(l:List Int):pI l<2 ^ 64:=Qj l X
def iI(x:Nat):List Int:=KK 64 λi=>x.testBit i
def j9{x:Nat}{n:Int}:n∈iI x↔∃k:Nat,n=k/\k<64/\x.testBit k=L:=HI
def qS(x:Nat):(iI x).Pairwise (· <·):=Wb _ _
def Ar(x:Nat):I (iI x)<=64:=Qi _ _
def Nn{x:Nat}(a:x<2 ^ 64):pI (iI x)=x:=jo λi=>by
 rw[wU];by_cases h:i<64
 ·cases b:x.testBit i
  ·refine bD λm=>?_;obtain⟨k,hk,_,c⟩:=j9.1 m.2;have:k=i:=J
   rw[this,b]at c;cases c
  exact bE ⟨h,j9.2 ⟨i,rfl,h,b⟩⟩
 rw[BJ (cH a (E2 X (jd h)))];exact bD λm=>h m.1
def KN{x:Nat}(c:x≠0)(a:x<2 ^ 64):x.testBit (Go.Lib.ctz 64 x)=L/\Go.Lib.ctz 64 x<64/\(∀i,i<Go.Lib.ctz 64 x->x.testBit i=aL)/\∀i,(x&&& (x-1)).testBit i=(x.testBit i&&decide (i≠Go.Lib.ctz 64 x)):=by
 obtain⟨m,h,g⟩:=Go.Lib.ctzFrom_spec 64 x (LO c) a;have e:Go.Lib.ctz 64 x=Go.Lib.ctzFrom 64 x:=by unfold Go.Lib.ctz;rw[aR c]
 rw[e];generalize Go.Lib.ctzFrom 64 x=k at*
 have p:0<2 ^ k:=Nat.pow_pos X;have f:∀i,i<k->x.testBit i=aL:=λi b=>by
  rw[h,Nat.mul_comm,Nat.testBit_mul_two_pow,bD J,cV]
 have hk:x.testBit k=L:=by
  rw[h,Nat.mul_comm,Nat.testBit_mul_two_pow,bE (aX _),lr,cm];simp
 refine⟨hk,g,f,λi=>?_⟩;rw[mY];rcases Nat.lt_trichotomy i k with b | rfl | b
 ·rw[f i b,cV,cV]
 ·rw[hk,cm,cm,bD (λa=>a rfl)];have e:(x-1)/2 ^ i=2*m:=by
   rw[h,Nat.mul_add,lq,Nat.add_sub_assoc p];rw[Nat.mul_add_div p,Tf J,eE]
  rw[fX,e];exact bD J
 rw[bE (by omega:i≠k),dK];obtain⟨d,rfl⟩:∃d,i=k+(1+d):=⟨i-k-1,J⟩
 have e:x/2 ^ (k+(1+d))=m/2 ^ d:=by
  rw[Ti,<-ru,Ti,<-ru,h,Nat.mul_div_cancel_left _ p];congr 1;omega
 have j:(x-1)/2 ^ (k+(1+d))=m/2 ^ d:=by
  rw[Ti,<-ru,Ti,<-ru,h,Nat.mul_add,lq,Nat.add_sub_assoc p,Nat.mul_add_div p,Tf (by omega:2 ^ k-1<2 ^ k),eE];congr 1;omega
 rw[fX,fX,e,j,Bool.and_self]
def af2{x:Nat}(h:x≠0):x&&& (x-1)<x:=xu oZ J
def Np{x:Nat}(b:x≠0)(a:x<2 ^ 64):iI x=(Go.Lib.ctz 64 x:Int)::iI (x&&& (x-1)):=by
 obtain⟨c,d,e,h⟩:=KN b a;refine zq (qS x) ?_ λn=>?_
 ·rw[List.pairwise_cons];refine⟨λn g=>?_,qS _⟩;obtain⟨k,rfl,hk,f⟩:=j9.1 g;rw[h,aU,bF]at f;have:¬k<Go.Lib.ctz 64 x:=λl=>by rw[e k l]at f;cases f.1
  omega
 rw[aY,j9,j9];constructor
 ·rintro⟨k,rfl,hk,g⟩;by_cases f:k=Go.Lib.ctz 64 x
  ·exact .inl (by rw[f])
  exact .inr ⟨k,rfl,hk,by rw[h,g,bE f,Bool.and_self]⟩
 rintro(rfl | ⟨k,rfl,hk,f⟩)
 ·exact⟨_,rfl,d,c⟩
 rw[h,aU]at f;exact⟨k,rfl,hk,f.1⟩
def af3(x:List dN)(S n:Nat):Prop:=(kd x n=2->∀r,r∈oe x n->S.testBit r.toNat=L)/\(kd x n=1->oe x n=[]∨∃r,r∈oe x n/\S.testBit r.toNat=L)
def af3.mono{x:List dN}{S a n:Nat}(b:af3 x S n)(s:∀m,S.testBit m=L->a.testBit m=L):af3 x a n:=
 ⟨λe r h=>s _ (b.1 e r h),λe=>(b.2 e).imp id λ⟨r,h,c⟩=>⟨r,h,s _ c⟩⟩
def HJ(x:List dN)(i:Nat):Nat:=pI (KK (I x) λk=>decide (k<i)&&M6 x k i)
def dnK(x:List dN)(i:Nat):Nat:=pI (KK (I x) λk=>decide (i<k)&&M6 x i k)
def Wc(x:List dN)(i:Nat):Nat:=pI (oe x i)
def HK(m n i:Nat)(h:n<64):(Tp m n).testBit i=(m.testBit i||decide (n=i)):=by
 unfold Tp;rw[Nat.testBit_or,KM];congr 1;rw[je];omega
section
variable {xs:List dN} (F:Fo xs) (hl:xs.length<=64)
include F hl
theorem Qk{p:Nat->Bool}{k:Nat}:(pI (KK (I xs) p)).testBit k=(decide (k<I xs)&&p k):=by
 rw[wU];cases h:(decide (k<I xs)&&p k)with
 | true=>
  rw[aU,bF]at h;exact bE ⟨J,HI.2 ⟨k,rfl,h⟩⟩
 | false=>
  refine bD λ⟨_,m⟩=>?_;obtain⟨q,e,a,p⟩:=HI.1 m;have:q=k:=J
  subst this;rw[bE a,p]at h;cases h
theorem zu{i k:Nat}:(HJ xs i).testBit k=L↔k<i/\tq xs k i:=by
 unfold HJ;rw[Qk F hl,aU,aU,bF,bF,tu];exact⟨λh=>h.2,λh=>⟨by obtain⟨_,_,e,_⟩:=h;exact iw e,h⟩⟩
theorem aaY{i k:Nat}:(dnK xs i).testBit k=L↔i<k/\tq xs i k:=by
 unfold dnK;rw[Qk F hl,aU,aU,bF,bF,tu];exact⟨λh=>h.2,λh=>⟨F.NQ h.2,h⟩⟩
theorem zv{i k:Nat}:(Wc xs i).testBit k=L↔(k:Int)∈oe xs i:=by
 unfold Wc;rw[wU,bF];refine⟨λh=>h.2,λh=>⟨?_,h⟩⟩;obtain⟨q,t,e,a,_⟩:=nT.1 h;have:=iw a;omega
theorem Wd:HJ xs 0=0:=jo λk=>by
 rw[kc,eF,Ne,zu F hl];omega
theorem aaZ{i p:Nat}{t:dN}(h:xs[i]? =aM t)(m:t.pa=p):HJ xs i=Tp (HJ xs p) p:=jo λk=>by
 have l:=iw h;have g:0<i:=by
  refine LO λe=>?_;subst e;have:=(F.rt t h).1;omega
 obtain⟨q,s,a,j,b,_,d,f⟩:=F.par h g;have:q=p:=J
 subst this;have c:tq xs q i:=⟨s,b,J,d⟩
 rw[HK _ _ _ J,bM,cu,bF,zu F hl,zu F hl];constructor
 ·rintro⟨o,u,e,r,n⟩;have:=f k u e o n;by_cases p:q=k
  ·exact .inr p
  exact .inl ⟨J,F.NR ⟨u,e,r,n⟩ c this⟩
 rintro(⟨k,e⟩ | rfl)
 ·exact⟨J,F.Ih e c⟩
 exact⟨a,c⟩
def LW(x:List dN)(i:Nat):Nat->Nat
 | 0=>0
 | k+1=>if i<k/\M6 x i k=L then Tp (LW x i k) k else LW x i k
def Ql(x:List dN)(i:Nat):Nat->Nat
 | 0=>0
 | k+1=>if(k:Int)∈oe x i then Tp (Ql x i k) k else Ql x i k
theorem Qm{i:Nat}:∀(n:Nat),n<=(I xs)->∀k,(LW xs i n).testBit k=L↔k<n/\i<k/\tq xs i k
 | 0,_,k=>by unfold LW;rw[kc];exact⟨λh=>abG,λh=>J⟩
 | n+1,h,k=>by
  unfold LW;have d:=Qm (i:=i) n J k;split
  ·rename_i h;rw[HK _ _ _ J,cu,d,bF];constructor
   ·rintro(⟨a,b⟩ | rfl)
    ·exact⟨J,b⟩
    exact⟨J,h.1,tu.1 h.2⟩
   rintro⟨a,b⟩;by_cases e:n=k
   ·exact .inr e
   exact .inl ⟨J,b⟩
  rename_i h;rw[d];refine⟨λ⟨a,b⟩=>⟨J,b⟩,λ⟨a,b,c⟩=>⟨?_,b,c⟩⟩;by_cases e:n=k
  ·subst e;exact absurd ⟨b,tu.2 c⟩ h
  omega
theorem Qn{i:Nat}:∀(n:Nat),n<=(I xs)->∀k,(Ql xs i n).testBit k=L↔k<n/\(k:Int)∈oe xs i
 | 0,_,k=>by unfold Ql;rw[kc];exact⟨λh=>abG,λh=>J⟩
 | n+1,h,k=>by
  unfold Ql;have c:=Qn (i:=i) n J k;split
  ·rename_i h;rw[HK _ _ _ J,cu,c,bF];constructor
   ·rintro(⟨a,b⟩ | rfl)
    ·exact⟨J,b⟩
    exact⟨J,h⟩
   rintro⟨a,b⟩;by_cases e:n=k
   ·exact .inr e
   exact .inl ⟨J,b⟩
  rename_i h;rw[c];refine⟨λ⟨a,b⟩=>⟨J,b⟩,λ⟨a,b⟩=>⟨?_,b⟩⟩;by_cases e:n=k
  ·subst e;exact absurd b h
  omega
theorem aa0{i n:Nat}{t:dN}(h:xs[i]? =aM t)(e:t.en=n):LW xs i n=dnK xs i:=jo λk=>by
 have s:=(F.up i t h).2;rw[bM,Qm F hl n J,aaY F hl];refine⟨λh=>h.2,λ⟨a,b,u,c,d⟩=>⟨?_,a,b,u,c,d⟩⟩;rw[h,bN]at u;subst u;omega
theorem aa1{i n:Nat}{t:dN}(h:xs[i]? =aM t)(g:t.en=n):Ql xs i n=Wc xs i:=jo λk=>by
 have s:=(F.up i t h).2;rw[bM,Qn F hl n J,zv F hl];refine⟨λh=>h.2,λa=>⟨?_,a⟩⟩;obtain⟨q,u,e,c,d,_⟩:=nT.1 a;have:q=k:=J
 subst this;obtain⟨_,_,f | ⟨m,e,v,b,j,l⟩⟩:=F.Xt ⟨u,c,d⟩
 ·omega
 have:m=i:=J
 subst this;rw[h,bN]at b;subst b;omega
theorem FJ{i:Nat}:∀n,n<=i+1->LW xs i n=0
 | 0,_=>rfl
 | n+1,h=>by unfold LW;rw[aR J,FJ n J]
theorem FK{i:Nat}:∀n,n<=i+1->n<=(I xs)->Ql xs i n=0
 | 0,_,_=>rfl
 | n+1,b,c=>by
  unfold Ql;rw[aR,FK n J J];intro m;obtain⟨q,u,e,h,a,_⟩:=nT.1 m;have:=(F.Xt ⟨u,h,a⟩).1;omega
end
def We{s}(h:dP s=L):s≠[]:=λe=>by subst e;exact absurd h X
mutual
def Au:Nd->List Nd
 | .mk b l=>.mk b l::yq l
def yq:List Nd->List Nd
 | []=>[]
 | x::l=>Au x++yq l
end
mutual
def zw:∀x,I (Au x)=iB x
 | .mk b l=>by rw[Au,iB,ba,HL]
def HL:∀l,I (yq l)=dx l
 | []=>by rw[yq,dx];rfl
 | x::l=>by rw[yq,dx,aO,zw,HL]
end
mutual
def adH:∀x,(Au x).map (λy=>y.b)=DJ x
 | .mk b l=>by rw[Au,DJ,bQ,adI];rfl
def adI:∀l,(yq l).map (λy=>y.b)=xY l
 | []=>by rw[yq,xY];rfl
 | x::l=>by rw[yq,xY,cp,adH,adI]
end
def af4(s:List dN)(v:List (aH))(a:Nat)(x:Nd):Prop:=∃b p,rU s (Bt a b p x) a/\uX s x.b x.kids a=[]/\(∀m,m∈x.b.mv->B1 s v m=[])/\uq x.b (I x.kids)=L/\∀y,y∈x.kids->∃d,lY d y=L
section
variable {xs:List dN} {vs:List (aH)}
def FL:∀{l:List Nd} {d:Nat} {y:Nd},jP d l=L->y∈l->lY d y=L
 | [],_,_,_,h=>abG
 | x::l,d,y,h,a=>by
  rw[jP,aU]at h;rcases aY.1 a with rfl | a
  ·exact h.1
  exact FL h.2 a
mutual
def Qo:∀(x:Nd) (a d:Nat) (c p:Int),LV xs vs a x=[]->lY d x=L->rU xs (Bt a c p x) a->∀i y,(Au x)[i]? =aM y->af4 xs vs (a+i) y
 | .mk b l,a,d,c,p,f,H,s,i,y,h=>by
  rw[LV]at f;obtain⟨j,g⟩:=fg.1 f;obtain⟨g,e⟩:=fg.1 g;obtain⟨e,m⟩:=fg.1 e;rw[lY,aU,aU]at H;obtain⟨⟨_,n⟩,k⟩:=H;rw[Au]at h;cases i with
  | zero=>
   rw[cw,bN]at h;subst h;exact⟨c,p,s,j,λb a=>List.flatMap_eq_nil_iff.1 e b a,n,λy h=>⟨d+1,FL k h⟩⟩
  | succ i=>
   rw[cO]at h;rw[Bt]at s;have F:rU xs (qE (a+1) a (p+1) l) (a+1):=λi x b=>by rw[dB,fV 1 i];exact s (i+1) x b
   have:=KO l (a+1) (d+1) a (p+1) m k F i y h;rwa[dB,fV 1 i]at this
def KO:∀(l:List Nd) (a d:Nat) (b p:Int),pF xs vs a l=[]->jP d l=L->rU xs (qE a b p l) a->∀i y,(yq l)[i]? =aM y->af4 xs vs (a+i) y
 | [],_,_,_,_,_,_,_,i,y,h=>by rw[yq]at h;simp at h
 | x::l,a,d,b,p,c,k,s,i,y,h=>by
  rw[pF]at c;obtain⟨e,f⟩:=fg.1 c;rw[jP,aU]at k;rw[qE]at s;rw[yq]at h;have E:=zw x;by_cases g:i<iB x
  ·rw[bX J]at h;exact Qo x a d b p e k.1 s.left i y h
  rw[cd J,E]at h;have r:=s.right;rw[lz]at r;have:=KO l (a+iB x) d b p f k.2 r _ y h;rwa[show a+iB x+(i-iB x)=a+i by omega]at this
end
def KP{y}{pa dp}:∀{l:List Nd} a,y∈l->∃(j:Nat) (t:dN),(qE a pa dp l)[j]? =aM t/\t.pa=pa/\t.k=y.b.k
 | [],_,h=>abG
 | .mk b k::l,a,h=>by
  rw[qE];rw[aY]at h;rcases h with rfl | h
  ·exact⟨0,_,rfl,rfl,rfl⟩
  obtain⟨j,t,c,d⟩:=KP _ h;exact⟨I (Bt a pa dp (.mk b k))+j,t,by rw[cd J,dG];exact c,d⟩
end
structure Snd (c:Ch) (xs:List dN) (vs:List (aH)):Prop where
 fo:Fo xs
 le:I xs<=64
 len:I xs=iB c.root
 nd:(xs.map λx:dN=>x.nm).Nodup
 rt:c.root.b.k=1
 nice:∀i y,(Au c.root)[i]? =aM y->af4 xs vs i y
def Qp{c}(k:rl c=L)(d:za c=[]):Snd c (dz c) (Ko c):=by
 unfold rl at k;simp only[aU]at k;obtain⟨a,g⟩:=fg.1 d;obtain⟨g,b⟩:=fg.1 g;have h:=(FG a).1;rw[(Km 0 (-1) 0 c.root).symm]at h;have hd:=aN k.2;have f:I (dz c)=iB c.root:=lz 0 _ 0 c.root;refine⟨yV c,J,f,h,hd.1,λi y j=>?_⟩;have:=Qo c.root 0 0 _ 0 b k.1.2 (λi x e=>by rw[bS];exact e) i y j;rwa[bS]at this
def af5{c}(h:(ji c).1=0):Snd c (dz c) (Ko c):=Qp (Sf (oL h).1) (oL h).2
section
variable {c:Ch} {xs:List dN} {vs:List (aH)} (N:Snd c xs vs)
include N
theorem Snd.at_{i}{t}(h:xs[i]? =aM t):∃b l a p,(Au c.root)[i]? =aM (.mk b l)/\t=⟨b.k,b.nm,a,p,((i+iB (.mk b l):Nat))⟩/\rU xs (qE (i+1) i (p+1) l) (i+1)/\uX xs b l i=[]/\(∀m,m∈b.mv->B1 xs vs m=[])/\uq b (I l)=L/\∀y,y∈l->∃d,lY d y=L:=by
 have r:i<I (Au c.root):=by rw[zw,<-N.len];exact iw h
 obtain⟨y,g⟩:∃y,(Au c.root)[i]? =aM y:=⟨_,bh r⟩
 obtain⟨a,p,f,k,n,o,q⟩:=N.nice i y g;obtain⟨b,l⟩:=y;have e:=f 0 _ rfl;rw[eE,h,bN]at e;refine⟨b,l,a,p,g,?_,λj x s=>?_,k,n,o,q⟩
 ·rw[e];congr 1;rw[iB];omega
 have:=f (j+1) x s;rwa[show i+_=i+1+j by omega]at this
theorem Snd.kn{i:Nat}{t}(c:xs[i]? =aM t):1<=t.k/\t.k<=4:=by
 obtain⟨b,l,p,d,_,rfl,_,_,_,h,_⟩:=N.at_ c;dsimp only;unfold uq at h;by_cases a:iu b.k=L
 ·have:=aN a;omega
 rw[aR a]at h;simp only[aU]at h;have:=(aN h.2.1.1.1.1).1;omega
theorem Snd.hk(n k:Nat)(d:Kc xs n k):SS xs n:=by
 have h:=N.fo.Xt d;obtain⟨g,i,a⟩:=h;rcases a with a | ⟨m,e,f,u,j,c⟩
 ·omega
 have:m=n:=J
 subst this;refine⟨f,u,?_⟩;obtain⟨b,l,k,p,_,rfl,_,_,_,h,_⟩:=N.at_ u;dsimp only at c⊢;unfold uq at h;by_cases e:iu b.k=L
 ·rw[aV e]at h;simp only[aU]at h;have:=(aN h.2.2).2.2.2.2;have:=AX.1 this;subst this;rw[iB,dx]at c;omega
 rw[aR e]at h;simp only[aU]at h;exact(aN h.2.1.1.1.1).1
theorem Snd.abE{n}{l}{dp}(s:rU xs (qE (n+1) n (dp+1) l) (n+1))(c:0<Du l):oe xs n≠[]:=by
 obtain⟨y,h⟩:=List.exists_mem_of_length_pos c;obtain⟨h,a⟩:=mX.1 h;obtain⟨j,t,d,e,f⟩:=KP (pa:=n) (dp:=dp+1) _ h;have b:=s j t d;have:=N.kn b;have m:=nT.2 ⟨_,t,rfl,b,e,by
  unfold iu at a;rw[dr,dS]at a;unfold IC;rw[cu,db,db];omega⟩
 exact List.ne_nil_of_mem m
theorem Snd.sd:Sd xs:=by
 refine⟨N.fo,N.le,λi s h=>N.kn h,?_,λi s a hk=>?_⟩
 ·obtain⟨t,e⟩:=gj N.fo.ne;refine⟨t,e,?_⟩;obtain⟨b,l,k,p,d,rfl,_⟩:=N.at_ e;have r:=N.rt;generalize c.root=f at d r;obtain⟨g,j⟩:=f;rw[Au,cw,bN]at d;injection d with d;subst d;exact r
 obtain⟨b,l,e,p,_,rfl,d,c,_⟩:=N.at_ a;dsimp only at hk;unfold uX at c;rw[aR (by unfold iu;rw[hk];decide),aV hk]at c;have:=Hr.1 c;rw[aU,bF,bF]at this;exact N.abE d J
end
def Cn(x:List dN)(G:aJ):Prop:=∀(n:Nat) (t:dN) (c a g b:Nat),x[n]? =aM t->t.k=1->Kc x n c->Kc x n a->G g->G b->tq x c g->tq x a b->c=a
abbrev Mem:=Int->Option (List Int)
def adJ(x:List dN)(a:Mem):Prop:=∀(n:Nat) (t:dN) (l:List Int),x[n]? =aM t->iu t.k=L->a n=aM l->l≠[]/\(∀g,g∈l->∃k:Nat,g=k/\SS x k/\Sb x t.pa k)/\Cn x λk=>(k:Int)∈l
def adJ.none(x:List dN):adJ x λ_=>aaf:=λ_ _ _ _ _ h=>abG
section
variable {xs:List dN} (F:Fo xs) {l:List Int}
include F
theorem Qq:∀(f d:Nat),d<(I xs)->d<=f->(∀n,n∈l->∃k:Nat,n=k/\tq xs d k)->∃r:Nat,Aq xs l f d=r/\r<I xs/\(∀n,n∈l->∃k:Nat,n=k/\tq xs r k)/\(r=0∨jI xs r=1/\(r:Int)∉l)
 | 0,d,h,f,c=>⟨d,rfl,h,c,.inl J⟩
 | f+1,d,h,a,c=>by
  unfold Aq;by_cases hd:0<(d:Int)/\(jI xs d≠1∨(d:Int)∈l)
  ·rw[aV hd];obtain⟨t,d⟩:=gj h;obtain⟨p,s,l,g,b,_,i,_⟩:=F.par d J;rw[mG d,g];exact Qq f p (iw b) J λn j=>by
    obtain⟨k,e,hk⟩:=c n j;exact⟨k,e,F.Ih ⟨s,b,J,i⟩ hk⟩
  rw[aR hd];refine⟨d,rfl,h,c,?_⟩;by_cases b:d=0
  ·exact .inl b
  refine .inr ⟨?_,λh=>hd ⟨J,.inr h⟩⟩;exact yy.1 λh=>hd ⟨J,.inl h⟩
theorem aa2{a:Nat}{g:List Int}(b:a<I xs)(h:∀t,t∈g->xU xs t)(i:g≠[]):∃r:Nat,xX xs a g=r/\r<I xs/\(∀n,n∈(a:Int)::g->∃k:Nat,n=k/\tq xs r k)/\(r=0∨jI xs r=1/\(r:Int)∉(a:Int)::g):=by
 unfold xX mtM;rw[aR i,aR]
 ·rcases tD xs ((a:Int)::g) (I xs) with⟨_,c⟩ | ⟨q,d,e,f,j⟩
  ·have:=c 0 F.ne;rw[qw.2]at this
   ·cases this
   intro n k;rcases aY.1 k with rfl | k
   ·exact⟨a,rfl,F.zI b⟩
   obtain⟨a,l⟩:=h n k;exact⟨n.toNat,J,F.zI J⟩
  rw[d];exact Qq F _ q e J (qw.1 f)
 rintro(e | e)
 ·cases e
 obtain⟨n,a,c⟩:=oY.1 e;rw[dr,eF]at c;refine c (zm.2 ?_);rcases aY.1 a with rfl | a
 ·exact⟨J,J⟩
 exact h n a
end
section
variable {xs:List dN} (sd:Sd xs) {act:List Int} (A:Lg xs act)
include sd A
theorem adK:∀(x k:Nat),(x:Int)∈act->tq xs k x->(k:Int)∈act
 | x,k,a,h=>by
  by_cases e:k=x
  ·rw[e];exact a
  have W:k<x:=by obtain⟨_,_,m,_⟩:=h;omega
  obtain⟨_,l,_,g,_⟩:=A.at_ x a;obtain⟨t,b⟩:=gj (sd.fo.NQ h);obtain⟨p,s,j,c,d,_,f,i⟩:=sd.fo.par b J;rcases g with g | g
  ·omega
  have n:=g t (by rw[aW];exact b);rw[c]at n;obtain⟨u,o,r,q⟩:=h;have:=i k u o W q;exact adK p k n (sd.fo.NR ⟨u,o,r,q⟩ ⟨s,d,J,f⟩ this)
end
structure Ce where
 k:Int
 pa:Int
 up:Nat
 dn:Nat
 rg:Nat
 ini:Int
 dft:Int
 f0:Nat
 f1:Nat
def Wf(p:Pl)(a e:Nat)(b:Nb):Ce:=⟨b.k,M5 p.sp a,HJ p.sp a,dnK p.sp a,Wc p.sp a,(p.ini[a]?).getD 0,(p.dft[a]?).getD 0,e,e+I b.mv⟩
mutual
def YY:Nd->Nat
 | .mk b l=>I b.mv+uy l
def uy:List Nd->Nat
 | []=>0
 | x::l=>YY x+uy l
end
mutual
def Ts(p:Pl):Nat->Nat->Nd->List Ce
 | a,e,.mk b l=>Wf p a e b::qT p (a+1) (e+I b.mv) l
def qT(p:Pl):Nat->Nat->List Nd->List Ce
 | _,_,[]=>[]
 | a,e,x::l=>Ts p a e x++qT p (a+iB x) (e+YY x) l
end
def Qr(x:List dN)(r:Ro):Nat:=if 0<=r.dom then dnK x r.dom.toNat else 0
mutual
def Qs(s:List dN):∀(x:Nd) (a:Nat),I (FH s a x)=YY x
 | .mk b l,a=>by rw[FH,YY,aO,mO,DP s l]
def DP(s:List dN):∀(l:List Nd) (a:Nat),I (nt s a l)=uy l
 | [],a=>by rw[nt,uy];rfl
 | x::l,a=>by rw[nt,uy,aO,Qs s x,DP s l]
end
mutual
def B8(p:Pl):∀(x:Nd) (a e:Nat),I (Ts p a e x)=iB x
 | .mk b l,a,e=>by rw[Ts,iB,ba,DQ p l]
def DQ(p:Pl):∀(l:List Nd) (a e:Nat),I (qT p a e l)=dx l
 | [],a,e=>by rw[qT,dx];rfl
 | x::l,a,e=>by rw[qT,dx,aO,B8 p x,DQ p l]
end
def KQ(p:Pl):∀(l m:List Nd) (a e:Nat),qT p a e (l++m)=qT p a e l++qT p (a+dx l) (e+uy l) m
 | [],m,a,e=>by rw[cb,qT,cb,dx,uy,eE,eE]
 | x::l,m,a,e=>by rw[ca,qT,qT,KQ p l m,bC,dx,uy,dB,dB]
mutual
def Wg(p:Pl):∀(x:Nd) (a e i:Nat) (c:Ce),(Ts p a e x)[i]? =aM c->∃b f,(DJ x)[i]? =aM b/\c=Wf p (a+i) f b/\f+I b.mv<=e+YY x
 | .mk b l,a,e,i,c,h=>by
  rw[Ts]at h;rw[DJ,YY];cases i with
  | zero=>
   rw[cw,bN]at h;exact⟨b,e,rfl,h.symm,J⟩
  | succ i=>
   rw[cO]at h;obtain⟨b,f,a,d,e⟩:=HM p l _ _ i c h;exact⟨b,f,by rw[cO];exact a,by rw[d];congr 1;omega,J⟩
def HM(p:Pl):∀(l:List Nd) (a e i:Nat) (c:Ce),(qT p a e l)[i]? =aM c->∃b f,(xY l)[i]? =aM b/\c=Wf p (a+i) f b/\f+I b.mv<=e+uy l
 | [],a,e,i,c,h=>by rw[qT]at h;cases h
 | x::l,a,e,i,c,h=>by
  rw[qT]at h;rw[xY,uy];have d:=B8 p x a e;have b:=B7 x;by_cases g:i<iB x
  ·rw[bX J]at h;obtain⟨a,f,e,j,k⟩:=Wg p x _ _ i c h;exact⟨a,f,by rw[bX J];exact e,j,J⟩
  rw[cd J,d]at h;obtain⟨a,f,e,j,k⟩:=HM p l _ _ _ c h;exact⟨a,f,by rw[cd J,b];exact e,by rw[j];congr 1;omega,J⟩
end
def Qt{x:List dN}(F:Fo x)(l:List Int):∀(n:Nat) {d:Int},d<(I x)->Aq x l n d<=d∨Aq x l n d<0
 | 0,d,_=>.inl (jm _)
 | n+1,d,h=>by
  unfold Aq;split
  ·rename_i c;obtain⟨k,rfl⟩:∃k:Nat,d=k:=⟨d.toNat,J⟩
   obtain⟨t,a⟩:=gj (xs:=x) (i:=k) J;have:=F.Xr a;rw[mG a];rcases Qt F l n (d:=t.pa) J with h | h
   ·exact .inl J
   exact .inr h
  exact .inl (jm _)
def aa3{x:List dN}(F:Fo x){a:Nat}(t:List Int):xX x a t<=a:=by
 unfold xX;split
 ·omega
 rename_i h;have m:mtM x ((a:Int)::t)<=a/\mtM x ((a:Int)::t)<I x:=by
  have l:=F.ne;unfold mtM;split
  ·omega
  rcases tD x ((a:Int)::t) (I x) with⟨b,_⟩ | ⟨f,c,d,g,_⟩
  ·omega
  obtain⟨k,e,s,_,i,_⟩:=qw.1 g a (.head _);omega
 rcases Qt F ((a:Int)::t) (I x) m.2 with h | h<;>omega
def rW(n:Int):IntKind.u64.wrap n=n % 18446744073709551616:=by simp[ar,IntKind.bits,IntKind.signed]
def aa4{n:Nat}(h:n<18446744073709551616):IntKind.u64.wrap (n:Int)=n:=by rw[rW];omega
def HN(n:Nat):(2:Int) ^ n=((2 ^ n:Nat):Int):=by rw[Int.natCast_pow];rfl
def aa5(x n:Nat)(h:n<64):((x:Nat):Int).fdiv (2 ^ (min (Int.toNat (n:Int)) 64))=((x/2 ^ n:Nat):Int):=by
 rw[aW,Cv J,HN,xv _ (aZ _),Int.natCast_ediv]
def Dj(w:M):Prop:=Lib.TabIs Q w "math/bits.deBruijn64tab" .u8 (Lib.deBruijn64tab.map λx:Nat=>(x:Int))
def dj_num:Tryz.prog.globalNamed "math/bits.deBruijn64tab" =aM 0:=aaz
def Dj.keep{w w':M}(h:Dj w)(hk:0<w.heap.size->w'.heap[0]? =w.heap[0]?):Dj w':=by
 unfold Dj Lib.TabIs World.var? at h⊢;rw[dj_num]at h⊢;simp only[AU]at h⊢;rw[hk]
 ·exact h
 refine bT λn=>?_;rw[fI J]at h;cases h
def Dj.only{w w':M}(h:Dj w)(a:Z [] w w'):Dj w':=h.keep λb=>a.block _ b aaV
def asj{w:M}(D:Dj w){x:Nat}(h:x<18446744073709551616):az Q 51 #[.int .u64 (x:Int)] w λe a=>e=ak (O U (Lib.ctz 64 x:Nat))/\a=w:=by
 refine ret (aqM _ ?_);refine⟨λhc=>?_,λhc=>?_⟩
 ·have hc:x=0:=agH
  subst hc;exact⟨rfl,rfl⟩
 have hc:x≠0:=agH
 obtain⟨c,d⟩:=Lib.lowest_bit 64 x hc h;obtain⟨f,g⟩:=Lib.deBruijn64_at _ d;have k:(IntKind.u64.wrap ((bits .and .u64 (x:Int) (IntKind.u64.wrap (0-(x:Int))))*285870213051353865)).fdiv 288230376151711744=((2 ^ Lib.ctz 64 x*285870213051353865 % 18446744073709551616/288230376151711744:Nat):Int):=by
  have e:IntKind.u64.wrap (0-(x:Int))=((2 ^ 64-x:Nat):Int):=by rw[rW];omega
  rw[e,u64_and_nat _ _ h J,c,rW,xv _ J];generalize 2 ^ Lib.ctz 64 x=p;omega
 generalize m:2 ^ Lib.ctz 64 x*285870213051353865 % 18446744073709551616/288230376151711744=i at*
 have l:i<I (Lib.deBruijn64tab.map λx:Nat=>(x:Int)):=f;have B:=Lib.TabIs.cell D dj_num i l;refine⟨⟨0,i,aaf⟩,?_,(Lib.ctz 64 x:Nat),λb v j=>?_,?_,rfl⟩
 ·rw[k];refine⟨J,J,?_⟩;rw[aW,lq,gu,bS]
 ·cases b with
  | zero=>
   rw[cw,bN]at j;subst j;have e:(Lib.deBruijn64tab.map λx:Nat=>(x:Int)).getD i 0=(Lib.ctz 64 x:Nat):=by
    rw[<-g,xw,xw,cN];cases Lib.deBruijn64tab[i]? <;>rfl
   rw[e]at B;exact B
  | succ b=>simp at j
 congr 1;exact fe J J
def HO(w:M)(n:Int):az Q 41 #[O U n] w λe a=>e=ak (.int .u64 (DM n:Nat))/\a=w:=by
 refine ret (akl _ ?_);refine⟨λh=>⟨?_,rfl⟩,λh=>?_⟩
 ·rw[cu,cP,cP]at h;unfold DM;rw[aR J];rfl
 rw[dq,dS,dS]at h;refine⟨J,?_,rfl⟩;have b:=wT n;have e:DM n=2 ^ n.toNat:=by unfold DM;rw[aV J]
 congr 1;rw[Cv J,Int.one_mul,HN,<-e];exact aa4 b
def aa6{w:M}{F:aJ}{s:Sl}{l:List Int}(a:aA iM 1 w F s l):az Q 18 #[s.v] w λe c=>e=ak (.int .u64 (pI l:Nat))/\c=w:=by
 refine ret (aj8 _ ?_);have f:=a.len;have R:=a.cap;have B:=a.big;refine⟨λk m i u=>∃j:Nat,i=(j:Int)/\k+j=I l/\j<=I l/\m=(((l.take j).foldl Tp 0:Nat):Int)/\u=w,I l,⟨0,rfl,J,bm _,rfl,rfl⟩,?_⟩;rintro k _ _ u ⟨j,rfl,p,d,rfl,b⟩;obtain rfl:w=u:=b.symm;refine⟨λh=>?_,λh=>?_⟩
 ·have h:=aN h;have e:j<I l:=J
  obtain⟨ad,g,n⟩:=rV a (bh e);refine⟨ad,g,_,n,(HO w l[j]).mono ?_⟩;rintro _ u ⟨rfl,b⟩;obtain rfl:w=u:=b.symm;refine⟨_,rfl,k-1,J,j+1,aaA,J,J,?_,rfl⟩;rw[u64_or_nat _ _ (Qj _ X) (wT _),bq,bh e,nG];rfl
 have h:=aQ h;rw[bp J];exact⟨rfl,rfl⟩
def Wh{w:M}(D:Dj w){x:Nat}(g:x<18446744073709551616):az Q 25 #[.int .u64 (x:Int)] w λe f=>(∃s:Sl,e=ak s.v/\gn w.heap.size f s (iI x))/\Z [] w f:=by
 refine iW (akf _ ?_);refine⟨λv m l u=>∃(y:Nat) (a:List Int),m=(y:Int)/\y<18446744073709551616/\v=y/\gn w.heap.size u l a/\a++iI y=iI x/\Z [] w u,x,⟨x,[],rfl,g,rfl,Own.nil _ _ _ _ _ _,rfl,Only.refl _ _⟩,?_⟩;rintro y _ l i ⟨j,a,rfl,b,hk,d,h,c⟩;obtain rfl:y=j:=hk;refine⟨λhc=>?_,λhc=>?_⟩
 ·have hc:y≠0:=agH
  refine(asj (D.only c) b).mono ?_;rintro _ u ⟨rfl,p⟩;obtain rfl:i=u:=p.symm;have A:I a<=64:=by
   have:=bZ List.length h;rw[aO]at this;have:=Ar x;omega
  have Y:=(KN hc b).2.1;obtain⟨z,r,q,k3,s,t,k,n,o,B⟩:=afS w d c (Lib.ctz 64 y:Nat) ⟨J,J⟩ J;refine⟨_,rfl,z,r,q,s,t,k,y&&& (y-1),af2 hc,y&&& (y-1),a++[((Lib.ctz 64 y:Nat):Int)],?_,xu YO b,rfl,n,?_,o⟩
  ·have e:IntKind.u64.wrap ((y:Int)-1)=((y-1:Nat):Int):=by rw[rW];omega
   rw[e,u64_and_nat _ _ b J]
  rw[bC,nC,<-Np hc b];exact h
 have hc:y=0:=agH
 subst hc;have e:iI 0=[]:=List.eq_nil_iff_forall_not_mem.2 λn h=>by
  obtain⟨k,_,_,e⟩:=j9.1 h;rw[kc]at e;cases e
 rw[e,bG]at h;rw[h]at d;exact⟨⟨l,rfl,d⟩,c⟩
end Go.Proofs.YtfemabakfkliiaaGreatDoor.Con
namespace Go.Kt
open Go Go.RowKit
section
variable {P:Program} {w:M}
def FM{m:Type}{r:Rp m}{size bytes:Nat}{F:Nat->Prop}{y:Sl}{s:List m}{e t ty:TypeId}{i:TypeInfo}{z:aw}(j:P.underlying t=aM (.slice e))(g:P.info? e=aM i)(C:i.zero=aM z)(X:i.size=size)(S:i.bytes=bytes)(G:z.cells.size=size)(f:0<size)
  (h:r.Ok) (A:SliceF r size w F y s) (hm:I s*bytes<=140737488355328) (B:0<bytes):
  ∃x a,(Instr.buildSlice t 0 #[]).run P w=.ok (Sl.v x) a/\Only [] w a/\∃l d,(Builtin.append_ #[t,t] ty #[Sl.v x,Sl.v y]).run P a=.ok (Sl.v l) d/\Own r size e w.heap.size d F l s/\OnlyP (λk=>w.heap.size<=k) a d:=by
 have b:Only [] w (w.alloc (.cells #[] e)):=Only.alloc _ _;have R:Own r size e w.heap.size (w.alloc (.cells #[] e)) (λk=>F k/\k<w.heap.size) (⟨aM ⟨w.heap.size,0,aaf⟩,0,0⟩:Sl) []:=
  .inr ⟨w.heap.size,[],[],rfl,aX _,Blk.alloc w e [],aaV,rfl,aX _,bm _,trivial⟩
 have c:SliceF r size (w.alloc (.cells #[] e)) (λk=>(F k/\k<w.heap.size)/\(⟨aM ⟨w.heap.size,0,aaf⟩,0,0⟩:Sl).a≠aM ⟨k,0,aaf⟩) y s:=
  ((A.inHeap h f).keep h f λk _ W=>b.block k W aaV).mono h λk hk=>⟨hk,λe=>by
   injection e with e;injection e with e;have:=hk.2;omega⟩
 refine⟨⟨aM ⟨w.heap.size,0,aaf⟩,0,0⟩,_,My w j g,b,?_⟩;obtain⟨D,E,o,p,J,q,u,H⟩:=rv (ty:=ty) j g C X S G h R c b.size abR B;exact⟨D,E,o,(by simpa using p.mono h λk hk=>hk.1),q.p λn v=>.inl (u n v).2.1⟩
end
end Go.Kt
namespace Go.Proofs.YtfemabakfkliiaaGreatDoor.Con
open Go Go.RowKit Go.Kt Go.Kt.V Go.Proofs.YtfemabakfkliiaaGreatDoor.Vc
def aa7{a:Type}(r:Rp a):Rp (Option a):=λw F x c=>(∀v,v∈c->v.oneCell'=L)/\∀y,x=aM y->r w F y c
def wV{b:Type}{a:Rp b}(r:a.Ok):(aa7 a).Ok where
 keep h hk:=⟨h.1,λy e=>r.keep (h.2 y e) hk⟩
 inHeap h:=⟨h.1,λy e=>r.inHeap (h.2 y e)⟩
 mono h hk:=⟨h.1,λy e=>r.mono (h.2 y e) hk⟩
 one h:=h.1
def Qu{a:Type}{x:List a}{j:Nat}(h:j<I x):(List.replicate j aaf++(x.drop j).map aM).set j aaf=List.replicate (j+1) aaf++(x.drop (j+1)).map aM:=by
 rw[fF h,bQ,nB _ _ (by rw[kj];omega),kj,lr,LN,List.replicate_succ',bC];rfl
def HP{a:Type}{x:List a}{j:Nat}(h:j<I x):(List.replicate j aaf++(x.drop j).map aM)[j]? =aM (aM x[j]):=by
 rw[cd (by rw[kj];omega),kj,lr,fF h];rfl
def Wi{b:Type}{r:Rp b}{size:Nat}{w:M}{F:aJ}{s:Sl}{a:List b}{e:TypeId}{B:Nat}(d:r.Ok)(c:Own r size e B w F s a):Own (aa7 r) size e B w F s (a.map aM):=
 Own.map aM c λg x f _ h=>⟨d.one h,λy e=>by
  injection e with e;subst e;exact h⟩
def Qv{d:Nat}{w:M}{F:aJ}{s:Sl}{x:List Ex}(h:aA (tX d) 6 w F s x)(m:I x<=1048576000):az Q 79 #[s.v] w λe a=>(∃t:Sl,e=ak t.v/\Own (tX d) 6 68 w.heap.size a F t x)/\Z [] w a:=by
 refine iW (akF _ ?_);refine⟨λc=>?_,λ_=>?_⟩
 ·have:=Mz h (yi.1 c);subst this;exact⟨⟨Sl.nil,rfl,Own.nil _ _ _ _ _ _⟩,Only.refl _ _⟩
 obtain⟨q,n,p,f,b,o,g,j,l⟩:=FM (P:=Q) (w:=w) (t:=66) (ty:=66) (e:=68) (i:=Tryz.t68) (bytes:=72) (size:=6) (r:=tX d) aaz aaz rfl rfl rfl rfl X (ia d) h J X;exact⟨q,n,p,b,o,g,⟨b,rfl,j⟩,(f.oQ l).only λk hk=>hk⟩
def KR:∀(d:Nat) {w:M} {F:aJ} {s:Sl} {a:List Ex},aA (tX d) 6 w F s a->qu (nN d) a<=1048576000->
  az Q 44 #[s.v] w λe b=>(∃t:Sl,e=ak t.v)/\Z [] w b:=by
 intro d
 induction d with
 | zero=>
  intro w F s a h f;have hx:a=[]:=by
   cases a with
   | nil=>rfl
   | cons x a=>
    obtain⟨s,j,_,_,_,_,g⟩:=h.at_ 0 x rfl;exact g.elim
  subst hx;refine iW (ac5 _ ?_);refine(Qv h aaV).mono ?_;rintro _ c ⟨⟨t,rfl,T⟩,d⟩;have n:t.n=0:=T.len;refine⟨t,rfl,λk i u=>i=0/\u=c,0,⟨rfl,rfl⟩,?_⟩;rintro k _ u ⟨rfl,e⟩;obtain rfl:c=u:=e.symm;exact⟨λW=>absurd (aN W) J,λ_=>⟨⟨t,rfl⟩,d⟩⟩
 | succ d ih=>
  intro w F s a Y hc;have AJ:=Pe (d:=d) (xs:=a);refine iW (ac5 _ ?_);refine(Qv Y J).mono ?_;rintro _ w0 ⟨⟨t,rfl,f⟩,p⟩;have z0:=p.size;have hn:t.n=I a:=f.len;have am:=f.cap;refine⟨t,rfl,λn aC u=>∃j:Nat,aC=(j:Int)/\n+j=I a/\j<=I a/\Own (aa7 (tX (d+1))) 6 68 w.heap.size u F t (List.replicate j aaf++(a.drop j).map aM)/\Z [] w u,I a,⟨0,rfl,J,bm _,Wi (ia _) f,p⟩,?_⟩;rintro n _ w1 ⟨j,rfl,pZ,hj,h,E⟩;have z1:=E.size;refine⟨λW=>?_,λ_=>⟨⟨t,rfl⟩,E⟩⟩;have W:=aN W;have m:j<I a:=J
  obtain⟨aS,cells,cs,a1,z,a3,a4,A,C,_⟩:=Own.SF (wV (ia _)) h (HP m);obtain⟨sx,rfl,i⟩:=C.2 _ rfl;have g:qu (nN d) a[j].dC<=1048576000:=by
   have:=U7 (d:=d+1) (kb m);rw[nN]at this;omega
  refine⟨_,z,sx,A.dM 4 _ rfl,(ih i g).mono ?_⟩;rintro _ w2 ⟨⟨q,rfl⟩,R⟩;have z2:=R.size;have T:=h.keep (wV (ia _)) λk _ W=>R.block k W aaV;obtain⟨V,r,S,D,G,H,b4,b5,N,P⟩:=Own.SF (wV (ia _)) T (HP m);have B:=(T.blk D).1;dsimp only at B;have c:=P 4 q.v aaf (λ_=>False) X ⟨λv l=>by
   rcases yj l with l | rfl
   ·exact N.1 v l
   rfl,λy e=>ad2⟩ (λk hk _=>hk.elim)
  refine⟨q,rfl,_,G,V,j*6+4,r,_,rfl,H,c.1,λw3 o tN=>⟨n-1,J,j+1,aaA,J,J,?_,(E.cn R).trans o λx hx=>.inr abF⟩⟩;have:=c.2 w3 o tN;rwa[Qu m]at this
def af6{w:M}{F:aJ}{s:Sl}{x:List Ac}(h:aA (qv aL) 9 w F s x)(m:I x<=1048576000):az Q 78 #[s.v] w λe a=>(∃t:Sl,e=ak t.v/\Own (qv aL) 9 161 w.heap.size a F t x)/\Z [] w a:=by
 refine iW (akE _ ?_);refine⟨λc=>?_,λ_=>?_⟩
 ·have:=Mz h (yi.1 c);subst this;exact⟨⟨Sl.nil,rfl,Own.nil _ _ _ _ _ _⟩,Only.refl _ _⟩
 obtain⟨o,l,p,d,b,n,f,g,j⟩:=FM (P:=Q) (w:=w) (t:=23) (ty:=23) (e:=161) (i:=Tryz.t161) (bytes:=104) (size:=9) (r:=qv aL) aaz aaz rfl rfl rfl rfl X (dy aL) h J X;exact⟨o,l,p,b,n,f,⟨b,rfl,g⟩,(d.oQ j).only λk hk=>hk⟩
def Qw{w:M}{F:aJ}{x:Ex}{c:aI}(h:rE aL w F x c):∃sl d,c=oa x.k x.n x.s x.op sl x.a/\aA (tX d) 6 w F sl x.dC:=by
 obtain⟨d,h⟩:=h;cases d with
 | zero=>exact h.elim
 | succ d=>
  obtain⟨sl,h,a⟩:=h;exact⟨sl,d,h,Fj a.1 λx c _ h=>Aj h⟩
def HQ(d:Nat):∀l:List Ex,qu (nN d) l<=LR l
 | []=>bm _
 | y::l=>by rw[qu,LR];exact me (M2 d y) (HQ d l)
def Qx(x:Ex):LR x.dC<=Di x:=by rw[Dk];omega
def HR{w:M}{F:aJ}{s:Sl}{a:List Ac}(W:aA (qv aL) 9 w F s a)(hz:jF a<=8388608):
  az Q 42 #[s.v] w λe w'=>(∃t:Sl,e=ak t.v)/\Z [] w w':=by
 have AJ:=gI a;refine iW (akm _ ?_);refine(af6 W J).mono ?_;rintro _ w0 ⟨⟨t,rfl,f⟩,p⟩;have z0:=p.size;have hn:t.n=I a:=f.len;have Y:=f.cap;refine⟨t,rfl,λn am u=>∃j:Nat,am=(j:Int)/\n+j=I a/\j<=I a/\Own (aa7 (qv aL)) 9 161 w.heap.size u F t (List.replicate j aaf++(a.drop j).map aM)/\Z [] w u,I a,⟨0,rfl,J,bm _,Wi (dy _) f,p⟩,?_⟩;rintro n _ w1 ⟨j,rfl,pZ,hj,h,E⟩;have z1:=E.size;refine⟨λb=>?_,λ_=>⟨⟨t,rfl⟩,E⟩⟩;have b:=aN b;have m:j<I a:=J
 obtain⟨aC,cells,cs,a1,A,a3,a4,B,C,_⟩:=Own.SF (wV (dy _)) h (HP m);obtain⟨xc,rfl,hx⟩:=C.2 _ rfl;obtain⟨sx,d,rfl,i⟩:=Qw hx;have z:FC a[j]<=jF a:=qR (kb m);unfold FC at z;have q1:=Qx a[j].x;have q2:=HQ d (a[j].x).dC;refine⟨_,A,sx,B.dM 6 _ rfl,(KR d i J).mono ?_⟩;rintro _ w2 ⟨⟨q,rfl⟩,R⟩;have z2:=R.size;have T:=h.keep (wV (dy _)) λk _ b=>R.block k b aaV;obtain⟨V,r,S,D,G,H,b4,b5,N,P⟩:=Own.SF (wV (dy _)) T (HP m);have g:=(T.blk D).1;dsimp only at g;have c:=P 6 q.v aaf (λ_=>False) X ⟨λv l=>by
  rcases yj l with l | rfl
  ·exact N.1 v l
  rfl,λy e=>ad2⟩ (λk hk _=>hk.elim)
 refine⟨q,rfl,_,G,V,j*9+6,r,_,rfl,H,c.1,λw3 o tN=>⟨n-1,J,j+1,aaA,J,J,?_,(E.cn R).trans o λx hx=>.inr abF⟩⟩;have:=c.2 w3 o tN;rwa[Qu m]at this
section
variable {α:Type} {r:Rp α} {size bytes:Nat} {e t ty:TypeId} {i:TypeInfo} {z v:aw} {w u:M} {A:Nat} {s y:Sl} {xs:List α} {x:α}
def Wj(o:∀(w:M) (F G:aJ) (x:α) (b:aI),r w F x b->r w G x b){F G:aJ}(h:Own r size e A w F s xs):Own r size e A w G s xs:=by
 rcases h with⟨rfl,rfl⟩ | ⟨g,a,tail,d,f,i,j,k,l,n,m⟩
 ·exact .inl ⟨rfl,rfl⟩
 exact .inr ⟨g,a,tail,d,f,i,j,k,l,n,io.SG (λx c _ e=>⟨e.1,o _ _ _ _ _ e.2⟩) m⟩
def aa8(d:Tryz.prog.underlying t=aM (.slice e))(c:Tryz.prog.info? e=aM i)(j:i.zero=aM z)(n:i.size=size)(b:0<size)(o:1*size<=16777216)(h:r.Ok)(f:I v.cells.toList=size)(g:r u (λ_=>False) x v.cells.toList):
  ∃y a,(au t 1 #[.mk 0 v]).run Q u=.ok (Sl.v y) a/\Z [] u a/\aA r size a (λk=>u.heap.size<=k/\k<a.heap.size) y [x]:=by
 obtain⟨y,a,l,m,k3,_⟩:=ju (P:=Q) (t:=t) (e:=e) (i:=i) (z:=z) (w:=u) (F:=λ_=>False) (vs:=[v]) (parts:=#[.mk 0 v]) (len:=1) (xs:=[x]) (r:=r) (size:=size) d c j n b rfl rfl X o h ⟨⟨f,g⟩,trivial⟩;exact⟨y,a,l,k3,(SliceF.inHeap h (m.slice h) b).mono h λk hk=>⟨(hk.1.resolve_left id).1,hk.2⟩⟩
def Wk(E:Tryz.prog.underlying t=aM (.slice e))(D:Tryz.prog.info? e=aM i)(N:i.zero=aM z)(X:i.size=size)(S:i.bytes=bytes)(d:z.cells.size=size)(B:0<bytes)(h:r.Ok)(v:∀(w:M) (F G:aJ) (x:α) (c:aI),r w F x c->r w G x c)
  (o:Own r size e A u (λ_=>False) s xs) (p:A<=u.heap.size) {G:aJ} (H:aA r size u G y [x]) (q:∀k,G k->¬fE s k) (hm:(I xs+1)*bytes<=140737488355328):
  ∃a b,(Builtin.append_ #[t,t] ty #[Sl.v s,Sl.v y]).run Q u=.ok (Sl.v a) b/\Own r size e A b (λ_=>False) a (xs++[x])/\aD (fE s) u b/\∀k,fE a k->fE s k∨u.heap.size<=k:=by
 obtain⟨a,b,f,j,R,l,m,n⟩:=rv (P:=Q) (t:=t) (ty:=ty) (e:=e) (i:=i) (bytes:=bytes) (size:=size) (r:=r) (F:=λ_=>True) (y:=y) (ys:=[x]) E D N X S d h (o.mono h λk hk=>trivial) (H.mono h λk hk=>⟨trivial,q k hk⟩) p abR B;refine⟨a,b,f,Wj v j,l.p λg C=>.inl (m g C).1,λk hk=>?_⟩;unfold fE at hk⊢;rcases n with e | e
 ·exact .inl abW
 rw[e]at hk;injection hk with hk;injection hk with hk;exact .inr J
end
def Nq:Rp Ce:=λ_ _ x c=>∃e l:Sl,c=[O U x.k,O U x.pa,.int .u64 (x.up:Nat),.int .u64 (x.dn:Nat),.int .u64 (x.rg:Nat),O U x.ini,O U x.dft,e.v,l.v,O U (x.f0:Nat),O U (x.f1:Nat)]
def lp:Nq.Ok where
 keep h _:=h
 inHeap h:=h
 mono h _:=h
 one:=by
  rintro w F x c ⟨e,l,rfl⟩ v h;simp only[aY,bA,cf]at h;rcases h with rfl | rfl | rfl | rfl | rfl | rfl | rfl | rfl | rfl | rfl | rfl<;>rfl
def Wl:Rp Nat:=λ_ _ x c=>c[7]? =aM (.int .u64 (x:Int))/\∀v,v∈c->v.oneCell'=L
def uz:Wl.Ok where
 keep h _:=h
 inHeap h:=h
 mono h _:=h
 one h:=h.2
def KS(w:M)(F G:aJ)(x:aH)(c:aI)(h:ke w F x c):ke w G x c:=h
def Wm(w:M)(F G:aJ)(x:Ce)(c:aI)(h:Nq w F x c):Nq w G x c:=h
def Wn(w:M)(F G:aJ)(x:Nat)(c:aI)(h:Wl w F x c):Wl w G x c:=h
structure Ma (w:M) (b:Nat) (F:aJ) (sn sv su sc se s si sd sr:Sl) (nm:List (aH)) (ce:List Ce) (ed:List Nat) (p:Pl):Prop where
 blk:aF w b 74 [sn.v,sv.v,su.v,sc.v,se.v,s.v,si.v,sd.v,sr.v]
 pl:PlR w F s si sd sr p
 hF:∀k,F k->k<w.heap.size/\k≠b/\¬Q3 sn sc se k
 n:Own ke 1 9 (b+1) w (λ_=>False) sn nm
 c:Own Nq 11 65 (b+1) w (λ_=>False) sc ce
 e:Own Wl 16 70 (b+1) w (λ_=>False) se ed
 ap:∀k,fE sn k->¬fE sc k/\¬fE se k
 ap2:∀k,fE sc k->¬fE se k
section
variable {w w' u:M} {F:aJ} {sn sv su sc se s si sd sr Ea AR TT:Sl} {b:Nat} {nm nm':List (aH)} {ce ce':List Ce} {ed ed':List Nat} {p:Pl}
def Ma.lt(h:Ma w b F sn sv su sc se s si sd sr nm ce ed p):b<w.heap.size:=h.blk.lt
def Ma.bn(h:Ma w b F sn sv su sc se s si sd sr nm ce ed p):∀k,fE sn k->b<k/\k<w.heap.size:=λk e=>by have:=h.n.blk e;dsimp only at this;omega
def Ma.bc(h:Ma w b F sn sv su sc se s si sd sr nm ce ed p):∀k,fE sc k->b<k/\k<w.heap.size:=λk e=>by have:=h.c.blk e;dsimp only at this;omega
def Ma.be(h:Ma w b F sn sv su sc se s si sd sr nm ce ed p):∀k,fE se k->b<k/\k<w.heap.size:=λk e=>by have:=h.e.blk e;dsimp only at this;omega
def Ma.q3(h:Ma w b F sn sv su sc se s si sd sr nm ce ed p):∀k,Q3 sn sc se k->b<k/\k<w.heap.size:=λk hk=>hk.elim (h.bn k) λhk=>hk.elim (h.bc k) (h.be k)
def PlR.keep(h:PlR w F s si sd sr p)(hk:∀k,F k->k<w.heap.size->w'.heap[k]? =w.heap[k]?):PlR w' F s si sd sr p:=
 ⟨h.sp.keep dI X hk,h.ini.keep cK X hk,h.dft.keep cK X hk,h.ro.keep kz X hk⟩
def Ma.o0(h:Ma w b F sn sv su sc se s si sd sr nm ce ed p)(a:Z [] w w'):Ma w' b F sn sv su sc se s si sd sr nm ce ed p:=
 ⟨a.blk h.blk aaV,h.pl.o0 a,λk hk=>⟨cH (h.hF k hk).1 a.size,(h.hF k hk).2⟩,h.n.keep cY λk _ W=>a.block k W aaV,h.c.keep lp λk _ W=>a.block k W aaV,h.e.keep uz λk _ W=>a.block k W aaV,h.ap,h.ap2⟩
def Ma.fin(h:Ma w b F sn sv su sc se s si sd sr nm ce ed p)(z:w.heap.size<=u.heap.size)(hk:∀k,k<w.heap.size->k≠b->¬Q3 sn sc se k->u.heap[k]? =w.heap[k]?)
  (f:Own ke 1 9 (b+1) u (λ_=>False) Ea nm') (g:Own Nq 11 65 (b+1) u (λ_=>False) AR ce') (i:Own Wl 16 70 (b+1) u (λ_=>False) TT ed')
  (q:∀k,Q3 Ea AR TT k->Q3 sn sc se k∨w.heap.size<=k) (c:∀k,fE Ea k->¬fE AR k/\¬fE TT k) (d:∀k,fE AR k->¬fE TT k)
  (B:aF u b 74 [Ea.v,sv.v,su.v,AR.v,TT.v,s.v,si.v,sd.v,sr.v]):Ma u b F Ea sv su AR TT s si sd sr nm' ce' ed' p:=
 ⟨B,h.pl.keep λk a W=>hk k W (h.hF k a).2.1 (h.hF k a).2.2,λk a=>⟨by have:=(h.hF k a).1;omega,(h.hF k a).2.1,λe=>(q k e).elim (h.hF k a).2.2 λe=>by have:=(h.hF k a).1;omega⟩,f,g,i,c,d⟩
def wh{a:Type}{r:Rp a}{size:Nat}{e:TypeId}{q:Sl}{x:List a}(d:r.Ok)(h:Own r size e (b+1) w (λ_=>False) q x)(c:Z [b] w w'):Own r size e (b+1) w' (λ_=>False) q x:=
 h.keep d λk hk W=>c.block k W aca
end
section
variable {B:Nat} {w w':M} {s:Sl} {l d:List Int}
def gn.cells(d:gn B w s l){g:Nat}(h:s.a=aM ⟨g,0,aaf⟩):∃tail,B<=g/\aF w g 3 (l.map (Value.int U)++tail)/\I tail=s.c-s.n/\s.n=I l/\s.n<=s.c/\s.c<=9223372036854775807/\∀x,x∈l->ub x:=by
 rcases d with⟨rfl,rfl⟩ | ⟨e,b,tail,i,j,f,q,m,n,p,o⟩
 ·cases h
 rw[i]at h;injection h with h;injection h with h;subst h;have t:∀{l:List Int} {b:List (aI)},qf iM 1 w (λk=>False/\k≠e) l b->b.flatten=l.map (Value.int U)/\∀x,x∈l->ub x:=by
  intro l b
  induction l generalizing b with
  | nil=>
   intro d;have:=d.len;cases b with
   | nil=>exact⟨rfl,λx hx=>aev⟩
   | cons c b=>cases this
  | cons a l u=>
   intro d;cases b with
   | nil=>have:=d.len;cases this
   | cons c b=>
    have v:=d;unfold qf at v;obtain⟨⟨z,F,E⟩,y⟩:(I c=1/\iM w (λk=>False/\k≠e) a c)/\qf iM 1 w (λk=>False/\k≠e) l b:=v;obtain⟨r,s⟩:=u y;refine⟨by rw[eV,r,F];rfl,λx hx=>?_⟩;rw[aY]at hx;rcases hx with rfl | hx
    ·exact E
    exact s x hx
 obtain⟨r,s⟩:=t o;rw[r]at f;exact⟨tail,j,f,J,m,n,p,s⟩
def gn.mk{g:Nat}{tail:aI}(d:s.a=aM ⟨g,0,aaf⟩)(c:B<=g)(b:aF w g 3 (l.map (Value.int U)++tail))(t:I tail=s.c-s.n)(n:s.n=I l)(e:s.n<=s.c)(h:s.c<=9223372036854775807)(i:∀x,x∈l->ub x):gn B w s l:=by
 refine .inr ⟨g,l.map λx=>[Value.int U x],tail,d,c,?_,J,n,e,h,?_⟩
 ·have:(l.map λx=>[Value.int U x]).flatten=l.map (Value.int U):=by
   clear b n i
   induction l with
   | nil=>rfl
   | cons a l f=>rw[bQ,eV,f];rfl
  rw[this];exact b
 clear b n
 induction l with
 | nil=>trivial
 | cons a l j=>exact⟨⟨rfl,rfl,i a (.head _)⟩,j λx f=>i x (.tail _ f)⟩
def gn.ofRow{v:aw}(a:w'.ownsRow B 3 1 v (I l) (l.map (Value.int U)))(i:∀x,x∈l->ub x):∃s:Sl,v=s.v/\gn B w' s l:=by
 rcases a.2 with⟨rfl,n⟩ | ⟨g,cap,c,rfl,b,d,e,j,f,h⟩
 ·have:l=[]:=bP n;subst this;exact⟨Sl.nil,rfl,Own.nil _ _ _ _ _ _⟩
 refine⟨⟨aM ⟨g,0,aaf⟩,I l,cap⟩,rfl,gn.mk (tail:=c.toList.drop (I l)) rfl b ?_ ?_ rfl e ?_ i⟩
 ·rw[lq]at h;rw[<-h,fb];unfold aF;rw[d]
 ·dsimp only;rw[cG,vd,f];omega
 have:maxLen=9223372036854775807:=rfl;dsimp only;omega
end
section
variable {B:Nat} {w w':M} {s:Sl} {l d:List Int}
def af7{F:aJ}{f:Sl}{act:List Int}(h:aA iM 1 w F f act)(m:I act<=1000000000):az Q 43 #[f.v] w λe w'=>∃s:Sl,e=ak s.v/\gn w.heap.size w' s act/\Z [] w w':=by
 have i:∀x,x∈act->ub x:=λx j=>by
  obtain⟨c,a⟩:=h.mem j;exact a.2
 obtain⟨a,n,c⟩:=f;have g:=h.len;dsimp only at g;subst g;rcases a with _|d
 ·have:=Mz h rfl;subst this;refine(Tryz.slices_Clone_int_nil 0 c w).mono ?_;rintro _ a ⟨rfl,u⟩;obtain rfl:w=a:=u.symm;exact⟨Sl.nil,rfl,Own.nil _ _ _ _ _ _,Only.refl _ _⟩
 by_cases a:act=[]
 ·subst a;refine(Tryz.slices_Clone_int_zero d c w).mono ?_;rintro _ w' ⟨v,rfl,b,_,e⟩;obtain⟨s,rfl,k⟩:=gn.ofRow (l:=[]) b i;exact⟨s,rfl,k,Only.tI e⟩
 have a:0<I act:=lS.2 a;obtain⟨x,n,e,_,r,c0,_⟩:=h.at_ 0 _ (bh a);injection e with e;subst e;obtain⟨b,q,sp⟩:=d;have S:sp=aaf:=by
  cases n with
  | nil=>cases r
  | cons v n=>exact World.cell?_spot (c0 0 v rfl)
 subst S;have B:∀k,k<(I act)->w.cell? ⟨b,q+k,aaf⟩=aM (.int U (act.getD k 0)):=λk p=>by
  obtain⟨d,n,e,_,_,c0,c,_⟩:=h.at_ k _ (bh p);injection e with e;subst e c;have:=c0 0 _ rfl;rw[gu,gu]at this;rw[xw,bh p];simpa using this
 refine(Tryz.slices_Clone_int b q (I act) c act w (aX _) J B).mono ?_;rintro _ w' ⟨v,rfl,o,_,t⟩;rw[bp (aX _)]at o;obtain⟨s,rfl,u⟩:=gn.ofRow (l:=act) o i;exact⟨s,rfl,u,Only.tI t⟩
end
end Go.Proofs.YtfemabakfkliiaaGreatDoor.Con
