import Derived.Test.YtfemabakfkliiaaGreatDoorQg10
set_option linter.defProp false
set_option linter.unusedSectionVars false
set_option linter.unusedSimpArgs false
set_option linter.unusedVariables false
set_option maxHeartbeats 4000000
set_option maxRecDepth 100000
open Bool renaming true->L,false->aL
open Option renaming some->aM,none->aaf
open List renaming length->I
open Go.Value renaming int->O,string->K,pointer->ae,agg->ah,tuple->ai,bool->aj
open Go.IntKind renaming i64->U,wrap->ar
open Go.Ending renaming returned->ak
open _root_.ByteArray renaming mk->ao
open _root_.Go.Proofs.Tryz renaming prog->Q
open Go.Instr renaming buildSlice->au
open Go renaming World->M,Value->aw,Calls->az
open Go.Kt renaming Only->Z,SliceF->aA,Cells->aB,OnlyP->aD,Blk->aF
namespace Go.Proofs.YtfemabakfkliiaaGreatDoor.Con
open Go Go.RowKit Go.Kt Go.Kt.V Go.Proofs.YtfemabakfkliiaaGreatDoor.Vc Go.ChangeShapes Go.WideShapes
def zC:List (aH):=[[45,62],[60,61],[62,61],[61,61],[33,61],[38,38],[124,124]]
def DV{c d:UInt8}{r:aH}:sU (c::d::r)=zC.contains [c,d]:=by
 rw[bM];simp[sU,zC];constructor
 ·rintro((⟨rfl,h⟩ | ⟨rfl,h⟩) | ⟨rfl,rfl⟩)
  ·rcases h with rfl | rfl | rfl | rfl<;>simp
  ·rcases h with rfl | rfl<;>simp
  simp
 rintro(⟨rfl,rfl⟩ | ⟨rfl,rfl⟩ | ⟨rfl,rfl⟩ | ⟨rfl,rfl⟩ | ⟨rfl,rfl⟩ | ⟨rfl,rfl⟩ | ⟨rfl,rfl⟩)<;>simp
def Sn{m:aH}(h:sU m=L):jA m=2:=by unfold jA;rw[aV h]
def Sp{c:UInt8}{r:aH}(h:sU (c::r)=aL):jA (c::r)=if pT.contains c then 1 else 0:=by
 unfold jA;rw[aR (by rw[h];decide)]
def abf(a:M)(l:aH)(i:Nat)(g:i<I l)(t:I l<4611686018427387903):
  az Q 311 #[K (T l),O U (i:Int)] a λe w=>e=ak (O U (jA (l.drop i):Int))/\Z [] a w:=by
 refine ret (arT _ _ ?_);rw[cJ];obtain⟨s,f,m,o,D⟩:=kl a zC (n:=7) (parts:=#[(0,K (ao #[45,62])),(1,K (ao #[60,61])),(2,K (ao #[62,61])),(3,K (ao #[61,61])),(4,K (ao #[33,61])),(5,K (ao #[38,38])),(6,K (ao #[124,124]))]) rfl rfl X X;have b:=uM o;have hx:l[i]? =aM l[i]:=bh g;generalize l[i]=c at hx;have hd:=oG hx;have z:I (l.drop i)=(I l)-i:=cG;have r:=b.len;rw[fe (x:=(i:Int)+2) J J];refine⟨s,f,m,λv k w=>∃n:Nat,n<=I zC/\k=(n:Int)/\v=(I zC)-n/\(2<=(I (l.drop i))->∀x,x∈zC.take n->x≠(l.drop i).take 2)/\Z [] f w,I zC,⟨0,bm _,rfl,rfl,aaV,Only.refl _ _⟩,?_⟩;rintro v _ u ⟨n,j,rfl,rfl,p,E⟩;refine⟨λhc=>?_,λhc=>?_⟩
 ·have W:(n:Int)<s.n:=aN hc;obtain⟨ad,x,N,F,A,P,S,G,B⟩:=(SliceF.only cY X b E aaV).get (aZ n) W;rw[aW]at A;unfold ke at B;subst B;have H:I zC=7:=rfl;refine⟨i,i+2,λh=>⟨rfl,J,J,aeq⟩,ad,λ_=>F,_,λ_=>G,?_⟩;have ex:(T l).extract i (i+2)=T ((l.drop i).take 2):=by rw[vq,show i+2-i=2 by omega]
  rw[ex,iV];refine⟨λh V R=>⟨?_,D.cn (E.cn R)⟩,λh Y C=>⟨(I zC)-(n+1),J,n+1,J,aaA,rfl,λq y k=>?_,E.cn C⟩⟩
  ·rw[aU]at h;have s:=aN h.1;have q:=aN h.2;have n:sU (l.drop i)=L:=by
    cases e:l.drop (i+1)with
    | nil=>
     have:=bZ List.length e;rw[cG,bK]at this;omega
    | cons d h=>
     rw[hd,e]at q⊢;rw[DV,fl];have:(c::d::h).take 2=[c,d]:=rfl;rw[<-this,q];exact bB A
   rw[Sn n];rfl
  rw[bq,A]at k;simp only[fH,cj,aP]at k;rcases k with k | rfl
  ·exact p q y k
  rw[bE J,cm]at h;exact λe=>aQ h e.symm
 have B:¬((n:Int)<s.n):=aQ hc;rw[bp J]at p;have A:sU (l.drop i)=aL:=by
  cases c:l.drop (i+1)with
  | nil=>rw[hd,c];rfl
  | cons d k=>
   rw[hd,c,DV,eF];intro h;rw[fl]at h;have e:2<=I (l.drop i):=by rw[hd,c];simp
   exact p e _ h (by rw[hd,c];rfl)
 have S:jA (l.drop i)=if pT.contains c then 1 else 0:=by
  rw[hd]at A⊢;exact Sp A
 rw[S];refine⟨λv k w=>∃n:Nat,n<=17/\k=(n:Int)/\v=17-n/\(∀x,x∈pT.take n->x≠c)/\Z [] a w,17,⟨0,bm _,rfl,rfl,aaV,D.cn E⟩,?_⟩;rintro v _ C ⟨n,j,rfl,rfl,p,W⟩;refine⟨λhc=>?_,λhc=>⟨?_,W⟩⟩
 ·have s:n<17:=abL
  obtain⟨y,k⟩:∃y,pT[n]? =aM y:=⟨_,bh s⟩
  refine⟨c,⟨aZ i,adV⟩,y,⟨aZ n,by
   have e:(ao #[123,125,40,41,91,93,59,44,61,43,45,42,47,37,60,62,33])=T pT:=rfl;rw[e,nH,aW,k]⟩,?_⟩
  rw[O9];refine⟨λh F x=>⟨?_,W.cn x⟩,λh G Y=>⟨17-(n+1),J,n+1,J,aaA,rfl,λq d=>?_,W.cn Y⟩⟩
  ·have h:c=y:=abT
   rw[aV]
   ·rfl
   rw[fl,h];exact bB k
  rw[bq,k]at d;simp only[fH,cj,aP]at d;rcases d with d | rfl
  ·exact p q d
  rintro rfl;simp at h
 have B:n=17:=abO
 subst B;rw[aR]
 ·rfl
 intro h;rw[fl]at h;exact p c (by rw[bp X];exact h) rfl
def Sq{d:aH}{x:UInt8}:lV 0 (d++[x])=lV 0 d*10+(x.toNat-48):=by
 unfold lV;rw[nG];rfl
def Ss{ds:aH}{n:Nat}:lV 0 (ds.take n)<=lV 0 ds:=by
 have:lV 0 ds=lV (lV 0 (ds.take n)) (ds.drop n):=by
  unfold lV;rw[<-nG,fb]
 rw[this];exact G4 _ _
def WO(a:M)(l:aH)(b:I l<4611686018427387903):
  az Q 310 #[K (T l)] a λe w=>e=ak (ai #[O U (fR l).1,O U (fR l).2.1,O U (fR l).2.2])/\Z [] a w:=by
 refine ret (arS _ ?_);rw[cJ];refine⟨λh0=>⟨?_,Only.refl _ _⟩,λh0=>?_⟩
 ·have h0:l=[]:=bP (by have:(I l:Int)=0:=ahu;omega);rw[fR,aV h0];rfl
 have h0:¬l=[]:=by
  rintro rfl;simp at h0
 refine⟨λc j w=>∃n:Nat,n<=I l/\j=(n:Int)/\c=(I l)-n/\(∀x,x∈l.take n->du x=L)/\w=a,I l,⟨0,bm _,rfl,rfl,aaV,rfl⟩,?_⟩;rintro c _ m ⟨n,k,rfl,rfl,p,u⟩;subst u;obtain⟨z,f⟩:∃z:UInt8,n<(I l)->l[n]? =aM z:=by
  by_cases h:n<I l
  ·exact⟨l[n],λ_=>bh h⟩
  exact⟨0,λd=>absurd d h⟩
 have g:n<(I l)->0<=(n:Int)/\(T l)[Int.toNat (n:Int)]? =aM z:=λh=>⟨aZ n,by rw[nH,aW];exact f h⟩
 refine⟨z,λh=>g aeq,z,λh=>g (by
  rw[aU]at h;have:=aN h.1;omega),?_⟩
 have i:((((decide ((n:Int)<(I l:Int)))&&(decide ((z.toNat:Int)>=48)))&&(decide ((z.toNat:Int)<=57))))=(decide (n<I l)&&du z):=by
  rw[bM];simp only[du,aU,bF];omega
 rw[i];refine⟨λh=>?_,λh=>?_⟩
 ·rw[aU]at h;have d:n<I l:=aN h.1;refine⟨(I l)-(n+1),J,n+1,J,aaA,rfl,λy hy=>?_,rfl⟩;rw[bq,f d]at hy;simp only[fH,cj,aP]at hy;rcases hy with hy | rfl
  ·exact p y hy
  exact h.2
 have X:l.takeWhile du=l.take n:=mR k p λy hy=>by
  have d:=(bf.1 hy).1;rw[f d]at hy;injection hy with hy;subst hy;rw[bE d,cm]at h;exact h
 have s:I (l.takeWhile du)=n:=by rw[X,ch];omega
 obtain⟨x,r,rfl⟩:∃x r,l=x::r:=by
  cases l with
  | nil=>exact absurd rfl h0
  | cons x r=>exact⟨x,r,rfl⟩
 refine⟨x,λ_ _=>⟨jm _,agM⟩,?_⟩;have t:((x.toNat:Int)==48)=(x==48):=O9 (d:=48);have z:(((n:Int)==0)||((decide ((n:Int)>1))&&((x.toNat:Int)==48)))=decide ((x::r).takeWhile du=[]∨(1<I ((x::r).takeWhile du)/\(x::r).head? =aM 48)):=by
  rw[t,s,bM];simp only[aU,cu,bF,db,jH,bN];have:(x::r).takeWhile du=[]↔n=0:=by
   constructor
   ·intro e;rw[e]at s;exact s.symm
   intro e;rw[e]at s;exact bP s
  rw[this];by_cases h:x=48
  ·simp only[h,and_true];omega
  simp only[h,and_false,cf];omega
 rw[z];refine⟨λo=>⟨?_,Only.refl _ _⟩,λo=>?_⟩
 ·rw[fR,aR h0,aV (aN o)];rfl
 have o:=aQ o;refine⟨λc v j w=>∃q:Nat,q<=n/\j=(q:Int)/\c=n-q/\v=(lV 0 ((x::r).take q):Int)/\lV 0 ((x::r).take q)<9223372036854775808/\Z [] m w,n,⟨0,bm _,rfl,rfl,rfl,by rw[ci];decide,Only.refl _ _⟩,?_⟩;rintro c _ _ A ⟨q,e,rfl,rfl,rfl,d,E⟩;refine⟨λhc=>?_,λhc=>⟨?_,E⟩⟩
 ·have W:q<n:=abL
  have hy:(x::r)[q]? =aM ((x::r)[q]' J):=bh J;generalize (x::r)[q]' J=y at hy;have B:du y=L:=p y (by
   rw[List.mem_iff_getElem?];exact⟨q,by rw[xr,aV W,hy]⟩)
  simp only[du,aU,bF]at B;have C:ar .u8 ((y.toNat:Int)-48)=(y.toNat:Int)-48:=by
   have h:∀n:Fin 256,48<=n.val->ar .u8 ((n.val:Int)-48)=(n.val:Int)-48:=agD
   exact h ⟨y.toNat,y.toNat_lt⟩ B.1
  have F:(9223372036854775807-((y.toNat:Int)-48)).tdiv 10=(9223372036854775807-((y.toNat:Int)-48))/10:=Int.tdiv_eq_ediv_of_nonneg J;have D:(x::r).take (q+1)=(x::r).take q++[y]:=ahF
  have ev:lV 0 ((x::r).take (q+1))=lV 0 ((x::r).take q)*10+(y.toNat-48):=by rw[D,Sq]
  refine⟨y,⟨aZ q,by rw[nH,aW,hy]⟩,?_⟩;rw[C,fe (x:=(y.toNat:Int)-48) J J,fe (x:=9223372036854775807-((y.toNat:Int)-48)) J J,F,fe (x:=(9223372036854775807-((y.toNat:Int)-48))/10) J J];refine⟨λv=>⟨?_,E⟩,λv=>⟨n-(q+1),J,q+1,J,aaA,rfl,?_,?_,E⟩⟩
  ·have v:=aN v;have h:lV 0 ((x::r).take (q+1))<=lV 0 ((x::r).take n):=by
    have:=Ss (ds:=(x::r).take n) (n:=q+1);rw[List.take_take,Cv J]at this;exact this
   rw[fR,aR h0,aR o,aR (by rw[X];omega)];rfl
  ·have v:=aQ v;rw[ev,fe (x:=10*(lV 0 ((x::r).take q):Int)) J J,fe J J];omega
  have v:=aQ v;rw[ev];omega
 have h:q=n:=abO
 subst h;rw[fR,aR h0,aR o,aV (by rw[X];exact d),s,X]
def agi(i:Nat)(r:Except Int Tq)(v:aw):Prop:=match r with
 | .error e=>v=ai #[ah #[O U 0,K (T []),O U 0,O U 0],O U 0,O U e]
 | .ok q=>v=ai #[ah #[O U q.1,K (T q.2.1),O U q.2.2.1,O U (i:Int)],O U (q.2.2.2:Int),O U 0]
def WQ(w:M)(l:aH)(i:Nat)(o:i<I l)(C:I l<=16384):
  az Q 305 #[K (T l),O U (i:Int)] w λe d=>∃v,e=ak v/\agi i (nq (l.drop i)) v/\Z [] w d:=by
 refine arQ (T l) i (λv d=>agi i (nq (l.drop i)) v/\Z [] w d) w ?_;have hx:l[i]? =aM l[i]:=bh o;generalize l[i]=x at hx;have B:I (l.drop i)=(I l)-i:=cG;have z:nq (l.drop i)=if fZ x then pz (l.drop i)else if du x then uV (l.drop i)else qh (l.drop i):=by
  rw[oG hx];rfl
 rw[z];have j:0<=(i:Int)/\(T l)[Int.toNat (i:Int)]? =aM x:=⟨aZ i,adV⟩
 refine⟨x,j,λq r D S c=>(Ax r x).mono ?_⟩;rintro _ A ⟨rfl,E⟩;have new:∀{u b:M},Z [] w u->Z [q] u b->Z [] w b:=λf k=>f.trans k λy hy=>.inr adX;have sm:∀{u b:M},Z [] r u->Z [] u b->cr [q] u b:=λt f=>f.same (by have:=t.size;simp;omega);refine⟨_,rfl,sm (Only.refl _ _) E,x,j,(K1 A x).mono ?_⟩;rintro _ g ⟨rfl,R⟩;have h:=E.cn R;refine⟨_,rfl,sm E R,λhb=>?_,λhb=>⟨λhd=>⟨i,⟨rfl,abN⟩,?_⟩,λhd=>?_⟩⟩
 ·rw[aV hb];refine(NB g l i J J).mono ?_;rintro _ w3 ⟨rfl,x⟩;have P:I ((l.drop i).takeWhile fk)<=(I l)-i:=by
   have:=sV (p:=fk) (l:=l.drop i);rwa[B]at this
  have ex:(T l).extract i (i+I ((l.drop i).takeWhile fk))=T ((l.drop i).takeWhile fk):=by
   rw[vq,dG,<-oE]
  refine⟨_,rfl,sm h x,i,i+I ((l.drop i).takeWhile fk),⟨rfl,acs,J,abN⟩,λk5 V rk X F=>?_⟩;have e:=h.cn (x.cn F);rw[ex];refine(QD V _).mono ?_;rintro _ w5 ⟨rfl,W⟩;have v:=e.cn W;have z4:=e.size;unfold pz;generalize hm:(l.drop i).takeWhile fk=m at*
  refine⟨_,rfl,W.same aba,λk s n a d=>k=(if mh.contains m then 2 else 1:Int)/\s=T m/\n=0/\a=(i:Int)/\Z [] w d,?_,λhc w9 H=>⟨by rw[aV hc],rfl,rfl,rfl,(c.cn v).trans H λy hy=>.inr (by simp only[aP]at hy;have:=c.size;have:=x.size;have:=h.size;omega)⟩,λhc=>⟨by rw[hc];rfl,rfl,rfl,rfl,c.cn v⟩⟩;rintro _ _ _ _ w6 ⟨rfl,rfl,rfl,rfl,Y⟩;refine⟨λhc w7 N=>⟨?_,new Y N⟩,λhc w8 G=>⟨?_,new Y G⟩⟩
  ·rw[aV abL];rfl
  rw[aR abO];rfl
 ·rw[aR ahQ,aV hd];have ex:(T l).extract i (T l).size=T (l.drop i):=by rw[vq,cJ,bp J]
  rw[ex];refine(WO g (l.drop i) J).mono ?_;rintro _ e ⟨rfl,a⟩;have v:=h.cn a;unfold uV;refine⟨_,_,_,rfl,sm h a,λhe n k=>⟨?_,new (c.cn v) k⟩,λhe=>(NB e l i J J).mono ?_⟩
  ·rw[aV abX];rfl
  rintro _ x ⟨rfl,p⟩;have Y:=v.cn p;rw[aR abX];refine⟨_,rfl,sm v p,λhc F V=>⟨?_,new (c.cn Y) V⟩,λhc y s=>⟨?_,new (c.cn Y) s⟩⟩
  ·rw[aV abL];rfl
  rw[aR abO];rfl
 rw[aR ahQ,aR (by rw[hd];decide)];refine(abf g l i o J).mono ?_;rintro _ p ⟨rfl,y⟩;have a:=h.cn y;have s:=yP (m:=l.drop i);have ex:(T l).extract i (i+jA (l.drop i))=T ((l.drop i).take (jA (l.drop i))):=by rw[vq,dG]
 unfold qh;refine⟨_,rfl,sm h y,λhz v k=>⟨?_,new (c.cn a) k⟩,λhz=>⟨i,i+jA (l.drop i),⟨rfl,acs,J,abN⟩,λx n=>⟨?_,new (c.cn a) n⟩⟩⟩
 ·rw[aV (by have:(jA (l.drop i):Int)=0:=ae7;omega)];rfl
 rw[aR (by rintro e;rw[e]at hz;simp at hz),ex];rfl
def Su(b:M)(l:aH):
  az Q 282 #[K (T l)] b λe a=>∃r:Sl,e=ak (ai #[r.v,ah #[O U (dl l).2.1,O U (dl l).2.2]])/\nM b.heap.size a r (dl l).1/\Z [] b a:=by
 refine iW (arF _ ?_);rw[cJ];refine⟨λhc f g _ _ h=>⟨Sl.nil,?_,?_,h⟩,λhc d w m j c=>?_⟩
 ·rw[dl,aV abL]
 ·rw[dl,aV abL];exact Own.nil _ _ _ _ _ _
 have A:I l<=16384:=abO
 have o:dl l=match lG l 0 with
  | .error x=>([],x.1,(x.2:Nat))
  | .ok e=>(e,0,0):=by
   rw[dl,aR J]<;>rfl
 refine(FO w l 0 (bm _) J).mono ?_;rintro _ E ⟨rfl,R⟩;have D:=c.size;refine⟨_,rfl,R.same aba,λz s p B C a=>B=0/\C=0/\∃(i:Nat) (n:List Tk),p=(i:Int)/\i<=I l/\I n<=i/\lj aL (l.drop i)=0/\lG l 0=kq n (lG l i)/\z=(I l)-i/\nM w.heap.size a s n/\Z [] w a,(I l)-(0+lj aL (l.drop 0)),?_,?_⟩
 ·refine⟨rfl,rfl,_,[],rfl,JI (bm _),bm _,?_,?_,rfl,Own.nil _ _ _ _ _ _,R⟩
  ·rw[<-ki];exact rA aL (l.drop 0)
  rw[<-oH (bm _)];cases lG l 0<;>rfl
 rintro z s _ _ _ N ⟨rfl,rfl,i,n,rfl,hj,TR,W,Y,rfl,G,V⟩;have z3:=V.size;have P:=ni hj;rw[W,eE]at P;have H:∀{u:M} {S:Sl} (t:Tk),Z [] w u->nM w.heap.size u S n->
   ∃y e,(au 142 1 #[(0,t.v)]).run Q u=.ok (Sl.v y) e/\Z [] u e/\∃s q,(Builtin.append_ #[142,142] 142 #[Sl.v S,Sl.v y]).run Q e=.ok (Sl.v s) q/\nM w.heap.size q s (n++[t])/\aD (λk=>w.heap.size<=k/\S.a=aM ⟨k,0,aaf⟩) e q/\Z [] w q:=by
  intro u S t T hr;obtain⟨y,e,c1,v,s,q,c3,c4,x⟩:=UZ t hr T.size (bH (fD 40 (show (I n)+1<=16385 by omega)) X);exact⟨y,e,c1,v,s,q,c3,c4,x,((T.cn v).p0 (F:=λk=>w.heap.size<=k) |>.trans x λk hk=>.inl hk.1).only λk hk=>hk⟩
 refine⟨λhc=>?_,λhc=>?_⟩
 ·have bW:i<I l:=abL
  rw[aR J]at P;refine(WQ N l i bW A).mono ?_;rintro _ w4 ⟨v,rfl,t,dW⟩;have TS:=V.cn dW;have am:cr [d] N w4:=dW.same aba;have z4:=dW.size;unfold agi at t;cases F:nq (l.drop i)with
  | error e=>
   rw[F]at t P;dsimp only at t;subst t;refine⟨0,T [],0,0,0,e,rfl,am,λ_ s v u q k=>⟨Sl.nil,?_,?_,?_⟩,λhe=>absurd (G5 F) abX⟩
   ·rw[o,Y,P];rfl
   ·rw[o,Y,P];exact Own.nil _ _ _ _ _ _
   exact(c.cn TS).trans k λy hy=>.inr adX
  | ok q=>
   rw[F]at t P;dsimp only at t;subst t;have bV:=wM F;have aT:=C6 F;rw[cG]at aT;refine⟨q.1,T q.2.1,q.2.2.1,(i:Int),(q.2.2.2:Int),0,rfl,am,λhe=>(by simp at he),λ_ k5 w6 rk Eb v=>?_⟩;have aC:=TS.cn v;have z6:=v.size;obtain⟨y,w7,c1,c2,s',w8,c3,c4,c5,c6⟩:=H (u:=w6) ⟨q.1,q.2.1,q.2.2.1,(i:Nat)⟩ aC (G.only (dW.cn v));have z7:=c2.size;have z8:=c5.size;have hk:∀k,s.a=aM ⟨k,0,aaf⟩->w.heap.size<=k/\k<N.heap.size:=λk hk=>G.blk hk;refine⟨y,w7,c1,c2.same aba,s',w8,c3,c5.same (by
    intro x k;simp only[aY,bA,cf]at k;refine⟨J,λe=>?_⟩;have:=hk x e.2;omega),?_⟩
   rw[fe (x:=(i:Int)+(q.2.2.2:Int)) J J,show(i:Int)+(q.2.2.2:Int)=((i+q.2.2.2:Nat):Int) by omega];refine(FO w8 l (i+q.2.2.2) J J).mono ?_;rintro _ w9 ⟨rfl,gp⟩;have aS:=JI (l:=l) (i:=i+q.2.2.2) J;refine⟨_,rfl,gp.same aba,(I l)-(i+q.2.2.2+lj aL (l.drop (i+q.2.2.2))),J,rfl,rfl,_,_,rfl,aS,?_,?_,?_,rfl,c4.only gp,c6.cn gp⟩
   ·rw[aO,bI];omega
   ·rw[<-ki];exact rA aL _
   rw[Y,P,<-oH J,<-Pa];dsimp only;cases lG l (i+q.2.2.2)<;>rfl
 have lc:I l<=i:=abO
 rw[aV lc]at P;have mf:i=I l:=J
 obtain⟨y,dA,T,v,q,dL,c3,c4,c5,c6⟩:=H (u:=N) ⟨5,[],0,(i:Nat)⟩ V G;have LA:=v.size;have hk:∀k,s.a=aM ⟨k,0,aaf⟩->w.heap.size<=k/\k<N.heap.size:=λk hk=>G.blk hk;have t:dl l=(n++[⟨5,[],0,(i:Nat)⟩],0,0):=by
  rw[o,Y,P];rfl
 have e:(I l:Int)=(i:Int):=J
 rw[e];refine⟨y,dA,T,v.same aba,q,dL,c3,c5.same (by
  intro x k;simp only[aP]at k;refine⟨J,λe=>?_⟩;have:=hk x e.2;omega),λez F=>⟨q,by rw[t],?_,?_⟩⟩
 ·rw[t];have:nM w.heap.size ez q _:=c4.keep λk hk e=>F.block k e (by simp only[aP];have:=hk.1;omega);exact Own.low this D
 exact(c.cn c6).trans F λy hy=>.inr adX
def rI(w:M)(l:aH)(f:I l<4611686018427387903):
  az Q 156 #[K (T l)] w λe a=>e=ak (aj (dP l))/\Z [] w a:=by
 refine ret (arb _ ?_);have d:(ao #[])=T []:=rfl;rw[cJ,d,iV];refine⟨λh=>⟨?_,Only.refl _ _⟩,λh=>?_⟩
 ·unfold dP;rw[bD]
  ·rfl
  rintro⟨b,c⟩;rw[bD b,bD J]at h;cases h
 simp only[dq,dS]at h;obtain⟨j,g⟩:=h;have g:I l<=24:=J
 obtain⟨c,r,rfl⟩:∃c r,l=c::r:=by
  cases l with
  | nil=>exact absurd rfl j
  | cons c r=>exact⟨c,r,rfl⟩
 have n:dP (c::r)=(fZ c&&decide ((c::r).takeWhile fk=c::r)&&!mh.contains (c::r)):=by
  unfold dP;rw[bE ⟨j,g⟩,cm]
 refine⟨c,⟨jm _,agM⟩,(Ax w c).mono ?_⟩;rintro _ k ⟨rfl,D⟩;refine⟨_,rfl,(QD k _).mono ?_⟩;rintro _ m ⟨rfl,E⟩;refine⟨_,rfl,λb a=>b=dP (c::r)/\Z [] w a,λb a e=>⟨by rw[e.1],e.2⟩,λi=>?_,λi=>⟨?_,D.cn E⟩⟩
 ·refine(NB m (c::r) 0 (bm _) f).mono ?_;rintro _ o ⟨rfl,b⟩;rw[jl];refine⟨_,rfl,?_,D.cn (E.cn b)⟩;rw[n];simp only[aU,dr]at i;rw[i.1,i.2,cm,EZ,dK,bM];simp only[db,bF];constructor
  ·intro e;have e:I ((c::r).takeWhile fk)=I (c::r):=J
   have g:=oE (p:=fk) (l:=c::r);rw[e,bp (aX _)]at g;exact g
  intro e;rw[e]
 rw[n];cases j:fZ c<;>cases g:mh.contains (c::r)<;>rw[j,g]at i<;>simp at i⊢
def abg(w:M)(l:aH):az Q 253 #[K (T l)] w λe i=>
  ∃a,e=ak (ai #[ah a.toArray,ah #[O U (jh l).2.1,O U (jh l).2.2]])/\RX i w.heap.size i.heap.size (jh l).1 a/\Z [] w i:=by
 refine iW (arv _ ?_);intro B C r N H P S D;have z0:=D.size;have own:∀{u o:M},Z [] w u->Z [C,B] u o->Z [] w o:=λz A=>z.trans A λx hx=>.inr abH;refine(Su r l).mono ?_;rintro _ w1 ⟨f,rfl,h,E⟩;have z1:=E.size;have j:=D.cn E;generalize Y:dl l=G at*
 obtain⟨s,c,p⟩:=G;dsimp only at h⊢;have R:jh l=if c≠0 then(BU,c,p)else if(cQ s 0).2.2.1≠0 then(BU,(cQ s 0).2.2.1,(cQ s 0).2.2.2)else if(tk s (cQ s 0).2.1.toNat).k≠5 then(BU,4,(tk s (cQ s 0).2.1.toNat).a)else((cQ s 0).1,0,(cQ s 0).2.2.2):=by
  unfold jh;rw[Y]
 refine⟨f,_,_,rfl,E.same aba,λhc F w2 V W v m b g=>⟨λk=>k=F,rfl,λe=>b e,λe=>g e,λw3 y=>?_⟩,λhc k3 w4 xF sA d=>?_⟩
 ·have hc:c≠0:=abv
  rw[R,aV hc];exact⟨_,rfl,rx0 _ _ _,own (j.cn v) y⟩
 have hc:c=0:=abv
 rw[aR (by simp[hc])]at R;have z4:=d.size;refine(WL (h.only d).sl 0 ⟨X,X⟩).mono ?_;rintro _ w5 ⟨a,rfl,hX,hj,eW⟩;have z5:=eW.size;have aC:(cQ s 0).2.2.1=0->(cQ s 0).2.2.2=0:=by
  unfold cQ;split
  ·cases k:xN s (0:Int).toNat with
   | error e=>
    obtain⟨c,p⟩:=e;intro n;exact absurd n (qD _ _ _ _ k)
   | ok q=>intro _;rfl
  intro c;exact absurd c (show ¬(1:Int)=0 by decide)
 generalize N4:cQ s 0=pa at*
 obtain⟨x,aS,c',p'⟩:=pa;dsimp only at hX hj R aC⊢;obtain⟨xl,rfl,_⟩:=hX.cells;have EU:Z [] w w5:=(j.cn d).cn eW;have am:∀{u:M},Z [k3] w5 u->aA Iy 4 u (λk=>r.heap.size<=k/\f.a=aM ⟨k,0,aaf⟩) f s:=λhO=>SliceF.only iX X (h.only (d.cn eW)).sl hO λk hk bW hm=>by
  have:=h.blk hk.2;simp only[aP]at hm;dsimp only at this;omega
 refine⟨_,_,_,_,_,_,_,_,_,rfl,eW.same aba,λT k4 w6 uT AN dY m b g n4 n5 n6=>⟨λk=>k=k3,rfl,λe=>b e,λe=>n4 e,λw7 gq=>?_⟩,λT=>?_⟩
 ·have T:c'≠0:=by simpa using T
  rw[R,aV T];exact⟨_,rfl,rx0 _ _ _,own (EU.new dY J) gq⟩
 have T:c'=0:=by simpa using T
 rw[aR (by simp[T])]at R;obtain⟨L9,L0⟩:=hj T;obtain⟨n,rfl⟩:∃n:Nat,aS=(n:Int):=⟨aS.toNat,J⟩
 have hl:=(am (Only.refl _ _)).len;obtain⟨ad,t,a,g1,g2,g3,g4,g5,g6⟩:=(am (Only.refl _ _)).get L9 J;rw[aW]at R;refine⟨ad,g1,λk5 w8 rk Eb c=>?_⟩;obtain⟨x,t',Ci,e1,p,e3,e4,e5,e6⟩:=(am c).get L9 J;have aT:=cT.Xl e1 g1;subst aT;rw[aW,C7 J]at p;injection p with p;subst p;unfold Iy at e6;subst e6;have z8:=c.size;refine⟨_,e5.dM 0 _ rfl,λhk w9 gp m b g n4 n5 n6=>⟨λk=>k=x.block,x,g1,?_,_,(e5.keep (gp.block _ e5.lt aaV)).dM 3 _ rfl,?_,?_,λdA dR=>?_⟩,λhk dL eh=>?_⟩
 ·exact ou x 3
 ·intro e;have:=e3.1;rw[<-e]at this;omega
 ·intro e;have:=e3.1;rw[<-e]at this;omega
 ·have hk:(tk s n).k≠5:=abI
  rw[R,aV hk];exact⟨_,rfl,rx0 _ _ _,own ((EU.new c J).cn gp) dR⟩
 have hk:(tk s n).k=5:=abI
 rw[R,aR (by simp[hk]),aC T];have e:=eh.size;exact⟨_,rfl,((hX.only c λq hq=>.inl (by simp only[aP]at hq;omega)).only eh λq hq=>.inl acU).wide J J,own (EU.new c J) eh⟩
def agj{k:Nat}{op:Int}(hk:k<6)(h:op∈(fx[k]?).getD []):fP op=(k:Int):=by
 match k,hk with
 | 0,_=>simp[fx]at h;subst h;rfl
 | 1,_=>simp[fx]at h;subst h;rfl
 | 2,_=>simp[fx]at h;rcases h with rfl | rfl<;>rfl
 | 3,_=>simp[fx]at h;rcases h with rfl | rfl | rfl | rfl<;>rfl
 | 4,_=>simp[fx]at h;rcases h with rfl | rfl<;>rfl
 | 5,_=>simp[fx]at h;rcases h with rfl | rfl | rfl<;>rfl
def abh{op:Int}(h:∀k,k<6->op∉(fx[k]?).getD []):fP op=6:=by
 have a:=h 0 X;have b:=h 1 X;have c:=h 2 X;have d:=h 3 X;have e:=h 4 X;have f:=h 5 X;simp[fx]at a b c d e f;unfold fP;rw[aR J,aR J,aR J,aR J,aR J,aR J]
def zD{a:M}{F:aJ}{x:Ex}{s:aI}{d:Nat}(f:tX d a F x s):az Q 277 #[ah s.toArray] a λe w=>e=ak (O U (cM x))/\Z [] a w:=by
 obtain⟨sl,rfl⟩:=lW f;refine ret (arA _ _ _ _ _ _ ?_);intro t g T p D;refine(Nz g).mono ?_;rintro _ b ⟨l,rfl,N,c⟩;have u:=N.len;have z:I fx=6:=rfl;refine⟨l,rfl,c.same aba,λv i w=>∃n:Nat,n<=6/\i=(n:Int)/\v=6-n/\(∀k,k<n->x.op∉(fx[k]?).getD [])/\Z [] b w,6,⟨0,X,rfl,rfl,λk hk=>absurd hk (YP k),Only.refl _ _⟩,?_⟩;rintro v _ j ⟨n,r,rfl,rfl,o,R⟩;have m:Z [] a j:=(D.cn c).cn R;refine⟨λh=>?_,λh=>⟨?_,m⟩⟩
 ·simp only[aU,bF,db]at h;obtain⟨pO,rk⟩:=h;have W:n<6:=J
  obtain⟨p0,A,am,G,H,g3,g4,E,F,rfl,S⟩:=N.get (aZ n) J;rw[aW]at H;have Y:(fx[n]?).getD []=A:=by rw[H];rfl
  have t1:=S.len;have t2:=S.cap;have t3:=S.big;refine⟨λv i w=>∃d:Nat,d<=I A/\i=(d:Int)/\v=(I A)-d/\(∀q y,q<d->A[q]? =aM y->y≠x.op)/\Z [] b w,I A,⟨0,bm _,rfl,rfl,λq y B=>absurd B (YP q),R⟩,?_⟩;rintro v _ w3 ⟨d,hj,rfl,rfl,P,e⟩;refine⟨p0,G,F,E.keep (e.block _ E.lt aaV),λC=>?_,λV=>?_⟩
  ·have C:(d:Int)<(F.n:Int):=aN C;obtain⟨p3,aC,aS,r1,n,r3,r4,r5,r6⟩:=(SliceF.only nU X S e aaV).get (aZ d) C;unfold DU at r6;subst r6;rw[aW]at n;refine⟨p0,G,F,E.keep (e.block _ E.lt aaV),p3,r1,aC,r5,λhe w4 dW=>⟨?_,((D.cn c).cn e).cn dW⟩,λhe w5 eW=>⟨(I A)-(d+1),J,d+1,J,aaA,rfl,λq y B k=>?_,e.cn eW⟩⟩
   ·have he:aC=x.op:=abX
    subst he;have:=agj W (by rw[Y];exact bB n);rw[cM,aV rk,this]
   rcases wy q d with x | x
   ·exact P q y x k
   have:q=d:=J
   subst this;rw[n]at k;injection k with k;subst k;simpa using he
  have V:¬(d:Int)<(F.n:Int):=aQ V;refine⟨6-(n+1),J,n+1,J,aaA,rfl,λk hk=>?_,e⟩;rcases wy k n with x | x
  ·exact o k x
  have:k=n:=J
  subst this;rw[Y];intro y;obtain⟨q,B⟩:=ig y;exact P q _ (by have:=(bf.1 B).1;omega) B rfl
 rw[cM];by_cases k:x.k=5
 ·rw[aV k];have:n=6:=by
   rw[k]at h;simp at h;omega
  subst this;rw[abh o]
 rw[aR k]
def K2:∀(d:Nat) {a:M} {F:aJ} {x:Ex} {c:aI},(∀e,xy e x)->tX d a F x c->az Q 251 #[ah c.toArray] a λe w=>e=ak (aj (da d x))/\Z [] a w
 | 0,_,_,_,_,_,h=>h.elim
 | d+1,a,F,x,c,i,⟨sl,j,h⟩=>by
  subst j;refine ret (art _ _ _ _ _ _ ?_);intro B q z u D;have k:=h.len;have C:=h.cap;have G:=h.big;have l:I x.s<4611686018427387903:=(i 1).1;have s:∀y,y∈x.dC->∀e,xy e y:=λy m e=>(i (e+1)).2 y m;have H:∀{b:Bool},iq x=b->da (d+1) x=(b&&ku (da d) x.dC):=λe=>by rw[da,e]
  refine⟨λv o w=>∃n:Nat,n<=I x.dC/\o=(n:Int)/\v=(I x.dC)-n/\ku (da d) x.dC=ku (da d) (x.dC.drop n)/\Z [] a w/\q.heap.size<=w.heap.size,I x.dC,⟨0,bm _,rfl,rfl,rfl,D,aX _⟩,?_⟩;rintro v _ r ⟨n,t,rfl,rfl,g,E,N⟩;refine⟨λW=>?_,λA=>?_⟩
  ·have W:(n:Int)<(sl.n:Int):=aN W;obtain⟨p,y,V,S,b,Y,g4,T,e⟩:=(SliceF.only (ia d) X h E aaV).get (aZ n) W;rw[aW]at b;obtain⟨sy,rfl⟩:=lW e;refine⟨p,S,_,_,_,_,_,_,T,(K2 d (s y (bB b)) e).mono ?_⟩;rintro _ w2 ⟨rfl,R⟩;have z2:=R.size;have P:=Fk (f:=da d) b;refine⟨_,rfl,R.same aba,λhb=>⟨?_,E.cn R⟩,λhb=>⟨(I x.dC)-(n+1),J,n+1,J,aaA,rfl,?_,E.cn R,J⟩⟩
   ·have hb:da d y=aL:=abP
    rw[da,g,P,hb,cV,gQ]
   have hb:da d y=L:=abP
   rw[g,P,hb,cm]
  have A:¬(n:Int)<(sl.n:Int):=aQ A;have:n=I x.dC:=J
  subst this;rw[eP (aX _)]at g;have f:da (d+1) x=iq x:=by
   rw[da,g];simp[ku]
  refine(rI r x.s l).mono ?_;rintro _ P ⟨rfl,p⟩;have e:=E.cn p;have R:=p.size;have y:((T x.s).toList==(ao #[]).toList)=decide (x.s=[]):=iV x.s [];rw[y,k];refine⟨_,rfl,p.same aba,λhk=>⟨?_,e⟩,λhk=>⟨λb w=>b=decide (x.k=2∨x.k=3)/\w=P,?_,λqF=>⟨?_,rfl⟩,λqF=>⟨?_,rfl⟩⟩⟩
  ·have hk:x.k=1:=abI
   rw[f,iq,aV hk,RR];congr 4;rw[bM];simp only[bF,db];split<;>omega
  ·have n:x.k≠1:=abI
   rintro _ _ ⟨rfl,rfl⟩;refine⟨λhb=>⟨?_,e⟩,λhb=>⟨λuT=>⟨?_,e⟩,λuT=>⟨λrk=>?_,λrk=>⟨?_,e⟩⟩⟩⟩
   ·have hb:=aN hb;rw[f,iq,aR n,aV hb,RR];have:decide (x.s=x.s)=L:=bE rfl;rw[this,dK];cases(x.n==0)<;>cases dP x.s<;>simp
   ·have hb:=aQ hb;have uT:x.k=4:=adG
    rw[f,iq,aR n,aR hb,aV uT,RR];congr 3;rw[bM];simp only[cu,db];split<;>omega
   ·have hb:=aQ hb;have uT:x.k≠4:=adG
    have rk:x.k=5:=ag0
    have S:iq x=(!(fP x.op==6)&&RR 0 [] x.op 2 x):=by rw[iq,aR n,aR hb,aR uT,aV rk]
    have T:(x.op==x.op)=L:=beq_self_eq_true _;refine⟨λb w=>b=iq x/\Z [] a w,?_,λV=>(zD (d:=d+1) (F:=F) (x:=x) ⟨sl,rfl,SliceF.only (ia d) X h e aaV⟩).mono ?_,λV=>⟨?_,e⟩⟩
    ·rintro _ _ ⟨rfl,b⟩;exact⟨f.symm▸rfl,b⟩
    ·rintro _ b ⟨rfl,d⟩;refine⟨_,rfl,d.same aba,?_,e.cn d⟩;rw[S,RR,V,T,dK,cm,cM,aV rk];congr 1;rw[bM];simp only[bF,dr,vf];have:fP x.op<=6:=by
      unfold fP;split
      ·omega
      split
      ·omega
      split
      ·omega
      split
      ·omega
      split
      ·omega
      split
      ·omega
      omega
     omega
    rw[S,RR,V,cV,cV,gQ]
   have hb:=aQ hb;have uT:x.k≠4:=adG
   have rk:x.k≠5:=ag0
   rw[f,iq,aR n,aR hb,aR uT,aR rk]
  ·have qF:x.k=2:=ag7
   rw[qF];rfl
  have qF:x.k≠2:=ag7
  rw[bM];simp[qF]
def Ay(d:Nat)(x:Ex):Bool:=decide (pC d x≠[])
def amp(l m:aH):T l++T m=T (l++m):=by
 apply ByteArray.ext;simp[T]
def abi(w:M){n:Int}(b:0<=n)(c:n<=9223372036854775807):az Q 159 #[O U n] w λe a=>e=ak (.int .u64 n)/\a=w:=by
 refine ret (aln _ _ _ ?_);refine⟨λh=>absurd (aN h) J,λ_=>⟨?_,rfl⟩⟩;have:ar .u64 n=n:=by
  have e:ar .u64 n=n % 18446744073709551616:=rfl;rw[e];omega
 rw[this]
def uC(u:Nat)(h:u<=18446744073709551615):I (Lib.decDigits u)<=40:=by
 have e:∀(k u:Nat),u<10 ^ (k+1)->I (Lib.decDigits u)<=k+1:=by
  intro k
  induction k with
  | zero=>intro u a;rw[qx (by simpa using a)];simp
  | succ k i=>
   intro u a;by_cases v:u<10
   ·rw[qx v];simp
   rw[tE v,aO,bI];have:=i (u/10) (by rw[Nat.div_lt_iff_lt_mul X];rw[Nat.pow_succ]at a;exact a);omega
 have:=e 19 u (by have:(10:Nat) ^ (19+1)=100000000000000000000:=X;omega);omega
def FP:∀(u:Nat) (w:M),u<=18446744073709551615->az Q 158 #[.int .u64 (u:Int)] w λe a=>e=ak (K (T (if u=0 then[]else Lib.decDigits u)))/\Z [] w a:=by
 intro u
 induction u using Nat.strongRecOn with
 | _ u i=>
  intro w d;refine ret (ard _ ?_);refine⟨λhc=>?_,λhc=>⟨λs a=>s=T (Lib.decDigits u)/\Z [] w a,λs a h=>?_,λb c=>⟨λk=>b.heap.size<=k,?_,?_⟩⟩⟩
  ·have hc:u=0:=by
    have:(u:Int)=0:=abv
    omega
   rw[aV hc];exact⟨rfl,Only.refl _ _⟩
  ·have hc:u≠0:=λe=>aeH
   rw[aR hc,h.1];exact⟨rfl,h.2⟩
  all_goals
   have hc:u≠0:=λe=>aeH
   have wu:∀m:Nat,m<=18446744073709551615->ar .u64 (m:Int)=(m:Int):=λm g=>by
    have e:ar .u64 (m:Int)=(m:Int) % 18446744073709551616:=rfl;rw[e];omega
   have j:ar .u64 ((u:Int).tdiv 10)=((u/10:Nat):Int):=by
    have:(u:Int).tdiv 10=((u/10:Nat):Int):=by
     rw[Int.tdiv_eq_ediv_of_nonneg (aZ u)];rfl
    rw[this,wu _ J]
   have g:(UInt8.ofNat (48+u % 10)).toNat=48+u % 10:=zx (BG _ X);have k:ar .u8 (ar .u64 (48+((u:Int).tmod 10)))=((UInt8.ofNat (48+u % 10)).toNat:Int):=by
    have n:(48+((u:Int).tmod 10))=((48+u % 10:Nat):Int):=by
     rw[Int.tmod_eq_emod_of_nonneg (aZ u)];omega
    rw[n,wu _ J,g];have e:ar .u8 ((48+u % 10:Nat):Int)=((48+u % 10:Nat):Int) % 256:=rfl;rw[e];omega
   have f:T (if u/10=0 then[]else Lib.decDigits (u/10))++T [UInt8.ofNat (48+u % 10)]=T (Lib.decDigits u):=by
    rw[amp];by_cases v:u<10
    ·rw[aV J,qx v,cb];congr 3;omega
    rw[aR J,<-tE v]
   have l:I (if u/10=0 then[]else Lib.decDigits (u/10))<=100:=by
    split
    ·simp
    have:=uC (u/10) J;omega
   rw[j,k]
  ·refine(i (u/10) J b J).mono ?_;rintro _ g ⟨rfl,R⟩;obtain⟨y,j,k,e,k3,_⟩:=uk g [UInt8.ofNat (48+u % 10)] (n:=1) (parts:=#[(0,.int .u8 ((UInt8.ofNat (48+u % 10)).toNat:Int))]) rfl rfl X X;refine⟨_,rfl,bR.only R,y,j,k,bR.only k3,[UInt8.ofNat (48+u % 10)],(SliceF.bytes (yO e)).rd,?_,f,(c.cn R).cn k3⟩;have:(ao [UInt8.ofNat (48+u % 10)].toArray).size=1:=rfl;rw[cJ];omega
  obtain⟨y,g,k,j,k3,l⟩:=uk b [UInt8.ofNat (48+u % 10)] (n:=1) (parts:=#[(0,.int .u8 ((UInt8.ofNat (48+u % 10)).toNat:Int))]) rfl rfl X X;refine⟨y,g,k,bR.only k3,[UInt8.ofNat (48+u % 10)],λp e=>?_,(SliceF.bytes (yO j)).rd,(i (u/10) J g J).mono ?_⟩
  ·rw[l]at e;injection e with e;subst e;exact aX _
  rintro _ m ⟨rfl,W⟩;refine⟨_,rfl,bR.only W,?_,f,(c.cn k3).cn W⟩;have:(ao [UInt8.ofNat (48+u % 10)].toArray).size=1:=rfl;rw[cJ];omega
def WR(w:M){n:Int}(h:0<=n)(b:n<=9223372036854775807):az Q 114 #[O U n] w λe c=>e=ak (K (T (Lib.itoa n)))/\Z [] w c:=by
 refine ret (akW _ ?_);refine⟨λhc=>?_,λhc=>⟨λa=>absurd (aN a) J,λ_=>(abi w h b).mono ?_⟩⟩
 ·have hc:n=0:=abv
  subst hc;rw[zy (jm _),Int.toNat_zero,qx X];exact⟨rfl,Only.refl _ _⟩
 have hc:n≠0:=abv
 rintro _ e ⟨rfl,rfl⟩;obtain⟨u,rfl⟩:∃u:Nat,n=(u:Int):=⟨n.toNat,J⟩
 refine⟨_,rfl,(FP u _ J).mono ?_⟩;rintro _ f ⟨rfl,d⟩;refine⟨_,rfl,?_,d⟩;rw[aR J,zy h,aW]
def qy(l m:aH):aH:=if (I l)<=16384 then l++m else l
def xq(wr:Bool)(l:aH):aH:=if wr then qy l [40]else l
def xZ(wr:Bool)(l:aH):aH:=if wr then qy l [41]else l
def zE:Nat->Ex->aH->aH
 | 0,_,l=>l
 | d+1,x,l=>if 16384<I l then l else
  if x.k=1 then qy l (Lib.itoa x.n)
  else if x.k=2 then qy l x.s
  else if x.k=3 then qy l ([105,110,40]++x.s++[41])
  else if x.k=4 then(match x.dC with
   | [y]=>xZ (y.k==5) (zE d y (xq (y.k==5) (qy l (eX x.op.toNat))))
   | _=>l)
  else(match x.dC with
   | [y,z]=>xZ (decide (cM z<=cM x)) (zE d z (xq (decide (cM z<=cM x)) (qy (xZ (decide (cM y<cM x)) (zE d y (xq (decide (cM y<cM x)) l))) ([32]++eX x.op.toNat++[32]))))
   | _=>l)
def nV(l t r:aH):Prop:=(I l+I t<=16384->r=l++t)/\(16384<I l+(I t)->16384<I r)
def nV.put l m:nV l m (qy l m):=by
 unfold qy;refine⟨λa=>by rw[aV J],λa=>?_⟩;by_cases h:I l<=16384
 ·rw[aV h,aO];omega
 rw[aR h];omega
def nV.trans{l t r t' r'}(h:nV l t r)(k:nV r t' r'):nV l (t++t') r':=by
 refine⟨λa=>?_,λa=>?_⟩
 ·rw[aO]at a;rw[h.1 J]at k;rw[k.1 acN,bC]
 rw[aO]at a;by_cases b:I l+I t<=16384
 ·refine k.2 ?_;rw[h.1 b,aO];omega
 have:=h.2 J;exact k.2 J
def nV.refl l:nV l [] l:=⟨λ_=>aaV,λh=>abT⟩
def nV.long{l t}(h:16384<I l):nV l t l:=⟨λa=>J,λ_=>h⟩
def nV.opn(wr:Bool) l:nV l (if wr then[40]else[]) (xq wr l):=by
 cases wr
 ·exact nV.refl _
 exact nV.put _ _
def nV.clo(wr:Bool) l:nV l (if wr then[41]else[]) (xZ wr l):=by
 cases wr
 ·exact nV.refl _
 exact nV.put _ _
def abj d x wr:mU (d+1) x wr=(if wr then[40]else[])++(mU (d+1) x aL++(if wr then[41]else[])):=by
 unfold mU;cases wr
 ·simp
 simp[clo,opn]
def WS{d}{x}(h:da d x=L) wr:mU d x wr=(if wr then[40]else[])++(mU d x aL++(if wr then[41]else[])):=by
 cases d with
 | zero=>cases h
 | succ d=>exact abj d x wr
def amq{d}{y}(h:da d y=L):decide (cM y<6)=(y.k==5):=by
 cases d with
 | zero=>cases h
 | succ d=>
  rw[da,aU]at h;rw[bM];simp;constructor
  ·intro a;refine bT λn=>?_;rw[cM,aR n]at a;omega
  intro a;obtain⟨_,y,z,_,o,b⟩:=qO h.1 J J J J;rw[cM,aV a];have:=(Ca o b).2;omega
def ND:∀d {x:Ex} l,da d x=L->nV l (mU d x aL) (zE d x l)
 | 0,x,l,h=>abG
 | d+1,x,l,h=>by
  rw[da,aU]at h;obtain⟨c,a⟩:=h;have e:mU (d+1) x aL=(
  if x.k=1 then Lib.itoa x.n
  else if x.k=2 then x.s
  else if x.k=3 then[105,110,40]++x.s++[41]
  else if x.k=4 then(match x.dC with
   | [y]=>eX x.op.toNat++mU d y _
   | _=>[])
  else(match x.dC with
   | [y,z]=>mU d y _++_++mU d z _
   | _=>[])):=rfl
  rw[zE];by_cases b:16384<I l
  ·rw[aV b];exact nV.long b
  rw[aR b,e];have part:∀{y:Ex} wr l,da d y=L->nV l (mU d y wr) _:=fun{y} wr l h=>by
   rw[WS h wr];exact(nV.opn wr l).trans ((ND d _ h).trans (nV.clo wr _))
  by_cases k:x.k=1
  ·rw[aV k,aV k];exact nV.put _ _
  by_cases d:x.k=2
  ·rw[aR k,aR k,aV d,aV d];exact nV.put _ _
  by_cases k3:x.k=3
  ·rw[aR k,aR k,aR d,aR d,aV k3,aV k3];exact nV.put _ _
  by_cases e:x.k=4
  ·obtain⟨y,h,_⟩:=vM c e;rw[aR k,aR k,aR d,aR d,aR k3,aR k3,aV e,aV e,h];rw[h]at a;simp[ku,dK]at a;dsimp only;rw[amq a];exact(nV.put _ _).trans (part _ _ a)
  obtain⟨_,y,z,h,_⟩:=qO c k d k3 e;rw[aR k,aR k,aR d,aR d,aR k3,aR k3,aR e,aR e,h];rw[h]at a;simp[ku,dK,aU]at a;exact((part _ _ a.1).trans (nV.put _ _)).trans (part _ _ a.2)
def agk{d}{x}(h:da d x=L):∀wr l,I l+I (mU d x wr)<=16384->qN d x wr l=l++mU d x wr:=by
 induction d generalizing x with
 | zero=>cases h
 | succ d i=>
  intro wr l f;rw[da,aU]at h;obtain⟨b,a⟩:=h;have c:¬16384<I l:=J
  rw[qN,aR c];rw[mU]at f⊢;rw[<-Wz];have n:=Nx wr (opn wr []++(
  if x.k=1 then Lib.itoa x.n
  else if x.k=2 then x.s
  else if x.k=3 then[105,110,40]++x.s++[41]
  else if x.k=4 then(match x.dC with
   | [y]=>eX x.op.toNat++mU d y (decide (cM y<6))
   | _=>[])
  else(match x.dC with
   | [y,z]=>mU d y (decide (cM y<cM x))++([32]++eX x.op.toNat++[32])++mU d z (decide (cM z<=cM x))
   | _=>[])))
  have e:=bH (Nat.add_le_add_left n (I l)) f;by_cases k:x.k=1
  ·rw[aV k,aV k,oO wr l,bC]
  by_cases g:x.k=2
  ·rw[aR k,aR k,aV g,aV g,oO wr l,bC]
  by_cases k3:x.k=3
  ·rw[aR k,aR k,aR g,aR g,aV k3,aV k3,oO wr l,bC]
  by_cases j:x.k=4
  ·obtain⟨y,d,_⟩:=vM b j;rw[aR k,aR g,aR k3,aV j,d]at e;rw[aR k,aR k,aR g,aR g,aR k3,aR k3,aV j,aV j,d];rw[d]at a;dsimp only at e⊢;simp[ku,dK]at a;simp at e;rw[i a _ _ (by rw[oO wr l];simp;omega),oO wr l];simp
  obtain⟨_,y,z,m,_⟩:=qO b k g k3 j;rw[aR k,aR g,aR k3,aR j,m]at e;rw[aR k,aR k,aR g,aR g,aR k3,aR k3,aR j,aR j,m];rw[m]at a;dsimp only at e⊢;simp[ku,dK,aU]at a;simp only[aO]at e;have o:qN d y _ _=opn wr l++mU d y (decide (cM y<cM x)):=i a.1 _ _ (by rw[oO wr l];simp;omega);rw[o,i a.2 _ _ (by rw[oO wr l];simp only[aO];omega),oO wr l];simp
def Sv{d}{x}(s:da d x=L)(n:lI d x):pC d x=(if 16384<I (zE d x [])∨(jh (zE d x [])).2.1≠0 then[]else zE d x [])/\((jh (zE d x [])).2.1=0->I (zE d x [])<=16384->zE d x []=qN d x aL []):=by
 have r:=ND d (x:=x) [] s;unfold nV at r;rw[bK,bS,cb]at r;have long:∀l,16384<(I l)->(jh l).2.1≠0:=λl h=>by
  have:dl l=([],2, -1):=by rw[dl,aV h]
  unfold jh;rw[this,aV X];exact X
 by_cases t:I (mU d x aL)<=16384
 ·have e:=by
   have:=agk s aL [] ack;rwa[cb]at this
  rw[r.1 t,pC,aV s,e];refine⟨?_,λ_ _=>rfl⟩;by_cases c:(jh (mU d x aL)).2.1≠0
  ·rw[aV c,aV (.inr c)]
  rw[aR c,aR (by rintro(h | h);omega;exact c h)]
 have a:16384<I (qN d x aL []):=by
  refine bT λn=>?_;have:=KX d aL [] s J;rw[cb]at this;rw[this]at n;omega
 refine⟨?_,λ_ h=>J⟩;rw[aV (.inl (r.2 J)),pC,aV s,aV (long _ a)]
def uD l m {K} (b:I m<=40) (h:I l<=K) (a:16424<=K):I (qy l m)<=K:=by
 unfold qy;split
 ·rw[aO];omega
 exact h
def Az wr l {K} (h:I l<=K) (a:16424<=K):I (xq wr l)<=K:=by
 cases wr
 ·exact h
 exact uD _ _ X h a
def HV wr l {K} (h:I l<=K) (a:16424<=K):I (xZ wr l)<=K:=by
 cases wr
 ·exact h
 exact uD _ _ X h a
def K4:∀d {x:Ex} l {P:Nat},da d x=L->lI d x->I l<=P->16424<=P->I (zE d x l)<=P
 | 0,x,l,P,h,_,_,_=>abG
 | d+1,x,l,P,h,⟨n,s⟩,c,a=>by
  rw[da,aU]at h;obtain⟨e,b⟩:=h;rw[zE];split
  ·exact c
  split
  ·exact uD _ _ (by have:=Lib.itoa_length_le x.n n.1 n.2;omega) c a
  split
  ·rename_i hk;exact uD _ _ (by have:=iP (kw e (.inl hk));omega) c a
  split
  ·rename_i hk;refine uD _ _ ?_ c a;have:=iP (kw e (.inr hk));rw[aO,aO];simp only[ba,bK];omega
  split
  ·rename_i hk;obtain⟨y,h,_⟩:=vM e hk;rw[h]at b s⊢;simp only[ku,dK]at b;have:=mE x.op.toNat;exact HV _ _ (K4 d _ b (s y aaV) (Az _ _ (uD _ _ J c a) a) a) a
  rename_i k f k3 g;obtain⟨hk,y,z,h,_⟩:=qO e k f k3 g;rw[h]at b s⊢;simp only[ku,dK,aU]at b;have:=mE x.op.toNat;exact HV _ _ (K4 d _ b.2 (s z aaV) (Az _ _ (uD _ _ (by rw[aO,aO];simp only[ba,bK];omega) (HV _ _ (K4 d _ b.1 (s y aaV) (Az _ _ c a) a) a) a) a) a) a
structure Pq (w:M) (b:Nat) (sl:Sl) (l:aH):Prop where
 blk:aF w b 314 [sl.v]
 buf:Bf w (b+1) sl l
section
variable {w w0 w1 w2 w':M} {b k0:Nat} {sl sl' SZ:Sl} {l:aH}
def Pq.only(h:Pq w b sl l)(a:Z [] w w'):Pq w' b sl l:=⟨a.blk h.blk aaV,h.buf.keep λg _ c=>a.block g c aaV⟩
def Pq.lb(h:Pq w b sl l):b<w.heap.size:=h.blk.lt
def jO.sm(a:jO b sl w0 sl' w1)(h:k0≠b)(c:sl.a≠aM ⟨k0,0,aaf⟩)(d:k0<w0.heap.size)(S:jO b sl' w1 SZ w2):cr [k0] w1 w2:=S.same h (λe=>by
 rcases a.2 k0 e with e | e
 ·exact c e
 omega) (by have:=a.1.size;omega)
def Pq.Xs(h:Pq w0 b sl l){k}(hk:k<b):¬(k=b∨sl.a=aM ⟨k,0,aaf⟩):=by
 rintro(e | e)
 ·omega
 have:=(h.buf.lt e).1;omega
def jO.kp(a:jO b sl w0 sl' w1)(h:Pq w0 b sl l)(d:k0≠b)(f:sl.a≠aM ⟨k0,0,aaf⟩)(g:k0<w0.heap.size)(S:jO b sl' w1 SZ w2):bR (λk=>k<b∨k=k0) w1 w2:=λk hk W=>S.1.block k W λc=>by
 have i:=h.lb;rcases hk with hk | rfl
 ·rcases c with e | e
  ·omega
  rcases a.2 k e with e | e
  ·exact h.Xs hk (.inr e)
  omega
 rcases c with e | e
 ·exact d e
 rcases a.2 k e with e | e
 ·exact f e
 omega
def Bc(h:Pq w b sl l) m (a:I l+I m<=140737488355328):az Q 278 #[ae (aM ⟨b,0,aaf⟩),K (T m)] w λe w'=>∃sl',e=ak (ai #[])/\Pq w' b sl' (qy l m)/\jO b sl w sl' w':=by
 refine iW (arB _ _ ?_);have n:=h.buf.len;have c:=h.lb;refine⟨sl,Blk.dM h.blk 0 rfl,λhc=>?_,λhc=>⟨sl,rfl,?_,jO.refl _ _ _⟩⟩
 ·have hc:I l<=16384:=abL
  obtain⟨s,w1,f,i,k3,d⟩:=BX h.buf m J a;have F4:∀g,s.a=aM ⟨g,0,aaf⟩->b<g:=λg hg=>by
   rcases d with e | e
   ·rw[e]at hg;exact(h.buf.lt hg).1
   rw[e]at hg;injection hg with hg;injection hg with hg;omega
  refine⟨sl,Blk.dM h.blk 0 rfl,s,w1,f,b,0,_,_,rfl,k3.blk h.blk λe=>by have:=(h.buf.lt e).1;omega,aaV,λw2 R j=>⟨s,rfl,⟨j,?_⟩,?_,?_⟩⟩
  ·rw[qy,aV hc];exact i.keep λg hg l=>R.block g l adW
  ·exact(k3.mono λk _ hk=>.inr hk).trans (R.p (F:=λk=>k=b) λx hx=>.inl ab5) λk hk=>.inl (.inl hk)
  intro k hk;rcases d with e | e
  ·rw[e]at hk;exact .inl hk
  rw[e]at hk;injection hk with hk;injection hk with hk;exact .inr J
 have hc:¬(I l)<=16384:=abO
 rw[qy,aR hc];exact h
end
abbrev RgC(d:Nat):Prop:=∀{F:aJ} {w:M} {b:Nat} {sl:Sl} {l:aH} {x:Ex} {c:aI},da d x=L->lI d x->tX d w F x c->(∀k,F k->k<b)->Pq w b sl l->I l<=16424->
 az Q 252 #[ae (aM ⟨b,0,aaf⟩),ah c.toArray] w λe a=>∃sl',e=ak (ai #[])/\Pq a b sl' (zE d x l)/\jO b sl w sl' a
def HW{d}(R:RgC d){F}{w}{b}{sl}{l}{x}{cs} wr (m:da d x=L) (n:lI d x) (p:tX d w F x cs) (i:∀k,F k->k<b) (hP:Pq w b sl l) (j:I l<=16424):
  az Q 279 #[ae (aM ⟨b,0,aaf⟩),ah cs.toArray,aj wr] w λe r=>∃sl',e=ak (ai #[])/\Pq r b sl' (xZ wr (zE d x (xq wr l)))/\jO b sl w sl' r:=by
 obtain⟨v,rfl⟩:=lW p;refine iW (arC _ _ _ _ _ _ _ _ ?_);intro q t T f c;have u:=hP.lb;have a:=hP.only c;have o:q≠b:=J
 have g:sl.a≠aM ⟨q,0,aaf⟩:=λe=>acz
 refine⟨λh=>∃s,Pq h b s (xq wr l)/\jO b sl t s h,?_,λhw=>(Bc a [40] aeJ).mono ?_,λhw=>⟨sl,by rw[hw];exact a,jO.refl _ _ _⟩⟩
 ·rintro h ⟨s,z,b⟩;refine(R m n ((ia d).keep (gV p c) λk hk W=>b.1.block k W (a.Xs (i k hk))) i z (Az _ _ j (aX _))).mono ?_;rintro _ B ⟨S,rfl,w,e⟩;refine⟨rfl,b.sm o g f e,λhw=>(Bc w [41] (by have:=(λA y=>K4 d (x:=x) A (P:=16424) m n y (aX _)) _ (Az wr l j (aX _));rw[bI];omega)).mono ?_,λhw=>⟨S,rfl,?_,(b.trans e).after c⟩⟩
  ·rintro _ x ⟨l,rfl,k,d⟩;refine⟨rfl,(b.trans e).sm o g f d,l,rfl,?_,((b.trans e).trans d).after c⟩;unfold xZ;rw[aV hw];exact k
  unfold xZ;rw[aR agE];exact w
 rintro _ w ⟨l,rfl,e,d⟩;refine⟨rfl,(jO.refl b sl t).sm o g f d,l,?_,d⟩;unfold xq;rw[aV hw];exact e
def WT{k j:Nat}{op}(hk:k<6)(a:((fx[k]?).getD [])[j]? =aM op):((qV[k]?).getD [])[j]? =aM (eX op.toNat):=by
 have h:j<4:=by
  have c:=(bf.1 a).1;have b:∀k,k<6->I ((fx[k]?).getD [])<=4:=X
  have:=b k hk;omega
 have g:∀k,k<6->∀j,j<4->∀o,((fx[k]?).getD [])[j]? =aM o->((qV[k]?).getD [])[j]? =aM (eX o.toNat):=by
  intro k hk j h o b
  match k,hk,j,h with
  | 0,_,0,_=>simp[fx]at b;subst b;rfl
  | 0,_,j+1,_=>simp[fx]at b
  | 1,_,0,_=>simp[fx]at b;subst b;rfl
  | 1,_,j+1,_=>simp[fx]at b
  | 2,_,0,_=>simp[fx]at b;subst b;rfl
  | 2,_,1,_=>simp[fx]at b;subst b;rfl
  | 2,_,j+2,_=>simp[fx]at b
  | 3,_,0,_=>simp[fx]at b;subst b;rfl
  | 3,_,1,_=>simp[fx]at b;subst b;rfl
  | 3,_,2,_=>simp[fx]at b;subst b;rfl
  | 3,_,3,_=>simp[fx]at b;subst b;rfl
  | 4,_,0,_=>simp[fx]at b;subst b;rfl
  | 4,_,1,_=>simp[fx]at b;subst b;rfl
  | 4,_,j+2,_=>simp[fx]at b
  | 5,_,0,_=>simp[fx]at b;subst b;rfl
  | 5,_,1,_=>simp[fx]at b;subst b;rfl
  | 5,_,2,_=>simp[fx]at b;subst b;rfl
  | 5,_,j+3,_=>simp[fx]at b
 exact g k hk j h op a
def NE{k}(hk:k<6):((fx[k]?).getD []).Nodup:=by
 have:∀k,k<6->((fx[k]?).getD []).Nodup:=X
 exact this k hk
def WU{op}(h:1<=op)(a:op<=13):op∈(fx[(fP op).toNat]?).getD []:=by
 have:∀n:Nat,n<14->1<=n->((n:Int))∈(fx[(fP n).toNat]?).getD []:=X
 have:=this op.toNat J J;rwa[jL J]at this
def Cf:∀d,RgC d
 | 0,_,_,_,_,_,_,_,_,_,h,_,_,_=>h.elim
 | d+1,u,N,b,sl,l,x,A,v,⟨n,R⟩,⟨t,B,E⟩,F,hP,p=>by
  subst B;refine iW (aru _ _ _ _ _ _ _ ?_);rw[da,aU]at v;obtain⟨h,ha⟩:=v;intro m w T c D;have H:=hP.lb;have a:=hP.only D;have C:=SliceF.only (ia d) X E D aaV;have o:m≠b:=J
  have f:sl.a≠aM ⟨m,0,aaf⟩:=λe=>acz
  have G:=hP.buf.len;have r:=jO.refl b sl w;have sub:∀{j:M} {g:Sl} {i:Nat} {y:Ex},jO b sl w g j->x.dC[i]? =aM y->∃ad s,cT t (i:Int) 6 ad/\ad.block<b/\aB j ad (oa y.k y.n y.s y.op s y.a)/\tX d j u y (oa y.k y.n y.s y.op s y.a):=fun{j g i y} m1 hy=>by
   have S:=SliceF.lO (ia d) X C m1.1 λk hk _=>a.Xs (F k hk);have P:=S.len;have W:=(bf.1 hy).1;obtain⟨ad,V,A,q,b,x,z,y,e⟩:=S.get (aZ i) J;rw[aW,hy]at b;injection b with b;subst b;obtain⟨s,rfl⟩:=lW e;exact⟨ad,s,q,F _ x,y,e⟩
  refine⟨sl,Blk.dM a.blk 0 rfl,λhc=>⟨sl,rfl,?_,jO.only D⟩,λhc=>?_⟩
  ·rw[zE,aV abL];exact a
  have hc:¬16384<I l:=abO
  have P:zE (d+1) x l=(if x.k=1 then qy l (Lib.itoa x.n)
  else if x.k=2 then qy l x.s
  else if x.k=3 then qy l ([105,110,40]++x.s++[41])
  else if x.k=4 then(match x.dC with
   | [y]=>xZ (y.k==5) (zE d y (xq (y.k==5) (qy l (eX x.op.toNat))))
   | _=>l)
  else(match x.dC with
   | [y,z]=>xZ (decide (cM z<=cM x)) (zE d z (xq (decide (cM z<=cM x)) (qy (xZ (decide (cM y<cM x)) (zE d y (xq (decide (cM y<cM x)) l))) ([32]++eX x.op.toNat++[32]))))
   | _=>l)):=by rw[zE,aR hc]
  refine⟨λhk=>?_,λk1=>⟨λhk=>?_,λk2=>⟨λhk=>⟨?_,?_,?_⟩,λk3=>⟨λhk=>?_,λk4=>⟨λ_=>?_,λS=>?_⟩⟩⟩⟩⟩
  ·have hk:x.k=1:=abI
   have e:0<=x.n:=by
    rw[iq,aV hk]at h;have:=(xz h).1;split at this<;>omega
   refine(WR w e n.2).mono ?_;rintro _ j ⟨rfl,b⟩;have i:=Lib.itoa_length_le x.n n.1 n.2;refine⟨_,rfl,b.same aba,(Bc (a.only b) (Lib.itoa x.n) J).mono ?_⟩;rintro _ k ⟨Y,rfl,d,y⟩;exact⟨rfl,(jO.only b).sm o f c y,Y,rfl,by rw[P,aV hk];exact d,(y.after b).after D⟩
  ·have hk:x.k=2:=abI
   have k1:x.k≠1:=J
   have d:=iP (kw h (.inl hk));refine(Bc a x.s J).mono ?_;rintro _ e ⟨Y,rfl,b,y⟩;exact⟨rfl,r.sm o f c y,Y,rfl,by rw[P,aR k1,aV hk];exact b,y.after D⟩
  ·have hk:x.k=3:=abI
   have b:=iP (kw h (.inr hk));rw[cJ];omega
  ·have hk:x.k=3:=abI
   have b:=iP (kw h (.inr hk));rw[inz];have:(ao #[105,110,40]).size=3:=rfl;omega
  ·have hk:x.k=3:=abI
   have d:=iP (kw h (.inr hk));have i:I ([105,110,40]++x.s++[41]:aH)=I x.s+4:=by
    rw[aO,aO];simp only[ba,bK];omega
   rw[inb];refine(Bc a _ J).mono ?_;rintro _ e ⟨Y,rfl,b,y⟩;exact⟨rfl,r.sm o f c y,Y,rfl,by rw[P,aR J,aR J,aV hk];exact b,y.after D⟩
  ·have hk:x.k=4:=abI
   obtain⟨y,hy,Y⟩:=vM h hk;have k:da d y=L:=acb
   have V:lI d y:=R y adD;have W:=mE x.op.toNat;have q:zE (d+1) x l=xZ (y.k==5) (zE d y (xq (y.k==5) (qy l (eX x.op.toNat)))):=by rw[P,aR J,aR J,aR J,aV hk,hy]
   refine⟨λz=>∃e,Pq z b e (qy l (eX x.op.toNat))/\jO b sl w e z,?_,λho=>?_,λho=>?_⟩
   ·rintro z ⟨e,h5,m5⟩;obtain⟨p1,s,x,e2,_,_⟩:=sub (i:=0) m5 adm;refine⟨p1,x,λw6 dY=>?_⟩;have m6:=m5.trans (jO.only dY);obtain⟨aS,bY,am,bV,b,aC⟩:=sub (i:=0) m6 (y:=y) adm;have:=cT.Xl am x;subst this;refine⟨_,_,_,_,_,_,b,aS,x,y.k,b.dM 0 _ rfl,(HW (Cf d) (y.k==5) k V aC F (h5.only dY) (uD _ _ J p (aX _))).mono ?_⟩;rintro _ w7 ⟨aT,rfl,h7,m7⟩;exact⟨rfl,m6.sm o f c m7,aT,rfl,by rw[q];exact h7,(m6.trans m7).after D⟩
   ·have ho:x.op=14:=agZ
    refine(Bc a [45] aeJ).mono ?_;rintro _ y ⟨b,rfl,i,d⟩;exact⟨rfl,r.sm o f c d,b,by rw[ho];exact i,d⟩
   have ho:x.op=15:=by
    have:x.op≠14:=agZ
    omega
   refine(Bc a [33] aeJ).mono ?_;rintro _ y ⟨b,rfl,i,d⟩;exact⟨rfl,r.sm o f c d,b,by rw[ho];exact i,d⟩
  ·have k1:x.k≠1:=aef
   have k2:x.k≠2:=ag9
   have k3:x.k≠3:=aeg
   have k4:x.k≠4:=aeh
   obtain⟨hk,y,z,hy,XG,NT⟩:=qO h k1 k2 k3 k4;have AO:da d y=L/\da d z=L:=acb
   have EX:lI d y:=R y adD;have TK:lI d z:=R z adD;have X2:=mE x.op.toNat;have gT:cM x=fP x.op:=by rw[cM,aV hk]
   obtain⟨r0,r5⟩:=Ca XG NT;have iF:zE (d+1) x l=xZ (decide (cM z<=cM x)) (zE d z (xq (decide (cM z<=cM x)) (qy (xZ (decide (cM y<cM x)) (zE d y (xq (decide (cM y<cM x)) l))) ([32]++eX x.op.toNat++[32])))):=by rw[P,aR k1,aR k2,aR k3,aR k4,hy]
   refine(zD (show tX (d+1) _ u x (oa x.k x.n x.s x.op t x.a)from⟨t,rfl,C⟩)).mono ?_;rintro _ dA ⟨rfl,dR⟩;have z0:=D.size;have LA:=dR.size;refine⟨_,rfl,dR.same aba,(Nz dA).mono ?_⟩;rintro _ dL ⟨l2,rfl,hN,eh⟩;have Cj:=eh.size;have m0:=hN.len;have m6:I fx=6:=rfl;obtain⟨kr,cC⟩:∃kr:Nat,cM x=(kr:Int):=⟨(cM x).toNat,J⟩
   have f7:kr<6:=J
   obtain⟨p2,Y,iN,e1,e2,e3,e4,e5,l3,rfl,hM⟩:=(SliceF.inHeap (wY nU) hN X).get (i:=cM x) J J;have dO:(fx[kr]?).getD []=Y:=by
    rw[cC,aW]at e2;rw[e2];rfl
   refine⟨l2,rfl,eh.same aba,p2,e1,l3,e5,λez eM=>?_⟩;have f8:jO b sl w sl ez:=jO.only ((dR.cn eh).cn eM);have Yl:=a.only ((dR.cn eh).cn eM);have gE:=SliceF.only nU X hM eM aaV;have iS:=eM.size;obtain⟨p3,s,f1,f2,f3,f4⟩:=sub (i:=0) f8 (y:=y) adm;refine⟨λk=>k<b∨k=m,.inr rfl,p3,f1,.inl f2,_,_,_,_,_,_,f3,p3,f1,_,_,_,_,_,_,f3,(zD f4).mono ?_⟩;rintro _ fj ⟨rfl,dV⟩;have SX:=dV.size;have eQ:=f8.trans (jO.only dV);have ip:I (xq (decide (cM y<cM x)) l)<=16424:=Az _ _ p (aX _);refine⟨_,rfl,dV.same aba,bR.only dV,(HW (Cf d) (decide (cM y<cM x)) AO.1 EX (gV f4 dV) F (Yl.only dV) p).mono ?_⟩;rintro _ fU ⟨S0,rfl,TS,cc⟩;have co:=eQ.trans cc;have XN:=cc.1.size;generalize hA:xZ (decide (cM y<cM x)) (zE d y (xq (decide (cM y<cM x)) l))=fd at*
   have gO:I fd<=16424:=by rw[<-hA];exact HV _ _ (K4 d _ AO.1 EX ip (aX _)) (aX _)
   have gG:∀{gC:M} {LM:Sl},jO b S0 fU LM gC->aA DU 1 gC (λk=>dA.heap.size<=k/\k<dL.heap.size) l3 Y:=fun{gC LM} W=>by
    have d:jO b sl ez LM gC:=((jO.only dV).trans cc).trans W;refine SliceF.lO nU X gE d.1 λk hk _ h=>?_;rcases h with e | e
    ·omega
    have:=(a.buf.lt e).2;omega
   have t1:=hM.len;have t2:=hM.cap;have t3:=hM.big;refine⟨rfl,eQ.sm o f c cc,eQ.kp a o f c cc,λnv i gC=>∃(V:Nat) (LM:Sl),V<=I Y/\i=(V:Int)/\nv=(I Y)-V/\Pq gC b LM (if x.op∈Y.take V then qy fd ([32]++eX x.op.toNat++[32])else fd)/\jO b S0 fU LM gC,I Y,⟨0,S0,bm _,rfl,rfl,by rw[ci,aR aaV];exact TS,jO.refl _ _ _⟩,?_⟩;rintro nv _ gC ⟨V,LM,hj,rfl,rfl,Cm,W⟩;have iD:Y.Nodup:=dO▸NE f7;refine⟨λbW=>?_,λnA kZ jt=>?_⟩
   ·have bW:(V:Int)<(l3.n:Int):=aN bW;obtain⟨p5,q,lE,g1,y,g3,g4,g5,g6⟩:=(gG W).get (aZ V) bW;unfold DU at g6;subst g6;rw[aW]at y;refine⟨λz=>∃d:Sl,Pq z b d (if x.op∈Y.take (V+1)then qy fd ([32]++eX x.op.toNat++[32])else fd)/\jO b S0 fU d z,?_,p5,g1,q,g5,λhe im iz=>(WH im).mono ?_,λhe iU jT=>⟨LM,?_,W.trans (jO.only jT)⟩⟩
    ·rintro z ⟨d,b,e⟩;exact⟨(I Y)-(V+1),J,V+1,d,J,aaA,rfl,b,e⟩
    ·have he:q=x.op:=abX
     subst he;rintro _ iR ⟨l6,rfl,e,jR⟩;have n0:=e.len;have n6:I qV=6:=rfl;obtain⟨p6,x6,oR,u1,u2,u3,u4,u5,l7,rfl,hS⟩:=e.get (i:=cM x) J J;have oN:(qV[kr]?).getD []=x6:=by
      rw[cC,aW]at u2;rw[u2];rfl
     have b:=WT (k:=kr) (j:=V) f7 (by rw[dO];exact y);rw[oN]at b;have v0:=hS.len;obtain⟨p7,s7,pi,v1,v2,v3,v4,v5,v6⟩:=hS.get (i:=(V:Int)) (aZ V) (by have:=(bf.1 b).1;omega);unfold ke at v6;subst v6;rw[aW,b]at v2;injection v2 with v2;subst v2;have yt:(ao #[32]).size=1:=rfl;have lT:=W.trans (jO.only (iz.cn jR));have ye:I ([32]++eX x.op.toNat++[32]:aH)=I (eX x.op.toNat)+2:=by
      rw[aO,aO];simp only[ba,bK];omega
     have mK:x.op∉Y.take V:=λhm=>by
      obtain⟨k,i⟩:=ig hm;rw[xr]at i;split at i
      ·rename_i q;have:=(List.getElem?_inj J iD).1 (i.trans y.symm);omega
      cases i
     rw[aR mK]at Cm;refine⟨l6,rfl,jR.same (by
      have:=co.1.size;have:=W.1.size;have:=iz.size;simp;omega),p6,u1,l7,u5,p7,v1,_,v5,abN,by rw[inz];omega,?_⟩
     rw[blb];refine(Bc (Cm.only (iz.cn jR)) _ J).mono ?_;rintro _ kf ⟨nO,rfl,oF,mt⟩;refine⟨rfl,(co.trans lT).sm o f c mt,nO,?_,lT.trans mt⟩;rw[aV (by rw[bq,y];simp)];exact oF
    have he:q≠x.op:=abX
    have:(x.op∈Y.take (V+1))↔(x.op∈Y.take V):=by
     rw[bq,y,cj];simp;intro e;exact absurd e.symm he
    simp only[this];exact Cm.only jT
   have nA:¬(V:Int)<(l3.n:Int):=aQ nA;have:V=I Y:=J
   subst this;have tO:x.op∈Y.take (I Y):=by
    rw[bp (aX _)];have:=WU XG NT;rw[<-gT,cC,aW,dO]at this;exact this
   rw[aV tO]at Cm;have e:=(co.trans W).trans (jO.only jt);obtain⟨p8,sz,f1,f2,f3,f4⟩:=sub (i:=1) e (y:=z) adm;refine⟨λk=>k<b∨k=m,.inr rfl,p8,f1,.inl f2,_,_,_,_,_,_,f3,p8,f1,_,_,_,_,_,_,f3,(zD f4).mono ?_⟩;rintro _ mV ⟨rfl,oU⟩;have q:=e.trans (jO.only oU);have ut:=e.1.size;have ye:I ([32]++eX x.op.toNat++[32]:aH)<=40:=by
    rw[aO,aO];simp only[ba,bK];omega
   refine⟨_,rfl,oU.same aba,bR.only oU,(HW (Cf d) (decide (cM z<=cM x)) AO.2 TK (gV f4 oU) F ((Cm.only jt).only oU) (uD _ _ ye gO (aX _))).mono ?_⟩;rintro _ po ⟨pP,rfl,rx,pm⟩;exact⟨rfl,q.sm o f c pm,q.kp a o f c pm,pP,rfl,by rw[iF];exact rx,(q.trans pm).after D⟩
  have k1:x.k≠1:=aef
  have k2:x.k≠2:=ag9
  have k3:x.k≠3:=aeg
  have k4:x.k≠4:=aeh
  have S:x.k≠5:=by simpa using S
  exact absurd (qO h k1 k2 k3 k4).1 S
def Bf.bytes{w:M}{B:Nat}{s:Sl}{l:aH}(h:Bf w B s l):uJ w s l:=by
 rcases h with⟨rfl,rfl⟩ | ⟨g,tail,a,d,b,e,c,f,i,j⟩
 ·exact⟨rfl,λh=>absurd rfl h⟩
 exact⟨c,λ_=>⟨⟨g,0,aaf⟩,a,b.cells 0 (l.map iA) λk v hj=>acW⟩⟩
def abk{d:Nat}{w:M}{F:aJ}{x:Ex}{s:aI}(a:tX d w F x s)(l:∀e,xy e x)(n:lI d x):
  az Q 221 #[ah s.toArray] w λe g=>e=ak (ai #[K (T (pC d x)),aj (Ay d x)])/\Z [] w g:=by
 obtain⟨v,rfl⟩:=lW a;refine ret (arr _ _ _ _ _ _ ?_);intro q r p o D;have i:=(ia d).inHeap a;refine(K2 d l (gV a D)).mono ?_;rintro _ u ⟨rfl,E⟩;have z:=D.size;have y:=E.size;have j:=D.cn E;refine⟨_,rfl,E.same aba,λhs=>?_,λhs b m A S R f=>?_⟩
 ·have hs:da d x=aL:=aht
  rw[Ay,pC,aR ad3];exact⟨rfl,j⟩
 have hs:da d x=L:=aht
 have z2:=R.size;have mJ:=j.cn R;have V:Pq m b Sl.nil []:=⟨f,.inl ⟨rfl,rfl⟩⟩
 refine(Cf d hs n (gV i mJ) (λk hk=>ab9) V X).mono ?_;rintro _ w3 ⟨H,rfl,C,P⟩;have z3:=P.1.size;have di:Z [] w w3:=(mJ.oQ P.1).only λk hk=>by
  rcases hk with rfl | e
  ·omega
  cases e
 obtain⟨B,Re⟩:=Sv hs n;have ik:zE d x []≠[]:=by
  intro e;obtain⟨c,t,k,_⟩:=wW d aL hs n;have h:=ND d (x:=x) [] hs;by_cases fi:I (mU d x aL)<=16384
  ·have:=h.1 ack;rw[e,k]at this;simp at this
  have:=h.2 ack;rw[e]at this;simp at this
 generalize hG:zE d x []=G at*
 refine⟨rfl,P.same J (λe=>ad2) J,H,C.blk,G,C.buf.bytes,(abg w3 G).mono ?_⟩;rintro _ w4 ⟨ys,rfl,hY,W⟩;have z4:=W.size;obtain⟨d2,am⟩:=hY.ex;obtain⟨yl,rfl,_⟩:=hY.cells;have sE:=W.blk C.blk aaV;refine⟨_,_,_,_,_,_,_,_,rfl,W.same aba,H,sE,λk2 k3 w5 qF rn xF sA T u7=>?_⟩;have z5:=T.size;have EU:=(di.cn W).cn T;refine(U6 aL d (gV a EU) (gV am T)).mono ?_;rintro _ w6 ⟨rfl,Y⟩;have N8:=EU.cn Y;have aC:((ao G.toArray).size:Int)=(I G:Int):=by
  have:(ao G.toArray).size=I G:=cJ G;rw[this]
 refine⟨_,rfl,Y.same aba,H,Y.blk u7 aaV,?_⟩;rw[aC];by_cases N:16384<I G∨(jh G).2.1≠0
 ·have c:(decide ((I G:Int)>16384)||((jh G).2.1 !=0))=L:=by
   rcases N with h | h
   ·rw[bE J,Ov]
   have:((jh G).2.1 !=0)=L:=abT
   rw[this,oV]
  rw[c,Ov];rw[aV N]at B;refine⟨λ_=>?_,λh=>abG⟩;rw[Ay,B];exact⟨rfl,N8⟩
 have t:I G<=16384:=J
 have k:(jh G).2.1=0:=by
  refine bT λh=>N (.inr h)
 have e:=Re k t;have c:Sim x (jh G).1:=by
  have:=WC hs n (by rw[<-e];exact k);rw[<-e]at this;exact this.2
 rw[aR N]at B;rw[c.same d,k,bD J];refine⟨λh=>abG,λ_=>?_⟩;rw[Ay,B,bE ik];exact⟨rfl,N8⟩
section
variable {w:M} {F:aJ} {x:Ex} {cs:aI}
def K5(c:rE aL w F x cs)(n:YU x)(s:Di x<=1759218604441):
  az Q 221 #[ah cs.toArray] w λe a=>e=ak (ai #[K (T (A6 x)),aj (vU x)])/\Z [] w a:=by
 obtain⟨d,h⟩:=c;have h:=Aj h;refine(abk h (λe=>M3 e x J) (n d)).mono ?_;rintro _ a ⟨rfl,b⟩;rw[Ay,PA (M1 h)];exact⟨rfl,b⟩
def FQ(h:rE aL w F x cs)(n:YU x)(s:Di x<=1759218604441):
  az Q 219 #[ah cs.toArray] w λe a=>e=ak (aj (vU x))/\Z [] w a:=by
 obtain⟨sl,rfl⟩:=fp h;refine ret (arq _ _ _ _ _ _ ?_);intro g i f d c;refine(K5 ((jp aL).keep h λk _ b=>c.block k b aaV) n s).mono ?_;rintro _ j ⟨rfl,E⟩;exact⟨_,_,rfl,E.same aba,rfl,c.cn E⟩
def HX(h:rE aL w F x cs)(n:YU x)(s:Di x<=1759218604441):
  az Q 197 #[ah cs.toArray] w λe a=>e=ak (K (T (A6 x)))/\Z [] w a:=by
 obtain⟨sl,rfl⟩:=fp h;refine ret (alH _ _ _ _ _ _ ?_);intro g i f d c;refine(K5 ((jp aL).keep h λk _ b=>c.block k b aaV) n s).mono ?_;rintro _ j ⟨rfl,E⟩;exact⟨_,_,rfl,E.same aba,rfl,c.cn E⟩
def QE(h:rE aL w F x cs):
  az Q 220 #[ah cs.toArray] w λe a=>e=ak (aj (tj x))/\Z [] w a:=by
 obtain⟨d,h⟩:=h;have h:=Aj h;cases d with
 | zero=>exact h.elim
 | succ d=>
 obtain⟨sl,rfl,s⟩:=h;refine ret (alP _ _ _ _ _ _ ?_);intro k w f d c;have l:=s.len;have e:((T x.s).toList==((ao #[]).toList))=decide (x.s=[]):=iV x.s [];rw[e,l];exact⟨rfl,c⟩
end
def _root_.Go.Kt.Cells.part{w:M}{p:Addr}{c d:aI}(h:aB w p c)(n:Nat)(hd:∀j v,d[j]? =aM v->c[n+j]? =aM v):aB w (p.add n) d:=λj v a=>by
 rw[qG];exact h _ v (hd j v a)
def tF{c:aI}{n i:Nat}{v u:aw}(h:[u][i]? =aM v)(a:c[n]? =aM u):c[n+i]? =aM v:=by
 cases i with
 | zero=>
  rw[cw,bN]at h;subst h;exact a
 | succ i=>simp at h
def K6{k:Int}{n:aH}{x:aI}{a:Int}{i:Nat}{v:aw}(h:x[i]? =aM v):(acv k n x a)[2+i]? =aM v:=by
 rw[fV];show(x++[Value.int U a])[i]? =aM v;rw[bX (bf.1 h).1];exact h
abbrev uE(w:M)(b:Nat)(n m a:Int):Prop:=aF w b 238 [O U n,O U m,O U a]
def only1{b:Nat}{w a:M}(h:Z [] w a):Z [b] w a:=h.weaken (bs':=[b]) λ_ h=>abG
def gL{b:Nat}{w a u:M}(h:Z [b] w a)(k:Z [b] a u):Z [b] w u:=h.trans k λx c=>.inl c
section
variable {w:M} {F:aJ} {b:Nat} {n m a:Int}
def AA{l:Sl}{c:List Ac}(hc:uE w b n m a)(s:kx aL (qv aL) 9 161 w F l c)(x:∀k,F k->k≠b)(z:∀y,y∈c->Vm y)(G:jF c<=8388608)(C:0<=a)(q:a<=1152921504606846976):
  az Q 194 #[ae (aM ⟨b,0,aaf⟩),l.v] w λe t=>e=ak (aj (c.all kQ))/\(∃d:Int,uE t b n m d/\(a<=d/\d<=a+I c)/\(c.all kQ=L->d=a+I c))/\Z [b] w t:=by
 refine ret (arl _ _ ?_);have E:=s.1.len;have A:=gI c;have kp:∀{u:M},Z [b] w u->aA (qv aL) 9 u F l c:=λf=>SliceF.only (dy aL) X s.1 f λk hk _ hm=>x k hk abR;refine⟨λr i u=>∃(j:Nat),i=(j:Int)/\r+j=I c/\j<=I c/\(c.take j).all kQ=L/\uE u b n m (a+j)/\Z [b] w u,I c,⟨0,rfl,J,bm _,rfl,abv,Only.refl _ _⟩,?_⟩;rintro r _ u ⟨j,rfl,H,D,o,B,f⟩;refine⟨λg=>?_,λg=>?_⟩;rotate_left
 ·have g:=aQ g;have a:j=I c:=J
  subst a;rw[ii]at o;rw[o];exact⟨rfl,⟨_,B,J,λ_=>rfl⟩,f⟩
 have g:=aN g;have mf:j<I c:=J
 obtain⟨y,W⟩:∃y,c[j]? =aM y:=⟨_,bh mf⟩
 have Y:=bB W;have Ri:=qR Y;unfold FC at Ri;have at_:∀{v:M},Z [b] w v->∃ad R,cT l (j:Int) 9 ad/\aB v (ad.add 0) [O U y.k]/\aB v (ad.add 1) [K (T y.n)]/\aB v (ad.add 2) (oa y.x.k y.x.n y.x.s y.x.op R y.x.a)/\rE aL v F y.x (oa y.x.k y.x.n y.x.s y.x.op R y.x.a):=fun{v} hv=>by
  obtain⟨ad,y,e,S,N,q3,q4,P,b⟩:=(kp hv).get (aZ j) J;rw[aW,W]at N;injection N with N;subst N;obtain⟨m,rfl,a⟩:=b;obtain⟨R,rfl⟩:=fp a;exact⟨ad,R,S,P.part 0 λi v h=>tF h rfl,P.part 1 λi v h=>tF h rfl,P.part 2 λi v h=>K6 h,a⟩
 refine⟨a+j,Blk.dM B 2 rfl,b,2,_,_,rfl,B,aaV,λw1 cE V=>?_⟩;rw[fe J J]at V;have V:uE w1 b n m (a+j+1):=V;have o1:=gL f cE;obtain⟨ad,R,g1,g2,g3,g4,g5⟩:=at_ o1;refine⟨ad,g1,_,g3,(rI w1 y.n J).mono ?_⟩;rintro _ w2 ⟨rfl,cR⟩;have o2:=gL o1 (only1 cR);have nj:=cR.blk V aaV;obtain⟨xf,am,p1,p2,p3,p4,p5⟩:=at_ o2;refine⟨_,rfl,xf,p1,_,_,_,_,_,_,p4,(FQ p5 (z y Y) J).mono ?_⟩;rintro _ w3 ⟨rfl,di⟩;have o3:=gL o2 (only1 di);have tN:=di.blk nj aaV;obtain⟨Cp,aC,S,N,q3,q4,P⟩:=at_ o3;have kH:∀k,k=(if y.k=2 then tj y.x else vU y.x)->((((decide (y.k<1))||(decide (y.k>3)))||(!dP y.n))||(!k))=!kQ y:=λk e=>by
  rw[e];unfold kQ;by_cases q:y.k<1
  ·rw[bE q,bD (p:=1<=y.k/\y.k<=3) (λh=>J)];rfl
  by_cases a:y.k>3
  ·rw[bE a,bD (p:=1<=y.k/\y.k<=3) (λh=>J),oV];rfl
  rw[bD q,bD a,bE (p:=1<=y.k/\y.k<=3) J,qc,qc,cm,BK]
 refine⟨_,rfl,λk w4=>Z [] w3 w4/\k=(if y.k=2 then tj y.x else vU y.x),?_,Cp,S,_,N,λhk=>⟨Cp,S,_,_,_,_,_,_,q4,(QE P).mono ?_⟩,λhk=>⟨Only.refl _ _,by rw[aR abI]⟩⟩
 ·rintro k w4 ⟨p,n⟩;have m:=gL o3 (only1 p);have v:=p.blk tN aaV;obtain⟨b,T,w,F,t3,t4,t5⟩:=at_ m;refine⟨b,w,y.k,F,b,λ_=>w,y.k,λ_=>F,λe=>?_,λe=>?_⟩
  ·rw[kH k n,dr]at e;have:c.all kQ=aL:=by
    rw[yz];exact⟨y,Y,by rw[e];simp⟩
   rw[this];exact⟨rfl,⟨_,v,J,λh=>abG⟩,m⟩
  rw[kH k n,gY]at e;refine⟨r-1,J,j+1,aaA,J,J,?_,by rw[show a+((j+1:Nat):Int)=a+j+1 by omega];exact v,m⟩;rw[bq,W,iK,o];simp[e]
 rintro _ w ⟨rfl,e⟩;exact⟨_,rfl,e,by rw[aV abI]⟩
end
section
variable {w:M} {F:aJ} {b:Nat} {n m a:Int}
def HY(x:Mv):((((((decide (x.k>=1)&&decide (x.k<=3))&&(if x.k=1 then dP x.ev else decide (x.ev=[])))&&(if x.gd then vU x.g else tj x.g))&&x.acts.all kQ)&&((x.wt==0)||((x.k==3)&&(decide (x.wt>0)))))&&x.tg.all dP)=pU x:=by
 unfold pU;rw[bM];simp only[aU,cu,bF,db];constructor
 ·rintro⟨⟨⟨⟨⟨⟨h,a⟩,b⟩,c⟩,d⟩,e⟩,f⟩;exact⟨⟨⟨⟨⟨⟨h,a⟩,b⟩,c⟩,d⟩,f⟩,e⟩
 rintro⟨⟨⟨⟨⟨⟨h,a⟩,b⟩,c⟩,d⟩,f⟩,e⟩;exact⟨⟨⟨⟨⟨⟨h,a⟩,b⟩,c⟩,d⟩,e⟩,f⟩
def Sw{x:Mv}{d:aI}(q:uE w b n m a)(hx:Iz aL w F x d)(f:∀k,F k->k≠b)(r:mvN x)(Y:El x<=8388608)(S:0<=a)(V:a<=1152921504606846976)(h2:0<=m)(h3:m<=1152921504606846976):
  az Q 195 #[ae (aM ⟨b,0,aaf⟩),ah d.toArray] w λe B=>e=ak (aj (pU x))/\(∃v p:Int,uE B b n v p/\(pU x=L->v=m+1/\p=a+I x.acts))/\Z [b] w B:=by
 obtain⟨gc,rM,tg,rfl,g,H,om⟩:=hx;obtain⟨R,rfl⟩:=fp g;unfold El at Y;have EJ:=q.lt;refine ret (arm _ _ _ _ _ _ _ _ _ _ _ _ _ _ ?_);intro k0 l fT dZ D;have z0:=D.size;have C:=D.blk q aaV;have G:∀{u:M},Z [b] w u->rE aL u F x.g (oa x.g.k x.g.n x.g.s x.g.op R x.g.a):=λc=>(jp aL).keep g λk hk W=>c.block k W (by simpa using f k hk);have kA:∀{u:M},Z [b] w u->kx aL (qv aL) 9 161 u F rM x.acts:=λc=>H.keep (dy aL) X λk hk W=>c.block k W (by simpa using f k hk);have i:∀{u:M},Z [b] w u->aA ke 1 u F tg x.tg:=λc=>SliceF.only cY X om.1 c λk hk _ hm=>f k hk abR;have sm:∀{u A:M},l.heap.size<=u.heap.size->Z [b] u A->cr [k0] u A:=λhz c=>c.same aba;refine⟨m,Blk.dM C 1 rfl,b,1,_,_,rfl,C,aaV,J,λo E t=>?_⟩;have y:Z [b] w o:=gL (only1 D) E;have z1:=E.size;rw[fe J J]at t;have t:uE o b n (m+1) a:=t;have N:((T x.ev).toList==((ao #[]).toList))=decide (x.ev=[]):=iV x.ev [];refine⟨λj u=>j=(if x.k=1 then dP x.ev else decide (x.ev=[]))/\Z [b] w u/\l.heap.size<=u.heap.size/\uE u b n (m+1) a,λj w2 ⟨P,z,z2,nj⟩=>?_,λhk=>(rI o x.ev J).mono ?_,λhk=>⟨by rw[aR abI,N],y,J,t⟩⟩
 ·refine(QE (G z)).mono ?_;rintro _ w3 ⟨rfl,e⟩;have o3:=gL z (only1 e);have z3:=e.size;have tN:=e.blk nj aaV;refine⟨_,rfl,sm z2 (only1 e),λk u=>k=(if x.gd then vU x.g else tj x.g)/\Z [b] w u/\l.heap.size<=u.heap.size/\uE u b n (m+1) a,λk w4 ⟨F,o4,z4,sE⟩=>?_,λg=>(FQ (G o3) r.1 J).mono ?_,λg=>⟨by rw[g];rfl,o3,J,tN⟩⟩
  ·refine(AA sE (kA o4) f r.2 J S V).mono ?_;rintro _ w5 ⟨rfl,⟨a5,u7,_,am⟩,w⟩;have n:=gL o4 w;have z5:=w.size;have EI:=(i n).len;have aC:=(i n).big;have aS:=(i n).cap;refine⟨_,rfl,sm z4 w,λkv aT u=>∃a:Nat,aT=(a:Int)/\kv+a=I x.tg/\a<=I x.tg/\(x.tg.take a).all dP=L/\Z [] w5 u,I x.tg,⟨0,rfl,J,bm _,rfl,Only.refl _ _⟩,?_⟩;rintro kv _ w6 ⟨a,rfl,pZ,hj,gy,b⟩;have z6:=b.size;have o6:=gL n (only1 b);refine⟨λm=>?_,λm=>?_⟩
   ·have m:=aN m;obtain⟨ad,s,d,g1,g2,g3,g4,g5,g6⟩:=(i o6).get (aZ a) J;rw[aW]at g2;have g6:d=[K (T s)]:=g6;subst g6;have wo:=bB g2;have rK:I s<=Ku x.tg:=by
     have:=Hy wo;omega
    refine⟨ad,g1,_,g5,(rI w6 s J).mono ?_⟩;rintro _ w7 ⟨rfl,gq⟩;refine⟨_,rfl,sm J (only1 gq),λhh=>?_,λhh=>⟨kv-1,J,a+1,aaA,J,J,?_,b.cn gq⟩⟩
    ·have hh:dP s=aL:=adP
     have:pU x=aL:=by
      rw[<-HY,show x.tg.all dP=aL by rw[yz];exact⟨s,wo,by rw[hh];simp⟩,gQ]
     rw[this];exact⟨rfl,⟨_,_,(b.cn gq).blk u7 aaV,λh=>abG⟩,gL o6 (only1 gq)⟩
    have hh:dP s=L:=adP
    rw[bq,g2,iK,gy];simp[hh]
   have m:=aQ m;have s:a=I x.tg:=J
   subst s;rw[ii]at gy;have h:((((((decide (x.k>=1))&&(decide (x.k<=3)))&&j)&&k)&&x.acts.all kQ)&&((x.wt==0)||((x.k==3)&&(decide (x.wt>0)))))=pU x:=by
    rw[<-HY,gy,P,F,dK]
   rw[h];refine⟨rfl,⟨_,_,b.blk u7 aaV,λhm=>⟨rfl,am ?_⟩⟩,o6⟩;rw[<-HY]at hm;simp only[aU]at hm;exact hm.1.1.2
  rintro _ w ⟨rfl,a⟩;have b:=a.size;exact⟨_,rfl,sm J (only1 a),by rw[g];rfl,gL o3 (only1 a),J,a.blk tN aaV⟩
 rintro _ w ⟨rfl,a⟩;have b:=a.size;exact⟨_,rfl,sm J (only1 a),by rw[aV abI],gL y (only1 a),J,a.blk t aaV⟩
end
def kB(l:List Mv):Nat:=(l.map λm=>I m.acts).sum
def K7(l:List Mv)(m:Mv):kB (l++[m])=kB l+I m.acts:=by
 unfold kB;rw[cp,YN];simp
def AB:∀l:List Mv,kB l<=wa l
 | []=>bm _
 | m::l=>by
  have a:=gI m.acts;have b:=AB l;have h:kB (m::l)=I m.acts+kB l:=rfl;rw[wa,h];unfold El;omega
def K8(l:List Mv)(j:Nat):kB (l.take j)<=kB l:=by
 induction l generalizing j with
 | nil=>simp[kB]
 | cons m l i=>
  cases j with
  | zero=>exact bm _
  | succ j=>
   have:=i j;show (I m.acts)+kB (l.take j)<=I m.acts+kB l;omega
def WV(b:Nb):PB b<=wO b:=by
 have h:=gI b.en;have a:=gI b.lv;have c:=AB b.mv;have d:PB b=I b.en+I b.lv+kB b.mv:=rfl;unfold wO;omega
mutual
def agl:∀x:Nd,A7 x<=lf x
 | .mk b l=>by
  have h:=WV b;have a:=HZ l;rw[A7,lf];omega
def HZ:∀l:List Nd,rS l<=iZ l
 | []=>bm _
 | x::l=>by
  have h:=agl x;have a:=HZ l;rw[rS,iZ];omega
end
def K9:∀(l:List Nd) (j:Nat) {y:Nd},l[j]? =aM y->dx (l.take j)+iB y<=dx l
 | [],j,y,h=>abS
 | x::l,0,y,h=>by
  simp only[cw,bN]at h;subst h;rw[ci,dx,dx];omega
 | x::l,j+1,y,h=>by
  have:=K9 l j (y:=y) abT;rw[eJ,dx,dx];omega
def FR:∀(l:List Nd) (j:Nat) {y:Nd},l[j]? =aM y->iZ (l.take j)+lf y<=iZ l
 | [],j,y,h=>abS
 | x::l,0,y,h=>by
  simp only[cw,bN]at h;subst h;rw[ci,iZ,iZ];omega
 | x::l,j+1,y,h=>by
  have:=FR l j (y:=y) abT;rw[eJ,iZ,iZ];omega
def Bd{d:Nat}{y:Nd}:∀{l:List Nd},y∈l->lY d y=aL->jP d l=aL
 | x::l,h,y=>by
  rw[jP];rcases aY.1 h with rfl | h
  ·rw[y,cV]
  rw[Bd h y,gQ]
def rX(d:Nat)(n:Int)(x:Nd):Bool:=lY d x&&decide (n+iB x<=64)
def NcO(b:Nat)(w:M)(n e a:Int)(r:Bool)(x:Nd):Prop:=∃d m c:Int,uE w b d m c/\(r=L->d=n+iB x/\m=e+Dm x/\c=a+A7 x)
def FT{F:aJ}{b:Nat}(h:∀k,F k->k≠b):∀(D:Nat) {w:M} {n m a:Int} {d:Nat} {x:Nd} {c:aI},uE w b n m a->mz aL D w F x c->Fv x->lf x<=8388608->0<=n->n<=64->d<=100->0<=m->m+lf x<=1152921504606846976->0<=a->a+lf x<=1152921504606846976->
  az Q 157 #[ae (aM ⟨b,0,aaf⟩),ah c.toArray,O U (d:Int)] w λe f=>e=ak (aj (rX d n x))/\NcO b f n m a (rX d n x) x/\Z [b] w f
 | 0,_,_,_,_,_,_,_,_,a,_,_,_,_,_,_,_,_,_=>a.elim
 | D+1,w,n,m,a,d,.mk g i,c,hc,⟨en,lv,mv,kids,ix,xa,C⟩,hn,V,aT,am,aC,aS,Lw,E,H=>by
  dsimp only[Nd.kids,Nd.b]at ix xa C;subst ix;have hk:=C.1;rw[Fv]at hn;obtain⟨P,S⟩:=hn;obtain⟨yt,zU,N⟩:=P;obtain⟨he,hl,oS⟩:=xa;rw[lf]at V Lw H;have bV:=V;have zM:PB g=I g.en+I g.lv+kB g.mv:=rfl;have tK:=WV g;unfold wO at V;have EJ:=hc.lt;refine ret (arc _ _ _ _ _ _ _ _ _ _ _ ?_);have eN:iB (.mk g i)=dx i+1:=by rw[iB]
  have eO:lY d (.mk g i)=(decide (d<12)&&uq g (I i)&&jP (d+1) i):=by rw[lY]
  intro k0 A C dZ B;have z0:=B.size;have t:=B.blk hc aaV;have sm:∀{u u':M},A.heap.size<=u.heap.size->Z [b] u u'->cr [k0] u u':=λhz l=>l.same aba;have bad:rX d n (.mk g i)=aL->∀{u:M} {n' m' a':Int},Z [b] w u->uE u b n' m' a'->Value.bool aL=aj (rX d n (.mk g i))/\NcO b u n m a (rX d n (.mk g i)) (.mk g i)/\Z [b] w u:=λr {_ _ _ _} l hB=>⟨by rw[r],⟨_,_,_,hB,λj=>by rw[r]at j;cases j⟩,l⟩
  have kA:∀{u:M} {s:Sl} {q:List Ac},kx aL (qv aL) 9 161 w F s q->Z [b] w u->kx aL (qv aL) 9 161 u F s q:=λj l=>j.keep (dy aL) X λk hk bW=>l.block k bW (by simpa using h k hk);have eT:∀q:aH,((T q).toList==((ao #[]).toList))=decide (q=[]):=λq=>iV q [];rw[eT,eT];refine⟨n,Blk.dM t 0 rfl,b,0,_,_,rfl,t,aaV,J,λW cE G=>?_⟩;have o1:Z [b] w W:=gL (only1 B) cE;have z1:=cE.size;rw[fe J J]at G;have G:uE W b (n+1) m a:=G;refine(rI W g.nm J).mono ?_;rintro _ Y ⟨rfl,R⟩;have z:=gL o1 (only1 R);have z2:=R.size;have v:uE Y b (n+1) m a:=R.blk G aaV;refine⟨_,rfl,sm J (only1 R),n+1,λ_=>Blk.dM v 0 rfl,λo=>bad ?_ z v,λo=>?_⟩
  ·unfold rX;rw[eO,eN];simp only[cu,dr,bF]at o;rcases o with(j | j) | j
   ·unfold uq;rw[j];simp
   ·rw[bD (p:=d<12) J];rfl
   rw[bD (p:=n+((dx i+1:Nat):Int)<=64) J,gQ]
  simp only[dq,gY]at o;have co:n+1<=64:=by have:=aQ o.2;omega
  have bY:d<12:=by have:=aQ o.1.2;omega
  have T:dP g.nm=L:=o.1.1;have ET:=hk.len;have cc:=he.1.len;have L6:=hl.1.len;have Es:=oS.1.len;have s:lY d (.mk g i)=(uq g (I i)&&jP (d+1) i):=by rw[eO,bE bY,cm]
  refine⟨λhh=>(rI Y g.dft J).mono ?_,λhh=>?_⟩
  ·rintro _ w3 ⟨rfl,b⟩;have p:iu g.k=L:=by
    unfold iu;rw[cu,db,db]at hh;exact bE hh
   have x:(((((dP g.dft&&decide (g.ini=[]))&&((en.n:Int)==0))&&((lv.n:Int)==0))&&((mv.n:Int)==0))&&((kids.n:Int)==0))=rX d n (.mk g i):=by
    unfold rX;rw[s,eN];unfold uq;rw[T,p,aV rfl,cm,cc,L6,Es,ET,bM];simp only[aU,bF,db];constructor
    ·rintro⟨⟨⟨⟨⟨d,n⟩,e⟩,m⟩,y⟩,F⟩;have k:i=[]:=bP J;subst k;refine⟨⟨⟨d,n,bP J,bP J,J,rfl⟩,by rw[jP]⟩,by rw[dx];omega⟩
    rintro⟨⟨⟨d,n,e,m,y,F⟩,_⟩,_⟩;exact⟨⟨⟨⟨⟨d,n⟩,by rw[e];rfl⟩,by rw[m];rfl⟩,J⟩,J⟩
   refine⟨_,rfl,sm J (only1 b),by rw[x],⟨_,_,_,b.blk v aaV,λr=>?_⟩,gL z (only1 b)⟩;rw[<-x]at r;simp only[aU,db]at r;obtain⟨⟨⟨⟨_,e⟩,m⟩,y⟩,F⟩:=r;have k:i=[]:=bP J;subst k;have a:g.mv=[]:=bP J;rw[eN,Dm,A7,dx,uW,rS,zM,a];refine⟨J,aaV,?_⟩;have:kB []=0:=rfl;rw[this];omega
  have dO:iu g.k=aL:=by
   unfold iu;rw[dq,vf,vf]at hh;exact bD λe=>e.elim hh.1 hh.2
  have eB:uq g (I i)=(decide ((g.k=1∨g.k=2)/\g.dft=[])&&(decide (g.ini=[])||dP g.ini)&&g.en.all kQ&&g.lv.all kQ&&g.mv.all pU):=by
   unfold uq;rw[T,dO,cm];rfl
  refine⟨λb2 u=>b2=(decide (g.ini=[])||dP g.ini)/\Z [b] w u/\A.heap.size<=u.heap.size/\uE u b (n+1) m a,λb2 w4 ⟨cC,o4,z4,sE⟩=>?_,λhi=>(rI Y g.ini J).mono ?_,λhi=>⟨?_,z,J,v⟩⟩;rotate_left
  ·rintro _ d ⟨rfl,e⟩;have a:=e.size;refine⟨_,rfl,sm J (only1 e),?_,gL z (only1 e),J,e.blk v aaV⟩;have:decide (g.ini=[])=aL:=acg
   rw[this,qc]
  ·have:decide (g.ini=[])=L:=acg
   rw[this,Ov]
  have f7:=gI g.en;have f8:=gI g.lv;refine(AA sE (kA he o4) h yt J E J).mono ?_;rintro _ w5 ⟨rfl,⟨a5,u7,gE,eQ⟩,eW⟩;have o5:=gL o4 eW;have z5:=eW.size;refine⟨_,rfl,sm z4 eW,(AA u7 (kA hl o5) h zU J J J).mono ?_⟩;rintro _ w6 ⟨rfl,⟨a6,Ra,gG,fd⟩,dY⟩;have o6:=gL o5 dY;have z6:=dY.size;have eC:((((((g.k !=1)&&(g.k !=2))||(!(decide (g.dft=[]))))||(!b2))||(!g.en.all kQ))||(!g.lv.all kQ))=!(decide ((g.k=1∨g.k=2)/\g.dft=[])&&(decide (g.ini=[])||dP g.ini)&&g.en.all kQ&&g.lv.all kQ):=by
   rw[cC,BK,BK,BK];congr 3;rw[bM];simp only[cu,aU,bne_iff_ne,dr,dS,ne_eq];by_cases a:g.k=1<;>by_cases b:g.k=2<;>by_cases d:g.dft=[]<;>simp[a,b,d]
  have kM:∀{u:M},Z [b] w u->aA (Iz aL) 13 u F mv g.mv:=λl=>SliceF.only (mr aL) X oS.1 l λk hk _ hm=>h k hk abR;have kK:∀{u:M},Z [b] w u->aA (mz aL D) 9 u F kids i:=λl=>SliceF.only (cA aL D) X hk l λk hk _ hm=>h k hk abR;have Yd:=kR g.mv;refine⟨_,rfl,sm J dY,λe=>bad ?_ o6 Ra,λe=>?_⟩
  ·rw[eC,dr]at e;unfold rX;rw[s,eB,e];rfl
  rw[eC,gY]at e;have gT:uq g (I i)=g.mv.all pU:=by rw[eB,e,cm]
  simp only[aU]at e;have eQ:=eQ e.1.2;have fd:=fd e.2;have wo:=AB g.mv;have LH:=pG i;have tN:I g.mv<=wO g:=agP
  refine⟨λkv F u=>∃k:Nat,F=(k:Int)/\kv+k=I g.mv/\k<=I g.mv/\(g.mv.take k).all pU=L/\Z [b] w u/\A.heap.size<=u.heap.size/\uE u b (n+1) (m+k) (a6+kB (g.mv.take k)),I g.mv,⟨0,rfl,J,bm _,rfl,o6,J,by simpa[kB]using Ra⟩,?_⟩;rintro kv _ w7 ⟨k,rfl,pZ,hj,gy,o7,z7,gO⟩;have lP:=K8 g.mv k;refine⟨λmg=>?_,λmg=>?_⟩
  ·have mg:=aN mg;obtain⟨ad,y,c,g1,b,g3,g4,g5,n⟩:=(kM o7).get (aZ k) J;rw[aW]at b;have d:=bB b;have Ri:=nR d;have D9:=n;obtain⟨gc,rM,tg,rfl,hg,BC,om⟩:=n;obtain⟨gs,rfl⟩:=fp hg;have p:g.mv.take (k+1)=g.mv.take k++[y]:=by rw[bq,b];rfl
   refine⟨ad,g1,_,_,_,_,_,_,_,_,_,_,_,_,_,g5,(Sw gO D9 h (N y d) J J J J J).mono ?_⟩;rintro _ w8 ⟨rfl,⟨m8,a8,xE,h8⟩,a⟩;have x:=gL o7 a;have z8:=a.size;refine⟨_,rfl,sm z7 a,λhh=>bad ?_ x xE,λhh=>?_⟩
   ·have hh:pU y=aL:=adP
    unfold rX;rw[s,gT,show g.mv.all pU=aL by rw[yz];exact⟨y,d,by rw[hh];simp⟩];rfl
   have hh:pU y=L:=adP
   obtain⟨rfl,rfl⟩:=h8 hh;refine⟨kv-1,J,k+1,aaA,J,J,by rw[p,iK,gy];simp[hh],x,J,?_⟩;rw[p,K7,show m+((k+1:Nat):Int)=m+k+1 by omega,show a6+((kB (g.mv.take k)+I y.acts:Nat):Int)=a6+kB (g.mv.take k)+(I y.acts) by omega];exact xE
  have mg:=aQ mg;have lc:k=I g.mv:=J
  subst lc;rw[ii]at gy gO;have iD:lY d (.mk g i)=jP (d+1) i:=by rw[s,gT,gy,cm]
  have eA:a6+(kB g.mv:Int)=a+(PB g:Int):=J
  rw[eA]at gO;refine⟨λkv F u=>∃k:Nat,F=(k:Int)/\kv+k=I i/\k<=I i/\jP (d+1) (i.take k)=L/\n+1+dx (i.take k)<=64/\Z [b] w u/\A.heap.size<=u.heap.size/\uE u b (n+1+dx (i.take k)) (m+I g.mv+uW (i.take k)) (a+PB g+rS (i.take k)),I i,⟨0,rfl,J,bm _,by rw[ci,jP],by rw[ci,dx];omega,o7,z7,by rw[ci,dx,uW,rS];simpa using gO⟩,?_⟩;rintro AQ _ w9 ⟨F,rfl,Ee,hi,YE,h9,o9,z9,ip⟩;refine⟨λYG=>?_,λYG=>?_⟩
  ·have YG:=aN YG;obtain⟨ad,y,c,g1,g2,g3,g4,g5,g6⟩:=(kK o9).get (aZ F) J;rw[aW]at g2;have rj:=bB g2;have Ri:=mH rj;have D9:=g6;obtain⟨b,rfl⟩:∃b,D=b+1:=by
    cases D with
    | zero=>exact g6.elim
    | succ b=>exact⟨b,rfl⟩
   obtain⟨tT,tU,qk,iE,rfl,_⟩:=g6;have nY:i.take (F+1)=i.take F++[y]:=by rw[bq,g2];rfl
   have q1:=K9 i F g2;have q2:=FR i F g2;have q3:=zj (i.take F);have q4:=HZ (i.take F);refine⟨ad,g1,_,_,_,_,tT,tU,qk,iE,_,g5,?_⟩;rw[fe (x:=(d:Int)+1) J J,show(d:Int)+1=((d+1:Nat):Int) by omega];refine(FT h (b+1) (d:=d+1) ip D9 (zh S rj) J J h9 J J J J J).mono ?_;rintro _ dA ⟨rfl,⟨lE,iS,iN,oT,r⟩,dR⟩;have iF:=gL o9 dR;have LA:=dR.size;refine⟨_,rfl,sm z9 dR,λGa=>bad ?_ iF oT,λGa=>?_⟩
   ·have Ga:rX (d+1) (n+1+dx (i.take F)) y=aL:=by simpa using Ga
    unfold rX at Ga⊢;rw[fS]at Ga;rcases Ga with j | j
    ·rw[iD,Bd rj j,cV]
    have j:=aQ j;rw[eN,bD (p:=n+((dx i+1:Nat):Int)<=64) J,gQ]
   have Ga:rX (d+1) (n+1+dx (i.take F)) y=L:=by simpa using Ga
   obtain⟨rfl,rfl,rfl⟩:=r Ga;unfold rX at Ga;rw[aU]at Ga;have p:=aN Ga.2;refine⟨AQ-1,J,F+1,aaA,J,J,by rw[nY,xV,YE,Ga.1];rfl,by rw[nY,tw];omega,iF,J,?_⟩;rw[nY,tw,wP,Am,show n+1+((dx (i.take F)+iB y:Nat):Int)=n+1+dx (i.take F)+iB y by omega,show m+I g.mv+((uW (i.take F)+Dm y:Nat):Int)=m+I g.mv+uW (i.take F)+Dm y by omega,show a+PB g+((rS (i.take F)+A7 y:Nat):Int)=a+PB g+rS (i.take F)+A7 y by omega];exact oT
  have YG:=aQ YG;have a:F=I i:=J
  subst a;rw[ii]at h9 YE ip;have b:rX d n (.mk g i)=L:=by
   unfold rX;rw[iD,YE,eN,cm];exact bE J
  rw[b];refine⟨rfl,⟨_,_,_,ip,λ_=>?_⟩,o9⟩;rw[eN,Dm,A7];omega
def amr{w:M}{F:aJ}{D:Nat}{c:Ch}{t:Sl}{s:aI}(h:ChR aL (D+1) w F c t s)(E:Mb c)(hs:nr c.vars+lf c.root<=8388608):
  az Q 112 #[ah (t.v::s).toArray] w λe R=>e=ak (aj (rl c))/\Z [] w R:=by
 obtain⟨en,lv,mv,kids,G,_⟩:=h.root;subst G;refine ret (akU _ _ _ _ _ _ _ _ _ _ ?_);intro H C fT dZ z;have z0:=z.size;have l:=h.vars.1.len;have Bz:I c.vars<=nr c.vars:=by
  have:∀b:List Vr,I b<=nr b:=λb=>by induction b with
   | nil=>exact bm _
   | cons a b c=>rw[nr,ba];omega
  exact this _
 have V:∀{u:M},Z [] w u->aA M0 3 u F t c.vars:=λi=>SliceF.only fh X h.vars.1 i aaV;have sm:∀{u B:M},C.heap.size<=u.heap.size->Z [] u B->cr [H] u B:=λhz i=>i.same aba;refine⟨λq o u=>∃j:Nat,o=(j:Int)/\q+j=I c.vars/\j<=I c.vars/\(c.vars.take j).all xp=L/\Z [] w u/\C.heap.size<=u.heap.size,I c.vars,⟨0,rfl,J,bm _,rfl,z,aX _⟩,?_⟩;rintro q _ S ⟨j,rfl,pZ,hj,f,r,Y⟩;refine⟨λg=>?_,λg N W uT AN A P=>?_⟩
 ·have g:=aN g;obtain⟨ad,y,s,g1,b,g3,g4,g5,k⟩:=(V r).get (aZ j) J;rw[aW]at b;have rj:=bB b;have Ri:=wb rj;have k:s=[K (T y.n),O U y.v,O U y.a]:=k;subst k;refine⟨ad,g1,_,g5.part 0 λo v m=>tF m rfl,(rI S y.n J).mono ?_⟩;rintro _ w2 ⟨rfl,d⟩;have n:=r.cn d;have z2:=d.size;obtain⟨LX,y',Ci,p1,p,p3,p4,p5,x⟩:=(V n).get (aZ j) J;rw[aW,b]at p;injection p with p;subst p;have x:Ci=[K (T y.n),O U y.v,O U y.a]:=x;subst x;have ev:((!dP y.n)||(y.v==(-9223372036854775808)))=!xp y:=by
   unfold xp;rw[BK];congr 1;rw[bM];simp
  refine⟨_,rfl,sm Y d,LX,λ_=>p1,_,λ_=>p5.part 1 λo v m=>tF m rfl,λa=>⟨?_,n⟩,λa=>⟨q-1,J,j+1,aaA,J,J,?_,n,J⟩⟩
  ·rw[ev,dr]at a;have:c.vars.all xp=aL:=by
    rw[yz];exact⟨y,rj,by rw[a];simp⟩
   have e:rl c=aL:=by
    unfold rl;rw[show(c.vars.all λv=>dP v.n&&decide (v.v≠ -9223372036854775808))=c.vars.all xp from rfl,this];rfl
   rw[e]
  rw[ev,gY]at a;rw[bq,b,iK,f];simp[a]
 have g:=aQ g;have lc:j=I c.vars:=J
 subst lc;rw[ii]at f;have o3:=r.cn A;have z3:=A.size;have am:mz aL (D+1) W (λk=>F k/\k<w.heap.size) c.root _:=(cA aL _).keep ((cA aL _).inHeap h.root) λk _ bW=>o3.block k bW aaV;refine(FT (F:=λk=>F k/\k<w.heap.size) (b:=N) (λk hk=>ab9) (D+1) (n:=0) (m:=0) (a:=0) (d:=0) P am E.2 J J J J J J J J).mono ?_;rintro _ w4 ⟨rfl,⟨n',m',a',sE,hr⟩,dW⟩;have T:Z [] w w4:=(o3.oQ (dW.p (F:=λk=>w.heap.size<=k) λx h=>by simp only[aP]at h;exact .inl J)).only λk hk=>hk;refine⟨_,rfl,dW.same aba,n',m',a',sE,?_,T⟩;congr 1;unfold rl;rw[show(c.vars.all λv=>dP v.n&&decide (v.v≠ -9223372036854775808))=c.vars.all xp from rfl,f,cm,l];cases y:rX 0 0 c.root
 ·have:(lY 0 c.root&&decide (iB c.root<=64))=aL:=by
   unfold rX at y;rw[<-y];congr 1;rw[bM,bF,bF];omega
  rw[fS]at this;simp only[cV];symm;rcases this with a | a
  ·rw[a,cV]
  have a:=aQ a;rw[bD (p:=c.root.b.k=1/\I c.vars<=16/\iB c.root<=64/\Dm c.root<=200/\A7 c.root<=400) (λe=>a e.2.2.1),gQ]
 obtain⟨b,e,a⟩:=hr y;unfold rX at y;rw[aU,bF]at y;rw[y.1,cm,cm,e,a,bM];simp only[aU,bF,db];omega
def ams{n}(h:0<=n)(a:n<=18446744073709551615):ar .u64 n=n:=by
 have e:ar .u64 n=n % 18446744073709551616:=rfl;omega
def QF w {n} (h:ub n):az Q 114 #[O U n] w λe a=>e=ak (K (T (Lib.itoa n)))/\Z [] w a:=by
 obtain⟨d,b⟩:=h;by_cases c:0<=n
 ·exact WR w c b
 refine ret (akW _ ?_);refine⟨λe=>absurd e aba,λe=>⟨λo=>?_,λp=>absurd (aQ p) J⟩⟩;have s:=by
  refine ret (aln n (λv a=>v=.int .u64 (-n)/\a=w) w ?_);refine⟨λ_=>⟨?_,rfl⟩,λp=>absurd (aQ p) J⟩;rw[fe (x:=n+1) J J,fe J J,ams (n:=0-_) J J,ams J J];congr 1;omega
 refine s.mono ?_;rintro _ g ⟨rfl,u⟩;obtain rfl:w=g:=u.symm;obtain⟨k,hk⟩:∃k:Nat, -n=k:=⟨(-n).toNat,J⟩
 rw[hk];refine⟨_,rfl,(FP k w J).mono ?_⟩;rintro _ i ⟨rfl,E⟩;have f:¬k=0:=J
 have l:=uC k J;rw[aR f];refine⟨_,rfl,abN,?_,E⟩;unfold Lib.itoa;rw[aV J,show n.natAbs=k by omega];rfl
def QG{n}(h:ub n):I (Lib.itoa n)<=41:=by
 obtain⟨a,b⟩:=h;unfold Lib.itoa;split
 ·rw[ba];have:=uC n.natAbs J;omega
 have:=uC n.toNat J;omega
section
variable {w:M} {F:aJ}
def NF x:I (A6 x)<=16384:=Hw x
def amt{y}(h:y.k=1):[115,101,116,32]++y.n++[32,61,32]++A6 y.x++[59]=Ek y:=by
 unfold Ek;rw[aR J,aV h];simp[vP]
def amu{y}(h:y.k=2):[114,97,105,115,101,32]++y.n++[59]=Ek y:=by
 unfold Ek;rw[aV h];simp[mT]
def amv{y}(h:y.k≠1)(a:y.k≠2):[101,109,105,116,32]++y.n++[32,61,32]++A6 y.x++[59]=Ek y:=by
 unfold Ek;rw[aR a,aR h];simp[pD]
def NG y:I (Ek y)<=FC y+16500:=by
 have:=NF y.x;unfold FC;by_cases h:y.k=1
 ·rw[<-amt h];simp;omega
 by_cases a:y.k=2
 ·rw[<-amu a];simp;omega
 rw[<-amv h a];simp;omega
def FU a:∀l,Ak (l++[a])=Ak l++(32::Ek a)
 | []=>by simp[Ak]
 | b::l=>by rw[ca,Ak,Ak,FU a l];simp
def agm{y}{cs}(x:qv aL w F y cs)(n:Vm y)(s:FC y<=8388608):
  az Q 196 #[ah cs.toArray] w λe q=>e=ak (K (T (Ek y)))/\Z [] w q:=by
 have R:=NG y;obtain⟨N,rfl,H⟩:=x;obtain⟨P,rfl⟩:=fp H;unfold FC at s R;have A:=NF y.x;refine ret (arn _ _ _ _ _ _ _ _ _ ?_);have b:_=T [115,101,116,32]:=rfl;have f:_=T [32,61,32]:=rfl;have g:_=T [59]:=rfl;have i:_=T [114,97,105,115,101,32]:=rfl;have j:_=T [101,109,105,116,32]:=rfl;simp only[b,f,g,i,j,fm,cJ];have E:∀{u:M},Z [] w u->rE aL u F y.x _:=λh=>(jp aL).keep H λk _ W=>h.block k W aaV;have l:∀{a m:aH},I (a++m)=I a+I m:=aO;refine⟨λh1 o C t r c=>⟨λk=>k=o,rfl,J,by rw[l];simp;omega,(HX (E c) n J).mono ?_⟩,λh1=>⟨λh2=>⟨J,by rw[l];simp;omega,λv D _ _ h=>⟨by rw[amu acO],h⟩⟩,λh2 p G z B d=>⟨λk=>k=p,rfl,J,by rw[l];simp;omega,(HX (E d) n J).mono ?_⟩⟩⟩
 ·rintro _ w ⟨rfl,e⟩;refine⟨_,rfl,e.same aba,bR.only e,?_,?_,by rw[fm,fm,amt acf],c.cn e⟩
  ·rw[cJ];simp;omega
  rw[fm,cJ];simp;omega
 rintro _ w ⟨rfl,e⟩;refine⟨_,rfl,e.same aba,bR.only e,?_,?_,by rw[fm,fm,amv acf acO],d.cn e⟩
 ·rw[cJ];simp;omega
 rw[fm,cJ];simp;omega
def H0:∀l,jF l<=1048576->I (Ak l)<=I l*1065080
 | [],_=>bm _
 | a::l,h=>by
  have b:=NG a;have c:FC a<=jF (a::l):=qR aaV;have d:jF l<=jF (a::l):=by rw[jF];omega
  have e:=H0 l J;rw[Ak,ba,aO,ba,iJ];omega
def DW{l}{pQ}(b:kx aL (qv aL) 9 161 w F l pQ)(n:∀y,y∈pQ->Vm y)(g:jF pQ<=1048576):
  az Q 160 #[l.v] w λe c=>e=ak (K (T (A1 pQ)))/\Z [] w c:=by
 refine ret (are _ ?_);have E:=b.1.len;have d:=gI pQ;have kp:∀{u:M},Z [] w u->aA _ 9 u F l pQ:=λh=>SliceF.only (dy aL) X b.1 h aaV;refine⟨λk s i u=>∃(j:Nat) (t:aH),s=T t/\t=123::Ak (pQ.take j)/\i=j/\k+j=I pQ/\j<=I pQ/\I t<=1+j*1065080/\Z [] w u,I pQ,⟨0,[123],rfl,rfl,rfl,J,bm _,aaV,Only.refl _ _⟩,?_⟩;rintro k _ _ q ⟨j,t,rfl,a,rfl,p,f,o,h⟩;refine⟨λm=>?_,λm=>?_⟩
 ·have m:=aN m;obtain⟨ad,y,z,w,e,A,B,x,l⟩:=(kp h).get (aZ j) J;rw[aW]at e;have r:=bB e;have R:=qR r;have D:=l;obtain⟨G,rfl,H⟩:=l;obtain⟨N,rfl⟩:=fp H;refine⟨abN,ad,w,_,_,_,_,_,_,_,_,_,x,(agm D (n y r) J).mono ?_⟩;rintro _ F ⟨rfl,v⟩;have C:=NG y;have s:I (t++[32]++Ek y)<=1+(j+1)*1065080:=by
   rw[aO,aO,bI,iJ];omega
  refine⟨_,rfl,?_,k-1,J,j+1,t++[32]++Ek y,?_,by rw[bq,e,a];show _=123::Ak (pQ.take j++[y]);rw[FU];simp,aaA,J,J,s,h.cn v⟩
  ·rw[show(ao #[32])=T [32]from rfl,fm,cJ,cJ,aO,bI];omega
  rw[show(ao #[32])=T [32]from rfl,fm,fm]
 have m:=aQ m;have l:j=I pQ:=J
 subst l;refine⟨abN,?_,h⟩;rw[show(ao #[32,125])=T [32,125]from rfl,fm,a,ii];rfl
def YZ:List (aH)->aH
 | []=>[]
 | s::l=>32::45::62::32::(s++PC l)
def Lc s:∀l,PC (l++[s])=PC l++[44,32]++s
 | []=>by simp[PC]
 | b::l=>by rw[ca,PC,PC,Lc s l];simp
def WW s:∀l,YZ (l++[s])=YZ l++(if l=[]then[32,45,62,32]else[44,32])++s
 | []=>by simp[YZ,PC]
 | b::l=>by rw[ca,YZ,YZ,Lc s l,aR aaV];simp
def agn m:hdT m++gdT m++(if m.acts=[]then[]else 32::A1 m.acts)++YZ m.tg++[59]=Fs m:=by
 unfold Fs;cases m.tg<;>simp[YZ]
def abl{x}{d}(hx:Iz aL w F x d)(n:mvN x)(Y:El x<=1048576):
  az Q 161 #[ah d.toArray] w λe c=>e=ak (K (T (Fs x)))/\I (Fs x)<=3000000000000/\Z [] w c:=by
 obtain⟨gc,rM,y,rfl,l,B,m⟩:=hx;obtain⟨V,rfl⟩:=fp l;unfold El at Y;have b:ub x.wt:=n.w;refine((alo x.k (T x.ev) x.wt x.gd x.g.k x.g.n (T x.g.s) x.g.op V x.g.a rM y x.a (λv c=>v=K (T (Fs x))/\I (Fs x)<=3000000000000/\Z [] w c) w ?_)).mono (by rintro _ c ⟨v,rfl,rfl,a,W⟩;exact⟨rfl,a,W⟩);intro k0 E fT dZ D;have z0:=D.size;have sm:∀{u z:M},E.heap.size<=u.heap.size->Z [] u z->cr [k0] u z:=λhz h=>h.same aba;have kT:∀{u:M},Z [] w u->aA ke 1 u F y x.tg:=λh=>SliceF.only cY X m.1 h aaV;have AJ:=NF x.g;have TR:=gI x.acts;have EI:=uw x.tg;have p:=B.1.len;have Zu:=m.1.len;let St (P:Nat) (v:aH):aK->M->Prop:=λs u=>∃t:aH,s=T t/\I t<=P/\Z [] w u/\E.heap.size<=u.heap.size/\t=v
 refine⟨St 1048600 (if x.k=1 then JY++32::x.ev else lX),λs0 w1 ⟨t0,R,h0,o0,G,v0⟩=>⟨St 1048700 (hdT x),λs1 w2 ⟨q,i,h1,o,H,A⟩=>⟨St 1066000 (hdT x++gdT x),λs2 w3 ⟨r,j,h2,f,N,C⟩=>⟨St 1117000000000 (hdT x++gdT x++(if x.acts=[]then[]else 32::A1 x.acts)),λs3 w4 ⟨g,S,h3,o3,y3,v3⟩=>?_,λhc=>?_,λhc=>⟨r,j,J,f,N,?_⟩⟩,λhc=>?_,λhc=>⟨q,i,J,o,H,?_⟩⟩,λhc=>?_,λhc=>⟨t0,R,J,o0,G,?_⟩⟩,λhc=>?_,λhc=>⟨[97,108,119,97,121,115],rfl,X,D,aX _,by rw[aR abv];rfl⟩⟩
 ·subst S;refine⟨λkv s am u=>∃(k:Nat) (t:aH),s=T t/\t=g++YZ (x.tg.take k)/\am=(k:Int)/\kv+k=I x.tg/\k<=I x.tg/\I t<=1117000000000+k*1048590/\Z [] w u,I x.tg,⟨0,g,rfl,by rw[ci,YZ,bG],rfl,J,bm _,J,o3⟩,?_⟩;rintro kv _ _ w5 ⟨k,t,rfl,et,rfl,pZ,hj,ht,h⟩;refine⟨λv=>⟨λs u=>∃F:aH,s=T F/\I F<=I t+4/\u=w5/\F=t++(if k=0 then[32,45,62,32]else[44,32]),?_,λh0=>⟨abN,t++[32,45,62,32],by rw[show(ao #[32,45,62,32])=T [32,45,62,32]from rfl,fm],aaV,rfl,by rw[aV ahu]⟩,λh0=>⟨abN,t++[44,32],by rw[show(ao #[44,32])=T [44,32]from rfl,fm],aaV,rfl,by rw[aR ahu]⟩⟩,λv=>?_⟩
  ·have v:=aN v;rintro _ w6 ⟨F,rfl,aC,hw,t⟩;obtain rfl:w5=w6:=hw.symm;obtain⟨ad,s,d,g1,w,g3,g4,g5,T⟩:=(kT h).get (aZ k) J;rw[aW]at w;have rK:=Hy (bB w);have T:=T;subst T;refine⟨ad,g1,_,g5,by rw[cJ,cJ];omega,kv-1,J,k+1,F++s,by rw[fm],?_,aaA,J,J,?_,h⟩
   ·rw[bq,w,t,et];show _=g++YZ (x.tg.take k++[s]);rw[WW];have e:(x.tg.take k=[])↔k=0:=by
     constructor
     ·intro a;have:=bZ List.length a;rw[ch,bK]at this;omega
     intro a;rw[a,ci]
    simp[e,bC]
   rw[aO,iJ];omega
  have v:=aQ v;have s:k=I x.tg:=J
  subst s;rw[ii]at et;have e:t++[59]=Fs x:=by rw[et,v3,agn]
  refine⟨abN,by rw[show(ao #[59])=T [59]from rfl,fm,e],?_,h⟩;rw[<-e,aO,bI];have:I x.tg*1048590<=1048576*1048590:=fD _ J;omega
 ·subst j;have zV:I x.acts*1065080<=1048576*1065080:=fD _ J;refine⟨abN,(DW (B.keep (dy aL) X λk _ t=>f.block k t aaV) n.a J).mono ?_⟩;rintro _ w ⟨rfl,s⟩;have v:I (A1 x.acts)<=3+I x.acts*1065080:=by
   have:=H0 x.acts J;unfold A1;rw[ba,aO];simp[ba,bK];omega
  have F:=s.size;refine⟨_,rfl,sm N s,?_,r++[32]++A1 x.acts,by rw[show(ao #[32])=T [32]from rfl,fm,fm],?_,f.cn s,J,?_⟩
  ·rw[show(ao #[32])=T [32]from rfl,fm,cJ,cJ,aO,bI];omega
  ·rw[aO,aO,bI];omega
  have hc:=aN hc;rw[C,aR (λe=>by rw[e]at p;simp at p;omega)];simp
 ·have hc:=aQ hc;rw[C,aV (bP J),bG]
 ·subst i;refine⟨abN,(HX ((jp aL).keep l λk _ s=>o.block k s aaV) n.1 J).mono ?_⟩;rintro _ w ⟨rfl,e⟩;have t:=e.size;refine⟨_,rfl,sm H e,?_,?_,q++[32,91]++A6 x.g++[93],by rw[show(ao #[32,91])=T [32,91]from rfl,show(ao #[93])=T [93]from rfl,fm,fm,fm],?_,o.cn e,J,by rw[A];unfold gdT;rw[hc,aV rfl];simp⟩
  ·rw[show(ao #[32,91])=T [32,91]from rfl,fm,cJ,cJ,aO];simp[ba,bK];omega
  ·rw[show(ao #[32,91])=T [32,91]from rfl,fm,fm,cJ,aO,aO];simp[ba,bK];omega
  simp;omega
 ·rw[A];unfold gdT;rw[hc,aR aaV,bG]
 ·refine(QF w1 b).mono ?_;rintro _ w ⟨rfl,e⟩;have k:=e.size;have:=QG b;refine⟨_,rfl,sm G e,abN,[97,102,116,101,114,32]++Lib.itoa x.wt,by rw[show(ao #[97,102,116,101,114,32])=T [97,102,116,101,114,32]from rfl,fm],?_,o0.cn e,J,?_⟩
  ·rw[aO];simp[ba,bK];omega
  have hc:x.k=3:=abv
  unfold hdT;rw[aR J,aV hc];simp[mo]
 ·have hc:¬x.k=3:=abv
  rw[v0];unfold hdT;rw[aR hc]
 refine⟨abN,[111,110,32]++x.ev,by rw[show(ao #[111,110,32])=T [111,110,32]from rfl,fm],?_,D,aX _,?_⟩
 ·rw[aO];simp[ba,bK];omega
 rw[aV abv];simp[JY]
end
structure Prg (w:M) (b:Nat) (sl:Sl) (l:aH):Prop where
 blk:aF w b 199 [sl.v]
 buf:Bf w (b+1) sl l
section
variable {w w0 w1 w2 w':M} {b k0:Nat} {sl sl' SZ:Sl} {l:aH}
def Prg.only(h:Prg w b sl l)(a:Z [] w w'):Prg w' b sl l:=⟨a.blk h.blk aaV,h.buf.keep λg _ c=>a.block g c aaV⟩
def Prg.lb(h:Prg w b sl l):b<w.heap.size:=h.blk.lt
def Prg.Xs(h:Prg w b sl l){k:Nat}(hk:k<b):¬(k=b∨sl.a=aM ⟨k,0,aaf⟩):=by
 rintro(e | e)
 ·omega
 have:=(h.buf.lt e).1;omega
def Prg.put{s:Sl}{m:aH}{e:TypeId}(h:Prg w b sl l)(a:Bf w1 (b+1) s m)(k3:aD (λk=>sl.a=aM ⟨k,0,aaf⟩) w w1)(i:∀k,s.a=aM ⟨k,0,aaf⟩->sl.a=aM ⟨k,0,aaf⟩∨w.heap.size<=k):
  aF w1 b 199 [sl.v]/\∀w2,Z [b] w1 w2->aF w2 b 199 [s.v]->Prg w2 b s m/\jO b sl w s w2:=by
 have j:=h.lb;refine⟨k3.blk h.blk λe=>by have:=(h.buf.lt e).1;omega,λw2 c n=>⟨⟨n,a.keep λg d f=>c.block g f (by have:=(a.lt d).1;simp;omega)⟩,(k3.mono λk _ hk=>.inr hk).trans (c.p (F:=λk=>k=b) λx hx=>.inl ab5) λk hk=>.inl (.inl hk),i⟩⟩
def amw{B:Nat}(h:Bf w B sl l)(c:aH){n:Nat}{parts:Array (Nat×aw)}(p:parts=(((c.map iA).zipIdx 0).map λx=>(x.2,x.1)).toArray)(f:I c=n)(a:0<n)(C:n*1<=16777216)(E:B<=w.heap.size)(G:I l+I c<=140737488355328):
  ∃y w1,(au 197 n parts).run Q w=.ok (Sl.v y) w1/\Z [] w w1/\∃s w2,(Builtin.append_ #[197,197] 197 #[Sl.v sl,Sl.v y]).run Q w1=.ok (Sl.v s) w2/\Bf w2 B s (l++c)/\
   aD (λk=>sl.a=aM ⟨k,0,aaf⟩) w w2/\∀k,s.a=aM ⟨k,0,aaf⟩->sl.a=aM ⟨k,0,aaf⟩∨w.heap.size<=k:=by
 obtain⟨y,w1,m,o,k3,_⟩:=uk w c p f a C;have H:=k3.size;have b:Bf w1 B sl l:=h.keep λg F d=>k3.block g d aaV;obtain⟨s,w2,q,u,D,v,z,A⟩:=rv (P:=Q) (t:=197) (ty:=197) (e:=5) (i:=Tryz.t5) (bytes:=1) (size:=1) (r:=mB) Db Hb rfl rfl rfl rfl sH (b.own λ_=>True) ((yO o).mono sH λk hk=>⟨trivial,λe=>by have:=(h.lt e).2;have:=hk.1;omega⟩) J J X;refine⟨y,w1,m,k3,s,w2,q,Bf.of u acN,k3.oQ (v.p λx j=>.inl (z x j).1),λk hk=>?_⟩;rcases A with e | e
 ·rw[e]at hk;exact .inl hk
 rw[e]at hk;injection hk with hk;injection hk with hk;exact .inr J
def FV:∀d,vV (d+1)=vV d++[32,32]
 | 0=>rfl
 | d+1=>by
  show 32::32::vV (d+1)=(32::32::vV d)++[32,32]
  rw[FV d];rfl
def H2:∀d,I (vV d)=2*d
 | 0=>rfl
 | d+1=>by rw[vV,ba,ba,H2 d];omega
def QH{l m:aH}{d:Nat}(h:I l<=4000000000000)(hd:d<=4194304)(a:I m<=3000000000010):I (lA l (d,m))<=4000000000000:=by
 unfold lA;split
 ·exact h
 unfold lnT;rw[aO,aO,aO,H2];simp only[ba,bK];omega
def QI(h:Prg w b sl l){d:Nat}(a:d<=4194304)(m:aH)(f:I m<=3000000000010):
  az Q 113 #[ae (aM ⟨b,0,aaf⟩),O U (d:Int),K (T m)] w λe w'=>e=ak (ai #[])/\∃(sl':Sl),Prg w' b sl' (lA l (d,m))/\jO b sl w sl' w':=by
 refine ret (akV _ _ _ ?_);have g:=h.buf.len;have c:=h.lb;refine⟨sl,Blk.dM h.blk 0 rfl,λhc=>⟨rfl,sl,?_,jO.refl _ _ _⟩,λhc=>?_⟩
 ·have hc:=aN hc;unfold lA;rw[aV J];exact h
 have hc:I l<=16384:=abO
 have p:lA l (d,m)=l++vV d++m++[10]:=by
  unfold lA lnT;rw[aR J];simp
 rw[p];refine⟨λv r u=>∃(j:Nat) (q:Sl),r=(j:Int)/\v+j=d/\Prg u b q (l++vV j)/\jO b sl w q u,d,⟨0,sl,rfl,J,by rw[vV,bG];exact h,jO.refl _ _ _⟩,?_⟩;rintro v _ w0 ⟨j,q,rfl,s,P,o⟩;have B:=P.lb;have t:I (l++vV j)<=16384+2*j:=by rw[aO,H2];omega
 refine⟨λi=>?_,λi=>?_⟩
 ·have i:=aN i;obtain⟨y,w1,k,H,d,w2,l,w,x,z⟩:=amw P.buf [32,32] (n:=2) (parts:=#[.mk 0 (.int .u8 32),.mk 1 (.int .u8 32)]) rfl rfl X X J (by rw[ba,bI];omega);obtain⟨A,C⟩:=P.put (e:=0) w x z;refine⟨q,Blk.dM P.blk 0 rfl,y,w1,k,d,w2,l,b,0,_,_,rfl,A,aX 1,λG F N=>?_⟩;obtain⟨D,E⟩:=C G F N;exact⟨v-1,J,j+1,d,aaA,J,by rw[FV,<-bC];exact D,o.trans E⟩
 have i:=aQ i;have lc:j=d:=J
 subst lc;obtain⟨x,w1,Y,k2,k3,k4⟩:=BX P.buf m J J;obtain⟨G,H⟩:=P.put (e:=0) k2 k3 λk hk=>by
  rcases k4 with e | e
  ·rw[e]at hk;exact .inl hk
  rw[e]at hk;injection hk with hk;injection hk with hk;exact .inr J
 refine⟨q,Blk.dM P.blk 0 rfl,x,w1,Y,b,0,_,_,rfl,G,aX 1,λw2 R nj=>?_⟩;obtain⟨l,w⟩:=H w2 R nj;have zU:=l.lb;obtain⟨y,w3,A,a2,z,w4,C,D,E,F⟩:=amw l.buf [10] (n:=1) (parts:=#[.mk 0 (.int .u8 10)]) rfl rfl X X J ab8;obtain⟨N,S⟩:=l.put (e:=0) D E F;refine⟨x,Blk.dM l.blk 0 rfl,y,w3,A,z,w4,C,b,0,_,_,rfl,N,aX 1,λw5 W u7=>?_⟩;obtain⟨T,V⟩:=S w5 W u7;exact⟨rfl,z,T,(o.trans w).trans V⟩
end
mutual
def Y1:Nd->Prop
 | .mk b k=>(1<=b.k/\b.k<=4)/\NH k
def NH:List Nd->Prop
 | []=>True
 | x::l=>Y1 x/\NH l
end
def Ld{x:Nd}:∀{l:List Nd},NH l->x∈l->Y1 x
 | y::l,h,x=>by
  rw[NH]at h;rcases aY.1 x with rfl | x
  ·exact h.1
  exact Ld h.2 x
mutual
def WX:∀(d:Nat) (x:Nd),lY d x=L->Y1 x
 | d,.mk b l,h=>by
  rw[lY,aU,aU]at h;rw[Y1];refine⟨?_,QJ (d+1) l h.2⟩;have a:=h.1.2;unfold uq at a;rw[aU]at a;have e:=a.2;by_cases c:iu b.k=L
  ·unfold iu at c;have:=aN c;omega
  rw[aR c]at e;simp only[aU,bF]at e;omega
def QJ:∀(d:Nat) (l:List Nd),jP d l=L->NH l
 | _,[],_=>by rw[NH];trivial
 | d,x::l,h=>by
  rw[jP,aU]at h;rw[NH];exact⟨WX d x h.1,QJ d l h.2⟩
end
def pX(w:M)(b:Nat)(sl:Sl)(a:M)(s:Sl)(l:aH):Prop:=(Prg w b sl l/\I l<=4000000000000)/\jO b s a sl w
def pX.line{w f:M}{b:Nat}{sl s:Sl}{l:aH}(j:pX w b sl f s l){d:Nat}(a:d<=4194304)(m:aH)(i:I m<=3000000000010){k:Nat}(n:k≠b)(o:s.a≠aM ⟨k,0,aaf⟩)(p:k<f.heap.size):
  az Q 113 #[ae (aM ⟨b,0,aaf⟩),O U (d:Int),K (T m)] w λe c=>e=ak (ai #[])/\cr [k] w c/\∃sl',pX c b sl' f s (lA l (d,m)):=by
 obtain⟨⟨q,r⟩,g⟩:=j;refine(QI q a m i).mono ?_;rintro _ c ⟨rfl,sl',P,h⟩;exact⟨rfl,g.sm n o p h,sl',⟨P,QH r a i⟩,g.trans h⟩
def pX.only{w w' a:M}{b:Nat}{sl s:Sl}{l:aH}(c:pX w b sl a s l)(h:Z [] w w'):pX w' b sl a s l:=by
 obtain⟨⟨P,e⟩,d⟩:=c;exact⟨⟨P.only h,e⟩,d.trans (jO.only h)⟩
def NdC(D:Nat):Prop:=∀{F:aJ} {w:M} {b:Nat} {sl:Sl} {l:aH} {x:Nd} {c:aI} {d:Nat},mz aL D w F x c->(∀k,F k->k<b)->Prg w b sl l->I l<=4000000000000->Fv x->Y1 x->lf x<=1048576->d+iB x<=4000000->
 az Q 162 #[ae (aM ⟨b,0,aaf⟩),ah c.toArray,O U (d:Int)] w λe a=>e=ak (ai #[])/\∃(sl':Sl),Prg a b sl' (dX l (Fu d x))/\I (dX l (Fu d x))<=4000000000000/\jO b sl w sl' a
def QL{D:Nat}(hD:NdC D){F:aJ}{g:M}{b:Nat}{sl:Sl}{l:aH}{x:Nd}{r:aI}{d:Nat}(hx:mz aL (D+1) g F x r)(W:∀k,F k->k<b)(hP:Prg g b sl l)(hl:I l<=4000000000000)(hn:Fv x)(R:Y1 x)(hs:lf x<=1048576)(C:d+iB x<=4000001):
  az Q 115 #[ae (aM ⟨b,0,aaf⟩),ah r.toArray,O U (d:Int)] g λe w'=>e=ak (ai #[])/\∃(sl':Sl),Prg w' b sl' (dX l (Ho d x.b++qQ d x.kids))/\I (dX l (Ho d x.b++qQ d x.kids))<=4000000000000/\jO b sl g sl' w':=by
 obtain⟨a,f⟩:=x;obtain⟨S,lv,mv,kids,ix,xa,z⟩:=hx;dsimp only[Nd.kids,Nd.b]at ix xa z;subst ix;have hk:=z.1;rw[Fv]at hn;rw[Y1]at R;obtain⟨⟨yt,zU,B⟩,E⟩:=hn;obtain⟨Y,N,oS⟩:=xa;rw[lf]at hs;rw[iB]at C;unfold wO at hs;have EJ:=hP.lb;refine ret (akX _ _ _ _ _ _ _ _ _ _ _ ?_);intro H w dZ m o;have z0:=o.size;have n:H≠b:=J
 have A:sl.a≠aM ⟨H,0,aaf⟩:=λe=>acz
 have V:pX w b sl w sl l:=⟨⟨hP.only o,hl⟩,jO.refl _ _ _⟩
 have nF:∀k,F k->¬(k=b∨sl.a=aM ⟨k,0,aaf⟩):=λk G=>hP.Xs (W k G);have fr:∀{u:M} {q:Sl} {c:aH},pX u b q w sl c->∀k,F k->k<g.heap.size->u.heap[k]? =g.heap[k]? :=fun{u q c} h k G bW=>(h.2.1.block k J (nF k G)).trans (o.block k bW aaV);have sz:∀{u:M} {q:Sl} {c:aH},pX u b q w sl c->w.heap.size<=u.heap.size:=λh=>h.2.1.size;have sm:∀{u u':M} {q:Sl} {c:aH},pX u b q w sl c->Z [] u u'->cr [H] u u':=λh hO=>hO.same (by have:=sz h;simp;omega);have kA:∀{u:M} {q s:Sl} {la:List Ac} {c:aH},kx aL (qv aL) 9 161 g F s la->pX u b q w sl c->kx aL (qv aL) 9 161 u F s la:=λh p=>h.keep (dy aL) X (fr p);have kM:∀{u:M} {q:Sl} {c:aH},pX u b q w sl c->aA (Iz aL) 13 u F mv a.mv:=λp=>(oS.keep (mr aL) X (fr p)).1;have kK:∀{u:M} {q:Sl} {c:aH},pX u b q w sl c->aA (mz aL D) 9 u F kids f:=λp=>(z.keep (cA aL D) X (fr p)).1;have TR:=gI a.en;have am:=gI a.lv;have Es:=oS.1.len;have ET:=hk.len;have Yd:=kR a.mv;have LH:=pG f;have m1:I a.en*1065080<=1048576*1065080:=fD _ J;have m2:I a.lv*1065080<=1048576*1065080:=fD _ J;let St:aH->M->Prop:=λc u=>∃q,pX u b q w sl c
 have eT:((T a.ini).toList==((ao #[]).toList))=decide (a.ini=[]):=iV a.ini [];rw[eT];have i:∀{la:List Ac},jF la<=1048576->I (A1 la)<=3+I la*1065080:=fun{la} h=>by
  have:=H0 la h;unfold A1;rw[ba,aO];simp only[ba,bK];omega
 have j:=Y.1.len;have P:=N.1.len;refine⟨St (dX l (xS d a)),λw1 ⟨q1,t⟩=>⟨St (dX l (xS d a++RY d a)),λw2 ⟨q2,v⟩=>⟨St (dX l (xS d a++RY d a++Tm d a)),λw3 ⟨q3,h3⟩=>?_,λhc=>?_,λhc=>⟨q2,by
  have hc:=aQ hc;rw[show Tm d a=[] by unfold Tm;rw[aV (bP J)],bG];exact v⟩⟩,λhc=>?_,λhc=>⟨q1,by
  have hc:=aQ hc;rw[show RY d a=[] by unfold RY;rw[aV (bP J)],bG];exact t⟩⟩,λhc=>?_,λhc=>⟨sl,by
  have hc:a.ini=[]:=abv
  rw[show xS d a=[] by unfold xS;rw[aV hc]];exact V⟩⟩
 ·refine⟨λs e u=>∃b:Nat,e=(b:Int)/\s+b=I a.mv/\b<=I a.mv/\St (dX l (xS d a++RY d a++Tm d a++(a.mv.take b).map λx=>(d,Fs x))) u,I a.mv,⟨0,rfl,J,bm _,q3,by rw[ci,ft,bG];exact h3⟩,?_⟩;rintro s _ w4 ⟨b,rfl,pZ,hj,q4,q⟩;obtain⟨⟨T,Zw⟩,Zz⟩:=id q;have aC:=T.buf.len;refine⟨q4,λ_=>Blk.dM T.blk 0 rfl,λk=>?_,λk=>?_⟩
  ·rw[aU]at k;have k:=aN k.1;obtain⟨ad,y,r,g1,g2,g3,g4,g5,g6⟩:=(kM q).get (aZ b) J;rw[aW]at g2;have rj:=bB g2;have Ri:=nR rj;have D9:=g6;obtain⟨gc,rM,tg,rfl,hg,BC,om⟩:=g6;obtain⟨gs,rfl⟩:=fp hg;refine⟨ad,g1,_,_,_,_,_,_,_,_,_,_,_,_,_,g5,(abl D9 (B y rj) J).mono ?_⟩;rintro _ w5 ⟨rfl,ht,eW⟩;refine⟨_,rfl,sm q eW,((q.only eW).line (d:=d) J (Fs y) J n A m).mono ?_⟩;rintro _ w6 ⟨rfl,aS,q6,h6⟩;exact⟨rfl,aS,s-1,J,b+1,aaA,J,J,q6,by
    rw[bq,g2,cp,<-bC,gx];exact h6⟩
  have bV:dX l (xS d a++RY d a++Tm d a++(a.mv.take b).map λx=>(d,Fs x))=dX l (Ho d a):=by
   have S:Ho d a=xS d a++RY d a++Tm d a++mvL d a:=by unfold Ho;simp
   rw[S];unfold mvL;by_cases y:b=I a.mv
   ·rw[y,ii]
   have YH:16384<I (dX l (xS d a++RY d a++Tm d a++(a.mv.take b).map λx=>(d,Fs x))):=by
    rw[fS]at k;rcases k with h | h
    ·have:=aQ h;omega
    have:=aQ h;omega
   conv=>rhs;rw[<-fb b a.mv,cp,<-bC,gx]
   rw[Kk _ _ YH]
  refine⟨λs e u=>∃b:Nat,e=(b:Int)/\s+b=I f/\b<=I f/\St (dX l (Ho d a++qQ d (f.take b))) u,I f,⟨0,rfl,J,bm _,q4,by rw[ci,qQ,bG,<-bV];exact q⟩,?_⟩;rintro AQ _ w7 ⟨e,rfl,Ee,hi,q7,h7⟩;obtain⟨⟨S6,Mc⟩,aT⟩:=id h7;refine⟨λYG=>?_,λYG=>?_⟩;rotate_left
  ·have YG:=aQ YG;have d:e=I f:=J
   rw[d,ii]at S6 Mc;exact⟨rfl,q7,S6,Mc,(jO.only o).trans aT⟩
  have YG:=aN YG;obtain⟨ad,y,r,g1,g2,g3,g4,g5,g6⟩:=(kK h7).get (aZ e) J;rw[aW]at g2;have rj:=bB g2;have Ri:=mH rj;have co:=Kl rj;have D9:=g6;obtain⟨D',rfl⟩:∃D',D=D'+1:=by
   cases D with
   | zero=>exact g6.elim
   | succ D'=>exact⟨D',rfl⟩
  obtain⟨tT,tU,qk,iE,rfl,_⟩:=g6;refine⟨ad,g1,_,_,_,_,tT,tU,qk,iE,_,g5,(hD D9 W S6 Mc (zh E rj) (Ld R.2 rj) J J).mono ?_⟩;rintro _ w8 ⟨rfl,q8,cc,Zx,bY⟩;have e8:dX (dX l (Ho d a++qQ d (f.take e))) (Fu d y)=dX l (Ho d a++qQ d (f.take (e+1))):=by
   rw[bq,g2];show _=dX l (Ho d a++qQ d (f.take e++[y]));rw[An];simp only[gx]
  rw[e8]at cc Zx;exact⟨rfl,aT.sm n A m bY,AQ-1,J,e+1,aaA,J,J,q8,⟨cc,Zx⟩,aT.trans bY⟩
 ·refine(DW (kA N v) zU J).mono ?_;rintro _ w9 ⟨rfl,b⟩;have y:=i (la:=a.lv) J;refine⟨_,rfl,sm v b,abN,?_⟩;rw[show(ao #[108,101,97,118,101,32])=T [108,101,97,118,101,32]from rfl,fm];refine((v.only b).line (d:=d) J _ aea n A m).mono ?_;rintro _ x ⟨rfl,k,q,s⟩;refine⟨rfl,k,q,?_⟩;have hc:=aN hc;rw[show Tm d a=[(d,lK++32::A1 a.lv)] by unfold Tm;rw[aR (λe=>by rw[e]at P;simp at P;omega)],gx];exact s
 ·refine(DW (kA Y t) yt J).mono ?_;rintro _ w9 ⟨rfl,b⟩;have y:=i (la:=a.en) J;refine⟨_,rfl,sm t b,abN,?_⟩;rw[show(ao #[101,110,116,101,114,32])=T [101,110,116,101,114,32]from rfl,fm];refine((t.only b).line (d:=d) J _ aea n A m).mono ?_;rintro _ x ⟨rfl,k,q,s⟩;refine⟨rfl,k,q,?_⟩;have hc:=aN hc;rw[show RY d a=[(d,lJ++32::A1 a.en)] by unfold RY;rw[aR (λe=>by rw[e]at j;simp at j;omega)],gx];exact s
 refine⟨abN,by rw[show(ao #[105,110,105,116,105,97,108,32])=T [105,110,105,116,105,97,108,32]from rfl,fm,cJ,aO];simp only[ba,bK];omega,?_⟩;rw[show(ao #[105,110,105,116,105,97,108,32])=T [105,110,105,116,105,97,108,32]from rfl,show(ao #[59])=T [59]from rfl,fm,fm];refine(V.line (d:=d) J _ ab7 n A m).mono ?_;rintro _ s ⟨rfl,b,q,k⟩;refine⟨rfl,b,q,?_⟩;have hc:¬a.ini=[]:=abv
 rw[show xS d a=[(d,ir++32::(a.ini++[59]))] by unfold xS;rw[aR hc]];have e:([105,110,105,116,105,97,108,32]++a.ini++[59]:aH)=ir++32::(a.ini++[59]):=by simp[ir]
 rw[e]at k;exact k
def abm{j:Nat}(hD:NdC j){F:aJ}{g:M}{b:Nat}{sl:Sl}{l:aH}{x:Nd}{B:aI}{d:Nat}(G:mz aL (j+1) g F x B)(C:∀k,F k->k<b)(hP:Prg g b sl l)(hl:I l<=4000000000000)(hn:Fv x)(o:Y1 x)(E:lf x<=1048576)(am:d+iB x<=4000000):
 az Q 162 #[ae (aM ⟨b,0,aaf⟩),ah B.toArray,O U (d:Int)] g λe i=>e=ak (ai #[])/\∃(sl':Sl),Prg i b sl' (dX l (Fu d x))/\I (dX l (Fu d x))<=4000000000000/\jO b sl g sl' i:=by
 obtain⟨f,s⟩:=x;have N:=G;obtain⟨en,lv,mv,kids,H,xa,fT⟩:=G;dsimp only[Nd.kids,Nd.b]at H xa fT;subst H;have z:=E;rw[lf]at z;unfold wO at z;have EJ:=hP.lb;have aS:=Hq (.mk f s);refine ret (alp _ _ _ _ _ _ _ _ _ _ _ ?_);intro t w dZ v D;have z0:=D.size;have y:t≠b:=J
 have A:sl.a≠aM ⟨t,0,aaf⟩:=λe=>acz
 have h0:pX w b sl w sl l:=⟨⟨hP.only D,hl⟩,jO.refl _ _ _⟩
 have aC:1<=f.k/\f.k<=4:=by rw[Y1]at o;exact o.1
 have nF:∀k,F k->¬(k=b∨sl.a=aM ⟨k,0,aaf⟩):=λk r=>hP.Xs (C k r);have fin:∀{u:M} {q:Sl} {n:aH},pX u b q w sl n->n=dX l (Fu d (.mk f s))->∃(sl':Sl),Prg u b sl' (dX l (Fu d (.mk f s)))/\I (dX l (Fu d (.mk f s)))<=4000000000000/\jO b sl g sl' u:=fun{u q n} h e=>by
  subst e;obtain⟨⟨p,a⟩,b⟩:=h;exact⟨q,p,a,(jO.only D).trans b⟩
 have P:∀(a c:aH),T a++T c=T (a++c):=fm;have R:(ao #[104,105,115,116,111,114,121,32])=T [104,105,115,116,111,114,121,32]:=rfl;have S:(ao #[32,45,62,32])=T [32,45,62,32]:=rfl;have V:(ao #[59])=T [59]:=rfl;have W:(ao #[100,101,101,112,32])=T [100,101,101,112,32]:=rfl;have Y:(ao #[115,116,97,116,101,32])=T [115,116,97,116,101,32]:=rfl;have e6:(ao #[32,123])=T [32,123]:=rfl;have e7:(ao #[112,97,114,97,108,108,101,108,32])=T [112,97,114,97,108,108,101,108,32]:=rfl;have e8:(ao #[125])=T [125]:=rfl;simp only[R,S,V,W,Y,e6,e7,e8,P,cJ];have go:∀(m:aH),I m<=3000000000010->az Q 113 #[ae (aM ⟨b,0,aaf⟩),O U (d:Int),K (T m)] w λe i=>e=ak (ai #[])/\cr [t] w i/\∃sl',pX i b sl' w sl (lA l (d,m)):=λm hm=>h0.line (d:=d) J m hm y A v;refine⟨λu=>¬iu f.k=L/\∃q,pX u b q w sl (lA l (d,kW f.k++32::(f.nm++[32,123]))),λw1 ⟨hh,q1,p⟩=>?_,λk3=>?_,λk3=>⟨λk4=>?_,λk4=>⟨λk1=>?_,λk1=>?_⟩⟩⟩
 ·obtain⟨⟨c,q⟩,h⟩:=p;have T:mz aL (j+1) w1 F (.mk f s) (od f.k f.nm f.ini f.dft en lv mv kids f.a):=(cA aL _).keep N λk r bW=>(h.1.block k J (nF k r)).trans (D.block k bW aaV);rw[fe (x:=(d:Int)+1) J J,show(d:Int)+1=((d+1:Nat):Int) by omega];refine(QL hD (d:=d+1) T C c q hn o E J).mono ?_;rintro _ w2 ⟨rfl,q2,e,ye,a⟩;have h2:pX w2 b q2 w sl _:=⟨⟨e,ye⟩,h.trans a⟩
  refine⟨rfl,h.sm y A v a,(h2.line (d:=d) J [125] X y A v).mono ?_⟩;rintro _ w3 ⟨rfl,aT,q3,h3⟩;refine⟨rfl,aT,agJ,fin h3 ?_⟩;rw[Fu,aR hh];simp only[xT,gx,Nd.b,Nd.kids];rfl
 ·have k3:f.k=3:=aeg
  simp only[aO,ba,bK];refine⟨J,J,J,J,(go _ ab7).mono ?_⟩;rintro _ b ⟨rfl,a,q,h⟩;refine⟨rfl,a,agJ,fin h ?_⟩;rw[Fu,aV (by unfold iu;exact bE (.inl k3)),k3];show _=lA l _;congr 2;simp[kW,vQ]
 ·have k4:f.k=4:=aeh
  simp only[aO,ba,bK];refine⟨J,J,J,J,(go _ ab7).mono ?_⟩;rintro _ b ⟨rfl,a,q,h⟩;refine⟨rfl,a,agJ,fin h ?_⟩;rw[Fu,aV (by unfold iu;exact bE (.inr k4)),k4];show _=lA l _;congr 2;simp[kW,JZ]
 ·have k1:f.k=1:=aef
  simp only[aO,ba,bK];refine⟨J,J,(go _ ab7).mono ?_⟩;rintro _ b ⟨rfl,a,q,h⟩;refine⟨rfl,a,by unfold iu;rw[k1];decide,q,?_⟩;have e:([115,116,97,116,101,32]++f.nm++[32,123]:aH)=kW f.k++32::(f.nm++[32,123]):=by rw[k1];simp[kW,Dd]
  rw[e]at h;exact h
 have k3:¬f.k=3:=aeg
 have k4:¬f.k=4:=aeh
 have k1:¬f.k=1:=aef
 have k:f.k=2:=J
 simp only[aO,ba,bK];refine⟨J,J,(go _ ab7).mono ?_⟩;rintro _ b ⟨rfl,a,q,h⟩;refine⟨rfl,a,by unfold iu;rw[k];decide,q,?_⟩;have e:([112,97,114,97,108,108,101,108,32]++f.nm++[32,123]:aH)=kW f.k++32::(f.nm++[32,123]):=by rw[k];simp[kW,sY]
 rw[e]at h;exact h
def QM:∀D,NdC D
 | 0=>λh _ _ _ _ _ _ _=>h.elim
 | D+1=>λx F P l n f s h=>abm (QM D) x F P l n f s h
def WY{w:M}{F:aJ}{D:Nat}{c:Ch}{g:Sl}{s:aI}(h:ChR aL (D+1) w F c g s)(n:Mb c)(W:nr c.vars+lf c.root<=1048576):
  az Q 80 #[ah (g.v::s).toArray] w λe P=>e=ak (ai #[K (T (iG c).1),O U (iG c).2])/\Z [] w P:=by
 have t:=h.root;obtain⟨j,o,mv,kids,N,_⟩:=h.root;subst N;refine ret (aqS _ _ _ _ _ _ _ _ _ _ ?_);intro f Y V S i;have z0:=i.size;have keep:∀{u:M},Z [] w u->ChR aL (D+1) u F c g (od c.root.b.k c.root.b.nm c.root.b.ini c.root.b.dft j o mv kids c.root.b.a):=λl=>⟨h.vars.keep fh X λk _ b=>l.block k b aaV,(cA aL _).keep h.root λk _ b=>l.block k b aaV⟩
 have H:I c.root.b.nm<=lf c.root:=by
  obtain⟨v,⟨a,k⟩⟩:=c;show (I a.nm)<=lf (.mk a k);rw[lf];unfold wO;omega
 refine(amr (keep i) n J).mono ?_;rintro _ w1 ⟨rfl,E⟩;have z1:=E.size;have r:=i.cn E;have p:∀(a c:aH),T a++T c=T (a++c):=fm;have x:(ao #[99,104,97,114,116,32])=T [99,104,97,114,116,32]:=rfl;have z:(ao #[32,123])=T [32,123]:=rfl;have A:(ao #[118,97,114,32])=T [118,97,114,32]:=rfl;have B:(ao #[32,61,32])=T [32,61,32]:=rfl;have C:(ao #[59])=T [59]:=rfl;have G:(ao #[125])=T [125]:=rfl;refine⟨_,rfl,E.same aba,λR=>⟨?_,r⟩,λR=>?_⟩
 ·have R:rl c=aL:=by simpa using R
  unfold iG;rw[R];rfl
 have R:rl c=L:=by simpa using R
 have Mf:Y1 c.root:=by
  unfold rl at R;simp only[aU]at R;exact WX 0 c.root R.1.2
 have YH:16384<(I (dX [] (Kj c)))->iG c=([],2):=λaS=>by unfold iG;rw[aV R,aV aS]
 have bY:¬16384<(I (dX [] (Kj c)))->iG c=(dX [] (Kj c),0):=λaS=>by unfold iG;rw[aV R,aR aS]
 obtain⟨LL,aT⟩:∃LL,LL=(0,gA++32::(c.root.b.nm++[32,123]))::(c.vars.map λv=>(1,vrT v)):=⟨_,rfl⟩
 have cc:Kj c=LL++(Ho 1 c.root.b++qQ 1 c.root.kids)++[(0,[125])]:=by rw[aT];unfold Kj;simp
 rw[x,z,G,p,p,cJ,cJ];refine⟨J,aea,λk1 w2 mA jS cR nj=>?_⟩;have z2:=cR.size;have o2:=r.cn cR;have co:Prg w2 k1 Sl.nil []:=⟨nj,.inl ⟨rfl,rfl⟩⟩
 have aC:f≠k1:=J
 have Oo:(Sl.nil).a≠aM ⟨f,0,aaf⟩:=λe=>ad2
 have fin:∀{u:M} {q:Sl} {bV:aH},pX u k1 q w2 Sl.nil bV->Z [] w u:=λaS=>(o2.oQ aS.2.1).only λk hk=>hk.elim J λe=>ad2
 have h2:pX w2 k1 Sl.nil w2 Sl.nil []:=⟨⟨co,X⟩,jO.refl _ _ _⟩
 have f8:=h.vars.1.len;have Bz:I c.vars<=nr c.vars:=by
  have:∀c:List Vr,I c<=nr c:=λc=>by induction c with
   | nil=>exact bm _
   | cons a c d=>rw[nr,ba];omega
  exact this _
 refine(h2.line (d:=0) X _ ab7 aC Oo J).mono ?_;rintro _ w3 ⟨rfl,dO,q3,h3⟩;have e0:([99,104,97,114,116,32]++c.root.b.nm++[32,123]:aH)=gA++32::(c.root.b.nm++[32,123]):=by simp[gA]
 rw[e0]at h3;have h3:pX w3 k1 q3 w2 Sl.nil (dX [] ((0,gA++32::(c.root.b.nm++[32,123]))::((c.vars.take 0).map λv=>(1,vrT v)))):=h3;obtain⟨⟨cC,f7⟩,fd⟩:=id h3;refine⟨rfl,dO,q3,cC.blk,λkv eQ q u=>∃am:Nat,eQ=(am:Int)/\kv+am=I c.vars/\am<=I c.vars/\pX u k1 q w2 Sl.nil (dX [] ((0,gA++32::(c.root.b.nm++[32,123]))::((c.vars.take am).map λv=>(1,vrT v)))),I c.vars,⟨0,rfl,J,bm _,h3⟩,?_⟩;rintro kv _ q w4 ⟨am,rfl,pZ,hj,h4⟩;obtain⟨⟨Zv,Zw⟩,Zz⟩:=id h4;refine⟨λmg w5 eW u7=>?_,λmg=>?_⟩
 ·have mg:=aN mg;have h5:=h4.only eW;obtain⟨⟨gT,iD⟩,gG⟩:=id h5;have gO:aA M0 3 w5 (λk=>F k/\k<w.heap.size) g c.vars:=SliceF.keep fh (SliceF.inHeap fh h.vars.1 X) X λk hk b=>(fin h5).block k b aaV;obtain⟨ad,y,s,g1,g2,g3,g4,g5,g6⟩:=gO.get (aZ am) J;rw[aW]at g2;have rj:=bB g2;have Ri:=wb rj;have a:=n.1 y rj;have g6:s=[K (T y.n),O U y.v,O U y.a]:=g6;subst g6;have gE:ad.block<w.heap.size:=g3.2;have ip:=QG a;have kp:∀{u u':M} {qa qb:Sl} {bV:aH},pX u k1 qa w2 Sl.nil bV->jO k1 qa u qb u'->bR (λk=>k=f∨k<w.heap.size) u u':=fun{u u' qa qb bV} hp hm k hk b=>hm.1.block k b λhh=>by
   rcases hh with e | e
   ·omega
   rcases hp.2.2 k e with T | T
   ·cases T
   omega
  rw[A,B,C];refine⟨λk=>k=f∨k<w.heap.size,.inl rfl,ad,g1,.inr (by rw[ou];exact gE),_,g5.part 0 λeQ v e=>tF e rfl,?_,?_,ad,g1,_,g5.part 1 λeQ v e=>tF e rfl,(QF w5 a).mono ?_⟩
  ·rw[cJ];omega
  ·rw[p,cJ,aO];simp only[ba,bK];omega
  rintro _ w6 ⟨rfl,dY⟩;have h6:=h5.only dY;obtain⟨⟨iF,iN⟩,k⟩:=id h6;have z6:=k.1.size;have z5:=gG.1.size;refine⟨_,rfl,dY.same aba,q,iF.blk,bR.only dY,?_,?_,?_⟩
  ·rw[p,p,cJ,cJ];simp only[aO,ba,bK];omega
  ·rw[p,p,p,cJ];simp only[aO,ba,bK];omega
  rw[p,p,p,p];refine(QI iF (d:=1) X _ ab7).mono ?_;rintro _ w7 ⟨rfl,q7,S6,q⟩;have Mc:=QH (d:=1) (m:=[118,97,114,32]++y.n++[32,61,32]++Lib.itoa y.v++[59]) iN X ab7;have ev:([118,97,114,32]++y.n++[32,61,32]++Lib.itoa y.v++[59]:aH)=vrT y:=by simp[vrT,Hc]
  have e7:lA (dX [] ((0,gA++32::(c.root.b.nm++[32,123]))::((c.vars.take am).map λv=>(1,vrT v)))) (1,[118,97,114,32]++y.n++[32,61,32]++Lib.itoa y.v++[59])=dX [] ((0,gA++32::(c.root.b.nm++[32,123]))::((c.vars.take (am+1)).map λv=>(1,vrT v))):=by
   rw[ev,bq,g2,cp];simp only[xT,gx];rfl
  rw[e7]at S6 Mc;exact⟨rfl,k.sm aC Oo J q,q7,S6.blk,kp h6 q,kv-1,J,am+1,aaA,J,J,⟨S6,Mc⟩,k.trans q⟩
 have y:mz aL (D+1) w4 (λk=>F k/\k<w.heap.size) c.root (od c.root.b.k c.root.b.nm c.root.b.ini c.root.b.dft j o mv kids c.root.b.a):=(cA aL _).keep ((cA aL _).inHeap t) λk _ b=>(fin h4).block k b aaV;have mt:=VI c.root;have mg:=aQ mg;have lc:am=I c.vars:=J
 subst lc;rw[ii,<-aT]at Zv Zw;refine(QL (QM D) (d:=1) y (λk hk=>ab9) Zv Zw n.2 Mf J J).mono ?_;rintro _ w8 ⟨rfl,q8,m,Zx,e⟩;have h8:pX w8 k1 q8 w2 Sl.nil _:=⟨⟨m,Zx⟩,Zz.trans e⟩
 refine⟨rfl,Zz.sm aC Oo J e,q8,m.blk,(h8.line (d:=0) X [125] X aC Oo J).mono ?_⟩;rintro _ w9 ⟨rfl,T,q9,v⟩;have e9:lA (dX (dX [] LL) (Ho 1 c.root.b++qQ 1 c.root.kids)) (0,[125])=dX [] (Kj c):=by
  rw[cc];simp only[gx];rfl
 rw[e9]at v;obtain⟨⟨a,lT⟩,iS⟩:=id v;have lE:=a.buf.len;refine⟨rfl,T,q9,a.blk,λq=>⟨?_,fin v⟩,λq=>⟨_,a.buf.bytes,?_,fin v⟩⟩
 ·have q:=aN q;rw[YH J]
 have q:=aQ q;rw[bY J]
def Gr(s:Sl)(w:M)(a:Sl)(b:M):Prop:=aD (λk=>s.a=aM ⟨k,0,aaf⟩) w b/\∀k,a.a=aM ⟨k,0,aaf⟩->s.a=aM ⟨k,0,aaf⟩∨w.heap.size<=k
def Gr.trans{s c a:Sl}{w d u:M}(h:Gr s w c d)(k:Gr c d a u):Gr s w a u:=by
 have z:=h.1.size;refine⟨h.1.trans k.1 λx b=>?_,λx b=>?_⟩
 ·rcases h.2 x b with e | e
  ·exact .inl e
  exact .inr e
 rcases k.2 x b with e | e
 ·exact h.2 x e
 exact .inr J
def Gr.only{s:Sl}{w w':M}(h:Z [] w w'):Gr s w s w':=⟨h.p0,λ_ h=>.inl h⟩
def WZ(t:Bool):∀(D:Nat) {w:M} {F:aJ} {x:Nd} {c:aI} {B:Nat} {s:Sl} {xs:List dN} {pa dp:Int},mz t D w F x c->(∀k,F k->k<B)->gW B w s xs->B<=w.heap.size->
  (I xs)+iB x<=1000000->0<=dp->dp+iB x<=1000000->
  az Q 49 #[s.v,ah c.toArray,O U pa,O U dp] w λe a=>∃b,e=ak (Sl.v b)/\gW B a b (xs++Bt (I xs) pa dp x)/\Gr s w b a
 | 0,_,_,_,_,_,_,_,_,_,h,_,_,_,_,_,_=>h.elim
 | D+1,w,F,.mk d f,c,B,s,xs,pa,dp,⟨en,lv,mv,kids,R,_,m⟩,H,hS,am,hn,h0,hd=>by
  have hk:=m.1;clear m;dsimp only[Nd.kids,Nd.b]at hk R;subst R;rw[iB]at hn hd;have ET:=hk.len;have aC:=nQ f;refine iW (akr _ _ _ _ _ _ _ _ _ _ _ _ ?_);intro o w0 m dZ g;have z0:=g.size;have E:s.n=I xs:=hS.len;have W:gW B w0 s xs:=hS.zJ g.p0 λ_ _ _ h=>h;obtain⟨y,w2,k1,k3,i,l,Y,g2,⟨gs,n,g4⟩,C⟩:=jV (P:=Q) (t:=43) (ty:=43) (e:=59) (i:=Tryz.t59) (bytes:=48) (size:=5) (r:=tA) (G:=λ_=>False) (v:=ah #[O U d.k,K (T d.nm),O U pa,O U dp,O U 0]) (x:=⟨d.k,d.nm,pa,dp,0⟩) aaz aaz rfl rfl rfl rfl X X X dI W J rfl rfl (λ_ h=>h.elim) J;have z2:=k3.size;have z3:=n.size;have qA:s.a≠aM ⟨o,0,aaf⟩:=λe=>abU
  have m3:Gr s w i l:=by
   refine⟨(g.cn k3).oQ (n.p (F:=λk=>s.a=aM ⟨k,0,aaf⟩) λq r=>.inl (g4 q r).1),λk hk=>?_⟩;rcases C with e | ⟨q,e,h⟩
   ·exact .inl abW
   rw[e]at hk;injection hk with hk;injection hk with hk;exact .inr J
  have n3:∀k,i.a=aM ⟨k,0,aaf⟩->k≠o:=λk hk e=>by
   subst e;rcases C with e | ⟨k,e,h⟩
   ·exact qA abW
   rw[e]at hk;injection hk with hk;injection hk with hk;omega
  have V:gW B l i (xs++[⟨d.k,d.nm,pa,dp,0⟩]):=gW.of g2;have jJ:∀{S:M} {q:Sl},Gr s w q S->aA (mz t D) 9 S F kids f:=λhm=>SliceF.lO (cA t D) X hk hm.1 λk xd _ h=>by
   have:=H k xd;have:=(hS.blk h).1;dsimp only at this;omega
  refine⟨y,w2,k1,k3.same aba,i,l,Y,n.same λx hx=>⟨abF,λh=>acr⟩,λp q N a=>∃j:Nat,N=(j:Int)/\p+j=I f/\j<=I f/\gW B a q (xs++⟨d.k,d.nm,pa,dp,0⟩::qE (I xs+1) (I xs) (dp+1) (f.take j))/\Gr s w q a/\l.heap.size<=a.heap.size/\∀k,q.a=aM ⟨k,0,aaf⟩->k≠o,I f,⟨0,rfl,J,bm _,by rw[ci,qE];exact V,m3,aX _,n3⟩,?_⟩;rintro p q _ w5 ⟨j,rfl,pZ,mf,A,u,z5,z⟩;constructor
  ·intro hc;have hj:j<I f:=abL
   obtain⟨y,hy⟩:∃y,f[j]? =aM y:=⟨_,bh hj⟩
   obtain⟨ad,y',ds,a1,B,a3,a4,a5,P⟩:=(jJ u).get (aZ j) J;rw[aW,hy]at B;injection B with B;subst B;have Md:=P;obtain⟨r,rfl⟩:∃r,D=r+1:=by
    cases D with
    | zero=>exact P.elim
    | succ r=>exact⟨r,rfl⟩
   obtain⟨tT,tU,qk,iE,rfl,_⟩:=Md;have sB:=ld hy;have v:I (xs++⟨d.k,d.nm,pa,dp,0⟩::qE (I xs+1) (I xs) (dp+1) (f.take j))=I xs+1+dx (f.take j):=by
    rw[aO,ba,ur];omega
   refine⟨ad,a1,_,_,_,_,tT,tU,qk,iE,_,a5,?_⟩;rw[fe J J,E];refine(WZ t (r+1) (pa:=((I xs:Nat):Int)) P (s:=q) (xs:=xs++⟨d.k,d.nm,pa,dp,0⟩::qE (I xs+1) (I xs) (dp+1) (f.take j)) (dp:=dp+1) H A (by have:=g.size;omega) (by rw[v];omega) J J).mono ?_;rintro _ w7 ⟨q7,rfl,T,G⟩;have z7:=G.1.size;refine⟨q7,rfl,G.1.same λx hx=>?_,p-1,J,j+1,aaA,J,J,?_,u.trans G,J,λk hk e=>?_⟩
   ·simp only[aP]at hx;subst hx;exact⟨J,λh=>z _ h rfl⟩
   ·have e:f.take (j+1)=f.take j++[y]:=ahF
    rw[e,Hp,qE,qE,bG];rw[v,bC,ca]at T;exact T
   subst e;rcases G.2 _ hk with h | h
   ·exact z _ h rfl
   omega
  intro hc;have T:j=I f:=abO
  subst T;rw[bp (aX _)]at A;have uG:(xs++⟨d.k,d.nm,pa,dp,0⟩::qE (I xs+1) (I xs) (dp+1) f)[I xs]? =aM ⟨d.k,d.nm,pa,dp,0⟩:=by
   rw[cd (aX _),lr];rfl
  obtain⟨t,cells,P,x,y,p3,p4,p5,p6,p7⟩:=Own.SF dI A uG;have r:P=spv ⟨d.k,d.nm,pa,dp,0⟩:=p6;subst r;have s:q.n=I xs+1+dx f:=by rw[A.len,aO,ba,ur];omega
  obtain⟨G,p9⟩:=p7 4 (O U (q.n:Int)) ⟨d.k,d.nm,pa,dp,(q.n:Int)⟩ (λ_=>False) X rfl λ_ h=>h.elim;rw[<-E]at y;refine⟨_,y,t,I xs*5+4,cells,_,by rw[gu,E],p3,by rw[<-E]at G⊢;exact G,λe=>z t x e.symm,λw9 v B=>⟨q,rfl,?_,?_⟩⟩
  ·have:=p9 w9 v B;rw[nB _ _ (aX _),lr,LN]at this;rw[Bt];have e:(q.n:Int)=((I xs+1+dx f:Nat):Int):=by rw[s]
   rw[e]at this;exact this
  refine u.trans ⟨v.p λk hk=>?_,λk hk=>.inl hk⟩;simp only[aP]at hk;subst hk;exact .inl x
def W0{w:M}{F:aJ}{D:Nat}{c:Ch}{v:Sl}{b:aI}(x:ChR aL (D+1) w F c v b)(o:iB c.root<=64):
  az Q 21 #[ah (v.v::b).toArray] w λe f=>(∃s,e=ak (Sl.v s)/\gW w.heap.size f s (dz c))/\Z [] w f:=by
 obtain⟨n,l,mv,kids,i,_⟩:=x.root;subst i;refine iW (akb _ _ _ _ _ _ _ _ _ _ ?_);intro p g T m a;have z:=a.size;have h:mz aL (D+1) g (λk=>k<w.heap.size) c.root (od c.root.b.k c.root.b.nm c.root.b.ini c.root.b.dft n l mv kids c.root.b.a):=
  (cA aL _).keep ((cA aL _).mono ((cA aL _).inHeap x.root) λk hk=>hk.2) λk _ W=>a.block k W aaV
 refine(WZ aL (D+1) (B:=w.heap.size) (s:=Sl.nil) (xs:=[]) (pa:= -1) (dp:=0) h (λk hk=>hk) (Own.nil _ _ _ _ _ _) z ack X J).mono ?_;rintro _ j ⟨d,rfl,S,G⟩;have E:Z [] g j:=G.1.only λk hk=>agF
 exact⟨d,rfl,E.same aba,⟨d,rfl,by rw[cb]at S;exact S⟩,a.cn E⟩
def AD{c:Ch}(h:(iG c).2=0):rl c=L:=by
 unfold iG at h;by_cases a:rl c=L
 ·exact a
 rw[aR a]at h;exact absurd h (by show ¬(22:Int)=0;decide)
def AE{c:Ch}(a:(iG c).2=0):iB c.root<=64:=by
 have h:=AD a;unfold rl at h;simp only[aU]at h;exact(aN h.2).2.2.1
def abn{w:M}{F:aJ}{a:Nat}{c:Ch}{v:Sl}{d:aI}(x:ChR aL (a+1) w F c v d)(i:Mb c)(j:nr c.vars+lf c.root<=1048576):
  az Q 45 #[ah (v.v::d).toArray] w λe g=>(∃s:Sl,e=ak (ai #[Sl.v s,O U (iG c).2])/\((iG c).2=0->gW w.heap.size g s (dz c))/\((iG c).2≠0->s=Sl.nil))/\Z [] w g:=by
 obtain⟨n,m,mv,kids,l,_⟩:=x.root;subst l;refine iW (akn _ _ _ _ _ _ _ _ _ _ ?_);intro r t T q D;have A:=D.size;have keep:∀{u:M},Z [] w u->ChR aL (a+1) u F c v (od c.root.b.k c.root.b.nm c.root.b.ini c.root.b.dft n m mv kids c.root.b.a):=λf=>⟨x.vars.keep fh X λk _ b=>f.block k b aaV,(cA aL _).keep x.root λk _ b=>f.block k b aaV⟩
 refine(WY (keep D) i j).mono ?_;rintro _ y ⟨rfl,E⟩;have B:=E.size;have o:=D.cn E;refine⟨_,_,rfl,E.same aba,λhc=>⟨⟨_,rfl,λh=>absurd h abv,λ_=>rfl⟩,o⟩,λhc=>?_⟩;have hc:(iG c).2=0:=abv
 refine(W0 (keep o) (AE hc)).mono ?_;rintro _ z ⟨⟨p,rfl,S⟩,R⟩;exact⟨_,rfl,R.same aba,⟨p,by rw[hc],λ_=>Own.low S J,λh=>absurd hc h⟩,o.cn R⟩
section
variable {xs:List dN}
def Fo.deep(F:Fo xs){n:Nat}:∀(j:Nat) {i:Nat} {x y:dN},i<j->xs[i]? =aM x->xs[j]? =aM y->(n:Int)<x.en->j<=n->x.dp<y.dp
 | j,i,x,y,D,a,c,n,l=>by
  obtain⟨p,t,m,h,d,f,g,k,b⟩:=F.pa j y J c;by_cases e:i=p
  ·subst e;rw[a,bN]at h;subst h;omega
  have o:i<p:=by
   refine Nat.lt_of_le_of_ne (jd λp=>?_) e;have:=b i x p D a;omega
  have:=Fo.deep F p o a h n J;omega
def wD(x:List dN)(a b:Int):Bool:=decide (b>=0)&&decide (b<(I x:Int))&&decide (a>b)&&decide (a<((x[b.toNat]?).map (λs:dN=>s.en)).getD 0)
def QN{m:Nat}{x:dN}(h:xs[m]? =aM x)(n:Int):wD xs n m=decide ((m:Int)<n/\n<x.en):=by
 have:=iw h;unfold wD;rw[aW,h,lh,jc,bM];simp only[aU,bF];omega
def wZ{m:Nat}{x:dN}(h:xs[m]? =aM x){n:Int}(a:0<=n):lZ xs m n=decide ((m:Int)<=n/\n<x.en):=by
 unfold lZ M6;rw[aW,h,bM];simp only[aU,bF];omega
def ago(F:Fo xs)(a b:Int)(c:b<I xs):wD xs a b=Al xs a b:=by
 by_cases h:0<=b
 ·obtain⟨m,rfl⟩:∃m:Nat,b=m:=⟨b.toNat,J⟩
  obtain⟨x,d⟩:=gj (xs:=xs) (i:=m) J;rw[QN d];unfold Al;by_cases e:0<=a
  ·rw[wZ d e,bM];simp only[aU,bF];omega
  have:lZ xs m a=aL:=by unfold lZ;rw[bD J,cV]
  rw[this,gQ,bD J]
 unfold wD Al lZ;simp only[bD (by omega:¬b>=0),bD (by omega:¬(0<=b/\0<=a)),cV,gQ]
def agp(F:Fo xs){n:Int}(b:0<=n){m:Nat}(a:m<I xs):(wD xs n m||(n==(m:Int)))=lZ xs m n:=by
 obtain⟨x,h⟩:=gj (xs:=xs) (i:=m) a;have:=(F.up m x h).1;rw[QN h,wZ h b,bM];simp only[cu,bF,db];omega
def Sy(F:Fo xs){a:Int}(h:0<=a){j m:Nat}{x y:dN}(b:xs[j]? =aM x)(c:xs[m]? =aM y)(f:j<m)(d:lZ xs j a=L)(e:lZ xs m a=L):x.dp<y.dp:=by
 rw[wZ b h,cP]at d;rw[wZ c h,cP]at e;exact F.deep (n:=a.toNat) m f b c J J
end
section
variable {w w':M} {F G:aJ} {sl sN:Sl} {xs:List dN}
def amx{B:Nat}{w:M}{s:Sl}{x:List Int}(h:gn B w s x):aA iM 1 w (λk=>B<=k) s x:=(h.slice cK).mono cK λk hk=>hk.elim (λh=>h.elim) λh=>h.1
def H3{w:M}{F:aJ}{s:Sl}{l:List Int}(h:aA iM 1 w F s l){i:Nat}{x:Int}(a:l[i]? =aM x):∃ad,cT s (i:Int) 1 ad/\aB w ad [O U x]:=by
 have W:=(bf.1 a).1;have k:=h.len;obtain⟨ad,y,e,b,g,f,j,c,d⟩:=h.get (aZ i) J;rw[aW,a]at g;injection g with g;subst g;obtain⟨rfl,_⟩:=d;exact⟨ad,b,c⟩
def Cg(w:M)(k:Int):az Q 29 #[O U k] w λe w'=>e=ak (aj (iu k))/\w'=w:=by
 refine ret (aki _ ?_);exact⟨by unfold iu;congr 1;rw[bM];simp,rfl⟩
def uF(a:aA tA 5 w F sl xs)(n:aH):az Q 23 #[sl.v,K (T n)] w λe w'=>e=ak (O U (fN xs n))/\w'=w:=by
 refine ret (akd _ _ ?_);have l:=a.len;have R:=a.cap;have B:=a.big;refine⟨λk i u=>∃j:Nat,i=(j:Int)/\k+j=I xs/\j<=I xs/\(∀y,y∈xs.take j->y.nm≠n)/\w=u,I xs,⟨0,rfl,J,bm _,aaV,rfl⟩,?_⟩;rintro k _ _ ⟨j,rfl,p,c,b,rfl⟩;refine⟨λh=>?_,λh=>?_⟩
 ·have h:=aN h;obtain⟨x,f⟩:=gj (xs:=xs) (i:=j) J;obtain⟨ad,g,m,_⟩:=jQ a f;refine⟨ad,g,_,m.dM 1 _ rfl,λe=>?_,λe=>⟨k-1,J,j+1,aaA,J,J,λy d=>?_,rfl⟩⟩
  ·rw[iV]at e;rw[xW f b (aN e)];exact⟨rfl,rfl⟩
  rw[iV]at e;rw[bq,f,cj]at d;rcases d with d | d
  ·exact b y d
  simp only[Option.toList,aP]at d;subst d;exact aQ e
 have h:=aQ h;rw[bp J]at b;refine⟨?_,rfl⟩;rcases jE xs n with⟨e,_⟩ | ⟨i,x,_,d,e⟩
 ·rw[e]
 exact absurd e (b x (bB d))
def H4(h:aA tA 5 w F sl xs)(a b:Int):az Q 50 #[sl.v,O U a,O U b] w λe w'=>e=ak (aj (wD xs a b))/\w'=w:=by
 refine ret (aks _ _ _ ?_);unfold ac6 wD;rw[h.len];by_cases c:((decide (b>=0)&&decide (b<(I xs:Int)))&&decide (a>b))=L
 ·have u:=c;simp only[aU]at u;have f:=aN u.1.1;have g:=aN u.1.2;obtain⟨i,rfl⟩:∃i:Nat,b=i:=⟨b.toNat,J⟩
  obtain⟨y,a⟩:=gj (xs:=xs) (i:=i) J;obtain⟨ad,d,_,_,_,e⟩:=jQ h a;refine⟨ad,λ_=>d,y.en,λ_=>e,?_,rfl⟩;rw[aW,a];rfl
 refine⟨⟨0,0,aaf⟩,λh=>absurd h c,0,λh=>absurd h c,?_,rfl⟩;rw[oW]at c;rw[c,cV,cV]
def abo(c:aA tA 5 w F sl xs)(g:Fo xs)(r:I xs<=1000){a b:Int}(N:aA iM 1 w G sN [a,b])(l:xU xs a)(o:xU xs b):
  az Q 165 #[sl.v,sN.v] w λe w'=>e=ak (O U (yX xs a b))/\Z [] w w':=by
 refine ret (als _ _ ?_);have q:=c.len;have p:sN.n=2:=N.len;have f:=l.1;have B:=o.1;have k:∀{u:M},Z [] w u->aA tA 5 u F sl xs:=λh=>SliceF.only dI X c h aaV;have kN:∀{u:M},Z [] w u->aA iM 1 u G sN [a,b]:=λh=>SliceF.only cK X N h aaV;refine⟨λv Y i u=>∃m:Nat,i=(m:Int)/\v+m=I xs/\m<=I xs/\Z [] w u/\Y=yW xs a b m,I xs,⟨0,rfl,J,bm _,Only.refl _ _,rfl⟩,?_⟩;rintro v _ _ j ⟨m,rfl,s,E,h,rfl⟩;refine⟨λd=>?_,λd=>?_⟩
 ·rw[aU]at d;have S:=aN d.1;obtain⟨x,D⟩:=gj (xs:=xs) (i:=m) J;refine⟨λC u=>C=yW xs a b (m+1)/\Z [] w u,λC u ⟨G,H⟩=>⟨v-1,J,m+1,aaA,J,J,H,G⟩,λA al i u=>∃t:Nat,i=(t:Int)/\A+t=2/\t<=2/\al=(([a,b].take t).all λn=>lZ xs m n)/\j=u,2,⟨0,rfl,J,bm _,rfl,rfl⟩,?_⟩;rintro A _ _ _ ⟨t,rfl,R,P,rfl,rfl⟩;refine⟨λF=>?_,λF=>?_⟩
  ·have F:=aN F;obtain⟨ad,y,z,b,a,T,V,e,n⟩:=(kN h).get (aZ t) J;obtain⟨rfl,_⟩:=n;rw[aW]at a;have x:0<=y:=by
    have:=bB a;simp only[aY,bA,cf]at this;omega
   refine⟨ad,b,y,e,(H4 (k h) y m).mono ?_⟩;rintro _ u ⟨rfl,w⟩;obtain rfl:j=u:=w.symm;refine⟨_,rfl,ad,λ_ _=>b,y,λ_ _=>e,A-1,J,t+1,aaA,J,J,?_,rfl⟩;rw[bq,a,iK,agp g x J];simp
  have F:=aQ F;have ht:t=2:=J
  subst ht;have y:([a,b].take 2).all (λn=>lZ xs m n)=(lZ xs m a&&lZ xs m b):=aaV
  rw[y];have w:yW xs a b (m+1)=if(lZ xs m a&&lZ xs m b)=L then(m:Int)else yW xs a b m:=rfl
  obtain⟨ad,T,_,_,V,_⟩:=jQ (k h) D;rcases wN (xs:=xs) a b m with⟨e,_⟩ | ⟨am,e,W,mg,_⟩
  ·rw[e]at w⊢;refine⟨ad,λ_ c=>absurd c X,0,λ_ c=>absurd c X,ad,λ_ c=>absurd c X,0,λ_ c=>absurd c X,λhq n a=>⟨?_,h.cn a⟩,λhq t b=>⟨?_,h.cn b⟩⟩
   ·rw[w,aV aec]
   rw[w,aR aec]
  obtain⟨z,a⟩:=gj (xs:=xs) (i:=am) J;obtain⟨xf,b,_,_,n,_⟩:=jQ (k h) a;rw[e]at w⊢;refine⟨ad,λ_ _=>T,_,λ_ _=>V,xf,λ_ _=>b,_,λ_ _=>n,λhq w4 t=>⟨?_,h.cn t⟩,λhq w5 h5=>⟨?_,h.cn h5⟩⟩
  ·rw[w,aV];rw[aU]at hq;exact hq.1
  rw[w,aR];intro e;have:=Sy g f a D W (aU _ _▸mg).1 (aU _ _▸e).1;rw[e,bE (show x.dp>z.dp from this)]at hq;simp at hq
 refine⟨?_,h⟩;have:m=I xs:=by
  rw[fS]at d;rcases d with d | d
  ·have:=aQ d;omega
  have:=aQ d;omega
 rw[this];rfl
end
def DX(w:M)(k:Int):az Q 29 #[O U k] w λe a=>e=ak (aj ((k==3)||(k==4)))/\a=w:=by
 have h:=Cg w k;rw[show iu k=((k==3)||(k==4)) by unfold iu;rw[bM];simp]at h;exact h
end Go.Proofs.YtfemabakfkliiaaGreatDoor.Con
