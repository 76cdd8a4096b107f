import Derived.Test.YtfemabakfkliiaaGreatDoorQg6
set_option linter.defProp false
set_option linter.unusedSectionVars false
set_option linter.unusedSimpArgs false
set_option linter.unusedVariables false
set_option maxHeartbeats 4000000
open Bool renaming true->L,false->aL
open Option renaming some->aM,none->aaf
open List renaming length->I
open Go.Value renaming int->O,string->K,pointer->ae,agg->ah,tuple->ai,bool->aj
open Go.IntKind renaming i64->U,wrap->ar
open Go.Ending renaming returned->ak
open _root_.ByteArray renaming mk->ao
open _root_.Go.Proofs.Tryz renaming prog->Q
open Go.Instr renaming buildSlice->au
open Go renaming World->M,Value->aw,Calls->az
open Go.Kt renaming Only->Z,SliceF->aA,Cells->aB,OnlyP->aD,Blk->aF
namespace Go.Proofs.YtfemabakfkliiaaGreatDoor.Con
open Go Go.RowKit Go.Kt Go.Kt.V Go.Proofs.YtfemabakfkliiaaGreatDoor.Vc
structure dN where
 k:Int
 nm:aH
 pa:Int
 dp:Int
 en:Int
mutual
def Bt(a:Nat)(p d:Int):Nd->List dN
 | .mk b l=>⟨b.k,b.nm,p,d,((a+1+dx l:Nat):Int)⟩::qE (a+1) a (d+1) l
def qE(a:Nat)(p d:Int):List Nd->List dN
 | []=>[]
 | x::l=>Bt a p d x++qE (a+iB x) p d l
end
mutual
def lz(a:Nat)(p d:Int):∀x,I (Bt a p d x)=iB x
 | .mk b l=>by rw[Bt,iB,ba,ur]
def ur(a:Nat)(p d:Int):∀l,I (qE a p d l)=dx l
 | []=>by rw[qE,dx];rfl
 | x::l=>by rw[qE,dx,aO,lz,ur]
end
def yU:∀l m,dx (l++m)=dx l+dx m
 | [],m=>by rw[dx,cb,bS]
 | x::l,m=>by rw[ca,dx,dx,yU l m,dB]
def Hp pa dp:∀l m a,qE a pa dp (l++m)=qE a pa dp l++qE (a+dx l) pa dp m
 | [],m,a=>by rw[cb,qE,cb,dx,eE]
 | x::l,m,a=>by rw[ca,qE,qE,Hp pa dp l m,dx,bC,dB]
def Hq:∀x,1<=iB x
 | .mk b l=>by rw[iB];omega
def Kl{x}:∀{l:List Nd},x∈l->iB x<=dx l
 | [],h=>abS
 | y::l,h=>by
  rw[dx];rcases aY.1 h with rfl | h
  ·omega
  have:=Kl h;omega
def ld{y}:∀{l:List Nd} {j:Nat},l[j]? =aM y->dx (l.take j)+iB y<=dx l
 | [],_,h=>abS
 | x::l,0,h=>by
  rw[cw,bN]at h;subst h;rw[ci,dx,dx];omega
 | x::l,j+1,h=>by
  have:=ld (l:=l) (j:=j) (by rwa[cO]at h);rw[eJ,dx,dx];omega
def nQ:∀l,I l<=dx l
 | []=>bm _
 | a::l=>by
  have:=nQ l;have:=Hq a;rw[dx,ba];omega
def Dp(b:List dN)(a i:Nat)(s:dN):Prop:=∃p t,p<i/\b[p]? =aM t/\s.pa=((a+p:Nat))/\s.dp=t.dp+1/\((a+i:Nat))<t.en/\s.en<=t.en/\∀j u,p<j->j<i->b[j]? =aM u->u.en<=((a+i:Nat))
def Dp.Be{L M}{a i}{s}(h:Dp L a i s)(o:i<I L):Dp (L++M) a i s:=by
 obtain⟨p,t,d,e,f,j,k,l,m⟩:=h;refine⟨p,t,d,?_,f,j,k,l,λn u g b c=>m n u g b ?_⟩
 ·rw[bX J];exact e
 rwa[bX J]at c
def Dp.shift{L M}{a i}{s}(h:Dp M (a+I L) i s):Dp (L++M) a (I L+i) s:=by
 obtain⟨p,t,l,b,c,d,m,e,f⟩:=h;refine⟨I L+p,t,J,?_,by rw[c];omega,d,J,e,λn u j k g=>?_⟩
 ·rw[cd J,dG];exact b
 rw[cd J]at g;have:=f _ u J J g;omega
mutual
def M4(a:Nat)(p d:Int):∀(x:Nd) (i:Nat) (s:dN),(Bt a p d x)[i]? =aM s->((a+i:Nat):Int)<s.en/\s.en<=((a+iB x:Nat):Int)/\(i=0->s.pa=p/\s.dp=d/\s.en=((a+iB x:Nat):Int))/\(0<i->Dp (Bt a p d x) a i s)
 | .mk b l,i,s,h=>by
  rw[Bt]at h⊢;rw[iB];cases i with
  | zero=>
   rw[cw,bN]at h;subst h;dsimp only;exact⟨J,J,λ_=>⟨rfl,rfl,J⟩,λh=>J⟩
  | succ i=>
   rw[cO]at h;obtain⟨k,m,j⟩:=Vn (a+1) a (d+1) l i s h;refine⟨J,J,λh=>J,λ_=>?_⟩;rcases j with⟨c,e,f⟩ | g
   ·refine⟨0,_,J,cw,by rw[c,eE],e,abQ,abQ,λa u b n k3=>?_⟩;cases a with
    | zero=>omega
    | succ a=>
     rw[cO]at k3;have:=f a u J k3;omega
   have:=Dp.shift (L:=[⟨b.k,b.nm,p,d,((a+1+dx l:Nat):Int)⟩]) (M:=qE (a+1) a (d+1) l) (a:=a) (i:=i) (s:=s) g;rw[bI,fV 1 i]at this;exact this
def Vn(a:Nat)(p d:Int):∀(l:List Nd) (i:Nat) (s:dN),(qE a p d l)[i]? =aM s->((a+i:Nat):Int)<s.en/\s.en<=((a+dx l:Nat):Int)/\
  ((s.pa=p/\s.dp=d/\∀j u,j<i->(qE a p d l)[j]? =aM u->u.en<=((a+i:Nat):Int))∨Dp (qE a p d l) a i s)
 | [],i,s,h=>by rw[qE]at h;simp at h
 | x::l,i,s,h=>by
  rw[qE]at h⊢;rw[dx];have b:=lz a p d x;by_cases c:i<iB x
  ·rw[bX J]at h;obtain⟨f,m,g,k⟩:=M4 a p d x i s h;refine⟨f,J,?_⟩;by_cases e:i=0
   ·obtain⟨a,n,o⟩:=g e;exact .inl ⟨a,n,λj u q=>J⟩
   exact .inr ((k J).Be J)
  rw[cd J,b]at h;obtain⟨n,o,m⟩:=Vn (a+iB x) p d l (i-iB x) s h;refine⟨J,J,?_⟩;rcases m with⟨e,f,k⟩ | g
  ·refine .inl ⟨e,f,λj u s q=>?_⟩;by_cases r:j<iB x
   ·rw[bX J]at q;have:=(M4 a p d x j u q).2.1;omega
   rw[cd J,b]at q;have:=k (j-iB x) u J q;omega
  refine .inr ?_;rw[<-b]at g;have:=Dp.shift (L:=Bt a p d x) g;rw[b]at this;rwa[show iB x+(i-iB x)=i by omega]at this
end
structure Fo (xs:List dN):Prop where
 ne:0<I xs
 rt:∀s:dN,xs[0]? =aM s->s.pa= -1/\s.dp=0/\s.en=(I xs:Int)
 up:∀(i:Nat) (s:dN),xs[i]? =aM s->(i:Int)<s.en/\s.en<=(I xs:Int)
 pa:∀(i:Nat) (s:dN),0<i->xs[i]? =aM s->Dp xs 0 i s
def dz(c:Ch):List dN:=Bt 0 (-1) 0 c.root
def yV c:Fo (dz c):=by
 unfold dz;have l:=lz 0 (-1) 0 c.root;have a:=M4 0 (-1) 0 c.root;refine⟨by have:=Hq c.root;omega,λs h=>?_,λi s h=>?_,λi s b h=>(a i s h).2.2.2 b⟩
 ·obtain⟨c,d,e⟩:=(a 0 s h).2.2.1 rfl;exact⟨c,d,by rw[e,l];omega⟩
 obtain _:=a i s h;exact⟨J,J⟩
section
variable {xs:List dN} (F:Fo xs) {i j k p:Nat} {s t u:dN}
include F
theorem Fo.lam:∀k {i:Nat} {s t:dN},xs[i]? =aM s->xs[k]? =aM t->i<k->k<s.en->t.en<=s.en
 | k,i,s,t,a,hk,b,m=>by
  obtain⟨p,v,f,h,g,j,l,c,d⟩:=F.pa k t J hk;by_cases e:p<i
  ·have:=d i s e b a;omega
  by_cases k:p=i
  ·subst k;rw[a,bN]at h;subst h;exact c
  have:=Fo.lam p a h J J;omega
theorem Fo.par(hk:xs[k]? =aM t)(h:0<k):∃(p:Nat) (s:dN),p<k/\t.pa=p/\xs[p]? =aM s/\t.dp=s.dp+1/\k<s.en/\∀i u,xs[i]? =aM u->i<k->(k:Int)<u.en->i<=p:=by
 obtain⟨p,v,a,b,c,d,l,m,e⟩:=F.pa k t h hk;refine⟨p,v,a,by rw[c];omega,b,d,J,λi u j f n=>?_⟩;by_cases g:p<i
 ·have:=e i u g f j;omega
 omega
omit F in
theorem iw {xs:List dN} {i:Nat} {s:dN} (h:xs[i]? =aM s):i<I xs:=(bf.1 h).1
omit F in
theorem gj {xs:List dN} {i:Nat} (h:i<I xs):∃s,xs[i]? =aM s:=⟨_,bh h⟩
end
def tq(x:List dN)(b a:Nat):Prop:=∃s,x[b]? =aM s/\b<=a/\a<s.en
section
variable {xs:List dN} (F:Fo xs) {i j k p:Nat}
include F
theorem Fo.NQ(h:tq xs i j):j<I xs:=by
 obtain⟨s,a,b,c⟩:=h;have:=(F.up i s a).2;omega
theorem Fo.Xq(a:i<I xs):tq xs i i:=by
 obtain⟨s,h⟩:=gj a;exact⟨s,h,aX _,(F.up i s h).1⟩
theorem Fo.zI(a:i<I xs):tq xs 0 i:=by
 obtain⟨s,h⟩:=gj F.ne;exact⟨s,h,bm _,by rw[(F.rt s h).2.2];omega⟩
theorem Fo.Ih(c:tq xs i j)(a:tq xs j k):tq xs i k:=by
 obtain⟨s,h,l,d⟩:=c;obtain⟨t,g,f,b⟩:=a;refine⟨s,h,J,?_⟩;by_cases e:i=j
 ·subst e;rw[h,bN]at g;subst g;exact b
 have:=F.lam j h g J d;omega
theorem Fo.NR(h:tq xs i k)(g:tq xs j k)(x:i<=j):tq xs i j:=by
 obtain⟨s,a,e,f⟩:=h;obtain⟨t,b,c,d⟩:=g;exact⟨s,a,x,J⟩
end
def Top(x:List dN)(l:List Int)(r:Int):Prop:=∃m:Nat,r=m/\(∀n,n∈l->∃k:Nat,n=k/\tq x m k)/\∀j,(∀n,n∈l->∃k:Nat,n=k/\tq x j k)->j<=m
def xU(x:List dN)(n:Int):Prop:=0<=n/\n<I x
def Mt(x:List dN)(l:List Int)(r:Int):Prop:=((l=[]∨∃n,n∈l/\¬xU x n)/\r= -1)∨((l≠[]/\∀n,n∈l->xU x n)/\Top x l r)
def Mt.amI{xs}{l}{r}(h:Mt xs l r)(a:l≠[])(b:∀n,n∈l->xU xs n):Top xs l r:=by
 rcases h with⟨c | ⟨n,e,d⟩,_⟩ | ⟨_,h⟩
 ·exact absurd c a
 ·exact absurd (b n e) d
 exact h
def j6(x:List dN)(i n:Nat):List Int:=((List.range n).filter λk=>decide ((x[k]?).map (λs:dN=>s.pa)=aM (i:Int))).map λk:Nat=>k
def vW xs i n:j6 xs i (n+1)=j6 xs i n++if(xs[n]?).map (λs:dN=>s.pa)=aM (i:Int)then[(n:Int)]else[]:=by
 unfold j6;rw[List.range_succ,gZ,cp];by_cases h:(xs[n]?).map (λs:dN=>s.pa)=aM (i:Int)
 ·rw[aV h,List.filter_cons_of_pos abT];rfl
 rw[aR h,List.filter_cons_of_neg abT];rfl
section
variable {xs:List dN} (F:Fo xs) {i k:Nat} {s t:dN}
include F
theorem Fo.Xr(hk:xs[k]? =aM t):t.pa<k:=by
 by_cases h:0<k
 ·obtain _:=F.par hk h;omega
 have:k=0:=J
 subst this;rw[(F.rt t hk).1];omega
end
def A8 xs i:∀n,List.Pairwise (· <·) (j6 xs i n)/\∀k,k∈j6 xs i n->k<n
 | 0=>⟨List.Pairwise.nil,λk h=>by simp[j6]at h⟩
 | n+1=>by
  obtain⟨c,h⟩:=A8 xs i n;rw[vW];split
  ·refine⟨List.pairwise_append.2 ⟨c,List.pairwise_singleton _ _,λa e b d=>?_⟩,λk hk=>?_⟩
   ·simp at d;subst d;exact h a e
   ·rcases cj.1 hk with hk | hk
    ·have:=h k hk;omega
    ·simp at hk;omega
  ·rw[bG];exact⟨c,λk hk=>by have:=h k hk;omega⟩
abbrev Ft:=Int×Int
def iY(f:Ft)(a:List Ft):Ft:=a.foldl (λf p=>if f.1=0 then p else f) f
def bad(ok:Bool)(e a:Int):List Ft:=if ok then[]else[(e,a)]
def ga(f:Ft)(a b:List Ft):iY f (a++b)=iY (iY f a) b:=nG
def Dr{f:Ft}(h:f.1≠0):∀a,iY f a=f
 | []=>rfl
 | p::a=>by
  show iY (if f.1=0 then p else f) a=f;rw[aR h];exact Dr h a
def Cd(a:List Ft):Prop:=∀p,p∈a->p.1≠0
def Cd.nil:Cd []:=λp h=>abS
def Cd.Be{a b:List Ft}(h:Cd a)(g:Cd b):Cd (a++b):=λp c=>(cj.1 c).elim (h p) (g p)
def Cd.bad{ok:Bool}{e a:Int}(b:e≠0):Cd (bad ok e a):=λp h=>by
 unfold Con.bad at h;split at h
 ·simp at h
 simp only[aP]at h;subst h;exact b
def Cd.flat{a:Type}{f:a->List Ft}(h:∀x,Cd (f x))(l:List a):Cd (l.flatMap f):=λp b=>by
 obtain⟨x,_,c⟩:=List.mem_flatMap.1 b;exact h x p c
def Ds{a:List Ft}(b:Cd a)(h:(iY (0,0) a).1=0):a=[]:=by
 cases a with
 | nil=>rfl
 | cons p a=>
  have c:=b p aaV;have e:iY (0,0) (p::a)=iY p a:=rfl;rw[e,Dr c]at h;exact absurd h c
def Hr{ok:Bool}{e a:Int}:bad ok e a=[]↔ok=L:=by
 unfold bad;cases ok<;>simp
def aaB(f:Ft)(ok:Bool)(e a:Int):iY f (bad ok e a)=if(!ok&&f.1==0)=L then(e,a)else f:=by
 unfold bad;cases ok
 ·by_cases h:f.1=0
  ·simp[iY,h]
  simp[iY,h]
 simp[iY]
def fN(a:List dN)(s:aH):Int:=if yR s (a.map λx:dN=>x.nm)<I a then(yR s (a.map λx:dN=>x.nm):Nat)else -1
def jI(s:List dN)(n:Int):Int:=match s[n.toNat]? with
 | some x=>x.k
 | none=>0
def M5(s:List dN)(n:Int):Int:=match s[n.toNat]? with
 | some x=>x.pa
 | none=>0
def IB(x:List dN)(s:aH):Bool:=decide (0<=fN x s)&&!iu (jI x (fN x s))
def M6(x:List dN)(b a:Nat):Bool:=match x[b]? with
 | some s=>decide (b<=a)&&decide ((a:Int)<s.en)
 | none=>aL
def lZ(x:List dN)(b a:Int):Bool:=decide (0<=b/\0<=a)&&M6 x b.toNat a.toNat
def Al(x:List dN)(a b:Int):Bool:=decide (a≠b)&&lZ x b a
def yW(x:List dN)(a b:Int):Nat->Int
 | 0=> -1
 | m+1=>if(lZ x m a&&lZ x m b)=L then m else yW x a b m
def yX(x:List dN)(a b:Int):Int:=yW x a b (I x)
def PD(x:List dN)(a b:Int):Bool:=decide (yX x a b≠a/\yX x a b≠b)&&decide (jI x (yX x a b)=2)
def Fw(x:List dN)(s:aH):Int:=if iu (jI x (fN x s))then M5 x (fN x s)else fN x s
def LS(x:List dN):List Int->List (aH)->Bool
 | _,[]=>L
 | l,s::r=>if fN x s<1 then aL else if(l.any λo=>!PD x (Fw x s) o)then aL else LS x (l++[Fw x s]) r
mutual
def zR:Nd->List (aH×Int)
 | .mk b l=>(b.nm,b.a)::xA l
def xA:List Nd->List (aH×Int)
 | []=>[]
 | x::l=>zR x++xA l
end
def uu:List (aH)->List (aH×Int)->List Ft
 | _,[]=>[]
 | l,p::r=>bad (!decide (p.1∈l)) 24 p.2++uu (l++[p.1]) r
def yY:∀(p q:List (aH×Int)) (l:List (aH)),uu l (p++q)=uu l p++uu (l++p.map λx=>x.1) q
 | [],q,l=>by rw[cb,uu,cb,ft,bG]
 | x::p,q,l=>by rw[ca,uu,uu,yY p q,bC,bQ,bC];rfl
def Hs:∀l m:List Nd,xA (l++m)=xA l++xA m
 | [],m=>by rw[cb,xA,cb]
 | x::l,m=>by rw[ca,xA,xA,Hs l m,bC]
mutual
def Km(a:Nat)(c d:Int):∀x,(Bt a c d x).map (λs:dN=>s.nm)=(zR x).map λp=>p.1
 | .mk b l=>by rw[Bt,zR,bQ,bQ,M7]
def M7(a:Nat)(b d:Int):∀l,(qE a b d l).map (λs:dN=>s.nm)=(xA l).map λp=>p.1
 | []=>by rw[qE,xA];rfl
 | x::l=>by rw[qE,xA,cp,cp,Km,M7]
end
def aaC(x:Nd):I (zR x)=iB x:=by
 have:=bZ List.length (Km 0 0 0 x);rw[bJ,bJ,lz]at this;exact this.symm
def PE(x:List Nd):I (xA x)=dx x:=by
 have:=bZ List.length (M7 0 0 0 x);rw[bJ,bJ,ur]at this;exact this.symm
def M8:∀(p:List (aH×Int)) (l:List (aH)),Cd (uu l p)
 | [],l=>Cd.nil
 | x::p,l=>Cd.Be (Cd.bad X) (M8 p _)
section
variable (xs:List dN) (vs:List (aH))
def LU(k:Int)(s:aH):Bool:=(decide (k≠2)||decide (s∈vs))&&(decide (k≠3)||IB xs s)
mutual
def PF:Ex->List Ft
 | .mk k n s op l a=>bad (LU xs vs k s) 23 a++tt l
def tt:List Ex->List Ft
 | []=>[]
 | x::l=>PF x++tt l
end
def Vo(x:Ex):PF xs vs x=bad (LU xs vs x.k x.s) 23 x.a++tt xs vs x.dC:=by cases x;rw[PF];rfl
def Dt:∀l m:List Ex,tt xs vs (l++m)=tt xs vs l++tt xs vs m
 | [],m=>by rw[cb,tt,cb]
 | x::l,m=>by rw[ca,tt,tt,Dt l m,bC]
def acF(a:Ac):List Ft:=bad (decide (a.k≠1)||decide (a.n∈vs)) 23 a.a++PF xs vs a.x
def lm(l:List Ac):List Ft:=l.flatMap (acF xs vs)
def Kn(m:Mv):Bool:=(m.k !=3)||(decide (m.wt>0)&&decide (m.wt<=1099511627776))
def B1(m:Mv):List Ft:=bad (Kn m) 28 m.a++(PF xs vs m.g++(lm xs vs m.acts++bad (LS xs [] m.tg) 27 m.a))
def Du(l:List Nd):Nat:=I (l.filter λx=>!iu x.b.k)
def yZ(s:aH)(l:List Nd):Bool:=l.any λx=>decide (x.b.nm=s)
def uX(b:Nb)(l:List Nd)(at_:Nat):List Ft:=
 if iu b.k then bad (IB xs b.dft&&Al xs (fN xs b.dft) (M5 xs at_)) 26 b.a
 else if b.k=2 then bad (decide (b.ini=[])&&decide (1<Du l)) 25 b.a
 else if 0<Du l then bad (yZ b.ini l) 25 b.a
 else bad (decide (b.ini=[])) 25 b.a++bad (decide (I l=0)) 26 b.a
mutual
def LV:Nat->Nd->List Ft
 | n,.mk b l=>uX xs b l n++(lm xs vs (b.en++b.lv)++(b.mv.flatMap (B1 xs vs)++pF (n+1) l))
def pF:Nat->List Nd->List Ft
 | _,[]=>[]
 | n,x::l=>LV n x++pF (n+iB x) l
end
def Dv:∀(l m:List Nd) (n:Nat),pF xs vs n (l++m)=pF xs vs n l++pF xs vs (n+dx l) m
 | [],m,n=>by rw[cb,pF,cb,dx,eE]
 | x::l,m,n=>by rw[ca,pF,pF,Dv l m,bC,dx,dB]
mutual
def M9:∀x,Cd (PF xs vs x)
 | .mk k n s op l a=>by rw[PF];exact Cd.Be (Cd.bad X) (PG l)
def PG:∀l,Cd (tt xs vs l)
 | []=>by rw[tt];exact Cd.nil
 | x::l=>by rw[tt];exact Cd.Be (M9 x) (PG l)
end
def afA(a:Ac):Cd (acF xs vs a):=Cd.Be (Cd.bad X) (M9 xs vs a.x)
def PH(l:List Ac):Cd (lm xs vs l):=Cd.flat (afA xs vs) l
def afB(m:Mv):Cd (B1 xs vs m):=Cd.Be (Cd.bad X) (Cd.Be (M9 xs vs _) (Cd.Be (PH xs vs _) (Cd.bad X)))
def afC(b:Nb)(l:List Nd)(n:Nat):Cd (uX xs b l n):=by
 unfold uX;split
 ·exact Cd.bad X
 split
 ·exact Cd.bad X
 split
 ·exact Cd.bad X
 exact Cd.Be (Cd.bad X) (Cd.bad X)
mutual
def Vp:∀(n:Nat) (x:Nd),Cd (LV xs vs n x)
 | n,.mk b l=>by rw[LV];exact Cd.Be (afC xs b l n) (Cd.Be (PH xs vs _) (Cd.Be (Cd.flat (afB xs vs) _) (PI (n+1) l)))
def PI:∀(n:Nat) (l:List Nd),Cd (pF xs vs n l)
 | n,[]=>by rw[pF];exact Cd.nil
 | n,x::l=>by rw[pF];exact Cd.Be (Vp n x) (PI _ l)
end
end
def Ko(c:Ch):List (aH):=c.vars.map λv=>v.n
def za(c:Ch):List Ft:=uu [] (zR c.root)++(uu [] (c.vars.map λv=>(v.n,v.a))++LV (dz c) (Ko c) 0 c.root)
def Dw(c:Ch):Cd (za c):=Cd.Be (M8 _ _) (Cd.Be (M8 _ _) (Vp _ _ _ _))
def PJ{s:aH}:∀{l:List (aH)},yR s l<(I l)->l[yR s l]? =aM s
 | [],h=>abS
 | x::l,h=>by
  rw[yR]at h⊢;split
  ·rename_i e;rw[e];rfl
  rename_i e;rw[aR e,ba]at h;rw[cO];exact PJ J
def pf{s:aH}:∀{l:List (aH)},yR s l<I l↔s∈l
 | []=>aaV
 | x::l=>by
  rw[yR,aY,ba];split
  ·rename_i e;exact⟨λ_=>.inl e,λ_=>J⟩
  rename_i e;have:=pf (s:=s) (l:=l);exact⟨λh=>.inr (this.1 J),λh=>by have:=this.2 (h.resolve_left e);omega⟩
def Ht{s:aH}(m:List (aH)):∀{l:List (aH)},s∈l->yR s (l++m)=yR s l
 | [],h=>abS
 | x::l,h=>by
  rw[ca,yR,yR];split
  ·rfl
  rename_i e;rw[Ht m ((aY.1 h).resolve_left e)]
def Hu{s:aH}(m:List (aH)):∀{l:List (aH)},s∉l->yR s (l++s::m)=I l
 | [],_=>by rw[cb,yR,aV rfl];rfl
 | x::l,h=>by
  rw[ca,yR,aR (λe=>h (by rw[e];simp)),Hu m (λa=>h (dQ _ a))];rfl
section
variable {xs:List dN} {s:aH}
def jE(a:List dN)(s:aH):(fN a s= -1/\∀x∈a,x.nm≠s)∨∃(n:Nat) (x:dN),fN a s=n/\a[n]? =aM x/\x.nm=s:=by
 unfold fN;split
 ·rename_i h;right;have:=PJ (l:=a.map λx:dN=>x.nm) (s:=s) (by rw[bJ];exact h);rw[cN,gz]at this;obtain⟨x,b,e⟩:=this;exact⟨_,x,rfl,b,e⟩
 rename_i h;refine .inl ⟨rfl,λx b e=>h ?_⟩;have:=(pf (s:=s) (l:=a.map λx:dN=>x.nm)).2 (eZ.2 ⟨x,b,e⟩);rwa[bJ]at this
def ic{n:Nat}{x:dN}(h:xs[n]? =aM x):jI xs n=x.k:=by unfold jI;rw[aW,h]
def mG{n:Nat}{x:dN}(h:xs[n]? =aM x):M5 xs n=x.pa:=by unfold M5;rw[aW,h]
def tu{b a:Nat}:M6 xs b a=L↔tq xs b a:=by
 unfold M6 tq;rcases h:xs[b]? with _|s
 ·simp
 simp
def vX{b a:Int}:lZ xs b a=L↔∃i j:Nat,b=i/\a=j/\tq xs i j:=by
 unfold lZ;rw[aU,cP,tu];constructor
 ·rintro⟨⟨a,b⟩,h⟩;exact⟨_,_,(jL a).symm,(jL b).symm,h⟩
 rintro⟨i,j,rfl,rfl,h⟩;rw[aW,aW];exact⟨⟨J,J⟩,h⟩
def Vq{a b:Int}:Al xs a b=L↔∃i j:Nat,b=i/\a=j/\i<j/\tq xs i j:=by
 unfold Al;rw[aU,cP,vX];constructor
 ·rintro⟨n,i,j,rfl,rfl,h⟩;have:=h;obtain⟨_,_,s,_⟩:=this;exact⟨i,j,rfl,rfl,J,h⟩
 rintro⟨i,j,rfl,rfl,a,h⟩;exact⟨J,i,j,rfl,rfl,h⟩
def wN(a b:Int):∀n:Nat,(yW xs a b n= -1/\∀m,m<n->(lZ xs m a&&lZ xs m b)=aL)∨∃m:Nat,yW xs a b n=m/\m<n/\(lZ xs m a&&lZ xs m b)=L/\∀j,m<j->j<n->(lZ xs j a&&lZ xs j b)=aL
 | 0=>.inl ⟨rfl,λm h=>J⟩
 | n+1=>by
  rw[yW];split
  ·rename_i h;exact .inr ⟨n,rfl,J,h,λj a b=>J⟩
  rename_i h;rw[oW]at h;rcases wN a b n with⟨c,d⟩ | ⟨m,c,d,f,g⟩
  ·exact .inl ⟨c,λm a=>if e:m=n then by rw[e];exact h else d m J⟩
  exact .inr ⟨m,c,J,f,λj a b=>if e:j=n then by rw[e];exact h else g j a J⟩
def Fo.abz(F:Fo xs){a b r:Int}(f:Mt xs [a,b] r)(p:xU xs a)(u:xU xs b):r=yX xs a b:=by
 have v:∀n,n∈[a,b]->xU xs n:=λn d=>by
  simp only[aY,bA,cf]at d;rcases d with rfl | rfl
  ·exact p
  exact u
 obtain⟨m,rfl,t,w⟩:=f.amI aaV v;have o:∀j:Nat,(lZ xs j a&&lZ xs j b)=L↔∀n:Int,n∈[a,b]->∃k:Nat,n=k/\tq xs j k:=λj=>by
  rw[aU,vX,vX];constructor
  ·rintro⟨⟨q,k,e,rfl,c⟩,⟨s,x,y,rfl,h⟩⟩ n d;simp only[aY,bA,cf]at d;have b:j=q:=J
   have a:j=s:=J
   subst b a;rcases d with rfl | rfl
   ·exact⟨k,rfl,c⟩
   exact⟨x,rfl,h⟩
  intro f;obtain⟨k,e,c⟩:=f a aaV;obtain⟨q,n,h⟩:=f b aaV;exact⟨⟨j,k,rfl,e,c⟩,⟨j,q,rfl,n,h⟩⟩
 have g:=(o m).2 t;have E:m<I xs:=by
  obtain⟨k,_,s,b,_⟩:=t a aaV;exact iw b
 unfold yX;rcases wN (xs:=xs) a b (I xs) with⟨_,h⟩ | ⟨q,c,h,i,l⟩
 ·rw[h m E]at g;cases g
 have:=w q ((o q).1 i);by_cases e:q=m
 ·rw[c,e]
 rw[l m J E]at g;cases g
end
def ne(l:aH):Bool:=!decide (l=[])
def ij(w:List (aH)):aH:=Lib.join (w.filter ne) [32]
def Only.below{w a:M}(h:Below w.heap.size w a):Z [] w a:=⟨h.os,h.tape,h.output,h.size,λk hk _=>h.block k hk⟩
def Na{w:M}{F:aJ}:∀{l:List (aH)} {s:List (aI)},qf ke 1 w F l s->s.flatten=l.map λx=>K (T x)
 | [],[],_=>rfl
 | c::l,d::s,a=>by
  obtain⟨⟨_,h⟩,b⟩:=a;unfold ke at h;subst h;rw[eV,Na b];rfl
def Fx(l:aH)(w:M):az Q 206 #[K (T l)] w λe a=>e=ak (aj (decide (l=[])))/\a=w:=by
 refine ret (alJ _ ?_);exact⟨by rw[show ao #[]=T []from rfl,iV],rfl⟩
section
variable {w:M} {B:Nat} {F:aJ} {s:Sl} {ws:List (aH)}
def Vt(b:Own ke 1 9 B w F s ws):az Q 237 #[s.v,.func (.func 206) #[] #[]] w λe a=>
  ∃i:Int,e=ak (O U i)/\a=w/\((i= -1/\ws.filter ne=ws)∨∃n:Nat,i=n/\n<I ws/\(ws.take (n+1)).filter ne=ws.take n):=by
 refine(alQ s ⟨.func (.func 206) #[] #[],rfl⟩ (λv a=>∃i:Int,v=O U i/\a=w/\((i= -1/\ws.filter ne=ws)∨∃n:Nat,i=n/\n<I ws/\(ws.take (n+1)).filter ne=ws.take n)) w ?_).mono (by
  rintro e a ⟨v,rfl,i,rfl,b⟩;exact⟨i,rfl,b⟩)
 have h:=b.slice cY;have j:=h.len;have r:=h.big;have q:=h.cap;refine⟨λd i a=>∃n:Nat,n<=I ws/\i=(n:Int)/\d=(I ws)-n/\(ws.take n).filter ne=ws.take n/\a=w,I ws,⟨0,bm _,rfl,rfl,rfl,rfl⟩,?_⟩;rintro d _ f ⟨n,k,rfl,rfl,g,rfl⟩;refine⟨λc=>?_,λc=>?_⟩
 ·have W:(n:Int)<s.n:=aN c;obtain⟨ad,x,u,o,l,v,w,p,m⟩:=h.get (aZ n) W;rw[aW]at l;unfold ke at m;subst m;have t:ws.take (n+1)=ws.take n++[x]:=by
   rw[bq,l];rfl
  refine⟨ad,o,_,p,206,[],[],rfl,kO aaz,?_⟩;refine(Fx x f).mono ?_;rintro _ y ⟨rfl,rfl⟩;refine⟨_,rfl,λe=>⟨_,rfl,rfl,.inr ⟨n,rfl,J,?_⟩⟩,λe=>⟨(I ws)-(n+1),J,n+1,J,aaA,rfl,?_,rfl⟩⟩
  ·have e:x=[]:=aN e;rw[t,gZ,g,e];simp[ne]
  have e:x≠[]:=aQ e;rw[t,gZ,g];simp[ne,e]
 have A:¬(n:Int)<s.n:=aQ c;rw[bp J]at g;exact⟨_,rfl,rfl,.inl ⟨rfl,g⟩⟩
def RZ(h:Own ke 1 9 B w F s ws):az Q 205 #[s.v,.func (.func 206) #[] #[]] w λe c=>
  ∃f:Sl,e=ak f.v/\Own ke 1 9 B c F f (ws.filter ne)/\aD (λk=>B<=k) w c:=by
 refine(alI s ⟨.func (.func 206) #[] #[],rfl⟩ (λv c=>∃f:Sl,v=f.v/\Own ke 1 9 B c F f (ws.filter ne)/\aD (λk=>B<=k) w c) w ?_).mono (by
  rintro e c ⟨v,rfl,f,rfl,h⟩;exact⟨f,rfl,h⟩)
 have l:=h.len;have z:=h.cap;have r:=(h.slice cY).big;refine(Vt h).mono ?_;rintro _ j ⟨g,rfl,rfl,i⟩;refine⟨g,rfl,λd=>?_,λd=>?_⟩
 ·rcases i with⟨_,a⟩ | ⟨n,rfl,b,a⟩
  ·rw[a];exact⟨s,rfl,h,OnlyP.refl _ _⟩
  have:(n:Int)= -1:=eq_of_beq d;omega
 rcases i with⟨rfl,_⟩ | ⟨n,rfl,m,e⟩
 ·exact absurd d X
 refine⟨λD a b c=>∃(o:List (aH)) (p q:Nat),a=p/\b=q/\p<q/\q<=I ws/\D=(I ws)-q/\I o=I ws/\o.take p=(ws.take q).filter ne/\o.drop q=ws.drop q/\Own ke 1 9 B c F s o/\aD (λk=>B<=k) j c,
  (I ws)-(n+1),⟨ws,n,n+1,rfl,aaA,J,J,rfl,rfl,e.symm,rfl,h,OnlyP.refl _ _⟩,?_⟩
 rintro D _ _ H ⟨o,p,q,rfl,rfl,E,N,rfl,C,y,hd,u,A⟩;refine⟨λd=>?_,λd=>?_⟩
 ·have W:(q:Int)<s.n:=aN d;have P:q<I ws:=J
  obtain⟨ad,x,cs,Y,R,g3,g4,g5,S⟩:=(u.slice cY).get (aZ q) W;rw[aW]at R;unfold ke at S;subst S;have hx:ws[q]? =aM x:=by
   rw[<-R];have k:=bZ (λn=>n[0]?) hd;simpa using k.symm
  have V:ws.take (q+1)=ws.take q++[x]:=by
   rw[bq,hx];rfl
  have t:∀b:List (aH),(∀a,q+1<=a->b[a]? =o[a]?)->b.drop (q+1)=ws.drop (q+1):=λb hM=>by
   apply nE;intro a;rw[gX,gX,hM _ J];have k:=bZ (λn=>n[1+a]?) hd;simp only[gX]at k;rw[show q+1+a=q+(1+a) by omega];exact k
  refine⟨λa w=>∃(b:List (aH)) (v:Nat),a=v/\v<q+1/\I b=I ws/\b.take v=(ws.take (q+1)).filter ne/\b.drop (q+1)=ws.drop (q+1)/\Own ke 1 9 B w F s b/\aD (λk=>B<=k) j w,?_,ad,Y,_,g5,206,[],[],rfl,kO aaz,?_⟩
  ·rintro _ w ⟨b,v,rfl,k,n,p,s,x,B⟩;exact⟨(I ws)-(q+1),J,b,v,q+1,rfl,aaA,k,P,rfl,n,p,s,x,B⟩
  refine(Fx x H).mono ?_;rintro _ w ⟨rfl,rfl⟩;refine⟨_,rfl,λhb=>?_,λhb=>?_⟩
  ·have hb:x≠[]:=abP
   obtain⟨am,cells,q,b2,b3,b4,b5⟩:=u.store cY (n:=p) J (x:=x) (vs:=[K (T x)]) (G:=λ_=>False) rfl rfl (λk hk=>hk.elim) X;refine⟨⟨am,p*1,aaf⟩,b2,am,p*1,cells,_,rfl,b3,b4,λw3 s tN=>⟨o.set p x,p+1,aaA,J,by rw[List.length_set];exact C,?_,t _ λa hj=>by rw[List.getElem?_set_ne J],b5 w3 s tN,A.trans (s.p (F:=λk=>B<=k) λk hk=>.inl ?_) λk hk=>.inl hk⟩⟩
   ·rw[V,gZ,<-y,bq,List.getElem?_set_self J,List.take_set_of_le J];simp[ne,hb]
   simp only[aP]at hk;subst hk;rcases u with⟨rfl,_⟩ | ⟨p,_,_,k,n,_⟩
   ·cases q
   rw[k]at q;injection q with q;injection q with q;omega
  have hb:x=[]:=abP
  refine⟨o,p,rfl,J,C,?_,t _ λa _=>rfl,u,A⟩;rw[V,gZ,<-y,hb];simp[ne]
 have V:¬(q:Int)<s.n:=aQ d;have b:q=I ws:=J
 subst b;rw[bp (aX _)]at y;obtain⟨S,T,x,a,G,R⟩:=Own.clear (P:=Q) (t:=32) (ty:=0) (i:=p) cY X aaz (λw=>Tryz.zeroValue9 w) (by intro v n;simp[Value.cells]at n;subst n;rfl) rfl u J;refine⟨p,⟨rfl,J,z⟩,S,x,p,⟨rfl,J⟩,_,rfl,?_,A.trans (G.p (F:=λk=>B<=k) λk hk=>.inl ?_) λk hk=>.inl hk⟩
 ·rw[<-y];exact R
 simp only[aP]at hk;subst hk;rcases u with⟨rfl,_⟩ | ⟨q,_,_,k,p,_⟩
 ·cases a
 rw[k]at a;injection a with a;injection a with a;omega
def Dx(h:Own ke 1 9 B w F s ws)(u:I (ij ws)<=140737488355328)(C:I ws<=140737488355328):az Q 172 #[s.v] w λe z=>e=ak (K (T (ij ws)))/\aD (λk=>B<=k) w z:=by
 refine ret (alu _ ?_);refine(RZ h).mono ?_;rintro _ c ⟨j,rfl,g,P⟩;refine⟨j,rfl,?_⟩;have i:=g.len;have D:=gM ne ws;have b:∀{a:M},Z [] c a->aD (λk=>B<=k) w a:=λh=>P.trans h.p0 λk hk=>.inl hk;rcases g with⟨rfl,t⟩ | ⟨r,q,tail,d,A,f,l,m,n,p,o⟩
 ·refine(Tryz.strings_Join_none aaf 0 (T [32]) c).mono ?_;rintro _ a ⟨rfl,rfl⟩;refine⟨_,rfl,?_,P⟩;unfold ij;rw[t];rfl
 obtain⟨w,sn,sc⟩:=j;dsimp only at d l m n p i;subst d i;have k:=Na o;have:=Tryz.strings_Join r 0 sc ((ws.filter ne).map T) (T [32]) c (λs x e=>by
  rw[cN,gz]at e;obtain⟨y,E,rfl⟩:=e;have:=f.cells 0 ((ws.filter ne).map λx=>Value.string (T x)) (λs v e=>by rw[bS,k,bX (bf.1 e).1];exact e) s (K (T y)) (by rw[cN,E];rfl);rw[gu]at this;exact this) f.lt aee aee (by
  rw[fW];have:((λx:aK=>x.data.toList)∘T)=id:=rfl;rw[this,Th];exact u)
 rw[bJ]at this;refine this.mono ?_;rintro _ a ⟨rfl,B⟩;refine⟨_,rfl,?_,b (Only.below B)⟩;rw[fW];have:((λx:aK=>x.data.toList)∘T)=id:=rfl;rw[this,Th];rfl
end
def Fy(a:M)(s:List (aH)){n:Nat}{parts:Array (Nat×aw)}(p:parts=(((s.map λx=>Value.string (T x)).zipIdx 0).map λx=>(x.2,x.1)).toArray)(c:I s=n)(h:0<n)(o:n*1<=16777216)(l:I (ij s)<=140737488355328):
  ∃(q:Sl) (w:M),(au 32 n parts).run Q a=.ok q.v w/\Z [] a w/\Own ke 1 9 a.heap.size w (λ_=>True) q s/\az Q 172 #[q.v] w λe f=>e=ak (K (T (ij s)))/\aD (λk=>a.heap.size<=k) w f:=by
 obtain⟨q,w,d,b,k3⟩:=kl a s p c h o;exact⟨q,w,d,k3,b,Dx b l J⟩
def j8:∀(w:List (aH)),I (ij w)<=(w.map λl=>I l+1).sum:=by
 have h:∀(r:List (aH)),I (Lib.joinTail [32] r)=(r.map λl=>I l+1).sum:=λr=>by
  induction r with
  | nil=>rfl
  | cons x r i=>
   unfold Lib.joinTail at i⊢;rw[bQ,eV,aO,i,bQ,dc];simp
 have a:∀(r:List (aH)),I (Lib.join r [32])<=(r.map λl=>I l+1).sum:=λr=>by
  cases r with
  | nil=>exact bm _
  | cons x r=>
   rw[Lib.join_cons,aO,h,bQ,dc];omega
 have b:∀(r:List (aH)),((r.filter ne).map λl=>I l+1).sum<=(r.map λl=>I l+1).sum:=λr=>by
  induction r with
  | nil=>exact aX _
  | cons x r i=>
   rw[oX,bQ,dc];split
   ·rw[bQ,dc];omega
   omega
 exact λw=>bH (a _) (b w)
structure Fz (bs:List Nat) (w w':M) (ks:List Nat):Prop where
 o:Z bs w w'
 k:∀x,x∈ks->w.heap.size<=x/\x<w'.heap.size
 lo:∀x,x∈bs->x<w.heap.size
section
variable {bs bs' ks ks':List Nat} {w w1 w2 w':M} {k0 b:Nat}
def Fz.start(l:∀x,x∈bs->x<w.heap.size):Fz bs w w []:=⟨Only.refl _ _,λ_ h=>abG,l⟩
def Fz.go(h:Fz bs w w1 ks)(k:Z bs' w1 w2)(b:∀x,x∈bs'->x∈bs∨x∈ks):Fz bs w w2 ks:=
 ⟨h.o.trans k λx a=>(b x a).imp id λhk=>(h.k x hk).1,λx a=>⟨(h.k x a).1,cH (h.k x a).2 k.size⟩,h.lo⟩
def Fz.new(h:Fz bs w w1 ks)(k:Z bs' w1 w2)(b:∀x,x∈bs'->x∈bs∨w.heap.size<=x):Fz bs w w2 ks:=
 ⟨h.o.trans k b,λx a=>⟨(h.k x a).1,cH (h.k x a).2 k.size⟩,h.lo⟩
def Fz.q(h:Fz bs w w1 ks)(k:Z [] w1 w2):Fz bs w w2 ks:=h.go k λx hx=>aev
def Fz.c(h:Fz (b::bs) w w1 ks)(k:Z [b] w1 w2):Fz (b::bs) w w2 ks:=h.go k λx hx=>.inl abZ
def Fz.f(a:Fz bs w w1 ks)(k:Z [k0] w1 w2)(hk:k0∈ks):Fz bs w w2 ks:=a.go k λx h=>.inr (by simp at h;rw[h];exact hk)
def Fz.al(h:Fz bs w w1 ks)(k:Z [] w1 w2)(b:w1.heap.size<=k0)(c:k0<w2.heap.size):Fz bs w w2 (k0::ks):=
 ⟨(h.q k).o,λx a=>by
  rcases aY.1 a with rfl | a
  ·exact⟨bH h.o.size b,c⟩
  exact(h.q k).k x a,h.lo⟩
def Fz.sm(h:Fz bs w w1 ks)(k:Z bs' w1 w2)(hk:∀x,x∈ks'->x∈ks)(b:∀x,x∈bs'->x∈bs∨∀y,y∈ks'->y≠x):cr ks' w1 w2:=k.same λx a=>
 ⟨(h.k x (hk x a)).2,λm=>by
  rcases b x m with c | c
  ·have:=(h.k x (hk x a)).1;have:=h.lo x c;omega
  exact c x a rfl⟩
def Fz.sq(h:Fz bs w w1 ks)(k:Z [] w1 w2)(hk:∀x,x∈ks'->x∈ks):cr ks' w1 w2:=h.sm k hk λx hx=>aev
def Fz.sc(h:Fz (b::bs) w w1 ks)(k:Z [b] w1 w2)(hk:∀x,x∈ks'->x∈ks):cr ks' w1 w2:=h.sm k hk λx hx=>.inl abZ
def Fz.ne(h:Fz bs w w1 ks)(hk:k0∈ks)(a:b∈bs):k0≠b:=λe=>by
 have:=(h.k k0 hk).1;have:=h.lo b a;omega
end
section
variable {α:Type} {r:Rp α} {w w1 w':M} {x:α} {cs:aI} {B:Nat}
structure Stay (B:Nat) (w w':M):Prop where
 sz:w.heap.size<=w'.heap.size
 eq:∀k,B<=k->k<w.heap.size->w'.heap[k]? =w.heap[k]?
def Stay.refl B w:Stay B w w:=⟨aX _,λ_ _ _=>rfl⟩
def Stay.go{bs}(h:Stay B w w1)(k:Z bs w1 w')(c:∀x,x∈bs->x<B∨w.heap.size<=x):Stay B w w':=
 ⟨bH h.sz k.size,λi b a=>(k.block i (cH a h.sz) λm=>by have:=c i m;omega).trans (h.eq i b a)⟩
def Stay.of{bs}(k:Z bs w w')(h:∀x,x∈bs->x<B∨w.heap.size<=x):Stay B w w':=(Stay.refl B w).go k h
def _root_.Go.Kt.Rp.Ok.stay(h:r.Ok)(a:r w (Fr B) x cs)(s:Stay B w w'):r w' (Fr B) x cs:=
 h.mono (h.keep (h.inHeap a) λk hk b=>s.eq k hk.1 b) λk hk=>hk.1
def _root_.Go.Kt.Rp.Ok.low(b:r.Ok)(h:r w (Fr B) x cs){A}(a:A<=B):r w (Fr A) x cs:=b.mono h λk hk=>bH a hk
variable {size:Nat} {e:TypeId} {s:Sl} {xs:List α} {t:Bool}
def kx.stay(h:r.Ok)(c:kx t r size e w (Fr B) s xs)(a:0<size)(d:Stay B w w'):kx t r size e w' (Fr B) s xs:=
 ((c.inHeap h a).keep h a λk hk b=>d.eq k hk.1 b).mono h λk hk=>hk.1
def kx.low(b:r.Ok)(h:kx t r size e w (Fr B) s xs){A}(a:A<=B):kx t r size e w (Fr A) s xs:=h.mono b λk hk=>bH a hk
end
abbrev sxv(l:Sl)(s:Sx):aI:=[l.v,O U s.i,O U s.fc,O U s.fa,O U s.v,O U s.n,O U s.d,O U s.m,O U s.a]
structure Sr (F:aJ) (ts:List Tk) (w:M) (b:Nat) (l:Sl) (s:Sx):Prop where
 blk:aF w b 151 (sxv l s)
 tok:aA Iy 4 w F l ts
 hF:∀k,F k->k<b
 en:xj ts
 lt:s.i<I ts
 sm:I ts<=16777216
abbrev rp(b:Nat):aw:=ae (aM ⟨b,0,aaf⟩)
section
variable {F:aJ} {ts:List Tk} {w w':M} {b:Nat} {l:Sl} {s s':Sx}
def Sr.own(h:Sr F ts w b l s){bs}(a:Z bs w w')(hb:∀x,x∈bs->b<x):Sr F ts w' b l s:=
 ⟨a.blk h.blk λhm=>(by have:=hb b hm;omega),SliceF.only iX X h.tok a λk hk _ hm=>adn,h.hF,h.en,h.lt,h.sm⟩
def Sr.Xs(h:Sr F ts w b l s){bs}(a:Z bs w w')(c:∀x,x∈bs->x≠b/\¬F x):Sr F ts w' b l s:=
 ⟨a.blk h.blk λm=>(c b m).1 rfl,SliceF.only iX X h.tok a λk hk _ m=>(c k m).2 hk,h.hF,h.en,h.lt,h.sm⟩
def Sr.agy(a:Sr F ts w b l s){k0}(c:Z [k0] w w')(hk:k0≠b/\¬F k0):Sr F ts w' b l s:=a.Xs c λx h=>(by simp at h;subst h;exact hk)
def Sr.gt(h:Sr F ts w b l s){x}(c:b<x):x≠b/\¬F x:=⟨J,λa=>by have:=h.hF x a;omega⟩
def Sr.only(h:Sr F ts w b l s)(a:Z [] w w'):Sr F ts w' b l s:=h.own a λx hx=>aev
def Sr.one(h:Sr F ts w b l s){k0}(a:Z [k0] w w')(hk:b<k0):Sr F ts w' b l s:=h.own a λx c=>(by simp at c;omega)
def Sr.kY(h:Sr F ts w b l s)(a:Z [b] w w')(B:aF w' b 151 (sxv l s'))(i:s'.i<I ts):Sr F ts w' b l s':=
 ⟨B,SliceF.only iX X h.tok a λk hk _ m=>(by have:=h.hF k hk;simp at m;omega),h.hF,h.en,i,h.sm⟩
def Sr.lb(h:Sr F ts w b l s):b<w.heap.size:=h.blk.lt
def Sr.z(a:Sr F ts w b l s):Fz [b] w w []:=Fz.start λx h=>(by simp at h;rw[h];exact a.lb)
def Sr.big(h:Sr F ts w b l s):I ts<=9223372036854775807:=by
 have a:=h.tok.len;have c:=h.tok.cap;have d:=h.tok.big;omega
def Sr.wr(h:Sr F ts w b l s):ar U (s.i+1)=((s.i+1:Nat)):=by
 have:=h.big;have:=h.lt;rw[fe J J];rfl
def Sr.now(h:Sr F ts w b l s):∃ad,cT l s.i 4 ad/\aB w ad [O U (tk ts s.i).k,K (T (tk ts s.i).t),O U (tk ts s.i).n,O U (tk ts s.i).a]:=by
 have j:=h.tok.len;have W:=h.lt;obtain⟨ad,x,e,a,g,f,i,c,d⟩:=h.tok.get (aZ s.i) J;rw[aW,C7 h.lt]at g;injection g with g;subst g;subst d;exact⟨ad,a,c⟩
structure Dn (F:aJ) (ts:List Tk) (w w':M) (b:Nat) (l:Sl) (s:Sx):Prop where
 o:Z [b] w w'
 r:Sr F ts w' b l s
def Sr.dn(h:Sr F ts w b l s):Dn F ts w w b l s:=⟨Only.refl _ _,h⟩
def Dn.q(h:Dn F ts w w' b l s){w2}(k:Z [] w' w2):Dn F ts w w2 b l s:=⟨h.o.cn k,h.r.only k⟩
def Dn.nx(h:Dn F ts w w' b l s){w2}{s'}(k:Dn F ts w' w2 b l s'):Dn F ts w w2 b l s':=⟨h.o.trans k.o λx a=>.inl a,k.r⟩
def Dn.f(h:Dn F ts w w' b l s){w2}{k0}(k:Z [k0] w' w2)(hk:w.heap.size<=k0)(a:b<w.heap.size):Dn F ts w w2 b l s:=⟨h.o.new k hk,h.r.one k J⟩
def Sr.tk(h:Sr F ts w b l s){ad}(g:cT l s.i 4 ad):aB w ad [O U (tk ts s.i).k,K (T (tk ts s.i).t),O U (tk ts s.i).n,O U (tk ts s.i).a]:=by
 obtain⟨X,a,c⟩:=h.now;rw[g.Xl a];exact c
structure Zt (F:aJ) (ts:List Tk) (w w':M) (b:Nat) (l:Sl) (s:Sx) (ks:List Nat):Prop where
 z:Fz [b] w w' ks
 r:Sr F ts w' b l s
section
variable {w2:M} {ks ks':List Nat} {k0:Nat}
def Sr.zt(h:Sr F ts w b l s):Zt F ts w w b l s []:=⟨h.z,h⟩
def Zt.q(h:Zt F ts w w' b l s ks)(k:Z [] w' w2):Zt F ts w w2 b l s ks:=⟨h.z.q k,h.r.only k⟩
def Zt.al(h:Zt F ts w w' b l s ks)(k:Z [] w' w2)(a:w'.heap.size<=k0)(c:k0<w2.heap.size):Zt F ts w w2 b l s (k0::ks):=⟨h.z.al k a c,h.r.only k⟩
def Zt.ad(h:Zt F ts w w' b l s ks)(c:w.heap.size<=k0)(d:k0<w'.heap.size):Zt F ts w w' b l s (k0::ks):=⟨⟨h.z.o,λx a=>by
 rcases aY.1 a with rfl | a
 ·exact⟨c,d⟩
 exact h.z.k x a,h.z.lo⟩,h.r⟩
def Zt.lt(h:Zt F ts w w' b l s ks)(hk:k0∈ks):b<k0:=cH (h.z.lo b aaV) (h.z.k k0 hk).1
def Zt.f(h:Zt F ts w w' b l s ks)(k:Z [k0] w' w2)(hk:k0∈ks):Zt F ts w w2 b l s ks:=⟨h.z.f k hk,h.r.one k (h.lt hk)⟩
def Zt.nx(h:Zt F ts w w' b l s ks)(k:Dn F ts w' w2 b l s'):Zt F ts w w2 b l s' ks:=⟨h.z.c k.o,k.r⟩
def Zt.dn(h:Zt F ts w w' b l s ks):Dn F ts w w' b l s:=⟨h.z.o,h.r⟩
def Zt.up(h:Zt F ts w w' b l s ks)(k:Z [b] w' w2)(B:aF w2 b 151 (sxv l s'))(i:s'.i<I ts):Zt F ts w w2 b l s' ks:=⟨h.z.c k,h.r.kY k B i⟩
def Zt.sq(h:Zt F ts w w' b l s ks)(k:Z [] w' w2)(hk:∀x,x∈ks'->x∈ks):cr ks' w' w2:=h.z.sq k hk
def Zt.sc(h:Zt F ts w w' b l s ks)(k:Dn F ts w' w2 b l s')(hk:∀x,x∈ks'->x∈ks):cr ks' w' w2:=h.z.sc k.o hk
def Zt.row{gs}(h:Zt F ts w w' b l s ks)(k:Z gs w' w2)(g:∀x,x∈gs->w.heap.size<=x):Zt F ts w w2 b l s ks:=⟨h.z.new k λx a=>.inr (g x a),h.r.own k λx a=>cH (h.z.lo b aaV) (g x a)⟩
def Zt.sr{gs}(h:Zt F ts w w' b l s ks)(k:Z gs w' w2)(hk:∀x,x∈ks'->x∈ks)(g:∀x,x∈gs->∀y,y∈ks'->y<x):cr ks' w' w2:=h.z.sm k hk λx a=>.inr λy c e=>by have:=g x a y c;omega
def Zt.ne(h:Zt F ts w w' b l s ks)(hk:k0∈ks):k0≠b:=h.z.ne hk aaV
def Stay.q{B}(h:Stay B w w')(k:Z [] w' w2):Stay B w w2:=h.go k λx hx=>aev
def Stay.d{B}(h:Stay B w w')(k:Dn F ts w' w2 b l s')(c:b<B):Stay B w w2:=h.go k.o λx a=>.inl (by simp at a;omega)
def Stay.f{B}(a:Stay B w w')(k:Z [k0] w' w2)(hk:k0<B∨w.heap.size<=k0):Stay B w w2:=a.go k λx h=>(by simp at h;subst h;exact hk)
end
def ph(h:Sr F ts w b l s):az Q 76 #[rp b] w λe w'=>e=ak (aj (s.fc==0))/\Z [] w w':=by
 exact ret (akC _ _ w ⟨s.fc,Blk.dM h.blk 2 rfl,rfl,Only.refl _ _⟩)
def B3(h:Sr F ts w b l s) c:az Q 107 #[rp b,O U c] w λe w'=>e=ak (ai #[])/\Dn F ts w w' b l (jB ts s c):=by
 refine ret (akP _ _ ?_);refine(ph h).mono ?_;rintro _ a ⟨rfl,D⟩;refine⟨_,rfl,λhc d E=>?_,λhc=>?_⟩
 ·have hc:=abv
  have e:=h.only (D.cn E);obtain⟨ad,g,f⟩:=e.now;refine⟨l,Blk.dM e.blk 0 rfl,_,Blk.dM e.blk 1 rfl,ad,g,_,f.dM 3 _ rfl,b,2,_,_,rfl,e.blk,aaV,λw R n=>⟨rfl,((D.cn E).weaken (bs':=[b]) λ_ h=>abG).trans R λx i=>.inl i,?_⟩⟩;unfold jB;rw[aV hc];exact e.kY (s':={s with fc:=c,fa:=(tk ts s.i).a}) R n h.lt
 unfold jB;rw[aR abv];exact⟨rfl,h.dn.q D⟩
def vY(h:Sr F ts w b l s):az Q 77 #[rp b] w λe w'=>e=ak (ai #[])/\Dn F ts w w' b l (lk ts s):=by
 refine ret (akD _ ?_);obtain⟨ad,g,d⟩:=h.now;refine⟨λw'=>Dn F ts w w' b l (if(tk ts s.i).k=5 then jB ts s 3 else s),λi a=>(B3 a.r 4).mono ?_,l,Blk.dM h.blk 0 rfl,_,Blk.dM h.blk 1 rfl,ad,g,_,d.dM 0 _ rfl,λhc f c=>?_,λhc f c=>?_⟩
 ·rintro _ w ⟨rfl,b⟩;refine⟨rfl,rfl,a.nx ?_⟩;unfold lk;split at b
  ·rename_i e;rw[aV e];exact b
  rename_i e;rw[aR e];exact b
 ·refine(B3 (h.only c) 3).mono ?_;rintro _ w ⟨rfl,b⟩;have hc:=abv
  refine⟨rfl,?_⟩;rw[aV hc];exact(h.dn.q c).nx b
 rw[aR abv];exact h.dn.q c
def al2{s}{w}{G}{l}(h:aA ke 1 w G s l) c:
  az Q 152 #[Sl.v s,K (T c)] w λr w'=>r=ak (O U (if yR c l<I l then yR c l else -1))/\w'=w:=by
 refine ret (ada _ _ ?_);have f:=h.len;have d:=h.big;have q:=h.cap;refine⟨λv i w'=>∃n,n<=I l/\i=n/\v=(I l)-n/\yR c l=n+yR c (l.drop n)/\w'=w,I l,⟨0,bm _,rfl,rfl,by rw[jl,bS],rfl⟩,?_⟩;rintro v _ _ ⟨n,b,rfl,rfl,p,rfl⟩;refine⟨λa=>?_,λa=>?_⟩
 ·have W:=aN a;obtain⟨ad,x,s,c,g,m,o,j,k⟩:=h.get (aZ n) W;rw[aW]at g;subst k;have hd:l.drop n=x::l.drop (n+1):=by rw[fF (bf.1 g).1,(bf.1 g).2]
  rw[hd,yR]at p;refine⟨ad,c,_,j,?_⟩;dsimp only;rw[iV];refine⟨λe=>⟨?_,rfl⟩,λe=>⟨(I l)-_,J,n+1,J,aaA,rfl,?_,rfl⟩⟩
  ·have e:=aN e;rw[aV e]at p;rw[aV J,p,eE]
  rw[aR (aQ e)]at p;omega
 have n:=aQ a;rw[aR J];exact⟨rfl,rfl⟩
def Dy(i:Sr F ts w b l s){G}{q}{ss}(a:aA ke 1 w G q ss):az Q 109 #[rp b,q.v] w λe w'=>e=ak (O U (dE ts s ss))/\Z [] w w':=by
 refine ret (akR _ _ ?_);intro n D;have h:=i.only D;obtain⟨ad,d,f⟩:=h.now;refine⟨λ_=>True,trivial,l,Blk.dM h.blk 0 rfl,trivial,_,Blk.dM h.blk 1 rfl,ad,d,trivial,_,_,_,_,f,λk o hk j E=>?_⟩;refine(ph (h.only E)).mono ?_;rintro _ p ⟨rfl,R⟩;have m:=(D.cn E).cn R;have g:((!(s.fc==0))||(((tk ts s.i).k !=2)&&((tk ts s.i).k !=4)))=decide (s.fc≠0∨((tk ts s.i).k≠2/\(tk ts s.i).k≠4)):=by
  rw[bM];simp
 refine⟨_,rfl,R.same aba,?_⟩;dsimp only;rw[g];refine⟨λc=>?_,λc=>?_⟩
 ·unfold dE;rw[aV (aN c)];exact⟨rfl,m⟩
 refine(al2 (SliceF.only cY X a m aaV) (tk ts s.i).t).mono ?_;rintro _ w ⟨rfl,rfl⟩;refine⟨_,rfl,cr.refl _ _,?_,m⟩;unfold dE;rw[aR (aQ c)];have l:=a.len;have e:=a.big;have b:=a.cap;split
 ·rw[fe J J];rfl
 rfl
def PK(h:Sr F ts w b l s) ss {n} {parts} (p:parts=(((ss.map λx=>Value.string (T x)).zipIdx 0).map λx=>(x.2,x.1)).toArray) (d:I ss=n) (c:0<n) (o:n*1<=16777216):
  ∃(q:Sl) (a:M),(au 32 n parts).run Q w=.ok q.v a/\Z [] w a/\az Q 109 #[rp b,q.v] a λe w'=>e=ak (O U (dE ts s ss))/\Z [] a w':=by
 obtain⟨q,a,k,f,k3⟩:=kl w ss p d c o;exact⟨q,a,k,k3,Dy (h.only k3) (uM f)⟩
def aaD(h:Sr F ts w b l s){G}{q}{ss}(f:aA ke 1 w G q ss):az Q 73 #[rp b,q.v] w λe w'=>e=ak (O U (dE ts s ss))/\Dn F ts w w' b l (if dE ts s ss=0 then s else eu s):=by
 refine ret (akz _ _ ?_);refine(Dy h f).mono ?_;rintro _ g ⟨rfl,c⟩;have a:=h.only c;refine⟨_,rfl,λw'=>Dn F ts w w' b l _,λi d=>⟨rfl,d⟩,λhc=>?_,λhc=>?_⟩
 ·have hc:dE ts s ss≠0:=abL
  refine⟨_,Blk.dM a.blk 1 rfl,b,1,_,_,rfl,a.blk,aaV,λw R n=>?_⟩;rw[aR hc];rw[h.wr]at n;exact⟨(c.weaken (bs':=[b]) λ_ h=>abG).trans R λx e=>.inl e,a.kY (s':=eu s) R n (h.en.next h.lt (dT hc).2)⟩
 have hc:dE ts s ss=0:=abO
 rw[aV hc];exact h.dn.q c
def FA(h:Sr F ts w b l s) ss {n} {parts} (p:parts=(((ss.map λx=>Value.string (T x)).zipIdx 0).map λx=>(x.2,x.1)).toArray) (d:I ss=n) (c:0<n) (o:n*1<=16777216):
  ∃(q:Sl) (a:M),(au 32 n parts).run Q w=.ok q.v a/\Z [] w a/\az Q 73 #[rp b,q.v] a λe w'=>e=ak (O U (dE ts s ss))/\Dn F ts a w' b l (if dE ts s ss=0 then s else eu s):=by
 obtain⟨q,a,k,f,k3⟩:=kl w ss p d c o;exact⟨q,a,k,k3,aaD (h.only k3) (uM f)⟩
def PL(h:Sr F ts w b l s){G}{q}{x}(a:aA ke 1 w G q [x])(d:∀k,G k->k≠b):az Q 71 #[rp b,q.v] w λe w'=>e=ak (ai #[])/\Dn F ts w w' b l (fu ts s x):=by
 refine ret (akx _ _ ?_);have f:q.n=1:=a.len;refine⟨λv i w'=>(i=0/\v=1/\w'=w)∨(i=1/\v=0/\Dn F ts w w' b l (fu ts s x)),1,.inl ⟨rfl,rfl,rfl⟩,?_⟩;rintro v i c (⟨rfl,rfl,rfl⟩ | ⟨rfl,rfl,D⟩)
 ·refine⟨λ_=>?_,λhc=>absurd (aQ hc) J⟩;refine⟨λw'=>Dn F ts c w' b l _,λC p=>⟨0,X,.inr ⟨rfl,rfl,p⟩⟩,?_⟩;obtain⟨ad,y,z,k,j,A,B,m,o⟩:=a.get (i:=0) X J;simp at j;subst j;subst o;obtain⟨u,w,r,t,k3⟩:=FA h [x] (n:=1) (parts:=#[_]) rfl rfl X X;refine⟨ad,k,_,m,u,w,r,k3.mono ?_⟩;rintro _ E ⟨rfl,q⟩;have g:=(h.dn.q t).nx q;refine⟨_,rfl,λhc=>?_,λhc=>?_⟩
  ·have hc:dE ts s [x]=0:=by have:=abv;omega
   rw[aV hc]at g;refine(vY g.r).mono ?_;rintro _ e ⟨rfl,b⟩;refine⟨rfl,?_⟩;unfold fu;rw[aV hc];exact g.nx b
  have hc:dE ts s [x]≠0:=λe=>by rw[e]at hc;simp at hc
  rw[aR hc]at g;unfold fu;rw[aR hc];exact g
 exact⟨λhc=>absurd (aN hc) J,λ_=>⟨rfl,D⟩⟩
def tv(h:Sr F ts w b l s) x:∃(q:Sl) (a:M),(au 32 1 #[.mk 0 (K (T x))]).run Q w=.ok q.v a/\Z [] w a/\az Q 71 #[rp b,q.v] a λe w'=>e=ak (ai #[])/\Dn F ts a w' b l (fu ts s x):=by
 obtain⟨q,a,c,d,k3⟩:=kl w [x] (n:=1) (parts:=#[_]) rfl rfl X X;exact⟨q,a,c,k3,PL (h.only k3) (uM d) λk hk e=>(by have:=hk.1;have:=h.lb;omega)⟩
def zd(h:Sr F ts w b l s){k}(r:k≠5):az Q 108 #[rp b,O U k] w λe w'=>e=ak (jC ts s k).1.v/\Dn F ts w w' b l (jC ts s k).2:=by
 refine ret (akQ _ _ ?_);intro n p hk J D;have a:=h.only D;obtain⟨ad,j,m⟩:=a.now;refine⟨λ_=>True,trivial,l,Blk.dM a.blk 0 rfl,trivial,_,Blk.dM a.blk 1 rfl,ad,j,trivial,_,_,_,_,m,λo q A S E=>?_⟩;have g:=(h.z.al D hk J).al E A S;refine(ph (a.only E)).mono ?_;rintro _ t ⟨rfl,R⟩;have z:=g.q R;have f:=h.lb;have d:=h.dn.q ((D.cn E).cn R);have i:((!(s.fc==0))||((tk ts s.i).k !=k))=decide (s.fc≠0∨(tk ts s.i).k≠k):=by
  rw[bM];simp
 refine⟨_,rfl,g.sq R aaV,?_⟩;dsimp only;rw[i];refine⟨λc=>(vY d.r).mono ?_,λc=>?_⟩
 ·rintro _ w ⟨rfl,b⟩;refine⟨rfl,z.sc b.o aaV,λe W=>?_⟩;unfold jC;rw[aV (aN c)];exact⟨rfl,(d.nx b).f W hk f⟩
 refine⟨_,Blk.dM d.r.blk 1 rfl,b,1,_,_,rfl,d.r.blk,aaV,z.ne aaV aaV,z.ne aaV aaV,λy e u B Y=>?_⟩;have c:=aQ c;unfold jC;rw[aR c];simp at c;rw[h.wr]at u;have k:Dn F ts w y b l (eu s):=⟨d.o.trans e λx v=>.inl v,d.r.kY e u (h.en.next h.lt (by rw[c.2];exact r))⟩
 exact⟨rfl,k.f Y hk f⟩
def ze(h:Sr F ts w b l s):az Q 154 #[rp b] w λe w'=>e=ak (K (T (ly ts s).1))/\Dn F ts w w' b l (ly ts s).2:=by
 refine ret (alk _ ?_);refine(zd h (k:=1) X).mono ?_;rintro _ c ⟨rfl,a⟩;exact⟨_,_,_,_,rfl,rfl,a⟩
def _root_.Go.Kt.Blk.at0{w}{b}{t}{cs}{v}(h:aF w b t cs) j (x:cs[j]? =aM v):aB w ⟨b,j,aaf⟩ [v]:=by
 have:=Blk.dM h j x;rwa[gu,bS]at this
def Hv(h:Sr F ts w b l s) j x c u (d:(sxv l s)[j]? =aM (.int U x)) (r:(sxv l (jB ts s c))[j]? =aM (.int U x)) (i:u.i=s.i)
  (f:sxv l u=fQ (sxv l (if x=0 then jB ts s c else s)) j [O U (BZ x)]):az Q 106 #[rp b,ae (aM ⟨b,j,aaf⟩),O U c] w λe w'=>e=ak (ai #[])/\Dn F ts w w' b l u:=by
 refine ret (akO _ _ _ ?_);refine⟨λw'=>Dn F ts w w' b l (if x=0 then jB ts s c else s),λg a=>?_,_,rfl,x,Blk.at0 h.blk j d,λhc=>?_,λhc=>?_⟩
 ·refine⟨_,rfl,x,Blk.at0 a.r.blk j (by split<;>assumption),_,rfl,b,j,_,_,rfl,a.r.blk,(bf.1 d).1,λw c t=>⟨rfl,a.o.trans c λx d=>.inl d,a.r.kY c (s':=u) ?_ (by rw[i];exact h.lt)⟩⟩;rw[f];exact t
 ·refine(B3 h c).mono ?_;rintro _ w ⟨rfl,b⟩;have hc:=abv
  rw[aV hc];exact⟨rfl,b⟩
 rw[aR abv];exact h.dn
def afD(h:Sr F ts w b l s):az Q 106 #[rp b,ae (aM ⟨b,8,aaf⟩),O U 2] w λe w'=>e=ak (ai #[])/\Dn F ts w w' b l (xP ts s):=
 Hv h 8 s.a 2 _ rfl aei (Hh s) (by unfold xP jB;split<;>(try split)<;>rfl)
def afE(h:Sr F ts w b l s):az Q 106 #[rp b,ae (aM ⟨b,7,aaf⟩),O U 2] w λe w'=>e=ak (ai #[])/\Dn F ts w w' b l (vO ts s):=
 Hv h 7 s.m 2 _ rfl aei (Hi s) (by unfold vO jB;split<;>(try split)<;>rfl)
def afF(h:Sr F ts w b l s):az Q 106 #[rp b,ae (aM ⟨b,5,aaf⟩),O U 2] w λe w'=>e=ak (ai #[])/\Dn F ts w w' b l (JW ts s):=
 Hv h 5 s.n 2 _ rfl aei (by unfold JW;split;exact Hd 2;rfl) (by unfold JW jB;split<;>(try split)<;>rfl)
def afG(h:Sr F ts w b l s):az Q 106 #[rp b,ae (aM ⟨b,4,aaf⟩),O U 2] w λe w'=>e=ak (ai #[])/\Dn F ts w w' b l (JX ts s):=
 Hv h 4 s.v 2 _ rfl aei (by unfold JX;split;exact Hd 2;rfl) (by unfold JX jB;split<;>(try split)<;>rfl)
def PM(h:Sr F ts w b l s):az Q 187 #[rp b] w λe w'=>∃c,e=ak (ah c.toArray)/\rE L w' (Fr w.heap.size) (vN ts s).1 c/\Dn F ts w w' b l (vN ts s).2:=by
 refine iW (alD _ ?_);intro a p hk m D;have g:=h.lb;have z:=h.z.al D hk m;refine(ph (h.only D)).mono ?_;rintro _ q ⟨rfl,E⟩;have o:=z.q E;have j:=h.dn.q (D.cn E);refine⟨_,rfl,z.sq E aaV,λhc r R=>?_,λhc n f=>?_⟩
 ·have hc:s.fc≠0:=abv
  unfold vN;rw[aV hc];exact⟨_,rfl,rE0 _ _ _,j.f R hk g⟩
 have hc:¬s.fc≠0:=abv
 have z3:=o.q f;have G:=j.q f;refine⟨λk=>k=b,λw4 W=>⟨rfl,l,Blk.dM (G.q W).r.blk 0 rfl,λw5 e=>⟨rfl,_,Blk.dM ((G.q W).q e).r.blk 1 rfl,λw6 Y=>?_⟩⟩⟩;have z6:=((z3.q W).q e).q Y;have H:=((G.q W).q e).q Y;have aS:=H.r.big;have C:=h.lt;refine(Pc H.r.tok s.i ⟨J,J⟩).mono ?_;rintro _ w7 ⟨c,rfl,X,hj,A⟩;have d7:=H.q A;obtain⟨sl,ix,_⟩:=X.cells;have aT:n.heap.size<=w6.heap.size:=((W.cn e).cn Y).size;refine⟨_,_,_,_,sl,_,_,_,_,by rw[ix],z6.sq A aaV,lw.Bg A,bR.only A,λw8 P v mA jS S=>?_⟩;obtain⟨d,X⟩:=X.xg;have V:rE L w7 (λk=>w6.heap.size<=k/\k<w7.heap.size) (cQ ts s.i).1 c:=⟨d,X⟩
 have am:=bH z3.o.size mA;have aC:=J
 have y:=d7.q P;have cc:=z6.o.size;have bY:=z.k a aaV;have bV:=((E.cn f).cn ((W.cn e).cn Y)).size;have u:∀{bs:List Nat} {B:M},Z bs w8 B->(∀x,x∈bs->x=v∨x=a∨x=b)->rE L B (Fr w.heap.size) (cQ ts s.i).1 c:=λt T=>
  (jp L).mono ((jp L).keep V λk b C=>(t.block k (cH C P.size) λd=>by
   rcases T k d with rfl | rfl | rfl
   ·have:=S.one;omega
   ·omega
   omega).trans (P.block k C aaV)) λk b=>by have:=b.1;show w.heap.size<=k;omega
 unfold vN;rw[aR hc];refine⟨λh1 B t=>?_,λh1 ez N=>?_⟩
 ·have h1:(cQ ts s.i).2.2.1≠0:=acf
  have i:Dn F ts w B b l s:=⟨y.o.trans t λx hx=>.inr abH,y.r.own t λx hx=>abH⟩
  refine⟨b,2,_,_,rfl,i.r.blk,aaV,J,J,λdA k oT dL eh=>?_⟩;rw[aV h1];have d:Dn F ts w dA b l {s with fc:=(cQ ts s.i).2.2.1,fa:=(cQ ts s.i).2.2.2}:=⟨i.o.trans k λx hx=>.inl hx,i.r.kY k oT h.lt⟩
  refine⟨c,by rw[ix],?_,d.f eh hk g⟩;exact u (bs:=[v,a,b]) (((t.weaken (bs':=[v,a,b]) λx hx=>.inl acj).trans k λx hx=>.inl abZ).trans eh λx hx=>.inl abJ) aaV
 have h1:¬(cQ ts s.i).2.2.1≠0:=acf
 have d:Dn F ts w ez b l s:=⟨y.o.trans N λx hx=>.inr abH,y.r.own N λx hx=>abH⟩
 obtain⟨L9,L0⟩:=hj acf;have ej:((cQ ts s.i).2.1.toNat)=(cQ ts s.i).2.1:=jL L9;refine⟨b,1,_,_,rfl,d.r.blk,aaV,J,J,λfj dV wv fU eS=>?_⟩;rw[aR h1];have k:Dn F ts w fj b l {s with i:=(cQ ts s.i).2.1.toNat}:=⟨d.o.trans dV λx hx=>.inl hx,d.r.kY dV (by dsimp only[sxv];rw[ej];exact wv) abQ⟩
 refine⟨c,by rw[ix],?_,k.f eS hk g⟩;exact u (bs:=[v,a,b]) (((N.weaken (bs':=[v,a,b]) λx hx=>.inl (by simp at hx⊢;omega)).trans dV λx hx=>.inl (by simp[aP]at hx;simp[hx])).trans eS λx hx=>.inl (by simp[aP]at hx;simp[hx])) aaV
end
def al3{n:Nat}(h:((n:Int)==0)=L):n=0:=abT
def al4{n:Nat}(h:((n:Int)==0)=aL):n≠0:=λe=>by rw[e]at h;simp at h
def R0{n:Nat}(h:decide ((n:Int)>0)=aL):n=0:=by have:=aQ h;omega
def R1{n:Nat}(h:decide ((n:Int)>0)=L):n≠0:=aeq
section
variable {F:aJ} {ts:List Tk} {w w':M} {b:Nat} {l:Sl} {s s':Sx}
def afH(f:Sr F ts w b l s):az Q 190 #[rp b] w λe w'=>∃d,e=ak (ah d.toArray)/\qv L w' (Fr w.heap.size) (xo ts s).1 d/\Dn F ts w w' b l (xo ts s).2:=by
 refine iW (alG _ ?_);intro k w0 hk C D;have t:=f.zt.al D hk C;obtain⟨ad,m,_⟩:=f.now;refine⟨λ_=>True,λw1 c=>⟨trivial,l,Blk.dM (t.q c).r.blk 0 rfl,λw2 R=>⟨trivial,_,Blk.dM ((t.q c).q R).r.blk 1 rfl,ad,m,λw3 v=>?_⟩⟩⟩;have o:=((t.q c).q R).q v;refine⟨trivial,_,(o.r.tk m).dM 3 _ rfl,λN u=>?_⟩;have p:=o.q u;obtain⟨q,P,a,H,W⟩:=kl N [vP,mT,pD] (n:=3) (parts:=#[(0,K (T vP)),(1,K (T mT)),(2,K (T pD))]) rfl rfl X X;refine⟨q,P,a,p.sq W aaV,lw.Bg W,bR.only W,λw6 Y=>?_⟩;have j:=(p.q W).q Y;refine(Dy j.r (SliceF.only cY X (uM H) Y aaV)).mono ?_;rintro _ w7 ⟨rfl,g⟩;have G:=j.q g;refine⟨_,rfl,j.sq g aaV,lw.Bg g,bR.only g,λw8 z i E S B=>?_⟩;have r:=(G.q z).ad (bH t.z.o.size E) S;refine⟨λh w9 A=>?_,λh V y=>?_⟩
 ·have b:=r.f A aaV;refine(vY b.r).mono ?_;rintro _ n ⟨rfl,e⟩;refine⟨rfl,b.sc e aaV,λq l=>?_⟩;have h:=al3 h;unfold xo;rw[aV h,h];exact⟨_,rfl,⟨oa 0 0 [] 0 Sl.nil 0,rfl,rE0 _ _ _⟩,((b.nx e).f l aaV).dn⟩
 have h:=al4 h;have am:=r.f y aaV;refine(afD am.r).mono ?_;rintro _ fj ⟨rfl,u9⟩;have aC:=am.nx u9;refine⟨rfl,am.sc u9 aaV,(ph aC.r).mono ?_⟩;rintro _ fU ⟨rfl,eS⟩;have n:=aC.q eS;unfold xo;rw[aR h];refine⟨_,rfl,aC.sq eS aaV,λhf gC iy=>?_,λhf=>?_⟩
 ·have hf:(xP ts s).fc≠0:=ac3
  rw[aV hf];exact⟨_,rfl,⟨oa 0 0 [] 0 Sl.nil 0,rfl,rE0 _ _ _⟩,(n.f iy aaV).dn⟩
 have hf:¬(xP ts s).fc≠0:=ac3
 rw[aR hf];refine⟨_,Blk.dM n.r.blk 1 rfl,b,1,_,_,rfl,n.r.blk,aaV,n.ne aaV,n.ne aaV,λiQ iT Ya=>?_⟩;rw[n.r.wr]at Ya;have aT:Zt F ts w iQ b l (eu (xP ts s)) [i,k]:=n.up iT Ya (f.en.next n.r.lt (by rw[Hh];exact(dT h).2));refine(ze aT.r).mono ?_;rintro _ im ⟨rfl,Q9⟩;have bV:=aT.nx Q9;refine⟨_,rfl,aT.sc Q9 aaV,λiR jR=>?_⟩;have aS:=bV.f jR aaV;generalize (ly ts (eu (xP ts s))).2=bY at*
 generalize (ly ts (eu (xP ts s))).1=nm at*
 generalize dE ts s [vP,mT,pD]=kk at*
 generalize (tk ts s.i).a=aa at*
 refine⟨λi4 s1 i5 i6 s2 i7 l2 i8 i9 w'=>∃(x:Ex) (u':Sx),i4=(kk:Int)/\s1=T nm/\i9=aa/\rE L w' (Fr iR.heap.size) x [O U i5,O U i6,K s2,O U i7,l2.v,O U i8]/\Zt F ts w w' b l u' [i,k]/\RT ts bY kk nm aa=(⟨kk,nm,x,aa⟩,fu ts u' [59])/\iR.heap.size<=w'.heap.size,?_,λqF=>?_,λqF=>?_⟩
 ·rintro i4 s1 i5 i6 s2 i7 l2 i8 i9 kf ⟨x,u',rfl,rfl,rfl,hx,e,w,cc⟩;obtain⟨q,iU,a,T,F⟩:=tv e.r [59];refine⟨q,iU,a,e.sq T aaV,F.mono ?_⟩;rintro _ kZ ⟨rfl,b⟩;have l:=e.q T;refine⟨rfl,l.sc b aaV,λmV s=>?_⟩;rw[w];have zk:=aS.z.k k aaV;have zs:=aS.z.o.size;have zb:=aS.r.lb;refine⟨_,rfl,⟨[O U i5,O U i6,K s2,O U i7,l2.v,O U i8],rfl,?_⟩,((l.nx b).f s aaV).dn⟩;exact(jp L).low ((jp L).stay hx ((((Stay.refl _ _).q T).d b zb).f s (.inl zk.2))) zs
 ·have qF:¬kk=2:=λe=>by rw[e]at qF;simp at qF
  obtain⟨q,po,a,tP,hm⟩:=tv aS.r [61];refine⟨q,po,a,aS.sq tP aaV,hm.mono ?_⟩;rintro _ ra ⟨rfl,b⟩;have w:=aS.q tP;have s:=w.nx b;refine⟨rfl,w.sc b aaV,(PM s.r).mono ?_⟩;rintro _ nu ⟨d,rfl,hx,l⟩;obtain⟨sl,rfl⟩:=fp hx;have T:=s.nx l;refine⟨_,_,_,_,sl,_,rfl,s.sc l aaV,λpK F=>?_⟩;have x:iR.heap.size<=ra.heap.size:=bH tP.size b.o.size;have zk:=aS.z.k i aaV;refine⟨_,_,rfl,rfl,rfl,(jp L).low ((jp L).stay hx ((Stay.refl _ _).f F (.inl J))) x,T.f F aaV,?_,bH x (bH l.o.size F.size)⟩;unfold RT;rw[aR qF]
 have qF:(kk:Int)=2:=ag7
 have qF:kk=2:=J
 refine⟨BU,bY,rfl,rfl,rfl,rE0 _ _ _,aS,?_,aX _⟩;unfold RT;rw[aV qF]
abbrev AcO(B:Nat)(w:M)(l:Sl)(a:List Ac):Prop:=Own (qv L) 9 161 B w (Fr B) l a
structure Br (F:aJ) (ts:List Tk) (w w':M) (b:Nat) (l:Sl) (k0 k1 B:Nat) (s:Sx) (acc:List Ac) (la:Sl):Prop where
 r:Sr F ts w' b l s
 b0:aF w' k0 145 [rp b]
 b1:aF w' k1 23 [la.v]
 own:AcO B w' la acc
 o:∃gs,Z (b::k1::gs) w w'/\∀x,x∈gs->B<=x
 n0:b<k0
 n1:b<k1
 n01:k0≠k1
 l0:k0<B
 l1:k1<B
 lB:B<=w'.heap.size
section
variable {k0 k1 B:Nat} {acc:List Ac} {la:Sl} {w2:M}
def Br.nx(h:Br F ts w w' b l k0 k1 B s acc la)(k:Dn F ts w' w2 b l s'):Br F ts w w2 b l k0 k1 B s' acc la:=by
 have n:=h.n0;have e:=h.n1;have d:=h.l0;obtain⟨g,a,c⟩:=h.o;exact⟨k.r,k.o.blk h.b0 abK,k.o.blk h.b1 abK,h.own.stay (dy L) k.o λx hx=>.inl abF,
  ⟨g,a.trans k.o λx hx=>.inl abJ,c⟩,n,e,h.n01,d,h.l1,bH h.lB k.o.size⟩
def Br.q(h:Br F ts w w' b l k0 k1 B s acc la)(k:Z [] w' w2):Br F ts w w2 b l k0 k1 B s acc la:=h.nx (h.r.dn.q k)
def afI(h:Br F ts w w' b l k0 k1 B s acc la)(m:I acc<I ts):az Q 189 #[ae (aM ⟨k1,0,aaf⟩),ae (aM ⟨k0,0,aaf⟩)] w' λe w2=>e=ak (ai #[])/\∃j,Br F ts w w2 b l k0 k1 B (xo ts s).2 (acc++[(xo ts s).1]) j:=by
 refine ret (alF _ _ ?_);intro w0 V;have c:=h.q V;have E:=h.n1;have l1:=h.l1;refine⟨λk=>k=k1,rfl,la,c.b1.at0 0 rfl,_,c.b0.at0 0 rfl,(afH c.r).mono ?_⟩;rintro _ H ⟨cs,rfl,hx,C⟩;have d:=c.nx C;generalize BC:(xo ts s).1=a at*
 generalize (xo ts s).2=s1 at*
 have T:=hx;obtain⟨xc,rfl,N⟩:=T;obtain⟨sl,rfl⟩:=fp N;have wo:=h.r.sm;have am:=c.own.len;obtain⟨y,w2,e2,R,j,z,e3,tR,⟨g,A,xG⟩,_⟩:=jV (P:=Q) (t:=23) (ty:=23) (e:=161) (i:=Tryz.t161) (bytes:=104) (size:=9) (v:=ah (acv a.k a.n (oa a.x.k a.x.n a.x.s a.x.op sl a.x.a) a.a).toArray) (x:=a) (G:=Fr w0.heap.size) aaz aaz rfl rfl rfl rfl X X X (dy L) d.own d.lB rfl hx (λk hk _=>⟨bH c.lB hk,c.own.new hk⟩) J;have Y:Z g H z:=(R.weaken (bs':=g) λ_ h=>abG).trans A λx hx=>.inl hx;have S:∀o,o∈g->B<=o:=λo hg=>(xG o hg).2.1;refine⟨_,_,_,_,_,_,sl,_,_,rfl,λk hk p=>(by subst hk;exact C.o.block k p abK),y,w2,e2,bR.only R,j,z,e3,λk hk p=>(by subst hk;exact A.block k p λm=>(by have:=S k m;omega)),k1,0,_,_,rfl,Y.blk d.b1 (λm=>by have:=S k1 m;omega),aaV,λw4 W sE=>⟨rfl,j,?_⟩⟩;have n0:=h.n0;have n:=h.n01;have D:=h.l0;have z3:=Y.size;have z4:=W.size;have r:=d.lB;have q:∀{x:Nat},x<B->x≠k1->w4.heap[x]? =H.heap[x]? :=λhx hn=>(W.block _ J aeb).trans (Y.block _ J λm=>(by have:=S _ m;omega));obtain⟨f,o1,o2⟩:=d.o;have u:Sr F ts z b l s1:=d.r.own Y λx hx=>(by have:=S x hx;omega)
 refine⟨u.one W E,(q D n).trans d.b0,sE,?_,⟨g++f,(((o1.weaken (bs':=b::k1::(g++f)) λx hx=>.inl (by simp only[aY,cj]at hx⊢;rcases hx with hx | hx | hx<;>simp[hx])).trans Y λx hx=>.inl aep)).trans W λx hx=>.inl abJ,λx hx=>?_⟩,n0,E,n,D,l1,J⟩
 ·refine((tR.mono (dy L) λk hk=>?_).stay (dy L) W λx hx=>.inl abF);rcases hk with hk | hk
  ·exact hk
  exact bH r hk
 rcases cj.1 hx with hx | hx
 ·exact S x hx
 exact o2 x hx
def Vu(f:Nat)(g:Br F ts w w' b l k0 k1 B s acc la)(i:mu ts s<f)(k:I acc+mu ts s<=I ts):
  az Q 188 #[rp b,K (ao #[125]),.func (.func 189) #[] #[ae (aM ⟨k1,0,aaf⟩),ae (aM ⟨k0,0,aaf⟩)]] w' λe w2=>e=ak (ai #[])/\∃a,Br F ts w w2 b l k0 k1 B (rC ts f acc s).2 (rC ts f acc s).1 a:=by
 refine ret (alE ⟨b,0,aaf⟩ _ ⟨.func (.func 189) #[] #[ae (aM ⟨k1,0,aaf⟩),ae (aM ⟨k0,0,aaf⟩)],rfl⟩ (λv w2=>v=(ai #[])/\∃a,Br F ts w w2 b l k0 k1 B (rC ts f acc s).2 (rC ts f acc s).1 a) w' ?_);generalize z:rC ts f acc s=r;refine⟨λc w2=>∃s' Y a,Br F ts w w2 b l k0 k1 B s' Y a/\rC ts c Y s'=r/\mu ts s'<c/\I Y+mu ts s'<=I ts,f,⟨s,acc,la,g,z,i,k⟩,?_⟩;rintro c t ⟨s',Y,a,d,h,j,p⟩;obtain⟨m,rfl⟩:∃m,c=m+1:=⟨c-1,J⟩
 rw[rC]at h;refine⟨λo w2=>(o=L/\s'.fc=0/\dE ts s' [[125]]=0/\Br F ts w w2 b l k0 k1 B s' Y a)∨(o=aL/\Br F ts w w2 b l k0 k1 B r.2 r.1 a),?_,(ph d.r).mono ?_⟩
 ·rintro o e (⟨rfl,f,w,b⟩ | ⟨rfl,b⟩)
  ·refine⟨λ_=>⟨189,[],[_,_],rfl,kO aaz,?_⟩,λq=>(by cases q)⟩;rw[aR (by simp[f]),aR (by simp[w])]at h;have u:=afy d.r.en f d.r.lt;have s:mu ts s'<=I ts:=afn
   refine(afI b J).mono ?_;rintro _ v ⟨rfl,l,n⟩;exact⟨rfl,m,J,_,_,l,n,h,J,ab8⟩
  exact⟨λl=>(by cases l),λ_=>⟨rfl,a,b⟩⟩
 rintro _ w ⟨rfl,W⟩;have b:=d.q W;refine⟨_,rfl,λhc=>?_,λhc=>?_⟩
 ·have hc:s'.fc=0:=abv
  rw[aR (by simp[hc])]at h;obtain⟨q,u,l,s,hk⟩:=FA b.r [[125]] (n:=1) (parts:=#[(0,K (T [125]))]) rfl rfl X X;refine⟨q,u,l,hk.mono ?_⟩;rintro _ v ⟨rfl,e⟩;have e:=(b.q s).nx e;refine⟨_,rfl,?_⟩;by_cases f:dE ts s' [[125]]=0
  ·rw[aV f]at e;exact .inl ⟨by rw[f];rfl,hc,f,e⟩
  rw[aR f]at e;rw[aV f]at h;subst h;exact .inr ⟨by simpa using f,e⟩
 have hc:s'.fc≠0:=abv
 rw[aV hc]at h;subst h;exact .inr ⟨rfl,b⟩
end
def Dz(h:Sr F ts w b l s):az Q 155 #[rp b] w λe w'=>∃c:Sl,e=ak c.v/\kx L (qv L) 9 161 w' (Fr w.heap.size) c (mq ts s).1/\Dn F ts w w' b l (mq ts s).2:=by
 refine iW (alm _ ?_);intro u v N T o m S D;have t:=((h.zt.q D).ad T o).ad m S;obtain⟨q,C,p,E,r⟩:=tv t.r [123];refine⟨q,C,p,t.sq E aaV,r.mono ?_⟩;rintro _ g ⟨rfl,i⟩;have j:=t.q E;have d:=j.nx i;refine⟨rfl,j.sc i aaV,λz f=>?_⟩;have H:=h.lb;have B:Br F ts g g b l u v g.heap.size (fu ts s [123]) [] Sl.nil:=
  ⟨d.r,z,f,Own.nil _ _ _ _ _ _,⟨[],Only.refl _ _,λ_ h=>abG⟩,J,J,λe=>(by subst e;have:=z.symm.trans f;simp at this),z.lt,f.lt,aX _⟩
 refine(Vu (I ts+1) B afn (by rw[bK,bS];unfold mu;split<;>omega)).mono ?_;rintro _ P ⟨rfl,c,a⟩;have n:=d.z.o.size;obtain⟨G,y,A⟩:=a.o;refine⟨rfl,_,a.b0,_,a.b1,c,rfl,?_,?_,a.r⟩
 ·exact(a.own.sl (dy L) λk hk=>hk).low (dy L) n
 exact d.z.o.trans y λx h=>by
  simp only[aY]at h;rcases h with rfl | rfl | h
  ·exact .inl aaV
  ·exact .inr m
  exact .inr (bH n (A x h))
end
section
variable {F:aJ} {ts:List Tk} {w w':M} {b:Nat} {l:Sl} {s s':Sx}
structure MvX (A:Nat) (w:M) (m:Mv) (k:Int) (ev:aK) (wt:Int) (gd:Bool) (gc:aI) (rM:Sl) (a:Int):Prop where
 e1:k=m.k
 e2:ev=T m.ev
 e3:wt=m.wt
 e4:gd=m.gd
 e5:a=m.a
 g:rE L w (Fr A) m.g gc
 x:kx L (qv L) 9 161 w (Fr A) rM m.acts
def MvX.stay{A:Nat}{m:Mv}{k:Int}{ev:aK}{wt:Int}{d:Bool}{g:aI}{r:Sl}{a:Int}(h:MvX A w m k ev wt d g r a)(s:Stay A w w'):MvX A w' m k ev wt d g r a:=
 ⟨h.e1,h.e2,h.e3,h.e4,h.e5,(jp L).stay h.g s,h.x.stay (dy L) X s⟩
def uO(t:List Tk)(s:Sx):mu t s<=I t:=afn
def DA(h:Sr F ts w b l s){c:List (aH)}(a:dE ts s c≠0):s.i+1<I ts:=h.en.next h.lt (dT a).2
def aaE(h:Sr F ts w b l s)(k:Int)(hk:(tk ts s.i).k≠5):az Q 153 #[rp b,O U k] w λe w'=>∃g,e=ak (ah g.toArray)/\Iz L w' (Fr w.heap.size) (ta ts k s).1 g/\Dn F ts w w' b l (ta ts k s).2:=by
 refine iW (alj _ _ ?_);intro a C u r D;have f:=h.zt.al D u r;obtain⟨ad,z,A⟩:=f.r.now;refine⟨λ_=>True,trivial,l,Blk.dM f.r.blk 0 rfl,trivial,_,Blk.dM f.r.blk 1 rfl,ad,z,trivial,_,A.dM 3 _ rfl,λc H B S E=>?_⟩;have j:=f.al E B S;refine(afE j.r).mono ?_;rintro _ N ⟨rfl,p⟩;have m:=j.nx p;refine⟨rfl,j.sc p aaV,(ph m.r).mono ?_⟩;rintro _ R ⟨rfl,o⟩;have d:=m.q o;unfold ta;refine⟨_,rfl,m.sq o aaV,λhf V W=>?_,λhf=>?_⟩
 ·have hf:(vO ts s).fc≠0:=ac3
  rw[aV hf];exact⟨_,rfl,⟨oa 0 0 [] 0 Sl.nil 0,Sl.nil,Sl.nil,rfl,rE0 _ _ _,kx.nil _ _ _ _ _ _,kx.nil _ _ _ _ _ _⟩,(d.f W aaV).dn⟩
 have hf:¬(vO ts s).fc≠0:=ac3
 rw[aR hf];refine⟨_,Blk.dM d.r.blk 1 rfl,b,1,_,_,rfl,d.r.blk,aaV,d.ne aaV,d.ne aaV,λw5 eW u7=>?_⟩;rw[d.r.wr]at u7;have t5:Zt F ts w w5 b l (eu (vO ts s)) [c,a]:=d.up eW u7 (h.en.next d.r.lt (by rw[Hi];exact hk));have hA:=t5.z.o.size;have co:=(t5.z.k a aaV).2;have bV:=(t5.z.k c aaV).2;have aT:=t5.r.lb;generalize bY:w5.heap.size=aS at*
 generalize (tk ts s.i).a=aa at*
 generalize eu (vO ts s)=u0 at*
 generalize Y:(if k=1 then sZ ts {mv0 k aa with ev:=(ly ts u0).1} (ly ts u0).2 else if k=3 then sZ ts {mv0 k aa with wt:=(jC ts u0 3).1.n} (jC ts u0 3).2 else sZ ts (mv0 k aa) u0)=cc;have x0:∀{w':M} {ev:aH} {wt:Int},MvX aS w' {mv0 k aa with ev:=ev,wt:=wt} k (T ev) wt aL (oa 0 0 [] 0 Sl.nil 0) Sl.nil aa:=⟨rfl,rfl,rfl,rfl,rfl,rE0 _ _ _,kx.nil _ _ _ _ _ _⟩
 refine⟨λi3 s0 i4 b1 i5 i6 s1 i7 l1 i8 l2 l3 i9 w'=>∃(am:Mv) (aC:Sx),MvX aS w' am i3 s0 i4 b1 [O U i5,O U i6,K s1,O U i7,l1.v,O U i8] l2 i9/\am.gd=aL/\am.tg=[]/\l3=Sl.nil/\Zt F ts w w' b l aC [c,a]/\sZ ts am aC=cc/\aS<=w'.heap.size,?_,λhc=>?_,λhc=>⟨λkF=>?_,λkF=>?_⟩⟩;rotate_left
 ·have hc:k=1:=abv
  refine(ze t5.r).mono ?_;rintro _ b ⟨rfl,h⟩;have t:=t5.nx h;refine⟨_,rfl,t5.sc h aaV,λi e=>?_⟩;rw[aV hc]at Y;exact⟨_,_,x0,rfl,rfl,rfl,t.f e aaV,Y,by rw[<-bY];exact bH h.o.size e.size⟩
 ·have hc:¬k=1:=abv
  have kF:k=3:=ahv
  refine(zd t5.r (k:=3) X).mono ?_;rintro _ w ⟨rfl,h⟩;have t:=t5.nx h;refine⟨_,_,_,_,rfl,t5.sc h aaV,λT b=>?_⟩;rw[aR hc,aV kF]at Y;exact⟨_,_,x0,rfl,rfl,rfl,t.f b aaV,Y,by rw[<-bY];exact bH h.o.size b.size⟩
 ·have hc:¬k=1:=abv
  have kF:¬k=3:=ahv
  rw[aR hc,aR kF]at Y;exact⟨_,_,x0,rfl,rfl,rfl,t5,Y,Ou bY.symm⟩
 rintro i3 s0 i4 b1 i5 i6 s1 i7 l1 i8 l2 l3 i9 w6 ⟨am,aC,hx,Zp,om,rfl,t6,Y,z6⟩;unfold sZ at Y;obtain⟨q,ra,e1,zN,hm⟩:=FA t6.r [[91]] (n:=1) (parts:=#[(0,K (T [91]))]) rfl rfl X X;have cC:=t6.q zN;refine⟨λi3 s0 i4 b1 i5 i6 s1 i7 l1 i8 l2 l3 i9 w'=>∃(am:Mv) (aC:Sx),MvX aS w' am i3 s0 i4 b1 [O U i5,O U i6,K s1,O U i7,l1.v,O U i8] l2 i9/\am.tg=[]/\l3=Sl.nil/\Zt F ts w w' b l aC [c,a]/\Fp ts am aC=cc/\aS<=w'.heap.size,?_,q,ra,e1,t6.sq zN aaV,hm.mono ?_⟩;rotate_left
 ·rintro _ n ⟨rfl,h⟩;have t:=cC.nx h;have s:Stay aS w6 n:=((Stay.refl aS w6).q zN).d h aT;refine⟨_,rfl,cC.sc h aaV,λhc k e=>?_,λhc i b=>?_⟩
  ·have uH:=R1 hc;rw[aR uH]at Y t;have v:=t.f e aaV;have x:=s.f e (.inl bV);have eQ:=x.sz;refine(PM v.r).mono ?_;rintro _ sf ⟨g,rfl,hg,q⟩;obtain⟨sl,rfl⟩:=fp hg;have P:=v.nx q;refine⟨_,_,_,_,sl,_,rfl,v.sc q aaV,λvh uI=>?_⟩;have w:=P.f uI aaV;obtain⟨q2,zL,e2,G,yu⟩:=tv w.r [93];have F:=w.q G;refine⟨q2,zL,e2,w.sq G aaV,yu.mono ?_⟩;rintro _ Im ⟨rfl,l⟩;have T:=F.nx l;have y:=(((x.d q aT).f uI (.inl bV)).q G).d l aT;refine⟨rfl,F.sc l aaV,{am with gd:=L,g:=(vN ts (eu aC)).1},_,⟨hx.e1,hx.e2,hx.e3,hc,hx.e5,?_,hx.x.stay (dy L) X y⟩,om,rfl,T,Y,bH z6 y.sz⟩;exact(jp L).low ((jp L).stay hg ((((Stay.refl _ _).f uI (.inl J)).q G).d l J)) J
  have v:=R0 hc;rw[aV v]at Y t;have q:=s.f b (.inl bV);have l:=hx.stay q;exact⟨am,aC,⟨l.e1,l.e2,l.e3,by rw[hc,Zp],l.e5,l.g,l.x⟩,om,rfl,t.f b aaV,Y,bH z6 q.sz⟩
 clear hx Zp om t6 Y z6 hm cC;rintro i3 s0 i4 b1 i5 i6 s1 i7 l1 i8 l2 l3 i9 w7 ⟨am,aC,hx,om,rfl,t7,Y,z7⟩;unfold Fp at Y;obtain⟨q,iU,e1,jT,hm⟩:=PK t7.r [[123]] (n:=1) (parts:=#[(0,K (T [123]))]) rfl rfl X X;have fd:=t7.q jT;refine⟨λi3 s0 i4 b1 i5 i6 s1 i7 l1 i8 l2 l3 i9 w'=>∃(am:Mv) (aC:Sx),MvX aS w' am i3 s0 i4 b1 [O U i5,O U i6,K s1,O U i7,l1.v,O U i8] l2 i9/\l3=Sl.nil/\Zt F ts w w' b l aC [c,a]/\Ka ts am aC=cc/\aS<=w'.heap.size,?_,q,iU,e1,t7.sq jT aaV,hm.mono ?_⟩;rotate_left
 ·rintro _ k ⟨rfl,e⟩;have t:=fd.q e;have b:Stay aS w7 k:=((Stay.refl aS w7).q jT).q e;have h:=b.sz;refine⟨_,rfl,fd.sq e aaV,λhc=>(Dz t.r).mono ?_,λhc=>?_⟩
  ·rw[aR (R1 hc)]at Y;rintro _ v ⟨q,rfl,l,i⟩;have n:=t.nx i;refine⟨q,rfl,t.sc i aaV,λw P=>?_⟩;have s:=(b.d i aT).f P (.inl bV);refine⟨{am with acts:=(mq ts aC).1},_,⟨hx.e1,hx.e2,hx.e3,hx.e4,hx.e5,(jp L).stay hx.g s,?_⟩,rfl,n.f P aaV,Y,bH z7 s.sz⟩;exact(l.stay (dy L) X ((Stay.refl _ _).f P (.inl J))).low (dy L) J
  rw[aV (R0 hc)]at Y;exact⟨am,aC,hx.stay b,rfl,t,Y,bH z7 h⟩
 clear hx om t7 Y z7 hm fd;rintro mt s4 mK b3 nO oF s5 oN l7 oR l8 l9 pi w8 ⟨am,aC,hx,rfl,t8,Y,z8⟩;unfold Ka at Y;have lE:b<w8.heap.size:=J
 refine⟨λnv sg iD s7 iF b4 gE gG s8 gO ip gT rZ tL iN w'=>∃(x:aH) (f8:List (aH)) (u':Sx),sg=T x/\MvX aS w8 am iD s7 iF b4 [O U gE,O U gG,K s8,O U gO,ip.v,O U gT] rZ iN/\Stay aS w8 w'/\Own ke 1 9 w8.heap.size w' (Fr w8.heap.size) tL f8/\Zt F ts w w' b l u' [c,a]/\A4 ts nv x f8 u'=A4 ts (I ts+1) [45,62] [] aC/\mu ts u'<nv/\I f8+mu ts u'<=I ts,I ts+1,⟨[45,62],[],aC,rfl,hx,Stay.refl _ _,Own.nil _ _ _ _ _ _,t8,rfl,yx (uO _ _),agz⟩,?_⟩;clear hx;rintro nv sg iD s7 iF b4 gE gG s8 gO ip gT rZ tL iN w9 ⟨x,f8,u',rfl,hx,hS,tR,t9,hT,lT,Lw⟩;obtain⟨m',rfl⟩:∃m',nv=m'+1:=⟨nv-1,J⟩
 rw[A4]at hT;obtain⟨q,dA,e1,dR,yu⟩:=FA t9.r [x] (n:=1) (parts:=#[(0,K (T x))]) rfl rfl X X;have iS:=t9.q dR;refine⟨q,dA,e1,t9.sq dR aaV,yu.mono ?_⟩;rintro _ dL ⟨rfl,S4⟩;have f7:=iS.nx S4;refine⟨_,rfl,iS.sc S4 aaV,λhc ez eM=>?_,λhc=>?_⟩
 ·have hc:=R1 hc;rw[aR hc]at hT f7;have l:=f7.q eM;refine⟨λk=>k=c,rfl,(ze l.r).mono ?_⟩;rintro _ fj ⟨rfl,u9⟩;have n:=l.nx u9;have gp:Z [b] w9 fj:=(((dR.weaken (bs':=[b]) λ_ h=>abG).trans S4.o λx hx=>.inl hx).cn eM).trans u9.o λx hx=>.inl hx;have zS:=hS.sz;have z9:=gp.size;have wo:=h.sm;have Es:=uO ts u';have tO:=rG h.en (dT hc).1 t9.r.lt (dT hc).2 (rF h.en (s:=eu u')).toOn0;obtain⟨y,fU,e2,w,F6,gC,e3,pm,⟨gs,F,xG⟩,_⟩:=jV (P:=Q) (t:=32) (ty:=32) (e:=9) (i:=Tryz.t9) (bytes:=16) (size:=1) (v:=K (T (ly ts (eu u')).1)) (x:=(ly ts (eu u')).1) (G:=λ_=>False) aaz aaz rfl rfl rfl rfl X X X cY (tR.stay cY gp λx hx=>.inl abF) (bH zS z9) rfl rfl (λk hk _=>hk.elim) J;have tS:∀dO,dO∈gs->w8.heap.size<=dO:=λdO hg=>(xG dO hg).2.1;have rx:=t8.z.o.size;have q:=n.q w;have pP:=q.row F λx hx=>bH rx (tS x hx);have nk:=t8.ne (k0:=c) aaV;refine⟨_,rfl,l.sc u9 aaV,λk hk bW=>(by subst hk;exact u9.o.block k bW (by simpa using nk)),y,fU,e2,n.sq w aaV,bR.only w,F6,gC,e3,q.sr F aaV (λx hx y hy=>?_),λk hk bW=>(by subst hk;exact F.block k bW λhm=>(by have:=tS k hm;omega)),λiQ iT=>⟨m',J,[44],_,_,rfl,hx,?_,?_,pP.f iT aaV,hT,J,?_⟩⟩
  ·have:=tS x hx;simp only[aY,bA,cf]at hy;omega
  ·exact(((hS.go gp λx hx=>.inl abF).q w).go F λx hx=>.inr (tS x hx)).f iT (.inl bV)
  ·refine((pm.mono cY λk hk=>?_).stay cY iT λx hx=>.inl abF);rcases hk with hk | hk
   ·exact hk
   exact bH (bH zS z9) hk
  rw[aO,bI];omega
 have hc:=R0 hc;rw[aV hc]at hT f7;obtain⟨F,x,w,i,v⟩:=tv f7.r [59];have t:=f7.q i;refine⟨F,x,w,f7.sq i aaV,v.mono ?_⟩;rintro _ P ⟨rfl,h⟩;have l:=t.nx h;refine⟨rfl,t.sc h aaV,λq y=>?_⟩;rw[<-hT]at Y;rw[<-Y];have G:∀{e:Nat},b<e->a<e->Stay e w9 q:=λn hk=>((((Stay.refl _ _).q dR).d S4 n).q i).d h n |>.f y (.inl hk);have s:Stay aS w8 q:=(((((hS.q dR).d S4 aT).q i).d h aT).f y (.inl co))
 refine⟨mvv am.k am.ev am.wt am.gd [O U gE,O U gG,K s8,O U gO,ip.v,O U gT] rZ tL am.a,by rw[hx.e1,hx.e2,hx.e3,hx.e4,hx.e5];rfl,⟨_,_,_,rfl,(jp L).low ((jp L).stay hx.g s) hA,(hx.x.stay (dy L) X s).low (dy L) hA,?_⟩,(l.f y aaV).dn⟩;exact((tR.sl cY λk hk=>hk).stay cY X (G lE J)).low cY J
end
def PN{kq x:aI}{j:Nat}{v:aw}(h:x[j]? =aM v):(kq++x)[I kq+j]? =aM v:=by
 rw[cd J,dG];exact h
def oI(kq x v:aI)(j:Nat):fQ (kq++x) (I kq+j) v=kq++fQ x j v:=by
 unfold fQ;rw[ZB,dB,List.drop_length_add_append];simp only[bC]
structure NbO (B:Nat) (w:M) (n:Nb) (en lv mv:Sl):Prop where
 en:kx L (qv L) 9 161 w (λk=>B<=k/\mv.a≠aM ⟨k,0,aaf⟩) en n.en
 lv:kx L (qv L) 9 161 w (λk=>B<=k/\mv.a≠aM ⟨k,0,aaf⟩) lv n.lv
 mv:Own (Iz L) 13 83 B w (Fr B) mv n.mv
section
variable {B:Nat} {w w':M} {n:Nb} {en lv mv:Sl}
def NbO.go(h:NbO B w n en lv mv){s:List Nat}(k:Z s w w')(a:∀x,x∈s->x<B):NbO B w' n en lv mv:=
 ⟨h.en.keep (dy L) X λi c b=>k.block i b λm=>(by have:=a i m;omega),h.lv.keep (dy L) X λi c b=>k.block i b λm=>(by have:=a i m;omega),h.mv.stay (mr L) k λx d=>.inl (a x d)⟩
def NbO.Be(b:NbO B w n en lv mv){s:List Nat}{q:Sl}{m:Mv}(t:Own (Iz L) 13 83 B w' (λk=>Fr B k∨w.heap.size<=k) q (n.mv++[m]))(k:Z s w w')(G:∀g,g∈s->mv.a=aM ⟨g,0,aaf⟩)(a:q.a=mv.a∨∃g,q.a=aM ⟨g,0,aaf⟩/\w.heap.size<=g)(c:B<=w.heap.size):NbO B w' {n with mv:=n.mv++[m]} en lv q:=by
 have go:∀{l:Sl} {x:List Ac},kx L (qv L) 9 161 w (λk=>B<=k/\mv.a≠aM ⟨k,0,aaf⟩) l x->kx L (qv L) 9 161 w' (λk=>B<=k/\q.a≠aM ⟨k,0,aaf⟩) l x:=λd=>
  ((d.inHeap (dy L) X).keep (dy L) X λi h W=>k.block i W λf=>h.1.2 (G i f)).mono (dy L) λi h=>⟨h.1.1,by
   rcases a with a | ⟨g,a,j⟩
   ·rw[a];exact h.1.2
   rw[a];intro e;injection e with e;injection e with e;have:=h.2;omega⟩
 exact⟨go b.en,go b.lv,t.mono (mr L) λi h=>h.elim id λh=>bH c h⟩
def NbO.amJ(h:NbO B w n en lv mv){A:Nat}{l:Sl}{x:List Ac}(b:kx L (qv L) 9 161 w (Fr A) l x)(a:B<=A)(m:∀k,A<=k->mv.a≠aM ⟨k,0,aaf⟩):NbO B w {n with en:=x} l lv mv:=
 ⟨b.mono (dy L) λk hk=>⟨bH a hk,m k hk⟩,h.lv,h.mv⟩
def NbO.amK(h:NbO B w n en lv mv){A:Nat}{l:Sl}{x:List Ac}(b:kx L (qv L) 9 161 w (Fr A) l x)(a:B<=A)(m:∀k,A<=k->mv.a≠aM ⟨k,0,aaf⟩):NbO B w {n with lv:=x} en l mv:=
 ⟨h.en,b.mono (dy L) λk hk=>⟨bH a hk,m k hk⟩,h.mv⟩
end
abbrev R2(h:S2):aI:=[aj aL,aj h.i,aj h.e,aj h.l]
structure Cl (F:aJ) (ts:List Tk) (w w':M) (b:Nat) (l:Sl) (g t:Nat) (kq:aI) (kh B:Nat) (s:Sx) (n:Nb) (h:S2) (en lv mv:Sl):Prop where
 r:Sr F ts w' b l s
 nb:aF w' g t (kq++od n.k n.nm n.ini n.dft en lv mv Sl.nil n.a)
 hb:aF w' kh 193 (R2 h)
 no:NbO B w' n en lv mv
 o:∃gs,Z (b::g::kh::gs) w w'/\∀x,x∈gs->B<=x
 ng:g≠b/\¬F g
 nh:b<kh
 gh:g≠kh
 gB:g<B
 hB:kh<B
 lB:B<=w'.heap.size
section
variable {F:aJ} {ts:List Tk} {w w' w2:M} {b:Nat} {l:Sl} {g t:Nat} {kq:aI} {kh B:Nat} {s s':Sx} {n n':Nb} {h h':S2} {en lv mv tT tU qk:Sl}
def Cl.nx(c:Cl F ts w w' b l g t kq kh B s n h en lv mv)(k:Dn F ts w' w2 b l s'):Cl F ts w w2 b l g t kq kh B s' n h en lv mv:=by
 have j:=c.ng;have m:=c.nh;have a:=c.gB;have i:=c.hB;obtain⟨d,e,f⟩:=c.o;exact⟨k.r,k.o.blk c.nb abK,k.o.blk c.hb abK,c.no.go k.o λx hx=>abF,
  ⟨d,e.trans k.o λx hx=>.inl abJ,f⟩,j,m,c.gh,a,c.hB,bH c.lB k.o.size⟩
def Cl.q(c:Cl F ts w w' b l g t kq kh B s n h en lv mv)(k:Z [] w' w2):Cl F ts w w2 b l g t kq kh B s n h en lv mv:=c.nx (c.r.dn.q k)
def Cl.st(c:Cl F ts w w' b l g t kq kh B s n h en lv mv)(k:Z [g] w' w2)(j:aF w2 g t (kq++od n'.k n'.nm n'.ini n'.dft tT tU qk Sl.nil n'.a))(o:NbO B w' n' tT tU qk):Cl F ts w w2 b l g t kq kh B s n' h tT tU qk:=by
 obtain⟨d,f,i⟩:=c.o;have a:=c.gB;exact⟨c.r.agy k c.ng,j,k.blk c.hb (by simpa using λe=>c.gh e.symm),o.go k λx hx=>abF,⟨d,f.trans k λx hx=>.inl abJ,i⟩,c.ng,c.nh,c.gh,a,c.hB,bH c.lB k.size⟩
def Cl.hd(c:Cl F ts w w' b l g t kq kh B s n h en lv mv)(k:Z [kh] w' w2)(f:aF w2 kh 193 (R2 h')):Cl F ts w w2 b l g t kq kh B s n h' en lv mv:=by
 obtain⟨a,d,e⟩:=c.o;have Y:=c.hB;exact⟨c.r.one k c.nh,k.blk c.nb (by simpa using c.gh),f,c.no.go k λx hx=>abF,⟨a,d.trans k λx hx=>.inl abJ,e⟩,c.ng,c.nh,c.gh,c.gB,Y,bH c.lB k.size⟩
def al5(h:S2)(j:Nat):Bool:=if j=1 then h.i else if j=2 then h.e else h.l
def Vv(h:S2)(j:Nat):S2:=if j=1 then{h with i:=L}else if j=2 then{h with e:=L}else{h with l:=L}
def j3{j:Nat}(h:j≠0)(a:j<=3):j=1∨j=2∨j=3:=J
def R3(c:Cl F ts w w' b l g t kq kh B s n h en lv mv)(d:I n.mv<I ts):az Q 110 #[rp b,ae (aM ⟨g,I kq,aaf⟩),ae (aM ⟨kh,0,aaf⟩)] w' λe w2=>e=ak (aj (fJ ts n h s).1)/\
  ∃tT tU qk,Cl F ts w w2 b l g t kq kh B (fJ ts n h s).2.2.2 (fJ ts n h s).2.1 (fJ ts n h s).2.2.1 tT tU qk:=by
 refine ret (akS _ _ _ ?_);have p:=c.r.sm;obtain⟨q,j,a,D,m⟩:=PK c.r [JY,lX,mo] (n:=3) (parts:=#[(0,K (T JY)),(1,K (T lX)),(2,K (T mo))]) rfl rfl X X;refine⟨q,j,a,m.mono ?_⟩;rintro _ o ⟨rfl,E⟩;have f:=(c.q D).q E;refine⟨_,rfl,λhc w2 R=>?_,λhc=>?_⟩
 ·have hc:=R1 hc;have w:=f.q R;have pY:fJ ts n h s=(L,{n with mv:=n.mv++[(ta ts (dE ts s [JY,lX,mo]:Nat) s).1]},h,(ta ts (dE ts s [JY,lX,mo]:Nat) s).2):=by
   unfold fJ;rw[aV hc]
  rw[pY];refine⟨λk=>k=g,_,rfl,rfl,mv,w.nb.at0 (I kq+6) (PN rfl),(aaE w.r _ (dT hc).2).mono ?_⟩;rintro _ w3 ⟨cs,rfl,hx,V⟩;have q:=w.nx V;generalize (ta ts (dE ts s [JY,lX,mo]:Nat) s).1=l at*
  generalize (ta ts (dE ts s [JY,lX,mo]:Nat) s).2=am at*
  have Ir:=hx;obtain⟨gc,rM,tg,rfl,hg,_,_⟩:=Ir;obtain⟨sl,rfl⟩:=fp hg;have ng:=c.ng;have gB:=c.gB;obtain⟨y,w4,e2,N,qk,w5,e3,tR,⟨u,T,xG⟩,ha⟩:=jV (P:=Q) (t:=24) (ty:=24) (e:=83) (i:=Tryz.t83) (bytes:=168) (size:=13) (v:=ah (mvv l.k l.ev l.wt l.gd (oa l.g.k l.g.n l.g.s l.g.op sl l.g.a) rM tg l.a).toArray) (x:=l) (G:=Fr w2.heap.size) aaz aaz rfl rfl rfl rfl X X X (mr L) q.no.mv q.lB rfl hx (λk hk _=>⟨bH w.lB hk,w.no.mv.new hk⟩) J;have r:Z u w3 w5:=(N.weaken (bs':=u) λ_ h=>abG).trans T λx hx=>.inl hx;have S:∀x,x∈u->B<=x:=λx hx=>(xG x hx).2.1;have hn:g∉u:=λd=>by have:=S g d;omega
  have u7:=r.blk q.nb hn;refine⟨_,_,_,_,_,_,_,_,sl,_,rM,tg,_,rfl,λk hk W=>(by subst hk;exact V.o.block k W abK),y,w4,e2,bR.only N,qk,w5,e3,λk hk W=>(by subst hk;exact T.block k W hn),_,rfl,g,_,_,_,rfl,u7,aaV,λw6 Y H=>⟨rfl,en,lv,qk,?_⟩⟩;rw[oI]at H;have F:=q.no.Be tR r (λx hx=>(xG x hx).1) ha q.lB;obtain⟨z,o1,o2⟩:=q.o;have nh:=c.nh;have A:=c.hB;have lB:=q.lB;have C:=c.gh;have z5:=r.size;have z6:=Y.size;exact⟨(q.r.own r λx hx=>(by have:=S x hx;omega)).agy Y ng,H,(Y.block kh (by have:=q.hb.lt;omega) abK).trans (r.blk q.hb λd=>(by have:=S kh d;omega)),
   F.go Y λx hx=>abF,⟨u++z,((o1.weaken (bs':=b::g::kh::(u++z)) λx hx=>.inl (by simp only[aY,cj]at hx⊢;rcases hx with hx | hx | hx | hx<;>simp[hx])).trans r λx hx=>.inl aep).trans Y λx hx=>.inl abJ,λx hx=>(cj.1 hx).elim (S x) (o2 x)⟩,ng,nh,C,gB,A,J⟩
 have hc:=R0 hc;obtain⟨q,x,a,v,m⟩:=PK f.r [ir,lJ,lK] (n:=3) (parts:=#[(0,K (T ir)),(1,K (T lJ)),(2,K (T lK))]) rfl rfl X X;refine⟨q,x,a,m.mono ?_⟩;rintro _ z ⟨rfl,y⟩;have r:=(f.q v).q y;have u:dE ts s [ir,lJ,lK]<=3:=Kb _;refine⟨_,rfl,λi=>?_,λi=>?_⟩
 ·have i:=al3 i;have Y:fJ ts n h s=(aL,n,h,s):=by unfold fJ;rw[aR abv,i];rfl
  rw[Y];exact⟨rfl,_,_,_,r⟩
 have i:=al4 i;have C:=DA c.r i;have Y:fJ ts n h s=(if al5 h (dE ts s [ir,lJ,lK])then(aL,n,h,lk ts s)else if dE ts s [ir,lJ,lK]=1 then(L,{n with ini:=(ly ts (eu s)).1},Vv h 1,fu ts (ly ts (eu s)).2 [59])else if dE ts s [ir,lJ,lK]=2 then(L,{n with en:=(mq ts (eu s)).1},Vv h 2,(mq ts (eu s)).2)else(L,{n with lv:=(mq ts (eu s)).1},Vv h 3,(mq ts (eu s)).2)):=by
  unfold fJ;rw[aR abv];rcases j3 i u with e | e | e<;>rw[e]<;>rfl
 rw[Y];generalize dE ts s [ir,lJ,lK]=A at*
 have H:(R2 h)[A]? =aM (aj (al5 h A)):=by rcases j3 i u with e | e | e<;>rw[e]<;>rfl
 have G:Ji ⟨kh,0,aaf⟩ (A:Int) 4 1 ⟨kh,A,aaf⟩:=⟨J,J,by rw[gu,aW];simp⟩
 refine⟨_,rfl,⟨kh,A,aaf⟩,G,_,r.hb.at0 A H,λhh=>?_,λhh=>?_⟩
 ·rw[aV hh];refine(vY r.r).mono ?_;rintro _ w ⟨rfl,h⟩;exact⟨rfl,rfl,_,_,_,r.nx h⟩
 rw[aR adz];refine⟨_,rfl,⟨kh,A,aaf⟩,G,kh,A,_,_,rfl,r.hb,by show A+1<=4;omega,λdA dR oT=>?_⟩;have P:Cl F ts w dA b l g t kq kh B s n (Vv h A) en lv mv:=r.hd dR (by
  have e:fQ (R2 h) A [aj L]=R2 (Vv h A):=by rcases j3 i u with e | e | e<;>rw[e]<;>rfl
  rwa[e]at oT)
 refine⟨_,Blk.dM P.r.blk 1 rfl,b,1,_,_,rfl,P.r.blk,aaV,λdL W V=>?_⟩;rw[c.r.wr]at V;have N:=P.nx (s':=eu s) ⟨W,P.r.kY W V C⟩;refine⟨λw'=>∃tT tU qk,Cl F ts w w' b l g t kq kh B _ _ _ tT tU qk,λez EY=>⟨by split<;>(try split)<;>rfl,EY⟩,λT=>?_,λT=>⟨λS=>?_,λS=>?_⟩⟩
 ·have a:A=1:=by have:(A:Int)=1:=(by simpa using T);omega
  subst a;rw[aV rfl];refine(ze N.r).mono ?_;rintro _ F ⟨rfl,w⟩;have c:=N.nx w;refine⟨_,rfl,_,rfl,g,_,_,_,rfl,c.nb,aaV,λB k e=>?_⟩;rw[oI]at e;have b:=c.st (n':={n with ini:=(ly ts (eu s)).1}) k e ⟨c.no.en,c.no.lv,c.no.mv⟩;obtain⟨q,l,a,t,m⟩:=tv b.r [59];refine⟨q,l,a,m.mono ?_⟩;rintro _ iQ ⟨rfl,h⟩;exact⟨rfl,_,_,_,(b.q t).nx h⟩
 ·have a:A=2:=by have:(A:Int)=2:=(by simpa using S);omega
  subst a;rw[aR X,aV rfl];refine(Dz N.r).mono ?_;rintro _ w ⟨q,rfl,h,e⟩;have c:=N.nx e;refine⟨q,rfl,_,rfl,g,_,_,_,rfl,c.nb,aaV,λt l b=>?_⟩;rw[oI]at b;exact⟨_,_,_,c.st (n':={n with en:=(mq ts (eu s)).1}) l b (c.no.amJ h N.lB λk hk=>N.no.mv.new hk)⟩
 have w:A≠1:=λe=>by rw[e]at T;simp at T
 have a:A=3:=by have:¬(A:Int)=2:=(by simpa using S);omega
 subst a;rw[aR X,aR X];refine(Dz N.r).mono ?_;rintro _ F ⟨t,rfl,l,h⟩;have c:=N.nx h;refine⟨t,rfl,_,rfl,g,_,_,_,rfl,c.nb,aaV,λB q b=>?_⟩;rw[oI]at b;exact⟨_,_,_,c.st (n':={n with lv:=(mq ts (eu s)).1}) q b (c.no.amK l N.lB λk hk=>N.no.mv.new hk)⟩
end
section
variable {F:aJ} {ts:List Tk} {w w' w2:M} {b:Nat} {l:Sl} {s s':Sx}
def Kp(i:Sr F ts w b l s)(k:Int):az Q 72 #[rp b,O U k] w λe w'=>e=ak (ah (od (fL ts k s).1.k (fL ts k s).1.nm [] [] Sl.nil Sl.nil Sl.nil Sl.nil (fL ts k s).1.a).toArray)/\Dn F ts w w' b l (fL ts k s).2:=by
 refine ret (aky _ _ ?_);intro m n o f d A j c;have t:=((i.zt.q c).ad f d).ad A j;obtain⟨ad,g,h⟩:=t.r.now;refine⟨λw'=>Zt F ts w w' b l (uN ts s) [n,m],λp a=>(zd a.r (k:=1) X).mono ?_,l,Blk.dM t.r.blk 0 rfl,_,Blk.dM t.r.blk 1 rfl,ad,g,_,h.dM 0 _ rfl,λhc q W=>?_,λhc r y=>?_⟩
 ·rintro _ w2 ⟨rfl,s⟩;have z:=a.nx s;refine⟨_,_,_,_,rfl,a.sc s aaV,λw G F E v C D u=>⟨λk=>k=w,rfl,λe=>u e,λe=>u e,λH l=>⟨rfl,?_⟩⟩⟩;have b:=z.q v;have B:=b.z.go l λx hx=>.inr acj;exact⟨B.o,b.r.own l λx hx=>b.lt acj⟩
 ·have hc:(tk ts s.i).k=1:=abv
  have e:=t.q W;unfold uN;rw[aV hc];refine(afF e.r).mono ?_;rintro _ w ⟨rfl,k⟩;have b:=e.nx k;refine⟨rfl,e.sc k aaV,_,Blk.dM b.r.blk 6 rfl,λhd=>?_,λhd=>?_⟩
  ·rw[aV (by simpa using hd)];refine(B3 b.r 21).mono ?_;rintro _ s ⟨rfl,l⟩;exact⟨rfl,b.sc l aaV,b.nx l⟩
  rw[aR (by simpa using hd)];exact b
 have hc:¬(tk ts s.i).k=1:=abv
 unfold uN;rw[aR hc];exact t.q y
def adq(F:aJ)(t:List Tk)(b:Nat)(l:Sl)(f:Nat)(d:Int):Prop:=∀(k:Int) (u:Sx) (w:M),Sr F t w b l u->u.d=d->az Q 111 #[rp b,O U k] w λe w'=>∃c,e=ak (ah c.toArray)/\mz L f w' (Fr w.heap.size) (pE t f k u).1 c/\Dn F t w w' b l (pE t f k u).2
def Vw{f:Nat}(h:0<f)(w:M)(G:aJ):mz L f w G RS (od 0 [] [] [] Sl.nil Sl.nil Sl.nil Sl.nil 0):=by
 obtain⟨m,rfl⟩:∃m,f=m+1:=⟨f-1,J⟩
 exact⟨_,_,_,_,rfl,⟨kx.nil _ _ _ _ _ _,kx.nil _ _ _ _ _ _,kx.nil _ _ _ _ _ _⟩,kx.nil _ _ _ _ _ _⟩
abbrev NdO(f B:Nat)(w:M)(s:Sl)(x:List Nd):Prop:=Own (mz L f) 9 27 B w (Fr B) s x
def FB{f B g t:Nat}{kq:aI}{b:Nb}{V lv mv j l:Sl}{acc:List Nd}{x:Nd}{k:Int}{s n d:aH}{a o p q:Sl}{at_:Int}{r:Nat}{A:M->Prop}{H:aJ}
  (hx:mz L f w H x (od k s n d a o p q at_)) (hH:∀i,H i->i<w.heap.size->Fr B i/\l.a≠aM ⟨i,0,aaf⟩) (E:∀i,H i->B<=i) (R:NdO f B w l (acc++[RS])) (hn:j.n=I acc)
  (xa:aF w g t (kq++od b.k b.nm b.ini b.dft V lv mv j b.a)) (hg:g<B) (fT:r<B) (v:r≠g)
  (hQ:∀w',aF w' g t (kq++od b.k b.nm b.ini b.dft V lv mv l b.a)->NdO f B w' l (acc++[x])->(∃c,B<=c/\Z [g,c] w w')->A w'):
  ∃G:Addr,cT l (j.n:Int) 9 G/\∃N:Addr,(aM (⟨g,I kq,aaf⟩:Addr))=(aM N)/\
   (∃f x:Nat,∃H:aI,∃TF:Nat,G=⟨f,x,aaf⟩/\aF w f TF H/\(x+9)<=I H/\r≠f/\
    ∀C:M,Z [f] w C->aF C f TF (fQ H x [O U k,K (T s),K (T n),K (T d),a.v,o.v,p.v,q.v,O U at_])->∃IM TH:Nat,∃z3:aI,∃am:Nat,(N.add 7)=⟨IM,TH,aaf⟩/\
    aF C IM am z3/\(TH+1)<=I z3/\r≠IM/\∀y:M,Z [IM] C y->aF y IM am (fQ z3 TH [l.v])->A y)/\
   ∃e t:Nat,∃z4:aI,∃XD:Nat,(N.add 7)=⟨e,t,aaf⟩/\aF w e XD z4/\(t+1)<=I z4/\r≠e/\
    ∀m:M,Z [e] w m->aF m e XD (fQ z4 t [l.v])->∃EN XE:Nat,∃z5:aI,∃aC:Nat,G=⟨EN,XE,aaf⟩/\
    aF m EN aC z5/\(XE+9)<=I z5/\r≠EN/\∀iR:M,Z [EN] m iR->aF iR EN aC (fQ z5 XE [O U k,K (T s),K (T n),K (T d),a.v,o.v,p.v,q.v,O U at_])->A iR:=by
 have W:j.n<I (acc++[RS]):=ab8
 have P:(acc++[RS]).set j.n x=acc++[x]:=by rw[hn,nB _ _ (aX _),lr];rfl
 obtain⟨c,cells,S,a2,a3,a4,a5⟩:=Own.store (cA L f) R W (vs:=od k s n d a o p q at_) rfl hx hH X;have h:=(R.blk S).1;dsimp only at h;refine⟨_,a2,_,rfl,⟨c,j.n*9,cells,_,rfl,a3,a4,J,λC F D=>⟨g,I kq+7,_,t,rfl,F.blk xa abK,aaV,v,λy iT Y=>?_⟩⟩,g,I kq+7,_,t,rfl,xa,aaV,v,λm z u=>?_⟩
 ·rw[oI]at Y;have a:=a5 C F D;rw[P]at a;exact hQ y Y (a.stay (cA L f) iT λx hx=>.inl abF) ⟨c,h,(F.weaken (bs':=[g,c]) λx hx=>.inl abJ).trans iT λx hx=>.inl abJ⟩
 rw[oI]at u;have cc:=z.size;have bV:NdO f B m l (acc++[RS]):=R.stay (cA L f) z λx hx=>.inl abF;have bY:mz L f m (λi=>H i/\i<w.heap.size) x (od k s n d a o p q at_):=(cA L f).keep ((cA L f).inHeap hx) λi hi W=>z.block i W (by have:=E i hi.1;simp only[aP];omega);obtain⟨t,aT,T,c2,c3,c4,c5⟩:=Own.store (cA L f) bV W (vs:=od k s n d a o p q at_) rfl bY (λi hi _=>hH i hi.1 hi.2) X;have e:t=c:=by
  rw[S]at T;injection T with T;injection T with T;exact T.symm
 subst e;refine⟨t,j.n*9,aT,_,rfl,c3,c4,J,λiR jR Yg=>?_⟩;have aS:=c5 iR jR Yg;rw[P]at aS;exact hQ iR (jR.blk u abK) aS ⟨t,h,(z.weaken (bs':=[g,t]) λx hx=>.inl abJ).trans jR λx hx=>.inl abJ⟩
structure Kd (F:aJ) (ts:List Tk) (w w':M) (b:Nat) (l:Sl) (g t:Nat) (kq:aI) (f B B2:Nat) (n:Nb) (en lv mv:Sl) (s:Sx) (acc:List Nd) (kids:Sl):Prop where
 r:Sr F ts w' b l s
 nb:aF w' g t (kq++od n.k n.nm n.ini n.dft en lv mv kids n.a)
 no:Hj L w' (λk=>B<=k/\k<B2) n en lv mv
 kd:NdO f B2 w' kids acc
 o:Z [b,g] w w'
 lB:B2<=w'.heap.size
section
variable {g t:Nat} {kq:aI} {f B B2:Nat} {n:Nb} {en lv mv kids:Sl} {acc:List Nd}
def Kd.nx(h:Kd F ts w w' b l g t kq f B B2 n en lv mv s acc kids)(S:g≠b)(c:b<B)(a:B<=B2)(k:Dn F ts w' w2 b l s'):Kd F ts w w2 b l g t kq f B B2 n en lv mv s' acc kids:=
 ⟨k.r,k.o.blk h.nb abK,h.no.keep λi d W=>k.o.block i W abK,h.kd.stay (cA L f) k.o λx hx=>.inl abF,
  h.o.trans k.o λx hx=>.inl abJ,bH h.lB k.o.size⟩
end
end
section
variable {F:aJ} {ts:List Tk} {w w' w2:M} {b:Nat} {l:Sl} {s s':Sx}
structure Cl0 (F:aJ) (ts:List Tk) (w w':M) (b:Nat) (l:Sl) (g t:Nat) (kq:aI) (kh B:Nat) (s:Sx) (n:Nb) (en lv mv:Sl):Prop where
 r:Sr F ts w' b l s
 nb:aF w' g t (kq++od n.k n.nm n.ini n.dft en lv mv Sl.nil n.a)
 no:NbO B w' n en lv mv
 o:∃gs,Z (b::g::kh::gs) w w'/\∀x,x∈gs->B<=x
 ng:g≠b/\¬F g
 nh:b<kh
 gh:g≠kh
 gB:g<B
 hB:kh<B
 lB:B<=w'.heap.size
section
variable {g t:Nat} {kq:aI} {kh B:Nat} {n:Nb} {h:S2} {en lv mv:Sl}
def Cl.c0(c:Cl F ts w w' b l g t kq kh B s n h en lv mv):Cl0 F ts w w' b l g t kq kh B s n en lv mv:=⟨c.r,c.nb,c.no,c.o,c.ng,c.nh,c.gh,c.gB,c.hB,c.lB⟩
def Cl0.cl(c:Cl0 F ts w w' b l g t kq kh B s n en lv mv)(a:aF w' kh 193 (R2 h)):Cl F ts w w' b l g t kq kh B s n h en lv mv:=⟨c.r,c.nb,a,c.no,c.o,c.ng,c.nh,c.gh,c.gB,c.hB,c.lB⟩
def Cl0.nx(c:Cl0 F ts w w' b l g t kq kh B s n en lv mv)(k:Dn F ts w' w2 b l s'):Cl0 F ts w w2 b l g t kq kh B s' n en lv mv:=by
 have i:=c.ng;have a:=c.gB;have j:=c.nh;have f:=c.hB;obtain⟨d,h,e⟩:=c.o;exact⟨k.r,k.o.blk c.nb abK,c.no.go k.o λx hx=>abF,
  ⟨d,h.trans k.o λx hx=>.inl abJ,e⟩,i,c.nh,c.gh,a,c.hB,bH c.lB k.o.size⟩
def Cl0.q(c:Cl0 F ts w w' b l g t kq kh B s n en lv mv)(k:Z [] w' w2):Cl0 F ts w w2 b l g t kq kh B s n en lv mv:=c.nx (c.r.dn.q k)
def Cl0.sc(c:Cl0 F ts w w' b l g t kq kh B s n en lv mv)(k:Dn F ts w' w2 b l s'):cr [kh] w' w2:=k.o.same λx h=>by
 have:=c.nh;have:=c.hB;have:=c.lB;simp only[aP]at h⊢;omega
def Cl0.sq(c:Cl0 F ts w w' b l g t kq kh B s n en lv mv)(k:Z [] w' w2):cr [kh] w' w2:=c.sc (c.r.dn.q k)
end
def Nc(n:Nb)(h:S2)(s:Sx):(fJ ts n h s).2.1.mv.length<=I n.mv+1:=by
 unfold fJ;split
 ·dsimp only;rw[aO,bI];omega
 split
 ·exact jW _
 ·split<;>exact jW _
 ·split<;>exact jW _
 split<;>exact jW _
def PO{f:Nat}(o:Sr F ts w b l s){g t:Nat}{kq:aI}{n:Nb}(IT:n.en=[])(Co:n.lv=[])(oS:n.mv=[])(hB:aF w g t (kq++od n.k n.nm n.ini n.dft Sl.nil Sl.nil Sl.nil Sl.nil n.a))(hg:g≠b/\¬F g)(hd:ub s.d)(hN:s.fc=0->0<f/\adq F ts b l f (BZ s.d)):
  az Q 75 #[rp b,ae (aM ⟨g,I kq,aaf⟩)] w λe w'=>e=ak (ai #[])/\∃z,aF w' g t (kq++z)/\mz L (f+1) w' (Fr w.heap.size) (vR ts (pE ts f) n s).1 z/\Z [b,g] w w'/\Sr F ts w' b l (vR ts (pE ts f) n s).2:=by
 refine ret (akB _ _ ?_);intro i w0 fT dZ cD;have S:=o.zt.al cD fT dZ;have bY:=hB.lt;have bV:=o.lb;refine⟨_,Blk.dM S.r.blk 6 rfl,b,6,_,_,rfl,S.r.blk,aaV,S.ne aaV,λY cE tK=>?_⟩;have W:Zt F ts w Y b l {s with d:=BZ s.d} [i]:=S.up cE tK o.lt;have aT:aF Y g t (kq++od n.k n.nm n.ini n.dft Sl.nil Sl.nil Sl.nil Sl.nil n.a):=cE.blk (cD.blk hB aaV) abK;have V:=W.z.o.size;have zk:=(W.z.k i aaV).2;generalize am:Y.heap.size=B at*
 have aS:g<B:=J
 have c1:Cl0 F ts w Y b l g t kq i B {s with d:=BZ s.d} n Sl.nil Sl.nil Sl.nil:=⟨W.r,aT,⟨by rw[IT];exact kx.nil _ _ _ _ _ _,by rw[Co];exact kx.nil _ _ _ _ _ _,by rw[oS];exact Own.nil _ _ _ _ _ _⟩,
  ⟨[],W.z.o.weaken λx hx=>.inl abJ,λx hx=>aev⟩,hg,J,J,aS,zk,Ou am.symm⟩
 have aC:b<B:=J
 unfold vR;dsimp only;generalize hC:mF ts (I ts+1) n ⟨aL,aL,aL⟩ {s with d:=BZ s.d}=C;have D:On ts {s with d:=BZ s.d} C.2:=by rw[<-hC];exact xR o.en _ _ _ _
 refine⟨λm b0 b1 b2 b3 w'=>∃(j:Nb) (hd:S2) (s':Sx) (c v mv:Sl),b0=aL/\b1=hd.i/\b2=hd.e/\b3=hd.l/\Cl0 F ts w w' b l g t kq i B s' j c v mv/\mF ts m j hd s'=C/\mu ts s'<m/\I j.mv+mu ts s'<=I ts,I ts+1,
  ⟨n,⟨aL,aL,aL⟩,_,_,_,_,rfl,rfl,rfl,rfl,c1,hC,yx (uO _ _),by rw[oS,bK,bS];exact uO _ _⟩,?_⟩
 rintro m _ _ _ _ w2 ⟨j,p,s',c,v,mv,rfl,rfl,rfl,rfl,E,h,N,Lw⟩;obtain⟨R,rfl⟩:∃R,m=R+1:=⟨m-1,J⟩
 rw[mF]at h;refine⟨λb4 b5 b6 b7 b8 w'=>(b4=L/\∃(j:Nb) (hd:S2) (s':Sx) (c v mv:Sl),b5=aL/\b6=hd.i/\b7=hd.e/\b8=hd.l/\Cl0 F ts w w' b l g t kq i B s' j c v mv/\mF ts R j hd s'=C/\mu ts s'<R/\I j.mv+mu ts s'<=I ts)∨
  (b4=aL/\∃(c v mv:Sl),Cl0 F ts w w' b l g t kq i B C.2 C.1 c v mv),?_,(ph E.r).mono ?_⟩
 rotate_left
 ·rintro _ b ⟨rfl,r⟩;have a:=E.q r;refine⟨_,rfl,E.sq r,λhc k=>?_,λhc=>?_⟩
  ·have hc:s'.fc=0:=abv
   rw[aR (by simp[hc])]at h;have s:=uO ts s';have f:=E.r.lt;have A:0<mu ts s':=by unfold mu;rw[aV hc];omega
   have u:=Nc (ts:=ts) j p s';refine(R3 (a.cl (h:=p) k) J).mono ?_;rintro _ n ⟨rfl,t,l,q,d⟩;refine⟨_,rfl,_,_,_,_,d.hb,?_⟩;cases e:(fJ ts j p s').1
   ·rw[aR (by rw[e];decide)]at h;refine .inr ⟨rfl,t,l,q,?_⟩;rw[<-h];exact d.c0
   rw[aV e]at h;have w:=RW o.en j p hc f e;exact .inl ⟨rfl,_,_,_,_,_,_,rfl,rfl,rfl,rfl,d.c0,h,J,J⟩
  have hc:s'.fc≠0:=abv
  rw[aV hc]at h;refine .inr ⟨rfl,c,v,mv,?_⟩;rw[<-h];exact a
 clear h N Lw E;rintro b4 b5 b6 b7 b8 w3 (⟨rfl,hh⟩ | ⟨rfl,c,v,mv,c3⟩)
 ·exact⟨λ_=>⟨R,Te _,hh⟩,λhh=>(by cases hh)⟩
 refine⟨λhh=>(by cases hh),λ_=>?_⟩;generalize C.1=n1 at*
 generalize C.2=s1 at*
 have gE:B<=w3.heap.size:=c3.lB;have f7:Hj L w3 (λk=>B<=k/\k<w3.heap.size) n1 c v mv:=
  ⟨(c3.no.en.inHeap (dy L) X).mono (dy L) λk hk=>⟨hk.1.1,hk.2⟩,(c3.no.lv.inHeap (dy L) X).mono (dy L) λk hk=>⟨hk.1.1,hk.2⟩,(c3.no.mv.sl (mr L) λk hk=>hk).inHeap (mr L) X⟩
 obtain⟨iD,o3,f8⟩:=c3.o;have o3:Z [b,g] w w3:=o3.weaken λx hx=>by
  simp only[aY]at hx;rcases hx with rfl | rfl | rfl | hx
  ·exact .inl aaV
  ·exact .inl aaV
  ·exact .inr fT
  exact .inr (bH V (f8 x hx))
 have k3:Kd F ts w w3 b l g t kq f B w3.heap.size n1 c v mv s1 [] Sl.nil:=⟨c3.r,c3.nb,f7,Own.nil _ _ _ _ _ _,o3,aX _⟩
 generalize nj:w3.heap.size=B2 at*
 clear c3 f7 o3 f8 hC;generalize hK:yS ts (pE ts f) (I ts+1) [] s1=gG;have sk:∀{u u':M} {x y:Sx},B2<=u.heap.size->Dn F ts u u' b l y->cr [i] u u':=λhz k=>k.o.same λx hx=>by
  simp only[aP]at hx⊢;omega
 have Yh:∀{u u':M} {x y:Sx} {cc:List Nd} {kids:Sl},Kd F ts w u b l g t kq f B B2 n1 c v mv x cc kids->Dn F ts u u' b l y->Kd F ts w u' b l g t kq f B B2 n1 c v mv y cc kids:=λa k=>a.nx hg.1 aC gE k;have go:∀{u:M} {x:Sx} {cc:List Nd} {kids:Sl},Kd F ts w u b l g t kq f B B2 n1 c v mv x cc kids->∃(q:Sl) (u2:M),(au 32 4 #[.mk 0 (K (ao #[115,116,97,116,101])),.mk 1 (K (ao #[112,97,114,97,108,108,101,108])),.mk 2 (K (ao #[104,105,115,116,111,114,121])),.mk 3 (K (ao #[100,101,101,112]))]).run Q u=.ok q.v u2/\cr [i] u u2/\az Q 109 #[rp b,q.v] u2 λe u3=>e=ak (O U (dE ts x uo:Nat))/\cr [i] u2 u3/\Kd F ts w u3 b l g t kq f B B2 n1 c v mv x cc kids:=fun{u x cc kids} a=>by
  obtain⟨q,u2,e1,e,f⟩:=PK a.r uo (n:=4) (parts:=#[(0,K (T Dd)),(1,K (T sY)),(2,K (T vQ)),(3,K (T JZ))]) rfl rfl X X;have b:=Yh a (a.r.dn.q e);refine⟨q,u2,e1,sk (x:=x) a.lB (a.r.dn.q e),f.mono ?_⟩;rintro _ u3 ⟨rfl,d⟩;exact⟨rfl,sk (x:=x) b.lB (b.r.dn.q d),Yh b (b.r.dn.q d)⟩
 obtain⟨q,w4,e1,Et,eQ⟩:=go k3;refine⟨q,w4,e1,Et,eQ.mono ?_⟩;rintro _ w5 ⟨rfl,Rf,k5⟩;refine⟨_,rfl,Rf,λm i2 _ _ _ _ w'=>∃(s':Sx) (cc:List Nd) (kids:Sl),i2=((dE ts s' uo:Nat):Int)/\Kd F ts w w' b l g t kq f B B2 n1 c v mv s' cc kids/\yS ts (pE ts f) m cc s'=gG/\mu ts s'<m/\I cc+mu ts s'<=I ts/\s'.d=BZ s.d/\(s'.fc=0->s.fc=0),I ts+1,
  ⟨s1,[],Sl.nil,rfl,k5,hK,yx (uO _ _),agz,D.d,λe=>(D.le e).1⟩,?_⟩
 clear Rf k5 eQ Et e1 k3 hK;rintro m _ b9 gO gT ip w6 ⟨s',cc,kids,rfl,k6,h,N,Lw,co,fd⟩;obtain⟨m',rfl⟩:∃m',m=m'+1:=⟨m-1,J⟩
 rw[yS]at h;have cC:i≠b:=S.ne aaV;have dO:i≠g:=J
 refine⟨λhc=>?_,λhc=>?_⟩
 ·have hc:=R1 hc;rw[aR hc]at h;obtain⟨T,rk⟩:=dT hc;obtain⟨lT,iS⟩:=hN (fd T);have a:=k6.r.lt;refine⟨_,Blk.dM k6.r.blk 1 rfl,b,1,_,_,rfl,k6.r.blk,aaV,cC,λw7 gq C=>?_⟩;rw[k6.r.wr]at C;have k7:=Yh k6 (y:=eu s') ⟨gq,k6.r.kY gq C (DA k6.r hc)⟩;have wo:=o.sm;have mt:=uO ts s';have Zs:=Pw o.en f (dE ts s' uo:Nat) (eu s') (by show ub s'.d;rw[co];exact T4 _);have oR:=rG o.en T a rk Zs.toOn0;generalize dE ts s' uo=kk at*
  generalize lE:pE ts f (kk:Int) (eu s')=d at*
  have iF:d.2.d=BZ s.d:=Zs.d.trans co;have iN:d.2.fc=0->s.fc=0:=λe=>fd (Zs.le e).1;refine⟨λ_ _ _ _ w'=>∃iE,Kd F ts w w' b l g t kq f B B2 n1 c v mv d.2 (cc++[d.1]) iE,λmK nO oF oN w8 h8=>?_,λn eh=>?_⟩
  ·obtain⟨iE,k⟩:=h8;obtain⟨q,w,e1,s,b⟩:=go k;refine⟨q,w,e1,s,b.mono ?_⟩;rintro _ A ⟨rfl,e,f⟩;exact⟨_,rfl,e,m',Te _,_,_,_,rfl,f,h,J,ab8,iF,iN⟩
  have s:=Yh k7 (k7.r.dn.q eh);have Cj:=s.lB;have AI:∀{u:M},Sr F ts u b l (eu s')->az Q 111 #[rp b,O U (kk:Int)] u λe w'=>∃z,e=ak (ah z.toArray)/\mz L f w' (Fr u.heap.size) d.1 z/\Dn F ts u w' b l d.2:=λhu=>by
   have:=iS (kk:Int) (eu s') _ hu co;rw[lE]at this;exact this
  have F7:∀{u u':M} {bs:List Nat},Z bs u u'->(∀x,x∈bs->x≠g)->bR (λk=>k=g) u u':=λhO hb k hk a=>by subst hk;exact hO.block k a λq=>hb k q rfl
  have zc:Value.cells (ah (od 0 [] [] [] Sl.nil Sl.nil Sl.nil Sl.nil 0).toArray)=(od 0 [] [] [] Sl.nil Sl.nil Sl.nil Sl.nil 0).toArray:=rfl;have hz:∀(u:M),∃(y:Sl) (u2:M),(au 25 1 #[.mk 0 (ah (od 0 [] [] [] Sl.nil Sl.nil Sl.nil Sl.nil 0).toArray)]).run Q u=.ok y.v u2/\Own (mz L f) 9 27 u.heap.size u2 (λ_=>False) y [RS]/\Z [] u u2:=λu=>by
   obtain⟨y,u2,b,k,l,_⟩:=ju (P:=Q) (t:=25) (e:=27) (i:=Tryz.t27) (w:=u) (F:=λ_=>False) (r:=mz L f) (size:=9) (vs:=[ah (od 0 [] [] [] Sl.nil Sl.nil Sl.nil Sl.nil 0).toArray]) (xs:=[RS]) (len:=1) (parts:=#[(0,ah (od 0 [] [] [] Sl.nil Sl.nil Sl.nil Sl.nil 0).toArray)]) aaz aaz rfl rfl X rfl rfl X X (cA L f) ⟨⟨rfl,Vw lT _ _⟩,trivial⟩;exact⟨y,u2,b,k,l⟩
  have pP:∀{u:M} {y:Sl} {A:Nat},B2<=A->NdO f B2 u kids cc->(∀k,A<=k->kids.a≠aM ⟨k,0,aaf⟩)->aA (mz L f) 9 u (Fr A) y [RS]->A<=u.heap.size->∃(s8:Sl) (u2:M),(Builtin.append_ #[25,25] 25 #[kids.v,y.v]).run Q u=.ok s8.v u2/\NdO f B2 u2 s8 (cc++[RS])/\(∃gs,Z gs u u2/\∀x,x∈gs->B2<=x/\x<A)/\(∀k,A<=k->k<u.heap.size->s8.a≠aM ⟨k,0,aaf⟩):=fun{u y A} hA ho hk hy hAu=>by
   obtain⟨s8,u2,u,w,gs,A,l,b⟩:=rv (P:=Q) (t:=25) (ty:=25) (e:=27) (i:=Tryz.t27) (bytes:=160) (size:=9) (y:=y) (ys:=[RS]) aaz aaz rfl rfl rfl rfl (cA L f) ho (hy.mono (cA L f) λk r=>⟨bH hA r,hk k r⟩) (bH hA hAu) aeJ X;refine⟨s8,u2,u,w,⟨gs,A,λx hx=>⟨(l x hx).2.1,?_⟩⟩,λk h1 h2=>?_⟩
   ·exact AW λe=>hk x e (l x hx).1
   rcases b with b | b
   ·rw[b];exact hk k h1
   rw[b];intro e;injection e with e;injection e with e;omega
  have pm:∀{u:M} {s8:Sl},Sr F ts u b l d.2->aF u g t (kq++od n1.k n1.nm n1.ini n1.dft c v mv kids n1.a)->Hj L u (λk=>B<=k/\k<B2) n1 c v mv->Z [b,g] w u->B2<=u.heap.size->NdO f B2 u s8 (cc++[RS])->∀w',aF w' g t (kq++od n1.k n1.nm n1.ini n1.dft c v mv s8 n1.a)->NdO f B2 w' s8 (cc++[d.1])->(∃gk,B2<=gk/\Z [g,gk] u w')->∃iE,Kd F ts w w' b l g t kq f B B2 n1 c v mv d.2 (cc++[d.1]) iE:=λhr xa rx ho hz _ w' h1 h2 ⟨gk,h3,h4⟩=>
   ⟨_,hr.Xs h4 λx hx=>(by
    simp only[aY,bA,cf]at hx;rcases hx with rfl | rfl
    ·exact hg
    ·exact hr.gt J),h1,rx.keep λpi b a=>h4.block pi a (by simp only[aY,bA,cf];omega),h2,ho.trans h4 λx hx=>by
    simp only[aY,bA,cf]at hx⊢;omega,bH hz h4.size⟩
  refine⟨λk=>k=g,_,rfl,rfl,kids,s.nb.at0 (I kq+7) (PN rfl),(AI s.r).mono ?_,?_⟩
  ·rintro _ P ⟨z,rfl,hx,t⟩;have w:=Yh s t;have Ir:=hx;obtain⟨f',rfl⟩:∃f',f=f'+1:=⟨f-1,J⟩
   obtain⟨xe,xl,xm,xk,rfl,_⟩:=Ir;obtain⟨y,fj,e2,hy,b⟩:=hz P;have r:=Yh w (w.r.dn.q b);obtain⟨s8,fU,e3,G,⟨gs,e,xG⟩,F⟩:=pP (u:=fj) (y:=y) (A:=n.heap.size) Cj r.kd (λk hk=>s.kd.new hk) ((hy.slice (cA L _)).mono (cA L _) λk hk=>(by
    rcases hk with hk | hk
    ·exact hk.elim
    exact bH t.o.size hk.1)) (bH t.o.size b.size)
   have l:∀x,x∈gs->x≠g:=λx hx=>adZ
   have XN:=e.size;have SX:=r.lB;have tO:=t.o.size;refine⟨_,_,_,_,xe,xl,xm,xk,_,rfl,sk (x:=s') s.lB t,F7 t.o abK,y,fj,e2,sk (x:=s') w.lB (w.r.dn.q b),F7 b aaV,s8,fU,e3,e.same (λx hx=>?_),F7 e l,?_⟩
   ·simp only[aP]at hx;subst hx;exact⟨J,λq=>by have:=(xG x q).1;omega⟩
   refine FB (H:=λk=>n.heap.size<=k/\k<P.heap.size) (acc:=cc) ?_ (λk hk _=>⟨bH Cj hk.1,F k hk.1 (cH hk.2 b.size)⟩) (λk hk=>bH Cj hk.1) G s.kd.len (e.blk r.nb λq=>l g q rfl) J J dO (pm (r.r.own e λx hx=>adZ) (e.blk r.nb λq=>l g q rfl) (r.no.keep λpi f a=>e.block pi a λq=>(by have:=(xG pi q).1;omega)) (r.o.trans e λx hx=>.inr (by have:=(xG x hx).1;have:=s.o.size;omega)) (bH SX XN) G);refine(cA L _).keep ((cA L _).inHeap hx) λk hk a=>?_;exact(e.block k (cH a b.size) λq=>by have:=(xG k q).2;have:=hk.1;omega).trans (b.block k a aaV)
  obtain⟨y,kf,e2,hy,r⟩:=hz n;have w:=Yh s (s.r.dn.q r);refine⟨y,kf,e2,sk (x:=s') s.lB (s.r.dn.q r),F7 r aaV,(AI w.r).mono ?_⟩;rintro _ iU ⟨z,rfl,hx,l⟩;have b:=Yh w l;have Ir:=hx;obtain⟨f',rfl⟩:∃f',f=f'+1:=⟨f-1,J⟩
  obtain⟨xe,xl,xm,xk,rfl,_⟩:=Ir;have F:=(((hy.slice (cA L _)).inHeap (cA L _) X).keep (cA L _) X (w':=iU) λk hk a=>l.o.block k a (by
   rcases hk.1 with hk | hk
   ·exact hk.elim
   ·have:=hk.1;simp only[aP];omega)).mono (cA L _) (G:=Fr n.heap.size) λk hk=>(by
   rcases hk.1 with hk | hk
   ·exact hk.elim
   exact hk.1)
  obtain⟨s8,kZ,e3,Oh,⟨gs,t,xG⟩,P⟩:=pP (u:=iU) (y:=y) (A:=n.heap.size) Cj b.kd (λk hk=>s.kd.new hk) F (bH r.size l.o.size);have e:∀x,x∈gs->x≠g:=λx hx=>adZ
  have uP:=t.size;have ut:=b.lB;have wd:=r.size;refine⟨_,_,_,_,xe,xl,xm,xk,_,rfl,sk (x:=s') w.lB l,F7 l.o abK,s8,kZ,e3,t.same (λx hx=>?_),F7 t e,?_⟩
  ·simp only[aP]at hx;subst hx;exact⟨J,λq=>by have:=(xG x q).1;omega⟩
  refine FB (H:=λk=>kf.heap.size<=k/\k<iU.heap.size) (acc:=cc) ?_ (λk hk _=>⟨by show B2<=k;omega,P k J hk.2⟩) (λk hk=>J) Oh s.kd.len (t.blk b.nb λq=>e g q rfl) J J dO (pm (b.r.own t λx hx=>adZ) (t.blk b.nb λq=>e g q rfl) (b.no.keep λpi f a=>t.block pi a λq=>(by have:=(xG pi q).1;omega)) (b.o.trans t λx hx=>.inr (by have:=(xG x hx).1;have:=s.o.size;omega)) (bH ut uP) Oh);refine(cA L _).keep ((cA L _).inHeap hx) λk hk a=>?_;exact t.block k a λq=>by have:=(xG k q).2;have:=hk.1;omega
 have hc:=R0 hc;rw[aV hc]at h;refine⟨_,Blk.dM k6.r.blk 6 rfl,b,6,_,_,rfl,k6.r.blk,aaV,cC,λA r t=>?_⟩;have a:=Yh k6 (y:={s' with d:=inc s'.d}) ⟨r,k6.r.kY r t k6.r.lt⟩;obtain⟨q,w,e1,s,u⟩:=tv a.r [125];have n:=Yh a (a.r.dn.q s);refine⟨q,w,e1,sk (x:=s') a.lB (a.r.dn.q s),u.mono ?_⟩;rintro _ C ⟨rfl,l⟩;have e:=Yh n l;refine⟨rfl,sk (x:=s') n.lB l,rfl,_,e.nb,?_,e.o,?_⟩
 ·rw[<-h];refine⟨c,v,mv,kids,rfl,e.no.mono λk hk=>bH V hk.1,(e.kd.sl (cA L f) λk hk=>hk).low (cA L f) J⟩
 rw[<-h];exact e.r
end
def Tk.Good(t:Tk):Prop:=(t.k=2->∃c r,t.t=c::r/\fk c=L)/\(t.k=4->∃c r,t.t=c::r/\fk c=aL)/\0<=t.n/\t.n<=9223372036854775807
def Vx{m:aH}{q:Tq}(h:nq m=.ok q):q.1≠5/\∀a,Tk.Good ⟨q.1,q.2.1,q.2.2.1,a⟩:=by
 cases m with
 | nil=>cases h
 | cons c r=>
  simp only[nq]at h;split at h
  ·rename_i b;unfold pz at h;split at h
   ·cases h
   injection h with h;subst h;have w:fk c=L:=by unfold fk;rw[b];rfl
   refine⟨by dsimp only;split<;>decide,λa=>⟨λ_=>?_,λd=>?_,ab0,ab0⟩⟩
   ·dsimp only;rw[dD,aV w];exact⟨c,_,rfl,w⟩
   dsimp only at d;split at d<;>exact absurd d X
  rename_i hl;split at h
  ·rename_i c;unfold uV at h;split at h
   ·cases h
   split at h
   ·cases h
   injection h with h;subst h;refine⟨ab0,λa=>⟨λh=>absurd h ab0,λh=>absurd h ab0,abQ,?_⟩⟩;dsimp only;unfold fR;split
   ·dsimp only;decide
   split
   ·dsimp only;decide
   split
   ·dsimp only;omega
   dsimp only;decide
  rename_i hd;unfold qh at h;split at h
  ·cases h
  rename_i s;injection h with h;subst h;refine⟨ab0,λa=>⟨λh=>absurd h ab0,λ_=>?_,ab0,ab0⟩⟩;obtain⟨n,b⟩:∃n,jA (c::r)=n+1:=⟨jA (c::r)-1,J⟩
  dsimp only;rw[b,eJ];refine⟨c,_,rfl,?_⟩;unfold fk;rw[dq];exact⟨agS,by simpa using hd⟩
def Kq{l:aH}:∀(n i:Nat),i<=(I l)->(I l)-i<=n->∀r,lG l i=.ok r->∃(fr:List Tk) (a:Int),r=fr++[⟨5,[],0,a⟩]/\(∀t,t∈fr->t.k≠5/\t.Good)/\I r<=(I l)-i+1
 | n,i,c,b,r,h=>by
  rw[ni c]at h;split at h
  ·injection h with h;exact⟨[],_,h.symm,λt a=>(by cases a),by rw[<-h,bI];omega⟩
  split at h
  ·cases h
  rename_i q d;have g:=wM d;have f:=C6 d;rw[cG]at f;split at h
  ·cases h
  rename_i k j;injection h with h;subst h
  match n,b with
  | 0,b=>omega
  | n+1,b=>
   obtain⟨fr,a,e,p,q⟩:=Kq n _ J J _ j;have o:=Vx d;refine⟨_::fr,a,by rw[e];rfl,λt m=>?_,by rw[ba];omega⟩;rcases aY.1 m with rfl | m
   ·exact⟨o.1,o.2 _⟩
   exact p t m
def aaF{fr:List Tk}{a:Int}(b:∀t,t∈fr->t.k≠5):xj (fr++[⟨5,[],0,a⟩]):=λi c=>by
 rw[aO,bI]at c;unfold tk;by_cases h:i<I fr
 ·rw[bX h,bh h,jc,aO,bI];exact⟨λe=>absurd e (b _ (kb h)),λe=>J⟩
 have e:i=I fr:=J
 subst e;rw[cd (aX _),lr,aO,bI];exact⟨λ_=>rfl,λ_=>rfl⟩
def PQ{l:aH}:∀(n i:Nat),i<=(I l)->(I l)-i<=n->∀x,lG l i=.error x->x.1≠0
 | n,i,b,a,x,h=>by
  rw[ni b]at h;split at h
  ·cases h
  split at h
  ·rename_i e q;injection h with h;subst h;exact G5 q
  rename_i q c;have e:=wM c;have d:=C6 c;rw[cG]at d;split at h
  ·rename_i y f;injection h with h;subst h
   match n,a with
   | 0,a=>omega
   | n+1,a=>exact PQ n _ J J _ f
  cases h
def Nf{l:aH}(h:(dl l).2.1=0):xj (dl l).1/\(∀t,t∈(dl l).1->t.Good)/\0<(dl l).1.length/\(dl l).1.length<=16385:=by
 unfold dl at h⊢;split at h
 ·cases h
 rename_i b;rw[aR b];cases r:lG l 0 with
 | error x=>
  rw[r]at h;exact absurd h (PQ (I l) 0 (bm _) J _ r)
 | ok d=>
  obtain⟨fr,a,e,f,n⟩:=Kq (I l) 0 (bm _) J d r;dsimp only;subst e;refine⟨aaF λt c=>(f t c).1,λt c=>?_,ab8,J⟩;rcases cj.1 c with c | c
  ·exact(f t c).2
  simp only[aP]at c;subst c;exact⟨λh=>absurd h ab0,λh=>absurd h ab0,ab0,ab0⟩
section
variable {F:aJ} {ts:List Tk} {w w' w2:M} {b:Nat} {l:Sl} {s s':Sx}
def PR:∀(f:Nat) (d:Int),0<=d->d<f->d<=9223372036854775807->adq F ts b l f d
 | 0,d,h,a,_=>J
 | f+1,d,h0,h1,C=>by
  intro k u w c hd;refine iW (akT _ _ ?_);intro a w0 T B D;have t:=c.zt.al D T B;refine(Kp t.r k).mono ?_;rintro _ w1 ⟨rfl,h⟩;have g:=t.nx h;have z:=Dh c.en k u;have e:=aav (ts:=ts) (k:=k) (s:=u);rw[pE];have xa:(fL ts k u).1.ini=[]/\(fL ts k u).1.dft=[]/\(fL ts k u).1.en=[]/\(fL ts k u).1.lv=[]/\(fL ts k u).1.mv=[]:=⟨rfl,rfl,rfl,rfl,rfl⟩
  generalize fL ts k u=N at*
  obtain⟨G,v⟩:=N;dsimp only at*
  obtain⟨i,j,l,o,p⟩:=xa;obtain⟨P,m,W,X,H,V,Y,F⟩:=G;dsimp only at i j l o p;subst i j l o p;dsimp only at*
  refine⟨_,_,_,_,Sl.nil,Sl.nil,Sl.nil,Sl.nil,_,rfl,t.sc h aaV,λhc k1 w2 E S R=>?_,λhc r dA qF rn A=>?_⟩
  ·rw[aV abL];have f:=g.al R E S;obtain⟨q,w3,b,s,d⟩:=tv f.r [45,62];have t3:=f.q s;refine⟨q,w3,b,f.sq s aaV,d.mono ?_⟩;rintro _ w4 ⟨rfl,x⟩;have k:=t3.nx x;refine⟨rfl,t3.sc x aaV,(ze k.r).mono ?_⟩;rintro _ w5 ⟨rfl,y⟩;have t5:=k.nx y;refine⟨_,rfl,k.sc y aaV,λw6 dY=>?_⟩;have n:=t5.f dY aaV;obtain⟨q,w7,b,w,d⟩:=tv n.r [59];have t7:=n.q w;refine⟨q,w7,b,n.sq w aaV,d.mono ?_⟩;rintro _ w8 ⟨rfl,h8⟩;have t8:=t7.nx h8;refine⟨rfl,t7.sc h8 aaV,λw9 gp=>⟨_,rfl,⟨Sl.nil,Sl.nil,Sl.nil,Sl.nil,rfl,⟨kx.nil _ _ _ _ _ _,kx.nil _ _ _ _ _ _,kx.nil _ _ _ _ _ _⟩,kx.nil _ _ _ _ _ _⟩,(t8.f gp aaV).dn⟩⟩
  rw[aR abO];have am:=g.al A qF rn;obtain⟨q,dL,e1,eh,hm⟩:=tv am.r [123];have aT:=am.q eh;refine⟨q,dL,e1,am.sq eh aaV,hm.mono ?_⟩;rintro _ ez ⟨rfl,EY⟩;have k:=aT.nx EY;have aC:=jD (s:=v) c.en [123];refine⟨rfl,aT.sc EY aaV,λhB _=>?_⟩;have aS:(fu ts v [123]).d=d:=aC.d.trans (z.d.trans hd);refine(PO (f:=f) k.r (kq:=[]) (n:=⟨P,m,[],[],[],[],[],F⟩) rfl rfl rfl hB (k.r.gt (k.lt aaV)) (by rw[aS];exact⟨J,C⟩) (λhf=>?_)).mono ?_
  ·have b:=e (aC.le hf).1;rw[hd]at b;have n:BZ d=d-1:=by unfold BZ;rw[fe J J]
   rw[aS,n];exact⟨J,PR f (d-1) J J J⟩
  rintro _ fj ⟨rfl,cs,wv,hx,n,d⟩;have q:=hx;obtain⟨xe,xl,xm,xk,rfl,_⟩:=q;have s:Fz [b] w fj [r,a]:=k.z.go n λx hx=>acj
  have l2:=k.lt (k0:=r) aaV;have l0:=k.lt (k0:=a) aaV;have bV:=(g.z.k a aaV).2;refine⟨rfl,k.z.sm n aaV (λx hx=>?_),_,_,_,_,xe,xl,xm,xk,_,wv,λfU f LD=>⟨_,rfl,?_,?_⟩⟩
  ·simp only[aY,bA,cf]at hx;rcases hx with rfl | rfl
   ·exact .inl aaV
   exact .inr λy hy=>adX
  ·refine(cA L _).low ((cA L _).stay hx ((Stay.refl _ _).f f (.inl ?_))) k.z.o.size;have:=(k.z.k a aaV).2;exact this
  exact⟨(s.f f aaV).o,d.one f l0⟩
def afJ(o:Sr F ts w b l s)(p:∀t,t∈ts->t.Good):az Q 74 #[rp b] w λe w'=>e=ak (ah #[K (T (xQ ts s).1.n),O U (xQ ts s).1.v,O U (xQ ts s).1.a])/\Dn F ts w w' b l (xQ ts s).2:=by
 refine ret (akA _ ?_);intro r v i h D;have a:=o.zt.al D i h;obtain⟨ad,j,m⟩:=a.r.now;unfold xQ;dsimp only;generalize g:(if(tk ts s.i).k=1 then JX ts s else s)=c;refine⟨λw'=>Zt F ts w w' b l c [r],λy f=>(zd f.r (k:=1) X).mono ?_,l,Blk.dM a.r.blk 0 rfl,_,Blk.dM a.r.blk 1 rfl,ad,j,_,m.dM 0 _ rfl,λhc z d=>?_,λhc u S=>?_⟩
 ·rintro _ w2 ⟨rfl,H⟩;have t2:=f.nx H;refine⟨_,_,_,_,rfl,f.sc H aaV,λk1 w3 mA jS di=>?_⟩;have B:=t2.al di mA jS;obtain⟨q,w4,l,W,s⟩:=tv B.r [61];have V:=B.q W;refine⟨q,w4,l,B.sq W aaV,s.mono ?_⟩;rintro _ w5 ⟨rfl,N⟩;have C:=V.nx N;refine⟨rfl,V.sc N aaV,?_⟩;obtain⟨q,w6,l,Y,s⟩:=FA C.r [[45]] (n:=1) (parts:=#[(0,K (T [45]))]) rfl rfl X X;have t6:=C.q Y;refine⟨q,w6,l,C.sq Y aaV,s.mono ?_⟩;rintro _ w7 ⟨rfl,P⟩;have E:=t6.nx P;generalize A:dE ts (fu ts (jC ts c 1).2 [61]) [[45]]=b at*
  have am:b<=1:=by rw[<-A];exact Kb _
  refine⟨_,rfl,t6.sc P aaV,(zd E.r (k:=3) X).mono ?_⟩;rintro _ w8 ⟨rfl,R⟩;have F:=E.nx R;refine⟨_,_,_,_,rfl,E.sc R aaV,?_⟩;obtain⟨q,w9,l,G,s⟩:=tv F.r [59];have t9:=F.q G;refine⟨q,w9,l,F.sq G aaV,s.mono ?_⟩;rintro _ dA ⟨rfl,vp⟩;refine⟨rfl,t9.sc vp aaV,λdL eh=>⟨?_,((t9.nx vp).f eh aaV).dn⟩⟩;have hn:∀w:Sx,0<=(jC ts w 3).1.n/\(jC ts w 3).1.n<=9223372036854775807:=λw=>by
   unfold jC;split
   ·exact⟨jm 0,(by decide:(0:Int)<=9223372036854775807)⟩
   unfold tk;rcases hx:ts[w.i]? with _|t
   ·exact⟨jm 0,(by decide:(0:Int)<=9223372036854775807)⟩
   exact(p t (bB hx)).2.2
  obtain⟨n0,n1⟩:=hn (if b=0 then fu ts (jC ts c 1).2 [61]else eu (fu ts (jC ts c 1).2 [61]));generalize (jC ts (if b=0 then fu ts (jC ts c 1).2 [61]else eu (fu ts (jC ts c 1).2 [61])) 3).1.n=x at*
  have e:ar U ((ar U (1-(ar U (2*(b:Int)))))*x)=if b=0 then x else ar U (-x):=by
   rcases(by omega:b=0∨b=1)with rfl | rfl
   ·rw[aV rfl];show ar U (1*x)=x;rw[Int.one_mul,fe J J]
   rw[aR X];show ar U (-1*x)=_;rw[Int.neg_one_mul]
  rw[e]
 ·refine(afG (a.q d).r).mono ?_;rintro _ e ⟨rfl,b⟩;refine⟨rfl,(a.q d).sc b aaV,?_⟩;rw[<-g,aV abv];exact(a.q d).nx b
 rw[<-g,aR abv];exact a.q S
end
def ads(w:M)(F:aJ):ChR L 15 w F ch0 Sl.nil (od 0 [] [] [] Sl.nil Sl.nil Sl.nil Sl.nil 0):=⟨kx.nil _ _ _ _ _ _,Vw X _ _⟩
def ChR.stay{d:Nat}{w b:M}{B:Nat}{c:Ch}{v:Sl}{s:aI}(h:ChR L d w (Fr B) c v s)(a:Stay B w b):ChR L d b (Fr B) c v s:=⟨h.vars.stay fh X a,(cA L d).stay h.root a⟩
def ChR.low{d:Nat}{w:M}{A B:Nat}{c:Ch}{v:Sl}{s:aI}(h:ChR L d w (Fr B) c v s)(a:A<=B):ChR L d w (Fr A) c v s:=⟨h.vars.low fh a,(cA L d).low h.root a⟩
def afK{t:List Tk}(h:xj t){s:Sx}{a:List (aH)}(i:s.i<I t)(w:dE t s a≠0):mu t (xQ t (eu s)).2<mu t s:=
 rG h (dT w).1 i (dT w).2 (Vf h (eu s)).toOn0
def Kr{w:M}(l:aH)(S:Er w):az Q 40 #[K (T l)] w λe c=>
  ∃(N:Sl) (s:aI),e=ak (ai #[ah (N.v::s).toArray,ah #[O U (fM l).2.1,O U (fM l).2.2]])/\ChR L 15 c (Fr w.heap.size) (fM l).1 N s/\Z [] w c:=by
 refine iW (akk _ ?_);generalize h:fM l=P;unfold fM at h;intro m o p fT dZ mA jS D;have z0:=D.size;refine(JK l (S.only D)).mono ?_;rintro _ g ⟨r,rfl,C,E⟩;have z1:=E.size;have H:=D.cn E;have j:=Nf (l:=l);have u:∀{A B:M},Z [] g A->Z [o,m] A B->Z [] w B:=λR z=>((H.cn R).trans z λx hx=>.inr abH)
 refine⟨r,_,_,rfl,E.same aba,λhc Y A qF rn R n1 n2 n3=>⟨λk=>k=Y,rfl,λe=>n2 e,λe=>n3 e,λB z=>?_⟩,λhc k3 a b w4 xF sA uT AN rk Eb W=>?_⟩
 ·have hc:(dl l).2.1≠0:=abv
  rw[aV hc]at h;subst h;exact⟨Sl.nil,_,rfl,ads _ _,u R z⟩
 have hc:(dl l).2.1=0:=abv
 obtain⟨aT,Zp,gO,fi⟩:=j hc;rw[aR abv]at h;have gT:=((C.sl.inHeap iX X).mono iX (G:=λk=>p.heap.size<=k/\k<g.heap.size) λk hk=>⟨hk.1.1,hk.2⟩)
 generalize (dl l).1=ts at*
 clear j C;have z4:=W.size;obtain⟨q,w5,e1,hq,eW⟩:=kl w4 [gA] (n:=1) (parts:=#[(0,K (T gA))]) rfl rfl X X;have z5:=eW.size;refine⟨q,w5,e1,eW.same aba,λu7 AS AT Bv eQ=>?_⟩;have r5:Sr (λk=>p.heap.size<=k/\k<g.heap.size) ts w5 a r LQ:=⟨u7,SliceF.only iX X gT (W.cn eW) aaV,λk hk=>ab9,aT,gO,J⟩
 have Q2:∀k,(λk=>p.heap.size<=k/\k<g.heap.size) k->k<g.heap.size:=λk hk=>hk.2;generalize (λk=>p.heap.size<=k/\k<g.heap.size)=F at*
 have gG:Z [] w w5:=(H.cn W).cn eW;have sm:∀{aC u':M} {x:Sx},w5.heap.size<=aC.heap.size->Dn F ts aC u' a r x->cr [m,o,k3,b] aC u':=λhz d=>d.o.same (by
  intro x hx;simp only[aY,bA,cf]at hx⊢;omega)
 have sq:∀{aC u':M},w5.heap.size<=aC.heap.size->Z [] aC u'->cr [m,o,k3,a,b] aC u':=λhz bY=>bY.same λx hx=>⟨by
  simp only[aY,bA,cf]at hx;omega,aaV⟩
 have oD:∀{aC u':M} {x:Sx},Z [] w aC->Dn F ts aC u' a r x->Z [] w u':=λbY d=>bY.trans d.o λx hx=>.inr abF;have o5:∀{aC u':M},Z [] w aC->Z [b] aC u'->Z [] w u':=λbY d=>bY.trans d λx hx=>.inr abF;have gE:∀{aC u':M} {x:Sx},Sr F ts aC a r x->Z [b] aC u'->Sr F ts u' a r x:=λCc bY=>Cc.agy bY ⟨eQ,λhF=>by have:=Q2 _ hF;omega⟩;have Tw:=u7.lt;refine(PL r5 (uM hq) λk hk e=>aet).mono ?_;rintro _ w6 ⟨rfl,h6⟩;have z6:=h6.o.size;refine⟨rfl,sm (aX _) h6,r,_,_,_,_,_,_,_,_,h6.r.blk,(Kp h6.r 1).mono ?_⟩;rintro _ w7 ⟨rfl,h7⟩;have z7:=h7.o.size;have hC:Df ts=(⟨(A5 ts (I ts+1) [] (fu ts (fL ts 1 (fu ts LQ gA)).2 [123])).1,(vR ts (pE ts 14) (fL ts 1 (fu ts LQ gA)).1 (A5 ts (I ts+1) [] (fu ts (fL ts 1 (fu ts LQ gA)).2 [123])).2).1⟩,RU ts (vR ts (pE ts 14) (fL ts 1 (fu ts LQ gA)).1 (A5 ts (I ts+1) [] (fu ts (fL ts 1 (fu ts LQ gA)).2 [123])).2).2):=rfl;have xa:(fL ts 1 (fu ts LQ gA)).1.ini=[]/\(fL ts 1 (fu ts LQ gA)).1.dft=[]/\(fL ts 1 (fu ts LQ gA)).1.en=[]/\(fL ts 1 (fu ts LQ gA)).1.lv=[]/\(fL ts 1 (fu ts LQ gA)).1.mv=[]:=⟨rfl,rfl,rfl,rfl,rfl⟩
 have pm:On ts LQ (fL ts 1 (fu ts LQ gA)).2:=(jD aT _).trans (Dh aT _ _);generalize fL ts 1 (fu ts LQ gA)=rx at*
 obtain⟨⟨nk,cC,tO,ut,By,BV,BY,na⟩,u1⟩:=rx;dsimp only at*
 obtain⟨i1,i2,i3,i4,i5⟩:=xa;subst i1 i2 i3 i4 i5;refine⟨_,_,_,_,Sl.nil,Sl.nil,Sl.nil,Sl.nil,_,rfl,sm z6 h7,r,_,_,_,_,_,_,_,_,h7.r.blk,λw8 fy xE=>?_⟩;have z8:=fy.size;have r8:=gE h7.r fy;have pP:=o5 (oD (oD gG h6) h7) fy;obtain⟨q,w9,e1,gp,hm⟩:=tv r8 [123];have z9:=gp.size;refine⟨q,w9,e1,sq J gp,hm.mono ?_⟩;rintro _ dA ⟨rfl,vp⟩;have LA:=vp.o.size;have ip:=oD (pP.cn gp) vp;have iD:On ts LQ (fu ts u1 [123]):=pm.trans (jD aT _);clear hm;generalize fu ts u1 [123]=u2 at*
 generalize hV:A5 ts (I ts+1) [] u2=V at*
 generalize hB:dA.heap.size=bV at*
 refine⟨rfl,sm J vp,r,_,_,_,_,_,_,_,_,vp.r.blk,λnv am iN s3 s4 s5 rZ tL zK BA iS EM lE lT mt mK nO oF oN oR c=>∃(aC:Sx) (aS:List Vr),iN=nk/\s3=T cC/\s4=T []/\s5=T []/\rZ=Sl.nil/\tL=Sl.nil/\zK=Sl.nil/\BA=Sl.nil/\iS=na/\Sr F ts c a r aC/\Own M0 3 76 bV c (Fr bV) am aS/\A5 ts nv aS aC=V/\mu ts aC<nv/\I aS+mu ts aC<=I ts/\Z [] w c/\bV<=c.heap.size/\aC.d=12,
  (I ts)+1,⟨u2,[],rfl,rfl,rfl,rfl,rfl,rfl,rfl,rfl,rfl,vp.r,Own.nil _ _ _ _ _ _,hV,yx (uO _ _),agz,ip,Ou hB.symm,iD.d⟩,?_⟩
 clear hV;rintro nv am f7 _ _ _ _ _ _ _ fd EM lE lT mt mK nO oF oN oR dL ⟨aC,aS,rfl,rfl,rfl,rfl,rfl,rfl,rfl,rfl,rfl,f8,Yj,hR,uP,Lw,iF,zB,co⟩;obtain⟨pi,rfl⟩:∃pi,nv=pi+1:=⟨nv-1,J⟩
 rw[A5]at hR;obtain⟨q,ez,e1,eM,hm⟩:=FA f8 [Hc] (n:=1) (parts:=#[(0,K (T Hc))]) rfl rfl X X;have CC:=eM.size;refine⟨q,ez,e1,sq J eM,hm.mono ?_⟩;rintro _ fj ⟨rfl,u9⟩;have SX:=u9.o.size;have cc:=oD (iF.cn eM) u9;have dO:Own M0 3 76 bV fj (Fr bV) am aS:=(Yj.stay fh eM λx hx=>aev).stay fh u9.o λx hx=>.inl abF;refine⟨_,rfl,sm J u9,r,_,_,_,_,_,_,_,_,u9.r.blk,λpO fU eS LD=>?_,λpO wv wd As AC=>?_⟩
 ·have pO:=R1 pO;rw[aR pO]at hR u9;have XN:=eS.size;have DO:=u9.r.only eS;refine⟨λk=>k=b,rfl,(afJ DO Zp).mono ?_⟩;rintro _ gC ⟨rfl,d⟩;have Fn:=d.o.size;have Fd:=afK aT f8.lt pO;have Zs:=Vf aT (eu aC);generalize xQ ts (eu aC)=EQ at*
  obtain⟨x,u'⟩:=EQ;dsimp only at*
  have Es:=uO ts aC;have Do:Own M0 3 76 bV gC (Fr bV) am aS:=(dO.stay fh eS λx hx=>aev).stay fh d.o λx hx=>.inl abF;obtain⟨y,iQ,e2,f,F6,im,e3,tR,⟨gs,n,xG⟩,_⟩:=jV (P:=Q) (t:=22) (ty:=22) (e:=76) (i:=Tryz.t76) (bytes:=32) (size:=3) (v:=ah #[K (T x.n),O U x.v,O U x.a]) (x:=x) (G:=λ_=>False) aaz aaz rfl rfl rfl rfl X X X fh Do J rfl rfl (λk hk _=>hk.elim) J;have tS:∀q,q∈gs->bV<=q:=λq hg=>(xG q hg).2.1;have FS:=f.size;have Ge:=n.size;refine⟨_,_,_,rfl,sm J d,r,_,_,_,_,_,_,_,_,d.r.blk,λk hk bW=>(by subst hk;exact d.o.block k bW abK),y,iQ,e2,sq J f,bR.only f,F6,im,e3,n.same (λx hx=>?_),λk hk bW=>(by subst hk;exact n.block k bW λhm=>(by have:=tS k hm;omega)),λiR V Yg=>?_⟩
  ·simp only[aY,bA,cf]at hx;exact⟨J,λhm=>by have:=tS x hm;omega⟩
  have i:=V.size;have e:Sr F ts im a r u':=(d.r.only f).own n λx hx=>(by have:=tS x hx;omega)
  refine⟨pi,Te _,u',aS++[x],rfl,rfl,rfl,rfl,rfl,rfl,rfl,rfl,rfl,gE e V,?_,hR,J,ab8,o5 (((oD (cc.cn eS) d).cn f).trans n λx hx=>.inr (by have:=tS x hx;have:=cc.size;omega)) V,J,Zs.d.trans co⟩;refine(tR.mono fh λk hk=>?_).stay fh V λx hx=>.inl abF;rcases hk with hk | hk
  ·exact hk
  show bV<=k;omega
 have pO:=R0 pO;rw[aV pO]at hR u9;subst hR;dsimp only at hC;have IS:=u9.r;refine(PO (f:=14) IS (kq:=[am.v]) (n:=⟨f7,cC,[],[],[],[],[],fd⟩) rfl rfl rfl wv ⟨eQ,λhF=>(by have:=Q2 _ hF;omega)⟩ (by rw[co];exact⟨X,X⟩) (λ_=>by
  rw[co];exact⟨X,PR 14 11 X X X⟩)).mono ?_
 generalize vR ts (pE ts 14) ⟨f7,cC,[],[],[],[],[],fd⟩ aC=Le at*
 obtain⟨t,s1⟩:=Le;dsimp only at hC;rw[hC]at h;dsimp only at h;rintro _ kf ⟨rfl,s,Yk,hx,my,Gg⟩;dsimp only at*
 have Lt:=my.size;have Gt:Z [] w kf:=cc.trans my λx hx=>.inr abH;have GE:Stay bV fj kf:=Stay.of my λx hx=>.inl abH;have GG:ChR L 15 kf (Fr w5.heap.size) ⟨aS,t⟩ am s:=⟨((dO.sl fh λk hk=>hk).stay fh X GE).low fh J,(cA L 15).low hx J⟩
 have Ir:=hx;obtain⟨q,G,T,v,rfl,_⟩:=Ir;have V:∀{aC u':M} {bs:List Nat},w5.heap.size<=aC.heap.size->Z bs aC u'->(∀x,x∈bs->x=a∨x=b)->cr [m,o,k3] aC u':=λhz bY hb=>bY.same λx hx=>⟨abH,λhm=>by have:=hb x hm;simp only[aY,bA,cf]at hx;omega⟩
 refine⟨rfl,V J my aaV,r,_,_,_,_,_,_,_,_,Gg.blk,am,_,_,_,_,q,G,T,v,_,Yk,?_⟩;have st:∀{aC u':M} {x:Sx},Sr F ts aC a r x->aF aC b 29 (am.v::od t.b.k t.b.nm t.b.ini t.b.dft q G T v t.b.a)->Z [] w aC->ChR L 15 aC (Fr w5.heap.size) ⟨aS,t⟩ am (od t.b.k t.b.nm t.b.ini t.b.dft q G T v t.b.a)->∀{y:Sx},Dn F ts aC u' a r y->Sr F ts u' a r y/\aF u' b 29 (am.v::od t.b.k t.b.nm t.b.ini t.b.dft q G T v t.b.a)/\Z [] w u'/\ChR L 15 u' (Fr w5.heap.size) ⟨aS,t⟩ am (od t.b.k t.b.nm t.b.ini t.b.dft q G T v t.b.a):=fun{aC u' x} i a2 a3 a4 {y} d=>
  ⟨d.r,d.o.blk a2 abK,oD a3 d,a4.stay (Stay.of d.o λx hx=>.inl abF)⟩
 refine⟨λTz GO EO D5 F3 TA TB TC TD GT Zb H1 Id If Is ID IF IN IO iU=>w5.heap.size<=iU.heap.size/\Sr F ts iU a r (RU ts s1)/\aF iU b 29 (am.v::od t.b.k t.b.nm t.b.ini t.b.dft q G T v t.b.a)/\Z [] w iU/\ChR L 15 iU (Fr w5.heap.size) ⟨aS,t⟩ am (od t.b.k t.b.nm t.b.ini t.b.dft q G T v t.b.a),?_,?_⟩
 ·rintro Tz GO EO D5 F3 TA TB TC TD GT Zb H1 Id If Is ID IF IN IO iU ⟨y,i,a2,a3,a4⟩;refine(ph i).mono ?_;rintro _ kZ ⟨rfl,d⟩;obtain⟨b1,b2,F,b4⟩:=st i a2 a3 a4 (i.dn.q d);have OF:=d.size;refine⟨_,rfl,V y d aaV,r,_,_,_,_,_,_,_,_,b1.blk,am,_,_,_,_,q,G,T,v,_,b2,λhf mV oU _ _ LE LT f MK Nm n No NO Of Or=>⟨λk=>k=a,rfl,λe=>f e,λe=>n e,λpo tP _ _=>?_⟩,λhf ra zN _ _=>?_⟩
  ·have hf:(RU ts s1).fc≠0:=ac3
   rw[aV hf]at h;subst h;exact⟨Sl.nil,_,rfl,ads _ _,(F.cn oU).trans tP λx hx=>.inr abH⟩
  have hf:¬(RU ts s1).fc≠0:=ac3
  rw[aR hf]at h;subst h;refine⟨am,_,rfl,(b4.stay (Stay.of zN λx hx=>.inl abH)).low gG.size,F.trans zN λx hx=>.inr abH⟩
 refine⟨λd Xy e Q6 TO Q7 Xz XA So ST f To k x y ON OR Pi Pp RK n=>d=decide (s1.fc=0/\(tk ts s1.i).k≠5)/\w5.heap.size<=n.heap.size/\Sr F ts n a r s1/\aF n b 29 (am.v::od t.b.k t.b.nm t.b.ini t.b.dft q G T v t.b.a)/\Z [] w n/\ChR L 15 n (Fr w5.heap.size) ⟨aS,t⟩ am (od t.b.k t.b.nm t.b.ini t.b.dft q G T v t.b.a),?_,λsf ri _ _=>?_⟩
 ·rintro d Xy e Q6 TO Q7 Xz XA So ST f To k x y ON OR Pi Pp RK n ⟨rfl,F,i,a2,a3,a4⟩;unfold RU;refine⟨λhb=>(vY i).mono ?_,λhb=>?_⟩
  ·rw[aV (aN hb)];rintro _ pK ⟨rfl,UP⟩;obtain⟨d,b2,b3,b4⟩:=st i a2 a3 a4 UP;have UV:=UP.o.size;exact⟨rfl,V F UP.o aaV,r,_,_,_,_,_,_,_,_,d.blk,am,_,_,_,_,q,G,T,v,_,b2,J,d,b2,b3,b4⟩
  rw[aR (aQ hb)];exact⟨F,i,a2,a3,a4⟩
 have WF:=ri.size;obtain⟨i,a2,a3,a4⟩:=st Gg Yk Gt GG (Gg.dn.q ri);refine(ph i).mono ?_;rintro _ vh ⟨rfl,uI⟩;obtain⟨d,F,b3,b4⟩:=st i a2 a3 a4 (i.dn.q uI);have WP:=uI.size;obtain⟨ad,g1,g2⟩:=d.now;refine⟨_,rfl,V J uI aaV,r,_,_,_,_,_,_,_,_,d.blk,am,_,_,_,_,q,G,T,v,_,F,λhb=>⟨ad,g1,_,g2.dM 0 _ rfl,?_,J,d,F,b3,b4⟩,λhb=>⟨?_,J,d,F,b3,b4⟩⟩
 ·have hb:s1.fc=0:=abP
  rw[bM];simp[hb]
 have hb:¬s1.fc=0:=abP
 simp[hb]
def Bu(w:M)(b k:Nat):Prop:=∃n c,w.cell? ⟨b,1,aaf⟩=aM (.slice (aM ⟨k,0,aaf⟩) n c)
structure Mw (f:Bool) (b:Nat) (w w':M):Prop where
 o:aD (λk=>k=b∨(f=aL/\Bu w b k)) w w'
 u:∀k,Bu w' b k->Bu w b k∨(f=aL/\w.heap.size<=k)
abbrev St:=Bool×Int
structure Qz (w0:M) (b:Nat) (w:M) (l:aH) (st:St):Prop where
 o:Z [] w0 w
 lo:w0.heap.size<=b
 ex:∃(q:Option Addr) (sl:Sl),(q=aaf∨q=aM ⟨b,0,aaf⟩)/\aF w b 216 [ae q,sl.v,aj st.1,O U st.2]/\Bf w (b+1) sl l
 i:st.1=aL->0<=st.2/\st.2<=400
 big:I l<=274877906944
structure Up (st:St) (c:Bool) (n:Nat) (dk:St):Prop where
 w:dk.1=((st.1||!c)||decide (400<st.2+n))
 a:dk.1=aL->dk.2=st.2+n
def or3{a b c}(h:aL=((a||!b)||c)):a=aL/\b=L/\c=aL:=by
 revert h;cases a<;>cases b<;>cases c<;>decide
def Up.ok{st dk}{c}{n}(h:Up st c n dk)(e:dk.1=aL):st.1=aL/\c=L/\dk.2=st.2+n/\¬400<st.2+n:=by
 obtain⟨a,b,d⟩:=or3 (e.symm.trans h.w);exact⟨a,b,h.a e,aQ d⟩
def Up.tr{st dk ahE}{c c'}{n n'}(h:Up st c n dk)(k:Up dk c' n' ahE):Up st (c&&c') (n+n') ahE:=by
 cases e:ahE.1
 ·obtain⟨d,f,k3,j⟩:=k.ok e;obtain⟨a,b,g,i⟩:=h.ok d;have c:¬400<st.2+((n+n':Nat)):=J
  refine⟨?_,λ_=>J⟩;rw[e,a,b,f,bD c];rfl
 refine⟨?_,λb=>by rw[e]at b;cases b⟩;rw[e];refine Eq.symm (bT λj=>?_);obtain⟨f,a,c⟩:=or3 (eF.2 j).symm;rw[aU]at a;have c:=aQ c;have g:¬400<st.2+n:=J
 have d:dk.1=aL:=by rw[h.w,f,a.1,bD g];rfl
 have b:=h.a d;have i:¬400<dk.2+n':=J
 have:=k.w;rw[e,d,a.2,bD i]at this;cases this
def Up.cg{st dk}{c c'}{n n'}(h:Up st c n dk)(e:c=c')(a:n=n'):Up st c' n' dk:=by subst e a;exact h
def Up.le{st dk}{c}{n}(h:Up st c n dk)(f:st.1=aL->0<=st.2)(e:dk.1=aL):0<=dk.2/\dk.2<=400:=by
 obtain⟨a,b,d,g⟩:=h.ok e;have:=f a;omega
section
variable {f g:Bool} {w0 ws w w' w1 u6:M} {b k:Nat} {l l':aH} {st dk:St} {ks ks':List Nat}
def Mw.refl f b w:Mw f b w w:=⟨OnlyP.refl _ _,λ_ h=>.inl h⟩
def Mw.trans(a:Mw f b w w')(k:Mw f b w' u6):Mw f b w u6:=by
 have z:=a.o.size;refine⟨a.o.trans k.o λx h=>?_,λx h=>?_⟩
 ·rcases h with h | ⟨f,h⟩
  ·exact .inl (.inl h)
  rcases a.u x h with e | ⟨_,e⟩
  ·exact .inl (.inr ⟨f,e⟩)
  exact .inr e
 rcases k.u x h with e | ⟨f,e⟩
 ·exact a.u x e
 exact .inr ⟨f,J⟩
def Mw.up(h:Mw f b w w'):Mw aL b w w':=⟨h.o.mono λk _ hk=>hk.elim .inl λe=>.inr ⟨rfl,e.2⟩,λk hk=>(h.u k hk).elim .inl λe=>.inr ⟨rfl,e.2⟩⟩
def Mw.only1(h:Mw L b w w'):Z [b] w w':=h.o.amF λk hk=>hk.elim (λe=>.inl (by rw[e];simp)) λe=>(by cases e.1)
def zf(a:w'.heap[b]? =w.heap[b]?){k}(d:Bu w' b k):Bu w b k:=by
 obtain⟨n,c,h⟩:=d;refine⟨n,c,?_⟩;unfold World.cell? at h⊢;rw[a]at h;exact h
def Qz.lb(h:Qz w0 b w l st):b<w.heap.size:=by
 obtain⟨q,sl,_,B,_⟩:=h.ex;exact B.lt
def Qz.arg(h:Qz w0 b w l st)(a:Qz w0 b w' l' dk){k}(hk:k<w0.heap.size):w'.heap[k]? =w.heap[k]? :=(a.o.block k hk aaV).trans (h.o.block k hk aaV).symm
def Mw.only(a:b<w.heap.size)(h:Z [] w w'):Mw f b w w':=⟨h.p0,λk hk=>.inl (zf (h.block b a aaV) hk)⟩
def PS{q v2 v3}{t}{sl:Sl}(B:aF w b t [q,sl.v,v2,v3]){k}(h:Bu w b k):sl.a=aM ⟨k,0,aaf⟩:=by
 obtain⟨n,c,d⟩:=h;have:=Blk.dM B 1 rfl 0 sl.v rfl;have e:(Addr.add ⟨b,0,aaf⟩ 1).add 0=⟨b,1,aaf⟩:=rfl;rw[e,d]at this;have:=YM this;injection this with a _ _;exact a.symm
def Ks{q v2 v3}{t}{sl:Sl}(B:aF w b t [q,sl.v,v2,v3]){k}(h:sl.a=aM ⟨k,0,aaf⟩):Bu w b k:=by
 have:=Blk.dM B 1 rfl 0 sl.v rfl;have e:(Addr.add ⟨b,0,aaf⟩ 1).add 0=⟨b,1,aaf⟩:=rfl;rw[e]at this;refine⟨sl.n,sl.c,?_⟩;rw[this,<-h]
def Qz.bu(h:Qz w0 b w l st){k}(hk:Bu w b k):b<k/\k<w.heap.size:=by
 obtain⟨q,sl,_,B,a⟩:=h.ex;have:=a.lt (PS B hk);omega
def Qz.only(h:Qz w0 b w l st)(a:Z [] w w'):Qz w0 b w' l st:=by
 obtain⟨q,sl,e,B,c⟩:=h.ex;exact⟨h.o.cn a,h.lo,⟨q,sl,e,a.blk B aaV,c.keep λg _ d=>a.block g d aaV⟩,h.i,h.big⟩
structure Zq (f:Bool) (w0 ws:M) (b:Nat) (w:M) (l:aH) (st:St) (ks:List Nat):Prop extends Qz w0 b w l st where
 m:Mw f b ws w
 k:∀k,k∈ks->k<w.heap.size/\k≠b/\¬Bu w b k
def Qz.z f (h:Qz w0 b w l st):Zq f w0 w b w l st []:=⟨h,Mw.refl f b w,λk hk=>agF⟩
def Zq.q(t:Zq f w0 ws b w l st ks)(h:Z [] w w'):Zq f w0 ws b w' l st ks:=by
 have a:=t.toQz.lb;refine⟨t.toQz.only h,t.m.trans (Mw.only a h),λk hk=>?_⟩;obtain⟨d,e,g⟩:=t.k k hk;exact⟨cH d h.size,e,λc=>g (zf (h.block b a aaV) c)⟩
def Zq.al(t:Zq f w0 ws b w l st ks)(c:Z [] w w')(g:w.heap.size<=k)(d:k<w'.heap.size):Zq f w0 ws b w' l st (k::ks):=by
 have e:=t.toQz.lb;have a:=t.q c;refine⟨a.toQz,a.m,λx h=>?_⟩;rcases aY.1 h with rfl | h
 ·exact⟨d,J,λf=>by have:=(t.toQz.bu (zf (c.block b e aaV) f)).2;omega⟩
 exact a.k x h
def Zq.nx(t:Zq f w0 ws b w l st ks)(p:Qz w0 b w' l' dk)(m:Mw f b w w'):Zq f w0 ws b w' l' dk ks:=by
 refine⟨p,t.m.trans m,λk hk=>?_⟩;obtain⟨a,c,d⟩:=t.k k hk;exact⟨cH a m.o.size,c,λh=>(m.u k h).elim d λe=>by have:=e.2;omega⟩
def Zq.sq(t:Zq f w0 ws b w l st ks)(h:Z [] w w')(hk:∀k,k∈ks'->k∈ks):cr ks' w w':=h.same λx a=>⟨(t.k x (hk x a)).1,aaV⟩
def Zq.sm(t:Zq f w0 ws b w l st ks)(m:Mw g b w w')(hk:∀k,k∈ks'->k∈ks):cr ks' w w':=m.o.same λx h=>⟨(t.k x (hk x h)).1,λa=>a.elim (t.k x (hk x h)).2.1 λe=>(t.k x (hk x h)).2.2 e.2⟩
def Zq.sj(t:Zq f w0 ws b w l st ks)(z:w.heap.size<=w1.heap.size)(h:aD (λk=>w.heap.size<=k) w1 w')(hk:∀k,k∈ks'->k∈ks):cr ks' w1 w':=h.same λx a=>by
 have:=(t.k x (hk x a)).1;exact⟨J,J⟩
def Zq.row(t:Zq L w0 ws b w l st ks)(r:b<ws.heap.size)(u:∀k,Bu ws b k->k<ws.heap.size)(h:aD (λk=>ws.heap.size<=k) w w'):Zq L w0 ws b w' l st ks:=by
 have o:=t.lo;have a:=λk hk=>(t.m.u k hk).elim id λe=>(by cases e.1)
 have T:=h.block b t.toQz.lb J;obtain⟨q,sl,p,B,f⟩:=t.ex;refine⟨⟨⟨h.os.trans t.o.os,h.tape.trans t.o.tape,h.output.trans t.o.output,bH t.o.size h.size,λk hk _=>(h.block k (cH hk t.o.size) J).trans (t.o.block k hk aaV)⟩,o,⟨q,sl,p,T.trans B,f.keep λg m n=>h.block g n λe=>(by have:=u g (a g (Ks B m));omega)⟩,t.i,t.big⟩,⟨t.m.o.trans h λk hk=>.inr hk,λk hk=>.inl (a k (zf T hk))⟩,λk hk=>?_⟩;obtain⟨d,i,j⟩:=t.k k hk;exact⟨cH d h.size,i,λc=>j (zf T c)⟩
def bR.of{ks}(h:cr ks w w'):bR (λk=>k∈ks) w w':=λk hk _=>h k hk
def vZ{w2}(a:Z [] w w1)(b:aD (λk=>w.heap.size<=k) w1 w2):Z [] w w2:=(a.oQ b).only λ_ h=>h
end
def Vy w (s:List _) {n} {parts} (p:parts=(((s.map λx=>Value.string (T x)).zipIdx 0).map λx=>(x.2,x.1)).toArray) (h:I s=n) (k:0<n) (o:n*1<=16777216):
  ∃(q:Sl) (a:M) (g:Nat) (c:aI),(au 32 n parts).run Q w=.ok q.v a/\Z [] w a/\w.heap.size<=g/\g<a.heap.size/\aF a g 9 c/\
   ∀(e:Nat) x,s[e]? =aM x->cT q e 1 ⟨g,e,aaf⟩/\∀w,aF w g 9 c->aB w ⟨g,e,aaf⟩ [K (T x)]:=by
 obtain⟨q,a,l,m,k3⟩:=kl w s p h k o;rcases m with⟨_,e⟩ | ⟨g,j,tail,d,f,b,r,t,u,v,i⟩
 ·subst e;simp at h;omega
 refine⟨q,a,g,_,l,k3,f,b.lt,b,λe x hx=>⟨⟨_,d,aZ e,?_,?_⟩,λw B=>Blk.at0 B e ?_⟩⟩
 ·have:=(bf.1 hx).1;omega
 ·rw[gu,aW,lq,bS]
 have:(s.map λx=>Value.string (T x))[e]? =aM (K (T x)):=ahx
 rw[Na i,bX (bf.1 this).1,this]
section
variable {w0 w:M} {b:Nat} {l:aH} {st:St}
def Vz b j:(Addr.add ⟨b,0,aaf⟩ j)=⟨b,j,aaf⟩:=by rw[gu,bS]
def Qz.set(h:Qz w0 b w l st):∃(q:Option Addr) (sl:Sl),aF w b 216 [ae q,sl.v,aj st.1,O U st.2]/\
  ∀a d,Z [b] w a->aF a b 216 [ae q,sl.v,aj d.1,O U d.2]->(d.1=aL->0<=d.2/\d.2<=400)->Qz w0 b a l d/\Mw L b w a:=by
 obtain⟨q,sl,m,B,e⟩:=h.ex;exact⟨q,sl,B,λn xC c t i=>⟨⟨⟨c.os.trans h.o.os,c.tape.trans h.o.tape,c.output.trans h.o.output,bH h.o.size c.size,λk hk _=>(c.block k (cH hk h.o.size) (by have:=h.lo;simp;omega)).trans (h.o.block k hk aaV)⟩,h.lo,⟨q,sl,m,t,e.keep λg f j=>c.block g j (by have:=(e.lt f).1;simp;omega)⟩,i,h.big⟩,⟨c.p λx hx=>.inl (.inl ab5),λk hk=>.inl (Ks B (PS t hk))⟩⟩⟩
def Qz.up0(h:Qz w0 b w l st):Up st L 0 st:=by
 refine⟨?_,λ_=>aaV⟩;cases e:st.1
 ·have:=(h.i e).2;have a:¬400<st.2+((0:Nat)):=J
  rw[bD a];rfl
 rfl
def PT{q}{sl:Sl}{wr}{ac}(h:aF w b 216 [ae q,sl.v,aj wr,O U ac]) ok:az Q 131 #[rp b,aj ok] w λe a=>
  e=ak (ai #[])/\Z [b] w a/\aF a b 216 [ae q,sl.v,aj (wr||!ok),O U ac]:=by
 exact ret (ak3 _ ok _ w ⟨wr,Blk.dM h 2 rfl,b,2,_,_,Vz b 2,h,aaV,λd c t=>⟨rfl,c,t⟩⟩)
def ma(h:Qz w0 b w l st) ok:az Q 131 #[rp b,aj ok] w λe a=>e=ak (ai #[])/\∃d,Up st ok 0 d/\Qz w0 b a l d/\Mw L b w a:=by
 obtain⟨q,sl,B,c⟩:=h.set;refine(PT B ok).mono ?_;rintro _ f ⟨rfl,E,t⟩;have u:Up st ok 0 (st.1||!ok,st.2):=by
  refine⟨?_,λe=>aaV⟩;cases e:st.1
  ·have:=(h.i e).2;have b:¬400<st.2+((0:Nat)):=J
   rw[bD b,IV]
  simp
 exact⟨rfl,_,u,c f _ E t λe=>u.le (λe=>(h.i e).1) e⟩
def pj(h:Qz w0 b w l st) s (j:I s<9223372036854775807):az Q 133 #[rp b,K (T s)] w λe a=>e=ak (K (T s))/\∃d,Up st (dP s) 0 d/\Qz w0 b a l d/\Mw L b w a:=by
 refine ret (ak5 _ _ ?_);refine(U8 s j).mono ?_;rintro _ k ⟨rfl,c⟩;refine⟨_,rfl,(ma (h.only c) _).mono ?_⟩;rintro _ m ⟨rfl,d,f,g,i⟩;exact⟨rfl,rfl,d,f,g,(Mw.only h.lb c).trans i⟩
def PU(o:Qz w0 b w l st){F}{x}{cs}(i:rE aL w F x cs)(q:YU x)(s:Di x<=1759218604441)(E:Er w0)(p:Tb w0):
  az Q 209 #[rp b,ah cs.toArray] w λe j=>e=ak (K (T (A6 x)))/\∃d,Up st (vU x) 0 d/\Qz w0 b j l d/\Mw L b w j:=by
 obtain⟨z,rfl⟩:=fp i;refine ret (alM _ _ _ _ _ _ _ ?_);intro r u n m c;have t:=(o.z L).al c n m;refine(aax ((jp aL).keep i λk _ W=>c.block k W aaV) q s (E.only t.o) (p.only t.o)).mono ?_;rintro _ v ⟨rfl,R⟩;have a:=t.q R;refine⟨_,rfl,t.sq R aaV,(ma a.toQz _).mono ?_⟩;rintro _ y ⟨rfl,d,h,f,g⟩;rw[show ao #[]=T []from rfl,iV]at h;have e:(!decide (A6 x=[]))=vU x:=by unfold vU;rw[decide_not]
 rw[e]at h;exact⟨rfl,a.sm g aaV,rfl,d,h,f,(a.nx f g).m⟩
def PV(n:Qz w0 b w l st){F}{x}{cs}(c:rE aL w F x cs):
  az Q 210 #[rp b,ah cs.toArray] w λe g=>e=ak (ai #[])/\∃k,Up st (tj x) 0 k/\Qz w0 b g l k/\Mw L b w g:=by
 have m:∃s,cs=oa x.k x.n x.s x.op s x.a/\s.n=I x.dC:=by
  obtain⟨d,c⟩:=c;cases d with
  | zero=>exact c.elim
  | succ d=>
   obtain⟨sl,h,a,_⟩:=c;exact⟨sl,h,a.len⟩
 obtain⟨s,rfl,o⟩:=m;refine ret (alN _ _ _ _ _ _ _ ?_);intro p q j i E;have t:=(n.z L).al E j i;refine(ma t.toQz _).mono ?_;rintro _ r ⟨rfl,k,h,a,f⟩;rw[show ao #[]=T []from rfl,iV,o]at h;exact⟨rfl,t.sm f aaV,rfl,k,h,a,(t.nx a f).m⟩
def PW(h:Qz w0 b w l st):az Q 136 #[rp b] w λe a=>e=ak (aj (decide (16384<I l)))/\a=w:=by
 refine ret (ak7 _ ?_);obtain⟨q,sl,d,B,c⟩:=h.ex;refine(ade _ (λv a=>v=O U (I l)/\a=w) w ?_).mono ?_
 ·exact⟨sl,Blk.dM B 1 rfl,by rw[c.len],rfl⟩
 rintro _ w ⟨v,rfl,rfl,rfl⟩;refine⟨_,rfl,?_,rfl⟩;congr 1;simp;omega
end
def FC(a:Ac):Nat:=Di a.x+(I a.n+1)
def jF:List Ac->Nat
 | []=>0
 | a::l=>FC a+jF l
def qR{a:Ac}:∀{l:List Ac},a∈l->FC a<=jF l
 | [],h=>abS
 | x::l,h=>by
  rw[jF];rcases aY.1 h with rfl | h
  ·omega
  have:=qR h;omega
def gI:∀(l:List Ac),I l<=jF l
 | []=>bm _
 | a::l=>by
  have:=gI l;rw[jF,ba];unfold FC;omega
def Ku(l:List (aH)):Nat:=(l.map λs=>I s+1).sum
def El(m:Mv):Nat:=(jF m.acts+Di m.g)+(Ku m.tg+(I m.ev+1))
def Hw(x:Ex):I (A6 x)<=16384:=by
 by_cases h:A6 x=[]
 ·rw[h];exact bm _
 obtain⟨c,b,a⟩:=Vl h;refine bT λd=>?_;have e:A6 x=qN (IA x) x aL []:=b;rw[<-e]at a;unfold jh at a;have:dl (A6 x)=([],2, -1):=by rw[dl,aV J]
 rw[this,aV X]at a;exact absurd a (show ¬(2:Int)=0 by decide)
def uv{s:aH}(h:dP s=L):ne s=L:=by
 unfold dP at h;simp only[aU]at h;have:=(aN h.1.1.1).1;unfold ne;rw[bD this];rfl
def al6{x:Ex}(h:vU x=L):ne (A6 x)=L:=by
 unfold ne;rw[bD (aN h)];rfl
def rH{x:aH}(h:ne x=L)(w:List (aH)):ij (x::w)=x++Lib.joinTail [32] (w.filter ne):=by
 unfold ij;rw[oX,h,aV rfl,Lib.join_cons]
def gJ(x:aH)(r:List (aH)):Lib.joinTail [32] (x::r)=32::(x++Lib.joinTail [32] r):=by
 unfold Lib.joinTail;rw[bQ,eV];rfl
def oJ:Lib.joinTail [32] []=[]:=rfl
def gK{x:aH}(h:ne x=L)(w:List (aH)):(x::w).filter ne=x::w.filter ne:=by rw[oX,h,aV rfl]
def VA(w:List (aH)):([]::w).filter ne=w.filter ne:=by rw[oX,aR X]
def YV(a:Ac):List (aH):=if a.k=2 then[mT,a.n]else[if a.k=1 then vP else pD,a.n,[61],A6 a.x]
def adt{a:Ac}(h:kQ a=L):ij (YV a)++[59]=Ek a:=by
 unfold kQ at h;simp only[aU]at h;obtain⟨⟨d,b⟩,c⟩:=h;unfold YV Ek;by_cases hk:a.k=2
 ·rw[aV hk,aV hk,rH X,gK (uv b),ff,gJ,oJ];simp
 rw[aR hk]at c;have w:ne (if a.k=1 then vP else pD)=L:=by split<;>decide
 rw[aR hk,aR hk,rH w,gK (uv b),gK X,gK (al6 c),ff,gJ,gJ,gJ,oJ];simp
def aaG(a:Ac):I (ij (YV a))<=16398+I a.n:=by
 refine bH (j8 _) ?_;have:=Hw a.x;unfold YV;split
 ·simp only[bQ,ft,dc,jU];show 5+1+(I a.n+1+0)<=_;omega
 simp only[bQ,ft,dc,jU];have:I (if a.k=1 then vP else pD)<=4:=by split<;>decide
 show _+1+(I a.n+1+(1+1+(_+1+0)))<=_;omega
section
variable {w0 w:M} {b:Nat} {l:aH} {st:St}
def al7(i:Qz w0 b w l st){F:aJ}{a:Ac}{c:aI}(h:qv aL w F a c)(p:∀k,F k->k<w0.heap.size)(D:Vm a)(G:FC a<=1759218604441)(B:Er w0)(C:Tb w0):
  az Q 208 #[rp b,ah c.toArray] w λe d=>∃s f,e=ak (K (T s))/\I s<=16400+I a.n/\(kQ a=L->s=Ek a)/\Up st (kQ a) 0 f/\Qz w0 b d l f/\Mw L b w d:=by
 obtain⟨S,rfl,h⟩:=h;obtain⟨V,rfl⟩:=fp h;unfold FC at G;refine iW (alK _ _ _ _ _ _ _ _ _ _ ?_);intro r N A y E;have v:=(i.z L).al E A y;obtain⟨q,P,g,c,z,R,m,o,u,H⟩:=Vy N [[],vP,mT,pD] (n:=4) (parts:=#[.mk 0 (K (ao #[])),.mk 1 (K (ao #[115,101,116])),.mk 2 (K (ao #[114,97,105,115,101])),.mk 3 (K (ao #[101,109,105,116]))]) rfl rfl X X;have t:=v.al R m o;have tail:=aaG a;refine⟨q,P,z,v.sq R aaV,λj=>?_,λj=>?_⟩
 ·refine(ma t.toQz aL).mono ?_;rintro _ w ⟨rfl,f,l,b,k⟩;have hk:kQ a=aL:=by
   unfold kQ;have:¬(1<=a.k/\a.k<=3):=by
    simp only[cu,bF]at j;omega
   rw[bD this];rfl
  exact⟨rfl,t.sm k aaV,[],f,rfl,bm _,λe=>(by rw[hk]at e;cases e),by rw[hk];exact l,b,(t.nx b k).m⟩
 have b:1<=a.k/\a.k<=3:=by
  simp only[dq,dS]at j;omega
 have w:∀x,[[],vP,mT,pD][a.k.toNat]? =aM x->cT q a.k 1 ⟨g,a.k.toNat,aaf⟩/\∀d,aF d g 9 c->aB d ⟨g,a.k.toNat,aaf⟩ [K (T x)]:=λx h=>by
  have:=H _ x h;rwa[jL J]at this
 refine⟨λkF=>?_,λkF l e=>?_⟩
 ·have hk:a.k=2:=ahv
  have hW:YV a=[mT,a.n]:=by unfold YV;rw[aV hk]
  refine(PV t.toQz ((jp aL).keep h λk hk _=>i.arg t.toQz (p k hk))).mono ?_;rintro _ w3 ⟨rfl,QO,u1,u2,u3⟩;have t3:=t.nx u2 u3;refine⟨rfl,t.sm u3 aaV,λw4 dW=>⟨λk=>k∈[r,g],aaV,?_⟩⟩;have s:=t3.q dW;obtain⟨y1,y2⟩:=w mT (by rw[hk];rfl);have sE:aF w4 g 9 c:=(t3.sq (ks':=[g]) dW aaV g aaV).trans ((t.sm (ks':=[g]) u3 aaV g aaV).trans u);refine⟨_,y1,aaV,_,y2 w4 sE,(pj s.toQz a.n J).mono ?_⟩;rintro _ w5 ⟨rfl,am,v1,v2,v3⟩;have q:=s.nx v2 v3;obtain⟨q6,w6,e6,Y,_,hj⟩:=Fy w5 [mT,a.n] (n:=2) (parts:=#[.mk 0 (K (T mT)),.mk 1 (K (T a.n))]) rfl rfl X X (by rw[<-hW];omega);have z6:=Y.size;refine⟨_,rfl,s.sm v3 aaV,bR.of (s.sm v3 aaV),q6,w6,e6,q.sq Y aaV,bR.of (q.sq Y aaV),hj.mono ?_⟩;rintro _ w7 ⟨rfl,x⟩;have gq:=vZ Y x;have t7:=q.q gq;have hU:=u1.tr v1;have W:kQ a=(tj a.x&&dP a.n):=by
   unfold kQ;rw[aV hk,bE b,cm,Bool.and_comm]
  rw[<-W]at hU;rw[<-hW];refine⟨_,rfl,q.sj z6 x aaV,bR.of (q.sj z6 x aaV),abN,ij (YV a)++[59],am,adp,ab8,λW=>adt W,hU,t7.toQz,t7.m⟩
 have hk:a.k≠2:=ahv
 have hW:YV a=[if a.k=1 then vP else pD,a.n,[61],A6 a.x]:=by unfold YV;rw[aR hk]
 have Y:=t.q e;obtain⟨y1,y2⟩:=w (if a.k=1 then vP else pD) (by
  by_cases k:a.k=1
  ·rw[aV k,k];rfl
  rw[aR k,show a.k=3 by omega];rfl)
 have xE:aF l g 9 c:=(t.sq (ks':=[g]) e aaV g aaV).trans u;refine⟨λk=>k∈[r,g],aaV,_,y1,aaV,_,y2 l xE,aaV,(pj Y.toQz a.n J).mono ?_⟩;rintro _ w9 ⟨rfl,bV,u1,u2,u3⟩;have x:=Y.nx u2 u3;refine⟨_,rfl,Y.sm u3 aaV,bR.of (Y.sm u3 aaV),(PU x.toQz ((jp aL).keep h λk hk _=>i.arg x.toQz (p k hk)) D J B C).mono ?_⟩;rintro _ dA ⟨rfl,aC,v1,v2,v3⟩;have q:=x.nx v2 v3;obtain⟨aT,dL,aS,W,_,hj⟩:=Fy dA [if a.k=1 then vP else pD,a.n,[61],A6 a.x] (n:=4) (parts:=#[.mk 0 (K (T (if a.k=1 then vP else pD))),.mk 1 (K (T a.n)),.mk 2 (K (T [61])),.mk 3 (K (T (A6 a.x)))]) rfl rfl X X (by rw[<-hW];omega);have Cj:=W.size;refine⟨_,rfl,x.sm v3 aaV,bR.of (x.sm v3 aaV),aT,dL,aS,q.sq W aaV,bR.of (q.sq W aaV),hj.mono ?_⟩;rintro _ ez ⟨rfl,Yl⟩;have eM:=vZ W Yl;have s:=q.q eM;have hU:=u1.tr v1;have kH:kQ a=(dP a.n&&vU a.x):=by
  unfold kQ;rw[aR hk,bE b,cm]
 rw[<-kH]at hU;rw[<-hW];refine⟨_,rfl,q.sj Cj Yl aaV,bR.of (q.sj Cj Yl aaV),abN,ij (YV a)++[59],aC,adp,ab8,λkH=>adt kH,hU,s.toQz,s.m⟩
end
end Go.Proofs.YtfemabakfkliiaaGreatDoor.Con
