import Derived.Test.YtccbiehilmhodaaGreatDoorQl6
set_option linter.defProp false
set_option linter.unusedSectionVars false
set_option linter.unusedSimpArgs false
set_option linter.unusedVariables false
set_option maxHeartbeats 4000000
set_option maxRecDepth 100000
open Bool renaming true->aF,false->aM
open Option renaming some->Hg,none->ZQ
open List renaming length->Z8
open Decidable renaming decide->VM
open Go.Value renaming int->O,string->ae,pointer->ah,agg->ai,tuple->aj,bool->ak
open Go.IntKind renaming i64->U,wrap->au
open Go.Ending renaming returned->ao
open _root_.ByteArray renaming mk->aq
open _root_.Go.Proofs.Tryz renaming prog->ar
open Go.Instr renaming buildSlice->av
open Go renaming World->aw,Value->ay,Calls->aA
open Go.Kt renaming Only->az,SliceF->aB,Cells->aD,OnlyP->aE,Blk->aG
namespace Go.Proofs.YtccbiehilmhodaaGreatDoor.Con
open Go Go.RowKit Go.Kt Go.Kt.V Go.Proofs.YtccbiehilmhodaaGreatDoor.Vc Go.ChangeShapes Go.WideShapes
def agn{k:Nat}{op}(a:k<6)(h:op∈(fG[k]?).getD []):gj op=k:=by
 match k,a with
 | 0,_=>simp[fG]at h;subst h;rfl
 | 1,_=>simp[fG]at h;subst h;rfl
 | 2,_=>simp[fG]at h;rcases h with rfl | rfl<;>rfl
 | 3,_=>simp[fG]at h;rcases h with rfl | rfl | rfl | rfl<;>rfl
 | 4,_=>simp[fG]at h;rcases h with rfl | rfl<;>rfl
 | 5,_=>simp[fG]at h;rcases h with rfl | rfl | rfl<;>rfl
def aaZ{op}(h:∀k,k<6->op∉(fG[k]?).getD []):gj op=6:=by
 have a:=h 0 Z;have b:=h 1 Z;have c:=h 2 Z;have d:=h 3 Z;have e:=h 4 Z;have f:=h 5 Z;simp[fG]at a b c d e f;rw[gj];rw[W J,W J,W J,W J,W J,W J]
def zO{a:aw}{F:aK}{x:Ex}{s:aJ}{d:Nat}(l:vS d a F x s):aA ar 388 #[ai s.toArray] a λe w=>e=ao (O U (B x))/\az [] a w:=by
 obtain⟨sl,rfl⟩:=lK l;refine ret (ase ?_);intro u p Q L f;refine(Nf p).mono ?_;rintro _ j ⟨m,rfl,N,c⟩;have A:=N.len;have D:Z8 fG=6:=I;refine⟨m,I,c.same C,λv i w=>∃n:Nat,n<=6/\i=(n:Int)/\v=6-n/\(∀k,k<n->x.op∉(fG[k]?).getD [])/\az [] j w,6,⟨0,Z,I,I,λk g=>absurd g J,EC _ _⟩,?_⟩;rintro v _ r ⟨n,t,rfl,rfl,o,b⟩;have z:az [] a r:=(f.cn c).cn b;refine⟨λh=>?_,λh=>⟨?_,z⟩⟩
 .simp only[H,bU,eX]at h;obtain⟨uX,mo⟩:=h;have bT:n<6:=J
  obtain⟨p0,F,am,T,V,g3,g4,O,P,rfl,S⟩:=N.get (bc n) J;rw[aW]at V;have M:(fG[n]?).getD []=F:=by rw[V];rfl
  have t1:=S.len;have t2:=S.cap;have t3:=S.big;refine⟨λv i w=>∃d:Nat,d<=Z8 F/\i=(d:Int)/\v=(Z8 F)-d/\(∀q y,q<d->F[q]? =Hg y->y≠x.op)/\az [] j w,Z8 F,⟨0,bh _,I,I,λq y G=>absurd G (CJ q),b⟩,?_⟩;rintro v _ w3 ⟨d,hj,rfl,rfl,X,E⟩;refine⟨p0,T,P,O.keep (E.block _ O.lt R),λe=>?_,λY=>?_⟩
  .have e:(d:Int)<(P.n:Int):=aO e;obtain⟨p3,aC,aS,r1,n,r3,r4,r5,r6⟩:=(Aw nP Z S E R).get (bc d) e;unfold DY at r6;subst r6;rw[aW]at n;refine⟨p0,T,P,O.keep (E.block _ O.lt R),p3,r1,aC,r5,λhe w4 dD=>⟨?_,((f.cn c).cn E).cn dD⟩,λhe w5 dP=>⟨(Z8 F)-_,J,d+1,J,TE,I,λq y G k=>?_,E.cn dP⟩⟩
   .have he:aC=x.op:=RH
    subst he;have:=agn bT (by rw[M];exact bA n);rw[B,K mo,this]
   rcases oT q d with x | x
   .exact X q y x k
   have:q=d:=J
   subst this;rw[n]at k;injection k with k;subst k;simpa using he
  have Y:¬(d:Int)<(P.n:Int):=aR Y;refine⟨6-(n+1),J,n+1,J,TE,I,λk g=>?_,E⟩;rcases oT k n with x | x
  .exact o k x
  have:k=n:=J
  subst this;rw[M];intro y;obtain⟨q,G⟩:=nZ y;exact X q _ (by have:=(bd.1 G).1;omega) G I
 rw[B];by_cases d:x.k=5
 .rw[K d];have:n=6:=by
   rw[d]at h;simp at h;omega
  subst this;rw[aaZ o]
 rw[W d]
def blb:∀(d:Nat) {a:aw} {F:aK} {x:Ex} {c:aJ},(∀e,xI e x)->vS d a F x c->aA ar 365 #[ai c.toArray] a λe w=>e=ao (ak (de d x))/\az [] a w
 | 0,_,_,_,_,_,h=>h.elim
 | d+1,a,F,x,c,k,⟨sl,q,h⟩=>by
  subst q;refine ret (ar5 ?_);intro E A Q L o;have r:=h.len;have G:=h.cap;have H:=h.big;have l:Z8 x.s<4611686018427387903:=(k 1).1;have s:∀y,y∈x.dK->∀e,xI e y:=λy u e=>(k (e+1)).2 y u;refine⟨λv z w=>∃n:Nat,n<=Z8 x.dK/\z=(n:Int)/\v=(Z8 x.dK)-n/\kl (de d) x.dK=kl (de d) (x.dK.drop n)/\az [] a w/\A.heap.size<=w.heap.size,Z8 x.dK,⟨0,bh _,I,I,I,o,aX _⟩,?_⟩;rintro v _ D ⟨n,t,rfl,rfl,i,g,M⟩;refine⟨λj=>?_,λm=>?_⟩
  .have j:(n:Int)<(sl.n:Int):=aO j;obtain⟨p,y,V,S,e,X,Y,T,N⟩:=(Aw (jH d) Z h g R).get (bc n) j;rw[aW]at e;obtain⟨sy,rfl⟩:=lK N;refine⟨p,S,_,_,_,_,_,_,T,(blb d (s y (bA e)) N).mono ?_⟩;rintro _ w2 ⟨rfl,b⟩;have z2:=b.size;have P:=Fm (f:=de d) e;refine⟨_,I,b.same C,λhb=>⟨?_,g.cn b⟩,λhb=>⟨(Z8 x.dK)-(n+1),J,n+1,J,TE,I,?_,g.cn b,J⟩⟩
   .have hb:de d y=aM:=Ma
    rw[de,i,P,hb,di,gr]
   have hb:de d y=aF:=Ma
   rw[i,P,hb,cr]
  have m:¬(n:Int)<(sl.n:Int):=aR m;have:n=Z8 x.dK:=J
  subst this;rw[dJ (aX _)]at i;have f:de (d+1) x=iu x:=by
   rw[de,i];simp[kl]
  refine(rC D x.s l).mono ?_;rintro _ N ⟨rfl,p⟩;have e:=g.cn p;have P:=p.size;have y:((T x.s).toList==(aq #[]).toList)=VM (x.s=[]):=iC x.s [];rw[y,r];refine⟨_,I,p.same C,λhk=>⟨?_,e⟩,λhk=>⟨λb w=>b=VM (x.k=2∨x.k=3)/\w=N,?_,λmE=>⟨?_,I⟩,λmE=>⟨?_,I⟩⟩⟩
  .have hk:x.k=1:=Mi
   rw[f,iu,K hk,RJ];congr 4;rw[bL];simp only[bU,eX];split<;>omega
  .have n:x.k≠1:=Mi
   rintro _ _ ⟨rfl,rfl⟩;refine⟨λhb=>⟨?_,e⟩,λhb=>⟨λpV=>⟨?_,e⟩,λpV=>⟨λmo=>?_,λmo=>⟨?_,e⟩⟩⟩⟩
   .have hb:=aO hb;rw[f,iu,W n,K hb,RJ];have:VM (x.s=x.s)=aF:=bF I;rw[this,dR];cases(x.n==0)<;>cases dI x.s<;>simp
   .have hb:=aR hb;have pV:x.k=4:=TV
    rw[f,iu,W n,W hb,K pV,RJ];congr 3;rw[bL];simp only[dq,eX];split<;>omega
   .have hb:=aR hb;have pV:x.k≠4:=TV
    have mo:x.k=5:=Vp
    have S:iu x=(!(gj x.op==6)&&RJ 0 [] x.op 2 x):=by rw[iu,W n,W hb,W pV,K mo]
    have T:(x.op==x.op)=aF:=beq_self_eq_true _;refine⟨λb w=>b=iu x/\az [] a w,?_,λV=>(zO (d:=d+1) (F:=F) (x:=x) ⟨sl,I,Aw (jH d) Z h e R⟩).mono ?_,λV=>⟨?_,e⟩⟩
    .rintro _ _ ⟨rfl,b⟩;exact⟨f.symm▸rfl,b⟩
    .rintro _ b ⟨rfl,d⟩;refine⟨_,I,d.same C,?_,e.cn d⟩;rw[S,RJ,V,T,dR,cr,B,K mo];congr 1;rw[bL];simp only[bU,ey,Ii];have:gj x.op<=6:=by
      unfold gj;split
      .omega
      split
      .omega
      split
      .omega
      split
      .omega
      split
      .omega
      split
      .omega
      omega
     omega
    rw[S,RJ,V,di,di,gr]
   have hb:=aR hb;have pV:x.k≠4:=TV
   have mo:x.k≠5:=Vp
   rw[f,iu,W n,W hb,W pV,W mo]
  .have mE:x.k=2:=Ri
   rw[mE];rfl
  have mE:x.k≠2:=Ri
  rw[bL];simp[mE]
def D1(d:Nat)(x:Ex):L:=VM (qB d x≠[])
def amY l m:T l++T m=T (l++m):=rfl
def aa0(w:aw){n:Int}(b:0<=n)(c:n<=9223372036854775807):aA ar 262 #[O U n] w λe a=>e=ao (.int .u64 n)/\a=w:=by
 refine ret (aln _ _ _ ?_);refine⟨λh=>absurd (aO h) J,λ_=>⟨?_,I⟩⟩;have:au .u64 n=n:=by
  have e:au .u64 n=n % 18446744073709551616:=I;rw[e];omega
 rw[this]
def uE(u:Nat)(h:u<=18446744073709551615):Z8 (Lib.decDigits u)<=40:=by
 have e:∀(k u:Nat),u<10 ^ (k+1)->Z8 (Lib.decDigits u)<=k+1:=by
  intro k
  induction k with
  | zero=>intro u a;rw[qg (by simpa using a)];simp
  | succ k i=>
   intro u a;by_cases m:u<10
   .rw[qg m];simp
   rw[ta m,aP,bf];have:=i (u/10) (by rw[Nat.div_lt_iff_lt_mul Z];rw[Nat.pow_succ]at a;exact a);omega
 have:=e 19 u (by have:(10:Nat) ^ (19+1)=100000000000000000000:=Z;omega);omega
def nMb:∀(u:Nat) (w:aw),u<=18446744073709551615->aA ar 261 #[.int .u64 (u:Int)] w λe a=>e=ao (ae (T (if u=0 then[]else Lib.decDigits u)))/\az [] w a:=by
 intro u
 induction u using Nat.strongRecOn with
 | _ u i=>
  intro w d;refine ret (arT ?_);refine⟨λhc=>?_,λhc=>⟨λs a=>s=T (Lib.decDigits u)/\az [] w a,λs a h=>?_,λb c=>⟨λk=>b.heap.size<=k,?_,?_⟩⟩⟩
  .have hc:u=0:=by
    have:(u:Int)=0:=R0
    omega
   rw[K hc];exact⟨I,EC _ _⟩
  .have hc:u≠0:=λe=>Um
   rw[W hc,h.1];exact⟨I,h.2⟩
  all_goals
   have hc:u≠0:=λe=>Um
   have wu:∀m:Nat,m<=18446744073709551615->au .u64 (m:Int)=(m:Int):=λm g=>by
    have e:au .u64 (m:Int)=(m:Int) % 18446744073709551616:=I;rw[e];omega
   have j:au .u64 ((u:Int).tdiv 10)=((u/10:Nat):Int):=by
    have:(u:Int).tdiv 10=((u/10:Nat):Int):=by
     rw[Int.tdiv_eq_ediv_of_nonneg (bc u)];rfl
    rw[this,wu _ J]
   have g:(UInt8.ofNat (48+u % 10)).toNat=48+u % 10:=Cq (Nat.mod_lt _ Z);have k:au .u8 (au .u64 (48+((u:Int).tmod 10)))=((UInt8.ofNat (48+u % 10)).toNat:Int):=by
    have l:(48+((u:Int).tmod 10))=((48+u % 10:Nat):Int):=by
     rw[Int.tmod_eq_emod_of_nonneg (bc u)];omega
    rw[l,wu _ J,g];have e:au .u8 ((48+u % 10:Nat):Int)=((48+u % 10:Nat):Int) % 256:=I;rw[e];omega
   have f:T (if u/10=0 then[]else Lib.decDigits (u/10))++T [UInt8.ofNat (48+u % 10)]=T (Lib.decDigits u):=by
    rw[amY];by_cases V:u<10
    .rw[K J,qg V,cb];congr 3;omega
    rw[W J,<-ta V]
   have S:Z8 (if u/10=0 then[]else Lib.decDigits (u/10))<=100:=by
    split
    .simp
    have:=uE (u/10) J;omega
   rw[j,k]
  .refine(i (u/10) J b J).mono ?_;rintro _ j ⟨rfl,e⟩;obtain⟨y,l,k,g,k3,_⟩:=uj j [UInt8.ofNat (48+u % 10)] (n:=1) (parts:=#[(0,.int .u8 ((UInt8.ofNat (48+u % 10)).toNat:Int))]) I I Z Z;refine⟨_,I,VI e,y,l,k,VI k3,[UInt8.ofNat (48+u % 10)],(SliceF.bytes (yZ g)).rd,?_,f,(c.cn e).cn k3⟩;have:(aq [UInt8.ofNat (48+u % 10)].toArray).size=1:=I;rw[cH];omega
  obtain⟨y,g,k,j,k3,l⟩:=uj b [UInt8.ofNat (48+u % 10)] (n:=1) (parts:=#[(0,.int .u8 ((UInt8.ofNat (48+u % 10)).toNat:Int))]) I I Z Z;refine⟨y,g,k,VI k3,[UInt8.ofNat (48+u % 10)],λp e=>?_,(SliceF.bytes (yZ j)).rd,(i (u/10) J g J).mono ?_⟩
  .rw[l]at e;injection e with e;subst e;exact aX _
  rintro _ m ⟨rfl,P⟩;refine⟨_,I,VI P,?_,f,(c.cn k3).cn P⟩;have:(aq [UInt8.ofNat (48+u % 10)].toArray).size=1:=I;rw[cH];omega
def ae4(w:aw){n:Int}(h:0<=n)(b:n<=9223372036854775807):aA ar 207 #[O U n] w λe c=>e=ao (ae (T (Lib.itoa n)))/\az [] w c:=by
 refine ret (akW ?_);refine⟨λhc=>?_,λhc=>⟨λa=>absurd (aO a) J,λ_=>(aa0 w h b).mono ?_⟩⟩
 .have hc:n=0:=R0
  subst hc;rw[qH (kQ _),Int.toNat_zero,qg Z];exact⟨I,EC _ _⟩
 have hc:n≠0:=R0
 rintro _ e ⟨rfl,rfl⟩;obtain⟨u,rfl⟩:∃u:Nat,n=(u:Int):=⟨n.toNat,J⟩
 refine⟨_,I,(nMb u _ J).mono ?_⟩;rintro _ f ⟨rfl,d⟩;refine⟨_,I,?_,d⟩;rw[W J,qH h,aW]
def qh(l m:S):S:=if (Z8 l)<=16384 then l++m else l
def xw(wr:L)(l:S):S:=if wr then qh l [40]else l
def yi(wr:L)(l:S):S:=if wr then qh l [41]else l
def zP:Nat->Ex->S->S
 | 0,_,l=>l
 | d+1,x,l=>if 16384<Z8 l then l else
  if x.k=1 then qh l (Lib.itoa x.n)
  else if x.k=2 then qh l x.s
  else if x.k=3 then qh l ([105,110,40]++x.s++[41])
  else if x.k=4 then(match x.dK with
   | [y]=>yi (y.k==5) (zP d y (xw (y.k==5) (qh l (eP x.op.toNat))))
   | _=>l)
  else(match x.dK with
   | [y,z]=>yi (VM (B z<=B x)) (zP d z (xw (VM (B z<=B x)) (qh (yi (VM (B y<B x)) (zP d y (xw (VM (B y<B x)) l))) ([32]++eP x.op.toNat++[32]))))
   | _=>l)
def nQ(l t r:S):Prop:=(Z8 l+Z8 t<=16384->r=l++t)/\(16384<Z8 l+(Z8 t)->16384<Z8 r)
def nQ.put l m:nQ l m (qh l m):=by
 unfold qh;refine⟨λa=>by rw[K J],λa=>?_⟩;by_cases h:Z8 l<=16384
 .rw[K h,aP];omega
 rw[W h];omega
def Gj:=@nQ.put
def nQ.trans{l t r t' r'}(h:nQ l t r)(k:nQ r t' r'):nQ l (t++t') r':=by
 refine⟨λa=>?_,λa=>?_⟩
 .rw[aP]at a;rw[h.1 J]at k;rw[k.1 UF,be]
 rw[aP]at a;by_cases b:Z8 l+Z8 t<=16384
 .refine k.2 ?_;rw[h.1 b,aP];omega
 have:=h.2 J;exact k.2 J
def nQ.refl l:nQ l [] l:=⟨λ_=>R,λh=>Zp⟩
def nQ.long{l t}(h:16384<Z8 l):nQ l t l:=⟨λa=>J,λ_=>h⟩
def nQ.opn(wr:L) l:nQ l (if wr then[40]else[]) (xw wr l):=by
 cases wr
 .exact nQ.refl _
 exact Gj _ _
def nQ.clo(wr:L) l:nQ l (if wr then[41]else[]) (yi wr l):=by
 cases wr
 .exact nQ.refl _
 exact Gj _ _
def aa1 d x wr:mC (d+1) x wr=(if wr then[40]else[])++(mC (d+1) x aM++(if wr then[41]else[])):=by
 unfold mC;cases wr
 .simp
 simp[clo,opn]
def abE{d}{x}(h:de d x=aF) wr:mC d x wr=(if wr then[40]else[])++(mC d x aM++(if wr then[41]else[])):=by
 cases d with
 | zero=>cases h
 | succ d=>exact aa1 d x wr
def amZ{d}{y}(h:de d y=aF):VM (B y<6)=(y.k==5):=by
 cases d with
 | zero=>cases h
 | succ d=>
  rw[de,H]at h;rw[bL];simp;constructor
  .intro a;refine bM λn=>?_;rw[B,W n]at a;omega
  intro a;obtain⟨_,y,z,_,o,b⟩:=qA h.1 J J J J;rw[B,K a];have:=(Ct o b).2;omega
def Ni:∀d {x:Ex} l,de d x=aF->nQ l (mC d x aM) (zP d x l)
 | 0,x,l,h=>Rl
 | d+1,x,l,h=>by
  rw[de,H]at h;obtain⟨c,a⟩:=h;have e:mC (d+1) x aM=(
  if x.k=1 then Lib.itoa x.n
  else if x.k=2 then x.s
  else if x.k=3 then[105,110,40]++x.s++[41]
  else if x.k=4 then(match x.dK with
   | [y]=>eP x.op.toNat++mC d y _
   | _=>[])
  else(match x.dK with
   | [y,z]=>mC d y _++_++mC d z _
   | _=>[])):=I
  rw[zP];by_cases b:16384<Z8 l
  .rw[K b];exact nQ.long b
  rw[W b,e];have part:∀{y:Ex} wr l,de d y=aF->nQ l (mC d y wr) _:=fun{y} wr l h=>by
   rw[abE h wr];exact(nQ.opn wr l).trans ((Ni d _ h).trans (nQ.clo wr _))
  by_cases k:x.k=1
  .rw[K k,K k];exact Gj _ _
  by_cases d:x.k=2
  .rw[W k,W k,K d,K d];exact Gj _ _
  by_cases k3:x.k=3
  .rw[W k,W k,W d,W d,K k3,K k3];exact Gj _ _
  by_cases e:x.k=4
  .obtain⟨y,h,_⟩:=vT c e;rw[W k,W k,W d,W d,W k3,W k3,K e,K e,h];rw[h]at a;simp[kl,dR]at a;dsimp only;rw[amZ a];exact(Gj _ _).trans (part _ _ a)
  obtain⟨_,y,z,h,_⟩:=qA c k d k3 e;rw[W k,W k,W d,W d,W k3,W k3,W e,W e,h];rw[h]at a;simp[kl,dR,H]at a;exact((part _ _ a.1).trans (Gj _ _)).trans (part _ _ a.2)
def ago{d}{x}(h:de d x=aF):∀wr l,Z8 l+Z8 (mC d x wr)<=16384->qz d x wr l=l++mC d x wr:=by
 induction d generalizing x with
 | zero=>cases h
 | succ d i=>
  intro wr l f;rw[de,H]at h;obtain⟨b,a⟩:=h;have c:¬16384<Z8 l:=J
  rw[qz,W c];rw[mC]at f⊢;rw[<-agv];have p:=M7 wr (opn wr []++(
  if x.k=1 then Lib.itoa x.n
  else if x.k=2 then x.s
  else if x.k=3 then[105,110,40]++x.s++[41]
  else if x.k=4 then(match x.dK with
   | [y]=>eP x.op.toNat++mC d y (VM (B y<6))
   | _=>[])
  else(match x.dK with
   | [y,z]=>mC d y (VM (B y<B x))++([32]++eP x.op.toNat++[32])++mC d z (VM (B z<=B x))
   | _=>[])))
  have P:=bp (Nat.add_le_add_left p (Z8 l)) f;by_cases k:x.k=1
  .rw[K k,K k,oL wr l,be]
  by_cases e:x.k=2
  .rw[W k,W k,K e,K e,oL wr l,be]
  by_cases k3:x.k=3
  .rw[W k,W k,W e,W e,K k3,K k3,oL wr l,be]
  by_cases g:x.k=4
  .obtain⟨y,d,_⟩:=vT b g;rw[W k,W e,W k3,K g,d]at P;rw[W k,W k,W e,W e,W k3,W k3,K g,K g,d];rw[d]at a;dsimp only at P⊢;simp[kl,dR]at a;simp at P;rw[i a _ _ (by rw[oL wr l];simp;omega),oL wr l];simp
  obtain⟨_,y,z,j,_⟩:=qA b k e k3 g;rw[W k,W e,W k3,W g,j]at P;rw[W k,W k,W e,W e,W k3,W k3,W g,W g,j];rw[j]at a;dsimp only at P⊢;simp[kl,dR,H]at a;simp only[aP]at P;have m:qz d y _ _=opn wr l++mC d y (VM (B y<B x)):=i a.1 _ _ (by rw[oL wr l];simp;omega);rw[m,i a.2 _ _ (by rw[oL wr l];simp only[aP];omega),oL wr l];simp
def abP{d}{x}(s:de d x=aF)(n:lq d x):qB d x=(if 16384<Z8 (zP d x [])∨(iG (zP d x [])).2.1≠0 then[]else zP d x [])/\((iG (zP d x [])).2.1=0->Z8 (zP d x [])<=16384->zP d x []=qz d x aM []):=by
 have r:=Ni d (x:=x) [] s;unfold nQ at r;rw[bE,bO,cb]at r;have long:∀l,16384<(Z8 l)->(iG l).2.1≠0:=λl h=>by
  have:cQ l=([],2, -1):=by rw[cQ,K h]
  unfold iG;rw[this,K Z];exact Z
 by_cases t:Z8 (mC d x aM)<=16384
 .have e:=by
   have:=ago s aM [] TU;rwa[cb]at this
  rw[r.1 t,qB,K s,e];refine⟨?_,λ_ _=>I⟩;by_cases c:(iG (mC d x aM)).2.1≠0
  .rw[K c,K (.inr c)]
  rw[W c,W (by rintro(h | h);omega;exact c h)]
 have a:16384<Z8 (qz d x aM []):=by
  refine bM λn=>?_;have:=FG d aM [] s J;rw[cb]at this;rw[this]at n;omega
 refine⟨?_,λ_ h=>J⟩;rw[K (.inl (r.2 J)),qB,K s,K (long _ a)]
def uF l m {K} (b:Z8 m<=40) (h:Z8 l<=K) (a:16424<=K):Z8 (qh l m)<=K:=by
 unfold qh;split
 .rw[aP];omega
 exact h
def AU wr l {K} (h:Z8 l<=K) (a:16424<=K):Z8 (xw wr l)<=K:=by
 cases wr
 .exact h
 exact uF _ _ Z h a
def HF wr l {K} (h:Z8 l<=K) (a:16424<=K):Z8 (yi wr l)<=K:=by
 cases wr
 .exact h
 exact uF _ _ Z h a
def Ky:∀d {x:Ex} l {K:Nat},de d x=aF->lq d x->Z8 l<=K->16424<=K->Z8 (zP d x l)<=K
 | 0,x,l,K,h,_,_,_=>Rl
 | d+1,x,l,K,h,⟨n,s⟩,c,a=>by
  rw[de,H]at h;obtain⟨e,b⟩:=h;rw[zP];split
  .exact c
  split
  .exact uF _ _ (by have:=Lib.itoa_length_le x.n n.1 n.2;omega) c a
  split
  .rename_i h;exact uF _ _ (by have:=iH (kb e (.inl h));omega) c a
  split
  .rename_i h;refine uF _ _ ?_ c a;have:=iH (kb e (.inr h));rw[aP,aP];simp only[aY,bE];omega
  split
  .rename_i h;obtain⟨y,f,_⟩:=vT e h;rw[f]at b s⊢;simp only[kl,dR]at b;have:=ma x.op.toNat;exact HF _ _ (Ky d _ b (s y R) (AU _ _ (uF _ _ J c a) a) a) a
  rename_i k f k3 g;obtain⟨i,y,z,h,_⟩:=qA e k f k3 g;rw[h]at b s⊢;simp only[kl,dR,H]at b;have:=ma x.op.toNat;exact HF _ _ (Ky d _ b.2 (s z R) (AU _ _ (uF _ _ (by rw[aP,aP];simp only[aY,bE];omega) (HF _ _ (Ky d _ b.1 (s y R) (AU _ _ c a) a) a) a) a) a) a
structure Pq (w:aw) (b:Nat) (sl:Sl) (l:S):Prop where
 blk:aG w b 384 [sl.v]
 buf:Bf w (b+1) sl l
section
variable {w w0 w1 w2 w':aw} {b k0:Nat} {sl sl' SG:Sl} {l:S}
def Pq.only(h:Pq w b sl l)(O:az [] w w'):Pq w' b sl l:=⟨O.blk h.blk R,h.buf.keep λg _ a=>O.block g a R⟩
def Pq.lb(h:Pq w b sl l):b<w.heap.size:=h.blk.lt
def jV.sm(M:jV b sl w0 sl' w1)(h:k0≠b)(a:sl.a≠Hg ⟨k0,0,ZQ⟩)(c:k0<w0.heap.size)(S:jV b sl' w1 SG w2):cF [k0] w1 w2:=S.same h (λe=>by
 rcases M.2 k0 e with e | e
 .exact a e
 omega) (by have:=M.1.size;omega)
def Pq.W2(h:Pq w0 b sl l){k}(a:k<b):¬(k=b∨sl.a=Hg ⟨k,0,ZQ⟩):=by
 rintro(e | e)
 .omega
 have:=(h.buf.lt e).1;omega
def jV.kp(M:jV b sl w0 sl' w1)(a:Pq w0 b sl l)(d:k0≠b)(f:sl.a≠Hg ⟨k0,0,ZQ⟩)(g:k0<w0.heap.size)(S:jV b sl' w1 SG w2):cj (λk=>k<b∨k=k0) w1 w2:=λk h T=>S.1.block k T λc=>by
 have i:=a.lb;rcases h with h | rfl
 .rcases c with e | e
  .omega
  rcases M.2 k e with e | e
  .exact a.W2 h (.inr e)
  omega
 rcases c with e | e
 .exact d e
 rcases M.2 k e with e | e
 .exact f e
 omega
def Bn(h:Pq w b sl l) m (a:Z8 l+Z8 m<=140737488355328):aA ar 389 #[ah (Hg ⟨b,0,ZQ⟩),ae (T m)] w λe w'=>∃sl',e=ao (aj #[])/\Pq w' b sl' (qh l m)/\jV b sl w sl' w':=by
 refine iE (asf ?_);have n:=h.buf.len;have c:=h.lb;refine⟨sl,Mn h.blk 0 I,λhc=>?_,λhc=>⟨sl,I,?_,UI _ _ _⟩⟩
 .have hc:Z8 l<=16384:=Ro
  obtain⟨s,w1,f,i,k3,d⟩:=Cd h.buf m J a;have F6:∀g,s.a=Hg ⟨g,0,ZQ⟩->b<g:=λg hg=>by
   rcases d with e | e
   .rw[e]at hg;exact(h.buf.lt hg).1
   rw[e]at hg;injection hg with hg;injection hg with hg;omega
  refine⟨sl,Mn h.blk 0 I,s,w1,f,b,0,_,_,I,k3.blk h.blk λe=>by have:=(h.buf.lt e).1;omega,R,λw2 O j=>⟨s,I,⟨j,?_⟩,?_,?_⟩⟩
  .rw[qh,K hc];exact i.keep λg hg l=>O.block g l Uy
  .exact(k3.mono λk _ e=>.inr e).trans (O.p (F:=λk=>k=b) λx hx=>.inl KB) λk e=>.inl (.inl e)
  intro k b;rcases d with e | e
  .rw[e]at b;exact .inl b
  rw[e]at b;injection b with b;injection b with b;exact .inr J
 have hc:¬(Z8 l)<=16384:=M1
 rw[qh,W hc];exact h
end
abbrev RgC(d:Nat):Prop:=∀{F:aK} {w:aw} {b:Nat} {sl:Sl} {l:S} {x:Ex} {c:aJ},de d x=aF->lq d x->vS d w F x c->(∀k,F k->k<b)->Pq w b sl l->Z8 l<=16424->
 aA ar 366 #[ah (Hg ⟨b,0,ZQ⟩),ai c.toArray] w λe a=>∃sl',e=ao (aj #[])/\Pq a b sl' (zP d x l)/\jV b sl w sl' a
def HG{d}(R:RgC d){F}{w}{b}{sl}{l}{x}{cs} wr (j:de d x=aF) (n:lq d x) (m:vS d w F x cs) (h:∀k,F k->k<b) (hP:Pq w b sl l) (i:Z8 l<=16424):
  aA ar 390 #[ah (Hg ⟨b,0,ZQ⟩),ai cs.toArray,ak wr] w λe q=>∃sl',e=ao (aj #[])/\Pq q b sl' (yi wr (zP d x (xw wr l)))/\jV b sl w sl' q:=by
 obtain⟨u,rfl⟩:=lK m;refine iE (asg ?_);intro p r Q a c;have t:=hP.lb;have L:=hP.only c;have o:p≠b:=J
 have f:sl.a≠Hg ⟨p,0,ZQ⟩:=λe=>Vb
 refine⟨λg=>∃s,Pq g b s (xw wr l)/\jV b sl r s g,?_,λhw=>(Bn L [40] Vm).mono ?_,λhw=>⟨sl,by rw[hw];exact L,UI _ _ _⟩⟩
 .rintro g ⟨s,y,b⟩;refine(R j n ((jH d).keep (gX m c) λk z T=>b.1.block k T (L.W2 (h k z))) h y (AU _ _ i (aX _))).mono ?_;rintro _ B ⟨X,rfl,v,e⟩;refine⟨I,b.sm o f a e,λhw=>(Bn v [41] (by have:=(λA w=>Ky d (x:=x) A (K:=16424) j n w (aX _)) _ (AU wr l i (aX _));rw[bf];omega)).mono ?_,λhw=>⟨X,I,?_,(b.trans e).after c⟩⟩
  .rintro _ x ⟨l,rfl,k,d⟩;refine⟨I,(b.trans e).sm o f a d,l,I,?_,((b.trans e).trans d).after c⟩;unfold yi;rw[aQ hw];exact k
  unfold yi;rw[W UQ];exact v
 rintro _ w ⟨l,rfl,e,d⟩;refine⟨I,(UI b sl r).sm o f a d,l,?_,d⟩;unfold xw;rw[aQ hw];exact e
def er1{k j:Nat}{op}(h:k<6)(b:((fG[k]?).getD [])[j]? =Hg op):((qK[k]?).getD [])[j]? =Hg (eP op.toNat):=by
 have a:j<4:=by
  have d:=(bd.1 b).1;have c:∀k,k<6->Z8 ((fG[k]?).getD [])<=4:=Z
  have:=c k h;omega
 have g:∀k,k<6->∀j,j<4->∀o,((fG[k]?).getD [])[j]? =Hg o->((qK[k]?).getD [])[j]? =Hg (eP o.toNat):=by
  intro k h j a o c
  match k,h,j,a with
  | 0,_,0,_=>simp[fG]at c;subst c;rfl
  | 0,_,j+1,_=>simp[fG]at c
  | 1,_,0,_=>simp[fG]at c;subst c;rfl
  | 1,_,j+1,_=>simp[fG]at c
  | 2,_,0,_=>simp[fG]at c;subst c;rfl
  | 2,_,1,_=>simp[fG]at c;subst c;rfl
  | 2,_,j+2,_=>simp[fG]at c
  | 3,_,0,_=>simp[fG]at c;subst c;rfl
  | 3,_,1,_=>simp[fG]at c;subst c;rfl
  | 3,_,2,_=>simp[fG]at c;subst c;rfl
  | 3,_,3,_=>simp[fG]at c;subst c;rfl
  | 4,_,0,_=>simp[fG]at c;subst c;rfl
  | 4,_,1,_=>simp[fG]at c;subst c;rfl
  | 4,_,j+2,_=>simp[fG]at c
  | 5,_,0,_=>simp[fG]at c;subst c;rfl
  | 5,_,1,_=>simp[fG]at c;subst c;rfl
  | 5,_,2,_=>simp[fG]at c;subst c;rfl
  | 5,_,j+3,_=>simp[fG]at c
 exact g k h j a op b
def Aft{k}(h:k<6):((fG[k]?).getD []).Nodup:=by
 have:∀k,k<6->((fG[k]?).getD []).Nodup:=Z
 exact this k h
def acR{op}(h:1<=op)(a:op<=13):op∈(fG[(gj op).toNat]?).getD []:=by
 have:∀n:Nat,n<14->1<=n->((n:Int))∈(fG[(gj n).toNat]?).getD []:=Z
 have:=this op.toNat J J;rwa[fy J]at this
def Cw:∀d,RgC d
 | 0,_,_,_,_,_,_,_,_,_,h,_,_,_=>h.elim
 | d+1,u,P,b,sl,l,x,D,v,⟨n,T⟩,⟨t,E,G⟩,F,hP,p=>by
  subst E;refine iE (ar6 ?_);rw[de,H]at v;obtain⟨h,ha⟩:=v;intro m w Q a f;have N:=hP.lb;have L:=hP.only f;have A:=Aw (jH d) Z G f R;have o:m≠b:=J
  have c:sl.a≠Hg ⟨m,0,ZQ⟩:=λe=>Vb
  have M:=hP.buf.len;have r:=UI b sl w;have sub:∀{j:aw} {g:Sl} {i:Nat} {y:Ex},jV b sl w g j->x.dK[i]? =Hg y->∃ad s,cM t (i:Int) 6 ad/\ad.block<b/\aD j ad (nI y.k y.n y.s y.op s y.a)/\vS d j u y (nI y.k y.n y.s y.op s y.a):=fun{j g i y} m1 hy=>by
   have q:=Rx (jH d) Z A m1.1 λk hk _=>L.W2 (F k hk);have Y:=q.len;have V:=(bd.1 hy).1;obtain⟨ad,y',D,x,b,y,X,z,e⟩:=q.get (bc i) J;rw[aW,hy]at b;injection b with b;subst b;obtain⟨s,rfl⟩:=lK e;exact⟨ad,s,x,F _ y,z,e⟩
  refine⟨sl,Mn L.blk 0 I,λhc=>⟨sl,I,?_,TM f⟩,λhc=>?_⟩
  .rw[zP,K Ro];exact L
  have hc:¬16384<Z8 l:=M1
  have V:zP (d+1) x l=(if x.k=1 then qh l (Lib.itoa x.n)
  else if x.k=2 then qh l x.s
  else if x.k=3 then qh l ([105,110,40]++x.s++[41])
  else if x.k=4 then(match x.dK with
   | [y]=>yi (y.k==5) (zP d y (xw (y.k==5) (qh l (eP x.op.toNat))))
   | _=>l)
  else(match x.dK with
   | [y,z]=>yi (VM (B z<=B x)) (zP d z (xw (VM (B z<=B x)) (qh (yi (VM (B y<B x)) (zP d y (xw (VM (B y<B x)) l))) ([32]++eP x.op.toNat++[32]))))
   | _=>l)):=by rw[zP,W hc]
  refine⟨λhk=>?_,λk1=>⟨λhk=>?_,λk2=>⟨λhk=>⟨?_,?_,?_⟩,λk3=>⟨λhk=>?_,λk4=>⟨λ_=>?_,λX=>?_⟩⟩⟩⟩⟩
  .have hk:x.k=1:=Mi
   have i:0<=x.n:=by
    rw[iu,K hk]at h;have:=(xJ h).1;split at this<;>omega
   refine(ae4 w i n.2).mono ?_;rintro _ j ⟨rfl,b⟩;have k:=Lib.itoa_length_le x.n n.1 n.2;refine⟨_,I,b.same C,(Bn (L.only b) (Lib.itoa x.n) J).mono ?_⟩;rintro _ y ⟨e,rfl,q,d⟩;exact⟨I,(TM b).sm o c a d,e,I,by rw[V,K hk];exact q,(d.after b).after f⟩
  .have hk:x.k=2:=Mi
   have k1:x.k≠1:=J
   have e:=iH (kb h (.inl hk));refine(Bn L x.s J).mono ?_;rintro _ i ⟨d,rfl,q,b⟩;exact⟨I,r.sm o c a b,d,I,by rw[V,W k1,K hk];exact q,b.after f⟩
  .have hk:x.k=3:=Mi
   have b:=iH (kb h (.inr hk));rw[cH];omega
  .have hk:x.k=3:=Mi
   have b:=iH (kb h (.inr hk));rw[BE];have:(aq #[105,110,40]).size=3:=I;omega
  .have hk:x.k=3:=Mi
   have e:=iH (kb h (.inr hk));have k:Z8 ([105,110,40]++x.s++[41]:S)=Z8 x.s+4:=by
    rw[aP,aP];simp only[aY,bE];omega
   rw[VO];refine(Bn L _ J).mono ?_;rintro _ i ⟨d,rfl,q,b⟩;exact⟨I,r.sm o c a b,d,I,by rw[V,W J,W J,K hk];exact q,b.after f⟩
  .have hk:x.k=4:=Mi
   obtain⟨y,hy,rh⟩:=vT h hk;have k:de d y=aF:=ZM
   have Y:lq d y:=T y Ui;have XJ:=ma x.op.toNat;have q:zP (d+1) x l=yi (y.k==5) (zP d y (xw (y.k==5) (qh l (eP x.op.toNat)))):=by rw[V,W J,W J,W J,K hk,hy]
   refine⟨λz=>∃e,Pq z b e (qh l (eP x.op.toNat))/\jV b sl w e z,?_,λho=>?_,λho=>?_⟩
   .rintro z ⟨e,h5,m5⟩;obtain⟨p1,s,x,e2,_,_⟩:=sub (i:=0) m5 RI;refine⟨p1,x,λw6 dN=>?_⟩;have m6:=m5.trans (TM dN);obtain⟨aS,bV,am,bv,b,aC⟩:=sub (i:=0) m6 (y:=y) RI;have:=cM.ET am x;subst this;refine⟨_,_,_,_,_,_,b,aS,x,y.k,b.dx 0 _ I,(HG (Cw d) (y.k==5) k Y aC F (h5.only dN) (uF _ _ J p (aX _))).mono ?_⟩;rintro _ w7 ⟨aT,rfl,h7,m7⟩;exact⟨I,m6.sm o c a m7,aT,I,by rw[q];exact h7,(m6.trans m7).after f⟩
   .have ho:x.op=14:=JB
    refine(Bn L [45] Vm).mono ?_;rintro _ y ⟨b,rfl,i,d⟩;exact⟨I,r.sm o c a d,b,by rw[ho];exact i,d⟩
   have ho:x.op=15:=by
    have:x.op≠14:=JB
    omega
   refine(Bn L [33] Vm).mono ?_;rintro _ y ⟨b,rfl,i,d⟩;exact⟨I,r.sm o c a d,b,by rw[ho];exact i,d⟩
  .have k1:x.k≠1:=Sh
   have k2:x.k≠2:=Nn
   have k3:x.k≠3:=RO
   have k4:x.k≠4:=RY
   obtain⟨hk,y,z,hy,Xp,NA⟩:=qA h k1 k2 k3 k4;have A8:de d y=aF/\de d z=aF:=ZM
   have E4:lq d y:=T y Ui;have Tx:lq d z:=T z Ui;have XJ:=ma x.op.toNat;have gG:B x=gj x.op:=by rw[B,K hk]
   obtain⟨r0,r5⟩:=Ct Xp NA;have g8:zP (d+1) x l=yi (VM (B z<=B x)) (zP d z (xw (VM (B z<=B x)) (qh (yi (VM (B y<B x)) (zP d y (xw (VM (B y<B x)) l))) ([32]++eP x.op.toNat++[32])))):=by rw[V,W k1,W k2,W k3,W k4,hy]
   refine(zO (show vS (d+1) _ u x (nI x.k x.n x.s x.op t x.a)from⟨t,I,A⟩)).mono ?_;rintro _ dk ⟨rfl,dS⟩;have z0:=f.size;have EW:=dS.size;refine⟨_,I,dS.same C,(Nf dk).mono ?_⟩;rintro _ dz ⟨l2,rfl,hN,dl⟩;have CA:=dl.size;have m0:=hN.len;have m6:Z8 fG=6:=I;obtain⟨kr,co⟩:∃kr:Nat,B x=(kr:Int):=⟨(B x).toNat,J⟩
   have eQ:kr<6:=J
   obtain⟨p2,x1,XE,e1,e2,e3,e4,e5,l3,rfl,hM⟩:=(Mr (wZ nP) hN Z).get (i:=B x) J J;have cC:(fG[kr]?).getD []=x1:=by
    rw[co,aW]at e2;rw[e2];rfl
   refine⟨l2,I,dl.same C,p2,e1,l3,e5,λeF dV=>?_⟩;have fd:jV b sl w sl eF:=TM ((dS.cn dl).cn dV);have X8:=L.only ((dS.cn dl).cn dV);have f5:=Aw nP Z hM dV R;have g9:=dV.size;obtain⟨p3,s,f1,f2,f3,f4⟩:=sub (i:=0) fd (y:=y) RI;refine⟨λk=>k<b∨k=m,.inr I,p3,f1,.inl f2,_,_,_,_,_,_,f3,p3,f1,_,_,_,_,_,_,f3,(zO f4).mono ?_⟩;rintro _ eM ⟨rfl,dF⟩;have Tu:=dF.size;have dO:=fd.trans (TM dF);have gO:Z8 (xw (VM (B y<B x)) l)<=16424:=AU _ _ p (aX _);refine⟨_,I,dF.same C,VI dF,(HG (Cw d) (VM (B y<B x)) A8.1 E4 (gX f4 dF) F (X8.only dF) p).mono ?_⟩;rintro _ fR ⟨SI,rfl,BS,cc⟩;have ce:=dO.trans cc;have ip:=cc.1.size;generalize hA:yi (VM (B y<B x)) (zP d y (xw (VM (B y<B x)) l))=el at*
   have gE:Z8 el<=16424:=by rw[<-hA];exact HF _ _ (Ky d _ A8.1 E4 gO (aX _)) (aX _)
   have ge:∀{gV:aw} {Ly:Sl},jV b SI fR Ly gV->aB DY 1 gV (λk=>dk.heap.size<=k/\k<dz.heap.size) l3 x1:=fun{gV Ly} bY=>by
    have d:jV b sl eF Ly gV:=((TM dF).trans cc).trans bY;refine Rx nP Z f5 d.1 λk hk _ h=>?_;rcases h with e | e
    .omega
    have:=(L.buf.lt e).2;omega
   have t1:=hM.len;have t2:=hM.cap;have t3:=hM.big;refine⟨I,dO.sm o c a cc,dO.kp L o c a cc,λnv i gV=>∃(Y:Nat) (Ly:Sl),Y<=Z8 x1/\i=(Y:Int)/\nv=(Z8 x1)-Y/\Pq gV b Ly (if x.op∈x1.take Y then qh el ([32]++eP x.op.toNat++[32])else el)/\jV b SI fR Ly gV,Z8 x1,⟨0,SI,bh _,I,I,by rw[ci,W R];exact BS,UI _ _ _⟩,?_⟩;rintro nv _ gV ⟨Y,Ly,hj,rfl,rfl,xh,bY⟩;have gT:x1.Nodup:=cC▸Aft eQ;refine⟨λbT=>?_,λpf mD iV=>?_⟩
   .have bT:(Y:Int)<(l3.n:Int):=aO bT;obtain⟨p5,q,iD,g1,y,g3,g4,g5,g6⟩:=(ge bY).get (bc Y) bT;unfold DY at g6;subst g6;rw[aW]at y;refine⟨λiO=>∃d:Sl,Pq iO b d (if x.op∈x1.take (Y+1)then qh el ([32]++eP x.op.toNat++[32])else el)/\jV b SI fR d iO,?_,p5,g1,q,g5,λhe iz z=>(Wh iz).mono ?_,λhe jN mT=>⟨Ly,?_,bY.trans (TM mT)⟩⟩
    .rintro iO ⟨d,b,e⟩;exact⟨(Z8 x1)-(Y+1),J,Y+1,d,J,TE,I,b,e⟩
    .have he:q=x.op:=RH
     subst he;rintro _ iU ⟨l6,rfl,e,iP⟩;have n0:=e.len;have n6:Z8 qK=6:=I;obtain⟨p6,x6,mt,u1,u2,u3,u4,u5,l7,rfl,hS⟩:=e.get (i:=B x) J J;have lT:(qK[kr]?).getD []=x6:=by
      rw[co,aW]at u2;rw[u2];rfl
     have b:=er1 (k:=kr) (j:=Y) eQ (by rw[cC];exact y);rw[lT]at b;have v0:=hS.len;obtain⟨p7,s7,mK,v1,v2,v3,v4,v5,v6⟩:=hS.get (i:=(Y:Int)) (bc Y) (by have:=(bd.1 b).1;omega);unfold ju at v6;subst v6;rw[aW,b]at v2;injection v2 with v2;subst v2;have BO:(aq #[32]).size=1:=I;have iF:=bY.trans (TM (z.cn iP));have xP:Z8 ([32]++eP x.op.toNat++[32]:S)=Z8 (eP x.op.toNat)+2:=by
      rw[aP,aP];simp only[aY,bE];omega
     have iS:x.op∉x1.take Y:=λhm=>by
      obtain⟨k,i⟩:=nZ hm;rw[iX]at i;split at i
      .rename_i q;have:=(List.getElem?_inj J gT).1 (i.trans y.symm);omega
      cases i
     rw[W iS]at xh;refine⟨l6,I,iP.same (by
      have:=ce.1.size;have:=bY.1.size;have:=z.size;simp;omega),p6,u1,l7,u5,p7,v1,_,v5,R5,by rw[BE];omega,?_⟩
     rw[Kx];refine(Bn (xh.only (z.cn iP)) _ J).mono ?_;rintro _ li ⟨lE,rfl,X1,iN⟩;refine⟨I,(ce.trans iF).sm o c a iN,lE,?_,iF.trans iN⟩;rw[K (by rw[bq,y];simp)];exact X1
    have he:q≠x.op:=RH
    have:(x.op∈x1.take (Y+1))↔(x.op∈x1.take Y):=by
     rw[bq,y,dc];simp;intro e;exact absurd e.symm he
    simp only[this];exact xh.only mT
   have pf:¬(Y:Int)<(l3.n:Int):=aR pf;have:Y=Z8 x1:=J
   subst this;have oR:x.op∈x1.take (Z8 x1):=by
    rw[br (aX _)];have:=acR Xp NA;rw[<-gG,co,aW,cC]at this;exact this
   rw[K oR]at xh;have e:=(ce.trans bY).trans (TM iV);obtain⟨p8,sz,f1,f2,f3,f4⟩:=sub (i:=1) e (y:=z) RI;refine⟨λk=>k<b∨k=m,.inr I,p8,f1,.inl f2,_,_,_,_,_,_,f3,p8,f1,_,_,_,_,_,_,f3,(zO f4).mono ?_⟩;rintro _ ra ⟨rfl,rU⟩;have q:=e.trans (TM rU);have pi:=e.1.size;have xP:Z8 ([32]++eP x.op.toNat++[32]:S)<=40:=by
    rw[aP,aP];simp only[aY,bE];omega
   refine⟨_,I,rU.same C,VI rU,(HG (Cw d) (VM (B z<=B x)) A8.2 Tx (gX f4 rU) F ((xh.only iV).only rU) (uF _ _ xP gE (aX _))).mono ?_⟩;rintro _ tw ⟨oF,rfl,oN,nO⟩;exact⟨I,q.sm o c a nO,q.kp L o c a nO,oF,I,by rw[g8];exact oN,(q.trans nO).after f⟩
  have k1:x.k≠1:=Sh
  have k2:x.k≠2:=Nn
  have k3:x.k≠3:=RO
  have k4:x.k≠4:=RY
  have X:x.k≠5:=by simpa using X
  exact absurd (qA h k1 k2 k3 k4).1 X
def Bf.bytes{w}{B}{s}{l}(h:Bf w B s l):uN w s l:=by
 rcases h with⟨rfl,rfl⟩ | ⟨g,tail,a,d,b,e,c,f,i,j⟩
 .exact⟨I,λh=>absurd I h⟩
 exact⟨c,λ_=>⟨_,a,b.cells 0 _ λk v hj=>JV⟩⟩
def aa2{d}{w}{F}{x}{cs}(a:vS d w F x cs)(l:∀e,xI e x)(n:lq d x):
  aA ar 340 #[ai cs.toArray] w λe o=>e=ao (aj #[ae (T (qB d x)),ak (D1 d x)])/\az [] w o:=by
 obtain⟨z,rfl⟩:=lK a;refine ret (ar1 ?_);intro s v Q L b;have i:=(jH d).inHeap a;refine(blb d l (gX a b)).mono ?_;rintro _ y ⟨rfl,p⟩;have A:=b.size;have B:=p.size;have g:=b.cn p;refine⟨_,I,p.same C,λhs=>?_,λhs m q u r f j=>?_⟩
 .have hs:de d x=aM:=Jm
  rw[D1,qB,W VW];exact⟨I,g⟩
 have hs:de d x=aF:=Jm
 have z2:=f.size;have kz:=g.cn f;have P:Pq q m Sl.nil []:=⟨j,.inl ⟨I,I⟩⟩
 refine(Cw d hs n (gX i kz) (λk hk=>ZD) P Z).mono ?_;rintro _ w3 ⟨E,rfl,D,S⟩;have z3:=S.1.size;have db:az [] w w3:=(kz.AY S.1).only λk hk=>by
  rcases hk with rfl | e
  .omega
  cases e
 obtain⟨F,Q3⟩:=abP hs n;have iw:zP d x []≠[]:=by
  intro e;have⟨c,t,k,_⟩:=wU d aM hs n;have h:=Ni d (x:=x) [] hs;by_cases w:Z8 (mC d x aM)<=16384
  .have:=h.1 TU;rw[e,k]at this;simp at this
  have:=h.2 TU;rw[e]at this;simp at this
 generalize hG:zP d x []=G at*
 refine⟨I,S.same J (λe=>Jh) J,E,D.blk,G,D.buf.bytes,(aaY w3 G).mono ?_⟩;rintro _ w4 ⟨ys,rfl,hY,H⟩;have z4:=H.size;have⟨d2,A6⟩:=hY.ex;obtain⟨yl,rfl,_⟩:=hY.cells;have pz:=H.blk D.blk R;refine⟨_,_,_,_,_,_,_,_,I,H.same C,E,pz,λk2 k3 w5 mE nT yw tD Y vi=>?_⟩;have V:=(db.cn H).cn Y;refine(MQ aM d (gX a V) (gX A6 Y)).mono ?_;rintro _ w6 ⟨rfl,N⟩;have X:=V.cn N;have T:((aq G.toArray).size)=Z8 G:=by
  have:(aq G.toArray).size=Z8 G:=cH G;rw[this]
 refine⟨_,I,N.same C,E,N.blk vi R,?_⟩;rw[T];by_cases M:16384<Z8 G∨(iG G).2.1≠0
 .have c:(VM ((Z8 G:Int)>16384)||((iG G).2.1 !=0))=aF:=by
   rcases M with h | h
   .rw[bF J,N3]
   have:((iG G).2.1 !=0)=aF:=Zp
   rw[this,oQ]
  rw[c,N3];rw[K M]at F;refine⟨λ_=>?_,λh=>Rl⟩;rw[D1,F];exact⟨I,X⟩
 have t:Z8 G<=16384:=J
 have k:=by
  refine bM λh=>M (.inr h)
 have e:=Q3 k t;have c:Sim x (iG G).1:=by
  have:=Kl hs n (by rw[<-e];exact k);rw[<-e]at this;exact this.2
 rw[W M]at F;rw[c.same d,k,bC J];refine⟨λh=>Rl,λ_=>?_⟩;rw[D1,F,bF iw];exact⟨I,X⟩
section
variable {w:aw} {F:aK} {x:Ex} {cs:aJ}
def Kz(c:rE aM w F x cs)(n:MU x)(s:Bh x<=1759218604441):
  aA ar 340 #[ai cs.toArray] w λe a=>e=ao (aj #[ae (T (xK x)),ak (ux x)])/\az [] w a:=by
 have⟨d,h⟩:=c;have h:=AG h;refine(aa2 h (λe=>MT e x J) (n d)).mono ?_;rintro _ a ⟨rfl,b⟩;rw[D1,OX (MS h)];exact⟨I,b⟩
def afh(h:rE aM w F x cs)(n:MU x)(s:Bh x<=1759218604441):
  aA ar 338 #[ai cs.toArray] w λe a=>e=ao (ak (ux x))/\az [] w a:=by
 obtain⟨sl,rfl⟩:=dM h;refine ret (alO ?_);intro g i f d c;refine(Kz ((gp aM).keep h λk _ b=>c.block k b R) n s).mono ?_;rintro _ j ⟨rfl,p⟩;exact⟨_,_,I,p.same C,I,c.cn p⟩
def HH(h:rE aM w F x cs)(n:MU x)(s:Bh x<=1759218604441):
  aA ar 309 #[ai cs.toArray] w λe a=>e=ao (ae (T (xK x)))/\az [] w a:=by
 obtain⟨sl,rfl⟩:=dM h;refine ret (alK ?_);intro g i f d c;refine(Kz ((gp aM).keep h λk _ b=>c.block k b R) n s).mono ?_;rintro _ j ⟨rfl,p⟩;exact⟨_,_,I,p.same C,I,c.cn p⟩
def P7(h:rE aM w F x cs):
  aA ar 339 #[ai cs.toArray] w λe a=>e=ao (ak (rA x))/\az [] w a:=by
 have⟨d,h⟩:=h;have h:=AG h;cases d with
 | zero=>exact h.elim
 | succ d=>
 obtain⟨sl,rfl,s⟩:=h;refine ret (alP ?_);intro k w f d c;have e:=iC x.s [];rw[e,s.len];exact⟨I,c⟩
end
def _root_.Go.Kt.Cells.part{w}{p}{cs ds}(h:aD w p cs) n (hd:∀j v,ds[j]? =Hg v->cs[n+j]? =Hg v):aD w (p.add n) ds:=λj v a=>by
 rw[sf];exact h _ v (hd j v a)
def tf{c:aJ}{n i:Nat}{v u}(h:[u][i]? =Hg v)(a:c[n]? =Hg u):c[n+i]? =Hg v:=by
 cases i with
 | zero=>
  rw[cZ,cd]at h;subst h;exact a
 | succ i=>simp at h
def KA{k}{n}{xc}{a}{i}{v}(h:xc[i]? =Hg v):(Wj k n xc a)[2+i]? =Hg v:=by
 rw[oS];show(xc++[Value.int U a])[i]? =Hg v;rw[ca (bd.1 h).1];exact h
abbrev yj(w:aw)(b:Nat)(n m a:Int):Prop:=aG w b 299 [O U n,O U m,O U a]
def only1{b}{w w'}(h:az [] w w'):az [b] w w':=h.weaken (bs':=[b]) λ_ h=>Rl
def gI{b}{w w' tQ}(h:az [b] w w')(k:az [b] w' tQ):az [b] w tQ:=h.trans k λx a=>.inl a
section
variable {w:aw} {F:aK} {b:Nat} {n m a:Int}
def AV{f:Sl}{q:X Ac}(hc:yj w b n m a)(s:jh aM (pI aM) 9 78 w F f q)(x:∀k,F k->k≠b)(z:∀y,y∈q->BK y)(E:jd q<=8388608)(C:0<=a)(o:a<=1152921504606846976):
  aA ar 306 #[ah (Hg ⟨b,0,ZQ⟩),f.v] w λe t=>e=ao (ak (q.all iM))/\(∃c:Int,yj t b n m c/\(a<=c/\c<=a+Z8 q)/\(q.all iM=aF->c=a+Z8 q))/\az [b] w t:=by
 refine ret (alH ?_);have A:=s.1.len;have L:=fh q;have kp:∀{u:aw},az [b] w u->aB (pI aM) 9 u F f q:=λd=>Aw (cN aM) Z s.1 d λk hk _ hm=>x k hk RD;refine⟨λr i u=>∃(j:Nat),i=j/\r+j=Z8 q/\j<=Z8 q/\(q.take j).all iM=aF/\yj u b n m (a+j)/\az [b] w u,Z8 q,⟨0,I,J,J,I,R0,EC _ _⟩,?_⟩;rintro r _ u ⟨j,rfl,G,D,g,B,d⟩;refine⟨λl=>?_,λl=>?_⟩;rotate_left
 .have l:=aR l;have a:j=Z8 q:=J
  subst a;rw[ez]at g;rw[g];exact⟨I,⟨_,B,J,λ_=>I⟩,d⟩
 have l:=aO l;have xC:j<Z8 q:=J
 obtain⟨y,N⟩:∃y,q[j]? =Hg y:=⟨_,bH xC⟩
 have P:=bA N;have Q8:=qF P;rw[ER]at Q8;have k:∀{v:aw},az [b] w v->∃ad Q,cM f j 9 ad/\aD v _ [O U y.k]/\aD v _ [ae (T y.n)]/\aD v (ad.add 2) _/\rE aM v F y.x _:=fun{v} hv=>by
  have⟨ad,y,e,M,n,q3,q4,H,b⟩:=(kp hv).get (bc j) J;rw[aW,N]at n;injection n with n;subst n;obtain⟨p,rfl,a⟩:=b;obtain⟨Q,rfl⟩:=dM a;exact⟨ad,Q,M,H.part 0 λi v h=>tf h I,H.part 1 λi v h=>tf h I,H.part 2 λi v h=>KA h,a⟩
 refine⟨a+j,Mn B 2 I,b,2,_,_,I,B,R,λw1 cp nf=>?_⟩;rw[eS J J]at nf;have o1:=gI d cp;have⟨ad,Q,g1,g2,g3,g4,g5⟩:=k o1;refine⟨ad,g1,_,g3,(rC w1 y.n J).mono ?_⟩;rintro _ w2 ⟨rfl,V⟩;have o2:=gI o1 (only1 V);have⟨Lu,am,p1,p2,p3,p4,p5⟩:=k o2;refine⟨_,I,Lu,p1,_,_,_,_,_,_,p4,(afh p5 (z y P) J).mono ?_⟩;rintro _ w3 ⟨rfl,Y⟩;have o3:=gI o2 (only1 Y);obtain⟨S,aC,M,n,q3,q4,H⟩:=k o3;have pK:∀m,m=(if y.k=2 then rA y.x else ux y.x)->((((VM (y.k<1))||(VM (y.k>3)))||(!dI y.n))||(!m))=!iM y:=λm e=>by
  rw[e];unfold iM;by_cases o:y.k<1
  .rw[bF o,bC (p:=1<=y.k/\y.k<=3) (λh=>J)];rfl
  by_cases a:y.k>3
  .rw[bF a,bC (p:=1<=y.k/\y.k<=3) (λh=>J),oQ];rfl
  rw[bC o,bC a,bF (p:=1<=y.k/\y.k<=3) J,tV,tV,cr,N4]
 refine⟨_,I,λm w4=>az [] w3 w4/\m=(if y.k=2 then rA y.x else ux y.x),?_,S,M,_,n,λhk=>⟨S,M,_,_,_,_,_,_,q4,(P7 H).mono ?_⟩,λhk=>⟨EC _ _,by rw[W Mi]⟩⟩
 .rintro m w4 ⟨v,p⟩;have e:=gI o3 (only1 v);have w:=v.blk (Y.blk (V.blk nf R) R) R;have⟨b,aS,F,T,t3,t4,t5⟩:=k e;refine⟨b,F,y.k,T,b,λ_=>F,y.k,λ_=>T,λhh=>?_,λhh=>?_⟩
  .rw[pK m p,ey]at hh;have:q.all iM=aM:=by
    rw[yF];exact⟨y,P,Gq⟩
   rw[this];exact⟨I,⟨_,w,J,λh=>Rl⟩,e⟩
  rw[pK m p,fO]at hh;refine⟨r-1,J,j+1,TE,J,J,?_,by rw[show a+((j+1:Nat):Int)=a+j+1 by omega];exact w,e⟩;rw[bq,N,jF,g];simp[hh]
 rintro _ w ⟨rfl,a⟩;exact⟨_,I,a,by rw[K Mi]⟩
end
section
variable {w:aw} {F:aK} {b:Nat} {n m a:Int}
def HI(x:Mv):((((((VM (x.k>=1)&&VM (x.k<=3))&&(if x.k=1 then dI x.ev else VM (x.ev=[])))&&(if x.gd then ux x.g else rA x.g))&&x.acts.all iM)&&((x.wt==0)||((x.k==3)&&(VM (x.wt>0)))))&&x.tg.all dI)=mO x:=by
 rw[mO];rw[bL];simp;constructor
 .rintro⟨⟨⟨⟨⟨⟨h,a⟩,b⟩,c⟩,d⟩,e⟩,f⟩;exact⟨⟨⟨⟨⟨⟨h,a⟩,b⟩,c⟩,d⟩,f⟩,e⟩
 rintro⟨⟨⟨⟨⟨⟨h,a⟩,b⟩,c⟩,d⟩,f⟩,e⟩;exact⟨⟨⟨⟨⟨⟨h,a⟩,b⟩,c⟩,d⟩,e⟩,f⟩
def aiU{x}{l}(t:yj w b n m a)(S:JE aM w F x l)(d:∀k,F k->k≠b)(v:F9 x)(Q:BL x<=8388608)(N:0<=a)(P:a<=1152921504606846976)(h2:0<=m)(h3:m<=1152921504606846976):
  aA ar 307 #[ah (Hg ⟨b,0,ZQ⟩),ai l.toArray] w λe E=>e=ao (ak (mO x))/\(∃y q,yj E b n y q/\(mO x=aF->y=m+1/\q=a+Z8 x.acts))/\az [b] w E:=by
 obtain⟨gc,mF,tg,rfl,g,L,pO⟩:=S;obtain⟨gs,rfl⟩:=dM g;rw[BL]at Q;have H3:=t.lt;refine ret (alI ?_);intro V p fQ dL j;have z0:=j.size;have B:=j.blk t R;have G:∀{u:aw},az [b] w u->rE aM u F x.g _:=λc=>(gp aM).keep g λk hk i=>c.block k i (by simpa using d k hk);have X:∀{u:aw},az [b] w u->jh aM _ 9 78 u F mF x.acts:=λc=>L.keep (cN aM) Z λk hk i=>c.block k i (by simpa using d k hk);have T:∀{u:aw},az [b] w u->aB ju 1 u F tg x.tg:=λc=>Aw cx Z pO.1 c λk hk _ hm=>d k hk RD;have sm:∀{u D:aw},p.heap.size<=u.heap.size->az [b] u D->cF [V] u D:=λhz c=>c.same C;refine⟨m,Mn B 1 I,b,1,_,_,I,B,R,J,λw1 r o=>?_⟩;have z:=gI (only1 j) r;have z1:=r.size;rw[eS J J]at o;refine⟨λf u=>f=(if x.k=1 then dI x.ev else VM (x.ev=[]))/\az [b] w u/\p.heap.size<=u.heap.size/\yj u b n (m+1) a,λf w2 ⟨M,A,z2,Y⟩=>?_,λhk=>(rC w1 x.ev J).mono ?_,λhk=>⟨by rw[W Mi,(iC x.ev [])],z,J,o⟩⟩
 .refine(P7 (G A)).mono ?_;rintro _ w3 ⟨rfl,e⟩;have o3:=gI A (only1 e);have z3:=e.size;have qk:=e.blk Y R;refine⟨_,I,sm z2 (only1 e),λk u=>k=(if x.gd then ux x.g else rA x.g)/\az [b] w u/\p.heap.size<=u.heap.size/\yj u b n (m+1) a,λk w4 ⟨F,o4,z4,pz⟩=>?_,λg=>(afh (G o3) v.1 J).mono ?_,λg=>⟨by rw[g];rfl,o3,J,qk⟩⟩
  .refine(AV pz (X o4) d v.2 J N P).mono ?_;rintro _ w5 ⟨rfl,⟨a5,vi,_,am⟩,w⟩;have n:=gI o4 w;have z5:=w.size;have K6:=(T n).len;have aC:=(T n).big;have aS:=(T n).cap;refine⟨_,I,sm z4 w,λkv aT u=>∃a:Nat,aT=a/\kv+a=Z8 x.tg/\a<=Z8 x.tg/\(x.tg.take a).all dI=aF/\az [] w5 u,Z8 x.tg,⟨0,I,J,J,I,EC _ _⟩,?_⟩;rintro kv _ w6 ⟨a,rfl,vD,hj,gJ,b⟩;have z6:=b.size;have o6:=gI n (only1 b);refine⟨λm=>?_,λm=>?_⟩
   .have m:=aO m;have⟨ad,s,l,g1,g2,g3,g4,g5,g6⟩:=(T o6).get (bc a) J;rw[aW]at g2;subst g6;have vB:=bA g2;have zY:Z8 s<=Et x.tg:=by
     have:=Hq vB;omega
    refine⟨ad,g1,_,g5,(rC w6 s J).mono ?_⟩;rintro _ w7 ⟨rfl,ga⟩;refine⟨_,I,sm J (only1 ga),λhh=>?_,λhh=>⟨kv-1,J,a+1,TE,J,J,?_,b.cn ga⟩⟩
    .have hh:=Nv
     have:mO x=aM:=by
      rw[<-HI,show x.tg.all dI=aM by rw[yF];exact⟨s,vB,Gq⟩,gr]
     rw[this];exact⟨I,⟨_,_,(b.cn ga).blk vi R,λh=>Rl⟩,gI o6 (only1 ga)⟩
    rw[bq,g2,jF,gJ];simp[(by simpa using hh)]
   have m:=aR m;have s:a=Z8 x.tg:=J
   subst s;rw[ez]at gJ;have h:((((((VM (x.k>=1))&&(VM (x.k<=3)))&&f)&&k)&&x.acts.all iM)&&((x.wt==0)||((x.k==3)&&(VM (x.wt>0)))))=mO x:=by
    rw[<-HI,gJ,M,F,dR]
   rw[h];refine⟨I,⟨_,_,b.blk vi R,λhm=>⟨I,am ?_⟩⟩,o6⟩;rw[<-HI]at hm;simp only[H]at hm;exact hm.1.1.2
  rintro _ w ⟨rfl,a⟩;have b:=a.size;exact⟨_,I,sm J (only1 a),by rw[g];rfl,gI o3 (only1 a),J,a.blk qk R⟩
 rintro _ w ⟨rfl,m⟩;have a:=m.size;exact⟨_,I,sm J (only1 m),by rw[K Mi],gI z (only1 m),J,m.blk o R⟩
end
def kO(l:X Mv):Nat:=(l.map λm=>Z8 m.acts).sum
def ab8 l m:kO (l++[m])=kO l+Z8 m.acts:=by
 unfold kO;simp
def AW:∀l,kO l<=qe l
 | []=>bh _
 | m::l=>by
  have a:=fh m.acts;have b:=AW l;have h:kO (m::l)=Z8 m.acts+kO l:=I;rw[qe,h];rw[BL];omega
def aiA l j:kO (l.take j)<=kO l:=by
 induction l generalizing j with
 | nil=>simp
 | cons m l i=>
  cases j with
  | zero=>exact bh _
  | succ j=>
   have:=i j;show (Z8 m.acts)+kO _<=Z8 m.acts+kO l;omega
def Wu b:BJ b<=uS b:=by
 have h:=fh b.en;have a:=fh b.lv;have c:=AW b.mv;have d:BJ b=Z8 b.en+Z8 b.lv+kO b.mv:=I;rw[uS];omega
mutual
def agp:∀x:Nd,xL x<=lF x
 | .mk b l=>by
  have h:=Wu b;have a:=HJ l;rw[xL,lF];omega
def HJ:∀l:X Nd,nt l<=ji l
 | []=>bh _
 | x::l=>by
  have h:=agp x;have a:=HJ l;rw[nt,ji];omega
end
def KD:∀l j {y:Nd},l[j]? =Hg y->dW (l.take j)+j7 y<=dW l
 | [],j,y,h=>Gl
 | x::l,0,y,h=>by
  simp at h;subst h;rw[ci,dW,dW];omega
 | x::l,j+1,y,h=>by
  have:=KD l j (y:=y) Zp;rw[fx,dW,dW];omega
def FN:∀l j {y:Nd},l[j]? =Hg y->ji (l.take j)+lF y<=ji l
 | [],j,y,h=>Gl
 | x::l,0,y,h=>by
  simp at h;subst h;rw[ci,ji,ji];omega
 | x::l,j+1,y,h=>by
  have:=FN l j (y:=y) Zp;rw[fx,ji,ji];omega
def Bo{d}{y}:∀{l:X Nd},y∈l->ku d y=aM->jm d l=aM
 | x::l,h,y=>by
  rw[jm];rcases aZ.1 h with rfl | h
  .rw[y,di]
  rw[Bo h y,gr]
def rS(d:Nat)(n:Int)(x:Nd):L:=ku d x&&VM (n+j7 x<=64)
def NcO(b:Nat)(w:aw)(n e a:Int)(r:L)(x:Nd):Prop:=∃d m c,yj w b d m c/\(r=aF->d=n+j7 x/\m=e+zj x/\c=a+xL x)
def FO{F:aK}{b:Nat}(h:∀k,F k->k≠b):∀(D:Nat) {w:aw} {n m a:Int} {d:Nat} {x:Nd} {c:aJ},yj w b n m a->pv aM D w F x c->Dw x->lF x<=8388608->0<=n->n<=64->d<=100->0<=m->m+lF x<=1152921504606846976->0<=a->a+lF x<=1152921504606846976->
  aA ar 260 #[ah (Hg ⟨b,0,ZQ⟩),ai c.toArray,O U (d:Int)] w λe f=>e=ao (ak (rS d n x))/\NcO b f n m a (rS d n x) x/\az [b] w f
 | 0,_,_,_,_,_,_,_,_,a,_,_,_,_,_,_,_,_,_=>a.elim
 | D+1,w,n,m,a,d,.mk g i,c,hc,⟨en,lv,mv,kids,gZ,vg,Q⟩,hn,V,aC,am,TB,Sq,Aa,L,M=>by
  dsimp only[Nd.kids,Nd.b]at gZ vg Q;subst gZ;have r:=Q.1;rw[Dw]at hn;obtain⟨P,TA⟩:=hn;obtain⟨BO,A0,N⟩:=P;obtain⟨he,hl,qZ⟩:=vg;rw[lF]at V Aa M;have aS:=V;have rZ:BJ g=Z8 g.en+Z8 g.lv+kO g.mv:=I;have nf:=Wu g;unfold uS at V;have H3:=hc.lt;refine ret (alm ?_);have eN:j7 (.mk g i)=dW i+1:=by rw[j7]
  have eO:ku d (.mk g i)=(VM (d<12)&&u7 g (Z8 i)&&jm (d+1) i):=by rw[ku]
  intro k0 E Q dL G;have z0:=G.size;have z:=G.blk hc R;have sm:∀{u u':aw},E.heap.size<=u.heap.size->az [b] u u'->cF [k0] u u':=λhz q=>q.same C;have bad:rS d n (.mk g i)=aM->∀{u:aw} {n' m' a':Int},az [b] w u->yj u b n' m' a'->Value.bool aM=ak (rS d n (.mk g i))/\NcO b u n m a (rS d n (.mk g i)) (.mk g i)/\az [b] w u:=λt {_ _ _ _} q hB=>⟨by rw[t],⟨_,_,_,hB,λj=>by rw[t]at j;cases j⟩,q⟩
  have kA:∀{u:aw} {s:Sl} {v:X Ac},jh aM (pI aM) 9 78 w F s v->az [b] w u->jh aM (pI aM) 9 78 u F s v:=λj q=>j.keep (cN aM) Z λk r bT=>q.block k bT (by simpa using h k r);have eT:∀v:S,((T v).toList==((aq #[]).toList))=VM (v=[]):=λv=>iC v [];rw[eT,eT];refine⟨n,Mn z 0 I,b,0,_,_,I,z,R,J,λW cp l=>?_⟩;have o1:az [b] w W:=gI (only1 G) cp;have z1:=cp.size;rw[eS J J]at l;have l:yj W b (n+1) m a:=l;refine(rC W g.nm J).mono ?_;rintro _ w2 ⟨rfl,A⟩;have B:=gI o1 (only1 A);have z2:=A.size;have Y:yj w2 b (n+1) m a:=A.blk l R;refine⟨_,I,sm J (only1 A),n+1,λ_=>Mn Y 0 I,λo=>bad ?_ B Y,λo=>?_⟩
  .unfold rS;rw[eO,eN];simp only[dq,ey,bU]at o;rcases o with(j | j) | j
   .unfold u7;rw[j];simp
   .rw[bC (p:=d<12) J];rfl
   rw[bC (p:=n+((dW i+1:Nat):Int)<=64) J,gr]
  simp only[fN,fO]at o;have bV:n+1<=64:=by have:=aR o.2;omega
  have aT:d<12:=by have:=aR o.1.2;omega
  have T:dI g.nm=aF:=o.1.1;have F7:=r.len;have bv:=he.1.len;have LW:=hl.1.len;have Ez:=qZ.1.len;have s:ku d (.mk g i)=(u7 g (Z8 i)&&jm (d+1) i):=by rw[eO,bF aT,cr]
  refine⟨λhh=>(rC w2 g.dft J).mono ?_,λhh=>?_⟩
  .rintro _ F ⟨rfl,b⟩;have p:iJ g.k=aF:=by
    unfold iJ;rw[dq,eX,eX]at hh;exact bF hh
   have er:(((((dI g.dft&&VM (g.ini=[]))&&((en.n:Int)==0))&&((lv.n:Int)==0))&&((mv.n:Int)==0))&&((kids.n:Int)==0))=rS d n (.mk g i):=by
    unfold rS;rw[s,eN];unfold u7;rw[T,p,K I,cr,bv,LW,Ez,F7,bL];simp only[H,bU,eX];constructor
    .rintro⟨⟨⟨⟨⟨d,n⟩,e⟩,m⟩,x⟩,y⟩;have k:i=[]:=bJ J;subst k;refine⟨⟨⟨d,n,bJ J,bJ J,J,I⟩,by rw[jm]⟩,by rw[dW];omega⟩
    rintro⟨⟨⟨d,n,e,m,x,y⟩,_⟩,_⟩;exact⟨⟨⟨⟨⟨d,n⟩,by rw[e];rfl⟩,by rw[m];rfl⟩,J⟩,J⟩
   refine⟨_,I,sm J (only1 b),by rw[er],⟨_,_,_,b.blk Y R,λt=>?_⟩,gI B (only1 b)⟩;rw[<-er]at t;simp only[H,eX]at t;obtain⟨⟨⟨⟨_,e⟩,m⟩,x⟩,y⟩:=t;have k:i=[]:=bJ J;subst k;have a:g.mv=[]:=bJ J;rw[eN,zj,xL,dW,nY,nt,rZ,a];refine⟨J,R,?_⟩;have:kO []=0:=I;rw[this];omega
  have cc:iJ g.k=aM:=by
   unfold iJ;rw[fN,Ii,Ii]at hh;exact bC λe=>e.elim hh.1 hh.2
  have eB:u7 g (Z8 i)=(VM ((g.k=1∨g.k=2)/\g.dft=[])&&(VM (g.ini=[])||dI g.ini)&&g.en.all iM&&g.lv.all iM&&g.mv.all mO):=by
   unfold u7;rw[T,cc,cr];rfl
  refine⟨λb2 u=>b2=(VM (g.ini=[])||dI g.ini)/\az [b] w u/\E.heap.size<=u.heap.size/\yj u b (n+1) m a,λb2 w4 ⟨bY,o4,z4,pz⟩=>?_,λhi=>(rC w2 g.ini J).mono ?_,λhi=>⟨?_,B,J,Y⟩⟩;rotate_left
  .rintro _ b ⟨rfl,d⟩;have a:=d.size;refine⟨_,I,sm J (only1 d),?_,gI B (only1 d),J,d.blk Y R⟩;have:VM (g.ini=[])=aM:=UB
   rw[this,tV]
  .have:VM (g.ini=[])=aF:=UB
   rw[this,N3]
  have cC:=fh g.en;have dO:=fh g.lv;refine(AV pz (kA he o4) h BO J L J).mono ?_;rintro _ w5 ⟨rfl,⟨a5,vi,eQ,ce⟩,dP⟩;have o5:=gI o4 dP;have z5:=dP.size;refine⟨_,I,sm z4 dP,(AV vi (kA hl o5) h A0 J J J).mono ?_⟩;rintro _ w6 ⟨rfl,⟨a6,XC,fd,co⟩,dN⟩;have o6:=gI o5 dN;have z6:=dN.size;have eC:((((((g.k !=1)&&(g.k !=2))||(!(VM (g.dft=[]))))||(!b2))||(!g.en.all iM))||(!g.lv.all iM))=!(VM ((g.k=1∨g.k=2)/\g.dft=[])&&(VM (g.ini=[])||dI g.ini)&&g.en.all iM&&g.lv.all iM):=by
   rw[bY,N4,N4,N4];congr 3;rw[bL];simp only[dq,H,bne_iff_ne,ey,ig,ne_eq];by_cases a:g.k=1<;>by_cases b:g.k=2<;>by_cases d:g.dft=[]<;>simp[a,b,d]
  have kM:∀{u:aw},az [b] w u->aB (JE aM) 13 u F mv g.mv:=λq=>Aw (iL aM) Z qZ.1 q λk r _ hm=>h k r RD;have kK:∀{u:aw},az [b] w u->aB (pv aM D) 9 u F kids i:=λq=>Aw (ck aM D) Z r q λk r _ hm=>h k r RD;have el:=mf g.mv;refine⟨_,I,sm J dN,λe=>bad ?_ o6 XC,λe=>?_⟩
  .rw[eC,ey]at e;unfold rS;rw[s,eB,e];rfl
  rw[eC,fO]at e;have f5:u7 g (Z8 i)=g.mv.all mO:=by rw[eB,e,cr]
  simp only[H]at e;have ce:=ce e.1.2;have co:=co e.2;have vB:=AW g.mv;have Gb:=mg i;have qk:Z8 g.mv<=uS g:=by unfold uS;omega
  refine⟨λkv F u=>∃k:Nat,F=(k:Int)/\kv+k=Z8 g.mv/\k<=Z8 g.mv/\(g.mv.take k).all mO=aF/\az [b] w u/\E.heap.size<=u.heap.size/\yj u b (n+1) (m+k) (a6+kO (g.mv.take k)),Z8 g.mv,⟨0,I,J,bh _,I,o6,J,by simpa[kO]using XC⟩,?_⟩;rintro kv _ w7 ⟨k,rfl,vD,hj,gJ,o7,z7,Q5⟩;have ky:=aiA g.mv k;refine⟨λlR=>?_,λlR=>?_⟩
  .have lR:=aO lR;obtain⟨ad,y,c,g1,b,g3,g4,g5,n⟩:=(kM o7).get (bc k) J;rw[aW]at b;have d:=bA b;have Q8:=qG d;have A7:=n;obtain⟨gc,mF,tg,rfl,hg,Ll,pO⟩:=n;obtain⟨gs,rfl⟩:=dM hg;have x:g.mv.take (k+1)=g.mv.take k++[y]:=by rw[bq,b];rfl
   refine⟨ad,g1,_,_,_,_,_,_,_,_,_,_,_,_,_,g5,(aiU Q5 A7 h (N y d) J J J J J).mono ?_⟩;rintro _ w8 ⟨rfl,⟨m8,a8,re,h8⟩,a⟩;have p:=gI o7 a;have z8:=a.size;refine⟨_,I,sm z7 a,λhh=>bad ?_ p re,λhh=>?_⟩
   .have hh:mO y=aM:=Nv
    unfold rS;rw[s,f5,show g.mv.all mO=aM by rw[yF];exact⟨y,d,Gq⟩];rfl
   have hh:mO y=aF:=Nv
   obtain⟨rfl,rfl⟩:=h8 hh;refine⟨kv-1,J,k+1,TE,J,J,by rw[x,jF,gJ];simp[hh],p,J,?_⟩;rw[x,ab8,show m+((k+1:Nat):Int)=m+k+1 by omega,show a6+((kO (g.mv.take k)+Z8 y.acts:Nat):Int)=a6+kO (g.mv.take k)+(Z8 y.acts) by omega];exact re
  have lR:=aR lR;have lD:k=Z8 g.mv:=J
  subst lD;rw[ez]at gJ Q5;have ge:ku d (.mk g i)=jm (d+1) i:=by rw[s,f5,gJ,cr]
  have eA:a6+(kO g.mv:Int)=a+(BJ g:Int):=J
  rw[eA]at Q5;refine⟨λkv F u=>∃k:Nat,F=(k:Int)/\kv+k=Z8 i/\k<=Z8 i/\jm (d+1) (i.take k)=aF/\n+1+dW (i.take k)<=64/\az [b] w u/\E.heap.size<=u.heap.size/\yj u b (n+1+dW (i.take k)) (m+Z8 g.mv+nY (i.take k)) (a+BJ g+nt (i.take k)),Z8 i,⟨0,I,J,bh _,by rw[ci,jm],by rw[ci,dW];omega,o7,z7,by rw[ci,dW,nY,nt];simpa using Q5⟩,?_⟩;rintro SR _ w9 ⟨F,rfl,gE,hi,Yj,h9,o9,z9,CE⟩;refine⟨λYk=>?_,λYk=>?_⟩
  .have Yk:=aO Yk;obtain⟨ad,y,c,g1,g2,g3,g4,g5,g6⟩:=(kK o9).get (bc F) J;rw[aW]at g2;have tU:=bA g2;have Q8:=nK tU;have A7:=g6;obtain⟨b,rfl⟩:∃b,D=b+1:=by
    cases D with
    | zero=>exact g6.elim
    | succ b=>exact⟨b,I⟩
   obtain⟨r7,r9,oe,gY,rfl,_⟩:=g6;have pU:i.take (F+1)=i.take F++[y]:=by rw[bq,g2];rfl
   have q1:=KD i F g2;have q2:=FN i F g2;have q3:=zA (i.take F);have q4:=HJ (i.take F);refine⟨ad,g1,_,_,_,_,r7,r9,oe,gY,_,g5,?_⟩;rw[eS (x:=(d:Int)+1) J J,show(d:Int)+1=((d+1:Nat):Int) by omega];refine(FO h (b+1) (d:=d+1) CE A7 (zx TA tU) J J h9 J J J J J).mono ?_;rintro _ dk ⟨rfl,⟨g8,gT,gO,nS,t⟩,dS⟩;have gG:=gI o9 dS;have EW:=dS.size;refine⟨_,I,sm z9 dS,λGf=>bad ?_ gG nS,λGf=>?_⟩
   .have Gf:rS (d+1) (n+1+dW (i.take F)) y=aM:=by simpa using Gf
    unfold rS at Gf⊢;rw[fV]at Gf;rcases Gf with j | j
    .rw[ge,Bo tU j,di]
    have j:=aR j;rw[eN,bC (p:=n+((dW i+1:Nat):Int)<=64) J,gr]
   have Gf:rS (d+1) (n+1+dW (i.take F)) y=aF:=by simpa using Gf
   obtain⟨rfl,rfl,rfl⟩:=t Gf;unfold rS at Gf;rw[H]at Gf;have p:=aO Gf.2;refine⟨SR-1,J,F+1,TE,J,J,by rw[pU,yf,Yj,Gf.1];rfl,by rw[pU,sW];omega,gG,J,?_⟩;rw[pU,sW,wS,AI,show n+1+((dW (i.take F)+j7 y:Nat):Int)=n+1+dW (i.take F)+j7 y by omega,show m+Z8 g.mv+((nY (i.take F)+zj y:Nat):Int)=m+Z8 g.mv+nY (i.take F)+zj y by omega,show a+BJ g+((nt (i.take F)+xL y:Nat):Int)=a+BJ g+nt (i.take F)+xL y by omega];exact nS
  have Yk:=aR Yk;have a:F=Z8 i:=J
  subst a;rw[ez]at h9 Yj CE;have er:rS d n (.mk g i)=aF:=by
   unfold rS;rw[ge,Yj,eN,cr];exact bF J
  rw[er];refine⟨I,⟨_,_,_,CE,λ_=>?_⟩,o9⟩;rw[eN,zj,xL];omega
def am0{w}{F:aK}{D}{c}{r:Sl}{s:aJ}(hx:ChR aM (D+1) w F c r s)(G:Ga c)(Y:jZ c.vars+lF c.root<=8388608):
  aA ar 205 #[ai (r.v::s).toArray] w λe N=>e=ao (ak (qW c))/\az [] w N:=by
 obtain⟨T,lv,mv,kids,E,_⟩:=hx.root;subst E;refine ret (akU ?_);rw[ac2];intro K B W S t;have z0:=t.size;have f:=hx.vars.1.len;have zZ:Z8 c.vars<=jZ c.vars:=by
  have:∀b,Z8 b<=jZ b:=λb=>by induction b with
   | nil=>exact bh _
   | cons a b c=>rw[jZ,aY];omega
  exact this _
 have V:∀{u:aw},az [] w u->aB MR 3 u F r c.vars:=λh=>Aw ec Z hx.vars.1 h R;have sm:∀{u A:aw},B.heap.size<=u.heap.size->az [] u A->cF [K] u A:=λhz h=>h.same C;refine⟨λo i u=>∃j:Nat,i=j/\o+j=Z8 c.vars/\j<=Z8 c.vars/\(c.vars.take j).all xv=aF/\az [] w u/\B.heap.size<=u.heap.size,Z8 c.vars,⟨0,I,J,bh _,I,t,aX _⟩,?_⟩;rintro o _ P ⟨j,rfl,vD,X,g,q,Q⟩;refine⟨λl=>?_,λl L w3 pV xA z M=>?_⟩
 .have l:=aO l;obtain⟨ad,y,s,w,a,g3,g4,x,D⟩:=(V q).get (bc j) J;rw[aW]at a;have m:=bA a;have Q8:=wi m;subst D;refine⟨ad,w,_,x.part 0 λi v d=>tf d I,(rC P y.n J).mono ?_⟩;rintro _ w2 ⟨rfl,b⟩;have k:=q.cn b;have z2:=b.size;obtain⟨n,y',qY,p1,p,p3,p4,p5,p6⟩:=(V k).get (bc j) J;rw[aW,a]at p;injection p with p;subst p;subst p6;have ev:((!dI y.n)||(y.v==(-9223372036854775808)))=!xv y:=by
   unfold xv;rw[bL];simp
  refine⟨_,I,sm Q b,n,λ_=>p1,_,λ_=>p5.part 1 λi v d=>tf d I,λhh=>⟨?_,k⟩,λhh=>⟨o-1,J,j+1,TE,J,J,?_,k,J⟩⟩
  .rw[ev,ey]at hh;have:c.vars.all xv=aM:=by
    rw[yF];exact⟨y,m,Gq⟩
   have e:qW c=aM:=by
    unfold qW;rw[show(c.vars.all λv=>dI v.n&&decide _)=c.vars.all xv from rfl,this];rfl
   rw[e]
  rw[ev,fO]at hh;rw[bq,a,jF,g];simp[hh]
 have l:=aR l;have lD:j=Z8 c.vars:=J
 subst lD;rw[ez]at g;have o3:=q.cn z;have z3:=z.size;have am:=(ck aM _).keep ((ck aM _).inHeap hx.root) λk _ bT=>o3.block k bT R;refine(FO (F:=λk=>F k/\k<w.heap.size) (b:=L) (λk hk=>ZD) _ (n:=0) (m:=0) (a:=0) (d:=0) M am G.2 J J J J J J J J).mono ?_;rintro _ w4 ⟨rfl,⟨n',m',a',pz,hr⟩,dD⟩;have D:az [] w w4:=(o3.AY (dD.p (F:=λk=>w.heap.size<=k) λx hx=>Qe)).only λk hk=>hk;refine⟨_,I,dD.same C,n',m',a',pz,?_,D⟩;congr 1;unfold qW;rw[show(c.vars.all λv=>dI v.n&&decide _)=c.vars.all xv from rfl,g,cr,f];cases y:rS 0 0 c.root
 .have:(ku 0 c.root&&VM (j7 c.root<=64))=aM:=by
   rw[rS]at y;rw[<-y];congr 1;rw[bL,bU,bU];omega
  rw[fV]at this;simp only[di];rcases this with a | a
  .rw[a,di]
  rw[bC (p:=c.root.b.k=1/\Z8 c.vars<=16/\j7 c.root<=64/\zj c.root<=200/\xL c.root<=400) (λe=>(aR a) e.2.2.1),gr]
 have⟨b,e,a⟩:=hr y;rw[rS]at y;rw[H,bU]at y;rw[y.1,cr,cr,e,a,bL];simp;omega
def am1{n}(h:0<=n)(a:n<=18446744073709551615):au .u64 n=n:=by
 have e:au .u64 n=n % 18446744073709551616:=I;omega
def P8 w {n} (h:rX n):aA ar 207 #[O U n] w λe a=>e=ao (ae (T (Lib.itoa n)))/\az [] w a:=by
 obtain⟨d,b⟩:=h;by_cases c:0<=n
 .exact ae4 w c b
 refine ret (akW ?_);refine⟨λe=>absurd e C,λe=>⟨λf=>?_,λp=>absurd (aR p) J⟩⟩;have s:=by
  refine ret (aln n (λv a=>v=.int .u64 (-n)/\a=w) w ?_);refine⟨λ_=>⟨?_,I⟩,λp=>absurd (aR p) J⟩;rw[eS (x:=n+1) J J,eS J J,am1 (n:=0-_) J J,am1 J J];congr 1;omega
 refine s.mono ?_;rintro _ j ⟨rfl,u⟩;obtain rfl:w=j:=u.symm;obtain⟨k,i⟩:∃k:Nat, -n=k:=⟨(-n).toNat,J⟩
 rw[i];refine⟨_,I,(nMb k w J).mono ?_⟩;rintro _ m ⟨rfl,g⟩;have Q:¬k=0:=J
 have l:=uE k J;rw[W Q];refine⟨_,I,R5,?_,g⟩;unfold Lib.itoa;rw[K J,show n.natAbs=k by omega];rfl
def acK{n}(h:rX n):Z8 (Lib.itoa n)<=41:=by
 obtain⟨a,b⟩:=h;unfold Lib.itoa;split
 .rw[aY];have:=uE n.natAbs J;omega
 have:=uE n.toNat J;omega
section
variable {w:aw} {F:aK}
def Nk x:Z8 (xK x)<=16384:=Ho x
def am2{y}(h:y.k=1):[115,101,116,32]++y.n++[32,61,32]++xK y.x++[59]=Cj y:=by
 unfold Cj;rw[W J,K h];simp[mM]
def am3{y}(h:y.k=2):[114,97,105,115,101,32]++y.n++[59]=Cj y:=by
 unfold Cj;rw[K h];simp[gD]
def am4{y}(h:y.k≠1)(a:y.k≠2):[101,109,105,116,32]++y.n++[32,61,32]++xK y.x++[59]=Cj y:=by
 unfold Cj;rw[W a,W h];simp[jc]
def Nl y:Z8 (Cj y)<=ER y+16500:=by
 have:=Nk y.x;unfold ER;by_cases h:y.k=1
 .rw[<-am2 h];simp;omega
 by_cases a:y.k=2
 .rw[<-am3 a];simp;omega
 rw[<-am4 h a];simp;omega
def agh a:∀l,zl (l++[a])=zl l++(32::Cj a)
 | []=>by simp[zl]
 | b::l=>by rw[bW,zl,zl,agh a l];simp
def agq{y}{cs}(x:pI aM w F y cs)(n:BK y)(s:ER y<=8388608):
  aA ar 308 #[ai cs.toArray] w λe t=>e=ao (ae (T (Cj y)))/\az [] w t:=by
 have a:=Nl y;obtain⟨M,rfl,L⟩:=x;obtain⟨N,rfl⟩:=dM L;unfold ER at s a;have v:=Nk y.x;refine ret (alJ ?_);have f:_=T [115,101,116,32]:=I;have g:_=T [32,61,32]:=I;have i:_=T [59]:=I;have j:_=T [114,97,105,115,101,32]:=I;have o:_=T [101,109,105,116,32]:=I;simp only[f,g,i,j,o,fD,cH];have E:∀{u:aw},az [] w u->rE aM u F y.x _:=λO=>(gp aM).keep L λk _ p=>O.block k p R;have l:∀{b m:S},Z8 (b++m)=Z8 b+Z8 m:=aP;refine⟨λh1 q G Q z c=>⟨λk=>k=q,I,J,by rw[l];simp;omega,(HH (E c) n J).mono ?_⟩,λh1=>⟨λh=>⟨J,by rw[l];simp;omega,λA H _ _ O=>⟨by rw[am3 (by simpa using h)],O⟩⟩,λh r K B D d=>⟨λk=>k=r,I,J,by rw[l];simp;omega,(HH (E d) n J).mono ?_⟩⟩⟩
 .rintro _ w ⟨rfl,e⟩;refine⟨_,I,e.same C,VI e,?_,?_,by rw[fD,fD,am2 Wl],c.cn e⟩
  .rw[cH];simp;omega
  rw[fD,cH];simp;omega
 rintro _ w ⟨rfl,e⟩;refine⟨_,I,e.same C,VI e,?_,?_,by rw[fD,fD,am4 Wl (by simpa using h)],d.cn e⟩
 .rw[cH];simp;omega
 rw[fD,cH];simp;omega
def HK:∀l,jd l<=1048576->Z8 (zl l)<=Z8 l*1065080
 | [],_=>bh _
 | a::l,h=>by
  have b:=Nl a;have c:ER a<=jd (a::l):=qF R;have d:jd l<=jd (a::l):=by rw[jd];omega
  have e:=HK l J;rw[zl,aY,aP,aY,fj];omega
def D2{l}{qU}(c:jh aM (pI aM) 9 78 w F l qU)(n:∀y,y∈qU->BK y)(g:jd qU<=1048576):
  aA ar 263 #[l.v] w λe d=>e=ao (ae (T (An qU)))/\az [] w d:=by
 refine ret (alo ?_);have A:=c.1.len;have L:=fh qU;have kp:∀{u:aw},az [] w u->aB _ 9 u F l qU:=λh=>Aw (cN aM) Z c.1 h R;refine⟨λk s i u=>∃(j:Nat) (t:S),s=T t/\t=123::zl (qU.take j)/\i=j/\k+j=Z8 qU/\j<=Z8 qU/\Z8 t<=1+j*1065080/\az [] w u,Z8 qU,⟨0,[123],I,I,I,J,bh _,R,EC _ _⟩,?_⟩;rintro k _ _ o ⟨j,t,rfl,b,rfl,v,f,m,h⟩;refine⟨λa=>?_,λa=>?_⟩
 .have a:=aO a;obtain⟨ad,y,x,s,e,z,B,w,l⟩:=(kp h).get (bc j) J;rw[aW]at e;have U:=bA e;have Q:=qF U;have p:=l;obtain⟨F,rfl,q⟩:=l;obtain⟨G,rfl⟩:=dM q;refine⟨R5,ad,s,_,_,_,_,_,_,_,_,_,w,(agq p (n y U) J).mono ?_⟩;rintro _ D ⟨rfl,r⟩;have C:=Nl y;have E:Z8 (t++[32]++Cj y)<=1+(j+1)*1065080:=by
   rw[aP,aP,bf,fj];omega
  refine⟨_,I,?_,k-1,J,j+1,t++[32]++Cj y,?_,by rw[bq,e,b];show _=123::zl (qU.take j++[y]);rw[agh];simp,TE,J,J,E,h.cn r⟩
  .rw[show(aq #[32])=T [32]from rfl,fD,cH,cH,aP,bf];omega
  rw[show(aq #[32])=T [32]from rfl,fD,fD]
 have a:=aR a;have l:j=Z8 qU:=J
 subst l;refine⟨R5,?_,h⟩;rw[show(aq #[32,125])=T [32,125]from rfl,fD,b,ez];rfl
def YG:X (S)->S
 | []=>[]
 | s::l=>32::45::62::32::(s++Fw l)
def afe s:∀l,Fw (l++[s])=Fw l++[44,32]++s
 | []=>by simp[Fw]
 | b::l=>by rw[bW,Fw,Fw,afe s l];simp
def bxi s:∀l,YG (l++[s])=YG l++(if l=[]then[32,45,62,32]else[44,32])++s
 | []=>by simp[YG,Fw]
 | b::l=>by rw[bW,YG,YG,afe s l,W R];simp
def agr m:Yy m++S1 m++(if m.acts=[]then[]else 32::An m.acts)++YG m.tg++[59]=EN m:=by
 unfold EN;cases m.tg<;>simp[YG]
def aa3{x}{f}(hx:JE aM w F x f)(n:F9 x)(hs:BL x<=1048576):
  aA ar 264 #[ai f.toArray] w λe c=>e=ao (ae (T (EN x)))/\Z8 (EN x)<=3000000000000/\az [] w c:=by
 obtain⟨gc,mF,z,rfl,m,L,q⟩:=hx;obtain⟨X,rfl⟩:=dM m;unfold BL at hs;have b:rX x.wt:=n.w;refine((alp x.k (T x.ev) x.wt x.gd x.g.k x.g.n (T x.g.s) x.g.op X x.g.a mF z x.a (λv c=>v=ae (T (EN x))/\Z8 (EN x)<=3000000000000/\az [] w c) w ?_)).mono (by rintro _ c ⟨v,rfl,rfl,a,Y⟩;exact⟨I,a,Y⟩);intro k0 E fQ dL d;have z0:=d.size;have sm:∀{u A:aw},E.heap.size<=u.heap.size->az [] u A->cF [k0] u A:=λhz h=>h.same C;have kT:∀{u:aw},az [] w u->aB ju 1 u F z x.tg:=λh=>Aw cx Z q.1 h R;have Td:=Nk x.g;have am:=fh x.acts;have K6:=Cn x.tg;have p:=L.1.len;have aC:=q.1.len;let St (P:Nat) (v:S):M->aw->Prop:=λs u=>∃t:S,s=T t/\Z8 t<=P/\az [] w u/\E.heap.size<=u.heap.size/\t=v
 refine⟨St 1048600 (if x.k=1 then u6++32::x.ev else fb),λs0 w1 ⟨t0,Q,h0,o0,G,v0⟩=>⟨St 1048700 (Yy x),λs1 w2 ⟨r,j,h1,o,H,B⟩=>⟨St 1066000 (Yy x++S1 x),λs2 w3 ⟨y,l,h2,g,N,D⟩=>⟨St 1117000000000 (Yy x++S1 x++(if x.acts=[]then[]else 32::An x.acts)),λs3 w4 ⟨i,V,h3,o3,y3,v3⟩=>?_,λhc=>?_,λhc=>⟨y,l,J,g,N,?_⟩⟩,λhc=>?_,λhc=>⟨r,j,J,o,H,?_⟩⟩,λhc=>?_,λhc=>⟨t0,Q,J,o0,G,?_⟩⟩,λhc=>?_,λhc=>⟨[97,108,119,97,121,115],I,Z,d,aX _,by rw[W R0];rfl⟩⟩
 .subst V;refine⟨λkv s aS u=>∃(k:Nat) (t:S),s=T t/\t=i++YG (x.tg.take k)/\aS=(k:Int)/\kv+k=Z8 x.tg/\k<=Z8 x.tg/\Z8 t<=1117000000000+k*1048590/\az [] w u,Z8 x.tg,⟨0,i,I,by rw[ci,YG,bD],I,J,bh _,J,o3⟩,?_⟩;rintro kv _ _ w5 ⟨k,t,rfl,et,rfl,vD,hj,ht,h⟩;refine⟨λv=>⟨λs u=>∃F:S,s=T F/\Z8 F<=Z8 t+4/\u=w5/\F=t++(if k=0 then[32,45,62,32]else[44,32]),?_,λh0=>⟨R5,t++[32,45,62,32],by rw[show(aq #[32,45,62,32])=T [32,45,62,32]from rfl,fD],R,I,by rw[K Z4]⟩,λh0=>⟨R5,t++[44,32],by rw[show(aq #[44,32])=T [44,32]from rfl,fD],R,I,by rw[W Z4]⟩⟩,λv=>?_⟩
  .have v:=aO v;rintro _ w6 ⟨F,rfl,aT,hw,t⟩;obtain rfl:w5=w6:=hw.symm;obtain⟨ad,s,f,g1,w,g3,g4,g5,T⟩:=(kT h).get (bc k) J;rw[aW]at w;have zY:=Hq (bA w);have T:=T;subst T;refine⟨ad,g1,_,g5,by rw[cH,cH];omega,kv-1,J,k+1,F++s,by rw[fD],?_,TE,J,J,?_,h⟩
   .rw[bq,w,t,et];show _=i++YG (x.tg.take k++[s]);rw[bxi];have e:(x.tg.take k=[])↔k=0:=by
     constructor
     .intro a;have:=bK List.length a;rw[cf,bE]at this;omega
     intro a;rw[a,ci]
    simp[e,be]
   rw[aP,fj];omega
  have v:=aR v;have s:k=Z8 x.tg:=J
  subst s;rw[ez]at et;have e:t++[59]=EN x:=by rw[et,v3,agr]
  refine⟨R5,by rw[show(aq #[59])=T [59]from rfl,fD,e],?_,h⟩;rw[<-e,aP,bf];have:Z8 x.tg*1048590<=1048576*1048590:=fM _ J;omega
 .subst l;have v:Z8 x.acts*1065080<=1048576*1065080:=fM _ J;refine⟨R5,(D2 (L.keep (cN aM) Z λk _ t=>g.block k t R) n.a J).mono ?_⟩;rintro _ F ⟨rfl,s⟩;have w:Z8 (An x.acts)<=3+Z8 x.acts*1065080:=by
   have:=HK x.acts J;unfold An;rw[aY,aP];simp[aY,bE];omega
  have z7:=s.size;refine⟨_,I,sm N s,?_,y++[32]++An x.acts,by rw[show(aq #[32])=T [32]from rfl,fD,fD],?_,g.cn s,J,?_⟩
  .rw[show(aq #[32])=T [32]from rfl,fD,cH,cH,aP,bf];omega
  .rw[aP,aP,bf];omega
  have hc:=aO hc;rw[D,W (λe=>by rw[e]at p;simp at p;omega)];simp
 .have hc:=aR hc;rw[D,K (bJ J),bD]
 .subst j;refine⟨R5,(HH ((gp aM).keep m λk _ e=>o.block k e R) n.1 J).mono ?_⟩;rintro _ w ⟨rfl,t⟩;have s:=t.size;refine⟨_,I,sm H t,?_,?_,r++[32,91]++xK x.g++[93],by rw[show(aq #[32,91])=T [32,91]from rfl,show(aq #[93])=T [93]from rfl,fD,fD,fD],?_,o.cn t,J,by rw[B];unfold S1;rw[hc,K I];simp⟩
  .rw[show(aq #[32,91])=T [32,91]from rfl,fD,cH,cH,aP];simp[aY,bE];omega
  .rw[show(aq #[32,91])=T [32,91]from rfl,fD,fD,cH,aP,aP];simp[aY,bE];omega
  simp;omega
 .rw[B];unfold S1;rw[hc,W R,bD]
 .refine(P8 w1 b).mono ?_;rintro _ w ⟨rfl,e⟩;have k:=e.size;have:=acK b;refine⟨_,I,sm G e,R5,[97,102,116,101,114,32]++Lib.itoa x.wt,by rw[show(aq #[97,102,116,101,114,32])=T [97,102,116,101,114,32]from rfl,fD],?_,o0.cn e,J,?_⟩
  .rw[aP];simp[aY,bE];omega
  have hc:x.k=3:=R0
  unfold Yy;rw[W J,K hc];simp[fL]
 .have hc:¬x.k=3:=R0
  rw[v0];unfold Yy;rw[W hc]
 refine⟨R5,[111,110,32]++x.ev,by rw[show(aq #[111,110,32])=T [111,110,32]from rfl,fD],?_,d,aX _,?_⟩
 .rw[aP];simp[aY,bE];omega
 rw[K R0];simp[u6]
end
structure Prg (w:aw) (b:Nat) (sl:Sl) (l:S):Prop where
 blk:aG w b 258 [sl.v]
 buf:Bf w (b+1) sl l
section
variable {w w0 w1 w2 w':aw} {b k0:Nat} {sl sl' SG:Sl} {l:S}
def Prg.only(h:Prg w b sl l)(O:az [] w w'):Prg w' b sl l:=⟨O.blk h.blk R,h.buf.keep λg _ a=>O.block g a R⟩
def Prg.lb(h:Prg w b sl l):b<w.heap.size:=h.blk.lt
def Prg.W2(h:Prg w b sl l){k}(a:k<b):¬(k=b∨sl.a=Hg ⟨k,0,ZQ⟩):=by
 rintro(e | e)
 .omega
 have:=(h.buf.lt e).1;omega
def Prg.put{s'}{m}{e:TypeId}(a:Prg w b sl l)(d:Bf w1 (b+1) s' m)(k3:aE (λk=>sl.a=Hg ⟨k,0,ZQ⟩) w w1)(n:∀k,s'.a=Hg ⟨k,0,ZQ⟩->sl.a=Hg ⟨k,0,ZQ⟩∨w.heap.size<=k):
  aG w1 b 258 [sl.v]/\∀w2,az [b] w1 w2->aG w2 b 258 [s'.v]->Prg w2 b s' m/\jV b sl w s' w2:=by
 refine⟨k3.blk a.blk λe=>by have:=(a.buf.lt e).1;omega,λw2 c j=>⟨⟨j,d.keep λg f i=>c.block g i (by have:=(d.lt f).1;simp;omega)⟩,(k3.mono λk _ h=>.inr h).trans (c.p (F:=λk=>k=b) λx hx=>.inl KB) λk h=>.inl (.inl h),n⟩⟩
def am5{B}(a:Bf w B sl l) cs {n} {parts} (p:parts=(((cs.map jk).zipIdx 0).map λx=>(x.2,x.1)).toArray) (d:Z8 cs=n) (b:0<n) (A:n*1<=16777216) (D:B<=w.heap.size) (F:Z8 l+Z8 cs<=140737488355328):
  ∃y w1,(av 256 n parts).run ar w=.ok (Sl.v y) w1/\az [] w w1/\∃s w2,(Builtin.append_ #[256,256] 256 #[Sl.v sl,Sl.v y]).run ar w1=.ok (Sl.v s) w2/\Bf w2 B s (l++cs)/\
   aE (λk=>sl.a=Hg ⟨k,0,ZQ⟩) w w2/\∀k,s.a=Hg ⟨k,0,ZQ⟩->sl.a=Hg ⟨k,0,ZQ⟩∨w.heap.size<=k:=by
 have⟨y,w1,j,m,k3,_⟩:=uj w cs p d b A;have G:=k3.size;have⟨s,w2,o,q,C,u,v,z⟩:=tZ (P:=ar) (t:=256) (ty:=256) (e:=5) (i:=Tryz.t5) (bytes:=1) (size:=1) (r:=nB) Dr G4 I I I I si ((a.keep λg E c=>k3.block g c R).own λ_=>True) ((yZ m).mono si λk h=>⟨trivial,λe=>by have:=(a.lt e).2;have:=h.1;omega⟩) J J Z;refine⟨y,w1,j,k3,s,w2,o,Bf.of q UF,k3.AY (u.p λx f=>.inl (v x f).1),λk h=>?_⟩;rcases z with e | e
 .rw[e]at h;exact .inl h
 rw[e]at h;injection h with h;injection h with h;omega
def FQ:∀d,vY (d+1)=vY d++[32,32]
 | 0=>rfl
 | d+1=>by
  show 32::32::vY _=(32::32::vY d)++[32,32]
  rw[FQ d];rfl
def HL:∀d,Z8 (vY d)=2*d
 | 0=>rfl
 | d+1=>by rw[vY,aY,aY,HL d];omega
def Qa{l m}{d}(h:Z8 l<=4000000000000)(hd:d<=4194304)(a:Z8 m<=3000000000010):Z8 (ly l (d,m))<=4000000000000:=by
 rw[ly];split
 .exact h
 rw[II];rw[aP,aP,aP,HL];simp;omega
def Qb(h:Prg w b sl l){d:Nat}(B:d<=4194304) m (a:Z8 m<=3000000000010):
  aA ar 206 #[ah (Hg ⟨b,0,ZQ⟩),O U d,ae (T m)] w λe w'=>e=ao (aj #[])/\∃sl',Prg w' b sl' (ly l (d,m))/\jV b sl w sl' w':=by
 refine ret (akV ?_);have c:=h.buf.len;refine⟨sl,Mn h.blk 0 I,λhc=>⟨I,sl,?_,UI _ _ _⟩,λhc=>?_⟩
 .have hc:=aO hc;rw[ly];rw[K J];exact h
 have hc:=M1
 have p:ly l (d,m)=l++vY d++m++[10]:=by
  unfold ly II;rw[W J];simp
 rw[p];refine⟨λv i u=>∃(j:Nat) (q:Sl),i=j/\v+j=d/\Prg u b q (l++vY j)/\jV b sl w q u,d,⟨0,sl,I,J,by rw[vY,bD];exact h,UI _ _ _⟩,?_⟩;rintro v _ w0 ⟨j,q,rfl,D,P,M⟩;have F:=P.lb;have t:Z8 (l++vY j)<=16384+2*j:=by rw[aP,HL];omega
 refine⟨λR=>?_,λR=>?_⟩
 .have R:=aO R;have⟨y,w1,d,C,s,w2,f,g,k,l⟩:=am5 P.buf [32,32] (n:=2) (parts:=#[.mk 0 _,.mk 1 _]) I I Z Z J (by rw[aY,bf];omega);have⟨m,o⟩:=P.put (e:=0) g k l;refine⟨q,Mn P.blk 0 I,y,w1,d,s,w2,f,b,0,_,_,I,m,aX 1,λA x z=>?_⟩;have⟨r,w⟩:=o A x z;exact⟨v-1,J,j+1,s,TE,J,by rw[FQ,<-be];exact r,M.trans w⟩
 have R:=aR R;have lD:j=d:=J
 subst lD;have⟨s,w1,T,V,k3,X⟩:=Cd P.buf m J J;have⟨C,E⟩:=P.put (e:=0) V k3 λk g=>by
  rcases X with e | e
  .rw[e]at g;exact .inl g
  rw[e]at g;injection g with g;injection g with g;omega
 refine⟨q,Mn P.blk 0 I,s,w1,T,b,0,_,_,I,C,aX 1,λw2 G Y=>?_⟩;have⟨f,l⟩:=E w2 G Y;have A0:=f.lb;have⟨y,w3,r,a2,o,w4,w,x,z,A⟩:=am5 f.buf [10] (n:=1) (parts:=#[.mk 0 _]) I I Z Z J RC;have⟨H,L⟩:=f.put (e:=0) x z A;refine⟨s,Mn f.blk 0 I,y,w3,r,o,w4,w,b,0,_,_,I,H,aX 1,λw5 S vi=>?_⟩;have⟨N,Q⟩:=L w5 S vi;exact⟨I,o,N,(M.trans l).trans Q⟩
end
mutual
def YH:Nd->Prop
 | .mk b k=>(1<=b.k/\b.k<=4)/\R7 k
def R7:X Nd->Prop
 | []=>True
 | x::l=>YH x/\R7 l
end
def afk{x}:∀{l:X Nd},R7 l->x∈l->YH x
 | y::l,a,h=>by
  rcases aZ.1 h with rfl | h
  .exact a.1
  exact afk a.2 h
mutual
def Ww:∀(d:Nat) (x:Nd),ku d x=aF->YH x
 | d,.mk b l,h=>by
  rw[ku,H,H]at h;rw[YH];refine⟨?_,adS (d+1) l h.2⟩;have a:=h.1.2;unfold u7 at a;rw[H]at a;have e:=a.2;by_cases c:iJ b.k=aF
  .unfold iJ at c;have:=aO c;omega
  rw[W c]at e;simp only[H,bU]at e;omega
def adS:∀(d:Nat) (l:X Nd),jm d l=aF->R7 l
 | _,[],_=>by rw[R7];trivial
 | d,x::l,h=>by
  rw[jm,H]at h;rw[R7];exact⟨Ww d x h.1,adS d l h.2⟩
end
def qL(w:aw)(b:Nat)(sl:Sl)(a:aw)(s:Sl)(l:S):Prop:=(Prg w b sl l/\Z8 l<=4000000000000)/\jV b s a sl w
def qL.line{w w0}{b}{sl s0}{l}(f:qL w b sl w0 s0 l){d:Nat}(B:d<=4194304) m (c:Z8 m<=3000000000010) {k0} (g:k0≠b) (i:s0.a≠Hg ⟨k0,0,ZQ⟩) (j:k0<w0.heap.size):
  aA ar 206 #[ah (Hg ⟨b,0,ZQ⟩),O U d,ae (T m)] w λe a=>e=ao (aj #[])/\cF [k0] w a/\∃sl',qL a b sl' w0 s0 (ly l (d,m)):=by
 have⟨⟨k,n⟩,M⟩:=f;refine(Qb k B m c).mono ?_;rintro _ a ⟨rfl,sl',P,h⟩;exact⟨I,M.sm g i j h,sl',⟨P,Qa n B c⟩,M.trans h⟩
def qL.only{w w' w0}{b}{sl s0}{l}(a:qL w b sl w0 s0 l)(h:az [] w w'):qL w' b sl w0 s0 l:=by
 have⟨⟨P,c⟩,M⟩:=a;exact⟨⟨P.only h,c⟩,M.trans (TM h)⟩
def P4(D:Nat):Prop:=∀{F:aK} {w:aw} {b:Nat} {sl:Sl} {l:S} {x:Nd} {c:aJ} {d:Nat},pv aM D w F x c->(∀k,F k->k<b)->Prg w b sl l->Z8 l<=4000000000000->Dw x->YH x->lF x<=1048576->d+j7 x<=4000000->
 aA ar 265 #[ah (Hg ⟨b,0,ZQ⟩),ai c.toArray,O U d] w λe a=>e=ao (aj #[])/\∃sl',Prg a b sl' (eE l (Im d x))/\Z8 (eE l (Im d x))<=4000000000000/\jV b sl w sl' a
def ldP{D:Nat}(hD:P4 D){F:aK}{f:aw}{b:Nat}{sl:Sl}{l:S}{x:Nd}{m:aJ}{d:Nat}(hx:pv aM (D+1) f F x m)(V:∀k,F k->k<b)(hP:Prg f b sl l)(hl:Z8 l<=4000000000000)(hn:Dw x)(G:YH x)(hs:lF x<=1048576)(TB:d+j7 x<=4000001):
  aA ar 208 #[ah (Hg ⟨b,0,ZQ⟩),ai m.toArray,O U (d:Int)] f λe w'=>e=ao (aj #[])/\∃(sl':Sl),Prg w' b sl' (eE l (JH d x.b++qE d x.kids))/\Z8 (eE l (JH d x.b++qE d x.kids))<=4000000000000/\jV b sl f sl' w':=by
 obtain⟨a,c⟩:=x;obtain⟨M,lv,mv,kids,N,vg,Q⟩:=hx;dsimp only[Nd.kids,Nd.b]at N vg Q;subst N;have hk:=Q.1;rw[Dw]at hn;rw[YH]at G;obtain⟨⟨BO,A0,v⟩,TA⟩:=hn;obtain⟨Y,C,qZ⟩:=vg;rw[lF]at hs;rw[j7]at TB;unfold uS at hs;have H3:=hP.lb;refine ret (akX ?_);intro A w dL t j;have z0:=j.size;have z:A≠b:=J
 have r:sl.a≠Hg ⟨A,0,ZQ⟩:=λe=>Vb
 have P:qL w b sl w sl l:=⟨⟨hP.only j,hl⟩,UI _ _ _⟩
 have nF:∀k,F k->¬(k=b∨sl.a=Hg _):=λk B=>hP.W2 (V k B);have fr:∀{u:aw} {q:Sl} {L:S},qL u b q w sl L->∀k,F k->k<f.heap.size->u.heap[k]? =f.heap[k]? :=fun{u q L} h k B bT=>(h.2.1.block k J (nF k B)).trans (j.block k bT R);have sz:∀{u:aw} {q:Sl} {L:S},qL u b q w sl L->w.heap.size<=u.heap.size:=λh=>h.2.1.size;have sm:∀{u u':aw} {q:Sl} {L:S},qL u b q w sl L->az [] u u'->cF [A] u u':=λh hO=>hO.same (by have:=sz h;simp;omega);have kA:∀{u:aw} {q s:Sl} {la:X Ac} {L:S},jh aM (pI aM) 9 78 f F s la->qL u b q w sl L->jh aM (pI aM) 9 78 u F s la:=λh p=>h.keep (cN aM) Z (fr p);have kM:∀{u:aw} {q:Sl} {L:S},qL u b q w sl L->aB (JE aM) 13 u F mv a.mv:=λp=>(qZ.keep (iL aM) Z (fr p)).1;have kK:∀{u:aw} {q:Sl} {L:S},qL u b q w sl L->aB (pv aM D) 9 u F kids c:=λp=>(Q.keep (ck aM D) Z (fr p)).1;have aC:=fh a.en;have am:=fh a.lv;have Ez:=qZ.1.len;have F7:=hk.len;have aS:=mf a.mv;have Gb:=mg c;let St:S->aw->Prop:=λL u=>∃q,qL u b q w sl L
 have eT:((T a.ini).toList==((aq #[]).toList))=VM (a.ini=[]):=iC a.ini [];rw[eT];have g:∀{la:X Ac},jd la<=1048576->Z8 (An la)<=3+Z8 la*1065080:=fun{la} h=>by
  have:=HK la h;unfold An;rw[aY,aP];simp;omega
 have i:=Y.1.len;have E:=C.1.len;refine⟨St (eE l (xr d a)),λw1 ⟨q1,n⟩=>⟨St (eE l (xr d a++OY d a)),λw2 ⟨q2,o⟩=>⟨St (eE l (xr d a++OY d a++RN d a)),λw3 ⟨q3,h3⟩=>?_,λhc=>?_,λhc=>⟨q2,by
  have hc:=aR hc;rw[show RN d a=[] by unfold RN;rw[K (bJ J)],bD];exact o⟩⟩,λhc=>?_,λhc=>⟨q1,by
  have hc:=aR hc;rw[show OY d a=[] by unfold OY;rw[K (bJ J)],bD];exact n⟩⟩,λhc=>?_,λhc=>⟨sl,by
  have hc:a.ini=[]:=R0
  rw[show xr d a=[] by unfold xr;rw[K hc]];exact P⟩⟩
 .refine⟨λx e u=>∃b:Nat,e=(b:Int)/\x+b=Z8 a.mv/\b<=Z8 a.mv/\St (eE l (xr d a++OY d a++RN d a++(a.mv.take b).map λT=>(d,EN T))) u,Z8 a.mv,⟨0,I,J,bh _,q3,by rw[ci,gQ,bD];exact h3⟩,?_⟩;rintro x _ w4 ⟨b,rfl,vD,hj,q4,q⟩;obtain⟨⟨s,bV⟩,bv⟩:=id q;have aT:=s.buf.len;refine⟨q4,λ_=>Mn s.blk 0 I,λk=>?_,λk=>?_⟩
  .rw[H]at k;have k:=aO k.1;obtain⟨ad,y,m,g1,g2,g3,g4,g5,g6⟩:=(kM q).get (bc b) J;rw[aW]at g2;have tU:=bA g2;have Q8:=qG tU;have A7:=g6;obtain⟨gc,mF,tg,rfl,hg,Ll,pO⟩:=g6;obtain⟨gs,rfl⟩:=dM hg;refine⟨ad,g1,_,_,_,_,_,_,_,_,_,_,_,_,_,g5,(aa3 A7 (v y tU) J).mono ?_⟩;rintro _ w5 ⟨rfl,ht,dP⟩;refine⟨_,I,sm q dP,((q.only dP).line (d:=d) J (EN y) J z r t).mono ?_⟩;rintro _ w6 ⟨rfl,bY,q6,h6⟩;exact⟨I,bY,x-1,J,b+1,TE,J,J,q6,by
    rw[bq,g2,cX,<-be,gy];exact h6⟩
  have ce:eE l (xr d a++OY d a++RN d a++(a.mv.take b).map λT=>(d,EN T))=eE l (JH d a):=by
   have M:JH d a=xr d a++OY d a++RN d a++IH d a:=by unfold JH;simp
   rw[M];unfold IH;by_cases y:b=Z8 a.mv
   .rw[y,ez]
   have Yl:16384<Z8 (eE l (xr d a++OY d a++RN d a++(a.mv.take b).map λT=>(d,EN T))):=by
    rw[fV]at k;rcases k with h | h
    .have:=aR h;omega
    have:=aR h;omega
   conv=>rhs;rw[<-fW b a.mv,cX,<-be,gy]
   rw[JJ _ _ Yl]
  refine⟨λx e u=>∃b:Nat,e=(b:Int)/\x+b=Z8 c/\b<=Z8 c/\St (eE l (JH d a++qE d (c.take b))) u,Z8 c,⟨0,I,J,bh _,q4,by rw[ci,qE,bD,<-ce];exact q⟩,?_⟩;rintro SR _ w7 ⟨e,rfl,co,hi,q7,h7⟩;obtain⟨⟨SM,Q7⟩,cc⟩:=id h7;refine⟨λYk=>?_,λYk=>?_⟩;rotate_left
  .have Yk:=aR Yk;have d:e=Z8 c:=J
   rw[d,ez]at SM Q7;exact⟨I,q7,SM,Q7,(TM j).trans cc⟩
  have Yk:=aO Yk;obtain⟨ad,y,m,g1,g2,g3,g4,g5,g6⟩:=(kK h7).get (bc e) J;rw[aW]at g2;have tU:=bA g2;have Q8:=nK tU;have eQ:=unI tU;have A7:=g6;obtain⟨D',rfl⟩:∃D',D=D'+1:=by
   cases D with
   | zero=>exact g6.elim
   | succ D'=>exact⟨D',I⟩
  obtain⟨r7,r9,oe,gY,rfl,_⟩:=g6;refine⟨ad,g1,_,_,_,_,r7,r9,oe,gY,_,g5,(hD A7 V SM Q7 (zx TA tU) (afk G.2 tU) J J).mono ?_⟩;rintro _ w8 ⟨rfl,q8,dO,el,cC⟩;have e8:eE (eE l (JH d a++qE d (c.take e))) (Im d y)=eE l (JH d a++qE d (c.take (e+1))):=by
   rw[bq,g2];show _=eE l (JH d a++qE d (c.take e++[y]));rw[AJ];simp only[gy]
  rw[e8]at dO el;exact⟨I,cc.sm z r t cC,SR-1,J,e+1,TE,J,J,q8,⟨dO,el⟩,cc.trans cC⟩
 .refine(D2 (kA C o) A0 J).mono ?_;rintro _ w9 ⟨rfl,b⟩;have y:=g (la:=a.lv) J;refine⟨_,I,sm o b,R5,?_⟩;rw[show(aq #[108,101,97,118,101,32])=T [108,101,97,118,101,32]from rfl,fD];refine((o.only b).line (d:=d) J _ (by rw[aP];simp;omega) z r t).mono ?_;rintro _ x ⟨rfl,k,q,s⟩;refine⟨I,k,q,?_⟩;have hc:=aO hc;rw[show RN d a=[_] by unfold RN;rw[W (λe=>by rw[e]at E;simp at E;omega)],gy];exact s
 .refine(D2 (kA Y n) BO J).mono ?_;rintro _ w9 ⟨rfl,b⟩;have y:=g (la:=a.en) J;refine⟨_,I,sm n b,R5,?_⟩;rw[show(aq #[101,110,116,101,114,32])=T [101,110,116,101,114,32]from rfl,fD];refine((n.only b).line (d:=d) J _ (by rw[aP];simp;omega) z r t).mono ?_;rintro _ x ⟨rfl,k,q,s⟩;refine⟨I,k,q,?_⟩;have hc:=aO hc;rw[show OY d a=[_] by unfold OY;rw[W (λe=>by rw[e]at i;simp at i;omega)],gy];exact s
 refine⟨R5,by rw[show(aq #[105,110,105,116,105,97,108,32])=T [105,110,105,116,105,97,108,32]from rfl,fD,cH,aP];simp;omega,?_⟩;rw[show(aq #[105,110,105,116,105,97,108,32])=T [105,110,105,116,105,97,108,32]from rfl,show(aq #[59])=T [59]from rfl,fD,fD];refine(P.line (d:=d) J _ (by simp only[aP,aY,bE];omega) z r t).mono ?_;rintro _ s ⟨rfl,b,q,k⟩;refine⟨I,b,q,?_⟩;have hc:=R0
 rw[show xr d a=[(d,dU++32::_)] by unfold xr;rw[W hc]];have e:([105,110,105,116,105,97,108,32]++a.ini++[59]:S)=dU++32::(a.ini++[59]):=by simp[dU]
 rw[e]at k;exact k
def aa4{D}(hD:P4 D){F}{w}{b}{sl}{l}{x}{cs}{d}(v:pv aM (D+1) w F x cs)(p:∀k,F k->k<b)(hP:Prg w b sl l)(hl:Z8 l<=4000000000000)(hn:Dw x)(g:YH x)(s:lF x<=1048576)(TB:d+j7 x<=4000000):
 aA ar 265 #[ah (Hg ⟨b,0,ZQ⟩),ai cs.toArray,O U ↑d] w λe A=>e=ao (aj #[])/\∃sl',Prg A b sl' (eE l (Im d x))/\Z8 (eE l (Im d x))<=4000000000000/\jV b sl w sl' A:=by
 have⟨a,ks⟩:=x;have yx:=v;have⟨en,lv,mv,kids,o,vg,X⟩:=v;dsimp[Nd.kids,Nd.b]at o vg X;subst o;have n:=s;rw[lF]at n;rw[uS]at n;have H3:=hP.lb;refine ret (alt ?_);intro z c dL t i;have y:z≠b:=J
 have m:sl.a≠Hg ⟨z,0,ZQ⟩:=λe=>Vb
 have Y:qL c b sl c sl l:=⟨⟨hP.only i,hl⟩,UI _ _ _⟩
 have am:=by rw[YH]at g;exact g.1
 have nF:=λk r=>hP.W2 (p k r);have f:∀{u:aw} {q:Sl} {L:S},qL u b q c sl L->L=eE l (Im d (.mk a ks))->∃sl',Prg u b sl' _/\Z8 (eE l _)<=4000000000000/\jV b sl w sl' u:=fun{u q L} h e=>by
  subst e;have⟨⟨j,b⟩,d⟩:=h;exact⟨q,j,b,(TM i).trans d⟩
 have B:=fD;have E:_=T [104,105,115,116,111,114,121,32]:=I;have G:_=T [32,45,62,32]:=I;have H:_=T [59]:=I;have M:_=T [100,101,101,112,32]:=I;have N:_=T [115,116,97,116,101,32]:=I;have P:_=T [32,123]:=I;have Q:(aq #[112,97,114,97,108,108,101,108,32])=T [112,97,114,97,108,108,101,108,32]:=I;have V:_=T [125]:=I;simp only[E,G,H,M,N,P,Q,V,B,cH];have go:=λaC hm=>Y.line (d:=d) J aC hm y m t;refine⟨λu=>¬iJ a.k=aF/\∃q,qL u b q c sl (ly l (d,kW a.k++32::(a.nm++[32,123]))),λw1 ⟨hh,q1,j⟩=>?_,λk3=>?_,λk3=>⟨λk4=>?_,λk4=>⟨λk1=>?_,λk1=>?_⟩⟩⟩
 .have⟨⟨l,w⟩,h⟩:=j;have D:pv aM _ w1 F _ _:=(ck aM _).keep yx λk r bT=>(h.1.block k J (nF k r)).trans (i.block k bT R);rw[eS (x:=d+1) J J,show(d:Int)+1=((d+1:Nat)) by omega];refine(ldP hD (d:=d+1) D p l w hn g s J).mono ?_;rintro _ w2 ⟨rfl,q2,q,xP,e⟩;have h2:qL w2 b q2 c sl _:=⟨⟨q,xP⟩,h.trans e⟩
  refine⟨I,h.sm y m t e,(h2.line (d:=d) J [125] Z y m t).mono ?_⟩;rintro _ w3 ⟨rfl,T,q3,h3⟩;refine⟨I,T,FD,f h3 ?_⟩;rw[Im,W hh];simp[uy,gy,Nd.b,Nd.kids];rfl
 .have k3:a.k=3:=RO
  simp only[aP,aY,bE];refine⟨J,J,J,J,(go _ C).mono ?_⟩;rintro _ w ⟨rfl,D,q,h⟩;refine⟨I,D,FD,f h ?_⟩;rw[Im,K (by unfold iJ;exact bF (.inl k3)),k3];congr 2;simp[kW,sQ]
 .have k4:a.k=4:=RY
  simp only[aP,aY,bE];refine⟨J,J,J,J,(go _ C).mono ?_⟩;rintro _ w ⟨rfl,D,q,h⟩;refine⟨I,D,FD,f h ?_⟩;rw[Im,K (by unfold iJ;exact bF (.inr k4)),k4];congr 2;simp[kW,Fs]
 .have k1:a.k=1:=Sh
  simp only[aP,aY,bE];refine⟨J,J,(go _ C).mono ?_⟩;rintro _ w ⟨rfl,D,q,h⟩;refine⟨I,D,by unfold iJ;rw[k1];decide,q,?_⟩;have e:([115,116,97,116,101,32]++a.nm++[32,123])=kW a.k++32::(a.nm++[32,123]):=by rw[k1];simp[kW,AA]
  rw[e]at h;exact h
 have k3:=RO
 have k4:=RY
 have k1:=Sh
 have k:a.k=2:=J
 simp only[aP,aY,bE];refine⟨J,J,(go _ C).mono ?_⟩;rintro _ w ⟨rfl,D,q,h⟩;refine⟨I,D,by unfold iJ;rw[k];decide,q,?_⟩;have e:([112,97,114,97,108,108,101,108,32]++a.nm++[32,123])=kW a.k++32::(a.nm++[32,123]):=by rw[k];simp[kW,qo]
 rw[e]at h;exact h
def aeb:∀D,P4 D
 | 0=>λh _ _ _ _ _ _ _=>h.elim
 | D+1=>λx h P l n C s T=>aa4 (aeb D) x h P l n C s T
def xCB{w}{F}{D}{c}{vs}{s}(h:ChR aM (D+1) w F c vs s)(n:Ga c)(V:jZ c.vars+lF c.root<=1048576):
  aA ar 159 #[ai (vs.v::s).toArray] w λe N=>e=ao (aj #[ae (T (jI c).1),O U (jI c).2])/\az [] w N:=by
 have B:=h.root;obtain⟨G,M,mv,kids,H,_⟩:=h.root;subst H;refine ret (akz ?_);intro g Y Q P j;have keep:∀{u:aw},az [] w u->ChR aM (D+1) u F c vs (rz c.root.b.k c.root.b.nm c.root.b.ini c.root.b.dft G M mv kids c.root.b.a):=λl=>⟨h.vars.keep ec Z λk _ f=>l.block k f R,(ck aM _).keep h.root λk _ f=>l.block k f R⟩
 have L:Z8 c.root.b.nm<=lF c.root:=by
  obtain⟨vv,⟨a,k⟩⟩:=c;show (Z8 a.nm)<=lF (.mk a k);rw[lF];unfold uS;omega
 refine(am0 (keep j) n J).mono ?_;rintro _ w1 ⟨rfl,i⟩;have z1:=i.size;have o:=j.cn i;have p:=fD;have r:(aq #[99,104,97,114,116,32])=T [99,104,97,114,116,32]:=I;have t:(aq #[32,123])=T [32,123]:=I;have x:(aq #[118,97,114,32])=T [118,97,114,32]:=I;have z:(aq #[32,61,32])=T [32,61,32]:=I;have A:(aq #[59])=T [59]:=I;have E:(aq #[125])=T [125]:=I;refine⟨_,I,i.same C,λb=>⟨?_,o⟩,λb=>?_⟩
 .have b:qW c=aM:=by simpa using b
  unfold jI;rw[b];rfl
 have b:qW c=aF:=by simpa using b
 have TC:YH c.root:=by
  unfold qW at b;simp at b;exact Ww 0 c.root b.1.2
 have Yl:16384<(Z8 (eE [] (EO c)))->jI c=([],2):=λaS=>by unfold jI;rw[K b,K aS]
 have ce:¬16384<(Z8 (eE [] (EO c)))->jI c=_:=λaS=>by unfold jI;rw[K b,W aS]
 obtain⟨LL,aT⟩:∃LL,LL=(0,dB++32::(c.root.b.nm++[32,123]))::(c.vars.map λv=>(1,IB v)):=⟨_,I⟩
 have co:EO c=LL++(JH 1 c.root.b++qE 1 c.root.kids)++[(0,[125])]:=by rw[aT];unfold EO;simp
 rw[r,t,E,p,p,cH,cH];refine⟨J,by rw[aP];simp;omega,λk1 w2 ki ik cO jY=>?_⟩;have o2:=o.cn cO;have cC:Prg w2 k1 Sl.nil []:=⟨jY,.inl ⟨I,I⟩⟩
 have T:g≠k1:=J
 have aC:(Sl.nil).a≠Hg ⟨g,0,ZQ⟩:=λe=>Jh
 have am:∀{u:aw} {q:Sl} {cc:S},qL u k1 q w2 Sl.nil cc->az [] w u:=λaS=>(o2.AY aS.2.1).only λk hk=>hk.elim J λe=>Jh
 have h2:qL w2 k1 Sl.nil w2 Sl.nil []:=⟨⟨cC,Z⟩,UI _ _ _⟩
 have ge:=h.vars.1.len;have zZ:Z8 c.vars<=jZ c.vars:=by
  have:∀c:X Vr,Z8 c<=jZ c:=λc=>by induction c with
   | nil=>exact bh _
   | cons a c d=>rw[jZ,aY];omega
  exact this _
 refine(h2.line (d:=0) Z _ C T aC J).mono ?_;rintro _ w3 ⟨rfl,el,q3,h3⟩;have e0:([99,104,97,114,116,32]++c.root.b.nm++[32,123]:S)=dB++32::(c.root.b.nm++[32,123]):=by simp[dB]
 rw[e0]at h3;obtain⟨⟨dO,f5⟩,fd⟩:=id h3;refine⟨I,el,q3,dO.blk,λkv eQ q u=>∃F:Nat,eQ=(F:Int)/\kv+F=Z8 c.vars/\F<=Z8 c.vars/\qL u k1 q w2 Sl.nil (eE [] (_::((c.vars.take F).map λv=>(1,IB v)))),Z8 c.vars,⟨0,I,J,bh _,h3⟩,?_⟩;rintro kv _ q w4 ⟨F,rfl,vD,hj,h4⟩;obtain⟨⟨bV,bY⟩,bv⟩:=id h4;refine⟨λlR w5 dP vi=>?_,λlR=>?_⟩
 .have lR:=aO lR;have h5:=h4.only dP;obtain⟨⟨gO,g8⟩,gE⟩:=id h5;have gG:=KN ec (Mr ec h.vars.1 Z) Z λk hk f=>(am h5).block k f R;obtain⟨ad,y,s,g1,D,g3,g4,g5,g6⟩:=gG.get (bc F) J;rw[aW]at D;have tU:=bA D;have Q8:=wi tU;have a:=n.1 y tU;have g6:=g6;subst g6;have gT:=acK a;have kp:∀{u u':aw} {qa qb:Sl} {cc:S},qL u k1 qa w2 Sl.nil cc->jV k1 qa u qb u'->cj (λk=>k=g∨k<w.heap.size) u u':=fun{u u' qa qb cc} hp hm k hk f=>hm.1.block k f λhh=>by
   rcases hh with e | e
   .omega
   rcases hp.2.2 k e with e' | e'
   .cases e'
   omega
  rw[x,z,A];refine⟨λk=>k=g∨k<w.heap.size,.inl I,ad,g1,.inr (by rw[ol];exact g3.2),_,g5.part 0 λeQ v e=>tf e I,?_,?_,ad,g1,_,g5.part 1 λeQ v e=>tf e I,(P8 w5 a).mono ?_⟩
  .rw[cH];omega
  .rw[p,cH,aP];simp;omega
  rintro _ w6 ⟨rfl,dN⟩;have h6:=h5.only dN;obtain⟨⟨w,g9⟩,k⟩:=id h6;have z6:=k.1.size;have z5:=gE.1.size;refine⟨_,I,dN.same C,q,w.blk,VI dN,?_,?_,?_⟩
  .rw[p,p,cH,cH];simp;omega
  .rw[p,p,p,cH];simp only[aP,aY,bE];omega
  rw[p,p,p,p];refine(Qb w (d:=1) Z _ C).mono ?_;rintro _ w7 ⟨rfl,q7,SM,q⟩;have Q7:=Qa (d:=1) (m:=[118,97,114,32]++y.n++[32,61,32]++Lib.itoa y.v++[59]) g9 Z C;have ev:([118,97,114,32]++y.n++[32,61,32]++Lib.itoa y.v++[59]:S)=IB y:=by simp[IB,uu]
  have e7:ly (eE [] ((0,dB++32::(c.root.b.nm++[32,123]))::((c.vars.take F).map λv=>(1,IB v)))) (1,[118,97,114,32]++y.n++[32,61,32]++Lib.itoa y.v++[59])=eE [] ((0,dB++32::(c.root.b.nm++[32,123]))::((c.vars.take (F+1)).map λv=>(1,IB v))):=by
   rw[ev,bq,D,cX];simp only[uy,gy];rfl
  rw[e7]at SM Q7;exact⟨I,k.sm T aC J q,q7,SM.blk,kp h6 q,kv-1,J,F+1,TE,J,J,⟨SM,Q7⟩,k.trans q⟩
 have y:=(ck aM _).keep ((ck aM _).inHeap B) λk _ f=>(am h4).block k f R;have iS:=Vq c.root;have lR:=aR lR;have lD:F=Z8 c.vars:=J
 subst lD;rw[ez,<-aT]at bV bY;refine(ldP (aeb D) (d:=1) y (λk hk=>ZD) bV bY n.2 TC J J).mono ?_;rintro _ w8 ⟨rfl,q8,m,w,e⟩;have h8:qL w8 k1 q8 w2 Sl.nil _:=⟨⟨m,w⟩,bv.trans e⟩
 refine⟨I,bv.sm T aC J e,q8,m.blk,(h8.line (d:=0) Z [125] Z T aC J).mono ?_⟩;rintro _ w9 ⟨rfl,ip,q9,v⟩;have e9:ly (eE (eE [] LL) (JH 1 c.root.b++qE 1 c.root.kids)) (0,[125])=eE [] (EO c):=by
  rw[co];simp[gy];rfl
 rw[e9]at v;have⟨⟨a,iN⟩,iD⟩:=id v;have iF:=a.buf.len;refine⟨I,ip,q9,a.blk,λq=>⟨?_,am v⟩,λq=>⟨_,a.buf.bytes,?_,am v⟩⟩
 .have q:=aO q;rw[Yl J]
 have q:=aR q;rw[ce J]
def Gr(s:Sl)(w:aw)(a:Sl)(b:aw):Prop:=aE (λk=>s.a=Hg ⟨k,0,ZQ⟩) w b/\∀k,a.a=Hg ⟨k,0,ZQ⟩->s.a=Hg ⟨k,0,ZQ⟩∨w.heap.size<=k
def Gr.trans{s s' s''}{w w' tQ}(h:Gr s w s' w')(k:Gr s' w' s'' tQ):Gr s w s'' tQ:=by
 have z:=h.1.size;refine⟨h.1.trans k.1 λx a=>?_,λx a=>?_⟩
 .rcases h.2 x a with e | e
  .exact .inl e
  exact .inr e
 rcases k.2 x a with e | e
 .exact h.2 x e
 exact .inr J
def Gr.only{s}{w w'}(h:az [] w w'):Gr s w s w':=⟨h.p0,λ_ h=>.inl h⟩
def ad6 t:∀a {w:aw} {F:aK} {x:Nd} {c:aJ} {B:Nat} {s:Sl} {xs:X jo} {pa dp:Int},pv t a w F x c->(∀k,F k->k<B)->je B w s xs->B<=w.heap.size->
  (Z8 xs)+j7 x<=1000000->0<=dp->dp+j7 x<=1000000->
  aA ar 107 #[s.v,ai c.toArray,O U pa,O U dp] w λe b=>∃d,e=ao (Sl.v d)/\je B b d (xs++O0 (Z8 xs) pa dp x)/\Gr s w d b
 | 0,_,_,_,_,_,_,_,_,_,h,_,_,_,_,_,_=>h.elim
 | a+1,w,F,.mk f g,c,B,s,xs,pa,dp,⟨en,lv,mv,kids,M,_,Q⟩,N,hS,am,hn,h0,hd=>by
  have hk:=Q.1;clear Q;dsimp only[Nd.kids,Nd.b]at hk M;subst M;rw[j7]at hn hd;have F7:=hk.len;have aC:=sU g;refine iE (akn ?_);intro u w0 Q dL i;have z0:=i.size;have A:s.n=Z8 xs:=hS.len;have S:je B w0 s xs:=hS.zX i.p0 λ_ _ _ h=>h;obtain⟨y,w2,k1,k3,l,m,g1,g2,⟨gs,o,K⟩,L⟩:=jy (P:=ar) (t:=44) (ty:=44) (e:=165) (i:=Tryz.t165) (bytes:=48) (size:=5) (r:=AK) (G:=λ_=>False) (v:=ai #[O U f.k,ae (T f.nm),O U pa,O U dp,O U 0]) (x:=⟨f.k,f.nm,pa,dp,0⟩) D D I I I I Z Z Z ia S J I I (λ_ h=>h.elim) J;have z2:=k3.size;have z3:=o.size;have W:s.a≠Hg ⟨u,0,ZQ⟩:=λe=>GX
  have m3:Gr s w l m:=by
   refine⟨(i.cn k3).AY (o.p (F:=λk=>s.a=Hg ⟨k,0,ZQ⟩) λq r=>.inl (K q r).1),λk hk=>?_⟩;rcases L with e | ⟨q,e,h⟩
   .exact .inl RE
   rw[e]at hk;injection hk with hk;injection hk with hk;exact .inr J
  have n3:∀k,l.a=Hg ⟨k,0,ZQ⟩->k≠u:=λk hk e=>by
   subst e;rcases L with e | ⟨k,e,h⟩
   .exact W RE
   rw[e]at hk;injection hk with hk;injection hk with hk;omega
  have Y:je B m l (xs++[⟨f.k,f.nm,pa,dp,0⟩]):=je.of g2;have rL:∀{V:aw} {q:Sl},Gr s w q V->aB (pv t a) 9 V F kids g:=λhm=>Rx (ck t a) Z hk hm.1 λk p _ h=>by
   have:=N k p;have:=(hS.blk h).1;dsimp only at this;omega
  refine⟨y,w2,k1,k3.same C,l,m,g1,o.same λx hx=>⟨IG,λh=>by simp only[aV]at hx;subst hx;exact W (K _ h).1⟩,λz q R b=>∃j:Nat,R=(j:Int)/\z+j=Z8 g/\j<=Z8 g/\je B b q (xs++⟨f.k,f.nm,pa,dp,0⟩::wQ (Z8 xs+1) (Z8 xs) (dp+1) (g.take j))/\Gr s w q b/\m.heap.size<=b.heap.size/\∀k,q.a=Hg ⟨k,0,ZQ⟩->k≠u,Z8 g,⟨0,I,J,bh _,by rw[ci,wQ];exact Y,m3,aX _,n3⟩,?_⟩;rintro z q _ w5 ⟨j,rfl,vD,xC,n,E,z5,H⟩;constructor
  .intro hc;have hj:j<Z8 g:=Ro
   obtain⟨y,hy⟩:∃y,g[j]? =Hg y:=⟨_,bH hj⟩
   obtain⟨ad,y',ds,a1,B,a3,a4,a5,P⟩:=(rL E).get (bc j) J;rw[aW,hy]at B;injection B with B;subst B;have NX:=P;obtain⟨r,rfl⟩:∃r,a=r+1:=by
    cases a with
    | zero=>exact P.elim
    | succ r=>exact⟨r,I⟩
   obtain⟨r7,r9,oe,gY,rfl,_⟩:=NX;have yt:=oG hy;have v:Z8 (xs++⟨f.k,f.nm,pa,dp,0⟩::wQ (Z8 xs+1) (Z8 xs) (dp+1) (g.take j))=Z8 xs+1+dW (g.take j):=by
    rw[aP,aY,uA];omega
   refine⟨ad,a1,_,_,_,_,r7,r9,oe,gY,_,a5,?_⟩;rw[eS J J,A];refine(ad6 t (r+1) (pa:=((Z8 xs:Nat):Int)) P (s:=q) (xs:=xs++⟨f.k,f.nm,pa,dp,0⟩::wQ (Z8 xs+1) (Z8 xs) (dp+1) (g.take j)) (dp:=dp+1) N n (by have:=i.size;omega) (by rw[v];omega) J J).mono ?_;rintro _ w7 ⟨q7,rfl,T,G⟩;have z7:=G.1.size;refine⟨q7,I,G.1.same λx hx=>?_,z-1,J,j+1,TE,J,J,?_,E.trans G,J,λk hk e=>?_⟩
   .simp only[aV]at hx;subst hx;exact⟨J,λh=>H _ h I⟩
   .have e:g.take (j+1)=g.take j++[y]:=Ux
    rw[e,Hh,wQ,wQ,bD];rw[v,be,bW]at T;exact T
   subst e;rcases G.2 _ hk with h | h
   .exact H _ h I
   omega
  intro hc;have T:j=Z8 g:=M1
  subst T;rw[br (aX _)]at n;have P:(xs++⟨f.k,f.nm,pa,dp,0⟩::wQ (Z8 xs+1) (Z8 xs) (dp+1) g)[Z8 xs]? =Hg ⟨f.k,f.nm,pa,dp,0⟩:=by
   rw[cG (aX _),oV];rfl
  obtain⟨v,cells,qY,x,y,p3,p4,p5,p6,p7⟩:=Own.anh ia n P;have r:qY=Vk ⟨f.k,f.nm,pa,dp,0⟩:=p6;subst r;have s:q.n=Z8 xs+1+dW g:=by rw[n.len,aP,aY,uA];omega
  obtain⟨B,p9⟩:=p7 4 (O U (q.n:Int)) ⟨f.k,f.nm,pa,dp,(q.n:Int)⟩ (λ_=>False) Z I λ_ h=>h.elim;rw[<-A]at y;refine⟨_,y,v,Z8 xs*5+4,cells,_,by rw[gW,A],p3,by rw[<-A]at B⊢;exact B,λe=>H v x e.symm,λw9 t G=>⟨q,I,?_,?_⟩⟩
  .have:=p9 w9 t G;rw[sd _ _ (aX _),oV,List.set_cons_zero]at this;rw[O0];have e:(q.n:Int)=((Z8 xs+1+dW g:Nat):Int):=by rw[s]
   rw[e]at this;exact this
  refine E.trans ⟨t.p λk hk=>?_,λk hk=>.inl hk⟩;simp only[aV]at hk;subst hk;exact .inl x
def ags{w:aw}{F}{D}{c}{vs}{cs}(x:ChR aM (D+1) w F c vs cs)(m:j7 c.root<=64):
  aA ar 47 #[ai (vs.v::cs).toArray] w λe b=>(∃s,e=ao (Sl.v s)/\je w.heap.size b s (od c))/\az [] w b:=by
 obtain⟨n,l,mv,kids,g,_⟩:=x.root;subst g;refine iE (akd ?_);intro i j f d h;have r:=
  (ck aM _).keep ((ck aM _).mono ((ck aM _).inHeap x.root) λk hk=>hk.2) λk _ T=>h.block k T R
 refine(ad6 aM (D+1) (B:=w.heap.size) (s:=Sl.nil) (xs:=[]) (pa:= -1) (dp:=0) r (λk hk=>hk) (Vf _ _ _ _ _ _) h.size TU Z J).mono ?_;rintro _ o ⟨a,rfl,S,G⟩;have p:=G.1.only λk hk=>UA
 exact⟨a,I,p.same C,⟨a,I,by rw[cb]at S;exact S⟩,h.cn p⟩
def FR{c}(h:(jI c).2=0):qW c=aF:=by
 unfold jI at h;by_cases a:qW c=aF
 .exact a
 rw[W a]at h;exact absurd h (by show ¬22=0;decide)
def FT{c}(a:(jI c).2=0):j7 c.root<=64:=by
 have h:=FR a;unfold qW at h;simp only[H]at h;exact(aO h.2).2.2.1
def aa5{w:aw}{F}{D}{c}{vs}{cs}(x:ChR aM (D+1) w F c vs cs)(n:Ga c)(j:jZ c.vars+lF c.root<=1048576):
  aA ar 89 #[ai (vs.v::cs).toArray] w λe g=>(∃s,e=ao (aj #[Sl.v s,O U (jI c).2])/\((jI c).2=0->je w.heap.size g s (od c))/\((jI c).2≠0->s=Sl.nil))/\az [] w g:=by
 obtain⟨m,v,mv,kids,i,_⟩:=x.root;subst i;refine iE (akj ?_);intro q r Q L d;have keep:∀{u:aw},az [] w u->ChR aM _ u F c vs _:=λf=>⟨x.vars.keep ec Z λk _ b=>f.block k b R,(ck aM _).keep x.root λk _ b=>f.block k b R⟩
 refine(xCB (keep d) n j).mono ?_;rintro _ t ⟨rfl,p⟩;have z:=p.size;have o:=d.cn p;refine⟨_,_,I,p.same C,λhc=>⟨⟨_,I,λh=>absurd h R0,λ_=>I⟩,o⟩,λhc=>?_⟩;have hc:=R0
 refine(ags (keep o) (FT hc)).mono ?_;rintro _ y ⟨⟨l,rfl,S⟩,a⟩;exact⟨_,I,a.same C,⟨l,by rw[hc],λ_=>Own.low S J,λh=>absurd hc h⟩,o.cn a⟩
section
variable {w w':aw} {F G:aK} {s:Sl} {xs:X jo}
def agN{n}{j}{x}(h:xs[j]? =Hg x)(a:∀y,y∈xs.take j->y.nm≠n)(e:x.nm=n):iv xs n=j:=by
 unfold iv;have l:=vZ h;have:uR n (xs.map λx:jo=>x.nm)=j:=by
  have b:xs.map (λx:jo=>x.nm)=(xs.take j).map (λx:jo=>x.nm)++n::(xs.drop (j+1)).map λx:jo=>x.nm:=by
   rw[<-e,<-cu,<-cX];rw[<-(bd.1 h).2,BU,fW]
  rw[b,Hm]
  .rw[bQ,cf];omega
  intro m;obtain⟨y,c,e⟩:=oP.1 m;exact a y c e
 rw[this,K l]
end
section
variable {xs:X jo}
def Fo.deep(F:Fo xs){n:Nat}:∀j {i:Nat} {x y:jo},i<j->xs[i]? =Hg x->xs[j]? =Hg y->n<x.en->j<=n->x.dp<y.dp
 | j,i,x,y,v,a,c,n,l=>by
  have⟨p,t,m,h,d,f,g,k,b⟩:=F.pa j y J c;by_cases e:i=p
  .subst e;rw[a,cd]at h;subst h;omega
  have o:=by
   refine Nat.lt_of_le_of_ne (Ba λp=>?_) e;have:=b i x p v a;omega
  have:=Fo.deep F p o a h n J;omega
def wD(x:X jo)(a b:Int):L:=VM (b>=0)&&VM (b<Z8 x)&&VM (a>b)&&VM (a<((x[b.toNat]?).map (λs:jo=>s.en)).getD 0)
def adL{m:Nat}{x}(h:xs[m]? =Hg x) n:wD xs n m=VM (m<n/\n<x.en):=by
 have:=vZ h;rw[wD];rw[aW,h,kF,iW,bL];simp;omega
def xb{m:Nat}{x}(h:xs[m]? =Hg x){n}(a:0<=n):pJ xs m n=VM (m<=n/\n<x.en):=by
 unfold pJ Om;rw[aW,h,bL];simp;omega
def agt(F:Fo xs){a b:Int}(c:b<Z8 xs):wD xs a b=AH xs a b:=by
 by_cases h:0<=b
 .obtain⟨m,rfl⟩:∃m:Nat,b=m:=⟨b.toNat,J⟩
  have⟨x,d⟩:=lS (xs:=xs) (i:=m) J;rw[adL d];rw[AH];by_cases e:0<=a
  .rw[xb d e,bL];simp;omega
  have:pJ xs m a=aM:=by unfold pJ;rw[bC J,di]
  rw[this,gr,bC J]
 unfold wD AH pJ;simp[bC J,bC J,di,gr]
def agu(F:Fo xs){n}(b:0<=n){m}(a:m<Z8 xs):(wD xs n m||(n==m))=pJ xs m n:=by
 have⟨x,h⟩:=lS (xs:=xs) (i:=m) a;have:=(F.up m x h).1;rw[adL h,xb h b,bL];simp;omega
def aiM(F:Fo xs){a}(h:0<=a){j m:Nat}{x y}(b:xs[j]? =Hg x)(c:xs[m]? =Hg y)(f:j<m)(d:pJ xs j a=aF)(e:pJ xs m a=aF):x.dp<y.dp:=by
 rw[xb b h,eI]at d;rw[xb c h,eI]at e;exact F.deep (n:=a.toNat) m f b c J J
end
section
variable {w w':aw} {F G:aK} {sl sN:Sl} {xs:X jo}
def am6{B}{w}{s}{xs}(h:wj B w s xs):aB yI 1 w (λk=>B<=k) s xs:=(h.slice my).mono my λk a=>a.elim (λh=>h.elim) λh=>h.1
def Qf{w}{F}{s}{l}(h:aB yI 1 w F s l){i:Nat}{x}(a:l[i]? =Hg x):∃ad,cM s i 1 ad/\aD w ad [O U x]:=by
 have T:=(bd.1 a).1;have k:=h.len;have⟨ad,y,e,b,g,f,j,c,d⟩:=h.get (bc i) J;rw[aW,a]at g;cases g;obtain⟨rfl,_⟩:=d;exact⟨ad,b,c⟩
def HM w k:aA ar 118 #[O U k] w λe w'=>e=ao (ak (iJ k))/\w'=w:=by
 exact ret (ako k w ⟨by unfold iJ;congr 1;rw[bL];simp,I⟩)
def Cx(a:aB AK 5 w F sl xs) n:aA ar 49 #[sl.v,ae (T n)] w λe w'=>e=ao (O U (iv xs n))/\w'=w:=by
 refine ret (ake ?_);have l:=a.len;have d:=a.cap;have c:=a.big;refine⟨λk i u=>∃j:Nat,i=j/\k+j=Z8 xs/\j<=Z8 xs/\(∀y,y∈xs.take j->y.nm≠n)/\w=u,Z8 xs,⟨0,I,J,J,R,I⟩,?_⟩;rintro k _ _ ⟨j,rfl,v,f,b,rfl⟩;refine⟨λh=>?_,λh=>?_⟩
 .have h:=aO h;have⟨x,m⟩:=lS (xs:=xs) (i:=j) J;have⟨ad,n,o,_⟩:=pj a m;refine⟨ad,n,_,o.dx 1 _ I,λg=>?_,λg=>⟨k-1,J,j+1,TE,J,J,λy e=>?_,I⟩⟩
  .rw[iC]at g;rw[agN m b (aO g)];exact⟨I,I⟩
  rw[iC]at g;rw[bq,m,dc]at e;rcases e with e | e
  .exact b y e
  simp at e;subst e;exact aR g
 have h:=aR h;rw[br J]at b;refine⟨?_,I⟩;rcases lz xs n with⟨e,_⟩ | ⟨i,x,_,g,e⟩
 .rw[e]
 exact absurd e (b x (bA g))
def agZ(h:aB AK 5 w F sl xs) a b:aA ar 67 #[sl.v,O U a,O U b] w λe w'=>e=ao (ak (wD xs a b))/\w'=w:=by
 refine ret (akf ?_);unfold acY wD;rw[h.len];by_cases c:((VM (b>=0)&&VM (b<Z8 xs))&&VM (a>b))=aF
 .have q:=c;simp only[H]at q;have f:=aO q.1.1;have g:=aO q.1.2;obtain⟨i,rfl⟩:∃i:Nat,b=i:=⟨b.toNat,J⟩
  have⟨y,a⟩:=lS (xs:=xs) (i:=i) J;have⟨ad,d,_,_,_,e⟩:=pj h a;refine⟨ad,λ_=>d,y.en,λ_=>e,?_,I⟩;rw[aW,a];rfl
 refine⟨⟨0,0,ZQ⟩,λh=>absurd h c,0,λh=>absurd h c,?_,I⟩;rw[oU]at c;rw[c,di,di]
def aa6(c:aB AK 5 w F sl xs)(j:Fo xs)(A:Z8 xs<=1000){a b}(N:aB yI 1 w G sN [a,b])(o:Ah xs a)(p:Ah xs b):
  aA ar 268 #[sl.v,sN.v] w λe w'=>e=ao (O U (Dz xs a b))/\az [] w w':=by
 refine ret (alu ?_);have s:=c.len;have q:sN.n=2:=N.len;have f:=o.1;have r:=p.1;have k:∀{u:aw},az [] w u->aB AK 5 u F sl xs:=λh=>Aw ia Z c h R;have kN:∀{u:aw},az [] w u->aB yI 1 u G sN [a,b]:=λh=>Aw my Z N h R;refine⟨λg v i u=>∃m:Nat,i=m/\g+m=Z8 xs/\m<=Z8 xs/\az [] w u/\v=zn xs a b m,Z8 xs,⟨0,I,J,J,EC _ _,I⟩,?_⟩;rintro g _ _ l ⟨m,rfl,D,E,h,rfl⟩;refine⟨λd=>?_,λd=>?_⟩
 .rw[H]at d;have X:=aO d.1;have⟨x,C⟩:=lS (xs:=xs) (i:=m) J;refine⟨λB u=>B=zn xs a b _/\az [] w u,λB u ⟨G,L⟩=>⟨g-1,J,m+1,TE,J,J,L,G⟩,λS al i u=>∃t:Nat,i=t/\S+t=2/\t<=2/\al=(([a,b].take t).all λn=>pJ xs m n)/\l=u,2,⟨0,I,J,J,I,I⟩,?_⟩;rintro S _ _ _ ⟨t,rfl,F,M,rfl,rfl⟩;refine⟨λT=>?_,λT=>?_⟩
  .have T:=aO T;have⟨ad,y,z,b,a,P,Q,e,n⟩:=(kN h).get (bc t) J;obtain⟨rfl,_⟩:=n;rw[aW]at a;have x:0<=y:=by
    have:=bA a;simp at this;omega
   refine⟨ad,b,y,e,(agZ (k h) y m).mono ?_⟩;rintro _ u ⟨rfl,w⟩;obtain rfl:l=u:=w.symm;refine⟨_,I,ad,λ_ _=>b,y,λ_ _=>e,S-1,J,t+1,TE,J,J,?_,I⟩;rw[bq,a,jF,agu j x J];simp
  have T:=aR T;have V:t=2:=J
  subst V;have x:([a,b].take 2).all (λn=>pJ xs m n)=(pJ xs m a&&pJ xs m b):=R
  rw[x];have w:zn xs a b (m+1)=if _=aF then ↑m else zn xs a b m:=I
  have⟨ad,y,_,_,P,_⟩:=pj (k h) C;rcases wR (xs:=xs) a b m with⟨e,_⟩ | ⟨Y,e,Q,lR,_⟩
  .rw[e]at w⊢;refine⟨ad,λ_ c=>absurd c Z,0,λ_ c=>absurd c Z,ad,λ_ c=>absurd c Z,0,λ_ c=>absurd c Z,λhq n a=>⟨?_,h.cn a⟩,λhq t b=>⟨?_,h.cn b⟩⟩
   .rw[w,K Qn]
   rw[w,W Qn]
  have⟨z,a⟩:=lS (xs:=xs) (i:=Y) J;have⟨b,n,_,_,t,_⟩:=pj (k h) a;rw[e]at w⊢;refine⟨ad,λ_ _=>y,_,λ_ _=>P,b,λ_ _=>n,_,λ_ _=>t,λhq w4 h4=>⟨?_,h.cn h4⟩,λhq w5 h5=>⟨?_,h.cn h5⟩⟩
  .rw[w,K];rw[H]at hq;exact hq.1
  rw[w,W];intro e;have:=aiM j f a C Q (H _ _▸lR).1 (H _ _▸e).1;rw[e,bF (this)]at hq;simp at hq
 refine⟨?_,h⟩;have:m=Z8 xs:=by
  rw[fV]at d;rcases d with d | d
  .have:=aR d;omega
  have:=aR d;omega
 rw[this];rfl
end
structure Lk (f:Ft) (w:aw) (b:Nat) (F:aK) (vs:Sl) (vars:List Vr) (nc:aJ) (sl:Sl) (xs:List jo):Prop where
 blk:aG w b 162 (vs.v::(nc++[sl.v,O U f.1,O U f.2]))
 nc9:Z8 nc=9
 vr:aB MR 3 w F vs vars
 sp:aB AK 5 w F sl xs
 nF:∀k,F k->k≠b
section
variable {f g:Ft} {w w':aw} {b:Nat} {F G:aK} {vs sl:Sl} {vars:X Vr} {nc:aJ} {xs:X jo}
def Lk.only(h:Lk f w b F vs vars nc sl xs)(O:az [] w w'):Lk f w' b F vs vars nc sl xs:=
 ⟨O.blk h.blk R,h.nc9,Aw ec Z h.vr O R,Aw ia Z h.sp O R,h.nF⟩
def Lk.gN(h:Lk f w b F vs vars nc sl xs)(c:az [b] w w')(B:aG w' b 162 (vs.v::(nc++[sl.v,O U g.1,O U g.2]))):Lk g w' b F vs vars nc sl xs:=
 ⟨B,h.nc9,Aw ec Z h.vr c λk a _ hm=>h.nF k a RD,Aw ia Z h.sp c λk a _ hm=>h.nF k a RD,h.nF⟩
def Lk.lb(h:Lk f w b F vs vars nc sl xs):b<w.heap.size:=h.blk.lt
def Lk.row(h:Lk f w b F vs vars nc sl xs):aD w ((⟨b,0,ZQ⟩:Addr).add 10) [sl.v]:=by
 have a:=h.nc9;exact Mn h.blk 10 (by rw[dE,cG J,a];rfl)
def th(h:Lk f w b F vs vars nc sl xs)(e a:Int):aA ar 91 #[ah (Hg ⟨b,0,ZQ⟩),O U e,O U a] w λr w'=>r=ao (aj #[])/\Lk (jJ f [(e,a)]) w' b F vs vars nc sl xs/\az [b] w w':=by
 refine ret (akl ?_);have c:=h.nc9;have g:(vs.v::(nc++[sl.v,O U f.1,O U f.2]))[11]? =Hg (.int U f.1):=by
  rw[dE,cG J,c];rfl
 refine⟨f.1,Mn h.blk 11 g,λhf=>⟨b,11,_,_,I,h.blk,C,λi d Q=>⟨I,?_,d⟩⟩,λhf=>⟨I,?_,EC _ _⟩⟩
 .have b:eY (vs.v::(nc++[sl.v,O U f.1,O U f.2])) 11 [O U e,O U a]=vs.v::(nc++[sl.v,O U e,O U a]):=by
   unfold eY;rw[fx,List.take_append,c,br J];simp[c]
  rw[b]at Q;have hf:f.1=0:=RS
  have:jJ f [(e,a)]=(e,a):=by simp[jJ,hf]
  rw[this];exact h.gN d Q
 have hf:f.1≠0:=RS
 rw[Hi hf];exact h
def Qg(h:Lk f w b F vs vars nc sl xs){ok} e a (p:ok=aM):aA ar 91 #[ah (Hg ⟨b,0,ZQ⟩),O U e,O U a] w λr w'=>r=ao (aj #[])/\Lk (jJ f (bad ok e a)) w' b F vs vars nc sl xs/\az [b] w w':=by
 subst p;exact th h e a
def Qh(a:Lk f w b F vs vars nc sl xs)(m:Z8 vars<=8388608){s:S}:aA ar 266 #[ah (Hg ⟨b,0,ZQ⟩),ae (T s)] w λe w'=>e=ao (ak (VM (s∈vars.map λv=>v.n)))/\w'=w:=by
 refine ret (alq ?_);have l:=a.vr.len;refine⟨λk i u=>∃j:Nat,i=j/\k+j=Z8 vars/\j<=Z8 vars/\s∉(vars.take j).map (λv=>v.n)/\w=u,Z8 vars,⟨0,I,J,bh _,R,I⟩,?_⟩;rintro k _ _ ⟨j,rfl,D,d,c,rfl⟩;refine⟨vs,Mn a.blk 0 I,λh=>?_,λh=>⟨?_,I⟩⟩
 .have h:=aO h;obtain⟨ad,y,s,e,g,o,p,f,n⟩:=a.vr.get (bc j) J;subst n;rw[aW]at g;refine⟨vs,Mn a.blk 0 I,ad,e,_,f.dx 0 _ I,λb=>⟨?_,I⟩,λb=>⟨k-1,J,j+1,TE,J,J,?_,I⟩⟩
  .rw[iC]at b;have b:=aO b;rw[bF (oP.2 ⟨y,bA g,b⟩)]
  rw[iC]at b;rw[bq,g,cX,dc];rintro(q | q)
  .exact c q
  simp at q;exact aR b q.symm
 have h:=aR h;rw[br J]at c;rw[bC c]
def hdK(h:Lk f w b F vs vars nc sl xs)(m:Z8 xs<=1000) s:aA ar 267 #[ah (Hg ⟨b,0,ZQ⟩),ae (T s)] w λe w'=>e=ao (ak (JL xs s))/\w'=w:=by
 refine ret (alr ?_);refine⟨sl,h.row,(Cx h.sp s).mono ?_⟩;rintro _ u ⟨rfl,a⟩;obtain rfl:w=u:=a.symm;refine⟨_,I,λr u=>r=JL xs s/\w=u,λr u ⟨d,g⟩=>⟨by rw[d],g.symm⟩,λc=>?_,λc=>⟨?_,I⟩⟩
 .have c:=aO c;rcases lz xs s with⟨e,_⟩ | ⟨j,y,e,b,_⟩
  .omega
  obtain⟨ad,f,i,_⟩:=pj h.sp b;rw[e];refine⟨sl,h.row,ad,f,_,i.dx 0 _ I,(HM w y.k).mono ?_⟩;rintro _ u ⟨rfl,a⟩;refine⟨_,I,?_,a.symm⟩;unfold JL;rw[e,ke b,bF J,cr]
 unfold JL;rw[show decide _=aM from c,di]
def D4(h:∀k,G k->k≠b)(g:Z8 vars<=8388608)(hm:Z8 xs<=1000):∀(d:Nat) {f:Ft} {w:aw} {x:Ex} {c:aJ},Lk f w b F vs vars nc sl xs->OU aM d w G x c->Bh x<=8388608->
  aA ar 210 #[ah (Hg ⟨b,0,ZQ⟩),ai c.toArray] w λe w'=>e=ao (aj #[])/\Lk (jJ f (U7 xs (vars.map λv=>v.n) x)) w' b F vs vars nc sl xs/\az [b] w w'
 | 0,_,_,_,_,_,a,_=>a.elim
 | d+1,f,w,x,c,q,⟨s,H,K⟩,A=>by
  subst H;have z:=K.1;have zY:=z.len;have V:=q.lb;rw[He]at A;have M:Z8 x.dK<=Il x.dK:=by
   have:∀b:X Ex,Z8 b<=Il b:=λb=>by induction b with
    | nil=>exact bh _
    | cons a b d=>
     rw[Il,aY];have:=He a;omega
   exact this _
  generalize Q:(vars.map λv=>v.n)=n;refine ret (akZ ?_);intro N e T S i;have z0:=i.size;have t:=q.only i;have sm:∀{u G:aw},az [b] w u->e.heap.size<=u.heap.size->az [b] u G->cF [N] u G:=λ_ A L=>L.same C;let St:Ft->aw->Prop:=λf u=>Lk f u b F vs vars nc sl xs/\az [b] w u/\e.heap.size<=u.heap.size
  have B:St f e:=⟨t,only1 i,aX _⟩
  refine⟨λr u=>r=(VM (x.k≠2)||VM (x.s∈n))/\St f u,λl R ⟨o,D⟩=>⟨λr u=>r=(VM (x.k≠3)||JL xs x.s)/\St f u,λm W ⟨p,E⟩=>⟨St (jJ f (bad (LF xs n x.k x.s) 23 x.a)),λY P=>?_,λj=>?_,λj=>?_⟩,λhk=>⟨?_,D⟩,λhk=>?_⟩,λhk=>⟨?_,B⟩,λhk=>?_⟩
  .refine⟨λw F u=>∃a:Nat,F=(a:Int)/\w+a=Z8 x.dK/\a<=Z8 x.dK/\St (jJ f (bad (LF xs n x.k x.s) 23 x.a++wb xs n (x.dK.take a))) u,Z8 x.dK,⟨0,I,J,bh _,by rw[ci,wb,bD];exact P⟩,?_⟩;rintro w _ w4 ⟨a,rfl,vD,hj,v,s,z4⟩;refine⟨λb=>?_,λb=>?_⟩
   .have b:=aO b;obtain⟨ad,y,ds,g1,g2,g3,g4,g5,g6⟩:=(Aw (lw aM d) Z z s λk hk _ hm=>h k hk RD).get (bc a) J;rw[aW]at g2;have am:=Hf (bA g2);have A7:=g6;obtain⟨s',rfl⟩:=dM ⟨d,g6⟩;have BD:=D4 h g hm d v A7 J;rw[Q]at BD;refine⟨ad,g1,_,_,_,_,_,_,g5,BD.mono ?_⟩;rintro _ w5 ⟨rfl,h5,f⟩;have z5:=f.size;have pU:x.dK.take (a+1)=x.dK.take a++[y]:=by rw[bq,g2];rfl
    refine⟨I,sm s z4 f,w-1,J,a+1,TE,J,J,?_,gI s f,J⟩;rw[pU,DA,wb,wb,bD,<-be,fZ];exact h5
   have b:=aR b;have d:a=Z8 x.dK:=J
   subst d;rw[br (aX _),<-U8]at v;exact⟨I,v,s⟩
  .obtain⟨b,a,s⟩:=E;have k:LF xs n x.k x.s=aM:=by
    unfold LF;rw[<-o,<-p];cases l<;>cases m<;>simp at j⊢
   refine(Qg b 23 x.a k).mono ?_;rintro _ w ⟨rfl,f,d⟩;have v:=d.size;exact⟨I,sm a s d,f,gI a d,J⟩
  .have a:LF xs n x.k x.s=aF:=by
    unfold LF;rw[<-o,<-p];cases l<;>cases m<;>simp at j⊢
   rw[a];exact E
  .have hk:x.k≠3:=Mi
   rw[bF hk];rfl
  .have hk:x.k=3:=Mi
   obtain⟨a,d,f⟩:=D;refine(hdK a hm _).mono ?_;rintro _ u ⟨rfl,b⟩;obtain rfl:R=u:=b.symm;exact⟨_,I,WV _ _,T8,a,d,f⟩
  .have hk:x.k≠2:=Mi
   rw[bF hk];rfl
  have hk:x.k=2:=Mi
  refine(Qh t g).mono ?_;rintro _ u ⟨rfl,a⟩;obtain rfl:e=u:=a.symm;exact⟨_,I,WV _ _,by rw[hk,Q];rfl,B⟩
def jn2(g:∀k,G k->k≠b)(h:Z8 vars<=8388608)(hm:Z8 xs<=1000){l}{qU}(o:Lk f w b F vs vars nc sl xs)(m:jh aM (pI aM) 9 78 w G l qU)(z:jd qU<=8388608):
  aA ar 209 #[ah (Hg ⟨b,0,ZQ⟩),l.v] w λe w'=>e=ao (aj #[])/\Lk (jJ f (lM xs (vars.map λv=>v.n) qU)) w' b F vs vars nc sl xs/\az [b] w w':=by
 generalize Q:(vars.map λv=>v.n)=n;refine ret (akY ?_);have A:=m.1.len;have L:=fh qU;have kp:∀{u:aw},az [b] w u->aB (pI aM) 9 u G l qU:=λp=>Aw (cN aM) Z m.1 p λk hk _ hm=>g k hk RD;let St:Ft->aw->Prop:=λf u=>Lk f u b F vs vars nc sl xs/\az [b] w u
 refine⟨λc i u=>∃j:Nat,i=(j:Int)/\c+j=Z8 qU/\j<=Z8 qU/\St (jJ f (lM xs n (qU.take j))) u,Z8 qU,⟨0,I,J,bh _,by rw[ci];exact o,EC _ _⟩,?_⟩;rintro c i u ⟨j,rfl,D,q,a⟩;refine⟨λR=>?_,λR=>?_⟩
 .have R:=aO R;obtain⟨y,r⟩:∃y,qU[j]? =Hg y:=⟨_,bH (show j<(Z8 qU) by omega)⟩
  have E:=qF (bA r);unfold ER at E;have F:lM xs n (qU.take (j+1))=lM xs n (qU.take j)++(bad (VM (y.k≠1)||VM (y.n∈n)) 23 y.a++U7 xs n y.x):=by
   rw[bq,r];unfold lM;rw[lI];simp[Kf]
  have t:∀{v:aw},az [b] w v->∃ad s,cM l (j:Int) 9 ad/\aD v (ad.add 0) [O U y.k]/\aD v (ad.add 1) [ae (T y.n)]/\aD v (ad.add 2) (nI y.x.k y.x.n y.x.s y.x.op s y.x.a)/\aD v (ad.add 8) [O U y.a]/\rE aM v G y.x (nI y.x.k y.x.n y.x.s y.x.op s y.x.a):=fun{v} h=>by
   obtain⟨ad,y',G,w,b,T,Y,d,y⟩:=(kp h).get (bc j) J;rw[aW,r]at b;injection b with b;subst b;obtain⟨xc,rfl,f⟩:=y;obtain⟨s,rfl⟩:=dM f;exact⟨ad,s,w,d.dx 0 _ I,d.dx 1 _ I,d.part 2 λi v l=>KA l,d.dx 8 _ I,f⟩
  obtain⟨ad,s,C,H,K,S,V,W⟩:=t a.2;refine⟨λM v=>M=(VM (y.k≠1)||VM (y.n∈n))/\St (jJ f (lM xs n (qU.take j))) v,λP N ⟨B,e⟩=>⟨St (jJ f (lM xs n (qU.take j)++bad (VM (y.k≠1)||VM (y.n∈n)) 23 y.a)),λX x=>?_,λk=>?_,λk=>?_⟩,ad,C,_,H,λhk=>⟨?_,a⟩,λhk=>⟨ad,C,_,K,(Qh a.1 h).mono ?_⟩⟩
  .obtain⟨f,G,v,T,Y,w,p5,d,y⟩:=t x.2;have b:=D4 g h hm d x.1 y J;rw[Q]at b;refine⟨f,v,_,_,_,_,_,_,w,b.mono ?_⟩;rintro _ w3 ⟨rfl,s,l⟩;refine⟨I,c-1,J,j+1,TE,J,J,?_,gI x.2 l⟩;rw[F,<-be,fZ];exact s
  .obtain⟨b,w,l,G,T,Y,s,p6⟩:=t e.2;have v:(VM (y.k≠1)||VM (y.n∈n))=aM:=by rw[<-B];simpa using k
   refine⟨b,l,_,s,(Qg e.1 23 _ v).mono ?_⟩;rintro _ w4 ⟨rfl,f,d⟩;refine⟨I,?_,gI e.2 d⟩;rw[fZ];exact f
  .have b:(VM (y.k≠1)||VM (y.n∈n))=aF:=by rw[<-B];simpa using k
   rw[b];show St (jJ f (_++[])) N;rw[bD];exact e
  .have hk:y.k≠1:=Mi
   rw[bF hk];rfl
  have hk:y.k=1:=Mi
  rintro _ v ⟨rfl,b⟩;obtain rfl:u=v:=b.symm;exact⟨_,I,by rw[hk,Q];rfl,a⟩
 have R:=aR R;have l:j=Z8 qU:=J
 subst l;rw[br (aX _)]at a;exact⟨I,a.1,a.2⟩
end
section
variable {f:Ft} {w w':aw} {b:Nat} {F G:aK} {vs sl:Sl} {vars:X Vr} {nc:aJ} {xs:X jo}
def aa7(F:Fo xs){a b}(c:Ah xs a)(d:Ah xs b):∃(m:Nat) (x:jo),Dz xs a b=m/\xs[m]? =Hg x:=by
 rcases wR (xs:=xs) a b (Z8 xs) with⟨_,h⟩ | ⟨m,e,f,_⟩
 .have b:=h 0 F.ne;have⟨x,a⟩:=lS (xs:=xs) (i:=0) F.ne;have r:=(F.rt x a).2.2;have⟨e,j⟩:=c;have⟨g,k⟩:=d;rw[xb a e,xb a g,bF J,bF J]at b;cases b
 have⟨x,a⟩:=lS (xs:=xs) f;exact⟨m,x,e,a⟩
def nXb(v:Fo xs)(A:Z8 xs<=64){D:Sl}{g:X (S)}(c:Lk f w b F vs vars nc sl xs)(H:aB ju 1 w G D g)(Q:Z8 g<=1100000):
  aA ar 211 #[ah (Hg ⟨b,0,ZQ⟩),D.v] w λe w'=>e=ao (ak (O3 xs [] g))/\az [] w w':=by
 refine ret (ak0 ?_);rw[ac3];have N:=H.len;have T:∀{u:aw},az [] w u->aB ju 1 u G D g:=λd=>Aw cx Z H d R;have r:∀{u:aw},az [] w u->aB AK 5 u F sl xs:=λd=>(c.only d).sp;refine⟨λC q B u=>∃(j:Nat) (i:X Int),B= ↑j/\C+j=Z8 g/\j<=Z8 g/\Z8 i=j/\(∀n,n∈i->Ah xs n)/\wj w.heap.size u q i/\O3 xs [] g=O3 xs i (g.drop j)/\az [] w u,Z8 g,⟨0,[],I,J,bh _,I,λn h=>by simp at h,Vf _ _ _ _ _ _,I,EC _ _⟩,?_⟩;rintro C q _ Y ⟨j,i,rfl,V,P,L,o,M,a,d⟩;refine⟨λm l E=>?_,λm=>⟨?_,d⟩⟩
 .have m:=aO m;have f:=d.cn E;obtain⟨ad,s,cs,g1,G,g3,g4,g5,g6⟩:=(T f).get (bc j) J;have g6:cs=[ae _]:=g6;subst g6;rw[aW]at G;have am:g.drop j=s::g.drop (j+1):=by
   obtain⟨bT,e⟩:=bd.1 G;rw[<-e,BU]
  rw[am,J8]at a;refine⟨sl,(c.only f).row,ad,g1,_,g5,(Cx (r f) s).mono ?_⟩;rintro _ u ⟨rfl,hu⟩;obtain rfl:l=u:=hu.symm;refine⟨_,I,λF=>⟨?_,f⟩,λF=>?_⟩
  .rw[a,K (aO F)]
  have F:=aR F;rw[W F]at a;have Ig:=PJ v F;obtain⟨e,_⟩ | ⟨p,x,e,hx,_⟩:=lz xs s
  .omega
  obtain⟨aC,a1,a2,a3,_⟩:=pj (r f) hx;have aS:wj w.heap.size l q i:=M.kp E;have eN:Hj xs s=if iJ x.k=aF then x.pa else ↑p:=by
   rw[Hj];rw[e,ke hx,wc hx]
  rw[e]at F⊢;refine⟨sl,(c.only f).row,aC,a1,_,a2.dx 0 _ I,(HM l x.k).mono ?_⟩;rintro _ u ⟨rfl,hu⟩;obtain rfl:l=u:=hu.symm;refine⟨_,I,λi3 u=>i3=Hj xs s/\l=u,λi3 w4 ⟨h3,aT⟩=>?_,λhh=>⟨sl,(c.only f).row,aC,a1,_,a3,?_,I⟩,λhh=>⟨?_,I⟩⟩
  .subst aT h3;refine⟨λSR B u=>∃t:Nat,B= ↑t/\SR+t=Z8 i/\t<=Z8 i/\((i.take t).any λbY=>!U6 xs (Hj xs s) bY)=aM/\az [] l u,Z8 i,⟨0,I,J,bh _,I,EC _ _⟩,?_⟩;rintro SR _ w5 ⟨t,rfl,bv,ht,e,dP⟩;have bV:=aS.len;have o5:=f.cn dP;have p:wj w.heap.size w5 q i:=aS.kp dP;refine⟨λx w6 dN=>?_,λx=>?_⟩
   .have x:=aO x;have o6:=o5.cn dN;have ce:wj w.heap.size w6 q i:=p.kp dN;obtain⟨y,hy⟩:∃y,i[t]? =Hg y:=⟨_,bH (show t<(Z8 i) by omega)⟩
    have n:=o y (bA hy);obtain⟨Lu,b1,b2⟩:=Qf (am6 ce) hy;obtain⟨y4,w7,k1,k2,k3⟩:=amz w6 (AM Ig A) (AM n A);refine⟨λk=>k=b,I,sl,(c.only o6).row,Lu,b1,y,b2,y4,w7,k1,VI k2,(aa6 (r (o6.cn k2)) v J k3 Ig n).mono ?_⟩;rintro _ w8 ⟨rfl,ft⟩;have o8:=(o6.cn k2).cn ft;obtain⟨Zj,c1,c2⟩:=Qf (am6 ((ce.kp k2).kp ft)) hy;obtain⟨co,z,em,Ti⟩:=aa7 v Ig n;obtain⟨cC,d1,d2,_⟩:=pj (r o8) Ti;have cc:(!U6 xs (Hj xs s) y)=((co==Hj xs s|| ↑co==y)||z.k !=2):=by
     unfold U6;rw[em,ke Ti,bL];by_cases q: ↑co=Hj xs s<;>by_cases b: ↑co=y<;>by_cases k:z.k=2<;>simp[q,b,k]
    rw[em];refine⟨_,I,VI ft,Zj,λ_=>c1,_,λ_=>c2,sl,λ_=>(c.only o8).row,cC,λ_=>d1,_,λ_=>d2.dx 0 _ I,λhq=>⟨?_,o8⟩,λhq=>⟨SR-1,J,t+1,TE,J,J,?_,(dP.cn dN).cn (k2.cn ft)⟩⟩
    .rw[a,K];exact List.any_eq_true.2 ⟨y,bA hy,cc.trans hq⟩
    rw[bq,hy,CI,e,tV];simp only[Option.toList,List.any_cons,List.any_nil,Iz];exact cc.trans hq
   have x:=aR x;rw[br J]at e;rw[W (by rw[e];decide)]at a;obtain⟨y,t,b,k3,q,k,g1,G,g3,_⟩:=adt w p o5 _ (AM Ig A) J;refine⟨y,t,b,q,k,g1,C-1,J,j+1,i++[Hj xs s],TE,J,J,by rw[aP,bf,L],λn h=>?_,G,a,g3⟩;rcases dc.1 h with h | h
   .exact o n h
   simp[aV]at h;subst h;exact Ig
  .rw[eN,K hh]
  rw[eN,W Gn]
 have m:=aR m;rw[dJ J]at a;rw[a];rfl
end
def RF(k:Int)(n:Nat)(i:S)(g:L):L:=VM (k=2/\(i≠[]∨n<2))||VM (k=1/\0<n/\g=aM)||VM (k=1/\n=0/\i≠[])
def adM n i g:RF 2 n i g=aF↔i≠[]∨n<2:=by unfold RF;simp
def Qi n i g:RF 1 n i g=aF↔(0<n/\g=aM)∨(n=0/\i≠[]):=by unfold RF;simp
def am7{xs}{b}{l}{n} f (k:1<=b.k/\b.k<=4) (hh:iJ b.k=aM):jJ f (xN xs b l n)=if RF b.k (Es l) b.ini (zq b.ini l)=aF then jJ f [(25,b.a)]else if b.k=1/\Es l=0/\Z8 l≠0 then jJ f [(26,b.a)]else f:=by
 have e:¬_:=λh=>by unfold iJ at hh;rw[bF h]at hh;cases hh
 unfold xN;rw[W Gn];rcases(by omega:b.k=2∨b.k=1)with a | d
 .rw[K a,a];by_cases c:b.ini≠[]∨Es l<2
  .have:(VM (b.ini=[])&&VM (1<Es l))=aM:=by
    rw[fV,ig,ig];rcases c with c | c
    .exact .inl c
    exact .inr J
   rw[K ((adM _ _ _).2 c),this];rfl
  have:(VM (b.ini=[])&&VM (1<Es l))=aF:=by
   rw[H,eI,eI];exact⟨kU.1 λh=>c (.inl h),Nat.lt_of_not_le λh=>c (.inr J)⟩
  rw[W (λh=>c ((adM _ _ _).1 h)),W (λh=>absurd h.1 Z),this];rfl
 rw[W J,d];by_cases s:0<Es l
 .rw[K s];cases g:zq b.ini l
  .rw[K ((Qi _ _ _).2 (.inl ⟨s,I⟩))];rfl
  rw[W (λh=>((Qi _ _ _).1 h).elim (λh=>(by cases h.2)) λh=>J),W (λh=>J)];rfl
 rw[W s];have c:Es l=0:=J
 by_cases i:b.ini=[]
 .rw[W (λh=>((Qi _ _ _).1 h).elim (λh=>J) λh=>h.2 i),bF i];by_cases b:Z8 l=0
  .rw[W (λh=>h.2.2 b),bF b];rfl
  rw[K ⟨I,c,b⟩,bC b];rfl
 rw[K ((Qi _ _ _).2 (.inr ⟨c,i⟩)),bC i,fZ];show jJ (jJ f [_]) _=_;refine Hi ?_ _;rw[show jJ f [_]=if f.1=0 then _ else f from rfl];split
 .show 25≠0;decide
 assumption
section
variable {f:Ft} {w w':aw} {b:Nat} {F G:aK} {vs sl:Sl} {vars:X Vr} {nc:aJ} {xs:X jo}
def hdM(hG:∀k,G k->k≠b)(S:Fo xs)(hv:Z8 vars<=8388608)(hm:Z8 xs<=64){P:Nat}{c:Nb}{s:X Nd}{cs:aJ}(aS:Lk f w b F vs vars nc sl xs)(hx:pv aM (P+1) w G (.mk c s) cs){a:Nat}(ha:a<Z8 xs)(D:lF (.mk c s)<=1048576){dp:Nat}(V:ku dp (.mk c s)=aF):
  aA ar 160 #[ah (Hg ⟨b,0,ZQ⟩),ai cs.toArray,O U (a:Int)] w λe w'=>e=ao (aj #[])/\Lk (jJ f (xN xs c s a++(lM xs (vars.map λv=>v.n) (c.en++c.lv)++c.mv.flatMap (EP xs (vars.map λv=>v.n))))) w' b F vs vars nc sl xs/\az [b] w w':=by
 have TC:1<=c.k/\c.k<=4:=by
  rw[ku,H,H]at V;have i:=V.1.2;unfold u7 at i;rw[H]at i;have i:=i.2;split at i
  .rename_i a;unfold iJ at a;have:=aO a;omega
  simp only[H]at i;have:=(aO i.1.1.1.1).1;omega
 have am:∀M,M∈c.mv->M.k=3->0<=M.wt:=λM o hk=>by
  rw[ku,H,H]at V;have i:=V.1.2;unfold u7 at i;rw[H]at i;have i:=i.2;split at i
  .simp only[H]at i;have:=(aO i.2).2.2.2.1;rw[List.length_eq_zero_iff.1 this]at o;simp at o
  rw[H]at i;have:=fi.1 i.2 M o;unfold mO at this;rw[H]at this;have:=aO this.2;omega
 obtain⟨en,lv,mv,kids,gZ,⟨he,CB,qZ⟩,fQ⟩:=hx;dsimp only[Nd.kids,Nd.b]at gZ he CB qZ fQ;subst gZ;have hk:=fQ.1;rw[lF]at D;unfold uS at D;have Gb:=mg s;have i:=aS.lb;generalize Q9:(vars.map λv=>v.n)=m;let aT:X Ft:=xN xs c s a
 refine ret (akA ?_);intro k0 w0 dL tJ ch;have z0:=ch.size;let St:Ft->aw->Prop:=λf u=>Lk f u b F vs vars nc sl xs/\az [b] w u/\w0.heap.size<=u.heap.size
 have s0:St f w0:=⟨aS.only ch,only1 ch,aX _⟩
 have sm:∀{g:Ft} {u d:aw},St g u->az [b] u d->cF [k0] u d:=λhs hO=>hO.same (by have:=hs.2.2;simp;omega);have ZW:∀{g:Ft} {u d:aw},St g u->az [] u d->St g d:=fun{g u d} hs hO=>⟨hs.1.only hO,gI hs.2.1 (only1 hO),UW⟩
 have Y:∀{g x:Ft} {u d:aw},St g u->Lk x d b F vs vars nc sl xs->az [b] u d->St x d:=fun{g x u d} hs A hO=>⟨A,gI hs.2.1 hO,UW⟩
 have fH:∀(e Q:Int) {g:Ft} {u:aw},St g u->aA ar 91 #[ah (Hg ⟨b,0,ZQ⟩),O U e,O U Q] u λN d=>N=ao (aj #[])/\cF [k0] u d/\St (jJ g [(e,Q)]) d:=λe Q {g u} hs=>(th hs.1 e Q).mono (by
  rintro _ d ⟨rfl,A,hO⟩;exact⟨I,sm hs hO,Y hs A hO⟩)
 have Ym:∀(k:Int) {u:aw},aA ar 118 #[O U k] u λN d=>∃b':L,N=ao (ak b')/\u=d/\b'=iJ k:=λk {u}=>(HM u k).mono (by
  rintro _ d ⟨rfl,a⟩;exact⟨_,I,a.symm,I⟩)
 have kA:∀{u:aw} {q:Sl} {r:X Ac},jh aM (pI aM) 9 78 w G q r->∀{g:Ft},St g u->jh aM (pI aM) 9 78 u G q r:=fun{u q r} h {g} hs=>h.keep (cN aM) Z λk hk C=>hs.2.1.block k C Kv;have kK:∀{g:Ft} {u:aw},St g u->aB (pv aM P) 9 u G kids s:=λhs=>Aw (ck aM P) Z hk hs.2.1 λk hk _ hm=>hG k hk RD;have TA:=hk.len;refine⟨λE i0 b0 aC u=>∃j:Nat,aC=(j:Int)/\E+j=Z8 s/\j<=Z8 s/\i0=(Es (s.take j):Nat)/\b0=zq c.ini (s.take j)/\St f u,Z8 s,⟨0,I,J,bh _,I,I,s0⟩,?_⟩;rintro E _ _ _ w1 ⟨j,rfl,vD,hj,rfl,rfl,B⟩;refine⟨λR=>?_,λR=>(Ym c.k).mono ?_⟩
 .have R:=aO R;obtain⟨y,n⟩:∃y,s[j]? =Hg y:=⟨_,bH (show j<(Z8 s) by omega)⟩
  have t:∀{g:Ft} {u:aw},St g u->∃(ad:Addr),cM kids (j:Int) 9 ad/\aD u (ad.add 0) [O U y.b.k]/\aD u (ad.add 1) [ae (T y.b.nm)]:=fun{g u} hs=>by
   obtain⟨ad,y',y,l,a,w,T,e,f⟩:=(kK hs).get (bc j) J;rw[aW,n]at a;injection a with a;subst a;cases P with
   | zero=>exact f.elim
   | succ D'=>
    obtain⟨r7,r9,oe,gY,rfl,_⟩:=f;exact⟨ad,l,e.dx 0 _ I,e.dx 1 _ I⟩
  have b:=DL n;have z:=adD (s.take j);rw[cf]at z;have k:zq c.ini (s.take (j+1))=(zq c.ini (s.take j)||VM (y.b.nm=c.ini)):=by
   unfold zq;rw[bq,n,CI];simp
  obtain⟨ad,l,a,w⟩:=t B;refine⟨ad,l,_,a,(Ym y.b.k).mono ?_⟩;rintro _ u ⟨F,rfl,rfl,rfl⟩;refine⟨_,I,WV _ _,λp u=>p=(Es (s.take (j+1)):Nat)/\St f u,λp G ⟨v,q⟩=>?_,λhn=>⟨?_,B⟩,λhn=>⟨?_,B⟩⟩
  .obtain⟨e,y,p2,T⟩:=t q;exact⟨e,λ_=>y,_,λ_=>T,λw4 f=>⟨E-1,J,j+1,TE,J,J,v,by rw[k,iC],ZW q f⟩⟩
  .rw[eS J J,b,W (by intro e;rw[e]at hn;cases hn)];rfl
  rw[b,K Uq];rfl
 have R:=aR R;have lD:j=Z8 s:=J
 subst lD;rw[br (aX _)];rintro _ u ⟨b2,rfl,rfl,v⟩;have j6:∀{q:Sl} {r:X Ac},jh aM (pI aM) 9 78 w G q r->jd r<=8388608->∀{g:Ft} {u:aw},St g u->aA ar 209 #[ah (Hg ⟨b,0,ZQ⟩),q.v] u λN d=>N=ao (aj #[])/\az [b] u d/\St (jJ g (lM xs m r)) d:=fun{q r} h T {g u} hs=>(jn2 hG hv J hs.1 (kA h hs) T).mono (by
  rw[Q9];rintro _ d ⟨rfl,A,hO⟩;exact⟨I,hO,Y hs A hO⟩)
 refine⟨b2,I,WV _ _,St (jJ f (xN xs c s a)),λw6 s6=>?_,?_,?_⟩
 .refine(j6 he J s6).mono ?_;rintro _ w7 ⟨rfl,ga,p⟩;refine⟨I,sm s6 ga,(j6 CB J p).mono ?_⟩;rintro _ w8 ⟨rfl,ft,q⟩;have G:jJ (jJ (jJ f (xN xs c s a)) (lM xs m c.en)) (lM xs m c.lv)=jJ f (xN xs c s a++lM xs m (c.en++c.lv)):=by
   rw[<-fZ,<-fZ];unfold lM;rw[lI]
  rw[G]at q;have Ez:=qZ.1.len;have bv:=mf c.mv;refine⟨I,sm p ft,λE aC u=>∃j:Nat,aC=(j:Int)/\E+j=Z8 c.mv/\j<=Z8 c.mv/\St (jJ f (xN xs c s a++(lM xs m (c.en++c.lv)++(c.mv.take j).flatMap (EP xs m)))) u,Z8 c.mv,⟨0,I,J,bh _,by rw[ci,tP,bD];exact q⟩,?_⟩;rintro n _ w ⟨t,rfl,z,ht,l⟩;refine⟨λe=>?_,λe=>?_⟩
  .have e:=aO e;obtain⟨ad,y,ds,g1,g2,g3,g4,g5,g6⟩:=(Aw (iL aM) Z qZ.1 l.2.1 λk hk _ hm=>hG k hk RD).get (bc t) J;rw[aW]at g2;have tU:=bA g2;have Q8:=qG tU;have cC:=am y tU;unfold BL at Q8;obtain⟨gc,mF,tg,rfl,hg,Ll,pO⟩:=g6;obtain⟨gs,rfl⟩:=dM hg;have K6:=Cn y.tg;have e9:jJ f (xN xs c s a++(lM xs m (c.en++c.lv)++(c.mv.take (t+1)).flatMap (EP xs m)))=jJ (jJ (jJ (jJ (jJ f (xN xs c s a++(lM xs m (c.en++c.lv)++(c.mv.take t).flatMap (EP xs m)))) (bad (JM y) 28 y.a)) (U7 xs m y.g)) (lM xs m y.acts)) (bad (O3 xs [] y.tg) 27 y.a):=by
    rw[bq,g2,lI];simp only[Option.toList,yE,tP,bD,EP,fZ]
   refine⟨λu=>St (jJ f (xN xs c s a++_)) u,λdk Ey=>⟨n-1,J,t+1,TE,J,J,Ey⟩,ad,g1,_,_,_,_,_,_,_,_,_,_,_,_,_,g5,λk7 dz co ce dl=>?_⟩;rw[e9];generalize jJ f (xN xs c s a++(lM xs m (c.en++c.lv)++(c.mv.take t).flatMap (EP xs m)))=f9 at*
   have z9:=l.2.2;have cc:k7≠b:=by have:=l.1.lb;omega
   have bV:∀{u d:aw},dz.heap.size<=u.heap.size->az [b] u d->cF [k0,k7] u d:=λT hO=>hO.same (by have:=dl.size;simp;omega);have Zh:az [b] w dz:=only1 dl;have xQ:=ZW l dl;obtain⟨dg,bY⟩:=hg;let S5:Ft->aw->Prop:=λg u=>St g u/\az [b] w u/\dz.heap.size<=u.heap.size
   have up:∀{g x:Ft} {u d:aw},S5 g u->Lk x d b F vs vars nc sl xs->az [b] u d->S5 x d:=fun{g x u d} hs A hO=>⟨Y hs.1 A hO,gI hs.2.1 hO,UW⟩
   refine⟨S5 (jJ f9 (bad (JM y) 28 y.a)),λeF EV=>?_,λhw=>?_,λhw=>?_⟩
   .refine(D4 hG hv J dg EV.1.1 ((lw aM dg).keep bY λk hk C=>EV.2.1.block k C Kv) J).mono ?_;rw[Q9];rintro _ eM ⟨rfl,tG,dF⟩;have b:=up EV tG dF;refine⟨I,bV EV.2.2 dF,(jn2 hG hv J tG (Ll.keep (cN aM) Z λk hk C=>b.2.1.block k C Kv) J).mono ?_⟩;rw[Q9];rintro _ fR ⟨rfl,a,eH⟩;have f:=up b a eH;refine⟨I,bV b.2.2 eH,(nXb S hm a (Aw cx Z pO.1 f.2.1 λk hk _ o=>hG k hk (by simpa using o)) J).mono ?_⟩;rintro _ gV ⟨rfl,t⟩;have F:=up f (a.only t) (only1 t);refine⟨_,I,bV f.2.2 (only1 t),λh=>(th F.1.1 27 _).mono ?_,λh=>?_⟩
    .rintro _ iO ⟨rfl,k,ic⟩;rw[show O3 xs [] y.tg=aM by simpa using h];exact⟨I,bV F.2.2 ic,(up F k ic).1⟩
    rw[show O3 xs [] y.tg=aF by simpa using h];exact F.1
   .refine(th xQ.1 28 _).mono ?_;rintro _ b ⟨rfl,F,a⟩;have:JM y=aM:=by
     unfold JM;simp at hw⊢;omega
    rw[this];exact⟨I,bV (aX _) a,up ⟨xQ,Zh,aX _⟩ F a⟩
   have:JM y=aF:=by
    unfold JM;simp at hw⊢;omega
   rw[this];exact⟨xQ,Zh,aX _⟩
  have e:=aR e;rw[br J]at l;exact⟨I,l.1,l.2.1⟩
 .intro hh iU iP;have F:iJ c.k=aF:=by rw[<-v];exact hh
  have w:=ZW B iP;refine⟨sl,w.1.row,(Cx w.1.sp c.dft).mono ?_⟩;rintro _ u ⟨rfl,hu⟩;obtain rfl:iU=u:=hu.symm;refine⟨_,I,WV _ _,λjN mT=>?_⟩;have l:=ZW w mT;obtain⟨y,n⟩:=lS ha;obtain⟨ad,a1,_,a3,_⟩:=pj l.1.sp n;refine⟨sl,l.1.row,sl,l.1.row,ad,a1,_,a3,(agZ l.1.sp _ _).mono ?_⟩;rintro _ u ⟨rfl,hu⟩;obtain rfl:jN=u:=hu.symm;have G:y.pa<Z8 xs:=by
   by_cases e:a=0
   .subst e;have:=(S.rt y n).1;omega
   obtain⟨p,t,z,f,q,_⟩:=S.pa a y J n;have:=vZ f;omega
  rw[agt S G];have NY:xN xs c s a=bad (JL xs c.dft&&AH xs (iv xs c.dft) y.pa) 26 c.a:=by unfold xN;rw[K F,wc n]
  refine⟨_,I,WV _ _,λb6 u=>b6=(!(JL xs c.dft&&AH xs (iv xs c.dft) y.pa))/\St f u,λb6 ra ⟨k,QT⟩=>⟨λh=>(fH 26 c.a QT).mono ?_,λh=>?_⟩,λb=>⟨?_,l⟩,λb=>?_⟩
  .rintro _ u ⟨rfl,a,e⟩;rw[NY,show(JL xs c.dft&&AH xs (iv xs c.dft) y.pa)=aM by rw[h]at k;exact(ey _).mp k.symm];exact⟨I,a,e⟩
  .rw[NY,show(JL xs c.dft&&AH xs (iv xs c.dft) y.pa)=aF by rw[h]at k;exact(fO _).mp k.symm];exact QT
  .unfold JL;rw[dq]at b;rcases b with b | b
   .rw[bC (by have:=aO b;omega:¬0<=iv xs c.dft)];simp[b]
   rw[show AH xs (iv xs c.dft) y.pa=aM by simpa using b];simp
  rw[fN]at b;have f:=aR b.1;have t:=by simpa using b.2
  rcases lz xs c.dft with⟨e,_⟩ | ⟨q,z,e,a,_⟩
  .omega
  obtain⟨p,q,y,_⟩:=pj l.1.sp a;rw[e];refine⟨sl,l.1.row,p,q,_,y.dx 0 _ I,(Ym z.k).mono ?_⟩;rintro _ u ⟨b7,rfl,rfl,rfl⟩;refine⟨_,I,WV _ _,?_,l⟩;rw[<-e,t];unfold JL;rw[e,ke a,bF J];simp
 intro hh;have w:iJ c.k=aM:=by rw[<-v];exact hh
 have G:(kids.n:Int)=Z8 s:=J
 have q:=am7 (xs:=xs) (l:=s) (n:=a) f TC w;have y:=iC c.ini [];refine⟨λF u=>F=RF c.k (Es s) c.ini (zq c.ini s)/\St f u,λF pN ⟨b,t⟩=>⟨λh=>(fH 25 c.a t).mono ?_,λp=>⟨λh=>(fH 26 c.a t).mono ?_,λh=>?_⟩⟩,λk=>⟨?_,B⟩,λk=>⟨λz=>⟨?_,B⟩,λz=>⟨?_,B⟩⟩⟩
 .rintro _ u ⟨rfl,a,e⟩;rw[q,K (by rw[<-b];exact h)];exact⟨I,a,e⟩
 .rintro _ u ⟨rfl,a,e⟩;rw[H,H,eX,eX,eI]at h;rw[q,W (by rw[<-b,p];decide),K ⟨h.1.1,J,J⟩];exact⟨I,a,e⟩
 .rw[q,W (by rw[<-b,p];decide),W]
  .exact t
  rintro⟨a,f,l⟩;have e:((c.k==1&&((Es s:Nat):Int)==0)&&VM ((kids.n:Int)>0))=aF:=by
   rw[H,H,eX,eX,eI];exact⟨⟨a,J⟩,J⟩
  rw[e]at h;cases h
 .rw[y]at k⊢;unfold RF;rw[bL];revert k;generalize zq c.ini s=g;by_cases a:c.ini=[]<;>cases g<;>simp[a]<;>omega
 .rw[y]at k;unfold RF;rw[bL];revert k z;generalize zq c.ini s=g;by_cases a:c.ini=[]<;>cases g<;>simp[a]<;>omega
 rw[y]at k⊢;unfold RF;rw[bL];revert k z;generalize zq c.ini s=g;by_cases a:c.ini=[]<;>cases g<;>simp[a]<;>omega
end
def FU:∀{l:X Nd} {d:Nat} {y:Nd},jm d l=aF->y∈l->ku d y=aF
 | [],_,_,_,h=>Gl
 | x::l,d,y,h,a=>by
  rw[jm,H]at h;rcases aZ.1 a with rfl | a
  .exact h.1
  exact FU h.2 a
section
variable {b:Nat} {F G:aK} {vs sl:Sl} {vars:X Vr} {nc:aJ} {xs:X jo}
def nCb(h:∀k,G k->k≠b)(g:Fo xs)(i:Z8 vars<=8388608)(hm:Z8 xs<=64):∀(D:Nat) {f:Ft} {w:aw} {x:Nd} {c:aJ} {a d:Nat},Lk f w b F vs vars nc sl xs->pv aM D w G x c->lF x<=1048576->a+j7 x<=(Z8 xs)->ku d x=aF->
  aA ar 92 #[ah (Hg ⟨b,0,ZQ⟩),ai c.toArray,O U (a:Int)] w λe j=>e=ao (O U ((a+j7 x:Nat):Int))/\Lk (jJ f (S2 xs (vars.map λv=>v.n) a x)) j b F vs vars nc sl xs/\az [b] w j
 | 0,_,_,_,_,_,_,_,a,_,_,_=>a.elim
 | D+1,f,w,.mk m s,c,a,d,G,K,N,X,P=>by
  have yx:=K;obtain⟨en,lv,mv,kids,E,_,Q⟩:=K;dsimp only[Nd.kids,Nd.b]at E Q;subst E;have r:=Q.1;have TA:=r.len;have T:=N;rw[lF]at T;have Gb:=mg s;have hb:=G.lb;rw[j7]at X⊢;have o:=P;rw[ku,H]at o;refine ret (akm ?_);intro k0 w0 dL tJ q;have z0:=q.size;refine(hdM h g i hm (G.only q) ((ck aM _).keep yx λk _ V=>q.block k V R) (a:=a) J N P).mono ?_;rw[S2];generalize S:(vars.map λv=>v.n)=n at*
  generalize eL:xN xs m s a++(lM xs n (m.en++m.lv)++m.mv.flatMap (EP xs n))=B;have L:∀M,xN xs m s a++(lM xs n (m.en++m.lv)++(m.mv.flatMap (EP xs n)++M))=B++M:=λM=>by rw[<-eL,be,be]
  rw[L];rintro _ w1 ⟨rfl,W,t⟩;have z1:=t.size;have o1:az [b] w w1:=gI (only1 q) t;refine⟨I,t.same C,λx Y i2 A=>∃l:Nat,i2=(l:Int)/\x+l=Z8 s/\l<=Z8 s/\Y=((a+1+dW (s.take l):Nat):Int)/\Lk (jJ f (B++rR xs n (a+1) (s.take l))) A b F vs vars nc sl xs/\az [b] w A/\w0.heap.size<=A.heap.size,Z8 s,⟨0,I,J,bh _,by rw[ci,dW,eS J J];rfl,by rw[ci,rR,bD];exact W,o1,J⟩,?_⟩;rintro x _ _ w2 ⟨l,rfl,vD,hj,rfl,u,z,z2⟩;refine⟨λp=>?_,λp=>?_⟩
  .have p:=aO p;obtain⟨ad,y,ds,g1,f,g3,g4,g5,v⟩:=(Aw (ck aM D) Z r z λk r _ hm=>h k r RD).get (bc l) J;rw[aW]at f;have F:=bA f;have am:=nK F;have yt:=oG f;have A7:=v;obtain⟨b,rfl⟩:∃b,D=b+1:=by
    cases D with
    | zero=>exact v.elim
    | succ b=>exact⟨b,I⟩
   obtain⟨r7,r9,oe,gY,rfl,_⟩:=v;have BD:=nCb h g i hm (b+1) (a:=a+1+dW (s.take l)) u A7 J J (FU o.2 F);rw[S]at BD;refine⟨ad,g1,_,_,_,_,r7,r9,oe,gY,_,g5,BD.mono ?_⟩;rintro _ w3 ⟨rfl,h3,k⟩;have z3:=k.size;have e:dW (s.take (l+1))=dW (s.take l)+j7 y:=by
    rw[bq,f,zm];show _+dW [y]=_;rw[dW,dW];omega
   have e2:rR xs n (a+1) (s.take (l+1))=rR xs n (a+1) (s.take l)++S2 xs n (a+1+dW (s.take l)) y:=by
    rw[bq,f,DB];show _++rR xs n _ [y]=_;rw[rR,rR,bD]
   refine⟨_,I,k.same C,x-1,J,l+1,TE,J,J,by rw[e];congr 1;omega,?_,gI z k,J⟩;rw[e2,<-be,fZ];exact h3
  have p:=aR p;have a:l=Z8 s:=J
  subst a;rw[br (aX _)]at u⊢;exact⟨by congr 2;omega,u,z⟩
end
abbrev WB:Rp Int:=λ_ _ (x:Int) c=>c=[Value.int U x]
def zQ:Rp.Ok WB:=⟨λh _=>h,λh=>h,λh _=>h,λh=>by
 subst h;intro v a;simp only[aZ,bB,cE]at a;subst a;rfl⟩
abbrev WC(B:Nat)(w:aw)(s:Sl)(i:X Int):Prop:=Own WB 1 3 B w (λ_=>False) s i
def adN(t:L):∀(a:Nat) {w:aw} {G:aK} {x:Nd} {d:aJ} {B:Nat} {s:Sl} {is:X Int},pv t a w G x d->(∀k,G k->k<B)->WC B w s is->B<=w.heap.size->Z8 is+j7 x<=1000000->
  aA ar 90 #[ai d.toArray,s.v] w λe b=>∃f,e=ao (Sl.v f)/\WC B b f (is++(Bj x).map λp=>p.2)/\Gr s w f b
 | 0,_,_,_,_,_,_,_,h,_,_,_,_=>h.elim
 | a+1,w,G,.mk l g,d,B,s,is,⟨en,lv,mv,kids,T,_,Q⟩,V,hS,aC,hn=>by
  have hk:=Q.1;clear Q;dsimp only[Nd.kids,Nd.b]at hk T;subst T;rw[j7]at hn;rw[Bj];have F7:=hk.len;have aS:=sU g;refine iE (akk ?_);intro A w0 Q dL o;have z0:=o.size;have S:WC B w0 s is:=hS.keep zQ λk _ bT=>o.block k bT R;obtain⟨y,w2,k1,k3,m,n,g1,g2,⟨gs,u,M⟩,N⟩:=jy (P:=ar) (t:=43) (ty:=43) (e:=3) (i:=Tryz.t3) (bytes:=8) (size:=1) (r:=WB) (G:=λ_=>False) (v:=O U l.a) (x:=l.a) D D I I I I Z Z Z zQ S J I I (λ_ h=>h.elim) J;have z2:=k3.size;have z3:=u.size;have rW:s.a≠Hg ⟨A,0,ZQ⟩:=λe=>GX
  have m3:Gr s w m n:=by
   refine⟨(o.cn k3).AY (u.p (F:=λk=>s.a=Hg ⟨k,0,ZQ⟩) λc p=>.inl (M c p).1),λk hk=>?_⟩;rcases N with e | ⟨c,e,h⟩
   .exact .inl RE
   rw[e]at hk;injection hk with hk;injection hk with hk;exact .inr J
  have n3:∀k,m.a=Hg ⟨k,0,ZQ⟩->k≠A:=λk hk e=>by
   subst e;rcases N with e | ⟨c,e,h⟩
   .exact rW RE
   rw[e]at hk;injection hk with hk;injection hk with hk;omega
  have Ls:WC B n m (is++[l.a]):=by
   rcases g2 with⟨P,e⟩ | ⟨k,s,tail,p,q,r,t,v,y,F,B⟩
   .simp at e
   exact .inr ⟨k,s,tail,p,q,r,t,v,y,F,jg.abk (λx c _ i=>i) B⟩
  have rL:∀{am:aw} {q:Sl},Gr s w q am->aB (pv t a) 9 am G kids g:=λhm=>Rx (ck t a) Z hk hm.1 λk z _ h=>by
   have:=V k z;have:=(hS.blk h).1;dsimp only at this;omega
  refine⟨y,w2,k1,k3.same C,m,n,g1,u.same λx hx=>⟨IG,λh=>by simp only[aV]at hx;subst hx;exact rW (M _ h).1⟩,λE q W b=>∃j:Nat,W=(j:Int)/\E+j=Z8 g/\j<=Z8 g/\WC B b q (is++l.a::(xM (g.take j)).map λp=>p.2)/\Gr s w q b/\n.heap.size<=b.heap.size/\∀k,q.a=Hg ⟨k,0,ZQ⟩->k≠A,Z8 g,⟨0,I,J,bh _,by rw[ci,xM];exact Ls,m3,aX _,n3⟩,?_⟩;rintro E q _ w5 ⟨j,rfl,vD,xC,K,H,z5,Y⟩;refine⟨λi=>?_,λi=>?_⟩
  .have i:=aO i;obtain⟨ad,y,P,s,p,B,F,v,q⟩:=(rL H).get (bc j) J;rw[aW]at p;have r:=q;obtain⟨c,rfl⟩:∃c,a=c+1:=by
    cases a with
    | zero=>exact q.elim
    | succ c=>exact⟨c,I⟩
   obtain⟨r7,r9,oe,gY,rfl,_⟩:=r;have yt:=oG p;refine⟨ad,s,_,_,_,_,r7,r9,oe,gY,_,v,(adN t (c+1) q V K J (by rw[aP,aY,bQ,O5];omega)).mono ?_⟩;rintro _ w7 ⟨q7,rfl,L4,m7⟩;have z7:=m7.1.size;refine⟨q7,I,m7.1.same λx hx=>?_,E-1,J,j+1,TE,J,J,?_,H.trans m7,J,λk hk e=>?_⟩
   .simp only[aV]at hx;subst hx;exact⟨J,λh=>Y _ h I⟩
   .have e:xM (g.take (j+1))=xM (g.take j)++Bj y:=by
     rw[bq,p,Hk];show _++xM [y]=_;rw[xM,xM,bD]
    rw[e,cX,<-bW,<-be];exact L4
   subst e;rcases m7.2 _ hk with h | h
   .exact Y _ h I
   omega
  have i:=aR i;have c:j=Z8 g:=J
  subst c;rw[br (aX _)]at K;exact⟨q,I,K,H⟩
def sxv f ok {e a} (h:e≠0):jJ (jJ f (bad ok e a)) [(e,a)]=jJ f [(e,a)]:=by
 cases ok
 .show jJ (jJ f [_]) [_]=_;refine Hi ?_ _;rw[show jJ f [_]=if f.1=0 then _ else f from rfl];split
  .exact h
  assumption
 rfl
def abH{xs}{s}{j:Nat}(h:s∈(xs.take j).map λx:jo=>x.nm):iv xs s<j:=by
 have e:xs.map (λx:jo=>x.nm)=(xs.take j).map (λx:jo=>x.nm)++(xs.drop j).map λx:jo=>x.nm:=by
  rw[<-cX,fW]
 have a:=pc.2 h;rw[bQ,cf]at a;unfold iv;rw[e,Hl ((xs.drop j).map λx:jo=>x.nm) h,K J];omega
def zR(c:Ch):Ft:=if(jI c).2≠0 then((jI c).2, -1)else jJ (0,0) (Fx c)
def je.sl'{B}{w}{s}{xs}(h:je B w s xs):aB AK 5 w (λk=>B<=k) s xs:=(h.slice ia).mono ia λk a=>a.elim (λh=>h.elim) λh=>h.1
def gdM{w:aw}{F:aK}{D:Nat}{c:Ch}{d:Sl}{E:aJ}(hx:ChR aM (D+1) w F c d E)(P:Ga c)(g:jZ c.vars+lF c.root<=1048576):
  aA ar 36 #[ai (d.v::E).toArray] w λe V=>e=ao (ai #[O U (zR c).1,O U (zR c).2])/\az [] w V:=by
 obtain⟨n,l,mv,kids,N,_⟩:=hx.root;subst N;refine ret (akc ?_);intro i j w0 fQ Y ki ik r;have z0:=r.size;have keep:∀{u:aw},az [] w u->ChR aM (D+1) u F c d (rz c.root.b.k c.root.b.nm c.root.b.ini c.root.b.dft n l mv kids c.root.b.a):=λh=>⟨hx.vars.keep ec Z λk _ f=>h.block k f R,(ck aM _).keep hx.root λk _ f=>h.block k f R⟩
 refine(aa5 (keep r) P g).mono ?_;rintro _ m ⟨⟨sl,rfl,Q,_⟩,t⟩;have z1:=t.size;have H:=r.cn t;refine⟨sl,_,I,t.same C,λhc w2 L=>⟨?_,?_⟩,λhc b o mE nT A=>?_⟩
 .have hc:(jI c).2≠0:=R0
  unfold zR;rw[K hc]
 .exact(H.AY (L.p (F:=λk=>w.heap.size<=k) λx hx=>by simp only[aV]at hx;exact .inl J)).only λk hk=>hk
 have hc:(jI c).2=0:=R0
 have SO:=Q hc;have gG:=FT hc;have pK:=FR hc;unfold qW at pK;simp at pK;have el:zR c=jJ (0,0) (Fx c):=by unfold zR;rw[W (λaC=>aC hc)]
 rw[el];have z3:=A.size;have o3:=H.cn A;have cc:=
  (ck aM _).keep ((ck aM _).mono ((ck aM _).inHeap hx.root) λk hk=>hk.2) λk _ f=>o3.block k f R
 refine(adN aM (D+1) (B:=o.heap.size) (s:=Sl.nil) (is:=[]) cc (λk hk=>J) (Vf _ _ _ _ _ _) (aX _) TU).mono ?_;rintro _ w4 ⟨l1,rfl,hA,ge⟩;rw[cb]at hA;have dD:az [] o w4:=ge.1.only λk hk=>UA
 have z4:=dD.size;have o4:=o3.cn dD;have f5:=O2 c;have gO:Z8 (od c)=j7 c.root:=by unfold od;rw[uz]
 have gT:=aan c.root;have bY:(od c).map (λs:jo=>s.nm)=(Bj c.root).map λp=>p.1:=O4 0 (-1) 0 c.root;have g8:=hx.vars.1.len;have zZ:=zC c.vars;let VP:X (S×Int):=c.vars.map λv=>(v.n,v.a)
 have dO:Fx c=wa [] (Bj c.root)++(wa [] VP++S2 (od c) _ 0 c.root):=I;rw[dO];generalize g9:od c=xs at*
 have ce:aB MR 3 w4 (λk=>k<m.heap.size) d c.vars:=Z5 ec (KN ec (Mr ec hx.vars.1 Z) Z λk hk f=>o4.block k f R) λk hk=>ZD
 have CD:aB AK 5 w4 _ sl xs:=Z5 ia (KN ia (Mr ia SO.sl' Z) Z λk hk f=>(A.cn dD).block k f R) λk hk=>hk.2;have YM:=CD.len;let NC:aJ:=rz c.root.b.k c.root.b.nm c.root.b.ini c.root.b.dft n l mv kids c.root.b.a
 have bV:∀{u:aw} {f1 f2:Int},az [b] w4 u->aG u b 162 (d.v::(NC++[sl.v,O U f1,O U f2]))->Lk (f1,f2) u b (λk=>k<m.heap.size) d c.vars NC sl xs:=fun{u f1 f2} h hB=>
  ⟨hB,I,Aw ec Z ce h λk hk _ hm=>RW,Aw ia Z CD h λk hk _ hm=>RW,λk hk=>J⟩
 let SC:Sl->Int->M->M->M->Sl->Sl->Sl->Sl->Int->Sl->Prop:=λl2 i2 s0 s1 s2 l3 l4 l5 l6 i3 l7=>d=l2/\c.root.b.k=i2/\T c.root.b.nm=s0/\T c.root.b.ini=s1/\T c.root.b.dft=s2/\n=l3/\l=l4/\mv=l5/\kids=l6/\c.root.b.a=i3/\sl=l7
 have aS:SC d c.root.b.k (T c.root.b.nm) (T c.root.b.ini) (T c.root.b.dft) n l mv kids c.root.b.a sl:=⟨I,I,I,I,I,I,I,I,I,I,I⟩
 have co:∀{u u':aw},az [b] w4 u->az [b] u u'->az [b] w4 u':=λaC k=>gI aC k;have eQ:∀{u:aw},az [b] w4 u->az [] w u:=λaC=>(o4.AY (aC.p (F:=λk=>w.heap.size<=k) λx hx=>Qe)).only λk hk=>hk;have sm:∀{u u':aw},az [b] w4 u->i≠b->j≠b->az [b] u u'->cF [i,j] u u':=fun{u u'} hu h1 h2 h=>h.same (by have:=hu.size;simp;omega);refine⟨l1,I,dD.same C,λkv bv l2 i2 s0 s1 s2 l3 l4 l5 l6 i3 l7 f1 f2 u=>∃am:Nat,bv=(am:Int)/\kv+am=Z8 xs/\am<=Z8 xs/\SC l2 i2 s0 s1 s2 l3 l4 l5 l6 i3 l7/\(f1,f2)=jJ (0,0) (wa [] ((Bj c.root).take am))/\az [b] w4 u,Z8 xs,⟨0,I,J,bh _,aS,I,EC _ _⟩,?_⟩;have fd:aB WB 1 w4 (λk=>o.heap.size<=k) l1 ((Bj c.root).map λp=>p.2):=(hA.slice zQ).mono zQ λk hk=>hk.elim (λaC=>aC.elim) λaC=>aC.1;have gE:b<w4.heap.size:=J
 have kA:∀{u:aw},az [b] w4 u->aB WB 1 u (λk=>o.heap.size<=k) l1 ((Bj c.root).map λp=>p.2):=λaC=>Aw zQ Z fd aC λk hk _ hm=>RW
 have kS:∀{u:aw},az [b] w4 u->aB AK 5 u (λk=>k<m.heap.size) sl xs:=λaC=>Aw ia Z CD aC λk hk _ hm=>by simp at hm;omega
 have kV:∀{u:aw},az [b] w4 u->aB MR 3 u (λk=>k<m.heap.size) d c.vars:=λaC=>Aw ec Z ce aC λk hk _ hm=>RW
 have cC:∀{u:aw} (e a f1 f2:Int),az [b] w4 u->i≠b->j≠b->aG u b 162 (d.v::(NC++[sl.v,O U f1,O U f2]))->
   aA ar 91 #[ah _,O U e,O U a] u λq u'=>q=ao (aj #[])/\cF [i,j] u u'/\∃c k:Int,aG u' b 162 (d.v::(NC++[sl.v,O U c,O U k]))/\(c,k)=jJ (f1,f2) [(e,a)]/\az [b] w4 u':=fun{u} e a f1 f2 hu h1 h2 hB=>(th (bV hu hB) e a).mono (by
  rintro _ u' ⟨rfl,p,h⟩;exact⟨I,sm hu h1 h2 h,_,_,p.blk,I,co hu h⟩)
 rintro kv _ _ _ _ _ _ _ _ _ _ _ _ i4 i5 w5 ⟨am,rfl,vD,hj,⟨rfl,rfl,rfl,rfl,rfl,rfl,rfl,rfl,rfl,rfl,rfl⟩,aT,h5⟩;refine⟨λhc=>?_,λhc=>?_⟩
 .have hc:=aO hc;obtain⟨y,v⟩:=lS (xs:=xs) (i:=am) J;obtain⟨ad,B,F,_⟩:=pj (kS h5) v;obtain⟨p,k⟩:∃p,(Bj c.root)[am]? =Hg p:=⟨_,bH (show am<(Z8 (Bj c.root)) by omega)⟩
  have q:p.1=y.nm:=by
   have h1:(xs.map λs:jo=>s.nm)[am]? =Hg y.nm:=by rw[dr,v];rfl
   rw[bY,dr,k]at h1;exact CH h1
  have x:wa [] ((Bj c.root).take (am+1))=wa [] ((Bj c.root).take am)++bad (!VM (y.nm∈(xs.take am).map λs:jo=>s.nm)) 24 p.2:=by
   rw[bq,k,zo,cb,lh,<-bY,<-lh];simp only[Option.toList,wa,bD,q]
  have a:VM (y.nm∈(xs.take am).map λs:jo=>s.nm)=(iv xs y.nm !=(am:Int)):=by
   by_cases c:y.nm∈(xs.take am).map λs:jo=>s.nm
   .have:=abH c;rw[bF c];simp;omega
   rw[bC c,agN v (λz p e=>c (oP.2 ⟨z,p,e⟩)) rfl];simp
  refine⟨λl2 i2 s0 s1 s2 l3 l4 l5 l6 i3 l7 f1 f2 u=>SC l2 i2 s0 s1 s2 l3 l4 l5 l6 i3 l7/\(f1,f2)=jJ (0,0) (wa [] ((Bj c.root).take (am+1)))/\az [b] w4 u,?_,ad,B,_,F.dx 1 _ I,(Cx (kS h5) _).mono ?_⟩
  .rintro _ _ _ _ _ _ _ _ _ _ _ _ _ u ⟨g,c,hu⟩;exact⟨kv-1,J,am+1,TE,J,J,g,c,hu⟩
  rintro _ u ⟨rfl,hu⟩;obtain rfl:w5=u:=hu.symm;refine⟨_,I,WV _ _,λc=>?_,λc=>⟨aS,?_,h5⟩⟩
  .obtain⟨p1,z,O,q1,e,q3,q4,q5,s⟩:=(kA h5).get (i:=(am:Int)) (bc am) (by have:=(kA h5).len;rw[bQ]at this;omega);have s:O=[Value.int U z]:=s;subst s;rw[aW,dr,k]at e;have e:p.2=z:=CH e;refine⟨p1,q1,_,q5,λhB h1 h2=>(cC 24 z _ _ h5 h1 h2 hB).mono ?_⟩;rintro _ u ⟨rfl,hS,T,g2,G,hg,hu⟩;refine⟨I,hS,d,_,_,_,_,n,l,mv,kids,_,sl,T,g2,G,aS,?_,hu⟩;rw[hg,aT,x,fZ,a,show(iv xs y.nm !=(am:Int))=aF from c,e];rfl
  rw[aT,x,fZ,a,show(iv xs y.nm !=(am:Int))=aM from c];rfl
 have hc:=aR hc;have lD:am=Z8 xs:=J
 subst lD;rw[br J]at aT;have iD:Z8 VP=Z8 c.vars:=bQ _;refine⟨λkv bv l2 i2 s0 s1 s2 l3 l4 l5 l6 i3 l7 f1 f2 u=>∃am:Nat,bv=(am:Int)/\kv+am=Z8 c.vars/\am<=Z8 c.vars/\SC l2 i2 s0 s1 s2 l3 l4 l5 l6 i3 l7/\(f1,f2)=jJ (0,0) (wa [] (Bj c.root)++wa [] (VP.take am))/\az [b] w4 u,Z8 c.vars,⟨0,I,J,bh _,aS,by rw[ci,wa,bD];exact aT,h5⟩,?_⟩;rintro SR _ _ _ _ _ _ _ _ _ _ _ _ i6 i7 w9 ⟨e,rfl,ip,hm,⟨rfl,rfl,rfl,rfl,rfl,rfl,rfl,rfl,rfl,rfl,rfl⟩,s,B⟩;refine⟨λtT=>?_,λtT hB h1 h2=>?_⟩
 .have tT:=aO tT;obtain⟨v,G⟩:∃v,c.vars[e]? =Hg v:=⟨_,bH (show e<(Z8 c.vars) by omega)⟩
  have wA:wa [] (VP.take (e+1))=wa [] (VP.take e)++bad (!VM (v.n∈(c.vars.take e).map λv=>v.n)) 24 v.a:=by
   have q:VP[e]? =Hg (v.n,v.a):=by show(c.vars.map λv=>(v.n,v.a))[e]? =_;rw[dr,G];rfl
   have y:(VP.take e).map (λp=>p.1)=(c.vars.take e).map λv=>v.n:=by
    show((c.vars.map λv=>(v.n,v.a)).take e).map _=_;rw[<-lh,mw];rfl
   rw[bq,q,zo,cb,y];simp only[Option.toList,wa,bD]
  refine⟨λkv bv l2 i2 s0 s1 s2 l3 l4 l5 l6 i3 l7 f1 f2 u=>∃am:Nat,bv=(am:Int)/\kv+am=e/\am<=e/\SC l2 i2 s0 s1 s2 l3 l4 l5 l6 i3 l7/\(f1,f2)=jJ (i6,i7) (bad (!VM (v.n∈(c.vars.take am).map λv=>v.n)) 24 v.a)/\az [b] w4 u,e,⟨0,I,J,bh _,aS,I,B⟩,?_⟩;rintro iF _ _ _ _ _ _ _ _ _ _ _ _ i8 i9 dk ⟨q,rfl,iN,a,⟨rfl,rfl,rfl,rfl,rfl,rfl,rfl,rfl,rfl,rfl,rfl⟩,k,F⟩;refine⟨λx=>?_,λx=>⟨SR-1,J,e+1,TE,J,J,aS,?_,F⟩⟩
  .have x:=aO x;obtain⟨v2,iS⟩:∃v,c.vars[q]? =Hg v:=⟨_,bH (show q<(Z8 c.vars) by omega)⟩
   have p:∀{u:aw} {q:Nat} {v:Vr},az [b] w4 u->c.vars[q]? =Hg v->∃(ad:Addr),cM d (q:Int) 3 ad/\aD u (ad.add 0) [ae (T v.n)]/\aD u (ad.add 2) [O U v.a]:=fun{u q v} hu a=>by
    have lE:=(bd.1 a).1;obtain⟨ad,y,ds,g1,c,g3,g4,g5,z⟩:=(kV hu).get (i:=(q:Int)) (bc q) J;rw[aW,a]at c;injection c with c;subst c;have z:ds=[ae (T v.n),O U v.v,O U v.a]:=z;subst z;exact⟨ad,g1,g5.dx 0 _ I,g5.dx 2 _ I⟩
   obtain⟨p2,e1,e2,_⟩:=p F iS;obtain⟨p3,e3,e4,_⟩:=p F G;have qQ:∀z:S,z∈(c.vars.take (q+1)).map (λv=>v.n)↔z∈(c.vars.take q).map (λv=>v.n)∨v2.n=z:=λz=>by
    rw[bq,iS,cX,dc];simp[eq_comm]
   refine⟨λl2 i2 s0 s1 s2 l3 l4 l5 l6 i3 l7 f1 f2 u=>SC l2 i2 s0 s1 s2 l3 l4 l5 l6 i3 l7/\(f1,f2)=jJ (i6,i7) (bad (!VM (v.n∈(c.vars.take (q+1)).map λv=>v.n)) 24 v.a)/\az [b] w4 u,?_,p2,e1,_,e2,p3,e3,_,e4,λa=>⟨p3,e3,λeF dV=>?_⟩,λa fR eH=>⟨aS,?_,F.cn eH⟩⟩
   .rintro _ _ _ _ _ _ _ _ _ _ _ _ _ u ⟨g,c,hu⟩;exact⟨iF-1,J,q+1,TE,J,J,g,c,hu⟩
   .have c:=F.cn dV;obtain⟨p4,y,_,z⟩:=p c G;obtain rfl:=cM.ET e3 y;refine⟨_,z,λhB h1 h2=>(cC 24 v.a _ _ c h1 h2 hB).mono ?_⟩;rintro _ u ⟨rfl,hS,O,T,q,hg,hu⟩;refine⟨I,hS,d,_,_,_,_,n,l,mv,kids,_,sl,O,T,q,aS,?_,hu⟩;rw[iC]at a;have a:=aO a;rw[hg,k,sxv _ _ Z,bF ((qQ _).2 (.inr a))];rfl
   rw[iC]at a;have a:=aR a;rw[k];congr 3;exact tK.2 ⟨λaC=>(qQ _).2 (.inl aC),λaC=>((qQ _).1 aC).resolve_right a⟩
  have x:=aR x;have:q=e:=J
  subst this;rw[k,s,wA,<-fZ,be]
 have tT:=aR tT;have:e=Z8 c.vars:=J
 subst this;rw[br J]at s;have v:pv aM (D+1) w9 _ c.root NC:=(ck aM _).keep cc λk hk f=>(B.block k J C).trans (dD.block k f R);refine(nCb (G:=λk=>k<w.heap.size) (λk hk=>J) f5 J J (D+1) (bV B hB) v J (a:=0) J pK.1.2).mono ?_;rintro _ z ⟨rfl,q,p⟩;rw[s,<-fZ,be]at q;exact⟨_,I,sm B h1 h2 p,d,_,_,_,_,n,l,mv,kids,_,sl,_,_,q.blk,λO y _=>⟨I,by
  have:=((eQ (co B p)).AY (y.p (F:=λk=>w.heap.size<=k) λx hx=>Qe))
  exact this.only λk hk=>hk⟩⟩
def ai3{c:Ch}(h:Ga c):zR c=sZ c:=by unfold zR sZ;rw[acb h]
def neP{w:aw}{F:aK}{D:Nat}{c:Ch}{v:Sl}{s:aJ}(x:ChR aM (D+1) w F c v s)(h:Ga c)(a:jZ c.vars+lF c.root<=1048576):
  aA ar 36 #[ai (v.v::s).toArray] w λe b=>e=ao (ai #[O U (sZ c).1,O U (sZ c).2])/\az [] w b:=by
 rw[<-ai3 h];exact gdM x h a
def rY(t:X Tk)(s:Sx)(k:Int)(x:S):L:=s.fc==0&&(tk t s.i).k==k&&VM ((tk t s.i).t=x)
def Wd(x:S):Prop:=∃c r,x=c::r/\fF c=aF
def Sg(x:S):Prop:=∃c r,x=c::r/\fF c=aM
def vd(t:X Tk)(s:Sx):X (S)->Nat->Nat
 | [],_=>0
 | x::l,o=>if rY t s 2 x=aF then o+1 else vd t s l (o+1)
section
variable {ts:X Tk} {s:Sx}
def D5{k:Int}(h:¬(s.fc=0/\(tk ts s.i).k=k))(x:S):rY ts s k x=aM:=by
 unfold rY;rw[fV];left;rw[fV];by_cases e:s.fc=0
 .right;simpa using λa=>h ⟨e,a⟩
 left;simpa using e
def HN{k:Int}(h:s.fc=0/\(tk ts s.i).k=k)(x:S):rY ts s k x=VM ((tk ts s.i).t=x):=by
 unfold rY;rw[h.1,h.2];simp
def WG(h:¬(s.fc=0/\(tk ts s.i).k=2)):∀(l:X (S)) (o:Nat),vd ts s l o=0
 | [],_=>rfl
 | x::l,o=>by
  rw[vd,W (by rw[D5 h];decide)];exact WG h l _
def Cy(h:s.fc=0/\(tk ts s.i).k=2):∀(l:X (S)) (o:Nat),vd ts s l o=if uR (tk ts s.i).t l<Z8 l then o+uR (tk ts s.i).t l+1 else 0
 | [],_=>rfl
 | x::l,o=>by
  rw[vd,HN h,uR,aY];by_cases e:(tk ts s.i).t=x
  .rw[K (bF e),K e,K J]
  rw[W (by simpa using e),W e,Cy h l (o+1)];by_cases a:uR (tk ts s.i).t l<Z8 l
  .rw[K a,K J];omega
  rw[W a,W J]
def WH{t:S}:∀{l:X (S)},(∀x,x∈l->t≠x)->uR t l=Z8 l
 | [],_=>rfl
 | x::l,h=>by
  rw[uR,W (h x eW),WH λy a=>h y (dw _ a),aY]
def Qk(g:∀t,t∈ts->t.Good)(i:Nat):(tk ts i).Good:=by
 unfold tk;rcases h:ts[i]? with _|t
 .exact⟨λh=>absurd h Z,λh=>absurd h Z,kQ 0,(by decide:(0:Int)<=9223372036854775807)⟩
 exact g t (bA h)
def lC(g:∀t,t∈ts->t.Good){l:X (S)}(a:∀x,x∈l->Wd x):bR ts s l=vd ts s l 0:=by
 unfold bR;by_cases h:s.fc=0/\(tk ts s.i).k=2
 .rw[W (by rintro(b | b);exact b h.1;exact b.1 h.2),Cy h];split
  .omega
  rfl
 rw[WG h];split
 .rfl
 rename_i n;simp only[not_or,kU,L8]at n;have f:(tk ts s.i).k=4:=by
  rcases n.2 with c | c
  .exact absurd ⟨n.1,c⟩ h
  exact c
 obtain⟨c,r,e,i⟩:=(Qk g s.i).2.1 f;rw[WH λx j=>?_,W J];obtain⟨k,l,d,q⟩:=a x j;rw[e,d];intro b;injection b with b _;subst b;rw[i]at q;cases q
def ptS(g:∀t,t∈ts->t.Good){x:S}(a:Wd x):bR ts s [x]=if rY ts s 2 x=aF then 1 else 0:=lC g (l:=[x]) λy h=>by simp only[aV]at h;subst h;exact a
def yp(g:∀t,t∈ts->t.Good){x:S}(a:Sg x):bR ts s [x]=if rY ts s 4 x=aF then 1 else 0:=by
 unfold bR;by_cases h:s.fc=0/\(tk ts s.i).k=4
 .rw[W (by rintro(b | b);exact b h.1;exact b.2 h.2),HN h];unfold uR;by_cases e:(tk ts s.i).t=x
  .rw[K e,K R,K (bF e)]
  rw[W e,W (by unfold uR;simp),W (by simpa using e)]
 rw[D5 h];split
 .rfl
 rename_i n;simp only[not_or,kU,L8]at n;have i:(tk ts s.i).k=2:=by
  rcases n.2 with c | c
  .exact c
  exact absurd ⟨n.1,c⟩ h
 obtain⟨c,r,e,j⟩:=(Qk g s.i).1 i;rw[WH λy d=>?_,W R,W Z];simp only[aV]at d;subst d;obtain⟨k,l,f,q⟩:=a;rw[e,f];intro b;injection b with b _;subst b;rw[j]at q;cases q
end
structure Cnt (s:Sx) (n m a d:Int):Prop where
 n:n=64-s.n
 m:m=200-s.m
 a:a=400-s.a
 d:d=12-s.d
 n0:0<=s.n/\s.n<=64
 m0:0<=s.m/\s.m<=200
 a0:0<=s.a/\s.a<=400
 d0:0<=s.d/\s.d<=12
abbrev Sd(l:Sl)(i n m a d c f:Int):aJ:=[l.v,O U i,O U n,O U m,O U a,O U d,O U c,O U f]
structure XsP (P:Prop) (F:aK) (ts:List Tk) (w:aw) (b:Nat) (l:Sl) (s:Sx):Prop where
 blk:∃n m a d:Int,aG w b 156 (Sd l (s.i:Int) n m a d s.fc s.fa)/\(s.fc=0->P->Cnt s n m a d)
 tok:aB MN 4 w F l ts
 hF:∀k,F k->k<b
 en:pG ts
 lt:s.i<Z8 ts
 sm:Z8 ts<=16777216
 hg:∀t,t∈ts->t.Good
section
variable {P:Prop} {F:aK} {ts:X Tk} {w w':aw} {b:Nat} {l:Sl} {s s':Sx}
def XsP.lb(h:XsP P F ts w b l s):b<w.heap.size:=by
 obtain⟨_,_,_,_,a,_⟩:=h.blk;exact a.lt
def XsP.own(h:XsP P F ts w b l s){c:X Nat}(O:az c w w')(hb:∀x,x∈c->b<x):XsP P F ts w' b l s:=by
 obtain⟨n,m,a,d,B,e⟩:=h.blk;exact⟨⟨n,m,a,d,O.blk B λhm=>TL,e⟩,Aw gz Z h.tok O λk hk _ hm=>P9,h.hF,h.en,h.lt,h.sm,h.hg⟩
def XsP.only(h:XsP P F ts w b l s)(O:az [] w w'):XsP P F ts w' b l s:=h.own O λx hx=>Rg
def XsP.one(h:XsP P F ts w b l s){k:Nat}(O:az [k] w w')(a:b<k):XsP P F ts w' b l s:=h.own O λx hx=>IG
def XsP.gN(h:XsP P F ts w b l s)(O:az [b] w w'){n m a d:Int}(B:aG w' b 156 (Sd l (s'.i:Int) n m a d s'.fc s'.fa))(c:s'.fc=0->P->Cnt s' n m a d)(i:s'.i<Z8 ts):XsP P F ts w' b l s':=
 ⟨⟨n,m,a,d,B,c⟩,Aw gz Z h.tok O λk e _ f=>(by have:=h.hF k e;simp only[aV]at f;omega),h.hF,h.en,i,h.sm,h.hg⟩
def XsP.z(a:XsP P F ts w b l s):Fz [b] w w []:=Fz.start λx h=>(by simp only[aV]at h;rw[h];exact a.lb)
def XsP.wr(h:XsP P F ts w b l s):au U ((s.i:Int)+1)=((s.i+1:Nat):Int):=by
 have:=h.sm;have:=h.lt;rw[eS J J];rfl
def XsP.now(h:XsP P F ts w b l s):∃ad,cM l (s.i:Int) 4 ad/\aD w ad [O U (tk ts s.i).k,ae (T (tk ts s.i).t),O U (tk ts s.i).n,O U (tk ts s.i).a]:=by
 have k:=h.tok.len;have e:=h.lt;obtain⟨ad,x,f,c,g,i,j,d,a⟩:=h.tok.get (bc s.i) J;rw[aW,za h.lt]at g;injection g with g;subst g;unfold MN at a;subst a;exact⟨ad,c,d⟩
structure DxP (P:Prop) (F:aK) (ts:List Tk) (w w':aw) (b:Nat) (l:Sl) (s:Sx):Prop where
 o:az [b] w w'
 r:XsP P F ts w' b l s
def XsP.dn(h:XsP P F ts w b l s):DxP P F ts w w b l s:=⟨EC _ _,h⟩
section
variable {w2:aw} {ks ks':X Nat} {k0:Nat}
def DxP.q(h:DxP P F ts w w' b l s)(k:az [] w' w2):DxP P F ts w w2 b l s:=⟨h.o.cn k,h.r.only k⟩
def DxP.nx(h:DxP P F ts w w' b l s)(k:DxP P F ts w' w2 b l s'):DxP P F ts w w2 b l s':=⟨h.o.trans k.o λx a=>.inl a,k.r⟩
structure ZxP (P:Prop) (F:aK) (ts:List Tk) (w w':aw) (b:Nat) (l:Sl) (s:Sx) (ks:List Nat):Prop where
 z:Fz [b] w w' ks
 r:XsP P F ts w' b l s
def XsP.zt(h:XsP P F ts w b l s):ZxP P F ts w w b l s []:=⟨h.z,h⟩
def ZxP.q(h:ZxP P F ts w w' b l s ks)(k:az [] w' w2):ZxP P F ts w w2 b l s ks:=⟨h.z.q k,h.r.only k⟩
def ZxP.al(h:ZxP P F ts w w' b l s ks)(k:az [] w' w2)(a:w'.heap.size<=k0)(c:k0<w2.heap.size):ZxP P F ts w w2 b l s (k0::ks):=⟨h.z.al k a c,h.r.only k⟩
def ZxP.ad(h:ZxP P F ts w w' b l s ks)(c:w.heap.size<=k0)(d:k0<w'.heap.size):ZxP P F ts w w' b l s (k0::ks):=⟨⟨h.z.o,λx a=>by
 rcases aZ.1 a with rfl | a
 .exact⟨c,d⟩
 exact h.z.k x a,h.z.lo⟩,h.r⟩
def ZxP.lt(h:ZxP P F ts w w' b l s ks)(k:k0∈ks):b<k0:=cD (h.z.lo b R) (h.z.k k0 k).1
def ZxP.f(h:ZxP P F ts w w' b l s ks)(k:az [k0] w' w2)(a:k0∈ks):ZxP P F ts w w2 b l s ks:=⟨h.z.f k a,h.r.one k (h.lt a)⟩
def ZxP.nx(h:ZxP P F ts w w' b l s ks)(k:DxP P F ts w' w2 b l s'):ZxP P F ts w w2 b l s' ks:=⟨h.z.c k.o,k.r⟩
def ZxP.dn(h:ZxP P F ts w w' b l s ks):DxP P F ts w w' b l s:=⟨h.z.o,h.r⟩
def ZxP.sq(h:ZxP P F ts w w' b l s ks)(k:az [] w' w2)(a:∀x,x∈ks'->x∈ks):cF ks' w' w2:=h.z.sq k a
def ZxP.sc(h:ZxP P F ts w w' b l s ks)(k:DxP P F ts w' w2 b l s')(a:∀x,x∈ks'->x∈ks):cF ks' w' w2:=h.z.sc k.o a
def ZxP.ne(h:ZxP P F ts w w' b l s ks)(k:k0∈ks):k0≠b:=h.z.ne k R
def ZxP.row{g:X Nat}(h:ZxP P F ts w w' b l s ks)(k:az g w' w2)(c:∀x,x∈g->w.heap.size<=x):ZxP P F ts w w2 b l s ks:=⟨h.z.new k λx a=>.inr (c x a),h.r.own k λx a=>cD (h.z.lo b R) (c x a)⟩
def ZxP.sr{g:X Nat}(h:ZxP P F ts w w' b l s ks)(k:az g w' w2)(c:∀x,x∈ks'->x∈ks)(a:∀x,x∈g->∀y,y∈ks'->y<x):cF ks' w' w2:=h.z.sm k c λx d=>.inr λy f e=>by have:=a x d y f;omega
def Stay.x{B:Nat}(h:Stay B w w')(k:DxP P F ts w' w2 b l s')(a:b<B):Stay B w w2:=h.go k.o λx hx=>.inl IG
end
def Cnt.next{n m a d:Int}(h:Cnt s n m a d):Cnt (bP s) n m a d:=⟨h.n,h.m,h.a,h.d,h.n0,h.m0,h.a0,h.d0⟩
def uG(h:XsP P F ts w b l s){c:Int}(g:c≠0):aA ar 149 #[rp b,O U c] w λe w'=>e=ao (aj #[])/\DxP P F ts w w' b l (fe ts s c):=by
 refine ret (al6 ?_);obtain⟨n,m,a,d,B,i⟩:=h.blk;refine⟨s.fc,Mn B 6 I,λhc j f=>?_,λhc=>?_⟩
 .have hc:s.fc=0:=R0
  have a:=h.only f;have n:=f.blk B R;obtain⟨ad,d,k⟩:=a.now;refine⟨l,Mn n 0 I,_,Mn n 1 I,ad,d,_,k.dx 3 _ I,b,6,_,_,I,n,R,λw O Y=>⟨I,(f.weaken (bs':=[b]) λ_ h=>Rl).trans O λx o=>.inl o,?_⟩⟩;unfold fe;rw[K hc];exact a.gN (s':={s with fc:=c,fa:=(tk ts s.i).a}) O Y (λe _=>absurd e g) h.lt
 have hc:s.fc≠0:=R0
 unfold fe;rw[W hc];exact⟨I,h.dn⟩
def pq(h:XsP P F ts w b l s):aA ar 88 #[rp b] w λe w'=>e=ao (aj #[])/\DxP P F ts w w' b l (fH ts s):=by
 refine ret (al4 ?_);obtain⟨ad,g,f⟩:=h.now;obtain⟨n,m,a,d,B,j⟩:=h.blk;refine⟨l,Mn B 0 I,_,Mn B 1 I,ad,g,_,f.dx 0 _ I,λhc i O=>?_,λhc i O=>?_⟩
 .have hc:(tk ts s.i).k=5:=R0
  refine(uG (h.only O) (c:=3) Z).mono ?_;rintro _ w ⟨rfl,a⟩;refine⟨I,I,(h.dn.q O).nx ?_⟩;unfold fH;rw[K hc];have e:∀u:Sx,u.fc≠0->fe ts u 4=u:=λu h=>by
   unfold fe;rw[W h]
  rw[e _ (wO Z)];exact a
 have hc:¬(tk ts s.i).k=5:=R0
 refine(uG (h.only O) (c:=4) Z).mono ?_;rintro _ w ⟨rfl,a⟩;refine⟨I,I,(h.dn.q O).nx ?_⟩;unfold fH;rw[W hc];exact a
def am8(h:XsP P F ts w b l s):aA ar 152 #[rp b] w λe w'=>e=ao (ak (s.fc==0))/\az [] w w':=by
 refine ret (al9 ?_);obtain⟨n,m,a,d,B,c⟩:=h.blk;exact⟨s.fc,Mn B 6 I,I,EC _ _⟩
def FV(j:XsP P F ts w b l s)(k:Int)(x:S):aA ar 153 #[rp b,O U k,ae (T x)] w λe w'=>e=ao (ak (rY ts s k x))/\az [] w w':=by
 refine ret (ama ?_);intro t c;have f:=j.only c;obtain⟨ad,g,i⟩:=f.now;obtain⟨n,r,a,d,h,q⟩:=f.blk;refine⟨λ_=>True,trivial,l,Mn h 0 I,trivial,_,Mn h 1 I,ad,g,trivial,_,_,_,_,i,λo u m L p=>⟨s.fc,Mn (p.blk h R) 6 I,?_,c.cn p⟩⟩;rw[iC];rfl
def HO(h:XsP P F ts w b l s){k:Int}(o:k≠5)(x:S):aA ar 148 #[rp b,O U k,ae (T x)] w λe w'=>e=ao (ak (rY ts s k x))/\DxP P F ts w w' b l (if rY ts s k x=aF then bP s else s):=by
 refine ret (al5 ?_);refine(FV h k x).mono ?_;rintro _ q ⟨rfl,c⟩;have g:=h.only c;obtain⟨n,p,a,d,B,m⟩:=g.blk;refine⟨_,I,λw'=>DxP P F ts w w' b l (if rY ts s k x=aF then bP s else s),λr i=>⟨I,i⟩,λhc=>⟨_,Mn B 1 I,b,1,_,_,I,B,R,λt f j=>?_⟩,λhc=>?_⟩
 .rw[K hc];rw[h.wr]at j;have a:s.fc=0/\(tk ts s.i).k=k:=bM λn=>by rw[D5 n]at hc;cases hc
  exact⟨(c.weaken (bs':=[b]) λ_ h=>Rl).trans f λx d=>.inl d,g.gN (s':=bP s) f j (λe P=>(m e P).next) (h.en.next h.lt (by rw[a.2];exact o))⟩
 rw[W Zs];exact h.dn.q c
def Ql(a:XsP P F ts w b l s){k:Int}(m:k≠5){x:S}(c:bR ts s [x]=if rY ts s k x=aF then 1 else 0):aA ar 84 #[rp b,O U k,ae (T x)] w λe w'=>e=ao (aj #[])/\DxP P F ts w w' b l (cA ts s x):=by
 refine ret (al0 ?_);refine(HO a m x).mono ?_;rintro _ d ⟨rfl,h⟩;unfold cA;rw[c];refine⟨_,I,λhc=>?_,λhc=>?_⟩
 .have hc:rY ts s k x=aM:=R0
  rw[W Zs]at h;rw[hc];refine(pq h.r).mono ?_;rintro _ w ⟨rfl,b⟩;exact⟨I,I,h.nx b⟩
 have hc:rY ts s k x=aF:=R0
 rw[K hc]at h;rw[hc];exact⟨I,h⟩
def Qm(h:XsP P F ts w b l s){x:S}(a:Sg x):aA ar 84 #[rp b,O U 4,ae (T x)] w λe w'=>e=ao (aj #[])/\DxP P F ts w w' b l (cA ts s x):=Ql h Z (yp h.hg a)
def ym2(h:XsP P F ts w b l s){x:S}(a:Wd x):aA ar 84 #[rp b,O U 2,ae (T x)] w λe w'=>e=ao (aj #[])/\DxP P F ts w w' b l (cA ts s x):=Ql h Z (ptS h.hg a)
def Rj(a:XsP P F ts w b l s){x:S}(d:Sg x):aA ar 148 #[rp b,O U 4,ae (T x)] w λe w'=>e=ao (ak (VM (bR ts s [x]≠0)))/\DxP P F ts w w' b l (if bR ts s [x]=0 then s else bP s):=by
 refine(HO a (k:=4) Z x).mono ?_;rintro _ f ⟨rfl,h⟩;rw[yp a.hg d];cases c:rY ts s 4 x
 .rw[c]at h;exact⟨I,h⟩
 rw[c]at h;exact⟨I,h⟩
def yp2(a:XsP P F ts w b l s){x:S}(d:Wd x):aA ar 148 #[rp b,O U 2,ae (T x)] w λe w'=>e=ao (ak (VM (bR ts s [x]≠0)))/\DxP P F ts w w' b l (if bR ts s [x]=0 then s else bP s):=by
 refine(HO a (k:=2) Z x).mono ?_;rintro _ f ⟨rfl,h⟩;rw[ptS a.hg d];cases c:rY ts s 2 x
 .rw[c]at h;exact⟨I,h⟩
 rw[c]at h;exact⟨I,h⟩
def yi4(h:XsP P F ts w b l s){x:S}(c:Sg x):aA ar 153 #[rp b,O U 4,ae (T x)] w λe w'=>e=ao (ak (VM (bR ts s [x]≠0)))/\az [] w w':=by
 refine(FV h 4 x).mono ?_;rintro _ f ⟨rfl,a⟩;rw[yp h.hg c];cases d:rY ts s 4 x<;>exact⟨I,a⟩
def rD(c:XsP P F ts w b l s):aA ar 150 #[rp b] w λe w'=>e=ao (aj #[ae (T (cY ts s 1).1.t),O U (cY ts s 1).1.a])/\DxP P F ts w w' b l (cY ts s 1).2:=by
 refine ret (al7 ?_);intro z f;have j:=c.only f;have m:=c.dn.q f;obtain⟨ad,o,r⟩:=j.now;obtain⟨n,y,a,d,B,v⟩:=j.blk;refine⟨λ_=>True,trivial,l,Mn B 0 I,trivial,_,Mn B 1 I,ad,o,trivial,_,_,_,_,r,λx A u L p=>?_⟩;have t:=(c.zt.q f).al p u L;have g:=p.blk B R;have k:((s.fc !=0)||((tk ts s.i).k !=1))=VM (s.fc≠0∨(tk ts s.i).k≠1):=by
  rw[bL];simp
 refine⟨s.fc,Mn g 6 I,?_⟩;dsimp only;rw[k];refine⟨λh=>(pq t.r).mono ?_,λh=>⟨_,Mn g 1 I,b,1,_,_,I,g,R,t.ne R,λC i q E D=>?_⟩⟩
 .rintro _ w ⟨rfl,a⟩;unfold cY;rw[K (aO h)];exact⟨I,t.sc a R,I,(t.nx a).dn⟩
 have h:=aR h;unfold cY;rw[W h];simp only[not_or,kU]at h;rw[c.wr]at q;exact⟨I,((m.q p).nx ⟨i,t.r.gN (s':=bP s) i q (λe P=>(v e P).next) (c.en.next c.lt (by rw[h.2];decide))⟩).q D⟩
def WI(c:XsP P F ts w b l s):aA ar 151 #[rp b] w λe w'=>e=ao (O U (cY ts s 3).1.n)/\DxP P F ts w w' b l (cY ts s 3).2:=by
 refine ret (al8 ?_);intro z f;have j:=c.only f;have m:=c.dn.q f;obtain⟨ad,o,r⟩:=j.now;obtain⟨n,y,a,d,B,v⟩:=j.blk;refine⟨λ_=>True,trivial,l,Mn B 0 I,trivial,_,Mn B 1 I,ad,o,trivial,_,_,_,_,r,λx A u L p=>?_⟩;have t:=(c.zt.q f).al p u L;have g:=p.blk B R;have k:((s.fc !=0)||((tk ts s.i).k !=3))=VM (s.fc≠0∨(tk ts s.i).k≠3):=by
  rw[bL];simp
 refine⟨s.fc,Mn g 6 I,?_⟩;dsimp only;rw[k];refine⟨λh=>(pq t.r).mono ?_,λh=>⟨_,Mn g 1 I,b,1,_,_,I,g,R,t.ne R,λC i q=>?_⟩⟩
 .rintro _ w ⟨rfl,a⟩;unfold cY;rw[K (aO h)];exact⟨I,t.sc a R,I,(t.nx a).dn⟩
 have h:=aR h;unfold cY;rw[W h];simp only[not_or,kU]at h;rw[c.wr]at q;exact⟨I,(m.q p).nx ⟨i,t.r.gN (s':=bP s) i q (λe P=>(v e P).next) (c.en.next c.lt (by rw[h.2];decide))⟩⟩
end
abbrev Xs(F:aK)(t:X Tk)(w:aw)(b:Nat)(l:Sl)(s:Sx):Prop:=XsP True F t w b l s
abbrev Dx(F:aK)(t:X Tk)(w a:aw)(b:Nat)(l:Sl)(s:Sx):Prop:=DxP True F t w a b l s
abbrev Zx(F:aK)(t:X Tk)(w a:aw)(b:Nat)(l:Sl)(s:Sx)(k:X Nat):Prop:=ZxP True F t w a b l s k
section
variable {F:aK} {ts:X Tk} {w w':aw} {b:Nat} {l:Sl} {s s':Sx}
def XsP.same{P:Prop}(h:XsP P F ts w b l s)(i:s'.i=s.i)(f:s'.fc=s.fc)(c:s'.fa=s.fa)(g:s.fc≠0){Q:Prop}:XsP Q F ts w b l s':=by
 obtain⟨n,m,a,d,B,j⟩:=h.blk;exact⟨⟨n,m,a,d,by rw[i,f,c];exact B,λe=>absurd (f▸e) g⟩,h.tok,h.hF,h.en,by rw[i];exact h.lt,h.sm,h.hg⟩
def DxP.same{P:Prop}(h:DxP P F ts w w' b l s)(i:s'.i=s.i)(f:s'.fc=s.fc)(a:s'.fa=s.fa)(c:s.fc≠0){Q:Prop}:DxP Q F ts w w' b l s':=⟨h.o,h.r.same i f a c⟩
def XsP.cnt(h:XsP True F ts w b l s)(c:s.fc=0):∃n m a d,aG w b 156 (Sd l (s.i:Int) n m a d s.fc s.fa)/\Cnt s n m a d:=by
 obtain⟨n,m,a,d,B,P⟩:=h.blk;exact⟨n,m,a,d,B,P c trivial⟩
def ahT{a:Int}(h:(cq ts a).2.2.1≠0):(cq ts a).1=uZ:=by
 unfold cq at h⊢;split
 .rename_i c;rw[K c]at h;cases p:oB ts a.toNat with
  | error e=>rfl
  | ok q=>
   rw[p]at h;exact absurd I h
 rfl
def ahM(h:Xs F ts w b l s):aA ar 204 #[rp b] w λe w'=>∃f,e=ao (ai f.toArray)/\rE aF w' (Fr w.heap.size) (iI ts s).1 f/\Dx F ts w w' b l (iI ts s).2:=by
 refine iE (amf ?_);intro c u j r g;have q:=h.lb;have t:=h.zt.al g j r;obtain⟨n,m,a,d,B,P⟩:=t.r.blk;refine⟨_,Mn B 6 I,λhc v p=>?_,λhc o O=>?_⟩
 .have hc:s.fc≠0:=R0
  unfold iI;rw[K hc];exact⟨_,I,RM _ _ _,(t.f p R).dn⟩
 have hc:¬s.fc≠0:=R0
 have P:=P R0 trivial;have M:=t.q O;have jY:=O.blk B R;refine⟨λk=>k=b,λw3 H=>⟨I,l,Mn (H.blk jY R) 0 I,λw4 V=>⟨I,_,Mn (V.blk (H.blk jY R) R) 1 I,λw5 dP=>?_⟩⟩⟩;have Q:=((M.q H).q V).q dP;have xz:=(H.cn V).cn dP;have vB:=h.sm;have U:=h.lt;refine(afb Q.r.tok (s.i:Int) ⟨J,J⟩).mono ?_;rintro _ w6 ⟨f,rfl,X,hj,N⟩;have t6:=Q.q N;obtain⟨sl,gZ,_⟩:=X.cells;have aC:o.heap.size<=w5.heap.size:=xz.size;refine⟨_,_,_,_,sl,_,_,_,_,by rw[gZ],Q.sq N R,oa.KZ N,VI N,λw7 L y ki ik S z mE nT T am=>?_⟩;obtain⟨dd,X⟩:=X.xg;have Z:rE aF w6 (λk=>w5.heap.size<=k/\k<w6.heap.size) (cq ts s.i).1 f:=⟨dd,X⟩
 have z2:=M.z.o.size;have G:=((t6.q L).ad (k0:=y) J ik).ad (k0:=z) J nT;have aS:=(M.z.k c R).2;have Q5:aG w7 b 156 (Sd l (s.i:Int) n m a d s.fc s.fa):=L.blk (N.blk (xz.blk jY R) R) R;have E:c≠b:=M.ne R;have A:y≠b:=G.ne R;have C:z≠b:=G.ne R;have cut:∀{w8:aw},az [z,y] w7 w8->Zx F ts w w8 b l s [z,y,c]:=λD=>⟨G.z.go D λx hx=>.inr KW,G.r.own D λx hx=>G.lt KW⟩
 unfold iI;rw[W hc];refine⟨λh1 w8 D=>?_,λh1 dz Y=>?_⟩
 .have h1:(cq ts s.i).2.2.1≠0:=Wl
  have d:=cut D;have x:=D.blk Q5 KF;refine⟨b,6,_,_,I,x,R,E,A,C,λw9 a i dk n=>?_⟩;rw[K h1,ahT h1];have k:Zx F ts w w9 b l {s with fc:=(cq ts s.i).2.2.1,fa:=(cq ts s.i).2.2.2} [z,y,c]:=⟨d.z.c a,d.r.gN (s':={s with fc:=(cq ts s.i).2.2.1,fa:=(cq ts s.i).2.2.2}) a i (λe _=>absurd e h1) h.lt⟩
  exact⟨_,I,RM _ _ _,(k.f n R).dn⟩
 have h1:¬(cq ts s.i).2.2.1≠0:=Wl
 have aT:=cut Y;have qS:=Y.blk Q5 KF;obtain⟨Tv,La⟩:=hj Wl;have ej:((cq ts s.i).2.1.toNat:Int)=(cq ts s.i).2.1:=fy Tv;refine⟨b,1,_,_,I,qS,R,E,A,C,λeF dV vm eM dF=>?_⟩;rw[W h1];have bv:Zx F ts w eF b l {s with i:=(cq ts s.i).2.1.toNat} [z,y,c]:=⟨aT.z.c dV,aT.r.gN (s':={s with i:=(cq ts s.i).2.1.toNat}) dV (n:=n) (m:=m) (a:=a) (d:=d) (by dsimp only[Sd];rw[ej];exact vm) (λe _=>⟨P.n,P.m,P.a,P.d,P.n0,P.m0,P.a0,P.d0⟩) Sb⟩
 refine⟨f,by rw[gZ],?_,(bv.f dF R).dn⟩;have Xx:az [z,y,b,c] w7 eM:=((Y.weaken (bs':=[z,y,b,c]) λx hx=>.inl KW).trans dV λx hx=>.inl Ua).trans dF λx hx=>.inl Ua;refine(gp aF).mono ((gp aF).keep Z λk Gb U=>(Xx.block k (cD U L.size) λhm=>?_).trans (L.block k U R)) λk Gb=>by have:=Gb.1;show w.heap.size<=k;omega
 simp only[aZ,bB,cE]at hm;have q1:=S.one;have q2:=T.one;have zz:=Q.z.o.size;rcases hm with rfl | rfl | rfl | rfl<;>omega
def aiy:∀x,x∈gH->Wd x:=λx h=>by
 simp only[gH,aZ,bB,cE]at h;rcases h with rfl | rfl | rfl | rfl<;>exact⟨_,_,I,Z⟩
def KI:∀x,x∈[u6,fb,fL]->Wd x:=λx h=>by
 simp only[aZ,bB,cE]at h;rcases h with rfl | rfl | rfl<;>exact⟨_,_,I,Z⟩
def aa9:∀x,x∈[mM,gD,jc]->Wd x:=λx h=>by
 simp only[aZ,bB,cE]at h;rcases h with rfl | rfl | rfl<;>exact⟨_,_,I,Z⟩
def Cz{w:aw}{G:aK}{q:Sl}{s:X (S)}(h:aB ju 1 w G q s){n:Nat}(d:n<Z8 s):∃ad x,cM q (n:Int) 1 ad/\aD w ad [ae (T x)]/\s[n]? =Hg x/\s.drop n=x::s.drop (n+1):=by
 have l:=h.len;obtain⟨ad,x,e,b,g,f,j,c,a⟩:=h.get (i:=(n:Int)) J J;rw[aW]at g;unfold ju at a;subst a;exact⟨ad,x,b,c,g,by rw[gA d,<-(bd.1 g).2]⟩
def xrv(f:Xs F ts w b l s):aA ar 155 #[rp b] w λe w'=>e=ao (O U (bR ts s [u6,fb,fL]:Nat))/\az [] w w':=by
 refine ret (amb ?_);obtain⟨q,g,i,j,a⟩:=jb w [u6,fb,fL] (n:=3) (parts:=#[(0,ae (T u6)),(1,ae (T fb)),(2,ae (T fL))]) I I Z Z;rw[lC f.hg KI];generalize d:vd ts s [u6,fb,fL] 0=V;refine⟨q,g,i,λv k w'=>∃n:Nat,k=(n:Int)/\n<=3/\v=3-n/\vd ts s ([u6,fb,fL].drop n) n=V/\az [] g w',3,⟨0,I,Z,I,d,EC _ _⟩,?_⟩;rintro v _ o ⟨n,rfl,m,rfl,h,c⟩;refine⟨λhc=>?_,λhc=>?_⟩
 .have hc:n<3:=Ro
  obtain⟨ad,x,b,e,p,l⟩:=Cz (Aw cx Z (pT j) c R) (n:=n) hc;rw[l,vd]at h;refine⟨ad,b,_,e,(FV (f.only (a.cn c)) 2 x).mono ?_⟩;rintro _ w ⟨rfl,O⟩;refine⟨_,I,λhb=>?_,λhb=>⟨3-(n+1),J,n+1,TE,J,I,?_,c.cn O⟩⟩
  .rw[K hb]at h;rw[<-h,eS J J];exact⟨I,a.cn (c.cn O)⟩
  rw[W XL]at h;exact h
 have hc:n=3:=M1
 subst hc;rw[<-h];exact⟨I,a.cn c⟩
def aba(f:Xs F ts w b l s):aA ar 157 #[rp b] w λe w'=>e=ao (O U (bR ts s gH:Nat))/\az [] w w':=by
 refine ret (amd ?_);obtain⟨q,g,i,j,a⟩:=jb w gH (n:=4) (parts:=#[(0,ae (T AA)),(1,ae (T qo)),(2,ae (T sQ)),(3,ae (T Fs))]) I I Z Z;rw[lC f.hg aiy];generalize d:vd ts s gH 0=V;refine⟨q,g,i,λv k w'=>∃n:Nat,k=(n:Int)/\n<=4/\v=4-n/\vd ts s (gH.drop n) n=V/\az [] g w',4,⟨0,I,Z,I,d,EC _ _⟩,?_⟩;rintro v _ o ⟨n,rfl,m,rfl,h,c⟩;refine⟨λhc=>?_,λhc=>?_⟩
 .have hc:n<4:=Ro
  obtain⟨ad,x,b,e,p,l⟩:=Cz (Aw cx Z (pT j) c R) (n:=n) hc;rw[l,vd]at h;refine⟨ad,b,_,e,(FV (f.only (a.cn c)) 2 x).mono ?_⟩;rintro _ w ⟨rfl,O⟩;refine⟨_,I,λhb=>?_,λhb=>⟨4-(n+1),J,n+1,TE,J,I,?_,c.cn O⟩⟩
  .rw[K hb]at h;rw[<-h,eS J J];exact⟨I,a.cn (c.cn O)⟩
  rw[W XL]at h;exact h
 have hc:n=4:=M1
 subst hc;rw[<-h];exact⟨I,a.cn c⟩
end
def KJ(t:X Tk)(s:Sx):X (S)->Nat->Nat->Nat
 | [],_,a=>a
 | x::l,o,a=>KJ t s l (o+1) (if rY t s 2 x=aF then o+1 else a)
section
variable {F:aK} {ts:X Tk} {w w':aw} {b:Nat} {l:Sl} {s s':Sx}
def WK:∀{l:X (S)} {o a:Nat},(∀y,y∈l->rY ts s 2 y=aM)->KJ ts s l o a=a
 | [],_,_,_=>rfl
 | x::l,o,a,h=>by
  rw[KJ,h x eW,W Z];exact WK λy b=>h y (dw _ b)
def Qo:∀{l:X (S)} {o:Nat},l.Nodup->KJ ts s l o 0=vd ts s l o
 | [],_,_=>rfl
 | x::l,o,a=>by
  rw[KJ,vd];rw[List.nodup_cons]at a;cases h:rY ts s 2 x
  .rw[W Z,W Z];exact Qo a.2
  rw[K I,K I];refine WK λy c=>?_;have b:s.fc=0/\(tk ts s.i).k=2:=bM λn=>by rw[D5 n]at h;cases h
  rw[HN b]at h⊢;have h:=aO h;exact bC λe=>a.1 (by rw[<-h,e];exact c)
def agw(g:Xs F ts w b l s):aA ar 203 #[rp b] w λe w'=>∃E,e=ao (ai E.toArray)/\pI aF w' (Fr w.heap.size) (kc ts s).1 E/\Dx F ts w w' b l (kc ts s).2:=by
 refine iE (asR ?_);intro i w0 B rL S;have H:=g.zt.al S B rL;obtain⟨ad,g1,g2⟩:=H.r.now;obtain⟨_,_,_,_,G,_⟩:=H.r.blk;refine⟨λ_=>True,trivial,l,Mn G 0 I,trivial,_,Mn G 1 I,ad,g1,trivial,_,g2.dx 3 _ I,λj M ki ik X=>?_⟩;have Q:=H.al X ki ik;clear G;obtain⟨q,w2,Y,hq,N⟩:=jb M [mM,gD,jc] (n:=3) (parts:=#[(0,ae (T mM)),(1,ae (T gD)),(2,ae (T jc))]) I I Z Z;have o:=lC (s:=s) g.hg aa9;generalize h:KJ ts s [mM,gD,jc] 0 0=V;have A:bR ts s [mM,gD,jc]=V:=by rw[o,<-Qo Z,h]
 refine⟨q,w2,Y,Q.sq N R,λP i2 i3 s0 C p D r z v y w'=>∃n f:Nat,i2=(n:Int)/\n<=3/\P=3-n/\i3=(f:Int)/\s0=T []/\C=0/\p=0/\D=T []/\r=0/\z=Sl.nil/\v=0/\y=(tk ts s.i).a/\KJ ts s ([mM,gD,jc].drop n) n f=V/\Zx F ts w w' b l s [j,i]/\aB ju 1 w' (λk=>M.heap.size<=k) q [mM,gD,jc],3,
  ⟨0,0,I,Z,I,I,I,I,I,I,I,I,I,I,h,Q.q N,(pT hq).mono cx λk B=>B.1⟩,?_⟩
 rintro P _ _ _ _ _ _ _ _ _ _ w3 ⟨n,f,rfl,hn,rfl,rfl,rfl,rfl,rfl,rfl,rfl,rfl,rfl,rfl,L,t,m⟩;refine⟨λhc=>?_,λhc=>?_⟩
 .have hc:n<3:=Ro
  obtain⟨O,x,V,c2,c3,c4⟩:=Cz m (n:=n) hc;rw[c4,KJ]at L;refine⟨λi9 s2 a c s3 d l3 e u w'=>i9=((if rY ts s 2 x=aF then n+1 else f:Nat):Int)/\s2=T []/\a=0/\c=0/\s3=T []/\d=0/\l3=Sl.nil/\e=0/\u=(tk ts s.i).a/\Zx F ts w w' b l s [j,i]/\aB ju 1 w' (λk=>M.heap.size<=k) q [mM,gD,jc],?_,O,V,_,c2,(FV t.r 2 x).mono ?_⟩
  .rintro _ _ _ _ _ _ _ _ _ w ⟨rfl,rfl,rfl,rfl,rfl,rfl,rfl,rfl,rfl,k,b⟩;exact⟨3-(n+1),J,n+1,_,TE,J,I,I,I,I,I,I,I,I,I,I,L,k,b⟩
  rintro _ w ⟨rfl,b⟩;have l:=Aw cx Z m b R;refine⟨_,I,t.sq b R,λhb q n=>⟨?_,I,I,I,I,I,I,I,I,(t.q b).f n R,Aw cx Z l n λk B _ hm=>RW⟩,λhb=>⟨?_,I,I,I,I,I,I,I,I,t.q b,l⟩⟩
  .rw[K hb,eS J J];rfl
  rw[W XL]
 have hc:n=3:=M1
 subst hc;have L:f=V:=L;subst L;refine⟨λk=>?_,λk=>?_⟩
 .have k:=Qu k;refine(pq t.r).mono ?_;rintro _ w ⟨rfl,a⟩;refine⟨I,t.sc a R,λc b=>?_⟩;unfold kc;rw[K (by rw[A,k]),k];exact⟨_,I,⟨nI 0 0 [] 0 Sl.nil 0,I,RM _ _ _⟩,((t.nx a).f b R).dn⟩
 have k:=UU k;have V:bR ts s [mM,gD,jc]≠0:=by rw[A];exact k
 have xB:=(cP V).1;obtain⟨n,aC,a,d,qk,q⟩:=t.r.cnt xB;unfold kc;rw[W V,A];have ha:=q.a;have am:=q.a0;refine⟨_,Mn qk 4 I,λh4=>?_,λh4=>?_⟩
 .have h4:a=400:=Me
  have b:s.a=0:=J
  have d:(pH ts s).fc=2:=by unfold pH fe;rw[K b,K xB]
  have u:(pH ts s).fa=(tk ts s.i).a:=by unfold pH fe;rw[K b,K xB]
  have e:fe ts s 2={s with fc:=2,fa:=(tk ts s.i).a}:=by unfold fe;rw[K xB]
  rw[K (by rw[d];decide)];refine(uG t.r (c:=2) Z).mono ?_;rintro _ x ⟨rfl,l⟩;refine⟨I,t.sc l R,λw n=>⟨_,I,⟨nI 0 0 [] 0 Sl.nil 0,I,RM _ _ _⟩,?_⟩⟩;refine(((t.nx l).f n R).dn).same ?_ ?_ ?_ ?_
  .rw[AD,vU]
  .rw[d,e]
  .rw[u,e]
  rw[e];dsimp only;decide
 have h4:¬a=400:=Me
 have Ya:¬s.a=0:=J
 have eu:pH ts s={s with a:=s.a-1}:=by
  unfold pH;rw[W Ya];unfold mZ;rw[eS J J]
 rw[eu,W (by rw[xB];decide)];refine⟨_,Mn qk 4 I,b,4,_,_,I,qk,R,t.ne R,t.ne R,λdz dl qS=>?_⟩;rw[eS J J]at qS;have qS:aG dz b 156 (Sd l (s.i:Int) n aC (a+1) d s.fc s.fa):=qS;refine⟨_,Mn qS 1 I,b,1,_,_,I,qS,R,t.ne R,t.ne R,λeF dV vm=>?_⟩;rw[g.wr]at vm;have aS:Zx F ts w eF b l (bP {s with a:=s.a-1}) [j,i]:=⟨(t.z.c dl).c dV,(t.r.gN (s':={s with a:=s.a-1}) dl qS (λ_ _=>⟨q.n,q.m,Sb,q.d,q.n0,q.m0,Sb,q.d0⟩) g.lt).gN (s':=bP {s with a:=s.a-1}) dV vm (λ_ _=>⟨q.n,q.m,Dj,q.d,q.n0,q.m0,Dj,q.d0⟩) (g.en.next g.lt (cP V).2)⟩
 refine(rD aS.r).mono ?_;rintro _ iz ⟨rfl,F8⟩;have bv:=aS.nx F8;refine⟨_,_,I,aS.sc F8 R,λiU iP=>?_⟩;have c:=bv.f iP R;change Zx F ts w iU b l (dQ ts (bP {s with a:=s.a-1})).2 [j,i]at c;show ∃J3,_;have aT:(cY ts (bP {s with a:=s.a-1}) 1).1.t=(dQ ts (bP {s with a:=s.a-1})).1:=I;rw[aT];generalize (dQ ts (bP {s with a:=s.a-1})).2=u at*
 generalize (dQ ts (bP {s with a:=s.a-1})).1=nm at*
 generalize (tk ts s.i).a=aa at*
 clear A h o V;generalize f=kk at*
 refine⟨λC D p r s2 v z y i9 w'=>∃(x:Ex) (u':Sx),C=(kk:Int)/\D=T nm/\i9=aa/\rE aF w' (Fr iU.heap.size) x [O U p,O U r,ae s2,O U v,z.v,O U y]/\Zx F ts w w' b l u' [j,i]/\xZ ts u kk nm aa=(⟨kk,nm,x,aa⟩,cA ts u' [59])/\iU.heap.size<=w'.heap.size,?_,λmE=>?_,λmE=>?_⟩
 .rintro C D p r s2 v z y i9 w ⟨x,u',rfl,rfl,rfl,e,a,T,s⟩;refine(Qm a.r (x:=[59]) ⟨_,_,I,Z⟩).mono ?_;rintro _ F ⟨rfl,b⟩;refine⟨I,a.sc b R,λra d=>?_⟩;rw[T];have n:=c.z.k i R;have u:=c.z.o.size;have l:=c.r.lb;refine⟨_,I,⟨[O U p,O U r,ae s2,O U v,z.v,O U y],I,?_⟩,((a.nx b).f d R).dn⟩;exact(gp aF).low ((gp aF).stay e (((EK _ _).x b l).f d (.inl n.2))) u
 .have mE:¬kk=2:=λe=>by rw[e]at mE;simp at mE
  refine(Qm c.r (x:=[61]) ⟨_,_,I,Z⟩).mono ?_;rintro _ u ⟨rfl,d⟩;have a:=c.nx d;refine⟨I,c.sc d R,(ahM a.r).mono ?_⟩;rintro _ w ⟨E,rfl,s,F⟩;obtain⟨sl,rfl⟩:=dM s;have n:=a.nx F;refine⟨_,_,_,_,sl,_,I,a.sc F R,λO l=>?_⟩;have b:iU.heap.size<=u.heap.size:=d.o.size;have T:=c.z.k j R;refine⟨_,_,I,I,I,(gp aF).low ((gp aF).stay s ((EK _ _).f l (.inl J))) b,n.f l R,?_,bp b (bp F.o.size l.size)⟩;unfold xZ;rw[W mE]
 have mE:(kk:Int)=2:=Ri
 have mE:kk=2:=J
 refine⟨uZ,u,I,I,I,RM _ _ _,c,?_,aX _⟩;unfold xZ;rw[K mE]
def D7(j:Xs F ts w b l s):aA ar 154 #[rp b] w λe w'=>∃q:Sl,e=ao q.v/\jh aF (pI aF) 9 78 w' (Fr w.heap.size) q (ff ts s).1/\Dx F ts w w' b l (ff ts s).2:=by
 refine iE (asM ?_);refine(Qm j (x:=[123]) ⟨_,_,I,Z⟩).mono ?_;rintro _ O ⟨rfl,o⟩;unfold ff;generalize cA ts s [123]=r at*
 generalize C:j6 ts (Z8 ts+1) [] r=V;have E:=j.lb;have N:=o.o.size;refine⟨I,λg w'=>jh aF (pI aF) 9 78 w' (Fr w.heap.size) g V.1/\Dx F ts w w' b l V.2,λg Q B=>⟨g,I,B⟩,λn d w'=>∃(a:X Ac) (u:Sx),Own (pI aF) 9 78 w.heap.size w' (Fr w.heap.size) d a/\Dx F ts w w' b l u/\j6 ts n a u=V/\mu ts u<n/\Z8 a+mu ts u<=Z8 ts,Z8 ts+1,
  ⟨[],r,Vf _ _ _ _ _ _,o,C,jw (jL _ _),MM⟩,?_⟩
 rintro n d S ⟨a,u,p,h,c,M,H⟩;obtain⟨m,rfl⟩:∃m,n=m+1:=⟨n-1,J⟩
 rw[j6]at c;have L:=h.o.size;have f:∀{w':aw} {a:X Ac} {u:Sx},Own (pI aF) 9 78 w.heap.size w' (Fr w.heap.size) d a->Dx F ts w w' b l u->(a,u)=V->jh aF (pI aF) 9 78 w' (Fr w.heap.size) d V.1/\Dx F ts w w' b l V.2:=λz A e=>by
  rw[<-e];exact⟨z.sl (cN aF) λk b=>b,A⟩
 obtain⟨_,_,_,_,Y,_⟩:=h.r.blk;refine⟨_,Mn Y 6 I,λhc=>?_,λhc=>?_⟩
 .have hc:u.fc=0:=R0
  rw[W (by simp[hc])]at c;refine(Rj h.r (x:=[125]) ⟨_,_,I,Z⟩).mono ?_;rintro _ U ⟨rfl,s⟩;have T:=p.stay (cN aF) s.o λx hx=>.inl IG;refine⟨_,I,λhw=>?_,λhw=>?_⟩
  .have hw:=aO hw;rw[K hw]at c;rw[W hw]at s;exact f T (h.nx s) c
  have hw:bR ts u [[125]]=0:=Mg
  rw[W (by simp[hw])]at c;rw[K hw]at s;have aC:=h.nx s;have bv:=aC.o.size;have Lm:=aec h.r.en hc h.r.lt;have Ez:=jL ts u;have vB:=h.r.sm;refine(agw aC.r).mono ?_;rintro _ w4 ⟨cs,rfl,hx,h4⟩;generalize (kc ts u).1=V at*
  generalize (kc ts u).2=u' at*
  have yx:=hx;obtain⟨xc,rfl,LI⟩:=yx;obtain⟨sl,rfl⟩:=dM LI;have aS:=T.stay (cN aF) h4.o λx hx=>.inl IG;refine⟨_,_,_,_,_,_,sl,_,_,I,λk2 w5 mE nT dP=>?_⟩;have bV:=h4.o.size;have aT:=aS.stay (cN aF) dP λx hx=>Rg
  have LX:=dP.size;obtain⟨y,w6,e2,dN,A9,w7,e3,mU,⟨gs,ga,qT⟩,_⟩:=jy (P:=ar) (t:=24) (ty:=24) (e:=78) (i:=Tryz.t78) (bytes:=104) (size:=9) (v:=ai (Wj V.k V.n (nI V.x.k V.x.n V.x.s V.x.op sl V.x.a) V.a).toArray) (x:=V) (G:=λk=>U.heap.size<=k/\k<w4.heap.size) D D I I I I Z Z Z (cN aF) aT J I ((cN aF).keep ((cN aF).mono ((cN aF).inHeap hx) λk hk=>⟨hk.1,hk.2⟩) λk hk bT=>dP.block k bT R) (λk hk _=>⟨by show w.heap.size<=k;omega,T.new hk.1⟩) J;have kB:∀am,am∈gs->w.heap.size<=am:=λam hg=>(qT am hg).2.1;have bY:=dN.size;have h5:Dx F ts w w5 b l u':=(aC.nx h4).q dP;have Zg:∀am,am∈gs->am≠k2:=λam hg e=>by
   subst e;exact aS.new mE (qT am hg).1
  refine⟨y,w6,e2,dN.same (λx hx=>⟨IG,R⟩),A9,w7,e3,ga.same (λx hx=>⟨IG,λhm=>?_⟩),m,oW _,a++[V],u',?_,?_,c,J,RC⟩
  .simp only[aV]at hx;subst hx;exact Zg _ hm I
  .refine mU.mono (cN aF) λk hk=>?_;rcases hk with hk | hk
   .exact hk
   show w.heap.size<=k;omega
  exact⟨((h5.o.cn dN).trans ga λx hx=>.inr (kB x hx)),(h5.r.only dN).own ga λx hx=>Ji⟩
 have hc:u.fc≠0:=R0
 rw[K hc]at c;exact f p h c
end
section
variable {F:aK} {ts:X Tk} {w w':aw} {b:Nat} {l:Sl} {s s':Sx}
def abb(j:Xs F ts w b l s){k:Int}(q:s.fc=0)(h:(tk ts s.i).k≠5):aA ar 156 #[rp b,O U k] w λe w'=>∃z,e=ao (ai z.toArray)/\JE aF w' (Fr w.heap.size) (jK ts k s).1 z/\Dx F ts w w' b l (jK ts k s).2:=by
 refine iE (amc ?_);intro o w0 Q L C;have A:=j.zt.al C Q L;obtain⟨ad,E,H⟩:=A.r.now;obtain⟨n,m,a,d,u,f⟩:=A.r.cnt q;refine⟨λ_=>True,trivial,l,Mn u 0 I,trivial,_,Mn u 1 I,ad,E,trivial,_,H.dx 3 _ I,λp w1 N M B=>?_⟩;have g:=A.al B N M;have r:=B.blk u R;have Y:=f.m;have V:=f.m0;unfold jK;refine⟨_,Mn r 3 I,λh4=>?_,λh4=>?_⟩
 .have h4:m=200:=Me
  have a:s.m=0:=J
  have b:(oC ts s).fc=2:=by unfold oC fe;rw[K a,K q]
  have k:(oC ts s).fa=(tk ts s.i).a:=by unfold oC fe;rw[K a,K q]
  have e:fe ts s 2={s with fc:=2,fa:=(tk ts s.i).a}:=by unfold fe;rw[K q]
  rw[K (by rw[b];decide)];refine(uG g.r (c:=2) Z).mono ?_;rintro _ w ⟨rfl,d⟩;refine⟨I,g.sc d R,λl i=>⟨_,I,⟨nI 0 0 [] 0 Sl.nil 0,Sl.nil,Sl.nil,I,RM _ _ _,TG _ _ _ _ _ _,TG _ _ _ _ _ _⟩,?_⟩⟩;refine(((g.nx d).f i R).dn).same ?_ ?_ ?_ ?_
  .rw[AE,vU]
  .rw[b,e]
  .rw[k,e]
  rw[e];dsimp only;decide
 have h4:¬m=200:=Me
 have Ya:¬s.m=0:=J
 have eu:oC ts s={s with m:=s.m-1}:=by
  unfold oC;rw[W Ya];unfold mZ;rw[eS J J]
 rw[eu,W (by rw[q];decide)];refine⟨_,Mn r 3 I,b,3,_,_,I,r,R,g.ne R,g.ne R,λw4 dD pz=>?_⟩;rw[eS J J]at pz;have pz:aG w4 b 156 (Sd l (s.i:Int) n (m+1) a d s.fc s.fa):=pz;refine⟨_,Mn pz 1 I,b,1,_,_,I,pz,R,g.ne R,g.ne R,λw5 dP vi=>?_⟩;rw[j.wr]at vi;have t5:Zx F ts w w5 b l (bP {s with m:=s.m-1}) [p,o]:=⟨(g.z.c dD).c dP,(g.r.gN (s':={s with m:=s.m-1}) dD pz (λ_ _=>⟨f.n,Sb,f.a,f.d,f.n0,Sb,f.a0,f.d0⟩) j.lt).gN (s':=bP {s with m:=s.m-1}) dP vi (λ_ _=>⟨f.n,Dj,f.a,f.d,f.n0,Dj,f.a0,f.d0⟩) (j.en.next j.lt h)⟩
 have hA:=t5.z.o.size;have bv:=(t5.z.k o R).2;have XV:=(t5.z.k p R).2;have LY:=t5.r.lb;generalize aS:w5.heap.size=aC at*
 generalize (tk ts s.i).a=aa at*
 generalize bP {s with m:=s.m-1}=u0 at*
 generalize c:(if k=1 then gF ts {JA k aa with ev:=(dQ ts u0).1} (dQ ts u0).2 else if k=3 then gF ts {JA k aa with wt:=(cY ts u0 3).1.n} (cY ts u0 3).2 else gF ts (JA k aa) u0)=aT;have x0:∀{w':aw} {ev:S},MvX aC w' {JA k aa with ev:=ev} k (T ev) 0 aM (nI 0 0 [] 0 Sl.nil 0) Sl.nil aa:=⟨I,I,I,I,I,RM _ _ _,TG _ _ _ _ _ _⟩
 refine⟨λi3 s0 i4 b1 i5 i6 s1 i7 l1 i8 l2 l3 i9 w'=>∃(m:Mv) (am:Sx),MvX aC w' m i3 s0 i4 b1 [O U i5,O U i6,ae s1,O U i7,l1.v,O U i8] l2 i9/\m.gd=aM/\m.tg=[]/\l3=Sl.nil/\Zx F ts w w' b l am [p,o]/\(if k=3 then gF ts {m with wt:=(cY ts am 3).1.n} (cY ts am 3).2 else gF ts m am)=aT/\aC<=w'.heap.size,?_,λhc=>?_,λhc=>?_⟩;rotate_left
 .have hc:k=1:=R0
  refine(rD t5.r).mono ?_;rintro _ w ⟨rfl,a⟩;have t:=t5.nx a;refine⟨_,_,I,t5.sc a R,λd b=>?_⟩;rw[K hc]at c;refine⟨_,_,x0,I,I,I,t.f b R,?_,by rw[<-aS];exact bp a.o.size b.size⟩;rw[W J];exact c
 .have hc:¬k=1:=R0
  rw[W hc]at c;refine⟨_,_,x0,I,I,I,t5,c,ri aS.symm⟩
 clear c x0 vi pz r u;rintro i3 s0 i4 b1 i5 i6 s1 i7 l1 i8 l2 l3 i9 w6 ⟨m,am,hx,d,a,rfl,n,c,z6⟩;refine⟨λi3 s0 i4 b1 i5 i6 s1 i7 l1 i8 l2 l3 i9 w'=>∃(m:Mv) (am:Sx),MvX aC w' m i3 s0 i4 b1 [O U i5,O U i6,ae s1,O U i7,l1.v,O U i8] l2 i9/\m.gd=aM/\m.tg=[]/\l3=Sl.nil/\Zx F ts w w' b l am [p,o]/\gF ts m am=aT/\aC<=w'.heap.size,?_,λhc=>?_,λhc=>?_⟩;rotate_left
 .have hc:k=3:=R0
  rw[K hc]at c;refine(WI n.r).mono ?_;rintro _ l ⟨rfl,b⟩;have t:=n.nx b;refine⟨_,I,n.sc b R,λx i=>?_⟩;have s:=((EK aC w6).x b LY).f i (.inl XV);have e:=hx.stay s;exact⟨{m with wt:=(cY ts am 3).1.n},_,⟨e.e1,e.e2,I,e.e4,e.e5,e.g,e.x⟩,d,a,I,t.f i R,c,bp z6 s.sz⟩
 .have hc:¬k=3:=R0
  rw[W hc]at c;exact⟨m,am,hx,d,a,I,n,c,z6⟩
 clear hx d a n c z6;rintro i3 s0 i4 b1 i5 i6 s1 i7 l1 i8 l2 l3 i9 w7 ⟨m,am,hx,d,a,rfl,t7,c,z7⟩;unfold gF at c;refine(Rj t7.r (x:=[91]) ⟨_,_,I,Z⟩).mono ?_;rintro _ w8 ⟨rfl,h8⟩;have t8:=t7.nx h8;refine⟨_,I,t7.sc h8 R,λw9 fm=>?_⟩;have t9:=t8.f fm R;have s9:=((EK aC w7).x h8 LY).f fm (.inl XV);refine⟨λi3 s0 i4 b1 i5 i6 s1 i7 l1 i8 l2 l3 i9 w'=>∃(m:Mv) (am:Sx),MvX aC w' m i3 s0 i4 b1 [O U i5,O U i6,ae s1,O U i7,l1.v,O U i8] l2 i9/\m.tg=[]/\l3=Sl.nil/\Zx F ts w w' b l am [p,o]/\qC ts m am=aT/\aC<=w'.heap.size,?_,λhc=>?_,λhc=>?_⟩;rotate_left
 .have v:=aO hc;rw[W v]at c t9;have G:=s9.sz;refine(ahM t9.r).mono ?_;rintro _ F ⟨z,rfl,s,e⟩;obtain⟨sl,rfl⟩:=dM s;have i:=t9.nx e;refine⟨_,_,_,_,sl,_,I,t9.sc e R,λw l=>?_⟩;have t:=i.f l R;refine(Qm t.r (x:=[93]) ⟨_,_,I,Z⟩).mono ?_;rintro _ y ⟨rfl,b⟩;have k:=t.nx b;have T:=((s9.x e LY).f l (.inl XV)).x b LY;refine⟨I,t.sc b R,{m with gd:=aF,g:=(iI ts (bP am)).1},_,⟨hx.e1,hx.e2,hx.e3,hc,hx.e5,?_,hx.x.stay (cN aF) Z T⟩,a,I,k,c,bp z7 T.sz⟩;exact(gp aF).low ((gp aF).stay s (((EK _ _).f l (.inl J)).x b J)) J
 .have b:bR ts am [[91]]=0:=R0
  rw[K b]at c t9;have x:=hx.stay s9;exact⟨m,am,⟨x.e1,x.e2,x.e3,by rw[hc,d],x.e5,x.g,x.x⟩,a,I,t9,c,bp z7 s9.sz⟩
 clear hx d a t7 c z7 t8 t9 s9;rintro i3 s0 i4 b1 i5 i6 s1 i7 l1 i8 l2 l3 i9 dk ⟨m,am,hx,a,rfl,cc,c,EW⟩;unfold qC at c;refine(yi4 cc.r (x:=[123]) ⟨_,_,I,Z⟩).mono ?_;rintro _ dz ⟨rfl,dl⟩;have bY:=cc.q dl;have xQ:Stay aC dk dz:=(EK aC dk).q dl;have CA:=xQ.sz;refine⟨_,I,cc.sq dl R,λi3 s0 i4 b1 i5 i6 s1 i7 l1 i8 l2 l3 i9 w'=>∃(m:Mv) (am:Sx),MvX aC w' m i3 s0 i4 b1 [O U i5,O U i6,ae s1,O U i7,l1.v,O U i8] l2 i9/\l3=Sl.nil/\Zx F ts w w' b l am [p,o]/\ru ts m am=aT/\aC<=w'.heap.size,?_,λhc=>?_,λhc=>?_⟩;rotate_left
 .rw[W (aO hc)]at c;refine(D7 bY.r).mono ?_;rintro _ s ⟨l,rfl,k,b⟩;have t:=bY.nx b;refine⟨l,I,bY.sc b R,λw e=>?_⟩;have i:=(xQ.x b LY).f e (.inl XV);refine⟨{m with acts:=(ff ts am).1},_,⟨hx.e1,hx.e2,hx.e3,hx.e4,hx.e5,(gp aF).stay hx.g i,?_⟩,I,t.f e R,c,bp EW i.sz⟩;exact(k.stay (cN aF) Z ((EK _ _).f e (.inl J))).low (cN aF) J
 .have b:bR ts am [[123]]=0:=R0
  rw[K b]at c;exact⟨m,am,hx.stay xQ,I,bY,c,bp EW CA⟩
 clear hx a cc c EW bY xQ CA;rintro ip s4 iD b3 iF iN s5 iS l7 lE l8 l9 lT eF ⟨m,am,hx,rfl,cC,c,mt⟩;unfold ru at c;refine(Rj cC.r (x:=[45,62]) ⟨_,_,I,Z⟩).mono ?_;rintro _ eM ⟨rfl,tG⟩;have ge:=cC.nx tG;have g9:=cC.r.lt;have F4:=(EK aC eF).x tG LY;have gT:b<eM.heap.size:=ge.r.lb;have Tu:=F4.sz;refine⟨_,I,cC.sc tG R,λnv bo gE s7 gG b4 dO el s8 eQ f5 fd pr pL gO w'=>∃(x:S) (co:X (S)) (u':Sx),bo=VM (bR ts u' [x]≠0)/\MvX aC eF m gE s7 gG b4 [O U dO,O U el,ae s8,O U eQ,f5.v,O U fd] pr gO/\Stay aC eF w'/\Own ju 1 9 eM.heap.size w' (Fr eM.heap.size) pL co/\Zx F ts w w' b l (if bR ts u' [x]=0 then u' else bP u') [p,o]/\kq ts nv x co u'=kq ts (Z8 ts+1) [45,62] [] am/\mu ts u'<nv/\Z8 co+mu ts u'<=Z8 ts/\u'.i<Z8 ts/\eM.heap.size<=w'.heap.size,Z8 ts+1,⟨[45,62],[],am,I,hx,F4,Vf _ _ _ _ _ _,ge,I,jw (jL _ _),MM,g9,aX _⟩,?_⟩;clear hx;rintro nv bo gE s7 gG b4 dO el s8 eQ f5 fd pr pL gO fR ⟨x,co,u',rfl,hx,hS,mU,ce,hT,W3,Aa,g8,zw⟩;obtain⟨m',rfl⟩:∃m',nv=m'+1:=⟨nv-1,J⟩
 rw[kq]at hT;refine⟨λhc=>?_,λhc=>?_⟩
 .have hc:=aO hc;rw[W hc]at hT ce;refine(rD ce.r).mono ?_;rintro _ gV ⟨rfl,w⟩;have b:=ce.nx w;have vB:=j.sm;have Ez:=jL ts u';have F:=pb j.en (cP hc).1 g8 (cP hc).2 (nJ j.en (s:=bP u')).toOn0;have oF:=w.o.size;obtain⟨y,iO,e2,ic,A9,iz,e3,XY,⟨gs,O,qT⟩,_⟩:=jy (P:=ar) (t:=37) (ty:=37) (e:=9) (i:=Tryz.t9) (bytes:=16) (size:=1) (v:=ae (T (cY ts (bP u') 1).1.t)) (x:=(cY ts (bP u') 1).1.t) (G:=λ_=>False) D D I I I I Z Z Z cx (mU.stay cx w.o λx hx=>.inl IG) (bp zw oF) I I (λk h _=>h.elim) J;have kB:∀bV,bV∈gs->eM.heap.size<=bV:=λbV hg=>(qT bV hg).2.1;have mK:=ge.z.o.size;have l:=b.q ic;have nO:=l.row O λx hx=>bp mK (kB x hx);refine⟨_,_,I,ce.sc w R,y,iO,e2,b.sq ic R,A9,iz,e3,l.sr O R (λx hx y hy=>?_),λiU iP=>?_⟩
  .have:=kB x hx;simp only[aZ,bB,cE]at hy;omega
  have t:=nO.f iP R;have v:=(((hS.x w LY).q ic).go O λx hx=>.inr Ji).f iP (.inl XV);have y:=ic.size;have G:=O.size;have P:=iP.size;have i:Own ju 1 9 eM.heap.size iU (Fr eM.heap.size) A9 (co++[(cY ts (bP u') 1).1.t]):=((XY.mono cx λk h=>(by
   rcases h with h | h
   .exact h
   show eM.heap.size<=k;omega)).stay cx iP λx hx=>.inl IG)
  have s:=t.r.lt;refine(Rj t.r (x:=[44]) ⟨_,_,I,Z⟩).mono ?_;rintro _ T ⟨rfl,e⟩;exact⟨_,I,t.sc e R,m',J,[44],_,_,I,hx,v.x e LY,i.stay cx e.o λx hx=>.inl IG,t.nx e,hT,by unfold dQ at F;dsimp only at F;omega,by rw[aP,bf];unfold dQ at F;dsimp only at F;omega,s,bp J e.o.size⟩
 have hc:bR ts u' [x]=0:=R0
 rw[K hc]at hT ce;refine(Qm ce.r (x:=[59]) ⟨_,_,I,Z⟩).mono ?_;rintro _ l ⟨rfl,w⟩;have t:=ce.nx w;refine⟨I,ce.sc w R,λe i=>?_⟩;rw[<-hT]at c;rw[<-c];have b:Stay aC eF e:=(hS.x w LY).f i (.inl bv);refine⟨T4 m.k m.ev m.wt m.gd [O U dO,O U el,ae s8,O U eQ,f5.v,O U fd] pr pL m.a,by rw[hx.e1,hx.e2,hx.e3,hx.e4,hx.e5];rfl,⟨_,_,_,I,(gp aF).low ((gp aF).stay hx.g b) hA,(hx.x.stay (cN aF) Z b).low (cN aF) hA,?_⟩,(t.f i R).dn⟩;exact((mU.sl cx λk h=>h).stay cx Z (((EK _ _).x w gT).f i (.inl J))).low cx J
end
end Go.Proofs.YtccbiehilmhodaaGreatDoor.Con
