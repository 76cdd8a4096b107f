import Derived.Test.YtccbiehilmhodaaGreatDoorQl5
set_option linter.defProp false
set_option linter.unusedSectionVars false
set_option linter.unusedSimpArgs false
set_option linter.unusedVariables false
set_option maxHeartbeats 4000000
set_option maxRecDepth 100000
open Bool renaming true->aF,false->aM
open Option renaming some->Hg,none->ZQ
open List renaming length->Z8
open Decidable renaming decide->VM
open Go.Value renaming int->O,string->ae,pointer->ah,agg->ai,tuple->aj,bool->ak
open Go.IntKind renaming i64->U,wrap->au
open Go.Ending renaming returned->ao
open _root_.ByteArray renaming mk->aq
open _root_.Go.Proofs.Tryz renaming prog->ar
open Go.Instr renaming buildSlice->av
open Go renaming World->aw,Value->ay,Calls->aA
open Go.Kt renaming Only->az,SliceF->aB,Cells->aD,OnlyP->aE,Blk->aG
open Go renaming World->aw,Value->ay
namespace Go.Proofs.YtccbiehilmhodaaGreatDoor.Con
open Go Go.RowKit Go.Kt Go.Kt.V Go.Proofs.YtccbiehilmhodaaGreatDoor.Vc
def Ff(s:X Tk):Prop:=∀t,t∈s->Z8 t.t<=24/\rX t.n
def af1{m:S}{q:Tq}(h:lZ m=.ok q):Z8 q.2.1<=24:=by
 cases m with
 | nil=>cases h
 | cons c r=>
  simp only[lZ]at h;split at h
  .unfold nH at h;split at h
   .cases h
   injection h with h;subst h;dsimp only;omega
  split at h
  .unfold sJ at h;split at h
   .cases h
   split at h
   .cases h
   injection h with h;subst h;exact bh _
  unfold oc at h;split at h
  .cases h
  injection h with h;subst h;have:jD (c::r)<=2:=by
   unfold jD;split
   .decide
   dsimp only;split<;>decide
  dsimp only;rw[cf];omega
def PK{l:S}:∀(n i:Nat),i<=(Z8 l)->(Z8 l)-i<=n->∀r,j8 l i=.ok r->∀t,t∈r->Z8 t.t<=24
 | n,i,c,b,r,h,t,a=>by
  rw[jT c]at h;split at h
  .injection h with h;subst h;rcases aV.1 a with rfl;exact bh _
  split at h
  .cases h
  rename_i q d;have f:=uo d;have e:=Ay d;rw[bZ]at e;split at h
  .cases h
  rename_i j g;injection h with h;subst h
  match n,b with
  | 0,b=>omega
  | n+1,b=>
   rcases aZ.1 a with rfl | a
   .exact af1 d
   exact PK n _ J J _ g t a
def af2{l:S}(a:(cQ l).2.1=0):Ff (cQ l).1:=λt h=>by
 have g:=(mP a).2.1 t h;refine⟨?_,by have:=g.2.2;unfold rX;omega⟩;unfold cQ at a h;split at h
 .cases h
 rename_i b;rw[W b]at a;cases r:j8 l 0 with
 | error x=>rw[r]at h;cases h
 | ok c=>rw[r]at h;exact PK (Z8 l) 0 (bh _) J c r t h
def DM{k n:Int}{s:S}{op:Int}{l:X Ex}{a:Int}(b:rX n)(h:∀y,y∈l->MU y):MU (.mk k n s op l a):=λd=>by
 cases d with
 | zero=>trivial
 | succ d=>exact⟨b,λy a=>h y a d⟩
def zI:rX 0:=⟨Z,Z⟩
section
variable {ts:X Tk} (hB:Ff ts)
def af3{i:Nat}(h:(tk ts i).k≠5):i<Z8 ts:=by
 refine bM λc=>h ?_;unfold tk;rw[cR J];rfl
include hB
theorem Fh(i:Nat):(tk ts i).t.length<=24/\rX (tk ts i).n:=by
 by_cases h:i<Z8 ts
 .have e:=za h;exact hB _ (bA e)
 unfold tk;rw[cR J];exact⟨bh _,Z,Z⟩
def Xz(i:Nat)(x:Ex)(j:Nat):Prop:=MU x/\Bh x+28*i<=28*j
theorem amB{E O:Nat->Pr}{d i:Nat}{x:Ex}{j:Nat}(a:∀i x j,E i=.ok (x,j)->Xz i x j)(b:∀i x j,O i=.ok (x,j)->Xz i x j)(h:rP ts E O d i=.ok (x,j)):Xz i x j:=by
 have c:=Fh hB i;unfold rP at h;split at h
 .obtain⟨y,d,rfl⟩:=B1 h;obtain⟨e,g⟩:=b _ _ _ (qy d).1;refine⟨DM zI λz f=>by rcases aV.1 f with rfl;exact e,?_⟩;rw[Bh,Il,Il];simp only[bE];omega
 split at h
 .obtain⟨g,d,_,rfl⟩:=Ca (qy h).1;obtain⟨e,f⟩:=a _ _ _ d;exact⟨e,J⟩
 split at h
 .simp only[kH,nq]at h;obtain⟨rfl,rfl⟩:=h;refine⟨DM c.2 R,?_⟩;rw[Bh,Il];simp only[bE];omega
 split at h
 .simp only[kH,nq]at h;obtain⟨rfl,rfl⟩:=h;refine⟨DM zI R,?_⟩;rw[Bh,Il];omega
 split at h
 .obtain⟨rfl,rfl⟩:=MO h;have A:=Fh hB (i+2);refine⟨DM zI R,?_⟩;rw[Bh,Il];omega
 cases h
theorem VJ{E:Nat->Pr}{k:Int}(h:∀i x j,E i=.ok (x,j)->Xz i x j):∀(g:Nat) (i:Nat) (x:Ex) (j:Nat) {b:Ex} {a:Nat},Xz i x j->iR ts E k g x j=.ok (b,a)->Xz i b a
 | 0,i,x,j,b,a,d,c=>by
  simp only[iR,kH,nq]at c;obtain⟨rfl,rfl⟩:=c;exact d
 | g+1,i,x,j,b,a,d,c=>by
  rw[iR]at c;split at c
  .simp only[kH,nq]at c;obtain⟨rfl,rfl⟩:=c;exact d
  obtain⟨y,n,f,k⟩:=uq c;obtain⟨l,m⟩:=h _ _ _ f;refine VJ h g i _ _ ⟨DM zI λz e=>?_,?_⟩ k
  .simp only[aZ,bB,cE]at e;rcases e with rfl | rfl
   .exact d.1
   exact l
  rw[Bh,Il,Il,Il];have:=d.2;simp only[bE];omega
theorem DN:∀(f k d i:Nat) {x:Ex} {j:Nat},dy ts f k d i=.ok (x,j)->Xz i x j
 | 0,_,_,_,_,_,h=>Rl
 | f+1,k,d,i,x,j,h=>by
  rw[dy]at h;split at h
  .exact amB hB (λi x j h=>DN f _ _ i h) (λi x j h=>DN f _ _ i h) h
  obtain⟨y,m,a,b⟩:=uq h;exact VJ hB (λi x j h=>DN f _ _ i h) _ _ _ _ (DN f _ _ _ a) b
end
def er(s:Sx):Nat:=if s.fc=0 then 0 else 1
def Y0{s:Sx}(h:s.fc=0):er s=0:=K h
def Ws{s:Sx}(h:s.fc≠0):er s=1:=W h
def Nt{t:X Tk}{s:Sx}(h:s.fc≠0):mu t s=0:=W h
def Mp:MU uZ:=λd=>by
 cases d with
 | zero=>trivial
 | succ d=>exact⟨zI,λy h=>by cases h⟩
def Jb:Bh uZ=1:=rfl
section
variable {ts:X Tk} (hB:Ff ts) (hE:pG ts)
def Ka{s:Sx}(h:s.fc=0)(k:(tk ts s.i).k≠5):mu ts (bP s)+1=mu ts s:=by
 have:=af3 k;unfold mu bP;rw[K h,K h];dsimp only;omega
def mh{s a:Sx}(h:On0 ts s a):er s<=er a:=by
 by_cases e:a.fc=0
 .rw[Y0 (h.le e).1];exact bh _
 rw[Ws e];unfold er;split<;>decide
def mQ(s:Sx)(x:S):28+28*mu ts (cA ts s x)<=28*mu ts s+28*er (cA ts s x):=by
 unfold cA;by_cases h:bR ts s [x]=0
 .rw[K h,Ws gx,Nt gx];omega
 rw[W h];have:=Ka (cP h).1 (cP h).2;omega
def qf{s:Sx}{l:X (S)}(h:bR ts s l≠0):mu ts (bP s)+1=mu ts s:=Ka (cP h).1 (cP h).2
include hB in
theorem DP (s:Sx) {k:Int} (hk:k≠5):(cY ts s k).1.t.length+4+28*mu ts (cY ts s k).2<=28*mu ts s+4*er (cY ts s k).2/\rX (cY ts s k).1.n:=by
 unfold cY;by_cases h:s.fc≠0∨(tk ts s.i).k≠k
 .rw[K h,Ws gx,Nt gx];exact⟨by show 0+4+28*0<=_;omega,zI⟩
 rw[W h];have h1:s.fc=0:=by by_cases e:s.fc=0;exact e;exact absurd (.inl e) h
 have h2:(tk ts s.i).k≠5:=λe=>h (.inr (by rw[e];exact Ne.symm hk));have h3:=Ka h1 h2;have h4:=Fh hB s.i;refine⟨?_,h4.2⟩;dsimp only;omega
include hB in
theorem DQ (s:Sx):(dQ ts s).1.length+4+28*mu ts (dQ ts s).2<=28*mu ts s+4*er (dQ ts s).2:=(DP hB s Z).1
include hB hE
theorem PL(s:Sx):Bh (iI ts s).1+28*mu ts (iI ts s).2<=28*mu ts s+er (iI ts s).2/\MU (iI ts s).1:=by
 unfold iI;by_cases h0:s.fc≠0
 .rw[K h0];dsimp only;rw[Ws h0,Jb];exact⟨J,Mp⟩
 rw[W h0];have h0:s.fc=0:=Z4
 by_cases h1:(cq ts s.i).2.2.1≠0
 .rw[K h1];have e:(cq ts s.i).1=uZ:=by
   unfold cq at h1⊢;split
   .rename_i h;rw[K h]at h1;cases p:oB ts (s.i:Int).toNat with
    | error e=>rfl
    | ok q=>rw[p]at h1;exact absurd I h1
   rfl
  rw[e,Jb,Ws (by exact h1),Nt (by exact h1)];exact⟨J,Mp⟩
 rw[W h1];obtain⟨j,a,l,c⟩:=Fu hE (i:=s.i) Wl;have h:Xz s.i (cq ts s.i).1 j:=by
  have h1:(cq ts s.i).2.2.1=0:=Wl
  unfold cq at h1 a⊢;split at h1
  .rename_i d;rw[K d]at a⊢;rw[aW]at h1 a⊢;unfold oB at h1 a⊢;cases p:dy ts (gM 0 0) 0 0 s.i with
   | error e=>
    rw[p]at h1;exact absurd h1 (mY _ _ _ _ p)
   | ok q=>
    obtain⟨x,e⟩:=q;rw[p]at a;have a:(e:Int)=j:=a;have:=DN hB _ _ _ _ p;have f:e=j:=J
    rw[f]at this;exact this
  cases h1
 refine⟨?_,h.1⟩;have b:=h.2;rw[a,aW];unfold mu;rw[K h0,K (by exact h0)];dsimp only;omega
omit hB hE in
theorem PM {s u:Sx} (h:On ts s u):28*mu ts u<=28*mu ts s:=vu _ h.mu
theorem af6(s:Sx)(k:Nat)(n:S)(a:Int):ER (xZ ts s k n a).1+2+28*mu ts (xZ ts s k n a).2<=Z8 n+28*mu ts s+80*er (xZ ts s k n a).2/\BK (xZ ts s k n a).1:=by
 unfold xZ ER BK;split
 .have:=mQ (ts:=ts) s [59];refine⟨?_,Mp⟩;dsimp only;rw[Jb];omega
 have b:=mQ (ts:=ts) s [61];have h:=PL hB hE (cA ts s [61]);have c:=mQ (ts:=ts) (iI ts (cA ts s [61])).2 [59];have e:=mh (G5 hE (cA ts s [61])).toOn0;have a:=mh (dX hE (s:=(iI ts (cA ts s [61])).2) [59]).toOn0;refine⟨?_,h.2⟩;dsimp only;omega
theorem amC(s:Sx):ER (kc ts s).1+28*mu ts (kc ts s).2<=28*mu ts s+100*er (kc ts s).2/\BK (kc ts s).1:=by
 unfold kc;split
 .rw[Ws gx,Nt gx];exact⟨PH,Mp⟩
 rename_i h;split
 .rename_i h0;rw[Ws h0,Nt h0];exact⟨PH,Mp⟩
 rename_i h0;have h0:(pH ts s).fc=0:=Z4
 have i:=AD (ts:=ts) s;have b:=Ka h0 (by rw[i];exact(cP h).2);have c:=PM (Ce (ts:=ts) s);have d:=DQ hB (bP (pH ts s));have a:=af6 hB hE (dQ ts (bP (pH ts s))).2 (bR ts s [mM,gD,jc]) (dQ ts (bP (pH ts s))).1 (tk ts s.i).a;have e:=mh (G7 hE (dQ ts (bP (pH ts s))).2 (bR ts s [mM,gD,jc]) (dQ ts (bP (pH ts s))).1 (tk ts s.i).a).toOn0;refine⟨?_,a.2⟩;have a:=a.1;omega
omit hB hE in
theorem Kb (a:Ac):jd [a]=ER a:=by rw[jd,jd];omega
theorem VK:∀(f:Nat) (c:X Ac) (s:Sx),(∀a,a∈c->BK a)->jd (j6 ts f c s).1+28*mu ts (j6 ts f c s).2<=jd c+28*mu ts s+100*er (j6 ts f c s).2/\∀a,a∈(j6 ts f c s).1->BK a
 | 0,c,s,h=>⟨by rw[j6];dsimp only;omega,h⟩
 | f+1,c,s,h=>by
  rw[j6];split
  .exact⟨Sb,h⟩
  split
  .rename_i a;have:=qf a;exact⟨Sb,h⟩
  have d:=amC hB hE s;have N:∀a,a∈c++[(kc ts s).1]->BK a:=λa b=>by
   rcases dc.1 b with b | b
   .exact h a b
   rcases aV.1 b with rfl;exact d.2
  by_cases g:(kc ts s).2.fc=0
  .have a:=VK f (c++[(kc ts s).1]) (kc ts s).2 N;have e:=d.1;rw[Y0 g]at e;rw[wh,Kb]at a;exact⟨by have:=a.1;omega,a.2⟩
  have e:j6 ts f (c++[(kc ts s).1]) (kc ts s).2=(c++[(kc ts s).1],(kc ts s).2):=by
   cases f with
   | zero=>rfl
   | succ f=>rw[j6,K g]
  rw[e];refine⟨?_,N⟩;have a:=d.1;dsimp only;rw[wh,Kb];omega
theorem Hv(s:Sx):jd (ff ts s).1+28*mu ts (ff ts s).2<=28*mu ts s+128*er (ff ts s).2/\∀a,a∈(ff ts s).1->BK a:=by
 unfold ff;have c:=mQ (ts:=ts) s [123];have b:=VK hB hE (Z8 ts+1) [] (cA ts s [123]) λa h=>Rl
 have e:=mh (G8 hE (Z8 ts+1) [] (cA ts s [123])).toOn0;exact⟨by have:=b.1;rw[jd]at this;omega,b.2⟩
omit hE in
theorem ofV:∀(f:Nat) (x:S) (acc:List (S)) (s:Sx),Et (kq ts f x acc s).1+28*mu ts (kq ts f x acc s).2<=Et acc+28*mu ts s+28*er (kq ts f x acc s).2
 | 0,_,_,s=>by rw[kq];dsimp only;omega
 | f+1,x,acc,s=>by
  rw[kq];split
  .dsimp only;omega
  rename_i h;have h1:=qf h;have h2:=DQ hB (bP s);have h3:Et (acc++[(dQ ts (bP s)).1])=Et acc+((dQ ts (bP s)).1.length+1):=by unfold Et;rw[cX,vp];simp
  by_cases h0:(dQ ts (bP s)).2.fc=0
  .have h4:=ofV f [44] (acc++[(dQ ts (bP s)).1]) (dQ ts (bP s)).2;rw[Y0 h0]at h2;omega
  have e:kq ts f [44] (acc++[(dQ ts (bP s)).1]) (dQ ts (bP s)).2=(acc++[(dQ ts (bP s)).1],(dQ ts (bP s)).2):=by
   cases f with
   | zero=>rfl
   | succ f=>rw[kq,K (by unfold bR;rw[K (.inl h0)])]
  rw[e];dsimp only;omega
theorem PN(m:Mv)(s:Sx)(h:F9 m):BL (ru ts m s).1+28*mu ts (ru ts m s).2<=(jd m.acts+Bh m.g)+(Z8 m.ev+1)+28*mu ts s+60*er (ru ts m s).2/\F9 (ru ts m s).1:=by
 unfold ru BL;have a:=ofV hB (Z8 ts+1) [45,62] [] s;have b:=mQ (ts:=ts) (kq ts (Z8 ts+1) [45,62] [] s).2 [59];have e:=mh (dX hE (s:=(kq ts (Z8 ts+1) [45,62] [] s).2) [59]).toOn0;have c:Et []=0:=I;refine⟨?_,h.g,h.a,h.w⟩;dsimp only;omega
theorem PO(m:Mv)(s:Sx)(h:F9 m)(a:m.acts=[]):BL (qC ts m s).1+28*mu ts (qC ts m s).2<=Bh m.g+(Z8 m.ev+1)+28*mu ts s+200*er (qC ts m s).2/\F9 (qC ts m s).1:=by
 unfold qC;split
 .have b:=PN hB hE m s h;rw[a,jd]at b;exact⟨by have:=b.1;omega,b.2⟩
 have b:=Hv hB hE s;have c:=PN hB hE {m with acts:=(ff ts s).1} (ff ts s).2 ⟨h.g,b.2,h.w⟩;have e:=mh (Dt hE {m with acts:=(ff ts s).1} (ff ts s).2).toOn0;refine⟨?_,c.2⟩;have f:=b.1;have d:=c.1;dsimp only at d;omega
theorem Hw(m:Mv)(s:Sx)(h:F9 m)(a:m.acts=[])(b:m.g=uZ):BL (gF ts m s).1+28*mu ts (gF ts m s).2<=(Z8 m.ev+2)+28*mu ts s+300*er (gF ts m s).2/\F9 (gF ts m s).1:=by
 unfold gF;split
 .have c:=PO hB hE m s h a;rw[b,Jb]at c;exact⟨by have:=c.1;omega,c.2⟩
 rename_i w;have j:=qf w;have c:=PL hB hE (bP s);have k:=mQ (ts:=ts) (iI ts (bP s)).2 [93];have d:=PO hB hE {m with gd:=aF,g:=(iI ts (bP s)).1} (cA ts (iI ts (bP s)).2 [93]) ⟨c.2,h.a,h.w⟩ a;have f:=mh (dX hE (s:=(iI ts (bP s)).2) [93]).toOn0;have i:=mh (Du hE {m with gd:=aF,g:=(iI ts (bP s)).1} (cA ts (iI ts (bP s)).2 [93])).toOn0;refine⟨?_,d.2⟩;have l:=c.1;have e:=d.1;dsimp only at e;omega
theorem aaL(k:Int)(u:Sx)(m:Mv)(h:F9 m)(a:m.acts=[])(g:m.g=uZ)(e:m.ev=[]):BL (if k=1 then gF ts {m with ev:=(dQ ts u).1} (dQ ts u).2 else if k=3 then gF ts {m with wt:=(cY ts u 3).1.n} (cY ts u 3).2 else gF ts m u).1+28*mu ts (if k=1 then gF ts {m with ev:=(dQ ts u).1} (dQ ts u).2 else if k=3 then gF ts {m with wt:=(cY ts u 3).1.n} (cY ts u 3).2 else gF ts m u).2<=
  2+28*mu ts u+310*er (if k=1 then gF ts {m with ev:=(dQ ts u).1} (dQ ts u).2 else if k=3 then gF ts {m with wt:=(cY ts u 3).1.n} (cY ts u 3).2 else gF ts m u).2/\F9 (if k=1 then gF ts {m with ev:=(dQ ts u).1} (dQ ts u).2 else if k=3 then gF ts {m with wt:=(cY ts u 3).1.n} (cY ts u 3).2 else gF ts m u).1:=by
 split
 .have f:=DQ hB u;have b:=Hw hB hE {m with ev:=(dQ ts u).1} (dQ ts u).2 ⟨h.g,h.a,h.w⟩ a g;have d:=mh (vX hE {m with ev:=(dQ ts u).1} (dQ ts u).2).toOn0;refine⟨?_,b.2⟩;have c:=b.1;dsimp only at c;omega
 split
 .have b:=DP hB u (k:=3) Z;have c:=Hw hB hE {m with wt:=(cY ts u 3).1.n} (cY ts u 3).2 ⟨h.g,h.a,b.2⟩ a g;have f:=mh (vX hE {m with wt:=(cY ts u 3).1.n} (cY ts u 3).2).toOn0;refine⟨?_,c.2⟩;have d:=c.1;have i:=b.1;have j:Z8 m.ev=0:=by rw[e];rfl
  dsimp only at d;omega
 have b:=Hw hB hE m u h a g;refine⟨?_,b.2⟩;have c:=b.1;rw[e,bE]at c;omega
theorem af7(k:Int)(s:Sx)(h:(tk ts s.i).k≠5):BL (jK ts k s).1+28*mu ts (jK ts k s).2<=28*mu ts s+400*er (jK ts k s).2/\F9 (jK ts k s).1:=by
 have n:∀a,F9 (JA k a):=λa=>⟨Mp,λx hx=>Rg,zI⟩
 unfold jK;split
 .rename_i h0;dsimp only;rw[Ws h0,Nt h0];exact⟨PH,n _⟩
 rename_i h0;have h0:(oC ts s).fc=0:=Z4
 have i:=AE (ts:=ts) s;have b:=Ka h0 (by rw[i];exact h);have c:=PM (Cf (ts:=ts) s);have a:=aaL hB hE k (bP (oC ts s)) (JA k (tk ts s.i).a) (n _) I I I;refine⟨bp a.1 ?_,a.2⟩;exact xF J (fM _ Z)
omit hB hE in
theorem Kc:∀(l m:List Mv),qe (l++m)=qe l+qe m
 | [],m=>by rw[qe];simp
 | x::l,m=>by rw[bW,qe,qe,Kc l m];omega
theorem aa8(n:Nb)(a:Ej)(s:Sx)(h:Q4 n):uS (da ts n a s).2.1+28*mu ts (da ts n a s).2.2.2<=uS n+28*mu ts s+400*er (da ts n a s).2.2.2/\Q4 (da ts n a s).2.1:=by
 have wr:∀{k:Nat},uS n+28*mu ts (fH ts s)<=uS n+28*mu ts s+400*er (fH ts s):=fun{k}=>by rw[Ws gx,Nt gx];omega
 unfold da;split
 .rename_i hw;have b:=af7 hB hE (bR ts s [u6,fb,fL]:Nat) s (cP hw).2;refine⟨?_,h.en,h.lv,λc m=>?_⟩
  .have d:=b.1;unfold uS;dsimp only;rw[Kc,qe,qe];omega
  rcases dc.1 m with m | m
  .exact h.mv c m
  rcases aV.1 m with rfl;exact b.2
 split
 .exact⟨Sb,h⟩
 .rename_i hw;have hw:bR ts s [dU,fX,gn]≠0:=UQ
  split
  .exact⟨wr (k:=0),h⟩
  have b:=qf hw;have c:=DQ hB (bP s);have d:=mQ (ts:=ts) (dQ ts (bP s)).2 [59];have e:=mh (dX hE (s:=(dQ ts (bP s)).2) [59]).toOn0;refine⟨?_,h.en,h.lv,h.mv⟩;unfold uS;dsimp only;omega
 .rename_i hw;have hw:bR ts s [dU,fX,gn]≠0:=UQ
  split
  .exact⟨wr (k:=0),h⟩
  have c:=qf hw;have b:=Hv hB hE (bP s);refine⟨?_,b.2,h.lv,h.mv⟩;have d:=b.1;unfold uS;dsimp only;omega
 rename_i c d b;have hw:=c;split
 .exact⟨wr (k:=0),h⟩
 have d:=qf hw;have b:=Hv hB hE (bP s);refine⟨?_,h.en,b.2,h.mv⟩;have e:=b.1;unfold uS;dsimp only;omega
theorem FF:∀(f:Nat) (n:Nb) (h:Ej) (s:Sx),Q4 n->uS (cW ts f n h s).1+28*mu ts (cW ts f n h s).2<=uS n+28*mu ts s+400*er (cW ts f n h s).2/\Q4 (cW ts f n h s).1
 | 0,n,h,s,a=>⟨by rw[cW];dsimp only;omega,a⟩
 | f+1,n,h,s,b=>by
  rw[cW];have a:=aa8 hB hE n h s b;split
  .exact⟨Sb,b⟩
  split
  .generalize da ts n h s=c at*
   by_cases d:c.2.2.2.fc=0
   .have e:=FF f c.2.1 c.2.2.1 c.2.2.2 a.2;have g:=a.1;rw[Y0 d]at g;exact⟨by have:=e.1;omega,e.2⟩
   have e:cW ts f c.2.1 c.2.2.1 c.2.2.2=(c.2.1,c.2.2.2):=by
    cases f with
    | zero=>rfl
    | succ f=>rw[cW,K d]
   rw[e];exact a
  exact a
omit hB hE in
theorem DR:∀{l m:List Nd},xu l->xu m->xu (l++m)
 | [],_,_,h=>h
 | x::l,m,h,k=>⟨h.1,DR h.2 k⟩
omit hB hE in
theorem mrg {N:Int->Sx->Nd×Sx} (c:Nat) (hN:∀k s,lF (N k s).1+28*mu ts (N k s).2<=28*mu ts s+4+c*er (N k s).2/\Dw (N k s).1):∀(f:Nat) (acc:List Nd) (s:Sx),xu acc->ji (gw ts N f acc s).1+28*mu ts (gw ts N f acc s).2<=ji acc+28*mu ts s+c*er (gw ts N f acc s).2/\xu (gw ts N f acc s).1
 | 0,acc,s,ha=>⟨by rw[gw];exact Nat.le_add_right _ _,ha⟩
 | f+1,acc,s,ha=>by
  rw[gw];split
  .exact⟨Nat.le_add_right _ _,ha⟩
  rename_i hw;have h0:=qf hw;have h1:=hN (bR ts s gH:Nat) (bP s);have h4:=mrg c hN f (acc++[(N (bR ts s gH:Nat) (bP s)).1]) (N (bR ts s gH:Nat) (bP s)).2 (DR ha ⟨h1.2,trivial⟩);generalize N (bR ts s gH:Nat) (bP s)=q at*
  have es:ji (acc++[q.1])=ji acc+lF q.1:=by rw[DJ,ji,ji];omega
  by_cases hf:q.2.fc=0
  .have h3:=h1.1;rw[Y0 hf]at h3;rw[es]at h4;exact⟨by have:=h4.1;omega,h4.2⟩
  have e:gw ts N f (acc++[q.1]) q.2=(acc++[q.1],q.2):=by
   cases f with
   | zero=>rfl
   | succ f=>rw[gw,K (by unfold bR;rw[K (.inl hf)])]
  rw[e];refine⟨?_,DR ha ⟨h1.2,trivial⟩⟩;have h3:=h1.1;dsimp only;rw[es];omega
theorem niP(k:Int)(s:Sx):uS (cy ts k s).1+3+28*mu ts (cy ts k s).2<=28*mu ts s+4*er (cy ts k s).2/\Q4 (cy ts k s).1:=by
 unfold cy;have g:=PM (OS (ts:=ts) s);have i:=(DP hB (lu ts s) (k:=1) Z).1;refine⟨?_,λa h=>Rl,λa h=>Rl,λm h=>Rl⟩;unfold uS;dsimp only;have e:Z8 RL.ini=0:=I;have b:Z8 RL.dft=0:=I;have c:jd RL.en=0:=I;have d:jd RL.lv=0:=I;have f:qe RL.mv=0:=I;omega
theorem inb{N:Int->Sx->Nd×Sx}(c:Nat)(m:∀k s,lF (N k s).1+28*mu ts (N k s).2<=28*mu ts s+4+c*er (N k s).2/\Dw (N k s).1)(O:∀f a s,er s<=er (gw ts N f a s).2)(n:Nb)(s:Sx)(o:Q4 n):lF (jl ts N n s).1+28*mu ts (jl ts N n s).2<=uS n+28*mu ts s+(c+428)*er (jl ts N n s).2/\Dw (jl ts N n s).1:=by
 unfold jl;dsimp only;have h:=FF hB hE (Z8 ts+1) n ⟨aM,aM,aM⟩ {s with d:=mZ s.d} o;generalize cW ts (Z8 ts+1) n ⟨aM,aM,aM⟩ {s with d:=mZ s.d}=C at*
 have b:=mrg c m (Z8 ts+1) [] C.2 trivial;have p:=O (Z8 ts+1) [] C.2;generalize gw ts N (Z8 ts+1) [] C.2=K at*
 have j:=mQ (ts:=ts) ⟨K.2.i,K.2.fc,K.2.fa,K.2.v,K.2.n,Ep K.2.d,K.2.m,K.2.a⟩ [125];have e:=mh (dX hE (s:=⟨K.2.i,K.2.fc,K.2.fa,K.2.v,K.2.n,Ep K.2.d,K.2.m,K.2.a⟩) [125]).toOn0;have g:er ⟨K.2.i,K.2.fc,K.2.fa,K.2.v,K.2.n,Ep K.2.d,K.2.m,K.2.a⟩=er K.2:=I;have i:mu ts ⟨K.2.i,K.2.fc,K.2.fa,K.2.v,K.2.n,Ep K.2.d,K.2.m,K.2.a⟩=mu ts K.2:=I;have q:mu ts {s with d:=mZ s.d}=mu ts s:=I;rw[g]at e;rw[i]at j;refine⟨?_,h.2,b.2⟩;have r:=h.1;have l:=b.1;rw[ji]at l;rw[lF];generalize er (cA ts _ [125])=z at*
 generalize er K.2=y at*
 generalize er C.2=x at*
 have t:c*y<=c*z:=vu _ e;rw[fj];omega
omit hB in
theorem aaM {N:Int->Sx->Nd×Sx} (n:Nb) (s:Sx):er s<=er (jl ts N n s).2:=by
 unfold jl;dsimp only;have h1:=mh (mN hE (Z8 ts+1) n ⟨aM,aM,aM⟩ {s with d:=mZ s.d}).toOn0;generalize cW ts (Z8 ts+1) n ⟨aM,aM,aM⟩ {s with d:=mZ s.d}=C at*
 have h2:er C.2<=er (gw ts N (Z8 ts+1) [] C.2).2:=by
  rw[gw];split
  .exact aX _
  rename_i hw;rw[Y0 (cP hw).1];exact bh _
 generalize gw ts N (Z8 ts+1) [] C.2=K at*
 exact bp h1 (bp h2 (show er ⟨K.2.i,K.2.fc,K.2.fa,K.2.v,K.2.n,Ep K.2.d,K.2.m,K.2.a⟩<=_ from mh (dX hE (s:=⟨K.2.i,K.2.fc,K.2.fa,K.2.v,K.2.n,Ep K.2.d,K.2.m,K.2.a⟩) [125]).toOn0))
theorem VQ:∀(f:Nat) (k:Int) (s:Sx),lF (fl ts f k s).1+28*mu ts (fl ts f k s).2<=28*mu ts s+4+(500*f)*er (fl ts f k s).2/\Dw (fl ts f k s).1
 | 0,k,s=>⟨by rw[fl];dsimp only;show 1+_<=_;omega,⟨λa h=>Rl,λa h=>Rl,λm h=>Rl⟩,trivial⟩
 | f+1,k,s=>by
  rw[fl];have h:=niP hB hE k s;split
  .have g:=mQ (ts:=ts) (cy ts k s).2 [45,62];have i:=DQ hB (cA ts (cy ts k s).2 [45,62]);have j:=mQ (ts:=ts) (dQ ts (cA ts (cy ts k s).2 [45,62])).2 [59];have b:=mh (dX hE (s:=(cy ts k s).2) [45,62]).toOn0;have c:=mh (nJ hE (s:=cA ts (cy ts k s).2 [45,62])).toOn0;have d:=mh (dX hE (s:=(dQ ts (cA ts (cy ts k s).2 [45,62])).2) [59]).toOn0;refine⟨?_,⟨h.2.en,h.2.lv,h.2.mv⟩,trivial⟩;have a:=h.1;have e:(cy ts k s).1.dft.length=0:=I;rw[lF,ji];unfold uS at a⊢;dsimp only;generalize er (cA ts (dQ ts (cA ts (cy ts k s).2 [45,62])).2 [59])=z at*
   have:500*(f+1)*z=500*f*z+500*z:=by rw[Nat.mul_add,fj]
   omega
  have i:=mQ (ts:=ts) (cy ts k s).2 [123];have e:=mh (dX hE (s:=(cy ts k s).2) [123]).toOn0;have b:=inb hB hE (500*f) (λk s=>VQ f k s) (λa c l=>by
   cases a with
   | zero=>exact aX _
   | succ a=>
    rw[gw];split
    .exact aX _
    rename_i w;rw[Y0 (cP w).1];exact bh _) (cy ts k s).1 (cA ts (cy ts k s).2 [123]) h.2
  have g:=aaM hE (N:=fl ts f) (cy ts k s).1 (cA ts (cy ts k s).2 [123]);refine⟨?_,b.2⟩;have j:=h.1;have d:=b.1;generalize er (jl ts (fl ts f) (cy ts k s).1 (cA ts (cy ts k s).2 [123])).2=z at*
  have:500*(f+1)*z=500*f*z+500*z:=by rw[Nat.mul_add,fj]
  rw[fj]at d;omega
theorem amD(s:Sx):((mc ts s).1.n.length+1)+28*mu ts (mc ts s).2<=28*mu ts s+100*er (mc ts s).2/\rX (mc ts s).1.v:=by
 unfold mc;dsimp only;have g:28*mu ts (if(tk ts s.i).k=1 then sP ts s else s)<=28*mu ts s:=by
  split
  .exact PM (At5 s)
  exact aX _
 generalize (if(tk ts s.i).k=1 then sP ts s else s)=b at*
 have i:=(DP hB b (k:=1) Z).1;have j:=mQ (ts:=ts) (cY ts b 1).2 [61];have e:=mh (dX hE (s:=(cY ts b 1).2) [61]).toOn0;generalize cA ts (cY ts b 1).2 [61]=a at*
 have l:28*mu ts (if bR ts a [[45]]=0 then a else bP a)<=28*mu ts a/\er a<=er (if bR ts a [[45]]=0 then a else bP a):=by
  split
  .exact⟨aX _,aX _⟩
  rename_i w;have:=qf w;exact⟨J,aX _⟩
 generalize (if bR ts a [[45]]=0 then a else bP a)=c at*
 have h:=DP hB c (k:=3) Z;have d:=mh (uv hE (s:=c) (k:=3) Z).toOn0;have m:=mQ (ts:=ts) (cY ts c 3).2 [59];have f:=mh (dX hE (s:=(cY ts c 3).2) [59]).toOn0;refine⟨by have:=h.1;omega,?_⟩;split
 .exact h.2
 exact rM _
omit hB hE in
theorem Ke:∀(l m:List Vr),jZ (l++m)=jZ l+jZ m
 | [],m=>by rw[jZ];simp
 | x::l,m=>by rw[bW,jZ,jZ,Ke l m];omega
theorem VR:∀(f:Nat) (a:X Vr) (s:Sx),(∀v,v∈a->rX v.v)->jZ (gK ts f a s).1+28*mu ts (gK ts f a s).2<=jZ a+28*mu ts s+100*er (gK ts f a s).2/\∀v,v∈(gK ts f a s).1->rX v.v
 | 0,a,s,h=>⟨by rw[gK];dsimp only;omega,h⟩
 | f+1,a,s,h=>by
  rw[gK];split
  .exact⟨Sb,h⟩
  rename_i w;have i:=qf w;have c:=amD hB hE (bP s);have N:∀v,v∈a++[(mc ts (bP s)).1]->rX v.v:=λv b=>by
   rcases dc.1 b with b | b
   .exact h v b
   rcases aV.1 b with rfl;exact c.2
  have d:jZ (a++[(mc ts (bP s)).1])=jZ a+((mc ts (bP s)).1.n.length+1):=by rw[Ke,jZ,jZ]
  by_cases g:(mc ts (bP s)).2.fc=0
  .have e:=VR f (a++[(mc ts (bP s)).1]) (mc ts (bP s)).2 N;have j:=c.1;rw[Y0 g]at j;rw[d]at e;exact⟨by have:=e.1;omega,e.2⟩
  have e:gK ts f (a++[(mc ts (bP s)).1]) (mc ts (bP s)).2=(a++[(mc ts (bP s)).1],(mc ts (bP s)).2):=by
   cases f with
   | zero=>rfl
   | succ f=>rw[gK,K (by unfold bR;rw[K (.inl g)])]
  rw[e];refine⟨?_,N⟩;have j:=c.1;dsimp only;rw[d];omega
theorem aaN:jZ (oE ts).1.vars+lF (oE ts).1.root<=28*Z8 ts+10000/\Ga (oE ts).1:=by
 unfold oE;dsimp only;have n:=mQ (ts:=ts) me dB;have a:=niP hB hE 1 (cA ts me dB);have o:=mQ (ts:=ts) (cy ts 1 (cA ts me dB)).2 [123];have b:=VR hB hE (Z8 ts+1) [] (cA ts (cy ts 1 (cA ts me dB)).2 [123]) λv h=>Rl
 have c:=inb hB hE (500*14) (λk s=>VQ hB hE 14 k s) (λf d t=>by
  cases f with
  | zero=>exact aX _
  | succ f=>
   rw[gw];split
   .exact aX _
   rename_i h;rw[Y0 (cP h).1];exact bh _) (cy ts 1 (cA ts me dB)).1 (gK ts (Z8 ts+1) [] (cA ts (cy ts 1 (cA ts me dB)).2 [123])).2 a.2
 have r:mu ts me=Z8 ts:=I;have z:∀s:Sx,er s<=1:=λs=>by unfold er;split<;>decide
 have g:=z (cA ts me dB);have i:=z (cy ts 1 (cA ts me dB)).2;have j:=z (cA ts (cy ts 1 (cA ts me dB)).2 [123]);have l:=z (gK ts (Z8 ts+1) [] (cA ts (cy ts 1 (cA ts me dB)).2 [123])).2;have m:=z (jl ts (fl ts 14) (cy ts 1 (cA ts me dB)).1 (gK ts (Z8 ts+1) [] (cA ts (cy ts 1 (cA ts me dB)).2 [123])).2).2;refine⟨?_,b.2,c.2⟩;have p:=a.1;have e:=b.1;have q:=c.1;rw[jZ]at e;omega
end
def PR(l:S):Ga (fg l).1/\jZ (fg l).1.vars+lF (fg l).1.root<=1048576:=by
 have z:Ga ch0/\jZ ch0.vars+lF ch0.root<=1048576:=⟨⟨λv h=>Rl,⟨λa h=>Rl,λa h=>Rl,λm h=>Rl⟩,trivial⟩,Z⟩
 unfold fg;split
 .exact z
 rename_i h0;have h0:(cQ l).2.1=0:=Z4
 split
 .exact z
 obtain⟨E,_,_,a⟩:=mP h0;have h:=aaN (af2 h0) E;exact⟨h.2,by have:=h.1;dsimp only;omega⟩
def PS{w:aw}{F G:aK}{s t:Sl}{l m:X (S)}(h:aB ju 1 w F s l)(k:aB ju 1 w G t m):
  aA ar 10 #[s.v,t.v] w λe a=>e=ao (ak (VM (l=m)))/\az [] w a:=by
 refine ret (asG ?_);have b:=h.len;have d:=h.cap;have f:=h.big;have c:=k.len;refine⟨λhc=>?_,λhc=>?_⟩
 .have hc:¬(s.n:Int)=(t.n:Int):=R0
  rw[bC (λe=>hc (by rw[b,c,e]))];exact⟨I,EC _ _⟩
 have hc:(s.n:Int)=(t.n:Int):=R0
 have o:Z8 l=Z8 m:=J
 refine⟨λv i a=>∃n:Nat,n<=Z8 l/\i=(n:Int)/\v=(Z8 l)-n/\l.take n=m.take n/\az [] w a,Z8 l,⟨0,bh _,I,I,R,EC _ _⟩,?_⟩;rintro v _ u ⟨n,r,rfl,rfl,g,O⟩;refine⟨λT=>?_,λj=>?_⟩
 .have T:(n:Int)<(s.n:Int):=aO T;obtain⟨p,x,W,E,z,P,Q,H,C⟩:=(Aw cx Z h O R).get (bc n) T;obtain⟨q,y,Y,K,A,U,V,L,D⟩:=(Aw cx Z k O R).get (i:=(n:Int)) (bc n) J;rw[aW]at z A;unfold ju at C D;subst C D;refine⟨p,E,_,H,q,K,_,L,?_⟩;dsimp only;rw[iC];refine⟨λB w1 N=>?_,λt w2 M=>⟨(Z8 l)-(n+1),J,n+1,J,TE,I,?_,O.cn M⟩⟩
  .have B:x≠y:=by simpa using B
   rw[bC (λe=>B (by rw[e,A]at z;exact(CH z).symm))];exact⟨I,O.cn N⟩
  have t:x=y:=by simpa using t
  rw[bq,bq,g,z,A,t]
 have j:¬(n:Int)<(s.n:Int):=aR j;rw[br J,br J]at g;rw[bF g];exact⟨I,O⟩
def j5{a:Type}(R:a->a->Prop)(s b:X a):Prop:=Z8 s=Z8 b/\∀(i:Nat) x y,s[i]? =Hg x->b[i]? =Hg y->R x y
def j5.refl{α}{R}{s:X α}(b:∀x,x∈s->R x x):j5 R s s:=⟨I,λi x y a h=>by
 rw[a]at h;injection h with h;subst h;exact b x (bA a)⟩
def WE:=@j5.refl
def YD(t:L)(x y:Ex):Prop:=∀d,rq t d x y=aF
structure AcE (t:Bool) (x y:Ac):Prop where
 k:x.k=y.k
 n:x.n=y.n
 e:YD t x.x y.x
 a:t=aF->x.a=y.a
structure MvE (t:Bool) (x y:Mv):Prop where
 k:x.k=y.k
 ev:x.ev=y.ev
 wt:x.wt=y.wt
 gd:x.gd=y.gd
 g:YD t x.g y.g
 acts:j5 (AcE t) x.acts y.acts
 tg:x.tg=y.tg
 a:t=aF->x.a=y.a
structure NbE (t:Bool) (x y:Nb):Prop where
 k:x.k=y.k
 nm:x.nm=y.nm
 ini:x.ini=y.ini
 dft:x.dft=y.dft
 en:j5 (AcE t) x.en y.en
 lv:j5 (AcE t) x.lv y.lv
 mv:j5 (MvE t) x.mv y.mv
 a:t=aF->x.a=y.a
def NdE(t:L):Nat->Nd->Nd->Prop
 | 0,_,_=>True
 | d+1,x,y=>NbE t x.b y.b/\j5 (NdE t d) x.kids y.kids
structure VrE (t:Bool) (x y:Vr):Prop where
 n:x.n=y.n
 v:x.v=y.v
 a:t=aF->x.a=y.a
structure ChE (t:Bool) (d:Nat) (x y:Ch):Prop where
 vars:j5 (VrE t) x.vars y.vars
 root:NdE t d x.root y.root
def YD.refl t x:YD t x x:=λd=>aek t d x
def AcE.refl t x:AcE t x x:=⟨I,I,YD.refl t _,λ_=>I⟩
def MvE.refl t x:MvE t x x:=⟨I,I,I,I,YD.refl t _,WE λy _=>AcE.refl t y,I,λ_=>I⟩
def NbE.refl t x:NbE t x x:=⟨I,I,I,I,WE λy _=>AcE.refl t y,WE λy _=>AcE.refl t y,WE λy _=>MvE.refl t y,λ_=>I⟩
def NdE.refl t:∀d x,NdE t d x x
 | 0,_=>trivial
 | d+1,x=>⟨NbE.refl t _,WE λy _=>NdE.refl t d y⟩
def ChE.refl t d x:ChE t d x x:=⟨WE λy _=>⟨I,I,λ_=>I⟩,NdE.refl t d _⟩
section
variable {w w':aw} {F G:aK} {t:L}
def adx{x}{cs}(h:rE aM w F x cs):∃d,vS d w F x cs:=by
 obtain⟨d,h⟩:=h;exact⟨d,AG h⟩
def PT{x y}{cs ds}(h:rE aM w F x cs)(a:rE aM w G y ds)(E:YD t x y):aA ar 161 #[ai cs.toArray,ai ds.toArray,ak t] w λr w'=>r=ao (ak aF)/\az [] w w':=by
 obtain⟨d,h⟩:=adx h;obtain⟨e,a⟩:=adx a;refine(MQ t d h a).mono ?_;rintro _ b ⟨rfl,O⟩;rw[E d];exact⟨I,O⟩
def ae0{k}{n}{xc}{a}{ad}(b:aD w ad (Wj k n xc a)):aD w (ad.add 2) xc:=b.sub 2 λj v h=>by
 rw[oS];unfold Wj;rw[dE,dE,ca (bd.1 h).1];exact h
def PU{k}{n}{k' n'}{s}{op}{sl}{a' a}{ad}(h:aD w ad (Wj k n (nI k' n' s op sl a') a)):aD w (ad.add 8) [O U a]:=h.dx 8 _ I
def yg{a b:Sl}{s d:X Ac}(h:aB (pI aM) 9 w F a s)(c:aB (pI aM) 9 w G b d)(E:j5 (AcE t) s d):aA ar 93 #[a.v,b.v,ak t] w λr w'=>r=ao (ak aF)/\az [] w w':=by
 refine ret (asN ?_);have l:=h.len;have i:=c.len;have j:=E.1;have f:=h.cap;have g:=h.big;refine⟨λhc=>?_,λhc=>?_⟩
 .have:¬(a.n:Int)=(b.n:Int):=R0
  omega
 refine⟨λW u w'=>∃n:Nat,u=(n:Int)/\n<=Z8 s/\W=(Z8 s)-n/\az [] w w',Z8 s,⟨0,I,bh _,I,EC _ _⟩,?_⟩;rintro W _ w0 ⟨n,rfl,hn,rfl,K⟩;refine⟨λbT=>?_,λpf=>⟨I,K⟩⟩;have bT:n<a.n:=QE
 obtain⟨p,x,cs,o,C,g3,g4,_,M⟩:=h.get (i:=(n:Int)) J J;obtain⟨q,y,ds,z,G,k3,k4,_,V⟩:=c.get (i:=(n:Int)) J J;rw[aW]at C G;have b:=E.2 n x y C G;refine⟨p,o,λw1 Y=>?_⟩;have D:=K.cn Y;obtain⟨p',x',qY,q1,A,_,_,L,M⟩:=(Aw (cN aM) Z h D R).get (i:=(n:Int)) J J;obtain⟨q',y',am,q3,B,_,_,U,V⟩:=(Aw (cN aM) Z c D R).get (i:=(n:Int)) J J;rw[aW]at A B;rw[C]at A;rw[G]at B;injection A with A;injection B with B;subst A B;obtain rfl:=o.ET q1;obtain rfl:=z.ET q3;obtain⟨xc,rfl,Q⟩:=M;obtain⟨yc,rfl,S⟩:=V;have yx:=Q;have F:=S;obtain⟨sx,rfl⟩:=dM Q;obtain⟨sy,rfl⟩:=dM S;refine⟨_,_,_,_,sx,_,ae0 L,q,z,_,_,_,_,sy,_,ae0 U,(PT yx F b.e).mono ?_⟩;rintro _ w2 ⟨rfl,O⟩;have kp:∀{ad:Addr} {H:aJ} {v:ay} {vt:aJ},H=v::vt->aD w1 ad H->aD w2 ad H:=λzZ N=>by
  subst zZ;exact N.keep (O.block _ N.lt R)
 have k:=kp I L;have m:=kp I U;have e:(((((!true)||(x.k !=y.k))||(!((T x.n).toList==(T y.n).toList)))||(t&&(x.a !=y.a))))=aM:=by
  rw[iC,b.k,b.n];cases a:t
  .simp
  rw[b.a a];simp
 refine⟨aF,I,p,λ_=>o,x.k,λ_=>k.dx 0 _ I,q,λ_=>z,y.k,λ_=>m.dx 0 _ I,p,λ_=>o,_,λ_=>k.dx 1 _ I,q,λ_=>z,_,λ_=>m.dx 1 _ I,p,λ_ _=>o,_,λ_ _=>PU k,q,λ_ _=>z,_,λ_ _=>PU m,λP=>?_,λ_ w4 dD=>⟨(Z8 s)-(n+1),J,n+1,TE,J,I,(D.cn O).cn dD⟩⟩;rw[e]at P;cases P
def Ifc{x y:Mv}{s e:aJ}(o:JE aM w F x s)(q:JE aM w G y e)(h:MvE t x y):aA ar 94 #[ai s.toArray,ai e.toArray,ak t] w λu w'=>u=ao (ak aF)/\az [] w w':=by
 obtain⟨A,H,M,rfl,f,l,m⟩:=o;obtain⟨j,i,v,rfl,k,r,k3⟩:=q;have a:=f;have b:=k;obtain⟨J,rfl⟩:=dM f;obtain⟨K,rfl⟩:=dM k;refine ret (asO ?_);intro D k N Q L E B c;refine(PT ((gp aM).only a c R) ((gp aM).only b c R) h.g).mono ?_;rintro _ P ⟨rfl,p⟩;have U:=c.size;have V:=p.size;have g:=c.cn p;refine⟨_,I,p.same C,(yg (Aw (cN aM) Z l.1 g R) (Aw (cN aM) Z r.1 g R) h.acts).mono ?_⟩;rintro _ S ⟨rfl,O⟩;have W:=O.size;have z:=g.cn O;refine⟨_,I,O.same C,(PS (Aw cx Z m.1 z R) (Aw cx Z k3.1 z R)).mono ?_⟩;rintro _ T ⟨rfl,d⟩;refine⟨_,I,d.same C,?_,z.cn d⟩;rw[iC,bF h.tg,h.k,h.ev,h.wt,h.gd];cases n:t
 .simp
 rw[h.a n];simp
def DS:∀(d:Nat) {w:aw} {F G:aK} {x y:Nd} {c s:aJ},pv aM d w F x c->pv aM d w G y s->NdE t d x y->aA ar 37 #[ai c.toArray,ai s.toArray,ak t] w λr w'=>r=ao (ak aF)/\az [] w w'
 | 0,_,_,_,_,_,_,_,h,_,_=>h.elim
 | d+1,w,F,G,x,y,c,s,⟨N,X,mv,kids,D,a,b⟩,⟨r7,r9,z,Y,S,k,m⟩,h=>by
  subst D S;obtain⟨h,K⟩:=h;refine ret (asK ?_);intro V E w0 Q M W P f;have z0:=f.size;have m1:=a.2.2.1.len;have m2:=k.2.2.1.len;have m3:=h.mv.1;have m4:=a.2.2.1.cap;have m5:=a.2.2.1.big;have n1:=b.1.len;have n2:=m.1.len;have n3:=K.1;have n4:=b.1.cap;have n5:=b.1.big;have e:((((((((x.b.k !=y.b.k)||(!((T x.b.nm).toList==(T y.b.nm).toList)))||(!((T x.b.ini).toList==(T y.b.ini).toList)))||(!((T x.b.dft).toList==(T y.b.dft).toList)))||(t&&(x.b.a !=y.b.a)))||((mv.n:Int) !=(z.n:Int)))||((kids.n:Int) !=(Y.n:Int))))=aM:=by
   rw[iC,iC,iC,h.k,h.nm,h.ini,h.dft,show mv.n=z.n by omega,show kids.n=Y.n by omega];cases d:t
   .simp
   rw[h.a d];simp
  refine⟨λhh=>(by rw[e]at hh;cases hh),λ_=>(yg (Aw (cN aM) Z a.1.1 f R) (Aw (cN aM) Z k.1.1 f R) h.en).mono ?_⟩;rintro _ w1 ⟨rfl,j⟩;have z1:=j.size;have l:=f.cn j;refine⟨_,I,j.same C,(yg (Aw (cN aM) Z a.2.1.1 l R) (Aw (cN aM) Z k.2.1.1 l R) h.lv).mono ?_⟩;rintro _ A ⟨rfl,g⟩;have z2:=g.size;have H:=l.cn g;refine⟨_,I,g.same C,λhh=>ZB,λ_=>?_⟩;refine⟨λv i w'=>∃n:Nat,i=(n:Int)/\n<=mv.n/\v=mv.n-n/\az [] w w'/\A.heap.size<=w'.heap.size,mv.n,⟨0,I,bh _,I,H,aX _⟩,?_⟩;rintro v _ w3 ⟨n,rfl,u,rfl,o,B⟩;refine⟨λbT=>?_,λL=>?_⟩
  .have bT:n<mv.n:=QE
   obtain⟨p,xm,ms,g1,y,_⟩:=a.2.2.1.get (i:=(n:Int)) J J;obtain⟨q,ym,ns,q1,F,_⟩:=k.2.2.1.get (i:=(n:Int)) J J;rw[aW]at y F;refine⟨p,g1,λw4 dD=>?_⟩;have T:=o.cn dD;have z4:=dD.size;obtain⟨p',x',qY,a1,d,_,_,a5,a6⟩:=(Aw (iL aM) Z a.2.2.1 T R).get (i:=(n:Int)) J J;obtain⟨q',y',am,b1,e,_,_,b5,b6⟩:=(Aw (iL aM) Z k.2.2.1 T R).get (i:=(n:Int)) J J;rw[aW,y]at d;rw[aW,F]at e;injection d with d;injection e with e;subst d e;obtain rfl:=g1.ET a1;obtain rfl:=q1.ET b1;have NX:=a6;have w:=b6;obtain⟨gc,mF,tg,rfl,c1,_,_⟩:=a6;obtain⟨aC,t,G,rfl,c2,_,_⟩:=b6;obtain⟨sx,rfl⟩:=dM c1;obtain⟨sy,rfl⟩:=dM c2;refine⟨_,_,_,_,_,_,_,_,sx,_,mF,tg,_,a5,q,q1,_,_,_,_,_,_,_,_,sy,_,t,G,_,b5,(Ifc NX w (h.mv.2 n _ _ y F)).mono ?_⟩;rintro _ w5 ⟨rfl,x⟩;exact⟨aF,I,x.same C,λhh=>ZB,λ_=>⟨mv.n-(n+1),J,n+1,TE,J,I,T.cn x,bp J x.size⟩⟩
  refine⟨λv i w'=>∃n:Nat,i=(n:Int)/\n<=kids.n/\v=kids.n-n/\az [] w w'/\A.heap.size<=w'.heap.size,kids.n,⟨0,I,bh _,I,o,B⟩,?_⟩;clear L u B o;rintro v _ w6 ⟨n,rfl,u,rfl,Lv,z6⟩;refine⟨λbT=>?_,λ_=>⟨I,Lv⟩⟩;have bT:n<kids.n:=QE
  obtain⟨p,xm,ms,g1,F,_⟩:=b.1.get (i:=(n:Int)) J J;obtain⟨q,ym,ns,q1,T,_⟩:=m.1.get (i:=(n:Int)) J J;rw[aW]at F T;refine⟨p,g1,λw7 ga=>?_⟩;have e:=Lv.cn ga;have z7:=ga.size;obtain⟨p',x',qY,a1,t,_,_,a5,y⟩:=(Aw (ck aM d) Z b.1 e R).get (i:=(n:Int)) J J;obtain⟨q',y',aS,b1,x,_,_,b5,b6⟩:=(Aw (ck aM d) Z m.1 e R).get (i:=(n:Int)) J J;rw[aW,F]at t;rw[aW,T]at x;injection t with t;injection x with x;subst t x;obtain rfl:=g1.ET a1;obtain rfl:=q1.ET b1;have G:=K.2 n _ _ F T;cases d with
  | zero=>exact y.elim
  | succ d=>
   have NX:=y;have p:=b6;obtain⟨xe,xl,aT,xk,rfl,_⟩:=y;obtain⟨ye,yl,bv,yk,rfl,_⟩:=b6;refine⟨_,_,_,_,xe,xl,aT,xk,_,a5,q,q1,_,_,_,_,ye,yl,bv,yk,_,b5,(DS (d+1) NX p G).mono ?_⟩;rintro _ w8 ⟨rfl,w⟩;exact⟨aF,I,w.same C,λhh=>ZB,λ_=>⟨kids.n-(n+1),J,n+1,TE,J,I,e.cn w,bp J w.size⟩⟩
def acF{d:Nat}{x y:Ch}{v s:Sl}{f g:aJ}(h:ChR aM d w F x v f)(c:ChR aM d w G y s g)(E:ChE t d x y):aA ar 8 #[ai (v.v::f).toArray,ai (s.v::g).toArray,ak t] w λj w'=>j=ao (ak aF)/\az [] w w':=by
 have i:=h.root;have r:=c.root;cases d with
 | zero=>exact i.elim
 | succ d=>
  obtain⟨m,u,mv,kids,rfl,_⟩:=h.root;obtain⟨H,K,G,Y,rfl,_⟩:=c.root;refine ret (asI ?_);have x:=h.vars.1.len;have y:=c.vars.1.len;have z:=E.vars.1;have A:=h.vars.1.cap;have B:=h.vars.1.big;refine⟨λhc=>?_,λ_ o k3 l D F M L k=>?_⟩
  .have:¬(v.n:Int)=(s.n:Int):=R0
   omega
  have X:=k.size;refine⟨λQ P w'=>∃n:Nat,P=(n:Int)/\n<=v.n/\Q=v.n-n/\az [] w w'/\l.heap.size<=w'.heap.size,v.n,⟨0,I,bh _,I,k,aX _⟩,?_⟩;rintro Q _ W ⟨n,rfl,V,rfl,N,S⟩;refine⟨λbT=>?_,λ_=>?_⟩
  .have bT:n<v.n:=QE
   obtain⟨p,a,ms,d,g2,_,_,w,g6⟩:=(Aw ec Z h.vars.1 N R).get (i:=(n:Int)) J J;obtain⟨q,b,ns,q1,q2,_,_,q5,q6⟩:=(Aw ec Z c.vars.1 N R).get (i:=(n:Int)) J J;rw[aW]at g2 q2;unfold MR at g6 q6;subst g6 q6;have hv:=E.vars.2 n _ _ g2 q2;have e:((((!((T a.n).toList==(T b.n).toList))||(a.v !=b.v))||(t&&(a.a !=b.a))))=aM:=by
    rw[iC,hv.n,hv.v];cases a:t
    .simp
    rw[hv.a a];simp
   refine⟨p,d,_,w.dx 0 _ I,q,q1,_,q5.dx 0 _ I,p,λ_=>d,_,λ_=>w.dx 1 _ I,q,λ_=>q1,_,λ_=>q5.dx 1 _ I,p,λ_ _=>d,_,λ_ _=>w.dx 2 _ I,q,λ_ _=>q1,_,λ_ _=>q5.dx 2 _ I,λhh=>(by rw[e]at hh;cases hh),λ_ w4 dD=>⟨v.n-(n+1),J,n+1,TE,J,I,N.cn dD,bp S dD.size⟩⟩
  refine(DS (d+1) ((ck aM _).only i N R) ((ck aM _).only r N R) E.root).mono ?_;rintro _ w ⟨rfl,a⟩;exact⟨aF,I,a.same C,I,N.cn a⟩
end
end Go.Proofs.YtccbiehilmhodaaGreatDoor.Con
namespace Go.Kt
open Go Go.RowKit
end Go.Kt
namespace Go.Proofs.YtccbiehilmhodaaGreatDoor.Con
open Go Go.RowKit Go.Kt Go.Kt.V Go.Proofs.YtccbiehilmhodaaGreatDoor.Vc
def sh(t:Tk):Tk:=⟨t.k,t.t,t.n,t.a+1⟩
inductive Sim:Ex->Ex->Prop
 | leaf (k n:Int) (s:S) (op a b:Int):Sim (.mk k n s op [] a) (.mk k n s op [] b)
 | one (k n:Int) (s:S) (op a b:Int) (x y:Ex):Sim x y->Sim (.mk k n s op [x] a) (.mk k n s op [y] b)
 | two (k n:Int) (s:S) (op a b:Int) (x y x' y':Ex):Sim x x'->Sim y y'->Sim (.mk k n s op [x,y] a) (.mk k n s op [x',y'] b)
structure Wr (ts tH:List Tk) (n:Nat):Prop where
 e:∀i,n<=i->(tk ts i).k=5
 s:∀i,i<n->(tk tH (i+1)).k=(tk ts i).k/\(tk tH (i+1)).t=(tk ts i).t/\(tk tH (i+1)).n=(tk ts i).n
 c:(tk tH (n+1)).k=4/\(tk tH (n+1)).t=[41]
def SZ(n:Nat)(c r:Pr):Prop:=∀x j,c=.ok (x,j)->(∃b,r=.ok (b,j+1)/\Sim x b/\j<=n)∨∃a,r=.error (21,a)
def ady{ts}{E}{k}{x}{j}(h:lf ts k j=0):∀g,iR ts E k g x j=.ok (x,j)
 | 0=>rfl
 | g+1=>by rw[iR,K h]
def af8{ts}{j}(h:(tk ts j).k=5) k:lf ts k j=0:=by
 exact bM λn=>qn _ _ n h
def amE{ts}{j}{t}(h:(tk ts j).t=t)(n:∀op,op<16->eP op≠t∨op=0∨14<=op) k:lf ts k j=0:=by
 have:∀f op,1<=op->op+f<=14->jU ts k j f op=0:=by
  intro f
  induction f with
  | zero=>intro op _ _;rfl
  | succ f i=>
   intro op a b;rw[jU,W,i _ J J];rintro⟨_,s⟩;simp[sg,H,bU]at s;rcases n op J with e | e | e
   .exact e (by rw[<-h,s.2])
   .omega
   omega
 exact this 13 1 J J
def Sim.same{x y}(h:Sim x y):∀d,rq aM d x y=aF:=by
 have hd:∀{k n:Int} {s:S} {op:Int} {xs ys:X Ex} {a b:Int},Z8 xs=(Z8 ys)->Dp aM (.mk k n s op xs a) (.mk k n s op ys b)=aM:=λh=>by
  simp[Dp,Ex.k,Ex.n,Ex.s,Ex.op,Ex.dK,Ex.a,h]
 induction h with
 | leaf k n s op a b=>
  intro d;cases d with
  | zero=>rfl
  | succ d=>rw[rq,W (by rw[hd I];decide)];rfl
 | one k n s op a b x y h i=>
  intro d;cases d with
  | zero=>rfl
  | succ d=>
   rw[rq,W (by rw[hd (xs:=[x]) (ys:=[y]) rfl];decide)];simp[Ex.dK,Dm,i d,dR]
 | two k n s op a b x y c e f g E u=>
  intro d;cases d with
  | zero=>rfl
  | succ d=>
   rw[rq,W (by rw[hd (xs:=[x,y]) (ys:=[c,e]) rfl];decide)];simp[Ex.dK,Dm,E d,u d,dR]
def kt(t:Tk):Int×S:=(t.k,t.t)
def LG{c}{r}(h:pE c=aM)(a:(c==47)=aM):ld aM (c::r)=0:=by
 rw[ld,W (by rw[h];decide),W (by rw[a,di];decide)]
def nM{c}{r}(h:fT c=aM)(a:dA c=aM)(b:pF.contains c=aF)(d:sK (c::r)=aM):lZ (c::r)=.ok (4,[c],0,1):=by
 have e:lZ (c::r)=if fT c then nH _ else if dA c then sJ _ else oc _:=I
 have n:jD (c::r)=1:=by
  unfold jD;rw[d];dsimp only;rw[W Z,K b]
 rw[e,h,a,W Z,W Z,oc,n];rfl
def soft(r:S):Prop:=∀d,r.head? =Hg d->d≠61/\d≠62
def lA{c}{r}(a:[38,124].contains c=aM)(h:soft r):sK (c::r)=aM:=by
 cases r with
 | nil=>rfl
 | cons d r=>
  obtain⟨h1,c⟩:=h d I;have e:(d==61)=aM:=Wl
  have b:(d==62)=aM:=by simpa using c
  show(_||_||_)=aM;rw[e,b,a,di,gr,gr];rfl
structure De (ts:List Tk) (n m:Nat) (s:S):Prop where
 a:∀i,i<n->(tk ts i).k=4/\(tk ts i).t=s
 b:∀i,n<=i->i<n+m->(tk ts i).k=4/\(tk ts i).t=[40]
 c:(tk ts (n+m)).k=1/\(tk ts (n+m)).t=[120]
 e:∀i,n+m<i->i<=n+m+m->(tk ts i).k=4/\(tk ts i).t=[41]
 z:(tk ts (n+m+m+1)).k=5
 l:Z8 ts=n+m+m+2
section
variable {ts:X Tk} {n m:Nat} {s:S}
def VT{ts}{i}{t s}(h:(tk ts i).t=t)(w:t≠s):sg ts i s=aM:=by
 unfold sg;rw[h,bC w,gr]
def M4{ts}{i}{t}(h:(tk ts i).k=4/\(tk ts i).t=t):sg ts i t=aF:=by
 unfold sg;rw[h.1,h.2,bF I];rfl
end
abbrev K3:=Int×S×Int
def k3(t:Tk):K3:=(t.k,t.t,t.n)
def VU{p:UInt8->Prop}(h:∀n:Fin 256,p (UInt8.ofNat n.val)) c:p c:=by
 have:=h ⟨c.toNat,c.toNat_lt⟩;simpa using this
def AN{p}{r:S}(h:∀c,r.head? =Hg c->p c=aM):∀l,(∀c,c∈l->p c=aF)->(l++r).takeWhile p=l
 | [],_=>by
  cases r with
  | nil=>rfl
  | cons c r=>rw[cb,dC,W (by rw[h c I];decide)]
 | c::l,a=>by rw[bW,dC,K (a c R),AN h l λx hx=>a x Rk]
def Kg{a b:S}(h:a≠[]):(a++b).head? =a.head? :=by
 cases a with
 | nil=>exact absurd I h
 | cons c a=>rfl
def qg{u}(h:u<10):Lib.decDigits u=[UInt8.ofNat (48+u)]:=by rw[Lib.decDigits,dif_pos h]
def ta{u}(h:¬u<10):Lib.decDigits u=Lib.decDigits (u/10)++[UInt8.ofNat (48+u % 10)]:=by rw[Lib.decDigits,dif_neg h]
def Cq{u}(h:u<10):(UInt8.ofNat (48+u)).toNat=48+u:=by
 rw[UInt8.toNat_ofNat'];omega
def adz{u}(h:u<10):dA (UInt8.ofNat (48+u))=aF:=by
 rw[dA];simp;omega
def Cs u:∀c,c∈Lib.decDigits u->dA c=aF:=by
 induction u using Nat.strongRecOn with
 | _ u i=>
  intro c h;by_cases a:u<10
  .rw[qg a,aV]at h;subst h;exact adz a
  rw[ta a,dc,aV]at h;rcases h with h | rfl
  .exact i _ J c h
  exact adz J
def AO u:Lib.decDigits u≠[]:=by
 by_cases h:u<10
 .rw[qg h];simp
 rw[ta h];simp
def aff a l c:lY a (l++[c])=lY a l*10+(c.toNat-48):=by
 simp[lY,nA]
def aaO u:lY 0 (Lib.decDigits u)=u:=by
 induction u using Nat.strongRecOn with
 | _ u i=>
  by_cases h:u<10
  .rw[qg h];have:=Cq h;simp[lY,CG,List.foldl_nil];omega
  rw[ta h,aff,i _ J,Cq J];omega
def xCM u (h:0<u):(Lib.decDigits u).head? ≠Hg 48:=by
 induction u using Nat.strongRecOn with
 | _ u i=>
  by_cases a:u<10
  .rw[qg a,pW];intro e;injection e with e;have:=bK UInt8.toNat e;rw[Cq a]at this;have b:(48:UInt8).toNat=48:=I;omega
  rw[ta a,Kg (AO _)];exact i _ J J
def aef u (h:1<Z8 (Lib.decDigits u)):0<u:=by
 refine bM λn=>?_;have:u=0:=J
 subst this;rw[qg Z]at h;simp at h
def Cur{c}(h:dA c=aF):fF c=aF:=by unfold fF;rw[h,oQ]
def aiS{c}(h:dA c=aF):fT c=aM:=by
 rw[dA]at h;rw[fT];simp at h;simp;omega
def qH{n}(h:0<=n):Lib.itoa n=Lib.decDigits n.toNat:=by
 rw[Lib.itoa];rw[W J]
def aiL{n}(d:0<=n)(k:n<=9223372036854775807){r}(b:∀c,r.head? =Hg c->fF c=aM):lZ (Lib.itoa n++r)=.ok (3,[],n,Z8 (Lib.itoa n)):=by
 rw[qH d];generalize o:n.toNat=u;have f:n=u:=J
 have g:=Cs u;have i:=AO u;have hd:=AN (p:=dA) (λc h=>by
  have:=b c h;exact(fN.1 this).2) (Lib.decDigits u) g
 have j:gL (Lib.decDigits u++r)=(u,Z8 (Lib.decDigits u),0):=by
  unfold gL;rw[hd,aaO];rw[W (by simp[i]),W,K J];rintro(h | ⟨e,c⟩)
  .exact i h
  rw[Kg i]at c;exact xCM u (aef u e) c
 have a:sJ (Lib.decDigits u++r)=.ok (3,[],n,Z8 (Lib.decDigits u)):=by
  unfold sJ;rw[j,AN (p:=fF) b (Lib.decDigits u) λc e=>Cur (g c e),W R,W R,f]
 generalize l:Lib.decDigits u=m at*
 cases m with
 | nil=>exact absurd I i
 | cons c m=>
  have n:=g c R;have e:lZ (c::m++r)=if fT c then nH _ else if dA c then sJ _ else oc _:=I
  rw[e,aiS n,n,W Z,K I,a]
def wl{l}{i}{p r}{k}{t}{n}{ts}(h:l.drop i=p++r)(a:p≠[])(b:ld aM (p++r)=0)(e:lZ (p++r)=.ok (k,t,n,Z8 p))(d:j8 l (i+Z8 p)=.ok ts):j8 l i=.ok (⟨k,t,n,i⟩::ts):=by
 have c:=vA.2 a;have f:=by
  have:=bK List.length h;rw[bZ,aP]at this;omega
 rw[jT J,h,b,gP,W J,h,e];dsimp only;rw[d]
def kw{l:S}{i}{p r}(h:l.drop i=p++r):l.drop (i+Z8 p)=r:=by
 rw[<-lQ,h,List.drop_left]
def Bl{l:S}{i}{p r}(a:i<=Z8 l)(h:l.drop i=p++r):i+Z8 p<=Z8 l:=by
 have:=bK List.length h;rw[bZ,aP]at this;omega
def mC:Nat->Ex->L->S
 | 0,_,_=>[]
 | d+1,x,wr=>clo wr (opn wr []++(
  if x.k=1 then Lib.itoa x.n
  else if x.k=2 then x.s
  else if x.k=3 then[105,110,40]++x.s++[41]
  else if x.k=4 then(match x.dK with
   | [y]=>eP x.op.toNat++mC d y (VM (B y<6))
   | _=>[])
  else(match x.dK with
   | [y,z]=>mC d y (VM (B y<B x))++([32]++eP x.op.toNat++[32])++mC d z (VM (B z<=B x))
   | _=>[])))
def oL wr l:opn wr l=l++opn wr []:=by cases wr<;>simp[opn]
def agv wr l m:clo wr (l++m)=l++clo wr m:=by cases wr<;>simp[clo]
def M7 wr l:Z8 l<=Z8 (clo wr l):=by cases wr<;>simp[clo]
def af9 wr l:Z8 l<=Z8 (opn wr l):=by cases wr<;>simp[opn]
def Kh:∀d x wr l,Z8 l<=Z8 (qz d x wr l)
 | 0,_,_,_=>aX _
 | d+1,x,wr,l=>by
  rw[qz];split
  .exact aX _
  refine bp ?_ (M7 _ _);have h:=af9 wr l;split
  .rw[aP];omega
  split
  .rw[aP];omega
  split
  .rw[aP];omega
  split
  .split
   .rename_i y _;have:=Kh d y (VM (B y<6)) (opn wr l++eP x.op.toNat);rw[aP]at this;omega
   exact aX _
  split
  .rename_i y z _;have b:=Kh d y (VM (B y<B x)) (opn wr l);have a:=Kh d z (VM (B z<=B x)) (qz d y (VM (B y<B x)) (opn wr l)++([32]++eP x.op.toNat++[32]));rw[aP]at a;omega
  exact aX _
def FG:∀d {x:Ex} wr l,de d x=aF->Z8 (qz d x wr l)<=16384->qz d x wr l=l++mC d x wr
 | 0,x,wr,l,h,_=>Rl
 | d+1,x,wr,l,h,c=>by
  rw[de,H]at h;obtain⟨b,a⟩:=h;have f:=Kh (d+1) x wr l;have e:¬16384<Z8 l:=J
  rw[qz,W e]at c⊢;rw[mC,<-agv];have P:=bp (M7 wr _) c;by_cases k:x.k=1
  .rw[K k,K k,oL wr l,be]
  by_cases g:x.k=2
  .rw[W k,W k,K g,K g,oL wr l,be]
  by_cases k3:x.k=3
  .rw[W k,W k,W g,W g,K k3,K k3,oL wr l,be]
  by_cases h:x.k=4
  .obtain⟨y,i,_⟩:=vT b h;rw[W k,W g,W k3,K h,i]at P;rw[W k,W k,W g,W g,W k3,W k3,K h,K h,i];rw[i]at a;dsimp only at P⊢;simp[kl,dR]at a;rw[FG d _ _ a P,oL wr l];simp
  obtain⟨_,y,z,i,_⟩:=qA b k g k3 h;rw[W k,W g,W k3,W h,i]at P;rw[W k,W k,W g,W g,W k3,W k3,W h,W h,i];rw[i]at a;dsimp only at P⊢;simp[kl,dR,H]at a;have j:=Kh d z (VM (B z<=B x)) (qz d y (VM (B y<B x)) (opn wr l)++([32]++eP x.op.toNat++[32]));rw[aP]at j;rw[FG d _ _ a.2 P,FG d _ _ a.1 J,oL wr l];simp
def Zv(wr:L):X K3:=if wr then[(4,[40],0)]else[]
def TK(wr:L):X K3:=if wr then[(4,[41],0)]else[]
def po:Nat->Ex->L->X K3
 | 0,_,_=>[]
 | d+1,x,wr=>Zv wr++(
  if x.k=1 then[(3,[],x.n)]
  else if x.k=2 then[(1,x.s,0)]
  else if x.k=3 then[(2,[105,110],0),(4,[40],0),(1,x.s,0),(4,[41],0)]
  else if x.k=4 then(match x.dK with
   | [y]=>(4,eP x.op.toNat,0)::po d y (VM (B y<6))
   | _=>[])
  else(match x.dK with
   | [y,z]=>po d y (VM (B y<B x))++(4,eP x.op.toNat,0)::po d z (VM (B z<=B x))
   | _=>[]))++TK wr
def mR(c:UInt8):L:=fT c||dA c||c==40||c==45||c==33
def adW:∀n:Fin 256,mR (UInt8.ofNat n.val)=aF->pE (UInt8.ofNat n.val)=aM/\(UInt8.ofNat n.val==47)=aM/\UInt8.ofNat n.val≠61/\UInt8.ofNat n.val≠62:=VE
def mj{c}(h:mR c=aF):pE c=aM/\(c==47)=aM/\c≠61/\c≠62:=VU (p:=λc=>mR c=aF->pE c=aM/\(c==47)=aM/\c≠61/\c≠62) adW c h
def V0(c:UInt8):L:=[32,41,59,93,44,10].contains c
def u9(r:S):Prop:=∀c,r.head? =Hg c->V0 c=aF
def aaP:∀n:Fin 256,V0 (UInt8.ofNat n.val)=aF->fF (UInt8.ofNat n.val)=aM/\dA (UInt8.ofNat n.val)=aM/\UInt8.ofNat n.val≠61/\UInt8.ofNat n.val≠62:=VE
def M8{c}(h:V0 c=aF):fF c=aM/\dA c=aM/\c≠61/\c≠62:=VU (p:=λc=>V0 c=aF->fF c=aM/\dA c=aM/\c≠61/\c≠62) aaP c h
def u9.word{r}(h:u9 r):∀l,(∀c,c∈l->fF c=aF)->(l++r).takeWhile fF=l
 | [],_=>by
  cases r with
  | nil=>rfl
  | cons c r=>
   rw[cb,dC,W (by rw[(M8 (h c I)).1];decide)]
 | c::l,a=>by
  rw[bW,dC,K (a c R),h.word l λx hx=>a x Rk]
def PV{n}(a:0<=n)(b:n<=9223372036854775807){r}(d:u9 r):lZ (Lib.itoa n++r)=.ok (3,[],n,Z8 (Lib.itoa n)):=aiL a b λc h=>(M8 (d c h)).1
def Ki{s r}(n:dI s=aF)(d:u9 r):lZ (s++r)=.ok (1,s,0,Z8 s):=by
 unfold dI at n;simp only[H]at n;obtain⟨⟨⟨h,a⟩,b⟩,h4⟩:=n;obtain⟨h,f⟩:=aO h;have h4:kI.contains s=aM:=Me
 have w:nH (s++r)=.ok (1,s,0,Z8 s):=by
  unfold nH;rw[d.word s λc e=>by rw[<-aO b]at e;exact Ax c e,W J,h4];rfl
 cases s with
 | nil=>exact absurd I h
 | cons c s=>
  have e:lZ (c::s++r)=if fT c then nH _ else if dA c then sJ _ else oc _:=I
  have a:fT c=aF:=a;rw[e,a,K I,w]
def aga{op}(h:1<=op)(a:op<=13) r:lZ (eP op++32::r)=.ok (4,eP op,0,Z8 (eP op))/\ld aM (eP op++32::r)=0:=by
 match op,h,a with
 | 1,_,_=>exact⟨I,I⟩
 | 2,_,_=>exact⟨I,I⟩
 | 3,_,_=>exact⟨I,I⟩
 | 4,_,_=>exact⟨I,I⟩
 | 5,_,_=>exact⟨I,I⟩
 | 6,_,_=>exact⟨I,I⟩
 | 7,_,_=>exact⟨I,I⟩
 | 8,_,_=>exact⟨I,I⟩
 | 9,_,_=>exact⟨I,I⟩
 | 10,_,_=>exact⟨I,I⟩
 | 11,_,_=>exact⟨I,I⟩
 | 12,_,_=>exact⟨I,I⟩
 | 13,_,_=>exact⟨I,I⟩
def wU:∀d {x:Ex} wr,de d x=aF->lq d x->∃c t,mC d x wr=c::t/\mR c=aF
 | 0,x,wr,h,_=>Rl
 | d+1,x,aF,h,_=>⟨40,_,I,Z⟩
 | d+1,x,aM,h,⟨n,s⟩=>by
  rw[de,H]at h;obtain⟨a,b⟩:=h;have e:mC (d+1) x aM=(
  if x.k=1 then Lib.itoa x.n
  else if x.k=2 then x.s
  else if x.k=3 then[105,110,40]++x.s++[41]
  else if x.k=4 then(match x.dK with
   | [y]=>eP x.op.toNat++mC d y _
   | _=>[])
  else(match x.dK with
   | [y,z]=>mC d y _++_++mC d z _
   | _=>[])):=I
  rw[e];by_cases k:x.k=1
  .rw[K k];have d:0<=x.n:=by
    rw[iu,K k]at a;have:=(xJ a).1;split at this<;>omega
   rw[qH d];cases h:Lib.decDigits x.n.toNat with
   | nil=>exact absurd h (AO _)
   | cons c m=>
    have:=Cs x.n.toNat c (by rw[h];simp);exact⟨c,m,I,by unfold mR;rw[this];simp⟩
  have m:dI x.s=aF->∃c t,x.s=c::t/\mR c=aF:=λn=>by
   unfold dI at n;simp at n;obtain⟨⟨⟨d,h⟩,f⟩,g⟩:=n;cases s:x.s with
   | nil=>rw[s]at h;cases h
   | cons c t=>
    rw[s]at h;have h:fT c=aF:=h;exact⟨c,t,I,by unfold mR;rw[h];simp⟩
  by_cases e:x.k=2
  .rw[W k,K e];exact m (kb a (.inl e))
  by_cases k3:x.k=3
  .rw[W k,W e,K k3];exact⟨105,_,I,Z⟩
  by_cases f:x.k=4
  .obtain⟨y,c,h⟩:=vT a f;rw[W k,W e,W k3,K f,c];rcases h with h | h
   .rw[h];exact⟨45,_,I,Z⟩
   rw[h];exact⟨33,_,I,Z⟩
  obtain⟨_,y,z,h,_⟩:=qA a k e k3 f;rw[W k,W e,W k3,W f,h];rw[h]at b s;simp[kl,dR,H]at b;obtain⟨c,t,g,i⟩:=wU d _ b.1 (s y R);dsimp only;rw[g];exact⟨c,_,I,i⟩
def qI{r}(a:∃c t,r=c::t/\mR c=aF):soft r:=by
 obtain⟨c,t,rfl,h⟩:=a;intro d hd;simp at hd;subst hd;exact⟨(mj h).2.2.1,(mj h).2.2.2⟩
def u9.soft{r}(h:u9 r):soft r:=λd hd=>(M8 (h d hd)).2.2
def wV{a b}(h:∃c t,a=c::t/\mR c=aF):∃c t,a++b=c::t/\mR c=aF:=by
 obtain⟨c,t,rfl,s⟩:=h;exact⟨c,t++b,I,s⟩
def adA{l}{i}{r}(h:l.drop i=32::r)(b:ld aM r=0):j8 l i=j8 l (i+1):=by
 have a:i<=Z8 l:=by
  refine bM λn=>?_;rw[dJ J]at h;cases h
 rw[oA a,h,ld,K Z,b]
def wW{l}:∀d {x:Ex} wr i {r:S} {s:X Tk},de d x=aF->lq d x->i<=(Z8 l)->l.drop i=mC d x wr++r->u9 r->j8 l (i+Z8 (mC d x wr))=.ok s->∃u,j8 l i=.ok (u++s)/\u.map k3=po d x wr
 | 0,x,wr,i,r,s,h,_,_,_,_,_=>Rl
 | d+1,x,wr,i,r,s,h,⟨A,g⟩,w,m,p,f=>by
  have C:=h;rw[de,H]at h;obtain⟨v,j⟩:=h;have o:∀(i:Nat) {r:S} {s:X Tk},i<=(Z8 l)->l.drop i=mC (d+1) x aM++r->u9 r->j8 l (i+Z8 (mC (d+1) x aM))=.ok s->∃u,j8 l i=.ok (u++s)/\u.map k3=po (d+1) x aM:=by
   intro i r s w m p f;have e:mC (d+1) x aM=(
   if x.k=1 then Lib.itoa x.n
   else if x.k=2 then x.s
   else if x.k=3 then[105,110,40]++x.s++[41]
   else if x.k=4 then(match x.dK with
    | [y]=>eP x.op.toNat++mC d y (VM (B y<6))
    | _=>[])
   else(match x.dK with
    | [y,z]=>mC d y (VM (B y<B x))++([32]++eP x.op.toNat++[32])++mC d z (VM (B z<=B x))
    | _=>[])):=I
   have h:po (d+1) x aM=(
   if x.k=1 then[(3,[],x.n)]
   else if x.k=2 then[(1,x.s,0)]
   else if x.k=3 then[(2,[105,110],0),(4,[40],0),(1,x.s,0),(4,[41],0)]
   else if x.k=4 then(match x.dK with
    | [y]=>(4,eP x.op.toNat,0)::po d y (VM (B y<6))
    | _=>[])
   else(match x.dK with
    | [y,z]=>po d y (VM (B y<B x))++(4,eP x.op.toNat,0)::po d z (VM (B z<=B x))
    | _=>[]))++[]:=I
   rw[bD]at h;obtain⟨c0,L,F,N⟩:=wU (d+1) aM C ⟨A,g⟩;have E:ld aM (mC (d+1) x aM++r)=0:=by
    rw[F,bW];exact LG (mj N).1 (mj N).2.1
   have G:mC (d+1) x aM≠[]:=by rw[F];simp
   by_cases D:x.k=1
   .rw[K D]at e h;have a:0<=x.n:=by
     rw[iu,K D]at v;have:=(xJ v).1;split at this<;>omega
    rw[h];exact⟨[⟨3,[],x.n,(i:Nat)⟩],wl m G E (by rw[e];exact PV a A.2 p) f,I⟩
   by_cases M:x.k=2
   .rw[W D,K M]at e h;rw[h];exact⟨[⟨1,x.s,0,(i:Nat)⟩],wl m G E (by rw[e];exact Ki (kb v (.inl M)) p) f,I⟩
   by_cases T:x.k=3
   .rw[W D,W M,K T]at e h;have P:=kb v (.inr T);obtain⟨Y,V,Q,q⟩:∃c t,x.s=c::t/\mR c=aF:=by
     have y:=P;unfold dI at y;simp only[H]at y;obtain⟨⟨⟨_,z⟩,_⟩,_⟩:=y;cases g:x.s with
     | nil=>rw[g]at z;cases z
     | cons c t=>
      rw[g]at z;have z:fT c=aF:=z;exact⟨c,t,I,by unfold mR;rw[z];simp⟩
    have a0:l.drop i=[105,110]++([40]++(x.s++([41]++r))):=by rw[m,e];simp
    have a1:=kw a0;have a2:=kw a1;have a3:=kw a2;have len:Z8 (mC (d+1) x aM)=2+1+Z8 x.s+1:=by rw[e];simp;omega
    have f:j8 l (i+Z8 ([105,110]:S)+Z8 ([40]:S)+Z8 x.s+Z8 ([41]:S))=.ok s:=by
     rw[<-f,len];congr 1;simp only[aY,bE];omega
    have b3:=wl (n:=0) a3 R (LG Z Z) (nM Z Z Z (lA Z p.soft)) f;have b2:=wl (n:=0) (k:=1) (t:=x.s) a2 (by rw[Q];simp) (by rw[Q,bW];exact LG (mj q).1 (mj q).2.1) (Ki P λc hc=>VB) b3;have b1:=wl (n:=0) a1 R (LG Z Z) (nM Z Z Z (lA Z (qI (wV (a:=x.s) (b:=[41]++r) ⟨Y,V,Q,q⟩)))) b2;have b0:=wl (n:=0) (k:=2) (t:=[105,110]) a0 R (LG Z Z) I b1;rw[h];exact⟨[_,_,_,_],b0,I⟩
   by_cases k:x.k=4
   .obtain⟨y,P,n⟩:=vT v k;rw[W D,W M,W T,K k,P]at e h;dsimp only at e h;rw[P]at j g;simp only[kl,dR]at j;have z:=g y R;have Q:=wU d (VM (B y<6)) j z;have q:l.drop i=eP x.op.toNat++(mC d y (VM (B y<6))++r):=by rw[m,e,be]
    have V:=kw q;have f:j8 l (i+Z8 (eP x.op.toNat)+Z8 (mC d y (VM (B y<6))))=.ok s:=by
     rw[<-f,e,aP,fI]
    obtain⟨u,Y,u2⟩:=wW d (VM (B y<6)) _ j z (Bl w q) V p f;have t:lZ (eP x.op.toNat++(mC d y (VM (B y<6))++r))=.ok (4,eP x.op.toNat,0,Z8 (eP x.op.toNat))/\eP x.op.toNat≠[]/\ld aM (eP x.op.toNat++(mC d y (VM (B y<6))++r))=0:=by
     rcases n with n | n
     .rw[n];exact⟨nM (c:=45) Z Z Z (lA Z (qI (wV (a:=mC d y (VM (B y<6))) (b:=r) Q))),Z,LG Z Z⟩
     rw[n];exact⟨nM (c:=33) Z Z Z (lA Z (qI (wV (a:=mC d y (VM (B y<6))) (b:=r) Q))),Z,LG Z Z⟩
    rw[h];exact⟨⟨4,eP x.op.toNat,0,(i:Nat)⟩::u,wl q t.2.1 t.2.2 t.1 Y,by rw[cu,u2];rfl⟩
   obtain⟨_,y,z,hy,Xp,NA⟩:=qA v D M T k;rw[W D,W M,W T,W k,hy]at e h;dsimp only at e h;rw[hy]at j g;simp only[kl,dR,H]at j;have E4:=g y R;have Y:=g z R;obtain⟨cz,tz,P,V⟩:=wU d (VM (B z<=B x)) j.2 Y;have QJ:ld aM (mC d z (VM (B z<=B x))++r)=0:=by
    rw[P,bW];exact LG (mj V).1 (mj V).2.1
   have Q:=aga (op:=x.op.toNat) J J (mC d z (VM (B z<=B x))++r);have XG:eP x.op.toNat≠[]:=by
    have:∀q,q<14->1<=q->eP q≠[]:=Z
    exact this _ J J
   have a:l.drop i=mC d y (VM (B y<B x))++([32]++(eP x.op.toNat++([32]++(mC d z (VM (B z<=B x))++r)))):=by rw[m,e];simp only[be]
   have b:=kw a;have n:=kw b;have t:=kw n;have a4:=kw t;have i1:=Bl w a;have i2:=Bl i1 b;have i3:=Bl i2 n;have i4:=Bl i3 t;have f:j8 l (i+Z8 (mC d y (VM (B y<B x)))+Z8 ([32]:S)+Z8 (eP x.op.toNat)+Z8 ([32]:S)+Z8 (mC d z (VM (B z<=B x))))=.ok s:=by
    rw[<-f,e];congr 1;simp only[aP,aY,bE];omega
   obtain⟨vs,v1,v2⟩:=wW d (VM (B z<=B x)) _ j.2 Y i4 a4 p f;have b3:j8 l (i+Z8 (mC d y (VM (B y<B x)))+Z8 ([32]:S)+Z8 (eP x.op.toNat))=.ok (vs++s):=by
    exact(adA t QJ).trans v1
   have b2:=wl n XG Q.2 Q.1 b3;have b1:=(adA b Q.2).trans b2;obtain⟨u,u1,u2⟩:=wW d (VM (B y<B x)) i j.1 E4 w a (λc hc=>VB) b1;rw[h];exact⟨u++⟨4,eP x.op.toNat,0,_⟩::vs,by rw[u1,be];rfl,by rw[cX,cu,u2,v2];rfl⟩
  cases wr
  .exact o i w m p f
  have e:mC (d+1) x aF=[40]++(mC (d+1) x aM++[41]):=by
   unfold mC;simp[clo,opn]
  have z:po (d+1) x aF=(4,[40],0)::(po (d+1) x aM++[(4,[41],0)]):=by
   unfold po;simp[Zv,TK]
  have D:=wU (d+1) aM C ⟨A,g⟩;have h:l.drop i=[40]++(mC (d+1) x aM++([41]++r)):=by rw[m,e];simp only[be]
  have k:=kw h;have q:=kw k;have f:j8 l (i+Z8 ([40]:S)+Z8 (mC (d+1) x aM)+Z8 ([41]:S))=.ok s:=by
   rw[<-f,e];congr 1;simp only[aP,aY,bE];omega
  have y:=wl (n:=0) q R (LG Z Z) (nM Z Z Z (lA Z p.soft)) f;obtain⟨u,E,F⟩:=o _ (Bl w h) k (λc hc=>VB) y;have t:=wl (n:=0) h R (LG Z Z) (nM Z Z Z (lA Z (qI (wV (a:=mC (d+1) x aM) (b:=[41]++r) D)))) E;rw[z];refine⟨⟨4,[40],0,(i:Nat)⟩::(u++[⟨4,[41],0,((i+Z8 ([40]:S)+Z8 (mC (d+1) x aM):Nat):Int)⟩]),by rw[t];simp only[bW,be,cb,iQ],?_⟩;rw[cu,cX,F];rfl
def At(t:X Tk)(i:Nat)(L:X K3):Prop:=∀j q,L[j]? =Hg q->k3 (tk t (i+j))=q
section
variable {ts:X Tk} {i:Nat} {A B:X K3}
def At.left(a:At ts i (A++B)):At ts i A:=λj q h=>a j q (by rw[ca (bd.1 h).1];exact h)
def At.right(h:At ts i (A++B)):At ts (i+Z8 A) B:=λa q j=>by
 have:=h (Z8 A+a) q (by rw[cG J,eo];exact j);rwa[<-fI]at this
def At.head{q}(h:At ts i (q::A)):(tk ts i).k=q.1/\(tk ts i).t=q.2.1/\(tk ts i).n=q.2.2:=by
 have:=h 0 q I;rw[<-this];exact⟨I,I,I⟩
def At.tail{q}(h:At ts i (q::A)):At ts (i+1) A:=λj p a=>by
 have:=h (j+1) p a;rwa[fI,oS 1 j]
def gdK{p q}(a:1<=p)(X:p<=13)(b:1<=q)(c:q<=13)(h:eP p=eP q):p=q:=by
 have:∀p,p<14->∀q,q<14->1<=p->1<=q->eP p=eP q->p=q:=Z
 exact this p J q J a b h
def amH{op}(a:1<=op)(b:op<=13)(c:(tk ts i).k=4)(t:(tk ts i).t=eP op) k:lf ts k i=if gj op=k then(op:Int)else 0:=by
 have:∀f q,1<=q->q+f<=14->jU ts k i f q=if q<=op/\op<q+f/\gj op=k then(op:Int)else 0:=by
  intro f
  induction f with
  | zero=>intro q _ _;rw[W J];rfl
  | succ f g=>
   intro q d j;rw[jU,g _ J J];by_cases e:q=op
   .subst e;have s:=M4 ⟨c,t⟩;by_cases h:gj q=k
    .rw[K ⟨h,s⟩,K ⟨aX _,J,h⟩]
    rw[W (λf=>h f.1),W J,W (λf=>h f.2.2)]
   have s:¬sg ts i _=aF:=λs=>e (by
    simp[sg,H,bU]at s;exact gdK d J a b (by rw[<-t,s.2]))
   rw[W (λm=>s m.2)];by_cases l:q+1<=op/\op<q+1+f/\gj op=k
   .rw[K l,K ⟨J,J,l.2.2⟩]
   rw[W l,W (λm=>l ⟨J,J,m.2.2⟩)]
 rw[lf,this 13 1 J J];by_cases h:gj op=k
 .rw[K h,K ⟨a,J,h⟩]
 rw[W h,W (λd=>h d.2.2)]
def Ct{op}(h:1<=op)(a:op<=13):0<=gj op/\gj op<=5:=by
 unfold gj;split
 .omega
 split
 .omega
 split
 .omega
 split
 .omega
 split
 .omega
 split
 .omega
 omega
def PW{f d k0}{x}{j}(h:dy ts f k0 d i=.ok (x,j))(a:k0<=6):∀m k,k+m=k0->(∀q:Int,k<=q->q<k0->lf ts q j=0)->dy ts (f+m) k d i=.ok (x,j)
 | 0,k,b,_=>by
  have:k=k0:=J
  subst this;exact h
 | m+1,k,e,b=>by
  rw[<-fI,dy,W J,PW h a m _ J λq d c=>b q J c];exact ady (b _ (kQ _) J) _
def Kj{f d k0}{e}(h:dy ts f k0 d i=.error e)(a:k0<=6):∀m k,k+m=k0->dy ts (f+m) k d i=.error e
 | 0,k,b=>by
  have:=J
  subst this;exact h
 | m+1,k,b=>by
  rw[<-fI,dy,W J,Kj h a m _ J];rfl
end
def Ok5(x:Ex)(j:Nat)(r:Pr):Prop:=(∃b,r=.ok (b,j)/\Sim x b)∨∃a,r=.error (21,a)
def Ok5.down{ts}{i f d k0 k}{x}{j}(c:Ok5 x j (dy ts (f-(k0-k)) k0 d i))(n:k0-k<=f)(b:k0<=6)(o:k<=k0)(g:∀q:Int,k<=q->q<k0->lf ts q j=0):Ok5 x j (dy ts f k d i):=by
 have e:f=(f-(k0-k))+(k0-k):=J
 rcases c with⟨m,h,l⟩ | ⟨a,h⟩
 .exact .inl ⟨m,by rw[e];exact PW h b _ k J g,l⟩
 exact .inr ⟨a,by rw[e];exact Kj h b _ k J⟩
abbrev PP(t:X Tk)(d:Nat):Prop:=∀{x:Ex} wr (k a i f:Nat),de d x=aF->At t i (po d x wr)->k<=6->(wr=aM->k<=B x)->a<=20->gM k a<=f->i+Z8 (po d x wr)<(Z8 t)->(∀q:Int,k<=q->q<=5->lf t q (i+Z8 (po d x wr))=0)->Ok5 x (i+Z8 (po d x wr)) (dy t f k a i)
abbrev QQ(t:X Tk)(d:Nat):Prop:=∀{x:Ex} (k b i f:Nat),de d x=aF->x.k=5->k=B x->At t i (po d x aM)->b<=20->gM k b<=f+1->i+Z8 (po d x aM)<(Z8 t)->(∀q:Int,k<q->q<=5->lf t q (i+Z8 (po d x aM))=0)->
 (∃c g,(Z8 t)-(i+Z8 (po d x aM))<=g/\dy t (f+1) k b i=iR t (dy t f (k+1) b) k g c (i+Z8 (po d x aM))/\Sim x c)∨∃a,dy t (f+1) k b i=.error (21,a)
def DT(x:Ex):x=.mk x.k x.n x.s x.op x.dK x.a:=by cases x;rfl
section
variable {ts:X Tk} {d:Nat}
def PX(D:PP ts d)(Y:QQ ts d):QQ ts (d+1):=by
 intro x k b c f I A M G N E T n;rw[de,H]at I;obtain⟨s,l⟩:=I;obtain⟨_,y,z,u,X,Q⟩:=qA s J J J J;have Z:x.n=0/\x.s=[]:=by
  rw[iu,W J,W J,W J,K A,H]at s;have:=xJ s.2;exact⟨this.1,this.2.1⟩
 have am:B x=gj x.op:=by rw[B,K A]
 obtain⟨r0,r5⟩:=Ct X Q;have S:po (d+1) x aM=(po d y (VM (B y<B x))++(4,eP x.op.toNat,0)::po d z (VM (B z<=B x))):=by
  rw[po,W J,W J,W J,W J,u];simp[Zv,TK]
 rw[S]at G T n⊢;rw[u]at l;simp only[kl,dR,H]at l;have i:=G.left;have o:=G.right;have v:=o.tail;obtain⟨t1,t2,_⟩:=o.head;rw[aP,aY]at T n⊢;generalize L:c+Z8 (po d y _)=j at*
 have t:c+(Z8 (po d y (VM (B y<B x)))+(Z8 (po d z (VM (B z<=B x)))+1))=j+1+Z8 (po d z (VM (B z<=B x))):=J
 rw[t]at T n⊢;generalize m:j+1+Z8 (po d z _)=j2 at*
 have C:∀q:Int,lf ts q j=if gj x.op=q then x.op else 0:=λq=>by
  have:=amH (ts:=ts) (i:=j) (op:=x.op.toNat) J J t1 t2 q;rwa[fy J]at this
 have r:x=.mk 5 0 [] x.op [y,z] x.a:=by
  have:=DT x;rw[A,Z.1,Z.2,u]at this;exact this
 have R:gM (k+1) b<=f:=by unfold gM at E⊢;omega
 have P:(∃e g,(Z8 ts)-j<=g/\dy ts (f+1) k b c=iR ts (dy ts f (k+1) b) k g e j/\Sim y e)∨∃a,dy ts (f+1) k b c=.error (21,a):=by
  by_cases d:B y=B x
  .have a:VM (B y<B x)=aM:=bC J;have z:y.k=5:=by
    refine bM λhn=>?_;have:B y=6:=by rw[B,W hn]
    omega
   rw[a]at i L;have:=Y (x:=y) k b c f l.1 z (by rw[d];exact M) i N E J (λq h1 h=>by rw[L,C,W J]);rw[L]at this;exact this
  have:=D (x:=y) _ (k+1) b c f l.1 i J (λw=>by have:=aR w;omega) N R J (λq h1 h=>by rw[L,C,W J]);rw[L]at this;rw[dy,W J];rcases this with⟨e,h1,h⟩ | ⟨a,h1⟩
  .exact .inl ⟨e,(Z8 ts)-j,aX _,Vw,h⟩
  exact .inr ⟨a,Vw⟩
 refine P.elim (λ⟨e,g,hg,h1,h⟩=>?_) .inr;obtain⟨g,rfl⟩:∃aC,g=aC+1:=⟨g-1,J⟩
 have pK:lf ts (k:Int) j=x.op:=by rw[C,K J]
 have F:=D (x:=z) _ (k+1) b (j+1) f l.2 v J (λw=>by have:=aR w;omega) N R J (λq h1 h=>by rw[m];exact n q J h);rw[m]at F;rw[h1,iR,pK,W J];rcases F with⟨z',p,V⟩ | ⟨a,p⟩
 .refine .inl ⟨.mk 5 0 [] x.op [e,z'] e.a,g,J,by rw[p];rfl,?_⟩;rw[r];exact .two _ _ _ _ _ _ _ _ _ _ h V
 exact .inr ⟨a,by rw[p];rfl⟩
def aaQ(P:PP ts d)(Q:QQ ts d):PP ts (d+1):=by
 have p:∀{x:Ex} (k b i f:Nat),de (d+1) x=aF->At ts i (po (d+1) x aM)->k<=6->(k:Int)<=B x->b<=20->gM k b<=f->i+Z8 (po (d+1) x aM)<(Z8 ts)->(∀q:Int,(k:Int)<=q->q<=5->lf ts q (i+Z8 (po (d+1) x aM))=0)->Ok5 x (i+Z8 (po (d+1) x aM)) (dy ts f k b i):=by
  intro x k b i f u G e F N hf T h;have v:=u;rw[de,H]at u;obtain⟨g,j⟩:=u;by_cases m:x.k=5
  .obtain⟨_,y,z,D,X,A⟩:=qA g J J J J;have r:B x=gj x.op:=by rw[B,K m]
   obtain⟨E,L⟩:=Ct X A;obtain⟨c,n⟩:∃c:Nat,(c:Int)=B x:=⟨(B x).toNat,J⟩
   refine Ok5.down (k0:=c) ?_ YF J J λq h1 a=>h q h1 J;obtain⟨l,d⟩:∃s,f-(c-k)=s+1:=⟨f-(c-k)-1,YF⟩
   rw[d];rcases PX P Q c b i l v m n G N (by unfold gM at hf⊢;omega) T (λq h1 a=>h q J a)with⟨t,w,C,h1,a⟩ | o
   .exact .inl ⟨t,by rw[h1];exact ady (h _ J J) _,a⟩
   exact .inr o
  refine Ok5.down (k0:=6) ?_ YF J J λq h1 n=>h q h1 J;obtain⟨r,o⟩:∃t,f-(6-k)=t+1:=⟨f-(6-k)-1,YF⟩
  have R:(20-b)*8<=r:=YF
  rw[o,dy,K I];unfold rP;by_cases l:x.k=1
  .have w:po (d+1) x aM=[(3,[],x.n)]:=by rw[po,K l];rfl
   rw[w]at G⊢;obtain⟨f,a,k⟩:=G.head;dsimp only at f a k;rw[VT a Z,VT a Z,VT a Z,W Z,W Z,K f,k];refine .inl ⟨_,I,?_⟩;rw[iu,K l]at g;obtain⟨_,q,s,z⟩:=xJ g;have y:x.dK=[]:=bJ J;have:=DT x;rw[l,q,s,y]at this;rw[this];exact .leaf ..
  by_cases k:x.k=2
  .have y:po (d+1) x aM=[(1,x.s,0)]:=by rw[po,W l,K k];rfl
   rw[y]at G⊢;obtain⟨a,f,A⟩:=G.head;dsimp only at a f A;have C:∀s,sg ts i s=aM:=λs=>by unfold sg;rw[a];rfl
   rw[C,C,C,W Z,W Z,W (by rw[a];decide),K a,f];refine .inl ⟨_,I,?_⟩;rw[iu,W l,K (.inl k),H]at g;obtain⟨q,D,w,E⟩:=xJ g.2;have z:x.dK=[]:=bJ J;have:=DT x;rw[k,q,w,z]at this;rw[this];exact .leaf ..
  by_cases z:x.k=3
  .have O:po (d+1) x aM=[(2,[105,110],0),(4,[40],0),(1,x.s,0),(4,[41],0)]:=by rw[po,W l,W k,K z];rfl
   rw[O]at G⊢;obtain⟨a,w,V⟩:=G.head;obtain⟨y,A,X⟩:=G.tail.head;obtain⟨D,E,Y⟩:=G.tail.tail.head;obtain⟨f,q,U⟩:=G.tail.tail.tail.head;dsimp only at a w V y A X D E Y f q U;have C:∀s,sg ts i s=aM:=λs=>by unfold sg;rw[a];rfl
   rw[C,C,C,W Z,W Z,W (by rw[a];decide),W (by rw[a];decide),K ⟨a,w⟩];unfold Ik;rw[K (M4 ⟨y,A⟩),K D,K (M4 ⟨f,q⟩)];refine .inl ⟨_,I,?_⟩;rw[iu,W l,K (.inr z),H]at g;obtain⟨L,b2,M,b4⟩:=xJ g.2;have S:x.dK=[]:=bJ J;have:=DT x;rw[z,L,M,S]at this;rw[E,this];exact .leaf ..
  have s:x.k=4:=bM λs=>m (qA g l k z s).1;obtain⟨y,C,f⟩:=vT g s;have L:po (d+1) x aM=(4,eP x.op.toNat,0)::po d y (VM (B y<6)):=by
   rw[po,W l,W k,W z,K s,C];simp[Zv,TK]
  rw[L]at G T⊢;rw[C]at j;simp only[kl,dR]at j;obtain⟨D,w,M⟩:=G.head;dsimp only at D w M;have A:(sg ts i [45]||sg ts i [33])=aF:=by
   rcases f with f | f
   .have:sg ts i [45]=aF:=M4 ⟨D,by rw[w,f];rfl⟩;rw[this,N3]
   have:sg ts i [33]=aF:=M4 ⟨D,by rw[w,f];rfl⟩;rw[this,oQ]
  rw[K A];by_cases E:b=20
  .exact .inr ⟨(tk ts i).a,by rw[lc,K E];rfl⟩
  rw[lc,W E];rw[aY]at T⊢;have O:i+(Z8 (po d y (VM (B y<6)))+1)=i+1+Z8 (po d y (VM (B y<6))):=J
  rw[O]at T⊢;rcases P (x:=y) (VM (B y<6)) 6 (b+1) (i+1) r j G.tail (aX _) (λS=>by have:=aR S;omega) J UC T (λq h1 n=>J)with⟨U,h1,n⟩ | ⟨a,h1⟩
  .refine .inl ⟨_,Vw,?_⟩;rw[iu,W l,W J,K s]at g;obtain⟨a,d,y,V⟩:=xJ g;have q:(if(tk ts i).t=[33]then(15:Int)else 14)=x.op:=by
    rcases f with f | f
    .rw[w,f];rfl
    rw[w,f];rfl
   have:=DT x;rw[s,a,d,C]at this;rw[q,this];exact .one _ _ _ _ _ _ _ _ n
  exact .inr ⟨a,Vw⟩
 intro x wr k b i f u G e F N hf T h;cases wr
 .exact p k b i f u G e (F I) N hf T h
 have s:po (d+1) x aF=(4,[40],0)::(po (d+1) x aM++[(4,[41],0)]):=by
  unfold po;simp[Zv,TK]
 refine Ok5.down (k0:=6) ?_ YF J J λq h1 g=>h q h1 J;rw[s]at G T⊢;obtain⟨m,j⟩:∃v,f-(6-k)=v+1:=⟨f-(6-k)-1,YF⟩
 have R:(20-b)*8<=m:=YF
 obtain⟨r,t,z⟩:=G.head;have n:=G.tail.left;obtain⟨o,l,y⟩:=G.tail.right.head;dsimp only at r t z o l y;rw[j,dy,K I];unfold rP;rw[VT t Z,VT t Z,M4 ⟨r,t⟩,W Z,K I];by_cases w:b=20
 .exact .inr ⟨(tk ts i).a,by rw[lc,K w]⟩
 rw[lc,W w];rw[aY,aP,bf]at T⊢;have k:i+(Z8 (po (d+1) x aM)+1+1)=i+1+Z8 (po (d+1) x aM)+1:=J
 rw[k]at T⊢;have f:0<=B x:=by
  unfold B gj;split
  .split
   .omega
   split
   .omega
   split
   .omega
   split
   .omega
   split
   .omega
   split
   .omega
   omega
  omega
 rcases p 0 (b+1) (i+1) m u n J J J UC J (λq h1 g=>amE l Z q)with⟨A,h1,g⟩ | ⟨a,h1⟩
 .refine .inl ⟨A,?_,g⟩;rw[h1];simp only[ze];rw[K (M4 ⟨o,l⟩)]
 exact .inr ⟨a,Vw⟩
def Kk ts:∀d,PP ts d/\QQ ts d
 | 0=>⟨(by intro x wr k d i f h;cases h),(by intro x k d i f h;cases h)⟩
 | d+1=>⟨aaQ (Kk ts d).1 (Kk ts d).2,PX (Kk ts d).1 (Kk ts d).2⟩
end
def Kl{d:Nat}{x:Ex}(o:de d x=aF)(E:lq d x)(h:(iG (qz d x aM [])).2.1=0):Z8 (qz d x aM [])<=16384/\Sim x (iG (qz d x aM [])).1:=by
 have S:Z8 (qz d x aM [])<=16384:=by
  refine bM λb=>?_;unfold iG at h;have:cQ (qz d x aM [])=([],2, -1):=by rw[cQ,K J]
  rw[this,K Z]at h;exact absurd h (show ¬(2:Int)=0 by decide)
 refine⟨S,?_⟩;have e:=FG d aM [] o S;rw[cb]at e;rw[e]at h S⊢;generalize y:mC d x aM=L at*
 have Y:j8 L (0+Z8 L)=.ok [⟨5,[],0,((Z8 L:Nat):Int)⟩]:=by
  have hd:L.drop (Z8 L)=[]:=dJ (aX _);have a:ld aM []=0:=I;rw[bO,jT (aX _),hd,a,K J];rfl
 obtain⟨f,D,w⟩:=wW (l:=L) d (x:=x) aM 0 (r:=[]) o E (bh _) (by rw[fA,bD,y]) (λc b=>by cases b) (by rw[y];exact Y);generalize i:f++[(⟨5,[],0,((Z8 L:Nat):Int)⟩:Tk)]=s at*
 have F:cQ L=(s,0,0):=by
  rw[cQ,W J,D]
 have u:Z8 f=Z8 (po d x aM):=by rw[<-w,bQ]
 have H:Z8 s=Z8 f+1:=by rw[<-i,aP,bf]
 have G:At s 0 (po d x aM):=λv q z=>by
  rw[<-w,dr,ir]at z;obtain⟨t,g,rfl⟩:=z;have:tk s (0+v)=t:=by
   unfold tk;rw[<-i,bO,ca (bd.1 g).1,g];rfl
  rw[this]
 have k:(tk s (Z8 f)).k=5:=by
  unfold tk;rw[<-i,cG (aX _),oV];rfl
 have A:0<=B x:=by
  unfold B gj;split
  .split
   .omega
   split
   .omega
   split
   .omega
   split
   .omega
   split
   .omega
   split
   .omega
   omega
  omega
 have P:=(Kk s d).1 (x:=x) aM 0 0 0 (gM 0 0) o G Z (λ_=>J) Z (aX _) J (λq _ _=>af8 (by rw[bO,<-u];exact k) q);have m:oB s 0=dy s (gM 0 0) 0 0 0:=I;rw[<-m]at P;have n:iG L=if(cq s 0).2.2.1≠0 then(uZ,(cq s 0).2.2.1,(cq s 0).2.2.2)else if(tk s (cq s 0).2.1.toNat).k≠5 then(uZ,4,(tk s (cq s 0).2.1.toNat).a)else((cq s 0).1,0,(cq s 0).2.2.2):=by
  unfold iG;rw[F];rfl
 rw[n]at h⊢;have j:cq s 0=if 0<Z8 s/\nX s+1=Z8 s then(match oB s 0 with
  | .error (c,p)=>(uZ,0,c,p)
  | .ok (x,v)=>(x,(v:Int),0,0))else(uZ,0,1, -1):=by
  unfold cq;by_cases b:0<Z8 s/\nX s+1=Z8 s
  .rw[K b,K ⟨kQ _,J,b.2⟩];rfl
  rw[W b,W (λa=>b ⟨J,a.2.2⟩)]
 rw[j]at h⊢;have b:0<Z8 s/\nX s+1=Z8 s:=bM λb=>by
  rw[W b,K Z]at h;exact absurd h (show ¬(1:Int)=0 by decide)
 rw[K b]at h⊢;rcases P with⟨M,g,C⟩ | ⟨a,g⟩
 .rw[g]at h⊢;dsimp only at h⊢;rw[W Z,aW,bO,<-u,k,W Z];exact C
 rw[g]at h;dsimp only at h;rw[K Z]at h;exact absurd h (show ¬(21:Int)=0 by decide)
structure Em (ts tH:List Tk) (n o:Nat):Prop where
 e:∀i,n<=i->(tk ts i).k=5
 s:∀i,i<n->(tk tH (o+i)).k=(tk ts i).k/\(tk tH (o+i)).t=(tk ts i).t/\(tk tH (o+i)).n=(tk ts i).n
 c:(tk tH (o+n)).k=4/\((tk tH (o+n)).t=[59]∨(tk tH (o+n)).t=[93])
def Rm(n o:Nat)(r b:Pr):Prop:=∀x j,r=.ok (x,j)->∃a,b=.ok (a,o+j)/\Sim x a/\j<=n
def Km op:eP op≠[59]/\eP op≠[93]:=by
 rcases oT op 16 with h | h
 .have:∀q,q<16->eP q≠[59]/\eP q≠[93]:=Z
  exact this op h
 rw[eP];rw[cR (h)];decide
section
variable {ts tH:X Tk} {n o:Nat}
def Em.lt(h:Em ts tH n o){i}(k:(tk ts i).k≠5):i<n:=bM λa=>k (h.e i J)
def Em.sgl(h:Em ts tH n o){i}(c:i<n) s:sg tH (o+i) s=sg ts i s:=by
 unfold sg;have⟨a,b,_⟩:=h.s i c;rw[a,b]
def Em.sgn(h:Em ts tH n o){i}(d:i<=n){s}(a:s≠[59])(b:s≠[93]):sg tH (o+i) s=sg ts i s:=by
 rcases oT i n with l | l
 .exact h.sgl l s
 have:i=n:=J
 subst this;unfold sg;rw[h.e i J];have:VM ((tk tH _).t=s)=aM:=bC λe=>by
  rcases h.c.2 with c | c
  .exact a (by rw[<-e,c])
  exact b (by rw[<-e,c])
 rw[this,gr];rfl
def Em.opf(h:Em ts tH n o){i}(a:i<=n) k:∀f op,jU tH k (o+i) f op=jU ts k i f op
 | 0,_=>rfl
 | f+1,op=>by rw[jU,jU,h.sgn a (Km op).1 (Km op).2,h.opf a k f]
def Em.op(h:Em ts tH n o){i}(a:i<=n) k:lf tH k (o+i)=lf ts k i:=h.opf a k 13 1
def Rm.map{r r'}(h:Rm n o r r'){g g'}(f:∀x a,Sim x a->Sim (g x) (g' a)):Rm n o (Z6 g r) (Z6 g' r'):=by
 intro x j i;obtain⟨y,b,rfl⟩:=B1 i;have⟨a,c,d,e⟩:=h y j b;exact⟨g' a,by rw[c];rfl,f _ _ d,e⟩
def Rm.and{r r'}{f f'}(b:Rm n o r r')(i:∀x a j,r=.ok (x,j)->j<=n->Sim x a->Rm n o (f x j) (f' a (o+j))):Rm n o (EM r f) (EM r' f'):=by
 intro x j k;have⟨y,m,h,g⟩:=uq k;have⟨a,c,d,e⟩:=b y m h;rw[c];exact i y a m h e d x j g
def Rm.nest{r r'}{d}{a a'}(b:Rm n o r r'):Rm n o (lc d a r) (lc d a' r'):=by
 intro x j h;have⟨c,f⟩:=qy h;have:d≠20:=λe=>by rw[lc,K e]at h;cases h
 rw[lc,W this];exact b x j c
def Rm.par(w:Em ts tH n o){r r'}(a:Rm n o r r'):Rm n o (ze ts r) (ze tH r'):=by
 intro x i e;obtain⟨j,b,h,rfl⟩:=Ca e;have⟨f,c,d,g⟩:=a x j b;have l:=w.lt (zd h);exact⟨f,by rw[c];simp[ze];rw[K (by rw[w.sgl l];exact h)];rfl,d,l⟩
def Rm.err{e}{r'}:Rm n o (.error e) r':=λx j hx=>Rg
def Rm.in_(w:Em ts tH n o) i:Rm n o (Ik ts i) (Ik tH (o+i)):=by
 intro x j h;obtain⟨rfl,rfl⟩:=MO h;rw[Ik]at h;split at h
 .rename_i a;split at h
  .rename_i b;split at h
   .rename_i c;have l:=w.lt (zd c);have e:(tk tH (o+i+2)).k=(tk ts _).k/\(tk tH (o+i+2)).t=(tk ts _).t/\(tk tH _).n=(tk ts _).n:=w.s (i+2) J;refine⟨.mk 3 0 (tk tH (o+i+2)).t 0 [] (tk tH (o+i)).a,?_,?_,l⟩
    .rw[Ik];rw[K (show sg tH (o+i+1) [40]=aF from(w.sgl (i:=i+1) J _).trans a),K (by rw[e.1];exact b),K (show sg tH (o+i+3) [41]=aF from(w.sgl (i:=i+3) l _).trans c)];rfl
    rw[e.2.1];exact .leaf ..
   cases h
  cases h
 cases h
def Rm.one(h:Em ts tH n o){b O E a:Nat->Pr}{d i:Nat}(e:∀i,i<=n->Rm n o (b i) (E (o+i)))(f:∀i,i<=n->Rm n o (O i) (a (o+i)))(g:i<=n):Rm n o (rP ts b O d i) (rP tH E a d (o+i)):=by
 by_cases c:i=n
 .subst c;have j:=h.e i (aX _);have k:∀s,sg ts i s=aM:=λs=>by
   unfold sg;rw[j];rfl
  have:rP ts b O d i=.error (jq ts i):=by
   unfold rP;rw[k,k,k,W Z,W Z,W (by rw[j];decide),W (by rw[j];decide),W (by rw[j];rintro⟨d,_⟩;exact absurd d Z)]
  rw[this];exact Rm.err
 have l:i<n:=J
 obtain⟨k,d,k3⟩:=h.s i l;unfold rP;rw[h.sgl l,h.sgl l,h.sgl l,k,d,k3];split
 .exact Rm.map (Rm.nest (f (i+1) l)) λx m j=>.one _ _ _ _ _ _ _ _ j
 split
 .exact Rm.nest (Rm.par h (e (i+1) l))
 split
 .intro x m j;simp only[kH,nq]at j;obtain⟨rfl,rfl⟩:=j;exact⟨_,I,.leaf ..,l⟩
 split
 .intro x m j;simp only[kH,nq]at j;obtain⟨rfl,rfl⟩:=j;exact⟨_,I,.leaf ..,l⟩
 split
 .exact Rm.in_ h i
 exact Rm.err
def Rm.loop(h:Em ts tH n o){E E'}{k}(m:∀i x j,E i=.ok (x,j)->i<j)(c:∀i,i<=n->Rm n o (E i) (E' (o+i))):∀g a x b j,j<=n->n-j<g->n-j<a->Sim x b->Rm n o (iR ts E k g x j) (iR tH E' k a b (o+j))
 | 0,_,_,_,j,_,d,_,_=>J
 | _,0,_,_,j,_,_,d,_=>J
 | g+1,a+1,x,b,j,d,e,f,s=>by
  rw[iR,iR,h.op d];split
  .intro y l k;obtain⟨rfl,rfl⟩:=k;exact⟨_,I,s,d⟩
  rename_i k;refine Rm.and (c _ (h.lt (qn _ _ k))) λy p o l n F=>?_;have:=m _ _ _ l;exact Rm.loop h m c g a _ _ o n J J (.two _ _ _ _ _ _ _ _ _ _ s F)
def Rm.expr(w:Em ts tH n o)(l:Z8 ts=n+1)(h:o+n<Z8 tH):∀f k d i,i<=n->Rm n o (dy ts f k d i) (dy tH f k d (o+i))
 | 0,k,d,i,_=>Rm.err
 | f+1,k,d,i,a=>by
  rw[dy,dy];split
  .exact Rm.one w (λi a=>Rm.expr w l h f 0 _ i a) (λi a=>Rm.expr w l h f 6 _ i a) a
  have R:=λi a=>Rm.expr w l h f (k+1) d i a;exact Rm.and (R i a) λx g c e j s=>Rm.loop w (λi x c b=>lp _ _ _ _ b) R _ _ _ _ _ j J J s
end
def Sim.trans{x y}(h:Sim x y):∀{z:Ex},Sim y z->Sim x z:=by
 induction h with
 | leaf k n s op a b=>intro z c;cases c;exact .leaf ..
 | one k n s op a b x y h i=>intro z e;cases e with | one _ _ _ _ _ c _ z d=>exact .one _ _ _ _ _ _ _ _ (i d)
 | two k n s op a b x y m o j l i e=>intro z d;cases d with | two _ _ _ _ _ c _ _ p q f g=>exact .two _ _ _ _ _ _ _ _ _ _ (i f) (e g)
def Pk(E:S->Prop)(p:S)(k:X K3):Prop:=∀l i r t,i<=(Z8 l)->l.drop i=p++r->E r->j8 l (i+Z8 p)=.ok t->∃u,j8 l i=.ok (u++t)/\u.map k3=k
abbrev Tr:S->Prop:=λ_=>True
def S4(q:S):Prop:=∃c t,q=c::t/\V0 c=aF
section
variable {E E':S->Prop} {p q:S} {a b:X K3}
def Pk.nil E:Pk E [] []:=λ_ _ _ t _ _ _ h=>⟨[],h,I⟩
def VA:=@Pk.nil
def Pk.glue(d:Pk E p a)(k:Pk E' q b)(j:∀r,E' r->E (q++r)):Pk E' (p++q) (a++b):=by
 intro m l r s h hd c t;rw[be]at hd;obtain⟨u,e,f⟩:=k _ _ _ _ (Bl h hd) (kw hd) c (by rw[fI,<-aP];exact t);obtain⟨v,g,i⟩:=d _ _ _ _ h hd (j r c) e;exact⟨v++u,by rw[be];exact g,by rw[cX,f,i]⟩
def Pk.t(h:Pk Tr p a)(k:Pk E q b):Pk E (p++q) (a++b):=h.glue k λ_ _=>trivial
def S4.Ef(h:S4 q) r:u9 (q++r):=by
 obtain⟨c,t,rfl,a⟩:=h;intro d hd;rw[bW,pW,cd]at hd;subst hd;exact a
def Pk.e(h:Pk u9 p a)(k:Pk E q b)(c:S4 q):Pk E (p++q) (a++b):=h.glue k λr _=>c.Ef r
def V2{c}(a:pE c=aF):Pk Tr [c] []:=by
 intro l i r s h hd _ t;refine⟨[],?_,I⟩;have L:l.drop i=c::r:=hd;have b:i+1<=Z8 l:=Bl h hd;have d:l.drop (i+1)=r:=kw hd;have e:ld aM (c::r)=1+ld aM r:=by rw[ld,K a]
 rw[oA h,L,e,<-fI];rw[bf,oA b,d]at t;exact t
def Pk.sp(h:Pk E q b):Pk E (32::q) b:=(V2 (c:=32) Z).t h
def IE:=@Pk.sp
def Pk.nl(h:Pk Tr p a):Pk Tr (p++[10]) a:=by
 have:=h.t (V2 (c:=10) Z);rwa[bD]at this
def AP{k}{t}{n}(b:p≠[])(h:∀r,E r->ld aM (p++r)=0/\lZ (p++r)=.ok (k,t,n,Z8 p)):Pk E p [(k,t,n)]:=λl d r s i hd a c=>
 ⟨[_],wl hd b (h r a).1 (h r a).2 c,I⟩
def atd{c}(h:fT c=aM)(a:dA c=aM)(b:[60,62,61,33].contains c=aM)(e:[38,124].contains c=aM)(f:(c==45)=aM)(g:pF.contains c=aF) r:lZ (c::r)=.ok (4,[c],0,1):=by
 have s:sK (c::r)=aM:=by
  cases r with
  | nil=>rfl
  | cons d r=>
   show(_||_||_)=aM;rw[b,e,f];simp
 exact nM h a g s
def kx(c:UInt8):K3:=(4,[c],0)
def UR:K3:=(4,[45,62],0)
def Pk.one c (a:fT c=aM) (d:dA c=aM) (e:[60,62,61,33].contains c=aM) (f:[38,124].contains c=aM) (g:(c==45)=aM) (i:pF.contains c=aF) (j:pE c=aM) (k:(c==47)=aM) (h:Pk E q b):Pk E (c::q) (kx c::b):=
 (AP (p:=[c]) (E:=Tr) R λr _=>⟨LG j k,atd a d e f g i r⟩).t h
def Pk.lb(h:Pk E q b):Pk E (123::q) (kx 123::b):=h.one 123 Z Z Z Z Z Z Z Z
def Pk.rb(h:Pk E q b):Pk E (125::q) (kx 125::b):=h.one 125 Z Z Z Z Z Z Z Z
def Pk.lk(h:Pk E q b):Pk E (91::q) (kx 91::b):=h.one 91 Z Z Z Z Z Z Z Z
def Pk.rk(h:Pk E q b):Pk E (93::q) (kx 93::b):=h.one 93 Z Z Z Z Z Z Z Z
def Pk.sc(h:Pk E q b):Pk E (59::q) (kx 59::b):=h.one 59 Z Z Z Z Z Z Z Z
def Pk.cm(h:Pk E q b):Pk E (44::q) (kx 44::b):=h.one 44 Z Z Z Z Z Z Z Z
def Pk.eq(h:Pk E q b)(a:S4 q):Pk E (61::q) (kx 61::b):=
 (AP (p:=[61]) (E:=u9) R λc r=>⟨LG Z Z,nM Z Z Z (lA Z r.soft)⟩).e h a
def Pk.to(h:Pk E q b):Pk E (45::62::q) (UR::b):=
 (AP (p:=[45,62]) (E:=Tr) R λr _=>⟨LG Z Z,I⟩).t h
def yh:S4 (59::q):=⟨59,q,I,I⟩
def jr:S4 (32::q):=⟨32,q,I,I⟩
def agb:S4 (93::q):=⟨93,q,I,I⟩
def agc:S4 (44::q):=⟨44,q,I,I⟩
def slT{s}(a:s≠[])(g:Z8 s<=24)(b:∃c t,s=c::t/\fT c=aF)(d:∀c,c∈s->fF c=aF):Pk u9 s [(if kI.contains s then 2 else 1,s,0)]:=by
 obtain⟨c,t,rfl,h⟩:=b;refine AP a λf r=>⟨?_,?_⟩
 .have:=mj (c:=c) (by unfold mR;rw[h];simp);exact LG this.1 this.2.1
 have e:lZ (c::t++f)=if fT c then nH _ else if dA c then sJ _ else oc _:=I
 rw[e,h,K I];unfold nH;rw[r.word _ d,W J]
def nN{s}(n:dI s=aF):Pk u9 s [(1,s,0)]:=by
 unfold dI at n;simp only[H]at n;obtain⟨⟨⟨h,a⟩,b⟩,h4⟩:=n;obtain⟨h,d⟩:=aO h;have h4:kI.contains s=aM:=Me
 have:=slT h d (by
  cases s with
  | nil=>exact absurd I h
  | cons c t=>exact⟨c,t,I,a⟩) (λc e=>by rw[<-aO b]at e;exact Ax c e)
 rw[h4]at this;exact this
def qJ{s}(a:(VM (s≠[]/\Z8 s<=24)&&(match s with | c::_=>fT c | []=>aM)&&s.all fF&&kI.contains s)=aF):Pk u9 s [(2,s,0)]:=by
 simp only[H]at a;obtain⟨⟨⟨h,b⟩,d⟩,e⟩:=a;obtain⟨h,f⟩:=aO h;have:=slT h f (by
  cases s with
  | nil=>exact absurd I h
  | cons c t=>exact⟨c,t,I,b⟩) (λc g=>(fi.1 d) c g)
 rw[e]at this;exact this
def M9{n}(h:0<=n)(a:n<=9223372036854775807):Pk u9 (Lib.itoa n) [(3,[],n)]:=by
 have i:Lib.itoa n≠[]:=by rw[qH h];exact AO _
 refine AP i λb r=>⟨?_,PV h a r⟩
 rw[qH h];cases m:Lib.decDigits n.toNat with
 | nil=>exact absurd m (AO _)
 | cons c d=>
  have:=mj (c:=c) (by unfold mR;rw[Cs n.toNat c (by rw[m];simp)];simp);exact LG this.1 this.2.1
def Hx(v:Int):X K3:=if v<0 then[kx 45,(3,[], -v)]else[(3,[],v)]
def agd{v}(a:rX v)(m:v≠ -9223372036854775808):Pk u9 (Lib.itoa v) (Hx v):=by
 obtain⟨b,d⟩:=a;unfold Hx;by_cases h:v<0
 .rw[K h];have e:Lib.itoa v=45::Lib.itoa (-v):=by
   unfold Lib.itoa;rw[K h,W J,show v.natAbs=(-v).toNat by omega]
  rw[e];refine(AP (p:=[45]) (E:=λr=>soft r) (k:=4) (t:=[45]) (n:=0) R λr f=>⟨LG Z Z,nM Z Z Z (lA Z f)⟩).glue (M9 (n:= -v) J J) λr f=>?_;show soft (Lib.itoa _++r);rw[qH (n:= -v) J];cases m:Lib.decDigits (-v).toNat with
  | nil=>exact absurd m (AO _)
  | cons c e=>
   exact qI ⟨c,e++r,I,by unfold mR;rw[Cs (-v).toNat c (by rw[m];simp)];simp⟩
 rw[W h];exact M9 J J
end
def Kn(x:Ex):X K3:=po (Fv x) x aM
def adC{x}(c:ux x=aF)(n:MU x):de (Fv x) x=aF/\xK x=mC (Fv x) x aM/\(iG (xK x)).2.1=0/\Z8 (xK x)<=16384/\Sim x (iG (xK x)).1:=by
 obtain⟨h,d,a⟩:=JG (aO c);obtain⟨b,e⟩:=Kl h (n _) a;unfold xK;rw[d];exact⟨h,FG _ aM [] h b,a,b,e⟩
def adE{x}(a:ux x=aF)(h:MU x):Pk u9 (xK x) (Kn x):=by
 obtain⟨b,c,_⟩:=adC a h;rw[c];exact λl d e s i hd r t=>wW _ aM d b (h _) i hd r t
def Na(a:Ac):X K3:=
 if a.k=2 then(2,gD,0)::(1,a.n,0)::[kx 59]else(2,if a.k=1 then mM else jc,0)::(1,a.n,0)::kx 61::(Kn a.x++[kx 59])
def DU:X Ac->X K3
 | []=>[]
 | a::l=>Na a++DU l
def Eu(l:X Ac):X K3:=kx 123::(DU l++[kx 125])
def amI{a}(b:iM a=aF)(n:BK a):Pk Tr (Cj a) (Na a):=by
 unfold iM at b;simp at b;obtain⟨⟨e,c⟩,d⟩:=b;unfold Cj Na;by_cases h:a.k=2
 .rw[K h,K h];exact(qJ (s:=gD) Z).e (IE ((nN c).e (Pk.sc (VA _)) yh)) jr
 rw[W h]at d⊢;rw[W h];have tail:=IE ((nN c).e (IE (Pk.eq (IE ((adE d n).e (Pk.sc (VA Tr)) yh)) jr)) jr);by_cases k:a.k=1
 .simp[K k];exact(qJ (s:=mM) Z).e tail jr
 simp[W k];exact(qJ (s:=jc) Z).e tail jr
def V3:∀{l:X Ac},l.all iM=aF->(∀a,a∈l->BK a)->Pk Tr (zl l) (DU l)
 | [],_,_=>VA _
 | a::l,h,n=>by
  rw[lg,H]at h;exact IE ((amI h.1 (n a R)).t (V3 h.2 λb c=>n b (by simp[c])))
def V4{l}(h:l.all iM=aF)(n:∀a,a∈l->BK a):Pk Tr (An l) (Eu l):=
 Pk.lb ((V3 h n).t (IE (Pk.rb (VA _))))
def S6:X (S)->X K3
 | []=>[]
 | s::l=>kx 44::(1,s,0)::S6 l
def R9(m:Mv):X K3:=if m.k=1 then[(2,u6,0),(1,m.ev,0)]else if m.k=3 then[(2,fL,0),(3,[],m.wt)]else[(2,fb,0)]
def V1(m:Mv):X K3:=if m.gd then kx 91::(Kn m.g++[kx 93])else[]
def PZ(m:Mv):X K3:=match m.tg with
 | []=>[]
 | s::l=>UR::(1,s,0)::S6 l
def P0(m:Mv):X K3:=R9 m++(V1 m++((if m.acts=[]then[]else Eu m.acts)++(PZ m++[kx 59])))
def adF:∀{l:X _},l.all dI=aF->Pk Tr (Fw l++[59]) (S6 l++[kx 59])/\S4 (Fw l++[59])
 | [],_=>⟨Pk.sc (VA _),yh⟩
 | s::l,h=>by
  rw[lg,H]at h;obtain⟨a,b⟩:=adF h.2;refine⟨?_,agc⟩;have:=Pk.cm (IE ((nN h.1).e a b));simpa[Fw,S6]using this
def amK{m}(h:mO m=aF)(n:F9 m):Pk Tr (EN m) (P0 m):=by
 unfold mO at h;simp only[H]at h;obtain⟨⟨⟨⟨⟨l,c⟩,d⟩,j⟩,a⟩,e⟩:=h;have e:=aO e;unfold EN P0;have f:Pk Tr ((match m.tg with
  | []=>[]
  | s::o=>32::45::62::32::(s++Fw o))++[59]) (PZ m++[kx 59])/\S4 ((match m.tg with
  | []=>[]
  | s::m=>32::45::62::32::(s++Fw m))++[59]):=by
  unfold PZ;cases o:m.tg with
  | nil=>exact⟨Pk.sc (VA _),yh⟩
  | cons s q=>
   rw[o,lg,H]at a;obtain⟨m,p⟩:=adF a.2;refine⟨?_,jr⟩;have:=IE (Pk.to (IE ((nN a.1).e m p)));simpa using this
 generalize ((match m.tg with
  | []=>[]
  | s::m=>32::45::62::32::(s++Fw m))++[59])=R1 at*
 generalize PZ m++[kx 59]=b at*
 have g:Pk Tr ((if m.acts=[]then[]else 32::An m.acts)++R1) ((if m.acts=[]then[]else Eu m.acts)++b)/\S4 ((if m.acts=[]then[]else 32::An m.acts)++R1):=by
  by_cases o:m.acts=[]
  .rw[K o,K o];exact f
  rw[W o,W o];exact⟨IE ((V4 j n.a).t f.1),jr⟩
 generalize (_++R1)=R at*
 generalize _++b=i at*
 have t:Pk Tr (S1 m++R) (V1 m++i)/\S4 (S1 m++R):=by
  unfold S1 V1;cases o:m.gd
  .exact g
  rw[o]at d;refine⟨?_,jr⟩;have:=IE (Pk.lk ((adE d n.g).e (Pk.rk g.1) agb));simpa using this
 unfold Yy R9;by_cases k:m.k=1
 .rw[K k]at c⊢;rw[K k,be];exact(qJ (s:=u6) Z).e (IE ((nN c).e t.1 t.2)) jr
 rw[W k,W k];by_cases k3:m.k=3
 .rw[K k3,K k3,be];exact(qJ (s:=fL) Z).e (IE ((M9 J n.w.2).e t.1 t.2)) jr
 rw[W k3,W k3];exact(qJ (s:=fb) Z).e t.1 t.2
def V5{p}{a}(h:Pk Tr p a):∀d,Pk Tr (vY d++p) a
 | 0=>h
 | d+1=>IE (IE (V5 h d))
def amL{d}{p}{a}(h:Pk Tr p a):Pk Tr (II (d,p)) a:=V5 h.nl d
def Lq(L:X Ln)(k:X K3):Prop:=Pk Tr (Bi L) k
def Lq.nil:Lq [] []:=VA _
def yX:=@Lq.nil
def Lq.Ef{L M}{a b}(h:Lq L a)(k:Lq M b):Lq (L++M) (a++b):=by
 unfold Lq Bi;rw[lI];exact h.t k
def Lq.one{d}{p}{a}(h:Pk Tr p a):Lq [(d,p)] a:=by
 unfold Lq Bi;rw[yE,tP,bD];exact amL h
def T7:=@Lq.one
def Lq.cons{d}{p}{a}{L}{b}(h:Pk Tr p a)(k:Lq L b):Lq ((d,p)::L) (a++b):=(T7 h).Ef k
def RU(b:Nb):X K3:=if b.ini=[]then[]else[(2,dU,0),(1,b.ini,0),kx 59]
def Gu(b:Nb):X K3:=if b.en=[]then[]else(2,fX,0)::Eu b.en
def S7(b:Nb):X K3:=if b.lv=[]then[]else(2,gn,0)::Eu b.lv
def zF:X Mv->X K3
 | []=>[]
 | m::l=>P0 m++zF l
def Cu(b:Nb):X K3:=RU b++(Gu b++(S7 b++zF b.mv))
mutual
def S8:Nd->X K3
 | .mk b l=>
  if iJ b.k then(2,kW b.k,0)::(1,b.nm,0)::UR::(1,b.dft,0)::[kx 59]
  else(2,kW b.k,0)::(1,b.nm,0)::kx 123::(Cu b++(nu l++[kx 125]))
def nu:X Nd->X K3
 | []=>[]
 | x::l=>S8 x++nu l
end
structure nbS (b:Nb):Prop where
 nm:dI b.nm=aF
 ini:b.ini=[]∨dI b.ini=aF
 en:b.en.all iM=aF
 lv:b.lv.all iM=aF
 mv:b.mv.all mO=aF
def V6{b}{n}(h:u7 b n=aF)(i:iJ b.k=aM):(b.k=1∨b.k=2)/\b.dft=[]/\nbS b:=by
 unfold u7 at h;rw[i]at h;simp only[H,mq,kP,dq,bU]at h;obtain⟨c,⟨⟨⟨a,d⟩,e⟩,f⟩,g⟩:=h;exact⟨a.1,a.2,c,d,e,f,g⟩
def amM{b}{n}(h:u7 b n=aF)(j:iJ b.k=aF):dI b.nm=aF/\dI b.dft=aF/\b.ini=[]/\b.en=[]/\b.lv=[]/\b.mv=[]/\n=0:=by
 unfold u7 at h;rw[j]at h;simp only[H,yC,bU]at h;obtain⟨a,c,d,e,f,g,i⟩:=h;exact⟨a,c,d,e,f,bJ g,i⟩
def adG{d}{b}(h:nbS b)(n:Q4 b):Lq (JH d b) (Cu b):=by
 refine Lq.Ef ?_ (Lq.Ef ?_ (Lq.Ef ?_ ?_))
 .unfold xr RU;by_cases i:b.ini=[]
  .rw[K i,K i];exact yX
  rw[W i,W i];exact T7 ((qJ (s:=dU) Z).e (IE ((nN (h.ini.resolve_left i)).e (Pk.sc (VA _)) yh)) jr)
 .unfold OY Gu;by_cases i:b.en=[]
  .rw[K i,K i];exact yX
  rw[W i,W i];exact T7 ((qJ (s:=fX) Z).e (IE (V4 h.en n.en)) jr)
 .unfold RN S7;by_cases i:b.lv=[]
  .rw[K i,K i];exact yX
  rw[W i,W i];exact T7 ((qJ (s:=gn) Z).e (IE (V4 h.lv n.lv)) jr)
 unfold IH;have m:=h.mv;have k:=n.mv;generalize b.mv=l at*
 induction l with
 | nil=>exact yX
 | cons a l i=>
  rw[lg,H]at m;exact Lq.cons (amK m.1 (k a R)) (i m.2 λx hx=>k x Rk)
def P1 k:Pk u9 (kW k) [(2,kW k,0)]:=by
 unfold kW;split
 .exact qJ Z
 split
 .exact qJ Z
 split
 .exact qJ Z
 exact qJ Z
mutual
def amN:∀(d:Nat) (x:Nd),ku d x=aF->Dw x->Lq (Im d x) (S8 x)
 | d,.mk b l,h,n=>by
  rw[ku]at h;rw[Dw]at n;rw[Im,S8];simp only[H]at h;obtain⟨⟨_,a⟩,e⟩:=h;cases c:iJ b.k
  .obtain⟨_,_,s⟩:=V6 a c;rw[W Z,W Z];exact Lq.cons ((P1 b.k).e (IE ((nN s.nm).e (IE (Pk.lb (VA _))) jr)) jr) ((adG s n.1).Ef ((Nc (d+1) l e n.2).Ef (T7 (Pk.rb (VA _)))))
  obtain⟨d,f,_⟩:=amM a c;rw[K I,K I];exact T7 ((P1 b.k).e (IE ((nN d).e (IE (Pk.to (IE ((nN f).e (Pk.sc (VA _)) yh)))) jr)) jr)
def Nc:∀(d:Nat) (l:X Nd),jm d l=aF->xu l->Lq (qE d l) (nu l)
 | d,[],_,_=>by
  rw[qE,nu];exact yX
 | d,x::l,h,n=>by
  rw[jm,H]at h;rw[xu]at n;rw[qE,nu];exact(amN d x h.1 n.1).Ef (Nc d l h.2 n.2)
end
def YE(v:Vr):X K3:=(2,uu,0)::(1,v.n,0)::kx 61::(Hx v.v++[kx 59])
def zG:X Vr->X K3
 | []=>[]
 | v::l=>YE v++zG l
def WN(c:Ch):X K3:=(2,dB,0)::(1,c.root.b.nm,0)::kx 123::(zG c.vars++(Cu c.root.b++(nu c.root.kids++[kx 125])))
def amO{c}(f:qW c=aF)(n:Ga c):Lq (EO c) (WN c):=by
 unfold qW at f;simp only[H]at f;obtain⟨⟨h,g⟩,d⟩:=f;replace d:=aO d;obtain⟨a,⟨b,m⟩⟩:=c;have r:=n.r;rw[ku]at g;simp only[H]at g;obtain⟨⟨_,i⟩,j⟩:=g;have hk:b.k=1:=d.1;have l:iJ b.k=aM:=T8
 obtain⟨_,_,k⟩:=V6 i l;have e:Lq (a.map λv=>(1,IB v)) (zG a):=by
  have e:=n.v;clear d n i j r
  induction a with
  | nil=>exact yX
  | cons v c b=>
   rw[lg,H,H]at h;exact Lq.cons ((qJ (s:=uu) Z).e (IE ((nN h.1.1).e (IE (Pk.eq (IE ((agd (e v R) (aO h.1.2)).e (Pk.sc (VA _)) yh)) jr)) jr)) jr) (b h.2 λx hx=>e x Rk)
 exact Lq.cons ((qJ (s:=dB) Z).e (IE ((nN k.nm).e (IE (Pk.lb (VA _))) jr)) jr) (e.Ef ((adG k r.1).Ef ((Nc 1 m j r.2).Ef (T7 (Pk.rb (VA _))))))
def Hy{p:Prop}:aM=aF->p:=λh=>Rl
def DV{α}{R:α->α->Prop}:j5 R [] []:=⟨I,λi x y h _=>by simp at h⟩
def Vl{α}{R}{x y:α}{xs ys}(c:R x y)(k:j5 R xs ys):j5 R (x::xs) (y::ys):=⟨by rw[aY,aY,k.1],λi a b h hb=>by
 cases i with
 | zero=>
  simp at h hb;subst h hb;exact c
 | succ i=>exact k.2 i a b (by simpa using h) Ma⟩
def dY(s:Sx)(n:Nat)(a m k:Nat):Sx:={s with i:=s.i+n,a:=s.a-a,m:=s.m-m,n:=s.n-k}
def dv s n a m k n' a' m' k':dY (dY s n a m k) n' a' m' k'=dY s (n+n') (a+a') (m+m') (k+k'):=by
 unfold dY;simp;refine⟨J,?_,?_,?_⟩<;>omega
def Kq s:dY s 0 0 0 0=s:=by
 unfold dY;simp
def jE s:bP s=dY s 1 0 0 0:=by
 unfold bP dY;simp
def Ko{ts}(h:pG ts)(b:0<Z8 ts):nX ts+1=Z8 ts:=by
 have a:nX ts<Z8 ts:=by
  refine bM λn=>?_;have:=zf ts ((Z8 ts)-1) J;exact this ((h _ J).2 J)
 exact(h _ a).1 (zg ts a)
def adH{ts}{i}(h:(tk ts i).k≠5):i<Z8 ts:=bM λn=>h (by
 unfold tk;rw[cR J];rfl)
def S9(q:K3)(l:X (S)):Nat:=if q.1≠2/\q.1≠4 then 0 else if uR q.2.1 l<Z8 l then uR q.2.1 l+1 else 0
section
variable {ts:X Tk} {s:Sx} {q:K3} {A:X K3}
def eh(b:s.fc=0)(a:At ts s.i (q::A)) l:bR ts s l=S9 q l:=by
 obtain⟨c,d,_⟩:=a.head;unfold bR S9;rw[c,d];by_cases h:q.1≠2/\q.1≠4
 .rw[K (.inr h),K h]
 rw[W (λa=>a.elim (λe=>e b) h),W h]
def jO(a:s.fc=0){x}(h:At ts s.i (q::A))(b:S9 q [x]=1):cA ts s x=dY s 1 0 0 0:=by
 unfold cA;rw[eh a h,b,W Z,jE]
def wX(a:s.fc=0){k}(h:At ts s.i (q::A))(f:q.1=k):(cY ts s k).1.t=q.2.1/\(cY ts s k).1.n=q.2.2/\(cY ts s k).2=dY s 1 0 0 0:=by
 obtain⟨b,c,d⟩:=h.head;unfold cY;rw[W (λn=>n.elim (λe=>e a) λe=>e (by rw[b,f])),jE];exact⟨c,d,I⟩
def wY(d:s.fc=0){x}(h:At ts s.i ((1,x,0)::A)):dQ ts s=(x,dY s 1 0 0 0):=by
 obtain⟨a,b,c⟩:=wX (k:=1) d h I;unfold dQ;rw[a,c]
def zH{x}(h:1<=x)(a:x<=1000):mZ x=x-1:=by
 unfold mZ;rw[eS J J]
end
def FH{x}(h:rA x=aF):YD aM x uZ:=by
 obtain⟨k,n,s,op,l,a⟩:=x;unfold rA at h;simp only[H,eX,bU]at h;obtain⟨⟨⟨⟨b,c⟩,e⟩,f⟩,g⟩:=h;obtain rfl:k=0:=b;obtain rfl:n=0:=c;obtain rfl:s=[]:=e;obtain rfl:op=0:=f;have i:(Z8 l:Int)=0:=g;obtain rfl:l=[]:=bJ J;exact λd=>(Sim.leaf 0 0 [] 0 a 0).same d
section
variable {ts:X Tk} (hE:pG ts)
include hE
theorem V7{s}(z:s.fc=0){x}(w:ux x=aF)(n:MU x){q}{A}(G:At ts s.i (Kn x++q::A))(m:q.1=4/\(q.2.1=[59]∨q.2.1=[93])):
  YD aM x (iI ts s).1/\(iI ts s).2=dY s (Z8 (Kn x)) 0 0 0:=by
 obtain⟨B,C,b,F,h⟩:=adC w n;have k:=C;generalize xK x=L at*
 have Y:j8 L (0+Z8 L)=.ok [⟨5,[],0,Z8 L⟩]:=by
  have hd:L.drop (Z8 L)=[]:=dJ (aX _);have h:ld aM []=0:=I;rw[bO,jT (aX _),hd,h,K J];rfl
 obtain⟨u,v,j⟩:=wW (l:=L) _ (x:=x) aM 0 (r:=[]) B (n _) (bh _) (by rw[fA,bD,k]) (λc D=>by cases D) (by rw[<-k];exact Y);generalize f:u++[_]=a at*
 have i:cQ L=(a,0,0):=by rw[cQ,W J,v]
 have g:Z8 u=Z8 (Kn x):=by unfold Kn;rw[<-j,bQ]
 have o:Z8 a=Z8 u+1:=by rw[<-f,aP,bf]
 have E:pG a:=by
  have:=(mP (l:=L) (by rw[i])).1;rw[i]at this;exact this
 unfold iG at b h;rw[i]at b h;dsimp only at b h;rw[W Z]at b h;by_cases d:(cq a 0).2.2.1≠0
 .rw[K d]at b;exact absurd b d
 rw[W d]at b h;by_cases l:(tk a (cq a 0).2.1.toNat).k≠5
 .rw[K l]at b;exact absurd b (show ¬(4:Int)=0 by decide)
 rw[W l]at h;have d:=kU.1 d;have l:=kU.1 l;have q:cq a 0=(match oB a 0 with
  | .error (c,p)=>(uZ,0,c,p)
  | .ok (x,r)=>(x,(r:Int),0,0)):=by
  unfold cq;rw[K ⟨kQ 0,J,Ko E J⟩];rfl
 have M:Em a ts (Z8 u) s.i:=by
  refine⟨λc p=>?_,λc p=>?_,?_⟩
  .unfold tk;rw[<-f];rcases Nat.eq_or_lt_of_le p with e | e
   .rw[<-e,cG (aX _),oV];rfl
   rw[cR RC];rfl
  .have s:c<Z8 (Kn x):=J
   have y:k3 (tk a c)=(Kn x)[c]:=by
    have:(u.map k3)[c]? =Hg (Kn x)[c]:=by
     rw[j];exact bH s
    rw[dr,ir]at this;obtain⟨t,H,N⟩:=this;rw[<-N];unfold tk;rw[<-f,ca p,H];rfl
   have e:=(G.left c _ (bH s)).trans y.symm;unfold k3 at e;simp at e;exact e
  have:=G.right.head;rw[<-g]at this;rw[this.1,this.2.1];exact m
 cases A:oB a 0 with
 | error e=>
  obtain⟨c,p⟩:=e;rw[A]at q;exfalso;rw[q]at d l;subst d;exact mY _ _ _ _ A I
 | ok y=>
  obtain⟨N,r⟩:=y;rw[A]at q;dsimp only at q;rw[q]at l h;have T:s.i+Z8 u<Z8 ts:=by
   refine adH λe=>?_;have:=G.right.head.1;rw[<-g]at this;rw[this,m.1]at e;exact absurd e Z
  obtain⟨H,c,x,P⟩:=Rm.expr M o T _ 0 0 0 (bh _) N r A;have t:r=Z8 u:=by
   have:=(E r J).1 l;omega
  subst t;have p:cq ts s.i=(H,((s.i+Z8 u:Nat):Int),0,0):=by
   unfold cq;rw[K ⟨bc _,J,Ko hE J⟩,aW];unfold oB;rw[gP]at c;rw[c]
  unfold iI;rw[W (λe=>e z),p];refine⟨(h.trans x).same,?_⟩;rw[aW,g];unfold dY;simp
theorem aaT{s}(a:s.fc=0)(h:1<=s.a)(b:s.a<=1000):pH ts s=dY s 0 1 0 0:=by
 unfold pH dY;rw[W J,zH h b];simp
theorem amP{s}(h:s.fc=0)(r:1<=s.a)(u:s.a<=1000){a}(f:iM a=aF)(v:BK a){A}(d:At ts s.i (Na a++A)):AcE aM a (kc ts s).1/\(kc ts s).2=dY s (Z8 (Na a)) 1 0 0:=by
 unfold iM at f;simp only[H]at f;obtain⟨⟨g,p⟩,c⟩:=f;have g:=aO g;obtain⟨k,n,x,t⟩:=a;dsimp only at g p c;have o:∃w i,Na ⟨k,n,x,t⟩++A=(2,w,0)::(1,n,0)::i/\(S9 (2,w,0) [mM,gD,jc])=k.toNat:=by
  unfold Na;by_cases b:k=2
  .rw[K b];exact⟨_,_,I,by rw[b];decide⟩
  rw[W b];by_cases a:k=1
  .rw[K a];exact⟨_,_,I,by rw[a];decide⟩
  rw[W a];have:k=3:=J
  exact⟨_,_,I,by rw[this];decide⟩
 obtain⟨w,i,l,m⟩:=o;have S:=d;rw[l]at S;have j:=eh h S [mM,gD,jc];rw[m]at j;have T:k.toNat=k:=fy J;unfold kc;rw[j,W J,aaT (ts:=ts) hE h r u,W (λe=>e h)];rw[jE,dv,wY (s:=dY s _ _ _ _) h S.tail];unfold xZ;by_cases b:k=2
 .subst b;rw[K (show Int.toNat 2=2 from I)];rw[jO (s:=dY (dY s _ _ _ _) 1 0 0 0) h d.tail.tail Z,dv,dv];exact⟨⟨I,I,FH c,Hy⟩,I⟩
 rw[W J];rw[W b]at c;have e:Na ⟨k,n,x,t⟩=(2,if k=1 then mM else jc,0)::(1,n,0)::kx 61::(Kn x++[kx 59]):=by
  unfold Na;rw[W b]
 rw[e]at d⊢;have Q:=d.tail.tail;rw[jO (s:=dY (dY s _ _ _ _) 1 0 0 0) h Q Z,dv,dv];have a:At ts _ (_++A):=Q.tail;rw[be]at a;obtain⟨y,z⟩:=V7 hE (s:=dY s (0+1+1+1) _ _ _) h c v (q:=kx 59) (A:=A) a ⟨I,.inl I⟩;rw[z];rw[jO (s:=dY (dY s (0+1+1+1) _ _ _) (Z8 (Kn x)) 0 0 0) h a.right Z,dv,dv];refine⟨⟨T.symm,I,y,Hy⟩,?_⟩;simp;congr 1;omega
theorem adI:∀l f c {s:Sx},s.fc=0->Z8 l<f->Z8 l<=s.a->s.a<=1000->l.all iM=aF->(∀a,a∈l->BK a)->∀{A:X K3},At ts s.i (DU l++kx 125::A)->
  ∃r,j6 ts f c s=(c++r,dY s (Z8 (DU l)+1) (Z8 l) 0 0)/\j5 (AcE aM) l r
 | [],f,c,s,h,hf,b,i,a,n,A,d=>by
  obtain⟨f,rfl⟩:∃g,f=g+1:=⟨f-1,Vz⟩
  rw[j6,W (λe=>e h),eh h d,K Z,jE];exact⟨[],by rw[bD];rfl,DV⟩
 | a::l,f,c,s,h,hf,o,k,j,n,A,d=>by
  rw[aY]at hf o;obtain⟨f,rfl⟩:∃m,f=m+1:=⟨f-1,J⟩
  rw[lg,H]at j;have d:At ts s.i ((Na a++DU l)++kx 125::A):=d;rw[be]at d;have w:bR ts s [[125]]=0:=by
   have:∃b B,Na a++(DU l++kx 125::A)=(2,b,0)::B/\S9 (2,b,0) [[125]]=0:=by
    unfold Na;split
    .exact⟨_,_,I,Z⟩
    split
    .exact⟨_,_,I,Z⟩
    exact⟨_,_,I,Z⟩
   obtain⟨b,B,g,i⟩:=this;have S:=d;rw[g]at S;rw[eh h S,i]
  obtain⟨p,q⟩:=amP hE h J k j.1 (n a R) d;rw[j6,W (λe=>e h),w,W (λe=>e I),q];obtain⟨r,g,i⟩:=adI l f _ (s:=dY s (Z8 (Na a)) 1 0 0) h J ZH ZH j.2 (λb k=>n b (by simp[k])) d.right;refine⟨(kc ts s).1::r,?_,Vl p i⟩;rw[g,dv,be];simp only[DU,aP,aY,iQ];congr 2<;>omega
theorem adV:∀l,Z8 l<=Z8 (DU l)
 | []=>aX _
 | a::l=>by
  have h:=adV l;have b:1<=Z8 (Na a):=by
   unfold Na;split<;>simp
  rw[DU,aP,aY];omega
theorem At.inr{s:Sx}{L}{q}{A}(d:At ts s.i (L++q::A))(h:q.1≠5):s.i+Z8 L<Z8 ts:=adH (by rw[d.right.head.1];exact h)
theorem FP{s:Sx}(h:s.fc=0){l}(g:Z8 l<=s.a)(i:s.a<=1000)(f:l.all iM=aF)(n:∀a,a∈l->BK a){A}(d:At ts s.i (Eu l++A)):
  ∃r,ff ts s=(r,dY s (Z8 (Eu l)) (Z8 l) 0 0)/\j5 (AcE aM) l r:=by
 unfold ff;have d:At ts s.i (kx 123::(_++A)):=d;rw[be]at d;have b:=d.tail;have T:=At.inr hE (s:=dY s 1 0 0 0) (L:=DU l) b Z;rw[jO h d Z];have:=adV (ts:=ts) hE l;obtain⟨r,e,c⟩:=adI hE l (Z8 ts+1) [] (s:=dY s 1 0 0 0) h J ZH ZH f n b;refine⟨r,?_,c⟩;rw[e,dv,cb];unfold Eu;simp only[aY,aP,bE];congr 2
 .omega
 omega
theorem amQ:∀l f a {s:Sx},s.fc=0->Z8 l<f->∀{A:X K3},At ts s.i (S6 l++kx 59::A)->kq ts f [44] a s=(a++l,dY s (Z8 (S6 l)) 0 0 0)
 | [],f,a,s,h,hf,A,d=>by
  obtain⟨f,rfl⟩:∃g,f=g+1:=⟨f-1,Vz⟩
  rw[kq,eh h d,K Z,bD];show _=(a,dY s 0 0 0 0)
  rw[Kq]
 | x::l,f,a,s,h,hf,A,d=>by
  rw[aY]at hf;obtain⟨f,rfl⟩:∃g,f=g+1:=⟨f-1,J⟩
  rw[kq,eh h d,W Z,jE,wY (s:=dY s 1 0 0 0) h d.tail];rw[dv,amQ l f _ (s:=dY s (1+1) _ _ _) h J d.tail.tail,dv,be];simp only[S6,aY,iQ];congr 2;omega
theorem P2:∀l,Z8 l<=Z8 (S6 l)
 | []=>aX _
 | x::l=>by
  have:=P2 l;rw[S6,aY,aY,aY];omega
theorem P3{s}(h:s.fc=0) m m0 {A} (d:At ts s.i ((PZ m++[kx 59])++A)) (t:m0.tg=[]):ru ts m0 s=({m0 with tg:=m.tg},dY s (Z8 (PZ m++[kx 59])) 0 0 0):=by
 unfold ru;rw[be]at d;unfold PZ at d⊢;cases a:m.tg with
 | nil=>
  rw[a]at d;rw[kq,eh h d,K Z];rw[jO h d Z];rfl
 | cons x l=>
  rw[a]at d;have b:=At.inr hE (s:=dY s 2 0 0 0) (L:=S6 l) d.tail.tail Z;have:=P2 (ts:=ts) hE l;rw[kq,eh h d,W Z,jE,wY (s:=dY s 1 0 0 0) h d.tail];rw[dv,amQ hE l (Z8 ts) _ (s:=dY s (1+1) _ _ _) h J d.tail.tail,dv];rw[jO (s:=dY s _ _ _ _) h (q:=kx 59) (A:=A) (by
   have:=d.tail.tail.right;have e:s.i+1+1+Z8 (S6 l)=(dY s (1+1+Z8 (S6 l)) (0+0+0) (0+0+0) (0+0+0)).i:=ZH
   rw[<-e];exact this) Z,dv]
  simp;congr 2;omega
theorem NdC{s:Sx}(h:s.fc=0) m m0 (c:Z8 m.acts<=s.a) (f:s.a<=1000) (b:m.acts.all iM=aF) (n:∀x,x∈m.acts->BK x) {A} (d:At ts s.i (((if m.acts=[]then[]else Eu m.acts)++(PZ m++[kx 59]))++A)) (t:m0.tg=[]) (a:m0.acts=[]):
  ∃r,qC ts m0 s=({m0 with acts:=r,tg:=m.tg},dY s (Z8 ((if m.acts=[]then[]else Eu m.acts)++(PZ m++[kx 59]))) (Z8 m.acts) 0 0)/\j5 (AcE aM) m.acts r:=by
 obtain⟨k,v,j,g,l,ac0,i,p0⟩:=m0;subst t a;unfold qC;by_cases e:m.acts=[]
 .rw[K e]at d⊢;have w:bR ts s [[123]]=0:=by
   have o:=d;unfold PZ at o;cases p:m.tg with
   | nil=>
    rw[p]at o;rw[eh h (q:=kx 59) (A:=A) o];decide
   | cons x m=>
    rw[p]at o;rw[eh h (q:=UR) (A:=_) o];decide
  rw[w,K I,P3 hE h m _ d I];refine⟨[],?_,by rw[e];exact DV⟩;rw[e];rfl
 rw[W e]at d⊢;rw[be]at d;have w:bR ts s [[123]]=1:=by
  rw[eh h (q:=kx 123) d];decide
 obtain⟨r,o,p⟩:=FP hE h c f b n d;rw[w,W Z,o];rw[P3 hE (s:=dY s (Z8 (Eu m.acts)) (Z8 m.acts) 0 0) h m _ d.right I,dv];refine⟨r,?_,p⟩;simp
theorem Hz{s:Sx}(h:s.fc=0) m m0 (o:Z8 m.acts<=s.a) (p:s.a<=1000) (b:mO m=aF) (n:F9 m) {A} (dG:At ts s.i ((V1 m++((if m.acts=[]then[]else Eu m.acts)++(PZ m++[kx 59])))++A))
  (t:m0.tg=[]) (c:m0.acts=[]) (d:m0.gd=aM) (f:m0.g=uZ):
  ∃g r,gF ts m0 s=({m0 with gd:=m.gd,g:=g,acts:=r,tg:=m.tg},dY s (Z8 (V1 m++((if m.acts=[]then[]else Eu m.acts)++(PZ m++[kx 59])))) (Z8 m.acts) 0 0)/\YD aM m.g g/\j5 (AcE aM) m.acts r:=by
 unfold mO at b;simp only[H]at b;obtain⟨⟨⟨⟨⟨_,_⟩,a⟩,i⟩,_⟩,_⟩:=b;obtain⟨k,v,l,u,y,ac0,w,p0⟩:=m0;subst t c d f;unfold gF;unfold V1 at dG⊢;cases j:m.gd
 .rw[j]at a dG;have B:bR ts s [[91]]=0:=by
   have e:=dG;by_cases z:m.acts=[]
   .rw[K z]at e;unfold PZ at e;cases s:m.tg with
    | nil=>
     rw[s]at e;rw[eh h (q:=kx 59) (A:=A) e];decide
    | cons x m=>
     rw[s]at e;rw[eh h (q:=UR) (A:=_) e];decide
   rw[W z]at e;rw[eh h (q:=kx 123) (A:=_) e];decide
  obtain⟨r,s,x⟩:=NdC hE h m ⟨k,v,l,aM,uZ,[],[],p0⟩ o p i n.a dG I I;rw[B,K I,s];exact⟨uZ,r,I,FH a,x⟩
 rw[j]at a dG;have dG:At ts s.i (kx 91::(Kn m.g++kx 93::(((if m.acts=[]then[]else Eu m.acts)++(PZ m++[kx 59]))++A))):=ZE
 have B:bR ts s [[91]]=1:=by
  rw[eh h dG];decide
 obtain⟨C,D⟩:=V7 hE (s:=dY s 1 0 0 0) h a n.g (q:=kx 93) dG.tail ⟨I,.inr I⟩;rw[B,W Z,jE,D,dv,jO (s:=dY s _ _ _ _) h (q:=kx 93) (by
  have:=dG.tail.right;have e:s.i+1+Z8 (Kn m.g)=(dY s (1+Z8 (Kn m.g)) (0+0) (0+0) (0+0)).i:=ZH
  rw[<-e];exact this) Z,dv]
 obtain⟨r,x,z⟩:=NdC hE (s:=dY s _ (0+0+0) _ _) h m ⟨k,v,l,aF,(iI ts _).1,[],[],p0⟩ ZH ZH i n.a (by
  have:=dG.tail.right.tail;have e:s.i+1+Z8 (Kn m.g)+1=(dY s (1+Z8 (Kn m.g)+1) (0+0+0) (0+0+0) (0+0+0)).i:=ZH
  rw[<-e];exact this) I I
 rw[x,dv];refine⟨_,r,?_,C,z⟩;congr 2<;>(try simp)<;>omega
theorem aaU{s}(a:s.fc=0)(h:1<=s.m)(b:s.m<=1000):oC ts s=dY s 0 0 1 0:=by
 unfold oC dY;rw[W J,zH h b];simp
theorem ate{s:Sx}(h:s.fc=0){m}(o:Z8 m.acts<=s.a)(p:s.a<=1000)(j:1<=s.m)(x:s.m<=1000)(c:mO m=aF)(n:F9 m){A}(d:At ts s.i (P0 m++A)):
  bR ts s [u6,fb,fL]=m.k.toNat/\1<=m.k/\MvE aM m (jK ts m.k s).1/\(jK ts m.k s).2=dY s (Z8 (P0 m)) (Z8 m.acts) 1 0:=by
 have f:=c;unfold mO at f;simp only[H]at f;obtain⟨⟨⟨⟨⟨g,a⟩,_⟩,_⟩,_⟩,i⟩:=f;have g:=aO g;have i:=aO i;unfold P0 at d⊢;rw[be]at d;unfold jK;rw[aaU (ts:=ts) hE h j x,W (λe=>e h)];generalize R:V1 m++_=l at*
 unfold R9 at d⊢;by_cases b:m.k=1
 .rw[K b]at d a⊢;rw[K b];refine⟨by rw[eh h d,b];decide,J,?_⟩;rw[jE,dv,wY (s:=dY s _ _ _ _) h d.tail];rw[dv];obtain⟨r,t,e,k,q⟩:=Hz hE (s:=dY s (0+1+1) (0+0+0) _ _) h m {JA m.k (tk ts s.i).a with ev:=m.ev} ZH ZH c n (by rw[R];exact d.tail.tail) I I I I;rw[e,R,dv];refine⟨⟨I,I,?_,I,k,q,I,Hy⟩,?_⟩
  .show m.wt=0;omega
  dsimp only;congr 1<;>(try simp)<;>omega
 rw[W b]at d a⊢;rw[W b];have a:=aO a;by_cases k3:m.k=3
 .rw[K k3]at d⊢;rw[K k3];refine⟨by rw[eh h d,k3];decide,J,?_⟩;obtain⟨v,e,q⟩:=wX (s:=dY s _ _ _ _) (k:=3) h d.tail I;rw[jE,dv,e,q];rw[dv];obtain⟨w,y,r,t,u⟩:=Hz hE (s:=dY s (0+1+1) (0+0+0) _ _) h m {JA m.k (tk ts s.i).a with wt:=m.wt} ZH ZH c n (by rw[R];exact d.tail.tail) I I I I;rw[r,R,dv];refine⟨⟨I,a,I,I,t,u,I,Hy⟩,?_⟩;dsimp only;congr 1<;>(try simp)<;>omega
 rw[W k3]at d⊢;rw[W k3];have r:m.k=2:=J
 refine⟨by rw[eh h d,r];decide,J,?_⟩;rw[jE,dv];obtain⟨t,u,e,k,q⟩:=Hz hE (s:=dY s _ (0+0) _ _) h m (JA m.k (tk ts s.i).a) ZH ZH c n (by rw[R];exact d.tail) I I I I;rw[e,R,dv];refine⟨⟨I,a,?_,I,k,q,I,Hy⟩,?_⟩
 .show m.wt=0;omega
 dsimp only;congr 1<;>(try simp)<;>omega
end
def V8(x y:Nd):Prop:=∀d,NdE aM d x y
def HA{b b'}{l l'}(h:NbE aM b b')(k:j5 V8 l l'):V8 (.mk b l) (.mk b' l'):=λd=>by
 cases d with
 | zero=>trivial
 | succ d=>exact⟨h,k.1,λi x y a b=>k.2 i x y a b d⟩
def Bm(q:K3):Prop:=S9 q [u6,fb,fL]=0/\S9 q [dU,fX,gn]=0/\q.1≠5
def wm(l:X Mv):Nat:=(l.map λm=>Z8 m.acts).sum
def agi b:BJ b=Z8 b.en+(Z8 b.lv+wm b.mv):=by unfold BJ wm;omega
section
variable {ts:X Tk} (hE:pG ts)
include hE
theorem agj{s}(h0:s.fc=0) n {h} (a:h.i=aM) {x} {A} (dG:At ts s.i ((2,dU,0)::(1,x,0)::kx 59::A)):da ts n h s=(aF,{n with ini:=x},{h with i:=aF},dY s 3 0 0 0):=by
 unfold da;have w:bR ts s [u6,fb,fL]=0:=Wt
 have b:bR ts s [dU,fX,gn]=1:=Wt
 rw[w,W (λe=>e I),b];show(if h.i=aF then _ else _)=_;rw[a,W Z,jE,wY (s:=dY s 1 0 0 0) h0 dG.tail];rw[jO (s:=dY (dY s 1 0 0 0) 1 0 0 0) h0 dG.tail.tail Z,dv,dv]
theorem amR{s:Sx}(h0:s.fc=0) n {h} (i:h.e=aM) {l} (k:Z8 l<=s.a) (m:s.a<=1000) (f:l.all iM=aF) (g:∀a,a∈l->BK a) {A} (dG:At ts s.i ((2,fX,0)::(Eu l++A))):
  ∃r,da ts n h s=(aF,{n with en:=r},{h with e:=aF},dY s (Z8 (Eu l)+1) (Z8 l) 0 0)/\j5 (AcE aM) l r:=by
 unfold da;have w:bR ts s [u6,fb,fL]=0:=Wt
 have j:bR ts s [dU,fX,gn]=2:=Wt
 rw[w,W (λe=>e I),j];obtain⟨r,b,c⟩:=FP hE (s:=dY s 1 0 0 0) h0 ZH ZH f g dG.tail
 suffices d:(if h.e=aF then _ else _)=_ from⟨r,d,c⟩
 rw[i,W Z,jE,b];dsimp only;rw[dv];congr 4<;>omega
theorem amS{s:Sx}(h0:s.fc=0) n {h} (i:h.l=aM) {l} (k:Z8 l<=s.a) (m:s.a<=1000) (f:l.all iM=aF) (g:∀a,a∈l->BK a) {A} (dG:At ts s.i ((2,gn,0)::(Eu l++A))):
  ∃r,da ts n h s=(aF,{n with lv:=r},{h with l:=aF},dY s (Z8 (Eu l)+1) (Z8 l) 0 0)/\j5 (AcE aM) l r:=by
 unfold da;have w:bR ts s [u6,fb,fL]=0:=Wt
 have j:bR ts s [dU,fX,gn]=3:=Wt
 rw[w,W (λe=>e I),j];obtain⟨r,b,c⟩:=FP hE (s:=dY s 1 0 0 0) h0 ZH ZH f g dG.tail
 suffices d:(if h.l=aF then _ else _)=_ from⟨r,d,c⟩
 rw[i,W Z,jE,b];dsimp only;rw[dv];congr 4<;>omega
theorem amT{s:Sx}(b:s.fc=0) n h {m} (g:Z8 m.acts<=s.a) (i:s.a<=1000) (a:1<=s.m) (x:s.m<=1000) (j:mO m=aF) (k:F9 m) {A} (d:At ts s.i (P0 m++A)):
  ∃r,da ts n h s=(aF,{n with mv:=n.mv++[r]},h,dY s (Z8 (P0 m)) (Z8 m.acts) 1 0)/\MvE aM m r:=by
 obtain⟨c,l,e,f⟩:=ate hE b g i a x j k d;unfold da;rw[c,K J,fy J,f];exact⟨_,I,e⟩
theorem aaV{s}(a:s.fc=0) n h {q} {A} (b:Bm q) (d:At ts s.i (q::A)):da ts n h s=(aM,n,h,s):=by
 unfold da;rw[eh a d,eh a d,b.1,b.2.1,W (λe=>e I)];rfl
theorem zJ{s}(a:s.fc=0){f}{n n'}{h h'}{s'}(c:da ts n h s=(aF,n',h',s')):cW ts (f+1) n h s=cW ts f n' h' s':=by
 rw[cW,W (λe=>e a),c];rfl
theorem V9:∀l f n h {s:Sx},s.fc=0->Z8 l<f->(wm l)<=s.a->s.a<=1000->Z8 l<=s.m->s.m<=1000->l.all mO=aF->(∀m,m∈l->F9 m)->∀{q:K3} {A:X K3},Bm q->At ts s.i (zF l++q::A)->
  ∃r,cW ts f n h s=({n with mv:=n.mv++r},dY s (Z8 (zF l)) (wm l) (Z8 l) 0)/\j5 (MvE aM) l r
 | [],f,n,h,s,a,hf,i,j,c,x,k,o,q,A,b,d=>by
  obtain⟨f,rfl⟩:∃g,f=g+1:=⟨f-1,Vz⟩
  rw[cW,W (λe=>e a),aaV hE a n h b d];refine⟨[],?_,DV⟩;rw[bD];show(n,s)=(n,dY s 0 0 0 0)
  rw[Kq]
 | m::l,f,n,h,s,a,hf,z,t,e,w,b,c,q,A,u,d=>by
  rw[aY]at hf e;obtain⟨f,rfl⟩:∃p,f=p+1:=⟨f-1,J⟩
  rw[lg,H]at b;have o:wm (m::l)=Z8 m.acts+wm l:=by unfold wm;rw[cu,eU]
  have d:At ts s.i ((P0 m++zF l)++q::A):=d;rw[be]at d;obtain⟨x,g,i⟩:=amT hE a n h J t J w b.1 (c m R) d;rw[zJ hE a g];obtain⟨r,j,k⟩:=V9 l f {n with mv:=n.mv++[x]} h (s:=dY s (Z8 (P0 m)) (Z8 m.acts) 1 0) a J ZH ZH ZH ZH b.2 (λy v=>c y (by simp[v])) u d.right;refine⟨x::r,?_,Vl i k⟩;rw[j,dv,o];simp only[zF,aP,aY,be,iQ];congr 2;omega
theorem agf:∀l,Z8 l<=Z8 (zF l)
 | []=>aX _
 | m::l=>by
  have h:=agf l;have a:1<=Z8 (P0 m):=by
   unfold P0 R9;rw[aP];split
   .simp;omega
   split<;>(simp only[aY];omega)
  rw[zF,aP,aY];omega
theorem adJ{f}{n}{h}{s:Sx}{b}(a:s.fc=0)(g:Z8 (S7 b)+Z8 b.mv<f)(t:(Z8 b.lv+wm b.mv:Nat)<=s.a)(l:s.a<=1000)(o:Z8 b.mv<=s.m)(x:s.m<=1000)(k:nbS b)(j:Q4 b){q}{A}(m:Bm q)(d:At ts s.i (S7 b++(zF b.mv++q::A)))(p:h.l=aM)(C:n.lv=[]):
  ∃r i,cW ts f n h s=({n with lv:=r,mv:=n.mv++i},dY s (Z8 (S7 b)+Z8 (zF b.mv)) (Z8 b.lv+wm b.mv) (Z8 b.mv) 0)/\j5 (AcE aM) b.lv r/\j5 (MvE aM) b.mv i:=by
 obtain⟨w,z,v,nd,ne,nl,y,u⟩:=n;subst C;unfold S7 at d g⊢;by_cases c:b.lv=[]
 .rw[K c]at d g⊢;obtain⟨q,e,n⟩:=V9 hE b.mv f _ h a J J l o x k.mv j.mv m d;refine⟨[],q,?_,by rw[c];exact DV,n⟩;rw[e,c];simp
 rw[W c]at d g⊢;simp at g;obtain⟨f,rfl⟩:∃B,f=B+1:=⟨f-1,J⟩
 obtain⟨r,h,n⟩:=amS hE a _ p J l k.lv j.lv d;rw[zJ hE a h];obtain⟨i,q,A⟩:=V9 hE b.mv f _ _ (s:=dY s _ (Z8 b.lv) 0 0) a J ZH ZH ZH ZH k.mv j.mv m (by
  have e:s.i+1+Z8 (Eu b.lv)=(dY s (Z8 (Eu b.lv)+1) (Z8 b.lv) 0 0).i:=ZH
  rw[<-e];exact d.tail.right)
 refine⟨r,i,?_,n,A⟩;rw[q,dv,aY];congr 2;omega
theorem adK{f}{n}{h}{s:Sx}{b}(g:s.fc=0)(j:Z8 (Gu b)+(Z8 (S7 b)+Z8 b.mv)<f)(E:(Z8 b.en+(Z8 b.lv+wm b.mv):Nat)<=s.a)(o:s.a<=1000)(z:Z8 b.mv<=s.m)(D:s.m<=1000)(m:nbS b)(l:Q4 b){q}{A}(t:Bm q)(d:At ts s.i (Gu b++(S7 b++(zF b.mv++q::A))))(k:h.e=aM)(p:h.l=aM)(B:n.en=[])(C:n.lv=[]):
  ∃c r a,cW ts f n h s=({n with en:=c,lv:=r,mv:=n.mv++a},dY s (Z8 (Gu b)+(Z8 (S7 b)+Z8 (zF b.mv))) (Z8 b.en+(Z8 b.lv+wm b.mv)) (Z8 b.mv) 0)/\j5 (AcE aM) b.en c/\j5 (AcE aM) b.lv r/\j5 (MvE aM) b.mv a:=by
 obtain⟨w,y,v,nd,ne,nl,x,u⟩:=n;subst C B;unfold Gu at d j⊢;by_cases i:b.en=[]
 .rw[K i]at d j⊢;obtain⟨r,a,e,b,q⟩:=adJ hE (f:=f) (h:=h) (n:=⟨w,y,v,nd,[],[],x,u⟩) g J J o z D m l t d p I;refine⟨[],r,a,?_,by rw[i];exact DV,b,q⟩;rw[e,i];simp
 rw[W i]at d j⊢;simp at j;obtain⟨f,rfl⟩:∃L,f=L+1:=⟨f-1,J⟩
 obtain⟨c,q,A⟩:=amR hE g _ k J o m.en l.en d;rw[zJ hE g q];obtain⟨r,a,F,G,H⟩:=adJ hE (n:=⟨w,y,v,nd,c,[],x,u⟩) (h:={h with e:=aF}) (s:=dY s _ (Z8 b.en) 0 0) g (f:=f) J ZH ZH ZH ZH m l t (by
  have e:s.i+1+Z8 (Eu b.en)=(dY s (Z8 (Eu b.en)+1) (Z8 b.en) 0 0).i:=ZH
  rw[<-e];exact d.tail.right) p I
 refine⟨c,r,a,?_,A,G,H⟩;rw[F,dv,aY];congr 2<;>omega
theorem atf{f}{n}{s:Sx}{b}(d:s.fc=0)(e:Z8 (RU b)+(Z8 (Gu b)+(Z8 (S7 b)+Z8 b.mv))<f)(j:(BJ b)<=s.a)(v:s.a<=1000)(u:Z8 b.mv<=s.m)(w:s.m<=1000)(m:nbS b)(k:Q4 b){q}{A}(l:Bm q)(dG:At ts s.i (Cu b++q::A))(i:n.ini=[])(x:n.en=[])(C:n.lv=[])(Z:n.mv=[]):
  ∃r a c,cW ts f n ⟨aM,aM,aM⟩ s=({n with ini:=b.ini,en:=r,lv:=a,mv:=c},dY s (Z8 (Cu b)) (BJ b) (Z8 b.mv) 0)/\j5 (AcE aM) b.en r/\j5 (AcE aM) b.lv a/\j5 (MvE aM) b.mv c:=by
 rw[agi]at j⊢;obtain⟨p,t,y,nd,ne,nl,z,o⟩:=n;subst i C x Z;unfold Cu at dG⊢;have dG:=ZE
 simp;unfold RU at dG e⊢;by_cases g:b.ini=[]
 .rw[K g]at dG e⊢;obtain⟨r,a,c,b,q⟩:=adK hE (f:=f) (n:=⟨p,t,[],nd,[],[],[],o⟩) (h:=⟨aM,aM,aM⟩) d J j v u w m k l dG I I I I;refine⟨r,a,c,?_,q⟩;rw[b,g];simp
 rw[W g]at dG e⊢;simp at e;obtain⟨f,rfl⟩:∃B,f=B+1:=⟨f-1,J⟩
 rw[zJ hE d (agj hE d _ (h:=⟨aM,aM,aM⟩) I dG)];obtain⟨r,a,c,q,A⟩:=adK hE (n:=⟨p,t,b.ini,nd,[],[],[],o⟩) (h:=⟨aF,aM,aM⟩) (s:=dY s 3 0 0 0) d (f:=f) J ZH ZH ZH ZH m k l dG.tail.tail.tail I I I I;refine⟨r,a,c,?_,A⟩;rw[q,dv];congr 2<;>omega
theorem DW{s}(e:s.fc=0) k {nm} {A} (d:At ts s.i ((1,nm,0)::A)) (h:1<=s.n) (n:s.n<=1000) (hd:s.d≠0):∃a,cy ts k s=({RL with k:=k,nm:=nm,a:=a},dY s 1 0 0 1):=by
 have u:Az ts s=dY s 0 0 0 1:=by
  unfold Az dY;rw[W J,zH h n];simp
 have r:lu ts s=dY s 0 0 0 1:=by
  unfold lu;rw[K d.head.1,u,W (show ¬(dY s 0 0 0 1).d=0 from hd)]
 obtain⟨c,f,b⟩:=wX (s:=dY s 0 0 0 1) (k:=1) e (q:=_) (A:=A) d I;refine⟨(cY ts (dY s 0 0 0 1) 1).1.a,?_⟩;unfold cy;rw[r,c,b,dv]
theorem agk{k}(h:1<=k)(a:k<=4):S9 (2,kW k,0) gH=k.toNat:=by
 have:k=1∨k=2∨k=3∨k=4:=J
 rcases this with rfl | rfl | rfl | rfl<;>decide
theorem HB{d}{b}{l}(h:ku d (.mk b l)=aF):1<=b.k/\b.k<=4:=by
 rw[ku]at h;simp at h;cases a:iJ b.k
 .have:=(V6 h.1.2 a).1;omega
 have:=aO a;omega
theorem zK x:∃B,S8 x=(2,kW x.b.k,0)::B:=by
 obtain⟨b,l⟩:=x;rw[S8];split
 .exact⟨_,I⟩
 exact⟨_,I⟩
abbrev Wa(t:X Tk)(f:Nat):Prop:=∀x deep {s:Sx} {A:X K3},ku deep x=aF->Dw x->s.fc=0->s.d=12-deep->13<=deep+f->(j7 x)<=s.n->s.n<=1000->(xL x)<=s.a->s.a<=1000->(zj x)<=s.m->s.m<=1000->At t s.i ((S8 x).tail++A)->
 ∃r,fl t f x.b.k s=(r,dY s ((Z8 (S8 x))-1) (xL x) (zj x) (j7 x))/\V8 x r
theorem Wb{N}(h:Wa ts N):∀l f a deep {s:Sx},jm deep l=aF->xu l->s.fc=0->s.d=12-deep->13<=deep+N->Z8 l<f->(dW l)<=s.n->s.n<=1000->(nt l)<=s.a->s.a<=1000->(nY l)<=s.m->s.m<=1000->∀{A:X K3},At ts s.i (nu l++kx 125::A)->
  ∃r,gw ts (fl ts N) f a s=(a++r,dY s (Z8 (nu l)) (nt l) (nY l) (dW l))/\j5 V8 l r
 | [],f,a,deep,s,j,n,b,hd,c,hf,o,p,e,i,m,k,A,d=>by
  obtain⟨f,rfl⟩:∃g,f=g+1:=⟨f-1,Vz⟩
  rw[nu]at d⊢;rw[gw,eh b d,K Z,nt,nY,dW];exact⟨[],by rw[bD,bE,Kq],DV⟩
 | x::l,f,a,deep,s,c,n,g,hd,i,hf,z,I,m,E,y,F,A,G=>by
  rw[aY]at hf;obtain⟨f,rfl⟩:∃u,f=u+1:=⟨f-1,J⟩
  rw[jm,H]at c;rw[dW]at z⊢;rw[nt]at m⊢;rw[nY]at y⊢;rw[nu]at G⊢;rw[be]at G;obtain⟨D,B⟩:=zK (ts:=ts) hE x;have j:=HB (ts:=ts) hE (d:=deep) (b:=x.b) (l:=x.kids) (by obtain⟨b,k⟩:=x;exact c.1);have w:bR ts s gH=x.b.k.toNat:=by
   have b:=G;rw[B]at b;rw[eh g b];exact agk (ts:=ts) hE j.1 j.2
  have T:x.b.k.toNat=x.b.k:=fy J;have v:At ts (dY s 1 0 0 0).i ((S8 x).tail++(nu l++kx 125::A)):=by
   have b:=G;rw[B]at b⊢;exact b.tail
  have S:1<=Z8 (S8 x):=by rw[B,aY];omega
  obtain⟨r,o,p⟩:=h x deep (s:=dY s 1 0 0 0) c.1 n.1 g hd i ZH ZH ZH ZH ZH ZH v;rw[gw,w,W J,T,jE,o];rw[dv];obtain⟨C,q,t⟩:=Wb h l f _ deep (s:=dY s _ (0+xL x) (0+zj x) (0+j7 x)) c.2 n.2 g hd i J ZH ZH ZH ZH ZH ZH (by
   have e:s.i+Z8 (S8 x)=(dY s (1+((Z8 (S8 x))-1)) (0+xL x) (0+zj x) (0+j7 x)).i:=ZH
   rw[<-e];exact G.right)
  refine⟨r::C,?_,Vl p t⟩;rw[q,dv,be,aP];congr 2<;>omega
theorem Kr:∀l,Z8 l<=Z8 (nu l)
 | []=>bh _
 | x::l=>by
  have:=Kr l;obtain⟨B,h⟩:=zK (ts:=ts) hE x;rw[nu,h,aP,aY,aY];omega
theorem Ks l (h:∀x,x∈l->1<=x.b.k/\x.b.k<=4) A:∃q B,nu l++kx 125::A=q::B/\Bm q:=by
 cases l with
 | nil=>
  exact⟨_,_,I,by unfold Bm;decide⟩
 | cons x l=>
  obtain⟨B,a⟩:=zK (ts:=ts) hE x;rw[nu,a];refine⟨_,_,I,?_⟩;obtain _:=h x R;have:x.b.k=1∨x.b.k=2∨x.b.k=3∨x.b.k=4:=J
  unfold Bm;rcases this with e | e | e | e<;>rw[e]<;>decide
theorem zL{d}:∀{l:X Nd},jm d l=aF->∀x,x∈l->1<=x.b.k/\x.b.k<=4
 | [],_,x,h=>by simp at h
 | y::l,h,x,a=>by
  rw[jm,H]at h;rcases aZ.1 a with rfl | a
  .obtain⟨b,k⟩:=x;exact HB (ts:=ts) hE h.1
  exact zL h.2 x a
theorem aeY{N:Nat}(E:Wa ts N){b}{l}{deep}{s:Sx}{n}(p:jm (deep+1) l=aF)(k:xu l)(H:nbS b)(G:Q4 b)(h:s.fc=0)(hd:s.d=12-deep)(F:deep<12)(W:13<=deep+1+N)
  (U:(dW l:Int)<=s.n) (V:s.n<=1000) (R:(BJ b+nt l:Nat)<=s.a) (t:s.a<=1000) (S:(Z8 b.mv+nY l:Nat)<=s.m) (K:s.m<=1000) {A} (dG:At ts s.i ((Cu b++(nu l++[kx 125]))++A)) (i:n.ini=[]) (I:n.en=[]) (C:n.lv=[]) (M:n.mv=[]):
  ∃a c e r,jl ts (fl ts N) n s=(.mk {n with ini:=b.ini,en:=a,lv:=c,mv:=e} r,dY s (Z8 (Cu b++(nu l++[kx 125]))) (BJ b+nt l) (Z8 b.mv+nY l) (dW l))/\j5 (AcE aM) b.en a/\j5 (AcE aM) b.lv c/\j5 (MvE aM) b.mv e/\j5 V8 l r:=by
 have dG:=ZE
 obtain⟨q,O,m,o⟩:=Ks hE l (zL hE p) A;have j:=At.inr hE (s:=s) (L:=Cu b++nu l) (q:=kx 125) (A:=A) ZE Z;rw[aP]at j;have P:=agf (ts:=ts) hE b.mv;have Q:=Kr (ts:=ts) hE l;have u:Z8 (RU b)+(Z8 (Gu b)+(Z8 (S7 b)+Z8 (zF b.mv)))=Z8 (Cu b):=by unfold Cu;simp
 have T:mZ s.d=s.d-1:=zH J J;have g:Ep (s.d-1)=s.d:=by
  unfold Ep;rw[eS J J];omega
 have Y:=dG;rw[m]at Y;obtain⟨a,c,e,v,w,x,y⟩:=atf hE (f:=Z8 ts+1) (n:=n) (s:={s with d:=s.d-1}) h J Sb t Sb K H G o Y i I C M;obtain⟨r,z,B⟩:=Wb hE E l (Z8 ts+1) [] _ (s:=dY {s with d:=s.d-1} (Z8 (Cu b)) (BJ b) (Z8 b.mv) 0) p k h ZH W J ZH ZH ZH ZH ZH ZH dG.right;refine⟨a,c,e,r,?_,w,x,y,B⟩;unfold jl;dsimp only;rw[T,v];rw[z];dsimp only;have D:({dY (dY {s with d:=s.d-1} (Z8 (Cu b)) (BJ b) (Z8 b.mv) 0) (Z8 (nu l)) (nt l) (nY l) (dW l)with d:=Ep (dY (dY {s with d:=s.d-1} (Z8 (Cu b)) (BJ b) (Z8 b.mv) 0) (Z8 (nu l)) (nt l) (nY l) (dW l)).d})=dY s (Z8 (Cu b)+Z8 (nu l)) (BJ b+nt l) (Z8 b.mv+nY l) (0+dW l):=by
  rw[dv];unfold dY;rw[g]
 rw[D,jO (s:=dY s (Z8 (Cu b)+Z8 (nu l)) _ _ _) h (q:=kx 125) (A:=A) (by
  have b:=dG.right.right;rw[fI]at b;exact b) Z,dv,cb]
 simp only[aP,aY,bE];congr 2<;>omega
theorem We:∀f,Wa ts f
 | 0=>by
  intro x deep s A h n c hd a;obtain⟨b,l⟩:=x;rw[ku]at h;simp only[H]at h;have:=aO h.1.1;omega
 | f+1=>by
  intro x deep s A e i h hd u r m o v q y d;obtain⟨b,l⟩:=x;have w:=HB (ts:=ts) hE e;rw[ku]at e;rw[Dw]at i;rw[j7]at r⊢;rw[xL]at o⊢;rw[zj]at q⊢;simp only[H]at e;obtain⟨⟨g,j⟩,p⟩:=e;have g:=aO g;show ∃t,fl ts (f+1) b.k s=_/\_;rw[S8]at d⊢;rw[fl];cases c:iJ b.k
  .obtain⟨P,F,G⟩:=V6 j c;rw[c,W Z]at d;have d:At ts s.i ((1,b.nm,0)::kx 123::((Cu b++(nu l++[kx 125]))++A)):=d;obtain⟨a,x⟩:=DW hE h b.k d J m J;rw[W J,W Z,x];dsimp only;rw[jO (s:=dY s 1 0 0 1) h d.tail Z,dv];obtain⟨L,M,N,t,z,B,C,D,E⟩:=aeY hE (We f) (deep:=deep) (s:=dY s (1+1) (0+0) (0+0) (1+0)) (n:={RL with k:=b.k,nm:=b.nm,a:=a}) p i.2 G i.1 h hd g J ZH ZH ZH ZH ZH ZH d.tail.tail I I I I;rw[z,dv];refine⟨_,?_,HA (b':={RL with k:=b.k,nm:=b.nm,a:=a,ini:=b.ini,en:=L,lv:=M,mv:=N}) ⟨I,I,I,F,B,C,D,Hy⟩ E⟩;congr 2<;>(try simp)<;>omega
  obtain⟨F,G,B,n,x,f,C⟩:=amM j c;have D:=aO c;have E:l=[]:=bJ C;subst E;rw[c,K I]at d;have d:At ts s.i ((1,b.nm,0)::UR::(1,b.dft,0)::kx 59::A):=d;obtain⟨a,z⟩:=DW hE h b.k d J m J;rw[K J,K I,z];dsimp only;rw[jO (s:=dY s 1 0 0 1) h d.tail Z,dv,wY (s:=dY s (1+1) (0+0) (0+0) (1+0)) h d.tail.tail];dsimp only;rw[jO (s:=dY (dY s (1+1) _ _ _) 1 0 0 0) h d.tail.tail.tail Z,dv,dv];refine⟨_,?_,HA (b':={RL with k:=b.k,nm:=b.nm,a:=a,dft:=b.dft}) ⟨I,I,B,I,by rw[n];exact DV,by rw[x];exact DV,by rw[f];exact DV,Hy⟩ DV⟩;congr 1;rw[nt,nY,dW];have:BJ b=0:=by unfold BJ;rw[n,x,f];rfl
  rw[this,f];rfl
theorem amU{s}(h0:s.fc=0){v}(c:rX v)(m:v≠ -9223372036854775808){q}{A}(dG:At ts s.i (Hx v++q::A)):
  ∃g,bR ts s [[45]]=g/\(if g=0 then(cY ts (if g=0 then s else bP s) 3).1.n else au U (-(cY ts (if g=0 then s else bP s) 3).1.n))=v/\(cY ts (if g=0 then s else bP s) 3).2=dY s (Z8 (Hx v)) 0 0 0:=by
 obtain⟨a,b⟩:=c;unfold Hx at dG⊢;by_cases h:v<0
 .rw[K h]at dG⊢;obtain⟨f,d,e⟩:=wX (s:=dY s 1 0 0 0) (k:=3) h0 dG.tail I;refine⟨1,Wt,?_,?_⟩
  .rw[W Z,W Z,jE,d];rw[Int.neg_neg,eS a b]
  rw[W Z,jE,e,dv];rfl
 rw[W h]at dG⊢;obtain⟨f,d,e⟩:=wX (s:=s) (k:=3) h0 dG I;exact⟨0,by rw[eh h0 dG];rfl,by rw[K I,K I,d],by rw[K I,e];rfl⟩
theorem amV{s}(l:s.fc=0)(o:1<=s.v)(p:s.v<=1000){v}(n:rX v.v)(m:v.v≠ -9223372036854775808){A}(d:At ts s.i ((YE v).tail++A)):
  ∃r,mc ts s=(r,dY {s with v:=s.v-1} (YE v).tail.length 0 0 0)/\VrE aM v r:=by
 have u:sP ts s={s with v:=s.v-1}:=by
  unfold sP;rw[W J,zH o p]
 unfold mc;dsimp only;rw[K d.head.1,u];generalize b:({s with v:=s.v-1})=s1;have a:s1.fc=0:=by rw[<-b];exact l
 have d:At ts s1.i ((1,v.n,0)::kx 61::((Hx v.v++[kx 59])++A)):=by rw[<-b];exact d
 obtain⟨c,t,f⟩:=wX (s:=s1) (k:=1) a d I;rw[c,f,jO (s:=dY s1 1 0 0 0) a d.tail Z,dv];have h:=by
  have:=d.tail.tail;rw[be]at this;exact this
 obtain⟨w,g,i,j⟩:=amU hE (s:=dY s1 (1+1) _ _ _) a n m h;rw[g,i,j,dv,jO (s:=dY s1 _ _ _ _) a (q:=kx 59) (A:=A) (by
  have e:(dY s1 (1+1) (0+0) (0+0) (0+0)).i+Z8 (Hx v.v)=(dY s1 (1+1+Z8 (Hx v.v)) (0+0+0) (0+0+0) (0+0+0)).i:=ZH
  rw[<-e];exact h.right) Z,dv]
 refine⟨⟨v.n,v.v,(cY ts s1 1).1.a⟩,?_,⟨I,I,Hy⟩⟩;unfold YE;simp;congr 2;omega
theorem Wf:∀l f a {s:Sx},s.fc=0->Z8 l<f->Z8 l<=s.v->s.v<=1000->(∀v,v∈l->rX v.v/\v.v≠ -9223372036854775808)->∀{q:K3} {A:X K3},S9 q [uu]=0->At ts s.i (zG l++q::A)->
  ∃r,gK ts f a s=(a++r,dY {s with v:=s.v-(Z8 l)} (Z8 (zG l)) 0 0 0)/\j5 (VrE aM) l r
 | [],f,a,s,h,hf,c,e,v,q,A,b,d=>by
  obtain⟨f,rfl⟩:∃g,f=g+1:=⟨f-1,Vz⟩
  rw[gK,eh h d,K b];refine⟨[],?_,DV⟩;unfold dY zG;simp
 | v::l,f,a,s,h,hf,o,p,b,q,A,m,d=>by
  rw[aY]at hf o;obtain⟨f,rfl⟩:∃k,f=k+1:=⟨f-1,J⟩
  have d:At ts s.i ((YE v++zG l)++q::A):=d;rw[be]at d;have Y:=d;obtain⟨r,e,c⟩:=amV hE (s:=dY s 1 0 0 0) h ZH ZH (b v R).1 (b v R).2 Y.tail;rw[gK,eh h Y,W Z,jE,e];have g:dY {dY s 1 0 0 0 with v:=(dY s 1 0 0 0).v-1} (YE v).tail.length 0 0 0=dY {s with v:=s.v-1} (Z8 (YE v)) 0 0 0:=by
   unfold dY YE;simp only[List.tail_cons,aY,Sx.mk.injEq,true_and];refine⟨J,?_,?_,?_⟩<;>omega
  rw[g];obtain⟨n,i,j⟩:=Wf l f _ (s:=dY {s with v:=s.v-1} (Z8 (YE v)) 0 0 0) h J ZH ZH (λx hx=>b x Rk) m d.right;refine⟨r::n,?_,Vl c j⟩;rw[i,be,aY];congr 1;unfold dY;simp only[zG,aP,Sx.mk.injEq,true_and];refine⟨J,J,?_,?_,?_⟩<;>omega
theorem unP:∀l,Z8 l<=Z8 (zG l)
 | []=>aX _
 | v::l=>by
  have:=unP l;rw[zG,aP,aY];unfold YE;rw[aY];omega
theorem aaW{c}(j:qW c=aF)(t:Ga c)(G:At ts 0 (WN c++[(5,[],0)])):(oE ts).2.fc=0/\∀d,ChE aM d c (oE ts).1:=by
 unfold qW at j;simp only[H]at j;obtain⟨⟨p,m⟩,f⟩:=j;replace f:=aO f;obtain⟨r,⟨b,l⟩⟩:=c;have w:=t.v;have u:=t.r;rw[ku]at m;simp only[H]at m;obtain⟨⟨_,Q⟩,o⟩:=m;dsimp only at p f w;obtain⟨Y,q2,q3,q4,q5⟩:=f;have hk:b.k=1:=Y;rw[j7]at q3;rw[zj]at q4;rw[xL]at q5;have S:iJ b.k=aM:=T8
 obtain⟨_,P,X⟩:=V6 Q S;have zZ:∀v,v∈r->rX v.v/\v.v≠ -9223372036854775808:=λv y=>by
  have:=(fi.1 p) v y;simp at this;exact⟨w v y,this.2⟩
 have G:At ts me.i ((2,dB,0)::(1,b.nm,0)::kx 123::(zG r++((Cu b++(nu l++[kx 125]))++[(5,[],0)]))):=by
  have e:(2,dB,0)::(1,b.nm,0)::kx 123::(zG r++((Cu b++(nu l++[kx 125]))++[(5,[],0)]))=(2,dB,0)::(1,b.nm,0)::kx 123::(zG r++(Cu b++(nu l++[kx 125])))++[(5,[],0)]:=R
  rw[e];exact G
 have z:me.fc=0:=I;unfold oE;rw[jO (s:=me) z G Z];obtain⟨a,A⟩:=DW hE (s:=dY me 1 0 0 0) z 1 G.tail Z Z Z;rw[A];dsimp only;rw[jO (s:=dY (dY me 1 0 0 0) 1 0 0 1) z G.tail.tail Z,dv,dv];have i:At ts (dY me (1+1+1) (0+0+0) (0+0+0) (0+1+0)).i _:=G.tail.tail.tail;obtain⟨q,B,V,h⟩:∃q B,(Cu b++(nu l++[kx 125]))++[((5,[],0))]=q::B/\S9 q [uu]=0/\q.1≠5:=by
  obtain⟨q,B,a,d⟩:=Ks hE l (zL hE o) [_];have v:S9 q [uu]=0:=by
   cases l with
   | nil=>
    have:q=kx 125:=by injection a with b _;exact b.symm
    rw[this];decide
   | cons x l=>
    obtain⟨s,b⟩:=zK (ts:=ts) hE x;rw[nu,b]at a;have:q=(2,kW x.b.k,0):=by injection a with k _;exact k.symm
    obtain _:=zL (ts:=ts) hE o x R;have n:x.b.k=1∨x.b.k=2∨x.b.k=3∨x.b.k=4:=J
    rw[this];rcases n with e | e | e | e<;>rw[e]<;>decide
  have e:(Cu b++(nu l++[kx 125]))++[((5,[],0))]=Cu b++(nu l++kx 125::[(5,[],0)]):=R
  rw[e,a];unfold Cu RU Gu S7;by_cases c:b.ini=[]
  .rw[K c];by_cases e:b.en=[]
   .rw[K e];by_cases k:b.lv=[]
    .rw[K k];cases n:b.mv with
     | nil=>exact⟨q,B,I,v,d.2.2⟩
     | cons s ms=>
      have:∃b q,P0 s=(2,b,0)::q/\S9 (2,b,0) [uu]=0:=by
       unfold P0 R9;split
       .exact⟨_,_,I,Z⟩
       split
       .exact⟨_,_,I,Z⟩
       exact⟨_,_,I,Z⟩
      obtain⟨b,q,x,u2⟩:=this;rw[zF,x];exact⟨_,_,I,u2,(by decide:(2:Int)≠5)⟩
    rw[W k];exact⟨_,_,I,Z,Z⟩
   rw[W e];exact⟨_,_,I,Z,Z⟩
  rw[W c];exact⟨_,_,I,Z,Z⟩
 have g:=i;rw[V]at g;have fS:=unP (ts:=ts) hE r;have T:=At.inr hE g h.2;obtain⟨rv,C,D⟩:=Wf hE r (Z8 ts+1) [] (s:=dY me _ _ _ _) z J Jc Z zZ h.1 g;rw[C];obtain⟨r0,r1,r2,am,E,F,L,M,N⟩:=aeY hE (We hE 14) (deep:=0) (s:=dY {dY me (1+1+1) (0+0+0) (0+0+0) (0+1+0)with v:=(dY me (1+1+1) _ _ _).v-(Z8 r)} (Z8 (zG r)) 0 0 0) (n:={RL with k:=1,nm:=b.nm,a:=a}) o u.2 X u.1 z I Z Z Jc Jc Jc Jc Jc Jc i.right I I I I;rw[E];rw[dv];refine⟨?_,λd=>⟨by rw[cb];exact D,HA (b':={RL with k:=1,nm:=b.nm,a:=a,ini:=b.ini,en:=r0,lv:=r1,mv:=r2}) ⟨hk,I,I,P,F,L,M,Hy⟩ N d⟩⟩;unfold xq;rw[W]
 .exact z
 rintro⟨_,b⟩;refine b ?_;have a:=i.right.right.head.1;rw[fI]at a;exact a
end
def abw{c}(h:qW c=aF)(n:Ga c)(p:Z8 (Bi (EO c))<=16384):(fg (Bi (EO c))).2.1=0/\∀d,ChE aM d c (fg (Bi (EO c))).1:=by
 have b:=amO h n;unfold Lq at b;generalize Bi _=L at*
 have Y:j8 L (0+Z8 L)=.ok [⟨5,[],0,Z8 L⟩]:=by
  have hd:L.drop (Z8 L)=[]:=dJ (aX _);have c:ld aM []=0:=I;rw[bO,jT (aX _),hd,c,K J];rfl
 obtain⟨u,g,i⟩:=b L 0 [] _ (bh _) (by rw[fA,bD]) trivial Y;generalize k:u++[_]=s at*
 have a:cQ L=(s,0,0):=by rw[cQ,W J,g]
 have E:=by
  have:=(mP (l:=L) (by rw[a])).1;rw[a]at this;exact this
 have m:s.map k3=WN c++[(5,[],0)]:=by rw[<-k,cX,i];rfl
 have G:At s 0 (WN c++[_]):=λo q j=>by
  rw[<-m,dr,ir]at j;obtain⟨t,c,rfl⟩:=j;have:tk s (0+o)=t:=by
   unfold tk;rw[bO,c];rfl
  rw[this]
 obtain⟨e,f⟩:=aaW E h n G;unfold fg;rw[a];dsimp only;rw[W Z,W (by rw[e];decide)];exact⟨I,f⟩
end Go.Proofs.YtccbiehilmhodaaGreatDoor.Con
namespace Go.Kt
open Go Go.RowKit Go.ChangeShapes Go.WideShapes
section
variable {H:Type} {enc:TypeId×ay->H} {P:Program}
def xO(l:laidOutB P=aF){W W'}{sp}(h:Below W.heap.size W W'):∀{a:X TypeId} {b:X ay} {s:X _} {ps:X MemPlace},
  (∀t,t∈a->P.readableRec t=aF/\t<P.types.size)->DataW.TrodAll enc P W 0 (λ_=>aF) aF a b s ps->(∀x,x∈ps->x.block<W.heap.size)->(∀x,x∈ps->sp x.block=aF)->DataW.TrodAll enc P W' 0 sp aF a b s ps
 | [],b,s,ps,_,c,_,_=>by
  obtain⟨rfl,rfl,rfl⟩:=trodAll_nil c;exact trodAll_mk0
 | t::a,b,s,ps,r,f,T,c=>by
  obtain⟨v,m,d,e,p,q,rfl,rfl,rfl,g,i⟩:=trodAll_cons f;obtain⟨j,k⟩:=r t R;exact trodAll_cons_mk (WideElems.Trod_stays l j k g (λx hx=>h.same (T x Rk)) λx hx=>c x Rk)
   (xO l h (λd u=>r d (by simp[u])) i (λx hx=>T x Rk) λx hx=>c x Rk)
def law_post{f}{s:ChangeSpec}{fresh handsOn again}{W W'}{args}{ds gs}{before}{tb}
  (d:DataW.Whole enc P f.params.toList s.vars aM W args.toList ds gs before) (v:s.vars=[])
  (C:(s.fn H (ds++gs)).results=[.lit (.bool aF)]) (h:(s.fn H (ds++gs)).args=ds) (Z:(s.fn H (ds++gs)).vars=[])
  (c:f.resultTypes=#[tb]) (u:P.underlying tb=Hg .bool) (l:laidOutB P=aF) (i:(f.params.toList.all λt=>P.readableRec t&&VM (t<P.types.size))=aF) (O:Only [] W W'):
  s.post enc P f aM fresh handsOn again W args (.bool aF) W':=by
 have e:=O.below (aX _) R;have T:=λp hp=>d.lt p hp;obtain⟨p,q,k,j,rfl,z,n⟩:=id d;rw[v]at j;obtain⟨rfl,rfl⟩:=trodVars_none j;rw[bD]at*
 have A:∀sp,_->DataW.TrodAll enc P W' 0 sp aF f.params.toList args.toList (s.fn H ds).args p:=λsp g=>by
  rw[h];exact xO l e (λt c=>by simpa using fi.1 i t c) k (λx hx=>by simpa using T x hx) g
 have V:∀sp,DataW.TrodVars enc P W' sp s.vars (s.fn H ds).vars []:=λsp=>by
  rw[v,Z];simp[DataW.TrodVars]
 have a:∀b sp hd,DataW.TrodAll enc P W' b sp hd f.resultTypes.toList ((Value.bool aF).resultList f.resultTypes.size) (s.fn H ds).results []:=λb sp hd=>by
  rw[C,c];exact trodAll_cons_mk (shut_bool u aF) trodAll_mk0
 have o:∀x∈p,(λb=>decide _) x.block=aF:=λx hx=>by simpa using T x hx
 refine⟨ds,[],p,[],p,[],d,by simpa using a _ _ _,by simpa using A _ o,by simpa using V _,World.keptBut_mono (λx hx=>⟨hx,KB⟩) (e.frame _),λ_=>?_⟩;refine⟨ok_one c I (okWide_bool_mk u aF),_,_,_++[],⟨[]++p,[],trodAll_append (A _ (λ_ _=>I)) (a _ _ _),V _,I,?_,?_⟩,?_⟩
 .intro b off hp;have hp:=UL
  rw[e.frozen (p:=_) (T _ hp)];exact z b off hp
 .intro b;cases b
 intro x hp _;simpa using hp
variable {W:aw} {base:Nat} {spare:Nat->L} {held:L} {α:Type}
def weights_of{ts}{ds}(h:(DataW.weightsEach P ts ds).all (· <=reachBytes)=aF)(j:Nat){t}{d:DataW H}(b:ts[j]? =Hg t)(hd:ds[j]? =Hg d):∀n,n∈d.weights P t->n<=reachBytes:=
 λn a=>by simpa using fi.1 h n (DataW.weights_mem_each b hd n a)
end
section
variable {H:Type} {enc:TypeId×ay->H} {P:Program} {W:aw} {base:Nat} {spare:Nat->L} {held:L} {α β:Type} {B:DataW H->Nat}
def HC{p}{g:Nat->Nat}:∀{l:X α} {o:Nat},(∀i b,l[i]? =Hg b->p b<=g (o+i))->(l.map p).sum<=((List.range (Z8 l)).map λi=>g (o+i)).sum
 | [],_,_=>R
 | a::l,o,h=>by
  rw[aY,List.range_succ_eq_map,cu,cu,eU,eU,mw];have d:=HC (p:=p) (g:=g) (l:=l) (o:=o+1) λi b c=>by
   have:=h (i+1) b c;rw[show o+1+i=o+(i+1) by omega];exact this
  refine xF (h 0 a I) (bp d (ri ?_));congr 1;refine vw λi _=>?_;congr 1;omega
end
end Go.Kt
namespace Go.Proofs.YtccbiehilmhodaaGreatDoor.Con
open Go Go.RowKit Go.Kt Go.Kt.V Go.Proofs.YtccbiehilmhodaaGreatDoor.Vc Go.ChangeShapes Go.WideShapes
def acb{c}(n:Ga c):kf c=jI c:=by
 unfold kf jI;by_cases h:qW c=aF
 .rw[K h,K h];by_cases a:16384<Z8 (eE [] (EO c))
  .rw[K a,K a]
  rw[W a,W a];have e:=xKQ (EO c) [] J;rw[cb]at e;rw[e,W (by rw[(abw h n (by rw[<-e];omega)).1];decide)]
 rw[W h,W h]
structure Rr (F:aK) (ts:List Tk) (w:aw) (b:Nat) (l:Sl) (i:Nat) (fc fa d:Int):Prop where
 blk:aG w b 332 [l.v,O U (i:Int),O U d,O U fc,O U fa]
 tok:aB MN 4 w F l ts
 hF:∀k,F k->k<b
 en:pG ts
 lt:i<Z8 ts
section
variable {F:aK} {ts:X Tk} {w w':aw} {b:Nat} {l:Sl} {i:Nat} {fc fa d:Int}
def Rr.only(h:Rr F ts w b l i fc fa d)(O:az [] w w'):Rr F ts w' b l i fc fa d:=
 ⟨O.blk h.blk R,Aw gz Z h.tok O R,h.hF,h.en,h.lt⟩
def Rr.gN(h:Rr F ts w b l i fc fa d)(c:az [b] w w'){a:Nat}{fc' fa' d'}(B:aG w' b 332 [l.v,O U a,O U d',O U fc',O U fa'])(e:a<Z8 ts):Rr F ts w' b l a fc' fa' d':=
 ⟨B,Aw gz Z h.tok c λk hk _ hm=>Wy,h.hF,h.en,e⟩
def Rr.own(h:Rr F ts w b l i fc fa d){bs}(O:az bs w w')(hb:∀x,x∈bs->b<x):Rr F ts w' b l i fc fa d:=
 ⟨O.blk h.blk λhm=>TL,Aw gz Z h.tok O λk hk _ hm=>P9,h.hF,h.en,h.lt⟩
def Rr.lb(h:Rr F ts w b l i fc fa d):b<w.heap.size:=h.blk.lt
def Rr.big(h:Rr F ts w b l i fc fa d):Z8 ts<=9223372036854775807:=by
 have a:=h.tok.len;have c:=h.tok.cap;have e:=h.tok.big;omega
def Rr.now(h:Rr F ts w b l i fc fa d):∃ad,cM l i 4 ad/\aD w ad [O U (tk ts i).k,ae (T (tk ts i).t),O U (tk ts i).n,O U (tk ts i).a]:=by
 have m:=h.tok.len;have f:=h.lt;obtain⟨ad,x,s,a,g,j,k,c,e⟩:=h.tok.get (bc i) J;rw[aW,za h.lt]at g;injection g with g;subst g;subst e;exact⟨ad,a,c⟩
def HD(h:Rr F ts w b l i fc fa d) c:aA ar 387 #[ah (Hg ⟨b,0,ZQ⟩),O U c] w λe w'=>e=ao (aj #[])/\az [b] w w'/\
  Rr F ts w' b l i (if fc=0 then c else fc) (if fc=0 then(tk ts i).a else fa) d:=by
 refine ret (asF ?_);refine⟨fc,Mn h.blk 3 I,λhc f a=>?_,λhc=>?_⟩
 .have hc:=R0
  subst hc;have c:=h.only a;obtain⟨ad,g,e⟩:=c.now;exact⟨l,Mn c.blk 0 I,_,Mn c.blk 1 I,ad,g,_,e.dx 3 _ I,b,3,_,_,I,c.blk,R,λw d j=>⟨I,a.weaken (λ_ h=>Rl) |>.trans d (λx i=>.inl i),c.gN d j h.lt⟩⟩
 have hc:=R0
 rw[W hc,W hc];exact⟨I,EC _ _,h⟩
def DX(h:Rr F ts w b l i fc fa d):aA ar 362 #[ah (Hg ⟨b,0,ZQ⟩)] w λe w'=>e=ao (aj #[])/\az [b] w w'/\
  Rr F ts w' b l i (if fc=0 then(jq ts i).1 else fc) (if fc=0 then(jq ts i).2 else fa) d:=by
 refine ret (asE ?_);obtain⟨ad,g,f⟩:=h.now;refine⟨l,Mn h.blk 0 I,_,Mn h.blk 1 I,ad,g,_,f.dx 0 _ I,λhc j a=>(HD (h.only a) 3).mono ?_,λhc k c=>(HD (h.only c) 4).mono ?_⟩
 .have hc:=R0
  rintro _ w ⟨rfl,p,R⟩;unfold jq;rw[K hc];exact⟨I,I,a.weaken (λ_ h=>Rl) |>.trans p (λx b=>.inl b),R⟩
 have hc:=R0
 rintro _ w ⟨rfl,p,R⟩;unfold jq;rw[W hc];exact⟨I,I,c.weaken (λ_ h=>Rl) |>.trans p (λx b=>.inl b),R⟩
def zM(f:Rr F ts w b l i fc fa d) s:aA ar 358 #[ah (Hg ⟨b,0,ZQ⟩),ae (T s)] w λe w'=>e=ao (ak (fc==0&&sg ts i s))/\az [] w w':=by
 refine ret (asz ?_);intro m c;have h:=f.only c;obtain⟨ad,g,a⟩:=h.now;refine⟨λ_=>True,trivial,l,Mn h.blk 0 I,trivial,_,Mn h.blk 1 I,ad,g,trivial,_,_,_,_,a,λj n k r p=>⟨fc,Mn (h.only p).blk 3 I,?_,c.cn p⟩⟩;rw[iC,xE];rfl
def Cv(h:Rr F ts w b l i fc fa d) s:aA ar 360 #[ah (Hg ⟨b,0,ZQ⟩),ae (T s)] w λe w'=>e=ao (aj #[])/\az [b] w w'/\
  (if fc==0&&sg ts i s then Rr F ts w' b l (i+1) fc fa d else Rr F ts w' b l i (if fc=0 then(jq ts i).1 else fc) (if fc=0 then(jq ts i).2 else fa) d):=by
 refine ret (asC ?_);refine(zM h s).mono ?_;rintro _ f ⟨rfl,p⟩;have a:=h.only p;have g:az [b] w f:=p.weaken λ_ h=>Rl
 refine⟨_,I,λc=>(DX a).mono ?_,λc=>?_⟩
 .rintro _ w ⟨rfl,O,h⟩;have c:(fc==0&&sg ts i s)=aM:=by rwa[ey]at c
  rw[c];exact⟨I,I,g.trans O (λx b=>.inl b),h⟩
 have c:=by rwa[fO]at c
 rw[c];simp at c;have n:=h.en.next h.lt (zd c.2);have j:=h.big;refine⟨i,Mn a.blk 1 I,b,1,_,_,I,a.blk,R,λw d q=>⟨I,g.trans d (λx e=>.inl e),a.gN d ?_ n⟩⟩;rw[eS J J]at q;exact q
def P5{d:Nat}(hd:d<=20)(h:Rr F ts w b l i 0 0 d)(n:i+1<Z8 ts):aA ar 359 #[ah (Hg ⟨b,0,ZQ⟩)] w λe w'=>e=ao (ak (!VM (d=20)))/\az [b] w w'/\
  (if d=20 then Rr F ts w' b l i 21 (tk ts i).a d else Rr F ts w' b l (i+1) 0 0 ((d+1:Nat))):=by
 refine ret (asA ?_);have a:=h.big;refine⟨d,Mn h.blk 2 I,λhc=>(HD h 21).mono ?_,λhc=>?_⟩
 .have hc:d=20:=by
   have:=R0
   omega
  rintro _ w ⟨rfl,c,b⟩;refine⟨I,by rw[bF hc];rfl,c,?_⟩;rw[K hc];exact b
 have hc:d≠20:=λe=>Um
 refine⟨d,Mn h.blk 2 I,b,2,_,_,I,h.blk,R,λw p f=>?_⟩;rw[eS J J]at f;have c:=h.gN p f h.lt;refine⟨i,Mn c.blk 1 I,b,1,_,_,I,c.blk,R,λk O j=>?_⟩;rw[eS J J]at j;refine⟨by rw[bC hc];rfl,p.trans O λx g=>.inl g,?_⟩;rw[W hc];exact c.gN O j n
end
def qK:X (X (S)):=[[[124,124]],[[38,38]],[[61,61],[33,61]],[[60],[60,61],[62],[62,61]],[[43],[45]],[[42],[47],[37]]]
def fG:X (X Int):=[[13],[12],[10,11],[6,7,8,9],[1,2],[3,4,5]]
def DY:Rp Int:=λ_ _ x c=>c=[O U x]
def nP:DY.Ok where
 keep h _:=h
 inHeap h:=h
 mono h _:=h
 one:=by
  rintro w F x c rfl v h;simp at h;subst h;rfl
def HE{a:Type}(r:Rp a):Rp (X a):=λw F x c=>∃s,c=[s.v]/\aB r 1 w F s x
def wZ{α}{b:Rp α}(r:b.Ok):(HE b).Ok where
 keep:=λ⟨s,h,a⟩ k=>⟨s,h,KN r a Z k⟩
 inHeap:=λ⟨s,h,a⟩=>⟨s,h,Mr r a Z⟩
 mono:=λ⟨s,h,a⟩ k=>⟨s,h,Z5 r a k⟩
 one:=by
  rintro w F x d ⟨s,rfl,_⟩ v c;simp at c;subst c;rfl
def AQ w l {n} {parts} (h:parts=(((l.map λx=>Value.int U x).zipIdx 0).map λx=>(x.2,x.1)).toArray) (hn:Z8 l=n) (b:0<n) (B:n*1<=16777216):
  ∃s a,(av 43 n parts).run ar w=.ok (Sl.v s) a/\Own DY 1 3 w.heap.size a (λ_=>True) s l/\az [] w a:=by
 have E:ql DY 1 w (λ_=>True) l ((l.map λx=>Value.int U x).map λv=>v.cells.toList):=by
  clear h hn
  induction l with
  | nil=>trivial
  | cons x l i=>exact⟨⟨I,I⟩,i⟩
 obtain⟨s,a,c,d,f,_⟩:=kD (P:=ar) (t:=43) (e:=3) (i:=Tryz.t3) (r:=DY) (size:=1) D D I I Z h Vd b B nP E;exact⟨s,a,c,d,f⟩
def sv0{α}{r:Rp α}(c:r.Ok){t e}{ti}(u:Tryz.prog.underlying t=Hg (.slice e))(m:Tryz.prog.info? e=Hg ti){z}(y:ti.zero=Hg z)(q:ti.size=1){w}{F}{xs}(a:X Sl){n}{parts}(p:parts=(((a.map λs=>s.v).zipIdx 0).map λx=>(x.2,x.1)).toArray)(hn:Z8 a=n)(f:0<n)(B:n*1<=16777216)
  (E:jg (λx s=>Z8 s=1/\HE r w F x s) xs (a.map λs=>[s.v])):
  ∃s b,(av t n parts).run ar w=.ok (Sl.v s) b/\aB (HE r) 1 b (λk=>F k∨w.heap.size<=k) s xs/\az [] w b:=by
 have h:ql (HE r) 1 w F xs ((a.map λs=>s.v).map λv=>v.cells.toList):=by
  have:((a.map λs=>s.v).map λv=>v.cells.toList)=a.map λs=>[s.v]:=by
   rw[mw];rfl
  rw[this];exact E
 obtain⟨s,b,g,j,l,_⟩:=kD (P:=ar) (t:=t) (e:=e) (i:=ti) (r:=HE r) (size:=1) u m y q Z p Vd f B (wZ c) h;exact⟨s,b,g,Z5 (wZ c) (j.slice (wZ c)) (λk o=>o.imp id λd=>d.1),l⟩
def Wh w:aA ar 363 #[] w λe x=>∃s,e=ao s.v/\aB (HE ju) 1 x (λk=>w.heap.size<=k) s qK/\az [] w x:=by
 refine iE (asi ?_);obtain⟨g,y,G,P,c0⟩:=jb w [[124,124]] (n:=1) (parts:=#[_]) I I Z Z;obtain⟨h,z,H,Q,f⟩:=jb y [[38,38]] (n:=1) (parts:=#[_]) I I Z Z;obtain⟨i,A,K,S,d⟩:=jb z [[61,61],[33,61]] (n:=2) (parts:=#[_,_]) I I Z Z;obtain⟨j,B,L,T,b⟩:=jb A [[60],[60,61],[62],[62,61]] (n:=4) (parts:=#[_,_,_,_]) I I Z Z;obtain⟨m,C,M,U,a⟩:=jb B [[43],[45]] (n:=2) (parts:=#[_,_]) I I Z Z;obtain⟨o,E,N,V,c⟩:=jb C [[42],[47],[37]] (n:=3) (parts:=#[_,(1,ae _),_]) I I Z Z;have z0:=c0.size;have z1:=f.size;have z2:=d.size;have z3:=b.size;have z4:=a.size;have mk:∀{u q:aw} {s:Sl} {l:X _},w.heap.size<=u.heap.size->∀{v:aw},Own ju 1 9 u.heap.size v (λ_=>True) s l->az [] v q->[s.v].length=1/\HE ju q (λk=>w.heap.size<=k) l [s.v]:=λhu v hB hO=>⟨I,_,I,Aw cx Z (Z5 cx (pT hB) λk hk=>Wm) hO R⟩
 obtain⟨p,w6,O,W,Y⟩:=sv0 (r:=ju) cx (t:=379) (e:=37) (ti:=Tryz.t37) D D I I (w:=E) (F:=λk=>w.heap.size<=k) (xs:=qK) [g,h,i,j,m,o] (n:=6) (parts:=#[_,_,_,_,_,_]) I I Z Z
  ⟨mk (aX _) P (((((f.cn d).cn b).cn a).cn c)),mk J Q ((((d.cn b).cn a).cn c)),mk J S ((b.cn a).cn c),mk J T (a.cn c),mk J U c,mk J V (EC _ _),trivial⟩
 have z5:=c.size;exact⟨g,y,G,h,z,H,i,A,K,j,B,L,m,C,M,o,E,N,p,w6,O,p,I,Z5 (wZ cx) W (λk hk=>by rcases hk with hk | hk<;>omega),(((((c0.cn f).cn d).cn b).cn a).cn c).cn Y⟩
def Nf w:aA ar 364 #[] w λe x=>∃s,e=ao s.v/\aB (HE DY) 1 x (λk=>w.heap.size<=k) s fG/\az [] w x:=by
 refine iE (ash ?_);obtain⟨g,y,G,P,c0⟩:=AQ w [13] (n:=1) (parts:=#[_]) I I Z Z;obtain⟨h,z,H,Q,f⟩:=AQ y [12] (n:=1) (parts:=#[_]) I I Z Z;obtain⟨i,A,K,S,d⟩:=AQ z [10,11] (n:=2) (parts:=#[_,_]) I I Z Z;obtain⟨j,B,L,T,b⟩:=AQ A [6,7,8,9] (n:=4) (parts:=#[_,_,_,_]) I I Z Z;obtain⟨m,C,M,U,a⟩:=AQ B [1,2] (n:=2) (parts:=#[_,_]) I I Z Z;obtain⟨o,E,N,V,c⟩:=AQ C [3,4,5] (n:=3) (parts:=#[_,_,_]) I I Z Z;have z0:=c0.size;have z1:=f.size;have z2:=d.size;have z3:=b.size;have z4:=a.size;have mk:∀{u q:aw} {s:Sl} {l:X Int},w.heap.size<=u.heap.size->∀{v:aw},Own DY 1 3 u.heap.size v (λ_=>True) s l->az [] v q->[s.v].length=1/\HE DY q (λk=>w.heap.size<=k) l [s.v]:=λhu v hB hO=>⟨I,_,I,Aw nP Z (Z5 nP (OD nP (λ_ _ _ _ _ am=>am) hB) λk hk=>Wm) hO R⟩
 obtain⟨p,w6,O,W,Y⟩:=sv0 (r:=DY) nP (t:=57) (e:=43) (ti:=Tryz.t43) D D I I (w:=E) (F:=λk=>w.heap.size<=k) (xs:=fG) [g,h,i,j,m,o] (n:=6) (parts:=#[_,_,_,_,_,_]) I I Z Z
  ⟨mk (aX _) P (((((f.cn d).cn b).cn a).cn c)),mk J Q ((((d.cn b).cn a).cn c)),mk J S ((b.cn a).cn c),mk J T (a.cn c),mk J U c,mk J V (EC _ _),trivial⟩
 have z5:=c.size;exact⟨g,y,G,h,z,H,i,A,K,j,B,L,m,C,M,o,E,N,p,w6,O,p,I,Z5 (wZ nP) W (λk hk=>by rcases hk with hk | hk<;>omega),(((((c0.cn f).cn d).cn b).cn a).cn c).cn Y⟩
def oM(t:X Tk)(i:Nat):X (S)->X Int->Int
 | s::b,n::a=>if sg t i s=aF then n else oM t i b a
 | _,_=>0
def ahB(t:X Tk)(i k:Nat)(h:k<6):oM t i ((qK[k]?).getD []) ((fG[k]?).getD [])=lf t (k:Int) i:=by
 match k,h with
 | 0,_=>simp[lf,jU,gj,oM,qK,fG,eP,xX]
 | 1,_=>simp[lf,jU,gj,oM,qK,fG,eP,xX]
 | 2,_=>simp[lf,jU,gj,oM,qK,fG,eP,xX]
 | 3,_=>simp[lf,jU,gj,oM,qK,fG,eP,xX]
 | 4,_=>simp[lf,jU,gj,oM,qK,fG,eP,xX]
 | 5,_=>simp[lf,jU,gj,oM,qK,fG,eP,xX]
def zOk{ts}{i}{b:X _}{a:X Int}{n}{s}{m}(h:b[n]? =Hg s)(c:a[n]? =Hg m):oM ts i (b.drop n) (a.drop n)=if sg ts i s=aF then m else oM ts i (b.drop (n+1)) (a.drop (n+1)):=by
 rw[gA (bd.1 h).1,(bd.1 h).2,gA (bd.1 c).1,(bd.1 c).2,oM]
def acv(k:Nat):Z8 ((qK[k]?).getD [])=Z8 ((fG[k]?).getD []):=by
 rcases oT k 6 with h | h
 .match k,h with
  | 0,_=>rfl
  | 1,_=>rfl
  | 2,_=>rfl
  | 3,_=>rfl
  | 4,_=>rfl
  | 5,_=>rfl
 rw[cR (h),cR (h)];rfl
section
variable {F:aK} {ts:X Tk} {w w':aw} {b:Nat} {l:Sl} {i:Nat} {fc fa d:Int}
def age(B:Rr F ts w b l i fc fa d){k:Nat}(C:k<6):aA ar 337 #[ah (Hg ⟨b,0,ZQ⟩),O U k] w λe w'=>e=ao (O U (if fc=0 then lf ts k i else 0))/\az [] w w':=by
 refine ret (asy ?_);refine(Wh w).mono ?_;rintro _ Q ⟨E,rfl,j,q⟩;have n0:=j.len;have n6:Z8 qK=6:=I;obtain⟨p0,x,s,y,g,g3,g4,A,L,rfl,S⟩:=j.get (bc k) J;rw[aW]at g;refine⟨E,I,p0,y,L,A,(Nf Q).mono ?_⟩;rintro _ V ⟨G,rfl,N,p⟩;have m0:=N.len;have m6:Z8 fG=6:=I;obtain⟨H,o,X,t,a,Y,e4,u,P,rfl,M⟩:=N.get (bc k) J;rw[aW]at a;have h:=ahB ts i k C;have r:=acv k;rw[g,a,iW,iW]at h r;have t1:=S.len;have t2:=M.len;have t3:=S.cap;have t4:=S.big;refine⟨G,I,H,t,P,u,λv D w'=>∃n,n<=Z8 x/\D=n/\v=(Z8 x)-n/\(fc=0->oM ts i x o=oM ts i (x.drop n) (o.drop n))/\az [] V w',Z8 x,⟨0,bh _,I,I,λ_=>I,EC _ _⟩,?_⟩;rintro v _ w2 ⟨n,hn,rfl,rfl,f,c⟩;have z:=(q.cn p).cn c;refine⟨λT=>?_,λm=>?_⟩
 .have T:=aO T;obtain⟨p2,e,F,q1,w,q3,q4,q5,q6⟩:=(Aw cx Z S (p.cn c) R).get (bc n) T;subst q6;rw[aW]at w;refine⟨p2,q1,_,q5,(zM (B.only z) e).mono ?_⟩;rintro _ w3 ⟨rfl,d⟩;obtain⟨p3,am,O,r1,r2,r3,r4,r5,r6⟩:=(Aw nP Z M (c.cn d) R).get (i:=n) (bc n) J;subst r6;have l:=zOk (ts:=ts) (i:=i) w r2;refine⟨_,I,λb=>⟨p3,r1,am,r5,?_,z.cn d⟩,λb=>⟨(Z8 x)-_,J,n+1,J,TE,I,λk=>?_,c.cn d⟩⟩
  .simp at b;rw[K b.1,<-h,f b.1,l,K b.2]
  rw[f k,l,W];intro i;rw[k,i]at b;exact absurd b Z
 have m:=aR m;refine⟨?_,z⟩;by_cases b:fc=0
 .rw[K b,<-h,f b,dJ J];rfl
 rw[W b]
end
def uD(F:aK)(t:X Tk)(a w:aw)(b:Nat)(l:Sl)(d:Nat)(r:Pr)(v:ay):Prop:=az [b] a w/\match r with
 | .ok (x,j)=>∃c,v=ai c.toArray/\RX w a.heap.size w.heap.size x c/\Rr F t w b l j 0 0 d
 | .error e=>e.1≠0/\R3 v/\∃j,Rr F t w b l j e.1 e.2 d
section
variable {F:aK} {ts:X Tk} {w w':aw} {b:Nat} {l:Sl} {i:Nat} {fc fa:Int}
def uD.qN{d}{r}{v}(h:uD F ts w w' b l d r v):R3 v:=by
 obtain⟨_,h⟩:=h;cases r with
 | error e=>exact h.2.1
 | ok q=>
  obtain⟨c,rfl,x,_⟩:=h;obtain⟨sl,rfl,_⟩:=x.cells;exact⟨_,_,_,_,_,_,I⟩
def uD.Eg{w0 w1 w2 w3}{d}{r}{v}(a:uD F ts w1 w2 b l d r v)(g:az [b] w0 w1){bs}(c:az bs w2 w3)(f:∀x,x∈bs->b<x/\w0.heap.size<=x/\x<w1.heap.size):uD F ts w0 w3 b l d r v:=by
 obtain⟨i,a⟩:=a;refine⟨(g.trans i λx h=>.inl h).trans c λx h=>.inr (f x h).2.1,?_⟩;cases r with
 | error e=>
  obtain⟨b,d,k,j⟩:=a;exact⟨b,d,k,j.own c λx h=>(f x h).1⟩
 | ok q=>
  obtain⟨s,b,d,e⟩:=a;exact⟨s,b,(d.only c λx h=>.inl (f x h).2.2).wide g.size c.size,e.own c λx h=>(f x h).1⟩
def FC:R3 (ai #[O U 0,O U 0,ae (aq #[]),O U 0,Sl.nil.v,O U 0]):=⟨0,0,[],0,Sl.nil,0,I⟩
def amW{d:Nat}(h:Rr F ts w b l i 0 0 d)(z:i+1<Z8 ts):aA ar 361 #[ah (Hg ⟨b,0,ZQ⟩)] w λe w'=>∃v,e=ao v/\uD F ts w w' b l d (Ik ts i) v:=by
 refine asD ⟨b,0,ZQ⟩ w ?_;intro n T Q L j;have M:=h.lb;have H:=h.big;have V:=j.size;have g:=h.only j;obtain⟨ad,q,r⟩:=g.now;refine⟨λ_=>True,trivial,l,Mn g.blk 0 I,trivial,_,Mn g.blk 1 I,ad,q,trivial,_,r.dx 3 _ I,λA E S P p=>?_⟩;have X:=p.size;have c:=g.only p;have t:=j.cn p;have sm:∀{u f:aw},E.heap.size<=u.heap.size->az [b] u f->cF [n,A] u f:=λN y=>y.same Px;refine⟨(i:Int),Mn c.blk 1 I,b,1,_,_,I,c.blk,R,J,J,λG O Y=>?_⟩;rw[eS J J]at Y;have m:=c.gN O Y z;have Z:=O.size;have D:az [b] w G:=(t.weaken λ_ h=>Rl).trans O λx hx=>.inl hx;refine(Cv m [40]).mono ?_;rintro _ U ⟨rfl,k,a⟩;have z3:=k.size;have o:=D.trans k λx hx=>.inl hx;refine⟨I,sm J k,?_⟩;rw[show((0:Int)==0)=aF from rfl,cr,K I,K I]at a;have B:∀{u f:aw},az [b] w u->az [n] u f->az [b] w f:=λc m=>c.new m Q;by_cases s:sg ts (i+1) [40]=aF
 .rw[K s]at a;refine⟨0,Mn a.blk 3 I,λhc=>(by simp at hc),λ_=>?_⟩;obtain⟨Zj,u1,u2⟩:=a.now;refine⟨l,Mn a.blk 0 I,_,Mn a.blk 1 I,Zj,u1,_,u2.dx 0 _ I,λhc w5 e=>(DX (a.only e)).mono ?_,λhc w8 v=>?_⟩
  .have hc:=R0
   rintro _ w ⟨rfl,d,h⟩;have F:=e.size;refine⟨I,sm J d,λl b=>⟨B ((o.cn e).trans d λx hx=>.inl hx) b,?_⟩⟩;rw[Ik,K s,W hc];exact⟨gv,⟨_,_,[],_,_,_,I⟩,i+2,h.own b C⟩
  have hc:=R0
  have z8:=v.size;have h8:=a.only v;obtain⟨am,v1,v2⟩:=h8.now;refine⟨l,Mn h8.blk 0 I,_,Mn h8.blk 1 I,am,v1,_,v2.dx 1 _ I,λw9 fm=>?_⟩;have z9:=fm.size;have h9:=h8.own fm C;have Xr:az [b] w w9:=(o.cn v).new fm J;have aC:=h.en.next a.lt (by show(tk ts _).k≠5;rw[hc];decide);refine⟨_,Mn h9.blk 1 I,b,1,_,_,I,h9.blk,R,J,J,λdk dS nS=>?_⟩;rw[eS J J]at nS;have mV:Rr F ts dk b l _ 0 0 d:=h9.gN dS nS aC;have EW:=dS.size;refine(Cv mV [41]).mono ?_;rintro _ dz ⟨rfl,dl,Yh⟩;refine⟨I,sm J dl,λeF dV=>⟨B ((Xr.trans dS λx hx=>.inl hx).trans dl λx hx=>.inl hx) dV,?_⟩⟩;rw[show((0:Int)==0)=aF from rfl,cr,K I,K I]at Yh;rw[Ik,K s,K hc];by_cases NI:sg ts (i+3) [41]=aF
  .rw[K NI];rw[K (NI)]at Yh;exact⟨_,I,.leaf ..,Yh.own dV C⟩
  rw[W NI];rw[W (show ¬sg ts _ [41]=aF from NI)]at Yh;exact⟨gv,⟨_,_,_,_,_,_,I⟩,i+1+1+1,Yh.own dV C⟩
 rw[W s]at a;refine⟨_,Mn a.blk 3 I,λhc w d=>⟨B o d,?_⟩,λhc=>absurd R0 (gv (ts:=ts) (i:=i+1))⟩;rw[Ik,W s];exact⟨gv,⟨_,_,[],_,_,_,I⟩,i+1,a.own d C⟩
def agm{f d:Nat}(hd:d<=20)(h:Rr F ts w b l i 0 0 (d:Int))
  (hE:d≠20->∀w i,Rr F ts w b l i 0 0 ((d+1:Nat):Int)->aA ar 305 #[ah (Hg ⟨b,0,ZQ⟩),O U 0] w λe w'=>∃v,e=ao v/\uD F ts w w' b l (d+1) (dy ts f 0 (d+1) i) v)
  (N:d≠20->∀w i,Rr F ts w b l i 0 0 ((d+1:Nat):Int)->aA ar 336 #[ah (Hg ⟨b,0,ZQ⟩)] w λe w'=>∃v,e=ao v/\uD F ts w w' b l (d+1) (dy ts f 6 (d+1) i) v):
  aA ar 336 #[ah (Hg ⟨b,0,ZQ⟩)] w λe w'=>∃v,e=ao v/\uD F ts w w' b l d (dy ts (f+1) 6 d i) v:=by
 have eR:dy ts (f+1) 6 d i=rP ts (dy ts f 0 (d+1)) (dy ts f 6 (d+1)) d i:=by rw[dy,K I]
 rw[eR];generalize am:dy ts f 0 (d+1)=V at*
 generalize aC:dy ts f 6 (d+1)=o at*
 generalize g:rP ts V o d i=p;rw[rP]at g;refine asx (λv w'=>uD F ts w w' b l d p v) w ?_;intro m w0 fQ dL P;have hb:=h.lb;have Q0:=h.big;have E:=P.size;have y:=h.only P;obtain⟨ad,g1,g2⟩:=y.now;refine⟨λ_=>True,trivial,l,Mn y.blk 0 I,trivial,_,Mn y.blk 1 I,ad,g1,trivial,_,_,_,_,g2,λr Y ki ik Q=>?_⟩;have L:=Q.size;have z:=y.only Q;have sm:∀{u n:aw},Y.heap.size<=u.heap.size->az [b] u n->cF [m,r] u n:=λhu S=>S.same Px;have M:∀{u n:aw},Y.heap.size<=u.heap.size->az [] u n->cF [m,r] u n:=λhu S=>S.same (by intro x hx;simp only[aZ,bB,cE]at hx;exact⟨J,R⟩);refine(zM z [45]).mono ?_;rintro _ w2 ⟨rfl,s⟩;have z2:=s.size;have A:=z.only s;refine⟨_,I,M J s,(zM A [33]).mono ?_⟩;rintro _ w3 ⟨rfl,t⟩;have z3:=t.size;have X:=A.only t;refine⟨_,I,M J t,(zM X [40]).mono ?_⟩;rintro _ w4 ⟨rfl,D⟩;have z4:=D.size;have j:=X.only D;have rT:az [] w w4:=(((P.cn Q).cn s).cn t).cn D;have G:az [b] w w4:=rT.weaken λ_ h=>Rl
 have B:∀{u n:aw},az [b] w u->az [m] u n->az [b] w n:=λz A=>z.new A fQ;rw[show((0:Int)==0)=aF from rfl,cr,cr,cr];refine⟨_,I,M J D,0,Mn j.blk 3 I,λhc=>(by simp at hc),λ_=>⟨λhs=>?_,λhs=>⟨λhp=>?_,λhp=>⟨λhi=>?_,λhi=>⟨λhv=>?_,λhv=>?_⟩⟩⟩⟩⟩
 .rw[K hs]at g;have iw:(tk ts i).k≠5:=by
   rcases dq _ _▸hs with e | e<;>exact zd e
  have hn:=h.en.next h.lt iw;refine(P5 hd j hn).mono ?_;rintro _ w6 ⟨rfl,dN,f⟩;have z6:=dN.size;have Lv:=G.trans dN λx hx=>.inl hx;refine⟨_,I,sm J dN,λhc w7 ga=>⟨B Lv ga,?_⟩,λhc=>?_⟩
  .have hc:d=20:=R0
   rw[K hc]at f;rw[<-g,lc,K hc];exact⟨(by decide:(21:Int)≠0),FC,i,f.own ga C⟩
  have hc:d≠20:=R0
  rw[W hc]at f;rw[lc,W hc]at g;refine(N hc w6 (i+1) f).mono ?_;rintro _ w8 ⟨v,rfl,hD⟩;obtain⟨vk,vn,vs,vo,vl,va,rfl⟩:=hD.qN;have z8:=hD.1.size;refine⟨_,_,_,_,_,_,I,sm J hD.1,λk2 w9 mE nT fm=>?_⟩;have z9:=fm.size;have bv:=Lv.trans hD.1 λx hx=>.inl hx;have bV:∀{aS:Nat} {c a:Int},Rr F ts w8 b l aS c a ((d+1:Nat):Int)->∃i9:Int,aD w9 (Addr.add ⟨b,0,ZQ⟩ 2) [O U i9]/\∃k3 k4:Nat,∃E:aJ,∃k5:Nat,(Addr.add ⟨b,0,ZQ⟩ 2)=⟨k3,k4,ZQ⟩/\aG w9 k3 k5 E/\(k4+1)<=Z8 E/\m≠k3/\r≠k3/\k2≠k3/\
    ∀dk:aw,az [k3] w9 dk->aG dk k3 k5 (eY E k4 [O U (au U (i9-1))])->az [b] w8 dk/\Rr F ts dk b l aS c a (d:Int):=fun{aS c a} h8=>by
   have e:=h8.only fm;refine⟨((d+1:Nat):Int),Mn e.blk 2 I,b,2,_,_,I,e.blk,R,J,J,J,λdk dS i=>?_⟩;have k:((d+1:Nat):Int)-1=d:=J
   rw[k,eS J J]at i;exact⟨(fm.weaken (bs':=[b]) λ_ h=>Rl).trans dS λx hx=>.inl hx,e.gN dS i e.lt⟩
  have aT:∀{aS:Nat} {c a:Int} {dk:aw},az [b] w8 dk->Rr F ts dk b l aS c a (d:Int)->w9.heap.size<=dk.heap.size->(∀op sl eF,az [] dk eF->aG eF dk.heap.size 76 (nI vk vn vs vo vl va)->op=(if(tk ts i).t=[33]then(15:Int)else 14)->sl=(⟨Hg ⟨dk.heap.size,0,ZQ⟩,1,1⟩:Sl)->∀eM,az [m] eF eM->uD F ts w eM b l d p (ai #[O U 4,O U 0,ae (aq #[]),O U op,sl.v,O U (tk ts i).a]))->
    ∃q:Int->aw->Prop,(∀k:Int,∀h:aw,q k h->∃v:Sl,∃eF:aw,((av 74 1 #[.mk 0 (ai #[O U vk,O U vn,ae (T vs),O U vo,vl.v,O U va])]).run ar h)=(.ok v.v eF)/\
     cF [m,r,k2] h eF/\∀eM:aw,az [m] eF eM->uD F ts w eM b l d p (ai #[O U 4,O U 0,ae (aq #[]),O U k,v.v,O U (tk ts i).a]))/\
    (sg ts i [33]=aF->q 15 dk)/\(sg ts i [33]=aM->q 14 dk):=fun{aS c a dk} dS mV EW Yi=>by
   refine⟨λop h=>op=(if(tk ts i).t=[33]then(15:Int)else 14)/\h=dk,?_,λe=>⟨?_,I⟩,λe=>⟨?_,I⟩⟩
   .rintro op h ⟨c,rfl⟩;obtain⟨eF,b,a,d⟩:=G3 h [nI vk vn vs vo vl va] R R R (parts:=#[(0,ai (nI vk vn vs vo vl va).toArray)]) I;rw[fk,Bb,bD]at a;exact⟨_,eF,b,d.same C,λeM F=>Yi op _ eF d a c I eM F⟩
   .have:(tk ts i).t=[33]:=by
     simp only[sg,H,bU]at e;exact e.2
    rw[K this]
   have:(tk ts i).t≠[33]:=λa=>by
    rcases dq _ _▸hs with b | b
    .simp only[sg,H,bU]at b;rw[b.2]at a;exact absurd a Z
    rw[e]at b;cases b
   rw[W this]
  cases hN:o (i+1)with
  | error e=>
   rw[hN]at hD g;obtain⟨ft,h,a2,aS,i⟩:=hD;obtain⟨i9,q,k3,k4,zz,k5,l,v,w,F,T,q7,q8⟩:=bV i;refine⟨i9,q,k3,k4,zz,k5,l,v,w,F,T,q7,λdk dS k=>?_⟩;obtain⟨b,c⟩:=q8 dk dS k;refine aT b c dS.size λop sl eF a vm rh zY eM d=>⟨B ((bv.trans b λx hx=>.inl hx).cn a) d,?_⟩
   rw[<-g];exact⟨h,⟨_,_,[],_,_,_,I⟩,aS,(c.only a).own d C⟩
  | ok q=>
   obtain⟨x,aS⟩:=q;rw[hN]at hD g;obtain⟨ft,c,i,l,v⟩:=hD;have F:(nI vk vn vs vo vl va)=c:=bK Array.toList (Value.agg.inj i);obtain⟨i9,q1,k3,k4,zz,k5,q2,q3,q4,q5,q6,q7,q8⟩:=bV v;refine⟨i9,q1,k3,k4,zz,k5,q2,q3,q4,q5,q6,q7,λdk dS T=>?_⟩;obtain⟨b,e⟩:=q8 dk dS T;have EW:=dS.size;refine aT b e EW λop sl eF a vm rh zY eM d=>⟨B ((bv.trans b λx hx=>.inl hx).cn a) d,?_⟩
   have bY:=a.size;have Tu:=d.size;rw[<-g,rh,zY];refine⟨_,I,?_,(e.only a).own d C⟩;have h:RX eM w6.heap.size w8.heap.size x c:=((l.only b λk hk=>.inl Mo).only a R).only d λk hk=>.inl Mo;have vj:aG eM dk.heap.size 76 c:=by
    rw[<-F];exact d.blk vm λhm=>RW
   exact .one w.heap.size w8.heap.size dk.heap.size _ _ _ _ _ _ x c (h.wide J (aX _)) J J WR id vj
 .rw[W VW,K hp]at g;have hn:=h.en.next h.lt (zd hp);refine(P5 hd j hn).mono ?_;rintro _ fR ⟨rfl,eH,f⟩;have ce:=eH.size;have cc:=G.trans eH λx hx=>.inl hx;refine⟨_,I,sm J eH,λhc gV jt=>⟨B cc jt,?_⟩,λhc=>?_⟩
  .have hc:d=20:=R0
   rw[K hc]at f;rw[<-g,lc,K hc];exact⟨(by decide:(21:Int)≠0),FC,i,f.own jt C⟩
  have hc:d≠20:=R0
  rw[W hc]at f;rw[lc,W hc]at g;refine(hE hc fR (i+1) f).mono ?_;rintro _ iO ⟨v,rfl,hD⟩;obtain⟨vk,vn,vs,vo,vl,va,rfl⟩:=hD.qN;have dO:=hD.1.size;have cC:=cc.trans hD.1 λx hx=>.inl hx;refine⟨_,_,_,_,_,_,I,sm J hD.1,λk6 iz Zd Yc iK=>?_⟩;have el:=iK.size;have after:∀{co:Nat} {c a:Int} {iU:aw},az [b] iz iU->Rr F ts iU b l co c a ((d+1:Nat):Int)->(∀h,az [b,m] iU h->az [b] w h->Rr F ts h b l co c a (d:Int)->uD F ts w h b l d p (ai (nI vk vn vs vo vl va).toArray))->
    ∃i:Int,aD iU (Addr.add ⟨b,0,ZQ⟩ 2) [O U i]/\∃k q:Nat,∃L:aJ,∃k9:Nat,(Addr.add ⟨b,0,ZQ⟩ 2)=⟨k,q,ZQ⟩/\aG iU k k9 L/\(q+1)<=Z8 L/\m≠k/\r≠k/\k6≠k/\
    ∀e:aw,az [k] iU e->aG e k k9 (eY L q [O U (au U (i-1))])->∀h:aw,az [m] e h->uD F ts w h b l d p (ai #[O U vk,O U vn,ae (T vs),O U vo,vl.v,O U va]):=fun{co c a iU} iP h18 Yi=>by
   refine⟨((d+1:Nat):Int),Mn h18.blk 2 I,b,2,_,_,I,h18.blk,R,J,J,J,λe v SL h mT=>?_⟩;have ed:((d+1:Nat):Int)-1=d:=J
   rw[ed,eS J J]at SL;have X1:Rr F ts e b l co c a (d:Int):=h18.gN v SL h18.lt;exact Yi h ((v.weaken (bs':=[b,m]) λx hx=>.inl Ua).trans mT λx hx=>.inl Ua) (B (((cC.cn iK).trans iP λx hx=>.inl hx).trans v λx hx=>.inl hx) mT) (X1.own mT C)
  obtain⟨ic,hD⟩:=hD;cases hN:V (i+1)with
  | error e=>
   rw[hN]at hD g;obtain⟨a,i,co,c⟩:=hD;refine(Cv (c.only iK) [41]).mono ?_;rintro _ iU ⟨rfl,iP,b⟩;rw[W (by simp[a]),W a,W a]at b;refine⟨I,iP.same C,after iP b λh T w d=>⟨w,?_⟩⟩;rw[<-g];exact⟨a,⟨_,_,_,_,_,_,I⟩,co,d⟩
  | ok q=>
   obtain⟨x,co⟩:=q;rw[hN]at hD g;obtain⟨e,b,c,d⟩:=hD;refine(Cv (d.only iK) [41]).mono ?_;rintro _ iU ⟨rfl,iP,w⟩;rw[show((0:Int)==0)=aF from rfl,cr,K I,K I]at w;refine⟨I,iP.same C,?_⟩;have i:=iP.size;by_cases a:sg ts co [41]=aF
   .rw[K a]at w;refine after iP w λh T l q=>⟨l,?_⟩
    rw[<-g];simp only[ze,a,yC];have v:=T.size;exact⟨e,b,(((c.only iK R).only iP λk hk=>.inl Mo).only T λk hk=>.inl (by simp only[aZ,bB,cE]at hk;omega)).wide J J,q⟩
   rw[W a]at w;refine after iP w λh T k l=>⟨k,?_⟩
   rw[<-g];simp only[ze,a,kP];exact⟨gv,⟨_,_,_,_,_,_,I⟩,co,l⟩
 .have hi:(tk ts i).k=3:=UB
  rw[W VW,W WS,K hi]at g;have k:=h.en.next h.lt (by rw[hi];decide);refine⟨(i:Int),Mn j.blk 1 I,b,1,_,_,I,j.blk,R,J,J,λq c a v e=>⟨B (G.trans c λx hx=>.inl hx) e,?_⟩⟩;rw[eS J J]at a;have f:Rr F ts q b l (i+1) 0 0 (d:Int):=j.gN c a k;rw[<-g];exact⟨_,I,.leaf ..,f.own e C⟩
 .have hi:¬(tk ts i).k=3:=UB
  have hv:(tk ts i).k=1:=Gm
  rw[W VW,W WS,W hi,K hv]at g;have k:=h.en.next h.lt (by rw[hv];decide);refine⟨(i:Int),Mn j.blk 1 I,b,1,_,_,I,j.blk,R,J,J,λq c a v e=>⟨B (G.trans c λx hx=>.inl hx) e,?_⟩⟩;rw[eS J J]at a;have f:Rr F ts q b l (i+1) 0 0 (d:Int):=j.gN c a k;rw[<-g];exact⟨_,I,.leaf ..,f.own e C⟩
 have hi:¬(tk ts i).k=3:=UB
 have hv:¬(tk ts i).k=1:=Gm
 rw[show(aq #[105,110])=T [105,110]from rfl,iC];rw[W VW,W WS,W hi,W hv]at g;refine⟨λhw=>?_,λhw=>(DX j).mono ?_⟩
 .have hw:(tk ts i).k=2/\(tk ts i).t=[105,110]:=Mg
  rw[K hw]at g;have b:=h.en.next h.lt (by rw[hw.1];decide);refine(amW j b).mono ?_;rintro _ d ⟨v,rfl,a⟩;obtain⟨k,f,x,w,l,e,rfl⟩:=a.qN;refine⟨_,_,_,_,_,_,I,sm J a.1,λq c=>?_⟩;rw[<-g];exact a.Eg G c C
 rw[W (λh=>by rw[h.1,h.2]at hw;simp at hw)]at g;rintro _ c ⟨rfl,F,a⟩;rw[K I,K I]at a;refine⟨I,sm J F,λd b=>⟨B (G.trans F λx hx=>.inl hx) b,?_⟩⟩;rw[<-g];exact⟨gv,FC,i,a.own b C⟩
def Qy(F:aK)(t:X Tk)(e:aw)(b:Nat)(l:Sl)(d:Nat)(N:aK)(E:Nat->Pr)(k:Int)(R:Pr)(n:Nat)(op:Int)(s:aJ)(w:aw):Prop:=az [b] e w/\
 ((∃(c a:Int) (j:Nat),op=0/\c≠0/\R=.error (c,a)/\Rr F t w b l j c a d)∨
  (∃(x:Ex) (j:Nat),op=lf t k j/\RXN w N e.heap.size w.heap.size x s/\Rr F t w b l j 0 0 d/\R=iR t E k n x j/\(Z8 t)-j<=n))
def aev{f k d:Nat}(Z:k<6)(h:Rr F ts w b l i 0 0 (d:Int))
  (Y:∀w i,Rr F ts w b l i 0 0 (d:Int)->aA ar 305 #[ah (Hg ⟨b,0,ZQ⟩),O U ((k+1:Nat))] w λe w'=>∃v,e=ao v/\uD F ts w w' b l d (dy ts f (k+1) d i) v):
  aA ar 305 #[ah (Hg ⟨b,0,ZQ⟩),O U (k:Int)] w λe w'=>∃v,e=ao v/\uD F ts w w' b l d (dy ts (f+1) k d i) v:=by
 have eR:dy ts (f+1) k d i=EM (dy ts f (k+1) d i) λx j=>iR ts (dy ts f (k+1) d) k ((Z8 ts)-j) x j:=by rw[dy,W J]
 rw[eR];have Xv:∀i x j,dy ts f (k+1) d i=.ok (x,j)->i<j:=λi x j h=>lp f _ _ i h;generalize am:dy ts f _ d=E at*
 generalize A:(EM _ λx j=>iR ts E k _ x j)=B;refine alX w ?_;have ek:au U (k+1)=((k+1:Nat)):=TE
 refine⟨λhc=>absurd R0 (by omega:¬(k:Int)=6),λ_ z w3 ki ik G=>?_⟩;have hb:=h.lb;rw[ek];refine(Y w3 i (h.only G)).mono ?_;rintro _ w4 ⟨v,rfl,D⟩;obtain⟨vk,vn,vs,vo,vl,va,rfl⟩:=D.qN;have z4:=D.1.size;refine⟨_,_,_,_,_,_,I,D.1.same C,λr w5 mE nT T=>?_⟩;have sm:∀{S u':aw},w5.heap.size<=S.heap.size->az [b] S u'->cF [z,r] S u':=λhu hO=>hO.same (by intro x hx;simp at hx⊢;omega);have Q0:=h.big;have P:∃(j:Nat) (c a:Int),Rr F ts w4 b l j c a (d:Int)/\∀u,az [] w4 u->∃p,Qy F ts w b l d (λq=>q=z∨q=r) E (k:Int) B p (if c=0 then lf ts (k:Int) j else 0) (nI vk vn vs vo vl va) u:=by
  obtain⟨k,d⟩:=D;have f:=(G.weaken (bs':=[b]) λ_ h=>Rl).trans k λx hx=>.inl hx;cases F:E i with
  | error e=>
   rw[F]at d A;obtain⟨c,a⟩:=e;obtain⟨b,i,j,h⟩:=d;exact⟨j,c,a,h,λu N=>⟨0,f.cn N,.inl ⟨c,a,j,W b,b,A.symm,h.only N⟩⟩⟩
  | ok q=>
   obtain⟨x,j⟩:=q;rw[F]at d A;obtain⟨e,b,c,a⟩:=d;have h:(nI vk vn vs vo vl va)=e:=bK Array.toList (Value.agg.inj b);rw[h];exact⟨j,0,0,a,λu N=>⟨(Z8 ts)-j,f.cn N,.inr ⟨x,j,K I,((c.only N R).FZ λq i l _=>J).wide G.size N.size,a.only N,A.symm,aX _⟩⟩⟩
 obtain⟨j0,c0,a0,M,P⟩:=P;refine(age (M.only T) Z).mono ?_;rintro _ u ⟨rfl,N⟩;obtain⟨Q,L⟩:=P u (T.cn N);refine⟨_,I,N.same C,λp op m n t o s g w'=>w5.heap.size<=w'.heap.size/\Qy F ts w b l d _ E (k:Int) B p op [O U m,O U n,ae t,O U o,s.v,O U g] w',Q,⟨N.size,L⟩,?_⟩;rintro p op m n t o s g w7 ⟨z7,V,X⟩;refine⟨λrh=>?_,λrh fR H=>?_⟩
 .have rh:=FK
  rcases X with⟨_,_,_,e,_⟩ | ⟨x,j,rfl,hX,f,i,aC⟩
  .exact absurd e rh
  have hn:=f.en.next f.lt (qn _ _ rh);obtain⟨aS,rfl⟩:∃aS,p=aS+1:=⟨p-1,J⟩
  rw[iR,W rh]at i;refine⟨j,Mn f.blk 1 I,b,1,_,_,I,f.blk,R,J,J,λw8 ft re=>?_⟩;rw[eS J J]at re;have z8:=ft.size;refine(Y w8 _ (f.gN ft re hn)).mono ?_;rintro _ w9 ⟨v,rfl,Xw⟩;obtain⟨yk,yn,ys,yo,yl,ya,rfl⟩:=Xw.qN;have z9:=Xw.1.size;refine⟨_,_,_,_,_,_,I,sm J Xw.1,λk8 dk ce cc dS=>?_⟩;obtain⟨dz,pM,qS,dl⟩:=G3 dk [[O U m,O U n,ae t,O U o,s.v,O U g],nI yk yn ys yo yl ya] R R R (parts:=#[_,_]) I;have CA:=dl.size;refine⟨_,dz,pM,dl.same C,λeF dV=>?_⟩;have co:=dV.size;have Lh:=((((V.trans ft λx hx=>.inl hx).trans Xw.1 λx hx=>.inl hx).cn dS).cn dl).new dV J;have wy:az [r] w9 eF:=((dS.cn dl).weaken (bs':=[r]) λ_ h=>Rl).trans dV λx hx=>.inl hx;have NM:∃(j':Nat) (c a:Int),Rr F ts w9 b l j' c a d/\∀eM,az [] eF eM->∃p,p<aS+1/\Qy F ts w b l d (λq=>q=z∨q=r) E k B p (if c=0 then lf ts k j' else 0) (nI 5 0 [] (lf ts k j) ⟨Hg ⟨dk.heap.size,0,ZQ⟩,2,2⟩ g) eM:=by
   obtain⟨h,d⟩:=Xw;cases F:E _ with
   | error e=>
    rw[F]at d i;obtain⟨c,a⟩:=e;obtain⟨b,l,j',k⟩:=d;exact⟨j',c,a,k,λeM dF=>⟨0,J,Lh.cn dF,.inl ⟨c,a,j',W b,b,i,(k.own wy C).only dF⟩⟩⟩
   | ok q=>
    obtain⟨y,j'⟩:=q;rw[F]at d i;obtain⟨c,l,v,k⟩:=d;have gZ:_=c:=bK Array.toList (Value.agg.inj l);have cC:=Xv _ _ _ F;obtain⟨xl,e,_⟩:=hX.cells;have a:=by
     simp only[nI,Yu,Value.int.injEq]at e;exact e.2.2.2.2.2.1.2
    refine⟨j',0,0,k,λeM dF=>⟨aS,J,Lh.cn dF,.inr ⟨.mk 5 0 [] _ [x,y] x.a,j',K I,?_,(k.own wy C).only dF,i,?_⟩⟩⟩
    .have Xy:=wy.cn dF;have vj:aG eM dk.heap.size 76 ([O U m,O U n,ae t,O U o,s.v,O U g]++c):=by
      have:=dF.blk (dV.blk qS C) R;rw[<-gZ];simpa using this
     have XA:RXN eM (λq=>q=z∨q=r) w.heap.size w7.heap.size x [O U m,O U n,ae t,O U o,s.v,O U g]:=by
      exact hX.only ((((((ft.weaken (bs':=[b,r]) λx hx=>.inl Vx).trans h λx hx=>.inl Vx).trans wy λx hx=>.inl Vx).cn dF))) λq hq=>by
       simp at hq;rcases hq with rfl | rfl
       .exact .inl hb
       exact .inr (.inr (.inr I))
     have dO:RXN eM (λq=>q=z∨q=r) w8.heap.size w9.heap.size y c:=(v.only Xy λq hq=>.inl TF).FZ λq h1 h2 _=>J
     rw[a];exact .two w.heap.size w7.heap.size w8.heap.size w9.heap.size dk.heap.size _ _ _ _ _ _ x y _ c XA z8 dO J J J J WR J vj
    omega
  obtain⟨j',c',a',bV,NM⟩:=NM;refine(age (bV.own wy C) Z).mono ?_;rintro _ eM ⟨rfl,dF⟩;obtain⟨bY,aT,bv⟩:=NM eM dF;exact⟨_,I,dF.same C,bY,aT,by have:=dF.size;omega,bv⟩
 have rh:op=0:=FK
 refine⟨V.new H J,?_⟩;rcases X with⟨c,a,j,_,hc,i,b⟩ | ⟨x,j,d,e,b,i,v⟩
 .rw[i];exact⟨hc,⟨m,n,t.data.toList,o,s,g,I⟩,j,b.own H C⟩
 rw[i,Fj (by rw[<-d,rh])];exact⟨_,I,((e.only H λq hq=>.inr (.inr (.inl Qn))).FZ λ_ _ _ _ h=>h).wide (aX _) H.size,b.own H C⟩
def FI:∀f,(∀k d i w,k<=6->d<=20->gM k d<=f->Rr F ts w b l i 0 0 d->aA ar 305 #[ah (Hg ⟨b,0,ZQ⟩),O U k] w λe w'=>∃v,e=ao v/\uD F ts w w' b l d (dy ts f k d i) v)/\
  (∀d i w,d<=20->gM 6 d<=f->Rr F ts w b l i 0 0 d->
   aA ar 336 #[ah (Hg ⟨b,0,ZQ⟩)] w λe w'=>∃v,e=ao v/\uD F ts w w' b l d (dy ts f 6 d i) v)
 | 0=>⟨λk d i w h hd hn=>UJ,λd i w hd hn=>UJ⟩
 | f+1=>by
  obtain⟨E,u⟩:=FI f;have one:∀d i w,d<=20->gM 6 d<=f+1->Rr F ts w b l i 0 0 d->
   aA ar 336 #[ah _] w λe w'=>∃v,e=ao v/\uD F ts w w' b l d _ v:=λd i w hd hn h=>by
   unfold gM at hn;exact agm hd h (λz w i h=>E 0 _ i w J J UC h) (λz w i h=>u _ i w J UC h)
  refine⟨λk d i w c hd hn h=>?_,one⟩;by_cases a:k=6
  .subst a;refine alX w ?_;refine⟨λ_ k g Q L b=>?_,λf=>absurd f Z⟩;refine(one d i g hd hn (h.only b)).mono ?_;rintro _ q ⟨v,rfl,D⟩;obtain⟨m,o,s,p,n,l,rfl⟩:=D.qN;have j:=h.lb;exact⟨_,_,_,_,_,_,I,D.1.same C,λr e=>D.Eg (b.weaken λ_ h=>Rl) e C⟩
  unfold gM at hn;exact aev J h λw i h=>E _ d i w J hd UC h
end
def afb{w}{F}{l}{ts}(h:aB MN 4 w F l ts) a (r:rX a):aA ar 258 #[l.v,O U a] w λe b=>
  ∃c,e=ao (aj #[ai c.toArray,O U (cq ts a).2.1,ai #[O U (cq ts a).2.2.1,O U (cq ts a).2.2.2]])/\RX b w.heap.size b.heap.size (cq ts a).1 c/\((cq ts a).2.2.1=0->0<=(cq ts a).2.1/\(cq ts a).2.1<Z8 ts)/\az [] w b:=by
 refine(asm l a (λv b=>∃c,v=(aj #[ai c.toArray,O U (cq ts a).2.1,ai #[O U (cq ts a).2.2.1,O U (cq ts a).2.2.2]])/\RX b w.heap.size b.heap.size (cq ts a).1 c/\_/\az [] w b) w ?_).mono (by
  rintro e b ⟨v,rfl,c,rfl,h⟩;exact⟨c,I,h⟩)
 have S:=h.len;have u:=h.cap;have y:=h.big;have bad:¬_->∀f,az [] w f->∃c,(Value.tuple #[ai #[O U 0,O U 0,ae (aq #[]),O U 0,Sl.nil.v,O U 0],O U 0,ai #[O U 1,O U _]])=(aj #[ai c.toArray,O U (cq ts a).2.1,ai #[O U (cq ts a).2.2.1,O U (cq ts a).2.2.2]])/\RX f w.heap.size f.heap.size (cq ts a).1 c/\((cq ts a).2.2.1=0->0<=(cq ts a).2.1/\(cq ts a).2.1<Z8 ts)/\az [] w f:=λd f j=>by
  rw[cq,W d];exact⟨_,I,Z9 _ _ _,λh=>Rl,j⟩
 refine⟨λd s t f _ _ _ _ i=>bad (λg=>?_) f i,λd m k3 o E T z D p=>?_⟩
 .simp at d;omega
 have d:0<=a/\a<Z8 ts:=by
  simp at d;omega
 have own:∀{Q V:aw},az [] w Q->az [k3,m] Q V->az [] w V:=λh1 h2=>h1.trans h2 λx hx=>.inr Vv;refine⟨λN B _ _ _ _ _ _ _ _ b=>∃n,n<=Z8 ts/\B=n/\N=(Z8 ts)-n/\(∀A,A<n->((tk ts A).k=5↔A+1=Z8 ts))/\az [] w b/\o.heap.size<=b.heap.size,Z8 ts,⟨0,J,I,I,λA M=>absurd M (CJ A),p,J⟩,?_⟩;rintro N _ _ _ _ _ _ _ _ _ w2 ⟨n,hn,rfl,rfl,L,F,z2⟩;refine⟨λG=>?_,λP H X am Y dD pz=>?_⟩
 .have G:=aO G;have⟨ad,x,c,v,a,g3,g4,w,g6⟩:=(Aw gz Z h F R).get (bc n) G;rw[aW,za J]at a;cases a;subst g6;have e:((tk ts n).k==5)=VM ((tk ts n).k=5):=I;have q:(n==au U (l.n-1))=VM (n+1=Z8 ts):=by
   rw[eS J J,bL];simp;omega
  refine⟨ad,v,_,w.dx 0 _ I,?_⟩;dsimp only;rw[e,q];refine⟨λhm w3 k=>bad (λg=>?_) w3 (own F k),λhm=>⟨(Z8 ts)-_,J,n+1,J,TE,I,λA M=>?_,F,z2⟩⟩
  .have:=Ju g.2.2 n J;rw[tK.2 this,beq_self_eq_true]at hm;cases hm
  rcases oT A n with h | h
  .exact L A h
  have:A=n:=J
  subst this;have hm:VM ((tk ts A).k=5)=VM (A+1=Z8 ts):=RD
  exact tK.1 hm
 have P:=aR P;have:n=Z8 ts:=J
 subst this;have NU:=L;have aS:0<=a/\a<Z8 ts/\nX ts+1=Z8 ts:=⟨d.1,d.2,ah4 NU J⟩
 rw[cq,K aS];obtain⟨B,rfl⟩:∃B:Nat,a=B:=⟨a.toNat,J⟩
 have rT:=F.cn dD;have hR:Rr _ ts X H l B 0 0 0:=⟨pz,Aw gz Z (h.inHeap gz Z) rT R,λk hk=>by have:=hk.2;have:=F.size;omega,NU,J⟩
 refine((FI _).1 0 0 B X Z Z (aX _) hR).mono ?_;rintro _ w5 ⟨v,rfl,w⟩;obtain⟨vk,vn,vs,vo,vl,va,rfl⟩:=w.qN;have⟨dP,w⟩:=w;rw[aW];have aT:oB ts B=dy ts _ 0 0 B:=I;rw[aT];have E1:=rT.trans dP λx hx=>.inr Vv;refine⟨_,_,_,_,_,_,I,dP.same C,?_⟩;cases aC:dy ts _ 0 0 B with
 | error e=>
  rw[aC]at w;have⟨l,a2,A,n⟩:=w;refine⟨_,_,_,_,_,n.blk,λ_ k8 w6 _ _ q XC n1 x n3 n4 n5 n6=>⟨λk=>k=H,I,λe=>x e,λe=>n4 e,λw7 v _=>⟨_,I,Z9 _ _ _,λh=>absurd h l,own (E1.cn q) v⟩⟩,λa=>absurd (by simpa using a) l⟩
 | ok q=>
  rw[aC]at w;have⟨x,A⟩:=q;have⟨c,v,a2,l⟩:=w;have gZ:(nI vk vn vs vo vl va)=c:=bK Array.toList (Value.agg.inj v);refine⟨_,_,_,_,_,l.blk,λh=>(by simp at h),λ_ k9 w8 bV bv n re n1 n2 n3 n4 n5 n6=>⟨λk=>k=H,I,λe=>n2 e,λe=>n4 e,λw9 a _=>?_⟩⟩;have z9:=a.size;refine⟨nI vk vn vs vo vl va,I,?_,λ_=>⟨bc A,by have:=l.lt;dsimp only;omega⟩,own (E1.cn n) a⟩;rw[gZ];exact((a2.only n R).only a λq hq=>.inl TF).wide J J
def AR w c:aA ar 197 #[.int .u8 c.toNat] w λe a=>e=ao (ak (fT c))/\az [] w a:=by
 refine ret (arW ?_);refine⟨?_,EC _ _⟩;congr 1;rw[bL];simp[fT,H,dq,bU,eX];omega
def Kw w c:aA ar 198 #[.int .u8 c.toNat] w λe a=>e=ao (ak (dA c))/\az [] w a:=by
 refine ret (ar0 ?_);refine⟨?_,EC _ _⟩;congr 1;rw[bL];simp[dA,H,bU];omega
def abW w:aA ar 257 #[] w λe a=>∃s,e=ao s.v/\Own ju 1 9 w.heap.size a (λ_=>True) s kI/\az [] w a:=by
 refine iE (arZ ?_);have⟨s,a,h,b,c⟩:=jb w kI (n:=16) I I Z Z;exact⟨s,a,h,s,I,b,c⟩
def P6 w m:aA ar 200 #[ae (T m)] w λe a=>e=ao (ak (kI.contains m))/\az [] w a:=by
 refine ret (arX ?_);refine(abW w).mono ?_;rintro _ f ⟨s,rfl,d,b⟩;have h:=pT d;generalize kI=l at*
 have S:=h.len;have t:=h.big;have r:=h.cap;refine⟨s,I,λv i a=>∃n,n<=Z8 l/\i=n/\v=(Z8 l)-n/\(∀x,x∈l.take n->x≠m)/\a=f,Z8 l,⟨0,J,I,I,R,I⟩,?_⟩;rintro v _ _ ⟨n,g,rfl,rfl,p,rfl⟩;refine⟨λc=>?_,λc=>?_⟩
 .have T:=aO c;have⟨ad,x,s,k,j,q,u,m,o⟩:=h.get J T;rw[aW]at j;subst o;refine⟨ad,k,_,m,?_⟩;dsimp only;rw[iC];refine⟨λe=>⟨?_,b⟩,λe=>⟨(Z8 l)-_,J,n+1,J,TE,I,?_,I⟩⟩
  .have e:=aO e;congr 1;symm;rw[fu,<-e];exact bA j
  intro y n;rw[bq,j]at n;simp at n;rcases n with n | rfl
  .exact p y n
  exact aR e
 have j:=aR c;rw[br J]at p;refine⟨?_,b⟩;congr 1;symm;rw[io];intro e;exact p m (fu.1 e) I
def Nh w (l:S) i (d:i<=Z8 l) (g:Z8 l<4611686018427387903):
  aA ar 199 #[ae (T l),O U i] w λe a=>e=ao (O U (Z8 ((l.drop i).takeWhile fF)))/\az [] w a:=by
 refine ret (arY ?_);rw[alG];rw[cH];have B:Z8 (l.drop i)=(Z8 l)-i:=bZ;refine⟨λk a=>k=_/\az [] w a,λk a b=>⟨by rw[b.1],b.2⟩,λv k a=>∃n,i+n<=Z8 l/\k=n/\v=(Z8 l)-(i+n)/\(∀x,x∈(l.drop i).take n->fF x=aF)/\az [] w a,(Z8 l)-i,⟨0,d,I,I,R,EC _ _⟩,?_⟩;rintro v _ f ⟨n,j,rfl,rfl,h,c⟩;rw[eS (x:=i+n) J J];refine⟨λhc=>?_,λhc=>⟨?_,c⟩⟩
 .have p:i+n<Z8 l:=Ro
  have hx:=bH p;generalize l[i+n]=x at hx;have o:(l.drop i)[n]? =Hg x:=by rw[gq,hx]
  have m:(T l)[Int.toNat ((i+n:Nat))]? =Hg x:=KS
  refine⟨x,⟨bc _,m⟩,(AR f x).mono ?_⟩;rintro _ s ⟨rfl,q⟩;refine⟨_,I,x,⟨bc _,m⟩,(Kw s x).mono ?_⟩;rintro _ t ⟨rfl,r⟩;have O:=c.cn (q.cn r);have e:((!fT x)&&(!dA x))=!fF x:=by unfold fF;rw[Bool.not_or]
  refine⟨_,I,?_⟩;dsimp only;rw[e];refine⟨λw=>⟨?_,O⟩,λw=>⟨(Z8 l)-_,J,n+1,J,TE,I,λy k=>?_,O⟩⟩
  .rw[mL J h λy k=>by
    rw[o]at k;cases k;simpa using w]
   rw[cf];omega
  rw[bq,o]at k;simp at k;rcases k with k | rfl
  .exact h y k
  simpa using w
 have p:=M1
 rw[mL J h λy e=>by
  have:=(bd.1 e).1;omega]
 rw[cf];omega
def aea c:(((((c.toNat:Int)==9)||((c.toNat:Int)==10))||((c.toNat:Int)==13))||((c.toNat:Int)==32))=pE c:=by
 have a:((c.toNat:Int)==9)=_:=OH (d:=9);have m:((c.toNat:Int)==10)=_:=OH (d:=10);have t:((c.toNat:Int)==13)=_:=OH (d:=13);have h:((c.toNat:Int)==32)=_:=OH (d:=32);rw[a,m,t,h,bL];simp[pE,or_assoc]
def FJ w l (i:Nat) (f:i<=Z8 l) (o:Z8 l<4611686018427387903):
  aA ar 146 #[ae (T l),O U i] w λe c=>e=ao (O U ((i+ld aM (l.drop i):Nat)))/\az [] w c:=by
 refine ret (ass ?_);rw[alW];rw[cH];refine⟨λk c=>k=((i+ld aM _:Nat))/\c=w,λk c h=>⟨by rw[h.1],by rw[h.2];exact EC _ _⟩,λv k c=>∃j,j<=Z8 l/\k=j/\v=(Z8 l)-j/\i+ld aM _=j+ld aM (l.drop j)/\c=w,(Z8 l)-i,⟨i,f,I,I,I,I⟩,?_⟩;rintro v _ m ⟨j,g,rfl,rfl,s,u⟩;subst u;refine⟨λhc=>?_,λhc=>⟨?_,I⟩⟩
 .have T:j<Z8 l:=Ro
  have hx:=bH T;generalize l[j]=x at hx;have hd:=oz hx;have e:((x.toNat:Int)==47)=_:=OH (d:=47);rw[eS (x:=j+1) J J];obtain⟨y,p⟩:∃y,j+1<(Z8 l)->l[j+1]? =Hg y:=by
   by_cases h:j+1<Z8 l
   .exact⟨l[j+1],λ_=>bH h⟩
   .exact⟨0,λa=>absurd a h⟩
  have r:((y.toNat:Int)==47)=_:=OH (d:=47);refine⟨x,⟨J,KS⟩,y,λh=>⟨J,?_⟩,?_⟩
  .rw[H]at h;have:=aO h.2;rw[show j+1=((j+1:Nat):Int) by omega,pR,aW];exact p J
  rw[e,r,aea];refine⟨λt=>?_,λt=>⟨λhb=>⟨(Z8 l)-_,J,j+1,J,I,I,?_,I⟩,λhb=>⟨?_,I⟩⟩⟩
  .simp at t;obtain⟨⟨rfl,a⟩,rfl⟩:=t;have a:j+1<Z8 l:=J
   have C:(l.drop j).take 2=[47,47]:=by rw[hd,oz (p a)];rfl
   have y:=af4 C;have D:Z8 (l.drop j)=(Z8 l)-j:=bZ;refine⟨λv k c=>∃n,j+n<=Z8 l/\k=((j+n:Nat))/\v=(Z8 l)-(j+n)/\(∀x,x∈(l.drop j).take n->(x !=10)=aF)/\c=m,(Z8 l)-j,⟨0,g,I,I,R,I⟩,?_⟩;rintro v _ _ ⟨n,B,rfl,rfl,A,rfl⟩;obtain⟨z,w⟩:∃z,j+n<(Z8 l)->l[j+n]? =Hg z:=by
    by_cases h:j+n<Z8 l
    .exact⟨l[j+n],λ_=>bH h⟩
    .exact⟨0,λd=>absurd d h⟩
   have b:((z.toNat:Int) !=10)=(z !=10):=by
    have:((z.toNat:Int)==10)=_:=OH (d:=10);unfold bne;rw[this]
   refine⟨z,λh=>⟨J,by rw[pR,aW];exact w ZZ⟩,?_⟩;rw[b];refine⟨λh=>?_,λh=>?_⟩
   .rw[H]at h;have a:=aO h.1;have k:(l.drop j)[n]? =Hg z:=by rw[gq];exact w J
    refine⟨(Z8 l)-_,J,n+1,J,Pc,I,λq d=>?_,I⟩;rw[bq,k]at d;simp at d;rcases d with d | rfl
    .exact A q d
    .exact h.2
   .have z:=mL J A λq d=>by
     have a:=(bd.1 d).1;rw[gq,w J]at d;injection d with d;subst d;rw[bF J,cr]at h;exact h
    have k:Z8 ((l.drop j).takeWhile (· !=10))=n:=by rw[z,cf];omega
    have x:0<n:=by
     rw[<-k,hd,dC,K Z,aY];omega
    rw[k,lQ]at y;exact⟨(Z8 l)-_,J,j+n,B,I,I,by rw[s,y];omega,I⟩
  .rw[s,hd,ld,K hb];omega
  .have z:ld aM (l.drop j)=0:=by
    rw[hd,ld,W XL,W];intro h;simp only[H,eX]at h;obtain⟨rfl,h⟩:=h;have d:j+1<Z8 l:=by
     cases k:l.drop _ with
     | nil=>rw[k]at h;simp at h
     | cons a b=>
      have:=bK List.length k;rw[bZ,aY]at this;omega
    rw[oz (p d)]at h;simp at h;subst h;rw[bF J]at t;simp at t
   rw[s,z];rfl
 .have p:Z8 l<=j:=M1
  rw[s,dJ p];rfl
def zN:X (S):=[[45,62],[60,61],[62,61],[61,61],[33,61],[38,38],[124,124]]
def aaA{c d}{r}:sK (c::d::r)=zN.contains [c,d]:=by
 rw[bL];simp[sK,zN];constructor
 .rintro((⟨rfl,h⟩ | ⟨rfl,h⟩) | ⟨rfl,rfl⟩)
  .rcases h with rfl | rfl | rfl | rfl<;>simp
  .rcases h with rfl | rfl<;>simp
  simp
 rintro(⟨rfl,rfl⟩ | ⟨rfl,rfl⟩ | ⟨rfl,rfl⟩ | ⟨rfl,rfl⟩ | ⟨rfl,rfl⟩ | ⟨rfl,rfl⟩ | ⟨rfl,rfl⟩)<;>simp
def abX{m}(h:sK m=aF):jD m=2:=by unfold jD;rw[K h]
def abB{c}{r}(h:sK (c::r)=aM):jD (c::r)=if pF.contains c then 1 else 0:=by
 rw[jD];rw[W (by rw[h];decide)]
def aaX w l (i:Nat) (m:i<Z8 l) (u:Z8 l<4611686018427387903):
  aA ar 202 #[ae (T l),O U i] w λe a=>e=ao (O U (jD (l.drop i)))/\az [] w a:=by
 refine ret (asw ?_);rw[alZ];rw[cH];have⟨s,j,r,t,f⟩:=jb w zN (n:=7) (parts:=#[_,_,_,_,_,_,_]) I I Z Z;have g:=pT t;have hx:=bH m;generalize l[i]=c at hx;have hd:=oz hx;have B:Z8 (l.drop i)=(Z8 l)-i:=bZ;have S:=g.len;rw[eS (x:=i+2) J J];refine⟨s,j,r,λv k a=>∃n,n<=Z8 zN/\k=n/\v=(Z8 zN)-n/\(2<=(Z8 (l.drop i))->∀x,x∈zN.take n->x≠(l.drop i).take 2)/\az [] j a,Z8 zN,⟨0,J,I,I,R,EC _ _⟩,?_⟩;rintro v _ z ⟨n,o,rfl,rfl,p,b⟩;refine⟨λhc=>?_,λhc=>?_⟩
 .have w:=aO hc;have⟨ad,x,L,D,s,M,N,E,F⟩:=(Aw cx Z g b R).get J w;rw[aW]at s;subst F;have G:Z8 zN=7:=I;refine⟨i,i+2,λh=>⟨I,J,J,ZZ⟩,ad,λ_=>D,_,λ_=>E,?_⟩;have ex:(T l).extract i (i+2)=T ((l.drop i).take 2):=by rw[vE,show i+2-i=2 by omega]
  rw[ex,iC];refine⟨λh P A=>⟨?_,f.cn (b.cn A)⟩,λh Q C=>⟨(Z8 zN)-_,J,n+1,J,TE,I,λq y k=>?_,b.cn C⟩⟩
  .rw[H]at h;have x:=aO h.1;have q:=aO h.2;have n:sK (l.drop i)=aF:=by
    cases e:l.drop (i+1)with
    | nil=>
     have:=bK List.length e;rw[bZ,bE]at this;omega
    | cons d h=>
     rw[hd,e]at q⊢;rw[aaA,fu];have:(c::d::h).take 2=[c,d]:=I;rw[<-this,q];exact bA s
   rw[abX n];rfl
  rw[bq,s]at k;simp at k;rcases k with k | rfl
  .exact p q y k
  rw[bF J,cr]at h;exact λe=>aR h e.symm
 have s:=aR hc;rw[br J]at p;have N:sK (l.drop i)=aM:=by
  cases c:l.drop (i+1)with
  | nil=>rw[hd,c];rfl
  | cons d k=>
   rw[hd,c,aaA,io];intro h;rw[fu]at h;have e:2<=Z8 (l.drop i):=by rw[hd,c];simp
   exact p e _ h (by rw[hd,c];rfl)
 have Y:jD (l.drop i)=if pF.contains c then 1 else 0:=by
  rw[hd]at N⊢;exact abB N
 rw[Y];refine⟨λv k a=>∃n:Nat,n<=17/\k=n/\v=17-n/\(∀x,x∈pF.take n->x≠c)/\az [] w a,17,⟨0,J,I,I,R,f.cn b⟩,?_⟩;rintro v _ A ⟨n,o,rfl,rfl,p,D⟩;refine⟨λhc=>?_,λhc=>⟨?_,D⟩⟩
 .have l:n<17:=Ro
  obtain⟨y,k⟩:∃y,pF[n]? =Hg y:=⟨_,bH l⟩
  refine⟨c,⟨J,KS⟩,y,⟨J,by
   have e:(aq #[123,125,40,41,91,93,59,44,61,43,45,42,47,37,60,62,33])=T pF:=I;rw[e,pR,aW,k]⟩,?_⟩
  rw[OH];refine⟨λh x P=>⟨?_,D.cn P⟩,λh C w=>⟨17-_,J,n+1,J,TE,I,λq d=>?_,D.cn w⟩⟩
  .have h:=Zp
   rw[K]
   .rfl
   rw[fu,h];exact bA k
  rw[bq,k]at d;simp at d;rcases d with d | rfl
  .exact p q d
  rintro rfl;simp at h
 have s:n=17:=M1
 subst s;rw[W]
 .rfl
 intro h;rw[fu]at h;exact p c (by rw[br Z];exact h) I
def exT{ds}{x}:lY 0 (ds++[x])=lY 0 ds*10+(x.toNat-48):=by
 rw[lY];rw[nA];rfl
def xKV{ds}{n}:lY 0 (ds.take n)<=lY 0 ds:=by
 have:lY 0 ds=lY (lY 0 (ds.take n)) (ds.drop n):=by
  unfold lY;rw[<-nA,fW]
 rw[this];exact GZ _ _
def xCQ w l (b:Z8 l<4611686018427387903):
  aA ar 201 #[ae (T l)] w λe a=>e=ao (aj #[O U (gL l).1,O U (gL l).2.1,O U (gL l).2.2])/\az [] w a:=by
 refine ret (asv ?_);rw[alY];rw[cH];refine⟨λh0=>⟨?_,EC _ _⟩,λh0=>?_⟩
 .have h0:l=[]:=bJ (by have:(Z8 l:Int)=0:=Z4;omega);rw[gL,K h0];rfl
 have h0:¬l=[]:=by
  rintro rfl;simp at h0
 refine⟨λc j a=>∃n:Nat,n<=Z8 l/\j=n/\c=(Z8 l)-n/\(∀x,x∈l.take n->dA x=aF)/\a=w,Z8 l,⟨0,J,I,I,R,I⟩,?_⟩;rintro c _ m ⟨n,k,rfl,rfl,p,u⟩;subst u;obtain⟨z,f⟩:∃z:UInt8,n<(Z8 l)->l[n]? =Hg z:=by
  by_cases h:n<Z8 l
  .exact⟨l[n],λ_=>bH h⟩
  exact⟨0,λd=>absurd d h⟩
 have g:n<(Z8 l)->0<=(n:Int)/\(T l)[Int.toNat n]? =Hg z:=λh=>⟨J,by rw[pR,aW];exact f h⟩
 refine⟨z,λh=>g ZZ,z,λh=>g (by
  rw[H]at h;have:=aO h.1;omega),?_⟩
 have i:((((VM (n<(Z8 l:Int)))&&(VM ((z.toNat:Int)>=48)))&&(VM ((z.toNat:Int)<=57))))=(VM (n<Z8 l)&&dA z):=by
  rw[bL];simp only[dA,H,bU];omega
 rw[i];refine⟨λh=>?_,λh=>?_⟩
 .rw[H]at h;have d:=aO h.1;refine⟨(Z8 l)-_,J,n+1,J,TE,I,λy hy=>?_,I⟩;rw[bq,f d]at hy;simp at hy;rcases hy with hy | rfl
  .exact p y hy
  exact h.2
 have S:=mL k p λy hy=>by
  have d:=(bd.1 hy).1;rw[f d]at hy;cases hy;rw[bF d,cr]at h;exact h
 have B:Z8 (l.takeWhile dA)=n:=by rw[S,cf];omega
 obtain⟨x,r,rfl⟩:∃x r,l=x::r:=by
  cases l with
  | nil=>exact absurd I h0
  | cons x r=>exact⟨x,r,I⟩
 refine⟨x,λ_ _=>⟨J,I⟩,?_⟩;have s:((x.toNat:Int)==48)=_:=OH (d:=48);have t:(((n:Int)==0)||((VM ((n:Int)>1))&&((x.toNat:Int)==48)))=VM ((x::r).takeWhile dA=[]∨(1<Z8 ((x::r).takeWhile dA)/\(x::r).head? =Hg 48)):=by
  rw[s,B,bL];simp only[H,dq,bU,eX,pW,cd];have:(x::r).takeWhile dA=[]↔n=0:=by
   constructor
   .intro e;rw[e]at B;exact B.symm
   intro e;rw[e]at B;exact bJ B
  rw[this];by_cases h:x=48
  .simp only[h,and_true];omega
  simp only[h,and_false,cE];omega
 rw[t];refine⟨λo=>⟨?_,EC _ _⟩,λo=>?_⟩
 .rw[gL,W h0,K (aO o)];rfl
 have o:=aR o;refine⟨λc v j a=>∃q:Nat,q<=n/\j=q/\c=n-q/\v=(lY 0 ((x::r).take q))/\lY 0 ((x::r).take q)<9223372036854775808/\az [] m a,n,⟨0,J,I,I,I,by rw[ci];decide,EC _ _⟩,?_⟩;rintro c _ _ z ⟨q,w,rfl,rfl,rfl,e,d⟩;refine⟨λhc=>?_,λhc=>⟨?_,d⟩⟩
 .have T:q<n:=Ro
  have hy:(x::r)[q]? =Hg _:=bH J;generalize (x::r)[q]'_=y at hy;have A:=p y (by
   rw[List.mem_iff_getElem?];exact⟨q,by rw[iX,K T,hy]⟩)
  simp only[dA,H,bU]at A;have C:=by
   have h:∀n:Fin 256,48<=n.val->au .u8 (n.val-48)=n.val-48:=VE
   exact h ⟨y.toNat,y.toNat_lt⟩ A.1
  have E:(9223372036854775807-((y.toNat:Int)-48)).tdiv 10=_/10:=Int.tdiv_eq_ediv_of_nonneg J;have D:(x::r).take (q+1)=(x::r).take q++[y]:=Ux
  have ev:lY 0 ((x::r).take (q+1))=lY 0 ((x::r).take q)*10+(y.toNat-48):=by rw[D,exT]
  refine⟨y,⟨J,by rw[pR,aW,hy]⟩,?_⟩;rw[C,eS (x:=y.toNat-48) J J,eS (x:=9223372036854775807-_) J J,E,eS (x:=_/10) J J];refine⟨λv=>⟨?_,d⟩,λv=>⟨n-_,J,q+1,J,TE,I,?_,?_,d⟩⟩
  .have v:=aO v;have h:=by
    have:=xKV (ds:=(x::r).take n) (n:=q+1);rw[List.take_take,Yw J]at this;exact this
   rw[gL,W h0,W o,W (by rw[S];omega)];rfl
  .have v:=aR v;rw[ev,eS (x:=10*(lY 0 _)) J J,eS J J];omega
  have v:=aR v;omega
 have h:q=n:=M1
 subst h;rw[gL,W h0,W o,K (by rw[S];exact e),B,S]
def amX(i:Nat)(r:Except Int Tq)(v:ay):Prop:=match r with
 | .error e=>v=aj #[ai #[O U 0,ae (T []),O U 0,O U 0],O U 0,O U e]
 | .ok q=>v=aj #[ai #[O U q.1,ae (T q.2.1),O U q.2.2.1,O U i],O U q.2.2.2,O U 0]
def ab0(w:aw)(l:S) i (r:i<Z8 l) (F:Z8 l<=16384):
  aA ar 147 #[ae (T l),O U i] w λe g=>∃v,e=ao v/\amX i (lZ (l.drop i)) v/\az [] w g:=by
 refine ast (T l) i w ?_;have hx:=bH r;generalize l[i]=x at hx;have B:Z8 (l.drop i)=(Z8 l)-i:=bZ;have D:lZ (l.drop i)=if fT x then nH (l.drop i)else if dA x then sJ (l.drop i)else oc (l.drop i):=by
  rw[oz hx];rfl
 rw[D];have q:0<=(i:Int)/\_[Int.toNat i]? =Hg x:=⟨J,KS⟩
 refine⟨x,q,λt z H G c=>(AR z x).mono ?_⟩;rintro _ E ⟨rfl,d⟩;have new:∀{u b:aw},az [] w u->az [t] u b->az [] w b:=λf k=>f.trans k λy hy=>.inr Uo;have sm:∀{u b:aw},az [] z u->az [] u b->cF [t] u b:=λA f=>f.same (by have:=A.size;simp;omega);refine⟨_,I,sm (EC _ _) d,x,q,(Kw E x).mono ?_⟩;rintro _ j ⟨rfl,o⟩;have h:=d.cn o;refine⟨_,I,sm d o,λhb=>?_,λhb=>⟨λhd=>⟨i,⟨I,R5⟩,?_⟩,λhd=>?_⟩⟩
 .rw[K hb];refine(Nh j l i J J).mono ?_;rintro _ w3 ⟨rfl,x⟩;have R:=by
   have:=sL (p:=fF) (l:=l.drop i);rwa[B]at this
  have ex:(T l).extract i (i+Z8 ((l.drop i).takeWhile fF))=T ((l.drop i).takeWhile fF):=by
   rw[vE,eo,<-oy]
  refine⟨_,I,sm h x,i,i+Z8 ((l.drop i).takeWhile fF),⟨I,Pc,J,R5⟩,λZ V mo X L=>?_⟩;have e:=h.cn (x.cn L);rw[ex];refine(P6 V _).mono ?_;rintro _ w5 ⟨rfl,P⟩;have v:=e.cn P;have z4:=e.size;unfold nH;generalize Y:(l.drop i).takeWhile fF=m at*
  refine⟨_,I,P.same C,λk s n a g=>k=(if kI.contains m then 2 else 1)/\s=T m/\n=0/\a=i/\az [] w g,?_,λhc w9 M=>⟨by rw[K hc],I,I,I,(c.cn v).trans M λy hy=>.inr (by simp at hy;have:=c.size;have:=x.size;have:=h.size;omega)⟩,λhc=>⟨by rw[hc];rfl,I,I,I,c.cn v⟩⟩;rintro _ _ _ _ w6 ⟨rfl,rfl,rfl,rfl,N⟩;refine⟨λhc w7 Q=>⟨?_,new N Q⟩,λhc w8 O=>⟨?_,new N O⟩⟩
  .rw[K Ro];rfl
  rw[W M1];rfl
 .rw[W XL,K hd];have ex:(T l).extract i (T l).size=T (l.drop i):=by rw[vE,cH,br J]
  rw[ex];refine(xCQ j (l.drop i) J).mono ?_;rintro _ k ⟨rfl,a⟩;have V:=h.cn a;unfold sJ;refine⟨_,_,_,I,sm h a,λhe n e=>⟨?_,new (c.cn V) e⟩,λhe=>(Nh k l i J J).mono ?_⟩
  .rw[K RH];rfl
  rintro _ v ⟨rfl,i⟩;have x:=V.cn i;rw[W RH];refine⟨_,I,sm V i,λhc M p=>⟨?_,new (c.cn x) p⟩,λhc R s=>⟨?_,new (c.cn x) s⟩⟩
  .rw[K Ro];rfl
  rw[W M1];rfl
 rw[W XL,W (by rw[hd];decide)];refine(aaX j l i r J).mono ?_;rintro _ V ⟨rfl,a⟩;have x:=h.cn a;have p:=y9 (m:=l.drop i);have ex:(T l).extract i (i+jD (l.drop i))=T ((l.drop i).take (jD (l.drop i))):=by rw[vE,eo]
 unfold oc;refine⟨_,I,sm h a,λhz O n=>⟨?_,new (c.cn x) n⟩,λhz=>⟨i,i+jD (l.drop i),⟨I,Pc,J,R5⟩,λs k=>⟨?_,new (c.cn x) k⟩⟩⟩
 .rw[K (by have:=Z7;omega)];rfl
 rw[W (by rintro e;rw[e]at hz;simp at hz),ex];rfl
def ahJ w l:
  aA ar 83 #[ae (T l)] w λe b=>∃r,e=ao (aj #[r.v,ai #[O U (cQ l).2.1,O U (cQ l).2.2]])/\nW w.heap.size b r (cQ l).1/\az [] w b:=by
 refine iE (asj ?_);rw[alU];rw[cH];refine⟨λhc f j _ _ h=>⟨Sl.nil,?_,?_,h⟩,λhc d a g i c=>?_⟩
 .rw[cQ,K Ro]
 .rw[cQ,K Ro];exact Vf _ _ _ _ _ _
 have L:Z8 l<=16384:=M1
 have o:cQ l=match j8 l 0 with
  | .error x=>([],x.1,x.2)
  | .ok e=>(e,0,0):=by
   rw[cQ,W J]<;>rfl
 refine(FJ a l 0 J J).mono ?_;rintro _ E ⟨rfl,p⟩;have D:=c.size;refine⟨_,I,p.same C,λz s w A B b=>A=0/\B=0/\∃(m:Nat) (n:X Tk),w=m/\m<=Z8 l/\Z8 n<=m/\ld aM (l.drop m)=0/\j8 l 0=j9 n (j8 l m)/\z=(Z8 l)-m/\nW a.heap.size b s n/\az [] a b,(Z8 l)-(0+ld aM (l.drop 0)),?_,?_⟩
 .refine⟨I,I,_,[],I,Jo J,bh _,?_,?_,I,Vf _ _ _ _ _ _,p⟩
  .rw[<-lQ];exact rn aM (l.drop 0)
  rw[<-oA J];cases j8 l 0<;>rfl
 rintro z s _ _ _ N ⟨rfl,rfl,m,n,rfl,Y,V,S,P,rfl,G,R⟩;have Z:=R.size;have H:=jT Y;rw[S,gP]at H;have M:∀{u:aw} {Q:Sl} t,az [] a u->nW a.heap.size u Q n->
   ∃y e,(av 129 1 #[(0,t.v)]).run ar u=.ok (Sl.v y) e/\az [] u e/\∃s q,(Builtin.append_ #[129,129] 129 #[Sl.v Q,Sl.v y]).run ar e=.ok (Sl.v s) q/\nW a.heap.size q s (n++[t])/\aE (λk=>a.heap.size<=k/\Q.a=Hg ⟨k,0,ZQ⟩) e q/\az [] a q:=by
  intro u Q t hu hr;have⟨y,e,c1,x,s,q,c3,c4,T⟩:=xCV t hr hu.size J;exact⟨y,e,c1,x,s,q,c3,c4,T,((hu.cn x).p0 (F:=λk=>a.heap.size<=k) |>.trans T λk v=>.inl v.1).only λk v=>v⟩
 refine⟨λhc=>?_,λhc=>?_⟩
 .have bT:m<Z8 l:=Ro
  rw[W J]at H;refine(ab0 N l m bT L).mono ?_;rintro _ w4 ⟨v,rfl,F,dD⟩;have BS:=R.cn dD;have am:cF [d] N w4:=dD.same C;have z4:=dD.size;unfold amX at F;cases t:lZ (l.drop m)with
  | error e=>
   rw[t]at F H;subst F;refine⟨0,T [],0,0,0,e,I,am,λ_ q u s x k=>⟨Sl.nil,?_,?_,?_⟩,λhe=>absurd (G0 t) RH⟩
   .rw[o,P,H];rfl
   .rw[o,P,H];exact Vf _ _ _ _ _ _
   exact(c.cn BS).trans k λy hy=>.inr Uo
  | ok q=>
   rw[t]at F H;subst F;have aS:=uo t;have aC:=Ay t;rw[bZ]at aC;refine⟨q.1,T q.2.1,q.2.2.1,m,q.2.2.2,0,I,am,λhe=>(by simp at he),λ_ k5 w6 mo Ae dN=>?_⟩;obtain⟨y,w7,c1,c2,s',w8,c3,c4,c5,c6⟩:=M (u:=w6) ⟨q.1,q.2.1,q.2.2.1,(m:Nat)⟩ (BS.cn dN) (G.only (dD.cn dN));have z7:=c2.size;have z8:=c5.size;have hk:∀k,s.a=Hg ⟨k,0,ZQ⟩->a.heap.size<=k/\k<N.heap.size:=λk hk=>G.blk hk;refine⟨y,w7,c1,c2.same C,s',w8,c3,c5.same (by
    intro x k;simp[aZ,bB,cE]at k;refine⟨J,λe=>?_⟩;have:=hk x e.2;omega),?_⟩
   rw[eS (x:=m+q.2.2.2) J J,show m+q.2.2.2=((m+q.2.2.2:Nat):Int) by omega];refine(FJ w8 l _ J J).mono ?_;rintro _ w9 ⟨rfl,v⟩;refine⟨_,I,v.same C,(Z8 l)-_,J,I,I,_,_,I,Jo (l:=l) (i:=m+q.2.2.2) J,?_,?_,?_,I,c4.only v,c6.cn v⟩
   .rw[aP,bf];omega
   .rw[<-lQ];exact rn aM _
   rw[P,H,<-oA J,<-OI];dsimp only;cases j8 l _<;>rfl
 have lD:Z8 l<=m:=M1
 rw[K lD]at H;have⟨y,dk,c1,v,T,dz,c3,c4,c5,c6⟩:=M (u:=N) ⟨5,[],0,m⟩ R G;have EW:=v.size;have q:∀k,s.a=Hg ⟨k,0,ZQ⟩->a.heap.size<=k/\k<N.heap.size:=λk q=>G.blk q;have t:cQ l=(n++[⟨5,[],0,m⟩],0,0):=by
  rw[o,P,H];rfl
 have e:(Z8 l:Int)= ↑m:=J
 rw[e];refine⟨y,dk,c1,v.same C,T,dz,c3,c5.same (by
  intro x k;simp at k;refine⟨J,λe=>?_⟩;omega),λs F=>⟨T,by rw[t],?_,?_⟩⟩
 .rw[t];have:=c4.keep λk q e=>F.block k e (by simp;have:=q.1;omega);exact Own.low this D
 exact(c.cn c6).trans F λy hy=>.inr Uo
def rC w l (f:Z8 l<4611686018427387903):
  aA ar 259 #[ae (T l)] w λe a=>e=ao (ak (dI l))/\az [] w a:=by
 refine ret (arS ?_);rw[alk];have d:(aq #[])=T []:=I;rw[cH,d,iC];refine⟨λh=>⟨?_,EC _ _⟩,λh=>?_⟩
 .unfold dI;rw[bC]
  .rfl
  rintro⟨b,c⟩;rw[bC b,bC J]at h;cases h
 simp at h;have⟨j,g⟩:=h;have g:Z8 l<=24:=J
 obtain⟨c,r,rfl⟩:∃c r,l=c::r:=by
  cases l with
  | nil=>exact absurd I j
  | cons c r=>exact⟨c,r,I⟩
 have n:dI (c::r)=(fT c&&VM ((c::r).takeWhile fF=c::r)&&!kI.contains (c::r)):=by
  rw[dI];rw[bF ⟨j,g⟩,cr]
 refine⟨c,⟨J,I⟩,(AR w c).mono ?_⟩;rintro _ o ⟨rfl,k⟩;refine⟨_,I,(P6 o _).mono ?_⟩;rintro _ q ⟨rfl,m⟩;refine⟨_,I,λb a=>b=dI _/\az [] w a,λb a e=>⟨by rw[e.1],e.2⟩,λi=>?_,λi=>⟨?_,k.cn m⟩⟩
 .refine(Nh q _ 0 J f).mono ?_;rintro _ w ⟨rfl,b⟩;rw[fA];refine⟨_,I,?_,k.cn (m.cn b)⟩;rw[n];simp only[H,ey]at i;rw[i.1,i.2,cr,E5,dR,bL];simp only[eX,bU];constructor
  .intro e;have e:Z8 ((c::r).takeWhile fF)=Z8 (c::r):=J
   have g:=oy (p:=fF) (l:=c::r);rw[e,br J]at g;exact g
  intro e;rw[e]
 rw[n];cases j:fT c<;>cases g:kI.contains _<;>rw[j,g]at i<;>simp at i⊢
def aaY w l:aA ar 367 #[ae (T l)] w λe g=>
  ∃a,e=ao (aj #[ai a.toArray,ai #[O U (iG l).2.1,O U (iG l).2.2]])/\RX g w.heap.size g.heap.size (iG l).1 a/\az [] w g:=by
 refine iE (ar7 ?_);intro B E L N M S P v;have own:∀{u o:aw},az [] w u->az [E,B] u o->az [] w o:=λz A=>z.trans A λx hx=>.inr Vv;refine(ahJ L l).mono ?_;rintro _ w1 ⟨j,rfl,h,d⟩;have z1:=d.size;have i:=v.cn d;generalize G:cQ l=H at*
 have⟨s,c,p⟩:=H;have Q:iG l=if c≠0 then(uZ,c,p)else if(cq s 0).2.2.1≠0 then(uZ,(cq s 0).2.2.1,(cq s 0).2.2.2)else if(tk s (cq s 0).2.1.toNat).k≠5 then(uZ,4,(tk s (cq s 0).2.1.toNat).a)else((cq s 0).1,0,(cq s 0).2.2.2):=by
  rw[iG];rw[G]
 refine⟨j,_,_,I,d.same C,λhc F w2 V X r m b f=>⟨λk=>k=F,I,λe=>b e,λe=>f e,λw3 y=>?_⟩,λhc k3 w4 yw Y D=>?_⟩
 .have hc:=R0
  rw[Q,K hc];exact⟨_,I,Z9 _ _ _,own (i.cn r) y⟩
 rw[W (by simp[by simpa using hc])]at Q;refine(afb (h.only D).sl 0 ⟨Z,Z⟩).mono ?_;rintro _ w5 ⟨a,rfl,hX,hj,T⟩;have p:(cq s 0).2.2.1=0->(cq s 0).2.2.2=0:=by
  rw[cq];split
  .cases k:oB s (0:Int).toNat with
   | error e=>
    intro n;exact absurd n (mY _ _ _ _ k)
   | ok q=>intro _;rfl
  intro e;exact absurd e (show ¬1=0 by decide)
 generalize aC:cq s 0=pa at*
 have⟨x,am,c',p'⟩:=pa;dsimp only at hX hj Q p⊢;obtain⟨xl,rfl,_⟩:=hX.cells;have w:=(i.cn D).cn T;have l:∀{u:aw},az [k3] w5 u->aB MN 4 u _ j s:=λhO=>Aw gz Z (h.only (D.cn T)).sl hO λk hk bT hm=>by
  have:=h.blk hk.2;simp at hm;dsimp only at this;omega
 refine⟨_,_,_,_,_,_,_,_,_,I,T.same C,λc k4 w6 pV xA dN m b f n4 n5 n6=>⟨λk=>k=k3,I,λe=>b e,λe=>n4 e,λw7 ga=>?_⟩,λc=>?_⟩
 .have c:=by simpa using c
  rw[Q,K c];exact⟨_,I,Z9 _ _ _,own (w.new dN J) ga⟩
 have c:=by simpa using c
 rw[W (by simp[c])]at Q;have⟨Tv,La⟩:=hj c;obtain⟨n,rfl⟩:∃n:Nat,am=n:=⟨am.toNat,J⟩
 have hl:=(l (EC _ _)).len;have⟨ad,t,a,g1,g2,g3,g4,g5,g6⟩:=(l (EC _ _)).get Tv J;rw[aW]at Q;refine⟨ad,g1,λk5 w8 mo Ae x=>?_⟩;have⟨H0,t',qY,e1,e2,e3,e4,e5,e6⟩:=(l x).get Tv J;have aS:=cM.ET e1 g1;subst aS;rw[aW,za J]at e2;cases e2;subst e6;refine⟨_,e5.dx 0 _ I,λhk w9 fm m b f n4 n5 n6=>⟨λk=>k=H0.block,H0,g1,?_,_,(e5.keep (fm.block _ e5.lt R)).dx 3 _ I,?_,?_,λdk dS=>?_⟩,λhk dz dl=>?_⟩
 .exact ol H0 3
 .intro e;have:=e3.1;omega
 .intro e;omega
 .have hk:=Mi
  rw[Q,K hk];exact⟨_,I,Z9 _ _ _,own ((w.new x J).cn fm) dS⟩
 rw[Q,W (by simp[by simpa using hk]),p c];have e:=dl.size;exact⟨_,I,((hX.only x λq hq=>.inl TF).only dl λq hq=>.inl TF).wide J J,own (w.new x J) dl⟩
end Go.Proofs.YtccbiehilmhodaaGreatDoor.Con
