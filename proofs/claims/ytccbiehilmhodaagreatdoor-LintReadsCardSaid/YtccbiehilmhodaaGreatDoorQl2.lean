import Derived.Test.YtccbiehilmhodaaGreatDoorQl1
import Derived.Shelf.Strings.Builder1
import Derived.Shelf.Strings.Builder2
import Derived.Shelf.Strings.OnBuilder
import Derived.Shelf.Small.Bits
import Derived.Shelf.Strings.BuilderF
import Derived.Shelf.Strconv.Itoa0
import Derived.Shelf.Strconv.Itoa1
import Derived.Shelf.LaysM
import Derived.Shelf.Strconv.Itoa2
import Derived.Shelf.Strconv.Itoa3
import Derived.Shelf.Strconv.ParseIntEmpty
import Derived.Shelf.Strconv.Clone
import Derived.Shelf.Strconv.SyntaxError
import Derived.Shelf.LaysC
import Derived.Shelf.Strconv.ToError
import Derived.Shelf.Strconv.Lower
import Derived.Shelf.Strconv.ParseUint10
import Derived.Shelf.Strconv.ParseUint10Empty
import Derived.Shelf.Strconv.ParseUint10Any
import Derived.Shelf.Strconv.ParseInt10
import Derived.Shelf.Strconv.RangeError
import Derived.Shelf.Strconv.ToErrorRange
import Derived.Shelf.Strconv.ParseUintEmpty
import Derived.Shelf.Strconv.ParseUint10b64
import Derived.Shelf.Strconv.ParseUint10b32
import Derived.Shelf.Strconv.ParseUint10b16
import Derived.Shelf.Strconv.ParseUint10b8
import Derived.Shelf.Strconv.ParseUint10At
import Derived.Shelf.Strconv.ParseInt10At64
import Derived.Shelf.Strconv.ParseInt10At32
import Derived.Shelf.Strconv.ParseInt10At16
import Derived.Shelf.Strconv.ParseInt10At8
import Derived.Shelf.Strconv.ParseInt10All
import Derived.Shelf.Strconv.ParseIntPublic10
import Derived.Shelf.Strconv.ErrVarParseInt
import Derived.Shelf.Strings.Search1
import Derived.Shelf.Strings.Search2
import Derived.Shelf.Strings.Cut
import Derived.Shelf.Strings.Shaped
import Derived.Shelf.Sort.Plain
import Derived.Shelf.Strings.Prefix
import Derived.Shelf.Bits.Mul64
import Derived.Shelf.Strings.Repeat
import Derived.Shelf.Slices.Clone
import Derived.Shelf.Slices.CompactI
import Derived.Shelf.Slices.SearchI
import Derived.Shelf.Slices.Cells
import Derived.Shelf.Slices.In.SortNone
import Derived.Shelf.SlicesE.Clone
import Derived.Shelf.SlicesG.Cmp
import Derived.Shelf.SlIter.Nil
import Derived.Shelf.SortM.Plain
import Derived.Shelf.SortM.SortNone
set_option linter.constructorNameAsVariable false
set_option linter.defProp false
set_option linter.unusedSectionVars false
set_option linter.unusedSimpArgs false
set_option linter.unusedVariables false
set_option maxRecDepth 100000
set_option maxHeartbeats 40000000
open Bool renaming true->aF,false->aM
open Option renaming some->Hg,none->ZQ
open List renaming length->Z8
open Decidable renaming decide->VM
namespace Go.Kt.V
open Go renaming World->aw,Value->ay
open Go Go.RowKit Go.Kt
def wJ:∀l m i,eK (l++m) i=match eK l i with
  | some p=>Hg p
  | none=>eK m i
 | [],_,_=>rfl
 | (k,p)::r,m,i=>by
  simp[eK];cases Nat.beq k i
  .exact wJ r m i
  rfl
def B0{fr}:∀{kp:X Nat} {i:Nat} {p:Nat×SV},eK (EF fr kp) i=Hg p->i∈kp/\eK fr i=Hg p
 | j::r,i,p,h=>by
  unfold EF at h;split at h
  .rename_i q a;simp[eK]at h;cases b:Nat.beq j i
   .rw[b]at h;obtain⟨c,d⟩:=B0 Zp;simp_all
   simp_all
  obtain _:=B0 h;simp_all
def I6{fr}{p}:∀{kp:X Nat} {i:Nat},i∈kp->eK fr i=Hg p->eK (EF fr kp) i=Hg p
 | j::r,i,a,h=>by
  unfold EF;cases b:Nat.beq j i
  .have B:i∈r:=by
    rcases aZ.1 a with e | e<;>simp_all
   have c:=I6 (p:=p) B h;split
   .simp[eK,b];exact c
   exact c
  have:=dh b;subst this;rw[h];simp[eK]
def wK{ct}:∀{m:X MI} {s:X SV} {i:Nat},(X0 m).elem i=aM->eK (MC ct m s) i=ZQ
 | [],s,i,_=>rfl
 | .s j l::r,[],i,_=>rfl
 | .s j l::r,v::s,i,h=>by
  simp only[X0,xD]at h;split at h
  .cases h
  rename_i w;simp[MC,eK];have:Nat.beq j i=aM:=by
   cases b:Nat.beq j i<;>simp_all
  rw[this];exact wK h
 | .a j l::r,s,i,h=>by
  simp only[X0,xD]at h;split at h
  .cases h
  rename_i w;simp[MC,eK];have:Nat.beq j i=aM:=by
   cases b:Nat.beq j i<;>simp_all
  rw[this];exact wK h
 | .b j l::r,s,i,h=>by
  simp[MC];exact wK h
def wL{ct}:∀{m:X MI} {s:X SV} {i:Nat} {p:Nat×SV},eK (MC ct m s) i=Hg p->p.1=ct
 | [],s,i,p,h=>by cases s<;>cases h
 | .s j l::r,[],i,p,h=>Rl
 | .s j l::r,v::s,i,p,h=>by
  simp[MC,eK]at h;cases b:Nat.beq j i
  .rw[b]at h;exact wL Zp
  rw[b]at h;simp at h;subst h;rfl
 | .a j l::r,s,i,p,h=>by
  simp[MC,eK]at h;cases b:Nat.beq j i
  .rw[b]at h;exact wL Zp
  rw[b]at h;simp at h;subst h;rfl
 | .b j l::r,s,i,p,h=>by
  simp[MC]at h;exact wL h
def jR{st}:∀m d x i b,du x i=Hg b->∃a,du (MD st m d x) i=Hg a/\a.ty=b.ty/\a.ok=b.ok/\a.blk=b.blk/\((Uf st m).elem i=aM->a=b)/\(a=b∨a.stp=st.ct)
 | [],d,x,i,b,h=>⟨b,by cases d<;>exact h,I,I,I,λ_=>I,.inl I⟩
 | .s j l::r,[],x,i,b,h=>⟨b,h,I,I,I,λ_=>I,.inl I⟩
 | .s j l::r,v::d,x,i,b,h=>jR r d x i b h
 | .a j l::r,d,x,i,b,h=>jR r _ x i b h
 | .b s l::r,d,x,i,b,h=>by
  simp only[MD,Uf];rcases hj:Wv st s with _|j
  .exact jR r _ x i b h
  dsimp only;rcases hc:du x j with _|c
  .obtain⟨a,c,e,f,g,k,n⟩:=jR (st:=st) r _ x i b h;refine⟨a,c,e,f,g,λo=>k ?_,n⟩
   grind
  by_cases v:i=j
  .subst v;rw[hc]at h;injection h with h;subst h;obtain⟨a,b,c,e,f,k,n⟩:=jR (st:=st) r _ _ i _ (by rw[kj hc,K I]);refine⟨a,b,c,e,f,λg=>?_,?_⟩
   .simp at g
   grind
  obtain⟨a,e,f,g,k,n,o⟩:=jR (st:=st) r _ (Rq x j {c with cells:=d.take (Z8 l),stp:=st.ct}) i b (by rw[kj hc,W v];exact h);refine⟨a,e,f,g,k,λp=>n ?_,o⟩
  grind
def qu{st}:∀m a b i,du b i=ZQ->du (MD st m a b) i=ZQ
 | [],a,b,i,h=>by cases a<;>exact h
 | .s j l::r,[],b,i,h=>h
 | .s j l::r,v::a,b,i,h=>qu r a b i h
 | .a j l::r,a,b,i,h=>qu r _ b i h
 | .b s l::r,a,b,i,h=>by
  simp[MD];rcases hj:Wv st s with _|j
  .exact qu r _ b i h
  dsimp only;rcases hc:du b j with _|c
  .exact qu r _ b i h
  refine qu r _ _ i ?_;rw[kj hc,W]
  .exact h
  rintro rfl;rw[h]at hc;cases hc
def Ext.WX{st}{kp}{ms}{vs}{w}:Ext st (ou st kp ms vs w):=by
 refine⟨I,jP _,λi k v l T=>?_,λi a h o s=>?_,λi b h=>?_,Ij⟩
 .simp[ou]at l;rw[wJ]at l;split at l
  .rename_i p b;have:=wL b;simp_all
  exact(B0 l).2
 .simp[ou]at h;rcases hn:du st.bx i with _|b
  .rw[qu _ _ _ _ hn]at h;cases h
  obtain⟨c,d,e,f,g,j,k⟩:=jR (st:=st) ms vs st.bx i b hn
  grind
 obtain⟨c,d,e,f,g,_⟩:=jR (st:=st) ms vs st.bx i b h;exact⟨c,d,e,f,λk j=>by rw[g];exact j⟩
def SZ(st:St)(kp:X Nat)(m:X MI)(s:St):Prop:=Ext st s∨∃v w,Ext (ou st kp m v w) s
section
variable {st s:St} {kp:X Nat} {ms:X MI} {β:Nat->Nat} {a:Act} {w:aw}
def SZ.n(h:SZ st kp ms s):s.n=st.n:=by
 rcases h with h | ⟨v,w,h⟩
 .exact h.n
 exact h.n
def SZ.df(h:SZ st kp ms s):∃l,s.df=l++st.df:=by
 rcases h with h | ⟨v,w,h⟩
 .exact h.df
 exact h.df
def SZ.slot(h:SZ st kp ms s){i k}{v v'}(d:i∈kp)(c:eK st.fr i=Hg (k,v))(a:eK s.fr i=Hg (k,v'))(b:k<st.ct)(e:(X0 ms).elem i=aM):v'=v:=by
 rcases h with h | ⟨f,w,h⟩
 .have:=h.fr i k v' a b
  grind
 have:=h.fr i k v' a (Nat.lt_succ_of_lt b);simp[ou]at this;rw[wJ,wK e]at this;rw[I6 d c]at this;simp_all
def SZ.ps(h:SZ st kp ms s){i}{b}(a:du st.bx i=Hg b):∃c,du s.bx i=Hg c/\c.ty=b.ty/\c.ok=b.ok/\∀k,b.blk=Hg k->c.blk=Hg k:=by
 rcases h with h | ⟨v,w,h⟩
 .exact h.ps i b a
 obtain⟨d,e,f,g,j,_⟩:=jR (st:=st) ms v st.bx i b a;obtain⟨c,k,l,k3,m⟩:=h.ps i d e
 grind
def SZ.cells(h:SZ st kp ms s){i}{b c}(d:du st.bx i=Hg b)(a:du s.bx i=Hg c)(o:b.ok=aF)(l:(Uf st ms).elem i=aM)(e:c.stp<st.ct):c.cells=b.cells:=by
 rcases h with h | ⟨v,w,h⟩
 .obtain⟨g,k,j,k3,m⟩:=h.ps i b d;rw[a]at k;injection k with k;subst k;obtain⟨f,n,p,q,_⟩:=h.bx i c a (k3.trans o) e
  grind
 obtain⟨g,f,q,j,r,s,_⟩:=jR (st:=st) ms v st.bx i b d;obtain⟨p,k,t,k3,u⟩:=h.ps i g f;rw[a]at k;injection k with k;subst k;obtain⟨n,m,x,y,z,A,B⟩:=h.bx i c a (k3.trans (j.trans o)) (Nat.lt_succ_of_lt e);rw[show du (ou st kp ms v w).bx i=du (MD st ms v st.bx) i from rfl,f]at m
 grind
def aam{sl}:∀{kp:X Nat},ZR st s sl kp=aF->∀i∈kp,∀k v,eK st.fr i=Hg (k,v)->∃a,eK s.fr i=Hg (k,a)/\k<st.ct/\sl.elem i=aM/\cln (I0 st.bx) v=aF
 | j::r,h,i,b,k,v,l=>by
  simp only[ZR,H]at h;rcases aZ.1 b with rfl | b
  .have c:=h.1;rw[l]at c;dsimp only at c;split at c<;>simp_all
  exact aam h.2 i b k v l
def GQ{YO}:∀{l m:X lU} {n:Nat},Ry st YO n l m=aF->∀i b,du l i=Hg b->b.ok=aF->b.blk.isSome=aF/\(YO.elem (n+i)=aF∨∃c,du m i=Hg c/\c.stp<st.ct/\jz (I0 st.bx) b.cells=aF)
 | b::r,[],n,h,_,_,_,_=>by simp[Ry]at h
 | b::r,c::q,n,a,0,f,e,o=>by
  simp only[Ry,H,dq]at a;simp[du]at e;subst e;rcases a.1 with d | ⟨d,h⟩
  .simp_all
  refine⟨d,?_⟩;rcases h with h | h
  .exact .inl h
  exact .inr ⟨c,I,eG h.1,h.2⟩
 | b::r,c::q,n,h,i+1,a,d,o=>by
  simp[Ry]at h;have:=GQ h.2 i a d o;rwa[show n+1+i=n+(i+1) by omega]at this
def Rep.at(R:Rep β s a w){i}{v}(h:s.get i=Hg v):i<s.n/\a.tmps[i]? =Hg (V.val β v):=by
 unfold St.get at h;cases b:Nat.blt i s.n
 .rw[b]at h;cases h
 rw[b]at h;rcases hl:eK s.fr i with _|p
 .rw[hl]at h;cases h
 rw[hl]at h;simp at h;subst h;exact⟨eG b,R.ok.at_ i p hl (eG b)⟩
def vK{g}:∀{l m:X SV},jz g (l++m)=aF->jz g l=aF/\jz g m=aF
 | [],m,h=>⟨I,h⟩
 | s::r,m,h=>by
  simp[jz]at h⊢;obtain _:=vK h.2;simp_all
def ug{γ b}{vs l m}{n}(v:V.cV γ vs=V.cV b l++V.cV b m)(h:Z8 l=n):V.cV γ (vs.take n)=V.cV b l/\V.cV γ (vs.drop n)=V.cV b m:=by
 have a:(V.cV γ vs).take n=V.cV γ (vs.take n):=by simp[V.cV]
 have c:(V.cV γ vs).drop n=V.cV γ (vs.drop n):=by simp[V.cV]
 have d:Z8 (V.cV b l)=n:=by rw[gu,h]
 grind
def GR(R:Rep β s a w){ct}{γ}:∀{ms:X MI} {c d:X SV},sD st s ms=Hg c->jz (I0 s.bx) c=aF->V.cV γ d=V.cV (LC s.bx) c->∀i p,eK (MC ct ms d) i=Hg p->a.tmps[i]? =Hg (V.val γ p.2)
 | [],c,d,_,_,_,i,p,h=>by cases d<;>cases h
 | .s j l::r,c,[],_,_,_,i,p,h=>Rl
 | .s j l::r,c,v::d,a,b,e,i,p,h=>by
  simp[sD]at a;split at a
  .rename_i v m g k;simp at a;subst a;simp[jz]at b;simp[V.cV]at e;simp[MC,eK]at h;cases f:Nat.beq j i
   .rw[f]at h;exact GR R k b.2 e.2 i p Zp
   rw[f]at h;simp at h;subst h;have:=dh f;subst this;rw[(R.at g).2,e.1,R.ani b.1]
  cases a
 | .a j l::r,c,d,a,b,v,i,p,h=>by
  simp[sD]at a;split at a
  .rename_i s t o q;obtain⟨e,rfl⟩:=Gy a;simp only[H]at e;obtain⟨g,k⟩:=vK b;rw[nE]at v;obtain⟨m,n⟩:=ug v (dh e.2);simp[MC,eK]at h;cases f:Nat.beq j i
   .rw[f]at h;exact GR R q k n i p Zp
   rw[f]at h;simp at h;subst h;have:=dh f;subst this;rw[(R.at o).2];show Hg (Value.agg (su β s).toArray)=Hg (Value.agg (su γ _).toArray);rw[ua,m,oY β e.1,R.wv g]
  cases a
 | .b j l::r,c,d,a,e,v,i,p,h=>by
  simp[sD]at a;split at a
  .split at a
   .rename_i b s q k;obtain⟨m,rfl⟩:=Gy a;obtain⟨n,f⟩:=vK e;rw[nE]at v;obtain⟨o,g⟩:=ug v (dh m);exact GR R k f g i p h
   cases a
  cases a
def C8(R:Rep β s a w){γ}(L:∀i b,du st.bx i=Hg b->∃c,du s.bx i=Hg c/\c.ty=b.ty/\c.ok=b.ok)(h:∀i b,du st.bx i=Hg b->b.ok=aF->γ i=β i):∀{ms:X MI} {f g:X SV} {bx:X lU},sD st s ms=Hg f->jz (I0 s.bx) f=aF->V.cV γ g=V.cV (LC s.bx) f->
  (∀j d,du bx j=Hg d->∃b,du st.bx j=Hg b/\d.ty=b.ty/\d.ok=b.ok)->(∀j d,du bx j=Hg d->d.ok=aF->Blk w (γ j) d.ty (V.cV γ d.cells)∨(Uf st ms).elem j=aF)->
  ∀j d,du (MD st ms g bx) j=Hg d->d.ok=aF->Blk w (γ j) d.ty (V.cV γ d.cells)
 | [],f,g,bx,_,_,_,_,c,j,d,b,o=>by
  have:MD st [] g bx=bx:=I;rcases c j d b o with a | a
  .exact a
  cases a
 | .s k m::r,f,[],bx,a,e,v,b,l,j,d,c,o=>by
  simp[sD]at a;split at a
  .simp at a;subst a;simp[V.cV]at v
  cases a
 | .s k n::r,f,v::g,bx,a,c,b,e,m,j,d,l,o=>by
  simp[sD]at a;split at a
  .rename_i v q p k;simp at a;subst a;simp[jz,H]at c;simp[V.cV,cu,Yu]at b;exact C8 R L h k c.2 b.2 e m j d l o
  cases a
 | .a k s::r,f,g,bx,a,e,v,b,l,j,d,c,o=>by
  simp[sD]at a;split at a
  .rename_i w x u p;obtain⟨k,rfl⟩:=Gy a;simp only[H]at k;have S:=dh k.2;obtain⟨q,m⟩:=vK e;rw[nE]at v;obtain⟨t,n⟩:=ug v S;exact C8 R L h p m n b l j d c o
  cases a
 | .b k s::r,f,g,bx,a,p,v,m,n,j,d,l,o=>by
  simp[sD]at a;split at a
  .rename_i q k;split at a
   .rename_i c B w x;obtain⟨A,rfl⟩:=Gy a;obtain⟨y,t⟩:=vK p;rw[nE]at v;obtain⟨z,u⟩:=ug v (dh A);simp[MD,k]at l;rcases hn:du bx q with _|b
    .rw[hn]at l;refine C8 R L h x t u m (λi b T e=>?_) j d l o;rcases n i b T e with c | c
     .exact .inl c
     simp only[Uf,k,xD]at c;split at c<;>grind
    rw[hn]at l;obtain⟨D,F,G,J⟩:=m q b hn;refine C8 R L h x t u (λi E C=>?_) (λi E C N=>?_) j d l o
    .rw[kj hn]at C
     grind
    rw[kj hn]at C;split at C
    .rename_i e;subst e;injection C with C;subst C;left;have q:D.ok=aF:=by rw[<-J];exact N
     obtain⟨M,b,K,k3⟩:=L i D F;rw[w]at b;injection b with b;subst b;rw[h i D F q,G,<-K,z,R.wv y];exact(R.bx i c w (k3.trans q)).blk
    rename_i c;rcases n i E C N with b | b
    .exact .inl b
    simp only[Uf,k,xD]at b;split at b<;>grind
   cases a
  cases a
def vL{J}(f:Rz st kp ms J s)(R:Rep β s a w)(P:s.mv=aM)(N:SZ st kp ms s){K}(M:I5 _ J K):
  ∃r,K r w/\Rep (LC st.bx) (ou st kp ms r w) a w:=by
 obtain⟨m,f⟩:=dT f;obtain⟨Y,t,f⟩:=bG f;obtain⟨B,f⟩:=dT f;simp only[H]at m;obtain⟨m,T⟩:=m;have W:s.df=st.df:=by
  obtain⟨a,l⟩:=N.df;simp_all
 rw[<-R.still P]at f;obtain⟨r,Q,V,k3,X⟩:=Ud f M;have L:∀i b,du st.bx i=Hg b->∃c,du s.bx i=Hg c/\c.ty=b.ty/\c.ok=b.ok:=λi b h=>by
  obtain⟨c,a,b,g,_⟩:=N.ps h;simp_all
 have A:∀i b,du st.bx i=Hg b->b.ok=aF->b.blk=Hg (β i):=λi b h o=>by
  obtain⟨s,_⟩:=GQ m.2 i b h o;obtain⟨c,a,q,g,p⟩:=N.ps h;rcases n:b.blk with _|k
  .rw[n]at s;cases s
  rw[(R.bx i c a (g.trans o)).at_ k (p k n)]
 have e:∀i b,du st.bx i=Hg b->b.ok=aF->LC st.bx i=β i:=λi b h o=>by
  unfold LC;rw[h];dsimp only;rw[A i b h o];rfl
 have C:∀i,I0 st.bx i=aF->LC st.bx i=β i:=λi z=>by
  unfold I0 at z;cases h:du st.bx i<;>simp_all
 have D:∀i d,du (MD st ms r st.bx) i=Hg d->d.ok=aF->∃b,du st.bx i=Hg b/\b.ok=aF/\d.blk=b.blk:=λi d h o=>by
  rcases hn:du st.bx i with _|b
  .rw[qu _ _ _ _ hn]at h;cases h
  obtain⟨a,c,g,k,p,_⟩:=jR (st:=st) ms r st.bx i b hn
  grind
 refine⟨r,Q,ub ⟨R.ok.sz.trans N.n,R.ok.df.trans (bK Ub W),λi p l z=>?_⟩,λi d h o=>?_,λi j E F u x y G S=>?_,EC _ _,λ_=>I⟩
 .simp[ou]at l;rw[wJ]at l;split at l
  .rename_i q a;simp at l;subst l;exact GR R t B (k3 _) i q a
  obtain⟨a,b⟩:=B0 l;obtain⟨k,v⟩:=p;obtain⟨J,c,q,s,w⟩:=aam m.1 i a k v b;have:=N.slot a b c q s;subst this;rw[R.ok.at_ i _ c (by rw[N.n];exact z)];congr 1;exact(jQ (g:=I0 st.bx) C _ w).symm
 .have s:=C8 R L e t B (k3 _) (bx:=st.bx) (λj b h=>⟨b,h,I,I⟩) (λj b h o=>by
   obtain⟨_,a⟩:=GQ m.2 j b h o;rw[bO]at a;rcases a with a | ⟨c,a,p,q⟩
   .exact .inr a
   cases l:(Uf st ms).elem j with
   | true=>exact .inr I
   | false=>
    left;obtain⟨J,k,v,w⟩:=L j b h;rw[a]at k;injection k with k;subst k;have:=(R.bx j c a (w.trans o)).blk;rw[e j b h o,<-v,iY (g:=I0 st.bx) C _ q,<-N.cells h a o l p];exact this) i d h o
  obtain⟨b,u,x,y⟩:=D i d h o;refine⟨s,λk n=>?_,λn=>?_⟩
  .grind
  rw[y,A i b u x]at n;cases n
 obtain⟨b,a,g,_⟩:=D i E u y;obtain⟨c,f1,f2,_⟩:=D j F x G;obtain⟨d,p,_,q⟩:=L i b a;obtain⟨k,s,_,v⟩:=L j c f1;rw[e i b a g,e j c f1 f2];exact R.ne i j d k p s (q.trans g) (v.trans f2) S
end
def cj(S:Nat->Prop)(w a:aw):Prop:=∀k,S k->k<w.heap.size->a.heap[k]? =w.heap[k]?
def cj.refl S w:cj S w w:=λ_ _ _=>I
def VX:=@cj.refl
def cj.only{S}{w w'}(h:Only [] w w'):cj S w w':=λk _ a=>h.block k a R
def VI:=@cj.only
def qV(S:Nat->Prop)(k:Nat):Prop:=¬S k
def EE(P:Program)(o:X Oper)(m s:L)(S:Nat->Prop)(j:Nat)(w a:aw):Prop:=match iB o j with
 | some b=>bif lj P b.op then a.heap=w.heap else bif m&&(s||!C6 b.op)then cj S w a else True
 | none=>False
def XB(m s:L)(S:Nat->Prop)(o:Op):XT:=λw a p=>bif m&&(s||!C6 o)then cj S w a/\p else p
def YB(m s:L)(S:Nat->Prop):YT:=λb p=>bif m&&s then(match b with
 | some k=>qV S k/\p
 | none=>False)else p
def uh(P:Program):Nat->X Oper->X Nat
 | _,[]=>[]
 | i,o::r=>bif lj P o.op then uh P (i+1) r else i::uh P (i+1) r
def acM(q:Nat)(seen:X Nat):X Edge->L
 | []=>aM
 | e::r=>(Region.binds .any e&&(Nat.beq e.on q||seen.elem e.on))||acM q seen r
def Ug(q:Nat):Nat->X Nat->X Oper->X Nat
 | _,s,[]=>s
 | i,s,o::r=>bif acM q s o.after.toList then Ug q (i+1) (i::s) r else Ug q (i+1) s r
def Yx(b:Array L):Nat->X Oper->X Nat
 | _,[]=>[]
 | i,_::r=>bif b.getD i aF then i::Yx b (i+1) r else Yx b (i+1) r
def RA(D N:X Nat):X Nat->X Nat
 | []=>[]
 | j::r=>bif D.elem j||N.elem j then RA D N r else j::RA D N r
def Oo(o:X Oper):X Nat->L
 | []=>aF
 | j::r=>(match iB o j with
  | some a=>!C6 a.op
  | none=>aM)&&Oo o r
def Dq(o:X Oper)(q:Nat):X Nat:=(Ug q 0 [] o).reverse
def Qt(P:Program)(o:X Oper)(b:Array L)(q:Nat):X Nat:=RA (Dq o q) (Yx b 0 o) (uh P 0 o)
def Qr{a:Type}:X a->L
 | []=>aF
 | _=>aM
def N8(o:X Oper)(b:Array L)(q:Nat):L:=
 Region.noSelect o.toArray&&Region.free .any o.toArray b q&&wF .any o.toArray b&&tX .any o.toArray q [] (Dq o q)&&(Yx b 0 o).all (λk=>b.getD k aF)
def ZS(st:St)(o:X Oper)(a:Oper)(y n:St->Prop):Prop:=match a.guard with
 | none=>y st
 | some (j,want)=>(match U9 st o j with
  | some (_,.un)=>n st
  | some (_,.bl b)=>bif b==want then y st else n st
  | some (d,.bt t)=>((t=aF->bif aF==want then y (st.put (Hg d) (.bl aF))else n (st.put (Hg d) (.bl aF)))/\
   (t=aM->bif aM==want then y (st.put (Hg d) (.bl aM))else n (st.put (Hg d) (.bl aM))))
  | _=>False)
def ldB(P:Program)(S:Nat->Prop)(st:St)(t:TypeId)(a:SV)(K:SV->Prop):Prop:=match P.underlying t with
 | none=>False
 | some d=>(match a with
  | .box i o=>cw (du st.bx i) λb=>bif b.ok&&b.blk.isSome&&sz P t (Z8 ((b.cells.drop o).take (xT P t)))&&(oo d||Nat.beq (Z8 ((b.cells.drop o).take (xT P t))) 1)then S (b.blk.getD 0)/\K (Rs (oo d) ((b.cells.drop o).take (xT P t)))else False
  | .ad p=>bif !st.mv&&sz P t (Z8 (TR P 12 t))&&(oo d||Nat.beq (Z8 (TR P 12 t)) 1)then S p.block/\ZA (TR P 12 t) λv=>Cells st.w0 p (cV β0 v)/\K (Rs (oo d) v)else False
  | _=>False)
def cvB(P:Program)(S:Nat->Prop)(st:St)(s d:TypeId)(a:SV)(K:SV->Prop):Prop:=match P.underlying s,P.underlying d with
 | some (.slice e),Hg .string=>(match P.underlying e with
  | some (.int .u8)=>cw (N9 a) λu=>bif st.mv then False else ∃l,(∀ad,u.a=Hg ad->S ad.block)/\uN st.w0 u l/\K (.str ⟨l.toArray⟩)
  | _=>False)
 | _,_=>False
def aj1(P:Program):Op->L
 | .load _ _=>aF
 | .convert s d _=>(match P.underlying s,P.underlying d with
  | some (.slice _),Hg .string=>aF
  | _,_=>aM)
 | _=>aM
def cvI(P:Program):Op->L
 | .convert s d _=>(match P.underlying s,P.underlying d with
  | some (.int _),Hg (.int _)=>aF
  | some .string,Hg .string=>aF
  | _,_=>aM)
 | _=>aM
def cvZ(P:Program)(s d:TypeId)(a:SV)(K:SV->Prop):Prop:=match P.underlying s,P.underlying d with
 | some (.int _),Hg (.int kd)=>cw (sw a) λp=>K (.int kd (kd.wrap p.2))
 | some .string,Hg .string=>cw (xS a) λu=>K (.str u)
 | _,_=>False
def qP(P:Program)(p:X Oper)(m c:L)(S:Nat->Prop)(b:Array L)(q:Nat)(o:Oper)(st:St)(K:St->Prop):Prop:=
 bif lj P o.op then
  bif cvI P o.op then(match o.op with
   | .convert s d x=>cw (st.ev x) λa=>cvZ P s d a λv=>K (st.put o.dst v)
   | _=>False)
  else bif !mem o.op||Qr (Qt P p b q)then Gk (nd P st o.op) st λst=>RQ P [] st o.op λv=>K (st.put o.dst v)
  else bif m&&(c||Oo p (Qt P p b q))then(match o.op with
   | .load t x=>Gk (nd P st o.op) st λst=>cw (st.ev x) λa=>ldB P S st t a λv=>K (st.put o.dst v)
   | .convert s d x=>Gk (nd P st o.op) st λst=>cw (st.ev x) λa=>cvB P S st s d a λv=>K (st.put o.dst v)
   | _=>False)else False
 else False
def fq(P:Program)(o:X Oper):X Nat->Option Nat
 | []=>ZQ
 | i::r=>match iB o i with
  | some a=>bif lj P a.op then Hg i else fq P o r
  | none=>ZQ
def I7(P:Program)(o:X Oper)(m s:L)(S:Nat->Prop):Nat->Array L->St->(St->Prop)->Prop
 | 0,b,st,K=>(match Region.ready .any o.toArray b with
  | []=>K st
  | _=>False)
 | g+1,b,st,K=>(match Region.ready .any o.toArray b with
  | []=>K st
  | i::r=>(match fq P o (i::r)with
   | some q=>cw (iB o q) λa=>bif N8 o b q&&(i::r).contains q then
    ZS st o a (λst=>qP P o m s S b q a st λst=>I7 P o m s S g (b.setIfInBounds q aF) st K) (λst=>I7 P o m s S g (b.setIfInBounds q aF) (st.put a.dst .un) K)else False
   | none=>(match r with
    | []=>cw (iB o i) λa=>bif lj P a.op then False else
     ZS st o a (λst=>loud P (XB m s S a.op) (YB m s S) st a λst=>I7 P o m s S g (b.setIfInBounds i aF) st K) (λst=>I7 P o m s S g (b.setIfInBounds i aF) (st.put a.dst .un) K)
    | [j]=>cw (iB o i) λa=>cw (iB o j) λc=>bif lj P a.op||lj P c.op then False else
     ZS st o a (λst=>loud P (XB m s S a.op) (YB m s S) st a λst=>I7 P o m s S g (b.setIfInBounds i aF) st K) (λst=>I7 P o m s S g (b.setIfInBounds i aF) (st.put a.dst .un) K)/\
     ZS st o c (λst=>loud P (XB m s S c.op) (YB m s S) st c λst=>I7 P o m s S g (b.setIfInBounds j aF) st K) (λst=>I7 P o m s S g (b.setIfInBounds j aF) (st.put c.dst .un) K)
    | _=>False)))
def Oh(P:Program)(o:X Oper):Nat->X Oper->L
 | _,[]=>aM
 | i,a::r=>(bif aj1 P a.op then(uh P 0 o).any λj=>!(Dq o i).elem j&&!(Dq o j).elem i
  else aM)||Oh P o (i+1) r
def ZC(P:Program)(o:X Oper):Nat->X Oper->L
 | _,[]=>aM
 | i,a::r=>(bif aj1 P a.op then(uh P 0 o).any λj=>!(Dq o i).elem j&&!(Dq o j).elem i&&(match iB o j with
   | some b=>C6 b.op
   | none=>aM)
  else aM)||ZC P o (i+1) r
section
variable {P:Program} {ops:X Oper} {mb ms:L} {S:Nat->Prop} {β:Nat->Nat} {a:Act} {w:aw}
def C9{st}{o}{yes no}(h:ZS st ops o yes no)(R:Rep β st a w):
  ∃s,Ext st s/\Rep β s a w/\((Region.wanted o (yielded ops.toArray a.tmps)=aF/\yes s)∨(Region.wanted o (yielded ops.toArray a.tmps)=aM/\no s)):=by
 unfold ZS at h;split at h
 .rename_i g;exact⟨st,VY _,R,.inl ⟨wn g,h⟩⟩
 rename_i j w g;split at h
 .rename_i d t;exact⟨st,VY _,R,.inr ⟨Ao R g t,h⟩⟩
 .rename_i d b t;have a:=sA R g t (b:=b) I;rcases qt h with⟨e,h⟩ | ⟨e,h⟩
  .exact⟨st,VY _,R,.inl ⟨a.trans e,h⟩⟩
  exact⟨st,VY _,R,.inr ⟨a.trans e,h⟩⟩
 .rename_i d t a;obtain⟨o,L,c,T⟩:=CT a;have e:=sA R g a (b:=t) I;cases t
  .refine⟨_,Nr _ _ (.bl aM),R.set T I,?_⟩
   grind
  refine⟨_,Nr _ _ (.bl aF),R.set T I,?_⟩
  grind
 exact h.elim
def ME{st:St}{d}{t}{x}{l}{ad}{w'}(b:P.underlying t=Hg d)(h:sz P t (Z8 l)=aF)(n:oo d=aF∨Nat.beq (Z8 l) 1=aF)
  (Q:a.eval x=.pointer (Hg ad)) (C:Cells w' ad (cV β l)) dst t' p af g:
  (execOp a.eval ⟨dst,.load t x,t',p,af,g⟩).run P w'=.ok (.value (val β (Rs (oo d) l))) w':=by
 rcases n with u | n
 .rw[rj u];have:=mz (P:=P) b w';rw[u]at this;exact wE this (rN h w') (gu β l) Q C
 cases u:oo d
 .obtain⟨s,rfl⟩:=CS n;have:=mz (P:=P) b w';rw[u]at this;exact Gi this Q (Zy C)
 have e:=rj u β l;rw[u]at e;rw[e];have:=mz (P:=P) b w';rw[u]at this;exact wE this (rN h w') (gu β l) Q C
def xU:∀{l:X Oper} {i j:Nat} {o:Oper},iB l j=Hg o->lj P o.op=aM->i+j∈uh P i l
 | [],_,_,_,h,_=>Rl
 | c::r,i,0,o,h,p=>by
  simp[iB]at h;subst h;simp[uh,p]
 | c::r,i,j+1,o,h,p=>by
  have:=xU (l:=r) (i:=i+1) (j:=j) h p;rw[show i+1+j=i+(j+1) by omega]at this;simp[uh]
  grind
def yS{D N}:∀{l:X Nat} {j:Nat},j∈l->j∉D->j∉N->j∈RA D N l
 | c::r,j,h,a,b=>by
  simp only[RA];rcases aZ.1 h with rfl | h
  .grind
  cases(D.elem c||N.elem c)with
  | true=>exact yS h a b
  | false=>exact dw _ (yS h a b)
def I8:∀{l:X Nat} {j:Nat} {o:Oper},Oo ops l=aF->j∈l->iB ops j=Hg o->C6 o.op=aM
 | [],j,o,_,h,_=>by cases h
 | c::r,j,o,a,h,b=>by
  simp[Oo]at a;rcases aZ.1 h with d | h
  .simp_all
  exact I8 a.2 h b
def Sta(P:Program)(o:X Oper)(m s:L)(S:Nat->Prop)(D N:X Nat)(F:aw->Prop):Prop:=∀j w a,j∉D->j∉N->F w->EE P o m s S j w a->F a
def acO{bI}{q}{o}{st}{K}(h:qP P ops mb ms S bI q o st K)(R:Rep β st a w):
  ∃(v:ay) (i:St) (F:aw->Prop),K i/\Ext st i/\Rep β i (a.put o.dst v) w/\F w/\Sta P ops mb ms S (Dq ops q) (Yx bI 0 ops) F/\lj P o.op=aF/\∀f,F f->(execOp a.eval o).run P f=.ok (.value v) f:=by
 rcases qt h with⟨g,h⟩ | ⟨_,h⟩
 case inr=>exact h.elim
 rcases qt h with⟨_,h⟩ | ⟨_,h⟩
 .obtain⟨t,op,c,p,a,b⟩:=o;cases op with
  | convert s d x=>
   dsimp only at h;obtain⟨l,j,e⟩:=bG h;unfold cvZ at e;split at e
   .rename_i s o d m;obtain⟨⟨k,n⟩,h,e⟩:=bG e;exact⟨_,_,λ_=>True,e,Nr _ _ _,R.put _ _,trivial,λ_ _ _ _ _ _ _=>trivial,g,λf _=>E6 (run_underlying d f) (run_underlying m f) ((R.ev j).trans (dH h β))⟩
   .rename_i d k;obtain⟨u,h,e⟩:=bG e;exact⟨_,_,λ_=>True,e,Nr _ _ _,R.put _ _,trivial,λ_ _ _ _ _ _ _=>trivial,g,λf _=>adU (run_underlying d f) (run_underlying k f) ((R.ev j).trans (jA h β))⟩
   exact e.elim
  | _=>exact h.elim
 rcases qt h with⟨l,h⟩ | ⟨l,h⟩
 .obtain⟨t,k,b,s,_⟩:=Au h R;obtain⟨v,c,y⟩:=Mu k;have y:=y trivial β a w s;obtain⟨d,op,u,p,n,r⟩:=o;cases m:mem op
  .exact⟨val β v,_,λ_=>True,c,b.trans (Nr _ _ _),s.put _ v,trivial,λ_ _ _ _ _ _ _=>trivial,g,λf _=>y _ _ _ _ _ f λe=>by rw[m]at e;cases e⟩
  have a:=by simpa[m]using l
  refine⟨val β v,_,λf=>f.heap=w.heap,c,b.trans (Nr _ _ _),s.put _ v,I,λp x z D N o h=>?_,g,λf o=>y _ _ _ _ _ f λ_=>o⟩;unfold EE at h;split at h
  .rename_i w v;rcases qt h with⟨_,e⟩ | ⟨e,_⟩
   .exact e.trans o
   have:=yS (by have:=xU (i:=0) v e;rwa[bO]at this) D N;unfold Qt at a;revert a this;generalize RA (Dq ops q) (Yx bI 0 ops) (uh P 0 ops)=A;intro a this;cases A with
   | nil=>cases this
   | cons=>cases a
  exact h.elim
 obtain⟨n,h⟩:=dT h;simp only[H]at n;obtain⟨r,op,A,p,z,u⟩:=o;have y:∀F:aw->Prop,∀k:Nat,S k->(∀w a:aw,F w->a.heap[k]? =w.heap[k]? ->F a)->(∀w,F w->k<w.heap.size)->Sta P ops mb ms S (Dq ops q) (Yx bI 0 ops) F:=by
  intro F k m Q c d w a D N b h;unfold EE at h;split at h
  .rename_i p o;rcases qt h with⟨_,e⟩ | ⟨e,h⟩
   .exact Q w a b UK
   have:=yS (by have:=xU (i:=0) o e;rwa[bO]at this) D N;have s:(ms||!C6 p.op)=aF:=by
    rcases dq _ _▸n.2 with e | e
    .rw[e];rfl
    rw[I8 e this o,E5,oQ]
   rw[n.1,s]at h;exact Q w a b (h k m (c _ b))
  exact h.elim
 cases op with
 | load t x=>
  dsimp only at h;obtain⟨B,c,o,s,_⟩:=Au h R;obtain⟨q,p,c⟩:=bG c;unfold ldB at c;split at c
  .exact c.elim
  rename_i d x;split at c
  .rename_i j off;obtain⟨b,D,c⟩:=bG c;obtain⟨C,S,K⟩:=dT c;simp only[H,dq]at C;obtain⟨⟨⟨J,T⟩,v⟩,G⟩:=C;have h:=s.bx j b D J;have E:=h.blk;have d:b.blk.getD 0=β j:=by
    rcases m:b.blk with _|k
    .rw[m]at T;cases T
    rw[h.at_ k m];rfl
   rw[d]at S;have Q:=s.ev p;refine⟨_,_,λf=>Blk f _ b.ty _,K,o.trans (Nr _ _ _),s.put _ _,E,y _ _ S (λw a L e=>by unfold Blk at L⊢;rw[e];exact L) (λw L=>L.lt),g,λf L=>?_⟩;generalize N:(b.cells.drop off).take (xT P t)=V at*
   have M:Cells f ⟨β j,off,ZQ⟩ (cV β V):=L.HU off _ (by
    rw[gu,<-N];simp only[cV,lh,Ag];rw[cf,se];simp only[bZ,bQ];omega)
   exact ME (st:=st) x v G Q M _ _ _ _ _
  .rename_i ad;obtain⟨D,J,G⟩:=dT c;simp only[H,dq,ey]at D;obtain⟨⟨Z,d⟩,t⟩:=D;obtain⟨C,⟨b,K⟩,S,L⟩:=vG G;rw[<-s.still Z]at b;have E:∀f,Cells f ad _->Cells f ad (cV β C):=λf h=>by
    rw[iY (β:=β) (β':=β0) (g:=λ_=>aM) (λj h=>Rl) C (L _)];exact h
   rw[<-S]at d t;by_cases k:cV β0 C=[]
   .refine⟨_,_,λ_=>True,K,o.trans (Nr _ _ _),s.put _ _,trivial,λ_ _ _ _ _ _ _=>trivial,g,λf _=>?_⟩;exact ME (st:=st) x d t (s.ev p) (E f (by rw[k];intro e v h;simp at h)) _ _ _ _ _
   exact⟨_,_,λf=>Cells f ad _,K,o.trans (Nr _ _ _),s.put _ _,b,y _ ad.block J (λw a b e=>b.keep e) (λw b=>b.lt' k),g,λf b=>ME (st:=st) x d t (s.ev p) (E f b) _ _ _ _ _⟩
  exact c.elim
 | convert s d x=>
  dsimp only at h;obtain⟨q,b,o,k,_⟩:=Au h R;obtain⟨t,p,b⟩:=bG b;unfold cvB at b;split at b
  .rename_i e h d;split at b
   .rename_i S;obtain⟨x,v,b⟩:=bG b;cases s:q.mv
    .rw[s]at b;obtain⟨C,G,D,K⟩:=b;rw[<-(k.still s)]at D;refine⟨_,_,λf=>uN f x C,K,o.trans (Nr _ _ _),k.put _ _,D,?_,g,λf E=>CL h S d ((k.ev p).trans (lJ v β)) E⟩;by_cases B:C=[]
     .subst B;exact λe w a _ _ Q _=>⟨Q.1,λc=>absurd I c⟩
     obtain⟨ad,J,_⟩:=D.2 B;refine y _ ad.block (G ad J) (λw a Q e=>⟨Q.1,λL=>?_⟩) (λw Q=>?_)
     .obtain⟨M,N,c⟩:=Q.2 L;rw[J]at N;injection N with N;subst N;exact⟨ad,J,c.keep e⟩
     obtain⟨M,N,e⟩:=Q.2 B;rw[J]at N;injection N with N;subst N;exact e.lt' (by cases C with
      | nil=>exact absurd I B
      | cons c C=>simp)
    rw[s]at b;exact b.elim
   exact b.elim
  exact b.elim
 | _=>exact h.elim
def ui{j}{o}(h:iB ops j=Hg o) w:EE P ops mb ms S j w w:=by
 unfold EE;rw[h];dsimp only;cases lj P o.op
 .cases(mb&&_)with
  | true=>exact VX _ _
  | false=>exact trivial
 rfl
def I9{Q}{j}{o}{st}{K}(i:iB ops j=Hg o)(l:lj P o.op=aM)(e:loud P (XB mb ms S o.op) (YB mb ms S) st o K)(R:Rep β st a w):o.wp P a w (Nj (EE P ops mb ms S j) st K w) Q:=by
 have h:EE P ops mb ms S j=λw g=>bif mb&&(ms||!C6 o.op)then cj S w g else True:=by
  unfold EE;simp_all
 refine GN (λm c p x=>?_) (λw c b=>?_) (λs d k w c p y f b=>?_) e R
 .rw[h];unfold XB at x
  grind
 .rw[h];cases(mb&&_)with
  | true=>exact VI b
  | false=>exact trivial
 rw[h];rw[s,Bool.not_true,Iz];unfold YB at y;cases a:(mb&&ms)with
 | true=>
  rw[a]at y;rcases d with _|j
  .exact y.elim
  refine⟨y.2,λq k T=>b.block q T ?_⟩;have:=f j I;subst this;simp;rintro rfl;exact y.1 k
 | false=>rw[a]at y;exact⟨y,trivial⟩
def vM{Q}(h:∀c a w,¬Q (.panic c) a w):∀{g:Nat} {e:Array L} {st:St} {i:St->Prop} {β:Nat->Nat} {a:Act} {w:aw},I7 P ops mb ms S g e st i->Rep β st a w->
  (∀f j d b,i j->Ext st j->Rep f j d b->Q .normal d b)->gf P .any ops.toArray Q (EE P ops mb ms S) g e a w
 | 0,e,st,i,β,a,w,c,R,k=>by
  unfold I7 at c;split at c
  .rename_i r;exact⟨r,k β st a w c (VY _) R⟩
  exact c.elim
 | g+1,e,st,i,β,a,w,k,R,m=>by
  have n:∀{l:Nat} {o:Oper},iB ops l=Hg o->lj P o.op=aM->
    ZS st ops o (λst=>loud P (XB mb ms S o.op) (YB mb ms S) st o λst=>I7 P ops mb ms S g (e.setIfInBounds l aF) st i) (λst=>I7 P ops mb ms S g (e.setIfInBounds l aF) (st.put o.dst .un) i)->
    if Region.wanted o (yielded ops.toArray a.tmps)then o.wp P a w (λd b=>EE P ops mb ms S l w b/\gf P .any ops.toArray Q (EE P ops mb ms S) g (e.setIfInBounds l aF) d b) Q∨(o.asks P a w/\LetsOut Q)
    else(λd b=>EE P ops mb ms S l w b/\gf P .any ops.toArray Q (EE P ops mb ms S) g (e.setIfInBounds l aF) d b) (a.put o.dst undef) w:=by
   intro l o r u k;obtain⟨s,q,t,c⟩:=C9 k R;rcases c with⟨p,c⟩ | ⟨p,c⟩
   .rw[K p];refine .inl (Oper.wp_mono ?_ (I9 r u c t));rintro d b ⟨f,j,v,w,k3,x⟩;exact⟨k3,vM h v x λa B s C y z A=>m a B s C y ((q.trans w).trans z) A⟩
   rw[W (by simp[p])];exact⟨ui r w,vM h c (t.put o.dst .un) λa B s z v x y=>m a B s z v ((q.trans (Nr _ _ _)).trans x) y⟩
  unfold I7 at k;split at k
  .rename_i r;exact aeX r (m β st a w k (VY _) R)
  rename_i p t r;split at k
  .rename_i q M;obtain⟨o,x,k⟩:=bG k;obtain⟨G,k⟩:=dT k;simp only[H,N8]at G;obtain⟨⟨⟨⟨⟨z,A⟩,B⟩,C⟩,D⟩,E⟩:=G;obtain⟨s,F,J,u⟩:=C9 k R;rcases u with⟨y,u⟩ | ⟨y,u⟩
   .obtain⟨v,s2,Q,Z,k2,k3,k4,k5,k6,k7⟩:=acO u J;have X:∀s,Q s->EE P ops mb ms S q s s:=λs _=>ui x s;exact Mm q _ _ v Q x z A (by rw[r];exact E) B C D (λc a w Y=>(h _ _ _ Y).elim) k5 X k4 (acw y k7) I
     (vM h Z k3 λN T V w2 m1 m2 m3=>m N T V w2 m1 ((F.trans k2).trans m2) m3)
   exact Mm q _ _ undef _ x z A (by rw[r];exact E) B C D (λc a w s=>(h _ _ _ s).elim) (λ_ _ _ _ _ _ _=>trivial) (λv _=>ui x v) trivial (Wc y) I
    (vM h u (J.put o.dst .un) λa c q Q w N P=>m a c q Q w ((F.trans (Nr _ _ _)).trans N) P)
  split at k
  .obtain⟨o,a,k⟩:=bG k;rcases qt k with⟨_,k⟩ | ⟨c,k⟩
   .exact k.elim
   obtain⟨s,v,x,q⟩:=C9 k R;rcases q with⟨u,q⟩ | ⟨u,q⟩
   .refine ajJ p a r u (Oper.wp_mono ?_ (I9 a c q x));rintro d b ⟨f,j,y,z,k3,A⟩;exact⟨k3,vM h y A λs B w F C D E=>m s B w F C ((v.trans z).trans D) E⟩
   exact abv p a r u (ui a w) I (vM h q (x.put o.dst .un) λs B y D z A C=>m s B y D z ((v.trans (Nr _ _ _)).trans A) C)
  .rename_i l _;obtain⟨o,c,k⟩:=bG k;obtain⟨q,T,k⟩:=bG k;rcases qt k with⟨_,k⟩ | ⟨a,k⟩
   .exact k.elim
   simp at a;exact ajK p l c T r (n c a.1 k.1) (n T a.2 k.2)
  exact k.elim
end
def oa(s w a:aw):Prop:=w.heap.size<=a.heap.size/\∀k,s.heap.size<=k->k<w.heap.size->a.heap[k]? =w.heap[k]?
def yT(mk:X (Nat×Nat))(b:Nat):Prop:=∀p∈mk,b<p.1∨p.2<=b
def oa.only{bs}{ws w w'}(h:Only bs w w')(d:∀b∈bs,b<ws.heap.size∨w.heap.size<=b):oa ws w w':=
 ⟨h.size,λk c a=>h.block k a λe=>RZ⟩
def oa.KZ{ws w w'}(h:Only [] w w'):oa ws w w':=oa.only h R
def yT.one{m n b}{r}(h:yT ((m,n)::r) b):b<m∨n<=b:=h _ eW
structure LZ where
 z:Nat
 d:Nat
 t:TypeId
 zs:List SV
def xV(P:Program)(z:Nat)(o:Oper):Option LZ:=match o.op,o.dst,o.guard with
 | .alloc t,Hg d,ZQ=>(match zc P t with
  | some s=>bif Qr o.after.toList&&jz (λ_=>aM) s then Hg ⟨z,d,t,s⟩else ZQ
  | none=>ZQ)
 | _,_,_=>ZQ
def mW(P:Program):Nat->X Oper->X LZ
 | _,[]=>[]
 | i,o::r=>match xV P i o with
  | some p=>p::mW P (i+1) r
  | none=>mW P (i+1) r
def pZ:X LZ->X Nat
 | []=>[]
 | p::r=>p.z::pZ r
def CK:X LZ->X Nat
 | []=>[]
 | p::r=>p.d::CK r
def Ja(z d:Nat):Nat->X Oper->L
 | _,[]=>aF
 | i,o::r=>(Nat.beq i z||(match o.dst with
  | some e=>!Nat.beq e d
  | none=>aF))&&Ja z d (i+1) r
def Ng(o:X Oper):X LZ->L
 | []=>aF
 | p::r=>Ja p.z p.d 0 o&&Ng o r
def ai1{α}:∀{l:X α},Qr l=aF->l=[]
 | [],_=>rfl
def ov{P}{z}{o}{p}(h:xV P z o=Hg p):p.z=z/\o.op=.alloc p.t/\o.dst=Hg p.d/\o.guard=ZQ/\o.after.toList=[]/\zc P p.t=Hg p.zs/\jz (λ_=>aM) p.zs=aF:=by
 unfold xV at h;split at h
 .rename_i t d a b c;split at h
  .rename_i s z;obtain⟨d,rfl⟩:=Gy h;simp at d;exact⟨I,a,b,c,ai1 d.1,z,d.2⟩
  cases h
 cases h
def qc{Z}{z}:z∈pZ Z↔∃p∈Z,p.z=z:=by
 induction Z with
 | nil=>simp[pZ]
 | cons p r i=>simp[pZ,i,eq_comm (a:=z)]
def Da{P}:∀{l:X Oper} {i:Nat} {p:LZ},p∈mW P i l->∃j o,p.z=i+j/\iB l j=Hg o/\xV P p.z o=Hg p
 | [],i,p,h=>Rl
 | o::r,i,p,h=>by
  have t:p∈mW P (i+1) r->∃j a,p.z=i+j/\iB (o::r) j=Hg a/\xV P p.z a=Hg p:=λh=>by
   obtain⟨j,a,d,b,c⟩:=Da h;exact⟨j+1,a,J,b,c⟩
  unfold mW at h;split at h
  .rename_i q b;rcases aZ.1 h with rfl | h
   .have:=(ov b).1;exact⟨0,o,this,I,by rw[this];exact b⟩
   exact t h
  exact t h
def Db{P}:∀{l:X Oper} {i:Nat},(pZ (mW P i l)).Nodup
 | [],i=>by simp[mW,pZ]
 | o::r,i=>by
  unfold mW;split
  .rename_i q a;have e:=(ov a).1;simp[pZ];refine⟨λm=>?_,Db⟩;obtain⟨p,h,b⟩:=qc.1 m;obtain _:=Da h;omega
  exact Db
def ad2{z d}:∀{l:X Oper} {i j:Nat} {o:Oper},Ja z d i l=aF->iB l j=Hg o->i+j≠z->o.dst≠Hg d:=by
 intro l
 induction l with
 | nil=>intro i j o _ h;cases h
 | cons c r b=>
  intro i j o h a z;simp only[Ja,H,dq]at h;cases j with
  | zero=>
   simp[iB]at a;intro e;simp_all
  | succ j=>exact b (i:=i+1) (j:=j) h.2 a J
def Uj{ops}:∀{Z:X LZ},Ng ops Z=aF->∀p∈Z,Ja p.z p.d 0 ops=aF
 | q::r,h,p,a=>by
  simp[Ng]at h;rcases aZ.1 a with rfl | a
  .exact h.1
  exact Uj h.2 p a
def fK(l:Array L):X Nat->Array L
 | []=>l
 | z::r=>fK (l.setIfInBounds z aF) r
def sz0(l:Array L) i j:(l.setIfInBounds i aF).setIfInBounds j aF=(l.setIfInBounds j aF).setIfInBounds i aF:=by
 by_cases h:i=j
 .subst h;rfl
 exact Array.setIfInBounds_comm _ _ h
def qv:∀{D:X Nat} {l:Array L} {z:Nat},fK (l.setIfInBounds z aF) D=(fK l D).setIfInBounds z aF
 | [],_,_=>rfl
 | d::r,l,z=>by simp[fK,sz0,qv]
def ab4{D E}(h:D.Perm E):∀l,fK l D=fK l E:=by
 induction h with
 | nil=>intro l;rfl
 | cons x _ i=>intro l;exact i _
 | swap x y r=>intro l;simp[fK];rw[sz0]
 | trans _ _ a b=>intro l;exact(a l).trans (b l)
def sE:∀{D:X Nat} {l:Array L} {k:Nat},(fK l D).getD k aM=aF↔l.getD k aM=aF∨(k∈D/\k<l.size)
 | [],l,k=>by simp[fK]
 | d::r,l,k=>by
  simp only[fK];rw[sE];by_cases h:d=k
  .subst h;by_cases s:d<l.size
   .simp[s]
   simp[s]
  simp[agW h,Ne.symm h]
def qw:∀{D:X Nat} {l:Array L} {k:Nat},(fK l D).getD k aF=aF↔l.getD k aF=aF∨k∈D
 | [],l,k=>by simp[fK]
 | d::r,l,k=>by
  simp only[fK];rw[qw];by_cases h:d=k
  .simp_all
  simp[agW h,Ne.symm h]
def EJ(Z:X Nat):X Nat->X Nat
 | []=>[]
 | j::r=>bif Z.elem j then EJ Z r else j::EJ Z r
def sF{Zi}:∀{l:X Nat} {j:Nat},j∈EJ Zi l↔j∈l/\j∉Zi
 | [],j=>by simp[EJ]
 | c::r,j=>by
  simp only[EJ];cases h:Zi.elem c
  .simp[sF]
   grind
  simp only[cond_true,sF,aZ]
  grind
def Oq(Z R:X Nat):X Nat->L
 | []=>aF
 | j::r=>(R.elem j&&!Z.elem j)&&Oq Z R r
def Jd{Zi R}:∀{l:X Nat},Oq Zi R l=aF->∀j∈l,j∈R/\j∉Zi
 | c::r,a,j,h=>by
  simp[Oq]at a;rcases aZ.1 h with rfl | h
  .grind
  exact Jd a.2 j h
def yU(l:Array L):X Nat->L
 | []=>aF
 | z::r=>!l.getD z aF&&yU l r
def Bg{l}:∀{Z:X Nat},yU l Z=aF->∀z∈Z,l.getD z aF=aM
 | c::r,h,z,a=>by
  simp only[yU,H,ey]at h;rcases aZ.1 a with rfl | a
  .exact h.1
  exact Bg h.2 z a
def Jp(o:X Oper)(Z:X Nat)(l:Array L):L:=Oq Z (Region.ready .any o.toArray l) (Region.ready .any o.toArray (fK l Z))
def Ot(z:Nat):X Nat->L
 | []=>aF
 | j::r=>Nat.beq j z&&Ot z r
def ag8{z}:∀{l:X Nat},Ot z l=aF->∀j∈l,j=z
 | c::r,a,j,h=>by
  simp only[Ot,H]at a;rcases aZ.1 h with rfl | h
  .simp_all
  exact ag8 a.2 j h
def ZT(o:X Oper)(l:Array L)(Z:X Nat):X Nat->L
 | []=>aF
 | z::r=>Ot z (Region.ready .any o.toArray (fK l (Z.erase z)))&&ZT o l Z r
def Ou{ops}{l}{Zi}:∀{r:X Nat},ZT ops l Zi r=aF->∀z∈r,∀j∈Region.ready .any ops.toArray (fK l (Zi.erase z)),j=z
 | c::r,h,z,a=>by
  simp[ZT]at h;rcases aZ.1 a with rfl | a
  .exact ag8 h.1
  exact Ou h.2 z a
section
variable {md:Region.Mode} {ops:Array Oper}
def Av{l}{D E}(s:∀x∈D,x∈E){j}(h:j∈Region.ready md ops (fK l D))(d:j∉E):j∈Region.ready md ops (fK l E):=by
 rw[mem_ready]at h⊢;obtain⟨a,f,o,g⟩:=h;refine⟨?_,f,o,λe c b=>?_⟩
 .rw[io]at a⊢;intro e;rcases qw.1 e with e | e
  .exact a (qw.2 (.inl e))
  exact d e
 rcases sE.1 (g e c b)with i | i
 .exact sE.2 (.inl i)
 exact sE.2 (.inr ⟨s _ i.1,i.2⟩)
def ai0{l}(b:tW md ops l){D}(c:∀z∈D,∀o,ops[z]? =Hg o->o.after.toList=[]):tW md ops (fK l D):=by
 intro k o a g e f d;rcases sE.1 g with h | h
 .exact sE.2 (.inl (b k o a h e f d))
 have:=c k h.1 o a;simp_all
end
def afm{P}{o:Oper}{a}{w}{K}{Q}(h:o.wp P a w K Q):
  o.wp P a w (λc b=>K c b/\∀i,o.dst≠Hg i->c.tmps[i]? =a.tmps[i]?) Q:=by
 unfold Oper.wp at*
 generalize (execOp a.eval o).run P w=r at*
 cases r with
 | ok n b=>
  cases n
  case value v=>exact⟨h,(lW _ _ _).2.2⟩
  case skip=>exact⟨h,(lW _ _ _).2.2⟩
  case defer d=>exact⟨h,(lW _ _ _).2.2⟩
  case enter f args=>
   refine Calls.mono h (λe t a=>?_);cases e with
   | returned v=>exact⟨a,(lW _ _ _).2.2⟩
   | _=>exact a
  case row n args=>exact Rows.mono h (λv t a=>⟨a,(lW _ _ _).2.2⟩)
  all_goals exact h
 | halt x b=>cases x<;>simp[Oper.upon]at h⊢ <;>exact h
structure Late (Z:List LZ) (ws:aw) (bz:Nat->Nat) (D:List Nat) (mk:List (Nat×Nat)) (a:Act) (w:aw):Prop where
 at_:∀p∈Z,p.z∈D->a.tmps[p.d]? =Hg (.pointer (Hg ⟨bz p.z,0,ZQ⟩))/\Blk w (bz p.z) p.t (cV β0 p.zs)/\ws.heap.size<=bz p.z/\yT mk (bz p.z)
 sub:∀z∈D,z∈pZ Z
 ne:∀z∈D,∀z'∈D,z≠z'->bz z≠bz z'
 top:∀p∈mk,p.2<=w.heap.size
 le:ws.heap.size<=w.heap.size
section
variable {Z:X LZ} {ws:aw} {bz:Nat->Nat} {D:X Nat} {mk:X (Nat×Nat)} {a a':Act} {w w1:aw}
def Late.act(h:Late Z ws bz D mk a w)(c:∀p∈Z,a'.tmps[p.d]? =a.tmps[p.d]?):Late Z ws bz D mk a' w:=
 ⟨λp b hd=>by rw[c p b];exact h.at_ p b hd,h.sub,h.ne,h.top,h.le⟩
def Late.loud(b:Late Z ws bz D mk a w)(N:oa ws w w1)(c:∀p∈Z,a'.tmps[p.d]? =a.tmps[p.d]?):Late Z ws bz D ((w.heap.size,w1.heap.size)::mk) a' w1:=by
 refine⟨λp h hd=>?_,b.sub,b.ne,λp h=>?_,bp b.le N.1⟩
 .obtain⟨g,a,e,i⟩:=b.at_ p h hd;have f:=a.lt;refine⟨by rw[c p h];exact g,?_,e,λq d=>?_⟩
  .unfold Blk at a⊢;rw[N.2 _ e f];exact a
  rcases aZ.1 d with rfl | d
  .exact .inl f
  exact i q d
 rcases aZ.1 h with rfl | h
 .exact aX _
 exact bp (b.top p h) N.1
def Late.alloc(c:Late Z ws bz D mk a w)(u:∀p∈Z,∀q∈Z,p.z=q.z->p=q)(hd:∀p∈Z,∀q∈Z,p.z≠q.z->p.d≠q.d){p}(f:p∈Z)(n:p.z∉D){b}(g:w.heap.size<=b)(O:Only [] w w1)(B:Blk w1 b p.t (cV β0 p.zs))(s:p.d<a.tmps.size):
  Late Z ws (λz=>if z=p.z then b else bz z) (p.z::D) mk (a.put (Hg p.d) (.pointer (Hg ⟨b,0,ZQ⟩))) w1:=by
 refine⟨λq d j=>?_,λz h=>?_,λz h l T i=>?_,λq d=>bp (c.top q d) O.size,bp c.le O.size⟩
 .by_cases e:q.z=p.z
  .have:=u q d p f e;subst this;rw[K I];refine⟨by simp[Act.put,s],B,bp c.le g,λx a=>.inr (bp (c.top x a) g)⟩
  rw[W e];obtain⟨b,m,o,r⟩:=c.at_ q d RZ;refine⟨?_,O.blk m R,o,r⟩;rw[(lW a _ _).2.2 q.d (by
   intro k;injection k with k;exact hd p f q d (Ne.symm e) k)]
  exact b
 .rcases aZ.1 h with rfl | h
  .exact qc.2 ⟨p,f,I⟩
  exact c.sub z h
 have a:∀z∈D,bz z<w.heap.size:=λz h=>by
  obtain⟨q,d,rfl⟩:=qc.1 (c.sub z h);exact(c.at_ q d h).2.1.lt
 rcases aZ.1 h with rfl | h<;>rcases aZ.1 T with rfl | T
 .exact absurd I i
 .grind
 .rw[W i,K I];have:=a _ h;omega
 rw[W (λe=>n (by rw[<-e];exact h)),W (λe=>n (by rw[<-e];exact T))];exact c.ne _ h _ T i
end
def acq:YT:=λ_ _=>False
def aeD(m s:L)(S:Nat->Prop)(b:aw)(o:Op):XT:=λw a p=>oa b w a/\XB m s S o w a p
def Ov(st:St):X LZ->L
 | []=>aF
 | p::r=>(eK st.fr p.d).isNone&&Nat.blt p.d st.n&&Ov st r
def agO{st}:∀{Z:X LZ},Ov st Z=aF->∀p∈Z,eK st.fr p.d=ZQ/\p.d<st.n
 | q::r,a,p,h=>by
  simp only[Ov,H,Option.isNone_iff_eq_none]at a;rcases aZ.1 h with rfl | h
  .simp_all
  exact agO a.2 p h
def St.AZ(st:St):St:={st with mv:=aF}
def Z1:X L->X L->L
 | [],[]=>aF
 | a::r,b::s=>(a==b)&&Z1 r s
 | _,_=>aM
def ph2:∀{l m:X L},Z1 l m=aF->l=m
 | [],[],_=>rfl
 | a::r,b::s,h=>by
  simp[Z1]at h;rw[h.1,ph2 h.2]
def lL(P:Program)(p:X Oper)(m a:L)(S:Nat->Prop)(w:aw)(mk:X (Nat×Nat))(st:St)(o:Oper)(D:X (Nat×Nat)->St->Prop):Prop:=
 bif lj P o.op then False else ZS st p o (λst=>fJ st λst=>loud P (aeD m a S w o.op) acq st o λs=>bif s.mv then False else D ((st.w0.heap.size,s.w0.heap.size)::mk) s.AZ) (λst=>D mk (St.AZ (st.put o.dst .un)))
def IM(P:Program)(o:X Oper)(Z:X Nat)(b:Array L):X Nat->Option Nat
 | []=>ZQ
 | i::r=>(match iB o i with
  | some a=>bif lj P a.op&&Jp o Z (b.setIfInBounds i aF)then Hg i else IM P o Z b r
  | none=>IM P o Z b r)
def fqZ(P:Program)(o:X Oper)(Z:X Nat)(b:Array L)(l:X Nat):Option Nat:=
 match IM P o Z b l with
 | some q=>Hg q
 | none=>fq P o l
def RB(P:Program)(o:X Oper)(m s:L)(S:Nat->Prop)(w:aw)(Z:X LZ)(A:Array L)(a:Nat)(K:X (Nat×Nat)->St->Prop):Nat->Array L->X (Nat×Nat)->St->Prop
 | 0,_,_,_=>False
 | g+1,b,mk,st=>bif yU b (pZ Z)&&Ov st Z then(match EJ (pZ Z) (Region.ready .any o.toArray b)with
  | []=>bif ZT o b (pZ Z) (pZ Z)&&Z1 b.toList A.toList&&Nat.beq (g+1) a&&Nat.ble (Z8 (pZ Z)) (g+1)then K mk st else False
  | i::r=>bif Jp o (pZ Z) b&&Nat.ble (Z8 (pZ Z)) g then(match fqZ P o (pZ Z) b (i::r)with
   | some q=>cw (iB o q) λc=>bif N8 o b q&&(i::r).contains q then
    ZS st o c (λst=>qP P o m s S b q c st.AZ λst=>RB P o m s S w Z A a K g (b.setIfInBounds q aF) mk st.AZ) (λst=>RB P o m s S w Z A a K g (b.setIfInBounds q aF) mk (St.AZ (st.put c.dst .un)))else False
   | none=>(match r with
    | []=>cw (iB o i) λc=>lL P o m s S w mk st c λmk st=>RB P o m s S w Z A a K g (b.setIfInBounds i aF) mk st
    | [j]=>cw (iB o i) λc=>cw (iB o j) λd=>
     lL P o m s S w mk st c (λmk st=>RB P o m s S w Z A a K g (b.setIfInBounds i aF) mk st)/\
     lL P o m s S w mk st d (λmk st=>RB P o m s S w Z A a K g (b.setIfInBounds j aF) mk st)
    | [j,k]=>cw (iB o i) λd=>cw (iB o j) λe=>cw (iB o k) λc=>
     lL P o m s S w mk st d (λmk st=>RB P o m s S w Z A a K g (b.setIfInBounds i aF) mk st)/\
     lL P o m s S w mk st e (λmk st=>RB P o m s S w Z A a K g (b.setIfInBounds j aF) mk st)/\
     lL P o m s S w mk st c (λmk st=>RB P o m s S w Z A a K g (b.setIfInBounds k aF) mk st)
    | _=>False))else False)else False
section
variable {P:Program} {ops:X Oper} {mb ms:L} {S:Nat->Prop} {β:Nat->Nat} {a:Act} {w:aw} {ws:aw} {Z:X LZ} {A1:Array L} {gm:Nat}
def Rep.late{st}(h:Rep β st a w)(m:st.mv=aF){d}{v}(hd:eK st.fr d=ZQ){w1}(O:Only [] w w1):Rep β st (a.put (Hg d) v) w1:=by
 obtain⟨g,j,k⟩:=lW a _ v;refine⟨ub ⟨g.trans h.ok.sz,j.trans h.ok.df,λi p l f=>?_⟩,λi b e o=>?_,h.ne,h.only.cn O,λc=>by rw[m]at c;cases c⟩
 .rw[k i RZ];exact h.ok.at_ i p l f
 obtain⟨a,d,k3⟩:=h.bx i b e o;exact⟨O.blk a R,d,k3⟩
def Rep.AZ{st}(R:Rep β st a w):Rep β st.AZ a w:=⟨R.fr,R.bx,R.ne,R.only,λh=>Rl⟩
def Ext.AZ st:Ext st st.AZ:=⟨I,aX _,λ_ _ _ h _=>h,λi b h o _=>⟨b,h,o,I,I,I,λ_ h=>h⟩,TQ,Ij⟩
def R6:=@Ext.AZ
def aj3{Q}{j}{o}{st}{mk}{D}(f:iB ops j=Hg o)(h:lL P ops mb ms S ws mk st o D)(R:Rep β st a w):
  wpOp P ops.toArray Q j (λe b=>EE P ops mb ms S j w b/\(∀i,o.dst≠Hg i->e.tmps[i]? =a.tmps[i]?)/\∃c d m,D m d/\Ext st d/\d.mv=aF/\Rep c d e b/\((m=mk/\b=w)∨(m=(w.heap.size,b.heap.size)::mk/\oa ws w b))) a w:=by
 rcases qt h with⟨_,h⟩ | ⟨g,h⟩
 .exact h.elim
 have l:ops.toArray[j]? =Hg o:=by rw[kY]at f;simpa using f
 unfold wpOp;simp only[l];obtain⟨s,n,r,a⟩:=C9 h R;rcases a with⟨q,a⟩ | ⟨q,a⟩
 .rw[K q];left;obtain⟨G,z,y,t,B,_⟩:=eV a r;have s:EE P ops mb ms S j=λw b=>bif mb&&(ms||!C6 o.op)then cj S w b else True:=by
   unfold EE;simp_all
  have:=afm (GN (E:=λw b=>EE P ops mb ms S j w b/\oa ws w b) (Q:=Q) (λH v p x=>?_) (λw v u=>?_) (λF C k w v p A D u=>A.elim) z t)
  .refine Oper.wp_mono ?_ this;rintro e b ⟨⟨c,d,k,o,k3,j⟩,p⟩;rcases qt k with⟨_,k⟩ | ⟨w,k⟩
   .exact k.elim
   refine⟨k3.1,p,c,d.AZ,_,k,((n.trans y).trans o).trans (R6 _),I,j.AZ,.inr ⟨?_,k3.2⟩⟩;rw[<-j.still w,<-t.still B]
  .rw[s];obtain⟨N,x⟩:=x;unfold XB at x;cases j:(mb&&(ms||!C6 o.op))<;>grind
  rw[s];refine⟨?_,oa.KZ u⟩;cases(mb&&_)with
  | true=>exact VI u
  | false=>exact trivial
 rw[W RZ];exact⟨ui f w,(lW _ _ _).2.2,β,_,mk,a,(n.trans (Nr _ _ _)).trans (R6 _),I,(r.put o.dst .un).AZ,.inl ⟨I,trivial⟩⟩
def unR{Q:Exit->Act->aw->Prop}(F:∀c a w,¬Q (.panic c) a w)(r:∀p∈Z,∃o,iB ops p.z=Hg o/\xV P p.z o=Hg p)(C:Ng ops Z=aF)(B:(pZ Z).Nodup){s0:St}{A:X (Nat×Nat)->St->Prop}
  (G:∀mk st β a w n D m,A mk st->Ext s0 st->Rep β st a w->Late Z ws n D mk a w->D.Perm (pZ Z)->m+Z8 D=gm->gf P .any ops.toArray Q (EE P ops mb ms S) m (fK A1 D) a w):
  ∀(m g:Nat) {d:Array L} {mk:X (Nat×Nat)} {st:St} {β:Nat->Nat} {a:Act} {w:aw} {n:Nat->Nat} {D Pd:X Nat},RB P ops mb ms S ws Z A1 gm A g d mk st->Ext s0 st->st.mv=aF->Rep β st a w->Late Z ws n D mk a w->(D++Pd).Perm (pZ Z)->m+Z8 D=g->
   gf P .any ops.toArray Q (EE P ops mb ms S) m (fK d D) a w:=by
 intro m;have M:∀p∈Z,∀q∈Z,p.z=q.z->p=q:=λp f q u e=>by
  obtain⟨o,a,b⟩:=r p f;obtain⟨l,c,k⟩:=r q u;rw[e,c]at a;injection a with a;subst a;rw[e,k]at b;injection b with b;exact b.symm
 have t:∀p∈Z,∀j o,iB ops j=Hg o->j≠p.z->o.dst≠Hg p.d:=λp f j o h i=>ad2 (Uj C p f) h (by rw[bO];exact i);have N:∀p∈Z,∀q∈Z,p.z≠q.z->p.d≠q.d:=λp f q u i e=>by
  obtain⟨c,a,b⟩:=r q u;exact t p f q.z c a (Ne.symm i) (by rw[(ov b).2.2.1,e])
 induction m using Nat.strongRecOn with
 | ind m y=>
 intro g d mk st β a w n D Pd T V hm Y W f hg;cases g with
 | zero=>exact T.elim
 | succ g=>
 have h0:=T;unfold RB at T;obtain⟨hc,T⟩:=dT T;simp only[H]at hc;obtain⟨bv,cc⟩:=hc;have bv:=Bg bv;have aC:∀x∈D,x∈pZ Z:=W.sub;have am:∀x∈Pd,x∈pZ Z:=λx hx=>f.subset (List.mem_append_right _ hx);have fS:Z8 D+Z8 Pd=Z8 (pZ Z):=by have:=f.length_eq;rwa[aP]at this
 have bY:(D++Pd).Nodup:=f.nodup_iff.2 B;have aT:∀x∈Pd,x∉D:=λx hx hd=>(List.nodup_append.1 bY).2.2 x hd x hx I;have aS:∀j∈Region.ready .any ops.toArray (fK d D),j∈pZ Z->j∈Pd:=λj h yu=>by
  have b:j∉D:=λhd=>by
   have:=(mem_ready.1 h).1;rw[qw.2 (.inr hd)]at this;cases this
  rcases dc.1 (f.mem_iff.2 yu)with a | a
  .exact absurd a b
  exact a
 have bV:∀j∈Region.ready .any ops.toArray d,j∉pZ Z->j∈Region.ready .any ops.toArray (fK d D):=λj h yu=>Av (l:=d) (D:=[]) (E:=D) R h λk=>yu (aC j k);have ce:∀z∈Pd,z∈Region.ready .any ops.toArray (fK d D):=λz hz=>by
  obtain⟨p,a,rfl⟩:=qc.1 (am z hz);obtain⟨o,ho,b⟩:=r p a;refine mem_ready.2 ⟨?_,o,Qv,λe V=>?_⟩
  .rw[io];intro k;rcases qw.1 k with k | k
   .rw[bv _ (am _ hz)]at k;cases k
   exact aT _ hz k
  rw[Array.mem_def,(ov b).2.2.2.2.1]at V;cases V
 have AL:∀{m'},m=m'+1->∀j∈Pd,wpOp P ops.toArray Q j (λa' w'=>EE P ops mb ms S j w w'/\gf P .any ops.toArray Q (EE P ops mb ms S) m' ((fK d D).setIfInBounds j aF) a' w') a w:=by
  intro m' em j h;obtain⟨p,a,rfl⟩:=qc.1 (am j h);obtain⟨o,ho,x⟩:=r p a;obtain⟨_,q,s,l,l5,l6,l7⟩:=ov x;obtain⟨c,e⟩:=agO cc p a;have v:ops.toArray[p.z]? =Hg o:=Qv
  unfold wpOp;simp only[v];rw[K (wn l)];left;obtain⟨E,op,t',pp,af,g0⟩:=o;dsimp only at q s l l5;subst q s l;obtain⟨z,z1,z2⟩:=acH l6 w;refine IK z1 (z2 β0) (λ_=>I) λb w1 Z k S=>⟨?_,?_⟩
  .unfold EE;rw[ho];dsimp only;rw[show lj P (.alloc p.t)=aM from rfl,cond_false];cases(mb&&(ms||!C6 (.alloc p.t)))with
   | true=>exact VI k
   | false=>exact trivial
  rw[<-qv];exact y m' J (g+1) (D:=p.z::D) (Pd:=Pd.erase p.z) h0 V hm (Y.late hm c k) (W.alloc M N a (aT _ h) Z k S (by rw[Y.ok.sz];exact e))
   ((List.perm_middle.symm.trans ((List.perm_cons_erase h).symm.append_left D)).trans f) (by rw[aY];omega)
 split at T
 .rename_i v;obtain⟨hc,T⟩:=dT T;simp only[H]at hc;obtain⟨⟨⟨l,p⟩,q⟩,c⟩:=hc;have b:d=A1:=SX.1 (ph2 p);have s:=dh q;have c:=eG c;cases P:Pd with
  | nil=>
   rw[P,bD]at f;rw[b];exact G mk st β a w n D m T V Y W f J
  | cons z w=>
   have a:z∈Pd:=by rw[P];exact eW
   have D:Z8 Pd=Z8 w+1:=by rw[P];rfl
   obtain⟨m',rfl⟩:∃m',m=m'+1:=⟨m-1,J⟩
   refine⟨λh0=>?_,λj h=>AL I j ?_⟩
   .have:=ce z a;rw[h0]at this;cases this
   by_cases yu:j∈pZ Z
   .exact aS j h yu
   exfalso;have E:j∈Region.ready .any ops.toArray (fK d ((pZ Z).erase z)):=Av (λx hx=>(List.mem_erase_of_ne (λe=>aT z a (by rw[<-e];exact hx))).2 (aC x hx)) h (λk=>yu (List.mem_of_mem_erase k));have:=Ou l z (am z a) j E;exact yu (this▸am z a)
 rename_i co dO W6;obtain⟨c0,T⟩:=dT T;simp only[H,Jp]at c0;have cC:=Jd c0.1;have c0:=eG c0.2;have l:∀j∈Region.ready .any ops.toArray (fK d D),j∉pZ Z->j∈Region.ready .any ops.toArray d:=λj h yu=>(cC j (Av aC h yu)).1;obtain⟨m',rfl⟩:∃m',m=m'+1:=⟨m-1,J⟩
 have b:∀j∈co::dO,j∈Region.ready .any ops.toArray d/\j∉pZ Z:=λj h=>sF.1 (by rw[W6];exact h);have i:Region.ready .any ops.toArray (fK d D)=[]->False:=λh0=>by
  have:=bV co (b co eW).1 (b co eW).2;rw[h0]at this;cases this
 have E:∀j o,iB ops j=Hg o->j∉pZ Z->∀p∈Z,o.dst≠Hg p.d:=λj o h yu p f=>t p f j o h λe=>yu (qc.2 ⟨p,f,e.symm⟩);have x:∀{j:Nat} {o:Oper},iB ops j=Hg o->j∉pZ Z->lL P ops mb ms S ws mk st o (λmk st=>RB P ops mb ms S ws Z A1 gm A g (d.setIfInBounds j aF) mk st)->
   wpOp P ops.toArray Q j (λa' w'=>EE P ops mb ms S j w w'/\gf P .any ops.toArray Q (EE P ops mb ms S) m' ((fK d D).setIfInBounds j aF) a' w') a w:=by
  intro j o ho yu T;refine wpOp_mono (λa' w' q=>⟨q.1,?_⟩) (aj3 ho T Y);obtain⟨k0,s,el,dj,e,v,k3,k4,k5,k⟩:=q;rw[<-qv];have z:∀p∈Z,a'.tmps[p.d]? =a.tmps[p.d]? :=λp f=>s _ (E j o ho yu p f);have c:Late Z ws n D e a' w':=by
   rcases k with⟨rfl,rfl⟩ | ⟨rfl,k⟩
   .exact W.act z
   exact W.loud k z
  exact y m' J g v (V.trans k3) k4 k5 c f J
 split at T
 .rename_i q u;obtain⟨o,ho,T⟩:=bG T;obtain⟨hc,T⟩:=dT T;simp only[H,N8]at hc;obtain⟨⟨⟨⟨⟨c1,c2⟩,c3⟩,c4⟩,c5⟩,c6⟩:=hc;obtain⟨f5,S⟩:=b q (by simpa using c6);have Th:ops.toArray[q]? =Hg o:=Qv
  have nU:tW .any ops.toArray (fK d D):=ai0 (E9 c3) λz hz o fd=>by
   obtain⟨p,k,rfl⟩:=qc.1 (aC z hz);obtain⟨c,a,q⟩:=r p k;rw[kY]at a;have:c=o:=by
    have e:ops.toArray[p.z]? =Hg c:=by simpa using a
    rw[fd]at e;injection e with e;exact e.symm
   rw[<-this];exact(ov q).2.2.2.2.1
  have hN:∀k∈Yx d 0 ops,(fK d D).getD k aF=aF:=λk hk=>qw.2 (.inl (by simpa using(fi.1 c5) k hk));have QI:=Region.free_spec Th c2;have H2:∀j oj,ops.toArray[j]? =Hg oj->j≠q->(fK d D).getD j aF=aM->(∀e∈oj.after,Region.binds .any e=aF->e.on≠q)->o.apart ops.toArray oj=aF:=λj oj P h2 h3 h4=>QI j oj P h2 (by
   rw[io]at h3⊢;exact λk=>h3 (qw.2 (.inl k))) h4
  have eQ:=bV q f5 S;obtain⟨s,e1,js,P⟩:=C9 T Y;have zY:∀v,∀p∈Z,(a.put o.dst v).tmps[p.d]? =a.tmps[p.d]? :=λv p f=>(lW _ _ _).2.2 _ (E q o ho S p f);rcases P with⟨hw,P⟩ | ⟨hw,P⟩
  .obtain⟨v,s2,ge,k,e,k3,p,q,Z,s⟩:=acO P js.AZ;refine tY Th (Region.noSelect_spec c1) (λc a w f=>(F _ _ _ f).elim) c4 (Yx d 0 ops) q (λz _=>ui ho z) m' (fK d D) a w nU hN H2 eQ (acw hw s) p ?_;rw[<-qv];exact y m' J g k (((V.trans e1).trans (R6 _)).trans (e.trans (R6 _))) I k3.AZ (W.act (zY v)) f J
  refine tY (v:=undef) (F:=λ_=>True) Th (Region.noSelect_spec c1) (λc a w f=>(F _ _ _ f).elim) c4 (Yx d 0 ops) (λ_ _ _ _ _ _ _=>trivial) (λe _=>ui ho e) m' (fK d D) a w nU hN H2 eQ (Wc hw) trivial ?_;rw[<-qv];exact y m' J g P ((V.trans e1).trans ((Nr _ _ _).trans (R6 _))) I (js.put o.dst .un).AZ (W.act (zY undef)) f J
 split at T
 .obtain⟨o,ho,T⟩:=bG T;refine⟨λh0=>(i h0).elim,λj h=>?_⟩;by_cases yu:j∈pZ Z
  .exact AL I j (aS j h yu)
  have:j∈EJ (pZ Z) (Region.ready .any ops.toArray d):=sF.2 ⟨l j h yu,yu⟩;rw[W6]at this;obtain rfl:j=co:=by simpa using this
  exact x ho yu T
 .rename_i c _;obtain⟨o,ho,T⟩:=bG T;obtain⟨e,a,T⟩:=bG T;refine⟨λh0=>(i h0).elim,λj h=>?_⟩;by_cases yu:j∈pZ Z
  .exact AL I j (aS j h yu)
  have:j∈EJ (pZ Z) (Region.ready .any ops.toArray d):=sF.2 ⟨l j h yu,yu⟩;rw[W6]at this;rcases aZ.1 this with rfl | this
  .exact x ho yu T.1
  have:=aV.1 this;subst this;exact x a yu T.2
 .rename_i p e _;obtain⟨o,ho,T⟩:=bG T;obtain⟨q,c,T⟩:=bG T;obtain⟨k,a,T⟩:=bG T;refine⟨λh0=>(i h0).elim,λj h=>?_⟩;by_cases yu:j∈pZ Z
  .exact AL I j (aS j h yu)
  have:j∈EJ (pZ Z) (Region.ready .any ops.toArray d):=sF.2 ⟨l j h yu,yu⟩;rw[W6]at this;rcases aZ.1 this with rfl | this
  .exact x ho yu T.1
  rcases aZ.1 this with rfl | this
  .exact x c yu T.2.1
  have:=aV.1 this;subst this;exact x a yu T.2.2
 exact T.elim
end
def St.HW(st:St)(d:Nat)(t:TypeId)(z:X SV)(b:Nat):St:=
 St.put {st with bx:=st.bx++[⟨Hg b,t,z,st.ct,aF,aM,aM⟩],ct:=st.ct+1} (Hg d) (.box (Z8 st.bx) 0)
def Ext.HW st d t zs b:Ext st (st.HW d t zs b):=by
 refine R8 (t:={st with bx:=st.bx++[_],ct:=st.ct+1}) ⟨I,jP _,λ_ _ _ a _=>a,λi c h o s=>?_,λi b h=>?_,Ij⟩ (Nr _ _ _)
 .rw[lX]at h
  grind
 exact⟨b,by dsimp only;rw[lX,W (by have:=ud h;omega)];exact h,I,I,λ_ a=>a⟩
section
variable {β:Nat->Nat} {st:St} {a:Act} {w:aw}
def Rep.HW(R:Rep β st a w){d}{t}{zs}{b}(m:Ru (Z8 st.bx) st.fr=aF)(n:Mz (Z8 st.bx) st.bx=aF)(l:C0 st.bx st.dt=aF)(U:jz (λ_=>aM) zs=aF)
  (q:a.tmps[d]? =Hg (.pointer (Hg ⟨b,0,ZQ⟩))) (o:Blk w b t (cV β0 zs)) (r:∀i c,du st.bx i=Hg c->c.ok=aF->β i≠b):
  Rep (EI β (Z8 st.bx) b) (st.HW d t zs b) a w:=by
 have B:EI β (Z8 st.bx) b (Z8 st.bx)=b:=by unfold EI;rw[K I]
 have T:∀{i c},du st.bx i=Hg c->EI β (Z8 st.bx) b i=β i:=fun{i c} h=>by
  unfold EI;rw[W];have:=ud h;omega
 have s:Rep (EI β (Z8 st.bx) b) {st with bx:=st.bx++[⟨Hg b,t,zs,st.ct,aF,aM,aM⟩],ct:=st.ct+1} a w:=by
  refine⟨ub ⟨R.ok.sz,R.ok.df,λi p hl f=>?_⟩,λi c a v=>?_,λi d w x t u y z C=>?_,?_,R.still⟩
  .rw[R.ok.at_ i p hl f];congr 1;exact jQ (g:=λd=>!Nat.beq d (Z8 st.bx)) C3 _ (GI m i p hl)
  .rw[lX]at a;split at a
   .rename_i e;simp at a;subst a;subst e;refine⟨?_,λk hk=>?_,λhk=>UA⟩
    .rw[B];rw[iY (g:=λ_=>aM) (β:=EI β (Z8 st.bx) b) (β':=β0) (λi h=>Rl) _ U];exact o
    simp_all
   have e:=T a;obtain⟨h,p,k3⟩:=R.bx i c a v;refine⟨?_,λk hk=>by rw[e];exact p k hk,λhk=>by rw[e];exact k3 hk⟩;rw[e,<-iY (g:=λd=>!Nat.beq d (Z8 st.bx)) (β:=β) (β':=EI β (Z8 st.bx) b) C3 _ (GJ n i c a v)];exact h
  .rw[lX]at t u;split at t
   .grind
   split at u
   .grind
   rw[T t,T u];exact R.ne i d w x t u y z C
  have e:=vw λi f=>by
   obtain⟨c,a,_⟩:=wH l i f;exact T a
  rw[e];exact R.only
 refine⟨ub ⟨s.ok.sz,s.ok.df,λi p hl f=>?_⟩,s.bx,s.ne,s.only,s.still⟩;simp[St.HW,St.put,eK]at hl;cases j:Nat.beq d i
 .rw[j]at hl;exact s.ok.at_ i p Wi f
 rw[j]at hl;simp at hl;subst hl;have:=dh j;subst this;rw[q];show _=Hg (Value.pointer _);rw[B]
end
def Jq(b:Nat):X Nat->Prop->Prop
 | [],p=>p
 | x::r,p=>x≠b->Jq b r p
def afC{b}:∀{l:X Nat} {p:Prop},Jq b l p->(∀x∈l,x≠b)->p
 | [],_,h,_=>h
 | x::r,p,a,h=>afC (a (h x eW)) λy b=>h y (dw _ b)
def Fa(w:aw)(mk:X (Nat×Nat)):X LZ->X Nat->St->(St->Prop)->Prop
 | [],_,st,K=>K st
 | p::r,s,st,K=>bif WM st p.zs then ∀b,w.heap.size<=b->b<st.w0.heap.size->yT mk b->Jq b s (Fa w mk r (b::s) (st.HW p.d p.t p.zs b) K)else False
def Ow{ws}{mk}{bz:Nat->Nat}{a}{w}:∀{r:X LZ} {s:X Nat} {st:St} {K:St->Prop} {b:Nat->Nat},Fa ws mk r s st K->Rep b st a w->st.mv=aM->
  (∀p∈r,a.tmps[p.d]? =Hg (.pointer (Hg ⟨bz p.z,0,ZQ⟩))/\Blk w (bz p.z) p.t (cV β0 p.zs)/\ws.heap.size<=bz p.z/\yT mk (bz p.z)/\jz (λ_=>aM) p.zs=aF/\(∀x∈s,x≠bz p.z)/\∀i c,du st.bx i=Hg c->c.ok=aF->b i≠bz p.z)->
  (pZ r).Nodup->(∀p∈r,∀q∈r,p.z≠q.z->bz p.z≠bz q.z)->∃j d,K j/\Ext st j/\Rep d j a w
 | [],_,st,K,b,h,R,_,_,_,_=>⟨st,b,h,VY _,R⟩
 | p::r,s,st,K,b,a,R,m,l,n,hd=>by
  obtain⟨h,a⟩:=dT a;simp[WM,H]at h;obtain⟨o,k,t,u,v,w,z⟩:=l p eW;have a:=afC (a _ t (by rw[<-R.still m];exact k.lt) u) w;simp[pZ,List.nodup_cons]at n;have g:∀q∈r,p.z≠q.z:=λq f e=>n.1 (qc.2 ⟨q,f,e.symm⟩);have T:∀{i c},du st.bx i=Hg c->EI b (Z8 st.bx) (bz p.z) i=b i:=fun{i c} a=>by
   unfold EI;rw[W];have:=ud a;omega
  obtain⟨j,d,A,B,k3⟩:=Ow a (R.HW h.1.1.1 h.1.1.2 h.2 v o k z) m (λq f=>by
   obtain⟨D,E,F,G,I,J,L⟩:=l q (dw _ f);have N:=hd p eW q (dw _ f) (g q f);refine⟨D,E,F,G,I,λx C=>?_,λi c h M=>?_⟩
   .rcases aZ.1 C with rfl | C
    .exact N
    exact J x C
   simp[St.HW,St.put]at h;rw[lX]at h;split at h
   .rename_i e;subst e;unfold EI;simp_all
   rw[T h];exact L i c h M) n.2 λx C y e=>hd x (dw _ C) y (dw _ e)
  exact⟨j,d,A,(Ext.HW _ _ _ _ _).trans B,k3⟩
def Uk(P:Program)(o:X Oper)(m s:L)(S:Nat->Prop)(w:aw)(Z:X LZ)(A:Array L)(g n:Nat)(mk:X (Nat×Nat))(st:St)(K:St->Prop):Prop:=
 bif Nat.beq (Z8 st.bx) n then fJ st λst=>Fa w mk Z [] st λst=>I7 P o m s S (g-(Z8 (pZ Z))) (fK A (pZ Z)) st K else False
def Ox(P:Program)(o:X Oper)(j:L)(kp:X Nat)(i:X MI)(m a:L)(S:Nat->Prop)(Z:X LZ)(A:Array L)(g:Nat)(st:St)(K:St->Prop):Prop:=
 bif sC st.bx then
  (bif j then ∃J:X _->JT _,(∀mk,I5 _ (J mk) λv w=>Uk P o m a S st.w0 Z A g (Z8 st.bx) mk (ou st kp i v w) K)/\
   RB P o m a S st.w0 Z A g (λmk s=>fJ s λs=>Rz st kp i (J mk) s) (Z8 o) (Array.replicate (Z8 o) aM) [] (St.AZ (st.qM (CK Z)))
  else RB P o m a S st.w0 Z A g (λmk s=>Uk P o m a S st.w0 Z A g (Z8 st.bx) mk s K) (Z8 o) (Array.replicate (Z8 o) aM) [] (St.AZ (st.qM (CK Z))))else False
def Un(o:X Oper)(Z:X Nat):Nat->Array L->Array L
 | 0,l=>l
 | f+1,l=>match EJ Z (Region.ready .any o.toArray l)with
  | []=>l
  | i::_=>Un o Z f (l.setIfInBounds i aF)
def ZU:X L->Nat
 | []=>0
 | b::r=>bif b then ZU r else ZU r+1
def Oy:∀{l:X lU} {i:Nat},i<(Z8 l)->∃b,du l i=Hg b
 | b::r,0,_=>⟨b,I⟩
 | b::r,i+1,h=>Oy (l:=r) Zp
section
variable {P:Program} {ops:X Oper} {mb ms:L} {S:Nat->Prop} {β:Nat->Nat} {a:Act} {w:aw} {A1:Array L} {gm:Nat} {jn:L} {kp:X Nat} {mi:X MI} {st:St} {K:St->Prop}
def agU{Q}(A:∀c a w,¬Q (.panic c) a w)(t:Ng ops (mW P 0 ops)=aF)(h:Ox P ops jn kp mi mb ms S (mW P 0 ops) A1 gm st K)(v:Rep β st a w)(F:st.mv=aM)
  (E:∀d j e f,K j->Ext st j->Rep d j e f->Q .normal e f):gf P .any ops.toArray Q (EE P ops mb ms S) (Z8 ops) (Array.replicate (Z8 ops) aM) a w:=by
 have n:(pZ (mW P 0 ops)).Nodup:=Db;have B:∀p∈mW P 0 ops,∃y,iB ops p.z=Hg y/\xV P p.z y=Hg p:=λp g=>by
  obtain⟨c,y,h,a,b⟩:=Da g
  grind
 generalize mW P 0 ops=Z at*
 obtain⟨C,h⟩:=dT h;rw[<-v.still F]at h;have u:∀mk j d e f z D m,Uk P ops mb ms S w Z A1 gm (Z8 st.bx) mk j K->Ext st j->Rep d j e f->Late Z w z D mk e f->D.Perm (pZ Z)->m+Z8 D=gm->gf P .any ops.toArray Q (EE P ops mb ms S) m (fK A1 D) e f:=by
  intro mk j d e f z D m h he J M g hg;obtain⟨S,h⟩:=dT h;have S:=dh S;obtain⟨s1,h1,Y,T,W,_,_,_,am⟩:=eV h J;have Q:=he.trans Y;have P:∀i c,du s1.bx i=Hg c->c.ok=aF->d i<w.heap.size:=λi c G s=>by
   obtain⟨b,h⟩:=Oy (l:=st.bx) (i:=i) (by have:=ud G;omega);obtain⟨c',a,V,k3,w⟩:=Q.ps i b h;rw[G]at a;injection a with a;subst a;have p:b.ok=aF:=by rw[<-k3];exact s
   obtain⟨k,q⟩:=fU.1 (yO C i b h p);rw[(T.bx i c G s).at_ k (w k q),<-(v.bx i b h p).at_ k q];exact(v.bx i b h p).blk.lt
  have H:=λp N=>g.mem_iff.2 (qc.2 ⟨p,N,I⟩);obtain⟨s2,aC,a,V,k3⟩:=Ow (bz:=z) h1 T W (λp N=>by
   obtain⟨b,k,l,w⟩:=M.at_ p N (H p N);obtain⟨y,_,s⟩:=B p N;exact⟨b,k,l,w,(ov s).2.2.2.2.2.2,R,λi c G s=>RZ⟩) n λp N q h=>M.ne _ (H p N) _ (H q h)
  have:=g.length_eq;rw[ab4 g,show m=gm-(Z8 (pZ Z)) by omega];exact vM A a k3 λK s3 X w3 m1 m2 m3=>E K s3 X w3 m1 ((Q.trans V).trans m2) m3
 have L:Late Z w (λ_=>0) [] [] a w:=⟨λp _ h=>Rl,λ_ h=>Rl,λ_ h=>R,λ_ h=>Rl,aX _⟩
 have o:=Rep.AZ (v.frame (fr':=CW _ st.fr) λi p x=>by
  cases h:(CK Z).elem i with
  | true=>rw[(mG (l:=st.fr)).1 h]at x;cases x
  | false=>rw[(mG (l:=st.fr)).2 h]at x;exact⟨p,x,I⟩)
 have r:Ext st (St.AZ (st.qM (CK Z))):=(Ext.qM _ _).trans (R6 _);rcases qt h with⟨_,h⟩ | ⟨_,h⟩
 .obtain⟨K,J,h⟩:=h;refine unR A B t n (s0:=st) (λmk s d e f z D m w p a l g q=>?_) (Z8 ops) (Z8 ops) (D:=[]) (Pd:=pZ Z) h r I o L (List.Perm.refl _) I;obtain⟨M,k,c,b,S,_⟩:=eV w a;obtain⟨N,G,H⟩:=vL k b S (.inl (p.trans c)) (J mk);exact u mk _ _ e f z D m G Ext.WX H l g q
 exact unR A B t n (s0:=st) (λmk s d e f z D m l c a b g k=>u mk s d e f z D m l c a b g k) (Z8 ops) (Z8 ops) (D:=[]) (Pd:=pZ Z) h r I o L (List.Perm.refl _) I
end
inductive Ann where
 | o
 | s (x y:Ann)
 | j (kp:List Nat) (ms:List MI) (x y:Ann)
 | l (jn:Bool) (kp:List Nat) (ms:List MI)
def Ann.x:Ann->Ann
 | .s x _=>x
 | _=>.o
def Ann.y:Ann->Ann
 | .s _ y=>y
 | _=>.o
def Ann.d:Nat->Ann->Ann
 | 0,x=>x
 | n+1,x=>.s .o (d n x)
def jG:Nat:=4000
def Sc(k:Nat):X lU->Prop->Prop
 | [],p=>p
 | b::r,p=>bif b.ok&&b.blk.isSome then(k≠b.blk.getD 0->Sc k r p)else Sc k r p
def MF:X lU->Prop->Prop
 | [],p=>p
 | b::r,p=>bif b.ok&&b.blk.isSome then Sc (b.blk.getD 0) r (MF r p)else MF r p
def MG{k}:∀{l:X lU} {p:Prop},Sc k l p->(∀i b,du l i=Hg b->b.ok=aF->b.blk.isSome=aF->k≠b.blk.getD 0)->p
 | [],_,h,_=>h
 | b::r,p,h,d=>by
  unfold Sc at h;cases a:(b.ok&&b.blk.isSome)with
  | true=>
   rw[a]at h;simp at a;exact MG (h (d 0 b I a.1 a.2)) λi c e=>d (i+1) c e
  | false=>
   rw[a]at h;exact MG h λi c b=>d (i+1) c b
def GS:∀{l:X lU} {p:Prop},MF l p->(∀a d i j,du l a=Hg i->du l d=Hg j->i.ok=aF->j.ok=aF->i.blk.isSome=aF->j.blk.isSome=aF->a≠d->i.blk.getD 0≠j.blk.getD 0)->p
 | [],_,h,_=>h
 | b::r,p,h,k=>by
  unfold MF at h;have t:∀{p:Prop},MF r p->p:=λh=>GS h λa d i j f g m n o q s=>k (a+1) (d+1) i j f g m n o q J;cases e:(b.ok&&b.blk.isSome)with
  | true=>
   rw[e]at h;simp at e;exact t (MG h λa c p f g=>k 0 (a+1) b c I p e.1 f e.2 g J)
  | false=>
   rw[e]at h;exact t h
def FX(P:Program)(o:X Oper)(draw:L)(st:St)(K:St->Prop):Prop:=
 bif draw then
  bif GP P o&&Region.lexB .any o.toArray then Gk (MB o) st λst=>Ap P o jG [] o st λst=>K {st with mv:=aF}
  else bif Oh P o 0 o then fJ {st with mv:=aF} λst=>MF (bif ZC P o 0 o then st.bx else[]) (∃S,I7 P o aF (ZC P o 0 o) S (Z8 o) (Array.replicate (Z8 o) aM) st K)
  else I7 P o aM aM (λ_=>False) (Z8 o) (Array.replicate (Z8 o) aM) {st with mv:=aF} K
 else BG P o jG o st K
def QR(st:St)(K:St->Prop):Exit->Act->aw->Prop:=λe a w=>match e with
 | .normal=>∃b d,K d/\Ext st d/\Rep b d a w
 | _=>False
def Ext.mv s:Ext s {s with mv:=aF}:=⟨I,aX _,λ_ _ _ h _=>h,λi b h o _=>⟨b,h,o,I,I,I,λ_ h=>h⟩,TQ,Ij⟩
def Rep.drew{β}{s}{a}{w w'}(h:Rep β s a w)(O:Only [] w w')(d:w'.heap=w.heap):Rep β {s with mv:=aF} a w':=
 ⟨h.fr,λi b c o=>by
  obtain⟨k,a,k3⟩:=h.bx i b c o;exact⟨by unfold Blk at k⊢;rw[d];exact k,a,k3⟩,h.ne,h.only.cn O,λh=>Rl⟩
section
variable {P:Program}
def Oz(m:P.follows .mixedOrders=aF){id}{ops}{draw}{st}{K}{β}{a}{w}(h:FX P ops.toList draw st K)(R:Rep β st a w):
  (Code.region id ops draw).wp P (QR st K) a w:=by
 obtain⟨l⟩:=ops;rcases qt h with⟨hd,x⟩ | ⟨hd,x⟩<;>clear h<;>have h:=x
 .subst hd;have d:=R.drew (O9 w 1) I;have f:∀{v y:L} {S:Nat->Prop} {b:St},Ext st b->Rep β b a w.drew->I7 P l v y S (Z8 l) _ b K->(Code.region id l.toArray aF).wp P (QR st K) a w:=λe j h=>
   IL _ m (vM (λc a w u=>u) h j λr t o i p q k3=>⟨r,t,p,e.trans q,k3⟩)
  rcases qt h with⟨g,h⟩ | ⟨_,h⟩
  .simp at g;obtain⟨s,z,A,B,_⟩:=Au h R;obtain⟨D,p,q,k3,C⟩:=uc z;obtain⟨o,c,k⟩:=C trivial β a w B;refine wp_region_quiet_lit m g.2 ?_;have:=Mx (Q:=λo=>∀i,(∃n,i=w.drewN n)->QR st K .normal o i) (rest:=[]) c (wpQuiet_nil (by
    rintro i ⟨n,rfl⟩;exact⟨β,_,p,(A.trans q).trans (Ext.mv _),k.drew (O9 w n) I⟩))
   simp_all
  rcases qt h with⟨_,h⟩ | ⟨_,h⟩
  .obtain⟨b,g,e,j,_⟩:=eV h d;have A:∀n z a c,du b.bx n=Hg a->du b.bx z=Hg c->a.ok=aF->c.ok=aF->a.blk.isSome=aF->c.blk.isSome=aF->n≠z->a.blk.getD 0≠c.blk.getD 0:=λn z a c s B C D F G H=>by
    obtain⟨k,E⟩:=fU.1 F;obtain⟨J,m⟩:=fU.1 G;have e:=(j.bx n a s C).at_ k E;have K:=(j.bx z c B D).at_ J m;rw[E,m,iW,iW];have:=j.ne n z a c s B C D H;omega
   obtain⟨S,s⟩:=GS g (by
    cases ZC P l 0 l with
    | true=>exact A
    | false=>exact λn z a c s=>by cases n<;>cases s)
   exact f ((Ext.mv st).trans e) j s
  exact f (Ext.mv st) d h
 subst hd;refine wp_region_lit (wI h R λa d c e k b k3=>⟨a,d,k,b,k3⟩)
def acP(P:Program)(o:X Oper)(j:L)(kp:X Nat)(m:X MI)(st:St)(K:St->Prop):Prop:=
 bif Ng o (mW P 0 o)then fJ st.AZ λst=>
  (bif Oh P o 0 o then MF (bif ZC P o 0 o then st.bx else[]) (∃S,Ox P o j kp m aF (ZC P o 0 o) S (mW P 0 o) (Un o (pZ (mW P 0 o)) (Z8 o) (Array.replicate (Z8 o) aM)) (ZU (Un o (pZ (mW P 0 o)) (Z8 o) (Array.replicate (Z8 o) aM)).toList) st K)
  else Ox P o j kp m aM aM (λ_=>False) (mW P 0 o) (Un o (pZ (mW P 0 o)) (Z8 o) (Array.replicate (Z8 o) aM)) (ZU (Un o (pZ (mW P 0 o)) (Z8 o) (Array.replicate (Z8 o) aM)).toList) st K)
 else False
def aep(m:P.follows .mixedOrders=aF){id}{ops}{jn}{kp}{mi}{st}{K}{β}{a}{w}(h:acP P ops.toList jn kp mi st K)(R:Rep β st a w):
  (Code.region id ops aF).wp P (QR st K) a w:=by
 obtain⟨l⟩:=ops;obtain⟨z,h⟩:=dT h;obtain⟨s,d,e,j,b,_⟩:=eV h (R.drew (O9 w 1) I);have f:∀{i n:L} {S:Nat->Prop} {A:Array L} {g:Nat},Ox P l jn kp mi i n S _ A g s K->(Code.region id l.toArray aF).wp P (QR st K) a w:=λh=>
  IL _ m (agU (λc a w p=>p) z h j b λk o t u q r k3=>⟨k,o,q,((R6 st).trans e).trans r,k3⟩)
 rcases qt d with⟨_,h⟩ | ⟨_,h⟩
 .have r:∀o q a c,du s.bx o=Hg a->du s.bx q=Hg c->a.ok=aF->c.ok=aF->a.blk.isSome=aF->c.blk.isSome=aF->o≠q->a.blk.getD 0≠c.blk.getD 0:=λo q a c p t u v y B C=>by
   obtain⟨k,x⟩:=fU.1 y;obtain⟨D,m⟩:=fU.1 B;have e:=(j.bx o a p u).at_ k x;have E:=(j.bx q c t v).at_ D m;rw[x,m,iW,iW];have:=j.ne o q a c p t u v C;omega
  obtain⟨S,p⟩:=GS h (by
   cases ZC P l 0 l with
   | true=>exact r
   | false=>exact λo q a c p=>by cases o<;>cases p)
  exact f p
 exact f h
def V(P:Program):Code->Ann->St->(Exit->St->Prop)->Prop
 | .skip,_,st,K=>K .normal st
 | .label _,_,st,K=>K .normal st
 | .exit i,_,st,K=>K (.exit i) st
 | .ret,_,st,K=>K .ret st
 | .region _ o d,a,st,K=>(match a with
  | .l j kp m=>bif d then acP P o.toList j kp m st (K .normal)else False
  | .j kp m _ _=>fJ st λst=>∃J,I5 _ J (λv w=>K .normal (ou st kp m v w))/\FX P o.toList d st λs=>fJ s λs=>Rz st kp m J s
  | _=>FX P o.toList d st (K .normal))
 | .seq a b,n,st,K=>(match n with
  | .j kp m x y=>fJ st λst=>∃J,I5 _ J (λv w=>V P b y (ou st kp m v w) K)/\V P a x st λe s=>(match e with
   | .normal=>fJ s λs=>Rz st kp m J s
   | e=>K e s)
  | n=>V P a n.x st λe s=>(match e with
   | .normal=>V P b n.y s K
   | e=>K e s))
 | .cond c a b,n,st,K=>cw (st.ev c) λt=>(match t with
  | .bl aF=>V P a n.x st K
  | .bl aM=>V P b n.y st K
  | .bt t=>((t=aF->V P a n.x st K)/\(t=aM->V P b n.y st K))
  | _=>False)
 | .block i c,a,st,K=>V P c a st λe s=>(match e with
  | .exit d=>bif Nat.beq d i then K .normal s else K (.exit d) s
  | e=>K e s)
 | .loop c,a,st,K=>(match a with
  | .j kp m x _=>fJ st λst=>(λst=>∃(I:Nat->JT _) (b:Nat),Rz st kp m (I b) st/\∀n,I5 _ (I n) λv w=>V P c x (ou st kp m v w) λe s=>(match e with
   | .normal=>fJ s λs=>∃c,c<n/\Rz st kp m (I c) s
   | e=>K e s)) (st.esc (C7 st m))
  | _=>False)
 | _,_,_,_=>False
def QK(st:St)(K:Exit->St->Prop):Exit->Act->aw->Prop:=λe a w=>match e with
 | .normal=>∃b d,K .normal d/\Ext st d/\Rep b d a w
 | .exit i=>∃b d,K (.exit i) d/\Ext st d/\Rep b d a w
 | .ret=>∃b d,K .ret d/\Ext st d/\Rep b d a w
 | _=>False
def wM{st Ip}{K}(x:Ext st Ip):∀e a w,QK Ip K e a w->QK st K e a w:=λe a w h=>by
 cases e<;>first | exact h | (obtain⟨g,d,b,c,f⟩:=h;exact⟨g,d,b,x.trans c,f⟩)
def BH(m:P.follows .mixedOrders=aF):∀c {d:Ann} {st:St} {K:Exit->St->Prop} {b:Nat->Nat} {a:Act} {w:aw},V P c d st K->Rep b st a w->c.wp P (QK st K) a w
 | .skip,_,st,K,b,a,w,h,R=>wp_skip ⟨b,st,h,VY _,R⟩
 | .label _,_,st,K,b,a,w,h,R=>wp_label ⟨b,st,h,VY _,R⟩
 | .exit _,_,st,K,b,a,w,h,R=>wp_exit ⟨b,st,h,VY _,R⟩
 | .ret,_,st,K,b,a,w,h,R=>wp_ret ⟨b,st,h,VY _,R⟩
 | .region i o r,d,st,K,b,a,w,h,R=>by
  unfold V at h;split at h
  .cases r
   .exact h.elim
   refine wp_mono (aep m h R) λe a c q=>?_;cases e<;>first | exact q.elim | exact q
  .obtain⟨v,⟨t,J,h⟩,c,s,_⟩:=eV h R;refine wp_mono (Oz m h s) λe u A q=>?_;cases e<;>try exact q.elim
   obtain⟨p,x,j,f,a⟩:=q;obtain⟨y,k,g,F,S,_⟩:=eV j a;obtain⟨z,l,n⟩:=vL k F S (.inl (f.trans g)) J;exact⟨_,_,l,c.trans Ext.WX,n⟩
  refine wp_mono (Oz m h R) λe a c q=>?_;cases e<;>first | exact q.elim | exact q
 | .seq x y,d,st,K,b,a,w,h,R=>by
  unfold V at h;split at h
  .obtain⟨s,⟨c,J,h⟩,a,j,_⟩:=eV h R;refine wp_seq (wp_mono (BH m x h j) λe f g q=>?_);cases e with
   | normal=>
    obtain⟨p,r,k,e,h⟩:=q;obtain⟨t,l,i,F,S,_⟩:=eV k h;obtain⟨v,n,o⟩:=vL l F S (.inl (e.trans i)) J;exact wp_mono (BH m y n o) (wM (a.trans Ext.WX))
   | exit _=>exact wM a _ _ _ q
   | ret=>exact wM a _ _ _ q
   | _=>exact q.elim
  refine wp_seq (wp_mono (BH m x h R) λe a c q=>?_);cases e with
  | normal=>
   obtain⟨g,s,h,e,f⟩:=q;exact wp_mono (BH m y h f) (wM e)
  | _=>exact q
 | .cond c x y,d,st,K,b,a,w,h,R=>by
  obtain⟨t,f,h⟩:=bG h;have ev:=R.ev f;split at h
  .exact wp_cond_true ev (BH m x h R)
  .exact wp_cond_false ev (BH m y h R)
  .exact wp_cond_split ev (λe=>BH m x (h.1 e) R) (λe=>BH m y (h.2 e) R)
  exact h.elim
 | .block i c,d,st,K,b,a,w,h,R=>by
  refine wp_block (wp_mono (BH m c h R) λe f g q=>?_);cases e with
  | exit j=>
   obtain⟨a,s,n,k,l⟩:=q;rcases qt n with⟨e,c⟩ | ⟨e,c⟩
   .have:=dh e;subst this;exact adX ⟨a,s,c,k,l⟩
   have o:¬j=i:=λh=>by rw[h]at e;simp at e
   exact abF (by simpa using o) ⟨a,s,c,k,l⟩
  | normal=>exact q
  | ret=>exact q
  | _=>exact q.elim
 | .loop c,d,st,K,b,a,w,h,R=>by
  unfold V at h;split at h
  .rename_i kp a x _;obtain⟨s,r,l,i,S,_⟩:=eV h R;have k:=l.trans (Zu s (C7 s a));have t:=i.esc (C7 s a);have A:(s.esc (C7 s a)).mv=aM:=S;generalize s.esc (C7 s a)=B at*
   obtain⟨I,z,o,h⟩:=r;refine wp_loop_ghost (λn j f=>∀K,I5 _ (I n) K->∃v,K v f/\Rep _ (ou B kp a v f) j f) z (λK g=>vL o t A (.inl (VY _)) g) λn j f p=>?_;obtain⟨v,u,y⟩:=p _ (h n);refine wp_mono (BH m c u y) λe C D q=>?_;cases e with
   | normal=>
    obtain⟨J,L,x,e,h⟩:=q;obtain⟨M,⟨H,G,E⟩,c,F,n,_⟩:=eV x h;exact⟨H,G,λK g=>vL E F n (.inr ⟨v,f,e.trans c⟩) g⟩
   | exit _=>exact wM (k.trans Ext.WX) _ _ _ q
   | ret=>exact wM (k.trans Ext.WX) _ _ _ q
   | _=>exact q.elim
  exact h.elim
 | .rangeFunc _ _ _ _,_,_,_,_,_,_,h,_=>RT
 | .scope _,_,_,_,_,_,_,h,_=>RT
 | .goto _,_,_,_,_,_,_,h,_=>RT
 | .refuse _,_,_,_,_,_,_,h,_=>RT
def MH(P:Program)(st:St):X ResultVar->Option (X SV)
 | []=>Hg []
 | .tmp t::r=>(match st.get t,MH P st r with
  | some v,Hg l=>Hg (v::l)
  | _,_=>ZQ)
 | .cell p t::r=>(match st.get p,P.underlying t,MH P st r with
  | some (.box i o),Hg d,Hg l=>(match du st.bx i with
   | some b=>bif b.ok&&sz P t (Z8 ((b.cells.drop o).take (xT P t)))&&(oo d||Nat.beq (Z8 ((b.cells.drop o).take (xT P t))) 1)then Hg (Rs (oo d) ((b.cells.drop o).take (xT P t))::l)else ZQ
   | none=>ZQ)
  | _,_,_=>ZQ)
def JP(P:Program)(r:X ResultVar)(R:ay->aw->Prop)(st:St):Prop:=cw (MH P st r) λv=>fJ (st.esc v) λst=>bif jz (I0 st.bx) v then R (val (LC st.bx) (C5 v)) st.w0 else False
def GU{β}{st}{a}{w}(h:Rep β st a w):∀{r:X ResultVar} {c:X SV},MH P st r=Hg c->E8 P a w r (cV β c)
 | [],c,a=>by simp[MH]at a;subst a;trivial
 | .tmp t::b,c,a=>by
  simp[MH]at a;split at a
  .rename_i v l d e;simp at a;subst a;exact⟨h.get d,GU h e⟩
  cases a
 | .cell p t::f,c,a=>by
  simp only[MH]at a;split at a
  .rename_i k o d l g i j;split at a
   .rename_i b p;obtain⟨m,rfl⟩:=Gy a;simp only[H,dq]at m;obtain⟨⟨K,z⟩,n⟩:=m;refine⟨⟨_,h.get g,?_⟩,GU h j⟩;generalize t:(b.cells.drop o).take _=q at*
    have C:Cells w _ (cV β q):=((h.bx k b p K).blk).HU o _ (by
     rw[<-t];simp only[cV,lh,Ag];rw[cf,se];simp only[bZ,bQ];omega)
    have u:=mz (P:=P) i w;cases hd:oo d
    .rw[hd]at u n;obtain⟨s,rfl⟩:=CS (n.resolve_left R);exact aik u (Zy C)
    rw[hd]at u;have e:=rj hd β q;rw[hd]at e;rw[e];exact enK u (rN z w) (gu β q) C
   cases a
  cases a
def ZV:Nat->X SV->X (Nat×Nat×SV)
 | _,[]=>[]
 | i,s::r=>(i,0,s)::ZV (i+1) r
def GV β:∀i l,cv β (ZV i l)=Gv i (cV β l)
 | _,[]=>rfl
 | i,s::r=>by
  have:=GV β (i+1) r;simp[cv]at this;simp[ZV,cv,cV,Gv,this]
def ZW(f:Func)(args:X SV)(w:aw):St:={n:=f.ntmps,fr:=ZV 0 args,bx:=[],w0:=w,mv:=aM,dt:=[],ct:=1,df:=[]}
def mH(P:Program)(f:FuncId)(args:Array ay)(w:aw)(Q:ay->aw->Prop):Prop:=CallsD P f args .returning w λe u a=>u=.returning/\∃v,e=.returned v/\Q v a
def MJ(P:Program)(R:ay->aw->Prop):X (Nat×X ay×X ay)->aw->Prop
 | [],w=>R (.tuple #[]) w
 | d::s,w=>bif T0 P d.1 then mH P d.1 (d.2.1++d.2.2).toArray w λ_ a=>MJ P R s a else False
def ars:X ResultVar->L
 | []=>aF
 | _=>aM
def ZX(P:Program)(r:X ResultVar)(R:ay->aw->Prop)(st:St):Prop:=match st.df with
 | []=>JP P r R st
 | _::_=>bif ars r then fJ st λst=>MJ P R st.df st.w0 else False
def ZY(P:Program)(r:X ResultVar)(R:ay->aw->Prop)(st:St):Prop:=match st.df with
 | []=>JP P r R st
 | _::_=>False
def ZO(P:Program)(f:FuncId)(a:Ann)(args:X SV)(R:ay->aw->Prop)(w:aw):Prop:=cw (P.funcs[f]?) λn=>cw n.body λc=>
 bif Nat.ble (Z8 args) n.ntmps then V P c a (ZW n args w) λe st=>(match e with
  | .normal=>ZX P n.results.toList R st
  | .ret=>ZX P n.results.toList R st
  | _=>False)else False
def Vfd(P:Program)(f:FuncId)(a:Ann)(args:X SV)(R:ay->aw->Prop)(w:aw):Prop:=cw (P.funcs[f]?) λn=>cw n.body λc=>
 bif Nat.ble (Z8 args) n.ntmps then V P c a (ZW n args w) λe st=>(match e with
  | .normal=>ZY P n.results.toList R st
  | .ret=>ZY P n.results.toList R st
  | _=>False)else False
def afc{β}{st}{a}{w}{fn}{R}(d:JP P fn.results.toList R st)(f:Rep β st a w):∃v,(results fn a.tmps).run P w=.ok v w/\R v w:=by
 obtain⟨g,i,d⟩:=bG d;obtain⟨l,b,k,j,m,_⟩:=eV d (f.esc g);obtain⟨c,b⟩:=dT b;have h:=GU f i;rw[j.ani (yP c),<-j.still m]at b;refine⟨_,?_,b⟩;have r:fn.results=fn.results.toList.toArray:=I
 match g,h,c with
 | [s],h,c=>exact aeW r h
 | [],h,c=>
  have e:val β (C5 [])=.tuple (cV β []).toArray:=I;exact Mj r I h
 | s::t::a,h,c=>
  have e:val β (C5 (s::t::a))=.tuple (cV β (s::t::a)).toArray:=by
   show Value.tuple (su β _).toArray=_;rw[ua]
  rw[e];exact Mj r (rfl) h
def Ur args {n} (k:Z8 args<=n):(⟨args.toArray++Array.replicate (n-args.toArray.size) undef,[]⟩)=fr n (λ_=>undef) (Gv 0 args):=by
 congr 1;apply SX.1;rw[Array.toList_append,Array.toList_replicate,yD];apply im;intro i;by_cases h:i<n
 .rw[lG,oX _ _ _ _ _ h,bO,afn]
  grind
 rw[cR C,cR (by rw[pY];omega)]
def TkB{fn}{tmps}{R}(r:fn.results.toList=[]):∀{l:X _} {w:aw},MJ P R l w->Leaves P fn tmps (λe b=>∃v,e=.returned v/\R v b) (Ub l) .returning w
 | [],w,h=>by
  have s:fn.results=([]).toArray:=by rw[<-r]
  exact⟨_,Mj (a:=⟨tmps,[]⟩) (rs:=[]) (vs:=[]) s I trivial,_,I,h⟩
 | d::s,w,h=>by
  obtain⟨a,h⟩:=dT h;refine leaves_cons (λh=>Rl) (f:=d.1) (args:=(d.2.1++d.2.2).toArray) ?_ (h.mono ?_)
  .have:=jB a (d.2.1++d.2.2).toArray w;rw[<-List.append_toArray]at this⊢;exact this
  rintro e u b ⟨rfl,v,rfl,h⟩;exact TkB r h
def Jg{β}{st}{a}{w}{fn}{R}(h:ZX P fn.results.toList R st)(b:Rep β st a w):Leaves P fn a.tmps (λe c=>∃v,e=.returned v/\R v c) a.defers .returning w:=by
 rw[b.ok.df];unfold ZX at h;split at h
 .rename_i hd;rw[hd];obtain⟨v,k,a⟩:=afc h b;exact⟨v,k,v,I,a⟩
 obtain⟨a,h⟩:=dT h;obtain⟨s,d,e,j,m,_⟩:=eV h b;have r:fn.results.toList=[]:=by
  cases f:fn.results.toList with
  | nil=>rfl
  | cons _ _=>rw[f]at a;cases a
 have W:s.df=st.df:=by
  obtain⟨g,l⟩:=e.df;have f:=bK List.length (j.ok.df.symm.trans b.ok.df);rw[Ub,Ub,bQ,bQ,l,aP]at f
  grind
 rw[<-j.still m]at d;rw[<-W];exact TkB r d
def aj6(m:P.follows .mixedOrders=aF){f}{an}{args}{R}{w}(h:ZO P f an args R w):Calls P f (cV β0 args).toArray w λe a=>∃v,e=.returned v/\R v a:=by
 obtain⟨n,g,h⟩:=bG h;obtain⟨c,hb,h⟩:=bG h;obtain⟨i,h⟩:=dT h;have d:Rep β0 (ZW n args w) (fr n.ntmps _ (Gv 0 _)) w:=
  ⟨⟨λ_=>undef,by rw[<-GV];rfl⟩,λc b hb=>f0,λc k e f hb=>f0,EC _ _,λ_=>I⟩
 refine calls_of_wp_defers g hb ?_;rw[Ur _ (by rw[gu];exact eG i)];refine wp_mono (BH m c h d) λe j a q=>?_;cases e with
 | normal=>
  obtain⟨e,s,b,f,c⟩:=q;exact Jg b c
 | ret=>
  obtain⟨e,s,b,f,c⟩:=q;exact Jg b c
 | exit _=>
  obtain⟨c,s,b,_⟩:=q;exact b.elim
 | _=>exact q.elim
def aj7(m:P.follows .mixedOrders=aF){f}{an}{args}{R}{w}(h:Vfd P f an args R w):mH P f (cV β0 args).toArray w R:=by
 obtain⟨n,k,h⟩:=bG h;obtain⟨c,hb,h⟩:=bG h;obtain⟨l,h⟩:=dT h;have d:Rep β0 (ZW n args w) (fr n.ntmps _ (Gv 0 _)) w:=
  ⟨⟨λ_=>undef,by rw[<-GV];rfl⟩,λc b hb=>f0,λc o e f hb=>f0,EC _ _,λ_=>I⟩
 refine(callsD_of_wp (R:=λe g=>∃v,e=.returned v/\R v g) k hb ?_).mono (λe u g h=>h);rw[Ur _ (by rw[gu];exact eG l)];refine wp_mono (BH m c h d) λe j g q=>?_;have i:∀{a:Nat->Nat} {s:St},ZY P n.results.toList R s->Rep a s j g->_/\j.defers=[]:=fun{a s} h d=>by
  unfold ZY at h;split at h
  .rename_i hd;exact⟨afc h d,by rw[d.ok.df,hd];rfl⟩
  exact h.elim
 cases e with
 | normal=>
  obtain⟨a,s,b,o,c⟩:=q;obtain⟨⟨v,e,f⟩,k3⟩:=i b c;exact aew e k3 f
 | ret=>
  obtain⟨a,s,b,o,c⟩:=q;obtain⟨⟨v,e,f⟩,k3⟩:=i b c;exact opk e k3 f
 | exit _=>
  obtain⟨a,s,b,_⟩:=q;exact b.elim
 | _=>exact q.elim
def aj8{f}{an}{args}{R}{w}{vs}{vc}(m:P.follows .mixedOrders=aF)(b:vs=(cV β0 args).toArray)(a:vc=ZO P f an args R w)(h:vc):Calls P f vs w λe c=>∃v,e=.returned v/\R v c:=by
 subst a b;exact aj6 m h
def aj9{f}{an}{args}{R}{w}{vs}{vc}(m:P.follows .mixedOrders=aF)(v:vs=(cV β0 args).toArray)(e:vc=Vfd P f an args R w)(h:vc):mH P f vs w R:=by
 subst e v;exact aj7 m h
end
end Go.Kt.V
namespace Go.Proofs.YtccbiehilmhodaaGreatDoor.Vc
open Go.Value renaming int->O,string->ae,pointer->ah,agg->ai,tuple->aj,bool->ak
open Go.IntKind renaming i64->U,wrap->au
open Go.Ending renaming returned->ao
open _root_.ByteArray renaming mk->aq
open _root_.Go.Proofs.Tryz renaming prog->ar
open Go.Instr renaming buildSlice->av
open Go renaming World->aw,Value->ay,Calls->aA
open Go.Kt renaming Only->az,SliceF->aB,Cells->aD,OnlyP->aE,Blk->aG
open Go Go.RowKit Go.Kt Go.Kt.V
abbrev Q(c:L)(x y:Prop):Prop:=(c=aF->x)/\(c=aM->y)
abbrev cB(f:FuncId)(a:Array ay)(w:aw)(K:L->aw->Prop):Prop:=aA ar f a w λe b=>∃x,e=ao (ak x)/\K x b
abbrev jM(s:X Nat)(f:FuncId)(a:Array ay)(w:aw)(K:L->aw->Prop):Prop:=aA ar f a w λe b=>∃x,e=ao (ak x)/\cF s w b/\K x b
abbrev cI(f:FuncId)(a:Array ay)(w:aw)(K:Int->aw->Prop):Prop:=aA ar f a w λe b=>∃x,e=ao (O U x)/\K x b
abbrev pC(s:X Nat)(f:FuncId)(a:Array ay)(w:aw)(K:Int->aw->Prop):Prop:=aA ar f a w λe b=>∃x,e=ao (O U x)/\cF s w b/\K x b
abbrev cS(f:FuncId)(a:Array ay)(w:aw)(K:M->aw->Prop):Prop:=aA ar f a w λe b=>∃x,e=ao (ae x)/\K x b
abbrev qx(s:X Nat)(f:FuncId)(a:Array ay)(w:aw)(K:M->aw->Prop):Prop:=aA ar f a w λe b=>∃x,e=ao (ae x)/\cF s w b/\K x b
abbrev cL(f:FuncId)(a:Array ay)(w:aw)(K:Sl->aw->Prop):Prop:=aA ar f a w λe b=>∃x,e=ao (x.v)/\K x b
abbrev sH(s:X Nat)(f:FuncId)(a:Array ay)(w:aw)(K:Sl->aw->Prop):Prop:=aA ar f a w λe b=>∃x,e=ao (x.v)/\cF s w b/\K x b
abbrev cU(f:FuncId)(a:Array ay)(w:aw)(K:aw->Prop):Prop:=aA ar f a w λe b=>e=ao (aj #[])/\K b
abbrev F(s:X Nat)(f:FuncId)(a:Array ay)(w:aw)(K:aw->Prop):Prop:=aA ar f a w λe b=>e=ao (aj #[])/\cF s w b/\K b
abbrev S0(x:Sem ay)(a:aw)(K:Sl->aw->Prop):Prop:=∃l w,x.run ar a=.ok (Sl.v l) w/\K l w
abbrev nx(k:Nat)(K:aK):Prop:=∃n,n<k/\K n
abbrev P(a:aw)(K:Nat->aw->Prop):Prop:=∀k w,a.heap.size<=k->k<w.heap.size->az [] a w->K k w
abbrev lp0(w:aw)(B:(Nat->aw->Prop)->Nat->aw->Prop):Prop:=∃J k,J k w/\∀k w,J k w->B J k w
abbrev nr{a:Type}(x:a)(w:aw)(B:(Nat->a->aw->Prop)->Nat->a->aw->Prop):Prop:=∃J k,J k x w/\∀k x w,J k x w->B J k x w
abbrev Fg{a b:Type}(x:a)(y:b)(w:aw)(B:(Nat->a->b->aw->Prop)->Nat->a->b->aw->Prop):Prop:=∃J k,J k x y w/\∀k x y w,J k x y w->B J k x y w
abbrev xH(X:aw->Prop)(Y:(aw->Prop)->Prop):Prop:=∃J,(∀w,J w->X w)/\Y J
abbrev ob{a:Type}(X:a->aw->Prop)(Y:(a->aw->Prop)->Prop):Prop:=∃J,(∀x w,J x w->X x w)/\Y J
abbrev KG{a b:Type}(X:a->b->aw->Prop)(Y:(a->b->aw->Prop)->Prop):Prop:=∃J,(∀x y w,J x y w->X x y w)/\Y J
abbrev jn3{a b c:Type}(X:a->b->c->aw->Prop)(Y:(a->b->c->aw->Prop)->Prop):Prop:=∃J,(∀x y z w,J x y z w->X x y z w)/\Y J
abbrev Wx(w:aw)(p:Addr)(K:L->Prop):Prop:=∃x,aD w p [ak x]/\K x
abbrev A(w:aw)(p:Addr)(K:Int->Prop):Prop:=∃x,aD w p [O U x]/\K x
abbrev ja(w:aw)(p:Addr)(K:Int->Int->M->Int->Sl->Int->Prop):Prop:=∃x a b c d e,aD w p [O U x,O U a,ae b,O U c,d.v,O U e]/\K x a b c d e
abbrev rb3(j:aw)(p:Addr)(K:Int->M->Int->L->Int->Int->M->Int->Sl->Int->Sl->Sl->Int->Prop):Prop:=∃x a b c d e f g h i E w P,aD j p [O U x,ae a,O U b,ak c,O U d,O U e,ae f,O U g,h.v,O U i,E.v,w.v,O U P]/\K x a b c d e f g h i E w P
abbrev xW(w:aw)(p:Addr)(K:Int->M->Int->Int->Prop):Prop:=∃x a b c,aD w p [O U x,ae a,O U b,O U c]/\K x a b c
abbrev aeE(w:aw)(p:Addr)(K:Int->M->M->M->Sl->Sl->Sl->Sl->Int->Prop):Prop:=∃x a b c d e f g h,aD w p [O U x,ae a,ae b,ae c,d.v,e.v,f.v,g.v,O U h]/\K x a b c d e f g h
abbrev jp(w:aw)(p:Addr)(K:Sl->Prop):Prop:=∃x,aD w p [x.v]/\K x
abbrev VV(w:aw)(p:Addr)(K:Option Nat->Prop):Prop:=∃x,aD w p [.map x]/\K x
abbrev Wn(w:aw)(p:Addr)(K:Option Addr->Prop):Prop:=∃x,aD w p [ah x]/\K x
abbrev Eo(w:aw)(p:Addr)(K:M->Prop):Prop:=∃x,aD w p [ae x]/\K x
abbrev UG(w:aw)(p:Addr)(K:OV->Prop):Prop:=∃x,aD w p [x.v]/\K x
abbrev afq(w:aw)(b n:Nat)(K:L->L->L->L->Prop):Prop:=∃x a c d,aG w b n [ak x,ak a,ak c,ak d]/\K x a c d
abbrev xKI(w:aw)(b n:Nat)(K:Int->Prop):Prop:=∃x,aG w b n [O U x]/\K x
abbrev aka(w:aw)(b n:Nat)(K:Int->Int->Int->Prop):Prop:=∃x a c,aG w b n [O U x,O U a,O U c]/\K x a c
abbrev acQ(w:aw)(b n:Nat)(K:Int->M->M->M->Sl->Sl->Sl->Sl->Int->Prop):Prop:=∃x a c d e f g h i,aG w b n [O U x,ae a,ae c,ae d,e.v,f.v,g.v,h.v,O U i]/\K x a c d e f g h i
abbrev Us(w:aw)(b n:Nat)(K:Sl->Prop):Prop:=∃x,aG w b n [x.v]/\K x
abbrev aex(w:aw)(b n:Nat)(K:Sl->Int->Int->Int->Int->Prop):Prop:=∃x a c d e,aG w b n [x.v,O U a,O U c,O U d,O U e]/\K x a c d e
abbrev mJ(w:aw)(b n:Nat)(K:Sl->Int->Int->Int->Int->Int->Int->Int->Prop):Prop:=∃x a c d e f g h,aG w b n [x.v,O U a,O U c,O U d,O U e,O U f,O U g,O U h]/\K x a c d e f g h
abbrev jC(w:aw)(b n:Nat)(K:Sl->Int->Int->Int->Int->Int->Int->Int->Int->Prop):Prop:=∃x a c d e f g h i,aG w b n [x.v,O U a,O U c,O U d,O U e,O U f,O U g,O U h,O U i]/\K x a c d e f g h i
abbrev Jj(w:aw)(b n:Nat)(K:Sl->Int->Int->Int->Int->Sl->Prop):Prop:=∃x a c d e f,aG w b n [x.v,O U a,O U c,O U d,O U e,f.v]/\K x a c d e f
abbrev qd(w:aw)(b n:Nat)(K:Sl->Int->M->M->M->Sl->Sl->Sl->Sl->Int->Prop):Prop:=∃x a c d e f g h i j,aG w b n [x.v,O U a,ae c,ae d,ae e,f.v,g.v,h.v,i.v,O U j]/\K x a c d e f g h i j
abbrev pD(k:aw)(b n:Nat)(K:Sl->Int->M->M->M->Sl->Sl->Sl->Sl->Int->Sl->Int->Int->Prop):Prop:=∃x a c d e f g h i j E w L,aG k b n [x.v,O U a,ae c,ae d,ae e,f.v,g.v,h.v,i.v,O U j,E.v,O U w,O U L]/\K x a c d e f g h i j E w L
abbrev KX(w:aw)(b n:Nat)(K:Option Nat->Prop):Prop:=∃x,aG w b n [.map x]/\K x
abbrev GW(w:aw)(b n:Nat)(K:Option Nat->Sl->Option Nat->Int->Int->Prop):Prop:=∃x a c d e,aG w b n [.map x,a.v,.map c,O U d,O U e]/\K x a c d e
abbrev U3(w:aw)(b n:Nat)(K:Option Addr->Prop):Prop:=∃x,aG w b n [ah x]/\K x
abbrev ow(w:aw)(b n:Nat)(K:Option Addr->Sl->L->Int->Prop):Prop:=∃x a c d,aG w b n [ah x,a.v,ak c,O U d]/\K x a c d
abbrev OB(w:aw)(b n:Nat)(K:Option Addr->Sl->Sl->Prop):Prop:=∃x a c,aG w b n [ah x,a.v,c.v]/\K x a c
abbrev Oi(w:aw)(b n:Nat)(K:M->Int->Prop):Prop:=∃x a,aG w b n [ae x,O U a]/\K x a
abbrev Dc(w:aw)(b n:Nat)(K:M->Int->Sl->Sl->Prop):Prop:=∃x a c d,aG w b n [ae x,O U a,c.v,d.v]/\K x a c d
abbrev R4(w:aw)(b n:Nat)(K:OV->Prop):Prop:=∃x,aG w b n [x.v]/\K x
abbrev Z0(s:Sl)(i:Int)(w:aw)(K:Int->Prop):Prop:=∃p,cM s i 1 p/\∃x,aD w p [O U x]/\K x
abbrev jS(s:Sl)(i:Int)(w:aw)(K:Int->Int->M->Int->Sl->Int->Prop):Prop:=∃p,cM s i 6 p/\∃x a b c d e,aD w p [O U x,O U a,ae b,O U c,d.v,O U e]/\K x a b c d e
abbrev ix(s:Sl)(j:Int)(k:aw)(K:Int->M->Int->L->Int->Int->M->Int->Sl->Int->Sl->Sl->Int->Prop):Prop:=∃p,cM s j 13 p/\∃x a b c d e f g h i E w P,aD k p [O U x,ae a,O U b,ak c,O U d,O U e,ae f,O U g,h.v,O U i,E.v,w.v,O U P]/\K x a b c d e f g h i E w P
abbrev Ut(s:Sl)(i:Int)(w:aw)(K:Int->M->Int->Int->Prop):Prop:=∃p,cM s i 4 p/\∃x a b c,aD w p [O U x,ae a,O U b,O U c]/\K x a b c
abbrev rm(s:Sl)(i:Int)(w:aw)(K:Int->M->Int->Int->M->Int->Sl->Int->Int->Prop):Prop:=∃p,cM s i 9 p/\∃x a b c d e f g h,aD w p [O U x,ae a,O U b,O U c,ae d,O U e,f.v,O U g,O U h]/\K x a b c d e f g h
abbrev fY(s:Sl)(i:Int)(w:aw)(K:Int->M->M->M->Sl->Sl->Sl->Sl->Int->Prop):Prop:=∃p,cM s i 9 p/\∃x a b c d e f g h,aD w p [O U x,ae a,ae b,ae c,d.v,e.v,f.v,g.v,O U h]/\K x a b c d e f g h
abbrev VC(s:Sl)(i:Int)(w:aw)(K:Sl->Prop):Prop:=∃p,cM s i 1 p/\∃x,aD w p [x.v]/\K x
abbrev Dd(s:Sl)(i:Int)(w:aw)(K:M->Prop):Prop:=∃p,cM s i 1 p/\∃x,aD w p [ae x]/\K x
abbrev acS(s:Sl)(i:Int)(w:aw)(K:M->Int->Int->Prop):Prop:=∃p,cM s i 3 p/\∃x a b,aD w p [ae x,O U a,O U b]/\K x a b
abbrev N(a:Addr):ay:=ah (Hg a)
abbrev pB(k:Nat):ay:=ah (Hg ⟨k,0,ZQ⟩)
abbrev uO(a:aw)(K:Nat->Nat->aw->Prop):Prop:=∀k l w,a.heap.size<=k->k<w.heap.size->a.heap.size<=l->l<w.heap.size->az [] a w->K k l w
abbrev FW(a:aw)(K:Nat->Nat->Nat->aw->Prop):Prop:=∀k l m w,a.heap.size<=k->k<w.heap.size->a.heap.size<=l->l<w.heap.size->a.heap.size<=m->m<w.heap.size->az [] a w->K k l m w
abbrev o0(a:aw)(K:aw->Prop):Prop:=∀w,az [] a w->K w
abbrev aiJ(f:FuncId)(a:Array ay)(m:aw)(K:Int->M->Int->L->Int->Int->M->Int->Sl->Int->Sl->Sl->Int->aw->Prop):Prop:=aA ar f a m λe n=>∃(x:Int) (b:M) (c:Int) (d:L) (g:Int) (h:Int) (i:M) (j:Int) (k:Sl) (l:Int) (E:Sl) (w:Sl) (P:Int),e=ao (ai #[O U x,ae b,O U c,ak d,O U g,O U h,ae i,O U j,k.v,O U l,E.v,w.v,O U P])/\K x b c d g h i j k l E w P n
abbrev yV(f:FuncId)(a:Array ay)(w:aw)(K:Int->M->Int->Int->M->Int->Sl->Int->Int->aw->Prop):Prop:=aA ar f a w λe l=>∃(x:Int) (b:M) (c:Int) (d:Int) (g:M) (h:Int) (i:Sl) (j:Int) (k:Int),e=ao (ai #[O U x,ae b,O U c,O U d,ae g,O U h,i.v,O U j,O U k])/\K x b c d g h i j k l
abbrev yW(f:FuncId)(a:Array ay)(w:aw)(K:Int->M->Int->Int->aw->Prop):Prop:=aA ar f a w λe g=>∃(x:Int) (b:M) (c:Int) (d:Int),e=ao (ai #[O U x,ae b,O U c,O U d])/\K x b c d g
abbrev akb(f:FuncId)(a:Array ay)(w:aw)(K:Int->aw->Prop):Prop:=aA ar f a w λe b=>∃(x:Int),e=ao (.int .u64 x)/\K x b
abbrev pS(f:FuncId)(a:Array ay)(m:aw)(K:Sl->Int->M->M->M->Sl->Sl->Sl->Sl->Int->Int->Int->aw->Prop):Prop:=aA ar f a m λe n=>∃(x:Sl) (b:Int) (c:M) (d:M) (g:M) (h:Sl) (i:Sl) (j:Sl) (k:Sl) (l:Int) (E:Int) (w:Int),e=ao (aj #[ai #[x.v,O U b,ae c,ae d,ae g,h.v,i.v,j.v,k.v,O U l],ai #[O U E,O U w]])/\K x b c d g h i j k l E w n
abbrev acU(f:FuncId)(a:Array ay)(w:aw)(K:Int->OV->aw->Prop):Prop:=aA ar f a w λe c=>∃(x:Int) (b:OV),e=ao (aj #[O U x,b.v])/\K x b c
abbrev afs(f:FuncId)(a:Array ay)(w:aw)(K:Int->Int->Int->aw->Prop):Prop:=aA ar f a w λe d=>∃(x:Int) (b:Int) (c:Int),e=ao (aj #[O U x,O U b,O U c])/\K x b c d
abbrev Uu(f:FuncId)(a:Array ay)(w:aw)(K:M->M->L->aw->Prop):Prop:=aA ar f a w λe d=>∃(x:M) (b:M) (c:L),e=ao (aj #[ae x,ae b,ak c])/\K x b c d
abbrev rVs(s:X Nat)(f:FuncId)(a:Array ay)(w:aw)(K:OV->aw->Prop):Prop:=aA ar f a w λe b=>∃(x:OV),e=ao (x.v)/\cF s w b/\K x b
abbrev fp(s:X Nat)(f:FuncId)(a:Array ay)(w:aw)(K:Int->Int->M->Int->Sl->Int->aw->Prop):Prop:=aA ar f a w λe b=>∃(x:Int) (c:Int) (d:M) (g:Int) (h:Sl) (i:Int),e=ao (ai #[O U x,O U c,ae d,O U g,h.v,O U i])/\cF s w b/\K x c d g h i b
abbrev Uv(s:X Nat)(f:FuncId)(a:Array ay)(w:aw)(K:Int->Int->aw->Prop):Prop:=aA ar f a w λe b=>∃(x:Int) (c:Int),e=ao (ai #[O U x,O U c])/\cF s w b/\K x c b
abbrev ai6(s:X Nat)(f:FuncId)(a:Array ay)(b:aw)(K:Int->M->Int->L->Int->Int->M->Int->Sl->Int->Sl->Sl->Int->aw->Prop):Prop:=aA ar f a b λe c=>∃(x:Int) (d:M) (g:Int) (h:L) (i:Int) (j:Int) (k:M) (l:Int) (m:Sl) (n:Int) (E:Sl) (w:Sl) (P:Int),e=ao (ai #[O U x,ae d,O U g,ak h,O U i,O U j,ae k,O U l,m.v,O U n,E.v,w.v,O U P])/\cF s b c/\K x d g h i j k l m n E w P c
abbrev vN(s:X Nat)(f:FuncId)(a:Array ay)(w:aw)(K:Int->M->Int->Int->aw->Prop):Prop:=aA ar f a w λe b=>∃(x:Int) (c:M) (d:Int) (g:Int),e=ao (ai #[O U x,ae c,O U d,O U g])/\cF s w b/\K x c d g b
abbrev ii(s:X Nat)(f:FuncId)(a:Array ay)(w:aw)(K:Int->M->M->M->Sl->Sl->Sl->Sl->Int->aw->Prop):Prop:=aA ar f a w λe b=>∃(x:Int) (c:M) (d:M) (g:M) (h:Sl) (i:Sl) (j:Sl) (k:Sl) (l:Int),e=ao (ai #[O U x,ae c,ae d,ae g,h.v,i.v,j.v,k.v,O U l])/\cF s w b/\K x c d g h i j k l b
abbrev eqA(s:X Nat)(f:FuncId)(a:Array ay)(w:aw)(K:M->Int->Int->aw->Prop):Prop:=aA ar f a w λe b=>∃(x:M) (c:Int) (d:Int),e=ao (ai #[ae x,O U c,O U d])/\cF s w b/\K x c d b
abbrev wN(s:X Nat)(f:FuncId)(a:Array ay)(w:aw)(K:Sl->Int->Int->aw->Prop):Prop:=aA ar f a w λe b=>∃(x:Sl) (c:Int) (d:Int),e=ao (aj #[x.v,ai #[O U c,O U d]])/\cF s w b/\K x c d b
abbrev Uw(s:X Nat)(f:FuncId)(a:Array ay)(w:aw)(K:Sl->Int->aw->Prop):Prop:=aA ar f a w λe b=>∃(x:Sl) (c:Int),e=ao (aj #[x.v,O U c])/\cF s w b/\K x c b
abbrev fP(s:X Nat)(f:FuncId)(a:Array ay)(b:aw)(K:Sl->Int->M->M->M->Sl->Sl->Sl->Sl->Int->Int->Int->aw->Prop):Prop:=aA ar f a b λe c=>∃(x:Sl) (d:Int) (g:M) (h:M) (i:M) (j:Sl) (k:Sl) (l:Sl) (m:Sl) (n:Int) (E:Int) (w:Int),e=ao (aj #[ai #[x.v,O U d,ae g,ae h,ae i,j.v,k.v,l.v,m.v,O U n],ai #[O U E,O U w]])/\cF s b c/\K x d g h i j k l m n E w c
abbrev sI(s:X Nat)(f:FuncId)(a:Array ay)(w:aw)(K:Int->Int->M->Int->Sl->Int->Int->Int->aw->Prop):Prop:=aA ar f a w λe b=>∃(x:Int) (c:Int) (d:M) (g:Int) (h:Sl) (i:Int) (j:Int) (k:Int),e=ao (aj #[ai #[O U x,O U c,ae d,O U g,h.v,O U i],ai #[O U j,O U k]])/\cF s w b/\K x c d g h i j k b
abbrev kZ(s:X Nat)(f:FuncId)(a:Array ay)(w:aw)(K:Int->Int->M->Int->Sl->Int->Int->Int->Int->aw->Prop):Prop:=aA ar f a w λe b=>∃(x:Int) (c:Int) (d:M) (g:Int) (h:Sl) (i:Int) (j:Int) (k:Int) (l:Int),e=ao (aj #[ai #[O U x,O U c,ae d,O U g,h.v,O U i],O U j,ai #[O U k,O U l]])/\cF s w b/\K x c d g h i j k l b
abbrev ab1(s:X Nat)(f:FuncId)(a:Array ay)(w:aw)(K:Int->M->Int->Int->Int->Int->aw->Prop):Prop:=aA ar f a w λe b=>∃(x:Int) (c:M) (d:Int) (g:Int) (h:Int) (i:Int),e=ao (aj #[ai #[O U x,ae c,O U d,O U g],O U h,O U i])/\cF s w b/\K x c d g h i b
abbrev rO(s:X Nat)(f:FuncId)(a:Array ay)(w:aw)(K:Int->OV->aw->Prop):Prop:=aA ar f a w λe b=>∃(x:Int) (c:OV),e=ao (aj #[O U x,c.v])/\cF s w b/\K x c b
abbrev aeA(s:X Nat)(f:FuncId)(a:Array ay)(w:aw)(K:Int->Int->Int->aw->Prop):Prop:=aA ar f a w λe b=>∃(x:Int) (c:Int) (d:Int),e=ao (aj #[O U x,O U c,O U d])/\cF s w b/\K x c d b
abbrev ah7(s:X Nat)(f:FuncId)(a:Array ay)(w:aw)(K:Int->Int->aw->Prop):Prop:=aA ar f a w λe b=>∃(x:Int) (c:Int),e=ao (aj #[O U x,O U c])/\cF s w b/\K x c b
abbrev ad9(s:X Nat)(f:FuncId)(a:Array ay)(w:aw)(K:M->L->aw->Prop):Prop:=aA ar f a w λe b=>∃(x:M) (c:L),e=ao (aj #[ae x,ak c])/\cF s w b/\K x c b
abbrev lm(s:X Nat)(f:FuncId)(a:Array ay)(w:aw)(K:M->Int->aw->Prop):Prop:=aA ar f a w λe b=>∃(x:M) (c:Int),e=ao (aj #[ae x,O U c])/\cF s w b/\K x c b
abbrev vO(x:Int)(a:Int):ay:=ai #[O U x,O U a]
abbrev bN(x:Int)(a:Int)(b:M)(c:Int)(d:Sl)(e:Int):ay:=ai #[O U x,O U a,ae b,O U c,d.v,O U e]
abbrev dZ(x:Int)(a:M)(b:Int)(c:L)(d:Int)(e:Int)(f:M)(g:Int)(h:Sl)(i:Int)(E:Sl)(w:Sl)(P:Int):ay:=ai #[O U x,ae a,O U b,ak c,O U d,O U e,ae f,O U g,h.v,O U i,E.v,w.v,O U P]
abbrev mX(x:Int)(a:M)(b:Int)(c:Int):ay:=ai #[O U x,ae a,O U b,O U c]
abbrev ML(x:Int)(a:M)(b:Int)(c:Int)(d:Int):ay:=ai #[O U x,ae a,O U b,O U c,O U d]
abbrev iy(x:Int)(a:M)(b:Int)(c:Int)(d:M)(e:Int)(f:Sl)(g:Int)(h:Int):ay:=ai #[O U x,ae a,O U b,O U c,ae d,O U e,f.v,O U g,O U h]
abbrev bS(x:Int)(a:M)(b:M)(c:M)(d:Sl)(e:Sl)(f:Sl)(g:Sl)(h:Int):ay:=ai #[O U x,ae a,ae b,ae c,d.v,e.v,f.v,g.v,O U h]
abbrev cK(x:Sl)(a:Int)(b:M)(c:M)(d:M)(e:Sl)(f:Sl)(g:Sl)(h:Sl)(i:Int):ay:=ai #[x.v,O U a,ae b,ae c,ae d,e.v,f.v,g.v,h.v,O U i]
abbrev PE(x:M)(a:Int)(b:Int):ay:=ai #[ae x,O U a,O U b]
abbrev sT(a:Addr)(w:aw)(n:Nat)(K:Nat->Nat->aJ->Nat->Prop):Prop:=∃b i z t,a=⟨b,i,ZQ⟩/\aG w b t z/\i+n<=Z8 z/\K b i z t
abbrev sS(a:aw)(b i:Nat)(z:aJ)(t:Nat)(v:aJ)(K:aw->Prop):Prop:=∀w,az [b] a w->aG w b t (eY z i v)->K w
abbrev nG(t:TypeId)(v:ay)(w:aw)(K:Sl->aw->Prop):Prop:=S0 (av t 1 #[.mk 0 v]) w K
abbrev LD(t:TypeId)(v a:ay)(w:aw)(K:Sl->aw->Prop):Prop:=S0 (av t 2 #[.mk 0 v,.mk 1 a]) w K
abbrev BI(t:TypeId)(v a b:ay)(w:aw)(K:Sl->aw->Prop):Prop:=S0 (av t 3 #[.mk 0 v,.mk 1 a,.mk 2 b]) w K
abbrev Z3(t:TypeId)(v a b c:ay)(w:aw)(K:Sl->aw->Prop):Prop:=S0 (av t 4 #[.mk 0 v,.mk 1 a,.mk 2 b,.mk 3 c]) w K
abbrev yY(t:TypeId)(l m:Sl)(w:aw)(K:Sl->aw->Prop):Prop:=S0 (Builtin.append_ #[t,t] t #[l.v,m.v]) w K
abbrev G(f:FuncId)(a:Array ay)(w:aw)(R:aH):Prop:=aA ar f a w λe b=>∃v,e=ao v/\R v b
def sv1:ay->SV
 | .int k n=>SV.int k n
 | ak b=>SV.bt b
 | ae s=>SV.str s
 | ah (Hg a)=>SV.ad a
 | .slice a n c=>SV.sl ⟨a,n,c⟩
 | .map m=>SV.map m
 | _=>SV.un
def Wg:ay->SV
 | ai c=>SV.agg (Gx (c.toList.map sv1))
 | v=>sv1 v
section
variable {f:FuncId} {args:X SV} {R:aH} {w:aw} {vs:Array ay} {vc:Prop}
def fB{an:Ann}(h:vc)(v:vs=(cV β0 args).toArray:=by kernel_rfl)(e:vc=ZO ar f an args R w:=by kernel_rfl):G f vs w R:=aj8 Tryz.checked.mixed v e h
def fC(a:Ann)(h:vc)(v:vs=(cV β0 (vs.toList.map Wg)).toArray:=by kernel_rfl)(e:vc=ZO ar f a (vs.toList.map Wg) R w:=by kernel_rfl):G f vs w R:=fB h v e
def E:Lf:=Lf.int IntKind.i64
def iA(h:vc)(v:vs=(cV β0 (vs.toList.map Wg)).toArray:=by kernel_rfl)(e:vc=ZO ar f .o (vs.toList.map Wg) R w:=by kernel_rfl):G f vs w R:=fB h v e
end
variable {R:aH}{w:aw}
def arx{s:M}(z:uO w λk a D=>fP [k,a] 33 #[ae s] D λl e p q r j m n o f g A F=>uO F λb k3 t=>KG (λi h u=>Q (i !=0) (o0 u λH=>k≠a->k≠b->k≠k3->a≠b->a≠k3->b≠k3->∃J:aK,J k3/\qV J k/\qV J a/\∀v,az [a,k] H v->R (aj #[cK Sl.nil 0 (aq #[]) (aq #[]) (aq #[]) Sl.nil Sl.nil Sl.nil Sl.nil 0,vO i h]) v) (o0 u λI=>k≠a->k≠b->k≠k3->a≠b->a≠k3->b≠k3->∃c:aK,c k3/\qV c k/\qV c a/\∀x,az [a,k] I x->R (aj #[cK l e p q r j m n o f,vO i h]) x)) λd=>Q (g==0) (Uv [k,a,b,k3] 34 #[cK l e p q r j m n o f] t λB C K=>∀y,az [k3] K y->d B C y) (d g A t)):G 6 #[ae s] w R:=
 fC (.d 2 (.j [2,3,4,5] [.b 5 [E,E]] .o .o)) z
def ary{c:Sl}{f:Int}{g h j:M}{l m n o:Sl}{p:Int}(W:uO w λb a w0=>Uw [b,a] 45 #[cK c f g h j l m n o p] w0 λl0 C z=>Q (C !=0) (∀L,az [a] z L->R (vO C (-1)) L) (∃I r,((Instr.makeMap 149 ZQ).run ar z)=(.ok (.map I) r)/\cF [b,a] z r/\∃K A,((Instr.makeMap 149 ZQ).run ar r)=(.ok (.map K) A)/\cF [b,a] r A/\P A λk N=>aG N k 151 [.map I,Sl.nil.v,.map K,O U 0,O U 0]->F [b,a] 80 #[pB k,bS f g h j l m n o p] N λS=>GW S k 151 λm2 l1 m3 X Z=>∃J:Nat->Int->Option Nat->Sl->Option Nat->Int->Int->aw->Prop,∃k3:Nat,J k3 0 m2 l1 m3 X Z S/\∀D e y,∀H:Sl,∀q v x s,J D e y H q v x s->Q (VM (e<(c.n:Int))) (acS c e s λs0 i6 i7=>P s λk5 T=>aG T k 151 [.map y,H.v,.map q,O U v,O U x]->F [b,a,k5] 81 #[pB k,.map q,ae s0,O U e,O U i7] T λV=>GW V k 151 λm6 l3 m7 i8 i9=>nx D λk6=>J k6 (au U (e+1)) m6 l3 m7 i8 i9 V) (∀t,az [k] s t->aG t k 151 [.map y,l0.v,.map q,O U v,O U x]->b≠k->a≠k->pC [b,a] 82 #[pB k,bS f g h j l m n o p,O U 0] t λY B=>GW B k 151 λm8 l4 m9 i d=>∀u,az [a] B u->aG u k 151 [.map m8,l4.v,.map m9,O U i,O U d]->R (vO i d) u))):G 34 #[cK c f g h j l m n o p] w R:=
 fC (.d 5 (.s (.s .o (.j [1,2,3,5,20,26,27] [.s 28 E,.b 20 [.map,.sl,.map,E,E]] .o .o)) .o)) W
def arz(c:Sl)(a:Int){b d e:M}(f g h i:Sl)(j:Int)(R:aH)(w:aw)(q:P w λm s=>pC [m] 103 #[cK c a b d e f g h i j] s λl n=>Q (l !=0) (R (aj #[Sl.nil.v,O U l]) n) (P n λk o=>aG o k 178 [Sl.nil.v]->F [m] 104 #[pB k,bS a b d e f g h i j,O U (-1),O U 0] o λp=>Us p k 178 λr=>R (aj #[r.v,O U 0]) p)):G 45 #[cK c a b d e f g h i j] w R:=
 iA q
def akc{c:Sl}{v:Int}{x y z:M}{B C D H:Sl}{I:Int}(g8:uO w λh a w0=>Uw [h,a] 89 #[cK c v x y z B C D H I] w0 λl0 i0 w1=>Q (i0 !=0) (∀w2,az [a] w1 w2->R (vO i0 (-1)) w2) (P w1 λk w3=>sH [h,a,k] 90 #[bS v x y z B C D H I,Sl.nil.v] w3 λl1 w4=>∃J0:Nat->Int->Sl->Int->M->M->M->Sl->Sl->Sl->Sl->Int->Sl->Int->Int->aw->Prop,∃k3:Nat,J0 k3 0 c v x y z B C D H I l0 0 0 w4/\∀k4 u,∀l2:Sl,∀i2 s0 s1 s2,∀l3 l4 l5 l6:Sl,∀i3,∀l7:Sl,∀i4 i5 w5,J0 k4 u l2 i2 s0 s1 s2 l3 l4 l5 l6 i3 l7 i4 i5 w5->Q (VM (u<(l0.n:Int))) (∃J1:Sl->Int->M->M->M->Sl->Sl->Sl->Sl->Int->Sl->Int->Int->aw->Prop,(∀l8:Sl,∀i6 s3 s4 s5,∀l9 V pr pL:Sl,∀i7,∀xx:Sl,∀i8 i9 w6,J1 l8 i6 s3 s4 s5 l9 V pr pL i7 xx i8 i9 w6->nx k4 λk5=>J0 k5 (au U (u+1)) l8 i6 s3 s4 s5 l9 V pr pL i7 xx i8 i9 w6)/\∃p0,cM l0 u 5 p0/\Eo w5 (p0.add 1) λs6=>pC [h,a,k] 49 #[l0.v,ae s6] w5 λam w7=>Q (am !=u) (Z0 l1 u w7 λaC=>(aG w7 k 162 [l2.v,O U i2,ae s0,ae s1,ae s2,l3.v,l4.v,l5.v,l6.v,O U i3,l7.v,O U i4,O U i5]->h≠k->a≠k->F [h,a] 91 #[pB k,O U 24,O U aC] w7 λw8=>pD w8 k 162 λAb aS s7 s8 s9 A4 H5 Tj W7 aT YP bv bV=>J1 Ab aS s7 s8 s9 A4 H5 Tj W7 aT YP bv bV w8)) (J1 l2 i2 s0 s1 s2 l3 l4 l5 l6 i3 l7 i4 i5 w7)) (∃J2:Nat->Int->Sl->Int->M->M->M->Sl->Sl->Sl->Sl->Int->Sl->Int->Int->aw->Prop,∃k6:Nat,J2 k6 0 l2 i2 s0 s1 s2 l3 l4 l5 l6 i3 l7 i4 i5 w5/\∀k7 i,∀Tl:Sl,∀j Ey xQ EV,∀YQ p q r:Sl,∀m,∀s:Sl,∀n o w9,J2 k7 i Tl j Ey xQ EV YQ p q r m s n o w9->Q (VM (i<(c.n:Int))) (∃J3:Nat->Int->Sl->Int->M->M->M->Sl->Sl->Sl->Sl->Int->Sl->Int->Int->aw->Prop,∃k8:Nat,J3 k8 0 Tl j Ey xQ EV YQ p q r m s n o w9/\∀k9 b,∀l:Sl,∀d F4 Lb F5,∀YR YS YU YV:Sl,∀e,∀YW:Sl,∀f g t,J3 k9 b l d F4 Lb F5 YR YS YU YV e YW f g t->Q (VM (b<i)) (∃J4:Sl->Int->M->M->M->Sl->Sl->Sl->Sl->Int->Sl->Int->Int->aw->Prop,(∀W:Sl,∀J Ss W8 NH,∀X Y Z QO:Sl,∀K,∀QP:Sl,∀L N dz,J4 W J Ss W8 NH X Y Z QO K QP L N dz->nx k9 λrH=>J3 rH (au U (b+1)) W J Ss W8 NH X Y Z QO K QP L N dz)/\∃p2,cM c b 3 p2/\Eo t (p2.add 0) λgO=>∃p3,cM c i 3 p3/\Eo t (p3.add 0) λQS=>Q (gO.toList==QS.toList) (∃p4,cM c i 3 p4/\o0 t λeF=>A eF (p4.add 2) λbY=>(aG eF k 162 [l.v,O U d,ae F4,ae Lb,ae F5,YR.v,YS.v,YU.v,YV.v,O U e,YW.v,O U f,O U g]->h≠k->a≠k->F [h,a] 91 #[pB k,O U 24,O U bY] eF λeM=>pD eM k 162 λSu cc Lc QT Ld QU W9 Xa Xb ce QV co cC=>J4 Su cc Lc QT Ld QU W9 Xa Xb ce QV co cC eM)) (o0 t λfR=>J4 l d F4 Lb F5 YR YS YU YV e YW f g fR)) (nx k7 λpM=>J2 pM (au U (i+1)) l d F4 Lb F5 YR YS YU YV e YW f g t)) (aG w9 k 162 [Tl.v,O U j,ae Ey,ae xQ,ae EV,YQ.v,p.v,q.v,r.v,O U m,s.v,O U n,O U o]->h≠k->a≠k->pC [h,a] 92 #[pB k,bS v x y z B C D H I,O U 0] w9 λg9 gV=>pD gV k 162 λeQ dO gT Sv Tm fd f5 ge gE el gG S T=>∀iO,az [a] gV iO->aG iO k 162 [eQ.v,O U dO,ae gT,ae Sv,ae Tm,fd.v,f5.v,ge.v,gE.v,O U el,gG.v,O U S,O U T]->R (vO S T) iO)))):G 36 #[cK c v x y z B C D H I] w R:=
 fC (.d 5 (.s (.s .o (.j [1,2,3,5,6,22] [.s 7 E,.b 22 [.sl,E,.str,.str,.str,.sl,.sl,.sl,.sl,E,.sl,E,E]] (.s .o (.j [1,2,3,5,6,7,22] [.b 22 [.sl,E,.str,.str,.str,.sl,.sl,.sl,.sl,E,.sl,E,E]] .o .o)) .o)) (.s (.s .o (.j [1,2,5,22] [.s 8 E,.b 22 [.sl,E,.str,.str,.str,.sl,.sl,.sl,.sl,E,.sl,E,E]] (.s .o (.s (.s .o (.j [1,2,5,8,22] [.s 9 E,.b 22 [.sl,E,.str,.str,.str,.sl,.sl,.sl,.sl,E,.sl,E,E]] (.s .o (.j [1,2,5,8,9,22] [.b 22 [.sl,E,.str,.str,.str,.sl,.sl,.sl,.sl,E,.sl,E,E]] .o .o)) .o)) .o)) .o)) .o))) g8
def akd{c:Sl}{a:Int}{b d e:M}{f g h i:Sl}{j:Int}(k:P w λl n=>sH [l] 107 #[Sl.nil.v,bS a b d e f g h i j,O U (-1),O U 0] n λm o=>R m.v o):G 47 #[cK c a b d e f g h i j] w R:=
 iA k
def ake{l:Sl}{name:M}(h:nr 0 w λJ k i a=>Q (VM (i<(l.n:Int))) (∃p0,cM l i 5 p0/\Eo a (p0.add 1) λs=>Q (s.toList==name.toList) (R (O U i) a) (nx k λb=>J b (au U (i+1)) a)) (R (O U (-1)) a)):G 49 #[l.v,ae name] w R:=
 fC (.s .o (.s (.s .o (.j [0,1] [.s 5 E] .o .o)) .o)) h
def acX(s:Sl)(f:OV)(R:aH)(w:aw)(h:cI 122 #[s.v,f.v] w λi a=>R (ak (VM (i>=0))) a):G 127 #[s.v,f.v] w R:=
 fB (an:=.o) (args:=[.sl s,.raw f]) h
def acY(l:Sl)(a b:Int)(R:aH)(w:aw):Prop:=
 ∃p0,((((VM (b>=0))&&(VM (b<(l.n:Int))))&&(VM (a>b)))=aF->cM l b 5 p0)/\
 ∃i,((((VM (b>=0))&&(VM (b<(l.n:Int))))&&(VM (a>b)))=aF->aD w (p0.add 4) [O U i])/\
 R (ak ((((VM (b>=0))&&(VM (b<(l.n:Int))))&&(VM (a>b)))&&(VM (a<i)))) w
def akf{l:Sl}{a b:Int}(h:acY l a b R w):G 67 #[l.v,O U a,O U b] w R:=
 iA h
def arA{l:Sl}{a b:Int}(h:ob (λc e=>R (ak c) e) λJ=>Q (a !=b) (cB 123 #[l.v,O U b,O U a] w λd f=>J d f) (J aM w)):G 60 #[l.v,O U a,O U b] w R:=
 fC (.s .o (.s (.j [] [.s 6 .bool] .o .o) .o)) h
def akg{s:M}(WP:uO w λb c w0=>wN [b,c] 72 #[ae s] w0 λl0 i0 i1 w1=>Q (i0 !=0) (P w1 λk2 w2=>b≠c->b≠k2->c≠k2->∃J0:aK,J0 k2/\qV J0 b/\qV J0 c/\∀w3,az [c,b] w2 w3->R (aj #[cK Sl.nil 0 (aq #[]) (aq #[]) (aq #[]) Sl.nil Sl.nil Sl.nil Sl.nil 0,vO i0 i1]) w3) (FW w1 λk3 k a w4=>nG 37 (ae (aq #[99,104,97,114,116])) w4 λl1 w5=>cF [b,c,k3,k,a] w4 w5/\(aG w5 k 138 [l0.v,O U 0,O U 0,O U 0,O U 16,O U 64,O U 12,O U 200,O U 400]->b≠k->c≠k->k3≠k->a≠k->F [b,c,k3,a] 73 #[pB k,l1.v] w5 λw6=>jC w6 k 138 λl2 i2 i3 i4 i5 i6 i7 i8 i9=>ii [b,c,k3,a] 74 #[pB k,O U 1] w6 λiS s0 s1 s2 l3 l4 l5 l6 lE w7=>jC w7 k 138 λl7 lT mt mK nO oF oN oR pi=>∀w8,az [a] w7 w8->aG w8 k 138 [l7.v,O U lT,O U mt,O U mK,O U nO,O U oF,O U oN,O U oR,O U pi]->nG 37 (ae (aq #[123])) w8 λl8 w9=>cF [b,c,k3,k,a] w8 w9/\F [b,c,k3,a] 73 #[pB k,l8.v] w9 λdk=>jC dk k 138 λl9 pm pP qr ro rx tO ut uP=>∃J1:Nat->Sl->Int->M->M->M->Sl->Sl->Sl->Sl->Int->Sl->Int->Int->Int->Int->Int->Int->Int->Int->aw->Prop,∃k6:Nat,J1 k6 Sl.nil iS s0 s1 s2 l3 l4 l5 l6 lE l9 pm pP qr ro rx tO ut uP dk/\∀k7,∀I:Sl,∀v s3 s4 s5,∀pr pL xx Ab:Sl,∀x,∀A4:Sl,∀wd wf As AC AS AT Bv BV dz,J1 k7 I v s3 s4 s5 pr pL xx Ab x A4 wd wf As AC AS AT Bv BV dz->nG 37 (ae (aq #[118,97,114])) dz λH5 eF=>cF [b,c,k3,k,a] dz eF/\pC [b,c,k3,a] 75 #[pB k,H5.v] eF λBY eM=>jC eM k 138 λTj Cc CC Do DO EQ Fd Fn FS=>Q (VM (BY>0)) (o0 eM λfR=>aG fR k 138 [Tj.v,O U Cc,O U CC,O U Do,O U DO,O U EQ,O U Fd,O U Fn,O U FS]->∃J2:aK,J2 a/\eqA [b,c,k3,a] 76 #[pB k] fR λs6 Ge Gg V=>jC V k 138 λW7 aS aT bv bV bY cc ce co=>cj J2 fR V/\nG 23 (PE s6 Ge Gg) V λYP iO=>cF [b,c,k3,k,a] V iO/\cj J2 V iO/\yY 23 I YP iO λTl iz=>cF [b,c,k3,k,a] iO iz/\cj J2 iO iz/\∀iU,az [a] iz iU->aG iU k 138 [W7.v,O U aS,O U aT,O U bv,O U bV,O U bY,O U cc,O U ce,O U co]->nx k7 λk8=>J1 k8 Tl v s3 s4 s5 pr pL xx Ab x W7 aS aT bv bV bY cc ce co iU) (aG eM a 30 [I.v,O U v,ae s3,ae s4,ae s5,pr.v,pL.v,xx.v,Ab.v,O U x]->b≠a->c≠a->k3≠a->F [b,c,k3] 77 #[pB k,N ⟨a,1,ZQ⟩] eM λli=>jC li k 138 λYQ Gt GE GG GO GT H1 Id If=>qd li a 30 λOF Is s7 s8 s9 ON OR Pi Pp ID=>∃J3:Sl->Int->M->M->M->Sl->Sl->Sl->Sl->Int->Sl->Int->Int->Int->Int->Int->Int->Int->Int->aw->Prop,(∀YR:Sl,∀IF Ey xQ EV,∀YS YU YV YW:Sl,∀IN,∀RK:Sl,∀IO IS Le Lt LT MK Nm No jN,J3 YR IF Ey xQ EV YS YU YV YW IN RK IO IS Le Lt LT MK Nm No jN->jM [b,c,k3] 78 #[pB k] jN λb0 mD=>jC mD k 138 λJ y d e z B C D H=>qd mD a 30 λl f F4 Lb F5 h QO QP Su g=>Q (!b0) (o0 mD λra=>aG ra k 138 [J.v,O U y,O U d,O U e,O U z,O U B,O U C,O U D,O U H]->aG ra a 30 [l.v,O U f,ae F4,ae Lb,ae F5,h.v,QO.v,QP.v,Su.v,O U g]->b≠c->b≠k3->b≠k->b≠a->c≠k3->c≠k->c≠a->k3≠k->k3≠a->k≠a->∃J4:aK,J4 k/\qV J4 b/\qV J4 c/\∀tw,az [c,b] ra tw->aG tw k 138 [J.v,O U y,O U d,O U e,O U z,O U B,O U C,O U D,O U H]->aG tw a 30 [l.v,O U f,ae F4,ae Lb,ae F5,h.v,QO.v,QP.v,Su.v,O U g]->R (aj #[cK Sl.nil 0 (aq #[]) (aq #[]) (aq #[]) Sl.nil Sl.nil Sl.nil Sl.nil 0,vO d e]) tw) (∀vh,az [c,b] mD vh->aG vh k 138 [J.v,O U y,O U d,O U e,O U z,O U B,O U C,O U D,O U H]->aG vh a 30 [l.v,O U f,ae F4,ae Lb,ae F5,h.v,QO.v,QP.v,Su.v,O U g]->R (aj #[cK l f F4 Lb F5 h QO QP Su g,vO 0 0]) vh))/\∃J5:L->Sl->Int->M->M->M->Sl->Sl->Sl->Sl->Int->Sl->Int->Int->Int->Int->Int->Int->Int->Int->aw->Prop,(∀b1,∀QU:Sl,∀cC Ss W8 NH,∀W9 Xa Xb QV:Sl,∀dO,∀gT:Sl,∀el eQ fd f5 ge gE gG gO pN,J5 b1 QU cC Ss W8 NH W9 Xa Xb QV dO gT el eQ fd f5 ge gE gG gO pN->Q b1 (F [b,c,k3] 79 #[pB k] pN λqR=>jC qR k 138 λSo NO Of Or S T W X Y=>qd qR a 30 λST Z WF QS Lc To TO UP UV am=>J3 ST Z WF QS Lc To TO UP UV am So NO Of Or S T W X Y qR) (J3 QU cC Ss W8 NH W9 Xa Xb QV dO gT el eQ fd f5 ge gE gG gO pN))/\o0 li λtB=>aG tB k 138 [YQ.v,O U Gt,O U GE,O U GG,O U GO,O U GT,O U H1,O U Id,O U If]->aG tB a 30 [OF.v,O U Is,ae s7,ae s8,ae s9,ON.v,OR.v,Pi.v,Pp.v,O U ID]->jM [b,c,k3] 78 #[pB k] tB λb2 xy=>jC xy k 138 λK i j m n o p q r=>qd xy a 30 λg8 t QT Ld iN g9 ip iD iF u=>Q b2 (∃p0,cM K i 4 p0/\A xy (p0.add 0) λaC=>J5 (aC !=5) g8 t QT Ld iN g9 ip iD iF u K i j m n o p q r xy) (J5 aM g8 t QT Ld iN g9 ip iD iF u K i j m n o p q r xy))))):G 33 #[ae s] w R:=
 fC (.d 8 (.s (.j [2,3,5,6,7,22] [.b 7 [.sl,E,.str,.str,.str,.sl,.sl,.sl,.sl,E],.b 22 [.sl,E,E,E,E,E,E,E,E]] .o .o) (.s .o (.j [2,3,5,6,7,22] [.b 7 [.sl,E,.str,.str,.str,.sl,.sl,.sl,.sl,E],.b 22 [.sl,E,E,E,E,E,E,E,E]] (.s (.j [2,3,5,6,7,22] [.s 71 .bool,.b 7 [.sl,E,.str,.str,.str,.sl,.sl,.sl,.sl,E],.b 22 [.sl,E,E,E,E,E,E,E,E]] .o .o) .o) .o)))) WP
def arB{k:Addr}{D:Int}{u I W:M}{T V H n:Sl}{r:Int}(h:P w λa b=>VV b (k.add 0) λC=>jp b (k.add 1) λs=>F [a] 81 #[N k,.map C,ae u,O U (s.n:Int),O U r] b λc=>jp c (k.add 1) λt=>nG 44 (ML 0 (aq #[]) 0 0 0) c λv d=>cF [a] c d/\yY 44 t v d λx e=>cF [a] d e/\sT (k.add 1) e 1 λg m z0 k3=>a≠g/\sS e g m z0 k3 [x.v] λX=>nr 0 X λJ o i f=>Q (VM (i<(n.n:Int))) (fY n i f λj K L S y z A B l=>P f λp Y=>F [a,p] 80 #[N k,bS j K L S y z A B l] Y λZ=>nx o λq=>J q (au U (i+1)) Z) (R (aj #[]) f)):G 80 #[N k,bS D u I W T V H n r] w R:=
 fC (.d 4 (.j [0,3,32,33] [.s 34 E] .o .o)) h
def akh{k:Addr}{m:Option Nat}{name:M}{p a:Int}(h:∃i b c,((Instr.lookup 149 (.map m) (ae name) aF).run ar w)=(.ok (aj #[O U i,ak b]) c)/\cU 141 #[N k,ak (!b),O U 24,O U a] c λd=>Q (!b) (∃e,((Instr.mapUpdate 149 (.map m) (ae name) (O U p)).run ar d)=(.ok () e)/\R (aj #[]) e) (R (aj #[]) d)):G 81 #[N k,.map m,ae name,O U p,O U a] w R:=
 iA h
def arC{k:Addr}{s:Int}{v I V:M}{h S q n:Sl}{u t:Int}(L:P w λa w0=>F [a] 142 #[N k,bS s v I V h S q n u,O U t] w0 λx=>LD 72 h.v S.v x λl0 y=>cF [a] x y/\F [a] 143 #[N k,l0.v] y λw3=>nr 0 w3 λB k2 i j=>Q (VM (i<(q.n:Int))) (ix q i j λT s0 o b0 W X s1 Y l1 Z l2 l3 p=>P j λk3 w5=>F [a,k3] 141 #[N k,ak ((T !=3)||((VM (o>0))&&(VM (o<=1099511627776)))),O U 28,O U p] w5 λw6=>F [a,k3] 144 #[N k,bN W X s1 Y l1 Z] w6 λz=>nG 72 l2.v z λl4 A=>cF [a,k3] z A/\F [a,k3] 143 #[N k,l4.v] A λw9=>o0 w9 λl=>∃J:aK,J k3/\jM [a,k3] 145 #[N k,l3.v] l λD d=>cj J l d/\F [a,k3] 141 #[N k,ak D,O U 27,O U p] d λm=>cj J d m/\nx k2 λk4=>B k4 (au U (i+1)) m) (Fg (au U (t+1)) 0 j λC k6 r g e=>Q (VM (g<(n.n:Int))) (fY n g e λb s2 s3 s4 l5 l6 l7 l8 c=>P e λk7 H=>pC [a,k7] 82 #[N k,bS b s2 s3 s4 l5 l6 l7 l8 c,O U r] H λf K=>nx k6 λk8=>C k8 f (au U (g+1)) K) (R (O U r) e))):G 82 #[N k,bS s v I V h S q n u,O U t] w R:=
 fC (.d 3 (.s (.s .o (.j [0,2,4,23,24] [.s 25 E] .o .o)) (.s .o (.s (.s .o (.j [0,4,8,67,68] [.s 2 E,.s 69 E] .o .o)) .o)))) L
def aki{c:Sl}{a:Int}{b d e:M}{f g h i:Sl}{j:Int}(k:P w λm n=>lm [m] 165 #[cK c a b d e f g h i j] n λs l o=>R (O U l) o):G 103 #[cK c a b d e f g h i j] w R:=
 iA k
def arD{l:Addr}{m:Int}{u Y uV:M}{tR tS W n:Sl}{Z p d:Int}(s:P w λk q=>jp q (l.add 0) λj=>o0 q λb=>∃J:aK,J ((l.add 0).block)/\jp b (l.add 0) λC=>nG 176 (ML m u p d 0) b λD a=>cF [k] b a/\cj J b a/\yY 176 C D a λH c=>cF [k] a c/\cj J a c/\sT (l.add 0) c 1 λg x z0 k3=>k≠g/\sS c g x z0 k3 [H.v] λw4=>nr 0 w4 λr y i f=>Q (VM (i<(n.n:Int))) (fY n i f λt s0 s1 s2 I K L S v=>P f λz w6=>F [k,z] 104 #[N l,bS t s0 s1 s2 I K L S v,O U (j.n:Int),O U (au U (d+1))] w6 λw7=>nx y λA=>r A (au U (i+1)) w7) (o0 f λe=>jp e (l.add 0) λT=>jp e (l.add 0) λV=>∃o,cM T (j.n:Int) 5 o/\sT (o.add 4) e 1 λh B z1 X=>k≠h/\sS e h B z1 X [O U (V.n:Int)] λw9=>R (aj #[]) w9)):G 104 #[N l,bS m u Y uV tR tS W n Z,O U p,O U d] w R:=
 fC (.d 3 (.s (.s .o (.j [0,3,5,8,33,34] [.s 35 E] .o .o)) .o)) s
def akj{c:Sl}{a:Int}{b d e:M}{f g h i:Sl}{j:Int}(n:P w λl p=>lm [l] 159 #[cK c a b d e f g h i j] p λs k m=>Q (k !=0) (R (aj #[Sl.nil.v,O U k]) m) (sH [l] 47 #[cK c a b d e f g h i j] m λo q=>R (aj #[o.v,O U 0]) q)):G 89 #[cK c a b d e f g h i j] w R:=
 iA n
def akk{v:Int}{C I V:M}{B S x n:Sl}{r:Int}{l:Sl}(h:P w λk d=>nG 43 (O U r) d λm a=>cF [k] d a/\yY 43 l m a λo e=>cF [k] a e/\Fg o 0 e λJ j c i b=>Q (VM (i<(n.n:Int))) (fY n i b λf y z A p q s t g=>sH [k] 90 #[bS f y z A p q s t g,c.v] b λu D=>nx j λk3=>J k3 u (au U (i+1)) D) (R c.v b)):G 90 #[bS v C I V B S x n r,l.v] w R:=
 fC (.d 2 (.s (.s .o (.j [2] [.s 1 .sl,.s 5 E] .o .o)) .o)) h
def akl{k:Addr}{e a:Int}(h:A w ((k.add 11).add 0) λi=>Q (i==0) (sT (k.add 11) w 2 λb c z d=>sS w b c z d [O U e,O U a] λf=>R (aj #[]) f) (R (aj #[]) w)):G 91 #[N k,O U e,O U a] w R:=
 iA h
def akm{k:Addr}{e:Int}{u r V:M}{t S q n:Sl}{J a:Int}(h:P w λd A=>F [d] 160 #[N k,bS e u r V t S q n J,O U a] A λB=>Fg (au U (a+1)) 0 B λf m c i b=>Q (VM (i<(n.n:Int))) (fY n i b λg x y z o p s v j=>pC [d] 92 #[N k,bS g x y z o p s v j,O U c] b λl C=>nx m λk3=>f k3 l (au U (i+1)) C) (R (O U c) b)):G 92 #[N k,bS e u r V t S q n J,O U a] w R:=
 fC (.d 3 (.s (.s .o (.j [0,4] [.s 2 E,.s 7 E] .o .o)) .o)) h
def akn{l:Sl}{f:Int}{u I V:M}{N S D n:Sl}{F p d:Int}(m:P w λk h=>nG 44 (ML f u p d 0) h λv c=>cF [k] h c/\yY 44 l v c λx j=>cF [k] c j/\Fg x 0 j λJ r a i b=>Q (VM (i<(n.n:Int))) (fY n i b λo H K L y z A B q=>sH [k] 107 #[a.v,bS o H K L y z A B q,O U (l.n:Int),O U (au U (d+1))] b λC T=>nx r λk3=>J k3 C (au U (i+1)) T) (∃g,cM a (l.n:Int) 5 g/\sT (g.add 4) b 1 λe s X t=>k≠e/\sS b e s X t [O U (a.n:Int)] λW=>R a.v W)):G 107 #[l.v,bS f u I V N S D n F,O U p,O U d] w R:=
 fC (.d 3 (.s (.s .o (.j [3,5,9] [.s 0 .sl,.s 10 E] .o .o)) .o)) m
def acZ(s:Sl)(f:OV)(R:aH)(a:aw)(h:nr 0 a λJ j i w=>Q (VM (i<(s.n:Int))) (Z0 s i w λg=>∃k:Nat,∃z d,f.v=(.func (.func k) z.toArray d.toArray)/\(∀x:Array ay,∀b,((callFunc k x).run ar b)=(.ok (.enter k x) b))/\cB k ((yQ (yQ z [O U g]) d).toArray) w λe c=>Q e (R (O U i) c) (nx j λk3=>J k3 (au U (i+1)) c)) (R (O U (-1)) w)):G 122 #[s.v,f.v] a R:=
 fB (an:=.s .o (.s (.s .o (.j [0,1,7] [.s 8 (.int .i64)] .o .o)) .o)) (args:=[.sl s,.raw f]) h
def ako(kind:Int){R:aH}(w:aw)(h:R (ak ((kind==3)||(kind==4))) w):G 118 #[O U kind] w R:=
 iA h
def arE{r:Sl}{b a:Int}(h:ob (λf j=>R (ak f) j) λJ=>cB 169 #[r.v,O U a] w λg d=>Q g (cB 169 #[r.v,O U b] d λc e=>∃p0,((c&&(VM (b<=a)))=aF->cM r b 5 p0)/\∃i,((c&&(VM (b<=a)))=aF->aD e (p0.add 4) [O U i])/\J ((c&&(VM (b<=a)))&&(VM (a<i))) e) (J aM d)):G 123 #[r.v,O U b,O U a] w R:=
 fC (.s .o (.s (.j [] [.s 6 .bool] .o .o) .o)) h
def akp{s:M}(u:Q (VM ((s.size:Int)>16384)) (P w λk0 Z=>R (aj #[Sl.nil.v,vO 2 (-1)]) Z) (P w λa w1=>sH [a] 130 #[] w1 λB w2=>P w2 λk n=>aG n k 203 [ae s,O U 0,B.v,Sl.nil.v]->F [a] 131 #[pB k] n λo=>Dc o k 203 λT v C D=>∃J:Nat->Int->Int->M->Int->Sl->Sl->aw->Prop,∃k3:Nat,J k3 0 0 T v C D o/\∀m i g V x,∀H I:Sl,∀q,J m i g V x H I q->jM [a] 132 #[pB k] q λt b=>Dc b k 203 λs2 i4 l5 l6=>Q (!t) (pC [a] 133 #[pB k] b λh c=>Dc c k 203 λW j K L=>Q (h !=0) (∀e,az [a] c e->aG e k 203 [ae W,O U j,K.v,L.v]->R (aj #[Sl.nil.v,vO h j]) e) (F [a] 131 #[pB k] c λr=>Dc r k 203 λX y N l=>nx m λA=>J A i g X y N l r)) (F [a] 134 #[pB k,mX 5 (aq #[]) 0 0,O U 0] b λf=>Dc f k 203 λY z S p=>∀d,az [a] f d->aG d k 203 [ae Y,O U z,S.v,p.v]->R (aj #[p.v,vO 0 0]) d))):G 72 #[ae s] w R:=
 fC (.d 3 (.s (.s .o (.j [3,4,14] [.b 3 [E,E],.b 14 [.str,E,.sl,.sl]] .o .o)) .o)) u
def akq{c:Addr}{texts:Sl}(h:nr 0 w λd k i a=>Q (VM (i<(texts.n:Int))) (xH (λg=>nx k λf=>d f (au U (i+1)) g) λJ=>Dd texts i a λs=>nG 37 (ae s) a λl j=>cI 75 #[N c,l.v] j λe b=>Q (e==0) (cU 79 #[N c] b λm=>J m) (J b)) (R (aj #[]) a)):G 73 #[N c,texts.v] w R:=
 fC (.s .o (.j [0,6,7] [.s 8 E] (.d 2 (.j [0,6,7,8] [] .o .o)) .o)) h
def akr{r:Addr}{kind:Int}(h:uO w λa k b=>xH (λn=>vN [a,k] 137 #[N (r.add 0),O U 1] n λv s x i o=>P o λd p=>a≠k->a≠d->k≠d->∃c:aK,c d/\qV c k/\qV c k/\∀f,az [a,k] p f->R (bS kind s (aq #[]) (aq #[]) Sl.nil Sl.nil Sl.nil Sl.nil i) f) λJ=>jp b ((r.add 0).add 0) λm=>A b ((r.add 0).add 1) λg=>∃p0,cM m g 4 p0/\A b (p0.add 0) λj=>Q (j==1) (o0 b λq=>F [a,k] 135 #[N r,N ((r.add 4).add 1),O U 2] q λe=>A e ((r.add 4).add 2) λl=>Q (l==0) (F [a,k] 136 #[N (r.add 0),O U 21] e λt=>J t) (J e)) (o0 b λu=>J u)):G 74 #[N r,O U kind] w R:=
 fC (.d 2 (.j [0,4,5] [] .o .o)) h
def aks{c:Addr}{texts:Sl}(h:cI 138 #[N c,texts.v] w λi a=>xH (λf=>R (O U i) f) λJ=>Q (VM (i>0)) (A a (c.add 1) λb=>sT (c.add 1) a 1 λk d z e=>sS a k d z e [O U (au U (b+1))] λg=>J g) (J a)):G 75 #[N c,texts.v] w R:=
 fC (.d 2 (.j [5] [] .o .o)) h
def akt{r:Addr}(n:P w λk b=>xH (λB=>vN [k] 137 #[N (r.add 0),O U 1] B λE z H o C=>P C λa c=>nG 37 (ae (aq #[61])) c λu e=>cF [k,a] c e/\F [k,a] 73 #[N (r.add 0),u.v] e λf=>nG 37 (ae (aq #[45])) f λv g=>cF [k,a] f g/\pC [k,a] 75 #[N (r.add 0),v.v] g λp D=>vN [k,a] 137 #[N (r.add 0),O U 3] D λI L q K h=>nG 37 (ae (aq #[59])) h λx i=>cF [k,a] h i/\F [k,a] 73 #[N (r.add 0),x.v] i λj=>∀d,az [k] j d->R (PE z (au U ((au U (1-(au U (2*p))))*q)) o) d) λJ=>jp b ((r.add 0).add 0) λy=>A b ((r.add 0).add 1) λs=>∃p0,cM y s 4 p0/\A b (p0.add 0) λt=>Q (t==1) (o0 b λl=>F [k] 135 #[N r,N ((r.add 4).add 0),O U 2] l λM=>J M) (o0 b λm=>J m)):G 76 #[N r] w R:=
 fC (.s .o (.j [0,2] [] .o .o)) n
def aku{r:Addr}{n:Option Addr}(eQ:P w λk w0=>A w0 ((r.add 4).add 2) λi0=>sT ((r.add 4).add 2) w0 1 λk1 k2 z0 k3=>k≠k1/\sS w0 k1 k2 z0 k3 [O U (au U (i0-1))] λw1=>∃C:Nat->L->L->L->L->aw->Prop,∃k4:Nat,C k4 aM aM aM aM w1/\∀k5 H I X b3 w2,C k5 H I X b3 w2->∃D:L->L->L->L->L->aw->Prop,(∀b4 b5 b6 b7 b8 x,D b4 b5 b6 b7 b8 x->Q b4 (nx k5 λk6=>C k6 b5 b6 b7 b8 x) (Z3 37 (ae (aq #[115,116,97,116,101])) (ae (aq #[112,97,114,97,108,108,101,108])) (ae (aq #[104,105,115,116,111,114,121])) (ae (aq #[100,101,101,112])) x λl0 w4=>cF [k] x w4/\pC [k] 138 #[N (r.add 0),l0.v] w4 λi1 w5=>∃E:Nat->Int->L->L->L->L->aw->Prop,∃k7:Nat,E k7 i1 b5 b6 b7 b8 w5/\∀k8 s h W S y a,E k8 s h W S y a->Q (VM (s>0)) (A a ((r.add 0).add 1) λi3=>sT ((r.add 0).add 1) a 1 λk9 rH z1 pM=>k≠k9/\sS a k9 rH z1 pM [O U (au U (i3+1))] λw7=>∃b:L->L->L->L->aw->Prop,(∀Sz c e g w8,b Sz c e g w8->Z3 37 (ae (aq #[115,116,97,116,101])) (ae (aq #[112,97,114,97,108,108,101,108])) (ae (aq #[104,105,115,116,111,114,121])) (ae (aq #[100,101,101,112])) w8 λl1 w9=>cF [k] w8 w9/\pC [k] 138 #[N (r.add 0),l1.v] w9 λi4 dk=>nx k8 λLQ=>E LQ i4 Sz c e g dk)/\o0 w7 λd=>∃J:aK,∃p0,n=(Hg p0)/\J ((p0.add 7).block)/\jp d (p0.add 7) λu=>(ii [k] 140 #[N r,O U s] d λi5 s0 s1 s2 l3 l4 l5 l6 i6 q=>cj J d q/\nG 26 (bS 0 (aq #[]) (aq #[]) (aq #[]) Sl.nil Sl.nil Sl.nil Sl.nil 0) q λl7 M=>cF [k] q M/\cj J q M/\yY 26 u l7 M λl8 f=>cF [k] M f/\cj J M f/\∃p1,cM l8 (u.n:Int) 9 p1/\∃p2,n=(Hg p2)/\(sT p1 f 9 λAi LS z2 Tn=>k≠Ai/\sS f Ai LS z2 Tn [O U i5,ae s0,ae s1,ae s2,l3.v,l4.v,l5.v,l6.v,O U i6] λgV=>sT (p2.add 7) gV 1 λLU QX z3 aC=>k≠LU/\sS gV LU QX z3 aC [l8.v] λiO=>b h W S y iO)/\sT (p2.add 7) f 1 λQY Iq z4 aS=>k≠QY/\sS f QY Iq z4 aS [l8.v] λiz=>sT p1 iz 9 λYX YY z5 aT=>k≠YX/\sS iz YX YY z5 aT [O U i5,ae s0,ae s1,ae s2,l3.v,l4.v,l5.v,l6.v,O U i6] λiU=>b h W S y iU)/\nG 26 (bS 0 (aq #[]) (aq #[]) (aq #[]) Sl.nil Sl.nil Sl.nil Sl.nil 0) d λl9 v=>cF [k] d v/\cj J d v/\ii [k] 140 #[N r,O U s] v λi7 s3 s4 s5 p pr pL xx i8 t=>cj J v t/\yY 26 u l9 t λz m=>cF [k] t m/\cj J t m/\∃p3,cM z (u.n:Int) 9 p3/\∃p4,n=(Hg p4)/\(sT p3 m 9 λi Tp z6 bv=>k≠i/\sS m i Tp z6 bv [O U i7,ae s3,ae s4,ae s5,p.v,pr.v,pL.v,xx.v,O U i8] λra=>sT (p4.add 7) ra 1 λYZ bV z7 bY=>k≠YZ/\sS ra YZ bV z7 bY [z.v] λtw=>b h W S y tw)/\sT (p4.add 7) m 1 λj cc z8 ce=>k≠j/\sS m j cc z8 ce [z.v] λvh=>sT p3 vh 9 λl co z9 cC=>k≠l/\sS vh l co z9 cC [O U i7,ae s3,ae s4,ae s5,p.v,pr.v,pL.v,xx.v,O U i8] λpN=>b h W S y pN) (A a ((r.add 4).add 2) λi9=>sT ((r.add 4).add 2) a 1 λo dO EW el=>k≠o/\sS a o dO EW el [O U (au U (i9+1))] λqR=>nG 37 (ae (aq #[125])) qR λA4 tB=>cF [k] qR tB/\F [k] 73 #[N (r.add 0),A4.v] tB λxy=>R (aj #[]) xy)))/\jM [k] 78 #[N (r.add 0)] w2 λK B=>Q K (aG B k 211 [ak H,ak I,ak X,ak b3]->cB 139 #[N r,ah n,pB k] B λT LV=>afq LV k 211 λV Y Z am=>D T V Y Z am LV) (D aM H I X b3 B)):G 77 #[N r,ah n] w R:=
 fB (an:=.d 2 (.s (.j [0,1,4] [.b 4 [.bool,.bool,.bool,.bool]] (.s (.s (.j [0,1,4] [.s 23 .bool,.b 4 [.bool,.bool,.bool,.bool]] .o .o) .o) .o) .o) (.s (.s .o (.j [0,1,4] [.s 5 (.int .i64),.b 4 [.bool,.bool,.bool,.bool]] (.s .o (.s (.s .o (.j [0,1,4] [.b 4 [.bool,.bool,.bool,.bool]] .o .o)) .o)) .o)) .o))) (args:=[.ad r,.ptr n]) eQ
def akv{c:Addr}{R:aH}(w:aw)(h:A w ((c.add 2).add 0) λi=>R (ak (i==0)) w):G 78 #[N c] w R:=
 iA h
def akw{c:Addr}(h:xH (λb=>cU 136 #[N c,O U 4] b λd=>R (aj #[]) d) λJ=>jp w (c.add 0) λl=>A w (c.add 1) λi=>∃p0,cM l i 4 p0/\A w (p0.add 0) λa=>Q (a==5) (o0 w λe=>cU 136 #[N c,O U 3] e λf=>J f) (o0 w λg=>J g)):G 79 #[N c] w R:=
 fC (.j [0] [] .o .o) h
def arF{k:Addr}{ok:L}{err a:Int}(h:∃i,((!ok)=aF->aD w ((k.add 3).add 0) [O U i])/\Q ((!ok)&&(i==0)) (sT (k.add 3) w 2 λb c z d=>sS w b c z d [O U err,O U a] λe=>R (aj #[]) e) (R (aj #[]) w)):G 141 #[N k,ak ok,O U err,O U a] w R:=
 iA h
def arG{k:Addr}{h:Int}{uU I u:M}{tR tS qp n:Sl}{r t:Int}(S:P w λa w0=>∃f:Nat->Int->L->Int->aw->Prop,∃k1:Nat,f k1 0 aM 0 w0/\∀q i g b c,f q i g b c->Q (VM (b<(n.n:Int))) (fY n b c λT s0 s1 s2 l0 l1 l2 l3 i3=>P c λk3 w2=>ob (λW w3=>nx q λk4=>f k4 W (g||(s0.toList==I.toList)) (au U (b+1)) w3) λj=>jM [a,k3] 192 #[O U T] w2 λB v=>Q (!B) (j (au U (i+1)) v) (j i v)) (jM [a] 192 #[O U h] c λC e=>Q C (o0 e λx=>VV x (k.add 0) λm0=>pC [a] 193 #[.map m0,ae u] x λp w7=>xH (λw8=>R (aj #[]) w8) λl=>o0 w7 λy=>∃J:aK,J a/\jM [a] 194 #[N k,O U p] y λD d=>cj J y d/\Q D (jp d (k.add 1) λl4=>jp d (k.add 1) λl5=>∃s,cM l5 t 5 s/\A d (s.add 2) λX=>jM [a] 60 #[l4.v,O U p,O U X] d λH z=>cj J d z/\F [a] 141 #[N k,ak H,O U 26,O U r] z λm=>cj J z m/\l m) (F [a] 141 #[N k,ak aM,O U 26,O U r] d λo=>cj J d o/\l o)) (Q (h==2) (F [a] 141 #[N k,ak ((I.toList==((aq #[]).toList))&&(VM (i>1))),O U 25,O U r] e λK=>R (aj #[]) K) (Q (VM (i>0)) (F [a] 141 #[N k,ak g,O U 25,O U r] e λV=>R (aj #[]) V) (F [a] 141 #[N k,ak (I.toList==((aq #[]).toList)),O U 25,O U r] e λY=>F [a] 141 #[N k,ak ((n.n:Int)==0),O U 26,O U r] Y λZ=>R (aj #[]) Z))))):G 142 #[N k,bS h uU I u tR tS qp n r,O U t] w R:=
 fC (.d 3 (.s (.s .o (.j [0,2,4,12,13] [.s 6 E,.s 7 .bool,.s 14 E] (.d 2 (.s (.s .o (.j [0,2,4,7,9,12,13,14] [.s 6 E] .o .o)) .o)) .o)) (.s .o (.s (.s .o (.j [4,9] [] .o .o)) .o)))) S
def arH{k:Addr}{rows:Sl}(h:cL 39 #[rows.v] w λl y=>nr 0 y λg s i b=>Q (VM (i<(l.n:Int))) (rm l i b λj v m n x o t p q=>P b λa f=>xH (λz=>F [a] 144 #[N k,bN m n x o t p] z λA=>nx s λk3=>g k3 (au U (i+1)) A) λJ=>Q (j==1) (o0 f λc=>VV c (k.add 2) λu=>∃r e d,((Instr.lookup 149 (.map u) (ae v) aF).run ar c)=(.ok (aj #[O U r,ak e]) d)/\cF [a] c d/\F [a] 141 #[N k,ak e,O U 23,O U q] d λB=>J B) (J f)) (R (aj #[]) b)):G 143 #[N k,rows.v] w R:=
 fC (.s .o (.j [0,9,10] [.s 11 E] (.d 2 (.s (.s .o (.j [0,5,9,10,11] [] .o .o)) .o)) .o)) h
def arI{k:Addr}{x W:Int}{l:M}{X:Int}{m:Sl}{n:Int}(r:P w λa c=>xH (λL=>nr 0 L λp B i e=>Q (VM (i<(m.n:Int))) (jS m i e λs t K u D v=>P e λk3 S=>F [a,k3] 144 #[N k,bN s t K u D v] S λT=>nx B λC=>p C (au U (i+1)) T) (R (aj #[]) e)) λb=>Q (x==2) (o0 c λf=>VV f (k.add 2) λH=>∃y o g,((Instr.lookup 149 (.map H) (ae l) aF).run ar f)=(.ok (aj #[O U y,ak o]) g)/\cF [a] f g/\F [a] 141 #[N k,ak o,O U 23,O U n] g λV=>b V) (Q (x==3) (o0 c λh=>∃J:aK,VV h (k.add 0) λI=>J a/\pC [a] 193 #[.map I,ae l] h λA j=>cj J h j/\jM [a] 194 #[N k,O U A] j λq d=>cj J j d/\F [a] 141 #[N k,ak q,O U 23,O U n] d λz=>cj J d z/\b z) (b c))):G 144 #[N k,bN x W l X m n] w R:=
 fC (.s .o (.j [0,3] [] .o (.s .o (.j [0,3,43,44] [.s 45 E] .o .o)))) r
def arJ{k:Addr}{l:Sl}(C:P w λa w0=>∃J:Nat->Sl->Int->Option Addr->aw->Prop,∃L:Nat,J L Sl.nil 0 (Hg k) w0/\∀o,∀f:Sl,∀i q c,J o f i q c->Q (VM (i<(l.n:Int))) (Dd l i c λs0=>∃p,q=(Hg p)/\VV c (p.add 0) λX=>pC [a] 193 #[.map X,ae s0] c λe v=>Q (VM (e<1)) (P v λk3 w3=>R (ak aM) w3) (P v λb w4=>KG (λY D g=>aG g a 147 [ah Y]->aG g b 3 [O U D]->cB 127 #[f.v,.func (.func 195) #[] #[pB a,pB b]] g λy d=>U3 d a 147 λZ=>xKI d b 3 λH=>Q y (R (ak aM) d) (nG 43 (O U H) d λS h=>cF [a,b] d h/\yY 43 f S h λT x=>cF [a,b] h x/\nx o λM=>J M T (au U (i+1)) Z x)) λm=>∃r,q=(Hg r)/\o0 w4 λj=>jp j (r.add 1) λV=>∃s,cM V e 5 s/\A j (s.add 0) λI=>jM [a,b] 192 #[O U I] j λB n=>Q B (∃t,q=(Hg t)/\o0 n λz=>jp z (t.add 1) λW=>∃u,cM W e 5 u/\A z (u.add 2) λK=>∀F,az [b] z F->m q K F) (m q e n))) (R (ak aF) c)):G 145 #[N k,l.v] w R:=
 fC (.d 2 (.s (.s .o (.j [2,9,10] [.s 5 .sl,.s 11 E,.b 2 [.ptr]] (.d 2 (.s (.d 3 (.j [2,5,8,9,10,11] [.b 2 [.ptr],.b 8 [E]] .o .o)) .o)) .o)) .o)) C
def akx{c:Sl}{f:Int}{g o h:M}{p r s t:Sl}{u:Int}(aC:uO w λa k w0=>ah7 [a,k] 223 #[bS f g o h p r s t u] w0 λi0 i1 w1=>(aG w1 k 276 [ah ZQ,Sl.nil.v,ak aM,O U 0]->a≠k->F [a] 224 #[pB k,ak (((((f==1)&&(h.toList==((aq #[]).toList)))&&(VM ((c.n:Int)<=16)))&&(VM (i0<=64)))&&(VM (i1<=200)))] w1 λw2=>ow w2 k 276 λq0 l0 b0 i2=>qx [a] 226 #[pB k,ae g] w2 λs0 D=>ow D k 276 λq1 l1 b1 i3=>BI 37 (ae (aq #[99,104,97,114,116])) (ae s0) (ae (aq #[123])) D λl2 w4=>cF [a,k] D w4/\F [a] 225 #[pB k,O U 0,l2.v] w4 λw5=>ow w5 k 276 λq2 l3 b2 i4=>∃n:Nat->Int->Option Addr->Sl->L->Int->aw->Prop,∃k2:Nat,n k2 0 q2 l3 b2 i4 w5/\∀k3 l q3,∀Y:Sl,∀I K m,n k3 l q3 Y I K m->Q (VM (l<(c.n:Int))) (acS c l m λs1 N i8=>P m λb w7=>aG w7 k 276 [ah q3,Y.v,ak I,O U K]->F [a,b] 224 #[pB k,ak (N !=(-9223372036854775808))] w7 λw8=>ow w8 k 276 λq4 l5 b4 i9=>o0 w8 λH=>aG H k 276 [ah q4,l5.v,ak b4,O U i9]->∃J:aK,J b/\qx [a,b] 226 #[pB k,ae s1] H λs2 j=>ow j k 276 λq5 l6 b5 aS=>cj J H j/\qx [a,b] 227 #[O U N] j λs3 d=>ow d k 276 λq6 l7 b6 aT=>cj J j d/\((s3.size:Int)+1)<=9223372036854775807/\∃Z:Sl,∃e,((av 37 4 #[.mk 0 (ae (aq #[118,97,114])),.mk 1 (ae s2),.mk 2 (ae (aq #[61])),.mk 3 (ae (s3++(aq #[59])))]).run ar d)=(.ok Z.v e)/\cF [a,k,b] d e/\cj J d e/\F [a,b] 225 #[pB k,O U 1,Z.v] e λv=>ow v k 276 λq7 l9 b7 y=>cj J e v/\nx k3 λk5=>n k5 (au U (l+1)) q7 l9 b7 y v) (F [a] 228 #[pB k,bS f g o h p r s t u,O U 1] m λx=>ow x k 276 λq8 el b8 bv=>nG 37 (ae (aq #[125])) x λpr V=>cF [a,k] x V/\F [a] 225 #[pB k,O U 0,pr.v] V λA=>ow A k 276 λq9 pL b9 bV=>Q b9 (R (aj #[ae (aq #[]),O U 22]) A) (jM [a] 229 #[pB k] A λQW B=>ow B k 276 λeQ xx Sw bY=>Q QW (R (aj #[ae (aq #[]),O U 2]) B) (qx [a] 230 #[pB k] B λs4 W=>ow W k 276 λfd Ab Sy cc=>fP [a] 33 #[ae s4] W λA4 ce s5 s6 s7 H5 Tj W7 YP co z cC C=>ow C k 276 λq T S i=>Q (z !=0) (uO C λk6 k7 X=>aG X k 276 [ah q,T.v,ak S,O U i]->R (aj #[ae (aq #[]),O U 22]) X) (uO C λk8 k9 mD=>aG mD k 276 [ah q,T.v,ak S,O U i]->qx [a,k8,k9] 230 #[pB k] mD λs8 ra=>ow ra k 276 λf5 YQ am dO=>R (aj #[ae s8,O U 0]) ra)))))):G 165 #[cK c f g o h p r s t u] w R:=
 fC (.d 5 (.s (.s .o (.j [1,4,12,54,55] [.s 56 E,.b 12 [.ptr,.sl,.bool,E]] .o .o)) .o)) aC
def aky(l n:Sl)(R:aH)(d:aw):Prop:=
 P d λk w=>KG (λb c a=>Q b (R (O U (-1)) a) (Z0 n 0 a λi=>(1<=n.n/\
   n.n<=n.c)/\
  ∃J:Nat->Int->Int->Sl->aw->Prop,∃u:Nat,J u i 0 c a/\
  ∀o h e,∀p:Sl,∀g,J o h e p g->Q (VM (e<((n.cut 1 n.n n.c 1).n:Int))) (Z0 (n.cut 1 n.n n.c 1) e g λt=>Fg h p g λr v j f x=>jM [k] 123 #[f.v,O U j,O U t] x λs m=>Q (!s) (∃q,cM f j 5 q/\
   A m (q.add 2) λC=>nx v λD=>r D C f m) (nx o λE=>J E j (au U (e+1)) f m)) (R (O U h) g))) λy=>Q ((n.n:Int)==0) (y aF l w) (aG w k 44 [l.v]->cB 127 #[n.v,.func (.func 233) #[] #[pB k]] w λB z=>Us z k 44 λF=>y B F z)
def arK(l n:Sl)(R:aH)(w:aw)(h:aky l n R w):G 167 #[l.v,n.v] w R:=
 fC (.s .o (.s (.s (.j [1,2] [.s 15 .bool,.b 2 [.sl]] .o .o) .o) (.s .o (.s (.s .o (.j [2,20,21] [.s 5 E,.s 22 E,.b 2 [.sl]] (.d 2 (.s (.s .o (.j [2,7,20,21,22] [.s 5 E,.b 2 [.sl]] .o .o)) .o)) .o)) .o)))) h
def akz{c:Sl}{g:Int}{b h j:M}{l m n o:Sl}{p:Int}(I:P w λa W=>jM [a] 205 #[cK c g b h j l m n o p] W λH v=>Q (!H) (R (aj #[ae (aq #[]),O U 22]) v) ((6+(b.size:Int))<=9223372036854775807/\((((aq #[99,104,97,114,116,32])++b).size:Int)+2)<=9223372036854775807/\P v λk x=>aG x k 258 [Sl.nil.v]->F [a] 206 #[pB k,O U 0,ae (((aq #[99,104,97,114,116,32])++b)++(aq #[32,123]))] x λy=>Us y k 258 λN=>Fg 0 N y λD k3 i T z=>Q (VM (i<(c.n:Int))) (o0 z λd=>aG d k 258 [T.v]->∃J:aK,J a/\∃p0,cM c i 3 p0/\J ((p0.add 0).block)/\Eo d (p0.add 0) λs=>(4+(s.size:Int))<=9223372036854775807/\((((aq #[118,97,114,32])++s).size:Int)+3)<=9223372036854775807/\∃u,cM c i 3 u/\A d (u.add 1) λK=>qx [a] 207 #[O U K] d λq e=>Us e k 258 λX=>cj J d e/\(((((aq #[118,97,114,32])++s)++(aq #[32,61,32])).size:Int)+(q.size:Int))<=9223372036854775807/\((((((aq #[118,97,114,32])++s)++(aq #[32,61,32]))++q).size:Int)+1)<=9223372036854775807/\F [a] 206 #[pB k,O U 1,ae (((((aq #[118,97,114,32])++s)++(aq #[32,61,32]))++q)++(aq #[59]))] e λr=>Us r k 258 λV=>cj J e r/\nx k3 λL=>D L (au U (i+1)) V r) (F [a] 208 #[pB k,bS g b h j l m n o p,O U 1] z λB=>Us B k 258 λY=>F [a] 206 #[pB k,O U 0,ae (aq #[125])] B λf=>Us f k 258 λt=>Q (VM ((t.n:Int)>16384)) (R (aj #[ae (aq #[]),O U 2]) f) (∃C:S,uN f t C/\R (aj #[ae (aq C.toArray),O U 0]) f)))):G 159 #[cK c g b h j l m n o p] w R:=
 fC (.d 5 (.s (.s .o (.j [1,5,12] [.s 6 E,.b 12 [.sl]] .o .o)) .o)) I
def akA{k:Addr}{n:Int}{uU r uV:M}{tR tS z j:Sl}{h t:Int}(am:P w λa w0=>∃p:Nat->Int->L->Int->aw->Prop,∃k1:Nat,p k1 0 aM 0 w0/\∀W i c d l,p W i c d l->Q (VM (d<(j.n:Int))) (∃p0,cM j d 9 p0/\A l (p0.add 0) λi2=>jM [a] 118 #[O U i2] l λb1 w2=>ob (λi3 w3=>∃X,(c=aM->cM j d 9 X)/\∃s0,(c=aM->aD w3 (X.add 1) [ae s0])/\o0 w3 λw4=>nx W λk3=>p k3 i3 (c||(s0.toList==r.toList)) (au U (d+1)) w4) λC=>Q (!b1) (C (au U (i+1)) w2) (C i w2)) (jM [a] 118 #[O U n] l λb2 o=>xH (λw6=>F [a] 209 #[N k,tR.v] w6 λw7=>F [a] 209 #[N k,tS.v] w7 λw8=>nr 0 w8 λJ3 k5 x B=>Q (VM (x<(z.n:Int))) (xH (λdk=>nx k5 λk6=>J3 k6 (au U (x+1)) dk) λD=>ix z x B λi5 s1 S b3 i7 i8 s2 i9 l0 s l1 l2 e=>P B λf K=>xH (λeF=>F [a,f] 210 #[N k,bN i7 i8 s2 i9 l0 s] eF λeM=>F [a,f] 209 #[N k,l1.v] eM λfR=>jM [a,f] 211 #[N k,l2.v] fR λb4 V=>Q (!b4) (F [a,f] 91 #[N k,O U 27,O U e] V λiO=>D iO) (D V)) λH=>Q ((i5==3)&&((S==0)||(VM (S>1099511627776)))) (F [a,f] 91 #[N k,O U 28,O U e] K λiz=>H iz) (H K)) (R (aj #[]) B)) λJ=>Q b2 (o0 o λT=>jp T (k.add 10) λl3=>pC [a] 49 #[l3.v,ae uV] T λb li=>o0 li λg=>jp g (k.add 10) λl4=>jp g (k.add 10) λl5=>∃Y,cM l5 t 5 Y/\A g (Y.add 2) λu=>jM [a] 67 #[l4.v,O U b,O U u] g λb5 m=>ob (λb6 ra=>Q b6 (F [a] 91 #[N k,O U 26,O U h] ra λtw=>J tw) (J ra)) λI=>Q ((VM (b<0))||(!b5)) (I aF m) (jp m (k.add 10) λl6=>∃Z,cM l6 b 5 Z/\A m (Z.add 0) λv=>jM [a] 118 #[O U v] m λb7 vh=>I b7 vh)) (ob (λb8 y=>Q b8 (F [a] 91 #[N k,O U 25,O U h] y λqR=>J qR) (Q (((n==1)&&(i==0))&&(VM ((j.n:Int)>0))) (F [a] 91 #[N k,O U 26,O U h] y λtB=>J tB) (J y))) λq=>Q ((n==2)&&((!(r.toList==((aq #[]).toList)))||(VM (i<2)))) (q ((n==2)&&((!(r.toList==((aq #[]).toList)))||(VM (i<2)))) o) (Q (((n==1)&&(VM (i>0)))&&(!c)) (q (((n==1)&&(VM (i>0)))&&(!c)) o) (q (((n==1)&&(i==0))&&(!(r.toList==((aq #[]).toList)))) o))))):G 160 #[N k,bS n uU r uV tR tS z j h,O U t] w R:=
 fC (.d 3 (.s (.s .o (.j [0,2,4] [.s 6 E,.s 7 .bool,.s 8 E] (.s .o (.s (.s .o (.j [0,2,4,7,8] [.s 6 E] .o .o)) .o)) .o)) (.s .o (.j [0,4] [] (.s .o (.s (.d 2 (.s (.j [0,4] [.s 88 .bool] .o .o) .o)) (.j [0,4,6] [.s 93 .bool] .o .o))) (.d 3 (.j [0,4] [.s 13 E] (.s .o (.j [0,4,13] [] (.s .o (.j [0,4,13,14] [] .o .o)) .o)) .o)))))) am
def akB(r:Sl)(n:Int)(R:aH)(w:aw):Prop:=
 R (ak ((VM (n>=0))&&(VM (n<(r.n:Int))))) w
def arL{r:Sl}{n:Int}(h:akB r n R w):G 169 #[r.v,O U n] w R:=
 iA h
def akC(h:∃l:Sl,∃a,((av 37 16 #[.mk 0 (ae (aq #[97,102,116,101,114])),.mk 1 (ae (aq #[97,108,119,97,121,115])),.mk 2 (ae (aq #[99,104,97,114,116])),.mk 3 (ae (aq #[100,101,101,112])),.mk 4 (ae (aq #[101,109,105,116])),.mk 5 (ae (aq #[101,110,116,101,114])),.mk 6 (ae (aq #[104,105,115,116,111,114,121])),.mk 7 (ae (aq #[105,110])),.mk 8 (ae (aq #[105,110,105,116,105,97,108])),.mk 9 (ae (aq #[108,101,97,118,101])),.mk 10 (ae (aq #[111,110])),.mk 11 (ae (aq #[112,97,114,97,108,108,101,108])),.mk 12 (ae (aq #[114,97,105,115,101])),.mk 13 (ae (aq #[115,101,116])),.mk 14 (ae (aq #[115,116,97,116,101])),.mk 15 (ae (aq #[118,97,114]))]).run ar w)=(.ok l.v a)/\R l.v a):G 130 #[] w R:=
 iA h
def akD{c:Addr}(l:lp0 w λJ k B=>cB 132 #[N c] B λf a=>Q (!f) (Eo a (c.add 0) λv=>A a (c.add 1) λi=>∃c0:UInt8,(0<=i/\(v[Int.toNat i]?)=(Hg c0))/\o0 a λC=>Z3 256 (.int .u8 9) (.int .u8 10) (.int .u8 13) (.int .u8 32) C λu D=>cB 179 #[.int .u8 (UInt8.toNat c0:Int),u.v] D λg b=>Q g (A b (c.add 1) λm=>sT (c.add 1) b 1 λk3 o K p=>sS b k3 o K p [O U (au U (m+1))] λE=>nx k λq=>J q E) (cS 181 #[N c] b λx F=>cB 180 #[ae x,ae (aq #[47,47])] F λh e=>Q h (cS 181 #[N c] e λy I=>Uu 182 #[ae y,ae (aq #[10])] I λz P M d=>A d (c.add 1) λn=>sT (c.add 1) d 1 λr s L t=>sS d r s L t [O U (au U (n+(z.size:Int)))] λj=>nx k λH=>J H j) (R (aj #[]) e))) (R (aj #[]) a)):G 131 #[N c] w R:=
 fC (.j [0] [] .o .o) l
def akE{c:Addr}(h:A w (c.add 1) λi=>Eo w (c.add 0) λs=>o0 w λa=>R (ak (VM (i>=(s.size:Int)))) a):G 132 #[N c] w R:=
 iA h
def akF(c:Addr)(R:aH)(w:aw)(h:Eo w ((c.add 0).add 0) λs=>A w ((c.add 0).add 1) λi=>∃c0:UInt8,(0<=i/\(s[Int.toNat i]?)=(Hg c0))/\o0 w λk=>cB 183 #[.int .u8 (UInt8.toNat c0:Int)] k λd a=>Q d (cI 184 #[N c] a λf l=>R (O U f) l) (cB 185 #[.int .u8 (UInt8.toNat c0:Int)] a λe b=>Q e (cI 186 #[N c] b λg m=>R (O U g) m) (cI 187 #[N c] b λj n=>R (O U j) n))):G 133 #[N c] w R:=
 iA h
def akG{c:Addr}{t:Int}{h:M}{i x n:Int}(l:P w λk j=>A j ((c.add 0).add 1) λm=>∀a,az [k] j a->∃J:aK,J ((c.add 3).block)/\jp a (c.add 3) λs=>nG 129 (mX t h i m) a λu b=>cF [k] a b/\cj J a b/\yY 129 s u b λv d=>cF [k] b d/\cj J b d/\sT (c.add 3) d 1 λf p z k3=>k≠f/\sS d f p z k3 [v.v] λe=>A e ((c.add 0).add 1) λo=>sT ((c.add 0).add 1) e 1 λg q B r=>k≠g/\sS e g q B r [O U (au U (o+n))] λy=>R (aj #[]) y):G 134 #[N c,mX t h i x,O U n] w R:=
 iA l
def akH{r:Addr}{L:Option Addr}{err:Int}(h:xH (λa=>∃p0,L=(Hg p0)/\A a p0 λi=>∃p,L=(Hg p)/\sT p a 1 λk d z e=>sS a k d z e [O U (au U (i-1))] λf=>R (aj #[]) f) λJ=>∃b,L=(Hg b)/\A w b λc=>Q (c==0) (cU 136 #[N (r.add 0),O U err] w λg=>J g) (J w)):G 135 #[N r,ah L,O U err] w R:=
 fB (an:=.j [1] [] .o .o) (args:=[.ad r,.ptr L,.int .i64 err]) h
def akI{c:Addr}{err:Int}(h:cB 78 #[N c] w λd b=>Q d (o0 b λa=>jp a (c.add 0) λl=>A a (c.add 1) λi=>∃p0,cM l i 4 p0/\A a (p0.add 3) λe=>sT (c.add 2) a 2 λk f z g=>sS a k f z g [O U err,O U e] λj=>R (aj #[]) j) (R (aj #[]) b)):G 136 #[N c,O U err] w R:=
 iA h
def akJ{c:Addr}{k:Int}(l:P w λa b=>∃J:aK,J ((c.add 0).block)/\jp b (c.add 0) λr=>J ((c.add 1).block)/\A b (c.add 1) λm=>∃p0,cM r m 4 p0/\J p0.block/\xW b p0 λi s n o=>P b λe t=>jM [a,e] 78 #[N c] t λj d=>Q ((!j)||(i !=k)) (F [a,e] 79 #[N c] d λu=>∀g,az [a] u g->R (mX 0 (aq #[]) 0 0) g) (A d (c.add 1) λp=>sT (c.add 1) d 1 λf k3 z q=>a≠f/\e≠f/\sS d f k3 z q [O U (au U (p+1))] λv=>∀h,az [a] v h->R (mX i s n o) h)):G 137 #[N c,O U k] w R:=
 iA l
def akK{c:Addr}{texts:Sl}(h:o0 w λa=>∃J:aK,J ((c.add 0).block)/\jp a (c.add 0) λl=>J ((c.add 1).block)/\A a (c.add 1) λe=>∃p0,cM l e 4 p0/\J p0.block/\xW a p0 λi s m n=>P a λk g=>jM [k] 78 #[N c] g λd b=>Q ((!d)||((i !=2)&&(i !=4))) (R (O U 0) b) (pC [k] 188 #[texts.v,ae s] b λf j=>R (O U (au U (f+1))) j)):G 138 #[N c,texts.v] w R:=
 iA h
def akL{r:Addr}{n:Option Addr}{h:Option Addr}(P:∃m:Sl,∃B,((av 37 3 #[.mk 0 (ae (aq #[111,110])),.mk 1 (ae (aq #[97,108,119,97,121,115])),.mk 2 (ae (aq #[97,102,116,101,114]))]).run ar w)=(.ok m.v B)/\cI 138 #[N (r.add 0),m.v] B λj C=>Q (VM (j>0)) (o0 C λc=>∃J:aK,∃p0,n=(Hg p0)/\J ((p0.add 6).block)/\jp c (p0.add 6) λl1=>aiJ 189 #[N r,O U j] c λW s0 Y F Z i4 s1 i5 l2 i6 l3 l4 i7 e=>cj J c e/\nG 25 (dZ W s0 Y F Z i4 s1 i5 l2 i6 l3 l4 i7) e λl5 f=>cj J e f/\yY 25 l1 l5 f λl6 g=>cj J f g/\∃p,n=(Hg p)/\sT (p.add 6) g 1 λk0 k1 z0 k2=>sS g k0 k1 z0 k2 [l6.v] λw6=>R (ak aF) w6) (BI 37 (ae (aq #[105,110,105,116,105,97,108])) (ae (aq #[101,110,116,101,114])) (ae (aq #[108,101,97,118,101])) C λl7 w7=>cI 138 #[N (r.add 0),l7.v] w7 λi a=>Q (i==0) (R (ak aM) a) (∃q,h=(Hg q)/\∃s,Oc q i 4 1 s/\Wx a s λH=>Q H (cU 79 #[N (r.add 0)] a λw9=>R (ak aM) w9) (∃t,h=(Hg t)/\∃u,Oc t i 4 1 u/\sT u a 1 λk3 k4 z1 k5=>sS a k3 k4 z1 k5 [ak aF] λd=>A d ((r.add 0).add 1) λi9=>sT ((r.add 0).add 1) d 1 λk6 k7 z2 k8=>sS d k6 k7 z2 k8 [O U (au U (i9+1))] λz=>xH (λI=>R (ak aF) I) λb=>Q (i==1) (cS 190 #[N (r.add 0)] z λs2 M=>∃v,n=(Hg v)/\sT (v.add 2) M 1 λk9 rH z3 pM=>sS M k9 rH z3 pM [ae s2] λK=>nG 37 (ae (aq #[59])) K λl8 V=>cU 73 #[N (r.add 0),l8.v] V λiO=>b iO) (Q (i==2) (cL 191 #[N r] z λl9 k=>∃x,n=(Hg x)/\sT (x.add 4) k 1 λL D z4 S=>sS k L D z4 S [l9.v] λiU=>b iU) (cL 191 #[N r] z λl o=>∃y,n=(Hg y)/\sT (y.add 5) o 1 λT E z5 X=>sS o T E z5 X [l.v] λjN=>b jN)))))):G 139 #[N r,ah n,ah h] w R:=
 fB (an:=.d 7 (.j [] [] .o .o)) (args:=[.ad r,.ptr n,.ptr h]) P
def akM{r:Addr}{kind:Int}(I:P w λk V=>ii [k] 74 #[N r,O U kind] V λi u v S m n o p g B=>Q (VM (kind>=3)) (P B λb C=>nG 37 (ae (aq #[45,62])) C λJ D=>cF [k,b] C D/\F [k,b] 73 #[N (r.add 0),J.v] D λW=>qx [k,b] 190 #[N (r.add 0)] W λT X=>∀c,az [b] X c->nG 37 (ae (aq #[59])) c λK E=>cF [k,b] c E/\F [k,b] 73 #[N (r.add 0),K.v] E λY=>∀H,az [k] Y H->R (bS i u v T m n o p g) H) (P B λa d=>nG 37 (ae (aq #[123])) d λL z=>cF [k,a] d z/\F [k,a] 73 #[N (r.add 0),L.v] z λe=>(aG e a 28 [O U i,ae u,ae v,ae S,m.v,n.v,o.v,p.v,O U g]->k≠a->F [k] 77 #[N r,pB a] e λM=>acQ M a 28 λh x y A q s t l j=>∀f,az [k] M f->aG f a 28 [O U h,ae x,ae y,ae A,q.v,s.v,t.v,l.v,O U j]->R (bS h x y A q s t l j) f))):G 140 #[N r,O U kind] w R:=
 iA I
def arM{kind:Int}(h:R (ak ((kind==3)||(kind==4))) w):G 192 #[O U kind] w R:=
 iA h
def arN{n:Option Nat}{name:M}(h:∃i b a,((Instr.lookup 149 (.map n) (ae name) aF).run ar w)=(.ok (aj #[O U i,ak b]) a)/\Q b (R (O U i) a) (R (O U (-1)) a)):G 193 #[.map n,ae name] w R:=
 iA h
def arO{k:Addr}{a:Int}(h:ob (λb d=>R (ak b) d) λJ=>Q (VM (a>=0)) (jp w (k.add 1) λl=>∃p0,cM l a 5 p0/\A w (p0.add 0) λi=>cB 192 #[O U i] w λc e=>J (!c) e) (J aM w)):G 194 #[N k,O U a] w R:=
 fC (.s .o (.s (.j [] [.s 4 .bool] .o .o) .o)) h
def akN{h:Sl}(j:Fg 0 0 w λJ m i a c=>Q (VM (a<(h.n:Int))) (ob (λk t=>nx m λn=>J n k (au U (a+1)) t) λf=>VC h a c λl=>Q (VM ((au U (i+(l.n:Int)))<0)) (False) (f (au U (i+(l.n:Int))) c)) (cL 95 #[Sl.nil.v,O U i] c λq u=>Fg q 0 u λg o e b d=>Q (VM (b<(h.n:Int))) (VC h b d λr=>yY 24 e r d λs v=>nx o λp=>g p s (au U (b+1)) v) (R e.v d))):G 39 #[h.v] w R:=
 fC (.d 2 (.s (.s .o (.j [0,9,10] [.s 3 E,.s 11 E] (.d 2 (.j [0,9,10,11] [.s 3 E] .o .o)) .o)) (.s .o (.s (.s .o (.j [25,26] [.s 6 .sl,.s 27 E] .o .o)) .o)))) j
def arP{o:Int}{m B:Addr}(h:Wn w m λq=>A w B λi=>cB 196 #[ah q,O U i,O U o] w λb a=>R (ak (!b)) a):G 195 #[O U o,N m,N B] w R:=
 iA h
def arQ{k:Addr}{a b:Int}(h:jp w (k.add 1) λg=>∃l:Sl,∃f,((av 43 2 #[.mk 0 (O U a),.mk 1 (O U b)]).run ar w)=(.ok l.v f)/\cI 167 #[g.v,l.v] f λi c=>∃e:Sl,(((i !=a)&&(i !=b))=aF->aD c (k.add 1) [e.v])/\∃p0,(((i !=a)&&(i !=b))=aF->cM e i 5 p0)/\∃d,(((i !=a)&&(i !=b))=aF->aD c (p0.add 0) [O U d])/\R (ak (((i !=a)&&(i !=b))&&(d==2))) c):G 196 #[N k,O U a,O U b] w R:=
 iA h
def akO{t:Int}{A I V:M}{z S q n:Sl}{u:Int}(h:P w λj B=>o0 B λC=>∃J:Nat->Int->Int->Int->aw->Prop,∃l:Nat,J l 1 (q.n:Int) 0 C/\∀k b c i a,J k b c i a->Q (VM (i<(n.n:Int))) (fY n i a λd v x y o p r s e=>P a λk3 D=>ah7 [j,k3] 223 #[bS d v x y o p r s e] D λf g F=>nx k λm=>J m (au U (b+f)) (au U (c+g)) (au U (i+1)) F) (R (aj #[O U b,O U c]) a)):G 223 #[bS t A I V z S q n u] w R:=
 fC (.d 2 (.s (.s .o (.j [1,12,13] [.s 2 E,.s 3 E,.s 14 E] .o .o)) .o)) h
def akP{p:Addr}(ok:L){R:aH}(w:aw)(h:Wx w (p.add 2) λb=>sT (p.add 2) w 1 λk a z c=>sS w k a z c [ak (b||(!ok))] λd=>R (aj #[]) d):G 224 #[N p,ak ok] w R:=
 iA h
def akQ{p:Addr}{deep:Int}{words:Sl}(h:cB 229 #[N p] w λc b=>∃d,((!c)=aF->aD b (p.add 2) [ak d])/\Q ((!c)&&(!d)) (o0 b λe=>cS 276 #[ae (aq #[32,32]),O U deep] e λs f=>cS 277 #[words.v] f λa g=>((s.size:Int)+(a.size:Int))<=9223372036854775807/\(((s++a).size:Int)+1)<=9223372036854775807/\acU 275 #[N (p.add 0),ae ((s++a)++(aq #[10]))] g λj v i=>R (aj #[]) i) (R (aj #[]) b)):G 225 #[N p,O U deep,words.v] w R:=
 iA h
def akR{p:Addr}{s:M}(h:cB 278 #[ae s] w λb a=>cU 224 #[N p,ak b] a λc=>R (ae s) c):G 226 #[N p,ae s] w R:=
 iA h
def v1w{n:Int}(h:cS 279 #[O U n] w λs a=>R (ae s) a):G 227 #[O U n] w R:=
 iA h
def akS{p:Addr}{n_:Int}{uU r uV:M}{t S q n:Sl}{rJ deep:Int}(x:P w λk e=>xH (λw1=>qx [k] 281 #[N p,t.v] w1 λs0 w2=>F [k] 280 #[N p,O U deep,ae (aq #[101,110,116,101,114]),ae s0] w2 λw3=>qx [k] 281 #[N p,S.v] w3 λs1 w4=>F [k] 280 #[N p,O U deep,ae (aq #[108,101,97,118,101]),ae s1] w4 λw5=>nr 0 w5 λh K i c=>Q (VM (i<(q.n:Int))) (ix q i c λy s2 z l A B s3 C Y D Z l2 H=>P c λk3 w7=>qx [k,k3] 282 #[N p,dZ y s2 z l A B s3 C Y D Z l2 H] w7 λs4 f=>nG 37 (ae s4) f λl3 g=>cF [k,k3] f g/\F [k,k3] 225 #[N p,O U deep,l3.v] g λm=>nx K λL=>h L (au U (i+1)) m) (nr 0 c λj T b d=>Q (VM (b<(n.n:Int))) (fY n b d λI s5 s6 s7 l4 l5 l6 l7 a=>P d λW o=>F [k,W] 283 #[N p,bS I s5 s6 s7 l4 l5 l6 l7 a,O U deep] o λu=>nx T λX=>j X (au U (b+1)) u) (R (aj #[]) d))) λJ=>Q (!(r.toList==((aq #[]).toList))) (qx [k] 226 #[N p,ae r] e λs v=>((s.size:Int)+1)<=9223372036854775807/\F [k] 280 #[N p,O U deep,ae (aq #[105,110,105,116,105,97,108]),ae (s++(aq #[59]))] v λV=>J V) (J e)):G 228 #[N p,bS n_ uU r uV t S q n rJ,O U deep] w R:=
 fC (.s .o (.j [0,2,4] [] .o (.d 2 (.s (.s .o (.j [0,2,4,36,37] [.s 38 E] .o .o)) (.s .o (.j [0,2,4,7,51,52] [.s 53 E] .o .o)))))) x
def akT{p:Addr}(h:cI 284 #[N (p.add 0)] w λi a=>R (ak (VM (i>16384))) a):G 229 #[N p] w R:=
 iA h
def ac1{b:Addr}(h:o0 w λa=>∃J:aK,jp a (b.add 1) λl=>J ((b.add 1).block)/\jp a (b.add 1) λe=>∃q c,((Builtin.unsafeSliceData_ #[256] 318 #[l.v]).run ar a)=(.ok (ah q) c)/\cj J a c/\∃s d,((Builtin.unsafeString_ #[318,3] 9 #[ah q,O U (e.n:Int)]).run ar c)=(.ok (ae s) d)/\cj J c d/\R (ae s) d):G 230 #[N b] w R:=
 iA h
def arR{n:Int}{m:Addr}(h:jp w m λl=>cB 169 #[l.v,O U n] w λb a=>R (ak (!b)) a):G 233 #[O U n,N m] w R:=
 iA h
def ac2(c:Sl)(a:Int)(b d e:M)(f g h j:Sl)(l:Int)(R:aH)(n:aw):Prop:=
 P n λk o=>nr 0 o λJ m i w=>Q (VM (i<(c.n:Int))) (∃p0,cM c i 3 p0/\
  Eo w (p0.add 0) λs=>jM [k] 259 #[ae s] w λp q=>∃r,((!p)=aM->cM c i 3 r)/\
   ∃u,((!p)=aM->aD q (r.add 1) [O U u])/\
   Q ((!p)||(u==(-9223372036854775808))) (R (ak aM) q) (nx m λk3=>J k3 (au U (i+1)) q)) (P w λt v=>aG v t 299 [O U 0,O U 0,O U 0]->jM [k] 260 #[pB t,bS a b d e f g h j l,O U 0] v λy x=>aka x t 299 λB z A=>R (ak ((((y&&(a==1))&&(VM ((c.n:Int)<=16)))&&(VM (z<=200)))&&(VM (A<=400)))) x)
def akU{c:Sl}{a:Int}{b d e:M}{f g h i:Sl}{j:Int}(k:ac2 c a b d e f g h i j R w):G 205 #[cK c a b d e f g h i j] w R:=
 fC (.s .o (.s (.s .o (.j [1] [.s 3 E] .o .o)) .o)) k
def akV{p:Addr}{deep:Int}{s:M}(h:jp w (p.add 0) λq=>Q (VM ((q.n:Int)>16384)) (R (aj #[]) w) (nr 0 w λJ k i a=>Q (VM (i<deep)) (jp a (p.add 0) λr=>LD 256 (.int .u8 32) (.int .u8 32) a λt C=>yY 256 r t C λu b=>sT (p.add 0) b 1 λf k3 K g=>sS b f k3 K g [u.v] λD=>nx k λj=>J j (au U (i+1)) D) (jp a (p.add 0) λv=>S0 (Builtin.append_ #[256,9] 256 #[v.v,ae s]) a λx c=>sT (p.add 0) c 1 λl m L n=>sS c l m L n [x.v] λd=>jp d (p.add 0) λy=>nG 256 (.int .u8 10) d λz F=>yY 256 y z F λA e=>sT (p.add 0) e 1 λo H P B=>sS e o H P B [A.v] λI=>R (aj #[]) I))):G 206 #[N p,O U deep,ae s] w R:=
 fC (.s .o (.s (.s .o (.j [0,1,2] [.s 6 E] .o .o)) .o)) h
def akW{n:Int}(h:Q (n==0) (R (ae (aq #[48])) w) (Q (VM (n<0)) (akb 262 #[O U n] w λi c=>cS 261 #[.int .u64 i] c λs d=>(1+(s.size:Int))<=9223372036854775807/\R (ae ((aq #[45])++s)) d) (akb 262 #[O U n] w λa e=>cS 261 #[.int .u64 a] e λb f=>R (ae b) f))):G 207 #[O U n] w R:=
 iA h
def akX{p:Addr}{x:Int}{x1 a x3:M}{g h c j:Sl}{x8 deep:Int}(D:P w λk q=>xH (λr=>xH (λt=>xH (λw3=>nr 0 w3 λu X i b=>∃n:Sl,((VM (i<(c.n:Int)))=aF->aD b (p.add 0) [n.v])/\Q ((VM (i<(c.n:Int)))&&(VM ((n.n:Int)<=16384))) (ix c i b λH s0 I y K L s1 S l1 T l2 l3 V=>qx [k] 264 #[dZ H s0 I y K L s1 S l1 T l2 l3 V] b λs2 w5=>F [k] 206 #[N p,O U deep,ae s2] w5 λw6=>nx X λk3=>u k3 (au U (i+1)) w6) (nr 0 b λv Y e f=>Q (VM (e<(j.n:Int))) (fY j e f λW s3 s4 s5 l4 l5 l6 l7 d=>F [k] 265 #[N p,bS W s3 s4 s5 l4 l5 l6 l7 d,O U deep] f λw8=>nx Y λZ=>v Z (au U (e+1)) w8) (R (aj #[]) f))) λm=>Q (VM ((h.n:Int)>0)) (qx [k] 263 #[h.v] t λs w9=>(6+(s.size:Int))<=9223372036854775807/\F [k] 206 #[N p,O U deep,ae ((aq #[108,101,97,118,101,32])++s)] w9 λz=>m z) (m t)) λl=>Q (VM ((g.n:Int)>0)) (qx [k] 263 #[g.v] r λo A=>(6+(o.size:Int))<=9223372036854775807/\F [k] 206 #[N p,O U deep,ae ((aq #[101,110,116,101,114,32])++o)] A λB=>l B) (l r)) λJ=>Q (!(a.toList==((aq #[]).toList))) ((8+(a.size:Int))<=9223372036854775807/\((((aq #[105,110,105,116,105,97,108,32])++a).size:Int)+1)<=9223372036854775807/\F [k] 206 #[N p,O U deep,ae (((aq #[105,110,105,116,105,97,108,32])++a)++(aq #[59]))] q λC=>J C) (J q)):G 208 #[N p,bS x x1 a x3 g h c j x8,O U deep] w R:=
 fC (.s .o (.j [0,2,4] [] .o (.j [0,2,4] [] .o (.j [0,2,4] [] .o (.s (.s .o (.j [0,2,4] [.s 6 E] .o .o)) (.s .o (.j [0,2,4] [.s 7 E] .o .o))))))) D
def akY{k:Addr}{l:Sl}(m:nr 0 w λg u i a=>Q (VM (i<(l.n:Int))) (ob (λh b=>xH (λf=>∃p0,cM l i 9 p0/\ja f (p0.add 2) λn o y q x r=>cU 210 #[N k,bN n o y q x r] f λB=>nx u λv=>g v (au U (i+1)) B) λc=>Q (!h) (∃p,cM l i 9 p/\A b (p.add 8) λs=>cU 91 #[N k,O U 23,O U s] b λC=>c C) (c b)) λJ=>∃d,cM l i 9 d/\A a (d.add 0) λt=>Q (t !=1) (J aF a) (∃e,cM l i 9 e/\Eo a (e.add 1) λz=>cB 266 #[N k,ae z] a λj D=>J j D)) (R (aj #[]) a)):G 209 #[N k,l.v] w R:=
 fC (.s .o (.j [0,1] [.s 4 E] (.s .o (.s (.s (.j [0,1,4] [.s 5 .bool] .o .o) (.j [0,1,4] [] .o .o)) .o)) .o)) m
def akZ{k:Addr}{x K:Int}{c:M}{L:Int}{d:Sl}{l:Int}(r:P w λa g=>ob (λn h=>ob (λo j=>xH (λB=>nr 0 B λm y i b=>Q (VM (i<(d.n:Int))) (jS d i b λs t A u z v=>F [a] 210 #[N k,bN s t A u z v] b λC=>nx y λk3=>m k3 (au U (i+1)) C) (R (aj #[]) b)) λf=>Q ((!n)||(!o)) (F [a] 91 #[N k,O U 23,O U l] j λD=>f D) (f j)) λe=>Q (x !=3) (e aF h) (jM [a] 267 #[N k,ae c] h λp H=>e p H)) λJ=>Q (x !=2) (J aF g) (jM [a] 266 #[N k,ae c] g λq I=>J q I)):G 210 #[N k,bN x K c L d l] w R:=
 fC (.s .o (.s (.j [0,3] [.s 4 .bool] .o .o) (.s (.j [0,3,4] [.s 5 .bool] .o .o) (.j [0,3] [] .o (.s .o (.j [0,3] [.s 6 E] .o .o)))))) r
def ac3(k:Addr)(e:Sl)(R:aH)(j:aw):Prop:=
 ∃J:Nat->Sl->Int->aw->Prop,∃f:Nat,J f Sl.nil 0 j/\
 ∀d,∀l:Sl,∀i b,J d l i b->Q (VM (i<(e.n:Int))) (o0 b λc=>jp c (k.add 10) λg=>Dd e i c λs=>cI 49 #[g.v,ae s] c λa w=>Q (VM (a<1)) (R (ak aM) w) (jp w (k.add 10) λh=>∃p,cM h a 5 p/\
  A w (p.add 0) λx=>cB 118 #[O U x] w λv o=>ob (λm y=>nr 0 y λu k3 n t=>Q (VM (n<(l.n:Int))) (o0 t λq=>∃r:aK,r ((k.add 10).block)/\
    jp q (k.add 10) λH=>Z0 l n q λF=>LD 43 (O U m) (O U F) q λI C=>cj r q C/\
    cI 268 #[H.v,I.v] C λz B=>cj r C B/\
     ∃N,((z==m)=aM->cM l n 1 N)/\
     ∃K,((z==m)=aM->aD B N [O U K])/\
     ∃M:Sl,(((z==m)||(z==K))=aM->aD B (k.add 10) [M.v])/\
     ∃P,(((z==m)||(z==K))=aM->cM M z 5 P)/\
     ∃L,(((z==m)||(z==K))=aM->aD B (P.add 0) [O U L])/\
     Q (((z==m)||(z==K))||(L !=2)) (R (ak aM) B) (nx k3 λT=>u T (au U (n+1)) B)) (nG 43 (O U m) t λW Z=>yY 43 l W Z λX S=>nx d λV=>J V X (au U (i+1)) S)) λD=>Q v (jp o (k.add 10) λY=>∃E,cM Y a 5 E/\
   A o (E.add 2) λG=>D G o) (D a o))) (R (ak aF) b)
def ak0{k:Addr}{l:Sl}(h:ac3 k l R w):G 211 #[N k,l.v] w R:=
 fC (.d 2 (.s (.s .o (.j [0,1] [.s 5 .sl,.s 6 E] (.s .o (.s (.d 3 (.j [0,1,5,6] [.s 7 E] .o (.s (.s .o (.j [0,1,5,6,7] [.s 9 E] .o .o)) .o))) .o)) .o)) .o)) h
def ak1{c:Int}{o:Sl}(h:cB 246 #[o.v,.int .u8 c] w λb a=>R (ak b) a):G 179 #[.int .u8 c,o.v] w R:=
 iA h
def ak2{s r:M}(h:cB 247 #[ae s,ae r] w λb a=>R (ak b) a):G 180 #[ae s,ae r] w R:=
 iA h
def ak3{c:Addr}(h:Eo w (c.add 0) λs=>A w (c.add 1) λi=>∃k:Nat,(i=(k:Int)/\k<=s.size)/\o0 w λa=>R (ae (s.extract k s.size)) a):G 181 #[N c] w R:=
 iA h
def ak4{s e:M}(h:Uu 248 #[ae s,ae e] w λa c b d=>R (aj #[ae a,ae c,ak b]) d):G 182 #[ae s,ae e] w R:=
 iA h
def ak5{c:Int}{R:aH}(w:aw)(h:R (ak (((VM (97<=(bits .or .u8 c 32)))&&(VM ((bits .or .u8 c 32)<=122)))||(c==95))) w):G 183 #[.int .u8 c] w R:=
 iA h
def ak6(c:Addr){R:aH}(a:aw)(h:cS 249 #[N (c.add 0)] a λs w=>Q (VM ((s.size:Int)>24)) (R (O U 2) w) (ob (λi f=>cS 251 #[ae s] f λe g=>cU 134 #[N c,mX i e 0 0,O U (s.size:Int)] g λj=>R (O U 0) j) λJ=>jp w (c.add 2) λl=>cB 250 #[l.v,ae s] w λd b=>Q d (J 2 b) (J 1 b))):G 184 #[N c] a R:=
 fC (.d 4 (.j [0,3] [.s 4 E] .o .o)) h
def ak7{c:Int}(h:R (ak ((VM (48<=c))&&(VM (c<=57)))) w):G 185 #[.int .u8 c] w R:=
 iA h
def ak8(c:Addr)(R:aH)(w:aw)(h:cS 181 #[N (c.add 0)] w λs g=>afs 252 #[ae s] g λe i a b=>Q (a !=0) (R (O U a) b) (cS 249 #[N (c.add 0)] b λf d=>Q (VM ((f.size:Int)>i)) (R (O U 4) d) (cU 134 #[N c,mX 3 (aq #[]) e 0,O U i] d λj=>R (O U 0) j))):G 186 #[N c] w R:=
 iA h
def ak9(c:Addr)(R:aH)(q:aw)(C:cS 181 #[N (c.add 0)] q λs X=>ob (λD w=>ob (λi r=>Q (i==0) (R (O U 4) r) (∃k:Nat,(i=(k:Int)/\k<=s.size)/\cS 251 #[ae (s.extract 0 k)] r λW Y=>cU 134 #[N c,mX 4 W 0 0,O U i] Y λZ=>R (O U 0) Z)) λd=>ob (λu t=>Q u (d 2 t) (d D t)) λJ=>Q (VM ((s.size:Int)>1)) (∃c0:UInt8,((0:Int)<=1/\s[1]? =(Hg c0))/\Q ((UInt8.toNat c0:Int)==61) (∃e:UInt8,((0:Int)<=0/\s[0]? =(Hg e))/\o0 w λw6=>Z3 256 (.int .u8 60) (.int .u8 62) (.int .u8 61) (.int .u8 33) w6 λK w7=>cB 179 #[.int .u8 (UInt8.toNat e:Int),K.v] w7 λv a=>Q v (J aF a) (∃f:UInt8,((0:Int)<=1/\s[1]? =(Hg f))/\∃g:UInt8,((0:Int)<=0/\s[0]? =(Hg g))/\Q ((UInt8.toNat f:Int)==(UInt8.toNat g:Int)) (∃h:UInt8,((0:Int)<=0/\s[0]? =(Hg h))/\LD 256 (.int .u8 38) (.int .u8 124) a λL w9=>cB 179 #[.int .u8 (UInt8.toNat h:Int),L.v] w9 λx o=>Q x (J aF o) (2<=s.size/\J (((s.extract 0 2).toList)==((aq #[45,62]).toList)) o)) (2<=s.size/\J (((s.extract 0 2).toList)==((aq #[45,62]).toList)) a))) (∃j:UInt8,((0:Int)<=1/\s[1]? =(Hg j))/\∃l:UInt8,((0:Int)<=0/\s[0]? =(Hg l))/\Q ((UInt8.toNat j:Int)==(UInt8.toNat l:Int)) (∃m:UInt8,((0:Int)<=0/\s[0]? =(Hg m))/\o0 w λA=>LD 256 (.int .u8 38) (.int .u8 124) A λP F=>cB 179 #[.int .u8 (UInt8.toNat m:Int),P.v] F λy M=>Q y (J aF M) (2<=s.size/\J (((s.extract 0 2).toList)==((aq #[45,62]).toList)) M)) (2<=s.size/\o0 w λB=>J (((s.extract 0 2).toList)==((aq #[45,62]).toList)) B))) (o0 w λV=>J aM V)) λb=>∃n:UInt8,((0:Int)<=0/\s[0]? =(Hg n))/\S0 (av 256 17 #[.mk 0 (.int .u8 123),.mk 1 (.int .u8 125),.mk 2 (.int .u8 40),.mk 3 (.int .u8 41),.mk 4 (.int .u8 91),.mk 5 (.int .u8 93),.mk 6 (.int .u8 59),.mk 7 (.int .u8 44),.mk 8 (.int .u8 61),.mk 9 (.int .u8 43),.mk 10 (.int .u8 45),.mk 11 (.int .u8 42),.mk 12 (.int .u8 47),.mk 13 (.int .u8 37),.mk 14 (.int .u8 60),.mk 15 (.int .u8 62),.mk 16 (.int .u8 33)]) X λS H=>S0 (convert 256 256 S.v) H λT I=>cB 179 #[.int .u8 (UInt8.toNat n:Int),T.v] I λz p=>Q z (b 1 p) (b 0 p)):G 187 #[N c] q R:=
 fC (.d 3 (.j [0,3] [.s 4 E] .o (.j [0,3] [.s 4 E] (.s (.j [0,3,4] [.s 45 .bool] .o .o) .o) .o))) C
def ac4{s:Sl}{v:M}(h:nr 0 w λJ k i a=>Q (VM (i<(s.n:Int))) (Dd s i a λc=>Q (v.toList==c.toList) (R (O U i) a) (nx k λb=>J b (au U (i+1)) a)) (R (O U (-1)) a)):G 188 #[s.v,ae v] w R:=
 fC (.s .o (.s (.s .o (.j [0,1,7] [.s 8 E] .o .o)) .o)) h
def ala{r:Addr}{kind:Int}(co:P w λa S=>∃V:aK,V (((r.add 0).add 0).block)/\jp S ((r.add 0).add 0) λl0=>V (((r.add 0).add 1).block)/\A S ((r.add 0).add 1) λi0=>∃p0,cM l0 i0 4 p0/\V ((p0.add 3).block)/\A S (p0.add 3) λK=>P S λk w1=>F [a,k] 135 #[N r,N ((r.add 4).add 3),O U 2] w1 λw2=>jM [a,k] 78 #[N (r.add 0)] w2 λb0 T=>Q (!b0) (∀w4,az [a] T w4->R (dZ kind (aq #[]) 0 aM 0 0 (aq #[]) 0 Sl.nil 0 Sl.nil Sl.nil K) w4) (A T ((r.add 0).add 1) λi2=>sT ((r.add 0).add 1) T 1 λk2 k3 z0 k4=>a≠k2/\k≠k2/\sS T k2 k3 z0 k4 [O U (au U (i2+1))] λw5=>∃J:Int->M->Int->L->Int->Int->M->Int->Sl->Int->Sl->Sl->Int->aw->Prop,(∀i3 s0 i4 b1 i5 i6 s1 i7,∀l1:Sl,∀i8,∀l2 l3:Sl,∀i9 w6,J i3 s0 i4 b1 i5 i6 s1 i7 l1 i8 l2 l3 i9 w6->∃W:Int->M->Int->L->Int->Int->M->Int->Sl->Int->Sl->Sl->Int->aw->Prop,(∀i s2 b Z c d s3 e,∀l4:Sl,∀f,∀l5 l6:Sl,∀g w7,W i s2 b Z c d s3 e l4 f l5 l6 g w7->∃X:Int->M->Int->L->Int->Int->M->Int->Sl->Int->Sl->Sl->Int->aw->Prop,(∀u s4 v b3 x y s5 z,∀l7:Sl,∀B,∀l8 l9:Sl,∀C w8,X u s4 v b3 x y s5 z l7 B l8 l9 C w8->∃Y:Nat->M->Int->M->Int->L->Int->Int->M->Int->Sl->Int->Sl->Sl->Int->aw->Prop,∃k5:Nat,Y k5 (aq #[45,62]) u s4 v b3 x y s5 z l7 B l8 l9 C w8/\∀k6 s6 h s7 j b4 l m s8 n,∀s:Sl,∀o,∀pr pL:Sl,∀p w9,Y k6 s6 h s7 j b4 l m s8 n s o pr pL p w9->nG 37 (ae s6) w9 λxx dk=>cF [a,k] w9 dk/\pC [a,k] 75 #[N (r.add 0),xx.v] dk λam dz=>Q (VM (am>0)) (o0 dz λeF=>∃H:aK,H k/\qx [a,k] 190 #[N (r.add 0)] eF λs9 I=>cj H eF I/\nG 37 (ae s9) I λAb t=>cF [a,k] I t/\cj H I t/\yY 37 pL Ab t λA4 gV=>cF [a,k] t gV/\cj H t gV/\∀iO,az [k] gV iO->nx k6 λk7=>Y k7 (aq #[44]) h s7 j b4 l m s8 n s o pr A4 p iO) (nG 37 (ae (aq #[59])) dz λH5 iz=>cF [a,k] dz iz/\F [a,k] 73 #[N (r.add 0),H5.v] iz λiU=>∀li,az [a] iU li->R (dZ h s7 j b4 l m s8 n s o pr pL p) li))/\nG 37 (ae (aq #[123])) w7 λTj jN=>cF [a,k] w7 jN/\pC [a,k] 138 #[N (r.add 0),Tj.v] jN λaC mD=>Q (VM (aC>0)) (sH [a,k] 191 #[N r] mD λW7 ra=>∀tw,az [k] ra tw->X i s2 b Z c d s3 e l4 f W7 l6 g tw) (X i s2 b Z c d s3 e l4 f l5 l6 g mD))/\nG 37 (ae (aq #[91])) w6 λYP vh=>cF [a,k] w6 vh/\pC [a,k] 75 #[N (r.add 0),YP.v] vh λq pN=>Q (VM (q>0)) (∀qR,az [k] pN qR->fp [a,k] 253 #[N (r.add 0)] qR λaS aT Ey bv Tl bV tB=>∀xy,az [k] tB xy->nG 37 (ae (aq #[93])) xy λYQ BP=>cF [a,k] xy BP/\F [a,k] 73 #[N (r.add 0),YQ.v] BP λLV=>W i3 s0 i4 (VM (q>0)) aS aT Ey bv Tl bV l2 l3 i9 LV) (∀Xc,az [k] pN Xc->W i3 s0 i4 (VM (q>0)) i5 i6 s1 i7 l1 i8 l2 l3 i9 Xc))/\Q (kind==1) (qx [a,k] 190 #[N (r.add 0)] w5 λxQ cc=>∀D,az [k] cc D->J kind xQ 0 aM 0 0 (aq #[]) 0 Sl.nil 0 Sl.nil Sl.nil K D) (Q (kind==3) (vN [a,k] 137 #[N (r.add 0),O U 3] w5 λcC EV bY dO ce=>∀Y1,az [k] ce Y1->J kind (aq #[]) bY aM 0 0 (aq #[]) 0 Sl.nil 0 Sl.nil Sl.nil K Y1) (J kind (aq #[]) 0 aM 0 0 (aq #[]) 0 Sl.nil 0 Sl.nil Sl.nil K w5)))):G 189 #[N r,O U kind] w R:=
 fC (.d 4 (.j [0,4,5] [.b 5 [E,.str,E,.bool,E,E,.str,E,.sl,E,.sl,.sl,E]] .o (.j [0,4,5] [.b 5 [E,.str,E,.bool,E,E,.str,E,.sl,E,.sl,.sl,E]] .o (.j [0,4,5] [.b 5 [E,.str,E,.bool,E,E,.str,E,.sl,E,.sl,.sl,E]] .o (.s (.s .o (.j [0,4,5] [.s 6 .str,.b 5 [E,.str,E,.bool,E,E,.str,E,.sl,E,.sl,.sl,E]] .o .o)) .o))))) co
def alb{c:Addr}(h:yW 137 #[N c,O U 1] w λi s b d a=>R (ae s) a):G 190 #[N c] w R:=
 iA h
def alc{r:Addr}(h:uO w λk a d=>nG 37 (ae (aq #[123])) d λl e=>cF [k,a] d e/\F [k,a] 73 #[N (r.add 0),l.v] e λb=>(aG b k 132 [N r]->aG b a 24 [Sl.nil.v]->cU 254 #[N r,ae (aq #[125]),.func (.func 255) #[] #[pB a,pB k]] b λc=>U3 c k 132 λq=>Us c a 24 λf=>R f.v c)):G 191 #[N r] w R:=
 iA h
def ald{s:Sl}{n:Int}(h:xH (λb=>ob (λe f=>R e.v f) λJ=>Q (VM ((au U (n-(au U ((s.c:Int)-(s.n:Int)))))>0)) (∃k:Nat,((s.c:Int)=(k:Int)/\k<=s.c)/\∃l:Sl,∃c,((Builtin.append_ #[24,3] 24 #[(s.cut 0 k s.c 9).v,O U (au U (n-(au U ((s.c:Int)-(s.n:Int)))))]).run ar b)=(.ok l.v c)/\∃a:Nat,((s.n:Int)=(a:Int)/\a<=l.c)/\J (l.cut 0 a l.c 9) c) (J s b)) λd=>Q (VM (n<0)) (False) (d w)):G 95 #[s.v,O U n] w R:=
 fC (.s .o (.j [0,1] [] .o (.j [] [.s 0 .sl] .o .o))) h
def ac5{b:Addr}{s:M}(h:cU 311 #[N b] w λa=>jp a (b.add 1) λl=>S0 (Builtin.append_ #[256,9] 256 #[l.v,ae s]) a λf c=>sT (b.add 1) c 1 λk d z e=>sS c k d z e [f.v] λg=>R (aj #[O U (s.size:Int),.nilIface]) g):G 275 #[N b,ae s] w R:=
 iA h
def ale{words:Sl}(h:cL 315 #[words.v,.func (.func 316) #[] #[]] w λl a=>cS 314 #[l.v,ae (aq #[32])] a λs b=>R (ae s) b):G 277 #[words.v] w R:=
 iA h
def alf{s:M}(i:P w λk c=>jn3 (λf u r q=>R (ak f) q) λJ=>Q ((!(s.toList==((aq #[]).toList)))&&(VM ((s.size:Int)<=24))) (∃c0:UInt8,((0:Int)<=0/\s[0]? =(Hg c0))/\jM [k] 183 #[.int .u8 (UInt8.toNat c0:Int)] c λg a=>Q g (aG a k 200 [ae s,O U 0]->cS 249 #[pB k] a λn b=>Oi b k 200 λo j=>Q (n.toList==s.toList) (cL 130 #[] b λm d=>Oi d k 200 λv t=>cB 250 #[m.v,ae s] d λh e=>Oi e k 200 λp l=>J (!h) p l e) (J aM o j b)) (J aM s 0 a)) (J aM s 0 c)):G 278 #[ae s] w R:=
 fC (.d 2 (.s (.j [3] [.s 2 .bool,.b 3 [.str,E]] .o .o) .o)) i
def alg{p:Addr}{deep:Int}{word t:M}(h:Q (!(t.toList==((aq #[]).toList))) (∃l:Sl,∃a,((av 37 2 #[.mk 0 (ae word),.mk 1 (ae t)]).run ar w)=(.ok l.v a)/\cU 225 #[N p,O U deep,l.v] a λb=>R (aj #[]) b) (R (aj #[]) w)):G 280 #[N p,O U deep,ae word,ae t] w R:=
 iA h
def alh{p:Addr}{l:Sl}(j:Q ((l.n:Int)==0) (R (ae (aq #[])) w) (A w (p.add 3) λm=>sT (p.add 3) w 1 λv x z0 y=>sS w v x z0 y [O U (au U (m+(l.n:Int)))] λe=>A e (p.add 3) λn=>cU 224 #[N p,ak (VM (n<=400))] e λX=>nG 37 (ae (aq #[123])) X λD Y=>ob (λF Z=>nG 37 (ae (aq #[125])) Z λH w4=>yY 37 F H w4 λI w5=>cS 277 #[I.v] w5 λS w6=>R (ae S) w6) λJ=>Fg D 0 Y λg B a i b=>Q (VM (i<(l.n:Int))) (rm l i b λo T q r V s K t u=>P b λk c=>Wx c (p.add 2) λh=>Q h (J a c) (qx [k] 318 #[N p,iy o T q r V s K t u] c λW f=>nG 37 (ae W) f λL d=>cF [k] f d/\yY 37 a L d λM z=>cF [k] d z/\nx B λC=>g C M (au U (i+1)) z)) (J a b))):G 281 #[N p,l.v] w R:=
 fC (.d 5 (.j [] [.s 5 .sl] (.s .o (.j [0,28,29] [.s 5 .sl,.s 30 E] .o .o)) .o)) j
def ali{p:Addr}{m:Int}{d:M}{X:Int}{a:L}{Y c:Int}{e:M}{f:Int}{g:Sl}{h:Int}{H A:Sl}{D:Int}(W:P w λk j=>ob (λs0 w1=>F [k] 224 #[N p,ak (((d.toList==((aq #[]).toList))||(m==1))&&((X==0)||(m==3)))] w1 λv=>ob (λs1 w3=>nr 0 w3 λC k2 i b=>Q (VM (i<(A.n:Int))) (Dd A i b λs2=>qx [k] 226 #[N p,ae s2] b λs3 w5=>nx k2 λk3=>C k3 (au U (i+1)) w5) (ob (λs4 w6=>qx [k] 281 #[N p,H.v] w6 λs5 x=>Z3 37 (ae s0) (ae s1) (ae s5) (ae s4) x λl0 y=>cF [k] x y/\qx [k] 277 #[l0.v] y λt w9=>((t.size:Int)+1)<=9223372036854775807/\R (ae (t++(aq #[59]))) w9) λn=>Q (VM ((A.n:Int)>0)) (qx [k] 314 #[A.v,ae (aq #[44,32])] b λu I=>(3+(u.size:Int))<=9223372036854775807/\n ((aq #[45,62,32])++u) I) (n (aq #[]) b))) λl=>Q a (qx [k] 319 #[N p,bN Y c e f g h] v λs K=>(1+(s.size:Int))<=9223372036854775807/\((((aq #[91])++s).size:Int)+1)<=9223372036854775807/\l (((aq #[91])++s)++(aq #[93])) K) (F [k] 320 #[N p,bN Y c e f g h] v λS=>l (aq #[]) S)) λJ=>Q (m==1) (qx [k] 226 #[N p,ae d] j λs9 o=>LD 37 (ae (aq #[111,110])) (ae s9) o λl1 q=>cF [k] o q/\qx [k] 277 #[l1.v] q λB T=>J B T) (Q (m==3) (F [k] 224 #[N p,ak (VM (X>=0))] j λZ=>qx [k] 227 #[O U X] Z λxQ z=>LD 37 (ae (aq #[97,102,116,101,114])) (ae xQ) z λl2 r=>cF [k] z r/\qx [k] 277 #[l2.v] r λV li=>J V li) (F [k] 224 #[N p,ak (m==2)] j λjN=>J (aq #[97,108,119,97,121,115]) jN))):G 282 #[N p,dZ m d X a Y c e f g h H A D] w R:=
 fC (.d 2 (.j [0,3] [.s 5 .str] .o (.d 2 (.j [0,3,5,7] [.s 6 .str] .o (.s (.s .o (.j [0,3,5,6,7,70,71] [.s 72 E] .o .o)) (.j [0,3,5,6] [.s 7 .str] .o .o)))))) W
def alj{p:Addr}{n:Int}{u r V:M}{t S q j:Sl}{C deep:Int}(X:P w λk c=>Wx c (p.add 2) λI=>Q (I||(VM (deep>=12))) (F [k] 224 #[N p,ak aM] c λw1=>R (aj #[]) w1) (S0 (av 37 5 #[.mk 0 (ae (aq #[])),.mk 1 (ae (aq #[115,116,97,116,101])),.mk 2 (ae (aq #[112,97,114,97,108,108,101,108])),.mk 3 (ae (aq #[104,105,115,116,111,114,121])),.mk 4 (ae (aq #[100,101,101,112]))]) c λA l=>cF [k] c l/\ob (λK m=>Q K (F [k] 224 #[N p,ak (V.toList==((aq #[]).toList))] m λw4=>o0 w4 λo=>∃a:aK,a k/\∃p0,cM A n 1 p0/\a p0.block/\Eo o p0 λs0=>qx [k] 226 #[N p,ae u] o λs1 d=>cj a o d/\BI 37 (ae s0) (ae s1) (ae (aq #[123])) d λY e=>cF [k] d e/\cj a d e/\F [k] 225 #[N p,O U deep,Y.v] e λE=>cj a e E/\F [k] 228 #[N p,bS n u r V t S q j C,O U (au U (deep+1))] E λH=>nG 37 (ae (aq #[125])) H λZ x=>cF [k] H x/\F [k] 225 #[N p,O U deep,Z.v] x λT=>R (aj #[]) T) (ob (λL y=>Q L (F [k] 224 #[N p,ak ((r.toList==((aq #[]).toList))&&((au U ((au U ((au U ((t.n:Int)+(S.n:Int)))+(q.n:Int)))+(j.n:Int)))==0))] y λW=>o0 W λf=>∃J:aK,J k/\∃h,cM A n 1 h/\J h.block/\Eo f h λs2=>J k/\qx [k] 226 #[N p,ae u] f λs3 g=>cj J f g/\qx [k] 226 #[N p,ae V] g λD b=>cj J g b/\((D.size:Int)+1)<=9223372036854775807/\∃B:Sl,∃i,((av 37 4 #[.mk 0 (ae s2),.mk 1 (ae s3),.mk 2 (ae (aq #[45,62])),.mk 3 (ae (D++(aq #[59])))]).run ar b)=(.ok B.v i)/\cF [k] b i/\cj J b i/\F [k] 225 #[N p,O U deep,B.v] i λz=>cj J i z/\R (aj #[]) z) (F [k] 224 #[N p,ak aM] y λli=>R (aj #[]) li)) λv=>Q (n==3) (v (n==3) m) (v (n==4) m))) λs=>Q (n==1) (s (n==1) l) (s (n==2) l))):G 283 #[N p,bS n u r V t S q j C,O U deep] w R:=
 fC (.d 4 (.j [0,2,4,6,19] [.s 22 .bool] .o (.s .o (.j [0,2,4,6] [.s 52 .bool] .o .o)))) X
def ac6{b:Addr}(R:aH)(w:aw)(h:jp w (b.add 1) λl=>R (O U (l.n:Int)) w):G 284 #[N b] w R:=
 iA h
def alk(s:M)(R:aH)(w:aw):Prop:=
 Q ((s.toList==((aq #[]).toList))||(VM ((s.size:Int)>24))) (R (ak aM) w) (∃c0:UInt8,((0:Int)<=0/\
  s[0]? =(Hg c0))/\
 cB 197 #[.int .u8 (UInt8.toNat c0:Int)] w λb e=>cB 200 #[ae s] e λc a=>ob (λd f=>R (ak d) f) λJ=>Q (b&&(!c)) (cI 199 #[ae s,O U 0] a λi g=>J (i==(s.size:Int)) g) (J aM a))
def arS{s:M}(h:alk s R w):G 259 #[ae s] w R:=
 fC (.d 4 (.s (.j [] [.s 2 .bool] .o .o) .o)) h
def alm{n:Addr}{x:Int}{y b m:M}{o p c d:Sl}{x8 deep:Int}(V:P w λk h=>A h (n.add 0) λW=>sT (n.add 0) h 1 λt k2 z0 k3=>k≠t/\sS h t k2 z0 k3 [O U (au U (W+1))] λw1=>jM [k] 259 #[ae y] w1 λq a=>∃s,(((!q)||(VM (deep>=12)))=aM->aD a (n.add 0) [O U s])/\Q (((!q)||(VM (deep>=12)))||(VM (s>64))) (R (ak aM) a) (Q ((x==3)||(x==4)) (jM [k] 259 #[ae m] a λC w3=>R (ak (((((C&&(b.toList==((aq #[]).toList)))&&((o.n:Int)==0))&&((p.n:Int)==0))&&((c.n:Int)==0))&&((d.n:Int)==0))) w3) (ob (λD w4=>jM [k] 306 #[N n,o.v] w4 λF w5=>jM [k] 306 #[N n,p.v] w5 λH u=>Q ((((((x !=1)&&(x !=2))||(!(m.toList==((aq #[]).toList))))||(!D))||(!F))||(!H)) (R (ak aM) u) (nr 0 u λz k5 g j=>Q (VM (g<(c.n:Int))) (ix c g j λX s0 Y I Z i6 s1 i7 l0 i8 l1 l2 i9=>jM [k] 307 #[N n,dZ X s0 Y I Z i6 s1 i7 l0 i8 l1 l2 i9] j λK v=>Q (!K) (R (ak aM) v) (nx k5 λk6=>z k6 (au U (g+1)) v)) (nr 0 j λB k8 i l=>Q (VM (i<(d.n:Int))) (fY d i l λe s2 s3 s4 l3 l4 l5 l6 f=>jM [k] 260 #[N n,bS e s2 s3 s4 l3 l4 l5 l6 f,O U (au U (deep+1))] l λL r=>Q (!L) (R (ak aM) r) (nx k8 λk9=>B k9 (au U (i+1)) r)) (R (ak aF) l)))) λJ=>Q (!(b.toList==((aq #[]).toList))) (jM [k] 259 #[ae b] a λS T=>J S T) (J (b.toList==((aq #[]).toList)) a)))):G 260 #[N n,bS x y b m o p c d x8,O U deep] w R:=
 fC (.d 6 (.j [0,2,4] [.s 9 .bool] .o (.d 3 (.s (.s .o (.j [0,2,4] [.s 12 E] .o .o)) (.s (.s .o (.j [0,2,4] [.s 14 E] .o .o)) .o))))) V
def arT{u:Int}(j:Q (u==0) (R (ae (aq #[])) w) (ob (λk m=>R (ae k) m) λf=>o0 w λb=>∃J:aK,(cS 261 #[.int .u64 (au .u64 (u.tdiv 10))] b λs d=>cj J b d/\∃g:Sl,∃c,((av 256 1 #[.mk 0 (.int .u8 (au .u8 (au .u64 (48+(u.tmod 10)))))]).run ar d)=(.ok g.v c)/\cj J d c/\∃z:S,uN c g z/\((s.size:Int)+((aq z.toArray).size:Int))<=9223372036854775807/\f (s++(aq z.toArray)) c)/\∃l:Sl,∃a,((av 256 1 #[.mk 0 (.int .u8 (au .u8 (au .u64 (48+(u.tmod 10)))))]).run ar b)=(.ok l.v a)/\cj J b a/\∃e:S,(∀p0,l.a=(Hg p0)->J p0.block)/\uN a l e/\cS 261 #[.int .u64 (au .u64 (u.tdiv 10))] a λh i=>cj J a i/\((h.size:Int)+((aq e.toArray).size:Int))<=9223372036854775807/\f (h++(aq e.toArray)) i)):G 261 #[.int .u64 u] w R:=
 fC (.d 2 (.s (.j [] [.s 2 .str] .o .o) .o)) j
def aln(n:Int)(R:aH)(w:aw)(h:Q (VM (n<0)) (R (.int .u64 (au .u64 ((au .u64 (au U (0-(au U (n+1)))))+1))) w) (R (.int .u64 (au .u64 n)) w)):G 262 #[O U n] w R:=
 iA h
def alo{l:Sl}(h:Fg (aq #[123]) 0 w λJ k s i a=>Q (VM (i<(l.n:Int))) (((s.size:Int)+1)<=9223372036854775807/\rm l i a λc o d e p f n g j=>cS 308 #[iy c o d e p f n g j] a λb q=>(((s++(aq #[32])).size:Int)+(b.size:Int))<=9223372036854775807/\nx k λm=>J m ((s++(aq #[32]))++b) (au U (i+1)) q) (((s.size:Int)+2)<=9223372036854775807/\R (ae (s++(aq #[32,125]))) a)):G 263 #[l.v] w R:=
 fC (.d 2 (.s (.s .o (.j [0] [.s 3 .str,.s 4 E] .o .o)) .o)) h
def alp(c:Int)(X:M)(j:Int)(m:L)(Y l:Int)(n:M)(o:Int)(p:Sl)(q:Int)(H A:Sl)(I:Int)(R:aH)(x:aw)(K:P x λk y=>ob (λS z=>ob (λa B=>ob (λb C=>ob (λT V=>Fg T 0 V λF N s i w=>Q (VM (i<(A.n:Int))) (ob (λr D=>Dd A i D λt=>((r.size:Int)+(t.size:Int))<=9223372036854775807/\nx N λk3=>F k3 (r++t) (au U (i+1)) D) λh=>Q (i==0) (((s.size:Int)+4)<=9223372036854775807/\h (s++(aq #[32,45,62,32])) w) (((s.size:Int)+2)<=9223372036854775807/\h (s++(aq #[44,32])) w)) (((s.size:Int)+1)<=9223372036854775807/\R (ae (s++(aq #[59]))) w)) λg=>Q (VM ((H.n:Int)>0)) (((b.size:Int)+1)<=9223372036854775807/\qx [k] 263 #[H.v] C λu W=>(((b++(aq #[32])).size:Int)+(u.size:Int))<=9223372036854775807/\g ((b++(aq #[32]))++u) W) (g b C)) λf=>Q m (((a.size:Int)+2)<=9223372036854775807/\qx [k] 309 #[bN Y l n o p q] B λd Z=>(((a++(aq #[32,91])).size:Int)+(d.size:Int))<=9223372036854775807/\((((a++(aq #[32,91]))++d).size:Int)+1)<=9223372036854775807/\f (((a++(aq #[32,91]))++d)++(aq #[93])) Z) (f a B)) λe=>Q (c==3) (qx [k] 207 #[O U j] z λv w9=>(6+(v.size:Int))<=9223372036854775807/\e ((aq #[97,102,116,101,114,32])++v) w9) (e S z)) λJ=>Q (c==1) ((3+(X.size:Int))<=9223372036854775807/\J ((aq #[111,110,32])++X) y) (J (aq #[97,108,119,97,121,115]) y)):G 264 #[dZ c X j m Y l n o p q H A I] x R:=
 fC (.d 2 (.j [1] [.s 3 .str] .o (.j [1] [.s 3 .str] .o (.j [1] [.s 3 .str] .o (.j [1] [.s 3 .str] .o (.s (.s .o (.j [1] [.s 3 .str,.s 4 E] (.s .o (.s (.j [1,4] [.s 3 .str] .o .o) .o)) .o)) .o)))))) K
def alq{k:Addr}{name:M}(h:nr 0 w λJ b i a=>jp a ((k.add 0).add 0) λl=>Q (VM (i<(l.n:Int))) (jp a ((k.add 0).add 0) λd=>∃p0,cM d i 3 p0/\Eo a (p0.add 0) λs=>Q (s.toList==name.toList) (R (ak aF) a) (nx b λc=>J c (au U (i+1)) a)) (R (ak aM) a)):G 266 #[N k,ae name] w R:=
 fC (.s .o (.s (.s .o (.j [0,1] [.s 5 E] .o .o)) .o)) h
def alr{k:Addr}{name:M}(h:jp w (k.add 10) λl=>cI 49 #[l.v,ae name] w λi a=>ob (λb f=>R (ak b) f) λJ=>Q (VM (i>=0)) (jp a (k.add 10) λe=>∃p0,cM e i 5 p0/\A a (p0.add 0) λd=>cB 118 #[O U d] a λc g=>J (!c) g) (J aM a)):G 267 #[N k,ae name] w R:=
 fC (.d 2 (.s (.j [] [.s 4 .bool] .o .o) .o)) h
def als{s:Sl}{v:Int}(h:cI 299 #[s.v,.int .u8 v] w λi a=>R (ak (VM (i>=0))) a):G 246 #[s.v,.int .u8 v] w R:=
 iA h
end Go.Proofs.YtccbiehilmhodaaGreatDoor.Vc
