import Derived.Test.YtfemabakfkliiaaGreatDoorQp1
import Derived.Shelf.Strings.Builder1
import Derived.Shelf.Strings.Builder2
import Derived.Shelf.Strings.OnBuilder
import Derived.Shelf.Small.Bits
import Derived.Shelf.Strings.BuilderF
import Derived.Shelf.Strconv.Itoa0
import Derived.Shelf.Strconv.Itoa1
import Derived.Shelf.LaysM
import Derived.Shelf.Strconv.Itoa2
import Derived.Shelf.Strconv.Itoa3
import Derived.Shelf.Strconv.ParseIntEmpty
import Derived.Shelf.Strconv.Clone
import Derived.Shelf.Strconv.SyntaxError
import Derived.Shelf.LaysC
import Derived.Shelf.Strconv.ToError
import Derived.Shelf.Strconv.Lower
import Derived.Shelf.Strconv.ParseUint10
import Derived.Shelf.Strconv.ParseUint10Empty
import Derived.Shelf.Strconv.ParseUint10Any
import Derived.Shelf.Strconv.ParseInt10
import Derived.Shelf.Strconv.RangeError
import Derived.Shelf.Strconv.ToErrorRange
import Derived.Shelf.Strconv.ParseUintEmpty
import Derived.Shelf.Strconv.ParseUint10b64
import Derived.Shelf.Strconv.ParseUint10b32
import Derived.Shelf.Strconv.ParseUint10b16
import Derived.Shelf.Strconv.ParseUint10b8
import Derived.Shelf.Strconv.ParseUint10At
import Derived.Shelf.Strconv.ParseInt10At64
import Derived.Shelf.Strconv.ParseInt10At32
import Derived.Shelf.Strconv.ParseInt10At16
import Derived.Shelf.Strconv.ParseInt10At8
import Derived.Shelf.Strconv.ParseInt10All
import Derived.Shelf.Strconv.ParseIntPublic10
import Derived.Shelf.Strconv.ErrVarParseInt
import Derived.Shelf.Strings.Search1
import Derived.Shelf.Strings.Search2
import Derived.Shelf.Strings.Cut
import Derived.Shelf.Strings.Shaped
import Derived.Shelf.Sort.Plain
import Derived.Shelf.Strings.Prefix
import Derived.Shelf.Bits.Mul64
import Derived.Shelf.Strings.Repeat
import Derived.Shelf.Slices.Clone
import Derived.Shelf.Slices.SearchI
import Derived.Shelf.Slices.In.SortNone
import Derived.Shelf.SlicesE.Clone
import Derived.Shelf.SlicesG.Cmp
import Derived.Shelf.SlIterI.Nil
import Derived.Shelf.SortM.Plain
import Derived.Shelf.SortM.SortNone
set_option linter.constructorNameAsVariable false
set_option linter.defProp false
set_option linter.unusedSectionVars false
set_option linter.unusedSimpArgs false
set_option linter.unusedVariables false
open Bool renaming true->aE,false->aL
open Option renaming some->aM,none->aaa
open List renaming length->I
namespace Go.Kt.V
open Go renaming World->av,Value->aw
open Go Go.RowKit Go.Kt
def xo:∀l m i,eX (l++m) i=match eX l i with
  | some p=>aM p
  | none=>eX m i
 | [],_,_=>rfl
 | (k,p)::r,m,i=>by
  simp[eX];cases Nat.beq k i
  ·exact xo r m i
  rfl
def CH{fr}:∀{kp:List Nat} {i:Nat} {p:Nat×SV},eX (kFr fr kp) i=aM p->i∈kp/\eX fr i=aM p
 | j::r,i,p,h=>by
  unfold kFr at h;split at h
  ·rename_i q a;simp[eX]at h;cases b:Nat.beq j i
   ·rw[b]at h;obtain⟨c,d⟩:=CH acs;simp_all
   simp_all
  obtain _:=CH h;simp_all
def Ko{fr}{p}:∀{kp:List Nat} {i:Nat},i∈kp->eX fr i=aM p->eX (kFr fr kp) i=aM p
 | j::r,i,a,h=>by
  unfold kFr;cases b:Nat.beq j i
  ·have E:i∈r:=by
    rcases aZ.1 a with e | e<;>simp_all
   have c:=Ko (p:=p) E h;split
   ·simp[eX,b];exact c
   exact c
  have:=dj b;subst this;rw[h];simp[eX]
def xp{ct}:∀{m:List MI} {s:List SV} {i:Nat},(mSl m).elem i=aL->eX (Nw ct m s) i=aaa
 | [],s,i,_=>rfl
 | .s j l::r,[],i,_=>rfl
 | .s j l::r,v::s,i,h=>by
  simp only[mSl,yi]at h;split at h
  ·cases h
  rename_i a;simp[Nw,eX];have:Nat.beq j i=aL:=by
   cases b:Nat.beq j i<;>simp_all
  rw[this];exact xp h
 | .a j l::r,s,i,h=>by
  simp only[mSl,yi]at h;split at h
  ·cases h
  rename_i a;simp[Nw,eX];have:Nat.beq j i=aL:=by
   cases b:Nat.beq j i<;>simp_all
  rw[this];exact xp h
 | .b j l::r,s,i,h=>by
  simp[Nw];exact xp h
def xq{ct}:∀{m:List MI} {s:List SV} {i:Nat} {p:Nat×SV},eX (Nw ct m s) i=aM p->p.1=ct
 | [],s,i,p,h=>by cases s<;>cases h
 | .s j l::r,[],i,p,h=>aal
 | .s j l::r,v::s,i,p,h=>by
  simp[Nw,eX]at h;cases b:Nat.beq j i
  ·rw[b]at h;exact xq acs
  rw[b]at h;simp at h;subst h;rfl
 | .a j l::r,s,i,p,h=>by
  simp[Nw,eX]at h;cases b:Nat.beq j i
  ·rw[b]at h;exact xq acs
  rw[b]at h;simp at h;subst h;rfl
 | .b j l::r,s,i,p,h=>by
  simp[Nw]at h;exact xq h
def kD{st}:∀m d x i b,dy x i=aM b->∃a,dy (Nx st m d x) i=aM a/\a.ty=b.ty/\a.ok=b.ok/\a.blk=b.blk/\((VF st m).elem i=aL->a=b)/\(a=b∨a.stp=st.ct)
 | [],d,x,i,b,h=>⟨b,by cases d<;>exact h,rfl,rfl,rfl,λ_=>rfl,.inl rfl⟩
 | .s j l::r,[],x,i,b,h=>⟨b,h,rfl,rfl,rfl,λ_=>rfl,.inl rfl⟩
 | .s j l::r,v::d,x,i,b,h=>kD r d x i b h
 | .a j l::r,d,x,i,b,h=>kD r _ x i b h
 | .b s l::r,d,x,i,b,h=>by
  simp only[Nx,VF];rcases hj:bxi st s with _|j
  ·exact kD r _ x i b h
  dsimp only;rcases hc:dy x j with _|c
  ·obtain⟨a,c,e,f,g,k,n⟩:=kD (st:=st) r _ x i b h;refine⟨a,c,e,f,g,λo=>k ?_,n⟩
   grind
  by_cases J:i=j
  ·subst J;rw[hc]at h;injection h with h;subst h;obtain⟨a,b,c,e,f,k,n⟩:=kD (st:=st) r _ _ i _ (by rw[lw hc,aV rfl]);refine⟨a,b,c,e,f,λg=>?_,?_⟩
   ·simp at g
   grind
  obtain⟨a,e,f,g,k,n,o⟩:=kD (st:=st) r _ (Ss x j {c with cells:=d.take (I l),stp:=st.ct}) i b (by rw[lw hc,aP J];exact h);refine⟨a,e,f,g,k,λp=>n ?_,o⟩
  grind
def ru{st}:∀m a b i,dy b i=aaa->dy (Nx st m a b) i=aaa
 | [],a,b,i,h=>by cases a<;>exact h
 | .s j l::r,[],b,i,h=>h
 | .s j l::r,v::a,b,i,h=>ru r a b i h
 | .a j l::r,a,b,i,h=>ru r _ b i h
 | .b s l::r,a,b,i,h=>by
  simp[Nx];rcases hj:bxi st s with _|j
  ·exact ru r _ b i h
  dsimp only;rcases hc:dy b j with _|c
  ·exact ru r _ b i h
  refine ru r _ _ i ?_;rw[lw hc,aP]
  ·exact h
  rintro rfl;rw[h]at hc;cases hc
def Ext.Yx{st}{kp}{ms}{vs}{w}:Ext st (pj st kp ms vs w):=by
 refine⟨rfl,kx _,λi k v l c=>?_,λi a h o s=>?_,λi b h=>?_,Jt⟩
 ·simp[pj]at l;rw[xo]at l;split at l
  ·rename_i p b;have:=xq b;simp_all
  exact(CH l).2
 ·simp[pj]at h;rcases hn:dy st.bx i with _|b
  ·rw[ru _ _ _ _ hn]at h;cases h
  obtain⟨d,e,f,g,j,k,m⟩:=kD (st:=st) ms vs st.bx i b hn
  grind
 obtain⟨d,e,f,g,j,_⟩:=kD (st:=st) ms vs st.bx i b h;exact⟨d,e,f,g,λk hk=>by rw[j];exact hk⟩
def vV(st:St)(kp:List Nat)(m:List MI)(s:St):Prop:=Ext st s∨∃v w,Ext (pj st kp m v w) s
section
variable {st s:St} {kp:List Nat} {ms:List MI} {β:Nat->Nat} {a:Act} {w:av}
def vV.n(h:vV st kp ms s):s.n=st.n:=by
 rcases h with h | ⟨v,w,h⟩
 ·exact h.n
 exact h.n
def vV.df(h:vV st kp ms s):∃l,s.df=l++st.df:=by
 rcases h with h | ⟨v,w,h⟩
 ·exact h.df
 exact h.df
def vV.slot(h:vV st kp ms s){i k}{v v'}(c:i∈kp)(b:eX st.fr i=aM (k,v))(a:eX s.fr i=aM (k,v'))(hk:k<st.ct)(d:(mSl ms).elem i=aL):v'=v:=by
 rcases h with h | ⟨e,w,h⟩
 ·have:=h.fr i k v' a hk
  grind
 have:=h.fr i k v' a (Nat.lt_succ_of_lt hk);simp[pj]at this;rw[xo,xp d]at this;rw[Ko c b]at this;simp_all
def vV.ps(h:vV st kp ms s){i}{b}(a:dy st.bx i=aM b):∃c,dy s.bx i=aM c/\c.ty=b.ty/\c.ok=b.ok/\∀k,b.blk=aM k->c.blk=aM k:=by
 rcases h with h | ⟨v,w,h⟩
 ·exact h.ps i b a
 obtain⟨d,e,f,g,j,_⟩:=kD (st:=st) ms v st.bx i b a;obtain⟨c,k,l,k3,m⟩:=h.ps i d e
 grind
def vV.cells(h:vV st kp ms s){i}{b c}(d:dy st.bx i=aM b)(a:dy s.bx i=aM c)(o:b.ok=aE)(l:(VF st ms).elem i=aL)(e:c.stp<st.ct):c.cells=b.cells:=by
 rcases h with h | ⟨v,w,h⟩
 ·obtain⟨g,k,j,k3,m⟩:=h.ps i b d;rw[a]at k;injection k with k;subst k;obtain⟨f,n,p,q,_⟩:=h.bx i c a (k3.trans o) e
  grind
 obtain⟨g,f,q,j,r,s,_⟩:=kD (st:=st) ms v st.bx i b d;obtain⟨p,k,t,k3,u⟩:=h.ps i g f;rw[a]at k;injection k with k;subst k;obtain⟨n,m,x,y,z,A,B⟩:=h.bx i c a (k3.trans (j.trans o)) (Nat.lt_succ_of_lt e);rw[show dy (pj st kp ms v w).bx i=dy (Nx st ms v st.bx) i from rfl,f]at m
 grind
def Ps{sl}:∀{kp:List Nat},aaQ st s sl kp=aE->∀i∈kp,∀k v,eX st.fr i=aM (k,v)->∃a,eX s.fr i=aM (k,a)/\k<st.ct/\sl.elem i=aL/\cln (Ki st.bx) v=aE
 | j::r,h,i,b,k,v,l=>by
  simp only[aaQ,aR]at h;rcases aZ.1 b with rfl | b
  ·have c:=h.1;rw[l]at c;dsimp only at c;split at c<;>simp_all
  exact Ps h.2 i b k v l
def HI{Z7}:∀{l m:List mZ} {n:Nat},SB st Z7 n l m=aE->∀i b,dy l i=aM b->b.ok=aE->b.blk.isSome=aE/\(Z7.elem (n+i)=aE∨∃c,dy m i=aM c/\c.stp<st.ct/\jP (Ki st.bx) b.cells=aE)
 | b::r,[],n,h,_,_,_,_=>by simp[SB]at h
 | b::r,c::q,n,a,0,f,e,o=>by
  simp only[SB,aR,cE]at a;simp[dy]at e;subst e;rcases a.1 with d | ⟨d,h⟩
  ·simp_all
  refine⟨d,?_⟩;rcases h with h | h
  ·exact .inl h
  exact .inr ⟨c,rfl,dH h.1,h.2⟩
 | b::r,c::q,n,h,i+1,a,d,o=>by
  simp[SB]at h;have:=HI h.2 i a d o;rwa[show n+1+i=n+(i+1) by omega]at this
def Rep.at(R:Rep β s a w){i}{v}(h:s.get i=aM v):i<s.n/\a.tmps[i]? =aM (V.val β v):=by
 unfold St.get at h;cases b:Nat.blt i s.n
 ·rw[b]at h;cases h
 rw[b]at h;rcases hl:eX s.fr i with _|p
 ·rw[hl]at h;cases h
 rw[hl]at h;simp at h;subst h;exact⟨dH b,R.ok.at_ i p hl (dH b)⟩
def wi{g}:∀{l m:List SV},jP g (l++m)=aE->jP g l=aE/\jP g m=aE
 | [],m,h=>⟨rfl,h⟩
 | s::r,m,h=>by
  simp[jP]at h⊢;obtain _:=wi h.2;simp_all
def uT{γ b}{vs l m}{n}(v:V.cZ γ vs=V.cZ b l++V.cZ b m)(h:I l=n):V.cZ γ (vs.take n)=V.cZ b l/\V.cZ γ (vs.drop n)=V.cZ b m:=by
 have a:(V.cZ γ vs).take n=V.cZ γ (vs.take n):=by simp[V.cZ]
 have c:(V.cZ γ vs).drop n=V.cZ γ (vs.drop n):=by simp[V.cZ]
 have d:I (V.cZ b l)=n:=by rw[gM,h]
 grind
def HJ(R:Rep β s a w){ct}{γ}:∀{ms:List MI} {c d:List SV},tN st s ms=aM c->jP (Ki s.bx) c=aE->V.cZ γ d=V.cZ (MH s.bx) c->∀i p,eX (Nw ct ms d) i=aM p->a.tmps[i]? =aM (V.val γ p.2)
 | [],c,d,_,_,_,i,p,h=>by cases d<;>cases h
 | .s j l::r,c,[],_,_,_,i,p,h=>aal
 | .s j l::r,c,v::d,a,b,e,i,p,h=>by
  simp[tN]at a;split at a
  ·rename_i v m g k;simp at a;subst a;simp[jP]at b;simp[V.cZ]at e;simp[Nw,eX]at h;cases f:Nat.beq j i
   ·rw[f]at h;exact HJ R k b.2 e.2 i p acs
   rw[f]at h;simp at h;subst h;have:=dj f;subst this;rw[(R.at g).2,e.1,R.aoq b.1]
  cases a
 | .a j l::r,c,d,a,b,v,i,p,h=>by
  simp[tN]at a;split at a
  ·rename_i s t o q;obtain⟨e,rfl⟩:=Ht a;simp only[aR]at e;obtain⟨g,k⟩:=wi b;rw[oo]at v;obtain⟨m,n⟩:=uT v (dj e.2);simp[Nw,eX]at h;cases f:Nat.beq j i
   ·rw[f]at h;exact HJ R q k n i p acs
   rw[f]at h;simp at h;subst h;have:=dj f;subst this;rw[(R.at o).2];show aM (Value.agg (tI β s).toArray)=aM (Value.agg (tI γ _).toArray);rw[uN,m,pS β e.1,R.wT g]
  cases a
 | .b j l::r,c,d,a,e,v,i,p,h=>by
  simp[tN]at a;split at a
  ·split at a
   ·rename_i b s q k;obtain⟨m,rfl⟩:=Ht a;obtain⟨n,f⟩:=wi e;rw[oo]at v;obtain⟨o,g⟩:=uT v (dj m);exact HJ R k f g i p h
   cases a
  cases a
def DF(R:Rep β s a w){γ}(M:∀i b,dy st.bx i=aM b->∃c,dy s.bx i=aM c/\c.ty=b.ty/\c.ok=b.ok)(h:∀i b,dy st.bx i=aM b->b.ok=aE->γ i=β i):∀{ms:List MI} {f g:List SV} {bx:List mZ},tN st s ms=aM f->jP (Ki s.bx) f=aE->V.cZ γ g=V.cZ (MH s.bx) f->
  (∀j d,dy bx j=aM d->∃b,dy st.bx j=aM b/\d.ty=b.ty/\d.ok=b.ok)->(∀j d,dy bx j=aM d->d.ok=aE->Blk w (γ j) d.ty (V.cZ γ d.cells)∨(VF st ms).elem j=aE)->
  ∀j d,dy (Nx st ms g bx) j=aM d->d.ok=aE->Blk w (γ j) d.ty (V.cZ γ d.cells)
 | [],f,g,bx,_,_,_,_,c,j,d,b,o=>by
  have:Nx st [] g bx=bx:=rfl;rcases c j d b o with a | a
  ·exact a
  cases a
 | .s k m::r,f,[],bx,a,e,v,b,l,j,d,c,o=>by
  simp[tN]at a;split at a
  ·simp at a;subst a;simp[V.cZ]at v
  cases a
 | .s k n::r,f,v::g,bx,a,c,b,e,m,j,d,l,o=>by
  simp[tN]at a;split at a
  ·rename_i v q p k;simp at a;subst a;simp[jP,aR]at c;simp[V.cZ,bS,C9]at b;exact DF R M h k c.2 b.2 e m j d l o
  cases a
 | .a k s::r,f,g,bx,a,e,v,b,l,j,d,c,o=>by
  simp[tN]at a;split at a
  ·rename_i w x u p;obtain⟨k,rfl⟩:=Ht a;simp only[aR]at k;have N:=dj k.2;obtain⟨q,m⟩:=wi e;rw[oo]at v;obtain⟨t,n⟩:=uT v N;exact DF R M h p m n b l j d c o
  cases a
 | .b k s::r,f,g,bx,a,p,v,m,n,j,d,l,o=>by
  simp[tN]at a;split at a
  ·rename_i q k;split at a
   ·rename_i c B w x;obtain⟨A,rfl⟩:=Ht a;obtain⟨y,t⟩:=wi p;rw[oo]at v;obtain⟨z,u⟩:=uT v (dj A);simp[Nx,k]at l;rcases hn:dy bx q with _|b
    ·rw[hn]at l;refine DF R M h x t u m (λi b G e=>?_) j d l o;rcases n i b G e with c | c
     ·exact .inl c
     simp only[VF,k,yi]at c;split at c<;>grind
    rw[hn]at l;obtain⟨D,G,H,J⟩:=m q b hn;refine DF R M h x t u (λi F C=>?_) (λi F C E=>?_) j d l o
    ·rw[lw hn]at C
     grind
    rw[lw hn]at C;split at C
    ·rename_i e;subst e;injection C with C;subst C;left;have S:D.ok=aE:=by rw[<-J];exact E
     obtain⟨K,b,q,k3⟩:=M i D G;rw[w]at b;injection b with b;subst b;rw[h i D G S,H,<-q,z,R.wT y];exact(R.bx i c w (k3.trans S)).blk
    rename_i c;rcases n i F C E with b | b
    ·exact .inl b
    simp only[VF,k,yi]at b;split at b<;>grind
   cases a
  cases a
def wj{J}(f:SD st kp ms J s)(R:Rep β s a w)(H:s.mv=aL)(C:vV st kp ms s){K}(G:Kn _ J K):
  ∃n,K n w/\Rep (MH st.bx) (pj st kp ms n w) a w:=by
 obtain⟨m,f⟩:=eG f;obtain⟨T,r,f⟩:=bI f;obtain⟨z,f⟩:=eG f;simp only[aR]at m;obtain⟨m,V⟩:=m;have Y:s.df=st.df:=by
  obtain⟨a,l⟩:=C.df;simp_all
 rw[<-R.still H]at f;obtain⟨n,L,P,k3,S⟩:=VD f G;have M:∀i b,dy st.bx i=aM b->∃c,dy s.bx i=aM c/\c.ty=b.ty/\c.ok=b.ok:=λi b h=>by
  obtain⟨c,a,b,g,_⟩:=C.ps h;simp_all
 have F:∀i b,dy st.bx i=aM b->b.ok=aE->b.blk=aM (β i):=λi b h o=>by
  obtain⟨s,_⟩:=HI m.2 i b h o;obtain⟨c,a,q,g,p⟩:=C.ps h;rcases hk:b.blk with _|k
  ·rw[hk]at s;cases s
  rw[(R.bx i c a (g.trans o)).at_ k (p k hk)]
 have e:∀i b,dy st.bx i=aM b->b.ok=aE->MH st.bx i=β i:=λi b h o=>by
  unfold MH;rw[h];dsimp only;rw[F i b h o];rfl
 have E:∀i,Ki st.bx i=aE->MH st.bx i=β i:=λi y=>by
  unfold Ki at y;cases h:dy st.bx i<;>simp_all
 have D:∀i d,dy (Nx st ms n st.bx) i=aM d->d.ok=aE->∃b,dy st.bx i=aM b/\b.ok=aE/\d.blk=b.blk:=λi d h o=>by
  rcases hn:dy st.bx i with _|b
  ·rw[ru _ _ _ _ hn]at h;cases h
  obtain⟨a,c,g,k,p,_⟩:=kD (st:=st) ms n st.bx i b hn
  grind
 refine⟨n,L,uO ⟨R.ok.sz.trans C.n,R.ok.df.trans (bN dfs Y),λi p l y=>?_⟩,λi d h o=>?_,λi j bi A t u x B N=>?_,Only.refl _ _,λ_=>rfl⟩
 ·simp[pj]at l;rw[xo]at l;split at l
  ·rename_i q a;simp at l;subst l;exact HJ R r z (k3 _) i q a
  obtain⟨a,b⟩:=CH l;obtain⟨k,v⟩:=p;obtain⟨J,c,q,s,w⟩:=Ps m.1 i a k v b;have:=C.slot a b c q s;subst this;rw[R.ok.at_ i _ c (by rw[C.n];exact y)];congr 1;exact(kB (g:=Ki st.bx) E _ w).symm
 ·have s:=DF R M e r z (k3 _) (bx:=st.bx) (λj b h=>⟨b,h,rfl,rfl⟩) (λj b h o=>by
   obtain⟨_,a⟩:=HI m.2 j b h o;rw[bP]at a;rcases a with a | ⟨c,a,p,q⟩
   ·exact .inr a
   cases l:(VF st ms).elem j with
   | true=>exact .inr rfl
   | false=>
    left;obtain⟨J,k,v,w⟩:=M j b h;rw[a]at k;injection k with k;subst k;have:=(R.bx j c a (w.trans o)).blk;rw[e j b h o,<-v,jA (g:=Ki st.bx) E _ q,<-C.cells h a o l p];exact this) i d h o
  obtain⟨b,t,u,x⟩:=D i d h o;refine⟨s,λk hk=>?_,λhk=>?_⟩
  ·grind
  rw[x,F i b t u]at hk;cases hk
 obtain⟨b,a,g,_⟩:=D i bi t x;obtain⟨c,f1,f2,_⟩:=D j A u B;obtain⟨d,p,_,q⟩:=M i b a;obtain⟨k,s,_,q3⟩:=M j c f1;rw[e i b a g,e j c f1 f2];exact R.ne i j d k p s (q.trans g) (q3.trans f2) N
end
def bT(S:Nat->Prop)(w a:av):Prop:=∀k,S k->k<w.heap.size->a.heap[k]? =w.heap[k]?
def bT.refl S w:bT S w w:=λ_ _ _=>rfl
def bT.only{S}{w w'}(h:Only [] w w'):bT S w w':=λk _ hk=>h.block k hk aag
def uU(S:Nat->Prop)(k:Nat):Prop:=¬S k
def EE(P:Program)(o:List Oper)(m s:Bool)(S:Nat->Prop)(j:Nat)(w a:av):Prop:=match jd o j with
 | some b=>bif mo P b.op then a.heap=w.heap else bif m&&(s||!DD b.op)then bT S w a else True
 | none=>False
def XB(m s:Bool)(S:Nat->Prop)(o:Op):XT:=λw a p=>bif m&&(s||!DD o)then bT S w a/\p else p
def YB(m s:Bool)(S:Nat->Prop):YT:=λb p=>bif m&&s then(match b with
 | some k=>uU S k/\p
 | none=>False)else p
def uV(P:Program):Nat->List Oper->List Nat
 | _,[]=>[]
 | i,o::r=>bif mo P o.op then uV P (i+1) r else i::uV P (i+1) r
def adF(q:Nat)(seen:List Nat):List Edge->Bool
 | []=>aL
 | e::r=>(Region.binds .any e&&(Nat.beq e.on q||seen.elem e.on))||adF q seen r
def VG(q:Nat):Nat->List Nat->List Oper->List Nat
 | _,s,[]=>s
 | i,s,o::r=>bif adF q s o.after.toList then VG q (i+1) (i::s) r else VG q (i+1) s r
def ZW(b:Array Bool):Nat->List Oper->List Nat
 | _,[]=>[]
 | i,_::r=>bif b.getD i aE then i::ZW b (i+1) r else ZW b (i+1) r
def SE(D N:List Nat):List Nat->List Nat
 | []=>[]
 | j::r=>bif D.elem j||N.elem j then SE D N r else j::SE D N r
def Pu(o:List Oper):List Nat->Bool
 | []=>aE
 | j::r=>(match jd o j with
  | some a=>!DD a.op
  | none=>aL)&&Pu o r
def Dq(o:List Oper)(q:Nat):List Nat:=(VG q 0 [] o).reverse
def af6(P:Program)(o:List Oper)(b:Array Bool)(q:Nat):List Nat:=SE (Dq o q) (ZW b 0 o) (uV P 0 o)
def af7{a:Type}:List a->Bool
 | []=>aE
 | _=>aL
def okT(o:List Oper)(b:Array Bool)(q:Nat):Bool:=
 Region.noSelect o.toArray&&Region.free .any o.toArray b q&&xh .any o.toArray b&&uL .any o.toArray q [] (Dq o q)&&(ZW b 0 o).all (λk=>b.getD k aE)
def gdP(st:St)(o:List Oper)(a:Oper)(y n:St->Prop):Prop:=match a.guard with
 | none=>y st
 | some (j,want)=>(match tst st o j with
  | some (_,.un)=>n st
  | some (_,.bl b)=>bif b==want then y st else n st
  | some (d,.bt t)=>((t=aE->bif aE==want then y (st.put (aM d) (.bl aE))else n (st.put (aM d) (.bl aE)))/\
   (t=aL->bif aL==want then y (st.put (aM d) (.bl aL))else n (st.put (aM d) (.bl aL))))
  | _=>False)
def ldB(P:Program)(S:Nat->Prop)(st:St)(t:TypeId)(a:SV)(K:SV->Prop):Prop:=match P.underlying t with
 | none=>False
 | some d=>(match a with
  | .box i o=>cH (dy st.bx i) λb=>bif b.ok&&b.blk.isSome&&sz P t (I ((b.cells.drop o).take (yE P t)))&&(pe d||Nat.beq (I ((b.cells.drop o).take (yE P t))) 1)then S (b.blk.getD 0)/\K (Su (pe d) ((b.cells.drop o).take (yE P t)))else False
  | .ad p=>bif !st.mv&&sz P t (I (Vg P 12 t))&&(pe d||Nat.beq (I (Vg P 12 t)) 1)then S p.block/\exl (Vg P 12 t) λv=>Cells st.w0 p (cZ β0 v)/\K (Su (pe d) v)else False
  | _=>False)
def cvB(P:Program)(S:Nat->Prop)(st:St)(s d:TypeId)(a:SV)(K:SV->Prop):Prop:=match P.underlying s,P.underlying d with
 | some (.slice e),aM .string=>(match P.underlying e with
  | some (.int .u8)=>cH (O9 a) λu=>bif st.mv then False else ∃l,(∀ad,u.a=aM ad->S ad.block)/\vD st.w0 u l/\K (.str ⟨l.toArray⟩)
  | _=>False)
 | _,_=>False
def ak7(P:Program):Op->Bool
 | .load _ _=>aE
 | .convert s d _=>(match P.underlying s,P.underlying d with
  | some (.slice _),aM .string=>aE
  | _,_=>aL)
 | _=>aL
def cvI(P:Program):Op->Bool
 | .convert s d _=>(match P.underlying s,P.underlying d with
  | some (.int _),aM (.int _)=>aE
  | some .string,aM .string=>aE
  | _,_=>aL)
 | _=>aL
def cvZ(P:Program)(s d:TypeId)(a:SV)(K:SV->Prop):Prop:=match P.underlying s,P.underlying d with
 | some (.int _),aM (.int kd)=>cH (tJ a) λp=>K (.int kd (kd.wrap p.2))
 | some .string,aM .string=>cH (yD a) λu=>K (.str u)
 | _,_=>False
def qP(P:Program)(p:List Oper)(m c:Bool)(S:Nat->Prop)(b:Array Bool)(q:Nat)(o:Oper)(st:St)(K:St->Prop):Prop:=
 bif mo P o.op then
  bif cvI P o.op then(match o.op with
   | .convert s d x=>cH (st.ev x) λa=>cvZ P s d a λv=>K (st.put o.dst v)
   | _=>False)
  else bif !mem o.op||af7 (af6 P p b q)then exI (nd P st o.op) st λst=>pur P [] st o.op λv=>K (st.put o.dst v)
  else bif m&&(c||Pu p (af6 P p b q))then(match o.op with
   | .load t x=>exI (nd P st o.op) st λst=>cH (st.ev x) λa=>ldB P S st t a λv=>K (st.put o.dst v)
   | .convert s d x=>exI (nd P st o.op) st λst=>cH (st.ev x) λa=>cvB P S st s d a λv=>K (st.put o.dst v)
   | _=>False)else False
 else False
def fq(P:Program)(o:List Oper):List Nat->Option Nat
 | []=>aaa
 | i::r=>match jd o i with
  | some a=>bif mo P a.op then aM i else fq P o r
  | none=>aaa
def Kq(P:Program)(o:List Oper)(m s:Bool)(S:Nat->Prop):Nat->Array Bool->St->(St->Prop)->Prop
 | 0,b,st,K=>(match Region.ready .any o.toArray b with
  | []=>K st
  | _=>False)
 | g+1,b,st,K=>(match Region.ready .any o.toArray b with
  | []=>K st
  | i::r=>(match fq P o (i::r)with
   | some q=>cH (jd o q) λa=>bif okT o b q&&(i::r).contains q then
    gdP st o a (λst=>qP P o m s S b q a st λst=>Kq P o m s S g (b.setIfInBounds q aE) st K) (λst=>Kq P o m s S g (b.setIfInBounds q aE) (st.put a.dst .un) K)else False
   | none=>(match r with
    | []=>cH (jd o i) λa=>bif mo P a.op then False else
     gdP st o a (λst=>loud P (XB m s S a.op) (YB m s S) st a λst=>Kq P o m s S g (b.setIfInBounds i aE) st K) (λst=>Kq P o m s S g (b.setIfInBounds i aE) (st.put a.dst .un) K)
    | [j]=>cH (jd o i) λa=>cH (jd o j) λc=>bif mo P a.op||mo P c.op then False else
     gdP st o a (λst=>loud P (XB m s S a.op) (YB m s S) st a λst=>Kq P o m s S g (b.setIfInBounds i aE) st K) (λst=>Kq P o m s S g (b.setIfInBounds i aE) (st.put a.dst .un) K)/\
     gdP st o c (λst=>loud P (XB m s S c.op) (YB m s S) st c λst=>Kq P o m s S g (b.setIfInBounds j aE) st K) (λst=>Kq P o m s S g (b.setIfInBounds j aE) (st.put c.dst .un) K)
    | _=>False)))
def mbN(P:Program)(o:List Oper):Nat->List Oper->Bool
 | _,[]=>aL
 | i,a::r=>(bif ak7 P a.op then(uV P 0 o).any λj=>!(Dq o i).elem j&&!(Dq o j).elem i
  else aL)||mbN P o (i+1) r
def msN(P:Program)(o:List Oper):Nat->List Oper->Bool
 | _,[]=>aL
 | i,a::r=>(bif ak7 P a.op then(uV P 0 o).any λj=>!(Dq o i).elem j&&!(Dq o j).elem i&&(match jd o j with
   | some b=>DD b.op
   | none=>aL)
  else aL)||msN P o (i+1) r
section
variable {P:Program} {ops:List Oper} {mb ms:Bool} {S:Nat->Prop} {β:Nat->Nat} {a:Act} {w:av}
def DG{st}{o}{yes no}(h:gdP st ops o yes no)(R:Rep β st a w):
  ∃s,Ext st s/\Rep β s a w/\((Region.wanted o (yielded ops.toArray a.tmps)=aE/\yes s)∨(Region.wanted o (yielded ops.toArray a.tmps)=aL/\no s)):=by
 unfold gdP at h;split at h
 ·rename_i g;exact⟨st,Ext.refl _,R,.inl ⟨wn g,h⟩⟩
 rename_i j w g;split at h
 ·rename_i d t;exact⟨st,Ext.refl _,R,.inr ⟨AZ R g t,h⟩⟩
 ·rename_i d b t;have a:=tK R g t (b:=b) rfl;rcases rr h with⟨e,h⟩ | ⟨e,h⟩
  ·exact⟨st,Ext.refl _,R,.inl ⟨a.trans e,h⟩⟩
  exact⟨st,Ext.refl _,R,.inr ⟨a.trans e,h⟩⟩
 ·rename_i d t a;obtain⟨o,J,Y,Z⟩:=Dp a;have c:=tK R g a (b:=t) rfl;cases t
  ·refine⟨_,Ext.put _ _ (.bl aL),R.set Z rfl,?_⟩
   grind
  refine⟨_,Ext.put _ _ (.bl aE),R.set Z rfl,?_⟩
  grind
 exact h.elim
def Ny{st:St}{d}{t}{x}{l}{ad}{w'}(u:P.underlying t=aM d)(h:sz P t (I l)=aE)(o:pe d=aE∨Nat.beq (I l) 1=aE)
  (R:a.eval x=.pointer (aM ad)) (C:Cells w' ad (cZ β l)) dst t' p af g:
  (execOp a.eval ⟨dst,.load t x,t',p,af,g⟩).run P w'=.ok (.value (val β (Su (pe d) l))) w':=by
 rcases o with v | o
 ·rw[sK v];have:=nI (P:=P) u w';rw[v]at this;exact xf this (tq h w') (gM β l) R C
 cases v:pe d
 ·obtain⟨s,rfl⟩:=Dm o;have:=nI (P:=P) u w';rw[v]at this;exact Hg this R (Cells.one C)
 have e:=sK v β l;rw[v]at e;rw[e];have:=nI (P:=P) u w';rw[v]at this;exact xf this (tq h w') (gM β l) R C
def yF:∀{l:List Oper} {i j:Nat} {o:Oper},jd l j=aM o->mo P o.op=aL->i+j∈uV P i l
 | [],_,_,_,h,_=>aal
 | c::r,i,0,o,h,p=>by
  simp[jd]at h;subst h;simp[uV,p]
 | c::r,i,j+1,o,h,p=>by
  have:=yF (l:=r) (i:=i+1) (j:=j) h p;rw[show i+1+j=i+(j+1) by omega]at this;simp[uV]
  grind
def zG{D N}:∀{l:List Nat} {j:Nat},j∈l->j∉D->j∉N->j∈SE D N l
 | c::r,j,h,a,b=>by
  simp only[SE];rcases aZ.1 h with rfl | h
  ·grind
  cases(D.elem c||N.elem c)with
  | true=>exact zG h a b
  | false=>exact dZ _ (zG h a b)
def Kr:∀{l:List Nat} {j:Nat} {o:Oper},Pu ops l=aE->j∈l->jd ops j=aM o->DD o.op=aL
 | [],j,o,_,h,_=>by cases h
 | c::r,j,o,a,h,b=>by
  simp[Pu]at a;rcases aZ.1 h with d | h
  ·simp_all
  exact Kr a.2 h b
def Sta(P:Program)(o:List Oper)(m s:Bool)(S:Nat->Prop)(D N:List Nat)(F:av->Prop):Prop:=∀j w a,j∉D->j∉N->F w->EE P o m s S j w a->F a
def adG{bM}{q}{o}{st}{K}(h:qP P ops mb ms S bM q o st K)(R:Rep β st a w):
  ∃(v:aw) (i:St) (F:av->Prop),K i/\Ext st i/\Rep β i (a.put o.dst v) w/\F w/\Sta P ops mb ms S (Dq ops q) (ZW bM 0 ops) F/\mo P o.op=aE/\∀f,F f->(execOp a.eval o).run P f=.ok (.value v) f:=by
 rcases rr h with⟨g,h⟩ | ⟨_,h⟩
 case inr=>exact h.elim
 rcases rr h with⟨_,h⟩ | ⟨_,h⟩
 ·obtain⟨t,op,c,p,a,b⟩:=o;cases op with
  | convert s d x=>
   dsimp only at h;obtain⟨l,j,e⟩:=bI h;unfold cvZ at e;split at e
   ·rename_i s kd h d;obtain⟨⟨k,n⟩,E,e⟩:=bI e;exact⟨_,_,λ_=>True,e,Ext.put _ _ _,R.put _ _,trivial,λ_ _ _ _ _ _ _=>trivial,g,λf _=>F3 (run_underlying h f) (run_underlying d f) ((R.ev j).trans (dS E β))⟩
   ·rename_i h d;obtain⟨u,E,e⟩:=bI e;exact⟨_,_,λ_=>True,e,Ext.put _ _ _,R.put _ _,trivial,λ_ _ _ _ _ _ _=>trivial,g,λf _=>F4 (run_underlying h f) (run_underlying d f) ((R.ev j).trans (jQ E β))⟩
   exact e.elim
  | _=>exact h.elim
 rcases rr h with⟨l,h⟩ | ⟨l,h⟩
 ·obtain⟨s,k,b,L,_⟩:=A4 h R;obtain⟨v,c,y⟩:=Nq k;have y:=y trivial β a w L;obtain⟨d,op,t,p,n,r⟩:=o;cases m:mem op
  ·exact⟨val β v,_,λ_=>True,c,b.trans (Ext.put _ _ _),L.put _ v,trivial,λ_ _ _ _ _ _ _=>trivial,g,λf _=>y _ _ _ _ _ f λe=>by rw[m]at e;cases e⟩
  have a:=by simpa[m]using l
  refine⟨val β v,_,λf=>f.heap=w.heap,c,b.trans (Ext.put _ _ _),L.put _ v,rfl,λp u x D N o h=>?_,g,λf o=>y _ _ _ _ _ f λ_=>o⟩;unfold EE at h;split at h
  ·rename_i w v;rcases rr h with⟨_,e⟩ | ⟨e,_⟩
   ·exact e.trans o
   have:=zG (by have:=yF (i:=0) v e;rwa[bP]at this) D N;unfold af6 at a;revert a this;generalize SE (Dq ops q) (ZW bM 0 ops) (uV P 0 ops)=z;intro a this;cases z with
   | nil=>cases this
   | cons=>cases a
  exact h.elim
 obtain⟨m,h⟩:=eG h;simp only[aR]at m;obtain⟨n,op,y,p,u,r⟩:=o;have Y:∀F:av->Prop,∀k:Nat,S k->(∀w a:av,F w->a.heap[k]? =w.heap[k]? ->F a)->(∀w,F w->k<w.heap.size)->Sta P ops mb ms S (Dq ops q) (ZW bM 0 ops) F:=by
  intro F k hk L c d w a D N b h;unfold EE at h;split at h
  ·rename_i p o;rcases rr h with⟨_,e⟩ | ⟨e,h⟩
   ·exact L w a b (by rw[e])
   have:=zG (by have:=yF (i:=0) o e;rwa[bP]at this) D N;have s:(ms||!DD p.op)=aE:=by
    rcases cE _ _▸m.2 with e | e
    ·rw[e];rfl
    rw[Kr e this o,FY,pM]
   rw[m.1,s]at h;exact L w a b (h k hk (c _ b))
  exact h.elim
 cases op with
 | load t x=>
  dsimp only at h;obtain⟨s,c,o,L,_⟩:=A4 h R;obtain⟨q,p,c⟩:=bI c;unfold ldB at c;split at c
  ·exact c.elim
  rename_i d x;split at c
  ·rename_i j off;obtain⟨b,V,c⟩:=bI c;obtain⟨A,S,K⟩:=eG c;simp only[aR,cE]at A;obtain⟨⟨⟨C,v⟩,z⟩,D⟩:=A;have h:=L.bx j b V C;have B:=h.blk;have d:b.blk.getD 0=β j:=by
    rcases hk:b.blk with _|k
    ·rw[hk]at v;cases v
    rw[h.at_ k hk];rfl
   rw[d]at S;have J:=L.ev p;refine⟨_,_,λf=>Blk f _ b.ty _,K,o.trans (Ext.put _ _ _),L.put _ _,B,Y _ _ S (λw a E e=>by unfold Blk at E⊢;rw[e];exact E) (λw E=>E.lt),g,λf E=>?_⟩;generalize H:(b.cells.drop off).take (yE P t)=M at*
   have G:Cells f ⟨β j,off,aaa⟩ (cZ β M):=E.I4 off _ (by
    rw[gM,<-H];simp only[cZ,mg,AN];rw[cx,tG];simp only[cJ,bK];omega)
   exact Ny (st:=st) x z D J G _ _ _ _ _
  ·rename_i ad;obtain⟨t,S,C⟩:=eG c;simp only[aR,cE,de]at t;obtain⟨⟨D,z⟩,d⟩:=t;obtain⟨k,⟨b,K⟩,N,E⟩:=wc C;rw[<-L.still D]at b;have B:∀f,Cells f ad _->Cells f ad (cZ β k):=λf h=>by
    rw[jA (β:=β) (β':=β0) (g:=λ_=>aL) (λj h=>aal) k (E _)];exact h
   rw[<-N]at z d;by_cases A:cZ β0 k=[]
   ·refine⟨_,_,λ_=>True,K,o.trans (Ext.put _ _ _),L.put _ _,trivial,λ_ _ _ _ _ _ _=>trivial,g,λf _=>?_⟩;exact Ny (st:=st) x z d (L.ev p) (B f (by rw[A];intro e v h;simp at h)) _ _ _ _ _
   exact⟨_,_,λf=>Cells f ad _,K,o.trans (Ext.put _ _ _),L.put _ _,b,Y _ ad.block S (λw a b e=>b.keep e) (λw b=>b.lt' A),g,λf b=>Ny (st:=st) x z d (L.ev p) (B f b) _ _ _ _ _⟩
  exact c.elim
 | convert s d x=>
  dsimp only at h;obtain⟨p,b,k,L,_⟩:=A4 h R;obtain⟨q,o,b⟩:=bI b;unfold cvB at b;split at b
  ·rename_i e h d;split at b
   ·rename_i t;obtain⟨v,E,b⟩:=bI b;cases s:p.mv
    ·rw[s]at b;obtain⟨z,S,A,K⟩:=b;rw[<-(L.still s)]at A;refine⟨_,_,λf=>vD f v z,K,k.trans (Ext.put _ _ _),L.put _ _,A,?_,g,λf B=>Dd h t d ((L.ev o).trans (mN E β)) B⟩;by_cases x:z=[]
     ·subst x;exact λC w a _ _ c _=>⟨c.1,λe=>absurd rfl e⟩
     obtain⟨ad,D,_⟩:=A.2 x;refine Y _ ad.block (S ad D) (λw a C e=>⟨C.1,λG=>?_⟩) (λw C=>?_)
     ·obtain⟨H,M,c⟩:=C.2 G;rw[D]at M;injection M with M;subst M;exact⟨ad,D,c.keep e⟩
     obtain⟨H,M,e⟩:=C.2 x;rw[D]at M;injection M with M;subst M;exact e.lt' (by cases z with
      | nil=>exact absurd rfl x
      | cons c z=>simp)
    rw[s]at b;exact b.elim
   exact b.elim
  exact b.elim
 | _=>exact h.elim
def uW{j}{o}(h:jd ops j=aM o) w:EE P ops mb ms S j w w:=by
 unfold EE;rw[h];dsimp only;cases mo P o.op
 ·cases(mb&&_)with
  | true=>exact bT.refl _ _
  | false=>exact trivial
 rfl
def Ks{Q}{j}{o}{st}{K}(g:jd ops j=aM o)(i:mo P o.op=aL)(e:loud P (XB mb ms S o.op) (YB mb ms S) st o K)(R:Rep β st a w):o.wp P a w (Aft (EE P ops mb ms S j) st K w) Q:=by
 have h:EE P ops mb ms S j=λw f=>bif mb&&(ms||!DD o.op)then bT S w f else True:=by
  unfold EE;simp_all
 refine HG (λl c p x=>?_) (λw c b=>?_) (λs d k w c p y hk b=>?_) e R
 ·rw[h];unfold XB at x
  grind
 ·rw[h];cases(mb&&_)with
  | true=>exact bT.only b
  | false=>exact trivial
 rw[h];rw[s,Bool.not_true,JJ];unfold YB at y;cases a:(mb&&ms)with
 | true=>
  rw[a]at y;rcases d with _|j
  ·exact y.elim
  refine⟨y.2,λq m k=>b.block q k ?_⟩;have:=hk j rfl;subst this;simp;rintro rfl;exact y.1 m
 | false=>rw[a]at y;exact⟨y,trivial⟩
def wk{Q}(h:∀c a w,¬Q (.panic c) a w):∀{g:Nat} {M:Array Bool} {st:St} {K:St->Prop} {β:Nat->Nat} {a:Act} {w:av},Kq P ops mb ms S g M st K->Rep β st a w->
  (∀e f d b,K f->Ext st f->Rep e f d b->Q .normal d b)->gA P .any ops.toArray Q (EE P ops mb ms S) g M a w
 | 0,M,st,K,β,a,w,c,R,i=>by
  unfold Kq at c;split at c
  ·rename_i r;exact⟨r,i β st a w c (Ext.refl _) R⟩
  exact c.elim
 | g+1,M,st,K,β,a,w,i,R,k=>by
  have L:∀{j:Nat} {o:Oper},jd ops j=aM o->mo P o.op=aL->
    gdP st ops o (λst=>loud P (XB mb ms S o.op) (YB mb ms S) st o λst=>Kq P ops mb ms S g (M.setIfInBounds j aE) st K) (λst=>Kq P ops mb ms S g (M.setIfInBounds j aE) (st.put o.dst .un) K)->
    if Region.wanted o (yielded ops.toArray a.tmps)then o.wp P a w (λd b=>EE P ops mb ms S j w b/\gA P .any ops.toArray Q (EE P ops mb ms S) g (M.setIfInBounds j aE) d b) Q∨(o.asks P a w/\LetsOut Q)
    else(λd b=>EE P ops mb ms S j w b/\gA P .any ops.toArray Q (EE P ops mb ms S) g (M.setIfInBounds j aE) d b) (a.put o.dst undef) w:=by
   intro j o n q i;obtain⟨s,m,p,c⟩:=DG i R;rcases c with⟨l,c⟩ | ⟨l,c⟩
   ·rw[aV l];refine .inl (Oper.wp_mono ?_ (Ks n q c p));rintro d b ⟨e,f,s,t,k3,u⟩;exact⟨k3,wk h s u λa z r y v w x=>k a z r y v ((m.trans t).trans w) x⟩
   rw[aP (by simp[l])];exact⟨uW n w,wk h c (p.put o.dst .un) λa z r v s t u=>k a z r v s ((m.trans (Ext.put _ _ _)).trans t) u⟩
  unfold Kq at i;split at i
  ·rename_i r;exact afL r (k β st a w i (Ext.refl _) R)
  rename_i l m r;split at i
  ·rename_i q F;obtain⟨o,p,i⟩:=bI i;obtain⟨D,i⟩:=eG i;simp only[aR,okT]at D;obtain⟨⟨⟨⟨⟨u,x⟩,y⟩,z⟩,A⟩,B⟩:=D;obtain⟨s,C,E,n⟩:=DG i R;rcases n with⟨t,n⟩ | ⟨t,n⟩
   ·obtain⟨v,s2,H,V,W,k3,Y,Z,k6,k7⟩:=adG n E;have N:∀s,H s->EE P ops mb ms S q s s:=λs _=>uW p s;exact Nj q _ _ v H p u x (by rw[r];exact B) y z A (λc a w T=>(h _ _ _ T).elim) Z N Y (adr t k7) rfl
     (wk h V k3 λG zg J w2 m1 m2 m3=>k G zg J w2 m1 ((C.trans W).trans m2) m3)
   exact Nj q _ _ undef _ p u x (by rw[r];exact B) y z A (λc a w s=>(h _ _ _ s).elim) (λ_ _ _ _ _ _ _=>trivial) (λv _=>uW p v) trivial (afM t) rfl
    (wk h n (E.put o.dst .un) λa J c H q w G=>k a J c H q ((C.trans (Ext.put _ _ _)).trans w) G)
  split at i
  ·obtain⟨o,a,i⟩:=bI i;rcases rr i with⟨_,i⟩ | ⟨p,i⟩
   ·exact i.elim
   obtain⟨s,q,t,c⟩:=DG i R;rcases c with⟨n,c⟩ | ⟨n,c⟩
   ·refine akP l a r n (Oper.wp_mono ?_ (Ks a p c t));rintro d b ⟨e,f,v,w,k3,x⟩;exact⟨k3,wk h v x λs C u B y z A=>k s C u B y ((q.trans w).trans z) A⟩
   exact aaw l a r n (uW a w) rfl (wk h c (t.put o.dst .un) λs A u z v x y=>k s A u z v ((q.trans (Ext.put _ _ _)).trans x) y)
  ·rename_i j _;obtain⟨o,a,i⟩:=bI i;obtain⟨c,H,i⟩:=bI i;rcases rr i with⟨_,i⟩ | ⟨p,i⟩
   ·exact i.elim
   simp at p;exact akQ l j a H r (L a p.1 i.1) (L H p.2 i.2)
  exact i.elim
end
def qI(s w a:av):Prop:=w.heap.size<=a.heap.size/\∀k,s.heap.size<=k->k<w.heap.size->a.heap[k]? =w.heap[k]?
def DH(mk:List (Nat×Nat))(b:Nat):Prop:=∀p∈mk,b<p.1∨p.2<=b
def qI.only{bs}{ws w w'}(h:Only bs w w')(d:∀b∈bs,b<ws.heap.size∨w.heap.size<=b):qI ws w w':=
 ⟨h.size,λk c a=>h.block k a λhk=>acw⟩
def qI.RE{ws w w'}(h:Only [] w w'):qI ws w w':=qI.only h aag
def DH.one{m n b}{r}(h:DH ((m,n)::r) b):b<m∨n<=b:=h _ fj
structure LZ where
 z:Nat
 d:Nat
 t:TypeId
 zs:List SV
def yG(P:Program)(z:Nat)(o:Oper):Option LZ:=match o.op,o.dst,o.guard with
 | .alloc t,aM d,aaa=>(match zc P t with
  | some s=>bif af7 o.after.toList&&jP (λ_=>aL) s then aM ⟨z,d,t,s⟩else aaa
  | none=>aaa)
 | _,_,_=>aaa
def nV(P:Program):Nat->List Oper->List LZ
 | _,[]=>[]
 | i,o::r=>match yG P i o with
  | some p=>p::nV P (i+1) r
  | none=>nV P (i+1) r
def qR:List LZ->List Nat
 | []=>[]
 | p::r=>p.z::qR r
def zSl:List LZ->List Nat
 | []=>[]
 | p::r=>p.d::zSl r
def Ku(z d:Nat):Nat->List Oper->Bool
 | _,[]=>aE
 | i,o::r=>(Nat.beq i z||(match o.dst with
  | some e=>!Nat.beq e d
  | none=>aE))&&Ku z d (i+1) r
def zOk(o:List Oper):List LZ->Bool
 | []=>aE
 | p::r=>Ku p.z p.d 0 o&&zOk o r
def VH{α}:∀{l:List α},af7 l=aE->l=[]
 | [],_=>rfl
def po{P}{z}{o}{p}(h:yG P z o=aM p):p.z=z/\o.op=.alloc p.t/\o.dst=aM p.d/\o.guard=aaa/\o.after.toList=[]/\zc P p.t=aM p.zs/\jP (λ_=>aL) p.zs=aE:=by
 unfold yG at h;split at h
 ·rename_i t d a b c;split at h
  ·rename_i s z;obtain⟨d,rfl⟩:=Ht h;simp at d;exact⟨rfl,a,b,c,VH d.1,z,d.2⟩
  cases h
 cases h
def qS{Z}{z}:z∈qR Z↔∃p∈Z,p.z=z:=by
 induction Z with
 | nil=>simp[qR]
 | cons p r i=>simp[qR,i,eq_comm (a:=z)]
def DI{P}:∀{l:List Oper} {i:Nat} {p:LZ},p∈nV P i l->∃j o,p.z=i+j/\jd l j=aM o/\yG P p.z o=aM p
 | [],i,p,h=>aal
 | o::r,i,p,h=>by
  have t:p∈nV P (i+1) r->∃j a,p.z=i+j/\jd (o::r) j=aM a/\yG P p.z a=aM p:=λh=>by
   obtain⟨j,a,d,b,c⟩:=DI h;exact⟨j+1,a,J,b,c⟩
  unfold nV at h;split at h
  ·rename_i q b;rcases aZ.1 h with rfl | h
   ·have:=(po b).1;exact⟨0,o,this,rfl,by rw[this];exact b⟩
   exact t h
  exact t h
def DJ{P}:∀{l:List Oper} {i:Nat},(qR (nV P i l)).Nodup
 | [],i=>by simp[nV,qR]
 | o::r,i=>by
  unfold nV;split
  ·rename_i q a;have e:=(po a).1;simp[qR];refine⟨λm=>?_,DJ⟩;obtain⟨p,h,b⟩:=qS.1 m;obtain _:=DI h;omega
  exact DJ
def VI{z d}:∀{l:List Oper} {i j:Nat} {o:Oper},Ku z d i l=aE->jd l j=aM o->i+j≠z->o.dst≠aM d:=by
 intro l
 induction l with
 | nil=>intro i j o _ h;cases h
 | cons c r b=>
  intro i j o h a z;simp only[Ku,aR,cE]at h;cases j with
  | zero=>
   simp[jd]at a;intro e;simp_all
  | succ j=>exact b (i:=i+1) (j:=j) h.2 a J
def VJ{ops}:∀{Z:List LZ},zOk ops Z=aE->∀p∈Z,Ku p.z p.d 0 ops=aE
 | q::r,h,p,a=>by
  simp[zOk]at h;rcases aZ.1 a with rfl | a
  ·exact h.1
  exact VJ h.2 p a
def fW(l:Array Bool):List Nat->Array Bool
 | []=>l
 | z::r=>fW (l.setIfInBounds z aE) r
def Kv(l:Array Bool) i j:(l.setIfInBounds i aE).setIfInBounds j aE=(l.setIfInBounds j aE).setIfInBounds i aE:=by
 by_cases h:i=j
 ·subst h;rfl
 exact Array.setIfInBounds_comm _ _ h
def ry:∀{D:List Nat} {l:Array Bool} {z:Nat},fW (l.setIfInBounds z aE) D=(fW l D).setIfInBounds z aE
 | [],_,_=>rfl
 | d::r,l,z=>by simp[fW,Kv,ry]
def Kw{D E}(h:D.Perm E):∀l,fW l D=fW l E:=by
 induction h with
 | nil=>intro l;rfl
 | cons x _ i=>intro l;exact i _
 | swap x y r=>intro l;simp[fW];rw[Kv]
 | trans _ _ a b=>intro l;exact(a l).trans (b l)
def tP:∀{D:List Nat} {l:Array Bool} {k:Nat},(fW l D).getD k aL=aE↔l.getD k aL=aE∨(k∈D/\k<l.size)
 | [],l,k=>by simp[fW]
 | d::r,l,k=>by
  simp only[fW];rw[tP];by_cases h:d=k
  ·subst h;by_cases s:d<l.size
   ·simp[s]
   simp[s]
  simp[ml h,Ne.symm h]
def rz:∀{D:List Nat} {l:Array Bool} {k:Nat},(fW l D).getD k aE=aE↔l.getD k aE=aE∨k∈D
 | [],l,k=>by simp[fW]
 | d::r,l,k=>by
  simp only[fW];rw[rz];by_cases h:d=k
  ·simp_all
  simp[ml h,Ne.symm h]
def Fx(Z:List Nat):List Nat->List Nat
 | []=>[]
 | j::r=>bif Z.elem j then Fx Z r else j::Fx Z r
def tQ{Zi}:∀{l:List Nat} {j:Nat},j∈Fx Zi l↔j∈l/\j∉Zi
 | [],j=>by simp[Fx]
 | c::r,j=>by
  simp only[Fx];cases h:Zi.elem c
  ·simp[tQ]
   grind
  simp only[cond_true,tQ,aZ]
  grind
def Pv(Z R:List Nat):List Nat->Bool
 | []=>aE
 | j::r=>(R.elem j&&!Z.elem j)&&Pv Z R r
def Kx{Zi R}:∀{l:List Nat},Pv Zi R l=aE->∀j∈l,j∈R/\j∉Zi
 | c::r,a,j,h=>by
  simp[Pv]at a;rcases aZ.1 h with rfl | h
  ·grind
  exact Kx a.2 j h
def zH(l:Array Bool):List Nat->Bool
 | []=>aE
 | z::r=>!l.getD z aE&&zH l r
def BP{l}:∀{Z:List Nat},zH l Z=aE->∀z∈Z,l.getD z aE=aL
 | c::r,h,z,a=>by
  simp only[zH,aR,de]at h;rcases aZ.1 a with rfl | a
  ·exact h.1
  exact BP h.2 z a
def af9(o:List Oper)(Z:List Nat)(l:Array Bool):Bool:=Pv Z (Region.ready .any o.toArray l) (Region.ready .any o.toArray (fW l Z))
def Pw(z:Nat):List Nat->Bool
 | []=>aE
 | j::r=>Nat.beq j z&&Pw z r
def Ky{z}:∀{l:List Nat},Pw z l=aE->∀j∈l,j=z
 | c::r,a,j,h=>by
  simp only[Pw,aR]at a;rcases aZ.1 h with rfl | h
  ·simp_all
  exact Ky a.2 j h
def aaS(o:List Oper)(l:Array Bool)(Z:List Nat):List Nat->Bool
 | []=>aE
 | z::r=>Pw z (Region.ready .any o.toArray (fW l (Z.erase z)))&&aaS o l Z r
def Px{ops}{l}{Zi}:∀{r:List Nat},aaS ops l Zi r=aE->∀z∈r,∀j∈Region.ready .any ops.toArray (fW l (Zi.erase z)),j=z
 | c::r,h,z,a=>by
  simp[aaS]at h;rcases aZ.1 a with rfl | a
  ·exact Ky h.1
  exact Px h.2 z a
section
variable {md:Region.Mode} {ops:Array Oper}
def A5{l}{D E}(s:∀x∈D,x∈E){j}(h:j∈Region.ready md ops (fW l D))(d:j∉E):j∈Region.ready md ops (fW l E):=by
 rw[mem_ready]at h⊢;obtain⟨a,f,o,g⟩:=h;refine⟨?_,f,o,λe c b=>?_⟩
 ·rw[fx]at a⊢;intro e;rcases rz.1 e with e | e
  ·exact a (rz.2 (.inl e))
  exact d e
 rcases tP.1 (g e c b)with i | i
 ·exact tP.2 (.inl i)
 exact tP.2 (.inr ⟨s _ i.1,i.2⟩)
def Fy{l}(a:uK md ops l){D}(b:∀z∈D,∀o,ops[z]? =aM o->o.after.toList=[]):uK md ops (fW l D):=by
 intro k o hk f e d c;rcases tP.1 f with h | h
 ·exact tP.2 (.inl (a k o hk h e d c))
 have:=b k h.1 o hk;simp_all
end
def aga{P}{o:Oper}{a}{w}{K}{Q}(h:o.wp P a w K Q):
  o.wp P a w (λc b=>K c b/\∀i,o.dst≠aM i->c.tmps[i]? =a.tmps[i]?) Q:=by
 unfold Oper.wp at*
 generalize (execOp a.eval o).run P w=r at*
 cases r with
 | ok n b=>
  cases n
  case value v=>exact⟨h,(nu _ _ _).2.2⟩
  case skip=>exact⟨h,(nu _ _ _).2.2⟩
  case defer d=>exact⟨h,(nu _ _ _).2.2⟩
  case enter f args=>
   refine Calls.mono h (λe g a=>?_);cases e with
   | returned v=>exact⟨a,(nu _ _ _).2.2⟩
   | _=>exact a
  case row n args=>exact Rows.mono h (λv g a=>⟨a,(nu _ _ _).2.2⟩)
  all_goals exact h
 | halt x b=>cases x<;>simp[Oper.upon]at h⊢ <;>exact h
structure Late (Z:List LZ) (ws:av) (bz:Nat->Nat) (D:List Nat) (mk:List (Nat×Nat)) (a:Act) (w:av):Prop where
 at_:∀p∈Z,p.z∈D->a.tmps[p.d]? =aM (.pointer (aM ⟨bz p.z,0,aaa⟩))/\Blk w (bz p.z) p.t (cZ β0 p.zs)/\ws.heap.size<=bz p.z/\DH mk (bz p.z)
 sub:∀z∈D,z∈qR Z
 ne:∀z∈D,∀z'∈D,z≠z'->bz z≠bz z'
 top:∀p∈mk,p.2<=w.heap.size
 le:ws.heap.size<=w.heap.size
section
variable {Z:List LZ} {ws:av} {bz:Nat->Nat} {D:List Nat} {mk:List (Nat×Nat)} {a a':Act} {w w1:av}
def Late.act(h:Late Z ws bz D mk a w)(c:∀p∈Z,a'.tmps[p.d]? =a.tmps[p.d]?):Late Z ws bz D mk a' w:=
 ⟨λp b hd=>by rw[c p b];exact h.at_ p b hd,h.sub,h.ne,h.top,h.le⟩
def Late.loud(b:Late Z ws bz D mk a w)(N:qI ws w w1)(c:∀p∈Z,a'.tmps[p.d]? =a.tmps[p.d]?):Late Z ws bz D ((w.heap.size,w1.heap.size)::mk) a' w1:=by
 refine⟨λp h hd=>?_,b.sub,b.ne,λp h=>?_,bD b.le N.1⟩
 ·obtain⟨g,a,e,i⟩:=b.at_ p h hd;have f:=a.lt;refine⟨by rw[c p h];exact g,?_,e,λq d=>?_⟩
  ·unfold Blk at a⊢;rw[N.2 _ e f];exact a
  rcases aZ.1 d with rfl | d
  ·exact .inl f
  exact i q d
 rcases aZ.1 h with rfl | h
 ·exact aX _
 exact bD (b.top p h) N.1
def Late.alloc(c:Late Z ws bz D mk a w)(u:∀p∈Z,∀q∈Z,p.z=q.z->p=q)(hd:∀p∈Z,∀q∈Z,p.z≠q.z->p.d≠q.d){p}(g:p∈Z)(n:p.z∉D){b}(j:w.heap.size<=b)(f:Only [] w w1)(B:Blk w1 b p.t (cZ β0 p.zs))(s:p.d<a.tmps.size):
  Late Z ws (λz=>if z=p.z then b else bz z) (p.z::D) mk (a.put (aM p.d) (.pointer (aM ⟨b,0,aaa⟩))) w1:=by
 refine⟨λq d l=>?_,λz h=>?_,λz h m R i=>?_,λq d=>bD (c.top q d) f.size,bD c.le f.size⟩
 ·by_cases e:q.z=p.z
  ·have:=u q d p g e;subst this;rw[aV rfl];refine⟨by simp[Act.put,s],B,bD c.le j,λx a=>.inr (bD (c.top x a) j)⟩
  rw[aP e];obtain⟨b,o,r,t⟩:=c.at_ q d acw;refine⟨?_,f.blk o aag,r,t⟩;rw[(nu a _ _).2.2 q.d (by
   intro k;injection k with k;exact hd p g q d (Ne.symm e) k)]
  exact b
 ·rcases aZ.1 h with rfl | h
  ·exact qS.2 ⟨p,g,rfl⟩
  exact c.sub z h
 have a:∀z∈D,bz z<w.heap.size:=λz h=>by
  obtain⟨q,d,rfl⟩:=qS.1 (c.sub z h);exact(c.at_ q d h).2.1.lt
 rcases aZ.1 h with rfl | h<;>rcases aZ.1 R with rfl | R
 ·exact absurd rfl i
 ·grind
 ·rw[aP i,aV rfl];have:=a _ h;omega
 rw[aP (λe=>n (by rw[<-e];exact h)),aP (λe=>n (by rw[<-e];exact R))];exact c.ne _ h _ R i
end
def YF:YT:=λ_ _=>False
def XL(m s:Bool)(S:Nat->Prop)(b:av)(o:Op):XT:=λw a p=>qI b w a/\XB m s S o w a p
def Py(st:St):List LZ->Bool
 | []=>aE
 | p::r=>(eX st.fr p.d).isNone&&Nat.blt p.d st.n&&Py st r
def Kz{st}:∀{Z:List LZ},Py st Z=aE->∀p∈Z,eX st.fr p.d=aaa/\p.d<st.n
 | q::r,a,p,h=>by
  simp only[Py,aR,Option.isNone_iff_eq_none]at a;rcases aZ.1 h with rfl | h
  ·simp_all
  exact Kz a.2 p h
def St.BB(st:St):St:={st with mv:=aE}
def eqA:List Bool->List Bool->Bool
 | [],[]=>aE
 | a::r,b::s=>(a==b)&&eqA r s
 | _,_=>aL
def VK:∀{l m:List Bool},eqA l m=aE->l=m
 | [],[],_=>rfl
 | a::r,b::s,h=>by
  simp[eqA]at h;rw[h.1,VK h.2]
def lL(P:Program)(p:List Oper)(m a:Bool)(S:Nat->Prop)(w:av)(mk:List (Nat×Nat))(st:St)(o:Oper)(D:List (Nat×Nat)->St->Prop):Prop:=
 bif mo P o.op then False else gdP st p o (λst=>fV st λst=>loud P (XL m a S w o.op) YF st o λs=>bif s.mv then False else D ((st.w0.heap.size,s.w0.heap.size)::mk) s.BB) (λst=>D mk (St.BB (st.put o.dst .un)))
def fqG(P:Program)(o:List Oper)(Z:List Nat)(b:Array Bool):List Nat->Option Nat
 | []=>aaa
 | i::r=>(match jd o i with
  | some a=>bif mo P a.op&&af9 o Z (b.setIfInBounds i aE)then aM i else fqG P o Z b r
  | none=>fqG P o Z b r)
def fqZ(P:Program)(o:List Oper)(Z:List Nat)(b:Array Bool)(l:List Nat):Option Nat:=
 match fqG P o Z b l with
 | some q=>aM q
 | none=>fq P o l
def SF(P:Program)(o:List Oper)(m s:Bool)(S:Nat->Prop)(w:av)(Z:List LZ)(B:Array Bool)(a:Nat)(K:List (Nat×Nat)->St->Prop):Nat->Array Bool->List (Nat×Nat)->St->Prop
 | 0,_,_,_=>False
 | g+1,b,mk,st=>bif zH b (qR Z)&&Py st Z then(match Fx (qR Z) (Region.ready .any o.toArray b)with
  | []=>bif aaS o b (qR Z) (qR Z)&&eqA b.toList B.toList&&Nat.beq (g+1) a&&Nat.ble (I (qR Z)) (g+1)then K mk st else False
  | i::r=>bif af9 o (qR Z) b&&Nat.ble (I (qR Z)) g then(match fqZ P o (qR Z) b (i::r)with
   | some q=>cH (jd o q) λc=>bif okT o b q&&(i::r).contains q then
    gdP st o c (λst=>qP P o m s S b q c st.BB λst=>SF P o m s S w Z B a K g (b.setIfInBounds q aE) mk st.BB) (λst=>SF P o m s S w Z B a K g (b.setIfInBounds q aE) mk (St.BB (st.put c.dst .un)))else False
   | none=>(match r with
    | []=>cH (jd o i) λc=>lL P o m s S w mk st c λmk st=>SF P o m s S w Z B a K g (b.setIfInBounds i aE) mk st
    | [j]=>cH (jd o i) λc=>cH (jd o j) λd=>
     lL P o m s S w mk st c (λmk st=>SF P o m s S w Z B a K g (b.setIfInBounds i aE) mk st)/\
     lL P o m s S w mk st d (λmk st=>SF P o m s S w Z B a K g (b.setIfInBounds j aE) mk st)
    | [j,k]=>cH (jd o i) λd=>cH (jd o j) λe=>cH (jd o k) λc=>
     lL P o m s S w mk st d (λmk st=>SF P o m s S w Z B a K g (b.setIfInBounds i aE) mk st)/\
     lL P o m s S w mk st e (λmk st=>SF P o m s S w Z B a K g (b.setIfInBounds j aE) mk st)/\
     lL P o m s S w mk st c (λmk st=>SF P o m s S w Z B a K g (b.setIfInBounds k aE) mk st)
    | _=>False))else False)else False
section
variable {P:Program} {ops:List Oper} {mb ms:Bool} {S:Nat->Prop} {β:Nat->Nat} {a:Act} {w:av} {ws:av} {Z:List LZ} {BF:Array Bool} {gm:Nat}
def Rep.late{st}(h:Rep β st a w)(m:st.mv=aE){d}{v}(hd:eX st.fr d=aaa){w1}(e:Only [] w w1):Rep β st (a.put (aM d) v) w1:=by
 obtain⟨j,k,n⟩:=nu a _ v;refine⟨uO ⟨j.trans h.ok.sz,k.trans h.ok.df,λi p l g=>?_⟩,λi b f o=>?_,h.ne,h.only.cd e,λc=>by rw[m]at c;cases c⟩
 ·rw[n i acw];exact h.ok.at_ i p l g
 obtain⟨a,d,k3⟩:=h.bx i b f o;exact⟨e.blk a aag,d,k3⟩
def Rep.BB{st}(R:Rep β st a w):Rep β st.BB a w:=⟨R.fr,R.bx,R.ne,R.only,λh=>aal⟩
def Ext.BB st:Ext st st.BB:=⟨rfl,aX _,λ_ _ _ h _=>h,λi b h o _=>⟨b,h,o,rfl,rfl,rfl,λ_ h=>h⟩,Vf,Jt⟩
def ak9{Q}{j}{o}{st}{mk}{D}(f:jd ops j=aM o)(h:lL P ops mb ms S ws mk st o D)(R:Rep β st a w):
  wpOp P ops.toArray Q j (λe b=>EE P ops mb ms S j w b/\(∀i,o.dst≠aM i->e.tmps[i]? =a.tmps[i]?)/\∃c d m,D m d/\Ext st d/\d.mv=aE/\Rep c d e b/\((m=mk/\b=w)∨(m=(w.heap.size,b.heap.size)::mk/\qI ws w b))) a w:=by
 rcases rr h with⟨_,h⟩ | ⟨g,h⟩
 ·exact h.elim
 have l:ops.toArray[j]? =aM o:=by rw[lV]at f;simpa using f
 unfold wpOp;simp only[l];obtain⟨s,n,L,a⟩:=DG h R;rcases a with⟨q,a⟩ | ⟨q,a⟩
 ·rw[aV q];left;obtain⟨C,y,v,s,W,_⟩:=fg a L;have r:EE P ops mb ms S j=λw b=>bif mb&&(ms||!DD o.op)then bT S w b else True:=by
   unfold EE;simp_all
  have:=aga (HG (E:=λw b=>EE P ops mb ms S j w b/\qI ws w b) (Q:=Q) (λD u p x=>?_) (λw u t=>?_) (λB A k w u p z hk t=>z.elim) y s)
  ·refine Oper.wp_mono ?_ this;rintro e b ⟨⟨c,d,k,o,k3,j⟩,p⟩;rcases rr k with⟨_,k⟩ | ⟨w,k⟩
   ·exact k.elim
   refine⟨k3.1,p,c,d.BB,_,k,((n.trans v).trans o).trans (Ext.BB _),rfl,j.BB,.inr ⟨?_,k3.2⟩⟩;rw[<-j.still w,<-s.still W]
  ·rw[r];obtain⟨N,x⟩:=x;unfold XB at x;cases j:(mb&&(ms||!DD o.op))<;>grind
  rw[r];refine⟨?_,qI.RE t⟩;cases(mb&&_)with
  | true=>exact bT.only t
  | false=>exact trivial
 rw[aP acw];exact⟨uW f w,(nu _ _ _).2.2,β,_,mk,a,(n.trans (Ext.put _ _ _)).trans (Ext.BB _),rfl,(L.put o.dst .un).BB,.inl ⟨rfl,trivial⟩⟩
def VL{f:Exit->Act->av->Prop}(C:∀c a w,¬f (.panic c) a w)(r:∀p∈Z,∃o,jd ops p.z=aM o/\yG P p.z o=aM p)(B:zOk ops Z=aE)(A:(qR Z).Nodup){s0:St}{K:List (Nat×Nat)->St->Prop}
  (F:∀mk st β a w n D m,K mk st->Ext s0 st->Rep β st a w->Late Z ws n D mk a w->D.Perm (qR Z)->m+I D=gm->gA P .any ops.toArray f (EE P ops mb ms S) m (fW BF D) a w):
  ∀(m g:Nat) {M:Array Bool} {mk:List (Nat×Nat)} {st:St} {β:Nat->Nat} {a:Act} {w:av} {n:Nat->Nat} {D Pd:List Nat},SF P ops mb ms S ws Z BF gm K g M mk st->Ext s0 st->st.mv=aE->Rep β st a w->Late Z ws n D mk a w->(D++Pd).Perm (qR Z)->m+I D=g->
   gA P .any ops.toArray f (EE P ops mb ms S) m (fW M D) a w:=by
 intro m;have G:∀p∈Z,∀q∈Z,p.z=q.z->p=q:=λp d q u e=>by
  obtain⟨o,a,b⟩:=r p d;obtain⟨l,c,k⟩:=r q u;rw[e,c]at a;injection a with a;subst a;rw[e,k]at b;injection b with b;exact b.symm
 have t:∀p∈Z,∀j o,jd ops j=aM o->j≠p.z->o.dst≠aM p.d:=λp d j o h i=>VI (VJ B p d) h (by rw[bP];exact i);have Y:∀p∈Z,∀q∈Z,p.z≠q.z->p.d≠q.d:=λp d q u i e=>by
  obtain⟨c,a,b⟩:=r q u;exact t p d q.z c a (Ne.symm i) (by rw[(po b).2.2.1,e])
 induction m using Nat.strongRecOn with
 | ind m y=>
 intro g M mk st β a w n D Pd H L T R N d V;cases g with
 | zero=>exact H.elim
 | succ g=>
 have h0:=H;unfold SF at H;obtain⟨hc,H⟩:=eG H;simp only[aR]at hc;obtain⟨bv,cc⟩:=hc;have bv:=BP bv;have aC:∀x∈D,x∈qR Z:=N.sub;have am:∀x∈Pd,x∈qR Z:=λx hx=>d.subset (List.mem_append_right _ hx);have fN:I D+I Pd=I (qR Z):=by have:=d.length_eq;rwa[aQ]at this
 have bY:(D++Pd).Nodup:=d.nodup_iff.2 A;have aT:∀x∈Pd,x∉D:=λx hx hd=>(List.nodup_append.1 bY).2.2 x hd x hx rfl;have aS:∀j∈Region.ready .any ops.toArray (fW M D),j∈qR Z->j∈Pd:=λj h W=>by
  have b:j∉D:=λhd=>by
   have:=(mem_ready.1 h).1;rw[rz.2 (.inr hd)]at this;cases this
  rcases ch.1 (d.mem_iff.2 W)with a | a
  ·exact absurd a b
  exact a
 have bV:∀j∈Region.ready .any ops.toArray M,j∉qR Z->j∈Region.ready .any ops.toArray (fW M D):=λj h W=>A5 (l:=M) (D:=[]) (E:=D) aag h λk=>W (aC j k);have ce:∀z∈Pd,z∈Region.ready .any ops.toArray (fW M D):=λz hz=>by
  obtain⟨p,a,rfl⟩:=qS.1 (am z hz);obtain⟨o,ho,b⟩:=r p a;refine mem_ready.2 ⟨?_,o,aeY,λe L=>?_⟩
  ·rw[fx];intro k;rcases rz.1 k with k | k
   ·rw[bv _ (am _ hz)]at k;cases k
   exact aT _ hz k
  rw[Array.mem_def,(po b).2.2.2.2.1]at L;cases L
 have AL:∀{m'},m=m'+1->∀j∈Pd,wpOp P ops.toArray f j (λa' w'=>EE P ops mb ms S j w w'/\gA P .any ops.toArray f (EE P ops mb ms S) m' ((fW M D).setIfInBounds j aE) a' w') a w:=by
  intro m' em j h;obtain⟨p,a,rfl⟩:=qS.1 (am j h);obtain⟨o,ho,x⟩:=r p a;obtain⟨_,q,s,l,l5,l6,l7⟩:=po x;obtain⟨c,e⟩:=Kz cc p a;have v:ops.toArray[p.z]? =aM o:=aeY
  unfold wpOp;simp only[v];rw[aV (wn l)];left;obtain⟨E,op,t',pp,af,g0⟩:=o;dsimp only at q s l l5;subst q s l;obtain⟨z,z1,z2⟩:=adA l6 w;refine JU z1 (z2 β0) (λ_=>rfl) λb w1 Z k S=>⟨?_,?_⟩
  ·unfold EE;rw[ho];dsimp only;rw[show mo P (.alloc p.t)=aL from rfl,cond_false];cases(mb&&(ms||!DD (.alloc p.t)))with
   | true=>exact bT.only k
   | false=>exact trivial
  rw[<-ry];exact y m' J (g+1) (D:=p.z::D) (Pd:=Pd.erase p.z) h0 L T (R.late T c k) (N.alloc G Y a (aT _ h) Z k S (by rw[R.ok.sz];exact e))
   ((List.perm_middle.symm.trans ((List.perm_cons_erase h).symm.append_left D)).trans d) (by rw[aY];omega)
 split at H
 ·rename_i v;obtain⟨hc,H⟩:=eG H;simp only[aR]at hc;obtain⟨⟨⟨l,p⟩,q⟩,c⟩:=hc;have b:M=BF:=Uj.1 (VK p);have s:=dj q;have c:=dH c;cases P:Pd with
  | nil=>
   rw[P,bE]at d;rw[b];exact F mk st β a w n D m H L R N d J
  | cons z w=>
   have a:z∈Pd:=by rw[P];exact fj
   have D:I Pd=I w+1:=by rw[P];rfl
   obtain⟨m',rfl⟩:∃m',m=m'+1:=⟨m-1,J⟩
   refine⟨λh0=>?_,λj h=>AL rfl j ?_⟩
   ·have:=ce z a;rw[h0]at this;cases this
   by_cases W:j∈qR Z
   ·exact aS j h W
   exfalso;have E:j∈Region.ready .any ops.toArray (fW M ((qR Z).erase z)):=A5 (λx hx=>(List.mem_erase_of_ne (λe=>aT z a (by rw[<-e];exact hx))).2 (aC x hx)) h (λk=>W (List.mem_of_mem_erase k));have:=Px l z (am z a) j E;exact W (this▸am z a)
 rename_i co dO YP;obtain⟨c0,H⟩:=eG H;simp only[aR,af9]at c0;have cC:=Kx c0.1;have c0:=dH c0.2;have l:∀j∈Region.ready .any ops.toArray (fW M D),j∉qR Z->j∈Region.ready .any ops.toArray M:=λj h W=>(cC j (A5 aC h W)).1;obtain⟨m',rfl⟩:∃m',m=m'+1:=⟨m-1,J⟩
 have b:∀j∈co::dO,j∈Region.ready .any ops.toArray M/\j∉qR Z:=λj h=>tQ.1 (by rw[YP];exact h);have i:Region.ready .any ops.toArray (fW M D)=[]->False:=λh0=>by
  have:=bV co (b co fj).1 (b co fj).2;rw[h0]at this;cases this
 have E:∀j o,jd ops j=aM o->j∉qR Z->∀p∈Z,o.dst≠aM p.d:=λj o h W p d=>t p d j o h λe=>W (qS.2 ⟨p,d,e.symm⟩);have x:∀{j:Nat} {o:Oper},jd ops j=aM o->j∉qR Z->lL P ops mb ms S ws mk st o (λmk st=>SF P ops mb ms S ws Z BF gm K g (M.setIfInBounds j aE) mk st)->
   wpOp P ops.toArray f j (λa' w'=>EE P ops mb ms S j w w'/\gA P .any ops.toArray f (EE P ops mb ms S) m' ((fW M D).setIfInBounds j aE) a' w') a w:=by
  intro j o ho W H;refine wpOp_mono (λa' w' q=>⟨q.1,?_⟩) (ak9 ho H R);obtain⟨k0,v,el,dq,e,z,k3,k4,k5,k⟩:=q;rw[<-ry];have s:∀p∈Z,a'.tmps[p.d]? =a.tmps[p.d]? :=λp d=>v _ (E j o ho W p d);have c:Late Z ws n D e a' w':=by
   rcases k with⟨rfl,rfl⟩ | ⟨rfl,k⟩
   ·exact N.act s
   exact N.loud k s
  exact y m' J g z (L.trans k3) k4 k5 c d J
 split at H
 ·rename_i q u;obtain⟨o,ho,H⟩:=bI H;obtain⟨hc,H⟩:=eG H;simp only[aR,okT]at hc;obtain⟨⟨⟨⟨⟨c1,c2⟩,c3⟩,c4⟩,c5⟩,c6⟩:=hc;obtain⟨gE,S⟩:=b q (by simpa using c6);have UH:ops.toArray[q]? =aM o:=aeY
  have tE:uK .any ops.toArray (fW M D):=Fy (F6 c3) λz hz o fd=>by
   obtain⟨p,k,rfl⟩:=qS.1 (aC z hz);obtain⟨c,a,q⟩:=r p k;rw[lV]at a;have:c=o:=by
    have e:ops.toArray[p.z]? =aM c:=by simpa using a
    rw[fd]at e;injection e with e;exact e.symm
   rw[<-this];exact(po q).2.2.2.2.1
  have hN:∀k∈ZW M 0 ops,(fW M D).getD k aE=aE:=λk hk=>rz.2 (.inl (by simpa using(dx.1 c5) k hk));have RI:=Region.free_spec UH c2;have Jb:∀j oj,ops.toArray[j]? =aM oj->j≠q->(fW M D).getD j aE=aL->(∀e∈oj.after,Region.binds .any e=aE->e.on≠q)->o.apart ops.toArray oj=aE:=λj oj P h2 h3 h4=>RI j oj P h2 (by
   rw[fx]at h3⊢;exact λk=>h3 (rz.2 (.inl k))) h4
  have eQ:=bV q gE S;obtain⟨s,e1,jL,P⟩:=DG H R;have se:∀v,∀p∈Z,(a.put o.dst v).tmps[p.d]? =a.tmps[p.d]? :=λv p d=>(nu _ _ _).2.2 _ (E q o ho S p d);rcases P with⟨hw,P⟩ | ⟨hw,P⟩
  ·obtain⟨v,s2,gG,k,e,k3,p,q,Z,s⟩:=adG P jL.BB;refine uM UH (Region.noSelect_spec c1) (λc a w d=>(C _ _ _ d).elim) c4 (ZW M 0 ops) q (λz _=>uW ho z) m' (fW M D) a w tE hN Jb eQ (adr hw s) p ?_;rw[<-ry];exact y m' J g k (((L.trans e1).trans (Ext.BB _)).trans (e.trans (Ext.BB _))) rfl k3.BB (N.act (se v)) d J
  refine uM (v:=undef) (F:=λ_=>True) UH (Region.noSelect_spec c1) (λc a w d=>(C _ _ _ d).elim) c4 (ZW M 0 ops) (λ_ _ _ _ _ _ _=>trivial) (λe _=>uW ho e) m' (fW M D) a w tE hN Jb eQ (afM hw) trivial ?_;rw[<-ry];exact y m' J g P ((L.trans e1).trans ((Ext.put _ _ _).trans (Ext.BB _))) rfl (jL.put o.dst .un).BB (N.act (se undef)) d J
 split at H
 ·obtain⟨o,ho,H⟩:=bI H;refine⟨λh0=>(i h0).elim,λj h=>?_⟩;by_cases W:j∈qR Z
  ·exact AL rfl j (aS j h W)
  have:j∈Fx (qR Z) (Region.ready .any ops.toArray M):=tQ.2 ⟨l j h W,W⟩;rw[YP]at this;obtain rfl:j=co:=by simpa using this
  exact x ho W H
 ·rename_i c _;obtain⟨o,ho,H⟩:=bI H;obtain⟨e,a,H⟩:=bI H;refine⟨λh0=>(i h0).elim,λj h=>?_⟩;by_cases W:j∈qR Z
  ·exact AL rfl j (aS j h W)
  have:j∈Fx (qR Z) (Region.ready .any ops.toArray M):=tQ.2 ⟨l j h W,W⟩;rw[YP]at this;rcases aZ.1 this with rfl | this
  ·exact x ho W H.1
  have:=aN.1 this;subst this;exact x a W H.2
 ·rename_i p e _;obtain⟨o,ho,H⟩:=bI H;obtain⟨q,c,H⟩:=bI H;obtain⟨k,a,H⟩:=bI H;refine⟨λh0=>(i h0).elim,λj h=>?_⟩;by_cases W:j∈qR Z
  ·exact AL rfl j (aS j h W)
  have:j∈Fx (qR Z) (Region.ready .any ops.toArray M):=tQ.2 ⟨l j h W,W⟩;rw[YP]at this;rcases aZ.1 this with rfl | this
  ·exact x ho W H.1
  rcases aZ.1 this with rfl | this
  ·exact x c W H.2.1
  have:=aN.1 this;subst this;exact x a W H.2.2
 exact H.elim
end
def St.I6(st:St)(d:Nat)(t:TypeId)(z:List SV)(b:Nat):St:=
 St.put {st with bx:=st.bx++[⟨aM b,t,z,st.ct,aE,aL,aL⟩],ct:=st.ct+1} (aM d) (.box (I st.bx) 0)
def Ext.I6 st d t zs b:Ext st (st.I6 d t zs b):=by
 refine Ext.trans (t:={st with bx:=st.bx++[_],ct:=st.ct+1}) ⟨rfl,kx _,λ_ _ _ a _=>a,λi c h o s=>?_,λi b h=>?_,Jt⟩ (Ext.put _ _ _)
 ·rw[ny]at h
  grind
 exact⟨b,by dsimp only;rw[ny,aP (by have:=uR h;omega)];exact h,rfl,rfl,λ_ a=>a⟩
section
variable {β:Nat->Nat} {st:St} {a:Act} {w:av}
def Rep.I6(R:Rep β st a w){d}{t}{zs}{b}(n:Sw (I st.bx) st.fr=aE)(o:Nt (I st.bx) st.bx=aE)(m:Dx st.bx st.dt=aE)(E:jP (λ_=>aL) zs=aE)
  (r:a.tmps[d]? =aM (.pointer (aM ⟨b,0,aaa⟩))) (q:Blk w b t (cZ β0 zs)) (u:∀i c,dy st.bx i=aM c->c.ok=aE->β i≠b):
  Rep (Fw β (I st.bx) b) (st.I6 d t zs b) a w:=by
 have B:Fw β (I st.bx) b (I st.bx)=b:=by unfold Fw;rw[aV rfl]
 have j:∀{i c},dy st.bx i=aM c->Fw β (I st.bx) b i=β i:=fun{i c} h=>by
  unfold Fw;rw[aP];have:=uR h;omega
 have s:Rep (Fw β (I st.bx) b) {st with bx:=st.bx++[⟨aM b,t,zs,st.ct,aE,aL,aL⟩],ct:=st.ct+1} a w:=by
  refine⟨uO ⟨R.ok.sz,R.ok.df,λi p hl f=>?_⟩,λi c a w=>?_,λi d bi x t v y z J=>?_,?_,R.still⟩
  ·rw[R.ok.at_ i p hl f];congr 1;exact kB (g:=λd=>!Nat.beq d (I st.bx)) DA _ (HB n i p hl)
  ·rw[ny]at a;split at a
   ·rename_i e;simp at a;subst a;subst e;refine⟨?_,λk hk=>?_,λhk=>afs⟩
    ·rw[B];rw[jA (g:=λ_=>aL) (β:=Fw β (I st.bx) b) (β':=β0) (λi h=>aal) _ E];exact q
    simp_all
   have e:=j a;obtain⟨h,p,k3⟩:=R.bx i c a w;refine⟨?_,λk hk=>by rw[e];exact p k hk,λhk=>by rw[e];exact k3 hk⟩;rw[e,<-jA (g:=λd=>!Nat.beq d (I st.bx)) (β:=β) (β':=Fw β (I st.bx) b) DA _ (HC o i c a w)];exact h
  ·rw[ny]at t v;split at t
   ·grind
   split at v
   ·grind
   rw[j t,j v];exact R.ne i d bi x t v y z J
  have e:=vU λi f=>by
   obtain⟨c,a,_⟩:=xj m i f;exact j a
  rw[e];exact R.only
 refine⟨uO ⟨s.ok.sz,s.ok.df,λi p hl f=>?_⟩,s.bx,s.ne,s.only,s.still⟩;simp[St.I6,St.put,eX]at hl;cases l:Nat.beq d i
 ·rw[l]at hl;exact s.ok.at_ i p af5 f
 rw[l]at hl;simp at hl;subst hl;have:=dj l;subst this;rw[r];show _=aM (Value.pointer _);rw[B]
end
def neN(b:Nat):List Nat->Prop->Prop
 | [],p=>p
 | x::r,p=>x≠b->neN b r p
def VM{b}:∀{l:List Nat} {p:Prop},neN b l p->(∀x∈l,x≠b)->p
 | [],_,h,_=>h
 | x::r,p,a,h=>VM (a (h x fj)) λy b=>h y (dZ _ b)
def agb(w:av)(mk:List (Nat×Nat)):List LZ->List Nat->St->(St->Prop)->Prop
 | [],_,st,K=>K st
 | p::r,s,st,K=>bif chk st p.zs then ∀b,w.heap.size<=b->b<st.w0.heap.size->DH mk b->neN b s (agb w mk r (b::s) (st.I6 p.d p.t p.zs b) K)else False
def PA{ws}{mk}{bz:Nat->Nat}{a}{w}:∀{r:List LZ} {s:List Nat} {st:St} {K:St->Prop} {b:Nat->Nat},agb ws mk r s st K->Rep b st a w->st.mv=aL->
  (∀p∈r,a.tmps[p.d]? =aM (.pointer (aM ⟨bz p.z,0,aaa⟩))/\Blk w (bz p.z) p.t (cZ β0 p.zs)/\ws.heap.size<=bz p.z/\DH mk (bz p.z)/\jP (λ_=>aL) p.zs=aE/\(∀x∈s,x≠bz p.z)/\∀i c,dy st.bx i=aM c->c.ok=aE->b i≠bz p.z)->
  (qR r).Nodup->(∀p∈r,∀q∈r,p.z≠q.z->bz p.z≠bz q.z)->∃f d,K f/\Ext st f/\Rep d f a w
 | [],_,st,K,b,h,R,_,_,_,_=>⟨st,b,h,Ext.refl _,R⟩
 | p::r,s,st,K,b,a,R,m,l,n,hd=>by
  obtain⟨h,a⟩:=eG a;simp[chk,aR]at h;obtain⟨t,k,u,v,w,z,A⟩:=l p fj;have a:=VM (a _ u (by rw[<-R.still m];exact k.lt) v) z;simp[qR,qM]at n;have j:∀q∈r,p.z≠q.z:=λq g e=>n.1 (qS.2 ⟨q,g,e.symm⟩);have o:∀{i c},dy st.bx i=aM c->Fw b (I st.bx) (bz p.z) i=b i:=fun{i c} a=>by
   unfold Fw;rw[aP];have:=uR a;omega
  obtain⟨f,d,B,C,k3⟩:=PA a (R.I6 h.1.1.1 h.1.1.2 h.2 w t k A) m (λq g=>by
   obtain⟨E,F,G,H,J,L,M⟩:=l q (dZ _ g);have P:=hd p fj q (dZ _ g) (j q g);refine⟨E,F,G,H,J,λx D=>?_,λi c h N=>?_⟩
   ·rcases aZ.1 D with rfl | D
    ·exact P
    exact L x D
   simp[St.I6,St.put]at h;rw[ny]at h;split at h
   ·rename_i e;subst e;unfold Fw;simp_all
   rw[o h];exact M i c h N) n.2 λx D y e=>hd x (dZ _ D) y (dZ _ e)
  exact⟨f,d,B,(Ext.I6 _ _ _ _ _).trans C,k3⟩
def ph2(P:Program)(o:List Oper)(m s:Bool)(S:Nat->Prop)(w:av)(Z:List LZ)(B:Array Bool)(g n:Nat)(mk:List (Nat×Nat))(st:St)(K:St->Prop):Prop:=
 bif Nat.beq (I st.bx) n then fV st λst=>agb w mk Z [] st λst=>Kq P o m s S (g-(I (qR Z))) (fW B (qR Z)) st K else False
def PB(P:Program)(o:List Oper)(j:Bool)(kp:List Nat)(i:List MI)(m a:Bool)(S:Nat->Prop)(Z:List LZ)(B:Array Bool)(g:Nat)(st:St)(K:St->Prop):Prop:=
 bif tM st.bx then
  (bif j then ∃J:List _->JT _,(∀mk,Kn _ (J mk) λv w=>ph2 P o m a S st.w0 Z B g (I st.bx) mk (pj st kp i v w) K)/\
   SF P o m a S st.w0 Z B g (λmk s=>fV s λs=>SD st kp i (J mk) s) (I o) (Array.replicate (I o) aL) [] (St.BB (st.rT (zSl Z)))
  else SF P o m a S st.w0 Z B g (λmk s=>ph2 P o m a S st.w0 Z B g (I st.bx) mk s K) (I o) (Array.replicate (I o) aL) [] (St.BB (st.rT (zSl Z))))else False
def VN(o:List Oper)(Z:List Nat):Nat->Array Bool->Array Bool
 | 0,l=>l
 | f+1,l=>match Fx Z (Region.ready .any o.toArray l)with
  | []=>l
  | i::_=>VN o Z f (l.setIfInBounds i aE)
def aaT:List Bool->Nat
 | []=>0
 | b::r=>bif b then aaT r else aaT r+1
def PC:∀{l:List mZ} {i:Nat},i<(I l)->∃b,dy l i=aM b
 | b::r,0,_=>⟨b,rfl⟩
 | b::r,i+1,h=>PC (l:=r) acs
section
variable {P:Program} {ops:List Oper} {mb ms:Bool} {S:Nat->Prop} {β:Nat->Nat} {a:Act} {w:av} {BF:Array Bool} {gm:Nat} {jn:Bool} {kp:List Nat} {mi:List MI} {st:St} {K:St->Prop}
def VO{Q}(y:∀c a w,¬Q (.panic c) a w)(r:zOk ops (nV P 0 ops)=aE)(h:PB P ops jn kp mi mb ms S (nV P 0 ops) BF gm st K)(u:Rep β st a w)(F:st.mv=aL)
  (E:∀d j e f,K j->Ext st j->Rep d j e f->Q .normal e f):gA P .any ops.toArray Q (EE P ops mb ms S) (I ops) (Array.replicate (I ops) aL) a w:=by
 have n:(qR (nV P 0 ops)).Nodup:=DJ;have A:∀p∈nV P 0 ops,∃x,jd ops p.z=aM x/\yG P p.z x=aM p:=λp g=>by
  obtain⟨c,x,h,a,b⟩:=DI g
  grind
 generalize nV P 0 ops=Z at*
 obtain⟨B,h⟩:=eG h;rw[<-u.still F]at h;have t:∀mk j d e f z D m,ph2 P ops mb ms S w Z BF gm (I st.bx) mk j K->Ext st j->Rep d j e f->Late Z w z D mk e f->D.Perm (qR Z)->m+I D=gm->gA P .any ops.toArray Q (EE P ops mb ms S) m (fW BF D) e f:=by
  intro mk j d e f z D m h he K M g hg;obtain⟨N,h⟩:=eG h;have N:=dj N;obtain⟨s1,h1,e1,T,W,_,_,_,am⟩:=fg h K;have S:=he.trans e1;have P:∀i c,dy s1.bx i=aM c->c.ok=aE->d i<w.heap.size:=λi c H s=>by
   obtain⟨b,h⟩:=PC (l:=st.bx) (i:=i) (by have:=uR H;omega);obtain⟨w,a,V,k3,q⟩:=S.ps i b h;rw[H]at a;injection a with a;subst a;have p:b.ok=aE:=by rw[<-k3];exact s
   obtain⟨k,hk⟩:=fe.1 (zD B i b h p);rw[(T.bx i c H s).at_ k (q k hk),<-(u.bx i b h p).at_ k hk];exact(u.bx i b h p).blk.lt
  have J:=λp G=>g.mem_iff.2 (qS.2 ⟨p,G,rfl⟩);obtain⟨s2,aC,a,V,k3⟩:=PA (bz:=z) h1 T W (λp G=>by
   obtain⟨b,k,l,w⟩:=M.at_ p G (J p G);obtain⟨x,_,s⟩:=A p G;exact⟨b,k,l,w,(po s).2.2.2.2.2.2,aag,λi c H s=>acw⟩) n λp G q h=>M.ne _ (J p G) _ (J q h)
  have:=g.length_eq;rw[Kw g,show m=gm-(I (qR Z)) by omega];exact wk y a k3 λL s3 Y w3 m1 m2 m3=>E L s3 Y w3 m1 ((S.trans V).trans m2) m3
 have C:Late Z w (λ_=>0) [] [] a w:=⟨λp _ h=>aal,λ_ h=>aal,λ_ h=>aag,λ_ h=>aal,aX _⟩
 have R:=Rep.BB (u.frame (fr':=Dt _ st.fr) λi p v=>by
  cases h:(zSl Z).elem i with
  | true=>rw[(nM (l:=st.fr)).1 h]at v;cases v
  | false=>rw[(nM (l:=st.fr)).2 h]at v;exact⟨p,v,rfl⟩)
 have o:Ext st (St.BB (st.rT (zSl Z))):=(Ext.rT _ _).trans (Ext.BB _);rcases rr h with⟨_,h⟩ | ⟨_,h⟩
 ·obtain⟨w,J,h⟩:=h;refine VL y A r n (s0:=st) (λmk s d e f z D m hk k a L g l=>?_) (I ops) (I ops) (D:=[]) (Pd:=qR Z) h o rfl R C (List.Perm.refl _) rfl;obtain⟨H,c,b,G,T,_⟩:=fg hk a;obtain⟨K,p,q⟩:=wj c G T (.inl (k.trans b)) (J mk);exact t mk _ _ e f z D m p Ext.Yx q L g l
 exact VL y A r n (s0:=st) (λmk s d e f z D m hk b a L g c=>t mk s d e f z D m hk b a L g c) (I ops) (I ops) (D:=[]) (Pd:=qR Z) h o rfl R C (List.Perm.refl _) rfl
end
inductive Ann where
 | o
 | s (x y:Ann)
 | j (kp:List Nat) (ms:List MI) (x y:Ann)
 | l (jn:Bool) (kp:List Nat) (ms:List MI)
def Ann.x:Ann->Ann
 | .s x _=>x
 | _=>.o
def Ann.y:Ann->Ann
 | .s _ y=>y
 | _=>.o
def Ann.d:Nat->Ann->Ann
 | 0,x=>x
 | n+1,x=>.s .o (d n x)
def fX:Nat:=4000
def neP(k:Nat):List mZ->Prop->Prop
 | [],p=>p
 | b::r,p=>bif b.ok&&b.blk.isSome then(k≠b.blk.getD 0->neP k r p)else neP k r p
def Nz:List mZ->Prop->Prop
 | [],p=>p
 | b::r,p=>bif b.ok&&b.blk.isSome then neP (b.blk.getD 0) r (Nz r p)else Nz r p
def NA{k}:∀{l:List mZ} {p:Prop},neP k l p->(∀i b,dy l i=aM b->b.ok=aE->b.blk.isSome=aE->k≠b.blk.getD 0)->p
 | [],_,h,_=>h
 | b::r,p,h,d=>by
  unfold neP at h;cases a:(b.ok&&b.blk.isSome)with
  | true=>
   rw[a]at h;simp at a;exact NA (h (d 0 b rfl a.1 a.2)) λi c e=>d (i+1) c e
  | false=>
   rw[a]at h;exact NA h λi c b=>d (i+1) c b
def HK:∀{l:List mZ} {p:Prop},Nz l p->(∀i a bi j,dy l i=aM bi->dy l a=aM j->bi.ok=aE->j.ok=aE->bi.blk.isSome=aE->j.blk.isSome=aE->i≠a->bi.blk.getD 0≠j.blk.getD 0)->p
 | [],_,h,_=>h
 | b::r,p,h,g=>by
  unfold Nz at h;have t:∀{p:Prop},Nz r p->p:=λh=>HK h λi a bi j e f k m n o q=>g (i+1) (a+1) bi j e f k m n o J;cases d:(b.ok&&b.blk.isSome)with
  | true=>
   rw[d]at h;simp at d;exact t (NA h λi c p e f=>g 0 (i+1) b c rfl p d.1 e d.2 f J)
  | false=>
   rw[d]at h;exact t h
def agc(P:Program)(o:List Oper)(draw:Bool)(st:St)(K:St->Prop):Prop:=
 bif draw then
  bif HH P o&&Region.lexB .any o.toArray then exI (Nv o) st λst=>A0 P o fX [] o st λst=>K {st with mv:=aE}
  else bif mbN P o 0 o then fV {st with mv:=aE} λst=>Nz (bif msN P o 0 o then st.bx else[]) (∃S,Kq P o aE (msN P o 0 o) S (I o) (Array.replicate (I o) aL) st K)
  else Kq P o aL aL (λ_=>False) (I o) (Array.replicate (I o) aL) {st with mv:=aE} K
 else Cb P o fX o st K
def QR(st:St)(K:St->Prop):Exit->Act->av->Prop:=λe a w=>match e with
 | .normal=>∃b d,K d/\Ext st d/\Rep b d a w
 | _=>False
def Ext.mv s:Ext s {s with mv:=aE}:=⟨rfl,aX _,λ_ _ _ h _=>h,λi b h o _=>⟨b,h,o,rfl,rfl,rfl,λ_ h=>h⟩,Vf,Jt⟩
def Rep.drew{β}{s}{a}{w w'}(h:Rep β s a w)(c:Only [] w w')(e:w'.heap=w.heap):Rep β {s with mv:=aE} a w':=
 ⟨h.fr,λi b d o=>by
  obtain⟨k,a,k3⟩:=h.bx i b d o;exact⟨by unfold Blk at k⊢;rw[e];exact k,a,k3⟩,h.ne,h.only.cd c,λh=>aal⟩
section
variable {P:Program}
def PD(m:P.follows .mixedOrders=aE){id}{ops}{draw}{st}{K}{β}{a}{w}(h:agc P ops.toList draw st K)(R:Rep β st a w):
  (Code.region id ops draw).wp P (QR st K) a w:=by
 obtain⟨l⟩:=ops;rcases rr h with⟨hd,x⟩ | ⟨hd,x⟩<;>clear h<;>have h:=x
 ·subst hd;have d:=R.drew (Only.drewN w 1) rfl;have f:∀{v y:Bool} {S:Nat->Prop} {b:St},Ext st b->Rep β b a w.drew->Kq P l v y S (I l) _ b K->(Code.region id l.toArray aE).wp P (QR st K) a w:=λe j h=>
   JV _ m (wk (λc a w u=>u) h j λr t o i p q k3=>⟨r,t,p,e.trans q,k3⟩)
  rcases rr h with⟨g,h⟩ | ⟨_,h⟩
  ·simp at g;obtain⟨s,z,A,B,_⟩:=A4 h R;obtain⟨D,p,q,k3,C⟩:=uQ z;obtain⟨o,c,k⟩:=C trivial β a w B;refine wp_region_quiet_lit m g.2 ?_;have:=Nr (Q:=λo=>∀i,(∃n,i=w.drewN n)->QR st K .normal o i) (rest:=[]) c (wpQuiet_nil (by
    rintro i ⟨n,rfl⟩;exact⟨β,_,p,(A.trans q).trans (Ext.mv _),k.drew (Only.drewN w n) rfl⟩))
   simp_all
  rcases rr h with⟨_,h⟩ | ⟨_,h⟩
  ·obtain⟨b,g,e,j,_⟩:=fg h d;have z:∀c s bi a,dy b.bx c=aM bi->dy b.bx s=aM a->bi.ok=aE->a.ok=aE->bi.blk.isSome=aE->a.blk.isSome=aE->c≠s->bi.blk.getD 0≠a.blk.getD 0:=λc s bi a n A B C D E F=>by
    obtain⟨k,hk⟩:=fe.1 D;obtain⟨G,m⟩:=fe.1 E;have e:=(j.bx c bi n B).at_ k hk;have H:=(j.bx s a A C).at_ G m;rw[hk,m,iz,iz];have:=j.ne c s bi a n A B C F;omega
   obtain⟨S,n⟩:=HK g (by
    cases msN P l 0 l with
    | true=>exact z
    | false=>exact λc s bi a n=>by cases c<;>cases n)
   exact f ((Ext.mv st).trans e) j n
  exact f (Ext.mv st) d h
 subst hd;refine wp_region_lit (xn h R λa d c e k b k3=>⟨a,d,k,b,k3⟩)
def adH(P:Program)(o:List Oper)(j:Bool)(kp:List Nat)(m:List MI)(st:St)(K:St->Prop):Prop:=
 bif zOk o (nV P 0 o)then fV st.BB λst=>
  (bif mbN P o 0 o then Nz (bif msN P o 0 o then st.bx else[]) (∃S,PB P o j kp m aE (msN P o 0 o) S (nV P 0 o) (VN o (qR (nV P 0 o)) (I o) (Array.replicate (I o) aL)) (aaT (VN o (qR (nV P 0 o)) (I o) (Array.replicate (I o) aL)).toList) st K)
  else PB P o j kp m aL aL (λ_=>False) (nV P 0 o) (VN o (qR (nV P 0 o)) (I o) (Array.replicate (I o) aL)) (aaT (VN o (qR (nV P 0 o)) (I o) (Array.replicate (I o) aL)).toList) st K)
 else False
def VQ(m:P.follows .mixedOrders=aE){id}{ops}{jn}{kp}{mi}{st}{K}{β}{a}{w}(h:adH P ops.toList jn kp mi st K)(R:Rep β st a w):
  (Code.region id ops aE).wp P (QR st K) a w:=by
 obtain⟨l⟩:=ops;obtain⟨z,h⟩:=eG h;obtain⟨s,b,e,j,C,_⟩:=fg h (R.drew (Only.drewN w 1) rfl);have f:∀{d i:Bool} {S:Nat->Prop} {B:Array Bool} {g:Nat},PB P l jn kp mi d i S _ B g s K->(Code.region id l.toArray aE).wp P (QR st K) a w:=λh=>
  JV _ m (VO (λc a w p=>p) z h j C λk q r t n o k3=>⟨k,q,n,((Ext.BB st).trans e).trans o,k3⟩)
 rcases rr b with⟨_,h⟩ | ⟨_,h⟩
 ·have p:∀c o bi a,dy s.bx c=aM bi->dy s.bx o=aM a->bi.ok=aE->a.ok=aE->bi.blk.isSome=aE->a.blk.isSome=aE->c≠o->bi.blk.getD 0≠a.blk.getD 0:=λc o bi a n q r t u v x=>by
   obtain⟨k,hk⟩:=fe.1 u;obtain⟨y,m⟩:=fe.1 v;have e:=(j.bx c bi n r).at_ k hk;have A:=(j.bx o a q t).at_ y m;rw[hk,m,iz,iz];have:=j.ne c o bi a n q r t x;omega
  obtain⟨S,n⟩:=HK h (by
   cases msN P l 0 l with
   | true=>exact p
   | false=>exact λc o bi a n=>by cases c<;>cases n)
  exact f n
 exact f h
def V(P:Program):Code->Ann->St->(Exit->St->Prop)->Prop
 | .skip,_,st,K=>K .normal st
 | .label _,_,st,K=>K .normal st
 | .exit i,_,st,K=>K (.exit i) st
 | .ret,_,st,K=>K .ret st
 | .region _ o d,a,st,K=>(match a with
  | .l j kp m=>bif d then adH P o.toList j kp m st (K .normal)else False
  | .j kp m _ _=>fV st λst=>∃J,Kn _ J (λv w=>K .normal (pj st kp m v w))/\agc P o.toList d st λs=>fV s λs=>SD st kp m J s
  | _=>agc P o.toList d st (K .normal))
 | .seq a b,n,st,K=>(match n with
  | .j kp m x y=>fV st λst=>∃J,Kn _ J (λv w=>V P b y (pj st kp m v w) K)/\V P a x st λe s=>(match e with
   | .normal=>fV s λs=>SD st kp m J s
   | e=>K e s)
  | n=>V P a n.x st λe s=>(match e with
   | .normal=>V P b n.y s K
   | e=>K e s))
 | .cond c a b,n,st,K=>cH (st.ev c) λt=>(match t with
  | .bl aE=>V P a n.x st K
  | .bl aL=>V P b n.y st K
  | .bt t=>((t=aE->V P a n.x st K)/\(t=aL->V P b n.y st K))
  | _=>False)
 | .block i c,a,st,K=>V P c a st λe s=>(match e with
  | .exit d=>bif Nat.beq d i then K .normal s else K (.exit d) s
  | e=>K e s)
 | .loop c,a,st,K=>(match a with
  | .j kp m x _=>fV st λst=>(λst=>∃(b:Nat->JT _) (d:Nat),SD st kp m (b d) st/\∀n,Kn _ (b n) λv w=>V P c x (pj st kp m v w) λe s=>(match e with
   | .normal=>fV s λs=>∃c,c<n/\SD st kp m (b c) s
   | e=>K e s)) (st.esc (DE st m))
  | _=>False)
 | _,_,_,_=>False
def QK(st:St)(K:Exit->St->Prop):Exit->Act->av->Prop:=λe a w=>match e with
 | .normal=>∃b d,K .normal d/\Ext st d/\Rep b d a w
 | .exit i=>∃b d,K (.exit i) d/\Ext st d/\Rep b d a w
 | .ret=>∃b d,K .ret d/\Ext st d/\Rep b d a w
 | _=>False
def xr{st FJ}{K}(x:Ext st FJ):∀e a w,QK FJ K e a w->QK st K e a w:=λe a w h=>by
 cases e<;>first | exact h | (obtain⟨g,d,b,c,f⟩:=h;exact⟨g,d,b,x.trans c,f⟩)
def Ce(m:P.follows .mixedOrders=aE):∀c {d:Ann} {st:St} {K:Exit->St->Prop} {b:Nat->Nat} {a:Act} {w:av},V P c d st K->Rep b st a w->c.wp P (QK st K) a w
 | .skip,_,st,K,b,a,w,h,R=>wp_skip ⟨b,st,h,Ext.refl _,R⟩
 | .label _,_,st,K,b,a,w,h,R=>wp_label ⟨b,st,h,Ext.refl _,R⟩
 | .exit _,_,st,K,b,a,w,h,R=>wp_exit ⟨b,st,h,Ext.refl _,R⟩
 | .ret,_,st,K,b,a,w,h,R=>wp_ret ⟨b,st,h,Ext.refl _,R⟩
 | .region i o r,d,st,K,b,a,w,h,R=>by
  unfold V at h;split at h
  ·cases r
   ·exact h.elim
   refine wp_mono (VQ m h R) λe a c q=>?_;cases e<;>first | exact q.elim | exact q
  ·obtain⟨u,⟨s,J,h⟩,c,L,_⟩:=fg h R;refine wp_mono (PD m h L) λe t z q=>?_;cases e<;>try exact q.elim
   obtain⟨p,v,j,f,a⟩:=q;obtain⟨x,k,g,G,T,_⟩:=fg j a;obtain⟨y,l,n⟩:=wj k G T (.inl (f.trans g)) J;exact⟨_,_,l,c.trans Ext.Yx,n⟩
  refine wp_mono (PD m h R) λe a c q=>?_;cases e<;>first | exact q.elim | exact q
 | .seq x y,d,st,K,b,a,w,h,R=>by
  unfold V at h;split at h
  ·obtain⟨s,⟨c,J,h⟩,a,j,_⟩:=fg h R;refine wp_seq (wp_mono (Ce m x h j) λe f g q=>?_);cases e with
   | normal=>
    obtain⟨p,r,k,e,h⟩:=q;obtain⟨t,l,i,G,T,_⟩:=fg k h;obtain⟨v,n,o⟩:=wj l G T (.inl (e.trans i)) J;exact wp_mono (Ce m y n o) (xr (a.trans Ext.Yx))
   | exit _=>exact xr a _ _ _ q
   | ret=>exact xr a _ _ _ q
   | _=>exact q.elim
  refine wp_seq (wp_mono (Ce m x h R) λe a c q=>?_);cases e with
  | normal=>
   obtain⟨g,s,h,e,f⟩:=q;exact wp_mono (Ce m y h f) (xr e)
  | _=>exact q
 | .cond c x y,d,st,K,b,a,w,h,R=>by
  obtain⟨t,f,h⟩:=bI h;have ev:=R.ev f;split at h
  ·exact wp_cond_true ev (Ce m x h R)
  ·exact wp_cond_false ev (Ce m y h R)
  ·exact wp_cond_split ev (λe=>Ce m x (h.1 e) R) (λe=>Ce m y (h.2 e) R)
  exact h.elim
 | .block i c,d,st,K,b,a,w,h,R=>by
  refine wp_block (wp_mono (Ce m c h R) λe f g q=>?_);cases e with
  | exit j=>
   obtain⟨a,s,n,k,l⟩:=q;rcases rr n with⟨e,c⟩ | ⟨e,c⟩
   ·have:=dj e;subst this;exact Sk ⟨a,s,c,k,l⟩
   have o:¬j=i:=λh=>by rw[h]at e;simp at e
   exact Ng (by simpa using o) ⟨a,s,c,k,l⟩
  | normal=>exact q
  | ret=>exact q
  | _=>exact q.elim
 | .loop c,d,st,K,b,a,w,h,R=>by
  unfold V at h;split at h
  ·rename_i kp a x _;obtain⟨s,u,p,i,j,_⟩:=fg h R;have l:=p.trans (Ext.esc s (DE s a));have L:=i.esc (DE s a);have C:(s.esc (DE s a)).mv=aL:=j;generalize s.esc (DE s a)=B at*
   obtain⟨o,A,r,h⟩:=u;refine wp_loop_ghost (λn k f=>∀K,Kn _ (o n) K->∃v,K v f/\Rep _ (pj B kp a v f) k f) A (λK g=>wj r L C (.inl (Ext.refl _)) g) λn k f t=>?_;obtain⟨v,y,z⟩:=t _ (h n);refine wp_mono (Ce m c y z) λe D E q=>?_;cases e with
   | normal=>
    obtain⟨J,M,n,e,h⟩:=q;obtain⟨N,⟨H,F,x⟩,c,G,T,_⟩:=fg n h;exact⟨H,F,λK g=>wj x G T (.inr ⟨v,f,e.trans c⟩) g⟩
   | exit _=>exact xr (l.trans Ext.Yx) _ _ _ q
   | ret=>exact xr (l.trans Ext.Yx) _ _ _ q
   | _=>exact q.elim
  exact h.elim
 | .rangeFunc _ _ _ _,_,_,_,_,_,_,h,_=>adC
 | .scope _,_,_,_,_,_,_,h,_=>adC
 | .goto _,_,_,_,_,_,_,h,_=>adC
 | .refuse _,_,_,_,_,_,_,h,_=>adC
def NB(P:Program)(st:St):List ResultVar->Option (List SV)
 | []=>aM []
 | .tmp t::r=>(match st.get t,NB P st r with
  | some v,aM l=>aM (v::l)
  | _,_=>aaa)
 | .cell p t::r=>(match st.get p,P.underlying t,NB P st r with
  | some (.box i o),aM d,aM l=>(match dy st.bx i with
   | some b=>bif b.ok&&sz P t (I ((b.cells.drop o).take (yE P t)))&&(pe d||Nat.beq (I ((b.cells.drop o).take (yE P t))) 1)then aM (Su (pe d) ((b.cells.drop o).take (yE P t))::l)else aaa
   | none=>aaa)
  | _,_,_=>aaa)
def agd(P:Program)(r:List ResultVar)(R:aw->av->Prop)(st:St):Prop:=cH (NB P st r) λv=>fV (st.esc v) λst=>bif jP (Ki st.bx) v then R (val (MH st.bx) (DC v)) st.w0 else False
def HL{β}{st}{a}{w}(h:Rep β st a w):∀{r:List ResultVar} {c:List SV},NB P st r=aM c->F5 P a w r (cZ β c)
 | [],c,a=>by simp[NB]at a;subst a;trivial
 | .tmp t::b,c,a=>by
  simp[NB]at a;split at a
  ·rename_i v l d e;simp at a;subst a;exact⟨h.get d,HL h e⟩
  cases a
 | .cell p t::f,c,a=>by
  simp only[NB]at a;split at a
  ·rename_i k o d l g i j;split at a
   ·rename_i b p;obtain⟨m,rfl⟩:=Ht a;simp only[aR,cE]at m;obtain⟨⟨u,z⟩,n⟩:=m;refine⟨⟨_,h.get g,?_⟩,HL h j⟩;generalize t:(b.cells.drop o).take _=q at*
    have C:Cells w _ (cZ β q):=((h.bx k b p u).blk).I4 o _ (by
     rw[<-t];simp only[cZ,mg,AN];rw[cx,tG];simp only[cJ,bK];omega)
    have v:=nI (P:=P) i w;cases hd:pe d
    ·rw[hd]at v n;obtain⟨s,rfl⟩:=Dm (n.resolve_left aag);exact Fp v (Cells.one C)
    rw[hd]at v;have e:=sK hd β q;rw[hd]at e;rw[e];exact Hp v (tq z w) (gM β q) C
   cases a
  cases a
def aaU:Nat->List SV->List (Nat×Nat×SV)
 | _,[]=>[]
 | i,s::r=>(i,0,s)::aaU (i+1) r
def HM β:∀i l,cv β (aaU i l)=Hq i (cZ β l)
 | _,[]=>rfl
 | i,s::r=>by
  have:=HM β (i+1) r;simp[cv]at this;simp[aaU,cv,cZ,Hq,this]
def st0(f:Func)(args:List SV)(w:av):St:={n:=f.ntmps,fr:=aaU 0 args,bx:=[],w0:=w,mv:=aL,dt:=[],ct:=1,df:=[]}
def nN(P:Program)(f:FuncId)(args:Array aw)(w:av)(a:aw->av->Prop):Prop:=CallsD P f args .returning w λe u b=>u=.returning/\∃v,e=.returned v/\a v b
def ND(P:Program)(R:aw->av->Prop):List (Nat×List aw×List aw)->av->Prop
 | [],w=>R (.tuple #[]) w
 | d::s,w=>bif Vp P d.1 then nN P d.1 (d.2.1++d.2.2).toArray w λ_ a=>ND P R s a else False
def asy:List ResultVar->Bool
 | []=>aE
 | _=>aL
def aaW(P:Program)(r:List ResultVar)(R:aw->av->Prop)(st:St):Prop:=match st.df with
 | []=>agd P r R st
 | _::_=>bif asy r then fV st λst=>ND P R st.df st.w0 else False
def aaX(P:Program)(r:List ResultVar)(R:aw->av->Prop)(st:St):Prop:=match st.df with
 | []=>agd P r R st
 | _::_=>False
def Vfn(P:Program)(f:FuncId)(a:Ann)(args:List SV)(R:aw->av->Prop)(w:av):Prop:=cH (P.funcs[f]?) λn=>cH n.body λc=>
 bif Nat.ble (I args) n.ntmps then V P c a (st0 n args w) λe st=>(match e with
  | .normal=>aaW P n.results.toList R st
  | .ret=>aaW P n.results.toList R st
  | _=>False)else False
def Vfd(P:Program)(f:FuncId)(a:Ann)(args:List SV)(R:aw->av->Prop)(w:av):Prop:=cH (P.funcs[f]?) λn=>cH n.body λc=>
 bif Nat.ble (I args) n.ntmps then V P c a (st0 n args w) λe st=>(match e with
  | .normal=>aaX P n.results.toList R st
  | .ret=>aaX P n.results.toList R st
  | _=>False)else False
def PE{β}{st}{a}{w}{fn}{R}(d:agd P fn.results.toList R st)(f:Rep β st a w):∃v,(results fn a.tmps).run P w=.ok v w/\R v w:=by
 obtain⟨g,i,d⟩:=bI d;obtain⟨l,b,k,j,m,_⟩:=fg d (f.esc g);obtain⟨c,b⟩:=eG b;have h:=HL f i;rw[j.aoq (zE c),<-j.still m]at b;refine⟨_,?_,b⟩;have r:fn.results=fn.results.toList.toArray:=rfl
 match g,h,c with
 | [s],h,c=>exact afK r h
 | [],h,c=>
  have e:val β (DC [])=.tuple (cZ β []).toArray:=rfl;exact Nh r rfl h
 | s::t::a,h,c=>
  have e:val β (DC (s::t::a))=.tuple (cZ β (s::t::a)).toArray:=by
   show Value.tuple (tI β _).toArray=_;rw[uN]
  rw[e];exact Nh r (rfl) h
def VR args {n} (hk:I args<=n):(⟨args.toArray++Array.replicate (n-args.toArray.size) undef,[]⟩)=fr n (λ_=>undef) (Hq 0 args):=by
 congr 1;apply Uj.1;rw[Array.toList_append,Array.toList_replicate,zj];apply oe;intro i;by_cases h:i<n
 ·rw[mL,pR _ _ _ _ _ h,bP,F7]
  grind
 rw[dG aah,dG (by rw[qQ];omega)]
def Gb{fn}{tmps}{R}(r:fn.results.toList=[]):∀{l:List _} {w:av},ND P R l w->Leaves P fn tmps (λe b=>∃v,e=.returned v/\R v b) (dfs l) .returning w
 | [],w,h=>by
  have s:fn.results=([]).toArray:=by rw[<-r]
  exact⟨_,Nh (a:=⟨tmps,[]⟩) (rs:=[]) (vs:=[]) s rfl trivial,_,rfl,h⟩
 | d::s,w,h=>by
  obtain⟨a,h⟩:=eG h;refine leaves_cons (λh=>aal) (f:=d.1) (args:=(d.2.1++d.2.2).toArray) ?_ (h.mono ?_)
  ·have:=jR a (d.2.1++d.2.2).toArray w;rw[<-List.append_toArray]at this⊢;exact this
  rintro e u b ⟨rfl,v,rfl,h⟩;exact Gb r h
def KA{β}{st}{a}{w}{fn}{R}(h:aaW P fn.results.toList R st)(b:Rep β st a w):Leaves P fn a.tmps (λe c=>∃v,e=.returned v/\R v c) a.defers .returning w:=by
 rw[b.ok.df];unfold aaW at h;split at h
 ·rename_i hd;rw[hd];obtain⟨v,k,a⟩:=PE h b;exact⟨v,k,v,rfl,a⟩
 obtain⟨a,h⟩:=eG h;obtain⟨s,d,e,j,m,_⟩:=fg h b;have r:fn.results.toList=[]:=by
  cases f:fn.results.toList with
  | nil=>rfl
  | cons _ _=>rw[f]at a;cases a
 have Y:s.df=st.df:=by
  obtain⟨g,l⟩:=e.df;have f:=bN List.length (j.ok.df.symm.trans b.ok.df);rw[dfs,dfs,bK,bK,l,aQ]at f
  grind
 rw[<-j.still m]at d;rw[<-Y];exact Gb r d
def alc(m:P.follows .mixedOrders=aE){f}{an}{args}{R}{w}(h:Vfn P f an args R w):Calls P f (cZ β0 args).toArray w λe a=>∃v,e=.returned v/\R v a:=by
 obtain⟨n,g,h⟩:=bI h;obtain⟨c,hb,h⟩:=bI h;obtain⟨i,h⟩:=eG h;have d:Rep β0 (st0 n args w) (fr n.ntmps _ (Hq 0 _)) w:=
  ⟨⟨λ_=>undef,by rw[<-HM];rfl⟩,λc b hb=>af8,λc f bi e hb=>af8,Only.refl _ _,λ_=>rfl⟩
 refine calls_of_wp_defers g hb ?_;rw[VR _ (by rw[gM];exact dH i)];refine wp_mono (Ce m c h d) λe j a q=>?_;cases e with
 | normal=>
  obtain⟨e,s,b,f,c⟩:=q;exact KA b c
 | ret=>
  obtain⟨e,s,b,f,c⟩:=q;exact KA b c
 | exit _=>
  obtain⟨c,s,b,_⟩:=q;exact b.elim
 | _=>exact q.elim
def ald(m:P.follows .mixedOrders=aE){f}{an}{args}{R}{w}(h:Vfd P f an args R w):nN P f (cZ β0 args).toArray w R:=by
 obtain⟨n,k,h⟩:=bI h;obtain⟨c,hb,h⟩:=bI h;obtain⟨l,h⟩:=eG h;have d:Rep β0 (st0 n args w) (fr n.ntmps _ (Hq 0 _)) w:=
  ⟨⟨λ_=>undef,by rw[<-HM];rfl⟩,λc b hb=>af8,λc f bi e hb=>af8,Only.refl _ _,λ_=>rfl⟩
 refine(callsD_of_wp (R:=λe g=>∃v,e=.returned v/\R v g) k hb ?_).mono (λe u g h=>h);rw[VR _ (by rw[gM];exact dH l)];refine wp_mono (Ce m c h d) λe j g q=>?_;have i:∀{a:Nat->Nat} {s:St},aaX P n.results.toList R s->Rep a s j g->_/\j.defers=[]:=fun{a s} h d=>by
  unfold aaX at h;split at h
  ·rename_i hd;exact⟨PE h d,by rw[d.ok.df,hd];rfl⟩
  exact h.elim
 cases e with
 | normal=>
  obtain⟨a,s,b,o,c⟩:=q;obtain⟨⟨v,e,f⟩,k3⟩:=i b c;exact Ni e k3 f
 | ret=>
  obtain⟨a,s,b,o,c⟩:=q;obtain⟨⟨v,e,f⟩,k3⟩:=i b c;exact aav e k3 f
 | exit _=>
  obtain⟨a,s,b,_⟩:=q;exact b.elim
 | _=>exact q.elim
def ale{f}{an}{args}{R}{w}{vs}{vc}(m:P.follows .mixedOrders=aE)(b:vs=(cZ β0 args).toArray)(a:vc=Vfn P f an args R w)(h:vc):Calls P f vs w λe c=>∃v,e=.returned v/\R v c:=by
 subst a b;exact alc m h
def alf{f}{an}{args}{R}{w}{vs}{vc}(m:P.follows .mixedOrders=aE)(v:vs=(cZ β0 args).toArray)(e:vc=Vfd P f an args R w)(h:vc):nN P f vs w R:=by
 subst e v;exact ald m h
end
end Go.Kt.V
namespace Go.Proofs.YtfemabakfkliiaaGreatDoor.Vc
open Go.Value renaming int->O,string->X,pointer->ae,agg->ah,tuple->ai,bool->aj
open Go.IntKind renaming i64->U,wrap->ar
open Go.Ending renaming returned->ak
open _root_.ByteArray renaming mk->ao
open _root_.Go.Proofs.Tryz renaming prog->aq
open Go.Instr renaming buildSlice->au
open Go renaming World->av,Value->aw,Calls->az
open Go.Kt renaming Only->Q,SliceF->aA,Cells->aB,OnlyP->aD,Blk->aF
open Go Go.RowKit Go.Kt Go.Kt.V
abbrev N(c:Bool)(x y:Prop):Prop:=(c=aE->x)/\(c=aL->y)
abbrev cB(f:FuncId)(a:Array aw)(w:av)(K:Bool->av->Prop):Prop:=az aq f a w λe b=>∃x,e=ak (aj x)/\K x b
abbrev kF(s:List Nat)(f:FuncId)(a:Array aw)(w:av)(K:Bool->av->Prop):Prop:=az aq f a w λe b=>∃x,e=ak (aj x)/\cu s w b/\K x b
abbrev cI(f:FuncId)(a:Array aw)(w:av)(K:Int->av->Prop):Prop:=az aq f a w λe b=>∃x,e=ak (O U x)/\K x b
abbrev qe(s:List Nat)(f:FuncId)(a:Array aw)(w:av)(K:Int->av->Prop):Prop:=az aq f a w λe b=>∃x,e=ak (O U x)/\cu s w b/\K x b
abbrev cS(f:FuncId)(a:Array aw)(w:av)(K:aK->av->Prop):Prop:=az aq f a w λe b=>∃x,e=ak (X x)/\K x b
abbrev rA(s:List Nat)(f:FuncId)(a:Array aw)(w:av)(K:aK->av->Prop):Prop:=az aq f a w λe b=>∃x,e=ak (X x)/\cu s w b/\K x b
abbrev cL(f:FuncId)(a:Array aw)(w:av)(K:Sl->av->Prop):Prop:=az aq f a w λe b=>∃x,e=ak (x.v)/\K x b
abbrev xP(s:List Nat)(f:FuncId)(a:Array aw)(w:av)(K:Sl->av->Prop):Prop:=az aq f a w λe b=>∃x,e=ak (x.v)/\cu s w b/\K x b
abbrev cU(f:FuncId)(a:Array aw)(w:av)(K:av->Prop):Prop:=az aq f a w λe b=>e=ak (ai #[])/\K b
abbrev gj(s:List Nat)(f:FuncId)(a:Array aw)(w:av)(K:av->Prop):Prop:=az aq f a w λe b=>e=ak (ai #[])/\cu s w b/\K b
abbrev NE(x:Sem aw)(a:av)(K:Sl->av->Prop):Prop:=∃l w,x.run aq a=.ok (Sl.v l) w/\K l w
abbrev nx(k:Nat)(K:aJ):Prop:=∃n,n<k/\K n
abbrev nw(a:av)(K:Nat->av->Prop):Prop:=∀k w,a.heap.size<=k->k<w.heap.size->Q [] a w->K k w
abbrev lp0(w:av)(B:(Nat->av->Prop)->Nat->av->Prop):Prop:=∃J k,J k w/\∀k w,J k w->B J k w
abbrev mO{a:Type}(x:a)(w:av)(B:(Nat->a->av->Prop)->Nat->a->av->Prop):Prop:=∃J k,J k x w/\∀k x w,J k x w->B J k x w
abbrev Ju{a b:Type}(x:a)(y:b)(w:av)(B:(Nat->a->b->av->Prop)->Nat->a->b->av->Prop):Prop:=∃J k,J k x y w/\∀k x y w,J k x y w->B J k x y w
abbrev AO(a:av->Prop)(Y:(av->Prop)->Prop):Prop:=∃J,(∀w,J w->a w)/\Y J
abbrev oO{a:Type}(b:a->av->Prop)(Y:(a->av->Prop)->Prop):Prop:=∃J,(∀x w,J x w->b x w)/\Y J
abbrev jn2{a b:Type}(c:a->b->av->Prop)(Y:(a->b->av->Prop)->Prop):Prop:=∃J,(∀x y w,J x y w->c x y w)/\Y J
abbrev jn3{a b c:Type}(d:a->b->c->av->Prop)(Y:(a->b->c->av->Prop)->Prop):Prop:=∃J,(∀x y z w,J x y z w->d x y z w)/\Y J
abbrev xCB(w:av)(p:Addr)(K:Bool->Prop):Prop:=∃x,aB w p [aj x]/\K x
abbrev iB(w:av)(p:Addr)(K:Int->Prop):Prop:=∃x,aB w p [O U x]/\K x
abbrev SG(w:av)(p:Addr)(K:Int->Int->Int->aK->Int->Sl->Int->Prop):Prop:=∃x a b c d e f,aB w p [O U x,O U a,O U b,X c,O U d,e.v,O U f]/\K x a b c d e f
abbrev jC(w:av)(p:Addr)(K:Int->Int->aK->Int->Sl->Int->Prop):Prop:=∃x a b c d e,aB w p [O U x,O U a,X b,O U c,d.v,O U e]/\K x a b c d e
abbrev Cf(w:av)(p:Addr)(K:Int->aK->Int->Bool->Int->Int->aK->Int->Sl->Int->Sl->Sl->Int->Prop):Prop:=∃x a b c d e g h i j J f T,aB w p [O U x,X a,O U b,aj c,O U d,O U e,X g,O U h,i.v,O U j,J.v,f.v,O U T]/\K x a b c d e g h i j J f T
abbrev HN(w:av)(p:Addr)(K:Int->aK->Int->Int->Prop):Prop:=∃x a b c,aB w p [O U x,X a,O U b,O U c]/\K x a b c
abbrev KB(w:av)(p:Addr)(K:Int->aK->aK->aK->Sl->Sl->Sl->Sl->Int->Prop):Prop:=∃x a b c d e f g h,aB w p [O U x,X a,X b,X c,d.v,e.v,f.v,g.v,O U h]/\K x a b c d e f g h
abbrev kl(w:av)(p:Addr)(K:Sl->Prop):Prop:=∃x,aB w p [x.v]/\K x
abbrev SH(w:av)(p:Addr)(K:Option Nat->Prop):Prop:=∃x,aB w p [.map x]/\K x
abbrev xCQ(w:av)(p:Addr)(K:Option Addr->Prop):Prop:=∃x,aB w p [ae x]/\K x
abbrev Cg(w:av)(p:Addr)(K:aK->Prop):Prop:=∃x,aB w p [X x]/\K x
abbrev age(w:av)(b n:Nat)(K:Bool->Bool->Bool->Bool->Prop):Prop:=∃x a c d,aF w b n [aj x,aj a,aj c,aj d]/\K x a c d
abbrev xKI(w:av)(b n:Nat)(K:Int->Prop):Prop:=∃x,aF w b n [O U x]/\K x
abbrev alh(w:av)(b n:Nat)(K:Int->Int->Int->Prop):Prop:=∃x a c,aF w b n [O U x,O U a,O U c]/\K x a c
abbrev KC(w:av)(b n:Nat)(K:Int->aK->aK->aK->Sl->Sl->Sl->Sl->Int->Prop):Prop:=∃x a c d e f g h i,aF w b n [O U x,X a,X c,X d,e.v,f.v,g.v,h.v,O U i]/\K x a c d e f g h i
abbrev VS(w:av)(b n:Nat)(K:Sl->Prop):Prop:=∃x,aF w b n [x.v]/\K x
abbrev aaY(w:av)(b n:Nat)(K:Sl->Int->Int->Int->Int->Prop):Prop:=∃x a c d e,aF w b n [x.v,O U a,O U c,O U d,O U e]/\K x a c d e
abbrev jS(w:av)(b n:Nat)(K:Sl->Int->Int->Int->Int->Int->Int->Int->Int->Prop):Prop:=∃x a c d e f g h i,aF w b n [x.v,O U a,O U c,O U d,O U e,O U f,O U g,O U h,O U i]/\K x a c d e f g h i
abbrev KD(w:av)(b n:Nat)(K:Sl->Int->Int->Int->Int->Sl->Prop):Prop:=∃x a c d e f,aF w b n [x.v,O U a,O U c,O U d,O U e,f.v]/\K x a c d e f
abbrev qT(w:av)(b n:Nat)(K:Sl->Int->aK->aK->aK->Sl->Sl->Sl->Sl->Int->Prop):Prop:=∃x a c d e f g h i j,aF w b n [x.v,O U a,X c,X d,X e,f.v,g.v,h.v,i.v,O U j]/\K x a c d e f g h i j
abbrev qC(w:av)(b n:Nat)(K:Sl->Int->aK->aK->aK->Sl->Sl->Sl->Sl->Int->Sl->Int->Int->Prop):Prop:=∃x a c d e g h i j k J f T,aF w b n [x.v,O U a,X c,X d,X e,g.v,h.v,i.v,j.v,O U k,J.v,O U f,O U T]/\K x a c d e g h i j k J f T
abbrev agf(w:av)(b n:Nat)(K:Sl->Sl->Sl->Sl->Prop):Prop:=∃x a c d,aF w b n [x.v,a.v,c.v,d.v]/\K x a c d
abbrev HO(w:av)(b n:Nat)(K:Option Nat->Sl->Option Nat->Int->Int->Prop):Prop:=∃x a c d e,aF w b n [.map x,a.v,.map c,O U d,O U e]/\K x a c d e
abbrev xKQ(w:av)(b n:Nat)(K:Option Addr->Prop):Prop:=∃x,aF w b n [ae x]/\K x
abbrev pq(w:av)(b n:Nat)(K:Option Addr->Sl->Bool->Int->Prop):Prop:=∃x a c d,aF w b n [ae x,a.v,aj c,O U d]/\K x a c d
abbrev PF(w:av)(b n:Nat)(K:Option Addr->Sl->Sl->Prop):Prop:=∃x a c,aF w b n [ae x,a.v,c.v]/\K x a c
abbrev xKS(w:av)(b n:Nat)(K:aK->Prop):Prop:=∃x,aF w b n [X x]/\K x
abbrev agh(w:av)(b n:Nat)(K:aK->Int->Prop):Prop:=∃x a,aF w b n [X x,O U a]/\K x a
abbrev DK(w:av)(b n:Nat)(K:aK->Int->Sl->Sl->Prop):Prop:=∃x a c d,aF w b n [X x,O U a,c.v,d.v]/\K x a c d
abbrev Gc(s:Sl)(i:Int)(w:av)(K:Int->Prop):Prop:=∃p,cR s i 1 p/\∃x,aB w p [O U x]/\K x
abbrev Gf(s:Sl)(i:Int)(w:av)(K:Int->Int->Int->aK->Int->Sl->Int->Prop):Prop:=∃p,cR s i 7 p/\∃x a b c d e f,aB w p [O U x,O U a,O U b,X c,O U d,e.v,O U f]/\K x a b c d e f
abbrev jT(s:Sl)(i:Int)(w:av)(K:Int->Int->aK->Int->Sl->Int->Prop):Prop:=∃p,cR s i 6 p/\∃x a b c d e,aB w p [O U x,O U a,X b,O U c,d.v,O U e]/\K x a b c d e
abbrev asA(s:Sl)(i:Int)(w:av)(K:Int->Sl->Prop):Prop:=∃p,cR s i 2 p/\∃x a,aB w p [O U x,a.v]/\K x a
abbrev gF(s:Sl)(k:Int)(w:av)(K:Int->aK->Int->Bool->Int->Int->aK->Int->Sl->Int->Sl->Sl->Int->Prop):Prop:=∃p,cR s k 13 p/\∃x a b c d e g h i j J f T,aB w p [O U x,X a,O U b,aj c,O U d,O U e,X g,O U h,i.v,O U j,J.v,f.v,O U T]/\K x a b c d e g h i j J f T
abbrev VT(s:Sl)(i:Int)(w:av)(K:Int->aK->Int->Int->Prop):Prop:=∃p,cR s i 4 p/\∃x a b c,aB w p [O U x,X a,O U b,O U c]/\K x a b c
abbrev CI(s:Sl)(i:Int)(w:av)(K:Int->aK->Int->Int->Int->Prop):Prop:=∃p,cR s i 5 p/\∃x a b c d,aB w p [O U x,X a,O U b,O U c,O U d]/\K x a b c d
abbrev sM(s:Sl)(i:Int)(w:av)(K:Int->aK->Int->Int->aK->Int->Sl->Int->Int->Prop):Prop:=∃p,cR s i 9 p/\∃x a b c d e f g h,aB w p [O U x,X a,O U b,O U c,X d,O U e,f.v,O U g,O U h]/\K x a b c d e f g h
abbrev fm(s:Sl)(i:Int)(w:av)(K:Int->aK->aK->aK->Sl->Sl->Sl->Sl->Int->Prop):Prop:=∃p,cR s i 9 p/\∃x a b c d e f g h,aB w p [O U x,X a,X b,X c,d.v,e.v,f.v,g.v,O U h]/\K x a b c d e f g h
abbrev xYL(s:Sl)(i:Int)(w:av)(K:Sl->Prop):Prop:=∃p,cR s i 1 p/\∃x,aB w p [x.v]/\K x
abbrev FA(s:Sl)(i:Int)(w:av)(K:aK->Prop):Prop:=∃p,cR s i 1 p/\∃x,aB w p [X x]/\K x
abbrev adL(s:Sl)(i:Int)(w:av)(K:aK->Int->Int->Prop):Prop:=∃p,cR s i 3 p/\∃x a b,aB w p [X x,O U a,O U b]/\K x a b
abbrev pA(a:Addr):aw:=ae (aM a)
abbrev pB(k:Nat):aw:=ae (aM ⟨k,0,aaa⟩)
abbrev vW(a:av)(K:Nat->Nat->av->Prop):Prop:=∀k l w,a.heap.size<=k->k<w.heap.size->a.heap.size<=l->l<w.heap.size->Q [] a w->K k l w
abbrev nw3(a:av)(K:Nat->Nat->Nat->av->Prop):Prop:=∀k l m w,a.heap.size<=k->k<w.heap.size->a.heap.size<=l->l<w.heap.size->a.heap.size<=m->m<w.heap.size->Q [] a w->K k l m w
abbrev o0(a:av)(K:av->Prop):Prop:=∀w,Q [] a w->K w
abbrev rV(f:FuncId)(a:Array aw)(w:av)(K:OV->av->Prop):Prop:=az aq f a w λe b=>∃(x:OV),e=ak (x.v)/\K x b
abbrev A6(f:FuncId)(a:Array aw)(w:av)(K:Int->aK->Int->Bool->Int->Int->aK->Int->Sl->Int->Sl->Sl->Int->av->Prop):Prop:=az aq f a w λe n=>∃(x:Int) (c:aK) (d:Int) (g:Bool) (h:Int) (i:Int) (j:aK) (k:Int) (l:Sl) (m:Int) (J:Sl) (b:Sl) (T:Int),e=ak (ah #[O U x,X c,O U d,aj g,O U h,O U i,X j,O U k,l.v,O U m,J.v,b.v,O U T])/\K x c d g h i j k l m J b T n
abbrev HP(f:FuncId)(a:Array aw)(w:av)(K:Int->aK->Int->Int->aK->Int->Sl->Int->Int->av->Prop):Prop:=az aq f a w λe l=>∃(x:Int) (b:aK) (c:Int) (d:Int) (g:aK) (h:Int) (i:Sl) (j:Int) (k:Int),e=ak (ah #[O U x,X b,O U c,O U d,X g,O U h,i.v,O U j,O U k])/\K x b c d g h i j k l
abbrev zI(f:FuncId)(a:Array aw)(w:av)(K:Int->aK->Int->Int->av->Prop):Prop:=az aq f a w λe g=>∃(x:Int) (b:aK) (c:Int) (d:Int),e=ak (ah #[O U x,X b,O U c,O U d])/\K x b c d g
abbrev ali(f:FuncId)(a:Array aw)(w:av)(K:Int->av->Prop):Prop:=az aq f a w λe b=>∃(x:Int),e=ak (.int .u64 x)/\K x b
abbrev xQ(f:FuncId)(a:Array aw)(w:av)(K:Sl->Int->aK->aK->aK->Sl->Sl->Sl->Sl->Int->Int->Int->av->Prop):Prop:=az aq f a w λe n=>∃(x:Sl) (c:Int) (d:aK) (g:aK) (h:aK) (i:Sl) (j:Sl) (k:Sl) (l:Sl) (m:Int) (J:Int) (b:Int),e=ak (ai #[ah #[x.v,O U c,X d,X g,X h,i.v,j.v,k.v,l.v,O U m],ah #[O U J,O U b]])/\K x c d g h i j k l m J b n
abbrev adM(f:FuncId)(a:Array aw)(w:av)(K:Int->OV->av->Prop):Prop:=az aq f a w λe c=>∃(x:Int) (b:OV),e=ak (ai #[O U x,b.v])/\K x b c
abbrev agi(f:FuncId)(a:Array aw)(w:av)(K:Int->Int->Int->av->Prop):Prop:=az aq f a w λe d=>∃(x:Int) (b:Int) (c:Int),e=ak (ai #[O U x,O U b,O U c])/\K x b c d
abbrev VU(f:FuncId)(a:Array aw)(w:av)(K:aK->aK->Bool->av->Prop):Prop:=az aq f a w λe d=>∃(x:aK) (b:aK) (c:Bool),e=ak (ai #[X x,X b,aj c])/\K x b c d
abbrev rVs(s:List Nat)(f:FuncId)(a:Array aw)(w:av)(K:OV->av->Prop):Prop:=az aq f a w λe b=>∃(x:OV),e=ak (x.v)/\cu s w b/\K x b
abbrev DL(s:List Nat)(f:FuncId)(a:Array aw)(w:av)(K:Sl->Int->aK->aK->aK->Sl->Sl->Sl->Sl->Int->av->Prop):Prop:=az aq f a w λe b=>∃(x:Sl) (c:Int) (d:aK) (g:aK) (h:aK) (i:Sl) (j:Sl) (k:Sl) (l:Sl) (m:Int),e=ak (ah #[x.v,O U c,X d,X g,X h,i.v,j.v,k.v,l.v,O U m])/\cu s w b/\K x c d g h i j k l m b
abbrev ga(s:List Nat)(f:FuncId)(a:Array aw)(w:av)(K:Int->Int->aK->Int->Sl->Int->av->Prop):Prop:=az aq f a w λe b=>∃(x:Int) (c:Int) (d:aK) (g:Int) (h:Sl) (i:Int),e=ak (ah #[O U x,O U c,X d,O U g,h.v,O U i])/\cu s w b/\K x c d g h i b
abbrev NF(s:List Nat)(f:FuncId)(a:Array aw)(w:av)(K:Int->Int->av->Prop):Prop:=az aq f a w λe b=>∃(x:Int) (c:Int),e=ak (ah #[O U x,O U c])/\cu s w b/\K x c b
abbrev wl(s:List Nat)(f:FuncId)(a:Array aw)(w:av)(K:Int->aK->Int->Int->av->Prop):Prop:=az aq f a w λe b=>∃(x:Int) (c:aK) (d:Int) (g:Int),e=ak (ah #[O U x,X c,O U d,O U g])/\cu s w b/\K x c d g b
abbrev pU(s:List Nat)(f:FuncId)(a:Array aw)(w:av)(K:Int->aK->aK->aK->Sl->Sl->Sl->Sl->Int->av->Prop):Prop:=az aq f a w λe b=>∃(x:Int) (c:aK) (d:aK) (g:aK) (h:Sl) (i:Sl) (j:Sl) (k:Sl) (l:Int),e=ak (ah #[O U x,X c,X d,X g,h.v,i.v,j.v,k.v,O U l])/\cu s w b/\K x c d g h i j k l b
abbrev aaZ(s:List Nat)(f:FuncId)(a:Array aw)(w:av)(K:aK->Int->Int->av->Prop):Prop:=az aq f a w λe b=>∃(x:aK) (c:Int) (d:Int),e=ak (ah #[X x,O U c,O U d])/\cu s w b/\K x c d b
abbrev rMs(s:List Nat)(f:FuncId)(a:Array aw)(w:av)(K:Option Nat->av->Prop):Prop:=az aq f a w λe b=>∃(x:Option Nat),e=ak (.map x)/\cu s w b/\K x b
abbrev rQs(s:List Nat)(f:FuncId)(a:Array aw)(w:av)(K:Option Addr->av->Prop):Prop:=az aq f a w λe b=>∃(x:Option Addr),e=ak (ae x)/\cu s w b/\K x b
abbrev A7(s:List Nat)(f:FuncId)(a:Array aw)(w:av)(K:Sl->Int->Int->av->Prop):Prop:=az aq f a w λe b=>∃(x:Sl) (c:Int) (d:Int),e=ak (ai #[x.v,ah #[O U c,O U d]])/\cu s w b/\K x c d b
abbrev NG(s:List Nat)(f:FuncId)(a:Array aw)(w:av)(K:Sl->Int->av->Prop):Prop:=az aq f a w λe b=>∃(x:Sl) (c:Int),e=ak (ai #[x.v,O U c])/\cu s w b/\K x c b
abbrev oq(s:List Nat)(f:FuncId)(a:Array aw)(w:av)(K:Sl->Sl->Sl->Sl->Int->Int->av->Prop):Prop:=az aq f a w λe b=>∃(x:Sl) (c:Sl) (d:Sl) (g:Sl) (h:Int) (i:Int),e=ak (ai #[ah #[x.v,c.v,d.v,g.v],ah #[O U h,O U i]])/\cu s w b/\K x c d g h i b
abbrev qf(s:List Nat)(f:FuncId)(a:Array aw)(w:av)(K:Sl->Int->aK->aK->aK->Sl->Sl->Sl->Sl->Int->Int->Int->av->Prop):Prop:=az aq f a w λe c=>∃(x:Sl) (d:Int) (g:aK) (h:aK) (i:aK) (j:Sl) (k:Sl) (l:Sl) (m:Sl) (n:Int) (J:Int) (b:Int),e=ak (ai #[ah #[x.v,O U d,X g,X h,X i,j.v,k.v,l.v,m.v,O U n],ah #[O U J,O U b]])/\cu s w c/\K x d g h i j k l m n J b c
abbrev DM(s:List Nat)(f:FuncId)(a:Array aw)(w:av)(K:Int->Int->Int->aK->Int->Sl->Int->Bool->av->Prop):Prop:=az aq f a w λe b=>∃(x:Int) (c:Int) (d:Int) (g:aK) (h:Int) (i:Sl) (j:Int) (k:Bool),e=ak (ai #[ah #[O U x,O U c,O U d,X g,O U h,i.v,O U j],aj k])/\cu s w b/\K x c d g h i j k b
abbrev tR(s:List Nat)(f:FuncId)(a:Array aw)(w:av)(K:Int->Int->aK->Int->Sl->Int->Int->Int->av->Prop):Prop:=az aq f a w λe b=>∃(x:Int) (c:Int) (d:aK) (g:Int) (h:Sl) (i:Int) (j:Int) (k:Int),e=ak (ai #[ah #[O U x,O U c,X d,O U g,h.v,O U i],ah #[O U j,O U k]])/\cu s w b/\K x c d g h i j k b
abbrev ot(s:List Nat)(f:FuncId)(a:Array aw)(w:av)(K:Int->Int->aK->Int->Sl->Int->Int->Int->Int->av->Prop):Prop:=az aq f a w λe b=>∃(x:Int) (c:Int) (d:aK) (g:Int) (h:Sl) (i:Int) (j:Int) (k:Int) (l:Int),e=ak (ai #[ah #[O U x,O U c,X d,O U g,h.v,O U i],O U j,ah #[O U k,O U l]])/\cu s w b/\K x c d g h i j k l b
abbrev HQ(s:List Nat)(f:FuncId)(a:Array aw)(w:av)(K:Int->aK->Int->Int->Int->Int->av->Prop):Prop:=az aq f a w λe b=>∃(x:Int) (c:aK) (d:Int) (g:Int) (h:Int) (i:Int),e=ak (ai #[ah #[O U x,X c,O U d,O U g],O U h,O U i])/\cu s w b/\K x c d g h i b
abbrev tt(s:List Nat)(f:FuncId)(a:Array aw)(w:av)(K:Int->OV->av->Prop):Prop:=az aq f a w λe b=>∃(x:Int) (c:OV),e=ak (ai #[O U x,c.v])/\cu s w b/\K x c b
abbrev aa0(s:List Nat)(f:FuncId)(a:Array aw)(w:av)(K:Int->Int->Int->av->Prop):Prop:=az aq f a w λe b=>∃(x:Int) (c:Int) (d:Int),e=ak (ai #[O U x,O U c,O U d])/\cu s w b/\K x c d b
abbrev VV(s:List Nat)(f:FuncId)(a:Array aw)(w:av)(K:Int->Int->av->Prop):Prop:=az aq f a w λe b=>∃(x:Int) (c:Int),e=ak (ai #[O U x,O U c])/\cu s w b/\K x c b
abbrev VW(s:List Nat)(f:FuncId)(a:Array aw)(w:av)(K:aK->Bool->av->Prop):Prop:=az aq f a w λe b=>∃(x:aK) (c:Bool),e=ak (ai #[X x,aj c])/\cu s w b/\K x c b
abbrev VX(s:List Nat)(f:FuncId)(a:Array aw)(w:av)(K:aK->Int->av->Prop):Prop:=az aq f a w λe b=>∃(x:aK) (c:Int),e=ak (ai #[X x,O U c])/\cu s w b/\K x c b
abbrev xR(x:Int)(a:Int):aw:=ah #[O U x,O U a]
abbrev zJ(x:Int)(a:Int)(b:Int)(c:aK)(d:Int)(e:Sl)(f:Int):aw:=ah #[O U x,O U a,O U b,X c,O U d,e.v,O U f]
abbrev bO(x:Int)(a:Int)(b:aK)(c:Int)(d:Sl)(e:Int):aw:=ah #[O U x,O U a,X b,O U c,d.v,O U e]
abbrev fi(x:Int)(a:aK)(b:Int)(c:Bool)(d:Int)(e:Int)(g:aK)(h:Int)(i:Sl)(j:Int)(J:Sl)(f:Sl)(T:Int):aw:=ah #[O U x,X a,O U b,aj c,O U d,O U e,X g,O U h,i.v,O U j,J.v,f.v,O U T]
abbrev nW(x:Int)(a:aK)(b:Int)(c:Int):aw:=ah #[O U x,X a,O U b,O U c]
abbrev DN(x:Int)(a:aK)(b:Int)(c:Int)(d:Int):aw:=ah #[O U x,X a,O U b,O U c,O U d]
abbrev lc(x:Int)(a:aK)(b:Int)(c:Int)(d:aK)(e:Int)(f:Sl)(g:Int)(h:Int):aw:=ah #[O U x,X a,O U b,O U c,X d,O U e,f.v,O U g,O U h]
abbrev ck(x:Int)(a:aK)(b:aK)(c:aK)(d:Sl)(e:Sl)(f:Sl)(g:Sl)(h:Int):aw:=ah #[O U x,X a,X b,X c,d.v,e.v,f.v,g.v,O U h]
abbrev cP(x:Sl)(a:Int)(b:aK)(c:aK)(d:aK)(e:Sl)(f:Sl)(g:Sl)(h:Sl)(i:Int):aw:=ah #[x.v,O U a,X b,X c,X d,e.v,f.v,g.v,h.v,O U i]
abbrev qg(x:Sl)(a:Sl)(b:Sl)(c:Sl):aw:=ah #[x.v,a.v,b.v,c.v]
abbrev alj(x:aK)(a:Int)(b:Int):aw:=ah #[X x,O U a,O U b]
abbrev sT(a:Addr)(w:av)(n:Nat)(K:Nat->Nat->aI->Nat->Prop):Prop:=∃b i z t,a=⟨b,i,aaa⟩/\aF w b t z/\i+n<=I z/\K b i z t
abbrev sS(a:av)(b i:Nat)(z:aI)(t:Nat)(v:aI)(K:av->Prop):Prop:=∀w,Q [b] a w->aF w b t (fE z i v)->K w
abbrev lW(t:TypeId)(v:aw)(w:av)(K:Sl->av->Prop):Prop:=NE (au t 1 #[.mk 0 v]) w K
abbrev NH(t:TypeId)(v a:aw)(w:av)(K:Sl->av->Prop):Prop:=NE (au t 2 #[.mk 0 v,.mk 1 a]) w K
abbrev rb3(t:TypeId)(v a b:aw)(w:av)(K:Sl->av->Prop):Prop:=NE (au t 3 #[.mk 0 v,.mk 1 a,.mk 2 b]) w K
abbrev rb4(t:TypeId)(v a b c:aw)(w:av)(K:Sl->av->Prop):Prop:=NE (au t 4 #[.mk 0 v,.mk 1 a,.mk 2 b,.mk 3 c]) w K
abbrev uB(t:TypeId)(l m:Sl)(w:av)(K:Sl->av->Prop):Prop:=NE (Builtin.append_ #[t,t] t #[l.v,m.v]) w K
end Go.Proofs.YtfemabakfkliiaaGreatDoor.Vc
