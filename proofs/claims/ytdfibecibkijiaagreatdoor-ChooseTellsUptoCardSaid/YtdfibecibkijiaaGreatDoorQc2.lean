import Derived.Test.YtdfibecibkijiaaGreatDoorQc1
import Derived.Shelf.Strings.Builder1
import Derived.Shelf.Strings.Builder2
import Derived.Shelf.Strings.OnBuilder
import Derived.Shelf.Small.Bits
import Derived.Shelf.Strings.BuilderF
import Derived.Shelf.Strconv.Itoa0
import Derived.Shelf.Strconv.Itoa1
import Derived.Shelf.LaysM
import Derived.Shelf.Strconv.Itoa2
import Derived.Shelf.Strconv.Itoa3
import Derived.Shelf.Strconv.ParseIntEmpty
import Derived.Shelf.Strconv.Clone
import Derived.Shelf.Strconv.SyntaxError
import Derived.Shelf.LaysC
import Derived.Shelf.Strconv.ToError
import Derived.Shelf.Strconv.Lower
import Derived.Shelf.Strconv.ParseUint10
import Derived.Shelf.Strconv.ParseUint10Empty
import Derived.Shelf.Strconv.ParseUint10Any
import Derived.Shelf.Strconv.ParseInt10
import Derived.Shelf.Strconv.RangeError
import Derived.Shelf.Strconv.ToErrorRange
import Derived.Shelf.Strconv.ParseUintEmpty
import Derived.Shelf.Strconv.ParseUint10b64
import Derived.Shelf.Strconv.ParseUint10b32
import Derived.Shelf.Strconv.ParseUint10b16
import Derived.Shelf.Strconv.ParseUint10b8
import Derived.Shelf.Strconv.ParseUint10At
import Derived.Shelf.Strconv.ParseInt10At64
import Derived.Shelf.Strconv.ParseInt10At32
import Derived.Shelf.Strconv.ParseInt10At16
import Derived.Shelf.Strconv.ParseInt10At8
import Derived.Shelf.Strconv.ParseInt10All
import Derived.Shelf.Strconv.ParseIntPublic10
import Derived.Shelf.Strconv.ErrVarParseInt
import Derived.Shelf.Strings.Search1
import Derived.Shelf.Strings.Search2
import Derived.Shelf.Strings.Cut
import Derived.Shelf.Strings.Shaped
import Derived.Shelf.Sort.Plain
import Derived.Shelf.Strings.Prefix
import Derived.Shelf.Bits.Mul64
import Derived.Shelf.Strings.Repeat
import Derived.Shelf.Slices.Clone
import Derived.Shelf.Slices.CompactI
import Derived.Shelf.Slices.SearchI
import Derived.Shelf.Slices.Cells
import Derived.Shelf.Slices.In.SortNone
import Derived.Shelf.SlicesE.Clone
import Derived.Shelf.SlicesG.Cmp
set_option linter.constructorNameAsVariable false
set_option linter.defProp false
set_option linter.unusedSectionVars false
set_option linter.unusedSimpArgs false
set_option linter.unusedVariables false
set_option maxRecDepth 100000
set_option maxHeartbeats 40000000
open Bool renaming true->aF,false->aM
open Option renaming some->aN,none->Pw
open List renaming length->qj
open Decidable renaming decide->YR
namespace Go.Kt.V
open Go renaming World->aw,Value->ay
open Go Go.RowKit Go.Kt
def xN:∀l m i,eW (l++m) i=match eW l i with
  | some p=>aN p
  | none=>eW m i
 | [],_,_=>rfl
 | (k,p)::r,m,i=>by
  simp[eW];cases Nat.beq k i
  .exact xN r m i
  rfl
def Dj{fr}:∀{kp:L Nat} {i:Nat} {p:Nat×SV},eW (Y3 fr kp) i=aN p->i∈kp/\eW fr i=aN p
 | j::r,i,p,h=>by
  unfold Y3 at h;split at h
  .rename_i q a;simp[eW]at h;cases b:Nat.beq j i
   .rw[b]at h;obtain⟨c,d⟩:=Dj U3;simp_all
   simp_all
  obtain _:=Dj h;simp_all
def ag7{fr}{p}:∀{kp:L Nat} {i:Nat},i∈kp->eW fr i=aN p->eW (Y3 fr kp) i=aN p
 | j::r,i,a,h=>by
  unfold Y3;cases b:Nat.beq j i
  .have F:i∈r:=by
    rcases bh.1 a with e | e<;>simp_all
   have c:=ag7 (p:=p) F h;split
   .simp[eW,b];exact c
   exact c
  have:=dh b;subst this;rw[h];simp[eW]
def xO{ct}:∀{m:L MI} {s:L SV} {i:Nat},(Ww m).elem i=aM->eW (OM ct m s) i=Pw
 | [],s,i,_=>rfl
 | .s j l::r,[],i,_=>rfl
 | .s j l::r,v::s,i,h=>by
  simp only[Ww,yK]at h;split at h
  .cases h
  rename_i g;simp[OM,eW];have:Nat.beq j i=aM:=by
   cases b:Nat.beq j i<;>simp_all
  rw[this];exact xO h
 | .a j l::r,s,i,h=>by
  simp only[Ww,yK]at h;split at h
  .cases h
  rename_i g;simp[OM,eW];have:Nat.beq j i=aM:=by
   cases b:Nat.beq j i<;>simp_all
  rw[this];exact xO h
 | .b j l::r,s,i,h=>by
  simp[OM];exact xO h
def xP{ct}:∀{m:L MI} {s:L SV} {i:Nat} {p:Nat×SV},eW (OM ct m s) i=aN p->p.1=ct
 | [],s,i,p,h=>by cases s<;>cases h
 | .s j l::r,[],i,p,h=>Ue
 | .s j l::r,v::s,i,p,h=>by
  simp[OM,eW]at h;cases b:Nat.beq j i
  .rw[b]at h;exact xP U3
  rw[b]at h;simp at h;subst h;rfl
 | .a j l::r,s,i,p,h=>by
  simp[OM,eW]at h;cases b:Nat.beq j i
  .rw[b]at h;exact xP U3
  rw[b]at h;simp at h;subst h;rfl
 | .b j l::r,s,i,p,h=>by
  simp[OM]at h;exact xP h
def kF{st}:∀m d x i b,dv x i=aN b->∃a,dv (OO st m d x) i=aN a/\a.ty=b.ty/\a.ok=b.ok/\a.blk=b.blk/\((WT st m).elem i=aM->a=b)/\(a=b∨a.stp=st.ct)
 | [],d,x,i,b,h=>⟨b,by cases d<;>exact h,I,I,I,λ_=>I,.inl I⟩
 | .s j l::r,[],x,i,b,h=>⟨b,h,I,I,I,λ_=>I,.inl I⟩
 | .s j l::r,v::d,x,i,b,h=>kF r d x i b h
 | .a j l::r,d,x,i,b,h=>kF r _ x i b h
 | .b s l::r,d,x,i,b,h=>by
  simp only[OO,WT];rcases hj:OY st s with _|j
  .exact kF r _ x i b h
  dsimp only;rcases hc:dv x j with _|c
  .obtain⟨a,c,e,f,g,k,n⟩:=kF (st:=st) r _ x i b h;refine⟨a,c,e,f,g,λo=>k ?_,n⟩
   grind
  by_cases y:i=j
  .subst y;rw[hc]at h;injection h with h;subst h;obtain⟨a,b,c,e,f,k,n⟩:=kF (st:=st) r _ _ i _ (by rw[lC hc,K I]);refine⟨a,b,c,e,f,λg=>?_,?_⟩
   .simp at g
   grind
  obtain⟨a,e,f,g,k,n,o⟩:=kF (st:=st) r _ (TZ x j {c with cells:=d.take (qj l),stp:=st.ct}) i b (by rw[lC hc,R y];exact h);refine⟨a,e,f,g,k,λp=>n ?_,o⟩
  grind
def rK{st}:∀m a b i,dv b i=Pw->dv (OO st m a b) i=Pw
 | [],a,b,i,h=>by cases a<;>exact h
 | .s j l::r,[],b,i,h=>h
 | .s j l::r,v::a,b,i,h=>rK r a b i h
 | .a j l::r,a,b,i,h=>rK r _ b i h
 | .b s l::r,a,b,i,h=>by
  simp[OO];rcases hj:OY st s with _|j
  .exact rK r _ b i h
  dsimp only;rcases hc:dv b j with _|c
  .exact rK r _ b i h
  refine rK r _ _ i ?_;rw[lC hc,R]
  .exact h
  rintro rfl;rw[h]at hc;cases hc
def Ext.ZI{st}{kp}{ms}{vs}{w}:Ext st (pf st kp ms vs w):=by
 refine⟨I,kB _,λi k v l W=>?_,λi a h o s=>?_,λi b h=>?_,Kr⟩
 .simp[pf]at l;rw[xN]at l;split at l
  .rename_i p b;have:=xP b;simp_all
  exact(Dj l).2
 .simp[pf]at h;rcases hn:dv st.bx i with _|b
  .rw[rK _ _ _ _ hn]at h;cases h
  obtain⟨c,d,e,f,g,j,k⟩:=kF (st:=st) ms vs st.bx i b hn
  grind
 obtain⟨c,d,e,f,g,_⟩:=kF (st:=st) ms vs st.bx i b h;exact⟨c,d,e,f,λk hk=>by rw[g];exact hk⟩
def wC(st:St)(kp:L Nat)(m:L MI)(s:St):Prop:=Ext st s∨∃v w,Ext (pf st kp m v w) s
section
variable {st s:St} {kp:L Nat} {ms:L MI} {β:Nat->Nat} {a:Act} {w:aw}
def wC.n(h:wC st kp ms s):s.n=st.n:=by
 rcases h with h | ⟨v,w,h⟩
 .exact h.n
 exact h.n
def wC.df(h:wC st kp ms s):∃l,s.df=l++st.df:=by
 rcases h with h | ⟨v,w,h⟩
 .exact h.df
 exact h.df
def wC.slot(h:wC st kp ms s){i k}{v v'}(c:i∈kp)(b:eW st.fr i=aN (k,v))(a:eW s.fr i=aN (k,v'))(hk:k<st.ct)(d:(Ww ms).elem i=aM):v'=v:=by
 rcases h with h | ⟨e,w,h⟩
 .have:=h.fr i k v' a hk
  grind
 have:=h.fr i k v' a (Nat.lt_succ_of_lt hk);simp[pf]at this;rw[xN,xO d]at this;rw[ag7 c b]at this;simp_all
def wC.ps(h:wC st kp ms s){i}{b}(a:dv st.bx i=aN b):∃c,dv s.bx i=aN c/\c.ty=b.ty/\c.ok=b.ok/\∀k,b.blk=aN k->c.blk=aN k:=by
 rcases h with h | ⟨v,w,h⟩
 .exact h.ps i b a
 obtain⟨d,e,f,g,j,_⟩:=kF (st:=st) ms v st.bx i b a;obtain⟨c,k,l,k3,m⟩:=h.ps i d e
 grind
def wC.cells(h:wC st kp ms s){i}{b c}(d:dv st.bx i=aN b)(a:dv s.bx i=aN c)(o:b.ok=aF)(l:(WT st ms).elem i=aM)(e:c.stp<st.ct):c.cells=b.cells:=by
 rcases h with h | ⟨v,w,h⟩
 .obtain⟨g,k,j,k3,m⟩:=h.ps i b d;rw[a]at k;injection k with k;subst k;obtain⟨f,n,p,q,_⟩:=h.bx i c a (k3.trans o) e
  grind
 obtain⟨g,f,q,j,r,s,_⟩:=kF (st:=st) ms v st.bx i b d;obtain⟨p,k,t,k3,u⟩:=h.ps i g f;rw[a]at k;injection k with k;subst k;obtain⟨n,m,x,y,z,A,B⟩:=h.bx i c a (k3.trans (j.trans o)) (Nat.lt_succ_of_lt e);rw[show dv (pf st kp ms v w).bx i=dv (OO st ms v st.bx) i from rfl,f]at m
 grind
def aiB{sl}:∀{kp:L Nat},Rb st s sl kp=aF->∀i∈kp,∀k v,eW st.fr i=aN (k,v)->∃a,eW s.fr i=aN (k,a)/\k<st.ct/\sl.elem i=aM/\cln (Li st.bx) v=aF
 | j::r,h,i,b,k,v,l=>by
  simp only[Rb,B]at h;rcases bh.1 b with rfl | b
  .have c:=h.1;rw[l]at c;dsimp only at c;split at c<;>simp_all
  exact aiB h.2 i b k v l
def IA{lst}:∀{l m:L mT} {n:Nat},T6 st lst n l m=aF->∀i b,dv l i=aN b->b.ok=aF->b.blk.isSome=aF/\(lst.elem (n+i)=aF∨∃c,dv m i=aN c/\c.stp<st.ct/\jS (Li st.bx) b.cells=aF)
 | b::r,[],n,h,_,_,_,_=>by simp[T6]at h
 | b::r,c::q,n,a,0,f,e,o=>by
  simp only[T6,B,cy]at a;simp[dv]at e;subst e;rcases a.1 with d | ⟨d,h⟩
  .simp_all
  refine⟨d,?_⟩;rcases h with h | h
  .exact .inl h
  exact .inr ⟨c,I,dz h.1,h.2⟩
 | b::r,c::q,n,h,i+1,a,d,o=>by
  simp[T6]at h;have:=IA h.2 i a d o;rwa[show n+1+i=n+(i+1) by omega]at this
def Rep.at(R:Rep β s a w){i}{v}(h:s.get i=aN v):i<s.n/\a.tmps[i]? =aN (V.val β v):=by
 unfold St.get at h;cases b:Nat.blt i s.n
 .rw[b]at h;cases h
 rw[b]at h;rcases hl:eW s.fr i with _|p
 .rw[hl]at h;cases h
 rw[hl]at h;simp at h;subst h;exact⟨dz b,R.ok.at_ i p hl (dz b)⟩
def wM{g}:∀{l m:L SV},jS g (l++m)=aF->jS g l=aF/\jS g m=aF
 | [],m,h=>⟨I,h⟩
 | s::r,m,h=>by
  simp[jS]at h⊢;obtain _:=wM h.2;simp_all
def vq{γ b}{vs l m}{n}(v:V.cT γ vs=V.cT b l++V.cT b m)(h:qj l=n):V.cT γ (vs.take n)=V.cT b l/\V.cT γ (vs.drop n)=V.cT b m:=by
 have a:(V.cT γ vs).take n=V.cT γ (vs.take n):=by simp[V.cT]
 have c:(V.cT γ vs).drop n=V.cT γ (vs.drop n):=by simp[V.cT]
 have d:qj (V.cT b l)=n:=by rw[gM,h]
 grind
def IB(R:Rep β s a w){ct}{γ}:∀{ms:L MI} {c d:L SV},uf st s ms=aN c->jS (Li s.bx) c=aF->V.cT γ d=V.cT (N0 s.bx) c->∀i p,eW (OM ct ms d) i=aN p->a.tmps[i]? =aN (V.val γ p.2)
 | [],c,d,_,_,_,i,p,h=>by cases d<;>cases h
 | .s j l::r,c,[],_,_,_,i,p,h=>Ue
 | .s j l::r,c,v::d,a,b,e,i,p,h=>by
  simp[uf]at a;split at a
  .rename_i v m g k;simp at a;subst a;simp[jS]at b;simp[V.cT]at e;simp[OM,eW]at h;cases f:Nat.beq j i
   .rw[f]at h;exact IB R k b.2 e.2 i p U3
   rw[f]at h;simp at h;subst h;have:=dh f;subst this;rw[(R.at g).2,e.1,R.ap9 b.1]
  cases a
 | .a j l::r,c,d,a,b,v,i,p,h=>by
  simp[uf]at a;split at a
  .rename_i s t o q;obtain⟨e,rfl⟩:=Ij a;simp only[B]at e;obtain⟨g,k⟩:=wM b;rw[og]at v;obtain⟨m,n⟩:=vq v (dh e.2);simp[OM,eW]at h;cases f:Nat.beq j i
   .rw[f]at h;exact IB R q k n i p U3
   rw[f]at h;simp at h;subst h;have:=dh f;subst this;rw[(R.at o).2];show aN (Value.agg (ua β s).toArray)=aN (Value.agg (ua γ _).toArray);rw[vh,m,pT β e.1,R.xy g]
  cases a
 | .b j l::r,c,d,a,e,v,i,p,h=>by
  simp[uf]at a;split at a
  .split at a
   .rename_i b s q k;obtain⟨m,rfl⟩:=Ij a;obtain⟨n,f⟩:=wM e;rw[og]at v;obtain⟨o,g⟩:=vq v (dh m);exact IB R k f g i p h
   cases a
  cases a
def En(R:Rep β s a w){γ}(N:∀i b,dv st.bx i=aN b->∃c,dv s.bx i=aN c/\c.ty=b.ty/\c.ok=b.ok)(h:∀i b,dv st.bx i=aN b->b.ok=aF->γ i=β i):∀{ms:L MI} {f g:L SV} {bx:L mT},uf st s ms=aN f->jS (Li s.bx) f=aF->V.cT γ g=V.cT (N0 s.bx) f->
  (∀j d,dv bx j=aN d->∃b,dv st.bx j=aN b/\d.ty=b.ty/\d.ok=b.ok)->(∀j d,dv bx j=aN d->d.ok=aF->Blk w (γ j) d.ty (V.cT γ d.cells)∨(WT st ms).elem j=aF)->
  ∀j d,dv (OO st ms g bx) j=aN d->d.ok=aF->Blk w (γ j) d.ty (V.cT γ d.cells)
 | [],f,g,bx,_,_,_,_,c,j,d,b,o=>by
  have:OO st [] g bx=bx:=I;rcases c j d b o with a | a
  .exact a
  cases a
 | .s k m::r,f,[],bx,a,e,v,b,l,j,d,c,o=>by
  simp[uf]at a;split at a
  .simp at a;subst a;simp[V.cT]at v
  cases a
 | .s k n::r,f,v::g,bx,a,c,b,e,m,j,d,l,o=>by
  simp[uf]at a;split at a
  .rename_i v q p k;simp at a;subst a;simp[jS,B]at c;simp[V.cT,cf,DV]at b;exact En R N h k c.2 b.2 e m j d l o
  cases a
 | .a k s::r,f,g,bx,a,e,v,b,l,j,d,c,o=>by
  simp[uf]at a;split at a
  .rename_i x y w q;obtain⟨k,rfl⟩:=Ij a;simp only[B]at k;have p:=dh k.2;obtain⟨t,m⟩:=wM e;rw[og]at v;obtain⟨u,n⟩:=vq v p;exact En R N h q m n b l j d c o
  cases a
 | .b k s::r,f,g,bx,a,p,v,m,n,j,d,l,o=>by
  simp[uf]at a;split at a
  .rename_i q k;split at a
   .rename_i c C w x;obtain⟨A,rfl⟩:=Ij a;obtain⟨y,t⟩:=wM p;rw[og]at v;obtain⟨z,u⟩:=vq v (dh A);simp[OO,k]at l;rcases hn:dv bx q with _|b
    .rw[hn]at l;refine En R N h x t u m (λi b V e=>?_) j d l o;rcases n i b V e with c | c
     .exact .inl c
     simp only[WT,k,yK]at c;split at c<;>grind
    rw[hn]at l;obtain⟨D,G,H,J⟩:=m q b hn;refine En R N h x t u (λi E F=>?_) (λi E F P=>?_) j d l o
    .rw[lC hn]at F
     grind
    rw[lC hn]at F;split at F
    .rename_i e;subst e;injection F with F;subst F;left;have q:D.ok=aF:=by rw[<-J];exact P
     obtain⟨M,b,K,k3⟩:=N i D G;rw[w]at b;injection b with b;subst b;rw[h i D G q,H,<-K,z,R.xy y];exact(R.bx i c w (k3.trans q)).blk
    rename_i c;rcases n i E F P with b | b
    .exact .inl b
    simp only[WT,k,yK]at b;split at b<;>grind
   cases a
  cases a
def wN{J}(f:T7 st kp ms J s)(R:Rep β s a w)(H:s.mv=aM)(P:wC st kp ms s){K}(F:Lr _ J K):
  ∃n,K n w/\Rep (N0 st.bx) (pf st kp ms n w) a w:=by
 obtain⟨m,f⟩:=eE f;obtain⟨V,r,f⟩:=bJ f;obtain⟨A,f⟩:=eE f;simp only[B]at m;obtain⟨m,Q⟩:=m;have Z:s.df=st.df:=by
  obtain⟨a,l⟩:=P.df;simp_all
 rw[<-R.still H]at f;obtain⟨n,L,S,k3,T⟩:=jn2 f F;have N:∀i b,dv st.bx i=aN b->∃c,dv s.bx i=aN c/\c.ty=b.ty/\c.ok=b.ok:=λi b h=>by
  obtain⟨c,a,b,g,_⟩:=P.ps h;simp_all
 have G:∀i b,dv st.bx i=aN b->b.ok=aF->b.blk=aN (β i):=λi b h o=>by
  obtain⟨s,_⟩:=IA m.2 i b h o;obtain⟨c,a,q,g,p⟩:=P.ps h;rcases hk:b.blk with _|k
  .rw[hk]at s;cases s
  rw[(R.bx i c a (g.trans o)).at_ k (p k hk)]
 have e:∀i b,dv st.bx i=aN b->b.ok=aF->N0 st.bx i=β i:=λi b h o=>by
  unfold N0;rw[h];dsimp only;rw[G i b h o];rfl
 have C:∀i,Li st.bx i=aF->N0 st.bx i=β i:=λi z=>by
  unfold Li at z;cases h:dv st.bx i<;>simp_all
 have t:∀i d,dv (OO st ms n st.bx) i=aN d->d.ok=aF->∃b,dv st.bx i=aN b/\b.ok=aF/\d.blk=b.blk:=λi d h o=>by
  rcases hn:dv st.bx i with _|b
  .rw[rK _ _ _ _ hn]at h;cases h
  obtain⟨a,c,g,k,p,_⟩:=kF (st:=st) ms n st.bx i b hn
  grind
 refine⟨n,L,vi ⟨R.ok.sz.trans P.n,R.ok.df.trans (bN UH Z),λi p l z=>?_⟩,λi d h o=>?_,λi j bi D u x y E M=>?_,Ib _ _,λ_=>I⟩
 .simp[pf]at l;rw[xN]at l;split at l
  .rename_i q a;simp at l;subst l;exact IB R r A (k3 _) i q a
  obtain⟨a,b⟩:=Dj l;obtain⟨k,v⟩:=p;obtain⟨J,c,q,s,w⟩:=aiB m.1 i a k v b;have:=P.slot a b c q s;subst this;rw[R.ok.at_ i _ c (by rw[P.n];exact z)];congr 1;exact(kD (g:=Li st.bx) C _ w).symm
 .have s:=En R N e r A (k3 _) (bx:=st.bx) (λj b h=>⟨b,h,I,I⟩) (λj b h o=>by
   obtain⟨_,a⟩:=IA m.2 j b h o;rw[bR]at a;rcases a with a | ⟨c,a,p,q⟩
   .exact .inr a
   cases l:(WT st ms).elem j with
   | true=>exact .inr I
   | false=>
    left;obtain⟨J,k,v,w⟩:=N j b h;rw[a]at k;injection k with k;subst k;have:=(R.bx j c a (w.trans o)).blk;rw[e j b h o,<-v,jC (g:=Li st.bx) C _ q,<-P.cells h a o l p];exact this) i d h o
  obtain⟨b,u,x,y⟩:=t i d h o;refine⟨s,λk hk=>?_,λhk=>?_⟩
  .grind
  rw[y,G i b u x]at hk;cases hk
 obtain⟨b,a,g,_⟩:=t i bi u y;obtain⟨c,f1,f2,_⟩:=t j D x E;obtain⟨d,p,_,q⟩:=N i b a;obtain⟨k,s,_,q3⟩:=N j c f1;rw[e i b a g,e j c f1 f2];exact R.ne i j d k p s (q.trans g) (q3.trans f2) M
end
def bX(S:Nat->Prop)(w a:aw):Prop:=∀k,S k->k<w.heap.size->a.heap[k]? =w.heap[k]?
def bX.refl S w:bX S w w:=λ_ _ _=>I
def Y4:=@bX.refl
def bX.only{S}{w w'}(h:Only [] w w'):bX S w w':=λk _ hk=>h.block k hk X
def Uy:=@bX.only
def vt(S:Nat->Prop)(k:Nat):Prop:=¬S k
def EE(P:Program)(o:L Oper)(m s:M)(S:Nat->Prop)(j:Nat)(w a:aw):Prop:=match jd o j with
 | some b=>bif mh P b.op then a.heap=w.heap else bif m&&(s||!Ek b.op)then bX S w a else True
 | none=>False
def XB(m s:M)(S:Nat->Prop)(o:Op):XT:=λw a p=>bif m&&(s||!Ek o)then bX S w a/\p else p
def YB(m s:M)(S:Nat->Prop):YT:=λb p=>bif m&&s then(match b with
 | some k=>vt S k/\p
 | none=>False)else p
def vu(P:Program):Nat->L Oper->L Nat
 | _,[]=>[]
 | i,o::r=>bif mh P o.op then vu P (i+1) r else i::vu P (i+1) r
def afr(q:Nat)(seen:L Nat):L Edge->M
 | []=>aM
 | e::r=>(Region.binds .any e&&(Nat.beq e.on q||seen.elem e.on))||afr q seen r
def WU(q:Nat):Nat->L Nat->L Oper->L Nat
 | _,s,[]=>s
 | i,s,o::r=>bif afr q s o.after.toList then WU q (i+1) (i::s) r else WU q (i+1) s r
def Yu(b:Array M):Nat->L Oper->L Nat
 | _,[]=>[]
 | i,_::r=>bif b.getD i aF then i::Yu b (i+1) r else Yu b (i+1) r
def T8(D N:L Nat):L Nat->L Nat
 | []=>[]
 | j::r=>bif D.elem j||N.elem j then T8 D N r else j::T8 D N r
def QY(o:L Oper):L Nat->M
 | []=>aF
 | j::r=>(match jd o j with
  | some a=>!Ek a.op
  | none=>aM)&&QY o r
def Dq(o:L Oper)(q:Nat):L Nat:=(WU q 0 [] o).reverse
def RE(P:Program)(o:L Oper)(b:Array M)(q:Nat):L Nat:=T8 (Dq o q) (Yu b 0 o) (vu P 0 o)
def MC{a:Type}:L a->M
 | []=>aF
 | _=>aM
def QV(o:L Oper)(b:Array M)(q:Nat):M:=
 Region.noSelect o.toArray&&Region.free .any o.toArray b q&&xJ .any o.toArray b&&vf .any o.toArray q [] (Dq o q)&&(Yu b 0 o).all (λk=>b.getD k aF)
def Yz(st:St)(o:L Oper)(a:Oper)(y n:St->Prop):Prop:=match a.guard with
 | none=>y st
 | some (j,want)=>(match Zj st o j with
  | some (_,.un)=>n st
  | some (_,.bl b)=>bif b==want then y st else n st
  | some (d,.bt t)=>((t=aF->bif aF==want then y (st.put (aN d) (.bl aF))else n (st.put (aN d) (.bl aF)))/\
   (t=aM->bif aM==want then y (st.put (aN d) (.bl aM))else n (st.put (aN d) (.bl aM))))
  | _=>False)
def ldB(P:Program)(S:Nat->Prop)(st:St)(t:TypeId)(a:SV)(K:SV->Prop):Prop:=match P.underlying t with
 | none=>False
 | some d=>(match a with
  | .box i o=>cE (dv st.bx i) λb=>bif b.ok&&b.blk.isSome&&sz P t (qj ((b.cells.drop o).take (qQ P t)))&&(pc d||Nat.beq (qj ((b.cells.drop o).take (qQ P t))) 1)then S (b.blk.getD 0)/\K (T0 (pc d) ((b.cells.drop o).take (qQ P t)))else False
  | .ad p=>bif !st.mv&&sz P t (qj (Wt P 12 t))&&(pc d||Nat.beq (qj (Wt P 12 t)) 1)then S p.block/\YV (Wt P 12 t) λv=>Cells st.w0 p (cT β0 v)/\K (T0 (pc d) v)else False
  | _=>False)
def cvB(P:Program)(S:Nat->Prop)(st:St)(s d:TypeId)(a:SV)(K:SV->Prop):Prop:=match P.underlying s,P.underlying d with
 | some (.slice e),aN .string=>(match P.underlying e with
  | some (.int .u8)=>cE (QJ a) λu=>bif st.mv then False else ∃l,(∀ad,u.a=aN ad->S ad.block)/\vW st.w0 u l/\K (.str ⟨l.toArray⟩)
  | _=>False)
 | _,_=>False
def amE(P:Program):Op->M
 | .load _ _=>aF
 | .convert s d _=>(match P.underlying s,P.underlying d with
  | some (.slice _),aN .string=>aF
  | _,_=>aM)
 | _=>aM
def cvI(P:Program):Op->M
 | .convert s d _=>(match P.underlying s,P.underlying d with
  | some (.int _),aN (.int _)=>aF
  | some .string,aN .string=>aF
  | _,_=>aM)
 | _=>aM
def cvZ(P:Program)(s d:TypeId)(a:SV)(K:SV->Prop):Prop:=match P.underlying s,P.underlying d with
 | some (.int _),aN (.int kd)=>cE (ub a) λp=>K (.int kd (kd.wrap p.2))
 | some .string,aN .string=>cE (y9 a) λu=>K (.str u)
 | _,_=>False
def qP(P:Program)(p:L Oper)(m c:M)(S:Nat->Prop)(b:Array M)(q:Nat)(o:Oper)(st:St)(K:St->Prop):Prop:=
 bif mh P o.op then
  bif cvI P o.op then(match o.op with
   | .convert s d x=>cE (st.ev x) λa=>cvZ P s d a λv=>K (st.put o.dst v)
   | _=>False)
  else bif !mem o.op||MC (RE P p b q)then WW (nd P st o.op) st λst=>Ud P [] st o.op λv=>K (st.put o.dst v)
  else bif m&&(c||QY p (RE P p b q))then(match o.op with
   | .load t x=>WW (nd P st o.op) st λst=>cE (st.ev x) λa=>ldB P S st t a λv=>K (st.put o.dst v)
   | .convert s d x=>WW (nd P st o.op) st λst=>cE (st.ev x) λa=>cvB P S st s d a λv=>K (st.put o.dst v)
   | _=>False)else False
 else False
def fq(P:Program)(o:L Oper):L Nat->Option Nat
 | []=>Pw
 | i::r=>match jd o i with
  | some a=>bif mh P a.op then aN i else fq P o r
  | none=>Pw
def Lu(P:Program)(o:L Oper)(m s:M)(S:Nat->Prop):Nat->Array M->St->(St->Prop)->Prop
 | 0,b,st,K=>(match Region.ready .any o.toArray b with
  | []=>K st
  | _=>False)
 | g+1,b,st,K=>(match Region.ready .any o.toArray b with
  | []=>K st
  | i::r=>(match fq P o (i::r)with
   | some q=>cE (jd o q) λa=>bif QV o b q&&(i::r).contains q then
    Yz st o a (λst=>qP P o m s S b q a st λst=>Lu P o m s S g (b.setIfInBounds q aF) st K) (λst=>Lu P o m s S g (b.setIfInBounds q aF) (st.put a.dst .un) K)else False
   | none=>(match r with
    | []=>cE (jd o i) λa=>bif mh P a.op then False else
     Yz st o a (λst=>loud P (XB m s S a.op) (YB m s S) st a λst=>Lu P o m s S g (b.setIfInBounds i aF) st K) (λst=>Lu P o m s S g (b.setIfInBounds i aF) (st.put a.dst .un) K)
    | [j]=>cE (jd o i) λa=>cE (jd o j) λc=>bif mh P a.op||mh P c.op then False else
     Yz st o a (λst=>loud P (XB m s S a.op) (YB m s S) st a λst=>Lu P o m s S g (b.setIfInBounds i aF) st K) (λst=>Lu P o m s S g (b.setIfInBounds i aF) (st.put a.dst .un) K)/\
     Yz st o c (λst=>loud P (XB m s S c.op) (YB m s S) st c λst=>Lu P o m s S g (b.setIfInBounds j aF) st K) (λst=>Lu P o m s S g (b.setIfInBounds j aF) (st.put c.dst .un) K)
    | _=>False)))
def MV(P:Program)(o:L Oper):Nat->L Oper->M
 | _,[]=>aM
 | i,a::r=>(bif amE P a.op then(vu P 0 o).any λj=>!(Dq o i).elem j&&!(Dq o j).elem i
  else aM)||MV P o (i+1) r
def OC(P:Program)(o:L Oper):Nat->L Oper->M
 | _,[]=>aM
 | i,a::r=>(bif amE P a.op then(vu P 0 o).any λj=>!(Dq o i).elem j&&!(Dq o j).elem i&&(match jd o j with
   | some b=>Ek b.op
   | none=>aM)
  else aM)||OC P o (i+1) r
section
variable {P:Program} {ops:L Oper} {mb ms:M} {S:Nat->Prop} {β:Nat->Nat} {a:Act} {w:aw}
def Eo{st}{o}{yes no}(h:Yz st ops o yes no)(R:Rep β st a w):
  ∃s,Ext st s/\Rep β s a w/\((Region.wanted o (yielded ops.toArray a.tmps)=aF/\yes s)∨(Region.wanted o (yielded ops.toArray a.tmps)=aM/\no s)):=by
 unfold Yz at h;split at h
 .rename_i g;exact⟨st,Uk _,R,.inl ⟨wn g,h⟩⟩
 rename_i j w g;split at h
 .rename_i d t;exact⟨st,Uk _,R,.inr ⟨Bk R g t,h⟩⟩
 .rename_i d b t;have a:=uc R g t (b:=b) I;rcases rJ h with⟨e,h⟩ | ⟨e,h⟩
  .exact⟨st,Uk _,R,.inl ⟨a.trans e,h⟩⟩
  exact⟨st,Uk _,R,.inr ⟨a.trans e,h⟩⟩
 .rename_i d t c;obtain⟨o,J,Z,a⟩:=D7 c;have e:=uc R g c (b:=t) I;cases t
  .refine⟨_,H6 _ _ (.bl aM),R.set a I,?_⟩
   grind
  refine⟨_,H6 _ _ (.bl aF),R.set a I,?_⟩
  grind
 exact h.elim
def OP{st:St}{d}{t}{x}{l}{ad}{w'}(u:P.underlying t=aN d)(h:sz P t (qj l)=aF)(o:pc d=aF∨Nat.beq (qj l) 1=aF)
  (T:a.eval x=.pointer (aN ad)) (C:Cells w' ad (cT β l)) dst t' p af g:
  (execOp a.eval ⟨dst,.load t x,t',p,af,g⟩).run P w'=.ok (.value (val β (T0 (pc d) l))) w':=by
 rcases o with w | o
 .rw[th w];have:=ny (P:=P) u w';rw[w]at this;exact xI this (tH h w') (gM β l) T C
 cases w:pc d
 .obtain⟨s,rfl⟩:=D6 o;have:=ny (P:=P) u w';rw[w]at this;exact H4 this T (Xz C)
 have e:=th w β l;rw[w]at e;rw[e];have:=ny (P:=P) u w';rw[w]at this;exact xI this (tH h w') (gM β l) T C
def zb:∀{l:L Oper} {i j:Nat} {o:Oper},jd l j=aN o->mh P o.op=aM->i+j∈vu P i l
 | [],_,_,_,h,_=>Ue
 | c::r,i,0,o,h,p=>by
  simp[jd]at h;subst h;simp[vu,p]
 | c::r,i,j+1,o,h,p=>by
  have:=zb (l:=r) (i:=i+1) (j:=j) h p;rw[show i+1+j=i+(j+1) by omega]at this;simp[vu]
  grind
def Ab{D N}:∀{l:L Nat} {j:Nat},j∈l->j∉D->j∉N->j∈T8 D N l
 | c::r,j,h,a,b=>by
  simp only[T8];rcases bh.1 h with rfl | h
  .grind
  cases(D.elem c||N.elem c)with
  | true=>exact Ab h a b
  | false=>exact dX _ (Ab h a b)
def Lv:∀{l:L Nat} {j:Nat} {o:Oper},QY ops l=aF->j∈l->jd ops j=aN o->Ek o.op=aM
 | [],j,o,_,h,_=>by cases h
 | c::r,j,o,a,h,b=>by
  simp[QY]at a;rcases bh.1 h with d | h
  .simp_all
  exact Lv a.2 h b
def Sta(P:Program)(o:L Oper)(m s:M)(S:Nat->Prop)(D N:L Nat)(F:aw->Prop):Prop:=∀j w a,j∉D->j∉N->F w->EE P o m s S j w a->F a
def afs{bM}{q}{o}{st}{K}(h:qP P ops mb ms S bM q o st K)(R:Rep β st a w):
  ∃(v:ay) (i:St) (F:aw->Prop),K i/\Ext st i/\Rep β i (a.put o.dst v) w/\F w/\Sta P ops mb ms S (Dq ops q) (Yu bM 0 ops) F/\mh P o.op=aF/\∀f,F f->(execOp a.eval o).run P f=.ok (.value v) f:=by
 rcases rJ h with⟨g,h⟩ | ⟨_,h⟩
 case inr=>exact h.elim
 rcases rJ h with⟨_,h⟩ | ⟨_,h⟩
 .obtain⟨t,op,c,p,a,b⟩:=o;cases op with
  | convert s d x=>
   dsimp only at h;obtain⟨l,j,e⟩:=bJ h;unfold cvZ at e;split at e
   .rename_i s kd h d;obtain⟨⟨k,n⟩,P,e⟩:=bJ e;exact⟨_,_,λ_=>True,e,H6 _ _ _,R.put _ _,trivial,λ_ _ _ _ _ _ _=>trivial,g,λf _=>aiJ (run_underlying h f) (run_underlying d f) ((R.ev j).trans (dR P β))⟩
   .rename_i h d;obtain⟨u,P,e⟩:=bJ e;exact⟨_,_,λ_=>True,e,H6 _ _ _,R.put _ _,trivial,λ_ _ _ _ _ _ _=>trivial,g,λf _=>GS (run_underlying h f) (run_underlying d f) ((R.ev j).trans (jT P β))⟩
   exact e.elim
  | _=>exact h.elim
 rcases rJ h with⟨l,h⟩ | ⟨l,h⟩
 .obtain⟨s,k,b,N,_⟩:=Bo h R;obtain⟨v,c,y⟩:=OG k;have y:=y trivial β a w N;obtain⟨d,op,t,p,n,r⟩:=o;cases m:mem op
  .exact⟨val β v,_,λ_=>True,c,b.trans (H6 _ _ _),N.put _ v,trivial,λ_ _ _ _ _ _ _=>trivial,g,λf _=>y _ _ _ _ _ f λe=>by rw[m]at e;cases e⟩
  have a:=by simpa[m]using l
  refine⟨val β v,_,λf=>f.heap=w.heap,c,b.trans (H6 _ _ _),N.put _ v,I,λu x z D p o h=>?_,g,λf o=>y _ _ _ _ _ f λ_=>o⟩;unfold EE at h;split at h
  .rename_i w v;rcases rJ h with⟨_,e⟩ | ⟨e,_⟩
   .exact e.trans o
   have:=Ab (by have:=zb (i:=0) v e;rwa[bR]at this) D p;unfold RE at a;revert a this;generalize T8 (Dq ops q) (Yu bM 0 ops) (vu P 0 ops)=A;intro a this;cases A with
   | nil=>cases this
   | cons=>cases a
  exact h.elim
 obtain⟨m,h⟩:=eE h;simp only[B]at m;obtain⟨r,op,z,p,y,u⟩:=o;have n:∀F:aw->Prop,∀k:Nat,S k->(∀w a:aw,F w->a.heap[k]? =w.heap[k]? ->F a)->(∀w,F w->k<w.heap.size)->Sta P ops mb ms S (Dq ops q) (Yu bM 0 ops) F:=by
  intro F k hk T c d w a D N b h;unfold EE at h;split at h
  .rename_i p o;rcases rJ h with⟨_,e⟩ | ⟨e,h⟩
   .exact T w a b (by rw[e])
   have:=Ab (by have:=zb (i:=0) o e;rwa[bR]at this) D N;have s:(ms||!Ek p.op)=aF:=by
    rcases cy _ _▸m.2 with e | e
    .rw[e];rfl
    rw[Lv e this o,GL,pL]
   rw[m.1,s]at h;exact T w a b (h k hk (c _ b))
  exact h.elim
 cases op with
 | load t x=>
  dsimp only at h;obtain⟨s,c,o,N,_⟩:=Bo h R;obtain⟨q,p,c⟩:=bJ c;unfold ldB at c;split at c
  .exact c.elim
  rename_i d x;split at c
  .rename_i j off;obtain⟨b,E,c⟩:=bJ c;obtain⟨A,S,K⟩:=eE c;simp only[B,cy]at A;obtain⟨⟨⟨M,V⟩,v⟩,D⟩:=A;have h:=N.bx j b E M;have C:=h.blk;have d:b.blk.getD 0=β j:=by
    rcases hk:b.blk with _|k
    .rw[hk]at V;cases V
    rw[h.at_ k hk];rfl
   rw[d]at S;have T:=N.ev p;refine⟨_,_,λf=>Blk f _ b.ty _,K,o.trans (H6 _ _ _),N.put _ _,C,n _ _ S (λw a G e=>by unfold Blk at G⊢;rw[e];exact G) (λw G=>G.lt),g,λf G=>?_⟩;generalize J:(b.cells.drop off).take (qQ P t)=L at*
   have H:Cells f ⟨β j,off,Pw⟩ (cT β L):=G.JR off _ (by
    rw[gM,<-J];simp only[cT,mg,Bc];rw[ci,tX];simp only[cD,bH];omega)
   exact OP (st:=st) x v D T H _ _ _ _ _
  .rename_i ad;obtain⟨A,S,E⟩:=eE c;simp only[B,cy,da]at A;obtain⟨⟨W,d⟩,P⟩:=A;obtain⟨t,⟨b,K⟩,D,G⟩:=wI E;rw[<-N.still W]at b;have C:∀f,Cells f ad _->Cells f ad (cT β t):=λf h=>by
    rw[jC (β:=β) (β':=β0) (g:=λ_=>aM) (λj h=>Ue) t (G _)];exact h
   rw[<-D]at d P;by_cases k:cT β0 t=[]
   .refine⟨_,_,λ_=>True,K,o.trans (H6 _ _ _),N.put _ _,trivial,λ_ _ _ _ _ _ _=>trivial,g,λf _=>?_⟩;exact OP (st:=st) x d P (N.ev p) (C f (by rw[k];intro e v h;simp at h)) _ _ _ _ _
   exact⟨_,_,λf=>Cells f ad _,K,o.trans (H6 _ _ _),N.put _ _,b,n _ ad.block S (λw a b e=>b.keep e) (λw b=>b.lt' k),g,λf b=>OP (st:=st) x d P (N.ev p) (C f b) _ _ _ _ _⟩
  exact c.elim
 | convert s d x=>
  dsimp only at h;obtain⟨p,b,k,N,_⟩:=Bo h R;obtain⟨q,o,b⟩:=bJ b;unfold cvB at b;split at b
  .rename_i e h d;split at b
   .rename_i t;obtain⟨v,P,b⟩:=bJ b;cases s:p.mv
    .rw[s]at b;obtain⟨A,S,C,K⟩:=b;rw[<-(N.still s)]at C;refine⟨_,_,λf=>vW f v A,K,k.trans (H6 _ _ _),N.put _ _,C,?_,g,λf D=>mvv h t d ((N.ev o).trans (mE P β)) D⟩;by_cases x:A=[]
     .subst x;exact λe w a _ _ T _=>⟨T.1,λc=>absurd I c⟩
     obtain⟨ad,E,_⟩:=C.2 x;refine n _ ad.block (S ad E) (λw a T e=>⟨T.1,λG=>?_⟩) (λw T=>?_)
     .obtain⟨J,c,H⟩:=T.2 G;rw[E]at c;injection c with c;subst c;exact⟨ad,E,H.keep e⟩
     obtain⟨J,e,H⟩:=T.2 x;rw[E]at e;injection e with e;subst e;exact H.lt' (by cases A with
      | nil=>exact absurd I x
      | cons c A=>simp)
    rw[s]at b;exact b.elim
   exact b.elim
  exact b.elim
 | _=>exact h.elim
def vw{j}{o}(h:jd ops j=aN o) w:EE P ops mb ms S j w w:=by
 unfold EE;rw[h];dsimp only;cases mh P o.op
 .cases(mb&&_)with
  | true=>exact Y4 _ _
  | false=>exact trivial
 rfl
def Lw{Q}{j}{o}{st}{K}(g:jd ops j=aN o)(i:mh P o.op=aM)(e:loud P (XB mb ms S o.op) (YB mb ms S) st o K)(R:Rep β st a w):o.wp P a w (UQ (EE P ops mb ms S j) st K w) Q:=by
 have h:EE P ops mb ms S j=λw f=>bif mb&&(ms||!Ek o.op)then bX S w f else True:=by
  unfold EE;simp_all
 refine Iy (λl c p x=>?_) (λw c b=>?_) (λs d k w c p y hk b=>?_) e R
 .rw[h];unfold XB at x
  grind
 .rw[h];cases(mb&&_)with
  | true=>exact Uy b
  | false=>exact trivial
 rw[h];rw[s,Bool.not_true,KL];unfold YB at y;cases a:(mb&&ms)with
 | true=>
  rw[a]at y;rcases d with _|j
  .exact y.elim
  refine⟨y.2,λq k W=>b.block q W ?_⟩;have:=hk j I;subst this;simp;rintro rfl;exact y.1 k
 | false=>rw[a]at y;exact⟨y,trivial⟩
def wO{Q}(h:∀c a w,¬Q (.panic c) a w):∀{g:Nat} {e:Array M} {st:St} {i:St->Prop} {β:Nat->Nat} {a:Act} {w:aw},Lu P ops mb ms S g e st i->Rep β st a w->
  (∀f k d b,i k->Ext st k->Rep f k d b->Q .normal d b)->gF P .any ops.toArray Q (EE P ops mb ms S) g e a w
 | 0,e,st,i,β,a,w,c,l,j=>by
  unfold Lu at c;split at c
  .rename_i r;exact⟨r,j β st a w c (Uk _) l⟩
  exact c.elim
 | g+1,e,st,i,β,a,w,j,n,m=>by
  have L:∀{l:Nat} {o:Oper},jd ops l=aN o->mh P o.op=aM->
    Yz st ops o (λst=>loud P (XB mb ms S o.op) (YB mb ms S) st o λst=>Lu P ops mb ms S g (e.setIfInBounds l aF) st i) (λst=>Lu P ops mb ms S g (e.setIfInBounds l aF) (st.put o.dst .un) i)->
    if Region.wanted o (yielded ops.toArray a.tmps)then o.wp P a w (λd b=>EE P ops mb ms S l w b/\gF P .any ops.toArray Q (EE P ops mb ms S) g (e.setIfInBounds l aF) d b) Q∨(o.asks P a w/\LetsOut Q)
    else(λd b=>EE P ops mb ms S l w b/\gF P .any ops.toArray Q (EE P ops mb ms S) g (e.setIfInBounds l aF) d b) (a.put o.dst undef) w:=by
   intro l o r t j;obtain⟨s,q,N,c⟩:=Eo j n;rcases c with⟨p,c⟩ | ⟨p,c⟩
   .rw[K p];refine .inl (Oper.wp_mono ?_ (Lw r t c N));rintro d b ⟨f,k,u,v,k3,w⟩;exact⟨k3,wO h u w λa C s A x y z=>m a C s A x ((q.trans v).trans y) z⟩
   rw[R (by simp[p])];exact⟨vw r w,wO h c (N.put o.dst .un) λa C s y u v x=>m a C s y u ((q.trans (H6 _ _ _)).trans v) x⟩
  unfold Lu at j;split at j
  .rename_i r;exact ahj r (m β st a w j (Uk _) n)
  rename_i p t r;split at j
  .rename_i q J;obtain⟨o,x,j⟩:=bJ j;obtain⟨H,j⟩:=eE j;simp only[B,QV]at H;obtain⟨⟨⟨⟨⟨z,A⟩,C⟩,D⟩,E⟩,F⟩:=H;obtain⟨s,G,N,u⟩:=Eo j n;rcases u with⟨y,u⟩ | ⟨y,u⟩
   .obtain⟨v,s2,T,Z,k2,k3,k4,k5,k6,k7⟩:=afs u N;have X:∀s,T s->EE P ops mb ms S q s s:=λs _=>vw x s;exact Oz q _ _ v T x z A (by rw[r];exact F) C D E (λc a w Y=>(h _ _ _ Y).elim) k5 X k4 (afe y k7) I
     (wO h Z k3 λQ V W w2 m1 m2 m3=>m Q V W w2 m1 ((G.trans k2).trans m2) m3)
   exact Oz q _ _ undef _ x z A (by rw[r];exact F) C D E (λc a w s=>(h _ _ _ s).elim) (λ_ _ _ _ _ _ _=>trivial) (λv _=>vw x v) trivial (Hp y) I
    (wO h u (N.put o.dst .un) λa c q S w P Q=>m a c q S w ((G.trans (H6 _ _ _)).trans P) Q)
  split at j
  .obtain⟨o,a,j⟩:=bJ j;rcases rJ j with⟨_,j⟩ | ⟨c,j⟩
   .exact j.elim
   obtain⟨s,v,N,q⟩:=Eo j n;rcases q with⟨u,q⟩ | ⟨u,q⟩
   .refine amm p a r u (Oper.wp_mono ?_ (Lw a c q N));rintro d b ⟨f,k,x,y,k3,z⟩;exact⟨k3,wO h x z λs C w F A D E=>m s C w F A ((v.trans y).trans D) E⟩
   exact acf p a r u (vw a w) I (wO h q (N.put o.dst .un) λs C x D y z A=>m s C x D y ((v.trans (H6 _ _ _)).trans z) A)
  .rename_i l _;obtain⟨o,c,j⟩:=bJ j;obtain⟨q,V,j⟩:=bJ j;rcases rJ j with⟨_,j⟩ | ⟨a,j⟩
   .exact j.elim
   simp at a;exact amn p l c V r (L c a.1 j.1) (L V a.2 j.2)
  exact j.elim
end
def qR(s w a:aw):Prop:=w.heap.size<=a.heap.size/\∀k,s.heap.size<=k->k<w.heap.size->a.heap[k]? =w.heap[k]?
def Ep(mk:L (Nat×Nat))(b:Nat):Prop:=∀p∈mk,b<p.1∨p.2<=b
def qR.only{bs}{ws w w'}(h:Only bs w w')(d:∀b∈bs,b<ws.heap.size∨w.heap.size<=b):qR ws w w':=
 ⟨h.size,λk c a=>h.block k a λhk=>Xd⟩
def qR.Tf{ws w w'}(h:Only [] w w'):qR ws w w':=qR.only h X
def Ep.one{m n b}{r}(h:Ep ((m,n)::r) b):b<m∨n<=b:=h _ fg
structure LZ where
 z:Nat
 d:Nat
 t:TypeId
 zs:List SV
def zd(P:Program)(z:Nat)(o:Oper):Option LZ:=match o.op,o.dst,o.guard with
 | .alloc t,aN d,Pw=>(match zc P t with
  | some s=>bif MC o.after.toList&&jS (λ_=>aM) s then aN ⟨z,d,t,s⟩else Pw
  | none=>Pw)
 | _,_,_=>Pw
def nS(P:Program):Nat->L Oper->L LZ
 | _,[]=>[]
 | i,o::r=>match zd P i o with
  | some p=>p::nS P (i+1) r
  | none=>nS P (i+1) r
def qZ:L LZ->L Nat
 | []=>[]
 | p::r=>p.z::qZ r
def Wx:L LZ->L Nat
 | []=>[]
 | p::r=>p.d::Wx r
def Ly(z d:Nat):Nat->L Oper->M
 | _,[]=>aF
 | i,o::r=>(Nat.beq i z||(match o.dst with
  | some e=>!Nat.beq e d
  | none=>aF))&&Ly z d (i+1) r
def H5(o:L Oper):L LZ->M
 | []=>aF
 | p::r=>Ly p.z p.d 0 o&&H5 o r
def ahH{α}:∀{l:L α},MC l=aF->l=[]
 | [],_=>rfl
def ph{P}{z}{o}{p}(h:zd P z o=aN p):p.z=z/\o.op=.alloc p.t/\o.dst=aN p.d/\o.guard=Pw/\o.after.toList=[]/\zc P p.t=aN p.zs/\jS (λ_=>aM) p.zs=aF:=by
 unfold zd at h;split at h
 .rename_i t d a b c;split at h
  .rename_i s z;obtain⟨d,rfl⟩:=Ij h;simp at d;exact⟨I,a,b,c,ahH d.1,z,d.2⟩
  cases h
 cases h
def ra{Z}{z}:z∈qZ Z↔∃p∈Z,p.z=z:=by
 induction Z with
 | nil=>simp[qZ]
 | cons p r i=>simp[qZ,i,eq_comm (a:=z)]
def Es{P}:∀{l:L Oper} {i:Nat} {p:LZ},p∈nS P i l->∃j o,p.z=i+j/\jd l j=aN o/\zd P p.z o=aN p
 | [],i,p,h=>Ue
 | o::r,i,p,h=>by
  have t:p∈nS P (i+1) r->∃j a,p.z=i+j/\jd (o::r) j=aN a/\zd P p.z a=aN p:=λh=>by
   obtain⟨j,a,d,b,c⟩:=Es h;exact⟨j+1,a,J,b,c⟩
  unfold nS at h;split at h
  .rename_i q b;rcases bh.1 h with rfl | h
   .have:=(ph b).1;exact⟨0,o,this,I,by rw[this];exact b⟩
   exact t h
  exact t h
def Et{P}:∀{l:L Oper} {i:Nat},(qZ (nS P i l)).Nodup
 | [],i=>by simp[nS,qZ]
 | o::r,i=>by
  unfold nS;split
  .rename_i q a;have e:=(ph a).1;simp[qZ];refine⟨λm=>?_,Et⟩;obtain⟨p,h,b⟩:=ra.1 m;obtain _:=Es h;omega
  exact Et
def exI{z d}:∀{l:L Oper} {i j:Nat} {o:Oper},Ly z d i l=aF->jd l j=aN o->i+j≠z->o.dst≠aN d:=by
 intro l
 induction l with
 | nil=>intro i j o _ h;cases h
 | cons c r b=>
  intro i j o h a z;simp only[Ly,B,cy]at h;cases j with
  | zero=>
   simp[jd]at a;intro e;simp_all
  | succ j=>exact b (i:=i+1) (j:=j) h.2 a J
def ch0{ops}:∀{Z:L LZ},H5 ops Z=aF->∀p∈Z,Ly p.z p.d 0 ops=aF
 | q::r,h,p,a=>by
  simp[H5]at h;rcases bh.1 a with rfl | a
  .exact h.1
  exact ch0 h.2 p a
def fP(l:Array M):L Nat->Array M
 | []=>l
 | z::r=>fP (l.setIfInBounds z aF) r
def nDb(l:Array M) i j:(l.setIfInBounds i aF).setIfInBounds j aF=(l.setIfInBounds j aF).setIfInBounds i aF:=by
 by_cases h:i=j
 .subst h;rfl
 exact Array.setIfInBounds_comm _ _ h
def rL:∀{D:L Nat} {l:Array M} {z:Nat},fP (l.setIfInBounds z aF) D=(fP l D).setIfInBounds z aF
 | [],_,_=>rfl
 | d::r,l,z=>by simp[fP,nDb,rL]
def aac{D E}(h:D.Perm E):∀l,fP l D=fP l E:=by
 induction h with
 | nil=>intro l;rfl
 | cons x _ i=>intro l;exact i _
 | swap x y r=>intro l;simp[fP];rw[nDb]
 | trans _ _ a b=>intro l;exact(a l).trans (b l)
def ug:∀{D:L Nat} {l:Array M} {k:Nat},(fP l D).getD k aM=aF↔l.getD k aM=aF∨(k∈D/\k<l.size)
 | [],l,k=>by simp[fP]
 | d::r,l,k=>by
  simp only[fP];rw[ug];by_cases h:d=k
  .subst h;by_cases s:d<l.size
   .simp[s]
   simp[s]
  simp[TP h,Ne.symm h]
def rM:∀{D:L Nat} {l:Array M} {k:Nat},(fP l D).getD k aF=aF↔l.getD k aF=aF∨k∈D
 | [],l,k=>by simp[fP]
 | d::r,l,k=>by
  simp only[fP];rw[rM];by_cases h:d=k
  .simp_all
  simp[TP h,Ne.symm h]
def Gj(Z:L Nat):L Nat->L Nat
 | []=>[]
 | j::r=>bif Z.elem j then Gj Z r else j::Gj Z r
def uh{Zi}:∀{l:L Nat} {j:Nat},j∈Gj Zi l↔j∈l/\j∉Zi
 | [],j=>by simp[Gj]
 | c::r,j=>by
  simp only[Gj];cases h:Zi.elem c
  .simp[uh]
   grind
  simp only[cond_true,uh,bh]
  grind
def QZ(Z R:L Nat):L Nat->M
 | []=>aF
 | j::r=>(R.elem j&&!Z.elem j)&&QZ Z R r
def agN{Zi R}:∀{l:L Nat},QZ Zi R l=aF->∀j∈l,j∈R/\j∉Zi
 | c::r,a,j,h=>by
  simp[QZ]at a;rcases bh.1 h with rfl | h
  .grind
  exact agN a.2 j h
def Ad(l:Array M):L Nat->M
 | []=>aF
 | z::r=>!l.getD z aF&&Ad l r
def aho{l}:∀{Z:L Nat},Ad l Z=aF->∀z∈Z,l.getD z aF=aM
 | c::r,h,z,a=>by
  simp only[Ad,B,da]at h;rcases bh.1 a with rfl | a
  .exact h.1
  exact aho h.2 z a
def Mj(o:L Oper)(Z:L Nat)(l:Array M):M:=QZ Z (Region.ready .any o.toArray l) (Region.ready .any o.toArray (fP l Z))
def Q0(z:Nat):L Nat->M
 | []=>aF
 | j::r=>Nat.beq j z&&Q0 z r
def ads{z}:∀{l:L Nat},Q0 z l=aF->∀j∈l,j=z
 | c::r,a,j,h=>by
  simp only[Q0,B]at a;rcases bh.1 h with rfl | h
  .simp_all
  exact ads a.2 j h
def Tc(o:L Oper)(l:Array M)(Z:L Nat):L Nat->M
 | []=>aF
 | z::r=>Q0 z (Region.ready .any o.toArray (fP l (Z.erase z)))&&Tc o l Z r
def xKV{ops}{l}{Zi}:∀{r:L Nat},Tc ops l Zi r=aF->∀z∈r,∀j∈Region.ready .any ops.toArray (fP l (Zi.erase z)),j=z
 | c::r,h,z,a=>by
  simp[Tc]at h;rcases bh.1 a with rfl | a
  .exact ads h.1
  exact xKV h.2 z a
section
variable {md:Region.Mode} {ops:Array Oper}
def Bp{l}{D E}(s:∀x∈D,x∈E){j}(h:j∈Region.ready md ops (fP l D))(d:j∉E):j∈Region.ready md ops (fP l E):=by
 rw[mem_ready]at h⊢;obtain⟨a,f,o,i⟩:=h;refine⟨?_,f,o,λe c b=>?_⟩
 .rw[eF]at a⊢;intro e;rcases rM.1 e with e | e
  .exact a (rM.2 (.inl e))
  exact d e
 rcases ug.1 (i e c b)with g | g
 .exact ug.2 (.inl g)
 exact ug.2 (.inr ⟨s _ g.1,g.2⟩)
def enK{l}(a:ve md ops l){D}(b:∀z∈D,∀o,ops[z]? =aN o->o.after.toList=[]):ve md ops (fP l D):=by
 intro k o hk f e d c;rcases ug.1 f with h | h
 .exact ug.2 (.inl (a k o hk h e d c))
 have:=b k h.1 o hk;simp_all
end
def ahJ{P}{o:Oper}{a}{w}{K}{Q}(h:o.wp P a w K Q):
  o.wp P a w (λc b=>K c b/\∀i,o.dst≠aN i->c.tmps[i]? =a.tmps[i]?) Q:=by
 unfold Oper.wp at*
 generalize (execOp a.eval o).run P w=r at*
 cases r with
 | ok n b=>
  cases n
  case value v=>exact⟨h,(mW _ _ _).2.2⟩
  case skip=>exact⟨h,(mW _ _ _).2.2⟩
  case defer d=>exact⟨h,(mW _ _ _).2.2⟩
  case enter f args=>
   refine Calls.mono h (λe w a=>?_);cases e with
   | returned v=>exact⟨a,(mW _ _ _).2.2⟩
   | _=>exact a
  case row n args=>exact Rows.mono h (λv w a=>⟨a,(mW _ _ _).2.2⟩)
  all_goals exact h
 | halt x b=>cases x<;>simp[Oper.upon]at h⊢ <;>exact h
structure Late (Z:List LZ) (ws:aw) (bz:Nat->Nat) (D:List Nat) (mk:List (Nat×Nat)) (a:Act) (w:aw):Prop where
 at_:∀p∈Z,p.z∈D->a.tmps[p.d]? =aN (.pointer (aN ⟨bz p.z,0,Pw⟩))/\Blk w (bz p.z) p.t (cT β0 p.zs)/\ws.heap.size<=bz p.z/\Ep mk (bz p.z)
 sub:∀z∈D,z∈qZ Z
 ne:∀z∈D,∀z'∈D,z≠z'->bz z≠bz z'
 top:∀p∈mk,p.2<=w.heap.size
 le:ws.heap.size<=w.heap.size
section
variable {Z:L LZ} {ws:aw} {bz:Nat->Nat} {D:L Nat} {mk:L (Nat×Nat)} {a a':Act} {w w1:aw}
def Late.act(h:Late Z ws bz D mk a w)(c:∀p∈Z,a'.tmps[p.d]? =a.tmps[p.d]?):Late Z ws bz D mk a' w:=
 ⟨λp b hd=>by rw[c p b];exact h.at_ p b hd,h.sub,h.ne,h.top,h.le⟩
def Late.loud(b:Late Z ws bz D mk a w)(N:qR ws w w1)(c:∀p∈Z,a'.tmps[p.d]? =a.tmps[p.d]?):Late Z ws bz D ((w.heap.size,w1.heap.size)::mk) a' w1:=by
 refine⟨λp h hd=>?_,b.sub,b.ne,λp h=>?_,bB b.le N.1⟩
 .obtain⟨g,a,e,i⟩:=b.at_ p h hd;have f:=a.lt;refine⟨by rw[c p h];exact g,?_,e,λq d=>?_⟩
  .unfold Blk at a⊢;rw[N.2 _ e f];exact a
  rcases bh.1 d with rfl | d
  .exact .inl f
  exact i q d
 rcases bh.1 h with rfl | h
 .exact H _
 exact bB (b.top p h) N.1
def Late.alloc(c:Late Z ws bz D mk a w)(u:∀p∈Z,∀q∈Z,p.z=q.z->p=q)(hd:∀p∈Z,∀q∈Z,p.z≠q.z->p.d≠q.d){p}(g:p∈Z)(n:p.z∉D){b}(j:w.heap.size<=b)(O:Only [] w w1)(B:Blk w1 b p.t (cT β0 p.zs))(s:p.d<a.tmps.size):
  Late Z ws (λz=>if z=p.z then b else bz z) (p.z::D) mk (a.put (aN p.d) (.pointer (aN ⟨b,0,Pw⟩))) w1:=by
 refine⟨λq d l=>?_,λz h=>?_,λz h m f i=>?_,λq d=>bB (c.top q d) O.size,bB c.le O.size⟩
 .by_cases e:q.z=p.z
  .have:=u q d p g e;subst this;rw[K I];refine⟨by simp[Act.put,s],B,bB c.le j,λx a=>.inr (bB (c.top x a) j)⟩
  rw[R e];obtain⟨b,o,r,t⟩:=c.at_ q d Xd;refine⟨?_,O.blk o X,r,t⟩;rw[(mW a _ _).2.2 q.d (by
   intro k;injection k with k;exact hd p g q d (Ne.symm e) k)]
  exact b
 .rcases bh.1 h with rfl | h
  .exact ra.2 ⟨p,g,I⟩
  exact c.sub z h
 have V:∀z∈D,bz z<w.heap.size:=λz h=>by
  obtain⟨q,d,rfl⟩:=ra.1 (c.sub z h);exact(c.at_ q d h).2.1.lt
 rcases bh.1 h with rfl | h<;>rcases bh.1 f with rfl | f
 .exact absurd I i
 .grind
 .rw[R i,K I];have:=V _ h;omega
 rw[R (λe=>n (by rw[<-e];exact h)),R (λe=>n (by rw[<-e];exact f))];exact c.ne _ h _ f i
end
def acW:YT:=λ_ _=>False
def ajJ(m s:M)(S:Nat->Prop)(b:aw)(o:Op):XT:=λw a p=>qR b w a/\XB m s S o w a p
def Q2(st:St):L LZ->M
 | []=>aF
 | p::r=>(eW st.fr p.d).isNone&&Nat.blt p.d st.n&&Q2 st r
def adz{st}:∀{Z:L LZ},Q2 st Z=aF->∀p∈Z,eW st.fr p.d=Pw/\p.d<st.n
 | q::r,a,p,h=>by
  simp only[Q2,B,Option.isNone_iff_eq_none]at a;rcases bh.1 h with rfl | h
  .simp_all
  exact adz a.2 p h
def St.B1(st:St):St:={st with mv:=aF}
def KW:L M->L M->M
 | [],[]=>aF
 | a::r,b::s=>(a==b)&&KW r s
 | _,_=>aM
def WY:∀{l m:L M},KW l m=aF->l=m
 | [],[],_=>rfl
 | a::r,b::s,h=>by
  simp[KW]at h;rw[h.1,WY h.2]
def lL(P:Program)(p:L Oper)(m a:M)(S:Nat->Prop)(w:aw)(mk:L (Nat×Nat))(st:St)(o:Oper)(D:L (Nat×Nat)->St->Prop):Prop:=
 bif mh P o.op then False else Yz st p o (λst=>fO st λst=>loud P (ajJ m a S w o.op) acW st o λs=>bif s.mv then False else D ((st.w0.heap.size,s.w0.heap.size)::mk) s.B1) (λst=>D mk (St.B1 (st.put o.dst .un)))
def Rh(P:Program)(o:L Oper)(Z:L Nat)(b:Array M):L Nat->Option Nat
 | []=>Pw
 | i::r=>(match jd o i with
  | some a=>bif mh P a.op&&Mj o Z (b.setIfInBounds i aF)then aN i else Rh P o Z b r
  | none=>Rh P o Z b r)
def fqZ(P:Program)(o:L Oper)(Z:L Nat)(b:Array M)(l:L Nat):Option Nat:=
 match Rh P o Z b l with
 | some q=>aN q
 | none=>fq P o l
def T9(P:Program)(o:L Oper)(m s:M)(S:Nat->Prop)(w:aw)(Z:L LZ)(B:Array M)(a:Nat)(K:L (Nat×Nat)->St->Prop):Nat->Array M->L (Nat×Nat)->St->Prop
 | 0,_,_,_=>False
 | g+1,b,mk,st=>bif Ad b (qZ Z)&&Q2 st Z then(match Gj (qZ Z) (Region.ready .any o.toArray b)with
  | []=>bif Tc o b (qZ Z) (qZ Z)&&KW b.toList B.toList&&Nat.beq (g+1) a&&Nat.ble (qj (qZ Z)) (g+1)then K mk st else False
  | i::r=>bif Mj o (qZ Z) b&&Nat.ble (qj (qZ Z)) g then(match fqZ P o (qZ Z) b (i::r)with
   | some q=>cE (jd o q) λc=>bif QV o b q&&(i::r).contains q then
    Yz st o c (λst=>qP P o m s S b q c st.B1 λst=>T9 P o m s S w Z B a K g (b.setIfInBounds q aF) mk st.B1) (λst=>T9 P o m s S w Z B a K g (b.setIfInBounds q aF) mk (St.B1 (st.put c.dst .un)))else False
   | none=>(match r with
    | []=>cE (jd o i) λc=>lL P o m s S w mk st c λmk st=>T9 P o m s S w Z B a K g (b.setIfInBounds i aF) mk st
    | [j]=>cE (jd o i) λc=>cE (jd o j) λd=>
     lL P o m s S w mk st c (λmk st=>T9 P o m s S w Z B a K g (b.setIfInBounds i aF) mk st)/\
     lL P o m s S w mk st d (λmk st=>T9 P o m s S w Z B a K g (b.setIfInBounds j aF) mk st)
    | [j,k]=>cE (jd o i) λd=>cE (jd o j) λe=>cE (jd o k) λc=>
     lL P o m s S w mk st d (λmk st=>T9 P o m s S w Z B a K g (b.setIfInBounds i aF) mk st)/\
     lL P o m s S w mk st e (λmk st=>T9 P o m s S w Z B a K g (b.setIfInBounds j aF) mk st)/\
     lL P o m s S w mk st c (λmk st=>T9 P o m s S w Z B a K g (b.setIfInBounds k aF) mk st)
    | _=>False))else False)else False
section
variable {P:Program} {ops:L Oper} {mb ms:M} {S:Nat->Prop} {β:Nat->Nat} {a:Act} {w:aw} {ws:aw} {Z:L LZ} {B5:Array M} {gm:Nat}
def Rep.late{st}(h:Rep β st a w)(m:st.mv=aF){d}{v}(hd:eW st.fr d=Pw){w1}(O:Only [] w w1):Rep β st (a.put (aN d) v) w1:=by
 obtain⟨g,j,k⟩:=mW a _ v;refine⟨vi ⟨g.trans h.ok.sz,j.trans h.ok.df,λi p l f=>?_⟩,λi b e o=>?_,h.ne,h.only.bU O,λc=>by rw[m]at c;cases c⟩
 .rw[k i Xd];exact h.ok.at_ i p l f
 obtain⟨a,d,k3⟩:=h.bx i b e o;exact⟨O.blk a X,d,k3⟩
def Rep.B1{st}(R:Rep β st a w):Rep β st.B1 a w:=⟨R.fr,R.bx,R.ne,R.only,λh=>Ue⟩
def Ext.B1 st:Ext st st.B1:=⟨I,H _,λ_ _ _ h _=>h,λi b h o _=>⟨b,h,o,I,I,I,λ_ h=>h⟩,Ws,Kr⟩
def Wm:=@Ext.B1
def amG{Q}{j}{o}{st}{mk}{D}(f:jd ops j=aN o)(h:lL P ops mb ms S ws mk st o D)(g:Rep β st a w):
  wpOp P ops.toArray Q j (λe b=>EE P ops mb ms S j w b/\(∀i,o.dst≠aN i->e.tmps[i]? =a.tmps[i]?)/\∃c d m,D m d/\Ext st d/\d.mv=aF/\Rep c d e b/\((m=mk/\b=w)∨(m=(w.heap.size,b.heap.size)::mk/\qR ws w b))) a w:=by
 rcases rJ h with⟨_,h⟩ | ⟨l,h⟩
 .exact h.elim
 have n:ops.toArray[j]? =aN o:=by rw[lZ]at f;simpa using f
 unfold wpOp;simp only[n];obtain⟨s,q,N,a⟩:=Eo h g;rcases a with⟨r,a⟩ | ⟨r,a⟩
 .rw[K r];left;obtain⟨F,z,y,t,D,_⟩:=ff a N;have s:EE P ops mb ms S j=λw b=>bif mb&&(ms||!Ek o.op)then bX S w b else True:=by
   unfold EE;simp_all
  have:=ahJ (Iy (E:=λw b=>EE P ops mb ms S j w b/\qR ws w b) (Q:=Q) (λG v p x=>?_) (λw v u=>?_) (λC B k w v p A hk u=>A.elim) z t)
  .refine Oper.wp_mono ?_ this;rintro e b ⟨⟨c,d,k,o,k3,j⟩,p⟩;rcases rJ k with⟨_,k⟩ | ⟨w,k⟩
   .exact k.elim
   refine⟨k3.1,p,c,d.B1,_,k,((q.trans y).trans o).trans (Wm _),I,j.B1,.inr ⟨?_,k3.2⟩⟩;rw[<-j.still w,<-t.still D]
  .rw[s];obtain⟨j,x⟩:=x;unfold XB at x;cases k:(mb&&(ms||!Ek o.op))<;>grind
  rw[s];refine⟨?_,qR.Tf u⟩;cases(mb&&_)with
  | true=>exact Uy u
  | false=>exact trivial
 rw[R Xd];exact⟨vw f w,(mW _ _ _).2.2,β,_,mk,a,(q.trans (H6 _ _ _)).trans (Wm _),I,(N.put o.dst .un).B1,.inl ⟨I,trivial⟩⟩
def WZ{Q:Exit->Act->aw->Prop}(G:∀c a w,¬Q (.panic c) a w)(r:∀p∈Z,∃o,jd ops p.z=aN o/\zd P p.z o=aN p)(F:H5 ops Z=aF)(C:(qZ Z).Nodup){s0:St}{A:L (Nat×Nat)->St->Prop}
  (N:∀mk st β a w n D m,A mk st->Ext s0 st->Rep β st a w->Late Z ws n D mk a w->D.Perm (qZ Z)->m+qj D=gm->gF P .any ops.toArray Q (EE P ops mb ms S) m (fP B5 D) a w):
  ∀(m g:Nat) {d:Array M} {mk:L (Nat×Nat)} {st:St} {β:Nat->Nat} {a:Act} {w:aw} {n:Nat->Nat} {D Pd:L Nat},T9 P ops mb ms S ws Z B5 gm A g d mk st->Ext s0 st->st.mv=aF->Rep β st a w->Late Z ws n D mk a w->(D++Pd).Perm (qZ Z)->m+qj D=g->
   gF P .any ops.toArray Q (EE P ops mb ms S) m (fP d D) a w:=by
 intro m;have R:∀p∈Z,∀q∈Z,p.z=q.z->p=q:=λp f q u e=>by
  obtain⟨o,a,b⟩:=r p f;obtain⟨l,c,k⟩:=r q u;rw[e,c]at a;injection a with a;subst a;rw[e,k]at b;injection b with b;exact b.symm
 have t:∀p∈Z,∀j o,jd ops j=aN o->j≠p.z->o.dst≠aN p.d:=λp f j o h i=>exI (ch0 F p f) h (by rw[bR];exact i);have H:∀p∈Z,∀q∈Z,p.z≠q.z->p.d≠q.d:=λp f q u i e=>by
  obtain⟨c,a,b⟩:=r q u;exact t p f q.z c a (Ne.symm i) (by rw[(ph b).2.2.1,e])
 induction m using Nat.strongRecOn with
 | ind m y=>
 intro g d mk st β a w n D Pd T V hm Y W f hg;cases g with
 | zero=>exact T.elim
 | succ g=>
 have h0:=T;unfold T9 at T;obtain⟨hc,T⟩:=eE T;simp only[B]at hc;obtain⟨bv,cc⟩:=hc;have bv:=aho bv;have aC:∀x∈D,x∈qZ Z:=W.sub;have am:∀x∈Pd,x∈qZ Z:=λx hx=>f.subset (List.mem_append_right _ hx);have fi:qj D+qj Pd=qj (qZ Z):=by have:=f.length_eq;rwa[aP]at this
 have bY:(D++Pd).Nodup:=f.nodup_iff.2 C;have aT:∀x∈Pd,x∉D:=λx hx hd=>(List.nodup_append.1 bY).2.2 x hd x hx I;have aS:∀j∈Region.ready .any ops.toArray (fP d D),j∈qZ Z->j∈Pd:=λj h zC=>by
  have b:j∉D:=λhd=>by
   have:=(mem_ready.1 h).1;rw[rM.2 (.inr hd)]at this;cases this
  rcases bQ.1 (f.mem_iff.2 zC)with a | a
  .exact absurd a b
  exact a
 have bV:∀j∈Region.ready .any ops.toArray d,j∉qZ Z->j∈Region.ready .any ops.toArray (fP d D):=λj h zC=>Bp (l:=d) (D:=[]) (E:=D) X h λk=>zC (aC j k);have ce:∀z∈Pd,z∈Region.ready .any ops.toArray (fP d D):=λz hz=>by
  obtain⟨p,P,rfl⟩:=ra.1 (am z hz);obtain⟨o,ho,b⟩:=r p P;refine mem_ready.2 ⟨?_,o,Xs,λe V=>?_⟩
  .rw[eF];intro k;rcases rM.1 k with k | k
   .rw[bv _ (am _ hz)]at k;cases k
   exact aT _ hz k
  rw[Array.mem_def,(ph b).2.2.2.2.1]at V;cases V
 have AL:∀{m'},m=m'+1->∀j∈Pd,wpOp P ops.toArray Q j (λa' w'=>EE P ops mb ms S j w w'/\gF P .any ops.toArray Q (EE P ops mb ms S) m' ((fP d D).setIfInBounds j aF) a' w') a w:=by
  intro m' em j h;obtain⟨p,a,rfl⟩:=ra.1 (am j h);obtain⟨o,ho,v⟩:=r p a;obtain⟨_,q,s,l,l5,l6,l7⟩:=ph v;obtain⟨c,e⟩:=adz cc p a;have Z:ops.toArray[p.z]? =aN o:=Xs
  unfold wpOp;simp only[Z];rw[K (wn l)];left;obtain⟨x,op,t',pp,af,g0⟩:=o;dsimp only at q s l l5;subst q s l;obtain⟨z,z1,z2⟩:=afn l6 w;refine KV z1 (z2 β0) (λ_=>I) λb w1 S k E=>⟨?_,?_⟩
  .unfold EE;rw[ho];dsimp only;rw[show mh P (.alloc p.t)=aM from rfl,cond_false];cases(mb&&(ms||!Ek (.alloc p.t)))with
   | true=>exact Uy k
   | false=>exact trivial
  rw[<-rL];exact y m' J (g+1) (D:=p.z::D) (Pd:=Pd.erase p.z) h0 V hm (Y.late hm c k) (W.alloc R H a (aT _ h) S k E (by rw[Y.ok.sz];exact e))
   ((List.perm_middle.symm.trans ((List.perm_cons_erase h).symm.append_left D)).trans f) (by rw[aZ];omega)
 split at T
 .rename_i v;obtain⟨hc,T⟩:=eE T;simp only[B]at hc;obtain⟨⟨⟨l,p⟩,q⟩,c⟩:=hc;have b:d=B5:=VH.1 (WY p);have s:=dh q;have c:=dz c;cases P:Pd with
  | nil=>
   rw[P,bC]at f;rw[b];exact N mk st β a w n D m T V Y W f J
  | cons z w=>
   have a:z∈Pd:=by rw[P];exact fg
   have D:qj Pd=qj w+1:=by rw[P];rfl
   obtain⟨m',rfl⟩:∃m',m=m'+1:=⟨m-1,J⟩
   refine⟨λh0=>?_,λj h=>AL I j ?_⟩
   .have:=ce z a;rw[h0]at this;cases this
   by_cases zC:j∈qZ Z
   .exact aS j h zC
   exfalso;have E:j∈Region.ready .any ops.toArray (fP d ((qZ Z).erase z)):=Bp (λx hx=>(List.mem_erase_of_ne (λe=>aT z a (by rw[<-e];exact hx))).2 (aC x hx)) h (λk=>zC (List.mem_of_mem_erase k));have:=xKV l z (am z a) j E;exact zC (this▸am z a)
 rename_i co dO ZY;obtain⟨c0,T⟩:=eE T;simp only[B,Mj]at c0;have cC:=agN c0.1;have c0:=dz c0.2;have l:∀j∈Region.ready .any ops.toArray (fP d D),j∉qZ Z->j∈Region.ready .any ops.toArray d:=λj h zC=>(cC j (Bp aC h zC)).1;obtain⟨m',rfl⟩:∃m',m=m'+1:=⟨m-1,J⟩
 have b:∀j∈co::dO,j∈Region.ready .any ops.toArray d/\j∉qZ Z:=λj h=>uh.1 (by rw[ZY];exact h);have i:Region.ready .any ops.toArray (fP d D)=[]->False:=λh0=>by
  have:=bV co (b co fg).1 (b co fg).2;rw[h0]at this;cases this
 have E:∀j o,jd ops j=aN o->j∉qZ Z->∀p∈Z,o.dst≠aN p.d:=λj o h zC p f=>t p f j o h λe=>zC (ra.2 ⟨p,f,e.symm⟩);have x:∀{j:Nat} {o:Oper},jd ops j=aN o->j∉qZ Z->lL P ops mb ms S ws mk st o (λmk st=>T9 P ops mb ms S ws Z B5 gm A g (d.setIfInBounds j aF) mk st)->
   wpOp P ops.toArray Q j (λa' w'=>EE P ops mb ms S j w w'/\gF P .any ops.toArray Q (EE P ops mb ms S) m' ((fP d D).setIfInBounds j aF) a' w') a w:=by
  intro j o ho zC T;refine wpOp_mono (λa' w' q=>⟨q.1,?_⟩) (amG ho T Y);obtain⟨k0,v,el,dk,e,z,k3,k4,k5,k⟩:=q;rw[<-rL];have s:∀p∈Z,a'.tmps[p.d]? =a.tmps[p.d]? :=λp f=>v _ (E j o ho zC p f);have c:Late Z ws n D e a' w':=by
   rcases k with⟨rfl,rfl⟩ | ⟨rfl,k⟩
   .exact W.act s
   exact W.loud k s
  exact y m' J g z (V.trans k3) k4 k5 c f J
 split at T
 .rename_i q u;obtain⟨o,ho,T⟩:=bJ T;obtain⟨hc,T⟩:=eE T;simp only[B,QV]at hc;obtain⟨⟨⟨⟨⟨c1,c2⟩,c3⟩,c4⟩,c5⟩,c6⟩:=hc;obtain⟨f5,S⟩:=b q (by simpa using c6);have VZ:ops.toArray[q]? =aN o:=Xs
  have sK:ve .any ops.toArray (fP d D):=enK (acw c3) λz hz o fd=>by
   obtain⟨p,k,rfl⟩:=ra.1 (aC z hz);obtain⟨c,a,q⟩:=r p k;rw[lZ]at a;have:c=o:=by
    have e:ops.toArray[p.z]? =aN c:=by simpa using a
    rw[fd]at e;injection e with e;exact e.symm
   rw[<-this];exact(ph q).2.2.2.2.1
  have hN:∀k∈Yu d 0 ops,(fP d D).getD k aF=aF:=λk hk=>rM.2 (.inl (by simpa using(du.1 c5) k hk));have Tp:=Region.free_spec VZ c2;have JZ:∀j oj,ops.toArray[j]? =aN oj->j≠q->(fP d D).getD j aF=aM->(∀e∈oj.after,Region.binds .any e=aF->e.on≠q)->o.apart ops.toArray oj=aF:=λj oj P h2 h3 h4=>Tp j oj P h2 (by
   rw[eF]at h3⊢;exact λk=>h3 (rM.2 (.inl k))) h4
  have eQ:=bV q f5 S;obtain⟨s,e1,jN,P⟩:=Eo T Y;have tR:∀v,∀p∈Z,(a.put o.dst v).tmps[p.d]? =a.tmps[p.d]? :=λv p f=>(mW _ _ _).2.2 _ (E q o ho S p f);rcases P with⟨hw,P⟩ | ⟨hw,P⟩
  .obtain⟨v,s2,f6,k,e,k3,p,q,Z,s⟩:=afs P jN.B1;refine vg VZ (Region.noSelect_spec c1) (λc a w f=>(G _ _ _ f).elim) c4 (Yu d 0 ops) q (λz _=>vw ho z) m' (fP d D) a w sK hN JZ eQ (afe hw s) p ?_;rw[<-rL];exact y m' J g k (((V.trans e1).trans (Wm _)).trans (e.trans (Wm _))) I k3.B1 (W.act (tR v)) f J
  refine vg (v:=undef) (F:=λ_=>True) VZ (Region.noSelect_spec c1) (λc a w f=>(G _ _ _ f).elim) c4 (Yu d 0 ops) (λ_ _ _ _ _ _ _=>trivial) (λe _=>vw ho e) m' (fP d D) a w sK hN JZ eQ (Hp hw) trivial ?_;rw[<-rL];exact y m' J g P ((V.trans e1).trans ((H6 _ _ _).trans (Wm _))) I (jN.put o.dst .un).B1 (W.act (tR undef)) f J
 split at T
 .obtain⟨o,ho,T⟩:=bJ T;refine⟨λh0=>(i h0).elim,λj h=>?_⟩;by_cases zC:j∈qZ Z
  .exact AL I j (aS j h zC)
  have:j∈Gj (qZ Z) (Region.ready .any ops.toArray d):=uh.2 ⟨l j h zC,zC⟩;rw[ZY]at this;obtain rfl:j=co:=by simpa using this
  exact x ho zC T
 .rename_i c _;obtain⟨o,ho,T⟩:=bJ T;obtain⟨e,a,T⟩:=bJ T;refine⟨λh0=>(i h0).elim,λj h=>?_⟩;by_cases zC:j∈qZ Z
  .exact AL I j (aS j h zC)
  have:j∈Gj (qZ Z) (Region.ready .any ops.toArray d):=uh.2 ⟨l j h zC,zC⟩;rw[ZY]at this;rcases bh.1 this with rfl | this
  .exact x ho zC T.1
  have:=aV.1 this;subst this;exact x a zC T.2
 .rename_i p e _;obtain⟨o,ho,T⟩:=bJ T;obtain⟨q,c,T⟩:=bJ T;obtain⟨k,a,T⟩:=bJ T;refine⟨λh0=>(i h0).elim,λj h=>?_⟩;by_cases zC:j∈qZ Z
  .exact AL I j (aS j h zC)
  have:j∈Gj (qZ Z) (Region.ready .any ops.toArray d):=uh.2 ⟨l j h zC,zC⟩;rw[ZY]at this;rcases bh.1 this with rfl | this
  .exact x ho zC T.1
  rcases bh.1 this with rfl | this
  .exact x c zC T.2.1
  have:=aV.1 this;subst this;exact x a zC T.2.2
 exact T.elim
end
def St.JU(st:St)(d:Nat)(t:TypeId)(z:L SV)(b:Nat):St:=
 St.put {st with bx:=st.bx++[⟨aN b,t,z,st.ct,aF,aM,aM⟩],ct:=st.ct+1} (aN d) (.box (qj st.bx) 0)
def Ext.JU st d t zs b:Ext st (st.JU d t zs b):=by
 refine YX (t:={st with bx:=st.bx++[_],ct:=st.ct+1}) ⟨I,kB _,λ_ _ _ a _=>a,λi c h o s=>?_,λi b h=>?_,Kr⟩ (H6 _ _ _)
 .rw[mX]at h
  grind
 exact⟨b,by dsimp only;rw[mX,R (by have:=vm h;omega)];exact h,I,I,λ_ a=>a⟩
section
variable {β:Nat->Nat} {st:St} {a:Act} {w:aw}
def Rep.JU(f:Rep β st a w){d}{t}{zs}{b}(n:T2 (qj st.bx) st.fr=aF)(o:OJ (qj st.bx) st.bx=aF)(m:Ee st.bx st.dt=aF)(r:jS (λ_=>aM) zs=aF)
  (q:a.tmps[d]? =aN (.pointer (aN ⟨b,0,Pw⟩))) (B:Blk w b t (cT β0 zs)) (u:∀i c,dv st.bx i=aN c->c.ok=aF->β i≠b):
  Rep (Gi β (qj st.bx) b) (st.JU d t zs b) a w:=by
 have C:Gi β (qj st.bx) b (qj st.bx)=b:=by unfold Gi;rw[K I]
 have W:∀{i c},dv st.bx i=aN c->Gi β (qj st.bx) b i=β i:=fun{i c} h=>by
  unfold Gi;rw[R];have:=vm h;omega
 have s:Rep (Gi β (qj st.bx) b) {st with bx:=st.bx++[⟨aN b,t,zs,st.ct,aF,aM,aM⟩],ct:=st.ct+1} a w:=by
  refine⟨vi ⟨f.ok.sz,f.ok.df,λi p hl j=>?_⟩,λi c a w=>?_,λi d bi x t v y z A=>?_,?_,f.still⟩
  .rw[f.ok.at_ i p hl j];congr 1;exact kD (g:=λd=>!Nat.beq d (qj st.bx)) Eh _ (It n i p hl)
  .rw[mX]at a;split at a
   .rename_i e;simp at a;subst a;subst e;refine⟨?_,λk hk=>?_,λhk=>IL⟩
    .rw[C];rw[jC (g:=λ_=>aM) (β:=Gi β (qj st.bx) b) (β':=β0) (λi h=>Ue) _ r];exact B
    simp_all
   have e:=W a;obtain⟨h,p,k3⟩:=f.bx i c a w;refine⟨?_,λk hk=>by rw[e];exact p k hk,λhk=>by rw[e];exact k3 hk⟩;rw[e,<-jC (g:=λd=>!Nat.beq d (qj st.bx)) (β:=β) (β':=Gi β (qj st.bx) b) Eh _ (Iu o i c a w)];exact h
  .rw[mX]at t v;split at t
   .grind
   split at v
   .grind
   rw[W t,W v];exact f.ne i d bi x t v y z A
  have e:=wB λi j=>by
   obtain⟨c,a,_⟩:=xL m i j;exact W a
  rw[e];exact f.only
 refine⟨vi ⟨s.ok.sz,s.ok.df,λi p hl j=>?_⟩,s.bx,s.ne,s.only,s.still⟩;simp[St.JU,St.put,eW]at hl;cases l:Nat.beq d i
 .rw[l]at hl;exact s.ok.at_ i p G5 j
 rw[l]at hl;simp at hl;subst hl;have:=dh l;subst this;rw[q];show _=aN (Value.pointer _);rw[C]
end
def RW(b:Nat):L Nat->Prop->Prop
 | [],p=>p
 | x::r,p=>x≠b->RW b r p
def agO{b}:∀{l:L Nat} {p:Prop},RW b l p->(∀x∈l,x≠b)->p
 | [],_,h,_=>h
 | x::r,p,a,h=>agO (a (h x fg)) λy b=>h y (dX _ b)
def M4(w:aw)(mk:L (Nat×Nat)):L LZ->L Nat->St->(St->Prop)->Prop
 | [],_,st,K=>K st
 | p::r,s,st,K=>bif WK st p.zs then ∀b,w.heap.size<=b->b<st.w0.heap.size->Ep mk b->RW b s (M4 w mk r (b::s) (st.JU p.d p.t p.zs b) K)else False
def Q4{ws}{mk}{bz:Nat->Nat}{a}{w}:∀{r:L LZ} {s:L Nat} {st:St} {K:St->Prop} {b:Nat->Nat},M4 ws mk r s st K->Rep b st a w->st.mv=aM->
  (∀p∈r,a.tmps[p.d]? =aN (.pointer (aN ⟨bz p.z,0,Pw⟩))/\Blk w (bz p.z) p.t (cT β0 p.zs)/\ws.heap.size<=bz p.z/\Ep mk (bz p.z)/\jS (λ_=>aM) p.zs=aF/\(∀x∈s,x≠bz p.z)/\∀i c,dv st.bx i=aN c->c.ok=aF->b i≠bz p.z)->
  (qZ r).Nodup->(∀p∈r,∀q∈r,p.z≠q.z->bz p.z≠bz q.z)->∃k d,K k/\Ext st k/\Rep d k a w
 | [],_,st,K,b,h,a,_,_,_,_=>⟨st,b,h,Uk _,a⟩
 | p::r,s,st,K,b,a,l,m,o,n,hd=>by
  obtain⟨h,a⟩:=eE a;simp[WK,B]at h;obtain⟨t,j,u,v,w,z,A⟩:=o p fg;have a:=agO (a _ u (by rw[<-l.still m];exact j.lt) v) z;simp[qZ,List.nodup_cons]at n;have g:∀q∈r,p.z≠q.z:=λq f e=>n.1 (ra.2 ⟨q,f,e.symm⟩);have W:∀{i c},dv st.bx i=aN c->Gi b (qj st.bx) (bz p.z) i=b i:=fun{i c} a=>by
   unfold Gi;rw[R];have:=vm a;omega
  obtain⟨k,d,C,D,k3⟩:=Q4 a (l.JU h.1.1.1 h.1.1.2 h.2 w t j A) m (λq f=>by
   obtain⟨F,G,H,I,J,M,N⟩:=o q (dX _ f);have Q:=hd p fg q (dX _ f) (g q f);refine⟨F,G,H,I,J,λx E=>?_,λi c h P=>?_⟩
   .rcases bh.1 E with rfl | E
    .exact Q
    exact M x E
   simp[St.JU,St.put]at h;rw[mX]at h;split at h
   .rename_i e;subst e;unfold Gi;simp_all
   rw[W h];exact N i c h P) n.2 λx E y e=>hd x (dX _ E) y (dX _ e)
  exact⟨k,d,C,(Ext.JU _ _ _ _ _).trans D,k3⟩
def Y1(P:Program)(o:L Oper)(m s:M)(S:Nat->Prop)(w:aw)(Z:L LZ)(B:Array M)(g n:Nat)(mk:L (Nat×Nat))(st:St)(K:St->Prop):Prop:=
 bif Nat.beq (qj st.bx) n then fO st λst=>M4 w mk Z [] st λst=>Lu P o m s S (g-(qj (qZ Z))) (fP B (qZ Z)) st K else False
def Q5(P:Program)(o:L Oper)(j:M)(kp:L Nat)(i:L MI)(m a:M)(S:Nat->Prop)(Z:L LZ)(B:Array M)(g:Nat)(st:St)(K:St->Prop):Prop:=
 bif ue st.bx then
  (bif j then ∃J:L _->JT _,(∀mk,Lr _ (J mk) λv w=>Y1 P o m a S st.w0 Z B g (qj st.bx) mk (pf st kp i v w) K)/\
   T9 P o m a S st.w0 Z B g (λmk s=>fO s λs=>T7 st kp i (J mk) s) (qj o) (Array.replicate (qj o) aM) [] (St.B1 (st.sB (Wx Z)))
  else T9 P o m a S st.w0 Z B g (λmk s=>Y1 P o m a S st.w0 Z B g (qj st.bx) mk s K) (qj o) (Array.replicate (qj o) aM) [] (St.B1 (st.sB (Wx Z))))else False
def W1(o:L Oper)(Z:L Nat):Nat->Array M->Array M
 | 0,l=>l
 | f+1,l=>match Gj Z (Region.ready .any o.toArray l)with
  | []=>l
  | i::_=>W1 o Z f (l.setIfInBounds i aF)
def RV:L M->Nat
 | []=>0
 | b::r=>bif b then RV r else RV r+1
def Q6:∀{l:L mT} {i:Nat},i<(qj l)->∃b,dv l i=aN b
 | b::r,0,_=>⟨b,I⟩
 | b::r,i+1,h=>Q6 (l:=r) U3
section
variable {P:Program} {ops:L Oper} {mb ms:M} {S:Nat->Prop} {β:Nat->Nat} {a:Act} {w:aw} {B5:Array M} {gm:Nat} {jn:M} {kp:L Nat} {mi:L MI} {st:St} {K:St->Prop}
def rb4{Q}(y:∀c a w,¬Q (.panic c) a w)(r:H5 ops (nS P 0 ops)=aF)(h:Q5 P ops jn kp mi mb ms S (nS P 0 ops) B5 gm st K)(u:Rep β st a w)(W:st.mv=aM)
  (C:∀d j e f,K j->Ext st j->Rep d j e f->Q .normal e f):gF P .any ops.toArray Q (EE P ops mb ms S) (qj ops) (Array.replicate (qj ops) aM) a w:=by
 have n:(qZ (nS P 0 ops)).Nodup:=Et;have A:∀p∈nS P 0 ops,∃x,jd ops p.z=aN x/\zd P p.z x=aN p:=λp g=>by
  obtain⟨c,x,h,a,b⟩:=Es g
  grind
 generalize nS P 0 ops=Z at*
 obtain⟨B,h⟩:=eE h;rw[<-u.still W]at h;have t:∀mk j d e f z D m,Y1 P ops mb ms S w Z B5 gm (qj st.bx) mk j K->Ext st j->Rep d j e f->Late Z w z D mk e f->D.Perm (qZ Z)->m+qj D=gm->gF P .any ops.toArray Q (EE P ops mb ms S) m (fP B5 D) e f:=by
  intro mk j d e f z D m h he G M g hg;obtain⟨K,h⟩:=eE h;have K:=dh K;obtain⟨s1,h1,Y,S,xB,_,_,_,V0⟩:=ff h G;have Q:=he.trans Y;have N:∀i c,dv s1.bx i=aN c->c.ok=aF->d i<w.heap.size:=λi c E s=>by
   obtain⟨b,h⟩:=Q6 (l:=st.bx) (i:=i) (by have:=vm E;omega);obtain⟨w,a,T,k3,q⟩:=Q.ps i b h;rw[E]at a;injection a with a;subst a;have p:b.ok=aF:=by rw[<-k3];exact s
   obtain⟨k,hk⟩:=ik.1 (zY B i b h p);rw[(S.bx i c E s).at_ k (q k hk),<-(u.bx i b h p).at_ k hk];exact(u.bx i b h p).blk.lt
  have F:=λp P=>g.mem_iff.2 (ra.2 ⟨p,P,I⟩);obtain⟨s2,am,a,T,k3⟩:=Q4 (bz:=z) h1 S xB (λp P=>by
   obtain⟨b,k,l,w⟩:=M.at_ p P (F p P);obtain⟨x,_,s⟩:=A p P;exact⟨b,k,l,w,(ph s).2.2.2.2.2.2,X,λi c E s=>Xd⟩) n λp P q h=>M.ne _ (F p P) _ (F q h)
  have:=g.length_eq;rw[aac g,show m=gm-(qj (qZ Z)) by omega];exact wO y a k3 λJ s3 V w3 m1 m2 m3=>C J s3 V w3 m1 ((Q.trans T).trans m2) m3
 have L:Late Z w (λ_=>0) [] [] a w:=⟨λp _ h=>Ue,λ_ h=>Ue,λ_ h=>X,λ_ h=>Ue,H _⟩
 have R:=Rep.B1 (u.frame (fr':=Ea _ st.fr) λi p v=>by
  cases h:(Wx Z).elem i with
  | true=>rw[(nE (l:=st.fr)).1 h]at v;cases v
  | false=>rw[(nE (l:=st.fr)).2 h]at v;exact⟨p,v,I⟩)
 have o:Ext st (St.B1 (st.sB (Wx Z))):=(Ext.sB _ _).trans (Wm _);rcases rJ h with⟨_,h⟩ | ⟨_,h⟩
 .obtain⟨E,J,h⟩:=h;refine WZ y A r n (s0:=st) (λmk s d e f z D m hk l a k g p=>?_) (qj ops) (qj ops) (D:=[]) (Pd:=qZ Z) h o I R L (List.Perm.refl _) I;obtain⟨F,c,b,T,V,_⟩:=ff hk a;obtain⟨G,q,w⟩:=wN c T V (.inl (l.trans b)) (J mk);exact t mk _ _ e f z D m q Ext.ZI w k g p
 exact WZ y A r n (s0:=st) (λmk s d e f z D m hk c a b g k=>t mk s d e f z D m hk c a b g k) (qj ops) (qj ops) (D:=[]) (Pd:=qZ Z) h o I R L (List.Perm.refl _) I
end
inductive Ann where
 | o
 | s (x y:Ann)
 | j (kp:List Nat) (ms:List MI) (x y:Ann)
 | l (jn:Bool) (kp:List Nat) (ms:List MI)
def Ann.x:Ann->Ann
 | .s x _=>x
 | _=>.o
def Ann.y:Ann->Ann
 | .s _ y=>y
 | _=>.o
def Ann.d:Nat->Ann->Ann
 | 0,x=>x
 | n+1,x=>.s .o (d n x)
def fL:Nat:=4000
def YS(k:Nat):L mT->Prop->Prop
 | [],p=>p
 | b::r,p=>bif b.ok&&b.blk.isSome then(k≠b.blk.getD 0->YS k r p)else YS k r p
def OQ:L mT->Prop->Prop
 | [],p=>p
 | b::r,p=>bif b.ok&&b.blk.isSome then YS (b.blk.getD 0) r (OQ r p)else OQ r p
def OS{k}:∀{l:L mT} {p:Prop},YS k l p->(∀i b,dv l i=aN b->b.ok=aF->b.blk.isSome=aF->k≠b.blk.getD 0)->p
 | [],_,h,_=>h
 | b::r,p,h,d=>by
  unfold YS at h;cases a:(b.ok&&b.blk.isSome)with
  | true=>
   rw[a]at h;simp at a;exact OS (h (d 0 b I a.1 a.2)) λi c e=>d (i+1) c e
  | false=>
   rw[a]at h;exact OS h λi c b=>d (i+1) c b
def IC:∀{l:L mT} {p:Prop},OQ l p->(∀i a bi j,dv l i=aN bi->dv l a=aN j->bi.ok=aF->j.ok=aF->bi.blk.isSome=aF->j.blk.isSome=aF->i≠a->bi.blk.getD 0≠j.blk.getD 0)->p
 | [],_,h,_=>h
 | b::r,p,h,g=>by
  unfold OQ at h;have t:∀{p:Prop},OQ r p->p:=λh=>IC h λi a bi j e f k m n o q=>g (i+1) (a+1) bi j e f k m n o J;cases d:(b.ok&&b.blk.isSome)with
  | true=>
   rw[d]at h;simp at d;exact t (OS h λi c p e f=>g 0 (i+1) b c I p d.1 e d.2 f J)
  | false=>
   rw[d]at h;exact t h
def Me(P:Program)(o:L Oper)(draw:M)(st:St)(K:St->Prop):Prop:=
 bif draw then
  bif Iz P o&&Region.lexB .any o.toArray then WW (OL o) st λst=>Bl P o fL [] o st λst=>K {st with mv:=aF}
  else bif MV P o 0 o then fO {st with mv:=aF} λst=>OQ (bif OC P o 0 o then st.bx else[]) (∃S,Lu P o aF (OC P o 0 o) S (qj o) (Array.replicate (qj o) aM) st K)
  else Lu P o aM aM (λ_=>False) (qj o) (Array.replicate (qj o) aM) {st with mv:=aF} K
 else CS P o fL o st K
def QR(st:St)(K:St->Prop):Exit->Act->aw->Prop:=λe a w=>match e with
 | .normal=>∃b d,K d/\Ext st d/\Rep b d a w
 | _=>False
def Ext.mv s:Ext s {s with mv:=aF}:=⟨I,H _,λ_ _ _ h _=>h,λi b h o _=>⟨b,h,o,I,I,I,λ_ h=>h⟩,Ws,Kr⟩
def Rep.drew{β}{s}{a}{w w'}(h:Rep β s a w)(O:Only [] w w')(d:w'.heap=w.heap):Rep β {s with mv:=aF} a w':=
 ⟨h.fr,λi b c o=>by
  obtain⟨k,a,k3⟩:=h.bx i b c o;exact⟨by unfold Blk at k⊢;rw[d];exact k,a,k3⟩,h.ne,h.only.bU O,λh=>Ue⟩
section
variable {P:Program}
def aco(m:P.follows .mixedOrders=aF){id}{ops}{draw}{st}{K}{β}{a}{w}(h:Me P ops.toList draw st K)(R:Rep β st a w):
  (Code.region id ops draw).wp P (QR st K) a w:=by
 obtain⟨l⟩:=ops;rcases rJ h with⟨hd,x⟩ | ⟨hd,x⟩<;>clear h<;>have h:=x
 .subst hd;have d:=R.drew (Ls w 1) I;have f:∀{v y:M} {S:Nat->Prop} {b:St},Ext st b->Rep β b a w.drew->Lu P l v y S (qj l) _ b K->(Code.region id l.toArray aF).wp P (QR st K) a w:=λe j h=>
   eqA _ m (wO (λc a w u=>u) h j λr t o i p q k3=>⟨r,t,p,e.trans q,k3⟩)
  rcases rJ h with⟨g,h⟩ | ⟨_,h⟩
  .simp at g;obtain⟨s,z,A,B,_⟩:=Bo h R;obtain⟨D,p,q,k3,C⟩:=vj z;obtain⟨o,c,k⟩:=C trivial β a w B;refine wp_region_quiet_lit m g.2 ?_;have:=OH (Q:=λo=>∀i,(∃n,i=w.drewN n)->QR st K .normal o i) (rest:=[]) c (wpQuiet_nil (by
    rintro i ⟨n,rfl⟩;exact⟨β,_,p,(A.trans q).trans (Ext.mv _),k.drew (Ls w n) I⟩))
   simp_all
  rcases rJ h with⟨_,h⟩ | ⟨_,h⟩
  .obtain⟨b,g,e,j,_⟩:=ff h d;have z:∀c s bi a,dv b.bx c=aN bi->dv b.bx s=aN a->bi.ok=aF->a.ok=aF->bi.blk.isSome=aF->a.blk.isSome=aF->c≠s->bi.blk.getD 0≠a.blk.getD 0:=λc s bi a n A B C D E F=>by
    obtain⟨k,hk⟩:=ik.1 D;obtain⟨G,m⟩:=ik.1 E;have e:=(j.bx c bi n B).at_ k hk;have H:=(j.bx s a A C).at_ G m;rw[hk,m,jw,jw];have:=j.ne c s bi a n A B C F;omega
   obtain⟨S,n⟩:=IC g (by
    cases OC P l 0 l with
    | true=>exact z
    | false=>exact λc s bi a n=>by cases c<;>cases n)
   exact f ((Ext.mv st).trans e) j n
  exact f (Ext.mv st) d h
 subst hd;refine wp_region_lit (xM h R λa d c e k b k3=>⟨a,d,k,b,k3⟩)
def aft(P:Program)(o:L Oper)(j:M)(kp:L Nat)(m:L MI)(st:St)(K:St->Prop):Prop:=
 bif H5 o (nS P 0 o)then fO st.B1 λst=>
  (bif MV P o 0 o then OQ (bif OC P o 0 o then st.bx else[]) (∃S,Q5 P o j kp m aF (OC P o 0 o) S (nS P 0 o) (W1 o (qZ (nS P 0 o)) (qj o) (Array.replicate (qj o) aM)) (RV (W1 o (qZ (nS P 0 o)) (qj o) (Array.replicate (qj o) aM)).toList) st K)
  else Q5 P o j kp m aM aM (λ_=>False) (nS P 0 o) (W1 o (qZ (nS P 0 o)) (qj o) (Array.replicate (qj o) aM)) (RV (W1 o (qZ (nS P 0 o)) (qj o) (Array.replicate (qj o) aM)).toList) st K)
 else False
def aal(m:P.follows .mixedOrders=aF){id}{ops}{jn}{kp}{mi}{st}{K}{β}{a}{w}(h:aft P ops.toList jn kp mi st K)(R:Rep β st a w):
  (Code.region id ops aF).wp P (QR st K) a w:=by
 obtain⟨l⟩:=ops;obtain⟨z,h⟩:=eE h;obtain⟨s,b,e,j,x,_⟩:=ff h (R.drew (Ls w 1) I);have f:∀{d i:M} {S:Nat->Prop} {B:Array M} {g:Nat},Q5 P l jn kp mi d i S _ B g s K->(Code.region id l.toArray aF).wp P (QR st K) a w:=λh=>
  eqA _ m (rb4 (λc a w p=>p) z h j x λk n r t o q k3=>⟨k,n,o,((Wm st).trans e).trans q,k3⟩)
 rcases rJ b with⟨_,h⟩ | ⟨_,h⟩
 .have p:∀c o bi a,dv s.bx c=aN bi->dv s.bx o=aN a->bi.ok=aF->a.ok=aF->bi.blk.isSome=aF->a.blk.isSome=aF->c≠o->bi.blk.getD 0≠a.blk.getD 0:=λc o bi a n q r t u v y=>by
   obtain⟨k,hk⟩:=ik.1 u;obtain⟨A,m⟩:=ik.1 v;have e:=(j.bx c bi n r).at_ k hk;have C:=(j.bx o a q t).at_ A m;rw[hk,m,jw,jw];have:=j.ne c o bi a n q r t y;omega
  obtain⟨S,n⟩:=IC h (by
   cases OC P l 0 l with
   | true=>exact p
   | false=>exact λc o bi a n=>by cases c<;>cases n)
  exact f n
 exact f h
def V(P:Program):Code->Ann->St->(Exit->St->Prop)->Prop
 | .skip,_,st,K=>K .normal st
 | .label _,_,st,K=>K .normal st
 | .exit i,_,st,K=>K (.exit i) st
 | .ret,_,st,K=>K .ret st
 | .region _ o d,a,st,K=>(match a with
  | .l j kp m=>bif d then aft P o.toList j kp m st (K .normal)else False
  | .j kp m _ _=>fO st λst=>∃J,Lr _ J (λv w=>K .normal (pf st kp m v w))/\Me P o.toList d st λs=>fO s λs=>T7 st kp m J s
  | _=>Me P o.toList d st (K .normal))
 | .seq a b,n,st,K=>(match n with
  | .j kp m x y=>fO st λst=>∃J,Lr _ J (λv w=>V P b y (pf st kp m v w) K)/\V P a x st λe s=>(match e with
   | .normal=>fO s λs=>T7 st kp m J s
   | e=>K e s)
  | n=>V P a n.x st λe s=>(match e with
   | .normal=>V P b n.y s K
   | e=>K e s))
 | .cond c a b,n,st,K=>cE (st.ev c) λt=>(match t with
  | .bl aF=>V P a n.x st K
  | .bl aM=>V P b n.y st K
  | .bt t=>((t=aF->V P a n.x st K)/\(t=aM->V P b n.y st K))
  | _=>False)
 | .block i c,a,st,K=>V P c a st λe s=>(match e with
  | .exit d=>bif Nat.beq d i then K .normal s else K (.exit d) s
  | e=>K e s)
 | .loop c,a,st,K=>(match a with
  | .j kp m x _=>fO st λst=>(λst=>∃(I:Nat->JT _) (b:Nat),T7 st kp m (I b) st/\∀n,Lr _ (I n) λv w=>V P c x (pf st kp m v w) λe s=>(match e with
   | .normal=>fO s λs=>∃c,c<n/\T7 st kp m (I c) s
   | e=>K e s)) (st.esc (El st m))
  | _=>False)
 | _,_,_,_=>False
def QK(st:St)(K:Exit->St->Prop):Exit->Act->aw->Prop:=λe a w=>match e with
 | .normal=>∃b d,K .normal d/\Ext st d/\Rep b d a w
 | .exit i=>∃b d,K (.exit i) d/\Ext st d/\Rep b d a w
 | .ret=>∃b d,K .ret d/\Ext st d/\Rep b d a w
 | _=>False
def xQ{st KA}{K}(x:Ext st KA):∀e a w,QK KA K e a w->QK st K e a w:=λe a w h=>by
 cases e<;>first | exact h | (obtain⟨g,d,b,c,f⟩:=h;exact⟨g,d,b,x.trans c,f⟩)
def CT(m:P.follows .mixedOrders=aF):∀c {d:Ann} {st:St} {K:Exit->St->Prop} {b:Nat->Nat} {a:Act} {w:aw},V P c d st K->Rep b st a w->c.wp P (QK st K) a w
 | .skip,_,st,K,b,a,w,h,R=>wp_skip ⟨b,st,h,Uk _,R⟩
 | .label _,_,st,K,b,a,w,h,R=>wp_label ⟨b,st,h,Uk _,R⟩
 | .exit _,_,st,K,b,a,w,h,R=>wp_exit ⟨b,st,h,Uk _,R⟩
 | .ret,_,st,K,b,a,w,h,R=>wp_ret ⟨b,st,h,Uk _,R⟩
 | .region i o r,d,st,K,b,a,w,h,R=>by
  unfold V at h;split at h
  .cases r
   .exact h.elim
   refine wp_mono (aal m h R) λe a c q=>?_;cases e<;>first | exact q.elim | exact q
  .obtain⟨u,⟨s,J,h⟩,c,N,_⟩:=ff h R;refine wp_mono (aco m h N) λe t z q=>?_;cases e<;>try exact q.elim
   obtain⟨p,v,j,f,a⟩:=q;obtain⟨x,k,g,H,V,_⟩:=ff j a;obtain⟨y,l,n⟩:=wN k H V (.inl (f.trans g)) J;exact⟨_,_,l,c.trans Ext.ZI,n⟩
  refine wp_mono (aco m h R) λe a c q=>?_;cases e<;>first | exact q.elim | exact q
 | .seq x y,d,st,K,b,a,w,h,R=>by
  unfold V at h;split at h
  .obtain⟨s,⟨c,J,h⟩,a,j,_⟩:=ff h R;refine wp_seq (wp_mono (CT m x h j) λe f g q=>?_);cases e with
   | normal=>
    obtain⟨p,r,k,e,h⟩:=q;obtain⟨t,l,i,H,V,_⟩:=ff k h;obtain⟨v,n,o⟩:=wN l H V (.inl (e.trans i)) J;exact wp_mono (CT m y n o) (xQ (a.trans Ext.ZI))
   | exit _=>exact xQ a _ _ _ q
   | ret=>exact xQ a _ _ _ q
   | _=>exact q.elim
  refine wp_seq (wp_mono (CT m x h R) λe a c q=>?_);cases e with
  | normal=>
   obtain⟨g,s,h,e,f⟩:=q;exact wp_mono (CT m y h f) (xQ e)
  | _=>exact q
 | .cond c x y,d,st,K,b,a,w,h,R=>by
  obtain⟨t,f,h⟩:=bJ h;have ev:=R.ev f;split at h
  .exact wp_cond_true ev (CT m x h R)
  .exact wp_cond_false ev (CT m y h R)
  .exact wp_cond_split ev (λe=>CT m x (h.1 e) R) (λe=>CT m y (h.2 e) R)
  exact h.elim
 | .block i c,d,st,K,b,a,w,h,R=>by
  refine wp_block (wp_mono (CT m c h R) λe f g q=>?_);cases e with
  | exit j=>
   obtain⟨a,s,n,k,l⟩:=q;rcases rJ n with⟨e,c⟩ | ⟨e,c⟩
   .have:=dh e;subst this;exact tgP ⟨a,s,c,k,l⟩
   have o:¬j=i:=λh=>by rw[h]at e;simp at e
   exact xCQ (by simpa using o) ⟨a,s,c,k,l⟩
  | normal=>exact q
  | ret=>exact q
  | _=>exact q.elim
 | .loop c,d,st,K,b,a,w,h,R=>by
  unfold V at h;split at h
  .rename_i kp a x _;obtain⟨s,r,l,i,V,_⟩:=ff h R;have k:=l.trans (Ug s (El s a));have N:=i.esc (El s a);have B:(s.esc (El s a)).mv=aM:=V;generalize s.esc (El s a)=z at*
   obtain⟨I,y,o,h⟩:=r;refine wp_loop_ghost (λn j f=>∀K,Lr _ (I n) K->∃v,K v f/\Rep _ (pf z kp a v f) j f) y (λK g=>wN o N B (.inl (Uk _)) g) λn j f p=>?_;obtain⟨v,t,u⟩:=p _ (h n);refine wp_mono (CT m c t u) λe A C q=>?_;cases e with
   | normal=>
    obtain⟨G,J,x,c,h⟩:=q;obtain⟨L,⟨F,E,D⟩,n,H,e,_⟩:=ff x h;exact⟨F,E,λK g=>wN D H e (.inr ⟨v,f,c.trans n⟩) g⟩
   | exit _=>exact xQ (k.trans Ext.ZI) _ _ _ q
   | ret=>exact xQ (k.trans Ext.ZI) _ _ _ q
   | _=>exact q.elim
  exact h.elim
 | .rangeFunc _ _ _ _,_,_,_,_,_,_,h,_=>ML
 | .scope _,_,_,_,_,_,_,h,_=>ML
 | .goto _,_,_,_,_,_,_,h,_=>ML
 | .refuse _,_,_,_,_,_,_,h,_=>ML
def OT(P:Program)(st:St):L ResultVar->Option (L SV)
 | []=>aN []
 | .tmp t::r=>(match st.get t,OT P st r with
  | some v,aN l=>aN (v::l)
  | _,_=>Pw)
 | .cell p t::r=>(match st.get p,P.underlying t,OT P st r with
  | some (.box i o),aN d,aN l=>(match dv st.bx i with
   | some b=>bif b.ok&&sz P t (qj ((b.cells.drop o).take (qQ P t)))&&(pc d||Nat.beq (qj ((b.cells.drop o).take (qQ P t))) 1)then aN (T0 (pc d) ((b.cells.drop o).take (qQ P t))::l)else Pw
   | none=>Pw)
  | _,_,_=>Pw)
def Wk(P:Program)(r:L ResultVar)(R:ay->aw->Prop)(st:St):Prop:=cE (OT P st r) λv=>fO (st.esc v) λst=>bif jS (Li st.bx) v then R (val (N0 st.bx) (Ej v)) st.w0 else False
def IE{β}{st}{a}{w}(h:Rep β st a w):∀{r:L ResultVar} {c:L SV},OT P st r=aN c->GU P a w r (cT β c)
 | [],c,a=>by simp[OT]at a;subst a;trivial
 | .tmp t::b,c,a=>by
  simp[OT]at a;split at a
  .rename_i v l d e;simp at a;subst a;exact⟨h.get d,IE h e⟩
  cases a
 | .cell p t::f,c,a=>by
  simp only[OT]at a;split at a
  .rename_i k o d l g i j;split at a
   .rename_i b t;obtain⟨n,rfl⟩:=Ij a;simp only[B,cy]at n;obtain⟨⟨M,z⟩,p⟩:=n;refine⟨⟨_,h.get g,?_⟩,IE h j⟩;generalize u:(b.cells.drop o).take _=q at*
    have C:Cells w _ (cT β q):=((h.bx k b t M).blk).JR o _ (by
     rw[<-u];simp only[cT,mg,Bc];rw[ci,tX];simp only[cD,bH];omega)
    have m:=ny (P:=P) i w;cases hd:pc d
    .rw[hd]at m p;obtain⟨s,rfl⟩:=D6 (p.resolve_left X);exact xKI m (Xz C)
    rw[hd]at m;have e:=th hd β q;rw[hd]at e;rw[e];exact abm m (tH z w) (gM β q) C
   cases a
  cases a
def EJ:Nat->L SV->L (Nat×Nat×SV)
 | _,[]=>[]
 | i,s::r=>(i,0,s)::EJ (i+1) r
def IG β:∀i l,cv β (EJ i l)=Ig i (cT β l)
 | _,[]=>rfl
 | i,s::r=>by
  have:=IG β (i+1) r;simp[cv]at this;simp[EJ,cv,cT,Ig,this]
def Ny(f:Func)(args:L SV)(w:aw):St:={n:=f.ntmps,fr:=EJ 0 args,bx:=[],w0:=w,mv:=aM,dt:=[],ct:=1,df:=[]}
def nG(P:Program)(f:FuncId)(args:Array ay)(w:aw)(Q:ay->aw->Prop):Prop:=CallsD P f args .returning w λe u a=>u=.returning/\∃v,e=.returned v/\Q v a
def OU(P:Program)(R:ay->aw->Prop):L (Nat×L ay×L ay)->aw->Prop
 | [],w=>R (.tuple #[]) w
 | d::s,w=>bif WC P d.1 then nG P d.1 (d.2.1++d.2.2).toArray w λ_ a=>OU P R s a else False
def auD:L ResultVar->M
 | []=>aF
 | _=>aM
def XI(P:Program)(r:L ResultVar)(R:ay->aw->Prop)(st:St):Prop:=match st.df with
 | []=>Wk P r R st
 | _::_=>bif auD r then fO st λst=>OU P R st.df st.w0 else False
def EH(P:Program)(r:L ResultVar)(R:ay->aw->Prop)(st:St):Prop:=match st.df with
 | []=>Wk P r R st
 | _::_=>False
def Pe(P:Program)(f:FuncId)(a:Ann)(args:L SV)(R:ay->aw->Prop)(w:aw):Prop:=cE (P.funcs[f]?) λn=>cE n.body λc=>
 bif Nat.ble (qj args) n.ntmps then V P c a (Ny n args w) λe st=>(match e with
  | .normal=>XI P n.results.toList R st
  | .ret=>XI P n.results.toList R st
  | _=>False)else False
def Vfd(P:Program)(f:FuncId)(a:Ann)(args:L SV)(R:ay->aw->Prop)(w:aw):Prop:=cE (P.funcs[f]?) λn=>cE n.body λc=>
 bif Nat.ble (qj args) n.ntmps then V P c a (Ny n args w) λe st=>(match e with
  | .normal=>EH P n.results.toList R st
  | .ret=>EH P n.results.toList R st
  | _=>False)else False
def Q8{β}{st}{a}{w}{fn}{R}(d:Wk P fn.results.toList R st)(f:Rep β st a w):∃v,(results fn a.tmps).run P w=.ok v w/\R v w:=by
 obtain⟨g,i,d⟩:=bJ d;obtain⟨l,b,k,j,m,_⟩:=ff d (f.esc g);obtain⟨c,b⟩:=eE b;have h:=IE f i;rw[j.ap9 (zZ c),<-j.still m]at b;refine⟨_,?_,b⟩;have r:fn.results=fn.results.toList.toArray:=I
 match g,h,c with
 | [s],h,c=>exact ahi r h
 | [],h,c=>
  have e:val β (Ej [])=.tuple (cT β []).toArray:=I;exact Ox r I h
 | s::t::a,h,c=>
  have e:val β (Ej (s::t::a))=.tuple (cT β (s::t::a)).toArray:=by
   show Value.tuple (ua β _).toArray=_;rw[vh]
  rw[e];exact Ox r (rfl) h
def W4 args {n} (hk:qj args<=n):(⟨args.toArray++Array.replicate (n-args.toArray.size) undef,[]⟩)=fr n (λ_=>undef) (Ig 0 args):=by
 congr 1;apply VH.1;rw[Array.toList_append,Array.toList_replicate,sX];apply oa;intro i;by_cases h:i<n
 .rw[mC,pS _ _ _ _ _ h,bR,ShD]
  grind
 rw[cW S,cW (by rw[qY];omega)]
def ag1{fn}{tmps}{R}(r:fn.results.toList=[]):∀{l:L _} {w:aw},OU P R l w->Leaves P fn tmps (λe b=>∃v,e=.returned v/\R v b) (UH l) .returning w
 | [],w,h=>by
  have s:fn.results=([]).toArray:=by rw[<-r]
  exact⟨_,Ox (a:=⟨tmps,[]⟩) (rs:=[]) (vs:=[]) s I trivial,_,I,h⟩
 | d::s,w,h=>by
  obtain⟨a,h⟩:=eE h;refine leaves_cons (λh=>Ue) (f:=d.1) (args:=(d.2.1++d.2.2).toArray) ?_ (h.mono ?_)
  .have:=gN a (d.2.1++d.2.2).toArray w;rw[<-List.append_toArray]at this⊢;exact this
  rintro e u b ⟨rfl,v,rfl,h⟩;exact ag1 r h
def aiq{β}{st}{a}{w}{fn}{R}(h:XI P fn.results.toList R st)(b:Rep β st a w):Leaves P fn a.tmps (λe c=>∃v,e=.returned v/\R v c) a.defers .returning w:=by
 rw[b.ok.df];unfold XI at h;split at h
 .rename_i hd;rw[hd];obtain⟨v,k,a⟩:=Q8 h b;exact⟨v,k,v,I,a⟩
 obtain⟨a,h⟩:=eE h;obtain⟨s,d,e,j,m,_⟩:=ff h b;have r:fn.results.toList=[]:=by
  cases f:fn.results.toList with
  | nil=>rfl
  | cons _ _=>rw[f]at a;cases a
 have Z:s.df=st.df:=by
  obtain⟨g,l⟩:=e.df;have f:=bN List.length (j.ok.df.symm.trans b.ok.df);rw[UH,UH,bH,bH,l,aP]at f
  grind
 rw[<-j.still m]at d;rw[<-Z];exact ag1 r d
def amJ(m:P.follows .mixedOrders=aF){f}{an}{args}{R}{w}(h:Pe P f an args R w):Calls P f (cT β0 args).toArray w λe a=>∃v,e=.returned v/\R v a:=by
 obtain⟨n,g,h⟩:=bJ h;obtain⟨c,hb,h⟩:=bJ h;obtain⟨i,h⟩:=eE h;have d:Rep β0 (Ny n args w) (fr n.ntmps _ (Ig 0 _)) w:=
  ⟨⟨λ_=>undef,by rw[<-IG];rfl⟩,λc b hb=>YY,λc f bi e hb=>YY,Ib _ _,λ_=>I⟩
 refine calls_of_wp_defers g hb ?_;rw[W4 _ (by rw[gM];exact dz i)];refine wp_mono (CT m c h d) λe j a q=>?_;cases e with
 | normal=>
  obtain⟨e,s,b,f,c⟩:=q;exact aiq b c
 | ret=>
  obtain⟨e,s,b,f,c⟩:=q;exact aiq b c
 | exit _=>
  obtain⟨c,s,b,_⟩:=q;exact b.elim
 | _=>exact q.elim
def amK(m:P.follows .mixedOrders=aF){f}{an}{args}{R}{w}(h:Vfd P f an args R w):nG P f (cT β0 args).toArray w R:=by
 obtain⟨n,k,h⟩:=bJ h;obtain⟨c,hb,h⟩:=bJ h;obtain⟨l,h⟩:=eE h;have d:Rep β0 (Ny n args w) (fr n.ntmps _ (Ig 0 _)) w:=
  ⟨⟨λ_=>undef,by rw[<-IG];rfl⟩,λc b hb=>YY,λc f bi e hb=>YY,Ib _ _,λ_=>I⟩
 refine(callsD_of_wp (R:=λe g=>∃v,e=.returned v/\R v g) k hb ?_).mono (λe u g h=>h);rw[W4 _ (by rw[gM];exact dz l)];refine wp_mono (CT m c h d) λe j g q=>?_;have i:∀{a:Nat->Nat} {s:St},EH P n.results.toList R s->Rep a s j g->_/\j.defers=[]:=fun{a s} h d=>by
  unfold EH at h;split at h
  .rename_i hd;exact⟨Q8 h d,by rw[d.ok.df,hd];rfl⟩
  exact h.elim
 cases e with
 | normal=>
  obtain⟨a,s,b,o,c⟩:=q;obtain⟨⟨v,e,f⟩,k3⟩:=i b c;exact adD e k3 f
 | ret=>
  obtain⟨a,s,b,o,c⟩:=q;obtain⟨⟨v,e,f⟩,k3⟩:=i b c;exact ace e k3 f
 | exit _=>
  obtain⟨a,s,b,_⟩:=q;exact b.elim
 | _=>exact q.elim
def amL{f}{an}{args}{R}{w}{vs}{vc}(m:P.follows .mixedOrders=aF)(b:vs=(cT β0 args).toArray)(a:vc=Pe P f an args R w)(h:vc):Calls P f vs w λe c=>∃v,e=.returned v/\R v c:=by
 subst a b;exact amJ m h
def amM{f}{an}{args}{R}{w}{vs}{vc}(m:P.follows .mixedOrders=aF)(v:vs=(cT β0 args).toArray)(e:vc=Vfd P f an args R w)(h:vc):nG P f vs w R:=by
 subst e v;exact amK m h
end
end Go.Kt.V
namespace Go.Proofs.YtdfibecibkijiaaGreatDoor.Vc
open Go.Value renaming int->O,string->ab,pointer->ae,agg->ah,tuple->ai,bool->aj
open Go.IntKind renaming i64->U,wrap->au
open Go.Ending renaming returned->ak
open _root_.ByteArray renaming mk->ao
open _root_.Go.Proofs.Tryz renaming prog->aq
open Go.Instr renaming buildSlice->av
open Go renaming World->aw,Value->ay,Calls->aA
open Go.Kt renaming Only->az,SliceF->aB,Cells->aD,OnlyP->aE,Blk->aG
open Go Go.RowKit Go.Kt Go.Kt.V
abbrev N(c:M)(x y:Prop):Prop:=(c=aF->x)/\(c=aM->y)
abbrev cB(f:FuncId)(a:Array ay)(w:aw)(K:M->aw->Prop):Prop:=aA aq f a w λe b=>∃x,e=ak (aj x)/\K x b
abbrev lf(s:L Nat)(f:FuncId)(a:Array ay)(w:aw)(K:M->aw->Prop):Prop:=aA aq f a w λe b=>∃x,e=ak (aj x)/\cj s w b/\K x b
abbrev cI(f:FuncId)(a:Array ay)(w:aw)(K:Int->aw->Prop):Prop:=aA aq f a w λe b=>∃x,e=ak (O U x)/\K x b
abbrev oT(s:L Nat)(f:FuncId)(a:Array ay)(w:aw)(K:Int->aw->Prop):Prop:=aA aq f a w λe b=>∃x,e=ak (O U x)/\cj s w b/\K x b
abbrev cS(f:FuncId)(a:Array ay)(w:aw)(K:D->aw->Prop):Prop:=aA aq f a w λe b=>∃x,e=ak (ab x)/\K x b
abbrev rN(s:L Nat)(f:FuncId)(a:Array ay)(w:aw)(K:D->aw->Prop):Prop:=aA aq f a w λe b=>∃x,e=ak (ab x)/\cj s w b/\K x b
abbrev cL(f:FuncId)(a:Array ay)(w:aw)(K:Sl->aw->Prop):Prop:=aA aq f a w λe b=>∃x,e=ak (x.v)/\K x b
abbrev wP(s:L Nat)(f:FuncId)(a:Array ay)(w:aw)(K:Sl->aw->Prop):Prop:=aA aq f a w λe b=>∃x,e=ak (x.v)/\cj s w b/\K x b
abbrev cU(f:FuncId)(a:Array ay)(w:aw)(K:aw->Prop):Prop:=aA aq f a w λe b=>e=ak (ai #[])/\K b
abbrev gn(s:L Nat)(f:FuncId)(a:Array ay)(w:aw)(K:aw->Prop):Prop:=aA aq f a w λe b=>e=ak (ai #[])/\cj s w b/\K b
abbrev LG(x:Sem ay)(a:aw)(K:Sl->aw->Prop):Prop:=∃l w,x.run aq a=.ok (Sl.v l) w/\K l w
abbrev nx(k:Nat)(K:A):Prop:=∃n,n<k/\K n
abbrev z(a:aw)(K:Nat->aw->Prop):Prop:=∀k w,a.heap.size<=k->k<w.heap.size->az [] a w->K k w
abbrev lp0(w:aw)(B:(Nat->aw->Prop)->Nat->aw->Prop):Prop:=∃J k,J k w/\∀k w,J k w->B J k w
abbrev nW{a:Type}(x:a)(w:aw)(B:(Nat->a->aw->Prop)->Nat->a->aw->Prop):Prop:=∃J k,J k x w/\∀k x w,J k x w->B J k x w
abbrev Dk{a b:Type}(x:a)(y:b)(w:aw)(B:(Nat->a->b->aw->Prop)->Nat->a->b->aw->Prop):Prop:=∃J k,J k x y w/\∀k x y w,J k x y w->B J k x y w
abbrev CU(X:aw->Prop)(Y:(aw->Prop)->Prop):Prop:=∃J,(∀w,J w->X w)/\Y J
abbrev lK{a:Type}(X:a->aw->Prop)(Y:(a->aw->Prop)->Prop):Prop:=∃J,(∀x w,J x w->X x w)/\Y J
abbrev WR{a b:Type}(X:a->b->aw->Prop)(Y:(a->b->aw->Prop)->Prop):Prop:=∃J,(∀x y w,J x y w->X x y w)/\Y J
abbrev jn3{a b c:Type}(X:a->b->c->aw->Prop)(Y:(a->b->c->aw->Prop)->Prop):Prop:=∃J,(∀x y z w,J x y z w->X x y z w)/\Y J
abbrev Oo(w:aw)(p:Addr)(K:M->Prop):Prop:=∃x,aD w p [aj x]/\K x
abbrev gw(w:aw)(p:Addr)(K:Int->Prop):Prop:=∃x,aD w p [O U x]/\K x
abbrev kH(w:aw)(p:Addr)(K:Int->Int->D->Int->Sl->Int->Prop):Prop:=∃x a b c d e,aD w p [O U x,O U a,ab b,O U c,d.v,O U e]/\K x a b c d e
abbrev IH(w:aw)(p:Addr)(K:Int->D->Int->Int->Prop):Prop:=∃x a b c,aD w p [O U x,ab a,O U b,O U c]/\K x a b c
abbrev j9(w:aw)(p:Addr)(K:Sl->Prop):Prop:=∃x,aD w p [x.v]/\K x
abbrev ahN(w:aw)(p:Addr)(K:Sl->Sl->Sl->Sl->Prop):Prop:=∃x a b c,aD w p [x.v,a.v,b.v,c.v]/\K x a b c
abbrev OB(w:aw)(p:Addr)(K:Option Nat->Prop):Prop:=∃x,aD w p [.map x]/\K x
abbrev Ow(w:aw)(p:Addr)(K:Option Addr->Prop):Prop:=∃x,aD w p [ae x]/\K x
abbrev Eu(w:aw)(p:Addr)(K:D->Prop):Prop:=∃x,aD w p [ab x]/\K x
abbrev xCV(w:aw)(p:Addr)(K:OV->Prop):Prop:=∃x,aD w p [x.v]/\K x
abbrev xKB(w:aw)(b n:Nat)(K:M->Prop):Prop:=∃x,aG w b n [aj x]/\K x
abbrev ahP(w:aw)(b n:Nat)(K:M->M->M->M->Prop):Prop:=∃x a c d,aG w b n [aj x,aj a,aj c,aj d]/\K x a c d
abbrev Ga(w:aw)(b n:Nat)(K:Int->Prop):Prop:=∃x,aG w b n [O U x]/\K x
abbrev amP(w:aw)(b n:Nat)(K:Int->Int->Int->Prop):Prop:=∃x a c,aG w b n [O U x,O U a,O U c]/\K x a c
abbrev abr(w:aw)(b n:Nat)(K:Int->Int->Int->D->Int->Sl->Int->Prop):Prop:=∃x a c d e f g,aG w b n [O U x,O U a,O U c,ab d,O U e,f.v,O U g]/\K x a c d e f g
abbrev abB(w:aw)(b n:Nat)(K:Int->D->D->D->Sl->Sl->Sl->Sl->Int->Prop):Prop:=∃x a c d e f g h i,aG w b n [O U x,ab a,ab c,ab d,e.v,f.v,g.v,h.v,O U i]/\K x a c d e f g h i
abbrev Ks(w:aw)(b n:Nat)(K:Sl->Prop):Prop:=∃x,aG w b n [x.v]/\K x
abbrev acO(w:aw)(b n:Nat)(K:Sl->Int->Int->Int->Int->Prop):Prop:=∃x a c d e,aG w b n [x.v,O U a,O U c,O U d,O U e]/\K x a c d e
abbrev jU(w:aw)(b n:Nat)(K:Sl->Int->Int->Int->Int->Int->Int->Int->Int->Prop):Prop:=∃x a c d e f g h i,aG w b n [x.v,O U a,O U c,O U d,O U e,O U f,O U g,O U h,O U i]/\K x a c d e f g h i
abbrev agK(w:aw)(b n:Nat)(K:Sl->Int->Int->Int->Int->Sl->Prop):Prop:=∃x a c d e f,aG w b n [x.v,O U a,O U c,O U d,O U e,f.v]/\K x a c d e f
abbrev re(w:aw)(b n:Nat)(K:Sl->Int->D->D->D->Sl->Sl->Sl->Sl->Int->Prop):Prop:=∃x a c d e f g h i j,aG w b n [x.v,O U a,ab c,ab d,ab e,f.v,g.v,h.v,i.v,O U j]/\K x a c d e f g h i j
abbrev qA(w:aw)(b n:Nat)(K:Sl->Int->D->D->D->Sl->Sl->Sl->Sl->Int->Sl->Int->Int->Prop):Prop:=∃c d e f g h i j k l N a x,aG w b n [c.v,O U d,ab e,ab f,ab g,h.v,i.v,j.v,k.v,O U l,N.v,O U a,O U x]/\K c d e f g h i j k l N a x
abbrev Ev(w:aw)(b n:Nat)(K:Sl->Sl->Sl->Sl->Prop):Prop:=∃x a c d,aG w b n [x.v,a.v,c.v,d.v]/\K x a c d
abbrev wQ(w:aw)(b n:Nat)(K:Sl->Sl->Sl->Sl->Sl->Sl->Prop):Prop:=∃x a c d e f,aG w b n [x.v,a.v,c.v,d.v,e.v,f.v]/\K x a c d e f
abbrev II(w:aw)(b n:Nat)(K:Option Nat->Sl->Option Nat->Int->Int->Prop):Prop:=∃x a c d e,aG w b n [.map x,a.v,.map c,O U d,O U e]/\K x a c d e
abbrev Gc(w:aw)(b n:Nat)(K:Option Addr->Prop):Prop:=∃x,aG w b n [ae x]/\K x
abbrev pj(w:aw)(b n:Nat)(K:Option Addr->Sl->M->Int->Prop):Prop:=∃x a c d,aG w b n [ae x,a.v,aj c,O U d]/\K x a c d
abbrev Q9(w:aw)(b n:Nat)(K:Option Addr->Sl->Sl->Prop):Prop:=∃x a c,aG w b n [ae x,a.v,c.v]/\K x a c
abbrev xKS(w:aw)(b n:Nat)(K:D->Prop):Prop:=∃x,aG w b n [ab x]/\K x
abbrev Xh(w:aw)(b n:Nat)(K:D->Int->Prop):Prop:=∃x a,aG w b n [ab x,O U a]/\K x a
abbrev Ew(w:aw)(b n:Nat)(K:D->Int->Sl->Sl->Prop):Prop:=∃x a c d,aG w b n [ab x,O U a,c.v,d.v]/\K x a c d
abbrev Q1(w:aw)(b n:Nat)(K:OV->Prop):Prop:=∃x,aG w b n [x.v]/\K x
abbrev xYB(s:Sl)(i:Int)(w:aw)(K:M->Prop):Prop:=∃p,cK s i 1 p/\∃x,aD w p [aj x]/\K x
abbrev yu(s:Sl)(i:Int)(w:aw)(K:Int->Prop):Prop:=∃p,cK s i 1 p/\∃x,aD w p [O U x]/\K x
abbrev G1(s:Sl)(i:Int)(w:aw)(K:Int->Int->Int->D->Int->Sl->Int->Prop):Prop:=∃p,cK s i 7 p/\∃x a b c d e f,aD w p [O U x,O U a,O U b,ab c,O U d,e.v,O U f]/\K x a b c d e f
abbrev kO(s:Sl)(i:Int)(w:aw)(K:Int->Int->D->Int->Sl->Int->Prop):Prop:=∃p,cK s i 6 p/\∃x a b c d e,aD w p [O U x,O U a,ab b,O U c,d.v,O U e]/\K x a b c d e
abbrev auF(s:Sl)(i:Int)(w:aw)(K:Int->Sl->Prop):Prop:=∃p,cK s i 2 p/\∃x a,aD w p [O U x,a.v]/\K x a
abbrev iY(s:Sl)(l:Int)(w:aw)(K:Int->D->Int->M->Int->Int->D->Int->Sl->Int->Sl->Sl->Int->Prop):Prop:=∃p,cK s l 13 p/\∃b c d e f g h i j k N a x,aD w p [O U b,ab c,O U d,aj e,O U f,O U g,ab h,O U i,j.v,O U k,N.v,a.v,O U x]/\K b c d e f g h i j k N a x
abbrev niV(s:Sl)(i:Int)(w:aw)(K:Int->D->Int->Int->Prop):Prop:=∃p,cK s i 4 p/\∃x a b c,aD w p [O U x,ab a,O U b,O U c]/\K x a b c
abbrev acP(s:Sl)(i:Int)(w:aw)(K:Int->D->Int->Int->Int->Prop):Prop:=∃p,cK s i 5 p/\∃x a b c d,aD w p [O U x,ab a,O U b,O U c,O U d]/\K x a b c d
abbrev wR(s:Sl)(i:Int)(w:aw)(K:Int->D->Int->Int->D->Int->Sl->Int->Int->Prop):Prop:=∃p,cK s i 9 p/\∃x a b c d e f g h,aD w p [O U x,ab a,O U b,O U c,ab d,O U e,f.v,O U g,O U h]/\K x a b c d e f g h
abbrev gP(s:Sl)(i:Int)(w:aw)(K:Int->D->D->D->Sl->Sl->Sl->Sl->Int->Prop):Prop:=∃p,cK s i 9 p/\∃x a b c d e f g h,aD w p [O U x,ab a,ab b,ab c,d.v,e.v,f.v,g.v,O U h]/\K x a b c d e f g h
abbrev Ra(s:Sl)(i:Int)(w:aw)(K:Sl->Prop):Prop:=∃p,cK s i 1 p/\∃x,aD w p [x.v]/\K x
abbrev IJ(s:Sl)(i:Int)(w:aw)(K:D->Prop):Prop:=∃p,cK s i 1 p/\∃x,aD w p [ab x]/\K x
abbrev afu(s:Sl)(i:Int)(w:aw)(K:D->Int->Int->Prop):Prop:=∃p,cK s i 3 p/\∃x a b,aD w p [ab x,O U a,O U b]/\K x a b
abbrev Q(a:Addr):ay:=ae (aN a)
abbrev pB(k:Nat):ay:=ae (aN ⟨k,0,Pw⟩)
abbrev zH(a:aw)(K:Nat->Nat->aw->Prop):Prop:=∀k l w,a.heap.size<=k->k<w.heap.size->a.heap.size<=l->l<w.heap.size->az [] a w->K k l w
abbrev MO(a:aw)(K:Nat->Nat->Nat->aw->Prop):Prop:=∀k l m w,a.heap.size<=k->k<w.heap.size->a.heap.size<=l->l<w.heap.size->a.heap.size<=m->m<w.heap.size->az [] a w->K k l m w
abbrev o0(a:aw)(K:aw->Prop):Prop:=∀w,az [] a w->K w
abbrev spl(f:FuncId)(a:Array ay)(w:aw)(K:Int->D->Int->M->Int->Int->D->Int->Sl->Int->Sl->Sl->Int->aw->Prop):Prop:=aA aq f a w λe o=>∃(c:Int) (d:D) (g:Int) (h:M) (i:Int) (j:Int) (k:D) (l:Int) (m:Sl) (n:Int) (N:Sl) (b:Sl) (x:Int),e=ak (ah #[O U c,ab d,O U g,aj h,O U i,O U j,ab k,O U l,m.v,O U n,N.v,b.v,O U x])/\K c d g h i j k l m n N b x o
abbrev rE0(f:FuncId)(a:Array ay)(w:aw)(K:Int->D->Int->Int->D->Int->Sl->Int->Int->aw->Prop):Prop:=aA aq f a w λe l=>∃(x:Int) (b:D) (c:Int) (d:Int) (g:D) (h:Int) (i:Sl) (j:Int) (k:Int),e=ak (ah #[O U x,ab b,O U c,O U d,ab g,O U h,i.v,O U j,O U k])/\K x b c d g h i j k l
abbrev Ae(f:FuncId)(a:Array ay)(w:aw)(K:Int->D->Int->Int->aw->Prop):Prop:=aA aq f a w λe g=>∃(x:Int) (b:D) (c:Int) (d:Int),e=ak (ah #[O U x,ab b,O U c,O U d])/\K x b c d g
abbrev amQ(f:FuncId)(a:Array ay)(w:aw)(K:Int->aw->Prop):Prop:=aA aq f a w λe b=>∃(x:Int),e=ak (.int .u64 x)/\K x b
abbrev ajG(f:FuncId)(a:Array ay)(w:aw)(K:Sl->Int->D->D->D->Sl->Sl->Sl->Sl->Int->Int->Int->aw->Prop):Prop:=aA aq f a w λe n=>∃(x:Sl) (c:Int) (d:D) (g:D) (h:D) (i:Sl) (j:Sl) (k:Sl) (l:Sl) (m:Int) (N:Int) (b:Int),e=ak (ai #[ah #[x.v,O U c,ab d,ab g,ab h,i.v,j.v,k.v,l.v,O U m],ah #[O U N,O U b]])/\K x c d g h i j k l m N b n
abbrev afv(f:FuncId)(a:Array ay)(w:aw)(K:Int->OV->aw->Prop):Prop:=aA aq f a w λe c=>∃(x:Int) (b:OV),e=ak (ai #[O U x,b.v])/\K x b c
abbrev ahR(f:FuncId)(a:Array ay)(w:aw)(K:Int->Int->Int->aw->Prop):Prop:=aA aq f a w λe d=>∃(x:Int) (b:Int) (c:Int),e=ak (ai #[O U x,O U b,O U c])/\K x b c d
abbrev NdC(f:FuncId)(a:Array ay)(w:aw)(K:D->D->M->aw->Prop):Prop:=aA aq f a w λe d=>∃(x:D) (b:D) (c:M),e=ak (ai #[ab x,ab b,aj c])/\K x b c d
abbrev rVs(s:L Nat)(f:FuncId)(a:Array ay)(w:aw)(K:OV->aw->Prop):Prop:=aA aq f a w λe b=>∃(x:OV),e=ak (x.v)/\cj s w b/\K x b
abbrev fW(s:L Nat)(f:FuncId)(a:Array ay)(w:aw)(K:Int->Int->D->Int->Sl->Int->aw->Prop):Prop:=aA aq f a w λe b=>∃(x:Int) (c:Int) (d:D) (g:Int) (h:Sl) (i:Int),e=ak (ah #[O U x,O U c,ab d,O U g,h.v,O U i])/\cj s w b/\K x c d g h i b
abbrev OW(s:L Nat)(f:FuncId)(a:Array ay)(w:aw)(K:Int->Int->aw->Prop):Prop:=aA aq f a w λe b=>∃(x:Int) (c:Int),e=ak (ah #[O U x,O U c])/\cj s w b/\K x c b
abbrev wS(s:L Nat)(f:FuncId)(a:Array ay)(w:aw)(K:Int->D->Int->Int->aw->Prop):Prop:=aA aq f a w λe b=>∃(x:Int) (c:D) (d:Int) (g:Int),e=ak (ah #[O U x,ab c,O U d,O U g])/\cj s w b/\K x c d g b
abbrev pV(s:L Nat)(f:FuncId)(a:Array ay)(w:aw)(K:Int->D->D->D->Sl->Sl->Sl->Sl->Int->aw->Prop):Prop:=aA aq f a w λe b=>∃(x:Int) (c:D) (d:D) (g:D) (h:Sl) (i:Sl) (j:Sl) (k:Sl) (l:Int),e=ak (ah #[O U x,ab c,ab d,ab g,h.v,i.v,j.v,k.v,O U l])/\cj s w b/\K x c d g h i j k l b
abbrev acQ(s:L Nat)(f:FuncId)(a:Array ay)(w:aw)(K:D->Int->Int->aw->Prop):Prop:=aA aq f a w λe b=>∃(x:D) (c:Int) (d:Int),e=ak (ah #[ab x,O U c,O U d])/\cj s w b/\K x c d b
abbrev rQs(s:L Nat)(f:FuncId)(a:Array ay)(w:aw)(K:Option Addr->aw->Prop):Prop:=aA aq f a w λe b=>∃(x:Option Addr),e=ak (ae x)/\cj s w b/\K x b
abbrev Bs(s:L Nat)(f:FuncId)(a:Array ay)(w:aw)(K:Sl->Int->Int->aw->Prop):Prop:=aA aq f a w λe b=>∃(x:Sl) (c:Int) (d:Int),e=ak (ai #[x.v,ah #[O U c,O U d]])/\cj s w b/\K x c d b
abbrev ahS(s:L Nat)(f:FuncId)(a:Array ay)(w:aw)(K:Sl->M->aw->Prop):Prop:=aA aq f a w λe b=>∃(x:Sl) (c:M),e=ak (ai #[x.v,aj c])/\cj s w b/\K x c b
abbrev OX(s:L Nat)(f:FuncId)(a:Array ay)(w:aw)(K:Sl->Int->aw->Prop):Prop:=aA aq f a w λe b=>∃(x:Sl) (c:Int),e=ak (ai #[x.v,O U c])/\cj s w b/\K x c b
abbrev rO(s:L Nat)(f:FuncId)(a:Array ay)(w:aw)(K:Sl->Sl->Sl->Sl->Int->Int->aw->Prop):Prop:=aA aq f a w λe b=>∃(x:Sl) (c:Sl) (d:Sl) (g:Sl) (h:Int) (i:Int),e=ak (ai #[ah #[x.v,c.v,d.v,g.v],ah #[O U h,O U i]])/\cj s w b/\K x c d g h i b
abbrev qh(s:L Nat)(f:FuncId)(a:Array ay)(w:aw)(K:Sl->Int->D->D->D->Sl->Sl->Sl->Sl->Int->Int->Int->aw->Prop):Prop:=aA aq f a w λe c=>∃(x:Sl) (d:Int) (g:D) (h:D) (i:D) (j:Sl) (k:Sl) (l:Sl) (m:Sl) (n:Int) (N:Int) (b:Int),e=ak (ai #[ah #[x.v,O U d,ab g,ab h,ab i,j.v,k.v,l.v,m.v,O U n],ah #[O U N,O U b]])/\cj s w c/\K x d g h i j k l m n N b c
abbrev b25(s:L Nat)(f:FuncId)(a:Array ay)(w:aw)(K:Int->Int->Int->D->Int->Sl->Int->M->aw->Prop):Prop:=aA aq f a w λe b=>∃(x:Int) (c:Int) (d:Int) (g:D) (h:Int) (i:Sl) (j:Int) (k:M),e=ak (ai #[ah #[O U x,O U c,O U d,ab g,O U h,i.v,O U j],aj k])/\cj s w b/\K x c d g h i j k b
abbrev agR(s:L Nat)(f:FuncId)(a:Array ay)(w:aw)(K:Int->Int->D->Int->Sl->Int->Int->Int->aw->Prop):Prop:=aA aq f a w λe b=>∃(x:Int) (c:Int) (d:D) (g:Int) (h:Sl) (i:Int) (j:Int) (k:Int),e=ak (ai #[ah #[O U x,O U c,ab d,O U g,h.v,O U i],ah #[O U j,O U k]])/\cj s w b/\K x c d g h i j k b
abbrev oh(s:L Nat)(f:FuncId)(a:Array ay)(w:aw)(K:Int->Int->D->Int->Sl->Int->Int->Int->Int->aw->Prop):Prop:=aA aq f a w λe b=>∃(x:Int) (c:Int) (d:D) (g:Int) (h:Sl) (i:Int) (j:Int) (k:Int) (l:Int),e=ak (ai #[ah #[O U x,O U c,ab d,O U g,h.v,O U i],O U j,ah #[O U k,O U l]])/\cj s w b/\K x c d g h i j k l b
abbrev afL(s:L Nat)(f:FuncId)(a:Array ay)(w:aw)(K:Int->D->Int->Int->Int->Int->aw->Prop):Prop:=aA aq f a w λe b=>∃(x:Int) (c:D) (d:Int) (g:Int) (h:Int) (i:Int),e=ak (ai #[ah #[O U x,ab c,O U d,O U g],O U h,O U i])/\cj s w b/\K x c d g h i b
abbrev tI(s:L Nat)(f:FuncId)(a:Array ay)(w:aw)(K:Int->OV->aw->Prop):Prop:=aA aq f a w λe b=>∃(x:Int) (c:OV),e=ak (ai #[O U x,c.v])/\cj s w b/\K x c b
abbrev acR(s:L Nat)(f:FuncId)(a:Array ay)(w:aw)(K:Int->Int->Int->aw->Prop):Prop:=aA aq f a w λe b=>∃(x:Int) (c:Int) (d:Int),e=ak (ai #[O U x,O U c,O U d])/\cj s w b/\K x c d b
abbrev W7(s:L Nat)(f:FuncId)(a:Array ay)(w:aw)(K:Int->Int->aw->Prop):Prop:=aA aq f a w λe b=>∃(x:Int) (c:Int),e=ak (ai #[O U x,O U c])/\cj s w b/\K x c b
abbrev W8(s:L Nat)(f:FuncId)(a:Array ay)(w:aw)(K:D->M->aw->Prop):Prop:=aA aq f a w λe b=>∃(x:D) (c:M),e=ak (ai #[ab x,aj c])/\cj s w b/\K x c b
abbrev W9(s:L Nat)(f:FuncId)(a:Array ay)(w:aw)(K:D->Int->aw->Prop):Prop:=aA aq f a w λe b=>∃(x:D) (c:Int),e=ak (ai #[ab x,O U c])/\cj s w b/\K x c b
abbrev yw(x:Int)(a:Int):ay:=ah #[O U x,O U a]
abbrev uj(x:Int)(a:Int)(b:Int)(c:D)(d:Int)(e:Sl)(f:Int):ay:=ah #[O U x,O U a,O U b,ab c,O U d,e.v,O U f]
abbrev bT(x:Int)(a:Int)(b:D)(c:Int)(d:Sl)(e:Int):ay:=ah #[O U x,O U a,ab b,O U c,d.v,O U e]
abbrev gZ(b:Int)(c:D)(d:Int)(e:M)(f:Int)(g:Int)(h:D)(i:Int)(j:Sl)(k:Int)(N:Sl)(a:Sl)(x:Int):ay:=ah #[O U b,ab c,O U d,aj e,O U f,O U g,ab h,O U i,j.v,O U k,N.v,a.v,O U x]
abbrev nT(x:Int)(a:D)(b:Int)(c:Int):ay:=ah #[O U x,ab a,O U b,O U c]
abbrev Ez(x:Int)(a:D)(b:Int)(c:Int)(d:Int):ay:=ah #[O U x,ab a,O U b,O U c,O U d]
abbrev mj(x:Int)(a:D)(b:Int)(c:Int)(d:D)(e:Int)(f:Sl)(g:Int)(h:Int):ay:=ah #[O U x,ab a,O U b,O U c,ab d,O U e,f.v,O U g,O U h]
abbrev cF(x:Int)(a:D)(b:D)(c:D)(d:Sl)(e:Sl)(f:Sl)(g:Sl)(h:Int):ay:=ah #[O U x,ab a,ab b,ab c,d.v,e.v,f.v,g.v,O U h]
abbrev dc(x:Sl)(a:Int)(b:D)(c:D)(d:D)(e:Sl)(f:Sl)(g:Sl)(h:Sl)(i:Int):ay:=ah #[x.v,O U a,ab b,ab c,ab d,e.v,f.v,g.v,h.v,O U i]
abbrev je(x:Sl)(a:Sl)(b:Sl)(c:Sl):ay:=ah #[x.v,a.v,b.v,c.v]
abbrev amR(x:D)(a:Int)(b:Int):ay:=ah #[ab x,O U a,O U b]
abbrev sT(a:Addr)(w:aw)(n:Nat)(K:Nat->Nat->aJ->Nat->Prop):Prop:=∃b i z t,a=⟨b,i,Pw⟩/\aG w b t z/\i+n<=qj z/\K b i z t
abbrev sS(a:aw)(b i:Nat)(z:aJ)(t:Nat)(v:aJ)(K:aw->Prop):Prop:=∀w,az [b] a w->aG w b t (gD z i v)->K w
abbrev lH(t:TypeId)(v:ay)(w:aw)(K:Sl->aw->Prop):Prop:=LG (av t 1 #[.mk 0 v]) w K
abbrev N1(t:TypeId)(v a:ay)(w:aw)(K:Sl->aw->Prop):Prop:=LG (av t 2 #[.mk 0 v,.mk 1 a]) w K
abbrev Oj(t:TypeId)(v a b:ay)(w:aw)(K:Sl->aw->Prop):Prop:=LG (av t 3 #[.mk 0 v,.mk 1 a,.mk 2 b]) w K
abbrev W2(t:TypeId)(v a b c:ay)(w:aw)(K:Sl->aw->Prop):Prop:=LG (av t 4 #[.mk 0 v,.mk 1 a,.mk 2 b,.mk 3 c]) w K
abbrev po(t:TypeId)(l m:Sl)(w:aw)(K:Sl->aw->Prop):Prop:=LG (Builtin.append_ #[t,t] t #[l.v,m.v]) w K
abbrev F(f:FuncId)(a:Array ay)(w:aw)(R:aH):Prop:=aA aq f a w λe b=>∃v,e=ak v/\R v b
def sv1:ay->SV
 | .int k n=>SV.int k n
 | aj b=>SV.bt b
 | ab s=>SV.str s
 | ae (aN a)=>SV.ad a
 | .slice a n c=>SV.sl ⟨a,n,c⟩
 | .map m=>SV.map m
 | _=>SV.un
def MP:ay->SV
 | ah c=>SV.agg (Ii (c.toList.map sv1))
 | v=>sv1 v
section
variable {f:FuncId} {args:L SV} {R:aH} {w:aw} {vs:Array ay} {vc:Prop}
def fB{an:Ann}(h:vc)(v:vs=(cT β0 args).toArray:=by kernel_rfl)(e:vc=Pe aq f an args R w:=by kernel_rfl):F f vs w R:=amL Tryz.checked.mixed v e h
def fC(a:Ann)(h:vc)(v:vs=(cT β0 (vs.toList.map MP)).toArray:=by kernel_rfl)(e:vc=Pe aq f a (vs.toList.map MP) R w:=by kernel_rfl):F f vs w R:=fB h v e
def G:Lf:=Lf.int IntKind.i64
def iI(h:vc)(v:vs=(cT β0 (vs.toList.map MP)).toArray:=by kernel_rfl)(e:vc=Pe aq f .o (vs.toList.map MP) R w:=by kernel_rfl):F f vs w R:=fB h v e
end
variable {R:aH}{w:aw}
def auH{c:Sl}{E:Int}{H I L:D}{M P Q S:Sl}{T k:Int}{m l:Sl}(ce:z w λa w0=>lf [a] 5 #[] w0 λb0 w1=>rO [a] 6 #[dc c E H I L M P Q S T] w1 λl0 l1 l2 l3 i0 i1 w2=>zH w2 λb d w3=>N ((!b0)||(i0 !=0)) (R (aj b0) w3) (rO [a,b,d] 7 #[dc c E H I L M P Q S T] w3 λo l5 l6 l7 i2 i3 w4=>zH w4 λk3 e w5=>oT [a,b,d,k3,e] 8 #[o.v] w5 λi4 w6=>i4≠0/\o0 w6 λw7=>ahS [a,b,d,k3,e] 9 #[o.v,O U ((bits .and U k 1048575).tmod i4)] w7 λp b1 w8=>LG (av 31 0 #[]) w8 λl9 w9=>cj [a,b,d,k3,e] w8 w9/\po 31 l9 p w9 λaC W=>cj [a,b,d,k3,e] w9 W/\LG (av 31 0 #[]) W λqJ V=>cj [a,b,d,k3,e] W V/\po 31 qJ l V λqy X=>cj [a,b,d,k3,e] V X/\N1 45 aC.v qy.v X λt Y=>cj [a,b,d,k3,e] X Y/\LG (av 30 0 #[]) Y λB6 Z=>cj [a,b,d,k3,e] Y Z/\po 30 B6 m Z λC2 fT=>cj [a,b,d,k3,e] Z fT/\∃p0,cK t 0 1 p0/\o0 fT λiE=>j9 iE p0 λTu=>wP [a,b,d,k3,e] 10 #[je l0 l1 l2 l3,Tu.v,C2.v] iE λP5 gL=>∃p1,cK t 0 1 p1/\o0 gL λjH=>j9 jH p1 λNH=>Ra t 1 jH λKB=>wP [a,b,d,k3,e] 11 #[je l0 l1 l2 l3,NH.v,KB.v] jH λKC kf=>lK (λb2 j8=>Dk b2 0 j8 λJ1 k6 b3 j mB=>N ((YR (j<(l.n:Int)))&&(YR (j<4))) (Dk b3 0 mB λJ2 k8 b4 n oH=>N ((YR (n<(l.n:Int)))&&(YR (n<4))) (lK (λb5 sM=>nx k8 λk9=>J2 k9 b5 (au U (n+1)) sM) λJ3=>o0 oH λq=>∃J:A,N b4 (Ra t 0 q λP6=>yu l j q λi7=>yu l n q λi8=>J k3/\∃p6,cK l j 1 p6/\J p6.block/\gw q p6 λi9=>∃p7,cK l n 1 p7/\J p7.block/\gw q p7 λam=>lf [a,b,d,k3,e] 15 #[je l0 l1 l2 l3,P6.v,O U i7,O U i8] q λb6 pI=>bX J q pI/\lf [a,b,d,k3,e] 16 #[je o l5 l6 l7,p.v,O U i9,O U am] pI λb7 ry=>bX J pI ry/\J3 (b6==b7) ry) (J3 aM q)) (nx k6 λqU=>J1 qU b4 (au U (j+1)) oH)) (lK (λb8 uZ=>Dk b8 0 uZ λJ6 Gz g i s=>N (YR (i<(m.n:Int))) (∃p8,(g=aF->cK C2 i 1 p8)/\∃Tv,(g=aF->aD s p8 [aj Tv])/\∃p9,(g=aF->cK m i 1 p9)/\∃h,(g=aF->aD s p9 [aj h])/\o0 s λCN=>nx Gz λyF=>J6 yF (g&&(Tv==h)) (au U (i+1)) CN) (lK (λTw P7=>R (aj ((b3&&g)&&Tw)) P7) λJ7=>Ra t 0 s λV1=>lf [a,b,d,k3,e] 17 #[P5.v,V1.v] s λu K=>N u (Ra t 1 K λV2=>lf [a,b,d,k3,e] 17 #[KC.v,V2.v] K λv ZZ=>J7 v ZZ) (J7 aM K))) λJ5=>Ra t 0 mB λaS=>lf [a,b,d,k3,e] 12 #[aS.v,p.v] mB λx f=>N x (Ra t 1 f λaT=>lf [a,b,d,k3,e] 12 #[aT.v,l.v] f λy bv=>J5 y bv) (J5 aM f))) λJ0=>wP [a,b,d,k3,e] 13 #[je o l5 l6 l7,p.v,m.v] kf λZ0 bV=>lf [a,b,d,k3,e] 12 #[P5.v,Z0.v] bV λB r=>N B (wP [a,b,d,k3,e] 14 #[je o l5 l6 l7,p.v,l.v] r λVg bY=>lf [a,b,d,k3,e] 12 #[KC.v,Vg.v] bY λC cc=>J0 C cc) (J0 aM r))):F 3 #[dc c E H I L M P Q S T,O U k,m.v,l.v] w R:=
 fC (.d 11 (.s (.j [2,3,4,10,11,12,13,15,17,18,19,20] [.s 21 .bool] .o .o) (.s (.s .o (.j [2,3,4,10,11,12,13,15,17,18,19,20] [.s 21 .bool,.s 22 G] (.s .o (.s (.s .o (.j [2,3,4,10,11,12,13,15,17,18,19,20,22] [.s 21 .bool,.s 23 G] (.s .o (.s (.j [2,3,4,10,11,12,13,15,17,18,19,20,22,23] [.s 21 .bool] .o .o) .o)) .o)) .o)) .o)) (.s (.j [2,4,10,11,12,13,17,18,19,20,21] [.s 24 .bool] .o .o) (.s (.s .o (.j [2,4,10,11,12,13,17,18,19,20,21] [.s 24 .bool,.s 25 G] .o .o)) (.s (.j [4,10,11,12,13,21,24] [.s 26 .bool] .o .o) .o)))))) ce
def auI(n:ajG 32 #[ab (ao #[99,104,97,114,116,32,99,32,123,32,105,110,105,116,105,97,108,32,112,59,32,111,110,32,120,32,45,62,32,112,59,32,112,97,114,97,108,108,101,108,32,112,32,123,32,115,116,97,116,101,32,97,32,123,32,105,110,105,116,105,97,108,32,98,59,32,111,110,32,120,32,45,62,32,100,59,32,115,116,97,116,101,32,98,32,123,32,111,110,32,120,32,45,62,32,100,59,32,125,32,115,116,97,116,101,32,100,32,123,32,125,32,125,32,115,116,97,116,101,32,101,32,123,32,111,110,32,120,59,32,111,110,32,120,32,45,62,32,112,59,32,125,32,125,32,125])] w λs o C D E t u v x r i J G=>zH G λk c H=>rO [k,c] 6 #[dc s o C D E t u v x r] H λy z A l a K I=>zH I λd k3 j=>LG (av 31 5 #[.mk 0 (O U 0),.mk 1 (O U 1),.mk 2 (O U 2),.mk 3 (O U 3),.mk 4 (O U 5)]) j λB f=>cj [k,c,d,k3] j f/\LG (av 30 5 #[.mk 0 (aj aF),.mk 1 (aj aF),.mk 2 (aj aF),.mk 3 (aj aF),.mk 4 (aj aF)]) f λe m=>cj [k,c,d,k3] f m/\wP [k,c,d,k3] 10 #[je y z A l,B.v,e.v] m λq g=>∃p0,(((((i==0)&&(a==0))&&((l.n:Int)==5))&&((q.n:Int)==2))=aF->cK q 0 1 p0)/\∃b,(((((i==0)&&(a==0))&&((l.n:Int)==5))&&((q.n:Int)==2))=aF->aD g p0 [O U b])/\∃p,((((((i==0)&&(a==0))&&((l.n:Int)==5))&&((q.n:Int)==2))&&(b==2))=aF->cK q 1 1 p)/\∃h,((((((i==0)&&(a==0))&&((l.n:Int)==5))&&((q.n:Int)==2))&&(b==2))=aF->aD g p [O U h])/\R (aj ((((((i==0)&&(a==0))&&((l.n:Int)==5))&&((q.n:Int)==2))&&(b==2))&&(h==3))) g):F 5 #[] w R:=
 iI n
def auJ{c:Sl}{e:Int}{f g h:D}{i j l m:Sl}{n:Int}(C:MO w λd k a H=>OW [d,k,a] 33 #[dc c e f g h i j l m n] H λr E x=>N (r !=0) (z x λk3 I=>d≠k->d≠a->d≠k3->k≠a->k≠k3->a≠k3->∃J:A,J k3/\vt J k/\vt J a/\∀y,az [a,k] I y->R (ai #[je Sl.nil Sl.nil Sl.nil Sl.nil,yw r E]) y) (zH x λo b K=>OX [d,k,a,o,b] 34 #[dc c e f g h i j l m n] K λG M L=>∀p,az [b] L p->aG p b 70 [G.v,Sl.nil.v,Sl.nil.v,Sl.nil.v]->d≠b->k≠b->a≠b->o≠b->gn [d,k,a,o] 35 #[pB b,cF e f g h i j l m n] p λB=>Ev B b 70 λs t u v=>∀q,az [a,k] B q->aG q b 70 [s.v,t.v,u.v,v.v]->R (ai #[je s t u v,yw 0 0]) q)):F 6 #[dc c e f g h i j l m n] w R:=
 iI C
def amS{c:Sl}{u:Int}{v x y:D}{B C E I:Sl}{M:Int}(bv:MO w λb k a w0=>OW [b,k,a] 36 #[dc c u v x y B C E I M] w0 λi0 i1 w1=>N (i0 !=0) (z w1 λk3 w2=>b≠k->b≠a->b≠k3->k≠a->k≠k3->a≠k3->∃S:A,S k3/\vt S k/\vt S a/\∀w3,az [a,k] w2 w3->R (ai #[je Sl.nil Sl.nil Sl.nil Sl.nil,yw i0 i1]) w3) (z w1 λe w4=>wP [b,k,a,e] 37 #[dc c u v x y B C E I M] w4 λt w5=>wP [b,k,a,e] 38 #[Sl.nil.v,cF u v x y B C E I M] w5 λm w6=>z w6 λd w7=>∃T:Nat->Int->Sl->Sl->Sl->Sl->aw->Prop,∃k6:Nat,T k6 0 t Sl.nil Sl.nil Sl.nil w7/\∀k7 i,∀l2 l3 l4 l5:Sl,∀p,T k7 i l2 l3 l4 l5 p->N (YR (i<(m.n:Int))) (lK (λi3 Q=>lK (λi4 dq=>lH 31 (O U i3) dq λl6 X=>cj [b,k,a,e,d] dq X/\po 31 l3 l6 X λl7 ey=>cj [b,k,a,e,d] X ey/\∀Y,az [d] ey Y->lH 31 (O U i4) Y λl8 Z=>cj [b,k,a,e,d] Y Z/\po 31 l4 l8 Z λl9 fT=>cj [b,k,a,e,d] Z fT/\∀iE,az [d] fT iE->∃V:Nat->Int->Sl->Sl->Sl->Sl->aw->Prop,∃k8:Nat,V k8 0 l2 l7 l9 l5 iE/\∀k9 s,∀n qJ qy tT:Sl,∀L,V k9 s n qJ qy tT L->∃p0,cK m i 9 p0/\j9 L (p0.add 6) λB6=>N (YR (s<(B6.n:Int))) (∃p1,cK m i 9 p1/\j9 L (p1.add 6) λC2=>iY C2 s L λi6 s0 i7 b0 i8 i9 s1 bV Tu bY P5 NH cc=>zH L λo q jH=>∃W:Nat->Int->Int->Int->Int->D->Int->Sl->Int->aw->Prop,∃Gz:Nat,W Gz 0 i s i6 s0 i7 Sl.nil 0 jH/\∀yF f g h j s2 l,∀K:Sl,∀r kf,W yF f g h j s2 l K r kf->N (YR (f<(NH.n:Int))) (o0 kf λj8=>∃J:A,J q/\IJ NH f j8 λs3=>oT [b,k,a,e,d,o,q] 39 #[t.v,ab s3] j8 λam P=>bX J j8 P/\lH 31 (O U am) P λKC H=>cj [b,k,a,e,d,o,q] P H/\bX J P H/\po 31 K KC H λP6 sM=>cj [b,k,a,e,d,o,q] H sM/\bX J H sM/\∀qK,az [q] sM qK->nx yF λOa=>W Oa (au U (f+1)) g h j s2 l P6 r qK) (oT [b,k,a,e,d,o,q] 40 #[t.v,O U i,K.v] kf λaC pI=>∀ry,az [q] pI ry->lH 34 (uj g h j s2 l K aC) ry λV1 uZ=>cj [b,k,a,e,d,o,q] ry uZ/\po 34 tT V1 uZ λV2 we=>cj [b,k,a,e,d,o,q] uZ we/\∀CN,az [d] we CN->nx k9 λTx=>V Tx (au U (s+1)) n qJ qy V2 CN)) (nx k7 λKE=>T KE (au U (i+1)) n qJ qy tT L)) λJ3=>∃p4,cK m i 9 p4/\Eu Q (p4.add 3) λs4=>N (!(s4.toList==((ao #[]).toList))) (∃p5,cK m i 9 p5/\Eu Q (p5.add 3) λs5=>oT [b,k,a,e,d] 39 #[t.v,ab s5] Q λaS P7=>J3 aS P7) (J3 (-1) Q)) λJ2=>∃p6,cK m i 9 p6/\Eu p (p6.add 2) λs6=>N (!(s6.toList==((ao #[]).toList))) (∃p7,cK m i 9 p7/\Eu p (p7.add 2) λs7=>oT [b,k,a,e,d] 39 #[t.v,ab s7] p λaT KD=>J2 aT KD) (J2 (-1) p)) (∀ZZ,az [a,k] p ZZ->R (ai #[je l2 l3 l4 l5,yw 0 0]) ZZ))):F 7 #[dc c u v x y B C E I M] w R:=
 fC (.d 6 (.s (.s .o (.j [1,2,3,4,5,6,7] [.s 8 G,.b 7 [.sl,.sl,.sl,.sl]] (.s .o (.s (.s .o (.j [1,2,3,4,5,6,7,8] [.s 9 G] .o (.s .o (.j [1,2,3,4,5,6,7,8,9] [.s 10 G] .o (.d 3 (.j [1,2,3,4,5,6,7,8] [.s 11 G,.b 7 [.sl,.sl,.sl,.sl]] (.s .o (.s (.d 2 (.s (.s .o (.j [1,2,3,4,5,6,7,8,11,12,13] [.s 14 G,.b 13 [G,G,G,.str,G,.sl,G]] .o .o)) .o)) .o)) .o)))))) .o)) .o)) .o)) bv
def amT{l:Sl}(h:cI 41 #[l.v,O U 0] w λi a=>R (O U i) a):F 8 #[l.v] w R:=
 iI h
def amU{l:Sl}{k:Int}(h:cI 8 #[l.v] w λi a=>N ((YR (k<0))||(YR (k>=i))) (R (ai #[Sl.nil.v,aj aM]) a) (cL 42 #[l.v,O U 0,O U k] a λb c=>R (ai #[b.v,aj aF]) c)):F 9 #[l.v,O U k] w R:=
 iI h
def v5w{pp xC xD uO fu ce:Sl}(ut:∀a b k k3 s,w.heap.size<=a->a<s.heap.size->w.heap.size<=b->b<s.heap.size->w.heap.size<=k->k<s.heap.size->w.heap.size<=k3->k3<s.heap.size->az [] w s->wP [a,b,k,k3] 43 #[pp.v,fu.v] s λl0 w1=>∃J0:Nat->Sl->Sl->Int->Sl->Sl->Sl->Sl->Sl->Option Addr->Sl->Sl->Sl->Sl->Sl->Sl->aw->Prop,∃k4:Nat,J0 k4 Sl.nil Sl.nil 0 pp xC xD uO fu (aN ⟨k,0,Pw⟩) pp xC xD uO fu ce w1/\∀k5,∀l1 f:Sl,∀i0,∀l3 l4 l5 l6 l7:Sl,∀q0,∀l8 l9 l qJ qy tT:Sl,∀t,J0 k5 l1 f i0 l3 l4 l5 l6 l7 q0 l8 l9 l qJ qy tT t->N (YR (i0<(l0.n:Int))) (aG t k 90 [l8.v,l9.v,l.v,qJ.v,qy.v,tT.v]->a≠k->b≠k->k3≠k->∃J1:Sl->Sl->Sl->Sl->Sl->Sl->Sl->Option Addr->Sl->Sl->Sl->Sl->Sl->Sl->aw->Prop,(∀B6 C2 Tu P5 NH KB KC:Sl,∀q1,∀P6 V1 V2 u v Z0:Sl,∀w3,J1 B6 C2 Tu P5 NH KB KC q1 P6 V1 V2 u v Z0 w3->nx k5 λk6=>J0 k6 B6 C2 (au U (i0+1)) Tu P5 NH KB KC q1 P6 V1 V2 u v Z0 w3)/\yu l0 i0 t λi1=>oT [a,b,k3] 44 #[ae q0,O U i1] t λi2 w4=>wQ w4 k 90 λVg Z1 Z2 Z3 Z4 x=>z w4 λc w5=>aG w5 k 90 [Vg.v,Z1.v,Z2.v,Z3.v,Z4.v,x.v]->∃J2:M->Sl->Sl->Sl->Sl->Sl->Option Addr->Int->Sl->Sl->Sl->Sl->Sl->Sl->aw->Prop,(∀b0,∀h Z5 Z6 Z7 Z8:Sl,∀q2 i3,∀i j m n o p:Sl,∀w6,J2 b0 h Z5 Z6 Z7 Z8 q2 i3 i j m n o p w6->N b0 (J1 l1 f h Z5 Z6 Z7 Z8 q2 i j m n o p w6) (lH 31 (O U i3) w6 λel w7=>cj [a,b,k,k3,c] w6 w7/\po 31 l1 el w7 λy w8=>cj [a,b,k,k3,c] w7 w8/\z w8 λd r=>aG r a 36 [h.v,Z5.v,Z6.v,Z7.v]->aG r b 31 [Z8.v]->aG r k 90 [i.v,j.v,m.v,n.v,o.v,p.v]->aG r k3 88 [ae q2]->aG r c 3 [O U i3]->aG r d 94 [.func (.func 46) #[] #[pB a,pB b,pB c]]->cB 47 #[f.v,.func (.func 48) #[] #[pB d,pB k3,pB c]] r λb1 q=>Ev q a 36 λB C D E=>Ks q b 31 λH=>wQ q k 90 λI K L P Q S=>Gc q k3 88 λq3=>Ga q c 3 λi4=>Q1 q d 94 λv0=>N b1 (J1 y f B C D E H q3 I K L P Q S q) (∃J3:Sl->Sl->Sl->Sl->Sl->Sl->Option Addr->Int->OV->Sl->Sl->Sl->Sl->Sl->Sl->aw->Prop,(∀T W X Z am aC:Sl,∀q4 i5,∀v1:OV,∀aS aT bv bV bY cc:Sl,∀dB,J3 T W X Z am aC q4 i5 v1 aS aT bv bV bY cc dB->J1 y T W X Z am aC q4 aS aT bv bV bY cc dB)/\o0 q λe=>aG e a 36 [B.v,C.v,D.v,E.v]->aG e b 31 [H.v]->aG e k 90 [I.v,K.v,L.v,P.v,Q.v,S.v]->aG e k3 88 [ae q3]->aG e c 3 [O U i4]->aG e d 94 [v0.v]->∃J:A,J d/\J c/\(cL 50 #[f.v,v0.v] e λeQ Y=>Ev Y a 36 λfd f5 f6 f7=>Ks Y b 31 λf8=>wQ Y k 90 λgE gG gO gT g8 g9=>Gc Y k3 88 λq5=>Ga Y c 3 λi6=>Q1 Y d 94 λv2=>bX J e Y/\lH 31 (O U i4) Y λip V=>cj [a,b,k,k3,c,d] Y V/\bX J Y V/\po 31 eQ ip V λiD fT=>cj [a,b,k,k3,c,d] V fT/\bX J V fT/\J3 iD fd f5 f6 f7 f8 q5 i6 v2 gE gG gO gT g8 g9 fT)/\lH 31 (O U i4) e λiF iE=>cj [a,b,k,k3,c,d] e iE/\bX J e iE/\cL 50 #[f.v,v0.v] iE λiN g=>Ev g a 36 λiS lE lT mt=>Ks g b 31 λmK=>wQ g k 90 λnO oF oN oR pi pm=>Gc g k3 88 λq6=>Ga g c 3 λi7=>Q1 g d 94 λv3=>bX J iE g/\po 31 iN iF g λpP jH=>cj [a,b,k,k3,c,d] g jH/\bX J g jH/\J3 pP iS lE lT mt mK q6 i7 v3 nO oF oN oR pi pm jH)))/\N (YR (i2<0)) (J2 aF l3 l4 l5 l6 l7 q0 i2 Vg Z1 Z2 Z3 Z4 x w5) (lf [a,b,k3,c] 45 #[l1.v,O U i2] w5 λb2 kf=>wQ kf k 90 λrg rx tO co cC dO=>J2 b2 l3 l4 l5 l6 l7 q0 i2 rg rx tO co cC dO kf)) (aG t k 90 [l8.v,l9.v,l.v,qJ.v,qy.v,tT.v]->a≠k->b≠k->k3≠k->R f.v t)):F 10 #[je pp xC xD uO,fu.v,ce.v] w R:=
 fC (.d 3 (.s (.s .o (.j [3,4,7,18,22,23] [.s 8 .sl,.s 9 .sl,.s 24 G,.b 3 [.sl,.sl,.sl,.sl],.b 4 [.sl],.b 7 [.ptr],.b 18 [.sl,.sl,.sl,.sl,.sl,.sl]] (.d 2 (.j [3,4,7,18,22,23,24] [.s 8 .sl,.s 9 .sl,.b 3 [.sl,.sl,.sl,.sl],.b 4 [.sl],.b 7 [.ptr],.b 18 [.sl,.sl,.sl,.sl,.sl,.sl]] (.d 2 (.s (.s (.j [3,4,7,8,9,12,18,22,23,24] [.s 37 .bool,.b 3 [.sl,.sl,.sl,.sl],.b 4 [.sl],.b 7 [.ptr],.b 12 [G],.b 18 [.sl,.sl,.sl,.sl,.sl,.sl]] .o .o) .o) (.d 3 (.j [3,4,7,8,12,13,18,22,23,24] [.s 9 .sl,.b 3 [.sl,.sl,.sl,.sl],.b 4 [.sl],.b 7 [.ptr],.b 12 [G],.b 13 [.raw],.b 18 [.sl,.sl,.sl,.sl,.sl,.sl]] .o .o)))) .o)) .o)) .o)) ut
def v8w{p x D u f b:Sl}(h:z w λk q=>∃J:Nat->Sl->Int->aw->Prop,∃j:Nat,J j Sl.nil 0 q/\∀c,∀l:Sl,∀i a,J c l i a->N (YR (i<(b.n:Int))) (yu b i a λg=>wP [k] 22 #[je p x D u,f.v,O U g] a λm d=>po 31 l m d λn e=>cj [k] d e/\nx c λk3=>J k3 n (au U (i+1)) e) (gn [k] 51 #[l.v] a λr=>wP [k] 52 #[l.v] r λo s=>R o.v s)):F 11 #[je p x D u,f.v,b.v] w R:=
 fC (.d 2 (.s (.s .o (.j [1,3,10,11] [.s 7 .sl,.s 12 G] .o .o)) .o)) h
def auK{b c:Sl}(h:N ((b.n:Int) !=(c.n:Int)) (R (aj aM) w) (nW 0 w λJ k i a=>N (YR (i<(b.n:Int))) (yu b i a λd=>yu c i a λe=>N (d !=e) (o0 a λg=>R (aj aM) g) (o0 a λj=>nx k λf=>J f (au U (i+1)) j)) (R (aj aF) a))):F 12 #[b.v,c.v] w R:=
 fC (.d 2 (.s (.s .o (.j [0,1] [.s 5 G] .o .o)) .o)) h
def amV{p x D u j m:Sl}(K:z w λk w0=>wP [k] 53 #[je p x D u,j.v,m.v] w0 λd w1=>∃J:Nat->Sl->Int->aw->Prop,∃Z:Nat,J Z Sl.nil 0 w1/\∀v,∀l:Sl,∀i n,J v l i n->N (YR (i<(d.n:Int))) (lK (λl2 w3=>nx v λk3=>J k3 l2 (au U (i+1)) w3) λr=>∃g:Nat->Sl->M->Int->aw->Prop,∃k4:Nat,g k4 Sl.nil aF 0 n/\∀A,∀e:Sl,∀h a b,g A e h a b->N (YR (a<(l.n:Int))) (∃p0,cK d i 1 p0/\o0 b λo=>gw o p0 λL=>yu l a o λP=>lf [k] 16 #[je p x D u,j.v,O U L,O U P] o λt w6=>∃C,cK d i 1 C/\o0 w6 λc=>gw c C λQ=>∃E,cK u Q 7 E/\gw c (E.add 0) λS=>yu l a c λT=>∃H,cK u T 7 H/\gw c (H.add 0) λV=>lf [k] 54 #[p.v,O U S,O U V] c λI f=>lK (λl4 w9=>nx A λk6=>g k6 l4 (h&&((!t)||I)) (au U (a+1)) w9) λs=>N (!t) (yu l a f λW=>lH 31 (O U W) f λl5 q=>cj [k] f q/\po 31 e l5 q λl6 B=>cj [k] q B/\s l6 B) (s e f)) (N h (yu d i b λX=>lH 31 (O U X) b λl7 y=>cj [k] b y/\po 31 e l7 y λl8 Y=>cj [k] y Y/\r l8 Y) (r l b))) (R l.v n)):F 13 #[je p x D u,j.v,m.v] w R:=
 fC (.d 3 (.s (.s .o (.j [1,3,8] [.s 7 .sl,.s 9 G] (.s .o (.j [1,3,8,9] [.s 7 .sl] (.d 2 (.s (.s .o (.j [1,3,7,8,9] [.s 10 .sl,.s 11 .bool,.s 12 G] (.s .o (.s (.d 2 (.j [1,3,7,8,9,11,12,13,14] [.s 10 .sl] .o .o)) .o)) .o)) .o)) .o)) .o)) .o)) K
def amW{p x D m u c:Sl}(t:z w λk K=>∃J:Nat->Sl->Int->aw->Prop,∃y:Nat,J y Sl.nil 0 K/\∀j,∀l:Sl,∀i d,J j l i d->N (YR (i<(p.n:Int))) (lK (λC L=>nx j λk3=>J k3 C (au U (i+1)) L) λf=>Dk aM 0 d λo A h b a=>N (YR (b<(c.n:Int))) (lK (λr M=>nx A λB=>o B r (au U (b+1)) M) λg=>N h (o0 a λP=>g aF P) (∃p0,cK c b 1 p0/\o0 a λn=>gw n p0 λv=>wP [k] 28 #[je p x D m,u.v,O U v] n λE Q=>lf [k] 55 #[E.v,O U i] Q λs S=>g s S)) (N h (lH 31 (O U i) a λH e=>cj [k] a e/\po 31 l H e λI q=>cj [k] e q/\f I q) (f l a))) (R l.v d)):F 14 #[je p x D m,u.v,c.v] w R:=
 fC (.d 2 (.s (.s .o (.j [1,2,3] [.s 7 .sl,.s 8 G] (.s .o (.j [1,2,3,8] [.s 7 .sl] (.s .o (.s (.s .o (.j [1,2,3,7,8] [.s 9 .bool,.s 10 G] (.s .o (.s (.j [1,2,3,7,8,10] [.s 9 .bool] .o .o) .o)) .o)) .o)) .o)) .o)) .o)) t
def v7w{p x D u f:Sl}{b c:Int}(h:z w λa j=>wP [a] 22 #[je p x D u,f.v,O U b] j λl m=>z m λk n=>wP [a,k] 22 #[je p x D u,f.v,O U c] n λi d=>(aG d k 31 [l.v]->a≠k->lf [a] 47 #[i.v,.func (.func 56) #[] #[pB k]] d λg e=>Ks e k 31 λo=>R (aj g) e)):F 15 #[je p x D u,f.v,O U b,O U c] w R:=
 iI h
def amX{p x D u f:Sl}{b c:Int}(h:z w λk n=>wP [k] 28 #[je p x D u,f.v,O U b] n λl o=>wP [k] 28 #[je p x D u,f.v,O U c] o λm q=>nW 0 q λJ j i a=>N (YR (i<(l.n:Int))) (yu l i a λg=>lf [k] 55 #[m.v,O U g] a λe d=>N e (R (aj aF) d) (nx j λk3=>J k3 (au U (i+1)) d)) (R (aj aM) a)):F 16 #[je p x D u,f.v,O U b,O U c] w R:=
 fC (.d 3 (.s (.s .o (.j [4,9,10] [.s 11 G] .o .o)) .o)) h
def auL{a b:Sl}(m:∃k:Nat,((a.c:Int)=(k:Int)/\k<=a.c)/\nW 0 w λJ o i g=>N (YR (i<((a.cut 0 k a.c 1).n:Int))) (∃p0,cK (a.cut 0 k a.c 1) i 1 p0/\sT p0 g 1 λk3 q B r=>sS g k3 q B r [O U (-7)] λx=>nx o λs=>J s (au U (i+1)) x) (∃c:Nat,((b.c:Int)=(c:Int)/\c<=b.c)/\nW 0 g λj t e h=>N (YR (e<((b.cut 0 c b.c 1).n:Int))) (∃p,cK (b.cut 0 c b.c 1) e 1 p/\sT p h 1 λu v C z=>sS h u v C z [O U 9] λy=>nx t λA=>j A (au U (e+1)) y) (nW 0 h λl T f d=>N (YR (f<((a.cut 0 k a.c 1).n:Int))) (yu (a.cut 0 k a.c 1) f d λn=>N (n !=(-7)) (R (aj aM) d) (nx T λK=>l K (au U (f+1)) d)) (R (aj aF) d)))):F 17 #[a.v,b.v] w R:=
 fC (.d 2 (.s (.s .o (.j [1,5] [.s 6 G] .o .o)) (.s .o (.s (.s .o (.j [5,7] [.s 8 G] .o .o)) (.s (.s .o (.j [5] [.s 9 G] .o .o)) .o))))) m
def auM{p x D u f:Sl}{P:Int}(h:z w λk t=>rQs [k] 59 #[je p x D u,Sl.nil.v] t λr v=>b25 [k] 60 #[ae r,O U P] v λi g j s l n m e y=>zH y λa b A=>wP [k,a,b] 61 #[f.v] A λo c=>(aG c k 36 [p.v,x.v,D.v,u.v]->aG c a 84 [O U i,O U g,O U j,ab s,O U l,n.v,O U m]->aG c b 4 [aj e]->cL 50 #[o.v,.func (.func 62) #[] #[pB b,pB k,pB a]] c λq d=>Ev d k 36 λJ K L M=>abr d a 84 λC E G Q H N I=>xKB d b 4 λB=>R q.v d)):F 22 #[je p x D u,f.v,O U P] w R:=
 iI h
def amY{h C D u f:Sl}{P:Int}(o:z w λk j=>N ((YR (P<0))||(YR (P>=(u.n:Int)))) (R Sl.nil.v j) (∃J:Nat->Sl->Int->aw->Prop,∃t:Nat,J t Sl.nil 0 j/\∀g,∀l:Sl,∀i b,J g l i b->N (YR (i<(f.n:Int))) (lK (λv A=>nx g λk3=>J k3 v (au U (i+1)) A) λe=>∃p0,cK f i 1 p0/\o0 b λc=>gw c p0 λq=>∃p,cK u P 7 p/\gw c (p.add 6) λr=>lf [k] 54 #[h.v,O U q,O U r] c λn a=>N n (yu f i a λs=>lH 31 (O U s) a λx d=>cj [k] a d/\po 31 l x d λy m=>cj [k] d m/\e y m) (e l a)) (R l.v b))):F 28 #[je h C D u,f.v,O U P] w R:=
 fC (.d 3 (.s (.s .o (.j [1,2,3] [.s 7 .sl,.s 8 G] (.s .o (.j [1,2,3,8] [.s 7 .sl] .o .o)) .o)) .o)) o
def auN{s:D}(z:zH w λk a H=>qh [k,a] 74 #[ab s] H λl e p q r j m n o f g B I=>zH I λb k3 t=>WR (λi h u=>N (i !=0) (o0 u λK=>k≠a->k≠b->k≠k3->a≠b->a≠k3->b≠k3->∃J:A,J k3/\vt J k/\vt J a/\∀v,az [a,k] K v->R (ai #[dc Sl.nil 0 (ao #[]) (ao #[]) (ao #[]) Sl.nil Sl.nil Sl.nil Sl.nil 0,yw i h]) v) (o0 u λL=>k≠a->k≠b->k≠k3->a≠b->a≠k3->b≠k3->∃c:A,c k3/\vt c k/\vt c a/\∀x,az [a,k] L x->R (ai #[dc l e p q r j m n o f,yw i h]) x)) λd=>N (g==0) (OW [k,a,b,k3] 33 #[dc l e p q r j m n o f] t λC E M=>∀y,az [k3] M y->d C E y) (d g B t)):F 32 #[ab s] w R:=
 fC (.d 2 (.j [2,3,4,5] [.b 5 [G,G]] .o .o)) z
def auO{c:Sl}{f:Int}{g h j:D}{l m n o:Sl}{p:Int}(V:zH w λb a w0=>OX [b,a] 34 #[dc c f g h j l m n o p] w0 λl0 E A=>N (E !=0) (∀M,az [a] A M->R (yw E (-1)) M) (∃K r,((Instr.makeMap 126 Pw).run aq A)=(.ok (.map K) r)/\cj [b,a] A r/\∃L B,((Instr.makeMap 126 Pw).run aq r)=(.ok (.map L) B)/\cj [b,a] r B/\z B λk P=>aG P k 128 [.map K,Sl.nil.v,.map L,O U 0,O U 0]->gn [b,a] 75 #[pB k,cF f g h j l m n o p] P λQ=>II Q k 128 λm2 l1 m3 W Y=>∃J:Nat->Int->Option Nat->Sl->Option Nat->Int->Int->aw->Prop,∃k3:Nat,J k3 0 m2 l1 m3 W Y Q/\∀H e x,∀I:Sl,∀q u v s,J H e x I q u v s->N (YR (e<(c.n:Int))) (afu c e s λs0 i6 Z=>z s λk5 S=>aG S k 128 [.map x,I.v,.map q,O U u,O U v]->gn [b,a,k5] 76 #[pB k,.map q,ab s0,O U e,O U Z] S λT=>II T k 128 λm6 l3 m7 i8 i9=>nx H λk6=>J k6 (au U (e+1)) m6 l3 m7 i8 i9 T) (∀t,az [k] s t->aG t k 128 [.map x,l0.v,.map q,O U u,O U v]->b≠k->a≠k->oT [b,a] 77 #[pB k,cF f g h j l m n o p,O U 0] t λX C=>II C k 128 λm8 l4 m9 i d=>∀y,az [a] C y->aG y k 128 [.map m8,l4.v,.map m9,O U i,O U d]->R (yw i d) y))):F 33 #[dc c f g h j l m n o p] w R:=
 fC (.d 5 (.s (.s .o (.j [1,2,3,5,20,26,27] [.s 28 G,.b 20 [.map,.sl,.map,G,G]] .o .o)) .o)) V
def auP(c:Sl)(a:Int)(b d e:D)(f g h i:Sl)(j:Int)(R:aH)(w:aw)(q:z w λm s=>oT [m] 78 #[dc c a b d e f g h i j] s λl n=>N (l !=0) (R (ai #[Sl.nil.v,O U l]) n) (z n λk o=>aG o k 136 [Sl.nil.v]->gn [m] 79 #[pB k,cF a b d e f g h i j,O U (-1),O U 0] o λp=>Ks p k 136 λr=>R (ai #[r.v,O U 0]) p)):F 34 #[dc c a b d e f g h i j] w R:=
 iI q
def auQ{l:Addr}{n_:Int}{ym u7 yp:D}{yG yH vQ X:Sl}{u9:Int}(am:z w λk w0=>j9 w0 ((l.add 0).add 1) λl0=>o0 w0 λw1=>∃J:A,J (((l.add 0).add 1).block)/\j9 w1 ((l.add 0).add 1) λl1=>oT [k] 80 #[Q l,ab u7] w1 λi0 u=>bX J w1 u/\lH 31 (O U i0) u λl2 n=>cj [k] u n/\bX J u n/\po 31 l1 l2 n λl3 v=>cj [k] n v/\bX J n v/\sT ((l.add 0).add 1) v 1 λk1 k2 z0 k3=>k≠k1/\sS v k1 k2 z0 k3 [l3.v] λw5=>o0 w5 λw6=>∃p:A,p (((l.add 0).add 2).block)/\j9 w6 ((l.add 0).add 2) λl4=>oT [k] 80 #[Q l,ab yp] w6 λi1 x=>bX p w6 x/\lH 31 (O U i1) x λl5 o=>cj [k] x o/\bX p x o/\po 31 l4 l5 o λl6 y=>cj [k] o y/\bX p o y/\sT ((l.add 0).add 2) y 1 λk4 k5 z1 k6=>k≠k4/\sS y k4 k5 z1 k6 [l6.v] λdq=>nW 0 dq λJ2 k8 t I=>N (YR (t<(vQ.n:Int))) (iY vQ t I λi3 s0 i4 b0 i5 i6 s1 i7 l7 i8 l8 l9 i9=>zH I λg q ey=>∃B:Nat->Int->Int->Int->Int->D->Int->Sl->Int->aw->Prop,∃qz:Nat,B qz 0 (l0.n:Int) t i3 s0 i4 Sl.nil 0 ey/\∀Gz i b c d s2 e,∀a:Sl,∀h Y,B Gz i b c d s2 e a h Y->N (YR (i<(l9.n:Int))) (IJ l9 i Y λs3=>o0 Y λfV=>∃r:A,r q/\oT [k,g,q] 80 #[Q l,ab s3] fV λK T=>bX r fV T/\lH 31 (O U K) T λqJ E=>cj [k,g,q] T E/\bX r T E/\po 31 a qJ E λqy L=>cj [k,g,q] E L/\bX r E L/\∀jH,az [q] L jH->nx Gz λyF=>B yF (au U (i+1)) b c d s2 e qy h jH) (oT [k,g,q] 81 #[Q l,O U (l0.n:Int),a.v] Y λM kf=>∀j,az [q] kf j->∃C:A,C (((l.add 0).add 3).block)/\j9 j ((l.add 0).add 3) λtT=>lH 34 (uj b c d s2 e a M) j λB6 m=>cj [k,g,q] j m/\bX C j m/\po 34 tT B6 m λC2 H=>cj [k,g,q] m H/\bX C m H/\sT ((l.add 0).add 3) H 1 λs Tx z2 KE=>k≠s/\g≠s/\q≠s/\sS H s Tx z2 KE [C2.v] λsM=>nx k8 λV=>J2 V (au U (t+1)) sM)) (nW 0 I λJ6 Ty f Z=>N (YR (f<(X.n:Int))) (gP X f Z λP s4 s5 s6 Tu P5 NH KB S=>z Z λOb pI=>gn [k,Ob] 35 #[Q l,cF P s4 s5 s6 Tu P5 NH KB S] pI λry=>nx Ty λW=>J6 W (au U (f+1)) ry) (R (ai #[]) Z))):F 35 #[Q l,cF n_ ym u7 yp yG yH vQ X u9] w R:=
 fC (.d 4 (.s (.s .o (.j [0,3,4,49,50] [.s 51 G] (.d 2 (.s (.d 2 (.s (.s .o (.j [0,3,4,6,7,49,50,51,66,67] [.s 68 G,.b 7 [G,G,G,.str,G,.sl,G]] .o .o)) .o)) .o)) .o)) (.s .o (.j [0,3,6,7,101,102] [.s 103 G] .o .o)))) am
def amZ{c:Sl}{s:Int}{t u v:D}{x y A B:Sl}{C:Int}(mt:zH w λh a w0=>OX [h,a] 82 #[dc c s t u v x y A B C] w0 λl0 i0 w1=>N (i0 !=0) (∀w2,az [a] w1 w2->R (yw i0 (-1)) w2) (z w1 λk w3=>wP [h,a,k] 83 #[cF s t u v x y A B C,Sl.nil.v] w3 λl1 w4=>∃J0:Nat->Int->Sl->Int->D->D->D->Sl->Sl->Sl->Sl->Int->Sl->Int->Int->aw->Prop,∃k3:Nat,J0 k3 0 c s t u v x y A B C l0 0 0 w4/\∀k4 r,∀l2:Sl,∀i2 s0 s1 s2,∀l3 l4 l5 l6:Sl,∀i3,∀l7:Sl,∀i4 i5 w5,J0 k4 r l2 i2 s0 s1 s2 l3 l4 l5 l6 i3 l7 i4 i5 w5->N (YR (r<(l0.n:Int))) (∃J1:Sl->Int->D->D->D->Sl->Sl->Sl->Sl->Int->Sl->Int->Int->aw->Prop,(∀l8:Sl,∀i6 s3 s4 s5,∀l9 M qJ qy:Sl,∀i7,∀tT:Sl,∀i8 i9 w6,J1 l8 i6 s3 s4 s5 l9 M qJ qy i7 tT i8 i9 w6->nx k4 λk5=>J0 k5 (au U (r+1)) l8 i6 s3 s4 s5 l9 M qJ qy i7 tT i8 i9 w6)/\∃p0,cK l0 r 5 p0/\Eu w5 (p0.add 1) λs6=>oT [h,a,k] 39 #[l0.v,ab s6] w5 λam w7=>N (am !=r) (yu l1 r w7 λaC=>(aG w7 k 143 [l2.v,O U i2,ab s0,ab s1,ab s2,l3.v,l4.v,l5.v,l6.v,O U i3,l7.v,O U i4,O U i5]->h≠k->a≠k->gn [h,a] 84 #[pB k,O U 24,O U aC] w7 λw8=>qA w8 k 143 λB6 aS s7 s8 s9 C2 Tu P5 NH aT KB bv bV=>J1 B6 aS s7 s8 s9 C2 Tu P5 NH aT KB bv bV w8)) (J1 l2 i2 s0 s1 s2 l3 l4 l5 l6 i3 l7 i4 i5 w7)) (∃J2:Nat->Int->Sl->Int->D->D->D->Sl->Sl->Sl->Sl->Int->Sl->Int->Int->aw->Prop,∃k6:Nat,J2 k6 0 l2 i2 s0 s1 s2 l3 l4 l5 l6 i3 l7 i4 i5 w5/\∀k7 i,∀KC:Sl,∀j HU HV NI,∀P6 V1 V2 o:Sl,∀l,∀p:Sl,∀m n w9,J2 k7 i KC j HU HV NI P6 V1 V2 o l p m n w9->N (YR (i<(c.n:Int))) (∃J3:Nat->Int->Sl->Int->D->D->D->Sl->Sl->Sl->Sl->Int->Sl->Int->Int->aw->Prop,∃k8:Nat,J3 k8 0 KC j HU HV NI P6 V1 V2 o l p m n w9/\∀k9 b,∀Z:Sl,∀d W X V,∀Y Z1 Z2 Z3:Sl,∀e,∀Z4:Sl,∀f g q,J3 k9 b Z d W X V Y Z1 Z2 Z3 e Z4 f g q->N (YR (b<i)) (∃J4:Sl->Int->D->D->D->Sl->Sl->Sl->Sl->Int->Sl->Int->Int->aw->Prop,(∀P:Sl,∀E Z9 S T,∀Q Z5 Z6 Z7:Sl,∀H,∀Z8:Sl,∀I J dB,J4 P E Z9 S T Q Z5 Z6 Z7 H Z8 I J dB->nx k9 λqU=>J3 qU (au U (b+1)) P E Z9 S T Q Z5 Z6 Z7 H Z8 I J dB)/\∃p2,cK c b 3 p2/\Eu q (p2.add 0) λip=>∃p3,cK c i 3 p3/\Eu q (p3.add 0) λV3=>N (ip.toList==V3.toList) (∃p4,cK c i 3 p4/\o0 q λey=>gw ey (p4.add 2) λbY=>(aG ey k 143 [Z.v,O U d,ab W,ab X,ab V,Y.v,Z1.v,Z2.v,Z3.v,O U e,Z4.v,O U f,O U g]->h≠k->a≠k->gn [h,a] 84 #[pB k,O U 24,O U bY] ey λeY=>qA eY k 143 λeQ cc iD iF iN fd f5 f6 f7 ce f8 co cC=>J4 eQ cc iD iF iN fd f5 f6 f7 ce f8 co cC eY)) (o0 q λfV=>J4 Z d W X V Y Z1 Z2 Z3 e Z4 f g fV)) (nx k7 λqz=>J2 qz (au U (i+1)) Z d W X V Y Z1 Z2 Z3 e Z4 f g q)) (aG w9 k 143 [KC.v,O U j,ab HU,ab HV,ab NI,P6.v,V1.v,V2.v,o.v,O U l,p.v,O U m,O U n]->h≠k->a≠k->oT [h,a] 85 #[pB k,cF s t u v x y A B C,O U 0] w9 λmK fT=>qA fT k 143 λgE dO iS lE lT gG gO gT g8 el g9 K L=>∀iE,az [a] fT iE->aG iE k 143 [gE.v,O U dO,ab iS,ab lE,ab lT,gG.v,gO.v,gT.v,g8.v,O U el,g9.v,O U K,O U L]->R (yw K L) iE)))):F 36 #[dc c s t u v x y A B C] w R:=
 fC (.d 5 (.s (.s .o (.j [1,2,3,5,6,22] [.s 7 G,.b 22 [.sl,G,.str,.str,.str,.sl,.sl,.sl,.sl,G,.sl,G,G]] (.s .o (.j [1,2,3,5,6,7,22] [.b 22 [.sl,G,.str,.str,.str,.sl,.sl,.sl,.sl,G,.sl,G,G]] .o .o)) .o)) (.s (.s .o (.j [1,2,5,22] [.s 8 G,.b 22 [.sl,G,.str,.str,.str,.sl,.sl,.sl,.sl,G,.sl,G,G]] (.s .o (.s (.s .o (.j [1,2,5,8,22] [.s 9 G,.b 22 [.sl,G,.str,.str,.str,.sl,.sl,.sl,.sl,G,.sl,G,G]] (.s .o (.j [1,2,5,8,9,22] [.b 22 [.sl,G,.str,.str,.str,.sl,.sl,.sl,.sl,G,.sl,G,G]] .o .o)) .o)) .o)) .o)) .o))) mt
def am0{c:Sl}{a:Int}{b d e:D}{f g h i:Sl}{j:Int}(k:z w λl n=>wP [l] 86 #[Sl.nil.v,cF a b d e f g h i j,O U (-1),O U 0] n λm o=>R m.v o):F 37 #[dc c a b d e f g h i j] w R:=
 iI k
def am1{l:Sl}{n:Int}{m u p:D}{y H v o:Sl}{d:Int}(h:z w λk e=>lH 25 (cF n m u p y H v o d) e λr a=>cj [k] e a/\po 25 l r a λs f=>cj [k] a f/\Dk s 0 f λJ q c i b=>N (YR (i<(o.n:Int))) (gP o i b λg E I K t x A B j=>wP [k] 38 #[c.v,cF g E I K t x A B j] b λC L=>nx q λk3=>J k3 C (au U (i+1)) L) (R c.v b)):F 38 #[l.v,cF n m u p y H v o d] w R:=
 fC (.d 2 (.s (.s .o (.j [3] [.s 0 .sl,.s 5 G] .o .o)) .o)) h
def am2{l:Sl}{name:D}(h:nW 0 w λJ k i a=>N (YR (i<(l.n:Int))) (∃p0,cK l i 5 p0/\Eu a (p0.add 1) λs=>N (s.toList==name.toList) (R (O U i) a) (nx k λb=>J b (au U (i+1)) a)) (R (O U (-1)) a)):F 39 #[l.v,ab name] w R:=
 fC (.s .o (.s (.s .o (.j [0,1] [.s 5 G] .o .o)) .o)) h
def am3{l:Sl}{source:Int}{targets:Sl}(r:Dk (-1) 0 w λn v i a j=>N ((YR (a<(l.n:Int)))&&(YR ((targets.n:Int)>0))) (lK (λs z=>nx v λx=>n x s (au U (a+1)) z) λe=>cB 54 #[l.v,O U source,O U a] j λo m=>∃p0,cK l a 5 p0/\gw m (p0.add 0) λt=>∃J:Nat->M->Int->aw->Prop,∃k3:Nat,J k3 ((t==1)&&(o||(a==0))) 0 m/\∀k b d c,J k b d c->N (YR (d<(targets.n:Int))) (yu targets d c λu=>cB 54 #[l.v,O U u,O U a] c λq A=>nx k λy=>J y (b&&q) (au U (d+1)) A) (∃p,(b=aF->(YR (i<0))=aM->cK l a 5 p)/\∃f,(b=aF->(YR (i<0))=aM->aD c (p.add 3) [O U f])/\∃h,(b=aF->(YR (i<0))=aM->cK l i 5 h)/\∃g,(b=aF->(YR (i<0))=aM->aD c (h.add 3) [O U g])/\N (b&&((YR (i<0))||(YR (f>g)))) (o0 c λB=>e a B) (o0 c λC=>e i C))) (R (O U i) j)):F 40 #[l.v,O U source,targets.v] w R:=
 fC (.d 2 (.s (.s .o (.j [0,1,2] [.s 7 G,.s 8 G] (.s .o (.j [0,1,2,8] [.s 7 G] (.d 2 (.s (.s .o (.j [0,1,2,7,8] [.s 10 .bool,.s 11 G] .o .o)) .o)) .o)) .o)) .o)) r
def am4{l:Sl}{n:Int}(h:cL 87 #[l.v,O U n] w λd f=>N ((d.n:Int)==0) (R (O U 1) f) (∃J:Nat->Int->Int->Int->aw->Prop,∃m:Nat,J m 0 1 0 f/\∀k b c i a,J k b c i a->N (YR (i<(d.n:Int))) (yu d i a λg=>cI 41 #[l.v,O U g] a λe q=>nx k λo=>J o (au U (b+e)) (au U (c*e)) (au U (i+1)) q) (∃p,cK l n 5 p/\gw a (p.add 0) λj=>N (j==2) (R (O U c) a) (R (O U b) a)))):F 41 #[l.v,O U n] w R:=
 fC (.d 5 (.s (.s .o (.j [0,1,5] [.s 6 G,.s 7 G,.s 8 G] .o .o)) .o)) h
def am5{l:Sl}{n k:Int}(y:∃d:Sl,∃t,((av 31 1 #[.mk 0 (O U n)]).run aq w)=(.ok d.v t)/\cL 87 #[l.v,O U n] t λa m=>∃p0,cK l n 5 p0/\gw m (p0.add 0) λz=>N (z==1) (Dk k 0 m λv E f b o=>N (YR (b<(a.n:Int))) (yu a b o λA=>cI 41 #[l.v,O U A] o λq p=>N (YR (f<q)) (yu a b p λC=>cL 42 #[l.v,O U C,O U f] p λK S=>po 31 d K S λL T=>R L.v T) (nx E λH=>v H (au U (f-q)) (au U (b+1)) p)) (R d.v o)) (∃J:Nat->Int->Sl->Int->aw->Prop,∃k3:Nat,J k3 k Sl.nil (au U ((a.n:Int)-1)) m/\∀r h,∀j:Sl,∀i e,J r h j i e->N (YR (i>=0)) (yu a i e λD=>cI 41 #[l.v,O U D] e λc V=>∃s,cK a i 1 s/\o0 V λu=>gw u s λg=>c≠0/\cL 42 #[l.v,O U g,O U (h.tmod c)] u λM W=>po 31 M j W λP x=>c≠0/\nx r λI=>J I (au U (h.tdiv c)) P (au U (i-1)) x) (po 31 d j e λQ B=>R Q.v B))):F 42 #[l.v,O U n,O U k] w R:=
 fC (.d 3 (.s (.s .o (.s (.s (.s .o (.j [0,7,8] [.s 2 G,.s 9 G] .o .o)) .o) .o)) (.s .o (.s (.s .o (.j [0,7,8] [.s 2 G,.s 11 .sl,.s 12 G] .o .o)) .o)))) y
def auR{l f:Sl}(h:z w λk i=>wP [k] 61 #[f.v] i λd a=>(aG a k 33 [l.v]->cL 50 #[d.v,.func (.func 89) #[] #[pB k]] a λe b=>Ks b k 33 λj=>cL 88 #[e.v] b λg c=>Ks c k 33 λm=>R g.v c)):F 43 #[l.v,f.v] w R:=
 iI h
def auS{c:Addr}{leaf:Int}(v:∃n:Sl,∃g,((av 31 1 #[.mk 0 (O U leaf)]).run aq w)=(.ok n.v g)/\j9 g ((c.add 0).add 0) λE=>cL 91 #[E.v,O U leaf] g λH L=>po 31 n H L λo M=>nW 0 M λJ A e h=>N (YR (e<(o.n:Int))) (yu o e h λx=>z h λk j=>j9 j ((c.add 0).add 3) λI=>(aG j k 3 [O U x]->cI 92 #[I.v,.func (.func 93) #[] #[pB k]] j λy r=>Ga r k 3 λf=>nW y r λt B i b=>∃l:Sl,((YR (i>=0))=aF->aD b ((c.add 0).add 3) [l.v])/\∃a:Sl,((YR (i>=0))=aF->aD b (c.add 5) [a.v])/\∃p:Sl,(((YR (i>=0))&&(YR (i<(if(a.n:Int)<(l.n:Int)then(a.n:Int)else(l.n:Int)))))=aF->aD b ((c.add 0).add 3) [p.v])/\∃q,(((YR (i>=0))&&(YR (i<(if(a.n:Int)<(l.n:Int)then(a.n:Int)else(l.n:Int)))))=aF->cK p i 7 q)/\∃m,(((YR (i>=0))&&(YR (i<(if(a.n:Int)<(l.n:Int)then(a.n:Int)else(l.n:Int)))))=aF->aD b (q.add 0) [O U m])/\N (((YR (i>=0))&&(YR (i<(if(a.n:Int)<(l.n:Int)then(a.n:Int)else(l.n:Int)))))&&(m==f)) (o0 b λd=>aG d k 3 [O U f]->j9 d (c.add 5) λK=>xYB K i d λu=>N u (R (O U i) d) (nx B λC=>t C (au U (i+1)) d)) (o0 b λs=>aG s k 3 [O U f]->nx A λD=>J D (au U (e+1)) s))) (R (O U (-1)) h)):F 44 #[Q c,O U leaf] w R:=
 fC (.s .o (.s (.s .o (.j [0,17,18] [.s 19 G] (.d 2 (.s (.d 2 (.j [0,6,17,18,19] [.s 7 G] .o .o)) .o)) .o)) .o)) v
def am6{s:Sl}{v:Int}(h:cI 94 #[s.v,O U v] w λi a=>R (aj (YR (i>=0))) a):F 45 #[s.v,O U v] w R:=
 iI h
def v3w{o:Int}{i t C:Addr}(h:ahN w i λl c d e=>j9 w t λf=>gw w C λa=>cB 15 #[je l c d e,f.v,O U a,O U o] w λb g=>R (aj b) g):F 46 #[O U o,Q i,Q t,Q C] w R:=
 iI h
def Xa(s:Sl)(f:OV)(R:aH)(w:aw)(h:cI 95 #[s.v,f.v] w λi a=>R (aj (YR (i>=0))) a):F 47 #[s.v,f.v] w R:=
 fB (an:=.o) (args:=[.sl s,.raw f]) h
def v4w{o:Int}{i t C:Addr}(h:lK (λd j=>R (aj d) j) λJ=>xCV w i λv=>∃k:Nat,∃z c,v.v=(.func (.func k) z.toArray c.toArray)/\(∀x:Array ay,∀b,((callFunc k x).run aq b)=(.ok (.enter k x) b))/\cB k ((za (za z [O U o]) c).toArray) w λe a=>N e (Ow a t λq=>gw a C λg=>cB 49 #[ae q,O U g,O U o] a λf l=>J (!f) l) (J aM a)):F 48 #[O U o,Q i,Q t,Q C] w R:=
 fC (.s .o (.s (.j [] [.s 5 .bool] .o .o) .o)) h
def auT{c:Addr}{b d:Int}(h:o0 w λa=>j9 a ((c.add 0).add 0) λl=>j9 a ((c.add 0).add 3) λg=>∃p0,cK g b 7 p0/\gw a (p0.add 0) λi=>j9 a ((c.add 0).add 3) λj=>∃p,cK j d 7 p/\gw a (p.add 0) λf=>cB 63 #[l.v,O U i,O U f] a λe k=>R (aj e) k):F 49 #[Q c,O U b,O U d] w R:=
 iI h
def am7{s:Sl}{d:OV}(q:cI 95 #[s.v,d.v] w λa h=>N (a==(-1)) (R s.v h) (Dk a (au U (a+1)) h λn t i b e=>N (YR (b<(s.n:Int))) (lK (λr B=>nx t λu=>n u r (au U (b+1)) B) λJ=>yu s b e λg=>∃k3:Nat,∃z m,d.v=(.func (.func k3) z.toArray m.toArray)/\(∀x:Array ay,∀j,((callFunc k3 x).run aq j)=(.ok (.enter k3 x) j))/\cB k3 ((za (za z [O U g]) m).toArray) e λo f=>N (!o) (∃p,cK s i 1 p/\sT p f 1 λv y D A=>sS f v y D A [O U g] λC=>J (au U (i+1)) C) (J i f)) (∃k:Nat,(i=(k:Int)/\k<=s.n/\s.n<=s.c)/\∃l,((Builtin.clear_ #[31] 0 #[(s.cut k s.n s.c 1).v]).run aq e)=(.ok (ai #[]) l)/\∃c:Nat,(i=(c:Int)/\c<=s.c)/\R ((s.cut 0 c s.c 1).v) l))):F 50 #[s.v,d.v] w R:=
 fB (an:=.d 3 (.s (.s .o (.j [0,1] [.s 5 (.int .i64),.s 6 (.int .i64)] (.s .o (.j [0,1,6] [.s 5 (.int .i64)] .o .o)) .o)) .o)) (args:=[.sl s,.raw d]) q
def am8{p Q S K B m:Sl}(X:z w λk w0=>wP [k] 98 #[p.v,B.v] w0 λj w1=>∃a:Nat->Sl->Int->aw->Prop,∃Z:Nat,a Z Sl.nil 0 w1/\∀H,∀n:Sl,∀i s,a H n i s->N (YR (i<(j.n:Int))) (lK (λl2 w3=>nx H λk3=>a k3 l2 (au U (i+1)) w3) λb=>lK (λI w4=>Dk n 0 w4 λT k5 l c L=>N (YR (c<(I.n:Int))) (∃p0,cK I c 1 p0/\o0 L λM=>gw M p0 λY=>oT [k] 100 #[je p Q S K,O U Y,m.v] M λh P=>N (YR (h<0)) (nx k5 λk6=>T k6 l (au U (c+1)) P) (lf [k] 55 #[l.v,O U h] P λW t=>N (!W) (lH 31 (O U h) t λl5 u=>cj [k] t u/\po 31 l l5 u λl6 x=>cj [k] u x/\b l6 x) (b l t))) (b l L)) λv=>o0 s λd=>∃J:A,∃q,cK j i 1 q/\J q.block/\gw d q λC=>J k/\∃r,cK j i 1 r/\J r.block/\gw d r λD=>(lH 31 (O U C) d λl7 y=>cj [k] d y/\bX J d y/\wP [k] 99 #[p.v,O U D] y λl8 e=>bX J y e/\po 31 l7 l8 e λl9 V=>cj [k] e V/\bX J e V/\v l9 V)/\wP [k] 99 #[p.v,O U D] d λo f=>bX J d f/\lH 31 (O U C) f λqJ E=>cj [k] f E/\bX J f E/\po 31 qJ o E λqy g=>cj [k] E g/\bX J E g/\v qy g) (R n.v s)):F 53 #[je p Q S K,B.v,m.v] w R:=
 fC (.d 3 (.s (.s .o (.j [2,3,8] [.s 7 .sl,.s 9 G] (.s .o (.j [2,3,8,9] [.s 7 .sl] (.s (.j [2,3,7,8,9] [.s 10 .sl] .o .o) (.s .o (.j [2,3,8,9,10] [.s 7 .sl,.s 11 G] .o .o))) .o)) .o)) .o)) X
def afw(l:Sl)(a b:Int)(R:aH)(w:aw):Prop:=
 ∃p0,((((YR (b>=0))&&(YR (b<(l.n:Int))))&&(YR (a>b)))=aF->cK l b 5 p0)/\
 ∃i,((((YR (b>=0))&&(YR (b<(l.n:Int))))&&(YR (a>b)))=aF->aD w (p0.add 4) [O U i])/\
 R (aj ((((YR (b>=0))&&(YR (b<(l.n:Int))))&&(YR (a>b)))&&(YR (a<i)))) w
def am9{l:Sl}{a b:Int}(h:afw l a b R w):F 54 #[l.v,O U a,O U b] w R:=
 iI h
def ana{l:Sl}{n:Int}(h:nW 0 w λJ k i a=>N (YR (i<(l.n:Int))) (yu l i a λb=>N (b==n) (R (aj aF) a) (nx k λc=>J c (au U (i+1)) a)) (R (aj aM) a)):F 55 #[l.v,O U n] w R:=
 fC (.s .o (.s (.s .o (.j [0,1] [.s 5 G] .o .o)) .o)) h
def v6w{n:Int}{i:Addr}(h:j9 w i λl=>cB 45 #[l.v,O U n] w λb a=>R (aj b) a):F 56 #[O U n,Q i] w R:=
 iI h
def auU{g x D u p:Sl}(l:z w λk h=>∃m b,((Instr.makeMap 115 Pw).run aq h)=(.ok (.map m) b)/\cj [k] h b/\∃f d,((Instr.makeMap 111 Pw).run aq b)=(.ok (.map f) d)/\cj [k] b d/\z d λa s=>nW 0 s λJ k3 i c=>N (YR (i<(p.n:Int))) (auF p i c λn r=>z c λo j=>∃e,((Instr.mapUpdate 115 (.map m) (O U n) r.v).run aq j)=(.ok () e)/\cj [k,a,o] j e/\nx k3 λq=>J q (au U (i+1)) e) (aG c a 117 [g.v,x.v,D.v,u.v,.map m,.map f]->k≠a->R (pB a) c)):F 59 #[je g x D u,p.v] w R:=
 fC (.d 2 (.s (.s .o (.j [2,5,12,13,14] [.s 15 G] .o .o)) .o)) l
def auV{b:Addr}{k:Int}(h:z w λc a=>∃l:Sl,((YR (k<0))=aM->aD a ((b.add 0).add 3) [l.v])/\∃d:Sl,(((YR (k<0))||(YR (k>=(l.n:Int))))=aM->aD a ((b.add 0).add 3) [d.v])/\∃p0,(((YR (k<0))||(YR (k>=(l.n:Int))))=aM->cK d k 7 p0)/\∃i,(((YR (k<0))||(YR (k>=(l.n:Int))))=aM->aD a (p0.add 6) [O U i])/\N (((YR (k<0))||(YR (k>=(l.n:Int))))||(YR (i<0))) (∀e,az [c] a e->R (ai #[uj 0 0 0 (ao #[]) 0 Sl.nil 0,aj aM]) e) (j9 a ((b.add 0).add 3) λp=>G1 p k a λg j m s n q o=>∀f,az [c] a f->R (ai #[uj g j m s n q o,aj aF]) f)):F 60 #[Q b,O U k] w R:=
 iI h
def auW{n:Int}{i t C:Addr}(h:lK (λb e=>R (aj b) e) λJ=>Oo w i λa=>N (!a) (J aF w) (j9 w (t.add 0) λl=>gw w (C.add 6) λd=>cB 63 #[l.v,O U n,O U d] w λc f=>J (!c) f)):F 62 #[O U n,Q i,Q t,Q C] w R:=
 fC (.s .o (.s (.j [] [.s 5 .bool] .o .o) .o)) h
def auX{l:Sl}{a b:Int}(h:lK (λc e=>R (aj c) e) λJ=>N (a !=b) (cB 110 #[l.v,O U b,O U a] w λd f=>J d f) (J aM w)):F 63 #[l.v,O U a,O U b] w R:=
 fC (.s .o (.s (.j [] [.s 6 .bool] .o .o) .o)) h
def anb{s:D}(xaa:zH w λb c w0=>Bs [b,c] 116 #[ab s] w0 λl0 i0 i1 w1=>N (i0 !=0) (z w1 λk2 w2=>b≠c->b≠k2->c≠k2->∃J0:A,J0 k2/\vt J0 b/\vt J0 c/\∀w3,az [c,b] w2 w3->R (ai #[dc Sl.nil 0 (ao #[]) (ao #[]) (ao #[]) Sl.nil Sl.nil Sl.nil Sl.nil 0,yw i0 i1]) w3) (MO w1 λk3 k a w4=>lH 80 (ab (ao #[99,104,97,114,116])) w4 λl1 w5=>cj [b,c,k3,k,a] w4 w5/\(aG w5 k 176 [l0.v,O U 0,O U 0,O U 0,O U 16,O U 64,O U 12,O U 200,O U 400]->b≠k->c≠k->k3≠k->a≠k->gn [b,c,k3,a] 117 #[pB k,l1.v] w5 λw6=>jU w6 k 176 λl2 i2 i3 i4 i5 i6 i7 i8 i9=>pV [b,c,k3,a] 118 #[pB k,O U 1] w6 λnO s0 s1 s2 l3 l4 l5 l6 oF w7=>jU w7 k 176 λl7 oN oR pi pm pP rg rx tO=>∀w8,az [a] w7 w8->aG w8 k 176 [l7.v,O U oN,O U oR,O U pi,O U pm,O U pP,O U rg,O U rx,O U tO]->lH 80 (ab (ao #[123])) w8 λl8 w9=>cj [b,c,k3,k,a] w8 w9/\gn [b,c,k3,a] 117 #[pB k,l8.v] w9 λdq=>jU dq k 176 λl9 ut uP wd As AC AS AT Bv=>∃J1:Nat->Sl->Int->D->D->D->Sl->Sl->Sl->Sl->Int->Sl->Int->Int->Int->Int->Int->Int->Int->Int->aw->Prop,∃k6:Nat,J1 k6 Sl.nil nO s0 s1 s2 l3 l4 l5 l6 oF l9 ut uP wd As AC AS AT Bv dq/\∀k7,∀I:Sl,∀u s3 s4 s5,∀qJ qy tT B6:Sl,∀v,∀C2:Sl,∀By BV BY Cc CC Do DO EQ dB,J1 k7 I u s3 s4 s5 qJ qy tT B6 v C2 By BV BY Cc CC Do DO EQ dB->lH 80 (ab (ao #[118,97,114])) dB λTu ey=>cj [b,c,k3,k,a] dB ey/\oT [b,c,k3,a] 119 #[pB k,Tu.v] ey λFd eY=>jU eY k 176 λP5 Fn FS Ge Gg Gt GE GG GO=>N (YR (Fd>0)) (o0 eY λfV=>aG fV k 176 [P5.v,O U Fn,O U FS,O U Ge,O U Gg,O U Gt,O U GE,O U GG,O U GO]->∃J2:A,J2 a/\acQ [b,c,k3,a] 120 #[pB k] fV λs6 GT H1 T=>jU T k 176 λNH am aC aS aT bv bV bY cc=>bX J2 fV T/\lH 22 (amR s6 GT H1) T λKB iE=>cj [b,c,k3,k,a] T iE/\bX J2 T iE/\po 22 I KB iE λKC gL=>cj [b,c,k3,k,a] iE gL/\bX J2 iE gL/\∀jH,az [a] gL jH->aG jH k 176 [NH.v,O U am,O U aC,O U aS,O U aT,O U bv,O U bV,O U bY,O U cc]->nx k7 λk8=>J1 k8 KC u s3 s4 s5 qJ qy tT B6 v NH am aC aS aT bv bV bY cc jH) (aG eY a 29 [I.v,O U u,ab s3,ab s4,ab s5,qJ.v,qy.v,tT.v,B6.v,O U v]->b≠a->c≠a->k3≠a->gn [b,c,k3] 121 #[pB k,Q ⟨a,1,Pw⟩] eY λkf=>jU kf k 176 λP6 Id If Is ID IF IN IO IS=>re kf a 29 λV1 Le s7 s8 s9 V2 RK So Z0 Lt=>∃J3:Sl->Int->D->D->D->Sl->Sl->Sl->Sl->Int->Sl->Int->Int->Int->Int->Int->Int->Int->Int->aw->Prop,(∀Vg:Sl,∀LE HU HV NI,∀Z1 Z2 Z3 Z4:Sl,∀LT,∀ST:Sl,∀MK Nm No NO Of Or OF ON j8,J3 Vg LE HU HV NI Z1 Z2 Z3 Z4 LT ST MK Nm No NO Of Or OF ON j8->lf [b,c,k3] 122 #[pB k] j8 λb0 mB=>jU mB k 176 λJ x d e y B C E H=>re mB a 29 λZ5 f P8 P9 KF Z6 Z7 Z8 l g=>N (!b0) (o0 mB λoH=>aG oH k 176 [J.v,O U x,O U d,O U e,O U y,O U B,O U C,O U E,O U H]->aG oH a 29 [Z5.v,O U f,ab P8,ab P9,ab KF,Z6.v,Z7.v,Z8.v,l.v,O U g]->b≠c->b≠k3->b≠k->b≠a->c≠k3->c≠k->c≠a->k3≠k->k3≠a->k≠a->∃J4:A,J4 k/\vt J4 b/\vt J4 c/\∀sM,az [c,b] oH sM->aG sM k 176 [J.v,O U x,O U d,O U e,O U y,O U B,O U C,O U E,O U H]->aG sM a 29 [Z5.v,O U f,ab P8,ab P9,ab KF,Z6.v,Z7.v,Z8.v,l.v,O U g]->R (ai #[dc Sl.nil 0 (ao #[]) (ao #[]) (ao #[]) Sl.nil Sl.nil Sl.nil Sl.nil 0,yw d e]) sM) (∀qK,az [c,b] mB qK->aG qK k 176 [J.v,O U x,O U d,O U e,O U y,O U B,O U C,O U E,O U H]->aG qK a 29 [Z5.v,O U f,ab P8,ab P9,ab KF,Z6.v,Z7.v,Z8.v,l.v,O U g]->R (ai #[dc Z5 f P8 P9 KF Z6 Z7 Z8 l g,yw 0 0]) qK))/\∃J5:M->Sl->Int->D->D->D->Sl->Sl->Sl->Sl->Int->Sl->Int->Int->Int->Int->Int->Int->Int->Int->aw->Prop,(∀b1,∀f8:Sl,∀ce Z9 iS lE,∀gE gG gO gT:Sl,∀co,∀g8:Sl,∀cC dO el eQ fd f5 f6 f7 pI,J5 b1 f8 ce Z9 iS lE gE gG gO gT co g8 cC dO el eQ fd f5 f6 f7 pI->N b1 (gn [b,c,k3] 123 #[pB k] pI λry=>jU ry k 176 λTo OR Pi Pp L P S V W=>re ry a 29 λTO X s19 V3 s21 UP UV WF WP Y=>J3 TO X s19 V3 s21 UP UV WF WP Y To OR Pi Pp L P S V W ry) (J3 f8 ce Z9 iS lE gE gG gO gT co g8 cC dO el eQ fd f5 f6 f7 pI))/\o0 kf λuZ=>aG uZ k 176 [P6.v,O U Id,O U If,O U Is,O U ID,O U IF,O U IN,O U IO,O U IS]->aG uZ a 29 [V1.v,O U Le,ab s7,ab s8,ab s9,V2.v,RK.v,So.v,Z0.v,O U Lt]->lf [b,c,k3] 122 #[pB k] uZ λb2 we=>jU we k 176 λK i h j m n o p q=>re we a 29 λg9 r lT mt mK ip iD iF iN t=>N b2 (∃p0,cK K i 4 p0/\gw we (p0.add 0) λZ=>J5 (Z !=5) g9 r lT mt mK ip iD iF iN t K i h j m n o p q we) (J5 aM g9 r lT mt mK ip iD iF iN t K i h j m n o p q we))))):F 74 #[ab s] w R:=
 fC (.d 8 (.s (.j [2,3,5,6,7,22] [.b 7 [.sl,G,.str,.str,.str,.sl,.sl,.sl,.sl,G],.b 22 [.sl,G,G,G,G,G,G,G,G]] .o .o) (.s .o (.j [2,3,5,6,7,22] [.b 7 [.sl,G,.str,.str,.str,.sl,.sl,.sl,.sl,G],.b 22 [.sl,G,G,G,G,G,G,G,G]] (.s (.j [2,3,5,6,7,22] [.s 71 .bool,.b 7 [.sl,G,.str,.str,.str,.sl,.sl,.sl,.sl,G],.b 22 [.sl,G,G,G,G,G,G,G,G]] .o .o) .o) .o)))) xaa
def auY{k:Addr}{H:Int}{y M Y:D}{W X P o:Sl}{u:Int}(h:z w λa b=>OB b (k.add 0) λE=>j9 b (k.add 1) λr=>gn [a] 76 #[Q k,.map E,ab y,O U (r.n:Int),O U u] b λc=>j9 c (k.add 1) λs=>lH 33 (Ez 0 (ao #[]) 0 0 0) c λt d=>cj [a] c d/\po 33 s t d λv e=>cj [a] d e/\sT (k.add 1) e 1 λg m Z k3=>a≠g/\sS e g m Z k3 [v.v] λS=>nW 0 S λJ n i f=>N (YR (i<(o.n:Int))) (gP o i f λj I K L x A B C l=>z f λp T=>gn [a,p] 75 #[Q k,cF j I K L x A B C l] T λV=>nx n λq=>J q (au U (i+1)) V) (R (ai #[]) f)):F 75 #[Q k,cF H y M Y W X P o u] w R:=
 fC (.d 4 (.j [0,3,32,33] [.s 34 G] .o .o)) h
def anc{k:Addr}{m:Option Nat}{name:D}{p at_:Int}(h:∃i b a,((Instr.lookup 126 (.map m) (ab name) aF).run aq w)=(.ok (ai #[O U i,aj b]) a)/\cU 124 #[Q k,aj (!b),O U 24,O U at_] a λc=>N (!b) (∃d,((Instr.mapUpdate 126 (.map m) (ab name) (O U p)).run aq c)=(.ok () d)/\R (ai #[]) d) (R (ai #[]) c)):F 76 #[Q k,.map m,ab name,O U p,O U at_] w R:=
 iI h
def auZ{k:Addr}{p:Int}{C u E:D}{y H v o:Sl}{r at_:Int}(M:z w λa w0=>gn [a] 125 #[Q k,cF p C u E y H v o r,O U at_] w0 λs=>N1 224 y.v H.v s λl0 t=>cj [a] s t/\gn [a] 126 #[Q k,l0.v] t λw3=>nW 0 w3 λI Z i h=>N (YR (i<(v.n:Int))) (iY v i h λP s0 l b0 S W s1 X l1 Y l2 l3 m=>z h λk3 w5=>gn [a,k3] 124 #[Q k,aj ((P !=3)||((YR (l>0))&&(YR (l<=1099511627776)))),O U 28,O U m] w5 λw6=>gn [a,k3] 127 #[Q k,bT S W s1 X l1 Y] w6 λx=>lH 224 l2.v x λl4 B=>cj [a,k3] x B/\gn [a,k3] 126 #[Q k,l4.v] B λw9=>o0 w9 λq=>∃J:A,J k3/\lf [a,k3] 128 #[Q k,l3.v] q λL d=>bX J q d/\gn [a,k3] 124 #[Q k,aj L,O U 27,O U m] d λj=>bX J d j/\nx Z λk4=>I k4 (au U (i+1)) j) (Dk (au U (at_+1)) 0 h λK k6 n g e=>N (YR (g<(o.n:Int))) (gP o g e λb s2 s3 s4 l5 l6 l7 l8 c=>z e λk7 V=>oT [a,k7] 77 #[Q k,cF b s2 s3 s4 l5 l6 l7 l8 c,O U n] V λf T=>nx k6 λk8=>K k8 f (au U (g+1)) T) (R (O U n) e))):F 77 #[Q k,cF p C u E y H v o r,O U at_] w R:=
 fC (.d 3 (.s (.s .o (.j [0,2,4,23,24] [.s 25 G] .o .o)) (.s .o (.s (.s .o (.j [0,4,8,67,68] [.s 2 G,.s 69 G] .o .o)) .o)))) M
def ane{c:Sl}{a:Int}{b d e:D}{f g h i:Sl}{j:Int}(k:z w λm n=>W9 [m] 129 #[dc c a b d e f g h i j] n λs l o=>R (O U l) o):F 78 #[dc c a b d e f g h i j] w R:=
 iI k
def au0{l:Addr}{n:Int}{y u7 yp:D}{yG yH vQ o:Sl}{u9 p d:Int}(s:z w λk q=>j9 q (l.add 0) λj=>o0 q λb=>∃J:A,J ((l.add 0).block)/\j9 b (l.add 0) λH=>lH 134 (Ez n y p d 0) b λI a=>cj [k] b a/\bX J b a/\po 134 H I a λK c=>cj [k] a c/\bX J a c/\sT (l.add 0) c 1 λg v z0 k3=>k≠g/\sS c g v z0 k3 [K.v] λw4=>nW 0 w4 λr x i f=>N (YR (i<(o.n:Int))) (gP o i f λt X Y Z L M P S u=>z f λB w6=>gn [k,B] 79 #[Q l,cF t X Y Z L M P S u,O U (j.n:Int),O U (au U (d+1))] w6 λw7=>nx x λC=>r C (au U (i+1)) w7) (o0 f λe=>j9 e (l.add 0) λT=>j9 e (l.add 0) λV=>∃m,cK T (j.n:Int) 5 m/\sT (m.add 4) e 1 λh E z1 W=>k≠h/\sS e h E z1 W [O U (V.n:Int)] λw9=>R (ai #[]) w9)):F 79 #[Q l,cF n y u7 yp yG yH vQ o u9,O U p,O U d] w R:=
 fC (.d 3 (.s (.s .o (.j [0,3,5,8,33,34] [.s 35 G] .o .o)) .o)) s
def au1{l:Addr}{name:D}(h:N (name.toList==((ao #[]).toList)) (R (O U (-1)) w) (j9 w ((l.add 0).add 0) λa=>cI 130 #[a.v,ab name] w λi b=>R (O U i) b)):F 80 #[Q l,ab name] w R:=
 iI h
def au2{l:Addr}{source:Int}{targets:Sl}(k:N ((targets.n:Int)==0) (R (O U (-1)) w) (∃c:Sl,∃e,((av 31 1 #[.mk 0 (O U source)]).run aq w)=(.ok c.v e)/\po 31 c targets e λd f=>j9 f ((l.add 0).add 0) λs=>cI 131 #[s.v,d.v] f λm v=>nW m v λg q i a=>lK (λh b=>N h (j9 b ((l.add 0).add 0) λt=>∃p0,cK t i 5 p0/\gw b (p0.add 2) λn=>nx q λr=>g r n b) (R (O U i) b)) λJ=>N (YR (i>0)) (j9 a ((l.add 0).add 0) λu=>∃p,cK u i 5 p/\gw a (p.add 0) λo=>N (o !=1) (J aF a) (cB 45 #[d.v,O U i] a λj x=>J j x)) (J aM a))):F 81 #[Q l,O U source,targets.v] w R:=
 fC (.d 4 (.s (.j [0,7] [.s 8 G] (.s (.s (.j [0,7,8] [.s 41 .bool] .o .o) .o) .o) .o) .o)) k
def anf{c:Sl}{a:Int}{b d e:D}{f g h i:Sl}{j:Int}(n:z w λl p=>W9 [l] 132 #[dc c a b d e f g h i j] p λs k m=>N (k !=0) (R (ai #[Sl.nil.v,O U k]) m) (wP [l] 37 #[dc c a b d e f g h i j] m λo q=>R (ai #[o.v,O U 0]) q)):F 82 #[dc c a b d e f g h i j] w R:=
 iI n
def ang{v:Int}{I B K:D}{E H Q o:Sl}{u:Int}{l:Sl}(h:z w λk d=>lH 31 (O U u) d λm a=>cj [k] d a/\po 31 l m a λn e=>cj [k] a e/\Dk n 0 e λJ j c i b=>N (YR (i<(o.n:Int))) (gP o i b λf x y A p q r s g=>wP [k] 83 #[cF f x y A p q r s g,c.v] b λt C=>nx j λk3=>J k3 t (au U (i+1)) C) (R c.v b)):F 83 #[cF v I B K E H Q o u,l.v] w R:=
 fC (.d 2 (.s (.s .o (.j [2] [.s 1 .sl,.s 5 G] .o .o)) .o)) h
def anh{k:Addr}{e at_:Int}(h:gw w ((k.add 11).add 0) λi=>N (i==0) (sT (k.add 11) w 2 λa b z c=>sS w a b z c [O U e,O U at_] λd=>R (ai #[]) d) (R (ai #[]) w)):F 84 #[Q k,O U e,O U at_] w R:=
 iI h
def ani{k:Addr}{n:Int}{m u p:D}{y H v o:Sl}{d at_:Int}(h:z w λc B=>gn [c] 133 #[Q k,cF n m u p y H v o d,O U at_] B λC=>Dk (au U (at_+1)) 0 C λJ j b i a=>N (YR (i<(o.n:Int))) (gP o i a λe t x A l q r s f=>oT [c] 85 #[Q k,cF e t x A l q r s f,O U b] a λg E=>nx j λk3=>J k3 g (au U (i+1)) E) (R (O U b) a)):F 85 #[Q k,cF n m u p y H v o d,O U at_] w R:=
 fC (.d 3 (.s (.s .o (.j [0,4] [.s 2 G,.s 7 G] .o .o)) .o)) h
def anj{l:Sl}{n:Int}{y L W:D}{T V Q o:Sl}{M p d:Int}(j:z w λk g=>lH 33 (Ez n y p d 0) g λu c=>cj [k] g c/\po 33 l u c λv h=>cj [k] c h/\Dk v 0 h λJ r a i b=>N (YR (i<(o.n:Int))) (gP o i b λm H I K x A B C q=>wP [k] 86 #[a.v,cF m H I K x A B C q,O U (l.n:Int),O U (au U (d+1))] b λE P=>nx r λk3=>J k3 E (au U (i+1)) P) (∃f,cK a (l.n:Int) 5 f/\sT (f.add 4) b 1 λe s X t=>k≠e/\sS b e s X t [O U (a.n:Int)] λS=>R a.v S)):F 86 #[l.v,cF n y L W T V Q o M,O U p,O U d] w R:=
 fC (.d 3 (.s (.s .o (.j [3,5,9] [.s 0 .sl,.s 10 G] .o .o)) .o)) j
def ank{b:Sl}{n:Int}(h:cL 134 #[b.v,O U n] w λc u=>∃J:Nat->Sl->Int->aw->Prop,∃o:Nat,J o Sl.nil 0 u/\∀k,∀l:Sl,∀i a,J k l i a->N (YR (i<(c.n:Int))) (lK (λr v=>nx k λq=>J q r (au U (i+1)) v) λe=>yu c i a λg=>∃p,cK b g 5 p/\gw a (p.add 0) λj=>cB 109 #[O U j] a λf d=>N (!f) (yu c i d λm=>lH 31 (O U m) d λs x=>po 31 l s x λt y=>e t y) (e l d)) (R l.v a)):F 87 #[b.v,O U n] w R:=
 fC (.d 3 (.s (.s .o (.j [0,6] [.s 5 .sl,.s 7 G] (.s .o (.j [0,6,7] [.s 5 .sl] .o .o)) .o)) .o)) h
def au3{l:Sl}(h:cU 51 #[l.v] w λb=>cL 52 #[l.v] b λa c=>R a.v c):F 88 #[l.v] w R:=
 iI h
def au4{n:Int}{i:Addr}(h:j9 w i λl=>cB 90 #[l.v,O U n] w λb a=>R (aj (!b)) a):F 89 #[O U n,Q i] w R:=
 iI h
def au5{r:Sl}{n:Int}(h:lK (λb a=>R (aj b) a) λJ=>∃p0,(((YR (n>=0))&&(YR (n<(r.n:Int))))=aF->cK r n 5 p0)/\∃i,(((YR (n>=0))&&(YR (n<(r.n:Int))))=aF->aD w (p0.add 0) [O U i])/\N (((YR (n>=0))&&(YR (n<(r.n:Int))))&&(i==1)) (cL 135 #[r.v,O U n] w λl c=>J ((l.n:Int)==0) c) (J aM w)):F 90 #[r.v,O U n] w R:=
 fC (.s .o (.s (.j [] [.s 4 .bool] .o .o) .o)) h
def au6(l:Sl)(n:Int)(R:aH)(c:aw)(h:cB 136 #[l.v,O U n] c λe w=>N (!e) (R Sl.nil.v w) (∃p0,cK l n 5 p0/\gw w (p0.add 2) λf=>∃J:Nat->Int->Sl->aw->Prop,∃j:Nat,J j f Sl.nil w/\∀k i,∀a:Sl,∀b,J k i a b->N (YR (i>=0)) (lH 31 (O U i) b λo r=>po 31 a o r λq d=>∃p,cK l i 5 p/\gw d (p.add 2) λg=>nx k λm=>J m g q d) (R a.v b))):F 91 #[l.v,O U n] c R:=
 fC (.d 3 (.s (.s .o (.j [0] [.s 1 G,.s 5 .sl] .o .o)) .o)) h
def anl(s:Sl)(f:OV)(R:aH)(a:aw)(h:nW 0 a λJ o i w=>N (YR (i<(s.n:Int))) (G1 s i w λg j l q m p n=>∃k:Nat,∃z d,f.v=(.func (.func k) z.toArray d.toArray)/\(∀x:Array ay,∀b,((callFunc k x).run aq b)=(.ok (.enter k x) b))/\cB k ((za (za z [uj g j l q m p n]) d).toArray) w λe c=>N e (R (O U i) c) (nx o λk3=>J k3 (au U (i+1)) c)) (R (O U (-1)) w)):F 92 #[s.v,f.v] a R:=
 fB (an:=.s .o (.s (.s .o (.j [0,1,7] [.s 8 (.int .i64)] .o .o)) .o)) (args:=[.sl s,.raw f]) h
def v9w(r c d:Int)(e:D)(f:Int)(g:Sl)(j:Int)(i:Addr)(R:aH)(w:aw)(h:z w λk a=>gw a i λb=>R (aj (r==b)) a):F 93 #[uj r c d e f g j,Q i] w R:=
 iI h
def anm{s:Sl}{v:Int}(h:nW 0 w λJ k i a=>N (YR (i<(s.n:Int))) (yu s i a λb=>N (v==b) (R (O U i) a) (nx k λc=>J c (au U (i+1)) a)) (R (O U (-1)) a)):F 94 #[s.v,O U v] w R:=
 fC (.s .o (.s (.s .o (.j [0,1,7] [.s 8 G] .o .o)) .o)) h
def Xb(s:Sl)(f:OV)(R:aH)(a:aw)(h:nW 0 a λJ j i w=>N (YR (i<(s.n:Int))) (yu s i w λg=>∃k:Nat,∃z d,f.v=(.func (.func k) z.toArray d.toArray)/\(∀x:Array ay,∀b,((callFunc k x).run aq b)=(.ok (.enter k x) b))/\cB k ((za (za z [O U g]) d).toArray) w λe c=>N e (R (O U i) c) (nx j λk3=>J k3 (au U (i+1)) c)) (R (O U (-1)) w)):F 95 #[s.v,f.v] a R:=
 fB (an:=.s .o (.s (.s .o (.j [0,1,7] [.s 8 (.int .i64)] .o .o)) .o)) (args:=[.sl s,.raw f]) h
def ann{l u:Sl}(m:∃J:Nat->Sl->Int->aw->Prop,∃n:Nat,J n Sl.nil 0 w/\∀k,∀a:Sl,∀i c,J k a i c->N (YR (i<(l.n:Int))) (lK (λp t=>nx k λo=>J o p (au U (i+1)) t) λe=>cB 55 #[u.v,O U i] c λb d=>lK (λj h=>N j (lH 31 (O U i) h λq v=>po 31 a q v λr x=>e r x) (e a h)) λf=>∃p0,(b=aF->cK l i 5 p0)/\∃g,(b=aF->aD d (p0.add 0) [O U g])/\N (b&&(g==1)) (cL 87 #[l.v,O U i] d λs y=>f ((s.n:Int)==0) y) (f aM d)) (R a.v c)):F 98 #[l.v,u.v] w R:=
 fC (.d 2 (.s (.s .o (.j [0,1] [.s 5 .sl,.s 6 G] (.s .o (.j [0,1,6] [.s 5 .sl] (.s .o (.s (.j [0,1,5,6] [.s 32 .bool] .o .o) .o)) .o)) .o)) .o)) m
def ano{l:Sl}{n:Int}(h:N ((YR (n<0))||(YR (n>=(l.n:Int)))) (R Sl.nil.v w) (∃p0,cK l n 5 p0/\gw w (p0.add 2) λd=>∃J:Nat->Sl->Int->aw->Prop,∃f:Nat,J f Sl.nil d w/\∀k,∀a:Sl,∀i b,J k a i b->N (YR (i>=0)) (lH 31 (O U i) b λj o=>po 31 a j o λm c=>∃p,cK l i 5 p/\gw c (p.add 2) λe=>nx k λg=>J g m e c) (R a.v b))):F 99 #[l.v,O U n] w R:=
 fC (.d 3 (.s (.s .o (.j [0] [.s 5 .sl,.s 6 G] .o .o)) .o)) h
def anp{d x D u:Sl}{n:Int}{m:Sl}(h:z w λf e=>nW 0 e λJ k i a=>N ((YR (i<(u.n:Int)))&&(YR (i<(m.n:Int)))) (xYB m i a λb=>∃p,(b=aF->cK u i 7 p)/\∃c,(b=aF->aD a (p.add 0) [O U c])/\N (b&&(c==n)) (R (O U i) a) (nx k λk3=>J k3 (au U (i+1)) a)) (R (O U (-1)) a)):F 100 #[je d x D u,O U n,m.v] w R:=
 fC (.s .o (.s (.s .o (.j [1,2,3] [.s 7 G] .o .o)) .o)) h
def au7(l:Sl)(n:Int)(R:aH)(b:aw)(h:cB 136 #[l.v,O U n] b λe c=>N (!e) (R Sl.nil.v c) (∃J:Nat->Sl->Int->aw->Prop,∃j:Nat,J j Sl.nil (au U (n+1)) c/\∀k,∀a:Sl,∀i w,J k a i w->∃p0,cK l n 5 p0/\gw w (p0.add 4) λf=>N (YR (i<f)) (lH 31 (O U i) w λo r=>po 31 a o r λq d=>∃p,cK l i 5 p/\gw d (p.add 4) λg=>nx k λm=>J m q g d) (R a.v w))):F 104 #[l.v,O U n] b R:=
 fC (.d 3 (.s (.s .o (.j [0,1] [.s 5 .sl,.s 6 G] .o .o)) .o)) h
def anq{kind:Int}(h:R (aj ((kind==3)||(kind==4))) w):F 109 #[O U kind] w R:=
 iI h
def au8{r:Sl}{b a:Int}(h:lK (λf j=>R (aj f) j) λJ=>cB 136 #[r.v,O U a] w λg d=>N g (cB 136 #[r.v,O U b] d λc e=>∃p0,((c&&(YR (b<=a)))=aF->cK r b 5 p0)/\∃i,((c&&(YR (b<=a)))=aF->aD e (p0.add 4) [O U i])/\J ((c&&(YR (b<=a)))&&(YR (a<i))) e) (J aM d)):F 110 #[r.v,O U b,O U a] w R:=
 fC (.s .o (.s (.j [] [.s 6 .bool] .o .o) .o)) h
def anr{s:D}(t:N (YR ((s.size:Int)>16384)) (z w λk0 Y=>R (ai #[Sl.nil.v,yw 2 (-1)]) Y) (z w λa Z=>wP [a] 152 #[] Z λC w2=>z w2 λk m=>aG m k 213 [ab s,O U 0,C.v,Sl.nil.v]->gn [a] 153 #[pB k] m λn=>Ew n k 213 λS u E H=>∃J:Nat->Int->Int->D->Int->Sl->Sl->aw->Prop,∃k3:Nat,J k3 0 0 S u E H n/\∀j i f T v,∀I K:Sl,∀o,J j i f T v I K o->lf [a] 154 #[pB k] o λr b=>Ew b k 213 λs2 i4 l5 l6=>N (!r) (oT [a] 155 #[pB k] b λg c=>Ew c k 213 λV h L M=>N (g !=0) (∀e,az [a] c e->aG e k 213 [ab V,O U h,L.v,M.v]->R (ai #[Sl.nil.v,yw g h]) e) (gn [a] 153 #[pB k] c λp=>Ew p k 213 λW x P l=>nx j λB=>J B i f W x P l p)) (gn [a] 156 #[pB k,nT 5 (ao #[]) 0 0,O U 0] b λq=>Ew q k 213 λX A Q y=>∀d,az [a] q d->aG d k 213 [ab X,O U A,Q.v,y.v]->R (ai #[y.v,yw 0 0]) d))):F 116 #[ab s] w R:=
 fC (.d 3 (.s (.s .o (.j [3,4,14] [.b 3 [G,G],.b 14 [.str,G,.sl,.sl]] .o .o)) .o)) t
def ans{c:Addr}{texts:Sl}(h:nW 0 w λd k i a=>N (YR (i<(texts.n:Int))) (CU (λg=>nx k λf=>d f (au U (i+1)) g) λJ=>IJ texts i a λs=>lH 80 (ab s) a λl j=>cI 119 #[Q c,l.v] j λe b=>N (e==0) (cU 123 #[Q c] b λm=>J m) (J b)) (R (ai #[]) a)):F 117 #[Q c,texts.v] w R:=
 fC (.s .o (.j [0,6,7] [.s 8 G] (.d 2 (.j [0,6,7,8] [] .o .o)) .o)) h
def ant{r:Addr}{kind:Int}(h:zH w λa k b=>CU (λn=>wS [a,k] 159 #[Q (r.add 0),O U 1] n λv s x i o=>z o λd p=>a≠k->a≠d->k≠d->∃c:A,c d/\vt c k/\vt c k/\∀f,az [a,k] p f->R (cF kind s (ao #[]) (ao #[]) Sl.nil Sl.nil Sl.nil Sl.nil i) f) λJ=>j9 b ((r.add 0).add 0) λm=>gw b ((r.add 0).add 1) λg=>∃p0,cK m g 4 p0/\gw b (p0.add 0) λj=>N (j==1) (o0 b λq=>gn [a,k] 157 #[Q r,Q ((r.add 4).add 1),O U 2] q λe=>gw e ((r.add 4).add 2) λl=>N (l==0) (gn [a,k] 158 #[Q (r.add 0),O U 21] e λt=>J t) (J e)) (o0 b λu=>J u)):F 118 #[Q r,O U kind] w R:=
 fC (.d 2 (.j [0,4,5] [] .o .o)) h
def anu{c:Addr}{texts:Sl}(h:cI 160 #[Q c,texts.v] w λi a=>CU (λf=>R (O U i) f) λJ=>N (YR (i>0)) (gw a (c.add 1) λb=>sT (c.add 1) a 1 λk d z e=>sS a k d z e [O U (au U (b+1))] λg=>J g) (J a)):F 119 #[Q c,texts.v] w R:=
 fC (.d 2 (.j [5] [] .o .o)) h
def anv{r:Addr}(j:z w λk b=>CU (λA=>wS [k] 159 #[Q (r.add 0),O U 1] A λD x E l B=>z B λa c=>lH 80 (ab (ao #[61])) c λs e=>cj [k,a] c e/\gn [k,a] 117 #[Q (r.add 0),s.v] e λf=>lH 80 (ab (ao #[45])) f λt g=>cj [k,a] f g/\oT [k,a] 119 #[Q (r.add 0),t.v] g λm C=>wS [k,a] 159 #[Q (r.add 0),O U 3] C λG I n H h=>lH 80 (ab (ao #[59])) h λu i=>cj [k,a] h i/\gn [k,a] 117 #[Q (r.add 0),u.v] i λq=>∀d,az [k] q d->R (amR x (au U ((au U (1-(au U (2*m))))*n)) l) d) λJ=>j9 b ((r.add 0).add 0) λv=>gw b ((r.add 0).add 1) λo=>∃p0,cK v o 4 p0/\gw b (p0.add 0) λp=>N (p==1) (o0 b λy=>gn [k] 157 #[Q r,Q ((r.add 4).add 0),O U 2] y λY=>J Y) (o0 b λV=>J V)):F 120 #[Q r] w R:=
 fC (.s .o (.j [0,2] [] .o .o)) j
def anw{r:Addr}{n:Option Addr}(f8:z w λk w0=>gw w0 ((r.add 4).add 2) λi0=>sT ((r.add 4).add 2) w0 1 λk1 k2 z0 k3=>k≠k1/\sS w0 k1 k2 z0 k3 [O U (au U (i0-1))] λw1=>∃I:Nat->M->M->M->M->aw->Prop,∃k4:Nat,I k4 aM aM aM aM w1/\∀k5 P S Z b3 w2,I k5 P S Z b3 w2->∃K:M->M->M->M->M->aw->Prop,(∀b4 b5 b6 b7 b8 E,K b4 b5 b6 b7 b8 E->N b4 (nx k5 λk6=>I k6 b5 b6 b7 b8 E) (W2 80 (ab (ao #[115,116,97,116,101])) (ab (ao #[112,97,114,97,108,108,101,108])) (ab (ao #[104,105,115,116,111,114,121])) (ab (ao #[100,101,101,112])) E λl0 w4=>cj [k] E w4/\oT [k] 160 #[Q (r.add 0),l0.v] w4 λi1 w5=>∃L:Nat->Int->M->M->M->M->aw->Prop,∃k7:Nat,L k7 i1 b5 b6 b7 b8 w5/\∀k8 x l T b e a,L k8 x l T b e a->N (YR (x>0)) (gw a ((r.add 0).add 1) λi3=>sT ((r.add 0).add 1) a 1 λk9 qU z1 qz=>k≠k9/\sS a k9 qU z1 qz [O U (au U (i3+1))] λw7=>∃c:M->M->M->M->aw->Prop,(∀g h i j w8,c g h i j w8->W2 80 (ab (ao #[115,116,97,116,101])) (ab (ao #[112,97,114,97,108,108,101,108])) (ab (ao #[104,105,115,116,111,114,121])) (ab (ao #[100,101,101,112])) w8 λl1 w9=>cj [k] w8 w9/\oT [k] 160 #[Q (r.add 0),l1.v] w9 λi4 dq=>nx k8 λGz=>L Gz i4 g h i j dq)/\o0 w7 λd=>∃J:A,∃p0,n=(aN p0)/\J ((p0.add 7).block)/\j9 d (p0.add 7) λD=>(pV [k] 162 #[Q r,O U x] d λi5 s0 s1 s2 l3 l4 l5 l6 i6 y=>bX J d y/\lH 25 (cF 0 (ao #[]) (ao #[]) (ao #[]) Sl.nil Sl.nil Sl.nil Sl.nil 0) y λl7 Y=>cj [k] y Y/\bX J y Y/\po 25 D l7 Y λl8 f=>cj [k] Y f/\bX J Y f/\∃p1,cK l8 (D.n:Int) 9 p1/\∃p2,n=(aN p2)/\(sT p1 f 9 λyF Oa z2 Tx=>k≠yF/\sS f yF Oa z2 Tx [O U i5,ab s0,ab s1,ab s2,l3.v,l4.v,l5.v,l6.v,O U i6] λfT=>sT (p2.add 7) fT 1 λKE aT z3 bv=>k≠KE/\sS fT KE aT z3 bv [l8.v] λiE=>c l T b e iE)/\sT (p2.add 7) f 1 λTy Ob z4 bV=>k≠Ty/\sS f Ty Ob z4 bV [l8.v] λgL=>sT p1 gL 9 λo bY z5 cc=>k≠o/\sS gL o bY z5 cc [O U i5,ab s0,ab s1,ab s2,l3.v,l4.v,l5.v,l6.v,O U i6] λjH=>c l T b e jH)/\lH 25 (cF 0 (ao #[]) (ao #[]) (ao #[]) Sl.nil Sl.nil Sl.nil Sl.nil 0) d λl9 C=>cj [k] d C/\bX J d C/\pV [k] 162 #[Q r,O U x] C λi7 s3 s4 s5 v qJ qy tT i8 B=>bX J C B/\po 25 D l9 B λG m=>cj [k] B m/\bX J B m/\∃p3,cK G (D.n:Int) 9 p3/\∃p4,n=(aN p4)/\(sT p3 m 9 λp ce z6 co=>k≠p/\sS m p ce z6 co [O U i7,ab s3,ab s4,ab s5,v.v,qJ.v,qy.v,tT.v,O U i8] λoH=>sT (p4.add 7) oH 1 λq cC z7 dO=>k≠q/\sS oH q cC z7 dO [G.v] λsM=>c l T b e sM)/\sT (p4.add 7) m 1 λs el z8 eQ=>k≠s/\sS m s el z8 eQ [G.v] λqK=>sT p3 qK 9 λt fd z9 f5=>k≠t/\sS qK t fd z9 f5 [O U i7,ab s3,ab s4,ab s5,v.v,qJ.v,qy.v,tT.v,O U i8] λpI=>c l T b e pI) (gw a ((r.add 4).add 2) λi9=>sT ((r.add 4).add 2) a 1 λu f6 KG f7=>k≠u/\sS a u f6 KG f7 [O U (au U (i9+1))] λry=>lH 80 (ab (ao #[125])) ry λC2 uZ=>cj [k] ry uZ/\gn [k] 117 #[Q (r.add 0),C2.v] uZ λwe=>R (ai #[]) we)))/\lf [k] 122 #[Q (r.add 0)] w2 λV H=>N V (aG H k 221 [aj P,aj S,aj Z,aj b3]->cB 161 #[Q r,ae n,pB k] H λW P7=>ahP P7 k 221 λX am aC aS=>K W X am aC aS P7) (K aM P S Z b3 H)):F 121 #[Q r,ae n] w R:=
 fB (an:=.d 2 (.s (.j [0,1,4] [.b 4 [.bool,.bool,.bool,.bool]] (.s (.s (.j [0,1,4] [.s 23 .bool,.b 4 [.bool,.bool,.bool,.bool]] .o .o) .o) .o) .o) (.s (.s .o (.j [0,1,4] [.s 5 (.int .i64),.b 4 [.bool,.bool,.bool,.bool]] (.s .o (.s (.s .o (.j [0,1,4] [.b 4 [.bool,.bool,.bool,.bool]] .o .o)) .o)) .o)) .o))) (args:=[.ad r,.ptr n]) f8
def anx{c:Addr}{R:aH}(w:aw)(h:gw w ((c.add 2).add 0) λi=>R (aj (i==0)) w):F 122 #[Q c] w R:=
 iI h
def anz{c:Addr}(h:CU (λb=>cU 158 #[Q c,O U 4] b λd=>R (ai #[]) d) λJ=>j9 w (c.add 0) λl=>gw w (c.add 1) λi=>∃p0,cK l i 4 p0/\gw w (p0.add 0) λa=>N (a==5) (o0 w λe=>cU 158 #[Q c,O U 3] e λf=>J f) (o0 w λg=>J g)):F 123 #[Q c] w R:=
 fC (.j [0] [] .o .o) h
def au9{k:Addr}{ok:M}{err at_:Int}(h:∃i,((!ok)=aF->aD w ((k.add 3).add 0) [O U i])/\N ((!ok)&&(i==0)) (sT (k.add 3) w 2 λa b z c=>sS w a b z c [O U err,O U at_] λd=>R (ai #[]) d) (R (ai #[]) w)):F 124 #[Q k,aj ok,O U err,O U at_] w R:=
 iI h
def ava{k:Addr}{n:Int}{ym c v:D}{yG yH vQ o:Sl}{u at_:Int}(I:z w λa w0=>∃g:Nat->Int->M->Int->aw->Prop,∃X:Nat,g X 0 aM 0 w0/\∀p i h b e,g p i h b e->N (YR (b<(o.n:Int))) (gP o b e λK s0 s1 s2 l0 l1 l2 l3 i3=>z e λk3 w2=>lK (λP w3=>nx p λZ=>g Z P (h||(s0.toList==c.toList)) (au U (b+1)) w3) λj=>lf [a,k3] 163 #[O U K] w2 λx r=>N (!x) (j (au U (i+1)) r) (j i r)) (lf [a] 163 #[O U n] e λC f=>N C (o0 f λs=>OB s (k.add 0) λm0=>oT [a] 164 #[.map m0,ab v] s λm w7=>CU (λw8=>R (ai #[]) w8) λl=>o0 w7 λt=>∃J:A,J a/\lf [a] 165 #[Q k,O U m] t λE d=>bX J t d/\N E (j9 d (k.add 1) λl4=>j9 d (k.add 1) λl5=>∃q,cK l5 at_ 5 q/\gw d (q.add 2) λS=>lf [a] 63 #[l4.v,O U m,O U S] d λH B=>bX J d B/\gn [a] 124 #[Q k,aj H,O U 26,O U u] B λy=>bX J B y/\l y) (gn [a] 124 #[Q k,aj aM,O U 26,O U u] d λY=>bX J d Y/\l Y)) (N (n==2) (gn [a] 124 #[Q k,aj ((c.toList==((ao #[]).toList))&&(YR (i>1))),O U 25,O U u] f λV=>R (ai #[]) V) (N (YR (i>0)) (gn [a] 124 #[Q k,aj h,O U 25,O U u] f λT=>R (ai #[]) T) (gn [a] 124 #[Q k,aj (c.toList==((ao #[]).toList)),O U 25,O U u] f λW=>gn [a] 124 #[Q k,aj ((o.n:Int)==0),O U 26,O U u] W λL=>R (ai #[]) L))))):F 125 #[Q k,cF n ym c v yG yH vQ o u,O U at_] w R:=
 fC (.d 3 (.s (.s .o (.j [0,2,4,12,13] [.s 6 G,.s 7 .bool,.s 14 G] (.d 2 (.s (.s .o (.j [0,2,4,7,9,12,13,14] [.s 6 G] .o .o)) .o)) .o)) (.s .o (.s (.s .o (.j [4,9] [] .o .o)) .o)))) I
def avb{k:Addr}{rows:Sl}(h:cL 166 #[rows.v] w λl y=>nW 0 y λg s i b=>N (YR (i<(l.n:Int))) (wR l i b λj v m n x o t p q=>z b λa f=>CU (λA=>gn [a] 127 #[Q k,bT m n x o t p] A λB=>nx s λk3=>g k3 (au U (i+1)) B) λJ=>N (j==1) (o0 f λc=>OB c (k.add 2) λu=>∃r e d,((Instr.lookup 126 (.map u) (ab v) aF).run aq c)=(.ok (ai #[O U r,aj e]) d)/\cj [a] c d/\gn [a] 124 #[Q k,aj e,O U 23,O U q] d λC=>J C) (J f)) (R (ai #[]) b)):F 126 #[Q k,rows.v] w R:=
 fC (.s .o (.j [0,9,10] [.s 11 G] (.d 2 (.s (.s .o (.j [0,5,9,10,11] [] .o .o)) .o)) .o)) h
def avc{k:Addr}{x W:Int}{l:D}{X:Int}{m:Sl}{n:Int}(r:z w λa c=>CU (λP=>nW 0 P λp E i e=>N (YR (i<(m.n:Int))) (kO m i e λs t M u I v=>z e λk3 S=>gn [a,k3] 127 #[Q k,bT s t M u I v] S λT=>nx E λH=>p H (au U (i+1)) T) (R (ai #[]) e)) λb=>N (x==2) (o0 c λf=>OB f (k.add 2) λK=>∃y o g,((Instr.lookup 126 (.map K) (ab l) aF).run aq f)=(.ok (ai #[O U y,aj o]) g)/\cj [a] f g/\gn [a] 124 #[Q k,aj o,O U 23,O U n] g λV=>b V) (N (x==3) (o0 c λh=>∃J:A,OB h (k.add 0) λL=>J a/\oT [a] 164 #[.map L,ab l] h λC j=>bX J h j/\lf [a] 165 #[Q k,O U C] j λq d=>bX J j d/\gn [a] 124 #[Q k,aj q,O U 23,O U n] d λB=>bX J d B/\b B) (b c))):F 127 #[Q k,bT x W l X m n] w R:=
 fC (.s .o (.j [0,3] [] .o (.s .o (.j [0,3,43,44] [.s 45 G] .o .o)))) r
def avd{k:Addr}{l:Sl}(D:z w λa w0=>∃J:Nat->Sl->Int->Option Addr->aw->Prop,∃L:Nat,J L Sl.nil 0 (aN k) w0/\∀o,∀f:Sl,∀i q c,J o f i q c->N (YR (i<(l.n:Int))) (IJ l i c λZ=>∃p,q=(aN p)/\OB c (p.add 0) λW=>oT [a] 164 #[.map W,ab Z] c λe v=>N (YR (e<1)) (z v λk3 w3=>R (aj aM) w3) (z v λb w4=>WR (λX E g=>aG g a 124 [ae X]->aG g b 3 [O U E]->cB 47 #[f.v,.func (.func 167) #[] #[pB a,pB b]] g λA d=>Gc d a 124 λY=>Ga d b 3 λH=>N A (R (aj aM) d) (lH 31 (O U H) d λP h=>cj [a,b] d h/\po 31 f P h λS x=>cj [a,b] h x/\nx o λM=>J M S (au U (i+1)) Y x)) λm=>∃r,q=(aN r)/\o0 w4 λj=>j9 j (r.add 1) λT=>∃s,cK T e 5 s/\gw j (s.add 0) λI=>lf [a,b] 163 #[O U I] j λC n=>N C (∃t,q=(aN t)/\o0 n λB=>j9 B (t.add 1) λV=>∃u,cK V e 5 u/\gw B (u.add 2) λK=>∀y,az [b] B y->m q K y) (m q e n))) (R (aj aF) c)):F 128 #[Q k,l.v] w R:=
 fC (.d 2 (.s (.s .o (.j [2,9,10] [.s 5 .sl,.s 11 G,.b 2 [.ptr]] (.d 2 (.s (.d 3 (.j [2,5,8,9,10,11] [.b 2 [.ptr],.b 8 [G]] .o .o)) .o)) .o)) .o)) D
def anA{c:Sl}{f:Int}{g o h:D}{p r s t:Sl}{u:Int}(aS:zH w λa k w0=>W7 [a,k] 169 #[cF f g o h p r s t u] w0 λi0 i1 w1=>(aG w1 k 234 [ae Pw,Sl.nil.v,aj aM,O U 0]->a≠k->gn [a] 170 #[pB k,aj (((((f==1)&&(h.toList==((ao #[]).toList)))&&(YR ((c.n:Int)<=16)))&&(YR (i0<=64)))&&(YR (i1<=200)))] w1 λw2=>pj w2 k 234 λq0 l0 b0 i2=>rN [a] 172 #[pB k,ab g] w2 λs0 C=>pj C k 234 λq1 l1 b1 i3=>Oj 80 (ab (ao #[99,104,97,114,116])) (ab s0) (ab (ao #[123])) C λl2 w4=>cj [a,k] C w4/\gn [a] 171 #[pB k,O U 0,l2.v] w4 λw5=>pj w5 k 234 λq2 l3 b2 i4=>∃n:Nat->Int->Option Addr->Sl->M->Int->aw->Prop,∃k2:Nat,n k2 0 q2 l3 b2 i4 w5/\∀k3 l q3,∀X:Sl,∀I P m,n k3 l q3 X I P m->N (YR (l<(c.n:Int))) (afu c l m λs1 Q i8=>z m λb w7=>aG w7 k 234 [ae q3,X.v,aj I,O U P]->gn [a,b] 170 #[pB k,aj (Q !=(-9223372036854775808))] w7 λw8=>pj w8 k 234 λq4 l5 b4 i9=>o0 w8 λH=>aG H k 234 [ae q4,l5.v,aj b4,O U i9]->∃J:A,J b/\rN [a,b] 172 #[pB k,ab s1] H λs2 j=>pj j k 234 λq5 l6 b5 aT=>bX J H j/\rN [a,b] 173 #[O U Q] j λs3 B=>pj B k 234 λq6 l7 b6 bv=>bX J j B/\((s3.size:Int)+1)<=9223372036854775807/\∃Z:Sl,∃e,((av 80 4 #[.mk 0 (ab (ao #[118,97,114])),.mk 1 (ab s2),.mk 2 (ab (ao #[61])),.mk 3 (ab (s3++(ao #[59])))]).run aq B)=(.ok Z.v e)/\cj [a,k,b] B e/\bX J B e/\gn [a,b] 171 #[pB k,O U 1,Z.v] e λY=>pj Y k 234 λq7 l9 b7 v=>bX J e Y/\nx k3 λk5=>n k5 (au U (l+1)) q7 l9 b7 v Y) (gn [a] 174 #[pB k,cF f g o h p r s t u,O U 1] m λV=>pj V k 234 λq8 eQ b8 bV=>lH 80 (ab (ao #[125])) V λqJ T=>cj [a,k] V T/\gn [a] 171 #[pB k,O U 0,qJ.v] T λE=>pj E k 234 λq9 qy b9 bY=>N b9 (R (ai #[ab (ao #[]),O U 22]) E) (lf [a] 175 #[pB k] E λTv L=>pj L k 234 λfd tT am cc=>N Tv (R (ai #[ab (ao #[]),O U 2]) L) (rN [a] 176 #[pB k] L λs4 W=>pj W k 234 λf5 B6 Tw ce=>qh [a] 74 #[ab s4] W λC2 co s5 s6 s7 Tu P5 NH KB cC x dO y=>pj y k 234 λq K d i=>N (x !=0) (zH y λk6 k7 S=>aG S k 234 [ae q,K.v,aj d,O U i]->R (ai #[ab (ao #[]),O U 22]) S) (zH y λk8 k9 mB=>aG mB k 234 [ae q,K.v,aj d,O U i]->rN [a,k8,k9] 176 #[pB k] mB λs8 oH=>pj oH k 234 λf6 P6 aC el=>R (ai #[ab s8,O U 0]) oH)))))):F 129 #[dc c f g o h p r s t u] w R:=
 fC (.d 5 (.s (.s .o (.j [1,4,12,54,55] [.s 56 G,.b 12 [.ptr,.sl,.bool,G]] .o .o)) .o)) aS
def ave{l:Sl}{name:D}(h:z w λk a=>aG a k 9 [ab name]->cI 177 #[l.v,.func (.func 178) #[] #[pB k]] a λi b=>xKS b k 9 λs=>R (O U i) b):F 130 #[l.v,ab name] w R:=
 iI h
def avf(c n:Sl)(R:aH)(m:aw)(u:z m λk d=>WR (λr E e=>N r (R (O U (-1)) e) (yu n 0 e λv=>(1<=n.n/\n.n<=n.c)/\∃J:Nat->Int->Int->Sl->aw->Prop,∃A:Nat,J A v 0 E e/\∀h a i,∀j:Sl,∀w,J h a i j w->N (YR (i<((n.cut 1 n.n n.c 1).n:Int))) (yu (n.cut 1 n.n n.c 1) i w λx=>Dk a j w λq B b l I=>lf [k] 110 #[l.v,O U b,O U x] I λs f=>N (!s) (∃p,cK l b 5 p/\gw f (p.add 2) λy=>nx B λC=>q C y l f) (nx h λD=>J D b (au U (i+1)) l f)) (R (O U a) w))) λg=>N ((n.n:Int)==0) (g aF c d) (aG d k 33 [c.v]->cB 47 #[n.v,.func (.func 179) #[] #[pB k]] d λt o=>Ks o k 33 λH=>g t H o)):F 131 #[c.v,n.v] m R:=
 fC (.s .o (.s (.s (.j [1,2] [.s 15 .bool,.b 2 [.sl]] .o .o) .o) (.s .o (.s (.s .o (.j [2,20,21] [.s 5 G,.s 22 G,.b 2 [.sl]] (.d 2 (.s (.s .o (.j [2,7,20,21,22] [.s 5 G,.b 2 [.sl]] .o .o)) .o)) .o)) .o)))) u
def anB{c:Sl}{g:Int}{b h j:D}{l m n o:Sl}{p:Int}(L:z w λa V=>lf [a] 180 #[dc c g b h j l m n o p] V λK v=>N (!K) (R (ai #[ab (ao #[]),O U 22]) v) ((6+(b.size:Int))<=9223372036854775807/\((((ao #[99,104,97,114,116,32])++b).size:Int)+2)<=9223372036854775807/\z v λk x=>aG x k 247 [Sl.nil.v]->gn [a] 181 #[pB k,O U 0,ab (((ao #[99,104,97,114,116,32])++b)++(ao #[32,123]))] x λy=>Ks y k 247 λQ=>Dk 0 Q y λI k3 i S B=>N (YR (i<(c.n:Int))) (o0 B λd=>aG d k 247 [S.v]->∃J:A,J a/\∃p0,cK c i 3 p0/\J ((p0.add 0).block)/\Eu d (p0.add 0) λs=>(4+(s.size:Int))<=9223372036854775807/\((((ao #[118,97,114,32])++s).size:Int)+3)<=9223372036854775807/\∃u,cK c i 3 u/\gw d (u.add 1) λM=>rN [a] 182 #[O U M] d λq e=>Ks e k 247 λW=>bX J d e/\(((((ao #[118,97,114,32])++s)++(ao #[32,61,32])).size:Int)+(q.size:Int))<=9223372036854775807/\((((((ao #[118,97,114,32])++s)++(ao #[32,61,32]))++q).size:Int)+1)<=9223372036854775807/\gn [a] 181 #[pB k,O U 1,ab (((((ao #[118,97,114,32])++s)++(ao #[32,61,32]))++q)++(ao #[59]))] e λr=>Ks r k 247 λT=>bX J e r/\nx k3 λP=>I P (au U (i+1)) T r) (gn [a] 183 #[pB k,cF g b h j l m n o p,O U 1] B λE=>Ks E k 247 λX=>gn [a] 181 #[pB k,O U 0,ab (ao #[125])] E λf=>Ks f k 247 λt=>N (YR ((t.n:Int)>16384)) (R (ai #[ab (ao #[]),O U 2]) f) (∃H:C,vW f t H/\R (ai #[ab (ao H.toArray),O U 0]) f)))):F 132 #[dc c g b h j l m n o p] w R:=
 fC (.d 5 (.s (.s .o (.j [1,5,12] [.s 6 G,.b 12 [.sl]] .o .o)) .o)) L
def anC{k:Addr}{n:Int}{ym u yp:D}{yG yH x o:Sl}{g at_:Int}(am:z w λa w0=>∃p:Nat->Int->M->Int->aw->Prop,∃k1:Nat,p k1 0 aM 0 w0/\∀P i c d h,p P i c d h->N (YR (d<(o.n:Int))) (∃p0,cK o d 9 p0/\gw h (p0.add 0) λi2=>lf [a] 109 #[O U i2] h λb1 Z=>lK (λi3 w3=>∃V,(c=aM->cK o d 9 V)/\∃Y,(c=aM->aD w3 (V.add 1) [ab Y])/\o0 w3 λw4=>nx P λk3=>p k3 i3 (c||(Y.toList==u.toList)) (au U (d+1)) w4) λA=>N (!b1) (A (au U (i+1)) Z) (A i Z)) (lf [a] 109 #[O U n] h λb2 l=>CU (λw6=>gn [a] 184 #[Q k,yG.v] w6 λw7=>gn [a] 184 #[Q k,yH.v] w7 λw8=>nW 0 w8 λJ3 k5 v y=>N (YR (v<(x.n:Int))) (CU (λdq=>nx k5 λk6=>J3 k6 (au U (v+1)) dq) λB=>iY x v y λi5 s1 K b3 i7 i8 s2 i9 l0 r l1 l2 e=>z y λf H=>CU (λey=>gn [a,f] 185 #[Q k,bT i7 i8 s2 i9 l0 r] ey λeY=>gn [a,f] 184 #[Q k,l1.v] eY λfV=>lf [a,f] 186 #[Q k,l2.v] fV λb4 T=>N (!b4) (gn [a,f] 84 #[Q k,O U 27,O U e] T λiE=>B iE) (B T)) λC=>N ((i5==3)&&((K==0)||(YR (K>1099511627776)))) (gn [a,f] 84 #[Q k,O U 28,O U e] H λgL=>C gL) (C H)) (R (ai #[]) y)) λJ=>N b2 (o0 l λL=>j9 L (k.add 10) λl3=>oT [a] 39 #[l3.v,ab yp] L λb kf=>o0 kf λj=>j9 j (k.add 10) λl4=>j9 j (k.add 10) λl5=>∃W,cK l5 at_ 5 W/\gw j (W.add 2) λs=>lf [a] 54 #[l4.v,O U b,O U s] j λb5 m=>lK (λb6 S=>N b6 (gn [a] 84 #[Q k,O U 26,O U g] S λsM=>J sM) (J S)) λE=>N ((YR (b<0))||(!b5)) (E aF m) (j9 m (k.add 10) λl6=>∃X,cK l6 b 5 X/\gw m (X.add 0) λt=>lf [a] 109 #[O U t] m λb7 qK=>E b7 qK)) (lK (λb8 I=>N b8 (gn [a] 84 #[Q k,O U 25,O U g] I λry=>J ry) (N (((n==1)&&(i==0))&&(YR ((o.n:Int)>0))) (gn [a] 84 #[Q k,O U 26,O U g] I λuZ=>J uZ) (J I))) λq=>N ((n==2)&&((!(u.toList==((ao #[]).toList)))||(YR (i<2)))) (q ((n==2)&&((!(u.toList==((ao #[]).toList)))||(YR (i<2)))) l) (N (((n==1)&&(YR (i>0)))&&(!c)) (q (((n==1)&&(YR (i>0)))&&(!c)) l) (q (((n==1)&&(i==0))&&(!(u.toList==((ao #[]).toList)))) l))))):F 133 #[Q k,cF n ym u yp yG yH x o g,O U at_] w R:=
 fC (.d 3 (.s (.s .o (.j [0,2,4] [.s 6 G,.s 7 .bool,.s 8 G] (.s .o (.s (.s .o (.j [0,2,4,7,8] [.s 6 G] .o .o)) .o)) .o)) (.s .o (.j [0,4] [] (.s .o (.s (.d 2 (.s (.j [0,4] [.s 88 .bool] .o .o) .o)) (.j [0,4,6] [.s 93 .bool] .o .o))) (.d 3 (.j [0,4] [.s 13 G] (.s .o (.j [0,4,13] [] (.s .o (.j [0,4,13,14] [] .o .o)) .o)) .o)))))) am
def anE{b:Sl}{n:Int}(h:∃J:Nat->Sl->Int->aw->Prop,∃e:Nat,J e Sl.nil 0 w/\∀k,∀l:Sl,∀i a,J k l i a->N (YR (i<(b.n:Int))) (lK (λg o=>nx k λf=>J f g (au U (i+1)) o) λc=>∃p0,cK b i 5 p0/\gw a (p0.add 2) λd=>N ((d==n)&&(YR (n>=0))) (lH 31 (O U i) a λj p=>po 31 l j p λm q=>c m q) (c l a)) (R l.v a)):F 134 #[b.v,O U n] w R:=
 fC (.d 2 (.s (.s .o (.j [0,1] [.s 5 .sl,.s 6 G] (.s .o (.j [0,1,6] [.s 5 .sl] .o .o)) .o)) .o)) h
def avg{r:Sl}{n:Int}(h:z w λk d=>wP [k] 104 #[r.v,O U n] d λl a=>(aG a k 150 [r.v]->cL 50 #[l.v,.func (.func 187) #[] #[pB k]] a λc b=>Ks b k 150 λe=>R c.v b)):F 135 #[r.v,O U n] w R:=
 iI h
def avh{r:Sl}{n:Int}(h:R (aj ((YR (n>=0))&&(YR (n<(r.n:Int))))) w):F 136 #[r.v,O U n] w R:=
 iI h
def anF(h:∃l:Sl,∃a,((av 80 16 #[.mk 0 (ab (ao #[97,102,116,101,114])),.mk 1 (ab (ao #[97,108,119,97,121,115])),.mk 2 (ab (ao #[99,104,97,114,116])),.mk 3 (ab (ao #[100,101,101,112])),.mk 4 (ab (ao #[101,109,105,116])),.mk 5 (ab (ao #[101,110,116,101,114])),.mk 6 (ab (ao #[104,105,115,116,111,114,121])),.mk 7 (ab (ao #[105,110])),.mk 8 (ab (ao #[105,110,105,116,105,97,108])),.mk 9 (ab (ao #[108,101,97,118,101])),.mk 10 (ab (ao #[111,110])),.mk 11 (ab (ao #[112,97,114,97,108,108,101,108])),.mk 12 (ab (ao #[114,97,105,115,101])),.mk 13 (ab (ao #[115,101,116])),.mk 14 (ab (ao #[115,116,97,116,101])),.mk 15 (ab (ao #[118,97,114]))]).run aq w)=(.ok l.v a)/\R l.v a):F 152 #[] w R:=
 iI h
def anG{c:Addr}(j:lp0 w λJ k B=>cB 154 #[Q c] B λf a=>N (!f) (Eu a (c.add 0) λx=>gw a (c.add 1) λi=>∃c0:UInt8,(0<=i/\(x[Int.toNat i]?)=(aN c0))/\o0 a λC=>W2 230 (.int .u8 9) (.int .u8 10) (.int .u8 13) (.int .u8 32) C λu D=>cB 203 #[.int .u8 (UInt8.toNat c0:Int),u.v] D λg b=>N g (gw b (c.add 1) λl=>sT (c.add 1) b 1 λk3 n I o=>sS b k3 n I o [O U (au U (l+1))] λE=>nx k λp=>J p E) (cS 205 #[Q c] b λy G=>cB 204 #[ab y,ab (ao #[47,47])] G λh e=>N h (cS 205 #[Q c] e λz H=>NdC 206 #[ab z,ab (ao #[10])] H λA M L d=>gw d (c.add 1) λm=>sT (c.add 1) d 1 λr s K t=>sS d r s K t [O U (au U (m+(A.size:Int)))] λq=>nx k λv=>J v q) (R (ai #[]) e))) (R (ai #[]) a)):F 153 #[Q c] w R:=
 fC (.j [0] [] .o .o) j
def anH{c:Addr}(h:gw w (c.add 1) λi=>Eu w (c.add 0) λs=>o0 w λa=>R (aj (YR (i>=(s.size:Int)))) a):F 154 #[Q c] w R:=
 iI h
def anI(c:Addr)(R:aH)(w:aw)(h:Eu w ((c.add 0).add 0) λs=>gw w ((c.add 0).add 1) λi=>∃c0:UInt8,(0<=i/\(s[Int.toNat i]?)=(aN c0))/\o0 w λk=>cB 207 #[.int .u8 (UInt8.toNat c0:Int)] k λd a=>N d (cI 208 #[Q c] a λf l=>R (O U f) l) (cB 209 #[.int .u8 (UInt8.toNat c0:Int)] a λe b=>N e (cI 210 #[Q c] b λg m=>R (O U g) m) (cI 211 #[Q c] b λj n=>R (O U j) n))):F 155 #[Q c] w R:=
 iI h
def anJ{c:Addr}{t:Int}{h:D}{i x n:Int}(l:z w λk j=>gw j ((c.add 0).add 1) λm=>∀a,az [k] j a->∃J:A,J ((c.add 3).block)/\j9 a (c.add 3) λs=>lH 167 (nT t h i m) a λu b=>cj [k] a b/\bX J a b/\po 167 s u b λv d=>cj [k] b d/\bX J b d/\sT (c.add 3) d 1 λf p B k3=>k≠f/\sS d f p B k3 [v.v] λe=>gw e ((c.add 0).add 1) λo=>sT ((c.add 0).add 1) e 1 λg q C r=>k≠g/\sS e g q C r [O U (au U (o+n))] λy=>R (ai #[]) y):F 156 #[Q c,nT t h i x,O U n] w R:=
 iI l
def anK{r:Addr}{J:Option Addr}{err:Int}(h:CU (λa=>∃p0,J=(aN p0)/\gw a p0 λi=>∃p,J=(aN p)/\sT p a 1 λk e z f=>sS a k e z f [O U (au U (i-1))] λg=>R (ai #[]) g) λb=>∃c,J=(aN c)/\gw w c λd=>N (d==0) (cU 158 #[Q (r.add 0),O U err] w λj=>b j) (b w)):F 157 #[Q r,ae J,O U err] w R:=
 fB (an:=.j [1] [] .o .o) (args:=[.ad r,.ptr J,.int .i64 err]) h
def anL{c:Addr}{err:Int}(h:cB 122 #[Q c] w λd b=>N d (o0 b λa=>j9 a (c.add 0) λl=>gw a (c.add 1) λi=>∃p0,cK l i 4 p0/\gw a (p0.add 3) λe=>sT (c.add 2) a 2 λk f z g=>sS a k f z g [O U err,O U e] λj=>R (ai #[]) j) (R (ai #[]) b)):F 158 #[Q c,O U err] w R:=
 iI h
def anM{c:Addr}{k:Int}(l:z w λa b=>∃J:A,J ((c.add 0).block)/\j9 b (c.add 0) λr=>J ((c.add 1).block)/\gw b (c.add 1) λm=>∃p0,cK r m 4 p0/\J p0.block/\IH b p0 λi s n o=>z b λe t=>lf [a,e] 122 #[Q c] t λj d=>N ((!j)||(i !=k)) (gn [a,e] 123 #[Q c] d λu=>∀g,az [a] u g->R (nT 0 (ao #[]) 0 0) g) (gw d (c.add 1) λp=>sT (c.add 1) d 1 λf k3 x q=>a≠f/\e≠f/\sS d f k3 x q [O U (au U (p+1))] λv=>∀h,az [a] v h->R (nT i s n o) h)):F 159 #[Q c,O U k] w R:=
 iI l
def anN{c:Addr}{texts:Sl}(h:o0 w λa=>∃J:A,J ((c.add 0).block)/\j9 a (c.add 0) λl=>J ((c.add 1).block)/\gw a (c.add 1) λe=>∃p0,cK l e 4 p0/\J p0.block/\IH a p0 λi s m n=>z a λk g=>lf [k] 122 #[Q c] g λd b=>N ((!d)||((i !=2)&&(i !=4))) (R (O U 0) b) (oT [k] 212 #[texts.v,ab s] b λf j=>R (O U (au U (f+1))) j)):F 160 #[Q c,texts.v] w R:=
 iI h
def anO{r:Addr}{n:Option Addr}{h:Option Addr}(P:∃o:Sl,∃B,((av 80 3 #[.mk 0 (ab (ao #[111,110])),.mk 1 (ab (ao #[97,108,119,97,121,115])),.mk 2 (ab (ao #[97,102,116,101,114]))]).run aq w)=(.ok o.v B)/\cI 160 #[Q (r.add 0),o.v] B λj C=>N (YR (j>0)) (o0 C λc=>∃J:A,∃p0,n=(aN p0)/\J ((p0.add 6).block)/\j9 c (p0.add 6) λl1=>spl 213 #[Q r,O U j] c λS s0 W E X Z s1 i5 l2 i6 l3 l4 i7 e=>bX J c e/\lH 24 (gZ S s0 W E X Z s1 i5 l2 i6 l3 l4 i7) e λl5 f=>bX J e f/\po 24 l1 l5 f λl6 g=>bX J f g/\∃p,n=(aN p)/\sT (p.add 6) g 1 λk0 k1 z0 k2=>sS g k0 k1 z0 k2 [l6.v] λw6=>R (aj aF) w6) (Oj 80 (ab (ao #[105,110,105,116,105,97,108])) (ab (ao #[101,110,116,101,114])) (ab (ao #[108,101,97,118,101])) C λl7 w7=>cI 160 #[Q (r.add 0),l7.v] w7 λi a=>N (i==0) (R (aj aM) a) (∃s,h=(aN s)/\∃t,QN s i 4 1 t/\Oo a t λH=>N H (cU 123 #[Q (r.add 0)] a λw9=>R (aj aM) w9) (∃u,h=(aN u)/\∃v,QN u i 4 1 v/\sT v a 1 λk3 k4 z1 k5=>sS a k3 k4 z1 k5 [aj aF] λq=>gw q ((r.add 0).add 1) λi9=>sT ((r.add 0).add 1) q 1 λk6 k7 z2 k8=>sS q k6 k7 z2 k8 [O U (au U (i9+1))] λd=>CU (λI=>R (aj aF) I) λb=>N (i==1) (cS 214 #[Q (r.add 0)] d λs2 Y=>∃x,n=(aN x)/\sT (x.add 2) Y 1 λk9 qU z3 qz=>sS Y k9 qU z3 qz [ab s2] λV=>lH 80 (ab (ao #[59])) V λl8 M=>cU 117 #[Q (r.add 0),l8.v] M λiE=>b iE) (N (i==2) (cL 215 #[Q r] d λl9 L=>∃y,n=(aN y)/\sT (y.add 4) L 1 λG yF z4 D=>sS L G yF z4 D [l9.v] λjH=>b jH) (cL 215 #[Q r] d λl m=>∃z,n=(aN z)/\sT (z.add 5) m 1 λT K z5 k=>sS m T K z5 k [l.v] λj8=>b j8)))))):F 161 #[Q r,ae n,ae h] w R:=
 fB (an:=.d 7 (.j [] [] .o .o)) (args:=[.ad r,.ptr n,.ptr h]) P
def anP{r:Addr}{kind:Int}(J:z w λk T=>pV [k] 118 #[Q r,O U kind] T λi v x P m n o p g D=>N (YR (kind>=3)) (z D λb E=>lH 80 (ab (ao #[45,62])) E λK G=>cj [k,b] E G/\gn [k,b] 117 #[Q (r.add 0),K.v] G λV=>rN [k,b] 214 #[Q (r.add 0)] V λS W=>∀c,az [b] W c->lH 80 (ab (ao #[59])) c λL H=>cj [k,b] c H/\gn [k,b] 117 #[Q (r.add 0),L.v] H λX=>∀I,az [k] X I->R (cF i v x S m n o p g) I) (z D λa q=>lH 80 (ab (ao #[123])) q λM d=>cj [k,a] q d/\gn [k,a] 117 #[Q (r.add 0),M.v] d λy=>(aG y a 27 [O U i,ab v,ab x,ab P,m.v,n.v,o.v,p.v,O U g]->k≠a->gn [k] 121 #[Q r,pB a] y λe=>abB e a 27 λh A B C s t u l j=>∀f,az [k] e f->aG f a 27 [O U h,ab A,ab B,ab C,s.v,t.v,u.v,l.v,O U j]->R (cF h A B C s t u l j) f))):F 162 #[Q r,O U kind] w R:=
 iI J
def avi{kind:Int}(h:R (aj ((kind==3)||(kind==4))) w):F 163 #[O U kind] w R:=
 iI h
def avj{n:Option Nat}{name:D}(h:∃i b a,((Instr.lookup 126 (.map n) (ab name) aF).run aq w)=(.ok (ai #[O U i,aj b]) a)/\N b (R (O U i) a) (R (O U (-1)) a)):F 164 #[.map n,ab name] w R:=
 iI h
def avk{k:Addr}{at_:Int}(h:lK (λb c=>R (aj b) c) λJ=>N (YR (at_>=0)) (j9 w (k.add 1) λl=>∃p0,cK l at_ 5 p0/\gw w (p0.add 0) λi=>cB 163 #[O U i] w λa d=>J (!a) d) (J aM w)):F 165 #[Q k,O U at_] w R:=
 fC (.s .o (.s (.j [] [.s 4 .bool] .o .o) .o)) h
def anQ{Q:Sl}(h:Dk 0 0 w λJ k i a c=>N (YR (a<(Q.n:Int))) (lK (λj s=>nx k λm=>J m j (au U (a+1)) s) λf=>Ra Q a c λl=>N (YR ((au U (i+(l.n:Int)))<0)) (False) (f (au U (i+(l.n:Int))) c)) (cL 216 #[Sl.nil.v,O U i] c λp t=>Dk p 0 t λg n e b d=>N (YR (b<(Q.n:Int))) (Ra Q b d λq=>po 23 e q d λr u=>nx n λo=>g o r (au U (b+1)) u) (R e.v d))):F 166 #[Q.v] w R:=
 fC (.d 2 (.s (.s .o (.j [0,9,10] [.s 3 G,.s 11 G] (.d 2 (.j [0,9,10,11] [.s 3 G] .o .o)) .o)) (.s .o (.s (.s .o (.j [25,26] [.s 6 .sl,.s 27 G] .o .o)) .o)))) h
def avl{o:Int}{i t:Addr}(h:Ow w i λq=>gw w t λa=>cB 168 #[ae q,O U a,O U o] w λb c=>R (aj (!b)) c):F 167 #[O U o,Q i,Q t] w R:=
 iI h
def avm{k:Addr}{a b:Int}(h:j9 w (k.add 1) λg=>∃l:Sl,∃f,((av 31 2 #[.mk 0 (O U a),.mk 1 (O U b)]).run aq w)=(.ok l.v f)/\cI 131 #[g.v,l.v] f λi c=>∃e:Sl,(((i !=a)&&(i !=b))=aF->aD c (k.add 1) [e.v])/\∃p0,(((i !=a)&&(i !=b))=aF->cK e i 5 p0)/\∃d,(((i !=a)&&(i !=b))=aF->aD c (p0.add 0) [O U d])/\R (aj (((i !=a)&&(i !=b))&&(d==2))) c):F 168 #[Q k,O U a,O U b] w R:=
 iI h
def anR{s:Int}{L y M:D}{I K v o:Sl}{A:Int}(h:z w λj B=>o0 B λC=>∃J:Nat->Int->Int->Int->aw->Prop,∃l:Nat,J l 1 (v.n:Int) 0 C/\∀k b c i a,J k b c i a->N (YR (i<(o.n:Int))) (gP o i a λd t u x n p q r e=>z a λk3 E=>W7 [j,k3] 169 #[cF d t u x n p q r e] E λf g H=>nx k λm=>J m (au U (b+f)) (au U (c+g)) (au U (i+1)) H) (R (ai #[O U b,O U c]) a)):F 169 #[cF s L y M I K v o A] w R:=
 fC (.d 2 (.s (.s .o (.j [1,12,13] [.s 2 G,.s 3 G,.s 14 G] .o .o)) .o)) h
def anS{p:Addr}(ok:M){R:aH}(w:aw)(h:Oo w (p.add 2) λb=>sT (p.add 2) w 1 λk a z c=>sS w k a z c [aj (b||(!ok))] λd=>R (ai #[]) d):F 170 #[Q p,aj ok] w R:=
 iI h
def anT{p:Addr}{deep:Int}{words:Sl}(h:cB 175 #[Q p] w λc b=>∃d,((!c)=aF->aD b (p.add 2) [aj d])/\N ((!c)&&(!d)) (o0 b λe=>cS 218 #[ab (ao #[32,32]),O U deep] e λs f=>cS 219 #[words.v] f λa g=>((s.size:Int)+(a.size:Int))<=9223372036854775807/\(((s++a).size:Int)+1)<=9223372036854775807/\afv 217 #[Q (p.add 0),ab ((s++a)++(ao #[10]))] g λj v i=>R (ai #[]) i) (R (ai #[]) b)):F 171 #[Q p,O U deep,words.v] w R:=
 iI h
def anU{p:Addr}{s:D}(h:cB 220 #[ab s] w λb a=>cU 170 #[Q p,aj b] a λc=>R (ab s) c):F 172 #[Q p,ab s] w R:=
 iI h
def v1w{n:Int}(h:cS 221 #[O U n] w λs a=>R (ab s) a):F 173 #[O U n] w R:=
 iI h
def anV{p:Addr}{n_:Int}{ym u yp:D}{y H v o:Sl}{u9 deep:Int}(n:z w λk e=>CU (λw1=>rN [k] 223 #[Q p,y.v] w1 λs0 w2=>gn [k] 222 #[Q p,O U deep,ab (ao #[101,110,116,101,114]),ab s0] w2 λw3=>rN [k] 223 #[Q p,H.v] w3 λs1 w4=>gn [k] 222 #[Q p,O U deep,ab (ao #[108,101,97,118,101]),ab s1] w4 λw5=>nW 0 w5 λh K i c=>N (YR (i<(v.n:Int))) (iY v i c λr s2 t l x A s3 B W C X Z E=>z c λk3 w7=>rN [k,k3] 224 #[Q p,gZ r s2 t l x A s3 B W C X Z E] w7 λs4 f=>lH 80 (ab s4) f λl3 g=>cj [k,k3] f g/\gn [k,k3] 171 #[Q p,O U deep,l3.v] g λq=>nx K λL=>h L (au U (i+1)) q) (nW 0 c λj M b d=>N (YR (b<(o.n:Int))) (gP o b d λI s5 s6 s7 l4 l5 l6 l7 a=>z d λP m=>gn [k,P] 225 #[Q p,cF I s5 s6 s7 l4 l5 l6 l7 a,O U deep] m λY=>nx M λS=>j S (au U (b+1)) Y) (R (ai #[]) d))) λJ=>N (!(u.toList==((ao #[]).toList))) (rN [k] 172 #[Q p,ab u] e λs V=>((s.size:Int)+1)<=9223372036854775807/\gn [k] 222 #[Q p,O U deep,ab (ao #[105,110,105,116,105,97,108]),ab (s++(ao #[59]))] V λT=>J T) (J e)):F 174 #[Q p,cF n_ ym u yp y H v o u9,O U deep] w R:=
 fC (.s .o (.j [0,2,4] [] .o (.d 2 (.s (.s .o (.j [0,2,4,36,37] [.s 38 G] .o .o)) (.s .o (.j [0,2,4,7,51,52] [.s 53 G] .o .o)))))) n
def anW{p:Addr}(h:cI 226 #[Q (p.add 0)] w λi a=>R (aj (YR (i>16384))) a):F 175 #[Q p] w R:=
 iI h
def afx{b:Addr}(h:o0 w λa=>∃J:A,j9 a (b.add 1) λl=>J ((b.add 1).block)/\j9 a (b.add 1) λe=>∃q c,((Builtin.unsafeSliceData_ #[230] 282 #[l.v]).run aq a)=(.ok (ae q) c)/\bX J a c/\∃s d,((Builtin.unsafeString_ #[282,3] 9 #[ae q,O U (e.n:Int)]).run aq c)=(.ok (ab s) d)/\bX J c d/\R (ab s) d):F 176 #[Q b] w R:=
 iI h
def anX(s:Sl)(f:OV)(R:aH)(a:aw)(h:nW 0 a λJ n i w=>N (YR (i<(s.n:Int))) (acP s i w λg o j l m=>∃k:Nat,∃z d,f.v=(.func (.func k) z.toArray d.toArray)/\(∀x:Array ay,∀b,((callFunc k x).run aq b)=(.ok (.enter k x) b))/\cB k ((za (za z [Ez g o j l m]) d).toArray) w λe c=>N e (R (O U i) c) (nx n λk3=>J k3 (au U (i+1)) c)) (R (O U (-1)) w)):F 177 #[s.v,f.v] a R:=
 fB (an:=.s .o (.s (.s .o (.j [0,1,7] [.s 8 (.int .i64)] .o .o)) .o)) (args:=[.sl s,.raw f]) h
def avn{f:Int}{s:D}{a b c:Int}{i:Addr}(h:z w λk d=>Eu d i λe=>R (aj (s.toList==e.toList)) d):F 178 #[Ez f s a b c,Q i] w R:=
 iI h
def avo{n:Int}{i:Addr}(h:j9 w i λl=>cB 136 #[l.v,O U n] w λb a=>R (aj (!b)) a):F 179 #[O U n,Q i] w R:=
 iI h
def anZ{c:Sl}{a:Int}{f g h:D}{j l m n:Sl}{o:Int}(v:z w λq C=>nW 0 C λJ A i d=>N (YR (i<(c.n:Int))) (∃p0,cK c i 3 p0/\Eu d (p0.add 0) λB=>lf [q] 227 #[ab B] d λb e=>∃r,((!b)=aM->cK c i 3 r)/\∃p,((!b)=aM->aD e (r.add 1) [O U p])/\N ((!b)||(p==(-9223372036854775808))) (R (aj aM) e) (nx A λk3=>J k3 (au U (i+1)) e)) (z d λk s=>aG s k 285 [O U 0,O U 0,O U 0]->lf [q] 228 #[pB k,cF a f g h j l m n o,O U 0] s λu t=>amP t k 285 λE x y=>R (aj ((((u&&(a==1))&&(YR ((c.n:Int)<=16)))&&(YR (x<=200)))&&(YR (y<=400)))) t)):F 180 #[dc c a f g h j l m n o] w R:=
 fC (.s .o (.s (.s .o (.j [1] [.s 3 G] .o .o)) .o)) v
def an0{p:Addr}{deep:Int}{s:D}(h:j9 w (p.add 0) λq=>N (YR ((q.n:Int)>16384)) (R (ai #[]) w) (nW 0 w λJ k i a=>N (YR (i<deep)) (j9 a (p.add 0) λr=>N1 230 (.int .u8 32) (.int .u8 32) a λt E=>po 230 r t E λu b=>sT (p.add 0) b 1 λf k3 L g=>sS b f k3 L g [u.v] λH=>nx k λj=>J j (au U (i+1)) H) (j9 a (p.add 0) λv=>LG (Builtin.append_ #[230,9] 230 #[v.v,ab s]) a λx c=>sT (p.add 0) c 1 λl m M n=>sS c l m M n [x.v] λd=>j9 d (p.add 0) λy=>lH 230 (.int .u8 10) d λz I=>po 230 y z I λA e=>sT (p.add 0) e 1 λo B P C=>sS e o B P C [A.v] λK=>R (ai #[]) K))):F 181 #[Q p,O U deep,ab s] w R:=
 fC (.s .o (.s (.s .o (.j [0,1,2] [.s 6 G] .o .o)) .o)) h
def an1{n:Int}(h:N (n==0) (R (ab (ao #[48])) w) (N (YR (n<0)) (amQ 230 #[O U n] w λi c=>cS 229 #[.int .u64 i] c λs d=>(1+(s.size:Int))<=9223372036854775807/\R (ab ((ao #[45])++s)) d) (amQ 230 #[O U n] w λa e=>cS 229 #[.int .u64 a] e λb f=>R (ab b) f))):F 182 #[O U n] w R:=
 iI h
def an2{p:Addr}{x:Int}{x1 a x3:D}{g h c j:Sl}{x8 deep:Int}(E:z w λk q=>CU (λr=>CU (λt=>CU (λw3=>nW 0 w3 λu V i b=>∃n:Sl,((YR (i<(c.n:Int)))=aF->aD b (p.add 0) [n.v])/\N ((YR (i<(c.n:Int)))&&(YR ((n.n:Int)<=16384))) (iY c i b λH s0 I y K L s1 M Z P l2 l3 S=>rN [k] 232 #[gZ H s0 I y K L s1 M Z P l2 l3 S] b λs2 w5=>gn [k] 181 #[Q p,O U deep,ab s2] w5 λw6=>nx V λk3=>u k3 (au U (i+1)) w6) (nW 0 b λv W e f=>N (YR (e<(j.n:Int))) (gP j e f λT s3 s4 s5 l4 l5 l6 l7 d=>gn [k] 233 #[Q p,cF T s3 s4 s5 l4 l5 l6 l7 d,O U deep] f λw8=>nx W λX=>v X (au U (e+1)) w8) (R (ai #[]) f))) λm=>N (YR ((h.n:Int)>0)) (rN [k] 231 #[h.v] t λs w9=>(6+(s.size:Int))<=9223372036854775807/\gn [k] 181 #[Q p,O U deep,ab ((ao #[108,101,97,118,101,32])++s)] w9 λA=>m A) (m t)) λl=>N (YR ((g.n:Int)>0)) (rN [k] 231 #[g.v] r λo B=>(6+(o.size:Int))<=9223372036854775807/\gn [k] 181 #[Q p,O U deep,ab ((ao #[101,110,116,101,114,32])++o)] B λC=>l C) (l r)) λJ=>N (!(a.toList==((ao #[]).toList))) ((8+(a.size:Int))<=9223372036854775807/\((((ao #[105,110,105,116,105,97,108,32])++a).size:Int)+1)<=9223372036854775807/\gn [k] 181 #[Q p,O U deep,ab (((ao #[105,110,105,116,105,97,108,32])++a)++(ao #[59]))] q λY=>J Y) (J q)):F 183 #[Q p,cF x x1 a x3 g h c j x8,O U deep] w R:=
 fC (.s .o (.j [0,2,4] [] .o (.j [0,2,4] [] .o (.j [0,2,4] [] .o (.s (.s .o (.j [0,2,4] [.s 6 G] .o .o)) (.s .o (.j [0,2,4] [.s 7 G] .o .o))))))) E
def an3{k:Addr}{l:Sl}(m:nW 0 w λg u i a=>N (YR (i<(l.n:Int))) (lK (λh b=>CU (λf=>∃p0,cK l i 9 p0/\kH f (p0.add 2) λn o y q x r=>cU 185 #[Q k,bT n o y q x r] f λA=>nx u λv=>g v (au U (i+1)) A) λc=>N (!h) (∃p,cK l i 9 p/\gw b (p.add 8) λs=>cU 84 #[Q k,O U 23,O U s] b λB=>c B) (c b)) λJ=>∃d,cK l i 9 d/\gw a (d.add 0) λt=>N (t !=1) (J aF a) (∃e,cK l i 9 e/\Eu a (e.add 1) λz=>cB 234 #[Q k,ab z] a λj C=>J j C)) (R (ai #[]) a)):F 184 #[Q k,l.v] w R:=
 fC (.s .o (.j [0,1] [.s 4 G] (.s .o (.s (.s (.j [0,1,4] [.s 5 .bool] .o .o) (.j [0,1,4] [] .o .o)) .o)) .o)) m
def an4{k:Addr}{x L:Int}{c:D}{M:Int}{d:Sl}{l:Int}(r:z w λa g=>lK (λn h=>lK (λo j=>CU (λC=>nW 0 C λm y i b=>N (YR (i<(d.n:Int))) (kO d i b λs t B u A v=>gn [a] 185 #[Q k,bT s t B u A v] b λE=>nx y λk3=>m k3 (au U (i+1)) E) (R (ai #[]) b)) λf=>N ((!n)||(!o)) (gn [a] 84 #[Q k,O U 23,O U l] j λH=>f H) (f j)) λe=>N (x !=3) (e aF h) (lf [a] 235 #[Q k,ab c] h λp I=>e p I)) λJ=>N (x !=2) (J aF g) (lf [a] 234 #[Q k,ab c] g λq K=>J q K)):F 185 #[Q k,bT x L c M d l] w R:=
 fC (.s .o (.s (.j [0,3] [.s 4 .bool] .o .o) (.s (.j [0,3,4] [.s 5 .bool] .o .o) (.j [0,3] [] .o (.s .o (.j [0,3] [.s 6 G] .o .o)))))) r
def an5{k:Addr}{n:Sl}(H:∃J:Nat->Sl->Int->aw->Prop,∃M:Nat,J M Sl.nil 0 w/\∀t,∀l:Sl,∀d o,J t l d o->N (YR (d<(n.n:Int))) (o0 o λp=>j9 p (k.add 10) λT=>IJ n d p λs0=>cI 39 #[T.v,ab s0] p λe g=>N (YR (e<1)) (R (aj aM) g) (j9 g (k.add 10) λV=>∃v,cK V e 5 v/\gw g (v.add 0) λI=>cB 109 #[O U I] g λD h=>lK (λa w4=>nW 0 w4 λC k3 f B=>N (YR (f<(l.n:Int))) (o0 B λj=>∃m:A,m ((k.add 10).block)/\j9 j (k.add 10) λW=>yu l f j λK=>N1 31 (O U a) (O U K) j λX q=>bX m j q/\cI 236 #[W.v,X.v] q λi b=>bX m q b/\∃x,((i==a)=aM->cK l f 1 x)/\∃c,((i==a)=aM->aD b x [O U c])/\∃u:Sl,(((i==a)||(i==c))=aM->aD b (k.add 10) [u.v])/\∃y,(((i==a)||(i==c))=aM->cK u i 5 y)/\∃s,(((i==a)||(i==c))=aM->aD b (y.add 0) [O U s])/\N (((i==a)||(i==c))||(s !=2)) (R (aj aM) b) (nx k3 λP=>C P (au U (f+1)) b)) (lH 31 (O U a) B λY w9=>po 31 l Y w9 λZ E=>nx t λS=>J S Z (au U (d+1)) E)) λr=>N D (j9 h (k.add 10) λl8=>∃z,cK l8 e 5 z/\gw h (z.add 2) λL=>r L h) (r e h))) (R (aj aF) o)):F 186 #[Q k,n.v] w R:=
 fC (.d 2 (.s (.s .o (.j [0,1] [.s 5 .sl,.s 6 G] (.s .o (.s (.d 3 (.j [0,1,5,6] [.s 7 G] .o (.s (.s .o (.j [0,1,5,6,7] [.s 9 G] .o .o)) .o))) .o)) .o)) .o)) H
def avp{k:Int}{i:Addr}(h:j9 w i λl=>∃p0,cK l k 5 p0/\gw w (p0.add 0) λa=>cB 188 #[O U a] w λb c=>R (aj (!b)) c):F 187 #[O U k,Q i] w R:=
 iI h
def avq{kind:Int}(h:R (aj ((kind==1)||(kind==2))) w):F 188 #[O U kind] w R:=
 iI h
def an6{c:Int}{o:Sl}(h:cB 241 #[o.v,.int .u8 c] w λb a=>R (aj b) a):F 203 #[.int .u8 c,o.v] w R:=
 iI h
def an7{s t:D}(h:cB 242 #[ab s,ab t] w λb a=>R (aj b) a):F 204 #[ab s,ab t] w R:=
 iI h
def an8{c:Addr}(h:Eu w (c.add 0) λs=>gw w (c.add 1) λi=>∃k:Nat,(i=(k:Int)/\k<=s.size)/\o0 w λa=>R (ab (s.extract k s.size)) a):F 205 #[Q c] w R:=
 iI h
def an9{s e:D}(h:NdC 243 #[ab s,ab e] w λa c b d=>R (ai #[ab a,ab c,aj b]) d):F 206 #[ab s,ab e] w R:=
 iI h
def aoa{c:Int}{R:aH}(w:aw)(h:R (aj (((YR (97<=(bits .or .u8 c 32)))&&(YR ((bits .or .u8 c 32)<=122)))||(c==95))) w):F 207 #[.int .u8 c] w R:=
 iI h
def aob(c:Addr){R:aH}(a:aw)(h:cS 244 #[Q (c.add 0)] a λs w=>N (YR ((s.size:Int)>24)) (R (O U 2) w) (lK (λi f=>cS 246 #[ab s] f λe g=>cU 156 #[Q c,nT i e 0 0,O U (s.size:Int)] g λj=>R (O U 0) j) λJ=>j9 w (c.add 2) λl=>cB 245 #[l.v,ab s] w λd b=>N d (J 2 b) (J 1 b))):F 208 #[Q c] a R:=
 fC (.d 4 (.j [0,3] [.s 4 G] .o .o)) h
def aoc{c:Int}(h:R (aj ((YR (48<=c))&&(YR (c<=57)))) w):F 209 #[.int .u8 c] w R:=
 iI h
def aod(c:Addr)(R:aH)(w:aw)(h:cS 205 #[Q (c.add 0)] w λs g=>ahR 247 #[ab s] g λe i a b=>N (a !=0) (R (O U a) b) (cS 244 #[Q (c.add 0)] b λf d=>N (YR ((f.size:Int)>i)) (R (O U 4) d) (cU 156 #[Q c,nT 3 (ao #[]) e 0,O U i] d λj=>R (O U 0) j))):F 210 #[Q c] w R:=
 iI h
def afy{s:Sl}{v:D}(h:nW 0 w λJ k i a=>N (YR (i<(s.n:Int))) (IJ s i a λc=>N (v.toList==c.toList) (R (O U i) a) (nx k λb=>J b (au U (i+1)) a)) (R (O U (-1)) a)):F 212 #[s.v,ab v] w R:=
 fC (.s .o (.s (.s .o (.j [0,1,7] [.s 8 G] .o .o)) .o)) h
def aoe{c:Addr}(h:Ae 159 #[Q c,O U 1] w λi s b d a=>R (ab s) a):F 214 #[Q c] w R:=
 iI h
end Go.Proofs.YtdfibecibkijiaaGreatDoor.Vc
