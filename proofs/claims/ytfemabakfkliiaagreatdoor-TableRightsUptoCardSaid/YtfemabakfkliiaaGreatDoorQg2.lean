import Derived.Test.YtfemabakfkliiaaGreatDoorQg1
import Derived.Shelf.Strings.Builder1
import Derived.Shelf.Strings.Builder2
import Derived.Shelf.Strings.OnBuilder
import Derived.Shelf.Small.Bits
import Derived.Shelf.Strings.BuilderF
import Derived.Shelf.Strconv.Itoa0
import Derived.Shelf.Strconv.Itoa1
import Derived.Shelf.LaysM
import Derived.Shelf.Strconv.Itoa2
import Derived.Shelf.Strconv.Itoa3
import Derived.Shelf.Strconv.ParseIntEmpty
import Derived.Shelf.Strconv.Clone
import Derived.Shelf.Strconv.SyntaxError
import Derived.Shelf.LaysC
import Derived.Shelf.Strconv.ToError
import Derived.Shelf.Strconv.Lower
import Derived.Shelf.Strconv.ParseUint10
import Derived.Shelf.Strconv.ParseUint10Empty
import Derived.Shelf.Strconv.ParseUint10Any
import Derived.Shelf.Strconv.ParseInt10
import Derived.Shelf.Strconv.RangeError
import Derived.Shelf.Strconv.ToErrorRange
import Derived.Shelf.Strconv.ParseUintEmpty
import Derived.Shelf.Strconv.ParseUint10b64
import Derived.Shelf.Strconv.ParseUint10b32
import Derived.Shelf.Strconv.ParseUint10b16
import Derived.Shelf.Strconv.ParseUint10b8
import Derived.Shelf.Strconv.ParseUint10At
import Derived.Shelf.Strconv.ParseInt10At64
import Derived.Shelf.Strconv.ParseInt10At32
import Derived.Shelf.Strconv.ParseInt10At16
import Derived.Shelf.Strconv.ParseInt10At8
import Derived.Shelf.Strconv.ParseInt10All
import Derived.Shelf.Strconv.ParseIntPublic10
import Derived.Shelf.Strconv.ErrVarParseInt
import Derived.Shelf.Strings.Search1
import Derived.Shelf.Strings.Search2
import Derived.Shelf.Strings.Cut
import Derived.Shelf.Strings.Shaped
import Derived.Shelf.Sort.Plain
import Derived.Shelf.Strings.Prefix
import Derived.Shelf.Bits.Mul64
import Derived.Shelf.Strings.Repeat
import Derived.Shelf.Slices.Clone
import Derived.Shelf.Slices.SearchI
import Derived.Shelf.Slices.In.SortNone
import Derived.Shelf.SlicesE.Clone
import Derived.Shelf.SlicesG.Cmp
set_option linter.constructorNameAsVariable false
set_option linter.defProp false
set_option linter.unusedSectionVars false
set_option linter.unusedSimpArgs false
set_option linter.unusedVariables false
open Bool renaming true->L,false->aL
open Option renaming some->aM,none->aaf
open List renaming length->I
namespace Go.Kt.V
open Go renaming World->M,Value->aw
open Go Go.RowKit Go.Kt
structure abM (β:Nat->Nat) (n:Nat) (fr:List (Nat×Nat×SV)) (D:List Deferred) (a:Act):Prop where
 sz:a.tmps.size=n
 df:a.defers=D
 at_:∀i p,eK fr i=aM p->i<n->a.tmps[i]? =aM (val β p.2)
def ud{β}{n}{fr}{D}{a}(b:abM β n fr D a):∃u,a=frD n u (cv β fr) D:=by
 refine⟨λi=>(a.tmps[i]?).getD undef,?_⟩;obtain⟨t,df⟩:=a;obtain⟨c,d,e⟩:=b;dsimp only at c d e;congr 1;apply Array.ext';apply nE;intro i;by_cases h:i<n
 ·rw[pb _ _ _ _ _ h,bS];rcases hl:eK fr i with _|p
  ·rw[Gu (l:=cv β fr) agB]
   grind
  rw[wC (l:=cv β fr) (v:=val β p.2) agB]
  grind
 rw[eG aba,eG (by rw[qm];exact jd h)]
def ZV{β}{n}{fr}{D}{us}:abM β n fr D (frD n us (cv β fr) D):=by
 refine⟨by simp[frD,qm],rfl,λi p hl h=>?_⟩;simp[frD];rw[pb _ _ _ _ _ h,bS,wC (l:=cv β fr) (v:=val β p.2) agB]
def Rep.ok{β}{st}{a}{w}(h:Rep β st a w):abM β st.n st.fr (dfs st.df) a:=by
 obtain⟨u,rfl⟩:=h.fr;exact ZV
def tst(st:St)(o:List Oper)(j:Nat):Option (Nat×SV):=match iL o j with
 | some a=>(match a.dst with
  | some d=>(st.get d).map λs=>(d,s)
  | none=>aaf)
 | none=>aaf
def CG{st}{ops}{j d}{s}(h:tst st ops j=aM (d,s)):∃o,iL ops j=aM o/\o.dst=aM d/\st.get d=aM s:=by
 unfold tst at h;split at h
 ·rename_i b a;split at h
  ·rename_i e c;cases g:st.get e<;>grind
  cases h
 cases h
section
variable {β:Nat->Nat} {st:St} {a:Act} {w:M} {ops:List Oper} {o:Oper} {j d:Nat} {want b:Bool}
def sK(R:Rep β st a w)(g:o.guard=aM (j,want)){s}(t:tst st ops j=aM (d,s))(f:val β s=.bool b):Region.wanted o (yielded ops.toArray a.tmps)=(b==want):=by
 obtain⟨i,h,c,e⟩:=CG t;obtain⟨u,rfl⟩:=R.fr;exact wtF g h c (by rw[<-f];exact St.evO β e) rfl
def zZ(R:Rep β st a w)(g:o.guard=aM (j,want))(t:tst st ops j=aM (d,.un)):Region.wanted o (yielded ops.toArray a.tmps)=aL:=by
 obtain⟨e,h,b,c⟩:=CG t;obtain⟨u,rfl⟩:=R.fr;exact wuF g h b (St.evO β (x:=.tmp d) (s:=.un) c)
def Rep.set(R:Rep β st a w){s s'}(h:st.get d=aM s)(v:val β s=val β s'):Rep β (st.put (aM d) s') a w:=by
 refine⟨ud ⟨R.ok.sz,R.ok.df,λc p hl i=>?_⟩,R.bx,R.ne,R.only,R.still⟩;simp[St.put,eK]at hl;cases b:Nat.beq d c
 ·rw[b]at hl;exact R.ok.at_ c p agS i
 rw[b]at hl;simp at hl;subst hl;have:=dh b;subst this;unfold St.get at h;cases W:Nat.blt d st.n
 ·rw[W]at h;cases h
 rw[W]at h;rcases hq:eK st.fr d with _|q
 ·rw[hq]at h;cases h
 rw[hq]at h;simp at h;rw[R.ok.at_ d q hq i,h,v]
end
section
variable {P:Program} {ops:List Oper} {w:M}
def yE(P:Program)(o:List Oper)(w:M):List Oper->Act->Act->Prop
 | [],a,b=>b=a
 | b::r,a,d=>(Region.wanted b (yielded o.toArray a.tmps)=L/\∃v,(∀c,c.heap=w.heap->(execOp a.eval b).run P c=.ok (.value v) c)/\yE P o w r (a.put b.dst v) d)∨
  (Region.wanted b (yielded o.toArray a.tmps)=aL/\yE P o w r (a.put b.dst undef) d)
def CH:∀{l m:List Oper} {a b c:Act},yE P ops w l a b->yE P ops w m b c->yE P ops w (l++m) a c
 | [],_,_,_,_,h,k=>by
  subst h;exact k
 | o::r,m,a,b,c,e,k=>by
  rcases e with⟨h,v,f,d⟩ | ⟨h,d⟩
  ·exact .inl ⟨h,v,f,CH (l:=r) d k⟩
  exact .inr ⟨h,CH (l:=r) d k⟩
def Gy{Q}:∀{l rest:List Oper} {a c:Act},yE P ops w l a c->wpList P ops.toArray Q rest c w->wpList P ops.toArray Q (l++rest) a w
 | [],_,_,_,h,k=>by
  subst h;exact k
 | o::r,m,a,b,e,k=>by
  rcases e with⟨h,v,f,d⟩ | ⟨h,d⟩
  ·exact Gd v h (f w rfl) rfl (Gy (l:=r) d k)
  exact acJ h rfl (Gy (l:=r) d k)
def ME{Q}:∀{l rest:List Oper} {a d:Act},yE P ops w l a d->wpQuiet P ops.toArray (λc=>∃n,c=w.drewN n) Q rest d->wpQuiet P ops.toArray (λc=>∃n,c=w.drewN n) Q (l++rest) a
 | [],_,_,_,h,k=>by
  subst h;exact k
 | o::r,m,a,b,f,k=>by
  rcases f with⟨h,v,g,e⟩ | ⟨h,e⟩
  ·exact ajz v h (by rintro _ ⟨n,rfl⟩;exact g _ rfl) rfl (ME (l:=r) e k)
  exact aqi h rfl (ME (l:=r) e k)
def Gz:List Oper->List Nat
 | []=>[]
 | o::r=>match o.dst with
  | some d=>d::Gz r
  | none=>Gz r
def mC(a:Act) d v:(a.put d v).tmps.size=a.tmps.size/\(a.put d v).defers=a.defers/\∀i,d≠aM i->(a.put d v).tmps[i]? =a.tmps[i]? :=by
 rcases d with _|k
 ·exact⟨rfl,rfl,λ_ _=>rfl⟩
 refine⟨by simp[Act.put],rfl,λi h=>?_⟩;simp[Act.put]
 grind
def CI:∀{l:List Oper} {a c:Act},yE P ops w l a c->c.tmps.size=a.tmps.size/\c.defers=a.defers/\∀i,(Gz l).elem i=aL->c.tmps[i]? =a.tmps[i]?
 | [],_,_,h=>by
  subst h;exact⟨rfl,rfl,λ_ _=>rfl⟩
 | o::r,a,b,e=>by
  have k:∀v,yE P ops w r _ b->b.tmps.size=a.tmps.size/\b.defers=a.defers/\∀i,(Gz (o::r)).elem i=aL->b.tmps[i]? =a.tmps[i]? :=λv h=>by
   obtain⟨j,m,k3⟩:=CI h;obtain⟨p,n,q⟩:=mC a o.dst v;refine⟨j.trans p,m.trans n,λi b=>?_⟩;rcases hd:o.dst with _|d
   ·simp only[Gz,hd]at b;simp_all
   simp only[Gz,hd,xt]at b;split at b<;>grind
  rcases e with⟨f,v,g,h⟩ | _<;>grind
end
def ajI(o:List Oper):Nat->Nat->Nat->Bool
 | 0,_,_=>aL
 | f+1,q,j=>bif Nat.beq q j then L else match iL o q with
  | some a=>(match a.guard with
   | some (r,_)=>ajI o f r j
   | none=>aL)
  | none=>aL
def Bo(o:List Oper)(j:Nat):List Oper->Nat
 | []=>0
 | a::r=>match a.guard with
  | some (q,_)=>bif ajI o 50 q j then Bo o j r+1 else 0
  | none=>0
def mrg(t:Bool)(a b:SV):Option SV:=match a,b with
 | .bl L,.bl aL=>aM (.bt t)
 | .bl L,.bt y=>aM (.bt (t||y))
 | .bt x,.bl aL=>aM (.bt (t&&x))
 | .bl aL,.bl L=>aM (.bt (!t))
 | .bl aL,.bt y=>aM (.bt (!t&&y))
 | .bt x,.bl L=>aM (.bt (!t||x))
 | .bt x,.bt y=>aM (.bt (bif t then x else y))
 | .bl L,.bl L=>aM (.bl L)
 | .bl aL,.bl aL=>aM (.bl aL)
 | _,_=>aaf
def Ue{t}{a b v}(h:mrg t a b=aM v) β:(t=L->val β v=val β a)/\(t=aL->val β v=val β b):=by
 unfold mrg at h;split at h<;>simp at h<;>subst h<;>refine⟨λe=>?_,λe=>?_⟩<;>subst e<;>simp[val,sI]
def CJ(d:List Nat):List (Nat×Nat×SV)->List (Nat×Nat×SV)
 | []=>[]
 | p::r=>bif d.elem p.1 then CJ d r else p::CJ d r
def mP{ds}:∀{l:List _} {i:Nat},(ds.elem i=L->eK (CJ ds l) i=aaf)/\(ds.elem i=aL->eK (CJ ds l) i=eK l i)
 | [],i=>⟨λ_=>rfl,λ_=>rfl⟩
 | (k,p)::r,i=>by
  obtain⟨h,a⟩:=mP (ds:=ds) (l:=r) (i:=i);simp only[CJ];cases hk:ds.elem k
  ·simp[eK];cases b:Nat.beq k i<;>simp_all
  simp only[cond_true];refine⟨h,λb=>?_⟩;rw[a b];simp[eK];cases c:Nat.beq k i<;>simp_all
def St.qX(st:St)(d:List Nat):St:={st with fr:=CJ d st.fr}
def Ext.qX st ds:Ext st (st.qX ds):=
 ⟨rfl,aX _,λi k v h _=>by
  cases e:ds.elem i with
  | true=>rw[show eK (st.qX ds).fr i=aaf from(mP (l:=st.fr)).1 e]at h;cases h
  | false=>rw[show eK (st.qX ds).fr i=eK st.fr i from(mP (l:=st.fr)).2 e]at h;exact h,λi b a o _=>⟨b,a,o,rfl,rfl,rfl,λ_ a=>a⟩,T8,Iw⟩
structure Alike (s t:St):Prop where
 bx:t.bx=s.bx
 w0:t.w0=s.w0
 mv:t.mv=s.mv
 dt:t.dt=s.dt
 n:t.n=s.n
 df:t.df=s.df
def Alike.refl s:Alike s s:=⟨rfl,rfl,rfl,rfl,rfl,rfl⟩
def Alike.trans{s t u}(h:Alike s t)(k:Alike t u):Alike s u:=⟨k.bx.trans h.bx,k.w0.trans h.w0,k.mv.trans h.mv,k.dt.trans h.dt,k.n.trans h.n,k.df.trans h.df⟩
def Alike.put s d v:Alike s (s.put d v):=by cases d<;>exact⟨rfl,rfl,rfl,rfl,rfl,rfl⟩
def Rep.alike{β}{s t}{a a'}{w}(h:Rep β s a w)(k:Alike s t)(o:abM β t.n t.fr (dfs t.df) a'):Rep β t a' w:=by
 obtain⟨j,c,k3,u,v,x⟩:=k;refine⟨ud o,λi b g q=>?_,λi r bi l d f m n=>?_,?_,λp=>?_⟩
 ·rw[j]at g;obtain⟨a,k,s⟩:=h.bx i b g q;exact⟨a,k,λe=>by rw[c];exact s e⟩
 ·rw[j]at d f;exact h.ne i r bi l d f m n
 ·rw[c,u];exact h.only
 rw[c];exact h.still (by rw[<-k3];exact p)
def Aa(P:Program)(o:List Oper):Nat->List (Bool×Bool)->List Oper->St->(St->Prop)->Prop
 | 0,_,_,_,_=>False
 | _+1,_,[],st,a=>a st
 | f+1,g,a::r,st,c=>match a.guard with
  | none=>pur P g st a.op λv=>Aa P o f g r (st.put a.dst v) c
  | some (j,want)=>(match tst st o j with
   | some (_,.un)=>Aa P o f g r (st.put a.dst .un) c
   | some (_,.bl b)=>bif b==want then pur P g st a.op λv=>Aa P o f g r (st.put a.dst v) c else Aa P o f g r (st.put a.dst .un) c
   | some (d,.bt t)=>(match(a::r)[Bo o j (a::r)]? with
    | some pk=>(match pk.dst with
     | some k=>
      Aa P o f (g++[(t,L)]) ((a::r).take (Bo o j (a::r)+1)) (st.put (aM d) (.bl L)) λs=>
      cF (s.get k) λb=>
      Aa P o f (g++[(t,aL)]) ((a::r).take (Bo o j (a::r)+1)) (st.put (aM d) (.bl aL)) λsb=>
      cF (sb.get k) λe=>
      cF (mrg t b e) λv=>
      Aa P o f g ((a::r).drop (Bo o j (a::r)+1)) ((st.qX (Gz ((a::r).take (Bo o j (a::r)+1)))).put (aM k) v) c
     | none=>False)
    | none=>False)
   | _=>False)
def MF:∀{gs:List _} {t b:Bool},gh gs->t=b->gh (gs++[(t,b)])
 | [],_,_,_,h=>⟨h,trivial⟩
 | _::r,_,_,h,k=>⟨h.1,MF (gs:=r) h.2 k⟩
def ue{P}{ops}:∀{f:Nat} {i:List _} {l:List Oper} {st:St} {h:St->Prop},Aa P ops f i l st h->
  ∃e,h e/\Ext st e/\Alike st e/\(gh i->∀c a w,Rep c st a w->∃g,yE P ops w l a g/\Rep c e g w)
 | 0,_,_,_,_,a=>a.elim
 | _+1,i,[],st,h,b=>⟨st,b,Ext.refl _,Alike.refl _,λ_ c a w R=>⟨a,rfl,R⟩⟩
 | f+1,i,o::r,st,h,j=>by
  have one:(Region.wanted o=λ_=>L)∨True->∀{h:St->Prop},(pur P i st o.op λv=>Aa P ops f i r (st.put o.dst v) h)->
    (gh i->∀c a w,Rep c st a w->Region.wanted o _=L)->
    ∃e,h e/\Ext st e/\Alike st e/\(gh i->∀c a w,Rep c st a w->∃g,yE P ops w (o::r) a g/\Rep c e g w):=λ_ h j p=>by
   obtain⟨v,k,y⟩:=MD j;obtain⟨e,q,s,k3,t⟩:=ue k;refine⟨e,q,(Ext.put _ _ _).trans s,(Alike.put _ _ _).trans k3,λb c a w R=>?_⟩;obtain⟨g,d,f⟩:=t b c _ w (R.put o.dst v);exact⟨g,.inl ⟨p b c a w R,_,λu m=>y b c a w R _ _ _ _ _ u λ_=>m,d⟩,f⟩
  have n:∀{h:St->Prop},Aa P ops f i r (st.put o.dst .un) h->(gh i->∀c a w,Rep c st a w->Region.wanted o _=aL)->
    ∃e,h e/\Ext st e/\Alike st e/\(gh i->∀c a w,Rep c st a w->∃g,yE P ops w (o::r) a g/\Rep c e g w):=λk m=>by
   obtain⟨e,p,q,k3,s⟩:=ue k;refine⟨e,p,(Ext.put _ _ _).trans q,(Alike.put _ _ _).trans k3,λb c a w R=>?_⟩;obtain⟨g,d,f⟩:=s b c _ w (R.put o.dst .un);exact⟨g,.inr ⟨m b c a w R,d⟩,f⟩
  unfold Aa at j;split at j
  ·rename_i b;exact one (.inr trivial) j λ_ c a w R=>wn b
  rename_i q m f;split at j
  ·rename_i d t;exact n j λ_ c a w R=>zZ R f t
  ·rename_i d b t;cases k:(b==m)with
   | true=>
    rw[k]at j;exact one (.inr trivial) j λ_ c a w R=>by rw[sK R f t (b:=b) rfl,k]
   | false=>
    rw[k]at j;exact n j λ_ c a w R=>by rw[sK R f t (b:=b) rfl,k]
  ·rename_i d t u;obtain⟨z,y,b,Y⟩:=CG u;split at j
   ·rename_i pk d;split at j
    ·rename_i k hk;generalize Bo ops q _=am at j d;obtain⟨sa,S,aS,G,H⟩:=ue j;obtain⟨va,V,S⟩:=bL S;obtain⟨sb,E,aT,J,N⟩:=ue S;obtain⟨vb,W,E⟩:=bL E;obtain⟨v,X,E⟩:=bL E;obtain⟨e,k1,k2,k3,k4⟩:=ue E;refine⟨e,k1,((Ext.qX _ _).trans (Ext.put _ _ _)).trans k2,((⟨rfl,rfl,rfl,rfl,rfl,rfl⟩:Alike st (st.qX _)).trans (Alike.put _ _ _)).trans k3,λT c a w R=>?_⟩;have fin:∀(s:SV) aC x,Rep c aC a w->(∃g,yE P ops w ((o::r).take (am+1)) a g/\∃F,Rep c F g w/\F.n=st.n/\F.get k=aM x/\val c v=val c x)->∃g,yE P ops w (o::r) a g/\Rep c e g w:=by
      rintro s aC x C ⟨A,B,F,r1,r2,r3,r4⟩;obtain⟨f1,f2,f3⟩:=CI B;have jq:Rep c ((st.qX (Gz ((o::r).take (am+1)))).put (aM k) v) A w:=by
       refine R.alike ((⟨rfl,rfl,rfl,rfl,rfl,rfl⟩:Alike st (st.qX _)).trans (Alike.put _ _ _)) ⟨f1.trans R.ok.sz,f2.trans R.ok.df,λs p a t=>?_⟩;simp[St.put,eK]at a;cases v:Nat.beq k s
       ·rw[v]at a;cases k:(Gz _).elem s
        ·rw[show eK (st.qX _).fr s=eK st.fr s from(mP (l:=st.fr)).2 k]at a;rw[f3 s k];exact R.ok.at_ s p a t
        rw[show eK (st.qX _).fr s=aaf from(mP (l:=st.fr)).1 k]at a;cases a
       rw[v]at a;simp at a;subst a;have:=dh v;subst this;rw[r4,<-r1.get r3];have p:k<A.tmps.size:=by rw[f1,R.ok.sz];exact t
       simp[Act.eval,p]
      obtain⟨a2,D,g3⟩:=k4 T c A w jq;refine⟨a2,?_,g3⟩;have:=CH B D;simp_all
     cases t
     ·have C:Rep c (st.put _ (.bl aL)) a w:=R.set Y rfl;obtain⟨A,B,D⟩:=N (MF T rfl) c a w C;exact fin (.bl aL) _ vb C ⟨A,B,sb,D,J.n.trans rfl,W,(Ue X c).2 rfl⟩
     have C:Rep c (st.put _ (.bl L)) a w:=R.set Y rfl;obtain⟨A,B,D⟩:=H (MF T rfl) c a w C;exact fin (.bl L) _ va C ⟨A,B,sa,D,G.n.trans rfl,V,(Ue X c).1 rfl⟩
    exact j.elim
   exact j.elim
  exact j.elim
def mD:∀l b i,dw (l++[b]) i=if i=I l then aM b else dw l i
 | [],b,0=>rfl
 | [],b,i+1=>rfl
 | a::r,b,0=>rfl
 | a::r,b,i+1=>by
  simp;exact mD r b i
def uf:∀{l:List mw} {i:Nat} {b:mw},dw l i=aM b->i<I l
 | a::r,0,_,_=>aaV
 | a::r,i+1,b,h=>by simp[dw]at h;have:=uf h;simp;omega
def kJ:∀{l:List mw} {i:Nat} {b c:mw},dw l i=aM b->∀j,dw (Rz l i c) j=if j=i then aM c else dw l j
 | a::r,0,b,c,_,0=>rfl
 | a::r,0,b,c,_,j+1=>rfl
 | a::r,i+1,b,c,h,0=>rfl
 | a::r,i+1,b,c,h,j+1=>by
  simp[dw]at h;simp;exact kJ h j
def qH{b}{p q}(h:bif b then p else q):(b=L/\p)∨(b=aL/\q):=abV
def LP(x:List mw)(i:Nat):Nat:=match dw x i with
 | some b=>b.blk.getD 0
 | none=>0
def Jj(x:List mw)(i:Nat):Bool:=match dw x i with
 | some b=>b.ok&&b.blk.isSome
 | none=>aL
abbrev St.bl(st:St)(i:Nat):Nat:=LP st.bx i
abbrev St.NP(st:St)(i:Nat):Bool:=Jj st.bx i
def Rep.bl{β}{st}{a}{w}(c:Rep β st a w) i (h:st.NP i=L):st.bl i=β i:=by
 unfold St.NP Jj at h;unfold St.bl LP;rcases hb:dw st.bx i with _|b
 ·rw[hb]at h;cases h
 rw[hb]at h;simp at h;rcases hk:b.blk with _|k
 ·rw[hk]at h;cases h.2
 have:=(c.bx i b hb h.1).at_ k hk;simp[hk,this]
def Rep.wl{β}{st}{a}{w}(h:Rep β st a w){l}(c:jv st.NP l=L):cW st.bl l=cW β l:=jf (g:=st.NP) h.bl l c
def Rep.amH{β}{st}{a}{w}(h:Rep β st a w){s}(c:cln st.NP s=L):val st.bl s=val β s:=jX (g:=st.NP) h.bl s c
def Jk:List mw->(List mw->Prop)->Prop
 | [],a=>a []
 | b::r,a=>match b.ok,b.blk with
  | true,aaf=>∀k,Jk r λc=>a ({b with blk:=aM k}::c)
  | _,_=>Jk r λc=>a (b::c)
def vw(k:Nat)(b:mw):mw:=match b.ok,b.blk with
 | true,aaf=>{b with blk:=aM k}
 | _,_=>b
def rz(a:Nat->Nat):Nat->List mw->List mw
 | _,[]=>[]
 | n,b::r=>vw (a n) b::rz a (n+1) r
def CK β:∀{s:List mw} n {a:List mw->Prop},Jk s a->a (rz β n s)
 | [],_,_,h=>h
 | b::r,n,a,h=>by
  unfold Jk at h;unfold rz;split at h
  ·have:=CK β (n+1) (h (β n));have e:vw (β n) b={b with blk:=aM (β n)}:=by unfold vw<;>simp_all
   simp_all
  have:=CK β (n+1) h;have e:vw (β n) b=b:=by simp[vw]
  simp_all
def CL β:∀s n i,dw (rz β n s) i=(dw s i).map (vw (β (n+i)))
 | [],_,_=>rfl
 | b::r,n,0=>rfl
 | b::r,n,i+1=>by
  simp[rz,dw];rw[CL β r _ i,show n+1+i=n+(i+1) by omega]
def Jl(a w:M):List mw->List mw->Prop->Prop
 | b::r,c::d,p=>match b.ok,b.blk with
  | true,aaf=>a.heap.size<=c.blk.getD 0->c.blk.getD 0<w.heap.size->Jl a w r d p
  | _,_=>Jl a w r d p
 | _,_,p=>p
def CM{β}{w0 w}:∀{s:List mw} n {p:Prop},Jl w0 w s (rz β n s) p->(∀i b,dw s i=aM b->b.ok=L->b.blk=aaf->w0.heap.size<=β (n+i)/\β (n+i)<w.heap.size)->p
 | [],_,_,h,_=>h
 | b::r,n,p,h,a=>by
  simp[rz]at h;unfold Jl at h;split at h
  ·rename_i d f;obtain⟨g,j⟩:=a 0 b rfl d f;have e:(vw (β n) b).blk.getD 0=β n:=by unfold vw;rw[d,f];rfl
   rw[e]at h;exact CM _ (h g j) λi c k=>by have:=a (i+1) c k;rwa[show n+_=n+1+i by omega]at this
  exact CM _ h λi c b=>by have:=a (i+1) c b;rwa[show n+_=n+1+i by omega]at this
def shB(g:Nat->Bool)(bl:Nat->Nat)(w:M)(a:Bool):List mw->Prop->Prop
 | [],p=>p
 | b::r,p=>bif b.ok&&b.blk.isSome&&b.esc&&(a||!b.sh)&&jv g b.cells then Blk w (b.blk.getD 0) b.ty (cW bl b.cells)->shB g bl w a r p else shB g bl w a r p
def GA{g}{bl}{w}{all}:∀{s:List mw} {p:Prop},shB g bl w all s p->(∀i b,dw s i=aM b->b.ok=L->b.blk.isSome=L->jv g b.cells=L->Blk w (b.blk.getD 0) b.ty (cW bl b.cells))->p
 | [],_,h,_=>h
 | b::r,p,a,d=>by
  unfold shB at a;cases h:(b.ok&&b.blk.isSome&&b.esc&&_&&jv g b.cells)with
  | true=>
   rw[h]at a;simp at h;exact GA (a (d 0 b rfl h.1.1.1.1 h.1.1.1.2 h.2)) λi c e=>d (i+1) c e
  | false=>
   rw[h]at a;exact GA a λi c b=>d (i+1) c b
def yF:List mw->List mw
 | []=>[]
 | b::r=>{b with sh:=b.esc}::yF r
def sL:∀l i,dw (yF l) i=(dw l i).map λb=>{b with sh:=b.esc}
 | [],_=>rfl
 | b::r,0=>rfl
 | b::r,i+1=>sL r i
def CN(s:List mw):List Nat->Bool
 | []=>L
 | i::r=>(match dw s i with
  | some b=>b.ok
  | none=>aL)&&CN s r
def wF{bs}:∀{l:List Nat},CN bs l=L->∀i∈l,∃b,dw bs i=aM b/\b.ok=L
 | i::r,h,a,j=>by
  simp[CN]at h;rcases aY.1 j with rfl | j
  ·split at h<;>grind
  exact wF h.2 a j
def RB:List mw->List mw->List (Nat×Bool)
 | b::r,c::a=>bif b.ok&&b.blk.isNone then(c.blk.getD 0,b.esc)::RB r a else RB r a
 | _,_=>[]
def Uf(k:Nat):List (Nat×Bool)->Prop->Prop
 | [],p=>p
 | x::r,p=>bif x.2 then Uf k r p else(x.1≠k->Uf k r p)
def Ug(a:List (Nat×Bool)):List (Nat×Bool)->Prop->Prop
 | [],p=>p
 | x::r,p=>bif x.2 then Uf x.1 a (Ug a r p)else Ug a r p
def GB{k}:∀{l:List _} {p:Prop},Uf k l p->(∀y,y∈l->y.2=aL->y.1≠k)->p
 | [],_,h,_=>h
 | x::r,p,h,hd=>by
  unfold Uf at h;cases a:x.2
  ·rw[a]at h;exact GB (h (hd x eY a)) λy b=>hd y (dQ _ b)
  rw[a]at h;exact GB h λy b=>hd y (dQ _ b)
def GC{all}:∀{l:List _} {p:Prop},Ug all l p->(∀x,x∈l->x.2=L->∀y,y∈all->y.2=aL->y.1≠x.1)->p
 | [],_,h,_=>h
 | x::r,p,h,hd=>by
  unfold Ug at h;cases a:x.2
  ·rw[a]at h;exact GC h λz b=>hd z (dQ _ b)
  rw[a]at h;exact GC (GB h λy b f=>hd x eY a y b f) λz c=>hd z (dQ _ c)
def yG{β}:∀{s:List mw} n {x:Nat×Bool},x∈RB s (rz β n s)->∃i b,dw s i=aM b/\b.ok=L/\x=(β (n+i),b.esc)
 | [],_,_,h=>abG
 | b::r,n,x,h=>by
  simp[rz,RB]at h;cases a:(b.ok&&b.blk.isNone)with
  | true=>
   rw[a]at h;simp at a;rcases aY.1 h with rfl | h
   ·refine⟨0,b,rfl,a.1,?_⟩;have:(vw (β n) b).blk.getD 0=β n:=by unfold vw;rw[a.1,a.2];rfl
    rw[this];rfl
   obtain⟨i,c,b,d,e⟩:=yG _ h;exact⟨i+1,c,b,d,abV⟩
  | false=>
   rw[a]at h;obtain⟨i,c,b,d,e⟩:=yG _ h;exact⟨i+1,c,b,d,abV⟩
def CO:List mw->List Nat
 | []=>[]
 | b::r=>bif b.ok&&b.blk.isSome&&b.esc&&!b.sh then b.blk.getD 0::CO r else CO r
def CP:List mw->List Nat
 | []=>[]
 | b::r=>bif b.ok&&b.blk.isSome&&!b.esc then b.blk.getD 0::CP r else CP r
def ae4(k:Nat):List Nat->Prop->Prop
 | [],p=>p
 | x::r,p=>x≠k->ae4 k r p
def ZW(X:List Nat):List Nat->Prop->Prop
 | [],p=>p
 | k::r,p=>ae4 k X (ZW X r p)
def OG{k}:∀{l:List Nat} {p:Prop},ae4 k l p->(∀y,y∈l->y≠k)->p
 | [],_,h,_=>h
 | x::r,p,h,hd=>OG (h (hd x eY)) λy a=>hd y (dQ _ a)
def GD{Xv}:∀{l:List Nat} {p:Prop},ZW Xv l p->(∀k,k∈l->∀y,y∈Xv->y≠k)->p
 | [],_,h,_=>h
 | k::r,p,h,hd=>GD (OG h λy a=>hd k eY y a) λz b=>hd z (dQ _ b)
def Ab:∀{s:List mw} {x:Nat},x∈CO s->∃i b,dw s i=aM b/\b.ok=L/\b.esc=L/\b.blk=aM x
 | [],_,h=>abG
 | b::r,x,h=>by
  simp[CO]at h;cases a:(b.ok&&b.blk.isSome&&b.esc&&!b.sh)with
  | true=>
   rw[a]at h;simp at a;rcases aY.1 h with rfl | h
   ·obtain⟨k,hk⟩:=gN.1 a.1.1.2;exact⟨0,b,rfl,a.1.1.1,a.1.2,by rw[hk];rfl⟩
   obtain⟨i,c,b,d⟩:=Ab h;exact⟨i+1,c,b,d⟩
  | false=>
   rw[a]at h;obtain⟨i,c,b,d⟩:=Ab h;exact⟨i+1,c,b,d⟩
def Ad:∀{s:List mw} {x:Nat},x∈CP s->∃i b,dw s i=aM b/\b.ok=L/\b.esc=aL/\b.blk=aM x
 | [],_,h=>abG
 | b::r,x,h=>by
  simp[CP]at h;cases a:(b.ok&&b.blk.isSome&&!b.esc)with
  | true=>
   rw[a]at h;simp at a;rcases aY.1 h with rfl | h
   ·obtain⟨k,hk⟩:=gN.1 a.1.2;exact⟨0,b,rfl,a.1.1,a.2,by rw[hk];rfl⟩
   obtain⟨i,c,b,d⟩:=Ad h;exact⟨i+1,c,b,d⟩
  | false=>
   rw[a]at h;obtain⟨i,c,b,d⟩:=Ad h;exact⟨i+1,c,b,d⟩
def Jm{β}{st}{a}{w}(h:Rep β st a w):∀k,k∈CO st.bx->∀y,y∈CP st.bx->y≠k:=λk hk y m=>by
 obtain⟨i,b,d,f,p,n⟩:=Ab hk;obtain⟨j,c,g,l,j3,o⟩:=Ad m;rw[<-(h.bx i b d f).at_ k n,<-(h.bx j c g l).at_ y o];refine h.ne j i c b g d l f λe=>?_
 grind
def fz(st:St)(a:St->Prop):Prop:=
 bif st.mv then
  bif CN st.bx st.dt then
   Jk st.bx λb=>∀w,Jl st.w0 w st.bx b (Only (st.dt.map (LP b)) st.w0 w->
    shB (Jj b) (LP b) w L b (Ug (RB st.bx b) (RB st.bx b) (ZW (CP st.bx) (CO st.bx) (a {st with bx:=yF b,w0:=w,mv:=aL,dt:=[]}))))
  else False
 else shB st.NP st.bl st.w0 aL st.bx (ZW (CP st.bx) (CO st.bx) (a {st with bx:=yF st.bx}))
def eU{st}{K}(d:fz st K){β}{a}{w}(h:Rep β st a w):∃g,K g/\Ext st g/\Rep β g a w/\g.mv=aL/\g.fr=st.fr/\g.n=st.n/\g.ct=st.ct/\I g.bx=I st.bx:=by
 rcases qH d with⟨m,d⟩ | ⟨m,d⟩
 case inr=>
  have hk:=GA d λi b a o s u=>by
   have:=(h.bx i b a o).blk;rcases hk:b.blk with _|k
   ·rw[hk]at s;cases s
   have e:=(h.bx i b a o).at_ k hk;rw[h.wl u,<-h.still m];simp_all
  have hk:=GD hk (Jm h);have y:∀i j,dw (yF st.bx) i=aM j->∃b,dw st.bx i=aM b/\j={b with sh:=b.esc}:=λi j a=>by
   rw[sL]at a;cases f:dw st.bx i<;>grind
  refine⟨_,hk,⟨rfl,aX _,λ_ _ _ d _=>d,λi j a o _=>?_,λi b a=>?_,Iw⟩,⟨h.fr,λi j a o=>?_,λi n bi p l q r t x=>?_,h.only,h.still⟩,m,rfl,rfl,rfl,?_⟩
  ·grind
  ·exact⟨{b with sh:=b.esc},by rw[sL,a];rfl,rfl,rfl,λ_ d=>d⟩
  ·obtain⟨b,l,rfl⟩:=y i j a;have:=h.bx i b l o;exact⟨this.blk,this.at_,this.new⟩
  ·obtain⟨b,e,rfl⟩:=y i bi l;obtain⟨c,k,rfl⟩:=y n p q;exact h.ne i n b c e k r t x
  have:∀c:List mw,I (yF c)=I c:=λc=>by
   induction c with
   | nil=>rfl
   | cons b k e=>simp[yF,e]
  exact this _
 case inl=>
  obtain⟨z,d⟩:=dU d;have d:=CK β 0 d w;have r:∀i,dw _ i=(dw st.bx i).map (vw (β i)):=λi=>by rw[CL,bS]
  have E:∀i b,dw st.bx i=aM b->b.ok=L->∃a,dw _ i=aM a/\a.ok=L/\a.blk=aM _/\a.cells=b.cells/\a.ty=b.ty/\a.stp=b.stp:=λi b j o=>by
   refine⟨vw _ b,by rw[r,j];rfl,?_⟩;unfold vw;split
   ·exact⟨o,rfl,rfl,rfl,rfl⟩
   rename_i c;refine⟨o,?_,rfl,rfl,rfl⟩;rcases hk:b.blk with _|k
   ·exact absurd hk (λe=>c o e)
   rw[(h.bx i b j o).at_ k hk]
  have Y:∀i a,dw _ i=aM a->a.ok=L->∃b,dw st.bx i=aM b/\b.ok=L/\a.blk=aM _/\a.cells=b.cells/\a.ty=b.ty/\a.stp=b.stp:=λi a j o=>by
   rw[r]at j;rcases f:dw st.bx i with _|b
   ·rw[f]at j;cases j
   rw[f]at j;simp at j;subst j;have c:=by
    unfold vw at o;split at o<;>omega
   obtain⟨y,e,R,k,n,w,x⟩:=E i b f c;rw[r,f]at e;simp at e;subst e;exact⟨b,rfl,c,k,n,w,x⟩
  have d:=CM 0 d λi b j o hk=>by
   rw[bS];exact⟨(h.bx i b j o).new hk,(h.bx i b j o).blk.lt⟩
  have t:st.dt.map (LP (rz β 0 st.bx))=st.dt.map β:=by
   refine pq λi k=>?_;obtain⟨b,s,u⟩:=wF z i k;obtain⟨a,e,n,c,_⟩:=E i b s u;unfold LP;rw[e];simp[c]
  have d:=d (by rw[t];exact h.only);have H:∀i,Jj _ i=L->LP _ i=β i:=λi p=>by
   unfold Jj at p;unfold LP;rcases f:dw (rz β 0 st.bx) i with _|a
   ·rw[f]at p;cases p
   rw[f]at p
   grind
  have hk:=GA d λi a j o P C=>by
   obtain⟨b,e,c,k,n,w,x⟩:=Y i a j o;rw[jf H _ C,k,n,w];exact(h.bx i b e c).blk
  have hk:=GC hk λx D N y F G=>by
   obtain⟨i,b,k,n,rfl⟩:=yG 0 D;obtain⟨q,c,w,x,rfl⟩:=yG 0 F;rw[bS,bS];refine h.ne q i c b w k x n λe=>?_
   grind
  have hk:=GD hk (Jm h);have l:∀i a,dw _ i=aM a->a.ok=L->∃b,dw st.bx i=aM b/\b.ok=L/\a.blk=aM _/\a.cells=b.cells/\a.ty=b.ty/\a.stp=b.stp:=λi a j o=>by
   rw[sL]at j;rcases f:dw (rz β 0 st.bx) i with _|c
   ·rw[f]at j;cases j
   rw[f]at j;simp at j;subst j;exact Y i c f o
  refine⟨_,hk,⟨rfl,aX _,λ_ _ _ d _=>d,λi a j o _=>?_,λi b j=>?_,Iw⟩,⟨h.fr,λi a j o=>?_,λi q bi v s u A B J=>?_,Only.refl _ _,λ_=>rfl⟩,rfl,rfl,rfl,rfl,?_⟩
  ·obtain⟨b,e,c,n,w,x,y⟩:=l i a j o;exact⟨b,e,c,w.symm,x.symm,y.symm,λk hk=>by rw[n,(h.bx i b e c).at_ k hk]⟩
  ·refine⟨{vw _ b with sh:=(vw _ b).esc},by rw[sL,r,j];rfl,?_⟩;unfold vw;split
   ·grind
   simp
  ·obtain⟨b,e,c,n,w,x,y⟩:=l i a j o;refine⟨by rw[w,x];exact(h.bx i b e c).blk,λk hk=>abV,λhk=>by rw[n]at hk;cases hk⟩
  ·obtain⟨b,e,k,_⟩:=l i bi s A;obtain⟨c,f1,f2,_⟩:=l q v u B;exact h.ne i q b c e f1 k f2 J
  have e:∀c:List mw,I (yF c)=I c:=λc=>by
   induction c with
   | nil=>rfl
   | cons b w n=>simp[yF,n]
  have k:∀(c:List mw) n,I (rz β n c)=I c:=λc=>by
   induction c with
   | nil=>intro n;rfl
   | cons b x w=>intro n;simp[rz,w]
  simp_all
def noB(n:Nat)(s:SV):Bool:=cln (λj=>!Nat.beq j n) s
def ZX(n:Nat)(l:List SV):Bool:=jv (λj=>!Nat.beq j n) l
def RC(n:Nat):List (Nat×Nat×SV)->Bool
 | []=>L
 | p::r=>noB n p.2.2&&RC n r
def MG(n:Nat):List mw->Bool
 | []=>L
 | b::r=>(!b.ok||ZX n b.cells)&&MG n r
def GF{n}:∀{l:List _},RC n l=L->∀i p,eK l i=aM p->noB n p.2=L
 | [],_,i,p,h=>abG
 | (k,q)::r,h,i,p,hl=>by
  simp[RC]at h;simp[eK]at hl;cases b:Nat.beq k i
  ·rw[b]at hl;exact GF h.2 i p agS
  rw[b]at hl;simp at hl;subst hl;exact h.1
def GH{n}:∀{l:List mw},MG n l=L->∀i b,dw l i=aM b->b.ok=L->ZX n b.cells=L
 | c::r,h,0,b,a,o=>by grind [MG,dw]
 | c::r,h,i+1,b,a,o=>by
  simp[MG]at h;exact GH h.2 i b a o
def EB(a:Nat->Nat)(n b:Nat):Nat->Nat:=λi=>if i=n then b else a i
def CQ{β}{n b:Nat}:∀i,(!Nat.beq i n)=L->β i=EB β n b i:=λi h=>by
 unfold EB;rw[aR];rintro rfl;simp at h
section
variable {β:Nat->Nat} {st:St} {a:Act} {w w1:M}
def St.Ia(st:St)(d:Option Tmp)(t:TypeId)(z:List SV):St:=
 St.put {st with bx:=st.bx++[⟨aaf,t,z,st.ct,L,aL,aL⟩],mv:=L,ct:=st.ct+1} d (.box (I st.bx) 0)
def Ext.Ia st d t zs:Ext st (st.Ia d t zs):=by
 refine Ext.trans (t:={st with bx:=st.bx++[_],mv:=L,ct:=st.ct+1}) ⟨rfl,jW _,λ_ _ _ a _=>a,λi c h o s=>?_,λi b h=>?_,Iw⟩ (Ext.put _ _ _)
 ·rw[mD]at h
  grind
 exact⟨b,by dsimp only;rw[mD,aR (by have:=uf h;omega)];exact h,rfl,rfl,λ_ a=>a⟩
def Rep.Ia(R:Rep β st a w){d}{t}{zs}{b}(l:RC (I st.bx) st.fr=L)(m:MG (I st.bx) st.bx=L)(n:ZX (I st.bx) zs=L)
  (q:w.heap.size<=b) (j:Only [] w w1) (o:Blk w1 b t (cW β zs)) (f:CN st.bx st.dt=L):
  Rep (EB β (I st.bx) b) (st.Ia d t zs) (a.put d (.pointer (aM ⟨b,0,aaf⟩))) w1:=by
 have B:EB β (I st.bx) b (I st.bx)=b:=by unfold EB;rw[aV rfl]
 have W:∀{i c},dw st.bx i=aM c->EB β (I st.bx) b i=β i:=fun{i c} h=>by
  unfold EB;rw[aR];have:=uf h;omega
 have s:Rep (EB β (I st.bx) b) {st with bx:=st.bx++[⟨aaf,t,zs,st.ct,L,aL,aL⟩],mv:=L,ct:=st.ct+1} a w1:=by
  refine⟨ud ⟨R.ok.sz,R.ok.df,λi p y u=>?_⟩,λi c a z=>?_,λi d bi v t r w x D=>?_,?_,λh=>abG⟩
  ·rw[R.ok.at_ i p y u];congr 1;exact jX (g:=λd=>!Nat.beq d (I st.bx)) CQ _ (GF l i p y)
  ·rw[mD]at a;split at a
   ·rename_i h;simp at a;subst a;subst h;refine⟨?_,λk hk=>agF,λ_=>?_⟩
    ·rw[B];rw[<-jf (g:=λd=>!Nat.beq d (I st.bx)) (β:=β) (β':=EB β (I st.bx) b) CQ _ n];exact o
    rw[B];exact bH R.only.size q
   have e:=W a;obtain⟨h,p,k3⟩:=R.bx i c a z;refine⟨?_,λk hk=>by rw[e];exact p k hk,λhk=>by rw[e];exact k3 hk⟩;rw[e,<-jf (g:=λd=>!Nat.beq d (I st.bx)) (β:=β) (β':=EB β (I st.bx) b) CQ _ (GH m i c a z)];exact j.blk h aaV
  ·rw[mD]at t r;split at t
   ·rename_i e;split at r
    ·omega
    subst e;rw[W r];have:=(R.bx d v r x).blk.lt;omega
   split at r
   ·rename_i e;subst e;rw[W t];have:=(R.bx i bi t w).blk.lt;omega
   rw[W t,W r];exact R.ne i d bi v t r w x D
  have e:=pq λi u=>by
   obtain⟨c,a,_⟩:=wF f i u;exact W a
  rw[e];exact R.only.cn j
 have:=s.put d (.box (I st.bx) 0);rw[show val _ _=.pointer _ by
  show Value.pointer _=_;rw[B]]at this
 exact this
def St.wm(st:St)(i:Nat)(b:mw)(c:List SV):St:=
 {st with bx:=Rz st.bx i {b with cells:=c,stp:=st.ct,sh:=aL},mv:=L,dt:=(bif b.blk.isSome&&!st.dt.elem i then i::st.dt else st.dt),ct:=st.ct+1}
def Ext.wm{st}{i}{b}{cs}(h:dw st.bx i=aM b):Ext st (st.wm i b cs):=by
 refine⟨rfl,jW _,λ_ _ _ h _=>h,λj d a o s=>?_,λj c e=>?_,Iw⟩
 ·simp[St.wm]at a;rw[kJ h]at a
  grind
 simp[St.wm];rw[kJ h]
 grind
def Rep.wm(R:Rep β st a w){i}{b}{cs}(h:dw st.bx i=aM b)(o:b.ok=L)(f:Only [β i] w w1)(B:Blk w1 (β i) b.ty (cW β cs)):Rep β (st.wm i b cs) a w1:=by
 have hk:=R.bx i b h o;refine⟨R.fr,λj c d H=>?_,λj p q bl k l m n x=>?_,?_,λh=>abG⟩
 ·simp[St.wm]at d;rw[kJ h]at d;split at d
  ·rename_i e;subst e;simp at d;subst d;exact⟨B,hk.at_,hk.new⟩
  rename_i a;obtain⟨e,g,k3⟩:=R.bx j c d H;exact⟨f.blk e (by simpa using R.ne j i c b d h H o a),g,k3⟩
 ·simp[St.wm]at k l;rw[kJ h]at k l;have e:∀{j c},(if j=i then aM {b with cells:=cs,stp:=st.ct,sh:=aL}else dw st.bx j)=aM c->c.ok=L->∃a,dw st.bx j=aM a/\a.ok=L:=fun{j c} g d=>abV
  obtain⟨r,t,u⟩:=e k m;obtain⟨s,f1,f2⟩:=e l n;exact R.ne j p r s t f1 u f2 x
 show Only ((bif b.blk.isSome&&!st.dt.elem i then i::st.dt else st.dt).map β) st.w0 w1;cases h:(b.blk.isSome&&!st.dt.elem i)with
 | true=>exact R.only.cons f
 | false=>
  simp only[fS]at h;rcases h with h | h
  ·refine R.only.new f (hk.new ?_);simp_all
  refine R.only.mem f (eZ.2 ⟨i,?_,rfl⟩);simpa using h
structure Flg (l l':List mw):Prop where
 fw:∀i b,dw l' i=aM b->∃c,dw l i=aM c/\c.blk=b.blk/\c.ty=b.ty/\c.cells=b.cells/\c.stp=b.stp/\c.ok=b.ok
 bw:∀i b,dw l i=aM b->∃c,dw l' i=aM c/\c.ty=b.ty/\c.ok=b.ok/\∀k,b.blk=aM k->c.blk=aM k
def Flg.refl l:Flg l l:=⟨λi b h=>⟨b,h,rfl,rfl,rfl,rfl,rfl⟩,T8⟩
def Flg.trans{l m n}(r:Flg l m)(k:Flg m n):Flg l n:=⟨λi b q=>by
 obtain⟨c,a,e,f,g,s,t⟩:=k.fw i b q;obtain⟨d,h,j,o,p,u,v⟩:=r.fw i c a;exact⟨d,h,j.trans e,o.trans f,p.trans g,u.trans s,v.trans t⟩,λi b q=>by
 obtain⟨c,a,e,f,g⟩:=r.bw i b q;obtain⟨d,h,j,o,p⟩:=k.bw i c a;exact⟨d,h,j.trans e,o.trans f,λm w=>p m (g m w)⟩⟩
def Ext.flg{l'}(h:Flg st.bx l'):Ext st {st with bx:=l'}:=⟨rfl,aX _,λ_ _ _ h _=>h,λl b j o _=>by
 obtain⟨c,a,d,e,f,g,i⟩:=h.fw l b j;exact⟨c,a,i.trans o,f,e,g,λk hk=>by rw[<-d];exact hk⟩,h.bw,Iw⟩
def Rep.flg{l'}(h:Rep β st a w)(e:Flg st.bx l'):Rep β {st with bx:=l'} a w:=by
 refine⟨h.fr,λi b o p=>?_,λi j bi f g l m n x=>?_,h.only,h.still⟩
 ·obtain⟨c,d,a,s,t,u,q⟩:=e.fw i b o;obtain⟨v,r,k3⟩:=h.bx i c d (q.trans p);exact⟨abV,λk hk=>r k (a.trans hk),λhk=>k3 (a.trans hk)⟩
 obtain⟨c,a,_,_,_,_,b⟩:=e.fw i bi g;obtain⟨d,k,_,_,_,_,q⟩:=e.fw j f l;exact h.ne i j c d a k (b.trans m) (q.trans n) x
def bxs:SV->List Nat
 | .box i _=>[i]
 | .fn _ f c=>bxs f++bxs c
 | .agg l=>bxs l
 | .tup l=>bxs l
 | .c h t=>bxs h++bxs t
 | _=>[]
def RD:Nat->List Nat->List mw->List mw
 | 0,_,b=>b
 | _+1,[],b=>b
 | f+1,i::r,x=>match dw x i with
  | some b=>bif b.esc then RD f r x else RD f (flat bxs b.cells++r) (Rz x i {b with esc:=L,sh:=aL})
  | none=>RD f r x
def vA:∀f l x,Flg x (RD f l x)
 | 0,_,x=>Flg.refl _
 | _+1,[],x=>Flg.refl _
 | f+1,i::r,x=>by
  unfold RD;split
  ·rename_i b h;cases e:b.esc
   ·refine Flg.trans ⟨λj c a=>?_,λj c a=>?_⟩ (vA f _ _);rotate_left
    ·rw[kJ h]
     grind
    rw[kJ h]at a
    grind
   exact vA f r x
  exact vA f r x
def St.esc(st:St)(l:List SV):St:={st with bx:=RD 1000 (flat bxs l) st.bx}
def Ext.esc st l:Ext st (st.esc l):=Ext.flg (vA _ _ _)
def Rep.esc(h:Rep β st a w) l:Rep β (st.esc l) a w:=h.flg (vA _ _ _)
end
def zc(P:Program)(t:TypeId):Option (List SV):=match P.info? t with
 | some i=>(match i.zero with
  | some z=>MB z.cells.toList
  | none=>aaf)
 | none=>aaf
def acV{P}{t}{zs}(h:zc P t=aM zs) w:∃z,(zeroValue t).run P w=.ok z w/\∀a,z.cells=(cW a zs).toArray:=by
 unfold zc at h;split at h
 ·rename_i b i;split at h
  ·rename_i z c;exact⟨z,by simp[zeroValue,typeInfo,i,c],λa=>by rw[BL a h]⟩
  cases h
 cases h
def chk(st:St)(z:List SV):Bool:=RC (I st.bx) st.fr&&MG (I st.bx) st.bx&&ZX (I st.bx) z&&CN st.bx st.dt
def sM:List mw->Bool
 | []=>L
 | b::r=>(!b.ok||b.blk.isSome)&&sM r
def yH:∀{l:List mw},sM l=L->∀i b,dw l i=aM b->b.ok=L->b.blk.isSome=L
 | c::r,h,0,b,a,o=>by grind [sM,dw]
 | c::r,h,i+1,b,a,o=>by
  simp[sM]at h;exact yH h.2 i b a o
def neB(k:Nat):List mw->Prop->Prop
 | [],p=>p
 | b::r,p=>bif b.ok then b.blk.getD 0≠k/\neB k r p else neB k r p
def MH{bk}:∀{l:List mw} {p:Prop},neB bk l p->p/\∀i b,dw l i=aM b->b.ok=L->b.blk.getD 0≠bk
 | [],p,h=>⟨h,λi b hb=>agU⟩
 | c::r,p,h=>by
  rcases qH h with⟨a,h⟩ | ⟨a,h⟩
  ·obtain⟨c,d⟩:=h;obtain⟨e,f⟩:=MH d;refine⟨e,λi b hb o=>?_⟩;cases i with
   | zero=>simp[dw]at hb;subst hb;exact c
   | succ i=>exact f i b hb o
  obtain⟨c,d⟩:=MH h;refine⟨c,λi b hb o=>?_⟩;cases i with
  | zero=>simp[dw]at hb;subst hb;rw[a]at o;cases o
  | succ i=>exact d i b hb o
def xx(esc:Bool):List mw->List Nat
 | []=>[]
 | b::r=>bif b.ok&&(esc||!b.esc)then b.blk.getD 0::xx esc r else xx esc r
def qC{esc}:∀{l:List mw} {i:Nat} {b:mw},dw l i=aM b->b.ok=L->(esc||!b.esc)=L->b.blk.getD 0∈xx esc l
 | c::r,0,b,h,o,e=>by
  simp[dw]at h;subst h;simp[xx,o,e]
 | c::r,i+1,b,h,o,e=>by
  have:=qC (l:=r) (i:=i) h o e;simp[xx]
  grind
def CR(l:List Nat)(w a:M)(p:Prop):Prop:=match l with
 | []=>p
 | _=>cr l w a/\p
def vB{l}{w0 w1}{p}(h:CR l w0 w1 p):p/\cr l w0 w1:=by
 unfold CR at h;split at h
 ·exact⟨h,T2⟩
 exact⟨h.2,h.1⟩
def Uh(P:Program)(w:M)(c:Nat):List mw->(List mw->Prop)->Prop
 | [],a=>a []
 | b::d,a=>bif b.ok&&b.esc then ZN (T9 P 12 b.ty) λv=>Blk w (b.blk.getD 0) b.ty (cW β0 v)/\Uh P w c d λr=>a ({b with cells:=v,stp:=c,sh:=L}::r)
  else Uh P w c d λr=>a (b::r)
def BM{P}{w1}{ct}:∀{e:List mw} {d:List mw->Prop},Uh P w1 ct e d->∃l,d l/\(∀i a,dw l i=aM a->∃b,dw e i=aM b/\a.ok=b.ok/\a.blk=b.blk/\a.ty=b.ty/\
  ((a=b/\(b.ok&&b.esc)=aL)∨(a.stp=ct/\(∀f,cW f a.cells=cW β0 a.cells)/\Blk w1 (b.blk.getD 0) b.ty (cW β0 a.cells))))/\
  ∀i b,dw e i=aM b->∃a,dw l i=aM a/\a.ty=b.ty/\a.ok=b.ok/\∀k,b.blk=aM k->a.blk=aM k
 | [],d,h=>⟨[],h,λi a hb=>agU,λi b hb=>agU⟩
 | c::r,d,h=>by
  rcases qH h with⟨j,h⟩ | ⟨j,h⟩
  ·obtain⟨v,⟨B,h⟩,_,p⟩:=vu h;obtain⟨l,k,m,n⟩:=BM h;refine⟨_,k,λi a hb=>?_,λi b hb=>?_⟩;rotate_left
   ·cases i with
    | zero=>simp[dw]at hb;subst hb;exact⟨_,rfl,rfl,rfl,λ_ h=>h⟩
    | succ i=>exact n i b hb
   cases i with
   | zero=>
    simp[dw]at hb;subst hb;exact⟨c,rfl,rfl,rfl,rfl,.inr ⟨rfl,λf=>jf (g:=λ_=>aL) (λi h=>abG) v (p _),B⟩⟩
   | succ i=>exact m i a hb
  obtain⟨l,g,k,m⟩:=BM h;refine⟨_,g,λi a hb=>?_,λi b hb=>?_⟩;rotate_left
  ·cases i with
   | zero=>simp[dw]at hb;subst hb;exact⟨_,rfl,rfl,rfl,λ_ h=>h⟩
   | succ i=>exact m i b hb
  cases i with
  | zero=>
   simp[dw]at hb;subst hb;exact⟨c,rfl,rfl,rfl,rfl,.inl ⟨rfl,j⟩⟩
  | succ i=>exact k i a hb
def exR(P:Program):List TypeId->(List SV->Prop)->Prop
 | [],a=>a []
 | t::r,a=>ZN (T9 P 12 t) λv=>exR P r λs=>a (RA (match P.underlying t with | some d=>ow d | none=>aL) v::s)
def GI g:∀l,cln g (Gv l)=jv g l
 | []=>rfl
 | s::r=>by simp[Gv,cln,jv,GI g r]
def OH g ag {l} (h:jv g l=L):cln g (RA ag l)=L:=by
 cases ag
 ·cases l with
  | nil=>rfl
  | cons s r=>simp[jv]at h;exact h.1
 show cln g (Gv l)=L;rw[GI];exact h
def GJ{P}:∀{s:List TypeId} {a:List SV->Prop},exR P s a->∃r,a r/\∀g,jv g r=L
 | [],a,h=>⟨[],h,λ_=>rfl⟩
 | t::e,a,h=>by
  obtain⟨v,h,_,b⟩:=vu h;obtain⟨r,c,d⟩:=GJ h;exact⟨_,c,λg=>by simp[jv,OH g _ (b g),d g]⟩
def CS(r:List SV):SV:=match r with
 | [a]=>a
 | r=>.tup (Gv r)
def yI{g}{rs}(h:jv g rs=L):cln g (CS rs)=L:=by
 unfold CS;split
 ·simp only[jv,aU]at h;exact h.1
 show cln g (Gv _)=L;rw[GI];exact h
def GK(P:Program)(t:TypeId):List TypeId:=match P.underlying t with
 | some (.tuple ts)=>ts.toList
 | _=>[t]
def Ui(P:Program)(f:FuncId):Bool:=match P.funcs[f]? with
 | some f=>!(f.name== "runtime.NumGoroutine")&&f.body.isSome
 | none=>aL
def kO{P}{f}(h:Ui P f=L) args w:(callFunc f args).run P w=.ok (.enter f args) w:=by
 unfold Ui at h;split at h
 ·rename_i f a;simp at h;have b:f.body≠aaf:=abV
  have n:f.name≠ "runtime.NumGoroutine" :=abV
  simp[callFunc,a,n,b]
 cases h
def ajK(P:Program)(f:FuncId):List TypeId:=match P.funcs[f]? with
 | some f=>f.resultTypes.toList
 | none=>[]
abbrev XT:=M->M->Prop->Prop
section
variable {P:Program} {β:Nat->Nat} {st:St} {a:Act} {w w1:M}
def Rep.next(R:Rep β st a w)(s:st.mv=aL)(p:sM st.bx=L){bx'}{ct'}
  (f:∀i d,dw bx' i=aM d->d.ok=L->∃b,dw st.bx i=aM b/\b.ok=L/\d.blk=b.blk/\Blk w1 (β i) d.ty (cW β d.cells)):Rep β {st with bx:=bx',w0:=w1,ct:=ct'} a w1:=by
 have y:∀i b,dw st.bx i=aM b->b.ok=L->b.blk=aM (β i):=λi b h e=>by
  have:=yH p i b h e;rcases hk:b.blk with _|k
  ·rw[hk]at this;cases this
  rw[(R.bx i b h e).at_ k hk]
 refine⟨R.fr,λi d r q=>?_,λi j bi g l m n o x=>?_,Only.refl _ _,λ_=>rfl⟩
 ·obtain⟨b,h,e,c,a⟩:=f i d r q;exact⟨a,λk hk=>abV,λhk=>abV⟩
 obtain⟨b,h,e,_⟩:=f i bi l n;obtain⟨c,k,a,_⟩:=f j g m o;exact R.ne i j b c h k e a x
def Rep.SH(R:Rep β st a w)(d:sM st.bx=L){i}{b}(h:dw st.bx i=aM b)(c:b.ok=L):b.blk.getD 0=β i:=by
 have:=yH d i b h c;rcases hk:b.blk with _|k
 ·rw[hk]at this;cases this
 rw[(R.bx i b h c).at_ k hk];rfl
def Uj(P:Program)(X:XT)(st:St)(d:Option Tmp)(j:List TypeId)(f:FuncId)(args:List SV)(q:List aw)(a:St->Prop):Prop:=
 bif jv st.NP args&&sM st.bx then
  Calls P f (cW st.bl args++q).toArray st.w0 λe w1=>exR P j λr=>e=.returned (val β0 (CS r))/\
   CR (xx aL st.bx) st.w0 w1 (Uh P w1 st.ct st.bx λb=>X st.w0 w1 (a (St.put {st with bx:=b,w0:=w1,ct:=st.ct+1} d (CS r))))
 else False
def Uk{X}{E:M->M->Prop}(u:∀n w1 p,X n w1 p->p/\E n w1){d}{Ij}{f}{args}{qZ}{K}(h:Uj P X st d Ij f args qZ K)(o:st.mv=aL)(R:Rep β st a w):
  Calls P f (cW β args++qZ).toArray w λe q=>∃v,e=.returned v/\∃k,K k/\Ext st k/\E w q/\Rep β k (a.put d v) q:=by
 obtain⟨i,h⟩:=dU h;simp at i;rw[R.wl i.1,<-R.still o]at h;refine h.mono ?_;rintro e w1 h;obtain⟨z,⟨rfl,c⟩,Y⟩:=GJ h;obtain⟨l,S⟩:=vB c;obtain⟨x,m,y,r⟩:=BM l;obtain⟨h,s⟩:=u _ _ _ m;have ev:val β0 _=val β _:=jX (g:=λ_=>aL) (λj h=>abG) _ (yI (Y _));refine⟨_,rfl,_,h,?_,s,?_⟩
 ·refine Ext.trans (t:={st with bx:=x,w0:=w1,ct:=st.ct+1}) ⟨rfl,jW _,λ_ _ _ h _=>h,λj b e a d=>?_,r,Iw⟩ (Ext.put _ _ _)
  grind
 rw[ev];refine Rep.put (Rep.next R o i.2 λj d v t=>?_) _ _;obtain⟨b,c,l,m,f,g⟩:=y j d v;have a:b.ok=L:=by rw[<-l];exact t
 refine⟨b,c,a,m,?_⟩;have e:=R.SH i.2 c a;rcases g with⟨rfl,h⟩ | ⟨_,h,p⟩
 ·have b:=qC (esc:=aL) c a abV;rw[e]at b;exact(S _ b).trans (R.bx j d c a).blk
 rw[f,h β,<-e];exact p
def Bp(a b:List aw):List aw:=a++b
def Ul(P:Program)(X:XT)(st:St)(d:Option Tmp)(j:List TypeId)(f:FuncId)(s:List aw)(args:List SV)(q:List aw)(a:St->Prop):Prop:=
 bif jv st.NP args&&sM st.bx then
  Calls P f (Bp (Bp s (cW st.bl args)) q).toArray st.w0 λe w1=>exR P j λr=>e=.returned (val β0 (CS r))/\
   CR (xx aL st.bx) st.w0 w1 (Uh P w1 st.ct st.bx λb=>X st.w0 w1 (a (St.put {st with bx:=b,w0:=w1,ct:=st.ct+1} d (CS r))))
 else False
def Um{X}{E:M->M->Prop}(u:∀n w1 p,X n w1 p->p/\E n w1){d}{Ij}{f}{fst}{args}{qZ}{K}(h:Ul P X st d Ij f fst args qZ K)(o:st.mv=aL)(R:Rep β st a w):
  Calls P f (Bp (Bp fst (cW β args)) qZ).toArray w λe q=>∃v,e=.returned v/\∃k,K k/\Ext st k/\E w q/\Rep β k (a.put d v) q:=by
 obtain⟨i,h⟩:=dU h;simp at i;rw[R.wl i.1,<-R.still o]at h;refine h.mono ?_;rintro e w1 h;obtain⟨z,⟨rfl,c⟩,Y⟩:=GJ h;obtain⟨l,S⟩:=vB c;obtain⟨x,m,y,r⟩:=BM l;obtain⟨h,s⟩:=u _ _ _ m;have ev:val β0 _=val β _:=jX (g:=λ_=>aL) (λj h=>abG) _ (yI (Y _));refine⟨_,rfl,_,h,?_,s,?_⟩
 ·refine Ext.trans (t:={st with bx:=x,w0:=w1,ct:=st.ct+1}) ⟨rfl,jW _,λ_ _ _ h _=>h,λj b e a d=>?_,r,Iw⟩ (Ext.put _ _ _)
  grind
 rw[ev];refine Rep.put (Rep.next R o i.2 λj d v t=>?_) _ _;obtain⟨b,c,l,m,f,g⟩:=y j d v;have a:b.ok=L:=by rw[<-l];exact t
 refine⟨b,c,a,m,?_⟩;have e:=R.SH i.2 c a;rcases g with⟨rfl,h⟩ | ⟨_,h,p⟩
 ·have b:=qC (esc:=aL) c a abV;rw[e]at b;exact(S _ b).trans (R.bx j d c a).blk
 rw[f,h β,<-e];exact p
def uU(P:Program)(X:XT)(st:St)(d:Option Tmp)(j:List TypeId)(args:List SV)(r:List aw->Sem aw)(a:St->Prop):Prop:=
 bif jv st.NP args&&sM st.bx then
  exR P j λs=>∃w1,(r (cW st.bl args)).run P st.w0=.ok (val β0 (CS s)) w1/\CR (xx L st.bx) st.w0 w1 (X st.w0 w1 (a (St.put {st with w0:=w1} d (CS s))))
 else False
def OI{X}{E:M->M->Prop}(j:∀e w1 p,X e w1 p->p/\E e w1){d}{Ij}{args}{run}{K}(h:uU P X st d Ij args run K)(m:st.mv=aL)(R:Rep β st a w):
  ∃v c,(run (cW β args)).run P w=.ok v c/\∃k,K k/\Ext st k/\E w c/\Rep β k (a.put d v) c:=by
 obtain⟨b,h⟩:=dU h;simp at b;rw[R.wl b.1,<-R.still m]at h;obtain⟨s,⟨w1,r,h⟩,Y⟩:=GJ h;obtain⟨h,S⟩:=vB h;obtain⟨h,f⟩:=j _ _ _ h;have ev:val β0 _=val β _:=jX (g:=λ_=>aL) (λi h=>abG) _ (yI (Y _));refine⟨_,w1,r,_,h,?_,f,?_⟩
 ·refine Ext.trans (t:={st with w0:=w1}) ⟨rfl,aX _,λ_ _ _ h _=>h,λi a d o g=>⟨a,d,o,rfl,rfl,rfl,λ_ h=>h⟩,T8,Iw⟩ (Ext.put _ _ _)
 rw[ev];refine Rep.put (Rep.next (ct':=st.ct) R m b.2 λi a o h=>⟨a,o,h,rfl,?_⟩) _ _;have n:=qC (esc:=L) o h rfl;rw[R.SH b.2 o h]at n;exact(S _ n).trans (R.bx i a o h).blk
def Un(P:Program)(X:XT)(st:St)(d:Option Tmp)(args:List SV)(u:List aw->Sem aw)(r:SV)(a:St->Prop):Prop:=
 bif jv st.NP args&&sM st.bx&&cln (λ_=>aL) r then
  ∃w1,(u (cW st.bl args)).run P st.w0=.ok (val β0 r) w1/\CR (xx L st.bx) st.w0 w1 (X st.w0 w1 (a (St.put {st with w0:=w1} d r)))
 else False
def BN{X}{E:M->M->Prop}(j:∀e w1 p,X e w1 p->p/\E e w1){d}{args}{run}{rs}{K}(h:Un P X st d args run rs K)(m:st.mv=aL)(R:Rep β st a w):
  ∃v c,(run (cW β args)).run P w=.ok v c/\∃k,K k/\Ext st k/\E w c/\Rep β k (a.put d v) c:=by
 obtain⟨b,h⟩:=dU h;simp at b;rw[R.wl b.1.1,<-R.still m]at h;obtain⟨w1,r,h⟩:=h;obtain⟨h,S⟩:=vB h;obtain⟨h,f⟩:=j _ _ _ h;have ev:val β0 rs=val β rs:=jX (g:=λ_=>aL) (λi h=>abG) _ b.2;refine⟨_,w1,r,_,h,?_,f,?_⟩
 ·refine Ext.trans (t:={st with w0:=w1}) ⟨rfl,aX _,λ_ _ _ h _=>h,λi a d o s=>⟨a,d,o,rfl,rfl,rfl,λ_ h=>h⟩,T8,Iw⟩ (Ext.put _ _ _)
 rw[ev];refine Rep.put (Rep.next (ct':=st.ct) R m b.1.2 λi a o h=>⟨a,o,h,rfl,?_⟩) _ _;have n:=qC (esc:=L) o h rfl;rw[R.SH b.1.2 o h]at n;exact(S _ n).trans (R.bx i a o h).blk
def ZY(P:Program)(X:XT)(st:St)(d:Option Tmp)(args:List SV)(r:List aw->Sem Unit)(a:St->Prop):Prop:=
 bif jv st.NP args&&sM st.bx then
  ∃w1,(r (cW st.bl args)).run P st.w0=.ok () w1/\CR (xx L st.bx) st.w0 w1 (X st.w0 w1 (a (St.put {st with w0:=w1} d .un)))
 else False
def ZZ{X}{E:M->M->Prop}(g:∀e w1 p,X e w1 p->p/\E e w1){d}{args}{run}{K}(h:ZY P X st d args run K)(m:st.mv=aL)(R:Rep β st a w):
  ∃c,(run (cW β args)).run P w=.ok () c/\∃k,K k/\Ext st k/\E w c/\Rep β k (a.put d undef) c:=by
 obtain⟨b,h⟩:=dU h;simp at b;rw[R.wl b.1,<-R.still m]at h;obtain⟨w1,r,h⟩:=h;obtain⟨h,S⟩:=vB h;obtain⟨h,f⟩:=g _ _ _ h;refine⟨w1,r,_,h,?_,f,?_⟩
 ·refine Ext.trans (t:={st with w0:=w1}) ⟨rfl,aX _,λ_ _ _ h _=>h,λi a d o s=>⟨a,d,o,rfl,rfl,rfl,λ_ h=>h⟩,T8,Iw⟩ (Ext.put _ _ _)
 refine Rep.put (v:=.un) (Rep.next (ct':=st.ct) R m b.2 λi d a o=>⟨d,a,o,rfl,?_⟩) _;have n:=qC (esc:=L) a o rfl;rw[R.SH b.2 a o]at n;exact(S _ n).trans (R.bx i d a o).blk
end
def ug(l:List aw)(i:Nat):aw:=match l,i with
 | [],_=>undef
 | v::_,0=>v
 | _::r,i+1=>ug r i
def zp:List Nat->List aw->List (Nat×aw)
 | i::r,v::s=>(i,v)::zp r s
 | _,_=>[]
def Z0:List (Nat×SV)->List Nat
 | []=>[]
 | p::r=>p.1::Z0 r
def Uo:List (Nat×SV)->List SV
 | []=>[]
 | p::r=>p.2::Uo r
def acX β:∀l,zp (Z0 l) (cW β (Uo l))=E8 β l
 | []=>rfl
 | p::r=>by
  have:=acX β r;simp[cW]at this;simp[Z0,Uo,cW,zp,E8,this]
def ajL(P:Program)(t:TypeId):Bool:=match P.underlying t with
 | some (.pointer _)=>L
 | _=>aL
def ajM:Operand->Bool
 | .const _=>L
 | _=>aL
def ptS:SV->Bool
 | .ptr _=>L
 | .ad _=>L
 | _=>aL
def lD(P:Program):Op->Bool
 | .move _=>L
 | .assign _=>L
 | .pick _ _ _=>L
 | .binOp _ t x y _=>!(ajL P t)||ajM x||ajM y
 | .unOp _ _ _=>L
 | .extract _ _=>L
 | .build _ _=>L
 | .makeFunc _ _ _=>L
 | .makeInterface _ _=>L
 | .nilCheck _=>L
 | .fieldAddr _ _ _=>L
 | .field _ _ _=>L
 | .indexAddr _ _ _=>L
 | .load _ _=>L
 | .index _ _ _=>L
 | .slice _ _ _ _ _=>L
 | .convert s d _=>(match P.underlying s,P.underlying d with
  | some (.int _),aM (.int _)=>L
  | some .string,aM .string=>L
  | some (.slice e),aM .string=>(match P.underlying e with
   | some (.int .u8)=>L
   | _=>aL)
  | _,_=>aL)
 | .call c=>(match c.callee with
  | .builtin .len=>(match c.argTypes.toList with
   | [t]=>(match P.underlying t with
    | some (.slice _)=>L
    | some .string=>L
    | _=>aL)
   | _=>aL)
  | .builtin .cap=>L
  | .builtin .min=>L
  | .builtin .max=>L
  | _=>aL)
 | _=>aL
def CT:Op->Bool
 | .store _ _ _=>L
 | _=>aL
def ajN(P:Program)(X:XT)(st:St)(o:Oper)(b:Builtin)(t:Array TypeId)(v:List SV)(a:St->Prop):Prop:=match b with
 | .append=>uU P X st o.dst (GK P o.type) v (λl=>Builtin.append_ t o.type l.toArray) a
 | .copy=>uU P X st o.dst (GK P o.type) v (λl=>Builtin.copy_ t o.type l.toArray) a
 | .delete=>uU P X st o.dst (GK P o.type) v (λl=>Builtin.delete_ t o.type l.toArray) a
 | .clear=>uU P X st o.dst (GK P o.type) v (λl=>Builtin.clear_ t o.type l.toArray) a
 | .len=>uU P X st o.dst (GK P o.type) v (λl=>Builtin.len_ t o.type l.toArray) a
 | .unsafeSliceData=>uU P X st o.dst (GK P o.type) v (λl=>Builtin.unsafeSliceData_ t o.type l.toArray) a
 | .unsafeString=>uU P X st o.dst (GK P o.type) v (λl=>Builtin.unsafeString_ t o.type l.toArray) a
 | _=>False
def RE(f:FuncId)(args:Array aw):Sem aw:=do
 match <-callFunc f args with
 | .value v=>pure v
 | _=>stuck "extV"
def Uq{P}{f}{args}{w w1}{v}(h:(RE f args).run P w=.ok v w1):(callFunc f args).run P w=.ok (.value v) w1:=by
 unfold RE at h;rw[Sem.run_bind]at h;cases c:(callFunc f args).run P w with
 | ok n w=>
  rw[c,Result.andThen_ok]at h;cases n<;>first | (simp at h;done) | (simp at h;obtain⟨rfl,rfl⟩:=h;rfl) | (simp at h)
 | _=>rw[c]at h;simp at h
def ae5{P}{a:Act}{w w1}{v}{dst}{x}{f}{first captured}{s:List Operand}{ats}{t'}{p}{af}{g}{args}
  (b:a.eval x=.func (.func f) first.toArray captured.toArray)
  (h:first++s.map a.eval++captured=args) (c:(callFunc f args.toArray).run P w=.ok (.value v) w1):
  (execOp a.eval ⟨dst,.call ⟨.value x,s.toArray,ats⟩,t',p,af,g⟩).run P w=.ok (.value v) w1:=by
 subst h;simp only[execOp,resolve,b,Deferred.ofValue,invoke]
 grind
def ae6(P:Program)(X:XT)(st:St)(o:Oper)(f:SV)(s:List SV)(a:St->Prop):Prop:=match f with
 | .fn g b c=>bif Ez b&&Ez c&&Ui P g then fz (st.esc (pM b++s++pM c)) λst=>Uj P X st o.dst (ajK P g) g (pM b++s++pM c) [] a
  else bif Ez b&&Ez c then fz (st.esc (pM b++s++pM c)) λst=>uU P X st o.dst (ajK P g) (pM b++s++pM c) (λl=>RE g l.toArray) a else False
 | .raw v=>fz (st.esc s) λst=>∃(g:FuncId) (t cap:List aw),v.v=.func (.func g) t.toArray cap.toArray/\(∀r w,(callFunc g r).run P w=.ok (.enter g r) w)/\Ul P X st o.dst (GK P o.type) g t s cap a
 | _=>False
abbrev YT:=Option Nat->Prop->Prop
def ajO(P:Program)(X:XT)(Y:YT)(st:St)(o:Oper)(p s:SV)(v:List SV)(a:St->Prop):Prop:=match p with
 | .box i off=>cF (dw st.bx i) λb=>bif b.ok&&Nat.ble (off+I v) (I b.cells) then Y b.blk (a ((st.wm i b (spl b.cells off v)).put o.dst .un))else False
 | .ad p=>fz (st.esc v) λst=>∃(b off:Nat) (cells:List aw) (e:TypeId),p=(⟨b,off,aaf⟩)/\Blk st.w0 b e cells/\off+I v<=I cells/\
  bif jv st.NP v&&sM st.bx then neB b st.bx (∀w,Only [b] st.w0 w->Blk w b e (fQ cells off (cW st.bl v))->X st.w0 w (a (St.put {st with w0:=w} o.dst .un)))else False
 | _=>False
def ajP(P:Program)(st:St)(o:Oper)(f:SV)(v:List SV)(a:St->Prop):Prop:=match f with
 | .fn g s c=>bif Ez s&&Ez c&&Ui P g then fz (st.esc (pM s++v++pM c)) λst=>bif jv st.NP (pM s++v)&&jv st.NP (pM c)then
  a (St.put {st with df:=(g,cW st.bl (pM s++v),cW st.bl (pM c))::st.df} o.dst .un)else False else False
 | _=>False
def loud(P:Program)(X:XT)(Y:YT)(st:St)(o:Oper)(e:St->Prop):Prop:=match o.op with
 | .binOp op t x y _=>cF (st.ev x) λa=>cF (st.ev y) λb=>bif ptS a&&ptS b then fz (st.esc [a,b]) λst=>uU P X st o.dst [o.type] [a,b] (λv=>Go.binOp op t (ug v 0) (ug v 1)) e else False
 | .alloc t=>cF (zc P t) λz=>bif chk st z then e (st.Ia o.dst t z)else False
 | .box t x=>cF (st.ev x) λs=>cF (CD s) λz=>bif chk st z then e (st.Ia o.dst t z)else False
 | .store t x y=>cF (st.ev x) λp=>cF (st.ev y) λs=>cF (CD s) λv=>bif sz P t (I v) then ajO P X Y st o p s v e else False
 | .call c=>cF (st.QW c.args.toList) λv=>(match c.callee with
  | .value f=>cF (st.ev f) λa=>ae6 P X st o a v e
  | .builtin b=>fz (st.esc v) λst=>ajN P X st o b c.argTypes v e
  | _=>False)
 | .defer c=>cF (st.QW c.args.toList) λv=>(match c.callee with
  | .value f=>cF (st.ev f) λa=>ajP P st o a v e
  | _=>False)
 | .buildSlice t n ps=>cF (st.Y2 ps.toList) λl=>fz (st.esc (Uo l)) λst=>uU P X st o.dst [t] (Uo l) (λv=>Instr.buildSlice t n (zp (Z0 l) v).toArray) e
 | .makeSlice t x y=>cF (st.ev x) λa=>cF (st.ev y) λb=>fz st λst=>uU P X st o.dst [t] [a,b] (λv=>Instr.makeSlice t (ug v 0) (ug v 1)) e
 | .makeMap t aaf=>fz st λst=>uU P X st o.dst [t] [] (λ_=>Instr.makeMap t aaf) e
 | .makeMap t (aM x)=>cF (st.ev x) λa=>fz st λst=>uU P X st o.dst [t] [a] (λv=>Instr.makeMap t (aM (ug v 0))) e
 | .lookup t x i ok=>cF (st.ev x) λa=>cF (st.ev i) λb=>fz st λst=>uU P X st o.dst (GK P o.type) [a,b] (λv=>Instr.lookup t (ug v 0) (ug v 1) ok) e
 | .mapUpdate t x y z=>cF (st.ev x) λa=>cF (st.ev y) λb=>cF (st.ev z) λc=>fz (st.esc [a,b,c]) λst=>ZY P X st o.dst [a,b,c] (λv=>Instr.mapUpdate t (ug v 0) (ug v 1) (ug v 2)) e
 | .insert t x y z=>cF (st.ev x) λa=>cF (st.ev y) λb=>cF (st.ev z) λc=>fz (st.esc [a,b,c]) λst=>ZY P X st o.dst [a,b,c] (λv=>Instr.mapUpdate t (ug v 0) (ug v 1) (ug v 2)) e
 | .convert s d x=>cF (st.ev x) λa=>fz (st.esc [a]) λst=>uU P X st o.dst [d] [a] (λv=>convert s d (ug v 0)) e
 | .range t x=>cF (st.ev x) λa=>fz st λst=>∃p,Un P X st o.dst [a] (λv=>Instr.range t (ug v 0)) (.ptr p) e
 | .next x aL=>cF (st.ev x) λa=>fz st λst=>Un P X st o.dst [a] (λv=>Instr.next (ug v 0) aL o.type) (.tup (Gv [.bl aL])) e∨
  ZN [.raw,.raw] λr=>Un P X st o.dst [a] (λv=>Instr.next (ug v 0) aL o.type) (.tup (Gv (.bl L::r))) e
 | .entry x=>cF (st.ev x) λa=>fz st λst=>ZN [.raw,.raw] λr=>Un P X st o.dst [a] (λv=>Instr.entry (ug v 0)) (.tup (Gv r)) e
 | _=>False
section
variable {P:Program} {β:Nat->Nat} {st:St} {a:Act} {w w1:M} {X:XT} {Y:YT} {E:M->M->Prop} {K:St->Prop} {Q:Exit->Act->M->Prop}
abbrev Aft(E:M->M->Prop)(st:St)(b:St->Prop)(e:M)(c:Act)(w:M):Prop:=∃a d,b d/\Ext st d/\E e w/\Rep a d c w
def nJ(f:∀b w1 p,X b w1 p->p/\E b w1){o}{Ij}{args l}{run}(h:fz (st.esc l) λst=>uU P X st o.dst Ij args run K)(R:Rep β st a w)
  (x:∀v w1,(run (cW β args)).run P w=.ok v w1->(execOp a.eval o).run P w=.ok (.value v) w1):o.wp P a w (Aft E st K w) Q:=by
 obtain⟨s,c,e,j,m,_⟩:=eU h (R.esc l);obtain⟨v,n,r,d,k,g,k3,i⟩:=OI f c m j;exact AY v (x v n r) rfl ⟨β,d,k,(Ext.esc st l).trans (e.trans g),k3,i⟩
def yJ(f:∀b w1 p,X b w1 p->p/\E b w1){o}{Ij}{args}{run}(h:fz st λst=>uU P X st o.dst Ij args run K)(R:Rep β st a w)
  (x:∀v w1,(run (cW β args)).run P w=.ok v w1->(execOp a.eval o).run P w=.ok (.value v) w1):o.wp P a w (Aft E st K w) Q:=by
 obtain⟨s,c,e,j,m,_⟩:=eU h R;obtain⟨v,l,r,d,k,g,k3,i⟩:=OI f c m j;exact AY v (x v l r) rfl ⟨β,d,k,e.trans g,k3,i⟩
def Jn(f:∀b w1 p,X b w1 p->p/\E b w1){o}{args l}{run}(h:fz (st.esc l) λst=>ZY P X st o.dst args run K)(R:Rep β st a w)
  (x:∀w1,(run (cW β args)).run P w=.ok () w1->(execOp a.eval o).run P w=.ok .skip w1):o.wp P a w (Aft E st K w) Q:=by
 obtain⟨s,c,e,j,m,_⟩:=eU h (R.esc l);obtain⟨n,r,d,k,g,k3,i⟩:=ZZ f c m j;exact T1 (x n r) rfl ⟨β,d,k,(Ext.esc st l).trans (e.trans g),k3,i⟩
def OJ(f:∀w w1,Only [] w w1->E w w1){d}{t}{zs}(h:chk st zs=L)(e:K (st.Ia d t zs))(R:Rep β st a w){b}(g:w.heap.size<=b)(c:Only [] w w1)(B:Blk w1 b t (cW β zs)):
  Aft E st K w (a.put d (.pointer (aM ⟨b,0,aaf⟩))) w1:=by
 simp[chk]at h;exact⟨_,_,e,Ext.Ia _ _ _ _,f _ _ c,R.Ia h.1.1.1 h.1.1.2 h.1.2 g c B h.2⟩
def Ur(g:∀b w1 p,X b w1 p->p/\E b w1){o}{Ij}{f}{args}{qZ}{s1}(h:Uj P X s1 o.dst Ij f args qZ K)(m:s1.mv=aL)(c:Ext st s1)(R:Rep β s1 a w)
  (x:(execOp a.eval o).run P w=.ok (.enter f (cW β args++qZ).toArray) w):o.wp P a w (Aft E st K w) Q:=by
 refine Oy x ((Uk g h m R).mono ?_);rintro e l ⟨v,rfl,d,k,i,k3,j⟩;exact⟨v,_,rfl,rfl,β,d,k,c.trans i,k3,j⟩
def RF(g:∀b w1 p,X b w1 p->p/\E b w1){o}{Ij}{f}{fst}{args}{qZ}{s1}(h:Ul P X s1 o.dst Ij f fst args qZ K)(m:s1.mv=aL)(c:Ext st s1)(R:Rep β s1 a w)
  (x:(execOp a.eval o).run P w=.ok (.enter f (Bp (Bp fst (cW β args)) qZ).toArray) w):o.wp P a w (Aft E st K w) Q:=by
 refine Oy x ((Um g h m R).mono ?_);rintro e l ⟨v,rfl,d,k,i,k3,j⟩;exact⟨v,_,rfl,rfl,β,d,k,c.trans i,k3,j⟩
def Us{s}(h:ptS s=L) β:∃q,val β s=.pointer q:=by
 cases s<;>first | (cases h;done) | exact⟨_,rfl⟩
def Z1{a:Act}{dst}{op}{t ty}{x y}{t'}{p}{af}{g}{u v r}(c:∃q,u=.pointer q)(d:∃q,v=.pointer q)(e:a.eval x=u)(f:a.eval y=v){w w1}
  (b:(Go.binOp op t u v).run P w=.ok r w1):(execOp a.eval ⟨dst,.binOp op t x y ty,t',p,af,g⟩).run P w=.ok (.value r) w1:=by
 obtain⟨q,rfl⟩:=c;obtain⟨i,rfl⟩:=d;have h:eqGuard op t x y (.pointer q) (.pointer i)=pure ():=by cases op<;>rfl
 simp[execOp,e,f,h,b]
def Z2{a:Act}{dst}{x}{fn}{first c:List aw}{s:List Operand}{ats}{t'}{p}{af}{g}{args}{w}
  (b:a.eval x=.func fn first.toArray c.toArray) (h:first++s.map a.eval=args):
  (execOp a.eval ⟨dst,.defer ⟨.value x,s.toArray,ats⟩,t',p,af,g⟩).run P w=.ok (.defer {target:=.fn fn c.toArray,args:=args.toArray}) w:=by
 subst h;simp only[execOp,resolve,b,Deferred.ofValue];simp
def Ut{a:Act}{dst}{t}{x}{t'}{p}{af}{g}{u v}{w w1}(b:a.eval x=u)(h:(Instr.range t u).run P w=.ok v w1):
  (execOp a.eval ⟨dst,.range t x,t',p,af,g⟩).run P w=.ok (.value v) w1:=by
 simp[execOp,b,h]
def OK{a:Act}{dst}{x}{t'}{p}{af}{g}{u v}{w w1}(b:a.eval x=u)(h:(Instr.next u aL t').run P w=.ok v w1):
  (execOp a.eval ⟨dst,.next x aL,t',p,af,g⟩).run P w=.ok (.value v) w1:=by
 simp[execOp,b,h]
def Uu{a:Act}{dst}{x}{t'}{p}{af}{g}{u v}{w w1}(b:a.eval x=u)(h:(Instr.entry u).run P w=.ok v w1):
  (execOp a.eval ⟨dst,.entry x,t',p,af,g⟩).run P w=.ok (.value v) w1:=by
 simp[execOp,b,h]
def nK β l m:cW β (l++m)=cW β l++cW β m:=by simp[cW]
def GL(d:∀l w1 p,X l w1 p->p/\E l w1){o:Oper}(i:∀w w1,Only [] w w1->E w w1)(S:CT o.op=L->∀g k w w1 p,Y g p->(∀j,g=aM j->k=j)->Only [k] w w1->p/\E w w1)(h:loud P X Y st o K)(R:Rep β st a w):o.wp P a w (Aft E st K w) Q:=by
 obtain⟨e,op,u,p,m,r⟩:=o;unfold loud at h;dsimp only at h;split at h
 ·obtain⟨x,b,h⟩:=bL h;obtain⟨y,c,h⟩:=bL h;obtain⟨p,h⟩:=dU h;simp only[aU]at p;exact nJ d h R λv w1 a=>Z1 (Us p.1 β) (Us p.2 β) (R.ev b) (R.ev c) a
 ·obtain⟨s,k,h⟩:=bL h;obtain⟨f,h⟩:=dU h;obtain⟨z,n,p⟩:=acV k w;exact I4 n (p β) (λ_=>rfl) λb w1 c a B=>OJ i f h R c a B
 ·obtain⟨s,k,h⟩:=bL h;obtain⟨n,z,h⟩:=bL h;obtain⟨f,h⟩:=dU h;exact aeM (by rw[R.ev k];exact(zY z β).1) (λ_=>rfl) λb w1 c a B=>OJ i f h R c a B
 ·obtain⟨q,x,h⟩:=bL h;obtain⟨s,y,h⟩:=bL h;obtain⟨a,k,h⟩:=bL h;obtain⟨z,h⟩:=dU h;obtain⟨c,f⟩:=zY k β;have E:=S rfl;cases q with
  | box q off=>
   obtain⟨b,p,h⟩:=bL h;obtain⟨n,h⟩:=dU h;simp only[aU]at n;have t:=cZ n.2;refine I3 (rN z w) (R.ev x) (by rw[R.ev y];exact c) (gv β a) f (R.bx q b p n.1).blk (by rw[gv,gv];exact t) rfl rfl λw1 s B=>?_;rw[<-Jf]at B;obtain⟨h,v⟩:=E _ (β q) _ w1 _ h (λj A=>(R.bx q b p n.1).at_ j A) s;exact⟨β,_,h,(Ext.wm p).trans (Ext.put _ _ _),v,(R.wm p n.1 s B).put e .un⟩
  | ad ad=>
   simp only[ajO]at h;obtain⟨H,V,N,s,F,_⟩:=eU h (R.esc a);obtain⟨g,off,cells,T,rfl,C,J,b⟩:=V;obtain⟨A,b⟩:=dU b;simp only[aU]at A;obtain⟨b,Y⟩:=MH b;have G:=s.still F;rw[<-G,s.wl A.1]at b;rw[<-G]at C;refine I3 (rN z w) (R.ev x) (by rw[R.ev y];exact c) (gv β a) f C (by rw[gv];exact J) rfl rfl λw1 D tK=>?_;obtain⟨W,X⟩:=d _ _ _ (b w1 D tK);refine⟨β,_,W,((Ext.esc st a).trans N).trans (Ext.trans (t:={H with w0:=w1}) ⟨rfl,aX _,λ_ _ _ h _=>h,λB q p n hs=>⟨q,p,n,rfl,rfl,rfl,λ_ h=>h⟩,T8,Iw⟩ (Ext.put _ _ _)),X,?_⟩;refine Rep.put (v:=.un) (Rep.next (ct':=H.ct) s F A.2 λB q p n=>⟨q,p,n,rfl,?_⟩) _;have P:=s.SH A.2 p n;have:=Y B q p n;rw[P]at this;exact D.blk (s.bx B q p n).blk (by simpa using this)
  | _=>exact h.elim
 ·rename_i c;obtain⟨k,⟨x⟩,t⟩:=c;obtain⟨s,n,h⟩:=bL h;have B:=R.QW n;dsimp only at h;cases k with
  | value f=>
   obtain⟨c,b,h⟩:=bL h;cases c with
   | fn A y w=>
    have z:Ez y=L->Ez w=L->a.eval f=.func (.func A) (cW β (pM y)).toArray (cW β (pM w)).toArray:=λD E=>by
     rw[R.ev b];show Value.func (.func A) (sI β y).toArray (sI β w).toArray=_;rw[pc β D,pc β E]
    have C:=h;unfold ae6 at C;rcases qH C with⟨p,q⟩ | ⟨_,q⟩
    ·simp only[aU]at p;obtain⟨F,q,a,v,f,_⟩:=eU q (R.esc _);refine Ur d q f ((Ext.esc _ _).trans a) v ?_;exact IY (z p.1.1 p.1.2) (kO p.2) (by rw[B,nK,nK,bG])
    obtain⟨p,q⟩:=dU q;simp only[aU]at p;exact nJ d q R λv w1 a=>ae5 (z p.1 p.2) (by rw[B,nK,nK]) (Uq a)
   | raw v=>
    simp only[ae6]at h;obtain⟨F,⟨y,p,cap,z,A,C⟩,q,E,D,_⟩:=eU h (R.esc s);refine RF d C D ((Ext.esc _ _).trans q) E ?_;have w:a.eval f=.func (.func y) p.toArray cap.toArray:=(R.ev b).trans z;exact IY w A (by rw[B];rfl)
   | _=>exact h.elim
  | builtin b=>
   unfold ajN at h;cases b with
   | append=>exact nJ d h R λv w1 a=>zW B a
   | copy=>exact nJ d h R λv w1 a=>Cw B a
   | delete=>exact nJ d h R λv w1 a=>zX B a
   | clear=>exact nJ d h R λv w1 a=>Bn B a
   | len=>exact nJ d h R λv w1 a=>Eu B a
   | unsafeSliceData=>exact nJ d h R λv w1 a=>(by rw[<-B]at a;exact oq (λ_=>rfl) a)
   | unsafeString=>exact nJ d h R λv w1 a=>(by rw[<-B]at a;exact oq (λ_=>rfl) a)
   | _=>
    obtain⟨b,a,_⟩:=eU h (R.esc s);exact a.elim
  | _=>exact h.elim
 ·rename_i c;obtain⟨b,⟨x⟩,s⟩:=c;obtain⟨v,k,h⟩:=bL h;have B:=R.QW k;dsimp only at h;cases b with
  | value f=>
   obtain⟨c,n,h⟩:=bL h;cases c with
   | fn C A z=>
    unfold ajP at h;obtain⟨E,y⟩:=dU h;simp only[aU]at E;have N:a.eval f=.func (.func C) (cW β (pM A)).toArray (cW β (pM z)).toArray:=by
     rw[R.ev n];show Value.func (.func C) (sI β A).toArray (sI β z).toArray=_;rw[pc β E.1.1,pc β E.1.2]
    obtain⟨D,y,J,q,X,_⟩:=eU y (R.esc _);obtain⟨F,y⟩:=dU y;simp only[aU]at F;rw[q.wl F.1,q.wl F.2]at y;have V:=Z2 (P:=P) (dst:=e) (ats:=s) (t':=u) (p:=p) (af:=m) (g:=r) (w:=w) N (by rw[B,<-nK]);unfold Oper.wp;rw[V,Oper.upon_defer];have G:Rep β {D with df:=(C,cW β (pM A++v),cW β (pM z))::D.df} {a with defers:={target:=.fn (.func C) (cW β (pM z)).toArray,args:=(cW β (pM A++v)).toArray}::a.defers} w:=by
     obtain⟨f,a⟩:=q.fr;exact⟨⟨f,by rw[a];rfl⟩,q.bx,q.ne,q.only,q.still⟩
    exact⟨β,_,y,((Ext.esc _ _).trans J).trans (Ext.trans (t:={D with df:=(C,cW β (pM A++v),cW β (pM z))::D.df}) ⟨rfl,aX _,λ_ _ _ h _=>h,λam H W T Y=>⟨H,W,T,rfl,rfl,rfl,λ_ h=>h⟩,T8,⟨[_],rfl⟩⟩ (Ext.put _ _ _)),i _ _ (Only.refl _ _),G.put e .un⟩
   | _=>exact h.elim
  | _=>exact h.elim
 ·rename_i t n ps;obtain⟨f,c,b⟩:=bL h;clear h;obtain⟨ps⟩:=ps;refine nJ d b R λv w1 a=>?_;rw[acX]at a;exact Gh (R.Y2 c) a
 ·obtain⟨b,x,h⟩:=bL h;obtain⟨v,y,h⟩:=bL h;exact yJ d h R λ_ w1 a=>IW (R.ev x) (R.ev y) a
 ·exact yJ d h R λ_ w1 a=>Rq a
 ·obtain⟨b,x,h⟩:=bL h;exact yJ d h R λ_ w1 a=>Mg (R.ev x) a
 ·obtain⟨b,x,h⟩:=bL h;obtain⟨v,y,h⟩:=bL h;exact yJ d h R λ_ w1 a=>TX (R.ev x) (R.ev y) a
 ·obtain⟨c,x,h⟩:=bL h;obtain⟨v,y,h⟩:=bL h;obtain⟨z,b,h⟩:=bL h;exact Jn d h R λw1 a=>IX (R.ev x) (R.ev y) (R.ev b) a
 ·obtain⟨c,x,h⟩:=bL h;obtain⟨v,y,h⟩:=bL h;obtain⟨z,b,h⟩:=bL h;exact Jn d h R λw1 a=>TY (R.ev x) (R.ev y) (R.ev b) a
 ·obtain⟨b,x,h⟩:=bL h;exact nJ d h R λ_ w1 a=>Rs (R.ev x) a
 ·obtain⟨y,x,h⟩:=bL h;obtain⟨w,⟨q,b⟩,a,n,c,_⟩:=eU h R;obtain⟨v,z,f,k,p,s,k3,t⟩:=BN d b c n;exact AY v (Ut (R.ev x) f) rfl ⟨β,k,p,a.trans s,k3,t⟩
 ·obtain⟨f,x,h⟩:=bL h;obtain⟨s,a,b,q,c,_⟩:=eU h R;rcases a with a | a
  ·obtain⟨v,y,n,k,p,t,k3,w⟩:=BN d a c q;exact AY v (OK (R.ev x) n) rfl ⟨β,k,p,b.trans t,k3,w⟩
  obtain⟨_,a,_⟩:=vu a;obtain⟨v,y,n,k,p,t,k3,w⟩:=BN d a c q;exact AY v (OK (R.ev x) n) rfl ⟨β,k,p,b.trans t,k3,w⟩
 ·obtain⟨w,x,h⟩:=bL h;obtain⟨t,a,b,q,c,_⟩:=eU h R;obtain⟨_,a,_⟩:=vu a;obtain⟨v,y,f,k,n,p,k3,s⟩:=BN d a c q;exact AY v (Uu (R.ev x) f) rfl ⟨β,k,n,b.trans p,k3,s⟩
 exact h.elim
end
def nd(P:Program)(st:St)(o:Op):Bool:=match o with
 | .load _ x=>(match st.ev x with
  | some (.ad _)=>L
  | _=>aL)
 | .convert s _ _=>(match P.underlying s with
  | some (.slice _)=>L
  | _=>aL)
 | _=>aL
def exI(b:Bool)(st:St)(a:St->Prop):Prop:=bif b&&st.mv then fz st a else a st
def Ae{b}{st}{K}(h:exI b st K){β}{a}{w}(R:Rep β st a w):∃d,K d/\Ext st d/\Rep β d a w/\d.fr=st.fr/\d.n=st.n:=by
 rcases qH h with⟨_,h⟩ | ⟨_,h⟩
 ·obtain⟨s,a,b,c,g,e,f,_⟩:=eU h R;exact⟨s,a,b,c,e,f⟩
 exact⟨st,h,Ext.refl _,R,rfl,rfl⟩
def GM(P:Program):List Oper->Bool
 | []=>L
 | o::r=>lD P o.op&&GM P r
def MJ:List Oper->Bool
 | []=>aL
 | o::r=>mem o.op||MJ r
def X0:XT:=λ_ _ p=>p
def Y0:YT:=λ_ p=>p
def agT(P:Program)(t:TypeId):Bool:=match P.underlying t with
 | some d=>ow d
 | none=>aL
def ae8(P:Program)(o:Oper)(v:SV)(a:SV->Prop):Prop:=match o.op,v with
 | .extract _ _,.raw x=>(match T9 P 12 o.type with
  | []=>a (.raw x)
  | [.raw]=>a (.raw x)
  | ls=>ZN ls λv=>x.v=val β0 (RA (agT P o.type) v)/\a (RA (agT P o.type) v))
 | _,v=>a v
def Z3{P}{o}{v}{K}(h:ae8 P o v K):∃u,K u/\∀a,val a u=val a v:=by
 unfold ae8 at h;split at h
 ·split at h
  ·exact⟨_,h,λ_=>rfl⟩
  ·exact⟨_,h,λ_=>rfl⟩
  obtain⟨v,⟨e,h⟩,_,c⟩:=vu h;exact⟨_,h,λa=>Eq.trans (jX (g:=λ_=>aL) (λi h=>abG) _ (OH _ _ (c _))).symm e.symm⟩
 exact⟨_,h,λ_=>rfl⟩
def OL(P:Program)(st:St)(o:Oper)(a:St->Prop):Prop:=
 bif lD P o.op then exI (nd P st o.op) st λst=>pur P [] st o.op λv=>ae8 P o v λv=>a (st.put o.dst v)else loud P X0 Y0 st o a
def Bq(P:Program)(o:List Oper):Nat->List Oper->St->(St->Prop)->Prop
 | 0,_,_,_=>False
 | _+1,[],st,a=>a st
 | f+1,a::r,st,c=>match a.guard with
  | none=>OL P st a λst=>Bq P o f r st c
  | some (j,want)=>(match tst st o j with
   | some (_,.un)=>Bq P o f r (st.put a.dst .un) c
   | some (_,.bl b)=>bif b==want then OL P st a λst=>Bq P o f r st c else Bq P o f r (st.put a.dst .un) c
   | some (d,.bt t)=>bif GM P ((a::r).take (Bo o j (a::r)+1))
    then exI (MJ ((a::r).take (Bo o j (a::r)+1))) st λst=>Aa P o f [] ((a::r).take (Bo o j (a::r)+1)) st λst=>Bq P o f ((a::r).drop (Bo o j (a::r)+1)) st c
    else((t=L->Bq P o f (a::r) (st.put (aM d) (.bl L)) c)/\(t=aL->Bq P o f (a::r) (st.put (aM d) (.bl aL)) c))
   | _=>False)
section
variable {P:Program} {ops:List Oper} {Q:Exit->Act->M->Prop}
def Uv{st}{o}{rest}{K}{β}{a}{w}(h:OL P st o K)(R:Rep β st a w)(e:Region.wanted o (yielded ops.toArray a.tmps)=L)
  (g:∀b d c f,K d->Ext st d->Rep b d c f->wpList P ops.toArray Q rest c f):wpList P ops.toArray Q (o::rest) a w:=by
 rcases qH h with⟨_,h⟩ | ⟨_,h⟩
 ·obtain⟨s,k,l,j,m,n⟩:=Ae h R;obtain⟨v,i,y⟩:=MD k;obtain⟨u,i,ev⟩:=Z3 i;exact Gd _ e (y trivial β a w j _ _ _ _ _ w λ_=>rfl) rfl (g β _ _ w i (l.trans (Ext.put _ _ _)) (ev β▸j.put o.dst u))
 refine aeL e (Oper.wp_mono ?_ (GL (E:=λ_ _=>True) (λ_ _ _ h=>⟨h,trivial⟩) (λ_ _ _=>trivial) (λ_ _ _ _ _ _ h _ _=>⟨h,trivial⟩) h R))
 grind
def wG:∀{f:Nat} {l:List Oper} {st:St} {h:St->Prop},Bq P ops f l st h->∀{i:Nat->Nat} {a:Act} {g:M},Rep i st a g->
  (∀c k e w,h k->Ext st k->Rep c k e w->Q .normal e w)->wpList P ops.toArray Q l a g
 | 0,_,_,_,a,_,_,_,_,_=>a.elim
 | _+1,[],st,h,b,i,a,g,R,d=>d i st a g b (Ext.refl _) R
 | f+1,o::r,st,h,j,i,a,g,R,m=>by
  have p:Bq P ops f r _ h->Region.wanted o _=aL->wpList P ops.toArray Q _ a g:=λj n=>
   acJ n rfl (wG j (R.put o.dst .un) λc k e w a b k3=>m c k e w a ((Ext.put _ _ _).trans b) k3)
  have y:(OL P st o λst=>Bq P ops f r st h)->Region.wanted o _=L->wpList P ops.toArray Q _ a g:=λj n=>
   Uv j R n λc k e w d f k3=>wG d k3 λa uZ b u q s t=>m a uZ b u q (f.trans s) t
  unfold Bq at j;split at j
  ·rename_i a;exact y j (wn a)
  rename_i u q f;split at j
  ·rename_i d t;exact p j (zZ R f t)
  ·rename_i d b t;have n:=sK R f t (b:=b) rfl
   grind
  ·rename_i d t v;obtain⟨z,x,b,Y⟩:=CG v;rcases qH j with⟨_,j⟩ | ⟨_,j⟩
   ·generalize Bo ops u _+1=J at j;obtain⟨s,C,D,E,V,W⟩:=Ae j R;obtain⟨X,F,G,k3,H⟩:=ue C;obtain⟨e,A,B⟩:=H trivial i a g E;have:=Gy (Q:=Q) (rest:=(o::r).drop J) A (wG F B λd uZ t T N P S=>m d uZ t T N ((D.trans G).trans P) S);simp_all
   cases t
   ·exact wG (j.2 rfl) (R.set Y rfl) λc k e w a d k3=>m c k e w a ((Ext.put _ _ _).trans d) k3
   exact wG (j.1 rfl) (R.set Y rfl) λc k e w a d k3=>m c k e w a ((Ext.put _ _ _).trans d) k3
  exact j.elim
end
def JT:List Lf->Type
 | []=>M->Prop
 | l::r=>l.T->JT r
def Jo:(l:List Lf)->JT l->(List SV->M->Prop)->Prop
 | [],J,a=>∀w,J w->a [] w
 | b::r,J,a=>∀x,Jo r (J x) λv w=>a (b.sv x::v) w
def unI(k:IntKind)(s:SV):Option Int:=match sJ s with
 | some (k',n)=>bif decide (k'=k)then aM n else aaf
 | none=>aaf
def unP(bl:Nat->Nat)(s:SV):Option (Option Addr):=match s with
 | .box i o=>aM (aM ⟨bl i,o,aaf⟩)
 | s=>opn s
def unM(s:SV):Option (Option Nat):=match s with
 | .map m=>aM m
 | _=>aaf
def unR(bl:Nat->Nat)(s:SV):Option OV:=match s with
 | .raw v=>aM v
 | .fn f s c=>aM ⟨.func (.func f) (sI bl s).toArray (sI bl c).toArray,rfl⟩
 | _=>aaf
def un(bl:Nat->Nat):(l:Lf)->SV->Option l.T
 | .int k=>unI k
 | .bool=>CB
 | .str=>xI
 | .ptr=>unP bl
 | .sl=>OB
 | .map=>unM
 | .raw=>unR bl
def ajQ{bl}{l}{s}{x}(h:un bl l s=aM x) β:val β (l.sv x)=val bl s:=by
 cases l with
 | int k=>
  have h:unI k s=aM x:=h;unfold unI at h;split at h
  ·rename_i k n o;obtain⟨e,rfl⟩:=Gw h;have e:=aN e;subst e;rw[dJ o];rfl
  cases h
 | bool=>rw[oy h];rfl
 | str=>rw[jw h];rfl
 | ptr=>
  have h:unP bl s=aM x:=h;unfold unP at h;split at h
  ·injection h with h;subst h;rfl
  rw[ZO h];rfl
 | sl=>rw[lU h];rfl
 | map=>
  have h:unM s=aM x:=h;unfold unM at h;split at h
  ·injection h with h;subst h;rfl
  cases h
 | raw=>
  have h:unR bl s=aM x:=h;unfold unR at h;split at h
  ·injection h with h;subst h;rfl
  ·injection h with h;subst h;rfl
  cases h
def apJ:(l:List Lf)->(Nat->Nat)->JT l->List SV->M->Prop
 | [],_,J,[],w=>J w
 | a::r,bl,J,s::b,w=>(match un bl a s with
  | some x=>apJ r bl (J x) b w
  | none=>False)
 | _,_,_,_,_=>False
def Uw{bl}{w}:∀{l:List Lf} {J:JT l} {b:List SV} {a:List SV->M->Prop},apJ l bl J b w->Jo l J a->∃v,a v w/\I v=I l/\(∀c,cW c v=cW bl b)/\∀g,jv g v=L
 | [],J,[],a,h,k=>⟨[],k w h,rfl,λ_=>rfl,λ_=>rfl⟩
 | d::r,J,s::b,a,h,k=>by
  unfold apJ at h;split at h
  ·rename_i x m;obtain⟨v,e,f,i,j⟩:=Uw h (k x);refine⟨_,e,by simp[f],λc=>?_,λg=>by simp[jv,Lf.cln,j g]⟩;have:=i c;simp only[cW,bQ]at this⊢;rw[this,ajQ m]
  exact h.elim
 | [],_,_::_,_,h,_=>h.elim
 | _::_,_,[],_,h,_=>h.elim
inductive MI where
 | s (slot:Nat) (l:Lf)
 | a (slot:Nat) (ls:List Lf)
 | b (slot:Nat) (ls:List Lf)
def mLs:List MI->List Lf
 | []=>[]
 | .s _ l::r=>l::mLs r
 | .a _ l::r=>l++mLs r
 | .b _ l::r=>l++mLs r
def bxi(st:St)(i:Nat):Option Nat:=match st.get i with
 | some (.box j _)=>aM j
 | _=>aaf
def Ux:List SV->List SV
 | []=>[]
 | .box j o::r=>.box j o::Ux r
 | _::r=>Ux r
def CU(st:St):List MI->List SV
 | []=>[]
 | .b i _::r=>(match bxi st i with
  | some j=>(match dw st.bx j with
   | some b=>Ux b.cells++CU st r
   | none=>CU st r)
  | none=>CU st r)
 | .s i _::r=>(match st.get i with
  | some (.box j o)=>.box j o::CU st r
  | _=>CU st r)
 | _::r=>CU st r
def sO(st s:St):List MI->Option (List SV)
 | []=>aM []
 | .s i _::r=>(match s.get i,sO st s r with
  | some v,aM l=>aM (v::l)
  | _,_=>aaf)
 | .a i a::r=>(match s.get i,sO st s r with
  | some (.agg l),aM m=>bif Ez l&&Nat.beq (I (pM l)) (I a) then aM (pM l++m)else aaf
  | _,_=>aaf)
 | .b i a::r=>(match bxi st i with
  | some j=>(match dw s.bx j,sO st s r with
   | some b,aM m=>bif Nat.beq (I b.cells) (I a) then aM (b.cells++m)else aaf
   | _,_=>aaf)
  | none=>aaf)
def ML(c:Nat):List MI->List SV->List (Nat×Nat×SV)
 | .s i _::r,v::s=>(i,c,v)::ML c r s
 | .a i l::r,v=>(i,c,.agg (Gv (v.take (I l))))::ML c r (v.drop (I l))
 | .b _ l::r,v=>ML c r (v.drop (I l))
 | _,_=>[]
def MM(st:St):List MI->List SV->List mw->List mw
 | .s _ _::r,_::v,b=>MM st r v b
 | .a _ l::r,v,b=>MM st r (v.drop (I l)) b
 | .b i l::r,v,x=>(match bxi st i with
  | some j=>(match dw x j with
   | some b=>MM st r (v.drop (I l)) (Rz x j {b with cells:=v.take (I l),stp:=st.ct})
   | none=>MM st r (v.drop (I l)) x)
  | none=>MM st r (v.drop (I l)) x)
 | _,_,b=>b
def mSl:List MI->List Nat
 | []=>[]
 | .s i _::r=>i::mSl r
 | .a i _::r=>i::mSl r
 | .b _ _::r=>mSl r
def Uy(st:St):List MI->List Nat
 | []=>[]
 | .b i _::r=>(match bxi st i with
  | some j=>j::Uy st r
  | none=>Uy st r)
 | _::r=>Uy st r
def kFr(fr:List (Nat×Nat×SV)):List Nat->List (Nat×Nat×SV)
 | []=>[]
 | i::r=>match eK fr i with
  | some p=>(i,p)::kFr fr r
  | none=>kFr fr r
def oA(st:St)(kp:List Nat)(m:List MI)(v:List SV)(w:M):St:=
 {n:=st.n,fr:=ML st.ct m v++kFr st.fr kp,bx:=MM st m v st.bx,w0:=w,mv:=aL,dt:=[],ct:=st.ct+1,df:=st.df}
def Z4(st s:St)(sl:List Nat):List Nat->Bool
 | []=>L
 | i::r=>(match eK st.fr i with
  | some (k,v)=>(match eK s.fr i with
   | some (k',_)=>Nat.beq k k'&&Nat.blt k st.ct&&!sl.elem i&&cln (Jj st.bx) v
   | none=>aL)
  | none=>L)&&Z4 st s sl r
def RG(st:St)(Y:List Nat):Nat->List mw->List mw->Bool
 | _,[],_=>L
 | i,b::r,c::q=>(!b.ok||(b.blk.isSome&&(Y.elem i||(Nat.blt c.stp st.ct&&jv (Jj st.bx) b.cells))))&&RG st Y (i+1) r q
 | _,_::_,[]=>aL
def RH(st:St)(kp:List Nat) ms (J:JT (mLs ms)) (s:St):Prop:=
 bif Z4 st s (mSl ms) kp&&RG st (Uy st ms) 0 st.bx s.bx&&Nat.beq (I s.df) (I st.df) then
  cF (sO st s ms) λv=>bif jv (Jj s.bx) v then apJ _ (LP s.bx) J v s.w0 else False
 else False
def wH:∀l m i,eK (l++m) i=match eK l i with
  | some p=>aM p
  | none=>eK m i
 | [],_,_=>rfl
 | (k,p)::r,m,i=>by
  simp[eK];cases Nat.beq k i
  ·exact wH r m i
  rfl
def BO{fr}:∀{kp:List Nat} {i:Nat} {p:Nat×SV},eK (kFr fr kp) i=aM p->i∈kp/\eK fr i=aM p
 | j::r,i,p,h=>by
  unfold kFr at h;split at h
  ·rename_i q a;simp[eK]at h;cases b:Nat.beq j i
   ·rw[b]at h;obtain⟨c,d⟩:=BO abT;simp_all
   simp_all
  obtain _:=BO h;simp_all
def Jp{fr}{p}:∀{kp:List Nat} {i:Nat},i∈kp->eK fr i=aM p->eK (kFr fr kp) i=aM p
 | j::r,i,a,h=>by
  unfold kFr;cases b:Nat.beq j i
  ·have F:i∈r:=by
    rcases aY.1 a with e | e<;>simp_all
   have c:=Jp (p:=p) F h;split
   ·simp[eK,b];exact c
   exact c
  have:=dh b;subst this;rw[h];simp[eK]
def wJ{ct}:∀{m:List MI} {s:List SV} {i:Nat},(mSl m).elem i=aL->eK (ML ct m s) i=aaf
 | [],s,i,_=>rfl
 | .s j l::r,[],i,_=>rfl
 | .s j l::r,v::s,i,h=>by
  simp only[mSl,xt]at h;split at h
  ·cases h
  rename_i k;simp[ML,eK];have:Nat.beq j i=aL:=by
   cases b:Nat.beq j i<;>simp_all
  rw[this];exact wJ h
 | .a j l::r,s,i,h=>by
  simp only[mSl,xt]at h;split at h
  ·cases h
  rename_i k;simp[ML,eK];have:Nat.beq j i=aL:=by
   cases b:Nat.beq j i<;>simp_all
  rw[this];exact wJ h
 | .b j l::r,s,i,h=>by
  simp[ML];exact wJ h
def wK{ct}:∀{m:List MI} {s:List SV} {i:Nat} {p:Nat×SV},eK (ML ct m s) i=aM p->p.1=ct
 | [],s,i,p,h=>by cases s<;>cases h
 | .s j l::r,[],i,p,h=>abG
 | .s j l::r,v::s,i,p,h=>by
  simp[ML,eK]at h;cases b:Nat.beq j i
  ·rw[b]at h;exact wK abT
  rw[b]at h;simp at h;subst h;rfl
 | .a j l::r,s,i,p,h=>by
  simp[ML,eK]at h;cases b:Nat.beq j i
  ·rw[b]at h;exact wK abT
  rw[b]at h;simp at h;subst h;rfl
 | .b j l::r,s,i,p,h=>by
  simp[ML]at h;exact wK h
def jY{st}:∀m d x i b,dw x i=aM b->∃a,dw (MM st m d x) i=aM a/\a.ty=b.ty/\a.ok=b.ok/\a.blk=b.blk/\((Uy st m).elem i=aL->a=b)/\(a=b∨a.stp=st.ct)
 | [],d,x,i,b,h=>⟨b,by cases d<;>exact h,rfl,rfl,rfl,λ_=>rfl,.inl rfl⟩
 | .s j l::r,[],x,i,b,h=>⟨b,h,rfl,rfl,rfl,λ_=>rfl,.inl rfl⟩
 | .s j l::r,v::d,x,i,b,h=>jY r d x i b h
 | .a j l::r,d,x,i,b,h=>jY r _ x i b h
 | .b s l::r,d,x,i,b,h=>by
  simp only[MM,Uy];rcases hj:bxi st s with _|j
  ·exact jY r _ x i b h
  dsimp only;rcases hc:dw x j with _|c
  ·obtain⟨a,c,e,f,g,k,n⟩:=jY (st:=st) r _ x i b h;refine⟨a,c,e,f,g,λo=>k ?_,n⟩
   grind
  by_cases D:i=j
  ·subst D;rw[hc]at h;injection h with h;subst h;obtain⟨a,b,c,e,f,k,n⟩:=jY (st:=st) r _ _ i _ (by rw[kJ hc,aV rfl]);refine⟨a,b,c,e,f,λg=>?_,?_⟩
   ·simp at g
   grind
  obtain⟨a,e,f,g,k,n,o⟩:=jY (st:=st) r _ (Rz x j {c with cells:=d.take (I l),stp:=st.ct}) i b (by rw[kJ hc,aR D];exact h);refine⟨a,e,f,g,k,λp=>n ?_,o⟩
  grind
def qI{st}:∀m a b i,dw b i=aaf->dw (MM st m a b) i=aaf
 | [],a,b,i,h=>by cases a<;>exact h
 | .s j l::r,[],b,i,h=>h
 | .s j l::r,v::a,b,i,h=>qI r a b i h
 | .a j l::r,a,b,i,h=>qI r _ b i h
 | .b s l::r,a,b,i,h=>by
  simp[MM];rcases hj:bxi st s with _|j
  ·exact qI r _ b i h
  dsimp only;rcases hc:dw b j with _|c
  ·exact qI r _ b i h
  refine qI r _ _ i ?_;rw[kJ hc,aR]
  ·exact h
  rintro rfl;rw[h]at hc;cases hc
def Ext.Xn{st}{kp}{ms}{vs}{w}:Ext st (oA st kp ms vs w):=by
 refine⟨rfl,jW _,λi k v l W=>?_,λi a h o s=>?_,λi b h=>?_,Iw⟩
 ·simp[oA]at l;rw[wH]at l;split at l
  ·rename_i p b;have:=wK b;simp_all
  exact(BO l).2
 ·simp[oA]at h;rcases hn:dw st.bx i with _|b
  ·rw[qI _ _ _ _ hn]at h;cases h
  obtain⟨c,d,e,f,g,j,k⟩:=jY (st:=st) ms vs st.bx i b hn
  grind
 obtain⟨c,d,e,f,g,_⟩:=jY (st:=st) ms vs st.bx i b h;exact⟨c,d,e,f,λk hk=>by rw[g];exact hk⟩
def vg(st:St)(kp:List Nat)(m:List MI)(s:St):Prop:=Ext st s∨∃v w,Ext (oA st kp m v w) s
section
variable {st s:St} {kp:List Nat} {ms:List MI} {β:Nat->Nat} {a:Act} {w:M}
def vg.n(h:vg st kp ms s):s.n=st.n:=by
 rcases h with h | ⟨v,w,h⟩
 ·exact h.n
 exact h.n
def vg.df(h:vg st kp ms s):∃l,s.df=l++st.df:=by
 rcases h with h | ⟨v,w,h⟩
 ·exact h.df
 exact h.df
def vg.slot(h:vg st kp ms s){i k}{v v'}(c:i∈kp)(b:eK st.fr i=aM (k,v))(a:eK s.fr i=aM (k,v'))(hk:k<st.ct)(d:(mSl ms).elem i=aL):v'=v:=by
 rcases h with h | ⟨e,w,h⟩
 ·have:=h.fr i k v' a hk
  grind
 have:=h.fr i k v' a (Nat.lt_succ_of_lt hk);simp[oA]at this;rw[wH,wJ d]at this;rw[Jp c b]at this;simp_all
def vg.ps(h:vg st kp ms s){i}{b}(a:dw st.bx i=aM b):∃c,dw s.bx i=aM c/\c.ty=b.ty/\c.ok=b.ok/\∀k,b.blk=aM k->c.blk=aM k:=by
 rcases h with h | ⟨v,w,h⟩
 ·exact h.ps i b a
 obtain⟨d,e,f,g,j,_⟩:=jY (st:=st) ms v st.bx i b a;obtain⟨c,k,l,k3,m⟩:=h.ps i d e
 grind
def vg.cells(h:vg st kp ms s){i}{b c}(d:dw st.bx i=aM b)(a:dw s.bx i=aM c)(o:b.ok=L)(l:(Uy st ms).elem i=aL)(e:c.stp<st.ct):c.cells=b.cells:=by
 rcases h with h | ⟨v,w,h⟩
 ·obtain⟨g,k,j,k3,m⟩:=h.ps i b d;rw[a]at k;injection k with k;subst k;obtain⟨f,n,p,q,_⟩:=h.bx i c a (k3.trans o) e
  grind
 obtain⟨g,f,q,j,r,s,_⟩:=jY (st:=st) ms v st.bx i b d;obtain⟨p,k,t,k3,u⟩:=h.ps i g f;rw[a]at k;injection k with k;subst k;obtain⟨n,m,x,y,z,A,B⟩:=h.bx i c a (k3.trans (j.trans o)) (Nat.lt_succ_of_lt e);rw[show dw (oA st kp ms v w).bx i=dw (MM st ms v st.bx) i from rfl,f]at m
 grind
def OM{sl}:∀{kp:List Nat},Z4 st s sl kp=L->∀i∈kp,∀k v,eK st.fr i=aM (k,v)->∃a,eK s.fr i=aM (k,a)/\k<st.ct/\sl.elem i=aL/\cln (Jj st.bx) v=L
 | j::r,h,i,b,k,v,l=>by
  simp only[Z4,aU]at h;rcases aY.1 b with rfl | b
  ·have c:=h.1;rw[l]at c;dsimp only at c;split at c<;>simp_all
  exact OM h.2 i b k v l
def GN{Y5}:∀{l m:List mw} {n:Nat},RG st Y5 n l m=L->∀i b,dw l i=aM b->b.ok=L->b.blk.isSome=L/\(Y5.elem (n+i)=L∨∃c,dw m i=aM c/\c.stp<st.ct/\jv (Jj st.bx) b.cells=L)
 | b::r,[],n,h,_,_,_,_=>by simp[RG]at h
 | b::r,c::q,n,a,0,f,e,o=>by
  simp only[RG,aU,cu]at a;simp[dw]at e;subst e;rcases a.1 with d | ⟨d,h⟩
  ·simp_all
  refine⟨d,?_⟩;rcases h with h | h
  ·exact .inl h
  exact .inr ⟨c,rfl,cZ h.1,h.2⟩
 | b::r,c::q,n,h,i+1,a,d,o=>by
  simp[RG]at h;have:=GN h.2 i a d o;rwa[show n+1+i=n+(i+1) by omega]at this
def Rep.at(R:Rep β s a w){i}{v}(h:s.get i=aM v):i<s.n/\a.tmps[i]? =aM (V.val β v):=by
 unfold St.get at h;cases b:Nat.blt i s.n
 ·rw[b]at h;cases h
 rw[b]at h;rcases hl:eK s.fr i with _|p
 ·rw[hl]at h;cases h
 rw[hl]at h;simp at h;subst h;exact⟨cZ b,R.ok.at_ i p hl (cZ b)⟩
def vC{g}:∀{l m:List SV},jv g (l++m)=L->jv g l=L/\jv g m=L
 | [],m,h=>⟨rfl,h⟩
 | s::r,m,h=>by
  simp[jv]at h⊢;obtain _:=vC h.2;simp_all
def uh{γ b}{vs l m}{n}(v:V.cW γ vs=V.cW b l++V.cW b m)(h:I l=n):V.cW γ (vs.take n)=V.cW b l/\V.cW γ (vs.drop n)=V.cW b m:=by
 have a:(V.cW γ vs).take n=V.cW γ (vs.take n):=by simp[V.cW]
 have c:(V.cW γ vs).drop n=V.cW γ (vs.drop n):=by simp[V.cW]
 have d:I (V.cW b l)=n:=by rw[gv,h]
 grind
def GP(R:Rep β s a w){ct}{γ}:∀{ms:List MI} {c d:List SV},sO st s ms=aM c->jv (Jj s.bx) c=L->V.cW γ d=V.cW (LP s.bx) c->∀i p,eK (ML ct ms d) i=aM p->a.tmps[i]? =aM (V.val γ p.2)
 | [],c,d,_,_,_,i,p,h=>by cases d<;>cases h
 | .s j l::r,c,[],_,_,_,i,p,h=>abG
 | .s j l::r,c,v::d,a,b,e,i,p,h=>by
  simp[sO]at a;split at a
  ·rename_i v m g k;simp at a;subst a;simp[jv]at b;simp[V.cW]at e;simp[ML,eK]at h;cases f:Nat.beq j i
   ·rw[f]at h;exact GP R k b.2 e.2 i p abT
   rw[f]at h;simp at h;subst h;have:=dh f;subst this;rw[(R.at g).2,e.1,R.amH b.1]
  cases a
 | .a j l::r,c,d,a,b,v,i,p,h=>by
  simp[sO]at a;split at a
  ·rename_i s t o q;obtain⟨e,rfl⟩:=Gw a;simp only[aU]at e;obtain⟨g,k⟩:=vC b;rw[nK]at v;obtain⟨m,n⟩:=uh v (dh e.2);simp[ML,eK]at h;cases f:Nat.beq j i
   ·rw[f]at h;exact GP R q k n i p abT
   rw[f]at h;simp at h;subst h;have:=dh f;subst this;rw[(R.at o).2];show aM (Value.agg (sI β s).toArray)=aM (Value.agg (sI γ _).toArray);rw[uc,m,pc β e.1,R.wl g]
  cases a
 | .b j l::r,c,d,a,e,v,i,p,h=>by
  simp[sO]at a;split at a
  ·split at a
   ·rename_i b s q k;obtain⟨m,rfl⟩:=Gw a;obtain⟨n,f⟩:=vC e;rw[nK]at v;obtain⟨o,g⟩:=uh v (dh m);exact GP R k f g i p h
   cases a
  cases a
def CV(R:Rep β s a w){γ}(l:∀i b,dw st.bx i=aM b->∃c,dw s.bx i=aM c/\c.ty=b.ty/\c.ok=b.ok)(h:∀i b,dw st.bx i=aM b->b.ok=L->γ i=β i):∀{ms:List MI} {f g:List SV} {bx:List mw},sO st s ms=aM f->jv (Jj s.bx) f=L->V.cW γ g=V.cW (LP s.bx) f->
  (∀j d,dw bx j=aM d->∃b,dw st.bx j=aM b/\d.ty=b.ty/\d.ok=b.ok)->(∀j d,dw bx j=aM d->d.ok=L->Blk w (γ j) d.ty (V.cW γ d.cells)∨(Uy st ms).elem j=L)->
  ∀j d,dw (MM st ms g bx) j=aM d->d.ok=L->Blk w (γ j) d.ty (V.cW γ d.cells)
 | [],f,g,bx,_,_,_,_,c,j,d,b,o=>by
  have:MM st [] g bx=bx:=rfl;rcases c j d b o with a | a
  ·exact a
  cases a
 | .s k n::r,f,[],bx,a,e,v,b,m,j,d,c,o=>by
  simp[sO]at a;split at a
  ·simp at a;subst a;simp[V.cW]at v
  cases a
 | .s k p::r,f,v::g,bx,a,c,b,e,n,j,d,m,o=>by
  simp[sO]at a;split at a
  ·rename_i v s q k;simp at a;subst a;simp[jv,aU]at c;simp[V.cW,bQ,Cs]at b;exact CV R l h k c.2 b.2 e n j d m o
  cases a
 | .a k s::r,f,g,bx,a,e,v,b,m,j,d,c,o=>by
  simp[sO]at a;split at a
  ·rename_i y z x t;obtain⟨k,rfl⟩:=Gw a;simp only[aU]at k;have q:=dh k.2;obtain⟨u,n⟩:=vC e;rw[nK]at v;obtain⟨w,p⟩:=uh v q;exact CV R l h t n p b m j d c o
  cases a
 | .b k s::t,f,g,bx,a,r,v,n,o,j,d,m,p=>by
  simp[sO]at a;split at a
  ·rename_i q k;split at a
   ·rename_i c C x y;obtain⟨B,rfl⟩:=Gw a;obtain⟨z,u⟩:=vC r;rw[nK]at v;obtain⟨A,w⟩:=uh v (dh B);simp[MM,k]at m;rcases hn:dw bx q with _|b
    ·rw[hn]at m;refine CV R l h y u w n (λi b T e=>?_) j d m p;rcases o i b T e with c | c
     ·exact .inl c
     simp only[Uy,k,xt]at c;split at c<;>grind
    rw[hn]at m;obtain⟨E,G,H,J⟩:=n q b hn;refine CV R l h y u w (λi F D=>?_) (λi F D N=>?_) j d m p
    ·rw[kJ hn]at D
     grind
    rw[kJ hn]at D;split at D
    ·rename_i e;subst e;injection D with D;subst D;left;have q:E.ok=L:=by rw[<-J];exact N
     obtain⟨S,b,P,k3⟩:=l i E G;rw[x]at b;injection b with b;subst b;rw[h i E G q,H,<-P,A,R.wl z];exact(R.bx i c x (k3.trans q)).blk
    rename_i c;rcases o i F D N with b | b
    ·exact .inl b
    simp only[Uy,k,xt]at b;split at b<;>grind
   cases a
  cases a
def vD{J}(f:RH st kp ms J s)(R:Rep β s a w)(G:s.mv=aL)(N:vg st kp ms s){K}(F:Jo _ J K):
  ∃n,K n w/\Rep (LP st.bx) (oA st kp ms n w) a w:=by
 obtain⟨m,f⟩:=dU f;obtain⟨W,r,f⟩:=bL f;obtain⟨B,f⟩:=dU f;simp only[aU]at m;obtain⟨m,X⟩:=m;have z:s.df=st.df:=by
  obtain⟨a,l⟩:=N.df;simp_all
 rw[<-R.still G]at f;obtain⟨n,H,S,k3,T⟩:=Uw f F;have t:∀i b,dw st.bx i=aM b->∃c,dw s.bx i=aM c/\c.ty=b.ty/\c.ok=b.ok:=λi b h=>by
  obtain⟨c,a,b,g,_⟩:=N.ps h;simp_all
 have E:∀i b,dw st.bx i=aM b->b.ok=L->b.blk=aM (β i):=λi b h o=>by
  obtain⟨s,_⟩:=GN m.2 i b h o;obtain⟨c,a,q,g,p⟩:=N.ps h;rcases hk:b.blk with _|k
  ·rw[hk]at s;cases s
  rw[(R.bx i c a (g.trans o)).at_ k (p k hk)]
 have e:∀i b,dw st.bx i=aM b->b.ok=L->LP st.bx i=β i:=λi b h o=>by
  unfold LP;rw[h];dsimp only;rw[E i b h o];rfl
 have Y:∀i,Jj st.bx i=L->LP st.bx i=β i:=λi A=>by
  unfold Jj at A;cases h:dw st.bx i<;>simp_all
 have V:∀i d,dw (MM st ms n st.bx) i=aM d->d.ok=L->∃b,dw st.bx i=aM b/\b.ok=L/\d.blk=b.blk:=λi d h o=>by
  rcases hn:dw st.bx i with _|b
  ·rw[qI _ _ _ _ hn]at h;cases h
  obtain⟨a,c,g,k,p,_⟩:=jY (st:=st) ms n st.bx i b hn
  grind
 refine⟨n,H,ud ⟨R.ok.sz.trans N.n,R.ok.df.trans (bZ dfs z),λi p l A=>?_⟩,λi d h o=>?_,λi j bi C u x y D P=>?_,Only.refl _ _,λ_=>rfl⟩
 ·simp[oA]at l;rw[wH]at l;split at l
  ·rename_i q a;simp at l;subst l;exact GP R r B (k3 _) i q a
  obtain⟨a,b⟩:=BO l;obtain⟨k,v⟩:=p;obtain⟨J,c,q,s,w⟩:=OM m.1 i a k v b;have:=N.slot a b c q s;subst this;rw[R.ok.at_ i _ c (by rw[N.n];exact A)];congr 1;exact(jX (g:=Jj st.bx) Y _ w).symm
 ·have s:=CV R t e r B (k3 _) (bx:=st.bx) (λj b h=>⟨b,h,rfl,rfl⟩) (λj b h o=>by
   obtain⟨_,a⟩:=GN m.2 j b h o;rw[bS]at a;rcases a with a | ⟨c,a,p,q⟩
   ·exact .inr a
   cases l:(Uy st ms).elem j with
   | true=>exact .inr rfl
   | false=>
    left;obtain⟨J,k,v,w⟩:=t j b h;rw[a]at k;injection k with k;subst k;have:=(R.bx j c a (w.trans o)).blk;rw[e j b h o,<-v,jf (g:=Jj st.bx) Y _ q,<-N.cells h a o l p];exact this) i d h o
  obtain⟨b,u,x,y⟩:=V i d h o;refine⟨s,λk hk=>?_,λhk=>?_⟩
  ·grind
  rw[y,E i b u x]at hk;cases hk
 obtain⟨b,a,g,_⟩:=V i bi u y;obtain⟨c,f1,f2,_⟩:=V j C x D;obtain⟨d,p,_,q⟩:=t i b a;obtain⟨k,s,_,q3⟩:=t j c f1;rw[e i b a g,e j c f1 f2];exact R.ne i j d k p s (q.trans g) (q3.trans f2) P
end
def bR(S:Nat->Prop)(w a:M):Prop:=∀k,S k->k<w.heap.size->a.heap[k]? =w.heap[k]?
def bR.refl S w:bR S w w:=λ_ _ _=>rfl
def bR.only{S}{w w'}(h:Only [] w w'):bR S w w':=λk _ hk=>h.block k hk aaV
def rO(S:Nat->Prop)(k:Nat):Prop:=¬S k
def EE(P:Program)(o:List Oper)(m s:Bool)(S:Nat->Prop)(j:Nat)(w a:M):Prop:=match iL o j with
 | some b=>bif lD P b.op then a.heap=w.heap else bif m&&(s||!CT b.op)then bR S w a else True
 | none=>False
def XB(m s:Bool)(S:Nat->Prop)(o:Op):XT:=λw a p=>bif m&&(s||!CT o)then bR S w a/\p else p
def YB(m s:Bool)(S:Nat->Prop):YT:=λb p=>bif m&&s then(match b with
 | some k=>rO S k/\p
 | none=>False)else p
def ui(P:Program):Nat->List Oper->List Nat
 | _,[]=>[]
 | i,o::r=>bif lD P o.op then ui P (i+1) r else i::ui P (i+1) r
def ac0(q:Nat)(seen:List Nat):List Edge->Bool
 | []=>aL
 | e::r=>(Region.binds .any e&&(Nat.beq e.on q||seen.elem e.on))||ac0 q seen r
def Uz(q:Nat):Nat->List Nat->List Oper->List Nat
 | _,s,[]=>s
 | i,s,o::r=>bif ac0 q s o.after.toList then Uz q (i+1) (i::s) r else Uz q (i+1) s r
def YS(b:Array Bool):Nat->List Oper->List Nat
 | _,[]=>[]
 | i,_::r=>bif b.getD i L then i::YS b (i+1) r else YS b (i+1) r
def RI(D N:List Nat):List Nat->List Nat
 | []=>[]
 | j::r=>bif D.elem j||N.elem j then RI D N r else j::RI D N r
def OO(o:List Oper):List Nat->Bool
 | []=>L
 | j::r=>(match iL o j with
  | some a=>!CT a.op
  | none=>aL)&&OO o r
def Dq(o:List Oper)(q:Nat):List Nat:=(Uz q 0 [] o).reverse
def afa(P:Program)(o:List Oper)(b:Array Bool)(q:Nat):List Nat:=RI (Dq o q) (YS b 0 o) (ui P 0 o)
def afb{a:Type}:List a->Bool
 | []=>L
 | _=>aL
def okT(o:List Oper)(b:Array Bool)(q:Nat):Bool:=
 Region.noSelect o.toArray&&Region.free .any o.toArray b q&&wB .any o.toArray b&&tZ .any o.toArray q [] (Dq o q)&&(YS b 0 o).all (λk=>b.getD k L)
def Z5(st:St)(o:List Oper)(a:Oper)(y n:St->Prop):Prop:=match a.guard with
 | none=>y st
 | some (j,want)=>(match tst st o j with
  | some (_,.un)=>n st
  | some (_,.bl b)=>bif b==want then y st else n st
  | some (d,.bt t)=>((t=L->bif L==want then y (st.put (aM d) (.bl L))else n (st.put (aM d) (.bl L)))/\
   (t=aL->bif aL==want then y (st.put (aM d) (.bl aL))else n (st.put (aM d) (.bl aL))))
  | _=>False)
def ldB(P:Program)(S:Nat->Prop)(st:St)(t:TypeId)(a:SV)(c:SV->Prop):Prop:=match P.underlying t with
 | none=>False
 | some d=>(match a with
  | .box i o=>cF (dw st.bx i) λb=>bif b.ok&&b.blk.isSome&&sz P t (I ((b.cells.drop o).take (xJ P t)))&&(ow d||Nat.beq (I ((b.cells.drop o).take (xJ P t))) 1)then S (b.blk.getD 0)/\c (RA (ow d) ((b.cells.drop o).take (xJ P t)))else False
  | .ad p=>bif !st.mv&&sz P t (I (T9 P 12 t))&&(ow d||Nat.beq (I (T9 P 12 t)) 1)then S p.block/\ZN (T9 P 12 t) λv=>Cells st.w0 p (cW β0 v)/\c (RA (ow d) v)else False
  | _=>False)
def cvB(P:Program)(S:Nat->Prop)(st:St)(s d:TypeId)(a:SV)(b:SV->Prop):Prop:=match P.underlying s,P.underlying d with
 | some (.slice e),aM .string=>(match P.underlying e with
  | some (.int .u8)=>cF (OB a) λu=>bif st.mv then False else ∃l,(∀ad,u.a=aM ad->S ad.block)/\uJ st.w0 u l/\b (.str ⟨l.toArray⟩)
  | _=>False)
 | _,_=>False
def ajR(P:Program):Op->Bool
 | .load _ _=>L
 | .convert s d _=>(match P.underlying s,P.underlying d with
  | some (.slice _),aM .string=>L
  | _,_=>aL)
 | _=>aL
def cvI(P:Program):Op->Bool
 | .convert s d _=>(match P.underlying s,P.underlying d with
  | some (.int _),aM (.int _)=>L
  | some .string,aM .string=>L
  | _,_=>aL)
 | _=>aL
def cvZ(P:Program)(s d:TypeId)(a:SV)(b:SV->Prop):Prop:=match P.underlying s,P.underlying d with
 | some (.int _),aM (.int kd)=>cF (sJ a) λp=>b (.int kd (kd.wrap p.2))
 | some .string,aM .string=>cF (xI a) λu=>b (.str u)
 | _,_=>False
def qP(P:Program)(p:List Oper)(m e:Bool)(S:Nat->Prop)(c:Array Bool)(q:Nat)(o:Oper)(st:St)(b:St->Prop):Prop:=
 bif lD P o.op then
  bif cvI P o.op then(match o.op with
   | .convert s d x=>cF (st.ev x) λa=>cvZ P s d a λv=>b (st.put o.dst v)
   | _=>False)
  else bif !mem o.op||afb (afa P p c q)then exI (nd P st o.op) st λst=>pur P [] st o.op λv=>b (st.put o.dst v)
  else bif m&&(e||OO p (afa P p c q))then(match o.op with
   | .load t x=>exI (nd P st o.op) st λst=>cF (st.ev x) λa=>ldB P S st t a λv=>b (st.put o.dst v)
   | .convert s d x=>exI (nd P st o.op) st λst=>cF (st.ev x) λa=>cvB P S st s d a λv=>b (st.put o.dst v)
   | _=>False)else False
 else False
def fq(P:Program)(o:List Oper):List Nat->Option Nat
 | []=>aaf
 | i::r=>match iL o i with
  | some a=>bif lD P a.op then aM i else fq P o r
  | none=>aaf
def Jq(P:Program)(o:List Oper)(m s:Bool)(S:Nat->Prop):Nat->Array Bool->St->(St->Prop)->Prop
 | 0,b,st,a=>(match Region.ready .any o.toArray b with
  | []=>a st
  | _=>False)
 | g+1,b,st,a=>(match Region.ready .any o.toArray b with
  | []=>a st
  | i::r=>(match fq P o (i::r)with
   | some q=>cF (iL o q) λc=>bif okT o b q&&(i::r).contains q then
    Z5 st o c (λst=>qP P o m s S b q c st λst=>Jq P o m s S g (b.setIfInBounds q L) st a) (λst=>Jq P o m s S g (b.setIfInBounds q L) (st.put c.dst .un) a)else False
   | none=>(match r with
    | []=>cF (iL o i) λc=>bif lD P c.op then False else
     Z5 st o c (λst=>loud P (XB m s S c.op) (YB m s S) st c λst=>Jq P o m s S g (b.setIfInBounds i L) st a) (λst=>Jq P o m s S g (b.setIfInBounds i L) (st.put c.dst .un) a)
    | [j]=>cF (iL o i) λc=>cF (iL o j) λd=>bif lD P c.op||lD P d.op then False else
     Z5 st o c (λst=>loud P (XB m s S c.op) (YB m s S) st c λst=>Jq P o m s S g (b.setIfInBounds i L) st a) (λst=>Jq P o m s S g (b.setIfInBounds i L) (st.put c.dst .un) a)/\
     Z5 st o d (λst=>loud P (XB m s S d.op) (YB m s S) st d λst=>Jq P o m s S g (b.setIfInBounds j L) st a) (λst=>Jq P o m s S g (b.setIfInBounds j L) (st.put d.dst .un) a)
    | _=>False)))
def mbN(P:Program)(o:List Oper):Nat->List Oper->Bool
 | _,[]=>aL
 | i,a::r=>(bif ajR P a.op then(ui P 0 o).any λj=>!(Dq o i).elem j&&!(Dq o j).elem i
  else aL)||mbN P o (i+1) r
def msN(P:Program)(o:List Oper):Nat->List Oper->Bool
 | _,[]=>aL
 | i,a::r=>(bif ajR P a.op then(ui P 0 o).any λj=>!(Dq o i).elem j&&!(Dq o j).elem i&&(match iL o j with
   | some b=>CT b.op
   | none=>aL)
  else aL)||msN P o (i+1) r
section
variable {P:Program} {ops:List Oper} {mb ms:Bool} {S:Nat->Prop} {β:Nat->Nat} {a:Act} {w:M}
def CW{st}{o}{yes no}(h:Z5 st ops o yes no)(R:Rep β st a w):
  ∃s,Ext st s/\Rep β s a w/\((Region.wanted o (yielded ops.toArray a.tmps)=L/\yes s)∨(Region.wanted o (yielded ops.toArray a.tmps)=aL/\no s)):=by
 unfold Z5 at h;split at h
 ·rename_i g;exact⟨st,Ext.refl _,R,.inl ⟨wn g,h⟩⟩
 rename_i j w g;split at h
 ·rename_i d t;exact⟨st,Ext.refl _,R,.inr ⟨zZ R g t,h⟩⟩
 ·rename_i d b t;have a:=sK R g t (b:=b) rfl;rcases qH h with⟨e,h⟩ | ⟨e,h⟩
  ·exact⟨st,Ext.refl _,R,.inl ⟨a.trans e,h⟩⟩
  exact⟨st,Ext.refl _,R,.inr ⟨a.trans e,h⟩⟩
 ·rename_i d t a;obtain⟨o,e,c,Y⟩:=CG a;have f:=sK R g a (b:=t) rfl;cases t
  ·refine⟨_,Ext.put _ _ (.bl aL),R.set Y rfl,?_⟩
   grind
  refine⟨_,Ext.put _ _ (.bl L),R.set Y rfl,?_⟩
  grind
 exact h.elim
def MN{st:St}{d}{t}{x}{l}{ad}{w'}(c:P.underlying t=aM d)(h:sz P t (I l)=L)(o:ow d=L∨Nat.beq (I l) 1=L)
  (b:a.eval x=.pointer (aM ad)) (C:Cells w' ad (cW β l)) dst t' p af g:
  (execOp a.eval ⟨dst,.load t x,t',p,af,g⟩).run P w'=.ok (.value (val β (RA (ow d) l))) w':=by
 rcases o with u | o
 ·rw[ry u];have:=mL (P:=P) c w';rw[u]at this;exact wA this (rN h w') (gv β l) b C
 cases u:ow d
 ·obtain⟨s,rfl⟩:=CF o;have:=mL (P:=P) c w';rw[u]at this;exact Gf this b (Cells.one C)
 have e:=ry u β l;rw[u]at e;rw[e];have:=mL (P:=P) c w';rw[u]at this;exact wA this (rN h w') (gv β l) b C
def xK:∀{l:List Oper} {i j:Nat} {o:Oper},iL l j=aM o->lD P o.op=aL->i+j∈ui P i l
 | [],_,_,_,h,_=>abG
 | c::r,i,0,o,h,p=>by
  simp[iL]at h;subst h;simp[ui,p]
 | c::r,i,j+1,o,h,p=>by
  have:=xK (l:=r) (i:=i+1) (j:=j) h p;rw[show i+1+j=i+(j+1) by omega]at this;simp[ui]
  grind
def yK{D N}:∀{l:List Nat} {j:Nat},j∈l->j∉D->j∉N->j∈RI D N l
 | c::r,j,h,a,b=>by
  simp only[RI];rcases aY.1 h with rfl | h
  ·grind
  cases(D.elem c||N.elem c)with
  | true=>exact yK h a b
  | false=>exact dQ _ (yK h a b)
def Jr:∀{l:List Nat} {j:Nat} {o:Oper},OO ops l=L->j∈l->iL ops j=aM o->CT o.op=aL
 | [],j,o,_,h,_=>by cases h
 | c::r,j,o,a,h,b=>by
  simp[OO]at a;rcases aY.1 h with d | h
  ·simp_all
  exact Jr a.2 h b
def Sta(P:Program)(o:List Oper)(m s:Bool)(S:Nat->Prop)(D N:List Nat)(F:M->Prop):Prop:=∀j w a,j∉D->j∉N->F w->EE P o m s S j w a->F a
def ac1{bO}{q}{o}{st}{K}(h:qP P ops mb ms S bO q o st K)(R:Rep β st a w):
  ∃(v:aw) (i:St) (F:M->Prop),K i/\Ext st i/\Rep β i (a.put o.dst v) w/\F w/\Sta P ops mb ms S (Dq ops q) (YS bO 0 ops) F/\lD P o.op=L/\∀f,F f->(execOp a.eval o).run P f=.ok (.value v) f:=by
 rcases qH h with⟨g,h⟩ | ⟨_,h⟩
 case inr=>exact h.elim
 rcases qH h with⟨_,h⟩ | ⟨_,h⟩
 ·obtain⟨t,op,c,p,a,b⟩:=o;cases op with
  | convert s d x=>
   dsimp only at h;obtain⟨l,j,e⟩:=bL h;unfold cvZ at e;split at e
   ·rename_i s kd d m;obtain⟨⟨k,n⟩,h,e⟩:=bL e;exact⟨_,_,λ_=>True,e,Ext.put _ _ _,R.put _ _,trivial,λ_ _ _ _ _ _ _=>trivial,g,λf _=>E3 (run_underlying d f) (run_underlying m f) ((R.ev j).trans (dJ h β))⟩
   ·rename_i d k;obtain⟨u,h,e⟩:=bL e;exact⟨_,_,λ_=>True,e,Ext.put _ _ _,R.put _ _,trivial,λ_ _ _ _ _ _ _=>trivial,g,λf _=>E4 (run_underlying d f) (run_underlying k f) ((R.ev j).trans (jw h β))⟩
   exact e.elim
  | _=>exact h.elim
 rcases qH h with⟨l,h⟩ | ⟨l,h⟩
 ·obtain⟨t,k,c,b,_⟩:=Ae h R;obtain⟨v,d,y⟩:=MD k;have y:=y trivial β a w b;obtain⟨s,op,u,p,n,r⟩:=o;cases m:mem op
  ·exact⟨val β v,_,λ_=>True,d,c.trans (Ext.put _ _ _),b.put _ v,trivial,λ_ _ _ _ _ _ _=>trivial,g,λf _=>y _ _ _ _ _ f λe=>by rw[m]at e;cases e⟩
  have a:=by simpa[m]using l
  refine⟨val β v,_,λf=>f.heap=w.heap,d,c.trans (Ext.put _ _ _),b.put _ v,rfl,λp x z D N o h=>?_,g,λf o=>y _ _ _ _ _ f λ_=>o⟩;unfold EE at h;split at h
  ·rename_i w v;rcases qH h with⟨_,e⟩ | ⟨e,_⟩
   ·exact e.trans o
   have:=yK (by have:=xK (i:=0) v e;rwa[bS]at this) D N;unfold afa at a;revert a this;generalize RI (Dq ops q) (YS bO 0 ops) (ui P 0 ops)=A;intro a this;cases A with
   | nil=>cases this
   | cons=>cases a
  exact h.elim
 obtain⟨m,h⟩:=dU h;simp only[aU]at m;obtain⟨r,op,z,p,y,u⟩:=o;have n:∀F:M->Prop,∀k:Nat,S k->(∀w a:M,F w->a.heap[k]? =w.heap[k]? ->F a)->(∀w,F w->k<w.heap.size)->Sta P ops mb ms S (Dq ops q) (YS bO 0 ops) F:=by
  intro F k hk d c o w a D N b h;unfold EE at h;split at h
  ·rename_i q p;rcases qH h with⟨_,e⟩ | ⟨e,h⟩
   ·exact d w a b (by rw[e])
   have:=yK (by have:=xK (i:=0) p e;rwa[bS]at this) D N;have s:(ms||!CT q.op)=L:=by
    rcases cu _ _▸m.2 with e | e
    ·rw[e];rfl
    rw[Jr e this p,EZ,oV]
   rw[m.1,s]at h;exact d w a b (h k hk (c _ b))
  exact h.elim
 cases op with
 | load t x=>
  dsimp only at h;obtain⟨A,c,o,q,_⟩:=Ae h R;obtain⟨s,p,c⟩:=bL c;unfold ldB at c;split at c
  ·exact c.elim
  rename_i d x;split at c
  ·rename_i j off;obtain⟨b,G,c⟩:=bL c;obtain⟨B,S,D⟩:=dU c;simp only[aU,cu]at B;obtain⟨⟨⟨H,T⟩,v⟩,E⟩:=B;have h:=q.bx j b G H;have C:=h.blk;have d:b.blk.getD 0=β j:=by
    rcases hk:b.blk with _|k
    ·rw[hk]at T;cases T
    rw[h.at_ k hk];rfl
   rw[d]at S;have N:=q.ev p;refine⟨_,_,λf=>Blk f _ b.ty _,D,o.trans (Ext.put _ _ _),q.put _ _,C,n _ _ S (λw a J e=>by unfold Blk at J⊢;rw[e];exact J) (λw J=>J.lt),g,λf J=>?_⟩;generalize W:(b.cells.drop off).take (xJ P t)=X at*
   have V:Cells f ⟨β j,off,aaf⟩ (cW β X):=J.H9 off _ (by
    rw[gv,<-W];simp only[cW,lC,zQ];rw[ch,sF];simp only[cG,bJ];omega)
   exact MN (st:=st) x v E N V _ _ _ _ _
  ·rename_i ad;obtain⟨D,S,H⟩:=dU c;simp only[aU,cu,dr]at D;obtain⟨⟨J,d⟩,t⟩:=D;obtain⟨B,⟨b,C⟩,G,Y⟩:=vu H;rw[<-q.still J]at b;have E:∀f,Cells f ad _->Cells f ad (cW β B):=λf h=>by
    rw[jf (β:=β) (β':=β0) (g:=λ_=>aL) (λj h=>abG) B (Y _)];exact h
   rw[<-G]at d t;by_cases k:cW β0 B=[]
   ·refine⟨_,_,λ_=>True,C,o.trans (Ext.put _ _ _),q.put _ _,trivial,λ_ _ _ _ _ _ _=>trivial,g,λf _=>?_⟩;exact MN (st:=st) x d t (q.ev p) (E f (by rw[k];intro e v h;simp at h)) _ _ _ _ _
   exact⟨_,_,λf=>Cells f ad _,C,o.trans (Ext.put _ _ _),q.put _ _,b,n _ ad.block S (λw a b e=>b.keep e) (λw b=>b.lt' k),g,λf b=>MN (st:=st) x d t (q.ev p) (E f b) _ _ _ _ _⟩
  exact c.elim
 | convert s d x=>
  dsimp only at h;obtain⟨p,b,k,q,_⟩:=Ae h R;obtain⟨t,o,b⟩:=bL b;unfold cvB at b;split at b
  ·rename_i e h d;split at b
   ·rename_i x;obtain⟨A,v,b⟩:=bL b;cases s:p.mv
    ·rw[s]at b;obtain⟨C,S,D,G⟩:=b;rw[<-(q.still s)]at D;refine⟨_,_,λf=>uJ f A C,G,k.trans (Ext.put _ _ _),q.put _ _,D,?_,g,λf E=>Cx h x d ((q.ev o).trans (lU v β)) E⟩;by_cases B:C=[]
     ·subst B;exact λH w a _ _ c _=>⟨c.1,λe=>absurd rfl e⟩
     obtain⟨ad,J,_⟩:=D.2 B;refine n _ ad.block (S ad J) (λw a H e=>⟨H.1,λN=>?_⟩) (λw H=>?_)
     ·obtain⟨X,c,P⟩:=H.2 N;rw[J]at c;injection c with c;subst c;exact⟨ad,J,P.keep e⟩
     obtain⟨X,e,P⟩:=H.2 B;rw[J]at e;injection e with e;subst e;exact P.lt' (by cases C with
      | nil=>exact absurd rfl B
      | cons c C=>simp)
    rw[s]at b;exact b.elim
   exact b.elim
  exact b.elim
 | _=>exact h.elim
def uj{j}{o}(h:iL ops j=aM o) w:EE P ops mb ms S j w w:=by
 unfold EE;rw[h];dsimp only;cases lD P o.op
 ·cases(mb&&_)with
  | true=>exact bR.refl _ _
  | false=>exact trivial
 rfl
def Js{Q}{j}{o}{st}{K}(g:iL ops j=aM o)(i:lD P o.op=aL)(e:loud P (XB mb ms S o.op) (YB mb ms S) st o K)(R:Rep β st a w):o.wp P a w (Aft (EE P ops mb ms S j) st K w) Q:=by
 have h:EE P ops mb ms S j=λw f=>bif mb&&(ms||!CT o.op)then bR S w f else True:=by
  unfold EE;simp_all
 refine GL (λl c p x=>?_) (λw c b=>?_) (λs d k w c p y hk b=>?_) e R
 ·rw[h];unfold XB at x
  grind
 ·rw[h];cases(mb&&_)with
  | true=>exact bR.only b
  | false=>exact trivial
 rw[h];rw[s,Bool.not_true,IV];unfold YB at y;cases a:(mb&&ms)with
 | true=>
  rw[a]at y;rcases d with _|j
  ·exact y.elim
  refine⟨y.2,λq k W=>b.block q W ?_⟩;have:=hk j rfl;subst this;simp;rintro rfl;exact y.1 k
 | false=>rw[a]at y;exact⟨y,trivial⟩
def vE{Q}(h:∀c a w,¬Q (.panic c) a w):∀{g:Nat} {e:Array Bool} {st:St} {i:St->Prop} {β:Nat->Nat} {a:Act} {w:M},Jq P ops mb ms S g e st i->Rep β st a w->
  (∀f k d b,i k->Ext st k->Rep f k d b->Q .normal d b)->gf P .any ops.toArray Q (EE P ops mb ms S) g e a w
 | 0,e,st,i,β,a,w,c,R,j=>by
  unfold Jq at c;split at c
  ·rename_i r;exact⟨r,j β st a w c (Ext.refl _) R⟩
  exact c.elim
 | g+1,e,st,i,β,a,w,j,R,m=>by
  have n:∀{l:Nat} {o:Oper},iL ops l=aM o->lD P o.op=aL->
    Z5 st ops o (λst=>loud P (XB mb ms S o.op) (YB mb ms S) st o λst=>Jq P ops mb ms S g (e.setIfInBounds l L) st i) (λst=>Jq P ops mb ms S g (e.setIfInBounds l L) (st.put o.dst .un) i)->
    if Region.wanted o (yielded ops.toArray a.tmps)then o.wp P a w (λd b=>EE P ops mb ms S l w b/\gf P .any ops.toArray Q (EE P ops mb ms S) g (e.setIfInBounds l L) d b) Q∨(o.asks P a w/\LetsOut Q)
    else(λd b=>EE P ops mb ms S l w b/\gf P .any ops.toArray Q (EE P ops mb ms S) g (e.setIfInBounds l L) d b) (a.put o.dst undef) w:=by
   intro l o r u j;obtain⟨s,q,t,c⟩:=CW j R;rcases c with⟨p,c⟩ | ⟨p,c⟩
   ·rw[aV p];refine .inl (Oper.wp_mono ?_ (Js r u c t));rintro d b ⟨f,k,v,w,k3,x⟩;exact⟨k3,vE h v x λa uZ s B y z A=>m a uZ s B y ((q.trans w).trans z) A⟩
   rw[aR (by simp[p])];exact⟨uj r w,vE h c (t.put o.dst .un) λa uZ s z v x y=>m a uZ s z v ((q.trans (Ext.put _ _ _)).trans x) y⟩
  unfold Jq at j;split at j
  ·rename_i r;exact aeO r (m β st a w j (Ext.refl _) R)
  rename_i p t r;split at j
  ·rename_i q J;obtain⟨o,x,j⟩:=bL j;obtain⟨G,j⟩:=dU j;simp only[aU,okT]at G;obtain⟨⟨⟨⟨⟨z,A⟩,B⟩,C⟩,D⟩,E⟩:=G;obtain⟨s,F,H,u⟩:=CW j R;rcases u with⟨y,u⟩ | ⟨y,u⟩
   ·obtain⟨v,s2,T,Y,k2,k3,k4,k5,k6,k7⟩:=ac1 u H;have W:∀s,T s->EE P ops mb ms S q s s:=λs _=>uj x s;exact Ms q _ _ v T x z A (by rw[r];exact E) B C D (λc a w X=>(h _ _ _ X).elim) k5 W k4 (acK y k7) rfl
     (vE h Y k3 λN uZ V w2 m1 m2 m3=>m N uZ V w2 m1 ((F.trans k2).trans m2) m3)
   exact Ms q _ _ undef _ x z A (by rw[r];exact E) B C D (λc a w s=>(h _ _ _ s).elim) (λ_ _ _ _ _ _ _=>trivial) (λv _=>uj x v) trivial (aeP y) rfl
    (vE h u (H.put o.dst .un) λa uZ c P q w N=>m a uZ c P q ((F.trans (Ext.put _ _ _)).trans w) N)
  split at j
  ·obtain⟨o,a,j⟩:=bL j;rcases qH j with⟨_,j⟩ | ⟨c,j⟩
   ·exact j.elim
   obtain⟨s,v,x,q⟩:=CW j R;rcases q with⟨u,q⟩ | ⟨u,q⟩
   ·refine ajA p a r u (Oper.wp_mono ?_ (Js a c q x));rintro d b ⟨f,k,y,z,k3,A⟩;exact⟨k3,vE h y A λs uZ w E B C D=>m s uZ w E B ((v.trans z).trans C) D⟩
   exact ZK p a r u (uj a w) rfl (vE h q (x.put o.dst .un) λs uZ y C z A B=>m s uZ y C z ((v.trans (Ext.put _ _ _)).trans A) B)
  ·rename_i l _;obtain⟨o,c,j⟩:=bL j;obtain⟨q,T,j⟩:=bL j;rcases qH j with⟨_,j⟩ | ⟨a,j⟩
   ·exact j.elim
   simp at a;exact ajB p l c T r (n c a.1 j.1) (n T a.2 j.2)
  exact j.elim
end
def lw(s w a:M):Prop:=w.heap.size<=a.heap.size/\∀k,s.heap.size<=k->k<w.heap.size->a.heap[k]? =w.heap[k]?
def yL(mk:List (Nat×Nat))(b:Nat):Prop:=∀p∈mk,b<p.1∨p.2<=b
def lw.only{bs}{ws w w'}(h:Only bs w w')(d:∀b∈bs,b<ws.heap.size∨w.heap.size<=b):lw ws w w':=
 ⟨h.size,λk c a=>h.block k a λhk=>abV⟩
def lw.Bg{ws w w'}(h:Only [] w w'):lw ws w w':=lw.only h aaV
def yL.one{m n b}{r}(h:yL ((m,n)::r) b):b<m∨n<=b:=h _ eY
structure LZ where
 z:Nat
 d:Nat
 t:TypeId
 zs:List SV
def xL(P:Program)(z:Nat)(o:Oper):Option LZ:=match o.op,o.dst,o.guard with
 | .alloc t,aM d,aaf=>(match zc P t with
  | some s=>bif afb o.after.toList&&jv (λ_=>aL) s then aM ⟨z,d,t,s⟩else aaf
  | none=>aaf)
 | _,_,_=>aaf
def mZ(P:Program):Nat->List Oper->List LZ
 | _,[]=>[]
 | i,o::r=>match xL P i o with
  | some p=>p::mZ P (i+1) r
  | none=>mZ P (i+1) r
def qo:List LZ->List Nat
 | []=>[]
 | p::r=>p.z::qo r
def zSl:List LZ->List Nat
 | []=>[]
 | p::r=>p.d::zSl r
def Jt(z d:Nat):Nat->List Oper->Bool
 | _,[]=>L
 | i,o::r=>(Nat.beq i z||(match o.dst with
  | some e=>!Nat.beq e d
  | none=>L))&&Jt z d (i+1) r
def zOk(o:List Oper):List LZ->Bool
 | []=>L
 | p::r=>Jt p.z p.d 0 o&&zOk o r
def UA{α}:∀{l:List α},afb l=L->l=[]
 | [],_=>rfl
def oB{P}{z}{o}{p}(h:xL P z o=aM p):p.z=z/\o.op=.alloc p.t/\o.dst=aM p.d/\o.guard=aaf/\o.after.toList=[]/\zc P p.t=aM p.zs/\jv (λ_=>aL) p.zs=L:=by
 unfold xL at h;split at h
 ·rename_i t d a b c;split at h
  ·rename_i s z;obtain⟨d,rfl⟩:=Gw h;simp at d;exact⟨rfl,a,b,c,UA d.1,z,d.2⟩
  cases h
 cases h
def qp{Z}{z}:z∈qo Z↔∃p∈Z,p.z=z:=by
 induction Z with
 | nil=>simp[qo]
 | cons p r i=>simp[qo,i,eq_comm (a:=z)]
def CX{P}:∀{l:List Oper} {i:Nat} {p:LZ},p∈mZ P i l->∃j o,p.z=i+j/\iL l j=aM o/\xL P p.z o=aM p
 | [],i,p,h=>abG
 | o::r,i,p,h=>by
  have t:p∈mZ P (i+1) r->∃j a,p.z=i+j/\iL (o::r) j=aM a/\xL P p.z a=aM p:=λh=>by
   obtain⟨j,a,d,b,c⟩:=CX h;exact⟨j+1,a,J,b,c⟩
  unfold mZ at h;split at h
  ·rename_i q b;rcases aY.1 h with rfl | h
   ·have:=(oB b).1;exact⟨0,o,this,rfl,by rw[this];exact b⟩
   exact t h
  exact t h
def CY{P}:∀{l:List Oper} {i:Nat},(qo (mZ P i l)).Nodup
 | [],i=>by simp[mZ,qo]
 | o::r,i=>by
  unfold mZ;split
  ·rename_i q a;have e:=(oB a).1;simp[qo];refine⟨λm=>?_,CY⟩;obtain⟨p,h,b⟩:=qp.1 m;obtain _:=CX h;omega
  exact CY
def UB{z d}:∀{l:List Oper} {i j:Nat} {o:Oper},Jt z d i l=L->iL l j=aM o->i+j≠z->o.dst≠aM d:=by
 intro l
 induction l with
 | nil=>intro i j o _ h;cases h
 | cons c r b=>
  intro i j o h a z;simp only[Jt,aU,cu]at h;cases j with
  | zero=>
   simp[iL]at a;intro e;simp_all
  | succ j=>exact b (i:=i+1) (j:=j) h.2 a J
def UC{ops}:∀{a:List LZ},zOk ops a=L->∀p∈a,Jt p.z p.d 0 ops=L
 | q::r,h,p,b=>by
  simp[zOk]at h;rcases aY.1 b with rfl | b
  ·exact h.1
  exact UC h.2 p b
def fA(l:Array Bool):List Nat->Array Bool
 | []=>l
 | z::r=>fA (l.setIfInBounds z L) r
def Ju(l:Array Bool) i j:(l.setIfInBounds i L).setIfInBounds j L=(l.setIfInBounds j L).setIfInBounds i L:=by
 by_cases h:i=j
 ·subst h;rfl
 exact Array.setIfInBounds_comm _ _ h
def qJ:∀{D:List Nat} {l:Array Bool} {z:Nat},fA (l.setIfInBounds z L) D=(fA l D).setIfInBounds z L
 | [],_,_=>rfl
 | d::r,l,z=>by simp[fA,Ju,qJ]
def Jv{D E}(h:D.Perm E):∀l,fA l D=fA l E:=by
 induction h with
 | nil=>intro l;rfl
 | cons x _ i=>intro l;exact i _
 | swap x y r=>intro l;simp[fA];rw[Ju]
 | trans _ _ a b=>intro l;exact(a l).trans (b l)
def sP:∀{D:List Nat} {l:Array Bool} {k:Nat},(fA l D).getD k aL=L↔l.getD k aL=L∨(k∈D/\k<l.size)
 | [],l,k=>by simp[fA]
 | d::r,l,k=>by
  simp only[fA];rw[sP];by_cases h:d=k
  ·subst h;by_cases s:d<l.size
   ·simp[s]
   simp[s]
  simp[Rn h,Ne.symm h]
def qK:∀{D:List Nat} {l:Array Bool} {k:Nat},(fA l D).getD k L=L↔l.getD k L=L∨k∈D
 | [],l,k=>by simp[fA]
 | d::r,l,k=>by
  simp only[fA];rw[qK];by_cases h:d=k
  ·simp_all
  simp[Rn h,Ne.symm h]
def EC(i:List Nat):List Nat->List Nat
 | []=>[]
 | j::r=>bif i.elem j then EC i r else j::EC i r
def sQ{Zi}:∀{l:List Nat} {j:Nat},j∈EC Zi l↔j∈l/\j∉Zi
 | [],j=>by simp[EC]
 | c::r,j=>by
  simp only[EC];cases h:Zi.elem c
  ·simp[sQ]
   grind
  simp only[cond_true,sQ,aY]
  grind
def OP(i R:List Nat):List Nat->Bool
 | []=>L
 | j::r=>(R.elem j&&!i.elem j)&&OP i R r
def Jw{Zi R}:∀{l:List Nat},OP Zi R l=L->∀j∈l,j∈R/\j∉Zi
 | c::r,a,j,h=>by
  simp[OP]at a;rcases aY.1 h with rfl | h
  ·grind
  exact Jw a.2 j h
def yM(l:Array Bool):List Nat->Bool
 | []=>L
 | z::r=>!l.getD z L&&yM l r
def A2{l}:∀{i:List Nat},yM l i=L->∀z∈i,l.getD z L=aL
 | c::r,h,z,a=>by
  simp only[yM,aU,dr]at h;rcases aY.1 a with rfl | a
  ·exact h.1
  exact A2 h.2 z a
def afd(o:List Oper)(i:List Nat)(l:Array Bool):Bool:=OP i (Region.ready .any o.toArray l) (Region.ready .any o.toArray (fA l i))
def OQ(z:Nat):List Nat->Bool
 | []=>L
 | j::r=>Nat.beq j z&&OQ z r
def Jx{z}:∀{l:List Nat},OQ z l=L->∀j∈l,j=z
 | c::r,a,j,h=>by
  simp only[OQ,aU]at a;rcases aY.1 h with rfl | h
  ·simp_all
  exact Jx a.2 j h
def Z6(o:List Oper)(l:Array Bool)(i:List Nat):List Nat->Bool
 | []=>L
 | z::r=>OQ z (Region.ready .any o.toArray (fA l (i.erase z)))&&Z6 o l i r
def OS{ops}{l}{Zi}:∀{r:List Nat},Z6 ops l Zi r=L->∀z∈r,∀j∈Region.ready .any ops.toArray (fA l (Zi.erase z)),j=z
 | c::r,h,z,a=>by
  simp[Z6]at h;rcases aY.1 a with rfl | a
  ·exact Jx h.1
  exact OS h.2 z a
section
variable {md:Region.Mode} {ops:Array Oper}
def Af{l}{D E}(s:∀x∈D,x∈E){j}(h:j∈Region.ready md ops (fA l D))(d:j∉E):j∈Region.ready md ops (fA l E):=by
 rw[mem_ready]at h⊢;obtain⟨a,f,o,g⟩:=h;refine⟨?_,f,o,λe c b=>?_⟩
 ·rw[eF]at a⊢;intro e;rcases qK.1 e with e | e
  ·exact a (qK.2 (.inl e))
  exact d e
 rcases sP.1 (g e c b)with i | i
 ·exact sP.2 (.inl i)
 exact sP.2 (.inr ⟨s _ i.1,i.2⟩)
def ED{l}(a:tY md ops l){D}(b:∀z∈D,∀o,ops[z]? =aM o->o.after.toList=[]):tY md ops (fA l D):=by
 intro k o hk f e d c;rcases sP.1 f with h | h
 ·exact sP.2 (.inl (a k o hk h e d c))
 have:=b k h.1 o hk;simp_all
end
def afe{P}{o:Oper}{a}{w}{K}{Q}(h:o.wp P a w K Q):
  o.wp P a w (λc b=>K c b/\∀i,o.dst≠aM i->c.tmps[i]? =a.tmps[i]?) Q:=by
 unfold Oper.wp at*
 generalize (execOp a.eval o).run P w=r at*
 cases r with
 | ok n b=>
  cases n
  case value v=>exact⟨h,(mC _ _ _).2.2⟩
  case skip=>exact⟨h,(mC _ _ _).2.2⟩
  case defer d=>exact⟨h,(mC _ _ _).2.2⟩
  case enter f args=>
   refine Calls.mono h (λe u a=>?_);cases e with
   | returned v=>exact⟨a,(mC _ _ _).2.2⟩
   | _=>exact a
  case row n args=>exact Rows.mono h (λv u a=>⟨a,(mC _ _ _).2.2⟩)
  all_goals exact h
 | halt x b=>cases x<;>simp[Oper.upon]at h⊢ <;>exact h
structure Late (Z:List LZ) (ws:M) (bz:Nat->Nat) (D:List Nat) (mk:List (Nat×Nat)) (a:Act) (w:M):Prop where
 at_:∀p∈Z,p.z∈D->a.tmps[p.d]? =aM (.pointer (aM ⟨bz p.z,0,aaf⟩))/\Blk w (bz p.z) p.t (cW β0 p.zs)/\ws.heap.size<=bz p.z/\yL mk (bz p.z)
 sub:∀z∈D,z∈qo Z
 ne:∀z∈D,∀z'∈D,z≠z'->bz z≠bz z'
 top:∀p∈mk,p.2<=w.heap.size
 le:ws.heap.size<=w.heap.size
section
variable {Z:List LZ} {ws:M} {bz:Nat->Nat} {D:List Nat} {mk:List (Nat×Nat)} {a a':Act} {w w1:M}
def Late.act(h:Late Z ws bz D mk a w)(c:∀p∈Z,a'.tmps[p.d]? =a.tmps[p.d]?):Late Z ws bz D mk a' w:=
 ⟨λp b hd=>by rw[c p b];exact h.at_ p b hd,h.sub,h.ne,h.top,h.le⟩
def Late.loud(b:Late Z ws bz D mk a w)(N:lw ws w w1)(c:∀p∈Z,a'.tmps[p.d]? =a.tmps[p.d]?):Late Z ws bz D ((w.heap.size,w1.heap.size)::mk) a' w1:=by
 refine⟨λp h hd=>?_,b.sub,b.ne,λp h=>?_,bH b.le N.1⟩
 ·obtain⟨g,a,e,i⟩:=b.at_ p h hd;have f:=a.lt;refine⟨by rw[c p h];exact g,?_,e,λq d=>?_⟩
  ·unfold Blk at a⊢;rw[N.2 _ e f];exact a
  rcases aY.1 d with rfl | d
  ·exact .inl f
  exact i q d
 rcases aY.1 h with rfl | h
 ·exact aX _
 exact bH (b.top p h) N.1
def Late.alloc(c:Late Z ws bz D mk a w)(u:∀p∈Z,∀q∈Z,p.z=q.z->p=q)(hd:∀p∈Z,∀q∈Z,p.z≠q.z->p.d≠q.d){p}(i:p∈Z)(n:p.z∉D){b}(l:w.heap.size<=b)(g:Only [] w w1)(B:Blk w1 b p.t (cW β0 p.zs))(s:p.d<a.tmps.size):
  Late Z ws (λz=>if z=p.z then b else bz z) (p.z::D) mk (a.put (aM p.d) (.pointer (aM ⟨b,0,aaf⟩))) w1:=by
 refine⟨λq d m=>?_,λz h=>?_,λz h o f j=>?_,λq d=>bH (c.top q d) g.size,bH c.le g.size⟩
 ·by_cases e:q.z=p.z
  ·have:=u q d p i e;subst this;rw[aV rfl];refine⟨by simp[Act.put,s],B,bH c.le l,λx a=>.inr (bH (c.top x a) l)⟩
  rw[aR e];obtain⟨b,r,t,v⟩:=c.at_ q d abV;refine⟨?_,g.blk r aaV,t,v⟩;rw[(mC a _ _).2.2 q.d (by
   intro k;injection k with k;exact hd p i q d (Ne.symm e) k)]
  exact b
 ·rcases aY.1 h with rfl | h
  ·exact qp.2 ⟨p,i,rfl⟩
  exact c.sub z h
 have T:∀z∈D,bz z<w.heap.size:=λz h=>by
  obtain⟨q,d,rfl⟩:=qp.1 (c.sub z h);exact(c.at_ q d h).2.1.lt
 rcases aY.1 h with rfl | h<;>rcases aY.1 f with rfl | f
 ·exact absurd rfl j
 ·grind
 ·rw[aR j,aV rfl];have:=T _ h;omega
 rw[aR (λe=>n (by rw[<-e];exact h)),aR (λe=>n (by rw[<-e];exact f))];exact c.ne _ h _ f j
end
def YF:YT:=λ_ _=>False
def XL(m s:Bool)(S:Nat->Prop)(b:M)(o:Op):XT:=λw a p=>lw b w a/\XB m s S o w a p
def OT(st:St):List LZ->Bool
 | []=>L
 | p::r=>(eK st.fr p.d).isNone&&Nat.blt p.d st.n&&OT st r
def Jy{st}:∀{a:List LZ},OT st a=L->∀p∈a,eK st.fr p.d=aaf/\p.d<st.n
 | q::r,b,p,h=>by
  simp only[OT,aU,yi]at b;rcases aY.1 h with rfl | h
  ·simp_all
  exact Jy b.2 p h
def St.AG(st:St):St:={st with mv:=L}
def eqA:List Bool->List Bool->Bool
 | [],[]=>L
 | a::r,b::s=>(a==b)&&eqA r s
 | _,_=>aL
def UD:∀{l m:List Bool},eqA l m=L->l=m
 | [],[],_=>rfl
 | a::r,b::s,h=>by
  simp[eqA]at h;rw[h.1,UD h.2]
def lL(P:Program)(p:List Oper)(m a:Bool)(S:Nat->Prop)(w:M)(mk:List (Nat×Nat))(st:St)(o:Oper)(D:List (Nat×Nat)->St->Prop):Prop:=
 bif lD P o.op then False else Z5 st p o (λst=>fz st λst=>loud P (XL m a S w o.op) YF st o λs=>bif s.mv then False else D ((st.w0.heap.size,s.w0.heap.size)::mk) s.AG) (λst=>D mk (St.AG (st.put o.dst .un)))
def fqG(P:Program)(o:List Oper)(i:List Nat)(b:Array Bool):List Nat->Option Nat
 | []=>aaf
 | a::r=>(match iL o a with
  | some c=>bif lD P c.op&&afd o i (b.setIfInBounds a L)then aM a else fqG P o i b r
  | none=>fqG P o i b r)
def fqZ(P:Program)(o:List Oper)(i:List Nat)(b:Array Bool)(l:List Nat):Option Nat:=
 match fqG P o i b l with
 | some q=>aM q
 | none=>fq P o l
def RJ(P:Program)(o:List Oper)(m s:Bool)(S:Nat->Prop)(w:M)(a:List LZ)(A:Array Bool)(c:Nat)(b:List (Nat×Nat)->St->Prop):Nat->Array Bool->List (Nat×Nat)->St->Prop
 | 0,_,_,_=>False
 | g+1,d,mk,st=>bif yM d (qo a)&&OT st a then(match EC (qo a) (Region.ready .any o.toArray d)with
  | []=>bif Z6 o d (qo a) (qo a)&&eqA d.toList A.toList&&Nat.beq (g+1) c&&Nat.ble (I (qo a)) (g+1)then b mk st else False
  | i::r=>bif afd o (qo a) d&&Nat.ble (I (qo a)) g then(match fqZ P o (qo a) d (i::r)with
   | some q=>cF (iL o q) λe=>bif okT o d q&&(i::r).contains q then
    Z5 st o e (λst=>qP P o m s S d q e st.AG λst=>RJ P o m s S w a A c b g (d.setIfInBounds q L) mk st.AG) (λst=>RJ P o m s S w a A c b g (d.setIfInBounds q L) mk (St.AG (st.put e.dst .un)))else False
   | none=>(match r with
    | []=>cF (iL o i) λe=>lL P o m s S w mk st e λmk st=>RJ P o m s S w a A c b g (d.setIfInBounds i L) mk st
    | [j]=>cF (iL o i) λe=>cF (iL o j) λf=>
     lL P o m s S w mk st e (λmk st=>RJ P o m s S w a A c b g (d.setIfInBounds i L) mk st)/\
     lL P o m s S w mk st f (λmk st=>RJ P o m s S w a A c b g (d.setIfInBounds j L) mk st)
    | [j,k]=>cF (iL o i) λf=>cF (iL o j) λh=>cF (iL o k) λe=>
     lL P o m s S w mk st f (λmk st=>RJ P o m s S w a A c b g (d.setIfInBounds i L) mk st)/\
     lL P o m s S w mk st h (λmk st=>RJ P o m s S w a A c b g (d.setIfInBounds j L) mk st)/\
     lL P o m s S w mk st e (λmk st=>RJ P o m s S w a A c b g (d.setIfInBounds k L) mk st)
    | _=>False))else False)else False
section
variable {P:Program} {ops:List Oper} {mb ms:Bool} {S:Nat->Prop} {β:Nat->Nat} {a:Act} {w:M} {ws:M} {Z:List LZ} {AK:Array Bool} {gm:Nat}
def Rep.late{st}(h:Rep β st a w)(m:st.mv=L){d}{v}(hd:eK st.fr d=aaf){w1}(e:Only [] w w1):Rep β st (a.put (aM d) v) w1:=by
 obtain⟨j,k,n⟩:=mC a _ v;refine⟨ud ⟨j.trans h.ok.sz,k.trans h.ok.df,λi p l g=>?_⟩,λi b f o=>?_,h.ne,h.only.cn e,λc=>by rw[m]at c;cases c⟩
 ·rw[n i abV];exact h.ok.at_ i p l g
 obtain⟨a,d,k3⟩:=h.bx i b f o;exact⟨e.blk a aaV,d,k3⟩
def Rep.AG{st}(R:Rep β st a w):Rep β st.AG a w:=⟨R.fr,R.bx,R.ne,R.only,λh=>abG⟩
def Ext.AG st:Ext st st.AG:=⟨rfl,aX _,λ_ _ _ h _=>h,λi b h o _=>⟨b,h,o,rfl,rfl,rfl,λ_ h=>h⟩,T8,Iw⟩
def ajT{Q}{j}{o}{st}{mk}{D}(f:iL ops j=aM o)(h:lL P ops mb ms S ws mk st o D)(R:Rep β st a w):
  wpOp P ops.toArray Q j (λe b=>EE P ops mb ms S j w b/\(∀i,o.dst≠aM i->e.tmps[i]? =a.tmps[i]?)/\∃c d m,D m d/\Ext st d/\d.mv=L/\Rep c d e b/\((m=mk/\b=w)∨(m=(w.heap.size,b.heap.size)::mk/\lw ws w b))) a w:=by
 rcases qH h with⟨_,h⟩ | ⟨g,h⟩
 ·exact h.elim
 have l:ops.toArray[j]? =aM o:=by rw[lu]at f;simpa using f
 unfold wpOp;simp only[l];obtain⟨s,n,r,a⟩:=CW h R;rcases a with⟨q,a⟩ | ⟨q,a⟩
 ·rw[aV q];left;obtain⟨F,z,y,t,B,_⟩:=eU a r;have s:EE P ops mb ms S j=λw b=>bif mb&&(ms||!CT o.op)then bR S w b else True:=by
   unfold EE;simp_all
  have:=afe (GL (E:=λw b=>EE P ops mb ms S j w b/\lw ws w b) (Q:=Q) (λG v p x=>?_) (λw v u=>?_) (λD C k w v p A hk u=>A.elim) z t)
  ·refine Oper.wp_mono ?_ this;rintro e b ⟨⟨c,d,k,o,k3,j⟩,p⟩;rcases qH k with⟨_,k⟩ | ⟨w,k⟩
   ·exact k.elim
   refine⟨k3.1,p,c,d.AG,_,k,((n.trans y).trans o).trans (Ext.AG _),rfl,j.AG,.inr ⟨?_,k3.2⟩⟩;rw[<-j.still w,<-t.still B]
  ·rw[s];obtain⟨N,x⟩:=x;unfold XB at x;cases j:(mb&&(ms||!CT o.op))<;>grind
  rw[s];refine⟨?_,lw.Bg u⟩;cases(mb&&_)with
  | true=>exact bR.only u
  | false=>exact trivial
 rw[aR abV];exact⟨uj f w,(mC _ _ _).2.2,β,_,mk,a,(n.trans (Ext.put _ _ _)).trans (Ext.AG _),rfl,(r.put o.dst .un).AG,.inl ⟨rfl,trivial⟩⟩
def UE{i:Exit->Act->M->Prop}(G:∀c a w,¬i (.panic c) a w)(t:∀p∈Z,∃o,iL ops p.z=aM o/\xL P p.z o=aM p)(F:zOk ops Z=L)(C:(qo Z).Nodup){s0:St}{B:List (Nat×Nat)->St->Prop}
  (H:∀mk st β a w r D m,B mk st->Ext s0 st->Rep β st a w->Late Z ws r D mk a w->D.Perm (qo Z)->m+I D=gm->gf P .any ops.toArray i (EE P ops mb ms S) m (fA AK D) a w):
  ∀(m g:Nat) {d:Array Bool} {mk:List (Nat×Nat)} {st:St} {β:Nat->Nat} {a:Act} {w:M} {r:Nat->Nat} {D Pd:List Nat},RJ P ops mb ms S ws Z AK gm B g d mk st->Ext s0 st->st.mv=L->Rep β st a w->Late Z ws r D mk a w->(D++Pd).Perm (qo Z)->m+I D=g->
   gf P .any ops.toArray i (EE P ops mb ms S) m (fA d D) a w:=by
 intro m;have R:∀p∈Z,∀q∈Z,p.z=q.z->p=q:=λp f q y e=>by
  obtain⟨o,a,b⟩:=t p f;obtain⟨l,c,k⟩:=t q y;rw[e,c]at a;injection a with a;subst a;rw[e,k]at b;injection b with b;exact b.symm
 have u:∀p∈Z,∀j o,iL ops j=aM o->j≠p.z->o.dst≠aM p.d:=λp f j o h n=>UB (UC F p f) h (by rw[bS];exact n);have N:∀p∈Z,∀q∈Z,p.z≠q.z->p.d≠q.d:=λp f q y n e=>by
  obtain⟨c,a,b⟩:=t q y;exact u p f q.z c a (Ne.symm n) (by rw[(oB b).2.2.1,e])
 induction m using Nat.strongRecOn with
 | ind m A=>
 intro g d mk st β a w r D Pd T V Y X W f hg;cases g with
 | zero=>exact T.elim
 | succ g=>
 have h0:=T;unfold RJ at T;obtain⟨hc,T⟩:=dU T;simp only[aU]at hc;obtain⟨bV,co⟩:=hc;have bV:=A2 bV;have aC:∀x∈D,x∈qo Z:=W.sub;have am:∀x∈Pd,x∈qo Z:=λx hx=>f.subset (List.mem_append_right _ hx);have fi:I D+I Pd=I (qo Z):=by have:=f.length_eq;rwa[aO]at this
 have cc:(D++Pd).Nodup:=f.nodup_iff.2 C;have aT:∀x∈Pd,x∉D:=λx hx hd=>(List.nodup_append.1 cc).2.2 x hd x hx rfl;have aS:∀j∈Region.ready .any ops.toArray (fA d D),j∈qo Z->j∈Pd:=λj h yd=>by
  have b:j∉D:=λhd=>by
   have:=(mem_ready.1 h).1;rw[qK.2 (.inr hd)]at this;cases this
  rcases cj.1 (f.mem_iff.2 yd)with a | a
  ·exact absurd a b
  exact a
 have bY:∀j∈Region.ready .any ops.toArray d,j∉qo Z->j∈Region.ready .any ops.toArray (fA d D):=λj h yd=>Af (l:=d) (D:=[]) (E:=D) aaV h λk=>yd (aC j k);have cC:∀z∈Pd,z∈Region.ready .any ops.toArray (fA d D):=λz hz=>by
  obtain⟨p,a,rfl⟩:=qp.1 (am z hz);obtain⟨o,ho,b⟩:=t p a;refine mem_ready.2 ⟨?_,o,aex,λe V=>?_⟩
  ·rw[eF];intro k;rcases qK.1 k with k | k
   ·rw[bV _ (am _ hz)]at k;cases k
   exact aT _ hz k
  rw[Array.mem_def,(oB b).2.2.2.2.1]at V;cases V
 have AL:∀{m'},m=m'+1->∀j∈Pd,wpOp P ops.toArray i j (λa' w'=>EE P ops mb ms S j w w'/\gf P .any ops.toArray i (EE P ops mb ms S) m' ((fA d D).setIfInBounds j L) a' w') a w:=by
  intro m' em j h;obtain⟨p,a,rfl⟩:=qp.1 (am j h);obtain⟨o,ho,v⟩:=t p a;obtain⟨_,q,s,l,l5,l6,l7⟩:=oB v;obtain⟨c,e⟩:=Jy co p a;have x:ops.toArray[p.z]? =aM o:=aex
  unfold wpOp;simp only[x];rw[aV (wn l)];left;obtain⟨E,op,t',pp,af,g0⟩:=o;dsimp only at q s l l5;subst q s l;obtain⟨z,z1,z2⟩:=acV l6 w;refine I4 z1 (z2 β0) (λ_=>rfl) λb w1 hb k S=>⟨?_,?_⟩
  ·unfold EE;rw[ho];dsimp only;rw[show lD P (.alloc p.t)=aL from rfl,cond_false];cases(mb&&(ms||!CT (.alloc p.t)))with
   | true=>exact bR.only k
   | false=>exact trivial
  rw[<-qJ];exact A m' J (g+1) (D:=p.z::D) (Pd:=Pd.erase p.z) h0 V Y (X.late Y c k) (W.alloc R N a (aT _ h) hb k S (by rw[X.ok.sz];exact e))
   ((List.perm_middle.symm.trans ((List.perm_cons_erase h).symm.append_left D)).trans f) (by rw[ba];omega)
 split at T
 ·rename_i v;obtain⟨hc,T⟩:=dU T;simp only[aU]at hc;obtain⟨⟨⟨b,l⟩,p⟩,c⟩:=hc;have s:d=AK:=Tc.1 (UD l);have q:=dh p;have c:=cZ c;cases P:Pd with
  | nil=>
   rw[P,bG]at f;rw[s];exact H mk st β a w r D m T V X W f J
  | cons z w=>
   have a:z∈Pd:=by rw[P];exact eY
   have D:I Pd=I w+1:=by rw[P];rfl
   obtain⟨m',rfl⟩:∃m',m=m'+1:=⟨m-1,J⟩
   refine⟨λh0=>?_,λj h=>AL rfl j ?_⟩
   ·have:=cC z a;rw[h0]at this;cases this
   by_cases yd:j∈qo Z
   ·exact aS j h yd
   exfalso;have E:j∈Region.ready .any ops.toArray (fA d ((qo Z).erase z)):=Af (λx hx=>(List.mem_erase_of_ne (λe=>aT z a (by rw[<-e];exact hx))).2 (aC x hx)) h (λk=>yd (List.mem_of_mem_erase k));have:=OS b z (am z a) j E;exact yd (this▸am z a)
 rename_i dO fd Xw;obtain⟨c0,T⟩:=dU T;simp only[aU,afd]at c0;have eQ:=Jw c0.1;have c0:=cZ c0.2;have l:∀j∈Region.ready .any ops.toArray (fA d D),j∉qo Z->j∈Region.ready .any ops.toArray d:=λj h yd=>(eQ j (Af aC h yd)).1;obtain⟨m',rfl⟩:∃m',m=m'+1:=⟨m-1,J⟩
 have b:∀j∈dO::fd,j∈Region.ready .any ops.toArray d/\j∉qo Z:=λj h=>sQ.1 (by rw[Xw];exact h);have n:Region.ready .any ops.toArray (fA d D)=[]->False:=λh0=>by
  have:=bY dO (b dO eY).1 (b dO eY).2;rw[h0]at this;cases this
 have E:∀j o,iL ops j=aM o->j∉qo Z->∀p∈Z,o.dst≠aM p.d:=λj o h yd p f=>u p f j o h λe=>yd (qp.2 ⟨p,f,e.symm⟩);have x:∀{j:Nat} {o:Oper},iL ops j=aM o->j∉qo Z->lL P ops mb ms S ws mk st o (λmk st=>RJ P ops mb ms S ws Z AK gm B g (d.setIfInBounds j L) mk st)->
   wpOp P ops.toArray i j (λa' w'=>EE P ops mb ms S j w w'/\gf P .any ops.toArray i (EE P ops mb ms S) m' ((fA d D).setIfInBounds j L) a' w') a w:=by
  intro j o ho yd T;refine wpOp_mono (λa' w' q=>⟨q.1,?_⟩) (ajT ho T X);obtain⟨k0,v,f7,dk,e,z,k3,k4,k5,k⟩:=q;rw[<-qJ];have s:∀p∈Z,a'.tmps[p.d]? =a.tmps[p.d]? :=λp f=>v _ (E j o ho yd p f);have c:Late Z ws r D e a' w':=by
   rcases k with⟨rfl,rfl⟩ | ⟨rfl,k⟩
   ·exact W.act s
   exact W.loud k s
  exact A m' J g z (V.trans k3) k4 k5 c f J
 split at T
 ·rename_i q y;obtain⟨o,ho,T⟩:=bL T;obtain⟨hc,T⟩:=dU T;simp only[aU,okT]at hc;obtain⟨⟨⟨⟨⟨c1,c2⟩,c3⟩,c4⟩,c5⟩,c6⟩:=hc;obtain⟨gG,S⟩:=b q (by simpa using c6);have Tx:ops.toArray[q]? =aM o:=aex
  have pY:tY .any ops.toArray (fA d D):=ED (E6 c3) λz hz o gE=>by
   obtain⟨p,k,rfl⟩:=qp.1 (aC z hz);obtain⟨c,a,q⟩:=t p k;rw[lu]at a;have:c=o:=by
    have e:ops.toArray[p.z]? =aM c:=by simpa using a
    rw[gE]at e;injection e with e;exact e.symm
   rw[<-this];exact(oB q).2.2.2.2.1
  have hN:∀k∈YS d 0 ops,(fA d D).getD k L=L:=λk hk=>qK.2 (.inl (by simpa using(dF.1 c5) k hk));have QY:=Region.free_spec Tx c2;have Ii:∀j oj,ops.toArray[j]? =aM oj->j≠q->(fA d D).getD j L=aL->(∀e∈oj.after,Region.binds .any e=L->e.on≠q)->o.apart ops.toArray oj=L:=λj oj P h2 h3 h4=>QY j oj P h2 (by
   rw[eF]at h3⊢;exact λk=>h3 (qK.2 (.inl k))) h4
  have f8:=bY q gG S;obtain⟨s,e1,jq,P⟩:=CW T X;have rK:∀v,∀p∈Z,(a.put o.dst v).tmps[p.d]? =a.tmps[p.d]? :=λv p f=>(mC _ _ _).2.2 _ (E q o ho S p f);rcases P with⟨hw,P⟩ | ⟨hw,P⟩
  ·obtain⟨v,s2,gO,k,e,k3,p,q,k6,s⟩:=ac1 P jq.AG;refine ua Tx (Region.noSelect_spec c1) (λc a w f=>(G _ _ _ f).elim) c4 (YS d 0 ops) q (λz _=>uj ho z) m' (fA d D) a w pY hN Ii f8 (acK hw s) p ?_;rw[<-qJ];exact A m' J g k (((V.trans e1).trans (Ext.AG _)).trans (e.trans (Ext.AG _))) rfl k3.AG (W.act (rK v)) f J
  refine ua (v:=undef) (F:=λ_=>True) Tx (Region.noSelect_spec c1) (λc a w f=>(G _ _ _ f).elim) c4 (YS d 0 ops) (λ_ _ _ _ _ _ _=>trivial) (λe _=>uj ho e) m' (fA d D) a w pY hN Ii f8 (aeP hw) trivial ?_;rw[<-qJ];exact A m' J g P ((V.trans e1).trans ((Ext.put _ _ _).trans (Ext.AG _))) rfl (jq.put o.dst .un).AG (W.act (rK undef)) f J
 split at T
 ·obtain⟨o,ho,T⟩:=bL T;refine⟨λh0=>(n h0).elim,λj h=>?_⟩;by_cases yd:j∈qo Z
  ·exact AL rfl j (aS j h yd)
  have:j∈EC (qo Z) (Region.ready .any ops.toArray d):=sQ.2 ⟨l j h yd,yd⟩;rw[Xw]at this;obtain rfl:j=dO:=by simpa using this
  exact x ho yd T
 ·rename_i c _;obtain⟨o,ho,T⟩:=bL T;obtain⟨e,a,T⟩:=bL T;refine⟨λh0=>(n h0).elim,λj h=>?_⟩;by_cases yd:j∈qo Z
  ·exact AL rfl j (aS j h yd)
  have:j∈EC (qo Z) (Region.ready .any ops.toArray d):=sQ.2 ⟨l j h yd,yd⟩;rw[Xw]at this;rcases aY.1 this with rfl | this
  ·exact x ho yd T.1
  have:=aP.1 this;subst this;exact x a yd T.2
 ·rename_i p e _;obtain⟨o,ho,T⟩:=bL T;obtain⟨q,c,T⟩:=bL T;obtain⟨k,a,T⟩:=bL T;refine⟨λh0=>(n h0).elim,λj h=>?_⟩;by_cases yd:j∈qo Z
  ·exact AL rfl j (aS j h yd)
  have:j∈EC (qo Z) (Region.ready .any ops.toArray d):=sQ.2 ⟨l j h yd,yd⟩;rw[Xw]at this;rcases aY.1 this with rfl | this
  ·exact x ho yd T.1
  rcases aY.1 this with rfl | this
  ·exact x c yd T.2.1
  have:=aP.1 this;subst this;exact x a yd T.2.2
 exact T.elim
end
def St.Ib(st:St)(d:Nat)(t:TypeId)(z:List SV)(b:Nat):St:=
 St.put {st with bx:=st.bx++[⟨aM b,t,z,st.ct,L,aL,aL⟩],ct:=st.ct+1} (aM d) (.box (I st.bx) 0)
def Ext.Ib st d t zs b:Ext st (st.Ib d t zs b):=by
 refine Ext.trans (t:={st with bx:=st.bx++[_],ct:=st.ct+1}) ⟨rfl,jW _,λ_ _ _ a _=>a,λi c h o s=>?_,λi b h=>?_,Iw⟩ (Ext.put _ _ _)
 ·rw[mD]at h
  grind
 exact⟨b,by dsimp only;rw[mD,aR (by have:=uf h;omega)];exact h,rfl,rfl,λ_ a=>a⟩
section
variable {β:Nat->Nat} {st:St} {a:Act} {w:M}
def Rep.Ib(R:Rep β st a w){d}{t}{zs}{b}(m:RC (I st.bx) st.fr=L)(n:MG (I st.bx) st.bx=L)(l:CN st.bx st.dt=L)(Y:jv (λ_=>aL) zs=L)
  (q:a.tmps[d]? =aM (.pointer (aM ⟨b,0,aaf⟩))) (o:Blk w b t (cW β0 zs)) (r:∀i c,dw st.bx i=aM c->c.ok=L->β i≠b):
  Rep (EB β (I st.bx) b) (st.Ib d t zs b) a w:=by
 have B:EB β (I st.bx) b (I st.bx)=b:=by unfold EB;rw[aV rfl]
 have W:∀{i c},dw st.bx i=aM c->EB β (I st.bx) b i=β i:=fun{i c} h=>by
  unfold EB;rw[aR];have:=uf h;omega
 have s:Rep (EB β (I st.bx) b) {st with bx:=st.bx++[⟨aM b,t,zs,st.ct,L,aL,aL⟩],ct:=st.ct+1} a w:=by
  refine⟨ud ⟨R.ok.sz,R.ok.df,λi p hl f=>?_⟩,λi c a v=>?_,λi d bi w t u x y D=>?_,?_,R.still⟩
  ·rw[R.ok.at_ i p hl f];congr 1;exact jX (g:=λd=>!Nat.beq d (I st.bx)) CQ _ (GF m i p hl)
  ·rw[mD]at a;split at a
   ·rename_i e;simp at a;subst a;subst e;refine⟨?_,λk hk=>?_,λhk=>agF⟩
    ·rw[B];rw[jf (g:=λ_=>aL) (β:=EB β (I st.bx) b) (β':=β0) (λi h=>abG) _ Y];exact o
    simp_all
   have e:=W a;obtain⟨h,p,k3⟩:=R.bx i c a v;refine⟨?_,λk hk=>by rw[e];exact p k hk,λhk=>by rw[e];exact k3 hk⟩;rw[e,<-jf (g:=λd=>!Nat.beq d (I st.bx)) (β:=β) (β':=EB β (I st.bx) b) CQ _ (GH n i c a v)];exact h
  ·rw[mD]at t u;split at t
   ·grind
   split at u
   ·grind
   rw[W t,W u];exact R.ne i d bi w t u x y D
  have e:=pq λi f=>by
   obtain⟨c,a,_⟩:=wF l i f;exact W a
  rw[e];exact R.only
 refine⟨ud ⟨s.ok.sz,s.ok.df,λi p hl f=>?_⟩,s.bx,s.ne,s.only,s.still⟩;simp[St.Ib,St.put,eK]at hl;cases j:Nat.beq d i
 ·rw[j]at hl;exact s.ok.at_ i p agS f
 rw[j]at hl;simp at hl;subst hl;have:=dh j;subst this;rw[q];show _=aM (Value.pointer _);rw[B]
end
def neN(b:Nat):List Nat->Prop->Prop
 | [],p=>p
 | x::r,p=>x≠b->neN b r p
def UF{b}:∀{l:List Nat} {p:Prop},neN b l p->(∀x∈l,x≠b)->p
 | [],_,h,_=>h
 | x::r,p,a,h=>UF (a (h x eY)) λy b=>h y (dQ _ b)
def aff(w:M)(mk:List (Nat×Nat)):List LZ->List Nat->St->(St->Prop)->Prop
 | [],_,st,a=>a st
 | p::r,s,st,a=>bif chk st p.zs then ∀b,w.heap.size<=b->b<st.w0.heap.size->yL mk b->neN b s (aff w mk r (b::s) (st.Ib p.d p.t p.zs b) a)else False
def OU{ws}{mk}{bz:Nat->Nat}{a}{w}:∀{r:List LZ} {s:List Nat} {st:St} {f:St->Prop} {b:Nat->Nat},aff ws mk r s st f->Rep b st a w->st.mv=aL->
  (∀p∈r,a.tmps[p.d]? =aM (.pointer (aM ⟨bz p.z,0,aaf⟩))/\Blk w (bz p.z) p.t (cW β0 p.zs)/\ws.heap.size<=bz p.z/\yL mk (bz p.z)/\jv (λ_=>aL) p.zs=L/\(∀x∈s,x≠bz p.z)/\∀i c,dw st.bx i=aM c->c.ok=L->b i≠bz p.z)->
  (qo r).Nodup->(∀p∈r,∀q∈r,p.z≠q.z->bz p.z≠bz q.z)->∃k d,f k/\Ext st k/\Rep d k a w
 | [],_,st,f,b,h,R,_,_,_,_=>⟨st,b,h,Ext.refl _,R⟩
 | p::r,s,st,f,b,a,R,m,o,n,hd=>by
  obtain⟨h,a⟩:=dU a;simp[chk,aU]at h;obtain⟨t,l,u,v,w,z,A⟩:=o p eY;have a:=UF (a _ u (by rw[<-R.still m];exact l.lt) v) z;simp[qo,List.nodup_cons]at n;have j:∀q∈r,p.z≠q.z:=λq g e=>n.1 (qp.2 ⟨q,g,e.symm⟩);have W:∀{i c},dw st.bx i=aM c->EB b (I st.bx) (bz p.z) i=b i:=fun{i c} a=>by
   unfold EB;rw[aR];have:=uf a;omega
  obtain⟨k,d,B,C,k3⟩:=OU a (R.Ib h.1.1.1 h.1.1.2 h.2 w t l A) m (λq g=>by
   obtain⟨E,F,G,H,J,N,P⟩:=o q (dQ _ g);have T:=hd p eY q (dQ _ g) (j q g);refine⟨E,F,G,H,J,λx D=>?_,λi c h S=>?_⟩
   ·rcases aY.1 D with rfl | D
    ·exact T
    exact N x D
   simp[St.Ib,St.put]at h;rw[mD]at h;split at h
   ·rename_i e;subst e;unfold EB;simp_all
   rw[W h];exact P i c h S) n.2 λx D y e=>hd x (dQ _ D) y (dQ _ e)
  exact⟨k,d,B,(Ext.Ib _ _ _ _ _).trans C,k3⟩
def ph2(P:Program)(o:List Oper)(m s:Bool)(S:Nat->Prop)(w:M)(a:List LZ)(A:Array Bool)(g n:Nat)(mk:List (Nat×Nat))(st:St)(b:St->Prop):Prop:=
 bif Nat.beq (I st.bx) n then fz st λst=>aff w mk a [] st λst=>Jq P o m s S (g-(I (qo a))) (fA A (qo a)) st b else False
def OW(P:Program)(o:List Oper)(j:Bool)(kp:List Nat)(i:List MI)(m b:Bool)(S:Nat->Prop)(a:List LZ)(A:Array Bool)(g:Nat)(st:St)(c:St->Prop):Prop:=
 bif sM st.bx then
  (bif j then ∃J:List _->JT _,(∀mk,Jo _ (J mk) λv w=>ph2 P o m b S st.w0 a A g (I st.bx) mk (oA st kp i v w) c)/\
   RJ P o m b S st.w0 a A g (λmk s=>fz s λs=>RH st kp i (J mk) s) (I o) (Array.replicate (I o) aL) [] (St.AG (st.qX (zSl a)))
  else RJ P o m b S st.w0 a A g (λmk s=>ph2 P o m b S st.w0 a A g (I st.bx) mk s c) (I o) (Array.replicate (I o) aL) [] (St.AG (st.qX (zSl a))))else False
def UG(o:List Oper)(i:List Nat):Nat->Array Bool->Array Bool
 | 0,l=>l
 | f+1,l=>match EC i (Region.ready .any o.toArray l)with
  | []=>l
  | a::_=>UG o i f (l.setIfInBounds a L)
def Z7:List Bool->Nat
 | []=>0
 | b::r=>bif b then Z7 r else Z7 r+1
def OX:∀{l:List mw} {i:Nat},i<(I l)->∃b,dw l i=aM b
 | b::r,0,_=>⟨b,rfl⟩
 | b::r,i+1,h=>OX (l:=r) abT
section
variable {P:Program} {ops:List Oper} {mb ms:Bool} {S:Nat->Prop} {β:Nat->Nat} {a:Act} {w:M} {AK:Array Bool} {gm:Nat} {jn:Bool} {kp:List Nat} {mi:List MI} {st:St} {K:St->Prop}
def UH{Q}(y:∀c a w,¬Q (.panic c) a w)(t:zOk ops (mZ P 0 ops)=L)(h:OW P ops jn kp mi mb ms S (mZ P 0 ops) AK gm st K)(u:Rep β st a w)(E:st.mv=aL)
  (C:∀d m e f,K m->Ext st m->Rep d m e f->Q .normal e f):gf P .any ops.toArray Q (EE P ops mb ms S) (I ops) (Array.replicate (I ops) aL) a w:=by
 have o:(qo (mZ P 0 ops)).Nodup:=CY;have A:∀p∈mZ P 0 ops,∃x,iL ops p.z=aM x/\xL P p.z x=aM p:=λp j=>by
  obtain⟨c,x,h,a,b⟩:=CX j
  grind
 generalize mZ P 0 ops=g at*
 obtain⟨B,h⟩:=dU h;rw[<-u.still E]at h;have two:∀mk m d e f z D n,ph2 P ops mb ms S w g AK gm (I st.bx) mk m K->Ext st m->Rep d m e f->Late g w z D mk e f->D.Perm (qo g)->n+I D=gm->gf P .any ops.toArray Q (EE P ops mb ms S) n (fA AK D) e f:=by
  intro mk m d e f z D n h he H S j hg;obtain⟨P,h⟩:=dU h;have P:=dh P;obtain⟨s1,h1,e1,W,Lw,_,_,_,am⟩:=eU h H;have V:=he.trans e1;have T:∀i c,dw s1.bx i=aM c->c.ok=L->d i<w.heap.size:=λi c F s=>by
   obtain⟨b,h⟩:=OX (l:=st.bx) (i:=i) (by have:=uf F;omega);obtain⟨w,a,X,k3,q⟩:=V.ps i b h;rw[F]at a;injection a with a;subst a;have p:b.ok=L:=by rw[<-k3];exact s
   obtain⟨k,hk⟩:=gN.1 (yH B i b h p);rw[(W.bx i c F s).at_ k (q k hk),<-(u.bx i b h p).at_ k hk];exact(u.bx i b h p).blk.lt
  have G:=λp N=>j.mem_iff.2 (qp.2 ⟨p,N,rfl⟩);obtain⟨s2,aC,a,X,k3⟩:=OU (bz:=z) h1 W Lw (λp N=>by
   obtain⟨b,k,l,w⟩:=S.at_ p N (G p N);obtain⟨x,_,s⟩:=A p N;exact⟨b,k,l,w,(oB s).2.2.2.2.2.2,aaV,λi c F s=>abV⟩) o λp N q h=>S.ne _ (G p N) _ (G q h)
  have:=j.length_eq;rw[Jv j,show n=gm-(I (qo g)) by omega];exact vE y a k3 λJ s3 a3 w3 m1 m2 m3=>C J s3 a3 w3 m1 ((V.trans X).trans m2) m3
 have Y:Late g w (λ_=>0) [] [] a w:=⟨λp _ h=>abG,λ_ h=>abG,λ_ h=>aaV,λ_ h=>abG,aX _⟩
 have R:=Rep.AG (u.frame (fr':=CJ _ st.fr) λi p v=>by
  cases h:(zSl g).elem i with
  | true=>rw[(mP (l:=st.fr)).1 h]at v;cases v
  | false=>rw[(mP (l:=st.fr)).2 h]at v;exact⟨p,v,rfl⟩)
 have r:Ext st (St.AG (st.qX (zSl g))):=(Ext.qX _ _).trans (Ext.AG _);rcases qH h with⟨_,h⟩ | ⟨_,h⟩
 ·obtain⟨G,J,h⟩:=h;refine UE y A t o (s0:=st) (λmk s d e f z D n hk l a k j p=>?_) (I ops) (I ops) (D:=[]) (Pd:=qo g) h r rfl R Y (List.Perm.refl _) rfl;obtain⟨H,c,b,F,S,_⟩:=eU hk a;obtain⟨N,q,w⟩:=vD c F S (.inl (l.trans b)) (J mk);exact two mk _ _ e f z D n q Ext.Xn w k j p
 exact UE y A t o (s0:=st) (λmk s d e f z D n hk c a b j k=>two mk s d e f z D n hk c a b j k) (I ops) (I ops) (D:=[]) (Pd:=qo g) h r rfl R Y (List.Perm.refl _) rfl
end
end Go.Kt.V
