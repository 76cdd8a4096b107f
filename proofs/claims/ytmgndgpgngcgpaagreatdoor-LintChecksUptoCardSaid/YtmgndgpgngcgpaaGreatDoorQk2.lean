import Derived.Test.YtmgndgpgngcgpaaGreatDoorQk1
import Derived.Shelf.Strings.Builder1
import Derived.Shelf.Strings.Builder2
import Derived.Shelf.Strings.OnBuilder
import Derived.Shelf.Strings.Trim
import Derived.Shelf.Small.Utf8
import Derived.Shelf.Small.Strs
import Derived.Shelf.Strings.BuilderF
import Derived.Shelf.Utf8.RuneCount
import Derived.Shelf.Strconv.Itoa0
import Derived.Shelf.Strconv.Itoa1
import Derived.Shelf.LaysM
import Derived.Shelf.Strconv.Itoa2
import Derived.Shelf.Strconv.Itoa3
import Derived.Shelf.Strconv.ParseIntEmpty
import Derived.Shelf.Strconv.Clone
import Derived.Shelf.Strconv.SyntaxError
import Derived.Shelf.LaysC
import Derived.Shelf.Strconv.ToError
import Derived.Shelf.Strconv.Lower
import Derived.Shelf.Strconv.ParseUint10
import Derived.Shelf.Strconv.ParseUint10Empty
import Derived.Shelf.Strconv.ParseUint10Any
import Derived.Shelf.Strconv.ParseInt10
import Derived.Shelf.Strconv.RangeError
import Derived.Shelf.Strconv.ToErrorRange
import Derived.Shelf.Strconv.ParseUintEmpty
import Derived.Shelf.Strconv.ParseUint10b64
import Derived.Shelf.Strconv.ParseUint10b32
import Derived.Shelf.Strconv.ParseUint10b16
import Derived.Shelf.Strconv.ParseUint10b8
import Derived.Shelf.Strconv.ParseUint10At
import Derived.Shelf.Strconv.ParseInt10At64
import Derived.Shelf.Strconv.ParseInt10At32
import Derived.Shelf.Strconv.ParseInt10At16
import Derived.Shelf.Strconv.ParseInt10At8
import Derived.Shelf.Strconv.ParseInt10All
import Derived.Shelf.Strconv.ParseIntPublic10
import Derived.Shelf.Strconv.ErrVarParseInt
import Derived.Shelf.Strings.Search1
import Derived.Shelf.Strings.Search2
import Derived.Shelf.Strings.Search3
import Derived.Shelf.Strings.Cut
import Derived.Shelf.Strings.Count
import Derived.Shelf.Strings.Shaped
import Derived.Shelf.Strings.Prefix
import Derived.Shelf.Strings.Split
import Derived.Shelf.Strings.SplitShaped
import Derived.Shelf.Unicode.Decode
import Derived.Shelf.Strings.Runes
import Derived.Shelf.Strings.RuneCount
import Derived.Shelf.Strings.AsciiSet
import Derived.Shelf.Strings.Explode
import Derived.Shelf.Bits.Mul64
import Derived.Shelf.Strings.Repeat
import Derived.Shelf.Unicode.DecodeSlow
import Derived.Shelf.Unicode.DecodeAny
set_option linter.unusedSectionVars false
set_option linter.unusedSimpArgs false
set_option linter.unusedVariables false
namespace Go.Kt.V
open Go renaming World->av,Value->aw
open Go Go.RowKit Go.Kt
structure Wu (β:Nat->Nat) (n:Nat) (fr:List (Nat×Nat×SV)) (D:List Deferred) (a:Act):Prop where
 sz:a.tmps.size=n
 df:a.defers=D
 at_:∀i p,dV fr i=some p->i<n->a.tmps[i]? =some (val β p.2)
theorem rL{β}{n}{fr}{D}{a}(h:Wu β n fr D a):∃us,a=frD n us (cv β fr) D:=by
 refine⟨λi=>(a.tmps[i]?).getD undef,?_⟩;obtain⟨tmps,df⟩:=a;obtain⟨h1,h2,h3⟩:=h;dsimp only at h1 h2 h3;congr 1;apply Array.ext';apply lU;intro i;by_cases hi:i<n
 ·rw[nJ _ _ _ _ _ hi,bM];cases hl:dV fr i with
  | none=>
   rw[D9 (l:=cv β fr) adw];have:i<tmps.size:=aE
   simp[this]
  | some p=>
   rw[uJ (l:=cv β fr) (v:=val β p.2) adw];have:=h3 i p hl hi;simpa using this
 rw[di aaf,di (by rw[oH];exact yU hi)]
theorem U3{β}{n}{fr}{D}{us}:Wu β n fr D (frD n us (cv β fr) D):=by
 refine⟨by simp[frD,oH],rfl,λi p hl hi=>?_⟩;simp[frD,qH];rw[nJ _ _ _ _ _ hi,bM,uJ (l:=cv β fr) (v:=val β p.2) adw]
theorem Rep.ok{β}{st}{a}{w}(h:Rep β st a w):Wu β st.n st.fr (Xj st.df) a:=by
 obtain⟨us,rfl⟩:=h.fr;exact U3
def Zv(st:St)(ops:List Oper)(j:Nat):Option (Nat×SV):=match ia ops j with
 | some o=>(match o.dst with
  | some d=>(st.get d).map λs=>(d,s)
  | none=>none)
 | none=>none
theorem AQ{st}{ops}{j d}{s}(h:Zv st ops j=some (d,s)):∃oj,ia ops j=some oj/\oj.dst=some d/\st.get d=some s:=by
 unfold Zv at h;split at h
 ·rename_i o ho;split at h
  ·rename_i e he;cases hg:st.get e with
   | none=>rw[hg]at h;cases h
   | some u=>
    rw[hg]at h;obtain⟨rfl,rfl⟩:=h;exact⟨o,ho,he,hg⟩
  cases h
 cases h
section
variable {β:Nat->Nat} {st:St} {a:Act} {w:av} {ops:List Oper} {o:Oper} {j d:Nat} {want b:Bool}
theorem qM(hR:Rep β st a w)(hg:o.guard=some (j,want)){s}(ht:Zv st ops j=some (d,s))(hs:val β s=.bool b):Region.wanted o (yielded ops.toArray a.tmps)=(b==want):=by
 obtain⟨oj,h1,h2,h3⟩:=AQ ht;obtain⟨us,rfl⟩:=hR.fr;exact wtF hg h1 h2 (by rw[<-hs];exact St.evO β h3) rfl
theorem xZ(hR:Rep β st a w)(hg:o.guard=some (j,want))(ht:Zv st ops j=some (d,.un)):Region.wanted o (yielded ops.toArray a.tmps)=false:=by
 obtain⟨oj,h1,h2,h3⟩:=AQ ht;obtain⟨us,rfl⟩:=hR.fr;exact wuF hg h1 h2 (St.evO β (x:=.tmp d) (s:=.un) h3)
theorem Rep.set(hR:Rep β st a w){s s'}(hg:st.get d=some s)(hv:val β s=val β s'):Rep β (st.put (some d) s') a w:=by
 refine⟨rL ⟨hR.ok.sz,hR.ok.df,λi p hl hi=>?_⟩,hR.bx,hR.ne,hR.only,hR.still⟩;simp[St.put,dV]at hl;cases hb:Nat.beq d i with
 | true=>
  rw[hb]at hl;simp at hl;subst hl;have:=cd hb;subst this;unfold St.get at hg;cases bT:Nat.blt d st.n with
  | false=>rw[bT]at hg;cases hg
  | true=>
   rw[bT,oY]at hg;cases hq:dV st.fr d with
   | none=>rw[hq]at hg;cases hg
   | some q=>
    rw[hq]at hg;simp at hg;rw[hR.ok.at_ d q hq hi,hg,hv]
 | false=>rw[hb]at hl;exact hR.ok.at_ i p adK hi
end
section
variable {P:Program} {ops:List Oper} {w:av}
def wQ(P:Program)(ops:List Oper)(w:av):List Oper->Act->Act->Prop
 | [],a,a'=>a'=a
 | o::r,a,a'=>(Region.wanted o (yielded ops.toArray a.tmps)=true/\∃v,(∀w',w'.heap=w.heap->(execOp a.eval o).run P w'=.ok (.value v) w')/\wQ P ops w r (a.put o.dst v) a')∨
  (Region.wanted o (yielded ops.toArray a.tmps)=false/\wQ P ops w r (a.put o.dst undef) a')
theorem AR:∀{l m:List Oper} {a b c:Act},wQ P ops w l a b->wQ P ops w m b c->wQ P ops w (l++m) a c
 | [],_,_,_,_,h,k=>by
  subst h;exact k
 | o::r,m,a,b,c,h,k=>by
  rcases h with⟨h1,v,h2,h3⟩ | ⟨h1,h3⟩
  ·exact .inl ⟨h1,v,h2,AR (l:=r) h3 k⟩
  exact .inr ⟨h1,AR (l:=r) h3 k⟩
theorem Ec{Q}:∀{l rest:List Oper} {a a':Act},wQ P ops w l a a'->wpList P ops.toArray Q rest a' w->wpList P ops.toArray Q (l++rest) a w
 | [],_,_,_,h,k=>by
  subst h;exact k
 | o::r,m,a,b,h,k=>by
  rcases h with⟨h1,v,h2,h3⟩ | ⟨h1,h3⟩
  ·exact IJ v h1 (h2 w rfl) rfl (Ec (l:=r) h3 k)
  exact Xf h1 rfl (Ec (l:=r) h3 k)
theorem I5{Q}:∀{l rest:List Oper} {a a':Act},wQ P ops w l a a'->wpQuiet P ops.toArray (λw'=>∃n,w'=w.drewN n) Q rest a'->wpQuiet P ops.toArray (λw'=>∃n,w'=w.drewN n) Q (l++rest) a
 | [],_,_,_,h,k=>by
  subst h;exact k
 | o::r,m,a,b,h,k=>by
  rcases h with⟨h1,v,h2,h3⟩ | ⟨h1,h3⟩
  ·exact ad9 v h1 (by rintro _ ⟨n,rfl⟩;exact h2 _ rfl) rfl (I5 (l:=r) h3 k)
  exact akf h1 rfl (I5 (l:=r) h3 k)
def Ed:List Oper->List Nat
 | []=>[]
 | o::r=>match o.dst with
  | some d=>d::Ed r
  | none=>Ed r
theorem lm(a:Act) d v:(a.put d v).tmps.size=a.tmps.size/\(a.put d v).defers=a.defers/\∀i,d≠some i->(a.put d v).tmps[i]? =a.tmps[i]? :=by
 cases d with
 | none=>exact⟨rfl,rfl,λ_ _=>rfl⟩
 | some k=>
  refine⟨by simp[Act.put],rfl,λi hi=>?_⟩;simp[Act.put];rw[qE (λe=>hi (by rw[e]))]
theorem AU:∀{l:List Oper} {a a':Act},wQ P ops w l a a'->a'.tmps.size=a.tmps.size/\a'.defers=a.defers/\∀i,(Ed l).elem i=false->a'.tmps[i]? =a.tmps[i]?
 | [],_,_,h=>by
  subst h;exact⟨rfl,rfl,λ_ _=>rfl⟩
 | o::r,a,b,h=>by
  have key:∀v,wQ P ops w r _ b->b.tmps.size=a.tmps.size/\b.defers=a.defers/\∀i,(Ed (o::r)).elem i=false->b.tmps[i]? =a.tmps[i]? :=λv h3=>by
   obtain⟨k1,k2,k3⟩:=AU h3;obtain⟨p1,p2,p3⟩:=lm a o.dst v;refine⟨k1.trans p1,k2.trans p2,λi hi=>?_⟩;cases hd:o.dst with
   | none=>
    simp only[Ed,hd]at hi;rw[k3 i hi,p3 i (by rw[hd];simp)]
   | some d=>
    simp only[Ed,hd,mA]at hi;split at hi
    ·cases hi
    rename_i ii;rw[k3 i hi,p3 i (by rw[hd];intro e;simp at e;subst e;simp at ii)]
  rcases h with⟨h1,v,h2,h3⟩ | ⟨h1,h3⟩
  ·exact key v h3
  exact key _ h3
end
def aej(ops:List Oper):Nat->Nat->Nat->Bool
 | 0,_,_=>false
 | f+1,q,j=>bif Nat.beq q j then true else match ia ops q with
  | some o=>(match o.guard with
   | some (r,_)=>aej ops f r j
   | none=>false)
  | none=>false
def zA(ops:List Oper)(j:Nat):List Oper->Nat
 | []=>0
 | o::r=>match o.guard with
  | some (q,_)=>bif aej ops 50 q j then zA ops j r+1 else 0
  | none=>0
def mrg(t:Bool)(a b:SV):Option SV:=match a,b with
 | .bl true,.bl false=>some (.bt t)
 | .bl true,.bt y=>some (.bt (t||y))
 | .bt x,.bl false=>some (.bt (t&&x))
 | .bl false,.bl true=>some (.bt (!t))
 | .bl false,.bt y=>some (.bt (!t&&y))
 | .bt x,.bl true=>some (.bt (!t||x))
 | .bt x,.bt y=>some (.bt (bif t then x else y))
 | .bl true,.bl true=>some (.bl true)
 | .bl false,.bl false=>some (.bl false)
 | _,_=>none
theorem P1{t}{a b v}(h:mrg t a b=some v) β:(t=true->val β v=val β a)/\(t=false->val β v=val β b):=by
 unfold mrg at h;split at h<;>simp at h<;>subst h<;>refine⟨λe=>?_,λe=>?_⟩<;>subst e<;>simp[val,qK]
def AV(ds:List Nat):List (Nat×Nat×SV)->List (Nat×Nat×SV)
 | []=>[]
 | p::r=>bif ds.elem p.1 then AV ds r else p::AV ds r
theorem lG{ds}:∀{l:List _} {i:Nat},(ds.elem i=true->dV (AV ds l) i=none)/\(ds.elem i=false->dV (AV ds l) i=dV l i)
 | [],i=>⟨λ_=>rfl,λ_=>rfl⟩
 | (k,p)::r,i=>by
  obtain⟨h1,h2⟩:=lG (ds:=ds) (l:=r) (i:=i);simp only[AV];cases hk:ds.elem k with
  | true=>
   simp only[oY];refine⟨h1,λhi=>?_⟩;rw[h2 hi];simp[dV];cases hb:Nat.beq k i with
   | true=>have:=cd hb;subst this;rw[hi]at hk;cases hk
   | false=>rfl
  | false=>
   simp only[vM,dV];cases hb:Nat.beq k i with
   | true=>
    have:=cd hb;subst this;exact⟨λhi=>(by rw[hi]at hk;cases hk),λ_=>rfl⟩
   | false=>exact⟨h1,h2⟩
def St.pB(st:St)(ds:List Nat):St:={st with fr:=AV ds st.fr}
theorem Ext.pB st ds:Ext st (st.pB ds):=
 ⟨rfl,aY _,λi k v hl _=>by
  cases he:ds.elem i with
  | true=>rw[show dV (st.pB ds).fr i=none from(lG (l:=st.fr)).1 he]at hl;cases hl
  | false=>rw[show dV (st.pB ds).fr i=dV st.fr i from(lG (l:=st.fr)).2 he]at hl;exact hl,λi b h ho _=>⟨b,h,ho,rfl,rfl,rfl,λ_ h=>h⟩,PV,FX⟩
structure Alike (s t:St):Prop where
 bx:t.bx=s.bx
 w0:t.w0=s.w0
 mv:t.mv=s.mv
 dt:t.dt=s.dt
 n:t.n=s.n
 df:t.df=s.df
theorem Alike.refl s:Alike s s:=⟨rfl,rfl,rfl,rfl,rfl,rfl⟩
theorem Alike.trans{s t u}(h:Alike s t)(k:Alike t u):Alike s u:=⟨k.bx.trans h.bx,k.w0.trans h.w0,k.mv.trans h.mv,k.dt.trans h.dt,k.n.trans h.n,k.df.trans h.df⟩
theorem Alike.put s d v:Alike s (s.put d v):=by cases d<;>exact⟨rfl,rfl,rfl,rfl,rfl,rfl⟩
theorem Rep.alike{β}{s t}{a a'}{w}(h:Rep β s a w)(k:Alike s t)(hf:Wu β t.n t.fr (Xj t.df) a'):Rep β t a' w:=by
 obtain⟨k1,k2,k3,k4,k5,k6⟩:=k;refine⟨rL hf,λi b hb ho=>?_,λi j bi bj h1 h2 h3 h4=>?_,?_,λhm=>?_⟩
 ·rw[k1]at hb;obtain⟨g1,g2,g3⟩:=h.bx i b hb ho;exact⟨g1,g2,λe=>by rw[k2];exact g3 e⟩
 ·rw[k1]at h1 h2;exact h.ne i j bi bj h1 h2 h3 h4
 ·rw[k2,k4];exact h.only
 rw[k2];exact h.still (by rw[<-k3];exact hm)
def yd(P:Program)(ops:List Oper):Nat->List (Bool×Bool)->List Oper->St->(St->Prop)->Prop
 | 0,_,_,_,_=>False
 | _+1,_,[],st,K=>K st
 | f+1,gs,o::rest,st,K=>match o.guard with
  | none=>Zn P gs st o.op λv=>yd P ops f gs rest (st.put o.dst v) K
  | some (j,want)=>(match Zv st ops j with
   | some (_,.un)=>yd P ops f gs rest (st.put o.dst .un) K
   | some (_,.bl b)=>bif b==want then Zn P gs st o.op λv=>yd P ops f gs rest (st.put o.dst v) K else yd P ops f gs rest (st.put o.dst .un) K
   | some (d,.bt t)=>(match(o::rest)[zA ops j (o::rest)]? with
    | some pk=>(match pk.dst with
     | some k=>
      yd P ops f (gs++[(t,true)]) ((o::rest).take (zA ops j (o::rest)+1)) (st.put (some d) (.bl true)) λsa=>
      ch (sa.get k) λva=>
      yd P ops f (gs++[(t,false)]) ((o::rest).take (zA ops j (o::rest)+1)) (st.put (some d) (.bl false)) λsb=>
      ch (sb.get k) λvb=>
      ch (mrg t va vb) λv=>
      yd P ops f gs ((o::rest).drop (zA ops j (o::rest)+1)) ((st.pB (Ed ((o::rest).take (zA ops j (o::rest)+1)))).put (some k) v) K
     | none=>False)
    | none=>False)
   | _=>False)
theorem I6:∀{gs:List _} {t b:Bool},gh gs->t=b->gh (gs++[(t,b)])
 | [],_,_,_,h=>⟨h,trivial⟩
 | _::r,_,_,h,k=>⟨h.1,I6 (gs:=r) h.2 k⟩
theorem rM{P}{ops}:∀{f:Nat} {gs:List _} {l:List Oper} {st:St} {K:St->Prop},yd P ops f gs l st K->
  ∃cO,K cO/\Ext st cO/\Alike st cO/\(gh gs->∀β a w,Rep β st a w->∃a',wQ P ops w l a a'/\Rep β cO a' w)
 | 0,_,_,_,_,h=>h.elim
 | _+1,gs,[],st,K,h=>⟨st,h,Ext.refl _,Alike.refl _,λ_ β a w hR=>⟨a,rfl,hR⟩⟩
 | f+1,gs,o::rest,st,K,h=>by
  have one:(Region.wanted o=λ_=>true)∨True->∀{K:St->Prop},(Zn P gs st o.op λv=>yd P ops f gs rest (st.put o.dst v) K)->
    (gh gs->∀β a w,Rep β st a w->Region.wanted o _=true)->
    ∃cO,K cO/\Ext st cO/\Alike st cO/\(gh gs->∀β a w,Rep β st a w->∃a',wQ P ops w (o::rest) a a'/\Rep β cO a' w):=λ_ K h hw=>by
   obtain⟨v,h1,hy⟩:=I4 h;obtain⟨cO,k1,k2,k3,k4⟩:=rM h1;refine⟨cO,k1,(Ext.put _ _ _).trans k2,(Alike.put _ _ _).trans k3,λhg β a w hR=>?_⟩;obtain⟨a',g1,g2⟩:=k4 hg β _ w (hR.put o.dst v);exact⟨a',.inl ⟨hw hg β a w hR,_,λw' hh=>hy hg β a w hR _ _ _ _ _ w' λ_=>hh,g1⟩,g2⟩
  have no:∀{K:St->Prop},yd P ops f gs rest (st.put o.dst .un) K->(gh gs->∀β a w,Rep β st a w->Region.wanted o _=false)->
    ∃cO,K cO/\Ext st cO/\Alike st cO/\(gh gs->∀β a w,Rep β st a w->∃a',wQ P ops w (o::rest) a a'/\Rep β cO a' w):=λh1 hw=>by
   obtain⟨cO,k1,k2,k3,k4⟩:=rM h1;refine⟨cO,k1,(Ext.put _ _ _).trans k2,(Alike.put _ _ _).trans k3,λhg β a w hR=>?_⟩;obtain⟨a',g1,g2⟩:=k4 hg β _ w (hR.put o.dst .un);exact⟨a',.inr ⟨hw hg β a w hR,g1⟩,g2⟩
  unfold yd at h;split at h
  ·rename_i hg0;exact one (.inr trivial) h λ_ β a w hR=>wn hg0
  rename_i j want hg0;split at h
  ·rename_i d ht;exact no h λ_ β a w hR=>xZ hR hg0 ht
  ·rename_i d b ht;cases hb:(b==want)with
   | true=>
    rw[hb]at h;exact one (.inr trivial) h λ_ β a w hR=>by rw[qM hR hg0 ht (b:=b) rfl,hb]
   | false=>
    rw[hb]at h;exact no h λ_ β a w hR=>by rw[qM hR hg0 ht (b:=b) rfl,hb]
  ·rename_i d t ht;obtain⟨oj,IC,Wv,Ul⟩:=AQ ht;split at h
   ·rename_i pk hpk;split at h
    ·rename_i k hk;generalize zA ops j _=m at h hpk;obtain⟨sa,ha,ea1,ea2,ea3⟩:=rM h;obtain⟨va,hva,ha⟩:=bC ha;obtain⟨sb,hb,eb1,eb2,eb3⟩:=rM ha;obtain⟨vb,hvb,hb⟩:=bC hb;obtain⟨v,hv,hb⟩:=bC hb;obtain⟨cO,k1,k2,k3,k4⟩:=rM hb;refine⟨cO,k1,((Ext.pB _ _).trans (Ext.put _ _ _)).trans k2,((⟨rfl,rfl,rfl,rfl,rfl,rfl⟩:Alike st (st.pB _)).trans (Alike.put _ _ _)).trans k3,λhg β a w hR=>?_⟩;have fin:∀(s:SV) u x,Rep β u a w->(∃a',wQ P ops w ((o::rest).take (m+1)) a a'/\∃u',Rep β u' a' w/\u'.n=st.n/\u'.get k=some x/\val β v=val β x)->∃a',wQ P ops w (o::rest) a a'/\Rep β cO a' w:=by
      rintro s u x hu ⟨a1,g1,u',r1,r2,r3,r4⟩;obtain⟨f1,f2,f3⟩:=AU g1;have iK:Rep β ((st.pB (Ed ((o::rest).take (m+1)))).put (some k) v) a1 w:=by
       refine hR.alike ((⟨rfl,rfl,rfl,rfl,rfl,rfl⟩:Alike st (st.pB _)).trans (Alike.put _ _ _)) ⟨f1.trans hR.ok.sz,f2.trans hR.ok.df,λi p hl hi=>?_⟩;simp only[St.put,dV]at hl;cases Ph:Nat.beq k i with
       | true=>
        rw[Ph]at hl;simp at hl;subst hl;have:=cd Ph;subst this;rw[r4,<-r1.get r3];have hs:k<a1.tmps.size:=by rw[f1,hR.ok.sz];exact hi
        simp[Act.eval,hs]
       | false=>
        rw[Ph]at hl;cases he:(Ed _).elem i with
        | true=>rw[show dV (st.pB _).fr i=none from(lG (l:=st.fr)).1 he]at hl;cases hl
        | false=>
         rw[show dV (st.pB _).fr i=dV st.fr i from(lG (l:=st.fr)).2 he]at hl;rw[f3 i he];exact hR.ok.at_ i p hl hi
      obtain⟨a2,g2,g3⟩:=k4 hg β a1 w iK;refine⟨a2,?_,g3⟩;have:=AR g1 g2;rwa[dP]at this
     cases t with
     | true=>
      have hu:Rep β (st.put _ (.bl true)) a w:=hR.set Ul rfl;obtain⟨a1,g1,g2⟩:=ea3 (I6 hg rfl) β a w hu;exact fin (.bl true) _ va hu ⟨a1,g1,sa,g2,ea2.n.trans rfl,hva,(P1 hv β).1 rfl⟩
     | false=>
      have hu:Rep β (st.put _ (.bl false)) a w:=hR.set Ul rfl;obtain⟨a1,g1,g2⟩:=eb3 (I6 hg rfl) β a w hu;exact fin (.bl false) _ vb hu ⟨a1,g1,sb,g2,eb2.n.trans rfl,hvb,(P1 hv β).2 rfl⟩
    exact h.elim
   exact h.elim
  exact h.elim
theorem lp:∀l b i,cZ (l++[b]) i=if i=l.length then some b else cZ l i
 | [],b,0=>rfl
 | [],b,i+1=>rfl
 | a::r,b,0=>rfl
 | a::r,b,i+1=>by
  simp;exact lp r b i
theorem rN:∀{l:List li} {i:Nat} {b:li},cZ l i=some b->i<l.length
 | a::r,0,_,_=>aM
 | a::r,i+1,b,h=>by simp[cZ]at h;have:=rN h;simp;omega
theorem jS:∀{l:List li} {i:Nat} {b c:li},cZ l i=some b->∀j,cZ (NB l i c) j=if j=i then some c else cZ l j
 | a::r,0,b,c,_,0=>rfl
 | a::r,0,b,c,_,j+1=>rfl
 | a::r,i+1,b,c,h,0=>rfl
 | a::r,i+1,b,c,h,j+1=>by
  simp[cZ]at h;simp;exact jS h j
theorem nU{b}{p q}(h:bif b then p else q):(b=true/\p)∨(b=false/\q):=by
 cases b with
 | true=>exact .inl ⟨rfl,h⟩
 | false=>exact .inr ⟨rfl,h⟩
def Iw(bx:List li)(i:Nat):Nat:=match cZ bx i with
 | some b=>b.blk.getD 0
 | none=>0
def GA(bx:List li)(i:Nat):Bool:=match cZ bx i with
 | some b=>b.ok&&b.blk.isSome
 | none=>false
abbrev St.bl(st:St)(i:Nat):Nat:=Iw st.bx i
abbrev St.Ka(st:St)(i:Nat):Bool:=GA st.bx i
theorem Rep.bl{β}{st}{a}{w}(h:Rep β st a w) i (hg:st.Ka i=true):st.bl i=β i:=by
 unfold St.Ka GA at hg;unfold St.bl Iw;cases hb:cZ st.bx i with
 | none=>rw[hb]at hg;cases hg
 | some b=>
  rw[hb]at hg;simp at hg;cases hk:b.blk with
  | none=>rw[hk]at hg;cases hg.2
  | some k=>
   have:=(h.bx i b hb hg.1).at_ k hk;simp[hk,this]
theorem Rep.ur{β}{st}{a}{w}(h:Rep β st a w){l}(hc:iM st.Ka l=true):cK st.bl l=cK β l:=iy (g:=st.Ka) h.bl l hc
theorem Rep.ag7{β}{st}{a}{w}(h:Rep β st a w){s}(hc:cln st.Ka s=true):val st.bl s=val β s:=ju (g:=st.Ka) h.bl s hc
def GB:List li->(List li->Prop)->Prop
 | [],K=>K []
 | b::r,K=>match b.ok,b.blk with
  | true,none=>∀k,GB r λr'=>K ({b with blk:=some k}::r')
  | _,_=>GB r λr'=>K (b::r')
def tD(k:Nat)(b:li):li:=match b.ok,b.blk with
 | true,none=>{b with blk:=some k}
 | _,_=>b
def nV(β:Nat->Nat):Nat->List li->List li
 | _,[]=>[]
 | n,b::r=>tD (β n) b::nV β (n+1) r
theorem AW β:∀{bs:List li} n {K:List li->Prop},GB bs K->K (nV β n bs)
 | [],_,_,h=>h
 | b::r,n,K,h=>by
  unfold GB at h;unfold nV;split at h
  ·have:=AW β (n+1) (h (β n));have e:tD (β n) b={b with blk:=some (β n)}:=by unfold tD<;>simp_all
   rw[e];exact this
  rename_i h1;have:=AW β (n+1) h;have e:tD (β n) b=b:=by
   unfold tD;split
   ·rename_i e1 e2;exact absurd e2 (λe2=>h1 e1 e2)
   rfl
  rw[e];exact this
theorem AX β:∀bs n i,cZ (nV β n bs) i=(cZ bs i).map (tD (β (n+i)))
 | [],_,_=>rfl
 | b::r,n,0=>rfl
 | b::r,n,i+1=>by
  simp[nV,cZ];rw[AX β r _ i,show n+1+i=n+(i+1) by omega]
def GC(w0 w:av):List li->List li->Prop->Prop
 | b::r,b'::r',p=>match b.ok,b.blk with
  | true,none=>w0.heap.size<=b'.blk.getD 0->b'.blk.getD 0<w.heap.size->GC w0 w r r' p
  | _,_=>GC w0 w r r' p
 | _,_,p=>p
theorem AY{β}{w0 w}:∀{bs:List li} n {p:Prop},GC w0 w bs (nV β n bs) p->(∀i b,cZ bs i=some b->b.ok=true->b.blk=none->w0.heap.size<=β (n+i)/\β (n+i)<w.heap.size)->p
 | [],_,_,h,_=>h
 | b::r,n,p,h,hb=>by
  simp[nV]at h;unfold GC at h;split at h
  ·rename_i h1 h2;obtain⟨e1,e2⟩:=hb 0 b rfl h1 h2;have e:(tD (β n) b).blk.getD 0=β n:=by unfold tD;rw[h1,h2];rfl
   rw[e]at h;exact AY _ (h e1 e2) λi c hc=>by have:=hb (i+1) c hc;rwa[show n+_=n+1+i by omega]at this
  exact AY _ h λi c hc=>by have:=hb (i+1) c hc;rwa[show n+_=n+1+i by omega]at this
def shB(g:Nat->Bool)(bl:Nat->Nat)(w:av)(all:Bool):List li->Prop->Prop
 | [],p=>p
 | b::r,p=>bif b.ok&&b.blk.isSome&&b.esc&&(all||!b.sh)&&iM g b.cells then Blk w (b.blk.getD 0) b.ty (cK bl b.cells)->shB g bl w all r p else shB g bl w all r p
theorem Ee{g}{bl}{w}{all}:∀{bs:List li} {p:Prop},shB g bl w all bs p->(∀i b,cZ bs i=some b->b.ok=true->b.blk.isSome=true->iM g b.cells=true->Blk w (b.blk.getD 0) b.ty (cK bl b.cells))->p
 | [],_,h,_=>h
 | b::r,p,h,hb=>by
  unfold shB at h;cases hc:(b.ok&&b.blk.isSome&&b.esc&&_&&iM g b.cells)with
  | true=>
   rw[hc]at h;simp at hc;exact Ee (h (hb 0 b rfl hc.1.1.1.1 hc.1.1.1.2 hc.2)) λi c hi=>hb (i+1) c hi
  | false=>
   rw[hc]at h;exact Ee h λi c hi=>hb (i+1) c hi
def wR:List li->List li
 | []=>[]
 | b::r=>{b with sh:=b.esc}::wR r
theorem qN:∀l i,cZ (wR l) i=(cZ l i).map λb=>{b with sh:=b.esc}
 | [],_=>rfl
 | b::r,0=>rfl
 | b::r,i+1=>qN r i
def AZ(bs:List li):List Nat->Bool
 | []=>true
 | i::r=>(match cZ bs i with
  | some b=>b.ok
  | none=>false)&&AZ bs r
theorem uK{bs}:∀{l:List Nat},AZ bs l=true->∀i∈l,∃b,cZ bs i=some b/\b.ok=true
 | i::r,h,j,hj=>by
  simp[AZ,aP]at h;rcases ba.1 hj with rfl | hj
  ·split at h
   ·rename_i b hb;exact⟨b,hb,h.1⟩
   cases h.1
  exact uK h.2 j hj
def NE:List li->List li->List (Nat×Bool)
 | b::r,b'::r'=>bif b.ok&&b.blk.isNone then(b'.blk.getD 0,b.esc)::NE r r' else NE r r'
 | _,_=>[]
def P2(k:Nat):List (Nat×Bool)->Prop->Prop
 | [],p=>p
 | x::r,p=>bif x.2 then P2 k r p else(x.1≠k->P2 k r p)
def P3(all:List (Nat×Bool)):List (Nat×Bool)->Prop->Prop
 | [],p=>p
 | x::r,p=>bif x.2 then P2 x.1 all (P3 all r p)else P3 all r p
theorem Ef{k}:∀{l:List _} {p:Prop},P2 k l p->(∀y,y∈l->y.2=false->y.1≠k)->p
 | [],_,h,_=>h
 | x::r,p,h,hd=>by
  unfold P2 at h;cases hx:x.2 with
  | true=>rw[hx]at h;exact Ef h λy hy=>hd y (dl _ hy)
  | false=>rw[hx]at h;exact Ef (h (hd x dZ hx)) λy hy=>hd y (dl _ hy)
theorem Eg{all}:∀{l:List _} {p:Prop},P3 all l p->(∀x,x∈l->x.2=true->∀y,y∈all->y.2=false->y.1≠x.1)->p
 | [],_,h,_=>h
 | x::r,p,h,hd=>by
  unfold P3 at h;cases hx:x.2 with
  | true=>rw[hx]at h;exact Eg (Ef h λy hy hf=>hd x dZ hx y hy hf) λz hz=>hd z (dl _ hz)
  | false=>rw[hx]at h;exact Eg h λz hz=>hd z (dl _ hz)
theorem wS{β}:∀{bs:List li} n {x:Nat×Bool},x∈NE bs (nV β n bs)->∃i b,cZ bs i=some b/\b.ok=true/\x=(β (n+i),b.esc)
 | [],_,_,h=>aaQ
 | b::r,n,x,h=>by
  simp[nV,NE]at h;cases hc:(b.ok&&b.blk.isNone)with
  | true=>
   rw[hc]at h;simp at hc;rcases ba.1 h with rfl | h
   ·refine⟨0,b,rfl,hc.1,?_⟩;have:(tD (β n) b).blk.getD 0=β n:=by unfold tD;rw[hc.1,hc.2];rfl
    rw[this];rfl
   obtain⟨i,c,h1,h2,h3⟩:=wS _ h;exact⟨i+1,c,h1,h2,by rw[h3,show n+1+i=n+(i+1) by omega]⟩
  | false=>
   rw[hc]at h;obtain⟨i,c,h1,h2,h3⟩:=wS _ h;exact⟨i+1,c,h1,h2,by rw[h3,show n+1+i=n+(i+1) by omega]⟩
def A0:List li->List Nat
 | []=>[]
 | b::r=>bif b.ok&&b.blk.isSome&&b.esc&&!b.sh then b.blk.getD 0::A0 r else A0 r
def A1:List li->List Nat
 | []=>[]
 | b::r=>bif b.ok&&b.blk.isSome&&!b.esc then b.blk.getD 0::A1 r else A1 r
def Zw(k:Nat):List Nat->Prop->Prop
 | [],p=>p
 | x::r,p=>x≠k->Zw k r p
def U4(S0:List Nat):List Nat->Prop->Prop
 | [],p=>p
 | k::r,p=>Zw k S0 (U4 S0 r p)
theorem KX{k}:∀{l:List Nat} {p:Prop},Zw k l p->(∀y,y∈l->y≠k)->p
 | [],_,h,_=>h
 | x::r,p,h,hd=>KX (h (hd x dZ)) λy hy=>hd y (dl _ hy)
theorem Eh{S0}:∀{l:List Nat} {p:Prop},U4 S0 l p->(∀k,k∈l->∀y,y∈S0->y≠k)->p
 | [],_,h,_=>h
 | k::r,p,h,hd=>Eh (KX h λy hy=>hd k dZ y hy) λz hz=>hd z (dl _ hz)
theorem yf:∀{bs:List li} {x:Nat},x∈A0 bs->∃i b,cZ bs i=some b/\b.ok=true/\b.esc=true/\b.blk=some x
 | [],_,h=>aaQ
 | b::r,x,h=>by
  simp[A0]at h;cases hc:(b.ok&&b.blk.isSome&&b.esc&&!b.sh)with
  | true=>
   rw[hc]at h;simp at hc;rcases ba.1 h with rfl | h
   ·obtain⟨k,hk⟩:=fY.1 hc.1.1.2;exact⟨0,b,rfl,hc.1.1.1,hc.1.2,adC⟩
   obtain⟨i,c,h1,h2⟩:=yf h;exact⟨i+1,c,h1,h2⟩
  | false=>
   rw[hc]at h;obtain⟨i,c,h1,h2⟩:=yf h;exact⟨i+1,c,h1,h2⟩
theorem yg:∀{bs:List li} {x:Nat},x∈A1 bs->∃i b,cZ bs i=some b/\b.ok=true/\b.esc=false/\b.blk=some x
 | [],_,h=>aaQ
 | b::r,x,h=>by
  simp[A1]at h;cases hc:(b.ok&&b.blk.isSome&&!b.esc)with
  | true=>
   rw[hc]at h;simp at hc;rcases ba.1 h with rfl | h
   ·obtain⟨k,hk⟩:=fY.1 hc.1.2;exact⟨0,b,rfl,hc.1.1,hc.2,adC⟩
   obtain⟨i,c,h1,h2⟩:=yg h;exact⟨i+1,c,h1,h2⟩
  | false=>
   rw[hc]at h;obtain⟨i,c,h1,h2⟩:=yg h;exact⟨i+1,c,h1,h2⟩
theorem GD{β}{st}{a}{w}(hR:Rep β st a w):∀k,k∈A0 st.bx->∀y,y∈A1 st.bx->y≠k:=λk hk y hy=>by
 obtain⟨i,b,i1,i2,i3,i4⟩:=yf hk;obtain⟨j,c,j1,j2,j3,j4⟩:=yg hy;rw[<-(hR.bx i b i1 i2).at_ k i4,<-(hR.bx j c j1 j2).at_ y j4];refine hR.ne j i c b j1 i1 j2 i2 λe=>?_;subst e;rw[i1]at j1;injection j1 with j1;subst j1;rw[i3]at j3;cases j3
def fe(st:St)(K:St->Prop):Prop:=
 bif st.mv then
  bif AZ st.bx st.dt then
   GB st.bx λbx=>∀w,GC st.w0 w st.bx bx (Only (st.dt.map (Iw bx)) st.w0 w->
    shB (GA bx) (Iw bx) w true bx (P3 (NE st.bx bx) (NE st.bx bx) (U4 (A1 st.bx) (A0 st.bx) (K {st with bx:=wR bx,w0:=w,mv:=false,dt:=[]}))))
  else False
 else shB st.Ka st.bl st.w0 false st.bx (U4 (A1 st.bx) (A0 st.bx) (K {st with bx:=wR st.bx}))
theorem dW{st}{K}(h:fe st K){β}{a}{w}(hR:Rep β st a w):∃cO,K cO/\Ext st cO/\Rep β cO a w/\cO.mv=false/\cO.fr=st.fr/\cO.n=st.n/\cO.ct=st.ct/\cO.bx.length=st.bx.length:=by
 rcases nU h with⟨hm,h⟩ | ⟨hm,h⟩
 case inr=>
  have hk:=Ee h λi b hb ho hs hc=>by
   have:=(hR.bx i b hb ho).blk;cases hk:b.blk with
   | none=>rw[hk]at hs;cases hs
   | some k=>
    have e:=(hR.bx i b hb ho).at_ k hk;rw[hR.ur hc,<-hR.still hm];rw[e]at this;exact this
  have hk:=Eh hk (GD hR);have key:∀i b',cZ (wR st.bx) i=some b'->∃b,cZ st.bx i=some b/\b'={b with sh:=b.esc}:=λi b' hb=>by
   rw[qN]at hb;cases hn:cZ st.bx i with
   | none=>rw[hn]at hb;cases hb
   | some b=>rw[hn]at hb;exact⟨b,rfl,by simpa using hb.symm⟩
  refine⟨_,hk,⟨rfl,aY _,λ_ _ _ h _=>h,λi b' hb ho _=>?_,λi b hb=>?_,FX⟩,⟨hR.fr,λi b' hb ho=>?_,λi j bi bj h1 h2 h3 h4 wG=>?_,hR.only,hR.still⟩,hm,rfl,rfl,rfl,?_⟩
  ·obtain⟨b,h1,rfl⟩:=key i b' hb;exact⟨b,h1,ho,rfl,rfl,rfl,λ_ h=>h⟩
  ·exact⟨{b with sh:=b.esc},by rw[qN,hb];rfl,rfl,rfl,λ_ h=>h⟩
  ·obtain⟨b,h1,rfl⟩:=key i b' hb;have:=hR.bx i b h1 ho;exact⟨this.blk,this.at_,this.new⟩
  ·obtain⟨b,g1,rfl⟩:=key i bi h1;obtain⟨c,g2,rfl⟩:=key j bj h2;exact hR.ne i j b c g1 g2 h3 h4 wG
  have:∀l:List li,(wR l).length=l.length:=λl=>by
   induction l with
   | nil=>rfl
   | cons b r ih=>simp[wR,ih]
  exact this _
 case inl=>
  obtain⟨fX,h⟩:=dB h;have h:=AW β 0 h w;have vH:∀i,cZ _ i=(cZ st.bx i).map (tD (β i)):=λi=>by rw[AX,bM]
  have CK:∀i b,cZ st.bx i=some b->b.ok=true->∃b',cZ _ i=some b'/\b'.ok=true/\b'.blk=some _/\b'.cells=b.cells/\b'.ty=b.ty/\b'.stp=b.stp:=λi b hb ho=>by
   refine⟨tD _ b,by rw[vH,hb];rfl,?_⟩;unfold tD;split
   ·exact⟨ho,rfl,rfl,rfl,rfl⟩
   rename_i ii;refine⟨ho,?_,rfl,rfl,rfl⟩;cases hk:b.blk with
   | none=>exact absurd hk (λe=>ii ho e)
   | some k=>rw[(hR.bx i b hb ho).at_ k hk]
  have aaS:∀i b',cZ (nV β 0 st.bx) i=some b'->b'.ok=true->∃b,cZ st.bx i=some b/\b.ok=true/\b'.blk=some _/\b'.cells=b.cells/\b'.ty=b.ty/\b'.stp=b.stp:=λi b' hb ho=>by
   rw[vH]at hb;cases hn:cZ st.bx i with
   | none=>rw[hn]at hb;cases hb
   | some b=>
    rw[hn]at hb;simp at hb;subst hb;have hob:=by
     unfold tD at ho;split at ho
     ·assumption
     exact ho
    obtain⟨b2,e1,e2,e3,e4,e5,e6⟩:=CK i b hn hob;rw[vH,hn]at e1;simp at e1;subst e1;exact⟨b,rfl,hob,e3,e4,e5,e6⟩
  have h:=AY 0 h λi b hb ho hk=>by
   rw[bM];exact⟨(hR.bx i b hb ho).new hk,(hR.bx i b hb ho).blk.lt⟩
  have edt:st.dt.map (Iw (nV β 0 st.bx))=st.dt.map β:=by
   refine tf λi hi=>?_;obtain⟨b,h1,h2⟩:=uK fX i hi;obtain⟨b',e1,e2,e3,_⟩:=CK i b h1 h2;unfold Iw;rw[e1];simp[e3]
  have h:=h (by rw[edt];exact hR.only);have qv:∀i,GA (nV β 0 st.bx) i=true->Iw (nV β 0 st.bx) i=β i:=λi hg=>by
   unfold GA at hg;unfold Iw;cases hn:cZ (nV β 0 st.bx) i with
   | none=>rw[hn]at hg;cases hg
   | some b'=>
    rw[hn]at hg;simp at hg;obtain⟨b,_,_,e3,_⟩:=aaS i b' hn hg.1;simp[e3]
  have hk:=Ee h λi b' hb ho hs hc=>by
   obtain⟨b,e1,e2,e3,e4,e5,e6⟩:=aaS i b' hb ho;rw[iy qv _ hc,e3,e4,e5];exact(hR.bx i b e1 e2).blk
  have hk:=Eg hk λx hx M6 y hy hye=>by
   obtain⟨i,b,i1,i2,rfl⟩:=wS 0 hx;obtain⟨j,c,j1,j2,rfl⟩:=wS 0 hy;rw[bM,bM];refine hR.ne j i c b j1 i1 j2 i2 λe=>?_;subst e;rw[i1]at j1;injection j1 with j1;subst j1;rw[M6]at hye;cases hye
  have hk:=Eh hk (GD hR);have key:∀i b',cZ _ i=some b'->b'.ok=true->∃b,cZ st.bx i=some b/\b.ok=true/\b'.blk=some _/\b'.cells=b.cells/\b'.ty=b.ty/\b'.stp=b.stp:=λi b' hb ho=>by
   rw[qN]at hb;cases hn:cZ (nV β 0 st.bx) i with
   | none=>rw[hn]at hb;cases hb
   | some c=>
    rw[hn]at hb;simp at hb;subst hb;exact aaS i c hn ho
  refine⟨_,hk,⟨rfl,aY _,λ_ _ _ h _=>h,λi b' hb ho _=>?_,λi b hb=>?_,FX⟩,⟨hR.fr,λi b' hb ho=>?_,λi j bi bj h1 h2 h3 h4 wG=>?_,Only.refl _ _,λ_=>rfl⟩,rfl,rfl,rfl,rfl,?_⟩
  ·obtain⟨b,e1,e2,e3,e4,e5,e6⟩:=key i b' hb ho;exact⟨b,e1,e2,e4.symm,e5.symm,e6.symm,λk hk=>by rw[e3,(hR.bx i b e1 e2).at_ k hk]⟩
  ·refine⟨{tD _ b with sh:=(tD _ b).esc},by rw[qN,vH,hb];rfl,?_⟩;unfold tD;split
   ·rename_i e1 e2;exact⟨rfl,rfl,λk hk=>by rw[e2]at hk;cases hk⟩
   exact⟨rfl,rfl,λ_ h=>h⟩
  ·obtain⟨b,e1,e2,e3,e4,e5,e6⟩:=key i b' hb ho;refine⟨by rw[e4,e5];exact(hR.bx i b e1 e2).blk,λk hk=>by rw[e3]at hk;simpa using hk,λhk=>by rw[e3]at hk;cases hk⟩
  ·obtain⟨b,e1,e2,_⟩:=key i bi h1 h3;obtain⟨c,f1,f2,_⟩:=key j bj h2 h4;exact hR.ne i j b c e1 f1 e2 f2 wG
  have l1:∀l:List li,(wR l).length=l.length:=λl=>by
   induction l with
   | nil=>rfl
   | cons b r ih=>simp[wR,ih]
  have l2:∀(l:List li) n,(nV β n l).length=l.length:=λl=>by
   induction l with
   | nil=>intro n;rfl
   | cons b r ih=>intro n;simp[nV,ih]
  exact(l1 _).trans (l2 _ _)
def noB(n:Nat)(s:SV):Bool:=cln (λj=>!Nat.beq j n) s
def U5(n:Nat)(l:List SV):Bool:=iM (λj=>!Nat.beq j n) l
def NF(n:Nat):List (Nat×Nat×SV)->Bool
 | []=>true
 | p::r=>noB n p.2.2&&NF n r
def I7(n:Nat):List li->Bool
 | []=>true
 | b::r=>(!b.ok||U5 n b.cells)&&I7 n r
theorem Ei{n}:∀{l:List _},NF n l=true->∀i p,dV l i=some p->noB n p.2=true
 | [],_,i,p,h=>aaQ
 | (k,q)::r,h,i,p,hl=>by
  simp[NF,aP]at h;simp[dV]at hl;cases hb:Nat.beq k i with
  | true=>rw[hb]at hl;simp at hl;subst hl;exact h.1
  | false=>rw[hb]at hl;exact Ei h.2 i p adK
theorem Ej{n}:∀{l:List li},I7 n l=true->∀i b,cZ l i=some b->b.ok=true->U5 n b.cells=true
 | c::r,h,0,b,hb,ho=>by
  simp[I7,aP,cx,cV]at h;simp[cZ,bq]at hb;subst hb;rcases h.1 with h1 | h1
  ·rw[ho]at h1;cases h1
  exact h1
 | c::r,h,i+1,b,hb,ho=>by
  simp[I7,aP]at h;exact Ej h.2 i b hb ho
def Cq(β:Nat->Nat)(n b:Nat):Nat->Nat:=λi=>if i=n then b else β i
theorem A2{β}{n b:Nat}:∀i,(!Nat.beq i n)=true->β i=Cq β n b i:=λi h=>by
 unfold Cq;rw[aQ];rintro rfl;simp at h
section
variable {β:Nat->Nat} {st:St} {a:Act} {w w1:av}
def St.FC(st:St)(d:Option Tmp)(t:TypeId)(zs:List SV):St:=
 St.put {st with bx:=st.bx++[⟨none,t,zs,st.ct,true,false,false⟩],mv:=true,ct:=st.ct+1} d (.box st.bx.length 0)
theorem Ext.FC st d t zs:Ext st (st.FC d t zs):=by
 refine Ext.trans (t:={st with bx:=st.bx++[_],mv:=true,ct:=st.ct+1}) ⟨rfl,jr _,λ_ _ _ h _=>h,λi b' hb ho hs=>?_,λi b hb=>?_,FX⟩ (Ext.put _ _ _)
 ·rw[lp]at hb;split at hb
  ·simp at hb;subst hb;dsimp only at hs;omega
  exact⟨b',hb,ho,rfl,rfl,rfl,λ_ h=>h⟩
 exact⟨b,by dsimp only;rw[lp,aQ (by have:=rN hb;omega)];exact hb,rfl,rfl,λ_ h=>h⟩
theorem Rep.FC(hR:Rep β st a w){d}{t}{zs}{b:Nat}(h1:NF st.bx.length st.fr=true)(h2:I7 st.bx.length st.bx=true)(h3:U5 st.bx.length zs=true)
  (hb:w.heap.size<=b) (hO:Only [] w w1) (hB:Blk w1 b t (cK β zs)) (hdt:AZ st.bx st.dt=true):
  Rep (Cq β st.bx.length b) (st.FC d t zs) (a.put d (.pointer (some ⟨b,0,none⟩))) w1:=by
 have vX:Cq β st.bx.length b st.bx.length=b:=by unfold Cq;rw[aV rfl]
 have bT:∀{i c},cZ st.bx i=some c->Cq β st.bx.length b i=β i:=fun{i c} h=>by
  unfold Cq;rw[aQ];have:=rN h;omega
 have base:Rep (Cq β st.bx.length b) {st with bx:=st.bx++[⟨none,t,zs,st.ct,true,false,false⟩],mv:=true,ct:=st.ct+1} a w1:=by
  refine⟨rL ⟨hR.ok.sz,hR.ok.df,λi p hl hi=>?_⟩,λi c hc ho=>?_,λi j bi bj g1 g2 g3 g4 wG=>?_,?_,λh=>aaQ⟩
  ·rw[hR.ok.at_ i p hl hi];congr 1;exact ju (g:=λj=>!Nat.beq j st.bx.length) A2 _ (Ei h1 i p hl)
  ·rw[lp]at hc;split at hc
   ·rename_i he;simp at hc;subst hc;subst he;refine⟨?_,λk hk=>adL,λ_=>?_⟩
    ·rw[vX];rw[<-iy (g:=λj=>!Nat.beq j st.bx.length) (β:=β) (β':=Cq β st.bx.length b) A2 _ h3];exact hB
    rw[vX];exact bB hR.only.size hb
   have e:=bT hc;obtain⟨k1,k2,k3⟩:=hR.bx i c hc ho;refine⟨?_,λk hk=>by rw[e];exact k2 k hk,λhk=>by rw[e];exact k3 hk⟩;rw[e,<-iy (g:=λj=>!Nat.beq j st.bx.length) (β:=β) (β':=Cq β st.bx.length b) A2 _ (Ej h2 i c hc ho)];exact hO.blk k1 aM
  ·rw[lp]at g1 g2;split at g1
   ·rename_i e1;split at g2
    ·omega
    subst e1;rw[vX,bT g2];have:=(hR.bx j bj g2 g4).blk.lt;omega
   split at g2
   ·rename_i e2;subst e2;rw[vX,bT g1];have:=(hR.bx i bi g1 g3).blk.lt;omega
   rw[bT g1,bT g2];exact hR.ne i j bi bj g1 g2 g3 g4 wG
  have e:=tf λi hi=>by
   obtain⟨c,hc,_⟩:=uK hdt i hi;exact bT hc
  rw[e];exact hR.only.ca hO
 have:=base.put d (.box st.bx.length 0);rw[show val (Cq β st.bx.length b) _=.pointer _ by
  show Value.pointer _=_;rw[vX]]at this
 exact this
def St.uu(st:St)(i:Nat)(b:li)(cs:List SV):St:=
 {st with bx:=NB st.bx i {b with cells:=cs,stp:=st.ct,sh:=false},mv:=true,dt:=(bif b.blk.isSome&&!st.dt.elem i then i::st.dt else st.dt),ct:=st.ct+1}
theorem Ext.uu{st}{i}{b}{cs}(h:cZ st.bx i=some b):Ext st (st.uu i b cs):=by
 refine⟨rfl,jr _,λ_ _ _ h _=>h,λj b' hb ho hs=>?_,λj c hc=>?_,FX⟩
 ·simp[St.uu]at hb;rw[jS h]at hb;split at hb
  ·simp at hb;subst hb;dsimp only at hs;omega
  exact⟨b',hb,ho,rfl,rfl,rfl,λ_ h=>h⟩
 simp[St.uu];rw[jS h];split
 ·rename_i e;subst e;rw[h]at hc;simp at hc;subst hc;exact⟨_,rfl,rfl,rfl,λ_ h=>h⟩
 exact⟨c,hc,rfl,rfl,λ_ h=>h⟩
theorem Rep.uu(hR:Rep β st a w){i}{b}{cs}(h:cZ st.bx i=some b)(ho:b.ok=true)(hO:Only [β i] w w1)(hB:Blk w1 (β i) b.ty (cK β cs)):Rep β (st.uu i b cs) a w1:=by
 have hk:=hR.bx i b h ho;refine⟨hR.fr,λj c hc oh=>?_,λj l bj bl g1 g2 g3 g4 wG=>?_,?_,λh=>aaQ⟩
 ·simp[St.uu]at hc;rw[jS h]at hc;split at hc
  ·rename_i e;subst e;simp at hc;subst hc;exact⟨hB,hk.at_,hk.new⟩
  rename_i ii;obtain⟨k1,k2,k3⟩:=hR.bx j c hc oh;exact⟨hO.blk k1 (by simpa using hR.ne j i c b hc h oh ho ii),k2,k3⟩
 ·simp[St.uu]at g1 g2;rw[jS h]at g1 g2;have key:∀{j c},(if j=i then some {b with cells:=cs,stp:=st.ct,sh:=false}else cZ st.bx j)=some c->c.ok=true->∃c',cZ st.bx j=some c'/\c'.ok=true:=fun{j c} g hc=>by
   split at g
   ·rename_i e;subst e;exact⟨b,h,ho⟩
   exact⟨c,g,hc⟩
  obtain⟨c1,e1,e2⟩:=key g1 g3;obtain⟨c2,f1,f2⟩:=key g2 g4;exact hR.ne j l c1 c2 e1 f1 e2 f2 wG
 show Only ((bif b.blk.isSome&&!st.dt.elem i then i::st.dt else st.dt).map β) st.w0 w1;cases hb:(b.blk.isSome&&!st.dt.elem i)with
 | true=>exact hR.only.cons hO
 | false=>
  simp only[jI,gx]at hb;rcases hb with hb | hb
  ·refine hR.only.new hO (hk.new ?_);cases hn:b.blk with
   | none=>rfl
   | some k=>rw[hn]at hb;cases hb
  refine hR.only.mem hO (gM.2 ⟨i,?_,rfl⟩);simpa using hb
structure Flg (l l':List li):Prop where
 fw:∀i b,cZ l' i=some b->∃c,cZ l i=some c/\c.blk=b.blk/\c.ty=b.ty/\c.cells=b.cells/\c.stp=b.stp/\c.ok=b.ok
 bw:∀i b,cZ l i=some b->∃c,cZ l' i=some c/\c.ty=b.ty/\c.ok=b.ok/\∀k,b.blk=some k->c.blk=some k
theorem Flg.refl l:Flg l l:=⟨λi b h=>⟨b,h,rfl,rfl,rfl,rfl,rfl⟩,PV⟩
theorem Flg.trans{l m n}(h:Flg l m)(k:Flg m n):Flg l n:=⟨λi b hb=>by
 obtain⟨c,c1,c2,c3,c4,c5,c6⟩:=k.fw i b hb;obtain⟨d,d1,d2,d3,d4,d5,d6⟩:=h.fw i c c1;exact⟨d,d1,d2.trans c2,d3.trans c3,d4.trans c4,d5.trans c5,d6.trans c6⟩,λi b hb=>by
 obtain⟨c,c1,c2,c3,c4⟩:=h.bw i b hb;obtain⟨d,d1,d2,d3,d4⟩:=k.bw i c c1;exact⟨d,d1,d2.trans c2,d3.trans c3,λm hm=>d4 m (c4 m hm)⟩⟩
theorem Ext.flg{l'}(h:Flg st.bx l'):Ext st {st with bx:=l'}:=⟨rfl,aY _,λ_ _ _ h _=>h,λi b' hb ho _=>by
 obtain⟨c,c1,c2,c3,c4,c5,c6⟩:=h.fw i b' hb;exact⟨c,c1,c6.trans ho,c4,c3,c5,λk hk=>by rw[<-c2];exact hk⟩,h.bw,FX⟩
theorem Rep.flg{l'}(hR:Rep β st a w)(h:Flg st.bx l'):Rep β {st with bx:=l'} a w:=by
 refine⟨hR.fr,λi b hb ho=>?_,λi j bi bj g1 g2 g3 g4 wG=>?_,hR.only,hR.still⟩
 ·obtain⟨c,c1,c2,c3,c4,c5,c6⟩:=h.fw i b hb;obtain⟨k1,k2,k3⟩:=hR.bx i c c1 (c6.trans ho);exact⟨by rw[<-c3,<-c4];exact k1,λk hk=>k2 k (c2.trans hk),λhk=>k3 (c2.trans hk)⟩
 obtain⟨c,c1,_,_,_,_,c6⟩:=h.fw i bi g1;obtain⟨d,d1,_,_,_,_,d6⟩:=h.fw j bj g2;exact hR.ne i j c d c1 d1 (c6.trans g3) (d6.trans g4) wG
def Xo:SV->List Nat
 | .box i _=>[i]
 | .fn _ fs cs=>Xo fs++Xo cs
 | .agg l=>Xo l
 | .tup l=>Xo l
 | .c h t=>Xo h++Xo t
 | _=>[]
def NG:Nat->List Nat->List li->List li
 | 0,_,bx=>bx
 | _+1,[],bx=>bx
 | f+1,i::r,bx=>match cZ bx i with
  | some b=>bif b.esc then NG f r bx else NG f (flat Xo b.cells++r) (NB bx i {b with esc:=true,sh:=false})
  | none=>NG f r bx
theorem tE:∀f l bx,Flg bx (NG f l bx)
 | 0,_,bx=>Flg.refl _
 | _+1,[],bx=>Flg.refl _
 | f+1,i::r,bx=>by
  unfold NG;split
  ·rename_i b hb;cases he:b.esc with
   | true=>exact tE f r bx
   | false=>
    refine Flg.trans ⟨λj c hc=>?_,λj c hc=>?_⟩ (tE f _ _);rotate_left
    ·rw[jS hb];split
     ·rename_i e;subst e;rw[hb]at hc;simp at hc;subst hc;exact⟨_,rfl,rfl,rfl,λ_ h=>h⟩
     exact⟨c,hc,rfl,rfl,λ_ h=>h⟩
    rw[jS hb]at hc;split at hc
    ·rename_i e;subst e;simp at hc;subst hc;exact⟨b,hb,rfl,rfl,rfl,rfl,rfl⟩
    exact⟨c,hc,rfl,rfl,rfl,rfl,rfl⟩
  exact tE f r bx
def St.esc(st:St)(l:List SV):St:={st with bx:=NG 1000 (flat Xo l) st.bx}
theorem Ext.esc st l:Ext st (st.esc l):=Ext.flg (tE _ _ _)
theorem Rep.esc(hR:Rep β st a w) l:Rep β (st.esc l) a w:=hR.flg (tE _ _ _)
end
def zc(P:Program)(t:TypeId):Option (List SV):=match P.info? t with
 | some i=>(match i.zero with
  | some z=>I2 z.cells.toList
  | none=>none)
 | none=>none
theorem Xp{P}{t}{zs}(h:zc P t=some zs) w:∃z,(zeroValue t).run P w=.ok z w/\∀β,z.cells=(cK β zs).toArray:=by
 unfold zc at h;split at h
 ·rename_i i hi;split at h
  ·rename_i z hz;exact⟨z,by simp[zeroValue,typeInfo,hi,hz],λβ=>by rw[zX β h]⟩
  cases h
 cases h
def chk(st:St)(zs:List SV):Bool:=NF st.bx.length st.fr&&I7 st.bx.length st.bx&&U5 st.bx.length zs&&AZ st.bx st.dt
def qO:List li->Bool
 | []=>true
 | b::r=>(!b.ok||b.blk.isSome)&&qO r
theorem wT:∀{l:List li},qO l=true->∀i b,cZ l i=some b->b.ok=true->b.blk.isSome=true
 | c::r,h,0,b,hb,ho=>by
  simp[qO,aP,cx,cV]at h;simp[cZ,bq]at hb;subst hb;rcases h.1 with h1 | h1
  ·rw[ho]at h1;cases h1
  exact h1
 | c::r,h,i+1,b,hb,ho=>by
  simp[qO,aP]at h;exact wT h.2 i b hb ho
def neB(bk:Nat):List li->Prop->Prop
 | [],p=>p
 | b::r,p=>bif b.ok then b.blk.getD 0≠bk/\neB bk r p else neB bk r p
theorem I8{bk}:∀{l:List li} {p:Prop},neB bk l p->p/\∀i b,cZ l i=some b->b.ok=true->b.blk.getD 0≠bk
 | [],p,h=>⟨h,λi b hb=>adM⟩
 | c::r,p,h=>by
  rcases nU h with⟨hc,h⟩ | ⟨hc,h⟩
  ·obtain⟨h1,h2⟩:=h;obtain⟨h3,h4⟩:=I8 h2;refine⟨h3,λi b hb ho=>?_⟩;cases i with
   | zero=>simp[cZ,bq]at hb;subst hb;exact h1
   | succ i=>exact h4 i b hb ho
  obtain⟨h3,h4⟩:=I8 h;refine⟨h3,λi b hb ho=>?_⟩;cases i with
  | zero=>simp[cZ,bq]at hb;subst hb;rw[hc]at ho;cases ho
  | succ i=>exact h4 i b hb ho
def vP(esc:Bool):List li->List Nat
 | []=>[]
 | b::r=>bif b.ok&&(esc||!b.esc)then b.blk.getD 0::vP esc r else vP esc r
theorem oU{esc}:∀{l:List li} {i:Nat} {b:li},cZ l i=some b->b.ok=true->(esc||!b.esc)=true->b.blk.getD 0∈vP esc l
 | c::r,0,b,h,ho,he=>by
  simp[cZ,bq]at h;subst h;simp[vP,ho,he]
 | c::r,i+1,b,h,ho,he=>by
  have:=oU (l:=r) (i:=i) h ho he;simp[vP];cases(c.ok&&_)with
  | true=>simp[this]
  | false=>exact this
def A3(l:List Nat)(w0 w1:av)(p:Prop):Prop:=match l with
 | []=>p
 | _=>bS l w0 w1/\p
theorem tF{l}{w0 w1}{p}(h:A3 l w0 w1 p):p/\bS l w0 w1:=by
 unfold A3 at h;split at h
 ·exact⟨h,PO⟩
 exact⟨h.2,h.1⟩
def P4(P:Program)(w1:av)(ct:Nat):List li->(List li->Prop)->Prop
 | [],K=>K []
 | b::r,K=>bif b.ok&&b.esc then UU (PW P 12 b.ty) λvs=>Blk w1 (b.blk.getD 0) b.ty (cK β0 vs)/\P4 P w1 ct r λr'=>K ({b with cells:=vs,stp:=ct,sh:=true}::r')
  else P4 P w1 ct r λr'=>K (b::r')
theorem zY{P}{w1}{ct}:∀{l:List li} {K:List li->Prop},P4 P w1 ct l K->∃l',K l'/\(∀i b',cZ l' i=some b'->∃b,cZ l i=some b/\b'.ok=b.ok/\b'.blk=b.blk/\b'.ty=b.ty/\
  ((b'=b/\(b.ok&&b.esc)=false)∨(b'.stp=ct/\(∀β,cK β b'.cells=cK β0 b'.cells)/\Blk w1 (b.blk.getD 0) b.ty (cK β0 b'.cells))))/\
  ∀i b,cZ l i=some b->∃b',cZ l' i=some b'/\b'.ty=b.ty/\b'.ok=b.ok/\∀k,b.blk=some k->b'.blk=some k
 | [],K,h=>⟨[],h,λi b' hb=>adM,λi b hb=>adM⟩
 | c::r,K,h=>by
  rcases nU h with⟨hc,h⟩ | ⟨hc,h⟩
  ·obtain⟨vs,⟨hB,h⟩,_,qv⟩:=tC h;obtain⟨l',h1,h2,h3⟩:=zY h;refine⟨_,h1,λi b' hb=>?_,λi b hb=>?_⟩;rotate_left
   ·cases i with
    | zero=>simp[cZ,bq]at hb;subst hb;exact⟨_,rfl,rfl,rfl,λ_ h=>h⟩
    | succ i=>exact h3 i b hb
   cases i with
   | zero=>
    simp[cZ,bq]at hb;subst hb;exact⟨c,rfl,rfl,rfl,rfl,.inr ⟨rfl,λβ=>iy (g:=λ_=>false) (λi h=>aaQ) vs (qv _),hB⟩⟩
   | succ i=>exact h2 i b' hb
  obtain⟨l',h1,h2,h3⟩:=zY h;refine⟨_,h1,λi b' hb=>?_,λi b hb=>?_⟩;rotate_left
  ·cases i with
   | zero=>simp[cZ,bq]at hb;subst hb;exact⟨_,rfl,rfl,rfl,λ_ h=>h⟩
   | succ i=>exact h3 i b hb
  cases i with
  | zero=>
   simp[cZ,bq]at hb;subst hb;exact⟨c,rfl,rfl,rfl,rfl,.inl ⟨rfl,hc⟩⟩
  | succ i=>exact h2 i b' hb
def exR(P:Program):List TypeId->(List SV->Prop)->Prop
 | [],K=>K []
 | t::r,K=>UU (PW P 12 t) λvs=>exR P r λrs=>K (ND (match P.underlying t with | some d=>mP d | none=>false) vs::rs)
theorem Ek g:∀l,cln g (j7 l)=iM g l
 | []=>rfl
 | s::r=>by simp[j7,cln,iM,Ek g r]
theorem KY g ag {l} (h:iM g l=true):cln g (ND ag l)=true:=by
 cases ag with
 | true=>show cln g (j7 l)=true;rw[Ek];exact h
 | false=>
  cases l with
  | nil=>rfl
  | cons s r=>simp[iM,aP]at h;exact h.1
theorem El{P}:∀{ts:List TypeId} {K:List SV->Prop},exR P ts K->∃rs,K rs/\∀g,iM g rs=true
 | [],K,h=>⟨[],h,λ_=>rfl⟩
 | t::r,K,h=>by
  obtain⟨vs,h,_,h2⟩:=tC h;obtain⟨rs,h3,h4⟩:=El h;exact⟨_,h3,λg=>by simp[iM,KY g _ (h2 g),h4 g,da]⟩
def A4(rs:List SV):SV:=match rs with
 | [r]=>r
 | rs=>.tup (j7 rs)
theorem wU{g}{rs}(h:iM g rs=true):cln g (A4 rs)=true:=by
 unfold A4;split
 ·simp only[iM,aP]at h;exact h.1
 show cln g (j7 _)=true;rw[Ek];exact h
def En(P:Program)(t:TypeId):List TypeId:=match P.underlying t with
 | some (.tuple ts)=>ts.toList
 | _=>[t]
def P5(P:Program)(f:FuncId):Bool:=match P.funcs[f]? with
 | some fn=>!(fn.name== "runtime.NumGoroutine")&&fn.body.isSome
 | none=>false
theorem kn{P}{f}(h:P5 P f=true) args w:(callFunc f args).run P w=.ok (.enter f args) w:=by
 unfold P5 at h;split at h
 ·rename_i fn hf;simp at h;have hb:fn.body≠none:=by
   intro hq;rw[hq]at h;cases h.2
  have hn:fn.name≠ "runtime.NumGoroutine" :=by
   intro hq;rw[hq]at h;simp at h
  simp[callFunc,hf,hn,hb]
 cases h
def ael(P:Program)(f:FuncId):List TypeId:=match P.funcs[f]? with
 | some fn=>fn.resultTypes.toList
 | none=>[]
abbrev XT:=av->av->Prop->Prop
section
variable {P:Program} {β:Nat->Nat} {st:St} {a:Act} {w w1:av}
theorem Rep.next(hR:Rep β st a w)(hm:st.mv=false)(hb:qO st.bx=true){bx'}{ct'}
  (h:∀i b',cZ bx' i=some b'->b'.ok=true->∃b,cZ st.bx i=some b/\b.ok=true/\b'.blk=b.blk/\Blk w1 (β i) b'.ty (cK β b'.cells)):Rep β {st with bx:=bx',w0:=w1,ct:=ct'} a w1:=by
 have key:∀i b,cZ st.bx i=some b->b.ok=true->b.blk=some (β i):=λi b h1 h2=>by
  have:=wT hb i b h1 h2;cases hk:b.blk with
  | none=>rw[hk]at this;cases this
  | some k=>rw[(hR.bx i b h1 h2).at_ k hk]
 refine⟨hR.fr,λi b' ol ho=>?_,λi j bi bj g1 g2 g3 g4 wG=>?_,Only.refl _ _,λ_=>rfl⟩
 ·obtain⟨b,h1,h2,h3,h4⟩:=h i b' ol ho;exact⟨h4,λk hk=>by rw[h3,key i b h1 h2]at hk;simpa using hk,λhk=>by rw[h3,key i b h1 h2]at hk;cases hk⟩
 obtain⟨b,h1,h2,_⟩:=h i bi g1 g3;obtain⟨c,k1,k2,_⟩:=h j bj g2 g4;exact hR.ne i j b c h1 k1 h2 k2 wG
theorem Rep.OH(hR:Rep β st a w)(hb:qO st.bx=true){i}{b}(h1:cZ st.bx i=some b)(h2:b.ok=true):b.blk.getD 0=β i:=by
 have:=wT hb i b h1 h2;cases hk:b.blk with
 | none=>rw[hk]at this;cases this
 | some k=>rw[(hR.bx i b h1 h2).at_ k hk];rfl
def P6(P:Program)(X:XT)(st:St)(d:Option Tmp)(FJ:List TypeId)(f:FuncId)(args:List SV)(pD:List aw)(K:St->Prop):Prop:=
 bif iM st.Ka args&&qO st.bx then
  Calls P f (cK st.bl args++pD).toArray st.w0 λe w1=>exR P FJ λrs=>e=.returned (val β0 (A4 rs))/\
   A3 (vP false st.bx) st.w0 w1 (P4 P w1 st.ct st.bx λbx=>X st.w0 w1 (K (St.put {st with bx:=bx,w0:=w1,ct:=st.ct+1} d (A4 rs))))
 else False
theorem P7{X}{E:av->av->Prop}(hX:∀w0 w1 p,X w0 w1 p->p/\E w0 w1){d}{FJ}{f}{args}{pD}{K}(h:P6 P X st d FJ f args pD K)(hm:st.mv=false)(hR:Rep β st a w):
  Calls P f (cK β args++pD).toArray w λe w'=>∃v,e=.returned v/\∃cO,K cO/\Ext st cO/\E w w'/\Rep β cO (a.put d v) w':=by
 obtain⟨h0,h⟩:=dB h;simp at h0;rw[hR.ur h0.1,<-hR.still hm]at h;refine h.mono ?_;rintro e w1 h;obtain⟨rs,⟨rfl,h1⟩,qv⟩:=El h;obtain⟨h2,hS⟩:=tF h1;obtain⟨bx',h3,hb,IE⟩:=zY h2;obtain⟨h,hE⟩:=hX _ _ _ h3;have ev:val β0 _=val β _:=ju (g:=λ_=>false) (λi h=>aaQ) _ (wU (qv _));refine⟨_,rfl,_,h,?_,hE,?_⟩
 ·refine Ext.trans (t:={st with bx:=bx',w0:=w1,ct:=st.ct+1}) ⟨rfl,jr _,λ_ _ _ h _=>h,λi b' ol ho hs=>?_,IE,FX⟩ (Ext.put _ _ _);obtain⟨b,h1,h2,h3,h4,h5⟩:=hb i b' ol;rcases h5 with⟨rfl,_⟩ | _
  ·exact⟨b',h1,ho,rfl,rfl,rfl,λ_ h=>h⟩
  omega
 rw[ev];refine Rep.put (Rep.next hR hm h0.2 λi b' ol ho=>?_) _ _;obtain⟨b,h1,h2,h3,h4,h5⟩:=hb i b' ol;have F2:b.ok=true:=by rw[<-h2];exact ho
 refine⟨b,h1,F2,h3,?_⟩;have eD:=hR.OH h0.2 h1 F2;rcases h5 with⟨rfl,h6⟩ | ⟨_,h6,h7⟩
 ·have pE:=oU (esc:=false) h1 F2 (by rw[F2]at h6;simpa using h6);rw[eD]at pE;exact(hS _ pE).trans (hR.bx i b' h1 F2).blk
 rw[h4,h6 β,<-eD];exact h7
def A5(a b:List aw):List aw:=a++b
def P8(P:Program)(X:XT)(st:St)(d:Option Tmp)(FJ:List TypeId)(f:FuncId)(fst:List aw)(args:List SV)(pD:List aw)(K:St->Prop):Prop:=
 bif iM st.Ka args&&qO st.bx then
  Calls P f (A5 (A5 fst (cK st.bl args)) pD).toArray st.w0 λe w1=>exR P FJ λrs=>e=.returned (val β0 (A4 rs))/\
   A3 (vP false st.bx) st.w0 w1 (P4 P w1 st.ct st.bx λbx=>X st.w0 w1 (K (St.put {st with bx:=bx,w0:=w1,ct:=st.ct+1} d (A4 rs))))
 else False
theorem P9{X}{E:av->av->Prop}(hX:∀w0 w1 p,X w0 w1 p->p/\E w0 w1){d}{FJ}{f}{fst}{args}{pD}{K}(h:P8 P X st d FJ f fst args pD K)(hm:st.mv=false)(hR:Rep β st a w):
  Calls P f (A5 (A5 fst (cK β args)) pD).toArray w λe w'=>∃v,e=.returned v/\∃cO,K cO/\Ext st cO/\E w w'/\Rep β cO (a.put d v) w':=by
 obtain⟨h0,h⟩:=dB h;simp at h0;rw[hR.ur h0.1,<-hR.still hm]at h;refine h.mono ?_;rintro e w1 h;obtain⟨rs,⟨rfl,h1⟩,qv⟩:=El h;obtain⟨h2,hS⟩:=tF h1;obtain⟨bx',h3,hb,IE⟩:=zY h2;obtain⟨h,hE⟩:=hX _ _ _ h3;have ev:val β0 _=val β _:=ju (g:=λ_=>false) (λi h=>aaQ) _ (wU (qv _));refine⟨_,rfl,_,h,?_,hE,?_⟩
 ·refine Ext.trans (t:={st with bx:=bx',w0:=w1,ct:=st.ct+1}) ⟨rfl,jr _,λ_ _ _ h _=>h,λi b' ol ho hs=>?_,IE,FX⟩ (Ext.put _ _ _);obtain⟨b,h1,h2,h3,h4,h5⟩:=hb i b' ol;rcases h5 with⟨rfl,_⟩ | _
  ·exact⟨b',h1,ho,rfl,rfl,rfl,λ_ h=>h⟩
  omega
 rw[ev];refine Rep.put (Rep.next hR hm h0.2 λi b' ol ho=>?_) _ _;obtain⟨b,h1,h2,h3,h4,h5⟩:=hb i b' ol;have F2:b.ok=true:=by rw[<-h2];exact ho
 refine⟨b,h1,F2,h3,?_⟩;have eD:=hR.OH h0.2 h1 F2;rcases h5 with⟨rfl,h6⟩ | ⟨_,h6,h7⟩
 ·have pE:=oU (esc:=false) h1 F2 (by rw[F2]at h6;simpa using h6);rw[eD]at pE;exact(hS _ pE).trans (hR.bx i b' h1 F2).blk
 rw[h4,h6 β,<-eD];exact h7
def sM(P:Program)(X:XT)(st:St)(d:Option Tmp)(FJ:List TypeId)(args:List SV)(run:List aw->Sem aw)(K:St->Prop):Prop:=
 bif iM st.Ka args&&qO st.bx then
  exR P FJ λrs=>∃w1,(run (cK st.bl args)).run P st.w0=.ok (val β0 (A4 rs)) w1/\A3 (vP true st.bx) st.w0 w1 (X st.w0 w1 (K (St.put {st with w0:=w1} d (A4 rs))))
 else False
theorem KZ{X}{E:av->av->Prop}(hX:∀w0 w1 p,X w0 w1 p->p/\E w0 w1){d}{FJ}{args}{run}{K}(h:sM P X st d FJ args run K)(hm:st.mv=false)(hR:Rep β st a w):
  ∃v w',(run (cK β args)).run P w=.ok v w'/\∃cO,K cO/\Ext st cO/\E w w'/\Rep β cO (a.put d v) w':=by
 obtain⟨h0,h⟩:=dB h;simp at h0;rw[hR.ur h0.1,<-hR.still hm]at h;obtain⟨rs,⟨w1,hr,h⟩,qv⟩:=El h;obtain⟨h,hS⟩:=tF h;obtain⟨h,hE⟩:=hX _ _ _ h;have ev:val β0 _=val β _:=ju (g:=λ_=>false) (λi h=>aaQ) _ (wU (qv _));refine⟨_,w1,hr,_,h,?_,hE,?_⟩
 ·refine Ext.trans (t:={st with w0:=w1}) ⟨rfl,aY _,λ_ _ _ h _=>h,λi b' ol ho hs=>⟨b',ol,ho,rfl,rfl,rfl,λ_ h=>h⟩,PV,FX⟩ (Ext.put _ _ _)
 rw[ev];refine Rep.put (Rep.next (ct':=st.ct) hR hm h0.2 λi b' ol ho=>⟨b',ol,ho,rfl,?_⟩) _ _;have pE:=oU (esc:=true) ol ho rfl;rw[hR.OH h0.2 ol ho]at pE;exact(hS _ pE).trans (hR.bx i b' ol ho).blk
def Qa(P:Program)(X:XT)(st:St)(d:Option Tmp)(args:List SV)(run:List aw->Sem aw)(rs:SV)(K:St->Prop):Prop:=
 bif iM st.Ka args&&qO st.bx&&cln (λ_=>false) rs then
  ∃w1,(run (cK st.bl args)).run P st.w0=.ok (val β0 rs) w1/\A3 (vP true st.bx) st.w0 w1 (X st.w0 w1 (K (St.put {st with w0:=w1} d rs)))
 else False
theorem zZ{X}{E:av->av->Prop}(hX:∀w0 w1 p,X w0 w1 p->p/\E w0 w1){d}{args}{run}{rs}{K}(h:Qa P X st d args run rs K)(hm:st.mv=false)(hR:Rep β st a w):
  ∃v w',(run (cK β args)).run P w=.ok v w'/\∃cO,K cO/\Ext st cO/\E w w'/\Rep β cO (a.put d v) w':=by
 obtain⟨h0,h⟩:=dB h;simp at h0;rw[hR.ur h0.1.1,<-hR.still hm]at h;obtain⟨w1,hr,h⟩:=h;obtain⟨h,hS⟩:=tF h;obtain⟨h,hE⟩:=hX _ _ _ h;have ev:val β0 rs=val β rs:=ju (g:=λ_=>false) (λi h=>aaQ) _ h0.2;refine⟨_,w1,hr,_,h,?_,hE,?_⟩
 ·refine Ext.trans (t:={st with w0:=w1}) ⟨rfl,aY _,λ_ _ _ h _=>h,λi b' ol ho hs=>⟨b',ol,ho,rfl,rfl,rfl,λ_ h=>h⟩,PV,FX⟩ (Ext.put _ _ _)
 rw[ev];refine Rep.put (Rep.next (ct':=st.ct) hR hm h0.1.2 λi b' ol ho=>⟨b',ol,ho,rfl,?_⟩) _ _;have pE:=oU (esc:=true) ol ho rfl;rw[hR.OH h0.1.2 ol ho]at pE;exact(hS _ pE).trans (hR.bx i b' ol ho).blk
def U6(P:Program)(X:XT)(st:St)(d:Option Tmp)(args:List SV)(run:List aw->Sem Unit)(K:St->Prop):Prop:=
 bif iM st.Ka args&&qO st.bx then
  ∃w1,(run (cK st.bl args)).run P st.w0=.ok () w1/\A3 (vP true st.bx) st.w0 w1 (X st.w0 w1 (K (St.put {st with w0:=w1} d .un)))
 else False
theorem U7{X}{E:av->av->Prop}(hX:∀w0 w1 p,X w0 w1 p->p/\E w0 w1){d}{args}{run}{K}(h:U6 P X st d args run K)(hm:st.mv=false)(hR:Rep β st a w):
  ∃w',(run (cK β args)).run P w=.ok () w'/\∃cO,K cO/\Ext st cO/\E w w'/\Rep β cO (a.put d undef) w':=by
 obtain⟨h0,h⟩:=dB h;simp at h0;rw[hR.ur h0.1,<-hR.still hm]at h;obtain⟨w1,hr,h⟩:=h;obtain⟨h,hS⟩:=tF h;obtain⟨h,hE⟩:=hX _ _ _ h;refine⟨w1,hr,_,h,?_,hE,?_⟩
 ·refine Ext.trans (t:={st with w0:=w1}) ⟨rfl,aY _,λ_ _ _ h _=>h,λi b' ol ho hs=>⟨b',ol,ho,rfl,rfl,rfl,λ_ h=>h⟩,PV,FX⟩ (Ext.put _ _ _)
 refine Rep.put (v:=.un) (Rep.next (ct':=st.ct) hR hm h0.2 λi b' ol ho=>⟨b',ol,ho,rfl,?_⟩) _;have pE:=oU (esc:=true) ol ho rfl;rw[hR.OH h0.2 ol ho]at pE;exact(hS _ pE).trans (hR.bx i b' ol ho).blk
end
def rO(l:List aw)(i:Nat):aw:=match l,i with
 | [],_=>undef
 | v::_,0=>v
 | _::r,i+1=>rO r i
def zp:List Nat->List aw->List (Nat×aw)
 | i::r,v::s=>(i,v)::zp r s
 | _,_=>[]
def U8:List (Nat×SV)->List Nat
 | []=>[]
 | p::r=>p.1::U8 r
def Qb:List (Nat×SV)->List SV
 | []=>[]
 | p::r=>p.2::Qb r
theorem Xq β:∀l,zp (U8 l) (cK β (Qb l))=C5 β l
 | []=>rfl
 | p::r=>by
  have:=Xq β r;simp[cK]at this;simp[U8,Qb,cK,zp,C5,this]
def aem(P:Program)(t:TypeId):Bool:=match P.underlying t with
 | some (.pointer _)=>true
 | _=>false
def aen:Operand->Bool
 | .const _=>true
 | _=>false
def ptS:SV->Bool
 | .ptr _=>true
 | .ad _=>true
 | _=>false
def j8(P:Program):Op->Bool
 | .move _=>true
 | .assign _=>true
 | .pick _ _ _=>true
 | .binOp _ t x y _=>!(aem P t)||aen x||aen y
 | .unOp _ _ _=>true
 | .extract _ _=>true
 | .build _ _=>true
 | .makeFunc _ _ _=>true
 | .makeInterface _ _=>true
 | .nilCheck _=>true
 | .fieldAddr _ _ _=>true
 | .field _ _ _=>true
 | .indexAddr _ _ _=>true
 | .load _ _=>true
 | .index _ _ _=>true
 | .slice _ _ _ _ _=>true
 | .convert s d _=>(match P.underlying s,P.underlying d with
  | some (.int _),some (.int _)=>true
  | some .string,some .string=>true
  | some (.slice e),some .string=>(match P.underlying e with
   | some (.int .u8)=>true
   | _=>false)
  | _,_=>false)
 | .call c=>(match c.callee with
  | .builtin .len=>(match c.argTypes.toList with
   | [t]=>(match P.underlying t with
    | some (.slice _)=>true
    | some .string=>true
    | _=>false)
   | _=>false)
  | .builtin .cap=>true
  | .builtin .min=>true
  | .builtin .max=>true
  | _=>false)
 | _=>false
def zC:Op->Bool
 | .store _ _ _=>true
 | _=>false
def aeo(P:Program)(X:XT)(st:St)(o:Oper)(b:Builtin)(ts:Array TypeId)(vs:List SV)(K:St->Prop):Prop:=match b with
 | .append=>sM P X st o.dst (En P o.type) vs (λl=>Builtin.append_ ts o.type l.toArray) K
 | .copy=>sM P X st o.dst (En P o.type) vs (λl=>Builtin.copy_ ts o.type l.toArray) K
 | .delete=>sM P X st o.dst (En P o.type) vs (λl=>Builtin.delete_ ts o.type l.toArray) K
 | .clear=>sM P X st o.dst (En P o.type) vs (λl=>Builtin.clear_ ts o.type l.toArray) K
 | .len=>sM P X st o.dst (En P o.type) vs (λl=>Builtin.len_ ts o.type l.toArray) K
 | .unsafeSliceData=>sM P X st o.dst (En P o.type) vs (λl=>Builtin.unsafeSliceData_ ts o.type l.toArray) K
 | .unsafeString=>sM P X st o.dst (En P o.type) vs (λl=>Builtin.unsafeString_ ts o.type l.toArray) K
 | _=>False
def NH(f:FuncId)(args:Array aw):Sem aw:=do
 match <-callFunc f args with
 | .value v=>pure v
 | _=>stuck "extV"
theorem Qc{P}{f}{args}{w w1}{v}(h:(NH f args).run P w=.ok v w1):(callFunc f args).run P w=.ok (.value v) w1:=by
 unfold NH at h;rw[Sem.run_bind]at h;cases hc:(callFunc f args).run P w with
 | ok n w2=>
  rw[hc,Result.andThen_ok]at h;cases n<;>first | (simp at h;done) | (simp at h;obtain⟨rfl,rfl⟩:=h;rfl) | (simp at h)
 | _=>rw[hc]at h;simp at h
theorem Zx{P}{a:Act}{w w1}{v}{dst}{x}{f}{first captured}{xs:List Operand}{ats}{t'}{p}{af}{g}{args}
  (hx:a.eval x=.func (.func f) first.toArray captured.toArray)
  (ha:first++xs.map a.eval++captured=args) (hc:(callFunc f args.toArray).run P w=.ok (.value v) w1):
  (execOp a.eval ⟨dst,.call ⟨.value x,xs.toArray,ats⟩,t',p,af,g⟩).run P w=.ok (.value v) w1:=by
 subst ha;simp only[execOp,resolve,hx,Deferred.ofValue,invoke]
 grind
def Zy(P:Program)(X:XT)(st:St)(o:Oper)(fv:SV)(vs:List SV)(K:St->Prop):Prop:=match fv with
 | .fn g fs cs=>bif CB fs&&CB cs&&P5 P g then fe (st.esc (nT fs++vs++nT cs)) λst=>P6 P X st o.dst (ael P g) g (nT fs++vs++nT cs) [] K
  else bif CB fs&&CB cs then fe (st.esc (nT fs++vs++nT cs)) λst=>sM P X st o.dst (ael P g) (nT fs++vs++nT cs) (λl=>NH g l.toArray) K else False
 | .raw v=>fe (st.esc vs) λst=>∃(g:FuncId) (fst cap:List aw),v.v=.func (.func g) fst.toArray cap.toArray/\(∀args w,(callFunc g args).run P w=.ok (.enter g args) w)/\P8 P X st o.dst (En P o.type) g fst vs cap K
 | _=>False
abbrev YT:=Option Nat->Prop->Prop
def aep(P:Program)(X:XT)(Y:YT)(st:St)(o:Oper)(p s:SV)(vs:List SV)(K:St->Prop):Prop:=match p with
 | .box i off=>ch (cZ st.bx i) λb=>bif b.ok&&Nat.ble (off+vs.length) b.cells.length then Y b.blk (K ((st.uu i b (spl b.cells off vs)).put o.dst .un))else False
 | .ad p=>fe (st.esc vs) λst=>∃(bk off:Nat) (cells:List aw) (ety:TypeId),p=(⟨bk,off,none⟩)/\Blk st.w0 bk ety cells/\off+vs.length<=cells.length/\
  bif iM st.Ka vs&&qO st.bx then neB bk st.bx (∀w1,Only [bk] st.w0 w1->Blk w1 bk ety (cj cells off (cK st.bl vs))->X st.w0 w1 (K (St.put {st with w0:=w1} o.dst .un)))else False
 | _=>False
def aeq(P:Program)(st:St)(o:Oper)(fv:SV)(vs:List SV)(K:St->Prop):Prop:=match fv with
 | .fn g fs cs=>bif CB fs&&CB cs&&P5 P g then fe (st.esc (nT fs++vs++nT cs)) λst=>bif iM st.Ka (nT fs++vs)&&iM st.Ka (nT cs)then
  K (St.put {st with df:=(g,cK st.bl (nT fs++vs),cK st.bl (nT cs))::st.df} o.dst .un)else False else False
 | _=>False
def loud(P:Program)(X:XT)(Y:YT)(st:St)(o:Oper)(K:St->Prop):Prop:=match o.op with
 | .binOp op t x y _=>ch (st.ev x) λa=>ch (st.ev y) λb=>bif ptS a&&ptS b then fe (st.esc [a,b]) λst=>sM P X st o.dst [o.type] [a,b] (λvs=>Go.binOp op t (rO vs 0) (rO vs 1)) K else False
 | .alloc t=>ch (zc P t) λzs=>bif chk st zs then K (st.FC o.dst t zs)else False
 | .box t x=>ch (st.ev x) λs=>ch (AN s) λzs=>bif chk st zs then K (st.FC o.dst t zs)else False
 | .store t x y=>ch (st.ev x) λp=>ch (st.ev y) λs=>ch (AN s) λvs=>bif sz P t vs.length then aep P X Y st o p s vs K else False
 | .call c=>ch (st.M0 c.args.toList) λvs=>(match c.callee with
  | .value f=>ch (st.ev f) λfv=>Zy P X st o fv vs K
  | .builtin b=>fe (st.esc vs) λst=>aeo P X st o b c.argTypes vs K
  | _=>False)
 | .defer c=>ch (st.M0 c.args.toList) λvs=>(match c.callee with
  | .value f=>ch (st.ev f) λfv=>aeq P st o fv vs K
  | _=>False)
 | .buildSlice t n ps=>ch (st.Uf ps.toList) λl=>fe (st.esc (Qb l)) λst=>sM P X st o.dst [t] (Qb l) (λvs=>Instr.buildSlice t n (zp (U8 l) vs).toArray) K
 | .makeSlice t x y=>ch (st.ev x) λa=>ch (st.ev y) λb=>fe st λst=>sM P X st o.dst [t] [a,b] (λvs=>Instr.makeSlice t (rO vs 0) (rO vs 1)) K
 | .makeMap t none=>fe st λst=>sM P X st o.dst [t] [] (λ_=>Instr.makeMap t none) K
 | .makeMap t (some x)=>ch (st.ev x) λa=>fe st λst=>sM P X st o.dst [t] [a] (λvs=>Instr.makeMap t (some (rO vs 0))) K
 | .lookup t x i ok=>ch (st.ev x) λa=>ch (st.ev i) λb=>fe st λst=>sM P X st o.dst (En P o.type) [a,b] (λvs=>Instr.lookup t (rO vs 0) (rO vs 1) ok) K
 | .mapUpdate t x y z=>ch (st.ev x) λa=>ch (st.ev y) λb=>ch (st.ev z) λc=>fe (st.esc [a,b,c]) λst=>U6 P X st o.dst [a,b,c] (λvs=>Instr.mapUpdate t (rO vs 0) (rO vs 1) (rO vs 2)) K
 | .insert t x y z=>ch (st.ev x) λa=>ch (st.ev y) λb=>ch (st.ev z) λc=>fe (st.esc [a,b,c]) λst=>U6 P X st o.dst [a,b,c] (λvs=>Instr.mapUpdate t (rO vs 0) (rO vs 1) (rO vs 2)) K
 | .convert s d x=>ch (st.ev x) λa=>fe (st.esc [a]) λst=>sM P X st o.dst [d] [a] (λvs=>convert s d (rO vs 0)) K
 | .range t x=>ch (st.ev x) λa=>fe st λst=>∃p,Qa P X st o.dst [a] (λvs=>Instr.range t (rO vs 0)) (.ptr p) K
 | .next x false=>ch (st.ev x) λa=>fe st λst=>Qa P X st o.dst [a] (λvs=>Instr.next (rO vs 0) false o.type) (.tup (j7 [.bl false])) K∨
  UU [.raw,.raw] λrs=>Qa P X st o.dst [a] (λvs=>Instr.next (rO vs 0) false o.type) (.tup (j7 (.bl true::rs))) K
 | .entry x=>ch (st.ev x) λa=>fe st λst=>UU [.raw,.raw] λrs=>Qa P X st o.dst [a] (λvs=>Instr.entry (rO vs 0)) (.tup (j7 rs)) K
 | _=>False
section
variable {P:Program} {β:Nat->Nat} {st:St} {a:Act} {w w1:av} {X:XT} {Y:YT} {E:av->av->Prop} {K:St->Prop} {Q:Exit->Act->av->Prop}
abbrev Xr(E:av->av->Prop)(st:St)(K:St->Prop)(w:av)(a':Act)(w':av):Prop:=∃β' cO,K cO/\Ext st cO/\E w w'/\Rep β' cO a' w'
theorem lX(hX:∀w0 w1 p,X w0 w1 p->p/\E w0 w1){o}{FJ}{args l}{run}(h:fe (st.esc l) λst=>sM P X st o.dst FJ args run K)(hR:Rep β st a w)
  (hx:∀v w1,(run (cK β args)).run P w=.ok v w1->(execOp a.eval o).run P w=.ok (.value v) w1):o.wp P a w (Xr E st K w) Q:=by
 obtain⟨s1,h1,e1,iK,hm,_⟩:=dW h (hR.esc l);obtain⟨v,w',hr,cO,k1,k2,k3,k4⟩:=KZ hX h1 hm iK;exact yW v (hx v w' hr) rfl ⟨β,cO,k1,(Ext.esc st l).trans (e1.trans k2),k3,k4⟩
theorem wV(hX:∀w0 w1 p,X w0 w1 p->p/\E w0 w1){o}{FJ}{args}{run}(h:fe st λst=>sM P X st o.dst FJ args run K)(hR:Rep β st a w)
  (hx:∀v w1,(run (cK β args)).run P w=.ok v w1->(execOp a.eval o).run P w=.ok (.value v) w1):o.wp P a w (Xr E st K w) Q:=by
 obtain⟨s1,h1,e1,iK,hm,_⟩:=dW h hR;obtain⟨v,w',hr,cO,k1,k2,k3,k4⟩:=KZ hX h1 hm iK;exact yW v (hx v w' hr) rfl ⟨β,cO,k1,e1.trans k2,k3,k4⟩
theorem GF(hX:∀w0 w1 p,X w0 w1 p->p/\E w0 w1){o}{args l}{run}(h:fe (st.esc l) λst=>U6 P X st o.dst args run K)(hR:Rep β st a w)
  (hx:∀w1,(run (cK β args)).run P w=.ok () w1->(execOp a.eval o).run P w=.ok .skip w1):o.wp P a w (Xr E st K w) Q:=by
 obtain⟨s1,h1,e1,iK,hm,_⟩:=dW h (hR.esc l);obtain⟨w',hr,cO,k1,k2,k3,k4⟩:=U7 hX h1 hm iK;exact PN (hx w' hr) rfl ⟨β,cO,k1,(Ext.esc st l).trans (e1.trans k2),k3,k4⟩
theorem K0(hE:∀w w1,Only [] w w1->E w w1){d}{t}{zs}(hc:chk st zs=true)(h:K (st.FC d t zs))(hR:Rep β st a w){b}(hb:w.heap.size<=b)(hO:Only [] w w1)(hB:Blk w1 b t (cK β zs)):
  Xr E st K w (a.put d (.pointer (some ⟨b,0,none⟩))) w1:=by
 simp[chk]at hc;exact⟨_,_,h,Ext.FC _ _ _ _,hE _ _ hO,hR.FC hc.1.1.1 hc.1.1.2 hc.1.2 hb hO hB hc.2⟩
theorem Qd(hX:∀w0 w1 p,X w0 w1 p->p/\E w0 w1){o}{FJ}{f}{args}{pD}{s1}(h:P6 P X s1 o.dst FJ f args pD K)(hm:s1.mv=false)(e1:Ext st s1)(hR:Rep β s1 a w)
  (hx:(execOp a.eval o).run P w=.ok (.enter f (cK β args++pD).toArray) w):o.wp P a w (Xr E st K w) Q:=by
 refine KP hx ((P7 hX h hm hR).mono ?_);rintro e w' ⟨v,rfl,cO,k1,k2,k3,k4⟩;exact⟨v,_,rfl,rfl,β,cO,k1,e1.trans k2,k3,k4⟩
theorem NI(hX:∀w0 w1 p,X w0 w1 p->p/\E w0 w1){o}{FJ}{f}{fst}{args}{pD}{s1}(h:P8 P X s1 o.dst FJ f fst args pD K)(hm:s1.mv=false)(e1:Ext st s1)(hR:Rep β s1 a w)
  (hx:(execOp a.eval o).run P w=.ok (.enter f (A5 (A5 fst (cK β args)) pD).toArray) w):o.wp P a w (Xr E st K w) Q:=by
 refine KP hx ((P9 hX h hm hR).mono ?_);rintro e w' ⟨v,rfl,cO,k1,k2,k3,k4⟩;exact⟨v,_,rfl,rfl,β,cO,k1,e1.trans k2,k3,k4⟩
theorem Qe{s}(h:ptS s=true) β:∃q,val β s=.pointer q:=by
 cases s<;>first | (cases h;done) | exact⟨_,rfl⟩
theorem U9{a:Act}{dst}{op}{t ty}{x y}{t'}{p}{af}{g}{u v r}(hu:∃q,u=.pointer q)(hv:∃q,v=.pointer q)(hx:a.eval x=u)(hy:a.eval y=v){w w1}
  (hr:(Go.binOp op t u v).run P w=.ok r w1):(execOp a.eval ⟨dst,.binOp op t x y ty,t',p,af,g⟩).run P w=.ok (.value r) w1:=by
 obtain⟨q,rfl⟩:=hu;obtain⟨q',rfl⟩:=hv;have hg:eqGuard op t x y (.pointer q) (.pointer q')=pure ():=by cases op<;>rfl
 simp[execOp,hx,hy,hg,hr]
theorem Va{a:Act}{dst}{x}{fn}{first captured:List aw}{xs:List Operand}{ats}{t'}{p}{af}{g}{args}{w}
  (hx:a.eval x=.func fn first.toArray captured.toArray) (ha:first++xs.map a.eval=args):
  (execOp a.eval ⟨dst,.defer ⟨.value x,xs.toArray,ats⟩,t',p,af,g⟩).run P w=.ok (.defer {target:=.fn fn captured.toArray,args:=args.toArray}) w:=by
 subst ha;simp only[execOp,resolve,hx,Deferred.ofValue];simp
theorem Qf{a:Act}{dst}{t}{x}{t'}{p}{af}{g}{u v}{w w1}(hx:a.eval x=u)(hr:(Instr.range t u).run P w=.ok v w1):
  (execOp a.eval ⟨dst,.range t x,t',p,af,g⟩).run P w=.ok (.value v) w1:=by
 simp[execOp,hx,hr]
theorem K4{a:Act}{dst}{x}{t'}{p}{af}{g}{u v}{w w1}(hx:a.eval x=u)(hr:(Instr.next u false t').run P w=.ok v w1):
  (execOp a.eval ⟨dst,.next x false,t',p,af,g⟩).run P w=.ok (.value v) w1:=by
 simp[execOp,hx,hr]
theorem Qg{a:Act}{dst}{x}{t'}{p}{af}{g}{u v}{w w1}(hx:a.eval x=u)(hr:(Instr.entry u).run P w=.ok v w1):
  (execOp a.eval ⟨dst,.entry x,t',p,af,g⟩).run P w=.ok (.value v) w1:=by
 simp[execOp,hx,hr]
theorem lY β l m:cK β (l++m)=cK β l++cK β m:=by simp[cK]
theorem Eo(hX:∀w0 w1 p,X w0 w1 p->p/\E w0 w1){o:Oper}(hE:∀w w1,Only [] w w1->E w w1)(hS:zC o.op=true->∀bk k w w1 p,Y bk p->(∀j,bk=some j->k=j)->Only [k] w w1->p/\E w w1)(h:loud P X Y st o K)(hR:Rep β st a w):o.wp P a w (Xr E st K w) Q:=by
 obtain⟨dst,op,t',p,af,g⟩:=o;unfold loud at h;dsimp only at h;split at h
 ·obtain⟨x,hx,h⟩:=bC h;obtain⟨y,hy,h⟩:=bC h;obtain⟨hp,h⟩:=dB h;simp only[aP]at hp;exact lX hX h hR λv w1 hr=>U9 (Qe hp.1 β) (Qe hp.2 β) (hR.ev hx) (hR.ev hy) hr
 ·obtain⟨zs,hz,h⟩:=bC h;obtain⟨hc,h⟩:=dB h;obtain⟨z,z1,z2⟩:=Xp hz w;exact Gk z1 (z2 β) (λ_=>rfl) λb w1 hb hO hB=>K0 hE hc h hR hb hO hB
 ·obtain⟨s,hs,h⟩:=bC h;obtain⟨zs,hz,h⟩:=bC h;obtain⟨hc,h⟩:=dB h;exact Zc (by rw[hR.ev hs];exact(xY hz β).1) (λ_=>rfl) λb w1 hb hO hB=>K0 hE hc h hR hb hO hB
 ·obtain⟨q,hx,h⟩:=bC h;obtain⟨s,hy,h⟩:=bC h;obtain⟨vs,hv,h⟩:=bC h;obtain⟨hsz,h⟩:=dB h;obtain⟨c1,c2⟩:=xY hv β;have Yu:=hS rfl;cases q with
  | box i off=>
   obtain⟨b,hb,h⟩:=bC h;obtain⟨h1,h⟩:=dB h;simp only[aP]at h1;have h2:=dA h1.2;refine Gj (ql hsz w) (hR.ev hx) (by rw[hR.ev hy];exact c1) (fF β vs) c2 (hR.bx i b hb h1.1).blk (by rw[fF,fF];exact h2) rfl rfl λw1 hO hB=>?_;rw[<-Gx]at hB;obtain⟨h,he⟩:=Yu _ (β i) _ w1 _ h (λj hj=>(hR.bx i b hb h1.1).at_ j hj) hO;exact⟨β,_,h,(Ext.uu hb).trans (Ext.put _ _ _),he,(hR.uu hb h1.1 hO hB).put dst .un⟩
  | ad ad=>
   simp only[aep]at h;obtain⟨s1,h1,e1,iK,hm,_⟩:=dW h (hR.esc vs);obtain⟨bk,off,cells,ety,rfl,hB,Kc,h2⟩:=h1;obtain⟨h3,h2⟩:=dB h2;simp only[aP]at h3;obtain⟨h2,ii⟩:=I8 h2;have hw:=iK.still hm;rw[<-hw,iK.ur h3.1]at h2;rw[<-hw]at hB;refine Gj (ql hsz w) (hR.ev hx) (by rw[hR.ev hy];exact c1) (fF β vs) c2 hB (by rw[fF];exact Kc) rfl rfl λw1 hO qF=>?_;obtain⟨h4,h5⟩:=hX _ _ _ (h2 w1 hO qF);refine⟨β,_,h4,((Ext.esc st vs).trans e1).trans (Ext.trans (t:={s1 with w0:=w1}) ⟨rfl,aY _,λ_ _ _ h _=>h,λi b' ol ho hs=>⟨b',ol,ho,rfl,rfl,rfl,λ_ h=>h⟩,PV,FX⟩ (Ext.put _ _ _)),h5,?_⟩;refine Rep.put (v:=.un) (Rep.next (ct':=s1.ct) iK hm h3.2 λi b' ol ho=>⟨b',ol,ho,rfl,?_⟩) _;have eD:=iK.OH h3.2 ol ho;have:=ii i b' ol ho;rw[eD]at this;exact hO.blk (iK.bx i b' ol ho).blk (by simpa using this)
  | _=>exact h.elim
 ·rename_i c;obtain⟨callee,⟨xs⟩,ts⟩:=c;obtain⟨vs,hv,h⟩:=bC h;have xO:=hR.M0 hv;dsimp only at h;cases callee with
  | value f=>
   obtain⟨fv,hf,h⟩:=bC h;cases fv with
   | fn g' fs cs=>
    have ef:CB fs=true->CB cs=true->a.eval f=.func (.func g') (cK β (nT fs)).toArray (cK β (nT cs)).toArray:=λk1 k2=>by
     rw[hR.ev hf];show Value.func (.func g') (qK β fs).toArray (qK β cs).toArray=_;rw[nK β k1,nK β k2]
    have h':=h;unfold Zy at h';rcases nU h' with⟨h0,h1⟩ | ⟨_,h1⟩
    ·simp only[aP]at h0;obtain⟨s1,h1,e1,iK,hm,_⟩:=dW h1 (hR.esc _);refine Qd hX h1 hm ((Ext.esc _ _).trans e1) iK ?_;exact Gc (ef h0.1.1 h0.1.2) (kn h0.2) (by rw[xO,lY,lY,bD])
    obtain⟨h0,h1⟩:=dB h1;simp only[aP]at h0;exact lX hX h1 hR λv w1 hr=>Zx (ef h0.1 h0.2) (by rw[xO,lY,lY]) (Qc hr)
   | raw v=>
    simp only[Zy]at h;obtain⟨s1,⟨g',fst,cap,h1,h2,h3⟩,e1,iK,hm,_⟩:=dW h (hR.esc vs);refine NI hX h3 hm ((Ext.esc _ _).trans e1) iK ?_;have ef:a.eval f=.func (.func g') fst.toArray cap.toArray:=(hR.ev hf).trans h1;exact Gc ef h2 (by rw[xO];rfl)
   | _=>exact h.elim
  | builtin b=>
   unfold aeo at h;cases b with
   | append=>exact lX hX h hR λv w1 hr=>xW xO hr
   | copy=>exact lX hX h hR λv w1 hr=>AF xO hr
   | delete=>exact lX hX h hR λv w1 hr=>xX xO hr
   | clear=>exact lX hX h hR λv w1 hr=>zx xO hr
   | len=>exact lX hX h hR λv w1 hr=>Cx xO hr
   | unsafeSliceData=>exact lX hX h hR λv w1 hr=>(by rw[<-xO]at hr;exact mL (λ_=>rfl) hr)
   | unsafeString=>exact lX hX h hR λv w1 hr=>(by rw[<-xO]at hr;exact mL (λ_=>rfl) hr)
   | _=>
    obtain⟨s1,h1,_⟩:=dW h (hR.esc vs);exact h1.elim
  | _=>exact h.elim
 ·rename_i c;obtain⟨callee,⟨xs⟩,ts⟩:=c;obtain⟨vs,hv,h⟩:=bC h;have xO:=hR.M0 hv;dsimp only at h;cases callee with
  | value f=>
   obtain⟨fv,hf,h⟩:=bC h;cases fv with
   | fn g' fs cs=>
    unfold aeq at h;obtain⟨h0,h1⟩:=dB h;simp only[aP]at h0;have ef:a.eval f=.func (.func g') (cK β (nT fs)).toArray (cK β (nT cs)).toArray:=by
     rw[hR.ev hf];show Value.func (.func g') (qK β fs).toArray (qK β cs).toArray=_;rw[nK β h0.1.1,nK β h0.1.2]
    obtain⟨s1,h1,e1,iK,hm,_⟩:=dW h1 (hR.esc _);obtain⟨hc,h1⟩:=dB h1;simp only[aP]at hc;rw[iK.ur hc.1,iK.ur hc.2]at h1;have hr:=Va (P:=P) (dst:=dst) (ats:=ts) (t':=t') (p:=p) (af:=af) (g:=g) (w:=w) ef (by rw[xO,<-lY]);unfold Oper.wp;rw[hr,Oper.upon_defer];have CL:Rep β {s1 with df:=(g',cK β (nT fs++vs),cK β (nT cs))::s1.df} {a with defers:={target:=.fn (.func g') (cK β (nT cs)).toArray,args:=(cK β (nT fs++vs)).toArray}::a.defers} w:=by
     obtain⟨us,hu⟩:=iK.fr;exact⟨⟨us,by rw[hu];rfl⟩,iK.bx,iK.ne,iK.only,iK.still⟩
    exact⟨β,_,h1,((Ext.esc _ _).trans e1).trans (Ext.trans (t:={s1 with df:=(g',cK β (nT fs++vs),cK β (nT cs))::s1.df}) ⟨rfl,aY _,λ_ _ _ h _=>h,λi b' ol ho hs=>⟨b',ol,ho,rfl,rfl,rfl,λ_ h=>h⟩,PV,⟨[_],rfl⟩⟩ (Ext.put _ _ _)),hE _ _ (Only.refl _ _),CL.put dst .un⟩
   | _=>exact h.elim
  | _=>exact h.elim
 ·rename_i t n ps;obtain⟨l,hl,h1⟩:=bC h;clear h;obtain⟨ps⟩:=ps;refine lX hX h1 hR λv w1 hr=>?_;rw[Xq]at hr;exact DZ (hR.Uf hl) hr
 ·obtain⟨u,hx,h⟩:=bC h;obtain⟨v,hy,h⟩:=bC h;exact wV hX h hR λ_ w1 hr=>Ga (hR.ev hx) (hR.ev hy) hr
 ·exact wV hX h hR λ_ w1 hr=>Nt hr
 ·obtain⟨u,hx,h⟩:=bC h;exact wV hX h hR λ_ w1 hr=>IK (hR.ev hx) hr
 ·obtain⟨u,hx,h⟩:=bC h;obtain⟨v,hy,h⟩:=bC h;exact wV hX h hR λ_ w1 hr=>PJ (hR.ev hx) (hR.ev hy) hr
 ·obtain⟨u,hx,h⟩:=bC h;obtain⟨v,hy,h⟩:=bC h;obtain⟨z,hz,h⟩:=bC h;exact GF hX h hR λw1 hr=>Gb (hR.ev hx) (hR.ev hy) (hR.ev hz) hr
 ·obtain⟨u,hx,h⟩:=bC h;obtain⟨v,hy,h⟩:=bC h;obtain⟨z,hz,h⟩:=bC h;exact GF hX h hR λw1 hr=>PK (hR.ev hx) (hR.ev hy) (hR.ev hz) hr
 ·obtain⟨u,hx,h⟩:=bC h;exact lX hX h hR λ_ w1 hr=>Nu (hR.ev hx) hr
 ·obtain⟨u,hx,h⟩:=bC h;obtain⟨s1,⟨q,h1⟩,e1,iK,hm,_⟩:=dW h hR;obtain⟨v,w',hr,cO,k1,k2,k3,k4⟩:=zZ hX h1 hm iK;exact yW v (Qf (hR.ev hx) hr) rfl ⟨β,cO,k1,e1.trans k2,k3,k4⟩
 ·obtain⟨u,hx,h⟩:=bC h;obtain⟨s1,h1,e1,iK,hm,_⟩:=dW h hR;rcases h1 with h1 | h1
  ·obtain⟨v,w',hr,cO,k1,k2,k3,k4⟩:=zZ hX h1 hm iK;exact yW v (K4 (hR.ev hx) hr) rfl ⟨β,cO,k1,e1.trans k2,k3,k4⟩
  obtain⟨_,h1,_⟩:=tC h1;obtain⟨v,w',hr,cO,k1,k2,k3,k4⟩:=zZ hX h1 hm iK;exact yW v (K4 (hR.ev hx) hr) rfl ⟨β,cO,k1,e1.trans k2,k3,k4⟩
 ·obtain⟨u,hx,h⟩:=bC h;obtain⟨s1,h1,e1,iK,hm,_⟩:=dW h hR;obtain⟨_,h1,_⟩:=tC h1;obtain⟨v,w',hr,cO,k1,k2,k3,k4⟩:=zZ hX h1 hm iK;exact yW v (Qg (hR.ev hx) hr) rfl ⟨β,cO,k1,e1.trans k2,k3,k4⟩
 exact h.elim
end
def nd(P:Program)(st:St)(o:Op):Bool:=match o with
 | .load _ x=>(match st.ev x with
  | some (.ad _)=>true
  | _=>false)
 | .convert s _ _=>(match P.underlying s with
  | some (.slice _)=>true
  | _=>false)
 | _=>false
def Zz(b:Bool)(st:St)(K:St->Prop):Prop:=bif b&&st.mv then fe st K else K st
theorem yh{b}{st}{K}(h:Zz b st K){β}{a}{w}(hR:Rep β st a w):∃cO,K cO/\Ext st cO/\Rep β cO a w/\cO.fr=st.fr/\cO.n=st.n:=by
 rcases nU h with⟨_,h⟩ | ⟨_,h⟩
 ·obtain⟨s,h1,h2,h3,h4,h5,h6,_⟩:=dW h hR;exact⟨s,h1,h2,h3,h5,h6⟩
 exact⟨st,h,Ext.refl _,hR,rfl,rfl⟩
def Ep(P:Program):List Oper->Bool
 | []=>true
 | o::r=>j8 P o.op&&Ep P r
def I9:List Oper->Bool
 | []=>false
 | o::r=>mem o.op||I9 r
def X0:XT:=λ_ _ p=>p
def Y0:YT:=λ_ p=>p
def agT(P:Program)(t:TypeId):Bool:=match P.underlying t with
 | some d=>mP d
 | none=>false
def ZA(P:Program)(o:Oper)(v:SV)(K:SV->Prop):Prop:=match o.op,v with
 | .extract _ _,.raw x=>(match PW P 12 o.type with
  | []=>K (.raw x)
  | [.raw]=>K (.raw x)
  | ls=>UU ls λvs=>x.v=val β0 (ND (agT P o.type) vs)/\K (ND (agT P o.type) vs))
 | _,v=>K v
theorem Vb{P}{o}{v}{K:SV->Prop}(h:ZA P o v K):∃u,K u/\∀β,val β u=val β v:=by
 unfold ZA at h;split at h
 ·split at h
  ·exact⟨_,h,λ_=>rfl⟩
  ·exact⟨_,h,λ_=>rfl⟩
  obtain⟨vs,⟨e,h⟩,_,hc⟩:=tC h;refine⟨_,h,λβ=>Eq.trans ?_ e.symm⟩;exact(ju (g:=λ_=>false) (λi h=>aaQ) _ (KY _ _ (hc _))).symm
 exact⟨_,h,λ_=>rfl⟩
def K5(P:Program)(st:St)(o:Oper)(K:St->Prop):Prop:=
 bif j8 P o.op then Zz (nd P st o.op) st λst=>Zn P [] st o.op λv=>ZA P o v λv=>K (st.put o.dst v)else loud P X0 Y0 st o K
def zD(P:Program)(ops:List Oper):Nat->List Oper->St->(St->Prop)->Prop
 | 0,_,_,_=>False
 | _+1,[],st,K=>K st
 | f+1,o::rest,st,K=>match o.guard with
  | none=>K5 P st o λst=>zD P ops f rest st K
  | some (j,want)=>(match Zv st ops j with
   | some (_,.un)=>zD P ops f rest (st.put o.dst .un) K
   | some (_,.bl b)=>bif b==want then K5 P st o λst=>zD P ops f rest st K else zD P ops f rest (st.put o.dst .un) K
   | some (d,.bt t)=>bif Ep P ((o::rest).take (zA ops j (o::rest)+1))
    then Zz (I9 ((o::rest).take (zA ops j (o::rest)+1))) st λst=>yd P ops f [] ((o::rest).take (zA ops j (o::rest)+1)) st λst=>zD P ops f ((o::rest).drop (zA ops j (o::rest)+1)) st K
    else((t=true->zD P ops f (o::rest) (st.put (some d) (.bl true)) K)/\(t=false->zD P ops f (o::rest) (st.put (some d) (.bl false)) K))
   | _=>False)
section
variable {P:Program} {ops:List Oper} {Q:Exit->Act->av->Prop}
theorem Qh{st}{o}{rest}{K}{β}{a}{w}(h:K5 P st o K)(hR:Rep β st a w)(hw:Region.wanted o (yielded ops.toArray a.tmps)=true)
  (hK:∀β' cO a' w',K cO->Ext st cO->Rep β' cO a' w'->wpList P ops.toArray Q rest a' w'):wpList P ops.toArray Q (o::rest) a w:=by
 rcases nU h with⟨_,h⟩ | ⟨_,h⟩
 ·obtain⟨s,h1,h2,h3,h4,h5⟩:=yh h hR;obtain⟨v,hv,hy⟩:=I4 h1;obtain⟨u,hv,ev⟩:=Vb hv;exact IJ _ hw (hy trivial β a w h3 _ _ _ _ _ w λ_=>rfl) rfl (hK β _ _ w hv (h2.trans (Ext.put _ _ _)) (ev β▸h3.put o.dst u))
 refine Zb hw (Oper.wp_mono ?_ (Eo (E:=λ_ _=>True) (λ_ _ _ h=>⟨h,trivial⟩) (λ_ _ _=>trivial) (λ_ _ _ _ _ _ h _ _=>⟨h,trivial⟩) h hR));rintro a' w' ⟨β',cO,k1,k2,_,k4⟩;exact hK β' cO a' w' k1 k2 k4
theorem uL:∀{f:Nat} {l:List Oper} {st:St} {K:St->Prop},zD P ops f l st K->∀{β:Nat->Nat} {a:Act} {w:av},Rep β st a w->
  (∀β' cO a' w',K cO->Ext st cO->Rep β' cO a' w'->Q .normal a' w')->wpList P ops.toArray Q l a w
 | 0,_,_,_,h,_,_,_,_,_=>h.elim
 | _+1,[],st,K,h,β,a,w,hR,hK=>hK β st a w h (Ext.refl _) hR
 | f+1,o::rest,st,K,h,β,a,w,hR,hK=>by
  have no:zD P ops f rest _ K->Region.wanted o _=false->wpList P ops.toArray Q _ a w:=λh hw=>
   Xf hw rfl (uL h (hR.put o.dst .un) λβ' cO a' w' k1 k2 k3=>hK β' cO a' w' k1 ((Ext.put _ _ _).trans k2) k3)
  have Um:(K5 P st o λst=>zD P ops f rest st K)->Region.wanted o _=true->wpList P ops.toArray Q _ a w:=λh hw=>
   Qh h hR hw λβ' cO a' w' k1 k2 k3=>uL k1 k3 λβ2 zq a2 w2 m1 m2 m3=>hK β2 zq a2 w2 m1 (k2.trans m2) m3
  unfold zD at h;split at h
  ·rename_i hg;exact Um h (wn hg)
  rename_i j want hg;split at h
  ·rename_i d ht;exact no h (xZ hR hg ht)
  ·rename_i d b ht;have hw:=qM hR hg ht (b:=b) rfl;rcases nU h with⟨e,h⟩ | ⟨e,h⟩
   ·exact Um h (hw.trans e)
   exact no h (hw.trans e)
  ·rename_i d t ht;obtain⟨oj,IC,Wv,Ul⟩:=AQ ht;rcases nU h with⟨_,h⟩ | ⟨_,h⟩
   ·generalize zA ops j _+1=m at h;obtain⟨s,h1,h2,h3,h4,h5⟩:=yh h hR;obtain⟨s2,k1,k2,k3,k4⟩:=rM h1;obtain⟨a',g1,g2⟩:=k4 trivial β a w h3;have:=Ec (Q:=Q) (rest:=(o::rest).drop m) g1 (uL k1 g2 λβ2 zq a2 w2 m1 m2 m3=>hK β2 zq a2 w2 m1 ((h2.trans k2).trans m2) m3);rwa[dP]at this
   cases t with
   | true=>exact uL (h.1 rfl) (hR.set Ul rfl) λβ' cO a' w' k1 k2 k3=>hK β' cO a' w' k1 ((Ext.put _ _ _).trans k2) k3
   | false=>exact uL (h.2 rfl) (hR.set Ul rfl) λβ' cO a' w' k1 k2 k3=>hK β' cO a' w' k1 ((Ext.put _ _ _).trans k2) k3
  exact h.elim
end
def JT:List Lf->Type
 | []=>av->Prop
 | l::r=>l.T->JT r
def GH:(ls:List Lf)->JT ls->(List SV->av->Prop)->Prop
 | [],J,K=>∀w,J w->K [] w
 | l::r,J,K=>∀x,GH r (J x) λvs w=>K (l.sv x::vs) w
def unI(k:IntKind)(s:SV):Option Int:=match qL s with
 | some (k',n)=>bif decide (k'=k)then some n else none
 | none=>none
def unP(bl:Nat->Nat)(s:SV):Option (Option Addr):=match s with
 | .box i o=>some (some ⟨bl i,o,none⟩)
 | s=>opn s
def unM(s:SV):Option (Option Nat):=match s with
 | .map m=>some m
 | _=>none
def unR(bl:Nat->Nat)(s:SV):Option OV:=match s with
 | .raw v=>some v
 | .fn f fs cs=>some ⟨.func (.func f) (qK bl fs).toArray (qK bl cs).toArray,rfl⟩
 | _=>none
def un(bl:Nat->Nat):(l:Lf)->SV->Option l.T
 | .int k=>unI k
 | .bool=>AM
 | .str=>wb
 | .ptr=>unP bl
 | .sl=>KS
 | .map=>unM
 | .raw=>unR bl
theorem aer{bl}{l}{s}{x}(h:un bl l s=some x) β:val β (l.sv x)=val bl s:=by
 cases l with
 | int k=>
  have h:unI k s=some x:=h;unfold unI at h;split at h
  ·rename_i k' n ho;obtain⟨e,rfl⟩:=Ea h;have e:=aR e;subst e;rw[dr ho];rfl
  cases h
 | bool=>rw[mQ h];rfl
 | str=>rw[iO h];rfl
 | ptr=>
  have h:unP bl s=some x:=h;unfold unP at h;split at h
  ·injection h with h;subst h;rfl
  rw[UW h];rfl
 | sl=>rw[kH h];rfl
 | map=>
  have h:unM s=some x:=h;unfold unM at h;split at h
  ·injection h with h;subst h;rfl
  cases h
 | raw=>
  have h:unR bl s=some x:=h;unfold unR at h;split at h
  ·injection h with h;subst h;rfl
  ·injection h with h;subst h;rfl
  cases h
def apJ:(ls:List Lf)->(Nat->Nat)->JT ls->List SV->av->Prop
 | [],_,J,[],w=>J w
 | l::r,bl,J,s::ss,w=>(match un bl l s with
  | some x=>apJ r bl (J x) ss w
  | none=>False)
 | _,_,_,_,_=>False
theorem Qi{bl}{w}:∀{ls:List Lf} {J:JT ls} {ss:List SV} {K:List SV->av->Prop},apJ ls bl J ss w->GH ls J K->∃vs,K vs w/\vs.length=ls.length/\(∀β,cK β vs=cK bl ss)/\∀g,iM g vs=true
 | [],J,[],K,h,k=>⟨[],k w h,rfl,λ_=>rfl,λ_=>rfl⟩
 | l::r,J,s::ss,K,h,k=>by
  unfold apJ at h;split at h
  ·rename_i x hx;obtain⟨vs,h1,h2,h3,h4⟩:=Qi h (k x);refine⟨_,h1,by simp[h2],λβ=>?_,λg=>by simp[iM,Lf.cln,h4 g,da]⟩;have:=h3 β;simp only[cK,bK]at this⊢;rw[this,aer hx]
  exact h.elim
 | [],_,_::_,_,h,_=>h.elim
 | _::_,_,[],_,h,_=>h.elim
inductive MI where
 | s (slot:Nat) (l:Lf)
 | a (slot:Nat) (ls:List Lf)
 | b (slot:Nat) (ls:List Lf)
def mLs:List MI->List Lf
 | []=>[]
 | .s _ l::r=>l::mLs r
 | .a _ ls::r=>ls++mLs r
 | .b _ ls::r=>ls++mLs r
def bxi(st:St)(i:Nat):Option Nat:=match st.get i with
 | some (.box j _)=>some j
 | _=>none
def Qj:List SV->List SV
 | []=>[]
 | .box j o::r=>.box j o::Qj r
 | _::r=>Qj r
def A6(st:St):List MI->List SV
 | []=>[]
 | .b i _::r=>(match bxi st i with
  | some j=>(match cZ st.bx j with
   | some b=>Qj b.cells++A6 st r
   | none=>A6 st r)
  | none=>A6 st r)
 | .s i _::r=>(match st.get i with
  | some (.box j o)=>.box j o::A6 st r
  | _=>A6 st r)
 | _::r=>A6 st r
def qQ(st s:St):List MI->Option (List SV)
 | []=>some []
 | .s i _::r=>(match s.get i,qQ st s r with
  | some v,some l=>some (v::l)
  | _,_=>none)
 | .a i ls::r=>(match s.get i,qQ st s r with
  | some (.agg l),some m=>bif CB l&&Nat.beq (nT l).length ls.length then some (nT l++m)else none
  | _,_=>none)
 | .b i ls::r=>(match bxi st i with
  | some j=>(match cZ s.bx j,qQ st s r with
   | some b,some m=>bif Nat.beq b.cells.length ls.length then some (b.cells++m)else none
   | _,_=>none)
  | none=>none)
def Ja(ct:Nat):List MI->List SV->List (Nat×Nat×SV)
 | .s i _::r,v::vs=>(i,ct,v)::Ja ct r vs
 | .a i ls::r,vs=>(i,ct,.agg (j7 (vs.take ls.length)))::Ja ct r (vs.drop ls.length)
 | .b _ ls::r,vs=>Ja ct r (vs.drop ls.length)
 | _,_=>[]
def Jb(st:St):List MI->List SV->List li->List li
 | .s _ _::r,_::vs,bx=>Jb st r vs bx
 | .a _ ls::r,vs,bx=>Jb st r (vs.drop ls.length) bx
 | .b i ls::r,vs,bx=>(match bxi st i with
  | some j=>(match cZ bx j with
   | some b=>Jb st r (vs.drop ls.length) (NB bx j {b with cells:=vs.take ls.length,stp:=st.ct})
   | none=>Jb st r (vs.drop ls.length) bx)
  | none=>Jb st r (vs.drop ls.length) bx)
 | _,_,bx=>bx
def Xs:List MI->List Nat
 | []=>[]
 | .s i _::r=>i::Xs r
 | .a i _::r=>i::Xs r
 | .b _ _::r=>Xs r
def Qk(st:St):List MI->List Nat
 | []=>[]
 | .b i _::r=>(match bxi st i with
  | some j=>j::Qk st r
  | none=>Qk st r)
 | _::r=>Qk st r
def ZB(fr:List (Nat×Nat×SV)):List Nat->List (Nat×Nat×SV)
 | []=>[]
 | i::r=>match dV fr i with
  | some p=>(i,p)::ZB fr r
  | none=>ZB fr r
def mS(st:St)(kp:List Nat)(ms:List MI)(vs:List SV)(w:av):St:=
 {n:=st.n,fr:=Ja st.ct ms vs++ZB st.fr kp,bx:=Jb st ms vs st.bx,w0:=w,mv:=false,dt:=[],ct:=st.ct+1,df:=st.df}
def Vd(st s:St)(sl:List Nat):List Nat->Bool
 | []=>true
 | i::r=>(match dV st.fr i with
  | some (k,v)=>(match dV s.fr i with
   | some (k',_)=>Nat.beq k k'&&Nat.blt k st.ct&&!sl.elem i&&cln (GA st.bx) v
   | none=>false)
  | none=>true)&&Vd st s sl r
def NJ(st:St)(Un:List Nat):Nat->List li->List li->Bool
 | _,[],_=>true
 | i,b::r,c::q=>(!b.ok||(b.blk.isSome&&(Un.elem i||(Nat.blt c.stp st.ct&&iM (GA st.bx) b.cells))))&&NJ st Un (i+1) r q
 | _,_::_,[]=>false
def NK(st:St)(kp:List Nat) ms (J:JT (mLs ms)) (s:St):Prop:=
 bif Vd st s (Xs ms) kp&&NJ st (Qk st ms) 0 st.bx s.bx&&Nat.beq s.df.length st.df.length then
  ch (qQ st s ms) λvs=>bif iM (GA s.bx) vs then apJ _ (Iw s.bx) J vs s.w0 else False
 else False
theorem uM:∀l m i,dV (l++m) i=match dV l i with
  | some p=>some p
  | none=>dV m i
 | [],_,_=>rfl
 | (k,p)::r,m,i=>by
  simp[bX,dV];cases Nat.beq k i with
  | true=>rfl
  | false=>exact uM r m i
theorem Aa{fr}:∀{kp:List Nat} {i:Nat} {p:Nat×SV},dV (ZB fr kp) i=some p->i∈kp/\dV fr i=some p
 | j::r,i,p,h=>by
  unfold ZB at h;split at h
  ·rename_i q hq;simp[dV]at h;cases hb:Nat.beq j i with
   | true=>
    rw[hb]at h;simp at h;subst h;have:=cd hb;subst this;exact⟨aM,hq⟩
   | false=>
    rw[hb]at h;obtain⟨h1,h2⟩:=Aa abb;exact⟨ahb,h2⟩
  obtain⟨h1,h2⟩:=Aa h;exact⟨ahb,h2⟩
theorem GI{fr}{p}:∀{kp:List Nat} {i:Nat},i∈kp->dV fr i=some p->dV (ZB fr kp) i=some p
 | j::r,i,hi,h=>by
  unfold ZB;cases hb:Nat.beq j i with
  | true=>
   have:=cd hb;subst this;rw[h];simp[dV,Nat.beq_refl,oY]
  | false=>
   have Ce:i∈r:=by
    rcases ba.1 hi with e | e
    ·subst e;simp at hb
    exact e
   have ih:=GI (p:=p) Ce h;split
   ·simp[dV,hb,vM];exact ih
   exact ih
theorem uN{ct}:∀{ms:List MI} {vs:List SV} {i:Nat},(Xs ms).elem i=false->dV (Ja ct ms vs) i=none
 | [],vs,i,_=>rfl
 | .s j l::r,[],i,_=>rfl
 | .s j l::r,v::vs,i,h=>by
  simp only[Xs,mA]at h;split at h
  ·cases h
  rename_i ii;simp[Ja,dV];have:Nat.beq j i=false:=by
   cases hb:Nat.beq j i with
   | false=>rfl
   | true=>have:=cd hb;subst this;simp at ii
  rw[this,vM];exact uN h
 | .a j ls::r,vs,i,h=>by
  simp only[Xs,mA]at h;split at h
  ·cases h
  rename_i ii;simp[Ja,dV];have:Nat.beq j i=false:=by
   cases hb:Nat.beq j i with
   | false=>rfl
   | true=>have:=cd hb;subst this;simp at ii
  rw[this,vM];exact uN h
 | .b j ls::r,vs,i,h=>by
  simp[Ja];exact uN h
theorem uO{ct}:∀{ms:List MI} {vs:List SV} {i:Nat} {p:Nat×SV},dV (Ja ct ms vs) i=some p->p.1=ct
 | [],vs,i,p,h=>by cases vs<;>cases h
 | .s j l::r,[],i,p,h=>aaQ
 | .s j l::r,v::vs,i,p,h=>by
  simp[Ja,dV]at h;cases hb:Nat.beq j i with
  | true=>rw[hb]at h;simp at h;subst h;rfl
  | false=>rw[hb]at h;exact uO abb
 | .a j ls::r,vs,i,p,h=>by
  simp[Ja,dV]at h;cases hb:Nat.beq j i with
  | true=>rw[hb]at h;simp at h;subst h;rfl
  | false=>rw[hb]at h;exact uO abb
 | .b j ls::r,vs,i,p,h=>by
  simp[Ja]at h;exact uO h
theorem jw{st}:∀ms vs bx i b,cZ bx i=some b->∃b',cZ (Jb st ms vs bx) i=some b'/\b'.ty=b.ty/\b'.ok=b.ok/\b'.blk=b.blk/\((Qk st ms).elem i=false->b'=b)/\(b'=b∨b'.stp=st.ct)
 | [],vs,bx,i,b,h=>⟨b,by cases vs<;>exact h,rfl,rfl,rfl,λ_=>rfl,.inl rfl⟩
 | .s j l::r,[],bx,i,b,h=>⟨b,h,rfl,rfl,rfl,λ_=>rfl,.inl rfl⟩
 | .s j l::r,v::vs,bx,i,b,h=>jw r vs bx i b h
 | .a j ls::r,vs,bx,i,b,h=>jw r _ bx i b h
 | .b s ls::r,vs,bx,i,b,h=>by
  simp only[Jb,Qk];cases hj:bxi st s with
  | none=>exact jw r _ bx i b h
  | some j=>
   dsimp only;cases hc:cZ bx j with
   | none=>
    obtain⟨b',h1,h2,h3,h4,h5,h6⟩:=jw (st:=st) r _ bx i b h;refine⟨b',h1,h2,h3,h4,λhe=>h5 ?_,h6⟩;simp only[mA]at he;split at he
    ·cases he
    exact he
   | some c=>
    by_cases wG:i=j
    ·subst wG;rw[hc]at h;injection h with h;subst h;obtain⟨b',h1,h2,h3,h4,h5,h6⟩:=jw (st:=st) r _ _ i _ (by rw[jS hc,aV rfl]);refine⟨b',h1,h2,h3,h4,λhe=>?_,?_⟩
     ·simp at he
     rcases h6 with rfl | h6
     ·exact .inr rfl
     exact .inr h6
    obtain⟨b',h1,h2,h3,h4,h5,h6⟩:=jw (st:=st) r _ (NB bx j {c with cells:=vs.take ls.length,stp:=st.ct}) i b (by rw[jS hc,aQ wG];exact h);refine⟨b',h1,h2,h3,h4,λhe=>h5 ?_,h6⟩;simp only[mA]at he;split at he
    ·cases he
    exact he
theorem pc{st}:∀ms vs bx i,cZ bx i=none->cZ (Jb st ms vs bx) i=none
 | [],vs,bx,i,h=>by cases vs<;>exact h
 | .s j l::r,[],bx,i,h=>h
 | .s j l::r,v::vs,bx,i,h=>pc r vs bx i h
 | .a j ls::r,vs,bx,i,h=>pc r _ bx i h
 | .b s ls::r,vs,bx,i,h=>by
  simp[Jb];cases hj:bxi st s with
  | none=>exact pc r _ bx i h
  | some j=>
   dsimp only;cases hc:cZ bx j with
   | none=>exact pc r _ bx i h
   | some c=>
    refine pc r _ _ i ?_;rw[jS hc,aQ]
    ·exact h
    rintro rfl;rw[h]at hc;cases hc
theorem Ext.SQ{st}{kp}{ms}{vs}{w}:Ext st (mS st kp ms vs w):=by
 refine⟨rfl,jr _,λi k v hl bT=>?_,λi b' hb ho hs=>?_,λi b hb=>?_,FX⟩
 ·simp[mS]at hl;rw[uM]at hl;split at hl
  ·rename_i p hp;have:=uO hp;simp at hl;subst hl;omega
  exact(Aa hl).2
 ·simp[mS]at hb;cases hn:cZ st.bx i with
  | none=>rw[pc _ _ _ _ hn]at hb;cases hb
  | some b=>
   obtain⟨b2,h1,h2,h3,h4,h5,h6⟩:=jw (st:=st) ms vs st.bx i b hn;rw[h1]at hb;injection hb with hb;subst hb;rcases h6 with rfl | h6
   ·exact⟨b2,rfl,ho,rfl,rfl,rfl,λ_ h=>h⟩
   omega
 obtain⟨b2,h1,h2,h3,h4,_⟩:=jw (st:=st) ms vs st.bx i b hb;exact⟨b2,h1,h2,h3,λk hk=>by rw[h4];exact hk⟩
def tj(st:St)(kp:List Nat)(ms:List MI)(s:St):Prop:=Ext st s∨∃vs w,Ext (mS st kp ms vs w) s
section
variable {st s:St} {kp:List Nat} {ms:List MI} {β:Nat->Nat} {a:Act} {w:av}
theorem tj.n(h:tj st kp ms s):s.n=st.n:=by
 rcases h with h | ⟨vs,w,h⟩
 ·exact h.n
 exact h.n
theorem tj.df(h:tj st kp ms s):∃l,s.df=l++st.df:=by
 rcases h with h | ⟨vs,w,h⟩
 ·exact h.df
 exact h.df
theorem tj.slot(h:tj st kp ms s){i k}{v v'}(hi:i∈kp)(h1:dV st.fr i=some (k,v))(h2:dV s.fr i=some (k,v'))(hk:k<st.ct)(hs:(Xs ms).elem i=false):v'=v:=by
 rcases h with h | ⟨vs,w,h⟩
 ·have:=h.fr i k v' h2 hk;rw[h1]at this;simpa using this.symm
 have:=h.fr i k v' h2 (Nat.lt_succ_of_lt hk);simp[mS]at this;rw[uM,uN hs]at this;rw[GI hi h1]at this;simpa using this.symm
theorem tj.ps(h:tj st kp ms s){i}{b}(hb:cZ st.bx i=some b):∃c,cZ s.bx i=some c/\c.ty=b.ty/\c.ok=b.ok/\∀k,b.blk=some k->c.blk=some k:=by
 rcases h with h | ⟨vs,w,h⟩
 ·exact h.ps i b hb
 obtain⟨b2,h1,h2,h3,h4,_⟩:=jw (st:=st) ms vs st.bx i b hb;obtain⟨c,k1,k2,k3,k4⟩:=h.ps i b2 h1;exact⟨c,k1,k2.trans h2,k3.trans h3,λk hk=>k4 k (by rw[h4];exact hk)⟩
theorem tj.cells(h:tj st kp ms s){i}{b c}(hb:cZ st.bx i=some b)(hc:cZ s.bx i=some c)(ho:b.ok=true)(hl:(Qk st ms).elem i=false)(hs:c.stp<st.ct):c.cells=b.cells:=by
 rcases h with h | ⟨vs,w,h⟩
 ·obtain⟨c',k1,k2,k3,k4⟩:=h.ps i b hb;rw[hc]at k1;injection k1 with k1;subst k1;obtain⟨b3,m1,m2,m3,_⟩:=h.bx i c hc (k3.trans ho) hs;rw[hb]at m1;injection m1 with m1;rw[m1,m3]
 obtain⟨b2,h1,h2,h3,h4,h5,_⟩:=jw (st:=st) ms vs st.bx i b hb;obtain⟨c',k1,k2,k3,k4⟩:=h.ps i b2 h1;rw[hc]at k1;injection k1 with k1;subst k1;obtain⟨b3,m1,m2,m3,m4,m5,m6⟩:=h.bx i c hc (k3.trans (h3.trans ho)) (Nat.lt_succ_of_lt hs);rw[show cZ (mS st kp ms vs w).bx i=cZ (Jb st ms vs st.bx) i from rfl,h1]at m1;injection m1 with m1;subst m1;rw[<-m3,h5 hl]
theorem K6{sl}:∀{kp:List Nat},Vd st s sl kp=true->∀i∈kp,∀k v,dV st.fr i=some (k,v)->∃v',dV s.fr i=some (k,v')/\k<st.ct/\sl.elem i=false/\cln (GA st.bx) v=true
 | j::r,h,i,hi,k,v,hl=>by
  simp only[Vd,aP]at h;rcases ba.1 hi with rfl | hi
  ·have h1:=h.1;rw[hl]at h1;dsimp only at h1;split at h1
   ·rename_i k' v' hs;simp only[aP,cV]at h1;have e:=cd h1.1.1.1;subst e;exact⟨v',hs,dA h1.1.1.2,h1.1.2,h1.2⟩
   cases h1
  exact K6 h.2 i hi k v hl
theorem Es{Un}:∀{l m:List li} {n:Nat},NJ st Un n l m=true->∀i b,cZ l i=some b->b.ok=true->b.blk.isSome=true/\(Un.elem (n+i)=true∨∃c,cZ m i=some c/\c.stp<st.ct/\iM (GA st.bx) b.cells=true)
 | b::r,[],n,h,_,_,_,_=>by simp[NJ]at h
 | b::r,c::q,n,h,0,b',hb,ho=>by
  simp only[NJ,aP,cx,cV]at h;simp[cZ,bq]at hb;subst hb;rcases h.1 with h1 | ⟨h1,h2⟩
  ·rw[ho]at h1;cases h1
  refine⟨h1,?_⟩;rcases h2 with h2 | h2
  ·exact .inl h2
  exact .inr ⟨c,rfl,dA h2.1,h2.2⟩
 | b::r,c::q,n,h,i+1,b',hb,ho=>by
  simp[NJ,aP]at h;have:=Es h.2 i b' hb ho;rwa[show n+1+i=n+(i+1) by omega]at this
theorem Rep.at(hR:Rep β s a w){i}{v}(h:s.get i=some v):i<s.n/\a.tmps[i]? =some (V.val β v):=by
 unfold St.get at h;cases hb:Nat.blt i s.n with
 | false=>rw[hb]at h;cases h
 | true=>
  rw[hb,oY]at h;cases hl:dV s.fr i with
  | none=>rw[hl]at h;cases h
  | some p=>
   rw[hl]at h;simp at h;subst h;exact⟨dA hb,hR.ok.at_ i p hl (dA hb)⟩
theorem tG{g}:∀{l m:List SV},iM g (l++m)=true->iM g l=true/\iM g m=true
 | [],m,h=>⟨rfl,h⟩
 | s::r,m,h=>by
  simp[bX,iM,aP]at h⊢;obtain⟨h1,h2⟩:=tG h.2;exact⟨⟨h.1,h1⟩,h2⟩
theorem rP{γ b}{vs l m}{n}(hv:V.cK γ vs=V.cK b l++V.cK b m)(hl:l.length=n):V.cK γ (vs.take n)=V.cK b l/\V.cK γ (vs.drop n)=V.cK b m:=by
 have h1:(V.cK γ vs).take n=V.cK γ (vs.take n):=by simp[V.cK,js]
 have h2:(V.cK γ vs).drop n=V.cK γ (vs.drop n):=by simp[V.cK,rG]
 have hn:(V.cK b l).length=n:=by rw[fF,hl]
 rw[<-h1,<-h2,hv,<-hn];exact⟨List.take_left,List.drop_left⟩
theorem Et(hR:Rep β s a w){ct}{γ}:∀{ms:List MI} {ss vs:List SV},qQ st s ms=some ss->iM (GA s.bx) ss=true->V.cK γ vs=V.cK (Iw s.bx) ss->∀i p,dV (Ja ct ms vs) i=some p->a.tmps[i]? =some (V.val γ p.2)
 | [],ss,vs,_,_,_,i,p,h=>by cases vs<;>cases h
 | .s j l::r,ss,[],_,_,_,i,p,h=>aaQ
 | .s j l::r,ss,v::vs,ha,hc,hv,i,p,h=>by
  simp[qQ]at ha;split at ha
  ·rename_i v0 l0 h1 h2;simp at ha;subst ha;simp[iM,aP]at hc;simp[V.cK,bK,sZ]at hv;simp[Ja,dV]at h;cases hb:Nat.beq j i with
   | true=>
    rw[hb]at h;simp at h;subst h;have:=cd hb;subst this;rw[(hR.at h1).2,hv.1,hR.ag7 hc.1]
   | false=>
    rw[hb]at h;exact Et hR h2 hc.2 hv.2 i p abb
  cases ha
 | .a j ls::r,ss,vs,ha,hc,hv,i,p,h=>by
  simp[qQ]at ha;split at ha
  ·rename_i l0 m0 h1 h2;obtain⟨h3,rfl⟩:=Ea ha;simp only[aP]at h3;obtain⟨c1,c2⟩:=tG hc;rw[lY]at hv;obtain⟨e1,e2⟩:=rP hv (cd h3.2);simp[Ja,dV]at h;cases hb:Nat.beq j i with
   | true=>
    rw[hb]at h;simp at h;subst h;have:=cd hb;subst this;rw[(hR.at h1).2];show some (Value.agg (qK β l0).toArray)=some (Value.agg (qK γ _).toArray);rw[rK,e1,nK β h3.1,hR.ur c1]
   | false=>
    rw[hb]at h;exact Et hR h2 c2 e2 i p abb
  cases ha
 | .b j ls::r,ss,vs,ha,hc,hv,i,p,h=>by
  simp[qQ]at ha;split at ha
  ·split at ha
   ·rename_i b m0 h1 h2;obtain⟨h3,rfl⟩:=Ea ha;obtain⟨c1,c2⟩:=tG hc;rw[lY]at hv;obtain⟨e1,e2⟩:=rP hv (cd h3);exact Et hR h2 c2 e2 i p h
   cases ha
  cases ha
theorem A7(hR:Rep β s a w){γ:Nat->Nat}(IE:∀i b,cZ st.bx i=some b->∃c,cZ s.bx i=some c/\c.ty=b.ty/\c.ok=b.ok)(hγ:∀i b,cZ st.bx i=some b->b.ok=true->γ i=β i):∀{ms:List MI} {ss vs:List SV} {bx:List li},qQ st s ms=some ss->iM (GA s.bx) ss=true->V.cK γ vs=V.cK (Iw s.bx) ss->
  (∀j b',cZ bx j=some b'->∃b,cZ st.bx j=some b/\b'.ty=b.ty/\b'.ok=b.ok)->(∀j b',cZ bx j=some b'->b'.ok=true->Blk w (γ j) b'.ty (V.cK γ b'.cells)∨(Qk st ms).elem j=true)->
  ∀j b',cZ (Jb st ms vs bx) j=some b'->b'.ok=true->Blk w (γ j) b'.ty (V.cK γ b'.cells)
 | [],ss,vs,bx,_,_,_,_,hi,j,b',hb,ho=>by
  have:Jb st [] vs bx=bx:=by cases vs<;>rfl
  rw[this]at hb;rcases hi j b' hb ho with h | h
  ·exact h
  cases h
 | .s k l::r,ss,[],bx,ha,hc,hv,h0,hi,j,b',hb,ho=>by
  simp only[qQ]at ha;split at ha
  ·simp only[bq]at ha;subst ha;simp[V.cK]at hv
  cases ha
 | .s k l::r,ss,v::vs,bx,ha,hc,hv,h0,hi,j,b',hb,ho=>by
  simp only[qQ]at ha;split at ha
  ·rename_i v0 l0 h1 h2;simp only[bq]at ha;subst ha;simp only[iM,aP]at hc;simp only[V.cK,bK,sZ]at hv;exact A7 hR IE hγ h2 hc.2 hv.2 h0 hi j b' hb ho
  cases ha
 | .a k ls::r,ss,vs,bx,ha,hc,hv,h0,hi,j,b',hb,ho=>by
  simp only[qQ]at ha;split at ha
  ·rename_i l0 m0 h1 h2;obtain⟨h3,rfl⟩:=Ea ha;simp only[aP]at h3;have fi:=cd h3.2;obtain⟨c1,c2⟩:=tG hc;rw[lY]at hv;obtain⟨e1,e2⟩:=rP hv fi;exact A7 hR IE hγ h2 c2 e2 h0 hi j b' hb ho
  cases ha
 | .b k ls::r,ss,vs,bx,ha,hc,hv,h0,hi,j,b',hb,ho=>by
  simp[qQ]at ha;split at ha
  ·rename_i q hq;split at ha
   ·rename_i c m0 h1 h2;obtain⟨h3,rfl⟩:=Ea ha;have fi:=cd h3;obtain⟨c1,c2⟩:=tG hc;rw[lY]at hv;obtain⟨e1,e2⟩:=rP hv fi;simp only[Jb,hq]at hb;cases hn:cZ bx q with
    | none=>
     rw[hn]at hb;refine A7 hR IE hγ h2 c2 e2 h0 (λi b M7 ho5=>?_) j b' hb ho;rcases hi i b M7 ho5 with h | h
     ·exact .inl h
     simp only[Qk,hq,mA]at h;split at h
     ·rename_i e;have e:=by simpa using e
      rw[e,hn]at M7;cases M7
     exact .inr h
    | some b=>
     rw[hn]at hb;obtain⟨bs,g1,g2,g3⟩:=h0 q b hn;refine A7 hR IE hγ h2 c2 e2 (λi b2 wx=>?_) (λi b2 wx Kg=>?_) j b' hb ho
     ·rw[jS hn]at wx;split at wx
      ·rename_i e;subst e;injection wx with wx;subst wx;exact⟨bs,g1,g2,g3⟩
      exact h0 i b2 wx
     rw[jS hn]at wx;split at wx
     ·rename_i e;subst e;injection wx with wx;subst wx;left;have F2:bs.ok=true:=by rw[<-g3];exact Kg
      obtain⟨c',k1,k2,k3⟩:=IE i bs g1;rw[h1]at k1;injection k1 with k1;subst k1;have hB:=(hR.bx i c h1 (k3.trans F2)).blk;rw[hγ i bs g1 F2,g2,<-k2,e1,hR.ur c1];exact hB
     rename_i ii;rcases hi i b2 wx Kg with h | h
     ·exact .inl h
     simp only[Qk,hq,mA]at h;split at h
     ·rename_i e;exact absurd (by simpa using e) ii
     exact .inr h
   cases ha
  cases ha
theorem tH{J}(h:NK st kp ms J s)(hR:Rep β s a w)(hm:s.mv=false)(Kh:tj st kp ms s){K}(hK:GH _ J K):
  ∃vs,K vs w/\Rep (Iw st.bx) (mS st kp ms vs w) a w:=by
 obtain⟨h0,h⟩:=dB h;obtain⟨ss,hss,h⟩:=bC h;obtain⟨hc,h⟩:=dB h;simp only[aP]at h0;obtain⟨h0,xV⟩:=h0;have S1:s.df=st.df:=by
  obtain⟨l,hl⟩:=Kh.df;have:=cd xV;rw[hl,aN]at this;have:l=[]:=List.length_eq_zero_iff.1 aE;rw[hl,this,bP]
 rw[<-hR.still hm]at h;obtain⟨vs,k1,k2,k3,k4⟩:=Qi h hK;have IE:∀i b,cZ st.bx i=some b->∃c,cZ s.bx i=some c/\c.ty=b.ty/\c.ok=b.ok:=λi b hb=>by
  obtain⟨c,h1,h2,h3,_⟩:=Kh.ps hb;exact⟨c,h1,h2,h3⟩
 have CK:∀i b,cZ st.bx i=some b->b.ok=true->b.blk=some (β i):=λi b hb ho=>by
  obtain⟨hs,_⟩:=Es h0.2 i b hb ho;obtain⟨c,h1,h2,h3,h4⟩:=Kh.ps hb;cases hk:b.blk with
  | none=>rw[hk]at hs;cases hs
  | some k=>rw[(hR.bx i c h1 (h3.trans ho)).at_ k (h4 k hk)]
 have hγ:∀i b,cZ st.bx i=some b->b.ok=true->Iw st.bx i=β i:=λi b hb ho=>by
  unfold Iw;rw[hb];dsimp only;rw[CK i b hb ho];rfl
 have qv:∀i,GA st.bx i=true->Iw st.bx i=β i:=λi hi=>by
  unfold GA at hi;cases hb:cZ st.bx i with
  | none=>rw[hb]at hi;cases hi
  | some b=>
   rw[hb]at hi;simp at hi;exact hγ i b hb hi.1
 have Ki:∀i b',cZ (Jb st ms vs st.bx) i=some b'->b'.ok=true->∃b,cZ st.bx i=some b/\b.ok=true/\b'.blk=b.blk:=λi b' hb ho=>by
  cases hn:cZ st.bx i with
  | none=>rw[pc _ _ _ _ hn]at hb;cases hb
  | some b=>
   obtain⟨b2,h1,h2,h3,h4,_⟩:=jw (st:=st) ms vs st.bx i b hn;rw[h1]at hb;injection hb with hb;subst hb;exact⟨b,rfl,by rw[<-h3];exact ho,h4⟩
 refine⟨vs,k1,rL ⟨hR.ok.sz.trans Kh.n,hR.ok.df.trans (bO Xj S1),λi p hl hi=>?_⟩,λi b' hb ho=>?_,λi j bi bj g1 g2 g3 g4 wG=>?_,Only.refl _ _,λ_=>rfl⟩
 ·simp[mS]at hl;rw[uM]at hl;split at hl
  ·rename_i q hq;simp at hl;subst hl;exact Et hR hss hc (k3 _) i q hq
  obtain⟨m1,m2⟩:=Aa hl;obtain⟨k,v⟩:=p;obtain⟨v',n1,n2,n3,n4⟩:=K6 h0.1 i m1 k v m2;have:=Kh.slot m1 m2 n1 n2 n3;subst this;rw[hR.ok.at_ i _ n1 (by rw[Kh.n];exact hi)];congr 1;exact(ju (g:=GA st.bx) qv _ n4).symm
 ·have hB:=A7 hR IE hγ hss hc (k3 _) (bx:=st.bx) (λj b hb=>⟨b,hb,rfl,rfl⟩) (λj b hb ho=>by
   obtain⟨_,h1⟩:=Es h0.2 j b hb ho;rw[bM]at h1;rcases h1 with h1 | ⟨c,h1,h2,h3⟩
   ·exact .inr h1
   cases hl:(Qk st ms).elem j with
   | true=>exact .inr rfl
   | false=>
    left;obtain⟨c',e1,e2,e3⟩:=IE j b hb;rw[h1]at e1;injection e1 with e1;subst e1;have:=(hR.bx j c h1 (e3.trans ho)).blk;rw[hγ j b hb ho,<-e2,iy (g:=GA st.bx) qv _ h3,<-Kh.cells hb h1 ho hl h2];exact this) i b' hb ho
  obtain⟨b,g1,g2,g3⟩:=Ki i b' hb ho;refine⟨hB,λk hk=>?_,λhk=>?_⟩
  ·rw[hγ i b g1 g2];rw[g3,CK i b g1 g2]at hk;simpa using hk
  rw[g3,CK i b g1 g2]at hk;cases hk
 obtain⟨b,e1,e2,_⟩:=Ki i bi g1 g3;obtain⟨c,f1,f2,_⟩:=Ki j bj g2 g4;obtain⟨b',p1,_,p3⟩:=IE i b e1;obtain⟨c',q1,_,q3⟩:=IE j c f1;rw[hγ i b e1 e2,hγ j c f1 f2];exact hR.ne i j b' c' p1 q1 (p3.trans e2) (q3.trans f2) wG
end
def bR(S:Nat->Prop)(w w':av):Prop:=∀k,S k->k<w.heap.size->w'.heap[k]? =w.heap[k]?
theorem bR.refl S w:bR S w w:=λ_ _ _=>rfl
theorem bR.only{S}{w w'}(h:Only [] w w'):bR S w w':=λk _ hk=>h.block k hk aM
def tI(S:Nat->Prop)(k:Nat):Prop:=¬S k
def EE(P:Program)(ops:List Oper)(mb ms:Bool)(S:Nat->Prop)(j:Nat)(w w':av):Prop:=match ia ops j with
 | some o=>bif j8 P o.op then w'.heap=w.heap else bif mb&&(ms||!zC o.op)then bR S w w' else True
 | none=>False
def XB(mb ms:Bool)(S:Nat->Prop)(o:Op):XT:=λw0 w1 p=>bif mb&&(ms||!zC o)then bR S w0 w1/\p else p
def YB(mb ms:Bool)(S:Nat->Prop):YT:=λbk p=>bif mb&&ms then(match bk with
 | some k=>tI S k/\p
 | none=>False)else p
def rQ(P:Program):Nat->List Oper->List Nat
 | _,[]=>[]
 | i,o::r=>bif j8 P o.op then rQ P (i+1) r else i::rQ P (i+1) r
def Xt(q:Nat)(seen:List Nat):List Edge->Bool
 | []=>false
 | e::r=>(Region.binds .any e&&(Nat.beq e.on q||seen.elem e.on))||Xt q seen r
def Ql(q:Nat):Nat->List Nat->List Oper->List Nat
 | _,seen,[]=>seen
 | i,seen,o::r=>bif Xt q seen o.after.toList then Ql q (i+1) (i::seen) r else Ql q (i+1) seen r
def T6(bG:Array Bool):Nat->List Oper->List Nat
 | _,[]=>[]
 | i,_::r=>bif bG.getD i true then i::T6 bG (i+1) r else T6 bG (i+1) r
def NL(D N:List Nat):List Nat->List Nat
 | []=>[]
 | j::r=>bif D.elem j||N.elem j then NL D N r else j::NL D N r
def K7(ops:List Oper):List Nat->Bool
 | []=>true
 | j::r=>(match ia ops j with
  | some o=>!zC o.op
  | none=>false)&&K7 ops r
def Dq(ops:List Oper)(q:Nat):List Nat:=(Ql q 0 [] ops).reverse
def ZC(P:Program)(ops:List Oper)(bG:Array Bool)(q:Nat):List Nat:=NL (Dq ops q) (T6 bG 0 ops) (rQ P 0 ops)
def ZD{α:Type}:List α->Bool
 | []=>true
 | _=>false
def okT(ops:List Oper)(bG:Array Bool)(q:Nat):Bool:=
 Region.noSelect ops.toArray&&Region.free .any ops.toArray bG q&&uI .any ops.toArray bG&&rI .any ops.toArray q [] (Dq ops q)&&(T6 bG 0 ops).all (λk=>bG.getD k true)
def Ve(st:St)(ops:List Oper)(o:Oper)(Um no:St->Prop):Prop:=match o.guard with
 | none=>Um st
 | some (j,want)=>(match Zv st ops j with
  | some (_,.un)=>no st
  | some (_,.bl b)=>bif b==want then Um st else no st
  | some (d,.bt t)=>((t=true->bif true==want then Um (st.put (some d) (.bl true))else no (st.put (some d) (.bl true)))/\
   (t=false->bif false==want then Um (st.put (some d) (.bl false))else no (st.put (some d) (.bl false))))
  | _=>False)
def ldB(P:Program)(S:Nat->Prop)(st:St)(t:TypeId)(a:SV)(K:SV->Prop):Prop:=match P.underlying t with
 | none=>False
 | some d=>(match a with
  | .box i o=>ch (cZ st.bx i) λb=>bif b.ok&&b.blk.isSome&&sz P t ((b.cells.drop o).take (wc P t)).length&&(mP d||Nat.beq ((b.cells.drop o).take (wc P t)).length 1)then S (b.blk.getD 0)/\K (ND (mP d) ((b.cells.drop o).take (wc P t)))else False
  | .ad p=>bif !st.mv&&sz P t (PW P 12 t).length&&(mP d||Nat.beq (PW P 12 t).length 1)then S p.block/\UU (PW P 12 t) λvs=>Cells st.w0 p (cK β0 vs)/\K (ND (mP d) vs)else False
  | _=>False)
def cvB(P:Program)(S:Nat->Prop)(st:St)(s d:TypeId)(a:SV)(K:SV->Prop):Prop:=match P.underlying s,P.underlying d with
 | some (.slice e),some .string=>(match P.underlying e with
  | some (.int .u8)=>ch (KS a) λu=>bif st.mv then False else ∃l,(∀ad,u.a=some ad->S ad.block)/\sD st.w0 u l/\K (.str ⟨l.toArray⟩)
  | _=>False)
 | _,_=>False
def aes(P:Program):Op->Bool
 | .load _ _=>true
 | .convert s d _=>(match P.underlying s,P.underlying d with
  | some (.slice _),some .string=>true
  | _,_=>false)
 | _=>false
def cvI(P:Program):Op->Bool
 | .convert s d _=>(match P.underlying s,P.underlying d with
  | some (.int _),some (.int _)=>true
  | some .string,some .string=>true
  | _,_=>false)
 | _=>false
def cvZ(P:Program)(s d:TypeId)(a:SV)(K:SV->Prop):Prop:=match P.underlying s,P.underlying d with
 | some (.int _),some (.int kd)=>ch (qL a) λp=>K (.int kd (kd.wrap p.2))
 | some .string,some .string=>ch (wb a) λu=>K (.str u)
 | _,_=>False
def qP(P:Program)(ops:List Oper)(mb ms:Bool)(S:Nat->Prop)(bG:Array Bool)(q:Nat)(o:Oper)(st:St)(K:St->Prop):Prop:=
 bif j8 P o.op then
  bif cvI P o.op then(match o.op with
   | .convert s d x=>ch (st.ev x) λa=>cvZ P s d a λv=>K (st.put o.dst v)
   | _=>False)
  else bif !mem o.op||ZD (ZC P ops bG q)then Zz (nd P st o.op) st λst=>Zn P [] st o.op λv=>K (st.put o.dst v)
  else bif mb&&(ms||K7 ops (ZC P ops bG q))then(match o.op with
   | .load t x=>Zz (nd P st o.op) st λst=>ch (st.ev x) λa=>ldB P S st t a λv=>K (st.put o.dst v)
   | .convert s d x=>Zz (nd P st o.op) st λst=>ch (st.ev x) λa=>cvB P S st s d a λv=>K (st.put o.dst v)
   | _=>False)else False
 else False
def fq(P:Program)(ops:List Oper):List Nat->Option Nat
 | []=>none
 | i::r=>match ia ops i with
  | some o=>bif j8 P o.op then some i else fq P ops r
  | none=>none
def GJ(P:Program)(ops:List Oper)(mb ms:Bool)(S:Nat->Prop):Nat->Array Bool->St->(St->Prop)->Prop
 | 0,bG,st,K=>(match Region.ready .any ops.toArray bG with
  | []=>K st
  | _=>False)
 | g+1,bG,st,K=>(match Region.ready .any ops.toArray bG with
  | []=>K st
  | i::r=>(match fq P ops (i::r)with
   | some q=>ch (ia ops q) λo=>bif okT ops bG q&&(i::r).contains q then
    Ve st ops o (λst=>qP P ops mb ms S bG q o st λst=>GJ P ops mb ms S g (bG.setIfInBounds q true) st K) (λst=>GJ P ops mb ms S g (bG.setIfInBounds q true) (st.put o.dst .un) K)else False
   | none=>(match r with
    | []=>ch (ia ops i) λo=>bif j8 P o.op then False else
     Ve st ops o (λst=>loud P (XB mb ms S o.op) (YB mb ms S) st o λst=>GJ P ops mb ms S g (bG.setIfInBounds i true) st K) (λst=>GJ P ops mb ms S g (bG.setIfInBounds i true) (st.put o.dst .un) K)
    | [j]=>ch (ia ops i) λo=>ch (ia ops j) λo'=>bif j8 P o.op||j8 P o'.op then False else
     Ve st ops o (λst=>loud P (XB mb ms S o.op) (YB mb ms S) st o λst=>GJ P ops mb ms S g (bG.setIfInBounds i true) st K) (λst=>GJ P ops mb ms S g (bG.setIfInBounds i true) (st.put o.dst .un) K)/\
     Ve st ops o' (λst=>loud P (XB mb ms S o'.op) (YB mb ms S) st o' λst=>GJ P ops mb ms S g (bG.setIfInBounds j true) st K) (λst=>GJ P ops mb ms S g (bG.setIfInBounds j true) (st.put o'.dst .un) K)
    | _=>False)))
def mbN(P:Program)(ops:List Oper):Nat->List Oper->Bool
 | _,[]=>false
 | i,o::r=>(bif aes P o.op then(rQ P 0 ops).any λj=>!(Dq ops i).elem j&&!(Dq ops j).elem i
  else false)||mbN P ops (i+1) r
def ZE(P:Program)(ops:List Oper):Nat->List Oper->Bool
 | _,[]=>false
 | i,o::r=>(bif aes P o.op then(rQ P 0 ops).any λj=>!(Dq ops i).elem j&&!(Dq ops j).elem i&&(match ia ops j with
   | some o'=>zC o'.op
   | none=>false)
  else false)||ZE P ops (i+1) r
section
variable {P:Program} {ops:List Oper} {mb ms:Bool} {S:Nat->Prop} {β:Nat->Nat} {a:Act} {w:av}
theorem A8{st}{o}{Um no}(h:Ve st ops o Um no)(hR:Rep β st a w):
  ∃s,Ext st s/\Rep β s a w/\((Region.wanted o (yielded ops.toArray a.tmps)=true/\Um s)∨(Region.wanted o (yielded ops.toArray a.tmps)=false/\no s)):=by
 unfold Ve at h;split at h
 ·rename_i hg;exact⟨st,Ext.refl _,hR,.inl ⟨wn hg,h⟩⟩
 rename_i j want hg;split at h
 ·rename_i d ht;exact⟨st,Ext.refl _,hR,.inr ⟨xZ hR hg ht,h⟩⟩
 ·rename_i d b ht;have hw:=qM hR hg ht (b:=b) rfl;rcases nU h with⟨e,h⟩ | ⟨e,h⟩
  ·exact⟨st,Ext.refl _,hR,.inl ⟨hw.trans e,h⟩⟩
  exact⟨st,Ext.refl _,hR,.inr ⟨hw.trans e,h⟩⟩
 ·rename_i d t ht;obtain⟨oj,IC,Wv,Ul⟩:=AQ ht;have hw:=qM hR hg ht (b:=t) rfl;cases t with
  | true=>
   refine⟨_,Ext.put _ _ (.bl true),hR.set Ul rfl,?_⟩;rcases nU (h.1 rfl)with⟨e,h⟩ | ⟨e,h⟩
   ·exact .inl ⟨hw.trans e,h⟩
   exact .inr ⟨hw.trans e,h⟩
  | false=>
   refine⟨_,Ext.put _ _ (.bl false),hR.set Ul rfl,?_⟩;rcases nU (h.2 rfl)with⟨e,h⟩ | ⟨e,h⟩
   ·exact .inl ⟨hw.trans e,h⟩
   exact .inr ⟨hw.trans e,h⟩
 exact h.elim
theorem Jc{st:St}{d}{t}{x}{l}{ad}{w'}(hu:P.underlying t=some d)(hsz:sz P t l.length=true)(mC:mP d=true∨Nat.beq l.length 1=true)
  (M5:a.eval x=.pointer (some ad)) (hC:Cells w' ad (cK β l)) dst t' p af g:
  (execOp a.eval ⟨dst,.load t x,t',p,af,g⟩).run P w'=.ok (.value (val β (ND (mP d) l))) w':=by
 rcases mC with sK | mC
 ·rw[pV sK];have:=lA (P:=P) hu w';rw[sK]at this;exact uH this (ql hsz w') (fF β l) M5 hC
 cases sK:mP d with
 | true=>
  have e:=pV sK β l;rw[sK]at e;rw[e];have:=lA (P:=P) hu w';rw[sK]at this;exact uH this (ql hsz w') (fF β l) M5 hC
 | false=>
  obtain⟨s,rfl⟩:=AP mC;have:=lA (P:=P) hu w';rw[sK]at this;exact DY this M5 (Cells.one hC)
theorem we:∀{l:List Oper} {i j:Nat} {o:Oper},ia l j=some o->j8 P o.op=false->i+j∈rQ P i l
 | [],_,_,_,h,_=>aaQ
 | c::r,i,0,o,h,hp=>by
  simp[ia,bq]at h;subst h;simp[rQ,hp]
 | c::r,i,j+1,o,h,hp=>by
  have:=we (l:=r) (i:=i+1) (j:=j) h hp;rw[show i+1+j=i+(j+1) by omega]at this;simp[rQ];cases j8 P c.op with
  | true=>exact this
  | false=>exact dl _ this
theorem wW{D N}:∀{l:List Nat} {j:Nat},j∈l->j∉D->j∉N->j∈NL D N l
 | c::r,j,h,h1,h2=>by
  simp only[NL];rcases ba.1 h with rfl | h
  ·have e1:D.elem j=false:=abv
   have e2:N.elem j=false:=ado
   rw[e1,e2];simp
  cases(D.elem c||N.elem c)with
  | true=>exact wW h h1 h2
  | false=>exact dl _ (wW h h1 h2)
theorem GK:∀{l:List Nat} {j:Nat} {o:Oper},K7 ops l=true->j∈l->ia ops j=some o->zC o.op=false
 | [],j,o,_,hj,_=>by cases hj
 | c::r,j,o,h,hj,ho=>by
  simp[K7,aP]at h;rcases ba.1 hj with hc | hj
  ·have h1:=h.1;rw[<-hc,ho]at h1;cases he:zC o.op with
   | false=>rfl
   | true=>dsimp only at h1;rw[he]at h1;cases h1
  exact GK h.2 hj ho
def Sta(P:Program)(ops:List Oper)(mb ms:Bool)(S:Nat->Prop)(D N:List Nat)(F:av->Prop):Prop:=∀j w w',j∉D->j∉N->F w->EE P ops mb ms S j w w'->F w'
theorem Xu{bG}{q}{o}{st}{K}(h:qP P ops mb ms S bG q o st K)(hR:Rep β st a w):
  ∃(v:aw) (s':St) (F:av->Prop),K s'/\Ext st s'/\Rep β s' (a.put o.dst v) w/\F w/\Sta P ops mb ms S (Dq ops q) (T6 bG 0 ops) F/\j8 P o.op=true/\∀w',F w'->(execOp a.eval o).run P w'=.ok (.value v) w':=by
 rcases nU h with⟨hp,h⟩ | ⟨_,h⟩
 case inr=>exact h.elim
 rcases nU h with⟨_,h⟩ | ⟨_,h⟩
 ·obtain⟨dst,op,t',p,af,g⟩:=o;cases op with
  | convert s d x=>
   dsimp only at h;obtain⟨ax,hx,h1⟩:=bC h;unfold cvZ at h1;split at h1
   ·rename_i ks kd h2 h3;obtain⟨⟨k,n⟩,hp1,h1⟩:=bC h1;exact⟨_,_,λ_=>True,h1,Ext.put _ _ _,hR.put _ _,trivial,λ_ _ _ _ _ _ _=>trivial,hp,λw' _=>CZ (run_underlying h2 w') (run_underlying h3 w') ((hR.ev hx).trans (dr hp1 β))⟩
   ·rename_i h2 h3;obtain⟨u,hp1,h1⟩:=bC h1;exact⟨_,_,λ_=>True,h1,Ext.put _ _ _,hR.put _ _,trivial,λ_ _ _ _ _ _ _=>trivial,hp,λw' _=>C0 (run_underlying h2 w') (run_underlying h3 w') ((hR.ev hx).trans (iO hp1 β))⟩
   exact h1.elim
  | _=>exact h.elim
 rcases nU h with⟨hb,h⟩ | ⟨hb,h⟩
 ·obtain⟨s1,h1,e1,iK,_⟩:=yh h hR;obtain⟨v,hv,hy⟩:=I4 h1;have hy:=hy trivial β a w iK;obtain⟨dst,op,t',p,af,g⟩:=o;cases hm:mem op with
  | false=>
   exact⟨val β v,_,λ_=>True,hv,e1.trans (Ext.put _ _ _),iK.put _ v,trivial,λ_ _ _ _ _ _ _=>trivial,hp,λw' _=>hy _ _ _ _ _ w' λe=>by rw[hm]at e;cases e⟩
  | true=>
   have hn:=by simpa[hm]using hb
   refine⟨val β v,_,λw'=>w'.heap=w.heap,hv,e1.trans (Ext.put _ _ _),iK.put _ v,rfl,λj w1 w2 hD hN hF hE=>?_,hp,λw' hF=>hy _ _ _ _ _ w' λ_=>hF⟩;unfold EE at hE;split at hE
   ·rename_i oj hj;rcases nU hE with⟨_,e⟩ | ⟨e,_⟩
    ·exact e.trans hF
    have:=wW (by have:=we (i:=0) hj e;rwa[bM]at this) hD hN;unfold ZC at hn;revert hn this;generalize NL (Dq ops q) (T6 bG 0 ops) (rQ P 0 ops)=m;intro hn this;cases m with
    | nil=>cases this
    | cons=>cases hn
   exact hE.elim
 obtain⟨h0,h⟩:=dB h;simp only[aP]at h0;obtain⟨dst,op,t',p,af,g⟩:=o;have kR:∀F:av->Prop,∀k:Nat,S k->(∀w1 w2:av,F w1->w2.heap[k]? =w1.heap[k]? ->F w2)->(∀w1,F w1->k<w1.heap.size)->Sta P ops mb ms S (Dq ops q) (T6 bG 0 ops) F:=by
  intro F k hk M8 hF2 j w1 w2 hD hN hF hE;unfold EE at hE;split at hE
  ·rename_i oj hj;rcases nU hE with⟨_,e⟩ | ⟨e,hE⟩
   ·exact M8 w1 w2 hF (by rw[e])
   have:=wW (by have:=we (i:=0) hj e;rwa[bM]at this) hD hN;have hs:(ms||!zC oj.op)=true:=by
    rcases cx _ _▸h0.2 with h2 | h2
    ·rw[h2];rfl
    rw[GK h2 this hj,CY,nE]
   rw[h0.1,hs]at hE;exact M8 w1 w2 hF (hE k hk (hF2 _ hF))
  exact hE.elim
 cases op with
 | load t x=>
  dsimp only at h;obtain⟨s1,h1,e1,iK,_⟩:=yh h hR;obtain⟨ax,hx,h1⟩:=bC h1;unfold ldB at h1;split at h1
  ·exact h1.elim
  rename_i d hu;split at h1
  ·rename_i i off;obtain⟨b,zr,h1⟩:=bC h1;obtain⟨hc,hS,hK⟩:=dB h1;simp only[aP,cx]at hc;obtain⟨⟨⟨oh,Ph⟩,hsz⟩,mC⟩:=hc;have hBO:=iK.bx i b zr oh;have hB:=hBO.blk;have hbe:b.blk.getD 0=β i:=by
    cases hk:b.blk with
    | none=>rw[hk]at Ph;cases Ph
    | some k=>rw[hBO.at_ k hk];rfl
   rw[hbe]at hS;have M5:=iK.ev hx;refine⟨_,_,λw'=>Blk w' _ b.ty _,hK,e1.trans (Ext.put _ _ _),iK.put _ _,hB,kR _ _ hS (λw1 w2 hF e=>by unfold Blk at hF⊢;rw[e];exact hF) (λw1 hF=>hF.lt),hp,λw' hF=>?_⟩;generalize hl:(b.cells.drop off).take (wc P t)=l at*
   have hC:Cells w' ⟨β i,off,none⟩ (cK β l):=hF.FB off _ (by
    rw[fF,<-hl];simp only[cK,js,rG];rw[cF,qI];simp only[cr,bN];omega)
   exact Jc (st:=st) hu hsz mC M5 hC _ _ _ _ _
  ·rename_i ad;obtain⟨hc,hS,h2⟩:=dB h1;simp only[aP,cx,cV]at hc;obtain⟨⟨oQ,hsz⟩,mC⟩:=hc;obtain⟨vs,⟨hF,hK⟩,fi,qv⟩:=tC h2;rw[<-iK.still oQ]at hF;have hv:∀w',Cells w' ad _->Cells w' ad (cK β vs):=λw' h=>by
    rw[iy (β:=β) (β':=β0) (g:=λ_=>false) (λi h=>aaQ) vs (qv _)];exact h
   rw[<-fi]at hsz mC;by_cases aho:cK β0 vs=[]
   ·refine⟨_,_,λ_=>True,hK,e1.trans (Ext.put _ _ _),iK.put _ _,trivial,λ_ _ _ _ _ _ _=>trivial,hp,λw' _=>?_⟩;exact Jc (st:=st) hu hsz mC (iK.ev hx) (hv w' (by rw[aho];intro j v hj;simp at hj)) _ _ _ _ _
   exact⟨_,_,λw'=>Cells w' ad _,hK,e1.trans (Ext.put _ _ _),iK.put _ _,hF,kR _ ad.block hS (λw1 w2 hF e=>hF.keep e) (λw1 hF=>hF.lt' aho),hp,λw' hF=>Jc (st:=st) hu hsz mC (iK.ev hx) (hv w' hF) _ _ _ _ _⟩
  exact h1.elim
 | convert s d x=>
  dsimp only at h;obtain⟨s1,h1,e1,iK,_⟩:=yh h hR;obtain⟨ax,hx,h1⟩:=bC h1;unfold cvB at h1;split at h1
  ·rename_i e hu1 hu2;split at h1
   ·rename_i hu3;obtain⟨u,hp1,h1⟩:=bC h1;cases hm:s1.mv with
    | true=>rw[hm]at h1;exact h1.elim
    | false=>
     rw[hm]at h1;obtain⟨l,hS,hF,hK⟩:=h1;rw[<-(iK.still hm)]at hF;refine⟨_,_,λw'=>sD w' u l,hK,e1.trans (Ext.put _ _ _),iK.put _ _,hF,?_,hp,λw' hF'=>AG hu1 hu3 hu2 ((iK.ev hx).trans (kH hp1 β)) hF'⟩;by_cases hl:l=[]
     ·subst hl;exact λj w1 w2 _ _ M8 _=>⟨M8.1,λhh=>absurd rfl hh⟩
     obtain⟨ad,ha,_⟩:=hF.2 hl;refine kR _ ad.block (hS ad ha) (λw1 w2 M8 e=>⟨M8.1,λhh=>?_⟩) (λw1 M8=>?_)
     ·obtain⟨Ke,Ic,hC⟩:=M8.2 hh;rw[ha]at Ic;injection Ic with Ic;subst Ic;exact⟨ad,ha,hC.keep e⟩
     obtain⟨Ke,Ic,hC⟩:=M8.2 hl;rw[ha]at Ic;injection Ic with Ic;subst Ic;exact hC.lt' (by cases l with
      | nil=>exact absurd rfl hl
      | cons c l=>simp)
   exact h1.elim
  exact h1.elim
 | _=>exact h.elim
theorem rR{j}{o}(hj:ia ops j=some o) w:EE P ops mb ms S j w w:=by
 unfold EE;rw[hj];dsimp only;cases j8 P o.op with
 | true=>rfl
 | false=>
  cases(mb&&_)with
  | true=>exact bR.refl _ _
  | false=>exact trivial
theorem GL{Q}{j}{o}{st}{K}(hj:ia ops j=some o)(hp:j8 P o.op=false)(h:loud P (XB mb ms S o.op) (YB mb ms S) st o K)(hR:Rep β st a w):o.wp P a w (Xr (EE P ops mb ms S j) st K w) Q:=by
 have hEE:EE P ops mb ms S j=λw w'=>bif mb&&(ms||!zC o.op)then bR S w w' else True:=by
  unfold EE;rw[hj];dsimp only;rw[hp];rfl
 refine Eo (λw0 w1 p hx=>?_) (λw w1 hO=>?_) (λhs bk k w w1 p hy hk hO=>?_) h hR
 ·rw[hEE];unfold XB at hx;cases hb:(mb&&_)with
  | true=>rw[hb]at hx;exact⟨hx.2,hx.1⟩
  | false=>rw[hb]at hx;exact⟨hx,trivial⟩
 ·rw[hEE];cases(mb&&_)with
  | true=>exact bR.only hO
  | false=>exact trivial
 rw[hEE];rw[hs,Bool.not_true,F9];unfold YB at hy;cases hb:(mb&&ms)with
 | true=>
  rw[hb]at hy;cases bk with
  | none=>exact hy.elim
  | some j=>
   refine⟨hy.2,λq hq bT=>hO.block q bT ?_⟩;have:=hk j rfl;subst this;simp;rintro rfl;exact hy.1 hq
 | false=>rw[hb]at hy;exact⟨hy,trivial⟩
theorem tJ{Q}(hQ:∀c a w,¬Q (.panic c) a w):∀{g:Nat} {bG:Array Bool} {st:St} {K:St->Prop} {β:Nat->Nat} {a:Act} {w:av},GJ P ops mb ms S g bG st K->Rep β st a w->
  (∀β' cO a' w',K cO->Ext st cO->Rep β' cO a' w'->Q .normal a' w')->fE P .any ops.toArray Q (EE P ops mb ms S) g bG a w
 | 0,bG,st,K,β,a,w,h,hR,hK=>by
  unfold GJ at h;split at h
  ·rename_i hr;exact⟨hr,hK β st a w h (Ext.refl _) hR⟩
  exact h.elim
 | g+1,bG,st,K,β,a,w,h,hR,hK=>by
  have L:∀{j:Nat} {o:Oper},ia ops j=some o->j8 P o.op=false->
    Ve st ops o (λst=>loud P (XB mb ms S o.op) (YB mb ms S) st o λst=>GJ P ops mb ms S g (bG.setIfInBounds j true) st K) (λst=>GJ P ops mb ms S g (bG.setIfInBounds j true) (st.put o.dst .un) K)->
    if Region.wanted o (yielded ops.toArray a.tmps)then o.wp P a w (λa' w'=>EE P ops mb ms S j w w'/\fE P .any ops.toArray Q (EE P ops mb ms S) g (bG.setIfInBounds j true) a' w') Q∨(o.asks P a w/\LetsOut Q)
    else(λa' w'=>EE P ops mb ms S j w w'/\fE P .any ops.toArray Q (EE P ops mb ms S) g (bG.setIfInBounds j true) a' w') (a.put o.dst undef) w:=by
   intro j o ho hp h;obtain⟨s,e1,iK,h1⟩:=A8 h hR;rcases h1 with⟨hw,h1⟩ | ⟨hw,h1⟩
   ·rw[aV hw];refine .inl (Oper.wp_mono ?_ (GL ho hp h1 iK));rintro a' w' ⟨β',cO,k1,k2,k3,k4⟩;exact⟨k3,tJ hQ k1 k4 λβ2 zq a2 w2 m1 m2 m3=>hK β2 zq a2 w2 m1 ((e1.trans k2).trans m2) m3⟩
   rw[aQ (by simp[hw])];exact⟨rR ho w,tJ hQ h1 (iK.put o.dst .un) λβ2 zq a2 w2 m1 m2 m3=>hK β2 zq a2 w2 m1 ((e1.trans (Ext.put _ _ _)).trans m2) m3⟩
  unfold GJ at h;split at h
  ·rename_i hr;exact Ze hr (hK β st a w h (Ext.refl _) hR)
  rename_i i r hr;split at h
  ·rename_i q hq;obtain⟨o,ho,h⟩:=bC h;obtain⟨hc,h⟩:=dB h;simp only[aP,okT]at hc;obtain⟨⟨⟨⟨⟨c1,c2⟩,c3⟩,c4⟩,c5⟩,c6⟩:=hc;obtain⟨s,e1,iK,h1⟩:=A8 h hR;rcases h1 with⟨hw,h1⟩ | ⟨hw,h1⟩
   ·obtain⟨v,s2,F,k1,k2,k3,k4,k5,k6,k7⟩:=Xu h1 iK;have hE:∀w1,F w1->EE P ops mb ms S q w1 w1:=λw1 _=>rR ho w1;exact IY q _ _ v F ho c1 c2 (by rw[hr];exact c6) c3 c4 c5 (λc a w hp=>(hQ _ _ _ hp).elim) k5 hE k4 (Xg hw k7) rfl
     (tJ hQ k1 k3 λβ2 zq a2 w2 m1 m2 m3=>hK β2 zq a2 w2 m1 ((e1.trans k2).trans m2) m3)
   exact IY q _ _ undef _ ho c1 c2 (by rw[hr];exact c6) c3 c4 c5 (λc a w hp=>(hQ _ _ _ hp).elim) (λ_ _ _ _ _ _ _=>trivial) (λw1 _=>rR ho w1) trivial (Zf hw) rfl
    (tJ hQ h1 (iK.put o.dst .un) λβ2 zq a2 w2 m1 m2 m3=>hK β2 zq a2 w2 m1 ((e1.trans (Ext.put _ _ _)).trans m2) m3)
  split at h
  ·obtain⟨o,ho,h⟩:=bC h;rcases nU h with⟨_,h⟩ | ⟨hp,h⟩
   ·exact h.elim
   obtain⟨s,e1,iK,h1⟩:=A8 h hR;rcases h1 with⟨hw,h1⟩ | ⟨hw,h1⟩
   ·refine aea i ho hr hw (Oper.wp_mono ?_ (GL ho hp h1 iK));rintro a' w' ⟨β',cO,k1,k2,k3,k4⟩;exact⟨k3,tJ hQ k1 k4 λβ2 zq a2 w2 m1 m2 m3=>hK β2 zq a2 w2 m1 ((e1.trans k2).trans m2) m3⟩
   exact UR i ho hr hw (rR ho w) rfl (tJ hQ h1 (iK.put o.dst .un) λβ2 zq a2 w2 m1 m2 m3=>hK β2 zq a2 w2 m1 ((e1.trans (Ext.put _ _ _)).trans m2) m3)
  ·rename_i j _;obtain⟨o,ho,h⟩:=bC h;obtain⟨o',Pj,h⟩:=bC h;rcases nU h with⟨_,h⟩ | ⟨hp,h⟩
   ·exact h.elim
   simp at hp;exact aeb i j ho Pj hr (L ho hp.1 h.1) (L Pj hp.2 h.2)
  exact h.elim
end
def oA(ws w w':av):Prop:=w.heap.size<=w'.heap.size/\∀k,ws.heap.size<=k->k<w.heap.size->w'.heap[k]? =w.heap[k]?
def A9(mk:List (Nat×Nat))(b:Nat):Prop:=∀p∈mk,b<p.1∨p.2<=b
theorem oA.only{bs}{ws w w'}(h:Only bs w w')(hb:∀b∈bs,b<ws.heap.size∨w.heap.size<=b):oA ws w w':=
 ⟨h.size,λk h1 h2=>h.block k h2 λhk=>ac9⟩
theorem oA.M1{ws w w'}(h:Only [] w w'):oA ws w w':=oA.only h aM
theorem A9.one{m n b}{r}(h:A9 ((m,n)::r) b):b<m∨n<=b:=h _ dZ
structure LZ where
 z:Nat
 d:Nat
 t:TypeId
 zs:List SV
def wg(P:Program)(z:Nat)(o:Oper):Option LZ:=match o.op,o.dst,o.guard with
 | .alloc t,some d,none=>(match zc P t with
  | some zs=>bif ZD o.after.toList&&iM (λ_=>false) zs then some ⟨z,d,t,zs⟩else none
  | none=>none)
 | _,_,_=>none
def lO(P:Program):Nat->List Oper->List LZ
 | _,[]=>[]
 | i,o::r=>match wg P i o with
  | some p=>p::lO P (i+1) r
  | none=>lO P (i+1) r
def oI:List LZ->List Nat
 | []=>[]
 | p::r=>p.z::oI r
def zSl:List LZ->List Nat
 | []=>[]
 | p::r=>p.d::zSl r
def GM(z d:Nat):Nat->List Oper->Bool
 | _,[]=>true
 | i,o::r=>(Nat.beq i z||(match o.dst with
  | some e=>!Nat.beq e d
  | none=>true))&&GM z d (i+1) r
def zOk(ops:List Oper):List LZ->Bool
 | []=>true
 | p::r=>GM p.z p.d 0 ops&&zOk ops r
theorem Qm{α}:∀{l:List α},ZD l=true->l=[]
 | [],_=>rfl
theorem mT{P}{z}{o}{p}(h:wg P z o=some p):p.z=z/\o.op=.alloc p.t/\o.dst=some p.d/\o.guard=none/\o.after.toList=[]/\zc P p.t=some p.zs/\iM (λ_=>false) p.zs=true:=by
 unfold wg at h;split at h
 ·rename_i t d h1 h2 h3;split at h
  ·rename_i zs hz;obtain⟨h4,rfl⟩:=Ea h;simp at h4;exact⟨rfl,h1,h2,h3,Qm h4.1,hz,h4.2⟩
  cases h
 cases h
theorem oJ{Z}{z}:z∈oI Z↔∃p∈Z,p.z=z:=by
 induction Z with
 | nil=>simp[oI]
 | cons p r ih=>simp[oI,ih,eq_comm (a:=z)]
theorem Ba{P}:∀{l:List Oper} {i:Nat} {p:LZ},p∈lO P i l->∃j o,p.z=i+j/\ia l j=some o/\wg P p.z o=some p
 | [],i,p,h=>aaQ
 | o::r,i,p,h=>by
  have tl:p∈lO P (i+1) r->∃j o',p.z=i+j/\ia (o::r) j=some o'/\wg P p.z o'=some p:=λh=>by
   obtain⟨j,o',h1,h2,h3⟩:=Ba h;exact⟨j+1,o',aE,h2,h3⟩
  unfold lO at h;split at h
  ·rename_i q hq;rcases ba.1 h with rfl | h
   ·have:=(mT hq).1;exact⟨0,o,this,rfl,by rw[this];exact hq⟩
   exact tl h
  exact tl h
theorem Bb{P}:∀{l:List Oper} {i:Nat},(oI (lO P i l)).Nodup
 | [],i=>by simp[lO,oI]
 | o::r,i=>by
  unfold lO;split
  ·rename_i q hq;have e:=(mT hq).1;simp[oI];refine⟨λhm=>?_,Bb⟩;obtain⟨p,h1,h2⟩:=oJ.1 hm;obtain _:=Ba h1;omega
  exact Bb
theorem Qn{z d}:∀{l:List Oper} {i j:Nat} {o:Oper},GM z d i l=true->ia l j=some o->i+j≠z->o.dst≠some d:=by
 intro l
 induction l with
 | nil=>intro i j o _ h;cases h
 | cons c r ih=>
  intro i j o h hj hz;simp only[GM,aP,cx]at h;cases j with
  | zero=>
   simp[ia]at hj;intro e;simp_all
  | succ j=>exact ih (i:=i+1) (j:=j) h.2 hj aE
theorem Qo{ops}:∀{Z:List LZ},zOk ops Z=true->∀p∈Z,GM p.z p.d 0 ops=true
 | q::r,h,p,hp=>by
  simp[zOk]at h;rcases ba.1 hp with rfl | hp
  ·exact h.1
  exact Qo h.2 p hp
def ff(l:Array Bool):List Nat->Array Bool
 | []=>l
 | z::r=>ff (l.setIfInBounds z true) r
theorem GN(l:Array Bool) i j:(l.setIfInBounds i true).setIfInBounds j true=(l.setIfInBounds j true).setIfInBounds i true:=by
 by_cases h:i=j
 ·subst h;rfl
 exact Array.setIfInBounds_comm _ _ h
theorem pd:∀{D:List Nat} {l:Array Bool} {z:Nat},ff (l.setIfInBounds z true) D=(ff l D).setIfInBounds z true
 | [],_,_=>rfl
 | d::r,l,z=>by simp[ff,GN,pd]
theorem GP{D E}(h:D.Perm E):∀l,ff l D=ff l E:=by
 induction h with
 | nil=>intro l;rfl
 | cons x _ ih=>intro l;exact ih _
 | swap x y r=>intro l;simp[ff];rw[GN]
 | trans _ _ h1 h2=>intro l;exact(h1 l).trans (h2 l)
theorem qR:∀{D:List Nat} {l:Array Bool} {k:Nat},(ff l D).getD k false=true↔l.getD k false=true∨(k∈D/\k<l.size)
 | [],l,k=>by simp[ff]
 | d::r,l,k=>by
  simp only[ff];rw[qR];by_cases h:d=k
  ·subst h;by_cases hs:d<l.size
   ·simp[hs]
   simp[hs]
  simp[qE h,Ne.symm h]
theorem pe:∀{D:List Nat} {l:Array Bool} {k:Nat},(ff l D).getD k true=true↔l.getD k true=true∨k∈D
 | [],l,k=>by simp[ff]
 | d::r,l,k=>by
  simp only[ff];rw[pe];by_cases h:d=k
  ·simp_all
  simp[qE h,Ne.symm h]
def CE(Zi:List Nat):List Nat->List Nat
 | []=>[]
 | j::r=>bif Zi.elem j then CE Zi r else j::CE Zi r
theorem qS{Zi}:∀{l:List Nat} {j:Nat},j∈CE Zi l↔j∈l/\j∉Zi
 | [],j=>by simp[CE]
 | c::r,j=>by
  simp only[CE];cases h:Zi.elem c with
  | true=>
   simp only[oY,qS,ba]
   grind
  | false=>
   simp[qS]
   grind
def K8(Zi R:List Nat):List Nat->Bool
 | []=>true
 | j::r=>(R.elem j&&!Zi.elem j)&&K8 Zi R r
theorem GQ{Zi R}:∀{l:List Nat},K8 Zi R l=true->∀j∈l,j∈R/\j∉Zi
 | c::r,h,j,hj=>by
  simp[K8]at h;rcases ba.1 hj with rfl | hj
  ·grind
  exact GQ h.2 j hj
def wX(l:Array Bool):List Nat->Bool
 | []=>true
 | z::r=>!l.getD z true&&wX l r
theorem yZ{l}:∀{Zi:List Nat},wX l Zi=true->∀z∈Zi,l.getD z true=false
 | c::r,h,z,hz=>by
  simp only[wX,aP,cV]at h;rcases ba.1 hz with rfl | hz
  ·exact h.1
  exact yZ h.2 z hz
def ZF(ops:List Oper)(Zi:List Nat)(l:Array Bool):Bool:=K8 Zi (Region.ready .any ops.toArray l) (Region.ready .any ops.toArray (ff l Zi))
def K9(z:Nat):List Nat->Bool
 | []=>true
 | j::r=>Nat.beq j z&&K9 z r
theorem GR{z}:∀{l:List Nat},K9 z l=true->∀j∈l,j=z
 | c::r,h,j,hj=>by
  simp only[K9,aP]at h;rcases ba.1 hj with rfl | hj
  ·simp_all
  exact GR h.2 j hj
def Vf(ops:List Oper)(l:Array Bool)(Zi:List Nat):List Nat->Bool
 | []=>true
 | z::r=>K9 z (Region.ready .any ops.toArray (ff l (Zi.erase z)))&&Vf ops l Zi r
theorem La{ops}{l}{Zi}:∀{r:List Nat},Vf ops l Zi r=true->∀z∈r,∀j∈Region.ready .any ops.toArray (ff l (Zi.erase z)),j=z
 | c::r,h,z,hz=>by
  simp[Vf]at h;rcases ba.1 hz with rfl | hz
  ·exact GR h.1
  exact La h.2 z hz
section
variable {md:Region.Mode} {ops:Array Oper}
theorem yi{l}{D E}(hs:∀x∈D,x∈E){j}(h:j∈Region.ready md ops (ff l D))(hj:j∉E):j∈Region.ready md ops (ff l E):=by
 rw[mem_ready]at h⊢;obtain⟨h0,o,ho,fX⟩:=h;refine⟨?_,o,ho,λe he hb=>?_⟩
 ·rw[gN]at h0⊢;intro h1;rcases pe.1 h1 with h1 | h1
  ·exact h0 (pe.2 (.inl h1))
  exact hj h1
 rcases qR.1 (fX e he hb)with h1 | h1
 ·exact qR.2 (.inl h1)
 exact qR.2 (.inr ⟨hs _ h1.1,h1.2⟩)
theorem CF{l}(h:rH md ops l){D}(hD:∀z∈D,∀o,ops[z]? =some o->o.after.toList=[]):rH md ops (ff l D):=by
 intro k o hk hl e he hb;rcases qR.1 hl with h1 | h1
 ·exact qR.2 (.inl (h k o hk h1 e he hb))
 have:=hD k h1.1 o hk;simp_all
end
theorem ZG{P}{o:Oper}{a}{w}{K}{Q}(hh:o.wp P a w K Q):
  o.wp P a w (λa' w'=>K a' w'/\∀i,o.dst≠some i->a'.tmps[i]? =a.tmps[i]?) Q:=by
 unfold Oper.wp at*
 generalize (execOp a.eval o).run P w=r at*
 cases r with
 | ok n w'=>
  cases n
  case value v=>exact⟨hh,(lm _ _ _).2.2⟩
  case skip=>exact⟨hh,(lm _ _ _).2.2⟩
  case defer d=>exact⟨hh,(lm _ _ _).2.2⟩
  case enter f args=>
   refine Calls.mono hh (λe sR he=>?_);cases e with
   | returned v=>exact⟨he,(lm _ _ _).2.2⟩
   | _=>exact he
  case row n args=>exact Rows.mono hh (λv sR he=>⟨he,(lm _ _ _).2.2⟩)
  all_goals exact hh
 | halt x w'=>cases x<;>simp[Oper.upon]at hh⊢ <;>exact hh
structure Late (Z:List LZ) (ws:av) (bz:Nat->Nat) (D:List Nat) (mk:List (Nat×Nat)) (a:Act) (w:av):Prop where
 at_:∀p∈Z,p.z∈D->a.tmps[p.d]? =some (.pointer (some ⟨bz p.z,0,none⟩))/\Blk w (bz p.z) p.t (cK β0 p.zs)/\ws.heap.size<=bz p.z/\A9 mk (bz p.z)
 sub:∀z∈D,z∈oI Z
 ne:∀z∈D,∀z'∈D,z≠z'->bz z≠bz z'
 top:∀p∈mk,p.2<=w.heap.size
 le:ws.heap.size<=w.heap.size
section
variable {Z:List LZ} {ws:av} {bz:Nat->Nat} {D:List Nat} {mk:List (Nat×Nat)} {a a':Act} {w w1:av}
theorem Late.act(h:Late Z ws bz D mk a w)(ha:∀p∈Z,a'.tmps[p.d]? =a.tmps[p.d]?):Late Z ws bz D mk a' w:=
 ⟨λp hp hd=>by rw[ha p hp];exact h.at_ p hp hd,h.sub,h.ne,h.top,h.le⟩
theorem Late.loud(h:Late Z ws bz D mk a w)(hN:oA ws w w1)(ha:∀p∈Z,a'.tmps[p.d]? =a.tmps[p.d]?):Late Z ws bz D ((w.heap.size,w1.heap.size)::mk) a' w1:=by
 refine⟨λp hp hd=>?_,h.sub,h.ne,λp hp=>?_,bB h.le hN.1⟩
 ·obtain⟨h1,h2,h3,h4⟩:=h.at_ p hp hd;have h5:=h2.lt;refine⟨by rw[ha p hp];exact h1,?_,h3,λq hq=>?_⟩
  ·unfold Blk at h2⊢;rw[hN.2 _ h3 h5];exact h2
  rcases ba.1 hq with rfl | hq
  ·exact .inl h5
  exact h4 q hq
 rcases ba.1 hp with rfl | hp
 ·exact aY _
 exact bB (h.top p hp) hN.1
theorem Late.alloc(h:Late Z ws bz D mk a w)(hu:∀p∈Z,∀q∈Z,p.z=q.z->p=q)(hd:∀p∈Z,∀q∈Z,p.z≠q.z->p.d≠q.d){p}(hp:p∈Z)(hn:p.z∉D){b}(hb:w.heap.size<=b)(hO:Only [] w w1)(hB:Blk w1 b p.t (cK β0 p.zs))(hs:p.d<a.tmps.size):
  Late Z ws (λz=>if z=p.z then b else bz z) (p.z::D) mk (a.put (some p.d) (.pointer (some ⟨b,0,none⟩))) w1:=by
 refine⟨λq hq hqd=>?_,λz hz=>?_,λz hz z' M9 ii=>?_,λq hq=>bB (h.top q hq) hO.size,bB h.le hO.size⟩
 ·by_cases e:q.z=p.z
  ·have:=hu q hq p hp e;subst this;rw[aV rfl];refine⟨by simp[Act.put,hs],hB,bB h.le hb,λx hx=>.inr (bB (h.top x hx) hb)⟩
  rw[aQ e];obtain⟨h1,h2,h3,h4⟩:=h.at_ q hq ac9;refine⟨?_,hO.blk h2 aM,h3,h4⟩;rw[(lm a _ _).2.2 q.d (by
   intro k;injection k with k;exact hd p hp q hq (Ne.symm e) k)]
  exact h1
 ·rcases ba.1 hz with rfl | hz
  ·exact oJ.2 ⟨p,hp,rfl⟩
  exact h.sub z hz
 have Pf:∀z∈D,bz z<w.heap.size:=λz hz=>by
  obtain⟨q,hq,rfl⟩:=oJ.1 (h.sub z hz);exact(h.at_ q hq hz).2.1.lt
 rcases ba.1 hz with rfl | hz<;>rcases ba.1 M9 with rfl | M9
 ·exact absurd rfl ii
 ·grind
 ·rw[aQ ii,aV rfl];have:=Pf _ hz;omega
 rw[aQ (λe=>hn (by rw[<-e];exact hz)),aQ (λe=>hn (by rw[<-e];exact M9))];exact h.ne _ hz _ M9 ii
end
def YF:YT:=λ_ _=>False
def XL(mb ms:Bool)(S:Nat->Prop)(ws:av)(o:Op):XT:=λw0 w1 p=>oA ws w0 w1/\XB mb ms S o w0 w1 p
def Lb(st:St):List LZ->Bool
 | []=>true
 | p::r=>(dV st.fr p.d).isNone&&Nat.blt p.d st.n&&Lb st r
theorem GS{st}:∀{Z:List LZ},Lb st Z=true->∀p∈Z,dV st.fr p.d=none/\p.d<st.n
 | q::r,h,p,hp=>by
  simp only[Lb,aP,Option.isNone_iff_eq_none]at h;rcases ba.1 hp with rfl | hp
  ·simp_all
  exact GS h.2 p hp
def St.yM(st:St):St:={st with mv:=true}
def eqA:List Bool->List Bool->Bool
 | [],[]=>true
 | a::r,b::s=>(a==b)&&eqA r s
 | _,_=>false
theorem Qp:∀{l m:List Bool},eqA l m=true->l=m
 | [],[],_=>rfl
 | a::r,b::s,h=>by
  simp[eqA]at h;rw[h.1,Qp h.2]
def lL(P:Program)(ops:List Oper)(mb ms:Bool)(S:Nat->Prop)(ws:av)(mk:List (Nat×Nat))(st:St)(o:Oper)(D:List (Nat×Nat)->St->Prop):Prop:=
 bif j8 P o.op then False else Ve st ops o (λst=>fe st λst=>loud P (XL mb ms S ws o.op) YF st o λs=>bif s.mv then False else D ((st.w0.heap.size,s.w0.heap.size)::mk) s.yM) (λst=>D mk (St.yM (st.put o.dst .un)))
def fqG(P:Program)(ops:List Oper)(Zi:List Nat)(bG:Array Bool):List Nat->Option Nat
 | []=>none
 | i::r=>(match ia ops i with
  | some o=>bif j8 P o.op&&ZF ops Zi (bG.setIfInBounds i true)then some i else fqG P ops Zi bG r
  | none=>fqG P ops Zi bG r)
def fqZ(P:Program)(ops:List Oper)(Zi:List Nat)(bG:Array Bool)(l:List Nat):Option Nat:=
 match fqG P ops Zi bG l with
 | some q=>some q
 | none=>fq P ops l
def NM(P:Program)(ops:List Oper)(mb ms:Bool)(S:Nat->Prop)(ws:av)(Z:List LZ)(yO:Array Bool)(gm:Nat)(K:List (Nat×Nat)->St->Prop):Nat->Array Bool->List (Nat×Nat)->St->Prop
 | 0,_,_,_=>False
 | g+1,bG,mk,st=>bif wX bG (oI Z)&&Lb st Z then(match CE (oI Z) (Region.ready .any ops.toArray bG)with
  | []=>bif Vf ops bG (oI Z) (oI Z)&&eqA bG.toList yO.toList&&Nat.beq (g+1) gm&&Nat.ble (oI Z).length (g+1)then K mk st else False
  | i::r=>bif ZF ops (oI Z) bG&&Nat.ble (oI Z).length g then(match fqZ P ops (oI Z) bG (i::r)with
   | some q=>ch (ia ops q) λo=>bif okT ops bG q&&(i::r).contains q then
    Ve st ops o (λst=>qP P ops mb ms S bG q o st.yM λst=>NM P ops mb ms S ws Z yO gm K g (bG.setIfInBounds q true) mk st.yM) (λst=>NM P ops mb ms S ws Z yO gm K g (bG.setIfInBounds q true) mk (St.yM (st.put o.dst .un)))else False
   | none=>(match r with
    | []=>ch (ia ops i) λo=>lL P ops mb ms S ws mk st o λmk st=>NM P ops mb ms S ws Z yO gm K g (bG.setIfInBounds i true) mk st
    | [j]=>ch (ia ops i) λo=>ch (ia ops j) λo'=>
     lL P ops mb ms S ws mk st o (λmk st=>NM P ops mb ms S ws Z yO gm K g (bG.setIfInBounds i true) mk st)/\
     lL P ops mb ms S ws mk st o' (λmk st=>NM P ops mb ms S ws Z yO gm K g (bG.setIfInBounds j true) mk st)
    | [j,k]=>ch (ia ops i) λo=>ch (ia ops j) λo'=>ch (ia ops k) λo''=>
     lL P ops mb ms S ws mk st o (λmk st=>NM P ops mb ms S ws Z yO gm K g (bG.setIfInBounds i true) mk st)/\
     lL P ops mb ms S ws mk st o' (λmk st=>NM P ops mb ms S ws Z yO gm K g (bG.setIfInBounds j true) mk st)/\
     lL P ops mb ms S ws mk st o'' (λmk st=>NM P ops mb ms S ws Z yO gm K g (bG.setIfInBounds k true) mk st)
    | _=>False))else False)else False
section
variable {P:Program} {ops:List Oper} {mb ms:Bool} {S:Nat->Prop} {β:Nat->Nat} {a:Act} {w:av} {ws:av} {Z:List LZ} {yO:Array Bool} {gm:Nat}
theorem Rep.late{st}(hR:Rep β st a w)(hm:st.mv=true){d}{v}(hd:dV st.fr d=none){w1}(hO:Only [] w w1):Rep β st (a.put (some d) v) w1:=by
 obtain⟨p1,p2,p3⟩:=lm a _ v;refine⟨rL ⟨p1.trans hR.ok.sz,p2.trans hR.ok.df,λi p hl hi=>?_⟩,λi b hb ho=>?_,hR.ne,hR.only.ca hO,λh=>by rw[hm]at h;cases h⟩
 ·rw[p3 i ac9];exact hR.ok.at_ i p hl hi
 obtain⟨k1,k2,k3⟩:=hR.bx i b hb ho;exact⟨hO.blk k1 aM,k2,k3⟩
theorem Rep.yM{st}(hR:Rep β st a w):Rep β st.yM a w:=⟨hR.fr,hR.bx,hR.ne,hR.only,λh=>aaQ⟩
theorem Ext.yM st:Ext st st.yM:=⟨rfl,aY _,λ_ _ _ h _=>h,λi b h ho _=>⟨b,h,ho,rfl,rfl,rfl,λ_ h=>h⟩,PV,FX⟩
theorem aeu{Q}{j}{o}{st}{mk}{D}(hj:ia ops j=some o)(h:lL P ops mb ms S ws mk st o D)(hR:Rep β st a w):
  wpOp P ops.toArray Q j (λa' w'=>EE P ops mb ms S j w w'/\(∀i,o.dst≠some i->a'.tmps[i]? =a.tmps[i]?)/\∃β' cO mk',D mk' cO/\Ext st cO/\cO.mv=true/\Rep β' cO a' w'/\((mk'=mk/\w'=w)∨(mk'=(w.heap.size,w'.heap.size)::mk/\oA ws w w'))) a w:=by
 rcases nU h with⟨_,h⟩ | ⟨hp,h⟩
 ·exact h.elim
 have Wq:ops.toArray[j]? =some o:=by rw[kg]at hj;simpa using hj
 unfold wpOp;simp only[Wq];obtain⟨s,e1,iK,h1⟩:=A8 h hR;rcases h1 with⟨hw,h1⟩ | ⟨hw,h1⟩
 ·rw[aV hw];left;obtain⟨s1,h2,e2,Yv,vj,_⟩:=dW h1 iK;have hEE:EE P ops mb ms S j=λw w'=>bif mb&&(ms||!zC o.op)then bR S w w' else True:=by
   unfold EE;simp_all
  have:=ZG (Eo (E:=λw w'=>EE P ops mb ms S j w w'/\oA ws w w') (Q:=Q) (λw0 w1 p hx=>?_) (λw w1 hO=>?_) (λhs bk k w w1 p hy hk hO=>hy.elim) h2 Yv)
  ·refine Oper.wp_mono ?_ this;rintro a' w' ⟨⟨β',cO,k1,k2,k3,k4⟩,k5⟩;rcases nU k1 with⟨_,k1⟩ | ⟨km,k1⟩
   ·exact k1.elim
   refine⟨k3.1,k5,β',cO.yM,_,k1,((e1.trans e2).trans k2).trans (Ext.yM _),rfl,k4.yM,.inr ⟨?_,k3.2⟩⟩;rw[<-k4.still km,<-Yv.still vj]
  ·rw[hEE];obtain⟨hN,hx⟩:=hx;unfold XB at hx;cases hb:(mb&&(ms||!zC o.op))<;>grind
  rw[hEE];refine⟨?_,oA.M1 hO⟩;cases(mb&&_)with
  | true=>exact bR.only hO
  | false=>exact trivial
 rw[aQ ac9];exact⟨rR hj w,(lm _ _ _).2.2,β,_,mk,h1,(e1.trans (Ext.put _ _ _)).trans (Ext.yM _),rfl,(iK.put o.dst .un).yM,.inl ⟨rfl,trivial⟩⟩
theorem Qq{Q:Exit->Act->av->Prop}(hQ:∀c a w,¬Q (.panic c) a w)(hZ:∀p∈Z,∃o,ia ops p.z=some o/\wg P p.z o=some p)(hzo:zOk ops Z=true)(hnd:(oI Z).Nodup){s0:St}{K:List (Nat×Nat)->St->Prop}
  (hK:∀mk st β a w bz D m,K mk st->Ext s0 st->Rep β st a w->Late Z ws bz D mk a w->D.Perm (oI Z)->m+D.length=gm->fE P .any ops.toArray Q (EE P ops mb ms S) m (ff yO D) a w):
  ∀(m g:Nat) {bG:Array Bool} {mk:List (Nat×Nat)} {st:St} {β:Nat->Nat} {a:Act} {w:av} {bz:Nat->Nat} {D Pd:List Nat},NM P ops mb ms S ws Z yO gm K g bG mk st->Ext s0 st->st.mv=true->Rep β st a w->Late Z ws bz D mk a w->(D++Pd).Perm (oI Z)->m+D.length=g->
   fE P .any ops.toArray Q (EE P ops mb ms S) m (ff bG D) a w:=by
 intro m;have hu:∀p∈Z,∀q∈Z,p.z=q.z->p=q:=λp hp q hq e=>by
  obtain⟨o,h1,h2⟩:=hZ p hp;obtain⟨o',h3,h4⟩:=hZ q hq;rw[e,h3]at h1;injection h1 with h1;subst h1;rw[e,h4]at h2;injection h2 with h2;exact h2.symm
 have hdo:∀p∈Z,∀j o,ia ops j=some o->j≠p.z->o.dst≠some p.d:=λp hp j o hj ii=>Qn (Qo hzo p hp) hj (by rw[bM];exact ii);have S2:∀p∈Z,∀q∈Z,p.z≠q.z->p.d≠q.d:=λp hp q hq ii e=>by
  obtain⟨o',h3,h4⟩:=hZ q hq;exact hdo p hp q.z o' h3 (Ne.symm ii) (by rw[(mT h4).2.2.1,e])
 induction m using Nat.strongRecOn with
 | ind m ih=>
 intro g bG mk st β a w bz D Pd h he hm hR hL hp hg;cases g with
 | zero=>exact h.elim
 | succ g=>
 have h0:=h;unfold NM at h;obtain⟨hc,h⟩:=dB h;simp only[aP]at hc;obtain⟨hun,hfz⟩:=hc;have hun:=yZ hun;have hDZ:∀x∈D,x∈oI Z:=hL.sub;have hPZ:∀x∈Pd,x∈oI Z:=λx hx=>hp.subset (List.mem_append_right _ hx);have fi:D.length+Pd.length=(oI Z).length:=by have:=hp.length_eq;rwa[aN]at this
 have amu:(D++Pd).Nodup:=hp.nodup_iff.2 hnd;have hPD:∀x∈Pd,x∉D:=λx hx hd=>(List.nodup_append.1 amu).2.2 x hd x hx rfl;have hrz:∀j∈Region.ready .any ops.toArray (ff bG D),j∈oI Z->j∈Pd:=λj hj wy=>by
  have h1:j∉D:=λhd=>by
   have:=(mem_ready.1 hj).1;rw[pe.2 (.inr hd)]at this;cases this
  rcases cu.1 (hp.mem_iff.2 wy)with h2 | h2
  ·exact absurd h2 h1
  exact h2
 have ahq:∀j∈Region.ready .any ops.toArray bG,j∉oI Z->j∈Region.ready .any ops.toArray (ff bG D):=λj hj wy=>yi (l:=bG) (D:=[]) (E:=D) aM hj λk=>wy (hDZ j k);have hpr:∀z∈Pd,z∈Region.ready .any ops.toArray (ff bG D):=λz hz=>by
  obtain⟨p,Kj,rfl⟩:=oJ.1 (hPZ z hz);obtain⟨o,ho,bT⟩:=hZ p Kj;refine mem_ready.2 ⟨?_,o,adf,λe he=>?_⟩
  ·rw[gN];intro k;rcases pe.1 k with k | k
   ·rw[hun _ (hPZ _ hz)]at k;cases k
   exact hPD _ hz k
  rw[Array.mem_def,(mT bT).2.2.2.2.1]at he;cases he
 have AL:∀{m'},m=m'+1->∀j∈Pd,wpOp P ops.toArray Q j (λa' w'=>EE P ops mb ms S j w w'/\fE P .any ops.toArray Q (EE P ops mb ms S) m' ((ff bG D).setIfInBounds j true) a' w') a w:=by
  intro m' em j hj;obtain⟨p,Kj,rfl⟩:=oJ.1 (hPZ j hj);obtain⟨o,ho,bT⟩:=hZ p Kj;obtain⟨_,l2,l3,l4,l5,l6,l7⟩:=mT bT;obtain⟨fz1,fz2⟩:=GS hfz p Kj;have Pj:ops.toArray[p.z]? =some o:=adf
  unfold wpOp;simp only[Pj];rw[aV (wn l4)];left;obtain⟨dst,op,t',pp,af,g0⟩:=o;dsimp only at l2 l3 l4 l5;subst l2 l3 l4;obtain⟨z,z1,z2⟩:=Xp l6 w;refine Gk z1 (z2 β0) (λ_=>rfl) λb w1 hb hO hB=>⟨?_,?_⟩
  ·unfold EE;rw[ho];dsimp only;rw[show j8 P (.alloc p.t)=false from rfl,vM];cases(mb&&(ms||!zC (.alloc p.t)))with
   | true=>exact bR.only hO
   | false=>exact trivial
  rw[<-pd];exact ih m' aE (g+1) (D:=p.z::D) (Pd:=Pd.erase p.z) h0 he hm (hR.late hm fz1 hO) (hL.alloc hu S2 Kj (hPD _ hj) hb hO hB (by rw[hR.ok.sz];exact fz2))
   ((List.perm_middle.symm.trans ((List.perm_cons_erase hj).symm.append_left D)).trans hp) (by rw[aW];omega)
 split at h
 ·rename_i S3;obtain⟨hc,h⟩:=dB h;simp only[aP]at hc;obtain⟨⟨⟨c1,c2⟩,c3⟩,c4⟩:=hc;have amw:bG=yO:=O3.1 (Qp c2);have egm:=cd c3;have c4:=dA c4;cases hPd:Pd with
  | nil=>
   rw[hPd,bD]at hp;rw[amw];exact hK mk st β a w bz D m h he hR hL hp aE
  | cons z Pd'=>
   have hzm:z∈Pd:=by rw[hPd];exact dZ
   have wz:Pd.length=Pd'.length+1:=by rw[hPd];rfl
   obtain⟨m',rfl⟩:∃m',m=m'+1:=⟨m-1,aE⟩
   refine⟨λh0=>?_,λj hj=>AL rfl j ?_⟩
   ·have:=hpr z hzm;rw[h0]at this;cases this
   by_cases wy:j∈oI Z
   ·exact hrz j hj wy
   exfalso;have h1:j∈Region.ready .any ops.toArray (ff bG ((oI Z).erase z)):=yi (λx hx=>(List.mem_erase_of_ne (λe=>hPD z hzm (by rw[<-e];exact hx))).2 (hDZ x hx)) hj (λk=>wy (List.mem_of_mem_erase k));have:=La c1 z (hPZ z hzm) j h1;exact wy (this▸hPZ z hzm)
 rename_i i r S3;obtain⟨c0,h⟩:=dB h;simp only[aP,ZF]at c0;have hrd:=GQ c0.1;have c0:=dA c0.2;have hrm:∀j∈Region.ready .any ops.toArray (ff bG D),j∉oI Z->j∈Region.ready .any ops.toArray bG:=λj hj wy=>(hrd j (yi hDZ hj wy)).1;obtain⟨m',rfl⟩:∃m',m=m'+1:=⟨m-1,aE⟩
 have hio:∀j∈i::r,j∈Region.ready .any ops.toArray bG/\j∉oI Z:=λj hj=>qS.1 (by rw[S3];exact hj);have ii:Region.ready .any ops.toArray (ff bG D)=[]->False:=λh0=>by
  have:=ahq i (hio i dZ).1 (hio i dZ).2;rw[h0]at this;cases this
 have hdz:∀j o,ia ops j=some o->j∉oI Z->∀p∈Z,o.dst≠some p.d:=λj o hj wy p hp=>hdo p hp j o hj λe=>wy (oJ.2 ⟨p,hp,e.symm⟩);have LL:∀{j:Nat} {o:Oper},ia ops j=some o->j∉oI Z->lL P ops mb ms S ws mk st o (λmk st=>NM P ops mb ms S ws Z yO gm K g (bG.setIfInBounds j true) mk st)->
   wpOp P ops.toArray Q j (λa' w'=>EE P ops mb ms S j w w'/\fE P .any ops.toArray Q (EE P ops mb ms S) m' ((ff bG D).setIfInBounds j true) a' w') a w:=by
  intro j o ho wy h;refine wpOp_mono (λa' w' hh=>⟨hh.1,?_⟩) (aeu ho h hR);obtain⟨k0,k1,β',cO,mk',k2,k3,k4,k5,k6⟩:=hh;rw[<-pd];have pH:∀p∈Z,a'.tmps[p.d]? =a.tmps[p.d]? :=λp hp=>k1 _ (hdz j o ho wy p hp);have hL':Late Z ws bz D mk' a' w':=by
   rcases k6 with⟨rfl,rfl⟩ | ⟨rfl,k6⟩
   ·exact hL.act pH
   exact hL.loud k6 pH
  exact ih m' aE g k2 (he.trans k3) k4 k5 hL' hp aE
 split at h
 ·rename_i q hq;obtain⟨o,ho,h⟩:=bC h;obtain⟨hc,h⟩:=dB h;simp only[aP,okT]at hc;obtain⟨⟨⟨⟨⟨c1,c2⟩,c3⟩,c4⟩,c5⟩,c6⟩:=hc;obtain⟨hq1,hq2⟩:=hio q (by simpa using c6);have Pj:ops.toArray[q]? =some o:=adf
  have qv:rH .any ops.toArray (ff bG D):=CF (C2 c3) λz hz o hoz=>by
   obtain⟨p,Kj,rfl⟩:=oJ.1 (hDZ z hz);obtain⟨o2,Kg,bT⟩:=hZ p Kj;rw[kg]at Kg;have:o2=o:=by
    have e:ops.toArray[p.z]? =some o2:=by simpa using Kg
    rw[hoz]at e;injection e with e;exact e.symm
   rw[<-this];exact(mT bT).2.2.2.2.1
  have hN:∀k∈T6 bG 0 ops,(ff bG D).getD k true=true:=λk hk=>pe.2 (.inl (by simpa using(ey.1 c5) k hk));have M4:=Region.free_spec Pj c2;have FH:∀j oj,ops.toArray[j]? =some oj->j≠q->(ff bG D).getD j true=false->(∀e∈oj.after,Region.binds .any e=true->e.on≠q)->o.apart ops.toArray oj=true:=λj oj h1 h2 h3 h4=>M4 j oj h1 h2 (by
   rw[gN]at h3⊢;exact λk=>h3 (pe.2 (.inl k))) h4
  have hqr:=ahq q hq1 hq2;obtain⟨s,e1,iK,h1⟩:=A8 h hR;have pH:∀v,∀p∈Z,(a.put o.dst v).tmps[p.d]? =a.tmps[p.d]? :=λv p hp=>(lm _ _ _).2.2 _ (hdz q o ho hq2 p hp);rcases h1 with⟨hw,h1⟩ | ⟨hw,h1⟩
  ·obtain⟨v,s2,F,k1,k2,k3,k4,k5,k6,k7⟩:=Xu h1 iK.yM;refine rJ Pj (Region.noSelect_spec c1) (λc a w hp=>(hQ _ _ _ hp).elim) c4 (T6 bG 0 ops) k5 (λw1 _=>rR ho w1) m' (ff bG D) a w qv hN FH hqr (Xg hw k7) k4 ?_;rw[<-pd];exact ih m' aE g k1 (((he.trans e1).trans (Ext.yM _)).trans (k2.trans (Ext.yM _))) rfl k3.yM (hL.act (pH v)) hp aE
  refine rJ (v:=undef) (F:=λ_=>True) Pj (Region.noSelect_spec c1) (λc a w hp=>(hQ _ _ _ hp).elim) c4 (T6 bG 0 ops) (λ_ _ _ _ _ _ _=>trivial) (λw1 _=>rR ho w1) m' (ff bG D) a w qv hN FH hqr (Zf hw) trivial ?_;rw[<-pd];exact ih m' aE g h1 ((he.trans e1).trans ((Ext.put _ _ _).trans (Ext.yM _))) rfl (iK.put o.dst .un).yM (hL.act (pH undef)) hp aE
 split at h
 ·obtain⟨o,ho,h⟩:=bC h;refine⟨λh0=>(ii h0).elim,λj hj=>?_⟩;by_cases wy:j∈oI Z
  ·exact AL rfl j (hrz j hj wy)
  have:j∈CE (oI Z) (Region.ready .any ops.toArray bG):=qS.2 ⟨hrm j hj wy,wy⟩;rw[S3]at this;obtain rfl:j=i:=by simpa using this
  exact LL ho wy h
 ·rename_i i' _;obtain⟨o,ho,h⟩:=bC h;obtain⟨o',Pj,h⟩:=bC h;refine⟨λh0=>(ii h0).elim,λj hj=>?_⟩;by_cases wy:j∈oI Z
  ·exact AL rfl j (hrz j hj wy)
  have:j∈CE (oI Z) (Region.ready .any ops.toArray bG):=qS.2 ⟨hrm j hj wy,wy⟩;rw[S3]at this;rcases ba.1 this with rfl | this
  ·exact LL ho wy h.1
  have:=aO.1 this;subst this;exact LL Pj wy h.2
 ·rename_i i' i'' _;obtain⟨o,ho,h⟩:=bC h;obtain⟨o',Pj,h⟩:=bC h;obtain⟨o'',amB,h⟩:=bC h;refine⟨λh0=>(ii h0).elim,λj hj=>?_⟩;by_cases wy:j∈oI Z
  ·exact AL rfl j (hrz j hj wy)
  have:j∈CE (oI Z) (Region.ready .any ops.toArray bG):=qS.2 ⟨hrm j hj wy,wy⟩;rw[S3]at this;rcases ba.1 this with rfl | this
  ·exact LL ho wy h.1
  rcases ba.1 this with rfl | this
  ·exact LL Pj wy h.2.1
  have:=aO.1 this;subst this;exact LL amB wy h.2.2
 exact h.elim
end
def St.FD(st:St)(d:Nat)(t:TypeId)(zs:List SV)(b:Nat):St:=
 St.put {st with bx:=st.bx++[⟨some b,t,zs,st.ct,true,false,false⟩],ct:=st.ct+1} (some d) (.box st.bx.length 0)
theorem Ext.FD st d t zs b:Ext st (st.FD d t zs b):=by
 refine Ext.trans (t:={st with bx:=st.bx++[_],ct:=st.ct+1}) ⟨rfl,jr _,λ_ _ _ h _=>h,λi b' hb ho hs=>?_,λi b hb=>?_,FX⟩ (Ext.put _ _ _)
 ·rw[lp]at hb
  grind
 exact⟨b,by dsimp only;rw[lp,aQ (by have:=rN hb;omega)];exact hb,rfl,rfl,λ_ h=>h⟩
section
variable {β:Nat->Nat} {st:St} {a:Act} {w:av}
theorem Rep.FD(hR:Rep β st a w){d}{t}{zs}{b}(h1:NF st.bx.length st.fr=true)(h2:I7 st.bx.length st.bx=true)(hdt:AZ st.bx st.dt=true)(qv:iM (λ_=>false) zs=true)
  (hs:a.tmps[d]? =some (.pointer (some ⟨b,0,none⟩))) (hB:Blk w b t (cK β0 zs)) (ii:∀i c,cZ st.bx i=some c->c.ok=true->β i≠b):
  Rep (Cq β st.bx.length b) (st.FD d t zs b) a w:=by
 have vX:Cq β st.bx.length b st.bx.length=b:=by unfold Cq;rw[aV rfl]
 have bT:∀{i c},cZ st.bx i=some c->Cq β st.bx.length b i=β i:=fun{i c} h=>by
  unfold Cq;rw[aQ];have:=rN h;omega
 have base:Rep (Cq β st.bx.length b) {st with bx:=st.bx++[⟨some b,t,zs,st.ct,true,false,false⟩],ct:=st.ct+1} a w:=by
  refine⟨rL ⟨hR.ok.sz,hR.ok.df,λi p hl hi=>?_⟩,λi c hc ho=>?_,λi j bi bj g1 g2 g3 g4 wG=>?_,?_,hR.still⟩
  ·rw[hR.ok.at_ i p hl hi];congr 1;exact ju (g:=λj=>!Nat.beq j st.bx.length) A2 _ (Ei h1 i p hl)
  ·rw[lp]at hc;split at hc
   ·rename_i he;simp at hc;subst hc;subst he;refine⟨?_,λk hk=>?_,λhk=>adL⟩
    ·rw[vX];rw[iy (g:=λ_=>false) (β:=Cq β st.bx.length b) (β':=β0) (λi h=>aaQ) _ qv];exact hB
    simp_all
   have e:=bT hc;obtain⟨k1,k2,k3⟩:=hR.bx i c hc ho;refine⟨?_,λk hk=>by rw[e];exact k2 k hk,λhk=>by rw[e];exact k3 hk⟩;rw[e,<-iy (g:=λj=>!Nat.beq j st.bx.length) (β:=β) (β':=Cq β st.bx.length b) A2 _ (Ej h2 i c hc ho)];exact k1
  ·rw[lp]at g1 g2;split at g1
   ·grind
   split at g2
   ·grind
   rw[bT g1,bT g2];exact hR.ne i j bi bj g1 g2 g3 g4 wG
  have e:=tf λi hi=>by
   obtain⟨c,hc,_⟩:=uK hdt i hi;exact bT hc
  rw[e];exact hR.only
 refine⟨rL ⟨base.ok.sz,base.ok.df,λi p hl hi=>?_⟩,base.bx,base.ne,base.only,base.still⟩;simp[St.FD,St.put,dV]at hl;cases hb:Nat.beq d i with
 | true=>
  rw[hb]at hl;simp at hl;subst hl;have:=cd hb;subst this;rw[hs];show _=some (Value.pointer _);rw[vX]
 | false=>rw[hb]at hl;exact base.ok.at_ i p adK hi
end
def neN(b:Nat):List Nat->Prop->Prop
 | [],p=>p
 | x::r,p=>x≠b->neN b r p
theorem Qr{b}:∀{l:List Nat} {p:Prop},neN b l p->(∀x∈l,x≠b)->p
 | [],_,h,_=>h
 | x::r,p,h,hb=>Qr (h (hb x dZ)) λy hy=>hb y (dl _ hy)
def ZH(ws:av)(mk:List (Nat×Nat)):List LZ->List Nat->St->(St->Prop)->Prop
 | [],_,st,K=>K st
 | p::r,seen,st,K=>bif chk st p.zs then ∀b,ws.heap.size<=b->b<st.w0.heap.size->A9 mk b->neN b seen (ZH ws mk r (b::seen) (st.FD p.d p.t p.zs b) K)else False
theorem Lc{ws}{mk}{bz:Nat->Nat}{a}{w}:∀{r:List LZ} {seen:List Nat} {st:St} {K:St->Prop} {β:Nat->Nat},ZH ws mk r seen st K->Rep β st a w->st.mv=false->
  (∀p∈r,a.tmps[p.d]? =some (.pointer (some ⟨bz p.z,0,none⟩))/\Blk w (bz p.z) p.t (cK β0 p.zs)/\ws.heap.size<=bz p.z/\A9 mk (bz p.z)/\iM (λ_=>false) p.zs=true/\(∀x∈seen,x≠bz p.z)/\∀i c,cZ st.bx i=some c->c.ok=true->β i≠bz p.z)->
  (oI r).Nodup->(∀p∈r,∀q∈r,p.z≠q.z->bz p.z≠bz q.z)->∃cO β',K cO/\Ext st cO/\Rep β' cO a w
 | [],_,st,K,β,h,hR,_,_,_,_=>⟨st,β,h,Ext.refl _,hR⟩
 | p::r,seen,st,K,β,h,hR,hm,hp,hn,hd=>by
  obtain⟨hc,h⟩:=dB h;simp[chk,aP]at hc;obtain⟨h1,h2,h3,h4,h5,h6,h7⟩:=hp p dZ;have h:=Qr (h _ h3 (by rw[<-hR.still hm];exact h2.lt) h4) h6;simp[oI,List.nodup_cons]at hn;have hpq:∀q∈r,p.z≠q.z:=λq hq e=>hn.1 (oJ.2 ⟨q,hq,e.symm⟩);have bT:∀{i c},cZ st.bx i=some c->Cq β st.bx.length (bz p.z) i=β i:=fun{i c} h=>by
   unfold Cq;rw[aQ];have:=rN h;omega
  obtain⟨cO,β',k1,k2,k3⟩:=Lc h (hR.FD hc.1.1.1 hc.1.1.2 hc.2 h5 h1 h2 h7) hm (λq hq=>by
   obtain⟨g1,g2,g3,g4,g5,g6,g7⟩:=hp q (dl _ hq);have ii:=hd p dZ q (dl _ hq) (hpq q hq);refine⟨g1,g2,g3,g4,g5,λx hx=>?_,λi c hc ho=>?_⟩
   ·rcases ba.1 hx with rfl | hx
    ·exact ii
    exact g6 x hx
   simp[St.FD,St.put]at hc;rw[lp]at hc;split at hc
   ·rename_i e;subst e;unfold Cq;simp_all
   rw[bT hc];exact g7 i c hc ho) hn.2 λx hx y hy=>hd x (dl _ hx) y (dl _ hy)
  exact⟨cO,β',k1,(Ext.FD _ _ _ _ _).trans k2,k3⟩
def ph2(P:Program)(ops:List Oper)(mb ms:Bool)(S:Nat->Prop)(ws:av)(Z:List LZ)(yO:Array Bool)(gm nb:Nat)(mk:List (Nat×Nat))(st:St)(K:St->Prop):Prop:=
 bif Nat.beq st.bx.length nb then fe st λst=>ZH ws mk Z [] st λst=>GJ P ops mb ms S (gm-(oI Z).length) (ff yO (oI Z)) st K else False
def Ld(P:Program)(ops:List Oper)(jn:Bool)(kp:List Nat)(mi:List MI)(mb ms:Bool)(S:Nat->Prop)(Z:List LZ)(yO:Array Bool)(gm:Nat)(st:St)(K:St->Prop):Prop:=
 bif qO st.bx then
  (bif jn then ∃J:List _->JT _,(∀mk,GH _ (J mk) λvs w=>ph2 P ops mb ms S st.w0 Z yO gm st.bx.length mk (mS st kp mi vs w) K)/\
   NM P ops mb ms S st.w0 Z yO gm (λmk s=>fe s λs=>NK st kp mi (J mk) s) ops.length (Array.replicate ops.length false) [] (St.yM (st.pB (zSl Z)))
  else NM P ops mb ms S st.w0 Z yO gm (λmk s=>ph2 P ops mb ms S st.w0 Z yO gm st.bx.length mk s K) ops.length (Array.replicate ops.length false) [] (St.yM (st.pB (zSl Z))))else False
def Qs(ops:List Oper)(Zi:List Nat):Nat->Array Bool->Array Bool
 | 0,l=>l
 | f+1,l=>match CE Zi (Region.ready .any ops.toArray l)with
  | []=>l
  | i::_=>Qs ops Zi f (l.setIfInBounds i true)
def Vg:List Bool->Nat
 | []=>0
 | b::r=>bif b then Vg r else Vg r+1
theorem Lg:∀{l:List li} {i:Nat},i<l.length->∃b,cZ l i=some b
 | b::r,0,_=>⟨b,rfl⟩
 | b::r,i+1,h=>Lg (l:=r) abb
section
variable {P:Program} {ops:List Oper} {mb ms:Bool} {S:Nat->Prop} {β:Nat->Nat} {a:Act} {w:av} {yO:Array Bool} {gm:Nat} {jn:Bool} {kp:List Nat} {mi:List MI} {st:St} {K:St->Prop}
theorem Qt{Q}(hQ:∀c a w,¬Q (.panic c) a w)(hzo:zOk ops (lO P 0 ops)=true)(h:Ld P ops jn kp mi mb ms S (lO P 0 ops) yO gm st K)(hR:Rep β st a w)(oQ:st.mv=false)
  (hK:∀β' cO a' w',K cO->Ext st cO->Rep β' cO a' w'->Q .normal a' w'):fE P .any ops.toArray Q (EE P ops mb ms S) ops.length (Array.replicate ops.length false) a w:=by
 have hnd:(oI (lO P 0 ops)).Nodup:=Bb;have hZ:∀p∈lO P 0 ops,∃o,ia ops p.z=some o/\wg P p.z o=some p:=λp hp=>by
  obtain⟨j,o,h1,h2,h3⟩:=Ba hp
  grind
 generalize lO P 0 ops=Z at*
 obtain⟨hbd,h⟩:=dB h;rw[<-hR.still oQ]at h;have two:∀mk cO β' a' w' bz D m,ph2 P ops mb ms S w Z yO gm st.bx.length mk cO K->Ext st cO->Rep β' cO a' w'->Late Z w bz D mk a' w'->D.Perm (oI Z)->m+D.length=gm->fE P .any ops.toArray Q (EE P ops mb ms S) m (ff yO D) a' w':=by
  intro mk cO β' a' w' bz D m h he Yw hL hp hg;obtain⟨fi,h⟩:=dB h;have fi:=cd fi;obtain⟨s1,h1,e1,iK,zM,_,_,_,hl1⟩:=dW h Yw;have hx:=he.trans e1;have hold:∀i c,cZ s1.bx i=some c->c.ok=true->β' i<w.heap.size:=λi c hc ho=>by
   obtain⟨b,hb⟩:=Lg (l:=st.bx) (i:=i) (by have:=rN hc;omega);obtain⟨c',k1,k2,k3,k4⟩:=hx.ps i b hb;rw[hc]at k1;injection k1 with k1;subst k1;have F2:b.ok=true:=by rw[<-k3];exact ho
   obtain⟨k,hk⟩:=fY.1 (wT hbd i b hb F2);rw[(iK.bx i c hc ho).at_ k (k4 k hk),<-(hR.bx i b hb F2).at_ k hk];exact(hR.bx i b hb F2).blk.lt
  have hD:=λp Kj=>hp.mem_iff.2 (oJ.2 ⟨p,Kj,rfl⟩);obtain⟨s2,β2,k1,k2,k3⟩:=Lc (bz:=bz) h1 iK zM (λp Kj=>by
   obtain⟨g1,g2,g3,g4⟩:=hL.at_ p Kj (hD p Kj);obtain⟨o,_,ho⟩:=hZ p Kj;exact⟨g1,g2,g3,g4,(mT ho).2.2.2.2.2.2,aM,λi c hc ho=>ac9⟩) hnd λp Kj q hqZ=>hL.ne _ (hD p Kj) _ (hD q hqZ)
  have:=hp.length_eq;rw[GP hp,show m=gm-(oI Z).length by omega];exact tJ hQ k1 k3 λβ3 s3 a3 w3 m1 m2 m3=>hK β3 s3 a3 w3 m1 ((hx.trans k2).trans m2) m3
 have hL0:Late Z w (λ_=>0) [] [] a w:=⟨λp _ h=>aaQ,λ_ h=>aaQ,λ_ h=>aM,λ_ h=>aaQ,aY _⟩
 have hR0:=Rep.yM (hR.frame (fr':=AV _ st.fr) λi p hl=>by
  cases he:(zSl Z).elem i with
  | true=>rw[(lG (l:=st.fr)).1 he]at hl;cases hl
  | false=>rw[(lG (l:=st.fr)).2 he]at hl;exact⟨p,hl,rfl⟩)
 have he0:Ext st (St.yM (st.pB (zSl Z))):=(Ext.pB _ _).trans (Ext.yM _);rcases nU h with⟨_,h⟩ | ⟨_,h⟩
 ·obtain⟨J,hJ,h⟩:=h;refine Qq hQ hZ hzo hnd (s0:=st) (λmk s β' a' w' bz D m hk he Yw hL hp hg=>?_) ops.length ops.length (D:=[]) (Pd:=oI Z) h he0 rfl hR0 hL0 (List.Perm.refl _) rfl;obtain⟨s3,h3,e3,DQ,OJ,_⟩:=dW hk Yw;obtain⟨vs,k1,k2⟩:=tH h3 DQ OJ (.inl (he.trans e3)) (hJ mk);exact two mk _ _ a' w' bz D m k1 Ext.SQ k2 hL hp hg
 exact Qq hQ hZ hzo hnd (s0:=st) (λmk s β' a' w' bz D m hk he Yw hL hp hg=>two mk s β' a' w' bz D m hk he Yw hL hp hg) ops.length ops.length (D:=[]) (Pd:=oI Z) h he0 rfl hR0 hL0 (List.Perm.refl _) rfl
end
end Go.Kt.V
