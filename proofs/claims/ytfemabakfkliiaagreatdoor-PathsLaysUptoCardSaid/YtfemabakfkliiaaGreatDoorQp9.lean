import Derived.Test.YtfemabakfkliiaaGreatDoorQp8
set_option linter.defProp false
set_option linter.unusedSectionVars false
set_option linter.unusedSimpArgs false
set_option linter.unusedVariables false
set_option maxHeartbeats 4000000
set_option maxRecDepth 100000
open Bool renaming true->aE,false->aL
open Option renaming some->aM,none->aaa
open List renaming length->I
open Go.Value renaming int->O,string->X,pointer->ae,agg->ah,tuple->ai,bool->aj
open Go.IntKind renaming i64->U,wrap->ar
open Go.Ending renaming returned->ak
open _root_.ByteArray renaming mk->ao
open _root_.Go.Proofs.Tryz renaming prog->aq
open Go.Instr renaming buildSlice->au
open Go renaming World->av,Value->aw,Calls->az
open Go.Kt renaming Only->Q,SliceF->aA,Cells->aB,OnlyP->aD,Blk->aF
open Go renaming World->av,Value->aw
namespace Go.Proofs.YtfemabakfkliiaaGreatDoor.Con
open Go Go.RowKit Go.Kt Go.Kt.V Go.Proofs.YtfemabakfkliiaaGreatDoor.Vc
structure ClI (w:av) (S:aJ) (Uh:FuncId) (cap:aI) (l:List Int) (p:Int->Bool):Prop where
 en:∀(args:Array aw) (w:av),(callFunc Uh args).run aq w=.ok (.enter Uh args) w
 call:∀x,x∈l->∀u,aD S w u->az aq Uh ((O U x::cap):aI).toArray u λe u'=>e=ak (aj (p x))/\Q [] u u'
section
variable {w:av} {s:Sl} {l:List Int} {B Uh:Nat} {cap:aI} {p:Int->Bool}
def Yl{S F:aJ}(g:aA gL 1 w F s l)(r:I l<=2000000)(o:∀k,F k->S k)(d:ClI w (λ_=>False) Uh cap l p){f:OV}(c:f.v=.func (.func Uh) #[] cap.toArray):
  az aq 119 #[s.v,f.v] w λe m=>(∃i:Int,e=ak (O U i)/\((i= -1/\∀x,x∈l->p x=aL)∨∃n:Nat,i=(n:Int)/\n<I l/\(l.take n).filter (λx=>!p x)=l.take n/\∀x,l[n]? =aM x->p x=aE))/\Q [] w m:=by
 refine ik (VZ _ _ _ _ ?_);have t:=g.len;refine⟨λv i u=>∃j:Nat,i=(j:Int)/\v+j=I l/\j<=I l/\(∀x,x∈l.take j->p x=aL)/\Q [] w u,I l,⟨0,rfl,J,be _,aag,Only.refl _ _⟩,?_⟩;rintro v _ u ⟨j,rfl,y,q,b,a⟩;refine⟨λh=>?_,λh=>?_⟩
 ·have h:=aO h;have H:j<I l:=J
  obtain⟨ad,k,n⟩:=rR (kI g a) (bf H);refine⟨ad,k,_,n,Uh,[],cap,c,d.en,(d.call _ (mU H) u a.p0).mono ?_⟩;rintro _ s ⟨rfl,f⟩;have P:l.take (j+1)=l.take j++[l[j]]:=by rw[bh,bf H];rfl
  refine⟨_,rfl,λp=>⟨⟨_,rfl,.inr ⟨j,rfl,H,?_,λx e=>?_⟩⟩,a.cd f⟩,λc=>⟨v-1,J,j+1,aaf,J,J,λx e=>?_,a.cd f⟩⟩
  ·rw[List.filter_eq_self];intro x e;rw[b x e];rfl
  ·rw[bf H]at e;injection e with e;rw[<-e];exact p
  rw[P,ch,aN]at e;rcases e with e | rfl
  ·exact b x e
  exact c
 have h:=aU h;rw[bm J]at b;exact⟨⟨-1,rfl,.inl ⟨rfl,b⟩⟩,a⟩
def ab6(d:gV B w s l)(z:I l<=2000000)(c:ClI w (λk=>s.a=aM ⟨k,0,aaa⟩) Uh cap l p){f:OV}(o:f.v=.func (.func Uh) #[] cap.toArray):
  az aq 82 #[s.v,f.v] w λe q=>∃g:Sl,e=ak g.v/\g.a=s.a/\g.c=s.c/\gV B q g (l.filter λx=>!p x)/\aD (λk=>s.a=aM ⟨k,0,aaa⟩) w q:=by
 refine ik (alT _ _ ?_);have H:=d.len;have A:=d.cap;refine(Yl (S:=λ_=>True) d.sl z (λ_ _=>trivial) ⟨c.en,λx m u y=>c.call x m u (y.mono λk _ r=>r.elim)⟩ o).mono ?_;rintro _ C ⟨⟨i,rfl,h⟩,D⟩;have E:gV B C s l:=d.keep cp λk _ j=>D.block k j aag;refine⟨i,rfl,λh1=>?_,λh1=>?_⟩
 ·have h1:i= -1:=acJ
  rcases h with⟨_,h⟩ | ⟨n,rfl,_⟩
  ·have:l.filter (λx=>!p x)=l:=by
    rw[List.filter_eq_self];intro x m;rw[h x m];rfl
   rw[this];exact⟨s,rfl,rfl,rfl,E,D.p0⟩
  omega
 have h1:i≠ -1:=acJ
 rcases h with⟨h,_⟩ | ⟨n,rfl,K,f,e⟩
 ·exact absurd h h1
 rw[fh (x:=(n:Int)+1) J J];refine⟨λM i N u=>∃(a b:Nat) (L:List Int),i=(a:Int)/\N=(b:Int)/\a<b/\b<=I l/\M=(I l)-b/\I L=I l/\L.take a=(l.take b).filter (λx=>!p x)/\L.drop b=l.drop b/\gV B u s L/\aD (λk=>s.a=aM ⟨k,0,aaa⟩) w u,(I l)-(n+1),⟨n,n+1,l,rfl,J,J,J,rfl,rfl,?_,rfl,E,D.p0⟩,?_⟩
 ·have:l.take (n+1)=l.take n++[l[n]]:=by rw[bh,bf K];rfl
  rw[this,gJ,f];simp[e _ (bf K)]
 rintro M _ _ w2 ⟨a,b,L,rfl,rfl,am,Fh,rfl,Y,R,S,V,W⟩;refine⟨λT=>?_,λT=>?_⟩
 ·have T:(b:Int)<s.n:=aO T;have oV:b<I l:=J
  rw[fh (x:=(b:Int)+1) J J];have P:L[b]? =aM l[b]:=by
   have:=bN List.head? S;rw[List.head?_drop,List.head?_drop,bf oV]at this;exact this
  have oP:l.take (b+1)=l.take b++[l[b]]:=by rw[bh,bf oV];rfl
  have aC:L.drop (b+1)=l.drop (b+1):=by
   have:=bN (List.drop 1) S;simpa[jH]using this
  obtain⟨ad,a1,a2⟩:=rR V.sl P;obtain⟨cs,O2⟩:=V.sl.mem (bn P);refine⟨λi1 u=>∃(v:Nat) (t:List Int),i1=(v:Int)/\v<b+1/\I t=I l/\t.take v=(l.take (b+1)).filter (λx=>!p x)/\t.drop (b+1)=l.drop (b+1)/\gV B u s t/\aD (λk=>s.a=aM ⟨k,0,aaa⟩) w u,?_,ad,a1,_,a2,Uh,[],cap,o,c.en,(c.call _ (mU oV) w2 W).mono ?_⟩
  ·rintro _ w ⟨v,t,rfl,a,k,q3,n,p,s⟩;exact⟨(I l)-(b+1),J,v,b+1,t,rfl,J,a,J,rfl,k,q3,n,p,s⟩
  rintro _ w5 ⟨rfl,eh⟩;have aS:gV B w5 s L:=V.keep cp λk _ j=>eh.block k j aag;have BG:=W.cd eh;refine⟨_,rfl,λw=>?_,λw=>?_⟩
  ·have w:p l[b]=aL:=by simpa using w
   obtain⟨aT,cells,p1,p2,p3,p4,p5⟩:=Own.store (x:=l[b]) (n:=a) (vs:=[O U l[b]]) (G:=λ_=>False) cp aS J rfl ⟨rfl,O2.2⟩ (λk hk _=>hk.elim) Z;refine⟨_,p2,aT,a*1,cells,_,rfl,p3,p4,λw6 dK B=>?_⟩;rw[fh (x:=(a:Int)+1) J J];refine⟨a+1,L.set a l[b],J,J,by rw[vS];exact Y,?_,?_,p5 w6 dK B,BG.trans (dK.p (F:=λk=>s.a=aM ⟨k,0,aaa⟩) λk hk=>.inl (by simp only[aN]at hk;rw[hk];exact p1)) λk hk=>.inl hk⟩
   ·rw[bh,Jr (aX _),R,sH J,oP,gJ];simp[w]
   rw[List.drop_set_of_lt J];exact aC
  have w:p l[b]=aE:=by simpa using w
  refine⟨a,L,rfl,J,Y,?_,aC,aS,BG⟩;rw[oP,gJ,R];simp[w]
 have T:¬(b:Int)<s.n:=aU T;have n:b=I l:=J
 subst n;rw[bm (aX _)]at R;obtain⟨w3,bv,B,x,k3,G⟩:=Own.clear (P:=aq) (t:=33) (ty:=0) (i:=a) cp Z aae (λw=>Tryz.zeroValue3 w) (by intro v p;simp[Value.cells]at p;rcases p with rfl<;>rfl) rfl V J;refine⟨a,⟨rfl,J,A⟩,w3,B,a,⟨rfl,J⟩,_,rfl,?_,?_,by rw[<-R];exact G,W.trans (k3.p (F:=λk=>s.a=aM ⟨k,0,aaa⟩) λk hk=>.inl (by simp only[aN]at hk;rw[hk];exact x)) λk hk=>.inl hk⟩
 ·simp only[Sl.cut];split
  ·rfl
  rw[x];rfl
 exact sI _
end
end Go.Proofs.YtfemabakfkliiaaGreatDoor.Con
namespace Go.Proofs.YtfemabakfkliiaaGreatDoor.Con
open Go Go.RowKit Go.Kt Go.Kt.V Go.Proofs.YtfemabakfkliiaaGreatDoor.Vc
section
def Rw{x:List dU}{a:Nat}{r:Ro}:∀{l:List Mv} {i:Nat},r∈IV x a i l->∃j m,m∈l/\r=roM x a j m
 | [],_,h=>aal
 | m::l,i,h=>by
  rw[IV]at h;rcases aZ.1 h with rfl | h
  ·exact⟨i,m,.head _,rfl⟩
  obtain⟨j,c,a,b⟩:=Rw h;exact⟨j,c,.tail _ a,b⟩
mutual
def Rx{s:List dU}{r:Ro}:∀{x:Nd} {a:Nat},r∈Uz s a x->∃n b j m,(AR x)[n]? =aM b/\m∈b.mv/\r=roM s (a+n) j m
 | .mk b l,a,h=>by
  rw[Uz]at h;rw[AR];rcases ch.1 h with h | h
  ·obtain⟨j,m,a,c⟩:=Rw h;exact⟨0,b,j,m,rfl,a,c⟩
  obtain⟨n,b,j,m,a,c,d⟩:=Mj h;exact⟨n+1,b,j,m,by rw[cY];exact a,c,by rw[d];congr 1;omega⟩
def Mj{s:List dU}{r:Ro}:∀{l:List Nd} {a:Nat},r∈su s a l->∃n b j m,(EO l)[n]? =aM b/\m∈b.mv/\r=roM s (a+n) j m
 | [],_,h=>by rw[su]at h;cases h
 | x::l,a,h=>by
  rw[su]at h;rw[EO];rcases ch.1 h with h | h
  ·obtain⟨n,b,j,m,a,c⟩:=Rx h;exact⟨n,b,j,m,by rw[bX (bc.1 a).1];exact a,c⟩
  obtain⟨n,b,j,m,a,c,d⟩:=Mj h;have:=vu x;exact⟨iH x+n,b,j,m,by rw[cj J,this,dN];exact a,c,by rw[d,dM]⟩
end
section
variable {c:Ch} {xs:List dU} {vs:List (aH)} (N:Snd c xs vs) {M:MO} (hM:GX xs M) {dft:List Int} (Jo:dft=(AR c.root).map λb=>mE xs b.dft)
include N hM Jo
theorem Snd.YI{r:Ro}(f:r∈Uz xs 0 c.root):(r.tg=[]/\r.dom= -1)∨(r.tg≠[]/\(∀s,s∈r.tg->sY xs s)/\∃a d:Nat,r.src=a/\a<I xs/\r.dom=d/\kd xs d=1/\nf xs d a/\Gd xs d (λk=>∃s,s∈r.tg/\(k:Int)∈iE xs dft M s)/\∀s,s∈r.tg->∀g,g∈iE xs dft M s->sY xs g):=by
 obtain⟨n,b,l,m,h,i,rfl⟩:=Rx f;rw[bP]at*
 have e:n<I xs:=by rw[N.len,<-vu];exact(bc.1 h).1
 obtain⟨t,j⟩:=gu e;unfold roM;dsimp only;by_cases hm:m.tg=[]
 ·left;rw[hm];exact⟨rfl,rfl⟩
 right;obtain⟨a,d,b,c,k,o,p⟩:=N.ack hM Jo j h i hm;exact⟨ab2,a,n,d,rfl,e,b,c,k,o,p⟩
end
def Ym(s:List dU)(r:List Ro)(act:List Int)(k:Int):List Int:=if k<0 then[]else match r[k.toNat]? with
 | some a=>if a.dom<0 then[]else act.filter λx=>Ad s x a.dom
 | none=>[]
def ahr(x:List dU)(r:List Ro)(act:List Int)(a b:Int):Bool:=(Ym x r act b).any λn=>decide (n∈Ym x r act a)
structure ChI (xs:List dU) (ro:List Ro) (act:List Int) (may:List Bool) (st:List Int×List Int):Prop where
 ok:∀k,k∈st.1->∃(n:Nat) (r:Ro),k=n/\ro[n]? =aM r/\may[n]? =aM aE/\r.src∈act
 sub:∀k,k∈st.2->k∈st.1
 ap:st.2.Pairwise λb a=>ahr xs ro act a b=aL
 ne:st.1≠[]->st.2≠[]
end
def aut{w:av}{s:Sl}{l:List Int}{h:Nat}{cap:aI}{p:Int->Bool}{F:aJ}(m:aA gL 1 w F s l)(k:I l<=2000000)(g:ClI w (λ_=>False) h cap l p){f:OV}(i:f.v=.func (.func h) #[] cap.toArray):
  az aq 86 #[s.v,f.v] w λe q=>e=ak (aj (l.any p))/\Q [] w q:=by
 refine ret (VY _ _ _ _ ?_);refine(Yl (S:=λ_=>True) m k (λ_ _=>trivial) g i).mono ?_;rintro _ t ⟨⟨o,rfl,j⟩,d⟩;refine⟨o,rfl,?_,d⟩;congr 1;rcases j with⟨rfl,b⟩ | ⟨n,rfl,a,r,c⟩
 ·rw[bA J];symm;rw[fx];intro e;obtain⟨x,f,p⟩:=fO.1 e;rw[b x f]at p;cases p
 rw[bF J];exact(fO.2 ⟨l[n],mU a,c _ (bf a)⟩).symm
section
variable {w:av} {F G:aJ} {s si sd sr sa:Sl} {p:Pl} {act:List Int} {b:Nat} {ty:TypeId}
def Ml{r:List Ro}(h:aA rRo 7 w F sr r){i:Nat}{x:Ro}(a:r[i]? =aM x):∃ad t,cR sr (i:Int) 7 ad/\aB w ad [O U x.src,O U x.slot,O U x.k,X (T x.ev),O U x.wt,t.v,O U x.dom]/\aA gL 1 w F t x.tg:=by
 have e:=(bc.1 a).1;have l:=h.len;obtain⟨ad,y,s,b,g,f,j,c,t,rfl,d,k⟩:=h.get (ba i) J;rw[aW,a]at g;injection g with g;subst g;exact⟨ad,t,b,c,d⟩
def Yn{y z A C D:aw}{o:List Ro}(B:aF w b ty [y,z,A,sr.v,C,D])(h:aA rRo 7 w F sr o)(k:Int):az aq 56 #[ae (aM ⟨b,0,aaa⟩),O U k] w λe l=>
  (∃(a f g:Int) (ev:aK) (wt:Int) (t:Sl) (d:Int) (i:Bool),e=ak (ai #[ah #[O U a,O U f,O U g,X ev,O U wt,t.v,O U d],aj i])/\(i=aE->∃(n:Nat) (r:Ro),k=n/\o[n]? =aM r/\0<=r.dom/\d=r.dom/\aA gL 1 l F t r.tg)/\(i=aL->∀(n:Nat) (r:Ro),k=n->o[n]? =aM r->r.dom<0))/\Q [] w l:=by
 refine ik (asS _ _ ?_);intro v m H G c;have L:=c.size;have M:=c.blk B aag;have p:aA rRo 7 m F sr o:=SliceF.only jE Z h c aag;have K:=p.len;have j:∀{u:av},Q [v] m u->Q [] w u:=λs=>c.trans s λx hx=>.inr aak;by_cases E:0<=k/\k<I o
 ·obtain⟨n,rfl⟩:∃n:Nat,k=n:=⟨k.toNat,J⟩
  obtain⟨r,q⟩:∃r,o[n]? =aM r:=⟨_,bf J⟩
  obtain⟨ad,t,a,f,g⟩:=Ml ((SliceF.inHeap jE h Z).keep jE Z λk _ N=>c.block k N aag) q;have x:decide ((n:Int)<0)=aL:=bA J;have F:decide ((n:Int)>=((sr.n:Nat):Int))=aL:=bA J;refine⟨sr,λ_=>Blk.dP M 3 rfl,sr,λ_=>Blk.dP M 3 rfl,ad,λ_=>a,r.dom,λ_=>f.dP 6 _ rfl,λb T P=>⟨⟨0,0,0,_,0,Sl.nil,0,aL,rfl,λh=>aal,λ_ R S hm e=>?_⟩,j P⟩,λb=>⟨sr,Blk.dP M 3 rfl,ad,a,_,_,_,_,_,t,_,f,λV w=>⟨⟨_,_,_,_,_,t,_,aE,rfl,λ_=>⟨n,r,rfl,q,?_,rfl,?_⟩,λh=>aal⟩,j w⟩⟩⟩
  ·have:R=n:=J
   subst this;rw[q,bJ]at e;subst e;rw[x,F,kw,kw]at b;exact aO b
  ·rw[x,F,kw,kw]at b;have:=aU b;omega
  exact(SliceF.only cp Z g w λk hk _ hm=>aaV).mono cp λk hk=>hk.1
 have Y:((decide (k<0))||(decide (k>=(sr.n:Int))))=aE:=by
  rw[cE,cX,cX];omega
 have n:∀{q:Prop},((decide (k<0))||(decide (k>=(sr.n:Int))))=aL->q:=λh=>by rw[Y]at h;cases h
 refine⟨sr,λ_=>Blk.dP M 3 rfl,sr,λh=>n h,⟨0,0,aaa⟩,λh=>n h,0,λh=>n h,λb N w=>⟨⟨0,0,0,_,0,Sl.nil,0,aL,rfl,λh=>aal,λ_ x F hm e=>?_⟩,j w⟩,λb=>?_⟩
 ·have:=(bc.1 e).1;omega
 rw[Y,CB]at b;cases b
end
def I1{w:av}{F G:aJ}{s sb:Sl}{l m:List Int}(a:aA gL 1 w F s l)(c:aA gL 1 w G sb m):az aq 39 #[s.v,sb.v] w λe d=>e=ak (aj (decide (l=m)))/\Q [] w d:=by
 refine ret (asO _ _ ?_);have f:=a.len;have g:=c.len;have n:=a.big;have p:=a.cap;refine⟨λhc=>⟨by rw[bA];rintro rfl;simp only[bne_iff_ne]at hc;omega,Only.refl _ _⟩,λhc=>?_⟩;have hc:(s.n:Int)=sb.n:=aaj
 refine⟨λk i u=>∃j:Nat,i=(j:Int)/\k+j=I l/\j<=I l/\l.take j=m.take j/\Q [] w u,I l,⟨0,rfl,J,be _,aag,Only.refl _ _⟩,?_⟩;rintro k _ u ⟨j,rfl,r,q,b,h⟩;refine⟨λo=>?_,λo=>?_⟩
 ·have o:=aO o;have H:j<I l:=J
  have e:j<I m:=J
  obtain⟨ad,t,v⟩:=rR (kI a h) (bf H);obtain⟨C,x,y⟩:=rR (kI c h) (bf e);refine⟨ad,t,_,v,C,x,_,y,λhn A D=>⟨?_,h.cd D⟩,λhn B z=>⟨k-1,J,j+1,aaf,J,J,?_,h.cd z⟩⟩
  ·rw[bA];rintro rfl;simp at hn
  rw[bh,bh,b,bf H,bf e];have:l[j]=m[j]:=adK
  rw[this]
 have o:=aU o;rw[bm J,bm J]at b;exact⟨by rw[b,bF rfl],h⟩
def vA(w:av)(s:Sl):Prop:=s.c<=9223372036854775807/\(s.c=0∨∃(g t:Nat) (y:aI),s.a=aM ⟨g,0,aaa⟩/\aF w g t y/\I y=s.c)
def gV.aoy{B:Nat}{w:av}{s:Sl}{l:List Int}(h:gV B w s l):vA w s:=by
 rcases h.aox with⟨rfl,_⟩ | ⟨a,g⟩
 ·exact⟨Z,.inl rfl⟩
 obtain⟨tail,d,b,e,f,i,c,j⟩:=h.cells g;exact⟨c,.inr ⟨a,_,_,g,b,by rw[aQ,bK];omega⟩⟩
def Yo(w:av):vA w Sl.nil:=⟨Z,.inl rfl⟩
def vA.only{w u:av}{s:Sl}(h:vA w s){b:List Nat}(e:Q b w u)(f:∀g,s.a=aM ⟨g,0,aaa⟩->g∉b):vA u s:=by
 refine⟨h.1,?_⟩;rcases h.2 with h | ⟨g,t,y,a,c,d⟩
 ·exact .inl h
 exact .inr ⟨g,t,y,a,e.blk c (f g a),d⟩
def Ry(s:Sl):s.cut 0 s.c s.c 1=⟨s.a,s.c,s.c⟩:=by
 unfold Sl.cut;rw[sI];congr 1;split
 ·rfl
 cases s.a<;>rfl
def TI{w:av}{a b:Sl}(p:vA w a)(C:vA w b)(hd:∀g,a.a=aM ⟨g,0,aaa⟩->b.a≠aM ⟨g,0,aaa⟩):
  az aq 16 #[a.v,b.v] w λe r=>e=ak (aj aE)/\aD (λk=>a.a=aM ⟨k,0,aaa⟩∨b.a=aM ⟨k,0,aaa⟩) w r/\vA r a/\vA r b:=by
 refine ret (asH _ _ ?_);have D:=p.1;have q:=C.1;let z:aJ:=λk=>a.a=aM ⟨k,0,aaa⟩
 let A:aJ:=λk=>b.a=aM ⟨k,0,aaa⟩
 let B:Nat->av->Prop:=λj u=>∀g,a.a=aM ⟨g,0,aaa⟩->∃(t:Nat) (y:aI),aF u g t y/\I y=a.c/\∀i,i<j->y[i]? =aM (.int U (-7))
 have at_:∀{s:Sl} {j:Nat} {g:Nat},s.a=aM ⟨g,0,aaa⟩->j<s.c->cR ⟨s.a,s.c,s.c⟩ (j:Int) 1 ⟨g,j,aaa⟩:=fun{s j g} h l=>⟨_,h,J,by show(j:Int)<(s.c:Int);omega,by rw[gC,aW];simp⟩
 have E:0<a.c->B 0 w:=λc g h=>by
  rcases p.2 with s | ⟨k,t,y,a,b,e⟩
  ·omega
  rw[a]at h;injection h with h;injection h with h;subst h;exact⟨t,y,b,e,λi v=>J⟩
 have m:0<a.c->∃g,a.a=aM ⟨g,0,aaa⟩:=λc=>by
  rcases p.2 with e | ⟨a,t,y,b,k,s⟩
  ·omega
  exact⟨a,b⟩
 refine⟨a.c,⟨rfl,aX _⟩,λd i u=>∃j:Nat,i=(j:Int)/\d+j=a.c/\j<=a.c/\(0<a.c->B j u)/\aD z w u,a.c,⟨0,rfl,J,be _,E,OnlyP.refl _ _⟩,?_⟩;rw[Ry];rintro d _ u ⟨j,rfl,H,l,o,n⟩;refine⟨λf=>?_,λf=>?_⟩
 ·have f:(j:Int)<a.c:=aO f;obtain⟨g,h⟩:=m J;obtain⟨t,y,K,L,M⟩:=o J g h;refine⟨_,at_ h J,g,j,y,t,rfl,K,J,λR G s=>⟨d-1,J,j+1,aaf,J,J,λ_ N Y=>?_,n.trans (G.p (F:=z) λx b=>by simp only[aN]at b;subst b;exact .inl h) λk hk=>.inl hk⟩⟩;rw[h]at Y;injection Y with Y;injection Y with Y;subst Y;rw[yC J]at s;refine⟨t,_,s,by rw[vS];exact L,λi P=>?_⟩;by_cases v:i=j
  ·subst v;rw[sH J]
  rw[FZ (λe=>v e.symm)];exact M i J
 have f:¬(j:Int)<a.c:=aU f;have s:j=a.c:=J
 subst s;have L:0<b.c->∃g,b.a=aM ⟨g,0,aaa⟩/\∃(t:Nat) (y:aI),aF u g t y/\I y=b.c:=λc=>by
  rcases C.2 with v | ⟨g,t,y,a,b,k⟩
  ·omega
  exact⟨g,a,t,y,n.blk b (λx=>hd g x a),k⟩
 refine⟨b.c,⟨rfl,aX _⟩,λd i v=>∃j:Nat,i=(j:Int)/\d+j=b.c/\j<=b.c/\(0<b.c->∃g,b.a=aM ⟨g,0,aaa⟩/\∃(t:Nat) (y:aI),aF v g t y/\I y=b.c)/\aD A u v,b.c,⟨0,rfl,J,be _,L,OnlyP.refl _ _⟩,?_⟩;rw[Ry];rintro M _ v ⟨i,rfl,N,P,Y,e⟩;refine⟨λK=>?_,λK=>?_⟩
 ·have K:(i:Int)<b.c:=aO K;obtain⟨g,h,t,y,G,R⟩:=Y J;refine⟨_,at_ h J,g,i,y,t,rfl,G,J,λT v S=>⟨M-1,J,i+1,aaf,J,J,λ_=>⟨g,h,t,_,S,?_⟩,e.trans (v.p (F:=A) λx a=>by simp only[aN]at a;subst a;exact .inl h) λk hk=>.inl hk⟩⟩;rw[yC J,vS];exact R
 have T8:aD (λk=>a.a=aM ⟨k,0,aaa⟩∨b.a=aM ⟨k,0,aaa⟩) w v:=(n.mono (G:=λk=>a.a=aM ⟨k,0,aaa⟩∨b.a=aM ⟨k,0,aaa⟩) λk _ hk=>.inl hk).trans e λk hk=>.inl (.inr hk);refine⟨λd i x=>∃j:Nat,i=(j:Int)/\d+j=a.c/\j<=a.c/\v=x,a.c,⟨0,rfl,J,be _,rfl⟩,?_⟩;rintro W _ _ ⟨S,rfl,am,hm,rfl⟩;have fa:vA v a:=by
  refine⟨D,?_⟩;by_cases c:0<a.c
  ·obtain⟨g,h⟩:=m c;obtain⟨t,y,F,R,h3⟩:=o c g h;exact .inr ⟨g,t,y,h,e.blk F (λV=>hd g h V),R⟩
  exact .inl J
 have fb:vA v b:=by
  refine⟨q,?_⟩;by_cases c:0<b.c
  ·obtain⟨g,h,t,y,F,R⟩:=Y c;exact .inr ⟨g,t,y,h,F,R⟩
  exact .inl J
 refine⟨λHb=>?_,λ_=>⟨rfl,T8,fa,fb⟩⟩;have Hb:(S:Int)<a.c:=aO Hb;obtain⟨g,h⟩:=m J;obtain⟨t,y,F,R,h3⟩:=o J g h;have T:=e.blk F (λV=>hd g h V);refine⟨_,at_ h J, -7,?_,λhn=>absurd hn Z,λ_=>⟨W-1,J,S+1,aaf,J,J,rfl⟩⟩;refine T.cells S _ λj v l=>?_;cases j with
 | zero=>
  simp only[cG,bJ]at l;subst l;exact h3 S J
 | succ j=>simp at l
def GY{w:av}{F G:aJ}{f i j k l m n r:Sl}{p:Pl}(h:PlR w F f i j k p)(g:PlR w G l m n r p)(t:I p.sp<=1000000):
  az aq 15 #[ah #[f.v,i.v,j.v,k.v],ah #[l.v,m.v,n.v,r.v]] w λe v=>e=ak (aj aE)/\Q [] w v:=by
 refine ret (aln _ _ _ _ _ _ _ _ ?_);intro C E K Z z H M q;have P:=q.size;refine(X1 (h.o0 q).sp (g.o0 q).sp t).mono ?_;rintro _ L ⟨rfl,D⟩;have R:=D.size;have o:=q.cd D;refine⟨_,rfl,D.same aah,(I1 (h.o0 o).ini (g.o0 o).ini).mono ?_⟩;rintro _ N ⟨rfl,a⟩;have S:=a.size;have b:=o.cd a;refine⟨_,rfl,a.same aah,(I1 (h.o0 b).dft (g.o0 b).dft).mono ?_⟩;rintro _ y ⟨rfl,d⟩;have T:=d.size;have u:=b.cd d;have B:=h.ro.len;have A:=h.ro.big;have s:=h.ro.cap;refine⟨_,rfl,d.same aah,λc=>?_,λ_=>?_⟩
 ·exfalso;rw[h.ro.len,g.ro.len]at c;simp at c
 refine⟨λkv aS aC=>∃e:Nat,aS=(e:Int)/\kv+e=I p.ro/\e<=I p.ro/\Q [] w aC/\y.heap.size<=aC.heap.size,I p.ro,⟨0,rfl,J,be _,u,aX _⟩,?_⟩;rintro kv _ w4 ⟨e,rfl,oX,hj,W,z4⟩;refine⟨λc=>?_,λ_=>⟨rfl,W⟩⟩;have c:=aO c;obtain⟨x,hx⟩:∃x,p.ro[e]? =aM x:=⟨_,bf (show e<(I p.ro) by omega)⟩
 obtain⟨ad,tg,c1,c2,c3⟩:=Ml (h.o0 W).ro hx;obtain⟨C1,_,d1,_,_⟩:=Ml (g.o0 W).ro hx;refine⟨ad,c1,_,_,_,_,_,tg,_,c2,C1,d1,λk4 w5 uw yg Y=>?_⟩;have z5:=Y.size;have o5:=W.cd Y;obtain⟨zi,am,e1,e2,e3⟩:=Ml (g.o0 o5).ro hx;obtain rfl:=cR.Cp d1 e1;refine⟨_,_,_,_,_,am,_,e2,λk5 w6 rl BI V=>(I1 (kI (kI c3 Y) V) (kI e3 V)).mono ?_⟩;rintro _ w7 ⟨rfl,fR⟩;have z6:=V.size;have z7:=fR.size;refine⟨_,rfl,fR.same aah,λc=>?_,λ_=>⟨kv-1,J,e+1,aaf,J,J,(o5.cd V).cd fR,J⟩⟩;exfalso;simp at c
end Go.Proofs.YtfemabakfkliiaaGreatDoor.Con
namespace Go.Kt
open Go Go.RowKit Go.MapKept
def Bx{a:Type}[DecidableEq a]:∀{V L:List a},V.Nodup->(∀x,x∈V->x∈L)->I V<=I L
 | [],_,_,_=>be _
 | x::V,L,d,h=>by
  obtain⟨f,g⟩:=qM.1 d;have b:=h x (.head _);have:=Bx (L:=L.erase x) g λy c=>(List.mem_erase_of_ne λe=>f (by rw[<-e];exact c)).2 (h y (.tail _ c));rw[List.length_erase_of_mem b]at this;have:=mM.2 (List.ne_nil_of_mem b);rw[aY];omega
def TJ{w a:av}{b:Nat}{o:Obj}(h:a=w∨a=w.drew):Only [b] w (Go.ChangeMaps.setBlock a b o):=by
 rcases h with rfl | rfl
 ·exact⟨rfl,rfl,rfl,by simp[Go.ChangeMaps.setBlock],λk hk n=>by
   show(a.heap.setIfInBounds b o)[k]? =_;rw[ml (by simpa using λe=>n (by simp[e]))]⟩
 exact⟨rfl,rfl,rfl,by show w.heap.size<=(w.heap.setIfInBounds b o).size;simp,λk hk n=>by
  show(w.heap.setIfInBounds b o)[k]? =_;rw[ml (by simpa using λe=>n (by simp[e]))]⟩
section
variable {κ:Type} {d:TypeDesc} {kv:κ->aw} {g:κ->Prop} {P:Program} {w w':av} {b r n:Nat} {m:κ->Option aw} {V:List κ} {mty kt et:TypeId}
structure ItV (kv:κ->aw) (g:κ->Prop) (w:av) (b r:Nat) (m:κ->Option aw) (n:Nat) (V:List κ):Prop where
 mem:∃es clock seen c0,w.heap[b]? =aM (.mapIter (aM r) clock seen c0)/\w.heap[r]? =aM (.map es clock)/\Stamped es clock/\clock<=c0/\es.size<=n/\(∀x,x∈es.toList->∃k,x.key=kv k/\g k)/\
  (∀k v,m k=aM v↔∃x,x∈es.toList/\x.key=kv k/\x.val=v)/\V.Nodup/\∀k,k∈V↔∃x,x∈es.toList/\x.key=kv k/\seen.contains x.born=aE
def ItV.keep(h:ItV kv g w b r m n V)(i:w'.heap[b]? =w.heap[b]?)(j:w'.heap[r]? =w.heap[r]?):ItV kv g w' b r m n V:=by
 obtain⟨e,c,s,c0,a,d,f⟩:=h.mem;exact⟨e,c,s,c0,i.trans a,j.trans d,f⟩
def ItV.lt(h:ItV kv g w b r m n V):b<w.heap.size/\r<w.heap.size:=by
 obtain⟨e,c,s,c0,a,d,f⟩:=h.mem;exact⟨(iQ.1 a).1,(iQ.1 d).1⟩
def ItV.only(h:ItV kv g w b r m n V){bs}(a:Only bs w w')(c:b∉bs)(d:r∉bs):ItV kv g w' b r m n V:=h.keep (a.block b h.lt.1 c) (a.block r h.lt.2 d)
def ItV.len(K:Jm d kv g)(h:ItV kv g w b r m n V):I V<=n:=by
 obtain⟨a,c,s,c0,p,q,t,u,v,y,z,f,i⟩:=h.mem;have j:(V.map kv).Nodup:=(zq.2 (f.imp λo e=>o (K.inj e)))
 have:=@Bx aw (Classical.typeDecidableEq _) (V.map kv) (a.toList.map (·.key)) j λx l=>by
  obtain⟨k,hk,rfl⟩:=dv.1 l;obtain⟨e,c,b,_⟩:=(i k).1 hk;exact dv.2 ⟨e,c,b⟩
 have e:=mJ (xs:=a);simp only[bK]at this;omega
def MapV.range(i:P.underlying mty=aM (.map kt et))(h:MapV kv g w r m n):
  ∃w',(Instr.range mty (.map (aM r))).run P w=.ok (.pointer (aM ⟨w.heap.size,0,aaa⟩)) w'/\ItV kv g w' w.heap.size r m n []/\Only [] w w'/\w'.heap.size=w.heap.size+1:=by
 obtain⟨e,c,a,b,j,d,f⟩:=h.mem;refine⟨_,run_range_map w mty kt et r e c i a,⟨e,c,#[],c,(MapKept.heap_alloc w _).1,((MapKept.heap_alloc w _).2 r h.lt).trans a,b,aX _,j,d,f,List.nodup_nil,λk=>?_⟩,Only.alloc _ _,aag⟩;constructor
 ·intro h;cases h
 rintro⟨x,_,_,h⟩;simp at h
def ItV.next(K:Jm d kv g)(h:ItV kv g w b r m n V)(D:TypeId):
  ((∀k,(m k).isSome=aE->k∈V)/\(Instr.next (.pointer (aM ⟨b,0,aaa⟩)) aL D).run P w=.ok (.tuple #[.bool aL]) w)∨
  ∃k v q,m k=aM v/\g k/\k∉V/\(Instr.next (.pointer (aM ⟨b,0,aaa⟩)) aL D).run P w=.ok (.tuple #[.bool aE,kv k,v]) q/\(Instr.entry (.pointer (aM ⟨b,0,aaa⟩))).run P q=.ok (.tuple #[kv k,v]) q/\ItV kv g q b r m n (k::V)/\Only [b] w q:=by
 obtain⟨i,c,s,c0,z,A,H,L,M,G,B,N,u⟩:=h.mem;obtain⟨J,F,t⟩:=H;have C:b≠r:=λe=>by rw[e,A]at z;cases z
 rcases run_next_at (P:=P) w D b r c c0 s i c z A (λx f=>J x f) L with⟨R,j⟩ | ⟨e,l,E,p,j⟩
 ·refine .inl ⟨λk hk=>?_,j⟩;obtain⟨v,a⟩:=fe.1 hk;obtain⟨x,f,e,_⟩:=(B k v).1 a;refine(u k).2 ⟨x,f,e,?_⟩;cases h:s.contains x.born
  ·have:x∈(leftOf i s).toList:=by
    unfold leftOf;rw[Array.toList_filter];exact j8.2 ⟨f,by rw[h];rfl⟩
   have c:(leftOf i s).toList=[]:=bH (by rw[mJ];exact R);rw[c]at this;cases this
  rfl
 have m:=l;unfold leftOf at m;rw[Array.toList_filter]at m;obtain⟨g,n⟩:=j8.1 m;have n:s.contains e.born=aL:=by simpa using n
 obtain⟨k,v,Y⟩:=G e g;have W:=TJ (b:=b) (o:=.mapIter (aM r) c (s.push e.born) c) p;have T:(Go.ChangeMaps.setBlock E b (.mapIter (aM r) c (s.push e.born) c)).heap[b]? =aM (.mapIter (aM r) c (s.push e.born) c):=by
  have a:b<E.heap.size:=by
   rcases p with rfl | rfl<;>exact h.lt.1
  show(E.heap.setIfInBounds b _)[b]? =_;rw[Array.getElem?_setIfInBounds_self_of_lt a]
 have S:=(W.block r h.lt.2 (by simpa using λe=>C e.symm)).trans A;have Z:∀x,x∈i.toList->x.key=kv k->x=e:=λx f hk=>by
  have c:=zq.1 t;by_cases k:x=e
  ·exact k
  exfalso;have o:∀{d:List MapEntry} {a b:MapEntry},d.Pairwise (λx y=>x.key≠y.key)->a∈d->b∈d->a≠b->a.key≠b.key:=fun{d}=>by
   induction d with
   | nil=>exact λ_ h=>aal
   | cons y d P=>
    intro a b c s x j;obtain⟨r,p2⟩:=MG.1 c;rcases aZ.1 s with rfl | h<;>rcases aZ.1 x with rfl | V
    ·exact absurd rfl j
    ·exact r b V
    ·exact λe=>r a h e.symm
    exact P p2 h V j
  exact o c f g k (by rw[hk,v])
 have w:k∉V:=λhk=>by
  obtain⟨x,f,a,e⟩:=(u k).1 hk;rw[Z x f a,n]at e;cases e
 refine .inr ⟨k,e.val,_,(B k e.val).2 ⟨e,g,v,rfl⟩,Y,w,by rw[j,v],?_,⟨i,c,s.push e.born,c,T,S,⟨J,F,t⟩,aX _,M,G,B,qM.2 ⟨w,N⟩,λd=>?_⟩,W⟩
 ·rw[<-v];exact run_entry_at (P:=P) _ b r c s i c e T S g F
 have c:∀y:MapEntry,(s.push e.born).contains y.born=(s.contains y.born||y.born==e.born):=λy=>contains_push s e.born y.born;constructor
 ·intro h;rcases aZ.1 h with rfl | h
  ·exact⟨e,g,v,by rw[c];simp⟩
  obtain⟨x,f,e,a⟩:=(u d).1 h;exact⟨x,f,e,by rw[c,a];rfl⟩
 rintro⟨x,f,r,o⟩;rw[c,cE]at o;rcases o with o | o
 ·exact .tail _ ((u d).2 ⟨x,f,r,o⟩)
 have s:x.born=e.born:=by simpa using o
 have:x=e:=by
  have e:∀{d:List MapEntry} {a b:MapEntry},(d.map (·.born)).Nodup->a∈d->b∈d->a.born=b.born->a=b:=fun{d}=>by
   induction d with
   | nil=>exact λ_ h=>aal
   | cons y d P=>
    intro a b c x s l;obtain⟨k,p2⟩:=qM.1 c;rcases aZ.1 x with rfl | h<;>rcases aZ.1 s with rfl | V
    ·rfl
    ·exact absurd (dv.2 ⟨b,V,l.symm⟩) k
    ·exact absurd (dv.2 ⟨a,h,l⟩) k
    exact P p2 h V l
  exact e F f g s
 subst this;have:d=k:=K.inj (r.symm.trans v);subst this;exact .head _
end
abbrev gI(k:Int):Prop:=0<=k/\k<64
def Mm:Jm (.int .i64) kN gI:=⟨λ_=>rfl,λh=>acs⟩
def MapV.YJ{w:av}{r n:Nat}{m:Int->Option aw}(b:MapV kN gI w r m n):MapV kN gI w r m 64:=by
 obtain⟨s,c,d,h,j,a,f⟩:=b.mem;refine⟨s,c,d,h,?_,a,f⟩;have:=@Bx aw (Classical.typeDecidableEq _) (s.toList.map (·.key)) ((List.range 64).map λi:Nat=>kN (i:Int)) h.2.2 λx g=>by
  obtain⟨e,n,rfl⟩:=dv.1 g;obtain⟨k,c,l,o⟩:=a e n;refine dv.2 ⟨k.toNat,oS.2 J,?_⟩;show kN ((k.toNat:Nat):Int)=e.key;rw[c,fL l]
 simpa using this
section
variable {P:Program} {w:av} {r n:Nat} {m:Int->Option aw} {kt:TypeId}
def MapV.aoz(hk:P.underlying kt=aM (.int .i64))(f:MapV kN gI w r m n)(u:n<=maxLen):∃D:DataW Nat,World.ownsMap w P kt (λ_=>aM (.nil,[])) r n D/\Go.Maps.size D<=n/\(Go.intKeys D).Nodup/\∀k,k∈Go.intKeys D↔(m k).isSome=aE:=by
 obtain⟨s,c,l,j,a,o,q⟩:=f.mem;have i:∀{k:Int},gI k->(Lit.int .i64 k).wf=aE:=fun{k} g=>by
  have l:=g.1;have o:=g.2;simp[Lit.wf,IntKind.min,IntKind.max,IntKind.signed,IntKind.bits];omega
 have b:∀x,x∈s.toList->∃k,x.key=kN k/\keyOf P kt x.key=aM (.int .i64 k):=λx h=>by
  obtain⟨k,e,g⟩:=o x h;rw[e];exact⟨k,rfl,by simp[keyOf,hk,mapKey,kN,i g]⟩
 have d:∀x,x∈s.toList->∃k,x.key=kN k/\Go.WideElems.rd P kt (H:=Nat) (λ_=>aM (.nil,[])) x=aM (.int .i64 k,.nil):=λx h=>by
  obtain⟨k,e,f⟩:=b x h;exact⟨k,e,by simp[Go.WideElems.rd,f]⟩
 have t:(Go.intKeys (.map ((s.toList.map (Go.WideElems.rg P kt (H:=Nat) λ_=>aM (.nil,[]))).foldr DataW.insert []))).Perm (s.toList.map λx=>Go.intOf (Go.WideElems.rg P kt (H:=Nat) (λ_=>aM (.nil,[])) x).1):=by
  have:=(Go.WideShapes.sorted_perm (s.toList.map (Go.WideElems.rg P kt (H:=Nat) λ_=>aM (.nil,[])))).map λp=>Go.intOf p.1;rw[gR]at this;exact this
 refine⟨_,⟨s,c,l,⟨bD a u,j,λx h=>?_⟩,a,rfl⟩,?_,?_,?_⟩
 ·obtain⟨k,_,e⟩:=d x h;exact⟨_,e⟩
 ·rw[Go.Maps.size_eq,(Go.WideShapes.sorted_perm _).length_eq];simpa using a
 ·rw[t.nodup_iff];refine zq.2 (((stamped_iff _ _).1 j).2.2.imp_of_mem ?_);intro x y h v c e;obtain⟨k,m,n⟩:=d x h;obtain⟨w,p,r⟩:=d y v;rw[Go.WideElems.rg_of n,Go.WideElems.rg_of r]at e;simp[Go.intOf]at e;exact c (by rw[m,p,e])
 intro k;rw[t.mem_iff,dv];constructor
 ·rintro⟨x,h,e⟩;obtain⟨m,c,k⟩:=d x h;rw[Go.WideElems.rg_of k]at e;simp[Go.intOf]at e;subst e;rw[(q m x.val).2 ⟨x,h,c,rfl⟩];rfl
 intro a;obtain⟨v,n⟩:=fe.1 a;obtain⟨x,h,e,_⟩:=(q k v).1 n;obtain⟨p,c,m⟩:=d x h;refine⟨x,h,?_⟩;rw[Go.WideElems.rg_of m];exact Mm.inj (c.symm.trans e)
def Ov{L s:List Int}(a:L.Pairwise (· <·))(c:s.Nodup)(b:∀k,k∈s↔k∈L):s.mergeSort (λx y=>decide (x<=y))=L:=by
 rw[Go.mergeSort_of_perm_i ((List.perm_ext_iff_of_nodup c (a.imp λh e=>by subst e;exact absurd h J)).2 b)];refine List.mergeSort_of_pairwise (a.imp λh=>?_);simp;omega
end
end Go.Kt
namespace Go.Proofs.YtfemabakfkliiaaGreatDoor.Con
open Go Go.RowKit Go.Kt Go.Kt.V Go.Proofs.YtfemabakfkliiaaGreatDoor.Vc
abbrev mB(p:Int->Bool):Int->Option aw:=λk=>if p k=aE then aM (aj aE)else aaa
abbrev mF(w:av)(r:Nat)(p:Int->Bool):Prop:=MapV kN gI w r (mB p) 64
def mF.at{w:av}{r:Nat}{p:Int->Bool}(h:mF w r p)(k:Int):(Instr.lookup 115 (.map (aM r)) (O U k) aL).run aq w=.ok (aj (p k)) w:=by
 have:=h.lookup (P:=aq) (mty:=115) (kt:=3) (et:=4) (z:=aj aL) Mm aae aae (λw=>Tryz.zeroValue4 w) k;refine Eq.trans this ?_;dsimp only[mB];cases p k<;>rfl
def mF.of{w:av}{r:Nat}{p q:Int->Bool}(h:mF w r p)(e:∀k,p k=q k):mF w r q:=h.ext λk=>by
 dsimp only[mB];rw[e]
def mF.ok{w:av}{r:Nat}{p:Int->Bool}(h:mF w r p){k:Int}(hk:p k=aE):gI k:=MapV.ok h Mm (k:=k) (by dsimp only[mB];rw[aV hk];simp)
def Bz{w:av}{r:Nat}{p:Int->Bool}{s:Sl}{l:List Int}{F:aJ}(b:mF w r p)(a:aA gL 1 w F s l)(f:¬F r)(g:∀x,x∈l->gI x):az aq 54 #[.map (aM r),s.v] w λe d=>e=ak (ai #[])/\mF d r (λk=>p k||decide (k∈l))/\Q [r] w d:=by
 refine ik (asQ _ _ ?_);have q:=a.len;have h:=a.cap;have n:=a.big;refine⟨λv i u=>∃j:Nat,i=(j:Int)/\v+j=I l/\j<=I l/\mF u r (λk=>p k||decide (k∈l.take j))/\Q [r] w u,I l,⟨0,rfl,J,be _,b.of λk=>aag,Only.refl _ _⟩,?_⟩;rintro v _ m ⟨j,rfl,t,o,S,c⟩;refine⟨λh=>?_,λh=>?_⟩
 ·have h:=aO h;have H:j<I l:=J
  have B:aA gL 1 m F s l:=SliceF.only cp Z a c λk hk _ e=>by
   simp only[aN]at e;exact f (by rw[<-e];exact hk)
  obtain⟨ad,y,z⟩:=rR B (bf H);obtain⟨G,A,C,D⟩:=MapV.update (P:=aq) (mty:=115) (kt:=3) (et:=4) Mm aae aae S (g _ (mU H)) (aj aE);refine⟨ad,y,_,z,G,A,v-1,J,j+1,aaf,J,J,(MapV.YJ C).ext λk=>?_,c.trans D λx E=>.inl E⟩;dsimp only[mB];have p:l.take (j+1)=l.take j++[l[j]]:=by rw[bh,bf H];rfl
  by_cases hk:k=l[j]
  ·rw[aV hk,aV];rw[cE,cX];exact .inr (by rw[p,hk];exact List.mem_append_right _ (aN.2 rfl))
  rw[aP hk];congr 2;rw[p];congr 1;rw[gv,ch,aN];exact⟨λb=>b.resolve_right hk,.inl⟩
 have h:=aU h;have H:j=I l:=J
 subst H;rw[fp]at S;exact⟨rfl,S,c⟩
def rPa:Rp (Int×List Int):=λw F x c=>∃t:Sl,c=[O U x.1,t.v]/\aA gL 1 w F t x.2
def I2:rPa.Ok where
 keep:=by
  rintro w b F x c ⟨d,h,a⟩ hk;exact⟨d,h,a.keep cp Z hk⟩
 inHeap:=by
  rintro w F x c ⟨d,h,a⟩;exact⟨d,h,a.inHeap cp Z⟩
 mono:=by
  rintro w F G x c ⟨d,h,a⟩ hk;exact⟨d,h,a.mono cp hk⟩
 one:=by
  rintro w F x c ⟨d,rfl,_⟩ v h;simp only[aZ,bp,ci]at h;rcases h with rfl | rfl<;>rfl
def aoj{w:av}{F:aJ}{sp:Sl}{L:List (Int×List Int)}(h:aA rPa 2 w F sp L){i:Nat}{x:Int×List Int}(a:L[i]? =aM x):∃ad,∃t:Sl,cR sp (i:Int) 2 ad/\aB w ad [O U x.1,t.v]/\aA gL 1 w F t x.2:=by
 have f:=(bc.1 a).1;have l:=h.len;obtain⟨ad,y,s,b,g,j,k,c,e,rfl,d⟩:=h.get (ba i) J;rw[aW,a]at g;injection g with g;subst g;exact⟨ad,e,b,c,d⟩
def um(l:List (Int×List Int)):MO:=l.foldl (λM x=>λk=>if k=x.1 then aM x.2 else M k) λ_=>aaa
structure PastV (w:av) (F:aJ) (r:Nat) (M:MO):Prop where
 ex:∃m,MapV kN gI w r m 64/\(∀k,M k=aaa->m k=aaa)/\∀k l,M k=aM l->∃s:Sl,m k=aM s.v/\aA gL 1 w F s l
section
variable {w w':av} {F:aJ} {r:Nat} {M:MO}
def PastV.only(a:PastV w F r M){bs}(h:Q bs w w')(g:r∉bs)(f:∀k,F k->k<w.heap.size->k∉bs):PastV w' F r M:=by
 obtain⟨m,b,c,d⟩:=a.ex;refine⟨m,MapV.only b h g,c,λk j l=>?_⟩;obtain⟨s,e,i⟩:=d k j l;exact⟨s,e,SliceF.only cp Z i h f⟩
def PastV.o0(h:PastV w F r M)(a:Q [] w w'):PastV w' F r M:=h.only a aag aag
def PastV.mono{G:aJ}(h:PastV w F r M)(hk:∀k,F k->G k):PastV w G r M:=by
 obtain⟨m,a,b,c⟩:=h.ex;refine⟨m,a,b,λk f l=>?_⟩;obtain⟨s,e,d⟩:=c k f l;exact⟨s,e,d.mono cp hk⟩
def PastV.at(h:PastV w F r M)(k:Int):∃s:Sl,(Instr.lookup 113 (.map (aM r)) (O U k) aE).run aq w=.ok (ai #[s.v,aj (M k).isSome]) w/\∀l,M k=aM l->aA gL 1 w F s l:=by
 obtain⟨m,a,b,c⟩:=h.ex;have:=a.RG (P:=aq) (mty:=113) (kt:=3) (et:=33) (z:=Sl.nil.v) Mm aae aae (λw=>Tryz.zeroValue33 w) k;rcases hm:M k with _|l
 ·rw[b k hm]at this;exact⟨Sl.nil,this,λl h=>aal⟩
 obtain⟨s,e,d⟩:=c k l hm;rw[e]at this;refine⟨s,this,λf h=>?_⟩;injection h with h;subst h;exact d
def PastV.set(g:PastV w F r M){k:Int}(o:gI k){s:Sl}{l:List Int}(u:aA gL 1 w F s l)(p:¬F r):∃w',(Instr.mapUpdate 113 (.map (aM r)) (O U k) s.v).run aq w=.ok () w'/\PastV w' F r (λx=>if x=k then aM l else M x)/\Q [r] w w':=by
 obtain⟨v,i,j,n⟩:=g.ex;obtain⟨c,d,f,b⟩:=MapV.update (P:=aq) (mty:=113) (kt:=3) (et:=33) Mm aae aae i o s.v;have kp:∀{t:Sl} {q:List Int},aA gL 1 w F t q->aA gL 1 c F t q:=λa=>SliceF.only cp Z a b λk hk _ m=>by
  simp only[aN]at m;exact p (by rw[<-m];exact hk)
 refine⟨c,d,⟨_,MapV.YJ f,λx h=>?_,λx q h=>?_⟩,b⟩
 ·by_cases e:x=k
  ·rw[aV e]at h;cases h
  rw[aP e]at h⊢;exact j x h
 by_cases e:x=k
 ·rw[aV e]at h⊢;injection h with h;subst h;exact⟨s,rfl,kp u⟩
 rw[aP e]at h⊢;obtain⟨t,k,a⟩:=n x q h;exact⟨t,k,kp a⟩
end
abbrev Wk(w:av)(b:Nat)(s i sd sr:Sl)(r a:Nat):Prop:=aF w b 117 [s.v,i.v,sd.v,sr.v,.map (aM r),.map (aM a)]
def Rz(a:av)(s C sd sr:Sl){sp:Sl}{F:aJ}{L:List (Int×List Int)}(n:aA rPa 2 a F sp L)(R:∀x,x∈L->gI x.1):az aq 53 #[ah #[s.v,C.v,sd.v,sr.v],sp.v] a λe f=>(∃b r o:Nat,e=ak (ae (aM ⟨b,0,aaa⟩))/\a.heap.size<=b/\b<f.heap.size/\a.heap.size<=r/\r<o/\o<b/\Wk f b s C sd sr r o/\PastV f (λk=>F k/\k<a.heap.size) r (um L)/\mF f o λ_=>aL)/\Q [] a f:=by
 refine ik (asP _ _ _ _ _ ?_);intro k0 w fZ ez A;have z0:=A.size;obtain⟨G,H,p⟩:=MapV.make (P:=aq) (mty:=113) (kv:=kN) (g:=gI) w;have z1:=p.size;have z:(w.alloc (.map #[] 0)).heap.size=w.heap.size+1:=by show(w.heap.push _).size=_;simp
 refine⟨_,_,G,p.same aah,?_⟩;obtain⟨K,M,l⟩:=MapV.make (P:=aq) (mty:=115) (kv:=kN) (g:=gI) (w.alloc (.map #[] 0));have z2:=l.size;have am:((w.alloc (.map #[] 0)).alloc (.map #[] 0)).heap.size=w.heap.size+2:=by show((w.alloc _).heap.push _).size=_;rw[Array.size_push,z]
 generalize T:w.alloc (.map #[] 0)=y at*
 generalize V:y.alloc (.map #[] 0)=w2 at*
 refine⟨_,_,K,l.same aah,λY i mc jM m=>?_⟩;have z3:=m.size;have B:Q [] a i:=((A.cd p).cd l).cd m;have hn:=n.len;have c:=n.cap;have hb:=n.big;have q:aA rPa 2 i (λk=>F k/\k<a.heap.size) sp L:=SliceF.only I2 Z (SliceF.inHeap I2 n Z) B aag;have E:PastV i (λk=>F k/\k<a.heap.size) w.heap.size λ_=>aaa:=⟨_,(MapV.only (MapV.only H l aag) m aag).YJ,λ_ _=>rfl,λk aC h=>aal⟩
 have S:mF i y.heap.size λ_=>aL:=((MapV.only M m aag).YJ).ext λk=>by dsimp only[mB];rw[aP aag]
 refine⟨λv W D=>∃j:Nat,W=(j:Int)/\v+j=I L/\j<=I L/\PastV D (λk=>F k/\k<a.heap.size) w.heap.size (um (L.take j))/\Q [w.heap.size] i D,I L,⟨0,rfl,J,be _,E,Only.refl _ _⟩,?_⟩;rintro v _ w4 ⟨j,rfl,oX,hj,u,d⟩;have z4:=d.size;refine⟨λc=>?_,λc N ii=>?_⟩
 ·have c:=aO c;have b:j<I L:=J
  have h:aA rPa 2 w4 (λk=>F k/\k<a.heap.size) sp L:=SliceF.only I2 Z q d λk hk _ hm=>by
   simp only[aN]at hm;omega
  obtain⟨ad,t,s,P,c3⟩:=aoj h (bf b);refine⟨ad,s,_,t,P,λk4 w5 uw yg e=>?_⟩;obtain⟨w6,d1,d2,g⟩:=(u.o0 e).set (R _ (mU b)) (kI c3 e) J;refine⟨w6,d1,g.same aah,v-1,J,j+1,aaf,J,J,?_,(d.cd e).trans g λx hx=>.inl hx⟩;have nt:L.take (j+1)=L.take j++[L[j]]:=by rw[bh,bf b];rfl
  rw[nt];unfold um;rw[jO];exact d2
 have c:=aU c;have b:j=I L:=J
 subst b;rw[fp]at u;refine⟨⟨Y,w.heap.size,y.heap.size,rfl,J,J,J,J,J,N,u,MapV.only S d aah⟩,?_⟩;have:=B.trans d (bs:=[]) λx hx=>.inr aak;exact this
end Go.Proofs.YtfemabakfkliiaaGreatDoor.Con
namespace Go.Proofs
open Go.Shelf
def Tryz.G2:Go.Shelf.Ren:=⟨λ| 7=>122 | 10=>168 | n=>n,λ| 23=>115 | 26=>3 | 3=>4 | 28=>206 | 0=>0 | 27=>205 | 33=>86 | 4=>4 | n=>n,λ| n=>n⟩
def Tryz.aeQ:Go.Proofs.SlLaysZI.n7 Tryz.prog Tryz.G2:={
 mixed:=aae
 f7:=⟨Tryz.f122.name,Z,Tryz.func122.trans (bN aM aae)⟩
 f10:=⟨Tryz.f168.name,Z,Tryz.func168.trans (bN aM aae)⟩
 t0:=Tryz.underlying0
 a0:=Tryz.isAgg0
 z0:=Tryz.sizeOf0
 v0:=Tryz.zeroValue0
 t4:=Tryz.underlying4
 a4:=Tryz.isAgg4
 z4:=Tryz.sizeOf4
 v4:=Tryz.zeroValue4
 t23:=Tryz.underlying115
 a23:=Tryz.isAgg115
 z23:=Tryz.sizeOf115
 v23:=Tryz.zeroValue115
 t26:=Tryz.underlying3
 a26:=Tryz.isAgg3
 z26:=Tryz.sizeOf3
 v26:=Tryz.zeroValue3
 t27:=Tryz.underlying205
 a27:=Tryz.isAgg205
 z27:=Tryz.sizeOf205
 v27:=Tryz.zeroValue205
 t28:=Tryz.underlying206
 a28:=Tryz.isAgg206
 z28:=Tryz.sizeOf206
 v28:=Tryz.zeroValue206
 t33:=Tryz.underlying86
 a33:=Tryz.isAgg86
 z33:=Tryz.sizeOf86
 v33:=Tryz.zeroValue86}
def Tryz.B6:Go.Shelf.Ren:=⟨λ| 6=>121 | 8=>166 | 9=>167 | 11=>198 | 13=>200 | 12=>199 | 23=>231 | 24=>232 | 14=>222 | 15=>223 | 16=>224 | 17=>225 | 18=>226 | 19=>227 | 20=>228 | 21=>229 | 22=>230 | 25=>254 | 26=>255 | 27=>256 | 28=>257 | 29=>258 | 30=>259 | 31=>284 | n=>n,λ| 26=>3 | 28=>206 | 24=>33 | 0=>0 | 3=>3 | 37=>110 | 48=>292 | 50=>30 | 4=>4 | 40=>286 | 39=>285 | 45=>171 | 5=>5 | 9=>9 | 51=>317 | 55=>190 | 57=>345 | 58=>217 | 33=>86 | n=>n,λ| n=>n⟩
def Tryz.acp:Go.Proofs.SlLaysZI.n6 Tryz.prog Tryz.B6:={
 mixed:=aae
 f6:=⟨Tryz.f121.name,Z,Tryz.func121.trans (bN aM aae)⟩
 f8:=⟨Tryz.f166.name,Z,Tryz.func166.trans (bN aM aae)⟩
 f11:=⟨Tryz.f198.name,Z,Tryz.func198.trans (bN aM aae)⟩
 t0:=Tryz.underlying0
 a0:=Tryz.isAgg0
 z0:=Tryz.sizeOf0
 v0:=Tryz.zeroValue0
 t24:=Tryz.underlying33
 a24:=Tryz.isAgg33
 z24:=Tryz.sizeOf33
 v24:=Tryz.zeroValue33
 t26:=Tryz.underlying3
 a26:=Tryz.isAgg3
 z26:=Tryz.sizeOf3
 v26:=Tryz.zeroValue3
 t28:=Tryz.underlying206
 a28:=Tryz.isAgg206
 z28:=Tryz.sizeOf206
 v28:=Tryz.zeroValue206
 i26:=aae}
def Tryz.TP:Go.Shelf.Ren:=⟨λ| 5=>167 | 8=>200 | 7=>199 | 19=>231 | 20=>232 | 10=>222 | 11=>223 | 12=>224 | 13=>225 | 14=>226 | 15=>227 | 16=>228 | 17=>229 | 18=>230 | 30=>254 | 31=>255 | 32=>256 | 33=>257 | 34=>258 | 35=>259 | 40=>284 | n=>n,λ| 23=>33 | 25=>3 | 3=>3 | 32=>110 | 22=>33 | 0=>0 | 44=>292 | 46=>30 | 4=>4 | 36=>286 | 35=>285 | 41=>171 | 5=>5 | 9=>9 | 53=>317 | 57=>190 | 63=>345 | 64=>217 | n=>n,λ| n=>n⟩
def Tryz.aeR:Go.Proofs.SlLaysM.n5 Tryz.prog Tryz.TP:={
 mixed:=aae
 f5:=⟨Tryz.f167.name,Z,Tryz.func167.trans (bN aM aae)⟩
 f7:=⟨Tryz.f199.name,Z,Tryz.func199.trans (bN aM aae)⟩
 f8:=Tryz.func200.trans (bN aM aae)
 f10:=⟨Tryz.f222.name,Z,Tryz.func222.trans (bN aM aae)⟩
 f11:=⟨Tryz.f223.name,Z,Tryz.func223.trans (bN aM aae)⟩
 f12:=⟨Tryz.f224.name,Z,Tryz.func224.trans (bN aM aae)⟩
 f13:=⟨Tryz.f225.name,Z,Tryz.func225.trans (bN aM aae)⟩
 f14:=⟨Tryz.f226.name,Z,Tryz.func226.trans (bN aM aae)⟩
 f15:=⟨Tryz.f227.name,Z,Tryz.func227.trans (bN aM aae)⟩
 f16:=⟨Tryz.f228.name,Z,Tryz.func228.trans (bN aM aae)⟩
 f17:=⟨Tryz.f229.name,Z,Tryz.func229.trans (bN aM aae)⟩
 f18:=⟨Tryz.f230.name,Z,Tryz.func230.trans (bN aM aae)⟩
 f19:=Tryz.func231.trans (bN aM aae)
 f20:=Tryz.func232.trans (bN aM aae)
 f30:=⟨Tryz.f254.name,Z,Tryz.func254.trans (bN aM aae)⟩
 f31:=Tryz.func255.trans (bN aM aae)
 f32:=Tryz.func256.trans (bN aM aae)
 f33:=⟨Tryz.f257.name,Z,Tryz.func257.trans (bN aM aae)⟩
 f34:=⟨Tryz.f258.name,Z,Tryz.func258.trans (bN aM aae)⟩
 f35:=⟨Tryz.f259.name,Z,Tryz.func259.trans (bN aM aae)⟩
 f40:=⟨Tryz.f284.name,Z,Tryz.func284.trans (bN aM aae)⟩
 t0:=Tryz.underlying0
 a0:=Tryz.isAgg0
 z0:=Tryz.sizeOf0
 v0:=Tryz.zeroValue0
 t3:=Tryz.underlying3
 a3:=Tryz.isAgg3
 z3:=Tryz.sizeOf3
 v3:=Tryz.zeroValue3
 t4:=Tryz.underlying4
 a4:=Tryz.isAgg4
 z4:=Tryz.sizeOf4
 v4:=Tryz.zeroValue4
 t5:=Tryz.underlying5
 a5:=Tryz.isAgg5
 z5:=Tryz.sizeOf5
 v5:=Tryz.zeroValue5
 t9:=Tryz.underlying9
 a9:=Tryz.isAgg9
 z9:=Tryz.sizeOf9
 v9:=Tryz.zeroValue9
 t22:=Tryz.underlying33
 a22:=Tryz.isAgg33
 z22:=Tryz.sizeOf33
 v22:=Tryz.zeroValue33
 t23:=Tryz.underlying33
 a23:=Tryz.isAgg33
 z23:=Tryz.sizeOf33
 v23:=Tryz.zeroValue33
 t25:=Tryz.underlying3
 a25:=Tryz.isAgg3
 z25:=Tryz.sizeOf3
 v25:=Tryz.zeroValue3
 t32:=Tryz.underlying110
 a32:=Tryz.isAgg110
 z32:=Tryz.sizeOf110
 v32:=Tryz.zeroValue110
 t35:=Tryz.underlying285
 a35:=Tryz.isAgg285
 z35:=Tryz.sizeOf285
 v35:=Tryz.zeroValue285
 t36:=Tryz.underlying286
 a36:=Tryz.isAgg286
 z36:=Tryz.sizeOf286
 v36:=Tryz.zeroValue286
 t41:=Tryz.underlying171
 a41:=Tryz.isAgg171
 z41:=Tryz.sizeOf171
 v41:=Tryz.zeroValue171
 t44:=Tryz.underlying292
 a44:=Tryz.isAgg292
 z44:=Tryz.sizeOf292
 v44:=Tryz.zeroValue292
 t46:=Tryz.underlying30
 a46:=Tryz.isAgg30
 z46:=Tryz.sizeOf30
 v46:=Tryz.zeroValue30
 t53:=Tryz.underlying317
 a53:=Tryz.isAgg317
 z53:=Tryz.sizeOf317
 v53:=Tryz.zeroValue317
 t57:=Tryz.underlying190
 a57:=Tryz.isAgg190
 z57:=Tryz.sizeOf190
 v57:=Tryz.zeroValue190
 t63:=Tryz.underlying345
 a63:=Tryz.isAgg345
 z63:=Tryz.sizeOf345
 v63:=Tryz.zeroValue345
 t64:=Tryz.underlying217
 a64:=Tryz.isAgg217
 z64:=Tryz.sizeOf217
 v64:=Tryz.zeroValue217}
open Go.RowKit Go.Maps Go.Sort Go.Shelf in
theorem Tryz.ahC (m:Nat):AnyZI.SortsIn Tryz.prog Tryz.B6 Fence.wide m:=
 ⟨λblk off cap ss W hH OK hsz=>callsIn_wide.2 (AnyM.slices_Sort_int Tryz.aeR blk off cap ss W hH OK hsz),
  λp cap W=>callsIn_wide.2 (AnyM.slices_Sort_int_none Tryz.aeR p cap W)⟩
open Go.RowKit Go.Maps Go.Sort Go.Shelf in
theorem Tryz.acq (mb:Option Nat) (W:World):Calls Tryz.prog 122 #[.map mb] W λe w'=>e=.returned (.func (.func 168) #[] #[.pointer (some ⟨W.heap.size,0,none⟩)])/\w'=W.alloc (.cells #[.map mb] 115):=
 callsIn_wide.1 (AnyZI.keys_in Tryz.aeQ Fence.wide 5 trivial rfl mb W)
open Go.RowKit Go.Maps Go.Sort Go.Shelf in
theorem Tryz.TQ {H:Type} (k b nn:Nat) (D0:DataW H) (R:Value->Option (DataW H×List MemPlace)) (w:World) (hk:k<w.heap.size) (hm:w.cell? ⟨k,0,none⟩=some (.map (some b))) (nE:w.ownsMap Tryz.prog 3 R b nn D0) (My:Maps.size D0<=maxLen) (ajt:Maps.size D0*8<=140737488355328):
  Calls Tryz.prog 121 #[.func (.func 168) #[] #[.pointer (some ⟨k,0,none⟩)]] w λe w'=>∃(v:Value) (ss:List Int),e=.returned v/\ss.Perm (intKeys D0)/\
   w'.ownsRow w.heap.size 3 1 v ss.length ((ss.mergeSort (λx y=>decide (x<=y))).map encZ)/\(v=.slice none 0 0↔ss=[])/\Below w.heap.size w w':=by
 have axR:SeqGives Fence.wide 2 Tryz.prog 168 #[.pointer (some ⟨k,0,none⟩)] encZ (λss=>ss.Perm (intKeys D0)) (Maps.size D0) w:=
  AnyZI.keys_gives (ρ:=Tryz.G2) {Tryz.aeQ with} Fence.wide _ trivial rfl J k b nn D0 w hk hm nE
 exact callsIn_wide.1 (AnyZI.sorted_in Tryz.acp Fence.wide 5 trivial trivial trivial trivial rfl J (Tryz.ahC _) (enters_of Tryz.func167 aae rfl) 168 #[.pointer (some ⟨k,0,none⟩)] trivial (enters_of Tryz.func168 aae rfl) _ _ My ajt _ axR)
end Go.Proofs
namespace Go.Proofs.YtfemabakfkliiaaGreatDoor.Con
open Go Go.RowKit Go.Kt Go.Kt.V Go.Proofs.YtfemabakfkliiaaGreatDoor.Vc
def ab7(l:List Int)(w:av)(F:aJ)(h:∀a,a∈l->gI a):qB gL 1 w F l (l.map λa=>[Value.int U a]):=by
 induction l with
 | nil=>exact trivial
 | cons a l i=>
  have:=h a (.head _);exact⟨⟨rfl,rfl,by constructor<;>omega⟩,i λb c=>h b (.tail _ c)⟩
def Yp(l:List Int):(l.map λa=>[Value.int U a]).flatten=l.map Go.encZ:=by
 induction l with
 | nil=>rfl
 | cons a l i=>rw[bS,eH,i];rfl
def Yq{B:Nat}{w:av}{v:aw}{l:List Int}{n:Nat}(h:w.ownsRow B 3 1 v n (l.map Go.encZ))(k:∀a,a∈l->gI a):∃s:Sl,v=s.v/\gV B w s l:=by
 obtain⟨d,h⟩:=h;rw[bK,rm]at d;subst d;rcases h with⟨rfl,m⟩ | ⟨g,cap,c,rfl,e,f,i,o,j,b⟩
 ·have:l=[]:=bH m;subst this;exact⟨Sl.nil,rfl,Own.nil _ _ _ _ _ _⟩
 refine⟨⟨aM ⟨g,0,aaa⟩,I l,cap⟩,rfl,.inr ⟨g,_,c.toList.drop (I l),rfl,e,?_,?_,rfl,i,?_,ab7 l w _ k⟩⟩
 ·rw[rm]at b;rw[Yp,<-b,fk];unfold aF;rw[f]
 ·dsimp only;rw[cJ,mJ,j];omega
 have:maxLen=9223372036854775807:=rfl;dsimp only;omega
def itI(k:Nat):OV:=⟨.func (.func 168) #[] #[ae (aM ⟨k,0,aaa⟩)],rfl⟩
def ahs{w:av}{r:Nat}{p:Int->Bool}{L:List Int}(c:mF w r p)(n:L.Pairwise (· <·))(d:∀a,a∈L↔p a=aE):
  az aq 88 #[.map (aM r)] w λe b=>∃s:Sl,e=ak s.v/\gV w.heap.size b s L/\Q [] w b:=by
 refine ik (as6 _ ?_);refine(Tryz.acq (aM r) w).mono ?_;rintro _ g ⟨rfl,rfl⟩;have h:Q [] w (w.alloc (.cells #[.map (aM r)] 115)):=Only.alloc _ _;have hk:aF (w.alloc (.cells #[.map (aM r)] 115)) w.heap.size 115 [.map (aM r)]:=heap_alloc_new w _;have m:mF (w.alloc (.cells #[.map (aM r)] 115)) r p:=MapV.only c h aag;have z:=h.size;generalize w.alloc (.cells #[.map (aM r)] 115)=g at*
 refine⟨itI w.heap.size,rfl,?_⟩;obtain⟨D,i,y,j,l⟩:=MapV.aoz (P:=aq) (kt:=3) aae m (by have:maxLen=9223372036854775807:=rfl;omega);refine(Tryz.TQ w.heap.size r 64 D _ g hk.lt (hk.cell 0) i (by have:maxLen=9223372036854775807:=rfl;omega) J).mono ?_;rintro e b ⟨v,x,rfl,k,f,k3,u⟩;have t:x.Nodup:=k.nodup_iff.2 j;rw[Ov n t λa=>by
  rw[k.mem_iff,l,d];dsimp only[mB];cases p a<;>simp]at f
 obtain⟨s,rfl,q⟩:=Yq f λa o=>c.ok ((d a).1 o);exact⟨s,rfl,s,rfl,q.low z,h.cd (Only.wS u)⟩
def rS(S:Nat)(k:Int):Bool:=decide (0<=k)&&S.testBit k.toNat
def EU(S n:Nat):rS S (n:Int)=S.testBit n:=by
 unfold rS;rw[bF J,cr,aW]
def I3{x:Int}(h:gI x)(S:Nat)(k:Int):rS (TD S x) k=(rS S k||decide (k=x)):=by
 have a:=h.1;have b:=h.2;unfold rS TD;rw[Nat.testBit_or,L9];by_cases hk:0<=k
 ·rw[bF hk,cr,cr];congr 1;rw[gv];constructor
  ·rintro⟨_,e⟩;omega
  intro e;exact⟨J,J⟩
 rw[bA hk,db,db,bA J];rfl
def GZ:∀(l:List Int),(∀x,x∈l->gI x)->∀(S:Nat) (k:Int),rS (l.foldl TD S) k=(rS S k||decide (k∈l))
 | [],_,S,k=>aag
 | x::l,h,S,k=>by
  rw[C8,GZ l (λy a=>h y (.tail _ a)),I3 (h x (.head _)),Bool.or_assoc];congr 1;rw[<-Bool.decide_or,gv,aZ]
def Yr{a:Type}{l:List a}{j:Nat}{t:a}(h:l[j]? =aM t)(f:a->Bool):(l.take (j+1)).any f=((l.take j).any f||f t):=by
 rw[bh,h,vT];simp
def RA(w:av)(k:Int):az aq 85 #[O U k] w λe a=>e=ak (aj (fF k))/\a=w:=by
 refine ik (as4 _ ?_);refine⟨?_,rfl⟩;congr 2;unfold fF;rw[bL];simp
def PastV.inHeap{w:av}{F:aJ}{r:Nat}{M:MO}(h:PastV w F r M):PastV w (λk=>F k/\k<w.heap.size) r M:=by
 obtain⟨m,a,b,c⟩:=h.ex;refine⟨m,a,b,λk f l=>?_⟩;obtain⟨s,e,d⟩:=c k f l;exact⟨s,e,SliceF.inHeap cp d Z⟩
section
variable {w:av} {b r0 r1:Nat} {s si sd sr st:Sl} {xs:List dU} {dft tg:List Int} {F G H:aJ} {M:MO}
def Mn(E:Wk w b s si sd sr r0 r1)(f:aA tD 5 w F s xs)(m:aA gL 1 w F sd dft)(K:PastV w G r0 M)(Y:aA gL 1 w H st tg)(yU:I dft=I xs)(L:∀t,t∈tg->∀i,i∈iE xs dft M t->gI i):
  az aq 58 #[ae (aM ⟨b,0,aaa⟩),st.v] w λe p=>(∃r:Nat,e=ak (.map (aM r))/\w.heap.size<=r/\mF p r (λk=>tg.any λt=>decide (k∈iE xs dft M t)))/\Q [] w p:=by
 refine ik (asU _ _ ?_);obtain⟨B,C,D⟩:=MapV.make (P:=aq) (mty:=115) (kv:=kN) (g:=gI) w;refine⟨_,_,B,?_⟩;have A:mF (w.alloc (.map #[] 0)) w.heap.size λk=>([]:List Int).any λt=>decide (k∈iE xs dft M t):=(MapV.YJ C).ext λk=>by dsimp only[mB];rw[aP aag]
 generalize w.alloc (.map #[] 0)=W at*
 have hn:=Y.len;have c:=Y.cap;have hb:=Y.big;have T:=f.len;have R:=f.cap;have N:=f.big;have l:=K.inHeap;refine⟨λg V u=>∃j:Nat,V=(j:Int)/\g+j=I tg/\j<=I tg/\mF u w.heap.size (λk=>(tg.take j).any λt=>decide (k∈iE xs dft M t))/\Q [w.heap.size] W u,I tg,⟨0,rfl,J,be _,A,Only.refl _ _⟩,?_⟩;rintro g _ u ⟨j,rfl,oX,hj,S,d⟩;have o:Q [] w u:=D.trans d λx hx=>.inr aak;refine⟨λc=>?_,λc=>?_⟩
 ·have c:=aO c;have P:j<I tg:=J
  obtain⟨t,G⟩:∃t,tg[j]? =aM t:=⟨_,bf P⟩
  have e:=L t (bn G);refine⟨λH=>mF H w.heap.size (λk=>(tg.take (j+1)).any λt=>decide (k∈iE xs dft M t))/\Q [w.heap.size] W H,?_,?_⟩
  ·rintro H ⟨h,a⟩;exact⟨g-1,J,j+1,aaf,J,J,h,a⟩
  have am:∀{q:Int->Bool} {u':av},mF u' w.heap.size q->(∀k,q k=((tg.take j).any (λt=>decide (k∈iE xs dft M t))||decide (k∈iE xs dft M t)))->mF u' w.heap.size (λk=>(tg.take (j+1)).any λt=>decide (k∈iE xs dft M t)):=λh he=>h.of λk=>by rw[he,Yr G]
  obtain⟨ad,c1,c2⟩:=rR (kI Y o) G;have aC:Wk u b s si sd sr r0 r1:=o.blk E aag;refine⟨ad,c1,_,c2,aM r0,Blk.dP aC 4 rfl,?_⟩;obtain⟨l0,d1,d2⟩:=PastV.at (l.o0 o) t;refine⟨l0,_,_,d1,s,λ_=>Blk.dP aC 0 rfl,λhx=>⟨am S λk=>?_,d⟩,λhx=>⟨s,Blk.dP aC 0 rfl,?_⟩⟩
  ·rw[cE,cX,cX]at hx;have:iE xs dft M t=[]:=by unfold iE;rw[aV J]
   rw[this];simp
  rw[fy,dl,dl]at hx;obtain⟨n,rfl⟩:∃n:Nat,t=n:=⟨t.toNat,J⟩
  obtain⟨x,w⟩:∃x,xs[n]? =aM x:=⟨_,bf J⟩
  have q:aA tD 5 u F s xs:=SliceF.only dC Z f o aag;obtain⟨zi,e1,e2,_⟩:=jI q w;have b:iE xs dft M (n:Int)=if fF x.k then(match M n with
   | some a=>a
   | none=>[(dft[n]?).getD 0])else[(n:Int)]:=by
   unfold iE;rw[aP J,fG w,aW]
   try rfl
  refine⟨zi,e1,x.k,e2.dP 0 _ rfl,(RA u x.k).mono ?_⟩;rintro _ u' ⟨rfl,hu⟩;obtain rfl:u=u':=hu.symm;refine⟨_,rfl,λhh=>?_,λhh=>⟨λhk=>?_,λhk=>?_⟩⟩
  ·have hh:fF x.k=aL:=adg
   rw[hh,aP aag]at b;have M0:=e n (by rw[b];exact .head _);obtain⟨y,v,f1,f2,f3⟩:=ET u (a:=(n:Int)) ⟨J,J⟩;have z5:=f2.size;have F:=MapV.lt S;refine⟨y,v,f1,(Bz (MapV.only S f2 aag) (f3.slice cp) acU (λz hz=>aeU)).mono ?_⟩;rintro _ M ⟨rfl,t,s⟩;exact⟨rfl,am t λk=>by rw[b],(d.cd f2).trans s λx hx=>.inl hx⟩
  ·have hh:fF x.k=aE:=adg
   obtain⟨s,h⟩:=fe.1 hk;rw[hh,aV rfl,h]at b;dsimp only at b;refine(Bz S (d2 s h) J λz hz=>e z (by rw[b];exact hz)).mono ?_;rintro _ t ⟨rfl,n,a⟩;exact⟨rfl,am n λk=>by rw[b],d.trans a λx hx=>.inl hx⟩
  have hh:fF x.k=aE:=adg
  have hl:M n=aaa:=aay
  rw[hh,aV rfl,hl]at b;dsimp only at b;obtain⟨v,s⟩:∃v,dft[n]? =aM v:=⟨_,bf J⟩
  rw[s,iz]at b;have M0:=e v (by rw[b];exact .head _);obtain⟨t,g1,g2⟩:=rR (kI m o) s;refine⟨sd,Blk.dP aC 2 rfl,t,g1,v,g2,?_⟩;obtain⟨y,w5,f1,f2,f3⟩:=ET u (a:=v) ⟨by have:=M0.1;omega,by have:=M0.2;omega⟩;have z5:=f2.size;have bU:=MapV.lt S;refine⟨y,w5,f1,(Bz (MapV.only S f2 aag) (f3.slice cp) acU (λz hz=>aeU)).mono ?_⟩;rintro _ w6 ⟨rfl,h6,F⟩;exact⟨rfl,am h6 λk=>by rw[b],(d.cd f2).trans F λx hx=>.inl hx⟩
 have c:=aU c;have H:j=I tg:=J
 subst H;rw[fp]at S;exact⟨⟨w.heap.size,rfl,aX _,S⟩,o⟩
end
structure WkP (w:av) (b:Nat) (s si sd sr:Sl) (r0 r1:Nat) (F G:aJ) (p:Pl) (M:MO) (S:Nat):Prop where
 blk:Wk w b s si sd sr r0 r1
 pl:PlR w F s si sd sr p
 past:PastV w G r0 M
 set:mF w r1 (rS S)
 n01:r0≠r1
 n0:r0≠b
 n1:r1≠b
 nF:¬F r0/\¬F r1
 nG:¬G r0/\¬G r1
section
variable {w w':av} {b r0 r1 r:Nat} {s si sd sr:Sl} {F G:aJ} {p:Pl} {M:MO} {S S':Nat} {q:Int->Bool} {L:List Int} {d:Int}
def WkP.step(h:WkP w b s si sd sr r0 r1 F G p M S)(a:Q [r1] w w')(c:mF w' r1 (rS S')):WkP w' b s si sd sr r0 r1 F G p M S':=by
 have n:∀{P:aJ},¬P r1->∀k,P k->k<w.heap.size->k∉[r1]:=λd k hk _ m=>by
  simp only[aN]at m;exact d (by rw[<-m];exact hk)
 exact⟨a.blk h.blk (by simpa using λe=>h.n1 e.symm),⟨SliceF.only dC Z h.pl.sp a (n h.nF.2),SliceF.only cp Z h.pl.ini a (n h.nF.2),SliceF.only cp Z h.pl.dft a (n h.nF.2),SliceF.only jE Z h.pl.ro a (n h.nF.2)⟩,h.past.only a (by simpa using h.n01) (n h.nG.2),c,h.n01,h.n0,h.n1,h.nF,h.nG⟩
def WkP.o0(h:WkP w b s si sd sr r0 r1 F G p M S)(a:Q [] w w'):WkP w' b s si sd sr r0 r1 F G p M S:=
 ⟨a.blk h.blk aag,h.pl.o0 a,h.past.o0 a,MapV.only h.set a aag,h.n01,h.n0,h.n1,h.nF,h.nG⟩
def RB(h:WkP w b s si sd sr r0 r1 F G p M S)(hs:mF w r q)(hr:r≠r1)(B:∀k,q k=aE↔k∈L)(A:∀i,i∈L->sY p.sp i)(hd: -1<=d)(o:Fo p.sp)(W:I p.sp<=64):
  az aq 57 #[ae (aM ⟨b,0,aaa⟩),.map (aM r),O U d] w λe w'=>e=ak (ai #[])/\mF w' r1 (rS (ul p.sp d L S))/\Q [r1] w w':=by
 refine ik (asT _ _ _ ?_);obtain⟨w0,Z,a2,H,a4⟩:=MapV.range (P:=aq) (mty:=115) (kt:=3) (et:=4) aae hs;have aS:=MapV.lt h.set;have E:∀{u:av},Q [] w u->Q [r1] w u:=λt=>(Only.refl [r1] w).cd t;refine⟨_,w0,Z,λC u=>∃V:List Int,ItV kN gI u w.heap.size r (mB q) 64 V/\C+I V=64/\mF u r1 (rS (ul p.sp d V.reverse S))/\Q [r1] w u,64,⟨[],a2,rfl,MapV.only h.set H aag,E H⟩,?_⟩;rintro C u ⟨V,N,oX,R,t⟩;have l:∀{k:Int},mB q k≠aaa->q k=aE:=fun{k} hk=>by
  cases e:q k
  ·exact absurd (by dsimp only[mB];rw[e,aP aag]) hk
  rfl
 rcases ItV.next (P:=aq) Mm N 0 with⟨gQ,g⟩ | ⟨k,v,D,m,am,aC,g,Y,j,K⟩
 ·refine .inl ⟨u,g,rfl,R.of λk=>?_,t⟩;have h:∀k,k∈V->k∈L:=λk hk=>by
   obtain⟨s,c,sn,c0,_,_,_,_,_,_,f,_,n⟩:=N.mem;obtain⟨x,hx,b,_⟩:=(n k).1 hk;have:=(f k x.val).2 ⟨x,hx,b,rfl⟩;exact(B k).1 (l (by rw[this];simp))
  have e:ul p.sp d V.reverse S=ul p.sp d L S:=Nat.eq_of_testBit_eq λa=>by
   rw[bL,Bt o W hd _ S (λi c=>A i (h i (Uq.1 c))) a,Bt o W hd L S A a];refine or_congr Iff.rfl (and_congr Iff.rfl (exists_congr λi=>and_congr ⟨λc=>h _ (Uq.1 c),λc=>Uq.2 (gQ _ ?_)⟩ Iff.rfl));dsimp only[mB];rw[aV ((B _).2 c)];rfl
  rw[e]
 have P:q k=aE:=l (by rw[m];simp);have hv:v=aj aE:=by
  dsimp only[mB]at m;rw[aV P]at m;injection m with m;exact m.symm
 subst hv;have L:=A k ((B k).1 P);have bV:=ItV.len Mm j;rw[aY]at bV;have bv:Q [r1] w D:=t.trans K λx hx=>.inr aak;refine .inr ⟨⟨kN k,rfl⟩,⟨aj aE,rfl⟩,D,g,⟨kN k,rfl⟩,⟨aj aE,rfl⟩,D,Y,k,rfl,?_⟩;refine⟨λF b e=>∃T,mF e r1 (rS T)/\b<(F:Int)/\ -1<=b/\b<(I p.sp:Int)/\UA p.sp d F b T=UA p.sp d (I p.sp) k (ul p.sp d V.reverse S)/\ItV kN gI e w.heap.size r (mB q) 64 (k::V)/\Q [r1] w e,I p.sp,⟨_,MapV.only R K aah,L.2,by have:=L.1;omega,L.2,rfl,j,bv⟩,?_⟩;rintro F b e ⟨T,M,i1,i2,i3,aT,G,cQ⟩;refine⟨λc=>?_,λc=>?_⟩
 ·have c:b>d:=aO c;obtain⟨n,rfl⟩:∃n:Nat,b=n:=⟨b.toNat,J⟩
  obtain⟨x,hx⟩:∃x,p.sp[n]? =aM x:=⟨_,bf J⟩
  have S:=h.step cQ M;refine⟨aM r1,Blk.dP S.blk 5 rfl,?_⟩;obtain⟨y,w6,f1,f2,f3⟩:=ET e (a:=(n:Int)) ⟨J,J⟩;have z6:=f2.size;have z2:=cQ.size;have M0:gI (n:Int):=⟨J,J⟩
  refine⟨y,w6,f1,(Bz (MapV.only M f2 aag) (f3.slice cp) acU (λz hz=>aeU)).mono ?_⟩;rintro _ V ⟨rfl,v,fR⟩;have v:mF V r1 (rS (TD T n)):=v.of λk=>by
   rw[I3 M0];congr 1;rw[gv,aN]
  have r:Q [r1] e V:=((Only.refl [r1] e).cd f2).trans fR λx hx=>.inl hx;have o7:Q [r1] w V:=cQ.trans r λx hx=>.inl hx;have q:=h.step o7 v;obtain⟨ad,e1,_,e3,_⟩:=jI q.pl.sp hx;have bY: -1<=x.pa/\x.pa<(n:Int):=by
   by_cases h:n=0
   ·subst h;have:=(o.rt x hx).1;omega
   obtain⟨p,_,a,d,_⟩:=o.par hx J;omega
  refine⟨rfl,s,Blk.dP q.blk 0 rfl,ad,e1,x.pa,e3,F-1,J,TD T n,v,J,J,J,?_,ItV.only G r aah afc,o7⟩;rw[<-aT];obtain⟨f,rfl⟩:∃f,F=f+1:=⟨F-1,J⟩
  conv=>rhs;unfold UA
  rw[aV c,lA hx];rfl
 have c:¬b>d:=aU c;have h:T=UA p.sp d (I p.sp) k (ul p.sp d V.reverse S):=by
  rw[<-aT];cases F with
  | zero=>rfl
  | succ f=>unfold UA;rw[aP c]
 refine⟨C-1,J,k::V,G,by rw[aY];omega,?_,cQ⟩;rw[h]at M;unfold ul at M⊢;rw[List.reverse_cons,jO];exact M
end
def aht{w:av}{F:aJ}{s:Sl}{l:List Int}(h:aA gL 1 w F s l){i:Nat}{x:Int}(a:l[i]? =aM x):tn x:=by
 have c:=(bc.1 a).1;have m:=h.len;obtain⟨ad,y,d,e,g,f,j,k,b⟩:=h.get (ba i) J;rw[aW,a]at g;injection g with g;subst g;exact b.2
def TK{s:List dU}(sd:Sd s)(n:Nat):((jo s n (I s)).filter λx=>!(λy=>fF (kd s y)) x)=nD s n:=by
 unfold nD;refine List.filter_congr λx a=>?_;obtain⟨q,t,rfl,_,h,_⟩:=ER.1 a;have hk:=sd.kn q t h;dsimp only;rw[GV h];unfold fF stK;rw[bL];simp;omega
section
variable {w:av} {b r0 r1:Nat} {s si Jp sr:Sl} {F G:aJ} {p:Pl} {M:MO} {S:Nat}
def RC(h:WkP w b s si Jp sr r0 r1 F G p M S)(sd:Sd p.sp)(hi:I p.ini=I p.sp)(yU:I p.dft=I p.sp)(z:∀(n:Nat) (t:dU),p.sp[n]? =aM t->t.k≠2->nD p.sp n≠[]->∀c,c∈iE p.sp p.dft M ((p.ini[n]?).getD 0)->sY p.sp c):
  az aq 55 #[ae (aM ⟨b,0,aaa⟩)] w λe C=>∃t:Sl,e=ak t.v/\gV w.heap.size C t (vw (AA p.sp (λn=>iE p.sp p.dft M ((p.ini[n]?).getD 0)) (I p.sp) S))/\Q [r1] w C:=by
 refine ik (asR _ ?_);intro d D fZ ez m;have z0:=m.size;have o:=h.o0 m;have H:=MapV.lt h.set;have Fh:=h.blk.lt;have Y:=sd.le;have P:=h.pl.sp.len;have N:=h.pl.sp.cap;have K:=h.pl.sp.big;have B:∀{a u:av},Q [] a u->Q [r1] a u:=λi=>(Only.refl [r1] _).cd i;generalize R:(λn:Nat=>iE p.sp p.dft M ((p.ini[n]?).getD 0))=g at*
 have r:∀j:Nat,g j=iE p.sp p.dft M ((p.ini[j]?).getD 0):=λj=>by rw[<-R]
 refine⟨s,Blk.dP o.blk 0 rfl,λA V q u=>∃j:Nat,V=(j:Int)/\A+j=I p.sp/\j<=I p.sp/\q=aM ⟨b,0,aaa⟩/\mF u r1 (rS (AA p.sp g j S))/\Q [r1] D u,I p.sp,⟨0,rfl,J,be _,rfl,o.set,Only.refl _ _⟩,?_⟩;rintro A _ _ u ⟨j,rfl,oX,hj,rfl,E,i⟩;have W:=o.step i E;have zu:=i.size;refine⟨λl=>?_,λl=>?_⟩
 ·have l:=aO l;have mH:j<I p.sp:=J
  obtain⟨x,n⟩:∃x,p.sp[j]? =aM x:=⟨_,bf mH⟩
  refine⟨λq w=>q=aM ⟨b,0,aaa⟩/\mF w r1 (rS (AA p.sp g (j+1) S))/\Q [r1] D w,?_,?_⟩
  ·rintro _ w ⟨rfl,h,h2⟩;exact⟨A-1,J,j+1,aaf,J,J,rfl,h,h2⟩
  have aC:AA p.sp g (j+1) S=TF p.sp g (AA p.sp g j S) j:=rfl;rw[aC];generalize AA p.sp g j S=T at*
  have Fl:kd p.sp (j:Int)=x.k:=GV n;obtain⟨ad,e1,e2,_⟩:=jI W.pl.sp n;refine⟨ad,e1,_,_,_,_,_,e2,_,rfl,λk4 w3 uw yg dh=>?_⟩;have z3:=dh.size;have am:=W.o0 dh;have o3:=i.cd dh;refine⟨aM r1,Blk.dP am.blk 5 rfl,_,w3,mF.at am.set (j:Int),λ_ _=>rfl,λhb=>?_,λhb=>?_⟩
  ·have hb:T.testBit j=aL:=by rw[EU]at hb;simpa using hb
   refine⟨rfl,?_,o3⟩;unfold TF;rw[hb,aP aag];exact am.set
  have hb:T.testBit j=aE:=by rw[EU]at hb;simpa using hb
  refine⟨_,rfl,s,Blk.dP am.blk 0 rfl,(agP am.pl.sp sd.fo n J).mono ?_⟩;rintro _ w5 ⟨⟨t,rfl,ht⟩,eh⟩;have z5:=eh.size;refine⟨t,rfl,eh.same aah,λaS ii=>?_⟩;have bv:=am.o0 eh;have ma:∀{q:Nat},t.a=aM ⟨q,0,aaa⟩->w3.heap.size<=q:=λe=>(ht.blk e).1;have nk:∀q,q<w3.heap.size->¬(t.a=aM ⟨q,0,aaa⟩):=λq hq e=>by have:=ma e;omega
  have Fj:I (jo p.sp j (I p.sp))<=2000000:=by
   have:I (jo p.sp j (I p.sp))<=I p.sp:=by
    unfold jo;rw[bK];exact bD (kZ _ _) (Cz zn)
   omega
  have aT:=SliceF.inHeap dC am.pl.sp Z;refine(ab6 (f:=⟨.func (.func 84) #[] #[ae (aM ⟨d,0,aaa⟩)],rfl⟩) ht Fj ⟨jR aae,λy hy v S=>?_⟩ (p:=λy=>fF (kd p.sp y)) (cap:=[ae (aM ⟨d,0,aaa⟩)]) rfl).mono ?_
  ·obtain⟨T,t,rfl,_,M,_⟩:=ER.1 hy;have e:=S.blk aS (nk d J);have h:=S.blk bv.blk (nk b J);have f:aA tD 5 v (λk=>F k/\k<w3.heap.size) s p.sp:=(SliceF.only dC Z aT eh aag).keep dC Z λk hk a=>S.block k a (nk k hk.2);refine ik (as3 _ _ ?_);obtain⟨L,q,x,_⟩:=jI f M;refine⟨aM ⟨b,0,aaa⟩,e.cells 0 _ aag,⟨b,0,aaa⟩,rfl,s,Blk.dP h 0 rfl,L,q,t.k,x.dP 0 _ rfl,(RA v t.k).mono ?_⟩;rintro _ G ⟨rfl,y⟩;obtain rfl:v=G:=y.symm;exact⟨_,rfl,by rw[GV M],Only.refl _ _⟩
  rintro _ w6 ⟨t2,rfl,_,_,ce,dK⟩;rw[TK sd j]at ce;have cc:Q [] w3 w6:=(eh.qz (dK.mono (G:=λq=>w3.heap.size<=q) λq _ e=>ma e)).only λq hq=>hq;have z6:=cc.size;have s:=am.o0 cc;have o6:=o3.cd cc;have F:aF w6 d 111 [ae (aM ⟨b,0,aaa⟩)]:=dK.blk aS (nk d J);have dO:=dK.size;have bY:=ce.slice cp;have co:=bY.len;have bV:∀y,y∈nD p.sp j->gI y:=λy hy=>by
   obtain⟨a,t,rfl,M,_⟩:=Az.1 hy;have:=(bc.1 M).1;exact⟨J,J⟩
  have cC:¬(False∨w3.heap.size<=r1/\t2.a=aM ⟨r1,0,aaa⟩):=acU
  refine⟨t2,rfl,λq hq=>?_,aM ⟨b,0,aaa⟩,F,λh2=>?_,λh2=>?_⟩
  ·simp only[aN]at hq;subst hq;exact dK.block _ J (nk _ J)
  ·have h2:x.k=2:=adh
   refine⟨⟨b,0,aaa⟩,rfl,aM r1,Blk.dP s.blk 5 rfl,(Bz s.set bY cC bV).mono ?_⟩;rintro _ a ⟨rfl,h,f⟩;refine⟨rfl,f.same aah,aM ⟨b,0,aaa⟩,f.blk F aah,rfl,?_,o6.trans f λx n=>.inl n⟩;unfold TF;rw[hb,aV rfl,Fl,aV h2];exact h.of λk=>by rw[GZ _ bV]
  have h2:x.k≠2:=adh
  have G:TF p.sp g T j=if nD p.sp j≠[]/\((nD p.sp j).all λel=>!T.testBit el.toNat)=aE then ul p.sp j (g j) T else T:=by
   unfold TF;rw[hb,aV rfl,Fl,aP h2]
  refine⟨λbb q u8=>q=aM ⟨b,0,aaa⟩/\Q [] w6 u8/\(bb=aE↔nD p.sp j≠[]/\((nD p.sp j).all λel=>!T.testBit el.toNat)=aE),?_,?_⟩
  ·rintro bb _ u8 ⟨rfl,f,h⟩;have z8:=f.size;have T:=o6.cd f;refine⟨λht=>λw9 e Ud=>?_,λq=>⟨rfl,?_,T⟩⟩
   ·have ht:=h.1 ht;rw[aV ht]at G;have z9:=e.size;have o9:=T.cd e;have eQ:=(s.o0 f).o0 e;obtain⟨v,hv⟩:∃v,p.ini[j]? =aM v:=⟨_,bf J⟩
    obtain⟨zi,g1,g2⟩:=rR eQ.pl.ini hv;have gE:=aht eQ.pl.ini hv;obtain⟨y,dz,f1,f2,f3⟩:=ET w9 (a:=v) gE;have JG:=f2.size;have ZS:=eQ.o0 f2;have fd:g j=iE p.sp p.dft M v:=by rw[r,hv];rfl
    have zd:∀c,c∈iE p.sp p.dft M v->sY p.sp c:=λc hg=>z j x n h2 ht.1 c (by rw[hv];exact hg);refine⟨λk=>k=d,rfl,rfl,⟨b,0,aaa⟩,rfl,si,Blk.dP eQ.blk 1 rfl,zi,g1,v,g2,y,dz,f1,f2.same aah,bT.only f2,(Mn ZS.blk ZS.pl.sp ZS.pl.dft ZS.past (f3.slice cp) yU (λt ht c hg=>?_)).mono ?_⟩
    ·rw[aN]at ht;subst ht;have:=zd c hg;exact⟨this.1,by have:=this.2;omega⟩
    rintro _ dF ⟨⟨el,rfl,hr,v⟩,a⟩;have C3:=a.size;have y:=ZS.o0 a;have p:=a.blk (f2.blk Ud aag) aag;refine⟨aM el,rfl,a.same aah,aM ⟨b,0,aaa⟩,p,bT.only a,(RB y v (L:=g j) J (λk=>by rw[fd];simp) (λc hg=>zd c (by rw[<-fd];exact hg)) J sd.fo Y).mono ?_⟩;rintro _ eZ ⟨rfl,M,t⟩;refine⟨rfl,t.same aah,aM ⟨b,0,aaa⟩,t.blk p aah,λk hk bU=>t.block k bU (by rw[hk];simp;omega),rfl,by rw[G];exact M,((o9.cd f2).cd a).trans t λx n=>.inl n⟩
   rw[aP λa=>by rw[h.2 a]at q;cases q]at G;rw[G];exact MapV.only s.set f aag
  refine⟨λa=>?_,λa=>⟨rfl,Only.refl _ _,⟨λh=>aal,λ⟨h,_⟩=>?_⟩⟩⟩
  ·have a:=aO a;refine(aut (f:=⟨.func (.func 87) #[] #[ae (aM ⟨d,0,aaa⟩)],rfl⟩) bY (by have:=X7 p.sp j;omega) ⟨jR aae,λy hy v S=>?_⟩ (p:=λy=>rS T y) (cap:=[ae (aM ⟨d,0,aaa⟩)]) rfl).mono ?_
   ·have S:Q [] w6 v:=S.only λ_ h=>h.elim;have e:=S.blk F aag;have cW:=s.o0 S;refine ik (as5 _ _ ?_);exact⟨aM ⟨b,0,aaa⟩,e.cells 0 _ aag,⟨b,0,aaa⟩,rfl,aM r1,Blk.dP cW.blk 5 rfl,_,v,mF.at cW.set y,rfl,Only.refl _ _⟩
   rintro _ k ⟨rfl,f⟩;refine⟨_,rfl,f.same aah,aM ⟨b,0,aaa⟩,f.blk F aag,rfl,f,?_⟩;have e:((nD p.sp j).any λy=>rS T y)=!((nD p.sp j).all λel=>!T.testBit el.toNat):=by
    rw[List.all_eq_not_any_not,O4];simp only[O4];rw[bL,fO,fO];refine exists_congr λy=>and_congr_right λhy=>?_;have:=(bV y hy).1;unfold rS;rw[bF this,cr]
   rw[e,O4];constructor
   ·exact λh=>⟨λe=>by rw[e]at co;simp at co;omega,h⟩
   exact λh=>h.2
  have a:=aU a;have:I (nD p.sp j)=0:=J
  exact absurd (bH this) h
 have l:=aU l;have b:j=I p.sp:=J
 subst b;refine⟨_,rfl,aM r1,Blk.dP W.blk 5 rfl,(ahs W.set (Ou (AA p.sp g (I p.sp) S)) λa=>?_).mono ?_⟩
 ·rw[TE];constructor
  ·rintro⟨k,rfl,_,h⟩;rw[EU];exact h
  intro h;have e:=W.set.ok h;unfold rS at h;rw[aR,cX]at h;exact⟨a.toNat,J,by have:=e.2;omega,h.2⟩
 rintro _ w ⟨t,rfl,h,e⟩;refine⟨t,rfl,e.same aah,t,rfl,h.low J,?_⟩;exact((B m).trans i λx a=>.inl a).cd e
end
def BA(p:Pl)(M:MO)(S:Nat)(k:Int):Nat:=if k<0 then S else match p.ro[k.toNat]? with
 | some r=>if r.dom<0 then S else ul p.sp r.dom (r.tg.flatMap (iE p.sp p.dft M)) S
 | none=>S
abbrev Ys(p:Pl)(M:MO)(n:Nat):List Int:=iE p.sp p.dft M ((p.ini[n]?).getD 0)
structure Gdp (p:Pl) (M:MO):Prop where
 sd:Sd p.sp
 i:I p.ini=I p.sp
 d:I p.dft=I p.sp
 gl:∀(n:Nat) (t:dU),p.sp[n]? =aM t->t.k≠2->nD p.sp n≠[]->∀g,g∈Ys p M n->sY p.sp g
 ro:∀r,r∈p.ro->∀t,t∈r.tg->∀g,g∈iE p.sp p.dft M t->sY p.sp g
def PlR.auy{w:av}{F:aJ}{s i sd sr:Sl}{p:Pl}(h:PlR w F s i sd sr p):PlR w (λk=>F k/\k<w.heap.size) s i sd sr p:=
 ⟨SliceF.inHeap dC h.sp Z,SliceF.inHeap cp h.ini Z,SliceF.inHeap cp h.dft Z,SliceF.inHeap jE h.ro Z⟩
def ab8{l:List Int}{f:Int->List Int}{k:Int}:(l.any λt=>decide (k∈f t))=aE↔k∈l.flatMap f:=by
 rw[fO,Un];simp only[bG]
section
variable {w w1 w0:av} {b r0 r1:Nat} {s si Jp sr sp sk:Sl} {F G H:aJ} {p:Pl} {L:List (Int×List Int)} {ks:List Int}
def aeK(d:PlR w0 F s si Jp sr p)(g:w0.heap.size<=b)(e:w0.heap.size<=r0)(a:r0<r1)(f:r1<b)(B:Wk w1 b s si Jp sr r0 r1)(P:PastV w1 (λk=>G k/\k<w0.heap.size) r0 (um L))(S:mF w1 r1 λ_=>aL)(c:Q [] w0 w1):WkP w1 b s si Jp sr r0 r1 (λk=>F k/\k<w0.heap.size) (λk=>G k/\k<w0.heap.size) p (um L) 0:=
 ⟨B,d.auy.o0 c,P,S.of λk=>by simp[rS],J,J,J,⟨aeT,aeT⟩,⟨aeT,aeT⟩⟩
def Yt(z:PlR w F s si Jp sr p)(D:Gdp p (um L))(y:aA rPa 2 w G sp L)(h:∀x,x∈L->gI x.1)(R:aA gL 1 w H sk ks):
  az aq 32 #[ah #[s.v,si.v,Jp.v,sr.v],sp.v,sk.v] w λe l=>(∃t:Sl,e=ak t.v/\gV w.heap.size l t (vw (AA p.sp (Ys p (um L)) (I p.sp) (ks.foldl (BA p (um L)) 0))))/\Q [] w l:=by
 refine ik (asK _ _ _ _ _ _ ?_);intro k0 w0 f N q;have z0:=q.size;refine(Rz w0 s si Jp sr (SliceF.only I2 Z y q aag) h).mono ?_;rintro _ w1 ⟨⟨b,r0,r1,rfl,C,oV,m,g,r,B,P,S⟩,d⟩;have z1:=d.size;have i:=aeK (z.o0 q) C m g r B P S d;have K:=q.cd d;have Y:=R.len;have c:=R.cap;have M:=R.big;refine⟨_,rfl,d.same aah,λv E u=>∃j:Nat,E=(j:Int)/\v+j=I ks/\j<=I ks/\mF u r1 (rS ((ks.take j).foldl (BA p (um L)) 0))/\Q [r1] w1 u,I ks,⟨0,rfl,J,be _,i.set,Only.refl _ _⟩,?_⟩;rintro v _ u ⟨j,rfl,oX,V,A,a⟩;have W:=i.step a A;have zu:=a.size;have o:Q [] w u:=K.trans a λx hx=>.inr aak;refine⟨λc=>?_,λc=>?_⟩
 ·have c:=aO c;have H:j<I ks:=J
  obtain⟨k,hk⟩:∃k,ks[j]? =aM k:=⟨_,bf H⟩
  refine⟨λb=>mF b r1 (rS ((ks.take (j+1)).foldl (BA p (um L)) 0))/\Q [r1] w1 b,?_,?_⟩
  ·rintro b ⟨e,k⟩;exact⟨v-1,J,j+1,aaf,J,J,e,k⟩
  have nX:(ks.take (j+1)).foldl (BA p (um L)) 0=BA p (um L) ((ks.take j).foldl (BA p (um L)) 0) k:=by
   rw[bh,hk,jO];rfl
  rw[nX];generalize (ks.take j).foldl (BA p (um L)) 0=T at*
  obtain⟨ad,a1,a2⟩:=rR (kI R o) hk;refine⟨ad,a1,_,a2,(Yn W.blk W.pl.ro k).mono ?_⟩;rintro _ w4 ⟨⟨x1,x2,x3,ev,wt,tg,am,is,rfl,aC,aS⟩,s⟩;have z4:=s.size;refine⟨x1,x2,x3,ev,wt,tg,am,is,rfl,s.same aah,λw k4 w5 uw yg F=>?_,λhf k5 w8 rl BI ft=>⟨?_,(a.cd s).cd ft⟩⟩
  ·obtain⟨n,bv,rfl,G,hd,rfl,nL⟩:=aC w;have z5:=F.size;have aT:=(W.o0 s).o0 F;have zd:=D.ro bv (bn G);have uD:=D.sd.le;refine⟨λk=>k=k4,rfl,(Mn aT.blk aT.pl.sp aT.pl.dft aT.past (kI nL F) D.d λt w bV h=>?_).mono ?_⟩
   ·have:=zd t w bV h;exact⟨this.1,by have:=this.2;omega⟩
   rintro _ w6 ⟨⟨r',rfl,ce,cc⟩,dK⟩;have z6:=dK.size;have bY:=aT.o0 dK;have co:=MapV.lt aT.set;refine⟨aM r',rfl,dK.same aah,bT.only dK,(RB bY cc (L:=bv.tg.flatMap (iE p.sp p.dft (um L))) J (λk=>ab8) (λbV h=>?_) J D.sd.fo uD).mono ?_⟩
   ·obtain⟨t,w,h⟩:=Un.1 h;exact zd t w bV h
   rintro _ w7 ⟨rfl,h7,t⟩;have e:BA p (um L) T (n:Int)=ul p.sp bv.dom (bv.tg.flatMap (iE p.sp p.dft (um L))) T:=by
    unfold BA;rw[aP J,aW,G];dsimp only;rw[aP J]
   refine⟨rfl,t.same aah,λk hk bU=>t.block k bU (by rw[hk];simp;omega),by rw[e];exact h7,(((a.cd s).cd F).cd dK).trans t λx hx=>.inl hx⟩
  have e:BA p (um L) T k=T:=by
   unfold BA;by_cases f:k<0
   ·rw[aV f]
   rw[aP f];obtain⟨n,rfl⟩:∃n:Nat,k=n:=⟨k.toNat,J⟩
   rw[aW];rcases G:p.ro[n]? with _|e
   ·rfl
   dsimp only;rw[aV (aS hf n e rfl G)]
  rw[e];exact MapV.only (MapV.only W.set s aag) ft aag
 have c:=aU c;have H:j=I ks:=J
 subst H;rw[fp]at W;refine(RC W D.sd D.i D.d D.gl).mono ?_;rintro _ w ⟨t,rfl,e,b⟩;exact⟨t,rfl,b.same aah,⟨t,rfl,e.low J⟩,o.trans b λx hx=>.inr aak⟩
def Yu(j:PlR w F s si Jp sr p)(D:Gdp p λ_=>aaa):
  az aq 31 #[ah #[s.v,si.v,Jp.v,sr.v]] w λe f=>(∃t:Sl,e=ak t.v/\gV w.heap.size f t (vw (AA p.sp (Ys p λ_=>aaa) (I p.sp) 1)))/\Q [] w f:=by
 refine ik (asJ _ _ _ _ ?_);intro C w0 r n q;have E:=q.size;refine(Rz w0 s si Jp sr (L:=[]) (SliceF.nil rPa 2 w0 (λ_=>False)) aag).mono ?_;rintro _ w1 ⟨⟨b,r0,r1,rfl,l,V,g,d,i,B,P,S⟩,c⟩;have G:=c.size;have W:=aeK (j.o0 q) l g d i B P S c;have o:=q.cd c;have v:=W.pl.sp.len;have A:=D.sd.fo.ne;refine⟨_,rfl,c.same aah,λu=>mF u r1 (rS 1)/\Q [r1] w1 u,?_,λ_=>⟨_,rfl,aM r1,Blk.dP W.blk 5 rfl,?_⟩,λm=>absurd (aU m) J⟩
 ·rintro u ⟨b,h⟩;have e:=W.step h b;have z:=h.size;refine(RC e D.sd D.i D.d D.gl).mono ?_;rintro _ w ⟨t,rfl,k,a⟩;exact⟨t,rfl,a.same aah,⟨t,rfl,k.low J⟩,(o.trans h λx hx=>.inr aak).trans a λx hx=>.inr aak⟩
 obtain⟨y,w,f1,f2,f3⟩:=ET w1 (a:=0) ⟨J,J⟩;have F:=f2.size;have s:=MapV.lt W.set;refine⟨y,w,f1,f2.same aah,(Bz (MapV.only W.set f2 aag) (f3.slice cp) acU (λz b=>by rw[aN]at b;rw[b];exact⟨J,J⟩)).mono ?_⟩;rintro _ t ⟨rfl,p,e⟩;refine⟨rfl,e.same aah,p.of λk=>?_,((Only.refl [r1] w1).cd f2).trans e λx hx=>.inl hx⟩;have:(1:Nat)=TD 0 0:=Z
 rw[this,I3 ⟨J,J⟩];congr 1;rw[gv,aN]
end
section
variable {c:Ch} {M:MO} (N:Snd c (ff c) (Jw c)) (hM:GX (ff c) M)
include N hM
theorem aok:∀(n:Nat) (t:dU),(ff c)[n]? =aM t->t.k=1->nD (ff c) n≠[]->Gd (ff c) n (λg=>(g:Int)∈Ys (kP c) M n)/\∀g,g∈Ys (kP c) M n->sY (ff c) g:=λn t a d r=>by
 have h:n<I (AR c.root):=by rw[vu,<-N.len];exact ir a
 obtain⟨b,h⟩:∃b,(AR c.root)[n]? =aM b:=⟨_,bf h⟩
 have:Ys (kP c) M n=iE (ff c) ((AR c.root).map λb=>mE (ff c) b.dft) M (mE (ff c) b.ini):=by
  unfold Ys;have e:(kP c).ini[n]? =aM (mE (ff c) b.ini):=by
   show((AR c.root).map λb=>mE (ff c) b.ini)[n]? =_;rw[cF,h];rfl
  rw[e];rfl
 rw[this];exact N.ahB hM rfl a h d r
theorem ahu:Gdp (kP c) M where
 sd:=N.sd
 i:=by
  show((AR c.root).map _).length=I (ff c);rw[bK,vu,<-N.len]
 d:=by
  show((AR c.root).map _).length=I (ff c);rw[bK,vu,<-N.len]
 gl n t h h2 hr:=by
  obtain⟨q,b⟩:=gW _ hr;obtain⟨m,d,rfl,u,p,_⟩:=Az.1 b;obtain⟨e,a,hk⟩:=N.hk n m ⟨d,u,p⟩;have h:(ff c)[n]? =aM t:=h;rw[h,bJ]at a;subst a;exact(aok N hM n t h (hk.resolve_right h2) hr).2
 ro r hr t h g hg:=by
  rcases N.YI hM rfl hr with⟨a,_⟩ | ⟨_,_,_,_,_,_,_,_,_,_,a⟩
  ·rw[a]at h;cases h
  exact a t h g hg
end
def sA:aH:=[99,104,97,114,116,32,99,32,123,32,105,110,105,116,105,97,108,32,97,59,32,115,116,97,116,101,32,97,32,123,32,111,110,32,120,32,45,62,32,100,59,32,111,110,32,121,32,45,62,32,104,59,32,125,32,112,97,114,97,108,108,101,108,32,112,32,123,32,115,116,97,116,101,32,113,32,123,32,105,110,105,116,105,97,108,32,98,59,32,115,116,97,116,101,32,98,32,123,32,125,32,115,116,97,116,101,32,100,32,123,32,125,32,125,32,115,116,97,116,101,32,114,32,123,32,125,32,104,105,115,116,111,114,121,32,104,32,45,62,32,113,59,32,125,32,125]
def ahv(p:Pl):List Int:=vw (AA p.sp (Ys p λ_=>aaa) (I p.sp) ([0].foldl (BA p λ_=>aaa) 0))
def aol(p:Pl):List Int:=vw (AA p.sp (Ys p λ_=>aaa) (I p.sp) 1)
def aeL:Bool:=decide ((tA sA).1=0)&&agS sA&&decide ((kP (eP sA).1).ro.length=2)&&decide (((kP (eP sA).1).ro[0]?).map (λr:Ro=>r.dom)=aM 0)&&decide (I (aol (kP (eP sA).1))=2)&&decide (I (ahv (kP (eP sA).1))=4)&&decide ((ahv (kP (eP sA).1))[2]? =aM 5)
def ab9:aeL=aE:=aae
def Ow(w:av)(E:Er w)(T:Tb w):az aq 11 #[] w λe w'=>e=ak (aj aE)/\Q [] w w':=by
 refine ret (asE ?_);have v:=ab9;unfold aeL at v;simp only[aR,bG]at v;obtain⟨⟨⟨⟨⟨⟨h,b⟩,Y⟩,p⟩,h5⟩,h6⟩,h7⟩:=v;have b:=agU b;have hc:Ez sA=(eP sA).1:=by unfold Ez;rw[aV h]
 have u:(ke (eP sA).1).1=0:=by
  unfold tA at h;split at h
  ·exact h
  rename_i a;exact absurd h a
 refine(abE sA b.1 b.2 E T).mono ?_;rintro _ w0 ⟨F,cs,rfl,C,B⟩;rw[hc]at C;obtain⟨xe,xl,xm,xk,rfl,_⟩:=C.root;have z0:=B.size;refine⟨F,_,_,_,_,xe,xl,xm,xk,_,_,_,rfl,λk0 k1 w1 fZ ez mc jM D=>?_⟩;have z1:=D.size;have z:=B.cd D;have q:ChR aE 15 w1 (Fr w.heap.size) (eP sA).1 F _:=⟨C.vars.keep dY Z λk _ l=>D.block k l aag,(cf aE 15).keep C.root λk _ l=>D.block k l aag⟩
 refine(aho (D:=14) q.off b.1 b.2 (E.only z) (T.only z)).mono ?_;rintro _ w2 ⟨⟨s,si,H,sr,rfl,hP⟩,m⟩;have z2:=m.size;have o2:=z.cd m;refine⟨s,si,H,sr,_,_,rfl,m.same aah,λk2 k3 w3 qG oL yZ ur n=>?_⟩;have z3:=n.size;have o3:=o2.cd n;have P:=(hP u).o0 n;have N:=ahn u;have g:=ahu N (GX.none _);refine(Yu P g).mono ?_;rintro _ w4 ⟨⟨t9,rfl,t⟩,f⟩;have z4:=f.size;obtain⟨y,G,f1,f2,f3⟩:=ET w4 (a:=0) ⟨J,J⟩;have z5:=f2.size;have c:=(P.o0 f).o0 f2;refine⟨t9,rfl,f.same aah,y,G,f1,f2.same aah,(Yt (L:=[]) c g (SliceF.nil rPa 2 G (λ_=>False)) aag (f3.slice cp)).mono ?_⟩;rintro _ w6 ⟨⟨A,rfl,j⟩,K⟩;have d:=c.o0 K;have o:vw (AA (kP (eP sA).1).sp (Ys (kP (eP sA).1) (um [])) (kP (eP sA).1).sp.length ([0].foldl (BA (kP (eP sA).1) (um [])) 0))=ahv (kP (eP sA).1):=rfl;have W:vw (AA (kP (eP sA).1).sp (Ys (kP (eP sA).1) λ_=>aaa) (kP (eP sA).1).sp.length 1)=aol (kP (eP sA).1):=rfl;rw[o]at j;rw[W]at t;have x:=j.len;have n9:=t.len;have nr:=d.ro.len;obtain⟨r0,r⟩:∃am,(kP (eP sA).1).ro[0]? =aM am:=⟨_,bf J⟩
 rw[r]at p;simp only[gn,bJ]at p;obtain⟨ad,tg,M,R,_⟩:=Ml d.ro r;obtain⟨zi,S,V⟩:=rR (j.slice cp) (i:=2) h7;refine⟨A,rfl,K.same aah,ad,λ_=>M,r0.dom,λ_=>R.dP 6 _ rfl,zi,λ_=>S,5,λ_=>V,?_,((o3.cd f).cd f2).cd K⟩;rw[h,u,p,nr,Y,n9,h5,x,h6];rfl
def Yv{c:Ch}(h:G8 c):oJ c=ke c:=by unfold oJ ke;rw[Tl h]
def plQ(c:Ch):Pl:=if(ke c).1=0 then kP c else⟨[],[],[],[]⟩
def aca(c:Ch):(plQ c).sp.length<=64:=by
 unfold plQ;split
 ·rename_i h;have:=xx (rQ h).1;show(ff c).length<=64;unfold ff;rw[lX];exact this
 exact be _
def PlR.nil w F:PlR w F Sl.nil Sl.nil Sl.nil Sl.nil ⟨[],[],[],[]⟩:=⟨SliceF.nil _ _ _ _,SliceF.nil _ _ _ _,SliceF.nil _ _ _ _,SliceF.nil _ _ _ _⟩
def PlR.kU{w b:av}{F G:aJ}{s i sd sr:Sl}{p:Pl}(h:PlR w F s i sd sr p)(a:aD G w b)(hk:∀k,F k->k<w.heap.size->¬G k):PlR b F s i sd sr p:=
 ⟨SliceF.kU dC Z h.sp a hk,SliceF.kU cp Z h.ini a hk,SliceF.kU cp Z h.dft a hk,SliceF.kU jE Z h.ro a hk⟩
def ahw{w:av}{F:aJ}{sr:Sl}{r:List Ro}(h:aA rRo 7 w F sr r){i:Nat}(j:i<I r):∃ad t,cR sr (i:Int) 7 ad/\aB w (ad.add 5) [t.v]/\B1 w F 3 1 t/\t.n<=t.c/\t.c<=9223372036854775807:=by
 have l:=h.len;obtain⟨ad,y,s,a,d,e,f,b,t,rfl,g,c⟩:=h.get (ba i) J;exact⟨ad,t,a,b.dP 5 _ rfl,c,g.cap,g.big⟩
def Ox{w:av}{b t a:Nat}{c d:aI}(h:aF w b t c)(k:aF w b a d):t=a/\c=d:=by
 unfold aF at h k;rw[h]at k;injection k with k;injection k with e f;exact⟨f,by simpa using bN Array.toList e⟩
def TL{c v:aI}{o i:Nat}(h:o+I v<=I c)(a:o+I v<=i):(fE c o v)[i]? =c[i]? :=by
 unfold fE;rw[cj aah,gH];congr 1;simp;omega
def Oy{c v:aI}{o:Nat}(h:o+I v<=I c):I (fE c o v)=I c:=by
 unfold fE;simp;omega
def Kp(w u:av):Prop:=∀g t c,aF w g t c->∃d,aF u g t d/\I d=I c
def Kp.st{w u v:av}(f:Kp w u){b i t:Nat}{z s:aI}(B:aF u b t z)(l:i+I s<=I z)(j:Q [b] u v)(E:aF v b t (fE z i s)):Kp w v:=by
 intro g m c k;obtain⟨d,h,a⟩:=f g m c k;by_cases e:g=b
 ·subst e;obtain⟨rfl,rfl⟩:=Ox h B;exact⟨_,E,by rw[Oy l];exact a⟩
 exact⟨d,j.blk h (by simpa using e),a⟩
def B1.kp{w u:av}{F:aJ}{t i:Nat}{s:Sl}(h:B1 w F t i s)(k:Kp w u):B1 u F t i s:=by
 rcases h with h | ⟨g,c,a,b,e,d⟩
 ·exact .inl h
 obtain⟨s,f,j⟩:=k g t c b;exact .inr ⟨g,s,a,f,J,d⟩
def vA.kp{w u:av}{s:Sl}(h:vA w s)(k:Kp w u):vA u s:=by
 refine⟨h.1,?_⟩;rcases h.2 with h | ⟨g,t,y,a,b,c⟩
 ·exact .inl h
 obtain⟨d,e,f⟩:=k g t y b;exact .inr ⟨g,t,d,a,e,J⟩
def B1.st{u:av}{F:aJ}{t i:Nat}{s:Sl}(d:B1 u F t i s){a:Nat}(m:a<s.n){c:aI}(q:I c=i){K:Nat->av->Prop}
  (l:∀g v,F g->g<u.heap.size->(∀w,Kp w u->Kp w v)->Q [g] u v->(∃z,s.a=aM ⟨g,0,aaa⟩/\aF u g t z/\a*i+i<=I z/\aF v g t (fE z (a*i) c))->K g v):
  ∃p,cR s (a:Int) i p/\∃b o z j,p=⟨b,o,aaa⟩/\aF u b j z/\o+i<=I z/\F b/\∀v,Q [b] u v->aF v b j (fE z o c)->K b v:=by
 rcases d with d | ⟨g,z,e,h,n,f⟩
 ·omega
 have p:a*i+i<=I z:=by
  have:=fu i (show a+1<=s.n from m);rw[Nat.succ_mul]at this;omega
 refine⟨⟨g,a*i,aaa⟩,⟨_,e,J,J,by rw[gC,aW,bP]⟩,g,_,z,t,rfl,h,p,f,λv b B=>l g v f h.lt (λw k=>k.st h J b B) b ⟨z,e,h,p,B⟩⟩
def Rst(w u:av)(s:Sl)(j:Nat):Prop:=∀g z,s.a=aM ⟨g,0,aaa⟩->aF w g 57 z->∃a,aF u g 57 a/\∀m,7*j<=m->a[m]? =z[m]?
def Rst.at{w u:av}{s:Sl}{j:Nat}(d:Rst w u s j){F:aJ}(R:B1 w F 57 7 s){ad:Addr}{v:aw}(f:cR s (j:Int) 7 ad)(c:aB w (ad.add 5) [v]):aB u (ad.add 5) [v]:=by
 obtain⟨b,h,_,l,rfl⟩:=f;rcases R with i | ⟨g,z,k,a,_⟩
 ·omega
 rw[k]at h;injection h with h;subst h;obtain⟨q,o,p⟩:=d g z k a;rw[gC,gC,aW]at c⊢;have e:=c.one;rw[a.cell,<-p _ J]at e;exact o.cells _ _ λn x m=>by
  cases n with
  | zero=>simp at m;subst m;exact e
  | succ n=>simp at m
def pathslays_c{w:av}{x:Ch×Nat}{a:aI}(l:rChU w (λ_=>True) x a)(i:x.2<=1048576)(E:Er w)(T:Tb w):az aq 4 #[ah a.toArray] w λe f=>e=ak (aj aE)/\Q [] w f:=by
 obtain⟨c,m⟩:=x;obtain⟨D,d,a,rfl,C,b,j⟩:=l;dsimp only at C b j i;have g:=C;cases D with
 | zero=>exact C.root.elim
 | succ D=>
 obtain⟨en,lv,mv,kids,rfl,_⟩:=g.root;refine ret (asD _ _ _ _ _ _ _ _ _ _ ?_);have keep:∀{f:av},Q [] w f->ChR aL (D+1) f (λ_=>True) c d (ob c.root.b.k c.root.b.nm c.root.b.ini c.root.b.dft en lv mv kids c.root.b.a):=λB=>⟨C.vars.keep dY Z λk _ P=>B.block k P aag,(cf aL _).keep C.root λk _ P=>B.block k P aag⟩
 intro k0 w0 fZ ez cq;have z0:=cq.size;refine(Ow w0 (E.only cq) (T.only cq)).mono ?_;rintro _ w1 ⟨rfl,cD⟩;have z1:=cD.size;have o1:=cq.cd cD;refine⟨_,rfl,cD.same aah,(Tx (keep o1) J).mono ?_⟩;rintro _ w2 ⟨⟨Y6,ds,rfl,aC⟩,cQ⟩;have z2:=cQ.size;have o2:=o1.cd cQ;have am:=aC;obtain⟨ri,rj,oM,gD,rfl,_⟩:=aC.root;refine⟨Y6,_,_,_,_,ri,rj,oM,gD,_,rfl,cQ.same aah,λk1 w3 mc jM dh=>?_⟩;have z3:=dh.size;have o3:=o2.cd dh;refine(I0 (keep o3) b J (E.only o3) (T.only o3)).mono ?_;rintro _ L ⟨⟨s5,s6,s7,Y,rfl,hp,bY⟩,dI⟩;have z4:=dI.size;have o4:=o3.cd dI;refine⟨s5,s6,s7,Y,_,_,rfl,dI.same aah,λk2 k3 w5 qG oL yZ ur eh=>?_⟩;have z5:=eh.size;have o5:=o4.cd eh;refine(I0 (keep o5) b J (E.only o5) (T.only o5)).mono ?_;rintro _ w6 ⟨⟨s9,E1,Cu,G6,rfl,hq,cc⟩,dK⟩;have z6:=dK.size;have o6:=o5.cd dK;refine⟨s9,E1,Cu,G6,_,_,rfl,dK.same aah,λk4 k5 w7 uw yg rl BI fR=>?_⟩;have z7:=fR.size;have o7:=o6.cd fR;refine(ahq (keep o7) b J).mono ?_;rintro _ w8 ⟨⟨JE,JF,FM,RR,rfl,hr⟩,ft⟩;have z8:=ft.size;have o8:=o7.cd ft;rw[Yv b]at hr⊢;refine⟨JE,JF,FM,RR,_,_,rfl,ft.same aah,λk6 k7 w9 Y1 O0 eQ Zw S=>?_⟩;have z9:=S.size;have o9:=o8.cd S;have oc:Q [] w2 w9:=(((((dh.cd dI).cd eh).cd dK).cd fR).cd ft).cd S;have bV:ChR aL (D+1) w9 (λ_=>True) c Y6 (ob c.root.b.k c.root.b.nm c.root.b.ini c.root.b.dft ri rj oM gD c.root.b.a):=⟨am.vars.keep dY Z λk _ P=>oc.block k P aag,(cf aL _).keep am.root λk _ P=>oc.block k P aag⟩
 refine(Wm (keep o9) bV (ChE.refl aE (D+1) c)).mono ?_;rintro _ dz ⟨rfl,R⟩;have JG:=R.size;have co:=o9.cd R;let B3:aJ:=λk=>w3.heap.size<=k
 have nn:∀{v:av},B1 v B3 59 5 Sl.nil/\B1 v B3 57 7 Sl.nil/\vA v Sl.nil:=fun{v}=>⟨.inl rfl,.inl rfl,Yo v⟩
 obtain⟨h5,h9,uI,t5,t8,r6,r7,M,ap⟩:PlR L (λk=>w3.heap.size<=k) s5 s6 s7 Y (plQ c)/\PlR w6 (λk=>w5.heap.size<=k) s9 E1 Cu G6 (plQ c)/\PlR w8 (λk=>w7.heap.size<=k) JE JF FM RR (plQ c)/\B1 L B3 59 5 s5/\B1 L B3 57 7 Y/\vA L s6/\vA L s7/\(∀o,nU s6 o∨nU s7 o->w3.heap.size<=o/\o<L.heap.size)/\∀o,nU s6 o->¬nU s7 o:=by
  by_cases r:(ke c).1=0
  ·obtain⟨k,n,c,e⟩:=(hp r).2.own;unfold plQ;rw[aV r];exact⟨(hp r).1,(hq r).1,hr.1 r,(hp r).2.sp,(hp r).2.ro,c.aoy,e.aoy,λo y=>by
    rcases y with h | h
    ·have:=c.blk h;dsimp only at this;omega
    have:=e.blk h;dsimp only at this;omega,(hp r).2.ap⟩
  obtain⟨rfl,rfl,rfl,rfl⟩:=bY r;obtain⟨rfl,rfl,rfl,rfl⟩:=cc r;obtain⟨rfl,rfl,rfl,rfl⟩:=hr.2 r;unfold plQ;rw[aP r];exact⟨PlR.nil _ _,PlR.nil _ _,PlR.nil _ _,nn.1,nn.2.1,nn.2.2,nn.2.2,λo y=>(by rcases y with h | h<;>cases h),λo h=>aal⟩
 have fN:=aca c;generalize plQ c=pl at*
 have c4:Q [] L dz:=(((((eh.cd dK).cd fR).cd ft).cd S)).cd R;refine⟨_,rfl,R.same aah,(GY (h5.o0 c4) (uI.o0 (S.cd R)) J).mono ?_⟩;rintro _ q ⟨rfl,dT⟩;have C3:=dT.size;have cC:=co.cd dT;have MZ:=c4.cd dT;have g5:=h5.o0 MZ;have g9:=h9.o0 ((((fR.cd ft).cd S).cd R).cd dT);have bv:=uI.o0 ((S.cd R).cd dT);let x:aJ:=λk=>w3.heap.size<=k/\k<L.heap.size
 have V:∀{t N:Nat} {s:Sl},B1 L B3 t N s->B1 q x t N s:=λh=>(h.imp (G:=x) λk h1 h2=>⟨h1,h2⟩).keep λk hk hl=>MZ.block k hl aag;have t5:=V t5;have t8:=V t8;have r6:=r6.only MZ aag;have r7:=r7.only MZ aag;have gE:=g5.ro.len;have fd:=g5.sp.len;have el:=g5.ro.cap;have dO:=g5.ro.big;have ne:∀{o:Nat},x o->k0≠o/\k1≠o/\k2≠o/\k3≠o/\k4≠o/\k5≠o/\k6≠o/\k7≠o:=fun{o} y=>by
  have:=y.1;have:=y.2;omega
 have p1:∀{o:Nat} {A v:av},x o->aD x q A->Q [o] A v->aD x q v:=fun{o A v} y hu B=>hu.trans (B.p (F:=x) λk hk=>.inl (by simp only[aN]at hk;subst hk;exact y)) λk hk=>.inl hk;refine⟨_,rfl,dT.same aah,λW H A=>∃u:Nat,H=(u:Int)/\W+u=I pl.ro/\u<=I pl.ro/\Kp q A/\aD x q A/\Rst q A Y u,I pl.ro,⟨0,rfl,J,be _,λo t a h=>⟨a,h,rfl⟩,OnlyP.refl _ _,λo z _ h=>⟨z,h,λ_ _=>rfl⟩⟩,?_⟩;rintro W _ eZ ⟨u,rfl,oX,hj,aT,aS,ce⟩;refine⟨λr=>?_,λr=>?_⟩
 ·have r:=aO r;obtain⟨ad,h,k,c,s,F,G⟩:=ahw h5.ro (i:=u) J;have s:=V s;have c:=c.keep (MZ.block _ c.lt aag)
  ·refine⟨λvC H A=>∃n:Nat,H=(n:Int)/\vC+n=h.n/\n<=h.n/\Kp q A/\aD x q A/\Rst q A Y u,h.n,⟨0,rfl,J,be _,aT,aS,ce⟩,?_⟩;rintro vC _ fl ⟨n,rfl,Jn,gT,TY,gO,gG⟩;refine⟨ad,k,h,gG.at t8 k c,λme=>?_,λme=>?_⟩
   ·have me:=aO me;obtain⟨p,b1,o,ip,z,t,b2,b3,b4,b5,M⟩:=(s.kp TY).st (a:=n) J (c:=[O U (-7)]) rfl (K:=λ_ v=>Kp q v/\aD x q v/\Rst q v Y u) λo v y g8 hk B ⟨z,y1,y2,y3,y4⟩=>⟨hk _ TY,p1 y gO B,λg' z' x1 x2=>by
     obtain⟨z2,x3,x4⟩:=gG g' z' x1 x2;refine⟨z2,B.blk x3 ?_,x4⟩;intro e;simp only[aN]at e;subst e;exact absurd (Ox x3 y2).1 Z⟩
    obtain⟨e0,e1,e2,e3,e4,e5,e6,e7⟩:=ne b5;refine⟨ad,k,h,gG.at t8 k c,p,b1,o,ip,z,t,b2,b3,b4,e0,e1,e2,e3,e4,e5,e6,e7,λgw eS FO=>⟨vC-1,J,n+1,aaf,J,J,M gw eS FO⟩⟩
   obtain⟨p,b1,o,iF,z,t,b2,b3,b4,b5,M⟩:=(t8.kp TY).st (a:=u) J (c:=[O U (-7),O U 0,O U 0,X (ao #[]),O U 0,Sl.nil.v,O U 0]) rfl (K:=λ_ v=>Kp q v/\aD x q v/\Rst q v Y (u+1)) λo v y iD hk B ⟨z,y1,y2,y3,y4⟩=>⟨hk _ TY,p1 y gO B,λg' z' e x2=>by
    obtain⟨z2,p,t⟩:=gG g' z' e x2;rw[y1]at e;injection e with e;injection e with e;subst e;obtain⟨_,rfl⟩:=Ox p y2;exact⟨_,y4,λm v=>by rw[TL y3 (by show u*7+7<=m;omega),t m J]⟩⟩
   obtain⟨e0,e1,e2,e3,e4,e5,e6,e7⟩:=ne b5;exact⟨p,b1,o,iF,z,t,b2,b3,b4,e0,e1,e2,e3,e4,e5,e6,e7,λij iG n=>⟨W-1,J,u+1,aaf,J,J,M ij iG n⟩⟩
 refine⟨λW H A=>∃u:Nat,H=(u:Int)/\W+u=I pl.sp/\u<=I pl.sp/\Kp q A/\aD x q A,I pl.sp,⟨0,rfl,J,be _,aT,aS⟩,?_⟩;rintro W _ s ⟨u,rfl,oX,hj,c,e⟩;have n:=e.size;refine⟨λr=>?_,λr=>?_⟩
 ·have r:=aO r;obtain⟨p,k,o,iS,z,t,F,G,b4,b5,M⟩:=(t5.kp c).st (a:=u) J (c:=[O U (-7),X (ao #[]),O U 0,O U 0,O U 0]) rfl (K:=λ_ v=>Kp q v/\aD x q v) λo v y iN hk B _=>⟨hk _ c,p1 y e B⟩
  obtain⟨e0,e1,e2,e3,e4,e5,e6,e7⟩:=ne b5;exact⟨p,k,o,iS,z,t,F,G,b4,e0,e1,e2,e3,e4,e5,e6,e7,λiX iP h=>⟨W-1,J,u+1,aaf,J,J,M iX iP h⟩⟩
 refine(TI (r6.kp c) (r7.kp c) ap).mono ?_;rintro _ v ⟨rfl,t,_⟩;have z:=t.size;have p:aD x q v:=e.trans (t.mono (G:=x) λk _ hk=>M k hk) λk hk=>.inl hk;refine⟨_,rfl,t.same λk hk=>?_,(GY (g9.kU p λk h1 _ h2=>by have:=h2.2;omega) (bv.kU p λk h1 _ h2=>by have:=h2.2;omega) J).mono ?_⟩
 ·refine⟨?_,λh=>?_⟩
  ·simp only[aZ,bp,ci]at hk;omega
  have:=M k h;simp only[aZ,bp,ci]at hk;omega
 rintro _ K ⟨rfl,h⟩;have G:=h.size;refine⟨_,rfl,h.same λk hk=>?_,aag,((cC.qz (F:=λk=>w.heap.size<=k) (p.mono λk _ hk=>ad2)).only λk hk=>hk).cd h⟩;simp only[aZ,bp,ci]at hk;exact⟨J,aag⟩
end Go.Proofs.YtfemabakfkliiaaGreatDoor.Con
