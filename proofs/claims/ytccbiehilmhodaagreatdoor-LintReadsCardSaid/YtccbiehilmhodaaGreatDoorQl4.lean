import Derived.Test.YtccbiehilmhodaaGreatDoorQl3
set_option linter.defProp false
set_option linter.unusedSectionVars false
set_option linter.unusedSimpArgs false
set_option linter.unusedVariables false
set_option maxHeartbeats 4000000
open Bool renaming true->aF,false->aM
open Option renaming some->Hg,none->ZQ
open List renaming length->Z8
open Decidable renaming decide->VM
open Go.Value renaming int->O,string->ae,pointer->ah,agg->ai,tuple->aj,bool->ak
open Go.IntKind renaming i64->U,wrap->au
open Go.Ending renaming returned->ao
open _root_.ByteArray renaming mk->aq
open _root_.Go.Proofs.Tryz renaming prog->ar
open Go.Instr renaming buildSlice->av
open Go renaming World->aw,Value->ay,Calls->aA
open Go.Kt renaming Only->az,SliceF->aB,Cells->aD,OnlyP->aE,Blk->aG
namespace Go.Proofs.YtccbiehilmhodaaGreatDoor.Con
open Go Go.RowKit Go.Kt Go.Kt.V Go.Proofs.YtccbiehilmhodaaGreatDoor.Vc
section
variable {F G:aK} {ts:X Tk} {w w':aw} {b:Nat} {l sn:Sl} {i:Nat} {fc fa d:Int}
def Fj{E}{k}{g}{x}{j}(h:lf ts k j=0):iR ts E k g x j=.ok (x,j):=by
 cases g with
 | zero=>rfl
 | succ g=>rw[iR,K h]
def OP(F G:aK)(t:X Tk)(e:aw)(b:Nat)(l sn:Sl)(d:Nat)(N:aK)(E:Nat->Pr)(k:Int)(R:Pr)(n:Nat)(op:Int)(s:aJ)(w:aw):Prop:=az [b] e w/\
 ((∃(c a:Int) (j:Nat),op=0/\c≠0/\R=.error (c,a)/\Rd F G t w b l sn j c a d)∨
  (∃(x:Ex) (j:Nat),op=lf t k j/\RXN w N e.heap.size w.heap.size x s/\Rd F G t w b l sn j 0 0 d/\R=iR t E k n x j/\(Z8 t)-j<=n))
def acJ{f k d:Nat}(Zd:k<6)(h:Rd F G ts w b l sn i 0 0 (d:Int))
  (Z:∀w i,Rd F G ts w b l sn i 0 0 (d:Int)->aA ar 334 #[ah (Hg ⟨b,0,ZQ⟩),O U ((k+1:Nat):Int)] w λe w'=>∃v,e=ao v/\sM F G ts w w' b l sn d (dy ts f (k+1) d i) v):
  aA ar 334 #[ah (Hg ⟨b,0,ZQ⟩),O U (k:Int)] w λe w'=>∃v,e=ao v/\sM F G ts w w' b l sn d (dy ts (f+1) k d i) v:=by
 have eR:dy ts (f+1) k d i=EM (dy ts f (k+1) d i) λx j=>iR ts (dy ts f (k+1) d) (k:Int) ((Z8 ts)-j) x j:=by rw[dy,W J]
 rw[eR];have Xv:∀i x j,dy ts f (k+1) d i=.ok (x,j)->i<j:=λi x j h=>lp f _ _ i h;generalize am:dy ts f (k+1) d=E at*
 generalize B:(EM (E i) λx j=>iR ts E (k:Int) _ x j)=L;refine alR w ?_;have ek:au U ((k:Int)+1)=((k+1:Nat):Int):=TE
 refine⟨λhc=>absurd R0 (by omega:¬(k:Int)=6),λ_ z w3 ki ik A=>?_⟩;have hb:=h.lb;rw[ek];refine(Z w3 i (h.only A)).mono ?_;rintro _ w4 ⟨v,rfl,D⟩;obtain⟨vk,vn,vs,vo,vl,va,rfl⟩:=D.qN;have z3:=A.size;have z4:=D.1.size;refine⟨_,_,_,_,_,_,I,D.1.same C,λr w5 mE nT P=>?_⟩;have E1:=((A.weaken (bs':=[b]) λ_ h=>Rl).trans D.1 λx hx=>.inl hx).cn P;have sm:∀{V u':aw},w5.heap.size<=V.heap.size->az [b] V u'->cF [z,r] V u':=λhu hO=>hO.same (by intro x hx;simp at hx⊢;omega);have Q0:=h.big;have S:∃(j:Nat) (c a:Int),Rd F G ts w4 b l sn j c a (d:Int)/\∀u,az [] w4 u->∃p,OP F G ts w b l sn d (λq=>q=z∨q=r) E (k:Int) L p (if c=0 then lf ts (k:Int) j else 0) (nI vk vn vs vo vl va) u:=by
  obtain⟨k,d⟩:=D;have f:=(A.weaken (bs':=[b]) λ_ h=>Rl).trans k λx hx=>.inl hx;cases F:E i with
  | error e=>
   rw[F]at d B;obtain⟨c,a⟩:=e;obtain⟨b,i,j,h⟩:=d;exact⟨j,c,a,h,λu N=>⟨0,f.cn N,.inl ⟨c,a,j,W b,b,B.symm,h.only N⟩⟩⟩
  | ok q=>
   obtain⟨x,j⟩:=q;rw[F]at d B;obtain⟨e,b,c,a⟩:=d;have h:(nI vk vn vs vo vl va)=e:=bK Array.toList (Value.agg.inj b);rw[h];exact⟨j,0,0,a,λu N=>⟨(Z8 ts)-j,f.cn N,.inr ⟨x,j,K I,((c.only N R).FZ λq i l _=>J).wide z3 N.size,a.only N,B.symm,aX _⟩⟩⟩
 obtain⟨j0,c0,a0,Q,S⟩:=S;refine(Dl (Q.only P) (k:Int)).mono ?_;rintro _ u ⟨rfl,N⟩;have z6:=N.size;obtain⟨T,M⟩:=S u (P.cn N);refine⟨_,I,N.same C,λp op m n t o s g w'=>w5.heap.size<=w'.heap.size/\OP F G ts w b l sn d _ E (k:Int) L p op [O U m,O U n,ae t,O U o,s.v,O U g] w',T,⟨z6,M⟩,?_⟩;rintro p op m n t o s g w7 ⟨z7,X,Y⟩;refine⟨λrh=>?_,λrh fR H=>?_⟩
 .have rh:op≠0:=FK
  rcases Y with⟨_,_,_,e,_⟩ | ⟨x,j,rfl,hX,f,i,aC⟩
  .exact absurd e rh
  have hn:=f.en.next f.lt (qn _ _ rh);obtain⟨aS,rfl⟩:∃aS,p=aS+1:=⟨p-1,J⟩
  rw[iR,W rh]at i;refine⟨(j:Int),Mn f.blk 1 I,b,1,_,_,I,f.blk,R,J,J,λw8 ft re=>?_⟩;rw[eS J J]at re;have h8:=f.gN ft re hn;have z8:=ft.size;refine(Z w8 (j+1) h8).mono ?_;rintro _ w9 ⟨v,rfl,Xw⟩;obtain⟨yk,yn,ys,yo,yl,ya,rfl⟩:=Xw.qN;have z9:=Xw.1.size;refine⟨_,_,_,_,_,_,I,sm J Xw.1,λk8 dk ce cc dS=>?_⟩;have EW:=dS.size;obtain⟨dz,pM,qS,dl⟩:=G3 dk [[O U m,O U n,ae t,O U o,s.v,O U g],nI yk yn ys yo yl ya] R R R (parts:=#[_,_]) I;have CA:=dl.size;refine⟨⟨Hg _,2,2⟩,dz,pM,dl.same C,λeF dV=>?_⟩;have co:=dV.size;have Lh:az [b] w eF:=((((X.trans ft λx hx=>.inl hx).trans Xw.1 λx hx=>.inl hx).cn dS).cn dl).new dV J;have wy:az [r] w9 eF:=((dS.cn dl).weaken (bs':=[r]) λ_ h=>Rl).trans dV λx hx=>.inl hx;have NM:∃(j':Nat) (c a:Int),Rd F G ts w9 b l sn j' c a (d:Int)/\∀eM,az [] eF eM->∃p,p<aS+1/\OP F G ts w b l sn d (λq=>q=z∨q=r) E (k:Int) L p (if c=0 then lf ts (k:Int) j' else 0) (nI 5 0 [] (lf ts (k:Int) j) ⟨Hg ⟨dk.heap.size,0,ZQ⟩,2,2⟩ g) eM:=by
   obtain⟨h,d⟩:=Xw;cases F:E (j+1)with
   | error e=>
    rw[F]at d i;obtain⟨c,a⟩:=e;obtain⟨b,l,j',k⟩:=d;exact⟨j',c,a,k,λeM dF=>⟨0,J,Lh.cn dF,.inl ⟨c,a,j',W b,b,i,(k.own wy C).only dF⟩⟩⟩
   | ok q=>
    obtain⟨y,j'⟩:=q;rw[F]at d i;obtain⟨c,v,G,l⟩:=d;have gZ:_=c:=bK Array.toList (Value.agg.inj v);have cC:=Xv _ _ _ F;obtain⟨xl,e,_⟩:=hX.cells;have a:=by
     simp only[nI,Yu,Value.int.injEq]at e;exact e.2.2.2.2.2.1.2
    refine⟨j',0,0,l,λeM dF=>⟨aS,J,Lh.cn dF,.inr ⟨.mk 5 0 [] (lf ts (k:Int) j) [x,y] x.a,j',K I,?_,(l.own wy C).only dF,i,?_⟩⟩⟩
    .have Xx:=(((((ft.weaken (bs':=[b,r]) λx hx=>.inl Ua).trans h λx hx=>.inl Ua).trans wy λx hx=>.inl Ua).cn dF))
     have Xy:=wy.cn dF;have vj:aG eM dk.heap.size 76 ([O U m,O U n,ae t,O U o,s.v,O U g]++c):=by
      have:=dF.blk (dV.blk qS C) R;rw[<-gZ];simpa using this
     have XA:RXN eM (λq=>q=z∨q=r) w.heap.size w7.heap.size x [O U m,O U n,ae t,O U o,s.v,O U g]:=by
      exact hX.only Xx λq hq=>by
       simp only[aZ,bB,cE]at hq;rcases hq with rfl | rfl
       .exact .inl hb
       exact .inr (.inr (.inr I))
     have k:RXN eM (λq=>q=z∨q=r) w8.heap.size w9.heap.size y c:=(G.only Xy λq hq=>.inl (by simp only[aV]at hq;omega)).FZ λq h1 h2 _=>J
     rw[a];exact .two w.heap.size w7.heap.size w8.heap.size w9.heap.size dk.heap.size _ _ _ _ _ _ x y _ c XA z8 k J J J J WR J vj
    omega
  obtain⟨j',c',a',bV,NM⟩:=NM;refine(Dl (bV.own wy C) (k:Int)).mono ?_;rintro _ eM ⟨rfl,dF⟩;obtain⟨bY,aT,bv⟩:=NM eM dF;exact⟨_,I,dF.same C,bY,aT,by have:=dF.size;omega,bv⟩
 have rh:op=0:=FK
 refine⟨X.new H J,?_⟩;rcases Y with⟨c,a,j,_,hc,i,b⟩ | ⟨x,j,d,e,b,i,v⟩
 .rw[i];exact⟨hc,⟨m,n,t.data.toList,o,s,g,I⟩,j,b.own H C⟩
 rw[i,Fj (by rw[<-d,rh])];exact⟨_,I,((e.only H λq hq=>.inr (.inr (.inl Qn))).FZ λ_ _ _ _ h=>h).wide (aX _) H.size,b.own H C⟩
def Jt:∀f,(∀k d i w,k<=6->d<=20->gM k d<=f->Rd F G ts w b l sn i 0 0 d->aA ar 334 #[ah (Hg ⟨b,0,ZQ⟩),O U k] w λe w'=>∃v,e=ao v/\sM F G ts w w' b l sn d (dy ts f k d i) v)/\
  (∀d i w,d<=20->gM 6 d<=f->Rd F G ts w b l sn i 0 0 d->
   aA ar 356 #[ah (Hg ⟨b,0,ZQ⟩)] w λe w'=>∃v,e=ao v/\sM F G ts w w' b l sn d (dy ts f 6 d i) v)
 | 0=>⟨λk d i w h hd hn=>UJ,λd i w hd hn=>UJ⟩
 | f+1=>by
  obtain⟨E,u⟩:=Jt f;have one:∀(d i) w,d<=20->gM 6 d<=f+1->Rd F G ts w b l sn i 0 0 d->
   aA ar 356 #[ah _] w λe w'=>∃v,e=ao v/\sM F G ts w w' b l sn d _ v:=λd i w hd hn h=>by
   unfold gM at hn;exact afx hd h (λz w i h=>E 0 _ i w J J UC h) (λz w i h=>u _ i w J UC h)
  refine⟨λk d i w c hd hn h=>?_,one⟩;by_cases a:k=6
  .subst a;refine alR w ?_;refine⟨λ_ k g Q L b=>?_,λf=>absurd f Z⟩;refine(one d i g hd hn (h.only b)).mono ?_;rintro _ q ⟨v,rfl,D⟩;obtain⟨m,o,s,p,n,l,rfl⟩:=D.qN;have j:=h.lb;exact⟨_,_,_,_,_,_,I,D.1.same C,λr e=>D.Eg (b.weaken λ_ h=>Rl) e C⟩
  unfold gM at hn;exact acJ J h λw i h=>E _ d i w J hd UC h
end
def b25 w:∃s a,(av 37 16 #[.mk 1 (ae (aq #[43])),.mk 2 (ae (aq #[45])),.mk 3 (ae (aq #[42])),.mk 4 (ae (aq #[47])),.mk 5 (ae (aq #[37])),.mk 6 (ae (aq #[60])),.mk 7 (ae (aq #[60,61])),.mk 8 (ae (aq #[62])),.mk 9 (ae (aq #[62,61])),.mk 10 (ae (aq #[61,61])),.mk 11 (ae (aq #[33,61])),.mk 12 (ae (aq #[38,38])),.mk 13 (ae (aq #[124,124])),.mk 14 (ae (aq #[45])),.mk 15 (ae (aq #[33]))]).run ar w=.ok (Sl.v s) a/\
  aB ju 1 a (λk=>w.heap.size<=k/\k<a.heap.size) s xX/\az [] w a:=by
 have y:=run_buildSlice (P:=ar) w 37 9 16 #[.mk 1 (ae (aq #[43])),.mk 2 (ae (aq #[45])),.mk 3 (ae (aq #[42])),.mk 4 (ae (aq #[47])),.mk 5 (ae (aq #[37])),.mk 6 (ae (aq #[60])),.mk 7 (ae (aq #[60,61])),.mk 8 (ae (aq #[62])),.mk 9 (ae (aq #[62,61])),.mk 10 (ae (aq #[61,61])),.mk 11 (ae (aq #[33,61])),.mk 12 (ae (aq #[38,38])),.mk 13 (ae (aq #[124,124])),.mk 14 (ae (aq #[45])),.mk 15 (ae (aq #[33]))]
  (xX.map λx=>Value.string (T x)).toArray Tryz.t9 _ D D I Z Z D
 refine⟨⟨Hg _,16,16⟩,_,y,⟨I,aX _,λh=>Rl,(by decide:16<=9223372036854775807),λj x b=>?_⟩,WJ _ _⟩;have B:=KC w 9 (xX.map λx=>Value.string (T x));refine⟨_,[ae (T x)],I,⟨aX _,B.lt⟩,I,?_,I⟩;rw[qs];exact Mn B j (by rw[dr,b];rfl)
def ade w:aA ar 333 #[] w λe a=>∃s,e=ao s.v/\aB ju 1 a (λk=>w.heap.size<=k/\k<a.heap.size) s xX/\az [] w a:=by
 refine iE (ar2 ?_);obtain⟨s,a,h,b,c⟩:=b25 w;exact⟨s,a,h,s,I,b,c⟩
def nX(s:X Tk):Nat:=Z8 (s.takeWhile λt=>t.k !=5)
def ahF ts:nX ts<=Z8 ts:=by
 exact(List.takeWhile_sublist _).length_le
def aiD{t}{ts}{i}:tk (t::ts) (i+1)=tk ts i:=by unfold tk;rw[dE]
def Fk{t}{ts}:tk (t::ts) 0=t:=rfl
def zf:∀s i,i<nX s->(tk s i).k≠5
 | [],_,h=>by simp[nX]at h
 | t::s,i,h=>by
  unfold nX at h;rw[dC]at h;split at h
  .rename_i t;cases i with
   | zero=>rw[Fk];simpa using t
   | succ i=>rw[aiD];exact zf s i (by simpa[nX]using h)
  simp at h
def zg:∀s,nX s<(Z8 s)->(tk s (nX s)).k=5
 | [],h=>Gl
 | t::s,h=>by
  unfold nX at h⊢;rw[dC]at h⊢;split
  .rename_i t;rw[K t]at h;exact zg s (by simpa[nX]using h)
  rename_i h;rw[bE,Fk];simpa using h
def Ju{ts}(h:nX ts+1=Z8 ts):pG ts:=λi a=>by
 constructor
 .intro k;refine bM λn=>zf ts i J k
 intro n;have:i=nX ts:=J
 rw[this];exact zg ts J
def ah4{ts}(a:pG ts)(b:0<Z8 ts):nX ts+1=Z8 ts:=by
 rcases oT _ (Z8 ts) with h | h
 .exact(a _ h).1 (zg ts h)
 have:=zf ts ((Z8 ts)-1) J;exact absurd ((a _ J).2 J) this
def aaK w (t:Tk):aA ar 332 #[t.v] w λe a=>e=ao (ak (t.k==5))/\az [] w a:=by
 exact ret (v3w t.k t.n t.a w λk b _ _ h=>⟨I,h⟩)
def ahV{w}{F}{l}{ts}(h:aB MN 4 w F l ts):aA ar 331 #[l.v,.func (.func 332) #[] #[]] w λe b=>e=ao (O U (if nX ts<Z8 ts then nX ts else -1))/\az [] w b:=by
 refine ret (alQ l ⟨.func _ #[] #[],I⟩ w ?_);have f:=h.len;have t:=h.big;have r:=h.cap;refine⟨λv i b=>∃n,n<=nX ts/\i=n/\v=(Z8 ts)-n/\az [] w b,Z8 ts,⟨0,bh _,I,I,EC _ _⟩,?_⟩;rintro v _ d ⟨n,g,rfl,rfl,c⟩;refine⟨λa=>?_,λa=>?_⟩
 .have T:=aO a;obtain⟨ad,x,s,j,e,m,o,k,l⟩:=(Aw gz Z h c R).get (bc n) T;rw[aW,za J]at e;injection e with e;subst e;subst l;refine⟨ad,j,_,_,_,_,k,332,[],[],I,jB D,?_⟩;refine(aaK d _).mono ?_;rintro _ w ⟨rfl,p⟩;refine⟨_,I,λhb=>⟨?_,c.cn p⟩,λhb=>⟨(Z8 ts)-_,J,n+1,?_,TE,I,c.cn p⟩⟩
  .have hb:=Ma
   have:n=nX ts:=by
    refine bM λq=>zf ts n J hb
   rw[K J,this]
  have hb:=Ma
  refine bM λq=>hb ?_;have:n=nX ts:=J
  rw[this];exact zg ts J
 have p:=aR a;rw[W J];exact⟨I,c⟩
def uZ:Ex:=.mk 0 0 [] 0 [] 0
def cq(t:X Tk)(a:Int):Ex×Int×Int×Int:=
 if 0<=a/\a<Z8 t/\nX t+1=Z8 t then(match oB t a.toNat with
  | .error (c,p)=>(uZ,0,c,p)
  | .ok (x,j)=>(x,j,0,0))
 else(uZ,0,1, -1)
def Z9 w lo hi:RX w lo hi uZ [O U 0,O U 0,ae (aq #[]),O U 0,Sl.nil.v,O U 0]:=.leaf ..
def OK{w:aw}{F:aK}{l}{t:X Tk}(h:aB MN 4 w F l t)(a:Int)(y:rX a):aA ar 304 #[l.v,O U a] w λe i=>
  ∃s,e=ao (aj #[ai s.toArray,O U (cq t a).2.1,ai #[O U (cq t a).2.2.1,O U (cq t a).2.2.2]])/\RX i w.heap.size i.heap.size (cq t a).1 s/\((cq t a).2.2.1=0->0<=(cq t a).2.1/\(cq t a).2.1<Z8 t)/\az [] w i:=by
 refine iE (v4w ?_);intro r u E Q L A z f;have S:=h.len;have B:=h.cap;have D:=h.big;have M:=f.size;have h:=(h.inHeap gz Z)
 refine(ahV (Aw gz Z h f R)).mono ?_;rintro _ m ⟨rfl,g⟩;have N:=g.size;have j:=f.cn g;have H:=ahF t;have o:(((VM (a<0))||(VM (a>=(l.n:Int))))||((if nX t<Z8 t then(nX t:Int)else -1) !=(au U ((l.n:Int)-1))))=!VM (0<=a/\a<Z8 t/\nX t+1=Z8 t):=by
  rw[eS J J,S];by_cases h:nX t<Z8 t
  .rw[K h,bL];simp;omega
  rw[W h,bL];simp;omega
 refine⟨_,I,g.same C,?_⟩;dsimp only;rw[o];refine⟨λd G n=>?_,λd=>?_⟩
 .have d:=by
   rw[ey,ig]at d;exact d
  rw[cq,W d];exact⟨_,I,Z9 _ _ _,λh=>Rl,(j.weaken (bs':=[]) λ_ h=>Rl).trans n λx hx=>.inr Vv⟩
 have d:=by
  rw[fO,bU]at d;exact d
 rw[cq,K d];obtain⟨T,rfl⟩:∃T:Nat,a=(T:Int):=⟨a.toNat,J⟩
 refine(ade m).mono ?_;rintro _ w3 ⟨sn,rfl,YM,db⟩;have z3:=db.size;refine⟨sn,I,db.same C,λb w4 hb pw dD pz=>?_⟩;have oO:=j.cn db;have hR:Rd (λk=>F k/\k<w.heap.size) _ t w4 b l sn T 0 0 ((0:Nat)):=
  ⟨pz,Aw gz Z h (oO.cn dD) R,Aw cx Z YM dD R,λk hk=>ZD,λk hk=>ZD,Ju d.2.2,J⟩
 refine((Jt (gM 0 0)).1 0 0 T w4 Z Z (aX _) hR).mono ?_;rintro _ w5 ⟨v,rfl,P⟩;obtain⟨vk,vn,vs,vo,vl,va,rfl⟩:=P.qN;have z5:=P.1.size;obtain⟨dP,P⟩:=P;rw[aW];have aC:oB t T=dy t (gM 0 0) 0 0 T:=I;rw[aC];have V:∀{am:Nat} {c p:Int},Rd (λk=>F k/\k<w.heap.size) (λk=>m.heap.size<=k/\k<w3.heap.size) t w5 b l sn am c p (0:Int)->∀Y,az [] w5 Y->∀w9,az [u,r] Y w9->az [] w w9:=λhR Y ft w9 fm=>(((oO.cn dD).trans dP λx hx=>.inr (by simp[aV]at hx;omega)).cn ft).trans fm λx hx=>.inr Vv;refine⟨_,_,_,_,_,_,I,dP.same C,?_⟩;cases hE:dy t (gM 0 0) 0 0 T with
 | error e=>
  rw[hE]at P;obtain⟨c,p⟩:=e;obtain⟨v,a2,am,a⟩:=P;refine⟨_,_,_,_,_,_,a.blk,λk3 w6 yw tD l XC=>?_⟩;have z6:=l.size;refine(Fi (a.only l)).mono ?_;rintro _ w7 ⟨rfl,q⟩;have x:=(a.only l).only q;have iw:(c !=0)=aF:=by simpa using v
  refine⟨_,I,q.same C,_,_,_,_,_,_,x.blk,λ_ Y ft re n1 n2 n3 n4 n5 n6=>⟨λk=>k=b,I,λe=>n2 e,λe=>n4 e,λw9 fm _=>⟨_,I,Z9 _ _ _,λh=>absurd h v,V a Y (l.cn (q.cn ft)) w9 fm⟩⟩,λd=>by rw[iw]at d;cases d⟩
 | ok q=>
  rw[hE]at P;obtain⟨x,am⟩:=q;obtain⟨s,v,a2,a⟩:=P;refine⟨_,_,_,_,_,_,a.blk,λk3 w6 yw tD c XC=>?_⟩;have z6:=c.size;refine(Fi (a.only c)).mono ?_;rintro _ w7 ⟨rfl,h⟩;have z7:=h.size;have h7:=(a.only c).only h;refine⟨_,I,h.same C,_,_,_,_,_,_,h7.blk,λd=>(by simp at d),λ_ dk l nS n1 n2 n3 n4 n5 n6=>⟨λk=>k=b,I,λe=>n2 e,λe=>n4 e,λdz p _=>?_⟩⟩;have EW:=l.size;have CA:=p.size;have gZ:(nI vk vn vs vo vl va)=s:=bK Array.toList (Value.agg.inj v);refine⟨nI vk vn vs vo vl va,I,?_,λ_=>⟨bc am,by have:=a.lt;dsimp only;omega⟩,V a dk (c.cn (h.cn l)) dz p⟩;rw[gZ];exact((a2.only (c.cn (h.cn l)) R).only p λq hq=>.inl TF).wide J J
def iG(l:S):Ex×Int×Int:=
 if(cQ l).2.1≠0 then(uZ,(cQ l).2.1,(cQ l).2.2)
 else if(cq (cQ l).1 0).2.2.1≠0 then(uZ,(cq (cQ l).1 0).2.2.1,(cq (cQ l).1 0).2.2.2)
 else if(tk (cQ l).1 (cq (cQ l).1 0).2.1.toNat).k≠5 then(uZ,4,(tk (cQ l).1 (cq (cQ l).1 0).2.1.toNat).a)
 else((cq (cQ l).1 0).1,0,(cq (cQ l).1 0).2.2.2)
def afy{w} l (E:Er w):aA ar 375 #[ae (T l)] w λe b=>
  ∃a,e=ao (aj #[ai a.toArray,ai #[O U (iG l).2.1,O U (iG l).2.2]])/\RX b w.heap.size b.heap.size (iG l).1 a/\az [] w b:=by
 refine iE (v5w ?_);intro m o R F L H G i;refine(neN l (E.only i)).mono ?_;rintro _ S ⟨z,rfl,h,d⟩;have z1:=d.size;have j:=i.cn d;generalize A:cQ l=B at*
 obtain⟨s,c,p⟩:=B;dsimp only at h⊢;have Q:iG l=if c≠0 then(uZ,c,p)else if(cq s 0).2.2.1≠0 then(uZ,(cq s 0).2.2.1,(cq s 0).2.2.2)else if(tk s (cq s 0).2.1.toNat).k≠5 then(uZ,4,(tk s (cq s 0).2.1.toNat).a)else((cq s 0).1,0,(cq s 0).2.2.2):=by
  unfold iG;rw[A]
 refine⟨z,_,_,I,d.same C,λhc y V M N u r f g=>⟨λk=>k=y,I,λe=>f e,λe=>g e,λX v=>?_⟩,λhc k3 Y yw P D=>?_⟩
 .have hc:=R0
  rw[Q,K hc];exact⟨_,I,Z9 _ _ _,((j.cn u).trans v λx hx=>.inr Vv)⟩
 rw[W (by simp[by simpa using hc])]at Q;refine(OK (h.only D).sl 0 ⟨Z,Z⟩).mono ?_;rintro _ w5 ⟨a,rfl,hX,hj,dP⟩;generalize aS:cq s 0=pa at*
 obtain⟨x,am,p,p'⟩:=pa;dsimp only at hX hj Q⊢;obtain⟨xl,rfl,_⟩:=hX.cells;refine⟨_,_,_,_,_,_,_,_,_,I,dP.same C,λk4 w6 pV xA dN=>?_⟩;have h6:=((h.only (D.cn dP)).keep (w':=w6) λk hk bT=>dN.block k bT (by
  have:=h.blk hk.2;simp;dsimp only at this;omega))
 have aC:=h6.len;have T:∀{w8 w9:aw},az [k3] w6 w8->az [o,m] w8 w9->az [] w w9:=λh8 h9=>((((j.cn D).cn dP).new dN J).new h8 J).trans h9 λx hx=>.inr Vv;refine⟨λO c w7=>az [k3] w6 w7/\((p≠0/\O=p/\c=p')∨(p=0/\(tk s am.toNat).k≠5/\O=4/\c=(tk s am.toNat).a)∨(p=0/\(tk s am.toNat).k=5/\O=0/\c=p')),?_,?_⟩
 .rintro O c w7 ⟨t,n⟩;refine⟨λhi w8 ft r f g n4 n5 n6=>⟨λk=>k=k3,I,?_,?_,λw9 fm=>?_⟩,λhi dk w r f g n4 n5 n6=>⟨λk=>k=k3,I,?_,?_,λdz dl=>?_⟩⟩
  .intro e;omega
  .intro e;omega
  .have hi:=UB
   have e:iG l=(uZ,O,c):=by
    rw[Q];rcases n with⟨k,rfl,rfl⟩ | ⟨k,l,rfl,rfl⟩ | ⟨k,l,rfl,rfl⟩
    .rw[K k]
    .rw[W (by simp[k]),K l]
    exact absurd I hi
   rw[e];exact⟨_,I,Z9 _ _ _,T (t.cn ft) fm⟩
  .intro e;omega
  .intro e;omega
  have hi:=UB
  have k:iG l=(x,O,c):=by
   rw[Q];rcases n with⟨l,rfl,rfl⟩ | ⟨l,q,rfl,rfl⟩ | ⟨l,q,rfl,rfl⟩
   .exact absurd hi l
   .exact absurd hi Z
   rw[W (by simp[l]),W (by simp[q])]
  rw[k];have e:=(((dN.trans t λx hx=>.inl hx).cn w).weaken (bs':=[k3,o,m]) λx hx=>.inl Vx).trans dl λx hx=>.inl ph;exact⟨_,I,(hX.only e λq hq=>.inl TF).wide J e.size,T (t.cn w) dl⟩
 by_cases q:p=0
 .obtain⟨w,La⟩:=hj q;obtain⟨n,rfl⟩:∃n:Nat,am=n:=⟨am.toNat,J⟩
  obtain⟨ad,t,a,k,e,g3,g4,l,g6⟩:=h6.sl.get w J;rw[aW,za J]at e;injection e with e;subst e;subst g6;refine⟨ad,λ_=>k,(tk s n).k,λ_=>l.dx 0 _ I,λhh=>⟨ad,k,(tk s n).a,l.dx 3 _ I,λeF x=>⟨x,.inr (.inl ⟨q,?_,I,I⟩)⟩⟩,λhh=>⟨EC _ _,.inr (.inr ⟨q,?_,q,I⟩)⟩⟩
  .simpa[q]using hh
  simpa[q]using hh
 have hb:(p==0)=aM:=by simpa using q
 refine⟨⟨0,0,ZQ⟩,λhh=>Wz,0,λhh=>Wz,λhh=>Wz,λ_=>⟨EC _ _,.inl ⟨q,I,I⟩⟩⟩
def vS:Nat->Rp Ex
 | 0=>λ_ _ _ _=>False
 | d+1=>λw F x c=>∃sl,c=nI x.k x.n x.s x.op sl x.a/\aB (vS d) 6 w F sl x.dK
def jH:∀d,(vS d).Ok
 | 0=>⟨λh _=>h.elim,λh=>h.elim,λh _=>h.elim,λh=>h.elim⟩
 | d+1=>⟨λ⟨sl,h,a⟩ k=>⟨sl,h,KN (jH d) a Z k⟩,λ⟨sl,h,a⟩=>⟨sl,h,Mr (jH d) a Z⟩,λ⟨sl,h,a⟩ k=>⟨sl,h,Z5 (jH d) a k⟩,λ⟨sl,h,a⟩=>by
  subst h;intro v b;simp at b;rcases b with rfl | rfl | rfl | rfl | rfl | rfl<;>rfl⟩
def Jv{α}{r q:Rp α}{size}{w}{F}{s}{xs}(h:aB r size w F s xs)(i:∀x c,x∈xs->r w F x c->q w F x c):aB q size w F s xs:=
 ⟨h.len,h.cap,h.nil0,h.big,λj x a=>by
  have⟨b,c,d,e,f,g,k⟩:=h.at_ j x a;exact⟨b,c,d,e,f,g,i x c (bA a) k⟩⟩
section
variable {w w':aw} {F:aK} {x y:Ex} {cs ds:aJ}
def inB:∀{d:Nat} {x:Ex} {cs:aJ},vS d w F x cs->vS (d+1) w F x cs
 | 0,_,_,h=>h.elim
 | d+1,x,cs,⟨sl,a,b⟩=>⟨sl,a,Jv b λx cs _ h=>inB h⟩
def UN{d e}(a:d<=e)(h:vS d w F x cs):vS e w F x cs:=by
 induction e with
 | zero=>have:d=0:=J;subst this;exact h
 | succ e i=>
  by_cases b:d=e+1
  .subst b;exact h
  exact inB (i J)
def gX{d}(h:vS d w F x cs)(O:az [] w w'):vS d w' F x cs:=(jH d).only h O R
def RXN.ex{N}{l i}(h:RXN w N l i x cs):∃d,vS d w (λk=>l<=k/\k<i) x cs:=by
 induction h with
 | leaf l i k n s op a=>exact⟨1,Sl.nil,I,RG _ _ _ _⟩
 | one l u q i k n s op a x cs e f r m t o b=>
  have⟨d,b⟩:=b;have⟨sl,g,_⟩:=e.cells;refine⟨d+1,_,I,I,aX _,λh=>Rl,(by decide:1<=9223372036854775807),λc y j=>?_⟩;have T:c=0:=by
   have:=(bd.1 j).1;simp[Ex.dK,bf]at this;omega
  subst T;simp[Ex.dK,cZ,cd]at j;subst j;exact⟨_,cs,I,⟨f,m⟩,by rw[g];rfl,by rw[wB];exact o.cells 0 cs λc v hv=>JW,(jH d).mono b λk p=>⟨p.1,J⟩⟩
 | two l C D F q i k n s op a x y cs ds o r p t w z A c B d E u=>
  have⟨f,E⟩:=E;have⟨g,u⟩:=u;have⟨sl,Z,_⟩:=o.cells;have⟨X,S,_⟩:=p.cells;have e:Z8 cs=6:=by rw[Z];rfl
  have m:Z8 ds=6:=by rw[S];rfl
  refine⟨max f g+1,_,I,I,aX _,λh=>Rl,(by decide:2<=9223372036854775807),λb y j=>?_⟩;rcases b with _ | _ | b
  .simp[Ex.dK,cZ,cd]at j;subst j;exact⟨_,cs,I,⟨Sb,c⟩,e,by rw[wB];exact d.cells 0 cs λb v hv=>by rw[bO,ca (bd.1 hv).1];exact hv,(jH _).mono (UN J E) λk h=>⟨h.1,J⟩⟩
  .simp[Ex.dK,dE,cZ,cd]at j;subst j;exact⟨_,ds,I,⟨Sb,c⟩,m,by
    exact d.cells 6 ds λb v hv=>by rw[cG J,e,eo];exact hv,(jH _).mono (UN J u) λk h=>⟨J,J⟩⟩
  simp[Ex.dK]at j
end
def Dm(f:Ex->Ex->L):X Ex->X Ex->L
 | x::s,y::a=>f x y&&Dm f s a
 | _,_=>aF
def Dp(t:L)(x y:Ex):L:=(((((x.k !=y.k)||(x.n !=y.n))||(!VM (x.s=y.s)))||(x.op !=y.op))||(t&&(x.a !=y.a)))||(Z8 x.dK !=(Z8 y.dK:Int))
def rq(t:L):Nat->Ex->Ex->L
 | 0,_,_=>aF
 | d+1,x,y=>if Dp t x y then aM else Dm (rq t d) x.dK y.dK
def ada{f}{s a:X Ex}{n}{x y}(b:s[n]? =Hg x)(c:a[n]? =Hg y):Dm f (s.drop n) (a.drop n)=(f x y&&Dm f (s.drop (n+1)) (a.drop (n+1))):=by
 have e:∀{l:X Ex} {z:Ex},l[n]? =Hg z->l.drop n=z::l.drop (n+1):=λh=>by
  rw[gA (bd.1 h).1,(bd.1 h).2]
 rw[e b,e c,Dm]
def iC l m:((T l).toList==(T m).toList)=VM (l=m):=acx l m
def MQ t:∀d {e:Nat} {w:aw} {F G:aK} {x y:Ex} {c g:aJ},vS d w F x c->vS e w G y g->
  aA ar 161 #[ai c.toArray,ai g.toArray,ak t] w λr b=>r=ao (ak (rq t d x y))/\az [] w b
 | 0,_,_,_,_,_,_,_,_,h,_=>h.elim
 | d+1,0,_,_,_,_,_,_,_,_,h=>h.elim
 | d+1,e+1,w,F,G,x,y,c,g,⟨sl,B,j⟩,⟨sl',C,q⟩=>by
  subst B C;refine ret (ar8 ?_);intro X Y H Q M ki V o;have D:=j.len;have E:=q.len;have L:=j.cap;have A:=j.big;have h:((((((x.k !=y.k)||(x.n !=y.n))||(!((T x.s).toList==(T y.s).toList)))||(x.op !=y.op))||(t&&(x.a !=y.a)))||(sl.n !=(sl'.n:Int)))=Dp t x y:=by
   rw[iC,D,E];rfl
  rw[h];refine⟨λhc=>⟨by rw[rq,K hc],o⟩,λhc=>?_⟩;have N:=by
   rw[Dp]at hc;rw[fN]at hc;have:=hc.2;simp at this;omega
  rw[rq,W Zs];refine⟨λv u b=>∃n,n<=Z8 x.dK/\u=n/\v=(Z8 x.dK)-n/\Dm _ x.dK y.dK=Dm (rq t d) (x.dK.drop n) (y.dK.drop n)/\az [] w b/\H.heap.size<=b.heap.size,Z8 x.dK,⟨0,J,I,I,I,o,J⟩,?_⟩;rintro v _ w1 ⟨n,P,rfl,rfl,m,i,z1⟩;refine⟨λl=>?_,λz=>?_⟩
  .have l:=aO l;have⟨p,x1,XE,g1,g2,g3,g4,g5,g6⟩:=(Aw (jH d) Z j i R).get J l;have⟨p',y1,aC,m1,m2,m3,m4,m5,m6⟩:=(Aw (jH e) Z q i R).get (i:=n) J J;rw[aW]at g2 m2;refine⟨p,g1,λw2 T=>?_⟩;have am:=i.cn T;have A7:=gX g6 T;have aS:=gX m6 T;have tc:∃(k n:Int) (s:S) (aT:Int) (y:Sl) (a:Int),XE=nI k n s aT y a:=by
    cases d with
    | zero=>exact g6.elim
    | succ d=>obtain⟨y,a,_⟩:=g6;exact⟨_,_,_,_,y,_,a⟩
   have td:∃(k n:Int) (s:S) (aT:Int) (y:Sl) (a:Int),aC=nI k n s aT y a:=by
    cases e with
    | zero=>exact m6.elim
    | succ e=>obtain⟨y,a,_⟩:=m6;exact⟨_,_,_,_,y,_,a⟩
   obtain⟨a1,a2,a3,a4,a5,a6,rfl⟩:=tc;obtain⟨A,b2,b3,b4,b5,b6,rfl⟩:=td;refine⟨_,_,_,_,_,_,g5.keep (T.block _ g5.lt R),p',m1,_,_,_,_,_,_,m5.keep (T.block _ m5.lt R),(MQ t d A7 aS).mono ?_⟩;rintro _ w3 ⟨rfl,p⟩;have z2:=T.size;have z3:=p.size;have ky:=ada (f:=rq t d) g2 m2;refine⟨_,I,p.same (by
    simp;omega),λhb=>⟨?_,am.cn p⟩,λhb=>⟨(Z8 x.dK)-_,J,n+1,J,TE,I,?_,am.cn p,J⟩⟩
   .rw[m,ky];have hb:=Ma
    rw[hb,di]
   have hb:=Ma
   rw[m,ky,hb,cr]
  have z:=aR z;have:n=Z8 x.dK:=J
  subst this;rw[m,dJ J];exact⟨I,i⟩
def lK{d}{w}{F}{x}{cs}(h:vS d w F x cs):∃sl,cs=nI x.k x.n x.s x.op sl x.a:=by
 cases d with
 | zero=>exact h.elim
 | succ d=>obtain⟨l,g,_⟩:=h;exact⟨l,g⟩
def xI:Nat->Ex->Prop
 | 0,_=>True
 | d+1,x=>Z8 x.s<4611686018427387903/\∀y,y∈x.dK->xI d y
def xp(f:Ex->Nat):X Ex->Nat
 | []=>0
 | x::s=>f x+xp f s
def sO:Nat->Ex->Nat
 | 0,_=>0
 | d+1,x=>1+xp (sO d) x.dK
def lq:Nat->Ex->Prop
 | 0,_=>True
 | d+1,x=>rX x.n/\∀y,y∈x.dK->lq d y
def ad0 t x:Dp t x x=aM:=by simp[Dp]
def aek t:∀d x,rq t d x x=aF
 | 0,_=>rfl
 | d+1,x=>by
  rw[rq,W (by rw[ad0];decide)];have:∀l,Dm (rq t d) l l=aF:=λl=>by
   induction l with
   | nil=>rfl
   | cons y l i=>rw[Dm,aek t d y,i];rfl
  exact this _
def dI(l:S):L:=VM (l≠[]/\Z8 l<=24)&&(match l with
 | c::_=>fT c
 | []=>aM)&&VM (l.takeWhile fF=l)&&!kI.contains l
def UO{w} l (j:Z8 l<9223372036854775807):
  aA ar 278 #[ae (T l)] w λe a=>e=ao (ak (dI l))/\az [] w a:=by
 refine ret (alf ?_);intro k m Q L d;have g:(aq #[])=T []:=I;rw[cH,g,iC];refine⟨λb s i a=>b=dI l/\az [] w a,λb s i a f=>⟨by rw[f.1],f.2⟩,λh=>?_,λh=>⟨?_,d⟩⟩
 .simp at h;have⟨t,u⟩:=h;have u:Z8 l<=24:=J
  obtain⟨c,r,rfl⟩:∃c r,l=c::r:=by
   cases l with
   | nil=>exact absurd I t
   | cons c r=>exact⟨c,r,I⟩
  have o:dI (c::r)=(fT c&&VM ((c::r).takeWhile fF=c::r)&&!kI.contains (c::r)):=by
   rw[dI];rw[bF ⟨t,u⟩,cr]
  refine⟨c,⟨J,I⟩,(Df m c).mono ?_⟩;rintro _ v ⟨rfl,p⟩;have z:=d.cn p;refine⟨_,I,p.same C,λb B=>?_,λb=>⟨by rw[o,b];rfl,z⟩⟩;refine(UD (i:=0) (r:=[]) B J j).mono ?_;rintro _ w ⟨rfl,e⟩;rw[fA];have q:aG w k 200 [ae _,O U 0]:=(e.block k B.lt R).trans B;refine⟨_,I,T _,0,q,?_⟩;rw[iC];refine⟨λn=>(OE w).mono ?_,λn=>⟨?_,z.cn e⟩⟩
  .rintro _ x ⟨s,rfl,l,D⟩;have c:aG x k 200 [ae _,O U 0]:=(D.block k q.lt R).trans q;refine⟨s,I,T _,0,c,(vP (pT l) _).mono ?_⟩;rintro _ y ⟨rfl,P⟩;exact⟨_,I,_,_,(P.block k c.lt R).trans c,by rw[o,b,n];rfl,z.cn (e.cn (D.cn P))⟩
  rw[o,b,n];rfl
 unfold dI;rw[bC]
 .rfl
 rintro⟨b,c⟩;rw[bC b,bF J]at h;cases h
def B(x:Ex):Int:=if x.k=5 then gj x.op else 6
def rr{w}{F}{x}{cs}{d}(h:vS d w F x cs):aA ar 398 #[ai cs.toArray] w λe a=>e=ao (O U (B x))/\az [] w a:=by
 cases d with
 | zero=>exact h.elim
 | succ d=>
  obtain⟨sl,rfl,h⟩:=h;refine ret (asd ?_);refine⟨λhc c f _ _ b=>?_,λhc e w k r b=>(MP w x.op).mono ?_⟩
  .have hc:=R0
   rw[B,W hc];exact⟨I,b⟩
  rintro _ d ⟨rfl,rfl⟩;rw[B,K R0];exact⟨_,I,λ_ _=>I,I,b⟩
def RJ(n:Int)(s:S)(op len:Int)(x:Ex):L:=((((x.n==n)&&VM (x.s=s))&&(x.op==op))&&(Z8 x.dK==len))
def iu(x:Ex):L:=
 if x.k=1 then RJ (if 0>x.n then 0 else x.n) [] 0 0 x
 else if x.k=2∨x.k=3 then dI x.s&&RJ 0 x.s 0 0 x
 else if x.k=4 then RJ 0 [] (if x.op=15 then 15 else 14) 1 x
 else if x.k=5 then !(gj x.op==6)&&RJ 0 [] x.op 2 x
 else aM
def kl(f:Ex->L):X Ex->L
 | []=>aF
 | x::s=>f x&&kl f s
def de:Nat->Ex->L
 | 0,_=>aM
 | d+1,x=>iu x&&kl (de d) x.dK
def Fm{f}{s:X Ex}{n}{x}(h:s[n]? =Hg x):kl f (s.drop n)=(f x&&kl f (s.drop (n+1))):=by
 rw[gA (bd.1 h).1,(bd.1 h).2,kl]
abbrev UZ(d:Nat):Prop:=∀{w:aw} {F:aK} {x:Ex} {c:aJ},xI d x->vS d w F x c->aA ar 373 #[ai c.toArray] w λe a=>e=ao (ak (de d x))/\az [] w a
def aeh{d}(S:UZ d){w}{F}{x}{cs}(l:xI d x)(h:vS d w F x cs):aA ar 396 #[ai cs.toArray] w λe a=>e=ao (ak (!de d x))/\az [] w a:=by
 obtain⟨sl,rfl⟩:=lK h;refine ret (asc ?_);intro b f k r O;refine(S l (gX h O)).mono ?_;rintro _ g ⟨rfl,c⟩;exact⟨_,I,c.same C,I,O.cn c⟩
def kTo{d:Nat}(S:UZ d){w}{F}{l}{xs}(k:∀y,y∈xs->xI d y)(h:aB (vS d) 6 w F l xs):aA ar 402 #[l.v,.func (.func 396) #[] #[]] w λe a=>∃i,e=ao (O U i)/\VM (i>=0)=!kl (de d) xs/\az [] w a:=by
 refine(alV l ⟨.func (.func 396) #[] #[],I⟩ (λv a=>∃i,v=O U i/\VM (i>=0)=!kl (de d) xs/\az [] w a) w ?_).mono (by
  rintro e a ⟨v,rfl,i,rfl,h⟩;exact⟨i,I,h⟩)
 have m:=h.len;have t:=h.big;have r:=h.cap;refine⟨λj i a=>∃n,n<=Z8 xs/\i=n/\j=(Z8 xs)-n/\kl (de d) xs=kl _ (xs.drop n)/\az [] w a,Z8 xs,⟨0,bh _,I,I,I,EC _ _⟩,?_⟩;rintro j _ p ⟨n,o,rfl,rfl,g,c⟩;refine⟨λb=>?_,λb=>?_⟩
 .have T:(n:Int)<l.n:=aO b;obtain⟨ad,x,w,u,e,z,A,v,s⟩:=(Aw (jH d) Z h c R).get (bc n) T;rw[aW]at e;obtain⟨sl,rfl⟩:=lK s;refine⟨ad,u,_,_,_,_,_,_,v,396,[],[],I,jB D,?_⟩;refine(aeh S (k x (bA e)) s).mono ?_;rintro _ B ⟨rfl,q⟩;have y:=Fm (f:=de d) e;refine⟨_,I,λhb=>⟨_,I,?_,c.cn q⟩,λhb=>⟨(Z8 xs)-_,J,n+1,J,TE,I,?_,c.cn q⟩⟩
  .have hb:de d x=aM:=Ma
   rw[g,y,hb,di,E5];exact bF (bc n)
  have hb:de d x=aF:=Ma
  rw[g,y,hb,cr]
 have f:=aR b;refine⟨_,I,?_,c⟩;rw[g,dJ J];rfl
def ai2{d}(S:UZ d){w}{F}{l}{xs}(c:∀y,y∈xs->xI d y)(h:aB (vS d) 6 w F l xs):aA ar 395 #[l.v,.func (.func 396) #[] #[]] w λe f=>e=ao (ak (!kl (de d) xs))/\az [] w f:=by
 refine ret (alS l ⟨.func _ #[] #[],I⟩ w ?_);refine(kTo S c h).mono ?_;rintro _ g ⟨i,rfl,a,b⟩;exact⟨_,I,by rw[a],b⟩
def OL:∀d,UZ d
 | 0,_,_,_,_,_,h=>h.elim
 | d+1,f,F,x,y,⟨p,o⟩,⟨sl,g,a⟩=>by
  subst g;refine ret (ar3 ?_);intro B t n Q z k A c;have h:∀{b:L},iu x=b->de (d+1) x=_:=λe=>by rw[de,e]
  have own:∀{w m:aw},az [] f w->az [t] w m->az [] f m:=λg a=>g.new a k;refine⟨λi q j v l u r w=>∃s,v=T s/\iu x=RJ j s l i x/\az [] f w/\n.heap.size<=w.heap.size,?_,λhk E D=>⟨[],I,?_,own c D,D.size⟩,λhk=>?_⟩
  .rintro i q j _ l u r w ⟨s,rfl,M,e,P⟩;have H:((((x.n==j)&&((T x.s).toList==(T s).toList))&&(x.op==l))&&((sl.n:Int)==i))=iu x:=by
    rw[M,iC,a.len];rfl
   rw[H];refine⟨λb N=>b=de _ x/\az [] f N,?_,λG=>(ai2 (OL d) o (Aw (jH d) Z a e R)).mono ?_,λG=>⟨by rw[h G,di],e⟩⟩
   .rintro _ m ⟨rfl,b⟩;exact⟨I,b⟩
   rintro _ b ⟨rfl,d⟩;exact⟨_,I,d.same C,by rw[h G,cr,Bool.not_not],e.cn d⟩
  .have hk:=Mi
   rw[iu,K hk]
  have k:=Mi
  refine⟨λb d=>b=VM (x.k=2∨x.k=3)/\d=n,?_,λmE=>⟨?_,I⟩,λmE=>⟨?_,I⟩⟩
  .rintro _ _ ⟨rfl,rfl⟩;refine⟨λhk=>(UO x.s J).mono ?_,λhk=>⟨λpV=>⟨λho G s=>⟨[],I,?_,own c s,s.size⟩,λho H e=>⟨[],I,?_,own c e,e.size⟩⟩,λpV=>⟨λmo=>(MP _ x.op).mono ?_,λmo=>⟨?_,c⟩⟩⟩⟩
   .rintro _ P ⟨rfl,N⟩;have T:=N.size;have hk:=aO hk;refine⟨_,I,N.same C,λhb=>⟨?_,c.cn N⟩,λhb S M=>⟨x.s,I,?_,own (c.cn N) M,by have:=M.size;omega⟩⟩
    .have hb:=Ma
     rw[h (b:=aM) (by rw[iu,W k,K hk,hb,di]),di]
    have hb:=Ma
    rw[iu,W k,K hk,hb,cr]
   .have hk:=aR hk;have pV:=TV
    have ho:=JB
    rw[iu,W k,W hk,K pV,K ho]
   .have hk:=aR hk;have pV:=TV
    rw[iu,W k,W hk,K pV,W JB]
   .rintro _ M ⟨rfl,rfl⟩;have hk:=aR hk;have pV:=TV
    have mo:=Vp
    refine⟨_,I,λ_ _=>I,λhb=>⟨?_,c⟩,λhb N x=>⟨[],I,?_,own c x,x.size⟩⟩
    .rw[h (b:=aM) (by rw[iu,W k,W hk,W pV,K mo,hb,Bool.not_true,di]),di]
    rw[iu,W k,W hk,W pV,K mo,hb,E5,cr]
   have pV:=TV
   have mo:=Vp
   rw[h (b:=aM) (by rw[iu,W k,W (aR hk),W pV,W mo]),di]
  .have mE:=Ri
   rw[mE];rfl
  rw[bL];simp[by simpa using mE]
def Tb(w:aw):Prop:=Lib.TabIs ar w "internal/strconv.uint64pow10" .u64 Lib.pow10Tab
def tb_num:Tryz.prog.globalNamed "internal/strconv.uint64pow10" =Hg 3:=D
def Tb.keep{w w'}(h:Tb w)(k:3<w.heap.size->w'.heap[3]? =w.heap[3]?):Tb w':=by
 unfold Tb Lib.TabIs World.var? at h⊢;rw[tb_num]at h⊢;simp at h⊢;rw[k]
 .exact h
 refine bM λn=>?_;rw[iq J]at h;cases h
def Tb.lt{w}(h:Tb w):3<w.heap.size:=by
 unfold Tb Lib.TabIs World.var? at h;rw[tb_num]at h;simp at h;refine bM λn=>?_;rw[iq J]at h;cases h
def Tb.only{w w'}(h:Tb w)(O:az [] w w'):Tb w':=h.keep λb=>O.block _ b R
def Only.grown w k os:az [] w (Go.Sort.grow (w.drewN k) os):=⟨I,I,I,R,λq h _=>by
 simp[Go.Sort.grow,World.heap_drewN];rw[Array.getElem?_append_left h]⟩
def Cb{w} n (h:rX n) (a:Tb w):aA ar 227 #[O U n] w λe b=>e=ao (ae (T (Lib.itoa n)))/\az [] w b:=by
 refine ret (v1w ?_);refine(Tryz.strconv_Itoa n h.1 h.2 w a).mono ?_;rintro _ c ⟨rfl,k,o,rfl⟩;exact⟨_,I,I,Only.grown _ _ _⟩
def Bf(w:aw)(B:Nat)(s:Sl)(l:S):Prop:=
 (s=Sl.nil/\l=[])∨∃g tail,s.a=Hg ⟨g,0,ZQ⟩/\B<=g/\aG w g 5 (l.map jk++tail)/\Z8 tail=s.c-s.n/\s.n=Z8 l/\s.n<=s.c/\s.c<=9223372036854775807/\0<s.c
def Bf.len{w}{B}{s}{l}(h:Bf w B s l):s.n=Z8 l:=by
 rcases h with⟨rfl,rfl⟩ | ⟨g,tail,_,_,_,_,h,_⟩
 .rfl
 exact h
def Bf.lt{w}{B}{s}{l}(b:Bf w B s l){g}(a:s.a=Hg ⟨g,0,ZQ⟩):B<=g/\g<w.heap.size:=by
 rcases b with⟨rfl,rfl⟩ | ⟨e,tail,h,c,d,_⟩
 .cases a
 rw[a]at h;injection h with h;injection h with h;subst h;exact⟨c,d.lt⟩
def Bf.keep{w w'}{B}{s}{l}(h:Bf w B s l)(k:∀g,s.a=Hg ⟨g,0,ZQ⟩->g<w.heap.size->w'.heap[g]? =w.heap[g]?):Bf w' B s l:=by
 rcases h with h | ⟨g,tail,a,c,b,d⟩
 .exact .inl h
 exact .inr ⟨g,tail,a,c,(k g a b.lt).trans b,d⟩
def amp l:Lib.strCells (T l)=l.map jk:=rfl
def Dr:Tryz.prog.underlying 256=Hg (.slice 5):=D
def afz:Tryz.prog.underlying 9=Hg .string:=D
def G4:Tryz.prog.info? 5=Hg Tryz.t5:=D
def Cd{w:aw}{B:Nat}{s:Sl}{l:S}(y:Bf w B s l)(m:S)(E:B<=w.heap.size)(F:Z8 l+Z8 m<=140737488355328):
  ∃d f,(Builtin.append_ #[256,9] 256 #[s.v,ae (T m)]).run ar w=.ok d.v f/\Bf f B d (l++m)/\aE (λk=>s.a=Hg ⟨k,0,ZQ⟩) w f/\(d.a=s.a∨d.a=Hg ⟨w.heap.size,0,ZQ⟩):=by
 have t:=Dr;have u:=afz;have i:=G4;have K:Tryz.t5.size=1:=I;have j:Tryz.t5.bytes=1:=I;have r:Tryz.t5.zero=Hg (.int .u8 0):=I;have hsz:(T m).size=Z8 m:=cH m;have grown:∀(gM a:Nat),gM=Z8 l+(Z8 m)->0<Z8 l+(Z8 m)->∀cells:Array ay,cells=((l++m).map jk).toArray++Builtin.zeroCells (Value.int .u8 0).cells (grownCap w gM a 5-gM)->
   Bf (w.drew.alloc (.cells cells 5)) B ⟨Hg ⟨w.heap.size,0,ZQ⟩,gM,grownCap w gM a 5⟩ (l++m)/\aE (λk=>s.a=Hg ⟨k,0,ZQ⟩) w (w.drew.alloc (.cells cells 5)):=by
  rintro gM a rfl b cells rfl;have c:az [] w (w.drew.alloc (.cells (((l++m).map jk).toArray++Builtin.zeroCells (Value.int .u8 0).cells (grownCap w (Z8 l+Z8 m) a 5-(Z8 l+Z8 m))) 5)):=(Only.drew w).cn (WJ _ _);refine⟨.inr ⟨w.heap.size,(Builtin.zeroCells (Value.int .u8 0).cells (grownCap w (Z8 l+Z8 m) a 5-(Z8 l+Z8 m))).toList,I,E,?_,?_,R,grownCap_ge _ _ _ _,grownCap_le_maxLen _ _ _ _ (by simp only[maxLen];omega),cD b (grownCap_ge _ _ _ _)⟩,c.p0⟩
  .have e:∀(x:aJ) (z:Array ay),x.toArray++z=(x++z.toList).toArray:=λx z=>R
   rw[e];exact KC w.drew 5 _
  exact(yH w _ (size:=1) I).trans (qs _)
 rcases y with⟨rfl,rfl⟩ | ⟨g,tail,n,A,h,C,o,D,p,q⟩
 .cases m with
  | nil=>
   refine⟨Sl.nil,w,?_,.inl ⟨I,I⟩,Jk _ _,.inl I⟩;have c:=Lib.run_firstCells_string (P:=ar) w 1 (T []);have b:(T []).size=0:=I;rw[b]at c;simp[Sl.nil,Sl.v,Builtin.append_,run_underlying t,run_underlying u,sizeOf,typeInfo,i,K,Builtin.lenOf,b,c]
  | cons c m=>
   have e:=run_append_nil_string (P:=ar) w 256 9 256 5 Tryz.t5 (.int .u8 0) t u i r (T (c::m)) (by rw[hsz];simp) Pw (by rw[hsz,j];omega);rw[hsz]at e;obtain⟨s,v⟩:=grown (Z8 (c::m)) 0 R R _ I;have k:(T (c::m)).data.map (λb=>Value.int .u8 b.toNat)=(List.map jk ([]++c::m)).toArray:=by
    apply SX.1;rw[Array.toList_map,lG];rfl
   rw[k]at e;exact⟨_,_,e,s,v,.inr I⟩
 obtain⟨c,sn,sc⟩:=s;dsimp only at n C o D p q;subst n;by_cases b:sn+Z8 m<=sc
 .have k:=h;unfold aG at h;have s:=Lib.run_append_room_string (P:=ar) w 256 9 256 5 Tryz.t5 t u i K g sn sc _ h _ (by rw[hsz];exact b) (by
   rw[hsz,yD,aP,bQ];omega)
  rw[hsz,amp]at s;refine⟨⟨Hg ⟨g,0,ZQ⟩,sn+Z8 m,sc⟩,_,s,.inr ⟨g,tail.drop (Z8 m),I,A,?_,?_,by dsimp only;rw[aP];omega,b,p,q⟩,(Zn w g _).p λx v=>.inl (by simp only[aV]at v;rw[v]),.inl I⟩
  .have:=k.setRow ((l++m).map jk++tail.drop (Z8 m));have e:((l.map jk++tail).toArray.toList.take sn++m.map jk++(l.map jk++tail).toArray.toList.drop (sn+Z8 m))=(l++m).map jk++tail.drop (Z8 m):=by
    rw[lG,uM Nw,br Nw,List.drop_append,dJ Nw,cb,bQ,cX,o,eo]
   rw[e];exact this
  rw[bZ];dsimp only;omega
 have X:∀e v,(l.map jk)[e]? =Hg v->w.cell? ((⟨g,0,ZQ⟩:Addr).add e)=Hg v:=λe v hj=>h.cells 0 (l.map jk) (λe v hj=>JV) e v hj;have k:=Lib.run_append_grow_string (P:=ar) w 256 9 256 5 Tryz.t5 (.int .u8 0) t u i r ⟨g,0,ZQ⟩ sn sc (l.map jk) (by rw[K,bQ];omega) X _ Pw Pw (growslice_fits Pw (by rw[hsz,j];omega));rw[hsz,amp]at k;obtain⟨s,x⟩:=grown (sn+Z8 m) sc J J _ I;refine⟨_,_,k.trans ?_,s,x,.inr I⟩;simp[cX]
def adf w F:∀l,ql nB 1 w F l (l.map λb=>[jk b])
 | []=>trivial
 | c::l=>⟨⟨I,I⟩,adf w F l⟩
def US:∀l:S,(l.map λb=>[jk b]).flatten=l.map jk
 | []=>rfl
 | c::l=>by rw[cu,fk,US l];rfl
def itV{w}{F}:∀{l:S} {s:X _},ql nB 1 w F l s->s.flatten=l.map jk
 | [],[],_=>rfl
 | c::l,d::s,h=>by
  obtain⟨⟨_,a⟩,b⟩:=h;subst a;rw[fk,itV b];rfl
def Bf.own{w}{B}{s}{l}(h:Bf w B s l) F:Own nB 1 5 B w F s l:=by
 rcases h with h | ⟨g,tail,a,c,d,e,f,i,j,_⟩
 .exact .inl h
 exact .inr ⟨g,l.map λb=>[jk b],tail,a,c,by rw[US];exact d,by rw[qs];exact e,f,i,j,adf _ _ _⟩
def Bf.of{w}{B}{s}{l}{F}(h:Own nB 1 5 B w F s l)(m:0<Z8 l):Bf w B s l:=by
 rcases h with h | ⟨g,c,tail,a,b,d,e,f,i,j,k⟩
 .exact .inl h
 exact .inr ⟨g,tail,a,b,by rw[<-itV k];exact d,by rw[e,qs],f,i,j,J⟩
structure Pg (G:aK) (w:aw) (b:Nat) (sl sn:Sl) (l:S):Prop where
 blk:∃q:Option Addr,(q=ZQ∨q=Hg ⟨b,0,ZQ⟩)/\aG w b 394 [ah q,sl.v,sn.v]
 buf:Bf w (b+1) sl l
 sig:aB ju 1 w G sn xX
 hG:∀k,G k->k<b
def jV(b:Nat)(sl:Sl)(w:aw)(sl':Sl)(a:aw):Prop:=aE (λk=>k=b∨sl.a=Hg ⟨k,0,ZQ⟩) w a/\∀k,sl'.a=Hg ⟨k,0,ZQ⟩->sl.a=Hg ⟨k,0,ZQ⟩∨w.heap.size<=k
def jV.refl b sl w:jV b sl w sl w:=⟨Jk _ _,λ_ h=>.inl h⟩
def UI:=@jV.refl
def jV.trans{b}{sl sl' SG}{w w' tQ}(a:jV b sl w sl' w')(k:jV b sl' w' SG tQ):jV b sl w SG tQ:=by
 have z:=a.1.size;refine⟨a.1.trans k.1 λx h=>?_,λx h=>?_⟩
 .rcases h with h | h
  .exact .inl (.inl h)
  rcases a.2 x h with e | e
  .exact .inl (.inr e)
  exact .inr e
 rcases k.2 x h with e | e
 .exact a.2 x e
 exact .inr J
def jV.only{b}{sl}{w w'}(h:az [] w w'):jV b sl w sl w':=⟨h.p0,λ_ h=>.inl h⟩
def TM:=@jV.only
def jV.same{b}{sl sl'}{w w'}(a:jV b sl w sl' w'){k}(c:k≠b)(s:sl.a≠Hg ⟨k,0,ZQ⟩)(l:k<w.heap.size):cF [k] w w':=a.1.same (by
 intro x h;simp at h;subst h;exact⟨l,λe=>e.elim c s⟩)
def Pg.only{G}{w w'}{b}{sl sn}{l}(h:Pg G w b sl sn l)(O:az [] w w'):Pg G w' b sl sn l:=by
 obtain⟨q,c,B⟩:=h.blk;exact⟨⟨q,c,O.blk B R⟩,h.buf.keep λg _ a=>O.block g a R,Aw cx Z h.sig O R,h.hG⟩
def Pg.lb{G}{w}{b}{sl sn}{l}(h:Pg G w b sl sn l):b<w.heap.size:=by
 obtain⟨q,a,B⟩:=h.blk;exact B.lt
def adg v w:(Rw 341 #[v]).run ar w=.ok v w:=by
 unfold Rw;rw[Sem.run_bind,run_callFunc_extern Tryz.func341 D D D (e:=Extern.AbiNoEscape.same) D];rfl
def OM{w}{b}{q}{sl sn:Sl}(c:q=ZQ∨q=Hg ⟨b,0,ZQ⟩)(h:aG w b 394 [ah q,sl.v,sn.v]):
  aA ar 311 #[ah (Hg ⟨b,0,ZQ⟩)] w λe a=>e=ao (aj #[])/\az [b] w a/\aG a b 394 [ah (Hg ⟨b,0,ZQ⟩),sl.v,sn.v]:=by
 refine ret (ac8 ?_);have W:w.shape? b=Hg (394,3):=by
  unfold World.shape?;rw[h];rfl
 refine⟨q,Mn h 0 I,λn=>?_,λn=>⟨q,Mn h 0 I,?_⟩⟩
 .have r:=Lib.run_from_unsafe (P:=ar) (src:=361) (dst:=272) w ⟨b,0,ZQ⟩ (u:=274) (j:=Tryz.t274) D D D W D;exact⟨_,w,Lib.run_to_unsafe (P:=ar) (src:=272) (dst:=361) w ⟨b,0,ZQ⟩ (t:=274) (j:=Tryz.t274) D D D Z W (by decide:(0:Nat)<3),⟨ah _,I⟩,w,adg _ w,Hg ⟨b,0,ZQ⟩,w,r,b,0,_,_,I,h,R,λd O B=>⟨I,O,B⟩⟩
 rcases c with rfl | rfl
 .cases n
 exact⟨aM,w,Lib.run_neq_ptr_same w _ (te:=274) (j:=Tryz.t274) D D,λe=>Jh,λ_=>⟨I,EC _ _,h⟩⟩
section
variable {G:aK} {w:aw} {b:Nat} {sl sn:Sl} {l:S}
def afA(h:Pg G w b sl sn l):aA ar 284 #[ah (Hg ⟨b,0,ZQ⟩)] w λe a=>e=ao (O U (Z8 l))/\a=w:=by
 refine ret (ac6 _ _ ?_);obtain⟨q,c,B⟩:=h.blk;exact⟨sl,Mn B 1 I,by rw[h.buf.len],I⟩
def rQ(h:Pg G w b sl sn l) m (hm:Z8 l+Z8 m<=140737488355328):aA ar 275 #[ah (Hg ⟨b,0,ZQ⟩),ae (T m)] w λe i=>
  ∃sl',e=ao (aj #[O U (Z8 m),.nilIface])/\Pg G i b sl' sn (l++m)/\jV b sl w sl' i:=by
 refine iE (ac5 ?_);obtain⟨q,j,B⟩:=h.blk;refine(OM j B).mono ?_;rintro _ u ⟨rfl,c,r⟩;have z:=c.size;have t:=B.lt;have Ad:=h.buf.keep λg hg d=>c.block g d (by have:=(h.buf.lt hg).1;simp;omega);obtain⟨s,p,n,o,k3,f⟩:=Cd Ad m J hm;have F6:∀g,s.a=Hg ⟨g,0,ZQ⟩->b<g:=λg hg=>by
  rcases f with e | e
  .rw[e]at hg;exact(Ad.lt hg).1
  rw[e]at hg;injection hg with hg;injection hg with hg;omega
 refine⟨I,sl,Mn r 1 I,s,p,n,b,1,_,_,I,k3.blk r λe=>Wk,R,λv a Y=>⟨s,I,⟨⟨_,.inr I,Y⟩,o.keep λg hg d=>a.block g d Uy,?_,h.hG⟩,?_,?_⟩⟩
 .exact Aw cx Z (Rx cx Z (Aw cx Z h.sig c λk hk _ hm=>ZP) k3 λk hk _ hm=>by have:=h.hG k hk;have:=(Ad.lt hm).1;omega) a λk hk _ hm=>ZP
 .refine((c.p (F:=λk=>k=b∨sl.a=Hg _) λx hx=>.inl (.inl KB)).trans k3 λk hk=>.inl (.inr hk)).trans (a.p (F:=λk=>k=b) λx hx=>.inl KB) λk hk=>.inl (.inl hk)
 intro k hk;rcases f with e | e
 .rw[e]at hk;exact .inl hk
 rw[e]at hk;injection hk with hk;injection hk with hk;exact .inr J
def adh(h:Pg G w b sl sn l) c (hm:Z8 l+1<=140737488355328):Uz ⟨b,0,ZQ⟩ c.toNat (λv o=>∃sl',v=.nilIface/\Pg G o b sl' sn (l++[c])/\jV b sl w sl' o) w:=by
 obtain⟨q,p,B⟩:=h.blk;refine(OM p B).mono ?_;rintro _ K ⟨rfl,d,j⟩;have T:=d.size;have Q:=B.lt;have Ad:=h.buf.keep λg hg a=>d.block g a (by have:=(h.buf.lt hg).1;simp;omega);obtain⟨y,L,u,z,k3,_⟩:=uj K [c] (n:=1) (parts:=#[_]) I I Z Z;have U:=k3.size;obtain⟨s,M,A,C,N,D,E,m⟩:=tZ (P:=ar) (t:=256) (ty:=256) (e:=5) (i:=Tryz.t5) (bytes:=1) (size:=1) (r:=nB) Dr G4 I I I I si ((Ad.keep λg hg a=>k3.block g a R).own λ_=>True) ((yZ z).mono si λk hk=>⟨trivial,λe=>by have:=(Ad.lt e).2;have:=hk.1;omega⟩) J Vm Z;have O:=D.p λx hx=>.inl (E x hx).1;have F6:∀g,s.a=Hg ⟨g,0,ZQ⟩->b<g:=λg hg=>by
  rcases m with e | e
  .rw[e]at hg;exact(Ad.lt hg).1
  rw[e]at hg;injection hg with hg;injection hg with hg;omega
 refine⟨I,sl,Mn j 1 I,y,L,u,s,M,A,b,1,_,_,I,O.blk (k3.blk j R) λe=>Wk,R,λS f H=>⟨s,I,⟨⟨_,.inr I,H⟩,(Bf.of C R).keep λg hg a=>f.block g a Uy,?_,h.hG⟩,?_,?_⟩⟩
 .exact Aw cx Z (Rx cx Z (Aw cx Z h.sig (d.cn k3) λk hk _ hm=>ZP) O λk hk _ hm=>by have:=h.hG k hk;have:=(Ad.lt hm).1;omega) f λk hk _ hm=>ZP
 .refine(((d.cn k3).p (F:=λk=>k=b∨sl.a=Hg _) λx hx=>.inl (.inl KB)).trans O λk hk=>.inl (.inr hk)).trans (f.p (F:=λk=>k=b) λx hx=>.inl KB) λk hk=>.inl (.inl hk)
 intro k hk;rcases m with e | e
 .rw[e]at hk;exact .inl hk
 rw[e]at hk;injection hk with hk;injection hk with hk;exact .inr J
def aaa(h:Pg G w b sl sn l) c (m:Z8 l+1<=140737488355328):aA ar 397 #[ah (Hg ⟨b,0,ZQ⟩),.int .u8 c.toNat] w λe a=>
 ∃sl',e=ao .nilIface/\Pg G a b sl' sn (l++[c])/\jV b sl w sl' a:=(alT w (adh h c m)).mono (by
 rintro e a ⟨v,rfl,s,rfl,h⟩;exact⟨s,I,h⟩)
def aab(h:Pg G w b sl sn l) c (m:Z8 l+1<=140737488355328):mH ar 397 #[ah (Hg ⟨b,0,ZQ⟩),.int .u8 c.toNat] w λv a=>
 ∃sl',v=.nilIface/\Pg G a b sl' sn (l++[c])/\jV b sl w sl' a:=aed w (adh h c m)
structure Pt (w:aw) (b:Nat) (sl:Sl) (l:S):Prop where
 blk:∃q sn:ay,aG w b 394 [q,sl.v,sn]
 len:sl.n=Z8 l
 Hg:l≠[]->∃g,sl.a=.some ⟨g,0,ZQ⟩/\b<g/\sl.c≠0/\(∃n,w.shape? g=.some (5,n)/\Z8 l<=n)/\aD w ⟨g,0,ZQ⟩ (l.map jk)
 cap:sl.a=ZQ∨sl.c≠0
 big:Z8 l<=9223372036854775807
def cvP{w a:aw}{g}(h:a.heap[g]? =w.heap[g]?):a.shape? g=w.shape? g:=by
 unfold World.shape?;rw[h]
def Pt.only{w'}(j:Pt w b sl l)(h:az [] w w'):Pt w' b sl l:=by
 obtain⟨⟨q,sn,m⟩,o,p,r,s⟩:=j;refine⟨⟨q,sn,h.blk m R⟩,o,λu=>?_,r,s⟩;obtain⟨g,c,d,e,⟨n,a,f⟩,i⟩:=p u;have t:g<w.heap.size:=by
  refine bM λn=>?_;unfold World.shape? at a;rw[iq J]at a;cases a
 have k:=h.block g t R;exact⟨g,c,d,e,⟨n,(cvP k).trans a,f⟩,i.keep k⟩
def Pg.pt(h:Pg G w b sl sn l):Pt w b sl l:=by
 obtain⟨q,c,B⟩:=h.blk;refine⟨⟨_,_,B⟩,h.buf.len,λa=>?_,?_,?_⟩
 .rcases h.buf with⟨_,e⟩ | ⟨g,tail,d,f,b,i,j,k,l,m⟩
  .exact absurd e a
  refine⟨g,d,f,J,⟨_,by unfold World.shape?;unfold aG at b;rw[b],R⟩,b.cells 0 _ λe v hj=>JV⟩
 .rcases h.buf with⟨e,_⟩ | _
  .exact .inl UK
  exact .inr J
 rcases h.buf with⟨_,e⟩ | _
 .subst e;simp
 omega
end
def afW{w:aw} p n a:(w.freeze p n).shape? a=w.shape? a:=by
 rw[World.freeze];split
 .rfl
 unfold World.shape?;simp[En];by_cases b:p.block=a
 .rw[K b];rcases h:w.heap[a]? with _|o
  .rfl
  cases o with
  | cells c e f=>obtain _:=f;rfl
  | _=>rfl
 rw[W b]
section
variable {w:aw} {b:Nat} {sl:Sl} {l:S}
def UT(i:Pt w b sl l):aA ar 230 #[ah (Hg ⟨b,0,ZQ⟩)] w λe g=>e=ao (ae (T l))/\Pt g b sl l/\aE (λk=>b<k/\sl.a=Hg ⟨k,0,ZQ⟩) w g:=by
 refine ret (ac1 ?_);intro c d;obtain⟨⟨q,sn,h⟩,f,L,r,t⟩:=i.only d;refine⟨λk=>k=b,sl,Mn h 1 I,I,sl,Mn h 1 I,sl.a,c,?_,λk _ _=>I,?_⟩
 .have⟨s,n,sc⟩:=sl;rcases s with _|a
  .exact Lib.run_unsafeSliceData_nil _ _ _ _ _
  rcases r with e | e
  .cases e
  exact Lib.run_unsafeSliceData_row _ _ _ _ _ _ e
 by_cases a:l=[]
 .subst a;refine⟨T [],c,?_,λk _ _=>I,I,⟨⟨q,sn,h⟩,f,L,r,t⟩,d.p0⟩;rw[f];exact Lib.run_unsafeString_none _ _ _ _ _
 have⟨b,e,Q,w,⟨p,u,o⟩,y⟩:=L a;have F:=vR c ⟨b,0,ZQ⟩ (Z8 l);refine⟨T l,c.freeze _ (Z8 l),?_,λk m s=>F.block k s Sb,I,⟨⟨q,sn,F.blk h Sb⟩,f,λ_=>⟨b,e,Q,w,⟨p,(afW _ _ _).trans u,o⟩,λn v j=>by rw[vQ];exact y n v j⟩,r,t⟩,d.AY (F.mono λk _ m=>by dsimp only at m;subst m;exact⟨Q,e⟩)⟩;rw[e,f];exact Lib.run_unsafeString_row _ _ _ _ 5 D D b p u l a o t λn x j=>y n _ (by rw[dr,j];rfl)
end
def opn(wr:L)(l:S):S:=if wr then l++[40]else l
def clo(wr:L)(l:S):S:=if wr then l++[41]else l
def qz:Nat->Ex->L->S->S
 | 0,_,_,l=>l
 | d+1,x,wr,l=>if 16384<Z8 l then l else clo wr (
  if x.k=1 then opn wr l++Lib.itoa x.n
  else if x.k=2 then opn wr l++x.s
  else if x.k=3 then opn wr l++([105,110,40]++x.s++[41])
  else if x.k=4 then(match x.dK with
   | [y]=>qz d y (VM (B y<6)) (opn wr l++eP x.op.toNat)
   | _=>l)
  else(match x.dK with
   | [y,z]=>qz d z (VM (B z<=B x)) (qz d y (VM (B y<B x)) (opn wr l)++([32]++eP x.op.toNat++[32]))
   | _=>l))
section
variable {x:Ex}
def xJ{n}{s}{op len}(h:RJ n s op len x=aF):x.n=n/\x.s=s/\x.op=op/\Z8 x.dK=len:=by
 simp[RJ,H,eX,bU]at h;exact⟨h.1.1.1,h.1.1.2,h.1.2,h.2⟩
def kb(h:iu x=aF)(k:x.k=2∨x.k=3):dI x.s=aF:=by
 have a:x.k≠1:=J
 rw[iu,W a,K k,H]at h;exact h.1
def vT(h:iu x=aF)(k:x.k=4):∃y,x.dK=[y]/\(x.op=14∨x.op=15):=by
 rw[iu,W J,W J,K k]at h;obtain⟨_,_,a,d⟩:=xJ h;obtain⟨y,c⟩:=List.length_eq_one_iff.1 (show (Z8 x.dK)=1 by omega);refine⟨y,c,?_⟩;by_cases b:x.op=15
 .exact .inr b
 rw[W b]at a;exact .inl a
def qA(h:iu x=aF)(a:x.k≠1)(c:x.k≠2)(d:x.k≠3)(b:x.k≠4):x.k=5/\∃y z,x.dK=[y,z]/\1<=x.op/\x.op<=13:=by
 rw[iu,W a,W J,W b]at h;split at h
 .rename_i f;rw[H]at h;obtain⟨e,g⟩:=h;obtain _:=xJ g;have e:=by simpa using e
  have l:Z8 x.dK=2:=J
  obtain⟨y,z,i⟩:∃y z,x.dK=[y,z]:=by
   match m:x.dK,l with
   | [y,z],_=>exact⟨y,z,I⟩
  refine⟨f,y,z,i,?_⟩;unfold gj at e;refine bM λn=>e ?_;rw[W J,W J,W J,W J,W J,W J]
 cases h
def iH{s}(h:dI s=aF):Z8 s<=24:=by
 unfold dI at h;simp only[H]at h;exact(aO h.1.1.1).2
def ma n:Z8 (eP n)<=2:=by
 rcases oT n 16 with h | h
 .have:∀q,q<16->Z8 (eP q)<=2:=Z
  exact this n h
 unfold eP;rw[cR (h)];decide
def OO wr l:Z8 (opn wr l)<=Z8 l+1:=by
 unfold opn;cases wr<;>simp
def aac wr l:Z8 (clo wr l)<=Z8 l+1:=by
 unfold clo;cases wr<;>simp
def ur:∀d {x:Ex} wr l,de d x=aF->lq d x->Z8 (qz d x wr l)<=Z8 l+40*sO d x
 | 0,x,wr,l,h,_=>Rl
 | d+1,x,wr,l,h,⟨n,s⟩=>by
  rw[de,H]at h;obtain⟨b,a⟩:=h;have c:=OO wr l;rw[qz,sO];split
  .omega
  refine bp (aac _ _) ?_;split
  .rw[aP];have:=Lib.itoa_length_le x.n n.1 n.2;omega
  split
  .rename_i h;rw[aP];have:=iH (kb b (.inl h));omega
  split
  .rename_i h;rw[aP,aP,aP];have:=iH (kb b (.inr h));simp;omega
  split
  .rename_i h;obtain⟨y,e,_⟩:=vT b h;rw[e]at a s⊢;dsimp only;simp[kl,dR,xp]at a⊢;have:=ur d (VM (B y<6)) (opn wr l++eP x.op.toNat) a (s y R);rw[aP]at this;have:=ma x.op.toNat;omega
  rename_i k f k3 g;obtain⟨j,y,z,h,_⟩:=qA b k f k3 g;rw[h]at a s⊢;dsimp only;simp only[kl,dR,xp,H]at a⊢;have i:=ur d (VM (B y<B x)) (opn wr l) a.1 (s y R);have e:=ur d (VM (B z<=B x)) (qz d y (VM (B y<B x)) (opn wr l)++([32]++eP x.op.toNat++[32])) a.2 (s z R);rw[aP,aP,aP]at e;have:=ma x.op.toNat;simp only[aY,bE]at e;omega
end
structure Pz (d:Nat) (F G:aK) (k0 b:Nat) (sub sn:Sl) (subs:List Ex) (w:aw) (sl:Sl) (l:S):Prop where
 pg:Pg G w b sl sn l
 tb:Tb w
 own:k0≠b/\sl.a≠Hg ⟨k0,0,ZQ⟩/\k0<w.heap.size
 sb:aB (vS d) 6 w F sub subs
 hF:∀k,F k->k<b
 hT:3<b
section
variable {d:Nat} {F G:aK} {k0 b:Nat} {sx sn sl sl':Sl} {subs:X Ex} {w w' tQ:aw} {l l':S}
def Pg.out(h:Pg G w b sl sn l){k}(a:k<b):¬(k=b∨sl.a=Hg ⟨k,0,ZQ⟩):=by
 rintro(e | e)
 .omega
 have:=(h.buf.lt e).1;omega
def Pz.only(h:Pz d F G k0 b sx sn subs w sl l)(O:az [] w w'):Pz d F G k0 b sx sn subs w' sl l:=by
 have z:=O.size;exact⟨h.pg.only O,h.tb.only O,⟨h.own.1,h.own.2.1,by have:=h.own.2.2;omega⟩,Aw (jH d) Z h.sb O R,h.hF,h.hT⟩
def Pz.mv(h:Pz d F G k0 b sx sn subs w sl l)(p:Pg G w' b sl' sn l')(m:jV b sl w sl' w'):Pz d F G k0 b sx sn subs w' sl' l'/\cF [k0] w w'/\cj (λk=>k<b∨k=k0) w w':=by
 have z:=m.1.size;obtain⟨o,c,f⟩:=h.own;refine⟨⟨p,h.tb.keep λT=>m.1.block _ T (h.pg.out h.hT),⟨o,λe=>?_,J⟩,Rx (jH d) Z h.sb m.1 λk a _=>h.pg.out (h.hF k a),h.hF,h.hT⟩,m.same o c f,λk a T=>m.1.block k T ?_⟩
 .rcases m.2 k0 e with e | e
  .exact c e
  omega
 rcases a with a | rfl
 .exact h.pg.out a
 rintro(e | e)
 .exact o e
 exact c e
def jV.after(h:jV b sl w' sl' tQ)(O:az [] w w'):jV b sl w sl' tQ:=(TM O).trans h
def Pz.same(h:Pz d F G k0 b sx sn subs w sl l)(O:az [] w w'):cF [k0] w w':=O.same (by have:=h.own.2.2;simp;omega)
def Pz.sig(h:Pz d F G k0 b sx sn subs w sl l){op}(f:0<=op)(m:op<16):∃ad,cM sn op 1 ad/\aD w ad [ae (T (eP op.toNat))]:=by
 have n:=h.pg.sig.len;have o:Z8 xX=16:=I;obtain⟨ad,x,s,g,a,j,k,c,e⟩:=h.pg.sig.get f J;subst e;have i:eP op.toNat=x:=by unfold eP;rw[a];rfl
 subst i;exact⟨ad,g,c⟩
def Pz.sub(h:Pz d F G k0 b sx sn subs w sl l){i:Nat}{y}(c:subs[i]? =Hg y):∃ad s,cM sx i 6 ad/\ad.block<b/\aD w ad (nI y.k y.n y.s y.op s y.a)/\vS d w F y (nI y.k y.n y.s y.op s y.a):=by
 have n:=h.sb.len;have T:=(bd.1 c).1;obtain⟨ad,x,k,e,g,f,m,j,a⟩:=h.sb.get (bc i) J;rw[aW,c]at g;injection g with g;subst g;obtain⟨s,rfl⟩:=lK a;exact⟨ad,s,e,h.hF _ f,j,a⟩
end
abbrev PgC(d:Nat):Prop:=∀{G F:aK} {w:aw} {b:Nat} {sl sn:Sl} {l:S} {x:Ex} {c:aJ} wr,de d x=aF->lq d x->vS d w F x c->(∀k,F k->k<b)->Tb w->3<b->Pg G w b sl sn l->Z8 l+40*sO d x<=70368744177664->
 aA ar 374 #[ah (Hg ⟨b,0,ZQ⟩),ai c.toArray,ak wr] w λe a=>∃sl',e=ao (aj #[])/\Pg G a b sl' sn (qz d x wr l)/\jV b sl w sl' a
def VO s:aq #[105,110,40]++T s++aq #[41]=T ([105,110,40]++s++[41]):=by
 rw[show aq #[105,110,40]=T [105,110,40]from rfl,show aq #[41]=T [41]from rfl,fD,fD]
def Kx s:aq #[32]++T s++aq #[32]=T ([32]++s++[32]):=by
 rw[show aq #[32]=T [32]from rfl,fD,fD]
def BE c s:(c++T s).size=c.size+Z8 s:=by
 rw[show c=T c.data.toList from T_of c,fD,cH,cH,aP]
def mH.mono{P}{f}{a}{w}{Q Q'}(h:mH P f a w Q)(q:∀v b,Q v b->Q' v b):mH P f a w Q':=λc s k=>by
 obtain⟨e,u,b,fr,⟨d,v,g,i⟩,j⟩:=h c s k;exact⟨e,u,b,fr,⟨d,v,g,q _ _ i⟩,j⟩
def xY:∀d,PgC d
 | 0,_,_,_,_,_,_,_,_,_,_,_,_,h,_,_,_,_,_=>h.elim
 | d+1,g,F,p,b,sl,G,l,x,M,wr,u,⟨n,m⟩,⟨c,C,r⟩,j,D,h,hP,A=>by
  subst C;refine(ar4 ⟨b,0,ZQ⟩ x.k x.n (T x.s) x.op c x.a wr (λv w=>∃sl',v=aj #[]/\Pg g w b sl' G (qz (d+1) x wr l)/\jV b sl p sl' w) p ?_).mono (by
   rintro e w ⟨v,rfl,s,rfl,b⟩;exact⟨s,I,b⟩)
  have P:vS (d+1) p F x (nI x.k x.n x.s x.op c x.a):=⟨c,I,r⟩
  rw[de,H]at u;obtain⟨a,ha⟩:=u;rw[sO]at A;intro f E Q L o;have N:=hP.lb;have Y:Pz d F g f b c G x.dK E sl l:=⟨hP.only o,D.only o,⟨J,λe=>Vb,L⟩,Aw (jH d) Z r o R,j,h⟩
  refine(afA Y.pg).mono ?_;rintro _ t ⟨rfl,rfl⟩;refine⟨_,I,λ_ _=>I,λhc=>⟨sl,I,?_,(TM o)⟩,λhc=>?_⟩
  .rw[qz,K Ro];exact Y.pg
  have hc:¬16384<Z8 l:=M1
  have e:qz (d+1) x wr l=clo wr (
  if x.k=1 then opn wr l++Lib.itoa x.n
  else if x.k=2 then opn wr l++x.s
  else if x.k=3 then opn wr l++([105,110,40]++x.s++[41])
  else if x.k=4 then(match x.dK with
   | [y]=>qz d y (VM (B y<6)) (opn wr l++eP x.op.toNat)
   | _=>l)
  else(match x.dK with
   | [y,z]=>qz d z (VM (B z<=B x)) (qz d y (VM (B y<B x)) (opn wr l)++([32]++eP x.op.toNat++[32]))
   | _=>l)):=by rw[qz,W hc]
  have T:=OO wr l;refine⟨λs=>(aaa Y.pg 40 J).mono ?_,λs=>?_⟩
  .rintro _ w2 ⟨XD,rfl,Xq,xf⟩;obtain⟨X,NI,_⟩:=Y.mv Xq xf;have XG:l++[40]=opn wr l:=by unfold opn;rw[K s]
   rw[XG]at X;refine⟨⟨.nilIface,I⟩,I,NI,?_⟩;have V:∀{Iv:Sl} {w5:aw} {am:S},Pz d F g f b c G x.dK w5 Iv am->jV b XD w2 Iv w5->qz (d+1) x wr l=clo wr am->Z8 am<=Z8 l+40*(1+xp (sO d) x.dK)->mH ar 397 #[ah (Hg ((⟨b,0,ZQ⟩:Addr).add 0)),.int .u8 41] w5 λ_ w=>∃sl',(Value.tuple #[])=aj #[]/\Pg g w b sl' G (qz (d+1) x wr l)/\jV b sl p sl' w:=by
    intro Iv w5 am k i q z;have hd:=aab k.pg 41 J;refine mH.mono hd ?_;rintro v w ⟨sl',x,d,b⟩;refine⟨sl',I,?_,((xf.after o).trans i).trans b⟩;rw[q];unfold clo;rw[K s];exact d
   refine⟨λhk w3 db=>?_,λk1=>⟨λhk w7 ga=>?_,λk2=>⟨λhk=>⟨?_,?_,λdk dS=>?_⟩,λk3=>⟨λhk eM dF=>?_,λk4=>(rr (show vS (d+1) _ F x (nI x.k x.n x.s x.op c x.a)from⟨c,I,X.sb⟩)).mono ?_⟩⟩⟩⟩
   .have hk:x.k=1:=Mi
    have z:=X.only db;refine(Cb x.n n z.tb).mono ?_;rintro _ w4 ⟨rfl,d⟩;have b:=z.only d;have y:=Lib.itoa_length_le x.n n.1 n.2;refine⟨_,I,z.same d,(rQ b.pg (Lib.itoa x.n) J).mono ?_⟩;rintro _ w5 ⟨Iv,rfl,v,i⟩;obtain⟨k,q,_⟩:=b.mv v i;exact⟨_,⟨.nilIface,I⟩,I,q,V k ((i.after d).after db) (by rw[e,K hk]) UF⟩
   .have hk:x.k=2:=Mi
    have k1:x.k≠1:=J
    have z:=X.only ga;have q:=iH (kb a (.inl hk));refine(rQ z.pg x.s J).mono ?_;rintro _ v ⟨Iv,rfl,k,b⟩;obtain⟨d,i,_⟩:=z.mv k b;exact⟨_,⟨.nilIface,I⟩,I,i,V d (b.after ga) (by rw[e,W k1,K hk]) UF⟩
   .have hk:x.k=3:=Mi
    have b:=iH (kb a (.inr hk));rw[cH];omega
   .have hk:x.k=3:=Mi
    have b:=iH (kb a (.inr hk));rw[BE];have:(aq #[105,110,40]).size=3:=I;omega
   .have hk:x.k=3:=Mi
    have v:=iH (kb a (.inr hk));have d:=X.only dS;have y:Z8 ([105,110,40]++x.s++[41]:S)=Z8 x.s+4:=by
     rw[aP,aP];simp only[aY,bE];omega
    rw[VO];refine(rQ d.pg _ J).mono ?_;rintro _ z ⟨Iv,rfl,q,b⟩;obtain⟨i,k,_⟩:=d.mv q b;exact⟨_,⟨.nilIface,I⟩,I,k,V i (b.after dS) (by rw[e,W J,W J,K hk]) UF⟩
   .have hk:x.k=4:=Mi
    obtain⟨y,hy,rh⟩:=vT a hk;have SH:xp (sO d) x.dK=sO d y:=ZI
    have v:de d y=aF:=ZM
    have E4:lq d y:=m y Ui;have XJ:=ma x.op.toNat;have Ib:=X.only dF;obtain⟨q,hq,hB⟩:=Ib.pg.blk;obtain⟨ad,g1,g2⟩:=Ib.sig (op:=x.op) J J;refine⟨G,Mn hB 2 I,ad,g1,_,g2,(rQ Ib.pg (eP x.op.toNat) J).mono ?_⟩;rintro _ fR ⟨SI,rfl,aC,XK⟩;obtain⟨aS,aT,_⟩:=Ib.mv aC XK;refine⟨_,⟨.nilIface,I⟩,I,aT,λgV jt=>?_⟩;have NN:=aS.only jt;obtain⟨p1,sy,e1,e2,e3,e4⟩:=NN.sub (i:=0) (y:=y) RI;refine⟨λk=>k<b∨k=f,.inr I,p1,e1,.inl e2,_,_,_,_,_,_,e3,p1,e1,_,_,_,_,_,_,e3,(rr e4).mono ?_⟩;rintro _ iO ⟨rfl,z⟩;have NP:=NN.only z;have ce:=ur d (VM (B y<6)) (opn wr l++eP x.op.toNat) v E4;rw[aP]at ce;refine⟨_,I,NN.same z,VI z,(xY d (VM (B y<6)) v E4 (gX e4 z) j NP.tb h NP.pg UF).mono ?_⟩;rintro _ iz ⟨co,rfl,bv,XM⟩;obtain⟨bV,bY,cc⟩:=NP.mv bv XM;exact⟨I,bY,cc,V bV ((XK.after dF).trans ((XM.after z).after jt)) (by rw[e,W J,W J,W J,K hk,hy]) J⟩
   rintro _ li ⟨rfl,lV⟩;have k1:x.k≠1:=Sh
   have k2:x.k≠2:=Nn
   have k3:x.k≠3:=RO
   have k4:x.k≠4:=RY
   obtain⟨hk,y,z,hy,Xp,NA⟩:=qA a k1 k2 k3 k4;have SH:xp (sO d) x.dK=sO d y+sO d z:=ZI
   have A8:de d y=aF/\de d z=aF:=ZM
   have E4:lq d y:=m y Ui;have Tx:lq d z:=m z Ui;have XJ:=ma x.op.toNat;have cC:=X.only lV;refine⟨_,I,X.same lV,λjN mT=>?_⟩;have NQ:=cC.only mT;obtain⟨p1,sy,e1,e2,e3,e4⟩:=NQ.sub (i:=0) (y:=y) RI;refine⟨λk=>k<b∨k=f,.inr I,p1,e1,.inl e2,_,_,_,_,_,_,e3,p1,e1,_,_,_,_,_,_,e3,(rr e4).mono ?_⟩;rintro _ mD ⟨rfl,v⟩;have NR:=NQ.only v;have iN:=ur d (VM (B y<B x)) (opn wr l) A8.1 E4;refine⟨_,I,NQ.same v,VI v,(xY d (VM (B y<B x)) A8.1 E4 (gX e4 v) j NR.tb h NR.pg J).mono ?_⟩;rintro _ ra ⟨ip,rfl,dO,XN⟩;obtain⟨el,eQ,fd⟩:=NR.mv dO XN;refine⟨I,eQ,fd,λtw rV=>?_⟩;have Ic:=el.only rV;obtain⟨q,hq,hB⟩:=Ic.pg.blk;obtain⟨ad,g1,g2⟩:=Ic.sig (op:=x.op) J J;have xP:Z8 ([32]++eP x.op.toNat++[32]:S)=Z8 (eP x.op.toNat)+2:=by
    rw[aP,aP];simp only[aY,bE];omega
   have BO:(aq #[32]).size=1:=I;refine⟨G,Mn hB 2 I,ad,g1,_,g2,R5,by rw[BE];omega,?_⟩;rw[Kx];refine(rQ Ic.pg _ J).mono ?_;rintro _ vh ⟨iD,rfl,f5,XO⟩;obtain⟨ge,gE,_⟩:=Ic.mv f5 XO;refine⟨_,⟨.nilIface,I⟩,I,gE,λpN xz=>?_⟩;have NS:=ge.only xz;obtain⟨p2,sz,f1,f2,f3,f4⟩:=NS.sub (i:=1) (y:=z) RI;refine⟨λk=>k<b∨k=f,.inr I,p2,f1,.inl f2,_,_,_,_,_,_,f3,p2,f1,_,_,_,_,_,_,f3,(rr f4).mono ?_⟩;rintro _ qR ⟨rfl,jX⟩;have NT:=NS.only jX;have gG:=ur d (VM (B z<=B x)) (qz d y (VM (B y<B x)) (opn wr l)++([32]++eP x.op.toNat++[32])) A8.2 Tx;rw[aP,xP]at gG;refine⟨_,I,NS.same jX,VI jX,(xY d (VM (B z<=B x)) A8.2 Tx (gX f4 jX) j NT.tb h NT.pg (by rw[aP,xP];omega)).mono ?_⟩;rintro _ tB ⟨iF,rfl,gO,XP⟩;obtain⟨gT,g8,g9⟩:=NT.mv gO XP;exact⟨I,g8,g9,V gT (((XN.after v).after mT).after lV |>.trans ((XO.after rV).trans ((XP.after jX).after xz))) (by rw[e,W k1,W k2,W k3,W k4,hy]) J⟩
  have XG:l=opn wr l:=by unfold opn;rw[s];rfl
  have V:Pz d F g f b c G x.dK t sl (opn wr l):=by rw[<-XG];exact Y
  have v:∀{X:Sl} {w5:aw} {iS:S},Pz d F g f b c G x.dK w5 X iS->jV b sl t X w5->qz (d+1) x wr l=clo wr iS->Z8 iS<=Z8 l+40*(1+xp (sO d) x.dK)->∃sl',(Value.tuple #[])=aj #[]/\Pg g w5 b sl' G (qz (d+1) x wr l)/\jV b sl p sl' w5:=by
   intro X w5 iS d b i z;refine⟨X,I,?_,b.after o⟩;rw[i];unfold clo;rw[s];exact d.pg
  refine⟨λhk w3 db=>?_,λk1=>⟨λhk w7 ga=>?_,λk2=>⟨λhk=>⟨?_,?_,λdk dS=>?_⟩,λk3=>⟨λhk eM dF=>?_,λk4=>(rr (show vS (d+1) _ F x (nI x.k x.n x.s x.op c x.a)from⟨c,I,V.sb⟩)).mono ?_⟩⟩⟩⟩
  .have hk:x.k=1:=Mi
   have z:=V.only db;refine(Cb x.n n z.tb).mono ?_;rintro _ w4 ⟨rfl,d⟩;have b:=z.only d;have hl:=Lib.itoa_length_le x.n n.1 n.2;refine⟨_,I,z.same d,(rQ b.pg (Lib.itoa x.n) J).mono ?_⟩;rintro _ w5 ⟨X,rfl,y,i⟩;obtain⟨k,q,_⟩:=b.mv y i;exact⟨_,⟨.nilIface,I⟩,I,q,v k ((i.after d).after db) (by rw[e,K hk]) UF⟩
  .have hk:x.k=2:=Mi
   have k1:x.k≠1:=J
   have z:=V.only ga;have q:=iH (kb a (.inl hk));refine(rQ z.pg x.s J).mono ?_;rintro _ y ⟨X,rfl,k,b⟩;obtain⟨d,i,_⟩:=z.mv k b;exact⟨_,⟨.nilIface,I⟩,I,i,v d (b.after ga) (by rw[e,W k1,K hk]) UF⟩
  .have hk:x.k=3:=Mi
   have b:=iH (kb a (.inr hk));rw[cH];omega
  .have hk:x.k=3:=Mi
   have b:=iH (kb a (.inr hk));rw[BE];have:(aq #[105,110,40]).size=3:=I;omega
  .have hk:x.k=3:=Mi
   have y:=iH (kb a (.inr hk));have d:=V.only dS;have xP:Z8 ([105,110,40]++x.s++[41]:S)=Z8 x.s+4:=by
    rw[aP,aP];simp only[aY,bE];omega
   rw[VO];refine(rQ d.pg _ J).mono ?_;rintro _ z ⟨X,rfl,q,b⟩;obtain⟨i,k,_⟩:=d.mv q b;exact⟨_,⟨.nilIface,I⟩,I,k,v i (b.after dS) (by rw[e,W J,W J,K hk]) UF⟩
  .have hk:x.k=4:=Mi
   obtain⟨y,hy,rh⟩:=vT a hk;have SH:xp (sO d) x.dK=sO d y:=ZI
   have z:de d y=aF:=ZM
   have E4:lq d y:=m y Ui;have XJ:=ma x.op.toNat;have Ib:=V.only dF;obtain⟨q,hq,hB⟩:=Ib.pg.blk;obtain⟨ad,g1,g2⟩:=Ib.sig (op:=x.op) J J;refine⟨G,Mn hB 2 I,ad,g1,_,g2,(rQ Ib.pg (eP x.op.toNat) J).mono ?_⟩;rintro _ fR ⟨SI,rfl,lE,XK⟩;obtain⟨lT,mt,_⟩:=Ib.mv lE XK;refine⟨_,⟨.nilIface,I⟩,I,mt,λgV jt=>?_⟩;have NN:=lT.only jt;obtain⟨p1,sy,e1,e2,e3,e4⟩:=NN.sub (i:=0) (y:=y) RI;refine⟨λk=>k<b∨k=f,.inr I,p1,e1,.inl e2,_,_,_,_,_,_,e3,p1,e1,_,_,_,_,_,_,e3,(rr e4).mono ?_⟩;rintro _ iO ⟨rfl,ic⟩;have NP:=NN.only ic;have oR:=ur d (VM (B y<6)) (opn wr l++eP x.op.toNat) z E4;rw[aP]at oR;refine⟨_,I,NN.same ic,VI ic,(xY d (VM (B y<6)) z E4 (gX e4 ic) j NP.tb h NP.pg UF).mono ?_⟩;rintro _ iz ⟨pi,rfl,mK,XM⟩;obtain⟨nO,oF,oN⟩:=NP.mv mK XM;exact⟨I,oF,oN,v nO ((XK.after dF).trans ((XM.after ic).after jt)) (by rw[e,W J,W J,W J,K hk,hy]) J⟩
  rintro _ li ⟨rfl,lV⟩;have k1:x.k≠1:=Sh
  have k2:x.k≠2:=Nn
  have k3:x.k≠3:=RO
  have k4:x.k≠4:=RY
  obtain⟨hk,y,z,hy,Xp,NA⟩:=qA a k1 k2 k3 k4;have SH:xp (sO d) x.dK=sO d y+sO d z:=ZI
  have A8:de d y=aF/\de d z=aF:=ZM
  have E4:lq d y:=m y Ui;have Tx:lq d z:=m z Ui;have XJ:=ma x.op.toNat;have pm:=V.only lV;refine⟨_,I,V.same lV,λjN mT=>?_⟩;have NQ:=pm.only mT;obtain⟨p1,sy,e1,e2,e3,e4⟩:=NQ.sub (i:=0) (y:=y) RI;refine⟨λk=>k<b∨k=f,.inr I,p1,e1,.inl e2,_,_,_,_,_,_,e3,p1,e1,_,_,_,_,_,_,e3,(rr e4).mono ?_⟩;rintro _ mD ⟨rfl,iV⟩;have NR:=NQ.only iV;have BY:=ur d (VM (B y<B x)) (opn wr l) A8.1 E4;refine⟨_,I,NQ.same iV,VI iV,(xY d (VM (B y<B x)) A8.1 E4 (gX e4 iV) j NR.tb h NR.pg J).mono ?_⟩;rintro _ ra ⟨AT,rfl,pP,XN⟩;obtain⟨qr,ro,rx⟩:=NR.mv pP XN;refine⟨I,ro,rx,λtw rV=>?_⟩;have Ic:=qr.only rV;obtain⟨q,hq,hB⟩:=Ic.pg.blk;obtain⟨ad,g1,g2⟩:=Ic.sig (op:=x.op) J J;have xP:Z8 ([32]++eP x.op.toNat++[32]:S)=Z8 (eP x.op.toNat)+2:=by
   rw[aP,aP];simp only[aY,bE];omega
  have BO:(aq #[32]).size=1:=I;refine⟨G,Mn hB 2 I,ad,g1,_,g2,R5,by rw[BE];omega,?_⟩;rw[Kx];refine(rQ Ic.pg _ J).mono ?_;rintro _ vh ⟨Bv,rfl,tO,XO⟩;obtain⟨ut,uP,_⟩:=Ic.mv tO XO;refine⟨_,⟨.nilIface,I⟩,I,uP,λpN xz=>?_⟩;have NS:=ut.only xz;obtain⟨p2,sz,f1,f2,f3,f4⟩:=NS.sub (i:=1) (y:=z) RI;refine⟨λk=>k<b∨k=f,.inr I,p2,f1,.inl f2,_,_,_,_,_,_,f3,p2,f1,_,_,_,_,_,_,f3,(rr f4).mono ?_⟩;rintro _ qR ⟨rfl,jX⟩;have NT:=NS.only jX;have wd:=ur d (VM (B z<=B x)) (qz d y (VM (B y<B x)) (opn wr l)++([32]++eP x.op.toNat++[32])) A8.2 Tx;rw[aP,xP]at wd;refine⟨_,I,NS.same jX,VI jX,(xY d (VM (B z<=B x)) A8.2 Tx (gX f4 jX) j NT.tb h NT.pg (by rw[aP,xP];omega)).mono ?_⟩;rintro _ tB ⟨BV,rfl,wf,XP⟩;obtain⟨As,AC,AS⟩:=NT.mv wf XP;exact⟨I,AC,AS,v As (((XN.after iV).after mT).after lV |>.trans ((XO.after rV).trans ((XP.after jX).after xz))) (by rw[e,W k1,W k2,W k3,W k4,hy]) J⟩
def qB(d:Nat)(x:Ex):S:=if de d x=aF then(if(iG (qz d x aM [])).2.1≠0 then[]else qz d x aM [])else[]
def afB{d}{w}{F}{x}{s}(h:vS d w F x s)(l:xI d x)(n:lq d x)(E:Er w)(b:Tb w)(j:40*sO d x<=70368744177664):
  aA ar 347 #[ai s.toArray] w λe f=>e=ao (ae (T (qB d x)))/\az [] w f:=by
 obtain⟨p,rfl⟩:=lK h;refine ret (v6w ?_);intro m o Q L a;refine(OL d l (gX h a)).mono ?_;rintro _ i ⟨rfl,c⟩;have z:=c.size;have g:=a.cn c;refine⟨_,I,c.same C,λhs=>?_,λhs=>(ade i).mono ?_⟩
 .have hs:=Jm
  rw[qB,W VW];exact⟨I,g⟩
 have hs:=Jm
 rw[qB,K hs];rintro _ w2 ⟨v,rfl,Y,y⟩;have z2:=y.size;refine⟨v,I,y.same C,λk1 S ki ik F qk=>?_⟩;have B:az [] w S:=(g.cn y).cn F;have V:Pg _ S k1 Sl.nil v []:=⟨⟨ZQ,.inl I,qk⟩,.inl ⟨I,I⟩,Aw cx Z Y F R,λk hk=>ZD⟩
 have K6:=b.lt;refine(xY d aM hs n (gX ((jH d).inHeap h) B) (λk hk=>ZD) (b.only B) J V TU).mono ?_;rintro _ w4 ⟨r,rfl,u,t⟩;have z4:=t.1.size;have X:=(B.AY t.1).only λk hk=>by
  rcases hk with rfl | e
  .omega
  cases e
 have⟨q,hq,H⟩:=u.blk;refine⟨I,t.same J (λe=>Jh) J,q,r,v,H,(UT u.pt).mono ?_⟩;rintro _ w5 ⟨rfl,A,P⟩;have z5:=P.size;have M:=P.blk H J;have D:=(X.AY P).only λk hk=>Wm
 refine⟨_,I,P.same C,q,r,v,M,(afy _ (E.only D)).mono ?_⟩;rintro _ w6 ⟨s,rfl,hX,N⟩;have z6:=N.size;obtain⟨xl,rfl,_⟩:=hX.cells;have x:=D.cn N;refine⟨_,_,_,_,_,_,_,_,I,N.same C,q,r,v,N.blk M R,λhr k2 k3 w7 _ _ _ _ ga _=>?_,λhr k4 k5 w8 pV xA mo T G re=>?_⟩
 .rw[K OT];exact⟨I,x.cn ga⟩
 refine(UT ((A.only N).only G)).mono ?_;rintro _ w9 ⟨rfl,e,d⟩;rw[W OT];have w:∀k,r.a=Hg _->k<w4.heap.size:=λk hk=>(u.buf.lt hk).2;refine⟨_,I,d.same λk hk=>?_,q,r,v,d.blk re J,I,((x.cn G).AY d).only λk hk=>Wm⟩;simp at hk;rcases hk with rfl | rfl | rfl
 .exact⟨J,λk=>by have:=k.1;omega⟩
 .exact⟨xA,λk=>by have:=w _ k.2;omega⟩
 exact⟨T,λk=>by have:=w _ k.2;omega⟩
def aad{ts}{i}{e}(h:Ik ts i=.error e):e.1≠0:=by
 rw[Ik]at h;split at h
 .split at h
  .split at h
   .cases h
   injection h with h;subst h;exact gv
  injection h with h;subst h;exact gv
 injection h with h;subst h;exact gv
def TyB{r}{g}{e}(h:EM r g=.error e):r=.error e∨∃x j,r=.ok (x,j)/\g x j=.error e:=by
 cases r with
 | error e=>exact .inl h
 | ok p=>exact .inr ⟨p.1,p.2,I,h⟩
def Fp{d}{a}{r}{e}(h:lc d a r=.error e):r=.error e∨e.1=21:=by
 rw[lc]at h;split at h
 .injection h with h;subst h;exact .inr I
 exact .inl h
def Fq{ts}{E}{k}{e}(a:∀i,E i=.error e->e.1≠0):∀g x j,iR ts E k g x j=.error e->e.1≠0
 | 0,x,j,h=>Rl
 | g+1,x,j,h=>by
  rw[iR]at h;split at h
  .cases h
  rcases TyB h with b | ⟨y,m,b,c⟩
  .exact a _ b
  exact Fq a g _ _ c
def mY{ts}{e}:∀f k d i,dy ts f k d i=.error e->e.1≠0
 | 0,k,d,i,h=>by
  rw[dy]at h;injection h with h;subst h;decide
 | f+1,k,d,i,h=>by
  rw[dy]at h;split at h
  .rw[rP]at h;split at h
   .generalize n:lc d (tk ts i).a _=r at h;cases r with
    | ok q=>cases h
    | error e=>
     injection h with h;subst h;rcases Fp n with a | a
     .exact mY f _ _ _ a
     rw[a];decide
   split at h
   .rcases Fp h with a | a
    .cases r:dy ts f 0 _ _ with
     | error e=>
      rw[r]at a;injection a with a;subst a;exact mY f _ _ _ r
     | ok q=>
      rw[r]at a;simp[ze]at a;split at a
      .cases a
      injection a with a;subst a;exact gv
    rw[a];decide
   split at h
   .cases h
   split at h
   .cases h
   split at h
   .exact aad h
   injection h with h;subst h;exact gv
  rcases TyB h with a | ⟨y,m,a,b⟩
  .exact mY f _ _ _ a
  exact Fq (λi c=>mY f _ _ _ c) _ _ _ b
structure Ac where
 k:Int
 n:S
 x:Ex
 a:Int
structure Mv where
 k:Int
 ev:S
 wt:Int
 gd:Bool
 g:Ex
 acts:List Ac
 tg:List (S)
 a:Int
structure Nb where
 k:Int
 nm:S
 ini:S
 dft:S
 en:List Ac
 lv:List Ac
 mv:List Mv
 a:Int
inductive Nd where
 | mk (b:Nb) (kids:List Nd)
def Nd.b:Nd->Nb | .mk b _=>b
def Nd.kids:Nd->X Nd | .mk _ l=>l
structure Vr where
 n:S
 v:Int
 a:Int
structure Ch where
 vars:List Vr
 root:Nd
def RL:Nb:=⟨0,[],[],[],[],[],[],0⟩
def Jz:Nd:=.mk RL []
def ch0:Ch:=⟨[],Jz⟩
def ac0:Ac:=⟨0,[],uZ,0⟩
def tkZ:Tk:=⟨0,[],0,0⟩
structure Sx where
 i:Nat
 fc:Int
 fa:Int
 v:Int
 n:Int
 d:Int
 m:Int
 a:Int
section
variable (ts:X Tk)
def fe(s:Sx)(c:Int):Sx:=if s.fc=0 then{s with fc:=c,fa:=(tk ts s.i).a}else s
def fH(s:Sx):Sx:=if(tk ts s.i).k=5 then fe ts (fe ts s 3) 4 else fe ts s 4
def uR(c:S):X (S)->Nat
 | []=>0
 | x::l=>if c=x then 0 else uR c l+1
def bR(s:Sx)(l:X (S)):Nat:=
 if s.fc≠0∨((tk ts s.i).k≠2/\(tk ts s.i).k≠4)then 0 else if uR (tk ts s.i).t l<Z8 l then uR (tk ts s.i).t l+1 else 0
def bP(s:Sx):Sx:={s with i:=s.i+1}
def cA(s:Sx)(x:S):Sx:=if bR ts s [x]=0 then fH ts s else bP s
def cY(s:Sx)(k:Int):Tk×Sx:=if s.fc≠0∨(tk ts s.i).k≠k then(tkZ,fH ts s)else(tk ts s.i,bP s)
def dQ(s:Sx):S×Sx:=((cY ts s 1).1.t,(cY ts s 1).2)
def iI(s:Sx):Ex×Sx:=
 if s.fc≠0 then(uZ,s)
 else if(cq ts s.i).2.2.1≠0 then((cq ts s.i).1,{s with fc:=(cq ts s.i).2.2.1,fa:=(cq ts s.i).2.2.2})
 else((cq ts s.i).1,{s with i:=(cq ts s.i).2.1.toNat})
def mZ(x:Int):Int:=au U (x-1)
def Ep(x:Int):Int:=au U (x+1)
def pH(s:Sx):Sx:=if s.a=0 then{fe ts s 2 with a:=mZ s.a}else{s with a:=mZ s.a}
def oC(s:Sx):Sx:=if s.m=0 then{fe ts s 2 with m:=mZ s.m}else{s with m:=mZ s.m}
def Az(s:Sx):Sx:=if s.n=0 then{fe ts s 2 with n:=mZ s.n}else{s with n:=mZ s.n}
def sP(s:Sx):Sx:=if s.v=0 then{fe ts s 2 with v:=mZ s.v}else{s with v:=mZ s.v}
def mM:S:=[115,101,116]
def gD:S:=[114,97,105,115,101]
def jc:S:=[101,109,105,116]
def u6:S:=[111,110]
def fb:S:=[97,108,119,97,121,115]
def fL:S:=[97,102,116,101,114]
def dU:S:=[105,110,105,116,105,97,108]
def fX:S:=[101,110,116,101,114]
def gn:S:=[108,101,97,118,101]
def AA:S:=[115,116,97,116,101]
def qo:S:=[112,97,114,97,108,108,101,108]
def sQ:S:=[104,105,115,116,111,114,121]
def Fs:S:=[100,101,101,112]
def dB:S:=[99,104,97,114,116]
def uu:S:=[118,97,114]
def xZ(s:Sx)(k:Nat)(n:S)(a:Int):Ac×Sx:=
 if k=2 then(⟨k,n,uZ,a⟩,cA ts s [59])
 else(⟨k,n,(iI ts (cA ts s [61])).1,a⟩,cA ts (iI ts (cA ts s [61])).2 [59])
def kc(s:Sx):Ac×Sx:=
 if bR ts s [mM,gD,jc]=0 then(⟨0,[],uZ,(tk ts s.i).a⟩,fH ts s)
 else if(pH ts s).fc≠0 then(⟨(bR ts s [mM,gD,jc]),[],uZ,(tk ts s.i).a⟩,pH ts s)
 else xZ ts (dQ ts (bP (pH ts s))).2 (bR ts s [mM,gD,jc]) (dQ ts (bP (pH ts s))).1 (tk ts s.i).a
def j6:Nat->X Ac->Sx->X Ac×Sx
 | 0,a,s=>(a,s)
 | f+1,a,s=>if s.fc≠0 then(a,s)else if bR ts s [[125]]≠0 then(a,bP s)else j6 f (a++[(kc ts s).1]) (kc ts s).2
def ff(s:Sx):X Ac×Sx:=j6 ts (Z8 ts+1) [] (cA ts s [123])
def kq:Nat->S->X (S)->Sx->X (S)×Sx
 | 0,_,a,s=>(a,s)
 | f+1,x,a,s=>if bR ts s [x]=0 then(a,s)else kq f [44] (a++[(dQ ts (bP s)).1]) (dQ ts (bP s)).2
def ru(m:Mv)(s:Sx):Mv×Sx:=
 ({m with tg:=(kq ts (Z8 ts+1) [45,62] [] s).1},cA ts (kq ts (Z8 ts+1) [45,62] [] s).2 [59])
def qC(m:Mv)(s:Sx):Mv×Sx:=
 if bR ts s [[123]]=0 then ru ts m s else ru ts {m with acts:=(ff ts s).1} (ff ts s).2
def gF(m:Mv)(s:Sx):Mv×Sx:=
 if bR ts s [[91]]=0 then qC ts m s else qC ts {m with gd:=aF,g:=(iI ts (bP s)).1} (cA ts (iI ts (bP s)).2 [93])
def JA(k a:Int):Mv:=⟨k,[],0,aM,uZ,[],[],a⟩
def jK(k:Int)(s:Sx):Mv×Sx:=
 if(oC ts s).fc≠0 then(JA k (tk ts s.i).a,oC ts s)
 else if k=1 then gF ts {JA k (tk ts s.i).a with ev:=(dQ ts (bP (oC ts s))).1} (dQ ts (bP (oC ts s))).2
 else if k=3 then gF ts {JA k (tk ts s.i).a with wt:=(cY ts (bP (oC ts s)) 3).1.n} (cY ts (bP (oC ts s)) 3).2
 else gF ts (JA k (tk ts s.i).a) (bP (oC ts s))
structure Ej where
 i:Bool
 e:Bool
 l:Bool
def da(n:Nb)(h:Ej)(s:Sx):L×Nb×Ej×Sx:=
 if bR ts s [u6,fb,fL]≠0 then(aF,{n with mv:=n.mv++[(jK ts (bR ts s [u6,fb,fL]) s).1]},h,(jK ts (bR ts s [u6,fb,fL]) s).2)
 else match bR ts s [dU,fX,gn]with
  | 0=>(aM,n,h,s)
  | 1=>if h.i then(aM,n,h,fH ts s)else(aF,{n with ini:=(dQ ts (bP s)).1},{h with i:=aF},cA ts (dQ ts (bP s)).2 [59])
  | 2=>if h.e then(aM,n,h,fH ts s)else(aF,{n with en:=(ff ts (bP s)).1},{h with e:=aF},(ff ts (bP s)).2)
  | _=>if h.l then(aM,n,h,fH ts s)else(aF,{n with lv:=(ff ts (bP s)).1},{h with l:=aF},(ff ts (bP s)).2)
def cW:Nat->Nb->Ej->Sx->Nb×Sx
 | 0,n,_,s=>(n,s)
 | f+1,n,h,s=>if s.fc≠0 then(n,s)
  else if(da ts n h s).1 then cW f (da ts n h s).2.1 (da ts n h s).2.2.1 (da ts n h s).2.2.2 else((da ts n h s).2.1,(da ts n h s).2.2.2)
def gH:X (S):=[AA,qo,sQ,Fs]
def gw(N:Int->Sx->Nd×Sx):Nat->X Nd->Sx->X Nd×Sx
 | 0,a,s=>(a,s)
 | f+1,a,s=>if bR ts s gH=0 then(a,s)else gw N f (a++[(N (bR ts s gH) (bP s)).1]) (N (bR ts s gH) (bP s)).2
def jl(N:Int->Sx->Nd×Sx)(n:Nb)(s:Sx):Nd×Sx:=
 let c:=cW ts (Z8 ts+1) n ⟨aM,aM,aM⟩ {s with d:=mZ s.d}
 let k:=gw ts N (Z8 ts+1) [] c.2
 (.mk c.1 k.1,cA ts {k.2 with d:=Ep k.2.d} [125])
def lu(s:Sx):Sx:=if(tk ts s.i).k=1 then(if(Az ts s).d=0 then fe ts (Az ts s) 21 else Az ts s)else s
def cy(k:Int)(s:Sx):Nb×Sx:=({RL with k:=k,nm:=(cY ts (lu ts s) 1).1.t,a:=(cY ts (lu ts s) 1).1.a},(cY ts (lu ts s) 1).2)
def fl:Nat->Int->Sx->Nd×Sx
 | 0,_,s=>(Jz,s)
 | f+1,k,s=>
  if 3<=k then(.mk {(cy ts k s).1 with dft:=(dQ ts (cA ts (cy ts k s).2 [45,62])).1} [],cA ts (dQ ts (cA ts (cy ts k s).2 [45,62])).2 [59])
  else jl ts (fl f) (cy ts k s).1 (cA ts (cy ts k s).2 [123])
def mc(s:Sx):Vr×Sx:=
 let b:=if(tk ts s.i).k=1 then sP ts s else s
 let t:=cY ts b 1
 let a:=cA ts t.2 [61]
 let g:=bR ts a [[45]]
 let q:=cY ts (if g=0 then a else bP a) 3
 (⟨t.1.t,if g=0 then q.1.n else au U (-q.1.n),t.1.a⟩,cA ts q.2 [59])
def gK:Nat->X Vr->Sx->X Vr×Sx
 | 0,a,s=>(a,s)
 | f+1,a,s=>if bR ts s [uu]=0 then(a,s)else gK f (a++[(mc ts (bP s)).1]) (mc ts (bP s)).2
def me:Sx:=⟨0,0,0,16,64,12,200,400⟩
def xq(s:Sx):Sx:=if s.fc=0/\(tk ts s.i).k≠5 then fH ts s else s
def oE:Ch×Sx:=
 let n:=cy ts 1 (cA ts me dB)
 let v:=gK ts (Z8 ts+1) [] (cA ts n.2 [123])
 let b:=jl ts (fl ts 14) n.1 v.2
 (⟨v.1,b.1⟩,xq ts b.2)
end
def fg(l:S):Ch×Int×Int:=
 if(cQ l).2.1≠0 then(ch0,(cQ l).2.1,(cQ l).2.2)
 else if(oE (cQ l).1).2.fc≠0 then(ch0,(oE (cQ l).1).2.fc,(oE (cQ l).1).2.fa)
 else((oE (cQ l).1).1,0,0)
def mu(t:X Tk)(s:Sx):Nat:=if s.fc=0 then (Z8 t)-s.i else 0
structure On0 (ts:List Tk) (s s':Sx):Prop where
 lt:s.i<(Z8 ts)->s'.i<Z8 ts
 le:s'.fc=0->s.fc=0/\s.i<=s'.i
structure On (ts:List Tk) (s s':Sx):Prop extends On0 ts s s' where
 d:s'.d=s.d
section
variable {ts:X Tk} {s s' s'':Sx}
def On0.refl ts s:On0 ts s s:=⟨id,λh=>⟨h,aX _⟩⟩
def On.refl ts s:On ts s s:=⟨On0.refl ts s,I⟩
def Mc:=@On.refl
def On0.trans(h:On0 ts s s')(k:On0 ts s' s''):On0 ts s s'':=⟨λx=>k.lt (h.lt x),λe=>by
 obtain⟨a,b⟩:=k.le e;obtain⟨c,d⟩:=h.le a;exact⟨c,bp d b⟩⟩
def On.trans(h:On ts s s')(k:On ts s' s''):On ts s s'':=⟨h.toOn0.trans k.toOn0,k.d.trans h.d⟩
def On0.mu(h:On0 ts s s'):mu ts s'<=mu ts s:=by
 unfold Con.mu;by_cases e:s'.fc=0
 .obtain⟨a,b⟩:=h.le e;rw[K e,K a];omega
 rw[W e];exact bh _
def ry c:On ts s (fe ts s c):=by
 unfold fe;by_cases e:s.fc=0
 .rw[K e];exact⟨⟨id,λ_=>⟨e,aX _⟩⟩,I⟩
 rw[W e];exact Mc _ _
def wO{c}(h:c≠0):(fe ts s c).fc≠0:=by
 unfold fe;by_cases e:s.fc=0
 .rw[K e];exact h
 rw[W e];exact e
def vU c:(fe ts s c).i=s.i:=by
 unfold fe;split<;>rfl
def gx:(fH ts s).fc≠0:=by
 unfold fH;split<;>exact wO Z
def sR:On ts s (fH ts s):=by
 unfold fH;split
 .exact(ry 3).trans (ry 4)
 exact ry 4
def ahQ l:bR ts s l<=Z8 l:=by
 unfold bR;split
 .exact bh _
 split<;>omega
def cP{l}(h:bR ts s l≠0):s.fc=0/\(tk ts s.i).k≠5:=by
 unfold bR at h;split at h
 .exact absurd I h
 rename_i c;by_cases e:s.fc=0
 .refine⟨e,λa=>c (.inr ?_)⟩;rw[a];exact⟨Z,Z⟩
 exact absurd (.inl e) c
def mB(E:pG ts)(a:s.fc=0)(k:(tk ts s.i).k≠5):On ts s (bP s):=⟨⟨λh=>E.next h k,λ_=>⟨a,jP _⟩⟩,I⟩
def dX(E:pG ts) x:On ts s (cA ts s x):=by
 unfold cA;by_cases h:bR ts s [x]=0
 .rw[K h];exact sR
 rw[W h];exact mB E (cP h).1 (cP h).2
def uv(E:pG ts){k}(a:k≠5):On ts s (cY ts s k).2:=by
 unfold cY;by_cases h:s.fc≠0∨(tk ts s.i).k≠k
 .rw[K h];exact sR
 rw[W h];simp at h;exact mB E h.1 (by rw[h.2];exact a)
def nJ(h:pG ts):On ts s (dQ ts s).2:=uv h Z
end
section
variable {ts:X Tk} (hE:pG ts)
include hE
theorem afD{i}{x}{j}(a:i<Z8 ts)(k:(tk ts i).k≠5)(h:Ik ts i=.ok (x,j)):j<Z8 ts:=by
 unfold Ik at h;split at h
 .rename_i b;split at h
  .rename_i c;split at h
   .rename_i d;have l:=hE.next (hE.next (hE.next (hE.next a k) (zd b)) (by rw[c];decide)) (zd d);simp at h;omega
   cases h
  cases h
 cases h
theorem aae{E0 One}{d i}{x}{j}(E:∀i x j,i<(Z8 ts)->E0 i=.ok (x,j)->j<Z8 ts)(O:∀i x j,i<(Z8 ts)->One i=.ok (x,j)->j<Z8 ts)(a:i<Z8 ts)(h:rP ts E0 One d i=.ok (x,j)):j<Z8 ts:=by
 unfold rP at h;split at h
 .rename_i s;obtain⟨y,b,_⟩:=B1 h;refine O _ _ _ (hE.next a ?_) (qy b).1;rcases dq _ _▸s with s | s<;>exact zd s
 split at h
 .rename_i s;obtain⟨d,b,c,rfl⟩:=Ca (qy h).1;exact hE.next (E _ _ _ (hE.next a (zd s)) b) (zd c)
 split at h
 .rename_i k;simp at h;have:=hE.next a (by rw[k];decide);omega
 split at h
 .rename_i k;simp at h;have:=hE.next a (by rw[k];decide);omega
 split at h
 .rename_i k;exact afD hE a (by rw[k.1];decide) h
 cases h
theorem agS{E}{k}(h:∀i x j,i<(Z8 ts)->E i=.ok (x,j)->j<Z8 ts):∀g x j {b:Ex} {a:Nat},j<(Z8 ts)->iR ts E k g x j=.ok (b,a)->a<Z8 ts
 | 0,x,j,b,a,d,c=>by
  simp[iR,kH,nq]at c;omega
 | g+1,x,j,b,a,d,c=>by
  rw[iR]at c;split at c
  .simp at c;omega
  rename_i o;obtain⟨y,m,e,f⟩:=uq c;exact agS h g _ _ (h _ _ _ (hE.next d (qn _ _ o)) e) f
theorem vV:∀f k d i {x:Ex} {j:Nat},i<(Z8 ts)->dy ts f k d i=.ok (x,j)->j<Z8 ts
 | 0,_,_,_,_,_,_,h=>Rl
 | f+1,k,d,i,x,j,a,h=>by
  rw[dy]at h;split at h
  .exact aae hE (λi x j a h=>vV f _ _ i a h) (λi x j a h=>vV f _ _ i a h) a h
  obtain⟨y,m,b,c⟩:=uq h;exact agS hE (λi x j a h=>vV f _ _ i a h) _ _ _ (vV f _ _ _ a b) c
theorem Fu{i:Nat}(h:(cq ts i).2.2.1=0):∃j:Nat,(cq ts i).2.1=j/\i<j/\j<Z8 ts:=by
 unfold cq at h⊢;split at h
 .rename_i c;rw[K c];have b:i<Z8 ts:=by have:=c.2.1;omega
  rw[aW]at h⊢;unfold oB at h⊢;cases a:dy ts _ 0 0 i with
  | error e=>
   rw[a]at h;exact absurd h (mY _ _ _ _ a)
  | ok q=>
   obtain⟨x,j⟩:=q;exact⟨j,I,lp _ _ _ _ a,vV hE _ _ _ _ b a⟩
 cases h
theorem pb{s s'}(h:s.fc=0)(i:s.i<Z8 ts)(k:(tk ts s.i).k≠5)(a:On0 ts (bP s) s'):mu ts s'<mu ts s:=by
 have c:=a.mu;have e:mu ts s=(Z8 ts)-s.i:=by unfold mu;rw[K h]
 have b:mu ts (bP s)=(Z8 ts)-(s.i+1):=by unfold mu bP;rw[K h]
 omega
set_option linter.unusedSectionVars false in
theorem AB {s s':Sx} (h0:s.fc=0) (hi:s.i<ts.length) (h:s'.fc≠0):mu ts s'<mu ts s:=by
 unfold mu;rw[aN h,aQ h0];omega
theorem G5 s:On ts s (iI ts s).2:=by
 unfold iI;by_cases h:s.fc≠0
 .rw[K h];exact Mc _ _
 rw[W h];by_cases h1:(cq ts s.i).2.2.1≠0
 .rw[K h1];exact⟨⟨id,λa=>absurd a h1⟩,I⟩
 rw[W h1];obtain⟨j,e,l,b⟩:=Fu hE (i:=s.i) Wl;rw[e,aW];exact⟨⟨λ_=>b,λa=>⟨a,Nat.le_of_lt l⟩⟩,I⟩
omit hE in
theorem Ce (s:Sx):On ts s (pH ts s):=by
 unfold pH;split
 .have h:=ry (ts:=ts) (s:=s) 2;exact⟨⟨h.lt,h.le⟩,h.d⟩
 exact⟨⟨id,λh=>⟨h,aX _⟩⟩,rfl⟩
omit hE in
theorem Cf (s:Sx):On ts s (oC ts s):=by
 unfold oC;split
 .have h:=ry (ts:=ts) (s:=s) 2;exact⟨⟨h.lt,h.le⟩,h.d⟩
 exact⟨⟨id,λh=>⟨h,aX _⟩⟩,rfl⟩
omit hE in
theorem G6 (s:Sx):On ts s (Az ts s):=by
 unfold Az;split
 .have h:=ry (ts:=ts) (s:=s) 2;exact⟨⟨h.lt,h.le⟩,h.d⟩
 exact⟨⟨id,λh=>⟨h,aX _⟩⟩,rfl⟩
omit hE in
theorem At5 (s:Sx):On ts s (sP ts s):=by
 unfold sP;split
 .have h:=ry (ts:=ts) (s:=s) 2;exact⟨⟨h.lt,h.le⟩,h.d⟩
 exact⟨⟨id,λh=>⟨h,aX _⟩⟩,rfl⟩
omit hE in
theorem AD (s:Sx):(pH ts s).i=s.i:=by
 unfold pH;split
 .exact vU 2
 rfl
omit hE in
theorem AE (s:Sx):(oC ts s).i=s.i:=by
 unfold oC;split
 .exact vU 2
 rfl
theorem G7 s k n a:On ts s (xZ ts s k n a).2:=by
 unfold xZ;split
 .exact dX hE _
 exact((dX hE _).trans (G5 hE _)).trans (dX hE _)
theorem aaq s u (a:On ts s u) (i:u.i=s.i) (h:u.fc=0) (k:(tk ts s.i).k≠5):On ts s (bP u):=a.trans (mB hE h (by rw[i];exact k))
theorem afE s:On ts s (kc ts s).2:=by
 unfold kc;split
 .exact sR
 rename_i h;split
 .exact Ce s
 rename_i h0;exact(aaq hE s _ (Ce s) (AD s) Z4 (cP h).2).trans ((nJ hE).trans (G7 hE _ _ _ _))
theorem aec{s}(a:s.fc=0)(h:s.i<Z8 ts):mu ts (kc ts s).2<mu ts s:=by
 unfold kc;split
 .exact AB hE a h gx
 rename_i b;split
 .rename_i h1;exact AB hE a h h1
 rename_i h1;have e:=AD (ts:=ts) s;exact cD (pb hE Wl (by rw[e];exact h) (by rw[e];exact(cP b).2) ((nJ hE).trans (G7 hE _ _ _ _)).toOn0) (Ce (ts:=ts) s).mu
theorem G8:∀f a s,On ts s (j6 ts f a s).2
 | 0,_,s=>Mc _ _
 | f+1,a,s=>by
  rw[j6];split
  .exact Mc _ _
  split
  .rename_i h;exact mB hE (cP h).1 (cP h).2
  exact(afE hE s).trans (G8 f _ _)
theorem vW s:On ts s (ff ts s).2:=(dX hE _).trans (G8 hE _ _ _)
theorem OQ:∀f x a s,On ts s (kq ts f x a s).2
 | 0,_,_,s=>Mc _ _
 | f+1,x,a,s=>by
  rw[kq];split
  .exact Mc _ _
  rename_i h;exact((mB hE (cP h).1 (cP h).2).trans (nJ hE)).trans (OQ f _ _ _)
theorem Dt m s:On ts s (ru ts m s).2:=(OQ hE _ _ _ _).trans (dX hE _)
theorem Du m s:On ts s (qC ts m s).2:=by
 unfold qC;split
 .exact Dt hE _ _
 exact(vW hE _).trans (Dt hE _ _)
theorem vX m s:On ts s (gF ts m s).2:=by
 unfold gF;split
 .exact Du hE _ _
 rename_i h;exact(((mB hE (cP h).1 (cP h).2).trans (G5 hE _)).trans (dX hE _)).trans (Du hE _ _)
theorem or3(k:Int)(s u:Sx) m:On ts u (if k=1 then gF ts {m with ev:=(dQ ts u).1} (dQ ts u).2 else if k=3 then gF ts {m with wt:=(cY ts u 3).1.n} (cY ts u 3).2 else gF ts m u).2:=by
 split
 .exact(nJ hE).trans (vX hE _ _)
 split
 .exact(uv hE Z).trans (vX hE _ _)
 exact vX hE _ _
theorem aaf k s (h:(tk ts s.i).k≠5):On ts s (jK ts k s).2:=by
 unfold jK;split
 .exact Cf s
 rename_i h1;exact(aaq hE s _ (Cf s) (AE s) Wl h).trans (or3 hE k s _ _)
theorem aag k {s} (a:s.fc=0) (h:s.i<Z8 ts) (b:(tk ts s.i).k≠5):mu ts (jK ts k s).2<mu ts s:=by
 unfold jK;split
 .rename_i h1;exact AB hE a h h1
 rename_i h1;have e:=AE (ts:=ts) s;exact cD (pb hE Wl (by rw[e];exact h) (by rw[e];exact b) (or3 hE k s _ _).toOn0) (Cf (ts:=ts) s).mu
theorem wP n h s:On ts s (da ts n h s).2.2.2:=by
 unfold da;split
 .rename_i hw;exact aaf hE _ s (cP hw).2
 split
 .exact Mc _ _
 .rename_i hw;have hw:bR ts s [dU,fX,gn]≠0:=UQ
  split
  .exact sR
  exact((mB hE (cP hw).1 (cP hw).2).trans (nJ hE)).trans (dX hE _)
 .rename_i hw;have hw:bR ts s [dU,fX,gn]≠0:=UQ
  split
  .exact sR
  exact(mB hE (cP hw).1 (cP hw).2).trans (vW hE _)
 rename_i h a b;have hw:=h;split
 .exact sR
 exact(mB hE (cP hw).1 (cP hw).2).trans (vW hE _)
theorem AF n h {s} (a:s.fc=0) (i:s.i<Z8 ts) (t:(da ts n h s).1=aF):mu ts (da ts n h s).2.2.2<mu ts s:=by
 unfold da at t⊢;split
 .rename_i hw;exact aag hE _ a i (cP hw).2
 rename_i h;rw[W h]at t;split
 .rename_i hw;rw[hw]at t;cases t
 .rename_i hw;have hw:bR ts s [dU,fX,gn]≠0:=UQ
  split
  .exact AB hE a i gx
  exact pb hE a i (cP hw).2 ((nJ hE).trans (dX hE _)).toOn0
 .rename_i hw;have hw:bR ts s [dU,fX,gn]≠0:=UQ
  split
  .exact AB hE a i gx
  exact pb hE a i (cP hw).2 (vW hE _).toOn0
 rename_i b _ _;split
 .exact AB hE a i gx
 exact pb hE a i (cP b).2 (vW hE _).toOn0
theorem mN:∀f n h s,On ts s (cW ts f n h s).2
 | 0,_,_,s=>Mc _ _
 | f+1,n,h,s=>by
  rw[cW];split
  .exact Mc _ _
  split
  .exact(wP hE n h s).trans (mN f _ _ _)
  exact wP hE n h s
theorem G9{N} d (h:∀k s,s.d=d->s.fc=0->On ts s (N k s).2):∀f a s,s.d=d->On ts s (gw ts N f a s).2
 | 0,_,s,_=>Mc _ _
 | f+1,a,s,hd=>by
  rw[gw];split
  .exact Mc _ _
  rename_i b;have c:=(mB hE (cP b).1 (cP b).2).trans (h (bR ts s gH) _ hd (cP b).1);exact c.trans (G9 d h f _ _ (c.d.trans hd))
theorem aah{N}{n}{s}(hd:rX s.d)(j:∀k u,u.d=mZ s.d->u.fc=0->On ts u (N k u).2):On ts s (jl ts N n s).2:=by
 have g:=mN hE (Z8 ts+1) n ⟨aM,aM,aM⟩ {s with d:=mZ s.d};have h:=g.trans (G9 hE _ j (Z8 ts+1) [] _ g.d);have f:=dX hE [125] (s:={(gw ts N (Z8 ts+1) [] (cW ts (Z8 ts+1) n ⟨aM,aM,aM⟩ {s with d:=mZ s.d}).2).2 with d:=Ep (gw ts N (Z8 ts+1) [] (cW ts (Z8 ts+1) n ⟨aM,aM,aM⟩ {s with d:=mZ s.d}).2).2.d});refine⟨⟨λi=>f.lt (h.lt i),λe=>?_⟩,f.d.trans ?_⟩
 .obtain⟨a,b⟩:=f.le e;obtain⟨c,d⟩:=h.le a;exact⟨c,bp d b⟩
 rw[h.d];unfold Ep mZ;have:=hd.1;have:=hd.2;simp[IntKind.wrap_i64];omega
omit hE in
theorem OS (s:Sx):On ts s (lu ts s):=by
 unfold lu;split
 .split
  .exact(G6 s).trans (ry _)
  exact G6 s
 exact Mc _ _
theorem qD k s:On ts s (cy ts k s).2:=(OS s).trans (uv hE Z)
omit hE in
theorem ahA {k:Int} {s:Sx} (h:(cy ts k s).2.fc=0):s.d≠0:=λe=>by
 revert h;unfold cy cY;dsimp only;by_cases h1:(tk ts s.i).k=1
 .have hf:(lu ts s).fc≠0:=by
   unfold lu;rw[K h1,K ((G6 s).d.trans e)];exact wO Z
  rw[K (.inl hf)];exact gx
 have e2:lu ts s=s:=by unfold lu;rw[W h1]
 rw[e2,K (.inr h1)];exact gx
theorem uw:∀(f:Nat) (k:Int) (s:Sx),rX s.d->On ts s (fl ts f k s).2
 | 0,_,s,_=>Mc _ _
 | f+1,k,s,hd=>by
  rw[fl];have h:=qD hE k s;split
  .exact((h.trans (dX hE _)).trans (nJ hE)).trans (dX hE _)
  have a:=h.trans (dX hE [123]);refine a.trans (aah hE (by rw[a.d];exact hd) λk b u _=>uw f k b ?_);rw[u];exact rM _
theorem Ha(s:Sx):On ts s (mc ts s).2:=by
 unfold mc;dsimp only;have h:On ts s (if(tk ts s.i).k=1 then sP ts s else s):=by
  split
  .exact At5 s
  exact Mc _ _
 have a:∀u:Sx,On ts u (if bR ts u [[45]]=0 then u else bP u):=λu=>by
  split
  .exact Mc _ _
  rename_i b;exact mB hE (cP b).1 (cP b).2
 exact((((h.trans (uv hE Z)).trans (dX hE _)).trans (a _)).trans (uv hE Z)).trans (dX hE _)
theorem Hb:∀(f:Nat) (a:X Vr) (s:Sx),On ts s (gK ts f a s).2
 | 0,_,s=>Mc _ _
 | f+1,a,s=>by
  rw[gK];split
  .exact Mc _ _
  rename_i h;exact((mB hE (cP h).1 (cP h).2).trans (Ha hE _)).trans (Hb f _ _)
end
def Mk(w:aw)(F:aK)(e:TypeId)(size:Nat)(s:Sl):Prop:=s.n=0∨∃g c,s.a=Hg ⟨g,0,ZQ⟩/\F g/\aG w g e c/\s.n*size<=Z8 c
def jh{a:Type}(t:L)(r:Rp a)(size:Nat)(e:TypeId)(w:aw)(F:aK)(s:Sl)(x:X a):Prop:=aB r size w F s x/\(t=aF->Mk w F e size s)
section
variable {α:Type} {t:L} {r q:Rp α} {size:Nat} {e:TypeId} {w w':aw} {F G:aK} {s:Sl} {xs:X α} {B:Nat}
def Mk.keep(h:Mk w F e size s)(i:∀k,F k->k<w.heap.size->w'.heap[k]? =w.heap[k]?):Mk w' F e size s:=by
 rcases h with h | ⟨g,c,d,a,b,f⟩
 .exact .inl h
 exact .inr ⟨g,c,d,a,(i g a b.lt).trans b,f⟩
def Mk.mono(h:Mk w F e size s)(i:∀k,F k->k<w.heap.size->G k):Mk w G e size s:=by
 rcases h with h | ⟨g,c,b,d,a,f⟩
 .exact .inl h
 exact .inr ⟨g,c,b,i g d a.lt,a,f⟩
def jh.keep(b:r.Ok)(h:jh t r size e w F s xs)(c:0<size)(a:∀k,F k->k<w.heap.size->w'.heap[k]? =w.heap[k]?):jh t r size e w' F s xs:=⟨h.1.keep b c a,λx=>(h.2 x).keep a⟩
def jh.inHeap(c:r.Ok)(h:jh t r size e w F s xs)(d:0<size):jh t r size e w (λk=>F k/\k<w.heap.size) s xs:=⟨h.1.inHeap c d,λx=>(h.2 x).mono λk a b=>⟨a,b⟩⟩
def jh.mono(c:r.Ok)(h:jh t r size e w F s xs)(b:∀k,F k->G k):jh t r size e w G s xs:=⟨h.1.mono c b,λx=>(h.2 x).mono λk a _=>b k a⟩
def jh.nil t (r:Rp α) size e w F:jh t r size e w F Sl.nil []:=⟨RG _ _ _ _,λ_=>.inl I⟩
def TG:=@jh.nil
def jh.imp(h:jh t r size e w F s xs)(i:∀x c,x∈xs->r w F x c->q w F x c):jh t q size e w F s xs:=⟨Jv h.1 i,h.2⟩
def jh.off(h:jh t r size e w F s xs)(i:∀x c,x∈xs->r w F x c->q w F x c):jh aM q size e w F s xs:=⟨Jv h.1 i,λh=>Rl⟩
def _root_.Go.Kt.Own.sl(b:r.Ok)(h:Own r size e B w F s xs)(a:∀k,B<=k->F k):jh aF r size e w F s xs:=by
 refine⟨(h.slice b).mono b λk m=>m.elim id λx=>a k x.1,λ_=>?_⟩;rcases h with⟨rfl,rfl⟩ | ⟨g,c,tail,d,f,i,n,j,o,p,l⟩
 .exact .inl I
 exact .inr ⟨g,_,d,a g f,i,by rw[aP,ql.KY l,<-j];omega⟩
end
def OU(t:L):Nat->Rp Ex
 | 0=>λ_ _ _ _=>False
 | d+1=>λw F x c=>∃sl,c=nI x.k x.n x.s x.op sl x.a/\jh t (OU t d) 6 76 w F sl x.dK
def lw t:∀d,(OU t d).Ok
 | 0=>⟨λh _=>h.elim,λh=>h.elim,λh _=>h.elim,λh=>h.elim⟩
 | d+1=>⟨λ⟨sl,h,a⟩ k=>⟨sl,h,jh.keep (lw t d) a Z k⟩,λ⟨sl,h,a⟩=>⟨sl,h,jh.inHeap (lw t d) a Z⟩,λ⟨sl,h,a⟩ k=>⟨sl,h,jh.mono (lw t d) a k⟩,λ⟨sl,h,a⟩=>by
  subst h;intro v b;simp at b;rcases b with rfl | rfl | rfl | rfl | rfl | rfl<;>rfl⟩
def UX{t}{w}{F}:∀{d:Nat} {x:Ex} {c:aJ},OU t d w F x c->OU t (d+1) w F x c
 | 0,_,_,h=>h.elim
 | d+1,x,c,⟨sl,a,b⟩=>⟨sl,a,b.imp λx c _ h=>UX h⟩
def UY{t}{w}{F}{d e}{x}{cs}(a:d<=e)(h:OU t d w F x cs):OU t e w F x cs:=by
 induction e with
 | zero=>have:d=0:=J;subst this;exact h
 | succ e i=>
  by_cases b:d=e+1
  .subst b;exact h
  exact UX (i J)
def AG{t}{w}{F}:∀{d:Nat} {x:Ex} {c:aJ},OU t d w F x c->vS d w F x c
 | 0,_,_,h=>h.elim
 | d+1,x,c,⟨sl,a,b⟩=>⟨sl,a,Jv b.1 λx c _ h=>AG h⟩
def ShD{w}{F}:∀{d:Nat} {x:Ex} {c:aJ},vS d w F x c->OU aM d w F x c
 | 0,_,_,h=>h.elim
 | d+1,x,c,⟨sl,a,b⟩=>⟨sl,a,Jv b λx c _ h=>ShD h,λh=>Rl⟩
def RXN.xg{w:aw}{x}{c}{N}{l i}(h:RXN w N l i x c):∃d,OU aF d w (λk=>l<=k/\k<i) x c:=by
 induction h with
 | leaf l i k n s op a=>exact⟨1,Sl.nil,I,TG _ _ _ _ _ _⟩
 | one l z p i k n s op a x c q e t f u m b=>
  obtain⟨d,b⟩:=b;obtain⟨sl,g,_⟩:=q.cells;refine⟨d+1,_,I,⟨I,aX _,λh=>Rl,(by decide:(1:Nat)<=9223372036854775807),λo y j=>?_⟩,λ_=>.inr ⟨p,c,I,⟨e,f⟩,m,by rw[g];exact aX _⟩⟩;have T:o=0:=by
   have:=(bd.1 j).1;simp[Ex.dK,bf]at this;omega
  subst T;simp[Ex.dK,cZ,cd]at j;subst j;exact⟨_,c,I,⟨e,f⟩,by rw[g];rfl,by rw[wB];exact m.cells 0 c λo v hv=>JW,(lw aF d).mono b λk r=>⟨r.1,J⟩⟩
 | two l G H K q i k n s op a x y c d r z t A B C D f F g E u=>
  obtain⟨o,E⟩:=E;obtain⟨p,u⟩:=u;obtain⟨sl,Z,_⟩:=r.cells;obtain⟨X,S,_⟩:=t.cells;have e:Z8 c=6:=by rw[Z];rfl
  have m:Z8 d=6:=by rw[S];rfl
  refine⟨max o p+1,_,I,⟨I,aX _,λh=>Rl,(by decide:(2:Nat)<=9223372036854775807),λb y j=>?_⟩,λ_=>.inr ⟨q,c++d,I,⟨J,f⟩,g,by rw[aP,e,m];exact aX _⟩⟩;rcases b with _ | _ | b
  .simp[Ex.dK,cZ,cd]at j;subst j;exact⟨_,c,I,⟨Sb,f⟩,e,by rw[wB];exact g.cells 0 c λb v hv=>by rw[bO,ca (bd.1 hv).1];exact hv,(lw aF _).mono (UY (Nat.le_max_left _ _) E) λk h=>⟨h.1,J⟩⟩
  .simp[Ex.dK,dE,cZ,cd]at j;subst j;exact⟨_,d,I,⟨Sb,f⟩,m,by
    exact g.cells 6 d λb v hv=>by rw[cG J,e,eo];exact hv,(lw aF _).mono (UY (Nat.le_max_right _ _) u) λk h=>⟨J,J⟩⟩
  simp[Ex.dK]at j
def rE(t:L):Rp Ex:=λw F x c=>∃d,OU t d w F x c
def gp t:(rE t).Ok:=⟨λ⟨d,h⟩ k=>⟨d,(lw t d).keep h k⟩,λ⟨d,h⟩=>⟨d,(lw t d).inHeap h⟩,λ⟨d,h⟩ k=>⟨d,(lw t d).mono h k⟩,λ⟨d,h⟩=>(lw t d).one h⟩
def dM{t}{w}{F}{x}{cs}(h:rE t w F x cs):∃sl,cs=nI x.k x.n x.s x.op sl x.a:=by
 obtain⟨d,h⟩:=h;cases d with
 | zero=>exact h.elim
 | succ d=>obtain⟨sl,h,_⟩:=h;exact⟨sl,h⟩
def U0{t}{w}{F}{x}{cs}(h:rE t w F x cs):rE aM w F x cs:=by
 obtain⟨d,h⟩:=h;exact⟨d,ShD (AG h)⟩
def RM t w F:rE t w F uZ (nI 0 0 [] 0 Sl.nil 0):=⟨1,Sl.nil,I,TG _ _ _ _ _ _⟩
def Wj(k:Int)(n:S)(x:aJ)(a:Int):aJ:=O U k::ae (T n)::(x++[O U a])
def pI(t:L):Rp Ac:=λw F x s=>∃c,s=Wj x.k x.n c x.a/\rE t w F x.x c
def cN t:(pI t).Ok:=⟨λ⟨c,h,a⟩ k=>⟨c,h,(gp t).keep a k⟩,λ⟨c,h,a⟩=>⟨c,h,(gp t).inHeap a⟩,λ⟨c,h,a⟩ k=>⟨c,h,(gp t).mono a k⟩,λ⟨c,h,a⟩=>by
 subst h;intro v b;simp[Wj,aZ,dc,bB,cE]at b;rcases b with rfl | rfl | d | rfl
 .rfl
 .rfl
 .exact(gp t).one a v d
 rfl⟩
def T4(k:Int)(ev:S)(wt:Int)(d:L)(g:aJ)(m t:Sl)(a:Int):aJ:=O U k::ae (T ev)::O U wt::ak d::(g++[m.v,t.v,O U a])
def JE(t:L):Rp Mv:=λw F x c=>∃g m a,c=T4 x.k x.ev x.wt x.gd g m a x.a/\rE t w F x.g g/\jh t (pI t) 9 78 w F m x.acts/\jh t ju 1 9 w F a x.tg
def iL t:(JE t).Ok:=⟨λ⟨c,m,g,h,a,b,d⟩ k=>⟨c,m,g,h,(gp t).keep a k,b.keep (cN t) Z k,d.keep cx Z k⟩,
 λ⟨c,m,g,h,a,b,d⟩=>⟨c,m,g,h,(gp t).inHeap a,b.inHeap (cN t) Z,d.inHeap cx Z⟩,
 λ⟨c,m,g,h,a,b,d⟩ k=>⟨c,m,g,h,(gp t).mono a k,b.mono (cN t) k,d.mono cx k⟩,
 λ⟨c,m,g,h,a,b,d⟩=>by
  subst h;intro v c;simp[T4,aZ,dc,bB,cE]at c;rcases c with rfl | rfl | rfl | rfl | e | rfl | rfl | rfl
  .rfl
  .rfl
  .rfl
  .rfl
  .exact(gp t).one a v e
  .rfl
  .rfl
  rfl⟩
def MR:Rp Vr:=λ_ _ x c=>c=[ae (T x.n),O U x.v,O U x.a]
def ec:MR.Ok:=⟨λh _=>h,λh=>h,λh _=>h,λh=>by
 subst h;intro v a;simp at a;rcases a with rfl | rfl | rfl<;>rfl⟩
abbrev rz(k:Int)(n i d:S)(e l mv kids:Sl)(a:Int):aJ:=[O U k,ae (T n),ae (T i),ae (T d),e.v,l.v,mv.v,kids.v,O U a]
def Cg(t:L)(w:aw)(F:aK)(x:Nb)(e l mv:Sl):Prop:=jh t (pI t) 9 78 w F e x.en/\jh t (pI t) 9 78 w F l x.lv/\jh t (JE t) 13 82 w F mv x.mv
def pv(t:L):Nat->Rp Nd
 | 0=>λ_ _ _ _=>False
 | d+1=>λw F x c=>∃e l mv kids,c=rz x.b.k x.b.nm x.b.ini x.b.dft e l mv kids x.b.a/\Cg t w F x.b e l mv/\jh t (pv t d) 9 28 w F kids x.kids
section
variable {t:L} {w w':aw} {F G:aK} {x:Nb} {en lv mv:Sl}
def Cg.keep(h:Cg t w F x en lv mv)(a:∀k,F k->k<w.heap.size->w'.heap[k]? =w.heap[k]?):Cg t w' F x en lv mv:=⟨h.1.keep (cN t) Z a,h.2.1.keep (cN t) Z a,h.2.2.keep (iL t) Z a⟩
def Cg.inHeap(h:Cg t w F x en lv mv):Cg t w (λk=>F k/\k<w.heap.size) x en lv mv:=⟨h.1.inHeap (cN t) Z,h.2.1.inHeap (cN t) Z,h.2.2.inHeap (iL t) Z⟩
def Cg.mono(h:Cg t w F x en lv mv)(a:∀k,F k->G k):Cg t w G x en lv mv:=⟨h.1.mono (cN t) a,h.2.1.mono (cN t) a,h.2.2.mono (iL t) a⟩
end
def ck t:∀d,(pv t d).Ok
 | 0=>⟨λh _=>h.elim,λh=>h.elim,λh _=>h.elim,λh=>h.elim⟩
 | d+1=>⟨λ⟨e,l,mv,kids,h,a,b⟩ k=>⟨e,l,mv,kids,h,a.keep k,jh.keep (ck t d) b Z k⟩,
  λ⟨e,l,mv,kids,h,a,b⟩=>⟨e,l,mv,kids,h,a.inHeap,jh.inHeap (ck t d) b Z⟩,
  λ⟨e,l,mv,kids,h,a,b⟩ k=>⟨e,l,mv,kids,h,a.mono k,jh.mono (ck t d) b k⟩,λ⟨e,l,mv,kids,h,a,b⟩=>by
  subst h;intro v c;simp at c;rcases c with rfl | rfl | rfl | rfl | rfl | rfl | rfl | rfl | rfl<;>rfl⟩
def Hc{t}{w}{F}{x}{cs}(h:pI t w F x cs):pI aM w F x cs:=by
 obtain⟨c,a,b⟩:=h;exact⟨c,a,U0 b⟩
def aai{t}{w}{F}{x}{cs}(h:JE t w F x cs):JE aM w F x cs:=by
 obtain⟨c,m,g,a,b,d,e⟩:=h;exact⟨c,m,g,a,U0 b,d.off λ_ _ _ h=>Hc h,e.off λ_ _ _ h=>h⟩
def Cg.off{t}{w}{F}{x}{en lv mv}(h:Cg t w F x en lv mv):Cg aM w F x en lv mv:=⟨h.1.off λ_ _ _ h=>Hc h,h.2.1.off λ_ _ _ h=>Hc h,h.2.2.off λ_ _ _ h=>aai h⟩
def zi{t}{w}{F}:∀{d:Nat} {x:Nd} {c:aJ},pv t d w F x c->pv aM d w F x c
 | 0,_,_,h=>h.elim
 | d+1,x,c,⟨e,l,mv,kids,a,b,f⟩=>⟨e,l,mv,kids,a,b.off,f.off λx c _ h=>zi h⟩
structure ChR (t:Bool) (d:Nat) (w:aw) (F:aK) (c:Ch) (vs:Sl) (cs:aJ):Prop where
 vars:jh t MR 3 69 w F vs c.vars
 root:pv t d w F c.root cs
abbrev Fr(B:Nat):aK:=λk=>B<=k
section
variable {α:Type} {r:Rp α} {size:Nat} {e:TypeId} {w w':aw} {s:Sl} {xs:X α} {B:Nat}
def _root_.Go.Kt.Own.stay(a:r.Ok)(h:Own r size e B w (Fr B) s xs){bs}(O:az bs w w')(c:∀x,x∈bs->x<B∨w.heap.size<=x):Own r size e B w' (Fr B) s xs:=by
 refine((h.inHeap a).keep a λk b T=>O.block k T λm=>?_).mono a λk b=>b.1;rcases c k m with h | h<;>omega
def _root_.Go.Kt.Own.new(h:Own r size e B w (Fr B) s xs){k}(a:w.heap.size<=k):s.a≠Hg ⟨k,0,ZQ⟩:=λe=>by
 have:=(h.blk e).2;dsimp only at this;omega
end
mutual
def Fv:Ex->Nat
 | .mk _ _ _ _ l _=>WL l+1
def WL:X Ex->Nat
 | []=>0
 | x::l=>max (Fv x) (WL l)
end
mutual
def Bh:Ex->Nat
 | .mk _ _ s _ l _=>Il l+(Z8 s+1)
def Il:X Ex->Nat
 | []=>0
 | x::l=>Bh x+Il l
end
def Hd x:Fv x=WL x.dK+1:=by cases x;rw[Fv];rfl
def He x:Bh x=Il x.dK+(Z8 x.s+1):=by cases x;rw[Bh];rfl
def Ci{y}:∀{l:X Ex},y∈l->Fv y<=WL l
 | [],h=>Gl
 | x::l,h=>by
  rw[WL];rcases aZ.1 h with rfl | h
  .omega
  exact bp (Ci h) J
def Hf{y}:∀{l:X Ex},y∈l->Bh y<=Il l
 | [],h=>Gl
 | x::l,h=>by
  rw[Il];rcases aZ.1 h with rfl | h
  .omega
  have:=Hf h;omega
def U1{d}:∀{l:X Ex},(∀y,y∈l->Fv y<=d)->WL l<=d
 | [],_=>by rw[WL];omega
 | x::l,h=>by
  exact Nat.max_le.2 ⟨h x R,U1 λy a=>h y (by simp[a])⟩
def aak x:1<=Fv x:=by rw[Hd];omega
def MS{w}{F}:∀{d:Nat} {x:Ex} {c:aJ},vS d w F x c->Fv x<=d
 | 0,_,_,h=>h.elim
 | d+1,x,c,⟨sl,f,a⟩=>by
  rw[Hd];refine Nat.succ_le_succ (U1 λy b=>?_);have⟨e,j⟩:=nZ b;have⟨_,c,_,_,_,_,h⟩:=a.at_ e y j;exact MS h
def Dv{f g}:∀{l:X Ex},(∀y,y∈l->f y=g y)->kl f l=kl g l
 | [],_=>rfl
 | x::l,h=>by rw[kl,kl,h x R,Dv λy a=>h y (by simp[a])]
def JF:∀d e x,Fv x<=d->Fv x<=e->de d x=de e x
 | 0,_,x,h,_=>JC
 | _,0,x,_,h=>JC
 | d+1,e+1,x,a,k=>by
  rw[Hd]at a k;rw[de,de,Dv λy h=>JF d e y (by have:=Ci h;omega) (by have:=Ci h;omega)]
def OW:∀d e x wr l,Fv x<=d->Fv x<=e->qz d x wr l=qz e x wr l
 | 0,_,x,_,_,h,_=>JC
 | _,0,x,_,_,_,h=>JC
 | d+1,e+1,x,wr,l,b,k=>by
  rw[Hd]at b k;have m:∀y,y∈x.dK->Fv y<=d/\Fv y<=e:=λy h=>by have:=Ci h;omega
  rw[qz,qz];cases a:x.dK with
  | nil=>rfl
  | cons y c=>
   cases c with
   | nil=>
    have h:=m y (by rw[a];simp);dsimp only;rw[OW d e y _ _ h.1 h.2]
   | cons z c=>
    cases c with
    | nil=>
     have h:=m y (by rw[a];simp);have f:=m z (by rw[a];simp);dsimp only;rw[OW d e y _ _ h.1 h.2,OW d e z _ _ f.1 f.2]
    | cons _ _=>rfl
def U2:∀d x,sO d x<=Bh x
 | 0,x=>bh _
 | d+1,x=>by
  rw[sO,He];have:∀l,xp _ l<=Il l:=λl=>by
   induction l with
   | nil=>exact bh _
   | cons y l i=>rw[xp,Il];exact xF (U2 d y) i
  have:=this x.dK;omega
def MT:∀d x,Bh x<4611686018427387903->xI d x
 | 0,x,_=>trivial
 | d+1,x,h=>by
  rw[He]at h;exact⟨J,λy a=>MT d y (by have:=Hf a;omega)⟩
def MU(x:Ex):Prop:=∀d,lq d x
def xK(x:Ex):S:=qB (Fv x) x
def OX{d}{x}(h:Fv x<=d):qB d x=xK x:=by
 unfold xK qB;rw[JF d (Fv x) x h J,OW d (Fv x) x aM [] h J]
def JG{d}{x}(h:qB d x≠[]):de d x=aF/\qB d x=qz d x aM []/\(iG (qz d x aM [])).2.1=0:=by
 unfold qB at h⊢;by_cases s:de d x=aF
 .rw[K s]at h⊢;by_cases hr:(iG (qz d x aM [])).2.1≠0
  .rw[K hr]at h;exact absurd I h
  rw[W hr];exact⟨s,I,OT⟩
 rw[W s]at h;exact absurd I h
def aaj{w}{F}{x}{cs}(b:rE aM w F x cs)(n:MU x)(s:Bh x<=1759218604441)(E:Er w)(a:Tb w):
  aA ar 347 #[ai cs.toArray] w λe c=>e=ao (ae (T (xK x)))/\az [] w c:=by
 have⟨d,h⟩:=b;have h:=AG h;rw[<-OX (MS h)];exact afB h (MT d x J) (n d) E a (by have:=U2 d x;omega)
def rA(x:Ex):L:=(((x.k==0&&x.n==0)&&VM (x.s=[]))&&x.op==0)&&((Z8 x.dK:Int)==0)
def ux(x:Ex):L:=VM (xK x≠[])
def iM(a:Ac):L:=VM (1<=a.k/\a.k<=3)&&dI a.n&&(if a.k=2 then rA a.x else ux a.x)
def mO(m:Mv):L:=
 VM (1<=m.k/\m.k<=3)&&(if m.k=1 then dI m.ev else VM (m.ev=[]))&&(if m.gd then ux m.g else rA m.g)&&m.acts.all iM&&m.tg.all dI&&VM (m.wt=0∨m.k=3/\0<m.wt)
def iJ(k:Int):L:=VM (k=3∨k=4)
def u7(b:Nb)(kids:Nat):L:=
 dI b.nm&&(if iJ b.k then dI b.dft&&VM (b.ini=[]/\b.en=[]/\b.lv=[]/\Z8 b.mv=0/\kids=0)
  else VM ((b.k=1∨b.k=2)/\b.dft=[])&&(VM (b.ini=[])||dI b.ini)&&b.en.all iM&&b.lv.all iM&&b.mv.all mO)
mutual
def ku:Nat->Nd->L
 | d,.mk b l=>VM (d<12)&&u7 b (Z8 l)&&jm (d+1) l
def jm:Nat->X Nd->L
 | _,[]=>aF
 | d,x::l=>ku d x&&jm d l
end
def BJ(b:Nb):Nat:=Z8 b.en+Z8 b.lv+(b.mv.map λm=>Z8 m.acts).sum
mutual
def j7:Nd->Nat
 | .mk _ l=>dW l+1
def dW:X Nd->Nat
 | []=>0
 | x::l=>j7 x+dW l
end
mutual
def zj:Nd->Nat
 | .mk b l=>Z8 b.mv+nY l
def nY:X Nd->Nat
 | []=>0
 | x::l=>zj x+nY l
end
mutual
def xL:Nd->Nat
 | .mk b l=>BJ b+nt l
def nt:X Nd->Nat
 | []=>0
 | x::l=>xL x+nt l
end
def qW(c:Ch):L:=
 (c.vars.all λv=>dI v.n&&VM (v.v≠ -9223372036854775808))&&ku 0 c.root&&VM (c.root.b.k=1/\Z8 c.vars<=16/\j7 c.root<=64/\zj c.root<=200/\xL c.root<=400)
def Cj(a:Ac):S:=
 if a.k=2 then gD++32::(a.n++[59])else(if a.k=1 then mM else jc)++32::(a.n++32::61::32::(xK a.x++[59]))
def zl:X Ac->S
 | []=>[]
 | a::l=>32::(Cj a++zl l)
def An(l:X Ac):S:=123::(zl l++[32,125])
def Fw:X (S)->S
 | []=>[]
 | s::l=>44::32::(s++Fw l)
def Yy(m:Mv):S:=if m.k=1 then u6++32::m.ev else if m.k=3 then fL++32::Lib.itoa m.wt else fb
def S1(m:Mv):S:=if m.gd then 32::91::(xK m.g++[93])else[]
def EN(m:Mv):S:=
 Yy m++(S1 m++((if m.acts=[]then[]else 32::An m.acts)++((match m.tg with
  | []=>[]
  | s::l=>32::45::62::32::(s++Fw l))++[59])))
def kW(k:Int):S:=if k=1 then AA else if k=2 then qo else if k=3 then sQ else Fs
abbrev Ln:=Nat×S
def xr(d:Nat)(b:Nb):X Ln:=if b.ini=[]then[]else[(d,dU++32::(b.ini++[59]))]
def OY(d:Nat)(b:Nb):X Ln:=if b.en=[]then[]else[(d,fX++32::An b.en)]
def RN(d:Nat)(b:Nb):X Ln:=if b.lv=[]then[]else[(d,gn++32::An b.lv)]
def IH(d:Nat)(b:Nb):X Ln:=b.mv.map λm=>(d,EN m)
def JH(d:Nat)(b:Nb):X Ln:=xr d b++(OY d b++(RN d b++IH d b))
mutual
def Im:Nat->Nd->X Ln
 | d,.mk b l=>
  if iJ b.k then[(d,kW b.k++32::(b.nm++32::45::62::32::(b.dft++[59])))]
  else(d,kW b.k++32::(b.nm++[32,123]))::(JH (d+1) b++(qE (d+1) l++[(d,[125])]))
def qE:Nat->X Nd->X Ln
 | _,[]=>[]
 | d,x::l=>Im d x++qE d l
end
def IB(v:Vr):S:=uu++32::(v.n++32::61::32::(Lib.itoa v.v++[59]))
def EO(c:Ch):X Ln:=
 (0,dB++32::(c.root.b.nm++[32,123]))::((c.vars.map λv=>(1,IB v))++(JH 1 c.root.b++(qE 1 c.root.kids++[(0,[125])])))
def vY:Nat->S
 | 0=>[]
 | d+1=>32::32::vY d
def II(p:Ln):S:=vY p.1++(p.2++[10])
def ly(b:S)(p:Ln):S:=if 16384<Z8 b then b else b++II p
def eE(b:S)(L:X Ln):S:=L.foldl ly b
def Bi(L:X Ln):S:=L.flatMap II
def OZ b p:Z8 b<=Z8 (ly b p):=by
 rw[ly];split
 .omega
 rw[aP];omega
def JI:∀L b,Z8 b<=Z8 (eE b L)
 | [],_=>aX _
 | p::L,b=>bp (OZ b p) (JI L _)
def gy b L M:eE b (L++M)=eE (eE b L) M:=nA
def uy b p L:eE b (p::L)=eE (ly b p) L:=rfl
def xKQ:∀L b,Z8 (eE b L)<=16384->eE b L=b++Bi L
 | [],b,_=>(bD b).symm
 | p::L,b,h=>by
  rw[uy]at h⊢;have a:=JI L (ly b p);have c:=OZ b p;rw[xKQ L _ h];have:ly b p=b++II p:=by unfold ly;rw[W J]
  rw[this,be];rfl
def JJ:∀L b,16384<(Z8 b)->eE b L=b
 | [],_,_=>rfl
 | p::L,b,h=>by
  have:ly b p=b:=by unfold ly;rw[K h]
  rw[uy,this,JJ L b h]
def jI(c:Ch):S×Int:=
 if qW c=aF then(if 16384<Z8 (eE [] (EO c)) then([],2)else(eE [] (EO c),0))else([],22)
def BK(a:Ac):Prop:=MU a.x
structure F9 (m:Mv):Prop where
 g:MU m.g
 a:∀x,x∈m.acts->BK x
 w:rX m.wt
structure Q4 (b:Nb):Prop where
 en:∀a,a∈b.en->BK a
 lv:∀a,a∈b.lv->BK a
 mv:∀m,m∈b.mv->F9 m
mutual
def Dw:Nd->Prop
 | .mk b l=>Q4 b/\xu l
def xu:X Nd->Prop
 | []=>True
 | x::l=>Dw x/\xu l
end
structure Ga (c:Ch):Prop where
 v:∀v,v∈c.vars->rX v.v
 r:Dw c.root
structure jo where
 k:Int
 nm:S
 pa:Int
 dp:Int
 en:Int
mutual
def O0(a:Nat)(p d:Int):Nd->X jo
 | .mk b l=>⟨b.k,b.nm,p,d,((a+1+dW l:Nat):Int)⟩::wQ (a+1) a (d+1) l
def wQ(a:Nat)(p d:Int):X Nd->X jo
 | []=>[]
 | x::l=>O0 a p d x++wQ (a+j7 x) p d l
end
mutual
def uz(a:Nat)(p d:Int):∀x,Z8 (O0 a p d x)=j7 x
 | .mk b l=>by rw[O0,j7,aY,uA]
def uA(a:Nat)(p d:Int):∀l,Z8 (wQ a p d l)=dW l
 | []=>by rw[wQ,dW];rfl
 | x::l=>by rw[wQ,dW,aP,uz,uA]
end
def zm:∀l m,dW (l++m)=dW l+dW m
 | [],m=>by rw[dW,cb,bO]
 | x::l,m=>by rw[bW,dW,dW,zm l m,fI]
def Hh pa dp:∀l m a,wQ a pa dp (l++m)=wQ a pa dp l++wQ (a+dW l) pa dp m
 | [],m,a=>by rw[cb,wQ,cb,dW,gP]
 | x::l,m,a=>by rw[bW,wQ,wQ,Hh pa dp l m,dW,be,fI]
def O1:∀x,1<=j7 x
 | .mk b l=>by rw[j7];omega
def unI{x}:∀{l:X Nd},x∈l->j7 x<=dW l
 | [],h=>Gl
 | y::l,h=>by
  rw[dW];rcases aZ.1 h with rfl | h
  .omega
  have:=unI h;omega
def oG{y}:∀{l:X Nd} {j:Nat},l[j]? =Hg y->dW (l.take j)+j7 y<=dW l
 | [],_,h=>Gl
 | x::l,0,h=>by
  rw[cZ,cd]at h;subst h;rw[ci,dW,dW];omega
 | x::l,j+1,h=>by
  have:=oG (l:=l) (j:=j) (by rwa[dE]at h);rw[fx,dW,dW];omega
def sU:∀l,Z8 l<=dW l
 | []=>bh _
 | a::l=>by
  have:=sU l;have:=O1 a;rw[dW,aY];omega
def Dy(L:X jo)(a i:Nat)(s:jo):Prop:=∃p t,p<i/\L[p]? =Hg t/\s.pa=((a+p:Nat))/\s.dp=t.dp+1/\((a+i:Nat))<t.en/\s.en<=t.en/\∀j u,p<j->j<i->L[j]? =Hg u->u.en<=((a+i:Nat))
def Dy.Ef{L M}{a i}{s}(h:Dy L a i s)(o:i<Z8 L):Dy (L++M) a i s:=by
 obtain⟨p,t,d,e,f,j,k,l,m⟩:=h;refine⟨p,t,d,?_,f,j,k,l,λn u g b c=>m n u g b ?_⟩
 .rw[ca J];exact e
 rwa[ca J]at c
def Dy.shift{L M}{a i}{s}(h:Dy M (a+Z8 L) i s):Dy (L++M) a (Z8 L+i) s:=by
 obtain⟨p,t,l,b,c,d,m,e,f⟩:=h;refine⟨Z8 L+p,t,J,?_,by rw[c];omega,d,J,e,λn u j k g=>?_⟩
 .rw[cG J,eo];exact b
 rw[cG J]at g;have:=f _ u J J g;omega
mutual
def MV(a:Nat)(p d:Int):∀(x:Nd) (i:Nat) (s:jo),(O0 a p d x)[i]? =Hg s->((a+i:Nat):Int)<s.en/\s.en<=((a+j7 x:Nat):Int)/\(i=0->s.pa=p/\s.dp=d/\s.en=((a+j7 x:Nat):Int))/\(0<i->Dy (O0 a p d x) a i s)
 | .mk b l,i,s,h=>by
  rw[O0]at h⊢;rw[j7];cases i with
  | zero=>
   rw[cZ,cd]at h;subst h;dsimp only;exact⟨J,J,λ_=>⟨I,I,J⟩,λh=>J⟩
  | succ i=>
   rw[dE]at h;obtain⟨k,m,j⟩:=U4 (a+1) a (d+1) l i s h;refine⟨J,J,λh=>J,λ_=>?_⟩;rcases j with⟨c,e,f⟩ | g
   .refine⟨0,_,J,cZ,by rw[c,gP],e,Sb,Sb,λa u b n k3=>?_⟩;cases a with
    | zero=>omega
    | succ a=>
     rw[dE]at k3;have:=f a u J k3;omega
   have:=Dy.shift (L:=[⟨b.k,b.nm,p,d,((a+1+dW l:Nat):Int)⟩]) (M:=wQ (a+1) a (d+1) l) (a:=a) (i:=i) (s:=s) g;rw[bf,oS 1 i]at this;exact this
def U4(a:Nat)(p d:Int):∀(l:X Nd) (i:Nat) (s:jo),(wQ a p d l)[i]? =Hg s->((a+i:Nat):Int)<s.en/\s.en<=((a+dW l:Nat):Int)/\
  ((s.pa=p/\s.dp=d/\∀j u,j<i->(wQ a p d l)[j]? =Hg u->u.en<=((a+i:Nat):Int))∨Dy (wQ a p d l) a i s)
 | [],i,s,h=>by rw[wQ]at h;simp at h
 | x::l,i,s,h=>by
  rw[wQ]at h⊢;rw[dW];have b:=uz a p d x;by_cases c:i<j7 x
  .rw[ca J]at h;obtain⟨f,m,g,k⟩:=MV a p d x i s h;refine⟨f,J,?_⟩;by_cases e:i=0
   .obtain⟨a,n,o⟩:=g e;exact .inl ⟨a,n,λj u q=>J⟩
   exact .inr ((k J).Ef J)
  rw[cG J,b]at h;obtain⟨n,o,m⟩:=U4 (a+j7 x) p d l (i-j7 x) s h;refine⟨J,J,?_⟩;rcases m with⟨e,f,k⟩ | g
  .refine .inl ⟨e,f,λj u s q=>?_⟩;by_cases r:j<j7 x
   .rw[ca J]at q;have:=(MV a p d x j u q).2.1;omega
   rw[cG J,b]at q;have:=k (j-j7 x) u J q;omega
  refine .inr ?_;rw[<-b]at g;have:=Dy.shift (L:=O0 a p d x) g;rw[b]at this;rwa[show j7 x+(i-j7 x)=i by omega]at this
end
structure Fo (xs:List jo):Prop where
 ne:0<Z8 xs
 rt:∀s:jo,xs[0]? =Hg s->s.pa= -1/\s.dp=0/\s.en=(Z8 xs:Int)
 up:∀(i:Nat) (s:jo),xs[i]? =Hg s->(i:Int)<s.en/\s.en<=(Z8 xs:Int)
 pa:∀(i:Nat) (s:jo),0<i->xs[i]? =Hg s->Dy xs 0 i s
def od(c:Ch):X jo:=O0 0 (-1) 0 c.root
def O2 c:Fo (od c):=by
 unfold od;have l:=uz 0 (-1) 0 c.root;have a:=MV 0 (-1) 0 c.root;refine⟨by have:=O1 c.root;omega,λs h=>?_,λi s h=>?_,λi s b h=>(a i s h).2.2.2 b⟩
 .obtain⟨c,d,e⟩:=(a 0 s h).2.2.1 I;exact⟨c,d,by rw[e,l];omega⟩
 obtain _:=a i s h;exact⟨J,J⟩
section
variable {xs:X jo} (F:Fo xs) {i j k p:Nat} {s t u:jo}
include F
theorem Fo.lam:∀k {i:Nat} {s t:jo},xs[i]? =Hg s->xs[k]? =Hg t->i<k->k<s.en->t.en<=s.en
 | k,i,s,t,a,e,b,n=>by
  obtain⟨p,v,g,h,j,l,m,c,d⟩:=F.pa k t J e;by_cases f:p<i
  .have:=d i s f b a;omega
  by_cases k:p=i
  .subst k;rw[a,cd]at h;subst h;exact c
  have:=Fo.lam p a h J J;omega
theorem Fo.par(g:xs[k]? =Hg t)(h:0<k):∃(p:Nat) (s:jo),p<k/\t.pa=p/\xs[p]? =Hg s/\t.dp=s.dp+1/\k<s.en/\∀i u,xs[i]? =Hg u->i<k->(k:Int)<u.en->i<=p:=by
 obtain⟨p,v,a,b,c,d,m,n,e⟩:=F.pa k t h g;refine⟨p,v,a,by rw[c];omega,b,d,J,λi u l f r=>?_⟩;by_cases j:p<i
 .have:=e i u j f l;omega
 omega
omit F in
theorem vZ {xs:List jo} {i:Nat} {s:jo} (h:xs[i]? =Hg s):i<Z8 xs:=(bd.1 h).1
omit F in
theorem lS {xs:List jo} {i:Nat} (h:i<Z8 xs):∃s,xs[i]? =Hg s:=⟨_,bH h⟩
end
def Ck(x:X jo)(b a:Nat):Prop:=∃s,x[b]? =Hg s/\b<=a/\a<s.en
section
variable {xs:X jo} (F:Fo xs) {i j k p:Nat}
include F
theorem Fo.agD(h:Ck xs i j):j<Z8 xs:=by
 obtain⟨s,a,b,c⟩:=h;have:=(F.up i s a).2;omega
theorem Fo.W0(a:i<Z8 xs):Ck xs i i:=by
 obtain⟨s,h⟩:=lS a;exact⟨s,h,aX _,(F.up i s h).1⟩
theorem Fo.W1(a:i<Z8 xs):Ck xs 0 i:=by
 obtain⟨s,h⟩:=lS F.ne;exact⟨s,h,bh _,by rw[(F.rt s h).2.2];omega⟩
theorem Fo.agE(c:Ck xs i j)(a:Ck xs j k):Ck xs i k:=by
 obtain⟨s,h,l,d⟩:=c;obtain⟨t,g,f,b⟩:=a;refine⟨s,h,J,?_⟩;by_cases e:i=j
 .subst e;rw[h,cd]at g;subst g;exact b
 have:=F.lam j h g J d;omega
theorem Fo.agF(h:Ck xs i k)(g:Ck xs j k)(v:i<=j):Ck xs i j:=by
 obtain⟨s,a,e,f⟩:=h;obtain⟨t,b,c,d⟩:=g;exact⟨s,a,v,J⟩
end
def Dh(x:X jo)(l:X Int)(r:Int):Prop:=∃m:Nat,r=m/\(∀n,n∈l->∃k:Nat,n=k/\Ck x m k)/\∀j,(∀n,n∈l->∃k:Nat,n=k/\Ck x j k)->j<=m
def Ah(x:X jo)(n:Int):Prop:=0<=n/\n<Z8 x
def Mt(x:X jo)(l:X Int)(r:Int):Prop:=((l=[]∨∃n,n∈l/\¬Ah x n)/\r= -1)∨((l≠[]/\∀n,n∈l->Ah x n)/\Dh x l r)
def Mt.anj{xs}{l}{r}(h:Mt xs l r)(a:l≠[])(b:∀n,n∈l->Ah xs n):Dh xs l r:=by
 rcases h with⟨c | ⟨n,e,d⟩,_⟩ | ⟨_,h⟩
 .exact absurd c a
 .exact absurd (b n e) d
 exact h
abbrev Ft:=Int×Int
def jJ(f:Ft)(L:X Ft):Ft:=L.foldl (λf p=>if f.1=0 then p else f) f
def bad(ok:L)(e a:Int):X Ft:=if ok then[]else[(e,a)]
def fZ f L M:jJ f (L++M)=jJ (jJ f L) M:=nA
def Hi{f}(h:f.1≠0):∀L,jJ f L=f
 | []=>rfl
 | p::L=>by
  show jJ (if f.1=0 then p else f) L=f;rw[W h];exact Hi h L
def aal f ok e a:jJ f (bad ok e a)=if(!ok&&f.1==0)=aF then(e,a)else f:=by
 unfold bad;cases ok
 .by_cases h:f.1=0
  .simp[jJ,h]
  simp[jJ,h]
 simp[jJ]
def iv(a:X jo)(s:S):Int:=if uR s (a.map λx:jo=>x.nm)<Z8 a then(uR s (a.map λx:jo=>x.nm))else -1
def yd(s:X jo)(n:Int):Int:=match s[n.toNat]? with
 | some x=>x.k
 | none=>0
def U5(s:X jo)(n:Int):Int:=match s[n.toNat]? with
 | some x=>x.pa
 | none=>0
def JL(x:X jo)(s:S):L:=VM (0<=iv x s)&&!iJ (yd x (iv x s))
def Om(x:X jo)(b a:Nat):L:=match x[b]? with
 | some s=>VM (b<=a)&&VM (a<s.en)
 | none=>aM
def pJ(x:X jo)(b a:Int):L:=VM (0<=b/\0<=a)&&Om x b.toNat a.toNat
def AH(x:X jo)(a b:Int):L:=VM (a≠b)&&pJ x b a
def zn(x:X jo)(a b:Int):Nat->Int
 | 0=> -1
 | m+1=>if(pJ x m a&&pJ x m b)=aF then m else zn x a b m
def Dz(x:X jo)(a b:Int):Int:=zn x a b (Z8 x)
def U6(x:X jo)(a b:Int):L:=VM (Dz x a b≠a/\Dz x a b≠b)&&VM (yd x (Dz x a b)=2)
def Hj(x:X jo)(s:S):Int:=if iJ (yd x (iv x s))then U5 x (iv x s)else iv x s
def O3(x:X jo):X Int->X (S)->L
 | _,[]=>aF
 | l,s::r=>if iv x s<1 then aM else if(l.any λo=>!U6 x (Hj x s) o)then aM else O3 x (l++[Hj x s]) r
mutual
def Bj:Nd->X (S×Int)
 | .mk b l=>(b.nm,b.a)::xM l
def xM:X Nd->X (S×Int)
 | []=>[]
 | x::l=>Bj x++xM l
end
def wa:X (S)->X (S×Int)->X Ft
 | _,[]=>[]
 | l,p::r=>bad (!VM (p.1∈l)) 24 p.2++wa (l++[p.1]) r
def zo:∀p q l,wa l (p++q)=wa l p++wa (l++p.map λx=>x.1) q
 | [],q,l=>by rw[cb,wa,cb,gQ,bD]
 | x::p,q,l=>by rw[bW,wa,wa,zo p q,be,cu,be];rfl
def Hk:∀l m,xM (l++m)=xM l++xM m
 | [],m=>by rw[cb,xM,cb]
 | x::l,m=>by rw[bW,xM,xM,Hk l m,be]
mutual
def O4(a:Nat)(c d:Int):∀x,(O0 a c d x).map (λs:jo=>s.nm)=(Bj x).map λp=>p.1
 | .mk b l=>by rw[O0,Bj,cu,cu,MW]
def MW(a:Nat)(b d:Int):∀l,(wQ a b d l).map (λs:jo=>s.nm)=(xM l).map λp=>p.1
 | []=>by rw[wQ,xM];rfl
 | x::l=>by rw[wQ,xM,cX,cX,O4,MW]
end
def aan x:Z8 (Bj x)=j7 x:=by
 have:=bK List.length (O4 0 0 0 x);rw[bQ,bQ,uz]at this;exact this.symm
def O5 x:Z8 (xM x)=dW x:=by
 have:=bK List.length (MW 0 0 0 x);rw[bQ,bQ,uA]at this;exact this.symm
section
variable (xs:X jo) (vs:X (S))
def LF(k:Int)(s:S):L:=(VM (k≠2)||VM (s∈vs))&&(VM (k≠3)||JL xs s)
mutual
def U7:Ex->X Ft
 | .mk k n s op l a=>bad (LF xs vs k s) 23 a++wb l
def wb:X Ex->X Ft
 | []=>[]
 | x::l=>U7 x++wb l
end
def U8 x:U7 xs vs x=bad (LF xs vs x.k x.s) 23 x.a++wb xs vs x.dK:=by cases x;rw[U7];rfl
def DA:∀l m,wb xs vs (l++m)=wb xs vs l++wb xs vs m
 | [],m=>by rw[cb,wb,cb]
 | x::l,m=>by rw[bW,wb,wb,DA l m,be]
def Kf(a:Ac):X Ft:=bad (VM (a.k≠1)||VM (a.n∈vs)) 23 a.a++U7 xs vs a.x
def lM(l:X Ac):X Ft:=l.flatMap (Kf xs vs)
def JM(m:Mv):L:=(m.k !=3)||(VM (m.wt>0)&&VM (m.wt<=1099511627776))
def EP(m:Mv):X Ft:=bad (JM m) 28 m.a++(U7 xs vs m.g++(lM xs vs m.acts++bad (O3 xs [] m.tg) 27 m.a))
def Es(l:X Nd):Nat:=Z8 (l.filter λx=>!iJ x.b.k)
def zq(s:S)(l:X Nd):L:=l.any λx=>VM (x.b.nm=s)
def xN(b:Nb)(l:X Nd)(a:Nat):X Ft:=
 if iJ b.k then bad (JL xs b.dft&&AH xs (iv xs b.dft) (U5 xs a)) 26 b.a
 else if b.k=2 then bad (VM (b.ini=[])&&VM (1<Es l)) 25 b.a
 else if 0<Es l then bad (zq b.ini l) 25 b.a
 else bad (VM (b.ini=[])) 25 b.a++bad (VM (Z8 l=0)) 26 b.a
mutual
def S2:Nat->Nd->X Ft
 | n,.mk b l=>xN xs b l n++(lM xs vs (b.en++b.lv)++(b.mv.flatMap (EP xs vs)++rR (n+1) l))
def rR:Nat->X Nd->X Ft
 | _,[]=>[]
 | n,x::l=>S2 n x++rR (n+j7 x) l
end
def DB:∀l m n,rR xs vs n (l++m)=rR xs vs n l++rR xs vs (n+dW l) m
 | [],m,n=>by rw[cb,rR,cb,dW,gP]
 | x::l,m,n=>by rw[bW,rR,rR,DB l m,be,dW,fI]
end
def O6(c:Ch):X (S):=c.vars.map λv=>v.n
def Fx(c:Ch):X Ft:=wa [] (Bj c.root)++(wa [] (c.vars.map λv=>(v.n,v.a))++S2 (od c) (O6 c) 0 c.root)
def O7{s}:∀{l:X _},uR s l<(Z8 l)->l[uR s l]? =Hg s
 | [],h=>Gl
 | x::l,h=>by
  rw[uR]at h⊢;split
  .rename_i e;rw[e];rfl
  rename_i e;rw[W e,aY]at h;exact O7 J
def pc{s}:∀{l:X _},uR s l<Z8 l↔s∈l
 | []=>R
 | x::l=>by
  rw[uR,aZ,aY];split
  .rename_i e;exact⟨λ_=>.inl e,λ_=>J⟩
  rename_i e;have:=pc (s:=s) (l:=l);exact⟨λh=>.inr (this.1 J),λh=>by have:=this.2 (h.resolve_left e);omega⟩
def Hl{s} m:∀{l:X _},s∈l->uR s (l++m)=uR s l
 | [],h=>Gl
 | x::l,h=>by
  rw[bW,uR,uR];split
  .rfl
  rename_i e;rw[Hl m ((aZ.1 h).resolve_left e)]
def Hm{s} m:∀{l:X _},s∉l->uR s (l++s::m)=Z8 l
 | [],_=>by rw[cb,uR,K I];rfl
 | x::l,h=>by
  rw[bW,uR,W (λe=>h (by rw[e];simp)),Hm m (λa=>h (dw _ a))];rfl
section
variable {xs:X jo} {s:S}
def lz xs s:(iv xs s= -1/\∀x∈xs,x.nm≠s)∨∃(n:Nat) (x:jo),iv xs s=n/\xs[n]? =Hg x/\x.nm=s:=by
 unfold iv;split
 .rename_i h;right;have:=O7 (l:=xs.map λx:jo=>x.nm) (s:=s) (by rw[bQ];exact h);rw[dr,ir]at this;obtain⟨x,a,e⟩:=this;exact⟨_,x,I,a,e⟩
 rename_i h;refine .inl ⟨I,λx a e=>h ?_⟩;have:=(pc (s:=s) (l:=xs.map λx:jo=>x.nm)).2 (oP.2 ⟨x,a,e⟩);rwa[bQ]at this
def ke{n:Nat}{x}(h:xs[n]? =Hg x):yd xs n=x.k:=by unfold yd;rw[aW,h]
def wc{n:Nat}{x}(h:xs[n]? =Hg x):U5 xs n=x.pa:=by unfold U5;rw[aW,h]
def tst{b a}:Om xs b a=aF↔Ck xs b a:=by
 unfold Om Ck;rcases h:xs[b]? with _|s
 .simp
 simp
def DC{b a}:pJ xs b a=aF↔∃i j:Nat,b=i/\a=j/\Ck xs i j:=by
 unfold pJ;rw[H,eI,tst];constructor
 .rintro⟨⟨a,b⟩,h⟩;exact⟨_,_,(fy a).symm,(fy b).symm,h⟩
 rintro⟨i,j,rfl,rfl,h⟩;exact⟨⟨J,J⟩,h⟩
def abr{a b}:AH xs a b=aF↔∃i j:Nat,b=i/\a=j/\i<j/\Ck xs i j:=by
 unfold AH;rw[H,eI,DC];constructor
 .rintro⟨n,i,j,rfl,rfl,h⟩;have:=h;obtain⟨_,_,y,_⟩:=this;exact⟨i,j,I,I,J,h⟩
 rintro⟨i,j,rfl,rfl,a,h⟩;exact⟨J,i,j,I,I,h⟩
def wR a b:∀n,(zn xs a b n= -1/\∀m,m<n->(pJ xs m a&&pJ xs m b)=aM)∨∃m:Nat,zn xs a b n=m/\m<n/\(pJ xs m a&&pJ xs m b)=aF/\∀j,m<j->j<n->(pJ xs j a&&pJ xs j b)=aM
 | 0=>.inl ⟨I,λm h=>J⟩
 | n+1=>by
  rw[zn];split
  .rename_i h;exact .inr ⟨n,I,J,h,λj a b=>J⟩
  rename_i h;rw[oU]at h;rcases wR a b n with⟨c,d⟩ | ⟨m,c,d,f,g⟩
  .exact .inl ⟨c,λm a=>if e:m=n then by rw[e];exact h else d m J⟩
  exact .inr ⟨m,c,J,f,λj a b=>if e:j=n then by rw[e];exact h else g j a J⟩
def Fo.abn(F:Fo xs){a b r}(f:Mt xs [a,b] r)(p:Ah xs a)(u:Ah xs b):r=Dz xs a b:=by
 have v:∀n,n∈[a,b]->Ah xs n:=λn d=>by
  simp at d;rcases d with rfl | rfl
  .exact p
  exact u
 obtain⟨m,rfl,t,w⟩:=f.anj R v;have o:∀j:Nat,(pJ xs j a&&pJ xs j b)=aF↔∀n,n∈[a,b]->∃k:Nat,n=k/\Ck xs j k:=λj=>by
  rw[H,DC,DC];constructor
  .rintro⟨⟨q,k,e,rfl,c⟩,⟨r,s,x,rfl,h⟩⟩ n d;simp at d;have b:j=q:=J
   have a:j=r:=J
   subst b a;rcases d with rfl | rfl
   .exact⟨k,I,c⟩
   exact⟨s,I,h⟩
  intro f;obtain⟨k,e,c⟩:=f a R;obtain⟨q,n,h⟩:=f b R;exact⟨⟨j,k,I,e,c⟩,⟨j,q,I,n,h⟩⟩
 have g:=(o m).2 t;have E:m<Z8 xs:=by
  obtain⟨k,_,s,b,_⟩:=t a R;exact vZ b
 unfold Dz;rcases wR (xs:=xs) a b (Z8 xs) with⟨_,h⟩ | ⟨q,c,h,i,l⟩
 .rw[h m E]at g;cases g
 have:=w q ((o q).1 i);by_cases e:q=m
 .rw[c,e]
 rw[l m J E]at g;cases g
end
def ne(l:S):L:=!VM (l=[])
def iT(w:X (S)):S:=Lib.join (w.filter ne) [32]
def Only.below{w w'}(h:Below w.heap.size w w'):az [] w w':=⟨h.os,h.tape,h.output,h.size,λk a _=>h.block k a⟩
def MX{w}{F}:∀{l:X _} {s:X _},ql ju 1 w F l s->s.flatten=l.map λx=>ae (T x)
 | [],[],_=>rfl
 | c::l,d::s,h=>by
  have⟨⟨_,a⟩,b⟩:=h;subst a;rw[fk,MX b];rfl
def Fy l w:aA ar 316 #[ae (T l)] w λe a=>e=ao (ak (VM (l=[])))/\a=w:=by
 exact ret (alC w ⟨by rw[show aq #[]=T []from rfl,iC],I⟩)
section
variable {w:aw} {B:Nat} {F:aK} {s:Sl} {ws:X (S)}
def acN(b:Own ju 1 9 B w F s ws):aA ar 345 #[s.v,.func (.func 316) #[] #[]] w λe a=>
  ∃i,e=ao (O U i)/\a=w/\((i= -1/\ws.filter ne=ws)∨∃n:Nat,i=n/\n<Z8 ws/\(ws.take (n+1)).filter ne=ws.take n):=by
 refine(alN s ⟨.func _ #[] #[],I⟩ (λv a=>∃i,v=O U i/\a=w/\((i= -1/\ws.filter ne=ws)∨∃n:Nat,i=n/\n<Z8 ws/\(ws.take (n+1)).filter ne=ws.take n)) w ?_).mono (by
  rintro e a ⟨v,rfl,i,rfl,b⟩;exact⟨i,I,b⟩)
 have h:=b.slice cx;have S:=h.len;have t:=h.big;have r:=h.cap;refine⟨λd i a=>∃n,n<=Z8 ws/\i=n/\d=(Z8 ws)-n/\(ws.take n).filter ne=ws.take n/\a=w,Z8 ws,⟨0,J,I,I,I,I⟩,?_⟩;rintro d _ f ⟨n,j,rfl,rfl,g,rfl⟩;refine⟨λc=>?_,λc=>?_⟩
 .have T:(n:Int)<s.n:=aO c;have⟨ad,x,q,m,k,u,v,o,p⟩:=h.get J T;rw[aW]at k;subst p;have l:ws.take (n+1)=ws.take n++[x]:=by
   rw[bq,k];rfl
  refine⟨ad,m,_,o,316,[],[],I,jB D,?_⟩;refine(Fy x f).mono ?_;rintro _ w ⟨rfl,rfl⟩;refine⟨_,I,λe=>⟨_,I,I,.inr ⟨n,I,J,?_⟩⟩,λe=>⟨(Z8 ws)-_,J,n+1,J,TE,I,?_,I⟩⟩
  .have e:=aO e;rw[l,mr,g,e];simp[ne]
  rw[l,mr,g];simp[ne,e]
 have p:=aR c;rw[br J]at g;exact⟨_,I,I,.inl ⟨I,g⟩⟩
def aet(h:Own ju 1 9 B w F s ws):aA ar 315 #[s.v,.func (.func 316) #[] #[]] w λe c=>
  ∃f,e=ao f.v/\Own ju 1 9 B c F f (ws.filter ne)/\aE (λk=>B<=k) w c:=by
 refine(alB s ⟨.func (.func 316) #[] #[],I⟩ (λv c=>∃f,v=f.v/\Own ju 1 9 B c F f (ws.filter ne)/\aE (λk=>B<=k) w c) w ?_).mono (by
  rintro e c ⟨v,rfl,f,rfl,h⟩;exact⟨f,I,h⟩)
 rw[ac9];have l:=h.len;have r:=h.cap;have C:=(h.slice cx).big;refine(acN h).mono ?_;rintro _ j ⟨g,rfl,rfl,i⟩;refine⟨g,I,λd=>?_,λd=>?_⟩
 .rcases i with⟨_,a⟩ | ⟨n,rfl,b,a⟩
  .rw[a];exact⟨s,I,h,Jk _ _⟩
  have:(n:Int)= -1:=eq_of_beq d;omega
 rcases i with⟨rfl,_⟩ | ⟨n,rfl,m,e⟩
 .exact absurd d Z
 refine⟨λA a b c=>∃(L:X (S)) (p q:Nat),a=p/\b=q/\p<q/\q<=Z8 ws/\A=(Z8 ws)-q/\Z8 L=Z8 ws/\L.take p=(ws.take q).filter ne/\L.drop q=ws.drop q/\Own ju 1 9 B c F s L/\aE (λk=>B<=k) j c,
  (Z8 ws)-_,⟨ws,n,n+1,I,TE,J,J,I,I,e.symm,I,h,Jk _ _⟩,?_⟩
 rintro A _ _ H ⟨L,p,q,rfl,rfl,E,K,rfl,z,u,hd,o,y⟩;refine⟨λd=>?_,λd=>?_⟩
 .have T:(q:Int)<s.n:=aO d;have v:q<Z8 ws:=J
  obtain⟨ad,x,cs,Q,R,g3,g4,V,N⟩:=(o.slice cx).get (bc q) T;rw[ju]at N;subst N;have Y:ws[q]? =Hg x:=by
   rw[<-R];have k:=bK (λn=>n[0]?) hd;simpa using k.symm
  have P:ws.take (q+1)=ws.take q++[x]:=by
   rw[bq,Y];rfl
  have b:∀M:X (S),(∀a,q+1<=a->M[a]? =L[a]?)->M.drop (q+1)=ws.drop _:=λM W=>by
   apply im;intro a;rw[gq,gq,W _ J];have k:=bK (λn=>n[1+a]?) hd;simp at k;rw[show q+1+a=q+(1+a) by omega];exact k
  refine⟨λa w=>∃(M:X (S)) (t:Nat),a=t/\t<q+1/\Z8 M=Z8 ws/\M.take t=(ws.take (q+1)).filter ne/\M.drop (q+1)=ws.drop (q+1)/\Own ju 1 9 B w F s M/\aE (λk=>B<=k) j w,?_,ad,Q,_,V,316,[],[],I,jB D,?_⟩
  .rintro _ w ⟨M,t,rfl,k,n,p,s,x,B⟩;exact⟨(Z8 ws)-_,J,M,t,q+1,I,TE,k,v,I,n,p,s,x,B⟩
  refine(Fy x H).mono ?_;rintro _ w ⟨rfl,rfl⟩;refine⟨_,I,λhb=>?_,λhb=>?_⟩
  .have⟨am,cells,q,b2,b3,b4,b5⟩:=o.store cx (n:=p) J (x:=x) (vs:=[ae _]) (G:=λ_=>False) I I (λk s=>s.elim) Z;refine⟨⟨am,p*1,ZQ⟩,b2,am,p*1,cells,_,I,b3,b4,λw3 db qk=>⟨L.set p x,p+1,TE,J,by rw[List.length_set];exact z,?_,b _ λa hj=>by rw[List.getElem?_set_ne J],b5 w3 db qk,y.trans (db.p (F:=λk=>B<=k) λk s=>.inl ?_) λk s=>.inl s⟩⟩
   .rw[P,mr,<-u,bq,List.getElem?_set_self J,List.take_set_of_le J];simp[ne,hb]
   simp at s;rcases o with⟨rfl,_⟩ | ⟨p,_,_,k,n,_⟩
   .cases q
   rw[k]at q;injection q with q;injection q with q;omega
  have hb:=Ma
  refine⟨L,p,I,J,z,?_,b _ λa _=>I,o,y⟩;rw[P,mr,<-u,hb];simp[ne]
 have T:¬(q:Int)<s.n:=aR d;have n:q=Z8 ws:=J
 subst n;rw[br (aX _)]at u;obtain⟨Q,R,G,a,M,N⟩:=Own.clear (P:=ar) (t:=37) (ty:=0) (i:=p) cx Z D (λw=>Tryz.zeroValue9 w) (by intro v x;simp[Value.cells]at x;subst x;rfl) I o J;refine⟨p,⟨I,J,r⟩,Q,G,p,⟨I,J⟩,_,I,?_,y.trans (M.p (F:=λk=>B<=k) λk b=>.inl ?_) λk b=>.inl b⟩
 .rw[<-u];exact N
 simp at b;subst b;rcases o with⟨rfl,_⟩ | ⟨q,_,_,k,p,_⟩
 .cases a
 rw[k]at a;injection a with a;injection a with a;omega
def DD(h:Own ju 1 9 B w F s ws)(o:Z8 (iT ws)<=140737488355328)(A:Z8 ws<=140737488355328):aA ar 277 #[s.v] w λe p=>e=ao (ae (T (iT ws)))/\aE (λk=>B<=k) w p:=by
 refine ret (ale ?_);refine(aet h).mono ?_;rintro _ c ⟨f,rfl,O,P⟩;refine⟨f,I,?_⟩;have S:=O.len;have C:=List.length_filter_le ne ws;have b:∀{a:aw},az [] c a->aE _ w a:=λh=>P.trans h.p0 λk n=>.inl n;rcases O with⟨rfl,m⟩ | ⟨l,j,tail,g,q,d,r,t,u,z,i⟩
 .refine(Tryz.strings_Join_none ZQ 0 _ c).mono ?_;rintro _ a ⟨rfl,rfl⟩;refine⟨_,I,?_,P⟩;rw[iT];rw[m];rfl
 obtain⟨s,sn,sc⟩:=f;subst g S;have:=Tryz.strings_Join l 0 sc _ (T [32]) c (λk x e=>by
  rw[dr,ir]at e;obtain⟨y,w,rfl⟩:=e;have:=d.cells 0 _ (λk v e=>by rw[bO,MX i,ca (bd.1 e).1];exact e) k _ (by rw[dr,w];rfl);rw[gW]at this;exact this) d.lt Nw Nw (by
  rw[mw];have:((λx:M=>x.data.toList)∘T)=id:=I;rw[this,SY];exact o)
 rw[bQ]at this;refine this.mono ?_;rintro _ a ⟨rfl,B⟩;refine⟨_,I,?_,b (Only.below B)⟩;rw[mw];have:((λx:M=>x.data.toList)∘T)=id:=I;rw[this,SY];rfl
end
def FA w ws {n} {parts} (p:parts=(((ws.map λx=>Value.string (T x)).zipIdx 0).map λx=>(x.2,x.1)).toArray) (c:Z8 ws=n) (h:0<n) (v:n*1<=16777216) (l:Z8 (iT ws)<=140737488355328):
  ∃(q:Sl) (a:aw),(av 37 n parts).run ar w=.ok q.v a/\az [] w a/\Own ju 1 9 w.heap.size a (λ_=>True) q ws/\aA ar 277 #[q.v] a λe f=>e=ao (ae (T (iT ws)))/\aE (λk=>w.heap.size<=k) a f:=by
 have⟨q,a,d,b,k3⟩:=jb w ws p c h v;exact⟨q,a,d,k3,b,DD b l J⟩
def jW:∀w,Z8 (iT w)<=(w.map λl=>Z8 l+1).sum:=by
 have h:∀r,Z8 (Lib.joinTail [32] r)=(r.map λl=>Z8 l+1).sum:=λr=>by
  induction r with
  | nil=>rfl
  | cons x r i=>
   unfold Lib.joinTail at i⊢;rw[cu,fk,aP,i,cu,eU];simp
 have a:∀r,Z8 (Lib.join r [32])<=(r.map λl=>Z8 l+1).sum:=λr=>by
  cases r with
  | nil=>exact bh _
  | cons x r=>
   rw[Lib.join_cons,aP,h,cu,eU];omega
 have b:∀(r:X _),((r.filter ne).map λl=>Z8 l+1).sum<=(r.map λl=>Z8 l+1).sum:=λr=>by
  induction r with
  | nil=>exact aX _
  | cons x r i=>
   rw[tL,cu,eU];split
   .rw[cu,eU];omega
   omega
 exact λw=>bp (a _) (b w)
structure Fz (bs:List Nat) (w w':aw) (ks:List Nat):Prop where
 o:az bs w w'
 k:∀x,x∈ks->w.heap.size<=x/\x<w'.heap.size
 lo:∀x,x∈bs->x<w.heap.size
section
variable {bs bs' ks ks':X Nat} {w w1 w2 w':aw} {k0 b:Nat}
def Fz.start(l:∀x,x∈bs->x<w.heap.size):Fz bs w w []:=⟨EC _ _,λ_ h=>Rl,l⟩
def Fz.go(h:Fz bs w w1 ks)(k:az bs' w1 w2)(b:∀x,x∈bs'->x∈bs∨x∈ks):Fz bs w w2 ks:=
 ⟨h.o.trans k λx a=>(b x a).imp id λc=>(h.k x c).1,λx a=>⟨(h.k x a).1,cD (h.k x a).2 k.size⟩,h.lo⟩
def Fz.new(h:Fz bs w w1 ks)(k:az bs' w1 w2)(b:∀x,x∈bs'->x∈bs∨w.heap.size<=x):Fz bs w w2 ks:=
 ⟨h.o.trans k b,λx a=>⟨(h.k x a).1,cD (h.k x a).2 k.size⟩,h.lo⟩
def Fz.q(h:Fz bs w w1 ks)(k:az [] w1 w2):Fz bs w w2 ks:=h.go k λx hx=>Rg
def Fz.c(h:Fz (b::bs) w w1 ks)(k:az [b] w1 w2):Fz (b::bs) w w2 ks:=h.go k λx hx=>.inl Vx
def Fz.f(a:Fz bs w w1 ks)(k:az [k0] w1 w2)(b:k0∈ks):Fz bs w w2 ks:=a.go k λx h=>.inr (by simp at h;rw[h];exact b)
def Fz.al(h:Fz bs w w1 ks)(k:az [] w1 w2)(b:w1.heap.size<=k0)(c:k0<w2.heap.size):Fz bs w w2 (k0::ks):=
 ⟨(h.q k).o,λx a=>by
  rcases aZ.1 a with rfl | a
  .exact⟨bp h.o.size b,c⟩
  exact(h.q k).k x a,h.lo⟩
def Fz.sm(h:Fz bs w w1 ks)(k:az bs' w1 w2)(b:∀x,x∈ks'->x∈ks)(c:∀x,x∈bs'->x∈bs∨∀y,y∈ks'->y≠x):cF ks' w1 w2:=k.same λx a=>
 ⟨(h.k x (b x a)).2,λm=>by
  rcases c x m with d | d
  .have:=(h.k x (b x a)).1;have:=h.lo x d;omega
  exact d x a I⟩
def Fz.sq(h:Fz bs w w1 ks)(k:az [] w1 w2)(a:∀x,x∈ks'->x∈ks):cF ks' w1 w2:=h.sm k a λx hx=>Rg
def Fz.sc(h:Fz (b::bs) w w1 ks)(k:az [b] w1 w2)(a:∀x,x∈ks'->x∈ks):cF ks' w1 w2:=h.sm k a λx hx=>.inl Vx
def Fz.ne(h:Fz bs w w1 ks)(k:k0∈ks)(a:b∈bs):k0≠b:=λe=>by
 have:=(h.k k0 k).1;have:=h.lo b a;omega
end
section
variable {α:Type} {r:Rp α} {w w1 w':aw} {x:α} {cs:aJ} {B:Nat}
structure Stay (B:Nat) (w w':aw):Prop where
 sz:w.heap.size<=w'.heap.size
 eq:∀k,B<=k->k<w.heap.size->w'.heap[k]? =w.heap[k]?
def Stay.refl B w:Stay B w w:=⟨aX _,λ_ _ _=>I⟩
def EK:=@Stay.refl
def Stay.go{bs}(h:Stay B w w1)(k:az bs w1 w')(c:∀x,x∈bs->x<B∨w.heap.size<=x):Stay B w w':=
 ⟨bp h.sz k.size,λi b a=>(k.block i (cD a h.sz) λm=>by have:=c i m;omega).trans (h.eq i b a)⟩
def Stay.of{bs}(k:az bs w w')(h:∀x,x∈bs->x<B∨w.heap.size<=x):Stay B w w':=(EK B w).go k h
def Uh:=@Stay.of
def _root_.Go.Kt.Rp.Ok.stay(a:r.Ok)(c:r w (Fr B) x cs)(s:Stay B w w'):r w' (Fr B) x cs:=
 a.mono (a.keep (a.inHeap c) λk h b=>s.eq k h.1 b) λk h=>h.1
def _root_.Go.Kt.Rp.Ok.low(c:r.Ok)(h:r w (Fr B) x cs){A}(a:A<=B):r w (Fr A) x cs:=c.mono h λk b=>bp a b
variable {size:Nat} {e:TypeId} {s:Sl} {xs:X α} {t:L}
def jh.stay(a:r.Ok)(c:jh t r size e w (Fr B) s xs)(b:0<size)(d:Stay B w w'):jh t r size e w' (Fr B) s xs:=
 ((c.inHeap a b).keep a b λk h T=>d.eq k h.1 T).mono a λk h=>h.1
def jh.low(c:r.Ok)(h:jh t r size e w (Fr B) s xs){A}(a:A<=B):jh t r size e w (Fr A) s xs:=h.mono c λk b=>bp a b
end
abbrev Sa(l:Sl)(s:Sx):aJ:=[l.v,O U s.i,O U s.fc,O U s.fa,O U s.v,O U s.n,O U s.d,O U s.m,O U s.a]
structure Sr (F:aK) (ts:List Tk) (w:aw) (b:Nat) (l:Sl) (s:Sx):Prop where
 blk:aG w b 138 (Sa l s)
 tok:aB MN 4 w F l ts
 hF:∀k,F k->k<b
 en:pG ts
 lt:s.i<Z8 ts
 sm:Z8 ts<=16777216
abbrev rp(b:Nat):ay:=ah (Hg ⟨b,0,ZQ⟩)
section
variable {F:aK} {ts:X Tk} {w w':aw} {b:Nat} {l:Sl} {s s':Sx}
def Sr.own(h:Sr F ts w b l s){bs}(O:az bs w w')(hb:∀x,x∈bs->b<x):Sr F ts w' b l s:=
 ⟨O.blk h.blk λhm=>TL,Aw gz Z h.tok O λk hk _ hm=>P9,h.hF,h.en,h.lt,h.sm⟩
def Sr.W2(h:Sr F ts w b l s){bs}(O:az bs w w')(a:∀x,x∈bs->x≠b/\¬F x):Sr F ts w' b l s:=
 ⟨O.blk h.blk λm=>(a b m).1 I,Aw gz Z h.tok O λk c _ m=>(a k m).2 c,h.hF,h.en,h.lt,h.sm⟩
def Sr.agG(a:Sr F ts w b l s){k0}(O:az [k0] w w')(k:k0≠b/\¬F k0):Sr F ts w' b l s:=a.W2 O λx h=>(by simp at h;subst h;exact k)
def Sr.gt(h:Sr F ts w b l s){x}(c:b<x):x≠b/\¬F x:=⟨J,λa=>by have:=h.hF x a;omega⟩
def Sr.only(h:Sr F ts w b l s)(O:az [] w w'):Sr F ts w' b l s:=h.own O λx hx=>Rg
def Sr.one(h:Sr F ts w b l s){k0}(O:az [k0] w w')(k:b<k0):Sr F ts w' b l s:=h.own O λx hx=>Vv
def Sr.gN(h:Sr F ts w b l s)(O:az [b] w w')(B:aG w' b 138 (Sa l s'))(i:s'.i<Z8 ts):Sr F ts w' b l s':=
 ⟨B,Aw gz Z h.tok O λk hk _ hm=>Wy,h.hF,h.en,i,h.sm⟩
def Sr.lb(h:Sr F ts w b l s):b<w.heap.size:=h.blk.lt
def Sr.z(a:Sr F ts w b l s):Fz [b] w w []:=Fz.start λx h=>(by simp at h;rw[h];exact a.lb)
def Sr.big(h:Sr F ts w b l s):Z8 ts<=9223372036854775807:=by
 have a:=h.tok.len;have c:=h.tok.cap;have d:=h.tok.big;omega
def Sr.wr(h:Sr F ts w b l s):au U (s.i+1)=((s.i+1:Nat)):=by
 have:=h.big;have:=h.lt;rw[eS J J];rfl
def Sr.now(h:Sr F ts w b l s):∃ad,cM l s.i 4 ad/\aD w ad [O U (tk ts s.i).k,ae (T (tk ts s.i).t),O U (tk ts s.i).n,O U (tk ts s.i).a]:=by
 have k:=h.tok.len;have e:=h.lt;obtain⟨ad,x,f,a,g,i,j,c,d⟩:=h.tok.get (bc s.i) J;rw[aW,za h.lt]at g;injection g with g;subst g;subst d;exact⟨ad,a,c⟩
structure Dn (F:aK) (ts:List Tk) (w w':aw) (b:Nat) (l:Sl) (s:Sx):Prop where
 o:az [b] w w'
 r:Sr F ts w' b l s
def Sr.dn(h:Sr F ts w b l s):Dn F ts w w b l s:=⟨EC _ _,h⟩
def Dn.q(h:Dn F ts w w' b l s){w2}(k:az [] w' w2):Dn F ts w w2 b l s:=⟨h.o.cn k,h.r.only k⟩
def Dn.nx(h:Dn F ts w w' b l s){w2}{s'}(k:Dn F ts w' w2 b l s'):Dn F ts w w2 b l s':=⟨h.o.trans k.o λx a=>.inl a,k.r⟩
def Dn.f(h:Dn F ts w w' b l s){w2}{k0}(k:az [k0] w' w2)(a:w.heap.size<=k0)(c:b<w.heap.size):Dn F ts w w2 b l s:=⟨h.o.new k a,h.r.one k J⟩
def Sr.tk(h:Sr F ts w b l s){ad}(g:cM l s.i 4 ad):aD w ad [O U (tk ts s.i).k,ae (T (tk ts s.i).t),O U (tk ts s.i).n,O U (tk ts s.i).a]:=by
 obtain⟨H,a,c⟩:=h.now;rw[g.ET a];exact c
structure Zt (F:aK) (ts:List Tk) (w w':aw) (b:Nat) (l:Sl) (s:Sx) (ks:List Nat):Prop where
 z:Fz [b] w w' ks
 r:Sr F ts w' b l s
section
variable {w2:aw} {ks ks':X Nat} {k0:Nat}
def Sr.zt(h:Sr F ts w b l s):Zt F ts w w b l s []:=⟨h.z,h⟩
def Zt.q(h:Zt F ts w w' b l s ks)(k:az [] w' w2):Zt F ts w w2 b l s ks:=⟨h.z.q k,h.r.only k⟩
def Zt.al(h:Zt F ts w w' b l s ks)(k:az [] w' w2)(a:w'.heap.size<=k0)(c:k0<w2.heap.size):Zt F ts w w2 b l s (k0::ks):=⟨h.z.al k a c,h.r.only k⟩
def Zt.ad(h:Zt F ts w w' b l s ks)(c:w.heap.size<=k0)(d:k0<w'.heap.size):Zt F ts w w' b l s (k0::ks):=⟨⟨h.z.o,λx a=>by
 rcases aZ.1 a with rfl | a
 .exact⟨c,d⟩
 exact h.z.k x a,h.z.lo⟩,h.r⟩
def Zt.lt(h:Zt F ts w w' b l s ks)(k:k0∈ks):b<k0:=cD (h.z.lo b R) (h.z.k k0 k).1
def Zt.f(h:Zt F ts w w' b l s ks)(k:az [k0] w' w2)(a:k0∈ks):Zt F ts w w2 b l s ks:=⟨h.z.f k a,h.r.one k (h.lt a)⟩
def Zt.nx(h:Zt F ts w w' b l s ks)(k:Dn F ts w' w2 b l s'):Zt F ts w w2 b l s' ks:=⟨h.z.c k.o,k.r⟩
def Zt.dn(h:Zt F ts w w' b l s ks):Dn F ts w w' b l s:=⟨h.z.o,h.r⟩
def Zt.up(h:Zt F ts w w' b l s ks)(k:az [b] w' w2)(B:aG w2 b 138 (Sa l s'))(i:s'.i<Z8 ts):Zt F ts w w2 b l s' ks:=⟨h.z.c k,h.r.gN k B i⟩
def Zt.sq(h:Zt F ts w w' b l s ks)(k:az [] w' w2)(a:∀x,x∈ks'->x∈ks):cF ks' w' w2:=h.z.sq k a
def Zt.sc(h:Zt F ts w w' b l s ks)(k:Dn F ts w' w2 b l s')(a:∀x,x∈ks'->x∈ks):cF ks' w' w2:=h.z.sc k.o a
def Zt.row{gs}(h:Zt F ts w w' b l s ks)(k:az gs w' w2)(g:∀x,x∈gs->w.heap.size<=x):Zt F ts w w2 b l s ks:=⟨h.z.new k λx a=>.inr (g x a),h.r.own k λx a=>cD (h.z.lo b R) (g x a)⟩
def Zt.sr{gs}(h:Zt F ts w w' b l s ks)(k:az gs w' w2)(a:∀x,x∈ks'->x∈ks)(g:∀x,x∈gs->∀y,y∈ks'->y<x):cF ks' w' w2:=h.z.sm k a λx c=>.inr λy d e=>by have:=g x c y d;omega
def Zt.ne(h:Zt F ts w w' b l s ks)(k:k0∈ks):k0≠b:=h.z.ne k R
def Stay.q{B}(h:Stay B w w')(k:az [] w' w2):Stay B w w2:=h.go k λx hx=>Rg
def Stay.d{B}(h:Stay B w w')(k:Dn F ts w' w2 b l s')(a:b<B):Stay B w w2:=h.go k.o λx hx=>.inl Vv
def Stay.f{B}(a:Stay B w w')(k:az [k0] w' w2)(b:k0<B∨w.heap.size<=k0):Stay B w w2:=a.go k λx h=>(by simp at h;subst h;exact b)
end
def pd(h:Sr F ts w b l s):aA ar 78 #[rp b] w λe w'=>e=ao (ak (s.fc==0))/\az [] w w':=by
 exact ret (akv w ⟨s.fc,Mn h.blk 2 I,I,EC _ _⟩)
def Cm(h:Sr F ts w b l s) c:aA ar 136 #[rp b,O U c] w λe w'=>e=ao (aj #[])/\Dn F ts w w' b l (fe ts s c):=by
 refine ret (akI ?_);refine(pd h).mono ?_;rintro _ d ⟨rfl,a⟩;refine⟨_,I,λhc f p=>?_,λhc=>?_⟩
 .have hc:=R0
  have e:=h.only (a.cn p);obtain⟨ad,g,i⟩:=e.now;refine⟨l,Mn e.blk 0 I,_,Mn e.blk 1 I,ad,g,_,i.dx 3 _ I,b,2,_,_,I,e.blk,R,λw O Y=>⟨I,((a.cn p).weaken (bs':=[b]) λ_ h=>Rl).trans O λx j=>.inl j,?_⟩⟩;unfold fe;rw[K hc];exact e.gN (s':={s with fc:=c,fa:=(tk ts s.i).a}) O Y h.lt
 unfold fe;rw[W R0];exact⟨I,h.dn.q a⟩
def we(h:Sr F ts w b l s):aA ar 79 #[rp b] w λe w'=>e=ao (aj #[])/\Dn F ts w w' b l (fH ts s):=by
 refine ret (akw ?_);obtain⟨ad,g,d⟩:=h.now;refine⟨λw'=>Dn F ts w w' b l (if(tk ts s.i).k=5 then fe ts s 3 else s),λi a=>(Cm a.r 4).mono ?_,l,Mn h.blk 0 I,_,Mn h.blk 1 I,ad,g,_,d.dx 0 _ I,λhc f c=>?_,λhc f c=>?_⟩
 .rintro _ w ⟨rfl,b⟩;refine⟨I,I,a.nx ?_⟩;unfold fH;split at b
  .rename_i e;rw[K e];exact b
  rename_i e;rw[W e];exact b
 .refine(Cm (h.only c) 3).mono ?_;rintro _ w ⟨rfl,b⟩;have hc:=R0
  refine⟨I,?_⟩;rw[K hc];exact(h.dn.q c).nx b
 rw[W R0];exact h.dn.q c
def amr{s}{w}{G}{l}(h:aB ju 1 w G s l) c:
  aA ar 188 #[Sl.v s,ae (T c)] w λr w'=>r=ao (O U (if uR c l<Z8 l then uR c l else -1))/\w'=w:=by
 refine ret (ac4 ?_);have f:=h.len;have t:=h.big;have d:=h.cap;refine⟨λv i w'=>∃n,n<=Z8 l/\i=n/\v=(Z8 l)-n/\uR c l=n+uR c (l.drop n)/\w'=w,Z8 l,⟨0,bh _,I,I,by rw[fA,bO],I⟩,?_⟩;rintro v _ _ ⟨n,b,rfl,rfl,p,rfl⟩;refine⟨λa=>?_,λa=>?_⟩
 .have T:=aO a;obtain⟨ad,x,s,c,g,m,o,j,k⟩:=h.get (bc n) T;rw[aW]at g;subst k;have hd:l.drop n=x::l.drop (n+1):=by rw[gA (bd.1 g).1,(bd.1 g).2]
  rw[hd,uR]at p;refine⟨ad,c,_,j,?_⟩;dsimp only;rw[iC];refine⟨λe=>⟨?_,I⟩,λe=>⟨(Z8 l)-_,J,n+1,J,TE,I,?_,I⟩⟩
  .have e:=aO e;rw[K e]at p;rw[K J,p,gP]
  rw[W (aR e)]at p;omega
 have c:=aR a;rw[W J];exact⟨I,I⟩
def DE(m:Sr F ts w b l s){G}{q}{ss}(a:aB ju 1 w G q ss):aA ar 138 #[rp b,q.v] w λe w'=>e=ao (O U (bR ts s ss))/\az [] w w':=by
 refine ret (akK ?_);intro t f;have h:=m.only f;obtain⟨ad,i,j⟩:=h.now;refine⟨λ_=>True,trivial,l,Mn h.blk 0 I,trivial,_,Mn h.blk 1 I,ad,i,trivial,_,_,_,_,j,λo u n r p=>?_⟩;refine(pd (h.only p)).mono ?_;rintro _ v ⟨rfl,d⟩;have k:=(f.cn p).cn d;have g:((!(s.fc==0))||(((tk ts s.i).k !=2)&&((tk ts s.i).k !=4)))=VM (s.fc≠0∨((tk ts s.i).k≠2/\(tk ts s.i).k≠4)):=by
  rw[bL];simp
 refine⟨_,I,d.same C,?_⟩;dsimp only;rw[g];refine⟨λc=>?_,λc=>?_⟩
 .unfold bR;rw[K (aO c)];exact⟨I,k⟩
 refine(amr (Aw cx Z a k R) (tk ts s.i).t).mono ?_;rintro _ w ⟨rfl,rfl⟩;refine⟨_,I,WV _ _,?_,k⟩;unfold bR;rw[W (aR c)];have l:=a.len;have e:=a.big;have b:=a.cap;split
 .rw[eS J J];rfl
 rfl
def O8(h:Sr F ts w b l s) ss {n} {parts} (p:parts=(((ss.map λx=>Value.string (T x)).zipIdx 0).map λx=>(x.2,x.1)).toArray) (d:Z8 ss=n) (c:0<n) (v:n*1<=16777216):
  ∃(q:Sl) (a:aw),(av 37 n parts).run ar w=.ok q.v a/\az [] w a/\aA ar 138 #[rp b,q.v] a λe w'=>e=ao (O U (bR ts s ss))/\az [] a w':=by
 obtain⟨q,a,k,f,k3⟩:=jb w ss p d c v;exact⟨q,a,k,k3,DE (h.only k3) (pT f)⟩
def aao(h:Sr F ts w b l s){G}{q}{ss}(f:aB ju 1 w G q ss):aA ar 75 #[rp b,q.v] w λe w'=>e=ao (O U (bR ts s ss))/\Dn F ts w w' b l (if bR ts s ss=0 then s else bP s):=by
 refine ret (aks ?_);refine(DE h f).mono ?_;rintro _ g ⟨rfl,c⟩;have a:=h.only c;refine⟨_,I,λw'=>Dn F ts w w' b l _,λi d=>⟨I,d⟩,λhc=>?_,λhc=>?_⟩
 .have hc:bR ts s ss≠0:=Ro
  refine⟨_,Mn a.blk 1 I,b,1,_,_,I,a.blk,R,λw O j=>?_⟩;rw[W hc];rw[h.wr]at j;exact⟨(c.weaken (bs':=[b]) λ_ h=>Rl).trans O λx e=>.inl e,a.gN (s':=bP s) O j (h.en.next h.lt (cP hc).2)⟩
 have hc:bR ts s ss=0:=M1
 rw[K hc];exact h.dn.q c
def FB(h:Sr F ts w b l s) ss {n} {parts} (p:parts=(((ss.map λx=>Value.string (T x)).zipIdx 0).map λx=>(x.2,x.1)).toArray) (d:Z8 ss=n) (c:0<n) (v:n*1<=16777216):
  ∃(q:Sl) (a:aw),(av 37 n parts).run ar w=.ok q.v a/\az [] w a/\aA ar 75 #[rp b,q.v] a λe w'=>e=ao (O U (bR ts s ss))/\Dn F ts a w' b l (if bR ts s ss=0 then s else bP s):=by
 obtain⟨q,a,k,f,k3⟩:=jb w ss p d c v;exact⟨q,a,k,k3,aao (h.only k3) (pT f)⟩
def aix(h:Sr F ts w b l s){G}{q}{x}(a:aB ju 1 w G q [x])(d:∀k,G k->k≠b):aA ar 73 #[rp b,q.v] w λe w'=>e=ao (aj #[])/\Dn F ts w w' b l (cA ts s x):=by
 refine ret (akq ?_);have f:q.n=1:=a.len;refine⟨λv i w'=>(i=0/\v=1/\w'=w)∨(i=1/\v=0/\Dn F ts w w' b l (cA ts s x)),1,.inl ⟨I,I,I⟩,?_⟩;rintro v i c (⟨rfl,rfl,rfl⟩ | ⟨rfl,rfl,D⟩)
 .refine⟨λ_=>?_,λhc=>absurd (aR hc) J⟩;refine⟨λw'=>Dn F ts c w' b l _,λC p=>⟨0,Z,.inr ⟨I,I,p⟩⟩,?_⟩;obtain⟨ad,y,z,k,j,A,B,m,o⟩:=a.get (i:=0) Z J;simp at j;subst j;subst o;obtain⟨u,w,r,t,k3⟩:=FB h [x] (n:=1) (parts:=#[_]) I I Z Z;refine⟨ad,k,_,m,u,w,r,k3.mono ?_⟩;rintro _ E ⟨rfl,q⟩;have g:=(h.dn.q t).nx q;refine⟨_,I,λhc=>?_,λhc=>?_⟩
  .have hc:bR ts s [x]=0:=by have:=R0;omega
   rw[K hc]at g;refine(we g.r).mono ?_;rintro _ e ⟨rfl,b⟩;refine⟨I,?_⟩;unfold cA;rw[K hc];exact g.nx b
  have hc:bR ts s [x]≠0:=λe=>by rw[e]at hc;simp at hc
  rw[W hc]at g;unfold cA;rw[W hc];exact g
 exact⟨λhc=>absurd (aO hc) J,λ_=>⟨I,D⟩⟩
def sV(h:Sr F ts w b l s) x:∃(q:Sl) (a:aw),(av 37 1 #[.mk 0 (ae (T x))]).run ar w=.ok q.v a/\az [] w a/\aA ar 73 #[rp b,q.v] a λe w'=>e=ao (aj #[])/\Dn F ts a w' b l (cA ts s x):=by
 obtain⟨q,a,d,f,k3⟩:=jb w [x] (n:=1) (parts:=#[_]) I I Z Z;exact⟨q,a,d,k3,aix (h.only k3) (pT f) λk c e=>(by have:=c.1;have:=h.lb;omega)⟩
def zr(h:Sr F ts w b l s){k}(u:k≠5):aA ar 137 #[rp b,O U k] w λe w'=>e=ao (cY ts s k).1.v/\Dn F ts w w' b l (cY ts s k).2:=by
 refine ret (akJ ?_);intro v A i L g;have a:=h.only g;obtain⟨ad,o,q⟩:=a.now;refine⟨λ_=>True,trivial,l,Mn a.blk 0 I,trivial,_,Mn a.blk 1 I,ad,o,trivial,_,_,_,_,q,λy B t r p=>?_⟩;have m:=(h.z.al g i L).al p t r;refine(pd (a.only p)).mono ?_;rintro _ C ⟨rfl,f⟩;have z:=m.q f;have j:=h.lb;have d:=h.dn.q ((g.cn p).cn f);have n:((!(s.fc==0))||((tk ts s.i).k !=k))=VM (s.fc≠0∨(tk ts s.i).k≠k):=by
  rw[bL];simp
 refine⟨_,I,m.sq f R,?_⟩;dsimp only;rw[n];refine⟨λc=>(we d.r).mono ?_,λc=>?_⟩
 .rintro _ w ⟨rfl,b⟩;refine⟨I,z.sc b.o R,λe D=>?_⟩;unfold cY;rw[K (aO c)];exact⟨I,(d.nx b).f D i j⟩
 refine⟨_,Mn d.r.blk 1 I,b,1,_,_,I,d.r.blk,R,z.ne R R,z.ne R R,λE P e G N=>?_⟩;have c:=aR c;unfold cY;rw[W c];simp at c;rw[h.wr]at e;have k:Dn F ts w E b l (bP s):=⟨d.o.trans P λx D=>.inl D,d.r.gN P e (h.en.next h.lt (by rw[c.2];exact u))⟩
 exact⟨I,k.f N i j⟩
def zu(h:Sr F ts w b l s):aA ar 190 #[rp b] w λe w'=>e=ao (ae (T (dQ ts s).1))/\Dn F ts w w' b l (dQ ts s).2:=by
 refine ret (alb ?_);refine(zr h (k:=1) Z).mono ?_;rintro _ c ⟨rfl,a⟩;exact⟨_,_,_,_,I,I,a⟩
def _root_.Go.Kt.Blk.at0{w}{b}{t}{cs}{v}(h:aG w b t cs) j (x:cs[j]? =Hg v):aD w ⟨b,j,ZQ⟩ [v]:=by
 have:=Mn h j x;rwa[gW,bO]at this
def Hn(h:Sr F ts w b l s) j x c u (d:(Sa l s)[j]? =Hg (.int U x)) (y:(Sa l (fe ts s c))[j]? =Hg (.int U x)) (i:u.i=s.i)
  (f:Sa l u=eY (Sa l (if x=0 then fe ts s c else s)) j [O U (mZ x)]):aA ar 135 #[rp b,ah (Hg ⟨b,j,ZQ⟩),O U c] w λe w'=>e=ao (aj #[])/\Dn F ts w w' b l u:=by
 refine ret (akH ?_);refine⟨λw'=>Dn F ts w w' b l (if x=0 then fe ts s c else s),λg a=>?_,_,I,x,Blk.at0 h.blk j d,λhc=>?_,λhc=>?_⟩
 .refine⟨_,I,x,Blk.at0 a.r.blk j (by split<;>assumption),_,I,b,j,_,_,I,a.r.blk,(bd.1 d).1,λw c n=>⟨I,a.o.trans c λx d=>.inl d,a.r.gN c (s':=u) ?_ (by rw[i];exact h.lt)⟩⟩;rw[f];exact n
 .refine(Cm h c).mono ?_;rintro _ w ⟨rfl,b⟩;have hc:=R0
  rw[K hc];exact⟨I,b⟩
 rw[W R0];exact h.dn
def afH(h:Sr F ts w b l s):aA ar 135 #[rp b,ah (Hg ⟨b,8,ZQ⟩),O U 2] w λe w'=>e=ao (aj #[])/\Dn F ts w w' b l (pH ts s):=
 Hn h 8 s.a 2 _ I EB (AD s) (by unfold pH fe;split<;>(try split)<;>rfl)
def afI(h:Sr F ts w b l s):aA ar 135 #[rp b,ah (Hg ⟨b,7,ZQ⟩),O U 2] w λe w'=>e=ao (aj #[])/\Dn F ts w w' b l (oC ts s):=
 Hn h 7 s.m 2 _ I EB (AE s) (by unfold oC fe;split<;>(try split)<;>rfl)
def afJ(h:Sr F ts w b l s):aA ar 135 #[rp b,ah (Hg ⟨b,5,ZQ⟩),O U 2] w λe w'=>e=ao (aj #[])/\Dn F ts w w' b l (Az ts s):=
 Hn h 5 s.n 2 _ I EB (by unfold Az;split;exact vU 2;rfl) (by unfold Az fe;split<;>(try split)<;>rfl)
def afK(h:Sr F ts w b l s):aA ar 135 #[rp b,ah (Hg ⟨b,4,ZQ⟩),O U 2] w λe w'=>e=ao (aj #[])/\Dn F ts w w' b l (sP ts s):=
 Hn h 4 s.v 2 _ I EB (by unfold sP;split;exact vU 2;rfl) (by unfold sP fe;split<;>(try split)<;>rfl)
def aeM(h:Sr F ts w b l s):aA ar 253 #[rp b] w λe w'=>∃c,e=ao (ai c.toArray)/\rE aF w' (Fr w.heap.size) (iI ts s).1 c/\Dn F ts w w' b l (iI ts s).2:=by
 refine iE (alx ?_);intro a t f r g;have m:=h.lb;have z:=h.z.al g f r;refine(pd (h.only g)).mono ?_;rintro _ u ⟨rfl,p⟩;have q:=z.q p;have n:=h.dn.q (g.cn p);refine⟨_,I,z.sq p R,λhc v O=>?_,λhc o j=>?_⟩
 .have hc:s.fc≠0:=R0
  unfold iI;rw[K hc];exact⟨_,I,RM _ _ _,n.f O f m⟩
 have hc:¬s.fc≠0:=R0
 have z3:=q.q j;have H:=n.q j;refine⟨λk=>k=b,λw4 D=>⟨I,l,Mn (H.q D).r.blk 0 I,λw5 P=>⟨I,_,Mn ((H.q D).q P).r.blk 1 I,λY N=>?_⟩⟩⟩;have z6:=((z3.q D).q P).q N;have L:=((H.q D).q P).q N;have aS:=L.r.big;have T:=h.lt;refine(OK L.r.tok s.i ⟨J,J⟩).mono ?_;rintro _ w7 ⟨c,rfl,E,hj,C⟩;have d7:=L.q C;obtain⟨sl,Z,_⟩:=E.cells;have aT:o.heap.size<=Y.heap.size:=((D.cn P).cn N).size;refine⟨_,_,_,_,sl,_,_,_,_,by rw[Z],z6.sq C R,oa.KZ C,VI C,λw8 M A ki ik Q=>?_⟩;obtain⟨d,E⟩:=E.xg;have U:rE aF w7 (λk=>Y.heap.size<=k/\k<w7.heap.size) (cq ts s.i).1 c:=⟨d,E⟩
 have am:=bp z3.o.size ki;have aC:=J
 have B:=d7.q M;have bY:=z6.o.size;have bV:=z.k a R;have bv:=((p.cn j).cn ((D.cn P).cn N)).size;have y:∀{bs:X Nat} {G:aw},az bs w8 G->(∀x,x∈bs->x=A∨x=a∨x=b)->rE aF G (Fr w.heap.size) (cq ts s.i).1 c:=λe S=>
  (gp aF).mono ((gp aF).keep U λk b T=>(e.block k (cD T M.size) λd=>by
   rcases S k d with rfl | rfl | rfl
   .have:=Q.one;omega
   .omega
   omega).trans (M.block k T R)) λk b=>by have:=b.1;show w.heap.size<=k;omega
 unfold iI;rw[W hc];refine⟨λh1 G e=>?_,λh1 eF V=>?_⟩
 .have h1:(cq ts s.i).2.2.1≠0:=Wl
  have i:Dn F ts w G b l s:=⟨B.o.trans e λx hx=>.inr Wq,B.r.own e λx hx=>Wq⟩
  refine⟨b,2,_,_,I,i.r.blk,R,J,J,λdk k nS dz dl=>?_⟩;rw[K h1];have d:Dn F ts w dk b l {s with fc:=(cq ts s.i).2.2.1,fa:=(cq ts s.i).2.2.2}:=⟨i.o.trans k λx hx=>.inl hx,i.r.gN k nS h.lt⟩
  refine⟨c,by rw[Z],?_,d.f dl f m⟩;exact y (bs:=[A,a,b]) (((e.weaken (bs':=[A,a,b]) λx hx=>.inl KW).trans k λx hx=>.inl Vx).trans dl λx hx=>.inl Ua) R
 have h1:¬(cq ts s.i).2.2.1≠0:=Wl
 have d:Dn F ts w eF b l s:=⟨B.o.trans V λx hx=>.inr Wq,B.r.own V λx hx=>Wq⟩
 obtain⟨Tv,La⟩:=hj Wl;have ej:((cq ts s.i).2.1.toNat)=(cq ts s.i).2.1:=fy Tv;refine⟨b,1,_,_,I,d.r.blk,R,J,J,λeM dF vj fR eH=>?_⟩;rw[W h1];have k:Dn F ts w eM b l {s with i:=(cq ts s.i).2.1.toNat}:=⟨d.o.trans dF λx hx=>.inl hx,d.r.gN dF (by dsimp only[Sa];rw[ej];exact vj) Sb⟩
 refine⟨c,by rw[Z],?_,k.f eH f m⟩;exact y (bs:=[A,a,b]) (((V.weaken (bs':=[A,a,b]) λx hx=>.inl ph).trans dF λx hx=>.inl (by simp[aV]at hx;simp[hx])).trans eH λx hx=>.inl (by simp[aV]at hx;simp[hx])) R
end
def Qu{n:Nat}(h:((n:Int)==0)=aF):n=0:=Zp
def UU{n:Nat}(h:((n:Int)==0)=aM):n≠0:=λe=>by rw[e]at h;simp at h
def MY{n:Nat}(h:VM ((n:Int)>0)=aM):n=0:=by have:=aR h;omega
def MZ{n:Nat}(h:VM ((n:Int)>0)=aF):n≠0:=ZZ
section
variable {F:aK} {ts:X Tk} {w w':aw} {b:Nat} {l:Sl} {s s':Sx}
def afL(i:Sr F ts w b l s):aA ar 256 #[rp b] w λe w'=>∃f,e=ao (ai f.toArray)/\pI aF w' (Fr w.heap.size) (kc ts s).1 f/\Dn F ts w w' b l (kc ts s).2:=by
 refine iE (alA ?_);intro k X E M y;have t:=i.zt.al y E M;obtain⟨ad,p,_⟩:=i.now;refine⟨λ_=>True,λY c=>⟨trivial,l,Mn (t.q c).r.blk 0 I,λw2 o=>⟨trivial,_,Mn ((t.q c).q o).r.blk 1 I,ad,p,λw3 z=>?_⟩⟩⟩;have r:=((t.q c).q o).q z;refine⟨trivial,_,(r.r.tk p).dx 3 _ I,λP D=>?_⟩;have u:=r.q D;obtain⟨q,Q,a,L,d⟩:=jb P [mM,gD,jc] (n:=3) (parts:=#[(0,ae _),_,_]) I I Z Z;refine⟨q,Q,a,u.sq d R,oa.KZ d,VI d,λw6 N=>?_⟩;have m:=(u.q d).q N;refine(DE m.r (Aw cx Z (pT L) N R)).mono ?_;rintro _ w7 ⟨rfl,g⟩;refine⟨_,I,m.sq g R,oa.KZ g,VI g,λw8 B j H G C=>?_⟩;have v:=((m.q g).q B).ad (bp t.z.o.size H) G;refine⟨λh w9 A=>?_,λh S V=>?_⟩
 .have b:=v.f A R;refine(we b.r).mono ?_;rintro _ n ⟨rfl,e⟩;refine⟨I,b.sc e R,λq l=>?_⟩;have h:=Qu h;unfold kc;rw[K h,h];exact⟨_,I,⟨nI 0 0 [] 0 Sl.nil 0,I,RM _ _ _⟩,((b.nx e).f l R).dn⟩
 have h:=UU h;have am:=v.f V R;refine(afH am.r).mono ?_;rintro _ eM ⟨rfl,tG⟩;have aC:=am.nx tG;refine⟨I,am.sc tG R,(pd aC.r).mono ?_⟩;rintro _ fR ⟨rfl,eH⟩;have n:=aC.q eH;unfold kc;rw[W h];refine⟨_,I,aC.sq eH R,λhf gV jt=>?_,λhf=>?_⟩
 .have hf:=RS
  rw[K hf];exact⟨_,I,⟨nI 0 0 [] 0 Sl.nil 0,I,RM _ _ _⟩,(n.f jt R).dn⟩
 have hf:¬(pH ts s).fc≠0:=RS
 rw[W hf];refine⟨_,Mn n.r.blk 1 I,b,1,_,_,I,n.r.blk,R,n.ne R,n.ne R,λiO ic XQ=>?_⟩;rw[n.r.wr]at XQ;have aT:Zt F ts w iO b l (bP _) [j,k]:=n.up ic XQ (i.en.next n.r.lt (by rw[AD];exact(cP h).2));refine(zu aT.r).mono ?_;rintro _ iz ⟨rfl,F8⟩;have bv:=aT.nx F8;refine⟨_,I,aT.sc F8 R,λiU iP=>?_⟩;have aS:=bv.f iP R;generalize (dQ ts (bP _)).2=bV at*
 generalize (dQ ts (bP _)).1=nm at*
 generalize bR ts s [mM,gD,jc]=kk at*
 generalize (tk ts s.i).a=aa at*
 refine⟨λi4 s1 i5 i6 s2 i7 l2 i8 i9 w'=>∃(x:Ex) (u':Sx),i4=(kk:Int)/\s1=T nm/\i9=aa/\rE aF w' (Fr iU.heap.size) x [O U i5,O U i6,ae s2,O U i7,l2.v,O U i8]/\Zt F ts w w' b l u' [j,k]/\xZ ts bV kk nm aa=(⟨kk,nm,x,aa⟩,cA ts u' [59])/\iU.heap.size<=w'.heap.size,?_,λmE=>?_,λmE=>?_⟩
 .rintro i4 s1 i5 i6 s2 i7 l2 i8 i9 li ⟨x,u',rfl,rfl,rfl,hx,b,w,bY⟩;obtain⟨q,jN,a,T,F⟩:=sV b.r [59];refine⟨q,jN,a,b.sq T R,F.mono ?_⟩;rintro _ mD ⟨rfl,l⟩;have e:=b.q T;refine⟨I,e.sc l R,λra s=>?_⟩;rw[w];have zk:=aS.z.k k R;have zs:=aS.z.o.size;refine⟨_,I,⟨[O U i5,O U i6,ae s2,O U i7,l2.v,O U i8],I,?_⟩,((e.nx l).f s R).dn⟩;exact(gp aF).low ((gp aF).stay hx ((((EK _ _).q T).d l aS.r.lb).f s (.inl zk.2))) zs
 .have mE:¬kk=2:=λe=>by rw[e]at mE;simp at mE
  obtain⟨q,tw,a,O,hm⟩:=sV aS.r [61];refine⟨q,tw,a,aS.sq O R,hm.mono ?_⟩;rintro _ vh ⟨rfl,w⟩;have l:=aS.q O;have b:=l.nx w;refine⟨I,l.sc w R,(aeM b.r).mono ?_⟩;rintro _ pN ⟨f,rfl,T,F⟩;obtain⟨sl,rfl⟩:=dM T;refine⟨_,_,_,_,sl,_,I,b.sc F R,λqR x=>?_⟩;have s:iU.heap.size<=vh.heap.size:=bp O.size w.o.size;have zk:=aS.z.k j R;refine⟨_,_,I,I,I,(gp aF).low ((gp aF).stay T ((EK _ _).f x (.inl J))) s,(b.nx F).f x R,?_,bp s (bp F.o.size x.size)⟩;unfold xZ;rw[W mE]
 have mE:=Ri
 have mE:kk=2:=J
 refine⟨uZ,bV,I,I,I,RM _ _ _,aS,?_,aX _⟩;unfold xZ;rw[K mE]
abbrev AcO(B:Nat)(w:aw)(l:Sl)(a:X Ac):Prop:=Own (pI aF) 9 78 B w (Fr B) l a
structure Br (F:aK) (ts:List Tk) (w w':aw) (b:Nat) (l:Sl) (k0 k1 B:Nat) (s:Sx) (acc:List Ac) (la:Sl):Prop where
 r:Sr F ts w' b l s
 b0:aG w' k0 132 [rp b]
 b1:aG w' k1 24 [la.v]
 own:AcO B w' la acc
 o:∃gs,az (b::k1::gs) w w'/\∀x,x∈gs->B<=x
 n0:b<k0
 n1:b<k1
 n01:k0≠k1
 l0:k0<B
 l1:k1<B
 lB:B<=w'.heap.size
section
variable {k0 k1 B:Nat} {acc:X Ac} {la:Sl} {w2:aw}
def Br.nx(h:Br F ts w w' b l k0 k1 B s acc la)(k:Dn F ts w' w2 b l s'):Br F ts w w2 b l k0 k1 B s' acc la:=by
 have n:=h.n0;have e:=h.n1;have d:=h.l0;obtain⟨g,a,c⟩:=h.o;exact⟨k.r,k.o.blk h.b0 C,k.o.blk h.b1 C,h.own.stay (cN aF) k.o λx hx=>.inl Vv,
  ⟨g,a.trans k.o λx hx=>.inl Vx,c⟩,n,e,h.n01,d,h.l1,bp h.lB k.o.size⟩
def Br.q(h:Br F ts w w' b l k0 k1 B s acc la)(k:az [] w' w2):Br F ts w w2 b l k0 k1 B s acc la:=h.nx (h.r.dn.q k)
def afM(h:Br F ts w w' b l k0 k1 B s acc la)(hm:Z8 acc<Z8 ts):aA ar 255 #[ah (Hg ⟨k1,0,ZQ⟩),ah (Hg ⟨k0,0,ZQ⟩)] w' λe w2=>e=ao (aj #[])/\∃A,Br F ts w w2 b l k0 k1 B (kc ts s).2 (acc++[(kc ts s).1]) A:=by
 refine ret (alz ?_);intro w0 M;have f:=h.q M;have H:=h.n1;have W:=h.l1;refine⟨λk=>k=k1,I,la,f.b1.at0 0 I,_,f.b0.at0 0 I,(afL f.r).mono ?_⟩;rintro _ w1 ⟨cs,rfl,hx,C⟩;have d:=f.nx C;generalize Ll:(kc ts s).1=c at*
 generalize (kc ts s).2=s1 at*
 have yx:=hx;obtain⟨xc,rfl,L⟩:=yx;obtain⟨sl,rfl⟩:=dM L;have vB:=h.r.sm;have V:=f.own.len;obtain⟨y,w2,N,u,A,K,Q,Y,⟨o,z,qT⟩,_⟩:=jy (P:=ar) (t:=24) (ty:=24) (e:=78) (i:=Tryz.t78) (bytes:=104) (size:=9) (v:=ai (Wj c.k c.n (nI c.x.k c.x.n c.x.s c.x.op sl c.x.a) c.a).toArray) (x:=c) (G:=Fr w0.heap.size) D D I I I I Z Z Z (cN aF) d.own d.lB I hx (λk a _=>⟨bp f.lB a,f.own.new a⟩) J;have X:=(u.weaken (bs':=o) λ_ h=>Rl).trans z λx hx=>.inl hx;have kB:∀m,m∈o->B<=m:=λm S=>(qT m S).2.1;refine⟨_,_,_,_,_,_,sl,_,_,I,λk a T=>(by subst a;exact C.o.block k T Gs),y,w2,N,VI u,A,K,Q,λk a T=>(by subst a;exact z.block k T λhm=>Pa),k1,0,_,_,I,X.blk d.b1 (λhm=>by have:=kB k1 hm;omega),R,λw4 g pz=>⟨I,A,?_⟩⟩;have n0:=h.n0;have n:=h.n01;have E:=h.l0;have z3:=X.size;have z4:=g.size;have q:=d.lB;have p:∀{x:Nat},x<B->x≠k1->w4.heap[x]? =w1.heap[x]? :=λhx hn=>(g.block _ J Uq).trans (X.block _ J λhm=>(by have:=kB _ hm;omega));obtain⟨j,o1,o2⟩:=d.o;have r:Sr F ts K b l s1:=d.r.own X λx hx=>Ji
 refine⟨r.one g H,(p E n).trans d.b0,pz,?_,⟨o++j,(((o1.weaken (bs':=b::k1::(o++j)) λx hx=>.inl (by simp only[aZ,dc]at hx⊢;rcases hx with hx | hx | hx<;>simp[hx])).trans X λx hx=>.inl Rk)).trans g λx hx=>.inl Ua,λx hx=>?_⟩,n0,H,n,E,W,J⟩
 .refine((Y.mono (cN aF) λk a=>?_).stay (cN aF) g λx hx=>.inl Vv);rcases a with a | a
  .exact a
  exact bp q a
 rcases dc.1 hx with hx | hx
 .exact kB x hx
 exact o2 x hx
def agY(f:Nat)(c:Br F ts w w' b l k0 k1 B s acc la)(d:mu ts s<f)(i:Z8 acc+mu ts s<=Z8 ts):
  aA ar 254 #[rp b,ae (aq #[125]),.func (.func 255) #[] #[ah (Hg ⟨k1,0,ZQ⟩),ah (Hg ⟨k0,0,ZQ⟩)]] w' λe w2=>e=ao (aj #[])/\∃A,Br F ts w w2 b l k0 k1 B (j6 ts f acc s).2 (j6 ts f acc s).1 A:=by
 refine ret (aly ⟨b,0,ZQ⟩ ⟨.func _ #[] #[ah _,ah (Hg ⟨k0,0,ZQ⟩)],I⟩ w' ?_);generalize C:j6 ts f acc s=r;refine⟨λv w2=>∃s' X A,Br F ts w w2 b l k0 k1 B s' X A/\j6 ts v X s'=r/\mu ts s'<v/\Z8 X+mu ts s'<=Z8 ts,f,⟨s,acc,la,c,C,d,i⟩,?_⟩;rintro v j ⟨s',X,A,a,h,g,S⟩;obtain⟨m,rfl⟩:∃m,v=m+1:=⟨v-1,J⟩
 rw[j6]at h;refine⟨λo w2=>(o=aF/\s'.fc=0/\bR ts s' [[125]]=0/\Br F ts w w2 b l k0 k1 B s' X A)∨(o=aM/\Br F ts w w2 b l k0 k1 B r.2 r.1 A),?_,(pd a.r).mono ?_⟩
 .rintro o w (⟨rfl,x,hw,b⟩ | ⟨rfl,b⟩)
  .refine⟨λ_=>⟨255,[],[_,_],I,jB D,?_⟩,λhh=>ZB⟩;rw[W (by simp[x]),W (by simp[hw])]at h;have L:=aec a.r.en x a.r.lt;have f:mu ts s'<=Z8 ts:=VZ
   refine(afM b J).mono ?_;rintro _ k ⟨rfl,l,e⟩;exact⟨I,m,J,_,_,l,e,h,J,RC⟩
  exact⟨λhh=>ZB,λ_=>⟨I,A,b⟩⟩
 rintro _ w ⟨rfl,e⟩;have b:=a.q e;refine⟨_,I,λhc=>?_,λhc=>?_⟩
 .have hc:s'.fc=0:=R0
  rw[W (by simp[hc])]at h;obtain⟨q,p,k,P,l⟩:=FB b.r [[125]] (n:=1) (parts:=#[(0,ae (T [125]))]) I I Z Z;refine⟨q,p,k,l.mono ?_⟩;rintro _ s ⟨rfl,f⟩;have f:=(b.q P).nx f;refine⟨_,I,?_⟩;by_cases hw:bR ts s' [[125]]=0
  .rw[K hw]at f;exact .inl ⟨by rw[hw];rfl,hc,hw,f⟩
  rw[W hw]at f;rw[K hw]at h;subst h;exact .inr ⟨Mg,f⟩
 have hc:s'.fc≠0:=R0
 rw[K hc]at h;subst h;exact .inr ⟨I,b⟩
end
def DF(h:Sr F ts w b l s):aA ar 191 #[rp b] w λe w'=>∃c,e=ao c.v/\jh aF (pI aF) 9 78 w' (Fr w.heap.size) c (ff ts s).1/\Dn F ts w w' b l (ff ts s).2:=by
 refine iE (alc ?_);intro y A K Q L i v m;have t:=((h.zt.q m).ad Q L).ad i v;obtain⟨q,E,o,p,u⟩:=sV t.r [123];refine⟨q,E,o,t.sq p R,u.mono ?_⟩;rintro _ f ⟨rfl,g⟩;have j:=t.q p;have d:=j.nx g;refine⟨I,j.sc g R,λr n=>?_⟩;have H:=h.lb;have B:Br F ts f f b l y A f.heap.size _ [] Sl.nil:=
  ⟨d.r,r,n,Vf _ _ _ _ _ _,⟨[],EC _ _,λ_ h=>Rl⟩,J,J,λe=>(by subst e;have:=r.symm.trans n;simp at this),r.lt,n.lt,aX _⟩
 refine(agY (Z8 ts+1) B VZ (by rw[bE,bO];unfold mu;split<;>omega)).mono ?_;rintro _ M ⟨rfl,c,a⟩;have z:=d.z.o.size;obtain⟨G,C,D⟩:=a.o;refine⟨I,_,a.b0,_,a.b1,c,I,?_,?_,a.r⟩
 .exact(a.own.sl (cN aF) λk h=>h).low (cN aF) z
 exact d.z.o.trans C λx h=>by
  simp at h;rcases h with rfl | rfl | h
  .exact .inl R
  .exact .inr i
  exact .inr (bp z (D x h))
end
section
variable {F:aK} {ts:X Tk} {w w':aw} {b:Nat} {l:Sl} {s s':Sx}
structure MvX (A:Nat) (w:aw) (m:Mv) (k:Int) (ev:M) (wt:Int) (gd:Bool) (gc:aJ) (mF:Sl) (a:Int):Prop where
 e1:k=m.k
 e2:ev=T m.ev
 e3:wt=m.wt
 e4:gd=m.gd
 e5:a=m.a
 g:rE aF w (Fr A) m.g gc
 x:jh aF (pI aF) 9 78 w (Fr A) mF m.acts
def MvX.stay{A}{m}{k}{ev}{wt}{gd}{gc}{mF}{a}(h:MvX A w m k ev wt gd gc mF a)(s:Stay A w w'):MvX A w' m k ev wt gd gc mF a:=
 ⟨h.e1,h.e2,h.e3,h.e4,h.e5,(gp aF).stay h.g s,h.x.stay (cN aF) Z s⟩
def jL ts s:mu ts s<=Z8 ts:=VZ
def DG(h:Sr F ts w b l s){ss}(a:bR ts s ss≠0):s.i+1<Z8 ts:=h.en.next h.lt (cP a).2
def aar(h:Sr F ts w b l s){k:Int}(a:(tk ts s.i).k≠5):aA ar 189 #[rp b,O U k] w λe w'=>∃j,e=ao (ai j.toArray)/\JE aF w' (Fr w.heap.size) (jK ts k s).1 j/\Dn F ts w w' b l (jK ts k s).2:=by
 refine iE (ala ?_);intro c M Q L u;have g:=h.zt.al u Q L;obtain⟨ad,B,C⟩:=g.r.now;refine⟨λ_=>True,trivial,l,Mn g.r.blk 0 I,trivial,_,Mn g.r.blk 1 I,ad,B,trivial,_,C.dx 3 _ I,λd N H E z=>?_⟩;have m:=g.al z H E;refine(afI m.r).mono ?_;rintro _ V ⟨rfl,r⟩;have o:=m.nx r;refine⟨I,m.sc r R,(pd o.r).mono ?_⟩;rintro _ Y ⟨rfl,p⟩;have f:=o.q p;unfold jK;refine⟨_,I,o.sq p R,λhf w4 A=>?_,λhf=>?_⟩
 .have hf:(oC ts s).fc≠0:=RS
  rw[K hf];exact⟨_,I,⟨nI 0 0 [] 0 Sl.nil 0,Sl.nil,Sl.nil,I,RM _ _ _,TG _ _ _ _ _ _,TG _ _ _ _ _ _⟩,(f.f A R).dn⟩
 have hf:¬(oC ts s).fc≠0:=RS
 rw[W hf];refine⟨_,Mn f.r.blk 1 I,b,1,_,_,I,f.r.blk,R,f.ne R,f.ne R,λw5 dP vi=>?_⟩;rw[f.r.wr]at vi;have t5:Zt F ts w w5 b l (bP (oC ts s)) [d,c]:=f.up dP vi (h.en.next f.r.lt (by rw[AE];exact a));have hA:=t5.z.o.size;have bV:=(t5.z.k c R).2;have XV:=(t5.z.k d R).2;have LY:=t5.r.lb;generalize aT:w5.heap.size=aS at*
 generalize (tk ts s.i).a=aa at*
 generalize bP (oC ts s)=u0 at*
 generalize hR:(if k=1 then gF ts {JA k aa with ev:=(dQ ts u0).1} (dQ ts u0).2 else if k=3 then gF ts {JA k aa with wt:=(cY ts u0 3).1.n} (cY ts u0 3).2 else gF ts (JA k aa) u0)=bv;have x0:∀{w':aw} {ev:S} {wt:Int},MvX aS w' {JA k aa with ev:=ev,wt:=wt} k (T ev) wt aM (nI 0 0 [] 0 Sl.nil 0) Sl.nil aa:=⟨I,I,I,I,I,RM _ _ _,TG _ _ _ _ _ _⟩
 refine⟨λi3 s0 i4 b1 i5 i6 s1 i7 l1 i8 l2 l3 i9 w'=>∃(am:Mv) (aC:Sx),MvX aS w' am i3 s0 i4 b1 [O U i5,O U i6,ae s1,O U i7,l1.v,O U i8] l2 i9/\am.gd=aM/\am.tg=[]/\l3=Sl.nil/\Zt F ts w w' b l aC [d,c]/\gF ts am aC=bv/\aS<=w'.heap.size,?_,λhc=>?_,λhc=>⟨λtT=>?_,λtT=>?_⟩⟩;rotate_left
 .have hc:k=1:=R0
  refine(zu t5.r).mono ?_;rintro _ w ⟨rfl,h⟩;have t:=t5.nx h;refine⟨_,I,t5.sc h R,λe b=>?_⟩;rw[K hc]at hR;exact⟨_,_,x0,I,I,I,t.f b R,hR,by rw[<-aT];exact bp h.o.size b.size⟩
 .have hc:¬k=1:=R0
  have tT:k=3:=Sf
  refine(zr t5.r (k:=3) Z).mono ?_;rintro _ w ⟨rfl,h⟩;have t:=t5.nx h;refine⟨_,_,_,_,I,t5.sc h R,λe b=>?_⟩;rw[W hc,K tT]at hR;exact⟨_,_,x0,I,I,I,t.f b R,hR,by rw[<-aT];exact bp h.o.size b.size⟩
 .have hc:¬k=1:=R0
  have tT:¬k=3:=Sf
  rw[W hc,W tT]at hR;exact⟨_,_,x0,I,I,I,t5,hR,ri aT.symm⟩
 rintro i3 s0 i4 b1 i5 i6 s1 i7 l1 i8 l2 l3 i9 w6 ⟨am,aC,hx,Ie,pO,rfl,t6,hR,z6⟩;unfold gF at hR;obtain⟨q,vh,e1,EZ,hm⟩:=FB t6.r [[91]] (n:=1) (parts:=#[(0,ae (T [91]))]) I I Z Z;have bY:=t6.q EZ;refine⟨λi3 s0 i4 b1 i5 i6 s1 i7 l1 i8 l2 l3 i9 w'=>∃(am:Mv) (aC:Sx),MvX aS w' am i3 s0 i4 b1 [O U i5,O U i6,ae s1,O U i7,l1.v,O U i8] l2 i9/\am.tg=[]/\l3=Sl.nil/\Zt F ts w w' b l aC [d,c]/\qC ts am aC=bv/\aS<=w'.heap.size,?_,q,vh,e1,t6.sq EZ R,hm.mono ?_⟩;rotate_left
 .rintro _ h ⟨rfl,F⟩;have t:=bY.nx F;have v:Stay aS w6 h:=((EK aS w6).q EZ).d F LY;refine⟨_,I,bY.sc F R,λhc q e=>?_,λhc i b=>?_⟩
  .have qj:=MZ hc;rw[W qj]at hR t;have n:=t.f e R;have T:=v.f e (.inl XV);have ce:=T.sz;refine(aeM n.r).mono ?_;rintro _ tB ⟨j,rfl,hg,l⟩;obtain⟨sl,rfl⟩:=dM hg;have G:=n.nx l;refine⟨_,_,_,_,sl,_,I,n.sc l R,λxy P=>?_⟩;have s:=G.f P R;obtain⟨q2,BP,e2,y,xf⟩:=sV s.r [93];have x:=s.q y;refine⟨q2,BP,e2,s.sq y R,xf.mono ?_⟩;rintro _ LV ⟨rfl,k⟩;have O:=x.nx k;have w:=(((T.d l LY).f P (.inl XV)).q y).d k LY;refine⟨I,x.sc k R,{am with gd:=aF,g:=(iI ts (bP aC)).1},_,⟨hx.e1,hx.e2,hx.e3,hc,hx.e5,?_,hx.x.stay (cN aF) Z w⟩,pO,I,O,hR,bp z6 w.sz⟩;exact(gp aF).low ((gp aF).stay hg ((((EK _ _).f P (.inl J)).q y).d k J)) J
  have l:=MY hc;rw[K l]at hR t;have s:=v.f b (.inl XV);have k:=hx.stay s;exact⟨am,aC,⟨k.e1,k.e2,k.e3,by rw[hc,Ie],k.e5,k.g,k.x⟩,pO,I,t.f b R,hR,bp z6 s.sz⟩
 clear hx Ie pO t6 hR z6 hm bY;rintro i3 s0 i4 b1 i5 i6 s1 i7 l1 i8 l2 l3 i9 w7 ⟨am,aC,hx,pO,rfl,t7,hR,z7⟩;unfold qC at hR;obtain⟨q,jN,e1,mT,hm⟩:=O8 t7.r [[123]] (n:=1) (parts:=#[(0,ae (T [123]))]) I I Z Z;have co:=t7.q mT;refine⟨λi3 s0 i4 b1 i5 i6 s1 i7 l1 i8 l2 l3 i9 w'=>∃(am:Mv) (aC:Sx),MvX aS w' am i3 s0 i4 b1 [O U i5,O U i6,ae s1,O U i7,l1.v,O U i8] l2 i9/\l3=Sl.nil/\Zt F ts w w' b l aC [d,c]/\ru ts am aC=bv/\aS<=w'.heap.size,?_,q,jN,e1,t7.sq mT R,hm.mono ?_⟩;rotate_left
 .rintro _ h ⟨rfl,i⟩;have t:=co.q i;have b:Stay aS w7 h:=((EK aS w7).q mT).q i;have e:=b.sz;refine⟨_,I,co.sq i R,λhc=>(DF t.r).mono ?_,λhc=>?_⟩
  .rw[W (MZ hc)]at hR;rintro _ w ⟨v,rfl,s,k⟩;have n:=t.nx k;refine⟨v,I,t.sc k R,λx l=>?_⟩;have q:=(b.d k LY).f l (.inl XV);refine⟨{am with acts:=(ff ts aC).1},_,⟨hx.e1,hx.e2,hx.e3,hx.e4,hx.e5,(gp aF).stay hx.g q,?_⟩,I,n.f l R,hR,bp z7 q.sz⟩;exact(s.stay (cN aF) Z ((EK _ _).f l (.inl J))).low (cN aF) J
  rw[K (MY hc)]at hR;exact⟨am,aC,hx.stay b,I,t,hR,bp z7 e⟩
 clear hx pO t7 hR z7 hm co;rintro g9 s4 ip b3 iD iF s5 iN l7 iS l8 l9 lE w8 ⟨am,aC,hx,rfl,t8,hR,z8⟩;unfold ru at hR;have g8:b<w8.heap.size:=J
 refine⟨λnv sg gE s7 gG b4 el eQ s8 fd ge f5 pr pL gO w'=>∃(x:S) (dO:X (S)) (u':Sx),sg=T x/\MvX aS w8 am gE s7 gG b4 [O U el,O U eQ,ae s8,O U fd,ge.v,O U f5] pr gO/\Stay aS w8 w'/\Own ju 1 9 w8.heap.size w' (Fr w8.heap.size) pL dO/\Zt F ts w w' b l u' [d,c]/\kq ts nv x dO u'=kq ts (Z8 ts+1) [45,62] [] aC/\mu ts u'<nv/\Z8 dO+mu ts u'<=Z8 ts,Z8 ts+1,⟨[45,62],[],aC,I,hx,EK _ _,Vf _ _ _ _ _ _,t8,I,jw (jL _ _),MM⟩,?_⟩;clear hx;rintro nv sg gE s7 gG b4 el eQ s8 fd ge f5 pr pL gO w9 ⟨x,dO,u',rfl,hx,hS,mU,t9,hT,W3,Aa⟩;obtain⟨m',rfl⟩:∃m',nv=m'+1:=⟨nv-1,J⟩
 rw[kq]at hT;obtain⟨q,dk,e1,dS,xf⟩:=FB t9.r [x] (n:=1) (parts:=#[(0,ae (T x))]) I I Z Z;have gT:=t9.q dS;refine⟨q,dk,e1,t9.sq dS R,xf.mono ?_⟩;rintro _ dz ⟨rfl,L0⟩;have cC:=gT.nx L0;refine⟨_,I,gT.sc L0 R,λhc eF dV=>?_,λhc=>?_⟩
 .have hc:=MZ hc;rw[W hc]at hT cC;have l:=cC.q dV;refine⟨λk=>k=d,I,(zu l.r).mono ?_⟩;rintro _ eM ⟨rfl,O⟩;have n:=l.nx O;have fm:az [b] w9 eM:=(((dS.weaken (bs':=[b]) λ_ h=>Rl).trans L0.o λx hx=>.inl hx).cn dV).trans O.o λx hx=>.inl hx;have zS:=hS.sz;have z9:=fm.size;have vB:=h.sm;have Ez:=jL ts u';have Lm:=pb h.en (cP hc).1 t9.r.lt (cP hc).2 (nJ h.en (s:=bP u')).toOn0;obtain⟨y,fR,e2,w,A9,gV,e3,XY,⟨gs,F,qT⟩,_⟩:=jy (P:=ar) (t:=37) (ty:=37) (e:=9) (i:=Tryz.t9) (bytes:=16) (size:=1) (v:=ae (T (dQ ts (bP u')).1)) (x:=(dQ ts (bP u')).1) (G:=λ_=>False) D D I I I I Z Z Z cx (mU.stay cx fm λx hx=>.inl Vv) (bp zS z9) I I (λk a _=>a.elim) J;have kB:∀cc,cc∈gs->w8.heap.size<=cc:=λcc hg=>(qT cc hg).2.1;have mt:=t8.z.o.size;have q:=n.q w;have lT:=q.row F λx hx=>bp mt (kB x hx);have nk:=t8.ne (k0:=d) R;refine⟨_,I,l.sc O R,λk a bT=>(by subst a;exact O.o.block k bT (by simpa using nk)),y,fR,e2,n.sq w R,VI w,A9,gV,e3,q.sr F R (λx hx y hy=>?_),λk a bT=>(by subst a;exact F.block k bT λhm=>Pa),λiO ic=>⟨m',J,[44],_,_,I,hx,?_,?_,lT.f ic R,hT,J,?_⟩⟩
  .have:=kB x hx;simp only[aZ,bB,cE]at hy;omega
  .exact(((hS.go fm λx hx=>.inl IG).q w).go F λx hx=>.inr (kB x hx)).f ic (.inl XV)
  .refine((XY.mono cx λk a=>?_).stay cx ic λx hx=>.inl IG);rcases a with a | a
   .exact a
   exact bp (bp zS z9) a
  rw[aP,bf];omega
 have hc:=MY hc;rw[K hc]at hT cC;obtain⟨F,y,x,i,w⟩:=sV cC.r [59];have t:=cC.q i;refine⟨F,y,x,cC.sq i R,w.mono ?_⟩;rintro _ P ⟨rfl,h⟩;have n:=t.nx h;refine⟨I,t.sc h R,λv l=>?_⟩;rw[<-hT]at hR;rw[<-hR];have G:∀{e:Nat},b<e->c<e->Stay e w9 v:=λq a=>((((EK _ _).q dS).d L0 q).q i).d h q |>.f l (.inl a);have s:Stay aS w8 v:=(((((hS.q dS).d L0 LY).q i).d h LY).f l (.inl bV))
 refine⟨T4 am.k am.ev am.wt am.gd [O U el,O U eQ,ae s8,O U fd,ge.v,O U f5] pr pL am.a,by rw[hx.e1,hx.e2,hx.e3,hx.e4,hx.e5];rfl,⟨_,_,_,I,(gp aF).low ((gp aF).stay hx.g s) hA,(hx.x.stay (cN aF) Z s).low (cN aF) hA,?_⟩,(n.f l R).dn⟩;exact((mU.sl cx λk a=>a).stay cx Z (G g8 J)).low cx J
end
def Pb{j9 x:aJ}{j}{v}(h:x[j]? =Hg v):(j9++x)[Z8 j9+j]? =Hg v:=by
 rw[cG J,eo];exact h
def oH j9 xs vs j:eY (j9++xs) (Z8 j9+j) vs=j9++eY xs j vs:=by
 unfold eY;rw[Zl,fI,List.drop_length_add_append];simp
structure NbO (B:Nat) (w:aw) (n:Nb) (en lv mv:Sl):Prop where
 en:jh aF (pI aF) 9 78 w (λk=>B<=k/\mv.a≠Hg ⟨k,0,ZQ⟩) en n.en
 lv:jh aF (pI aF) 9 78 w (λk=>B<=k/\mv.a≠Hg ⟨k,0,ZQ⟩) lv n.lv
 mv:Own (JE aF) 13 82 B w (Fr B) mv n.mv
section
variable {B:Nat} {w w':aw} {n:Nb} {en lv mv:Sl}
def NbO.go(h:NbO B w n en lv mv){bs}(k:az bs w w')(a:∀x,x∈bs->x<B):NbO B w' n en lv mv:=
 ⟨h.en.keep (cN aF) Z λi c b=>k.block i b λm=>(by have:=a i m;omega),h.lv.keep (cN aF) Z λi c b=>k.block i b λm=>(by have:=a i m;omega),h.mv.stay (iL aF) k λx d=>.inl (a x d)⟩
def NbO.Ef(b:NbO B w n en lv mv){gs}{oe}{m}(U:Own (JE aF) 13 82 B w' (λk=>Fr B k∨w.heap.size<=k) oe (n.mv++[m]))(k:az gs w w')(q:∀g,g∈gs->mv.a=Hg ⟨g,0,ZQ⟩)(a:oe.a=mv.a∨∃g,oe.a=Hg ⟨g,0,ZQ⟩/\w.heap.size<=g)(c:B<=w.heap.size):NbO B w' {n with mv:=n.mv++[m]} en lv oe:=by
 have go:∀{l:Sl} {x:X Ac},jh aF _ 9 78 w (λk=>B<=k/\mv.a≠Hg _) l x->jh aF _ 9 78 w' (λk=>B<=k/\oe.a≠Hg ⟨k,0,ZQ⟩) l x:=λd=>
  ((d.inHeap (cN aF) Z).keep (cN aF) Z λi h T=>k.block i T λm=>h.1.2 (q i m)).mono (cN aF) λi h=>⟨h.1.1,by
   rcases a with a | ⟨g,a,f⟩
   .rw[a];exact h.1.2
   rw[a];intro e;injection e with e;injection e with e;omega⟩
 exact⟨go b.en,go b.lv,U.mono (iL aF) λi h=>h.elim id λh=>bp c h⟩
def NbO.adO(h:NbO B w n en lv mv){A}{la}{xs}(x:jh aF (pI aF) 9 78 w (Fr A) la xs)(b:B<=A)(m:∀k,A<=k->mv.a≠Hg ⟨k,0,ZQ⟩):NbO B w {n with en:=xs} la lv mv:=
 ⟨x.mono (cN aF) λk a=>⟨bp b a,m k a⟩,h.lv,h.mv⟩
def NbO.adP(h:NbO B w n en lv mv){A}{la}{xs}(x:jh aF (pI aF) 9 78 w (Fr A) la xs)(b:B<=A)(m:∀k,A<=k->mv.a≠Hg ⟨k,0,ZQ⟩):NbO B w {n with lv:=xs} en la mv:=
 ⟨h.en,x.mono (cN aF) λk a=>⟨bp b a,m k a⟩,h.mv⟩
end
abbrev RP(h:Ej):aJ:=[ak aM,ak h.i,ak h.e,ak h.l]
structure Cl (F:aK) (ts:List Tk) (w w':aw) (b:Nat) (l:Sl) (g t:Nat) (j9:aJ) (kh B:Nat) (s:Sx) (n:Nb) (h:Ej) (en lv mv:Sl):Prop where
 r:Sr F ts w' b l s
 nb:aG w' g t (j9++rz n.k n.nm n.ini n.dft en lv mv Sl.nil n.a)
 hb:aG w' kh 211 (RP h)
 no:NbO B w' n en lv mv
 o:∃gs,az (b::g::kh::gs) w w'/\∀x,x∈gs->B<=x
 ng:g≠b/\¬F g
 nh:b<kh
 gh:g≠kh
 gB:g<B
 hB:kh<B
 lB:B<=w'.heap.size
section
variable {F:aK} {ts:X Tk} {w w' w2:aw} {b:Nat} {l:Sl} {g t:Nat} {j9:aJ} {kh B:Nat} {s s':Sx} {n n':Nb} {h h':Ej} {en lv mv r7 r9 oe:Sl}
def Cl.nx(c:Cl F ts w w' b l g t j9 kh B s n h en lv mv)(k:Dn F ts w' w2 b l s'):Cl F ts w w2 b l g t j9 kh B s' n h en lv mv:=by
 have i:=c.ng;have j:=c.nh;have f:=c.hB;obtain⟨a,d,e⟩:=c.o;exact⟨k.r,k.o.blk c.nb C,k.o.blk c.hb C,c.no.go k.o λx hx=>Vv,
  ⟨a,d.trans k.o λx hx=>.inl Vx,e⟩,i,j,c.gh,c.gB,c.hB,bp c.lB k.o.size⟩
def Cl.q(c:Cl F ts w w' b l g t j9 kh B s n h en lv mv)(k:az [] w' w2):Cl F ts w w2 b l g t j9 kh B s n h en lv mv:=c.nx (c.r.dn.q k)
def Cl.st(c:Cl F ts w w' b l g t j9 kh B s n h en lv mv)(k:az [g] w' w2)(j:aG w2 g t (j9++rz n'.k n'.nm n'.ini n'.dft r7 r9 oe Sl.nil n'.a))(o:NbO B w' n' r7 r9 oe):Cl F ts w w2 b l g t j9 kh B s n' h r7 r9 oe:=by
 obtain⟨d,f,i⟩:=c.o;have a:=c.gB;exact⟨c.r.agG k c.ng,j,k.blk c.hb (by simpa using λe=>c.gh e.symm),o.go k λx hx=>Vv,⟨d,f.trans k λx hx=>.inl Vx,i⟩,c.ng,c.nh,c.gh,a,c.hB,bp c.lB k.size⟩
def Cl.hd(c:Cl F ts w w' b l g t j9 kh B s n h en lv mv)(k:az [kh] w' w2)(f:aG w2 kh 211 (RP h')):Cl F ts w w2 b l g t j9 kh B s n h' en lv mv:=by
 obtain⟨a,d,e⟩:=c.o;have Q:=c.hB;exact⟨c.r.one k c.nh,k.blk c.nb (by simpa using c.gh),f,c.no.go k λx hx=>Vv,⟨a,d.trans k λx hx=>.inl Vx,e⟩,c.ng,c.nh,c.gh,c.gB,Q,bp c.lB k.size⟩
def Oe(h:Ej)(j:Nat):L:=if j=1 then h.i else if j=2 then h.e else h.l
def JN(h:Ej)(j:Nat):Ej:=if j=1 then{h with i:=aF}else if j=2 then{h with e:=aF}else{h with l:=aF}
def j3{j}(h:j≠0)(a:j<=3):j=1∨j=2∨j=3:=J
def pur(c:Cl F ts w w' b l g t j9 kh B s n h en lv mv)(m:Z8 n.mv<Z8 ts):aA ar 139 #[rp b,ah (Hg ⟨g,Z8 j9,ZQ⟩),ah (Hg ⟨kh,0,ZQ⟩)] w' λe w2=>e=ao (ak (da ts n h s).1)/\
  ∃r7 r9 oe,Cl F ts w w2 b l g t j9 kh B (da ts n h s).2.2.2 (da ts n h s).2.1 (da ts n h s).2.2.1 r7 r9 oe:=by
 refine ret (akL ?_);have r:=c.r.sm;obtain⟨q,o,a,j,S⟩:=O8 c.r [u6,fb,fL] (n:=3) (parts:=#[(0,ae (T u6)),(1,ae (T fb)),(2,ae (T fL))]) I I Z Z;refine⟨q,o,a,S.mono ?_⟩;rintro _ u ⟨rfl,p⟩;have d:=(c.q j).q p;refine⟨_,I,λhc w2 f=>?_,λhc=>?_⟩
 .have hc:=MZ hc;have C:=d.q f;have nU:da ts n h s=(aF,{n with mv:=n.mv++[(jK ts (bR ts s [u6,fb,fL]:Nat) s).1]},h,(jK ts (bR ts s [u6,fb,fL]:Nat) s).2):=by
   unfold da;rw[K hc]
  rw[nU];refine⟨λk=>k=g,_,I,I,mv,C.nb.at0 (Z8 j9+6) (Pb I),(aar C.r (cP hc).2).mono ?_⟩;rintro _ w3 ⟨cs,rfl,hx,V⟩;have q:=C.nx V;generalize (jK ts (bR ts s [u6,fb,fL]:Nat) s).1=l at*
  generalize (jK ts (bR ts s [u6,fb,fL]:Nat) s).2=am at*
  have yx:=hx;obtain⟨gc,mF,tg,rfl,hg,_,_⟩:=yx;obtain⟨sl,rfl⟩:=dM hg;have ng:=c.ng;have gB:=c.gB;obtain⟨y,w4,e2,M,oe,w5,e3,mU,⟨z,Q,qT⟩,ha⟩:=jy (P:=ar) (t:=25) (ty:=25) (e:=82) (i:=Tryz.t82) (bytes:=168) (size:=13) (v:=ai (T4 l.k l.ev l.wt l.gd (nI l.g.k l.g.n l.g.s l.g.op sl l.g.a) mF tg l.a).toArray) (x:=l) (G:=Fr w2.heap.size) D D I I I I Z Z Z (iL aF) q.no.mv q.lB I hx (λk A _=>⟨bp C.lB A,C.no.mv.new A⟩) J;have w:az z w3 w5:=(M.weaken (bs':=z) λ_ h=>Rl).trans Q λx hx=>.inl hx;have kB:∀x,x∈z->B<=x:=λx hx=>(qT x hx).2.1;have Y:g∉z:=λm=>by have:=kB g m;omega
  have vi:=w.blk q.nb Y;refine⟨_,_,_,_,_,_,_,_,sl,_,mF,tg,_,I,λk A T=>(by subst A;exact V.o.block k T Gs),y,w4,e2,VI M,oe,w5,e3,λk A T=>(by subst A;exact Q.block k T Y),_,I,g,_,_,_,I,vi,R,λw6 N X=>⟨I,en,lv,oe,?_⟩⟩;rw[oH]at X;have L:=q.no.Ef mU w (λx hx=>(qT x hx).1) ha q.lB;obtain⟨E,o1,o2⟩:=q.o;have nh:=c.nh;have F:=c.hB;have lB:=q.lB;have H:=c.gh;have z5:=w.size;have z6:=N.size;exact⟨(q.r.own w λx hx=>Ji).agG N ng,X,(N.block kh (by have:=q.hb.lt;omega) Gs).trans (w.blk q.hb λm=>(by have:=kB kh m;omega)),
   L.go N λx hx=>IG,⟨z++E,((o1.weaken (bs':=b::g::kh::(z++E)) λx hx=>.inl (by simp only[aZ,dc]at hx⊢;rcases hx with hx | hx | hx | hx<;>simp[hx])).trans w λx hx=>.inl Rk).trans N λx hx=>.inl Ua,λx hx=>(dc.1 hx).elim (kB x) (o2 x)⟩,ng,nh,H,gB,F,J⟩
 have hc:=MY hc;obtain⟨q,A,a,z,S⟩:=O8 d.r [dU,fX,gn] (n:=3) (parts:=#[(0,ae (T dU)),(1,ae (T fX)),(2,ae (T gn))]) I I Z Z;refine⟨q,A,a,S.mono ?_⟩;rintro _ C ⟨rfl,x⟩;have v:=(d.q z).q x;have y:bR ts s [dU,fX,gn]<=3:=ahQ _;refine⟨_,I,λi=>?_,λi=>?_⟩
 .have i:=Qu i;have b:da ts n h s=(aM,n,h,s):=by unfold da;rw[W R0,i];rfl
  rw[b];exact⟨I,_,_,_,v⟩
 have i:=UU i;have H:=DG c.r i;have L:da ts n h s=(if Oe h (bR ts s [dU,fX,gn])then(aM,n,h,fH ts s)else if bR ts s [dU,fX,gn]=1 then(aF,{n with ini:=(dQ ts (bP s)).1},JN h 1,cA ts (dQ ts (bP s)).2 [59])else if bR ts s [dU,fX,gn]=2 then(aF,{n with en:=(ff ts (bP s)).1},JN h 2,(ff ts (bP s)).2)else(aF,{n with lv:=(ff ts (bP s)).1},JN h 3,(ff ts (bP s)).2)):=by
  unfold da;rw[W R0];rcases j3 i y with e | e | e<;>rw[e]<;>rfl
 rw[L];generalize bR ts s [dU,fX,gn]=E at*
 have X:(RP h)[E]? =Hg (ak (Oe h E)):=by rcases j3 i y with e | e | e<;>rw[e]<;>rfl
 have G:Oc ⟨kh,0,ZQ⟩ (E:Int) 4 1 ⟨kh,E,ZQ⟩:=⟨J,J,by rw[gW,aW];simp⟩
 refine⟨_,I,⟨kh,E,ZQ⟩,G,_,v.hb.at0 E X,λhh=>?_,λhh=>?_⟩
 .rw[K hh];refine(we v.r).mono ?_;rintro _ w ⟨rfl,h⟩;exact⟨I,I,_,_,_,v.nx h⟩
 rw[W Gn];refine⟨_,I,⟨kh,E,ZQ⟩,G,kh,E,_,_,I,v.hb,by show E+1<=4;omega,λdk Y nS=>?_⟩;have M:Cl F ts w dk b l g t j9 kh B s n (JN h E) en lv mv:=v.hd Y (by
  have e:eY (RP h) E [ak aF]=RP (JN h E):=by rcases j3 i y with e | e | e<;>rw[e]<;>rfl
  rwa[e]at nS)
 refine⟨_,Mn M.r.blk 1 I,b,1,_,_,I,M.r.blk,R,λdz Q V=>?_⟩;rw[c.r.wr]at V;have T:=M.nx (s':=bP s) ⟨Q,M.r.gN Q V H⟩;refine⟨λw'=>∃r7 r9 oe,Cl F ts w w' b l g t j9 kh B _ _ _ r7 r9 oe,λeF xi=>⟨by split<;>(try split)<;>rfl,xi⟩,λP=>?_,λP=>⟨λN=>?_,λN=>?_⟩⟩
 .have a:E=1:=by have:(E:Int)=1:=(by simpa using P);omega
  subst a;rw[K I];refine(zu T.r).mono ?_;rintro _ w ⟨rfl,l⟩;have c:=T.nx l;refine⟨_,I,_,I,g,_,_,_,I,c.nb,R,λF e B=>?_⟩;rw[oH]at B;have b:=c.st (n':={n with ini:=(dQ ts (bP s)).1}) e B ⟨c.no.en,c.no.lv,c.no.mv⟩;obtain⟨q,k,a,t,S⟩:=sV b.r [59];refine⟨q,k,a,S.mono ?_⟩;rintro _ iO ⟨rfl,h⟩;exact⟨I,_,_,_,(b.q t).nx h⟩
 .have a:E=2:=by have:(E:Int)=2:=(by simpa using N);omega
  subst a;rw[W Z,K I];refine(DF T.r).mono ?_;rintro _ w ⟨q,rfl,e,F⟩;have c:=T.nx F;refine⟨q,I,_,I,g,_,_,_,I,c.nb,R,λt l b=>?_⟩;rw[oH]at b;exact⟨_,_,_,c.st (n':={n with en:=(ff ts (bP s)).1}) l b (c.no.adO e T.lB λk h=>T.no.mv.new h)⟩
 have B:E≠1:=λe=>by rw[e]at P;simp at P
 have a:E=3:=by have:¬(E:Int)=2:=(by simpa using N);omega
 subst a;rw[W Z,W Z];refine(DF T.r).mono ?_;rintro _ li ⟨t,rfl,l,h⟩;have c:=T.nx h;refine⟨t,I,_,I,g,_,_,_,I,c.nb,R,λF w b=>?_⟩;rw[oH]at b;exact⟨_,_,_,c.st (n':={n with lv:=(ff ts (bP s)).1}) w b (c.no.adP l T.lB λk q=>T.no.mv.new q)⟩
end
section
variable {F:aK} {ts:X Tk} {w w' w2:aw} {b:Nat} {l:Sl} {s s':Sx}
def JO(j:Sr F ts w b l s) k:aA ar 74 #[rp b,O U k] w λe w'=>e=ao (ai (rz (cy ts k s).1.k (cy ts k s).1.nm [] [] Sl.nil Sl.nil Sl.nil Sl.nil (cy ts k s).1.a).toArray)/\Dn F ts w w' b l (cy ts k s).2:=by
 refine ret (akr ?_);intro n o q f d p m c;have t:=((j.zt.q c).ad f d).ad p m;have⟨ad,h,i⟩:=t.r.now;refine⟨λw'=>Zt F ts w w' b l (lu ts s) [o,n],λr a=>(zr a.r (k:=1) Z).mono ?_,l,Mn t.r.blk 0 I,_,Mn t.r.blk 1 I,ad,h,_,i.dx 0 _ I,λhc u P=>?_,λhc v g=>?_⟩
 .rintro _ w2 ⟨rfl,l⟩;refine⟨_,_,_,_,I,a.sc l R,λy B E T w z A s=>⟨λk=>k=y,I,λe=>s e,λe=>s e,λC D=>⟨I,?_⟩⟩⟩;have b:=(a.nx l).q w;exact⟨(b.z.go D λx hx=>.inr ph).o,b.r.own D λx hx=>b.lt ph⟩
 .have hc:=R0
  have e:=t.q P;rw[lu];rw[K hc];refine(afJ e.r).mono ?_;rintro _ w ⟨rfl,k⟩;have b:=e.nx k;refine⟨I,e.sc k R,_,Mn b.r.blk 6 I,λhd=>?_,λhd=>?_⟩
  .rw[K (by simpa using hd)];refine(Cm b.r 21).mono ?_;rintro _ s ⟨rfl,l⟩;exact⟨I,b.sc l R,b.nx l⟩
  rw[W (by simpa using hd)];exact b
 rw[lu];rw[W R0];exact t.q g
def adk(F:aK)(t:X Tk)(b:Nat)(l:Sl)(f:Nat)(d:Int):Prop:=∀k u w,Sr F t w b l u->u.d=d->aA ar 140 #[rp b,O U k] w λe w'=>∃c,e=ao (ai c.toArray)/\pv aF f w' (Fr w.heap.size) (fl t f k u).1 c/\Dn F t w w' b l (fl t f k u).2
def Ve{f}(h:0<f) w G:pv aF f w G Jz (rz 0 [] [] [] Sl.nil Sl.nil Sl.nil Sl.nil 0):=by
 obtain⟨m,rfl⟩:∃m,f=m+1:=⟨f-1,J⟩
 exact⟨_,_,_,_,I,⟨TG _ _ _ _ _ _,TG _ _ _ _ _ _,TG _ _ _ _ _ _⟩,TG _ _ _ _ _ _⟩
abbrev Yz(f B:Nat)(w:aw)(s:Sl)(x:X Nd):Prop:=Own (pv aF f) 9 28 B w (Fr B) s x
def agl{f B g t:Nat}{j9:aJ}{b:Nb}{en lv mv l2 l8}{acc}{x}{k}{m n d:S}{a b1 b2 b3}{at_}{k0}{Q:aw->Prop}{H:aK}
  (hx:pv aF f w H x (rz k m n d a b1 b2 b3 at_)) (D:∀i,H i->i<w.heap.size->Fr B i/\l8.a≠Hg ⟨i,0,ZQ⟩) (q:∀i,H i->B<=i) (s:Yz f B w l8 (acc++[Jz])) (W:l2.n=Z8 acc)
  (G:aG w g t (j9++rz b.k b.nm b.ini b.dft en lv mv l2 b.a)) (hg:g<B) (Y:k0<B) (A:k0≠g)
  (E:∀w',aG w' g t (j9++rz b.k b.nm b.ini b.dft en lv mv l8 b.a)->Yz f B w' l8 (acc++[x])->(∃c,B<=c/\az [g,c] w w')->Q w'):
  ∃u:Addr,cM l8 l2.n 9 u/\∃v,(Hg (⟨g,Z8 j9,ZQ⟩:Addr))=(Hg v)/\
   (∃e H:Nat,∃z2,∃Tn:Nat,u=⟨e,H,ZQ⟩/\aG w e Tn z2/\(H+9)<=Z8 z2/\k0≠e/\
    ∀V:aw,az [e] w V->aG V e Tn (eY z2 H [O U k,ae (T m),ae (T n),ae (T d),a.v,b1.v,b2.v,b3.v,O U at_])->∃LU QX:Nat,∃z3:aJ,∃am:Nat,(v.add 7)=⟨LU,QX,ZQ⟩/\
    aG V LU am z3/\(QX+1)<=Z8 z3/\k0≠LU/\∀j:aw,az [LU] V j->aG j LU am (eY z3 QX [l8.v])->Q j)/\
   ∃f,∃x,∃z4:aJ,∃t:Nat,(v.add 7)=⟨f,x,ZQ⟩/\aG w f t z4/\(x+1)<=Z8 z4/\k0≠f/\
    ∀z,az [f] w z->aG z f t (eY z4 x [l8.v])->∃YX,∃YY,∃z5:aJ,∃aC:Nat,u=⟨YX,YY,ZQ⟩/\
    aG z YX aC z5/\(YY+9)<=Z8 z5/\k0≠YX/\∀iU:aw,az [YX] z iU->aG iU YX aC (eY z5 YY [O U k,ae (T m),ae (T n),ae (T d),a.v,b1.v,b2.v,b3.v,O U at_])->Q iU:=by
 have l:l2.n<Z8 (acc++[Jz]):=RC
 have y:(acc++[Jz]).set l2.n x=acc++[x]:=by rw[W,sd _ _ (aX _),oV];rfl
 have⟨c,cells,C,L,M,N,P⟩:=Own.store (ck aF f) s l (vs:=rz k m n d a b1 b2 b3 at_) I hx D Z;have h:=(s.blk C).1;dsimp only at h;refine⟨_,L,_,I,⟨c,l2.n*9,cells,_,I,M,N,J,λV r p=>⟨g,Z8 j9+7,_,t,I,r.blk G Gs,R,A,λj F X=>?_⟩⟩,g,Z8 j9+7,_,t,I,G,R,A,λz K o=>?_⟩
 .rw[oH]at X;have a:=P V r p;rw[y]at a;exact E j X (a.stay (ck aF f) F λx hx=>.inl IG) ⟨c,h,(r.weaken (bs':=[g,c]) λx hx=>.inl Ua).trans F λx hx=>.inl Ua⟩
 rw[oH]at o;have aT:=s.stay (ck aF f) K λx hx=>.inl IG;have bv:=(ck aF f).keep ((ck aF f).inHeap hx) λi T l=>K.block i l (by have:=q i T.1;simp only[aV];omega);have⟨t,aS,w,c2,c3,c4,c5⟩:=Own.store (ck aF f) aT l (vs:=rz k m n d a b1 b2 b3 at_) I bv (λi T _=>D i T.1 T.2) Z;have e:t=c:=by
  rw[C]at w;injection w with w;injection w with w;omega
 subst e;refine⟨t,l2.n*9,aS,_,I,c3,c4,J,λiU iP XZ=>?_⟩;have H:=c5 iU iP XZ;rw[y]at H;exact E iU (iP.blk o Gs) H ⟨t,h,(K.weaken (bs':=[g,t]) λx hx=>.inl Ua).trans iP λx hx=>.inl Ua⟩
structure Kd (F:aK) (ts:List Tk) (w w':aw) (b:Nat) (l:Sl) (g t:Nat) (j9:aJ) (f B B2:Nat) (n:Nb) (en lv mv:Sl) (s:Sx) (acc:List Nd) (kids:Sl):Prop where
 r:Sr F ts w' b l s
 nb:aG w' g t (j9++rz n.k n.nm n.ini n.dft en lv mv kids n.a)
 no:Cg aF w' (λk=>B<=k/\k<B2) n en lv mv
 kd:Yz f B2 w' kids acc
 o:az [b,g] w w'
 lB:B2<=w'.heap.size
section
variable {g t:Nat} {j9:aJ} {f B B2:Nat} {n:Nb} {en lv mv kids:Sl} {acc:X Nd}
def Kd.nx(h:Kd F ts w w' b l g t j9 f B B2 n en lv mv s acc kids)(Q:g≠b)(c:b<B)(a:B<=B2)(k:Dn F ts w' w2 b l s'):Kd F ts w w2 b l g t j9 f B B2 n en lv mv s' acc kids:=
 ⟨k.r,k.o.blk h.nb C,h.no.keep λi d T=>k.o.block i T C,h.kd.stay (ck aF f) k.o λx hx=>.inl Vv,
  h.o.trans k.o λx hx=>.inl Vx,bp h.lB k.o.size⟩
end
end
section
variable {F:aK} {ts:X Tk} {w w' w2:aw} {b:Nat} {l:Sl} {s s':Sx}
structure Cl0 (F:aK) (ts:List Tk) (w w':aw) (b:Nat) (l:Sl) (g t:Nat) (j9:aJ) (kh B:Nat) (s:Sx) (n:Nb) (en lv mv:Sl):Prop where
 r:Sr F ts w' b l s
 nb:aG w' g t (j9++rz n.k n.nm n.ini n.dft en lv mv Sl.nil n.a)
 no:NbO B w' n en lv mv
 o:∃gs,az (b::g::kh::gs) w w'/\∀x,x∈gs->B<=x
 ng:g≠b/\¬F g
 nh:b<kh
 gh:g≠kh
 gB:g<B
 hB:kh<B
 lB:B<=w'.heap.size
section
variable {g t:Nat} {j9:aJ} {kh B:Nat} {n:Nb} {h:Ej} {en lv mv:Sl}
def Cl.c0(c:Cl F ts w w' b l g t j9 kh B s n h en lv mv):Cl0 F ts w w' b l g t j9 kh B s n en lv mv:=⟨c.r,c.nb,c.no,c.o,c.ng,c.nh,c.gh,c.gB,c.hB,c.lB⟩
def Cl0.cl(c:Cl0 F ts w w' b l g t j9 kh B s n en lv mv)(a:aG w' kh 211 (RP h)):Cl F ts w w' b l g t j9 kh B s n h en lv mv:=⟨c.r,c.nb,a,c.no,c.o,c.ng,c.nh,c.gh,c.gB,c.hB,c.lB⟩
def Cl0.nx(c:Cl0 F ts w w' b l g t j9 kh B s n en lv mv)(k:Dn F ts w' w2 b l s'):Cl0 F ts w w2 b l g t j9 kh B s' n en lv mv:=by
 have f:=c.ng;have i:=c.nh;have e:=c.hB;obtain⟨a,h,d⟩:=c.o;exact⟨k.r,k.o.blk c.nb C,c.no.go k.o λx hx=>Vv,
  ⟨a,h.trans k.o λx hx=>.inl Vx,d⟩,f,c.nh,c.gh,c.gB,c.hB,bp c.lB k.o.size⟩
def Cl0.q(c:Cl0 F ts w w' b l g t j9 kh B s n en lv mv)(k:az [] w' w2):Cl0 F ts w w2 b l g t j9 kh B s n en lv mv:=c.nx (c.r.dn.q k)
def Cl0.sc(c:Cl0 F ts w w' b l g t j9 kh B s n en lv mv)(k:Dn F ts w' w2 b l s'):cF [kh] w' w2:=k.o.same λx h=>by
 have:=c.nh;have:=c.hB;have:=c.lB;simp at h⊢;omega
def Cl0.sq(c:Cl0 F ts w w' b l g t j9 kh B s n en lv mv)(k:az [] w' w2):cF [kh] w' w2:=c.sc (c.r.dn.q k)
end
def DH n h s:(da ts n h s).2.1.mv.length<=Z8 n.mv+1:=by
 unfold da;split
 .dsimp only;rw[aP,bf];omega
 split
 .exact jP _
 .split<;>exact jP _
 .split<;>exact jP _
 split<;>exact jP _
def adZ{f:Nat}(o:Sr F ts w b l s){g t:Nat}{j9:aJ}{n:Nb}(Ix:n.en=[])(CB:n.lv=[])(qZ:n.mv=[])(hB:aG w g t (j9++rz n.k n.nm n.ini n.dft Sl.nil Sl.nil Sl.nil Sl.nil n.a))(hg:g≠b/\¬F g)(hd:rX s.d)(hN:s.fc=0->0<f/\adk F ts b l f (mZ s.d)):
  aA ar 77 #[rp b,ah (Hg ⟨g,Z8 j9,ZQ⟩)] w λe w'=>e=ao (aj #[])/\∃p,aG w' g t (j9++p)/\pv aF (f+1) w' (Fr w.heap.size) (jl ts (fl ts f) n s).1 p/\az [b,g] w w'/\Sr F ts w' b l (jl ts (fl ts f) n s).2:=by
 refine ret (aku ?_);intro i w0 fQ dL ch;have L:=o.zt.al ch fQ dL;have bv:=hB.lt;have aT:=o.lb;refine⟨_,Mn L.r.blk 6 I,b,6,_,_,I,L.r.blk,R,L.ne R,λS cp nf=>?_⟩;have Q:Zt F ts w S b l {s with d:=mZ s.d} [i]:=L.up cp nf o.lt;have aS:aG S g t (j9++rz n.k n.nm n.ini n.dft Sl.nil Sl.nil Sl.nil Sl.nil n.a):=cp.blk (ch.blk hB R) Gs;have M:=Q.z.o.size;have zk:=(Q.z.k i R).2;generalize Y:S.heap.size=B at*
 have aC:g<B:=J
 have c1:Cl0 F ts w S b l g t j9 i B {s with d:=mZ s.d} n Sl.nil Sl.nil Sl.nil:=⟨Q.r,aS,⟨by rw[Ix];exact TG _ _ _ _ _ _,by rw[CB];exact TG _ _ _ _ _ _,by rw[qZ];exact Vf _ _ _ _ _ _⟩,
  ⟨[],Q.z.o.weaken λx hx=>.inl Ua,λx hx=>Rg⟩,hg,J,J,aC,zk,ri Y.symm⟩
 have am:b<B:=J
 unfold jl;dsimp only;generalize hC:cW ts (Z8 ts+1) n ⟨aM,aM,aM⟩ {s with d:=mZ s.d}=C;have SK:On ts {s with d:=mZ s.d} C.2:=by rw[<-hC];exact mN o.en _ _ _ _
 refine⟨λm b0 b1 b2 b3 w'=>∃(j:Nb) (hd:Ej) (s':Sx) (c v mv:Sl),b0=aM/\b1=hd.i/\b2=hd.e/\b3=hd.l/\Cl0 F ts w w' b l g t j9 i B s' j c v mv/\cW ts m j hd s'=C/\mu ts s'<m/\Z8 j.mv+mu ts s'<=Z8 ts,Z8 ts+1,
  ⟨n,⟨aM,aM,aM⟩,_,_,_,_,I,I,I,I,c1,hC,jw (jL _ _),by rw[qZ,bE,bO];exact jL _ _⟩,?_⟩
 rintro m _ _ _ _ w2 ⟨j,N,s',c,v,mv,rfl,rfl,rfl,rfl,z,h,W3,Aa⟩;obtain⟨E,rfl⟩:∃E,m=E+1:=⟨m-1,J⟩
 rw[cW]at h;refine⟨λV b5 b6 b7 b8 w'=>(V=aF/\∃(j:Nb) (hd:Ej) (s':Sx) (c v mv:Sl),b5=aM/\b6=hd.i/\b7=hd.e/\b8=hd.l/\Cl0 F ts w w' b l g t j9 i B s' j c v mv/\cW ts E j hd s'=C/\mu ts s'<E/\Z8 j.mv+mu ts s'<=Z8 ts)∨
  (V=aM/\∃(c v mv:Sl),Cl0 F ts w w' b l g t j9 i B C.2 C.1 c v mv),?_,(pd z.r).mono ?_⟩
 rotate_left
 .rintro _ P ⟨rfl,w⟩;have a:=z.q w;refine⟨_,I,z.sq w,λhc k=>?_,λhc=>?_⟩
  .have hc:s'.fc=0:=R0
   rw[W (by simp[hc])]at h;have f:=jL ts s';have T:=z.r.lt;have A:0<mu ts s':=by unfold mu;rw[K hc];omega
   have q:=DH (ts:=ts) j N s';refine(pur (a.cl (h:=N) k) J).mono ?_;rintro _ l ⟨rfl,r,d,e,b⟩;refine⟨_,I,_,_,_,_,b.hb,?_⟩;cases n:(da ts j N s').1
   .rw[W (by rw[n];decide)]at h;refine .inr ⟨I,r,d,e,?_⟩;rw[<-h];exact b.c0
   rw[K n]at h;have s:=AF o.en j N hc T n;exact .inl ⟨I,_,_,_,_,_,_,I,I,I,I,b.c0,h,J,J⟩
  have hc:s'.fc≠0:=R0
  rw[K hc]at h;refine .inr ⟨I,c,v,mv,?_⟩;rw[<-h];exact a
 clear h W3 Aa z;rintro V b5 b6 b7 b8 w3 (⟨rfl,hh⟩ | ⟨rfl,c,v,mv,c3⟩)
 .exact⟨λ_=>⟨E,oW _,hh⟩,λhh=>ZB⟩
 refine⟨λhh=>ZB,λ_=>?_⟩;generalize C.1=n1 at*
 generalize C.2=s1 at*
 have eQ:B<=w3.heap.size:=c3.lB;have dO:Cg aF w3 (λk=>B<=k/\k<w3.heap.size) n1 c v mv:=
  ⟨(c3.no.en.inHeap (cN aF) Z).mono (cN aF) λk a=>⟨a.1.1,a.2⟩,(c3.no.lv.inHeap (cN aF) Z).mono (cN aF) λk a=>⟨a.1.1,a.2⟩,(c3.no.mv.sl (iL aF) λk a=>a).inHeap (iL aF) Z⟩
 obtain⟨f5,o3,el⟩:=c3.o;have o3:az [b,g] w w3:=o3.weaken λx hx=>by
  simp only[aZ]at hx;rcases hx with rfl | rfl | rfl | hx
  .exact .inl R
  .exact .inl R
  .exact .inr fQ
  exact .inr (bp M (el x hx))
 have k3:Kd F ts w w3 b l g t j9 f B w3.heap.size n1 c v mv s1 [] Sl.nil:=⟨c3.r,c3.nb,dO,Vf _ _ _ _ _ _,o3,aX _⟩
 generalize jY:w3.heap.size=B2 at*
 clear c3 dO o3 el hC;generalize hK:gw ts (fl ts f) (Z8 ts+1) [] s1=fd;have sk:∀{u u':aw} {x y:Sx},B2<=u.heap.size->Dn F ts u u' b l y->cF [i] u u':=λhz k=>k.o.same λx hx=>by
  simp only[aV]at hx⊢;omega
 have X2:∀{u u':aw} {x y:Sx} {bV:X Nd} {kids:Sl},Kd F ts w u b l g t j9 f B B2 n1 c v mv x bV kids->Dn F ts u u' b l y->Kd F ts w u' b l g t j9 f B B2 n1 c v mv y bV kids:=λa k=>a.nx hg.1 am eQ k;have go:∀{u:aw} {x:Sx} {bV:X Nd} {kids:Sl},Kd F ts w u b l g t j9 f B B2 n1 c v mv x bV kids->∃(q:Sl) (u2:aw),(av 37 4 #[.mk 0 (ae (aq #[115,116,97,116,101])),.mk 1 (ae (aq #[112,97,114,97,108,108,101,108])),.mk 2 (ae (aq #[104,105,115,116,111,114,121])),.mk 3 (ae (aq #[100,101,101,112]))]).run ar u=.ok q.v u2/\cF [i] u u2/\aA ar 138 #[rp b,q.v] u2 λe u3=>e=ao (O U (bR ts x gH:Nat))/\cF [i] u2 u3/\Kd F ts w u3 b l g t j9 f B B2 n1 c v mv x bV kids:=fun{u x bV kids} a=>by
  obtain⟨q,u2,e1,e,f⟩:=O8 a.r gH (n:=4) (parts:=#[(0,ae (T AA)),(1,ae (T qo)),(2,ae (T sQ)),(3,ae (T Fs))]) I I Z Z;have b:=X2 a (a.r.dn.q e);refine⟨q,u2,e1,sk (x:=x) a.lB (a.r.dn.q e),f.mono ?_⟩;rintro _ u3 ⟨rfl,d⟩;exact⟨I,sk (x:=x) b.lB (b.r.dn.q d),X2 b (b.r.dn.q d)⟩
 obtain⟨q,w4,e1,CD,co⟩:=go k3;refine⟨q,w4,e1,CD,co.mono ?_⟩;rintro _ w5 ⟨rfl,Lj,k5⟩;refine⟨_,I,Lj,λm i2 _ _ _ _ w'=>∃(s':Sx) (bV:X Nd) (kids:Sl),i2=((bR ts s' gH:Nat):Int)/\Kd F ts w w' b l g t j9 f B B2 n1 c v mv s' bV kids/\gw ts (fl ts f) m bV s'=fd/\mu ts s'<m/\Z8 bV+mu ts s'<=Z8 ts/\s'.d=mZ s.d/\(s'.fc=0->s.fc=0),Z8 ts+1,
  ⟨s1,[],Sl.nil,I,k5,hK,jw (jL _ _),MM,SK.d,λe=>(SK.le e).1⟩,?_⟩
 clear Lj k5 co CD e1 k3 hK;rintro m _ b9 QW Sw Sy w6 ⟨s',bV,kids,rfl,k6,h,W3,Aa,bY,cC⟩;obtain⟨m',rfl⟩:∃m',m=m'+1:=⟨m-1,J⟩
 rw[gw]at h;have cc:i≠b:=L.ne R;have ce:i≠g:=J
 refine⟨λhc=>?_,λhc=>?_⟩
 .have hc:=MZ hc;rw[W hc]at h;obtain⟨xB,mo⟩:=cP hc;obtain⟨gT,gG⟩:=hN (cC xB);have T:=k6.r.lt;refine⟨_,Mn k6.r.blk 1 I,b,1,_,_,I,k6.r.blk,R,cc,λw7 ga Q5=>?_⟩;rw[k6.r.wr]at Q5;have k7:=X2 k6 (y:=bP s') ⟨ga,k6.r.gN ga Q5 (DG k6.r hc)⟩;have vB:=o.sm;have g8:=jL ts s';have C:=uw o.en f (bR ts s' gH:Nat) (bP s') (by show rX s'.d;rw[bY];exact rM _);have Lm:=pb o.en xB T mo C.toOn0;generalize bR ts s' gH=kk at*
  generalize gO:fl ts f (kk:Int) (bP s')=a at*
  have ge:a.2.d=mZ s.d:=C.d.trans bY;have gE:a.2.fc=0->s.fc=0:=λe=>cC (C.le e).1;refine⟨λ_ _ _ _ w'=>∃n,Kd F ts w w' b l g t j9 f B B2 n1 c v mv a.2 (bV++[a.1]) n,λSz g9 ip iD w8 h8=>?_,λd dl=>?_⟩
  .obtain⟨n,k⟩:=h8;obtain⟨q,w,e1,s,b⟩:=go k;refine⟨q,w,e1,s,b.mono ?_⟩;rintro _ f ⟨rfl,e,r⟩;exact⟨_,I,e,m',oW _,_,_,_,I,r,h,J,RC,ge,gE⟩
  have pM:=X2 k7 (k7.r.dn.q dl);have CA:=pM.lB;have yr:∀{u:aw},Sr F ts u b l (bP s')->aA ar 140 #[rp b,O U (kk:Int)] u λe w'=>∃p,e=ao (ai p.toArray)/\pv aF f w' (Fr u.heap.size) a.1 p/\Dn F ts u w' b l a.2:=λhu=>by
   have:=gG (kk:Int) (bP s') _ hu bY;rw[gO]at this;exact this
  have Gc:∀{u u':aw} {bs:X Nat},az bs u u'->(∀x,x∈bs->x≠g)->cj (λk=>k=g) u u':=λhO hb k q T=>by subst q;exact hO.block k T λs=>hb k s I
  have zc:Value.cells (ai (rz 0 [] [] [] Sl.nil Sl.nil Sl.nil Sl.nil 0).toArray)=(rz 0 [] [] [] Sl.nil Sl.nil Sl.nil Sl.nil 0).toArray:=I;have hz:∀(u:aw),∃(y:Sl) (u2:aw),(av 26 1 #[.mk 0 (ai (rz 0 [] [] [] Sl.nil Sl.nil Sl.nil Sl.nil 0).toArray)]).run ar u=.ok y.v u2/\Own (pv aF f) 9 28 u.heap.size u2 (λ_=>False) y [Jz]/\az [] u u2:=λu=>by
   obtain⟨y,u2,b,k,l,_⟩:=kD (P:=ar) (t:=26) (e:=28) (i:=Tryz.t28) (w:=u) (F:=λ_=>False) (r:=pv aF f) (size:=9) (vs:=[ai (rz 0 [] [] [] Sl.nil Sl.nil Sl.nil Sl.nil 0).toArray]) (xs:=[Jz]) (len:=1) (parts:=#[(0,ai (rz 0 [] [] [] Sl.nil Sl.nil Sl.nil Sl.nil 0).toArray)]) D D I I Z I I Z Z (ck aF f) ⟨⟨I,Ve gT _ _⟩,trivial⟩;exact⟨y,u2,b,k,l⟩
  have iS:∀{u:aw} {y:Sl} {A:Nat},B2<=A->Yz f B2 u kids bV->(∀k,A<=k->kids.a≠Hg ⟨k,0,ZQ⟩)->aB (pv aF f) 9 u (Fr A) y [Jz]->A<=u.heap.size->∃(s8:Sl) (u2:aw),(Builtin.append_ #[26,26] 26 #[kids.v,y.v]).run ar u=.ok s8.v u2/\Yz f B2 u2 s8 (bV++[Jz])/\(∃gs,az gs u u2/\∀x,x∈gs->B2<=x/\x<A)/\(∀k,A<=k->k<u.heap.size->s8.a≠Hg ⟨k,0,ZQ⟩):=fun{u y A} hA ho q hy hAu=>by
   obtain⟨s8,u2,u,w,gs,A,l,b⟩:=tZ (P:=ar) (t:=26) (ty:=26) (e:=28) (i:=Tryz.t28) (bytes:=160) (size:=9) (y:=y) (ys:=[Jz]) D D I I I I (ck aF f) ho (hy.mono (ck aF f) λk r=>⟨bp hA r,q k r⟩) (bp hA hAu) Vm Z;refine⟨s8,u2,u,w,⟨gs,A,λx hx=>⟨(l x hx).2.1,?_⟩⟩,λk h1 h2=>?_⟩
   .exact Nat.lt_of_not_le λy=>q x y (l x hx).1
   rcases b with b | b
   .rw[b];exact q k h1
   rw[b];intro e;injection e with e;injection e with e;omega
  have iN:∀{u:aw} {s8:Sl},Sr F ts u b l a.2->aG u g t (j9++rz n1.k n1.nm n1.ini n1.dft c v mv kids n1.a)->Cg aF u (λk=>B<=k/\k<B2) n1 c v mv->az [b,g] w u->B2<=u.heap.size->Yz f B2 u s8 (bV++[Jz])->∀w',aG w' g t (j9++rz n1.k n1.nm n1.ini n1.dft c v mv s8 n1.a)->Yz f B2 w' s8 (bV++[a.1])->(∃gk,B2<=gk/\az [g,gk] u w')->∃n,Kd F ts w w' b l g t j9 f B B2 n1 c v mv a.2 (bV++[a.1]) n:=λhr vg lE ho hz _ w' h1 h2 ⟨gk,h3,h4⟩=>
   ⟨_,hr.W2 h4 λx hx=>(by
    simp only[aZ,bB,cE]at hx;rcases hx with rfl | rfl
    .exact hg
    .exact hr.gt J),h1,lE.keep λiF b T=>h4.block iF T KF,h2,ho.trans h4 λx hx=>by
    simp only[aZ,bB,cE]at hx⊢;omega,bp hz h4.size⟩
  refine⟨λk=>k=g,_,I,I,kids,pM.nb.at0 (Z8 j9+7) (Pb I),(yr pM.r).mono ?_,?_⟩
  .rintro _ eF ⟨p,rfl,hx,r⟩;have t:=X2 pM r;have yx:=hx;obtain⟨f',rfl⟩:∃f',f=f'+1:=⟨f-1,J⟩
   obtain⟨xe,xl,xm,xk,rfl,_⟩:=yx;obtain⟨y,eM,e2,hy,F⟩:=hz eF;have b:=X2 t (t.r.dn.q F);obtain⟨s8,fR,e3,P,⟨gs,e,qT⟩,w⟩:=iS (u:=eM) (y:=y) (A:=d.heap.size) CA b.kd (λk q=>pM.kd.new q) ((hy.slice (ck aF _)).mono (ck aF _) λk q=>(by
    rcases q with q | q
    .exact q.elim
    exact bp r.o.size q.1)) (bp r.o.size F.size)
   have l:∀x,x∈gs->x≠g:=λx hx=>yJ
   have G:=e.size;have Tu:=b.lB;have lT:=r.o.size;refine⟨_,_,_,_,xe,xl,xm,xk,_,I,sk (x:=s') pM.lB r,Gc r.o Gs,y,eM,e2,sk (x:=s') t.lB (t.r.dn.q F),Gc F R,s8,fR,e3,e.same (λx hx=>?_),Gc e l,?_⟩
   .simp only[aV]at hx;subst hx;exact⟨J,λs=>by have:=(qT x s).1;omega⟩
   refine agl (H:=λk=>d.heap.size<=k/\k<eF.heap.size) (acc:=bV) ?_ (λk q _=>⟨bp CA q.1,w k q.1 (cD q.2 F.size)⟩) (λk q=>bp CA q.1) P pM.kd.len (e.blk b.nb λs=>l g s I) J J ce (iN (b.r.own e λx hx=>yJ) (e.blk b.nb λs=>l g s I) (b.no.keep λiF f T=>e.block iF T λs=>(by have:=(qT iF s).1;omega)) (b.o.trans e λx hx=>.inr (by have:=(qT x hx).1;have:=pM.o.size;omega)) (bp Tu G) P);refine(ck aF _).keep ((ck aF _).inHeap hx) λk q T=>?_;exact(e.block k (cD T F.size) λs=>by have:=(qT k s).2;have:=q.1;omega).trans (F.block k T R)
  obtain⟨y,li,e2,hy,r⟩:=hz d;have t:=X2 pM (pM.r.dn.q r);refine⟨y,li,e2,sk (x:=s') pM.lB (pM.r.dn.q r),Gc r R,(yr t.r).mono ?_⟩;rintro _ jN ⟨p,rfl,hx,w⟩;have e:=X2 t w;have yx:=hx;obtain⟨f',rfl⟩:∃f',f=f'+1:=⟨f-1,J⟩
  obtain⟨xe,xl,xm,xk,rfl,_⟩:=yx;have F:=(((hy.slice (ck aF _)).inHeap (ck aF _) Z).keep (ck aF _) Z (w':=jN) λk q T=>w.o.block k T (by
   rcases q.1 with q | q
   .exact q.elim
   .have:=q.1;simp only[aV];omega)).mono (ck aF _) (G:=Fr d.heap.size) λk q=>(by
   rcases q.1 with q | q
   .exact q.elim
   exact q.1)
  obtain⟨s8,mD,e3,X4,⟨gs,b,qT⟩,P⟩:=iS (u:=jN) (y:=y) (A:=d.heap.size) CA e.kd (λk q=>pM.kd.new q) F (bp r.size w.o.size);have l:∀x,x∈gs->x≠g:=λx hx=>yJ
  have mK:=b.size;have mt:=e.lB;have nO:=r.size;refine⟨_,_,_,_,xe,xl,xm,xk,_,I,sk (x:=s') t.lB w,Gc w.o Gs,s8,mD,e3,b.same (λx hx=>?_),Gc b l,?_⟩
  .simp only[aV]at hx;subst hx;exact⟨J,λs=>by have:=(qT x s).1;omega⟩
  refine agl (H:=λk=>li.heap.size<=k/\k<jN.heap.size) (acc:=bV) ?_ (λk q _=>⟨by show B2<=k;omega,P k J q.2⟩) (λk q=>J) X4 pM.kd.len (b.blk e.nb λs=>l g s I) J J ce (iN (e.r.own b λx hx=>yJ) (b.blk e.nb λs=>l g s I) (e.no.keep λiF f T=>b.block iF T λs=>(by have:=(qT iF s).1;omega)) (e.o.trans b λx hx=>.inr (by have:=(qT x hx).1;have:=pM.o.size;omega)) (bp mt mK) X4);refine(ck aF _).keep ((ck aF _).inHeap hx) λk q T=>?_;exact b.block k T λs=>by have:=(qT k s).2;have:=q.1;omega
 have hc:=MY hc;rw[K hc]at h;refine⟨_,Mn k6.r.blk 6 I,b,6,_,_,I,k6.r.blk,R,cc,λw n u=>?_⟩;have T:=X2 k6 (y:={s' with d:=Ep s'.d}) ⟨n,k6.r.gN n u k6.r.lt⟩;obtain⟨q,s,e1,t,r⟩:=sV T.r [125];have l:=X2 T (T.r.dn.q t);refine⟨q,s,e1,sk (x:=s') T.lB (T.r.dn.q t),r.mono ?_⟩;rintro _ A ⟨rfl,e⟩;have a:=X2 l e;refine⟨I,sk (x:=s') l.lB e,I,_,a.nb,?_,a.o,?_⟩
 .rw[<-h];refine⟨c,v,mv,kids,I,a.no.mono λk b=>bp M b.1,(a.kd.sl (ck aF f) λk b=>b).low (ck aF f) J⟩
 rw[<-h];exact a.r
end
end Go.Proofs.YtccbiehilmhodaaGreatDoor.Con
