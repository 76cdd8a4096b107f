import Derived.Test.YtfemabakfkliiaaGreatDoorQg9
set_option linter.defProp false
set_option linter.unusedSectionVars false
set_option linter.unusedSimpArgs false
set_option linter.unusedVariables false
set_option maxHeartbeats 4000000
set_option maxRecDepth 100000
open Bool renaming true->L,false->aL
open Option renaming some->aM,none->aaf
open List renaming length->I
open Go.Value renaming int->O,string->K,pointer->ae,agg->ah,tuple->ai,bool->aj
open Go.IntKind renaming i64->U,wrap->ar
open Go.Ending renaming returned->ak
open _root_.ByteArray renaming mk->ao
open _root_.Go.Proofs.Tryz renaming prog->Q
open Go.Instr renaming buildSlice->au
open Go renaming World->M,Value->aw,Calls->az
open Go.Kt renaming Only->Z,SliceF->aA,Cells->aB,OnlyP->aD,Blk->aF
namespace Go.Proofs.YtfemabakfkliiaaGreatDoor.Con
open Go Go.RowKit Go.Kt Go.Kt.V Go.Proofs.YtfemabakfkliiaaGreatDoor.Vc
section
def KT(w:M)(k:Int):az Q 27 #[O U k] w λe a=>e=ak (aj (IC k))/\a=w:=by
 refine ret (akg _ ?_);exact⟨rfl,rfl⟩
def Wo{m:Nat}(h:m<2 ^ 64)(n:Int):Tp m n<2 ^ 64:=Nat.or_lt_two_pow h (wT n)
def Nr(x:List dN)(i:Nat):∀n,LW x i n<2 ^ 64
 | 0=>Nat.pow_pos X
 | n+1=>by
  unfold LW;split
  ·exact Wo (Nr x i n) _
  exact Nr x i n
def Ns(x:List dN)(i:Nat):∀n,Ql x i n<2 ^ 64
 | 0=>Nat.pow_pos X
 | n+1=>by
  unfold Ql;split
  ·exact Wo (Ns x i n) _
  exact Ns x i n
def Wp(x:List dN)(a:Nat):∀(l:List Mv) (i j:Nat),(zT x a i l)[j]? =(l[j]?).map λm=>Qh x a (i+j) m
 | [],i,j=>by rw[zT];rfl
 | m::l,i,0=>by rw[zT];rfl
 | m::l,i,j+1=>by
  rw[zT,cO,cO,Wp x a l];congr 1;funext m;congr 1;omega
def Wq{w b:M}{a:Addr}{v:aw}{c:aI}(h:aB w a (v::c))(d:Z [] w b):aB b a (v::c):=h.keep (d.block _ (by
 have:=h 0 v rfl;unfold World.cell? at this;refine bT λn=>?_;rw[show(a.add 0).block=a.block from rfl,fI J]at this;cases this) aaV)
section
variable {w u:M} {F:aJ} {sn sv su sc se s si sd sr:Sl} {b:Nat} {nm:List (aH)} {ce:List Ce} {ed:List Nat} {p:Pl}
structure Two (w:M) (b:Nat) (sn sc:Sl) (nm:List (aH)) (ce:List Ce) (x:aH) (y:Ce) (Ea AR:Sl) (u:M):Prop where
 n:Own ke 1 9 (b+1) u (λ_=>False) Ea (nm++[x])
 c:Own Nq 11 65 (b+1) u (λ_=>False) AR (ce++[y])
 o:aD (λk=>fE sn k∨fE sc k) w u
 n1:∀k,fE Ea k->fE sn k∨w.heap.size<=k
 c1:∀k,fE AR k->fE sc k∨w.heap.size<=k
 ap:∀k,fE Ea k->¬fE AR k
def aa9(u:M)(x:aH):∃y w,(au 32 1 #[.mk 0 (K (T x))]).run Q u=.ok (Sl.v y) w/\Z [] u w/\aA ke 1 w (λk=>u.heap.size<=k/\k<w.heap.size) y [x]:=
 aa8 (e:=9) (i:=Tryz.t9) (z:=K (ao #[])) aaz aaz rfl rfl X X cY rfl rfl
def af8(u:M)(x:Ce)(l m:Sl):∃y w,(au 34 1 #[.mk 0 (ah #[O U x.k,O U x.pa,.int .u64 (x.up:Nat),.int .u64 (x.dn:Nat),.int .u64 (x.rg:Nat),O U x.ini,O U x.dft,l.v,m.v,O U (x.f0:Nat),O U (x.f1:Nat)])]).run Q u=.ok (Sl.v y) w/\Z [] u w/\aA Nq 11 w (λk=>u.heap.size<=k/\k<w.heap.size) y [x]:=
 aa8 (e:=65) (i:=Tryz.t65) aaz aaz rfl rfl X X lp rfl ⟨l,m,rfl⟩
def asm{A:Nat}{u:M}{s y:Sl}{b:List (aH)}{x:aH}(h:Own ke 1 9 A u (λ_=>False) s b)(c:A<=u.heap.size){G:aJ}(e:aA ke 1 u G y [x])(d:∀k,G k->¬fE s k)(m:I b<=1000):
  ∃a w,(Builtin.append_ #[32,32] 32 #[Sl.v s,Sl.v y]).run Q u=.ok (Sl.v a) w/\Own ke 1 9 A w (λ_=>False) a (b++[x])/\aD (fE s) u w/\∀k,fE a k->fE s k∨u.heap.size<=k:=
 Wk (i:=Tryz.t9) (bytes:=16) aaz aaz rfl rfl rfl rfl X cY KS h c e d J
def asn{A:Nat}{u:M}{s y:Sl}{b:List Ce}{x:Ce}(h:Own Nq 11 65 A u (λ_=>False) s b)(c:A<=u.heap.size){G:aJ}(e:aA Nq 11 u G y [x])(d:∀k,G k->¬fE s k)(m:I b<=1000):
  ∃a w,(Builtin.append_ #[34,34] 34 #[Sl.v s,Sl.v y]).run Q u=.ok (Sl.v a) w/\Own Nq 11 65 A w (λ_=>False) a (b++[x])/\aD (fE s) u w/\∀k,fE a k->fE s k∨u.heap.size<=k:=
 Wk (i:=Tryz.t65) (bytes:=120) aaz aaz rfl rfl rfl rfl X lp Wm h c e d J
def aso(u:M)(v:aI)(x:Nat)(a:I v=16)(h:Wl u (λ_=>False) x v):∃y w,(au 35 1 #[.mk 0 (ah v.toArray)]).run Q u=.ok (Sl.v y) w/\Z [] u w/\aA Wl 16 w (λk=>u.heap.size<=k/\k<w.heap.size) y [x]:=
 aa8 (e:=70) (i:=Tryz.t70) aaz aaz rfl rfl X X uz a h
def asp{A:Nat}{u:M}{s y:Sl}{b:List Nat}{x:Nat}(h:Own Wl 16 70 A u (λ_=>False) s b)(c:A<=u.heap.size){G:aJ}(e:aA Wl 16 u G y [x])(d:∀k,G k->¬fE s k)(m:I b<=100000000):
  ∃a w,(Builtin.append_ #[35,35] 35 #[Sl.v s,Sl.v y]).run Q u=.ok (Sl.v a) w/\Own Wl 16 70 A w (λ_=>False) a (b++[x])/\aD (fE s) u w/\∀k,fE a k->fE s k∨u.heap.size<=k:=
 Wk (i:=Tryz.t70) (bytes:=192) aaz aaz rfl rfl rfl rfl X uz Wn h c e d J
def Ma.seq(h:Ma w b F sn sv su sc se s si sd sr nm ce ed p){f:M}(o:Z [] w f){z:Sl}{x:aH}{n:aJ}(i:aA ke 1 f n z [x])(B:∀k,n k->w.heap.size<=k)(C:I nm<=1000)(R:I ce<=1000):
  ∃E u,(Builtin.append_ #[32,32] 32 #[Sl.v sn,Sl.v z]).run Q f=.ok (Sl.v E) u/\aD (fE sn) f u/\∀{c:M},Z [] u c->∀{m:Sl} {y:Ce} {g:aJ},aA Nq 11 c g m [y]->(∀k,g k->w.heap.size<=k)->
   ∃A d,(Builtin.append_ #[34,34] 34 #[Sl.v sc,Sl.v m]).run Q c=.ok (Sl.v A) d/\aD (fE sc) c d/\Two w b sn sc nm ce x y E A d:=by
 have W:=h.lt;have S:=o.size;have q:=h.o0 o;obtain⟨E,u,H,v,r,j⟩:=asm q.n J i (λk hk e=>by have:=h.bn k e;have:=B k hk;omega) C;have T:=r.size;refine⟨E,u,H,r,fun{c} o2 {m y g} hy2 g2=>?_⟩;have V:=o2.size;have D:Own Nq 11 65 (b+1) u (λ_=>False) sc ce:=q.c.keep lp λk hk W=>r.block k W λe=>(h.ap k e).1 (hk.resolve_left id).2;obtain⟨A,d,N,P,t,l⟩:=asn (D.keep lp λk hk W=>o2.block k W aaV) J hy2 (λk hk e=>by have:=h.bc k e;have:=g2 k hk;omega) R;refine⟨A,d,N,t,(v.keep cY λk hk W=>o2.block k W aaV).keep cY λk hk W=>t.block k W λe=>?_,P,?_,λk e=>(j k e).imp id λh=>J,λk e=>(l k e).imp id λh=>J,λk e a=>?_⟩
 ·rcases j k (hk.resolve_left id).2 with a | a
  ·exact(h.ap k a).1 e
  have:=h.bc k e;omega
 ·exact((o.oQ (r.mono (G:=λk=>fE sn k∨fE sc k) λk _ e=>.inl e)).cn o2).trans (t.mono (G:=λk=>fE sn k∨fE sc k) λk _ e=>.inr e) λk e=>.inl e
 have s:=(v.blk e).2;dsimp only at s;rcases j k e with b | b
 ·rcases l k a with e | e
  ·exact(h.ap k b).1 e
  have:=h.bn k b;omega
 rcases l k a with e | e
 ·have:=h.bc k e;omega
 omega
def Ma.two(h:Ma w b F sn sv su sc se s si sd sr nm ce ed p){x:aH}{y:Ce}{E A:Sl}(t:Two w b sn sc nm ce x y E A u):
  aF u b 74 [sn.v,sv.v,su.v,sc.v,se.v,s.v,si.v,sd.v,sr.v]/\∀f,Z [b] u f->aF f b 74 [E.v,sv.v,su.v,sc.v,se.v,s.v,si.v,sd.v,sr.v]->∀a,Z [b] f a->aF a b 74 [E.v,sv.v,su.v,A.v,se.v,s.v,si.v,sd.v,sr.v]->
   Ma a b F E sv su A se s si sd sr (nm++[x]) (ce++[y]) ed p/\uY b (Q3 sn sc se) w (Q3 E A se) a:=by
 have W:=h.lt;refine⟨t.o.blk h.blk λe=>e.elim (λe=>by have:=h.bn b e;omega) λe=>by have:=h.bc b e;omega,λf c j a R n=>?_⟩;have z:=t.o.size;have l:=c.size;have m:=R.size;have q:∀k,Q3 E A se k->Q3 sn sc se k∨w.heap.size<=k:=λk hk=>by
  rcases hk with hk | hk | hk
  ·exact(t.n1 k hk).imp .inl id
  ·exact(t.c1 k hk).imp (λh=>.inr (.inl h)) id
  exact .inl (.inr (.inr hk))
 have kp:∀k,k<w.heap.size->k≠b->¬Q3 sn sc se k->a.heap[k]? =w.heap[k]? :=λk g h2 i=>by
  rw[R.block k J acO,c.block k J acO,t.o.block k g λe=>i (e.imp id .inl)]
 refine⟨h.fin J kp (wh cY (wh cY t.n c) R) (wh lp (wh lp t.c c) R) (h.e.keep uz λk hk W=>?_) q (λk e=>⟨t.ap k e,λd=>?_⟩) (λk e d=>?_) n,⟨((t.o.mono (G:=λk=>k=b∨Q3 sn sc se k) λk _ e=>.inr (e.imp id .inl)).trans (c.p (F:=λk=>k=b) aaV) λk hk=>.inl (.inl hk)).trans (R.p (F:=λk=>k=b) aaV) λk hk=>.inl (.inl hk),q⟩⟩
 ·have hk:=hk.resolve_left id;rw[R.block k J aba,c.block k J aba,t.o.block k W λe=>e.elim (λe=>(h.ap k e).2 hk.2) λe=>h.ap2 k e hk.2]
 ·rcases t.n1 k e with e | e
  ·exact(h.ap k e).2 d
  have:=h.be k d;omega
 rcases t.c1 k e with e | e
 ·exact h.ap2 k e d
 have:=h.be k d;omega
end
def rU.head{s:List dN}{a:Nat}{p d:Int}{b:Nb}{k:List Nd}(h:rU s (Bt a p d (.mk b k)) a):s[a]? =aM ⟨b.k,b.nm,p,d,((a+1+dx k:Nat):Int)⟩/\rU s (qE (a+1) a (d+1) k) (a+1):=by
 unfold rU at h⊢;rw[Bt]at h;exact⟨h 0 _ rfl,λi x c=>by rw[dB,fV 1 i];exact h (i+1) x c⟩
def rU.kid{s:List dN}{p d:Int}:∀{k:List Nd} {a:Nat} {j:Nat} {y:Nd},rU s (qE a p d k) a->k[j]? =aM y->rU s (Bt (a+dx (k.take j)) p d y) (a+dx (k.take j))
 | [],_,_,_,_,h=>abS
 | x::k,a,0,y,h,b=>by
  rw[cw,bN]at b;subst b;rw[qE]at h;rw[ci,dx,eE];exact h.left
 | x::k,a,j+1,y,h,b=>by
  rw[cO]at b;rw[qE]at h;have:=h.right;rw[lz]at this;have:=rU.kid this b;rw[eJ,dx,<-dB];exact this
def KU{s:List dN}:∀{k:List Nd} {a:Nat} {j:Nat} {y:Nd},k[j]? =aM y->∀{i:Nat} {r:Ro},(FH s (a+dx (k.take j)) y)[i]? =aM r->(nt s a k)[uy (k.take j)+i]? =aM r
 | [],_,_,_,h,_,_,_=>abS
 | x::k,a,0,y,b,i,r,h=>by
  rw[cw,bN]at b;subst b;rw[ci,dx,eE]at h;rw[ci,uy,bS,nt,bX (bf.1 h).1];exact h
 | x::k,a,j+1,y,b,i,r,h=>by
  rw[cO]at b;rw[eJ,dx,<-dB]at h;have:=KU b h;have l:=Qs s x a;rw[eJ,uy,nt,cd J,l];rw[show YY x+uy (k.take j)+i-YY x=uy (k.take j)+i by omega];exact this
mutual
def af9:∀x:Nd,YY x<=lf x
 | .mk b l=>by
  have:=HS l;have:=kR b.mv;rw[YY,lf];unfold wO;omega
def HS:∀l:List Nd,uy l<=iZ l
 | []=>bm _
 | x::l=>by
  have:=af9 x;have:=HS l;rw[uy,iZ];omega
end
section
variable {b:Nat} {F:aJ} {sv su s si sd sr:Sl} {p:Pl}
def adL(m:Fo p.sp)(A:I p.sp<=64)(E:I p.ini=I p.sp)(H:I p.dft=I p.sp):∀(D:Nat) {w:M} {G:aJ} {x:Nd} {z:aI} {n sc l:Sl} {o:List (aH)} {g:List Ce} {h:List Nat} {pa dp:Int},
  mz aL D w G x z->(∀k,G k->k<b)->Ma w b F n sv su sc l s si sd sr o g h p->lf x<=8388608->rU p.sp (Bt (I g) pa dp x) (I g)->(∀j u,(FH p.sp (I g) x)[j]? =aM u->p.ro[I h+j]? =aM u)->
  (∀i c,g[i]? =aM c->c.up=HJ p.sp i/\c.dn=dnK p.sp i)->I o=(I g)->I h+lf x<=16777216->
  az Q 19 #[ae (aM ⟨b,0,aaf⟩),ah z.toArray] w λe C=>e=ak (ai #[])/\∃r R B,Ma C b F r sv su R B s si sd sr (o++(DJ x).map λc=>c.nm) (g++Ts p (I g) (I h) x) (h++(FH p.sp (I g) x).map (Qr p.sp)) p/\uY b (Q3 n sc l) w (Q3 r R B) C
 | 0,_,_,_,_,_,_,_,_,_,_,_,_,a,_,_,_,_,_,_,_,_=>a.elim
 | D+1,w,G,.mk N V,z,n,sc,l,o,g,h,pa,dp,⟨en,lv,mv,kids,ix,⟨IT,Co,oS⟩,fT⟩,hG,hM,hz,fd,cc,aT,gO,f8=>by
  have hk:=fT.1;have oS:=oS.1;have IT:=IT.1;have Co:=Co.1;clear fT;dsimp only[Nd.kids,Nd.b]at hk ix oS IT Co;subst ix;rw[lf]at hz f8;have ET:=hk.len;have Es:=oS.len;have gT:=nQ V;have wo:=kR N.mv;have iD:(jF N.en+jF N.lv)+wa N.mv<=wO N:=agP
  obtain⟨hx,eQ⟩:=fd.head;have TR:=iw hx;have gE:=m.up _ _ hx;have ip:I g+1+dx V<=I p.sp:=by have:=gE.2;dsimp only at this;omega
  refine ret (aj9 _ _ _ _ _ _ _ _ _ _ ?_);intro k0 w0 fT dZ cD;have z0:=cD.size;have EJ:=hM.lt;have hq:=hM.q3;have Y:=hM.o0 cD;have dO:sc.n=I g:=hM.c.len;have f7:l.n=I h:=hM.e.len;obtain⟨ad,a1,a2,_⟩:=jQ Y.pl.sp hx;refine⟨sc,Blk.dM Y.blk 3 rfl,?_⟩;dsimp only;rw[dO];refine⟨s,Blk.dM Y.blk 5 rfl,ad,a1,_,_,_,_,_,a2,λk1 w1 mA jS cE=>⟨λ_=>True,trivial,trivial,λw2 cR=>⟨trivial,?_⟩⟩⟩;have z1:=cE.size;have z2:=cR.size;have o2:=cE.cn cR;have aS:=Y.o0 o2;obtain⟨iv,bY⟩:∃iv,p.ini[I g]? =aM iv:=⟨_,bh J⟩
  obtain⟨dv,bV⟩:∃dv,p.dft[I g]? =aM dv:=⟨_,bh J⟩
  obtain⟨cC,b1,b2⟩:=rV aS.pl.ini bY;refine⟨si,Blk.dM aS.blk 6 rfl,cC,b1,λw3 di=>⟨trivial,iv,Wq b2 di,λw4 dW=>⟨trivial,?_⟩⟩⟩;have o4:=(o2.cn di).cn dW;have Zz:=Y.o0 o4;obtain⟨xf,W,c2⟩:=rV Zz.pl.dft bV;refine⟨sd,Blk.dM Zz.blk 7 rfl,xf,W,λw5 eW=>⟨trivial,dv,Wq c2 eW,trivial,trivial,λw6 dY=>⟨trivial,l,Blk.dM ((Zz.o0 eW).o0 dY).blk 4 rfl,?_⟩⟩⟩;dsimp only;rw[f7,Es];intro w7 gq;have o7:=((o4.cn eW).cn dY).cn gq;have z7:=o7.size;have q7:w1.heap.size<=w7.heap.size:=by have:=di.size;have:=dW.size;have:=eW.size;have:=dY.size;have:=gq.size;omega
  refine(HR (SliceF.only (dy aL) X IT (cD.cn o7) aaV) J).mono ?_;rintro _ w8 ⟨⟨t1,rfl⟩,fy⟩;have z8:=fy.size;refine⟨t1,rfl,fy.same aba,lw.Bg fy,bR.only fy,λw9 gp=>?_⟩;have z9:=gp.size;have o9:=(o7.cn fy).cn gp;refine(HR (SliceF.only (dy aL) X Co (cD.cn o9) aaV) J).mono ?_;rintro _ dA ⟨⟨t2,rfl⟩,dR⟩;have LA:=dR.size;refine⟨t2,rfl,dR.same aba,lw.Bg dR,bR.only dR,λdL eh k2 qF rn _ ez eM=>?_⟩;have Cj:=eh.size;have iF:=eM.size;have aC:Z [] w0 ez:=((o9.cn dR).cn eh).trans eM λx hx=>.inr abF;have gG:((I g+1+dx V:Nat):Int)=((I g+1+dx V:Nat):Int):=rfl;have eI:(p.ini[I g]?).getD 0=iv:=by rw[bY];rfl
  have eD:(p.dft[I g]?).getD 0=dv:=by rw[bV];rfl
  have wE:IntKind.i64.wrap ((I h:Int)+(I N.mv:Int))=((I h+I N.mv:Nat):Int):=acs
  refine⟨λa1 a2 a3 a4 a5 a6 a7 l7 l8 a8 a9 S=>a1=N.k/\a2=pa/\a3=(HJ p.sp (I g):Nat)/\a4=0/\a5=0/\a6=iv/\a7=dv/\a8=(I h:Nat)/\a9=((I h+I N.mv:Nat):Int)/\Z [] w0 S/\ez.heap.size<=S.heap.size,?_,λN4 co am=>?_,λN4=>⟨rfl,rfl,?_,rfl,rfl,rfl,rfl,rfl,wE,aC,aX _⟩⟩;rotate_left
  ·have N4:=aN N4;have iN:=am.size;have a:=Y.o0 (aC.cn am);obtain⟨q,e⟩:∃q:Nat,pa=q:=⟨pa.toNat,J⟩
   have t:=m.Xr hx;dsimp only at t;obtain⟨d,c⟩:∃d,g[q]? =aM d:=⟨_,bh J⟩
   obtain⟨s,y3,y,F,p,d3,d4,P,el,ll,rfl⟩:=(a.c.slice lp).get (aZ q) J;rw[aW,c,bN]at p;subst p;refine⟨λ_=>True,trivial,sc,Blk.dM a.blk 3 rfl,trivial,s,by rw[e];exact F,trivial,_,P.dM 2 _ rfl,(HO co pa).mono ?_⟩;rintro _ k ⟨rfl,f⟩;obtain rfl:co=k:=f.symm;refine⟨_,rfl,cr.refl _ _,λ_ _ _=>rfl,λT b=>⟨rfl,rfl,?_,rfl,rfl,rfl,rfl,rfl,wE,(aC.cn am).trans b λx hx=>.inr abF,by have:=b.size;omega⟩⟩;have f:=(aT q d c).1;have v:d.up<2 ^ 64:=by rw[f];exact zr _
   rw[u64_or_nat _ _ v (wT pa),f,aaZ m A hx e,<-e];rfl
  ·have N4:=aQ N4;have a:I g=0:=by
    refine Nat.eq_zero_of_not_pos λp=>?_;obtain⟨q,t,b,e,_⟩:=m.par hx p;dsimp only at e;omega
   rw[a,Wd m A];rfl
  rintro mK nO oF oN oR Md pi l7 l8 pm pP fj ⟨g1,g2,g3,g4,g5,g6,g7,g8,g9,lE,SX⟩;have mt:I g+1<=I p.sp:=J
  refine⟨λkv i a1 a2 a3 a4 a5 a6 a7 l7 l8 a8 a9 S=>∃q:Nat,i=(q:Int)/\I g+1<=q/\kv+q=I g+1+dx V/\a1=N.k/\a2=pa/\a3=(HJ p.sp (I g):Nat)/\a4=(LW p.sp (I g) q:Nat)/\a5=(Ql p.sp (I g) q:Nat)/\a6=iv/\a7=dv/\a8=(I h:Nat)/\a9=((I h+I N.mv:Nat):Int)/\Z [] w0 S/\ez.heap.size<=S.heap.size,dx V,⟨I g+1,aaA,aX _,J,g1,g2,g3,by rw[g4,FJ m A _ (aX _)];rfl,by rw[g5,FK m A _ (aX _) mt];rfl,g6,g7,g8,g9,lE,SX⟩,?_⟩;clear g1 g2 g3 g4 g5 g6 g7 g8 g9 lE SX;rintro kv _ a1 a2 a3 a4 a5 a6 a7 l9 iS a8 a9 fU ⟨q,rfl,rx,pZ,g1,g2,g3,g4,g5,g6,g7,g8,g9,lT,XN⟩;refine⟨λhc=>?_,λhc=>?_⟩
  ·have hc:=aN hc;obtain⟨t,a⟩:=gj (xs:=p.sp) (i:=q) J;refine⟨λa1 a2 a3 a4 a5 a6 a7 l7 l8 a8 a9 S=>a1=N.k/\a2=pa/\a3=(HJ p.sp (I g):Nat)/\a4=(LW p.sp (I g) (q+1):Nat)/\a5=(Ql p.sp (I g) (q+1):Nat)/\a6=iv/\a7=dv/\a8=(I h:Nat)/\a9=((I h+I N.mv:Nat):Int)/\Z [] w0 S/\ez.heap.size<=S.heap.size,?_,λb T=>⟨λ_=>True,trivial,?_⟩⟩
   ·rintro b1 b2 F P b5 b6 b7 rZ tL b8 b9 gC ⟨e,f,k,p,s,t,v,x,y,c,d⟩;exact⟨kv-1,J,q+1,aaA,J,J,e,f,k,p,s,t,v,x,y,c,d⟩
   have tO:=T.size;refine(HO b q).mono ?_;rintro _ im ⟨rfl,v⟩;obtain rfl:b=im:=v.symm;refine⟨_,rfl,cr.refl _ _,λ_ _ _=>rfl,λF P=>?_⟩;have ut:=P.size;have f:Z [] w0 F:=(lT.cn T).trans P λx hx=>.inr abF;have d:=Y.o0 f;have y:LW p.sp (I g) (q+1)=Tp (LW p.sp (I g) q) q:=by
    rw[LW,aV ⟨J,tu.2 ⟨_,hx,J,abQ⟩⟩]
   have k:bits .or .u64 a4 ((DM (q:Int):Nat):Int)=(LW p.sp (I g) (q+1):Nat):=by
    rw[g4,u64_or_nat _ _ (Nr _ _ _) (wT _),y];rfl
   refine⟨λc S=>c=decide ((q:Int)∈oe p.sp (I g))/\Z [] w0 S/\ez.heap.size<=S.heap.size,?_,?_⟩
   ·rintro c kf ⟨e,p,t⟩;refine⟨λs iU jT=>⟨λ_=>True,trivial,(HO iU q).mono ?_⟩,λs=>⟨g1,g2,g3,k,?_,g6,g7,g8,g9,p,t⟩⟩
    ·rintro _ q ⟨rfl,v⟩;obtain rfl:iU=q:=v.symm;have uP:=jT.size;refine⟨_,rfl,cr.refl _ _,λ_ _ _=>rfl,λmV c=>⟨g1,g2,g3,k,?_,g6,g7,g8,g9,(p.cn jT).trans c λx hx=>.inr abF,by have:=c.size;omega⟩⟩;rw[s]at e;rw[g5,u64_or_nat _ _ (Ns _ _ _) (wT _),Ql,aV (aN e.symm)];rfl
    rw[s]at e;rw[g5,Ql,aR (aQ e.symm)]
   obtain⟨p,c,x,d3,_⟩:=jQ d.pl.sp a;refine⟨s,Blk.dM d.blk 5 rfl,p,c,t.pa,d3,λhe=>⟨s,Blk.dM d.blk 5 rfl,p,c,t.k,x.dM 0 _ rfl,(KT F t.k).mono ?_⟩,λhe=>⟨?_,f,J⟩⟩
   ·have he:t.pa=(I g:Int):=abX
    rintro _ s ⟨rfl,v⟩;obtain rfl:F=s:=v.symm;refine⟨_,rfl,cr.refl _ _,?_,f,J⟩;rw[bM,cP,nT];constructor
    ·exact λe=>⟨q,t,rfl,a,he,e⟩
    rintro⟨q',t',e,t,_,h3⟩;have:q'=q:=J
    subst this;rw[a,bN]at t;rw[t];exact h3
   have he:¬t.pa=(I g:Int):=abX
   refine(bD λwd=>?_).symm;obtain⟨q',t',e,s,h2,_⟩:=nT.1 wd;have:q'=q:=J
   subst this;rw[a,bN]at s;rw[s]at he;exact he h2
  have hc:=aQ hc;have AC:q=I g+1+dx V:=J
  subst AC;obtain⟨y,hy⟩:∃y,y=Wf p (I g) (I h) N:=⟨_,rfl⟩
  have AT:a1=y.k/\a2=y.pa/\a3=(y.up:Nat)/\a4=(y.dn:Nat)/\a5=(y.rg:Nat)/\a6=y.ini/\a7=y.dft/\a8=(y.f0:Nat)/\a9=((y.f1:Nat):Int):=by
   rw[hy];unfold Wf;dsimp only;rw[mG hx,eI,eD,<-aa0 m A hx rfl,<-aa1 m A hx rfl];exact⟨g1,g2,g3,g4,g5,g6,g7,g8,g9⟩
  clear g1 g2 g3 g4 g5 g6 g7 g8 g9;obtain⟨rfl,rfl,rfl,rfl,rfl,rfl,rfl,rfl,rfl⟩:=AT;have AS:y.up=HJ p.sp (I g)/\y.dn=dnK p.sp (I g):=by rw[hy];exact⟨rfl,rfl⟩
  refine⟨λS=>∃t W,Ma S b F t sv su W l s si sd sr (o++[N.nm]) (g++[y]) h p/\uY b (Q3 n sc l) w0 (Q3 t W l) S/\(∀k,Q3 t W l k->Q3 n sc l k∨ez.heap.size<=k)/\ez.heap.size<=S.heap.size,?_,λF2 As=>?_⟩;rotate_left
  ·have d:=lT.cn As;have Bv:=As.size;have c:=Y.o0 d;have st:∀{S v:M} {P:aJ},aD P S v->(∀k,P k->fE n k∨fE sc k)->F2.heap.size<=S.heap.size->cr [k0,k1,k2] S v/\bR (λk=>k<F2.heap.size/\¬fE n k/\¬fE sc k) S v:=λf q hz=>by
    refine⟨f.same λx hx=>?_,λk hk bW=>f.block k bW λe=>(q k e).elim hk.2.1 hk.2.2⟩;simp only[aY,bA,cf]at hx;refine⟨J,λe=>?_⟩;have:=q x e;rcases this with a | a
    ·have:=hM.bn x a;omega
    have:=hM.bc x a;omega
   have jb:b<F2.heap.size/\¬fE n b/\¬fE sc b:=⟨J,λe=>by have:=hM.bn b e;omega,λe=>by have:=hM.bc b e;omega⟩
   have jk:∀k,w.heap.size<=k->k<F2.heap.size->k<F2.heap.size/\¬fE n k/\¬fE sc k:=λk h1 h2=>⟨h2,λe=>by have:=hM.bn k e;omega,λe=>by have:=hM.bc k e;omega⟩
   refine⟨λk=>k<F2.heap.size/\¬fE n k/\¬fE sc k,jb,n,Blk.dM c.blk 0 rfl,jk k0 J J,jb,sc,Blk.dM c.blk 3 rfl,jk k2 J J,?_⟩;have fin:∀{S:M} {t W:Sl},Two F2 b n sc o g N.nm y t W S->∃AM Ep z1 XD,(((⟨b,0,aaf⟩:Addr).add 0).add 0)=⟨AM,Ep,aaf⟩/\aF S AM XD z1/\(Ep+1)<=I z1/\k0≠AM/\k1≠AM/\k2≠AM/\∀By,Z [AM] S By->aF By AM XD (fQ z1 Ep [t.v])->∃EN XE z2 BV,(((⟨b,0,aaf⟩:Addr).add 0).add 3)=⟨EN,XE,aaf⟩/\aF By EN BV z2/\(XE+1)<=I z2/\k0≠EN/\k1≠EN/\k2≠EN/\∀v,Z [EN] By v->aF v EN BV (fQ z2 XE [W.v])->
     ∃t W,Ma v b F t sv su W l s si sd sr (o++[N.nm]) (g++[y]) h p/\uY b (Q3 n sc l) w0 (Q3 t W l) v/\(∀k,Q3 t W l k->Q3 n sc l k∨ez.heap.size<=k)/\ez.heap.size<=v.heap.size:=fun{S t W} T=>by
    obtain⟨t1,t2⟩:=c.two T;refine⟨b,0,_,_,rfl,t1,cZ rfl,J,J,J,λBy x e=>⟨b,3,_,_,rfl,e,cZ rfl,J,J,J,λv P BY=>?_⟩⟩;obtain⟨t3,t4⟩:=t2 By x e v P BY;exact⟨t,W,t3,uY.of0 d t4,λk hk=>(t4.2 k hk).imp id λa=>J,by have:=t4.1.size;omega⟩
   refine⟨?_,?_⟩
   ·obtain⟨y1,x,T,p,F⟩:=aa9 F2 N.nm;have b:=p.size;have s:=st (P:=λ_=>False) p.p0 (λ_ a=>a.elim) (aX _);refine⟨y1,x,T,s.1,s.2,?_,?_⟩
    ·obtain⟨t,TI,r1,r3,r4⟩:=c.seq p F (λk hk=>hk.1) J J;have DO:=r3.size;have e:=st r3 (λ_ a=>.inl a) b;obtain⟨y2,Zf,q1,q2,q3⟩:=af8 TI y l9 iS;have EQ:=q2.size;have Cc:=st (P:=λ_=>False) q2.p0 (λ_ a=>a.elim) J;obtain⟨W,Do,t1,t3,t4⟩:=r4 q2 q3 (λk hk=>J);have CC:=st t3 (λ_ a=>.inr a) J;exact⟨t,TI,r1,e.1,e.2,y2,Zf,q1,Cc.1,Cc.2,W,Do,t1,CC.1,CC.2,fin t4⟩
    obtain⟨y2,Ge,q1,q2,q3⟩:=af8 x y l9 iS;have GE:=q2.size;have Fd:=st (P:=λ_=>False) q2.p0 (λ_ a=>a.elim) J;obtain⟨t,Gg,r1,r3,r4⟩:=c.seq (p.cn q2) (SliceF.only cY X F q2 aaV) (λk hk=>hk.1) J J;have GG:=r3.size;have Fn:=st r3 (λ_ a=>.inl a) J;obtain⟨W,Gt,t1,t3,t4⟩:=r4 (Only.refl _ _) (SliceF.lO lp X q3 r3 λk hk _ e=>by have:=c.bn k e;omega) (λk hk=>J);have FS:=st t3 (λ_ a=>.inr a) J;exact⟨y2,Ge,q1,Fd.1,Fd.2,t,Gg,r1,Fn.1,Fn.2,W,Gt,t1,FS.1,FS.2,fin t4⟩
   obtain⟨y2,F,q1,q2,q3⟩:=af8 F2 y l9 iS;have Id:=q2.size;have s:=st (P:=λ_=>False) q2.p0 (λ_ a=>a.elim) (aX _);obtain⟨y1,GO,p1,T,p3⟩:=aa9 F N.nm;have If:=T.size;have b:=st (P:=λ_=>False) T.p0 (λ_ a=>a.elim) J;obtain⟨t,GT,r1,r3,r4⟩:=c.seq (q2.cn T) p3 (λk hk=>J) J J;have Is:=r3.size;have p:=st r3 (λ_ a=>.inl a) J;obtain⟨W,H1,t1,t3,t4⟩:=r4 (Only.refl _ _) (SliceF.lO lp X (SliceF.only lp X q3 T aaV) r3 λk hk _ e=>by have:=c.bn k e;omega) (λk hk=>J);have x:=st t3 (λ_ a=>.inr a) J;exact⟨y2,F,q1,s.1,s.2,y1,GO,p1,b.1,b.2,t,GT,r1,p.1,p.2,W,H1,t1,x.1,x.2,fin t4⟩
  rintro ra ⟨t,W,Le,LT,Lt,MK⟩;have IO:∀i c,(g++[y])[i]? =aM c->c.up=HJ p.sp i/\c.dn=dnK p.sp i:=λi c P=>by
   by_cases a:i<I g
   ·rw[bX a]at P;exact aT i c P
   rw[cd J]at P;have:i-(I g)=0:=by
    have:=(bf.1 P).1;rw[bI]at this;omega
   rw[this,cw,bN]at P;have:i=I g:=J
   rw[<-P,this];exact AS
  have LE:y.f0=I h:=adm
  have pY:I (g++[y])=I g+1:=by rw[aO,bI]
  have IN:∀{S:M} {Q':aJ},uY b (Q3 n sc l) w0 Q' S->∀k,G k->¬(k=b∨Q3 n sc l k):=λT k S9=>by
   have:=hG k S9;exact λP=>P.elim J λP=>by have:=hq k P;omega
  have jJ:∀{S:M} {Q':aJ},uY b (Q3 n sc l) w0 Q' S->aA (mz aL D) 9 S G kids V:=λT=>SliceF.lO (cA aL D) X hk (cD.oQ T.1) λk S9 _=>IN T k S9;have XY:∀{S:M} {Q':aJ},uY b (Q3 n sc l) w0 Q' S->aA (Iz aL) 13 S G mv N.mv:=λT=>SliceF.lO (mr aL) X oS (cD.oQ T.1) λk S9 _=>IN T k S9;have IS:∀{Q':aJ},(∀k,Q' k->Q3 n sc l k∨ez.heap.size<=k)->∀k,w.heap.size<=k->k<ez.heap.size->¬Q' k:=λhh k h1 h2 e=>by
   rcases hh k e with P | P
   ·have:=hq k P;omega
   omega
  refine⟨λkv i S=>∃(j:Nat) (q:Sl),i=(j:Int)/\kv+j=I N.mv/\j<=I N.mv/\Ma S b F t sv su W q s si sd sr (o++[N.nm]) (g++[y]) (h++(zT p.sp (I g) 0 (N.mv.take j)).map (Qr p.sp)) p/\uY b (Q3 n sc l) w0 (Q3 t W q) S/\(∀k,Q3 t W q k->Q3 n sc l k∨ez.heap.size<=k)/\ez.heap.size<=S.heap.size,I N.mv,⟨0,l,rfl,J,bm _,by rw[ci,zT,ft,bG];exact Le,LT,Lt,MK⟩,?_⟩;rintro kv _ nu ⟨j,q,rfl,Ee,hj,ID,IF,Yv,Nm⟩;refine⟨λkF=>?_,λkF=>?_⟩
  ·have kF:=aN kF;obtain⟨Cp,T,ds,d1,d2,d3,d4,d5,d6⟩:=(XY IF).get (aZ j) J;rw[aW]at d2;obtain⟨gc,rM,RK,rfl,TQ,BC,om⟩:=d6;obtain⟨sl,d,rfl,rK⟩:=Qw TQ;have BC:=BC.1;have Pp:El T<=wa N.mv:=nR (bB d2);have WP:=uw T.tg;have q1:=Qx T.g;have q2:=HQ d T.g.dC;unfold El at Pp;have mf:j<I N.mv:=J
   have Of:p.ro[I h+j]? =aM (Qh p.sp (I g) j T):=by
    refine cc j _ ?_;rw[FH,bX (by rw[mO];exact mf),Wp,d2,bS];rfl
   refine⟨Cp,d1,_,_,_,_,_,_,_,_,sl,_,rM,RK,_,d5,λk8 pK TO XK jK=>⟨λ_=>True,trivial,?_⟩⟩;have z26:=jK.size;have Yw:=ID.o0 jK;have UV:=(bf.1 Of).1;have WF:=Yw.pl.ro.len;obtain⟨OR,u,To,e1,e2,e3,e4,e5,e6⟩:=Yw.pl.ro.get (i:=((I h+j:Nat):Int)) (aZ _) J;rw[aW,Of,bN]at e2;subst e2;obtain⟨tr,rfl,Pi,_⟩:=e6;have wI:IntKind.i64.wrap ((y.f0:Int)+(j:Int))=((I h+j:Nat):Int):=by rw[LE,fe J J];omega
   refine⟨sr,Blk.dM Yw.blk 8 rfl,trivial,OR,by rw[wI];exact e1,trivial,_,_,_,_,_,tr,_,e5,λk9 sf UP So ri=>⟨λ_=>True,trivial,trivial,trivial,trivial,trivial,trivial,trivial,trivial,λvh uI=>?_⟩⟩;have z27:=ri.size;have z28:=uI.size;have Rk:(Qh p.sp (I g) j T).tg.length=I T.tg:=by unfold Qh;rw[bJ]
   have Or:=ri.cn uI;refine(af7 (kI Pi Or) J).mono ?_;rintro _ zL ⟨t5,rfl,_,re⟩;have z29:=re.size;refine⟨t5,rfl,re.same aba,lw.Bg re,bR.only re,λIm XP=>?_⟩;have z30:=XP.size;have OF:=(Or.cn re).cn XP;refine(HR (SliceF.only (dy aL) X BC (jK.cn OF) aaV) J).mono ?_;rintro _ Lz ⟨⟨t6,rfl⟩,D8⟩;have z31:=D8.size;refine⟨t6,rfl,D8.same aba,lw.Bg D8,bR.only D8,λXC NO kD ST Ys _ Zd Ye=>?_⟩;have z32:=NO.size;have z33:=Ye.size;have ON:Z [] pK Zd:=((OF.cn D8).cn NO).trans Ye λx hx=>.inr abF;refine(KR d (SliceF.only (ia d) X rK (jK.cn ON) aaV) J).mono ?_;rintro _ w34 ⟨⟨t7,rfl⟩,f⟩;have z34:=f.size;refine⟨t7,rfl,f.same aba,λTG Yf=>?_⟩;have z35:=Yf.size;have No:Z [] pK TG:=(ON.cn f).trans Yf λx hx=>.inr abF;refine⟨λ_ _ _ _ _ _ _ ex _ _ _ _ _ _ _ _ S=>ex=(Qr p.sp (Qh p.sp (I g) j T):Nat)/\Z [] pK S/\TG.heap.size<=S.heap.size,?_,λc w41 s=>?_,λc=>⟨?_,No,aX _⟩⟩;rotate_left
   ·have c:=aN c;have z41:=s.size;have b:=Yw.o0 (No.cn s);have aoj:=aa3 m (a:=I g) (T.tg.map (pV p.sp));obtain⟨d,k⟩:∃d:Nat,(Qh p.sp (I g) j T).dom=d:=⟨(Qh p.sp (I g) j T).dom.toNat,J⟩
    have aB0:xX p.sp (I g) (T.tg.map (pV p.sp))=d:=k;obtain⟨F,q⟩:∃F,(g++[y])[d]? =aM F:=⟨_,bh (by rw[pY];omega)⟩
    have hcn:=b.c.len;obtain⟨v,y5,cs5,f1,f2,f3,f4,f5,el,ll,rfl⟩:=(b.c.slice lp).get (aZ d) J;rw[aW,q,bN]at f2;subst f2;refine⟨W,Blk.dM b.blk 3 rfl,v,by rw[k];exact f1,_,f5.dM 3 _ rfl,λw42 e=>⟨?_,(No.cn s).trans e λx hx=>.inr abF,by have:=e.size;omega⟩⟩;rw[(IO d F q).2];unfold Qr;rw[k,aV J,aW]
   ·have c:=aQ c;unfold Qr;rw[aR J];rfl
   rintro v1 v2 v3 v4 v5 v6 v7 ex v9 v10 v11 v12 v13 v14 v15 v16 w36 ⟨rfl,o36,z36⟩ w37 aox;have z37:=aox.size;have o37:=o36.cn aox;have d:=Yw.o0 o37;have m37:=(IF.cn jK).cn o37;obtain⟨y6,N0,p1,p2,p3⟩:=aso w37 [O U v1,O U v2,O U v3,K v4,O U v5,v6.v,O U v7,.int .u64 (Qr p.sp (Qh p.sp (I g) j T):Nat),aj v9,O U v10,O U v11,K v12,O U v13,v14.v,O U v15,v16.v] (Qr p.sp (Qh p.sp (I g) j T)) rfl ⟨rfl,λv hv=>by
    simp only[aY,bA,cf]at hv;rcases hv with rfl | rfl | rfl | rfl | rfl | rfl | rfl | rfl | rfl | rfl | rfl | rfl | rfl | rfl | rfl | rfl<;>rfl⟩
   have z38:=p2.size;have a:=d.o0 p2;obtain⟨q',Ze,t1,t2,y,t4⟩:=asp a.e J p3 (λk hk e=>by have:=d.be k e;omega) (by rw[aO,bJ,mO,ch];omega);have z39:=y.size;refine⟨λk=>k=b,rfl,q,Blk.dM d.blk 4 rfl,y6,N0,p1,p2.same aba,bR.only p2,q',Ze,t1,y.same λx hx=>?_,λk hk bW=>?_,b,4,_,_,rfl,y.blk a.blk λe=>(by have:=a.be b e;omega),cZ rfl,J,J,J,J,J,J,λw40 Yx avf=>⟨kv-1,J,j+1,q',aaA,J,J,?_,?_,λk hk=>?_,by have:=Yx.size;omega⟩⟩
   ·simp only[aY,bA,cf]at hx;have v:=ID.be x;have b:=IS Yv x;refine⟨J,λe=>?_⟩;have:=v e;exact b J J (.inr (.inr e))
   ·subst hk;exact y.block _ bW λe=>by have:=a.be _ e;omega
   ·have v:∀k,Q3 t W q' k->Q3 t W q k∨N0.heap.size<=k:=λk hk=>by
     rcases hk with hk | hk | hk
     ·exact .inl (.inl hk)
     ·exact .inl (.inr (.inl hk))
     exact(t4 k hk).imp (λP=>.inr (.inr P)) id
    have z40:=Yx.size;have kp:∀k,k<N0.heap.size->k≠b->¬fE q k->w40.heap[k]? =N0.heap[k]? :=λk h1 h2 F=>by
     rw[Yx.block k J acO,y.block k h1 F]
    have hr:zT p.sp (I g) 0 (N.mv.take (j+1))=zT p.sp (I g) 0 (N.mv.take j)++[Qh p.sp (I g) j T]:=by
     have e:N.mv.take (j+1)=N.mv.take j++[T]:=by rw[bq,d2];rfl
     have b:I (N.mv.take j)=j:=aej
     rw[e,zo,b,bS]
    rw[hr,cp,<-bC];refine a.fin J (λk h1 h2 F=>kp k h1 h2 λe=>F (.inr (.inr e))) (a.n.keep cY λk hk bW=>?_) (a.c.keep lp λk hk bW=>?_) (wh uz t2 Yx) v (λk e=>⟨(a.ap k e).1,λx=>?_⟩) (λk e x=>?_) avf
    ·have hk:=hk.resolve_left id;exact kp k bW J λe=>(a.ap k hk.2).2 e
    ·have hk:=hk.resolve_left id;exact kp k bW J λe=>a.ap2 k hk.2 e
    ·rcases t4 k x with x | x
     ·exact(a.ap k e).2 x
     have:=a.bn k e;omega
    rcases t4 k x with x | x
    ·exact a.ap2 k e x
    have:=a.bc k e;omega
   ·refine m37.trans ⟨(p2.oQ (y.mono (G:=λk=>k=b∨Q3 t W q k) λk _ e=>.inr (.inr (.inr e)))).trans (Yx.p (F:=λk=>k=b) aaV) λk hk=>.inl (.inl hk),λk hk=>?_⟩;rcases hk with hk | hk | hk
    ·exact .inl (.inl hk)
    ·exact .inl (.inr (.inl hk))
    exact(t4 k hk).imp (λP=>.inr (.inr P)) λP=>J
   rcases hk with hk | hk | hk
   ·exact Yv k (.inl hk)
   ·exact Yv k (.inr (.inl hk))
   rcases t4 k hk with P | P
   ·exact Yv k (.inr (.inr P))
   exact .inr J
  have kF:=aQ kF;have lc:j=I N.mv:=J
  subst lc;rw[bp (aX _)]at ID;clear Ee;refine⟨λkv i S=>∃(j:Nat) (n2 c2 q2:Sl),i=(j:Int)/\kv+j=I V/\j<=I V/\Ma S b F n2 sv su c2 q2 s si sd sr (o++(N.nm::(xY (V.take j)).map λc=>c.nm)) (g++(y::qT p (I g+1) (I h+I N.mv) (V.take j))) (h++((zT p.sp (I g) 0 N.mv).map (Qr p.sp)++(nt p.sp (I g+1) (V.take j)).map (Qr p.sp))) p/\uY b (Q3 n sc l) w0 (Q3 n2 c2 q2) S/\(∀k,Q3 n2 c2 q2 k->Q3 n sc l k∨ez.heap.size<=k)/\ez.heap.size<=S.heap.size,I V,⟨0,t,W,q,rfl,J,bm _,by rw[ci,xY,qT,nt,ft,ft,bG];exact ID,IF,Yv,Nm⟩,?_⟩;rintro kv _ w43 ⟨j,n2,c2,q2,rfl,Ee,hj,a,d,aoy,z43⟩;refine⟨λv=>?_,λv=>?_⟩
  ·have v:=aN v;obtain⟨Cp,x,ds,d1,b,d3,d4,d5,s⟩:=(jJ d).get (aZ j) J;rw[aW]at b;have F:=s;obtain⟨q,rfl⟩:∃q,D=q+1:=by
    cases D with
    | zero=>exact s.elim
    | succ q=>exact⟨q,rfl⟩
   obtain⟨tT,tU,qk,iE,rfl,_⟩:=F;have sB:=ld b;have hzt:=HG b;have hyz:lf x<=iZ V:=mH (bB b);refine⟨Cp,d1,_,_,_,_,tT,tU,qk,iE,_,d5,λTH w44 ab3 ax8 acx=>?_⟩;have z44:=acx.size;have avi:=a.o0 acx;have acy:I (g++(y::qT p (I g+1) (I h+I N.mv) (V.take j)))=I g+1+dx (V.take j):=by
    rw[aO,ba,DQ];omega
   have avj:I (o++(N.nm::(xY (V.take j)).map λc=>c.nm))=I g+1+dx (V.take j):=by
    rw[aO,ba,bJ,zn];omega
   have aia:I (h++((zT p.sp (I g) 0 N.mv).map (Qr p.sp)++(nt p.sp (I g+1) (V.take j)).map (Qr p.sp)))=I h+I N.mv+uy (V.take j):=by
    rw[aO,aO,bJ,bJ,mO,DP];omega
   have hms:=HS (V.take j);refine(adL m A E H (q+1) (pa:=(I g:Int)) (dp:=dp+1) ((cA aL (q+1)).keep s λk _ bW=>acx.block k bW aaV) hG avi J (by rw[acy];exact eQ.kid b) (λi u hr=>?_) (λi c P=>?_) (by rw[acy,avj]) (by rw[aia];omega)).mono ?_
   ·rw[acy]at hr;have:=KU b hr;have e:=cc (I N.mv+(uy (V.take j)+i)) u (by
     rw[FH,cd (by rw[mO];omega),mO,dG];exact this)
    rw[aia,<-e];congr 1;omega
   ·by_cases e:i<I g+1
    ·rw[show g++(y::qT p (I g+1) (I h+I N.mv) (V.take j))=(g++[y])++qT p (I g+1) (I h+I N.mv) (V.take j) by rw[bC];rfl,bX (by rw[pY];exact e)]at P;exact IO i c P
    rw[show g++(y::qT p (I g+1) (I h+I N.mv) (V.take j))=(g++[y])++qT p (I g+1) (I h+I N.mv) (V.take j) by rw[bC];rfl,cd (by rw[pY];omega),pY]at P;obtain⟨k,f,_,h2,_⟩:=HM p _ _ _ _ c P;rw[h2,show (I g)+1+(i-(I g+1))=i by omega];exact⟨rfl,rfl⟩
   rintro _ w45 ⟨rfl,n3,y,q3,f,c⟩;have z45:=c.1.size;refine⟨rfl,c.1.same λx hx=>?_,kv-1,J,j+1,n3,y,q3,aaA,J,J,?_,(d.cn acx).trans c,λk hk=>?_,J⟩
   ·simp only[aY,bA,cf]at hx;have e:=IS aoy x;refine⟨J,λP=>?_⟩;rcases P with P | P
    ·omega
    have:=a.q3 x P;exact e J J P
   ·have e:V.take (j+1)=V.take j++[x]:=by rw[bq,b];rfl
    rw[acy,aia]at f;rw[e,HF,xY,xY,bG,DK,nt,nt,bG,KQ,qT,qT,bG,cp,cp,<-bC ((zT p.sp (I g) 0 N.mv).map _),<-bC h];rw[bC o,ca,bC g,ca]at f;exact f
   rcases c.2 k hk with P | P
   ·exact aoy k P
   exact .inr J
  have v:=aQ v;have lc:j=I V:=J
  subst lc;rw[bp (aX _)]at a;refine⟨rfl,n2,c2,q2,?_,uY.of0 cD d⟩;rw[DJ,FH,Ts,bQ,cp,<-hy];exact a
end
end
def rI0:Rp Int:=λ_ _ x c=>c=[O U x]
def wi:rI0.Ok where
 keep h _:=h
 inHeap h:=h
 mono h _:=h
 one:=by
  rintro w F x c h v a;unfold rI0 at h;subst h;simp only[aP]at a;subst a;rfl
def aga(u:M)(x:Int):∃y w,(au 33 1 #[.mk 0 (O U x)]).run Q u=.ok (Sl.v y) w/\Z [] u w/\aA rI0 1 w (λk=>u.heap.size<=k/\k<w.heap.size) y [x]:=
 aa8 (e:=3) (i:=Tryz.t3) (z:=O U 0) aaz aaz rfl rfl X X wi rfl rfl
def asq{A:Nat}{u:M}{s y:Sl}{b:List Int}{x:Int}(h:Own rI0 1 3 A u (λ_=>False) s b)(c:A<=u.heap.size){G:aJ}(e:aA rI0 1 u G y [x])(d:∀k,G k->¬fE s k)(m:I b<=100000000):
  ∃a w,(Builtin.append_ #[33,33] 33 #[Sl.v s,Sl.v y]).run Q u=.ok (Sl.v a) w/\Own rI0 1 3 A w (λ_=>False) a (b++[x])/\aD (fE s) u w/\∀k,fE a k->fE s k∨u.heap.size<=k:=
 Wk (i:=Tryz.t3) (bytes:=8) aaz aaz rfl rfl rfl rfl X wi (λ_ _ _ _ _ h=>h) h c e d J
def asr{A:Nat}{u:M}{s y:Sl}{b:List (aH)}{x:aH}(h:Own ke 1 9 A u (λ_=>False) s b)(c:A<=u.heap.size){G:aJ}(e:aA ke 1 u G y [x])(d:∀k,G k->¬fE s k)(m:I b<=100000000):
  ∃a w,(Builtin.append_ #[32,32] 32 #[Sl.v s,Sl.v y]).run Q u=.ok (Sl.v a) w/\Own ke 1 9 A w (λ_=>False) a (b++[x])/\aD (fE s) u w/\∀k,fE a k->fE s k∨u.heap.size<=k:=
 Wk (i:=Tryz.t9) (bytes:=16) aaz aaz rfl rfl rfl rfl X cY KS h c e d J
structure Vs (A:Nat) (u:M) (sv su:Sl) (n:Nat):Prop where
 v:∃xs,Own ke 1 9 A u (λ_=>False) sv xs/\I xs=n
 u:∃xs,Own rI0 1 3 A u (λ_=>False) su xs/\I xs=n
 ap:∀k,fE sv k->¬fE su k
section
variable {A n:Nat} {w:M} {sv su:Sl}
def Vs.bv(h:Vs A w sv su n):∀k,fE sv k->A<=k/\k<w.heap.size:=λk e=>by obtain⟨x,h,_⟩:=h.v;exact h.blk e
def Vs.bu(h:Vs A w sv su n):∀k,fE su k->A<=k/\k<w.heap.size:=λk e=>by obtain⟨x,h,_⟩:=h.u;exact h.blk e
def Vs.only{w':M}{s:List Nat}(j:Vs A w sv su n)(h:Z s w w')(a:∀k,k∈s->k<A):Vs A w' sv su n:=by
 obtain⟨⟨x,d,f⟩,⟨l,g,i⟩,c⟩:=j;exact⟨⟨x,d.keep cY λk hk b=>h.block k b λe=>(by have:=a k e;have:=(hk.resolve_left id).1;omega),f⟩,⟨l,g.keep wi λk hk b=>h.block k b λe=>(by have:=a k e;have:=(hk.resolve_left id).1;omega),i⟩,c⟩
def Vs.seq(i:Vs A w sv su n)(W:A<=w.heap.size)(X:n<=100000000){g:M}(o:Z [] w g){B:Sl}{x:aH}{m:aJ}(j:aA ke 1 g m B [x])(H:∀k,m k->w.heap.size<=k):
  ∃v u,(Builtin.append_ #[32,32] 32 #[Sl.v sv,Sl.v B]).run Q g=.ok (Sl.v v) u/\aD (fE sv) g u/\∀{f:M},Z [] u f->∀{l:Sl} {y:Int} {h:aJ},aA rI0 1 f h l [y]->(∀k,h k->w.heap.size<=k)->
   ∃s a,(Builtin.append_ #[33,33] 33 #[Sl.v su,Sl.v l]).run Q f=.ok (Sl.v s) a/\aD (fE su) f a/\Vs A a v s (n+1)/\aD (λk=>fE sv k∨fE su k) w a:=by
 have z1:=o.size;have bv:=i.bv;have bu:=i.bu;have N:=i.only o aaV;obtain⟨⟨Y,C,D⟩,⟨V,E,F⟩,c⟩:=N;obtain⟨v,u,R,p,r,q⟩:=asr C J j (λk hk e=>by have:=bv k e;have:=H k hk;omega) J;have z2:=r.size;refine⟨v,u,R,r,fun{f} o2 {l y h} hy2 g2=>?_⟩;have z3:=o2.size;have P:Own rI0 1 3 A u (λ_=>False) su V:=E.keep wi λk hk b=>r.block k b λe=>c k e (hk.resolve_left id).2;obtain⟨s,a,S,T,t,z⟩:=asq (P.keep wi λk hk b=>o2.block k b aaV) J hy2 (λk hk e=>by have:=bu k e;have:=g2 k hk;omega) J;refine⟨s,a,S,t,⟨⟨_,(p.keep cY λk hk b=>o2.block k b aaV).keep cY λk hk b=>t.block k b λe=>?_,by rw[aO,D];rfl⟩,⟨_,T,by rw[aO,F];rfl⟩,λk e d=>?_⟩,?_⟩
 ·rcases q k (hk.resolve_left id).2 with d | d
  ·exact c k d e
  have:=bu k e;omega
 ·have w:=(p.blk e).2;dsimp only at w;rcases q k e with n | n
  ·rcases z k d with e | e
   ·exact c k n e
   have:=bv k n;omega
  rcases z k d with e | e
  ·have:=bu k e;omega
  omega
 exact((o.oQ (r.mono (G:=λk=>fE sv k∨fE su k) λk _ e=>.inl e)).cn o2).trans (t.mono (G:=λk=>fE sv k∨fE su k) λk _ e=>.inr e) λk e=>.inl e
end
structure TbR (w:M) (F:aJ) (sn sc se:Sl) (c:Ch):Prop where
 tn:aA ke 1 w F sn ((DJ c.root).map λb=>b.nm)
 tc:aA Nq 11 w F sc (Ts (uQ c) 0 0 c.root)
 te:aA Wl 16 w F se ((FH (dz c) 0 c.root).map (Qr (dz c)))
def TbR.o0{w b:M}{F:aJ}{sn sc s:Sl}{c:Ch}(h:TbR w F sn sc s c)(a:Z [] w b):TbR b F sn sc s c:=
 ⟨SliceF.only cY X h.tn a aaV,SliceF.only lp X h.tc a aaV,SliceF.only uz X h.te a aaV⟩
def PlR.inHeap{w:M}{F:aJ}{s i sd sr:Sl}{p:Pl}(h:PlR w F s i sd sr p):PlR w (λk=>F k/\k<w.heap.size) s i sd sr p:=
 ⟨h.sp.inHeap dI X,h.ini.inHeap cK X,h.dft.inHeap cK X,h.ro.inHeap kz X⟩
def DR{w:M}{F:aJ}{D:Nat}{c:Ch}{p:Sl}{r:aI}(hx:ChR aL (D+1) w F c p r)(S:Mb c)(V:nr c.vars+lf c.root<=8388608)(C:Er w)(H:Tb w):
  az Q 6 #[ah (p.v::r).toArray] w λe A=>(∃q sv a sc m:Sl,e=ak (ai #[ah #[q.v,sv.v,a.v,sc.v,m.v],ah #[O U (ji c).1,O U (ji c).2]])/\((ji c).1=0->TbR A (λk=>w.heap.size<=k) q sc m c))/\Z [] w A:=by
 obtain⟨t,z,mv,kids,Y,_⟩:=hx.root;subst Y;refine iW (aj3 _ _ _ _ _ _ _ _ _ _ ?_);intro k0 k1 k2 B fT dZ mA jS qF rn j;have z0:=j.size;have keep:∀{u:M},Z [] w u->ChR aL (D+1) u F c p (od c.root.b.k c.root.b.nm c.root.b.ini c.root.b.dft t z mv kids c.root.b.a):=λl=>⟨hx.vars.keep fh X λk _ b=>l.block k b aaV,(cA aL _).keep hx.root λk _ b=>l.block k b aaV⟩
 refine(af1 (keep j) S V (C.only j) (H.only j)).mono ?_;rintro _ g ⟨⟨s,i,sd,sr,rfl,n⟩,E⟩;have z1:=E.size;have o:=j.cn E;refine⟨s,i,sd,sr,_,_,rfl,E.same aba,λhc k3 k4 w2 xF sA uT AN R n1 n2 n3 n4 n5 n6 n7 n8 n9 am=>?_,λhc k5 y d f rk Eb XQ Ol N Ym W=>?_⟩
 ·have hc:(ji c).1≠0:=abv
  refine⟨λk=>k=k4,rfl,λh=>n7 h,λh=>n9 h,λs e=>⟨⟨Sl.nil,Sl.nil,Sl.nil,Sl.nil,Sl.nil,rfl,λh=>absurd h hc⟩,(o.cn R).trans e λx hx=>.inr abH⟩⟩
 have hc:(ji c).1=0:=abv
 have aT:=wQ (oL hc).1;have z4:=W.size;have o4:=o.cn W;have bV:=hx.vars.1.len;have bY:=wc c.vars;refine⟨λkv aS l1 l2 l3 l4 l5 l6 l7 l8 l9 u=>∃aC:Nat,aS=(aC:Int)/\kv+aC=I c.vars/\aC<=I c.vars/\l1=Sl.nil/\l4=Sl.nil/\l5=Sl.nil/\l6=s/\l7=i/\l8=sd/\l9=sr/\Vs f.heap.size u l2 l3 aC/\Z [] g u/\f.heap.size<=u.heap.size,I c.vars,⟨0,rfl,J,bm _,rfl,rfl,rfl,rfl,rfl,rfl,rfl,⟨⟨[],Own.nil _ _ _ _ _ _,rfl⟩,⟨[],Own.nil _ _ _ _ _ _,rfl⟩,λk h=>abG⟩,W,aX _⟩,?_⟩;rintro kv _ _ sv a _ _ l6 l7 l8 l9 w5 ⟨aC,rfl,pZ,hj,rfl,rfl,rfl,f1,f2,f3,f4,hV,o5,z5⟩;obtain rfl:s=l6:=f1.symm;obtain rfl:i=l7:=f2.symm;obtain rfl:sd=l8:=f3.symm;obtain rfl:sr=l9:=f4.symm;refine⟨λkF=>?_,λkF u7 n1 n2 n3 n4 n5=>?_⟩
 ·have kF:=aN kF;obtain⟨ad,x,ds,a1,a2,a3,a4,a5,a6⟩:=((keep (o.cn o5)).vars.1).get (aZ aC) J;have a6:ds=[K (T x.n),O U x.v,O U x.a]:=a6;subst a6;refine⟨ad,a1,_,_,_,a5,λD w6 cc Ys dY=>⟨λl1 l2 l3 l4 l5 l6 l7 l8 l9 u=>l1=Sl.nil/\l4=Sl.nil/\l5=Sl.nil/\l6=s/\l7=i/\l8=sd/\l9=sr/\Vs f.heap.size u l2 l3 (aC+1)/\Z [] g u/\f.heap.size<=u.heap.size,?_,λc fy=>?_⟩⟩
  ·rintro l1 l2 l3 l4 l5 l6 l7 l8 l9 e h;exact⟨kv-1,J,aC+1,aaA,J,J,h⟩
  have z6:=dY.size;have z8:=fy.size;have o8:=(o5.cn dY).cn fy;have s:=(hV.only dY aaV).only fy aaV;have bv:=hV.bv;have bu:=hV.bu;have st:∀{u v:M} {P:aJ},aD P u v->(∀k,P k->fE sv k∨fE a k)->c.heap.size<=u.heap.size->cr [k0,k1,k2,k5,y,d,D] u v/\bR (λk=>k<c.heap.size/\¬fE sv k/\¬fE a k) u v:=λl n hz=>by
   refine⟨l.same λx hx=>?_,λk hk b=>l.block k b λe=>(n k e).elim hk.2.1 hk.2.2⟩;simp only[aY,bA,cf]at hx;refine⟨J,λe=>?_⟩;rcases n x e with h | h
   ·have:=bv x h;omega
   have:=bu x h;omega
  have j7:d<c.heap.size/\¬fE sv d/\¬fE a d:=⟨J,λe=>by have:=bv d e;omega,λe=>by have:=bu d e;omega⟩
  have co:D<c.heap.size/\¬fE sv D/\¬fE a D:=⟨J,λe=>by have:=bv D e;omega,λe=>by have:=bu D e;omega⟩
  have fin:∀{u v:M} {dO cC:Sl},Vs f.heap.size u dO cC (aC+1)->aD (λk=>fE sv k∨fE a k) c u->Z [d] u v->Vs f.heap.size v dO cC (aC+1)/\Z [] g v/\f.heap.size<=v.heap.size:=λeQ T gq=>by
   refine⟨eQ.only gq λk hk=>ab2,?_,by have:=T.size;have:=gq.size;omega⟩;exact((o8.oQ (T.mono (G:=λk=>g.heap.size<=k) λk _ e=>e.elim (λe=>by have:=bv k e;omega) λe=>by have:=bu k e;omega)).only λk hk=>hk).trans gq λx hx=>.inr abF
  refine⟨λk=>k<c.heap.size/\¬fE sv k/\¬fE a k,j7,co,j7,co,?_,?_⟩
  ·obtain⟨y1,w9,p1,v,G⟩:=aa9 c x.n;have z9:=v.size;have s9:=st (P:=λ_=>False) v.p0 (λ_ h=>h.elim) (aX _);refine⟨y1,w9,p1,s9.1,s9.2,?_,?_⟩
   ·obtain⟨v1,dA,r1,r3,r4⟩:=s.seq J J v G (λk hk=>hk.1);have LA:=r3.size;have EO:=st r3 (λ_ h=>.inl h) z9;obtain⟨y2,dL,q1,e,q3⟩:=aga dA x.v;have Cj:=e.size;have D5:=st (P:=λ_=>False) e.p0 (λ_ h=>h.elim) J;obtain⟨u1,ez,t1,t3,t4,t5⟩:=r4 e q3 (λk hk=>J);have F3:=st t3 (λ_ h=>.inr h) J;exact⟨v1,dA,r1,EO.1,EO.2,y2,dL,q1,D5.1,D5.2,u1,ez,t1,F3.1,F3.2,λfj dV=>⟨rfl,rfl,rfl,rfl,rfl,rfl,rfl,fin t4 t5 dV⟩⟩
   obtain⟨y2,fU,q1,q2,q3⟩:=aga w9 x.v;have XN:=q2.size;have IP:=st (P:=λ_=>False) q2.p0 (λ_ h=>h.elim) J;obtain⟨v1,gC,r1,r3,r4⟩:=s.seq J J (v.cn q2) (SliceF.only cY X G q2 aaV) (λk hk=>hk.1);have fd:=r3.size;have EP:=st r3 (λ_ h=>.inl h) J;obtain⟨u1,iQ,t1,t3,t4,t5⟩:=r4 (Only.refl _ _) (SliceF.lO wi X q3 r3 λk hk _ e=>by have:=s.bv k e;omega) (λk hk=>J);have Q6:=st t3 (λ_ h=>.inr h) J;exact⟨y2,fU,q1,IP.1,IP.2,v1,gC,r1,EP.1,EP.2,u1,iQ,t1,Q6.1,Q6.2,λim iz=>⟨rfl,rfl,rfl,rfl,rfl,rfl,rfl,fin t4 t5 iz⟩⟩
  obtain⟨y2,iR,q1,q2,q3⟩:=aga c x.v;have f7:=q2.size;have Q7:=st (P:=λ_=>False) q2.p0 (λ_ h=>h.elim) (aX _);obtain⟨y1,kf,p1,G,p3⟩:=aa9 iR x.n;have f8:=G.size;have v:=st (P:=λ_=>False) G.p0 (λ_ h=>h.elim) J;obtain⟨v1,iU,r1,r3,r4⟩:=s.seq J J (q2.cn G) p3 (λk hk=>J);have gE:=r3.size;have N3:=st r3 (λ_ h=>.inl h) J;obtain⟨u1,kZ,t1,t3,t4,t5⟩:=r4 (Only.refl _ _) (SliceF.lO wi X (SliceF.only wi X q3 G aaV) r3 λk hk _ e=>by have:=s.bv k e;omega) (λk hk=>J);have Zg:=st t3 (λ_ h=>.inr h) J;exact⟨y2,iR,q1,Q7.1,Q7.2,y1,kf,p1,v.1,v.2,v1,iU,r1,N3.1,N3.2,u1,kZ,t1,Zg.1,Zg.2,λmV oU=>⟨rfl,rfl,rfl,rfl,rfl,rfl,rfl,fin t4 t5 oU⟩⟩
 have v:=o.cn o5;have gT:mz aL (D+1) w5 (λk=>k<w.heap.size) c.root (od c.root.b.k c.root.b.nm c.root.b.ini c.root.b.dft t z mv kids c.root.b.a):=
  (cA aL _).keep ((cA aL _).mono ((cA aL _).inHeap hx.root) λk hk=>hk.2) λk _ b=>v.block k b aaV
 have P:∀k,¬Q3 Sl.nil Sl.nil Sl.nil k:=λk hk=>by rcases hk with hk | hk | hk<;>cases hk
 have gO:PlR w5 (λk=>B.heap.size<=k/\k<g.heap.size) s i sd sr (uQ c):=(n hc).inHeap.keep λk _ b=>o5.block k b aaV;have gG:Ma w5 d (λk=>B.heap.size<=k/\k<g.heap.size) Sl.nil sv a Sl.nil Sl.nil s i sd sr [] [] [] (uQ c):=⟨u7,gO,λk hk=>⟨J,J,P k⟩,Own.nil _ _ _ _ _ _,Own.nil _ _ _ _ _ _,Own.nil _ _ _ _ _ _,λk h=>abG,λk h=>abG⟩
 have fi:I (dz c)=iB c.root:=aew
 refine(adL (yV c) (by show(dz c).length<=64;omega) (by show((DJ c.root).map _).length=_;rw[bJ,B7];exact fi.symm) (by show((DJ c.root).map _).length=_;rw[bJ,B7];exact fi.symm) (D+1) (pa:= -1) (dp:=0) gT (λk hk=>J) gG J (λaS x hi=>by rw[bK,bS];exact hi) (λaC mt hr=>by rw[bK,bS];exact hr) (λaS c h=>abG) rfl ack).mono ?_;rintro _ po ⟨rfl,q,sc,m,T,e⟩;have lT:=e.1.size;refine⟨rfl,e.1.same λx hx=>?_,q,sv,a,sc,m,s,i,sd,sr,T.blk,λra zN _ m1 m2 m3 m4 m5 m6 m7 m8 m9 iD ip iF iN iS lE=>⟨λk=>k=y,rfl,λh=>m8 h,λh=>ip h,λnu tQ _=>⟨⟨q,sv,a,sc,m,rfl,λ_=>?_⟩,?_⟩⟩⟩
 ·simp only[aY,bA,cf]at hx;exact⟨J,λh=>h.elim J (P x)⟩
 ·have kp:∀k,d+1<=k->k<po.heap.size->nu.heap[k]? =po.heap[k]? :=λk x s=>by
   rw[tQ.block k (by have:=zN.size;omega) aba,zN.block k s aaV]
  simp only[cb]at T;have c:I ([]:List Ce)=0:=rfl;have h:I ([]:List Nat)=0:=rfl;rw[c,h]at T;exact⟨((T.n.slice cY).keep cY X λk hk b=>kp k (hk.resolve_left id).1 b).mono cY λk hk=>adC,((T.c.slice lp).keep lp X λk hk b=>kp k (hk.resolve_left id).1 b).mono lp λk hk=>adC,((T.e.slice uz).keep uz X λk hk b=>kp k (hk.resolve_left id).1 b).mono uz λk hk=>adC⟩
 exact(((v.oQ (e.1.mono (G:=λk=>w.heap.size<=k) λk _ hk=>hk.elim J λh=>absurd h (P k))).only λk hk=>hk).cn zN).trans tQ λx hx=>.inr abH
def Sj{a:Type}(R:a->a->Prop)(s b:List a):Prop:=I s=I b/\∀(i:Nat) (x y:a),s[i]? =aM x->b[i]? =aM y->R x y
def ExE(t:Bool)(x y:Ex):Prop:=∀d,qM t d x y=L
structure AcE (t:Bool) (x y:Ac):Prop where
 k:x.k=y.k
 n:x.n=y.n
 e:ExE t x.x y.x
 a:t=L->x.a=y.a
structure MvE (t:Bool) (x y:Mv):Prop where
 k:x.k=y.k
 ev:x.ev=y.ev
 wt:x.wt=y.wt
 gd:x.gd=y.gd
 g:ExE t x.g y.g
 acts:Sj (AcE t) x.acts y.acts
 tg:x.tg=y.tg
 a:t=L->x.a=y.a
structure NbE (t:Bool) (x y:Nb):Prop where
 k:x.k=y.k
 nm:x.nm=y.nm
 ini:x.ini=y.ini
 dft:x.dft=y.dft
 en:Sj (AcE t) x.en y.en
 lv:Sj (AcE t) x.lv y.lv
 mv:Sj (MvE t) x.mv y.mv
 a:t=L->x.a=y.a
def NdE(t:Bool):Nat->Nd->Nd->Prop
 | 0,_,_=>True
 | d+1,x,y=>NbE t x.b y.b/\Sj (NdE t d) x.kids y.kids
structure VrE (t:Bool) (x y:Vr):Prop where
 n:x.n=y.n
 v:x.v=y.v
 a:t=L->x.a=y.a
structure ChE (t:Bool) (d:Nat) (x y:Ch):Prop where
 vars:Sj (VrE t) x.vars y.vars
 root:NdE t d x.root y.root
def sh(t:Tk):Tk:=⟨t.k,t.t,t.n,t.a+1⟩
inductive Sim:Ex->Ex->Prop
 | leaf (k n:Int) (s:aH) (op a b:Int):Sim (.mk k n s op [] a) (.mk k n s op [] b)
 | one (k n:Int) (s:aH) (op a b:Int) (x y:Ex):Sim x y->Sim (.mk k n s op [x] a) (.mk k n s op [y] b)
 | two (k n:Int) (s:aH) (op a b:Int) (x y x' y':Ex):Sim x x'->Sim y y'->Sim (.mk k n s op [x,y] a) (.mk k n s op [x',y'] b)
structure Wr (ts tV:List Tk) (n:Nat):Prop where
 e:∀i,n<=i->(tk ts i).k=5
 s:∀i,i<n->(tk tV (i+1)).k=(tk ts i).k/\(tk tV (i+1)).t=(tk ts i).t/\(tk tV (i+1)).n=(tk ts i).n
 c:(tk tV (n+1)).k=4/\(tk tV (n+1)).t=[41]
def vg(n:Nat)(c r:Pr):Prop:=∀x j,c=.ok (x,j)->(∃b,r=.ok (b,j+1)/\Sim x b/\j<=n)∨∃a,r=.error (21,a)
section
variable {ts tV:List Tk} {n:Nat}
def Wr.lt(h:Wr ts tV n){i}(hk:(tk ts i).k≠5):i<n:=by
 refine bT λa=>hk (h.e i J)
def Wr.SI(h:Wr ts tV n){i}(c:i<n) s:sg tV (i+1) s=sg ts i s:=by
 unfold sg;obtain⟨a,b,_⟩:=h.s i c;rw[a,b]
def vg.map{r r'}(c:vg n r r'){g g'}(i:∀x b,Sim x b->Sim (g x) (g' b)):vg n (JL g r) (JL g' r'):=by
 intro x k j;obtain⟨y,d,rfl⟩:=BP j;rcases c y k d with⟨b,h,e,f⟩ | ⟨a,h⟩
 ·exact .inl ⟨g' b,by rw[h];rfl,i _ _ e,f⟩
 exact .inr ⟨a,by rw[h];rfl⟩
def vg.nest{r r'}{d}{a a'}(b:d+1≠20->vg n r r'):vg n (jN d a r) (jN (d+1) a' r'):=by
 intro x j e;obtain⟨c,f⟩:=sX e;by_cases h:d+1=20
 ·exact .inr ⟨a',by rw[jN,aV h]⟩
 rw[jN,aR h];exact b h x j c
def vg.par(w:Wr ts tV n){r r'}(c:vg n r r'):vg n (ul ts r) (ul tV r'):=by
 intro x k f;obtain⟨j,d,b,rfl⟩:=BQ f;rcases c x j d with⟨g,h,e,i⟩ | ⟨a,h⟩
 ·have l:=w.lt (xn b);exact .inl ⟨g,by rw[h];simp only[ul];rw[aV (by rw[w.SI l];exact b)],e,l⟩
 exact .inr ⟨a,by rw[h];rfl⟩
def vg.err{e}{r'}:vg n (.error e) r':=λx j hx=>aev
def vg.in_(w:Wr ts tV n) i:vg n (Ej ts i) (Ej tV (i+1)):=by
 intro x j h;obtain⟨rfl,rfl⟩:=MW h;unfold Ej at h;split at h
 ·rename_i a;split at h
  ·rename_i b;split at h
   ·rename_i c;have l:=w.lt (xn c);refine .inl ⟨.mk 3 0 (tk tV (i+1+2)).t 0 [] (tk tV (i+1)).a,?_,?_,l⟩
    ·unfold Ej;rw[aV (by rw[w.SI J];exact a),aV (by rw[(w.s _ J).1];exact b),aV (by rw[w.SI l];exact c)]
    rw[(w.s (i+2) J).2.1];exact .leaf ..
   cases h
  cases h
 cases h
def vg.one(h:Wr ts tV n){a DL E Y:Nat->Pr}{d i:Nat}(c:d+1≠20->∀i,i<=n->vg n (a i) (E (i+1)))(e:d+1≠20->∀i,i<=n->vg n (DL i) (Y (i+1)))(f:i<=n):vg n (qt ts a DL d i) (qt tV E Y (d+1) (i+1)):=by
 by_cases b:i=n
 ·subst b;have h5:=h.e i (aX _);have g:∀s,sg ts i s=aL:=λs=>by
   unfold sg;rw[h5];rfl
  have:qt ts a DL d i=.error (gF ts i):=by
   unfold qt;rw[g,g,g,aR X,aR X,aR ahJ,aR ahJ,aR (by rw[h5];rintro⟨d,_⟩;exact absurd d X)]
  rw[this];exact vg.err
 have l:i<n:=J
 obtain⟨k,d,k3⟩:=h.s i l;unfold qt;rw[h.SI l,h.SI l,h.SI l,k,d,k3];split
 ·exact vg.map (vg.nest λg=>e g _ l) λx m j=>.one _ _ _ _ _ _ _ _ j
 split
 ·exact vg.nest λg=>vg.par h (c g _ l)
 split
 ·intro x j g;simp only[gr,gP]at g;obtain⟨rfl,rfl⟩:=g;exact .inl ⟨_,rfl,.leaf ..,l⟩
 split
 ·intro x j g;simp only[gr,gP]at g;obtain⟨rfl,rfl⟩:=g;exact .inl ⟨_,rfl,.leaf ..,l⟩
 split
 ·exact vg.in_ h i
 exact vg.err
end
def adM{ts}{E}{k}{x}{j}(h:lH ts k j=0):∀g,kP ts E k g x j=.ok (x,j)
 | 0=>rfl
 | g+1=>by rw[kP,aV h]
def agb{ts}{j}(h:(tk ts j).k=5) k:lH ts k j=0:=by
 exact bT λn=>sW _ _ n h
def amj{ts}{j}{t}(h:(tk ts j).t=t)(n:∀op,op<16->eX op≠t∨op=0∨14<=op) k:lH ts k j=0:=by
 have:∀f op,1<=op->op+f<=14->mj ts k j f op=0:=by
  intro f
  induction f with
  | zero=>intro op _ _;rfl
  | succ f i=>
   intro op a b;rw[mj,aR,i _ J J];rintro⟨_,s⟩;simp[sg,aU,bF]at s;rcases n op J with e | e | e
   ·exact e (by rw[<-h,s.2])
   ·omega
   omega
 exact this 13 1 J J
def Sim.same{x y:Ex}(h:Sim x y):∀d,qM aL d x y=L:=by
 have hd:∀{k n:Int} {s:aH} {op:Int} {xs ys:List Ex} {a b:Int},I xs=(I ys)->JR aL (.mk k n s op xs a) (.mk k n s op ys b)=aL:=λh=>by
  simp[JR,Ex.k,Ex.n,Ex.s,Ex.op,Ex.dC,Ex.a,h]
 induction h with
 | leaf k n s op a b=>
  intro d;cases d with
  | zero=>rfl
  | succ d=>rw[qM,aR (by rw[hd rfl];decide)];rfl
 | one k n s op a b x y h i=>
  intro d;cases d with
  | zero=>rfl
  | succ d=>
   rw[qM,aR (by rw[hd (xs:=[x]) (ys:=[y]) rfl];decide)];simp only[Ex.dC,Ha,i d,dK]
 | two k n s op a b x y e f g i E c=>
  intro d;cases d with
  | zero=>rfl
  | succ d=>
   rw[qM,aR (by rw[hd (xs:=[x,y]) (ys:=[e,f]) rfl];decide)];simp only[Ex.dC,Ha,E d,c d,dK]
def kt(t:Tk):Int×aH:=(t.k,t.t)
def Ws{c:UInt8}{r:aH}(h:pS c=aL)(a:(c==47)=aL):lj aL (c::r)=0:=by
 rw[lj,aR (by rw[h];decide),aR (by rw[a,cV];decide)]
def qU{c:UInt8}{r:aH}(h:fZ c=aL)(a:du c=aL)(b:pT.contains c=L)(d:sU (c::r)=aL):nq (c::r)=.ok (4,[c],0,1):=by
 have e:nq (c::r)=if fZ c then pz (c::r)else if du c then uV (c::r)else qh (c::r):=rfl
 have n:jA (c::r)=1:=by
  unfold jA;rw[d];dsimp only;rw[aR X,aV b]
 rw[e,h,a,aR X,aR X,qh,n];rfl
def soft(r:aH):Prop:=∀d,r.head? =aM d->d≠61/\d≠62
def oM{c:UInt8}{r:aH}(a:[38,124].contains c=aL)(h:soft r):sU (c::r)=aL:=by
 cases r with
 | nil=>rfl
 | cons d r=>
  obtain⟨h1,h2⟩:=h d rfl;have e:(d==61)=aL:=acf
  have b:(d==62)=aL:=acO
  show((d==61&&[60,62,61,33].contains c)||(d==c&&[38,124].contains c)||(c==45&&d==62))=aL;rw[e,b,a,cV,gQ,gQ];rfl
structure De (ts:List Tk) (n m:Nat) (s:aH):Prop where
 a:∀i,i<n->(tk ts i).k=4/\(tk ts i).t=s
 b:∀i,n<=i->i<n+m->(tk ts i).k=4/\(tk ts i).t=[40]
 c:(tk ts (n+m)).k=1/\(tk ts (n+m)).t=[120]
 e:∀i,n+m<i->i<=n+m+m->(tk ts i).k=4/\(tk ts i).t=[41]
 z:(tk ts (n+m+m+1)).k=5
 l:I ts=n+m+m+2
section
variable {ts:List Tk} {n m:Nat} {s:aH}
def Wt{a:List Tk}{i:Nat}{t s:aH}(h:(tk a i).t=t)(k:t≠s):sg a i s=aL:=by
 unfold sg;rw[h,bD k,gQ]
def Nt{s:List Tk}{i:Nat}{t:aH}(h:(tk s i).k=4/\(tk s i).t=t):sg s i t=L:=by
 unfold sg;rw[h.1,h.2,bE rfl];rfl
end
abbrev K3:=Int×aH×Int
def k3(t:Tk):K3:=(t.k,t.t,t.n)
def Wu{p:UInt8->Prop}(h:∀n:Fin 256,p (UInt8.ofNat n.val))(c:UInt8):p c:=by
 have:=h ⟨c.toNat,c.toNat_lt⟩;simpa using this
def Av{p:UInt8->Bool}{r:aH}(h:∀c,r.head? =aM c->p c=aL):∀(l:aH),(∀c,c∈l->p c=L)->(l++r).takeWhile p=l
 | [],_=>by
  cases r with
  | nil=>rfl
  | cons c r=>rw[cb,dD,aR (by rw[h c rfl];decide)]
 | c::l,a=>by rw[ca,dD,aV (a c aaV),Av h l λx hx=>a x aep]
def KV{a b:aH}(h:a≠[]):(a++b).head? =a.head? :=by
 cases a with
 | nil=>exact absurd rfl h
 | cons c a=>rfl
def qx{u:Nat}(h:u<10):Lib.decDigits u=[UInt8.ofNat (48+u)]:=by rw[Lib.decDigits,dif_pos h]
def tE{u:Nat}(h:¬u<10):Lib.decDigits u=Lib.decDigits (u/10)++[UInt8.ofNat (48+u % 10)]:=by rw[Lib.decDigits,dif_neg h]
def zx{u:Nat}(h:u<10):(UInt8.ofNat (48+u)).toNat=48+u:=by
 rw[UInt8.toNat_ofNat'];omega
def adN{u:Nat}(h:u<10):du (UInt8.ofNat (48+u))=L:=by
 unfold du;rw[zx h];simp;omega
def Qy(u:Nat):∀c,c∈Lib.decDigits u->du c=L:=by
 induction u using Nat.strongRecOn with
 | _ u i=>
  intro c h;by_cases a:u<10
  ·rw[qx a,aP]at h;subst h;exact adN a
  rw[tE a,cj,aP]at h;rcases h with h | rfl
  ·exact i (u/10) J c h
  exact adN (BG _ X)
def Nu(u:Nat):Lib.decDigits u≠[]:=by
 by_cases h:u<10
 ·rw[qx h];simp
 rw[tE h];simp
def Nv(a:Nat)(l:aH)(c:UInt8):lV a (l++[c])=lV a l*10+(c.toNat-48):=by
 simp[lV,nG]
def abb(u:Nat):lV 0 (Lib.decDigits u)=u:=by
 induction u using Nat.strongRecOn with
 | _ u i=>
  by_cases h:u<10
  ·rw[qx h];have:=zx h;simp only[lV,YK,List.foldl_nil];omega
  rw[tE h,Nv,i (u/10) J,zx (BG _ X)];omega
def Wv(u:Nat)(h:0<u):(Lib.decDigits u).head? ≠aM 48:=by
 induction u using Nat.strongRecOn with
 | _ u i=>
  by_cases a:u<10
  ·rw[qx a,jH];intro e;injection e with e;have:=bZ UInt8.toNat e;rw[zx a]at this;have b:(48:UInt8).toNat=48:=rfl;omega
  rw[tE a,KV (Nu _)];exact i (u/10) J J
def Ww(u:Nat)(h:1<I (Lib.decDigits u)):0<u:=by
 refine bT λn=>?_;have:u=0:=J
 subst this;rw[qx X]at h;simp at h
def Nw{c:UInt8}(h:du c=L):fk c=L:=by unfold fk;rw[h,oV]
def Wx{c:UInt8}(h:du c=L):fZ c=aL:=by
 unfold du at h;unfold fZ;simp only[aU,bF]at h;simp;omega
def zy{n:Int}(h:0<=n):Lib.itoa n=Lib.decDigits n.toNat:=by
 unfold Lib.itoa;rw[aR J]
def Wy{n:Int}(f:0<=n)(l:n<=9223372036854775807){r:aH}(d:∀c,r.head? =aM c->fk c=aL):nq (Lib.itoa n++r)=.ok (3,[],n,I (Lib.itoa n)):=by
 rw[zy f];generalize q:n.toNat=u;have j:n=(u:Int):=J
 have g:=Qy u;have i:=Nu u;have w:=Av (p:=fk) d (Lib.decDigits u) λc h=>Nw (g c h);have hd:=Av (p:=du) (λc b=>by
  have:=d c b;unfold fk at this;exact(dq.1 this).2) (Lib.decDigits u) g
 have k:fR (Lib.decDigits u++r)=(u,I (Lib.decDigits u),0):=by
  unfold fR;rw[hd,abb];rw[aR (by simp[i]),aR,aV J];rintro(b | ⟨e,c⟩)
  ·exact i b
  rw[KV i]at c;exact Wv u (Ww u e) c
 have a:uV (Lib.decDigits u++r)=.ok (3,[],n,I (Lib.decDigits u)):=by
  unfold uV;rw[k,w,aR aaV,aR aaV,j]
 generalize o:Lib.decDigits u=m at*
 cases m with
 | nil=>exact absurd rfl i
 | cons c m=>
  have h:=g c aaV;have e:nq (c::m++r)=if fZ c then pz (c::m++r)else if du c then uV (c::m++r)else qh (c::m++r):=rfl
  rw[e,Wx h,h,aR X,aV rfl,a]
def wj{l:aH}{i:Nat}{p r:aH}{k:Int}{t:aH}{n:Int}{s:List Tk}(h:l.drop i=p++r)(a:p≠[])(b:lj aL (p++r)=0)(d:nq (p++r)=.ok (k,t,n,I p))(c:lG l (i+I p)=.ok s):lG l i=.ok (⟨k,t,n,(i:Nat)⟩::s):=by
 have S:=lS.2 a;have e:i<I l:=by
  have:=bZ List.length h;rw[cG,aO]at this;omega
 rw[ni J,h,b,eE,aR J,h,d];dsimp only;rw[c]
def kU{l:aH}{i:Nat}{p r:aH}(h:l.drop i=p++r):l.drop (i+I p)=r:=by
 rw[<-ki,h,List.drop_left]
def Bb{l:aH}{i:Nat}{p r:aH}(a:i<=I l)(h:l.drop i=p++r):i+I p<=I l:=by
 have:=bZ List.length h;rw[cG,aO]at this;omega
def mU:Nat->Ex->Bool->aH
 | 0,_,_=>[]
 | d+1,x,wr=>clo wr (opn wr []++(
  if x.k=1 then Lib.itoa x.n
  else if x.k=2 then x.s
  else if x.k=3 then[105,110,40]++x.s++[41]
  else if x.k=4 then(match x.dC with
   | [y]=>eX x.op.toNat++mU d y (decide (cM y<6))
   | _=>[])
  else(match x.dC with
   | [y,z]=>mU d y (decide (cM y<cM x))++([32]++eX x.op.toNat++[32])++mU d z (decide (cM z<=cM x))
   | _=>[])))
def oO wr l:opn wr l=l++opn wr []:=by cases wr<;>simp[opn]
def Wz wr l m:clo wr (l++m)=l++clo wr m:=by cases wr<;>simp[clo]
def Nx wr l:I l<=I (clo wr l):=by cases wr<;>simp[clo]
def agc wr l:I l<=I (opn wr l):=by cases wr<;>simp[opn]
def KW:∀d x wr l,I l<=I (qN d x wr l)
 | 0,_,_,_=>aX _
 | d+1,x,wr,l=>by
  rw[qN];split
  ·exact aX _
  refine bH ?_ (Nx _ _);have h:=agc wr l;split
  ·rw[aO];omega
  split
  ·rw[aO];omega
  split
  ·rw[aO];omega
  split
  ·split
   ·rename_i y _;have:=KW d y (decide (cM y<6)) (opn wr l++eX x.op.toNat);rw[aO]at this;omega
   exact aX _
  split
  ·rename_i y z _;have b:=KW d y (decide (cM y<cM x)) (opn wr l);have a:=KW d z (decide (cM z<=cM x)) (qN d y (decide (cM y<cM x)) (opn wr l)++([32]++eX x.op.toNat++[32]));rw[aO]at a;omega
  exact aX _
def KX:∀d {x:Ex} wr l,da d x=L->I (qN d x wr l)<=16384->qN d x wr l=l++mU d x wr
 | 0,x,wr,l,h,_=>abG
 | d+1,x,wr,l,h,c=>by
  rw[da,aU]at h;obtain⟨b,a⟩:=h;have g:=KW (d+1) x wr l;have f:¬16384<I l:=J
  rw[qN,aR f]at c⊢;rw[mU,<-Wz];have e:=bH (Nx wr _) c;by_cases k:x.k=1
  ·rw[aV k,aV k,oO wr l,bC]
  by_cases h:x.k=2
  ·rw[aR k,aR k,aV h,aV h,oO wr l,bC]
  by_cases k3:x.k=3
  ·rw[aR k,aR k,aR h,aR h,aV k3,aV k3,oO wr l,bC]
  by_cases i:x.k=4
  ·obtain⟨y,j,_⟩:=vM b i;rw[aR k,aR h,aR k3,aV i,j]at e;rw[aR k,aR k,aR h,aR h,aR k3,aR k3,aV i,aV i,j];rw[j]at a;dsimp only at e⊢;simp[ku,dK]at a;rw[KX d _ _ a e,oO wr l];simp
  obtain⟨_,y,z,j,_⟩:=qO b k h k3 i;rw[aR k,aR h,aR k3,aR i,j]at e;rw[aR k,aR k,aR h,aR h,aR k3,aR k3,aR i,aR i,j];rw[j]at a;dsimp only at e⊢;simp[ku,dK,aU]at a;have m:=KW d z (decide (cM z<=cM x)) (qN d y (decide (cM y<cM x)) (opn wr l)++([32]++eX x.op.toNat++[32]));rw[aO]at m;rw[KX d _ _ a.2 e,KX d _ _ a.1 J,oO wr l];simp
def opk(wr:Bool):List K3:=if wr then[(4,[40],0)]else[]
def clk(wr:Bool):List K3:=if wr then[(4,[41],0)]else[]
def pN:Nat->Ex->Bool->List K3
 | 0,_,_=>[]
 | d+1,x,wr=>opk wr++(
  if x.k=1 then[(3,[],x.n)]
  else if x.k=2 then[(1,x.s,0)]
  else if x.k=3 then[(2,[105,110],0),(4,[40],0),(1,x.s,0),(4,[41],0)]
  else if x.k=4 then(match x.dC with
   | [y]=>(4,eX x.op.toNat,0)::pN d y (decide (cM y<6))
   | _=>[])
  else(match x.dC with
   | [y,z]=>pN d y (decide (cM y<cM x))++(4,eX x.op.toNat,0)::pN d z (decide (cM z<=cM x))
   | _=>[]))++clk wr
def pW(c:UInt8):Bool:=fZ c||du c||c==40||c==45||c==33
def Sk:∀n:Fin 256,pW (UInt8.ofNat n.val)=L->pS (UInt8.ofNat n.val)=aL/\(UInt8.ofNat n.val==47)=aL/\UInt8.ofNat n.val≠61/\UInt8.ofNat n.val≠62:=agD
def pJ{c}(h:pW c=L):pS c=aL/\(c==47)=aL/\c≠61/\c≠62:=Wu (p:=λc=>pW c=L->pS c=aL/\(c==47)=aL/\c≠61/\c≠62) Sk c h
def WA(c:UInt8):Bool:=[32,41,59,93,44,10].contains c
def EG(r:aH):Prop:=∀c,r.head? =aM c->WA c=L
def abc:∀n:Fin 256,WA (UInt8.ofNat n.val)=L->fk (UInt8.ofNat n.val)=aL/\du (UInt8.ofNat n.val)=aL/\UInt8.ofNat n.val≠61/\UInt8.ofNat n.val≠62:=agD
def Ny{c}(h:WA c=L):fk c=aL/\du c=aL/\c≠61/\c≠62:=Wu (p:=λc=>WA c=L->fk c=aL/\du c=aL/\c≠61/\c≠62) abc c h
def EG.word{r}(h:EG r):∀l,(∀c,c∈l->fk c=L)->(l++r).takeWhile fk=l
 | [],_=>by
  cases r with
  | nil=>rfl
  | cons c r=>
   rw[cb,dD,aR (by rw[(Ny (h c rfl)).1];decide)]
 | c::l,a=>by
  rw[ca,dD,aV (a c aaV),h.word l λx hx=>a x aep]
def abd{n}(a:0<=n)(b:n<=9223372036854775807){r}(d:EG r):nq (Lib.itoa n++r)=.ok (3,[],n,I (Lib.itoa n)):=Wy a b λc h=>(Ny (d c h)).1
def KY{s r}(n:dP s=L)(d:EG r):nq (s++r)=.ok (1,s,0,I s):=by
 unfold dP at n;simp only[aU]at n;obtain⟨⟨⟨h,a⟩,b⟩,h4⟩:=n;obtain⟨h,f⟩:=aN h;have h4:mh.contains s=aL:=agV
 have w:pz (s++r)=.ok (1,s,0,I s):=by
  unfold pz;rw[d.word s λc e=>by rw[<-aN b]at e;exact Fe c e,aR J,h4];rfl
 cases s with
 | nil=>exact absurd rfl h
 | cons c s=>
  have e:nq (c::s++r)=if fZ c then pz _ else if du c then uV _ else qh _:=rfl
  have a:fZ c=L:=a;rw[e,a,aV rfl,w]
def agd{op}(h:1<=op)(a:op<=13) r:nq (eX op++32::r)=.ok (4,eX op,0,I (eX op))/\lj aL (eX op++32::r)=0:=by
 match op,h,a with
 | 1,_,_=>exact⟨rfl,rfl⟩
 | 2,_,_=>exact⟨rfl,rfl⟩
 | 3,_,_=>exact⟨rfl,rfl⟩
 | 4,_,_=>exact⟨rfl,rfl⟩
 | 5,_,_=>exact⟨rfl,rfl⟩
 | 6,_,_=>exact⟨rfl,rfl⟩
 | 7,_,_=>exact⟨rfl,rfl⟩
 | 8,_,_=>exact⟨rfl,rfl⟩
 | 9,_,_=>exact⟨rfl,rfl⟩
 | 10,_,_=>exact⟨rfl,rfl⟩
 | 11,_,_=>exact⟨rfl,rfl⟩
 | 12,_,_=>exact⟨rfl,rfl⟩
 | 13,_,_=>exact⟨rfl,rfl⟩
def wW:∀d {x:Ex} wr,da d x=L->lI d x->∃c t,mU d x wr=c::t/\pW c=L
 | 0,x,wr,h,_=>abG
 | d+1,x,L,h,_=>⟨40,_,rfl,X⟩
 | d+1,x,aL,h,⟨n,s⟩=>by
  rw[da,aU]at h;obtain⟨a,b⟩:=h;have e:mU (d+1) x aL=(
  if x.k=1 then Lib.itoa x.n
  else if x.k=2 then x.s
  else if x.k=3 then[105,110,40]++x.s++[41]
  else if x.k=4 then(match x.dC with
   | [y]=>eX x.op.toNat++mU d y _
   | _=>[])
  else(match x.dC with
   | [y,z]=>mU d y _++_++mU d z _
   | _=>[])):=rfl
  rw[e];by_cases k:x.k=1
  ·rw[aV k];have d:0<=x.n:=by
    rw[iq,aV k]at a;have:=(xz a).1;split at this<;>omega
   rw[zy d];cases h:Lib.decDigits x.n.toNat with
   | nil=>exact absurd h (Nu _)
   | cons c m=>
    have:=Qy x.n.toNat c (by rw[h];simp);exact⟨c,m,rfl,by unfold pW;rw[this];simp⟩
  have m:dP x.s=L->∃c t,x.s=c::t/\pW c=L:=λn=>by
   unfold dP at n;simp at n;obtain⟨⟨⟨d,h⟩,f⟩,g⟩:=n;cases s:x.s with
   | nil=>rw[s]at h;cases h
   | cons c t=>
    rw[s]at h;have h:fZ c=L:=h;exact⟨c,t,rfl,by unfold pW;rw[h];simp⟩
  by_cases e:x.k=2
  ·rw[aR k,aV e];exact m (kw a (.inl e))
  by_cases k3:x.k=3
  ·rw[aR k,aR e,aV k3];exact⟨105,_,rfl,X⟩
  by_cases f:x.k=4
  ·obtain⟨y,c,h⟩:=vM a f;rw[aR k,aR e,aR k3,aV f,c];rcases h with h | h
   ·rw[h];exact⟨45,_,rfl,X⟩
   rw[h];exact⟨33,_,rfl,X⟩
  obtain⟨_,y,z,h,_⟩:=qO a k e k3 f;rw[aR k,aR e,aR k3,aR f,h];rw[h]at b s;simp[ku,dK,aU]at b;obtain⟨c,t,g,i⟩:=wW d _ b.1 (s y aaV);dsimp only;rw[g];exact⟨c,_,rfl,i⟩
def uA{r}(a:∃c t,r=c::t/\pW c=L):soft r:=by
 obtain⟨c,t,rfl,h⟩:=a;intro d hd;simp at hd;subst hd;exact⟨(pJ h).2.2.1,(pJ h).2.2.2⟩
def EG.soft{r}(h:EG r):soft r:=λd hd=>(Ny (h d hd)).2.2
def wX{a b}(h:∃c t,a=c::t/\pW c=L):∃c t,a++b=c::t/\pW c=L:=by
 obtain⟨c,t,rfl,s⟩:=h;exact⟨c,t++b,rfl,s⟩
def adO{l}{i}{r}(h:l.drop i=32::r)(b:lj aL r=0):lG l i=lG l (i+1):=by
 have a:i<=I l:=by
  refine bT λn=>?_;rw[eP J]at h;cases h
 rw[oH a,h,lj,aV X,b]
def B9{l}:∀d {x:Ex} wr i {r:aH} {s:List Tk},da d x=L->lI d x->i<=(I l)->l.drop i=mU d x wr++r->EG r->lG l (i+I (mU d x wr))=.ok s->∃u,lG l i=.ok (u++s)/\u.map k3=pN d x wr
 | 0,x,wr,i,r,s,h,_,_,_,_,_=>abG
 | d+1,x,wr,i,r,s,h,⟨A,g⟩,w,m,p,f=>by
  have B:=h;rw[da,aU]at h;obtain⟨v,j⟩:=h;have o:∀(i:Nat) {r:aH} {s:List Tk},i<=(I l)->l.drop i=mU (d+1) x aL++r->EG r->lG l (i+I (mU (d+1) x aL))=.ok s->∃u,lG l i=.ok (u++s)/\u.map k3=pN (d+1) x aL:=by
   intro i r s w m p f;have e:mU (d+1) x aL=(
   if x.k=1 then Lib.itoa x.n
   else if x.k=2 then x.s
   else if x.k=3 then[105,110,40]++x.s++[41]
   else if x.k=4 then(match x.dC with
    | [y]=>eX x.op.toNat++mU d y (decide (cM y<6))
    | _=>[])
   else(match x.dC with
    | [y,z]=>mU d y (decide (cM y<cM x))++([32]++eX x.op.toNat++[32])++mU d z (decide (cM z<=cM x))
    | _=>[])):=rfl
   have h:pN (d+1) x aL=(
   if x.k=1 then[(3,[],x.n)]
   else if x.k=2 then[(1,x.s,0)]
   else if x.k=3 then[(2,[105,110],0),(4,[40],0),(1,x.s,0),(4,[41],0)]
   else if x.k=4 then(match x.dC with
    | [y]=>(4,eX x.op.toNat,0)::pN d y (decide (cM y<6))
    | _=>[])
   else(match x.dC with
    | [y,z]=>pN d y (decide (cM y<cM x))++(4,eX x.op.toNat,0)::pN d z (decide (cM z<=cM x))
    | _=>[]))++[]:=rfl
   rw[bG]at h;obtain⟨c0,G,R,D⟩:=wW (d+1) aL B ⟨A,g⟩;have E:lj aL (mU (d+1) x aL++r)=0:=by
    rw[R,ca];exact Ws (pJ D).1 (pJ D).2.1
   have F:mU (d+1) x aL≠[]:=by rw[R];simp
   by_cases C:x.k=1
   ·rw[aV C]at e h;have a:0<=x.n:=by
     rw[iq,aV C]at v;have:=(xz v).1;split at this<;>omega
    rw[h];exact⟨[⟨3,[],x.n,(i:Nat)⟩],wj m F E (by rw[e];exact abd a A.2 p) f,rfl⟩
   by_cases H:x.k=2
   ·rw[aR C,aV H]at e h;rw[h];exact⟨[⟨1,x.s,0,(i:Nat)⟩],wj m F E (by rw[e];exact KY (kw v (.inl H)) p) f,rfl⟩
   by_cases Y:x.k=3
   ·rw[aR C,aR H,aV Y]at e h;have N:=kw v (.inr Y);obtain⟨T,S,P,q⟩:∃c t,x.s=c::t/\pW c=L:=by
     have y:=N;unfold dP at y;simp only[aU]at y;obtain⟨⟨⟨_,z⟩,_⟩,_⟩:=y;cases g:x.s with
     | nil=>rw[g]at z;cases z
     | cons c t=>
      rw[g]at z;have z:fZ c=L:=z;exact⟨c,t,rfl,by unfold pW;rw[z];simp⟩
    have V:l.drop i=[105,110]++([40]++(x.s++([41]++r))):=by rw[m,e];simp
    have W:=kU V;have a2:=kU W;have a3:=kU a2;have len:I (mU (d+1) x aL)=2+1+I x.s+1:=by rw[e];simp;omega
    have f:lG l (i+I ([105,110]:aH)+I ([40]:aH)+I x.s+I ([41]:aH))=.ok s:=by
     rw[<-f,len];congr 1;simp only[ba,bK];omega
    have b3:=wj (n:=0) a3 aaV (Ws X X) (qU X X X (oM X p.soft)) f;have b2:=wj (n:=0) (k:=1) (t:=x.s) a2 (by rw[P];simp) (by rw[P,ca];exact Ws (pJ q).1 (pJ q).2.1) (KY N λc hc=>acZ) b3;have b1:=wj (n:=0) W aaV (Ws X X) (qU X X X (oM X (uA (wX (a:=x.s) (b:=[41]++r) ⟨T,S,P,q⟩)))) b2;have b0:=wj (n:=0) (k:=2) (t:=[105,110]) V aaV (Ws X X) rfl b1;rw[h];exact⟨[_,_,_,_],b0,rfl⟩
   by_cases k:x.k=4
   ·obtain⟨y,N,n⟩:=vM v k;rw[aR C,aR H,aR Y,aV k,N]at e h;dsimp only at e h;rw[N]at j g;simp only[ku,dK]at j;have z:=g y aaV;have P:=wW d (decide (cM y<6)) j z;have q:l.drop i=eX x.op.toNat++(mU d y (decide (cM y<6))++r):=by rw[m,e,bC]
    have S:=kU q;have f:lG l (i+I (eX x.op.toNat)+I (mU d y (decide (cM y<6))))=.ok s:=by
     rw[<-f,e,aO,dB]
    obtain⟨u,T,V⟩:=B9 d (decide (cM y<6)) _ j z (Bb w q) S p f;have t:nq (eX x.op.toNat++(mU d y (decide (cM y<6))++r))=.ok (4,eX x.op.toNat,0,I (eX x.op.toNat))/\eX x.op.toNat≠[]/\lj aL (eX x.op.toNat++(mU d y (decide (cM y<6))++r))=0:=by
     rcases n with n | n
     ·rw[n];exact⟨qU (c:=45) X X X (oM X (uA (wX (a:=mU d y (decide (cM y<6))) (b:=r) P))),X,Ws X X⟩
     rw[n];exact⟨qU (c:=33) X X X (oM X (uA (wX (a:=mU d y (decide (cM y<6))) (b:=r) P))),X,Ws X X⟩
    rw[h];exact⟨⟨4,eX x.op.toNat,0,(i:Nat)⟩::u,wj q t.2.1 t.2.2 t.1 T,by rw[bQ,V];rfl⟩
   obtain⟨_,y,z,V,XG,NT⟩:=qO v C H Y k;rw[aR C,aR H,aR Y,aR k,V]at e h;dsimp only at e h;rw[V]at j g;simp only[ku,dK,aU]at j;have EX:=g y aaV;have T:=g z aaV;obtain⟨cz,tz,N,S⟩:=wW d (decide (cM z<=cM x)) j.2 T;have IG:lj aL (mU d z (decide (cM z<=cM x))++r)=0:=by
    rw[N,ca];exact Ws (pJ S).1 (pJ S).2.1
   have P:=agd (op:=x.op.toNat) J J (mU d z (decide (cM z<=cM x))++r);have XX:eX x.op.toNat≠[]:=by
    have:∀q,q<14->1<=q->eX q≠[]:=X
    exact this _ J J
   have a:l.drop i=mU d y (decide (cM y<cM x))++([32]++(eX x.op.toNat++([32]++(mU d z (decide (cM z<=cM x))++r)))):=by rw[m,e];simp only[bC]
   have b:=kU a;have n:=kU b;have t:=kU n;have a4:=kU t;have i1:=Bb w a;have i2:=Bb i1 b;have i3:=Bb i2 n;have i4:=Bb i3 t;have f:lG l (i+I (mU d y (decide (cM y<cM x)))+I ([32]:aH)+I (eX x.op.toNat)+I ([32]:aH)+I (mU d z (decide (cM z<=cM x))))=.ok s:=by
    rw[<-f,e];congr 1;simp only[aO,ba,bK];omega
   obtain⟨W,v1,v2⟩:=B9 d (decide (cM z<=cM x)) _ j.2 T i4 a4 p f;have b3:lG l (i+I (mU d y (decide (cM y<cM x)))+I ([32]:aH)+I (eX x.op.toNat))=.ok (W++s):=by
    exact(adO t IG).trans v1
   have b2:=wj n XX P.2 P.1 b3;have b1:=(adO b P.2).trans b2;obtain⟨u,u1,u2⟩:=B9 d (decide (cM y<cM x)) i j.1 EX w a (λc hc=>acZ) b1;rw[h];exact⟨u++⟨4,eX x.op.toNat,0,_⟩::W,by rw[u1,bC];rfl,by rw[cp,bQ,u2,v2];rfl⟩
  cases wr
  ·exact o i w m p f
  have e:mU (d+1) x L=[40]++(mU (d+1) x aL++[41]):=by
   unfold mU;simp[clo,opn]
  have z:pN (d+1) x L=(4,[40],0)::(pN (d+1) x aL++[(4,[41],0)]):=by
   unfold pN;simp[opk,clk]
  have P:=wW (d+1) aL B ⟨A,g⟩;have h:l.drop i=[40]++(mU (d+1) x aL++([41]++r)):=by rw[m,e];simp only[bC]
  have k:=kU h;have q:=kU k;have f:lG l (i+I ([40]:aH)+I (mU (d+1) x aL)+I ([41]:aH))=.ok s:=by
   rw[<-f,e];congr 1;simp only[aO,ba,bK];omega
  have y:=wj (n:=0) q aaV (Ws X X) (qU X X X (oM X p.soft)) f;obtain⟨u,C,D⟩:=o _ (Bb w h) k (λc hc=>acZ) y;have t:=wj (n:=0) h aaV (Ws X X) (qU X X X (oM X (uA (wX (a:=mU (d+1) x aL) (b:=[41]++r) P)))) C;rw[z];refine⟨⟨4,[40],0,(i:Nat)⟩::(u++[⟨4,[41],0,((i+I ([40]:aH)+I (mU (d+1) x aL):Nat):Int)⟩]),by rw[t];simp only[ca,bC,cb,nC],?_⟩;rw[bQ,cp,D];rfl
def At(t:List Tk)(i:Nat)(a:List K3):Prop:=∀j q,a[j]? =aM q->k3 (tk t (i+j))=q
section
variable {ts:List Tk} {i:Nat} {A B:List K3}
def At.left(a:At ts i (A++B)):At ts i A:=λj q h=>a j q (by rw[bX (bf.1 h).1];exact h)
def At.right(h:At ts i (A++B)):At ts (i+I A) B:=λa q j=>by
 have:=h (I A+a) q (by rw[cd J,dG];exact j);rwa[<-dB]at this
def At.head{q}(h:At ts i (q::A)):(tk ts i).k=q.1/\(tk ts i).t=q.2.1/\(tk ts i).n=q.2.2:=by
 have:=h 0 q rfl;rw[<-this];exact⟨rfl,rfl,rfl⟩
def At.tail{q}(h:At ts i (q::A)):At ts (i+1) A:=λj p a=>by
 have:=h (j+1) p a;rwa[dB,fV 1 j]
def WB{p q}(a:1<=p)(H:p<=13)(b:1<=q)(c:q<=13)(h:eX p=eX q):p=q:=by
 have:∀p,p<14->∀q,q<14->1<=p->1<=q->eX p=eX q->p=q:=X
 exact this p J q J a b h
def amm{op}(a:1<=op)(b:op<=13)(hk:(tk ts i).k=4)(t:(tk ts i).t=eX op) k:lH ts k i=if fP op=k then(op:Int)else 0:=by
 have:∀f q,1<=q->q+f<=14->mj ts k i f q=if q<=op/\op<q+f/\fP op=k then(op:Int)else 0:=by
  intro f
  induction f with
  | zero=>intro q _ _;rw[aR J];rfl
  | succ f d=>
   intro q c g;rw[mj,d _ J J];by_cases e:q=op
   ·subst e;have s:=Nt ⟨hk,t⟩;by_cases h:fP q=k
    ·rw[aV ⟨h,s⟩,aV ⟨aX _,J,h⟩]
    rw[aR (λf=>h f.1),aR J,aR (λf=>h f.2.2)]
   have s:¬sg ts i _=L:=λs=>e (by
    simp[sg,aU,bF]at s;exact WB c J a b (by rw[<-t,s.2]))
   rw[aR (λl=>s l.2)];by_cases j:q+1<=op/\op<q+1+f/\fP op=k
   ·rw[aV j,aV ⟨J,J,j.2.2⟩]
   rw[aR j,aR (λl=>j ⟨J,J,l.2.2⟩)]
 rw[lH,this 13 1 J J];by_cases h:fP op=k
 ·rw[aV h,aV ⟨a,J,h⟩]
 rw[aR h,aR (λc=>h c.2.2)]
def Ca{op}(h:1<=op)(a:op<=13):0<=fP op/\fP op<=5:=by
 unfold fP;split
 ·omega
 split
 ·omega
 split
 ·omega
 split
 ·omega
 split
 ·omega
 split
 ·omega
 omega
def QA{f d k0}{x}{j}(h:dH ts f k0 d i=.ok (x,j))(a:k0<=6):∀m k,k+m=k0->(∀q:Int,k<=q->q<k0->lH ts q j=0)->dH ts (f+m) k d i=.ok (x,j)
 | 0,k,hk,_=>by
  have:k=k0:=J
  subst this;exact h
 | m+1,k,hk,b=>by
  rw[<-dB,dH,aR J,QA h a m _ J λq d c=>b q J c];exact adM (b _ (jm _) J) _
def KZ{f d k0}{e}(h:dH ts f k0 d i=.error e)(a:k0<=6):∀m k,k+m=k0->dH ts (f+m) k d i=.error e
 | 0,k,hk=>by
  have:=J
  subst this;exact h
 | m+1,k,hk=>by
  rw[<-dB,dH,aR J,KZ h a m _ J];rfl
end
def Ok5(x:Ex)(j:Nat)(r:Pr):Prop:=(∃b,r=.ok (b,j)/\Sim x b)∨∃a,r=.error (21,a)
def Ok5.down{ts}{i f d k0 k}{x}{j}(c:Ok5 x j (dH ts (f-(k0-k)) k0 d i))(n:k0-k<=f)(b:k0<=6)(hk:k<=k0)(g:∀q:Int,k<=q->q<k0->lH ts q j=0):Ok5 x j (dH ts f k d i):=by
 have e:f=(f-(k0-k))+(k0-k):=J
 rcases c with⟨m,h,l⟩ | ⟨a,h⟩
 ·exact .inl ⟨m,by rw[e];exact QA h b _ k J g,l⟩
 exact .inr ⟨a,by rw[e];exact KZ h b _ k J⟩
abbrev PP(t:List Tk)(d:Nat):Prop:=∀{x:Ex} wr (k a i f:Nat),da d x=L->At t i (pN d x wr)->k<=6->(wr=aL->k<=cM x)->a<=20->gH k a<=f->i+I (pN d x wr)<(I t)->(∀q:Int,k<=q->q<=5->lH t q (i+I (pN d x wr))=0)->Ok5 x (i+I (pN d x wr)) (dH t f k a i)
abbrev QQ(t:List Tk)(d:Nat):Prop:=∀{x:Ex} (k b i f:Nat),da d x=L->x.k=5->k=cM x->At t i (pN d x aL)->b<=20->gH k b<=f+1->i+I (pN d x aL)<(I t)->(∀q:Int,k<q->q<=5->lH t q (i+I (pN d x aL))=0)->
 (∃c g,(I t)-(i+I (pN d x aL))<=g/\dH t (f+1) k b i=kP t (dH t f (k+1) b) k g c (i+I (pN d x aL))/\Sim x c)∨∃a,dH t (f+1) k b i=.error (21,a)
def DS(x:Ex):x=.mk x.k x.n x.s x.op x.dC x.a:=by cases x;rfl
section
variable {ts:List Tk} {d:Nat}
def QB(P:PP ts d)(hQ:QQ ts d):QQ ts (d+1):=by
 intro x k b c f S E T G N F W r;rw[da,aU]at S;obtain⟨u,m⟩:=S;obtain⟨_,y,z,B,X,V⟩:=qO u J J J J;have p:x.n=0/\x.s=[]:=by
  rw[iq,aR J,aR J,aR J,aV E,aU]at u;have:=xz u.2;exact⟨this.1,this.2.1⟩
 have am:cM x=fP x.op:=by rw[cM,aV E]
 obtain⟨r0,r5⟩:=Ca X V;have Y:pN (d+1) x aL=(pN d y (decide (cM y<cM x))++(4,eX x.op.toNat,0)::pN d z (decide (cM z<=cM x))):=by
  rw[pN,aR J,aR J,aR J,aR J,B];simp[opk,clk]
 rw[Y]at G W r⊢;rw[B]at m;simp only[ku,dK,aU]at m;have i:=G.left;have o:=G.right;have v:=o.tail;obtain⟨t1,t2,_⟩:=o.head;rw[aO,ba]at W r⊢;generalize l:c+I (pN d y _)=j at*
 have w:c+(I (pN d y (decide (cM y<cM x)))+(I (pN d z (decide (cM z<=cM x)))+1))=j+1+I (pN d z (decide (cM z<=cM x))):=J
 rw[w]at W r⊢;generalize n:j+1+I (pN d z _)=j2 at*
 have C:∀q:Int,lH ts q j=if fP x.op=q then x.op else 0:=λq=>by
  have:=amm (ts:=ts) (i:=j) (op:=x.op.toNat) J J t1 t2 q;rwa[jL J]at this
 have t:x=.mk 5 0 [] x.op [y,z] x.a:=by
  have:=DS x;rw[E,p.1,p.2,B]at this;exact this
 have R:gH (k+1) b<=f:=by unfold gH at F⊢;omega
 have D:(∃e g,(I ts)-j<=g/\dH ts (f+1) k b c=kP ts (dH ts f (k+1) b) k g e j/\Sim y e)∨∃a,dH ts (f+1) k b c=.error (21,a):=by
  by_cases d:cM y=cM x
  ·have a:decide (cM y<cM x)=aL:=bD J;have z:y.k=5:=by
    refine bT λhn=>?_;have:cM y=6:=by rw[cM,aR hn]
    omega
   rw[a]at i l;have:=hQ (x:=y) k b c f m.1 z (by rw[d];exact T) i N F J (λq h1 h=>by rw[l,C,aR J]);rw[l]at this;exact this
  have:=P (x:=y) _ (k+1) b c f m.1 i J (λA=>by have:=aQ A;omega) N R J (λq h1 h=>by rw[l,C,aR J]);rw[l]at this;rw[dH,aR J];rcases this with⟨e,h1,h⟩ | ⟨a,h1⟩
  ·exact .inl ⟨e,(I ts)-j,aX _,ahS,h⟩
  exact .inr ⟨a,ahS⟩
 refine D.elim (λ⟨e,g,hg,h1,h⟩=>?_) .inr;obtain⟨g,rfl⟩:∃aC,g=aC+1:=⟨g-1,J⟩
 have kH:lH ts (k:Int) j=x.op:=by rw[C,aV J]
 have H:=P (x:=z) _ (k+1) b (j+1) f m.2 v J (λA=>by have:=aQ A;omega) N R J (λq h1 h=>by rw[n];exact r q J h);rw[n]at H;rw[h1,kP,kH,aR J];rcases H with⟨z',s,h4⟩ | ⟨a,s⟩
 ·refine .inl ⟨.mk 5 0 [] x.op [e,z'] e.a,g,J,by rw[s];rfl,?_⟩;rw[t];exact .two _ _ _ _ _ _ _ _ _ _ h h4
 exact .inr ⟨a,by rw[s];rfl⟩
def abe(P:PP ts d)(g:QQ ts d):PP ts (d+1):=by
 have p:∀{x:Ex} (k b i f:Nat),da (d+1) x=L->At ts i (pN (d+1) x aL)->k<=6->(k:Int)<=cM x->b<=20->gH k b<=f->i+I (pN (d+1) x aL)<(I ts)->(∀q:Int,(k:Int)<=q->q<=5->lH ts q (i+I (pN (d+1) x aL))=0)->Ok5 x (i+I (pN (d+1) x aL)) (dH ts f k b i):=by
  intro x k b i f t u e E N hf W h;have v:=t;rw[da,aU]at t;obtain⟨j,l⟩:=t;by_cases r:x.k=5
  ·obtain⟨_,y,z,D,G,T⟩:=qO j J J J J;have s:cM x=fP x.op:=by rw[cM,aV r]
   obtain⟨F,H⟩:=Ca G T;obtain⟨c,n⟩:∃c:Nat,(c:Int)=cM x:=⟨(cM x).toNat,J⟩
   refine Ok5.down (k0:=c) ?_ aci J J λq h1 a=>h q h1 J;obtain⟨m,d⟩:∃w,f-(c-k)=w+1:=⟨f-(c-k)-1,aci⟩
   rw[d];rcases QB P g c b i m v r n u N (by unfold gH at hf⊢;omega) W (λq h1 a=>h q J a)with⟨A,B,C,h1,a⟩ | o
   ·exact .inl ⟨A,by rw[h1];exact adM (h _ J J) _,a⟩
   exact .inr o
  refine Ok5.down (k0:=6) ?_ aci J J λq h1 n=>h q h1 J;obtain⟨w,o⟩:∃z,f-(6-k)=z+1:=⟨f-(6-k)-1,aci⟩
  have R:(20-b)*8<=w:=aci
  rw[o,dH,aV rfl];unfold qt;by_cases m:x.k=1
  ·have y:pN (d+1) x aL=[(3,[],x.n)]:=by rw[pN,aV m];rfl
   rw[y]at u⊢;obtain⟨f,a,k⟩:=u.head;dsimp only at f a k;rw[Wt a X,Wt a X,Wt a X,aR X,aR X,aV f,k];refine .inl ⟨_,rfl,?_⟩;rw[iq,aV m]at j;obtain⟨_,q,s,B⟩:=xz j;have A:x.dC=[]:=bP J;have:=DS x;rw[m,q,s,A]at this;rw[this];exact .leaf ..
  by_cases k:x.k=2
  ·have B:pN (d+1) x aL=[(1,x.s,0)]:=by rw[pN,aR m,aV k];rfl
   rw[B]at u⊢;obtain⟨a,q,D⟩:=u.head;dsimp only at a q D;have f:∀s,sg ts i s=aL:=λs=>by unfold sg;rw[a];rfl
   rw[f,f,f,aR X,aR X,aR (by rw[a];decide),aV a,q];refine .inl ⟨_,rfl,?_⟩;rw[iq,aR m,aV (.inl k),aU]at j;obtain⟨y,F,A,G⟩:=xz j.2;have C:x.dC=[]:=bP J;have:=DS x;rw[k,y,A,C]at this;rw[this];exact .leaf ..
  by_cases Y:x.k=3
  ·have S:pN (d+1) x aL=[(2,[105,110],0),(4,[40],0),(1,x.s,0),(4,[41],0)]:=by rw[pN,aR m,aR k,aV Y];rfl
   rw[S]at u⊢;obtain⟨a,A,t3⟩:=u.head;obtain⟨B,C,u3⟩:=u.tail.head;obtain⟨D,F,v3⟩:=u.tail.tail.head;obtain⟨q,y,V⟩:=u.tail.tail.tail.head;dsimp only at a A t3 B C u3 D F v3 q y V;have f:∀s,sg ts i s=aL:=λs=>by unfold sg;rw[a];rfl
   rw[f,f,f,aR X,aR X,aR (by rw[a];decide),aR (by rw[a];decide),aV ⟨a,A⟩];unfold Ej;rw[aV (Nt ⟨B,C⟩),aV D,aV (Nt ⟨q,y⟩)];refine .inl ⟨_,rfl,?_⟩;rw[iq,aR m,aV (.inr Y),aU]at j;obtain⟨G,b2,H,b4⟩:=xz j.2;have T:x.dC=[]:=bP J;have:=DS x;rw[Y,G,H,T]at this;rw[F,this];exact .leaf ..
  have s:x.k=4:=bT λs=>r (qO j m k Y s).1;obtain⟨y,C,f⟩:=vM j s;have G:pN (d+1) x aL=(4,eX x.op.toNat,0)::pN d y (decide (cM y<6)):=by
   rw[pN,aR m,aR k,aR Y,aV s,C];simp[opk,clk]
  rw[G]at u W⊢;rw[C]at l;simp only[ku,dK]at l;obtain⟨D,A,H⟩:=u.head;dsimp only at D A H;have B:(sg ts i [45]||sg ts i [33])=L:=by
   rcases f with f | f
   ·have:sg ts i [45]=L:=Nt ⟨D,by rw[A,f];rfl⟩;rw[this,Ov]
   have:sg ts i [33]=L:=Nt ⟨D,by rw[A,f];rfl⟩;rw[this,oV]
  rw[aV B];by_cases F:b=20
  ·exact .inr ⟨(tk ts i).a,by rw[jN,aV F];rfl⟩
  rw[jN,aR F];rw[ba]at W⊢;have S:i+(I (pN d y (decide (cM y<6)))+1)=i+1+I (pN d y (decide (cM y<6))):=J
  rw[S]at W⊢;rcases P (x:=y) (decide (cM y<6)) 6 (b+1) (i+1) w l u.tail (aX _) (λT=>by have:=aQ T;omega) J acT W (λq h1 n=>J)with⟨V,h1,n⟩ | ⟨a,h1⟩
  ·refine .inl ⟨_,ahS,?_⟩;rw[iq,aR m,aR J,aV s]at j;obtain⟨a,d,y,b4⟩:=xz j;have q:(if(tk ts i).t=[33]then(15:Int)else 14)=x.op:=by
    rcases f with f | f
    ·rw[A,f];rfl
    rw[A,f];rfl
   have:=DS x;rw[s,a,d,C]at this;rw[q,this];exact .one _ _ _ _ _ _ _ _ n
  exact .inr ⟨a,ahS⟩
 intro x wr k b i f t u e E N hf W h;cases wr
 ·exact p k b i f t u e (E rfl) N hf W h
 have w:pN (d+1) x L=(4,[40],0)::(pN (d+1) x aL++[(4,[41],0)]):=by
  unfold pN;simp[opk,clk]
 refine Ok5.down (k0:=6) ?_ aci J J λq h1 l=>h q h1 J;rw[w]at u W⊢;obtain⟨r,m⟩:∃y,f-(6-k)=y+1:=⟨f-(6-k)-1,aci⟩
 have R:(20-b)*8<=r:=aci
 obtain⟨v,j,A⟩:=u.head;have n:=u.tail.left;obtain⟨s,o,z⟩:=u.tail.right.head;dsimp only at v j A s o z;rw[m,dH,aV rfl];unfold qt;rw[Wt j X,Wt j X,Nt ⟨v,j⟩,aR X,aV rfl];by_cases C:b=20
 ·exact .inr ⟨(tk ts i).a,by rw[jN,aV C]⟩
 rw[jN,aR C];rw[ba,aO,bI]at W⊢;have k:i+(I (pN (d+1) x aL)+1+1)=i+1+I (pN (d+1) x aL)+1:=J
 rw[k]at W⊢;have f:0<=cM x:=by
  unfold cM fP;split
  ·split
   ·omega
   split
   ·omega
   split
   ·omega
   split
   ·omega
   split
   ·omega
   split
   ·omega
   omega
  omega
 rcases p 0 (b+1) (i+1) r t n J J J acT J (λq h1 l=>amj o X q)with⟨B,h1,l⟩ | ⟨a,h1⟩
 ·refine .inl ⟨B,?_,l⟩;rw[h1];simp only[ul];rw[aV (Nt ⟨s,o⟩)]
 exact .inr ⟨a,ahS⟩
def K0 ts:∀d,PP ts d/\QQ ts d
 | 0=>⟨(by intro x wr k d i f h;cases h),(by intro x k d i f h;cases h)⟩
 | d+1=>⟨abe (K0 ts d).1 (K0 ts d).2,QB (K0 ts d).1 (K0 ts d).2⟩
end
def WC{d:Nat}{x:Ex}(w:da d x=L)(F:lI d x)(h:(jh (qN d x aL [])).2.1=0):I (qN d x aL [])<=16384/\Sim x (jh (qN d x aL [])).1:=by
 have m:I (qN d x aL [])<=16384:=by
  refine bT λb=>?_;unfold jh at h;have:dl (qN d x aL [])=([],2, -1):=by rw[dl,aV J]
  rw[this,aV X]at h;exact absurd h (show ¬(2:Int)=0 by decide)
 refine⟨m,?_⟩;have i:=KX d aL [] w m;rw[cb]at i;rw[i]at h m⊢;generalize A:mU d x aL=e at*
 have v:lG e (0+I e)=.ok [⟨5,[],0,((I e:Nat):Int)⟩]:=by
  have hd:e.drop (I e)=[]:=eP (aX _);have a:lj aL []=0:=rfl;rw[bS,ni (aX _),hd,a,aV J];rfl
 obtain⟨j,E,z⟩:=B9 (l:=e) d (x:=x) aL 0 (r:=[]) w F (bm _) (by rw[jl,bG,A]) (λc b=>by cases b) (by rw[A];exact v);generalize f:j++[(⟨5,[],0,((I e:Nat):Int)⟩:Tk)]=s at*
 have G:dl e=(s,0,0):=by
  rw[dl,aR J,E]
 have u:I j=I (pN d x aL):=by rw[<-z,bJ]
 have R:I s=I j+1:=by rw[<-f,aO,bI]
 have H:At s 0 (pN d x aL):=λy q B=>by
  rw[<-z,cN,gz]at B;obtain⟨t,g,rfl⟩:=B;have:tk s (0+y)=t:=by
   unfold tk;rw[<-f,bS,bX (bf.1 g).1,g];rfl
  rw[this]
 have k:(tk s (I j)).k=5:=by
  unfold tk;rw[<-f,cd (aX _),lr];rfl
 have C:0<=cM x:=by
  unfold cM fP;split
  ·split
   ·omega
   split
   ·omega
   split
   ·omega
   split
   ·omega
   split
   ·omega
   split
   ·omega
   omega
  omega
 have P:=(K0 s d).1 (x:=x) aL 0 0 0 (gH 0 0) w H X (λ_=>J) X (aX _) J (λq _ _=>agb (by rw[bS,<-u];exact k) q);have n:xN s 0=dH s (gH 0 0) 0 0 0:=rfl;rw[<-n]at P;have o:jh e=if(cQ s 0).2.2.1≠0 then(BU,(cQ s 0).2.2.1,(cQ s 0).2.2.2)else if(tk s (cQ s 0).2.1.toNat).k≠5 then(BU,4,(tk s (cQ s 0).2.1.toNat).a)else((cQ s 0).1,0,(cQ s 0).2.2.2):=by
  unfold jh;rw[G];rfl
 rw[o]at h⊢;have N:cQ s 0=if 0<I s/\ml s+1=I s then(match xN s 0 with
  | .error (c,p)=>(BU,0,c,p)
  | .ok (x,y)=>(x,(y:Int),0,0))else(BU,0,1, -1):=by
  unfold cQ;by_cases b:0<I s/\ml s+1=I s
  ·rw[aV b,aV ⟨jm _,J,b.2⟩];rfl
  rw[aR b,aR (λa=>b ⟨J,a.2.2⟩)]
 rw[N]at h⊢;have b:0<I s/\ml s+1=I s:=bT λb=>by
  rw[aR b,aV X]at h;exact absurd h (show ¬(1:Int)=0 by decide)
 rw[aV b]at h⊢;rcases P with⟨S,g,D⟩ | ⟨a,g⟩
 ·rw[g]at h⊢;dsimp only at h⊢;rw[aR X,aW,bS,<-u,k,aR X];exact D
 rw[g]at h;dsimp only at h;rw[aV X]at h;exact absurd h (show ¬(21:Int)=0 by decide)
structure Em (ts tV:List Tk) (n o:Nat):Prop where
 e:∀i,n<=i->(tk ts i).k=5
 s:∀i,i<n->(tk tV (o+i)).k=(tk ts i).k/\(tk tV (o+i)).t=(tk ts i).t/\(tk tV (o+i)).n=(tk ts i).n
 c:(tk tV (o+n)).k=4/\((tk tV (o+n)).t=[59]∨(tk tV (o+n)).t=[93])
def Rm(n o:Nat)(r b:Pr):Prop:=∀x j,r=.ok (x,j)->∃a,b=.ok (a,o+j)/\Sim x a/\j<=n
section
variable {ts tV:List Tk} {n o:Nat}
def Em.lt(h:Em ts tV n o){i:Nat}(hk:(tk ts i).k≠5):i<n:=bT λa=>hk (h.e i J)
def Em.SI(h:Em ts tV n o){i:Nat}(c:i<n)(s:aH):sg tV (o+i) s=sg ts i s:=by
 unfold sg;obtain⟨a,b,_⟩:=h.s i c;rw[a,b]
def Rm.map{r c:Pr}(h:Rm n o r c){b g:Ex->Ex}(j:∀x a,Sim x a->Sim (b x) (g a)):Rm n o (JL b r) (JL g c):=by
 intro x l k;obtain⟨y,d,rfl⟩:=BP k;obtain⟨a,e,f,i⟩:=h y l d;exact⟨g a,by rw[e];rfl,j _ _ f,i⟩
def Rm.nest{r b:Pr}{d:Nat}{a c:Int}(f:Rm n o r b):Rm n o (jN d a r) (jN d c b):=by
 intro x j h;obtain⟨g,i⟩:=sX h;have:d≠20:=λe=>by rw[jN,aV e]at h;cases h
 rw[jN,aR this];exact f x j g
def Rm.par(w:Em ts tV n o){r a:Pr}(b:Rm n o r a):Rm n o (ul ts r) (ul tV a):=by
 intro x k f;obtain⟨j,c,h,rfl⟩:=BQ f;obtain⟨g,d,e,i⟩:=b x j c;have l:=w.lt (xn h);exact⟨g,by rw[d];simp only[ul];rw[aV (by rw[w.SI l];exact h)];rfl,e,l⟩
def Rm.err{e:Int×Int}{r:Pr}:Rm n o (.error e) r:=λx j hx=>aev
def Rm.in_(w:Em ts tV n o)(i:Nat):Rm n o (Ej ts i) (Ej tV (o+i)):=by
 intro x j h;have Y:=h;obtain⟨rfl,rfl⟩:=MW Y;unfold Ej at h;split at h
 ·rename_i a;split at h
  ·rename_i b;split at h
   ·rename_i c;have l:=w.lt (xn c);have e:(tk tV (o+i+2)).k=(tk ts (i+2)).k/\(tk tV (o+i+2)).t=(tk ts (i+2)).t/\(tk tV (o+i+2)).n=(tk ts (i+2)).n:=w.s (i+2) J;refine⟨.mk 3 0 (tk tV (o+i+2)).t 0 [] (tk tV (o+i)).a,?_,?_,l⟩
    ·unfold Ej;rw[aV (show sg tV (o+i+1) [40]=L from(w.SI (i:=i+1) J _).trans a),aV (by rw[e.1];exact b),aV (show sg tV (o+i+3) [41]=L from(w.SI (i:=i+3) l _).trans c)];rfl
    rw[e.2.1];exact .leaf ..
   cases h
  cases h
 cases h
def Rm.one(h:Em ts tV n o){a DL E Y:Nat->Pr}{d i:Nat}(c:∀i,i<=n->Rm n o (a i) (E (o+i)))(e:∀i,i<=n->Rm n o (DL i) (Y (o+i)))(f:i<=n):Rm n o (qt ts a DL d i) (qt tV E Y d (o+i)):=by
 by_cases b:i=n
 ·subst b;have h5:=h.e i (aX _);have g:∀s,sg ts i s=aL:=λs=>by
   unfold sg;rw[h5];rfl
  have:qt ts a DL d i=.error (gF ts i):=by
   unfold qt;rw[g,g,g,aR X,aR X,aR ahJ,aR ahJ,aR (by rw[h5];rintro⟨d,_⟩;exact absurd d X)]
  rw[this];exact Rm.err
 have l:i<n:=J
 obtain⟨k,d,k3⟩:=h.s i l;unfold qt;rw[h.SI l,h.SI l,h.SI l,k,d,k3];split
 ·exact Rm.map (Rm.nest (e (i+1) l)) λx j g=>.one _ _ _ _ _ _ _ _ g
 split
 ·exact Rm.nest (Rm.par h (c (i+1) l))
 split
 ·intro x j g;simp only[gr,gP]at g;obtain⟨rfl,rfl⟩:=g;exact⟨_,rfl,.leaf ..,l⟩
 split
 ·intro x j g;simp only[gr,gP]at g;obtain⟨rfl,rfl⟩:=g;exact⟨_,rfl,.leaf ..,l⟩
 split
 ·exact Rm.in_ h i
 exact Rm.err
end
def Sim.trans{x y:Ex}(h:Sim x y):∀{z:Ex},Sim y z->Sim x z:=by
 induction h with
 | leaf k n s op a b=>intro z c;cases c;exact .leaf ..
 | one k n s op a b x y h i=>intro z e;cases e with | one _ _ _ _ _ c _ z d=>exact .one _ _ _ _ _ _ _ _ (i d)
 | two k n s op a b x y m o j l i e=>intro z d;cases d with | two _ _ _ _ _ c _ _ p q f g=>exact .two _ _ _ _ _ _ _ _ _ _ (i f) (e g)
def Pk(E:aH->Prop)(p:aH)(k:List K3):Prop:=∀(l:aH) (i:Nat) (r:aH) (t:List Tk),i<=(I l)->l.drop i=p++r->E r->lG l (i+I p)=.ok t->∃u,lG l i=.ok (u++t)/\u.map k3=k
abbrev Tr:aH->Prop:=λ_=>True
def hdE(q:aH):Prop:=∃c t,q=c::t/\WA c=L
section
variable {E E':aH->Prop} {p q:aH} {a b:List K3}
def Pk.nil(E:aH->Prop):Pk E [] []:=λ_ _ _ t _ _ _ h=>⟨[],h,rfl⟩
def Pk.glue(d:Pk E p a)(k:Pk E' q b)(j:∀r,E' r->E (q++r)):Pk E' (p++q) (a++b):=by
 intro m l r s h hd c t;rw[bC]at hd;obtain⟨u,e,f⟩:=k _ _ _ _ (Bb h hd) (kU hd) c (by rw[dB,<-aO];exact t);obtain⟨v,g,i⟩:=d _ _ _ _ h hd (j r c) e;exact⟨v++u,by rw[bC];exact g,by rw[cp,f,i]⟩
def Pk.t(h:Pk Tr p a)(k:Pk E q b):Pk E (p++q) (a++b):=h.glue k λ_ _=>trivial
def hdE.Be(h:hdE q)(r:aH):EG (q++r):=by
 obtain⟨c,t,rfl,a⟩:=h;intro d hd;rw[ca,jH,bN]at hd;subst hd;exact a
def Pk.e(h:Pk EG p a)(k:Pk E q b)(c:hdE q):Pk E (p++q) (a++b):=h.glue k λr _=>c.Be r
def WD{c:UInt8}(b:pS c=L):Pk Tr [c] []:=by
 intro l i r s a hd _ t;refine⟨[],?_,rfl⟩;have h:l.drop i=c::r:=hd;have f:i+1<=I l:=Bb a hd;have d:l.drop (i+1)=r:=kU hd;have e:lj aL (c::r)=1+lj aL r:=by rw[lj,aV b]
 rw[oH a,h,e,<-dB];rw[bI,oH f,d]at t;exact t
def Pk.sp(h:Pk E q b):Pk E (32::q) b:=(WD (c:=32) X).t h
def Pk.nl(h:Pk Tr p a):Pk Tr (p++[10]) a:=by
 have:=h.t (WD (c:=10) X);rwa[bG]at this
def age{k:Int}{t:aH}{n:Int}(b:p≠[])(h:∀r,E r->lj aL (p++r)=0/\nq (p++r)=.ok (k,t,n,I p)):Pk E p [(k,t,n)]:=λl i r s d hd a c=>
 ⟨[⟨k,t,n,(i:Nat)⟩],wj hd b (h r a).1 (h r a).2 c,rfl⟩
def ast{c:UInt8}(h:fZ c=aL)(a:du c=aL)(b:[60,62,61,33].contains c=aL)(e:[38,124].contains c=aL)(f:(c==45)=aL)(g:pT.contains c=L)(r:aH):nq (c::r)=.ok (4,[c],0,1):=by
 have s:sU (c::r)=aL:=by
  cases r with
  | nil=>rfl
  | cons d r=>
   show((d==61&&[60,62,61,33].contains c)||(d==c&&[38,124].contains c)||(c==45&&d==62))=aL;rw[b,e,f];simp
 exact qU h a g s
def kS1(c:UInt8):K3:=(4,[c],0)
def Pk.one(c:UInt8)(a:fZ c=aL)(d:du c=aL)(e:[60,62,61,33].contains c=aL)(f:[38,124].contains c=aL)(g:(c==45)=aL)(i:pT.contains c=L)(j:pS c=aL)(k:(c==47)=aL)(h:Pk E q b):Pk E (c::q) (kS1 c::b):=
 (age (p:=[c]) (E:=Tr) aaV λr _=>⟨Ws j k,ast a d e f g i r⟩).t h
end
def WE{p:aH}{a:List K3}(h:Pk Tr p a):∀d,Pk Tr (vV d++p) a
 | 0=>h
 | d+1=>Pk.sp (Pk.sp (WE h d))
def amn{d:Nat}{p:aH}{a:List K3}(h:Pk Tr p a):Pk Tr (lnT (d,p)) a:=WE h.nl d
def Lq(a:List Ln)(k:List K3):Prop:=Pk Tr (ado a) k
def Lq.nil:Lq [] []:=Pk.nil _
def Lq.one{d:Nat}{p:aH}{a:List K3}(h:Pk Tr p a):Lq [(d,p)] a:=by
 unfold Lq ado;rw[yw,tW,bG];exact amn h
structure Rr (F:aJ) (ts:List Tk) (w:M) (b:Nat) (l:Sl) (i:Nat) (fc fa d:Int):Prop where
 blk:aF w b 363 [l.v,O U (i:Int),O U d,O U fc,O U fa]
 tok:aA Iy 4 w F l ts
 hF:∀k,F k->k<b
 en:xj ts
 lt:i<I ts
section
variable {F:aJ} {ts:List Tk} {w w':M} {b:Nat} {l:Sl} {i:Nat} {fc fa d:Int}
def Rr.only(h:Rr F ts w b l i fc fa d)(a:Z [] w w'):Rr F ts w' b l i fc fa d:=
 ⟨a.blk h.blk aaV,SliceF.only iX X h.tok a aaV,h.hF,h.en,h.lt⟩
def Rr.kY(h:Rr F ts w b l i fc fa d)(c:Z [b] w w'){a:Nat}{fc' fa' d'}(B:aF w' b 363 [l.v,O U a,O U d',O U fc',O U fa'])(e:a<I ts):Rr F ts w' b l a fc' fa' d':=
 ⟨B,SliceF.only iX X h.tok c λk hk _ m=>by have:=h.hF k hk;simp at m;omega,h.hF,h.en,e⟩
def Rr.own(h:Rr F ts w b l i fc fa d){bs}(a:Z bs w w')(hb:∀x,x∈bs->b<x):Rr F ts w' b l i fc fa d:=
 ⟨a.blk h.blk λhm=>by have:=hb b hm;omega,SliceF.only iX X h.tok a λk hk _ hm=>adn,h.hF,h.en,h.lt⟩
def Rr.lb(h:Rr F ts w b l i fc fa d):b<w.heap.size:=h.blk.lt
def Rr.big(h:Rr F ts w b l i fc fa d):I ts<=9223372036854775807:=by
 have a:=h.tok.len;have c:=h.tok.cap;have e:=h.tok.big;omega
def Rr.now(h:Rr F ts w b l i fc fa d):∃ad,cT l i 4 ad/\aB w ad [O U (tk ts i).k,K (T (tk ts i).t),O U (tk ts i).n,O U (tk ts i).a]:=by
 have k:=h.tok.len;have W:=h.lt;obtain⟨ad,x,s,a,g,f,j,c,e⟩:=h.tok.get (aZ i) J;rw[aW,C7 h.lt]at g;injection g with g;subst g;subst e;exact⟨ad,a,c⟩
def HT(h:Rr F ts w b l i fc fa d) c:az Q 319 #[ae (aM ⟨b,0,aaf⟩),O U c] w λe w'=>e=ak (ai #[])/\Z [b] w w'/\
  Rr F ts w' b l i (if fc=0 then c else fc) (if fc=0 then(tk ts i).a else fa) d:=by
 refine ret (ar1 _ _ ?_);refine⟨fc,Blk.dM h.blk 3 rfl,λhc a D=>?_,λhc=>?_⟩
 ·have hc:=abv
  subst hc;have c:=h.only D;obtain⟨ad,g,d⟩:=c.now;exact⟨l,Blk.dM c.blk 0 rfl,_,Blk.dM c.blk 1 rfl,ad,g,_,d.dM 3 _ rfl,b,3,_,_,rfl,c.blk,aaV,λw R n=>⟨rfl,D.weaken (λ_ h=>abG) |>.trans R (λx e=>.inl e),c.kY R n h.lt⟩⟩
 have hc:=abv
 rw[aR hc,aR hc];exact⟨rfl,Only.refl _ _,h⟩
def DT(h:Rr F ts w b l i fc fa d):az Q 318 #[ae (aM ⟨b,0,aaf⟩)] w λe w'=>e=ak (ai #[])/\Z [b] w w'/\
  Rr F ts w' b l i (if fc=0 then(gF ts i).1 else fc) (if fc=0 then(gF ts i).2 else fa) d:=by
 refine ret (ar0 _ ?_);obtain⟨ad,g,a⟩:=h.now;refine⟨l,Blk.dM h.blk 0 rfl,_,Blk.dM h.blk 1 rfl,ad,g,_,a.dM 0 _ rfl,λhc f c=>(HT (h.only c) 3).mono ?_,λhc j R=>(HT (h.only R) 4).mono ?_⟩
 ·have hc:=abv
  rintro _ w ⟨rfl,E,b⟩;unfold gF;rw[aV hc];exact⟨rfl,rfl,c.weaken (λ_ h=>abG) |>.trans E (λx d=>.inl d),b⟩
 have hc:=abv
 rintro _ w ⟨rfl,E,b⟩;unfold gF;rw[aR hc];exact⟨rfl,rfl,R.weaken (λ_ h=>abG) |>.trans E (λx d=>.inl d),b⟩
def zA(f:Rr F ts w b l i fc fa d) s:az Q 314 #[ae (aM ⟨b,0,aaf⟩),K (T s)] w λe w'=>e=ak (aj (fc==0&&sg ts i s))/\Z [] w w':=by
 refine ret (arW _ _ ?_);intro m c;have h:=f.only c;obtain⟨ad,g,a⟩:=h.now;refine⟨λ_=>True,trivial,l,Blk.dM h.blk 0 rfl,trivial,_,Blk.dM h.blk 1 rfl,ad,g,trivial,_,_,_,_,a,λk n hk j E=>⟨fc,Blk.dM (h.only E).blk 3 rfl,?_,c.cn E⟩⟩;rw[iV,rq];rfl
def Cb(h:Rr F ts w b l i fc fa d) s:az Q 316 #[ae (aM ⟨b,0,aaf⟩),K (T s)] w λe w'=>e=ak (ai #[])/\Z [b] w w'/\
  (if fc==0&&sg ts i s then Rr F ts w' b l (i+1) fc fa d else Rr F ts w' b l i (if fc=0 then(gF ts i).1 else fc) (if fc=0 then(gF ts i).2 else fa) d):=by
 refine ret (arY _ _ ?_);refine(zA h s).mono ?_;rintro _ f ⟨rfl,E⟩;have a:=h.only E;have j:Z [b] w f:=E.weaken λ_ h=>abG
 refine⟨_,rfl,λc=>(DT a).mono ?_,λc=>?_⟩
 ·rintro _ w ⟨rfl,R,h⟩;have c:(fc==0&&sg ts i s)=aL:=by rwa[dr]at c
  rw[c];exact⟨rfl,rfl,j.trans R (λx b=>.inl b),h⟩
 have c:=by rwa[gY]at c
 rw[c];simp at c;have n:=h.en.next h.lt (xn c.2);have g:=h.big;refine⟨i,Blk.dM a.blk 1 rfl,b,1,_,_,rfl,a.blk,aaV,λw d t=>⟨rfl,j.trans d (λx e=>.inl e),a.kY d ?_ n⟩⟩;rw[fe J J]at t;exact t
def QC{d:Nat}(hd:d<=20)(h:Rr F ts w b l i 0 0 d)(n:i+1<I ts):az Q 315 #[ae (aM ⟨b,0,aaf⟩)] w λe w'=>e=ak (aj (!decide (d=20)))/\Z [b] w w'/\
  (if d=20 then Rr F ts w' b l i 21 (tk ts i).a d else Rr F ts w' b l (i+1) 0 0 ((d+1:Nat))):=by
 refine ret (arX _ ?_);have a:=h.big;refine⟨d,Blk.dM h.blk 2 rfl,λhc=>(HT h 21).mono ?_,λhc=>?_⟩
 ·have hc:d=20:=by
   have:=abv
   omega
  rintro _ w ⟨rfl,c,R⟩;refine⟨rfl,by rw[bE hc];rfl,c,?_⟩;rw[aV hc];exact R
 have hc:d≠20:=λe=>aeH
 refine⟨d,Blk.dM h.blk 2 rfl,b,2,_,_,rfl,h.blk,aaV,λw E t=>?_⟩;rw[fe J J]at t;have c:=h.kY E t h.lt;refine⟨i,Blk.dM c.blk 1 rfl,b,1,_,_,rfl,c.blk,aaV,λg R j=>?_⟩;rw[fe J J]at j;refine⟨by rw[bD hc];rfl,E.trans R λx f=>.inl f,?_⟩;rw[aR hc];exact c.kY R j n
end
def qV:List (List (aH)):=[[[124,124]],[[38,38]],[[61,61],[33,61]],[[60],[60,61],[62],[62,61]],[[43],[45]],[[42],[47],[37]]]
def fx:List (List Int):=[[13],[12],[10,11],[6,7,8,9],[1,2],[3,4,5]]
def DU:Rp Int:=λ_ _ x c=>c=[O U x]
def nU:DU.Ok where
 keep h _:=h
 inHeap h:=h
 mono h _:=h
 one:=by
  rintro w F x c rfl v h;simp at h;subst h;rfl
def HU{a:Type}(r:Rp a):Rp (List a):=λw F x c=>∃s,c=[s.v]/\aA r 1 w F s x
def wY{α}{b:Rp α}(r:b.Ok):(HU b).Ok where
 keep:=λ⟨s,h,a⟩ hk=>⟨s,h,SliceF.keep r a X hk⟩
 inHeap:=λ⟨s,h,a⟩=>⟨s,h,SliceF.inHeap r a X⟩
 mono:=λ⟨s,h,a⟩ hk=>⟨s,h,SliceF.mono r a hk⟩
 one:=by
  rintro w F x d ⟨s,rfl,_⟩ v c;simp at c;subst c;rfl
def Aw w l {n} {parts} (h:parts=(((l.map λx=>Value.int U x).zipIdx 0).map λx=>(x.2,x.1)).toArray) (hn:I l=n) (b:0<n) (o:n*1<=16777216):
  ∃s a,(au 33 n parts).run Q w=.ok (Sl.v s) a/\Own DU 1 3 w.heap.size a (λ_=>True) s l/\Z [] w a:=by
 have E:qf DU 1 w (λ_=>True) l ((l.map λx=>Value.int U x).map λv=>v.cells.toList):=by
  clear h hn
  induction l with
  | nil=>trivial
  | cons x l i=>exact⟨⟨rfl,rfl⟩,i⟩
 obtain⟨s,a,c,d,f,_⟩:=ju (P:=Q) (t:=33) (e:=3) (i:=Tryz.t3) (r:=DU) (size:=1) aaz aaz rfl rfl X h agL b o nU E;exact⟨s,a,c,d,f⟩
def WG{α}{r:Rp α}(c:r.Ok){t e}{ti}(q:Tryz.prog.underlying t=aM (.slice e))(m:Tryz.prog.info? e=aM ti){z}(u:ti.zero=aM z)(o:ti.size=1){w}{F}{xs}(a:List Sl){n}{parts}(p:parts=(((a.map λs=>s.v).zipIdx 0).map λx=>(x.2,x.1)).toArray)(hn:I a=n)(f:0<n)(y:n*1<=16777216)
  (E:io (λx s=>I s=1/\HU r w F x s) xs (a.map λs=>[s.v])):
  ∃s b,(au t n parts).run Q w=.ok (Sl.v s) b/\aA (HU r) 1 b (λk=>F k∨w.heap.size<=k) s xs/\Z [] w b:=by
 have h:qf (HU r) 1 w F xs ((a.map λs=>s.v).map λv=>v.cells.toList):=by
  have:((a.map λs=>s.v).map λv=>v.cells.toList)=a.map λs=>[s.v]:=by
   rw[fW];rfl
  rw[this];exact E
 obtain⟨s,b,g,j,l,_⟩:=ju (P:=Q) (t:=t) (e:=e) (i:=ti) (r:=HU r) (size:=1) q m u o X p agL f y (wY c) h;exact⟨s,b,g,SliceF.mono (wY c) (j.slice (wY c)) (λk hk=>hk.imp id λd=>d.1),l⟩
def WH w:az Q 281 #[] w λe x=>∃s,e=ak s.v/\aA (HU ke) 1 x (λk=>w.heap.size<=k) s qV/\Z [] w x:=by
 refine iW (arE ?_);obtain⟨g,y,E,T,c0⟩:=kl w [[124,124]] (n:=1) (parts:=#[_]) rfl rfl X X;obtain⟨h,z,G,V,f⟩:=kl y [[38,38]] (n:=1) (parts:=#[_]) rfl rfl X X;obtain⟨i,A,H,W,d⟩:=kl z [[61,61],[33,61]] (n:=2) (parts:=#[_,_]) rfl rfl X X;obtain⟨j,B,N,Y,b⟩:=kl A [[60],[60,61],[62],[62,61]] (n:=4) (parts:=#[_,_,_,_]) rfl rfl X X;obtain⟨m,C,P,b4,a⟩:=kl B [[43],[45]] (n:=2) (parts:=#[_,_]) rfl rfl X X;obtain⟨o,D,R,b5,c⟩:=kl C [[42],[47],[37]] (n:=3) (parts:=#[_,(1,K _),_]) rfl rfl X X;have z0:=c0.size;have z1:=f.size;have z2:=d.size;have z3:=b.size;have z4:=a.size;have mk:∀{u q:M} {s:Sl} {l:List _},w.heap.size<=u.heap.size->∀{v:M},Own ke 1 9 u.heap.size v (λ_=>True) s l->Z [] v q->[s.v].length=1/\HU ke q (λk=>w.heap.size<=k) l [s.v]:=λhu v hB hO=>⟨rfl,_,rfl,SliceF.only cY X (SliceF.mono cY (uM hB) λk hk=>aet) hO aaV⟩
 obtain⟨p,w6,S,b6,c6⟩:=WG (r:=ke) cY (t:=343) (e:=32) (ti:=Tryz.t32) aaz aaz rfl rfl (w:=D) (F:=λk=>w.heap.size<=k) (xs:=qV) [g,h,i,j,m,o] (n:=6) (parts:=#[_,_,_,_,_,_]) rfl rfl X X
  ⟨mk (aX _) T (((((f.cn d).cn b).cn a).cn c)),mk J V ((((d.cn b).cn a).cn c)),mk J W ((b.cn a).cn c),mk J Y (a.cn c),mk J b4 c,mk J b5 (Only.refl _ _),trivial⟩
 have z5:=c.size;exact⟨g,y,E,h,z,G,i,A,H,j,B,N,m,C,P,o,D,R,p,w6,S,p,rfl,SliceF.mono (wY cY) b6 (λk hk=>by rcases hk with hk | hk<;>omega),(((((c0.cn f).cn d).cn b).cn a).cn c).cn c6⟩
def Nz w:az Q 280 #[] w λe x=>∃s,e=ak s.v/\aA (HU DU) 1 x (λk=>w.heap.size<=k) s fx/\Z [] w x:=by
 refine iW (arD ?_);obtain⟨g,y,E,T,c0⟩:=Aw w [13] (n:=1) (parts:=#[_]) rfl rfl X X;obtain⟨h,z,G,V,f⟩:=Aw y [12] (n:=1) (parts:=#[_]) rfl rfl X X;obtain⟨i,A,H,W,d⟩:=Aw z [10,11] (n:=2) (parts:=#[_,_]) rfl rfl X X;obtain⟨j,B,N,Y,b⟩:=Aw A [6,7,8,9] (n:=4) (parts:=#[_,_,_,_]) rfl rfl X X;obtain⟨m,C,P,b4,a⟩:=Aw B [1,2] (n:=2) (parts:=#[_,_]) rfl rfl X X;obtain⟨o,D,R,b5,c⟩:=Aw C [3,4,5] (n:=3) (parts:=#[_,_,_]) rfl rfl X X;have z0:=c0.size;have z1:=f.size;have z2:=d.size;have z3:=b.size;have z4:=a.size;have mk:∀{u q:M} {s:Sl} {l:List Int},w.heap.size<=u.heap.size->∀{v:M},Own DU 1 3 u.heap.size v (λ_=>True) s l->Z [] v q->[s.v].length=1/\HU DU q (λk=>w.heap.size<=k) l [s.v]:=λhu v hB hO=>⟨rfl,_,rfl,SliceF.only nU X (SliceF.mono nU (O6 nU (λ_ _ _ _ _ am=>am) hB) λk hk=>aet) hO aaV⟩
 obtain⟨p,w6,S,b6,c6⟩:=WG (r:=DU) nU (t:=341) (e:=33) (ti:=Tryz.t33) aaz aaz rfl rfl (w:=D) (F:=λk=>w.heap.size<=k) (xs:=fx) [g,h,i,j,m,o] (n:=6) (parts:=#[_,_,_,_,_,_]) rfl rfl X X
  ⟨mk (aX _) T (((((f.cn d).cn b).cn a).cn c)),mk J V ((((d.cn b).cn a).cn c)),mk J W ((b.cn a).cn c),mk J Y (a.cn c),mk J b4 c,mk J b5 (Only.refl _ _),trivial⟩
 have z5:=c.size;exact⟨g,y,E,h,z,G,i,A,H,j,B,N,m,C,P,o,D,R,p,w6,S,p,rfl,SliceF.mono (wY nU) b6 (λk hk=>by rcases hk with hk | hk<;>omega),(((((c0.cn f).cn d).cn b).cn a).cn c).cn c6⟩
def oP(t:List Tk)(i:Nat):List (aH)->List Int->Int
 | s::b,n::a=>if sg t i s=L then n else oP t i b a
 | _,_=>0
def WI(t:List Tk)(i k:Nat)(hk:k<6):oP t i ((qV[k]?).getD []) ((fx[k]?).getD [])=lH t (k:Int) i:=by
 match k,hk with
 | 0,_=>simp[lH,mj,fP,oP,qV,fx,eX,xM]
 | 1,_=>simp[lH,mj,fP,oP,qV,fx,eX,xM]
 | 2,_=>simp[lH,mj,fP,oP,qV,fx,eX,xM]
 | 3,_=>simp[lH,mj,fP,oP,qV,fx,eX,xM]
 | 4,_=>simp[lH,mj,fP,oP,qV,fx,eX,xM]
 | 5,_=>simp[lH,mj,fP,oP,qV,fx,eX,xM]
def NA{ts}{i}{b:List _}{a:List Int}{n}{s}{m}(h:b[n]? =aM s)(c:a[n]? =aM m):oP ts i (b.drop n) (a.drop n)=if sg ts i s=L then m else oP ts i (b.drop (n+1)) (a.drop (n+1)):=by
 rw[fF (bf.1 h).1,(bf.1 h).2,fF (bf.1 c).1,(bf.1 c).2,oP]
def WJ(k:Nat):I ((qV[k]?).getD [])=I ((fx[k]?).getD []):=by
 rcases wy k 6 with h | h
 ·match k,h with
  | 0,_=>rfl
  | 1,_=>rfl
  | 2,_=>rfl
  | 3,_=>rfl
  | 4,_=>rfl
  | 5,_=>rfl
 rw[eG (h),eG (h)];rfl
section
variable {F:aJ} {ts:List Tk} {w w':M} {b:Nat} {l:Sl} {i:Nat} {fc fa d:Int}
def WK(z:Rr F ts w b l i fc fa d){k:Nat}(hk:k<6):az Q 313 #[ae (aM ⟨b,0,aaf⟩),O U k] w λe w'=>e=ak (O U (if fc=0 then lH ts k i else 0))/\Z [] w w':=by
 refine ret (arV _ _ ?_);refine(WH w).mono ?_;rintro _ V ⟨C,rfl,R,D⟩;have n0:=R.len;have n6:I qV=6:=rfl;obtain⟨p0,x,s,u,g,g3,g4,y,P,rfl,S⟩:=R.get (aZ k) J;rw[aW]at g;refine⟨C,rfl,p0,u,P,y,(Nz V).mono ?_⟩;rintro _ Y ⟨G,rfl,N,E⟩;have m0:=N.len;have m6:I fx=6:=rfl;obtain⟨H,o,p,q,a,e3,e4,t,T,rfl,j⟩:=N.get (aZ k) J;rw[aW]at a;have h:=WI ts i k hk;have r:=WJ k;rw[g,a,jc,jc]at h r;have t1:=S.len;have t2:=j.len;have t3:=S.cap;have t4:=S.big;refine⟨G,rfl,H,q,T,t,λv B w'=>∃n,n<=I x/\B=n/\v=(I x)-n/\(fc=0->oP ts i x o=oP ts i (x.drop n) (o.drop n))/\Z [] Y w',I x,⟨0,bm _,rfl,rfl,λ_=>rfl,Only.refl _ _⟩,?_⟩;rintro v _ w2 ⟨n,hn,rfl,rfl,f,c⟩;have m:=(D.cn E).cn c;refine⟨λW=>?_,λA=>?_⟩
 ·have W:=aN W;obtain⟨p2,e,F,q1,w,q3,q4,q5,q6⟩:=(SliceF.only cY X S (E.cn c) aaV).get (aZ n) W;subst q6;rw[aW]at w;refine⟨p2,q1,_,q5,(zA (z.only m) e).mono ?_⟩;rintro _ w3 ⟨rfl,d⟩;obtain⟨p3,aC,am,r1,r2,r3,r4,r5,r6⟩:=(SliceF.only nU X j (c.cn d) aaV).get (i:=n) (aZ n) J;subst r6;have l:=NA (ts:=ts) (i:=i) w r2;refine⟨_,rfl,λb=>⟨p3,r1,aC,r5,?_,m.cn d⟩,λb=>⟨(I x)-_,J,n+1,J,aaA,rfl,λk=>?_,c.cn d⟩⟩
  ·simp at b;rw[aV b.1,<-h,f b.1,l,aV b.2]
  rw[f k,l,aR];intro i;rw[k,i]at b;exact absurd b X
 have A:=aQ A;refine⟨?_,m⟩;by_cases b:fc=0
 ·rw[aV b,<-h,f b,eP J];rfl
 rw[aR b]
end
def uB(F:aJ)(t:List Tk)(a w:M)(b:Nat)(l:Sl)(d:Nat)(r:Pr)(v:aw):Prop:=Z [b] a w/\match r with
 | .ok (x,j)=>∃c,v=ah c.toArray/\RX w a.heap.size w.heap.size x c/\Rr F t w b l j 0 0 d
 | .error e=>e.1≠0/\exT v/\∃j,Rr F t w b l j e.1 e.2 d
section
variable {F:aJ} {ts:List Tk} {w w':M} {b:Nat} {l:Sl} {i:Nat} {fc fa:Int}
def uB.qY{d}{r}{v}(h:uB F ts w w' b l d r v):exT v:=by
 obtain⟨_,h⟩:=h;cases r with
 | error e=>exact h.2.1
 | ok q=>
  obtain⟨c,rfl,x,_⟩:=h;obtain⟨sl,rfl,_⟩:=x.cells;exact⟨_,_,_,_,_,_,rfl⟩
def uB.D4{w0 w1 w2 w3}{d}{r}{v}(a:uB F ts w1 w2 b l d r v)(D:Z [b] w0 w1){bs}(c:Z bs w2 w3)(f:∀x,x∈bs->b<x/\w0.heap.size<=x/\x<w1.heap.size):uB F ts w0 w3 b l d r v:=by
 obtain⟨g,a⟩:=a;refine⟨(D.trans g λx h=>.inl h).trans c λx h=>.inr (f x h).2.1,?_⟩;cases r with
 | error e=>
  obtain⟨b,d,j,i⟩:=a;exact⟨b,d,j,i.own c λx h=>(f x h).1⟩
 | ok q=>
  obtain⟨s,b,d,e⟩:=a;exact⟨s,b,(d.only c λx h=>.inl (f x h).2.2).wide D.size c.size,e.own c λx h=>(f x h).1⟩
def agf:exT (ah #[O U 0,O U 0,K (ao #[]),O U 0,Sl.nil.v,O U 0]):=⟨0,0,[],0,Sl.nil,0,rfl⟩
def amo{d:Nat}(h:Rr F ts w b l i 0 0 d)(t:i+1<I ts):az Q 317 #[ae (aM ⟨b,0,aaf⟩)] w λe w'=>∃v,e=ak v/\uB F ts w w' b l d (Ej ts i) v:=by
 refine arZ ⟨b,0,aaf⟩ _ w ?_;intro m X T H D;have N:=h.lb;have S:=h.big;have z0:=D.size;have g:=h.only D;obtain⟨ad,o,p⟩:=g.now;refine⟨λ_=>True,trivial,l,Blk.dM g.blk 0 rfl,trivial,_,Blk.dM g.blk 1 rfl,ad,o,trivial,_,p.dM 3 _ rfl,λz C W V E=>?_⟩;have z1:=E.size;have c:=g.only E;have y:=D.cn E;have sm:∀{u f:M},C.heap.size<=u.heap.size->Z [b] u f->cr [m,z] u f:=λP q=>q.same acE;refine⟨(i:Int),Blk.dM c.blk 1 rfl,b,1,_,_,rfl,c.blk,aaV,J,J,λG R n=>?_⟩;rw[fe J J]at n;have k:=c.kY R n t;have z2:=R.size;have A:Z [b] w G:=(y.weaken λ_ h=>abG).trans R λx hx=>.inl hx;refine(Cb k [40]).mono ?_;rintro _ Y ⟨rfl,j,a⟩;have z3:=j.size;have r:=A.trans j λx hx=>.inl hx;refine⟨rfl,sm J j,?_⟩;rw[show((0:Int)==0)=L from rfl,cm,aV rfl,aV rfl]at a;have B:∀{u f:M},Z [b] w u->Z [m] u f->Z [b] w f:=λc k=>c.new k T;by_cases s:sg ts (i+1) [40]=L
 ·rw[aV s]at a;refine⟨0,Blk.dM a.blk 3 rfl,λhc=>(by simp at hc),λ_=>?_⟩;obtain⟨Cp,u1,u2⟩:=a.now;refine⟨l,Blk.dM a.blk 0 rfl,_,Blk.dM a.blk 1 rfl,Cp,u1,_,u2.dM 0 _ rfl,λhc w5 e=>(DT (a.only e)).mono ?_,λhc w8 v=>?_⟩
  ·have hc:=abv
   rintro _ w ⟨rfl,d,h⟩;have F:=e.size;refine⟨rfl,sm J d,λl b=>⟨B ((r.cn e).trans d λx hx=>.inl hx) b,?_⟩⟩;rw[Ej,aV s,aR hc];exact⟨gw,⟨_,_,[],_,_,_,rfl⟩,i+2,h.own b aba⟩
  have hc:=abv
  have z8:=v.size;have h8:=a.only v;obtain⟨am,v1,v2⟩:=h8.now;refine⟨l,Blk.dM h8.blk 0 rfl,_,Blk.dM h8.blk 1 rfl,am,v1,_,v2.dM 1 _ rfl,λw9 gp=>?_⟩;have z9:=gp.size;have h9:=h8.own gp aba;have XM:Z [b] w w9:=(r.cn v).new gp J;have aC:=h.en.next a.lt (by show(tk ts _).k≠5;rw[hc];decide);refine⟨_,Blk.dM h9.blk 1 rfl,b,1,_,_,rfl,h9.blk,aaV,J,J,λdA dR oT=>?_⟩;rw[fe J J]at oT;have vp:Rr F ts dA b l _ 0 0 d:=h9.kY dR oT aC;have LA:=dR.size;refine(Cb vp [41]).mono ?_;rintro _ dL ⟨rfl,eh,YA⟩;refine⟨rfl,sm J eh,λez eM=>⟨B ((XM.trans dR λx hx=>.inl hx).trans eh λx hx=>.inl hx) eM,?_⟩⟩;rw[show((0:Int)==0)=L from rfl,cm,aV rfl,aV rfl]at YA;rw[Ej,aV s,aV hc];by_cases L8:sg ts (i+3) [41]=L
  ·rw[aV L8];rw[aV (L8)]at YA;exact⟨_,rfl,.leaf ..,YA.own eM aba⟩
  rw[aR L8];rw[aR (show ¬sg ts _ [41]=L from L8)]at YA;exact⟨gw,⟨_,_,_,_,_,_,rfl⟩,i+1+1+1,YA.own eM aba⟩
 rw[aR s]at a;refine⟨_,Blk.dM a.blk 3 rfl,λhc w d=>⟨B r d,?_⟩,λhc=>absurd abv (gw (ts:=ts) (i:=i+1))⟩;rw[Ej,aR s];exact⟨gw,⟨_,_,[],_,_,_,rfl⟩,i+1,a.own d aba⟩
def agh{f d:Nat}(hd:d<=20)(h:Rr F ts w b l i 0 0 (d:Int))
  (hE:d≠20->∀w i,Rr F ts w b l i 0 0 ((d+1:Nat):Int)->az Q 306 #[ae (aM ⟨b,0,aaf⟩),O U 0] w λe w'=>∃v,e=ak v/\uB F ts w w' b l (d+1) (dH ts f 0 (d+1) i) v)
  (E:d≠20->∀w i,Rr F ts w b l i 0 0 ((d+1:Nat):Int)->az Q 312 #[ae (aM ⟨b,0,aaf⟩)] w λe w'=>∃v,e=ak v/\uB F ts w w' b l (d+1) (dH ts f 6 (d+1) i) v):
  az Q 312 #[ae (aM ⟨b,0,aaf⟩)] w λe w'=>∃v,e=ak v/\uB F ts w w' b l d (dH ts (f+1) 6 d i) v:=by
 have eR:dH ts (f+1) 6 d i=qt ts (dH ts f 0 (d+1)) (dH ts f 6 (d+1)) d i:=by rw[dH,aV rfl]
 rw[eR];generalize am:dH ts f 0 (d+1)=P at*
 generalize aC:dH ts f 6 (d+1)=DL at*
 generalize R:qt ts P DL d i=o;rw[qt]at R;refine arU _ (λv w'=>uB F ts w w' b l d o v) w ?_;intro j w0 fT dZ G;have hb:=h.lb;have SW:=h.big;have A:=G.size;have t:=h.only G;obtain⟨ad,g1,g2⟩:=t.now;refine⟨λ_=>True,trivial,l,Blk.dM t.blk 0 rfl,trivial,_,Blk.dM t.blk 1 rfl,ad,g1,trivial,_,_,_,_,g2,λp V mA jS H=>?_⟩;have C:=H.size;have y:=t.only H;have sm:∀{u m:M},V.heap.size<=u.heap.size->Z [b] u m->cr [j,p] u m:=λhu N=>N.same acE;have D:∀{u m:M},V.heap.size<=u.heap.size->Z [] u m->cr [j,p] u m:=λhu N=>N.same (by intro x hx;simp only[aY,bA,cf]at hx;exact⟨J,aaV⟩);refine(zA y [45]).mono ?_;rintro _ w2 ⟨rfl,r⟩;have z2:=r.size;have z:=y.only r;refine⟨_,rfl,D J r,(zA z [33]).mono ?_⟩;rintro _ w3 ⟨rfl,s⟩;have z3:=s.size;have S:=z.only s;refine⟨_,rfl,D J s,(zA S [40]).mono ?_⟩;rintro _ Y ⟨rfl,W⟩;have z4:=W.size;have g:=S.only W;have wq:Z [] w Y:=(((G.cn H).cn r).cn s).cn W;have n:Z [b] w Y:=wq.weaken λ_ h=>abG
 have B:∀{u m:M},Z [b] w u->Z [j] u m->Z [b] w m:=λy z=>y.new z fT;rw[show((0:Int)==0)=L from rfl,cm,cm,cm];refine⟨_,rfl,D J W,0,Blk.dM g.blk 3 rfl,λhc=>(by simp at hc),λ_=>⟨λhs=>?_,λhs=>⟨λhp=>?_,λhp=>⟨λhi=>?_,λhi=>⟨λhv=>?_,λhv=>?_⟩⟩⟩⟩⟩
 ·rw[aV hs]at R;have ik:(tk ts i).k≠5:=by
   rcases cu _ _▸hs with e | e<;>exact xn e
  have hn:=h.en.next h.lt ik;refine(QC hd g hn).mono ?_;rintro _ w6 ⟨rfl,dY,f⟩;have z6:=dY.size;have N8:=n.trans dY λx hx=>.inl hx;refine⟨_,rfl,sm J dY,λhc w7 gq=>⟨B N8 gq,?_⟩,λhc=>?_⟩
  ·have hc:d=20:=abv
   rw[aV hc]at f;rw[<-R,jN,aV hc];exact⟨(by decide:(21:Int)≠0),agf,i,f.own gq aba⟩
  have hc:d≠20:=abv
  rw[aR hc]at f;rw[jN,aR hc]at R;refine(E hc w6 (i+1) f).mono ?_;rintro _ w8 ⟨v,rfl,hD⟩;obtain⟨vk,vn,vs,vo,vl,va,rfl⟩:=hD.qY;have z8:=hD.1.size;refine⟨_,_,_,_,_,_,rfl,sm J hD.1,λk2 w9 qF rn gp=>?_⟩;have z9:=gp.size;have aT:=N8.trans hD.1 λx hx=>.inl hx;have bV:∀{aS:Nat} {c a:Int},Rr F ts w8 b l aS c a ((d+1:Nat):Int)->∃i9:Int,aB w9 (Addr.add ⟨b,0,aaf⟩ 2) [O U i9]/\∃k3 k4:Nat,∃A:aI,∃k5:Nat,(Addr.add ⟨b,0,aaf⟩ 2)=⟨k3,k4,aaf⟩/\aF w9 k3 k5 A/\(k4+1)<=I A/\j≠k3/\p≠k3/\k2≠k3/\
    ∀dA:M,Z [k3] w9 dA->aF dA k3 k5 (fQ A k4 [O U (ar U (i9-1))])->Z [b] w8 dA/\Rr F ts dA b l aS c a (d:Int):=fun{aS c a} h8=>by
   have e:=h8.only gp;refine⟨((d+1:Nat):Int),Blk.dM e.blk 2 rfl,b,2,_,_,rfl,e.blk,aaV,J,J,J,λdA dR T=>?_⟩;have i:((d+1:Nat):Int)-1=d:=J
   rw[i,fe J J]at T;exact⟨(gp.weaken (bs':=[b]) λ_ h=>abG).trans dR λx hx=>.inl hx,e.kY dR T e.lt⟩
  have fin:∀{aS:Nat} {c a:Int} {dA:M},Z [b] w8 dA->Rr F ts dA b l aS c a (d:Int)->w9.heap.size<=dA.heap.size->(∀op sl ez,Z [] dA ez->aF ez dA.heap.size 68 (oa vk vn vs vo vl va)->op=(if(tk ts i).t=[33]then(15:Int)else 14)->sl=(⟨aM ⟨dA.heap.size,0,aaf⟩,1,1⟩:Sl)->∀fj,Z [j] ez fj->uB F ts w fj b l d o (ah #[O U 4,O U 0,K (ao #[]),O U op,sl.v,O U (tk ts i).a]))->
    ∃q:Int->M->Prop,(∀k:Int,∀h:M,q k h->∃v:Sl,∃ez:M,((au 66 1 #[.mk 0 (ah #[O U vk,O U vn,K (T vs),O U vo,vl.v,O U va])]).run Q h)=(.ok v.v ez)/\
     cr [j,p,k2] h ez/\∀fj:M,Z [j] ez fj->uB F ts w fj b l d o (ah #[O U 4,O U 0,K (ao #[]),O U k,v.v,O U (tk ts i).a]))/\
    (sg ts i [33]=L->q 15 dA)/\(sg ts i [33]=aL->q 14 dA):=fun{aS c a dA} dR vp LA YC=>by
   refine⟨λop h=>op=(if(tk ts i).t=[33]then(15:Int)else 14)/\h=dA,?_,λe=>⟨?_,rfl⟩,λe=>⟨?_,rfl⟩⟩
   ·rintro op h ⟨b,rfl⟩;obtain⟨ez,l,a,e⟩:=G8 h [oa vk vn vs vo vl va] aaV aaV aaV (parts:=#[(0,ah (oa vk vn vs vo vl va).toArray)]) rfl;rw[eV,List.flatten_nil,bG]at a;exact⟨_,ez,l,e.same aba,λfj d=>YC op _ ez e a b rfl fj d⟩
   ·have:(tk ts i).t=[33]:=by
     simp only[sg,aU,bF]at e;exact e.2
    rw[aV this]
   have:(tk ts i).t≠[33]:=λa=>by
    rcases cu _ _▸hs with b | b
    ·simp only[sg,aU,bF]at b;rw[b.2]at a;exact absurd a X
    rw[e]at b;cases b
   rw[aR this]
  cases hN:DL (i+1)with
  | error e=>
   rw[hN]at hD R;obtain⟨fy,h,a2,aS,i⟩:=hD;obtain⟨i9,q,k3,k4,zz,k5,k,q3,l,v,w,F,q8⟩:=bV i;refine⟨i9,q,k3,k4,zz,k5,k,q3,l,v,w,F,λdA dR T=>?_⟩;obtain⟨b,c⟩:=q8 dA dR T;refine fin b c dR.size λop sl ez a It rh rK fj d=>⟨B ((aT.trans b λx hx=>.inl hx).cn a) d,?_⟩
   rw[<-R];exact⟨h,⟨_,_,[],_,_,_,rfl⟩,aS,(c.only a).own d aba⟩
  | ok q=>
   obtain⟨x,aS⟩:=q;rw[hN]at hD R;obtain⟨fy,c,l,v,F⟩:=hD;have T:(oa vk vn vs vo vl va)=c:=bZ Array.toList (Value.agg.inj l);obtain⟨i9,q1,k3,k4,zz,k5,q2,q3,q4,q5,q6,q7,q8⟩:=bV F;refine⟨i9,q1,k3,k4,zz,k5,q2,q3,q4,q5,q6,q7,λdA dR oT=>?_⟩;obtain⟨a,b⟩:=q8 dA dR oT;have LA:=dR.size;refine fin a b LA λop sl ez e h rh rK fj d=>⟨B ((aT.trans a λx hx=>.inl hx).cn e) d,?_⟩
   have bY:=e.size;have SX:=d.size;rw[<-R,rh,rK];refine⟨_,rfl,?_,(b.only e).own d aba⟩;have i:RX fj w6.heap.size w8.heap.size x c:=((v.only a λk hk=>.inl ab2).only e aaV).only d λk hk=>.inl ab2;have wv:aF fj dA.heap.size 68 c:=by
    rw[<-T];exact d.blk h λhm=>acn
   exact .one w.heap.size w8.heap.size dA.heap.size _ _ _ _ _ _ x c (i.wide J (aX _)) J J afN id wv
 ·rw[aR ad3,aV hp]at R;have hn:=h.en.next h.lt (xn hp);refine(QC hd g hn).mono ?_;rintro _ fU ⟨rfl,eS,f⟩;have XN:=eS.size;have cc:=n.trans eS λx hx=>.inl hx;refine⟨_,rfl,sm J eS,λhc gC iy=>⟨B cc iy,?_⟩,λhc=>?_⟩
  ·have hc:d=20:=abv
   rw[aV hc]at f;rw[<-R,jN,aV hc];exact⟨(by decide:(21:Int)≠0),agf,i,f.own iy aba⟩
  have hc:d≠20:=abv
  rw[aR hc]at f;rw[jN,aR hc]at R;refine(hE hc fU (i+1) f).mono ?_;rintro _ iQ ⟨v,rfl,hD⟩;obtain⟨vk,vn,vs,vo,vl,va,rfl⟩:=hD.qY;have dO:=hD.1.size;have cC:=cc.trans hD.1 λx hx=>.inl hx;refine⟨_,_,_,_,_,_,rfl,sm J hD.1,λk6 im XQ Ol iz=>?_⟩;have eQ:=iz.size;have after:∀{co:Nat} {c a:Int} {iR:M},Z [b] im iR->Rr F ts iR b l co c a ((d+1:Nat):Int)->(∀h,Z [b,j] iR h->Z [b] w h->Rr F ts h b l co c a (d:Int)->uB F ts w h b l d o (ah (oa vk vn vs vo vl va).toArray))->
    ∃i:Int,aB iR (Addr.add ⟨b,0,aaf⟩ 2) [O U i]/\∃k k8:Nat,∃C:aI,∃k9:Nat,(Addr.add ⟨b,0,aaf⟩ 2)=⟨k,k8,aaf⟩/\aF iR k k9 C/\(k8+1)<=I C/\j≠k/\p≠k/\k6≠k/\
    ∀e:M,Z [k] iR e->aF e k k9 (fQ C k8 [O U (ar U (i-1))])->∀h:M,Z [j] e h->uB F ts w h b l d o (ah #[O U vk,O U vn,K (T vs),O U vo,vl.v,O U va]):=fun{co c a iR} jR h18 YC=>by
   refine⟨((d+1:Nat):Int),Blk.dM h18.blk 2 rfl,b,2,_,_,rfl,h18.blk,aaV,J,J,J,λe my Yk h v=>?_⟩;have ed:((d+1:Nat):Int)-1=d:=J
   rw[ed,fe J J]at Yk;have q:Rr F ts e b l co c a (d:Int):=h18.kY my Yk h18.lt;exact YC h ((my.weaken (bs':=[b,j]) λx hx=>.inl abJ).trans v λx hx=>.inl abJ) (B (((cC.cn iz).trans jR λx hx=>.inl hx).trans my λx hx=>.inl hx) v) (q.own v aba)
  obtain⟨iT,hD⟩:=hD;cases hN:P (i+1)with
  | error e=>
   rw[hN]at hD R;obtain⟨a,d,co,c⟩:=hD;refine(Cb (c.only iz) [41]).mono ?_;rintro _ iR ⟨rfl,jR,b⟩;rw[aR (by simp[a]),aR a,aR a]at b;refine⟨rfl,jR.same aba,after jR b λh T w k=>⟨w,?_⟩⟩;rw[<-R];exact⟨a,⟨_,_,_,_,_,_,rfl⟩,co,k⟩
  | ok q=>
   obtain⟨x,co⟩:=q;rw[hN]at hD R;obtain⟨i,c,d,e⟩:=hD;refine(Cb (e.only iz) [41]).mono ?_;rintro _ iR ⟨rfl,jR,b⟩;rw[show((0:Int)==0)=L from rfl,cm,aV rfl,aV rfl]at b;refine⟨rfl,jR.same aba,?_⟩;have l:=jR.size;by_cases a:sg ts co [41]=L
   ·rw[aV a]at b;refine after jR b λh T w q=>⟨w,?_⟩
    rw[<-R];simp only[ul,a,Gb];have v:=T.size;exact⟨i,c,(((d.only iz aaV).only jR λk hk=>.inl ab2).only T λk hk=>.inl (by simp only[aY,bA,cf]at hk;omega)).wide J J,q⟩
   rw[aR a]at b;refine after jR b λh T w k=>⟨w,?_⟩
   rw[<-R];simp only[ul,a,mc];exact⟨gw,⟨_,_,_,_,_,_,rfl⟩,co,k⟩
 ·have hi:(tk ts i).k=3:=acg
  rw[aR ad3,aR ahy,aV hi]at R;have k:=h.en.next h.lt (by rw[hi];decide);refine⟨(i:Int),Blk.dM g.blk 1 rfl,b,1,_,_,rfl,g.blk,aaV,J,J,λq e c v f=>⟨B (n.trans e λx hx=>.inl hx) f,?_⟩⟩;rw[fe J J]at c;have a:Rr F ts q b l (i+1) 0 0 (d:Int):=g.kY e c k;rw[<-R];exact⟨_,rfl,.leaf ..,a.own f aba⟩
 ·have hi:¬(tk ts i).k=3:=acg
  have hv:(tk ts i).k=1:=ae9
  rw[aR ad3,aR ahy,aR hi,aV hv]at R;have k:=h.en.next h.lt (by rw[hv];decide);refine⟨(i:Int),Blk.dM g.blk 1 rfl,b,1,_,_,rfl,g.blk,aaV,J,J,λq e c v f=>⟨B (n.trans e λx hx=>.inl hx) f,?_⟩⟩;rw[fe J J]at c;have a:Rr F ts q b l (i+1) 0 0 (d:Int):=g.kY e c k;rw[<-R];exact⟨_,rfl,.leaf ..,a.own f aba⟩
 have hi:¬(tk ts i).k=3:=acg
 have hv:¬(tk ts i).k=1:=ae9
 rw[show(ao #[105,110])=T [105,110]from rfl,iV];rw[aR ad3,aR ahy,aR hi,aR hv]at R;refine⟨λw=>?_,λw=>(DT g).mono ?_⟩
 ·have w:(tk ts i).k=2/\(tk ts i).t=[105,110]:=by simpa using w
  rw[aV w]at R;have b:=h.en.next h.lt (by rw[w.1];decide);refine(amo g b).mono ?_;rintro _ d ⟨v,rfl,a⟩;obtain⟨k,q,F,x,l,f,rfl⟩:=a.qY;refine⟨_,_,_,_,_,_,rfl,sm J a.1,λe c=>?_⟩;rw[<-R];exact a.D4 n c aba
 rw[aR (λh=>by rw[h.1,h.2]at w;simp at w)]at R;rintro _ f ⟨rfl,b,a⟩;rw[aV rfl,aV rfl]at a;refine⟨rfl,sm J b,λv c=>⟨B (n.trans b λx hx=>.inl hx) c,?_⟩⟩;rw[<-R];exact⟨gw,agf,i,a.own c aba⟩
def At6(F:aJ)(t:List Tk)(e:M)(b:Nat)(l:Sl)(d:Nat)(N:aJ)(E:Nat->Pr)(k:Int)(R:Pr)(n:Nat)(op:Int)(s:aI)(w:M):Prop:=Z [b] e w/\
 ((∃(c a:Int) (j:Nat),op=0/\c≠0/\R=.error (c,a)/\Rr F t w b l j c a d)∨
  (∃(x:Ex) (j:Nat),op=lH t k j/\RXN w N e.heap.size w.heap.size x s/\Rr F t w b l j 0 0 d/\R=kP t E k n x j/\(I t)-j<=n))
def Sm{f k d:Nat}(X:k<6)(h:Rr F ts w b l i 0 0 (d:Int))
  (hE:∀w i,Rr F ts w b l i 0 0 (d:Int)->az Q 306 #[ae (aM ⟨b,0,aaf⟩),O U ((k+1:Nat))] w λe w'=>∃v,e=ak v/\uB F ts w w' b l d (dH ts f (k+1) d i) v):
  az Q 306 #[ae (aM ⟨b,0,aaf⟩),O U (k:Int)] w λe w'=>∃v,e=ak v/\uB F ts w w' b l d (dH ts (f+1) k d i) v:=by
 have eR:dH ts (f+1) k d i=JM (dH ts f (k+1) d i) λx j=>kP ts (dH ts f (k+1) d) k ((I ts)-j) x j:=by rw[dH,aR J]
 rw[eR];have XR:∀i x j,dH ts f (k+1) d i=.ok (x,j)->i<j:=λi x j h=>mS f _ _ i h;generalize am:dH ts f _ d=E at*
 generalize R:(JM _ λx j=>kP ts E k _ x j)=A;refine alV _ _ _ w ?_;have ek:ar U (k+1)=((k+1:Nat)):=aaA
 refine⟨λhc=>absurd abv (by omega:¬(k:Int)=6),λ_ z w3 mA jS B=>?_⟩;have hb:=h.lb;rw[ek];refine(hE w3 i (h.only B)).mono ?_;rintro _ w4 ⟨v,rfl,D⟩;obtain⟨vk,vn,vs,vo,vl,va,rfl⟩:=D.qY;have z4:=D.1.size;refine⟨_,_,_,_,_,_,rfl,D.1.same aba,λr w5 qF rn W=>?_⟩;have sm:∀{N u':M},w5.heap.size<=N.heap.size->Z [b] N u'->cr [z,r] N u':=λhu hO=>hO.same (by intro x hx;simp at hx⊢;omega);have SW:=h.big;have P:∃(j:Nat) (c a:Int),Rr F ts w4 b l j c a (d:Int)/\∀u,Z [] w4 u->∃p,At6 F ts w b l d (λq=>q=z∨q=r) E (k:Int) A p (if c=0 then lH ts (k:Int) j else 0) (oa vk vn vs vo vl va) u:=by
  obtain⟨f,d⟩:=D;have w:=(B.weaken (bs':=[b]) λ_ h=>abG).trans f λx hx=>.inl hx;cases F:E i with
  | error e=>
   rw[F]at d R;obtain⟨c,a⟩:=e;obtain⟨b,i,j,h⟩:=d;exact⟨j,c,a,h,λu Y=>⟨0,w.cn Y,.inl ⟨c,a,j,aR b,b,R.symm,h.only Y⟩⟩⟩
  | ok q=>
   obtain⟨x,j⟩:=q;rw[F]at d R;obtain⟨e,b,c,a⟩:=d;have i:(oa vk vn vs vo vl va)=e:=bZ Array.toList (Value.agg.inj b);rw[i];exact⟨j,0,0,a,λu Y=>⟨(I ts)-j,w.cn Y,.inr ⟨x,j,aV rfl,((c.only Y aaV).FY λq h k _=>J).wide B.size Y.size,a.only Y,R.symm,aX _⟩⟩⟩
 obtain⟨j0,c0,a0,G,P⟩:=P;refine(WK (G.only W) X).mono ?_;rintro _ u ⟨rfl,Y⟩;obtain⟨H,C⟩:=P u (W.cn Y);refine⟨_,rfl,Y.same aba,λp op m n t o s g w'=>w5.heap.size<=w'.heap.size/\At6 F ts w b l d _ E (k:Int) A p op [O U m,O U n,K t,O U o,s.v,O U g] w',H,⟨Y.size,C⟩,?_⟩;rintro p op m n t o s g w7 ⟨z7,T,V⟩;refine⟨λrh=>?_,λrh fU S=>?_⟩
 ·have rh:=agW
  rcases V with⟨_,_,_,e,_⟩ | ⟨x,j,rfl,hX,i,f,aC⟩
  ·exact absurd e rh
  have hn:=i.en.next i.lt (sW _ _ rh);obtain⟨aS,rfl⟩:∃aS,p=aS+1:=⟨p-1,J⟩
  rw[kP,aR rh]at f;refine⟨j,Blk.dM i.blk 1 rfl,b,1,_,_,rfl,i.blk,aaV,J,J,λw8 fy xE=>?_⟩;rw[fe J J]at xE;have z8:=fy.size;refine(hE w8 _ (i.kY fy xE hn)).mono ?_;rintro _ w9 ⟨v,rfl,XS⟩;obtain⟨yk,yn,ys,yo,yl,ya,rfl⟩:=XS.qY;have z9:=XS.1.size;refine⟨_,_,_,_,_,_,rfl,sm J XS.1,λk8 dA co XK dR=>?_⟩;obtain⟨dL,nD,EV,eh⟩:=G8 dA [[O U m,O U n,K t,O U o,s.v,O U g],oa yk yn ys yo yl ya] aaV aaV aaV (parts:=#[_,_]) rfl;have Cj:=eh.size;refine⟨_,dL,nD,eh.same aba,λez eM=>?_⟩;have cC:=eM.size;have LF:=((((T.trans fy λx hx=>.inl hx).trans XS.1 λx hx=>.inl hx).cn dR).cn eh).new eM J;have ww:Z [r] w9 ez:=((dR.cn eh).weaken (bs':=[r]) λ_ h=>abG).trans eM λx hx=>.inl hx;have N7:∃(j':Nat) (c a:Int),Rr F ts w9 b l j' c a d/\∀fj,Z [] ez fj->∃p,p<aS+1/\At6 F ts w b l d (λq=>q=z∨q=r) E k A p (if c=0 then lH ts k j' else 0) (oa 5 0 [] (lH ts k j) ⟨aM ⟨dA.heap.size,0,aaf⟩,2,2⟩ g) fj:=by
   obtain⟨h,d⟩:=XS;cases F:E _ with
   | error e=>
    rw[F]at d f;obtain⟨c,a⟩:=e;obtain⟨b,l,j',k⟩:=d;exact⟨j',c,a,k,λfj dV=>⟨0,J,LF.cn dV,.inl ⟨c,a,j',aR b,b,f,(k.own ww aba).only dV⟩⟩⟩
   | ok q=>
    obtain⟨y,j'⟩:=q;rw[F]at d f;obtain⟨c,l,v,k⟩:=d;have ix:_=c:=bZ Array.toList (Value.agg.inj l);have dO:=XR _ _ _ F;obtain⟨xl,e,_⟩:=hX.cells;have a:=by
     simp only[oa,Cs,Value.int.injEq]at e;exact e.2.2.2.2.2.1.2
    refine⟨j',0,0,k,λfj dV=>⟨aS,J,LF.cn dV,.inr ⟨.mk 5 0 [] _ [x,y] x.a,j',aV rfl,?_,(k.own ww aba).only dV,f,?_⟩⟩⟩
    ·have XU:=ww.cn dV;have wv:aF fj dA.heap.size 68 ([O U m,O U n,K t,O U o,s.v,O U g]++c):=by
      have:=dV.blk (eM.blk EV aba) aaV;rw[<-ix];simpa using this
     have XV:RXN fj (λq=>q=z∨q=r) w.heap.size w7.heap.size x [O U m,O U n,K t,O U o,s.v,O U g]:=by
      exact hX.only ((((((fy.weaken (bs':=[b,r]) λx hx=>.inl abZ).trans h λx hx=>.inl abZ).trans ww λx hx=>.inl abZ).cn dV))) λq hq=>by
       simp at hq;rcases hq with rfl | rfl
       ·exact .inl hb
       exact .inr (.inr (.inr rfl))
     have eQ:RXN fj (λq=>q=z∨q=r) w8.heap.size w9.heap.size y c:=(v.only XU λq hq=>.inl (by simp at hq;omega)).FY λq h1 h2 _=>J
     rw[a];exact .two w.heap.size w7.heap.size w8.heap.size w9.heap.size dA.heap.size _ _ _ _ _ _ x y _ c XV z8 eQ J J J J afN J wv
    omega
  obtain⟨j',c',a',bY,N7⟩:=N7;refine(WK (bY.own ww aba) X).mono ?_;rintro _ fj ⟨rfl,dV⟩;obtain⟨cc,aT,bV⟩:=N7 fj dV;exact⟨_,rfl,dV.same aba,cc,aT,by have:=dV.size;omega,bV⟩
 have rh:op=0:=agW
 refine⟨T.new S J,?_⟩;rcases V with⟨c,a,j,_,hc,b,d⟩ | ⟨x,j,e,f,d,b,v⟩
 ·rw[b];exact⟨hc,⟨m,n,t.data.toList,o,s,g,rfl⟩,j,d.own S aba⟩
 rw[b,Fg (by rw[<-e,rh])];exact⟨_,rfl,((f.only S λq hq=>.inr (.inr (.inl aec))).FY λ_ _ _ _ h=>h).wide (aX _) S.size,d.own S aba⟩
def FN:∀f,(∀k d i w,k<=6->d<=20->gH k d<=f->Rr F ts w b l i 0 0 d->az Q 306 #[ae (aM ⟨b,0,aaf⟩),O U k] w λe w'=>∃v,e=ak v/\uB F ts w w' b l d (dH ts f k d i) v)/\
  (∀d i w,d<=20->gH 6 d<=f->Rr F ts w b l i 0 0 d->
   az Q 312 #[ae (aM ⟨b,0,aaf⟩)] w λe w'=>∃v,e=ak v/\uB F ts w w' b l d (dH ts f 6 d i) v)
 | 0=>⟨λk d i w hk hd hn=>aed,λd i w hd hn=>aed⟩
 | f+1=>by
  obtain⟨E,a⟩:=FN f;have one:∀d i w,d<=20->gH 6 d<=f+1->Rr F ts w b l i 0 0 d->
   az Q 312 #[ae _] w λe w'=>∃v,e=ak v/\uB F ts w w' b l d _ v:=λd i w hd hn h=>by
   unfold gH at hn;exact agh hd h (λC w i h=>E 0 _ i w J J acT h) (λC w i h=>a _ i w J acT h)
  refine⟨λk d i w hk hd hn h=>?_,one⟩;by_cases c:k=6
  ·subst c;refine alV _ _ _ w ?_;refine⟨λ_ k f T g b=>?_,λe=>absurd e X⟩;refine(one d i f hd hn (h.only b)).mono ?_;rintro _ q ⟨v,rfl,D⟩;obtain⟨m,o,s,p,n,l,rfl⟩:=D.qY;have j:=h.lb;exact⟨_,_,_,_,_,_,rfl,D.1.same aba,λr R=>D.D4 (b.weaken λ_ h=>abG) R aba⟩
  unfold gH at hn;exact Sm J h λw i h=>E _ d i w J hd acT h
end
def WL{w:M}{F:aJ}{l:Sl}{t:List Tk}(h:aA Iy 4 w F l t)(a:Int)(r:ub a):az Q 283 #[l.v,O U a] w λe b=>
  ∃s,e=ak (ai #[ah s.toArray,O U (cQ t a).2.1,ah #[O U (cQ t a).2.2.1,O U (cQ t a).2.2.2]])/\RX b w.heap.size b.heap.size (cQ t a).1 s/\((cQ t a).2.2.1=0->0<=(cQ t a).2.1/\(cQ t a).2.1<I t)/\Z [] w b:=by
 refine(arG l a (λv b=>∃s,v=(ai #[ah s.toArray,O U (cQ t a).2.1,ah #[O U (cQ t a).2.2.1,O U (cQ t a).2.2.2]])/\RX b w.heap.size b.heap.size (cQ t a).1 s/\((cQ t a).2.2.1=0->0<=(cQ t a).2.1/\(cQ t a).2.1<I t)/\Z [] w b) w ?_).mono (by
  rintro e b ⟨v,rfl,s,rfl,h⟩;exact⟨s,rfl,h⟩)
 have o:=h.len;have A:=h.cap;have B:=h.big;have bad:¬(0<=a/\a<I t/\ml t+1=I t)->∀f,Z [] w f->∃s,(Value.tuple #[ah #[O U 0,O U 0,K (ao #[]),O U 0,Sl.nil.v,O U 0],O U 0,ah #[O U 1,O U (-1)]])=(ai #[ah s.toArray,O U (cQ t a).2.1,ah #[O U (cQ t a).2.2.1,O U (cQ t a).2.2.2]])/\RX f w.heap.size f.heap.size (cQ t a).1 s/\((cQ t a).2.2.1=0->0<=(cQ t a).2.1/\(cQ t a).2.1<I t)/\Z [] w f:=λd f i=>by
  rw[cQ,aR d];exact⟨_,rfl,rx0 _ _ _,λh=>abG,i⟩
 refine⟨λd u y f _ _ _ _ D=>bad (λg=>?_) f D,λd j k3 m z C H G E=>?_⟩
 ·simp only[cu,bF]at d;omega
 have d:0<=a/\a<I t:=by
  simp only[dq,dS]at d;omega
 have z1:=E.size;have own:∀{am u':M},Z [] w am->Z [k3,j] am u'->Z [] w u':=λh1 S=>h1.trans S λx hx=>.inr abH;refine⟨λnv P _ _ _ _ _ _ _ _ b=>∃n:Nat,n<=I t/\P=(n:Int)/\nv=(I t)-n/\(∀N,N<n->((tk t N).k=5↔N+1=I t))/\Z [] w b/\m.heap.size<=b.heap.size,I t,⟨0,bm _,rfl,rfl,λN hj=>absurd hj (YP N),E,aX _⟩,?_⟩;rintro nv _ _ _ _ _ _ _ _ _ w2 ⟨n,hn,rfl,rfl,Y,R,z2⟩;have S:=SliceF.only iX X h R aaV;refine⟨λW=>?_,λnA T w4 aC Ym V sE=>?_⟩
 ·have W:(n:Int)<(l.n:Int):=aN W;obtain⟨ad,x,s,p,a,g3,g4,q,c⟩:=S.get (aZ n) W;rw[aW,C7 J]at a;injection a with a;subst a;unfold Iy at c;subst c;have e:((tk t n).k==5)=decide ((tk t n).k=5):=by rw[bM];simp
  have k:((n:Int)==ar U ((l.n:Int)-1))=decide (n+1=I t):=by
   rw[fe J J,bM];simp only[db,bF];omega
  refine⟨ad,p,_,q.dM 0 _ rfl,?_⟩;dsimp only;rw[e,k];refine⟨λhm v h=>bad (λg=>?_) v (own R h),λhm=>⟨(I t)-(n+1),J,n+1,J,aaA,rfl,λN hj=>?_,R,z2⟩⟩
  ·have:=JQ g.2.2 n J;rw[je.2 this,beq_self_eq_true]at hm;cases hm
  rcases wy N n with e | e
  ·exact Y N e
  have:N=n:=J
  subst this;have hm:decide ((tk t N).k=5)=decide (N+1=I t):=abR
  exact je.1 hm
 have nA:¬(n:Int)<(l.n:Int):=aQ nA;have:n=I t:=J
 subst this;have aS:xj t:=Y;have bV:0<=a/\a<I t/\ml t+1=I t:=⟨d.1,d.2,U2 aS J⟩
 rw[cQ,aV bV];obtain⟨P,rfl⟩:∃P:Nat,a=(P:Int):=⟨a.toNat,J⟩
 have z4:=V.size;have wq:=R.cn V;have hR:Rr (λk=>F k/\k<w.heap.size) t w4 T l P 0 0 ((0:Nat):Int):=⟨sE,SliceF.only iX X (h.inHeap iX X) wq aaV,λk hk=>by have:=hk.2;have:=R.size;omega,aS,J⟩
 refine((FN (gH 0 0)).1 0 0 P w4 X X (aX _) hR).mono ?_;rintro _ w5 ⟨v,rfl,hD⟩;obtain⟨vk,vn,vs,vo,vl,va,rfl⟩:=hD.qY;have z5:=hD.1.size;obtain⟨eW,hD⟩:=hD;rw[aW];have bY:xN t P=dH t (gH 0 0) 0 0 P:=rfl;rw[bY];have cc:=R.size;have EU:Z [] w w5:=wq.trans eW λx hx=>.inr abF;refine⟨_,_,_,_,_,_,rfl,eW.same aba,?_⟩;cases aT:dH t (gH 0 0) 0 0 P with
 | error e=>
  rw[aT]at hD;obtain⟨c,p⟩:=e;obtain⟨n,a2,N,q⟩:=hD;refine⟨_,_,_,_,_,q.blk,λ_ k8 w6 _ _ v Ra n1 n2 n3 n4 n5 n6=>⟨λk=>k=T,rfl,λe=>n2 e,λe=>n4 e,λw7 x _=>⟨_,rfl,rx0 _ _ _,λh=>absurd h n,own (EU.cn v) x⟩⟩,λa=>absurd (by simpa using a) n⟩
 | ok q=>
  rw[aT]at hD;obtain⟨x,N⟩:=q;obtain⟨s,n,v,c⟩:=hD;have ix:(oa vk vn vs vo vl va)=s:=bZ Array.toList (Value.agg.inj n);refine⟨_,_,_,_,_,c.blk,λh=>(by simp at h),λ_ k9 w8 cC co a xE n1 n2 n3 n4 n5 n6=>⟨λk=>k=T,rfl,λe=>n2 e,λe=>n4 e,λw9 p _=>?_⟩⟩;have z8:=a.size;have z9:=p.size;refine⟨oa vk vn vs vo vl va,rfl,?_,λ_=>⟨aZ N,by have:=c.lt;dsimp only;omega⟩,own (EU.cn a) p⟩;rw[ix];exact((v.only a aaV).only p λq hq=>.inl acU).wide J J
def Ax(w:M)(c:UInt8):az Q 191 #[.int .u8 (c.toNat:Int)] w λe a=>e=ak (aj (fZ c))/\Z [] w a:=by
 refine ret (ari _ ?_);refine⟨?_,Only.refl _ _⟩;congr 1;rw[bM];simp only[fZ,aU,cu,bF,db];omega
def K1(w:M)(c:UInt8):az Q 218 #[.int .u8 (c.toNat:Int)] w λe a=>e=ak (aj (du c))/\Z [] w a:=by
 refine ret (arp _ ?_);refine⟨?_,Only.refl _ _⟩;congr 1;rw[bM];simp only[du,aU,bF];omega
def WM(w:M):az Q 217 #[] w λe a=>∃s:Sl,e=ak s.v/\Own ke 1 9 w.heap.size a (λ_=>True) s mh/\Z [] w a:=by
 refine iW (aro ?_);obtain⟨s,a,h,b,c⟩:=kl w mh (n:=16) rfl rfl X X;exact⟨s,a,h,s,rfl,b,c⟩
def QD(w:M)(m:aH):az Q 192 #[K (T m)] w λe a=>e=ak (aj (mh.contains m))/\Z [] w a:=by
 refine ret (arj _ ?_);refine(WM w).mono ?_;rintro _ d ⟨s,rfl,b,D⟩;have h:=uM b;generalize mh=l at*
 have f:=h.len;have r:=h.big;have q:=h.cap;refine⟨s,rfl,λv i a=>∃n:Nat,n<=I l/\i=(n:Int)/\v=(I l)-n/\(∀x,x∈l.take n->x≠m)/\a=d,I l,⟨0,bm _,rfl,rfl,aaV,rfl⟩,?_⟩;rintro v _ _ ⟨n,g,rfl,rfl,p,rfl⟩;refine⟨λc=>?_,λc=>?_⟩
 ·have W:(n:Int)<s.n:=aN c;obtain⟨ad,x,u,o,j,z,A,t,k⟩:=h.get (aZ n) W;rw[aW]at j;unfold ke at k;subst k;refine⟨ad,o,_,t,?_⟩;dsimp only;rw[iV];refine⟨λe=>⟨?_,D⟩,λe=>⟨(I l)-(n+1),J,n+1,J,aaA,rfl,?_,rfl⟩⟩
  ·have e:x=m:=aN e;congr 1;symm;rw[fl,<-e];exact bB j
  intro y n;rw[bq,j]at n;simp only[fH,cj,aP]at n;rcases n with n | rfl
  ·exact p y n
  exact aQ e
 have A:¬((n:Int)<s.n):=aQ c;rw[bp J]at p;refine⟨?_,D⟩;congr 1;symm;rw[eF];intro e;exact p m (fl.1 e) rfl
def NB(a:M)(l:aH)(i:Nat)(f:i<=I l)(j:I l<4611686018427387903):
  az Q 193 #[K (T l),O U (i:Int)] a λe w=>e=ak (O U (I ((l.drop i).takeWhile fk):Int))/\Z [] a w:=by
 refine ret (ark _ _ ?_);rw[cJ];have r:I (l.drop i)=(I l)-i:=cG;refine⟨λk w=>k=(I ((l.drop i).takeWhile fk):Int)/\Z [] a w,λk w d=>⟨by rw[d.1],d.2⟩,λv k w=>∃n:Nat,i+n<=I l/\k=(n:Int)/\v=(I l)-(i+n)/\(∀x,x∈(l.drop i).take n->fk x=L)/\Z [] a w,(I l)-i,⟨0,f,rfl,rfl,aaV,Only.refl _ _⟩,?_⟩;rintro v _ g ⟨n,m,rfl,rfl,h,c⟩;rw[fe (x:=(i:Int)+n) J J];have b:(i:Int)+n=((i+n:Nat):Int):=J
 rw[b];refine⟨λhc=>?_,λhc=>⟨?_,c⟩⟩
 ·have W:i+n<I l:=abL
  have hx:l[i+n]? =aM l[i+n]:=bh W;generalize l[i+n]=x at hx;have p:(l.drop i)[n]? =aM x:=by rw[gX,hx]
  have s:(T l)[Int.toNat ((i+n:Nat):Int)]? =aM x:=adV
  refine⟨x,⟨aZ _,s⟩,(Ax g x).mono ?_⟩;rintro _ u ⟨rfl,R⟩;refine⟨_,rfl,x,⟨aZ _,s⟩,(K1 u x).mono ?_⟩;rintro _ z ⟨rfl,t⟩;have q:=c.cn (R.cn t);have e:((!fZ x)&&(!du x))=!fk x:=by unfold fk;rw[Bool.not_or]
  refine⟨_,rfl,?_⟩;dsimp only;rw[e];refine⟨λo=>⟨?_,q⟩,λo=>⟨(I l)-(i+(n+1)),J,n+1,J,aaA,rfl,λy k=>?_,q⟩⟩
  ·rw[mR J h λy k=>by
    rw[p]at k;injection k with k;subst k;simpa using o]
   rw[ch];omega
  rw[bq,p]at k;simp only[fH,cj,aP]at k;rcases k with k | rfl
  ·exact h y k
  simpa using o
 have A:I l<=i+n:=abO
 rw[mR J h λy e=>by
  have:=(bf.1 e).1;omega]
 rw[ch];omega
def WN(c:UInt8):(((((c.toNat:Int)==9)||((c.toNat:Int)==10))||((c.toNat:Int)==13))||((c.toNat:Int)==32))=pS c:=by
 have a:((c.toNat:Int)==9)=(c==9):=O9 (d:=9);have v:((c.toNat:Int)==10)=(c==10):=O9 (d:=10);have u:((c.toNat:Int)==13)=(c==13):=O9 (d:=13);have h:((c.toNat:Int)==32)=(c==32):=O9 (d:=32);rw[a,v,u,h,bM];simp[pS,or_assoc]
def FO(c:M)(l:aH)(i:Nat)(f:i<=I l)(o:I l<4611686018427387903):
  az Q 304 #[K (T l),O U (i:Int)] c λe w=>e=ak (O U ((i+lj aL (l.drop i):Nat):Int))/\Z [] c w:=by
 refine ret (arP _ _ ?_);rw[cJ];refine⟨λk w=>k=((i+lj aL (l.drop i):Nat):Int)/\w=c,λk w h=>⟨by rw[h.1],by rw[h.2];exact Only.refl _ _⟩,λv k w=>∃j:Nat,j<=I l/\k=(j:Int)/\v=(I l)-j/\i+lj aL (l.drop i)=j+lj aL (l.drop j)/\w=c,(I l)-i,⟨i,f,rfl,rfl,rfl,rfl⟩,?_⟩;rintro v _ m ⟨j,g,rfl,rfl,s,u⟩;subst u;refine⟨λhc=>?_,λhc=>⟨?_,rfl⟩⟩
 ·have W:j<I l:=abL
  have hx:l[j]? =aM l[j]:=bh W;generalize l[j]=x at hx;have hd:=oG hx;have e:((x.toNat:Int)==47)=(x==47):=O9 (d:=47);rw[fe (x:=(j:Int)+1) J J];obtain⟨y,p⟩:∃y:UInt8,j+1<(I l)->l[j+1]? =aM y:=by
   by_cases h:j+1<I l
   ·exact⟨l[j+1],λ_=>bh h⟩
   ·exact⟨0,λa=>absurd a h⟩
  have r:((y.toNat:Int)==47)=(y==47):=O9 (d:=47);refine⟨x,⟨aZ j,adV⟩,y,λh=>⟨J,?_⟩,?_⟩
  ·rw[aU]at h;have:=aN h.2;rw[show(j:Int)+1=((j+1:Nat):Int) by omega,nH,aW];exact p J
  rw[e,r,WN];refine⟨λt=>?_,λt=>⟨λhb=>⟨(I l)-(j+1),J,j+1,J,rfl,rfl,?_,rfl⟩,λhb=>⟨?_,rfl⟩⟩⟩
  ·simp only[aU,bF,db]at t;obtain⟨⟨rfl,a⟩,rfl⟩:=t;have a:j+1<I l:=J
   have y:=oG (p a);have D:(l.drop j).take 2=[47,47]:=by rw[hd,y];rfl
   have hk:=Fc D;have E:I (l.drop j)=(I l)-j:=cG;refine⟨λv k w=>∃n:Nat,j+n<=I l/\k=((j+n:Nat):Int)/\v=(I l)-(j+n)/\(∀x,x∈(l.drop j).take n->(x !=10)=L)/\w=m,(I l)-j,⟨0,g,rfl,rfl,aaV,rfl⟩,?_⟩;rintro v _ _ ⟨n,C,rfl,rfl,B,rfl⟩;obtain⟨z,A⟩:∃z:UInt8,j+n<(I l)->l[j+n]? =aM z:=by
    by_cases h:j+n<I l
    ·exact⟨l[j+n],λ_=>bh h⟩
    ·exact⟨0,λd=>absurd d h⟩
   have b:((z.toNat:Int) !=10)=(z !=10):=by
    have:((z.toNat:Int)==10)=(z==10):=O9 (d:=10);unfold bne;rw[this]
   refine⟨z,λh=>⟨aZ _,by rw[nH,aW];exact A aeq⟩,?_⟩;rw[b];refine⟨λh=>?_,λh=>?_⟩
   ·rw[aU]at h;have a:=aN h.1;have k:(l.drop j)[n]? =aM z:=by rw[gX];exact A J
    refine⟨(I l)-(j+(n+1)),J,n+1,J,acs,rfl,λq d=>?_,rfl⟩;rw[bq,k]at d;simp only[fH,cj,aP]at d;rcases d with d | rfl
    ·exact B q d
    ·exact h.2
   ·have x:(l.drop j).takeWhile (· !=10)=(l.drop j).take n:=mR J B λq d=>by
     have a:=(bf.1 d).1;rw[gX,A J]at d;injection d with d;subst d;rw[bE J,cm]at h;exact h
    have k:I ((l.drop j).takeWhile (· !=10))=n:=by rw[x,ch];omega
    have Y:0<n:=by
     rw[<-k,hd,dD,aV X,ba];omega
    rw[k,ki]at hk;exact⟨(I l)-(j+n),J,j+n,C,rfl,rfl,by rw[s,hk];omega,rfl⟩
  ·rw[s,hd,lj,aV hb];omega
  ·have z:lj aL (l.drop j)=0:=by
    rw[hd,lj,aR ahQ,aR];intro h;simp only[aU,db]at h;obtain⟨rfl,h⟩:=h;have d:j+1<I l:=by
     cases k:l.drop (j+1)with
     | nil=>rw[k]at h;simp at h
     | cons a b=>
      have:=bZ List.length k;rw[cG,ba]at this;omega
    rw[oG (p d)]at h;simp only[jH,bN]at h;subst h;rw[bE J]at t;simp at t
   rw[s,z];rfl
 ·have n:I l<=j:=abO
  rw[s,eP n];rfl
end Go.Proofs.YtfemabakfkliiaaGreatDoor.Con
