import Derived.Test.YteoblgpbapdhiaaGreatDoorQg2
set_option maxHeartbeats 4000000
set_option linter.all false
open Go.Proofs Go.Proofs.Tryz
open Bool renaming true->aE,false->aL
open Option renaming some->aM,none->VM
open List renaming length->WS
open Decidable renaming decide->JW
namespace Con
open Go.Value renaming int->O,string->ab,pointer->ae,agg->ah,tuple->ai,bool->aj
open Go.IntKind renaming i64->U,wrap->ar
open Go.Ending renaming returned->ak
open _root_.ByteArray renaming mk->ao
open _root_.Go.Proofs.Tryz renaming prog->aq
open Go.Instr renaming buildSlice->au
open Go renaming World->av,Value->aw,Calls->az
open Go.Kt renaming Only->ay,SliceF->aA,Cells->aB,OnlyP->aD,Blk->aF
open Go Go.RowKit Go.Kt Go.Kt.V Vc
def xG(w:av)(p:Addr)(n:Nat)(a:Addr):(w.freeze p n).cell? a=w.cell? a:=by
 unfold World.freeze;split
 .rfl
 unfold World.cell?;simp only[uy];by_cases P:p.block=a.block
 .rw[E P];rcases h:w.heap[a.block]? with _|o
  .rfl
  cases o with
  |cells c e f=>let⟨l,h⟩:=f;rfl
  |_=>rfl
 rw[Q P]
def xH(w:av)(p:Addr)(n:Nat):aD (λk=>k=p.block) w (w.freeze p n):=by
 unfold World.freeze;split
 .exact V8 _ _
 exact⟨I,I,I,N,λk hk h=>by
  grind⟩
def akY{w:av}{F:h}{s:Sl}{g B:Nat}{l:L}(i:s.a=aM ⟨g,0,VM⟩)(f:Own lY 1 5 B w F s l)(J:g<w.heap.size):
  ∃d,(convert 204 204<|Sl.v s).run aq w=.ok (Sl.v s) d/\aA lY 1 d (λ_=>True) s l/\aD (λk=>k=g) w d:=by
 let b:=Dw f;let⟨r,c,tail,a,p,e,_⟩:=f.resolve_left R;rw[i]at a;injection a with a;injection a with a;subst a;let o:w.shape? g=aM (5,(c.flatten++tail).toArray.size):=by
  unfold World.shape?;unfold aF at e;rw[e]
 let m:prog.underlying 204=aM (.slice 5):=D
 let u:prog.underlying 5=aM (.int .u8):=D
 refine⟨w.freeze ⟨g,(c.flatten++tail).toArray.size,VM⟩ 1,?_,⟨b.len,b.cap,b.nil0,b.big,λn x j=>?_⟩,xH w ⟨g,(c.flatten++tail).toArray.size,VM⟩ 1⟩
 .unfold Sl.v;rw[i];simp[convert,run_underlying m,run_underlying u,markStringish,o,Result.andThen]
 let⟨s,g,k,C,t,y,z⟩:=b.at_ n x j;exact⟨s,g,k,trivial,t,λq v A=>by rw[xG];exact y q v A,z⟩
def XQ{c d:UInt8}:((c.toNat:Int)==(d.toNat:Int))=(c==d):=by
 rw[bM];simp only[dw];constructor
 .intro h;exact a7.1 X
 rintro rfl;rfl
def ahO{m:L}(h:uL m=aE):2<=WS m:=by
 match m,h with
 |_::_::_,_=>simp
def A7{m:L}:kO m<=WS m:=by
 unfold kO;split
 .exact ahO X
 split
 .split
  .simp
  exact bE _
 exact bE _
def akZ{f:av}{b:Nat}{l:L}{i:Nat}{q:Sl}{a:J Tk}(h:Cut f b l i q a)(u:WS a<=16384)(C:i<WS l):
  az aq 176 #[ae (aM ⟨b,0,VM⟩)] f λe w=>∃v,e=ak v/\aD (λk=>b<=k) f w/\ZO w b l i a (qF<|l.drop i) v:=by
 refine ar2 ⟨b,0,VM⟩ (λv w=>aD (λk=>b<=k) f w/\ZO w b l i a (qF<|l.drop i) v) f<|let⟨D,o,p⟩:=h.blk;have y:=h.ll;have P:=h.il;(FI o h.il).mono ?_;rintro _ j ⟨rfl,t⟩;have B:WS (l.drop i)=(WS l)-i:=cT;generalize z:l.drop i=m at*
 obtain⟨c,r,rfl⟩:∃c r,m=c::r:=by
  cases m with
  |nil=>simp at B;omega
  |cons c r=>grind
 have g:(0:Int)<=0/\(T (c::r))[0]? =aM c:=⟨X,Mi⟩
 refine⟨T (c::r),I,λx w=>x=(if qV.contains c then 1 else 0:Int)/\ay [] f w,?_,c,g,?_⟩
 .rintro _ G ⟨rfl,k⟩;refine⟨λF w=>F=(kO (c::r):Int)/\ay [] f w,?_,λb w=>b=uL (c::r)/\ay [] f w,?_,?_,?_⟩
  .rintro _ e ⟨rfl,b⟩;refine⟨λd=>⟨b.p0,?_⟩,λd=>⟨kO (c::r),⟨I,by rw[cE];exact A7⟩,?_⟩⟩
   .rw[qF,E<|by have:(kO (c::r):Int)=0:=(by simpa using d);omega];exact⟨I,q,h.only b⟩
   have d:¬kO (c::r)=0:=by
    simp_all
   rw[qF,Q d,xr,lg,yx];have n:=A7 (m:=c::r);refine(ret<|LI (T _) (λv w=>v=ab (T<|(c::r).take<|kO (c::r))/\ay [] e w) e ?_).mono ?_
   .refine(Tryz.stringslite_Clone (T _) e<|by rw[cE,dj];omega).mono ?_;rintro _ c ⟨rfl,p⟩;exact⟨_,I,I,YO p⟩
   rintro _ K ⟨rfl,N⟩;refine⟨_,I,(SN (h.only<|b.bG N) 4 _ 0 0 (kO (c::r)) X u).mono ?_⟩;rintro _ M ⟨rfl,v,s,H⟩;exact⟨I,(b.bG N).ph v,I,s,H⟩
  .rintro _ b ⟨rfl,d⟩;refine⟨λhs=>⟨by rw[kO,E hs];rfl,d⟩,λhs=>⟨?_,d⟩⟩;have e:kO (c::r)=if qV.contains c then 1 else 0:=by rw[kO,Q eL]
   grind
  .intro b;rw[cE]at b;obtain⟨d,r,rfl⟩:∃d e,r=d::e:=by
    cases r with
    |nil=>simp at b
    |cons d r=>grind
   have N:(0:Int)<=1/\(T (c::d::r))[1]? =aM d:=⟨Z,Mi⟩
   have ex:(T (c::d::r)).extract 0 2=T [c,d]:=by rw[xr];rfl
   have sz:2<=(T (c::d::r)).size:=by rw[cE];simp
   have R:Kau=T [45,62]:=I;have M:((T [c,d]).toList==(T [45,62]).toList)=(c==45&&d==62):=by
    simp_all
   have K:((d.toNat:Int)==61)=(d==61):=XQ (d:=61);have S:uL (c::d::r)=((d==61&&[60,62,61,33].contains c)||(d==c&&[38,124].contains c)||(c==45&&d==62)):=I;rw[S];generalize V:([60,62,61,33]:L).contains c=p1;generalize am:([38,124]:L).contains c=p2;have Yc:((((T (c::d::r)).extract 0 2).toList)==(Kau.toList))=(c==45&&d==62):=by rw[ex,R,M]
   refine⟨d,N,λH=>⟨c,g,λw6 dr=>?_⟩,λH=>⟨d,N,c,g,λv=>⟨c,g,λW Y=>?_⟩,λv=>⟨sz,λfS dQ=>⟨?_,k.bG dQ⟩⟩⟩⟩
   .rw[K]at H;let⟨s,w7,k1,k2,k3,_⟩:=xF w6 [60,62,61,33] (n:=4) (parts:=#[(0,.int .u8 60),(1,.int .u8 62),(2,.int .u8 61),(3,.int .u8 33)]) I I Z Z;refine⟨s,w7,k1,(SL (Dw k2) c).mono ?_⟩;rintro _ w8 ⟨rfl,r⟩;have T:=k.bG<|dr.bG<|k3.bG r;rw[V];refine⟨_,I,A,λo=>⟨d,N,c,g,λv=>⟨c,g,?_⟩,λv=>⟨sz,?_,T⟩⟩⟩
    .rw[XQ]at v;simp_all
    grind
   .rw[K]at H;rw[XQ]at v;let⟨s,r,T,k2,k3,_⟩:=xF W [38,124] (n:=2) (parts:=#[(0,.int .u8 38),(1,.int .u8 124)]) I I Z Z;refine⟨s,r,T,(SL (Dw k2) c).mono ?_⟩;rintro _ ff ⟨rfl,d⟩;have hO:=k.bG (Y.bG<|k3.bG d)
    grind
   grind
  intro c n e;rw[cE]at c;have b:r=[]:=by
   cases r with
   |nil=>rfl
   |cons d r=>grind
  subst b;exact⟨I,k.bG e⟩
 let⟨s,G,M,b,k3,d⟩:=xF j qV (n:=17) (parts:=#[(0,.int .u8 123),(1,.int .u8 125),(2,.int .u8 40),(3,.int .u8 41),(4,.int .u8 91),(5,.int .u8 93),(6,.int .u8 59),(7,.int .u8 44),(8,.int .u8 61),(9,.int .u8 43),(10,.int .u8 45),(11,.int .u8 42),(12,.int .u8 47),(13,.int .u8 37),(14,.int .u8 60),(15,.int .u8 62),(16,.int .u8 33)]) I I Z Z;let⟨V,e,r,v⟩:=akY d b (b.blk d).2;have K:ay [] j V:=((k3.p0 (F:=λk=>j.heap.size<=k)).trans v X).only X;refine⟨s,G,M,s,V,e,(SL r c).mono ?_⟩;rintro _ W ⟨rfl,H⟩;have N:=t.bG (K.bG H)
 grind
def ZO.int{w:av}{b:Nat}{l:L}{i:Nat}{a:J Tk}{r:Except Int Tq}{v:aw}(h:ZO w b l i a r v):∃k:Int,v=O U k:=by
 unfold ZO at h;split at h
 .exact⟨_,h.1⟩
 exact⟨_,h.1⟩
def afI{w:av}{b:Nat}{l:L}{i:Nat}{r:Sl}{a:J Tk}(h:Cut w b l i r a)(d:WS a<=16384)(o:i<WS l):
  az aq 122 #[ae (aM ⟨b,0,VM⟩)] w λe c=>∃v,e=ak v/\aD (λk=>b<=k) w c/\ZO c b l i a (ot<|l.drop i) v:=by
 refine arx ⟨b,0,VM⟩ (λv c=>aD (λk=>b<=k) w c/\ZO c b l i a (ot<|l.drop i) v) w ?_;let⟨s,g,q⟩:=h.blk;have hx:l[i]? =aM l[i]:=aR o;generalize l[i]=x at hx;let t:ot (l.drop i)=if gC x then pC (l.drop i)else if dH x then vX (l.drop i)else qF (l.drop i):=by
  rw[pU hx];rfl
 rw[t];refine⟨T l,Hl g 0 I,i,Hl g 1 I,x,⟨X,Mp⟩,λn m=>(FH n x).mono ?_⟩;rintro _ p ⟨rfl,U⟩;let j:=m.bG U;refine⟨_,I,λf=>?_,λf=>(SK p x).mono ?_⟩
 .rw[E f];refine(akX (h.only j) d).mono ?_;rintro _ b ⟨v,rfl,F,hd⟩;obtain⟨k,rfl⟩:=hd.int;exact⟨k,I,j.ph F,hd⟩
 rintro _ e ⟨rfl,N⟩;let b:=j.bG N;rw[Q (by rw[f];decide)];refine⟨_,I,λhd=>?_,λhd=>?_⟩
 .rw[E hd];refine(aeA (h.only b) d).mono ?_;rintro _ u ⟨v,rfl,F,hd⟩;obtain⟨k,rfl⟩:=hd.int;exact⟨k,I,b.ph F,hd⟩
 rw[Q (by rw[hd];decide)];refine(akZ (h.only b) d o).mono ?_;rintro _ u ⟨v,rfl,F,hd⟩;obtain⟨k,rfl⟩:=hd.int;exact⟨k,I,b.ph F,hd⟩
def yI{m:L}{q:Tq}(h:ot m=.ok q):1<=q.2.2.2:=by
 cases m with
 |nil=>cases h
 |cons c r=>
  simp only[ot]at h;split at h
  .rename_i a;unfold pC at h;split at h
   .cases h
   injection h with h;subst h;have:gf c=aE:=by unfold gf;rw[a];rfl
   simp_all
  split at h
  .rename_i c;unfold vX at h;split at h
   .cases h
   split at h
   .cases h
   rename_i b a;injection h with h;subst h;dsimp only;rw[fM,E<|by unfold gf;grind,aY]at a;omega
  unfold qF at h
  grind
def J8{m:L}{e:Int}(h:ot m=.error e):e≠0:=by
 cases m with
 |nil=>injection h with h;omega
 |cons c r=>
  simp only[ot]at h;split at h
  .unfold pC at h
   grind
  split at h
  .unfold vX at h
   grind
  unfold qF at h
  grind
def FK(l:L):Nat->Nat->Except (Int×Nat) (J Tk)
 |0,_=>.ok []
 |f+1,i=>
  if (WS l)<=i+mj aL (l.drop i)then .ok [⟨5,[],0,(i+mj aL (l.drop i):Nat)⟩]
  else match ot (l.drop<|i+mj aL (l.drop i))with
   |.error e=>.error (e,i+mj aL (l.drop i))
   |.ok q=>match FK l f (i+mj aL (l.drop i)+q.2.2.2)with
    |.error x=>.error x
    |.ok r=>.ok (⟨q.1,q.2.1,q.2.2.1,(i+mj aL (l.drop i):Nat)⟩::r)
def acO{l:L}:(im l).2.1<=WS l:=by
 have:=uM (p:=dH) (l:=l);unfold im
 grind
def FL{m:L}{q:Tq}(h:ot m=.ok q):q.2.2.2<=WS m:=by
 cases m with
 |nil=>cases h
 |cons c r=>
  simp only[ot]at h;split at h
  .unfold pC at h;split at h
   .cases h
   injection h with h;subst h;exact uM
  split at h
  .unfold vX at h;split at h
   .cases h
   split at h
   .cases h
   injection h with h;subst h;exact acO
  unfold qF at h;split at h
  .cases h
  injection h with h;subst h;exact A7
def M0{l:L}{i:Nat}(h:i<=WS l):i+mj aL (l.drop i)<=WS l:=by
 have:=JY (b:=aL) (l:=l.drop i)
 grind
def xo(l:L):∀(f g i:Nat),i<=(WS l)->WS l<i+f->WS l<i+g->FK l f i=FK l g i
 |0,_,i,a,h,_=>X
 |_,0,i,a,_,h=>X
 |f+1,g+1,i,b,h,a=>by
  rw[FK,FK];split
  .rfl
  split
  .rfl
  rename_i q c;have:=yI c;have d:=FL c;rw[cT]at d;rw[xo l f g _ X X X]
def ma(l:L)(i:Nat):Except (Int×Nat) (J Tk):=FK l (WS l+1) i
def lK{l:L}{i:Nat}(h:i<=WS l):ma l i=if (WS l)<=i+mj aL (l.drop i)then .ok [⟨5,[],0,(i+mj aL (l.drop i):Nat)⟩]
  else match ot (l.drop<|i+mj aL (l.drop i))with
   |.error e=>.error (e,i+mj aL (l.drop i))
   |.ok q=>match ma l (i+mj aL (l.drop i)+q.2.2.2)with
    |.error x=>.error x
    |.ok r=>.ok (⟨q.1,q.2.1,q.2.2.1,(i+mj aL (l.drop i):Nat)⟩::r):=by
 unfold ma;rw[FK];split
 .rfl
 split
 .rfl
 rename_i q a;have:=yI a;have b:=FL a;rw[cT]at b;rw[xo l (WS l) (WS l+1) _ X X X]
def cR(l:L):J Tk×Int×Int:=if 16384<WS l then([],2, -1)else match ma l 0 with
 |.error x=>([],x.1,(x.2:Nat))
 |.ok r=>(r,0,0)
def lm(a:J Tk):Except (Int×Nat) (J Tk)->Except (Int×Nat) (J Tk)
 |.error x=>.error x
 |.ok r=>.ok<|a++r
def tM(b:C):∀(l:L),mj aL (l.drop<|mj b l)=0
 |[]=>Mi
 |c::r=>by
  cases b
  .rw[mj];split
   .rw[qm,ki];exact tM _ r
   split
   .rw[qm,ki];exact tM _ r
   rename_i h a;rw[lg,mj,Q h,Q a]
  rw[mj,qm,ki];exact tM _ r
def pV{l:L}{i:Nat}(h:i<=WS l):ma l i=ma l (i+mj aL (l.drop i)):=by
 let b:mj aL (l.drop<|i+mj aL (l.drop i))=0:=by
  rw[<-jG];exact tM aL<|l.drop i
 rw[lK h,lK<|M0 h,b,ku]
def SO{a b:J Tk}{x:Except (Int×Nat) (J Tk)}:lm a (lm b x)=lm (a++b) x:=by
 cases x with
 |error _=>rfl
 |ok r=>simp[lm]
def M5{w:av}(l:L)(f:Er w):
  az aq 89 #[ab (T l)] w λe a=>∃s:Sl,e=ak (ai #[s.v,ah #[O U (cR l).2.1,O U (cR l).2.2]])/\oL w.heap.size a s (cR l).1/\ay [] w a:=by
 refine(arf (T l) (λv a=>∃s:Sl,v=(ai #[s.v,ah #[O U (cR l).2.1,O U (cR l).2.2]])/\oL w.heap.size a s (cR l).1/\ay [] w a) w ?_).mono (by
  simp_all)
 rw[cE];refine⟨λhc i n _ _ h=>⟨Sl.nil,?_,?_,h⟩,λhc c g m j d=>(Db g).mono ?_⟩
 .rw[cR,E PZ]
 .rw[cR,E PZ];exact E7 ..
 let ff:WS l<=16384:=R
 let Y:cR l=match ma l 0 with
  |.error x=>([],x.1,(x.2:Nat))
  |.ok r=>(r,0,0):=by rw[cR,Q X]
 rintro _ w2 ⟨D,rfl,W,H⟩;refine⟨D,I,H.same o,λb C hb qN K t=>?_⟩;let M:=d.bG<|H.bG K;have:=d.size;have:=H.size;have:=K.size;let P:Cut C b l 0 Sl.nil []:=⟨⟨D,t,(ZH dI Z ((wG W).inHeap dI Z) K N).mono dI X⟩,E7 ..,f.only M,by have:=f.lt;omega,X,ff⟩
 let sm:∀{am u':av},w2.heap.size<=am.heap.size->aD (λk=>b<=k) am u'->bX [c] am u':=λhu h=>h.same (by intro x hx;simp only[bh]at hx;subst hx;omega);refine(wV t (bE _) X).mono ?_;rintro _ w4 ⟨rfl,dB,y⟩;let p4:aD (λk=>b<=k) C w4:=dB.p A;let V:Cut w4 b l (0+mj aL (l.drop 0)) Sl.nil []:=P.move dB (M0 X) λz B=>by
  have:z=D:=by
   unfold aF at B t;rw[B]at t;simp[Sl.v]at t;cases D;cases z;simp_all
  subst this;exact y
 refine⟨I,sm X p4,T l,_,D,Sl.nil,y,λnv e1 e2 s0 i0 G l2 a=>e1=0/\e2=0/\s0=T l/\∃(p:Nat) (u:J Tk),i0=(p:Int)/\Cut a b l p l2 u/\WS u<=p/\mj aL (l.drop p)=0/\ma l 0=lm u (ma l p)/\nv=(WS l)-p/\aD (λk=>b<=k) C a/\aF a b 187 [ab (T l),O U (p:Int),G.v,l2.v],(WS l)-(0+mj aL (l.drop 0)),?_,?_⟩
 .refine⟨I,I,I,_,[],I,V,bE _,?_,?_,I,p4,y⟩
  .rw[<-jG];exact tM aL<|l.drop 0
  rw[<-pV (bE _)];cases ma l 0<;>rfl
 rintro nv _ _ _ _ G s w5 ⟨rfl,rfl,rfl,p,u,rfl,hC,fj,aT,nj,rfl,dV,Yd⟩;have:=dV.size;have:=hC.il;refine(L4 Yd).mono ?_;rintro _ w6 ⟨rfl,x⟩;let aC:=hC.only x;let aS:aF w6 b 187 [ab (T l),O U (p:Int),G.v,s.v]:=(x.block b Yd.lt N).trans Yd;have:=x.size;have r:=lK hC.il;rw[aT,ku]at r;refine⟨_,I,x.same o,T l,p,G,s,aS,λhc=>?_,λhc=>?_⟩
 .have bJ:p<WS l:=WH
  rw[Q X]at r;refine(afI aC X bJ).mono ?_;rintro _ w7 ⟨v,rfl,fu,hd⟩;let p7:aD (λk=>b<=k) C w7:=(dV.bG x).trans fu X;have:=fu.size;unfold ZO at hd;cases hq:ot (l.drop p)with
  |error e=>
   rw[hq]at hd r;obtain⟨rfl,v,b⟩:=hd;let⟨bv,q,_⟩:=b.blk;refine⟨e,I,sm X fu,T l,p,bv,v,q,λ_ w8 fD _=>⟨Sl.nil,?_,?_,?_⟩,λhe=>absurd (J8 hq) Ze⟩
   .rw[Y,nj,r];rfl
   .rw[Y,nj,r];exact E7 ..
   exact(((M.p0 (F:=λk=>w.heap.size<=k)).trans p7 X).trans (fD.p (F:=λk=>k=c) A) X).only X
  |ok q=>
   rw[hq]at hd r;obtain⟨rfl,cc,bV⟩:=hd;let⟨v,e,_⟩:=bV.blk;have:=yI hq;let F:=bV.il;refine⟨0,I,sm X fu,T l,(p+q.2.2.2:Nat),v,cc,e,λhe=>(by simp at he),λ_=>(wV e F X).mono ?_⟩;rintro _ w9 ⟨rfl,fx,bY⟩;let p9:aD (λk=>b<=k) w7 w9:=fx.p A;let ce:=bV.move fx (M0 F) λz B=>by
    have:z=v:=by
     unfold aF at B e;rw[B]at e;simp[Sl.v]at e;cases v;cases z;simp_all
    subst this;exact bY
   refine⟨I,sm X p9,T l,_,v,cc,bY,(WS l)-(p+q.2.2.2+mj aL (l.drop<|p+q.2.2.2)),X,I,I,I,_,_,I,ce,?_,?_,?_,I,p7.trans p9 X,bY⟩
   .rw[aU,bI];omega
   .rw[<-jG];exact tM aL _
   rw[nj,r,<-pV F,<-SO];rfl
 let qk:WS l<=p:=WH
 rw[E qk]at r;refine(SN aC 5 [] 0 0 0 X X).mono ?_;rintro _ dh ⟨rfl,dy,e,v⟩;let⟨cC,qj,_⟩:=v.blk;let dO:aD (λk=>b<=k) C dh:=(dV.bG x).trans dy X;let q:cR l=(u++[⟨5,[],0,(p:Nat)⟩],0,0):=by
  rw[Y,nj,r];rfl
 refine⟨I,sm X dy,T l,_,cC,e,qj,λdE dJ _=>⟨e,?_,?_,?_⟩⟩
 .rw[q]
 .rw[q];have:oL (b+1) dE e _:=v.own.keep λk hk F=>dJ.block k F bW;exact Zd this X
 exact(((M.p0 (F:=λk=>w.heap.size<=k)).trans dO X).trans (dJ.p (F:=λk=>k=c) A) X).only X
inductive Ex where
 |mk (k n:Int) (s:L) (op:Int) (subs:List Ex) (a:Int)
def Ex.k:Ex->Int|.mk k _ _ _ _ _=>k
def Ex.n:Ex->Int|.mk _ n _ _ _ _=>n
def Ex.s:Ex->L|.mk _ _ s _ _ _=>s
def Ex.op:Ex->Int|.mk _ _ _ op _ _=>op
def Ex.dP:Ex->J Ex|.mk _ _ _ _ l _=>l
def Ex.a:Ex->Int|.mk _ _ _ _ _ a=>a
def tk0:Tk:=⟨5,[],0, -1⟩
def tk(t:J Tk)(i:Nat):Tk:=(t[i]?).getD tk0
def sg(t:J Tk)(i:Nat)(s:L):C:=(tk t i).k==4&&JW ((tk t i).t=s)
def jw(t:J Tk)(i:Nat):Int×Int:=(if(tk t i).k=5 then 3 else 4,(tk t i).a)
def FM{ts}{i}(h:i<WS ts):ts[i]? =aM (tk ts i):=by
 rw[tk];simp_all
def vY(t:J Tk):=∀i<(WS t),((tk t i).k=5↔i+1=WS t)
def vY.next{ts}(h:vY ts){i}(a:i<WS ts)(hk:(tk ts i).k≠5):i+1<WS ts:=by
 have:¬_:=λe=>hk<|(h i a).2 e;omega
def zi{ts}{i}{s}(h:sg ts i s=aE):(tk ts i).k≠5:=by
 simp[sg,aO,dw]at h;omega
def zj:J (L):=[[],[43],[45],[42],[47],[37],[60],[60,61],[62],[62,61],[61,61],[33,61],[38,38],[124,124],[45],[33]]
def gX(op:Int):Int:=if 3<=op/\op<=5 then 5 else if op=1∨op=2 then 4 else if 6<=op/\op<=9 then 3 else if op=10∨op=11 then 2 else if op=12 then 1 else if op=13 then 0 else 6
def fe(op:Nat):L:=(zj[op]?).getD []
def kP(t:J Tk)(k:Int)(i:Nat):Nat->Nat->Int
 |0,_=>0
 |f+1,op=>if gX op=k/\sg t i (fe op)=aE then op else kP t k i f (op+1)
def mc(t:J Tk)(k:Int)(i:Nat):Int:=kP t k i 13 1
def rP{ts}{k}{i}:∀f op,kP ts k i f op≠0->(tk ts i).k≠5
 |0,_,h=>absurd I h
 |f+1,op,h=>by
  rw[kP]at h;split at h
  .rename_i c;exact zi c.2
  exact rP f _ h
abbrev Pr:=Except (Int×Int)<|Ex×Nat
def V4(g:Ex->Ex):Pr->Pr
 |.error e=>.error e
 |.ok (x,j)=>.ok (g x,j)
def Hw:Pr->(Ex->Nat->Pr)->Pr
 |.error e,_=>.error e
 |.ok (x,j),g=>g x j
def xI(t:J Tk):Pr->Pr
 |.error e=>.error e
 |.ok (x,j)=>if sg t j [41]then .ok (x,j+1)else .error (jw t j)
def kQ(d:Nat)(a:Int)(r:Pr):Pr:=if d=20 then .error (21,a)else r
def Hb(t:J Tk)(i:Nat):Pr:=
 if sg t (i+1) [40]then
  (if(tk t<|i+2).k=1 then
   (if sg t (i+3) [41]then .ok (.mk 3 0 (tk t<|i+2).t 0 [] (tk t i).a,i+4)else .error (jw t<|i+3))
  else .error (jw t<|i+2))
 else .error (jw t<|i+1)
def rG(t:J Tk)(E Gm:Nat->Pr)(d i:Nat):Pr:=
 if(sg t i [45]||sg t i [33])=aE then V4 (λx=>.mk 4 0 [] (if(tk t i).t=[33]then 15 else 14) [x] (tk t i).a) (kQ d (tk t i).a<|Gm<|i+1)
 else if sg t i [40]=aE then kQ d (tk t i).a (xI t<|E<|i+1)
 else if(tk t i).k=3 then .ok (.mk 1 (tk t i).n [] 0 [] (tk t i).a,i+1)
 else if(tk t i).k=1 then .ok (.mk 2 0 (tk t i).t 0 [] (tk t i).a,i+1)
 else if(tk t i).k=2/\(tk t i).t=[105,110]then Hb t i
 else .error (jw t i)
def jW(t:J Tk)(E:Nat->Pr)(k:Int):Nat->Ex->Nat->Pr
 |0,x,j=>.ok (x,j)
 |g+1,x,j=>if mc t k j=0 then .ok (x,j)else Hw (E<|j+1) λy a=>jW t E k g (.mk 5 0 [] (mc t k j) [x,y] x.a) a
def dF(t:J Tk):Nat->Nat->Nat->Nat->Pr
 |0,_,_,_=>.error (1,0)
 |f+1,k,d,i=>if k=6 then rG t (dF t f 0<|d+1) (dF t f 6<|d+1) d i else Hw (dF t f (k+1) d i) λx j=>jW t (dF t f (k+1) d) k ((WS t)-j) x j
def El{g}{r}{x}{j}(h:V4 g r=.ok (x,j)):∃y,r=.ok (y,j)/\x=g y:=by
 cases r with
 |error e=>cases h
 |ok q=>
  let⟨y,j⟩:=q;obtain⟨rfl,rfl⟩:=h
  grind
def uN{d}{a}{r}{q}(h:kQ d a r=.ok q):r=.ok q/\d≠20:=by
 rw[kQ]at h
 grind
def En{ts}{r}{x}{j}(h:xI ts r=.ok (x,j)):∃a,r=.ok (x,a)/\sg ts a [41]=aE/\j=a+1:=by
 cases r with
 |error e=>cases h
 |ok q=>
  let⟨y,a⟩:=q;simp[xI]at h
  grind
def A8{r}{g}{q}(h:Hw r g=.ok q):∃x j,r=.ok (x,j)/\g x j=.ok q:=by
 cases r with
 |error e=>cases h
 |ok p=>exact⟨p.1,p.2,I,h⟩
def Qy{ts}{i}{x}{j}(h:Hb ts i=.ok (x,j)):j=i+4/\x=.mk 3 0 (tk ts<|i+2).t 0 [] (tk ts i).a:=by
 rw[Hb]at h
 grind
def msN{ts}{E0 Gm}{d i}{x}{j}(E:∀i x j,E0 i=.ok (x,j)->i<j)(a:∀i x j,Gm i=.ok (x,j)->i<j)(h:rG ts E0 Gm d i=.ok (x,j)):i<j:=by
 unfold rG at h;split at h
 .have⟨y,b,_⟩:=El h;have:=a _ _ _ (uN b).1;omega
 split at h
 .obtain⟨c,b,_,rfl⟩:=En (uN h).1
  grind
 split at h
 .simp at h;omega
 split at h
 .simp at h;omega
 split at h
 .have:=(Qy h).1;omega
 cases h
def slS{ts}{E}{k}(h:∀i x j,E i=.ok (x,j)->i<j):∀g x j {b:Ex} {a:Nat},jW ts E k g x j=.ok (b,a)->j<=a
 |0,x,j,b,a,c=>by
  simp[jW,ry,vK]at c;omega
 |g+1,x,j,b,a,c=>by
  rw[jW]at c;split at c
  .simp at c;omega
  let⟨y,m,d,e⟩:=A8 c;have:=h _ _ _ d;have:=slS h g _ _ e;omega
def mr{ts}:∀f k d i {x:Ex} {j:Nat},dF ts f k d i=.ok (x,j)->i<j
 |0,_,_,_,_,_,h=>VI
 |f+1,k,d,i,x,j,h=>by
  rw[dF]at h;split at h
  .exact msN (λi x j h=>mr f _ _ i h) (λi x j h=>mr f _ _ i h) h
  let⟨y,m,a,b⟩:=A8 h;have:=mr f _ _ _ a;have:=slS (λi x j h=>mr f _ _ i h) _ _ _ b;omega
def iw(k d:Nat):Nat:=(20-d)*8+(7-k)
def ug(t:J Tk)(i:Nat):Pr:=dF t (iw 0 0) 0 0 i
structure Rd (F G:h) (ts:List Tk) (w:av) (b:Nat) (l sn:Sl) (i:Nat) (fc fa d:Int):Prop where
 blk:aF w b 325 [l.v,O U (i:Int),O U fc,O U fa,O U d,sn.v]
 tok:aA V2 4 w F l ts
 sig:aA oK 1 w G sn zj
 hF:∀k,F k->k<b
 hG:∀k,G k->k<b
 en:vY ts
 lt:i<WS ts
section
variable{F G:h}{ts:J Tk}{w w':av}{b:Nat}{l sn:Sl}{i:Nat}{fc fa d:Int}
def Rd.only(h:Rd F G ts w b l sn i fc fa d)(O:ay [] w w'):Rd F G ts w' b l sn i fc fa d:=
 ⟨O.blk h.blk N,ZH ju Z h.tok O N,ZH dI Z h.sig O N,h.hF,h.hG,h.en,h.lt⟩
def Rd.lD(h:Rd F G ts w b l sn i fc fa d)(c:ay [b] w w'){a:Nat}{fc' fa' d'}(B:aF w' b 325 [l.v,O U a,O U fc',O U fa',O U d',sn.v])(e:a<WS ts):Rd F G ts w' b l sn a fc' fa' d':=
 ⟨B,ZH ju Z h.tok c λk hk _ hm=>Ui,ZH dI Z h.sig c λk hk _ hm=>Bb,h.hF,h.hG,h.en,e⟩
def Rd.own(h:Rd F G ts w b l sn i fc fa d){bs}(O:ay bs w w')(a:∀x∈bs,b<x):Rd F G ts w' b l sn i fc fa d:=
 ⟨O.blk h.blk R,ZH ju Z h.tok O λk hk _ m=>MV,ZH dI Z h.sig O λk hk _ m=>(by have:=h.hG k hk;grind),h.hF,h.hG,h.en,h.lt⟩
def Rd.lb(h:Rd F G ts w b l sn i fc fa d):b<w.heap.size:=h.blk.lt
def Rd.big(h:Rd F G ts w b l sn i fc fa d):WS ts<=9223372036854775807:=by
 have:=h.tok.len;have:=h.tok.cap;have:=h.tok.big;omega
theorem Rd.now(h:Rd F G ts w b l sn i fc fa d):∃ad,ci l i 4 ad/\aB w ad [O U (tk ts i).k,ab<|T (tk ts i).t,O U (tk ts i).n,O U (tk ts i).a]:=by
 have:=h.tok.len;have:=h.lt;let⟨ad,x,c,e,g,f,j,k,a⟩:=h.tok.get (bf i) X;rw[aV,FM h.lt]at g;injection g with g;subst g;unfold V2 at a
 grind
def M6(c:Rd F G ts w b l sn i fc fa d):az aq 320 #[ae (aM ⟨b,0,VM⟩)] w λe w'=>e=ak (tk ts i).v/\ay [] w w':=by
 refine ret<|aBc ?_;intro k f hk z O;let h:=c.only O;let⟨ad,g,a⟩:=h.now;exact⟨l,Hl h.blk 0 I,_,Hl h.blk 1 I,ad,g,_,_,_,_,a,λj U=>⟨I,O.new U hk⟩⟩
def Ia(h:Rd F G ts w b l sn i fc fa d):az aq 279 #[ae (aM ⟨b,0,VM⟩)] w λe w'=>e=ak (aj<|fc !=0)/\ay [] w w':=ret<|v7w w ⟨fc,Hl h.blk 2 I,I,qE _ _⟩
def J9(h:Rd F G ts w b l sn i fc fa d) c:az aq 333 #[ae (aM ⟨b,0,VM⟩),O U c] w λe w'=>e=ak (ai #[])/\ay [b] w w'/\
  Rd F G ts w' b l sn i (if fc=0 then c else fc) (if fc=0 then(tk ts i).a else fa) d:=by
 refine ret<|aBi<|(Ia h).mono ?_;rintro _ f ⟨rfl,T⟩;let a:=h.only T;refine⟨_,I,λhc=>(M6 a).mono ?_,λhc=>?_⟩
 .have hc:=WH
  subst hc;rintro _ w ⟨rfl,U⟩;let d:=a.only U;exact⟨_,_,_,_,I,b,2,_,_,I,d.blk,N,λe c o=>⟨I,(T.bG U).weaken R |>.trans c R,d.lD c o h.lt⟩⟩
 have hc:=WH
 rw[Q hc,Q hc];exact⟨I,T.weaken R,a⟩
def Ka(h:Rd F G ts w b l sn i fc fa d):az aq 326 #[ae (aM ⟨b,0,VM⟩)] w λe w'=>e=ak (ai #[])/\ay [b] w w'/\
  Rd F G ts w' b l sn i (if fc=0 then(jw ts i).1 else fc) (if fc=0 then(jw ts i).2 else fa) d:=by
 refine ret<|aBg ⟨λw'=>ay [b] w w'/\((tk ts i).k=5->Rd F G ts w' b l sn i (if fc=0 then 3 else fc) (if fc=0 then(tk ts i).a else fa) d)/\((tk ts i).k≠5->Rd F G ts w' b l sn i fc fa d),?_,(M6 h).mono ?_⟩
 .rintro w ⟨b,a,c⟩;by_cases hk:(tk ts i).k=5
  .refine(J9 (a hk) 4).mono λ_ f ⟨rfl,d,e⟩=>⟨I,I,b.trans d R,?_⟩;unfold jw
   grind
  refine(J9 (c hk) 4).mono λ_ f ⟨rfl,d,e⟩=>⟨I,I,b.trans d R,?_⟩;unfold jw
  grind
 rintro _ w ⟨rfl,c⟩;let a:=h.only c;refine⟨_,_,_,_,I,λb=>(J9 a 3).mono ?_,λb=>⟨c.weaken R,λe=>?_,λ_=>a⟩⟩
 .rintro _ e ⟨rfl,N,d⟩;exact⟨I,c.weaken R |>.trans N R,λ_=>d,A⟩
 grind
def ate(h:Rd F G ts w b l sn i fc fa d){H}{s}{ss}(k:aA oK 1 w H s ss):az aq 321 #[ae (aM ⟨b,0,VM⟩),s.v] w λe w'=>
  e=ak (aj<|fc==0&&(tk ts i).k==4&&ss.contains (tk ts i).t)/\ay [] w w':=by
 refine ret<|v8w<|(M6 h).mono ?_;rintro _ n ⟨rfl,T⟩;refine⟨_,_,_,_,I,λm p hk z U=>⟨λc w'=>c=_/\ay [] w w',λc q f=>⟨by rw[f.1],f.2⟩,let j:=T.bG U;(Ia<|h.only j).mono ?_⟩⟩;rintro _ r ⟨rfl,a⟩;let e:(!(fc !=0))=(fc==0):=R
 refine⟨_,I,a.same o,λg=>(xE (ZH dI Z k (j.bG a) N) _).mono ?_,λg=>⟨?_,j.bG a⟩⟩
 .rintro _ w ⟨rfl,d⟩;rw[e]at g;have:=a.size;exact⟨_,I,d.same o,R,j.bG<|a.bG d⟩
 simp_all
def ZC(h:Rd F G ts w b l sn i fc fa d) s:∃(c:Sl) (a:av),(au 75 1 #[.mk 0 (ab<|T s)]).run aq w=.ok c.v a/\ay [] w a/\
  az aq 321 #[ae (aM ⟨b,0,VM⟩),c.v] a λe w'=>e=ak (aj<|fc==0&&sg ts i s)/\ay [] a w':=by
 let⟨c,a,k,f,k3⟩:=lj w [s] (n:=1) (parts:=#[_]) I I Z Z;refine⟨c,a,k,k3,(ate (h.only k3)<|wG f).mono ?_⟩;rintro _ g ⟨rfl,U⟩;have:[s].contains (tk ts i).t=JW ((tk ts i).t=s):=by
  simp_all
 refine⟨?_,U⟩;unfold sg
 grind
def is2(h:Rd F G ts w b l sn i fc fa d):∃(s:Sl) (a:av),(au 75 2 #[.mk 0 (ab<|ao #[45]),.mk 1<|ab<|ao #[33]]).run aq w=.ok s.v a/\ay [] w a/\
  az aq 321 #[ae (aM ⟨b,0,VM⟩),s.v] a λe w'=>e=ak (aj<|fc==0&&(sg ts i [45]||sg ts i [33]))/\ay [] a w':=by
 let⟨s,a,k,c,k3⟩:=lj w [[45],[33]] (n:=2) (parts:=#[_,_]) I I Z Z;refine⟨s,a,k,k3,(ate (h.only k3)<|wG c).mono ?_⟩;rintro _ f ⟨rfl,U⟩;let e:[[45],[33]].contains (tk ts i).t=(JW ((tk ts i).t=[45])||JW ((tk ts i).t=[33])):=by
  simp
 refine⟨?_,U⟩;unfold sg;rw[zH,<-Bool.and_or_distrib_left,e]
def FO(a:Rd F G ts w b l sn i fc fa d) s:az aq 324 #[ae (aM ⟨b,0,VM⟩),ab<|T s] w λe w'=>e=ak (ai #[])/\ay [b] w w'/\
  (if fc==0&&sg ts i s then Rd F G ts w' b l sn (i+1) fc fa d else Rd F G ts w' b l sn i (if fc=0 then(jw ts i).1 else fc) (if fc=0 then(jw ts i).2 else fa) d):=by
 refine ret<|v9w<|let⟨g,m,f,k,k3⟩:=ZC a s;⟨g,m,f,k3.mono ?_⟩;rintro _ n ⟨rfl,U⟩;let c:=a.only<|k.bG U;let j:ay [b] w n:=(k.bG U).weaken R;refine⟨_,I,λh=>(Ka c).mono ?_,λh=>?_⟩
 .rintro _ w ⟨rfl,F,b⟩;have h:(fc==0&&sg ts i s)=aL:=R
  rw[h];exact⟨I,I,j.trans F R,b⟩
 have h:=by rwa[jo]at h
 rw[h];simp at h;let e:=a.en.next a.lt<|zi h.2;have:=a.big;refine⟨i,Hl c.blk 1 I,b,1,_,_,I,c.blk,N,λo d w=>⟨I,j.trans d R,c.lD d ?_ e⟩⟩;rw[eI X X]at w;exact w
def SP(h:Rd F G ts w b l sn i fc fa d):az aq 325 #[ae (aM ⟨b,0,VM⟩)] w λe w'=>ay [b] w w'/\
  (if fc=0/\(tk ts i).k=1 then e=ak (ab<|T (tk ts i).t)/\Rd F G ts w' b l sn (i+1) fc fa d else e=ak (ab<|T [])/\Rd F G ts w' b l sn i (if fc=0 then(jw ts i).1 else fc) (if fc=0 then(jw ts i).2 else fa) d):=by
 refine(aBf ⟨b,0,VM⟩ (λv w'=>ay [b] w w'/\(if fc=0/\(tk ts i).k=1 then v=_/\Rd F G ts w' b l sn _ fc fa d else v=_/\Rd F G ts w' b l sn i _ _ d)) w ?_).mono (by
  rintro e w' ⟨v,rfl,O,b⟩;refine⟨O,?_⟩;split at b
  .rename_i hc;rw[E hc];exact⟨by rw[b.1],b.2⟩
  rename_i hc;rw[Q hc];exact⟨by rw[b.1],b.2⟩)
 refine(M6 h).mono ?_;rintro _ p ⟨rfl,f⟩;refine⟨_,_,_,_,I,λn q hk z U=>let j:=f.bG U;have:=f.size;have:=h.lb;(Ia<|h.only j).mono ?_⟩;rintro _ k ⟨rfl,c⟩;have:=c.size;let a:=h.only<|j.bG c;let g:ay [b] w k:=(j.bG c).weaken R;refine⟨_,I,c.same o,λhc=>(Ka a).mono ?_,λhc=>?_⟩
 .rintro _ w ⟨rfl,b,d⟩;refine⟨I,b.same o,g.trans b R,?_⟩
  grind
 let hc:=WH
 let e:=h.en.next h.lt X;have:=h.big;refine⟨i,Hl a.blk 1 I,b,1,_,_,I,a.blk,N,X,λt d w=>⟨g.trans d R,?_⟩⟩;rw[E hc];refine⟨I,a.lD d ?_ e⟩;rw[eI X X]at w;exact w
end
def QA w op:az aq 305 #[O U op] w λe d=>e=ak (O U<|gX op)/\d=w:=by
 refine ret<|aA8 ?_;let f:∀{k:Int} {a:av},gX op=k->(Value.int U k=O U (gX op)/\a=a):=R
 refine⟨λc=>f ?_,λc=>⟨λb d=>b=JW (op=1∨op=2)/\d=w,?_,λh=>⟨?_,I⟩,λh=>⟨?_,I⟩⟩⟩
 .simp at c;rw[gX];omega
 .rintro _ a ⟨rfl,rfl⟩;have:¬(3<=op/\op<=5):=A
  refine⟨λh=>f ?_,λh=>⟨λg=>f ?_,λg=>⟨λb w=>b=JW (op=10∨op=11)/\w=a,?_,λe=>⟨?_,I⟩,λe=>⟨?_,I⟩⟩⟩⟩
  .have h:=S h;rw[gX];omega
  .have h:=aQ h;simp at g;rw[gX];omega
  .rintro _ _ ⟨rfl,rfl⟩;let h:=aQ h;have:¬(6<=op/\op<=9):=A
   refine⟨λe=>f ?_,λe=>⟨λh4=>f ?_,λh4=>⟨λb=>f ?_,λb=>f ?_⟩⟩⟩
   .have e:=S e;rw[gX];omega
   .have e:=aQ e;let h4:=Jn
    rw[gX];omega
   .have e:=aQ e;have:=Jn
    let b:=by simpa using b
    rw[gX];omega
   let e:=aQ e;let b:=by simpa using b
   rw[gX]
   grind
  .simp_all
  grind
 .simp_all
 grind
section
variable{F G:h}{ts:J Tk}{w w':av}{b:Nat}{l sn:Sl}{i:Nat}{fc fa d:Int}
def G1(a:Rd F G ts w b l sn i fc fa d) k:az aq 300 #[ae (aM ⟨b,0,VM⟩),O U k] w λe w'=>e=ak (O U<|if fc=0 then mc ts k i else 0)/\ay [] w w':=by
 refine ret<|aA7 ⟨λn f w'=>∃op:Nat,1<=op/\op<=14/\f=(op:Int)/\n=14-op/\(if fc=0 then mc ts k i else 0)=(if fc=0 then kP ts k i (14-op) op else 0)/\ay [] w w',13,⟨1,Z,Z,I,I,I,qE _ _⟩,?_⟩;rintro n _ m ⟨op,g,j,rfl,rfl,V,T⟩;refine⟨λh=>?_,λh=>?_⟩
 .have h:(op:Int)<=13:=S h;obtain⟨b,d⟩:∃b,14-op=b+1:=⟨13-op,X⟩
  rw[d,kP]at V;refine⟨λc w'=>c=(JW (gX (op:Int)=k)&&(fc==0&&sg ts i (fe op)))/\ay [] w w',?_,λe F=>(QA e _).mono ?_⟩
  .rintro _ w ⟨rfl,c⟩;refine⟨λi=>⟨?_,c⟩,λi=>⟨b,X,op+1,X,X,N0,X,?_,c⟩⟩
   .simp_all
   grind
  rintro _ w ⟨rfl,rfl⟩;have c:=a.only<|T.bG F;refine⟨_,I,λhk=>?_,λhk=>?_⟩
  .have hk:=Wq
   have D:=c.sig.len;have r:WS zj=16:=I;have⟨ad,x,z,o,k,B,C,p,q⟩:=c.sig.get (i:=↑op) X X;subst q;rw[aV]at k;have s:fe op=x:=by unfold fe;rw[k];rfl
   subst s;obtain⟨v,y,t,u,k3⟩:=ZC c _;refine⟨sn,Hl c.blk 5 I,ad,o,_,p,v,y,t,k3.mono ?_⟩;rintro _ E ⟨rfl,l⟩;exact⟨_,I,A,T.bG<|F.bG<|u.bG l⟩
  exact⟨by rw[bR Wq,dT],T.bG F⟩
 have h:=aQ h;have:op=14:=X
 subst this;rw[V];refine⟨?_,T⟩;split<;>rfl
end
abbrev qS(k n:Int)(s:L)(op:Int)(sl:Sl)(a:Int):aI:=[O U k,O U n,ab<|T s,O U op,sl.v,O U a]
inductive RXN (w:av) (N:h):Nat->Nat->Ex->aI->Prop
 |leaf (lo hi:Nat) (k n:Int) (s:L) (op a:Int):RXN w N lo hi (.mk k n s op [] a) (qS k n s op Sl.nil a)
 |one (lo m g hi:Nat) (k n:Int) (s:L) (op a:Int) (x:Ex) (cs:aI):RXN w N lo m x cs->lo<=g->m<=g->g<hi->¬N g->aF w g 74 cs->RXN w N lo hi (.mk k n s op [x] a) (qS k n s op ⟨aM ⟨g,0,VM⟩,1,1⟩ a)
 |two (lo m m' m2 g hi:Nat) (k n:Int) (s:L) (op a:Int) (x y:Ex) (cs ds:aI):RXN w N lo m x cs->m<=m'->RXN w N m' m2 y ds->lo<=m'->m<=g->m'<=g->m2<=g->g<hi->¬N g->aF w g 74 (cs++ds)->RXN w N lo hi (.mk k n s op [x,y] a) (qS k n s op ⟨aM ⟨g,0,VM⟩,2,2⟩ a)
abbrev RX(w:av):Nat->Nat->Ex->aI->Prop:=RXN w λ_=>False
section
variable{w w':av}{N N':h}{lo hi:Nat}{x:Ex}{cs:aI}
theorem RXN.keep(h:RXN w N lo hi x cs):(∀k,lo<=k->k<hi->¬N k->k<w.heap.size->w'.heap[k]? =w.heap[k]?)->RXN w' N lo hi x cs:=by
 induction h with
 |leaf lo hi k n s op a=>exact λ_=>.leaf ..
 |one lo m g hi k n s op a x cs i b f c e d j=>
  intro hk;exact .one lo m g hi k n s op a x cs R b f c e<|(hk g b c e d.lt).trans d
 |two lo o p q g hi k n s op a x y cs e r f t i j l m b d c L P=>
  intro hk;exact .two lo o p q g hi k n s op a x y cs e R f R i j l m b d<|(hk g X b d c.lt).trans c
theorem RXN.wide(h:RXN w N lo hi x cs):∀{l D:Nat},l<=lo->hi<=D->RXN w N l D x cs:=by
 induction h with
 |leaf lo hi k n s op a=>exact λ_ _=>.leaf ..
 |one lo m g hi k n s op a x cs i j b o d c p=>
  intro l D e f;exact .one l m g D k n s op a x cs R X b X d c
 |two lo o p q g hi k n s op a x y cs d u b c v e f i w m j L P=>
  intro l D r t;exact .two l o p q g D k n s op a x y cs d R b c X e f i X m j
theorem RXN.I2(h:RXN w N lo hi x cs):(∀k,lo<=k->k<hi->¬N k->¬N' k)->RXN w N' lo hi x cs:=by
 induction h with
 |leaf lo hi k n s op a=>exact λ_=>.leaf ..
 |one lo m g hi k n s op a x cs i b d c f e j=>
  intro hk;exact .one lo m g hi k n s op a x cs R b d c (hk g b c f) e
 |two lo m o p g hi k n s op a x y cs d q b r c e f i j t l L P=>
  intro hk;exact .two lo m o p g hi k n s op a x y cs d R b R c e f i j R l
def RXN.cells(h:RXN w N lo hi x cs):∃sl,cs=qS x.k x.n x.s x.op sl x.a/\(sl.n=WS x.dP):=by
 cases h with
 |leaf=>exact⟨_,I,I⟩
 |one=>exact⟨_,I,I⟩
 |two=>exact⟨_,I,I⟩
theorem RXN.only(h:RXN w N lo hi x cs){bs}(O:ay bs w w')(d:∀k∈bs,k<lo∨hi<=k∨N k):RXN w' N lo hi x cs:=
 h.keep λk b c n a=>O.block k a R
end
def Kb w (a:J _) (e:∀v∈a,WS v=6) (f:0<WS a) (h:WS a<=100) {parts} (p:parts=(((a.map λv=>Value.agg v.toArray).zipIdx 0).map λx=>(x.2,x.1)).toArray):
  ∃c,(au 72 (WS a) parts).run aq w=.ok (Sl.v ⟨aM ⟨w.heap.size,0,VM⟩,WS a,WS a⟩) c/\aF c w.heap.size 74 a.flatten/\ay [] w c:=by
 let g:((a.map λv=>Value.agg v.toArray).flatMap λv=>v.cells.toList)=a.flatten:=by
  clear e f h p
  induction a with
  |nil=>rfl
  |cons v a i=>rw[ch,tF,i,fE];rfl
 let b:t74.size=6:=I;have d:=run_buildSlice (P:=aq) w 72 74 (WS a) parts ((a.map λv=>Value.agg v.toArray).flatMap λv=>v.cells.toList).toArray t74 _ D D I (by rw[b];omega) (by rw[b];omega)
  (by
   subst p;rw[mM,b];refine Go.Great.fill_whole (s:=6) Z _ _ (λv h=>?_) ?_
   .obtain⟨x,i,rfl⟩:=dK.1 h;have:=e x i;assumption
   simp)
 rw[g]at d;exact⟨_,d,Jp w _ _,Rk _ _⟩
def xX(v:aw):=∃(k n:Int) (s:L) (op:Int) (sl:Sl) (a:Int),v=ah (qS k n s op sl a).toArray
def uO(F G:h)(t:J Tk)(a w:av)(b:Nat)(l sn:Sl)(d:Nat)(r:Pr)(v:aw):Prop:=ay [b] a w/\match r with
 |.ok (x,j)=>∃c,v=ah c.toArray/\RX w a.heap.size w.heap.size x c/\Rd F G t w b l sn j 0 0 d
 |.error e=>e.1≠0/\xX v/\∃j,Rd F G t w b l sn j e.1 e.2 d
section
variable{F G:h}{ts:J Tk}{w w':av}{b:Nat}{l sn:Sl}{i:Nat}{fc fa d:Int}
def gR:(jw ts i).1≠0:=by
 rw[jw];omega
theorem zw{d:Nat}(hd:d<=20)(h:Rd F G ts w b l sn i 0 0 d)(m:i+1<WS ts){g:Nat}{z1 z2:aI}(p:∀x w,(callFunc g x).run aq w=.ok (.enter g x) w)(f:OV)(n:f.v=.func (.func g) z1.toArray z2.toArray){r}
  (s:d≠20->∀j,ay [b] w j->Rd F G ts j b l sn (i+1) 0 0 ((d+1:Nat))->az aq g (z1++z2).toArray j λe w'=>∃v,e=ak v/\uO F G ts j w' b l sn (d+1) r v):
  az aq 322 #[ae (aM ⟨b,0,VM⟩),f.v] w λe w'=>∃v,e=ak v/\uO F G ts w w' b l sn d (kQ d (tk ts i).a r) v:=by
 refine aBd ⟨b,0,VM⟩ f (λv w'=>uO F G ts w w' b l sn d (kQ d (tk ts i).a r) v) w ?_;intro k y hk u T;have:=h.lb;let a:=h.only T;refine⟨d,Hl a.blk 4 I,λc=>(J9 a 21).mono ?_,λc=>?_⟩
 .have c:d=20:=R
  rintro _ j ⟨rfl,e,h⟩;rw[E I,E I]at h;refine⟨I,e.same o,λw F=>⟨?_,?_⟩⟩
  .exact((T.weaken (bs':=[b]) R).trans e R).new F hk
  rw[kQ,E c];exact⟨(by decide:(21:Int)≠0),⟨0,0,[],0,Sl.nil,0,I⟩,i,h.own F o⟩
 let c:d≠20:=R
 have:=h.big;refine⟨i,Hl a.blk 1 I,b,1,_,_,I,a.blk,N,X,λw3 M wX=>?_⟩;rw[eI X X]at wX;let B:=a.lD M wX m;have:=M.size;refine⟨d,Hl B.blk 4 I,b,4,_,_,I,B.blk,N,X,λw4 P uw=>?_⟩;rw[eI X X]at uw;let L:=P.size;let ym:=((T.weaken (bs':=[b]) R).trans M R).trans P R;refine⟨g,z1,z2,n,p,?_⟩;let e:Cq (Cq z1 []) z2=z1++z2:=by unfold Cq;grind
 rw[e];refine(s c w4 ym<|B.lD P uw m).mono ?_;rintro _ Y ⟨v,rfl,V,hd⟩;have:=V.size;rw[kQ,Q c];let hv:=by
  cases r with
  |error e=>exact hd.2.1
  |ok q=>
   obtain⟨b,rfl,h,_⟩:=hd;obtain⟨sl,rfl,_⟩:=h.cells;exact⟨_,_,_,_,_,_,I⟩
 obtain⟨vk,vn,vs,vo,aS,va,rfl⟩:=hv;refine⟨_,_,_,_,_,_,I,V.same o,λk8 Z aC am W=>?_⟩;have:=W.size;let K:∀{J:Nat} {fc fa:Int},Rd F G ts Y b l sn J fc fa _->∃C,aB Z (Addr.add _ 4) [O U C]/\∃f S,∃L,∃D,(Addr.add ⟨b,0,VM⟩ 4)=⟨f,S,VM⟩/\aF Z f D L/\(S+1)<=WS L/\k≠f/\k8≠f/\
   ∀q,ay [f] Z q->aF q f D (fX L S [O U (ar U<|C-1)])->∀e,ay [k] q e->ay [b] w e/\ay [b,k] Y e/\Rd F G ts e b l sn J fc fa d:=fun{J fc fa} h6=>by
  let g:=h6.only W;refine⟨_,Hl g.blk 4 I,b,4,_,_,I,g.blk,N,X,X,λq r xp e z=>?_⟩;let ed:((d+1:Nat):Int)-1=d:=X
  rw[ed,eI X X]at xp;let h8:=g.lD r xp g.lt;let v:ay [b,k] Y e:=((W.weaken (bs':=[b,k]) λ_ h=>VI).trans r A).trans z A;exact⟨(ym.trans V λx i=>.inl i).trans v (λx i=>by
   simp at i;rcases i with rfl|rfl
   .exact .inl N
   exact .inr hk),v,h8.own z o⟩
 let H:=hd;cases r with
 |error e=>
  let⟨h,i,J,B⟩:=H;let⟨C,l,f,S,z,D,q,k3,r,v,w,F⟩:=K B;exact⟨C,l,f,S,z,D,q,k3,r,v,w,λG g xp w9 x=>let⟨b,a2,d⟩:=F G g xp w9 x;⟨b,h,i,J,d⟩⟩
 |ok q=>
  let⟨g,i,l,B⟩:=H;let⟨C,r,f,S,z,D,v,k3,w,F,G,k7⟩:=K B;exact⟨C,r,f,S,z,D,v,k3,w,F,G,λw8 h xp w9 x=>let⟨d,b,e⟩:=k7 w8 h xp w9 x;⟨d,g,i,(l.only b R).wide X b.size,e⟩⟩
end
section
variable{F G:h}{ts:J Tk}{w w':av}{b:Nat}{l sn:Sl}{i:Nat}{fc fa d:Int}
def uO.tt{w w'}{d}{r}{v}(h:uO F G ts w w' b l sn d r v):xX v:=by
 let⟨_,h⟩:=h;cases r with
 |error e=>exact h.2.1
 |ok q=>
  obtain⟨c,rfl,x,_⟩:=h;obtain⟨sl,rfl,_⟩:=x.cells;exact⟨_,_,_,_,_,_,I⟩
theorem uO.GY{w0 w1 w2 w3}{d}{r}{v}(a:uO F G ts w1 w2 b l sn d r v)(T:ay [b] w0 w1){bs}(c:ay bs w2 w3)(f:∀x∈bs,b<x/\w0.heap.size<=x/\x<w1.heap.size):uO F G ts w0 w3 b l sn d r v:=by
 let⟨g,a⟩:=a;refine⟨(T.trans g λx h=>.inl h).trans c λx h=>.inr (f x h).2.1,?_⟩;cases r with
 |error e=>
  let⟨b,d,j,i⟩:=a;exact⟨b,d,j,i.own c R⟩
 |ok q=>
  let⟨s,b,d,e⟩:=a;exact⟨s,b,(d.only c λx h=>.inl (f x h).2.2).wide T.size c.size,e.own c λx h=>(f x h).1⟩
theorem atg{d:Nat}{r:Pr}{f:Nat}(h:Rd F G ts w b l sn i 0 0 (d:Int))(hk:b<f)(B:aF w f 321 [ae (aM ⟨b,0,VM⟩)])
  (y:∀g,ay [] w g->az aq 278 #[ae (aM ⟨b,0,VM⟩),O U 0] g λe w'=>∃v,e=ak v/\uO F G ts g w' b l sn d r v):
  az aq 323 #[ae (aM ⟨f,0,VM⟩)] w λe w'=>∃v,e=ak v/\uO F G ts w w' b l sn d (xI ts r) v:=by
 refine aBe ⟨f,0,VM⟩ w ?_;intro D p Z A T;have:=h.lb;let Y:aF p f 321 [ae (aM ⟨b,0,VM⟩)]:=T.blk B N;have:=B.lt;refine⟨_,Hl Y 0 I,(y p T).mono ?_⟩;rintro _ g ⟨v,rfl,hd⟩;obtain⟨k,n,s,op,sl,a,rfl⟩:=hd.tt;have:=hd.1.size;refine⟨_,_,_,_,_,_,I,hd.1.same o,λJ t L K c=>have:=c.size;let C:aF t f 321 [ae (aM ⟨b,0,VM⟩)]:=c.blk (hd.1.blk Y o) N;⟨_,Hl C 0 I,_,I,?_⟩⟩;let⟨u,hd⟩:=hd;let m:ay [b] w t:=((T.weaken λ_ h=>VI).trans u λx j=>.inl j).bG c;cases r with
 |error e=>
  let⟨h,l,k,a⟩:=hd;let a:=a.only c;refine(FO a [41]).mono ?_;rintro _ w ⟨rfl,b,i⟩;rw[Q (by simp[h]),Q h,Q h]at i;refine⟨I,b.same o,λn d=>⟨((m.trans b λx j=>.inl j).new d Z),h,⟨_,_,_,_,_,_,I⟩,k,i.own d o⟩⟩
 |ok q=>
  let⟨x,e⟩:=q;let⟨i,l,n,b⟩:=hd;refine(FO (b.only c) [41]).mono ?_;rintro _ w ⟨rfl,a,h⟩;have:=a.size;refine⟨I,a.same o,λr d=>⟨((m.trans a R).new d Z),?_⟩⟩;have:=d.size;by_cases s:sg ts e [41]=aE
  .rw[E (by simp[s])]at h;simp only[xI,s,R6];exact⟨i,l,(((n.only c N).only a λk hk=>.inl QT).only d λk hk=>.inl QT).wide X X,h.own d o⟩
  rw[Q (by simp[s]),E I,E I]at h;simp only[xI,s,oe];exact⟨gR,⟨_,_,_,_,_,_,I⟩,e,h.own d o⟩
theorem ak0{f d:Nat}(hd:d<=20)(m:Rd F G ts w b l sn i 0 0 (d:Int))
  (hE:d≠20->∀w i,Rd F G ts w b l sn i 0 0 ((d+1:Nat):Int)->az aq 278 #[ae (aM ⟨b,0,VM⟩),O U 0] w λe w'=>∃v,e=ak v/\uO F G ts w w' b l sn (d+1) (dF ts f 0 (d+1) i) v)
  (am:d≠20->∀w i,Rd F G ts w b l sn i 0 0 ((d+1:Nat):Int)->az aq 299 #[ae (aM ⟨b,0,VM⟩)] w λe w'=>∃v,e=ak v/\uO F G ts w w' b l sn (d+1) (dF ts f 6 (d+1) i) v):
  az aq 299 #[ae (aM ⟨b,0,VM⟩)] w λe w'=>∃v,e=ak v/\uO F G ts w w' b l sn d (dF ts (f+1) 6 d i) v:=by
 have nj:dF ts (f+1) 6 d i=rG ts (dF ts f 0<|d+1) (dF ts f 6<|d+1) d i:=by rw[dF,E I]
 rw[nj];generalize aC:dF ts f 0 (d+1)=E0 at*
 generalize aS:dF ts f 6 (d+1)=Gm at*
 generalize h:rG ts E0 Gm d i=Z;rw[rG]at h;refine aA6 ⟨b,0,VM⟩ (λv w'=>uO F G ts w w' b l sn d Z v) w ?_;intro V J w0 fH dC kZ jl bT;have hb:=m.lb;refine(M6<|m.only bT).mono ?_;rintro _ w1 ⟨rfl,P⟩;have z1:=P.size;refine⟨_,_,_,_,I,P.same o,λW k3 w2 yq uu AH wz cF=>have z2:=cF.size;have z0:=bT.size;have oa:=(bT.bG P).bG cF;have u:=m.only oa;have gz:=m.big;have sm:∀{y Y:av},w2.heap.size<=y.heap.size->ay [b] y Y->bX [V,J,W,k3] y Y:=λhu hO=>hO.same (by intro x j;simp only[ba,cy,fQ]at j⊢;omega);have p:∀{y Y:av},w2.heap.size<=y.heap.size->ay [] y Y->bX [V,J,W,k3] y Y:=λhu hO=>hO.same (by intro x j;simp only[ba,cy,fQ]at j;exact⟨X,N⟩);⟨λq _ _ _ _ _ _ B C L H K z w'=>q=aM ⟨b,0,VM⟩/\ay [] w w'/\(tk ts i).k≠5/\∃t,L=T t/\K=Sl.nil/\Z=.ok (.mk B C t H [] z,i+1),?_,?_⟩⟩
 .rintro _ _ _ _ _ _ _ B C _ H _ z r ⟨rfl,c,k,t,rfl,rfl,bJ⟩;have a:=m.only c;have n:=m.en.next m.lt k;refine⟨_,I,(i:Int),Hl a.blk 1 I,_,I,b,1,_,_,I,a.blk,N,X,X,X,X,λq e w s f=>?_⟩;rw[eI X X]at w;have g:Rd F G ts q b l sn (i+1) 0 0 (d:Int):=a.lD e w n;rw[bJ];refine⟨((c.weaken (bs':=[b]) R).trans e λx j=>.inl j).new f X,_,I,.leaf ..,g.own f o⟩
 refine(Ia u).mono ?_;rintro _ w6 ⟨rfl,dr⟩;have z6:=dr.size;refine⟨_,I,p X dr,R,λ_=>let⟨s8,w8,k8,fD,bv⟩:=is2<|u.only dr;have z8:=fD.size;⟨s8,w8,k8,p X fD,bv.mono ?_⟩⟩;rintro _ w9 ⟨rfl,fx⟩;have z9:=fx.size;have t:=dr.bG<|fD.bG fx;have h9:=u.only t;rw[show((0:Int)==0)=aE from rfl,cd];have aT:=oa.bG t;refine⟨_,I,p X fx,λf dh dy=>?_,λf=>?_⟩
 .rw[E f]at h;have io:(tk ts i).k≠5:=by
   rcases cj _ _▸f with e|e<;>exact zi e
  have hn:=m.en.next m.lt io;have G:∀op:Int,op=(if(tk ts i).t=[33]then 15 else 14)->∀l,ay [] w l->w2.heap.size<=l.heap.size->_:=λop ux l F c=>zw hd (m.only F) hn (g:=299) (z1:=[ae (aM ⟨b,0,VM⟩)]) (z2:=[]) (ia D) ⟨.func (.func 299) #[ae (aM ⟨b,0,VM⟩)] #[],I⟩ I (r:=Gm<|i+1) A;refine⟨λk n s op sl a w'=>k=4/\n=0/\s=T []/\op=(if(tk ts i).t=[33]then 15 else 14)/\sl=Sl.nil/\a=(tk ts i).a/\ay [] w w'/\w2.heap.size<=w'.heap.size,?_,?_,?_⟩
  .rintro _ _ _ _ _ _ l ⟨rfl,rfl,rfl,ux,rfl,rfl,F,c⟩;refine(G _ ux l F c).mono ?_;rintro _ r ⟨v,rfl,a⟩;obtain⟨B,C,L,H,K,z,rfl⟩:=a.tt;have cc:=a.1.size;let⟨ff,Ax,yr,g⟩:=Kb r [qS B C L H K z] N N N (parts:=#[(0,ah (qS B C L H K z).toArray)]) I;refine⟨_,_,_,_,_,_,I,sm c a.1,⟨aM ⟨r.heap.size,0,VM⟩,1,1⟩,ff,Ax,p X g,λT n=>?_⟩;have Yl:=g.size;have Ym:=n.size;have bV:ay [b] w T:=(((F.weaken (bs':=[b]) R).trans a.1 λx j=>.inl j).bG g).trans n R;have s:∀x,x∈[J,k3]->b<x:=o
   have bY:∀x,x∈[J,k3]->x<l.heap.size:=o
   refine⟨bV,?_⟩;let⟨_,a⟩:=a;rw[<-h];cases hN:kQ d (tk ts i).a (Gm<|i+1)with
   |error e=>
    rw[hN]at a;let⟨b,k,i,d⟩:=a;exact⟨b,⟨_,_,_,_,_,_,I⟩,i,(d.only g).own n s⟩
   |ok q=>
    let⟨x,ce⟩:=q;rw[hN]at a;let⟨b,a1,i,v⟩:=a;refine⟨_,I,?_,(v.only g).own n s⟩;have jc:(qS B C L H K z)=b:=A
    rw[ux];have d:RX T l.heap.size r.heap.size x b:=(i.only g N).only n λk hk=>.inl<|bY k hk;have e:aF T r.heap.size 74 b:=by
     have:=n.blk yr R;rw[fE,List.flatten_nil,bq]at this;rw[<-jc];exact this
    exact .one w.heap.size r.heap.size r.heap.size _ _ _ _ _ _ x b (d.wide X<|bc _) X (bc _) xC id e
  .rw[show(ao #[33])=T [33]from rfl,jC];intro e g i;have e:=S e;exact⟨I,I,I,by rw[E e],I,I,(aT.new dy X).new i X,by have:=i.size;have:=dy.size;omega⟩
  rw[show(ao #[33])=T [33]from rfl,jC];intro e;have e:=aQ e;exact⟨I,I,I,by rw[Q e],I,I,aT.new dy X,by have:=dy.size;omega⟩
 rw[Q (by rw[f];decide)]at h;let⟨cC,iA,L3,iE,co⟩:=ZC h9 [40];have dO:=iE.size;refine⟨cC,iA,L3,p X iE,co.mono ?_⟩;rintro _ fV ⟨rfl,iK⟩;have el:=iK.size;have q:=aT.bG<|iE.bG iK;have n:=m.only q;have s:ay [b] w fV:=q.weaken R;rw[show((0:Int)==0)=aE from rfl,cd];refine⟨_,I,p X iK,λhp hB _ _ _=>?_,λhp=>?_⟩
 .rw[E hp]at h;have e:=m.en.next m.lt<|zi hp;subst h;refine(zw hd n e (g:=323) (z1:=[]) (z2:=[ae (aM ⟨V,0,VM⟩)]) (ia D) ⟨.func (.func 323) #[] #[ae (aM ⟨V,0,VM⟩)],I⟩ I (r:=xI ts<|E0<|i+1) λb w1 P d=>atg d X (P.blk hB o) λw c=>hE b w (i+1)<|d.only c).mono ?_;rintro _ x ⟨v,rfl,a⟩;obtain⟨B,C,L,H,K,z,rfl⟩:=a.tt;have k:=a.1.size;exact⟨_,_,_,_,_,_,I,a.1.same o,_,a.1.blk hB o,λF l _=>a.GY s l o⟩
 rw[Q Tn]at h;have v:(tk ts i).k≠5->i+1<WS ts:=m.en.next m.lt;refine⟨λhi je iL _ _ _ _ _ r=>⟨λk=>k=W,I,λe=>r e.symm,λe=>r e.symm,λky iU=>?_⟩,λhi=>⟨λhv nK ql _ _ _ _ _ r=>⟨λk=>k=W,I,λe=>r e.symm,λe=>r e.symm,λnL mV=>?_⟩,λhv=>⟨λg=>?_,λg=>?_⟩⟩⟩
 .have hi:(tk ts i).k=3:=JX
  rw[E hi]at h;exact⟨I,(q.bG iL).new iU X,by rw[hi];decide,[],I,I,h.symm⟩
 .have hi:¬(tk ts i).k=3:=JX
  have hv:(tk ts i).k=1:=UU
  rw[Q hi,E hv]at h;exact⟨I,(q.bG ql).new mV X,by rw[hv];decide,_,I,I,h.symm⟩
 .have hi:¬(tk ts i).k=3:=JX
  have hv:¬(tk ts i).k=1:=UU
  rw[show Kao=T [105,110]from rfl,jC]at g;have g:(tk ts i).k=2/\(tk ts i).t=[105,110]:=by simpa using g
  rw[Q hi,Q hv,E g]at h;refine⟨(i:Int),Hl n.blk 1 I,b,1,_,_,I,n.blk,N,X,X,X,X,λpe vB gG=>?_⟩;rw[eI X X]at gG;have gT:Rd F G ts pe b l sn (i+1) 0 0 (d:Int):=n.lD vB gG (v<|by rw[g.1];decide);have g8:=vB.size;refine(FO gT [40]).mono ?_;rintro _ lS ⟨rfl,rK,eQ⟩;have g9:=rK.size;refine⟨I,sm X rK,?_⟩;have gE:ay [b] w lS:=(s.trans vB λx j=>.inl j).trans rK λx j=>.inl j;have bad:∀{fd:Nat} {c a:Int},Rd F G ts lS b l sn fd c a (d:Int)->c≠0->az aq 325 #[ae (aM ⟨b,0,VM⟩)] lS λe w'=>e=ak (ab<|T [])/\ay [b] lS w'/\Rd F G ts w' b l sn fd c a (d:Int):=fun{fd c a} Yn f=>by
   refine(SP Yn).mono ?_;rintro e qj ⟨k,a⟩;rw[Q (λa=>f a.1),Q f,Q f]at a;exact R
  have gO:∀{qj vw:av} {fd:Nat} {c a:Int},ay [b] lS qj->ay [k3] qj vw->Rd F G ts qj b l sn fd c a (d:Int)->c≠0->Z=.error (c,a)->∀s6:M,az aq 324 #[ae (aM<|Addr.add ⟨b,0,VM⟩ 0),ab<|ao #[41]] vw λme xn=>me=(ak<|ai #[])/\bX [V,J,W,k3] vw xn/\∀B3:av,ay [J] xn B3->uO F G ts w B3 b l sn d Z (ah #[O U 3,O U 0,ab s6,O U 0,Sl.nil.v,O U (tk ts i).a]):=fun{qj vw fd c a} k rL h26 f bJ s6=>by
   have c:=k.size;have d:=rL.size;refine(FO (h26.own rL o) [41]).mono ?_;rintro _ xn ⟨rfl,b,a⟩;rw[Q (by simp[f]),Q f,Q f]at a;refine⟨I,sm X b,λB3 t=>?_⟩;rw[bJ];refine⟨((((gE.trans k λx j=>.inl j).new rL X).trans b λx j=>.inl j).new t X),f,⟨3,0,s6.data.toList,0,Sl.nil,_,by unfold qS;rw[<-UK]⟩,fd,a.own t o⟩
  by_cases h1:sg ts (i+1) [40]=aE
  .rw[E (by simp[h1])]at eQ;rw[Hb,E h1]at h;refine(SP eQ).mono ?_;rintro _ qj ⟨k,a⟩;have c:=k.size;by_cases u:(tk ts<|i+2).k=1
   .rw[E ⟨I,u⟩]at a;obtain⟨rfl,l⟩:=a;rw[E u]at h;refine⟨_,I,sm X k,λvw rL=>have ip:=rL.size;(FO (l.own rL o) [41]).mono ?_⟩;rintro _ xn ⟨rfl,T,d⟩;refine⟨I,sm X T,λB3 t=>have G:ay [b] w B3:=(((gE.trans k λx j=>.inl j).new rL X).trans T λx j=>.inl j).new t X;⟨G,?_⟩⟩;by_cases e:sg ts (i+3) [41]=aE
    .rw[E (by simp[e])]at d;rw[E e]at h;rw[<-h];exact⟨_,I,.leaf ..,d.own t o⟩
    rw[Q (by simp[e]),E I,E I]at d;rw[Q e]at h;rw[<-h];exact⟨gR,⟨_,_,_,_,_,_,I⟩,_,d.own t o⟩
   rw[Q (λa=>u a.2),E I,E I]at a;obtain⟨rfl,b⟩:=a;rw[Q u]at h;exact⟨_,I,sm X k,λvw rL=>gO k rL b gR h.symm _⟩
  rw[Q (by simp[h1]),E I,E I]at eQ;rw[Hb,Q h1]at h;refine(bad eQ gR).mono ?_;rintro _ qj ⟨rfl,k,a⟩;exact⟨_,I,sm X k,λvw rL=>gO k rL a gR h.symm _⟩
 have hi:¬(tk ts i).k=3:=JX
 have hv:¬(tk ts i).k=1:=UU
 rw[show Kao=T [105,110]from rfl,jC]at g;rw[Q hi,Q hv,Q<|λc=>by rw[c.1,c.2]at g;simp at g]at h;refine(Ka n).mono ?_;rintro _ d ⟨rfl,a,G⟩;rw[E I,E I]at G;refine⟨I,sm X a,λe b=>⟨(s.trans a λx j=>.inl j).new b X,?_⟩⟩;rw[<-h];exact⟨gR,⟨0,0,[],0,Sl.nil,_,I⟩,i,G.own b o⟩
end
section
variable{F G:h}{ts:J Tk}{w w':av}{b:Nat}{l sn:Sl}{i:Nat}{fc fa d:Int}
def kV{E}{k}{g}{x}{j}(h:mc ts k j=0):jW ts E k g x j=.ok (x,j):=by
 cases g with
 |zero=>rfl
 |succ g=>rw[jW,aW h]
def bg(F G:h)(t:J Tk)(e:av)(b:Nat)(l sn:Sl)(d:Nat)(N:h)(E:Nat->Pr)(k:Int)(R:Pr)(n:Nat)(op:Int)(s:aI)(w:av):Prop:=ay [b] e w/\
 ((∃(c a:Int) (j:Nat),op=0/\c≠0/\R=.error (c,a)/\Rd F G t w b l sn j c a d)∨
  (∃(x:Ex) (j:Nat),op=mc t k j/\RXN w N e.heap.size w.heap.size x s/\Rd F G t w b l sn j 0 0 d/\R=jW t E k n x j/\(WS t)-j<=n))
theorem acS{f k d:Nat}(aT:k<6)(h:Rd F G ts w b l sn i 0 0 (d:Int))
  (hE:∀w i,Rd F G ts w b l sn i 0 0 (d:Int)->az aq 278 #[ae (aM ⟨b,0,VM⟩),O U ((k+1:Nat):Int)] w λe w'=>∃v,e=ak v/\uO F G ts w w' b l sn d (dF ts f (k+1) d i) v):
  az aq 278 #[ae (aM ⟨b,0,VM⟩),O U (k:Int)] w λe w'=>∃v,e=ak v/\uO F G ts w w' b l sn d (dF ts (f+1) k d i) v:=by
 have gz:dF ts (f+1) k d i=Hw (dF ts f (k+1) d i) λx j=>jW ts (dF ts f (k+1) d) (k:Int) ((WS ts)-j) x j:=by rw[dF,Q X]
 rw[gz];have S:∀i x j,dF ts f (k+1) d i=.ok (x,j)->i<j:=λi x j h=>mr f _ _ i h;generalize aS:dF ts f (k+1) d=z at*
 generalize M:(Hw (z i) λx j=>jW ts z (k:Int) _ x j)=P;refine Yj w ?_;have qj:ar U ((k:Int)+1)=((k+1:Nat):Int):=N0
 refine⟨R,λ_ K w3 kZ jl L=>?_⟩;have hb:=h.lb;rw[qj];refine(hE w3 i<|h.only L).mono ?_;rintro _ w4 ⟨v,rfl,J⟩;obtain⟨vk,vn,vs,vo,vl,va,rfl⟩:=J.tt;have z3:=L.size;have z4:=J.1.size;refine⟨_,_,_,_,_,_,I,J.1.same o,λu w5 yq uu V=>?_⟩;have Di:=((L.weaken (bs':=[b]) R).trans J.1 R).bG V;have sm:∀{aC u':av},w5.heap.size<=aC.heap.size->ay [b] aC u'->bX [K,u] aC u':=λhu hO=>hO.same (by intro x Y;simp at Y⊢;omega);have bJ:=h.big;have Z:∃(j:Nat) (c a:Int),Rd F G ts w4 b l sn j c a (d:Int)/\∀D,ay [] w4 D->∃t,bg F G ts w b l sn d (λq=>q=K∨q=u) z (k:Int) P t (if c=0 then mc ts (k:Int) j else 0) (qS vk vn vs vo vl va) D:=by
  let⟨g,d⟩:=J;have y:=(L.weaken (bs':=[b]) λ_ h=>VI).trans g λx Y=>.inl Y;cases f:z i with
  |error e=>
   rw[f]at d M;let⟨c,a⟩:=e;let⟨b,i,j,h⟩:=d;exact⟨j,c,a,h,λD s=>⟨0,y.bG s,.inl ⟨c,a,j,Q b,b,M.symm,h.only s⟩⟩⟩
  |ok q=>
   let⟨x,j⟩:=q;rw[f]at d M;let⟨c,h,b,a⟩:=d;have e:(qS vk vn vs vo vl va)=c:=A
   rw[e];exact⟨j,0,0,a,λD s=>⟨(WS ts)-j,y.bG s,.inr ⟨x,j,E I,((b.only s N).I2 λq i k _=>X).wide z3 s.size,a.only s,M.symm,bc _⟩⟩⟩
 let⟨me,c0,a0,W,Z⟩:=Z;refine(G1 (W.only V) (k:Int)).mono ?_;rintro _ D ⟨rfl,s⟩;let⟨am,T⟩:=Z D<|V.bG s;refine⟨_,I,s.same o,λt op n p C r B m w'=>w5.heap.size<=w'.heap.size/\bg F G ts w b l sn d _ z (k:Int) P t op [O U n,O U p,ab C,O U r,B.v,O U m] w',am,⟨s.size,T⟩,?_⟩;rintro t op n p C r B m w7 ⟨z7,fu,hA⟩;refine⟨λux=>?_,λux fS H=>?_⟩
 .have ux:op≠0:=UG
  rcases hA with⟨_,_,_,e,_⟩|⟨x,j,rfl,i,h,f,bv⟩
  .exact X
  have hn:=h.en.next h.lt<|rP _ _ ux;obtain⟨g,rfl⟩:∃g,t=g+1:=⟨t-1,X⟩
  rw[jW,Q ux]at f;refine⟨(j:Int),Hl h.blk 1 I,b,1,_,_,I,h.blk,N,X,X,λw8 fD xp=>?_⟩;rw[eI X X]at xp;have z8:=fD.size;refine(hE w8 (j+1)<|h.lD fD xp hn).mono ?_;rintro _ w9 ⟨v,rfl,bV⟩;obtain⟨vw,dC,ys,fH,yl,nj,rfl⟩:=bV.tt;have z9:=bV.1.size;refine⟨_,_,_,_,_,_,I,sm X bV.1,λk8 dh dO cC dy=>have Ja:=dy.size;let⟨dE,rq,HL,dJ⟩:=Kb dh [[O U n,O U p,ab C,O U r,B.v,O U m],qS vw dC ys fH yl nj] N N N (parts:=#[_,_]) I;have Hi:=dJ.size;⟨⟨aM _,2,2⟩,dE,rq,dJ.same o,λey eG=>?_⟩⟩;have el:=eG.size;have Pa:ay [b] w ey:=((((fu.trans fD R).trans bV.1 R).bG dy).bG dJ).new eG X;have yt:ay [u] w9 ey:=((dy.bG dJ).weaken (bs':=[u]) R).trans eG R;have RO:∃(j':Nat) (c a:Int),Rd F G ts w9 b l sn j' c a (d:Int)/\∀ff,ay [] ey ff->∃t,t<g+1/\bg F G ts w b l sn d (λq=>q=K∨q=u) z (k:Int) P t (if c=0 then mc ts (k:Int) j' else 0) (qS 5 0 [] (mc ts (k:Int) j) ⟨aM ⟨dh.heap.size,0,VM⟩,2,2⟩ m) ff:=by
   let⟨v,d⟩:=bV;cases l:z (j+1)with
   |error e=>
    rw[l]at d f;let⟨c,a⟩:=e;let⟨b,k,j',g⟩:=d;exact⟨j',c,a,g,λff dL=>⟨0,X,Pa.bG dL,.inl ⟨c,a,j',Q b,b,f,(g.own yt o).only dL⟩⟩⟩
   |ok q=>
    let⟨y,j'⟩:=q;rw[l]at d f;let⟨c,G,a2,F⟩:=d;have jc:_=c:=bn Array.toList<|Value.agg.inj G;have eQ:=S _ _ _ l;let⟨xl,e,_⟩:=i.cells;have a:=by
     simp only[qS,MS,Value.int.injEq]at e;exact e.2.2.2.2.2.1.2
    refine⟨j',0,0,F,λff dL=>⟨g,X,Pa.bG dL,.inr ⟨.mk 5 0 [] (mc ts (k:Int) j) [x,y] x.a,j',I,?_,(F.own yt o).only dL,f,?_⟩⟩⟩
    .have gE:=(((((fD.weaken (bs':=[b,u]) A).trans v A).trans yt A).bG dL))
     have yr:aF ff dh.heap.size 74 ([O U n,O U p,ab C,O U r,B.v,O U m]++c):=by
      have:=dL.blk (eG.blk HL o) N;rw[<-jc];simpa using this
     have k:RXN ff (λq=>q=K∨q=u) w.heap.size w7.heap.size x [O U n,O U p,ab C,O U r,B.v,O U m]:=by
      exact i.only gE A
     have fd:RXN ff (λq=>q=K∨q=u) w8.heap.size w9.heap.size y c:=(a2.only (yt.bG dL) R).I2 X;rw[a];exact .two w.heap.size w7.heap.size w8.heap.size w9.heap.size dh.heap.size _ _ _ _ _ _ x y _ c k z8 fd X X X X xC X yr
    omega
  let⟨j',c',a',ce,RO⟩:=RO;refine(G1 (ce.own yt o) (k:Int)).mono ?_;rintro _ ff ⟨rfl,dL⟩;let⟨co,bY,cc⟩:=RO ff dL;exact⟨_,I,dL.same o,co,bY,by have:=dL.size;omega,cc⟩
 have ux:op=0:=UG
 refine⟨fu.new H X,?_⟩;rcases hA with⟨c,a,j,_,d,G,F⟩|⟨x,j,h,b,F,G,v⟩
 .rw[G];exact⟨d,⟨n,p,C.data.toList,r,B,m,I⟩,j,F.own H o⟩
 rw[G,kV<|by rw[<-h,ux]];exact⟨_,I,((b.only H A).I2 R).wide X H.size,F.own H o⟩
theorem M8:∀f,(∀k d i w,k<=6->d<=20->iw k d<=f->Rd F G ts w b l sn i 0 0 d->az aq 278 #[ae (aM ⟨b,0,VM⟩),O U k] w λe w'=>∃v,e=ak v/\uO F G ts w w' b l sn d (dF ts f k d i) v)/\
  (∀d i w,d<=20->iw 6 d<=f->Rd F G ts w b l sn i 0 0 d->
   az aq 299 #[ae (aM ⟨b,0,VM⟩)] w λe w'=>∃v,e=ak v/\uO F G ts w w' b l sn d (dF ts f 6 d i) v)
 |0=>⟨λk d i w hk hd hn=>Uh,λd i w hd hn=>Uh⟩
 |f+1=>by
  let⟨L,P⟩:=M8 f;let one:∀(d i) w,d<=20->iw 6 d<=f+1->Rd F G ts w b l sn i 0 0 d->
   az aq 299 #[ae _] w λe w'=>∃v,e=ak v/\uO F G ts w w' b l sn d _ v:=λd i w hd hn h=>by
   unfold iw at hn;exact ak0 hd h (λE w i h=>L 0 _ i w X X Q4 h)<|λE w i h=>P _ i w X Q4 h
  refine⟨λk d i w hk hd hn h=>?_,one⟩;by_cases a:k=6
  .subst a;refine Yj w ⟨λ_ k e f C b=>?_,R⟩;refine(one d i e hd hn<|h.only b).mono ?_;rintro _ q ⟨v,rfl,D⟩;obtain⟨l,n,s,p,m,j,rfl⟩:=D.tt;have:=h.lb;exact⟨_,_,_,_,_,_,I,D.1.same o,λr c=>D.GY (b.weaken λ_ h=>VI) c o⟩
  unfold iw at hn;exact acS X h λw i h=>L _ d i w X hd Q4 h
end
def shB w:∃s a,(au 75 16 #[.mk 1 (ab<|ao #[43]),.mk 2<|ab<|ao #[45],.mk 3<|ab<|ao #[42],.mk 4<|ab<|ao #[47],.mk 5<|ab<|ao #[37],.mk 6<|ab<|ao #[60],.mk 7<|ab Ka8,.mk 8<|ab<|ao #[62],.mk 9<|ab Ka9,.mk 10<|ab Kba,.mk 11<|ab Kbb,.mk 12<|ab Kbc,.mk 13<|ab Kbd,.mk 14<|ab<|ao #[45],.mk 15<|ab<|ao #[33]]).run aq w=.ok (Sl.v s) a/\
  aA oK 1 a (λk=>w.heap.size<=k/\k<a.heap.size) s zj/\ay [] w a:=by
 let b:=run_buildSlice (P:=aq) w 75 9 16 #[.mk 1 (ab<|ao #[43]),.mk 2<|ab<|ao #[45],.mk 3<|ab<|ao #[42],.mk 4<|ab<|ao #[47],.mk 5<|ab<|ao #[37],.mk 6<|ab<|ao #[60],.mk 7<|ab Ka8,.mk 8<|ab<|ao #[62],.mk 9<|ab Ka9,.mk 10<|ab Kba,.mk 11<|ab Kbb,.mk 12<|ab Kbc,.mk 13<|ab Kbd,.mk 14<|ab<|ao #[45],.mk 15<|ab<|ao #[33]]
  (zj.map λx=>Value.string<|T x).toArray t9 _ D D I Z Z D
 refine⟨⟨aM _,16,16⟩,_,b,⟨I,bc _,R,(by decide:16<=9223372036854775807),λj x c=>?_⟩,Rk _ _⟩;let h:=Jp w 9<|zj.map λx=>Value.string<|T x;refine⟨_,[ab (T x)],I,⟨bc _,h.lt⟩,I,?_,I⟩;rw[lU];exact Hl h j A
def L6 w:az aq 277 #[] w λe a=>∃s,e=ak s.v/\aA oK 1 a (λk=>w.heap.size<=k/\k<a.heap.size) s zj/\ay [] w a:=by
 refine(aA3 (λv a=>∃s,v=s.v/\aA oK 1 a (λk=>w.heap.size<=k/\k<a.heap.size) s zj/\ay [] w a) w ?_).mono (by
  simp_all)
 let⟨s,a,h,b,c⟩:=shB w;exact⟨s,a,h,s,I,b,c⟩
def po(s:J Tk):Nat:=WS<|s.takeWhile λt=>t.k !=5
def afJ ts:po ts<=WS ts:=by
 exact(List.takeWhile_sublist _).length_le
def air{t}{ts}{i}:tk (t::ts) (i+1)=tk ts i:=Mi
def nAb{t}{ts}:tk (t::ts) 0=t:=rfl
def A9:∀s i,i<po s->(tk s i).k≠5
 |[],_,h=>by simp[po]at h
 |t::s,i,h=>by
  unfold po at h;rw[fM]at h;split at h
  .rename_i t;cases i with
   |zero=>rw[nAb];simpa using t
   |succ i=>rw[air];exact A9 s i (by simpa[po]using h)
  simp at h
def Ba:∀s,po s<(WS s)->(tk s<|po s).k=5
 |[],h=>Mi
 |t::s,h=>by
  unfold po at h⊢;rw[fM]at h⊢;split
  .rename_i t;rw[E t]at h;exact Ba s (by simpa[po]using h)
  rename_i t;rw[ck,nAb];simpa using t
def M9{ts}(h:po ts+1=WS ts):vY ts:=λi a=>by
 constructor
 .intro hk;refine bK λn=>A9 ts i X hk
 intro n;have:i=po ts:=X
 rw[this];exact Ba ts X
def gdP{ts}(a:vY ts)(b:0<WS ts):po ts+1=WS ts:=by
 rcases tG _ (WS ts) with h|h
 .exact(a _ h).1 (Ba ts h)
 have:=A9 ts ((WS ts)-1) X;exact absurd ((a _ X).2 X) this
def afK w (t:Tk):az aq 276 #[t.v] w λe a=>e=ak (aj<|t.k==5)/\ay [] w a:=ret<|v3w t.k t.n t.a w λk b _ _ h=>⟨I,h⟩
def acz{w}{F}{l}{ts}(h:aA V2 4 w F l ts):az aq 275 #[l.v,.func (.func 276) #[] #[]] w λe a=>e=ak (O U<|if po ts<WS ts then po ts else -1)/\ay [] w a:=by
 refine ret<|asL l ⟨.func _ #[] #[],I⟩ w<|have:=h.len;have:=h.big;have:=h.cap;⟨λv i a=>∃n,n<=po ts/\i=n/\v=(WS ts)-n/\ay [] w a,WS ts,⟨0,bE _,I,I,qE _ _⟩,?_⟩;rintro v _ d ⟨n,g,rfl,rfl,b⟩;refine⟨λc=>?_,λc=>?_⟩
 .have J:=S c;let⟨ad,x,s,j,e,m,o,k,l⟩:=(ZH ju Z h b N).get X J;rw[aV,FM X]at e;injection e with e;subst e;subst l;refine⟨ad,j,_,_,_,_,k,276,[],[],I,ia D,(afK d _).mono ?_⟩;rintro _ w ⟨rfl,U⟩;refine⟨_,I,λhb=>⟨?_,b.bG U⟩,λhb=>⟨(WS ts)-_,X,n+1,?_,N0,I,b.bG U⟩⟩
  .have hb:=Rg
   have:n=po ts:=by
    refine bK λp=>A9 ts n X hb
   grind
  let hb:=Rg
  refine bK λp=>hb ?_;have:n=po ts:=X
  rw[this];exact Ba ts X
 grind
def Ad:Ex:=.mk 0 0 [] 0 [] 0
def cG(t:J Tk)(a:Int):Ex×Int×Int×Int:=
 if 0<=a/\a<WS t/\po t+1=WS t then(match ug t a.toNat with
  |.error (c,p)=>(Ad,0,c,p)
  |.ok (x,j)=>(x,j,0,0))
 else(Ad,0,1, -1)
def YX w lo hi:RX w lo hi Ad [O U 0,O U 0,ab<|ao #[],O U 0,Sl.nil.v,O U 0]:=.leaf ..
def vI{w:av}{F:aJ}{l}{t:J Tk}(h:aA V2 4 w F l t)(a:Int)(z:ri a):az aq 255 #[l.v,O U a] w λe g=>
  ∃s,e=ak (ai #[ah s.toArray,O U (cG t a).2.1,ah #[O U (cG t a).2.2.1,O U (cG t a).2.2.2]])/\RX g w.heap.size g.heap.size (cG t a).1 s/\((cG t a).2.2.1=0->0<=(cG t a).2.1/\(cG t a).2.1<WS t)/\ay [] w g:=by
 refine jK<|v4w ?_;intro u y M H C D B T;let r:=h.len;have:=h.cap;have:=h.big;have:=T.size;let h:=(h.inHeap ju Z)
 refine(acz<|ZH ju Z h T N).mono ?_;rintro _ i ⟨rfl,f⟩;have:=f.size;let j:=T.bG f;have:=afJ t;let n:(((JW<|a<0)||(JW<|a>=(l.n:Int)))||((if po t<WS t then(po t:Int)else -1) !=(ar U<|(l.n:Int)-1)))=!JW (0<=a/\a<WS t/\po t+1=WS t):=by
  rw[eI X X,r];by_cases h:po t<WS t
  .rw[E h,bM];simp;omega
  rw[Q h,bM];simp;omega
 refine⟨_,I,f.same o,?_⟩;dsimp only;rw[n];refine⟨λd P m=>?_,λd=>?_⟩
 .have d:=by
   rw[dS,dk]at d;exact d
  rw[cG,Q d];exact⟨_,I,YX ..,λh=>VI,(j.weaken (bs':=[]) λ_ h=>VI).trans m λx hx=>.inr OS⟩
 have d:=by
  rw[jo,bB]at d;exact d
 rw[cG,E d];obtain⟨Y,rfl⟩:∃Y:Nat,a=(Y:Int):=⟨a.toNat,X⟩
 refine(L6 i).mono ?_;rintro _ w3 ⟨sn,rfl,Ve,cN⟩;have:=cN.size;refine⟨sn,I,cN.same o,λb w4 hb qN dB uw=>?_⟩;let tw:=j.bG cN;let hR:Rd (λk=>F k/\k<w.heap.size) _ t w4 b l sn Y 0 0 ((0:Nat)):=
  ⟨uw,ZH ju Z h (tw.bG dB) N,ZH dI Z Ve dB N,X,X,M9 d.2.2,X⟩
 refine((M8<|iw 0 0).1 0 0 Y w4 Z Z X hR).mono ?_;rintro _ w5 ⟨v,rfl,W⟩;obtain⟨vk,vn,vs,vo,vl,va,rfl⟩:=W.tt;have:=W.1.size;let⟨dV,W⟩:=W;rw[aV];let aS:ug t Y=dF t (iw 0 0) 0 0 Y:=I;rw[aS];let am:∀{aC:Nat} {c p:Int},Rd (λk=>F k/\k<w.heap.size) (λk=>i.heap.size<=k/\k<w3.heap.size) t w5 b l sn aC c p (0:Int)->∀w8,ay [] w5 w8->∀w9,ay [y,u] w8 w9->ay [] w w9:=λhR w8 fD w9 fx=>(((tw.bG dB).trans dV λx hx=>.inr<|by simp[bh]at hx;omega).bG fD).trans fx A;refine⟨_,_,_,_,_,_,I,dV.same o,?_⟩;cases hE:dF t (iw 0 0) 0 0 Y with
 |error e=>
  rw[hE]at W;let⟨c,p⟩:=e;let⟨v,a2,aC,a⟩:=W;refine⟨_,_,_,_,_,_,a.blk,λk3 w6 AH wz l Vx=>let z6:=l.size;(Ia<|a.only l).mono ?_⟩;rintro _ w7 ⟨rfl,q⟩;let x:=(a.only l).only q;let io:(c !=0)=aE:=by simpa using v
  refine⟨_,I,q.same o,_,_,_,_,_,_,x.blk,λ_ w8 fD xp n1 n2 n3 n4 n5 n6=>⟨λk=>k=b,I,λe=>n2 e,λe=>n4 e,λw9 fx _=>⟨_,I,YX ..,λh=>absurd h v,am a w8 (l.bG<|q.bG fD) w9 fx⟩⟩,λd=>by rw[io]at d;cases d⟩
 |ok q=>
  rw[hE]at W;let⟨x,aC⟩:=q;let⟨s,a1,p,a⟩:=W;refine⟨_,_,_,_,_,_,a.blk,λk3 w6 AH wz c Vx=>have:=c.size;(Ia<|a.only c).mono ?_⟩;rintro _ w7 ⟨rfl,e⟩;have:=e.size;refine⟨_,I,e.same o,_,_,_,_,_,_,((a.only c).only e).blk,R,λ_ dh l pz n1 n2 n3 n4 n5 n6=>⟨λk=>k=b,I,P9,P9,λv h _=>?_⟩⟩;have:=l.size;have:=h.size;let jc:(qS vk vn vs vo vl va)=s:=A
  refine⟨qS vk vn vs vo vl va,I,?_,λ_=>⟨bf aC,by have:=a.lt;dsimp only;omega⟩,am a dh (c.bG<|e.bG l) v h⟩;rw[jc];exact((p.only (c.bG<|e.bG l) N).only h R).wide X X
def iG(l:L):Ex×Int×Int:=
 if(cR l).2.1≠0 then(Ad,(cR l).2.1,(cR l).2.2)
 else if(cG (cR l).1 0).2.2.1≠0 then(Ad,(cG (cR l).1 0).2.2.1,(cG (cR l).1 0).2.2.2)
 else if(tk (cR l).1 (cG (cR l).1 0).2.1.toNat).k≠5 then(Ad,4,(tk (cR l).1 (cG (cR l).1 0).2.1.toNat).a)
 else((cG (cR l).1 0).1,0,(cG (cR l).1 0).2.2.2)
def ak1{w} l (y:Er w):az aq 287 #[ab (T l)] w λe a=>
  ∃b,e=ak (ai #[ah b.toArray,ah #[O U (iG l).2.1,O U (iG l).2.2]])/\RX a w.heap.size a.heap.size (iG l).1 b/\ay [] w a:=by
 refine(v5w (λv a=>∃b,v=(ai #[ah b.toArray,ah #[O U (iG l).2.1,O U (iG l).2.2]])/\RX a w.heap.size a.heap.size (iG l).1 b/\ay [] w a) w ?_).mono (by
  simp_all)
 intro g i S K J M L f;refine(M5 l<|y.only f).mono ?_;rintro _ V ⟨C,rfl,h,d⟩;have z1:=d.size;have j:=f.bG d;generalize D:cR l=G at*
 let⟨s,c,p⟩:=G;dsimp only at h⊢;have Y:iG l=if c≠0 then(Ad,c,p)else if(cG s 0).2.2.1≠0 then(Ad,(cG s 0).2.2.1,(cG s 0).2.2.2)else if(tk s (cG s 0).2.1.toNat).k≠5 then(Ad,4,(tk s (cG s 0).2.1.toNat).a)else((cG s 0).1,0,(cG s 0).2.2.2):=by
  unfold iG;rw[D]
 refine⟨C,_,_,I,d.same o,λhc z W yq P F m r u=>⟨λk=>k=z,I,P9,P9,λw3 N=>?_⟩,λhc k3 w4 H wz B=>?_⟩
 .have hc:=WH
  rw[Y,E hc];exact⟨_,I,YX ..,((j.bG F).trans N λx hx=>.inr OS)⟩
 rw[Q (by simp[by simpa using hc])]at Y;refine(vI (h.only B).sl 0 ⟨Z,Z⟩).mono ?_;rintro _ w5 ⟨b,rfl,hX,hj,T⟩;generalize ff:cG s 0=pa at*
 obtain⟨x,O,e,p'⟩:=pa;dsimp only at hX hj Y⊢;obtain⟨xl,rfl,_⟩:=hX.cells;refine⟨_,_,_,_,_,_,_,_,_,I,T.same o,λk4 w6 rr yu U=>?_⟩;have h6:=((h.only<|B.bG T).keep (w':=w6) λk hk bJ=>U.block k bJ (by
  have:=h.blk hk.2
  grind))
 have am:=h6.len;have v:∀{w8 w9:av},ay [k3] w6 w8->ay [i,g] w8 w9->ay [] w w9:=λh8 h9=>((((j.bG B).bG T).new U X).new h8 X).trans h9 A;refine⟨λp c w7=>ay [k3] w6 w7/\((e≠0/\p=e/\c=p')∨(e=0/\(tk s O.toNat).k≠5/\p=4/\c=(tk s O.toNat).a)∨(e=0/\(tk s O.toNat).k=5/\p=0/\c=p')),?_,?_⟩
 .rintro p c w7 ⟨n,aC⟩;refine⟨λhi w8 fD m r u n4 n5 n6=>⟨λk=>k=k3,I,?_,?_,λw9 fx=>?_⟩,λhi dh w m r u n4 n5 n6=>⟨λk=>k=k3,I,?_,?_,λdE t=>?_⟩⟩
  .assumption
  .assumption
  .have hi:=JX
   have k:iG l=(Ad,p,c):=by
    grind
   rw[k];exact⟨_,I,YX ..,v (n.bG fD) fx⟩
  .assumption
  .assumption
  have hi:=JX
  have hr:iG l=(x,p,c):=by
   grind
  rw[hr];have k:=(((U.trans n R).bG w).weaken (bs':=[k3,i,g]) A).trans t A;exact⟨_,I,(hX.only k λq hq=>.inl MO).wide X k.size,v (n.bG w) t⟩
 by_cases k:e=0
 .obtain⟨q,gz⟩:=hj k;obtain⟨n,rfl⟩:∃n:Nat,O=n:=R
  let⟨ad,t,b,w,l,g3,g4,x,g6⟩:=h6.sl.get q X;rw[aV,FM X]at l;injection l with l;subst l;subst g6;refine⟨ad,λ_=>w,(tk s n).k,λ_=>x.dv 0 _ I,λhh=>⟨ad,w,(tk s n).a,x.dv 3 _ I,λey eG=>⟨eG,.inr<|.inl ⟨k,?_,I,I⟩⟩⟩,λhh=>⟨qE _ _,.inr<|.inr ⟨k,?_,k,I⟩⟩⟩
  .grind
  grind
 have l:(e==0)=aL:=by simpa using k
 refine⟨⟨0,0,VM⟩,A,0,A,A,λ_=>⟨qE _ _,X⟩⟩
def yJ:Nat->Rp Ex
 |0=>λ_ _ _ _=>False
 |d+1=>λw F x c=>∃sl,c=qS x.k x.n x.s x.op sl x.a/\aA (yJ d) 6 w F sl x.dP
def j9:∀d,(yJ d).Ok
 |0=>⟨λh _=>h.elim,λh=>h.elim,λh _=>h.elim,λh=>h.elim⟩
 |d+1=>⟨λ⟨sl,h,a⟩ hk=>⟨sl,h,WJ (j9 d) a Z hk⟩,λ⟨sl,h,a⟩=>⟨sl,h,PY (j9 d) a Z⟩,λ⟨sl,h,a⟩ hk=>⟨sl,h,YE (j9 d) a hk⟩,λ⟨sl,h,a⟩=>by
  subst h;intro v b;simp at b;rcases b with rfl|rfl|rfl|rfl|rfl|rfl<;>rfl⟩
def Na{α}{r q:Rp α}{size}{w}{F}{s}{xs}(h:aA r size w F s xs)(i:∀x c,x∈xs->r w F x c->q w F x c):aA q size w F s xs:=
 ⟨h.len,h.cap,h.nil0,h.big,λj x a=>by
  let⟨b,c,d,e,f,g,k⟩:=h.at_ j x a;exact⟨b,c,d,e,f,g,i x c (be a) k⟩⟩
section
variable{w w':av}{F:h}{x y:Ex}{cs ds:aI}
def ZT:∀{d:Nat} {x:Ex} {cs:aI},yJ d w F x cs->yJ (d+1) w F x cs
 |0,_,_,h=>h.elim
 |d+1,x,cs,⟨sl,a,b⟩=>⟨sl,a,Na b λx cs _ h=>ZT h⟩
def ZU{d e}(a:d<=e)(h:yJ d w F x cs):yJ e w F x cs:=by
 induction e with
 |zero=>have:d=0:=X;subst this;exact h
 |succ e i=>
  by_cases b:d=e+1
  .subst b;exact h
  exact ZT<|i X
def ix{d}(h:yJ d w F x cs)(O:ay [] w w'):yJ d w' F x cs:=(j9 d).only h O N
def RXN.ex{N}{l i}(h:RXN w N l i x cs):∃d,yJ d w (λk=>l<=k/\k<i) x cs:=by
 induction h with
 |leaf l i k n s op a=>exact⟨1,Sl.nil,I,WB ..⟩
 |one l w g i k n s op a x cs f m t o u p c=>
  let⟨d,c⟩:=c;let⟨sl,r,_⟩:=f.cells;refine⟨d+1,_,I,I,bc _,λh=>VI,(by decide:1<=9223372036854775807),λe y j=>?_⟩;have b:e=0:=by
   have:=(aZ.1 j).1;simp[Ex.dP,bI]at this;omega
  subst b;simp[Ex.dP,cX,bN]at j;subst j;exact⟨_,cs,I,⟨m,o⟩,by rw[r];rfl,by rw[yw];exact p.cells 0 cs λe v q=>by rw[bS];exact q,(j9 d).mono c λk hk=>⟨hk.1,X⟩⟩
 |two l E F G g i k n s op a x y cs ds q w r z A B C c D f L P=>
  let⟨m,L⟩:=L;let⟨o,P⟩:=P;let⟨sl,t,_⟩:=q.cells;let⟨u,d,_⟩:=r.cells;let e:WS cs=6:=by rw[t];rfl
  let p:WS ds=6:=by rw[d];rfl
  refine⟨max m o+1,_,I,I,bc _,λh=>VI,(by decide:2<=9223372036854775807),λb y j=>?_⟩;rcases b with _|_|b
  .simp[Ex.dP,cX,bN]at j;subst j;exact⟨_,cs,I,⟨P0,c⟩,e,by rw[yw];exact f.cells 0 cs λb v h=>by rw[bS,de (aZ.1 h).1];exact h,(j9 _).mono (ZU X L) λk hk=>⟨hk.1,X⟩⟩
  .simp[Ex.dP,fP,cX,bN]at j;subst j;exact⟨_,ds,I,⟨P0,c⟩,p,by
    exact f.cells 6 ds λb v h=>by rw[dR X,e,gH];exact h,(j9 _).mono (ZU X P) λk hk=>⟨X,X⟩⟩
  simp[Ex.dP]at j
end
def Ke(f:Ex->Ex->C):J Ex->J Ex->C
 |x::s,y::a=>f x y&&Ke f s a
 |_,_=>aE
def Nc(t:C)(x y:Ex):C:=(((((x.k !=y.k)||(x.n !=y.n))||(!JW (x.s=y.s)))||(x.op !=y.op))||(t&&(x.a !=y.a)))||(WS x.dP !=(WS y.dP:Int))
def xJ(t:C):Nat->Ex->Ex->C
 |0,_,_=>aE
 |d+1,x,y=>if Nc t x y then aL else Ke (xJ t d) x.dP y.dP
def ajF{f}{s a:J Ex}{n}{x y}(b:s[n]? =aM x)(c:a[n]? =aM y):Ke f (s.drop n) (a.drop n)=(f x y&&Ke f (s.drop<|n+1) (a.drop<|n+1)):=by
 let e:∀{l:J Ex} {z:Ex},l[n]? =aM z->l.drop n=z::l.drop (n+1):=λh=>by
  rw[eV (aZ.1 h).1,(aZ.1 h).2]
 rw[e b,e c,Ke]
def jC l m:((T l).toList==(T m).toList)=JW (l=m):=Pc l m
def spl t:∀d {e:Nat} {w:av} {F G:h} {x y:Ex} {c g:aI},yJ d w F x c->yJ e w G y g->
  az aq 291 #[ah c.toArray,ah g.toArray,aj t] w λr b=>r=ak (aj<|xJ t d x y)/\ay [] w b
 |0,_,_,_,_,_,_,_,_,a,_=>a.elim
 |d+1,0,_,_,_,_,_,_,_,_,a=>a.elim
 |d+1,e+1,w,F,G,x,y,c,g,⟨sl,A,l⟩,⟨sl',B,q⟩=>by
  subst A B;refine ret<|asQ ?_;intro k0 k1 K R P kZ Y m;let D:=l.len;let H:=q.len;have:=l.cap;let z:=l.big;let o:((((((x.k !=y.k)||(x.n !=y.n))||(!((T x.s).toList==(T y.s).toList)))||(x.op !=y.op))||(t&&(x.a !=y.a)))||(sl.n !=(sl'.n:Int)))=Nc t x y:=by
   rw[jC,D,H];rfl
  rw[o];refine⟨λi=>⟨by rw[xJ,E i],m⟩,λi=>?_⟩;have:=by
   rw[Nc,eH]at i;have:=i.2;simp at this;omega
  rw[xJ,Q<|by rw[i];decide];refine⟨λv r b=>∃n,n<=WS x.dP/\r=n/\v=(WS x.dP)-n/\Ke _ x.dP y.dP=Ke (xJ t d) (x.dP.drop n) (y.dP.drop n)/\ay [] w b/\K.heap.size<=b.heap.size,WS x.dP,⟨0,X,I,I,I,m,X⟩,?_⟩;rintro v _ w1 ⟨n,W,rfl,rfl,C,j,z1⟩;refine⟨λJ=>?_,λu=>?_⟩
  .have J:=S J;let⟨p,x1,aC,g1,g2,g3,g4,g5,g6⟩:=(ZH (j9 d) Z l j N).get X J;let⟨p',y1,aS,m1,m2,m3,m4,m5,m6⟩:=(ZH (j9 e) Z q j N).get (i:=n) X X;rw[aV]at g2 m2;refine⟨p,g1,λw2 T=>?_⟩;let am:=j.bG T;let G4:=ix g6 T;let aT:=ix m6 T;let tc:∃(k n:Int) (s:L) (bv:Int) (y:Sl) (a:Int),aC=qS k n s bv y a:=by
    cases d with
    |zero=>exact g6.elim
    |succ d=>let⟨y,a,_⟩:=g6;exact⟨_,_,_,_,y,_,a⟩
   let ff:∃(k n:Int) (s:L) (bv:Int) (y:Sl) (a:Int),aS=qS k n s bv y a:=by
    cases e with
    |zero=>exact m6.elim
    |succ e=>let⟨y,a,_⟩:=m6;exact⟨_,_,_,_,y,_,a⟩
   obtain⟨a1,a2,a3,a4,a5,a6,rfl⟩:=tc;obtain⟨z,b2,b3,b4,b5,b6,rfl⟩:=ff;refine⟨_,_,_,_,_,_,g5.keep<|T.block _ g5.lt N,p',m1,_,_,_,_,_,_,m5.keep<|T.block _ m5.lt N,(spl t d G4 aT).mono ?_⟩;rintro _ w3 ⟨rfl,p⟩;have:=T.size;have:=p.size;let lF:=ajF (f:=xJ t d) g2 m2;refine⟨_,I,p.same (by
    simp;omega),λhb=>⟨?_,am.bG p⟩,λhb=>⟨(WS x.dP)-_,X,n+1,X,N0,I,?_,am.bG p,X⟩⟩
   .rw[C,lF];let hb:=Rg
    rw[hb,dT]
   let hb:=Rg
   rw[C,lF,hb,cd]
  let u:=aQ u;have:n=WS x.dP:=X
  subst this;rw[C,fF X];exact⟨I,j⟩
def mP{d}{w}{F}{x}{cs}(h:yJ d w F x cs):∃sl,cs=qS x.k x.n x.s x.op sl x.a:=by
 cases d with
 |zero=>exact h.elim
 |succ d=>let⟨l,j,_⟩:=h;exact⟨l,j⟩
def zJ:Nat->Ex->Prop
 |0,_=>True
 |d+1,x=>WS x.s<4611686018427387903/\∀y∈x.dP,zJ d y
def zl(f:Ex->Nat):J Ex->Nat
 |[]=>0
 |x::s=>f x+zl f s
def uQ:Nat->Ex->Nat
 |0,_=>0
 |d+1,x=>1+zl (uQ d) x.dP
def mw:Nat->Ex->Prop
 |0,_=>True
 |d+1,x=>ri x.n/\∀y∈x.dP,mw d y
def eu(l:L):C:=JW (l≠[]/\WS l<=24)&&(match l with
 |c::_=>gC c
 |[]=>aL)&&JW (l.takeWhile gf=l)&&!lM.contains l
def G0{w} l (j:WS l<9223372036854775807):
  az aq 185 #[ab (T l)] w λe a=>e=ak (aj<|eu l)/\ay [] w a:=by
 refine ret<|ar8 ?_;intro k m H C d;let g:(ao #[])=T []:=I;rw[cE,g,jC];refine⟨λb s i a=>b=eu l/\ay [] w a,λb s i a f=>⟨by rw[f.1],f.2⟩,λh=>?_,λh=>⟨?_,d⟩⟩
 .simp at h;let⟨t,u⟩:=h;let u:WS l<=24:=X
  obtain⟨c,r,rfl⟩:∃c r,l=c::r:=by
   cases l with
   |nil=>exact absurd I t
   |cons c r=>exact⟨c,r,I⟩
  let p:eu (c::r)=(gC c&&JW ((c::r).takeWhile gf=c::r)&&!lM.contains (c::r)):=by
   rw[eu,bO ⟨t,u⟩,cd]
  refine⟨c,⟨X,I⟩,(FH m c).mono ?_⟩;rintro _ x ⟨rfl,F⟩;let q:=d.bG F;refine⟨_,I,F.same o,λb B=>?_,λb=>⟨by rw[p,b];rfl,q⟩⟩;refine(ZK (i:=0) (r:=[]) B X j).mono ?_;rintro _ v ⟨rfl,e⟩;rw[lg];let w:aF v k 184 [ab _,O U 0]:=(e.block k B.lt N).trans B;refine⟨_,I,T _,0,w,?_⟩;rw[jC];refine⟨λn=>(Db v).mono ?_,λn=>⟨?_,q.bG e⟩⟩
  .rintro _ y ⟨s,rfl,r,l⟩;let c:aF y k 184 [ab _,O U 0]:=(l.block k w.lt N).trans w;refine⟨s,I,T _,0,c,(xE (wG r) _).mono ?_⟩;rintro _ z ⟨rfl,V⟩;exact⟨_,I,_,_,(V.block k c.lt N).trans c,by rw[p,b,n];rfl,q.bG<|e.bG<|l.bG V⟩
  rw[p,b,n];rfl
 unfold eu;rw[bR]
 .rfl
 rintro⟨b,c⟩;rw[bR b,bO X]at h;cases h
def H(x:Ex):Int:=if x.k=5 then gX x.op else 6
def tN{w}{F}{x}{cs}{d}(h:yJ d w F x cs):az aq 309 #[ah cs.toArray] w λe a=>e=ak (O U<|H x)/\ay [] w a:=by
 cases d with
 |zero=>exact h.elim
 |succ d=>
  obtain⟨sl,rfl,h⟩:=h;refine ret<|aBa ⟨λhc k e _ _ b=>?_,λhc c w hk z b=>(QA w x.op).mono ?_⟩
  .have hc:=WH
   rw[H,Q hc];exact⟨I,b⟩
  rintro _ d ⟨rfl,rfl⟩;rw[H,E WH];exact⟨_,I,λ_ _=>I,I,b⟩
def Wa(n:Int)(s:L)(op len:Int)(x:Ex):C:=((((x.n==n)&&JW (x.s=s))&&(x.op==op))&&(WS x.dP==len))
def iP(x:Ex):C:=
 if x.k=1 then Wa (if 0>x.n then 0 else x.n) [] 0 0 x
 else if x.k=2∨x.k=3 then eu x.s&&Wa 0 x.s 0 0 x
 else if x.k=4 then Wa 0 [] (if x.op=15 then 15 else 14) 1 x
 else if x.k=5 then !(gX x.op==6)&&Wa 0 [] x.op 2 x
 else aL
def lw(f:Ex->C):J Ex->C
 |[]=>aE
 |x::s=>f x&&lw f s
def di:Nat->Ex->C
 |0,_=>aL
 |d+1,x=>iP x&&lw (di d) x.dP
def A1{f}{s:J Ex}{n}{x}(h:s[n]? =aM x):lw f (s.drop n)=(f x&&lw f (s.drop<|n+1)):=by
 rw[eV (aZ.1 h).1,(aZ.1 h).2,lw]
abbrev OA(d:Nat):=∀{w:av} {F:h} {x:Ex} {c:aI},zJ d x->yJ d w F x c->az aq 285 #[ah c.toArray] w λe a=>e=ak (aj<|di d x)/\ay [] w a
def ajB{d}(S:OA d){w}{F}{x}{cs}(l:zJ d x)(h:yJ d w F x cs):az aq 307 #[ah cs.toArray] w λe a=>e=ak (aj<|!di d x)/\ay [] w a:=by
 obtain⟨sl,rfl⟩:=mP h;refine ret<|aA9 ?_;intro k c hk z O;refine(S l<|ix h O).mono ?_;rintro _ f ⟨rfl,b⟩;exact⟨_,I,b.same o,I,O.bG b⟩
def aes{d:Nat}(j:OA d){w}{F}{l}{xs}(k:∀y∈xs,zJ d y)(h:aA (yJ d) 6 w F l xs):az aq 329 #[l.v,.func (.func 307) #[] #[]] w λe a=>∃i,e=ak (O U i)/\JW (i>=0)=!lw (di d) xs/\ay [] w a:=by
 refine(as0 l ⟨.func (.func 307) #[] #[],I⟩ (λv a=>∃i,v=O U i/\JW (i>=0)=!lw (di d) xs/\ay [] w a) w ?_).mono (by
  simp_all)
 have:=h.len;have:=h.big;have:=h.cap;refine⟨λg i a=>∃n,n<=WS xs/\i=n/\g=(WS xs)-n/\lw (di d) xs=lw _ (xs.drop n)/\ay [] w a,WS xs,⟨0,bE _,I,I,I,qE _ _⟩,?_⟩;rintro g _ p ⟨n,o,rfl,rfl,C,b⟩;refine⟨λc=>?_,λc=>?_⟩
 .have J:(n:Int)<l.n:=S c;let⟨ad,x,w,s,e,y,z,u,q⟩:=(ZH (j9 d) Z h b N).get X J;rw[aV]at e;obtain⟨sl,rfl⟩:=mP q;refine⟨ad,s,_,_,_,_,_,_,u,307,[],[],I,ia D,(ajB j (k x<|be e) q).mono ?_⟩;rintro _ A ⟨rfl,U⟩;have:=A1 (f:=di d) e;refine⟨_,I,λv=>⟨_,I,?_,b.bG U⟩,λv=>⟨(WS xs)-_,X,n+1,X,N0,I,?_,b.bG U⟩⟩
  .simp_all
  simp_all
 have:=aQ c;refine⟨_,I,?_,b⟩;rw[C,fF X];rfl
def NdO{d}(S:OA d){w}{F}{l}{xs}(a:∀y∈xs,zJ d y)(h:aA (yJ d) 6 w F l xs):az aq 306 #[l.v,.func (.func 307) #[] #[]] w λe b=>e=ak (aj<|!lw (di d) xs)/\ay [] w b:=by
 refine ret<|asR l ⟨.func _ #[] #[],I⟩ w<|(aes S a h).mono ?_;simp_all
def D8:∀d,OA d
 |0,_,_,_,_,_,h=>h.elim
 |d+1,f,F,x,z,⟨q,p⟩,⟨sl,g,h⟩=>by
  subst g;refine ret<|aA4 λJ u m H D k G a=>?_;let c:∀{b:C},iP x=b->di (d+1) x=_:=λe=>by rw[di,e]
  let own:∀{w n:av},ay [] f w->ay [u] w n->ay [] f n:=λg h=>g.new h k;refine⟨λi r j y l v t w=>∃s,y=T s/\iP x=Wa j s l i x/\ay [] f w/\m.heap.size<=w.heap.size,?_,λhk K B=>⟨[],I,?_,own a B,B.size⟩,λhk=>?_⟩
  .rintro i r j _ l v t w ⟨s,rfl,P,e,V⟩;let M:((((x.n==j)&&((T x.s).toList==(T s).toList))&&(x.op==l))&&((sl.n:Int)==i))=iP x:=by
    rw[P,jC,h.len];rfl
   rw[M];refine⟨λb R=>b=di _ x/\ay [] f R,?_,λL=>(NdO (D8 d) p<|ZH (j9 d) Z h e N).mono ?_,λL=>⟨by rw[c L,dT],e⟩⟩
   .simp_all
   rintro _ d ⟨rfl,b⟩;exact⟨_,I,b.same o,A,e.bG b⟩
  .have hk:=Wq
   rw[iP,E hk]
  let k:=Wq
  refine⟨λb d=>b=JW (x.k=2∨x.k=3)/\d=m,?_,λe=>⟨?_,I⟩,λe=>⟨?_,I⟩⟩
  .rintro _ _ ⟨rfl,rfl⟩;refine⟨λhk=>(G0 x.s X).mono ?_,λhk=>⟨λrr=>⟨λs P L=>⟨[],I,?_,own a L,L.size⟩,λs R M=>⟨[],I,?_,own a M,M.size⟩⟩,λrr=>⟨λtA=>(QA _ x.op).mono ?_,λtA=>⟨?_,a⟩⟩⟩⟩
   .rintro _ W ⟨rfl,T⟩;have:=T.size;let hk:=S hk;refine⟨_,I,T.same o,λhb=>⟨?_,a.bG T⟩,λhb Y V=>⟨x.s,I,?_,own (a.bG T) V,by have:=V.size;omega⟩⟩
    .have hb:=Rg
     rw[c (b:=aL) (by rw[iP,Q k,E hk,hb,dT]),dT]
    let hb:=Rg
    rw[iP,Q k,E hk,hb,cd]
   .have hk:=aQ hk;let rr:=WD
    let s:=by simpa using s
    rw[iP,Q k,Q hk,E rr,E s]
   .have hk:=aQ hk;let rr:=WD
    rw[iP,Q k,Q hk,E rr,Q<|by simpa using s]
   .rintro _ V ⟨rfl,rfl⟩;let hk:=aQ hk;let rr:=WD
    let tA:=Dz
    refine⟨_,I,λ_ _=>I,λhb=>⟨?_,a⟩,λhb T x=>⟨[],I,?_,own a x,x.size⟩⟩
    .rw[c (b:=aL) (by rw[iP,Q k,Q hk,Q rr,E tA,hb,Bool.not_true,dT]),dT]
    rw[iP,Q k,Q hk,Q rr,E tA,hb,Bool.not_false,cd]
   let rr:=WD
   let tA:=Dz
   rw[c (b:=aL) (by rw[iP,Q k,Q<|aQ hk,Q rr,Q tA]),dT]
  .simp_all
  grind
def Tb(w:av):Prop:=Lib.TabIs aq w "internal/strconv.uint64pow10" .u64 Lib.pow10Tab
def tb_num:prog.globalNamed "internal/strconv.uint64pow10" =aM 1:=D
def Tb.keep{w w'}(h:Tb w)(hk:1<w.heap.size->w'.heap[1]? =w.heap[1]?):Tb w':=by
 unfold Tb Lib.TabIs World.var? at h⊢;rw[tb_num]at h⊢;simp at h⊢;rw[hk]
 .exact h
 refine bK λn=>?_;rw[nP X]at h;cases h
def Tb.lt{w}(h:Tb w):1<w.heap.size:=by
 unfold Tb Lib.TabIs World.var? at h;rw[tb_num]at h;simp at h;refine bK λn=>?_;rw[nP X]at h;cases h
def Tb.only{w w'}(h:Tb w)(O:ay [] w w'):Tb w':=h.keep λb=>O.block _ b N
def Only.grown w k os:ay [] w (Go.Sort.grow (w.drewN k) os):=⟨I,I,I,N,λq h _=>by
 simp[Go.Sort.grow,World.heap_drewN]
 grind⟩
def Eo{w} n (h:ri n) (a:Tb w):az aq 140 #[O U n] w λe b=>e=ak (ab<|T<|Lib.itoa n)/\ay [] w b:=by
 refine ret<|v1w<|(Tryz.strconv_Itoa n h.1 h.2 w a).mono ?_;rintro _ c ⟨rfl,k,o,rfl⟩;exact⟨_,I,I,Only.grown ..⟩
def Bf(w:av)(B:Nat)(s:Sl)(l:L):Prop:=
 (s=Sl.nil/\l=[])∨∃g tail,s.a=aM ⟨g,0,VM⟩/\B<=g/\aF w g 5 (l.map jq++tail)/\WS tail=s.c-s.n/\s.n=WS l/\s.n<=s.c/\s.c<=9223372036854775807/\0<s.c
def Bf.len{w}{B}{s}{l}(h:Bf w B s l):s.n=WS l:=by
 rcases h with⟨rfl,rfl⟩|⟨g,tail,_,_,_,_,h,_⟩
 .rfl
 omega
def Bf.lt{w}{B}{s}{l}(b:Bf w B s l){g}(a:s.a=aM ⟨g,0,VM⟩):B<=g/\g<w.heap.size:=by
 rcases b with⟨rfl,rfl⟩|⟨e,tail,h,c,d,_⟩
 .cases a
 rw[a]at h;injection h with h;injection h with h;subst h;exact⟨c,d.lt⟩
def Bf.keep{w w'}{B}{s}{l}(h:Bf w B s l)(hk:∀g,s.a=aM ⟨g,0,VM⟩->g<w.heap.size->w'.heap[g]? =w.heap[g]?):Bf w' B s l:=by
 rcases h with h|⟨g,tail,a,c,b,d⟩
 .exact .inl h
 exact .inr ⟨g,tail,a,c,(hk g a b.lt).trans b,d⟩
def ath l:Lib.strCells (T l)=l.map jq:=rfl
def FQ:prog.underlying 204=aM (.slice 5):=D
def ak2:prog.underlying 9=aM .string:=D
def Kf:prog.info? 5=aM t5:=D
def Ep{w:av}{B:Nat}{s:Sl}{l:L}(y:Bf w B s l)(m:L)(G:B<=w.heap.size)(H:WS l+WS m<=140737488355328):
  ∃d f,(Builtin.append_ #[204,9] 204 #[s.v,ab<|T m]).run aq w=.ok d.v f/\Bf f B d (l++m)/\aD (λk=>s.a=aM ⟨k,0,VM⟩) w f/\(d.a=s.a∨d.a=aM ⟨w.heap.size,0,VM⟩):=by
 have t:=FQ;have u:=ak2;have i:=Kf;have D:t5.size=1:=I;have W:t5.bytes=1:=I;have r:t5.zero=aM (.int .u8 0):=I;have h:(T m).size=WS m:=I;have grown:∀(iw o:Nat),iw=WS l+(WS m)->0<WS l+(WS m)->∀cells:Array aw,cells=((l++m).map jq).toArray++Builtin.zeroCells (Value.int .u8 0).cells (grownCap w iw o 5-iw)->
   Bf (w.drew.alloc<|.cells cells 5) B ⟨aM ⟨w.heap.size,0,VM⟩,iw,grownCap w iw o 5⟩ (l++m)/\aD (λk=>s.a=aM ⟨k,0,VM⟩) w (w.drew.alloc<|.cells cells 5):=by
  rintro iw o rfl b cells rfl;have c:ay [] w (w.drew.alloc<|.cells (((l++m).map jq).toArray++Builtin.zeroCells (Value.int .u8 0).cells (grownCap w (WS l+WS m) o 5-(WS l+WS m))) 5):=(Only.drew w).bG<|Rk _ _;refine⟨.inr ⟨w.heap.size,(Builtin.zeroCells (Value.int .u8 0).cells<|grownCap w (WS l+WS m) o 5-(WS l+WS m)).toList,I,G,?_,?_,N,grownCap_ge ..,grownCap_le_maxLen _ _ _ _<|by simp only[maxLen];omega,cD b<|grownCap_ge _ _ _ _⟩,c.p0⟩
  .have e:∀(x:aI) (z:Array aw),x.toArray++z=(x++z.toList).toArray:=R
   rw[e];exact Jp w.drew 5 _
  exact(AP w _ (size:=1) I).trans<|lU _
 rcases y with⟨rfl,rfl⟩|⟨g,tail,j,C,a,E,n,F,p,q⟩
 .cases m with
  |nil=>
   refine⟨Sl.nil,w,?_,.inl ⟨I,I⟩,V8 _ _,.inl I⟩;have c:=Lib.run_firstCells_string (P:=aq) w 1<|T [];have b:(T []).size=0:=I;rw[b]at c;simp[Sl.nil,Sl.v,Builtin.append_,run_underlying t,run_underlying u,Go.sizeOf,typeInfo,i,D,Builtin.lenOf,b,c]
  |cons c m=>
   have e:=run_append_nil_string (P:=aq) w 204 9 204 5 t5 (.int .u8 0) t u i r (T (c::m)) (by rw[h];simp) X R;rw[h]at e;obtain⟨k,s⟩:=grown (WS (c::m)) 0 N N _ I;have g:(T (c::m)).data.map (λb=>Value.int .u8 b.toNat)=(List.map jq ([]++c::m)).toArray:=by
    apply XM.1;rw[Array.toList_map,mM];rfl
   grind
 obtain⟨c,sn,sc⟩:=s;dsimp only at j E n F p q;subst j;by_cases b:sn+WS m<=sc
 .have k:=a;unfold aF at a;have s:=Lib.run_append_room_string (P:=aq) w 204 9 204 5 t5 t u i D g sn sc _ a _ (by rw[h];omega) (by
   simp_all)
  rw[h,ath]at s;refine⟨⟨aM ⟨g,0,VM⟩,sn+WS m,sc⟩,_,s,.inr ⟨g,tail.drop<|WS m,I,C,?_,?_,A,b,p,q⟩,(SG w g _).p A,.inl I⟩
  .have:=k.setRow<|(l++m).map jq++tail.drop (WS m);have e:((l.map jq++tail).toArray.toList.take sn++m.map jq++(l.map jq++tail).toArray.toList.drop (sn+WS m))=(l++m).map jq++tail.drop (WS m):=by
    rw[mM,or3<|by rw[bP];omega,bm<|by rw[bP];omega,List.drop_append,fF<|by rw[bP];omega,cJ,bP,cK,n,gH]
   grind
  grind
 have s:∀e v,(l.map jq)[e]? =aM v->w.cell? ((⟨g,0,VM⟩:Addr).add e)=aM v:=λe v k=>a.cells 0 (l.map jq) (λe v k=>R) e v k;have x:=Lib.run_append_grow_string (P:=aq) w 204 9 204 5 t5 (.int .u8 0) t u i r ⟨g,0,VM⟩ sn sc (l.map jq) A s _ (by rw[h];omega) X<|growslice_fits X R;rw[h,ath]at x
 grind
def L7 w F:∀l,pJ lY 1 w F l<|l.map λb=>[jq b]
 |[]=>trivial
 |c::l=>⟨⟨I,I⟩,L7 w F l⟩
def ZZ:∀l:L,(l.map λb=>[jq b]).flatten=l.map jq
 |[]=>rfl
 |c::l=>by rw[ch,fE,ZZ l];rfl
def E2{w}{F}:∀{l:L} {s:J _},pJ lY 1 w F l s->s.flatten=l.map jq
 |[],[],_=>rfl
 |c::l,d::s,h=>by
  let⟨⟨_,a⟩,b⟩:=h;subst a;rw[fE,E2 b];rfl
def Bf.own{w}{B}{s}{l}(h:Bf w B s l) F:Own lY 1 5 B w F s l:=by
 rcases h with h|⟨g,tail,a,c,d,e,f,i,j,_⟩
 .exact .inl h
 exact .inr ⟨g,l.map λb=>[jq b],tail,a,c,by rw[ZZ];exact d,by rw[lU];exact e,f,i,j,L7 ..⟩
def Bf.of{w}{B}{s}{l}{F}(h:Own lY 1 5 B w F s l)(k:0<WS l):Bf w B s l:=by
 rcases h with h|⟨g,c,tail,a,b,d,m,e,f,i,j⟩
 .exact .inl h
 exact .inr ⟨g,tail,a,b,by rw[<-E2 j];exact d,X,e,f,i,X⟩
structure Pg (G:h) (w:av) (b:Nat) (sl sn:Sl) (l:L):Prop where
 blk:∃q:Option Addr,(q=VM∨q=aM ⟨b,0,VM⟩)/\aF w b 334 [ae q,sl.v,sn.v]
 buf:Bf w (b+1) sl l
 sig:aA oK 1 w G sn zj
 hG:∀k,G k->k<b
def kw(b:Nat)(sl:Sl)(w:av)(sl':Sl)(a:av):Prop:=aD (λk=>k=b∨sl.a=aM ⟨k,0,VM⟩) w a/\∀k,sl'.a=aM ⟨k,0,VM⟩->sl.a=aM ⟨k,0,VM⟩∨w.heap.size<=k
def kw.refl b sl w:kw b sl w sl w:=⟨V8 _ _,λ_ h=>.inl h⟩
def V9:=@kw.refl
def kw.trans{b}{sl sl' Xr}{w w' wU}(a:kw b sl w sl' w')(k:kw b sl' w' Xr wU):kw b sl w Xr wU:=by
 have:=a.1.size;refine⟨a.1.trans k.1 λx h=>?_,λx h=>?_⟩
 .rcases h with h|h
  .omega
  rcases a.2 x h with e|e
  .exact .inl (.inr e)
  omega
 rcases k.2 x h with e|e
 .exact a.2 x e
 omega
def kw.only{b}{sl}{w w'}(h:ay [] w w'):kw b sl w sl w':=⟨h.p0,λ_ h=>.inl h⟩
def WX:=@kw.only
def kw.same{b}{sl sl'}{w w'}(h:kw b sl w sl' w'){k}(hk:k≠b)(s:sl.a≠aM ⟨k,0,VM⟩)(l:k<w.heap.size):bX [k] w w':=h.1.same (by
 simp_all)
def Pg.only{G}{w w'}{b}{sl sn}{l}(h:Pg G w b sl sn l)(O:ay [] w w'):Pg G w' b sl sn l:=by
 let⟨q,c,B⟩:=h.blk;exact⟨⟨q,c,O.blk B N⟩,h.buf.keep λg _ a=>O.block g a N,ZH dI Z h.sig O N,h.hG⟩
def Pg.lb{G}{w}{b}{sl sn}{l}(h:Pg G w b sl sn l):b<w.heap.size:=by
 let⟨q,a,B⟩:=h.blk;exact B.lt
def Ma v w:(VU 256 #[v]).run aq w=.ok v w:=by
 unfold VU;rw[Sem.run_bind,run_callFunc_extern func256 Mi Mi D (e:=Extern.AbiNoEscape.same) D];rfl
def cz{w}{b}{q}{sl sn:Sl}(c:q=VM∨q=aM ⟨b,0,VM⟩)(h:aF w b 334 [ae q,sl.v,sn.v]):
  az aq 229 #[ae (aM ⟨b,0,VM⟩)] w λe a=>e=ak (ai #[])/\ay [b] w a/\aF a b 334 [ae (aM ⟨b,0,VM⟩),sl.v,sn.v]:=by
 refine ret (LJ ?_);let x:w.shape? b=aM (334,3):=by
  unfold World.shape?;rw[h];rfl
 refine⟨q,Hl h 0 I,λn=>?_,λn=>⟨q,Hl h 0 I,?_⟩⟩
 .have r:=Lib.run_from_unsafe (P:=aq) (src:=304) (dst:=203) w ⟨b,0,VM⟩ (u:=206) (j:=t206) D D D x D;exact⟨_,w,Lib.run_to_unsafe (P:=aq) (src:=203) (dst:=304) w ⟨b,0,VM⟩ (t:=206) (j:=t206) D D D Z x (by decide:(0:Nat)<3),⟨ae _,I⟩,w,Ma _ w,aM ⟨b,0,VM⟩,w,r,b,0,_,_,I,h,N,λd O B=>⟨I,O,B⟩⟩
 rcases c with rfl|rfl
 .cases n
 exact⟨aL,w,Lib.run_neq_ptr_same w _ (te:=206) (j:=t206) D D,R,λ_=>⟨I,qE _ _,h⟩⟩
section
variable{G:h}{w:av}{b:Nat}{sl sn:Sl}{l:L}
def ak3(h:Pg G w b sl sn l):az aq 191 #[ae (aM ⟨b,0,VM⟩)] w λe a=>e=ak (O U<|WS l)/\a=w:=by
 exact ret<|LH _ _<|let⟨q,c,B⟩:=h.blk;⟨sl,Hl B 1 I,by rw[h.buf.len],I⟩
def uh(h:Pg G w b sl sn l) m (hm:WS l+WS m<=140737488355328):az aq 182 #[ae (aM ⟨b,0,VM⟩),ab<|T m] w λe i=>
  ∃sl',e=ak (ai #[O U (WS m),.nilIface])/\Pg G i b sl' sn (l++m)/\kw b sl w sl' i:=by
 refine jK<|LC<|let⟨q,j,B⟩:=h.blk;(cz j B).mono λ_ u ⟨rfl,c,Y⟩=>?_;have:=c.size;have:=B.lt;let B4:=h.buf.keep λg a f=>c.block g f (by have:=(h.buf.lt a).1;simp;omega);let⟨s,r,n,o,k3,p⟩:=Ep B4 m X hm;have:∀g,s.a=aM ⟨g,0,VM⟩->b<g:=λg a=>by
  rcases p with e|e
  .rw[e]at a;exact(B4.lt a).1
  grind
 refine⟨I,sl,Hl Y 1 I,s,r,n,b,1,_,_,I,k3.blk Y λe=>H7,N,λv d C=>⟨s,I,⟨⟨_,.inr I,C⟩,o.keep λg a f=>d.block g f R,?_,h.hG⟩,?_,?_⟩⟩
 .exact ZH dI Z (Zz dI Z (ZH dI Z h.sig c λk hk _ hm=>Bb) k3 λk hk _ hm=>by have:=h.hG k hk;have:=(B4.lt hm).1;omega) d λk hk _ hm=>Bb
 .refine((c.p (F:=λk=>k=b∨sl.a=aM _) A).trans k3 R).trans (d.p (F:=λk=>k=b) A) X
 grind
def Md(h:Pg G w b sl sn l) c (hm:WS l+1<=140737488355328):ZG ⟨b,0,VM⟩ c.toNat (λv m=>∃sl',v=.nilIface/\Pg G m b sl' sn (l++[c])/\kw b sl w sl' m) w:=by
 let⟨q,o,B⟩:=h.blk;refine(cz o B).mono λ_ K ⟨rfl,T,Y⟩=>?_;have:=T.size;have:=B.lt;let B4:=h.buf.keep λg a d=>T.block g d (by have:=(h.buf.lt a).1;simp;omega);let⟨y,L,u,z,k3,_⟩:=xF K [c] (n:=1) (parts:=#[_]) I I Z Z;have:=k3.size;let⟨s,M,C,D,S,E,H,J⟩:=rA (P:=aq) (t:=204) (ty:=204) (e:=5) (i:=t5) (bytes:=1) (size:=1) (r:=lY) FQ Kf I I I I uA ((B4.keep λg a d=>k3.block g d N).own λ_=>True) ((Dw z).mono uA λk hk=>⟨trivial,λe=>by have:=(B4.lt e).2;omega⟩) X A Z;let f:=E.p λx p=>.inl (H x p).1;have:∀g,s.a=aM ⟨g,0,VM⟩->b<g:=λg a=>by
  rcases J with e|e
  .rw[e]at a;exact(B4.lt a).1
  grind
 refine⟨I,sl,Hl Y 1 I,y,L,u,s,M,C,b,1,_,_,I,f.blk (k3.blk Y N) λe=>H7,N,λV j O=>⟨s,I,⟨⟨_,.inr I,O⟩,(Bf.of D N).keep λg a d=>j.block g d R,?_,h.hG⟩,?_,?_⟩⟩
 .exact ZH dI Z (Zz dI Z (ZH dI Z h.sig (T.bG k3) λk hk _ hm=>Bb) f λk hk _ hm=>by have:=h.hG k hk;have:=(B4.lt hm).1;omega) j λk hk _ hm=>Bb
 .refine(((T.bG k3).p (F:=λk=>k=b∨sl.a=aM _) A).trans f R).trans (j.p (F:=λk=>k=b) A) X
 grind
def afM(h:Pg G w b sl sn l) c (m:WS l+1<=140737488355328):az aq 308 #[ae (aM ⟨b,0,VM⟩),.int .u8 c.toNat] w λe a=>
 ∃sl',e=ak .nilIface/\Pg G a b sl' sn (l++[c])/\kw b sl w sl' a:=(asS w<|Md h c m).mono (by
 simp_all)
def afN(h:Pg G w b sl sn l) c (m:WS l+1<=140737488355328):nV aq 308 #[ae (aM ⟨b,0,VM⟩),.int .u8 c.toNat] w λv a=>
 ∃sl',v=.nilIface/\Pg G a b sl' sn (l++[c])/\kw b sl w sl' a:=ahP w<|Md h c m
structure Pt (w:av) (b:Nat) (sl:Sl) (l:L):Prop where
 blk:∃q sn:aw,aF w b 334 [q,sl.v,sn]
 len:sl.n=WS l
 aM:l≠[]->∃g,sl.a=.some ⟨g,0,VM⟩/\b<g/\sl.c≠0/\(∃n,w.shape? g=.some (5,n)/\WS l<=n)/\aB w ⟨g,0,VM⟩ (l.map jq)
 cap:sl.a=VM∨sl.c≠0
 big:WS l<=9223372036854775807
def Vy{w a:av}{g}(h:a.heap[g]? =w.heap[g]?):a.shape? g=w.shape? g:=by
 unfold World.shape?;rw[h]
def Pt.only{w'}(j:Pt w b sl l)(h:ay [] w w'):Pt w' b sl l:=by
 let⟨⟨q,sn,k⟩,m,o,p,r⟩:=j;refine⟨⟨q,sn,h.blk k N⟩,m,λt=>?_,p,r⟩;let⟨g,c,d,e,⟨n,a,f⟩,i⟩:=o t;let s:g<w.heap.size:=by
  refine bK λn=>?_;unfold World.shape? at a;simp_all
 let hk:=h.block g s N;exact⟨g,c,d,e,⟨n,(Vy hk).trans a,f⟩,i.keep hk⟩
def Pg.pt(h:Pg G w b sl sn l):Pt w b sl l:=by
 let⟨q,c,B⟩:=h.blk;refine⟨⟨_,_,B⟩,h.buf.len,λa=>?_,?_,?_⟩
 .rcases h.buf with⟨_,e⟩|⟨g,tail,d,f,b,i,j,k,l,m⟩
  .exact absurd e a
  refine⟨g,d,f,X,⟨_,by unfold World.shape?;unfold aF at b;rw[b],N⟩,b.cells 0 _ λn v e=>R⟩
 .rcases h.buf with⟨e,_⟩|_
  .grind
  omega
 rcases h.buf with⟨_,e⟩|_
 .subst e;simp
 omega
end
def qi{w:av} p n a:(w.freeze p n).shape? a=w.shape? a:=by
 rw[World.freeze];split
 .rfl
 unfold World.shape?;simp[uy];by_cases P:p.block=a
 .rw[E P];rcases h:w.heap[a]? with _|o
  .rfl
  cases o with
  |cells c e f=>obtain _:=f;rfl
  |_=>rfl
 rw[Q P]
section
variable{w:av}{b:Nat}{sl:Sl}{l:L}
def G3(j:Pt w b sl l):az aq 143 #[ae (aM ⟨b,0,VM⟩)] w λe i=>e=ak (ab<|T l)/\Pt i b sl l/\aD (λk=>b<k/\sl.a=aM ⟨k,0,VM⟩) w i:=by
 refine ret<|K1 λc d=>?_;obtain⟨⟨q,sn,h⟩,f,P,r,t⟩:=j.only d;refine⟨λk=>k=b,sl,Hl h 1 I,I,sl,Hl h 1 I,sl.a,c,?_,λk _ _=>I,?_⟩
 .have⟨s,n,sc⟩:=sl;rcases s with _|a
  .exact Lib.run_unsafeSliceData_nil ..
  rcases r with e|e
  .cases e
  exact Lib.run_unsafeSliceData_row _ _ _ _ _ _ e
 by_cases a:l=[]
 .subst a;refine⟨T [],c,?_,λk _ _=>I,I,⟨⟨q,sn,h⟩,f,P,r,t⟩,d.p0⟩;rw[f];exact Lib.run_unsafeString_none ..
 have⟨g,b,n,u,⟨p,s,o⟩,A⟩:=P a;have F:=xH c ⟨g,0,VM⟩<|WS l;refine⟨T l,c.freeze _<|WS l,?_,λk hk J=>F.block k J P0,I,⟨⟨q,sn,F.blk h P0⟩,f,λ_=>⟨g,b,n,u,⟨p,(qi ..).trans s,o⟩,λm v e=>by rw[xG];exact A m v e⟩,r,t⟩,d.ph<|F.mono λk _ hk=>by dsimp only at hk;subst hk;exact⟨n,b⟩⟩;rw[b,f];exact Lib.run_unsafeString_row _ _ _ _ 5 D D g p s l a o t λm x e=>A m _ (by rw[cP,e];rfl)
end
def opn(wr:C)(l:L):L:=if wr then l++[40]else l
def clo(wr:C)(l:L):L:=if wr then l++[41]else l
def sE:Nat->Ex->C->L->L
 |0,_,_,l=>l
 |d+1,x,wr,l=>if 16384<WS l then l else clo wr (
  if x.k=1 then opn wr l++Lib.itoa x.n
  else if x.k=2 then opn wr l++x.s
  else if x.k=3 then opn wr l++([105,110,40]++x.s++[41])
  else if x.k=4 then(match x.dP with
   |[y]=>sE d y (JW<|H y<6)<|opn wr l++fe x.op.toNat
   |_=>l)
  else(match x.dP with
   |[y,z]=>sE d z (JW<|H z<=H x)<|sE d y (JW<|H y<H x) (opn wr l)++([32]++fe x.op.toNat++[32])
   |_=>l))
section
variable{x:Ex}
def zK{n}{s}{op len}(h:Wa n s op len x=aE):x.n=n/\x.s=s/\x.op=op/\WS x.dP=len:=by
 simp[Wa,aO,dw,bB]at h;simp_all
def lp(h:iP x=aE)(hk:x.k=2∨x.k=3):eu x.s=aE:=by
 let a:x.k≠1:=X
 rw[iP,Q a,E hk,aO]at h;exact h.1
def xK(h:iP x=aE)(hk:x.k=4):∃y,x.dP=[y]/\(x.op=14∨x.op=15):=by
 rw[iP,Q X,Q X,E hk]at h;let⟨_,_,a,b⟩:=zK h;let⟨y,c⟩:=List.length_eq_one_iff.1 (show (WS x.dP)=1 by omega)
 grind
def sF(h:iP x=aE)(a:x.k≠1)(c:x.k≠2)(d:x.k≠3)(b:x.k≠4):x.k=5/\∃y z,x.dP=[y,z]/\1<=x.op/\x.op<=13:=by
 rw[iP,Q a,Q X,Q b]at h;split at h
 .rename_i f;rw[aO]at h;let⟨e,g⟩:=h;obtain _:=zK g;have e:=by simpa using e
  let l:WS x.dP=2:=X
  obtain⟨y,z,i⟩:∃y z,x.dP=[y,z]:=by
   match m:x.dP,l with
   |[y,z],_=>grind
  refine⟨f,y,z,i,?_⟩;unfold gX at e;omega
 cases h
def ja{s}(h:eu s=aE):WS s<=24:=by
 unfold eu at h;simp_all
def nD n:WS (fe n)<=2:=by
 rcases tG n 16 with h|h
 .have:∀q<16,WS (fe q)<=2:=Z
  exact this n h
 unfold fe;rw[cu (h)];decide
def SX wr l:WS (opn wr l)<=WS l+1:=by
 unfold opn;cases wr<;>simp
def afO wr l:WS (clo wr l)<=WS l+1:=by
 unfold clo;cases wr<;>simp
def vZ:∀d {x:Ex} wr l,di d x=aE->mw d x->WS (sE d x wr l)<=WS l+40*uQ d x
 |0,x,wr,l,h,_=>VI
 |d+1,x,wr,l,h,⟨n,s⟩=>by
  rw[di,aO]at h;let⟨b,a⟩:=h;let c:=SX wr l;rw[sE,uQ];split
  .omega
  refine bC (afO _ _) ?_;split
  .rw[aU];have:=Lib.itoa_length_le x.n n.1 n.2;omega
  split
  .rename_i hk;rw[aU];have:=ja<|lp b<|.inl hk;omega
  split
  .rename_i hk;rw[aU,aU,aU];have:=ja (lp b<|.inr hk)
   grind
  split
  .rename_i hk;let⟨y,h,_⟩:=xK b hk;rw[h]at a s⊢;dsimp only;simp[lw,dW,zl]at a⊢;have:=vZ d (JW<|H y<6) (opn wr l++fe x.op.toNat) a<|s y N;rw[aU]at this;have:=nD x.op.toNat;omega
  rename_i k f k3 g;let⟨hk,y,z,h,_⟩:=sF b k f k3 g;rw[h]at a s⊢;dsimp only;simp only[lw,dW,zl,aO]at a⊢;have:=vZ d (JW<|H y<H x) (opn wr l) a.1<|s y N;have e:=vZ d (JW<|H z<=H x) (sE d y (JW<|H y<H x) (opn wr l)++([32]++fe x.op.toNat++[32])) a.2<|s z N;rw[aU,aU,aU]at e;have:=nD x.op.toNat
  grind
end
structure Pz (d:Nat) (F G:h) (k0 b:Nat) (sub sn:Sl) (subs:List Ex) (w:av) (sl:Sl) (l:L):Prop where
 pg:Pg G w b sl sn l
 tb:Tb w
 own:k0≠b/\sl.a≠aM ⟨k0,0,VM⟩/\k0<w.heap.size
 sb:aA (yJ d) 6 w F sub subs
 hF:∀k,F k->k<b
 hT:1<b
section
variable{d:Nat}{F G:h}{k0 b:Nat}{sx sn sl sl':Sl}{subs:J Ex}{w w' wU:av}{l l':L}
def Pg.out(h:Pg G w b sl sn l){k}(hk:k<b):¬(k=b∨sl.a=aM ⟨k,0,VM⟩):=by
 rintro(e|e)
 .omega
 have:=(h.buf.lt e).1;omega
def Pz.only(h:Pz d F G k0 b sx sn subs w sl l)(O:ay [] w w'):Pz d F G k0 b sx sn subs w' sl l:=by
 have:=O.size;exact⟨h.pg.only O,h.tb.only O,⟨h.own.1,h.own.2.1,by have:=h.own.2.2;omega⟩,ZH (j9 d) Z h.sb O N,h.hF,h.hT⟩
def Pz.mv(h:Pz d F G k0 b sx sn subs w sl l)(p:Pg G w' b sl' sn l')(m:kw b sl w sl' w'):Pz d F G k0 b sx sn subs w' sl' l'/\bX [k0] w w'/\bH (λk=>k<b∨k=k0) w w':=by
 have:=m.1.size;let⟨o,a,c⟩:=h.own;refine⟨⟨p,h.tb.keep λJ=>m.1.block _ J<|h.pg.out h.hT,⟨o,λe=>?_,X⟩,Zz (j9 d) Z h.sb m.1 λk hk _=>h.pg.out<|h.hF k hk,h.hF,h.hT⟩,m.same o a c,λk hk J=>m.1.block k J ?_⟩
 .rcases m.2 k0 e with e|e
  .exact a e
  omega
 rcases hk with hk|rfl
 .exact h.pg.out hk
 simp_all
def kw.after(h:kw b sl w' sl' wU)(O:ay [] w w'):kw b sl w sl' wU:=(WX O).trans h
def Pz.same(h:Pz d F G k0 b sx sn subs w sl l)(O:ay [] w w'):bX [k0] w w':=O.same (by have:=h.own.2.2;simp;omega)
theorem Pz.sig(h:Pz d F G k0 b sx sn subs w sl l){op}(c:0<=op)(k:op<16):∃ad,ci sn op 1 ad/\aB w ad [ab (T<|fe op.toNat)]:=by
 have:=h.pg.sig.len;have:WS zj=16:=I;let⟨ad,x,s,e,g,f,i,j,a⟩:=h.pg.sig.get c X;subst a;have:fe op.toNat=x:=by unfold fe;rw[g];rfl
 grind
def Pz.sub(h:Pz d F G k0 b sx sn subs w sl l){i:Nat}{y}(c:subs[i]? =aM y):∃ad s,ci sx i 6 ad/\ad.block<b/\aB w ad (qS y.k y.n y.s y.op s y.a)/\yJ d w F y (qS y.k y.n y.s y.op s y.a):=by
 have:=h.sb.len;have:=(aZ.1 c).1;let⟨ad,x,k,e,g,f,m,j,a⟩:=h.sb.get (bf i) X;rw[aV,c]at g;injection g with g;subst g;obtain⟨s,rfl⟩:=mP a;exact⟨ad,s,e,h.hF _ f,j,a⟩
end
abbrev PgC(d:Nat):=∀{G F:h} {w:av} {b:Nat} {sl sn:Sl} {l:L} {x:Ex} {c:aI} wr,di d x=aE->mw d x->yJ d w F x c->(∀k,F k->k<b)->Tb w->1<b->Pg G w b sl sn l->WS l+40*uQ d x<=70368744177664->
 az aq 286 #[ae (aM ⟨b,0,VM⟩),ah c.toArray,aj wr] w λe a=>∃sl',e=ak (ai #[])/\Pg G a b sl' sn (sE d x wr l)/\kw b sl w sl' a
def Cg s:Kbe++T s++ao #[41]=T ([105,110,40]++s++[41]):=by
 rfl
def Sm s:ao #[32]++T s++ao #[32]=T ([32]++s++[32]):=by
 rfl
def WN c s:(c++T s).size=c.size+WS s:=by
 rw[show c=T c.data.toList from UK c,gA,cE,cE,aU]
def nV.mono{P}{f}{a}{w}{Q Q'}(h:nV P f a w Q)(q:∀v b,Q v b->Q' v b):nV P f a w Q':=λc s d=>by
 let⟨e,u,b,fr,⟨g,v,i,j⟩,k⟩:=h c s d
 grind
def Ae:∀d,PgC d
 |0,_,_,_,_,_,_,_,_,_,_,_,_,h,_,_,_,_,_=>h.elim
 |d+1,G,F,o,b,sl,s,l,x,K,wr,t,⟨n,V⟩,⟨c,B,p⟩,j,D,h,hP,u=>by
  subst B;refine(aA5 ⟨b,0,VM⟩ x.k x.n (T x.s) x.op c x.a wr (λv w=>∃sl',v=ai #[]/\Pg G w b sl' s (sE (d+1) x wr l)/\kw b sl o sl' w) o ?_).mono (by
   simp_all)
  have W:yJ (d+1) o F x (qS x.k x.n x.s x.op c x.a):=⟨c,I,p⟩
  rw[di,aO]at t;obtain⟨a,ha⟩:=t;rw[uQ]at u;intro f J M C m;have P:=hP.lb;have g:Pz d F G f b c s x.dP J sl l:=⟨hP.only m,D.only m,⟨X,λe=>UZ,C⟩,ZH (j9 d) Z p m N,j,h⟩
  refine(ak3 g.pg).mono ?_;rintro _ r ⟨rfl,rfl⟩;refine⟨_,I,λ_ _=>I,λhc=>⟨sl,I,?_,(WX m)⟩,λhc=>?_⟩
  .rw[sE,E PZ];exact g.pg
  have hc:¬16384<WS l:=R
  have Y:sE (d+1) x wr l=clo wr (
  if x.k=1 then opn wr l++Lib.itoa x.n
  else if x.k=2 then opn wr l++x.s
  else if x.k=3 then opn wr l++([105,110,40]++x.s++[41])
  else if x.k=4 then(match x.dP with
   |[y]=>sE d y (JW<|H y<6)<|opn wr l++fe x.op.toNat
   |_=>l)
  else(match x.dP with
   |[y,z]=>sE d z (JW<|H z<=H x)<|sE d y (JW<|H y<H x) (opn wr l)++([32]++fe x.op.toNat++[32])
   |_=>l)):=by rw[sE,Q hc]
  have T:=SX wr l;refine⟨λe=>(afM g.pg 40 X).mono ?_,λe=>?_⟩
  .rintro _ w2 ⟨k8,rfl,aT,uq⟩;obtain⟨Jb,L5,_⟩:=g.mv aT uq;have aS:l++[40]=opn wr l:=by unfold opn;rw[E e]
   rw[aS]at Jb;refine⟨⟨.nilIface,I⟩,I,L5,?_⟩;have am:∀{L8:Sl} {w5:av} {aC:L},Pz d F G f b c s x.dP w5 L8 aC->kw b k8 w2 L8 w5->sE (d+1) x wr l=clo wr aC->WS aC<=WS l+40*(1+zl (uQ d) x.dP)->nV aq 308 #[ae (aM<|(⟨b,0,VM⟩:Addr).add 0),.int .u8 41] w5 λ_ w=>∃sl',(Value.tuple #[])=ai #[]/\Pg G w b sl' s (sE (d+1) x wr l)/\kw b sl o sl' w:=by
    intro L8 w5 aC k i q x;refine nV.mono (afN k.pg 41 X) ?_;rintro v w ⟨sl',y,d,b⟩;refine⟨sl',I,?_,((uq.after m).trans i).trans b⟩;rw[q];unfold clo;rw[E e];exact d
   refine⟨λhk w3 cN=>?_,λk1=>⟨λhk w7 fu=>?_,λk2=>⟨λhk=>⟨?_,?_,λdh dy=>?_⟩,λk3=>⟨λhk ff dL=>?_,λk4=>(tN<|show yJ (d+1) _ F x (qS x.k x.n x.s x.op c x.a)from⟨c,I,Jb.sb⟩).mono ?_⟩⟩⟩⟩
   .have hk:x.k=1:=Wq
    have z:=Jb.only cN;refine(Eo x.n n z.tb).mono ?_;rintro _ w4 ⟨rfl,d⟩;have b:=z.only d;have y:=Lib.itoa_length_le x.n n.1 n.2;refine⟨_,I,z.same d,(uh b.pg (Lib.itoa x.n) X).mono ?_⟩;rintro _ w5 ⟨L8,rfl,i,k⟩;obtain⟨q,v,_⟩:=b.mv i k;exact⟨_,⟨.nilIface,I⟩,I,v,am q ((k.after d).after cN) (by rw[Y,E hk]) Ww⟩
   .have hk:x.k=2:=Wq
    have k1:x.k≠1:=X
    have z:=Jb.only fu;have q:=ja<|lp a<|.inl hk;refine(uh z.pg x.s X).mono ?_;rintro _ v ⟨L8,rfl,b,d⟩;obtain⟨i,k,_⟩:=z.mv b d;exact⟨_,⟨.nilIface,I⟩,I,k,am i (d.after fu) (by rw[Y,Q k1,E hk]) Ww⟩
   .have hk:x.k=3:=Wq
    have b:=ja<|lp a<|.inr hk;rw[cE];omega
   .have hk:x.k=3:=Wq
    have b:=ja<|lp a<|.inr hk;rw[WN];have:Kbe.size=3:=I;omega
   .have hk:x.k=3:=Wq
    have y:=ja<|lp a<|.inr hk;have d:=Jb.only dy;have q:WS ([105,110,40]++x.s++[41]:L)=WS x.s+4:=by
     simp_all
    rw[Cg];refine(uh d.pg _ X).mono ?_;rintro _ v ⟨L8,rfl,b,i⟩;obtain⟨k,z,_⟩:=d.mv b i;exact⟨_,⟨.nilIface,I⟩,I,z,am k (i.after dy) (by rw[Y,Q X,Q X,E hk]) Ww⟩
   .have hk:x.k=4:=Wq
    obtain⟨y,hy,ux⟩:=xK a hk;have fd:zl (uQ d) x.dP=uQ d y:=FP
    have bv:di d y=aE:=Rc
    have HN:mw d y:=V y YK;have eQ:=nD x.op.toNat;have LK:=Jb.only dL;obtain⟨q,hq,hB⟩:=LK.pg.blk;obtain⟨ad,g1,g2⟩:=LK.sig (op:=x.op) X X;refine⟨s,Hl hB 2 I,ad,g1,_,g2,(uh LK.pg (fe x.op.toNat) X).mono ?_⟩;rintro _ fS ⟨me,rfl,bV,v⟩;obtain⟨bY,cc,_⟩:=LK.mv bV v;refine⟨_,⟨.nilIface,I⟩,I,cc,λgz ik=>?_⟩;have RQ:=bY.only ik;obtain⟨p1,nj,e1,e2,e3,e4⟩:=RQ.sub (i:=0) (y:=y) Bt;refine⟨λk=>k<b∨k=f,.inr I,p1,e1,.inl e2,_,_,_,_,_,_,e3,p1,e1,_,_,_,_,_,_,e3,(tN e4).mono ?_⟩;rintro _ iA ⟨rfl,iE⟩;have RR:=RQ.only iE;have Jc:=vZ d (JW<|H y<6) (opn wr l++fe x.op.toNat) bv HN;rw[aU]at Jc;refine⟨_,I,RQ.same iE,ZX iE,(Ae d (JW<|H y<6) bv HN (ix e4 iE) j RR.tb h RR.pg Ww).mono ?_⟩;rintro _ fV ⟨el,rfl,ce,z⟩;obtain⟨co,cC,dO⟩:=RR.mv ce z;exact⟨I,cC,dO,am co ((v.after dL).trans<|(z.after iE).after ik) (by rw[Y,Q X,Q X,Q X,E hk,hy]) X⟩
   rintro _ kf ⟨rfl,lH⟩;have k1:x.k≠1:=Q5
   have k2:x.k≠2:=UI
   have k3:x.k≠3:=WU
   have k4:x.k≠4:=WI
   obtain⟨hk,y,z,hy,oR,bJ⟩:=sF a k1 k2 k3 k4;have oN:zl (uQ d) x.dP=uQ d y+uQ d z:=FP
   have Dl:di d y=aE/\di d z=aE:=Rc
   have HN:mw d y:=V y YK;have Yq:mw d z:=V z YK;have oF:=nD x.op.toNat;refine⟨_,I,Jb.same lH,λje iL=>?_⟩;have RS:=(Jb.only lH).only iL;obtain⟨p1,nj,e1,e2,e3,e4⟩:=RS.sub (i:=0) (y:=y) Bt;refine⟨λk=>k<b∨k=f,.inr I,p1,e1,.inl e2,_,_,_,_,_,_,e3,p1,e1,_,_,_,_,_,_,e3,(tN e4).mono ?_⟩;rintro _ ky ⟨rfl,iU⟩;have RT:=RS.only iU;have Jc:=vZ d (JW<|H y<H x) (opn wr l) Dl.1 HN;refine⟨_,I,RS.same iU,ZX iU,(Ae d (JW<|H y<H x) Dl.1 HN (ix e4 iU) j RT.tb h RT.pg X).mono ?_⟩;rintro _ nK ⟨mK,rfl,gT,v⟩;obtain⟨g8,g9,ip⟩:=RT.mv gT v;refine⟨I,g9,ip,λnL mV=>?_⟩;have LM:=g8.only mV;obtain⟨q,hq,hB⟩:=LM.pg.blk;obtain⟨ad,g1,g2⟩:=LM.sig (op:=x.op) X X;have Aw:WS ([32]++fe x.op.toNat++[32]:L)=WS (fe x.op.toNat)+2:=by
    simp_all
   have wW:(ao #[32]).size=1:=I;refine⟨s,Hl hB 2 I,ad,g1,_,g2,Hn,by rw[WN];omega,?_⟩;rw[Sm];refine(uh LM.pg _ X).mono ?_;rintro _ pe ⟨nO,rfl,iD,gE⟩;obtain⟨iF,iN,_⟩:=LM.mv iD gE;refine⟨_,⟨.nilIface,I⟩,I,iN,λlS rK=>?_⟩;have RU:=iF.only rK;obtain⟨p2,sz,f1,f2,f3,f4⟩:=RU.sub (i:=1) (y:=z) Bt;refine⟨λk=>k<b∨k=f,.inr I,p2,f1,.inl f2,_,_,_,_,_,_,f3,p2,f1,_,_,_,_,_,_,f3,(tN f4).mono ?_⟩;rintro _ qj ⟨rfl,lf⟩;have RV:=RU.only lf;have iS:=vZ d (JW<|H z<=H x) (sE d y (JW<|H y<H x) (opn wr l)++([32]++fe x.op.toNat++[32])) Dl.2 Yq;rw[aU,Aw]at iS;refine⟨_,I,RU.same lf,ZX lf,(Ae d (JW<|H z<=H x) Dl.2 Yq (ix f4 lf) j RV.tb h RV.pg<|by rw[aU,Aw];omega).mono ?_⟩;rintro _ vw ⟨n8,rfl,ld,gG⟩;obtain⟨lE,lT,mt⟩:=RV.mv ld gG;exact⟨I,lT,mt,am lE (((v.after iU).after iL).after lH |>.trans ((gE.after mV).trans<|(gG.after lf).after rK)) A X⟩
  have pm:l=opn wr l:=by unfold opn;rw[e];rfl
  have Jb:Pz d F G f b c s x.dP r sl (opn wr l):=R
  have v:∀{L8:Sl} {w5:av} {pi:L},Pz d F G f b c s x.dP w5 L8 pi->kw b sl r L8 w5->sE (d+1) x wr l=clo wr pi->WS pi<=WS l+40*(1+zl (uQ d) x.dP)->∃sl',(Value.tuple #[])=ai #[]/\Pg G w5 b sl' s (sE (d+1) x wr l)/\kw b sl o sl' w5:=by
   intro L8 w5 pi d b i k;refine⟨L8,I,?_,b.after m⟩;rw[i];unfold clo;rw[e];exact d.pg
  refine⟨λhk w3 cN=>?_,λk1=>⟨λhk w7 fu=>?_,λk2=>⟨λhk=>⟨?_,?_,λdh dy=>?_⟩,λk3=>⟨λhk ff dL=>?_,λk4=>(tN<|show yJ (d+1) _ F x (qS x.k x.n x.s x.op c x.a)from⟨c,I,Jb.sb⟩).mono ?_⟩⟩⟩⟩
  .have hk:x.k=1:=Wq
   have z:=Jb.only cN;refine(Eo x.n n z.tb).mono ?_;rintro _ w4 ⟨rfl,d⟩;have b:=z.only d;have hl:=Lib.itoa_length_le x.n n.1 n.2;refine⟨_,I,z.same d,(uh b.pg (Lib.itoa x.n) X).mono ?_⟩;rintro _ w5 ⟨L8,rfl,i,k⟩;obtain⟨q,y,_⟩:=b.mv i k;exact⟨_,⟨.nilIface,I⟩,I,y,v q ((k.after d).after cN) (by rw[Y,E hk]) Ww⟩
  .have hk:x.k=2:=Wq
   have k1:x.k≠1:=X
   have z:=Jb.only fu;have q:=ja<|lp a<|.inl hk;refine(uh z.pg x.s X).mono ?_;rintro _ y ⟨L8,rfl,b,d⟩;obtain⟨i,k,_⟩:=z.mv b d;exact⟨_,⟨.nilIface,I⟩,I,k,v i (d.after fu) (by rw[Y,Q k1,E hk]) Ww⟩
  .have hk:x.k=3:=Wq
   have b:=ja<|lp a<|.inr hk;rw[cE];omega
  .have hk:x.k=3:=Wq
   have b:=ja<|lp a<|.inr hk;rw[WN];have:Kbe.size=3:=I;omega
  .have hk:x.k=3:=Wq
   have hl:=ja<|lp a<|.inr hk;have d:=Jb.only dy;have q:WS ([105,110,40]++x.s++[41]:L)=WS x.s+4:=by
    grind
   rw[Cg];refine(uh d.pg _ X).mono ?_;rintro _ y ⟨L8,rfl,b,i⟩;obtain⟨k,z,_⟩:=d.mv b i;exact⟨_,⟨.nilIface,I⟩,I,z,v k (i.after dy) R Ww⟩
  .have hk:x.k=4:=Wq
   obtain⟨y,hy,ux⟩:=xK a hk;have By:zl (uQ d) x.dP=uQ d y:=FP
   have rx:di d y=aE:=Rc
   have HN:mw d y:=V y YK;have Bv:=nD x.op.toNat;have LK:=Jb.only dL;obtain⟨q,hq,hB⟩:=LK.pg.blk;obtain⟨ad,g1,g2⟩:=LK.sig (op:=x.op) X X;refine⟨s,Hl hB 2 I,ad,g1,_,g2,(uh LK.pg (fe x.op.toNat) X).mono ?_⟩;rintro _ fS ⟨me,rfl,tO,z⟩;obtain⟨ut,uP,_⟩:=LK.mv tO z;refine⟨_,⟨.nilIface,I⟩,I,uP,λgz ik=>?_⟩;have RQ:=ut.only ik;obtain⟨p1,nj,e1,e2,e3,e4⟩:=RQ.sub (i:=0) (y:=y) Bt;refine⟨λk=>k<b∨k=f,.inr I,p1,e1,.inl e2,_,_,_,_,_,_,e3,p1,e1,_,_,_,_,_,_,e3,(tN e4).mono ?_⟩;rintro _ iA ⟨rfl,iE⟩;have RR:=RQ.only iE;have Jc:=vZ d (JW<|H y<6) (opn wr l++fe x.op.toNat) rx HN;rw[aU]at Jc;refine⟨_,I,RQ.same iE,ZX iE,(Ae d (JW<|H y<6) rx HN (ix e4 iE) j RR.tb h RR.pg Ww).mono ?_⟩;rintro _ fV ⟨AT,rfl,wd,pP⟩;obtain⟨As,AC,AS⟩:=RR.mv wd pP;exact⟨I,AC,AS,v As ((z.after dL).trans<|(pP.after iE).after ik) (by rw[Y,Q X,Q X,Q X,E hk,hy]) X⟩
  rintro _ kf ⟨rfl,lH⟩;have k1:x.k≠1:=Q5
  have k2:x.k≠2:=UI
  have k3:x.k≠3:=WU
  have k4:x.k≠4:=WI
  obtain⟨hk,y,z,hy,ID,bJ⟩:=sF a k1 k2 k3 k4;have Is:zl (uQ d) x.dP=uQ d y+uQ d z:=FP
  have Dl:di d y=aE/\di d z=aE:=Rc
  have HN:mw d y:=V y YK;have Yq:mw d z:=V z YK;have If:=nD x.op.toNat;refine⟨_,I,Jb.same lH,λje iL=>?_⟩;have RS:=(Jb.only lH).only iL;obtain⟨p1,nj,e1,e2,e3,e4⟩:=RS.sub (i:=0) (y:=y) Bt;refine⟨λk=>k<b∨k=f,.inr I,p1,e1,.inl e2,_,_,_,_,_,_,e3,p1,e1,_,_,_,_,_,_,e3,(tN e4).mono ?_⟩;rintro _ ky ⟨rfl,iU⟩;have RT:=RS.only iU;have Jc:=vZ d (JW<|H y<H x) (opn wr l) Dl.1 HN;refine⟨_,I,RS.same iU,ZX iU,(Ae d (JW<|H y<H x) Dl.1 HN (ix e4 iU) j RT.tb h RT.pg X).mono ?_⟩;rintro _ nK ⟨GT,rfl,Do,BV⟩;obtain⟨DO,EQ,Fd⟩:=RT.mv Do BV;refine⟨I,EQ,Fd,λnL mV=>?_⟩;have LM:=DO.only mV;obtain⟨q,hq,hB⟩:=LM.pg.blk;obtain⟨ad,g1,g2⟩:=LM.sig (op:=x.op) X X;have Aw:WS ([32]++fe x.op.toNat++[32]:L)=WS (fe x.op.toNat)+2:=by
   rw[aU,aU];simp only[aY,ck];omega
  have wW:(ao #[32]).size=1:=I;refine⟨s,Hl hB 2 I,ad,g1,_,g2,Hn,by rw[WN];omega,?_⟩;rw[Sm];refine(uh LM.pg _ X).mono ?_;rintro _ pe ⟨H1,rfl,Fn,BY⟩;obtain⟨zqF,Ge,_⟩:=LM.mv Fn BY;refine⟨_,⟨.nilIface,I⟩,I,Ge,λlS rK=>?_⟩;have RU:=zqF.only rK;obtain⟨p2,sz,f1,f2,f3,f4⟩:=RU.sub (i:=1) (y:=z) Bt;refine⟨λk=>k<b∨k=f,.inr I,p2,f1,.inl f2,_,_,_,_,_,_,f3,p2,f1,_,_,_,_,_,_,f3,(tN f4).mono ?_⟩;rintro _ qj ⟨rfl,lf⟩;have RV:=RU.only lf;have Gg:=vZ d (JW<|H z<=H x) (sE d y (JW<|H y<H x) (opn wr l)++([32]++fe x.op.toNat++[32])) Dl.2 Yq;rw[aU,Aw]at Gg;refine⟨_,I,RU.same lf,ZX lf,(Ae d (JW<|H z<=H x) Dl.2 Yq (ix f4 lf) j RV.tb h RV.pg<|by rw[aU,Aw];omega).mono ?_⟩;rintro _ vw ⟨Id,rfl,Gt,Cc⟩;obtain⟨GE,GG,GO⟩:=RV.mv Gt Cc;exact⟨I,GG,GO,v GE (((BV.after iU).after iL).after lH |>.trans ((BY.after mV).trans<|(Cc.after lf).after rK)) (by rw[Y,Q k1,Q k2,Q k3,Q k4,hy]) X⟩
def sH(d:Nat)(x:Ex):L:=if di d x=aE then(if(iG<|sE d x aL []).2.1≠0 then[]else sE d x aL [])else[]
def ak4{d}{w}{F}{x}{c}(h:yJ d w F x c)(l:zJ d x)(n:mw d x)(g:Er w)(f:Tb w)(p:40*uQ d x<=70368744177664):
  az aq 262 #[ah c.toArray] w λe i=>e=ak (ab<|T<|sH d x)/\ay [] w i:=by
 obtain⟨t,rfl⟩:=mP h;refine ret<|v6w ?_;intro r s H C a;refine(D8 d l<|ix h a).mono ?_;rintro _ m ⟨rfl,b⟩;have:=b.size;let j:=a.bG b;refine⟨_,I,b.same o,λhs=>?_,λhs=>(L6 m).mono ?_⟩
 .have hs:=Fl
  rw[sH,Q eL];exact⟨I,j⟩
 let hs:=Fl
 rw[sH,E hs];rintro _ w2 ⟨y,rfl,T,F⟩;have:=F.size;refine⟨y,I,F.same o,λk1 P kZ jl J wX=>?_⟩;let D:ay [] w P:=(j.bG F).bG J;let Y:Pg _ P k1 Sl.nil y []:=⟨⟨VM,.inl I,wX⟩,.inl ⟨I,I⟩,ZH dI Z T J N,λk hk=>PW⟩
 have:=f.lt;refine(Ae d aL hs n (ix ((j9 d).inHeap h) D) (λk hk=>PW) (f.only D) X Y Te).mono ?_;rintro _ w4 ⟨u,rfl,x,v⟩;have:=v.1.size;let W:=(D.ph v.1).only λk hk=>by
  rcases hk with rfl|e
  .omega
  cases e
 let⟨q,hq,M⟩:=x.blk;refine⟨I,v.same X (λe=>by cases e) X,q,u,y,M,(G3 x.pt).mono ?_⟩;rintro _ w5 ⟨rfl,B,V⟩;have:=V.size;let R:=V.blk M X;let G:=(W.ph V).only λk hk=>SR
 refine⟨_,I,V.same o,q,u,y,R,(ak1 _<|g.only G).mono ?_⟩;rintro _ w6 ⟨c,rfl,hX,A⟩;have:=A.size;obtain⟨xl,rfl,_⟩:=hX.cells;let L:=G.bG A;refine⟨_,_,_,_,_,_,_,_,I,A.same o,q,u,y,A.blk R N,λhr k2 k3 w7 _ _ _ _ fu _=>?_,λhr k4 k5 w8 rr yu tA S K xp=>?_⟩
 .rw[E Uy];exact⟨I,L.bG fu⟩
 refine(G3<|(B.only A).only K).mono ?_;rintro _ w9 ⟨rfl,w,d⟩;rw[Q Uy];have e:∀k,u.a=aM _->k<w4.heap.size:=λk hk=>(x.buf.lt hk).2;refine⟨_,I,d.same λk hk=>?_,q,u,y,d.blk xp X,I,((L.bG K).ph d).only λk hk=>SR⟩;simp at hk;rcases hk with rfl|rfl|rfl
 .exact⟨X,λk=>by have:=k.1;omega⟩
 .exact⟨yu,λk=>by have:=e _ k.2;omega⟩
 exact⟨S,λk=>by have:=e _ k.2;omega⟩
def afP{ts}{i}{e}(h:Hb ts i=.error e):e.1≠0:=by
 rw[Hb]at h;split at h
 .split at h
  .split at h
   .cases h
   injection h with h;subst h;exact gR
  injection h with h;subst h;exact gR
 injection h with h;subst h;exact gR
def Dc{r}{g}{e}(h:Hw r g=.error e):r=.error e∨∃x j,r=.ok (x,j)/\g x j=.error e:=by
 cases r with
 |error e=>exact .inl h
 |ok p=>exact .inr ⟨p.1,p.2,I,h⟩
def Ig{d}{a}{r}{e}(h:kQ d a r=.error e):r=.error e∨e.1=21:=by
 rw[kQ]at h;split at h
 .injection h with h;subst h;exact .inr I
 exact .inl h
def ge0{ts}{E}{k}{e}(a:∀i,E i=.error e->e.1≠0):∀g x j,jW ts E k g x j=.error e->e.1≠0
 |0,x,j,h=>VI
 |g+1,x,j,h=>by
  rw[jW]at h;split at h
  .cases h
  rcases Dc h with b|⟨y,m,b,c⟩
  .exact a _ b
  exact ge0 a g _ _ c
def pW{ts}{e}:∀f k d i,dF ts f k d i=.error e->e.1≠0
 |0,k,d,i,h=>by
  rw[dF]at h;injection h with h;subst h;decide
 |f+1,k,d,i,h=>by
  rw[dF]at h;split at h
  .rw[rG]at h;split at h
   .generalize n:kQ d (tk ts i).a _=r at h;cases r with
    |ok q=>cases h
    |error e=>
     injection h with h;subst h;rcases Ig n with a|a
     .exact pW f _ _ _ a
     rw[a];decide
   split at h
   .rcases Ig h with a|a
    .cases r:dF ts f 0 _ _ with
     |error e=>
      rw[r]at a;injection a with a;subst a;exact pW f _ _ _ r
     |ok q=>
      rw[r]at a;simp[xI]at a;split at a
      .cases a
      injection a with a;subst a;exact gR
    rw[a];decide
   split at h
   .cases h
   split at h
   .cases h
   split at h
   .exact afP h
   injection h with h;subst h;exact gR
  rcases Dc h with a|⟨y,m,a,b⟩
  .exact pW f _ _ _ a
  exact ge0 (λi c=>pW f _ _ _ c) _ _ _ b
structure Ac where
 k:Int
 n:L
 x:Ex
 a:Int
structure Mv where
 k:Int
 ev:L
 wt:Int
 gd:Bool
 g:Ex
 acts:List Ac
 tg:List (L)
 a:Int
structure Nb where
 k:Int
 nm:L
 ini:L
 dft:L
 en:List Ac
 lv:List Ac
 mv:List Mv
 a:Int
inductive Nd where
 |mk (b:Nb) (kids:List Nd)
def Nd.b:Nd->Nb|.mk b _=>b
def Nd.kids:Nd->J Nd|.mk _ l=>l
structure Vr where
 n:L
 v:Int
 a:Int
structure Ch where
 vars:List Vr
 root:Nd
def OC:Nb:=⟨0,[],[],[],[],[],[],0⟩
def XR:Nd:=.mk OC []
def GQ:Ch:=⟨[],XR⟩
def oW:Ac:=⟨0,[],Ad,0⟩
def tkZ:Tk:=⟨0,[],0,0⟩
structure Sx where
 i:Nat
 fc:Int
 fa:Int
 v:Int
 n:Int
 d:Int
 m:Int
 a:Int
section
variable(ts:J Tk)
def jX(s:Sx)(c:Int):Sx:=if s.fc=0 then{s with fc:=c,fa:=(tk ts s.i).a}else s
def lN(s:Sx):Sx:=if(tk ts s.i).k=5 then jX ts (jX ts s 3) 4 else jX ts s 4
def zm(c:L):J (L)->Nat
 |[]=>0
 |x::l=>if c=x then 0 else zm c l+1
def cY(s:Sx)(l:J (L)):Nat:=
 if s.fc≠0∨((tk ts s.i).k≠2/\(tk ts s.i).k≠4)then 0 else if zm (tk ts s.i).t l<WS l then zm (tk ts s.i).t l+1 else 0
def eE(s:Sx):Sx:={s with i:=s.i+1}
def gw(s:Sx)(x:L):Sx:=if cY ts s [x]=0 then lN ts s else eE s
def jb(s:Sx)(k:Int):Tk×Sx:=if s.fc≠0∨(tk ts s.i).k≠k then(tkZ,lN ts s)else(tk ts s.i,eE s)
def lh(s:Sx):L×Sx:=((jb ts s 1).1.t,(jb ts s 1).2)
def qG(s:Sx):Ex×Sx:=
 if s.fc≠0 then(Ad,s)
 else if(cG ts s.i).2.2.1≠0 then((cG ts s.i).1,{s with fc:=(cG ts s.i).2.2.1,fa:=(cG ts s.i).2.2.2})
 else((cG ts s.i).1,{s with i:=(cG ts s.i).2.1.toNat})
def Cx(x:Int):Int:=ar U<|x-1
def P7(x:Int):Int:=ar U<|x+1
def Cy(s:Sx):Sx:=if s.a=0 then{jX ts s 2 with a:=Cx s.a}else{s with a:=Cx s.a}
def wa(s:Sx):Sx:=if s.m=0 then{jX ts s 2 with m:=Cx s.m}else{s with m:=Cx s.m}
def Hx(s:Sx):Sx:=if s.n=0 then{jX ts s 2 with n:=Cx s.n}else{s with n:=Cx s.n}
def Hy(s:Sx):Sx:=if s.v=0 then{jX ts s 2 with v:=Cx s.v}else{s with v:=Cx s.v}
def uR:L:=[115,101,116]
def my:L:=[114,97,105,115,101]
def ol:L:=[101,109,105,116]
def Et:L:=[111,110]
def iQ:L:=[97,108,119,97,121,115]
def jy:L:=[97,102,116,101,114]
def fU:L:=[105,110,105,116,105,97,108]
def jz:L:=[101,110,116,101,114]
def jL:L:=[108,101,97,118,101]
def FT:L:=[115,116,97,116,101]
def uS:L:=[112,97,114,97,108,108,101,108]
def xL:L:=[104,105,115,116,111,114,121]
def Ni:L:=[100,101,101,112]
def gx:L:=[99,104,97,114,116]
def Af:L:=[118,97,114]
def QB(s:Sx)(k:Nat)(n:L)(a:Int):Ac×Sx:=
 if k=2 then(⟨k,n,Ad,a⟩,gw ts s [59])
 else(⟨k,n,(qG ts<|gw ts s [61]).1,a⟩,gw ts (qG ts<|gw ts s [61]).2 [59])
def uT(s:Sx):Ac×Sx:=
 if cY ts s [uR,my,ol]=0 then(⟨0,[],Ad,(tk ts s.i).a⟩,lN ts s)
 else if(Cy ts s).fc≠0 then(⟨(cY ts s [uR,my,ol]),[],Ad,(tk ts s.i).a⟩,Cy ts s)
 else QB ts (lh ts<|eE<|Cy ts s).2 (cY ts s [uR,my,ol]) (lh ts<|eE<|Cy ts s).1 (tk ts s.i).a
def sI:Nat->J Ac->Sx->J Ac×Sx
 |0,a,s=>(a,s)
 |f+1,a,s=>if s.fc≠0 then(a,s)else if cY ts s [[125]]≠0 then(a,eE s)else sI f (a++[(uT ts s).1]) (uT ts s).2
def lO(s:Sx):J Ac×Sx:=sI ts (WS ts+1) [] (gw ts s [123])
def uU:Nat->L->J (L)->Sx->J (L)×Sx
 |0,_,a,s=>(a,s)
 |f+1,x,a,s=>if cY ts s [x]=0 then(a,s)else uU f [44] (a++[(lh ts<|eE s).1]) (lh ts<|eE s).2
def FU(m:Mv)(s:Sx):Mv×Sx:=
 ({m with tg:=(uU ts (WS ts+1) [45,62] [] s).1},gw ts (uU ts (WS ts+1) [45,62] [] s).2 [59])
def Dx(m:Mv)(s:Sx):Mv×Sx:=
 if cY ts s [[123]]=0 then FU ts m s else FU ts {m with acts:=(lO ts s).1} (lO ts s).2
def sJ(m:Mv)(s:Sx):Mv×Sx:=
 if cY ts s [[91]]=0 then Dx ts m s else Dx ts {m with gd:=aE,g:=(qG ts<|eE s).1} (gw ts (qG ts<|eE s).2 [93])
def Z1(k a:Int):Mv:=⟨k,[],0,aL,Ad,[],[],a⟩
def rl(k:Int)(s:Sx):Mv×Sx:=
 if(wa ts s).fc≠0 then(Z1 k (tk ts s.i).a,wa ts s)
 else if k=1 then sJ ts {Z1 k (tk ts s.i).a with ev:=(lh ts<|eE<|wa ts s).1} (lh ts<|eE<|wa ts s).2
 else if k=3 then sJ ts {Z1 k (tk ts s.i).a with wt:=(jb ts (eE<|wa ts s) 3).1.n} (jb ts (eE<|wa ts s) 3).2
 else sJ ts (Z1 k (tk ts s.i).a) (eE<|wa ts s)
structure Yr where
 i:Bool
 e:Bool
 l:Bool
def eJ(n:Nb)(h:Yr)(s:Sx):C×Nb×Yr×Sx:=
 if cY ts s [Et,iQ,jy]≠0 then(aE,{n with mv:=n.mv++[(rl ts (cY ts s [Et,iQ,jy]) s).1]},h,(rl ts (cY ts s [Et,iQ,jy]) s).2)
 else match cY ts s [fU,jz,jL]with
  |0=>(aL,n,h,s)
  |1=>if h.i then(aL,n,h,lN ts s)else(aE,{n with ini:=(lh ts<|eE s).1},{h with i:=aE},gw ts (lh ts<|eE s).2 [59])
  |2=>if h.e then(aL,n,h,lN ts s)else(aE,{n with en:=(lO ts<|eE s).1},{h with e:=aE},(lO ts<|eE s).2)
  |_=>if h.l then(aL,n,h,lN ts s)else(aE,{n with lv:=(lO ts<|eE s).1},{h with l:=aE},(lO ts<|eE s).2)
def iy:Nat->Nb->Yr->Sx->Nb×Sx
 |0,n,_,s=>(n,s)
 |f+1,n,h,s=>if s.fc≠0 then(n,s)
  else if(eJ ts n h s).1 then iy f (eJ ts n h s).2.1 (eJ ts n h s).2.2.1 (eJ ts n h s).2.2.2 else((eJ ts n h s).2.1,(eJ ts n h s).2.2.2)
def sK:J (L):=[FT,uS,xL,Ni]
def wH(N:Int->Sx->Nd×Sx):Nat->J Nd->Sx->J Nd×Sx
 |0,a,s=>(a,s)
 |f+1,a,s=>if cY ts s sK=0 then(a,s)else wH N f (a++[(N (cY ts s sK)<|eE s).1]) (N (cY ts s sK)<|eE s).2
def uV(N:Int->Sx->Nd×Sx)(n:Nb)(s:Sx):Nd×Sx:=
 let c:=iy ts (WS ts+1) n ⟨aL,aL,aL⟩ {s with d:=Cx s.d}
 let k:=wH ts N (WS ts+1) [] c.2
 (.mk c.1 k.1,gw ts {k.2 with d:=P7 k.2.d} [125])
def tP(s:Sx):Sx:=if(tk ts s.i).k=1 then(if(Hx ts s).d=0 then jX ts (Hx ts s) 21 else Hx ts s)else s
def gy(k:Int)(s:Sx):Nb×Sx:=({OC with k:=k,nm:=(jb ts (tP ts s) 1).1.t,a:=(jb ts (tP ts s) 1).1.a},(jb ts (tP ts s) 1).2)
def mZ:Nat->Int->Sx->Nd×Sx
 |0,_,s=>(XR,s)
 |f+1,k,s=>
  if 3<=k then(.mk {(gy ts k s).1 with dft:=(lh ts<|gw ts (gy ts k s).2 [45,62]).1} [],gw ts (lh ts<|gw ts (gy ts k s).2 [45,62]).2 [59])
  else uV ts (mZ f) (gy ts k s).1 (gw ts (gy ts k s).2 [123])
def Cz(s:Sx):Vr×Sx:=
 let b:=if(tk ts s.i).k=1 then Hy ts s else s
 let t:=jb ts b 1
 let a:=gw ts t.2 [61]
 let g:=cY ts a [[45]]
 let q:=jb ts (if g=0 then a else eE a) 3
 (⟨t.1.t,if g=0 then q.1.n else ar U (-q.1.n),t.1.a⟩,gw ts q.2 [59])
def xM:Nat->J Vr->Sx->J Vr×Sx
 |0,a,s=>(a,s)
 |f+1,a,s=>if cY ts s [Af]=0 then(a,s)else xM f (a++[(Cz ts<|eE s).1]) (Cz ts<|eE s).2
def zL:Sx:=⟨0,0,0,16,64,12,200,400⟩
def QC(s:Sx):Sx:=if s.fc=0/\(tk ts s.i).k≠5 then lN ts s else s
def xN:Ch×Sx:=
 let n:=gy ts 1<|gw ts zL gx
 let v:=xM ts (WS ts+1) [] (gw ts n.2 [123])
 let b:=uV ts (mZ ts 14) n.1 v.2
 (⟨v.1,b.1⟩,QC ts b.2)
end
def fg(l:L):Ch×Int×Int:=
 if(cR l).2.1≠0 then(GQ,(cR l).2.1,(cR l).2.2)
 else if(xN (cR l).1).2.fc≠0 then(GQ,(xN (cR l).1).2.fc,(xN (cR l).1).2.fa)
 else((xN (cR l).1).1,0,0)
def mu(t:J Tk)(s:Sx):Nat:=if s.fc=0 then (WS t)-s.i else 0
structure On0 (ts:List Tk) (s s':Sx):Prop where
 lt:s.i<(WS ts)->s'.i<WS ts
 le:s'.fc=0->s.fc=0/\s.i<=s'.i
structure On (ts:List Tk) (s s':Sx):Prop extends On0 ts s s' where
 d:s'.d=s.d
section
variable{ts:J Tk}{s s' s'':Sx}
def On0.refl ts s:On0 ts s s:=⟨id,λh=>⟨h,bc _⟩⟩
def On.refl ts s:On ts s s:=⟨On0.refl ts s,I⟩
def Wo:=@On.refl
def On0.trans(h:On0 ts s s')(k:On0 ts s' s''):On0 ts s s'':=⟨λx=>k.lt<|h.lt x,λe=>by
 let⟨a,b⟩:=k.le e;let⟨c,d⟩:=h.le a;exact⟨c,bC d b⟩⟩
def On.trans(h:On ts s s')(k:On ts s' s''):On ts s s'':=⟨h.toOn0.trans k.toOn0,k.d.trans h.d⟩
def On0.mu(h:On0 ts s s'):mu ts s'<=mu ts s:=by
 unfold Con.mu;by_cases e:s'.fc=0
 .obtain⟨a,b⟩:=h.le e;rw[E e,E a];omega
 rw[Q e];exact bE _
def tQ c:On ts s (jX ts s c):=by
 unfold jX;by_cases e:s.fc=0
 .rw[E e];exact⟨⟨id,λ_=>⟨e,bc _⟩⟩,I⟩
 rw[Q e];exact Wo _ _
def SY{c}(h:c≠0):(jX ts s c).fc≠0:=by
 unfold jX;by_cases e:s.fc=0
 .rw[E e];exact h
 rw[Q e];exact e
def Kg c:(jX ts s c).i=s.i:=by
 unfold jX;split<;>rfl
def uW:(lN ts s).fc≠0:=by
 unfold lN;split<;>exact SY Z
def uX:On ts s (lN ts s):=by
 unfold lN;split
 .exact(tQ 3).trans (tQ 4)
 exact tQ 4
def VA l:cY ts s l<=WS l:=by
 unfold cY;split
 .exact bE _
 split<;>omega
def dX{l}(h:cY ts s l≠0):s.fc=0/\(tk ts s.i).k≠5:=by
 unfold cY at h;split at h
 .exact absurd I h
 rename_i c;by_cases e:s.fc=0
 .refine⟨e,λa=>c<|.inr ?_⟩;rw[a];exact⟨Z,Z⟩
 exact absurd (.inl e) c
def oM(E:vY ts)(a:s.fc=0)(hk:(tk ts s.i).k≠5):On ts s (eE s):=⟨⟨λh=>E.next h hk,λ_=>⟨a,kB _⟩⟩,I⟩
def jY(a:vY ts) x:On ts s (gw ts s x):=by
 unfold gw;by_cases h:cY ts s [x]=0
 .rw[E h];exact uX
 rw[Q h];exact oM a (dX h).1 (dX h).2
def Bc(a:vY ts){k}(hk:k≠5):On ts s (jb ts s k).2:=by
 unfold jb;by_cases h:s.fc≠0∨(tk ts s.i).k≠k
 .rw[E h];exact uX
 rw[Q h];simp at h;exact oM a h.1 (by rw[h.2];exact hk)
def tR(h:vY ts):On ts s (lh ts s).2:=Bc h Z
end
section
variable{ts:J Tk}(hE:vY ts)
include hE
theorem ak6{i}{x}{j}(a:i<WS ts)(hk:(tk ts i).k≠5)(h:Hb ts i=.ok (x,j)):j<WS ts:=by
 unfold Hb at h;split at h
 .rename_i b;split at h
  .rename_i c;split at h
   .rename_i d;have:=hE.next (hE.next (hE.next (hE.next a hk)<|zi b)<|by rw[c];decide)<|zi d;simp at h;omega
   cases h
  cases h
 cases h
theorem afQ{E0 Gm}{d i}{x}{j}(E:∀i x j,i<(WS ts)->E0 i=.ok (x,j)->j<WS ts)(O:∀i x j,i<(WS ts)->Gm i=.ok (x,j)->j<WS ts)(a:i<WS ts)(h:rG ts E0 Gm d i=.ok (x,j)):j<WS ts:=by
 unfold rG at h;split at h
 .rename_i s;let⟨y,b,_⟩:=El h;refine O _ _ _ (hE.next a ?_) (uN b).1;rcases cj _ _▸s with s|s<;>exact zi s
 split at h
 .rename_i s;obtain⟨d,b,c,rfl⟩:=En (uN h).1;exact hE.next (E _ _ _ (hE.next a<|zi s) b)<|zi c
 split at h
 .rename_i hk;simp at h;have:=hE.next a (by rw[hk];decide);omega
 split at h
 .rename_i hk;simp at h;have:=hE.next a (by rw[hk];decide);omega
 split at h
 .rename_i hk;exact ak6 hE a (by rw[hk.1];decide) h
 cases h
theorem sA{E}{k}(h:∀i x j,i<(WS ts)->E i=.ok (x,j)->j<WS ts):∀g x j {b:Ex} {a:Nat},j<(WS ts)->jW ts E k g x j=.ok (b,a)->a<WS ts
 |0,x,j,b,a,d,c=>by
  simp[jW,ry,vK]at c;omega
 |g+1,x,j,b,a,d,c=>by
  rw[jW]at c;split at c
  .simp at c;omega
  rename_i o;let⟨y,m,e,f⟩:=A8 c;exact sA h g _ _ (h _ _ _ (hE.next d<|rP _ _ o) e) f
theorem xO:∀f k d i {x:Ex} {j:Nat},i<(WS ts)->dF ts f k d i=.ok (x,j)->j<WS ts
 |0,_,_,_,_,_,_,h=>VI
 |f+1,k,d,i,x,j,a,h=>by
  rw[dF]at h;split at h
  .exact afQ hE (λi x j a h=>xO f _ _ i a h) (λi x j a h=>xO f _ _ i a h) a h
  let⟨y,m,b,c⟩:=A8 h;exact sA hE (λi x j a h=>xO f _ _ i a h) _ _ _ (xO f _ _ _ a b) c
theorem lnT{i:Nat}(h:(cG ts i).2.2.1=0):∃j:Nat,(cG ts i).2.1=j/\i<j/\j<WS ts:=by
 unfold cG at h⊢;split at h
 .rename_i c;rw[E c];let b:i<WS ts:=by have:=c.2.1;omega
  rw[aV]at h⊢;unfold ug at h⊢;cases a:dF ts _ 0 0 i with
  |error e=>
   rw[a]at h;exact absurd h<|pW _ _ _ _ a
  |ok q=>
   let⟨x,j⟩:=q;exact⟨j,I,mr _ _ _ _ a,xO hE _ _ _ _ b a⟩
 cases h
theorem tS{s s'}(h:s.fc=0)(i:s.i<WS ts)(hk:(tk ts s.i).k≠5)(a:On0 ts (eE s) s'):mu ts s'<mu ts s:=by
 have:=a.mu;have:mu ts s=(WS ts)-s.i:=by unfold mu;rw[E h]
 have:mu ts (eE s)=(WS ts)-(s.i+1):=by unfold mu eE;rw[E h]
 omega
theorem CA {s s':Sx} (h0:s.fc=0) (hi:s.i<ts.length) (h:s'.fc≠0):mu ts s'<mu ts s:=by
 unfold mu;rw[aP h,aW h0];omega
theorem ca s:On ts s (qG ts s).2:=by
 unfold qG;by_cases h:s.fc≠0
 .rw[E h];exact Wo _ _
 rw[Q h];by_cases h1:(cG ts s.i).2.2.1≠0
 .rw[E h1];exact⟨⟨id,λa=>absurd a h1⟩,I⟩
 rw[Q h1];let⟨j,e,l,b⟩:=lnT hE (i:=s.i) Q1;rw[e,aV];exact⟨⟨λ_=>b,λa=>⟨a,Nat.le_of_lt l⟩⟩,I⟩
omit hE in
theorem Kh (s:Sx):On ts s (Cy ts s):=by
 unfold Cy;split
 .have h:=tQ (ts:=ts) (s:=s) 2;exact⟨⟨h.lt,h.le⟩,h.d⟩
 exact⟨⟨id,λh=>⟨h,bc _⟩⟩,rfl⟩
omit hE in
theorem Ki (s:Sx):On ts s (wa ts s):=by
 unfold wa;split
 .have h:=tQ (ts:=ts) (s:=s) 2;exact⟨⟨h.lt,h.le⟩,h.d⟩
 exact⟨⟨id,λh=>⟨h,bc _⟩⟩,rfl⟩
omit hE in
theorem Kj (s:Sx):On ts s (Hx ts s):=by
 unfold Hx;split
 .have h:=tQ (ts:=ts) (s:=s) 2;exact⟨⟨h.lt,h.le⟩,h.d⟩
 exact⟨⟨id,λh=>⟨h,bc _⟩⟩,rfl⟩
omit hE in
theorem afR (s:Sx):On ts s (Hy ts s):=by
 unfold Hy;split
 .have h:=tQ (ts:=ts) (s:=s) 2;exact⟨⟨h.lt,h.le⟩,h.d⟩
 exact⟨⟨id,λh=>⟨h,bc _⟩⟩,rfl⟩
omit hE in
theorem Kk (s:Sx):(Cy ts s).i=s.i:=by
 unfold Cy;split
 .exact Kg 2
 rfl
omit hE in
theorem Kl (s:Sx):(wa ts s).i=s.i:=by
 unfold wa;split
 .exact Kg 2
 rfl
theorem S1 s k n a:On ts s (QB ts s k n a).2:=by
 unfold QB;split
 .exact jY hE _
 exact((jY hE _).trans<|ca hE _).trans<|jY hE _
theorem Z2 s u (a:On ts s u) (i:u.i=s.i) (h:u.fc=0) (hk:(tk ts s.i).k≠5):On ts s (eE u):=a.trans (oM hE h<|by rw[i];exact hk)
theorem ak7 s:On ts s (uT ts s).2:=by
 unfold uT;split
 .exact uX
 rename_i h;split
 .exact Kh s
 rename_i a;exact(Z2 hE s _ (Kh s) (Kk s) (by simpa using a) (dX h).2).trans<|(tR hE).trans<|S1 hE _ _ _ _
theorem ak8{s}(a:s.fc=0)(h:s.i<WS ts):mu ts (uT ts s).2<mu ts s:=by
 unfold uT;split
 .exact CA hE a h uW
 rename_i b;split
 .rename_i h1;exact CA hE a h h1
 rename_i h1;let e:=Kk (ts:=ts) s;exact cD (tS hE Q1 (by rw[e];exact h) (by rw[e];exact(dX b).2) ((tR hE).trans<|S1 hE _ _ _ _).toOn0) (Kh (ts:=ts) s).mu
theorem yk:∀f a s,On ts s (sI ts f a s).2
 |0,_,s=>Wo _ _
 |f+1,a,s=>by
  rw[sI];split
  .exact Wo _ _
  split
  .rename_i h;exact oM hE (dX h).1 (dX h).2
  exact(ak7 hE s).trans<|yk f _ _
theorem xP s:On ts s (lO ts s).2:=(jY hE _).trans<|yk hE _ _ _
theorem S4:∀f x a s,On ts s (uU ts f x a s).2
 |0,_,_,s=>Wo _ _
 |f+1,x,a,s=>by
  rw[uU];split
  .exact Wo _ _
  rename_i h;exact((oM hE (dX h).1 (dX h).2).trans<|tR hE).trans<|S4 f _ _ _
theorem Dh m s:On ts s (FU ts m s).2:=(S4 hE ..).trans<|jY hE _
theorem Nn m s:On ts s (Dx ts m s).2:=by
 unfold Dx;split
 .exact Dh hE _ _
 exact(xP hE _).trans<|Dh hE _ _
theorem FV m s:On ts s (sJ ts m s).2:=by
 unfold sJ;split
 .exact Nn hE _ _
 rename_i h;exact(((oM hE (dX h).1 (dX h).2).trans<|ca hE _).trans<|jY hE _).trans<|Nn hE _ _
theorem Np(k:Int)(s u:Sx) m:On ts u (if k=1 then sJ ts {m with ev:=(lh ts u).1} (lh ts u).2 else if k=3 then sJ ts {m with wt:=(jb ts u 3).1.n} (jb ts u 3).2 else sJ ts m u).2:=by
 split
 .exact(tR hE).trans (FV hE _ _)
 split
 .exact(Bc hE Z).trans (FV hE _ _)
 exact FV hE _ _
theorem afS k s (hk:(tk ts s.i).k≠5):On ts s (rl ts k s).2:=by
 unfold rl;split
 .exact Ki s
 rename_i h1;exact(Z2 hE s _ (Ki s) (Kl s) Q1 hk).trans<|Np hE k s _ _
theorem afT k {s} (a:s.fc=0) (h:s.i<WS ts) (hk:(tk ts s.i).k≠5):mu ts (rl ts k s).2<mu ts s:=by
 unfold rl;split
 .rename_i h1;exact CA hE a h h1
 rename_i h1;let e:=Kl (ts:=ts) s;exact cD (tS hE Q1 (by rw[e];exact h) (by rw[e];exact hk) (Np hE k s _ _).toOn0) (Ki (ts:=ts) s).mu
theorem Ii n h s:On ts s (eJ ts n h s).2.2.2:=by
 unfold eJ;split
 .rename_i hw;exact afS hE _ s (dX hw).2
 split
 .exact Wo _ _
 .rename_i hw;let hw:cY ts s [fU,jz,jL]≠0:=TU
  split
  .exact uX
  exact((oM hE (dX hw).1 (dX hw).2).trans<|tR hE).trans (jY hE _)
 .rename_i hw;let hw:cY ts s [fU,jz,jL]≠0:=TU
  split
  .exact uX
  exact(oM hE (dX hw).1 (dX hw).2).trans (xP hE _)
 rename_i h a b;let hw:=h;split
 .exact uX
 exact(oM hE (dX hw).1 (dX hw).2).trans<|xP hE _
theorem ajI n h {s} (a:s.fc=0) (i:s.i<WS ts) (t:(eJ ts n h s).1=aE):mu ts (eJ ts n h s).2.2.2<mu ts s:=by
 unfold eJ at t⊢;split
 .rename_i hw;exact afT hE _ a i (dX hw).2
 rename_i h;rw[Q h]at t;split
 .rename_i hw;rw[hw]at t;cases t
 .rename_i hw;let hw:cY ts s [fU,jz,jL]≠0:=TU
  split
  .exact CA hE a i uW
  exact tS hE a i (dX hw).2 ((tR hE).trans<|jY hE _).toOn0
 .rename_i hw;let hw:cY ts s [fU,jz,jL]≠0:=TU
  split
  .exact CA hE a i uW
  exact tS hE a i (dX hw).2 (xP hE _).toOn0
 rename_i b _ _;split
 .exact CA hE a i uW
 exact tS hE a i (dX b).2 (xP hE _).toOn0
theorem Ag:∀f n h s,On ts s (iy ts f n h s).2
 |0,_,_,s=>Wo _ _
 |f+1,n,h,s=>by
  rw[iy];split
  .exact Wo _ _
  split
  .exact(Ii hE n h s).trans (Ag f ..)
  exact Ii hE n h s
theorem T1{N} d (h:∀k s,s.d=d->s.fc=0->On ts s (N k s).2):∀f a s,s.d=d->On ts s (wH ts N f a s).2
 |0,_,s,_=>Wo _ _
 |f+1,a,s,hd=>by
  rw[wH];split
  .exact Wo _ _
  rename_i b;let c:=(oM hE (dX b).1 (dX b).2).trans<|h (cY ts s sK) _ hd (dX b).1;exact c.trans<|T1 d h f _ _<|c.d.trans hd
theorem afU{N}{n}{s}(hd:ri s.d)(j:∀k u,u.d=Cx s.d->u.fc=0->On ts u (N k u).2):On ts s (uV ts N n s).2:=by
 let g:=Ag hE (WS ts+1) n ⟨aL,aL,aL⟩ {s with d:=Cx s.d};let h:=g.trans<|T1 hE _ j (WS ts+1) [] _ g.d;let f:=jY hE [125] (s:={(wH ts N (WS ts+1) [] (iy ts (WS ts+1) n ⟨aL,aL,aL⟩ {s with d:=Cx s.d}).2).2 with d:=P7 (wH ts N (WS ts+1) [] (iy ts (WS ts+1) n ⟨aL,aL,aL⟩ {s with d:=Cx s.d}).2).2.d});refine⟨⟨λi=>f.lt<|h.lt i,λe=>?_⟩,f.d.trans ?_⟩
 .obtain⟨a,b⟩:=f.le e;let⟨c,d⟩:=h.le a;exact⟨c,bC d b⟩
 rw[h.d];unfold P7 Cx;have:=hd.1;have:=hd.2;simp[IntKind.wrap_i64];omega
omit hE in
theorem afV (s:Sx):On ts s (tP ts s):=by
 unfold tP;split
 .split
  .exact(Kj s).trans (tQ _)
  exact Kj s
 exact Wo _ _
theorem FW k s:On ts s (gy ts k s).2:=(afV s).trans<|Bc hE Z
omit hE in
theorem afW {k:Int} {s:Sx} (h:(gy ts k s).2.fc=0):s.d≠0:=λe=>by
 revert h;unfold gy jb;dsimp only;by_cases h1:(tk ts s.i).k=1
 .have hf:(tP ts s).fc≠0:=by
   unfold tP;rw[E h1,E ((Kj s).d.trans e)];exact SY Z
  rw[E (.inl hf)];exact uW
 have e2:tP ts s=s:=by unfold tP;rw[Q h1]
 rw[e2,E (.inr h1)];exact uW
theorem S7:∀(f:Nat) (k:Int) (s:Sx),ri s.d->On ts s (mZ ts f k s).2
 |0,_,s,_=>Wo _ _
 |f+1,k,s,hd=>by
  rw[mZ];let h:=FW hE k s;split
  .exact((h.trans<|jY hE _).trans<|tR hE).trans (jY hE _)
  let a:=h.trans<|jY hE [123];refine a.trans (afU hE (by rw[a.d];exact hd) λk b u _=>S7 f k b ?_);rw[u];exact YM _
theorem P2(s:Sx):On ts s (Cz ts s).2:=by
 unfold Cz;dsimp only;let h:On ts s (if(tk ts s.i).k=1 then Hy ts s else s):=by
  split
  .exact afR s
  exact Wo _ _
 let a:∀u:Sx,On ts u (if cY ts u [[45]]=0 then u else eE u):=λu=>by
  split
  .exact Wo _ _
  rename_i b;exact oM hE (dX b).1 (dX b).2
 exact((((h.trans<|Bc hE Z).trans<|jY hE _).trans<|a _).trans<|Bc hE Z).trans<|jY hE _
end
def Mk(w:av)(F:h)(e:TypeId)(size:Nat)(s:Sl):Prop:=s.n=0∨∃g c,s.a=aM ⟨g,0,VM⟩/\F g/\aF w g e c/\s.n*size<=WS c
def lq{a:Type}(t:C)(r:Rp a)(size:Nat)(e:TypeId)(w:av)(F:h)(s:Sl)(x:J a):Prop:=aA r size w F s x/\(t=aE->Mk w F e size s)
section
variable{α:Type}{t:C}{r q:Rp α}{size:Nat}{e:TypeId}{w w':av}{F G:h}{s:Sl}{xs:J α}{B:Nat}
def Mk.keep(h:Mk w F e size s)(hk:∀k,F k->k<w.heap.size->w'.heap[k]? =w.heap[k]?):Mk w' F e size s:=by
 rcases h with h|⟨g,c,d,a,b,f⟩
 .exact .inl h
 exact .inr ⟨g,c,d,a,(hk g a b.lt).trans b,f⟩
def Mk.mono(h:Mk w F e size s)(hk:∀k,F k->k<w.heap.size->G k):Mk w G e size s:=by
 rcases h with h|⟨g,c,b,d,a,f⟩
 .exact .inl h
 exact .inr ⟨g,c,b,hk g d a.lt,a,f⟩
def lq.keep(a:r.Ok)(h:lq t r size e w F s xs)(b:0<size)(hk:∀k,F k->k<w.heap.size->w'.heap[k]? =w.heap[k]?):lq t r size e w' F s xs:=⟨h.1.keep a b hk,λx=>(h.2 x).keep hk⟩
def lq.inHeap(c:r.Ok)(h:lq t r size e w F s xs)(d:0<size):lq t r size e w (λk=>F k/\k<w.heap.size) s xs:=⟨h.1.inHeap c d,λx=>(h.2 x).mono λk a b=>⟨a,b⟩⟩
theorem lq.mono(a:r.Ok)(h:lq t r size e w F s xs)(hk:∀k,F k->G k):lq t r size e w G s xs:=⟨h.1.mono a hk,λx=>(h.2 x).mono R⟩
def lq.nil t (r:Rp α) size e w F:lq t r size e w F Sl.nil []:=⟨WB ..,λ_=>.inl I⟩
def Wc:=@lq.nil
def lq.imp(h:lq t r size e w F s xs)(i:∀x c,x∈xs->r w F x c->q w F x c):lq t q size e w F s xs:=⟨Na h.1 i,h.2⟩
theorem lq.off(h:lq t r size e w F s xs)(i:∀x c,x∈xs->r w F x c->q w F x c):lq aL q size e w F s xs:=⟨Na h.1 i,R⟩
theorem _root_.Go.Kt.Own.sl(a:r.Ok)(h:Own r size e B w F s xs)(l:∀k,B<=k->F k):lq aE r size e w F s xs:=by
 refine⟨(h.slice a).mono a R,λ_=>?_⟩;rcases h with⟨rfl,rfl⟩|⟨g,c,tail,b,d,f,m,i,n,o,j⟩
 .exact .inl I
 exact .inr ⟨g,_,b,l g d,f,by rw[aU,pJ.OX j,<-i];omega⟩
end
def QD(t:C):Nat->Rp Ex
 |0=>λ_ _ _ _=>False
 |d+1=>λw F x c=>∃sl,c=qS x.k x.n x.s x.op sl x.a/\lq t (QD t d) 6 74 w F sl x.dP
def mz t:∀d,(QD t d).Ok
 |0=>⟨λh _=>h.elim,λh=>h.elim,λh _=>h.elim,λh=>h.elim⟩
 |d+1=>⟨λ⟨sl,h,a⟩ hk=>⟨sl,h,lq.keep (mz t d) a Z hk⟩,λ⟨sl,h,a⟩=>⟨sl,h,lq.inHeap (mz t d) a Z⟩,λ⟨sl,h,a⟩ hk=>⟨sl,h,lq.mono (mz t d) a hk⟩,λ⟨sl,h,a⟩=>by
  subst h;intro v b;simp at b;rcases b with rfl|rfl|rfl|rfl|rfl|rfl<;>rfl⟩
def eq1{t}{w}{F}:∀{d:Nat} {x:Ex} {c:aI},QD t d w F x c->QD t (d+1) w F x c
 |0,_,_,h=>h.elim
 |d+1,x,c,⟨sl,a,b⟩=>⟨sl,a,b.imp λx c _ h=>eq1 h⟩
def QE{t}{w}{F}{d e}{x}{cs}(a:d<=e)(h:QD t d w F x cs):QD t e w F x cs:=by
 induction e with
 |zero=>simp_all
 |succ e i=>
  by_cases b:d=e+1
  .subst b;exact h
  exact eq1<|i X
def FX{t}{w}{F}:∀{d:Nat} {x:Ex} {c:aI},QD t d w F x c->yJ d w F x c
 |0,_,_,h=>h.elim
 |d+1,x,c,⟨sl,a,b⟩=>⟨sl,a,Na b.1 λx c _ h=>FX h⟩
def mvv{w}{F}:∀{d:Nat} {x:Ex} {c:aI},yJ d w F x c->QD aL d w F x c
 |0,_,_,h=>h.elim
 |d+1,x,c,⟨sl,a,b⟩=>⟨sl,a,Na b λx c _ h=>mvv h,R⟩
def RXN.xg{w:av}{x}{c}{N}{l h}(b:RXN w N l h x c):∃d,QD aE d w (λk=>l<=k/\k<h) x c:=by
 induction b with
 |leaf l h k n s op a=>exact⟨1,Sl.nil,I,Wc ..⟩
 |one l A g h k n s op a x c r f u m z o i=>
  let⟨d,i⟩:=i;let⟨sl,q,_⟩:=r.cells;refine⟨d+1,_,I,⟨I,bc _,R,(by decide:(1:Nat)<=9223372036854775807),λp y j=>?_⟩,λ_=>.inr ⟨g,c,I,⟨f,m⟩,o,by rw[q];exact bc _⟩⟩;have e:p=0:=by
   have:=(aZ.1 j).1;simp[Ex.dP,bI]at this;omega
  subst e;simp[Ex.dP,cX,bN]at j;subst j;exact⟨_,c,I,⟨f,m⟩,by rw[q];rfl,by rw[yw];exact o.cells 0 c λp v t=>by rw[bS];exact t,(mz aE d).mono i λk hk=>⟨hk.1,X⟩⟩
 |two l H J K g h k n s op a x y c d r B t C D E F u G f L P=>
  let⟨p,L⟩:=L;let⟨q,P⟩:=P;let⟨sl,z,_⟩:=r.cells;let⟨A,i,_⟩:=t.cells;let m:WS c=6:=by rw[z];rfl
  let o:WS d=6:=by rw[i];rfl
  refine⟨max p q+1,_,I,⟨I,bc _,R,(by decide:(2:Nat)<=9223372036854775807),λe y j=>?_⟩,λ_=>.inr ⟨g,c++d,I,⟨X,u⟩,f,by rw[aU,m,o];exact bc _⟩⟩;rcases e with _|_|e
  .simp[Ex.dP,cX,bN]at j;subst j;exact⟨_,c,I,R,m,by rw[yw];exact f.cells 0 c λe v a=>R,(mz aE _).mono (QE X L) X⟩
  .simp[Ex.dP,fP,cX,bN]at j;subst j;exact⟨_,d,I,R,o,by
    exact f.cells 6 d λe v a=>R,(mz aE _).mono (QE X P) X⟩
  simp[Ex.dP]at j
def rE(t:C):Rp Ex:=λw F x c=>∃d,QD t d w F x c
def jI t:(rE t).Ok:=⟨λ⟨d,h⟩ hk=>⟨d,(mz t d).keep h hk⟩,λ⟨d,h⟩=>⟨d,(mz t d).inHeap h⟩,λ⟨d,h⟩ hk=>⟨d,(mz t d).mono h hk⟩,λ⟨d,h⟩=>(mz t d).one h⟩
def fK{t}{w}{F}{x}{cs}(h:rE t w F x cs):∃sl,cs=qS x.k x.n x.s x.op sl x.a:=by
 let⟨d,h⟩:=h;cases d with
 |zero=>exact h.elim
 |succ d=>let⟨sl,h,_⟩:=h;exact⟨sl,h⟩
def S5{t}{w}{F}{x}{cs}(h:rE t w F x cs):rE aL w F x cs:=by
 let⟨d,h⟩:=h;exact⟨d,mvv<|FX h⟩
def ZI t w F:rE t w F Ad (qS 0 0 [] 0 Sl.nil 0):=⟨1,Sl.nil,I,Wc ..⟩
def TC(k:Int)(n:L)(x:aI)(a:Int):aI:=O U k::ab (T n)::(x++[O U a])
def wI(t:C):Rp Ac:=λw F x s=>∃c,s=TC x.k x.n c x.a/\rE t w F x.x c
def dU t:(wI t).Ok:=⟨λ⟨c,h,a⟩ hk=>⟨c,h,(jI t).keep a hk⟩,λ⟨c,h,a⟩=>⟨c,h,(jI t).inHeap a⟩,λ⟨c,h,a⟩ hk=>⟨c,h,(jI t).mono a hk⟩,λ⟨c,h,a⟩=>by
 subst h;intro v b;simp[TC,ba,cZ,cy,fQ]at b;rcases b with rfl|rfl|d|rfl
 .rfl
 .rfl
 .exact(jI t).one a v d
 rfl⟩
def Z5(k:Int)(ev:L)(wt:Int)(d:C)(g:aI)(u t:Sl)(a:Int):aI:=O U k::ab (T ev)::O U wt::aj d::(g++[u.v,t.v,O U a])
def Nq(t:C):Rp Mv:=λw F x c=>∃g u a,c=Z5 x.k x.ev x.wt x.gd g u a x.a/\rE t w F x.g g/\lq t (wI t) 9 201 w F u x.acts/\lq t oK 1 9 w F a x.tg
def nX t:(Nq t).Ok:=⟨λ⟨c,u,g,h,a,b,d⟩ hk=>⟨c,u,g,h,(jI t).keep a hk,b.keep (dU t) Z hk,d.keep dI Z hk⟩,
 λ⟨c,u,g,h,a,b,d⟩=>⟨c,u,g,h,(jI t).inHeap a,b.inHeap (dU t) Z,d.inHeap dI Z⟩,
 λ⟨c,u,g,h,a,b,d⟩ hk=>⟨c,u,g,h,(jI t).mono a hk,b.mono (dU t) hk,d.mono dI hk⟩,
 λ⟨c,u,g,h,a,b,d⟩=>by
  subst h;intro v c;simp[Z5,ba,cZ,cy,fQ]at c;rcases c with rfl|rfl|rfl|rfl|e|rfl|rfl|rfl
  .rfl
  .rfl
  .rfl
  .rfl
  .exact(jI t).one a v e
  .rfl
  .rfl
  rfl⟩
def Wd:Rp Vr:=λ_ _ x c=>c=[ab (T x.n),O U x.v,O U x.a]
def fI:Wd.Ok:=⟨λh _=>h,λh=>h,λh _=>h,λh=>by
 subst h;intro v a;simp at a;rcases a with rfl|rfl|rfl<;>rfl⟩
abbrev uY(k:Int)(n ini dft:L)(e l mv kids:Sl)(a:Int):aI:=[O U k,ab<|T n,ab<|T ini,ab<|T dft,e.v,l.v,mv.v,kids.v,O U a]
def Km(t:C)(w:av)(F:h)(x:Nb)(e l mv:Sl):Prop:=lq t (wI t) 9 201 w F e x.en/\lq t (wI t) 9 201 w F l x.lv/\lq t (Nq t) 13 77 w F mv x.mv
def pq(t:C):Nat->Rp Nd
 |0=>λ_ _ _ _=>False
 |d+1=>λw F x c=>∃e l mv kids,c=uY x.b.k x.b.nm x.b.ini x.b.dft e l mv kids x.b.a/\Km t w F x.b e l mv/\lq t (pq t d) 9 27 w F kids x.kids
section
variable{t:C}{w w':av}{F G:h}{x:Nb}{en lv mv:Sl}
def Km.keep(h:Km t w F x en lv mv)(hk:∀k,F k->k<w.heap.size->w'.heap[k]? =w.heap[k]?):Km t w' F x en lv mv:=⟨h.1.keep (dU t) Z hk,h.2.1.keep (dU t) Z hk,h.2.2.keep (nX t) Z hk⟩
def Km.inHeap(h:Km t w F x en lv mv):Km t w (λk=>F k/\k<w.heap.size) x en lv mv:=⟨h.1.inHeap (dU t) Z,h.2.1.inHeap (dU t) Z,h.2.2.inHeap (nX t) Z⟩
def Km.mono(h:Km t w F x en lv mv)(hk:∀k,F k->G k):Km t w G x en lv mv:=⟨h.1.mono (dU t) hk,h.2.1.mono (dU t) hk,h.2.2.mono (nX t) hk⟩
end
def cq t:∀d,(pq t d).Ok
 |0=>⟨λh _=>h.elim,λh=>h.elim,λh _=>h.elim,λh=>h.elim⟩
 |d+1=>⟨λ⟨e,l,mv,kids,h,a,b⟩ hk=>⟨e,l,mv,kids,h,a.keep hk,lq.keep (cq t d) b Z hk⟩,
  λ⟨e,l,mv,kids,h,a,b⟩=>⟨e,l,mv,kids,h,a.inHeap,lq.inHeap (cq t d) b Z⟩,
  λ⟨e,l,mv,kids,h,a,b⟩ hk=>⟨e,l,mv,kids,h,a.mono hk,lq.mono (cq t d) b hk⟩,λ⟨e,l,mv,kids,h,a,b⟩=>by
  subst h;intro v c;simp at c;rcases c with rfl|rfl|rfl|rfl|rfl|rfl|rfl|rfl|rfl<;>rfl⟩
def Z7{t}{w}{F}:∀{d:Nat} {x:Nd} {c:aI},pq t d w F x c->pq t (d+1) w F x c
 |0,_,_,h=>h.elim
 |d+1,x,c,⟨e,l,mv,kids,a,b,f⟩=>⟨e,l,mv,kids,a,b,f.imp λx c _ h=>Z7 h⟩
def ak9{t}{w}{F}{d e}{x}{cs}(a:d<=e)(h:pq t d w F x cs):pq t e w F x cs:=by
 induction e with
 |zero=>simp_all
 |succ e i=>
  by_cases b:d=e+1
  .subst b;exact h
  exact Z7<|i X
def Kn{t}{w}{F}{x}{cs}(h:wI t w F x cs):wI aL w F x cs:=by
 let⟨c,a,b⟩:=h;exact⟨c,a,S5 b⟩
def afX{t}{w}{F}{x}{cs}(h:Nq t w F x cs):Nq aL w F x cs:=by
 let⟨c,u,g,a,b,d,e⟩:=h;exact⟨c,u,g,a,S5 b,d.off λ_ _ _ h=>Kn h,e.off λ_ _ _ h=>h⟩
def Km.off{t}{w}{F}{x}{en lv mv}(h:Km t w F x en lv mv):Km aL w F x en lv mv:=⟨h.1.off λ_ _ _ h=>Kn h,h.2.1.off λ_ _ _ h=>Kn h,h.2.2.off λ_ _ _ h=>afX h⟩
def Yg{t}{w}{F}:∀{d:Nat} {x:Nd} {c:aI},pq t d w F x c->pq aL d w F x c
 |0,_,_,h=>h.elim
 |d+1,x,c,⟨e,l,mv,kids,a,b,f⟩=>⟨e,l,mv,kids,a,b.off,f.off λx c _ h=>Yg h⟩
structure ChR (t:Bool) (d:Nat) (w:av) (F:h) (c:Ch) (vs:Sl) (cs:aI):Prop where
 vars:lq t Wd 3 115 w F vs c.vars
 root:pq t d w F c.root cs
abbrev Fr(B:Nat):h:=λk=>B<=k
section
variable{α:Type}{r:Rp α}{size:Nat}{e:TypeId}{w w':av}{s:Sl}{xs:J α}{B:Nat}
theorem _root_.Go.Kt.Own.stay(h:r.Ok)(a:Own r size e B w (Fr B) s xs){bs}(O:ay bs w w')(c:∀x∈bs,x<B∨w.heap.size<=x):Own r size e B w' (Fr B) s xs:=by
 refine((a.inHeap h).keep h λk hk b=>O.block k b λm=>?_).mono h X
 grind
theorem _root_.Go.Kt.Own.new(h:Own r size e B w (Fr B) s xs){k}(hk:w.heap.size<=k):s.a≠aM ⟨k,0,VM⟩:=λe=>by
 have:=(h.blk e).2
 grind
end
mutual
def Ij:Ex->Nat
 |.mk _ _ _ _ l _=>WZ l+1
def WZ:J Ex->Nat
 |[]=>0
 |x::l=>max (Ij x) (WZ l)
end
mutual
def Hc:Ex->Nat
 |.mk _ _ s _ l _=>We l+(WS s+1)
def We:J Ex->Nat
 |[]=>0
 |x::l=>Hc x+We l
end
def Ko x:Ij x=WZ x.dP+1:=by cases x;rw[Ij];rfl
def Kq x:Hc x=We x.dP+(WS x.s+1):=by cases x;rw[Hc];rfl
def Eu{y}:∀{l:J Ex},y∈l->Ij y<=WZ l
 |[],h=>YI
 |x::l,h=>by
  rw[WZ];rcases ba.1 h with rfl|h
  .omega
  exact bC (Eu h) X
def Kr{y}:∀{l:J Ex},y∈l->Hc y<=We l
 |[],h=>YI
 |x::l,h=>by
  rw[We];rcases ba.1 h with rfl|h
  .omega
  have:=Kr h;omega
def x8{d}:∀{l:J Ex},(∀y∈l,Ij y<=d)->WZ l<=d
 |[],_=>by rw[WZ];omega
 |x::l,h=>by
  exact Nat.max_le.2 ⟨h x N,x8 λy a=>h y<|by simp[a]⟩
def agn x:1<=Ij x:=by rw[Ko];omega
def QF{w}{F}:∀{d:Nat} {x:Ex} {c:aI},yJ d w F x c->Ij x<=d
 |0,_,_,h=>h.elim
 |d+1,x,c,⟨sl,f,a⟩=>by
  rw[Ko];exact XN<|x8 λy b=>let⟨e,j⟩:=fk b;let⟨_,c,_,_,_,_,h⟩:=a.at_ e y j;QF h
def mrg{f g}:∀{l:J Ex},(∀y∈l,f y=g y)->lw f l=lw g l
 |[],_=>rfl
 |x::l,h=>by rw[lw,lw,h x N,mrg λy a=>h y<|by simp[a]]
def zSl:∀d e x,Ij x<=d->Ij x<=e->di d x=di e x
 |0,_,x,h,_=>ME
 |_,0,x,_,h=>ME
 |d+1,e+1,x,a,k=>by
  rw[Ko]at a k;rw[di,di,mrg λy h=>zSl d e y (by have:=Eu h;omega)<|by have:=Eu h;omega]
def S9:∀d e x wr l,Ij x<=d->Ij x<=e->sE d x wr l=sE e x wr l
 |0,_,x,_,_,h,_=>ME
 |_,0,x,_,_,_,h=>ME
 |d+1,e+1,x,wr,l,b,k=>by
  rw[Ko]at b k;let m:∀y∈x.dP,Ij y<=d/\Ij y<=e:=λy h=>by have:=Eu h;omega
  rw[sE,sE];cases a:x.dP with
  |nil=>rfl
  |cons y c=>
   cases c with
   |nil=>
    let h:=m y (by rw[a];simp);dsimp only;rw[S9 d e y _ _ h.1 h.2]
   |cons z c=>
    cases c with
    |nil=>
     let h:=m y (by rw[a];simp);let f:=m z (by rw[a];simp);dsimp only;rw[S9 d e y _ _ h.1 h.2,S9 d e z _ _ f.1 f.2]
    |cons _ _=>rfl
def ofV:∀d x,uQ d x<=Hc x
 |0,x=>bE _
 |d+1,x=>by
  rw[uQ,Kq];have:∀l,zl _ l<=We l:=λl=>by
   induction l with
   |nil=>exact bE _
   |cons y l i=>rw[zl,We];exact pj (ofV d y) i
  have:=this x.dP;omega
def QG:∀d x,Hc x<4611686018427387903->zJ d x
 |0,x,_=>trivial
 |d+1,x,h=>by
  rw[Kq]at h;exact⟨X,λy a=>QG d y<|by have:=Kr a;omega⟩
def Wf(x:Ex):=∀d,mw d x
def zM(x:Ex):L:=sH (Ij x) x
def v7{d}{x}(h:Ij x<=d):sH d x=zM x:=by
 unfold zM sH;rw[zSl d (Ij x) x h X,S9 d (Ij x) x aL [] h X]
def Ns{d}{x}(h:sH d x≠[]):di d x=aE/\sH d x=sE d x aL []/\(iG<|sE d x aL []).2.1=0:=by
 unfold sH at h⊢;by_cases s:di d x=aE
 .rw[E s]at h⊢;by_cases hr:(iG<|sE d x aL []).2.1≠0
  .rw[E hr]at h;exact absurd I h
  rw[Q hr];exact⟨s,I,Uy⟩
 rw[Q s]at h;exact absurd I h
def afY{w}{F}{x}{cs}(b:rE aL w F x cs)(n:Wf x)(s:Hc x<=1759218604441)(E:Er w)(a:Tb w):
  az aq 262 #[ah cs.toArray] w λe c=>e=ak (ab<|T<|zM x)/\ay [] w c:=by
 let⟨d,h⟩:=b;let h:=FX h;rw[<-v7 (QF h)];exact ak4 h (QG d x X) (n d) E a (by have:=ofV d x;omega)
def uZ(x:Ex):C:=(((x.k==0&&x.n==0)&&JW (x.s=[]))&&x.op==0)&&((WS x.dP:Int)==0)
def wN(x:Ex):C:=JW<|zM x≠[]
def jE(a:Ac):C:=JW (1<=a.k/\a.k<=3)&&eu a.n&&(if a.k=2 then uZ a.x else wN a.x)
def nq(m:Mv):C:=
 JW (1<=m.k/\m.k<=3)&&(if m.k=1 then eu m.ev else JW (m.ev=[]))&&(if m.gd then wN m.g else uZ m.g)&&m.acts.all jE&&m.tg.all eu&&JW (m.wt=0∨m.k=3/\0<m.wt)
def fh(k:Int):C:=JW<|k=3∨k=4
def qH(b:Nb)(kids:Nat):C:=
 eu b.nm&&(if fh b.k then eu b.dft&&JW (b.ini=[]/\b.en=[]/\b.lv=[]/\WS b.mv=0/\kids=0)
  else JW ((b.k=1∨b.k=2)/\b.dft=[])&&(JW (b.ini=[])||eu b.ini)&&b.en.all jE&&b.lv.all jE&&b.mv.all nq)
mutual
def jZ:Nat->Nd->C
 |d,.mk b l=>JW (d<12)&&qH b (WS l)&&iR (d+1) l
def iR:Nat->J Nd->C
 |_,[]=>aE
 |d,x::l=>jZ d x&&iR d l
end
def DW(b:Nb):Nat:=WS b.en+WS b.lv+(b.mv.map λm=>WS m.acts).sum
mutual
def iI:Nd->Nat
 |.mk _ l=>dY l+1
def dY:J Nd->Nat
 |[]=>0
 |x::l=>iI x+dY l
end
mutual
def DX:Nd->Nat
 |.mk b l=>WS b.mv+pu l
def pu:J Nd->Nat
 |[]=>0
 |x::l=>DX x+pu l
end
mutual
def Bd:Nd->Nat
 |.mk b l=>DW b+oy l
def oy:J Nd->Nat
 |[]=>0
 |x::l=>Bd x+oy l
end
def rH(c:Ch):C:=
 (c.vars.all λv=>eu v.n&&JW (v.v≠ -9223372036854775808))&&jZ 0 c.root&&JW (c.root.b.k=1/\WS c.vars<=16/\iI c.root<=64/\DX c.root<=200/\Bd c.root<=400)
def Ev(a:Ac):L:=
 if a.k=2 then my++32::(a.n++[59])else(if a.k=1 then uR else ol)++32::(a.n++32::61::32::(zM a.x++[59]))
def Be:J Ac->L
 |[]=>[]
 |a::l=>32::(Ev a++Be l)
def Cj(l:J Ac):L:=123::(Be l++[32,125])
def Ik:J (L)->L
 |[]=>[]
 |s::l=>44::32::(s++Ik l)
def VN(m:Mv):L:=if m.k=1 then Et++32::m.ev else if m.k=3 then jy++32::Lib.itoa m.wt else iQ
def XS(m:Mv):L:=if m.gd then 32::91::(zM m.g++[93])else[]
def Hd(m:Mv):L:=
 VN m++(XS m++((if m.acts=[]then[]else 32::Cj m.acts)++((match m.tg with
  |[]=>[]
  |s::l=>32::45::62::32::(s++Ik l))++[59])))
def kW(k:Int):L:=if k=1 then FT else if k=2 then uS else if k=3 then xL else Ni
abbrev Ln:=Nat×L
def zo(d:Nat)(b:Nb):J Ln:=if b.ini=[]then[]else[(d,fU++32::(b.ini++[59]))]
def Tc(d:Nat)(b:Nb):J Ln:=if b.en=[]then[]else[(d,jz++32::Cj b.en)]
def Wg(d:Nat)(b:Nb):J Ln:=if b.lv=[]then[]else[(d,jL++32::Cj b.lv)]
def N8(d:Nat)(b:Nb):J Ln:=b.mv.map λm=>(d,Hd m)
def Nt(d:Nat)(b:Nb):J Ln:=zo d b++(Tc d b++(Wg d b++N8 d b))
mutual
def LS:Nat->Nd->J Ln
 |d,.mk b l=>
  if fh b.k then[(d,kW b.k++32::(b.nm++32::45::62::32::(b.dft++[59])))]
  else(d,kW b.k++32::(b.nm++[32,123]))::(Nt (d+1) b++(sL (d+1) l++[(d,[125])]))
def sL:Nat->J Nd->J Ln
 |_,[]=>[]
 |d,x::l=>LS d x++sL d l
end
def P5(v:Vr):L:=Af++32::(v.n++32::61::32::(Lib.itoa v.v++[59]))
def Hz(c:Ch):J Ln:=
 (0,gx++32::(c.root.b.nm++[32,123]))::((c.vars.map λv=>(1,P5 v))++(Nt 1 c.root.b++(sL 1 c.root.kids++[(0,[125])])))
def xQ:Nat->L
 |0=>[]
 |d+1=>32::32::xQ d
def Wb(p:Ln):L:=xQ p.1++(p.2++[10])
def mA(b:L)(p:Ln):L:=if 16384<WS b then b else b++Wb p
def eP(b:L)(a:J Ln):L:=a.foldl mA b
def Dy(a:J Ln):L:=a.flatMap Wb
def sp0 b p:WS b<=WS (mA b p):=by
 rw[mA]
 grind
def yv:∀L b,WS b<=WS (eP b L)
 |[],_=>bc _
 |p::L,b=>bC (sp0 b p)<|yv L _
def gU b L M:eP b (L++M)=eP (eP b L) M:=gZ
def wb b p L:eP b (p::L)=eP (mA b p) L:=rfl
def e8:∀L b,WS (eP b L)<=16384->eP b L=b++Dy L
 |[],b,_=>(bq b).symm
 |p::L,b,h=>by
  rw[wb]at h⊢;have:=yv L<|mA b p;have:=sp0 b p;rw[e8 L _ h];have:mA b p=b++Wb p:=by unfold mA;grind
  rw[this,bp];rfl
def Nv:∀L b,16384<(WS b)->eP b L=b
 |[],_,_=>rfl
 |p::L,b,h=>by
  have:mA b p=b:=by unfold mA;rw[E h]
  rw[wb,this,Nv L b h]
def jd(c:Ch):L×Int:=
 if rH c=aE then(if 16384<WS (eP [] (Hz c)) then([],2)else(eP [] (Hz c),0))else([],22)
def Il(a:Ac):Prop:=Wf a.x
structure Ys (m:Mv):Prop where
 g:Wf m.g
 a:∀x,x∈m.acts->Il x
 w:ri m.wt
structure nbN (b:Nb):Prop where
 en:∀a,a∈b.en->Il a
 lv:∀a,a∈b.lv->Il a
 mv:∀m,m∈b.mv->Ys m
mutual
def Ew:Nd->Prop
 |.mk b l=>nbN b/\CB l
def CB:J Nd->Prop
 |[]=>True
 |x::l=>Ew x/\CB l
end
structure Jd (c:Ch):Prop where
 v:∀v,v∈c.vars->ri v.v
 r:Ew c.root
structure dz where
 k:Int
 nm:L
 pa:Int
 dp:Int
 en:Int
mutual
def Im(a:Nat)(p d:Int):Nd->J dz
 |.mk b l=>⟨b.k,b.nm,p,d,((a+1+dY l:Nat):Int)⟩::ui (a+1) a (d+1) l
def ui(a:Nat)(p d:Int):J Nd->J dz
 |[]=>[]
 |x::l=>Im a p d x++ui (a+iI x) p d l
end
mutual
def lZ(a:Nat)(p d:Int):∀x,WS (Im a p d x)=iI x
 |.mk b l=>by rw[Im,iI,aY,tT]
def tT(a:Nat)(p d:Int):∀l,WS (ui a p d l)=dY l
 |[]=>Mi
 |x::l=>by rw[ui,dY,aU,lZ,tT]
end
def Bg:∀l m,dY (l++m)=dY l+dY m
 |[],m=>by rw[dY,cJ,bS]
 |x::l,m=>by rw[bZ,dY,dY,Bg l m,ez]
def Ku pa dp:∀l m a,ui a pa dp (l++m)=ui a pa dp l++ui (a+dY l) pa dp m
 |[],m,a=>Mi
 |x::l,m,a=>by rw[bZ,ui,ui,Ku pa dp l m,dY,bp,ez]
def G2:∀x,1<=iI x
 |.mk b l=>by rw[iI];omega
def R2{x}:∀{l:J Nd},x∈l->iI x<=dY l
 |[],h=>YI
 |y::l,h=>by
  rw[dY];rcases ba.1 h with rfl|h
  .omega
  have:=R2 h;omega
def mQ{y}:∀{l:J Nd} {j:Nat},l[j]? =aM y->dY (l.take j)+iI y<=dY l
 |[],_,h=>YI
 |x::l,0,h=>by
  rw[cX,bN]at h;subst h;rw[cr,dY,dY];omega
 |x::l,j+1,h=>by
  have:=mQ (l:=l) (j:=j) (by rwa[fP]at h);rw[fL,dY,dY];omega
def qI:∀l,WS l<=dY l
 |[]=>bE _
 |a::l=>by
  have:=qI l;have:=G2 a;rw[dY,aY];omega
def FZ(L:J dz)(a i:Nat)(s:dz):=∃p t,p<i/\L[p]? =aM t/\s.pa=((a+p:Nat))/\s.dp=t.dp+1/\((a+i:Nat))<t.en/\s.en<=t.en/\∀j u,p<j->j<i->L[j]? =aM u->u.en<=((a+i:Nat))
def FZ.wT{L M}{a i}{s}(h:FZ L a i s)(o:i<WS L):FZ (L++M) a i s:=by
 let⟨p,t,c,n,d,e,f,j,k⟩:=h;refine⟨p,t,c,?_,d,e,f,j,λl u g b m=>k l u g b ?_⟩
 .grind
 grind
def FZ.shift{L M}{a i}{s}(h:FZ M (a+WS L) i s):FZ (L++M) a (WS L+i) s:=by
 let⟨p,t,f,j,k,b,l,c,m⟩:=h;refine⟨WS L+p,t,X,?_,X,b,X,c,λn u g d e=>?_⟩
 .grind
 grind
mutual
def Kv(a:Nat)(p d:Int):∀(x:Nd) (i:Nat) (s:dz),(Im a p d x)[i]? =aM s->((a+i:Nat):Int)<s.en/\s.en<=((a+iI x:Nat):Int)/\(i=0->s.pa=p/\s.dp=d/\s.en=((a+iI x:Nat):Int))/\(0<i->FZ (Im a p d x) a i s)
 |.mk b l,i,s,h=>by
  rw[Im]at h⊢;rw[iI];cases i with
  |zero=>
   grind
  |succ i=>
   rw[fP]at h;obtain⟨k,m,e⟩:=fb (a+1) a (d+1) l i s h;refine⟨X,X,X,λ_=>?_⟩;rcases e with⟨f,c,j⟩|g
   .refine⟨0,_,X,cX,P9,c,P0,P9,λa u b g k3=>?_⟩
    grind
   have:=FZ.shift (L:=[⟨b.k,b.nm,p,d,((a+1+dY l:Nat):Int)⟩]) (M:=ui (a+1) a (d+1) l) (a:=a) (i:=i) (s:=s) g
   grind
def fb(a:Nat)(p d:Int):∀(l:J Nd) (i:Nat) (s:dz),(ui a p d l)[i]? =aM s->((a+i:Nat):Int)<s.en/\s.en<=((a+dY l:Nat):Int)/\
  ((s.pa=p/\s.dp=d/\∀j u,j<i->(ui a p d l)[j]? =aM u->u.en<=((a+i:Nat):Int))∨FZ (ui a p d l) a i s)
 |[],i,s,h=>by rw[ui]at h;simp at h
 |x::l,i,s,h=>by
  rw[ui]at h⊢;rw[dY];have b:=lZ a p d x;by_cases c:i<iI x
  .rw[de X]at h;obtain⟨e,k,m,f⟩:=Kv a p d x i s h;refine⟨e,X,?_⟩;by_cases g:i=0
   .simp_all
   exact .inr ((f X).wT X)
  rw[dR X,b]at h;obtain⟨n,o,m⟩:=fb (a+iI x) p d l (i-iI x) s h;refine⟨X,X,?_⟩;rcases m with⟨e,f,k⟩|g
  .refine .inl ⟨e,f,λj u r g=>?_⟩;by_cases q:j<iI x
   .rw[de X]at g;have:=(Kv a p d x j u g).2.1;omega
   rw[dR X,b]at g;have:=k (j-iI x) u X g;omega
  refine .inr ?_;rw[<-b]at g;have:=FZ.shift (L:=Im a p d x) g;simp_all
end
structure Fo (xs:List dz):Prop where
 ne:0<WS xs
 rt:∀s:dz,xs[0]? =aM s->s.pa= -1/\s.dp=0/\s.en=(WS xs:Int)
 up:∀(i:Nat) (s:dz),xs[i]? =aM s->(i:Int)<s.en/\s.en<=(WS xs:Int)
 pa:∀(i:Nat) (s:dz),0<i->xs[i]? =aM s->FZ xs 0 i s
def cQ(c:Ch):J dz:=Im 0 (-1) 0 c.root
def Ey c:Fo (cQ c):=by
 unfold cQ;have:=lZ 0 (-1) 0 c.root;have:=Kv 0 (-1) 0 c.root;refine⟨by have:=G2 c.root;omega,λs h=>?_,λi s h=>?_,A⟩
 .grind
 grind
section
variable{xs:J dz}(F:Fo xs){i j k p:Nat}{s t u:dz}
include F
theorem Fo.lam:∀k {i:Nat} {s t:dz},xs[i]? =aM s->xs[k]? =aM t->i<k->k<s.en->t.en<=s.en
 |k,i,s,t,a,hk,b,m=>by
  let⟨p,v,c,h,d,e,f,g,j⟩:=F.pa k t X hk;by_cases l:p<i
  .grind
  by_cases k:p=i
  .simp_all
  have:=Fo.lam p a h X X;omega
theorem Fo.par(hk:xs[k]? =aM t)(h:0<k):∃(p:Nat) (s:dz),p<k/\t.pa=p/\xs[p]? =aM s/\t.dp=s.dp+1/\k<s.en/\∀i u,xs[i]? =aM u->i<k->(k:Int)<u.en->i<=p:=by
 let⟨p,v,a,b,c,d,e,f,g⟩:=F.pa k t h hk
 grind
omit F in
theorem fG {xs:List dz} {i:Nat} {s:dz} (h:xs[i]? =aM s):i<WS xs:=(aZ.1 h).1
omit F in
theorem eW {xs:List dz} {i:Nat} (h:i<WS xs):∃s,xs[i]? =aM s:=⟨_,aR h⟩
end
def mC(x:J dz)(b a:Nat):=∃s,x[b]? =aM s/\b<=a/\a<s.en
section
variable{xs:J dz}(F:Fo xs){i j k p:Nat}
include F
theorem Fo.C9(h:mC xs i j):j<WS xs:=by
 let⟨s,a,b,c⟩:=h;have:=(F.up i s a).2;omega
theorem Fo.nI(a:i<WS xs):mC xs i i:=by
 let⟨s,h⟩:=eW a;exact⟨s,h,X,(F.up i s h).1⟩
theorem Fo.vq(a:i<WS xs):mC xs 0 i:=by
 let⟨s,h⟩:=eW F.ne;exact⟨s,h,X,by rw[(F.rt s h).2.2];omega⟩
theorem Fo.pd(b:mC xs i j)(g:mC xs j k):mC xs i k:=by
 let⟨s,h,f,c⟩:=b;let⟨t,a,d,e⟩:=g;refine⟨s,h,X,?_⟩;by_cases l:i=j
 .simp_all
 have:=F.lam j h a X c;omega
theorem Fo.qg(h:mC xs i k)(g:mC xs j k)(y:i<=j):mC xs i j:=by
 let⟨s,a,e,f⟩:=h;let⟨t,b,c,d⟩:=g;exact⟨s,a,y,X⟩
end
def NK(x:J dz)(l:J Int)(r:Int):=∃m:Nat,r=m/\(∀n∈l,∃k:Nat,n=k/\mC x m k)/\∀j,(∀n∈l,∃k:Nat,n=k/\mC x j k)->j<=m
def qW(x:J dz)(n:Int):Prop:=0<=n/\n<WS x
def Mt(x:J dz)(l:J Int)(r:Int):Prop:=((l=[]∨∃n∈l,¬qW x n)/\r= -1)∨((l≠[]/\∀n∈l,qW x n)/\NK x l r)
def Mt.aup{xs}{l}{r}(h:Mt xs l r)(a:l≠[])(c:∀n∈l,qW xs n):NK xs l r:=by
 rcases h with⟨b|⟨n,e,d⟩,_⟩|⟨_,h⟩
 .exact absurd b a
 .grind
 omega
def fi(x:J dz)(i n:Nat):J Int:=((List.range n).filter λk=>JW<|(x[k]?).map (λs:dz=>s.pa)=aM (i:Int)).map λk:Nat=>k
def om xs i n:fi xs i (n+1)=fi xs i n++if(xs[n]?).map (λs:dz=>s.pa)=aM (i:Int)then[(n:Int)]else[]:=by
 unfold fi;rw[UT,eU,cK]
 grind
def xR{xs}{i:Nat}:∀d n,(∀k,n<=k->k<n+d->(xs[k]?).map (λs:dz=>s.pa)≠aM (i:Int))->fi xs i (n+d)=fi xs i n
 |0,n,_=>rfl
 |d+1,n,h=>by
  rw[<-ez,om,Q<|h _ X X,bq,xR d n R]
section
variable{xs:J dz}(F:Fo xs){i k:Nat}{s t:dz}
include F
theorem Fo.U4(hk:xs[k]? =aM t):t.pa<k:=by
 by_cases h:0<k
 .obtain _:=F.par hk h;omega
 have:k=0:=X
 subst this;rw[(F.rt t hk).1];omega
theorem Fo.aBR(h:xs[i]? =aM s):fi xs i (i+1)=[]:=by
 have:∀n,n<=i+1->fi xs i n=[]:=by
  intro n
  induction n with
  |zero=>intro _;rfl
  |succ n i=>
   intro a;rw[om,i X,Q,bq];intro e;rcases hx:xs[n]? with _|u
   .grind
   rw[hx,gN,bN]at e;have:=F.U4 hx;omega
 grind
theorem Fo.amw(l:xs[i]? =aM s)(hk:xs[k]? =aM t)(h:i<k)(m:k<s.en)(g:∀j u,i<j->j<k->xs[j]? =aM u->u.en<=k):t.pa=i:=by
 let⟨p,v,a,b,c,d,e,f⟩:=F.par hk X
 grind
theorem Fo.acx(hk:xs[k]? =aM t){n:Nat}(d:t.en=n)(c:∀j u,i<j->j<k->xs[j]? =aM u->u.en<=k):∀j u,i<j->j<n->xs[j]? =aM u->u.en<=n:=by
 intro j u a b h;have:=(F.up k t hk).1;by_cases e:j<k
 .grind
 by_cases e:j=k
 .simp_all
 have:=F.lam j hk h X X;omega
theorem Fo.acy(a:xs[i]? =aM s)(hk:xs[k]? =aM t)(h:i<k)(c:k<s.en){n:Nat}(g:t.en=n)(b:∀j u,i<j->j<k->xs[j]? =aM u->u.en<=k):fi xs i n=fi xs i k++[(k:Int)]:=by
 have:=(F.up k t hk).1;have:=xR (xs:=xs) (i:=i) (n-(k+1)) (k+1) λj d f e=>by
  rcases hx:xs[j]? with _|u
  .grind
  rw[hx,gN,bN]at e;let⟨p,v,i,k,l,m,n,o⟩:=F.par hx X
  grind
 rw[show k+1+_=n by omega,om,E<|by rw[hk,gN,F.amw a hk h c b]]at this;omega
theorem Fo.ag5(h:xs[i]? =aM s){n:Nat}(c:s.en=n):fi xs i (WS xs)=fi xs i n:=by
 have:=F.up i s h;have:=xR (xs:=xs) (i:=i) ((WS xs)-n) n λj a b e=>by
  rcases hx:xs[j]? with _|d
  .grind
  rw[hx,gN,bN]at e;let⟨p,v,g,f,i,k,l,m⟩:=F.par hx X
  grind
 simp_all
end
def G7 xs i:∀n,List.Pairwise (· <·) (fi xs i n)/\∀k,k∈fi xs i n->k<n
 |0=>⟨List.Pairwise.nil,λk h=>by simp[fi]at h⟩
 |n+1=>by
  let⟨h,a⟩:=G7 xs i n;rw[om]
  grind
abbrev Ft:=Int×Int
def j5(f:Ft)(L:J Ft):Ft:=L.foldl (λf p=>if f.1=0 then p else f) f
def bad(ok:C)(e a:Int):J Ft:=if ok then[]else[(e,a)]
def gD f L M:j5 f (L++M)=j5 (j5 f L) M:=gZ
def F0{f}(h:f.1≠0):∀L,j5 f L=f
 |[]=>rfl
 |p::L=>by
  show j5 (if f.1=0 then p else f) L=f;rw[Q h];exact F0 h L
def Cd(L:J Ft):=∀p∈L,p.1≠0
def Cd.nil:Cd []:=λp h=>YI
def Cd.wT{L M}(h:Cd L)(g:Cd M):Cd (L++M):=λp a=>(cZ.1 a).elim (h p)<|g p
def P4:=@Cd.wT
def Cd.bad{ok}{e a}(b:e≠0):Cd (bad ok e a):=λp h=>by
 unfold Con.bad at h;simp_all
def YF:=@Cd.bad
def Cd.flat{c:Type}{f}(h:∀x,Cd<|f x)(l:J c):Cd (l.flatMap f):=λp a=>by
 let⟨x,_,b⟩:=jp.1 a;exact h x p b
def F1{L}(a:Cd L)(h:(j5 (0,0) L).1=0):L=[]:=by
 cases L with
 |nil=>rfl
 |cons p L=>
  let b:=a p N;let e:j5 (0,0) (p::L)=j5 p L:=I;rw[e,F0 b]at h;omega
def wc{ok}{e a}:bad ok e a=[]↔ok=aE:=by
 unfold bad;cases ok<;>simp
def af0 f ok e a:j5 f (bad ok e a)=if(!ok&&f.1==0)=aE then(e,a)else f:=by
 unfold bad;cases ok
 .by_cases h:f.1=0
  .simp[j5,h]
  simp[j5,h]
 rfl
def gr(a:J dz)(s:L):Int:=if zm s (a.map λx:dz=>x.nm)<WS a then(zm s (a.map λx:dz=>x.nm))else -1
def kb(s:J dz)(n:Int):Int:=match s[n.toNat]? with
 |some x=>x.k
 |none=>0
def Nx(s:J dz)(n:Int):Int:=match s[n.toNat]? with
 |some x=>x.pa
 |none=>0
def LU(x:J dz)(s:L):C:=JW (0<=gr x s)&&!fh (kb x<|gr x s)
def Wh(x:J dz)(b a:Nat):C:=match x[b]? with
 |some s=>JW (b<=a)&&JW (a<s.en)
 |none=>aL
def mR(x:J dz)(b a:Int):C:=JW (0<=b/\0<=a)&&Wh x b.toNat a.toNat
def oO(x:J dz)(a b:Int):C:=JW (a≠b)&&mR x b a
def Bh(x:J dz)(a b:Int):Nat->Int
 |0=> -1
 |m+1=>if(mR x m a&&mR x m b)=aE then m else Bh x a b m
def DA(x:J dz)(a b:Int):Int:=Bh x a b<|WS x
def Py(x:J dz)(a b:Int):C:=JW (DA x a b≠a/\DA x a b≠b)&&JW (kb x (DA x a b)=2)
def DY(x:J dz)(s:L):Int:=if fh (kb x<|gr x s)then Nx x (gr x s)else gr x s
def Ny(x:J dz):J Int->J (L)->C
 |_,[]=>aE
 |l,s::r=>if gr x s<1 then aL else if(l.any λo=>!Py x (DY x s) o)then aL else Ny x (l++[DY x s]) r
mutual
def DB:Nd->J (L×Int)
 |.mk b l=>(b.nm,b.a)::AD l
def AD:J Nd->J (L×Int)
 |[]=>[]
 |x::l=>DB x++AD l
end
def wO:J (L)->J (L×Int)->J Ft
 |_,[]=>[]
 |l,p::r=>bad (!JW (p.1∈l)) 24 p.2++wO (l++[p.1]) r
def Bi:∀p q l,wO l (p++q)=wO l p++wO (l++p.map λx=>x.1) q
 |[],q,l=>by rw[cJ,wO,cJ,lV,bq]
 |x::p,q,l=>by rw[bZ,wO,wO,Bi p q,bp,ch,bp];rfl
def Kw:∀l m,AD (l++m)=AD l++AD m
 |[],m=>Mi
 |x::l,m=>by rw[bZ,AD,AD,Kw l m,bp]
mutual
def Nz(a:Nat)(c d:Int):∀x,(Im a c d x).map (λs:dz=>s.nm)=(DB x).map λp=>p.1
 |.mk b l=>by rw[Im,DB,ch,ch,QH]
def QH(a:Nat)(b d:Int):∀l,(ui a b d l).map (λs:dz=>s.nm)=(AD l).map λp=>p.1
 |[]=>Mi
 |x::l=>by rw[ui,AD,cK,cK,Nz,QH]
end
def af1 x:WS (DB x)=iI x:=by
 have:=bn List.length<|Nz 0 0 0 x;rw[bP,bP,lZ]at this;omega
def Tf x:WS (AD x)=dY x:=by
 have:=bn List.length<|QH 0 0 0 x;rw[bP,bP,tT]at this;omega
def QI:∀p l,Cd<|wO l p
 |[],l=>Cd.nil
 |x::p,l=>P4 (YF Z)<|QI p _
section
variable(xs:J dz)(vs:J (L))
def PA(k:Int)(s:L):C:=(JW (k≠2)||JW (s∈vs))&&(JW (k≠3)||LU xs s)
mutual
def XU:Ex->J Ft
 |.mk k n s op l a=>bad (PA xs vs k s) 23 a++we l
def we:J Ex->J Ft
 |[]=>[]
 |x::l=>XU x++we l
end
def fA x:XU xs vs x=bad (PA xs vs x.k x.s) 23 x.a++we xs vs x.dP:=by cases x;rfl
def F2:∀l m,we xs vs (l++m)=we xs vs l++we xs vs m
 |[],m=>Mi
 |x::l,m=>by rw[bZ,we,we,F2 l m,bp]
def SD(a:Ac):J Ft:=bad (JW (a.k≠1)||JW (a.n∈vs)) 23 a.a++XU xs vs a.x
def mD(l:J Ac):J Ft:=l.flatMap<|SD xs vs
def NA(m:Mv):C:=(m.k !=3)||(JW (m.wt>0)&&JW (m.wt<=1099511627776))
def Ez(m:Mv):J Ft:=bad (NA m) 28 m.a++(XU xs vs m.g++(mD xs vs m.acts++bad (Ny xs [] m.tg) 27 m.a))
def DZ(l:J Nd):Nat:=WS<|l.filter λx=>!fh x.b.k
def wP(s:L)(l:J Nd):C:=l.any λx=>JW<|x.b.nm=s
def vE(b:Nb)(l:J Nd)(at_:Nat):J Ft:=
 if fh b.k then bad (LU xs b.dft&&oO xs (gr xs b.dft) (Nx xs at_)) 26 b.a
 else if b.k=2 then bad (JW (b.ini=[])&&JW (1<DZ l)) 25 b.a
 else if 0<DZ l then bad (wP b.ini l) 25 b.a
 else bad (JW<|b.ini=[]) 25 b.a++bad (JW<|WS l=0) 26 b.a
mutual
def QJ:Nat->Nd->J Ft
 |n,.mk b l=>vE xs b l n++(mD xs vs (b.en++b.lv)++(b.mv.flatMap (Ez xs vs)++qX (n+1) l))
def qX:Nat->J Nd->J Ft
 |_,[]=>[]
 |n,x::l=>QJ n x++qX (n+iI x) l
end
def F3:∀l m n,qX xs vs n (l++m)=qX xs vs n l++qX xs vs (n+dY l) m
 |[],m,n=>Mi
 |x::l,m,n=>by rw[bZ,qX,qX,F3 l m,bp,dY,ez]
mutual
def QL:∀x,Cd (XU xs vs x)
 |.mk k n s op l a=>by rw[XU];exact P4 (YF Z) (r7 l)
def r7:∀l,Cd (we xs vs l)
 |[]=>by rw[we];exact Cd.nil
 |x::l=>by rw[we];exact P4 (QL x) (r7 l)
end
def alc a:Cd (SD xs vs a):=P4 (YF Z)<|QL xs vs a.x
def ldP l:Cd (mD xs vs l):=Cd.flat (alc xs vs) l
def ald m:Cd (Ez xs vs m):=P4 (YF Z)<|P4 (QL xs vs _)<|P4 (ldP xs vs _)<|YF Z
def ale b l n:Cd (vE xs b l n):=by
 unfold vE;split
 .exact YF Z
 split
 .exact YF Z
 split
 .exact YF Z
 exact P4 (YF Z)<|YF Z
mutual
def ga:∀(n:Nat) (x:Nd),Cd (QJ xs vs n x)
 |n,.mk b l=>by rw[QJ];exact P4 (ale xs b l n) (P4 (ldP xs vs _) (P4 (Cd.flat (ald xs vs) _) (gn (n+1) l)))
def gn:∀(n:Nat) (l:J Nd),Cd (qX xs vs n l)
 |n,[]=>by rw[qX];exact Cd.nil
 |n,x::l=>by rw[qX];exact P4 (ga n x) (gn _ l)
end
end
def Io(c:Ch):J (L):=c.vars.map λv=>v.n
def Bj(c:Ch):J Ft:=wO [] (DB c.root)++(wO [] (c.vars.map λv=>(v.n,v.a))++QJ (cQ c) (Io c) 0 c.root)
def F4 c:Cd (Bj c):=P4 (QI _ _)<|P4 (QI _ _)<|ga _ _ _ _
def Tj{s}:∀{l:J _},zm s l<(WS l)->l[zm s l]? =aM s
 |[],h=>YI
 |x::l,h=>by
  rw[zm]at h⊢;split
  .grind
  rename_i e;rw[Q e,aY]at h;exact Tj X
def qx{s}:∀{l:J _},zm s l<WS l↔s∈l
 |[]=>N
 |x::l=>by
  rw[zm,ba,aY];split
  .simp_all
  rename_i e;have:=qx (s:=s) (l:=l);simp_all
def Kx{s} m:∀{l:J _},s∈l->zm s (l++m)=zm s l
 |[],h=>YI
 |x::l,h=>by
  rw[bZ,zm,zm];split
  .rfl
  rename_i e;rw[Kx m A]
def Ky{s} m:∀{l:J _},s∉l->zm s (l++s::m)=WS l
 |[],_=>by rw[cJ,zm,E I];rfl
 |x::l,h=>by
  rw[bZ,zm,Q<|λe=>h<|by rw[e];simp,Ky m A];rfl
section
variable{xs:J dz}{s:L}
def jf xs s:(gr xs s= -1/\∀x∈xs,x.nm≠s)∨∃(n:Nat) (x:dz),gr xs s=n/\xs[n]? =aM x/\x.nm=s:=by
 unfold gr;split
 .rename_i h;right;have:=Tj (l:=xs.map λx:dz=>x.nm) (s:=s) R
  grind
 rename_i h;refine .inl ⟨I,λx a e=>h ?_⟩;have:=(qx (s:=s) (l:=xs.map λx:dz=>x.nm)).2 R
 grind
def fz{n:Nat}{x}(h:xs[n]? =aM x):kb xs n=x.k:=by unfold kb;rw[aV,h]
def lz{n:Nat}{x}(h:xs[n]? =aM x):Nx xs n=x.pa:=by unfold Nx;rw[aV,h]
def aae{b a}:Wh xs b a=aE↔mC xs b a:=by
 unfold Wh mC;rcases h:xs[b]? with _|s
 .simp
 simp
theorem sM{b a}:mR xs b a=aE↔∃i j:Nat,b=i/\a=j/\mC xs i j:=by
 unfold mR;rw[aO,dx,aae]
 grind
theorem sO{a b}:oO xs a b=aE↔∃i j:Nat,b=i/\a=j/\i<j/\mC xs i j:=by
 unfold oO;rw[aO,dx,sM];constructor
 .rintro⟨n,i,j,rfl,rfl,h⟩;have:=h;let⟨_,_,l,_⟩:=this
  grind
 grind
theorem u9 a b:∀n,(Bh xs a b n= -1/\∀m<n,(mR xs m a&&mR xs m b)=aL)∨∃m:Nat,Bh xs a b n=m/\m<n/\(mR xs m a&&mR xs m b)=aE/\∀j,m<j->j<n->(mR xs j a&&mR xs j b)=aL
 |0=>.inl ⟨I,λm h=>X⟩
 |n+1=>by
  rw[Bh];split
  .grind
  rename_i h;rw[qn]at h;rcases u9 a b n with⟨c,d⟩|⟨m,c,d,e,f⟩
  .grind
  grind
theorem Fo.ag6(F:Fo xs){a b r}(h:Mt xs [a,b] r)(l:qW xs a)(p:qW xs b):r=DA xs a b:=by
 let g:∀n,n∈[a,b]->qW xs n:=A
 obtain⟨m,rfl,t,e⟩:=h.aup N g;let o:∀j:Nat,(mR xs j a&&mR xs j b)=aE↔∀n,n∈[a,b]->∃k:Nat,n=k/\mC xs j k:=λj=>by
  rw[aO,sM,sM]
  grind
 have:=(o m).2 t;have:m<WS xs:=by
  let⟨k,_,s,b,_⟩:=t a N;exact fG b
 unfold DA;rcases u9 (xs:=xs) a b (WS xs) with⟨_,c⟩|⟨q,f,c,d,i⟩
 .simp_all
 have:=e q ((o q).1 d)
 grind
end
def ne(l:L):C:=!JW (l=[])
def jg(w:J (L)):L:=Lib.join (w.filter ne) [32]
theorem Only.below{w w'}(h:Below w.heap.size w w'):ay [] w w':=⟨h.os,h.tape,h.output,h.size,λk hk _=>h.block k hk⟩
def QM{w}{F}:∀{l:J _} {s:J _},pJ oK 1 w F l s->s.flatten=l.map λx=>ab<|T x
 |[],[],_=>rfl
 |c::l,d::s,h=>by
  let⟨⟨_,a⟩,b⟩:=h;subst a;rw[fE,QM b];rfl
def Ip l w:az aq 234 #[ab (T l)] w λe a=>e=ak (aj<|JW<|l=[])/\a=w:=ret (asr w ⟨by rw[show ao #[]=T []from rfl,jC],I⟩)
section
variable{w:av}{B:Nat}{F:h}{s:Sl}{ws:J (L)}
def aaf(d:Own oK 1 9 B w F s ws):az aq 260 #[s.v,.func (.func 234) #[] #[]] w λe a=>
  ∃i,e=ak (O U i)/\a=w/\((i= -1/\ws.filter ne=ws)∨∃n:Nat,i=n/\n<WS ws/\(ws.take<|n+1).filter ne=ws.take n):=by
 refine(asH s ⟨.func _ #[] #[],I⟩ (λv a=>∃i,v=O U i/\a=w/\((i= -1/\ws.filter ne=ws)∨∃n:Nat,i=n/\n<WS ws/\(ws.take<|n+1).filter ne=ws.take n)) w ?_).mono (by
  simp_all)
 let h:=d.slice dI;have:=h.len;have:=h.big;have:=h.cap;refine⟨λb i a=>∃n,n<=WS ws/\i=n/\b=(WS ws)-n/\(ws.take n).filter ne=ws.take n/\a=w,WS ws,R,?_⟩;rintro b _ f ⟨n,g,rfl,rfl,C,rfl⟩;refine⟨λc=>?_,λc=>?_⟩
 .have J:(n:Int)<s.n:=S c;let⟨ad,x,q,m,k,u,v,o,p⟩:=h.get X J;rw[aV]at k;subst p;let l:ws.take (n+1)=ws.take n++[x]:=by
   rw[aX,k];rfl
  refine⟨ad,m,_,o,234,[],[],I,ia D,(Ip x f).mono ?_⟩;rintro _ w ⟨rfl,rfl⟩;refine⟨_,I,λe=>⟨_,I,I,.inr ⟨n,I,X,?_⟩⟩,λe=>⟨(WS ws)-_,X,n+1,X,N0,I,?_,I⟩⟩
  .have e:=S e;rw[l,eU,C,e];simp[ne]
  rw[l,eU,C];simp[ne,e]
 grind
def aiU(h:Own oK 1 9 B w F s ws):az aq 233 #[s.v,.func (.func 234) #[] #[]] w λe c=>
  ∃d,e=ak d.v/\Own oK 1 9 B c F d (ws.filter ne)/\aD (λk=>B<=k) w c:=by
 refine(asw s ⟨.func (.func 234) #[] #[],I⟩ (λv c=>∃d,v=d.v/\Own oK 1 9 B c F d (ws.filter ne)/\aD (λk=>B<=k) w c) w ?_).mono (by
  rintro e c ⟨v,rfl,d,rfl,h⟩;exact⟨d,I,h⟩)
 rw[LL];have:=h.len;have:=h.cap;have:=(h.slice dI).big;refine(aaf h).mono ?_;rintro _ l ⟨j,rfl,rfl,i⟩;refine⟨j,I,λf=>?_,λf=>?_⟩
 .rcases i with⟨_,a⟩|⟨n,rfl,b,a⟩
  .rw[a];exact⟨s,I,h,V8 _ _⟩
  have:(n:Int)= -1:=eq_of_beq f;omega
 rcases i with⟨rfl,_⟩|⟨n,rfl,u,e⟩
 .exact R
 refine⟨λH a b c=>∃(y:J (L)) (p q:Nat),a=p/\b=q/\p<q/\q<=WS ws/\H=(WS ws)-q/\WS y=WS ws/\y.take p=(ws.take q).filter ne/\y.drop q=ws.drop q/\Own oK 1 9 B c F s y/\aD (λk=>B<=k) l c,
  (WS ws)-_,⟨ws,n,n+1,I,N0,X,X,I,I,e.symm,I,h,V8 _ _⟩,?_⟩
 rintro H _ _ M ⟨y,p,q,rfl,rfl,K,N,rfl,E,A,hd,z,C⟩;refine⟨λf=>?_,λf=>?_⟩
 .have V:(q:Int)<s.n:=S f;let P:q<WS ws:=X
  let⟨ad,x,cs,W,Y,g3,g4,g5,Q⟩:=(z.slice dI).get X V;rw[oK]at Q;subst Q;let hx:ws[q]? =aM x:=by
   rw[<-Y];have g:=bn (λk=>k[0]?) hd;simpa using g.symm
  let T:ws.take (q+1)=ws.take q++[x]:=by
   rw[aX,hx];rfl
  let v:∀a:J (L),(∀b,q+1<=b->a[b]? =y[b]?)->a.drop (q+1)=ws.drop _:=λa hM=>by
   apply jR;intro b;rw[nN,nN,hM _ X];have g:=bn (λk=>k[1+b]?) hd;simp at g;rw[show q+1+b=q+(1+b) by omega];exact g
  refine⟨λb w=>∃(a:J (L)) (t:Nat),b=t/\t<q+1/\WS a=WS ws/\a.take t=(ws.take<|q+1).filter ne/\a.drop (q+1)=ws.drop (q+1)/\Own oK 1 9 B w F s a/\aD (λk=>B<=k) l w,?_,ad,W,_,g5,234,[],[],I,ia D,?_⟩
  .rintro _ w ⟨a,t,rfl,g,k,n,p,s,x⟩;exact⟨(WS ws)-_,X,a,t,q+1,I,N0,g,P,I,k,n,p,s,x⟩
  refine(Ip x M).mono ?_;rintro _ w ⟨rfl,rfl⟩;refine⟨_,I,λhb=>?_,λhb=>?_⟩
  .have⟨g,cells,q,b2,b3,b4,b5⟩:=z.store dI (n:=p) X (x:=x) (vs:=[ab _]) (G:=λ_=>False) I I R Z;refine⟨⟨g,p*1,VM⟩,b2,g,p*1,cells,_,I,b3,b4,λw3 s wX=>⟨y.set p x,p+1,N0,X,by rw[Uw];exact E,?_,v _ λb hj=>by rw[List.getElem?_set_ne X],b5 w3 s wX,C.trans (s.p (F:=λk=>B<=k) λk hk=>.inl ?_) X⟩⟩
   .rw[T,eU,<-A,aX,Ed X,LO X];simp[ne,hb]
   simp at hk;rcases z with⟨rfl,_⟩|⟨n,_,_,g,k,_⟩
   .cases q
   rw[g]at q;injection q with q;injection q with q;omega
  let hb:=Rg
  refine⟨y,p,I,X,E,?_,R,z,C⟩;rw[T,eU,<-A,hb];simp[ne]
 have:¬(q:Int)<s.n:=aQ f;have b:q=WS ws:=X
 subst b;rw[bm (bc _)]at A;let⟨T,g,x,a,G,Q⟩:=Own.clear (P:=aq) (t:=75) (ty:=0) (i:=p) dI Z D (λw=>zeroValue9 w) (by intro v n;simp[Value.cells]at n;subst n;rfl) I z X;refine⟨p,X,T,x,p,R,_,I,?_,C.trans (G.p (F:=λk=>B<=k) λk hk=>.inl ?_) X⟩
 .rw[<-A];exact Q
 simp at hk;subst hk;rcases z with⟨rfl,_⟩|⟨p,_,_,g,k,_⟩
 .cases a
 rw[g]at a;injection a with a;injection a with a;omega
def F5(h:Own oK 1 9 B w F s ws)(n:WS (jg ws)<=140737488355328)(z:WS ws<=140737488355328):az aq 184 #[s.v] w λe o=>e=ak (ab<|T<|jg ws)/\aD (λk=>B<=k) w o:=by
 refine ret<|ar7<|(aiU h).mono ?_;rintro _ b ⟨d,rfl,O,P⟩;refine⟨d,I,?_⟩;have l:=O.len;have G:=ij ne ws;have Y:∀{a:av},ay [] b a->aD _ w a:=λh=>P.trans h.p0 λk hk=>.inl hk;rcases O with⟨rfl,m⟩|⟨g,j,tail,f,p,c,q,r,t,u,i⟩
 .refine(Tryz.strings_Join_none VM 0 _ b).mono ?_;rintro _ a ⟨rfl,rfl⟩;refine⟨_,I,?_,P⟩;rw[jg,m];rfl
 obtain⟨s,sn,sc⟩:=d;subst f l;have:=Tryz.strings_Join g 0 sc _ (T [32]) b (λk x e=>by
  rw[cP,gp]at e;obtain⟨y,g,rfl⟩:=e;have:=c.cells 0 _ (λk v e=>by rw[bS,QM i,de (aZ.1 e).1];exact e) k _ (by rw[cP,g];rfl);rw[jS]at this;exact this) c.lt R R (by
  rw[gV];have:((λx:M=>x.data.toList)∘T)=id:=I;rw[this,List.map_id];exact n)
 rw[bP]at this;refine this.mono ?_;rintro _ a ⟨rfl,B⟩;refine⟨_,I,?_,Y<|Only.below B⟩;rw[gV];have:((λx:M=>x.data.toList)∘T)=id:=I;rw[this,List.map_id];rfl
end
def Iq w ws {n} {parts} (p:parts=(((ws.map λx=>Value.string<|T x).zipIdx 0).map λx=>(x.2,x.1)).toArray) (c:WS ws=n) (h:0<n) (A:n*1<=16777216) (l:WS (jg ws)<=140737488355328):
  ∃(q:Sl) (a:av),(au 75 n parts).run aq w=.ok q.v a/\ay [] w a/\Own oK 1 9 w.heap.size a (λ_=>True) q ws/\az aq 184 #[q.v] a λe f=>e=ak (ab<|T<|jg ws)/\aD (λk=>w.heap.size<=k) a f:=by
 let⟨q,a,d,b,k3⟩:=lj w ws p c h A;exact⟨q,a,d,k3,b,F5 b l X⟩
def kR:∀w,WS (jg w)<=(w.map λl=>WS l+1).sum:=by
 let h:∀r,WS (Lib.joinTail [32] r)=(r.map λl=>WS l+1).sum:=λr=>by
  induction r with
  |nil=>rfl
  |cons x r i=>
   unfold Lib.joinTail at i⊢
   grind
 let a:∀r,WS (Lib.join r [32])<=(r.map λl=>WS l+1).sum:=λr=>by
  cases r with
  |nil=>exact bE _
  |cons x r=>
   rw[Lib.join_cons,aU,h,ch,fm];omega
 let b:∀(r:J _),((r.filter ne).map λl=>WS l+1).sum<=(r.map λl=>WS l+1).sum:=λr=>by
  induction r with
  |nil=>exact bc _
  |cons x r i=>
   grind
 exact λw=>bC (a _)<|b w
structure Fz (bs:List Nat) (w w':av) (ks:List Nat):Prop where
 o:ay bs w w'
 k:∀x,x∈ks->w.heap.size<=x/\x<w'.heap.size
 lo:∀x,x∈bs->x<w.heap.size
section
variable{bs bs' ks ks':J Nat}{w w1 w2 w':av}{k0 b:Nat}
theorem Fz.start(l:∀x∈bs,x<w.heap.size):Fz bs w w []:=⟨qE _ _,R,l⟩
def Fz.go(h:Fz bs w w1 ks)(k:ay bs' w1 w2)(b:∀x∈bs',x∈bs∨x∈ks):Fz bs w w2 ks:=
 ⟨h.o.trans k λx a=>(b x a).imp id λhk=>(h.k x hk).1,λx a=>⟨(h.k x a).1,cD (h.k x a).2 k.size⟩,h.lo⟩
def Fz.new(h:Fz bs w w1 ks)(k:ay bs' w1 w2)(b:∀x∈bs',x∈bs∨w.heap.size<=x):Fz bs w w2 ks:=
 ⟨h.o.trans k b,λx a=>⟨(h.k x a).1,cD (h.k x a).2 k.size⟩,h.lo⟩
theorem Fz.q(h:Fz bs w w1 ks)(k:ay [] w1 w2):Fz bs w w2 ks:=h.go k R
def Fz.c(h:Fz (b::bs) w w1 ks)(k:ay [b] w1 w2):Fz (b::bs) w w2 ks:=h.go k A
def Fz.f(h:Fz bs w w1 ks)(k:ay [k0] w1 w2)(hk:k0∈ks):Fz bs w w2 ks:=h.go k A
def Fz.al(h:Fz bs w w1 ks)(k:ay [] w1 w2)(b:w1.heap.size<=k0)(c:k0<w2.heap.size):Fz bs w w2 (k0::ks):=
 ⟨(h.q k).o,λx a=>by
  rcases ba.1 a with rfl|a
  .exact⟨bC h.o.size b,c⟩
  exact(h.q k).k x a,h.lo⟩
def Fz.sm(h:Fz bs w w1 ks)(k:ay bs' w1 w2)(hk:∀x∈ks',x∈ks)(b:∀x∈bs',x∈bs∨∀y∈ks',y≠x):bX ks' w1 w2:=k.same λx a=>
 ⟨(h.k x<|hk x a).2,λm=>by
  rcases b x m with c|c
  .have:=(h.k x<|hk x a).1;have:=h.lo x c;omega
  exact c x a I⟩
theorem Fz.sq(h:Fz bs w w1 ks)(k:ay [] w1 w2)(hk:∀x∈ks',x∈ks):bX ks' w1 w2:=h.sm k hk R
def Fz.sc(h:Fz (b::bs) w w1 ks)(k:ay [b] w1 w2)(hk:∀x∈ks',x∈ks):bX ks' w1 w2:=h.sm k hk A
def Fz.ne(h:Fz bs w w1 ks)(hk:k0∈ks)(a:b∈bs):k0≠b:=λe=>by
 have:=(h.k k0 hk).1;have:=h.lo b a;omega
end
section
variable{α:Type}{r:Rp α}{w w1 w':av}{x:α}{cs:aI}{B:Nat}
structure Stay (B:Nat) (w w':av):Prop where
 sz:w.heap.size<=w'.heap.size
 eq:∀k,B<=k->k<w.heap.size->w'.heap[k]? =w.heap[k]?
def Stay.refl B w:Stay B w w:=⟨X,λ_ _ _=>I⟩
def Cf:=@Stay.refl
theorem Stay.go{bs}(h:Stay B w w1)(k:ay bs w1 w')(c:∀x∈bs,x<B∨w.heap.size<=x):Stay B w w':=
 ⟨bC h.sz k.size,λi b a=>(k.block i (cD a h.sz) R).trans<|h.eq i b a⟩
def Stay.of{bs}(k:ay bs w w')(h:∀x∈bs,x<B∨w.heap.size<=x):Stay B w w':=(Cf B w).go k h
def _root_.Go.Kt.Rp.Ok.stay(h:r.Ok)(a:r w (Fr B) x cs)(s:Stay B w w'):r w' (Fr B) x cs:=
 h.mono (h.keep (h.inHeap a) λk hk b=>s.eq k hk.1 b) X
def _root_.Go.Kt.Rp.Ok.low(a:r.Ok)(h:r w (Fr B) x cs){A}(b:A<=B):r w (Fr A) x cs:=a.mono h X
variable{size:Nat}{e:TypeId}{s:Sl}{xs:J α}{t:C}
def lq.stay(h:r.Ok)(c:lq t r size e w (Fr B) s xs)(a:0<size)(d:Stay B w w'):lq t r size e w' (Fr B) s xs:=
 ((c.inHeap h a).keep h a λk hk b=>d.eq k hk.1 b).mono h X
def lq.low(a:r.Ok)(h:lq t r size e w (Fr B) s xs){A}(b:A<=B):lq t r size e w (Fr A) s xs:=h.mono a X
end
abbrev Jr(l:Sl)(s:Sx):aI:=[l.v,O U s.i,O U s.fc,O U s.fa,O U s.v,O U s.n,O U s.d,O U s.m,O U s.a]
structure Sr (F:h) (ts:List Tk) (w:av) (b:Nat) (l:Sl) (s:Sx):Prop where
 blk:aF w b 157 (Jr l s)
 tok:aA V2 4 w F l ts
 hF:∀k,F k->k<b
 en:vY ts
 lt:s.i<WS ts
 sm:WS ts<=16777216
abbrev rp(b:Nat):aw:=ae<|aM ⟨b,0,VM⟩
section
variable{F:h}{ts:J Tk}{w w':av}{b:Nat}{l:Sl}{s s':Sx}
theorem Sr.own(h:Sr F ts w b l s){bs}(O:ay bs w w')(a:∀x∈bs,b<x):Sr F ts w' b l s:=
 ⟨O.blk h.blk R,ZH ju Z h.tok O λk hk _ m=>MV,h.hF,h.en,h.lt,h.sm⟩
theorem Sr.far(h:Sr F ts w b l s){bs}(O:ay bs w w')(a:∀x∈bs,x≠b/\¬F x):Sr F ts w' b l s:=
 ⟨O.blk h.blk R,ZH ju Z h.tok O R,h.hF,h.en,h.lt,h.sm⟩
def Sr.amx(h:Sr F ts w b l s){k0}(O:ay [k0] w w')(hk:k0≠b/\¬F k0):Sr F ts w' b l s:=h.far O A
def Sr.gt(h:Sr F ts w b l s){x}(c:b<x):x≠b/\¬F x:=⟨X,λa=>by have:=h.hF x a;omega⟩
theorem Sr.only(h:Sr F ts w b l s)(O:ay [] w w'):Sr F ts w' b l s:=h.own O R
theorem Sr.one(h:Sr F ts w b l s){k0}(O:ay [k0] w w')(hk:b<k0):Sr F ts w' b l s:=h.own O R
def Sr.lD(h:Sr F ts w b l s)(O:ay [b] w w')(B:aF w' b 157 (Jr l s'))(i:s'.i<WS ts):Sr F ts w' b l s':=
 ⟨B,ZH ju Z h.tok O λk hk _ hm=>Ui,h.hF,h.en,i,h.sm⟩
def Sr.lb(h:Sr F ts w b l s):b<w.heap.size:=h.blk.lt
def Sr.z(a:Sr F ts w b l s):Fz [b] w w []:=Fz.start λx h=>(by simp at h;rw[h];exact a.lb)
def Sr.big(h:Sr F ts w b l s):WS ts<=9223372036854775807:=by
 have:=h.tok.len;have:=h.tok.cap;have:=h.tok.big;omega
def Sr.wr(h:Sr F ts w b l s):ar U (s.i+1)=((s.i+1:Nat)):=by
 have:=h.big;have:=h.lt;rw[eI X X];rfl
theorem Sr.now(h:Sr F ts w b l s):∃ad,ci l s.i 4 ad/\aB w ad [O U (tk ts s.i).k,ab<|T (tk ts s.i).t,O U (tk ts s.i).n,O U (tk ts s.i).a]:=by
 have:=h.tok.len;have:=h.lt;let⟨ad,x,c,d,g,e,f,i,a⟩:=h.tok.get (bf s.i) X;rw[aV,FM h.lt]at g;injection g with g;subst g;subst a
 grind
structure Dn (F:h) (ts:List Tk) (w w':av) (b:Nat) (l:Sl) (s:Sx):Prop where
 o:ay [b] w w'
 r:Sr F ts w' b l s
def Sr.dn(h:Sr F ts w b l s):Dn F ts w w b l s:=⟨qE _ _,h⟩
def Dn.q(h:Dn F ts w w' b l s){w2}(k:ay [] w' w2):Dn F ts w w2 b l s:=⟨h.o.bG k,h.r.only k⟩
def Dn.nx(h:Dn F ts w w' b l s){w2}{s'}(k:Dn F ts w' w2 b l s'):Dn F ts w w2 b l s':=⟨h.o.trans k.o R,k.r⟩
def Dn.f(h:Dn F ts w w' b l s){w2}{k0}(k:ay [k0] w' w2)(hk:w.heap.size<=k0)(a:b<w.heap.size):Dn F ts w w2 b l s:=⟨h.o.new k hk,h.r.one k X⟩
def Sr.tk(h:Sr F ts w b l s){ad}(g:ci l s.i 4 ad):aB w ad [O U (tk ts s.i).k,ab<|T (tk ts s.i).t,O U (tk ts s.i).n,O U (tk ts s.i).a]:=by
 let⟨z,a,c⟩:=h.now;rw[g.OW a];exact c
structure Zt (F:h) (ts:List Tk) (w w':av) (b:Nat) (l:Sl) (s:Sx) (ks:List Nat):Prop where
 z:Fz [b] w w' ks
 r:Sr F ts w' b l s
section
variable{w2:av}{ks ks':J Nat}{k0:Nat}
def Sr.zt(h:Sr F ts w b l s):Zt F ts w w b l s []:=⟨h.z,h⟩
def Zt.q(h:Zt F ts w w' b l s ks)(k:ay [] w' w2):Zt F ts w w2 b l s ks:=⟨h.z.q k,h.r.only k⟩
def Zt.al(h:Zt F ts w w' b l s ks)(k:ay [] w' w2)(a:w'.heap.size<=k0)(c:k0<w2.heap.size):Zt F ts w w2 b l s (k0::ks):=⟨h.z.al k a c,h.r.only k⟩
def Zt.ad(h:Zt F ts w w' b l s ks)(c:w.heap.size<=k0)(d:k0<w'.heap.size):Zt F ts w w' b l s (k0::ks):=⟨⟨h.z.o,λx a=>by
 rcases ba.1 a with rfl|a
 .omega
 exact h.z.k x a,h.z.lo⟩,h.r⟩
def Zt.lt(h:Zt F ts w w' b l s ks)(hk:k0∈ks):b<k0:=cD (h.z.lo b N) (h.z.k k0 hk).1
def Zt.f(h:Zt F ts w w' b l s ks)(k:ay [k0] w' w2)(hk:k0∈ks):Zt F ts w w2 b l s ks:=⟨h.z.f k hk,h.r.one k<|h.lt hk⟩
def Zt.nx(h:Zt F ts w w' b l s ks)(k:Dn F ts w' w2 b l s'):Zt F ts w w2 b l s' ks:=⟨h.z.c k.o,k.r⟩
def Zt.dn(h:Zt F ts w w' b l s ks):Dn F ts w w' b l s:=⟨h.z.o,h.r⟩
def Zt.up(h:Zt F ts w w' b l s ks)(k:ay [b] w' w2)(B:aF w2 b 157 (Jr l s'))(i:s'.i<WS ts):Zt F ts w w2 b l s' ks:=⟨h.z.c k,h.r.lD k B i⟩
def Zt.sq(h:Zt F ts w w' b l s ks)(k:ay [] w' w2)(hk:∀x∈ks',x∈ks):bX ks' w' w2:=h.z.sq k hk
def Zt.sc(h:Zt F ts w w' b l s ks)(k:Dn F ts w' w2 b l s')(hk:∀x∈ks',x∈ks):bX ks' w' w2:=h.z.sc k.o hk
theorem Zt.row{gs}(h:Zt F ts w w' b l s ks)(k:ay gs w' w2)(g:∀x∈gs,w.heap.size<=x):Zt F ts w w2 b l s ks:=⟨h.z.new k R,h.r.own k λx a=>cD (h.z.lo b N)<|g x a⟩
theorem Zt.sr{gs}(h:Zt F ts w w' b l s ks)(k:ay gs w' w2)(hk:∀x∈ks',x∈ks)(g:∀x∈gs,∀y∈ks',y<x):bX ks' w' w2:=h.z.sm k hk R
def Zt.ne(h:Zt F ts w w' b l s ks)(hk:k0∈ks):k0≠b:=h.z.ne hk N
theorem Stay.q{B}(h:Stay B w w')(k:ay [] w' w2):Stay B w w2:=h.go k R
def Stay.d{B}(h:Stay B w w')(k:Dn F ts w' w2 b l s')(a:b<B):Stay B w w2:=h.go k.o A
def Stay.f{B}(h:Stay B w w')(k:ay [k0] w' w2)(hk:k0<B∨w.heap.size<=k0):Stay B w w2:=h.go k A
end
def qy(h:Sr F ts w b l s):az aq 95 #[rp b] w λe w'=>e=ak (aj<|s.fc==0)/\ay [] w w':=ret<|arm w ⟨s.fc,Hl h.blk 2 I,I,qE _ _⟩
theorem EA(h:Sr F ts w b l s) c:az aq 125 #[rp b,O U c] w λe w'=>e=ak (ai #[])/\Dn F ts w w' b l (jX ts s c):=by
 refine ret<|arA<|(qy h).mono ?_;rintro _ d ⟨rfl,T⟩;refine⟨_,I,λhc f a=>?_,λhc=>?_⟩
 .have hc:=WH
  let e:=h.only<|T.bG a;let⟨ad,g,i⟩:=e.now;refine⟨l,Hl e.blk 0 I,_,Hl e.blk 1 I,ad,g,_,i.dv 3 _ I,b,2,_,_,I,e.blk,N,λw F o=>⟨I,((T.bG a).weaken (bs':=[b]) R).trans F R,?_⟩⟩;unfold jX;rw[E hc];exact e.lD (s':={s with fc:=c,fa:=(tk ts s.i).a}) F o h.lt
 unfold jX;rw[Q WH];exact⟨I,h.dn.q T⟩
theorem xS(h:Sr F ts w b l s):az aq 96 #[rp b] w λe w'=>e=ak (ai #[])/\Dn F ts w w' b l (lN ts s):=by
 refine ret<|arn<|let⟨ad,g,d⟩:=h.now;⟨λw'=>Dn F ts w w' b l<|if(tk ts s.i).k=5 then jX ts s 3 else s,λi a=>(EA a.r 4).mono ?_,l,Hl h.blk 0 I,_,Hl h.blk 1 I,ad,g,_,d.dv 0 _ I,λhc f c=>?_,λhc f c=>?_⟩
 .rintro _ w ⟨rfl,b⟩;refine⟨I,I,a.nx ?_⟩;unfold lN
  grind
 .refine(EA (h.only c) 3).mono λ_ w ⟨rfl,b⟩=>?_;let hc:=WH
  refine⟨I,?_⟩;rw[E hc];exact(h.dn.q c).nx b
 rw[Q WH];exact h.dn.q c
theorem atj{s}{w}{G}{l}(h:aA oK 1 w G s l) c:
  az aq 177 #[Sl.v s,ab<|T c] w λr w'=>r=ak (O U<|if zm c l<WS l then zm c l else -1)/\w'=w:=by
 refine ret<|LB _ _ _<|have:=h.len;have:=h.big;have:=h.cap;⟨λv i w'=>∃n,n<=WS l/\i=n/\v=(WS l)-n/\zm c l=n+zm c (l.drop n)/\w'=w,WS l,R,?_⟩;rintro v _ _ ⟨n,b,rfl,rfl,p,rfl⟩;refine⟨λa=>?_,λa=>?_⟩
 .have J:=S a;let⟨ad,x,s,c,g,m,o,e,j⟩:=h.get X J;rw[aV]at g;subst j;let hd:l.drop n=x::l.drop (n+1):=by rw[eV (aZ.1 g).1,(aZ.1 g).2]
  rw[hd,zm]at p;refine⟨ad,c,_,e,?_⟩;dsimp only;rw[jC];refine⟨λk=>⟨?_,I⟩,λk=>⟨(WS l)-_,X,n+1,X,N0,I,?_,I⟩⟩
  .simp_all
  grind
 grind
theorem F6(k:Sr F ts w b l s){G}{q}{ss}(a:aA oK 1 w G q ss):az aq 127 #[rp b,q.v] w λe w'=>e=ak (O U<|cY ts s ss)/\ay [] w w':=by
 refine ret<|arC ?_;intro n T;let h:=k.only T;let⟨ad,i,j⟩:=h.now;refine⟨λ_=>True,trivial,l,Hl h.blk 0 I,trivial,_,Hl h.blk 1 I,ad,i,trivial,_,_,_,_,j,λm p hk z c=>(qy<|h.only c).mono ?_⟩;rintro _ r ⟨rfl,d⟩;let g:=(T.bG c).bG d;let V:((!(s.fc==0))||(((tk ts s.i).k !=2)&&((tk ts s.i).k !=4)))=JW (s.fc≠0∨((tk ts s.i).k≠2/\(tk ts s.i).k≠4)):=by
  grind
 refine⟨_,I,d.same o,?_⟩;dsimp only;rw[V];refine⟨λf=>?_,λf=>?_⟩
 .unfold cY;simp_all
 refine(atj (ZH dI Z a g N) (tk ts s.i).t).mono ?_;rintro _ w ⟨rfl,rfl⟩;refine⟨_,I,Zm _ _,?_,g⟩;unfold cY;rw[Q (aQ f)];have:=a.len;have:=a.big;have:=a.cap;split
 .rw[eI X X];rfl
 rfl
def Tl(h:Sr F ts w b l s) ss {n} {parts} (p:parts=(((ss.map λx=>Value.string<|T x).zipIdx 0).map λx=>(x.2,x.1)).toArray) (d:WS ss=n) (c:0<n) (A:n*1<=16777216):
  ∃(q:Sl) (a:av),(au 75 n parts).run aq w=.ok q.v a/\ay [] w a/\az aq 127 #[rp b,q.v] a λe w'=>e=ak (O U<|cY ts s ss)/\ay [] a w':=by
 let⟨q,a,k,f,k3⟩:=lj w ss p d c A;exact⟨q,a,k,k3,F6 (h.only k3)<|wG f⟩
theorem af2(h:Sr F ts w b l s){G}{q}{ss}(f:aA oK 1 w G q ss):az aq 92 #[rp b,q.v] w λe w'=>e=ak (O U<|cY ts s ss)/\Dn F ts w w' b l (if cY ts s ss=0 then s else eE s):=by
 refine ret<|arj<|(F6 h f).mono ?_;rintro _ g ⟨rfl,T⟩;let a:=h.only T;refine⟨_,I,λw'=>Dn F ts w w' b l _,λi d=>⟨I,d⟩,λc=>?_,λc=>?_⟩
 .have c:cY ts s ss≠0:=R
  refine⟨_,Hl a.blk 1 I,b,1,_,_,I,a.blk,N,λw F o=>?_⟩;rw[Q c];rw[h.wr]at o;exact⟨(T.weaken (bs':=[b]) R).trans F R,a.lD (s':=eE s) F o<|h.en.next h.lt (dX c).2⟩
 let c:cY ts s ss=0:=A
 rw[E c];exact h.dn.q T
def Ir(h:Sr F ts w b l s) ss {n} {parts} (p:parts=(((ss.map λx=>Value.string<|T x).zipIdx 0).map λx=>(x.2,x.1)).toArray) (d:WS ss=n) (c:0<n) (A:n*1<=16777216):
  ∃(q:Sl) (a:av),(au 75 n parts).run aq w=.ok q.v a/\ay [] w a/\az aq 92 #[rp b,q.v] a λe w'=>e=ak (O U<|cY ts s ss)/\Dn F ts a w' b l (if cY ts s ss=0 then s else eE s):=by
 let⟨q,a,k,f,k3⟩:=lj w ss p d c A;exact⟨q,a,k,k3,af2 (h.only k3)<|wG f⟩
theorem Tm(h:Sr F ts w b l s){G}{q}{x}(a:aA oK 1 w G q [x])(d:∀k,G k->k≠b):az aq 90 #[rp b,q.v] w λe w'=>e=ak (ai #[])/\Dn F ts w w' b l (gw ts s x):=by
 refine ret<|arh<|have:q.n=1:=a.len;⟨λv i w'=>(i=0/\v=1/\w'=w)∨(i=1/\v=0/\Dn F ts w w' b l (gw ts s x)),1,R,?_⟩;rintro v i c (⟨rfl,rfl,rfl⟩|⟨rfl,rfl,D⟩)
 .refine⟨λ_=>?_,A⟩;refine⟨λw'=>Dn F ts c w' b l _,λG p=>⟨0,Z,.inr ⟨I,I,p⟩⟩,?_⟩;let⟨ad,y,z,k,j,B,C,m,o⟩:=a.get (i:=0) Z X;simp at j;subst j;subst o;let⟨u,w,r,t,k3⟩:=Ir h [x] (n:=1) (parts:=#[_]) I I Z Z;refine⟨ad,k,_,m,u,w,r,k3.mono ?_⟩;rintro _ H ⟨rfl,q⟩;have e:=(h.dn.q t).nx q;refine⟨_,I,λg=>?_,λg=>?_⟩
  .have g:cY ts s [x]=0:=A
   rw[E g]at e;refine(xS e.r).mono ?_;rintro _ l ⟨rfl,b⟩;refine⟨I,?_⟩;unfold gw;rw[E g];exact e.nx b
  let g:cY ts s [x]≠0:=A
  rw[Q g]at e;unfold gw;simp_all
 grind
def vd(h:Sr F ts w b l s) x:∃(q:Sl) (a:av),(au 75 1 #[.mk 0 (ab<|T x)]).run aq w=.ok q.v a/\ay [] w a/\az aq 90 #[rp b,q.v] a λe w'=>e=ak (ai #[])/\Dn F ts a w' b l (gw ts s x):=by
 let⟨q,a,c,d,k3⟩:=lj w [x] (n:=1) (parts:=#[_]) I I Z Z;exact⟨q,a,c,k3,Tm (h.only k3) (wG d) λk hk e=>(by have:=hk.1;have:=h.lb;omega)⟩
theorem Bk(h:Sr F ts w b l s){k}(t:k≠5):az aq 126 #[rp b,O U k] w λe w'=>e=ak (jb ts s k).1.v/\Dn F ts w w' b l (jb ts s k).2:=by
 refine ret<|arB ?_;intro q u hk o T;let a:=h.only T;let⟨ad,j,m⟩:=a.now;refine⟨λ_=>True,trivial,l,Hl a.blk 0 I,trivial,_,Hl a.blk 1 I,ad,j,trivial,_,_,_,_,m,λr v Z n f=>let z:=(h.z.al T hk o).al f Z n;(qy<|a.only f).mono ?_⟩;rintro _ x ⟨rfl,g⟩;let p:=z.q g;let i:=h.lb;let d:=h.dn.q<|(T.bG f).bG g;let V:((!(s.fc==0))||((tk ts s.i).k !=k))=JW (s.fc≠0∨(tk ts s.i).k≠k):=by
  grind
 refine⟨_,I,z.sq g N,?_⟩;dsimp only;rw[V];refine⟨λc=>(xS d.r).mono ?_,λc=>?_⟩
 .rintro _ w ⟨rfl,b⟩;refine⟨I,p.sc b.o N,λe B=>?_⟩;unfold jb;rw[E (S c)];exact⟨I,(d.nx b).f B hk i⟩
 refine⟨_,Hl d.r.blk 1 I,b,1,_,_,I,d.r.blk,N,X,X,λB e y C A=>?_⟩;have c:=aQ c;unfold jb;rw[Q c];simp at c;rw[h.wr]at y;let k:Dn F ts w B b l (eE s):=⟨d.o.trans e R,d.r.lD e y<|h.en.next h.lt X⟩
 exact⟨I,k.f A hk i⟩
def Bl(h:Sr F ts w b l s):az aq 179 #[rp b] w λe w'=>e=ak (ab<|T (lh ts s).1)/\Dn F ts w w' b l (lh ts s).2:=by
 refine ret<|ar4<|(Bk h (k:=1) Z).mono ?_;rintro _ c ⟨rfl,a⟩;exact⟨_,_,_,_,I,I,a⟩
def _root_.Go.Kt.Blk.X7{w}{b}{t}{cs}{v}(h:aF w b t cs) j (x:cs[j]? =aM v):aB w ⟨b,j,VM⟩ [v]:=by
 have:=Hl h j x;rwa[jS,bS]at this
theorem Kz(h:Sr F ts w b l s) j x c u (d:(Jr l s)[j]? =aM (.int U x)) (D:(Jr l<|jX ts s c)[j]? =aM (.int U x)) (i:u.i=s.i)
  (f:Jr l u=fX (Jr l<|if x=0 then jX ts s c else s) j [O U (Cx x)]):az aq 124 #[rp b,ae<|aM ⟨b,j,VM⟩,O U c] w λe w'=>e=ak (ai #[])/\Dn F ts w w' b l u:=by
 refine ret<|arz ⟨λw'=>Dn F ts w w' b l<|if x=0 then jX ts s c else s,λg a=>?_,_,I,x,Blk.X7 h.blk j d,λhc=>?_,λhc=>?_⟩
 .refine⟨_,I,x,Blk.X7 a.r.blk j R,_,I,b,j,_,_,I,a.r.blk,(aZ.1 d).1,λw U v=>⟨I,a.o.trans U R,a.r.lD U (s':=u) ?_<|by rw[i];exact h.lt⟩⟩;rw[f];exact v
 .refine(EA h c).mono ?_;simp_all
 rw[Q WH];exact h.dn
def alf(h:Sr F ts w b l s):az aq 124 #[rp b,ae<|aM ⟨b,8,VM⟩,O U 2] w λe w'=>e=ak (ai #[])/\Dn F ts w w' b l (Cy ts s):=
 Kz h 8 s.a 2 _ I OG (Kk s) (by unfold Cy jX;split<;>(rfl)<;>rfl)
def alg(h:Sr F ts w b l s):az aq 124 #[rp b,ae<|aM ⟨b,7,VM⟩,O U 2] w λe w'=>e=ak (ai #[])/\Dn F ts w w' b l (wa ts s):=
 Kz h 7 s.m 2 _ I OG (Kl s) (by unfold wa jX;split<;>(rfl)<;>rfl)
def alh(h:Sr F ts w b l s):az aq 124 #[rp b,ae<|aM ⟨b,5,VM⟩,O U 2] w λe w'=>e=ak (ai #[])/\Dn F ts w w' b l (Hx ts s):=
 Kz h 5 s.n 2 _ I OG (by unfold Hx;split;exact Kg 2;rfl) (by unfold Hx jX;split<;>(rfl)<;>rfl)
def ali(h:Sr F ts w b l s):az aq 124 #[rp b,ae<|aM ⟨b,4,VM⟩,O U 2] w λe w'=>e=ak (ai #[])/\Dn F ts w w' b l (Hy ts s):=
 Kz h 4 s.v 2 _ I OG (by unfold Hy;split;exact Kg 2;rfl) (by unfold Hy jX;split<;>(rfl)<;>rfl)
theorem Ca(h:Sr F ts w b l s):az aq 225 #[rp b] w λe w'=>∃c,e=ak (ah c.toArray)/\rE aE w' (Fr w.heap.size) (qG ts s).1 c/\Dn F ts w w' b l (qG ts s).2:=by
 refine(ass ⟨b,0,VM⟩ (λv w'=>∃c,v=(ah c.toArray)/\rE aE w' (Fr w.heap.size) (qG ts s).1 c/\Dn F ts w w' b l (qG ts s).2) w ?_).mono (by
  simp_all)
 intro a q hk n T;let g:=h.lb;let z:=h.z.al T hk n;refine(qy<|h.only T).mono ?_;rintro _ r ⟨rfl,U⟩;let j:=h.dn.q<|T.bG U;refine⟨_,I,z.sq U N,λhc t m=>?_,λhc o f=>?_⟩
 .have hc:s.fc≠0:=WH
  unfold qG;rw[E hc];exact⟨_,I,ZI ..,j.f m hk g⟩
 let hc:¬s.fc≠0:=WH
 let z3:=(z.q U).q f;let L:=j.q f;refine⟨λk=>k=b,λw4 B=>⟨I,l,Hl (L.q B).r.blk 0 I,λw5 V=>⟨I,_,Hl ((L.q B).q V).r.blk 1 I,λZ C=>let z6:=((z3.q B).q V).q C;let M:=((L.q B).q V).q C;have:=M.r.big;let K:=h.lt;(vI M.r.tok s.i ⟨X,X⟩).mono ?_⟩⟩⟩;rintro _ w7 ⟨c,rfl,G,hj,D⟩;let⟨sl,Y,_⟩:=G.cells;have:o.heap.size<=Z.heap.size:=((B.bG V).bG C).size;refine⟨_,_,_,_,sl,_,_,_,_,by rw[Y],z6.sq D N,VV D,ZX D,λw8 P v kZ jl Vh=>?_⟩;let⟨d,G⟩:=G.xg;let W:rE aE w7 (λk=>Z.heap.size<=k/\k<w7.heap.size) (cG ts s.i).1 c:=⟨d,G⟩
 have:=bC z3.o.size kZ;have:=X
 let y:=(M.q D).q P;have:=z6.o.size;have:=X
 have:=((U.bG f).bG<|(B.bG V).bG C).size;let u:∀{bs:J Nat} {H:av},ay bs w8 H->(∀x∈bs,x=v∨x=a∨x=b)->rE aE H (Fr w.heap.size) (cG ts s.i).1 c:=λe S=>
  (jI aE).mono ((jI aE).keep W λk b K=>(e.block k (cD K P.size) λd=>by
   rcases S k d with rfl|rfl|rfl
   .have:=Vh.one;omega
   .omega
   omega).trans<|P.block k K N) X
 unfold qG;rw[Q hc];refine⟨λh1 H e=>?_,λh1 ey O=>?_⟩
 .have h1:(cG ts s.i).2.2.1≠0:=Q1
  let i:Dn F ts w H b l s:=⟨y.o.trans e A,y.r.own e R⟩
  refine⟨b,2,_,_,I,i.r.blk,N,X,X,λdh k pz dE x=>?_⟩;rw[E h1];have d:Dn F ts w dh b l {s with fc:=(cG ts s.i).2.2.1,fa:=(cG ts s.i).2.2.2}:=⟨i.o.trans k R,i.r.lD k pz h.lt⟩
  refine⟨c,by rw[Y],?_,d.f x hk g⟩;exact u (bs:=[v,a,b]) (((e.weaken (bs':=[v,a,b]) A).trans k A).trans x A) N
 let h1:¬(cG ts s.i).2.2.1≠0:=Q1
 have d:Dn F ts w ey b l s:=⟨y.o.trans O A,y.r.own O R⟩
 let⟨cc,bJ⟩:=hj Q1;let gz:((cG ts s.i).2.1.toNat)=(cG ts s.i).2.1:=X
 refine⟨b,1,_,_,I,d.r.blk,N,X,X,λff x yr fS dQ=>?_⟩;rw[Q h1];have k:Dn F ts w ff b l {s with i:=(cG ts s.i).2.1.toNat}:=⟨d.o.trans x R,d.r.lD x (by dsimp only[Jr];rw[gz];exact yr) P0⟩
 refine⟨c,by rw[Y],?_,k.f dQ hk g⟩;exact u (bs:=[v,a,b]) (((O.weaken (bs':=[v,a,b]) A).trans x A).trans dQ A) N
end
def atk{n:Nat}(h:((n:Int)==0)=aE):n=0:=YW
def atl{n:Nat}(h:((n:Int)==0)=aL):n≠0:=R
def Wj{n:Nat}(h:JW ((n:Int)>0)=aL):n=0:=A
def Wl{n:Nat}(h:JW ((n:Int)>0)=aE):n≠0:=R
section
variable{F:h}{ts:J Tk}{w w':av}{b:Nat}{l:Sl}{s s':Sx}
theorem alj(i:Sr F ts w b l s):az aq 228 #[rp b] w λe w'=>∃g,e=ak (ah g.toArray)/\wI aE w' (Fr w.heap.size) (uT ts s).1 g/\Dn F ts w w' b l (uT ts s).2:=by
 refine jK<|asv ?_;intro k W hk J z;have t:=i.zt.al z hk J;let⟨ad,p,_⟩:=i.now;refine⟨λ_=>True,λY c=>⟨trivial,l,Hl (t.q c).r.blk 0 I,λw2 o=>⟨trivial,_,Hl ((t.q c).q o).r.blk 1 I,ad,p,λw3 A=>have u:=((t.q c).q o).q A;⟨trivial,_,(u.r.tk p).dv 3 _ I,λL B=>?_⟩⟩⟩⟩;have v:=u.q B;let⟨q,M,a,K,d⟩:=lj L [uR,my,ol] (n:=3) (parts:=#[(0,ab _),_,_]) I I Z Z;refine⟨q,M,a,v.sq d N,VV d,ZX d,λw6 r=>have m:=(v.q d).q r;(F6 m.r<|ZH dI Z (wG K) r N).mono ?_⟩;rintro _ w7 ⟨rfl,f⟩;refine⟨_,I,m.sq f N,VV f,ZX f,λw8 D j S H V=>have y:=((m.q f).q D).ad X H;⟨λh w9 C=>?_,λh P G=>?_⟩⟩
 .have b:=y.f C N;refine(xS b.r).mono ?_;rintro _ q ⟨rfl,e⟩;refine⟨I,b.sc e N,λn l=>?_⟩;have h:=atk h;unfold uT;rw[E h,h];exact⟨_,I,⟨qS 0 0 [] 0 Sl.nil 0,I,ZI ..⟩,((b.nx e).f l N).dn⟩
 have h:=atl h;have n:=y.f G N;refine(alf n.r).mono ?_;rintro _ ff ⟨rfl,xq⟩;have am:=n.nx xq;refine⟨I,n.sc xq N,(qy am.r).mono ?_⟩;rintro _ fS ⟨rfl,dQ⟩;have e:=am.q dQ;unfold uT;rw[Q h];refine⟨_,I,am.sq dQ N,λhf gz ik=>?_,λhf=>?_⟩
 .have hf:=Zu
  rw[E hf];exact⟨_,I,⟨qS 0 0 [] 0 Sl.nil 0,I,ZI ..⟩,(e.f ik N).dn⟩
 have hf:¬(Cy ts s).fc≠0:=Zu
 rw[Q hf];refine⟨_,Hl e.r.blk 1 I,b,1,_,_,I,e.r.blk,N,e.ne N,e.ne N,λiA iE aT=>?_⟩;rw[e.r.wr]at aT;have aS:Zt F ts w iA b l (eE _) [j,k]:=e.up iE aT (i.en.next e.r.lt<|by rw[Kk];exact(dX h).2);refine(Bl aS.r).mono ?_;rintro _ fV ⟨rfl,bJ⟩;refine⟨_,I,aS.sc bJ N,λiW jO=>?_⟩;have aC:=(aS.nx bJ).f jO N;generalize (lh ts<|eE _).2=bV at*
 generalize (lh ts<|eE _).1=nm at*
 generalize cY ts s [uR,my,ol]=kk at*
 generalize (tk ts s.i).a=aa at*
 refine⟨λi4 s1 i5 i6 s2 i7 l2 i8 i9 w'=>∃(x:Ex) (u':Sx),i4=(kk:Int)/\s1=T nm/\i9=aa/\rE aE w' (Fr iW.heap.size) x [O U i5,O U i6,ab s2,O U i7,l2.v,O U i8]/\Zt F ts w w' b l u' [j,k]/\QB ts bV kk nm aa=(⟨kk,nm,x,aa⟩,gw ts u' [59])/\iW.heap.size<=w'.heap.size,?_,λyq=>?_,λyq=>?_⟩
 .rintro i4 s1 i5 i6 s2 i7 l2 i8 i9 kf ⟨x,u',rfl,rfl,rfl,hx,l,T,bY⟩;let⟨q,je,a,w,hm⟩:=vd l.r [59];refine⟨q,je,a,l.sq w N,hm.mono ?_⟩;rintro _ ky ⟨rfl,b⟩;have s:=l.q w;refine⟨I,s.sc b N,λnK F=>?_⟩;rw[T];have k8:=aC.z.k k N;refine⟨_,I,⟨[O U i5,O U i6,ab s2,O U i7,l2.v,O U i8],I,?_⟩,((s.nx b).f F N).dn⟩;exact(jI aE).low ((jI aE).stay hx<|(((Cf _ _).q w).d b aC.r.lb).f F X) aC.z.o.size
 .have yq:¬kk=2:=R
  obtain⟨q,nL,a,O,U⟩:=vd aC.r [61];refine⟨q,nL,a,aC.sq O N,U.mono ?_⟩;rintro _ pe ⟨rfl,b⟩;have s:=aC.q O;have l:=s.nx b;refine⟨I,s.sc b N,(Ca l.r).mono ?_⟩;rintro _ lS ⟨g,rfl,T,x⟩;obtain⟨sl,rfl⟩:=fK T;refine⟨_,_,_,_,sl,_,I,l.sc x N,λqj F=>have w:iW.heap.size<=pe.heap.size:=bC O.size b.o.size;have k8:=aC.z.k j N;⟨_,_,I,I,I,(jI aE).low ((jI aE).stay T<|(Cf _ _).f F X) w,(l.nx x).f F N,?_,bC w<|bC x.o.size F.size⟩⟩;unfold QB;rw[Q yq]
 have yq:=by simpa using yq
 have yq:kk=2:=X
 refine⟨Ad,bV,I,I,I,ZI ..,aC,?_,X⟩;unfold QB;rw[E yq]
abbrev AcO(B:Nat)(w:av)(l:Sl)(a:J Ac):Prop:=Own (wI aE) 9 201 B w (Fr B) l a
structure Br (F:h) (ts:List Tk) (w w':av) (b:Nat) (l:Sl) (k0 k1 B:Nat) (s:Sx) (acc:List Ac) (la:Sl):Prop where
 r:Sr F ts w' b l s
 b0:aF w' k0 151 [rp b]
 b1:aF w' k1 23 [la.v]
 own:AcO B w' la acc
 o:∃gs,ay (b::k1::gs) w w'/\∀x,x∈gs->B<=x
 n0:b<k0
 n1:b<k1
 n01:k0≠k1
 l0:k0<B
 l1:k1<B
 lB:B<=w'.heap.size
section
variable{k0 k1 B:Nat}{acc:J Ac}{la:Sl}{w2:av}
def Br.nx(h:Br F ts w w' b l k0 k1 B s acc la)(k:Dn F ts w' w2 b l s'):Br F ts w w2 b l k0 k1 B s' acc la:=by
 let n:=h.n0;let e:=h.n1;let d:=h.l0;let⟨g,a,c⟩:=h.o;exact⟨k.r,k.o.blk h.b0 V6,k.o.blk h.b1 V6,h.own.stay (dU aE) k.o R,
  ⟨g,a.trans k.o A,c⟩,n,e,h.n01,d,h.l1,bC h.lB k.o.size⟩
def Br.q(h:Br F ts w w' b l k0 k1 B s acc la)(k:ay [] w' w2):Br F ts w w2 b l k0 k1 B s acc la:=h.nx<|h.r.dn.q k
theorem alk(h:Br F ts w w' b l k0 k1 B s acc la)(hm:WS acc<WS ts):az aq 227 #[ae (aM ⟨k1,0,VM⟩),ae<|aM ⟨k0,0,VM⟩] w' λe w2=>e=ak (ai #[])/\∃m,Br F ts w w2 b l k0 k1 B (uT ts s).2 (acc++[(uT ts s).1]) m:=by
 refine ret<|asu ?_;intro w0 T;have d:=h.q T;have E:=h.n1;have Y:=h.l1;refine⟨λk=>k=k1,I,la,d.b1.X7 0 I,_,d.b0.X7 0 I,(alj d.r).mono ?_⟩;rintro _ w1 ⟨cs,rfl,p,z⟩;have W:=d.nx z;generalize AI:(uT ts s).1=c at*
 generalize (uT ts s).2=s1 at*
 have Q:=p;obtain⟨xc,rfl,L⟩:=Q;obtain⟨sl,rfl⟩:=fK L;have Av:=h.r.sm;have U:=d.own.len;let⟨y,w2,M,q,m,H,S,qO,⟨o,u,G5⟩,_⟩:=iO (P:=aq) (t:=23) (ty:=23) (e:=201) (i:=t201) (bytes:=104) (size:=9) (v:=ah (TC c.k c.n (qS c.x.k c.x.n c.x.s c.x.op sl c.x.a) c.a).toArray) (x:=c) (G:=Fr w0.heap.size) D D I I I I Z Z Z (dU aE) W.own W.lB I p (λk hk _=>⟨bC d.lB hk,d.own.new hk⟩) X;have a:=(q.weaken (bs':=o) R).trans u R;have K:∀g∈o,B<=g:=R
 refine⟨_,_,_,_,_,_,sl,_,_,I,λk hk J=>(by subst hk;exact z.o.block k J R),y,w2,M,ZX q,m,H,S,λk hk J=>(by subst hk;exact u.block k J R),k1,0,_,_,I,a.blk W.b1 R,N,λw4 f uw=>⟨I,m,?_⟩⟩;have n:=h.n01;have C:=h.l0;have z3:=a.size;have z4:=f.size;have V:=W.lB;have O:∀{x:Nat},x<B->x≠k1->w4.heap[x]? =w1.heap[x]? :=λp hn=>(f.block _ X ZP).trans<|a.block _ X R;let⟨j,o1,o2⟩:=W.o;have r:Sr F ts H b l s1:=W.r.own a R;refine⟨r.one f E,(O C n).trans W.b0,uw,?_,⟨o++j,(((o1.weaken (bs':=b::k1::(o++j)) A).trans a R)).trans f A,λx p=>?_⟩,h.n0,E,n,C,Y,X⟩
 .refine((qO.mono (dU aE) λk hk=>?_).stay (dU aE) f A);omega
 grind
theorem aag(f:Nat)(g:Br F ts w w' b l k0 k1 B s acc la)(i:mu ts s<f)(j:WS acc+mu ts s<=WS ts):
  az aq 226 #[rp b,ab<|ao #[125],.func (.func 227) #[] #[ae (aM ⟨k1,0,VM⟩),ae<|aM ⟨k0,0,VM⟩]] w' λe w2=>e=ak (ai #[])/\∃P,Br F ts w w2 b l k0 k1 B (sI ts f acc s).2 (sI ts f acc s).1 P:=by
 refine ret<|ast ⟨b,0,VM⟩ ⟨.func _ #[] #[ae _,ae<|aM ⟨k0,0,VM⟩],I⟩ w' ?_;generalize N:sI ts f acc s=r;refine⟨λv w2=>∃s' a P,Br F ts w w2 b l k0 k1 B s' a P/\sI ts v a s'=r/\mu ts s'<v/\WS a+mu ts s'<=WS ts,f,R,λv k ⟨s',a,P,h,c,d,Y⟩=>?_⟩;obtain⟨m,rfl⟩:∃m,v=m+1:=⟨v-1,X⟩
 rw[sI]at c;refine⟨λo w2=>(o=aE/\s'.fc=0/\cY ts s' [[125]]=0/\Br F ts w w2 b l k0 k1 B s' a P)∨(o=aL/\Br F ts w w2 b l k0 k1 B r.2 r.1 P),?_,(qy h.r).mono ?_⟩
 .rintro o e (⟨rfl,f,w,b⟩|⟨rfl,b⟩)
  .refine⟨λ_=>⟨227,[],[_,_],I,ia D,?_⟩,R⟩;rw[Q (by simp[f]),Q<|by simp[w]]at c;have:=ak8 h.r.en f h.r.lt;let l:mu ts s'<=WS ts:=X
   refine(alk b X).mono ?_
   grind
  grind
 rintro _ w ⟨rfl,B⟩;let b:=h.q B;refine⟨_,I,λhc=>?_,λhc=>?_⟩
 .have hc:s'.fc=0:=WH
  rw[Q (by simp[hc])]at c;let⟨q,l,f,V,hk⟩:=Ir b.r [[125]] (n:=1) (parts:=#[(0,ab<|T [125])]) I I Z Z;refine⟨q,l,f,hk.mono λ_ p ⟨rfl,e⟩=>?_⟩;let e:=(b.q V).nx e
  grind
 grind
end
theorem F7(h:Sr F ts w b l s):az aq 180 #[rp b] w λe w'=>∃c,e=ak c.v/\lq aE (wI aE) 9 201 w' (Fr w.heap.size) c (lO ts s).1/\Dn F ts w w' b l (lO ts s).2:=by
 refine jK<|ar5 λn o A H C Z k T=>?_;let t:=((h.zt.q T).ad H C).ad Z k;obtain⟨q,r,j,U,m⟩:=vd t.r [123];refine⟨q,r,j,t.sq U N,m.mono λ_ f ⟨rfl,g⟩=>let i:=t.q U;let d:=i.nx g;⟨I,i.sc g N,λY v=>?_⟩⟩;have:=h.lb;let B:Br F ts f f b l n o f.heap.size _ [] Sl.nil:=
  ⟨d.r,Y,v,E7 ..,⟨[],qE _ _,λ_ h=>VI⟩,X,X,λe=>(by subst e;have:=Y.symm.trans v;simp at this),Y.lt,v.lt,X⟩
 refine(aag (WS ts+1) B (by unfold mu;split<;>omega)<|by rw[ck,bS];unfold mu;split<;>omega).mono ?_;rintro _ D ⟨rfl,c,a⟩;let z:=d.z.o.size;let⟨u,p,y⟩:=a.o;refine⟨I,_,a.b0,_,a.b1,c,I,?_,?_,a.r⟩
 .exact(a.own.sl (dU aE) X).low (dU aE) z
 exact d.z.o.trans p R
end
section
variable{F:h}{ts:J Tk}{w w':av}{b:Nat}{l:Sl}{s s':Sx}
structure MvX (A:Nat) (w:av) (m:Mv) (k:Int) (ev:M) (wt:Int) (gd:Bool) (gc:aI) (uv:Sl) (a:Int):Prop where
 e1:k=m.k
 e2:ev=T m.ev
 e3:wt=m.wt
 e4:gd=m.gd
 e5:a=m.a
 g:rE aE w (Fr A) m.g gc
 x:lq aE (wI aE) 9 201 w (Fr A) uv m.acts
def MvX.stay{A}{m}{k}{ev}{wt}{gd}{gc}{uv}{a}(h:MvX A w m k ev wt gd gc uv a)(s:Stay A w w'):MvX A w' m k ev wt gd gc uv a:=
 ⟨h.e1,h.e2,h.e3,h.e4,h.e5,(jI aE).stay h.g s,h.x.stay (dU aE) Z s⟩
def xT ts s:mu ts s<=WS ts:=by unfold mu;split<;>omega
def F8(h:Sr F ts w b l s){ss}(a:cY ts s ss≠0):s.i+1<WS ts:=h.en.next h.lt (dX a).2
theorem af3(h:Sr F ts w b l s){k:Int}(hk:(tk ts s.i).k≠5):az aq 178 #[rp b,O U k] w λe w'=>∃j,e=ak (ah j.toArray)/\Nq aE w' (Fr w.heap.size) (rl ts k s).1 j/\Dn F ts w w' b l (rl ts k s).2:=by
 refine jK<|ar3 ?_;intro a W H C u;have f:=h.zt.al u H C;let⟨ad,K,M⟩:=f.r.now;refine⟨λ_=>True,trivial,l,Hl f.r.blk 0 I,trivial,_,Hl f.r.blk 1 I,ad,K,trivial,_,M.dv 3 _ I,λc Y V S z=>have m:=f.al z V S;(alg m.r).mono ?_⟩;rintro _ w2 ⟨rfl,r⟩;have o:=m.nx r;refine⟨I,m.sc r N,(qy o.r).mono ?_⟩;rintro _ w3 ⟨rfl,p⟩;have d:=o.q p;unfold rl;refine⟨_,I,o.sq p N,λhf w4 B=>?_,λhf=>?_⟩
 .have hf:(wa ts s).fc≠0:=Zu
  rw[E hf];exact⟨_,I,⟨qS 0 0 [] 0 Sl.nil 0,Sl.nil,Sl.nil,I,ZI ..,Wc ..,Wc ..⟩,(d.f B N).dn⟩
 have hf:¬(wa ts s).fc≠0:=Zu
 rw[Q hf];refine⟨_,Hl d.r.blk 1 I,b,1,_,_,I,d.r.blk,N,d.ne N,d.ne N,λw5 dV yp=>?_⟩;rw[d.r.wr]at yp;have t5:Zt F ts w w5 b l (eE<|wa ts s) [c,a]:=d.up dV yp (h.en.next d.r.lt<|by rw[Kl];exact hk);have hA:=t5.z.o.size;have bY:=(t5.z.k a N).2;have cc:=(t5.z.k c N).2;have aT:=t5.r.lb;generalize bv:w5.heap.size=aS at*
 generalize (tk ts s.i).a=aa at*
 generalize eE (wa ts s)=me at*
 generalize hR:(if k=1 then sJ ts {Z1 k aa with ev:=(lh ts me).1} (lh ts me).2 else if k=3 then sJ ts {Z1 k aa with wt:=(jb ts me 3).1.n} (jb ts me 3).2 else sJ ts (Z1 k aa) me)=bV;have x0:∀{w':av} {ev:L} {wt:Int},MvX aS w' {Z1 k aa with ev:=ev,wt:=wt} k (T ev) wt aL (qS 0 0 [] 0 Sl.nil 0) Sl.nil aa:=⟨I,I,I,I,I,ZI ..,Wc ..⟩
 refine⟨λi3 s0 i4 b1 i5 i6 s1 i7 l1 i8 l2 l3 i9 w'=>∃(am:Mv) (aC:Sx),MvX aS w' am i3 s0 i4 b1 [O U i5,O U i6,ab s1,O U i7,l1.v,O U i8] l2 i9/\am.gd=aL/\am.tg=[]/\l3=Sl.nil/\Zt F ts w w' b l aC [c,a]/\sJ ts am aC=bV/\aS<=w'.heap.size,?_,λhc=>?_,λhc=>⟨λiH=>?_,λiH=>?_⟩⟩;rotate_left
 .have hc:k=1:=WH
  refine(Bl t5.r).mono ?_;rintro _ l ⟨rfl,b⟩;have t:=t5.nx b;refine⟨_,I,t5.sc b N,λg e=>?_⟩;rw[E hc]at hR;exact⟨_,_,x0,I,I,I,t.f e N,hR,by rw[<-bv];exact bC b.o.size e.size⟩
 .have hc:¬k=1:=WH
  have iH:k=3:=Ox
  refine(Bk t5.r (k:=3) Z).mono ?_;rintro _ w ⟨rfl,b⟩;have t:=t5.nx b;refine⟨_,_,_,_,I,t5.sc b N,λg e=>?_⟩;rw[Q hc,E iH]at hR;exact⟨_,_,x0,I,I,I,t.f e N,hR,by rw[<-bv];exact bC b.o.size e.size⟩
 .have hc:¬k=1:=WH
  have iH:¬k=3:=Ox
  rw[Q hc,Q iH]at hR;exact⟨_,_,x0,I,I,I,t5,hR,X⟩
 rintro i3 s0 i4 b1 i5 i6 s1 i7 l1 i8 l2 l3 i9 w6 ⟨am,aC,hx,k8,ob,rfl,t6,hR,z6⟩;unfold sJ at hR;let⟨q,pe,e1,vB,hm⟩:=Ir t6.r [[91]] (n:=1) (parts:=#[(0,ab<|T [91])]) I I Z Z;have ce:=t6.q vB;refine⟨λi3 s0 i4 b1 i5 i6 s1 i7 l1 i8 l2 l3 i9 w'=>∃(am:Mv) (aC:Sx),MvX aS w' am i3 s0 i4 b1 [O U i5,O U i6,ab s1,O U i7,l1.v,O U i8] l2 i9/\am.tg=[]/\l3=Sl.nil/\Zt F ts w w' b l aC [c,a]/\Dx ts am aC=bV/\aS<=w'.heap.size,?_,q,pe,e1,t6.sq vB N,hm.mono ?_⟩;rotate_left
 .rintro _ b ⟨rfl,n⟩;have t:=ce.nx n;have s:Stay aS w6 b:=((Cf aS w6).q vB).d n aT;refine⟨_,I,ce.sc n N,λhc q l=>?_,λhc P O=>?_⟩
  .have nj:=Wl hc;rw[Q nj]at hR t;have k:=t.f l N;have w:=s.f l X;have co:=w.sz;refine(Ca k.r).mono ?_;rintro _ vw ⟨j,rfl,hg,i⟩;obtain⟨sl,rfl⟩:=fK hg;have G:=k.nx i;refine⟨_,_,_,_,sl,_,I,k.sc i N,λxn U=>have v:=G.f U N;let⟨q2,B3,e2,F,uq⟩:=vd v.r [93];have y:=v.q F;⟨q2,B3,e2,v.sq F N,uq.mono ?_⟩⟩;rintro _ L2 ⟨rfl,e⟩;have T:=y.nx e;have x:=(((w.d i aT).f U X).q F).d e aT;refine⟨I,y.sc e N,{am with gd:=aE,g:=(qG ts<|eE aC).1},_,⟨hx.e1,hx.e2,hx.e3,hc,hx.e5,?_,hx.x.stay (dU aE) Z x⟩,ob,I,T,hR,bC z6 x.sz⟩;exact(jI aE).low ((jI aE).stay hg<|(((Cf _ _).f U X).q F).d e X) X
  have v:=Wj hc;rw[E v]at hR t;have g:=s.f O X;have e:=hx.stay g;exact⟨am,aC,⟨e.e1,e.e2,e.e3,by rw[hc,k8],e.e5,e.g,e.x⟩,ob,I,t.f O N,hR,bC z6 g.sz⟩
 clear hx k8 ob t6 hR z6 hm ce;rintro i3 s0 i4 b1 i5 i6 s1 i7 l1 i8 l2 l3 i9 w7 ⟨am,aC,hx,ob,rfl,t7,hR,z7⟩;unfold Dx at hR;let⟨q,je,e1,iL,hm⟩:=Tl t7.r [[123]] (n:=1) (parts:=#[(0,ab<|T [123])]) I I Z Z;have cC:=t7.q iL;refine⟨λi3 s0 i4 b1 i5 i6 s1 i7 l1 i8 l2 l3 i9 w'=>∃(am:Mv) (aC:Sx),MvX aS w' am i3 s0 i4 b1 [O U i5,O U i6,ab s1,O U i7,l1.v,O U i8] l2 i9/\l3=Sl.nil/\Zt F ts w w' b l aC [c,a]/\FU ts am aC=bV/\aS<=w'.heap.size,?_,q,je,e1,t7.sq iL N,hm.mono ?_⟩;rotate_left
 .rintro _ k ⟨rfl,i⟩;have t:=cC.q i;have s:Stay aS w7 k:=((Cf aS w7).q iL).q i;have b:=s.sz;refine⟨_,I,cC.sq i N,λhc=>(F7 t.r).mono ?_,λhc=>?_⟩
  .rw[Q (Wl hc)]at hR;rintro _ w ⟨v,rfl,l,e⟩;have q:=t.nx e;refine⟨v,I,t.sc e N,λx n=>have g:=(s.d e aT).f n X;⟨{am with acts:=(lO ts aC).1},_,⟨hx.e1,hx.e2,hx.e3,hx.e4,hx.e5,(jI aE).stay hx.g g,?_⟩,I,q.f n N,hR,bC z7 g.sz⟩⟩;exact(l.stay (dU aE) Z<|(Cf _ _).f n X).low (dU aE) X
  rw[E (Wj hc)]at hR;exact⟨am,aC,hx.stay s,I,t,hR,bC z7 b⟩
 clear hx ob t7 hR z7 hm cC;rintro iN s4 iS b3 ld lE s5 lT l7 mt l8 l9 mK w8 ⟨am,aC,hx,rfl,t8,hR,z8⟩;unfold FU at hR;have iD:b<w8.heap.size:=X
 refine⟨λnv sg gT s7 g8 b4 eQ fd s8 gE gO gG qh rn g9 w'=>∃(x:L) (el:J (L)) (u':Sx),sg=T x/\MvX aS w8 am gT s7 g8 b4 [O U eQ,O U fd,ab s8,O U gE,gO.v,O U gG] qh g9/\Stay aS w8 w'/\Own oK 1 9 w8.heap.size w' (Fr w8.heap.size) rn el/\Zt F ts w w' b l u' [c,a]/\uU ts nv x el u'=uU ts (WS ts+1) [45,62] [] aC/\mu ts u'<nv/\WS el+mu ts u'<=WS ts,WS ts+1,⟨[45,62],[],aC,I,hx,Cf _ _,E7 ..,t8,I,AJ<|xT _ _,Uv⟩,?_⟩;clear hx;rintro nv sg gT s7 g8 b4 eQ fd s8 gE gO gG qh rn g9 w9 ⟨x,el,u',rfl,hx,hS,qO,t9,hT,iF,zr⟩;obtain⟨m',rfl⟩:∃m',nv=m'+1:=⟨nv-1,X⟩
 rw[uU]at hT;let⟨q,dh,e1,dy,uq⟩:=Ir t9.r [x] (n:=1) (parts:=#[(0,ab<|T x)]) I I Z Z;have ip:=t9.q dy;refine⟨q,dh,e1,t9.sq dy N,uq.mono ?_⟩;rintro _ dE ⟨rfl,Xv⟩;have dO:=ip.nx Xv;refine⟨_,I,ip.sc Xv N,λhc ey eG=>?_,λhc=>?_⟩
 .have hc:=Wl hc;rw[Q hc]at hT dO;have l:=dO.q eG;refine⟨λk=>k=c,I,(Bl l.r).mono ?_⟩;rintro _ ff ⟨rfl,O⟩;have n:=l.nx O;have fx:ay [b] w9 ff:=(((dy.weaken (bs':=[b]) R).trans Xv.o R).bG eG).trans O.o R;have xp:=hS.sz;have z9:=fx.size;have Av:=h.sm;have Dk:=X
  have oF:=tS h.en (dX hc).1 t9.r.lt (dX hc).2 (tR h.en (s:=eE u')).toOn0;let⟨y,fS,e2,w,qj,gz,e3,nO,⟨gs,F,G5⟩,_⟩:=iO (P:=aq) (t:=75) (ty:=75) (e:=9) (i:=Tryz.t9) (bytes:=16) (size:=1) (v:=ab<|T (lh ts<|eE u').1) (x:=(lh ts<|eE u').1) (G:=λ_=>False) D D I I I I Z Z Z dI (qO.stay dI fx A) X I I R X;have U:∀g∈gs,w8.heap.size<=g:=R
  have oN:=t8.z.o.size;have q:=n.q w;have n8:=q.row F R;have nk:=t8.ne (k0:=c) N;refine⟨_,I,l.sc O N,λk hk bJ=>(by subst hk;exact O.o.block k bJ<|by simpa using nk),y,fS,e2,n.sq w N,ZX w,qj,gz,e3,q.sr F N<|λx hx y hy=>?_,λk hk bJ=>(by subst hk;exact F.block k bJ R),λiA iE=>⟨m',X,[44],_,_,I,hx,?_,?_,n8.f iE N,hT,X,?_⟩⟩
  .have:=U x hx;simp only[ba,cy,fQ]at hy;omega
  .exact(((hS.go fx A).q w).go F R).f iE X
  .refine((nO.mono dI λk hk=>?_).stay dI iE R);rcases hk with hk|hk
   .exact hk
   exact X
  rw[aU,bI];omega
 rw[E (Wj hc)]at hT dO;let⟨y,x,w,i,v⟩:=vd dO.r [59];have t:=dO.q i;refine⟨y,x,w,dO.sq i N,v.mono ?_⟩;rintro _ F ⟨rfl,e⟩;have k:=t.nx e;refine⟨I,t.sc e N,λq l=>?_⟩;rw[<-hT]at hR;rw[<-hR];have G:∀{g:Nat},b<g->a<g->Stay g w9 q:=λn hk=>((((Cf _ _).q dy).d Xv n).q i).d e n |>.f l (.inl hk);have s:Stay aS w8 q:=(((((hS.q dy).d Xv aT).q i).d e aT).f l X)
 refine⟨Z5 am.k am.ev am.wt am.gd [O U eQ,O U fd,ab s8,O U gE,gO.v,O U gG] qh rn am.a,by rw[hx.e1,hx.e2,hx.e3,hx.e4,hx.e5];rfl,⟨_,_,_,I,(jI aE).low ((jI aE).stay hx.g s) hA,(hx.x.stay (dU aE) Z s).low (dU aE) hA,?_⟩,(k.f l N).dn⟩;exact((qO.sl dI X).stay dI Z R).low dI X
end
def nt{lm x:aI}{j}{v}(h:x[j]? =aM v):(lm++x)[WS lm+j]? =aM v:=by
 grind
def pX lm xs vs j:fX (lm++xs) (WS lm+j) vs=lm++fX xs j vs:=by
 unfold fX;rw[re,ez,List.drop_length_add_append];simp
structure NbO (B:Nat) (w:av) (n:Nb) (en lv mv:Sl):Prop where
 en:lq aE (wI aE) 9 201 w (λk=>B<=k/\mv.a≠aM ⟨k,0,VM⟩) en n.en
 lv:lq aE (wI aE) 9 201 w (λk=>B<=k/\mv.a≠aM ⟨k,0,VM⟩) lv n.lv
 mv:Own (Nq aE) 13 77 B w (Fr B) mv n.mv
section
variable{B:Nat}{w w':av}{n:Nb}{en lv mv:Sl}
def NbO.go(h:NbO B w n en lv mv){bs}(k:ay bs w w')(c:∀x∈bs,x<B):NbO B w' n en lv mv:=
 ⟨h.en.keep (dU aE) Z λi a b=>k.block i b R,h.lv.keep (dU aE) Z λi a b=>k.block i b R,h.mv.stay (nX aE) k R⟩
def NbO.wT(h:NbO B w n en lv mv){gs}{rT}{m}(q:Own (Nq aE) 13 77 B w' (λk=>Fr B k∨w.heap.size<=k) rT (n.mv++[m]))(k:ay gs w w')(G:∀g∈gs,mv.a=aM ⟨g,0,VM⟩)(c:rT.a=mv.a∨∃g,rT.a=aM ⟨g,0,VM⟩/\w.heap.size<=g)(b:B<=w.heap.size):NbO B w' {n with mv:=n.mv++[m]} en lv rT:=by
 let go:∀{l:Sl} {x:J Ac},lq aE _ 9 201 w (λk=>B<=k/\mv.a≠aM _) l x->lq aE _ 9 201 w' (λk=>B<=k/\rT.a≠aM ⟨k,0,VM⟩) l x:=λa=>
  ((a.inHeap (dU aE) Z).keep (dU aE) Z λi e d=>k.block i d λm=>e.1.2<|G i m).mono (dU aE) R
 exact⟨go h.en,go h.lv,q.mono (nX aE) X⟩
theorem NbO.auq(h:NbO B w n en lv mv){A}{la}{xs}(x:lq aE (wI aE) 9 201 w (Fr A) la xs)(a:B<=A)(m:∀k,A<=k->mv.a≠aM ⟨k,0,VM⟩):NbO B w {n with en:=xs} la lv mv:=
 ⟨x.mono (dU aE) R,h.lv,h.mv⟩
theorem NbO.aur(h:NbO B w n en lv mv){A}{la}{xs}(x:lq aE (wI aE) 9 201 w (Fr A) la xs)(a:B<=A)(m:∀k,A<=k->mv.a≠aM ⟨k,0,VM⟩):NbO B w {n with lv:=xs} en la mv:=
 ⟨h.en,x.mono (dU aE) R,h.mv⟩
end
abbrev Wm(h:Yr):aI:=[aj aL,aj h.i,aj h.e,aj h.l]
structure Cl (F:aJ) (ts:List Tk) (w w':av) (b:Nat) (l:Sl) (g t:Nat) (lm:aI) (kh B:Nat) (s:Sx) (n:Nb) (h:Yr) (en lv mv:Sl):Prop where
 r:Sr F ts w' b l s
 nb:aF w' g t (lm++uY n.k n.nm n.ini n.dft en lv mv Sl.nil n.a)
 hb:aF w' kh 195 (Wm h)
 no:NbO B w' n en lv mv
 o:∃gs,ay (b::g::kh::gs) w w'/\∀x,x∈gs->B<=x
 ng:g≠b/\¬F g
 nh:b<kh
 gh:g≠kh
 gB:g<B
 hB:kh<B
 lB:B<=w'.heap.size
section
variable{F:aJ}{ts:J Tk}{w w' w2:av}{b:Nat}{l:Sl}{g t:Nat}{lm:aI}{kh B:Nat}{s s':Sx}{n n':Nb}{h h':Yr}{en lv mv wA wC rT:Sl}
theorem Cl.nx(c:Cl F ts w w' b l g t lm kh B s n h en lv mv)(k:Dn F ts w' w2 b l s'):Cl F ts w w2 b l g t lm kh B s' n h en lv mv:=by
 let i:=c.ng;let j:=c.nh;have:=c.hB;let⟨a,d,e⟩:=c.o;exact⟨k.r,k.o.blk c.nb V6,k.o.blk c.hb V6,c.no.go k.o R,
  ⟨a,d.trans k.o A,e⟩,i,j,c.gh,c.gB,c.hB,bC c.lB k.o.size⟩
def Cl.q(c:Cl F ts w w' b l g t lm kh B s n h en lv mv)(k:ay [] w' w2):Cl F ts w w2 b l g t lm kh B s n h en lv mv:=c.nx<|c.r.dn.q k
theorem Cl.st(c:Cl F ts w w' b l g t lm kh B s n h en lv mv)(k:ay [g] w' w2)(m:aF w2 g t (lm++uY n'.k n'.nm n'.ini n'.dft wA wC rT Sl.nil n'.a))(o:NbO B w' n' wA wC rT):Cl F ts w w2 b l g t lm kh B s n' h wA wC rT:=by
 let⟨f,i,j⟩:=c.o;let d:=c.gB;exact⟨c.r.amx k c.ng,m,k.blk c.hb<|by simpa using λe=>c.gh e.symm,o.go k R,⟨f,i.trans k λx a=>.inl<|by simp at a;simp[a],j⟩,c.ng,c.nh,c.gh,d,c.hB,bC c.lB k.size⟩
theorem Cl.hd(c:Cl F ts w w' b l g t lm kh B s n h en lv mv)(k:ay [kh] w' w2)(f:aF w2 kh 195 (Wm h')):Cl F ts w w2 b l g t lm kh B s n h' en lv mv:=by
 let⟨a,d,e⟩:=c.o;let X:=c.hB;exact⟨c.r.one k c.nh,k.blk c.nb<|by simpa using c.gh,f,c.no.go k R,⟨a,d.trans k A,e⟩,c.ng,c.nh,c.gh,c.gB,X,bC c.lB k.size⟩
def atm(h:Yr)(j:Nat):C:=if j=1 then h.i else if j=2 then h.e else h.l
def Ot(h:Yr)(j:Nat):Yr:=if j=1 then{h with i:=aE}else if j=2 then{h with e:=aE}else{h with l:=aE}
def j3{j}(h:j≠0)(a:j<=3):j=1∨j=2∨j=3:=X
theorem hdM(c:Cl F ts w w' b l g t lm kh B s n h en lv mv)(p:WS n.mv<WS ts):az aq 128 #[rp b,ae<|aM ⟨g,WS lm,VM⟩,ae<|aM ⟨kh,0,VM⟩] w' λe w2=>e=ak (aj (eJ ts n h s).1)/\
  ∃wA wC rT,Cl F ts w w2 b l g t lm kh B (eJ ts n h s).2.2.2 (eJ ts n h s).2.1 (eJ ts n h s).2.2.1 wA wC rT:=by
 refine ret<|arD<|have o:=c.r.sm;let⟨q,m,a,f,Y⟩:=Tl c.r [Et,iQ,jy] (n:=3) (parts:=#[(0,ab<|T Et),(1,ab<|T iQ),(2,ab<|T jy)]) I I Z Z;⟨q,m,a,Y.mono ?_⟩;rintro _ r ⟨rfl,U⟩;have d:=(c.q f).q U;refine⟨_,I,λhc w2 j=>?_,λhc=>?_⟩
 .have hc:=Wl hc;have z:=d.q j;have ff:eJ ts n h s=(aE,{n with mv:=n.mv++[(rl ts (cY ts s [Et,iQ,jy]:Nat) s).1]},h,(rl ts (cY ts s [Et,iQ,jy]:Nat) s).2):=by
   unfold eJ;rw[E hc]
  rw[ff];refine⟨λk=>k=g,_,I,I,mv,z.nb.X7 (WS lm+6)<|nt I,(af3 z.r (dX hc).2).mono ?_⟩;rintro _ w3 ⟨cs,rfl,W,S⟩;have q:=z.nx S;generalize (rl ts (cY ts s [Et,iQ,jy]:Nat) s).1=l at*
  generalize (rl ts (cY ts s [Et,iQ,jy]:Nat) s).2=aC at*
  have DQ:=W;obtain⟨gc,uv,tg,rfl,hg,_,_⟩:=DQ;obtain⟨sl,rfl⟩:=fK hg;have ng:=c.ng;have gB:=c.gB;obtain⟨y,w4,e2,M,rT,w5,e3,qO,⟨w,O,G5⟩,ha⟩:=iO (P:=aq) (t:=24) (ty:=24) (e:=77) (i:=t77) (bytes:=168) (size:=13) (v:=ah (Z5 l.k l.ev l.wt l.gd (qS l.g.k l.g.n l.g.s l.g.op sl l.g.a) uv tg l.a).toArray) (x:=l) (G:=Fr w2.heap.size) D D I I I I Z Z Z (nX aE) q.no.mv q.lB I W (λk hk _=>⟨bC z.lB hk,z.no.mv.new hk⟩) X;have u:ay w w3 w5:=(M.weaken (bs':=w) R).trans O R;have am:∀x∈w,B<=x:=R
  have T:g∉w:=R
  have yp:=u.blk q.nb T;refine⟨_,_,_,_,_,_,_,_,sl,_,uv,tg,_,I,λk hk J=>(by subst hk;exact S.o.block k J bW),y,w4,e2,ZX M,rT,w5,e3,λk hk J=>(by subst hk;exact O.block k J T),_,I,g,_,_,_,I,yp,N,λw6 C V=>⟨I,en,lv,rT,?_⟩⟩;rw[pX]at V;have L:=q.no.wT qO u R ha q.lB;let⟨F,o1,o2⟩:=q.o;have nh:=c.nh;have H:=c.hB;have lB:=q.lB;have K:=c.gh;have z5:=u.size;have z6:=C.size;exact⟨(q.r.own u R).amx C ng,V,(C.block kh (by have:=q.hb.lt;omega) bW).trans<|u.blk q.hb R,
   L.go C A,⟨w++F,((o1.weaken (bs':=b::g::kh::(w++F)) A).trans u R).trans C A,R⟩,ng,nh,K,gB,H,X⟩
 have hc:=Wj hc;let⟨q,y,a,x,Y⟩:=Tl d.r [fU,jz,jL] (n:=3) (parts:=#[(0,ab<|T fU),(1,ab<|T jz),(2,ab<|T jL)]) I I Z Z;refine⟨q,y,a,Y.mono ?_⟩;rintro _ z ⟨rfl,v⟩;have u:=(d.q x).q v;have G:cY ts s [fU,jz,jL]<=3:=VA _;refine⟨_,I,λi=>?_,λi=>?_⟩
 .have i:=atk i;have b:eJ ts n h s=(aL,n,h,s):=by unfold eJ;rw[Q WH,i];rfl
  rw[b];exact R
 have i:=atl i;have H:=F8 c.r i;have K:eJ ts n h s=(if atm h (cY ts s [fU,jz,jL])then(aL,n,h,lN ts s)else if cY ts s [fU,jz,jL]=1 then(aE,{n with ini:=(lh ts<|eE s).1},Ot h 1,gw ts (lh ts<|eE s).2 [59])else if cY ts s [fU,jz,jL]=2 then(aE,{n with en:=(lO ts<|eE s).1},Ot h 2,(lO ts<|eE s).2)else(aE,{n with lv:=(lO ts<|eE s).1},Ot h 3,(lO ts<|eE s).2)):=by
  unfold eJ;rw[Q WH];rcases j3 i G with e|e|e<;>rw[e]<;>rfl
 rw[K];generalize cY ts s [fU,jz,jL]=C at*
 have P:(Wm h)[C]? =aM (aj<|atm h C):=by rcases j3 i G with e|e|e<;>rw[e]<;>rfl
 have J:Sj ⟨kh,0,VM⟩ (C:Int) 4 1 ⟨kh,C,VM⟩:=⟨X,X,by rw[jS,aV];simp⟩
 refine⟨_,I,⟨kh,C,VM⟩,J,_,u.hb.X7 C P,λhh=>?_,λhh=>?_⟩
 .rw[E hh];refine(xS u.r).mono ?_;rintro _ w ⟨rfl,h⟩;exact⟨I,I,_,_,_,u.nx h⟩
 rw[Q SM];refine⟨_,I,⟨kh,C,VM⟩,J,kh,C,_,_,I,u.hb,by show C+1<=4;omega,λdh dy pz=>?_⟩;have M:Cl F ts w dh b l g t lm kh B s n (Ot h C) en lv mv:=u.hd dy (by
  have e:fX (Wm h) C [aj aE]=Wm (Ot h C):=by rcases j3 i G with e|e|e<;>rw[e]<;>rfl
  rwa[e]at pz)
 refine⟨_,Hl M.r.blk 1 I,b,1,_,_,I,M.r.blk,N,λdE V S=>?_⟩;rw[c.r.wr]at S;have L:=M.nx (s':=eE s) ⟨V,M.r.lD V S H⟩;refine⟨λw'=>∃wA wC rT,Cl F ts w w' b l g t lm kh B _ _ _ wA wC rT,λey W=>⟨by split<;>(try split)<;>rfl,W⟩,λT=>?_,λT=>⟨λO=>?_,λO=>?_⟩⟩
 .have a:C=1:=by have:(C:Int)=1:=(by simpa using T);omega
  subst a;rw[E I];refine(Bl L.r).mono ?_;rintro _ F ⟨rfl,w⟩;have c:=L.nx w;refine⟨_,I,_,I,g,_,_,_,I,c.nb,N,λB k e=>?_⟩;rw[pX]at e;have b:=c.st (n':={n with ini:=(lh ts<|eE s).1}) k e ⟨c.no.en,c.no.lv,c.no.mv⟩;let⟨q,l,a,t,Y⟩:=vd b.r [59];refine⟨q,l,a,Y.mono ?_⟩;rintro _ iA ⟨rfl,h⟩;exact⟨I,_,_,_,(b.q t).nx h⟩
 .have a:C=2:=by have:(C:Int)=2:=(by simpa using O);omega
  subst a;rw[Q Z,E I];refine(F7 L.r).mono ?_;rintro _ q ⟨l,rfl,h,w⟩;have c:=L.nx w;refine⟨l,I,_,I,g,_,_,_,I,c.nb,N,λt e b=>?_⟩;rw[pX]at b;exact⟨_,_,_,c.st (n':={n with en:=(lO ts<|eE s).1}) e b<|c.no.auq h L.lB λk hk=>L.no.mv.new hk⟩
 have t:C≠1:=R
 have a:C=3:=by have:¬(C:Int)=2:=(by simpa using O);omega
 subst a;rw[Q Z,Q Z];refine(F7 L.r).mono ?_;rintro _ B ⟨q,rfl,l,h⟩;have c:=L.nx h;refine⟨q,I,_,I,g,_,_,_,I,c.nb,N,λw e b=>?_⟩;rw[pX]at b;exact⟨_,_,_,c.st (n':={n with lv:=(lO ts<|eE s).1}) e b<|c.no.aur l L.lB λk hk=>L.no.mv.new hk⟩
end
section
variable{F:h}{ts:J Tk}{w w' w2:av}{b:Nat}{l:Sl}{s s':Sx}
theorem NB(h:Sr F ts w b l s) k:az aq 91 #[rp b,O U k] w λe w'=>e=ak (ah (uY (gy ts k s).1.k (gy ts k s).1.nm [] [] Sl.nil Sl.nil Sl.nil Sl.nil (gy ts k s).1.a).toArray)/\Dn F ts w w' b l (gy ts k s).2:=by
 refine ret<|ari λi m o H d n j T=>let t:=((h.zt.q T).ad H d).ad n j;let⟨ad,g,c⟩:=t.r.now;⟨λw'=>Zt F ts w w' b l (tP ts s) [m,i],λp a=>(Bk a.r (k:=1) Z).mono ?_,l,Hl t.r.blk 0 I,_,Hl t.r.blk 1 I,ad,g,_,c.dv 0 _ I,λhc q V=>?_,λhc r f=>?_⟩
 .rintro _ w2 ⟨rfl,e⟩;exact⟨_,_,_,_,I,a.sc e N,λs C F z l v w y=>⟨λk=>k=s,I,P9,P9,λD B=>⟨I,let b:=(a.nx e).q l;⟨(b.z.go B A).o,b.r.own B λx u=>b.lt R⟩⟩⟩⟩
 .have hc:=WH
  let e:=t.q V;rw[tP,E hc];refine(alh e.r).mono λ_ w ⟨rfl,k⟩=>let b:=e.nx k;⟨I,e.sc k N,_,Hl b.r.blk 6 I,λhd=>?_,λhd=>?_⟩
  .rw[E (by simpa using hd)];exact(EA b.r 21).mono λ_ s ⟨rfl,l⟩=>⟨I,b.sc l N,b.nx l⟩
  simp_all
 rw[tP,Q WH];exact t.q f
def NC(F:h)(t:J Tk)(b:Nat)(l:Sl)(f:Nat)(d:Int):=∀k u w,Sr F t w b l u->u.d=d->az aq 129 #[rp b,O U k] w λe w'=>∃c,e=ak (ah c.toArray)/\pq aE f w' (Fr w.heap.size) (mZ t f k u).1 c/\Dn F t w w' b l (mZ t f k u).2
def Ti{f}(h:0<f) w G:pq aE f w G XR (uY 0 [] [] [] Sl.nil Sl.nil Sl.nil Sl.nil 0):=by
 obtain⟨m,rfl⟩:∃m,f=m+1:=⟨f-1,X⟩
 exact⟨_,_,_,_,I,⟨Wc ..,Wc ..,Wc ..⟩,Wc ..⟩
abbrev Nf(f B:Nat)(w:av)(s:Sl)(x:J Nd):Prop:=Own (pq aE f) 9 27 B w (Fr B) s x
theorem It{f B g t:Nat}{lm:aI}{n:Nb}{en lv mv l2 l8}{acc}{x}{k}{m ini dft:L}{a b1 b2 b3}{at_}{k0}{Q:av->Prop}{H:h}
  (hx:pq aE f w H x (uY k m ini dft a b1 b2 b3 at_)) (S:∀i,H i->i<w.heap.size->Fr B i/\l8.a≠aM ⟨i,0,VM⟩) (W:∀i,H i->B<=i) (s:Nf f B w l8 (acc++[XR])) (hn:l2.n=WS acc)
  (C:aF w g t (lm++uY n.k n.nm n.ini n.dft en lv mv l2 n.a)) (hg:g<B) (Y:k0<B) (j:k0≠g)
  (y:∀w',aF w' g t (lm++uY n.k n.nm n.ini n.dft en lv mv l8 n.a)->Nf f B w' l8 (acc++[x])->(∃b,B<=b/\ay [g,b] w w')->Q w'):
  ∃q:Addr,ci l8 l2.n 9 q/\∃r,(aM (⟨g,WS lm,VM⟩:Addr))=(aM r)/\
   (∃x f:Nat,∃H,∃Vq:Nat,q=⟨x,f,VM⟩/\aF w x Vq H/\(f+9)<=WS H/\k0≠x/\
    ∀z:av,ay [x] w z->aF z x Vq (fX H f [O U k,ab<|T m,ab<|T ini,ab<|T dft,a.v,b1.v,b2.v,b3.v,O U at_])->∃L3 am:Nat,∃z3:aI,∃aC:Nat,(r.add 7)=⟨L3,am,VM⟩/\
    aF z L3 aC z3/\(am+1)<=WS z3/\k0≠L3/\∀l:av,ay [L3] z l->aF l L3 aC (fX z3 am [l8.v])->Q l)/\
   ∃t,∃g,∃z4:aI,∃e:Nat,(r.add 7)=⟨t,g,VM⟩/\aF w t e z4/\(g+1)<=WS z4/\k0≠t/\
    ∀V,ay [t] w V->aF V t e (fX z4 g [l8.v])->∃aS,∃aT,∃z5:aI,∃bv:Nat,q=⟨aS,aT,VM⟩/\
    aF V aS bv z5/\(aT+9)<=WS z5/\k0≠aS/\∀iW:av,ay [aS] V iW->aF iW aS bv (fX z5 aT [O U k,ab<|T m,ab<|T ini,ab<|T dft,a.v,b1.v,b2.v,b3.v,O U at_])->Q iW:=by
 let J:l2.n<WS (acc++[XR]):=A
 let u:(acc++[XR]).set l2.n x=acc++[x]:=A
 let⟨b,cells,D,F,G,M,P⟩:=MT (cq aE f) s J (vs:=uY k m ini dft a b1 b2 b3 at_) I hx S Z;have c:=(s.blk D).1;dsimp only at c;refine⟨_,F,_,I,⟨b,l2.n*9,cells,_,I,G,M,X,λz p o=>⟨g,WS lm+7,_,t,I,p.blk C R,N,j,λl E d=>?_⟩⟩,g,WS lm+7,_,t,I,C,N,j,λV K v=>?_⟩
 .rw[pX]at d;have a:=P z p o;rw[u]at a;exact y l d (a.stay (cq aE f) E A) ⟨b,c,(p.weaken (bs':=[g,b]) A).trans E A⟩
 rw[pX]at v;let⟨t,bV,c1,c2,c3,c4,c5⟩:=MT (cq aE f) (s.stay (cq aE f) K A) J (vs:=uY k m ini dft a b1 b2 b3 at_) I ((cq aE f).keep ((cq aE f).inHeap hx) λi hi J=>K.block i J R) R Z;have e:t=b:=by
  simp_all
 subst e;refine⟨t,l2.n*9,bV,_,I,c3,c4,X,λiW jO T=>?_⟩;have w:=c5 iW jO T;rw[u]at w;exact y iW (jO.blk v R) w ⟨t,c,(K.weaken (bs':=[g,t]) λx hx=>.inl OI).trans jO λx hx=>.inl OI⟩
structure Kd (F:h) (ts:List Tk) (w w':av) (b:Nat) (l:Sl) (g t:Nat) (lm:aI) (f B B2:Nat) (n:Nb) (en lv mv:Sl) (s:Sx) (acc:List Nd) (kids:Sl):Prop where
 r:Sr F ts w' b l s
 nb:aF w' g t (lm++uY n.k n.nm n.ini n.dft en lv mv kids n.a)
 no:Km aE w' (λk=>B<=k/\k<B2) n en lv mv
 kd:Nf f B2 w' kids acc
 o:ay [b,g] w w'
 lB:B2<=w'.heap.size
section
variable{g t:Nat}{lm:aI}{f B B2:Nat}{n:Nb}{en lv mv kids:Sl}{acc:J Nd}
def Kd.nx(h:Kd F ts w w' b l g t lm f B B2 n en lv mv s acc kids)(O:g≠b)(c:b<B)(a:B<=B2)(k:Dn F ts w' w2 b l s'):Kd F ts w w2 b l g t lm f B B2 n en lv mv s' acc kids:=
 ⟨k.r,k.o.blk h.nb V6,h.no.keep λi d J=>k.o.block i J V6,h.kd.stay (cq aE f) k.o R,
  h.o.trans k.o A,bC h.lB k.o.size⟩
end
end
section
variable{F:h}{ts:J Tk}{w w' w2:av}{b:Nat}{l:Sl}{s s':Sx}
structure Cl0 (F:h) (ts:List Tk) (w w':av) (b:Nat) (l:Sl) (g t:Nat) (lm:aI) (kh B:Nat) (s:Sx) (n:Nb) (en lv mv:Sl):Prop where
 r:Sr F ts w' b l s
 nb:aF w' g t (lm++uY n.k n.nm n.ini n.dft en lv mv Sl.nil n.a)
 no:NbO B w' n en lv mv
 o:∃gs,ay (b::g::kh::gs) w w'/\∀x,x∈gs->B<=x
 ng:g≠b/\¬F g
 nh:b<kh
 gh:g≠kh
 gB:g<B
 hB:kh<B
 lB:B<=w'.heap.size
section
variable{g t:Nat}{lm:aI}{kh B:Nat}{n:Nb}{h:Yr}{en lv mv:Sl}
def Cl.c0(c:Cl F ts w w' b l g t lm kh B s n h en lv mv):Cl0 F ts w w' b l g t lm kh B s n en lv mv:=⟨c.r,c.nb,c.no,c.o,c.ng,c.nh,c.gh,c.gB,c.hB,c.lB⟩
def Cl0.cl(c:Cl0 F ts w w' b l g t lm kh B s n en lv mv)(a:aF w' kh 195 (Wm h)):Cl F ts w w' b l g t lm kh B s n h en lv mv:=⟨c.r,c.nb,a,c.no,c.o,c.ng,c.nh,c.gh,c.gB,c.hB,c.lB⟩
theorem Cl0.nx(c:Cl0 F ts w w' b l g t lm kh B s n en lv mv)(k:Dn F ts w' w2 b l s'):Cl0 F ts w w2 b l g t lm kh B s' n en lv mv:=by
 let f:=c.ng;have:=c.nh;have:=c.hB;let⟨a,h,d⟩:=c.o;exact⟨k.r,k.o.blk c.nb V6,c.no.go k.o R,
  ⟨a,h.trans k.o A,d⟩,f,c.nh,c.gh,c.gB,c.hB,bC c.lB k.o.size⟩
def Cl0.q(c:Cl0 F ts w w' b l g t lm kh B s n en lv mv)(k:ay [] w' w2):Cl0 F ts w w2 b l g t lm kh B s n en lv mv:=c.nx<|c.r.dn.q k
theorem Cl0.sc(c:Cl0 F ts w w' b l g t lm kh B s n en lv mv)(k:Dn F ts w' w2 b l s'):bX [kh] w' w2:=k.o.same λx h=>by
 have:=c.nh;have:=c.hB;have:=c.lB
 grind
def Cl0.sq(c:Cl0 F ts w w' b l g t lm kh B s n en lv mv)(k:ay [] w' w2):bX [kh] w' w2:=c.sc<|c.r.dn.q k
end
def PaG n h s:(eJ ts n h s).2.1.mv.length<=WS n.mv+1:=by
 unfold eJ;split
 .dsimp only;rw[aU,bI];omega
 split
 .exact kB _
 .split<;>exact kB _
 .split<;>exact kB _
 split<;>exact kB _
theorem vt{f:Nat}(o:Sr F ts w b l s){g t:Nat}{lm:aI}{n:Nb}(qj:n.en=[])(bJ:n.lv=[])(pE:n.mv=[])(hB:aF w g t (lm++uY n.k n.nm n.ini n.dft Sl.nil Sl.nil Sl.nil Sl.nil n.a))(hg:g≠b/\¬F g)(hd:ri s.d)(hN:s.fc=0->0<f/\NC F ts b l f (Cx s.d)):
  az aq 94 #[rp b,ae<|aM ⟨g,WS lm,VM⟩] w λe w'=>e=ak (ai #[])/\∃z,aF w' g t (lm++z)/\pq aE (f+1) w' (Fr w.heap.size) (uV ts (mZ ts f) n s).1 z/\ay [b,g] w w'/\Sr F ts w' b l (uV ts (mZ ts f) n s).2:=by
 refine ret<|arl ?_;intro i w0 fH dC bT;have M:=o.zt.al bT fH dC;have bY:=hB.lt;have bV:=o.lb;refine⟨_,Hl M.r.blk 6 I,b,6,_,_,I,M.r.blk,N,M.ne N,λW bU vu=>?_⟩;have V:Zt F ts w W b l {s with d:=Cx s.d} [i]:=M.up bU vu o.lt;have aT:aF W g t (lm++uY n.k n.nm n.ini n.dft Sl.nil Sl.nil Sl.nil Sl.nil n.a):=bU.blk (bT.blk hB N) bW;have bv:=V.z.o.size;have xp:=(V.z.k i N).2;generalize am:W.heap.size=B at*
 have aS:g<B:=X
 have c1:Cl0 F ts w W b l g t lm i B {s with d:=Cx s.d} n Sl.nil Sl.nil Sl.nil:=⟨V.r,aT,⟨by rw[qj];exact Wc ..,by rw[bJ];exact Wc ..,by rw[pE];exact E7 ..⟩,
  ⟨[],V.z.o.weaken λx hx=>.inl OI,λx hx=>V3⟩,hg,X,X,aS,xp,Nat.le_of_eq am.symm⟩
 have aC:b<B:=X
 unfold uV;dsimp only;generalize hC:iy ts (WS ts+1) n ⟨aL,aL,aL⟩ {s with d:=Cx s.d}=C;have Y:On ts {s with d:=Cx s.d} C.2:=by rw[<-hC];exact Ag o.en ..
 refine⟨λm b0 b1 b2 b3 w'=>∃(j:Nb) (hd:Yr) (s':Sx) (c v mv:Sl),b0=aL/\b1=hd.i/\b2=hd.e/\b3=hd.l/\Cl0 F ts w w' b l g t lm i B s' j c v mv/\iy ts m j hd s'=C/\mu ts s'<m/\WS j.mv+mu ts s'<=WS ts,WS ts+1,
  ⟨n,⟨aL,aL,aL⟩,_,_,_,_,I,I,I,I,c1,hC,AJ<|xT _ _,by rw[pE,ck,bS];exact xT _ _⟩,?_⟩
 rintro m _ _ _ _ w2 ⟨j,p,s',c,v,mv,rfl,rfl,rfl,rfl,K,h,L,zr⟩;obtain⟨S,rfl⟩:∃S,m=S+1:=⟨m-1,X⟩
 rw[iy]at h;refine⟨λb4 b5 b6 b7 b8 w'=>(b4=aE/\∃(j:Nb) (hd:Yr) (s':Sx) (c v mv:Sl),b5=aL/\b6=hd.i/\b7=hd.e/\b8=hd.l/\Cl0 F ts w w' b l g t lm i B s' j c v mv/\iy ts S j hd s'=C/\mu ts s'<S/\WS j.mv+mu ts s'<=WS ts)∨
  (b4=aL/\∃(c v mv:Sl),Cl0 F ts w w' b l g t lm i B C.2 C.1 c v mv),?_,(qy K.r).mono ?_⟩
 rotate_left
 .rintro _ b ⟨rfl,t⟩;have a:=K.q t;refine⟨_,I,K.sq t,λhc k=>?_,λhc=>?_⟩
  .have hc:s'.fc=0:=WH
   rw[Q (by simp[hc])]at h;have g:=xT ts s';have f:=K.r.lt;have e:0<mu ts s':=by unfold mu;rw[E hc];omega
   have n:=PaG (ts:=ts) j p s';refine(hdM (a.cl (h:=p) k) X).mono ?_;rintro _ l ⟨rfl,w,C,r,d⟩;refine⟨_,I,_,_,_,_,d.hb,?_⟩;cases u:(eJ ts j p s').1
   .rw[Q (by rw[u];decide)]at h;refine .inr ⟨I,w,C,r,?_⟩;rw[<-h];exact d.c0
   rw[E u]at h;have q:=ajI o.en j p hc f u;exact .inl ⟨I,_,_,_,_,_,_,I,I,I,I,d.c0,h,X,X⟩
  grind
 clear h L zr K;rintro b4 b5 b6 b7 b8 w3 (⟨rfl,hh⟩|⟨rfl,c,v,mv,c3⟩)
 .grind
 refine⟨λhh=>(by cases hh),λ_=>?_⟩;generalize C.1=n1 at*
 generalize C.2=s1 at*
 have gE:B<=w3.heap.size:=c3.lB;have fd:Km aE w3 (λk=>B<=k/\k<w3.heap.size) n1 c v mv:=
  ⟨(c3.no.en.inHeap (dU aE) Z).mono (dU aE) λk hk=>⟨hk.1.1,hk.2⟩,(c3.no.lv.inHeap (dU aE) Z).mono (dU aE) λk hk=>⟨hk.1.1,hk.2⟩,(c3.no.mv.sl (nX aE) λk hk=>hk).inHeap (nX aE) Z⟩
 let⟨ip,o3,gG⟩:=c3.o;have o3:ay [b,g] w w3:=o3.weaken R;have k3:Kd F ts w w3 b l g t lm f B w3.heap.size n1 c v mv s1 [] Sl.nil:=⟨c3.r,c3.nb,fd,E7 ..,o3,bc _⟩
 generalize oC:w3.heap.size=B2 at*
 clear c3 fd o3 gG hC;generalize vw:wH ts (mZ ts f) (WS ts+1) [] s1=gO;have sk:∀{u u':av} {x y:Sx},B2<=u.heap.size->Dn F ts u u' b l y->bX [i] u u':=λhz k=>k.o.same λx hx=>by
  simp only[bh]at hx⊢;omega
 have ce:∀{u u':av} {x y:Sx} {cc:J Nd} {kids:Sl},Kd F ts w u b l g t lm f B B2 n1 c v mv x cc kids->Dn F ts u u' b l y->Kd F ts w u' b l g t lm f B B2 n1 c v mv y cc kids:=λa k=>a.nx hg.1 aC gE k;have go:∀{u:av} {x:Sx} {cc:J Nd} {kids:Sl},Kd F ts w u b l g t lm f B B2 n1 c v mv x cc kids->∃(q:Sl) (u2:av),(au 75 4 #[.mk 0 (ab Kac),.mk 1<|ab Kad,.mk 2<|ab Kae,.mk 3<|ab Kaf]).run aq u=.ok q.v u2/\bX [i] u u2/\az aq 127 #[rp b,q.v] u2 λe u3=>e=ak (O U (cY ts x sK:Nat))/\bX [i] u2 u3/\Kd F ts w u3 b l g t lm f B B2 n1 c v mv x cc kids:=fun{u x cc kids} a=>by
  let⟨q,u2,e1,e,f⟩:=Tl a.r sK (n:=4) (parts:=#[(0,ab<|T FT),(1,ab<|T uS),(2,ab<|T xL),(3,ab<|T Ni)]) I I Z Z;have b:=ce a<|a.r.dn.q e;refine⟨q,u2,e1,sk (x:=x) a.lB<|a.r.dn.q e,f.mono ?_⟩;rintro _ u3 ⟨rfl,d⟩;exact⟨I,sk (x:=x) b.lB<|b.r.dn.q d,ce b<|b.r.dn.q d⟩
 let⟨q,w4,e1,Hj,el⟩:=go k3;refine⟨q,w4,e1,Hj,el.mono ?_⟩;rintro _ w5 ⟨rfl,me,k5⟩;refine⟨_,I,me,λm i2 _ _ _ _ w'=>∃(s':Sx) (cc:J Nd) (kids:Sl),i2=((cY ts s' sK:Nat):Int)/\Kd F ts w w' b l g t lm f B B2 n1 c v mv s' cc kids/\wH ts (mZ ts f) m cc s'=gO/\mu ts s'<m/\WS cc+mu ts s'<=WS ts/\s'.d=Cx s.d/\(s'.fc=0->s.fc=0),WS ts+1,
  ⟨s1,[],Sl.nil,I,k5,vw,AJ<|xT _ _,Uv,Y.d,λe=>(Y.le e).1⟩,?_⟩
 clear me k5 el Hj e1 k3 vw;rintro m _ b9 gT g8 g9 w6 ⟨s',cc,kids,rfl,k6,h,L,zr,co,eQ⟩;obtain⟨m',rfl⟩:∃m',m=m'+1:=⟨m-1,X⟩
 rw[wH]at h;have cC:i≠b:=M.ne N;have dO:i≠g:=X
 refine⟨λhc=>?_,λhc=>?_⟩
 .have hc:=Wl hc;rw[Q hc]at h;let⟨iD,tA⟩:=dX hc;let⟨iS,iF⟩:=hN<|eQ iD;have a:=k6.r.lt;refine⟨_,Hl k6.r.blk 1 I,b,1,_,_,I,k6.r.blk,N,cC,λw7 fu T=>?_⟩;rw[k6.r.wr]at T;have k7:=ce k6 (y:=eE s') ⟨fu,k6.r.lD fu T<|F8 k6.r hc⟩;have Av:=o.sm;have ld:=xT ts s';have n:=S7 o.en f (cY ts s' sK:Nat) (eE s') (by show ri s'.d;rw[co];exact YM _);have oF:=tS o.en iD a tA n.toOn0;generalize cY ts s' sK=kk at*
  generalize iN:mZ ts f (kk:Int) (eE s')=d at*
  have lE:d.2.d=Cx s.d:=n.d.trans co;have lT:d.2.fc=0->s.fc=0:=λe=>eQ (n.le e).1;refine⟨λ_ _ _ _ w'=>∃ji,Kd F ts w w' b l g t lm f B B2 n1 c v mv d.2 (cc++[d.1]) ji,λmt mK nO n8 w8 h8=>?_,λC dJ=>?_⟩
  .obtain⟨ji,k⟩:=h8;let⟨q,w,e1,s,b⟩:=go k;refine⟨q,w,e1,s,b.mono ?_⟩
   grind
  have s:=ce k7<|k7.r.dn.q dJ;have Hi:=s.lB;have gz:∀{u:av},Sr F ts u b l (eE s')->az aq 129 #[rp b,O U (kk:Int)] u λe w'=>∃z,e=ak (ah z.toArray)/\pq aE f w' (Fr u.heap.size) d.1 z/\Dn F ts u w' b l d.2:=λhu=>by
   have:=iF (kk:Int) (eE s') _ hu co;rw[iN]at this;exact this
  have Je:∀{u u':av} {bs:J Nat},ay bs u u'->(∀x∈bs,x≠g)->bH (λk=>k=g) u u':=λhO hb k hk a=>by subst hk;exact hO.block k a λq=>hb k q I
  have zc:Value.cells (ah (uY 0 [] [] [] Sl.nil Sl.nil Sl.nil Sl.nil 0).toArray)=(uY 0 [] [] [] Sl.nil Sl.nil Sl.nil Sl.nil 0).toArray:=I;have hz:∀(u:av),∃(y:Sl) (u2:av),(au 25 1 #[.mk 0 (ah (uY 0 [] [] [] Sl.nil Sl.nil Sl.nil Sl.nil 0).toArray)]).run aq u=.ok y.v u2/\Own (pq aE f) 9 27 u.heap.size u2 (λ_=>False) y [XR]/\ay [] u u2:=λu=>by
   let⟨y,u2,b,g,k,_⟩:=jP (P:=aq) (t:=25) (e:=27) (i:=t27) (w:=u) (F:=λ_=>False) (r:=pq aE f) (size:=9) (vs:=[ah (uY 0 [] [] [] Sl.nil Sl.nil Sl.nil Sl.nil 0).toArray]) (xs:=[XR]) (len:=1) (parts:=#[(0,ah (uY 0 [] [] [] Sl.nil Sl.nil Sl.nil Sl.nil 0).toArray)]) D D I I Z I I Z Z (cq aE f) ⟨⟨I,Ti iS _ _⟩,trivial⟩;exact⟨y,u2,b,g,k⟩
  have oR:∀{u:av} {y:Sl} {A:Nat},B2<=A->Nf f B2 u kids cc->(∀k,A<=k->kids.a≠aM ⟨k,0,VM⟩)->aA (pq aE f) 9 u (Fr A) y [XR]->A<=u.heap.size->∃(s8:Sl) (u2:av),(Builtin.append_ #[25,25] 25 #[kids.v,y.v]).run aq u=.ok s8.v u2/\Nf f B2 u2 s8 (cc++[XR])/\(∃gs,ay gs u u2/\∀x∈gs,B2<=x/\x<A)/\(∀k,A<=k->k<u.heap.size->s8.a≠aM ⟨k,0,VM⟩):=fun{u y A} hA ho hk hy hAu=>by
   let⟨s8,u2,g,l,gs,r,u,w⟩:=rA (P:=aq) (t:=25) (ty:=25) (e:=27) (i:=t27) (bytes:=160) (size:=9) (y:=y) (ys:=[XR]) D D I I I I (cq aE f) ho (hy.mono (cq aE f) λk b=>⟨bC hA b,hk k b⟩) (bC hA hAu) (by rw[bI];omega) Z
   grind
  have k8:∀{u:av} {s8:Sl},Sr F ts u b l d.2->aF u g t (lm++uY n1.k n1.nm n1.ini n1.dft c v mv kids n1.a)->Km aE u (λk=>B<=k/\k<B2) n1 c v mv->ay [b,g] w u->B2<=u.heap.size->Nf f B2 u s8 (cc++[XR])->∀w',aF w' g t (lm++uY n1.k n1.nm n1.ini n1.dft c v mv s8 n1.a)->Nf f B2 w' s8 (cc++[d.1])->(∃nj,B2<=nj/\ay [g,nj] u w')->∃ji,Kd F ts w w' b l g t lm f B B2 n1 c v mv d.2 (cc++[d.1]) ji:=λhr wK Xc ho hz _ w' h1 h2 ⟨nj,h3,h4⟩=>
   ⟨_,hr.far h4 λx hx=>(by
    simp only[ba,cy,fQ]at hx;rcases hx with rfl|rfl
    .exact hg
    exact hr.gt X),h1,Xc.keep λoN b a=>h4.block oN a<|by simp only[ba,cy,fQ];omega,h2,ho.trans h4 R,bC hz h4.size⟩
  refine⟨λk=>k=g,_,I,I,kids,s.nb.X7 (WS lm+7)<|nt I,(gz s.r).mono ?_,?_⟩
  .rintro _ P ⟨z,rfl,hx,G⟩;have r:=ce s G;have DQ:=hx;obtain⟨f',rfl⟩:∃f',f=f'+1:=⟨f-1,X⟩
   obtain⟨xe,xl,xm,xk,rfl,_⟩:=DQ;let⟨y,ff,e2,hy,l⟩:=hz P;have e:=ce r<|r.r.dn.q l;let⟨s8,fS,e3,w,⟨gs,b,G5⟩,F⟩:=oR (u:=ff) (y:=y) (A:=C.heap.size) Hi e.kd (λk hk=>s.kd.new hk) ((hy.slice<|cq aE _).mono (cq aE _) λk hk=>(by
    rcases hk with hk|hk
    .exact hk.elim
    exact bC G.o.size hk.1))<|bC G.o.size l.size
   have t:∀x∈gs,x≠g:=λx hx=>GR
   have Ym:=b.size;have Yl:=e.lB;have pi:=G.o.size;refine⟨_,_,_,_,xe,xl,xm,xk,_,I,sk (x:=s') s.lB G,Je G.o bW,y,ff,e2,sk (x:=s') r.lB<|r.r.dn.q l,Je l N,s8,fS,e3,b.same<|λx hx=>?_,Je b t,?_⟩
   .grind
   refine It (H:=λk=>C.heap.size<=k/\k<P.heap.size) (acc:=cc) ?_ (λk hk _=>⟨bC Hi hk.1,F k hk.1<|cD hk.2 l.size⟩) (λk hk=>bC Hi hk.1) w s.kd.len (b.blk e.nb λq=>t g q I) X X dO (k8 (e.r.own b λx hx=>GR) (b.blk e.nb λq=>t g q I) (e.no.keep λoN f a=>b.block oN a λq=>(by have:=(G5 oN q).1;omega)) (e.o.trans b R) (bC Yl Ym) w);exact(cq aE _).keep ((cq aE _).inHeap hx) λk hk a=>(b.block k (cD a l.size) λq=>by have:=(G5 k q).2;have:=hk.1;omega).trans<|l.block k a N
  let⟨y,kf,e2,hy,l⟩:=hz C;have t:=ce s<|s.r.dn.q l;refine⟨y,kf,e2,sk (x:=s') s.lB<|s.r.dn.q l,Je l N,(gz t.r).mono ?_⟩;rintro _ je ⟨z,rfl,hx,e⟩;have P:=ce t e;have DQ:=hx;obtain⟨f',rfl⟩:∃f',f=f'+1:=⟨f-1,X⟩
  obtain⟨xe,xl,xm,xk,rfl,_⟩:=DQ;have F:=(((hy.slice<|cq aE _).inHeap (cq aE _) Z).keep (cq aE _) Z (w':=je) λk hk a=>e.o.block k a (by
   grind)).mono (cq aE _) (G:=Fr C.heap.size) Rl
  let⟨s8,ky,e3,w,⟨gs,b,G5⟩,rx⟩:=oR (u:=je) (y:=y) (A:=C.heap.size) Hi P.kd (λk hk=>s.kd.new hk) F<|bC l.size e.o.size;have r:∀x∈gs,x≠g:=λx hx=>GR
  have pP:=b.size;have pm:=P.lB;have tO:=l.size;refine⟨_,_,_,_,xe,xl,xm,xk,_,I,sk (x:=s') t.lB e,Je e.o bW,s8,ky,e3,b.same<|λx hx=>?_,Je b r,?_⟩
  .grind
  refine It (H:=λk=>kf.heap.size<=k/\k<je.heap.size) (acc:=cc) ?_ R (λk hk=>X) w s.kd.len (b.blk P.nb λq=>r g q I) X X dO (k8 (P.r.own b λx hx=>GR) (b.blk P.nb λq=>r g q I) (P.no.keep λoN f a=>b.block oN a λq=>(by have:=(G5 oN q).1;omega)) (P.o.trans b R) (bC pm pP) w);refine(cq aE _).keep ((cq aE _).inHeap hx) λk hk a=>?_;exact b.block k a λq=>by have:=(G5 k q).2;have:=hk.1;omega
 have hc:=Wj hc;rw[E hc]at h;refine⟨_,Hl k6.r.blk 6 I,b,6,_,_,I,k6.r.blk,N,cC,λu r n=>have a:=ce k6 (y:={s' with d:=P7 s'.d}) ⟨r,k6.r.lD r n k6.r.lt⟩;let⟨q,w,e1,s,t⟩:=vd a.r [125];have l:=ce a<|a.r.dn.q s;⟨q,w,e1,sk (x:=s') a.lB<|a.r.dn.q s,t.mono ?_⟩⟩;rintro _ A ⟨rfl,g⟩;have e:=ce l g;refine⟨I,sk (x:=s') l.lB g,I,_,e.nb,?_,e.o,?_⟩
 .rw[<-h];refine⟨c,v,mv,kids,I,e.no.mono λk hk=>bC bv hk.1,(e.kd.sl (cq aE f) λk hk=>hk).low (cq aE f) X⟩
 rw[<-h];exact e.r
end
def Tk.Good(t:Tk):Prop:=(t.k=2->∃c r,t.t=c::r/\gf c=aE)/\(t.k=4->∃c r,t.t=c::r/\gf c=aL)/\0<=t.n/\t.n<=9223372036854775807
def aaj{m}{q}(h:ot m=.ok q):q.1≠5/\∀a,Tk.Good ⟨q.1,q.2.1,q.2.2.1,a⟩:=by
 cases m with
 |nil=>cases h
 |cons c r=>
  simp[ot]at h;split at h
  .rename_i b;rw[pC]at h;split at h
   .cases h
   cases h;let w:gf c=aE:=by unfold gf;rw[b];rfl
   refine⟨by dsimp only;split<;>decide,λa=>⟨λ_=>?_,λd=>?_,Rs,Rs⟩⟩
   .rw[fM,E w];exact⟨c,_,I,w⟩
   dsimp only at d;split at d<;>exact absurd d Z
  rename_i l;split at h
  .rw[vX]at h;split at h
   .cases h
   split at h
   .cases h
   cases h;refine⟨Rs,λa=>⟨λh=>absurd h Rs,λh=>absurd h Rs,P0,?_⟩⟩;rw[im];split
   .dsimp only;decide
   split
   .dsimp only;decide
   split
   .dsimp only;omega
   dsimp only;decide
  rename_i hd;rw[qF]at h;split at h
  .cases h
  cases h;refine⟨Rs,λa=>⟨λh=>absurd h Rs,λ_=>?_,Rs,Rs⟩⟩;obtain⟨n,b⟩:∃n,kO (c::r)=n+1:=⟨kO (c::r)-1,X⟩
  rw[b,fL];refine⟨c,_,I,?_⟩;rw[gf,eH];exact⟨by simpa using l,by simpa using hd⟩
def y0{l}:∀n i,i<=(WS l)->(WS l)-i<=n->∀r,ma l i=.ok r->∃fr a,r=fr++[⟨5,[],0,a⟩]/\(∀t∈fr,t.k≠5/\t.Good)/\WS r<=(WS l)-i+1
 |n,i,c,b,r,h=>by
  rw[lK c]at h;split at h
  .injection h with h;exact⟨[],_,h.symm,λt a=>(by cases a),by rw[<-h,bI];omega⟩
  split at h
  .cases h
  rename_i q d;let g:=yI d;have f:=FL d;rw[cT]at f;split at h
  .cases h
  rename_i j r;injection h with h;subst h
  match n,b with
  |0,b=>omega
  |n+1,b=>
   let⟨fr,a,e,m,o⟩:=y0 n _ X X _ r;let l:=aaj d;refine⟨_::fr,a,by rw[e];rfl,λt k=>?_,by rw[aY];omega⟩;rcases ba.1 k with rfl|k
   .exact⟨l.1,l.2 _⟩
   exact m t k
def af4{fr}{a}(b:∀t∈fr,t.k≠5):vY (fr++[⟨5,[],0,a⟩]):=λi c=>by
 rw[aU,bI]at c;rw[tk];by_cases h:i<WS fr
 .rw[de h,aR h,jm,aU,bI];exact⟨λe=>absurd e<|b _<|mX h,λe=>X⟩
 have e:i=WS fr:=X
 subst e;rw[dR X,Ee,aU,bI];exact⟨λ_=>I,λ_=>I⟩
def xCB{l}:∀n i,i<=(WS l)->(WS l)-i<=n->∀x,ma l i=.error x->x.1≠0
 |n,i,b,a,x,h=>by
  rw[lK b]at h;split at h
  .cases h
  split at h
  .rename_i e q;cases h;exact J8 q
  rename_i q c;have:=yI c;have d:=FL c;rw[cT]at d;split at h
  .rename_i y f;cases h
   match n,a with
   |0,a=>omega
   |n+1,a=>exact xCB n _ X X _ f
  cases h
def Ah{l}(h:(cR l).2.1=0):vY (cR l).1/\(∀t,t∈(cR l).1->t.Good)/\0<(cR l).1.length/\(cR l).1.length<=16385:=by
 unfold cR at h⊢;split at h
 .cases h
 rename_i c;rw[Q c];cases b:ma l 0 with
 |error x=>
  rw[b]at h;exact absurd h<|xCB (WS l) 0 X X _ b
 |ok r=>
  let⟨fr,a,e,f,n⟩:=y0 (WS l) 0 X X r b;dsimp only;subst e;refine⟨af4 λt d=>(f t d).1,λt d=>?_,W4,X⟩;rcases cZ.1 d with d|d
  .exact(f t d).2
  simp at d;subst d;exact⟨λh=>absurd h Rs,λh=>absurd h Rs,Rs,Rs⟩
section
variable{F:h}{ts:J Tk}{w w' w2:av}{b:Nat}{l:Sl}{s s':Sx}
theorem B8:∀(f:Nat) (d:Int),0<=d->d<f->d<=9223372036854775807->NC F ts b l f d
 |0,d,h,a,_=>X
 |f+1,d,h0,h1,l=>by
  intro k u w c hd;refine jK<|arE ?_;intro a w0 H C T;have t:=c.zt.al T H C;refine(NB t.r k).mono ?_;rintro _ w1 ⟨rfl,h⟩;have g:=t.nx h;have o:=FW c.en k u;have e:=afW (ts:=ts) (k:=k) (s:=u);rw[mZ];have wK:(gy ts k u).1.ini=[]/\(gy ts k u).1.dft=[]/\(gy ts k u).1.en=[]/\(gy ts k u).1.lv=[]/\(gy ts k u).1.mv=[]:=⟨I,I,I,I,I⟩
  generalize gy ts k u=i at*
  let⟨L,W⟩:=i;let⟨p,r,v,z,B⟩:=wK;let⟨P,m,D,j,M,R,V,K⟩:=L;subst p r v z B;refine⟨_,_,_,_,Sl.nil,Sl.nil,Sl.nil,Sl.nil,_,I,t.sc h N,λhc k1 w2 Z G F=>?_,λhc J dh yq Y y=>?_⟩
  .rw[E PZ];have f:=g.al F Z G;let⟨q,w3,b,s,d⟩:=vd f.r [45,62];have t3:=f.q s;refine⟨q,w3,b,f.sq s N,d.mono ?_⟩;rintro _ w4 ⟨rfl,x⟩;have k:=t3.nx x;refine⟨I,t3.sc x N,(Bl k.r).mono ?_⟩;rintro _ w5 ⟨rfl,h5⟩;refine⟨_,I,k.sc h5 N,λw6 dr=>have n:=(k.nx h5).f dr N;let⟨q,w7,b,w,d⟩:=vd n.r [59];have t7:=n.q w;⟨q,w7,b,n.sq w N,d.mono ?_⟩⟩;rintro _ w8 ⟨rfl,h8⟩;refine⟨I,t7.sc h8 N,λw9 fx=>⟨_,I,⟨Sl.nil,Sl.nil,Sl.nil,Sl.nil,I,⟨Wc ..,Wc ..,Wc ..⟩,Wc ..⟩,((t7.nx h8).f fx N).dn⟩⟩
  rw[Q YD];have am:=g.al y yq Y;let⟨q,dE,e1,dJ,hm⟩:=vd am.r [123];have aT:=am.q dJ;refine⟨q,dE,e1,am.sq dJ N,hm.mono ?_⟩;rintro _ ey ⟨rfl,bJ⟩;have k:=aT.nx bJ;have aC:=jY (s:=W) c.en [123];refine⟨I,aT.sc bJ N,λhB _=>have aS:=aC.d.trans<|o.d.trans hd;(vt (f:=f) k.r (lm:=[]) (n:=⟨P,m,[],[],[],[],[],K⟩) I I I hB (k.r.gt<|k.lt N) (by rw[aS];exact⟨X,l⟩)<|λhf=>?_).mono ?_⟩
  .have b:=e (aC.le hf).1;rw[hd]at b;have n:Cx d=d-1:=by unfold Cx;rw[eI X X]
   rw[aS,n];exact⟨X,B8 f _ X X X⟩
  rintro _ ff ⟨rfl,cs,yr,f,n,s⟩;have q:=f;obtain⟨xe,xl,xm,xk,rfl,_⟩:=q;have Yl:Fz [b] w ff [J,a]:=k.z.go n A;refine⟨I,k.z.sm n N<|λx f=>?_,_,_,_,_,xe,xl,xm,xk,_,yr,λfS d gz=>⟨_,I,?_,?_⟩⟩
  .grind
  .refine(cq aE _).low ((cq aE _).stay f<|(Cf _ _).f d<|.inl ?_) k.z.o.size;have:=(k.z.k a N).2;omega
  exact⟨(Yl.f d N).o,s.one d<|k.lt (k0:=a) N⟩
theorem aln(i:Sr F ts w b l s)(j:∀t∈ts,t.Good):az aq 93 #[rp b] w λe w'=>e=ak (ah #[ab (T (Cz ts s).1.n),O U (Cz ts s).1.v,O U (Cz ts s).1.a])/\Dn F ts w w' b l (Cz ts s).2:=by
 refine ret<|ark ?_;intro m p H C d;have a:=i.zt.al d H C;let⟨ad,g,h⟩:=a.r.now;rw[Cz];generalize D:(if(tk ts s.i).k=1 then Hy ts s else s)=o;refine⟨λw'=>Zt F ts w w' b l o [m],λr c=>(Bk c.r (k:=1) Z).mono ?_,l,Hl a.r.blk 0 I,_,Hl a.r.blk 1 I,ad,g,_,h.dv 0 _ I,λhc y G=>?_,λhc S f=>?_⟩
 .rintro _ w2 ⟨rfl,L⟩;refine⟨_,_,_,_,I,c.sc L N,λk1 w3 kZ jl cN=>have w:=(c.nx L).al cN kZ jl;let⟨q,w4,b,F,s⟩:=vd w.r [61];have T:=w.q F;⟨q,w4,b,w.sq F N,s.mono ?_⟩⟩;rintro _ w5 ⟨rfl,M⟩;have z:=T.nx M;refine⟨I,T.sc M N,let⟨q,w6,b,J,s⟩:=Ir z.r [[45]] (n:=1) (parts:=#[_]) I I Z Z;have V:=z.q J;⟨q,w6,b,z.sq J N,s.mono ?_⟩⟩;rintro _ w7 ⟨rfl,P⟩;have A:=V.nx P;generalize v:cY ts _ [[45]]=l at*
  have am:l<=1:=by rw[<-v];exact VA _
  refine⟨_,I,V.sc P N,(Bk A.r (k:=3) Z).mono ?_⟩;rintro _ w8 ⟨rfl,R⟩;have B:=A.nx R;refine⟨_,_,_,_,I,A.sc R N,let⟨q,w9,b,K,s⟩:=vd B.r [59];have W:=B.q K;⟨q,w9,b,B.sq K N,s.mono ?_⟩⟩;rintro _ dh ⟨rfl,Y⟩;refine⟨I,W.sc Y N,λdE dJ=>⟨?_,((W.nx Y).f dJ N).dn⟩⟩;have hn:∀u,0<=(jb ts u 3).1.n/\(jb ts u 3).1.n<=9223372036854775807:=λu=>by
   rw[jb];split
   .exact⟨rU 0,(by decide:(0:Int)<=9223372036854775807)⟩
   rw[tk];rcases hx:ts[u.i]? with _|t
   .exact⟨rU 0,(by decide:(0:Int)<=9223372036854775807)⟩
   exact(j t<|be hx).2.2
  obtain _:=hn _;generalize (jb ts _ 3).1.n=x at*
  have e:ar U ((ar U<|1-(ar U<|2*l))*x)=if l=0 then x else ar U (-x):=by
   rcases(by omega:l=0∨l=1)with rfl|rfl
   .show ar U (1*x)=x;rw[Int.one_mul,eI X X]
   rw[Q Z];show ar U (-1*x)=_
   grind
  rw[e]
 .refine(ali (a.q G).r).mono ?_;rintro _ b ⟨rfl,x⟩;refine⟨I,(a.q G).sc x N,?_⟩;rw[<-D,E WH];exact(a.q G).nx x
 rw[<-D,Q WH];exact a.q f
end
def O3 w F:ChR aE 15 w F GQ Sl.nil (uY 0 [] [] [] Sl.nil Sl.nil Sl.nil Sl.nil 0):=⟨Wc ..,Ti Z _ _⟩
def ChR.stay{d}{w w'}{B}{c}{vs}{cs}(h:ChR aE d w (Fr B) c vs cs)(s:Stay B w w'):ChR aE d w' (Fr B) c vs cs:=⟨h.vars.stay fI Z s,(cq aE d).stay h.root s⟩
def ChR.low{d}{w}{A B}{c}{vs}{cs}(h:ChR aE d w (Fr B) c vs cs)(a:A<=B):ChR aE d w (Fr A) c vs cs:=⟨h.vars.low fI a,(cq aE d).low h.root a⟩
def alo{ts}(h:vY ts){s}{ss}(i:s.i<WS ts)(w:cY ts s ss≠0):mu ts (Cz ts<|eE s).2<mu ts s:=
 tS h (dX w).1 i (dX w).2 (P2 h _).toOn0
def tz{w:av}(l:L)(hE:Er w):az aq 54 #[ab (T l)] w λe b=>
  ∃(m:Sl) (j:aI),e=ak (ai #[ah (m.v::j).toArray,ah #[O U (fg l).2.1,O U (fg l).2.2]])/\ChR aE 15 b (Fr w.heap.size) (fg l).1 m j/\ay [] w b:=by
 refine(aq2 (T l) (λv b=>∃(m:Sl) (j:aI),v=(ai #[ah (m.v::j).toArray,ah #[O U (fg l).2.1,O U (fg l).2.2]])/\ChR aE 15 b (Fr w.heap.size) (fg l).1 m j/\ay [] w b) w ?_).mono (by
  rintro e b ⟨v,rfl,m,j,rfl,d⟩;exact R)
 generalize h:fg l=am;unfold fg at h;intro z B Y fH dC kZ jl H;have z0:=H.size;refine(M5 l<|hE.only H).mono ?_;rintro _ u ⟨s,rfl,hT,K⟩;have z1:=K.size;have jN:=H.bG K;have p:=Ah (l:=l);have C:∀{w2 w3:av},ay [] u w2->ay [B,z] w2 w3->ay [] w w3:=λM P=>((jN.bG M).trans P A)
 refine⟨s,_,_,I,K.same o,λhc k2 w2 yq uu M n1 n2 n3=>⟨λk=>k=k2,I,λe=>n2 e,λe=>n3 e,λw3 P=>?_⟩,λhc k3 a c w4 AH wz rr yu tA Az W=>?_⟩
 .have hc:(cR l).2.1≠0:=WH
  rw[E hc]at h;subst h;exact⟨Sl.nil,_,I,O3 _ _,C M P⟩
 have hc:(cR l).2.1=0:=WH
 let⟨bv,vJ,ip,fj⟩:=p hc;rw[Q WH]at h;have gG:=((hT.sl.inHeap ju Z).mono ju (G:=λk=>Y.heap.size<=k/\k<u.heap.size) X)
 generalize (cR l).1=ts at*
 clear p hT;have z4:=W.size;let⟨q,w5,e1,hq,dV⟩:=lj w4 [gx] (n:=1) (parts:=#[(0,ab<|T gx)]) I I Z Z;have z5:=dV.size;refine⟨q,w5,e1,dV.same o,λyp wd As AC oF=>?_⟩;have r5:Sr _ ts w5 a s zL:=⟨yp,ZH ju Z gG (W.bG dV) N,X,bv,ip,X⟩
 have nj:∀k,(λk=>Y.heap.size<=k/\k<u.heap.size) k->k<u.heap.size:=λk hk=>hk.2;generalize (λk=>Y.heap.size<=k/\k<u.heap.size)=F at*
 have gE:ay [] w w5:=(jN.bG W).bG dV;have sm:∀{aC u':av} {x:Sx},w5.heap.size<=aC.heap.size->Dn F ts aC u' a s x->bX [z,B,k3,c] aC u':=λhz d=>d.o.same (by
  intro x hx;simp only[ba,cy,fQ]at hx⊢;omega)
 have sq:∀{aC u':av},w5.heap.size<=aC.heap.size->ay [] aC u'->bX [z,B,k3,a,c] aC u':=λhz bY=>bY.same R;have oD:∀{aC u':av} {x:Sx},ay [] w aC->Dn F ts aC u' a s x->ay [] w u':=λbY d=>bY.trans d.o R;have o5:∀{aC u':av},ay [] w aC->ay [c] aC u'->ay [] w u':=λbY d=>bY.trans d R;have fd:∀{aC u':av} {x:Sx},Sr F ts aC a s x->ay [c] aC u'->Sr F ts u' a s x:=λr bY=>r.amx bY R;have Yd:=yp.lt;refine(Tm r5 (wG hq) X).mono ?_;rintro _ w6 ⟨rfl,h6⟩;have z6:=h6.o.size;refine⟨I,R,s,_,_,_,_,_,_,_,_,h6.r.blk,(NB h6.r 1).mono ?_⟩;rintro _ w7 ⟨rfl,h7⟩;have z7:=h7.o.size;have hC:xN ts=(⟨(xM ts (WS ts+1) [] (gw ts (gy ts 1<|gw ts zL gx).2 [123])).1,(uV ts (mZ ts 14) (gy ts 1<|gw ts zL gx).1 (xM ts (WS ts+1) [] (gw ts (gy ts 1<|gw ts zL gx).2 [123])).2).1⟩,QC ts (uV ts (mZ ts 14) (gy ts 1<|gw ts zL gx).1 (xM ts (WS ts+1) [] (gw ts (gy ts 1<|gw ts zL gx).2 [123])).2).2):=I;have wK:(gy ts 1<|gw ts zL gx).1.ini=[]/\(gy ts 1<|gw ts zL gx).1.dft=[]/\(gy ts 1<|gw ts zL gx).1.en=[]/\(gy ts 1<|gw ts zL gx).1.lv=[]/\(gy ts 1<|gw ts zL gx).1.mv=[]:=⟨I,I,I,I,I⟩
 have oN:On ts zL (gy ts 1<|gw ts zL gx).2:=(jY bv _).trans<|FW bv _ _;generalize gy ts 1 (gw ts zL gx)=pi at*
 let⟨⟨nk,ce,pm,pP,AS,AT,Bv,jc⟩,u1⟩:=pi;dsimp only at*
 let⟨i1,i2,i3,i4,i5⟩:=wK;subst i1 i2 i3 i4 i5;refine⟨_,_,_,_,Sl.nil,Sl.nil,Sl.nil,Sl.nil,_,I,sm z6 h7,s,_,_,_,_,_,_,_,_,h7.r.blk,λw8 fD xp=>have z8:=fD.size;have oR:=o5 (oD (oD gE h6) h7) fD;let⟨q,w9,e1,fx,hm⟩:=vd (fd h7.r fD) [123];have z9:=fx.size;⟨q,w9,e1,sq X fx,hm.mono ?_⟩⟩;rintro _ dh ⟨rfl,tE⟩;have Ja:=tE.o.size;have gO:=oD (oR.bG fx) tE;have gT:On ts zL (gw ts u1 [123]):=oN.trans<|jY bv _;clear hm;generalize gw ts u1 [123]=u2 at*
 generalize hV:xM ts (WS ts+1) [] u2=V at*
 generalize hB:dh.heap.size=bV at*
 refine⟨I,sm X tE,s,_,_,_,_,_,_,_,_,tE.r.blk,λnv aS iD s3 s4 s5 qh rn ur yi iF AG iN iS ld lE lT mt mK nO b=>∃(aC:Sx) (aT:J Vr),iD=nk/\s3=T ce/\s4=T []/\s5=T []/\qh=Sl.nil/\rn=Sl.nil/\ur=Sl.nil/\yi=Sl.nil/\iF=jc/\Sr F ts b a s aC/\Own Wd 3 115 bV b (Fr bV) aS aT/\xM ts nv aT aC=V/\mu ts aC<nv/\WS aT+mu ts aC<=WS ts/\ay [] w b/\bV<=b.heap.size/\aC.d=12,
  (WS ts)+1,⟨u2,[],I,I,I,I,I,I,I,I,I,tE.r,E7 ..,hV,AJ<|xT _ _,Uv,gO,X,gT.d⟩,?_⟩
 clear hV;rintro nv aS el _ _ _ _ _ _ _ dO AG iN iS ld lE lT mt mK nO dE ⟨aC,aT,rfl,rfl,rfl,rfl,rfl,rfl,rfl,rfl,rfl,eQ,g9,hR,rx,zr,g8,k9,cc⟩;obtain⟨n8,rfl⟩:∃n8,nv=n8+1:=⟨nv-1,X⟩
 rw[xM]at hR;let⟨q,ey,e1,eG,hm⟩:=Ir eQ [Af] (n:=1) (parts:=#[(0,ab<|T Af)]) I I Z Z;have By:=eG.size;refine⟨q,ey,e1,sq X eG,hm.mono ?_⟩;rintro _ ff ⟨rfl,xq⟩;have Yl:=xq.o.size;have cC:=oD (g8.bG eG) xq;have co:Own Wd 3 115 bV ff (Fr bV) aS aT:=(g9.stay fI eG R).stay fI xq.o R;refine⟨_,I,sm X xq,s,_,_,_,_,_,_,_,_,xq.r.blk,λpf fS dQ k8=>?_,λpf yr tO ut uP=>?_⟩
 .have pf:=Wl pf;rw[Q pf]at hR xq;have Ym:=dQ.size;refine⟨λk=>k=c,I,(aln (xq.r.only dQ) vJ).mono ?_⟩;rintro _ gz ⟨rfl,d⟩;have DO:=d.o.size;have Do:=alo bv eQ.lt pf;have BV:=P2 bv<|eE aC;generalize Cz ts (eE aC)=Cc at*
  let⟨x,u'⟩:=Cc;dsimp only at*
  have Dk:=xT ts aC;have V:Own Wd 3 115 bV gz (Fr bV) aS aT:=(co.stay fI dQ R).stay fI d.o R;let⟨y,iA,e2,f,me,fV,e3,qO,⟨gs,n,G5⟩,_⟩:=iO (P:=aq) (t:=22) (ty:=22) (e:=115) (i:=t115) (bytes:=32) (size:=3) (v:=ah #[ab (T x.n),O U x.v,O U x.a]) (x:=x) (G:=λ_=>False) D D I I I I Z Z Z fI V X I I R X;have r:∀g∈gs,bV<=g:=R
  have EQ:=f.size;have Fd:=n.size;refine⟨_,_,_,I,sm X d,s,_,_,_,_,_,_,_,_,d.r.blk,λk hk bJ=>(by subst hk;exact d.o.block k bJ bW),y,iA,e2,sq X f,ZX f,me,fV,e3,n.same<|λx hx=>?_,λk hk bJ=>(by subst hk;exact n.block k bJ R),λiW q CC=>?_⟩
  .simp only[ba,cy,fQ]at hx;exact⟨X,λhm=>by have:=r x hm;omega⟩
  have g:=q.size;have e:Sr F ts fV a s u':=(d.r.only f).own n R;refine⟨n8,Nat.lt_succ_self _,u',aT++[x],I,I,I,I,I,I,I,I,I,fd e q,?_,hR,X,W4,o5 (((oD (cC.bG dQ) d).bG f).trans n R) q,X,BV.d.trans cc⟩;refine(qO.mono fI λk hk=>?_).stay fI q R;rcases hk with hk|hk
  .exact hk
  show bV<=k;omega
 rw[E (Wj pf)]at hR xq;subst hR;dsimp only at hC;refine(vt (f:=14) xq.r (lm:=[aS.v]) (n:=⟨el,ce,[],[],[],[],[],dO⟩) I I I yr ⟨oF,λhF=>(by have:=nj _ hF;omega)⟩ (by rw[cc];exact⟨Z,Z⟩) (λ_=>by
  rw[cc];exact⟨Z,B8 14 11 Z Z Z⟩)).mono ?_
 generalize uV ts (mZ ts 14) ⟨el,ce,[],[],[],[],[],dO⟩ aC=zqI at*
 obtain⟨r,O⟩:=zqI;dsimp only at hC;rw[hC]at h;dsimp only at h;rintro _ kf ⟨rfl,j,zqF,hx,lH,Fn⟩;dsimp only at*
 have IS:=lH.size;have Ge:ay [] w kf:=cC.trans lH R;have Gg:Stay bV ff kf:=Stay.of lH R;have Gt:ChR aE 15 kf (Fr w5.heap.size) ⟨aT,r⟩ aS j:=⟨((co.sl fI λk hk=>hk).stay fI Z Gg).low fI X,(cq aE 15).low hx X⟩
 have DQ:=hx;obtain⟨i,t,v,q,rfl,_⟩:=DQ;have G:∀{aC u':av} {bs:J Nat},w5.heap.size<=aC.heap.size->ay bs aC u'->(∀x∈bs,x=a∨x=c)->bX [z,B,k3] aC u':=λhz bY hb=>bY.same R;refine⟨I,G X lH N,s,_,_,_,_,_,_,_,_,Fn.blk,aS,_,_,_,_,i,t,v,q,_,zqF,?_⟩;have st:∀{aC u':av} {x:Sx},Sr F ts aC a s x->aF aC c 29 _->ay [] w aC->ChR aE 15 aC (Fr w5.heap.size) ⟨aT,r⟩ aS _->∀{y:Sx},Dn F ts aC u' a s y->Sr F ts u' a s y/\aF u' c 29 (aS.v::uY r.b.k r.b.nm r.b.ini r.b.dft i t v q r.b.a)/\ay [] w u'/\ChR aE 15 u' (Fr w5.heap.size) ⟨aT,r⟩ aS (uY r.b.k r.b.nm r.b.ini r.b.dft i t v q r.b.a):=fun{aC u' x} g T U V {y} d=>
  ⟨d.r,d.o.blk T bW,oD U d,V.stay<|Stay.of d.o A⟩
 refine⟨λHI GE I8 I9 O5 L1 Vk Vm Vn GG Vo GO GT H1 Id If Is ID IF je=>w5.heap.size<=je.heap.size/\Sr F ts je a s (QC ts O)/\aF je c 29 (aS.v::uY r.b.k r.b.nm r.b.ini r.b.dft i t v q r.b.a)/\ay [] w je/\ChR aE 15 je (Fr w5.heap.size) ⟨aT,r⟩ aS (uY r.b.k r.b.nm r.b.ini r.b.dft i t v q r.b.a),?_,?_⟩
 .rintro HI GE I8 I9 O5 L1 Vk Vm Vn GG Vo GO GT H1 Id If Is ID IF je ⟨y,g,T,U,V⟩;refine(qy g).mono ?_;rintro _ ky ⟨rfl,d⟩;let⟨b1,b2,F,b4⟩:=st g T U V<|g.dn.q d;have Of:=d.size;refine⟨_,I,G y d N,s,_,_,_,_,_,_,_,_,b1.blk,aS,_,_,_,_,i,t,v,q,_,b2,λhf nK ql _ _ Le Lt f LE LT n MK Nm No NO=>⟨λk=>k=a,I,λe=>f e,λe=>n e,λnL mV _ _=>?_⟩,λhf pe vB _ _=>?_⟩
  .have hf:(QC ts O).fc≠0:=Zu
   rw[E hf]at h;subst h;exact⟨Sl.nil,_,I,O3 _ _,(F.bG ql).trans mV λx hx=>.inr Nk⟩
  have hf:¬(QC ts O).fc≠0:=Zu
  rw[Q hf]at h;subst h;refine⟨aS,_,I,(b4.stay<|Stay.of vB R).low gE.size,F.trans vB A⟩
 refine⟨λd Xk f ST SW To Xl Xm Yh RK k So n x y OF ON OR Pi Pp e=>d=JW (O.fc=0/\(tk ts O.i).k≠5)/\w5.heap.size<=e.heap.size/\Sr F ts e a s O/\aF e c 29 (aS.v::uY r.b.k r.b.nm r.b.ini r.b.dft i t v q r.b.a)/\ay [] w e/\ChR aE 15 e (Fr w5.heap.size) ⟨aT,r⟩ aS (uY r.b.k r.b.nm r.b.ini r.b.dft i t v q r.b.a),?_,λvw rL _ _=>?_⟩
 .rintro d Xk f ST SW To Xl Xm Yh RK k So n x y OF ON OR Pi Pp e ⟨rfl,F,g,T,U,V⟩;unfold QC;refine⟨λhb=>(xS g).mono ?_,λhb=>?_⟩
  .rw[E (S hb)];rintro _ qj ⟨rfl,TO⟩;let⟨d,b2,b3,b4⟩:=st g T U V TO;have UP:=TO.o.size;exact⟨I,G F TO.o N,s,_,_,_,_,_,_,_,_,d.blk,aS,_,_,_,_,i,t,v,q,_,b2,X,d,b2,b3,b4⟩
  rw[Q (aQ hb)];exact R
 have UV:=rL.size;obtain⟨g,T,U,V⟩:=st Fn zqF Ge Gt<|Fn.dn.q rL;refine(qy g).mono ?_;rintro _ xn ⟨rfl,zC⟩;let⟨d,F,b3,b4⟩:=st g T U V<|g.dn.q zC;have WF:=zC.size;let⟨ad,g1,g2⟩:=d.now;refine⟨_,I,G X zC N,s,_,_,_,_,_,_,_,_,d.blk,aS,_,_,_,_,i,t,v,q,_,F,λhb=>⟨ad,g1,_,g2.dv 0 _ I,?_,X,d,F,b3,b4⟩,λhb=>⟨?_,X,d,F,b3,b4⟩⟩
 .have hb:O.fc=0:=Rg
  rw[bM];simp[hb]
 have hb:¬O.fc=0:=Rg
 simp[hb]
def Bu(w:av)(b k:Nat):=∃n c,w.cell? ⟨b,1,VM⟩=aM (.slice (aM ⟨k,0,VM⟩) n c)
structure Mw (f:Bool) (b:Nat) (w w':av):Prop where
 o:aD (λk=>k=b∨(f=aL/\Bu w b k)) w w'
 u:∀k,Bu w' b k->Bu w b k∨(f=aL/\w.heap.size<=k)
abbrev St:=C×Int
structure Qz (w0:av) (b:Nat) (w:av) (l:L) (st:St):Prop where
 o:ay [] w0 w
 lo:w0.heap.size<=b
 ex:∃(q:Option Addr) (sl:Sl),(q=VM∨q=aM ⟨b,0,VM⟩)/\aF w b 208 [ae q,sl.v,aj st.1,O U st.2]/\Bf w (b+1) sl l
 i:st.1=aL->0<=st.2/\st.2<=400
 big:WS l<=274877906944
structure Up (st:St) (c:Bool) (n:Nat) (dl:St):Prop where
 w:dl.1=((st.1||!c)||decide (400<st.2+n))
 a:dl.1=aL->dl.2=st.2+n
def Yz{a b c}(h:aL=((a||!b)||c)):a=aL/\b=aE/\c=aL:=by
 simp_all
def Up.ok{st dl}{c}{n}(h:Up st c n dl)(e:dl.1=aL):st.1=aL/\c=aE/\dl.2=st.2+n/\¬400<st.2+n:=by
 let⟨a,b,d⟩:=Yz<|e.symm.trans h.w;exact⟨a,b,h.a e,aQ d⟩
def Up.tr{st dl anC}{c c'}{n n'}(h:Up st c n dl)(k:Up dl c' n' anC):Up st (c&&c') (n+n') anC:=by
 cases e:anC.1
 .obtain⟨a,i,k3,j⟩:=k.ok e;obtain⟨b,c,d,f⟩:=h.ok a;have g:¬400<st.2+((n+n':Nat)):=X
  refine⟨?_,X⟩;simp_all
 refine⟨?_,R⟩;rw[e];refine Eq.symm<|bK λg=>?_;obtain⟨c,a,b⟩:=Yz (iM.2 g).symm;rw[aO]at a;have b:=aQ b;have f:¬400<st.2+n:=X
 have d:dl.1=aL:=by rw[h.w,c,a.1,bR f];rfl
 have i:=h.a d;have j:¬400<dl.2+n':=X
 have:=k.w;simp_all
def Up.cg{st dl}{c c'}{n n'}(h:Up st c n dl)(e:c=c')(a:n=n'):Up st c' n' dl:=by subst e a;exact h
def Up.le{st dl}{c}{n}(h:Up st c n dl)(f:st.1=aL->0<=st.2)(e:dl.1=aL):0<=dl.2/\dl.2<=400:=by
 let⟨a,b,d,g⟩:=h.ok e
 grind
section
variable{f g:C}{w0 ws w w' w1 wU:av}{b k:Nat}{l l':L}{st dl:St}{ks ks':J Nat}
def Mw.refl f b w:Mw f b w w:=⟨V8 _ _,λ_ h=>.inl h⟩
theorem Mw.trans(a:Mw f b w w')(k:Mw f b w' wU):Mw f b w wU:=by
 have:=a.o.size;refine⟨a.o.trans k.o λx h=>?_,λx h=>?_⟩
 .rcases h with h|⟨f,h⟩
  .omega
  rcases a.u x h with e|⟨_,e⟩
  .grind
  omega
 rcases k.u x h with e|⟨f,e⟩
 .exact a.u x e
 grind
theorem Mw.up(h:Mw f b w w'):Mw aL b w w':=⟨h.o.mono R,λk hk=>(h.u k hk).elim .inl R⟩
def Mw.only1(h:Mw aE b w w'):ay [b] w w':=h.o.auk A
def Bm(a:w'.heap[b]? =w.heap[b]?){k}(d:Bu w' b k):Bu w b k:=by
 let⟨n,c,h⟩:=d;refine⟨n,c,?_⟩;unfold World.cell? at h⊢;rw[a]at h;exact h
def Qz.lb(h:Qz w0 b w l st):b<w.heap.size:=by
 let⟨q,sl,_,B,_⟩:=h.ex;exact B.lt
def Qz.arg(h:Qz w0 b w l st)(a:Qz w0 b w' l' dl){k}(hk:k<w0.heap.size):w'.heap[k]? =w.heap[k]? :=(a.o.block k hk N).trans (h.o.block k hk N).symm
def Mw.only(a:b<w.heap.size)(h:ay [] w w'):Mw f b w w':=⟨h.p0,λk hk=>.inl<|Bm (h.block b a N) hk⟩
def Tv{q v2 v3}{t}{sl:Sl}(B:aF w b t [q,sl.v,v2,v3]){k}(h:Bu w b k):sl.a=aM ⟨k,0,VM⟩:=by
 let⟨n,c,a⟩:=h;have:=Hl B 1 I 0 sl.v I;have:(Addr.add ⟨b,0,VM⟩ 1).add 0=⟨b,1,VM⟩:=I;simp_all
def NF{q v2 v3}{t}{sl:Sl}(B:aF w b t [q,sl.v,v2,v3]){k}(h:sl.a=aM ⟨k,0,VM⟩):Bu w b k:=by
 have:=Hl B 1 I 0 sl.v I;let e:(Addr.add ⟨b,0,VM⟩ 1).add 0=⟨b,1,VM⟩:=I;rw[e]at this;refine⟨sl.n,sl.c,?_⟩;rw[this,<-h]
def Qz.bu(h:Qz w0 b w l st){k}(hk:Bu w b k):b<k/\k<w.heap.size:=by
 let⟨q,sl,_,B,a⟩:=h.ex;have:=a.lt<|Tv B hk;omega
def Qz.only(h:Qz w0 b w l st)(O:ay [] w w'):Qz w0 b w' l st:=by
 let⟨q,sl,d,B,a⟩:=h.ex;exact⟨h.o.bG O,h.lo,⟨q,sl,d,O.blk B N,a.keep λg _ c=>O.block g c N⟩,h.i,h.big⟩
structure Zq (f:Bool) (w0 ws:av) (b:Nat) (w:av) (l:L) (st:St) (ks:List Nat):Prop extends Qz w0 b w l st where
 m:Mw f b ws w
 k:∀k,k∈ks->k<w.heap.size/\k≠b/\¬Bu w b k
theorem Qz.z f (h:Qz w0 b w l st):Zq f w0 w b w l st []:=⟨h,Mw.refl f b w,R⟩
def Zq.q(t:Zq f w0 ws b w l st ks)(h:ay [] w w'):Zq f w0 ws b w' l st ks:=by
 let a:=t.toQz.lb;exact⟨t.toQz.only h,t.m.trans<|Mw.only a h,λk hk=>let⟨d,e,g⟩:=t.k k hk;⟨cD d h.size,e,λc=>g<|Bm (h.block b a N) c⟩⟩
def Zq.al(t:Zq f w0 ws b w l st ks)(O:ay [] w w')(e:w.heap.size<=k)(c:k<w'.heap.size):Zq f w0 ws b w' l st (k::ks):=by
 let d:=t.toQz.lb;let a:=t.q O;refine⟨a.toQz,a.m,λx h=>?_⟩;rcases ba.1 h with rfl|h
 .exact⟨c,X,λf=>by have:=(t.toQz.bu<|Bm (O.block b d N) f).2;omega⟩
 exact a.k x h
def Zq.nx(t:Zq f w0 ws b w l st ks)(p:Qz w0 b w' l' dl)(m:Mw f b w w'):Zq f w0 ws b w' l' dl ks:=⟨p,t.m.trans m,λk hk=>let⟨a,c,d⟩:=t.k k hk;⟨cD a m.o.size,c,λh=>(m.u k h).elim d X⟩⟩
def Zq.sq(t:Zq f w0 ws b w l st ks)(h:ay [] w w')(hk:∀k∈ks',k∈ks):bX ks' w w':=h.same λx a=>⟨(t.k x<|hk x a).1,N⟩
def Zq.sm(t:Zq f w0 ws b w l st ks)(m:Mw g b w w')(hk:∀k∈ks',k∈ks):bX ks' w w':=m.o.same λx h=>⟨(t.k x<|hk x h).1,λa=>a.elim (t.k x<|hk x h).2.1 λe=>(t.k x<|hk x h).2.2 e.2⟩
def Zq.sj(t:Zq f w0 ws b w l st ks)(z:w.heap.size<=w1.heap.size)(h:aD (λk=>w.heap.size<=k) w1 w')(hk:∀k∈ks',k∈ks):bX ks' w1 w':=h.same λx a=>by
 have:=(t.k x<|hk x a).1;omega
theorem Zq.row(t:Zq aE w0 ws b w l st ks)(r:b<ws.heap.size)(u:∀k,Bu ws b k->k<ws.heap.size)(h:aD (λk=>ws.heap.size<=k) w w'):Zq aE w0 ws b w' l st ks:=by
 let o:=t.lo;let a:=λk hk=>(t.m.u k hk).elim id R;let Y:=h.block b t.toQz.lb X;let⟨q,sl,p,B,f⟩:=t.ex;exact⟨⟨⟨h.os.trans t.o.os,h.tape.trans t.o.tape,h.output.trans t.o.output,bC t.o.size h.size,λk hk _=>(h.block k (cD hk t.o.size) X).trans<|t.o.block k hk N⟩,o,⟨q,sl,p,Y.trans B,f.keep λg m n=>h.block g n λe=>(by have:=u g<|a g<|NF B m;omega)⟩,t.i,t.big⟩,⟨t.m.o.trans h X,λk hk=>.inl<|a k<|Bm Y hk⟩,λk hk=>let⟨d,i,j⟩:=t.k k hk;⟨cD d h.size,i,λc=>j<|Bm Y c⟩⟩
def bH.of{ks}(h:bX ks w w'):bH (λk=>k∈ks) w w':=λk hk _=>h k hk
def MW:=@bH.of
def xU{w2}(h:ay [] w w1)(a:aD (λk=>w.heap.size<=k) w1 w2):ay [] w w2:=(h.ph a).only X
end
def gL w (s:J _) {n} {parts} (p:parts=(((s.map λx=>Value.string<|T x).zipIdx 0).map λx=>(x.2,x.1)).toArray) (k:WS s=n) (j:0<n) (v:n*1<=16777216):
  ∃(q:Sl) (a:av) (g:Nat) (c:aI),(au 75 n parts).run aq w=.ok q.v a/\ay [] w a/\w.heap.size<=g/\g<a.heap.size/\aF a g 9 c/\
   ∀(e:Nat) x,s[e]? =aM x->ci q e 1 ⟨g,e,VM⟩/\∀w,aF w g 9 c->aB w ⟨g,e,VM⟩ [ab (T x)]:=by
 let⟨q,a,l,m,k3⟩:=lj w s p k j v;rcases m with⟨_,e⟩|⟨g,i,tail,d,f,b,o,r,t,u,h⟩
 .simp_all
 refine⟨q,a,g,_,l,k3,f,b.lt,b,λe x n=>⟨⟨_,d,X,?_,?_⟩,λw B=>Blk.X7 B e ?_⟩⟩
 .grind
 .rw[jS,aV,lU,bS]
 have:(s.map λx=>Value.string<|T x)[e]? =aM (ab<|T x):=A
 rw[QM h,de (aZ.1 this).1,this]
section
variable{w0 w:av}{b:Nat}{l:L}{st:St}
def Qz.set(h:Qz w0 b w l st):∃(q:Option Addr) (sl:Sl),aF w b 208 [ae q,sl.v,aj st.1,O U st.2]/\
  ∀c d,ay [b] w c->aF c b 208 [ae q,sl.v,aj d.1,O U d.2]->(d.1=aL->0<=d.2/\d.2<=400)->Qz w0 b c l d/\Mw aE b w c:=by
 let⟨q,sl,m,B,e⟩:=h.ex;exact⟨q,sl,B,λn IU a v i=>⟨⟨⟨a.os.trans h.o.os,a.tape.trans h.o.tape,a.output.trans h.o.output,bC h.o.size a.size,λk hk _=>(a.block k (cD hk h.o.size)<|by have:=h.lo;simp;omega).trans<|h.o.block k hk N⟩,h.lo,⟨q,sl,m,v,e.keep λg f j=>a.block g j<|by have:=(e.lt f).1;simp;omega⟩,i,h.big⟩,⟨a.p λx hx=>.inl<|.inl ND,λk hk=>.inl<|NF B<|Tv v hk⟩⟩⟩
def Qz.up0(h:Qz w0 b w l st):Up st aE 0 st:=by
 refine⟨?_,X⟩;cases e:st.1
 .have:=(h.i e).2;simp_all
 rfl
def Tw{q}{sl:Sl}{wr}{ac}(h:aF w b 208 [ae q,sl.v,aj wr,O U ac]) ok:az aq 137 #[rp b,aj ok] w λe a=>
  e=ak (ai #[])/\ay [b] w a/\aF a b 208 [ae q,sl.v,aj<|wr||!ok,O U ac]:=ret<|arH ok w ⟨wr,Hl h 2 I,b,2,_,_,I,h,N,λd c v=>⟨I,c,v⟩⟩
def mS(h:Qz w0 b w l st) ok:az aq 137 #[rp b,aj ok] w λe a=>e=ak (ai #[])/\∃d,Up st ok 0 d/\Qz w0 b a l d/\Mw aE b w a:=by
 obtain⟨q,sl,B,O⟩:=h.set;refine(Tw B ok).mono ?_;rintro _ c ⟨rfl,U,v⟩;let u:Up st ok 0 (st.1||!ok,st.2):=by
  refine⟨?_,X⟩;cases e:st.1
  .have:=(h.i e).2
   grind
  simp
 exact⟨I,_,u,O c _ U v λe=>u.le (λe=>(h.i e).1) e⟩
def qz(h:Qz w0 b w l st) s (i:WS s<9223372036854775807):az aq 139 #[rp b,ab<|T s] w λe a=>e=ak (ab<|T s)/\∃d,Up st (eu s) 0 d/\Qz w0 b a l d/\Mw aE b w a:=by
 refine ret<|arJ<|(G0 s i).mono ?_;rintro _ j ⟨rfl,U⟩;exact⟨_,I,(mS (h.only U) _).mono λ_ k ⟨rfl,d,c,f,g⟩=>⟨I,I,d,c,f,(Mw.only h.lb U).trans g⟩⟩
def Tx(m:Qz w0 b w l st){F}{x}{cs}(i:rE aL w F x cs)(o:Wf x)(s:Hc x<=1759218604441)(E:Er w0)(n:Tb w0):
  az aq 237 #[rp b,ah cs.toArray] w λe j=>e=ak (ab (T (zM x)))/\∃d,Up st (wN x) 0 d/\Qz w0 b j l d/\Mw aE b w j:=by
 obtain⟨v,rfl⟩:=fK i;refine ret (asy ?_);intro p q H C U;let t:=(m.z aE).al U H C;refine(afY ((jI aL).keep i λk _ J=>U.block k J N) o s (E.only t.o) (n.only t.o)).mono ?_;rintro _ r ⟨rfl,c⟩;let a:=t.q c;refine⟨_,I,t.sq c N,(mS a.toQz _).mono ?_⟩;rintro _ u ⟨rfl,d,h,f,g⟩;rw[show ao #[]=T []from rfl,jC]at h;let e:(!JW (zM x=[]))=wN x:=by unfold wN;rw[decide_not]
 rw[e]at h;exact⟨I,a.sm g N,I,d,h,f,(a.nx f g).m⟩
def RZ(m:Qz w0 b w l st){F}{x}{cs}(f:rE aL w F x cs):
  az aq 238 #[rp b,ah cs.toArray] w λe i=>e=ak (ai #[])/\∃a,Up st (uZ x) 0 a/\Qz w0 b i l a/\Mw aE b w i:=by
 let k:∃s,cs=qS x.k x.n x.s x.op s x.a/\s.n=WS x.dP:=by
  let⟨d,f⟩:=f;cases d with
  |zero=>exact f.elim
  |succ d=>
   let⟨sl,h,c,_⟩:=f;exact⟨sl,h,c.len⟩
 obtain⟨s,rfl,n⟩:=k;refine ret<|asz λo p H C j=>let t:=(m.z aE).al j H C;(mS t.toQz _).mono λ_ q ⟨rfl,a,h,c,g⟩=>?_;rw[show ao #[]=T []from rfl,jC,n]at h;exact⟨I,t.sm g N,I,a,h,c,(t.nx c g).m⟩
def r8(h:Qz w0 b w l st):az aq 142 #[rp b] w λe a=>e=ak (aj<|JW<|16384<WS l)/\a=w:=by
 refine ret<|arL<|let⟨q,sl,d,B,c⟩:=h.ex;(LH (λv a=>v=O U (WS l)/\a=w) w ?_).mono ?_
 .exact⟨sl,Hl B 1 I,by rw[c.len],I⟩
 rintro _ w ⟨v,rfl,rfl,rfl⟩;refine⟨_,I,?_,I⟩;congr 1;simp;omega
end
end Con
