import Derived.Test.YteoblgpbapdhiaaGreatDoorQg3
set_option maxHeartbeats 4000000
set_option maxRecDepth 100000
set_option linter.all false
open Go.Proofs Go.Proofs.Tryz
open Bool renaming true->aE,false->aL
open Option renaming some->aM,none->VM
open List renaming length->WS
open Decidable renaming decide->JW
open Go.Value renaming int->O,string->ab,pointer->ae,agg->ah,tuple->ai,bool->aj
open Go.IntKind renaming i64->U,wrap->ar
open Go.Ending renaming returned->ak
open _root_.ByteArray renaming mk->ao
open _root_.Go.Proofs.Tryz renaming prog->aq
open Go.Instr renaming buildSlice->au
open Go renaming World->av,Value->aw,Calls->az
open Go.Kt renaming Only->ay,SliceF->aA,Cells->aB,OnlyP->aD,Blk->aF
open Go renaming World->av,Value->aw
namespace Con
open Go Go.RowKit Go.Kt Go.Kt.V Vc
section
def LV(a:Ac):Nat:=Hc a.x+(WS a.n+1)
def lP:J Ac->Nat
 |[]=>0
 |a::l=>LV a+lP l
def ve{a}:∀{l:J Ac},a∈l->LV a<=lP l
 |[],h=>YI
 |x::l,h=>by
  rw[lP];rcases ba.1 h with rfl|h
  .omega
  have:=ve h;omega
def iz:∀l,WS l<=lP l
 |[]=>bE _
 |a::l=>by
  have:=iz l;rw[lP,aY,LV];omega
def PB(l:J (L)):Nat:=(l.map λs=>WS s+1).sum
def He(m:Mv):Nat:=(lP m.acts+Hc m.g)+(PB m.tg+(WS m.ev+1))
def KA x:WS (zM x)<=16384:=by
 by_cases h:zM x=[]
 .grind
 let⟨c,b,a⟩:=Ns h;refine bK λd=>?_;let e:zM x=sE _ x aL []:=b;rw[<-e,iG]at a;have:cR (zM x)=([],2, -1):=by rw[cR,E X]
 simp_all
def wg{s}(h:eu s=aE):ne s=aE:=by
 unfold eu at h;simp only[aO]at h;have:=(S h.1.1.1).1;rw[ne];simp_all
def atn{x}(h:wN x=aE):ne (zM x)=aE:=by
 rw[ne,bR<|S h];rfl
def tU{x}(h:ne x=aE) ws:jg (x::ws)=x++Lib.joinTail [32] (ws.filter ne):=by
 rw[jg,List.filter_cons,h,E I,Lib.join_cons]
def iu x r:Lib.joinTail [32] (x::r)=32::(x++Lib.joinTail [32] r):=rfl
def pY:Lib.joinTail [32] []=[]:=rfl
def iv{x}(h:ne x=aE) ws:(x::ws).filter ne=x::ws.filter ne:=A
def alp ws:([]::ws).filter ne=ws.filter ne:=Mi
def VL(a:Ac):J (L):=if a.k=2 then[my,a.n]else[if a.k=1 then uR else ol,a.n,[61],zM a.x]
def O7{a}(h:jE a=aE):jg (VL a)++[59]=Ev a:=by
 rw[jE]at h;simp at h;let⟨⟨d,b⟩,c⟩:=h;unfold VL Ev;by_cases hk:a.k=2
 .rw[E hk,E hk,tU Z,iv<|wg b,fN,iu,pY];simp
 rw[Q hk]at c;let w:ne (if a.k=1 then uR else ol)=aE:=by split<;>decide
 rw[Q hk,Q hk,tU w,iv<|wg b,iv Z,iv<|atn c,fN,iu,iu,iu,pY];simp
def af5 a:WS (jg<|VL a)<=16398+WS a.n:=by
 refine bC (kR _) ?_;have:=KA a.x;rw[VL];split
 .show 5+1+(WS a.n+1+0)<=_;omega
 have:WS (if a.k=1 then uR else ol)<=4:=by split<;>decide
 grind
section
variable{w0 w:av}{b:Nat}{l:L}{st:St}
def ato(j:Qz w0 b w l st){F:h}{a:Ac}{d:aI}(c:wI aL w F a d)(u:∀k,F k->k<w0.heap.size)(J:Il a)(K:LV a<=1759218604441)(D:Er w0)(G:Tb w0):
  az aq 236 #[rp b,ah d.toArray] w λe f=>∃s i,e=ak (ab<|T s)/\WS s<=16400+WS a.n/\(jE a=aE->s=Ev a)/\Up st (jE a) 0 i/\Qz w0 b f l i/\Mw aE b w f:=by
 obtain⟨S,rfl,c⟩:=c;obtain⟨V,rfl⟩:=fK c;unfold LV at K;refine jK<|asx ?_;intro v L H A z;let y:=(j.z aE).al z H A;let⟨q,P,g,d,B,r,o,p,C,M⟩:=gL L [[],uR,my,ol] (n:=4) (parts:=#[.mk 0 (ab<|ao #[]),.mk 1 _,.mk 2 _,.mk 3 _]) I I Z Z;let t:=y.al r o p;have:=af5 a;refine⟨q,P,B,y.sq r N,λm=>?_,λm=>?_⟩
 .refine(mS t.toQz aL).mono ?_;rintro _ w ⟨rfl,i,g,b,e⟩;let hk:jE a=aL:=by
   unfold jE;have:¬(1<=a.k/\a.k<=3):=by
    simp at m;omega
   rw[bR this];rfl
  exact⟨I,t.sm e N,[],i,I,bE _,R,by rw[hk];exact g,b,(t.nx b e).m⟩
 let b:1<=a.k/\a.k<=3:=by
  simp at m;omega
 let w:∀x,[[],uR,my,ol][a.k.toNat]? =aM x->ci q a.k 1 _/\∀f,aF f g 9 d->aB f _ [ab _]:=λx c=>by
  have:=M _ x c;rwa[xf X]at this
 refine⟨λiH=>?_,λiH l e=>?_⟩
 .have hk:a.k=2:=Ox
  let hW:VL a=[my,a.n]:=by unfold VL;rw[E hk]
  refine(RZ t.toQz<|(jI aL).keep c λk hk _=>j.arg t.toQz<|u k hk).mono ?_;rintro _ w3 ⟨rfl,ax,u1,u2,u3⟩;let t3:=t.nx u2 u3;refine⟨I,t.sm u3 N,λw4 dB=>⟨λk=>k∈[v,g],N,let x:=t3.q dB;let⟨y1,y2⟩:=w my Mh;let uw:aF w4 g 9 d:=(t3.sq (ks':=[g]) dB N g N).trans<|(t.sm (ks':=[g]) u3 N g N).trans C;⟨_,y1,N,_,y2 w4 uw,(qz x.toQz a.n X).mono ?_⟩⟩⟩;rintro _ w5 ⟨rfl,am,v1,v2,v3⟩;let q:=x.nx v2 v3;let⟨q6,w6,e6,s,_,hj⟩:=Iq w5 [my,a.n] (n:=2) (parts:=#[.mk 0 (ab<|T my),.mk 1<|ab<|T a.n]) I I Z Z (by rw[<-hW];omega);let z6:=s.size;refine⟨_,I,x.sm v3 N,MW<|x.sm v3 N,q6,w6,e6,q.sq s N,MW<|q.sq s N,hj.mono ?_⟩;rintro _ w7 ⟨rfl,W⟩;let t7:=q.q<|xU s W;have hU:=u1.tr v1;let Y:jE a=(uZ a.x&&eu a.n):=by
   rw[jE,E hk,bO b,cd,Bool.and_comm]
  rw[<-Y]at hU;rw[<-hW];refine⟨_,I,q.sj z6 W N,MW<|q.sj z6 W N,Hn,jg (VL a)++[59],am,SQ,W4,λY=>O7 Y,hU,t7.toQz,t7.m⟩
 let hk:a.k≠2:=Ox
 let hW:VL a=[if a.k=1 then uR else ol,a.n,[61],zM a.x]:=by unfold VL;rw[Q hk]
 let t8:=t.q e;let⟨y1,y2⟩:=w (if a.k=1 then uR else ol) (by
  by_cases g:a.k=1
  .rw[E g,g];rfl
  rw[Q g,show a.k=3 by omega];rfl)
 let xp:aF l g 9 d:=(t.sq (ks':=[g]) e N g N).trans C;refine⟨λk=>k∈[v,g],N,_,y1,N,_,y2 l xp,N,(qz t8.toQz a.n X).mono ?_⟩;rintro _ w9 ⟨rfl,bv,u1,u2,u3⟩;let W:=t8.nx u2 u3;refine⟨_,I,t8.sm u3 N,MW<|t8.sm u3 N,(Tx W.toQz ((jI aL).keep c λk hk _=>j.arg W.toQz<|u k hk) J X D G).mono ?_⟩;rintro _ dh ⟨rfl,aC,v1,v2,v3⟩;let q:=W.nx v2 v3;let⟨aT,dE,aS,Y,_,hj⟩:=Iq dh [if a.k=1 then uR else ol,a.n,[61],zM a.x] (n:=4) (parts:=#[.mk 0 _,.mk 1 _,.mk 2<|ab _,.mk 3<|ab<|T<|zM a.x]) I I Z Z (by rw[<-hW];omega);let Hi:=Y.size;refine⟨_,I,W.sm v3 N,MW<|W.sm v3 N,aT,dE,aS,q.sq Y N,MW<|q.sq Y N,hj.mono ?_⟩;rintro _ ey ⟨rfl,s⟩;let x:=q.q<|xU Y s;have hU:=u1.tr v1;let kq:jE a=(eu a.n&&wN a.x):=by
  rw[jE,Q hk,bO b,cd]
 rw[<-kq]at hU;rw[<-hW];refine⟨_,I,q.sj Hi s N,MW<|q.sj Hi s N,Hn,jg (VL a)++[59],aC,SQ,W4,λkq=>O7 kq,hU,x.toQz,x.m⟩
end
def Up.bad{st dl}{c c'}{n n'}(h:Up st c n dl)(e:dl.1=aE)(f:c'=aE->c=aE)(g:n<=n'):Up st c' n' dl:=by
 refine⟨?_,R⟩;rw[e];refine Eq.symm<|bK λhk=>?_;let⟨b,d,a⟩:=Yz (iM.2 hk).symm;let a:=aQ a;have:=h.w
 grind
def F9:∀l m,lP (l++m)=lP l+lP m
 |[],m=>by rw[cJ];show _=0+_;omega
 |a::l,m=>by rw[bZ,lP,lP,F9 l m];omega
def alq a:ne (Ev a)=aE:=by
 have:Ev a≠[]:=by unfold Ev;split<;>simp
 rw[ne];simp_all
def hJ:∀l,Lib.joinTail [32] ((l.map Ev).filter ne)=Be l
 |[]=>rfl
 |a::l=>by rw[ch,iv<|alq a,iu,hJ l,Be]
def alr x y:Lib.joinTail [32] (x++y)=Lib.joinTail [32] x++Lib.joinTail [32] y:=by
 unfold Lib.joinTail;simp_all
def atp l:jg ([123]::(l.map Ev++[[125]]))=Cj l:=by
 rw[tU Z,eU,alr,hJ];rfl
def O8{w}{B}{s}{ws}(h:Own oK 1 9 B w (λ_=>True) s ws) x (f:B<=w.heap.size) (n:WS ws<=1073741824):
  ∃y a,(au 75 1 #[.mk 0 (ab<|T x)]).run aq w=.ok (Sl.v y) a/\ay [] w a/\∃d b,(Builtin.append_ #[75,75] 75 #[Sl.v s,Sl.v y]).run aq a=.ok (Sl.v d) b/\
   Own oK 1 9 B b (λ_=>True) d (ws++[x])/\∃c,ay c a b/\∀g∈c,s.a=aM ⟨g,0,VM⟩/\B<=g:=by
 let⟨y,a,l,k,d,b,m,q,⟨c,F,j⟩,_⟩:=iO (P:=aq) (t:=75) (ty:=75) (e:=9) (i:=t9) (bytes:=16) (size:=1) (v:=ab _) (x:=x) (G:=λ_=>False) D D I I I I Z Z Z dI h f I I R X
 grind
def _root_.Go.Kt.Own.far{w w'}{B b}{s}{ws}(h:Own oK 1 9 B w (λ_=>True) s ws)(o:ay [b] w w')(p:b<B):Own oK 1 9 B w' (λ_=>True) s ws:=by
 rcases h with⟨rfl,rfl⟩|⟨g,c,tail,a,d,f,i,j,l,n,m⟩
 .exact .inl ⟨I,I⟩
 let e:∀{b:J _} {c:J _},pJ oK 1 w (λk=>True/\k≠g) b c->pJ oK 1 w' (λk=>True/\k≠g) b c:=fun{b}=>by
  induction b with
  |nil=>intro c h;assumption
  |cons x b e=>intro c h;assumption
 exact .inr ⟨g,c,tail,a,d,o.blk f V6,i,j,l,n,e m⟩
def aam{a:Type}{p}{x:J a}{j}(h:x.all p=aE):(x.take j).all p=aE:=by
 grind
def NG ws (x:L):((ws++[x]).map λl=>WS l+1).sum=(ws.map λl=>WS l+1).sum+(WS x+1):=by
 simp
section
variable{w0 w:av}{b:Nat}{l:L}{st:St}
def KB(h:Qz w0 b w l st){F}{s}{xs}(hx:aA (wI aL) 9 w F s xs)(f:∀k,F k->k<w0.heap.size)(o:∀a∈xs,Il a)(p:lP xs<=16777216)(i:Er w0)(m:Tb w0):
  az aq 188 #[rp b,s.v] w λe c=>∃t d,e=ak (ab<|T t)/\WS t<=16405*lP xs/\(d.1=aL->t=if xs=[]then[]else Cj xs)/\Up st (xs.all jE) (WS xs) d/\Qz w0 b c l d/\Mw aE b w c:=by
 refine jK<|asa<|have j:=hx.len;have z:=iz xs;⟨λhc=>?_,λhc=>?_⟩
 .have hc:=by have:=WH;omega
  have:xs=[]:=R
  subst this;exact⟨[],st,I,X,λ_=>(E I).symm,h.up0,h,Mw.refl ..⟩
 have Y:xs≠[]:=A
 let⟨q,sl,H,M⟩:=h.set;refine⟨st.2,Hl H 3 I,b,3,_,_,I,H,N,λw1 P K=>⟨_,Hl K 3 I,(Tw (q:=q) (sl:=sl) (wr:=st.1) (ac:=ar U _) K _).mono ?_⟩⟩;rintro _ r ⟨rfl,T,oC⟩;have t:Up st aE (WS xs) (st.1||!JW (ar U (st.2+s.n)<=400),ar U<|st.2+s.n):=by
  cases e:st.1
  .have:=h.i e;have b:ar U (st.2+s.n)=st.2+WS xs:=by rw[j];exact eI X X
   rw[b];refine⟨?_,X⟩;rw[e];by_cases a:st.2+WS xs<=400
   .rw[bO a,bR X];rfl
   rw[bR a,bO X];rfl
  exact⟨by rw[e];rfl,R⟩
 let⟨B,uq⟩:=M r _ (P.trans T R) oC λe=>t.le (λe=>(h.i e).1) e;generalize (st.1||!JW (ar U _<=400),ar U _)=IU at*
 have v:=B.lb;have u:∀k,Bu r b k->k<r.heap.size:=λk hk=>(B.bu hk).2;let⟨q3,w3,W,V,D,_⟩:=Iq r [[123]] (n:=1) (parts:=#[.mk 0 _]) I I Z Z Z;refine⟨I,q3,w3,W,λC c=>∃w d,Own oK 1 9 r.heap.size c (λ_=>True) C w/\WS w<=16777217/\(w.map λl=>WS l+1).sum<=2+16401*lP xs/\(d.1=aL->w=[123]::xs.map Ev)/\Up IU (xs.all jE) 0 d/\Zq aE w0 r b c l d [],?_,?_⟩
 .rintro C w4 ⟨w,s,a,aS,aT,x,g,l⟩;let⟨y,w5,e5,dV,s6,w6,e6,b,gs,dr,G5⟩:=O8 a [125] l.m.o.size X;refine⟨y,w5,e5,s6,w6,e6,have t6:=(l.q dV).row v u<|dr.p (F:=λk=>r.heap.size<=k) R;have G:=NG w [125];have lI:=kR<|w++[[125]];have am:WS ([125]:L)=1:=I;(F5 b X W4).mono ?_⟩;rintro _ w7 ⟨rfl,q⟩;have n:=t6.row v u q;have aC:1<=lP xs:=by
   have:1<=WS xs:=R
   omega
  refine⟨_,I,jg _,s,I,X,λe=>?_,(t.tr g).cg N N,n.toQz,uq.trans n.m⟩;rw[Q Y,x e];exact atp xs
 refine⟨λnv C ce c=>∃(n:Nat) (w:J (L)) (d:St),ce=n/\n<=WS xs/\nv=(WS xs)-n/\Own oK 1 9 r.heap.size c (λ_=>True) C w/\WS w<=n+1/\(w.map λl=>WS l+1).sum<=2+16401*lP (xs.take n)/\(d.1=aL->w=[123]::(xs.take n).map Ev)/\Up IU ((xs.take n).all jE) 0 d/\Zq aE w0 r b c l d [],
  (WS xs),⟨0,[[123]],IU,I,X,I,D,bc _,bc _,λ_=>I,B.up0,(B.z aE).q V⟩,?_⟩
 rintro nv l4 _ w7 ⟨n,w,s,rfl,hj,rfl,q,cc,bV,bv,Xx,t7⟩;have bY:lP xs=lP (xs.take n)+lP (xs.drop n):=by rw[<-F9,eS]
 refine⟨λhc=>?_,λhc=>?_⟩
 .have bJ:=S hc;let⟨ad,a,cs,g1,g2,g3,g4,g5,g6⟩:=(WJ (dU aL) hx Z λk hk _=>h.arg t7.toQz<|f k hk).get X bJ;rw[aV]at g2;have ha:=be g2;have nj:xs.take (n+1)=xs.take n++[a]:=by
   rw[aX,g2];rfl
  have cC:lP (xs.take<|n+1)=lP (xs.take n)+LV a:=by
   rw[nj,F9];show _+(LV a+0)=_;omega
  obtain⟨xc,rfl,co⟩:=g6;obtain⟨xl,rfl⟩:=fK co;refine⟨ad,g1,_,_,_,_,_,_,_,_,_,g5,λk5 w8 tA Az fD=>have t8:=t7.al fD tA Az;let⟨q8,el,xp,_⟩:=t8.toQz.set;⟨s.1,Hl xp 2 I,λhw=>?_,λhw=>?_⟩⟩
  .have a:Zq aE w0 r b w8 l s []:=⟨t8.toQz,t8.m,R⟩
   exact⟨w,s,q.keep dI λk hk bJ=>fD.block k bJ N,X,X,λe=>absurd (hw.symm.trans e) Z,Xx.bad hw aam<|bc _,a⟩
  refine(ato t8.toQz ((dU aL).keep ⟨_,I,co⟩ λk _ bJ=>fD.block k bJ N) f (o a ha) (by have:=ve ha;omega) i m).mono ?_;rintro _ w9 ⟨ff,iD,rfl,iF,gG,eQ,h9,b⟩;have t9:=t8.nx h9 b;have gO:∀g,l4.a=aM ⟨g,0,VM⟩->r.heap.size<=g/\g<w7.heap.size:=λg l=>by
   rcases q with⟨rfl,_⟩|⟨x,k,y,a,e,g,_⟩
   .cases l
   rw[a]at l;injection l with l;injection l with l;subst l;exact⟨e,g.lt⟩
  have gT:=by
   have a:=q.keep dI (w':=w8) λk hk bJ=>fD.block k bJ N;refine(a.mono (G:=λ_=>True) dI λ_ _=>trivial).far b.only1 v
  let⟨y,dh,g9,dy,I9,dE,ip,g8,gs,dJ,G5⟩:=O8 gT ff (bC t7.m.o.size<|bC fD.size b.o.size) X;have fd:=t9.q dy;have gE:=fd.row v u<|dJ.p (F:=λk=>r.heap.size<=k) R;have I9:bX [k5] dh dE:=dJ.same λx hx=>by
   have:=(fd.k x ND).1;refine⟨this,λa=>?_⟩;have:=(gO x (G5 x a).1).2;simp at hx;omega
  refine⟨_,I,t8.sm b N,y,dh,g9,t9.sq dy N,_,dE,ip,I9,(WS xs)-_,X,n+1,w++[ff],iD,N0,X,I,g8,W4,?_,λe=>?_,(Xx.tr eQ).cg ?_ I,⟨gE.toQz,gE.m,R⟩⟩
  .rw[NG w ff,cC];have:16400+WS a.n+1<=16401*LV a:=by unfold LV;omega
   omega
  .have⟨a,g,_⟩:=eQ.ok e;rw[bv a,gG g,nj,cK];rfl
  rw[nj,iq];simp
 have k:=aQ hc;have a:n=WS xs:=X
 subst a;rw[bm X]at bV bv Xx;exact R
end
def aBp{w}{F}{s}{a}(h:aA oK 1 w F s a) sep (l:WS (Lib.join a sep)<=140737488355328) (n:WS a<=140737488355328):
  az aq 232 #[s.v,ab<|T sep] w λe c=>e=ak (ab<|T<|Lib.join a sep)/\ay [] w c:=by
 have f:=h.len;have r:=h.cap;obtain⟨b,sn,sc⟩:=s;subst f;cases a with
 |nil=>
  refine(Tryz.strings_Join_none b sc _ w).mono ?_;rintro _ d ⟨rfl,rfl⟩;exact⟨I,qE _ _⟩
 |cons x a=>
  obtain⟨s,q,g,t,u,i,j⟩:=h.at_ 0 x I;subst j g;have d:=i 0 _ I;have P:s.spot=VM:=by
   unfold World.cell? at d;split at d
   .split at d
    .cases d
    rename_i w;have e:((s.add<|0*1).add 0).spot=s.spot:=I;simp_all
   cases d
  obtain⟨k,o,sp⟩:=s;subst P;have J:k<w.heap.size:=by
   have e:((Addr.add ⟨k,o,VM⟩<|0*1).add 0)=⟨k,o,VM⟩:=I;rw[e]at d;refine bK λn=>?_;unfold World.cell? at d;simp_all
  have:=Tryz.strings_Join k o sc _ (T sep) w (λm y p=>by
   rw[cP,gp]at p;obtain⟨z,w,rfl⟩:=p;obtain⟨s,q,g,t,u,i,j⟩:=h.at_ m z w;subst j;cases g;have:=i 0 _ I;have e:((Addr.add ⟨k,o,VM⟩<|m*1).add 0)=⟨k,o+m,VM⟩:=by simp[Addr.add]
   rw[e]at this;exact this) J R R (by
   rw[gV];have:((λx:M=>x.data.toList)∘T)=id:=I;simp_all)
  rw[bP]at this;refine this.mono ?_;rintro _ v ⟨rfl,B⟩;refine⟨?_,Only.below B⟩;rw[gV];have:((λx:M=>x.data.toList)∘T)=id:=I;rw[this,List.map_id]
def TA:∀l,Lib.joinTail [44,32] l=Ik l
 |[]=>rfl
 |s::l=>by
  unfold Lib.joinTail;show[44,32]++s++Lib.joinTail [44,32] l=_;rw[TA l];rfl
def pb s l:WS (Lib.join (s::l) [44,32])<=2*PB (s::l):=by
 let h:∀l,WS (Ik l)<=2*PB l:=λl=>by
  induction l with
  |nil=>exact bE _
  |cons s l i=>
   unfold PB at i⊢;rw[ch,fm,Ik,aY,aY,aU];omega
 rw[Lib.join_cons,TA,aU];have:=h l;have:PB (s::l)=(WS s+1)+PB l:=Mi
 omega
def wh l:WS l<=PB l:=by
 unfold PB
 induction l with
 |nil=>exact bE _
 |cons s l i=>grind
def KC{s}{l}(h:s∈l):WS s+1<=PB l:=by
 unfold PB
 induction l with
 |nil=>simp at h
 |cons x l i=>
  grind
def Wn(m:Mv):L:=if m.k=1 then jg [Et,m.ev]else if m.k=3 then jg [jy,Lib.itoa m.wt]else iQ
def OB(m:Mv):L:=if m.gd then 91::(zM m.g++[93])else[]
def XV(m:Mv):L:=match m.tg with
 |[]=>[]
 |s::l=>45::62::32::(s++Ik l)
def T7{n}(h:ri n):WS (Lib.itoa n)<=21:=Lib.itoa_length_le n h.1 h.2
def af6 n:ne (Lib.itoa n)=aE:=by
 have:Lib.itoa n≠[]:=by
  unfold Lib.itoa;split
  .simp
  rw[Lib.decDigits];split<;>simp
 unfold ne;simp_all
def aan{m:Mv}(h:nq m=aE):jg [Wn m,OB m,(if m.acts=[]then[]else Cj m.acts),XV m]++[59]=Hd m:=by
 unfold nq at h;simp at h;let⟨⟨⟨⟨⟨c,a⟩,d⟩,f⟩,g⟩,i⟩:=h;let b:Wn m=VN m/\ne (Wn m)=aE:=by
  unfold Wn VN;by_cases k:m.k=1
  .rw[E k]at a;rw[E k,E k,tU Z,iv<|wg a,fN,iu,pY,bq];exact⟨I,I⟩
  rw[Q k,Q k];by_cases k3:m.k=3
  .rw[E k3,E k3,tU Z,iv<|af6 _,fN,iu,pY,bq];exact⟨I,I⟩
  rw[Q k3,Q k3];exact⟨I,Z⟩
 rw[tU b.2,b.1,bp];congr 1;let e:Lib.joinTail [32] ([OB m,(if m.acts=[]then[]else Cj m.acts),XV m].filter ne)=XS m++((if m.acts=[]then[]else 32::Cj m.acts)++(match m.tg with
  |[]=>[]
  |s::l=>32::45::62::32::(s++Ik l))):=by
  let k:∀w:J (L),Lib.joinTail [32] ((OB m::w).filter ne)=XS m++Lib.joinTail [32] (w.filter ne):=λw=>by
   unfold OB XS;cases m.gd
   .rfl
   rfl
  let j:∀w:J (L),Lib.joinTail [32] (((if m.acts=[]then[]else Cj m.acts)::w).filter ne)=(if m.acts=[]then[]else 32::Cj m.acts)++Lib.joinTail [32] (w.filter ne):=λw=>by
   by_cases l:m.acts=[]
   .rw[E l,E l,alp];rfl
   rw[Q l,Q l,iv Mi,iu];rfl
  rw[k,j];congr 2;unfold XV;cases m.tg with
  |nil=>rfl
  |cons s l=>
   rw[iv Mi,iu,fN,pY,bq]
 rw[e];simp[bp]
 all_goals rfl
def mvB(m:Mv):((((if m.k=1 then eu m.ev else if m.k=3 then JW (0<=m.wt)else JW (m.k=2))&&((JW (m.ev=[])||(m.k==1))&&((m.wt==0)||(m.k==3))))&&(if m.gd then wN m.g else uZ m.g))&&(m.tg.all eu&&m.acts.all jE))=nq m:=by
 unfold nq
 grind
section
variable{w0 w:av}{b:Nat}{l:L}{st:St}
def alt(f:Qz w0 b w l st){r:h}{m:Mv}{u:aI}(V:Nq aL w r m u)(F:∀k,r k->k<w0.heap.size)(g:Ys m)(M:He m<=16777216)(G:Er w0)(z:Tb w0):
  az aq 189 #[rp b,ah u.toArray] w λe a=>∃t d,e=ak (ab<|T t)/\WS t<=16450*He m/\(d.1=aL->t=Hd m)/\Up st (nq m) (WS m.acts) d/\Qz w0 b a l d/\Mw aE b w a:=by
 obtain⟨gc,Y,p,rfl,B,q,j⟩:=V;obtain⟨L,rfl⟩:=fK B;let q:=q.1;let j:=j.1;have C:=M;unfold He at C;refine(asb ⟨b,0,VM⟩ m.k (T m.ev) m.wt m.gd m.g.k m.g.n (T m.g.s) m.g.op L m.g.a Y p m.a (λv a=>∃t d,v=ab (T t)/\WS t<=16450*He m/\(d.1=aL->t=Hd m)/\Up st (nq m) (WS m.acts) d/\Qz w0 b a l d/\Mw aE b w a) w ?_).mono (by
  rintro e a ⟨v,rfl,s,d,rfl,f⟩;exact R)
 intro i w1 K J H;let c:=(f.z aE).al H K J;have:=j.len;have:=wh m.tg;refine⟨λW a=>∃hd d,W=T hd/\WS hd<=30+WS m.ev/\(d.1=aL->hd=Wn m)/\Up st (if m.k=1 then eu m.ev else if m.k=3 then JW (0<=m.wt)else JW (m.k=2)) 0 d/\Zq aE w0 w b a l d [i],?_,λhc=>?_,λhc=>⟨λD=>?_,λD=>?_⟩⟩
 .rintro _ w2 ⟨hd,B7,rfl,ff,aS,am,t2⟩;refine(mS t2.toQz _).mono ?_;rintro _ w3 ⟨rfl,ax,u1,u2,u3⟩;let t:=t2.nx u2 u3;have aC:=am.tr u1;rw[show ao #[]=T []from rfl,jC]at aC;refine⟨I,t2.sm u3 N,λs1 a=>∃gt d,s1=T gt/\WS gt<=16386/\(d.1=aL->gt=OB m)/\Up ax (if m.gd then wN m.g else uZ m.g) 0 d/\Zq aE w0 w b a l d [i],?_,λv=>?_,λv=>?_⟩
  .rintro _ w4 ⟨gt,gz,rfl,co,cc,bY,t4⟩;refine⟨λnv cC a=>∃(aT:Nat) (d:St),cC=aT/\aT<=WS m.tg/\nv=(WS m.tg)-aT/\Up gz ((m.tg.take aT).all eu) 0 d/\Zq aE w0 w b a l d [i],WS m.tg,⟨0,gz,I,bE _,I,t4.toQz.up0,t4⟩,?_⟩;rintro nv _ w5 ⟨aT,ce,rfl,hj,rfl,bv,t5⟩;let bV:aA oK 1 w5 r p m.tg:=WJ dI j Z λk hk _=>f.arg t5.toQz<|F k hk;refine⟨λhc=>?_,λhc=>?_⟩
   .have l:(aT:Int)<p.n:=S hc;let⟨ad,x,u,n,b,g3,g4,w,e⟩:=bV.get X l;rw[aV]at b;unfold oK at e;subst e;have y:=KC<|be b;refine⟨ad,n,_,w,(qz t5.toQz x X).mono ?_⟩;rintro _ w6 ⟨rfl,s,T,v2,k⟩;refine⟨_,I,t5.sm k N,(WS m.tg)-(aT+1),X,aT+1,s,N0,X,I,(bv.tr T).cg ?_ I,t5.nx v2 k⟩;rw[aX,b,iq];simp
   have:¬(aT:Int)<p.n:=aQ hc;have x:aT=WS m.tg:=X
   subst x;rw[bm (bc _)]at bv;refine⟨λs4 a=>s4=T (XV m)/\Zq aE w0 w b a l ce [i],?_,λhc=>?_,λhc=>?_⟩
   .rintro _ w7 ⟨rfl,t7⟩;refine(KB t7.toQz (WJ (dU aL) q Z λk hk _=>f.arg t7.toQz<|F k hk) F g.a X G z).mono ?_;rintro _ w8 ⟨w,el,rfl,fd,dO,b,v2,v3⟩;let t8:=t7.nx v2 v3;have:WS (XV m)<=3+2*PB m.tg:=by
     unfold XV;cases hm:m.tg with
     |nil=>exact bE _
     |cons s l=>
      have:=pb s l;rw[Lib.join_cons,TA]at this;rw[aY,aY,aY];omega
    have lI:=kR [hd,gt,w,XV m];simp only[ch,lV,fm,tH]at lI;have:He m=(lP m.acts+Hc m.g)+(PB m.tg+(WS m.ev+1)):=I;let⟨q9,w9,e9,s,_,gE⟩:=Iq w8 [hd,gt,w,XV m] (n:=4) (parts:=#[.mk 0 (ab<|T hd),.mk 1<|ab<|T gt,.mk 2<|ab<|T w,.mk 3<|ab<|T<|XV m]) I I Z Z X;let z9:=s.size;refine⟨_,I,t7.sm v3 N,q9,w9,e9,t8.sq s N,gE.mono ?_⟩;rintro _ dh ⟨rfl,k⟩;let l:=t8.q<|xU s k;let hU:=(aC.tr bY).tr<|bv.tr b;refine⟨_,I,t8.sj z9 k N,Hn,jg [hd,gt,w,XV m]++[59],el,SQ,W4,λe=>?_,hU.cg ?_ X,l.toQz,l.m⟩
    .obtain⟨x5,k8,_⟩:=b.ok e;let⟨T,g8,_⟩:=bv.ok x5;let⟨x3,gT,_⟩:=bY.ok T;let⟨n,gO,_⟩:=u1.ok x3;let⟨x1,gG,_⟩:=am.ok n;rw[aS n,cc T,dO e];exact aan<|let⟨_,y,_⟩:=hU.ok e;(mvB m).symm.trans y
    exact mvB m
   .have e:m.tg≠[]:=R
    let n:WS (Lib.join m.tg [44,32])<=2*PB m.tg:=by
     cases b:m.tg with
     |nil=>exact absurd b e
     |cons s l=>exact pb s l
    refine(aBp bV [44,32] X X).mono ?_;rintro _ w ⟨rfl,k⟩;refine⟨_,I,t5.sq k N,Hn,?_,t5.q k⟩;rw[show ao #[45,62,32]=T [45,62,32]from rfl,gA];congr 1;unfold XV;cases b:m.tg with
    |nil=>exact absurd b e
    |cons s l=>
     rw[Lib.join_cons,TA];rfl
   have b:m.tg=[]:=A
   refine⟨?_,t5⟩;unfold XV;rw[b]
  .refine(Tx t.toQz ((jI aL).keep B λk hk _=>f.arg t.toQz<|F k hk) g.g X G z).mono ?_;rintro _ w ⟨rfl,e,n,s,b⟩;let l:=t.nx s b;have:=KA m.g;refine⟨_,I,t.sm b N,Hn,?_,91::(zM m.g++[93]),e,?_,o,λ_=>by unfold OB;rw[E v],by rw[E v];exact n,l⟩
   .rw[show ao #[91]=T [91]from rfl,gA,cE,aU,bI];omega
   rw[show ao #[91]=T [91]from rfl,show ao #[93]=T [93]from rfl,gA,gA];rfl
  refine(RZ t.toQz<|(jI aL).keep B λk hk _=>f.arg t.toQz<|F k hk).mono ?_;rintro _ w ⟨rfl,e,l,n,b⟩;exact⟨I,t.sm b N,[],e,I,bE _,λ_=>by unfold OB;rw[Q (by rw[v];decide)],by rw[Q (by rw[v];decide)];exact l,t.nx n b⟩
 .have hk:m.k=1:=WH
  refine(qz c.toQz m.ev X).mono ?_;rintro _ y ⟨rfl,B7,w,x,v⟩;let t:=c.nx x v;have s:=kR [Et,m.ev];simp only[ch,lV,fm,tH]at s;let hw:WS Et=2:=I;let⟨q3,w3,l,e,_,k⟩:=Iq y [Et,m.ev] (n:=2) (parts:=#[.mk 0 (ab<|T Et),.mk 1<|ab<|T m.ev]) I I Z Z X;let z3:=e.size;refine⟨_,I,c.sm v N,q3,w3,l,t.sq e N,k.mono ?_⟩;rintro _ w4 ⟨rfl,b⟩;exact⟨_,I,t.sj z3 b N,_,B7,I,X,λ_=>by unfold Wn;rw[E hk],by rw[E hk];exact w,t.q<|xU e b⟩
 .have v:m.k≠1:=WH
  let hk:m.k=3:=by simpa using D
  refine(mS c.toQz _).mono ?_;rintro _ w2 ⟨rfl,B7,v1,v2,w⟩;let t:=c.nx v2 w;refine⟨I,c.sm w N,(Eo m.wt g.w<|z.only t.o).mono ?_⟩;rintro _ w3 ⟨rfl,s⟩;let l:=t.q s;have y:=kR [jy,Lib.itoa m.wt];simp only[ch,lV,fm,tH]at y;have:WS jy=5:=I;have:=T7 g.w;let⟨q4,w4,x,e,_,k⟩:=Iq w3 [jy,Lib.itoa m.wt] (n:=2) (parts:=#[.mk 0 (ab<|T jy),.mk 1<|ab<|T<|Lib.itoa m.wt]) I I Z Z X;let z4:=e.size;refine⟨_,I,t.sq s N,q4,w4,x,l.sq e N,k.mono ?_⟩;rintro _ w5 ⟨rfl,b⟩;exact⟨_,I,l.sj z4 b N,_,B7,I,X,λ_=>by unfold Wn;rw[Q v,E hk],by rw[Q v,E hk];exact v1,l.q<|xU e b⟩
 let k:m.k≠1:=WH
 have b:m.k≠3:=by simpa using D
 refine(mS c.toQz _).mono ?_;rintro _ w ⟨rfl,B7,e,l,v⟩;refine⟨I,c.sm v N,iQ,B7,I,by show 6<=_;omega,λ_=>by unfold Wn;rw[Q k,Q b],by rw[Q k,Q b];exact e,c.nx l v⟩
end
def aao{w}{b}{q}{v1 v2 v3}(c:q=VM∨q=aM ⟨b,0,VM⟩)(h:aF w b 208 [ae q,v1,v2,v3]):
  az aq 229 #[ae (aM ⟨b,0,VM⟩)] w λe a=>e=ak (ai #[])/\ay [b] w a/\aF a b 208 [ae (aM ⟨b,0,VM⟩),v1,v2,v3]:=by
 refine ret (LJ ?_);let x:w.shape? b=aM (208,4):=by
  rw[World.shape?,h];rfl
 refine⟨q,Hl h 0 I,λn=>?_,λn=>⟨q,Hl h 0 I,?_⟩⟩
 .have r:=Lib.run_from_unsafe (P:=aq) (src:=304) (dst:=203) w ⟨b,0,VM⟩ (u:=206) (j:=t206) D D D x D;exact⟨_,w,Lib.run_to_unsafe (P:=aq) (src:=203) (dst:=304) w ⟨b,0,VM⟩ (t:=206) (j:=t206) D D D Z x (by decide:0<4),⟨ae _,I⟩,w,Ma _ w,aM _,w,r,b,0,_,_,I,h,N,λd O B=>⟨I,O,B⟩⟩
 rcases c with rfl|rfl
 .cases n
 exact⟨aL,w,Lib.run_neq_ptr_same w _ (te:=206) (j:=t206) D D,R,λ_=>⟨I,qE _ _,h⟩⟩
section
variable{w0 w:av}{b:Nat}{l:L}{st:St}
def af7(h:Qz w0 b w l st) m (y:WS l+WS m<=274877906944):az aq 182 #[ae (aM ⟨b,0,VM⟩),ab<|T m] w λe p=>
  e=ak (ai #[O U (WS m),.nilIface])/\Qz w0 b p (l++m) st/\Mw aL b w p:=by
 refine ret<|LC<|let⟨q,sl,r,B,a⟩:=h.ex;(aao r B).mono λ_ z ⟨rfl,d,Y⟩=>?_;have:=d.size;have:=B.lt;let B4:=a.keep λg c f=>d.block g f (by have:=(a.lt c).1;simp;omega);let⟨s,v,t,u,k3,n⟩:=Ep B4 m X X;have:∀g,s.a=aM ⟨g,0,VM⟩->b<g:=λg c=>by
  rcases n with e|e
  .rw[e]at c;exact(B4.lt c).1
  grind
 refine⟨I,sl,Hl Y 1 I,s,v,t,b,1,_,_,I,k3.blk Y λe=>H7,N,λC j o=>let i:=((d.p (F:=λk=>k=b∨(aL=aL/\Bu w b k)) A).trans k3 λk hk=>.inl<|.inr ⟨I,NF B hk⟩).trans (j.p (F:=λk=>k=b) A) X;⟨I,⟨?_,h.lo,⟨_,_,.inr I,o,u.keep λg c f=>j.block g f R⟩,h.i,A⟩,i,λk hk=>?_⟩⟩
 .refine⟨i.os.trans h.o.os,i.tape.trans h.o.tape,i.output.trans h.o.output,bC h.o.size i.size,λk hk _=>(i.block k (cD hk h.o.size) ?_).trans<|h.o.block k hk N⟩;rintro(e|⟨_,e⟩)
  .have:=h.lo;omega
  have:=(h.bu e).1;have:=h.lo;omega
 have e:=Tv o hk;rcases n with b|b
 .exact .inl (NF B<|b▸e)
 simp_all
def Zq.sl{f g}{ws w1 w'}{ks ks'}(t:Zq f w0 ws b w l st ks)(O:ay [] w w1)(m:Mw g b w w')(hk:∀k∈ks',k∈ks):bX ks' w1 w':=λx h=>
 (t.sm m hk x h).trans (t.sq O hk x h).symm
theorem qb:∀d,Lib.repeatL [32,32] d=xQ d
 |0=>rfl
 |d+1=>by rw[Lib.repeatL,qb d];rfl
theorem TD:∀d,WS (xQ d)=2*d
 |0=>rfl
 |d+1=>by rw[xQ,aY,aY,TD d];omega
def DC(c:Qz w0 b w l st) ws {n} {parts} (p:parts=(((ws.map λx=>Value.string<|T x).zipIdx 0).map λx=>(x.2,x.1)).toArray) (o:WS ws=n) (m:0<n) (A:n*1<=16777216) (d:Nat) (hd:d<=12) (s:WS (jg ws)<=274877889536):
  ∃(q:Sl) (a:av),(au 75 n parts).run aq w=.ok q.v a/\ay [] w a/\az aq 138 #[rp b,O U d,q.v] a λe f=>e=ak (ai #[])/\Qz w0 b f (if st.1 then l else mA l (d,jg ws)) st/\Mw aL b w f:=by
 let⟨q,a,j,D,g⟩:=lj w ws p o m A;refine⟨q,a,j,g,let t:=(c.z aE).q g;let u:∀k,Bu w b k->k<w.heap.size:=λk hk=>(c.bu hk).2;ret<|arI ?_⟩;refine(r8 t.toQz).mono ?_;rintro _ y ⟨rfl,rfl⟩;let⟨v,sl,B,_⟩:=t.toQz.set;refine⟨_,I,st.1,λ_=>Hl B 2 I,λh r i=>?_,λh=>?_⟩
 .simp only[aO,dS,dk]at h;let⟨z,H⟩:=h;let l:=t.q i;refine(Tryz.strings_Repeat (T [32,32]) d r X<|by show 2*d<=_;omega).mono ?_;rintro _ q ⟨rfl,w⟩;let b:=Only.below w;let n:=l.q b;have:=TD d;refine⟨T<|xQ d,by rw[show(T [32,32]).data.toList=[32,32]from rfl,qb],(F5 (D.keep dI (w':=q) λk hk J=>(i.bG b).block k J N) X X).mono ?_⟩;rintro _ C ⟨rfl,P⟩;have e:=n.row c.lb u P;refine⟨_,I,by rw[cE,cE];omega,by rw[gA,cE,aU];omega,?_⟩;rw[show ao #[10]=T [10]from rfl,gA,gA,show Addr.add _ 0=_ from rfl];refine(af7 e.toQz _ ?_).mono ?_
  .simp;omega
  rintro _ E ⟨rfl,k,d⟩;refine⟨_,⟨.nilIface,I⟩,I,I,?_,e.m.up.trans d⟩;rw[H,Q Z];unfold mA Wb
  grind
 refine⟨I,?_,t.m.up⟩;have:(if st.1 then l else mA l (d,jg ws))=l:=by
  cases e:st.1
  .rw[e]at h;rw[Q Z,mA];simp_all
  rfl
 rw[this];exact t.toQz
def Ga(h:Qz w0 b w l st)(d:Nat)(hd:d<=12) word text (f:WS word<=100) (c:WS text<=274877880000):
  az aq 187 #[rp b,O U d,ab<|T word,ab<|T text] w λe a=>e=ak (ai #[])/\Qz w0 b a (if st.1||JW (text=[])then l else mA l (d,jg [word,text])) st/\Mw aL b w a:=by
 refine ret<|ar9 ⟨λhc=>?_,λhc=>?_⟩
 .have hc:=WH
  have l:=kR [word,text];simp at l;let⟨q,w,e,b,j⟩:=DC h [word,text] (n:=2) (parts:=#[.mk 0 _,.mk 1 _]) I I Z Z d hd X;refine⟨q,w,e,j.mono ?_⟩;simp_all
 refine⟨I,?_,Mw.refl ..⟩;simp_all
end
def Ai:J Mv->Nat
 |[]=>0
 |m::l=>He m+Ai l
def yK(b:Nb):Nat:=((WS b.nm+WS b.ini)+(WS b.dft+1))+((lP b.en+lP b.lv)+Ai b.mv)
mutual
def ml:Nd->Nat
 |.mk b l=>yK b+jF l
def jF:J Nd->Nat
 |[]=>0
 |x::l=>ml x+jF l
end
def oP{m}:∀{l:J Mv},m∈l->He m<=Ai l
 |[],h=>YI
 |x::l,h=>by
  rw[Ai];rcases ba.1 h with rfl|h
  .omega
  have:=oP h;omega
def nE:∀l,WS l<=Ai l
 |[]=>bE _
 |m::l=>by
  have:=nE l;rw[Ai,aY,He];omega
def qJ{x}:∀{l:J Nd},x∈l->ml x<=jF l
 |[],h=>YI
 |y::l,h=>by
  rw[jF];rcases ba.1 h with rfl|h
  .omega
  have:=qJ h;omega
def af8 x:1<=ml x:=by
 let⟨b,l⟩:=x;rw[ml,yK];omega
def qK:∀l,WS l<=jF l
 |[]=>bE _
 |x::l=>by
  have:=qK l;have:=af8 x;rw[jF,aY];omega
def Bn{x}:∀{l:J Nd},CB l->x∈l->Ew x
 |[],_,h=>YI
 |y::l,n,h=>by
  rcases ba.1 h with rfl|h
  .exact n.1
  exact Bn n.2 h
def Aj d x:∀l,iR d (l++[x])=(iR d l&&jZ d x)
 |[]=>by simp[iR]
 |y::l=>by rw[bZ,iR,iR,Aj d x l,zH]
def CD x:∀l,oy (l++[x])=oy l+Bd x
 |[]=>by simp[oy]
 |y::l=>by rw[bZ,oy,oy,CD x l];omega
def CE d x:∀l,sL d (l++[x])=sL d l++LS d x
 |[]=>by simp[sL]
 |y::l=>by rw[bZ,sL,sL,CE d x l,bp]
def KD(x:Nb)(k:J Nd)(d:Nat):C:=(JW (x.ini=[])||eu x.ini)&&(x.en.all jE&&(x.lv.all jE&&(x.mv.all nq&&iR d k)))
def pZ l p:eP l [p]=mA l p:=rfl
def hK l:Cj l≠[]:=by unfold Cj;simp
def Bo{dl}{l l1 l2}{L M}{IU}{c}{n}(U:Up IU c n dl)(h:IU.1=aL->l1=eP l L)(a:dl.1=aL->l2=eP l1 M):dl.1=aL->l2=eP l (L++M):=λe=>by
 rw[a e,h (U.ok e).1,gU]
def hZ(D:Nat):=∀w a b f st F x c (d:Nat),Qz w b a f st->pq aL D a F x c->(∀k,F k->k<w.heap.size)->Ew x->ml x<=8388608->d<=12->Er w->Tb w->
 az aq 190 #[rp b,ah c.toArray,O U d] a λe h=>e=ak (ai #[])/\∃l g,Up st (jZ d x) (Bd x) l/\(l.1=aL->g=eP f (LS d x))/\Qz w b h g l/\Mw aL b a h
section
variable{w0 w:av}{b:Nat}{l:L}{st:St}
def ie{D:Nat}(u:hZ D)(g:Qz w0 b w l st){F}{x}{en lv mv kids}{ks}(v:Km aL w F x en lv mv)(hk:lq aL (pq aL D) 9 27 w F kids ks)(h:∀k,F k->k<w0.heap.size)(m:nbN x)(Y:CB ks)(z:yK x+jF ks<=8388608)(d:Nat)(hd:d<=12)(i:Er w0)(T:Tb w0):
  az aq 141 #[rp b,ah (uY x.k x.nm x.ini x.dft en lv mv kids x.a).toArray,O U d] w λe f=>e=ak (ai #[])/\∃a c,Up st (KD x ks d) (DW x+oy ks) a/\(a.1=aL->c=eP l (Nt d x++sL d ks))/\Qz w0 b f c a/\Mw aL b w f:=by
 rw[yK]at z;have B:=nE x.mv;have K:=qK ks;let⟨j,C,p⟩:=v;have p:=p.1;have hk:=hk.1;refine ret<|arK ?_;intro o G H s r;have t:=(g.z aL).al r H s;refine⟨λf=>∃IU q,Up st (JW (x.ini=[])||eu x.ini) 0 IU/\(IU.1=aL->q=eP l (zo d x))/\Zq aL w0 w b f q IU [o],?_,λhc=>?_,λhc=>?_⟩
 .rintro w2 ⟨B7,P,W,Aw,R⟩;refine(KB R.toQz (WJ (dU aL) j.1 Z λk hk _=>g.arg R.toQz<|h k hk) h m.en X i T).mono ?_;rintro _ w3 ⟨l,ax,rfl,aS,aC,M,q3,m3⟩;have t3:=R.nx q3 m3.up;refine⟨_,I,R.sm m3 N,(Ga t3.toQz d hd jz l Z X).mono ?_⟩;rintro _ w4 ⟨rfl,q4,m4⟩;have V:=t3.nx q4 m4;have am:ax.1=aL->(if ax.1||JW (l=[])then P else mA P (d,jg [jz,l]))=eP P (Tc d x):=λe=>by
   rw[e,aC e,Tc];by_cases J:x.en=[]
   .rw[E J,E J];rfl
   rw[Q J,Q J,bR<|hK _,Q Z,pZ,tU Z,iv Mi,fN,iu,pY,bq]
  generalize (if ax.1||JW (l=[])then P else mA P (d,jg [jz,l]))=l4 at*
  refine⟨I,t3.sm m4 N,(KB V.toQz (WJ (dU aL) C.1 Z λk hk _=>g.arg V.toQz<|h k hk) h m.lv X i T).mono ?_⟩;rintro _ w5 ⟨bY,bv,rfl,fd,el,cc,q5,m5⟩;have t5:=V.nx q5 m5.up;refine⟨_,I,V.sm m5 N,(Ga t5.toQz d hd jL bY Z X).mono ?_⟩;rintro _ w6 ⟨rfl,q6,m6⟩;have t6:=t5.nx q6 m6;have cC:bv.1=aL->(if bv.1||JW (bY=[])then l4 else mA l4 (d,jg [jL,bY]))=eP l4 (Wg d x):=λe=>by
   rw[e,el e,Wg];by_cases J:x.lv=[]
   .rw[E J,E J];rfl
   rw[Q J,Q J,bR<|hK _,Q Z,pZ,tU Z,iv Mi,fN,iu,pY,bq]
  generalize (if bv.1||JW (bY=[])then l4 else mA l4 _)=l6 at*
  have R0:=Bo cc (Bo M Aw am) cC;refine⟨I,t5.sm m6 N,λnv dO f=>∃(aT:Nat) (a:St) (c:L),dO=aT/\aT<=WS x.mv/\nv=(WS x.mv)-aT/\Up bv ((x.mv.take aT).all nq) ((x.mv.take aT).map λbV=>WS bV.acts).sum a/\(a.1=aL->c=eP l6 ((x.mv.take aT).map λbV=>(d,Hd bV)))/\Zq aL w0 w b f c a [o],
   (WS x.mv),⟨0,bv,l6,I,bE _,I,t6.toQz.up0,λ_=>I,t6⟩,?_⟩
  rintro nv _ w7 ⟨aT,ce,l7,rfl,hj,rfl,Xx,PT,t7⟩;have eQ:=p.len;have co:aA (Nq aL) 13 w7 F mv x.mv:=WJ (nX aL) p Z λk hk _=>g.arg t7.toQz<|h k hk;refine⟨λhc=>?_,λhc=>?_⟩
  .have bJ:(aT:Int)<mv.n:=S hc;let⟨ad,bV,cs,g1,g2,g3,g4,g5,g6⟩:=co.get X bJ;rw[aV]at g2;have y:=be g2;have iD:=oP y;have nj:x.mv.take (aT+1)=x.mv.take aT++[bV]:=by
    rw[aX,g2];rfl
   have G4:=g6;obtain⟨gc,uv,tg,rfl,r1,r2,r3⟩:=G4;obtain⟨gl,rfl⟩:=fK r1;refine⟨ad,g1,_,_,_,_,_,_,_,_,_,_,_,_,_,g5,λk3 w8 AH wz fD=>have t8:=t7.al fD AH wz;(alt t8.toQz ((nX aL).keep g6 λk _ bJ=>fD.block k bJ N) h (m.mv bV y) X i T).mono ?_⟩;rintro _ w9 ⟨gE,g9,rfl,iF,ip,w,q9,m9⟩;have t9:=t8.nx q9 m9.up;have lI:=kR [gE];simp only[ch,lV,fm,tH]at lI;let⟨gT,dh,gO,dy,gG⟩:=DC t9.toQz [gE] (n:=1) (parts:=#[.mk 0 _]) I I Z Z d hd X;refine⟨_,I,t8.sm m9 N,gT,dh,gO,t9.sq dy N,gG.mono ?_⟩;rintro _ dE ⟨rfl,g8,F⟩;have b:=t9.nx g8 F;refine⟨I,t9.sl dy F N,(WS x.mv)-(aT+1),X,aT+1,g9,_,N0,X,I,(Xx.tr w).cg ?_ ?_,λe=>?_,⟨b.toQz,b.m,λk hk=>b.k k NE⟩⟩
   .rw[nj,iq];simp
   .rw[nj,cK,List.sum_append];simp
   rw[e,Q Z,PT (w.ok e).1,nj,cK,gU,ip e];show _=mA _ (d,Hd bV);have:ne (Hd bV)=aE:=by
    have:Hd bV≠[]:=by unfold Hd;simp
    unfold ne;rw[bR this];rfl
   rw[tU this,fN,pY,bq]
  have qk:¬(aT:Int)<mv.n:=aQ hc;have oc:aT=WS x.mv:=X
  subst oc;rw[bm X]at Xx PT;refine⟨λnv dO f=>∃(aT:Nat) (a:St) (c:L),dO=aT/\aT<=WS ks/\nv=(WS ks)-aT/\Up ce (iR d<|ks.take aT) (oy<|ks.take aT) a/\(a.1=aL->c=eP l7 (sL d<|ks.take aT))/\Zq aL w0 w b f c a [o],
   (WS ks),⟨0,ce,l7,I,bE _,I,by rw[cr,iR,oy];exact t7.toQz.up0,λ_=>by rw[cr,sL];rfl,t7⟩,?_⟩
  rintro nv _ dE ⟨aT,lE,qh,rfl,hj,rfl,n,iS,iN⟩;have lT:=hk.len;have ld:aA (pq aL D) 9 dE F kids ks:=WJ (cq aL D) hk Z λk hk _=>g.arg iN.toQz<|h k hk;refine⟨λhc=>?_,λhc=>?_⟩
  .have b:=S hc;let⟨ad,y,cs,g1,w,g3,g4,g5,g6⟩:=ld.get X b;rw[aV]at w;have wL:=be w;have VB:=qJ wL;have x:ks.take (aT+1)=ks.take aT++[y]:=by
    rw[aX,w];rfl
   have F:=g6;cases D with
   |zero=>exact F.elim
   |succ D=>
   obtain⟨wA,wC,rT,ji,rfl,_⟩:=F;refine⟨ad,g1,_,_,_,_,wA,wC,rT,ji,_,g5,λk7 ey oR oF eG=>have y:=iN.al eG oR oF;(u _ _ _ _ _ _ _ _ d y.toQz ((cq aL _).keep g6 λk _ b=>eG.block k b N) h (Bn Y wL) X hd i T).mono ?_⟩;rintro _ ff ⟨rfl,oN,ur,mK,n8,pi,nO⟩;have mt:=y.nx pi nO;refine⟨I,y.sm nO N,(WS ks)-(aT+1),X,aT+1,oN,ur,N0,X,I,(n.tr mK).cg ?_ ?_,λe=>?_,⟨mt.toQz,mt.m,λk hk=>mt.k k NE⟩⟩
   .rw[x,Aj]
   .rw[x,CD]
   rw[n8 e,iS (mK.ok e).1,x,CE,gU]
  have qk:¬(aT:Int)<kids.n:=aQ hc;have oc:aT=WS ks:=X
  subst oc;rw[bm X]at n iS;refine⟨I,lE,qh,(W.tr<|M.tr<|cc.tr<|Xx.tr n).cg I ?_,λe=>?_,iN.toQz,iN.m⟩
  .unfold DW;omega
  rw[(Bo n (Bo Xx R0 PT) iS) e];unfold Nt N8;simp only[bp]
 .have hc:x.ini≠[]:=WH
  refine(qz t.toQz x.ini X).mono ?_;rintro _ J ⟨rfl,B7,y,F,n⟩;have k:=t.nx F n.up;refine⟨_,I,t.sm n N,Hn,(Ga k.toQz d hd fU (x.ini++[59]) Z W4).mono ?_⟩;rintro _ M ⟨rfl,q3,w⟩;refine⟨I,k.sm w N,B7,_,A,λe=>?_,k.nx q3 w⟩;have l:x.ini++[59]≠[]:=N
  have b:ne (x.ini++[59])=aE:=by unfold ne;rw[bR l];rfl
  rw[e,bR l,Q Z,tU Z,iv b,fN,iu,pY,bq,zo,Q hc];rfl
 have hc:=WH
 refine⟨st,l,g.up0.cg (by rw[bO hc];rfl) I,λ_=>by unfold zo;rw[E hc];rfl,t⟩
end
def Up.more{st dl}{c}{n}(h:Up st c 0 dl)(a:c=aE->n=0):Up st c n dl:=by
 cases c
 .refine⟨?_,λe=>?_⟩
  .rw[h.w];simp
  have:=h.w;simp_all
 grind
def HJ:J (L):=[[],FT,uS,xL,Ni]
def atq{k}(h:1<=k)(a:k<=4):HJ[k.toNat]? =aM (kW k):=by
 have:k=1∨k=2∨k=3∨k=4:=X
 rcases this with rfl|rfl|rfl|rfl<;>rfl
def HM k:ne (kW k)=aE:=by
 unfold kW;split
 .rfl
 split
 .rfl
 split
 .rfl
 rfl
def alu k:WS (kW k)<=8:=by
 unfold kW;split
 .decide
 split
 .decide
 split
 .decide
 decide
def DN{d}{b}{l}(hk:b.k=1∨b.k=2)(hd:d<12):((JW (b.dft=[])&&eu b.nm)&&KD b l (d+1))=jZ d (.mk b l):=by
 have:fh b.k=aL:=by unfold fh;grind
 rw[jZ,bO hd,cd];unfold qH KD
 grind
def ptS{d}{b}{l}(hk:b.k=3∨b.k=4)(hd:d<12):(((JW (b.ini=[])&&JW (b.en=[]/\b.lv=[]/\b.mv=[]/\l=[]))&&eu b.nm)&&eu b.dft)=jZ d (.mk b l):=by
 let h:fh b.k=aE:=by unfold fh;grind
 rw[jZ,bO hd,cd];unfold qH;rw[h,E I];by_cases a:l=[]
 .subst a;have:JW (b.ini=[]/\b.en=[]/\b.lv=[]/\WS b.mv=0/\WS ([]:J Nd)=0)=(JW (b.ini=[])&&JW (b.en=[]/\b.lv=[]/\b.mv=[]/\([]:J Nd)=[])):=by
   simp
  rw[this,iR]
  grind
 simp_all
def bsz{d}{b}{l}(h:¬(1<=b.k/\b.k<=4)∨12<=d):jZ d (.mk b l)=aL:=by
 rw[jZ];rcases h with h|h
 .have a:fh b.k=aL:=by unfold fh;grind
  have:JW ((b.k=1∨b.k=2)/\b.dft=[])=aL:=bR X;unfold qH;simp_all
 grind
def TH:∀D,hZ D
 |0=>by
  intro e w b l st F x c d a h;exact h.elim
 |D+1=>by
  intro G j b c st H x m d u J F y A hd hE hT;let⟨a,s⟩:=x;have am:=J;obtain⟨o,v,mv,kids,rfl,K,z⟩:=J;have K:Km aL j H a o v mv:=K;have z:lq aL (pq aL D) 9 27 j H kids s:=z;show az aq 190 #[rp b,ah (uY a.k a.nm a.ini a.dft o v mv kids a.a).toArray,O U (d:Int)] j _;rw[Ew]at y;rw[ml]at A;have P:=A;unfold yK at P;refine ret<|asc ?_;intro r w1 Y W V;have i:=(u.z aL).al V Y W;let⟨q,sl,B,_⟩:=i.toQz.set;have bad:∀{w:av} {l:St} {p:L},l.1=aE->Zq aL G j b w p l [r]->(st.1=aE∨jZ d (.mk a s)=aL)->∃l M,Up st (jZ d<|.mk a s) (Bd<|.mk a s) l/\(l.1=aL->M=eP c (LS d<|.mk a s))/\Qz G b w M l/\Mw aL b j w:=by
   intro w l p e t h;refine⟨l,p,⟨?_,λb=>absurd (e.symm.trans b) Z⟩,λb=>absurd (e.symm.trans b) Z,t.toQz,t.m⟩;rw[e];rcases h with h|h
   .rw[h];rfl
   rw[h];simp
  refine⟨st.1,Hl B 2 I,λh=>?_,λh=>?_⟩
  .refine(mS i.toQz aL).mono ?_;rintro _ f ⟨rfl,B7,d,e,b⟩;refine⟨I,i.sm b N,I,bad (by rw[d.w];simp) (i.nx e b.up) ?_⟩;rw[cj]at h;rcases h with h|h
   .exact .inl h
   exact .inr<|bsz R
  rw[eH]at h;have aC:d<12:=by have:=aQ h.2;omega
  let⟨q2,w2,g,m,e2,cF,bv,bV,oC,dM⟩:=gL w1 HJ (n:=5) (parts:=#[.mk 0 (ab<|ao #[]),.mk 1<|ab Kac,.mk 2<|ab Kad,.mk 3<|ab Kae,.mk 4<|ab Kaf]) I I Z Z;have q:=i.al cF bv bV;have aS:1<=a.k/\a.k<=4->ci q2 a.k 1 ⟨g,a.k.toNat,VM⟩/\∀w,aF w g 9 m->aB w ⟨g,a.k.toNat,VM⟩ [ab (T<|kW a.k)]:=λhk=>by
   have:=dM _ _<|atq hk.1 hk.2;rwa[xf X]at this
  have HK:=alu a.k;have z2:∀{w3:av},ay [] w2 w3->aF w3 g 9 m:=λhO=>hO.blk oC N;have aT:∀{w3 w4:av} {p:L} {sx:St} {f:C},Zq aL G j b w3 p sx [g,r]->Mw f b w3 w4->aF w3 g 9 m->aF w4 g 9 m:=λt bY B=>(t.sm (ks':=[g]) bY N g N).trans B;refine⟨q2,w2,e2,i.sq cF N,λb1 w3=>w2=w3/\b1=JW (a.k=1∨a.k=2),?_,λpf=>⟨I,?_⟩,λpf=>⟨I,?_⟩⟩
  .rintro b1 _ ⟨rfl,rfl⟩;refine⟨λb=>?_,λb=>?_⟩
   .have hk:=S b;have dO:1<=a.k/\a.k<=4:=X
    let⟨y1,y2⟩:=aS dO;rw[show ao #[]=T []from rfl,jC];refine(mS q.toQz _).mono ?_;rintro _ w4 ⟨rfl,bJ,u1,u2,u3⟩;have t4:=q.nx u2 u3.up;refine⟨I,q.sm u3 N,λw5 dV=>⟨λk=>k∈[r,g],N,_,y1,N,_,y2 w5<|dV.blk (aT q u3 oC) N,have t5:=t4.q dV;(qz t5.toQz a.nm X).mono ?_⟩⟩;rintro _ w6 ⟨rfl,t,v1,v2,v3⟩;have f:=t5.nx v2 v3.up;have lI:=kR [kW a.k,a.nm,[123]];simp only[ch,lV,fm,tH,aY,ck]at lI;let⟨q7,w7,me,fu,cC⟩:=DC f.toQz [kW a.k,a.nm,[123]] (n:=3) (parts:=#[.mk 0 (ab<|T<|kW a.k),.mk 1<|ab<|T a.nm,.mk 2<|ab<|T [123]]) I I Z Z d hd X;refine⟨_,I,t5.sm v3 N,MW<|t5.sm v3 N,q7,w7,me,f.sq fu N,MW<|f.sq fu N,cC.mono ?_⟩;rintro _ w8 ⟨rfl,x1,x2⟩;have t8:=f.nx x1 x2;have el:t.1=aL->(if t.1 then c else mA c (d,jg [kW a.k,a.nm,[123]]))=eP c [(d,kW a.k++32::(a.nm++[32,123]))]:=λe=>by
     rw[e,Q Z,pZ,tU<|HM _,iv<|wg (v1.ok e).2.1,iv Mi,fN,iu,iu,pY];rfl
    generalize (if t.1 then c else mA c (d,jg [kW a.k,a.nm,[123]]))=l8 at*
    have ed:ar U ((d:Int)+1)=((d+1:Nat):Int):=N0
    rw[ed];refine⟨I,f.sl fu x2 N,MW<|f.sl fu x2 N,(ie (TH D) t8.toQz (K.keep λk hk _=>u.arg t8.toQz<|F k hk) (z.keep (cq aL D) Z λk hk _=>u.arg t8.toQz<|F k hk) F y.1 y.2 A (d+1) X hE hT).mono ?_⟩;rintro _ w9 ⟨rfl,gE,l9,x,eQ,y3,y4⟩;have t9:=t8.nx y3 y4;let⟨fd,dh,co,dy,ce⟩:=DC t9.toQz [[125]] (n:=1) (parts:=#[.mk 0 (ab<|T [125])]) I I Z Z d hd Z;refine⟨I,t8.sm y4 N,fd,dh,co,t9.sq dy N,ce.mono ?_⟩;rintro _ dE ⟨rfl,x3,x4⟩;have cc:=t9.nx x3 x4;refine⟨I,t9.sl dy x4 N,I,gE,_,((u1.tr v1).tr x).cg (DN hk aC)<|by rw[Bd];omega,λe=>?_,cc.toQz,cc.m⟩;have hh:fh a.k=aL:=by unfold fh;exact bR X
    rw[LS,hh,e];simp only[rN,oe];rw[eQ e,el (x.ok e).1,<-gU];have e1:jg [[125]]=[125]:=Z
    rw[e1,<-pZ,<-gU];simp only[bp,bZ,cJ]
   have qj:=aQ b;refine⟨λt ey=>w2=ey/\t=JW (a.k=3∨a.k=4),?_,λf=>⟨I,?_⟩,λf=>⟨I,?_⟩⟩
   .rintro t _ ⟨rfl,rfl⟩;refine⟨λgG=>?_,λgG=>?_⟩
    .have hk:=S gG;have iS:1<=a.k/\a.k<=4:=X
     let⟨y1,y2⟩:=aS iS;have n4:=K.1.1.len;have n5:=K.2.1.1.len;have n6:=K.2.2.1.len;have n7:=z.1.len;have a4:=iz a.en;have a5:=iz a.lv;have a6:=nE a.mv;have k8:=qK s;have ip:(ar U ((ar U<|(ar U<|(o.n:Int)+(v.n:Int))+(mv.n:Int))+(kids.n:Int))==0)=JW (a.en=[]/\a.lv=[]/\a.mv=[]/\s=[]):=by
      rw[eI (x:=(o.n:Int)+(v.n:Int)) X X,eI (x:=(o.n:Int)+(v.n:Int)+(mv.n:Int)) X X,eI X X,bM];simp only[dw,bB];refine⟨λe=>?_,λ⟨d,e2,g,k⟩=>?_⟩
      .exact⟨cM X,cM X,cM X,cM X⟩
      rw[n4,n5,n6,n7,d,e2,g,k];rfl
     rw[show ao #[]=T []from rfl,jC,ip];refine(mS q.toQz _).mono ?_;rintro _ ff ⟨rfl,mt,u1,u2,u3⟩;have lE:=q.nx u2 u3.up;refine⟨I,q.sm u3 N,λfS dQ=>⟨λk=>k∈[r,g],N,_,y1,N,_,y2 fS<|dQ.blk (aT q u3 oC) N,N,have gT:=lE.q dQ;(qz gT.toQz a.nm X).mono ?_⟩⟩;rintro _ gz ⟨rfl,lT,v1,v2,v3⟩;have g8:=gT.nx v2 v3.up;refine⟨_,I,gT.sm v3 N,MW<|gT.sm v3 N,(qz g8.toQz a.dft X).mono ?_⟩;rintro _ iA ⟨rfl,iD,x1,x2,x3⟩;have gO:=g8.nx x2 x3.up;have lI:=kR [kW a.k,a.nm,[45,62],a.dft++[59]];simp only[ch,lV,fm,tH,aY,ck,aU]at lI;let⟨ld,fV,iN,iK,iF⟩:=DC gO.toQz [kW a.k,a.nm,[45,62],a.dft++[59]] (n:=4) (parts:=#[.mk 0 (ab<|T<|kW a.k),.mk 1<|ab<|T a.nm,.mk 2<|ab<|T [45,62],.mk 3<|ab<|T<|a.dft++[59]]) I I Z Z d hd X;refine⟨T a.dft,I,g8.sm x3 N,MW<|g8.sm x3 N,Hn,ld,fV,by rw[show ao #[59]=T [59]from rfl,gA];exact iN,gO.sq iK N,MW<|gO.sq iK N,iF.mono ?_⟩;rintro _ iW ⟨rfl,y3,y4⟩;have g9:=gO.nx y3 y4;have hU:=((u1.tr v1).tr x1).cg (ptS hk aC) I;refine⟨I,gO.sl iK y4 N,MW<|gO.sl iK y4 N,I,iD,_,hU.more λkq=>?_,λe=>?_,g9.toQz,g9.m⟩
     .rw[<-ptS hk aC]at kq;simp only[aO,bB]at kq;let⟨⟨⟨_,e,e2,d,g⟩,_⟩,_⟩:=kq;rw[Bd,g,oy];unfold DW;rw[e,e2,d];rfl
     have g:fh a.k=aE:=by unfold fh;exact bO hk
     have d:ne (a.dft++[59])=aE:=by
      have:a.dft++[59]≠[]:=N
      unfold ne;rw[bR this];rfl
     rw[LS,g,E I,e,Q Z,pZ,tU<|HM _,iv<|wg (v1.ok (x1.ok e).1).2.1,iv Mi,iv d,fN,iu,iu,iu,pY,bq];rfl
    have g:=aQ gG;refine(mS q.toQz aL).mono ?_;rintro _ ff ⟨rfl,n,x,T,e⟩;have d:=q.nx T e.up;exact⟨I,q.sm e N,I,bad (by rw[x.w];simp) ⟨d.toQz,d.m,λk hk=>d.k k NE⟩<|.inr<|bsz<|.inl X⟩
   .have:a.k=3:=by simpa using f
    rw[f,bO<|.inl this]
   have:a.k≠3:=by simpa using f
   rw[bM];simp[this]
  .have:a.k=1:=by simpa using pf
   rw[pf,bO<|.inl this]
  have:a.k≠1:=by simpa using pf
  rw[bM];simp[this]
mutual
def ih:∀x:Nd,iI x<=ml x
 |.mk b l=>by
  rw[iI,ml];have:=EB l;unfold yK;omega
def EB:∀l:J Nd,dY l<=jF l
 |[]=>by rw[dY];omega
 |x::l=>by
  rw[dY,jF];exact pj (ih x) (EB l)
end
mutual
def alv:∀x:Nd,DX x<=ml x
 |.mk b l=>by
  rw[DX,ml];have:=Bp l;have:=nE b.mv;unfold yK;omega
def Bp:∀l:J Nd,pu l<=jF l
 |[]=>by rw[pu];omega
 |x::l=>by
  rw[pu,jF];exact pj (alv x) (Bp l)
end
def vf x:∀l,dY (l++[x])=dY l+iI x
 |[]=>by simp[dY]
 |y::l=>by rw[bZ,dY,dY,vf x l];omega
def yL x:∀l,pu (l++[x])=pu l+DX x
 |[]=>by simp[pu]
 |y::l=>by rw[bZ,pu,pu,yL x l];omega
def Xn:∀l m,jF (l++m)=jF l+jF m
 |[],m=>by rw[cJ,jF];omega
 |y::l,m=>by rw[bZ,jF,jF,Xn l m];omega
def TI:∀D w F x c,pq aL D w F x c->ml x<=8388608->az aq 136 #[ah c.toArray] w λe b=>e=ak (ai #[O U (iI x),O U<|DX x])/\ay [] w b
 |0,w,F,x,c,h,_=>h.elim
 |D+1,w,F,x,c,l,g=>by
  let⟨e,s⟩:=x;obtain⟨q,v,mv,kids,rfl,K,z⟩:=l;let hk:aA _ 9 w F kids s:=z.1;refine ret<|arG ?_;have:=EB s;have:=Bp s;have:=nE e.mv;rw[ml]at g;unfold yK at g;have:=hk.len;have:=qK s;intro o u H C i B f;refine⟨λn a p m b=>∃j:Nat,m=j/\j<=WS s/\n=(WS s)-j/\a=(1+dY (s.take j):Nat)/\p=(WS e.mv+pu (s.take j):Nat)/\o<b.heap.size/\ay [] w b,WS s,⟨0,I,X,I,Mi,by rw[cr,pu,K.2.2.1.len];rfl,cD C f.size,i.bG f⟩,?_⟩;rintro n _ _ _ G ⟨j,rfl,r,rfl,rfl,rfl,A,d⟩;refine⟨λh=>?_,λh=>?_⟩
  .have x:(j:Int)<kids.n:=S h;let⟨ad,y,c,Y,Q,g3,g4,g5,V⟩:=(ZH (cq aL D) Z hk d N).get X x;rw[aV]at Q;have:=qJ<|be Q;have a:s.take (j+1)=s.take j++[y]:=by
    rw[aX,Q];rfl
   have:jF s=jF (s.take<|j+1)+jF (s.drop<|j+1):=by rw[<-Xn,eS]
   have:dY (s.take j)+iI y<=jF (s.take<|j+1):=by rw[<-vf,<-a];exact EB _
   have:pu (s.take j)+DX y<=jF (s.take<|j+1):=by rw[<-yL,<-a];exact Bp _
   let T:=V;cases D with
   |zero=>exact T.elim
   |succ D=>
   obtain⟨wA,wC,rT,ji,rfl,_⟩:=T;refine⟨ad,Y,_,_,_,_,wA,wC,rT,ji,_,g5,λk3 w4 wz am dB=>(TI _ w4 F y _ ((cq aL _).keep V λk _ x=>dB.block k x N) X).mono ?_⟩;rintro _ w5 ⟨rfl,dV⟩;refine⟨_,_,I,dV.same R,(WS s)-_,X,j+1,N0,X,I,?_,?_,?_,(d.bG dB).bG dV⟩
   .rw[a,vf,eI X X];omega
   .rw[a,yL,eI X X];omega
   have:=dB.size;have:=dV.size;omega
  have:¬(j:Int)<kids.n:=aQ h;have a:j=WS s:=X
  subst a;rw[bm (bc _)];refine⟨?_,d⟩;rw[iI,DX,qm]
structure Pt4 (w:av) (b:Nat) (sl:Sl) (l:L) (v2 v3:aw):Prop where
 blk:∃q:Option Addr,aF w b 208 [ae q,sl.v,v2,v3]
 len:sl.n=WS l
 aM:l≠[]->∃g,sl.a=.some ⟨g,0,VM⟩/\b<g/\sl.c≠0/\(∃n,w.shape? g=.some (5,n)/\WS l<=n)/\aB w ⟨g,0,VM⟩ (l.map jq)
 cap:sl.a=VM∨sl.c≠0
 big:WS l<=9223372036854775807
section
variable{w:av}{b:Nat}{sl:Sl}{l:L}{v2 v3:aw}
def Pt4.only{w'}(j:Pt4 w b sl l v2 v3)(h:ay [] w w'):Pt4 w' b sl l v2 v3:=by
 let⟨⟨q,k⟩,m,o,p,r⟩:=j;refine⟨⟨q,h.blk k N⟩,m,λt=>?_,p,r⟩;let⟨g,c,d,e,⟨n,a,f⟩,i⟩:=o t;let s:g<w.heap.size:=by
  refine bK λn=>?_;unfold World.shape? at a;simp_all
 let hk:=h.block g s N;exact⟨g,c,d,e,⟨n,(Vy hk).trans a,f⟩,i.keep hk⟩
theorem Qz.pt{w0}{st}(a:Qz w0 b w l st):∃sl,Pt4 w b sl l (aj st.1) (O U st.2)/\∀k,sl.a=aM ⟨k,0,VM⟩->Bu w b k:=by
 let⟨q,sl,d,B,h⟩:=a.ex;refine⟨sl,⟨⟨_,B⟩,h.len,λc=>?_,?_,?_⟩,λk hk=>NF B hk⟩
 .rcases h with⟨_,e⟩|⟨g,tail,f,i,b,j,k,l,m,n⟩
  .exact absurd e c
  refine⟨g,f,i,X,⟨_,by unfold World.shape?;unfold aF at b;rw[b],N⟩,b.cells 0 _ λo v e=>R⟩
 .rcases h with⟨e,_⟩|_
  .grind
  omega
 rcases h with⟨_,e⟩|_
 .subst e;simp
 omega
theorem TJ(j:Pt4 w b sl l v2 v3):az aq 143 #[ae (aM ⟨b,0,VM⟩)] w λe i=>e=ak (ab<|T l)/\Pt4 i b sl l v2 v3/\aD (λk=>b<k/\sl.a=aM ⟨k,0,VM⟩) w i:=by
 refine ret<|K1 λc d=>let⟨⟨q,h⟩,f,P,r,t⟩:=j.only d;⟨λk=>k=b,sl,Hl h 1 I,I,sl,Hl h 1 I,sl.a,c,?_,λk _ _=>I,?_⟩
 .obtain⟨s,n,sc⟩:=sl;rcases s with _|a
  .rfl
  rcases r with e|e
  .cases e
  exact Lib.run_unsafeSliceData_row _ _ _ _ _ _ e
 by_cases a:l=[]
 .subst a;refine⟨T [],c,?_,λk _ _=>I,I,⟨⟨q,h⟩,f,P,r,t⟩,d.p0⟩;rw[f];exact Lib.run_unsafeString_none ..
 obtain⟨g,m,O,s,⟨o,p,n⟩,A⟩:=P a;let F:=xH c ⟨g,0,VM⟩<|WS l;refine⟨T l,c.freeze _<|WS l,?_,λk hk J=>F.block k J P0,I,⟨⟨q,F.blk h P0⟩,f,λ_=>⟨g,m,O,s,⟨o,(qi ..).trans p,n⟩,λe v b=>by rw[xG];exact A e v b⟩,r,t⟩,d.ph R⟩;rw[m,f];exact Lib.run_unsafeString_row _ _ _ _ 5 D D g o p l a n t λe x b=>A e _ (by rw[cP,b];rfl)
end
def jA(c:Ch):L×Int:=
 if rH c=aE then(if 16384<WS (eP [] (Hz c)) then([],2)else if(fg<|eP [] (Hz c)).2.1≠0 then([],22)else(eP [] (Hz c),0))else([],22)
def oQ:J Vr->Nat
 |[]=>0
 |v::l=>(WS v.n+1)+oQ l
def xV{v}:∀{l:J Vr},v∈l->WS v.n+1<=oQ l
 |[],h=>YI
 |x::l,h=>by
  rw[oQ];rcases ba.1 h with rfl|h
  .omega
  have:=xV h;omega
def Bq:∀l,WS l<=oQ l
 |[]=>bE _
 |v::l=>by
  have:=Bq l;rw[oQ,aY];omega
def Ak(v:Vr):C:=eu v.n&&JW (v.v≠ -9223372036854775808)
def af9 c:((((((JW (c.root.b.k=1)&&JW (c.root.b.dft=[]))&&JW (WS c.vars<=16))&&JW (iI c.root<=64))&&JW (DX c.root<=200))&&eu c.root.b.nm)&&(c.vars.all Ak&&KD c.root.b c.root.kids 1)&&JW (Bd c.root<=400))=rH c:=by
 let⟨v,⟨b,l⟩⟩:=c;show((((((JW (b.k=1)&&JW (b.dft=[]))&&decide _)&&decide _)&&decide _)&&eu b.nm)&&(v.all Ak&&KD b l 1)&&decide _)=(v.all Ak&&jZ 0 _&&JW (b.k=1/\WS v<=16/\iI _<=64/\DX _<=200/\Bd _<=400))
 by_cases hk:b.k=1
 .rw[<-DN (d:=0) (.inl hk) Z]
  grind
 simp_all
def aga{w:av}{F:h}{D:Nat}{c:Ch}{j:Sl}{i:aI}(f:ChR aL D w F c j i)(r:Jd c)(l:oQ c.vars+ml c.root<=8388608)(m:Er w)(p:Tb w):
  az aq 102 #[ah (j.v::i).toArray] w λe g=>e=ak (ai #[ab (T (jA c).1),O U (jA c).2])/\ay [] w g:=by
 let⟨a,⟨d,s⟩⟩:=c;cases D with
 |zero=>exact f.root.elim
 |succ D=>
 have z7:pq aL (D+1) w F (.mk d s) i:=f.root;have Df:aA Wd 3 w F j a:=f.vars.1;obtain⟨en,lv,mv,kids,rfl,wK,zV⟩:=(cq aL _).inHeap z7;have wK:Km aL w (λk=>F k/\k<w.heap.size) d en lv mv:=wK;have zV:lq aL (pq aL D) 9 27 w (λk=>F k/\k<w.heap.size) kids s:=zV;have u:=r.r;have u:Ew (.mk d s):=u;have xn:∀v∈a,ri v.v:=r.v;rw[Ew]at u;have l:oQ a+ml (.mk d s)<=8388608:=l;have C:ml (.mk d s)=yK d+jF s:=by rw[ml]
 have EX:=l;rw[C]at EX;unfold yK at EX;have c:=af9 ⟨a,.mk d s⟩;generalize P:jA ⟨a,.mk d s⟩=am;unfold jA at P;rw[<-c]at P;clear c;have P:(if((((((JW (d.k=1)&&JW (d.dft=[]))&&decide _)&&decide _)&&decide _)&&eu d.nm)&&(a.all Ak&&KD d s 1)&&JW (Bd (.mk d s)<=400))=aE then(if 16384<WS (eP [] (Hz ⟨a,.mk d s⟩)) then([],2)else if(fg<|eP [] (Hz ⟨a,.mk d s⟩)).2.1≠0 then([],22)else(eP [] (Hz ⟨a,.mk d s⟩),0))else([],22))=am:=P;show az aq 102 #[ah (j.v::uY d.k d.nm d.ini d.dft en lv mv kids d.a).toArray] w _;refine ret<|aro ?_;intro J b w1 fH dC hb qN bU;have G:=Df.len;have H:=Bq a;refine(TI (D+1) w1 F (.mk d s) _ ((cq aL _).keep z7 λk _ bJ=>bU.block k bJ N) X).mono ?_;rintro _ y ⟨rfl,A⟩;have z2:=A.size;refine⟨_,_,I,A.same o,λoC io=>?_⟩;have q2:Qz w b y [] (aL,0):=⟨bU.bG A,hb,⟨VM,Sl.nil,.inl I,oC,.inl ⟨I,I⟩⟩,λ_=>⟨rU 0,Z⟩,bE _⟩
 have t2:Zq aL w y b y [] (aL,0) [J]:=⟨q2,Mw.refl ..,λk hk=>by
  simp only[bh]at hk;subst hk;exact⟨X,io,λb=>by have:=Tv oC b;cases this⟩⟩
 have hF:∀k,(λk=>F k/\k<w.heap.size) k->k<w.heap.size:=λk hk=>hk.2;have hw:=q2.o;rw[show ao #[]=T []from rfl,jC,G];refine(mS t2.toQz _).mono ?_;rintro _ w3 ⟨rfl,ax,u1,u2,u3⟩;have z:=t2.nx u2 u3.up;have zU:((((d.k==1)&&JW (d.dft=[]))&&JW ((WS a:Int)<=16))&&JW ((iI (.mk d s):Int)<=64)&&JW ((DX (.mk d s):Int)<=200))=((((JW (d.k=1)&&JW (d.dft=[]))&&JW (WS a<=16))&&JW (iI (.mk d s)<=64))&&JW (DX (.mk d s)<=200)):=by
  rw[bM];simp only[aO,dw,bB];constructor
  .rintro⟨⟨⟨⟨b,e⟩,k⟩,n⟩,q⟩;exact⟨⟨⟨⟨b,e⟩,X⟩,X⟩,X⟩
  rintro⟨⟨⟨⟨b,e⟩,k⟩,n⟩,q⟩;exact⟨⟨⟨⟨b,e⟩,X⟩,X⟩,X⟩
 rw[zU]at u1;let⟨M,V,_,wX,_⟩:=z.ex;refine⟨I,t2.sm u3 N,M,V,_,_,wX,(qz z.toQz d.nm X).mono ?_⟩;rintro _ w4 ⟨rfl,R,v1,v2,v3⟩;have t:=z.nx v2 v3.up;let⟨W,Y,_,uw,_⟩:=t.ex;have K:=kR [gx,d.nm,[123]];simp at K;have aC:WS gx=5:=I;let⟨q5,w5,e5,dV,B⟩:=DC t.toQz [gx,d.nm,[123]] (n:=3) (parts:=#[.mk 0 (ab<|T gx),.mk 1 _,.mk 2<|ab<|T [123]]) I I Z Z 0 Z X;refine⟨_,I,z.sm v3 N,W,Y,_,_,uw,q5,w5,e5,?_,B.mono ?_⟩
 .refine dV.same λx f=>⟨?_,N⟩
  simp at f;rcases f with rfl|rfl
  .exact(t.k x N).1
  exact t.toQz.lb
 rintro _ w6 ⟨rfl,x1,x2⟩;have t6:=t.nx x1 x2;have aT:=u1.tr v1;have bv:R.1=aL->(if R.1 then([]:L)else mA [] (0,jg [gx,d.nm,[123]]))=eP [] [(0,gx++32::(d.nm++[32,123]))]:=λe=>by
  rw[e];simp only[rN,oe];rw[pZ,tU Z,iv<|wg (v1.ok e).2.1,iv Mi,fN,iu,iu,pY];rfl
 generalize (if R.1 then([]:L)else mA [] (0,jg [gx,d.nm,[123]]))=l6 at*
 let⟨bV,bY,_,Vx,_⟩:=t6.ex;refine⟨I,t.sl dV x2 N,bV,bY,_,_,Vx,λnv cc q l' wr ac g=>∃(aS:Nat) (dl:St) (l':L),cc=aS/\aS<=WS a/\nv=(WS a)-aS/\Up R ((a.take aS).all Ak) 0 dl/\(dl.1=aL->l'=eP l6 ((a.take aS).map λv=>(1,P5 v)))/\Zq aL w y b g l' dl [J],
  (WS a),⟨0,R,l6,I,bE _,I,t6.toQz.up0,λ_=>I,t6⟩,?_⟩
 rintro nv _ vJ la wr ac w7 ⟨aS,ce,l7,rfl,hj,rfl,Xx,PT,t7⟩;refine⟨λhc=>?_,λhc=>?_⟩
 .have bJ:(aS:Int)<WS a:=S hc;let⟨ad,v,i,g1,g2,g3,g4,g5,g6⟩:=(ZH fI Z Df t7.o N).get (bf aS) X;rw[aV]at g2;have cC:=be g2;have H:=xV cC;have nj:a.take (aS+1)=a.take aS++[v]:=by
   rw[aX,g2];rfl
  unfold Wd at g6;subst g6;refine⟨ad,g1,_,_,_,g5,λk4 w8 rr yu fD _=>have t8:=t7.al fD rr yu;(mS t8.toQz _).mono ?_⟩;rintro _ w9 ⟨rfl,iF,y1,y2,y3⟩;have t9:=t8.nx y2 y3.up;let⟨g9,ip,_,gT,_⟩:=t9.ex;refine⟨I,t8.sm y3 N,g9,ip,_,_,gT,λdh dy _=>⟨λk=>k∈[k4],N,have co:=t9.q dy;(qz co.toQz v.n X).mono ?_⟩⟩;rintro _ dE ⟨rfl,gG,y4,jc,y6⟩;have q:=co.nx jc y6.up;let⟨eQ,fd,_,HL,_⟩:=q.ex;refine⟨_,I,co.sm y6 N,eQ,fd,_,_,HL,MW<|co.sm y6 N,(Eo v.v (xn v cC)<|p.only q.o).mono ?_⟩;rintro _ ey ⟨rfl,eG⟩;have b:=q.q eG;let⟨gE,dO,_,vw,_⟩:=b.ex;have me:=T7<|xn v cC;have K:=kR [Af,v.n,[61],Lib.itoa v.v++[59]];simp only[ch,lV,fm,tH,aY,ck,aU]at K;have iD:WS Af=3:=I;let⟨g8,ff,gO,dL,el⟩:=DC b.toQz [Af,v.n,[61],Lib.itoa v.v++[59]] (n:=4) (parts:=#[.mk 0 (ab<|T Af),.mk 1<|ab<|T v.n,.mk 2<|ab<|T [61],.mk 3<|ab<|T<|Lib.itoa v.v++[59]]) I I Z Z 1 Z X;refine⟨T<|Lib.itoa v.v,I,q.sq eG N,gE,dO,_,_,vw,MW<|q.sq eG N,Hn,g8,ff,by rw[show ao #[59]=T [59]from rfl,gA];exact gO,?_,MW<|b.sq dL N,el.mono ?_⟩
  .refine dL.same λx f=>⟨?_,N⟩
   simp only[ba,cy,fQ]at f;rcases f with rfl|rfl|rfl
   .exact(b.k x N).1
   .exact b.toQz.lb
   exact(b.k x N).1
  rintro _ fS ⟨rfl,rM,y8⟩;have n:=b.nx rM y8;let⟨x,T,_,qj,_⟩:=n.ex;refine⟨I,b.sl dL y8 N,x,T,_,_,qj,MW<|b.sl dL y8 N,(WS a)-(aS+1),X,aS+1,gG,_,N0,X,I,((Xx.tr y1).tr y4).cg ?_ I,λe=>?_,⟨n.toQz,n.m,λk hk=>n.k k NE⟩⟩
  .rw[nj,iq];have:(v.v != -9223372036854775808)=JW (v.v≠ -9223372036854775808):=by rw[bM];simp
   rw[this];unfold Ak;simp only[mf,List.all_nil,dW];rw[zH,Bool.and_comm (decide _)<|eu _]
  have k:ne (Lib.itoa v.v++[59])=aE:=by
   have:Lib.itoa v.v++[59]≠[]:=N
   unfold ne;rw[bR this];rfl
  rw[e];simp only[rN,oe];rw[PT (y1.ok (y4.ok e).1).1,nj,cK,gU,tU Z,iv<|wg (y4.ok e).2.1,iv Mi,iv k,fN,iu,iu,iu,pY,bq];rfl
 have qk:=aQ hc;have oc:aS=WS a:=X
 subst oc;rw[bm (bc _)]at Xx PT;refine(ie (TH D) t7.toQz (wK.keep λk hk _=>t7.o.block k hk.2 N) (zV.keep (cq aL D) Z λk hk _=>t7.o.block k hk.2 N) hF u.1 u.2 X 1 Z m p).mono ?_;rintro _ w8 ⟨rfl,q,l8,iN,ld,y1,y2⟩;have v:=t7.nx y1 y2;let⟨lE,lT,_,xp,_⟩:=v.ex;let⟨q9,w9,e9,fx,iS⟩:=DC v.toQz [[125]] (n:=1) (parts:=#[.mk 0 (ab<|T [125])]) I I Z Z 0 Z Z;refine⟨I,t7.sm y2 N,lE,lT,_,_,xp,q9,w9,e9,?_,iS.mono ?_⟩
 .refine fx.same λx f=>⟨?_,N⟩
  simp only[ba,cy,fQ]at f;rcases f with rfl|rfl
  .exact(v.k x N).1
  exact v.toQz.lb
 rintro _ dh ⟨rfl,x3,x4⟩;have n:=v.nx x3 x4;have hU:=aT.tr<|Xx.tr iN;have oF:q.1=aL->(if q.1 then l8 else mA l8 (0,jg [[125]]))=eP [] (Hz ⟨a,.mk d s⟩):=λe=>by
  let⟨b,_⟩:=iN.ok e;let⟨x,_⟩:=Xx.ok b;rw[e];simp;rw[ld e,PT b,bv x];have k:jg [[125]]=[125]:=Z
  rw[k,<-pZ,<-gU,<-gU,<-gU];unfold Hz;rw[bp (Nt 1 d)];exact I
 let⟨nO,n8,_,pz,_⟩:=n.ex;have mt:((((((JW (d.k=1)&&JW (d.dft=[]))&&JW (WS a<=16))&&JW (iI (.mk d s)<=64))&&JW (DX (.mk d s)<=200))&&eu d.nm)&&(a.all Ak&&KD d s 1)&&JW (Bd (.mk d s)<=400))=!q.1:=by
  have b:=hU.w;have e:JW (400<(0:Int)+((0+0+(0+(DW d+oy s)):Nat):Int))=!JW (Bd (.mk d s)<=400):=by
   rw[Bd];by_cases h4:DW d+oy s<=400
   .rw[bO h4,bR X];rfl
   rw[bR h4,bO X];rfl
  have b:q.1=((aL||!(_&&(a.all Ak&&KD d s 1)))||decide _):=b;rw[e]at b;rw[b];generalize (_&&(a.all Ak&&KD d s 1))=k;generalize JW (Bd (.mk d s)<=400)=x;cases k<;>cases x<;>rfl
 rw[mt]at P;have oN:∀{g:av},ay [] y g->ay [] w g:=λT=>hw.bG T;have mK:ay [] w dh:=n.o;refine⟨I,v.sl fx x4 N,nO,n8,_,_,pz,λe=>?_,λe=>(r8 n.toQz).mono ?_⟩
 .rw[Q (by rw[e];decide)]at P;subst P;exact⟨I,mK⟩
 rw[E (by rw[e];rfl),<-oF e]at P;rintro _ _ ⟨rfl,rfl⟩;let⟨oR,pP,pi⟩:=n.toQz.pt;have pm:=λk hk=>n.toQz.bu<|pi k hk;refine⟨_,I,λ_ _=>I,nO,n8,_,_,pz,λe2=>?_,λe2=>(TJ pP).mono ?_⟩
 .rw[E (S e2)]at P;subst P;exact⟨I,mK⟩
 rw[Q (aQ e2)]at P;rintro _ dE ⟨rfl,rx,dJ⟩;have Hi:=dJ.size;have uP:=n.toQz.lb;have e:=n.k J N;have hz:∀k,(b<k/\oR.a=aM ⟨k,0,VM⟩)->w.heap.size<=k:=λk hk=>by have:=n.lo;omega
 have tO:ay [] w dE:=(mK.ph dJ).only hz;let⟨ut,HL⟩:=rx.blk;refine⟨_,I,dJ.same λx f=>?_,ut,oR,_,_,HL,(tz _<|m.only tO).mono ?_⟩
 .simp only[bh]at f;subst f;exact⟨e.1,λT=>e.2.2<|pi _ T.2⟩
 rintro _ ey ⟨AS,AT,rfl,hC,eG⟩;obtain⟨xe,xl,xm,xk,rfl,_⟩:=hC.root;have b:=rx.only eG;let⟨AC,vw⟩:=b.blk;have k:=tO.bG eG;have BV:=eG.size;refine⟨AS,_,_,_,_,xe,xl,xm,xk,_,_,_,I,eG.same o,AC,oR,_,_,vw,λe3 k6 k7 ff _ _ _ _ dL _=>?_,λe3 k8 k9 fS Bv wd By As dQ _=>?_⟩
 .rw[E (by simpa using e3)]at P;subst P;exact⟨I,k.bG dL⟩
 rw[Q (by simpa using e3)]at P;subst P;refine(TJ<|b.only dQ).mono ?_;rintro _ gz ⟨rfl,Cc,ik⟩;let⟨CC,BY⟩:=Cc.blk;have Ym:=dQ.size;refine⟨_,I,ik.same λx f=>?_,CC,oR,_,_,BY,I,((k.bG dQ).ph ik).only hz⟩;simp only[ba,cy,fQ]at f;rcases f with rfl|rfl|rfl
 .exact⟨X,λT=>e.2.2<|pi _ T.2⟩
 .exact⟨wd,λT=>by have:=(pm _ T.2).2;omega⟩
 exact⟨As,λT=>by have:=(pm _ T.2).2;omega⟩
def UF(n:Int):C:=JW (-9223372036854775808<=n/\n<=9223372036854775807)
def H0{n}(h:UF n=aE):ri n:=by
 let h:=S h;exact⟨h.1,h.2⟩
mutual
def ZJ:Ex->C
 |.mk _ n _ _ l _=>UF n&&Og l
def Og:J Ex->C
 |[]=>aE
 |x::l=>ZJ x&&Og l
end
def TK{y}:∀{l:J Ex},Og l=aE->y∈l->ZJ y=aE
 |[],_,h=>YI
 |x::l,h,y=>by
  rw[Og,aO]at h;rcases ba.1 y with rfl|y
  .exact h.1
  exact TK h.2 y
def IL:∀d {x:Ex},ZJ x=aE->mw d x
 |0,_,_=>trivial
 |d+1,.mk k n s op l a,h=>by
  rw[ZJ,aO]at h;exact⟨H0 h.1,λy b=>IL d<|TK h.2 b⟩
def Ic(a:Ac):C:=ZJ a.x
def OH(m:Mv):C:=ZJ m.g&&m.acts.all Ic&&UF m.wt
def DJ(b:Nb):C:=b.en.all Ic&&b.lv.all Ic&&b.mv.all OH
mutual
def ZB:Nd->C
 |.mk b l=>DJ b&&Fi l
def Fi:J Nd->C
 |[]=>aE
 |x::l=>ZB x&&Fi l
end
def IJ{l:J Ac}(h:l.all Ic=aE):∀a∈l,Il a:=λa b d=>IL d<|(gv.1 h) a b
def aBt{m}(h:OH m=aE):Ys m:=by
 rw[OH]at h;simp only[aO]at h;exact⟨λd=>IL d h.1.1,IJ h.1.2,H0 h.2⟩
def aBu{b}(h:DJ b=aE):nbN b:=by
 rw[DJ]at h;simp only[aO]at h;exact⟨IJ h.1.1,IJ h.1.2,λa m=>aBt<|(gv.1 h.2) a m⟩
mutual
def atr:∀(x:Nd),ZB x=aE->Ew x
 |.mk b l,h=>by
  rw[ZB,aO]at h;rw[Ew];exact⟨aBu h.1,HP l h.2⟩
def HP:∀(l:J Nd),Fi l=aE->CB l
 |[],_=>by rw[CB];trivial
 |x::l,h=>by
  rw[Fi,aO]at h;rw[CB];exact⟨atr x h.1,HP l h.2⟩
end
def Uq(c:Ch):C:=(c.vars.all λv=>UF v.v)&&ZB c.root
def aBw{c}(h:Uq c=aE):Jd c:=by
 rw[Uq]at h;simp only[aO]at h;exact⟨λv a=>H0<|(gv.1 h.1) v a,atr _ h.2⟩
def aBx(c:Ch):C:=JW<|oQ c.vars+ml c.root<=8388608
def ChR.off{d}{w}{F}{c}{vs}{cs}(h:ChR aE d w F c vs cs):ChR aL d w F c vs cs:=⟨h.vars.off λ_ _ _ h=>h,Yg h.root⟩
end
def YG(x:dz):aI:=[O U x.k,ab<|T x.nm,O U x.pa,O U x.dp,O U x.en]
def nS:Rp dz:=λ_ _ x c=>c=YG x
def cH:nS.Ok:=⟨λh _=>h,λh=>h,λh _=>h,λh=>by
 unfold nS YG at h;subst h;intro v a;simp at a;rcases a with rfl|rfl|rfl|rfl|rfl<;>rfl⟩
abbrev jh(B:Nat)(w:av)(s:Sl)(x:J dz):Prop:=Own nS 5 131 B w (λ_=>False) s x
def jh.of{B}{w}{F}{s}{xs}(h:Own nS 5 131 B w F s xs):jh B w s xs:=by
 assumption
def jh.B0{B}{w w'}{G}{s}{xs}(h:jh B w s xs)(O:aD G w w')(a:∀k,B<=k->s.a=aM ⟨k,0,VM⟩->¬G k):jh B w' s xs:=
 h.keep cH λk hk b=>O.block k b A
def I4 t:∀c {w:av} {F:h} {x:Nd} {d:aI} {b:Nat} {s:Sl} {xs:J dz} {pa dp:Int},pq t c w F x d->(∀k,F k->k<b)->aF w b 121 [s.v]->jh (b+1) w s xs->
  (WS xs)+iI x<=1000000->0<=dp->dp+iI x<=1000000->
  az aq 59 #[ae (aM ⟨b,0,VM⟩),ah d.toArray,O U pa,O U dp] w λe a=>e=ak (ai #[])/\∃f,aF a b 121 [f.v]/\jh (b+1) a f (xs++Im (WS xs) pa dp x)/\kw b s w f a
 |0,_,_,_,_,_,_,_,_,_,b,_,_,_,_,_,_=>b.elim
 |c+1,w,F,.mk j l,d,b,s,xs,pa,dp,⟨en,lv,mv,kids,jc,_,K⟩,W,L,z,hn,h0,hd=>by
  have hk:=K.1;clear K;dsimp only[Nd.kids,Nd.b]at hk jc;subst jc;rw[iI]at hn hd;have:=hk.len;have:=qI l;refine ret<|aAp λM w0 K dC C=>have:=C.size;have:=L.lt;let cell:∀{u:av} {q:Sl},aF u b 121 [q.v]->aB u ((⟨b,0,VM⟩:Addr).add 0) [q.v]:=λi=>i.cells 0 [_] A;let wY:=C.blk L N;⟨s,cell wY,λw1 E=>⟨λk=>k=b,I,s,cell<|E.blk wY N,?_⟩⟩;let Q:=C.bG E;have:=E.size;let zb:jh (b+1) w1 s xs:=z.B0 Q.p0 λ_ _ _ i=>i;let vu:=Q.blk L N;let⟨y,w2,k1,k3,p,V,g1,g2,⟨gs,m,g4⟩,g5⟩:=iO (P:=aq) (t:=119) (ty:=119) (e:=131) (i:=t131) (bytes:=48) (size:=5) (r:=nS) (G:=λ_=>False) (v:=ah #[O U j.k,ab<|T j.nm,O U pa,O U dp,O U 0]) (x:=⟨j.k,j.nm,pa,dp,0⟩) D D I I I I Z Z Z cH zb X I I R X;have:=k3.size;have:=m.size;let gb:∀g∈gs,g≠b/\g<w1.heap.size/\s.a=aM ⟨g,0,VM⟩:=R
  let zD:s.a≠aM ⟨M,0,VM⟩:=λe=>by have:=(z.blk e).2;dsimp only at this;omega
  let wX:aF V b 121 [s.v]:=m.blk (k3.blk vu N) R;refine⟨y,w2,k1,k3.same o,ZX k3,p,V,g1,m.same λx n=>?_,λk hk B=>?_,b,0,_,_,I,wX,bc 1,X,λw4 H uw=>?_⟩
  .simp only[bh]at n;subst n;exact⟨X,λi=>zD (gb _ i).2.2⟩
  .subst hk;exact m.block _ B R
  have:=H.size;let Pj:jh (b+1) V p _:=jh.of g2;let L9:=Pj.B0 (G:=λk=>k=b) (H.p N) X;let m4:kw b s w p w4:=by
   refine⟨((Q.bG k3).ph<|m.p (F:=λk=>k=b∨s.a=aM ⟨k,0,VM⟩) R).trans (H.p (F:=λk=>k=b∨s.a=aM ⟨k,0,VM⟩) N) R,λk hk=>?_⟩;rcases g5 with e|⟨g,e,i⟩
   .exact R
   rw[e]at hk;injection hk with hk;injection hk with hk;exact X
  let n4:∀k,p.a=aM ⟨k,0,VM⟩->k≠M:=R
  let kz:∀{u:av} {q:Sl},kw b s w q u->aA (pq t c) 9 u F kids l:=λhm=>Zz (cq t c) Z hk hm.1 λk zd _=>by
   have:=W k zd;exact λi=>i.elim X λi=>by have:=(z.blk i).1;dsimp only at this;omega
  refine⟨λT Y a=>∃(r:Nat) (q:Sl),Y=(r:Int)/\T+r=WS l/\r<=WS l/\aF a b 121 [q.v]/\jh (b+1) a q (xs++⟨j.k,j.nm,pa,dp,0⟩::ui (WS xs+1) (WS xs) (dp+1) (l.take r))/\kw b s w q a/\w4.heap.size<=a.heap.size/\∀k,q.a=aM ⟨k,0,VM⟩->k≠M,WS l,⟨0,p,I,X,bE _,uw,by rw[cr,ui];exact L9,m4,bc _,n4⟩,?_⟩;rintro T _ w5 ⟨r,q,rfl,me,lI,yp,v,m5,z5,n5⟩;let P:s.n=WS xs:=z.len;constructor
  .intro hc;let hj:r<WS l:=PZ
   obtain⟨y,hy⟩:∃y,l[r]? =aM y:=⟨_,aR hj⟩
   let⟨ad,y',ds,a1,a2,a3,a4,a5,a6⟩:=(kz m5).get (bf r) X;rw[aV,hy]at a2;injection a2 with a2;subst a2;let ff:=a6;obtain⟨g,rfl⟩:∃g,c=g+1:=by
    cases c with
    |zero=>exact a6.elim
    |succ g=>exact⟨g,I⟩
   obtain⟨wA,wC,rT,ji,rfl,_⟩:=ff;have:=mQ hy;let aS:WS (xs++⟨j.k,j.nm,pa,dp,0⟩::ui (WS xs+1) (WS xs) (dp+1) (l.take r))=WS xs+1+dY (l.take r):=by
    rw[aU,aY,tT];omega
   refine⟨ad,a1,_,_,_,_,wA,wC,rT,ji,_,a5,λk6 w6 bv bJ G=>?_⟩;have:=G.size;let m6:kw b s w q w6:=m5.trans<|WX G;rw[eI X X,P];refine(I4 t (g+1) (pa:=((WS xs:Nat):Int)) ((cq t<|g+1).keep a6 λk _ B=>G.block k B N) (s:=q) (xs:=xs++⟨j.k,j.nm,pa,dp,0⟩::ui (WS xs+1) (WS xs) (dp+1) (l.take r)) (b:=b) (dp:=dp+1) W (G.blk yp N) (v.B0 G.p0 λ_ _ _ i=>i) (by rw[aS];omega) X X).mono ?_;rintro _ w7 ⟨rfl,q7,aT,aC,m7⟩;have:=m7.1.size;refine⟨I,m7.1.same λx n=>?_,T-1,X,r+1,q7,N0,X,X,aT,?_,m6.trans m7,X,λk hk e=>?_⟩
   .simp only[ba,cy,fQ]at n;rcases n with rfl|rfl
    .exact R
    refine⟨bJ,λi=>i.elim X λi=>?_⟩;have:=(v.blk i).2;dsimp only at this;omega
   .have e:l.take (r+1)=l.take r++[y]:=Nh
    rw[e,Ku,ui,ui,bq];rw[aS,bp,bZ]at aC;exact aC
   subst e;rcases m7.2 _ hk with i|i
   .exact n5 _ i I
   omega
  intro hc w8 s;have oc:r=WS l:=YD
  subst oc;rw[bm (bc _)]at v;let xp:=s.blk yp N;let G:jh (b+1) w8 q _:=v.B0 s.p0 λ_ _ _ i=>i;let z8:=s.size;let dM:(xs++⟨j.k,j.nm,pa,dp,0⟩::ui (WS xs+1) (WS xs) (dp+1) l)[WS xs]? =aM ⟨j.k,j.nm,pa,dp,0⟩:=by
   rw[dR X,Ee];rfl
  let⟨g,cells,HE,p1,p2,p3,p4,p5,p6,p7⟩:=Own.aul cH G dM;have t:HE=YG ⟨j.k,j.nm,pa,dp,0⟩:=p6;subst t;let bY:q.n=WS xs+1+dY l:=by rw[v.len,aU,aY,tT];omega
  let⟨p8,p9⟩:=p7 4 (O U (q.n:Int)) ⟨j.k,j.nm,pa,dp,(q.n:Int)⟩ (λ_=>False) Z I λ_ i=>i.elim;rw[<-P]at p2;have bV:=(v.blk p1).1;dsimp only at bV;refine⟨q,cell xp,q,cell xp,_,p2,g,WS xs*5+4,cells,_,by rw[jS,P],p3,by rw[<-P]at p8⊢;exact p8,R,λw9 x y=>⟨I,q,x.blk xp o,?_,?_⟩⟩
  .have:=p9 w9 x y;rw[G9 _ _ (bc _),Ee,List.set_cons_zero]at this;rw[Im];have e:(q.n:Int)=((WS xs+1+dY l:Nat):Int):=by rw[bY]
   rw[e]at this;exact this
  refine(m5.trans<|WX s).trans ⟨x.p λk hk=>?_,R⟩;simp only[bh]at hk;subst hk;exact .inl<|.inr p1
def agd{w}{F}{D}{c}{vs}{cs}(h:ChR aL (D+1) w F c vs cs)(n:Jd c)(s:oQ c.vars+ml c.root<=8388608)(E:Er w)(T:Tb w):
  az aq 58 #[ah (vs.v::cs).toArray] w λe d=>e=ak (O U (jA c).2)/\ay [] w d:=by
 obtain⟨g,l,mv,kids,rfl,_⟩:=h.root;refine ret<|aq4 ?_;intro i f H C b;let x:ChR aL _ f F c vs _:=⟨h.vars.keep fI Z λk _ J=>b.block k J N,(cq aL _).keep h.root λk _ J=>b.block k J N⟩
 refine(aga x n s (E.only b)<|T.only b).mono ?_;rintro _ j ⟨rfl,a⟩;exact⟨_,_,I,a.same o,I,b.bG a⟩
def CF{c}(h:(jA c).2=0):iI c.root<=64:=by
 rw[jA]at h;by_cases a:rH c=aE
 .rw[rH]at a;simp_all
 simp_all
def jx{w}{F}{D}{c}{vs}{cs}(h:ChR aL (D+1) w F c vs cs)(b:Jd c)(d:oQ c.vars+ml c.root<=8388608)(E:Er w)(T:Tb w):
  az aq 26 #[ah (vs.v::cs).toArray] w λe a=>(∃s,e=ak (ai #[Sl.v s,O U (jA c).2])/\((jA c).2=0->jh w.heap.size a s (cQ c))/\((jA c).2≠0->s=Sl.nil))/\ay [] w a:=by
 let⟨n,l,mv,kids,j,_⟩:=h.root;subst j;refine(aAb vs c.root.b.k n l mv kids c.root.b.a (λv a=>(∃s,v=ai #[Sl.v s,O U (jA c).2]/\((jA c).2=0->jh w.heap.size a s (cQ c))/\((jA c).2≠0->s=Sl.nil))/\ay [] w a) w ?_).mono ?_
 .intro r y H p e;let keep:∀{u:av},ay [] w u->ChR aL _ u F c vs _:=λg=>⟨h.vars.keep fI Z λk _ J=>g.block k J N,(cq aL _).keep h.root λk _ J=>g.block k J N⟩
  refine(agd (keep e) b d (E.only e)<|T.only e).mono ?_;rintro _ z ⟨rfl,f⟩;have:=f.size;let m:=e.bG f;refine⟨_,I,f.same o,λhc=>?_,λhc t A v q i C=>?_⟩
  .simp_all
  let hc:=WH
  have:=CF hc;let D:=m.bG i;let c:=
   (cq aL _).keep ((cq aL _).mono ((cq aL _).inHeap h.root) λk hk=>hk.2) λk _ J=>D.block k J N
  refine(I4 aL _ (s:=Sl.nil) (xs:=[]) (pa:= -1) (dp:=0) c X C (E7 ..) R Z X).mono ?_;rintro _ L ⟨rfl,F,K,P,w⟩;refine⟨I,w.1.same λx h=>?_,F,K,⟨F,by rw[hc],λ_=>?_,X⟩,?_⟩
  .grind
  .exact Zd P X
  exact(D.ph w.1).only R
 simp_all
section
variable{w:av}{F:h}{l:Sl}{xs:J dz}
def gK(b:aA nS 5 w F l xs){i:Nat}{x}(c:xs[i]? =aM x):∃ad,ci l i 5 ad/\aB w ad (YG x)/\aB w (ad.add 2) [O U x.pa]/\aB w (ad.add 3) [O U x.dp]/\aB w (ad.add 4) [O U x.en]:=by
 have:=(aZ.1 c).1;have:=b.len;let⟨ad,y,s,d,g,k,m,a,e⟩:=b.get (bf i) X;rw[aV,c]at g;cases g;subst e;let one:∀n v,_[n]? =aM v->aB w _ [v]:=λn v f j u h=>by
  cases j with
  |zero=>
   rw[cX,bN]at h;subst h;have:=a n v f;exact this
  |succ j=>simp at h
 exact⟨ad,d,a,one 2 _ I,one 3 _ I,one 4 _ I⟩
def NJ(x:J dz)(n:Int):C:=JW (n>=0)&&JW (n<WS x)
theorem sP{n}:NJ xs n=aE↔qW xs n:=by
 unfold NJ qW;simp_all
theorem TL(h:aA nS 5 w F l xs) n:az aq 108 #[l.v,O U n] w λe a=>e=ak (aj<|NJ xs n)/\a=w:=by
 refine ret<|aAL ?_;rw[Ya,h.len];exact⟨I,I⟩
noncomputable def aK(xs:List dz)(b a:Int):Bool:=open Classical in decide (∃i j:Nat,b=i/\a=j/\mC xs i j)
theorem vg{b a}:aK xs b a=aE↔∃i j:Nat,b=i/\a=j/\mC xs i j:=@dx _<|Classical.propDecidable _
theorem c8(c:aA nS 5 w F l xs)(f:Fo xs) b a:az aq 82 #[l.v,O U b,O U a] w λe d=>e=ak (aj<|aK xs b a)/\d=w:=by
 refine ret<|aAA ⟨λr d=>r=aK xs b a/\d=w,A,(TL c a).mono ?_⟩;rintro _ _ ⟨rfl,rfl⟩;refine⟨_,I,λh=>(TL c b).mono ?_,λh=>⟨?_,I⟩⟩
 .rintro _ _ ⟨rfl,rfl⟩;have h:=sP.1 h;by_cases e:(NJ xs b&&JW (b<=a))=aE
  .rw[aO]at e;let w:=sP.1 e.1;have:=S e.2;obtain⟨i,rfl⟩:∃i:Nat,b=i:=⟨b.toNat,by have:=w.1;omega⟩
   obtain⟨j,rfl⟩:∃j:Nat,a=j:=⟨a.toNat,by have:=h.1;omega⟩
   let⟨x,g⟩:=eW (xs:=xs) (i:=i) (by have:=w.2;omega);let⟨ad,k,m,_,_,l⟩:=gK c g;refine⟨_,I,ad,λ_=>k,x.en,λ_=>l,?_,I⟩;rw[e.1,e.2,cd,cd,bM,vg,dx];constructor
   .exact λc=>⟨i,j,I,I,x,g,X,c⟩
   rintro⟨q,r,a,b,y,p,n,o⟩
   grind
  rw[qn]at e;refine⟨_,I,⟨0,0,VM⟩,R,0,R,?_,I⟩;rw[e,dT,eq_comm,<-qn,vg];rintro⟨i,j,rfl,rfl,y,a,b,g⟩;have:=fG a;rw[show NJ xs i=aE from sP.2 ⟨X,X⟩,show decide _=aE from bO X]at e;cases e
 rw[eq_comm,<-qn,vg];rintro⟨i,j,rfl,rfl,a⟩;have:=f.C9 a;rw[show NJ xs j=aE from sP.2 ⟨X,X⟩]at h;cases h
noncomputable def aH(xs:List dz)(a b:Int):Bool:=open Classical in decide (∃i j:Nat,b=i/\a=j/\i<j/\mC xs i j)
theorem Bs{a b}:aH xs a b=aE↔∃i j:Nat,b=i/\a=j/\i<j/\mC xs i j:=@dx _<|Classical.propDecidable _
theorem CG(h:aA nS 5 w F l xs)(d:Fo xs) a b:az aq 42 #[l.v,O U a,O U b] w λe c=>e=ak (aj<|aH xs a b)/\c=w:=by
 refine ret<|aAh ⟨λr c=>r=aH xs a b/\c=w,A,λhc=>(c8 h d b a).mono ?_,λhc=>⟨?_,I⟩⟩
 .rintro _ _ ⟨rfl,rfl⟩;let hc:=WH
  refine⟨_,I,?_,I⟩;rw[bM,vg,Bs];refine⟨λ⟨i,j,e,a,v⟩=>⟨i,j,e,a,?_,v⟩,R⟩;let⟨s,_,l,_⟩:=v;omega
 have:=WH
 rw[eq_comm,<-qn,Bs];omega
abbrev dc(B:Nat)(w:av)(s:Sl)(l:J Int):Prop:=Own rInt 1 3 B w (λ_=>False) s l
theorem dc.of{B}{w}{F}{s}{l}(h:Own rInt 1 3 B w F s l):dc B w s l:=by
 assumption
theorem ML w0 {u} {s} {is} (m:dc w0.heap.size u s is) (f:ay [] w0 u) n (o:ri n) (A:WS is<=20000000):
  ∃y a,(au 31 1 #[.mk 0 (O U n)]).run aq u=.ok (Sl.v y) a/\ay [] u a/\∃b w,(Builtin.append_ #[31,31] 31 #[Sl.v s,Sl.v y]).run aq a=.ok (Sl.v b) w/\dc w0.heap.size w b (is++[n])/\ay [] w0 w/\aD (λk=>w0.heap.size<=k) u w:=by
 let⟨y,a,p,k3,b,w,j,l,⟨z,c,d⟩,q⟩:=iO (P:=aq) (t:=31) (ty:=31) (e:=3) (i:=t3) (bytes:=8) (size:=1) (r:=rInt) (G:=λ_=>False) (v:=O U n) (x:=n) D D I I I I Z Z Z bA m f.size I ⟨I,o⟩ R X;exact⟨y,a,p,k3,b,w,j,dc.of l,((f.bG k3).ph<|c.p (F:=λk=>w0.heap.size<=k) λg h=>.inl (d g h).2.1).only λk hk=>hk,k3.ph<|c.p λg h=>.inl (d g h).2.1⟩
theorem QO(c:aA nS 5 w F l xs)(h:Fo xs){n:Nat}{x}(b:xs[n]? =aM x)(m:WS xs<=1000):az aq 71 #[l.v,O U n] w λe a=>(∃s,e=ak (Sl.v s)/\dc w.heap.size a s (fi xs n<|WS xs))/\ay [] w a:=by
 refine(aAy l n (λv a=>(∃s,v=Sl.v s/\dc w.heap.size a s (fi xs n<|WS xs))/\ay [] w a) w ?_).mono ?_
 .refine(TL c n).mono ?_;rintro _ u ⟨rfl,z⟩;obtain rfl:w=u:=z.symm;have:=fG b;let r:NJ xs n=aE:=sP.2 ⟨X,X⟩;rw[r];refine⟨_,I,R,λ_=>?_⟩;have:=h.up n x b;let E:∃e,x.en=e:=R
  let⟨e,s⟩:=E;refine⟨λv q l a=>∃k:Nat,l=k/\n<k/\k<=e/\v+k=WS xs/\dc w.heap.size a q (fi xs n k)/\(∀j u,n<j->j<k->xs[j]? =aM u->u.en<=k)/\ay [] w a,(WS xs)-(n+1),⟨n+1,N0,X,X,X,by rw[h.aBR b];exact E7 ..,X,qE _ _⟩,?_⟩;rintro v q _ D ⟨k,rfl,Y,t,C,i,f,g⟩;let⟨ad,o,_,_,_,p⟩:=gK (ZH cH Z c g N) b;refine⟨ad,o,x.en,p,λd=>?_,λd=>?_⟩
  .have d:=S d;let⟨y,q⟩:=eW (xs:=xs) (i:=k) X;have:WS (fi xs n k)<=k:=by
    rw[fi]
    grind
   let⟨W,T,P,k3,Q,V,J,K,F,g4⟩:=ML w i g k ⟨X,X⟩ X;let⟨zT,G,_,_,_,H⟩:=gK (ZH cH Z c F N) q;have:=h.up k y q;have:=h.lam k b q Y d;obtain⟨x,e⟩:∃x:Nat,y.en=x:=⟨y.en.toNat,X⟩
   refine⟨W,T,P,Q,V,J,zT,G,y.en,H,v-(x-k),X,x,e,X,X,X,?_,h.acx q e f,F⟩;rw[h.acy b q Y d e f];exact K
  let d:=aQ d;have:k=e:=X
  subst this;exact⟨⟨q,I,by rw[h.ag5 b s];exact i⟩,g⟩
 simp_all
end
section
variable{w:av}{F G:h}{l sN:Sl}{xs:J dz}{ns:J Int}
theorem agh{k0}(h:aA nS 5 w F l xs)(B:aF w k0 33 [l.v]) n:az aq 146 #[O U n,ae<|aM ⟨k0,0,VM⟩] w λe a=>e=ak (aj<|!NJ xs n)/\a=w:=by
 refine ret<|aAS ⟨l,B.cells 0 [_] A,(TL h n).mono ?_⟩;simp_all
def aax{k0}(b:aA nS 5 w F l xs)(B:aF w k0 33 [l.v])(h:aA rInt 1 w G sN ns):az aq 81 #[sN.v,.func (.func 146) #[] #[ae (aM ⟨k0,0,VM⟩)]] w λe a=>(∃i,e=ak (O U i)/\(i>=0↔∃n∈ns,¬qW xs n))/\a=w:=by
 refine(ZF sN ⟨.func _ #[] #[ae _],I⟩ (λv a=>(∃i,v=O U i/\(i>=0↔∃n∈ns,¬qW xs n))/\a=w) w ?_).mono ?_
 .have m:=h.len;have:=h.cap;have:=h.big;refine⟨λk i a=>∃j:Nat,i=j/\k+j=WS ns/\j<=WS ns/\(∀n,n∈ns.take j->qW xs n)/\a=w,WS ns,R,?_⟩;rintro k _ e ⟨j,rfl,o,l,f,u⟩;obtain rfl:w=e:=u.symm;refine⟨λd=>?_,λd=>⟨⟨-1,I,X,λ⟨n,c,hb⟩=>absurd (f n ?_) hb⟩,I⟩⟩
  .have d:=S d;let⟨ad,y,v,r,p,x,z,s,t⟩:=h.get (bf j) X;rw[aV]at p;obtain⟨rfl,A⟩:=t;refine⟨ad,r,y,s,146,[],[ae _],I,ia D,(agh b B y).mono ?_⟩;rintro _ e ⟨rfl,u⟩;obtain rfl:w=e:=u.symm;refine⟨_,I,λhb=>⟨⟨j,I,λ_=>⟨y,be p,λq=>?_⟩,X⟩,I⟩,λhb=>⟨k-1,X,j+1,N0,X,X,λn c=>?_,I⟩⟩
   .rw[sP.2 q]at hb;cases hb
   rw[aX,p,cZ]at c;rcases c with c|c
   .exact f n c
   simp at c;subst c;exact sP.1 Rg
  grind
 simp_all
def att(x:J dz)(s:J Int):Prop:=s=[]∨∃n∈s,¬qW x n
def j0(h:aA nS 5 w F l xs)(c:Fo xs)(f:aA rInt 1 w G sN ns):az aq 104 #[l.v,sN.v] w λe d=>(∃r,e=ak (O U r)/\Mt xs ns r)/\ay [] w d:=by
 refine(aAJ l sN (λv d=>(∃r,v=O U r/\Mt xs ns r)/\ay [] w d) w ?_).mono ?_
 .rw[X9];intro m i H C T;have:=f.len;let V:=f.cap;have:=f.big;let r:=h.len;let L:∀{u:av},ay [] w u->aA nS 5 u F l xs:=λg=>ZH cH Z h g N;let kN:∀{u:av},ay [] w u->aA rInt 1 u G sN ns:=λg=>ZH bA Z f g N;refine⟨λb q u=>(b=aE↔att xs ns)/\l=q/\ay [] w u,?_,λhc=>?_,λhc B=>?_⟩
  .rintro b _ u ⟨hb,rfl,g⟩;refine⟨λJ=>⟨⟨-1,I,.inl ⟨hb.1 J,I⟩⟩,g⟩,λam=>?_⟩;let Y:¬att xs ns:=A
   let io:ns≠[]:=λe=>Y<|.inl e;let K:∀n∈ns,qW xs n:=λn D=>qB λhx=>Y<|.inr ⟨n,D,hx⟩;have:0<WS ns:=R
   let⟨ad,G,cs,g1,F,g3,g4,g5,g6⟩:=(kN g).get (i:=0) X X;obtain⟨rfl,_⟩:=g6;have F:ns[0]? =aM G:=F;let W:=K G<|be F;obtain⟨E,rfl⟩:∃z:Nat,G=z:=⟨G.toNat,by have:=W.1;omega⟩
   let M:ns.take 1=[(E:Int)]:=by
    cases ns with
    |nil=>exact absurd I io
    |cons a ns=>
     rw[cX,bN]at F;subst F;rfl
   refine⟨ad,g1,_,g5,X,λQ i1 i2 q u=>∃z v:Nat,i1=(z:Int)/\i2=(v:Int)/\Q+v=(WS ns)-1/\v<=(WS ns)-1/\l=q/\ay [] w u/\NK xs (ns.take<|v+1) z,(WS ns)-1,⟨E,0,I,I,X,X,I,g,?_⟩,?_⟩
   .rw[M];refine⟨E,I,λn D=>?_,λv a=>?_⟩
    .simp[bh]at D;subst D;exact⟨E,I,c.nI<|by have:=W.2;omega⟩
    let⟨k,e,s,_,l,_⟩:=a E N;omega
   rintro Q _ _ _ u1 ⟨z,v,rfl,rfl,me,hj,rfl,bU,a⟩;let b:=SliceF.cut (kN bU) (lo:=1) (hi:=sN.n) (m:=sN.c) X V X X;have:(sN.cut 1 sN.n sN.c 1).n=(WS ns)-1:=by
    rw[b.len,dj,cT];omega
   refine⟨λhc=>?_,λhc=>?_⟩
   .have hc:=S hc;let⟨bv,n3,cs,p1,p2,p3,p4,p5,p6⟩:=b.get (bf v) X;obtain⟨rfl,_⟩:=p6;rw[aV,List.getElem?_take_of_lt X,nN]at p2;have p2:ns[v+1]? =aM n3:=by rw[<-p2];congr 1;omega
    let aS:=K n3<|be p2;obtain⟨t,rfl⟩:∃z:Nat,n3=z:=⟨n3.toNat,by have:=aS.1;omega⟩
    let nj:ns.take (v+1+1)=ns.take (v+1)++[(t:Int)]:=by rw[aX,p2];rfl
    let⟨m',em,t1,t2⟩:=a;have em:z=m':=X
    subst em;refine⟨bv,p1,_,p5,λaT i4 q u=>∃z:Nat,i4= ↑z/\z=aT/\l=q/\ay [] w u/\(∀n,n∈ns.take (v+1)->∃k:Nat,n=k/\mC xs z k)/\∀j',(∀n,n∈ns.take (v+1+1)->∃k:Nat,n=k/\mC xs j' k)->j'<=z,z,⟨z,I,I,I,bU,t1,λj' ff=>t2 j' λn D=>ff n ?_⟩,?_⟩
    .rw[nj];exact R
    rintro aT _ _ u2 ⟨q,rfl,rfl,rfl,w,q1,q2⟩;refine(c8 (L w) c q t).mono ?_;rintro _ u3 ⟨rfl,hu⟩;obtain rfl:u2=u3:=hu.symm;refine⟨_,I,Zm _ _,λl=>?_,λl=>?_⟩
    .have l:¬∃P v:Nat,(q:Int)=P/\(t:Int)=v/\mC xs P v:=λe=>by rw[vg.2 e]at l;cases l
     let B1:t<WS xs:=by have:=aS.2;omega
     let uq:0<q:=Nat.pos_of_ne_zero λe=>l ⟨0,t,X,I,c.vq B1⟩;let bV:(E:Int)∈ns.take (v+1):=by
      rw[List.mem_iff_getElem?];exact⟨0,by rw[List.getElem?_take_of_lt X];exact F⟩
     let bY:q<WS xs:=by
      let⟨k,_,s,e,_⟩:=q1 _ bV;exact fG e
     let⟨y,hy⟩:=eW bY;let⟨p,s,r1,r2,r3,r4,r5,r6⟩:=c.par hy uq;let⟨vJ,b1,_,b3,_,_⟩:=gK (L w) hy;let cc:mC xs p q:=⟨s,r3,X,r5⟩
     refine⟨vJ,b1,y.pa,b3,p,r1,p,r2,I,I,w,λn D=>?_,λj' ff=>?_⟩
     .obtain⟨k,e,hk⟩:=q1 n D;exact⟨k,e,c.pd cc hk⟩
     let y:=q2 j' ff;let n:j'≠q:=λe=>by
      subst e;let⟨k,e,hk⟩:=ff t (by rw[nj];simp);exact R
     let⟨k,e,hk⟩:=ff E (by rw[nj];exact List.mem_append_left _ bV);let⟨p,e',s⟩:=q1 E bV;have:k=p:=X
     subst this;let⟨s',v1,v2,v3⟩:=c.qg hk s y;exact R
    have l:aK xs q t=aE:=by simpa using l
    let⟨s,y,k,p,e⟩:=vg.1 l;have k:q=s:=X
    have p:t=y:=X
    subst k p;refine⟨Q-1,X,q,v+1,I,N0,X,X,I,w,q,I,λn D=>?_,q2⟩;rw[nj,cZ]at D;rcases D with D|D
    .exact q1 n D
    simp only[bh]at D;subst D;exact⟨t,I,e⟩
   let hc:=aQ hc;rw[bm X]at a;exact⟨⟨z,I,.inr ⟨⟨io,K⟩,a⟩⟩,bU⟩
  .have hc:=WH
   exact⟨⟨λ_=>.inl<|cM X,λ_=>I⟩,I,T⟩
  have:¬(sN.n:Int)=0:=WH
  refine(ZD sN ⟨.func (.func 146) #[] #[ae (aM ⟨m,0,VM⟩)],I⟩ (λv d=>(∃b,v=aj b/\(b=aE↔∃n∈ns,¬qW xs n))/\d=i) i ?_).mono ?_
  .refine(aax (L T) B<|kN T).mono ?_;rintro _ u ⟨⟨b,rfl,j⟩,a⟩;obtain rfl:i=u:=a.symm;exact A
  rintro _ u ⟨v,rfl,⟨b,rfl,a⟩,e⟩;obtain rfl:i=u:=e.symm;refine⟨b,I,l,B,⟨λh=>.inr<|a.1 h,λh=>?_⟩,I,T⟩;rcases h with h|h
  .subst h;exact R
  exact a.2 h
 rintro _ d ⟨v,rfl,⟨r,rfl,a⟩,b⟩;exact R
end
end Con
namespace Go.Kt
open Go Go.RowKit Go.MapKept
structure HQ {κ:Type} (d:TypeDesc) (kv:κ->aw) (g:κ->Prop):Prop where
 is:∀k,IsKey d (kv k)
 inj:∀{k l},kv k=kv l->k=l
structure MapV {κ:Type} (kv:κ->aw) (g:κ->Prop) (w:av) (r:Nat) (m:κ->Option aw) (n:Nat):Prop where
 mem:∃es clock,w.heap[r]? =aM (.map es clock)/\Stamped es clock/\es.size<=n/\(∀x,x∈es.toList->∃k,x.key=kv k/\g k)/\
  ∀k v,m k=aM v↔∃x,x∈es.toList/\x.key=kv k/\x.val=v
section
variable{κ:Type}{d:TypeDesc}{kv:κ->aw}{g:κ->Prop}{P:Program}{w w':av}{r n:Nat}{m:κ->Option aw}{mty kt et:TypeId}
theorem MapV.keep(h:MapV kv g w r m n)(hk:w'.heap[r]? =w.heap[r]?):MapV kv g w' r m n:=by
 let⟨e,c,a,b⟩:=h.mem;exact⟨e,c,hk.trans a,b⟩
theorem MapV.le(h:MapV kv g w r m n){n'}(i:n<=n'):MapV kv g w r m n':=by
 let⟨e,c,a,b,f,d⟩:=h.mem;exact⟨e,c,a,b,X,d⟩
theorem MapV.lt(h:MapV kv g w r m n):r<w.heap.size:=by
 let⟨e,c,a,b⟩:=h.mem
 grind
def MapV.only(h:MapV kv g w r m n){bs}(O:Only bs w w')(a:r∉bs):MapV kv g w' r m n:=h.keep<|O.block r h.lt a
def Rv:=@MapV.only
theorem MapV.ext(h:MapV kv g w r m n){m'}(j:∀k,m' k=m k):MapV kv g w r m' n:=by
 let⟨e,c,a,b,d,f,i⟩:=h.mem;exact⟨e,c,a,b,d,f,R⟩
theorem MapV.ok(h:MapV kv g w r m n)(K:HQ d kv g){k}(hk:m k≠VM):g k:=by
 let⟨e,c,f,i,j,a,b⟩:=h.mem;rcases hm:m k with _|v
 .exact absurd hm hk
 let⟨x,g,c,_⟩:=(b k v).1 hm;let⟨m,d,l⟩:=a x g;rwa[K.inj (c.symm.trans d)]
def MapV.make w:(Instr.makeMap mty VM).run P w=.ok (.map<|aM w.heap.size) (w.alloc<|.map #[] 0)/\MapV kv g (w.alloc<|.map #[] 0) w.heap.size (λ_=>VM) 0/\Only [] w (w.alloc<|.map #[] 0):=
 ⟨I,⟨#[],0,heap_alloc_new w _,stamped_empty 0,N,N,N⟩,Rk _ _⟩
def QS:=@MapV.make
theorem TM(K:HQ d kv g){s:Array MapEntry}(h:∀x∈s.toList,∃k,x.key=kv k/\g k):∀x∈s.toList,IsKey d x.key:=λx a=>by
 let⟨k,e,_⟩:=h x a;rw[e];exact K.is k
theorem MapV.lookup(K:HQ d kv g)(f:P.underlying mty=aM (.map kt et))(hd:P.underlying kt=aM d){z}(q:∀w,(zeroValue et).run P w=.ok z w)(l:MapV kv g w r m n) k:
  (Instr.lookup mty (.map<|aM r) (kv k) aL).run P w=.ok ((m k).getD z) w:=by
 let⟨s,c,h,t,i,o,p⟩:=l.mem;rcases findNow_spec (K.is k) s.toList 0 (TM K o)with⟨a,b⟩|⟨u,e,a,b,j⟩
 .have i:m k=VM:=by
   rcases ff:m k with _|v
   .rfl
   grind
  simp[Instr.lookup,run_underlying f,MapKept.run_getObj_map h,MapKept.run_checkKey hd<|K.is k,MapKept.run_findKey hd a,Result.andThen,q,i]
 simp[Instr.lookup,run_underlying f,MapKept.run_getObj_map h,MapKept.run_checkKey hd<|K.is k,MapKept.run_findKey hd a,Result.andThen,(p k e.val).2 ⟨e,be b,j,I⟩]
variable[DecidableEq κ]
theorem MapV.update(K:HQ d kv g)(u:P.underlying mty=aM (.map kt et))(hd:P.underlying kt=aM d)(i:MapV kv g w r m n){k}(A:g k) v:
  ∃w',(Instr.mapUpdate mty (.map<|aM r) (kv k) v).run P w=.ok () w'/\MapV kv g w' r (λx=>if x=k then aM v else m x) (if m k=VM then n+1 else n)/\Only [r] w w':=by
 let⟨q,c,h,o,hn,y,t⟩:=i.mem;let f:∀{s:Array MapEntry} {b p:Nat},Stamped s b->s.size<=p->(∀x∈s.toList,∃k,x.key=kv k/\g k)->
   (∀c d,(∃x∈s.toList,x.key=kv c/\x.val=d)↔(c=k/\d=v)∨(c≠k/\m c=aM d))->∀w',w'.heap[r]? =aM (.map s b)->MapV kv g w' r (λx=>if x=k then aM v else m x) p:=by
  intro s b p e B n w w' C;refine⟨s,b,C,e,B,n,λc d=>?_⟩;rw[w]
  grind
 rcases findNow_spec (K.is k) q.toList 0 (TM K y)with⟨j,a⟩|⟨z,e,j,a,l⟩
 .have X:m k=VM:=by
   rcases hq:m k with _|v
   .rfl
   grind
  rw[E X];refine⟨{w with heap:=w.heap.setIfInBounds r (.map (q.push {key:=kv k,val:=v,born:=c}) _)},?_,f (stamped_push o a) V6 ?_ ?_ _ (heap_set h).1,AQ h⟩
  .simp[Instr.mapUpdate,run_underlying u,MapKept.run_getObj_map h,MapKept.run_checkKey hd<|K.is k,MapKept.run_findKey hd j,MapKept.run_setObj_map _ h,Result.andThen]
  .grind
  intro k v;simp only[Array.toList_push,cZ,bh];constructor
  .rintro⟨x,d|rfl,e,c⟩
   .grind
   exact .inl ⟨(K.inj e).symm,c.symm⟩
  rintro(⟨rfl,rfl⟩|⟨hn,i⟩)
  .simp_all
  simp_all
 let c:=by simpa using a
 let d:=(aZ.1 a).1;let X:m k≠VM:=by rw[(t k e.val).2 ⟨e,be a,l,I⟩];simp
 rw[Q X];refine⟨{w with heap:=w.heap.setIfInBounds r _},?_,
  f (stamped_modify o z (λe=>{e with key:=kv k,val:=v}) (λ_ _=>I) R) ZP ?_ ?_ _ (heap_set h).1,AQ h⟩
 .simp[Instr.mapUpdate,run_underlying u,MapKept.run_getObj_map h,MapKept.run_checkKey hd<|K.is k,MapKept.run_findKey hd j,c,l,MapKept.run_keyThatStays<|K.is k,MapKept.run_setObj_map _ h,Result.andThen]
 all_goals rw[Array.toList_modify,atB a]
 .grind
 intro e v;constructor
 .rintro⟨x,r,m,n⟩;let⟨w,g⟩:=fk r;rw[R7]at g;split at g
  .injection g with g;rw[<-g]at m n;exact .inl ⟨(K.inj m).symm,n.symm⟩
  rename_i Z;by_cases x:e=k
  .have P:=(aZ.1 g).1;have k:=fy.1 ((stamped_iff _ _).1 o).2.2
   grind
  grind
 rintro(⟨rfl,rfl⟩|⟨hn,i⟩)
 .exact⟨_,List.mem_set d _,I,I⟩
 let⟨x,r,k,n⟩:=(t e v).1 i;let⟨m,g⟩:=fk r;refine⟨x,be (i:=m) ?_,k,n⟩;rw[List.getElem?_set_ne]
 .exact g
 rintro rfl;rw[a]at g;injection g with g;rw[<-g,l]at k;exact hn (K.inj k).symm
theorem MapV.delete(K:HQ d kv g)(q:P.underlying mty=aM (.map kt et))(hd:P.underlying kt=aM d)(f:MapV kv g w r m n) k ty:
  ∃w',(Builtin.delete_ #[mty,kt] ty #[.map (aM r),kv k]).run P w=.ok (.tuple #[]) w'/\MapV kv g w' r (λx=>if x=k then VM else m x) (if m k=VM then n else n-1)/\Only [r] w w':=by
 let⟨s,c,h,i,t,l,p⟩:=f.mem;rcases findNow_spec (K.is k) s.toList 0 (TM K l)with⟨b,a⟩|⟨j,e,b,a,o⟩
 .have X:m k=VM:=by
   rcases hq:m k with _|v
   .rfl
   grind
  rw[E X];refine⟨{w with heap:=w.heap.setIfInBounds r (.map s c)},?_,⟨_,_,(heap_set h).1,i,t,l,?_⟩,AQ h⟩
  .simp[Builtin.delete_,run_underlying q,MapKept.run_getObj_map h,MapKept.run_checkKey hd<|K.is k,MapKept.run_findKey hd b,MapKept.run_setObj_map _ h,Result.andThen]
  grind
 have:=(aZ.1 a).1;let d:=(aZ.1 a).2;let c:(s.eraseIdxIfInBounds j).toList=s.toList.eraseIdx j:=by
  simp_all
 let X:m k≠VM:=by rw[(p k e.val).2 ⟨e,be a,o,I⟩];simp
 rw[Q X];let z:(s.eraseIdxIfInBounds j).size<=n-1:=by
  grind
 refine⟨{w with heap:=w.heap.setIfInBounds r _},?_,⟨_,_,(heap_set h).1,stamped_erase i j,z,?_,?_⟩,AQ h⟩
 .simp[Builtin.delete_,run_underlying q,MapKept.run_getObj_map h,MapKept.run_checkKey hd<|K.is k,MapKept.run_findKey hd b,MapKept.run_setObj_map _ h,Result.andThen]
 .rw[c];exact λx e=>l x R
 intro e v;rw[c];have:=fy.1 ((stamped_iff _ _).1 i).2.2;by_cases hk:e=k
 .subst hk;simp only[R6];constructor
  .intro f;cases f
  rintro⟨x,k,n,_⟩;rw[YA]at k
  grind
 rw[Q hk,p];constructor
 .rintro⟨x,u,k,n⟩;refine⟨x,?_,k,n⟩;rw[YA];let⟨w,r,L⟩:=xh u;refine⟨w,r,?_,L⟩;rintro rfl;rw[d]at L;rw[<-L,o]at k;exact hk (K.inj k).symm
 grind
end
abbrev kS(s:J UInt8):aw:=.string ⟨s.toArray⟩
abbrev gS(s:J UInt8):Prop:=WS s<=maxLen
def atu:HQ .string kS gS:=⟨λ_=>trivial,R⟩
abbrev kN(k:Int):aw:=.int .i64 k
section
variable{κ:Type}{d:TypeDesc}{kv:κ->aw}{g:κ->Prop}{P:Program}{w w':av}{r n:Nat}{m:κ->Option aw}{mty kt et:TypeId}
theorem MapV.U5(K:HQ d kv g)(f:P.underlying mty=aM (.map kt et))(hd:P.underlying kt=aM d){z}(q:∀w,(zeroValue et).run P w=.ok z w)(l:MapV kv g w r m n) k:
  (Instr.lookup mty (.map<|aM r) (kv k) aE).run P w=.ok (.tuple #[(m k).getD z,.bool (m k).isSome]) w:=by
 let⟨s,c,h,t,i,o,p⟩:=l.mem;rcases findNow_spec (K.is k) s.toList 0 (TM K o)with⟨a,b⟩|⟨u,e,a,b,j⟩
 .have i:m k=VM:=by
   rcases ff:m k with _|v
   .rfl
   grind
  simp[Instr.lookup,run_underlying f,MapKept.run_getObj_map h,MapKept.run_checkKey hd<|K.is k,MapKept.run_findKey hd a,Result.andThen,q,i]
 simp[Instr.lookup,run_underlying f,MapKept.run_getObj_map h,MapKept.run_checkKey hd<|K.is k,MapKept.run_findKey hd a,Result.andThen,(p k e.val).2 ⟨e,be b,j,I⟩]
end
end Go.Kt
namespace Con
open Go Go.RowKit Go.Kt Go.Kt.V Vc
def mI(l:J (L)):L->Option aw:=λk=>if zm k l<WS l then aM (.int U<|zm k l)else VM
def zk l x k:mI (l++[x]) k=if x∈l then mI l k else if k=x then aM (.int U<|WS l)else mI l k:=by
 unfold mI;rw[aU,bI];by_cases hk:k∈l
 .have h:=qx.2 hk;rw[Kx [x] hk,E X,E h]
  grind
 have:=λh=>hk<|qx.1 h;by_cases e:k=x
 .subst e;rw[Q hk,E I,Ky [] hk,E X]
 have:¬zm k _<WS (l++[x]):=λh=>by
  have:=qx.1 h;simp_all
 grind
def agi l k:(mI l k).isSome=JW (k∈l):=by
 unfold mI;by_cases hk:k∈l
 .rw[E (qx.2 hk),bO hk];rfl
 rw[Q λh=>hk<|qx.1 h,bR hk];rfl
abbrev NmV(w:av)(r:Nat)(l:J (L)):Prop:=MapV kS gS w r (mI l)<|WS l
def NmV.at{w}{r}{l}(h:NmV w r l) k:(Instr.lookup 111 (.map<|aM r) (ab<|T k) aE).run aq w=.ok (ai #[O U (if zm k l<WS l then zm k l else 0),aj<|JW<|k∈l]) w:=by
 have:=h.U5 (P:=aq) (mty:=111) (kt:=9) (et:=3) (z:=O U 0) atu Mi Mi (λw=>zeroValue3 w) k;rw[agi]at this;rw[this];unfold mI;split<;>rfl
def NmV.add{w}{r}{l}(h:NmV w r l){x}(e:gS x)(n:x∉l):
  ∃a,(Instr.mapUpdate 111 (.map<|aM r) (ab<|T x)<|O U<|WS l).run aq w=.ok () a/\NmV a r (l++[x])/\ay [r] w a:=by
 obtain⟨a,b,c,d⟩:=h.update (P:=aq) (mty:=111) (kt:=9) (et:=3) atu Mi Mi e _;refine⟨a,b,(c.ext λk=>?_).le ?_,d⟩
 .rw[zk,Q n]
 grind
def NmV.has{w}{r}{l}(h:NmV w r l){x}(a:x∈l):NmV w r (l++[x]):=by
 refine(h.ext λk=>?_).le A;rw[zk,E a]
structure Lo (w:av) (b m0 m1:Nat) (s:Sl) (nn vn:List (L)) (f:Ft):Prop where
 blk:aF w b 113 [.map (aM m0),s.v,.map (aM m1),O U f.1,O U f.2]
 nm:NmV w m0 nn
 vr:NmV w m1 vn
 n0:m0<m1
 n1:m1<b
section
variable{w w':av}{b m0 m1:Nat}{s:Sl}{nn vn:J (L)}{f:Ft}
def Lo.only(h:Lo w b m0 m1 s nn vn f){bs}(O:ay bs w w')(a:b∉bs)(c:m0∉bs)(d:m1∉bs):Lo w' b m0 m1 s nn vn f:=⟨O.blk h.blk a,h.nm.only O c,h.vr.only O d,h.n0,h.n1⟩
def Lo.o0(h:Lo w b m0 m1 s nn vn f)(O:ay [] w w'):Lo w' b m0 m1 s nn vn f:=h.only O N N N
theorem Lo.lD(h:Lo w b m0 m1 s nn vn f)(a:ay [b] w w'){s'}{f'}(B:aF w' b 113 [.map (aM m0),s'.v,.map<|aM m1,O U f'.1,O U f'.2]):Lo w' b m0 m1 s' nn vn f':=
 ⟨B,h.nm.only a<|by have:=h.n0;have:=h.n1;simp;omega,h.vr.only a<|by have:=h.n1;simp;omega,h.n0,h.n1⟩
def Lo.lt(h:Lo w b m0 m1 s nn vn f):b<w.heap.size:=h.blk.lt
theorem EC w k:az aq 130 #[O U k] w λe w'=>e=ak (aj<|fh k)/\w'=w:=by
 refine ret<|aAM ⟨?_,I⟩;unfold fh;rw[show(_||_)=JW (k=3∨k=4) by rw[bM];simp]
def KE(h:Lo w b m0 m1 s nn vn f) ok e a:az aq 97 #[ae (aM ⟨b,0,VM⟩),aj ok,O U e,O U a] w λr w'=>r=ak (ai #[])/\Lo w' b m0 m1 s nn vn (j5 f<|bad ok e a)/\ay [b] w w':=by
 refine ret<|aAD ?_;rw[af0];refine⟨f.1,λ_=>Hl h.blk 3 I,λd=>⟨b,3,_,_,I,h.blk,N,λg c B=>⟨I,?_,c⟩⟩,λd=>⟨I,?_,qE _ _⟩⟩
 .rw[E d];exact h.lD c B
 grind
theorem aaz(h:Lo w b m0 m1 s nn vn f){x}(e:gS x) a:az aq 56 #[ae (aM ⟨b,0,VM⟩),.map (aM m0),ab (T x),O U (WS nn),O U a] w λr w'=>r=ak (ai #[])/\Lo w' b m0 m1 s (nn++[x]) vn (j5 f (bad (!JW (x∈nn)) 24 a))/\ay [b,m0] w w':=by
 refine ret (Xq ⟨_,_,w,h.nm.at x,(KE h _ 24 a).mono λ_ g ⟨rfl,c,d⟩=>⟨I,λhc=>?_,λhc=>?_⟩⟩)
 .obtain⟨w,a,f,u⟩:=c.nm.add e WH;refine⟨w,a,I,⟨u.blk c.blk (by have:=h.n0;have:=h.n1;simp;omega),f,c.vr.only u (by have:=h.n0;simp;omega),h.n0,h.n1⟩,(d.weaken (bs':=[b,m0]) A).trans u A⟩
 exact⟨I,⟨c.blk,c.nm.has WH,c.vr,h.n0,h.n1⟩,d.weaken A⟩
theorem aaA(h:Lo w b m0 m1 s nn vn f){x}(e:gS x) a:az aq 56 #[ae (aM ⟨b,0,VM⟩),.map (aM m1),ab (T x),O U (WS vn),O U a] w λr w'=>r=ak (ai #[])/\Lo w' b m0 m1 s nn (vn++[x]) (j5 f (bad (!JW (x∈vn)) 24 a))/\ay [b,m1] w w':=by
 refine ret (Xq ⟨_,_,w,h.vr.at x,(KE h _ 24 a).mono λ_ g ⟨rfl,c,d⟩=>⟨I,λhc=>?_,λhc=>?_⟩⟩)
 .obtain⟨w,a,f,u⟩:=c.vr.add e WH;refine⟨w,a,I,⟨u.blk c.blk (by have:=h.n1;simp;omega),c.nm.only u (by have:=h.n0;simp;omega),f,h.n0,h.n1⟩,(d.weaken (bs':=[b,m1]) A).trans u A⟩
 exact⟨I,⟨c.blk,c.nm,c.vr.has WH,h.n0,h.n1⟩,d.weaken A⟩
end
def TP(P:h)(s:Sl)(w:av)(a:Sl)(b:av):Prop:=aD (λk=>P k∨s.a=aM ⟨k,0,VM⟩) w b/\∀k,a.a=aM ⟨k,0,VM⟩->s.a=aM ⟨k,0,VM⟩∨w.heap.size<=k
def TP.trans{P}{s t u}{w w' wU}(h:TP P s w t w')(g:TP P t w' u wU):TP P s w u wU:=by
 refine⟨h.1.trans g.1 λk hk=>?_,λk hk=>?_⟩
 .rcases hk with hk|hk
  .grind
  exact(h.2 k hk).elim R .inr
 rcases g.2 k hk with hk|hk
 .exact h.2 k hk
 exact .inr<|bC h.1.size hk
def TP.of{P}{s}{w w'}{bs}(h:ay bs w w')(b:∀k∈bs,P k):TP P s w s w':=⟨h.p R,R⟩
def Td:dz:=⟨0,[],0,0,0⟩
def ef:∀(c:Nat) {w:av} {F:h} {x:Nd} {j:aI} {b m d:Nat} {s:Sl} {n i:J (L)} {f:Ft},pq aL c w F x j->(∀k,F k->k<m)->Lo w b m d s n i f->jh (b+1) w s (List.replicate (WS n) Td)->
  ml x<=8388608->WS n+iI x<=1000000->
  az aq 55 #[ae (aM ⟨b,0,VM⟩),ah j.toArray] w λe a=>e=ak (ai #[])/\∃l,Lo a b m d l (n++(DB x).map λp=>p.1) i (j5 f<|wO n<|DB x)/\jh (b+1) a l (List.replicate (WS n+iI x) Td)/\TP (λk=>k=b∨k=m) s w l a
 |0,_,_,_,_,_,_,_,_,_,_,_,b,_,_,_,_,_=>b.elim
 |c+1,w,F,.mk B u,j,b,m,d,s,n,i,f,⟨en,lv,mv,kids,jc,_,fH⟩,hF,W,Y,hz,hn=>by
  have hk:=fH.1;clear fH;dsimp only[Nd.kids,Nd.b]at hk jc;subst jc;rw[iI]at hn;rw[ml]at hz;have:=hk.len;have:=qI u;have:=W.n0;have:=W.n1;let aC:gS B.nm:=by
   show (WS B.nm)<=maxLen;have:maxLen=9223372036854775807:=I;unfold yK at hz;omega
  refine ret<|aAn λk0 w0 fH dC T=>?_;have:=T.size;have:=W.lt;let C:=W.o0 T;let am:jh (b+1) w0 s _:=Y.B0 T.p0 λ_ _ _ z=>z;let Ve:s.n=WS n:=by rw[Y.len,Ha]
  let zD:s.a≠aM ⟨k0,0,VM⟩:=λe=>by have:=(Y.blk e).2;dsimp only at this;omega
  refine⟨_,Hl C.blk 0 I,s,Hl C.blk 1 I,?_⟩;dsimp only;rw[Ve];refine(aaz C aC B.a).mono λ_ w1 ⟨rfl,E,M⟩=>?_;have:=M.size;let zb:=am.B0 (G:=λk=>k=b∨k=m) (M.p A) X;let aS:TP (λk=>k=b∨k=m) s w s w1:=(TP.of T N).trans<|TP.of M N;let⟨y,w2,k1,k3,s3,w3,g1,g2,⟨gs,V,g4⟩,g5⟩:=iO (P:=aq) (t:=33) (ty:=33) (e:=131) (i:=t131) (bytes:=48) (size:=5) (r:=nS) (G:=λ_=>False) (v:=ah #[O U 0,ab<|ao #[],O U 0,O U 0,O U 0]) (x:=Td) D D I I I I Z Z Z cH zb X I I R (by rw[Ha];omega);have:=k3.size;have:=V.size;let gb:∀g∈gs,b<g/\g<w1.heap.size/\s.a=aM ⟨g,0,VM⟩:=R
  let H:Lo w3 b m d s (n++[B.nm]) i _:=(E.o0 k3).only V R R R;refine⟨I,M.same o,s,Hl E.blk 1 I,y,w2,k1,k3.same o,s3,w3,g1,V.same λx K=>?_,b,1,_,_,I,H.blk,N,X,λw4 Q uw=>?_⟩
  .simp only[bh]at K;subst K;exact⟨X,λz=>zD (gb _ z).2.2⟩
  have:=Q.size;let P:=H.lD Q uw;let Pj:=by
   have:=jh.of g2;rwa[<-List.replicate_succ']at this
  let L9:=Pj.B0 (G:=λk=>k=b) (Q.p N) X;let m4:TP (λk=>k=b∨k=m) s w s3 w4:=by
   refine aS.trans ⟨((k3.ph<|V.p (F:=λk=>(k=b∨k=m)∨s.a=aM ⟨k,0,VM⟩) R).trans (Q.p (F:=λk=>k=b) N) X),λk hk=>?_⟩;rcases g5 with e|⟨g,e,z⟩
   .exact R
   rw[e]at hk;injection hk with hk;injection hk with hk;exact X
  let n4:∀k,s3.a=aM ⟨k,0,VM⟩->k≠k0:=R
  let kz:∀{bV:av} {q:Sl},TP (λk=>k=b∨k=m) s w q bV->aA (pq aL c) 9 bV F kids u:=λhm=>Zz (cq aL c) Z hk hm.1 λk zd _=>by
   have:=hF k zd;exact λz=>z.elim X λz=>by have:=(Y.blk z).1;dsimp only at this;omega
  refine⟨λkv aT a=>∃(r:Nat) (q:Sl),aT=(r:Int)/\kv+r=WS u/\r<=WS u/\Lo a b m d q (n++B.nm::(AD<|u.take r).map λp=>p.1) i (j5 f<|wO n ((B.nm,B.a)::AD (u.take r)))/\jh (b+1) a q (List.replicate (WS n+1+dY (u.take r)) Td)/\TP (λk=>k=b∨k=m) s w q a/\w4.heap.size<=a.heap.size/\∀k,q.a=aM ⟨k,0,VM⟩->k≠k0,WS u,⟨0,s3,I,X,X,by
   rw[cr,AD,wO,wO,bq];exact P,by rw[cr,dY,ku];exact L9,m4,X,n4⟩,?_⟩
  rintro kv _ w5 ⟨r,q,rfl,me,lI,t,v,m5,z5,n5⟩;constructor
  .intro hc;let hj:r<WS u:=PZ
   obtain⟨y,hy⟩:∃y,u[r]? =aM y:=⟨_,aR hj⟩
   let⟨ad,y',ds,a1,s,a3,a4,a5,a6⟩:=(kz m5).get (bf r) X;rw[aV,hy]at s;injection s with s;subst s;let ff:=a6;obtain⟨b,rfl⟩:∃b,c=b+1:=by
    cases c with
    |zero=>exact a6.elim
    |succ b=>exact⟨b,I⟩
   obtain⟨wA,wC,rT,ji,rfl,_⟩:=ff;have:=mQ hy;have:=qJ<|be hy;let G:WS (n++B.nm::(AD<|u.take r).map λp=>p.1)=WS n+1+dY (u.take r):=by
    rw[aU,aY,bP,Tf];omega
   refine⟨ad,a1,_,_,_,_,wA,wC,rT,ji,_,a5,λk6 w6 bY gz f=>have:=f.size;have:=t.lt;(ef (b+1) ((cq aL<|b+1).keep a6 λk _ bJ=>f.block k bJ N) hF (t.o0 f) (by rw[G];exact v.B0 f.p0 λ_ _ _ z=>z) X<|by rw[G];omega).mono ?_⟩;rintro _ w7 ⟨rfl,q7,B5,q,F⟩;have:=F.1.size;have e:u.take (r+1)=u.take r++[y]:=Nh
   let g:AD (u.take<|r+1)=AD (u.take r)++DB y:=by rw[e,Kw,AD,AD,bq]
   refine⟨I,F.1.same λx K=>?_,kv-1,X,r+1,q7,N0,X,X,?_,?_,(m5.trans<|TP.of f N).trans F,X,λk hk e=>?_⟩
   .simp at K;rcases K with rfl|rfl
    .exact R
    refine⟨gz,λz=>z.elim X λz=>?_⟩;have:=(v.blk z).2;dsimp only at this;omega
   .have e:n++B.nm::(AD<|u.take<|r+1).map (λp=>p.1)=(n++B.nm::(AD<|u.take r).map λp=>p.1)++(DB y).map λp=>p.1:=by
     rw[g,cK,bp,bZ]
    let k:wO n ((B.nm,B.a)::AD (u.take<|r+1))=wO n ((B.nm,B.a)::AD (u.take r))++wO (n++B.nm::(AD<|u.take r).map λp=>p.1) (DB y):=by
     rw[g,<-bZ,Bi];rfl
    rw[e,k,gD];exact B5
   .rw[G]at q;rw[e,Bg,dY,dY,ku,<-ez];exact q
   subst e;rcases F.2 _ hk with z|z
   .exact n5 _ z I
   omega
  intro hc;have b:r=WS u:=YD
  subst b;rw[bm (bc _)]at v t;refine⟨I,q,?_,?_,m5⟩
  .rw[DB];exact t
  rw[iI,show (WS n)+(dY u+1)=WS n+1+dY u by omega];exact v
end Con
namespace Go.Kt
open Go Go.RowKit
section
variable{P:Program}{w:av}
set_option maxRecDepth 20000 in
def aey {t it ty e:TypeId} {i:TypeInfo} {z:Value} (ht:P.underlying t=some (.slice e)) (hit:P.underlying it=some (.int .i64)) (hi:P.info? e=some i) (hz:i.zero=some z)
  {n:Nat} (VD:0<n) (EX:0<i.size) (h63:n<=9223372036854775807) (O2:n*i.bytes<=281474976710656) (acI:Builtin.nextslicecap n 0*i.bytes<=281474976710656):
  (Builtin.append_ #[t,it] ty #[.slice none 0 0,.int .i64 n]).run P w=
   .ok (.slice (some ⟨w.heap.size,0,none⟩) n (grownCap w n 0 e))
    (w.drew.alloc (.cells (Builtin.zeroCells z.cells n++Builtin.zeroCells z.cells (grownCap w n 0 e-n)) e)):=by
 have hn:¬(n<=0):=Y5
 have aEa:¬(9223372036854775807<(n:Int)):=Y5
 have aEb:¬(281474976710656<Builtin.nextslicecap n 0*i.bytes):=Y5
 have hwr:IntKind.i64.wrap (n:Int)=n:=eI Y5 Y5;have qN:¬(281474976710656<(n:Int)*(i.bytes:Int)):=by
  have:((n*i.bytes:Nat):Int)<=281474976710656:=Int.ofNat_le.2 O2;rw[Int.natCast_mul]at this;omega
 have ahW:¬((n:Int)<0):=Y5
 have io:n≠0:=Y5
 have Yq:n*i.size≠0:=by have:=Nat.mul_pos VD EX;omega
 simp[Builtin.append_,run_underlying ht,run_underlying hit,Go.sizeOf,typeInfo,zeroValue,hi,hz,asInt,asIntOf,hwr,ahW,qN,io,Yq,aEa,aEb,Question.forced,run_firstCells_none,newRow,grownCap]
def aaC{α}{r:Rp α}{F}{size bytes}{t it ty e}{i}{z}(f:P.underlying t=aM (.slice e))(h:P.underlying it=aM (.int .i64))(d:P.info? e=aM i)(g:i.zero=aM z)(J:i.size=size)(O:i.bytes=bytes)(H:z.cells.size=size)
  {n} (V:0<n) (b:0<size) (m:n*bytes<=140737488355328) (B:0<bytes):
  ∃s a,(Builtin.append_ #[t,it] ty #[.slice VM 0 0,.int .i64 n]).run P w=.ok (Sl.v s) a/\Own r size e w.heap.size a F (s.cut 0 0 s.c size) []/\Only [] w a/\s.a=aM ⟨w.heap.size,0,VM⟩:=by
 subst J;subst O;have:=bC (by have:=LN n B;omega) m;refine⟨⟨aM _,n,grownCap w n 0 e⟩,_,aey f h d g V b X X<|growslice_fits V m,?_,(Only.drew w).bG<|Rk _ _,I⟩;let q:=grownCap_ge w n 0 e;have l:=grownCap_le_maxLen w n 0 e (by simp[maxLen];omega);refine .inr ⟨w.heap.size,([]),(Builtin.zeroCells z.cells n++Builtin.zeroCells z.cells (grownCap w n 0 e-n)).toList,?_,X,?_,?_,I,?_,?_,trivial⟩
 .simp[Sl.cut,Addr.add]
 .have:=Jp w.drew e (Builtin.zeroCells z.cells n++Builtin.zeroCells z.cells (grownCap w n 0 e-n)).toList;exact this
 .rw[Array.toList_append,aU,AP w _ H,AP w _ H,<-iX];simp[Sl.cut];congr 1;omega
 .simp[Sl.cut]
 simp[Sl.cut];simp[maxLen]at l;omega
end
end Go.Kt
namespace Con
open Go Go.RowKit Go.Kt Go.Kt.V Vc
structure Lx (w:av) (b m0 m1:Nat) (F:h) (s:Sl) (xs:List dz) (vn:List (L)) (f:Ft):Prop where
 lo:Lo w b m0 m1 s (xs.map λx:dz=>x.nm) vn f
 sp:aA nS 5 w F s xs
 fo:Fo xs
 ln:WS xs<=64
 nF:∀k,F k->k≠b
section
variable{w w':av}{b m0 m1:Nat}{F G:h}{s:Sl}{xs:J dz}{vn:J (L)}{f g:Ft}
def Lx.o0(h:Lx w b m0 m1 F s xs vn f)(O:ay [] w w'):Lx w' b m0 m1 F s xs vn f:=⟨h.lo.o0 O,ZH cH Z h.sp O N,h.fo,h.ln,h.nF⟩
def Lx.to(h:Lx w b m0 m1 F s xs vn f)(O:ay [b] w w')(l:Lo w' b m0 m1 s (xs.map λx:dz=>x.nm) vn g):Lx w' b m0 m1 F s xs vn g:=
 ⟨l,ZH cH Z h.sp O λk hk _ hm=>h.nF k hk X0,h.fo,h.ln,h.nF⟩
theorem oS(h:Lx w b m0 m1 F s xs vn f) ok e a:az aq 97 #[ae (aM ⟨b,0,VM⟩),aj ok,O U e,O U a] w λr w'=>r=ak (ai #[])/\Lx w' b m0 m1 F s xs vn (j5 f<|bad ok e a)/\ay [b] w w':=(KE h.lo ok e a).mono λ_ w' ⟨rfl,d,c⟩=>⟨I,h.to c d,c⟩
theorem Gb xs n:gr xs n= -1∨∃j:Nat,gr xs n=j/\j<WS xs:=by
 rcases jf xs n with⟨h,_⟩|⟨j,x,h,a,_⟩
 .omega
 grind
theorem KF(h:Lx w b m0 m1 F s xs vn f) n:az aq 131 #[.map (aM m0),ab<|T n] w λr w'=>r=ak (O U<|gr xs n)/\w'=w:=by
 refine ret<|aAN ⟨_,_,w,h.lo.nm.at n,λa=>⟨?_,I⟩,λa=>⟨?_,I⟩⟩
 .have l:=qx.2<|S a;unfold gr;simp_all
 have:=λh=>aQ a<|qx.1 h;unfold gr;simp_all
theorem unP(a:Lx w b m0 m1 F s xs vn f){n:Int}(c:n<WS xs):az aq 132 #[ae (aM ⟨b,0,VM⟩),O U n] w λr w'=>r=ak (aj<|JW (0<=n)&&!fh (kb xs n))/\w'=w:=by
 refine ret<|aAO ⟨λr w'=>r=(JW (0<=n)&&!fh (kb xs n))/\w'=w,A,λh=>?_,λh=>⟨?_,I⟩⟩
 .have h:=S h;obtain⟨j,rfl⟩:∃j:Nat,n=j:=⟨n.toNat,X⟩
  let⟨x,b⟩:=eW (xs:=xs) (i:=j) X;let⟨ad,d,e,_⟩:=gK a.sp b;refine⟨s,Hl a.lo.blk 1 I,ad,d,x.k,e.dv 0 _ I,(EC w x.k).mono ?_⟩;rintro _ f ⟨rfl,u⟩;refine⟨_,I,?_,u⟩;rw[fz b,bO h];rfl
 grind
theorem KG{b k0}(O:ay [b] w w')(h:k0≠b):bH (λk=>k=k0) w w':=λk hk J=>O.block k J (by subst hk;simp[h])
theorem xW{b}{u v}(h:ay [b] w u)(g:ay [b] u v):ay [b] w v:=h.trans g R
theorem D2{b}(h:ay [] w w'):ay [b] w w':=h.weaken R
theorem KH:∀(d:Nat) {w:av} {x:Ex} {c:aI} {f:Ft},QD aL d w G x c->(∀k,G k->k≠b)->Lx w b m0 m1 F s xs vn f->
  az aq 100 #[ae (aM ⟨b,0,VM⟩),ah c.toArray] w λr w'=>r=ak (ai #[])/\Lx w' b m0 m1 F s xs vn (j5 f<|XU xs vn x)/\ay [b] w w'
 |0,_,_,_,_,h,_,_=>h.elim
 |d+1,w,x,c,f,⟨sl,m,q⟩,l,h=>by
  subst m;let q:=q.1;refine ret<|aAG ?_;intro g i r C T;have:=T.size;have:=h.lo.lt;let a:=h.o0 T;have:=q.len;have:=q.cap;have:=q.big;let j:g≠b:=X
  refine⟨λu=>Lx u b m0 m1 F s xs vn (j5 f<|bad (PA xs vn x.k x.s) 23 x.a)/\ay [b] w u/\i.heap.size<=u.heap.size,?_,λhk=>?_,λhk=>⟨λH=>?_,λH=>?_⟩⟩
  .rintro w1 ⟨K,M,V⟩;refine⟨λE L u=>∃t:Nat,L=(t:Int)/\E+t=WS x.dP/\t<=WS x.dP/\Lx u b m0 m1 F s xs vn (j5 f<|bad (PA xs vn x.k x.s) 23 x.a++we xs vn (x.dP.take t))/\ay [b] w u/\i.heap.size<=u.heap.size,WS x.dP,⟨0,I,I,bE _,by rw[cr,we,bq];exact K,M,V⟩,?_⟩;rintro E _ Q ⟨t,rfl,Y,W,B,J,z2⟩;refine⟨λv=>?_,λv=>?_⟩
   .have v:=S v;let f:aA (QD aL d) 6 Q G sl x.dP:=ZH (mz aL d) Z q J A;let⟨ad,y,ds,w,a2,a3,a4,F,b⟩:=f.get (bf t) X;rw[aV]at a2;let s:=b;obtain⟨d',rfl⟩:∃e,d=e+1:=by
     cases d with
     |zero=>exact b.elim
     |succ e=>exact⟨e,I⟩
    obtain⟨sl',rfl,_⟩:=s;refine⟨ad,w,_,_,_,_,_,_,F,λk3 w3 H wz d=>have:=d.size;(KH _ ((mz aL _).keep b λk hk G=>d.block k G N) l<|B.o0 d).mono ?_⟩;rintro _ w4 ⟨rfl,h4,e⟩;have:=e.size;let nj:x.dP.take (t+1)=x.dP.take t++[y]:=Nl
    have:=B.lo.lt;refine⟨I,e.same o,E-1,X,t+1,N0,X,X,?_,(J.bG d).trans e R,X⟩;rw[nj,F2,we,we,bq,<-bp,gD];exact h4
   let v:=aQ v;have b:t=WS x.dP:=X
   subst b;rw[bm (bc _),<-fA]at B
   grind
  .have hk:x.k=2:=Wq
   intro w d;let s:=d.size;have b:=a.o0 d;refine⟨_,Hl b.lo.blk 2 I,_,_,w,b.lo.vr.at x.s,Zm _ _,(oS b _ 23 x.a).mono ?_⟩;rintro _ k ⟨rfl,e,f⟩;let t:=f.size;refine⟨I,f.same o,?_,xW (D2<|T.bG d) f,X⟩;have:PA xs vn x.k x.s=JW (x.s∈vn):=by unfold PA;rw[hk];simp
   grind
  .have H:x.k=3:=by simpa using H
   intro w f;have:=f.size;have b:=a.o0 f;refine⟨λk=>k=g,_,Hl b.lo.blk 0 I,I,(KF b x.s).mono ?_⟩;rintro _ t ⟨rfl,e⟩;obtain rfl:w=t:=e.symm;refine⟨_,I,Zm _ _,zR _ _,(unP b<|by rcases Gb xs x.s with h|⟨F,h,B⟩<;>omega).mono ?_⟩;rintro _ s ⟨rfl,e⟩;obtain rfl:w=s:=e.symm;refine⟨_,I,Zm _ _,zR _ _,(oS b _ 23 x.a).mono ?_⟩;rintro _ E ⟨rfl,v,d⟩;let y:=d.size;refine⟨I,d.same o,KG d j,?_,xW (D2<|T.bG f) d,X⟩;have:PA xs vn x.k x.s=LU xs x.s:=by unfold PA;rw[H];simp
   rw[this];exact v
  let y:x.k≠2:=Wq
  let H:x.k≠3:=by simpa using H
  have:PA xs vn x.k x.s=aE:=by unfold PA;simp[y,H]
  rw[this];exact⟨a,D2 T,X⟩
end
def QP:Rp Sl:=λ_ _ x c=>c=[x.v]
def wi:QP.Ok:=⟨λh _=>h,λh=>h,λh _=>h,λh=>by
 subst h;intro v a;simp at a;subst a;rfl⟩
abbrev NM(B:Nat)(w:av)(G:h)(s:Sl)(l:J Ac):Prop:=Own (wI aL) 9 201 B w G s l
def agj w G {n:Nat} (c:n<=20000000):az aq 181 #[Sl.nil.v,O U n] w λe a=>(∃s,e=ak s.v/\NM w.heap.size a G s [])/\ay [] w a:=by
 refine(ar6 Sl.nil n (λv a=>(∃s,v=s.v/\NM w.heap.size a G s [])/\ay [] w a) w ?_).mono A;let b:ar U (n-(ar U<|Sl.nil.c-Sl.nil.n))=n:=by
  rw[eI (x:=((0:Nat))-((0:Nat))) X X,eI X X];omega
 refine⟨λu=>w=u,?_,λh=>?_,λ_=>I⟩
 .rintro _ rfl;rw[b];refine⟨λl u=>NM w.heap.size u G l []/\ay [] w u,R,λh=>?_,λh=>⟨E7 ..,qE _ _⟩⟩;let h:=S h;let⟨s,j,g,d,f,_⟩:=aaC (P:=aq) (w:=w) (r:=wI aL) (F:=G) (size:=9) (bytes:=104) (t:=23) (it:=3) (ty:=23) (e:=201) (i:=t201) (n:=n) Mi Mi Mi I I I I X Z X Z;exact⟨0,R,s,j,g,0,R,d,f⟩
 grind
def qY(l:J (Sl×J Ac)):J Ac:=l.flatMap λp=>p.2
def yM{l:J _}{j}{p}(h:l[j]? =aM p):qY (l.take<|j+1)=qY (l.take j)++p.2:=by
 rw[aX,h];unfold qY;simp
def ub{l} j:WS (qY<|l.take j)<=WS (qY l):=by
 have:qY l=qY (l.take j)++qY (l.drop j):=by
  unfold qY;rw[<-kj,eS]
 simp_all
def ajH{w}{rows}{F G}{l}(R:aA QP 1 w F rows (l.map λp=>p.1))(A:∀p∈l,aA (wI aL) 9 w G p.1 p.2)(m:WS (qY l)<=20000000):
  az aq 133 #[rows.v] w λe b=>(∃s,e=ak s.v/\NM w.heap.size b (λk=>G k/\k<w.heap.size) s (qY l))/\ay [] w b:=by
 refine jK<|arF ?_;have Y:=R.len;have:=R.cap;have:=R.big;rw[bP]at Y;let row:∀{u:av} {j:Nat},ay [] w u->j<(WS l)->∃ad p,ci rows j 1 ad/\l[j]? =aM p/\aB u ad [p.1.v]/\aA _ 9 u _ p.1 p.2:=fun{u j} hO a=>by
  let⟨ad,y,s,g,e,o,q,l,n⟩:=(ZH wi Z R hO N).get (bf j) X;rw[aV,cP,gp]at e;obtain⟨p,f,rfl⟩:=e;subst n;exact⟨ad,p,g,f,l,((A p<|be f).inHeap (dU aL) Z).keep (dU aL) Z λk _ J=>hO.block k J N⟩
 refine⟨λv n i u=>∃j:Nat,i=j/\n=(WS<|qY<|l.take j)/\v+j=WS l/\j<=WS l/\w=u,WS l,⟨0,I,I,I,X,I⟩,?_⟩;rintro v _ _ _ ⟨j,rfl,rfl,d,a,rfl⟩;refine⟨λh=>?_,λh=>?_⟩
 .have h:=S h;let⟨ad,p,f,e,g,k⟩:=row (qE _ _) (j:=j) X;let J:=k.len;have G:=ub (l:=l)<|j+1;rw[yM e,aU]at G;have o:ar U ((WS<|qY<|l.take j)+p.1.n)=(WS<|qY<|l.take<|j+1):=by
   rw[eI X X,yM e,aU];omega
  refine⟨λn u=>n=(WS<|qY _)/\w=u,?_,ad,f,p.1,g,λq=>?_,λ_=>⟨o,I⟩⟩
  .rintro _ _ ⟨rfl,rfl⟩;exact⟨v-1,X,j+1,N0,I,X,X,I⟩
  grind
 let h:=aQ h;have o:j=WS l:=X
 subst o;rw[bm (bc _)];refine(agj w (λk=>G k/\k<w.heap.size) m).mono ?_;rintro _ q ⟨⟨s,rfl,n⟩,F⟩;refine⟨s,I,λv t i u=>∃j:Nat,i=j/\v+j=WS l/\j<=WS l/\NM w.heap.size u (λk=>G k/\k<w.heap.size) t (qY<|l.take j)/\ay [] w u,WS l,⟨0,I,I,bE _,by rw[cr];exact n,F⟩,?_⟩;rintro v t _ x ⟨j,rfl,d,a,T,f⟩;refine⟨λh=>?_,λh=>?_⟩
 .have h:=S h;let⟨ad,p,w,s,y,z⟩:=row f (j:=j) X;have H:=ub (l:=l)<|j+1;rw[yM s,aU]at H;let⟨J,K,B,C,L,D,E,_⟩:=rA (P:=aq) (t:=23) (ty:=23) (e:=201) (i:=t201) (bytes:=104) (size:=9) (r:=wI aL) Mi Mi I I I I (dU aL) T (z.mono (dU aL) λk hk=>⟨hk,λe=>by have:=(T.blk e).1;dsimp only at this;omega⟩) f.size X Z;refine⟨ad,w,p.1,y,J,K,B,v-1,X,j+1,N0,X,X,by rw[yM s];exact C,f.trans D λg G=>.inr (E g G).2.1⟩
 grind
section
variable{w w':av}{b m0 m1:Nat}{F G H:h}{s:Sl}{xs:J dz}{vn:J (L)}{f g:Ft}
theorem yo{rows}{l}(i:aA QP 1 w H rows (l.map λp=>p.1))(A:∀p∈l,aA (wI aL) 9 w G p.1 p.2)(m:WS (qY l)<=20000000)(z:∀k,G k->k≠b)(e:Lx w b m0 m1 F s xs vn f):
  az aq 99 #[ae (aM ⟨b,0,VM⟩),rows.v] w λr w'=>r=ak (ai #[])/\Lx w' b m0 m1 F s xs vn (j5 f<|mD xs vn<|qY l)/\ay [b] w w':=by
 refine ret<|aAF<|(ajH i A m).mono ?_;rintro _ x ⟨⟨t,rfl,g⟩,T⟩;have D:=e.lo.lt;have J:=T.size;generalize qY l=al at*
 have n:=g.len;refine⟨t,I,λv q u=>∃j:Nat,q=j/\v+j=WS al/\j<=WS al/\Lx u b m0 m1 F s xs vn (j5 f<|mD xs vn<|al.take j)/\ay [b] x u,WS al,⟨0,I,I,bE _,by rw[cr];exact e.o0 T,qE _ _⟩,?_⟩;rintro v _ E ⟨j,rfl,C,B,c,a⟩;have K:=a.size;refine⟨λh=>?_,λh=>?_⟩
 .have h:=S h;let⟨ad,y,ds,M,r,a3,a4,P,Q⟩:=(ZH (dU aL) Z (g.slice<|dU aL) a R).get (bf j) X;rw[aV]at r;obtain⟨xc,rfl,L⟩:=Q;obtain⟨sl,rfl⟩:=fK L;refine⟨ad,M,_,_,_,_,_,_,sl,_,_,P,λk2 Y yq uu l=>?_⟩;have H:=c.o0 l;have W:mD xs vn (al.take<|j+1)=mD xs vn (al.take j)++(bad (JW (y.k≠1)||JW (y.n∈vn)) 23 y.a++XU xs vn y.x):=by
   rw[aX,r];unfold mD;simp[SD]
  refine⟨λu=>Lx u b m0 m1 F s xs vn (j5 f<|mD xs vn (al.take j)++bad (JW (y.k≠1)||JW (y.n∈vn)) 23 y.a)/\ay [b] Y u,?_,λhk w5 V=>?_,λhk=>?_⟩
  .rintro w3 ⟨h3,s⟩;have z3:=s.size;let⟨d,F⟩:=L;have y:∀k,((G k/\k<w.heap.size)∨(w.heap.size<=k/\t.a=aM ⟨k,0,VM⟩))->k≠b:=R
   refine(KH d ((mz aL d).keep ((mz aL d).keep F λk _ f=>l.block k f N) λk hk f=>s.block k f R) y h3).mono ?_;rintro _ w4 ⟨rfl,h4,dB⟩;refine⟨I,dB.same o,v-1,X,j+1,N0,X,X,?_,xW (xW (a.bG l) s) dB⟩;rw[W,<-bp,gD];exact h4
  .have hk:=Wq
   have k:=V.size;have b:=H.o0 V;refine⟨_,Hl b.lo.blk 2 I,_,_,w5,b.lo.vr.at y.n,Zm _ _,(oS b _ 23 y.a).mono ?_⟩;rintro _ w ⟨rfl,d,f⟩;refine⟨I,f.same o,?_,xW (D2 V) f⟩;rw[gD,hk];exact d
  refine⟨?_,qE _ _⟩;rw[gD,bO Wq];exact H
 have h:=aQ h;have b:j=WS al:=X
 subst b;rw[bm (bc _)]at c;exact⟨I,c,xW (D2 T) a⟩
end
def atv u {a b} (h:ri a) (d:ri b):∃y c,(au 31 2 #[.mk 0 (O U a),.mk 1<|O U b]).run aq u=.ok (Sl.v y) c/\ay [] u c/\aA rInt 1 c (λ_=>True) y [a,b]:=by
 let⟨y,c,k,f,k3,_⟩:=jP (P:=aq) (t:=31) (e:=3) (i:=t3) (z:=O U 0) (w:=u) (F:=λ_=>False) (vs:=[O U a,O U b]) (parts:=#[.mk 0 _,.mk 1 _]) (len:=2) (xs:=[a,b]) (r:=rInt) (size:=1) D D I I Z I I Z Z bA ⟨⟨I,I,h⟩,⟨I,I,d⟩,trivial⟩;exact⟨y,c,k,k3,(f.slice bA).mono bA λ_ _=>trivial⟩
def jh.sl{B}{w}{s}{xs}(h:jh B w s xs):aA nS 5 w (λk=>B<=k) s xs:=(h.slice cH).mono cH λk hk=>hk.elim (λh=>h.elim) λh=>h.1
def tup(x:dz):Int×L×Int×Int×Int:=(x.k,x.nm,x.pa,x.dp,x.en)
section
variable{w w':av}{b m0 m1:Nat}{F G:h}{s:Sl}{xs:J dz}{vn:J (L)}{f g:Ft}
theorem CH{n}(h:qW xs n)(l:WS xs<=64):ri n:=⟨by have:=h.1;omega,by have:=h.2;omega⟩
theorem aaD(h:Lx w b m0 m1 F s xs vn f){n o}(i:qW xs n)(j:qW xs o):az aq 135 #[ae (aM ⟨b,0,VM⟩),O U n,O U o] w λr w'=>r=ak (aj<|Py xs n o)/\ay [] w w':=by
 refine ret<|aAQ<|let⟨y,z,u,p,k3⟩:=atv w (CH i h.ln)<|CH j h.ln;let d:=h.o0 p;⟨s,Hl h.lo.blk 1 I,y,z,u,(j0 d.sp h.fo k3).mono ?_⟩;rintro _ C ⟨⟨r,rfl,l⟩,c⟩;let g:=d.o0 c;let⟨B,e,v,_⟩:=l.aup N A;let⟨k,_,x,m,_⟩:=v n N;let⟨ad,q,t,_⟩:=gK g.sp m;subst e;refine⟨_,I,s,λ_=>Hl g.lo.blk 1 I,ad,λ_=>q,x.k,λ_=>t.dv 0 _ I,?_,p.bG c⟩;unfold Py;rw[<-h.fo.ag6 l i j,fz m];congr 1
 grind
theorem alx{k0 k4}(h:Lx w b m0 m1 F s xs vn f){n o}(d:qW xs n)(e:qW xs o)(a:aF w k0 109 [ae (aM ⟨b,0,VM⟩)])(c:aF w k4 3 [O U n]):
  az aq 134 #[O U o,ae<|aM ⟨k0,0,VM⟩,ae<|aM ⟨k4,0,VM⟩] w λr w'=>r=ak (aj<|!Py xs n o)/\ay [] w w':=by
 refine ret<|aAP ⟨_,a.cells 0 [_] A,_,c.cells 0 [_] A,(aaD h d e).mono ?_⟩;simp_all
theorem aly{k0 k4}(d:Lx w b m0 m1 F s xs vn f){n}(m:qW xs n){sN}{ns}(a:aA rInt 1 w G sN ns)(V:∀o∈ns,qW xs o)(e:aF w k0 109 [ae (aM ⟨b,0,VM⟩)])(g:aF w k4 3 [O U n]):
  az aq 86 #[sN.v,.func (.func 134) #[] #[ae (aM ⟨k0,0,VM⟩),ae<|aM ⟨k4,0,VM⟩]] w λr w'=>r=ak (aj<|ns.any λo=>!Py xs n o)/\ay [] w w':=by
 refine ret<|ZD sN ⟨.func _ #[] #[ae _,ae _],I⟩ _ w<|(ZF sN _ (λv w'=>(∃i,v=O U i/\JW (i>=0)=ns.any λo=>!Py xs n o)/\ay [] w w') w ?_).mono (by
  simp_all)
 have:=a.len;have:=a.cap;have:=a.big;refine⟨λk i u=>∃j:Nat,i=j/\k+j=WS ns/\j<=WS ns/\((ns.take j).any λo=>!Py xs n o)=aL/\ay [] w u,WS ns,⟨0,I,X,X,I,qE _ _⟩,?_⟩;rintro k _ u ⟨j,rfl,t,p,l,h⟩;refine⟨λc=>?_,λc=>?_⟩
 .have c:=S c;let⟨ad,y,x,r,b,z,C,s,v⟩:=(ZH bA Z a h N).get (bf j) X;rw[aV]at b;obtain⟨rfl,E⟩:=v;refine⟨ad,r,y,s,134,[],[ae _,ae _],I,ia D,(alx (d.o0 h) m (V y<|be b) (h.blk e N)<|h.blk g N).mono ?_⟩;rintro _ F ⟨rfl,f⟩;refine⟨_,I,λn=>⟨⟨j,I,?_⟩,h.bG f⟩,λn=>⟨k-1,X,j+1,N0,X,X,?_,h.bG f⟩⟩
  .grind
  rw[aX,b,xa,l];simpa using n
 grind
theorem TS(F:Fo xs){n}(a:¬gr xs n<1):qW xs (DY xs n):=by
 rcases jf xs n with⟨e,_⟩|⟨j,x,e,h,_⟩
 .omega
 have:=fG h;rw[DY,e,fz h,lz h];split
 .have _:=F.par h X;exact⟨X,X⟩
 exact⟨X,X⟩
def dc.kp{B}{w w'}{s}{l}(h:dc B w s l)(O:ay [] w w'):dc B w' s l:=Own.keep bA h λk _ b=>O.block k b N
theorem I5 w0 {u} {s} {is} (d:dc w0.heap.size u s is) (h:ay [] w0 u) n (f:ri n) (z:WS is<=20000000):
  ∃y w,(au 31 1 #[.mk 0 (O U n)]).run aq u=.ok (Sl.v y) w/\ay [] u w/\∃b a,(Builtin.append_ #[31,31] 31 #[Sl.v s,Sl.v y]).run aq w=.ok (Sl.v b) a/\dc w0.heap.size a b (is++[n])/\ay [] w0 a/\w.heap.size<=a.heap.size/\
   (∀k<u.heap.size,s.a≠aM ⟨k,0,VM⟩->a.heap[k]? =w.heap[k]?)/\∀k<u.heap.size,s.a≠aM ⟨k,0,VM⟩->b.a≠aM ⟨k,0,VM⟩:=by
 let⟨y,w,l,k3,b,a,c,m,⟨q,g,o⟩,p⟩:=iO (P:=aq) (t:=31) (ty:=31) (e:=3) (i:=t3) (bytes:=8) (size:=1) (r:=rInt) (G:=λ_=>False) (v:=O U n) (x:=n) D D I I I I Z Z Z bA d h.size I ⟨I,f⟩ R X;have:=k3.size;refine⟨y,w,l,k3,b,a,c,P9,((h.bG k3).ph<|g.p (F:=λk=>w0.heap.size<=k) R).only X,g.size,λk hk j=>g.block k X R,λk hk j e=>?_⟩
 grind
def Gc l n r:Ny xs l (n::r)=if gr xs n<1 then aL else if(l.any λo=>!Py xs (DY xs n) o)=aE then aL else Ny xs (l++[DY xs n]) r:=rfl
theorem ajR(h:Lx w b m0 m1 F s xs vn f){sT}{t:J _}(T:aA oK 1 w G sT t)(P:WS t<=20000000):az aq 101 #[ae (aM ⟨b,0,VM⟩),sT.v] w λr w'=>r=ak (aj<|Ny xs [] t)/\ay [] w w':=by
 refine ret<|aAH ?_;intro B C L K n;have:=h.lo.lt;have:=T.len;refine⟨λv l i q u=>∃(j:Nat) (al:J Int),i=j/\v+j=WS t/\j<=WS t/\q=aM _/\dc w.heap.size u l al/\(∀g∈al,qW xs g)/\WS al<=j/\Ny xs [] t=Ny xs al (t.drop j)/\ay [] w u/\C.heap.size<=u.heap.size/\l.a≠aM ⟨B,0,VM⟩,WS t,
  ⟨0,[],I,I,X,I,E7 ..,N,bc _,I,n,X,by intro e;cases e⟩,?_⟩
 rintro v l _ _ D ⟨j,al,rfl,W,M,rfl,hS,m,V,a,c,Y,p⟩;refine⟨λd=>?_,λd=>?_⟩
 .have d:=S d;let⟨ad,y,cs,g1,g2,g3,g4,g5,g6⟩:=(ZH dI Z T c N).get (bf j) X;rw[aV]at g2;subst g6;let h1:=h.o0 c;let r:t.drop j=y::t.drop (j+1):=by
   let⟨F,e⟩:=aZ.1 g2;rw[<-e,Ef]
  rw[r,Gc]at a;refine⟨ad,g1,_,g5,_,I,_,Hl h1.lo.blk 0 I,(KF h1 y).mono ?_⟩;rintro _ w2 ⟨rfl,s⟩;obtain rfl:D=w2:=s.symm;refine⟨_,I,Zm _ _,λf k3 w3 _ _ cN=>⟨?_,c.bG cN⟩,λf k4 w4 rr yu G=>?_⟩
  .simp_all
  have f:=aQ f;rw[Q f]at a;let D9:=TS h.fo f;let o4:=c.bG G;let L9:dc w.heap.size w4 l al:=hS.kp G;have:l.a≠aM ⟨k4,0,VM⟩:=λe=>Tg
  refine⟨λq i u=>q=aM ⟨b,0,VM⟩/\i=DY xs y/\ay [] w u/\dc w.heap.size u l al/\w4.heap.size<=u.heap.size,?_,_,I,λw9 fx=>?_⟩
  .rintro _ _ w5 ⟨rfl,rfl,x,q,z5⟩ wY uw;refine(aly (h.o0 x) D9 (q.slice bA) m wY uw).mono ?_;rintro _ w6 ⟨rfl,b⟩;have:=b.size;let o6:=x.bG b;refine⟨_,I,_,b.blk wY N,_,b.blk uw N,λe=>⟨?_,o6⟩,λe=>?_⟩
   .rw[a,E e]
   rw[Q (by rw[e];decide)]at a;let aC:dc w.heap.size w6 l al:=q.kp b;let⟨y1,w7,p1,p3,s',w8,q1,q2,q3,z8,q4,q5⟩:=I5 w aC o6 (DY xs y) (CH D9 h.ln) X;have:=p3.size;refine⟨y1,w7,p1,p3.same o,s',w8,q1,λk hk=>?_,v-1,X,j+1,al++[DY xs y],N0,X,X,I,q2,λg ho=>?_,A,a,q3,X,R⟩
   .grind
   grind
  have:=fx.size;let q:=o4.bG fx;let w:=h.o0 q;obtain⟨e,_⟩|⟨ff,x,e,b,_⟩:=jf xs y
  .omega
  let⟨vJ,b1,b2,b3,_⟩:=gK w.sp b;rw[e]at f⊢;refine⟨_,Hl w.lo.blk 1 I,vJ,b1,x.k,b2.dv 0 _ I,(EC w9 x.k).mono ?_⟩;rintro _ dh ⟨rfl,s⟩;obtain rfl:w9=dh:=s.symm;refine⟨_,I,Zm _ _,λhh=>⟨_,I,λdE y=>?_⟩,λhh=>⟨I,?_,q,L9.kp fx,X⟩⟩
  .have Hi:=y.size;let aS:=q.bG y;let Xv:=h.o0 aS;let⟨Hk,c1,_,c3,_⟩:=gK Xv.sp b;refine⟨_,Hl Xv.lo.blk 1 I,Hk,c1,x.pa,c3,λey eG=>⟨I,?_,aS.trans eG R,?_,by have:=eG.size;omega⟩⟩
   .rw[DY];rw[e,fz b,lz b,E hh]
   refine Own.keep bA ((L9.kp fx).kp y) λk hk F=>eG.block k F ?_;simp_all
  rw[DY,e,fz b,Q SM]
 let d:=aQ d;have b:j=WS t:=X
 subst b;rw[fF (bc _)]at a;exact⟨by rw[a];rfl,c⟩
end
section
variable{w w':av}{b m0 m1:Nat}{F G:h}{s:Sl}{xs:J dz}{vn:J (L)}{f g:Ft}
theorem Gf{l:J Nd}{j}{y}(h:l[j]? =aM y):DZ (l.take<|j+1)=DZ (l.take j)+if fh y.b.k=aE then 0 else 1:=by
 unfold DZ;rw[aX,h,eU,aU]
 grind
def eg l:DZ l<=WS l:=ij _ _
theorem aaF{D:Nat}{bb}{ks}{cs}(g:pq aL (D+1) w G (.mk bb ks) cs)(P:∀k,G k->k≠b)(h:Lx w b m0 m1 F s xs vn f){n:Nat}(t:n<WS xs):
  az aq 98 #[ae (aM ⟨b,0,VM⟩),ah cs.toArray,O U (n:Int)] w λr w'=>r=ak (ai #[])/\Lx w' b m0 m1 F s xs vn (j5 f<|vE xs bb ks n)/\ay [b] w w':=by
 obtain⟨L,W,mv,kids,l,_,H⟩:=g;have hk:=H.1;dsimp[Nd.kids,Nd.b]at hk l;subst l;refine ret<|aAE ?_;intro m B H J i;have z0:=i.size;have C:=h.lo.lt;have K:=hk.len;have M:=hk.cap;have q:=hk.big;have A:m≠b:=X
 refine⟨λv c a8 z u=>∃j:Nat,z=(j:Int)/\v+j=WS ks/\j<=WS ks/\c=(DZ (ks.take j):Nat)/\a8=wP bb.ini (ks.take j)/\ay [] w u/\B.heap.size<=u.heap.size,WS ks,⟨0,I,X,bE _,I,I,i,bc _⟩,?_⟩;rintro v _ _ _ p ⟨j,rfl,Y,V,rfl,rfl,a,z1⟩;refine⟨λd=>?_,λd=>?_⟩
 .have d:=S d;obtain⟨ad,y,x,n,f,s,w,r,k⟩:=(ZH (cq aL D) Z hk a N).get (bf j) X;rw[aV]at f;obtain⟨b,rfl⟩:∃b,D=b+1:=by
   cases D with
   |zero=>exact k.elim
   |succ b=>exact⟨b,I⟩
  obtain⟨wA,wC,rT,T,rfl,_⟩:=k;have lF:=eg<|ks.take j;have qA:WS (ks.take j)<=j:=R
  refine⟨ad,n,_,_,_,_,wA,wC,rT,T,_,r,λk3 F AH wz G=>have z2:=G.size;⟨λc u=>c=(DZ (ks.take<|j+1):Nat)/\ay [] F u,?_,(EC F y.b.k).mono ?_⟩⟩
  .rintro _ e ⟨rfl,c⟩;have y:=c.size;refine⟨v-1,X,j+1,N0,X,X,I,?_,(a.bG G).bG c,X⟩;unfold wP;rw[aX,f,xa,jC];simp
  rintro _ y ⟨rfl,c⟩;obtain rfl:F=y:=c.symm;refine⟨_,I,Zm _ _,λhh=>⟨?_,qE _ _⟩,λhh=>⟨?_,qE _ _⟩⟩
  .rw[eI X X,Gf f,Q<|by intro e;rw[e]at hh;cases hh];rfl
  rw[Gf f,E VK];rfl
 have d:=aQ d;have oc:j=WS ks:=X
 subst oc;rw[bm (bc _)];have r:=h.o0 a;have G:∀u,((T u).toList==(ao #[]).toList)=JW (u=[]):=λu=>jC u [];refine(EC p bb.k).mono ?_;rintro _ w5 ⟨rfl,c⟩;obtain rfl:p=w5:=c.symm;refine⟨_,I,Zm _ _,λhh w6 y=>?_,λhh=>⟨λhp=>?_,λhp=>⟨λe=>?_,λe=>?_⟩⟩⟩
 .have z6:=y.size;have o6:=a.bG y;have h6:=h.o0 o6;have ff:vE xs bb ks n=bad (LU xs bb.dft&&oO xs (gr xs bb.dft) (Nx xs n)) 26 bb.a:=by unfold vE;rw[E hh]
  refine⟨_,Hl h6.lo.blk 0 I,(KF h6 bb.dft).mono ?_⟩;rintro _ w7 ⟨rfl,c⟩;obtain rfl:w6=w7:=c.symm;refine⟨_,I,Zm _ _,λu=>Lx u b m0 m1 F s xs vn (j5 f _)/\ay [b] w u,λu h=>⟨I,h.1,h.2⟩,λw9 fx=>have z9:=fx.size;have o9:=o6.bG fx;have T:=h.o0 o9;⟨λk=>k=m,I,(unP T<|by rcases Gb xs bb.dft with h|_<;>omega).mono ?_⟩⟩;rintro _ dh ⟨rfl,c⟩;obtain rfl:w9=dh:=c.symm;obtain⟨x,g⟩:=eW t;obtain⟨ad,a1,a2,a3,_⟩:=gK T.sp g;refine⟨_,I,Zm _ _,zR _ _,λhb=>⟨s,Hl T.lo.blk 1 I,s,Hl T.lo.blk 1 I,ad,a1,x.pa,a3,(CG T.sp T.fo _ x.pa).mono ?_⟩,λhb=>(oS T aL 26 bb.a).mono ?_⟩
  .rintro _ k ⟨rfl,c⟩;obtain rfl:w9=k:=c.symm;refine⟨_,I,Zm _ _,zR _ _,(oS T _ 26 bb.a).mono ?_⟩;rintro _ s ⟨rfl,f,b⟩;refine⟨I,b.same o,KG b A,?_,xW (D2 o9) b⟩;have n:aH xs (gr xs bb.dft) x.pa=oO xs (gr xs bb.dft) x.pa:=by rw[bM,Bs,sO]
   rw[ff,lz g,<-n,show LU xs bb.dft=aE from hb,cd];exact f
  rintro _ f ⟨rfl,x,b⟩;refine⟨I,b.same o,KG b A,?_,xW (D2 o9) b⟩;rw[ff,show LU xs bb.dft=aL from hb,dT];exact x
 .have hp:=Tu
  have f:vE xs bb ks n=bad (JW (bb.ini=[])&&JW (1<DZ ks)) 25 bb.a:=by unfold vE;simp_all
  rw[G,show JW ((DZ ks:Int)>1)=JW (1<DZ ks)from qo.2 X];refine(oS r _ 25 bb.a).mono ?_;rintro _ s ⟨rfl,k,b⟩;exact⟨I,b.same o,I,by rw[f];exact k,xW (D2 a) b⟩
 .have hp:=Tu
  have e:=S e;have f:vE xs bb ks n=bad (wP bb.ini ks) 25 bb.a:=by unfold vE;simp_all
  refine(oS r _ 25 bb.a).mono ?_;rintro _ s ⟨rfl,k,b⟩;exact⟨I,b.same o,I,by rw[f];exact k,xW (D2 a) b⟩
 have hp:=Tu
 have e:=aQ e;have s:vE xs bb ks n=bad (JW<|bb.ini=[]) 25 bb.a++bad (JW<|WS ks=0) 26 bb.a:=by unfold vE;simp_all
 rw[G];refine(oS r _ 25 bb.a).mono ?_;rintro _ iA ⟨rfl,b,f⟩;have F:=f.size;have x:((kids.n:Int)==0)=JW (WS ks=0):=R
 rw[x];refine⟨I,f.same o,(oS b _ 26 bb.a).mono ?_⟩;rintro _ T ⟨rfl,w,k⟩;exact⟨I,k.same o,I,by rw[s,gD];exact w,xW (xW (D2 a) f) k⟩
theorem atw u l:∃y a,(au 198 1 #[.mk 0 l.v]).run aq u=.ok (Sl.v y) a/\ay [] u a/\aA QP 1 a (λ_=>True) y [l]:=by
 let⟨y,a,k,b,k3,_⟩:=jP (P:=aq) (t:=198) (e:=23) (i:=t23) (z:=Sl.nil.v) (w:=u) (F:=λ_=>False) (vs:=[l.v]) (parts:=#[.mk 0 l.v]) (len:=1) (xs:=[l]) (r:=QP) (size:=1) Mi Mi I I Z I I Z Z wi ⟨⟨I,I⟩,trivial⟩;exact⟨y,a,k,k3,(b.slice wi).mono wi λ_ _=>trivial⟩
theorem atx u l m:∃y a,(au 198 2 #[.mk 0 l.v,.mk 1 m.v]).run aq u=.ok (Sl.v y) a/\ay [] u a/\aA QP 1 a (λ_=>True) y [l,m]:=by
 let⟨y,a,k,b,k3,_⟩:=jP (P:=aq) (t:=198) (e:=23) (i:=t23) (z:=Sl.nil.v) (w:=u) (F:=λ_=>False) (vs:=[l.v,m.v]) (parts:=#[.mk 0 l.v,.mk 1 m.v]) (len:=2) (xs:=[l,m]) (r:=QP) (size:=1) Mi Mi I I Z I I Z Z wi ⟨⟨I,I⟩,⟨I,I⟩,trivial⟩;exact⟨y,a,k,k3,(b.slice wi).mono wi λ_ _=>trivial⟩
theorem ei:∀D {w:av} {x:Nd} {c:aI} {f:Ft} {n:Nat},pq aL D w G x c->(∀k,G k->k≠b)->Lx w b m0 m1 F s xs vn f->n+iI x<=(WS xs)->ml x<=8388608->
  az aq 57 #[ae (aM ⟨b,0,VM⟩),ah c.toArray,O U n] w λr w'=>r=ak (O U ((n+iI x:Nat):Int))/\Lx w' b m0 m1 F s xs vn (j5 f<|QJ xs vn n x)/\ay [b] w w'
 |0,_,_,_,_,_,h,_,_,_,_=>h.elim
 |D+1,w,.mk h i,c,f,n,M,hG,l,hn,P=>by
  let B:=M;let⟨x,L,mv,kids,Q,⟨r,C,E⟩,H⟩:=M;have hk:=H.1;have r:=r.1;have C:=C.1;have E:=E.1;clear H;dsimp only[Nd.kids,Nd.b]at hk Q r C E;subst Q;rw[iI]at hn;rw[ml]at P;have K:=P;unfold yK at K;have:=iz h.en;have:=iz h.lv;have:=hk.len;have:=E.len;have:=l.ln;have:=E.cap;have:=E.big;have:=qI i;refine ret<|aAo ?_;intro k0 V H dC T;have:=T.size;have:=l.lo.lt;have:k0≠b:=X
  let tr:∀{u v:av},ay [b] w u->ay [b] u v->ay [b] w v:=λl g=>xW l g;refine(aaF ((cq aL<|D+1).keep B λk hk j=>T.block k j N) hG (l.o0 T) (n:=n) X).mono ?_;rintro _ w1 ⟨rfl,h1,t⟩;have:=t.size;let⟨y,w2,p1,q,p3⟩:=atx w1 x L;have:=q.size;let o2:=(tr (D2 T) t).bG q;have:∀{u:av} {sl:Sl} {m:J Ac},aA (wI aL) 9 w G sl m->ay [b] w u->aA (wI aL) 9 u G sl m:=λhs hO=>ZH (dU aL) Z hs hO A;refine⟨I,t.same o,y,w2,p1,q.same o,(yo (l:=[(x,h.en),(L,h.lv)]) p3 (λp z=>?_) ?_ hG<|h1.o0 q).mono ?_⟩
  .grind
  .unfold qY;simp;omega
  rintro _ w3 ⟨rfl,h3,cN⟩;have:=cN.size;let G:qY [(x,h.en),(L,h.lv)]=h.en++h.lv:=by unfold qY;simp
  rw[G]at h3;refine⟨I,cN.same o,λkv aS u=>∃g:Nat,aS=(g:Int)/\kv+g=WS h.mv/\g<=WS h.mv/\Lx u b m0 m1 F s xs vn (j5 f<|vE xs h i n++(mD xs vn (h.en++h.lv)++(h.mv.take g).flatMap (Ez xs vn)))/\ay [b] w u/\V.heap.size<=u.heap.size,WS h.mv,
   ⟨0,I,X,bE _,by rw[cr,Dm,bq,gD];exact h3,tr o2 cN,X⟩,?_⟩
  rintro kv _ w4 ⟨g,rfl,me,hj,h4,o4,z4⟩;refine⟨λv=>?_,λv=>?_⟩
  .have v:=S v;let⟨ad,a,ds,a1,a2,a3,a4,a5,a6⟩:=(ZH (nX aL) Z E o4 A).get (bf g) X;rw[aV]at a2;obtain⟨gc,w,tg,rfl,e,y,ob⟩:=a6;obtain⟨gs,rfl⟩:=fK e;let y:=y.1;let ob:=ob.1;have aT:=oP<|be a2;unfold He at aT;have:=iz a.acts;have:=wh a.tg;have:=h4.lo.lt;refine⟨ad,a1,_,_,_,_,_,_,_,_,gs,_,w,tg,_,a5,λk3 w5 AH wz f=>?_⟩;have:=f.size;let F:k3≠b:=X
   refine(oS (h4.o0 f) (NA a) 28 a.a).mono ?_;rintro _ w6 ⟨rfl,h6,s⟩;have:=s.size;let⟨d,bv⟩:=e;refine⟨I,s.same o,(KH d ((mz aL d).keep bv λk hk j=>?_) hG h6).mono ?_⟩
   .exact(s.block k X T5).trans (f.block k j N)
   rintro _ w7 ⟨rfl,h7,fu⟩;have:=fu.size;let⟨y8,w8,q1,d,q3⟩:=atw w7 w;have:=d.size;let s7:ay [b] w5 w7:=xW s fu;let s8:ay [b] w4 w8:=(xW (D2 f) s7).bG d;refine⟨I,fu.same o,y8,w8,q1,d.same o,(yo (l:=[(w,a.acts)]) q3 (λp z=>?_) ?_ hG<|h7.o0 d).mono ?_⟩
   .simp only[bh]at z;subst z;exact ZH (dU aL) Z y s8 A
   .unfold qY
    grind
   rintro _ w9 ⟨rfl,h9,fx⟩;have:=fx.size;let G:qY [(w,a.acts)]=a.acts:=by unfold qY;simp
   rw[G]at h9;refine⟨I,fx.same o,λdh dy=>⟨λk=>k=k3,I,have:=dy.size;let I8:ay [b] w4 dh:=(xW s8 fx).bG dy;(ajR (h9.o0 dy) (ZH dI Z ob I8 A) X).mono ?_⟩⟩;rintro _ dE ⟨rfl,p⟩;have:=p.size;refine⟨_,I,p.same o,ZX p,(oS ((h9.o0 dy).o0 p) _ 27 a.a).mono ?_⟩;rintro _ ey ⟨rfl,qj,eG⟩;have:=eG.size;refine⟨I,eG.same o,KG eG F,kv-1,X,g+1,N0,X,X,?_,tr o4<|xW (I8.bG p) eG,X⟩;let e1:(h.mv.take<|g+1).flatMap (Ez xs vn)=(h.mv.take g).flatMap (Ez xs vn)++Ez xs vn a:=by
    rw[aX,a2,kj];simp
   let e2:vE xs h i n++(mD xs vn (h.en++h.lv)++((h.mv.take g).flatMap (Ez xs vn)++Ez xs vn a))=(vE xs h i n++(mD xs vn (h.en++h.lv)++(h.mv.take g).flatMap (Ez xs vn)))++Ez xs vn a:=R
   rw[e1,e2,gD,Ez,gD,gD,gD];exact qj
  let v:=aQ v;have p:g=WS h.mv:=X
  subst p;rw[bm (bc _)]at h4;refine⟨λkv a aS u=>∃g:Nat,aS=(g:Int)/\kv+g=WS i/\g<=WS i/\a=((n+1+dY (i.take g):Nat):Int)/\Lx u b m0 m1 F s xs vn (j5 f<|vE xs h i n++(mD xs vn (h.en++h.lv)++(h.mv.flatMap (Ez xs vn)++qX xs vn (n+1) (i.take g))))/\ay [b] w u/\V.heap.size<=u.heap.size,WS i,
   ⟨0,I,X,X,N0,by rw[cr,qX,bq];exact h4,o4,z4⟩,?_⟩
  rintro kv _ _ ff ⟨g,rfl,me,hj,rfl,xq,d,Yl⟩;refine⟨λv=>?_,λv=>?_⟩
  .have v:=S v;let⟨ad,y,ds,s,a2,F,a4,w,b⟩:=(ZH (cq aL D) Z hk d A).get (bf g) X;rw[aV]at a2;let f:=b;obtain⟨a,rfl⟩:∃a,D=a+1:=by
    cases D with
    |zero=>exact b.elim
    |succ a=>exact⟨a,I⟩
   obtain⟨wA,wC,rT,ji,rfl,_⟩:=f;have:=mQ a2;have:=qJ<|be a2;refine⟨ad,s,_,_,_,_,wA,wC,rT,ji,_,w,λk7 fS co ce dQ=>have:=dQ.size;have:=xq.lo.lt;(ei (a+1) ((cq aL<|a+1).keep b λk _ j=>dQ.block k j N) hG (xq.o0 dQ) (n:=n+1+dY (i.take g)) X X).mono ?_⟩;rintro _ gz ⟨rfl,HO,ik⟩;have:=ik.size;let e:i.take (g+1)=i.take g++[y]:=Nl
   refine⟨_,I,ik.same o,kv-1,X,g+1,N0,X,X,?_,?_,tr (d.bG dQ) ik,X⟩
   .have:dY (i.take<|g+1)=dY (i.take g)+iI y:=by rw[e,Bg,dY,dY];omega
    omega
   let k:vE xs h i n++(mD xs vn (h.en++h.lv)++(h.mv.flatMap (Ez xs vn)++(qX xs vn (n+1) (i.take g)++QJ xs vn (n+1+dY (i.take g)) y)))=(vE xs h i n++(mD xs vn (h.en++h.lv)++(h.mv.flatMap (Ez xs vn)++qX xs vn (n+1) (i.take g))))++QJ xs vn (n+1+dY (i.take g)) y:=R
   rw[e,F3,qX,qX,bq,k,gD];exact HO
  let v:=aQ v;have p:g=WS i:=X
  subst p;rw[bm (bc _)]at xq⊢;refine⟨?_,P9,d⟩;rw[iI]
  grind
end
def kU(c:Ch):Ft:=if(jA c).2≠0 then((jA c).2, -1)else j5 (0,0) (Bj c)
def ph2{w}{F}{D}{c}{vs}{cs}(h:ChR aL (D+1) w F c vs cs)(K:Jd c)(L:oQ c.vars+ml c.root<=8388608)(C:Er w)(H:Tb w):
  az aq 25 #[ah (vs.v::cs).toArray] w λe W=>e=ak (ah #[O U (kU c).1,O U (kU c).2])/\ay [] w W:=by
 have r:=h.root;let⟨l,s,mv,kids,M,_⟩:=h.root;subst M;refine ret (aAa ?_);intro Q V w0 fH Y kZ jl d;have z0:=d.size;have keep:∀{u:av},ay [] w u->ChR aL (D+1) u F c vs (uY c.root.b.k c.root.b.nm c.root.b.ini c.root.b.dft l s mv kids c.root.b.a):=λm=>⟨h.vars.keep fI Z λk _ J=>m.block k J N,(cq aL _).keep h.root λk _ J=>m.block k J N⟩
 refine(jx (keep d) K L (C.only d) (H.only d)).mono ?_;rintro _ a ⟨⟨t,rfl,j,_⟩,i⟩;have z1:=i.size;have z:=d.bG i;refine⟨_,_,I,i.same o,λhc w2 B=>?_,λhc=>?_⟩
 .have hc:(jA c).2≠0:=WH
  unfold kU;rw[E hc];exact⟨I,z.trans B λk hk=>.inr QT⟩
 have hc:(jA c).2=0:=WH
 have bY:kU c=j5 (0,0) (Bj c):=by unfold kU;grind
 rw[bY];have j:=j hc;have co:=CF hc;let⟨r3,aS,cN⟩:=QS (P:=aq) (mty:=111) (kv:=kS) (g:=gS) a;have el:=aS.lt;refine⟨_,_,r3,cN.same o,?_⟩;generalize a.alloc (.map #[] 0)=w3 at*
 let⟨r4,aT,dB⟩:=QS (P:=aq) (mty:=111) (kv:=kS) (g:=gS) w3;have eQ:=aT.lt;have z3:=cN.size;refine⟨_,_,r4,dB.same o,?_⟩;intro b w5 hb qN dV yp;have z5:=dV.size;have o5:=((z.bG cN).bG dB).bG dV;have ce:Lo w5 b a.heap.size w3.heap.size Sl.nil [] [] (0,0):=⟨yp,(((aS.only dB N).only dV N).ext λk=>I).le X,((aT.only dV N).ext λk=>I).le X,X,X⟩
 have bV:pq aL (D+1) w (λk=>k<w.heap.size) c.root (uY c.root.b.k c.root.b.nm c.root.b.ini c.root.b.dft l s mv kids c.root.b.a):=(cq aL _).mono ((cq aL _).inHeap r) X;have bv:aA Wd 3 w (λk=>k<w.heap.size) vs c.vars:=(h.vars.1.inHeap fI Z).mono fI X;refine(ef (D+1) ((cq aL _).keep bV λk hk J=>o5.block k J N) X ce (E7 ..) X R).mono ?_;rintro _ w6 ⟨rfl,s6,R0,dO,m6⟩;have z6:=m6.1.size;rw[cJ,((Nz 0 (-1) 0 c.root).symm)]at R0;have p6:aD (λk=>a.heap.size<=k) w w6:=(o5.p0).trans m6.1 R;have cC:bX [Q,V] w5 w6:=m6.1.same R;have fd:=bv.len;have gE:=Bq c.vars;refine⟨I,cC,_,s6,_,_,_,R0.blk,λkv gG p gO q x y u=>∃(e:Nat) (f:Ft),gG=(e:Int)/\kv+e=WS c.vars/\e<=WS c.vars/\p=aM a.heap.size/\q=aM w3.heap.size/\f=(x,y)/\Lo u b a.heap.size w3.heap.size gO ((cQ c).map λx:dz=>x.nm) ((Io c).take e) f/\f=j5 (0,0) (wO [] (DB c.root)++wO [] ((c.vars.take e).map λv=>(v.n,v.a)))/\aD (λk=>a.heap.size<=k) w u/\aD (λk=>k=b∨k=w3.heap.size) w6 u,WS c.vars,
  ⟨0,_,I,X,bE _,I,I,I,R0,by rw[cr,lV,wO,bq],p6,V8 _ _⟩,?_⟩
 rintro kv _ _ l2 _ _ _ w7 ⟨e,f,rfl,me,hj,rfl,rfl,hf,B5,am,p7,aC⟩;have z7:=aC.size;refine⟨λJ=>?_,λqk=>?_⟩
 .have J:=S J;let⟨ad,v,y,t,g,a3,a4,w,n⟩:=(Zz fI Z bv p7 X).get (bf e) X;rw[aV]at g;have n:y=[ab (T v.n),O U v.v,O U v.a]:=n;subst n;have Df:=xV (be g);have p:gS v.n:=by
   show (WS v.n)<=maxLen;have:maxLen=9223372036854775807:=I;omega
  have P:WS ((Io c).take e)=e:=by rw[dj];unfold Io;grind
  refine⟨ad,t,_,_,_,w,λk5 w8 tA Az D xp=>?_⟩;have z8:=D.size;have G:=B5.lt;have q:=aaA (B5.o0 D) p v.a;rw[P]at q;refine q.mono ?_;rintro _ w9 ⟨rfl,f,x⟩;have z9:=x.size;have ev:(Io c).take (e+1)=(Io c).take e++[v.n]:=by
   rw[aX];unfold Io;simp_all
  refine⟨I,x.same o,_,_,_,_,_,f.blk,kv-1,X,e+1,_,N0,X,X,I,I,I,by rw[ev];exact f,?_,(p7.bG D).trans (x.p (F:=λk=>a.heap.size<=k) R) X,(aC.bG D).trans (x.p (F:=λk=>k=b∨k=w3.heap.size) A) X⟩;rw[am,<-gD];have ed:wO [] ((c.vars.take (e+1)).map λv=>(v.n,v.a))=wO [] ((c.vars.take e).map λv=>(v.n,v.a))++bad (!JW (v.n∈(Io c).take e)) 24 v.a:=by
   rw[aX,g,cK,Bi,cJ];simp only[Option.toList,ch,lV,wO,bq,gV];unfold Io;rw[<-mg];rfl
  grind
 have qk:=aQ qk;have oc:e=WS c.vars:=X
 subst oc;intro v y pz n0 n1;have Ja:=y.size;have D:(Io c).take (WS c.vars)=Io c:=bm (by unfold Io;simp_all);rw[D]at B5;rw[bm (bc _)]at am;have g:Lo v b a.heap.size w3.heap.size t ((cQ c).map λx:dz=>x.nm) (Io c) f:=B5.lD y R;have p:=p7.trans (y.p (F:=λk=>a.heap.size<=k) R) X;have T:aA nS 5 v (λk=>k<a.heap.size) t (cQ c):=by
  have f:ay [] a w5:=(cN.bG dB).bG dV;have b:=ZH cH Z ((j.sl.inHeap cH Z).mono cH (G:=λk=>k<a.heap.size) X) f N;have c:=Zz cH Z (Zz cH Z b m6.1 R) aC X;exact ZH cH Z c y R
 have hX:Lx v b a.heap.size w3.heap.size (λk=>k<a.heap.size) t _ _ f:=⟨g,T,Ey c,by unfold cQ;rw[lZ];exact co,X⟩
 refine(ei (n:=0) _ ((cq aL _).keep bV λk hk J=>p.block k J X) X hX (by unfold cQ;rw[lZ];omega) X).mono ?_;rintro _ dE ⟨rfl,P,q⟩;have Hi:=q.size;have hg:j5 f (QJ (cQ c) (Io c) 0 c.root)=j5 (0,0) (Bj c):=by
  rw[am,<-gD,bp];rfl
 rw[hg]at P;exact⟨_,I,q.same o,_,_,_,_,_,P.lo.blk,λey U _=>⟨I,(((p.mono X).trans (q.p (F:=λk=>w.heap.size<=k) R) λk hk=>.inl hk).only X).trans U A⟩⟩
def uj(l:L):Ft:=if(fg l).2.1=0 then kU (fg l).1 else(fg l).2
def Gh(l:L):Ch:=if(uj l).1=0 then(fg l).1 else GQ
def agk{w} l (F:Jd (fg l).1) (G:oQ (fg l).1.vars+ml (fg l).1.root<=8388608) (m:Er w) (B:Tb w):az aq 24 #[ab (T l)] w λe t=>
  ∃(s:Sl) (h:aI),e=ak (ai #[ah (s.v::h).toArray,ah #[O U (uj l).1,O U (uj l).2]])/\ChR aE 15 t (Fr w.heap.size) (Gh l) s h/\ay [] w t:=by
 refine jK<|az9 ?_;intro n p j S R X V d;have:=d.size;refine(tz l<|m.only d).mono ?_;rintro _ y ⟨s,h,rfl,C,g⟩;have:=g.size;let i:=d.bG g;obtain⟨J,L,M,K,rfl,_⟩:=C.root;refine⟨s,_,_,_,_,J,L,M,K,_,_,_,I,g.same o,λW k3 H yq Y P wz c=>?_⟩;have:=c.size;let r:=i.bG c;let q:∀{u:av},ay [] y u->ChR aE 15 u (Fr j.heap.size) (fg l).1 s _:=fun{u} hO=>
  ⟨C.vars.keep fI Z λk _ b=>hO.block k b N,(cq aE 15).keep C.root λk _ b=>hO.block k b N⟩
 let f:∀{u v:av},ay [] w u->ay [p,n] u v->ay [] w v:=λz A=>z.trans A λx hx=>.inr OS;refine⟨λa b u=>(a,b)=uj l/\ay [] y u/\H.heap.size<=u.heap.size,?_,λhc=>?_,λhc=>⟨?_,c,bc _⟩⟩
 .rintro a b w3 ⟨he,v,z3⟩;let e:(uj l).1=a:=by rw[<-he]
  let U:(uj l).2=b:=by rw[<-he]
  refine⟨λhc w4 dB n1 n2 D n4 O n6=>⟨λk=>k=k3,I,?_,?_,λw5 dV=>⟨Sl.nil,_,by rw[e,U],?_,f ((i.bG v).bG dB) dV⟩⟩,λhc w6 T n1 n2 D n4 O n6=>⟨λk=>k=k3,I,?_,?_,λw7 x=>⟨s,_,by rw[e,U],?_,f ((i.bG v).bG T) x⟩⟩⟩
  .exact λa=>D a
  .exact λa=>O a
  .have hc:a≠0:=WH
   rw[Gh,e,Q hc];exact⟨Wc ..,Ti Z w5 _⟩
  .exact λa=>D a
  .exact λa=>O a
  let hc:=WH
  rw[Gh,e,E hc];let a:=q<|v.bG T;let l:∀k,Fr j.heap.size k->k∉[p,n]:=λk hk=>o
  let lo:=λk (hk:j.heap.size<=k)=>(by omega:w.heap.size<=k)
  exact⟨(a.vars.keep fI Z λk hk b=>x.block k b<|l k hk).mono fI lo,(cq aE 15).mono ((cq aE 15).keep a.root λk hk b=>x.block k b<|l k hk) lo⟩
 .have hc:(fg l).2.1=0:=WH
  refine(ph2 (D:=14) (q c).off F G (m.only r)<|B.only r).mono ?_;rintro _ w ⟨rfl,a⟩;have:=a.size;refine⟨_,_,I,a.same o,λe b=>⟨?_,?_,by have:=b.size;omega⟩⟩
  .rw[uj];rw[E hc]
  exact(c.bG a).trans b λx hx=>.inr H2
 rw[uj,Q WH]
def Gp(l:L):C:=Uq (fg l).1&&aBx (fg l).1
def alA{l}(h:Gp l=aE):Jd (fg l).1/\oQ (fg l).1.vars+ml (fg l).1.root<=8388608:=by
 rw[Gp,aO]at h;exact⟨aBw h.1,S h.2⟩
end Con
namespace Go.Kt
open Go Go.RowKit Go.ChangeShapes Go.WideShapes
def rPair{a b:Type}(r:Rp a)(q:Rp b):Rp (a×b):=λw F x s=>∃c d,s=c++d/\r w F x.1 c/\q w F x.2 d
def rUnit:Rp Unit:=λ_ _ _ c=>c=[]
def Gi:Rp C:=λ_ _ b c=>c=[.bool b]
def sQ:Gi.Ok where
 keep h _:=h
 inHeap h:=h
 mono h _:=h
 one h v hv:=by
  rw[show _=[Value.bool _]from h]at hv;simp at hv;subst hv;rfl
section
variable{H:Type}{enc:TypeId×aw->H}{P:Program}
theorem zN(l:laidOutB P=aE){W W'}{sp}(h:Below W.heap.size W W'):∀{a:J TypeId} {b:J aw} {s:J _} {ps:J MemPlace},
  (∀t∈a,P.readableRec t=aE/\t<P.types.size)->DataW.TrodAll enc P W 0 (λ_=>aE) aE a b s ps->(∀x∈ps,x.block<W.heap.size)->(∀x∈ps,sp x.block=aE)->DataW.TrodAll enc P W' 0 sp aE a b s ps
 |[],b,s,ps,_,c,_,_=>by
  obtain⟨rfl,rfl,rfl⟩:=trodAll_nil c;exact trodAll_mk0
 |t::a,b,s,ps,r,e,m,P=>by
  obtain⟨v,k,d,c,p,q,rfl,rfl,rfl,f,g⟩:=trodAll_cons e;let⟨i,j⟩:=r t N;exact trodAll_cons_mk (WideElems.Trod_stays l i j f (λx n=>h.same R) R)
   (zN l h R g R R)
def law_post{f}{s:ChangeSpec}{fresh handsOn again}{W W'}{args}{ds gs}{before}{tb}
  (d:DataW.Whole enc P f.params.toList s.vars aL W args.toList ds gs before) (i:s.vars=[])
  (v:(s.fn H<|ds++gs).results=[.lit (.bool aE)]) (h:(s.fn H<|ds++gs).args=ds) (D:(s.fn H<|ds++gs).vars=[])
  (c:f.resultTypes=#[tb]) (u:P.underlying tb=aM .bool) (l:laidOutB P=aE) (n:(f.params.toList.all λt=>P.readableRec t&&JW (t<P.types.size))=aE) (O:Only [] W W'):
  s.post enc P f aL fresh handsOn again W args (.bool aE) W':=by
 have e:=O.below (bc _) N;have J:=λp hp=>d.lt p hp;obtain⟨p,q,k,g,rfl,z,m⟩:=id d;rw[i]at g;obtain⟨rfl,rfl⟩:=trodVars_none g;rw[bq]at*
 have A:∀sp,_->DataW.TrodAll enc P W' 0 sp aE f.params.toList args.toList (s.fn H ds).args p:=λsp j=>by
  rw[h];exact zN l e (λt c=>by simpa using gv.1 n t c) k (λx hx=>by simpa using J x hx) j
 have V:∀sp,DataW.TrodVars enc P W' sp s.vars (s.fn H ds).vars []:=λsp=>by
  rw[i,D];simp[DataW.TrodVars]
 have a:∀b sp hd,DataW.TrodAll enc P W' b sp hd f.resultTypes.toList ((Value.bool aE).resultList f.resultTypes.size) (s.fn H ds).results []:=λb sp hd=>by
  rw[v,c];exact trodAll_cons_mk (shut_bool u aE) trodAll_mk0
 have o:∀x∈p,(λb=>decide _) x.block=aE:=λx hx=>by simpa using J x hx
 refine⟨ds,[],p,[],p,[],d,by simpa using a _ _ _,R,by simpa using V _,World.keptBut_mono (λx hx=>⟨hx,ND⟩)<|e.frame _,λ_=>⟨ok_one c I<|okWide_bool_mk u aE,_,_,_++[],⟨[]++p,[],trodAll_append (A _<|λ_ _=>I)<|a _ _ _,V _,I,?_,?_⟩,?_⟩⟩
 .intro b off hp;have hp:=Tu
  rw[e.frozen (p:=_) (J _ hp)];exact z b off hp
 .grind
 simp_all
variable{W:av}{base:Nat}{spare:Nat->C}{held:C}{α:Type}
def Iu(e:TypeId×aw->H)(P:Program)(W:av)(base:Nat)(spare:Nat->C)(held:C)(t:TypeId)(r:Rp α):=
 ∀fT c x,DataW.trod e P W base spare held fT t c=aM x->(∀n,n∈x.1.weights P t->n<=reachBytes)->∃a,r W (λ_=>True) a c
theorem opens_int{t}(a:P.underlying t=aM (.int .i64)):Iu enc P W base spare held t rInt:=λfT c x h _=>by
 obtain⟨n,rfl,rfl,w⟩:=DataW.trod_int a h;refine⟨n,I,?_⟩;simpa[Lit.wf,IntKind.min,IntKind.max,IntKind.signed,IntKind.bits,ri]using w
def rSl(r:Rp α)(i bytes:Nat):Rp (J α):=λw F x c=>∃s,c=[s.v]/\SliceF r i w F s x/\WS x*bytes<=140737488351232
theorem exT{e}:∀{l:J _} {d:DataW H},d∈l->∀n,n∈d.weights P e->n∈DataW.weightsAll P e l
 |a::l,d,hd,n,h=>by
  simp[DataW.weightsAll,cZ];rcases ba.1 hd with rfl|hd
  .exact .inl h
  exact .inr<|exT hd n h
 |[],d,hd,_,_=>by simp at hd
theorem u5{a:Type}{p:Nat->a->Prop}:∀n,(∀i<n,∃b,p i b)->∃l:J a,WS l=n/\∀i b,l[i]? =aM b->p i b
 |0,_=>⟨[],I,λi b h=>YI⟩
 |n+1,h=>by
  let⟨l,d,e⟩:=u5 n λi j=>h i X;let⟨b,f⟩:=h n X;refine⟨l++[b],by simp[d],λi c g=>?_⟩
  grind
theorem Iu.map{β}{t}{r}{q}(h:Iu enc P W base spare held t r)(f:α->β)(e:∀a c,r W (λ_=>True) a c->q W (λ_=>True) (f a) c):Iu enc P W base spare held t q:=λfT c x b w=>by
 let⟨a,d⟩:=h fT c x b w
 grind
theorem adB{t}(a:P.underlying t=aM .bool):Iu enc P W base spare held t Gi:=λfT c x h _=>by
 obtain⟨b,rfl,rfl⟩:=DataW.trod_bool a h;exact⟨b,I⟩
theorem weights_of{ts}{ds}(h:(DataW.weightsEach P ts ds).all (· <=reachBytes)=aE)(j:Nat){t}{d:DataW H}(b:ts[j]? =aM t)(hd:ds[j]? =aM d):∀n,n∈d.weights P t->n<=reachBytes:=
 λn a=>by simpa using gv.1 h n (DataW.weights_mem_each b hd n a)
end
structure IsBulk {H:Type} (B:DataW H->Nat):Prop where
 one:∀d,1<=B d
 sl:∀e s,(e.map B).sum+1<=B (.slice e s)
 str:∀b,WS b+1<=B (.lit (.string b))
 agg:∀p,(p.map B).sum+1<=B (.agg p)
 ptr:∀d,B d+1<=B (.ptr d)
 iface:∀t d,B d+1<=B (.iface t d)
section
variable{H:Type}{enc:TypeId×aw->H}{P:Program}{W:av}{base:Nat}{spare:Nat->C}{held:C}{α β:Type}{B:DataW H->Nat}
def My:Rp ByteArray:=λ_ _ s c=>c=[.string s]/\s.size<=140737488351232
def kY(B:DataW H->Nat)(e:TypeId×aw->H)(P:Program)(W:av)(base:Nat)(spare:Nat->C)(held:C)(t:TypeId)(r:Rp α)(m:α->Nat):=
 ∀fT c x,DataW.trod e P W base spare held fT t c=aM x->(∀n,n∈x.1.weights P t->n<=reachBytes)->∃a,r W (λ_=>True) a c/\m a<=B x.1
theorem opensB_of(b:IsBulk B){t}{r:Rp α}(h:Iu enc P W base spare held t r):kY B enc P W base spare held t r λ_=>1:=λfT c x e w=>by
 let⟨a,d⟩:=h fT c x e w;exact⟨a,d,b.one _⟩
theorem mE(b:IsBulk B){t}(c:P.underlying t=aM .string):kY B enc P W base spare held t My λs=>s.size+1:=λfT d x h w=>by
 obtain⟨s,rfl,rfl,f⟩:=DataW.trod_string c h;have a:=w _ (by simp;exact iB);let e:WS s.data.toList=s.size:=I;simp[e,reachBytes]at a;refine⟨s,⟨I,?_⟩,?_⟩
 .omega
 have:=b.str s.data.toList;exact this
theorem ek{p}{g:Nat->Nat}:∀{l:J α} {o:Nat},(∀i b,l[i]? =aM b->p b<=g (o+i))->(l.map p).sum<=((List.range<|WS l).map λi=>g<|o+i).sum
 |[],_,_=>N
 |a::l,o,h=>by
  rw[aY,List.range_succ_eq_map,ch,ch,fm,fm,gV];let d:=ek (p:=p) (g:=g) (l:=l) (o:=o+1) λi b c=>by
   have:=h (i+1) b c
   grind
  refine pj (h 0 a I)<|bC d<|Nat.le_of_eq ?_;congr 1;refine xb λi _=>?_;congr 1;omega
theorem opensB_slice(d:IsBulk B){t e}{r:Rp α}{m}{size}(c:P.underlying t=aM (.slice e))(u:P.cellsOf e=size){bytes}(h:P.bytesOf e=bytes)(i:kY B enc P W base spare held e r m):
  kY B enc P W base spare held t (rSl r size bytes) λz=>(z.map m).sum+1:=λfT A x f w=>by
 subst u;rcases Deep.open_slice c f with⟨rfl,rfl⟩|⟨a,len,cap,y,n,D,Pl,rfl,_,j,q,s,rfl,l⟩
 .exact⟨[],⟨Sl.nil,I,WB ..,N⟩,d.one _⟩
 let L:len<=y:=R
 let C:∀t<len,∃b,(∃H,WS H=P.cellsOf e/\Cells W _ H/\r W _ b H)/\m b<=B _:=λt M=>by
  let⟨H,g,a⟩:=l t X;let⟨_,e,m⟩:=World.cells?_some g;let⟨b,o,p⟩:=i n H _ a λk hk=>w k (by
   simp[DataW.weights,c,ba,cZ];exact .inr<|.inl<|exT R k hk)
  refine⟨b,⟨H,e,λJ v G=>?_,o⟩,p⟩;rw[m J R];exact G
 let⟨E,F,K⟩:=u5 len C;refine⟨E,⟨⟨aM a,len,cap⟩,I,⟨F.symm,j,R,q,λJ x G=>?_⟩,?_⟩,?_⟩
 .simp_all
 .have:=w _ (by simp only[DataW.weights,c];exact iB);rw[h]at this;simp[bP,AK,reachBytes]at this
  grind
 refine bC (XN ?_)<|d.sl _ _;have a:=ek (p:=m) (g:=λt=>B _) (l:=E) (o:=0) λt b h=>by
  rw[bS];exact(K t b h).2
 rw[F]at a;simpa[Function.comp_def]using a
def KI(B:DataW H->Nat)(e:TypeId×aw->H)(P:Program)(W:av)(base:Nat)(spare:Nat->C)(held:C)(T off:Nat)(b:J Field)(r:Rp α)(m:α->Nat):=
 ∀n (c:J aw) (s:J _),WS c=T->WS s=(WS b)->
  (∀(i:Nat) f,b[i]? =aM f->DataW.trod e P W base spare held n f.type ((c.drop f.offset).take<|P.cellsOf f.type)=s[i]?)->
  (∀(i:Nat) f x,b[i]? =aM f->s[i]? =aM x->∀k,k∈x.1.weights P f.type->k<=reachBytes)->∃a,r W (λ_=>True) a (c.drop off)/\m a<=(s.map λx=>B x.1).sum
theorem foB_nil{T off}(h:T=off):KI B enc P W base spare held T off [] rUnit λ_=>0:=λn c x l _ _ _=>⟨(),by
 exact Ec X,bE _⟩
theorem foB_cons{T off s}{f}{fs}{r:Rp α}{q:Rp β}{m}{m'}(o:f.offset=off)(j:P.cellsOf f.type=s)(i:kY B enc P W base spare held f.type r m)(e:KI B enc P W base spare held T (off+s) fs q m'):
  KI B enc P W base spare held T off (f::fs) (rPair r q) λx=>m x.1+m' x.2:=λn d c l hx h w=>by
 cases c with
 |nil=>simp at hx
 |cons x c=>
  have p:=h 0 f I;rw[o,j]at p;let⟨a,q,P⟩:=i n _ x p R;let⟨b,r,N⟩:=e n d c l ND (λm g k=>h (m+1) g k)<|λm g y k s=>w (m+1) g y k s;exact⟨(a,b),⟨_,_,by rw[<-jG,eS],q,r⟩,pj P N⟩
theorem opensB_struct(d:IsBulk B){t}{fs}{T}{r:Rp α}{m}(h:P.underlying t=aM (.struct fs))(g:P.cellsOf t=T)(e:KI B enc P W base spare held T 0 fs.toList r m):kY B enc P W base spare held t r λx=>m x+1:=λfT c x b w=>by
 obtain⟨s,n,rfl,rfl,q,L,o⟩:=DataW.trod_struct h b;let⟨a,l,F⟩:=e n c s X P9 R (λi f x p u k hk=>w k (by
  simp[DataW.weights,h];refine DataW.weights_mem_each (j:=i) ?_ A k hk;simp_all))
 refine⟨a,P9,bC (XN F) ?_⟩;have:=d.agg (s.map (·.1));rwa[gV]at this
theorem kY.map{t}{r}{q}{m}{m'}(h:kY B enc P W base spare held t r m)(f:α->β)(e:∀a c,r W (λ_=>True) a c->q W (λ_=>True) (f a) c/\m' (f a)<=m a):kY B enc P W base spare held t q m':=λfT c x b w=>by
 let⟨a,d,F⟩:=h fT c x b w
 grind
theorem argB_slice{t e}{r}{m}{size bytes}{b0}{v}{d}{p}(g:P.underlying t=aM (.slice e))(k:Value.okWide P W .any b0 t v)(c:DataW.Trod enc P W base spare held t v d p)
  (u:kY B enc P W base spare held t (rSl r size bytes) m) (w:∀n,n∈d.weights P t->n<=reachBytes):∃(s:Sl) (x:J α),v=s.v/\SliceF r size W (λ_=>True) s x/\m x<=B d:=by
 obtain⟨b,a,E,rfl⟩:=okWide_slice g k;let⟨fT,f⟩:=c;let⟨x,⟨s,h,i,j⟩,l⟩:=u fT _ _ f w;let h:[Value.slice b a E]=[s.v]:=h
 grind
theorem argB_struct{t}{fs}{r}{m}{b0}{v}{d}{p}(e:P.underlying t=aM (.struct fs))(k:Value.okWide P W .any b0 t v)(h:DataW.Trod enc P W base spare held t v d p)
  (u:kY B enc P W base spare held t r m) (w:∀n,n∈d.weights P t->n<=reachBytes):∃(a:α) (c:J aw),v=.agg c.toArray/\r W (λ_=>True) a c/\m a<=B d:=by
 obtain⟨c,rfl,_⟩:=okWide_struct e k;let⟨fT,f⟩:=h;let⟨a,b,F⟩:=u fT _ _ f w;exact⟨a,c.toList,N,b,F⟩
theorem sum_one:∀l:J α,(l.map λ_=>1).sum=WS l
 |[]=>rfl
 |_::l=>by rw[ch,fm,sum_one l,aY];omega
end
end Go.Kt
namespace Con
open Go Go.RowKit Go.Kt Go.Kt.V Vc Go.ChangeShapes Go.WideShapes
def QU{D E:Type}{B}{sz:E->Nat}{Q:Nat->E->Prop}:∀(s:J D) o,(∀j y,s[j]? =aM y->∃e,Q (o+j) e/\sz e<=B y)->
  ∃l:J E,WS l=WS s/\(∀j e,l[j]? =aM e->Q (o+j) e)/\(l.map sz).sum<=(s.map B).sum
 |[],o,_=>⟨[],I,λj p h=>YI,bc _⟩
 |x::s,o,h=>by
  obtain⟨e,b,c⟩:=h 0 x I;obtain⟨l,d,f,g⟩:=QU (B:=B) (sz:=sz) (Q:=Q) s _ λj y a=>by
   have:=h (j+1) y a;rwa[ez,qm 1 j]
  refine⟨e::l,A,λj p a=>?_,?_⟩
  .grind
  grind
def Gj{n}:∀{l:J Nat},n∈l->n<=l.sum
 |[],h=>YI
 |x::l,h=>by
  rw[fm];rcases ba.1 h with rfl|h
  .omega
  have:=Gj h;omega
def QV{E:Type}(f:E->Nat):∀(l:J E),∃m,∀p∈l,f p<=m
 |[]=>⟨0,R⟩
 |x::l=>by
  let⟨m,h⟩:=QV f l;refine⟨max (f x) m,λp a=>?_⟩
  grind
def TT{α β}{r:Rp α}{q:Rp β}{size}{w}{F}{s}{xs} f (h:aA r size w F s xs) (m:∀x c,x∈xs->r w F x c->q w F (f x) c):aA q size w F s (xs.map f):=by
 refine⟨by rw[bP];exact h.len,h.cap,h.nil0,h.big,λb y j=>?_⟩;rw[cP,gp]at j;obtain⟨x,a,rfl⟩:=j;let⟨d,c,g,e,i,k,l⟩:=h.at_ b x a
 grind
def Iv{α}{r}{size}{w}{F}{s}{xs}(h:aA r size w F s xs){x:α}(a:x∈xs):∃c,r w F x c:=h.mem a
def rXU:Rp (Ex×Nat):=λw F x c=>rE aL w F x.1 c/\Wf x.1/\Hc x.1<=x.2
def Iw:Rp (Ac×Nat):=λw F x c=>wI aL w F x.1 c/\Il x.1/\LV x.1<=x.2
def Iz:Rp (Mv×Nat):=λw F x c=>Nq aL w F x.1 c/\Ys x.1/\He x.1+2<=x.2
def aBy:Rp (Vr×Nat):=λw F x c=>Wd w F x.1 c/\ri x.1.v/\WS x.1.n+1<=x.2
def Cr:∀l,We l=(l.map Hc).sum
 |[]=>rfl
 |x::l=>by rw[We,ch,fm,Cr l]
def v8:∀l,lP l=(l.map LV).sum
 |[]=>rfl
 |x::l=>by rw[lP,ch,fm,v8 l]
def NQ:∀l,Ai l=(l.map He).sum
 |[]=>rfl
 |x::l=>by rw[Ai,ch,fm,NQ l]
def NR:∀l,oQ l=(l.map λv=>WS v.n+1).sum
 |[]=>rfl
 |x::l=>by rw[oQ,ch,fm,NR l]
def tl:∀l,jF l=(l.map ml).sum
 |[]=>rfl
 |x::l=>by rw[jF,ch,fm,tl l]
def ED{a:Type}{f}:∀{l:J (a×Nat)},(∀x∈l,f x.1<=x.2)->((l.map (·.1)).map f).sum<=(l.map λx=>x.2).sum
 |[],_=>bc _
 |x::l,h=>by
  exact pj (h x N)<|ED R
def TG(s:M):WS s.data.toList=s.size:=rfl
section
variable{H:Type}{enc:TypeId×aw->H}{W:av}{base:Nat}{spare:Nat->C}{held:C}{B:DataW H->Nat}
def IQ(e:TypeId×aw->H)(W:av)(base:Nat)(spare:Nat->C)(held:C)(t:TypeId):Rp (DataW H):=λ_ _ x c=>∃fT p,DataW.trod e aq W base spare held fT t c=aM (x,p)/\∀n,n∈x.weights aq t->n<=reachBytes
def B9(a:IsBulk B) t:kY B enc aq W base spare held t (IQ enc W base spare held t) B:=λfT c x h w=>⟨x.1,⟨fT,x.2,h,w⟩,X⟩
theorem aiN(h:IsBulk B):kY B enc aq W base spare held 74 (rPair rInt<|rPair rInt<|rPair My<|rPair rInt<|rPair (rSl (IQ enc W base spare held 74) 6 72)<|rPair rInt rUnit)
  λx=>(1+(1+((x.2.2.1.size+1)+(1+(((x.2.2.2.2.1.map B).sum+1)+(1+0))))))+1:=by
 let a:=opensB_struct (enc:=enc) (P:=aq) (W:=W) (base:=base) (spare:=spare) (held:=held) (T:=6) h underlying74 Mi
  (foB_cons (s:=1) I Mi (opensB_of h<|opens_int underlying3)<|foB_cons (s:=1) I Mi (opensB_of h<|opens_int underlying3)<|foB_cons (s:=1) I Mi (mE h underlying9)<|foB_cons (s:=1) I Mi (opensB_of h<|opens_int underlying3)<|foB_cons (s:=1) I Mi (opensB_slice (size:=6) (bytes:=72) h underlying72 Mi Mi<|B9 h _)<|foB_cons (s:=1) I Mi (opensB_of h<|opens_int underlying3)<|foB_nil I)
 exact a
def ep(b:IsBulk B):∀N {x:DataW H} {c:aI} {F:h},B x<=N->IQ enc W base spare held 74 W F x c->∃(e:Ex) (d:Nat),QD aL d W (λ_=>True) e c/\Wf e/\Hc e<=B x
 |0,x,c,F,a,_=>by have:=b.one x;omega
 |N+1,x,c,F,V,⟨fT,p,w,z⟩=>by
  obtain⟨⟨k,n,s,op,g,a,am⟩,v,t⟩:=aiN (enc:=enc) (W:=W) (base:=base) (spare:=spare) (held:=held) b fT c _ w z;obtain⟨K,r1,rfl,⟨rfl,C⟩,L,r2,rfl,⟨rfl,o⟩,M,r3,rfl,⟨rfl,D⟩,P,r4,rfl,⟨rfl,X⟩,S,r5,rfl,⟨sl,rfl,A,_⟩,T,J,rfl,⟨rfl,Y⟩,u⟩:=v;have u:J=[]:=u;subst u;dsimp only at t A C o D;have G:∀y∈g,B y<=(g.map B).sum:=λy i=>Gj R;obtain⟨l,E,r,Z⟩:=QU (B:=B) (sz:=λe:Ex×Nat=>Hc e.1) (Q:=λf e=>∃base c,sl.a=aM base/\WS c=6/\aB W (base.add _) c/\QD aL e.2 W _ e.1 c/\Wf e.1) g 0 λf y j=>by
   rw[bS];obtain⟨s,a,k,W,n,p,q⟩:=A.at_ f y j;obtain⟨e,d,B,F,Q⟩:=ep b N (x:=y) R q;exact⟨(e,d),⟨s,a,k,n,p,B,F⟩,Q⟩
  obtain⟨H,m⟩:=QV (λe:Ex×Nat=>e.2) l;refine⟨.mk k n s.data.toList op (l.map (·.1)) a,H+1,⟨sl,?_,?_,R⟩,λd=>?_,?_⟩
  .rfl
  .refine⟨by rw[Ex.dP,bP,E];exact A.len,A.cap,A.nil0,A.big,λf e j=>?_⟩;rw[Ex.dP,cP,gp]at j;obtain⟨q,d,rfl⟩:=j;obtain⟨s,k,n,p,a,x,y⟩:=r f q d;rw[bS]at a;exact⟨s,k,n,trivial,p,a,QE (m q<|be d) x⟩
  .cases d with
   |zero=>trivial
   |succ d=>
    refine⟨o,λy i=>?_⟩;obtain⟨q,e,rfl⟩:=dK.1 i;obtain⟨f,j⟩:=fk e;obtain⟨s,k,n,p,x,B,a⟩:=r f q j;exact a d
  show We _+_<=_;rw[Cr,gV,TG];have e:(l.map<|Hc∘λx=>x.1).sum=(l.map λe:Ex×Nat=>Hc e.1).sum:=I;omega
theorem zS(f:IsBulk B):kY B enc aq W base spare held 74 rXU λx=>x.2:=λfT s x h w=>by
 let⟨e,d,a,b,c⟩:=ep f _ (x:=x.1) (F:=λ_=>True) (bc _) ⟨fT,x.2,h,w⟩;exact⟨(e,B x.1),⟨⟨d,a⟩,b,c⟩,bc _⟩
theorem CI(h:IsBulk B):kY B enc aq W base spare held 201 Iw λx=>x.2:=by
 let b:=opensB_struct (enc:=enc) (P:=aq) (W:=W) (base:=base) (spare:=spare) (held:=held) (T:=9) h underlying201 Mi
  (foB_cons (s:=1) I Mi (opensB_of h<|opens_int underlying3)<|foB_cons (s:=1) I Mi (mE h underlying9)<|foB_cons (s:=6) I Mi (zS h)<|foB_cons (s:=1) I Mi (opensB_of h<|opens_int underlying3)<|foB_nil I)
 refine b.map (λx=>((⟨x.1,x.2.1.data.toList,x.2.2.1.1,x.2.2.2.1⟩),x.2.2.1.2+(x.2.1.size+1))) ?_;rintro⟨k,n,⟨e,q⟩,a,y⟩ l ⟨g,r,rfl,⟨rfl,m⟩,i,t,rfl,⟨rfl,o⟩,c,v,rfl,⟨d,f,z⟩,j,w,rfl,⟨rfl,p⟩,u⟩;subst u;refine⟨⟨⟨c,?_,d⟩,f,?_⟩,X⟩
 .rfl
 show Hc e+_<=_;simp_all
theorem QW{w}{F}{s}{xs}(b:aA Iw 9 w F s xs):lq aL (wI aL) 9 201 w F s (xs.map (·.1))/\(∀a,a∈xs.map (·.1)->Il a)/\lP (xs.map (·.1))<=(xs.map λx=>x.2).sum:=by
 refine⟨⟨TT _ b λx c _ h=>h.1,R⟩,λa d=>?_,?_⟩
 .obtain⟨x,h,rfl⟩:=dK.1 d;let⟨c,a⟩:=Iv b h;exact a.2.1
 rw[v8];exact ED λx h=>by
  let⟨c,a⟩:=Iv b h;exact a.2.2
theorem acY(b:IsBulk B):kY B enc aq W base spare held 77 Iz λx=>x.2:=by
 let h:=opensB_struct (enc:=enc) (P:=aq) (W:=W) (base:=base) (spare:=spare) (held:=held) (T:=13) b underlying77 Mi
  (foB_cons (s:=1) I Mi (opensB_of b<|opens_int underlying3) (foB_cons (s:=1) I Mi (mE b underlying9) (foB_cons (s:=1) I Mi (opensB_of b<|opens_int underlying3) (foB_cons (s:=1) I Mi (opensB_of b<|adB underlying4) (foB_cons (s:=6) I Mi (zS b)
  (foB_cons (s:=1) I Mi (opensB_slice (size:=9) (bytes:=104) b underlying23 Mi Mi<|CI b)<|foB_cons (s:=1) I Mi (opensB_slice (size:=1) (bytes:=16) b underlying75 Mi Mi<|mE b underlying9)<|foB_cons (s:=1) I Mi (opensB_of b<|opens_int underlying3)<|foB_nil I))))))
 refine h.map (λx=>((⟨x.1,x.2.1.data.toList,x.2.2.1,x.2.2.2.1,x.2.2.2.2.1.1,x.2.2.2.2.2.1.map (·.1),x.2.2.2.2.2.2.1.map λs=>s.data.toList,x.2.2.2.2.2.2.2.1⟩),(((x.2.2.2.2.2.1.map λx=>x.2).sum+x.2.2.2.2.1.2)+((x.2.2.2.2.2.2.1.map λs=>s.size+1).sum+(x.2.1.size+1)))+2)) ?_;rintro⟨k,ev,wt,J,⟨g,O⟩,w,c,a,am⟩ j ⟨y,Q,rfl,⟨rfl,L⟩,z,R,rfl,⟨rfl,M⟩,C,S,rfl,⟨rfl,p⟩,D,U,rfl,l,i,V,rfl,⟨m,n,K⟩,F,Y,rfl,⟨v,rfl,A,_⟩,G,Z,rfl,⟨t,rfl,q,_⟩,H,ff,rfl,⟨rfl,N⟩,u⟩;subst u l;let⟨d,f,r⟩:=QW A;let E:aA oK 1 W _ t _:=TT _ q λx j _ o=>by
  obtain⟨rfl,_⟩:=o;show _=[Value.string _]
  rw[<-UK x]
 refine⟨⟨⟨i,v,t,?_,m,d,⟨E,λh=>VI⟩⟩,⟨n,f,p⟩,?_⟩,X⟩
 .rfl
 show _+_+2<=_;let e:PB (c.map λs=>s.data.toList)=(c.map λs=>s.size+1).sum:=by
  unfold PB;rw[gV];congr 1
 rw[e,TG]
 grind
theorem alC{w}{F}{s}{xs}(b:aA Iz 13 w F s xs):lq aL (Nq aL) 13 77 w F s (xs.map (·.1))/\(∀a,a∈xs.map (·.1)->Ys a)/\Ai (xs.map (·.1))<=(xs.map λx=>x.2).sum:=by
 refine⟨⟨TT _ b λx c _ h=>h.1,R⟩,λa d=>?_,?_⟩
 .obtain⟨x,h,rfl⟩:=dK.1 d;let⟨c,a⟩:=Iv b h;exact a.2.1
 rw[NQ];exact ED λx h=>by
  let⟨c,a⟩:=Iv b h;exact bC X a.2.2
theorem rcv(h:IsBulk B):kY B enc aq W base spare held 115 aBy λx=>x.2:=by
 let b:=opensB_struct (enc:=enc) (P:=aq) (W:=W) (base:=base) (spare:=spare) (held:=held) (T:=3) h underlying115 Mi
  (foB_cons (s:=1) I Mi (mE h underlying9)<|foB_cons (s:=1) I Mi (opensB_of h<|opens_int underlying3)<|foB_cons (s:=1) I Mi (opensB_of h<|opens_int underlying3)<|foB_nil I)
 refine b.map (λx=>((⟨x.1.data.toList,x.2.1,x.2.2.1⟩),x.1.size+1)) ?_;rintro⟨n,v,a,m⟩ f ⟨c,r,rfl,⟨rfl,g⟩,d,k,rfl,⟨rfl,i⟩,e,l,rfl,⟨rfl,j⟩,u⟩;subst u;refine⟨⟨?_,i,?_⟩,X⟩
 .rfl
 exact bc _
theorem exl(h:IsBulk B):kY B enc aq W base spare held 27 (rPair rInt<|rPair My<|rPair My<|rPair My<|rPair (rSl Iw 9 104)<|rPair (rSl Iw 9 104)<|rPair (rSl Iz 13 168)<|rPair (rSl (IQ enc W base spare held 27) 9 160)<|rPair rInt rUnit)
  λx=>(1+((x.2.1.size+1)+((x.2.2.1.size+1)+((x.2.2.2.1.size+1)+(((x.2.2.2.2.1.map λx=>x.2).sum+1)+(((x.2.2.2.2.2.1.map λx=>x.2).sum+1)+(((x.2.2.2.2.2.2.1.map λx=>x.2).sum+1)+(((x.2.2.2.2.2.2.2.1.map B).sum+1)+(1+0)))))))))+1:=by
 let a:=opensB_struct (enc:=enc) (P:=aq) (W:=W) (base:=base) (spare:=spare) (held:=held) (T:=9) h underlying27 Mi
  (foB_cons (s:=1) I Mi (opensB_of h<|opens_int underlying3) (foB_cons (s:=1) I Mi (mE h underlying9) (foB_cons (s:=1) I Mi (mE h underlying9) (foB_cons (s:=1) I Mi (mE h underlying9)
  (foB_cons (s:=1) I Mi (opensB_slice (size:=9) (bytes:=104) h underlying23 Mi Mi<|CI h) (foB_cons (s:=1) I Mi (opensB_slice (size:=9) (bytes:=104) h underlying23 Mi Mi<|CI h)
  (foB_cons (s:=1) I Mi (opensB_slice (size:=13) (bytes:=168) h underlying24 Mi Mi<|acY h)<|foB_cons (s:=1) I Mi (opensB_slice (size:=9) (bytes:=160) h underlying25 Mi Mi<|B9 h _)<|foB_cons (s:=1) I Mi (opensB_of h<|opens_int underlying3)<|foB_nil I)))))))
 exact a
theorem Xi:∀{l:J Nd},(∀x∈l,Ew x)->CB l
 |[],_=>by rw[CB];trivial
 |x::l,h=>by
  exact⟨h x N,Xi λy a=>h y<|by simp[a]⟩
def ew(b:IsBulk B):∀(N:Nat) {x:DataW H} {c:aI} {F:h},B x<=N->IQ enc W base spare held 27 W F x c->∃(e:Nd) (d:Nat),pq aL d W (λ_=>True) e c/\Ew e/\ml e<=B x
 |0,x,c,F,a,_=>by have:=b.one x;omega
 |N+1,x,c,F,am,⟨fT,p,L,M⟩=>by
  obtain⟨⟨k,X,ini,dft,H,T,mv,s,a,aC⟩,K,J⟩:=exl (enc:=enc) (W:=W) (base:=base) (spare:=spare) (held:=held) b fT c _ L M;obtain⟨c1,r1,rfl,⟨rfl,i1⟩,c2,r2,rfl,⟨rfl,i2⟩,c3,r3,rfl,⟨rfl,i3⟩,c4,r4,rfl,⟨rfl,i4⟩,c5,r5,rfl,⟨n,rfl,E,_⟩,c6,r6,rfl,⟨KM,rfl,C,_⟩,ff,gz,rfl,⟨v,rfl,i,_⟩,bJ,qj,rfl,⟨sl,rfl,A,_⟩,c9,Y,rfl,⟨rfl,i9⟩,u⟩:=K;have u:Y=[]:=u;subst u;dsimp only at J A E C i;have G:∀y∈s,B y<=(s.map B).sum:=λy g=>Gj R;obtain⟨l,P,S,l3⟩:=QU (B:=B) (sz:=λe:Nd×Nat=>ml e.1) (Q:=λf e=>∃base c,sl.a=aM base/\WS c=9/\aB W (base.add _) c/\pq aL e.2 W _ e.1 c/\Ew e.1) s 0 λf y j=>by
   rw[bS];obtain⟨a,k,p,g2,q,B,F⟩:=A.at_ f y j;obtain⟨e,d,Q,W,t3⟩:=ew b N (x:=y) R F;exact⟨(e,d),⟨a,k,p,q,B,Q,W⟩,t3⟩
  obtain⟨V,m⟩:=QV (λe:Nd×Nat=>e.2) l;obtain⟨o,r,Z⟩:=QW E;obtain⟨t,w,b3⟩:=QW C;obtain⟨z,D,d3⟩:=alC i;refine⟨.mk ⟨k,X.data.toList,ini.data.toList,dft.data.toList,H.map _,T.map _,mv.map _,a⟩ (l.map (·.1)),V+1,⟨n,KM,v,sl,?_,⟨o,t,z⟩,?_,R⟩,?_,?_⟩
  .rfl
  .refine⟨by rw[Nd.kids,bP,P];exact A.len,A.cap,A.nil0,A.big,λf e j=>?_⟩;rw[Nd.kids,cP,gp]at j;obtain⟨q,d,rfl⟩:=j;obtain⟨k,p,x,y,a,B,F⟩:=S f q d;rw[bS]at a;exact⟨k,p,x,trivial,y,a,ak9 (m q<|be d) B⟩
  .rw[Ew];refine⟨⟨r,w,D⟩,Xi λy g=>?_⟩;obtain⟨q,a,rfl⟩:=dK.1 g;obtain⟨f,j⟩:=fk a
   grind
  rw[ml,tl,gV];unfold yK;dsimp only;rw[TG,TG,TG];have e:(l.map<|ml∘λx=>x.1).sum=(l.map λe:Nd×Nat=>ml e.1).sum:=I;omega
def aBz:Rp (Nd×Nat):=λw F x c=>∃d,pq aL d w F x.1 c/\Ew x.1/\ml x.1<=x.2
theorem drN(f:IsBulk B):kY B enc aq W base spare held 27 aBz λx=>x.2:=λfT s x h w=>by
 let⟨e,d,a,b,c⟩:=ew f _ (x:=x.1) (F:=λ_=>True) (bc _) ⟨fT,x.2,h,w⟩;exact⟨(e,B x.1),⟨d,a,b,c⟩,bc _⟩
def rChU:Rp (Ch×Nat):=λw F x c=>∃(D:Nat) (v:Sl) (H:aI),c=v.v::H/\ChR aL D w F x.1 v H/\Jd x.1/\oQ x.1.vars+ml x.1.root<=x.2
theorem opensB_ch(b:IsBulk B):kY B enc aq W base spare held 29 rChU λx=>x.2:=by
 let h:=opensB_struct (enc:=enc) (P:=aq) (W:=W) (base:=base) (spare:=spare) (held:=held) (T:=10) b underlying29 Mi
  (foB_cons (s:=1) I Mi (opensB_slice (size:=3) (bytes:=32) b underlying22 Mi Mi<|rcv b)<|foB_cons (s:=9) I Mi (drN b)<|foB_nil I)
 refine h.map (λx=>((⟨x.1.map (·.1),x.2.1.1⟩),(x.1.map λx=>x.2).sum+x.2.1.2)) ?_;rintro⟨k,⟨nd,o⟩,q⟩ c ⟨m,r,rfl,⟨e,rfl,D,_⟩,g,p,rfl,⟨d,n,i,z⟩,u⟩;subst u;rw[bq];refine⟨⟨d,e,g,I,⟨⟨TT _ D λx c _ a=>a.1,λh=>VI⟩,n⟩,⟨λv j=>?_,i⟩,?_⟩,X⟩
 .obtain⟨x,a,rfl⟩:=dK.1 j;let⟨c,h⟩:=Iv D a;exact h.2.1
 rw[NR];have:=ED (f:=λv:Vr=>WS v.n+1) (l:=k) λx a=>by
  let⟨c,h⟩:=Iv D a;exact h.2.2
 grind
end
def opk:∀{p:J _} {l:J _},wO l p=[]->(p.map λx=>x.1).Nodup/\∀x,x∈p.map (λx=>x.1)->x∉l
 |[],l,_=>A
 |x::p,l,a=>by
  let⟨b,c⟩:=dD.1 a;let⟨g,d⟩:=opk c;refine⟨R,λy h=>?_⟩;rcases ba.1 h with rfl|h
  .exact by simpa using wc.1 b
  grind
def Vg:∀{l:J _} {i:Nat} {s:L},l.Nodup->l[i]? =aM s->zm s l=i
 |[],i,s,_,h=>YI
 |x::l,0,s,_,h=>by
  rw[cX,bN]at h;rw[zm,E h.symm]
 |x::l,i+1,s,n,h=>by
  let n:=wZ.1 n;rw[zm,Q<|λe=>n.1 R,Vg n.2 h]
def frD{xs}(h:(xs.map λx:dz=>x.nm).Nodup){i:Nat}{x}(a:xs[i]? =aM x):gr xs x.nm=i:=by
 unfold gr;have:=Vg h (i:=i) (s:=x.nm) A
 grind
def KJ{xs}:∀{r:J _} {l:J Int},Ny xs l r=aE->∀t∈r,1<=gr xs t
 |[],_,_,t,h=>YI
 |s::r,l,h,t,a=>by
  rw[Gc]at h;by_cases b:gr xs s<1
  .grind
  rw[Q b]at h;split at h
  .cases h
  rcases ba.1 a with rfl|a
  .omega
  exact KJ h t a
def Bw(s L:J dz)(a:Nat):=∀i x,L[i]? =aM x->s[a+i]? =aM x
def Bw.left{xs L M}{a}(h:Bw xs (L++M) a):Bw xs L a:=λi x b=>h i x R
def Bw.right{xs L M}{a}(h:Bw xs (L++M) a):Bw xs M (a+WS L):=λb x i=>by
 rw[ez];exact h _ x R
def nw3{xs}{s}{pa dp}:∀{l:J Nd} {a:Nat},wP s l=aE->Bw xs (ui a pa dp l) a->∃i x,xs[i]? =aM x/\x.nm=s/\x.pa=pa/\a<=i
 |[],a,h,_=>by simp[wP]at h
 |.mk b k::l,a,h,c=>by
  by_cases e:b.nm=s
  .refine⟨a,_,c.left 0 _<|rfl,e,I,X⟩
  let d:wP s l=aE:=by
   unfold wP at h⊢;simpa[Nd.b,e]using h
  have r:=c.right;rw[lZ a pa dp (.mk b k)]at r;let⟨i,x,f,g,j,m⟩:=nw3 d r
  grind
def wj{c}(h:(kU c).1=0):(jA c).2=0/\Bj c=[]:=by
 unfold kU at h;by_cases p:(jA c).2≠0
 .simp_all
 rw[Q p]at h;exact⟨AM.1 p,F1 (F4 c) h⟩
def tst{c}(h:(jA c).2=0):rH c=aE:=by
 unfold jA at h
 grind
section
variable{w w':av}{F G:h}{s:Sl}{xs:J dz}
theorem agm{k0} x n (B:aF w k0 9 [ab (T n)]):az aq 145 #[ah (YG x).toArray,ae<|aM ⟨k0,0,VM⟩] w λe w'=>e=ak (aj<|JW<|x.nm=n)/\ay [] w w':=ret<|aAR λk b hk z h=>⟨_,(h.blk B N).cells 0 [_] λa v j=>(by rw[bS];exact j),by rw[jC],h⟩
theorem Al{n}{j}{x}(h:xs[j]? =aM x)(a:∀y,y∈xs.take j->y.nm≠n)(e:x.nm=n):gr xs n=j:=by
 unfold gr;have:=fG h;have:zm n (xs.map λx:dz=>x.nm)=j:=by
  let b:xs.map (λx:dz=>x.nm)=(xs.take j).map (λx:dz=>x.nm)++n::(xs.drop<|j+1).map λx:dz=>x.nm:=by
   rw[<-e,<-ch,<-cK,<-(aZ.1 h).2,Ef,eS]
  rw[b,Ky]
  .grind
  grind
 omega
theorem alD(a:aA nS 5 w F s xs) n:az aq 103 #[s.v,ab<|T n] w λe w'=>e=ak (O U<|gr xs n)/\ay [] w w':=by
 refine ret<|aAI ?_;intro m b H C d Y;have:=a.len;have:=a.cap;have:=a.big;refine(arM s ⟨.func _ #[] #[ae _],I⟩ (λv w'=>v=O U (gr xs n)/\ay [] b w') b ?_).mono (by
  rintro _ w' ⟨v,rfl,rfl,h⟩;exact⟨_,I,_,h.blk Y N,I,d.bG h⟩)
 refine⟨λk i u=>∃j:Nat,i=j/\k+j=WS xs/\j<=WS xs/\(∀y,y∈xs.take j->y.nm≠n)/\ay [] b u,WS xs,⟨0,I,X,bE _,N,qE _ _⟩,?_⟩;rintro k _ u ⟨j,rfl,o,g,f,h⟩;refine⟨λc=>?_,λc=>?_⟩
 .have c:=S c;let⟨x,e⟩:=eW (xs:=xs) (i:=j) X;let⟨ad,p,q,_⟩:=gK (ZH cH Z a (d.bG h) N) e;refine⟨ad,p,_,_,_,_,_,q,145,[],[ae _],I,ia D,(agm x n<|h.blk Y N).mono ?_⟩;rintro _ t ⟨rfl,U⟩;refine⟨_,I,λr=>⟨?_,h.bG U⟩,λr=>⟨k-1,X,j+1,N0,X,X,λy s=>?_,h.bG U⟩⟩
  .rw[Al e f R]
  rw[aX,e,cZ]at s
  grind
 let c:=aQ c;rw[bm X]at f;refine⟨?_,h⟩;rcases jf xs n with⟨e,_⟩|⟨i,x,_,p,e⟩
 .rw[e]
 grind
end
end Con
namespace Con
open Go Go.RowKit Go.Kt Go.Kt.V Vc
def nf(x:J dz)(s:L):Int:=if s=[]then -1 else gr x s
def NV(x:J dz)(l:J Int):Nat->Int
 |0=> -1
 |n+1=>if(l.all λk=>mR x n k)=aE then n else NV x l n
def FR(x:J dz)(n:Int):C:=JW (0<=n)&&JW (n<WS x)
def Bx{xs}{n}:FR xs n=aE↔qW xs n:=by
 unfold FR qW;rw[aO,bB,bB]
def rV(x:J dz)(l:J Int):Int:=if l=[]∨(l.any λn=>!FR x n)=aE then -1 else NV x l (WS x)
def xY xs l:∀n,(NV xs l n= -1/\∀m<n,(l.all λk=>mR xs m k)=aL)∨∃m:Nat,NV xs l n=m/\m<n/\(l.all λk=>mR xs m k)=aE/\∀j,m<j->j<n->(l.all λk=>mR xs j k)=aL
 |0=>.inl ⟨I,λm h=>X⟩
 |n+1=>by
  rw[NV];by_cases h:(l.all λk=>mR xs n k)=aE
  .rw[E h];exact .inr ⟨n,I,X,h,λj a b=>X⟩
  rw[Q h];let h:(l.all λk=>mR xs n k)=aL:=YW
  rcases xY xs l n with⟨a,b⟩|⟨m,a,b,c,d⟩
  .exact .inl ⟨a,λm f=>(Nat.lt_succ_iff_lt_or_eq.1 f).elim (b m) λe=>by rw[e];exact h⟩
  exact .inr ⟨m,a,X,c,λj f g=>(Nat.lt_succ_iff_lt_or_eq.1 g).elim (d j f) λe=>by rw[e];exact h⟩
def tV{xs}{l:J Int}{m:Nat}:(l.all λk=>mR xs m k)=aE↔∀n∈l,∃k:Nat,n=k/\mC xs m k:=by
 rw[gv];constructor
 .intro h n c;let⟨i,j,d,a,b⟩:=sM.1<|h n c;have:i=m:=X
  subst this;exact⟨j,a,b⟩
 intro h n c;let⟨k,a,b⟩:=h n c;exact sM.2 ⟨m,k,I,a,b⟩
def Fo.aus{xs}(F:Fo xs){l}{r}(h:Mt xs l r):r=rV xs l:=by
 rw[rV];rcases h with⟨a,b⟩|⟨⟨a,b⟩,m,e,c,d⟩
 .rw[E,b];rcases a with a|⟨n,g,f⟩
  .exact .inl a
  refine .inr<|gW.2 ⟨n,g,?_⟩;rw[dS,iM];exact λh=>f<|Bx.1 h
 rw[Q]
 .have⟨n,o⟩:=gj l a;let⟨k,_,hk⟩:=c n o;have f:m<WS xs:=by
   let⟨s,p,_⟩:=hk;exact fG p
  rcases xY xs l (WS xs) with⟨_,g⟩|⟨q,r,t,i,j⟩
  .have:=g m f;rw[tV.2 c]at this;cases this
  let g:=d q<|tV.1 i;have:m<=q:=by
   refine qp λl=>?_;have:=j m l f;rw[tV.2 c]at this;cases this
  omega
 rintro(h|h)
 .exact a h
 let⟨n,g,f⟩:=gW.1 h;rw[Bx.2 (b n g)]at f;cases f
def HA(x:J dz)(l:J Int):Nat->Int->Int
 |0,d=>d
 |n+1,d=>if 0<d/\(kb x d≠1∨d∈l)then HA x l n (Nx x d)else d
def D3(x:J dz)(s:Int)(t:J Int):Int:=if t=[]then -1 else HA x (s::t) (WS x) (rV x (s::t))
structure Ro where
 src:Int
 slot:Int
 k:Int
 ev:L
 wt:Int
 tg:List Int
 dom:Int
def Mj(x:J dz)(a i:Nat)(m:Mv):Ro:=⟨a,i,m.k,m.ev,m.wt,m.tg.map<|nf x,D3 x a<|m.tg.map<|nf x⟩
def LW(x:J dz)(a:Nat):Nat->J Mv->J Ro
 |_,[]=>[]
 |i,m::l=>Mj x a i m::LW x a (i+1) l
mutual
def XW(x:J dz):Nat->Nd->J Ro
 |a,.mk b l=>LW x a 0 b.mv++uk x (a+1) l
def uk(s:J dz):Nat->J Nd->J Ro
 |_,[]=>[]
 |a,x::l=>XW s a x++uk s (a+iI x) l
end
mutual
def CJ:Nd->J Nb
 |.mk b l=>b::EF l
def EF:J Nd->J Nb
 |[]=>[]
 |x::l=>CJ x++EF l
end
structure Pl where
 sp:List dz
 ini:List Int
 dft:List Int
 ro:List Ro
def gY(c:Ch):Pl:=⟨cQ c,(CJ c.root).map λb=>nf (cQ c) b.ini,(CJ c.root).map λb=>nf (cQ c) b.dft,XW (cQ c) 0 c.root⟩
def uc:∀l m,EF (l++m)=EF l++EF m
 |[],m=>by rw[cJ,EF,cJ]
 |x::l,m=>by rw[bZ,EF,EF,uc l m,bp]
mutual
def tW:∀x,WS (CJ x)=iI x
 |.mk b l=>by rw[CJ,iI,aY,KK]
def KK:∀l,WS (EF l)=dY l
 |[]=>by rw[EF,dY];rfl
 |x::l=>by rw[EF,dY,aU,tW,KK]
end
def eA xs:∀l m a,uk xs a (l++m)=uk xs a l++uk xs (a+dY l) m
 |[],m,a=>by rw[cJ,uk,cJ,dY,ku]
 |x::l,m,a=>by rw[bZ,uk,uk,eA xs l m,bp,dY,ez]
def Gk xs a:∀l i m,LW xs a i (l++[m])=LW xs a i l++[Mj xs a (i+WS l) m]
 |[],i,m=>rfl
 |x::l,i,m=>by
  rw[bZ,LW,LW,Gk xs a l,bZ,aY];congr 4;omega
def yN xs a:∀l i,WS (LW xs a i l)=WS l
 |[],_=>rfl
 |x::l,i=>by rw[LW,aY,aY,yN xs a l]
section
variable{w:av}{F G:h}{sl sN:Sl}{xs:J dz}{ns:J Int}
def wB(x:J dz)(a b:Int):C:=JW (b>=0)&&JW (b<WS x)&&JW (a>b)&&JW (a<((x[b.toNat]?).map<|λs:dz=>s.en).getD 0)
theorem Am(h:aA nS 5 w F sl xs) a b:az aq 49 #[sl.v,O U a,O U b] w λe d=>e=ak (aj<|wB xs a b)/\d=w:=by
 refine ret<|K0 ?_;unfold ZE wB;rw[h.len];by_cases c:((JW (b>=0)&&JW (b<WS xs))&&JW (a>b))=aE
 .have v:=c;simp only[aO]at v;have:=S v.1.1;have:=S v.1.2;obtain⟨i,rfl⟩:∃i:Nat,b=i:=⟨b.toNat,X⟩
  let⟨y,a⟩:=eW (xs:=xs) (i:=i) X;let⟨ad,e,_,_,_,f⟩:=gK h a;refine⟨ad,λ_=>e,y.en,λ_=>f,?_,I⟩;rw[aV,a];rfl
 refine⟨⟨0,0,VM⟩,λh=>absurd h c,0,λh=>absurd h c,?_,I⟩;rw[qn]at c;rw[c,dT,dT]
end
def dc.sl{B}{w}{s}{xs}(h:dc B w s xs):aA rInt 1 w (λk=>B<=k) s xs:=(h.slice bA).mono bA λk hk=>hk.elim (λh=>h.elim) λh=>h.1
def ig{w}{F}{s}{l}(h:aA rInt 1 w F s l){i:Nat}{x}(a:l[i]? =aM x):∃ad,ci s i 1 ad/\aB w ad [O U x]:=by
 have:=(aZ.1 a).1;have:=h.len;let⟨ad,y,e,b,g,f,j,c,d⟩:=h.get (bf i) X;rw[aV,a]at g;cases g;obtain⟨rfl,_⟩:=d;exact⟨ad,b,c⟩
def kI{w w'}{F}{s}{l}(h:aA rInt 1 w F s l)(O:ay [] w w'):aA rInt 1 w' F s l:=ZH bA Z h O N
def iJ(s:Sl)(k:Nat):Prop:=s.a=aM ⟨k,0,VM⟩
def aaN{w}{F}{s}{l}(h:aA rInt 1 w F s l) c:
  az aq 107 #[Sl.v s,O U c] w λe b=>∃i,e=ak (O U i)/\JW (i>=0)=JW (c∈l)/\ay [] w b:=by
 refine jK<|arb<|have:=h.len;have:=h.big;have:=h.cap;⟨λv i b=>∃n,n<=WS l/\i=n/\v=(WS l)-n/\(∀x,x∈l.take n->x≠c)/\b=w,WS l,R,?_⟩;rintro v _ d ⟨n,g,rfl,rfl,p,u⟩;obtain rfl:w=d:=u.symm;refine⟨λa=>?_,λa=>?_⟩
 .have J:=S a;let E:n<WS l:=X
  let⟨ad,c,e⟩:=ig h<|aR E;refine⟨ad,c,_,e,λhe=>⟨_,I,?_,qE _ _⟩,λhe=>⟨(WS l)-_,X,n+1,X,N0,I,?_,I⟩⟩
  .simp_all
  have:=Ze
  intro y j;rw[aX,aR E]at j
  grind
 have:=aQ a;rw[bm X]at p;exact⟨_,I,R,qE _ _⟩
def xZ{w}{F}{s}{l}(h:aA rInt 1 w F s l) c:
  az aq 69 #[Sl.v s,O U c] w λe a=>e=ak (aj<|JW<|c∈l)/\ay [] w a:=by
 refine ret<|aqQ<|(aaN h c).mono ?_;simp_all
def zP u {a} (h:ri a):∃y b,(au 31 1 #[.mk 0 (O U a)]).run aq u=.ok (Sl.v y) b/\ay [] u b/\dc u.heap.size b y [a]:=by
 let⟨y,b,k,c,k3,_⟩:=jP (P:=aq) (t:=31) (e:=3) (i:=t3) (z:=O U 0) (w:=u) (F:=λ_=>False) (vs:=[O U a]) (parts:=#[.mk 0 _]) (len:=1) (xs:=[a]) (r:=rInt) (size:=1) Mi Mi I I Z I I Z Z bA ⟨⟨I,I,h⟩,trivial⟩
 grind
def atz{A}{u}{s y}{is js}{G}(p:dc A u s is)(h:A<=u.heap.size)(l:aA rInt 1 u G y js)(f:∀k,G k->¬iJ s k)(q:WS is+WS js<=1000000000):
  ∃a w,(Builtin.append_ #[31,31] 31 #[Sl.v s,Sl.v y]).run aq u=.ok (Sl.v a) w/\dc A w a (is++js)/\aD (iJ s) u w/\∀k,iJ a k->iJ s k∨u.heap.size<=k:=by
 obtain⟨a,w,b,m,o,c,d,n⟩:=rA (P:=aq) (t:=31) (ty:=31) (e:=3) (i:=t3) (bytes:=8) (size:=1) (r:=rInt) (F:=λ_=>True) (y:=y) (ys:=js) Mi Mi I I I I bA P9 (l.mono bA λk hk=>⟨trivial,f k hk⟩) h X Z;refine⟨a,w,b,P9,c.p λg j=>.inl (d g j).1,λk hk=>?_⟩;unfold iJ at hk⊢
 grind
def T9{A}{u}{s}{is}(h:dc A u s is)(j:A<=u.heap.size){n}(m:ri n)(B:WS is<=20000000):
  ∃y w,(au 31 1 #[.mk 0 (O U n)]).run aq u=.ok (Sl.v y) w/\ay [] u w/\∃a b,(Builtin.append_ #[31,31] 31 #[Sl.v s,Sl.v y]).run aq w=.ok (Sl.v a) b/\dc A b a (is++[n])/\aD (iJ s) w b/\∀k,iJ a k->iJ s k∨u.heap.size<=k:=by
 let⟨y,w,o,k3,a,b,c,p,⟨z,d,f⟩,q⟩:=iO (P:=aq) (t:=31) (ty:=31) (e:=3) (i:=t3) (bytes:=8) (size:=1) (r:=rInt) (G:=λ_=>False) (v:=O U n) (x:=n) Mi Mi I I I I Z Z Z bA h j I ⟨I,m⟩ R X;refine⟨y,w,o,k3,a,b,c,P9,d.p λg l=>.inl (f g l).1,λk hk=>?_⟩;unfold iJ at hk⊢
 grind
section
variable{w w':av}{F G:h}{s:Sl}{xs:J dz}{b:Nat}{ty:TypeId}{x1 x2 x3:aw}
theorem YY(B:aF w b ty [s.v,x1,x2,x3])(h:aA nS 5 w F s xs) n:az aq 60 #[ae (aM ⟨b,0,VM⟩),ab<|T n] w λe w'=>e=ak (O U<|nf xs n)/\ay [] w w':=by
 refine ret<|aAq ?_;rw[jC n []];refine⟨λc=>⟨?_,qE _ _⟩,λc=>⟨s,Hl B 0 I,(alD h n).mono ?_⟩⟩
 .unfold nf;simp_all
 rintro _ w ⟨rfl,O⟩;exact⟨_,I,by unfold nf;simp_all,O⟩
theorem eC xs n:nf xs n= -1∨∃j:Nat,nf xs n=j/\j<WS xs:=by
 unfold nf;split
 .omega
 exact Gb xs n
theorem aeu(B:aF w b ty [s.v,x1,x2,x3])(h:aA nS 5 w F s xs)(f:Fo xs)(L:WS xs<=1000000){sT}{tg}(T:aA rInt 1 w G sT tg)(m:WS tg<=20000000){a:Nat}(i:a<=1000000):
  az aq 61 #[ae (aM ⟨b,0,VM⟩),O U a,sT.v] w λe w'=>e=ak (O U<|D3 xs a tg)/\ay [] w w':=by
 refine ret<|aAr<|have:=T.len;⟨λhc=>⟨?_,qE _ _⟩,λhc=>?_⟩
 .have hc:=WH
  have:tg=[]:=R
  unfold D3;rw[E this]
 have:=WH
 let K:tg≠[]:=A
 let⟨y,P,M,k3,p⟩:=zP w (a:=a) ⟨X,X⟩;let⟨q,z,D,j,H,_⟩:=atz p k3.size (kI (PY bA T Z) k3) (λk hk e=>by have:=(p.blk e).1;grind) R;let t:=(k3.ph (H.mono (G:=λk=>w.heap.size<=k) λk _ e=>by have:=(p.blk e).1;omega)).only X;refine⟨y,P,M,q,z,D,s,Hl (t.blk B N) 0 I,(j0 (ZH cH Z h t N) f<|j.slice bA).mono ?_⟩;rintro _ V ⟨⟨r,rfl,J⟩,F⟩;have b:=f.aus J;let C:[(a:Int)]++tg=(a:Int)::tg:=I;rw[C]at b j;let Y:r<WS xs:=by
  rw[b];unfold rV;split
  .omega
  rcases xY xs ((a:Int)::tg) (WS xs) with⟨g,_⟩|_<;>omega
 refine⟨r,I,λv d u=>HA xs ((a:Int)::tg) v d=D3 xs a tg/\d<WS xs/\d<=v/\ay [] w u/\ay [] z u,WS xs,⟨?_,Y,X,t.bG F,F⟩,?_⟩
 .unfold D3;rw[Q K,b]
 rintro v d y ⟨hd,r,q,e,k⟩;refine⟨λc u=>c=JW (0<d/\(kb xs d≠1∨d∈(a:Int)::tg))/\ay [] w u/\ay [] z u,?_,λg=>?_,λg=>?_⟩
 .rintro _ G ⟨rfl,c,w⟩;refine⟨λa=>?_,λa=>⟨?_,c⟩⟩
  .have a:=S a;obtain⟨W,rfl⟩:∃W:Nat,d=W:=⟨d.toNat,X⟩
   let⟨x,hx⟩:=eW (xs:=xs) (i:=W) X;let⟨ad,a1,_,a3,_⟩:=gK (ZH cH Z h c N) hx;have:=f.U4 hx;obtain⟨n,rfl⟩:∃n,v=n+1:=⟨v-1,X⟩
   refine⟨s,Hl (c.blk B N) 0 I,ad,a1,x.pa,a3,n,X,?_,X,X,c,w⟩;rw[HA,E a,lz hx]at hd;exact hd
  rw[<-hd];cases v with
  |zero=>rfl
  |succ n=>rw[HA,Q<|aQ a]
 .have g:=S g;obtain⟨a,rfl⟩:∃a:Nat,d=a:=⟨d.toNat,X⟩
  let⟨x,c⟩:=eW (xs:=xs) (i:=a) X;let⟨ad,n,w,_⟩:=gK (ZH cH Z h e N) c;refine⟨s,Hl (e.blk B N) 0 I,ad,n,x.k,w.dv 0 _ I,λhk=>⟨?_,e,k⟩,λhk=>(xZ (kI (j.slice bA) k) _).mono ?_⟩
  .have hk:=Wq
   exact(bO ⟨g,.inl<|by rw[fz c];exact hk⟩).symm
  rintro _ s ⟨rfl,d⟩;refine⟨_,I,?_,e.bG d,k.bG d⟩;rw[qo,fz c];simp_all
 grind
end
def Wx(w:av)(F:h)(t i:Nat)(s:Sl):Prop:=s.n=0∨∃g c,s.a=aM ⟨g,0,VM⟩/\aF w g t c/\s.n*i<=WS c/\F g
def _root_.Go.Kt.Own.roC{b:Type}{r:Rp b}{i e B:Nat}{w:av}{F G:h}{s:Sl}{x:J b}(d:Own r i e B w F s x)(l:∀g,s.a=aM ⟨g,0,VM⟩->G g):Wx w G e i s:=by
 rcases d with⟨rfl,_⟩|⟨g,c,tail,a,_,f,_,j,_,_,k⟩
 .exact .inl I
 exact .inr ⟨g,_,a,f,by rw[aU,k.OX,j];omega,l g a⟩
def Wx.keep{w w':av}{F:h}{t i:Nat}{s:Sl}(a:Wx w F t i s)(hk:∀k,F k->k<w.heap.size->w'.heap[k]? =w.heap[k]?):Wx w' F t i s:=by
 rcases a with a|⟨g,d,e,b,f,c⟩
 .exact .inl a
 exact .inr ⟨g,d,e,(hk g c b.lt).trans b,f,c⟩
def Wx.imp{w:av}{F G:h}{t i:Nat}{s:Sl}(a:Wx w F t i s)(hk:∀k,F k->k<w.heap.size->G k):Wx w G t i s:=by
 rcases a with a|⟨g,c,d,b,e,f⟩
 .exact .inl a
 exact .inr ⟨g,c,d,b,e,hk g f b.lt⟩
def rRo:Rp Ro:=λw F x c=>∃t,c=[O U x.src,O U x.slot,O U x.k,ab<|T x.ev,O U x.wt,t.v,O U x.dom]/\aA rInt 1 w F t x.tg/\Wx w F 3 1 t
def gu:rRo.Ok where
 keep:=by
  rintro w e F x c ⟨d,h,a,b⟩ hk;exact⟨d,h,a.keep bA Z hk,b.keep hk⟩
 inHeap:=by
  rintro w F x c ⟨d,h,a,b⟩;exact⟨d,h,a.inHeap bA Z,b.imp λk hk l=>⟨hk,l⟩⟩
 mono:=by
  rintro w F G x c ⟨d,h,a,b⟩ hk;exact⟨d,h,a.mono bA hk,b.imp R⟩
 one:=by
  rintro w F x c ⟨d,rfl,_⟩ v h;simp at h;rcases h with rfl|rfl|rfl|rfl|rfl|rfl|rfl<;>rfl
def Q3(a c d:Sl)(k:Nat):Prop:=iJ a k∨iJ c k∨iJ d k
structure Lb (w:av) (b:Nat) (F:h) (s si sd sr:Sl) (xs:List dz) (ini dft:List Int) (ro:List Ro):Prop where
 sp:aA nS 5 w F s xs
 hF:∀k,F k->k<w.heap.size/\k≠b/\¬Q3 si sd sr k
 i:dc (b+1) w si ini
 d:dc (b+1) w sd dft
 r:Own rRo 7 62 (b+1) w (λk=>b<k/\¬iJ si k/\¬iJ sd k) sr ro
 ap:∀k,iJ si k->¬iJ sd k/\¬iJ sr k
 ap2:∀k,iJ sd k->¬iJ sr k
structure La (w:av) (b:Nat) (F:h) (s si sd sr:Sl) (xs:List dz) (ini dft:List Int) (ro:List Ro):Prop extends Lb w b F s si sd sr xs ini dft ro where
 blk:aF w b 65 [s.v,si.v,sd.v,sr.v]
section
variable{w w':av}{F:h}{s si sd sr:Sl}{xs:J dz}{b:Nat}{ini dft:J Int}{ro:J Ro}
def La.lt(h:La w b F s si sd sr xs ini dft ro):b<w.heap.size:=h.blk.lt
theorem Lb.bi(h:Lb w b F s si sd sr xs ini dft ro):∀k,iJ si k->b<k/\k<w.heap.size:=λk e=>by have:=h.i.blk e;assumption
theorem Lb.bd(h:Lb w b F s si sd sr xs ini dft ro):∀k,iJ sd k->b<k/\k<w.heap.size:=λk e=>by have:=h.d.blk e;assumption
theorem Lb.br(h:Lb w b F s si sd sr xs ini dft ro):∀k,iJ sr k->b<k/\k<w.heap.size:=λk e=>by have:=h.r.blk e;assumption
def Lb.o0(h:Lb w b F s si sd sr xs ini dft ro)(O:ay [] w w'):Lb w' b F s si sd sr xs ini dft ro:=
 ⟨ZH cH Z h.sp O N,λk hk=>⟨cD (h.hF k hk).1 O.size,(h.hF k hk).2⟩,h.i.keep bA λk _ J=>O.block k J N,h.d.keep bA λk _ J=>O.block k J N,h.r.keep gu λk _ J=>O.block k J N,h.ap,h.ap2⟩
def La.o0(h:La w b F s si sd sr xs ini dft ro)(O:ay [] w w'):La w' b F s si sd sr xs ini dft ro:=⟨h.toLb.o0 O,O.blk h.blk N⟩
theorem Lb.ag7(h:Lb w b F s si sd sr xs ini dft ro){n}(r:ri n)(J:b<w.heap.size)(q:WS ini<=20000000):
  ∃y a,(au 31 1 #[.mk 0 (O U n)]).run aq w=.ok (Sl.v y) a/\ay [] w a/\∃c d,(Builtin.append_ #[31,31] 31 #[Sl.v si,Sl.v y]).run aq a=.ok (Sl.v c) d/\aD (iJ si) a d/\(∀k,iJ c k->iJ si k∨w.heap.size<=k)/\
   ∀f,ay [b] d f->Lb f b F s c sd sr xs (ini++[n]) dft ro:=by
 let⟨y,a,u,k3,c,d,j,m,g,i⟩:=T9 h.i X r q;let v:=k3.size;let x:=g.size;refine⟨y,a,u,k3,c,d,j,g,i,λf hO=>?_⟩;let hk:∀k<w.heap.size,k≠b->¬iJ si k->f.heap[k]? =w.heap[k]? :=λk o h2 p=>by
  rw[hO.block k X ZY,g.block k X p,k3.block k o N]
 refine⟨h.sp.keep cH Z λk zd l=>hk k l (h.hF k zd).2.1 λe=>(h.hF k zd).2.2<|.inl e,λk zd=>⟨YV,(h.hF k zd).2.1,λt=>t.elim (λe=>(i k e).elim (λe=>(h.hF k zd).2.2<|.inl e) λe=>TX) λe=>(h.hF k zd).2.2<|.inr e⟩,m.keep bA λk z l=>hO.block k l R,h.d.keep bA λk z l=>?_,((h.r.inHeap gu).keep gu λk z l=>?_).mono gu λk z=>⟨z.1.1,λe=>?_,z.1.2.2⟩,λk e=>?_,h.ap2⟩
 .have:=z.resolve_left id;exact hk k l X λe=>(h.ap k e).1 this.2
 .rcases z with z|z
  .grind
  exact hk k l X λe=>(h.ap k e).2 z.2
 .grind
 rcases i k e with e|e
 .exact h.ap k e
 exact⟨λe=>by have:=h.bd k e;omega,λe=>by have:=h.br k e;omega⟩
theorem La.ag7(h:La w b F s si sd sr xs ini dft ro){n}(p:ri n)(o:WS ini<=20000000):
  ∃y c,(au 31 1 #[.mk 0 (O U n)]).run aq w=.ok (Sl.v y) c/\ay [] w c/\∃a d,(Builtin.append_ #[31,31] 31 #[Sl.v si,Sl.v y]).run aq c=.ok (Sl.v a) d/\aD (iJ si) c d/\(∀k,iJ a k->iJ si k∨w.heap.size<=k)/\aF d b 65 [s.v,si.v,sd.v,sr.v]/\
   ∀f,ay [b] d f->aF f b 65 [s.v,a.v,sd.v,sr.v]->La f b F s a sd sr xs (ini++[n]) dft ro:=by
 let⟨y,c,q,k3,a,d,i,g,j,l⟩:=h.toLb.ag7 p h.lt o;exact⟨y,c,q,k3,a,d,i,g,j,g.blk (k3.blk h.blk N) λe=>by have:=h.bi b e;omega,λf m B=>⟨l f m,B⟩⟩
theorem Lb.ag8(h:Lb w b F s si sd sr xs ini dft ro){n}(u:ri n)(J:b<w.heap.size)(t:WS dft<=20000000):
  ∃y c,(au 31 1 #[.mk 0 (O U n)]).run aq w=.ok (Sl.v y) c/\ay [] w c/\∃d f,(Builtin.append_ #[31,31] 31 #[Sl.v sd,Sl.v y]).run aq c=.ok (Sl.v d) f/\aD (iJ sd) c f/\(∀k,iJ d k->iJ sd k∨w.heap.size<=k)/\
   ∀i,ay [b] f i->Lb i b F s si d sr xs ini (dft++[n]) ro:=by
 let⟨y,c,v,k3,d,f,m,o,j,g⟩:=T9 h.d X u t;let x:=k3.size;let A:=j.size;refine⟨y,c,v,k3,d,f,m,j,g,λi hO=>?_⟩;let hk:∀k<w.heap.size,k≠b->¬iJ sd k->i.heap[k]? =w.heap[k]? :=λk p h2 r=>by
  rw[hO.block k X ZY,j.block k X r,k3.block k p N]
 refine⟨h.sp.keep cH Z λk zd l=>hk k l (h.hF k zd).2.1 λe=>(h.hF k zd).2.2<|.inr<|.inl e,λk zd=>⟨YV,(h.hF k zd).2.1,λq=>q.elim (λe=>(h.hF k zd).2.2<|.inl e) λq=>q.elim (λe=>(g k e).elim (λe=>(h.hF k zd).2.2<|.inr<|.inl e) λe=>TX) λe=>(h.hF k zd).2.2<|.inr<|.inr e⟩,h.i.keep bA λk z l=>?_,o.keep bA λk z l=>hO.block k l R,((h.r.inHeap gu).keep gu λk z l=>?_).mono gu λk z=>⟨z.1.1,z.1.2.1,λe=>?_⟩,λk e=>⟨λa=>?_,(h.ap k e).2⟩,λk e=>?_⟩
 .have:=z.resolve_left id;exact hk k l X (h.ap k this.2).1
 .rcases z with z|z
  .grind
  exact hk k l X λe=>h.ap2 k e z.2
 .grind
 .rcases g k a with a|a
  .exact(h.ap k e).1 a
  have:=h.bi k e;omega
 rcases g k e with e|e
 .exact h.ap2 k e
 exact λa=>by have:=h.br k a;omega
theorem La.ag8(h:La w b F s si sd sr xs ini dft ro){n}(p:ri n)(o:WS dft<=20000000):
  ∃y c,(au 31 1 #[.mk 0 (O U n)]).run aq w=.ok (Sl.v y) c/\ay [] w c/\∃a d,(Builtin.append_ #[31,31] 31 #[Sl.v sd,Sl.v y]).run aq c=.ok (Sl.v a) d/\aD (iJ sd) c d/\(∀k,iJ a k->iJ sd k∨w.heap.size<=k)/\aF d b 65 [s.v,si.v,sd.v,sr.v]/\
   ∀f,ay [b] d f->aF f b 65 [s.v,si.v,a.v,sr.v]->La f b F s si a sr xs ini (dft++[n]) ro:=by
 let⟨y,c,q,k3,a,d,i,g,j,l⟩:=h.toLb.ag8 p h.lt o;exact⟨y,c,q,k3,a,d,i,g,j,g.blk (k3.blk h.blk N) λe=>by have:=h.bd b e;omega,λf m B=>⟨l f m,B⟩⟩
theorem Lb.ag9(h:Lb w b F s si sd sr xs ini dft ro){x}{tg}{G}(H:aA rInt 1 w G tg x.tg)(D:Wx w G 3 1 tg)(E:∀k,G k->b<k/\¬iJ si k/\¬iJ sd k/\¬iJ sr k)(L:b<w.heap.size)(R:WS ro<=20000000):
  ∃y d,(au 34 1 #[.mk 0 (ah #[O U x.src,O U x.slot,O U x.k,ab<|T x.ev,O U x.wt,tg.v,O U x.dom])]).run aq w=.ok (Sl.v y) d/\ay [] w d/\∃c f,(Builtin.append_ #[34,34] 34 #[Sl.v sr,Sl.v y]).run aq d=.ok (Sl.v c) f/\aD (iJ sr) d f/\(∀k,iJ c k->iJ sr k∨w.heap.size<=k)/\
   ∀m,ay [b] f m->Lb m b F s si sd c xs ini dft (ro++[x]):=by
 let⟨y,d,K,k3,c,f,u,A,⟨Q,o,p⟩,M⟩:=iO (P:=aq) (t:=34) (ty:=34) (e:=62) (i:=t62) (bytes:=80) (size:=7) (r:=rRo) (G:=G) (v:=ah #[O U x.src,O U x.slot,O U x.k,ab _,O U x.wt,tg.v,O U x.dom]) (x:=x) Mi Mi I I I I Z Z Z gu h.r X I ⟨tg,I,H,D⟩ (λk hk _=>by have:=E k hk;exact⟨⟨this.1,this.2.1,this.2.2.1⟩,this.2.2.2⟩) X;let n:=o.p λg J=>.inl (p g J).1;have j:∀k,iJ c k->iJ sr k∨w.heap.size<=k:=λk hk=>by
  unfold iJ at hk⊢
  grind
 let S:=k3.size;let V:=n.size;refine⟨y,d,K,k3,c,f,u,n,j,λm hO=>?_⟩;have hk:∀k<w.heap.size,k≠b->¬iJ sr k->m.heap[k]? =w.heap[k]? :=λk B h2 C=>by
  rw[hO.block k X ZY,n.block k X C,k3.block k B N]
 refine⟨h.sp.keep cH Z λk zd l=>hk k l (h.hF k zd).2.1 λe=>(h.hF k zd).2.2<|.inr<|.inr e,λk zd=>⟨YV,(h.hF k zd).2.1,λq=>q.elim (λe=>(h.hF k zd).2.2<|.inl e) λq=>q.elim (λe=>(h.hF k zd).2.2<|.inr<|.inl e) λe=>(j k e).elim (λe=>(h.hF k zd).2.2<|.inr<|.inr e) λe=>TX⟩,h.i.keep bA λk z l=>?_,h.d.keep bA λk z l=>?_,(A.keep gu λk z l=>hO.block k l ?_).mono gu λk z=>?_,λk e=>⟨(h.ap k e).1,λa=>?_⟩,λk e a=>?_⟩
 .have:=z.resolve_left id;exact hk k l X (h.ap k this.2).2
 .have:=z.resolve_left id;exact hk k l X (h.ap2 k this.2)
 .grind
 .rcases z with z|z
  .exact z
  exact⟨X,λe=>by have:=h.bi k e;omega,λe=>by have:=h.bd k e;omega⟩
 .rcases j k a with a|a
  .exact(h.ap k e).2 a
  have:=h.bi k e;omega
 rcases j k a with a|a
 .exact h.ap2 k e a
 have:=h.bd k e;omega
theorem La.ag9(h:La w b F s si sd sr xs ini dft ro){x:Ro}{tg}{G}(o:aA rInt 1 w G tg x.tg)(C:Wx w G 3 1 tg)(m:∀k,G k->b<k/\¬iJ si k/\¬iJ sd k/\¬iJ sr k)(p:WS ro<=20000000):
  ∃y c,(au 34 1 #[.mk 0 (ah #[O U x.src,O U x.slot,O U x.k,ab<|T x.ev,O U x.wt,tg.v,O U x.dom])]).run aq w=.ok (Sl.v y) c/\ay [] w c/\∃a d,(Builtin.append_ #[34,34] 34 #[Sl.v sr,Sl.v y]).run aq c=.ok (Sl.v a) d/\aD (iJ sr) c d/\(∀k,iJ a k->iJ sr k∨w.heap.size<=k)/\aF d b 65 [s.v,si.v,sd.v,sr.v]/\
   ∀f,ay [b] d f->aF f b 65 [s.v,si.v,sd.v,a.v]->La f b F s si sd a xs ini dft (ro++[x]):=by
 let⟨y,c,q,k3,a,d,i,g,j,l⟩:=h.toLb.ag9 o C m h.lt p;exact⟨y,c,q,k3,a,d,i,g,j,g.blk (k3.blk h.blk N) λe=>by have:=h.br b e;omega,λf n B=>⟨l f n,B⟩⟩
end
section
def EG(b:Nat)(Q:h)(w:av)(a:h)(c:av):Prop:=aD (λk=>k=b∨Q k) w c/\∀k,a k->Q k∨w.heap.size<=k
def EG.refl b Q w:EG b Q w Q w:=⟨V8 _ _,λ_ h=>.inl h⟩
def EG.trans{b}{Q R S}{u v w}(h:EG b Q u R v)(g:EG b R v S w):EG b Q u S w:=by
 refine⟨h.1.trans g.1 λk hk=>?_,λk hk=>?_⟩
 .rcases hk with hk|hk
  .omega
  exact(h.2 k hk).elim W5 .inr
 rcases g.2 k hk with hk|hk
 .exact h.2 k hk
 exact .inr<|bC h.1.size hk
def EG.bG{b}{Q R}{u v w}(h:EG b Q u R v)(O:ay [] v w):EG b Q u R w:=⟨h.1.bG O,h.2⟩
def EG.of0{b}{Q R}{u v w}(O:ay [] u v)(h:EG b Q v R w):EG b Q u R w:=⟨O.ph h.1,λk hk=>(h.2 k hk).imp id λh=>bC O.size h⟩
def na{y}:∀{l:J Nd} {j:Nat},l[j]? =aM y->jF (l.take j)+ml y<=jF l
 |[],j,h=>YI
 |x::l,0,h=>by
  rw[cX,bN]at h;subst h;rw[cr,jF,jF];omega
 |x::l,j+1,h=>by
  rw[fP]at h;have:=na h;rw[fL,jF,jF];omega
mutual
def QX(s:J dz):∀(x:Nd) (a:Nat),WS (XW s a x)<=ml x
 |.mk b l,a=>by
  have:=KL s l (a+1);have:=nE b.mv;rw[XW,aU,yN,ml];unfold yK;omega
def KL(s:J dz):∀(l:J Nd) (a:Nat),WS (uk s a l)<=jF l
 |[],a=>by rw[uk];exact bE _
 |x::l,a=>by
  have:=QX s x a;have:=KL s l (a+iI x);rw[uk,aU,jF];omega
end
section
variable{b:Nat}{F:h}{s:Sl}{xs:J dz}
def La.q3{w}{si sd sr}{ini dft}{ro}(h:La w b F s si sd sr xs ini dft ro):∀k,Q3 si sd sr k->b<k/\k<w.heap.size:=λk hk=>hk.elim (h.bi k) λhk=>hk.elim (h.bd k)<|h.br k
def I6(d:Fo xs)(L:WS xs<=64):∀(D:Nat) {w:av} {G:h} {x:Nd} {l:aI} {i sd sr:Sl} {ini dft:J Int} {r:J Ro},pq aL D w G x l->(∀k,G k->k<b)->La w b F s i sd sr xs ini dft r->
  ml x<=8388608->WS ini+iI x<=1000000->WS dft=(WS ini)->WS r+ml x<=16777216->
  az aq 27 #[ae (aM ⟨b,0,VM⟩),ah l.toArray] w λe p=>e=ak (ai #[])/\∃f m j,La p b F s f m j xs (ini++(CJ x).map λc=>nf xs c.ini) (dft++(CJ x).map λc=>nf xs c.dft) (r++XW xs (WS ini) x)/\EG b (Q3 i sd sr) w (Q3 f m j) p
 |0,_,_,_,_,_,_,_,_,_,_,a,_,_,_,_,_,_=>a.elim
 |D+1,w,G,.mk u C,l,i,sd,sr,ini,dft,r,⟨en,lv,mv,kids,jc,⟨_,_,pE⟩,fH⟩,hG,hL,hz,hn,bJ,aS=>by
  have hk:=fH.1;have pE:=pE.1;clear fH;dsimp only[Nd.kids,Nd.b]at hk jc pE;subst jc;rw[iI]at hn;rw[ml]at hz aS;have HK:=hk.len;have Dk:=pE.len;have bv:=qI C;have Av:=nE u.mv;have aT:Ai u.mv<=yK u:=by unfold yK;omega
  refine ret<|aAc ?_;intro k0 H fH dC Y;have z0:=Y.size;have Dd:=hL.lt;have hq:=hL.q3;have P:=hL.o0 Y;have W:∀n,ri (nf xs n):=λn=>by
   rcases eC xs n with a|⟨c,a,b⟩
   .rw[a];exact⟨Z,Z⟩
   rw[a];exact⟨X,X⟩
  have Ve:i.n=WS ini:=hL.i.len;have uw:∀{Q:h} {B v:av} {bs:J Nat} {am:h},EG b (Q3 i sd sr) H Q B->aD am B v->(∀k,am k->k=b∨Q k)->(∀k∈bs,k<H.heap.size/\w.heap.size<=k)->bX bs B v:=fun{Q B v bs am} z hO hP hb=>hO.same λx K=>by
   have K:=hb x K;refine⟨by have:=z.1.size;omega,λa=>?_⟩;rcases hP x a with rfl|a
   .omega
   rcases z.2 x a with a|a
   .grind
   omega
  refine⟨i,Hl P.blk 1 I,λw1 bU=>⟨λk=>k=b,I,i,Hl (bU.blk P.blk N) 1 I,have V:=P.o0 bU;have z1:=bU.size;have m1:EG b (Q3 i sd sr) H (Q3 i sd sr) w1:=(EG.refl ..).bG bU;(YY V.blk V.sp u.ini).mono ?_⟩⟩;rintro _ w2 ⟨rfl,cF⟩;have m2:=m1.bG cF;obtain⟨y,w3,p1,p2,M,w4,p3,p4,p5,p6,p7⟩:=(V.o0 cF).ag7 (W u.ini) X;have z2:=cF.size;have z3:=p2.size;have z4:=p4.size;refine⟨_,I,cF.same o,ZX cF,y,w3,p1,p2.same o,ZX p2,M,w4,p3,uw (m2.bG p2) p4 (λk hk=>.inr<|.inl hk) o,λk hk E=>?_,b,1,_,_,I,p6,R,X,λw5 dV yp w6 dr=>?_⟩
  .subst hk;exact p4.block _ E λe=>by have:=hL.bi _ e;omega
  have bV:=p7 w5 dV yp;have z5:=dV.size;have m5:EG b (Q3 i sd sr) H (Q3 M sd sr) w5:=by
   refine m2.trans ⟨(p2.ph<|p4.mono (G:=λk=>k=b∨Q3 i sd sr k) λk _ hk=>.inr<|.inl hk).trans (dV.p (F:=λk=>k=b) N) X,λk hk=>?_⟩;rcases hk with hk|hk
   .exact(p5 k hk).imp .inl λa=>X
   exact .inl<|.inr hk
  have R0:=bV.o0 dr;have z6:=dr.size;have m6:=m5.bG dr;refine⟨λk=>k=b,I,sd,Hl R0.blk 2 I,(YY R0.blk R0.sp u.dft).mono ?_⟩;rintro _ w7 ⟨rfl,v⟩;have B5:=R0.o0 v;have m7:=m6.bG v;obtain⟨y8,w8,r1,r2,n,w9,r3,r4,r5,r6,pf⟩:=B5.ag8 (W u.dft) X;have z7:=v.size;have z8:=r2.size;have z9:=r4.size;refine⟨_,I,v.same o,ZX v,y8,w8,r1,r2.same o,ZX r2,n,w9,r3,uw (m7.bG r2) r4 (λk hk=>.inr<|.inr<|.inl hk) o,λk hk E=>?_,b,2,_,_,I,r6,R,X,λdh dy pz=>?_⟩
  .subst hk;exact r4.block _ E λe=>by have:=B5.bd _ e;omega
  have cC:=pf dh dy pz;have Ja:=dy.size;have el:EG b (Q3 i sd sr) H (Q3 M n sr) dh:=by
   refine m7.trans ⟨(r2.ph<|r4.mono (G:=λk=>k=b∨Q3 M sd sr k) λk _ hk=>.inr<|.inr<|.inl hk).trans (dy.p (F:=λk=>k=b) N) X,λk hk=>?_⟩;rcases hk with hk|hk|hk
   .exact .inl (.inl hk)
   .exact(r5 k hk).imp (λa=>.inr<|.inl a) λa=>X
   exact .inl<|.inr<|.inr hk
  have ce:∀{Q:h} {B:av},EG b (Q3 i sd sr) H Q B->¬Q k0:=λz e=>by
   rcases z.2 k0 e with a|a
   .grind
   omega
  have kz:∀{B:av} {Q:h},EG b (Q3 i sd sr) H Q B->aA (pq aL D) 9 B G kids C:=λz=>Zz (cq aL D) Z hk (Y.ph z.1) R;have dO:∀{B:av} {Q:h},EG b (Q3 i sd sr) H Q B->aA (Nq aL) 13 B G mv u.mv:=λz=>Zz (nX aL) Z pE (Y.ph z.1) R;refine⟨λkv co B=>∃(bY:Nat) (q:Sl),co=(bY:Int)/\kv+bY=WS u.mv/\bY<=WS u.mv/\La B b F s M n q xs (ini++[nf xs u.ini]) (dft++[nf xs u.dft]) (r++LW xs (WS ini) 0 (u.mv.take bY))/\EG b (Q3 i sd sr) H (Q3 M n q) B,WS u.mv,⟨0,sr,I,X,bE _,by rw[cr,LW,bq];exact cC,el⟩,?_⟩;rintro kv _ dE ⟨bY,q,rfl,me,hj,HR,cc⟩;have Hi:=cc.1.size;refine⟨λhc=>?_,λhc=>?_⟩
  .have hc:=S hc;obtain⟨ad,z,ds,a1,a2,a3,a4,a5,a6⟩:=(dO cc).get (bf bY) X;rw[aV]at a2;obtain⟨gc,uv,tg,rfl,gG,AI,ob⟩:=a6;obtain⟨sl,rfl⟩:=fK gG;have ob:=ob.1;have B1:=ob.len;have gO:He z<=Ai u.mv:=oP<|be a2;have ip:=wh z.tg;unfold He at gO;refine⟨ad,a1,_,_,_,_,_,_,_,_,sl,_,uv,tg,_,a5,λk9 rS y g9 g8 gT gE eG=>have iD:=eG.size;⟨λrM co fd vw k2 ev wt eQ xn B=>∃t:Nat,co=(t:Int)/\fd=(WS ini:Int)/\vw=(bY:Int)/\k2=z.k/\ev=T z.ev/\wt=z.wt/\xn=0/\rM+t=WS z.tg/\t<=WS z.tg/\dc y.heap.size B eQ ((z.tg.take t).map<|nf xs)/\ay [] dE B/\y.heap.size<=B.heap.size,WS z.tg,⟨0,I,by rw[Ve],I,I,I,I,I,X,bE _,E7 ..,eG,bc _⟩,?_⟩⟩;rintro rM _ _ _ _ _ _ eQ _ ff ⟨t,rfl,rfl,rfl,rfl,rfl,rfl,rfl,Ea,ht,hT,dL,Yl⟩;have qk:∀k,iJ eQ k->y.heap.size<=k:=λk e=>(hT.blk e).1;have c:=HR.o0 dL;have s:WS ((z.tg.take t).map<|nf xs)=t:=A
   refine⟨λiH=>?_,λiH=>?_⟩
   .have iH:=S iH;obtain⟨vJ,x2,iF,b1,b2,b3,b4,b5,b6⟩:=(ZH dI Z ob dL N).get (bf t) X;rw[aV]at b2;unfold oK at b6;subst b6;refine⟨vJ,b1,_,b5,λfS g=>⟨λk=>k<y.heap.size,gE,have Ym:=g.size;have G8:=c.o0 g;(YY G8.blk G8.sp x2).mono ?_⟩⟩;rintro _ gz ⟨rfl,a⟩;have iN:=a.size;have q:dc y.heap.size gz eQ _:=(hT.keep bA λk _ E=>g.block k E N).keep bA λk _ E=>a.block k E N;obtain⟨y2,iA,c1,b,l2,fV,c3,c4,e,c6⟩:=T9 q X (W x2) (by rw[s];omega);have iS:=b.size;have ld:=e.size;have T:ay [] dE fV:=((((dL.bG g).bG a).bG b).ph<|e.mono (G:=λk=>dE.heap.size<=k) R).only λk hk=>hk;refine⟨_,I,a.same o,ZX a,y2,iA,c1,b.same o,ZX b,l2,fV,c3,e.same λx K=>?_,λk hk _=>e.block k X R,λiW F=>⟨rM-1,X,t+1,N0,I,I,I,I,I,I,X,X,?_,T.trans F A,by have:=F.size;omega⟩⟩
    .grind
    rw[aX,b2,cK];exact c4.keep bA λk hk E=>F.block k E R
   have iH:=aQ iH;have mK:t=WS z.tg:=X
   subst mK;rw[bm (bc _)]at hT s;rw[Ve];refine(aeu c.blk c.sp d X (hT.slice bA) (by rw[s];omega) (a:=WS ini) X).mono ?_;rintro _ kf ⟨rfl,lH⟩;have nO:=lH.size;refine⟨_,I,lH.same o,λje iL=>⟨λk=>k=b,I,?_⟩⟩;have n8:=iL.size;have lT:ay [] dE je:=(dL.bG lH).trans iL A;have lE:=HR.o0 lT;have T:dc y.heap.size je eQ _:=(hT.keep bA λk _ E=>lH.block k E N).keep bA λk hk E=>iL.block k E R;obtain⟨y3,ky,d1,d2,q',nK,d3,d4,d5,d6,d7⟩:=lE.ag9 (x:=Mj xs (WS ini) bY z) (T.slice bA) (T.roC λg hg=>.inr ⟨(T.blk hg).1,hg⟩) (λk hk=>by
    have hk:=hk.resolve_left id;exact⟨X,λe=>by have:=HR.bi k e;omega,λe=>by have:=HR.bd k e;omega,λe=>by have:=HR.br k e;omega⟩) (by rw[aU,yN,dj];omega)
   have oF:=d2.size;have oN:=d4.size;refine⟨q,Hl lE.blk 3 I,y3,ky,d1,d2.same o,ZX d2,q',nK,d3,d4.same λx K=>?_,λk hk E=>?_,b,3,_,_,I,d6,R,X,X,X,λnL mV mt=>⟨kv-1,X,bY+1,q',N0,X,X,?_,?_⟩⟩
   .simp only[ba,cy,fQ]at K;rcases K with rfl|rfl|rfl
    .exact⟨X,λe=>ce cc<|.inr<|.inr e⟩
    .exact⟨X,λe=>Ng⟩
    exact⟨X,λe=>Ng⟩
   .subst hk;exact d4.block _ E λe=>Ng
   .have e:u.mv.take (bY+1)=u.mv.take bY++[z]:=Nl
    have a:WS (u.mv.take bY)=bY:=R
    rw[e,Gk,a,bS,<-bp];exact d7 nL mV mt
   refine(cc.bG lT).trans ⟨(d2.ph<|d4.mono (G:=λk=>k=b∨Q3 M n q k) λk _ hk=>.inr<|.inr<|.inr hk).trans (mV.p (F:=λk=>k=b) N) X,λk hk=>?_⟩;rcases hk with hk|hk|hk
   .exact .inl (.inl hk)
   .exact .inl (.inr<|.inl hk)
   exact(d5 k hk).imp (λa=>.inr<|.inr a) λa=>X
  have hc:=aQ hc;have oc:bY=WS u.mv:=X
  subst oc;rw[bm (bc _)]at HR;clear me;refine⟨λkv co B=>∃(bY:Nat) (nv T qr:Sl),co=(bY:Int)/\kv+bY=WS C/\bY<=WS C/\La B b F s nv T qr xs (ini++(nf xs u.ini::(EF<|C.take bY).map λc=>nf xs c.ini)) (dft++(nf xs u.dft::(EF<|C.take bY).map λc=>nf xs c.dft)) (r++(LW xs (WS ini) 0 u.mv++uk xs (WS ini+1) (C.take bY)))/\EG b (Q3 i sd sr) H (Q3 nv T qr) B,WS C,⟨0,M,n,q,I,X,bE _,by rw[cr,EF,uk,bq];exact HR,cc⟩,?_⟩;rintro kv _ pe ⟨bY,nv,T,qr,rfl,me,hj,g,a⟩;have oR:=a.1.size;refine⟨λt=>?_,λt=>?_⟩
  .have t:=S t;obtain⟨ad,y,ds,F,a2,a3,a4,a5,q⟩:=(kz a).get (bf bY) X;rw[aV]at a2;have s:=q;obtain⟨b,rfl⟩:∃b,D=b+1:=by
    cases D with
    |zero=>exact q.elim
    |succ b=>exact⟨b,I⟩
   obtain⟨wA,wC,rT,ji,rfl,_⟩:=s;have lG:=mQ a2;have As:=na a2;refine⟨ad,F,_,_,_,_,wA,wC,rT,ji,_,a5,λk8 lS tO rx rK=>?_⟩;have AC:=rK.size;have pm:=g.o0 rK;have nj:WS (ini++(nf xs u.ini::(EF<|C.take bY).map λc=>nf xs c.ini))=WS ini+1+dY (C.take bY):=by
    rw[aU,aY,bP,KK];omega
   have ut:WS (dft++(nf xs u.dft::(EF<|C.take bY).map λc=>nf xs c.dft))=WS dft+1+dY (C.take bY):=by
    simp_all
   have xp:WS (r++(LW xs (WS ini) 0 u.mv++uk xs (WS ini+1) (C.take bY)))<=WS r+(yK u+jF (C.take bY)):=by
    have:=KL xs (C.take bY)<|WS ini+1;rw[aU,aU,yN];omega
   refine(I6 d L (b+1) ((cq aL<|b+1).keep q λk _ E=>rK.block k E N) hG pm X (by rw[nj];omega) X X).mono ?_;rintro _ qj ⟨rfl,ti,AF,tr,pP,pi⟩;have AS:=pi.1.size;have uP:=pm.q3;have wd:=ce a;refine⟨I,pi.1.same λx K=>?_,kv-1,X,bY+1,ti,AF,tr,N0,X,X,?_,(a.bG rK).trans pi⟩
   .simp only[ba,cy,fQ]at K;rcases K with rfl|rfl
    .grind
    exact⟨rx,λc=>c.elim X λc=>by have:=g.q3 _ c;omega⟩
   have e:C.take (bY+1)=C.take bY++[y]:=Nl
   rw[nj]at pP;rw[e,uc,EF,EF,bq,eA,uk,uk,bq,cK,cK,<-bp (LW xs (WS ini) 0 u.mv),<-bp r];simp_all
  have t:=aQ t;have oc:bY=WS C:=X
  subst oc;rw[bm (bc _)]at g;refine⟨I,nv,T,qr,?_,EG.of0 Y a⟩;assumption
end
structure PlR (w:av) (F:h) (s si sd sr:Sl) (p:Pl):Prop where
 sp:aA nS 5 w F s p.sp
 ini:aA rInt 1 w F si p.ini
 dft:aA rInt 1 w F sd p.dft
 ro:aA rRo 7 w F sr p.ro
def PlR.o0{w w'}{F}{s si sd sr}{p}(h:PlR w F s si sd sr p)(O:ay [] w w'):PlR w' F s si sd sr p:=
 ⟨ZH cH Z h.sp O N,ZH bA Z h.ini O N,ZH bA Z h.dft O N,ZH gu Z h.ro O N⟩
def aaQ{c}(h:(kU c).1=0):kU c=(0,0):=by
 let⟨a,b⟩:=wj h;unfold kU;rw[Q (λe=>e a),b];rfl
structure PlO (w0 w:av) (s si sd sr:Sl) (p:Pl):Prop where
 sp:Wx w (λk=>w0.heap.size<=k) 131 5 s
 ro:Wx w (λk=>w0.heap.size<=k) 62 7 sr
 own:∃B,w0.heap.size<=B/\dc B w si p.ini/\dc B w sd p.dft
 ap:∀k,iJ si k->¬iJ sd k
def agq{w:av}{F}{D}{c}{vs}{cs}(hx:ChR aL (D+1) w F c vs cs)(n:Jd c)(l:oQ c.vars+ml c.root<=8388608)(E:Er w)(j:Tb w):
  az aq 5 #[ah (vs.v::cs).toArray] w λe d=>(∃s i sd sr,e=ak (ai #[ah #[s.v,i.v,sd.v,sr.v],ah #[O U (kU c).1,O U (kU c).2]])/\((kU c).1=0->PlR d (λk=>w.heap.size<=k) s i sd sr (gY c)/\PlO w d s i sd sr (gY c))/\((kU c).1≠0->s=Sl.nil/\i=Sl.nil/\sd=Sl.nil/\sr=Sl.nil))/\ay [] w d:=by
 let⟨L,lv,mv,kids,t,_⟩:=hx.root;subst t;refine jK<|azY ?_;intro Q S V w0 M K Y P yq uu T;have:=T.size;let keep:∀{u:av},ay [] w u->ChR aL (D+1) u F c vs _:=λf=>⟨hx.vars.keep fI Z λk _ b=>f.block k b N,(cq aL _).keep hx.root λk _ b=>f.block k b N⟩
 refine(ph2 (keep T) n l (E.only T)<|j.only T).mono ?_;rintro _ w1 ⟨rfl,a⟩;have:=a.size;let p:=T.bG a;refine⟨_,_,I,a.same o,λhc k3 w2 H wz r v y z C n5 n6=>?_,λhc W m q rr yu tA J B=>?_⟩
 .have hc:(kU c).1≠0:=WH
  refine⟨λk=>k=k3,I,P9,P9,λg e=>⟨⟨Sl.nil,Sl.nil,Sl.nil,Sl.nil,I,λh=>absurd h hc,λ_=>⟨I,I,I,I⟩⟩,(p.bG r).trans e λx hx=>.inr OS⟩⟩
 let hc:=WH
 let hp:=(wj hc).1;have:=CF hp;let U:=p.bG B;refine(jx (keep U) n l (E.only U)<|j.only U).mono ?_;rintro _ w5 ⟨⟨s,rfl,F,_⟩,dV⟩;let hS:=F hp;have:=dV.size;refine⟨s,_,I,dV.same o,λw6 O Vx v y z C=>?_⟩;have:=O.size;let o6:=(U.bG dV).trans O R;let aC:=
  (cq aL _).keep ((cq aL _).mono ((cq aL _).inHeap hx.root) λk hk=>hk.2) λk _ b=>o6.block k b N
 let ff:aA nS 5 w6 (λk=>q.heap.size<=k/\k<w5.heap.size) s (cQ c):=ZH cH Z ((PY cH (hS.slice cH) Z).mono cH A) O R;have:∀k,¬Q3 Sl.nil Sl.nil Sl.nil k:=λk hk=>by rcases hk with hk|hk|hk<;>cases hk
 let am:La w6 m _ s Sl.nil Sl.nil Sl.nil _ [] [] []:=⟨⟨ff,R,E7 ..,E7 ..,E7 ..,λk h=>VI,λk h=>VI⟩,Vx⟩
 have:WS (cQ c)=iI c.root:=by unfold cQ;rw[lZ]
 refine(I6 (Ey c) X (D+1) aC X am X R I R).mono ?_;rintro _ w7 ⟨rfl,i,sd,sr,e,m7⟩;refine⟨I,m7.1.same λx hx=>?_,s,i,sd,sr,e.blk,λw8 fD xp=>⟨⟨s,i,sd,sr,by rw[aaQ hc],λ_=>⟨?_,?_⟩,X⟩,?_⟩⟩
 .grind
 .have kp:=λk F h=>fD.block k F h;refine⟨(e.sp.keep cH Z R).mono cH X,((e.i.slice bA).keep bA Z λk hk b=>kp k b ?_).mono bA λk hk=>?_,((e.d.slice bA).keep bA Z λk hk b=>kp k b ?_).mono bA λk hk=>?_,((e.r.slice gu).keep gu Z λk hk b=>kp k b ?_).mono gu λk hk=>?_⟩
  .grind
  .grind
  .grind
  .grind
  .grind
  omega
 .have kp:=λk F x=>fD.block k F x;let D:Wx w5 (λk=>q.heap.size<=k/\k<w5.heap.size) 131 5 s:=hS.roC λg c=>hS.blk c;refine⟨(((D.keep λk hk h=>O.block k h o).keep λk hk h=>m7.1.block k h R).keep R).imp X,((e.r.roC λg c=>e.br g c).keep R).imp X,⟨m+1,X,e.i.keep bA λk hk h=>kp k h ?_,e.d.keep bA λk hk h=>kp k h ?_⟩,λk hk=>(e.ap k hk).1⟩
  .grind
  grind
 refine((o6.ph<|m7.1.mono (G:=λk=>w.heap.size<=k) R).only X).trans fD A
def eD{w}{F}{D}{c}{vs}{cs}(x:ChR aL (D+1) w F c vs cs)(n:Jd c)(b:oQ c.vars+ml c.root<=8388608)(h:Er w)(T:Tb w):
  az aq 5 #[ah (vs.v::cs).toArray] w λe a=>(∃s i sd sr,e=ak (ai #[ah #[s.v,i.v,sd.v,sr.v],ah #[O U (kU c).1,O U (kU c).2]])/\((kU c).1=0->PlR a (λk=>w.heap.size<=k) s i sd sr (gY c)))/\ay [] w a:=
 (agq x n b h T).mono R
end
def kd(x:J dz)(i:Int):Int:=((x[i.toNat]?).map λs:dz=>s.k).getD 0
def oo{xs}{i:Nat}{s}(h:xs[i]? =aM s):kd xs i=s.k:=by
 rw[kd,aV,h];rfl
def Bz(k:Int):C:=(k==1)||(k==2)
def dG(x:J dz)(n:Nat):J Int:=(fi x n<|WS x).filter λk=>Bz<|kd x k
structure Sd (xs:List dz):Prop where
 fo:Fo xs
 le:WS xs<=64
 kn:∀(i:Nat) (s:dz),xs[i]? =aM s->1<=s.k/\s.k<=4
 rt:∃s,xs[0]? =aM s/\s.k=1
 pr:∀(i:Nat) (s:dz),xs[i]? =aM s->s.k=2->dG xs i≠[]
def qL{xs}{i n}{k}:k∈fi xs i n↔∃(q:Nat) (t:dz),k=q/\q<n/\xs[q]? =aM t/\t.pa=i:=by
 rw[fi,dK];constructor
 .rintro⟨q,h,rfl⟩;rw[fO,zE]at h;have:=S h.2;rcases hx:xs[q]? with _|t
  .rw[hx]at this;cases this
  rw[hx]at this;injection this with this;exact⟨q,t,I,h.1,hx,this⟩
 rintro⟨q,t,rfl,h,a,b⟩;exact⟨q,by rw[fO,zE];exact⟨h,bO<|by rw[a];exact bn aM b⟩,I⟩
def mF{xs}{i}{k}:k∈dG xs i↔∃(q:Nat) (t:dz),k=q/\xs[q]? =aM t/\t.pa=i/\Bz t.k=aE:=by
 rw[dG,fO,qL];constructor
 .rintro⟨⟨q,t,rfl,_,h,b⟩,a⟩;rw[oo h]at a;exact⟨q,t,I,h,b,a⟩
 rintro⟨q,t,rfl,h,a,b⟩;exact⟨⟨q,t,I,fG h,h,a⟩,by rw[oo h];exact b⟩
def yO xs i:(dG xs i).Pairwise (· <·):=(G7 xs i<|WS xs).1.filter _
def BA xs i:WS (dG xs i)<=WS xs:=by
 refine bC (ij _ _) ?_;rw[fi,bP];exact bC (ij _ _) (by rw[AK];exact bc _)
def NW:∀{l m:J Int},l.Pairwise (· <·)->m.Pairwise (· <·)->(∀x,x∈l↔x∈m)->l=m
 |[],[],_,_,_=>rfl
 |[],y::m,_,_,h=>absurd ((h y).2<|.head _) N
 |x::l,[],_,_,h=>absurd ((h x).1<|.head _) N
 |x::l,y::m,h,a,b=>by
  rw[gM]at h a;have c:x=y:=by
   have e:=(b x).1<|.head _;have f:=(b y).2<|.head _;rw[ba]at e f;rcases e with e|e
   .exact e
   rcases f with f|f
   .omega
   have:=h.1 y f;have:=a.1 x e;omega
  subst c;rw[NW h.2 a.2 λz=>?_];have d:=b z;rw[ba,ba]at d;constructor
  .intro L;rcases d.1 (.inr L)with e|e
   .exact absurd (h.1 z L) X
   .exact e
  .intro L;rcases d.2 (.inr L)with e|e
   .exact absurd (a.1 z L) X
   .exact e
def Gl(n:Nat)(p:Nat->C):J Int:=((List.range n).filter p).map λk:Nat=>k
def BB n p:Gl (n+1) p=Gl n p++if p n then[(n:Int)]else[]:=by
 unfold Gl;rw[UT,eU,cK];cases h:p n<;>simp[h]
def yP n p:WS (Gl n p)<=n:=by
 rw[Gl,bP];exact bC (ij _ _) (by rw[AK];exact bc _)
def yQ{n}{p}{x}:x∈Gl n p↔∃k:Nat,x=k/\k<n/\p k=aE:=by
 rw[Gl,dK];constructor
 .rintro⟨k,hk,rfl⟩;rw[fO,zE]at hk;exact⟨k,I,hk⟩
 rintro⟨k,rfl,hk⟩;exact⟨k,by rw[fO,zE];exact hk,I⟩
def NX n p:(Gl n p).Pairwise (· <·):=by
 rw[Gl,lW];exact List.Pairwise.imp (R:=_) (λh=>X)<|List.Pairwise.filter _ List.pairwise_lt_range
def XX(x:J dz)(act:J Int)(n:Nat):C:=JW (↑n∈act)&&(kd x n==1)&&(WS (dG x n)==0)
def KM(x:J dz)(act:J Int):J Int:=Gl (WS x)<|XX x act
def Rj(x:J dz)(act:J Int)(n:Nat):Nat:=(dG x n).countP λr=>JW<|r∈act
def D4(x:J dz)(act:J Int)(n:Nat):C:=if kd x n=2 then Rj x act n==WS (dG x n) else Rj x act n==min 1 (WS<|dG x n)
structure aEu (xs:List dz) (act:List Int) (x:Int):Prop where
 ge:0<=x
 lt:x<WS xs
 st:Bz (kd xs x)=aE
 up:x=0∨∀s,xs[x.toNat]? =aM s->s.pa∈act
 on:D4 xs act x.toNat=aE
structure Lg (xs:List dz) (act:List Int):Prop where
 rt:(0:Int)∈act
 rise:act.Pairwise (· <·)
 at_:∀x,x∈act->aEu xs act x
section
variable{xs:J dz}
def Sd.U6(F:Sd xs){n}{r}(b:r∈dG xs n):∃(q:Nat) (t:dz),r=q/\xs[q]? =aM t/\t.pa=n/\Bz t.k=aE/\n<q/\∀s,xs[n]? =aM s->q<s.en:=by
 let⟨q,t,c,h,d,e⟩:=mF.1 b;have:=F.fo.U4 h;refine⟨q,t,c,h,d,e,X,λs f=>?_⟩;let⟨p,m,i,j,g,k,a,_⟩:=F.fo.par h X;have:p=n:=X
 subst this;rw[f]at g;injection g with g;rw[g];exact a
def Sd.apart(F:Sd xs){n q r:Nat}{s t}(a:xs[q]? =aM s)(b:xs[r]? =aM t)(j:s.pa=n)(k:t.pa=n)(h:q<r):s.en<=r:=by
 have:=F.fo.U4 a;let⟨p,o,c,d,e,f,i,g⟩:=F.fo.par b X;refine qB λm=>?_;have:=g q s a h X;omega
theorem Vw{c:Type}{f}{lo hi:c->Int}:∀{s:J c},s.Pairwise (λa b=>hi a<=lo b)->(∀r∈s,(f r).Pairwise (· <·)/\∀x,x∈f r->lo r<=x/\x<hi r)->(s.flatMap f).Pairwise (· <·)
 |[],_,_=>N
 |r::s,p,a=>by
  rw[gM]at p;rw[tF,HU];refine⟨(a r<|.head _).1,Vw p.2 λq h=>a q<|.tail _ h,λx d y b=>?_⟩;let⟨q,h,b⟩:=jp.1 b;have:=(a r<|.head _).2 x d;have:=(a q<|.tail _ h).2 y b;have:=p.1 q h;omega
def PC(x:J dz)(r:Int):Int:=((x[r.toNat]?).map λs:dz=>s.en).getD 0
def sR{i:Nat}{s}(h:xs[i]? =aM s):PC xs i=s.en:=by
 unfold PC;rw[aV,h];rfl
def Sd.Au(h:Sd xs) n {l:J Int} (f:l.Pairwise (· <·)) (m:∀r∈l,r∈dG xs n):l.Pairwise λa b=>PC xs a<=b:=by
 refine List.Pairwise.imp_of_mem (fun{a b} ha hb bJ=>?_) f;obtain⟨q,s,rfl,c,e,_⟩:=h.U6<|m a ha;obtain⟨r,t,rfl,g,d,_⟩:=h.U6<|m b hb;rw[sR c];exact h.apart c g e d X
theorem NY:∀{l:J Int} {lo hi:Int},l.Pairwise (· <·)->(∀x∈l,lo<=x/\x<hi)->lo<=hi->WS l<=hi-lo
 |[],lo,hi,_,_,h=>o
 |a::l,lo,hi,h,m,c=>by
  rw[gM]at h;have:=m a<|.head _;have:=NY (lo:=a+1) (hi:=hi) h.2 (λx b=>⟨by have:=h.1 x b;omega,(m x<|.tail _ b).2⟩) X;rw[aY];omega
end
section
variable{B:Nat}{w w':av}{s:Sl}{l d:J Int}
theorem dc.cells(d:dc B w s l){g}(h:s.a=aM ⟨g,0,VM⟩):∃tail,B<=g/\aF w g 3 (l.map (Value.int U)++tail)/\WS tail=s.c-s.n/\s.n=WS l/\s.n<=s.c/\s.c<=9223372036854775807/\∀x∈l,ri x:=by
 rcases d with⟨rfl,rfl⟩|⟨f,b,tail,i,j,e,q,m,n,p,o⟩
 .cases h
 rw[i]at h;injection h with h;injection h with h;subst h;let s:∀{l:J Int} {b:J _},pJ rInt 1 w (λk=>False/\k≠f) l b->b.flatten=l.map (Value.int U)/\∀x∈l,ri x:=by
  intro l b
  induction l generalizing b with
  |nil=>
   intro d;have:=d.len;cases b with
   |nil=>exact⟨I,λx hx=>V3⟩
   |cons c b=>cases this
  |cons a l k=>
   intro d;cases b with
   |nil=>have:=d.len;cases this
   |cons c b=>
    obtain⟨⟨t,H,z⟩,a⟩:_/\pJ rInt 1 w _ l b:=d;let⟨g,r⟩:=k a;refine⟨by rw[fE,g,H];rfl,λx hx=>?_⟩;rw[ba]at hx;rcases hx with rfl|hx
    .exact z
    exact r x hx
 let⟨g,r⟩:=s o;rw[g]at e;exact⟨tail,j,e,X,m,n,p,r⟩
theorem dc.mk{g}{tail}(d:s.a=aM ⟨g,0,VM⟩)(c:B<=g)(b:aF w g 3 (l.map (Value.int U)++tail))(t:WS tail=s.c-s.n)(n:s.n=WS l)(e:s.n<=s.c)(h:s.c<=9223372036854775807)(i:∀x∈l,ri x):dc B w s l:=by
 refine .inr ⟨g,l.map λx=>[Value.int U x],tail,d,c,?_,X,n,e,h,?_⟩
 .have:(l.map λx=>[Value.int U x]).flatten=l.map (Value.int U):=by
   clear b n i
   induction l with
   |nil=>rfl
   |cons a l f=>rw[ch,fE,f];rfl
  rw[this];exact b
 clear b n
 induction l with
 |nil=>trivial
 |cons a l g=>exact⟨⟨I,I,i a<|.head _⟩,g λx f=>i x<|.tail _ f⟩
theorem dc.U7(h:dc B w s l):(s=Sl.nil/\l=[])∨∃g,s.a=aM ⟨g,0,VM⟩:=by
 rcases h with h|⟨g,c,tail,a,_⟩
 .exact .inl h
 exact .inr ⟨g,a⟩
theorem dc.ofRow{v}(a:w'.ownsRow B 3 1 v (WS l) (l.map<|Value.int U))(i:∀x∈l,ri x):∃s,v=s.v/\dc B w' s l:=by
 rcases a.2 with⟨rfl,n⟩|⟨g,cap,c,rfl,b,d,e,j,f,h⟩
 .have:=cM n;subst this;exact⟨Sl.nil,I,E7 ..⟩
 refine⟨⟨aM _,WS l,cap⟩,I,dc.mk (tail:=c.toList.drop<|WS l) I b ?_ ?_ I e ?_ i⟩
 .rw[lU]at h;rw[<-h,eS,aF,d]
 .dsimp only;rw[cT,kg,f];omega
 have:maxLen=9223372036854775807:=I;dsimp only;omega
end
def TZ{z:J Int}{j:Nat} h:z.toArray[j]! =z[j]:=by
 simp_all
def Vt{z:J Int}(h:z.Pairwise (· <=·)):∀m,m<=(WS z)->(Lib.compactUpTo z.toArray m).Pairwise (· <·)/\∀x,x∈Lib.compactUpTo z.toArray m↔∃j<m,z[j]? =aM x
 |0,_=>by
  refine⟨by simp[Lib.compactUpTo],λx=>⟨λa=>by simp[Lib.compactUpTo]at a,λ⟨j,b,_⟩=>X⟩⟩
 |m+1,c=>by
  let⟨b,a⟩:=Vt h m X;rw[Lib.compactUpTo_succ,TZ X];let D:m<WS z:=X
  by_cases hk:Lib.keeps z.toArray m=aE
  .rw[E hk];refine⟨HU.2 ⟨b,N,λp d q e=>?_⟩,λx=>?_⟩
   .simp at e;let⟨j,g,f⟩:=(a p).1 d;rw[aR X]at f;injection f with f;have hk:=S hk;rcases hk with hk|hk
    .omega
    .rw[TZ D,TZ X]at hk;let k:=fy.1 h (m-1) m X D X;by_cases i:j=m-1
     .grind
     .have l:=fy.1 h j (m-1) X X X;omega
   .rw[cZ,a,bh];constructor
    .rintro(⟨j,f,x⟩|rfl)
     .grind
     .exact⟨m,X,aR D⟩
    grind
  .rw[Q hk,bq];refine⟨b,λx=>(a x).trans ⟨R,λ⟨j,e,f⟩=>?_⟩⟩;by_cases d:j=m
   .subst d;have:=λg=>hk (bO g)
    grind
   grind
def wk{z:J Int}(a:z.Pairwise (· <=·)):(Lib.compact z).Pairwise (· <·)/\∀x,x∈Lib.compact z↔x∈z:=by
 let⟨b,c⟩:=Vt a (WS z) X;refine⟨b,λx=>(c x).trans ⟨λ⟨j,_,h⟩=>be h,λh=>?_⟩⟩;let⟨j,d⟩:=fk h
 grind
def QY(l:J Int):J Int:=Lib.compact<|l.mergeSort λx y=>JW<|x<=y
def CK(l:J Int):(l.mergeSort λx y=>JW<|x<=y).Pairwise (· <=·):=by
 have:=List.pairwise_mergeSort (le:=λx y:Int=>JW<|x<=y) R R l;simp_all
def b25 l:(QY l).Pairwise (· <·):=(wk<|CK l).1
def R5{l}{x}:x∈QY l↔x∈l:=by
 rw[QY,(wk<|CK l).2 x];simp_all
def aaS:QY []=[]:=vD.2 λx h=>by rw[R5]at h;cases h
def acN(z:J Int):WS (Lib.compact z)<=WS z:=by
 unfold Lib.compact Lib.compactUpTo
 grind
section
variable{B:Nat}{w w':av}{s:Sl}{l d:J Int}
theorem dc.cut(h:dc B w s l) k (hk:k<=WS l) (b:s.a≠VM):dc B w ⟨s.a,k,s.c⟩ (l.take k):=by
 rcases h.U7 with⟨rfl,_⟩|⟨g,a⟩
 .exact absurd I b
 let⟨tail,c,d,f,g,i,e,j⟩:=h.cells a;refine dc.mk (tail:=(l.drop k).map (Value.int U)++tail) a c ?_ ?_ ?_ P0 e R
 .rw[<-bp,<-cK,eS];exact d
 .grind
 simp_all
theorem ajT{tail}(hd:WS d=WS l):Sort.putCells (Value.int U) 0 d.toArray ((l.map (Value.int U)++tail).toArray)=(d.map (Value.int U)++tail).toArray:=by
 apply Array.ext_getElem?;intro k;simp only[Sort.putCells,Array.getElem?_mapIdx,oA,oE]
 grind
theorem dc.put(b:dc B w s l){g}(a:s.a=aM ⟨g,0,VM⟩)(hd:WS d=WS l)(j:∀x∈d,ri x) n os:dc B (Sort.grow (Sort.putRow (Value.int U) (Sort.ahead w n) g 0 d.toArray) os) s d/\ay [g] w (Sort.grow (Sort.putRow (Value.int U) (Sort.ahead w n) g 0 d.toArray) os):=by
 let⟨tail,c,h,e,m,f,i,o⟩:=b.cells a;refine⟨dc.mk (tail:=tail) a c ?_ e X f i j,I,I,I,N,λk hk p=>?_⟩
 .rw[aF];rw[Sort.heap_grow_old _ _ (by simpa using h.lt)];show(w.heap.modify g _)[g]? =_;rw[uy,E I,h];show aM _=_;unfold Sort.onCells;dsimp only;rw[ajT hd]
 rw[Sort.heap_grow_old _ _ Wq];show(w.heap.modify g _)[k]? =_
 grind
theorem dc.holds(a:dc B w s l){g}(b:s.a=aM ⟨g,0,VM⟩):Sort.Holds (Value.int U) w g 0 l.toArray:=by
 let⟨tail,c,h,d,e,f,i,k⟩:=a.cells b;intro m j;rw[TZ j,bS];refine⟨?_,?_⟩
 .rw[h.cell,de R,cP,aR j];rfl
 rw[World.frozen?,h];simp
theorem aaT(h:dc B w s l)(m:WS l<=1000000000):az aq 109 #[s.v] w λe w'=>∃b,e=ak b.v/\b.a=s.a/\dc B w' b (QY l)/\aD (λk=>s.a=aM ⟨k,0,VM⟩) w w':=by
 refine jK<|aAs ?_;rcases h.U7 with⟨rfl,rfl⟩|⟨g,a⟩
 .refine(Tryz.slices_Sort_int_none VM 0 w).mono ?_;rintro _ c ⟨rfl,u⟩;obtain rfl:w=c:=u.symm;refine⟨I,(Tryz.slices_Compact_int_empty VM 0 w).mono ?_⟩;rintro _ c ⟨rfl,u⟩;obtain rfl:w=c:=u.symm;exact⟨Sl.nil,I,Sl.nil,I,I,by rw[aaS];assumption,V8 _ _⟩
 have⟨tail,J,t,u,j,v,B,C⟩:=h.cells a;obtain⟨K,sn,sc⟩:=s;dsimp only at a u j v B;subst a j;refine(Tryz.slices_Sort_int g 0 sc l w (h.holds I) t.lt X).mono ?_;rintro _ k ⟨rfl,n,o,rfl⟩;have H:=List.mergeSort_perm l λx y=>JW<|x<=y;have i:=λx c=>C x<|H.mem_iff.1 c;have⟨z,r⟩:=h.put (d:=l.mergeSort λx y=>decide _) I H.length_eq i n o;refine⟨I,?_⟩;have e:QY l=Lib.compact _:=I;have D:=H.length_eq;rw[e];generalize E:Sort.grow _ o=k at*
 generalize f:(l.mergeSort λx y=>JW<|x<=y)=ms at*
 have L:=acN ms;have p:=λx c=>by
  have:=(wk<|CK l).2 x;rw[f]at this;exact this.1 c
 rw[<-D];refine(Tryz.slices_Compact_int g 0 sc ms k (z.holds I) X X).mono ?_;rintro _ M ⟨rfl,q,rfl⟩;have⟨Y,F⟩:=z.put (d:=Lib.compact ms++List.replicate ((WS ms)-(WS<|Lib.compact ms)) 0) I A (λx c=>by
  rw[cZ]at c;rcases c with c|c
  .grind
  rw[(List.mem_replicate.1 c).2];exact⟨Z,Z⟩) q #[]
 have P:=Y.cut (WS<|Lib.compact ms) A N;rw[List.take_left]at P;have G:∀x,x∈[g]->(aM (_:Addr)=aM ⟨x,0,VM⟩)∨w.heap.size<=x:=λx c=>by
  simp at c;subst c;exact .inl I
 exact⟨⟨aM _,_,sc⟩,I,_,I,I,P,(r.mem F N).p G⟩
theorem KN{F}{sa}{act}(h:aA rInt 1 w F sa act)(m:WS act<=1000000000):az aq 39 #[sa.v] w λe w'=>∃s,e=ak s.v/\dc w.heap.size w' s act/\ay [] w w':=by
 let i:∀x∈act,ri x:=λx g=>by
  let⟨c,a⟩:=h.mem g;exact a.2
 let⟨a,n,c⟩:=sa;have f:=h.len;subst f;rcases a with _|d
 .have:=akq h I;subst this;refine(Tryz.slices_Clone_int_nil 0 c w).mono ?_;rintro _ a ⟨rfl,u⟩;obtain rfl:w=a:=u.symm;exact⟨Sl.nil,I,E7 ..,qE _ _⟩
 by_cases a:act=[]
 .subst a;refine(Tryz.slices_Clone_int_zero d c w).mono ?_;rintro _ w' ⟨v,rfl,b,_,e⟩;obtain⟨s,rfl,j⟩:=dc.ofRow (l:=[]) b i;exact⟨s,I,j,YO e⟩
 let⟨q,k,e,_,r,c0,_⟩:=h.at_ 0 _<|aR R;cases e;let⟨b,x,sp⟩:=d;have p:=by
  cases k with
  |nil=>cases r
  |cons v k=>exact World.cell?_spot<|c0 0 v I
 subst p;let P:∀j<(WS act),w.cell? _=aM (.int U<|act.getD j 0):=λj o=>by
  let⟨d,k,e,_,_,c0,c,_⟩:=h.at_ j _<|aR o;injection e with e;subst e c;have:=c0 0 _ I;rw[jS,jS]at this;rw[List.getD_eq_getElem?_getD,aR o];simpa using this
 refine(Tryz.slices_Clone_int b x (WS act) c act w X X P).mono ?_;rintro _ w' ⟨v,rfl,n,_,t⟩;rw[bm X]at n;obtain⟨s,rfl,u⟩:=dc.ofRow (l:=act) n i;exact⟨s,I,u,YO t⟩
end
structure ClI (w:av) (S:h) (XC:FuncId) (cap:aI) (l:List Int) (p:Int->Bool):Prop where
 en:∀(args:Array aw) (w:av),(callFunc XC args).run aq w=.ok (.enter XC args) w
 call:∀x,x∈l->∀u,aD S w u->az aq XC ((O U x::cap):aI).toArray u λe u'=>e=ak (aj (p x))/\ay [] u u'
section
variable{w:av}{s:Sl}{l:J Int}{B XC:Nat}{cap:aI}{p:Int->C}
theorem eO{S F:h}(g:aA rInt 1 w F s l)(t:WS l<=2000000)(q:∀k,F k->S k)(b:ClI w (λ_=>False) XC cap l p){f:OV}(d:f.v=.func (.func XC) #[] cap.toArray):
  az aq 81 #[s.v,f.v] w λe o=>(∃i,e=ak (O U i)/\((i= -1/\∀x∈l,p x=aL)∨∃n:Nat,i=n/\n<WS l/\(l.take n).filter (λx=>!p x)=l.take n/\∀x,l[n]? =aM x->p x=aE))/\ay [] w o:=by
 refine jK<|ZF _ _ _ _<|have:=g.len;⟨λv i u=>∃j:Nat,i=j/\v+j=WS l/\j<=WS l/\(∀x,x∈l.take j->p x=aL)/\ay [] w u,WS l,⟨0,I,X,X,N,qE _ _⟩,?_⟩;rintro v _ u ⟨j,rfl,z,r,m,a⟩;refine⟨λc=>?_,λc=>?_⟩
 .have c:=aN c;let e:j<WS l:=X
  let⟨ad,f,k⟩:=ig (kI g a)<|aR e;refine⟨ad,f,_,k,XC,[],cap,d,b.en,(b.call _ R u a.p0).mono ?_⟩;rintro _ w ⟨rfl,P⟩;have:l.take (j+1)=l.take j++[l[j]]:=A
  refine⟨_,I,λp=>⟨⟨_,I,.inr ⟨j,I,e,?_,λx n=>?_⟩⟩,a.bG P⟩,λd=>⟨v-1,X,j+1,N0,X,X,λx n=>?_,a.bG P⟩⟩
  .simp_all
  .simp_all
  grind
 let c:=aQ c;rw[bm X]at m;simp_all
def yR(d:dc B w s l)(E:WS l<=2000000)(c:ClI w (λk=>s.a=aM ⟨k,0,VM⟩) XC cap l p){f:OV}(y:f.v=.func (.func XC) #[] cap.toArray):
  az aq 40 #[s.v,f.v] w λe z=>∃j:Sl,e=ak j.v/\j.a=s.a/\j.c=s.c/\dc B z j (l.filter λx=>!p x)/\aD (λk=>s.a=aM ⟨k,0,VM⟩) w z:=by
 refine jK<|aqR<|let K:=d.len;let L:=d.cap;(eO (S:=λ_=>True) d.sl E R ⟨c.en,λx q u C=>c.call x q u<|C.mono R⟩ y).mono ?_;rintro _ H ⟨⟨i,rfl,h⟩,o⟩;let r:dc B H s l:=d.keep bA λk _ m=>o.block k m N;refine⟨i,I,λh1=>?_,λh1=>?_⟩
 .have h1:i= -1:=Q1
  rcases h with⟨_,h⟩|⟨n,rfl,_⟩
  .have:l.filter (λx=>!p x)=l:=by
    rw[List.filter_eq_self];intro x q;rw[h x q];rfl
   rw[this];exact⟨s,I,I,I,r,o.p0⟩
  omega
 let h1:i≠ -1:=Q1
 rcases h with⟨h,_⟩|⟨n,rfl,M,f,e⟩
 .exact X
 rw[eI (x:=(n:Int)+1) X X];refine⟨λS i T u=>∃(a b:Nat) (Q:J Int),i=(a:Int)/\T=(b:Int)/\a<b/\b<=WS l/\S=(WS l)-b/\WS Q=WS l/\Q.take a=(l.take b).filter (λx=>!p x)/\Q.drop b=l.drop b/\dc B u s Q/\aD (λk=>s.a=aM ⟨k,0,VM⟩) w u,(WS l)-(n+1),⟨n,n+1,l,I,X,X,X,I,I,?_,I,r,o.p0⟩,?_⟩
 .have:l.take (n+1)=l.take n++[l[n]]:=by rw[aX,aR M];rfl
  rw[this,eU,f];simp[e _ (aR M)]
 rintro S _ _ w2 ⟨a,b,Q,rfl,rfl,am,Dd,rfl,Y,V,W,qO,cF⟩;refine⟨λiH=>?_,λiH=>?_⟩
 .have iH:=aN iH;let qN:b<WS l:=X
  rw[eI (x:=(b:Int)+1) X X];let P:=by
   have:=bn List.head? W;rw[Ud,Ud,aR qN]at this;exact this
  let nj:l.take (b+1)=l.take b++[l[b]]:=by rw[aX,aR qN];rfl
  let aC:Q.drop (b+1)=l.drop (b+1):=by
   have:=bn (List.drop 1) W;simpa[jG]using this
  let⟨ad,a1,a2⟩:=ig qO.sl P;let⟨cs,ff⟩:=qO.sl.mem<|be P;refine⟨λi1 u=>∃(v:Nat) (t:J Int),i1=(v:Int)/\v<b+1/\WS t=WS l/\t.take v=(l.take<|b+1).filter (λx=>!p x)/\t.drop (b+1)=l.drop (b+1)/\dc B u s t/\aD (λk=>s.a=aM ⟨k,0,VM⟩) w u,?_,ad,a1,_,a2,XC,[],cap,y,c.en,(c.call _ R w2 cF).mono ?_⟩
  .rintro _ w ⟨v,t,rfl,a,g,q3,k,n,p⟩;exact⟨(WS l)-(b+1),X,v,b+1,t,I,X,a,X,I,g,q3,k,n,p⟩
  rintro _ w5 ⟨rfl,dV⟩;let aS:dc B w5 s Q:=qO.keep bA λk _ m=>dV.block k m N;let Di:=cF.bG dV;refine⟨_,I,λw=>?_,λw=>?_⟩
  .have w:p l[b]=aL:=by simpa using w
   let⟨g,cells,p1,p2,p3,p4,p5⟩:=MT (x:=l[b]) (n:=a) (vs:=[O U l[b]]) (G:=λ_=>False) bA aS X I ⟨I,ff.2⟩ R Z;refine⟨_,p2,g,a*1,cells,_,I,p3,p4,λw6 dr B=>?_⟩;rw[eI (x:=(a:Int)+1) X X];refine⟨a+1,Q.set a l[b],X,X,by rw[Uw];exact Y,?_,?_,p5 w6 dr B,Di.trans (dr.p (F:=λk=>s.a=aM _) A) λk hk=>.inl hk⟩
   .rw[aX,LO X,V,Ed X,nj,eU];simp[w]
   rw[List.drop_set_of_lt X];exact aC
  let w:p l[b]=aE:=by simpa using w
  refine⟨a,Q,I,X,Y,?_,aC,aS,Di⟩;rw[nj,eU,V];simp[w]
 let iH:¬(b:Int)<s.n:=aQ iH;have n:b=WS l:=X
 subst n;rw[bm (bc _)]at V;obtain⟨O,g,x,B,k3,G⟩:=Own.clear (P:=aq) (t:=31) (ty:=0) (i:=a) bA Z D (λw=>zeroValue3 w) (by intro v p;simp[Value.cells]at p;rcases p with rfl<;>rfl) I qO X;refine⟨a,X,O,x,a,X,_,I,?_,?_,by rw[<-V];exact G,cF.trans (k3.p (F:=λk=>s.a=aM ⟨k,0,VM⟩) A) R⟩
 .simp only[Sl.cut];split
  .rfl
  rw[B];rfl
 exact I
end
end Con
namespace Con
def Kc(x:J dz)(d:Int)(c:Nat):=∃t,x[c]? =aM t/\t.pa=d
def Sb(s:J dz)(d:Int)(x:Nat):Prop:=d<x/\x<WS s/\(d= -1∨∃k:Nat,d=k/\mC s k x)
def SS(s:J dz)(x:Nat):=∃t,s[x]? =aM t/\(t.k=1∨t.k=2)
def Gm(x:J dz)(S:h)(d:Int):=∀c a,Kc x d c->Kc x d a->S c->S a->c=a
structure Gd (xs:List dz) (d:Int) (G:h):Prop where
 ne:∃g,G g
 bl:∀g,G g->Sb xs d g/\SS xs g
 con:∀(n:Nat) (t:dz) (c c' g g':Nat),xs[n]? =aM t->t.k=1->Kc xs n c->Kc xs n c'->G g->G g'->mC xs c g->mC xs c' g'->c=c'
section
variable{xs:J dz}(F:Fo xs){d d':Int}{c c' k n x:Nat}{t:dz}{D:Int->Prop}{S G:h}
include F
theorem Fo.wJ(a:Kc xs d c):Sb xs d c:=by
 obtain⟨t,h,rfl⟩:=a;let l:=fG h;by_cases b:0<c
 .have⟨p,s,e,g,c,_,d,_⟩:=F.par h b;exact⟨X,l,.inr ⟨p,g,s,c,X,d⟩⟩
 have:c=0:=X
 subst this;have:=(F.rt t h).1;exact⟨X,l,.inl this⟩
theorem Fo.acA(b:Sb xs d x)(a:xs[x]? =aM t):t.pa=d∨∃p:Nat,t.pa=p/\Sb xs d p/\p<x/\mC xs p x:=by
 let⟨e,f,h⟩:=b;by_cases c:0<x
 .have⟨p,s,j,l,m,_,q,r⟩:=F.par a c;let d:mC xs p x:=⟨s,m,X,q⟩
  let n:=fG m;rcases h with rfl|⟨k,rfl,u,g,o,i⟩
  .exact .inr ⟨p,l,⟨X,n,.inl I⟩,j,d⟩
  have:=r k u g X i;by_cases s:k=p
  .omega
  exact .inr ⟨p,l,⟨X,n,.inr ⟨k,I,F.qg ⟨u,g,o,i⟩ d this⟩⟩,j,d⟩
 have:x=0:=X
 subst this;rcases h with rfl|_
 .exact .inl (F.rt t a).1
 omega
theorem Fo.Rx(h:Sb xs d k)(g:mC xs k x):Sb xs d x:=by
 let⟨c,f,a⟩:=h;have:k<=x:=by let⟨_,_,h,_⟩:=g;exact h
 refine⟨X,F.C9 g,a.imp id ?_⟩;rintro⟨b,e,m⟩;exact⟨b,e,F.pd m g⟩
theorem Fo.auu(h:Sb xs d k)(g:Sb xs k x):Sb xs d x:=by
 let⟨c,f,a⟩:=g;rcases a with a|⟨b,e,m⟩
 .omega
 have:b=k:=X
 subst this;exact F.Rx h m
theorem Fo.acB:∀x,Sb xs d x->∃c,Kc xs d c/\mC xs c x
 |x,h=>by
  let⟨t,a⟩:=eW h.2.1;rcases F.acA h a with e|⟨p,_,d,J,b⟩
  .exact⟨x,⟨t,a,e⟩,F.nI h.2.1⟩
  let⟨c,e,f⟩:=Fo.acB p d;exact⟨c,e,F.pd f b⟩
theorem Fo.ajw(h:Kc xs d c)(f:Kc xs d c')(g:mC xs c x)(a:mC xs c' x):¬c<c':=λb=>by
 obtain⟨t,i,rfl⟩:=f;let⟨p,s,l,m,n,_,o,e⟩:=F.par i X;let⟨u,j,q,k⟩:=F.qg g a X;have:=e c u j b k;have:=(F.wJ h).1;omega
theorem Fo.Ly(h:Kc xs d c)(b:Kc xs d c')(g:mC xs c x)(a:mC xs c' x):c=c':=by
 have:=F.ajw h b g a;have:=F.ajw b h a g;omega
end
end Con
namespace Con
open Go Go.RowKit Go.Kt Go.Kt.V Vc
def UC(n:Int):Nat:=if 0<=n/\n<=63 then 2 ^ n.toNat else 0
def vF(m:Nat)(n:Int):Nat:=m||| UC n
def pD(l:J Int):Nat:=l.foldl vF 0
def BC n i:(UC n).testBit i=JW (i<64/\n=i):=by
 rw[UC];split
 .rw[Nat.testBit_two_pow,qo];omega
 rw[XO];exact(bR X).symm
def Gn:∀(l:J Int) m i,(l.foldl vF m).testBit i=(m.testBit i||JW (i<64/\↑i∈l))
 |[],m,i=>N
 |n::l,m,i=>by
  rw[ru,Gn l,vF,HV,BC,Bool.or_assoc];congr 1;rw[<-Bool.decide_or,qo,ba];constructor
  .rintro(⟨h,rfl⟩|⟨h,a⟩)
   .exact⟨h,.inl I⟩
   exact⟨h,.inr a⟩
  rintro⟨a,h|h⟩
  .omega
  exact .inr ⟨a,h⟩
def vi l i:(pD l).testBit i=JW (i<64/\↑i∈l):=by
 rw[pD,Gn,XO,Mb]
def kc(x:Nat):J Int:=Gl 64 λi=>x.testBit i
def CL{x}{n}:n∈kc x↔∃k:Nat,n=k/\k<64/\x.testBit k=aE:=yQ
def Xe x:(kc x).Pairwise (· <·):=NX _ _
def IA x:WS (kc x)<=64:=yP _ _
def XY(x:J dz)(d:Int):Nat->Int->Nat->Nat
 |0,_,S=>S
 |f+1,g,S=>if d<g then XY x d f (Nx x g) (vF S g)else S
def tX(x:J dz)(d:Int)(G:J Int)(S:Nat):Nat:=G.foldl (λS g=>XY x d (WS x) g S) S
def N1(x:J dz)(g:Nat->J Int)(S n:Nat):Nat:=
 if S.testBit n then(if kd x n=2 then(dG x n).foldl vF S else if dG x n≠[]/\((dG x n).all λr=>!S.testBit r.toNat)=aE then tX x n (g n) S else S)else S
def qZ(x:J dz)(g:Nat->J Int):Nat->Nat->Nat
 |0,S=>S
 |n+1,S=>N1 x g (qZ x g n S) n
section
variable{xs:J dz}(F:Fo xs)(hl:xs.length<=64)
include F hl
theorem T2{d}(h: -1<=d):∀f g S,g<f->g<(WS xs)->∀m,(XY xs d f g S).testBit m=aE↔S.testBit m=aE∨(d<m/\mC xs m g)
 |0,g,S,a,_,m=>X
 |f+1,g,S,c,i,m=>by
  rw[XY];let⟨t,j⟩:=eW i;by_cases hd:d<g
  .rw[E hd,lz j];let o:∀m,(vF S g).testBit m=aE↔S.testBit m=aE∨m=g:=λm=>by
    rw[vF,HV,BC,cj,bB];exact tI ⟨λc=>X,λc=>⟨X,X⟩⟩
   by_cases z:0<g
   .have⟨p,s,q,k,e,_,l,n⟩:=F.par j z;let d:mC xs p g:=⟨s,e,X,l⟩
    rw[k,T2 h f p _ X (fG e) m,o,or_assoc];refine tI ⟨?_,?_⟩
    .rintro(rfl|⟨a,b⟩)
     .exact⟨hd,F.nI i⟩
     exact⟨a,F.pd b d⟩
    rintro⟨a,u,b,p,f⟩;by_cases r:m=g
    .omega
    have:=n m u b X f;exact .inr ⟨a,F.qg ⟨u,b,p,f⟩ d this⟩
   have:g=0:=X
   subst this;rw[(F.rt t j).1];let e:XY xs d f (-1) (vF S (0:Nat))=vF S (0:Nat):=by
    cases f with
    |zero=>rfl
    |succ f=>unfold XY;rw[Q X]
   rw[e,o];refine tI ⟨?_,?_⟩
   .rintro rfl;exact⟨hd,F.nI i⟩
   rintro⟨_,_,_,b,_⟩;omega
  rw[Q hd];refine⟨.inl,λc=>c.elim id λ⟨a,_,_,b,_⟩=>?_⟩;omega
theorem rQ{d}(a: -1<=d):∀G S,(∀g∈G,qW xs g)->∀m,(tX xs d G S).testBit m=aE↔S.testBit m=aE∨(d<m/\∃g:Nat,↑g∈G/\mC xs m g)
 |[],S,_,m=>⟨.inl,λh=>h.elim id λ⟨_,g,h,_⟩=>YI⟩
 |g::G,S,h,m=>by
  let⟨c,f⟩:=h g<|.head _;obtain⟨g,rfl⟩:∃k:Nat,g=k:=⟨g.toNat,X⟩
  have:=rQ a G (XY xs d (WS xs) g S) (λy b=>h y<|.tail _ b) m;unfold tX at this⊢;rw[ru,this,T2 F hl a _ _ _ X X,or_assoc];refine tI ⟨?_,?_⟩
  .rintro(⟨d,e⟩|⟨d,q,e,i⟩)
   .exact⟨d,g,.head _,e⟩
   exact⟨d,q,.tail _ e,i⟩
  rintro⟨d,q,j,i⟩;rcases ba.1 j with e|e
  .have:q=g:=X
   subst this;exact .inl ⟨d,i⟩
  exact .inr ⟨d,q,e,i⟩
omit F in
theorem aaV {n:Nat} (S m:Nat):((dG xs n).foldl vF S).testBit m=aE↔S.testBit m=aE∨(m:Int)∈dG xs n:=by
 rw[Gn,cj,bB];refine tI ⟨λh=>h.2,λh=>⟨?_,h⟩⟩;obtain⟨q,t,e,h1,_⟩:=mF.1 h;have:=fG h1;omega
end
def alH(x:J dz)(S n:Nat):Prop:=(kd x n=2->∀r,r∈dG x n->S.testBit r.toNat=aE)/\(kd x n=1->dG x n=[]∨∃r,r∈dG x n/\S.testBit r.toNat=aE)
def alH.mono{xs}{S S' n}(a:alH xs S n)(s:∀m,S.testBit m=aE->S'.testBit m=aE):alH xs S' n:=
 ⟨λe r h=>s _<|a.1 e r h,λe=>(a.2 e).imp id λ⟨r,h,b⟩=>⟨r,h,s _ b⟩⟩
section
variable{xs:J dz}(sd:Sd xs){D:Int->Prop}{gl:Nat->J Int}
include sd
theorem tY{n c:Nat}: ↑c∈dG xs n↔Kc xs n c/\SS xs c:=by
 rw[mF];constructor
 .rintro⟨q,t,e,a,b,h⟩;have:q=c:=X
  subst this;refine⟨⟨t,a,b⟩,t,a,?_⟩;rw[Bz,cj,dw,dw]at h;exact h
 rintro⟨⟨t,h,b⟩,u,a,d⟩;rw[h,bN]at a;subst a;refine⟨c,t,I,h,b,?_⟩;rw[Bz,cj,dw,dw];exact d
end
def BD{s}(h:eu s=aE):s≠[]:=λe=>by subst e;exact absurd h Z
mutual
def CM:Nd->J Nd
 |.mk b l=>.mk b l::DE l
def DE:J Nd->J Nd
 |[]=>[]
 |x::l=>CM x++DE l
end
mutual
def BE:∀x,WS (CM x)=iI x
 |.mk b l=>by rw[CM,iI,aY,KO]
def KO:∀l,WS (DE l)=dY l
 |[]=>Mi
 |x::l=>by rw[DE,dY,aU,BE,KO]
end
mutual
def N2:∀x,(CM x).map (λy=>y.b)=CJ x
 |.mk b l=>by rw[CM,CJ,ch,Jf];rfl
def Jf:∀l,(DE l).map (λy=>y.b)=EF l
 |[]=>Mi
 |x::l=>by rw[DE,EF,cK,N2,Jf]
end
def Nj(s:J dz)(v:J (L))(a:Nat)(x:Nd):=∃b p,Bw s (Im a b p x) a/\vE s x.b x.kids a=[]/\(∀m∈x.b.mv,Ez s v m=[])/\qH x.b (WS x.kids)=aE/\∀y∈x.kids,∃d,jZ d y=aE
section
variable{xs:J dz}{vs:J (L)}
theorem y5:∀{l:J Nd} {d:Nat} {y:Nd},iR d l=aE->y∈l->jZ d y=aE
 |[],_,_,_,h=>VI
 |x::l,d,y,h,a=>by
  rw[iR,aO]at h;rcases ba.1 a with rfl|a
  .exact h.1
  exact y5 h.2 a
mutual
def T3:∀(x:Nd) (a d:Nat) (c p:Int),QJ xs vs a x=[]->jZ d x=aE->Bw xs (Im a c p x) a->∀i y,(CM x)[i]? =aM y->Nj xs vs (a+i) y
 |.mk b l,a,d,c,p,f,q,s,i,y,h=>by
  rw[QJ]at f;obtain⟨j,g⟩:=dD.1 f;obtain⟨g,e⟩:=dD.1 g;obtain⟨e,m⟩:=dD.1 e;rw[jZ,aO,aO]at q;obtain⟨⟨_,n⟩,k⟩:=q;rw[CM]at h;cases i with
  |zero=>
   rw[cX,bN]at h;subst h;exact⟨c,p,s,j,λb a=>List.flatMap_eq_nil_iff.1 e b a,n,λy h=>⟨d+1,y5 k h⟩⟩
  |succ i=>
   rw[fP]at h;rw[Im]at s;have D:Bw xs (ui (a+1) a (p+1) l) (a+1):=λi x b=>by rw[ez,qm 1 i];exact s (i+1) x b
   have:=N3 l (a+1) (d+1) a (p+1) m k D i y h;rwa[ez,qm 1 i]at this
def N3:∀(l:J Nd) (a d:Nat) (b p:Int),qX xs vs a l=[]->iR d l=aE->Bw xs (ui a b p l) a->∀i y,(DE l)[i]? =aM y->Nj xs vs (a+i) y
 |[],_,_,_,_,_,_,_,i,y,h=>by rw[DE]at h;simp at h
 |x::l,a,d,b,p,c,k,s,i,y,h=>by
  rw[qX]at c;obtain⟨e,f⟩:=dD.1 c;rw[iR,aO]at k;rw[ui]at s;rw[DE]at h;have H:=BE x;by_cases g:i<iI x
  .rw[de X]at h;exact T3 x a d b p e k.1 s.left i y h
  rw[dR X,H]at h;have r:=s.right;rw[lZ]at r;have:=N3 l (a+iI x) d b p f k.2 r _ y h;rwa[show a+iI x+(i-iI x)=a+i by omega]at this
end
def N4{pa dp}:∀{l:J Nd} {a i:Nat} {s:dz},(ui a pa dp l)[i]? =aM s->s.pa=pa->pa<a->∃y∈l,s.k=y.b.k/\s.nm=y.b.nm
 |[],a,i,s,h,_,_=>by rw[ui]at h;simp at h
 |.mk b k::l,a,i,s,h,d,f=>by
  rw[ui]at h;let c:=lZ a pa dp<|.mk b k;by_cases g:i<iI (.mk b k)
  .rw[de X]at h;let⟨m,n,o,j⟩:=Kv a pa dp _ i s h;by_cases b:i=0
   .subst b;rw[Im,cX,bN]at h;subst h;exact⟨_,.head _,I,I⟩
   let⟨p,t,_,_,e,_⟩:=j X;omega
  rw[dR X,c]at h;let⟨y,a,e⟩:=N4 h d X
  grind
def N5{y}{pa dp}:∀{l:J Nd} a,y∈l->∃(j:Nat) (t:dz),(ui a pa dp l)[j]? =aM t/\t.pa=pa/\t.k=y.b.k
 |[],_,h=>VI
 |.mk b k::l,a,h=>by
  rw[ui];rw[ba]at h;rcases h with rfl|h
  .exact⟨0,_,I,I,I⟩
  obtain⟨j,t,c,d⟩:=N5 _ h;exact⟨WS (Im a pa dp<|.mk b k)+j,t,by rw[dR X,gH];exact c,d⟩
end
structure Snd (c:Ch) (xs:List dz) (vs:List (L)):Prop where
 fo:Fo xs
 le:WS xs<=64
 len:WS xs=iI c.root
 nd:(xs.map λx:dz=>x.nm).Nodup
 rt:c.root.b.k=1
 nice:∀i y,(CM c.root)[i]? =aM y->Nj xs vs i y
def cpy{c}(k:rH c=aE)(d:Bj c=[]):Snd c (cQ c) (Io c):=by
 unfold rH at k;simp only[aO]at k;let⟨a,g⟩:=dD.1 d;let⟨g,b⟩:=dD.1 g;have h:=(opk a).1;rw[(Nz 0 (-1) 0 c.root).symm]at h;let hd:=S k.2;let f:WS (cQ c)=iI c.root:=lZ 0 _ 0 c.root;refine⟨Ey c,X,f,h,hd.1,λi y j=>?_⟩;have:=T3 c.root 0 0 _ 0 b k.1.2 (λi x e=>by rw[bS];exact e) i y j
 grind
def QZ{c}(h:(kU c).1=0):Snd c (cQ c) (Io c):=cpy (tst (wj h).1) (wj h).2
section
variable{c:Ch}{xs:J dz}{vs:J (L)}(N:Snd c xs vs)
include N
theorem Snd.at_{i}{t}(h:xs[i]? =aM t):∃b l a p,(CM c.root)[i]? =aM (.mk b l)/\t=⟨b.k,b.nm,a,p,((i+iI (.mk b l):Nat))⟩/\Bw xs (ui (i+1) i (p+1) l) (i+1)/\vE xs b l i=[]/\(∀m∈b.mv,Ez xs vs m=[])/\qH b (WS l)=aE/\∀y∈l,∃d,jZ d y=aE:=by
 let q:i<WS (CM c.root):=by rw[BE,<-N.len];exact fG h
 obtain⟨y,g⟩:∃y,(CM c.root)[i]? =aM y:=⟨_,aR q⟩
 let⟨a,p,f,j,k,n,o⟩:=N.nice i y g;let⟨b,l⟩:=y;have e:=f 0 _ I;rw[ku,h,bN]at e;refine⟨b,l,a,p,g,?_,λs x r=>?_,j,k,n,o⟩
 .rw[e];congr 1;rw[iI];omega
 have:=f (s+1) x r
 grind
theorem Snd.kn{i:Nat}{t}(c:xs[i]? =aM t):1<=t.k/\t.k<=4:=by
 obtain⟨b,l,p,d,_,rfl,_,_,_,h,_⟩:=N.at_ c;dsimp only;unfold qH at h;by_cases a:fh b.k=aE
 .have:=S a;omega
 rw[Q a]at h
 grind
theorem Snd.hk(n k:Nat)(d:Kc xs n k):SS xs n:=by
 have h:=N.fo.wJ d;let⟨g,i,a⟩:=h;rcases a with a|⟨m,e,f,u,j,c⟩
 .omega
 have:m=n:=X
 subst this;refine⟨f,u,?_⟩;obtain⟨b,l,k,p,_,rfl,_,_,_,h,_⟩:=N.at_ u;dsimp only at c⊢;unfold qH at h;by_cases e:fh b.k=aE
 .rw[E e]at h;simp only[aO]at h;have:=(S h.2.2).2.2.2.2;have:=mY.1 this;subst this;rw[iI,dY]at c;omega
 simp_all
theorem Snd.aha{n}{t}{b}{l}{dp}(g:xs[n]? =aM t)(d:t.en=((n+iI (.mk b l):Nat):Int))(f:Bw xs (ui (n+1) n (dp+1) l) (n+1))(h:dG xs n≠[]):0<DZ l:=by
 let⟨r,h⟩:=gj _ h;obtain⟨q,j,rfl,u,p,hk⟩:=mF.1 h;let⟨o,w,a⟩:=N.fo.wJ ⟨j,u,p⟩;rcases a with a|⟨m,e,v,c,x,k⟩
 .omega
 have:m=n:=X
 subst this;rw[g,bN]at c;subst c;rw[d,iI]at k;have:=tT (m+1) m (dp+1) l;let⟨s,D⟩:=eW (xs:=ui (m+1) m (dp+1) l) (i:=q-(m+1)) X;have:=f _ s D;rw[show m+1+_=q by omega,u,bN]at this;subst this;let⟨y,b,e,_⟩:=N4 D p X;refine List.length_pos_of_mem<|fO.2 ⟨b,?_⟩;unfold Bz at hk;rw[cj,dw,dw]at hk;unfold fh
 grind
theorem Snd.U8{n}{l}{dp}(s:Bw xs (ui (n+1) n (dp+1) l) (n+1))(c:0<DZ l):dG xs n≠[]:=by
 obtain⟨y,h⟩:=List.exists_mem_of_length_pos c;obtain⟨h,a⟩:=fO.1 h;obtain⟨j,t,d,e,f⟩:=N5 (pa:=n) (dp:=dp+1) _ h;have b:=s j t d;have:=N.kn b;have m:=mF.2 ⟨_,t,I,b,e,by
  unfold fh at a;rw[dS,dk]at a;unfold Bz
  grind⟩
 grind
theorem Snd.sd:Sd xs:=by
 refine⟨N.fo,N.le,λi s h=>N.kn h,?_,λi s a hk=>?_⟩
 .obtain⟨t,f⟩:=eW N.fo.ne;refine⟨t,f,?_⟩;obtain⟨b,l,k,p,d,rfl,_⟩:=N.at_ f;have e:=N.rt;generalize c.root=r at d e;let⟨g,j⟩:=r;rw[CM,cX,bN]at d;injection d with d;subst d;exact e
 obtain⟨b,l,e,p,_,rfl,d,c,_⟩:=N.at_ a;dsimp only at hk;unfold vE at c;rw[Q (by unfold fh;rw[hk];decide),E hk]at c;have:=wc.1 c;rw[aO,bB,bB]at this;exact N.U8 d X
theorem Snd.ini{n}{t}{b}(f:xs[n]? =aM t)(k:(CJ c.root)[n]? =aM b)(i:t.k=1)(s:dG xs n≠[]):∃q:Nat,nf xs b.ini=q/\Kc xs n q:=by
 obtain⟨a,A,B,w,l,rfl,j,h,_,z,r⟩:=N.at_ f;have m:a=b:=by
  rw[<-N2,cP,l]at k;injection k
 subst m;dsimp only at i;unfold vE at h;rw[Q (by unfold fh;rw[i];decide),Q X,E<|N.aha f I j s]at h;let O:=wc.1 h;let⟨u,x,g,o,p,_⟩:=nw3 O j;let v:a.ini≠[]:=by
  let⟨y,c,e⟩:=gW.1 O;rw[<-S e];let⟨d,hd⟩:=r y c;let⟨b,n⟩:=y;rw[jZ,aO,aO]at hd;have:=hd.1.2;unfold qH at this;rw[aO]at this;exact BD this.1
 refine⟨u,?_,x,g,p⟩;unfold nf;rw[Q v,<-o];exact frD N.nd g
theorem Snd.dft{n:Nat}{t}{b}(f:xs[n]? =aM t)(g:(CJ c.root)[n]? =aM b)(a:fh t.k=aE):∃q:Nat,nf xs b.dft=q/\SS xs q/\Sb xs t.pa q:=by
 let⟨e,B,C,y,m,s,z,d,_,h,A⟩:=N.at_ f;have p:e=b:=by
  rw[<-N2,cP,m]at g;injection g
 subst p;let o:t.k=e.k:=by rw[s]
 rw[o]at a;unfold vE at d;rw[E a]at d;have:=wc.1 d;rw[aO,sO]at this;let⟨l,v,w,r,j,Z,i⟩:=this;unfold LU at l;rw[aO,bB]at l;unfold qH at h;rw[E a]at h;simp at h;let k:=N.fo.C9 i;let⟨x,u⟩:=eW k;refine⟨w,?_,⟨x,u,?_⟩,?_⟩
 .unfold nf;rw[Q (BD h.2.1)];exact j
 .have hk:=l.2;rw[j,fz u]at hk;have:=N.kn u;unfold fh at hk
  grind
 rw[<-lz f,r];exact⟨X,k,.inr ⟨v,I,i⟩⟩
end
def Cn(x:J dz)(G:h):=∀(n:Nat) t c a g b,x[n]? =aM t->t.k=1->Kc x n c->Kc x n a->G g->G b->mC x c g->mC x a b->c=a
abbrev EH:=Int->Option (J Int)
def eX(x:J dz)(dft:J Int)(M:EH)(t:Int):J Int:=
 if t<0∨(WS x)<=t then[]else if fh (kb x t)then(match M t with
  |some l=>l
  |none=>[(dft[t.toNat]?).getD 0])else[t]
def sU(x:J dz)(M:EH):=∀(n:Nat) t l,x[n]? =aM t->fh t.k=aE->M n=aM l->l≠[]/\(∀g∈l,∃k:Nat,g=k/\SS x k/\Sb x t.pa k)/\Cn x λk=>↑k∈l
def sU.none xs:sU xs λ_=>VM:=λ_ _ _ _ _ h=>VI
def Mn:=@sU.none
def N6{c:Type}{R}:∀{l:J c} {a b:c},l.Pairwise R->a∈l->b∈l->a≠b->R a b∨R b a
 |[],_,_,_,h,_,_=>VI
 |x::l,a,b,h,e,f,n=>by
  rw[gM]at h;rcases ba.1 e with rfl|d<;>rcases ba.1 f with rfl|w
  .exact absurd I n
  .grind
  .grind
  exact N6 h.2 d w n
def T0{xs}:∀{r:J _} {l:J Int},Ny xs l r=aE->(∀s∈r,∀o∈l,Py xs (DY xs s) o=aE)/\r.Pairwise λs a=>Py xs (DY xs a) (DY xs s)=aE
 |[],l,_=>A
 |s::r,l,h=>by
  rw[Ny]at h;by_cases b:gr xs s<1
  .grind
  rw[Q b]at h;by_cases c:(l.any λo=>!Py xs (DY xs s) o)=aE
  .grind
  rw[Q c]at h;let⟨g,d⟩:=T0 h;simp_all
section
variable{xs:J dz}(F:Fo xs)
include F
theorem Fo.ahb{a b}(f:a<WS xs)(g:b<WS xs):∃m:Nat,DA xs a b=m/\mC xs m a/\mC xs m b/\∀j,mC xs j a->mC xs j b->j<=m:=by
 let k:∀j:Nat,(mR xs j a&&mR xs j b)=aE↔mC xs j a/\mC xs j b:=λj=>by
  rw[aO,sM,sM]
  grind
 rcases u9 (xs:=xs) a b (WS xs) with⟨_,h⟩|⟨m,c,i,d,l⟩
 .have:=h 0 F.ne;rw[(k 0).2 ⟨F.vq f,F.vq g⟩]at this;cases this
 let⟨a,b⟩:=(k m).1 d;refine⟨m,c,a,b,λj Y n=>qp λJ=>?_⟩;have:j<WS xs:=by
  let⟨_,e,_⟩:=Y;omega
 grind
theorem Fo.acC{a b}(y:a<WS xs)(q:b<WS xs)(h:Py xs a b=aE){n c o g x:Nat}{t}(C:xs[n]? =aM t)(H:t.k=1)(z:Kc xs n c)(A:Kc xs n o)(s:mC xs a g)(D:mC xs b x)(j:mC xs c g)(w:mC xs o x):c=o:=by
 let⟨k,e,u,p,l⟩:=F.ahb y q;rw[Py,aO,bB,bB,e]at h;let⟨_,B⟩:=h;let m:=F.pd u s;let v:mC xs n c:=by
  let⟨_,_,a⟩:=F.wJ z
  grind
 let E:mC xs n o:=by
  let⟨_,_,a⟩:=F.wJ A
  grind
 let i:=F.pd v j;let f:=F.pd E w;rcases Nat.lt_trichotomy n k with J|r|G
 .have a:=F.qg i m X;let⟨c0,b,c⟩:=F.acB (d:=n) k ⟨X,F.C9 a,.inr ⟨n,I,a⟩⟩;have:=F.Ly z b j<|F.pd c m;have:=F.Ly A b w<|F.pd c<|F.pd p D;omega
 .subst r;rw[fz C]at B;omega
 ·
  by_cases c:n<=a
  .have a:=F.qg i s c;by_cases K:n<=b
   .have:=l n a<|F.qg f D K;omega
   .have:=F.qg D f X;have:=l b (F.pd this a)<|F.nI q;let d:k<=b:=by let⟨_,_,h,_⟩:=p;exact h
    omega
  ·
   let cg:=F.pd (F.qg s i X) f;rcases Nat.le_total a b with d|d
   .have:=l a (F.nI y)<|F.qg cg D d;let b:k<=a:=by let⟨_,_,h,_⟩:=u;exact h
    omega
   .have:=l b (F.qg D cg d)<|F.nI q;have:k<=b:=by let⟨_,_,h,_⟩:=p;exact h
    omega
end
section
variable{xs:J dz}(F:Fo xs){l:J Int}
include F
theorem tD:∀f d,d<(WS xs)->d<=f->(∀n∈l,∃k:Nat,n=k/\mC xs d k)->∃r:Nat,HA xs l f d=r/\r<WS xs/\(∀n∈l,∃k:Nat,n=k/\mC xs r k)/\(r=0∨kb xs r=1/\↑r∉l)
 |0,d,h,f,c=>⟨d,I,h,c,.inl X⟩
 |f+1,d,h,a,c=>by
  rw[HA];by_cases hd:0<(d:Int)/\(kb xs d≠1∨ ↑d∈l)
  .rw[E hd];let⟨t,b⟩:=eW h;let⟨p,s,l,d,g,_,i,_⟩:=F.par b X;rw[lz b,d];exact tD f p X X λn j=>by
    let⟨k,e,hk⟩:=c n j;exact⟨k,e,F.pd ⟨s,g,X,i⟩ hk⟩
  grind
theorem clk{a}{tg}(b:a<WS xs)(h:∀t∈tg,qW xs t)(i:tg≠[]):∃r:Nat,D3 xs a tg=r/\r<WS xs/\(∀n,n∈ ↑a::tg->∃k:Nat,n=k/\mC xs r k)/\(r=0∨kb xs r=1/\↑r∉ ↑a::tg):=by
 unfold D3 rV;rw[Q i,Q]
 .rcases xY xs _ (WS xs) with⟨_,g⟩|⟨q,c,d,e,f⟩
  .have:=g 0 F.ne;rw[tV.2]at this
   .cases this
   intro n g;rcases ba.1 g with rfl|g
   .exact⟨a,I,F.vq b⟩
   let⟨a,j⟩:=h n g;exact⟨n.toNat,X,F.vq X⟩
  rw[c];exact tD F _ q d X<|tV.1 e
 rintro(e|e)
 .cases e
 let⟨n,a,c⟩:=gW.1 e;rw[dS,iM]at c;refine c<|Bx.2 ?_;rcases ba.1 a with rfl|a
 .exact⟨X,X⟩
 exact h n a
end
section
variable{c:Ch}{xs:J dz}{vs:J (L)}(N:Snd c xs vs){M:EH}(hM:sU xs M){dft:J Int}(Pn:dft=(CJ c.root).map λb=>nf xs b.dft)
include N hM Pn
theorem Snd.acD{n:Nat}{t}(h:xs[n]? =aM t):eX xs dft M n≠[]/\(Cn xs λk=>↑k∈eX xs dft M n)/\∀g,g∈eX xs dft M n->∃k:Nat,g=k/\SS xs k/\((fh t.k=aL/\k=n)∨(fh t.k=aE/\Sb xs t.pa k)):=by
 rw[eX];let l:=fG h;rw[Q X,fz h];have:=N.kn h;cases d:fh t.k
 .refine⟨W0,λp u a k g c m o e f b D i j=>?_,λg b=>⟨n,by simpa using b,⟨t,h,?_⟩,R⟩⟩
  .have a:=Mc (show(g:Int)=n by simpa using b);have q:=Mc (show(c:Int)=n by simpa using D);subst a q;exact N.fo.Ly e f i j
  rw[fh]at d
  grind
 cases m:M n with
 |some a=>
  let⟨g,b,c⟩:=hM n t a h d m;simp_all
 |none=>
  let f:n<WS (CJ c.root):=by rw[tW,<-N.len];exact l
  obtain⟨b,f⟩:∃b,_[n]? =aM b:=⟨_,aR f⟩
  let⟨q,e,w,x⟩:=N.dft h f d;let k:(dft[(n:Int).toNat]?).getD 0=q:=by
   simp_all
  rw[k];refine⟨W0,λy z a v g o _ _ p r u D s t=>?_,R⟩;have i:=Mc (show(g:Int)=q by simpa using u);have j:=Mc (show(o:Int)=q by simpa using D);subst i j;exact N.fo.Ly p r s t
theorem Snd.amz{n}{t}{b}(j:xs[n]? =aM t)(m:(CJ c.root)[n]? =aM b)(l:t.k=1)(r:dG xs n≠[]):Gd xs n (λg=>↑g∈eX xs dft M (nf xs b.ini))/\∀g,g∈eX xs dft M (nf xs b.ini)->qW xs g:=by
 let⟨q,e,o⟩:=N.ini j m l r;let⟨s,u,p⟩:=o;rw[e];let⟨d,f,i⟩:=N.acD hM Pn u;let a:∀g,g∈eX xs dft M q->∃k:Nat,g=k/\SS xs k/\Sb xs n k:=λg h=>by
  obtain⟨k,b,c,⟨_,e⟩|⟨_,n⟩⟩:=i g h
  .exact⟨k,b,c,by rw[e];exact N.fo.wJ ⟨s,u,p⟩⟩
  simp_all
 refine⟨⟨?_,λg h=>?_,f⟩,λg h=>?_⟩
 .have⟨g,h⟩:=gj _ d
  grind
 .grind
 let⟨k,e,c,b⟩:=a _ h;exact⟨X,by have:=b.2.1;omega⟩
theorem Snd.ahc{a:Nat}{t}{b}{m}(i:xs[a]? =aM t)(z:(CJ c.root)[a]? =aM b)(w:m∈b.mv)(C:m.tg≠[]):
  (∀s,s∈m.tg.map (nf xs)->qW xs s)/\∃d:Nat,D3 xs a (m.tg.map<|nf xs)=d/\kd xs d=1/\mC xs d a/\Gd xs d (λk=>∃s,s∈m.tg.map (nf xs)/\↑k∈eX xs dft M s)/\∀s,s∈m.tg.map (nf xs)->∀g,g∈eX xs dft M s->qW xs g:=by
 obtain⟨y,Y,Z,W,L,rfl,_,_,V,o,_⟩:=N.at_ i;have P:y=b:=by
  rw[<-N2,cP,L]at z;injection z
 subst P;have F:=N.fo;let D:=by
  have:=V m w;let⟨_,this⟩:=dD.1 this;let⟨_,this⟩:=dD.1 this;let⟨_,this⟩:=dD.1 this;exact wc.1 this
 let K:=λs h=>by
  rw[qH]at o;by_cases a:fh y.k=aE
  .rw[E a]at o;simp only[aO]at o;have:=mY.1 (S o.2.2).2.2.2.1;rw[this]at w;cases w
  rw[Q a]at o;simp only[aO]at o;have:=gv.1 o.2.2 m w;rw[nq]at this;simp only[aO]at this;exact BD<|gv.1 this.1.2 s h
 let J:∀s∈m.tg,∃(k:Nat) (u:dz),nf xs s=k/\1<=k/\xs[k]? =aM u/\gr xs s=k:=λs h=>by
  let j:=(KJ D) s h;rcases jf xs s with⟨e,_⟩|⟨k,u,e,a,_⟩
  .omega
  refine⟨k,u,?_,X,a,e⟩;rw[nf,Q<|K s h];exact e
 let H:∀s,s∈m.tg.map (nf xs)->qW xs s:=λs h=>by
  obtain⟨s,a,rfl⟩:=dK.1 h;let⟨k,u,e,_,b,_⟩:=J s a;exact⟨X,by have:=fG b;omega⟩
 refine⟨H,?_⟩;let⟨d,e,hd,B,r⟩:=clk F (fG i) H (by simpa using C);let G:kd xs d=1:=by
  let⟨u,a⟩:=eW hd;rw[oo a];rcases r with rfl|⟨hk,_⟩
  .have⟨s,h,hk⟩:=N.sd.rt;rw[a,bN]at h;subst h;exact hk
  rwa[fz a]at hk
 let x:mC xs d a:=by
  let⟨k,l,hk⟩:=B a<|.head _;have:k=a:=X
  rw[<-this];exact hk
 let T:∀s∈m.tg,∀k:Nat,nf xs s=k->1<=k->Sb xs d k:=λs h k l j=>by
  let b:=dK.2 ⟨s,h,l⟩;let⟨a,e,hk⟩:=B k<|.tail _ b;have:a=k:=X
  subst this;let c:d<=a:=by let⟨_,_,i,_⟩:=hk;exact i
  refine⟨?_,F.C9 hk,R⟩;rcases r with rfl|⟨_,n⟩
  .omega
  have:d≠a:=R
  omega
 let f:∀s∈m.tg,∃A:Nat,DY xs s=A/\A<WS xs/\∀g,g∈eX xs dft M (nf xs s)->∃k:Nat,g=k/\SS xs k/\mC xs A k/\Sb xs d k:=λs h=>by
  let⟨k,u,l,j,a,m⟩:=J s h;let⟨_,_,c⟩:=N.acD hM Pn a;let b:=T s h k l j;rw[DY,m,fz a,l,lz a];cases d:fh u.k
  .refine⟨k,I,fG a,λg s=>?_⟩;obtain⟨q,eq,p,⟨_,e⟩|⟨n,_⟩⟩:=c g s
   .subst e;exact⟨q,eq,p,F.nI<|fG a,b⟩
   rw[d]at n;cases n
  let⟨p,N,M,n,s,_⟩:=F.par a X;refine⟨p,by rw[E I];exact n,fG s,λg v=>?_⟩;obtain⟨q,eq,t,⟨k,_⟩|⟨_,k⟩⟩:=c g v
  .rw[d]at k;cases k
  rw[n]at k;let am:mC xs p q:=by
   obtain⟨_,_,e|⟨p',qj,e⟩⟩:=k
   .omega
   have:p'=p:=X
   rw[<-this];exact e
  refine⟨q,eq,t,am,?_⟩;rcases F.acA b a with e|⟨p',qj,g,_⟩
  .rw[<-e,n];exact k
  have:p'=p:=X
  subst this;exact F.auu g k
 refine⟨d,e,G,x,⟨?_,?_,?_⟩,?_⟩
 .have⟨s,h⟩:=gj _ C;let⟨k,u,l,j,d,_⟩:=J s h;let⟨b,_,_⟩:=N.acD hM Pn d;let⟨g,a⟩:=gj _ b;rw[<-l]at a;let⟨A,_,_,c⟩:=f s h;let⟨q,eq,_⟩:=c g a;exact R
 .rintro g ⟨_,h,e⟩;obtain⟨s,a,rfl⟩:=dK.1 h;let⟨A,_,_,d⟩:=f s a;let⟨q,eq,b,_,c⟩:=d g e;have:q=g:=X
  subst this;exact⟨c,b⟩
 .rintro n u k k' g g' hn j hk kz ⟨_,h,hg⟩ ⟨_,ff,bJ⟩ b a;obtain⟨s,M,rfl⟩:=dK.1 h;obtain⟨s',c,rfl⟩:=dK.1 ff;let⟨A,gz,m,hA⟩:=f s M;let⟨A',aC,d,aS⟩:=f s' c;let⟨q,eq,_,p,_⟩:=hA g hg;let⟨q',aT,_,e,_⟩:=aS g' bJ;have:q=g:=X
  subst this;have:q'=g':=X
  subst this;by_cases t:s=s'
  .subst t;let⟨bv,v,g,_,hv,_⟩:=J s M;let⟨_,g2,_⟩:=N.acD hM Pn hv;rw[g]at hg bJ;exact g2 n u k k' q q' hn j hk kz hg bJ b a
  have g:=N6 ((T0 D).2) M c t;rw[gz,aC]at g;rcases g with i|i
  .exact(F.acC d m i hn j kz hk e p a b).symm
  exact F.acC m d i hn j hk kz p e b a
 rintro _ h g d;obtain⟨s,a,rfl⟩:=dK.1 h;let⟨A,_,_,c⟩:=f s a;let⟨q,eq,_,_,b⟩:=c g d;exact⟨X,by have:=b.2.1;omega⟩
end
def IC{p}{a b}(n:a≠b)(c:p a=aE)(d:p b=aE):∀{l:J Int},a∈l->b∈l->2<=l.countP p
 |[],h,_=>VI
 |x::l,a,b=>by
  have:∀{y:Int},p y=aE->y∈l->1<=l.countP p:=R
  rcases ba.1 a with rfl|h<;>rcases ba.1 b with rfl|w
  .omega
  .grind
  .grind
  have:=IC n c d h w
  grind
section
variable{xs:J dz}(sd:Sd xs){act:J Int}(A:Lg xs act)
include sd A
theorem wl{x}(a:x∈act):∃n:Nat,x=n/\n<WS xs/\SS xs n:=by
 let⟨b,c,g,_,_⟩:=A.at_ x a;let⟨t,h⟩:=eW (xs:=xs) (i:=x.toNat) X;refine⟨x.toNat,X,X,t,h,?_⟩;have:kd xs x=t.k:=by rw[show x=x.toNat by omega];exact oo h
 rw[this,Bz]at g;simp_all
theorem T8:∀(x k:Nat),↑x∈act->mC xs k x->↑k∈act
 |x,k,a,h=>by
  by_cases e:k=x
  .rw[e];exact a
  let J:k<x:=by let⟨_,_,m,_⟩:=h;omega
  let⟨_,l,_,g,_⟩:=A.at_ x a;let⟨t,b⟩:=eW<|sd.fo.C9 h;let⟨p,s,j,c,d,_,f,i⟩:=sd.fo.par b X;rcases g with g|g
  .omega
  have n:=g t (by rw[aV];exact b);rw[c]at n;let⟨u,o,r,q⟩:=h;have:=i k u o J q;exact T8 p k n<|sd.fo.qg R ⟨s,d,X,f⟩ this
theorem atA:Cn xs λk=>↑k∈act:=λn t c d g f m w h v l D i j=>by
 let a:=T8 sd A g c l i;let b:=T8 sd A f d D j;let o:mC xs n c:=by
  obtain⟨_,_,c|⟨k,e,c⟩⟩:=sd.fo.wJ h
  .omega
  grind
 let s:∀{x:Nat},(x:Int)∈act->SS xs x:=fun{x} hx=>by
  let⟨g,e,_,c⟩:=wl sd A hx
  grind
 let q:=(tY sd).2 ⟨h,s a⟩;let u:=(tY sd).2 ⟨v,s b⟩;refine bK λz=>?_;have:=IC (p:=λr=>JW<|r∈act) X R R q u;have:=(A.at_ n<|T8 sd A c n a o).on;unfold D4 Rj at this;rw[aV,oo m,Q X,dw]at this;omega
theorem eR{n:Nat}(a: ↑n∈act)(c:dG xs n≠[]):∃q:Nat,↑q∈dG xs n/\↑q∈act:=by
 have:=(A.at_ n a).on;unfold D4 Rj at this;rw[aV]at this;have:=xd.2 c;let b:0<(dG xs n).countP λr=>JW (r∈act):=by
  grind
 let⟨r,h,d⟩:=List.countP_pos_iff.1 b;obtain⟨q,_,rfl,_⟩:=mF.1 h
 grind
theorem AA:∀f n,(WS xs)-n<=f->↑n∈act->∃y,↑y∈KM xs act/\mC xs n y
 |0,n,f,h=>by
  let _:=wl sd A h;omega
 |f+1,n,b,h=>by
  let⟨m,e,a,s⟩:=wl sd A h;have:m=n:=X
  subst this;by_cases r:dG xs m=[]
  .refine⟨m,?_,sd.fo.nI a⟩;let⟨t,c,hk⟩:=s;let d:t.k=1:=by
    rcases hk with hk|hk
    .exact hk
    exact absurd r<|sd.pr m t c hk
   refine yQ.2 ⟨m,I,a,?_⟩;rw[XX,bO h,oo c,d,r];rfl
  let⟨q,j,g⟩:=eR sd A h r;let c:=sd.fo.wJ ((tY sd).1 j).1;let⟨y,l,i⟩:=AA f q (by have:=c.1;omega) g;refine⟨y,l,?_⟩;obtain⟨_,_,d|⟨k,e,d⟩⟩:=sd.fo.Rx c i
  .omega
  grind
end
def yd(x:J dz)(act left:J Int)(M:EH):EH:=λh=>match(if h<0 then VM else x[h.toNat]?)with
 |some t=>if fh t.k&&JW (t.pa∈act)&&JW (t.pa∈left)then aM (if t.k=4 then(KM x act).filter λk=>oO x k t.pa else(fi x t.pa.toNat<|WS x).filter λk=>JW<|k∈act)else M h
 |none=>M h
section
variable{c:Ch}{xs:J dz}{vs:J (L)}(N:Snd c xs vs){M:EH}(hM:sU xs M){act left:J Int}(A:Lg xs act)
include N hM A
theorem Snd.amA:sU xs (yd xs act left M):=λn t l d f h=>by
 rw[yd,Q X,aV,d]at h;dsimp only at h;by_cases c:(fh t.k&&JW (t.pa∈act)&&JW (t.pa∈left))=aE
 .rw[E c,bN]at h;simp at c;let⟨⟨_,H⟩,_⟩:=c;let sd:=N.sd;let⟨p,s,K,B⟩:=wl sd A H;let r:Kc xs p n:=⟨t,d,s⟩
  let J:dG xs p≠[]:=by
   let⟨u,a,hk⟩:=B;rcases hk with hk|hk
   .obtain⟨b,g,t,q,_,rfl,i,j,_⟩:=N.at_ a;dsimp only at hk;rw[vE,Q<|by unfold fh;rw[hk];decide,Q X]at j;by_cases n:0<DZ g
    .exact N.U8 i n
    rw[Q n]at j;have:g=[]:=mY.1<|S<|wc.1 (dD.1 j).2;subst this;obtain⟨y,_,A|⟨k,e,v,b,M,x⟩⟩:=sd.fo.wJ r
    .omega
    have:k=p:=X
    subst this;rw[a,bN]at b;subst b;dsimp only at x;rw[iI,dY]at x;omega
   exact sd.pr p u a hk
  have:∀{x:Int},x∈act->∃k:Nat,x=k/\SS xs k:=λo=>by
   let⟨z,e,_,a⟩:=wl sd A o
   grind
  let sub:∀x∈l,x∈act/\∃k:Nat,x=k/\Sb xs t.pa k:=λx o=>by
   subst h;split at o
   .have⟨m,i⟩:=fO.1 o;obtain⟨k,rfl,hk,a⟩:=yQ.1 m;rw[XX]at a;simp at a;let⟨q,b,e,g,n,p⟩:=sO.1 i;have:b=k:=X
    subst this;exact⟨a.1.1,b,I,X,hk,R⟩
   let⟨m,i⟩:=fO.1 o;obtain⟨q,u,rfl,_,a,p⟩:=qL.1 m;refine⟨S i,q,I,sd.fo.wJ ⟨u,a,?_⟩⟩;omega
  refine⟨?_,λg w=>?_,λz u a C g F m i j G w D=>atA sd A z u a C g F m i j G (sub _ w).1 (sub _ D).1⟩
  .have⟨q,n,b⟩:=eR sd A R J;let⟨g,p⟩:=(tY sd).1 n;subst h;split
   .have⟨y,t,c⟩:=AA sd A (WS xs) q X b;refine List.ne_nil_of_mem (a:=↑y)<|fO.2 ⟨t,sO.2 ?_⟩;obtain⟨m,i,j|⟨k,e,j⟩⟩:=sd.fo.Rx (sd.fo.wJ g) c
    .omega
    grind
   let⟨v,k,e⟩:=g;exact List.ne_nil_of_mem (a:=↑q) (fO.2 ⟨qL.2 ⟨q,v,I,fG k,k,by rw[s,aV];exact e⟩,bO b⟩)
  grind
 rw[Q c]at h;exact hM n t l d f h
end
def neB{xs}{a}{r}:∀{l:J Mv} {i:Nat},r∈LW xs a i l->∃j m,m∈l/\r=Mj xs a j m
 |[],_,h=>VI
 |m::l,i,h=>by
  rcases ba.1 h with rfl|h
  .exact⟨i,m,.head _,I⟩
  let⟨j,c,a,b⟩:=neB h;exact⟨j,c,.tail _ a,b⟩
mutual
def EI{s:J dz}{r:Ro}:∀{x:Nd} {a:Nat},r∈XW s a x->∃n b j m,(CJ x)[n]? =aM b/\m∈b.mv/\r=Mj s (a+n) j m
 |.mk b l,a,h=>by
  rw[XW]at h;rw[CJ];rcases cZ.1 h with h|h
  .obtain⟨j,m,a,c⟩:=neB h;exact⟨0,b,j,m,I,a,c⟩
  obtain⟨n,b,j,m,a,c,d⟩:=mvL h;exact⟨n+1,b,j,m,by rw[fP];exact a,c,by rw[d];congr 1;omega⟩
def mvL{s:J dz}{r:Ro}:∀{l:J Nd} {a:Nat},r∈uk s a l->∃n b j m,(EF l)[n]? =aM b/\m∈b.mv/\r=Mj s (a+n) j m
 |[],_,h=>by rw[uk]at h;cases h
 |x::l,a,h=>by
  rw[uk]at h;rw[EF];rcases cZ.1 h with h|h
  .obtain⟨n,b,j,m,a,c⟩:=EI h;exact⟨n,b,j,m,by rw[de (aZ.1 a).1];exact a,c⟩
  obtain⟨n,b,j,m,a,c,d⟩:=mvL h;have:=tW x;exact⟨iI x+n,b,j,m,by rw[dR X,this,gH];exact a,c,by rw[d,ez]⟩
end
section
variable{c:Ch}{xs:J dz}{vs:J (L)}(N:Snd c xs vs){M:EH}(hM:sU xs M){dft:J Int}(Pn:dft=(CJ c.root).map λb=>nf xs b.dft)
include N hM Pn
theorem Snd.GZ{r}(f:r∈XW xs 0 c.root):(r.tg=[]/\r.dom= -1)∨(r.tg≠[]/\(∀s∈r.tg,qW xs s)/\∃a d:Nat,r.src=a/\a<WS xs/\r.dom=d/\kd xs d=1/\mC xs d a/\Gd xs d (λk=>∃s∈r.tg,↑k∈eX xs dft M s)/\∀s∈r.tg,∀g,g∈eX xs dft M s->qW xs g):=by
 obtain⟨n,b,l,m,h,i,rfl⟩:=EI f;rw[bS]at*
 have e:n<WS xs:=by rw[N.len,<-tW];exact(aZ.1 h).1
 let⟨t,j⟩:=eW e;rw[Mj];by_cases hm:m.tg=[]
 .left;rw[hm];exact⟨I,I⟩
 right;let⟨g,d,a,b,c,k,o⟩:=N.ahc hM Pn j h i hm;exact⟨X0,g,n,d,I,e,a,b,c,k,o⟩
end
def ul(s:J dz)(o:J Ro)(act:J Int)(k:Int):J Int:=if k<0 then[]else match o[k.toNat]? with
 |some r=>if r.dom<0 then[]else act.filter λx=>oO s x r.dom
 |none=>[]
def alJ(x:J dz)(r:J Ro)(act:J Int)(a b:Int):C:=(ul x r act b).any λn=>JW<|n∈ul x r act a
structure ChI (xs:List dz) (ro:List Ro) (act:List Int) (may:List Bool) (st:List Int×List Int):Prop where
 ok:∀k,k∈st.1->∃(n:Nat) (r:Ro),k=n/\ro[n]? =aM r/\may[n]? =aM aE/\r.src∈act
 sub:∀k,k∈st.2->k∈st.1
 ap:st.2.Pairwise λb a=>alJ xs ro act a b=aL
 ne:st.1≠[]->st.2≠[]
section
variable{xs:J dz}(sd:Sd xs){act:J Int}(A:Lg xs act){ro:J Ro}{may:J C}
include sd A
omit sd A in
theorem agr {x:Int} (h:x∈KM xs act):x∈act:=by
 obtain⟨k,rfl,_,hp⟩:=yQ.1 h;unfold XX at hp;simp only[aO,bB]at hp;exact hp.1.1
end
def eT xs a b:aH xs a b=oO xs a b:=by rw[bM,Bs,sO]
def aBA{w}{s}{l}{X:Nat}{cap}{p}{F}(g:aA rInt 1 w F s l)(d:WS l<=2000000)(c:ClI w (λ_=>False) X cap l p){f:OV}(b:f.v=.func (.func X) #[] cap.toArray):
  az aq 86 #[s.v,f.v] w λe k=>e=ak (aj<|l.any p)/\ay [] w k:=by
 refine ret<|ZD _ _ _ _<|(eO (S:=λ_=>True) g d R c b).mono ?_;rintro _ q ⟨⟨j,rfl,i⟩,O⟩;refine⟨j,I,?_,O⟩;congr 1;rcases i with⟨rfl,m⟩|⟨n,rfl,h,o,a⟩
 .simp_all
 exact(gW.2 ⟨l[n],R,a _<|aR h⟩).symm
def aaY w (s i sd sr:Sl):az aq 37 #[ah #[s.v,i.v,sd.v,sr.v],Sl.nil.v] w λe a=>(∃(b:Nat) (m f:Option Nat),e=ak (ae<|aM ⟨b,0,VM⟩)/\w.heap.size<=b/\b<a.heap.size/\aF a b 101 [s.v,i.v,sd.v,sr.v,.map m,.map f])/\ay [] w a:=by
 refine(Xu s i sd sr Sl.nil (λv a=>(∃(b:Nat) (m f:Option Nat),v=ae (aM ⟨b,0,VM⟩)/\w.heap.size<=b/\b<a.heap.size/\aF a b 101 [s.v,i.v,sd.v,sr.v,.map m,.map f])/\ay [] w a) w ?_).mono A;intro y h H C T;have⟨l,_,c⟩:=QS (P:=aq) (mty:=99) (kv:=kS) (g:=gS) h;have z:=c.size;refine⟨_,_,l,c.same o,?_⟩;obtain⟨n,_,d⟩:=QS (P:=aq) (mty:=95) (kv:=kS) (g:=gS)<|h.alloc _;have D:=d.size;refine⟨_,_,n,d.same o,λx j Z t N=>⟨λk r u=>r=0/\u=j,0,⟨I,I⟩,?_⟩⟩;rintro k _ u ⟨rfl,q⟩;obtain rfl:j=u:=q.symm;refine⟨λp=>absurd (S p)<|by show ¬0<0;omega,λ_ B _=>⟨⟨x,_,_,I,X,t,B⟩,((T.bG c).bG d).bG N⟩⟩
section
variable{w:av}{F G:h}{s si sd sr sa:Sl}{p:Pl}{act:J Int}{b:Nat}{ty:TypeId}
theorem BF{ro}(h:aA rRo 7 w F sr ro){i:Nat}{x}(a:ro[i]? =aM x):∃ad t,ci sr i 7 ad/\aB w ad [O U x.src,O U x.slot,O U x.k,ab<|T x.ev,O U x.wt,t.v,O U x.dom]/\aA rInt 1 w F t x.tg:=by
 have:=(aZ.1 a).1;have:=h.len;obtain⟨ad,y,c,g,d,e,f,j,t,rfl,k,l⟩:=h.get (bf i) X
 grind
theorem N9{x0 x1 x2 x4 x5}{ro}(B:aF w b ty [x0,x1,x2,sr.v,x4,x5])(h:aA rRo 7 w F sr ro) k:az aq 38 #[ae (aM ⟨b,0,VM⟩),O U k] w λe g=>
  (∃(a c f:Int) (ev:M) (wt:Int) (t:Sl) (d:Int) (i:C),e=ak (ai #[ah #[O U a,O U c,O U f,ab ev,O U wt,t.v,O U d],aj i])/\(i=aE->∃(n:Nat) (r:Ro),k=n/\ro[n]? =aM r/\0<=r.dom/\d=r.dom/\aA rInt 1 g F t r.tg)/\(i=aL->∀(n:Nat) r,k=n->ro[n]? =aM r->r.dom<0))/\ay [] w g:=by
 refine(aAf k (λv g=>(∃(a c f:Int) (ev:M) (wt:Int) (t:Sl) (d:Int) (i:C),v=ai #[ah #[O U a,O U c,O U f,ab ev,O U wt,t.v,O U d],aj i]/\(i=aE->∃(n:Nat) (r:Ro),k=n/\ro[n]? =aM r/\0<=r.dom/\d=r.dom/\aA rInt 1 g F t r.tg)/\(i=aL->∀(n:Nat) r,k=n->ro[n]? =aM r->r.dom<0))/\ay [] w g) w ?_).mono A;intro l m H s T;let Y:=T.blk B N;have:=(ZH gu Z h T N).len;let o:∀{u:av},ay [l] m u->ay [] w u:=λj=>T.trans j A;by_cases p:0<=k/\k<WS ro
 .obtain⟨n,rfl⟩:∃n:Nat,k=n:=⟨k.toNat,X⟩
  obtain⟨r,b⟩:∃r,ro[n]? =aM r:=⟨_,aR X⟩
  let⟨ad,t,a,c,f⟩:=BF ((PY gu h Z).keep gu Z λk _ J=>T.block k J N) b;let w:JW ((n:Int)<0)=aL:=I;let y:JW (n>=(sr.n:Int))=aL:=bR X;refine⟨sr,λ_=>Hl Y 3 I,sr,λ_=>Hl Y 3 I,ad,λ_=>a,r.dom,λ_=>c.dv 6 _ I,λq G e=>⟨⟨0,0,0,_,0,Sl.nil,0,aL,I,R,λ_ D E z v=>?_⟩,o e⟩,λq=>⟨sr,Hl Y 3 I,ad,a,_,_,_,_,_,t,_,c,λK F=>⟨⟨_,_,_,_,_,t,_,aE,I,λ_=>⟨n,r,I,b,?_,I,?_⟩,R⟩,o F⟩⟩⟩
  .grind
  .simp_all
  exact(ZH bA Z f F R).mono bA λk hk=>hk.1
 let V:((JW<|k<0)||(JW<|k>=sr.n))=aE:=by
  grind
 let n:∀{q:Prop},(_||_)=aL->q:=λh=>by rw[V]at h;cases h
 refine⟨sr,λ_=>Hl Y 3 I,sr,λh=>n h,⟨0,0,VM⟩,λh=>n h,0,λh=>n h,λe z b=>⟨⟨0,0,0,_,0,Sl.nil,0,aL,I,R,λ_ w y v r=>?_⟩,o b⟩,λe=>?_⟩
 .grind
 grind
theorem ags(P:PlR w F s si sd sr p)(l:Fo p.sp)(ha:aA rInt 1 w G sa act)(hm:WS act<=2000000)(k:Int):az aq 12 #[ah #[s.v,si.v,sd.v,sr.v],sa.v,O U k] w λe a=>(∃t,e=ak t.v/\dc w.heap.size a t (ul p.sp p.ro act k))/\ay [] w a:=by
 refine(az5 s si sd sr sa k (λv a=>(∃t,v=t.v/\dc w.heap.size a t (ul p.sp p.ro act k))/\ay [] w a) w ?_).mono A;rw[Xs];intro k0 w0 fH dC bT;refine(aaY w0 s si sd sr).mono ?_;rintro _ w1 ⟨⟨b,m0,m1,rfl,hb,qN,hB⟩,g⟩;have:=g.size;let H:=bT.bG g;refine⟨_,I,g.same o,(N9 hB (ZH gu Z P.ro H N) k).mono ?_⟩;rintro _ w2 ⟨⟨a1,a2,a3,ev,wt,S,d,i,rfl,m,W⟩,j⟩;have:=j.size;refine⟨a1,a2,a3,ev,wt,S,d,i,I,j.same o,λk1 k2 z kZ jl yq uu C=>have:=C.size;let J:=(H.bG j).bG C;(KN (kI ha J) X).mono ?_⟩;rintro _ w4 ⟨t,rfl,L,B⟩;have:=B.size;let K:=J.bG B;have:∀{q:Nat},t.a=aM ⟨q,0,VM⟩->z.heap.size<=q:=λe=>(L.blk e).1;refine⟨t,I,B.same o,λY T M=>(yR (f:=⟨.func (.func 41) #[] #[ae _,ae _,ae _],I⟩) L hm ⟨ia D,λy hy u h=>?_⟩ (p:=λy=>!(i&&oO p.sp y d)) (cap:=[ae _,ae _,ae _]) I).mono ?_⟩
 .have r:∀q<z.heap.size,¬(t.a=aM ⟨q,0,VM⟩):=R
  let n:=(ZH cH Z (PY cH P.sp Z) K N).keep cH Z λq w e=>h.block q e<|r q X;let f:=h.blk T R;let k:=h.blk M R;refine(aAg y (λv a=>v=aj (!(i&&oO p.sp y d))/\ay [] u a) u ?_).mono A;rw[Xw];refine⟨λc b=>c=(!(i&&oO p.sp y d))/\ay [] u b,?_,i,k.cells 0 _ N,λhc=>⟨?_,qE _ _⟩,λhc=>⟨s,Hl (h.blk Y R) 0 I,d,Hl f 6 I,(CG n l y d).mono ?_⟩⟩
  .simp_all
  .simp_all
  have:i=aE:=WH
  rintro _ b ⟨rfl,c⟩;obtain rfl:u=b:=c.symm;refine⟨_,I,?_,qE _ _⟩;rw[eT,this,cd]
 rintro _ O ⟨c,rfl,v,_,f,b⟩;have:∀q<z.heap.size,¬(t.a=aM ⟨q,0,VM⟩):=R
 refine⟨c,I,s,si,sd,sr,b.blk Y R,_,_,_,_,_,S,_,b.blk T R,_,b.blk M R,⟨c,I,?_⟩,(K.ph<|b.mono (G:=λq=>w.heap.size<=q) R).only X⟩;let e:ul p.sp p.ro act k=act.filter λx=>!(λy=>!(i&&oO p.sp y d)) x:=by
  let e:(act.filter λx=>!(λy=>!(i&&oO p.sp y d)) x)=act.filter λx=>i&&oO p.sp x d:=by
   simp_all
  rw[e];cases i
  .have n:(act.filter λx=>aL&&oO p.sp x d)=[]:=by
    simp_all
   rw[n,ul];split
   .rfl
   split
   .rename_i r p;rw[E];exact W I k.toNat r X p
   rfl
  let⟨n,r,k,p,q,hd,_⟩:=m I;unfold ul;rw[k,Q X,aV,p];dsimp only;rw[Q X,hd];rfl
 rw[e];exact Zd f X
end
end Con
