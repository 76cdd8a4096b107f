import Derived.Test.YtdfibecibkijiaaGreatDoorQc6
set_option linter.defProp false
set_option linter.unusedSectionVars false
set_option linter.unusedSimpArgs false
set_option linter.unusedVariables false
set_option maxHeartbeats 4000000
set_option maxRecDepth 100000
open Bool renaming true->aF,false->aM
open Option renaming some->aN,none->Pw
open List renaming length->qj
open Decidable renaming decide->YR
open Go.Value renaming int->O,string->ab,pointer->ae,agg->ah,tuple->ai,bool->aj
open Go.IntKind renaming i64->U,wrap->au
open Go.Ending renaming returned->ak
open _root_.ByteArray renaming mk->ao
open _root_.Go.Proofs.Tryz renaming prog->aq
open Go.Instr renaming buildSlice->av
open Go renaming World->aw,Value->ay,Calls->aA
open Go.Kt renaming Only->az,SliceF->aB,Cells->aD,OnlyP->aE,Blk->aG
namespace Go.Proofs.YtdfibecibkijiaaGreatDoor.Con
open Go Go.RowKit Go.Kt Go.Kt.V Go.Proofs.YtdfibecibkijiaaGreatDoor.Vc Go.ChangeShapes Go.WideShapes
def vK(F:A)(t:L Tk)(a w:aw)(b:Nat)(l:Sl)(d:Nat)(r:Pr)(v:ay):Prop:=az [b] a w/\match r with
 | .ok (x,j)=>∃c,v=ah c.toArray/\RX w a.heap.size w.heap.size x c/\Rr F t w b l j 0 0 d
 | .error e=>e.1≠0/\DY v/\∃j,Rr F t w b l j e.1 e.2 d
section
variable {F:A} {ts:L Tk} {w w':aw} {b:Nat} {l:Sl} {i:Nat} {fc fa:Int}
def vK.sC{d}{r}{v}(h:vK F ts w w' b l d r v):DY v:=by
 obtain⟨_,h⟩:=h;cases r with
 | error e=>exact h.2.1
 | ok q=>
  obtain⟨c,rfl,x,_⟩:=h;obtain⟨sl,rfl,_⟩:=x.cells;exact⟨_,_,_,_,_,_,I⟩
def vK.FK{w0 w1 w2 w3}{d}{r}{v}(a:vK F ts w1 w2 b l d r v)(n:az [b] w0 w1){bs}(c:az bs w2 w3)(f:∀x,x∈bs->b<x/\w0.heap.size<=x/\x<w1.heap.size):vK F ts w0 w3 b l d r v:=by
 obtain⟨g,a⟩:=a;refine⟨(n.trans g λx h=>.inl h).trans c λx h=>.inr (f x h).2.1,?_⟩;cases r with
 | error e=>
  obtain⟨b,d,j,i⟩:=a;exact⟨b,d,j,i.own c λx h=>(f x h).1⟩
 | ok q=>
  obtain⟨s,b,d,e⟩:=a;exact⟨s,b,(d.only c λx h=>.inl (f x h).2.2).wide n.size c.size,e.own c λx h=>(f x h).1⟩
def Hs:DY (ah #[O U 0,O U 0,ab (ao #[]),O U 0,Sl.nil.v,O U 0]):=⟨0,0,[],0,Sl.nil,0,I⟩
def apR{d:Nat}(h:Rr F ts w b l i 0 0 d)(q:i+1<qj ts):aA aq 360 #[ae (aN ⟨b,0,Pw⟩)] w λe w'=>∃v,e=ak v/\vK F ts w w' b l d (F1 ts i) v:=by
 refine ao7 ⟨b,0,Pw⟩ w ?_;intro k T N D n;have E:=h.lb;have Q:=h.big;have V:=n.size;have f:=h.only n;obtain⟨ad,o,p⟩:=f.now;refine⟨λ_=>True,trivial,l,Om f.blk 0 I,trivial,_,Om f.blk 1 I,ad,o,trivial,_,p.dP 3 _ I,λy A M L r=>?_⟩;have W:=r.size;have a:=f.only r;have t:=n.bU r;have sm:∀{u c:aw},A.heap.size<=u.heap.size->az [b] u c->cj [k,y] u c:=λG O=>O.same Rx;refine⟨(i:Int),Om a.blk 1 I,b,1,_,_,I,a.blk,X,J,J,λB P m=>?_⟩;rw[eS J J]at m;have g:=a.lG P m q;have Y:=P.size;have z:az [b] w B:=(t.weaken λ_ h=>Ue).trans P λx hx=>.inl hx;refine(DG g [40]).mono ?_;rintro _ U ⟨rfl,Z,H⟩;have z3:=Z.size;have j:=z.trans Z λx hx=>.inl hx;refine⟨I,sm J Z,?_⟩;rw[show((0:Int)==0)=aF from rfl,ch,K I,K I]at H;have C:∀{u c:aw},az [b] w u->az [k] u c->az [b] w c:=λa g=>a.new g N;by_cases s:sg ts (i+1) [40]=aF
 .rw[K s]at H;refine⟨0,Om H.blk 3 I,λhc=>(by simp at hc),λ_=>?_⟩;obtain⟨Qw,u1,u2⟩:=H.now;refine⟨l,Om H.blk 0 I,_,Om H.blk 1 I,Qw,u1,_,u2.dP 0 _ I,λhc w5 e=>(Fy (H.only e)).mono ?_,λhc w8 v=>?_⟩
  .have hc:=Yc
   rintro _ w ⟨rfl,d,h⟩;have F:=e.size;refine⟨I,sm J d,λl b=>⟨C ((j.bU e).trans d λx hx=>.inl hx) b,?_⟩⟩;rw[F1,K s,R hc];exact⟨gQ,⟨_,_,[],_,_,_,I⟩,i+2,h.own b S⟩
  have hc:=Yc
  have z8:=v.size;have h8:=H.only v;obtain⟨aS,v1,v2⟩:=h8.now;refine⟨l,Om h8.blk 0 I,_,Om h8.blk 1 I,aS,v1,_,v2.dP 1 _ I,λw9 gA=>?_⟩;have z9:=gA.size;have h9:=h8.own gA S;have aC:az [b] w w9:=(j.bU v).new gA J;have aT:=h.en.next H.lt (by show(tk ts _).k≠5;rw[hc];decide);refine⟨_,Om h9.blk 1 I,b,1,_,_,I,h9.blk,X,J,J,λdq dN pK=>?_⟩;rw[eS J J]at pK;have wF:Rr F ts dq b l _ 0 0 d:=h9.lG dN pK aT;have KG:=dN.size;refine(DG wF [41]).mono ?_;rintro _ dB ⟨rfl,eG,am⟩;refine⟨I,sm J eG,λey eV=>⟨C ((aC.trans dN λx hx=>.inl hx).trans eG λx hx=>.inl hx) eV,?_⟩⟩;rw[show((0:Int)==0)=aF from rfl,ch,K I,K I]at am;rw[F1,K s,K hc];by_cases Oc:sg ts (i+3) [41]=aF
  .rw[K Oc];rw[K (Oc)]at am;exact⟨_,I,.leaf ..,am.own eV S⟩
  rw[R Oc];rw[R (show ¬sg ts _ [41]=aF from Oc)]at am;exact⟨gQ,⟨_,_,_,_,_,_,I⟩,i+1+1+1,am.own eV S⟩
 rw[R s]at H;refine⟨_,Om H.blk 3 I,λhc w d=>⟨C j d,?_⟩,λhc=>absurd Yc (gQ (ts:=ts) (i:=i+1))⟩;rw[F1,R s];exact⟨gQ,⟨_,_,[],_,_,_,I⟩,i+1,H.own d S⟩
def aiP{f d:Nat}(hd:d<=20)(h:Rr F ts w b l i 0 0 (d:Int))
  (hE:d≠20->∀w i,Rr F ts w b l i 0 0 ((d+1:Nat):Int)->aA aq 351 #[ae (aN ⟨b,0,Pw⟩),O U 0] w λe w'=>∃v,e=ak v/\vK F ts w w' b l (d+1) (dy ts f 0 (d+1) i) v)
  (G:d≠20->∀w i,Rr F ts w b l i 0 0 ((d+1:Nat):Int)->aA aq 355 #[ae (aN ⟨b,0,Pw⟩)] w λe w'=>∃v,e=ak v/\vK F ts w w' b l (d+1) (dy ts f 6 (d+1) i) v):
  aA aq 355 #[ae (aN ⟨b,0,Pw⟩)] w λe w'=>∃v,e=ak v/\vK F ts w w' b l d (dy ts (f+1) 6 d i) v:=by
 have eR:dy ts (f+1) 6 d i=rh ts (dy ts f 0 (d+1)) (dy ts f 6 (d+1)) d i:=by rw[dy,K I]
 rw[eR];generalize am:dy ts f 0 (d+1)=V at*
 generalize aC:dy ts f 6 (d+1)=EV at*
 generalize g:rh ts V EV d i=p;rw[rh]at g;refine ao2 (λv w'=>vK F ts w w' b l d p v) w ?_;intro m w0 fN dS L;have hb:=h.lb;have Qe:=h.big;have D:=L.size;have y:=h.only L;obtain⟨ad,g1,g2⟩:=y.now;refine⟨λ_=>True,trivial,l,Om y.blk 0 I,trivial,_,Om y.blk 1 I,ad,g1,trivial,_,_,_,_,g2,λr Y lm jP M=>?_⟩;have E:=M.size;have z:=y.only M;have sm:∀{u n:aw},Y.heap.size<=u.heap.size->az [b] u n->cj [m,r] u n:=λhu N=>N.same Rx;have s:∀{u n:aw},Y.heap.size<=u.heap.size->az [] u n->cj [m,r] u n:=λhu N=>N.same (by intro x hx;simp only[bh,bI,cO]at hx;exact⟨J,X⟩);refine(A0 z [45]).mono ?_;rintro _ w2 ⟨rfl,P⟩;have z2:=P.size;have A:=z.only P;refine⟨_,I,s J P,(A0 A [33]).mono ?_⟩;rintro _ w3 ⟨rfl,t⟩;have z3:=t.size;have W:=A.only t;refine⟨_,I,s J t,(A0 W [40]).mono ?_⟩;rintro _ w4 ⟨rfl,Q⟩;have z4:=Q.size;have j:=W.only Q;have xE:az [] w w4:=(((L.bU M).bU P).bU t).bU Q;have o:az [b] w w4:=xE.weaken λ_ h=>Ue
 have C:∀{u n:aw},az [b] w u->az [m] u n->az [b] w n:=λz A=>z.new A fN;rw[show((0:Int)==0)=aF from rfl,ch,ch,ch];refine⟨_,I,s J Q,0,Om j.blk 3 I,λhc=>(by simp at hc),λ_=>⟨λhs=>?_,λhs=>⟨λhp=>?_,λhp=>⟨λhi=>?_,λhi=>⟨λhv=>?_,λhv=>?_⟩⟩⟩⟩⟩
 .rw[K hs]at g;have ig:(tk ts i).k≠5:=by
   rcases cy _ _▸hs with e | e<;>exact yx e
  have hn:=h.en.next h.lt ig;refine(SI hd j hn).mono ?_;rintro _ w6 ⟨rfl,dV,f⟩;have z6:=dV.size;have aS:=o.trans dV λx hx=>.inl hx;refine⟨_,I,sm J dV,λhc w7 gq=>⟨C aS gq,?_⟩,λhc=>?_⟩
  .have hc:d=20:=Yc
   rw[K hc]at f;rw[<-g,kl,K hc];exact⟨(by decide:(21:Int)≠0),Hs,i,f.own gq S⟩
  have hc:d≠20:=Yc
  rw[R hc]at f;rw[kl,R hc]at g;refine(G hc w6 (i+1) f).mono ?_;rintro _ w8 ⟨v,rfl,hD⟩;obtain⟨vk,vn,vs,vo,vl,va,rfl⟩:=hD.sC;have z8:=hD.1.size;refine⟨_,_,_,_,_,_,I,sm J hD.1,λk2 w9 rF sR gA=>?_⟩;have z9:=gA.size;have bV:=aS.trans hD.1 λx hx=>.inl hx;have bY:∀{aT:Nat} {c a:Int},Rr F ts w8 b l aT c a ((d+1:Nat):Int)->∃i9:Int,aD w9 (Addr.add ⟨b,0,Pw⟩ 2) [O U i9]/\∃k3 k4:Nat,∃D:aJ,∃k5:Nat,(Addr.add ⟨b,0,Pw⟩ 2)=⟨k3,k4,Pw⟩/\aG w9 k3 k5 D/\(k4+1)<=qj D/\m≠k3/\r≠k3/\k2≠k3/\
    ∀dq:aw,az [k3] w9 dq->aG dq k3 k5 (gD D k4 [O U (au U (i9-1))])->az [b] w8 dq/\Rr F ts dq b l aT c a (d:Int):=fun{aT c a} h8=>by
   have e:=h8.only gA;refine⟨((d+1:Nat):Int),Om e.blk 2 I,b,2,_,_,I,e.blk,X,J,J,J,λdq dN i=>?_⟩;have k:((d+1:Nat):Int)-1=d:=J
   rw[k,eS J J]at i;exact⟨(gA.weaken (bs':=[b]) λ_ h=>Ue).trans dN λx hx=>.inl hx,e.lG dN i e.lt⟩
  have bv:∀{aT:Nat} {c a:Int} {dq:aw},az [b] w8 dq->Rr F ts dq b l aT c a (d:Int)->w9.heap.size<=dq.heap.size->(∀op sl ey,az [] dq ey->aG ey dq.heap.size 79 (oM vk vn vs vo vl va)->op=(if(tk ts i).t=[33]then(15:Int)else 14)->sl=(⟨aN ⟨dq.heap.size,0,Pw⟩,1,1⟩:Sl)->∀eY,az [m] ey eY->vK F ts w eY b l d p (ah #[O U 4,O U 0,ab (ao #[]),O U op,sl.v,O U (tk ts i).a]))->
    ∃q:Int->aw->Prop,(∀k:Int,∀h:aw,q k h->∃v:Sl,∃ey:aw,((av 77 1 #[.mk 0 (ah #[O U vk,O U vn,ab (T vs),O U vo,vl.v,O U va])]).run aq h)=(.ok v.v ey)/\
     cj [m,r,k2] h ey/\∀eY:aw,az [m] ey eY->vK F ts w eY b l d p (ah #[O U 4,O U 0,ab (ao #[]),O U k,v.v,O U (tk ts i).a]))/\
    (sg ts i [33]=aF->q 15 dq)/\(sg ts i [33]=aM->q 14 dq):=fun{aT c a dq} dN wF KG aaX=>by
   refine⟨λop h=>op=(if(tk ts i).t=[33]then(15:Int)else 14)/\h=dq,?_,λe=>⟨?_,I⟩,λe=>⟨?_,I⟩⟩
   .rintro op h ⟨c,rfl⟩;obtain⟨ey,b,a,e⟩:=IU h [oM vk vn vs vo vl va] X X X (parts:=#[(0,ah (oM vk vn vs vo vl va).toArray)]) I;rw[fk,List.flatten_nil,bC]at a;exact⟨_,ey,b,e.same S,λeY d=>aaX op _ ey e a c I eY d⟩
   .have:(tk ts i).t=[33]:=by
     simp only[sg,B,bF]at e;exact e.2
    rw[K this]
   have:(tk ts i).t≠[33]:=λa=>by
    rcases cy _ _▸hs with b | b
    .simp only[sg,B,bF]at b;rw[b.2]at a;exact absurd a Z
    rw[e]at b;cases b
   rw[R this]
  cases hN:EV (i+1)with
  | error e=>
   rw[hN]at hD g;obtain⟨fK,h,a2,aT,i⟩:=hD;obtain⟨i9,q,k3,k4,zz,k5,l,q3,v,w,F,T,q8⟩:=bY i;refine⟨i9,q,k3,k4,zz,k5,l,q3,v,w,F,T,λdq dN k=>?_⟩;obtain⟨b,c⟩:=q8 dq dN k;refine bv b c dN.size λop sl ey a Kj rz tR eY d=>⟨C ((bV.trans b λx hx=>.inl hx).bU a) d,?_⟩
   rw[<-g];exact⟨h,⟨_,_,[],_,_,_,I⟩,aT,(c.only a).own d S⟩
  | ok q=>
   obtain⟨x,aT⟩:=q;rw[hN]at hD g;obtain⟨fK,c,l,v,F⟩:=hD;have T:(oM vk vn vs vo vl va)=c:=bN Array.toList (Value.agg.inj l);obtain⟨i9,q1,k3,k4,zz,k5,q2,q3,q4,q5,q6,q7,q8⟩:=bY F;refine⟨i9,q1,k3,k4,zz,k5,q2,q3,q4,q5,q6,q7,λdq dN pK=>?_⟩;obtain⟨b,h⟩:=q8 dq dN pK;have KG:=dN.size;refine bv b h KG λop sl ey e i rz tR eY d=>⟨C ((bV.trans b λx hx=>.inl hx).bU e) d,?_⟩
   have cc:=e.size;have Vl:=d.size;rw[<-g,rz,tR];refine⟨_,I,?_,(h.only e).own d S⟩;have a:RX eY w6.heap.size w8.heap.size x c:=((v.only b λk hk=>.inl TQ).only e X).only d λk hk=>.inl TQ;have xF:aG eY dq.heap.size 79 c:=by
    rw[<-T];exact d.blk i λhm=>US
   exact .one w.heap.size w8.heap.size dq.heap.size _ _ _ _ _ _ x c (a.wide J (H _)) J J Md id xF
 .rw[R H9,K hp]at g;have hn:=h.en.next h.lt (yx hp);refine(SI hd j hn).mono ?_;rintro _ fV ⟨rfl,eZ,f⟩;have co:=eZ.size;have ce:=o.trans eZ λx hx=>.inl hx;refine⟨_,I,sm J eZ,λhc fT ir=>⟨C ce ir,?_⟩,λhc=>?_⟩
  .have hc:d=20:=Yc
   rw[K hc]at f;rw[<-g,kl,K hc];exact⟨(by decide:(21:Int)≠0),Hs,i,f.own ir S⟩
  have hc:d≠20:=Yc
  rw[R hc]at f;rw[kl,R hc]at g;refine(hE hc fV (i+1) f).mono ?_;rintro _ iE ⟨v,rfl,hD⟩;obtain⟨vk,vn,vs,vo,vl,va,rfl⟩:=hD.sC;have eQ:=hD.1.size;have dO:=ce.trans hD.1 λx hx=>.inl hx;refine⟨_,_,_,_,_,_,I,sm J hD.1,λk6 gL el Vx gC=>?_⟩;have fd:=gC.size;have after:∀{cC:Nat} {c a:Int} {jH:aw},az [b] gL jH->Rr F ts jH b l cC c a ((d+1:Nat):Int)->(∀h,az [b,m] jH h->az [b] w h->Rr F ts h b l cC c a (d:Int)->vK F ts w h b l d p (ah (oM vk vn vs vo vl va).toArray))->
    ∃i:Int,aD jH (Addr.add ⟨b,0,Pw⟩ 2) [O U i]/\∃k k8:Nat,∃E:aJ,∃k9:Nat,(Addr.add ⟨b,0,Pw⟩ 2)=⟨k,k8,Pw⟩/\aG jH k k9 E/\(k8+1)<=qj E/\m≠k/\r≠k/\k6≠k/\
    ∀q:aw,az [k] jH q->aG q k k9 (gD E k8 [O U (au U (i-1))])->∀h:aw,az [m] q h->vK F ts w h b l d p (ah #[O U vk,O U vn,ab (T vs),O U vo,vl.v,O U va]):=fun{cC c a jH} kg h18 aaX=>by
   refine⟨((d+1:Nat):Int),Om h18.blk 2 I,b,2,_,_,I,h18.blk,X,J,J,J,λq ku e h lc=>?_⟩;have ed:((d+1:Nat):Int)-1=d:=J
   rw[ed,eS J J]at e;have v:Rr F ts q b l cC c a (d:Int):=h18.lG ku e h18.lt;exact aaX h ((ku.weaken (bs':=[b,m]) λx hx=>.inl Wl).trans lc λx hx=>.inl Wl) (C (((dO.bU gC).trans kg λx hx=>.inl hx).trans ku λx hx=>.inl hx) lc) (v.own lc S)
  obtain⟨iH,hD⟩:=hD;cases hN:V (i+1)with
  | error e=>
   rw[hN]at hD g;obtain⟨a,i,cC,d⟩:=hD;refine(DG (d.only gC) [41]).mono ?_;rintro _ jH ⟨rfl,kg,b⟩;rw[R (by simp[a]),R a,R a]at b;refine⟨I,kg.same S,after kg b λh l w c=>⟨w,?_⟩⟩;rw[<-g];exact⟨a,⟨_,_,_,_,_,_,I⟩,cC,c⟩
  | ok q=>
   obtain⟨x,cC⟩:=q;rw[hN]at hD g;obtain⟨i,c,d,e⟩:=hD;refine(DG (e.only gC) [41]).mono ?_;rintro _ jH ⟨rfl,kg,b⟩;rw[show((0:Int)==0)=aF from rfl,ch,K I,K I]at b;refine⟨I,kg.same S,?_⟩;have l:=kg.size;by_cases a:sg ts cC [41]=aF
   .rw[K a]at b;refine after kg b λh q w v=>⟨w,?_⟩
    rw[<-g];simp only[wi,a,H2];have x:=q.size;exact⟨i,c,(((d.only gC X).only kg λk hk=>.inl TQ).only q λk hk=>.inl (by simp only[bh,bI,cO]at hk;omega)).wide J J,v⟩
   rw[R a]at b;refine after kg b λh q w k=>⟨w,?_⟩
   rw[<-g];simp only[wi,a,lV];exact⟨gQ,⟨_,_,_,_,_,_,I⟩,cC,k⟩
 .have hi:(tk ts i).k=3:=XS
  rw[R H9,R Rl,K hi]at g;have f:=h.en.next h.lt (by rw[hi];decide);refine⟨(i:Int),Om j.blk 1 I,b,1,_,_,I,j.blk,X,J,J,λk q a v e=>⟨C (o.trans q λx hx=>.inl hx) e,?_⟩⟩;rw[eS J J]at a;have c:Rr F ts k b l (i+1) 0 0 (d:Int):=j.lG q a f;rw[<-g];exact⟨_,I,.leaf ..,c.own e S⟩
 .have hi:¬(tk ts i).k=3:=XS
  have hv:(tk ts i).k=1:=WN
  rw[R H9,R Rl,R hi,K hv]at g;have f:=h.en.next h.lt (by rw[hv];decide);refine⟨(i:Int),Om j.blk 1 I,b,1,_,_,I,j.blk,X,J,J,λk q a v e=>⟨C (o.trans q λx hx=>.inl hx) e,?_⟩⟩;rw[eS J J]at a;have c:Rr F ts k b l (i+1) 0 0 (d:Int):=j.lG q a f;rw[<-g];exact⟨_,I,.leaf ..,c.own e S⟩
 have hi:¬(tk ts i).k=3:=XS
 have hv:¬(tk ts i).k=1:=WN
 rw[show(ao #[105,110])=T [105,110]from rfl,ji];rw[R H9,R Rl,R hi,R hv]at g;refine⟨λw=>?_,λw=>(Fy j).mono ?_⟩
 .have w:(tk ts i).k=2/\(tk ts i).t=[105,110]:=by simpa using w
  rw[K w]at g;have b:=h.en.next h.lt (by rw[w.1];decide);refine(apR j b).mono ?_;rintro _ c ⟨v,rfl,a⟩;obtain⟨k,q,F,x,f,e,rfl⟩:=a.sC;refine⟨_,_,_,_,_,_,I,sm J a.1,λd l=>?_⟩;rw[<-g];exact a.FK o l S
 rw[R (λh=>by rw[h.1,h.2]at w;simp at w)]at g;rintro _ d ⟨rfl,b,a⟩;rw[K I,K I]at a;refine⟨I,sm J b,λe c=>⟨C (o.trans b λx hx=>.inl hx) c,?_⟩⟩;rw[<-g];exact⟨gQ,Hs,i,a.own c S⟩
def MD(F:A)(t:L Tk)(e:aw)(b:Nat)(l:Sl)(d:Nat)(N:A)(E:Nat->Pr)(k:Int)(R:Pr)(n:Nat)(op:Int)(s:aJ)(w:aw):Prop:=az [b] e w/\
 ((∃(c a:Int) (j:Nat),op=0/\c≠0/\R=.error (c,a)/\Rr F t w b l j c a d)∨
  (∃(x:Ex) (j:Nat),op=lO t k j/\RXN w N e.heap.size w.heap.size x s/\Rr F t w b l j 0 0 d/\R=jW t E k n x j/\(qj t)-j<=n))
def abH{f k d:Nat}(z:k<6)(h:Rr F ts w b l i 0 0 (d:Int))
  (hE:∀w i,Rr F ts w b l i 0 0 (d:Int)->aA aq 351 #[ae (aN ⟨b,0,Pw⟩),O U ((k+1:Nat))] w λe w'=>∃v,e=ak v/\vK F ts w w' b l d (dy ts f (k+1) d i) v):
  aA aq 351 #[ae (aN ⟨b,0,Pw⟩),O U (k:Int)] w λe w'=>∃v,e=ak v/\vK F ts w w' b l d (dy ts (f+1) k d i) v:=by
 have eR:dy ts (f+1) k d i=Gl (dy ts f (k+1) d i) λx j=>jW ts (dy ts f (k+1) d) k ((qj ts)-j) x j:=by rw[dy,R J]
 rw[eR];have G:∀i x j,dy ts f (k+1) d i=.ok (x,j)->i<j:=λi x j h=>ml f _ _ i h;generalize am:dy ts f _ d=E at*
 generalize B:(Gl _ λx j=>jW ts E k _ x j)=C;refine afD w ?_;have ek:au U (k+1)=((k+1:Nat)):=Ye
 refine⟨λhc=>absurd Yc (by omega:¬(k:Int)=6),λ_ A w3 lm jP L=>?_⟩;have hb:=h.lb;rw[ek];refine(hE w3 i (h.only L)).mono ?_;rintro _ w4 ⟨v,rfl,D⟩;obtain⟨vk,vn,vs,vo,vl,va,rfl⟩:=D.sC;have z4:=D.1.size;refine⟨_,_,_,_,_,_,I,D.1.same S,λr w5 rF sR W=>?_⟩;have sm:∀{T u':aw},w5.heap.size<=T.heap.size->az [b] T u'->cj [A,r] T u':=λhu hO=>hO.same (by intro x hx;simp at hx⊢;omega);have Qe:=h.big;have P:∃(j:Nat) (c a:Int),Rr F ts w4 b l j c a (d:Int)/\∀u,az [] w4 u->∃p,MD F ts w b l d (λq=>q=A∨q=r) E (k:Int) C p (if c=0 then lO ts (k:Int) j else 0) (oM vk vn vs vo vl va) u:=by
  obtain⟨l,f⟩:=D;have k:=(L.weaken (bs':=[b]) λ_ h=>Ue).trans l λx hx=>.inl hx;cases d:E i with
  | error e=>
   rw[d]at f B;obtain⟨c,a⟩:=e;obtain⟨b,i,j,h⟩:=f;exact⟨j,c,a,h,λu V=>⟨0,k.bU V,.inl ⟨c,a,j,R b,b,B.symm,h.only V⟩⟩⟩
  | ok q=>
   obtain⟨x,j⟩:=q;rw[d]at f B;obtain⟨e,b,c,a⟩:=f;have h:(oM vk vn vs vo vl va)=e:=bN Array.toList (Value.agg.inj b);rw[h];exact⟨j,0,0,a,λu V=>⟨(qj ts)-j,k.bU V,.inr ⟨x,j,K I,((c.only V X).HP λq i v _=>J).wide L.size V.size,a.only V,B.symm,H _⟩⟩⟩
 obtain⟨j0,c0,a0,N,P⟩:=P;refine(asB (N.only W) z).mono ?_;rintro _ u ⟨rfl,V⟩;obtain⟨Q,M⟩:=P u (W.bU V);refine⟨_,I,V.same S,λp op m n t o s g w'=>w5.heap.size<=w'.heap.size/\MD F ts w b l d _ E (k:Int) C p op [O U m,O U n,ab t,O U o,s.v,O U g] w',Q,⟨V.size,M⟩,?_⟩;rintro p op m n t o s g w7 ⟨z7,Y,hA⟩;refine⟨λrz=>?_,λrz fV Z=>?_⟩
 .have rz:=ET
  rcases hA with⟨_,_,_,e,_⟩ | ⟨x,j,rfl,hX,i,f,aC⟩
  .exact absurd e rz
  have hn:=i.en.next i.lt (rC _ _ rz);obtain⟨aT,rfl⟩:∃aT,p=aT+1:=⟨p-1,J⟩
  rw[jW,R rz]at f;refine⟨j,Om i.blk 1 I,b,1,_,_,I,i.blk,X,J,J,λw8 fK yW=>?_⟩;rw[eS J J]at yW;have z8:=fK.size;refine(hE w8 _ (i.lG fK yW hn)).mono ?_;rintro _ w9 ⟨v,rfl,aS⟩;obtain⟨yk,yn,ys,yo,yl,ya,rfl⟩:=aS.sC;have z9:=aS.1.size;refine⟨_,_,_,_,_,_,I,sm J aS.1,λk8 dq ce cc dN=>?_⟩;obtain⟨dB,qz,GC,eG⟩:=IU dq [[O U m,O U n,ab t,O U o,s.v,O U g],oM yk yn ys yo yl ya] X X X (parts:=#[_,_]) I;have GD:=eG.size;refine⟨_,dB,qz,eG.same S,λey eV=>?_⟩;have co:=eV.size;have NM:=((((Y.trans fK λx hx=>.inl hx).trans aS.1 λx hx=>.inl hx).bU dN).bU eG).new eV J;have xG:az [r] w9 ey:=((dN.bU eG).weaken (bs':=[r]) λ_ h=>Ue).trans eV λx hx=>.inl hx;have Qh:∃(j':Nat) (c a:Int),Rr F ts w9 b l j' c a d/\∀eY,az [] ey eY->∃p,p<aT+1/\MD F ts w b l d (λq=>q=A∨q=r) E k C p (if c=0 then lO ts k j' else 0) (oM 5 0 [] (lO ts k j) ⟨aN ⟨dq.heap.size,0,Pw⟩,2,2⟩ g) eY:=by
   obtain⟨k,d⟩:=aS;cases h:E _ with
   | error e=>
    rw[h]at d f;obtain⟨c,a⟩:=e;obtain⟨b,q,j',l⟩:=d;exact⟨j',c,a,l,λeY dE=>⟨0,J,NM.bU dE,.inl ⟨c,a,j',R b,b,f,(l.own xG S).only dE⟩⟩⟩
   | ok q=>
    obtain⟨y,j'⟩:=q;rw[h]at d f;obtain⟨c,v,F,l⟩:=d;have jh:_=c:=bN Array.toList (Value.agg.inj v);have cC:=G _ _ _ h;obtain⟨xl,e,_⟩:=hX.cells;have a:=by
     simp only[oM,DV,Value.int.injEq]at e;exact e.2.2.2.2.2.1.2
    refine⟨j',0,0,l,λeY dE=>⟨aT,J,NM.bU dE,.inr ⟨.mk 5 0 [] _ [x,y] x.a,j',K I,?_,(l.own xG S).only dE,f,?_⟩⟩⟩
    .have dO:=xG.bU dE;have xF:aG eY dq.heap.size 79 ([O U m,O U n,ab t,O U o,s.v,O U g]++c):=by
      have:=dE.blk (eV.blk GC S) X;rw[<-jh];simpa using this
     have el:RXN eY (λq=>q=A∨q=r) w.heap.size w7.heap.size x [O U m,O U n,ab t,O U o,s.v,O U g]:=by
      exact hX.only ((((((fK.weaken (bs':=[b,r]) λx hx=>.inl T5).trans k λx hx=>.inl T5).trans xG λx hx=>.inl T5).bU dE))) λq hq=>by
       simp at hq;rcases hq with rfl | rfl
       .exact .inl hb
       exact .inr (.inr (.inr I))
     have eQ:RXN eY (λq=>q=A∨q=r) w8.heap.size w9.heap.size y c:=(F.only dO λq hq=>.inl (by simp at hq;omega)).HP λq h1 h2 _=>J
     rw[a];exact .two w.heap.size w7.heap.size w8.heap.size w9.heap.size dq.heap.size _ _ _ _ _ _ x y _ c el z8 eQ J J J J Md J xF
    omega
  obtain⟨j',c',a',bV,Qh⟩:=Qh;refine(asB (bV.own xG S) z).mono ?_;rintro _ eY ⟨rfl,dE⟩;obtain⟨bY,bv,Vm⟩:=Qh eY dE;exact⟨_,I,dE.same S,bY,bv,by have:=dE.size;omega,Vm⟩
 have rz:op=0:=ET
 refine⟨Y.new Z J,?_⟩;rcases hA with⟨c,a,j,_,hc,F,y⟩ | ⟨x,j,b,d,y,F,v⟩
 .rw[F];exact⟨hc,⟨m,n,t.data.toList,o,s,g,I⟩,j,y.own Z S⟩
 rw[F,ofV (by rw[<-b,rz])];exact⟨_,I,((d.only Z λq hq=>.inr (.inr (.inl JH))).HP λ_ _ _ _ h=>h).wide (H _) Z.size,y.own Z S⟩
def slS:∀f,(∀k d i w,k<=6->d<=20->ia k d<=f->Rr F ts w b l i 0 0 d->aA aq 351 #[ae (aN ⟨b,0,Pw⟩),O U k] w λe w'=>∃v,e=ak v/\vK F ts w w' b l d (dy ts f k d i) v)/\
  (∀d i w,d<=20->ia 6 d<=f->Rr F ts w b l i 0 0 d->
   aA aq 355 #[ae (aN ⟨b,0,Pw⟩)] w λe w'=>∃v,e=ak v/\vK F ts w w' b l d (dy ts f 6 d i) v)
 | 0=>⟨λk d i w hk hd hn=>RZ,λd i w hd hn=>RZ⟩
 | f+1=>by
  obtain⟨G,K⟩:=slS f;have one:∀d i w,d<=20->ia 6 d<=f+1->Rr F ts w b l i 0 0 d->
   aA aq 355 #[ae _] w λe w'=>∃v,e=ak v/\vK F ts w w' b l d _ v:=λd i w hd hn h=>by
   unfold ia at hn;exact aiP hd h (λD w i h=>G 0 _ i w J J KT h) (λD w i h=>K _ i w J KT h)
  refine⟨λk d i w hk hd hn h=>?_,one⟩;by_cases a:k=6
  .subst a;refine afD w ?_;refine⟨λ_ k e N f c=>?_,λb=>absurd b Z⟩;refine(one d i e hd hn (h.only c)).mono ?_;rintro _ p ⟨v,rfl,D⟩;obtain⟨l,n,s,o,m,j,rfl⟩:=D.sC;have g:=h.lb;exact⟨_,_,_,_,_,_,I,D.1.same S,λq P=>D.FK (c.weaken λ_ h=>Ue) P S⟩
  unfold ia at hn;exact abH J h λw i h=>G _ d i w J hd KT h
end
def exl{w:aw}{F:A}{l:Sl}{t:L Tk}(h:aB OZ 4 w F l t)(a:Int)(z:qO a):aA aq 335 #[l.v,O U a] w λe b=>
  ∃s,e=ak (ai #[ah s.toArray,O U (cN t a).2.1,ah #[O U (cN t a).2.2.1,O U (cN t a).2.2.2]])/\RX b w.heap.size b.heap.size (cN t a).1 s/\((cN t a).2.2.1=0->0<=(cN t a).2.1/\(cN t a).2.1<qj t)/\az [] w b:=by
 refine(avS l a (λv b=>∃s,v=(ai #[ah s.toArray,O U (cN t a).2.1,ah #[O U (cN t a).2.2.1,O U (cN t a).2.2.2]])/\RX b w.heap.size b.heap.size (cN t a).1 s/\((cN t a).2.2.1=0->0<=(cN t a).2.1/\(cN t a).2.1<qj t)/\az [] w b) w ?_).mono (by
  rintro e b ⟨v,rfl,s,rfl,h⟩;exact⟨s,I,h⟩)
 have y:=h.len;have D:=h.cap;have G:=h.big;have bad:¬(0<=a/\a<qj t/\om t+1=qj t)->∀f,az [] w f->∃s,(Value.tuple #[ah #[O U 0,O U 0,ab (ao #[]),O U 0,Sl.nil.v,O U 0],O U 0,ah #[O U 1,O U (-1)]])=(ai #[ah s.toArray,O U (cN t a).2.1,ah #[O U (cN t a).2.2.1,O U (cN t a).2.2.2]])/\RX f w.heap.size f.heap.size (cN t a).1 s/\((cN t a).2.2.1=0->0<=(cN t a).2.1/\(cN t a).2.1<qj t)/\az [] w f:=λd f j=>by
  rw[cN,R d];exact⟨_,I,Yt _ _ _,λh=>Ue,j⟩
 refine⟨λd B C f _ _ _ _ i=>bad (λg=>?_) f i,λd m k3 o E M N Q r=>?_⟩
 .simp only[cy,bF]at d;omega
 have d:0<=a/\a<qj t:=by
  simp only[fe,db]at d;omega
 have z1:=r.size;have own:∀{am u':aw},az [] w am->az [k3,m] am u'->az [] w u':=λh1 Y=>h1.trans Y λx hx=>.inr LM;refine⟨λnv T _ _ _ _ _ _ _ _ b=>∃n:Nat,n<=qj t/\T=(n:Int)/\nv=(qj t)-n/\(∀P,P<n->((tk t P).k=5↔P+1=qj t))/\az [] w b/\o.heap.size<=b.heap.size,qj t,⟨0,bf _,I,I,λP hj=>absurd hj (RI P),r,H _⟩,?_⟩;rintro nv _ _ _ _ _ _ _ _ _ w2 ⟨n,hn,rfl,rfl,hE,V,z2⟩;have Y:=Wg jk Z h V X;refine⟨λW=>?_,λlA k7 w4 aS aC dQ sO=>?_⟩
 .have W:(n:Int)<(l.n:Int):=u W;obtain⟨ad,x,s,p,a,g3,g4,q,c⟩:=Y.get (be n) W;rw[ba,EG J]at a;injection a with a;subst a;unfold OZ at c;subst c;have e:((tk t n).k==5)=YR ((tk t n).k=5):=by rw[bK];simp
  have k:((n:Int)==au U ((l.n:Int)-1))=YR (n+1=qj t):=by
   rw[eS J J,bK];simp only[dr,bF];omega
  refine⟨ad,p,_,q.dP 0 _ I,?_⟩;dsimp only;rw[e,k];refine⟨λhm v h=>bad (λg=>?_) v (own V h),λhm=>⟨(qj t)-(n+1),J,n+1,J,Ye,I,λP hj=>?_,V,z2⟩⟩
  .have:=LW g.2.2 n J;rw[mN.2 this,beq_self_eq_true]at hm;cases hm
  rcases nu P n with e | e
  .exact hE P e
  have:P=n:=J
  subst this;have hm:YR ((tk t P).k=5)=YR (P+1=qj t):=Ie
  exact mN.1 hm
 have lA:¬(n:Int)<(l.n:Int):=aU lA;have:n=qj t:=J
 subst this;have aT:um t:=hE;have NW:0<=a/\a<qj t/\om t+1=qj t:=⟨d.1,d.2,aby aT J⟩
 rw[cN,K NW];obtain⟨T,rfl⟩:∃T:Nat,a=(T:Int):=⟨a.toNat,J⟩
 have z4:=dQ.size;have xE:=V.bU dQ;have hR:Rr (λk=>F k/\k<w.heap.size) t w4 k7 l T 0 0 ((0:Nat):Int):=⟨sO,Wg jk Z (h.inHeap jk Z) xE X,λk hk=>by have:=hk.2;have:=V.size;omega,aT,J⟩
 refine((slS (ia 0 0)).1 0 0 T w4 Z Z (H _) hR).mono ?_;rintro _ w5 ⟨v,rfl,hD⟩;obtain⟨vk,vn,vs,vo,vl,va,rfl⟩:=hD.sC;have z5:=hD.1.size;obtain⟨eJ,hD⟩:=hD;rw[ba];have bV:tJ t T=dy t (ia 0 0) 0 0 T:=I;rw[bV];have bY:=V.size;have B9:az [] w w5:=xE.trans eJ λx hx=>.inr CQ;refine⟨_,_,_,_,_,_,I,eJ.same S,?_⟩;cases bv:dy t (ia 0 0) 0 0 T with
 | error e=>
  rw[bv]at hD;obtain⟨c,p⟩:=e;obtain⟨n,a2,P,q⟩:=hD;refine⟨_,_,_,_,_,q.blk,λ_ k8 w6 _ _ v Qi n1 n2 n3 n4 n5 n6=>⟨λk=>k=k7,I,λe=>n2 e,λe=>n4 e,λw7 x _=>⟨_,I,Yt _ _ _,λh=>absurd h n,own (B9.bU v) x⟩⟩,λa=>absurd (by simpa using a) n⟩
 | ok q=>
  rw[bv]at hD;obtain⟨x,P⟩:=q;obtain⟨s,p,v,n⟩:=hD;have jh:(oM vk vn vs vo vl va)=s:=bN Array.toList (Value.agg.inj p);refine⟨_,_,_,_,_,n.blk,λh=>(by simp at h),λ_ k9 w8 ce cc a yW n1 n2 n3 n4 n5 n6=>⟨λk=>k=k7,I,λe=>n2 e,λe=>n4 e,λw9 c _=>?_⟩⟩;have z8:=a.size;have z9:=c.size;refine⟨oM vk vn vs vo vl va,I,?_,λ_=>⟨be P,by have:=n.lt;dsimp only;omega⟩,own (B9.bU a) c⟩;rw[jh];exact((v.only a X).only c λq hq=>.inl (by simp only[bh,bI,cO]at hq;omega)).wide J J
def BN(w:aw)(c:UInt8):aA aq 262 #[.int .u8 (c.toNat:Int)] w λe a=>e=ak (aj (fU c))/\az [] w a:=by
 refine ret (avv ?_);refine⟨?_,Ib _ _⟩;congr 1;rw[bK];simp only[fU,B,cy,bF,dr];omega
def M9(w:aw)(c:UInt8):aA aq 284 #[.int .u8 (c.toNat:Int)] w λe a=>e=ak (aj (dw c))/\az [] w a:=by
 refine ret (avB ?_);refine⟨?_,Ib _ _⟩;congr 1;rw[bK];simp only[dw,B,bF];omega
def aim(w:aw):aA aq 283 #[] w λe a=>∃s:Sl,e=ak s.v/\Own nU 1 9 w.heap.size a (λ_=>True) s lq/\az [] w a:=by
 refine gX (avA ?_);obtain⟨s,a,h,b,c⟩:=lp w lq (n:=16) I I Z Z;exact⟨s,a,h,s,I,b,c⟩
def slT(w:aw){m:C}:aA aq 263 #[ab (T m)] w λe a=>e=ak (aj (lq.contains m))/\az [] w a:=by
 refine ret (avw ?_);refine(aim w).mono ?_;rintro _ f ⟨s,rfl,d,b⟩;have h:=vY d;generalize lq=l at*
 have g:=h.len;have H:=h.big;have k:=h.cap;refine⟨s,I,λv i a=>∃n:Nat,n<=qj l/\i=(n:Int)/\v=(qj l)-n/\(∀x,x∈l.take n->x≠m)/\a=f,qj l,⟨0,bf _,I,I,X,I⟩,?_⟩;rintro v _ _ ⟨n,j,rfl,rfl,p,rfl⟩;refine⟨λc=>?_,λc=>?_⟩
 .have W:(n:Int)<s.n:=u c;obtain⟨ad,x,z,r,o,A,B,t,q⟩:=h.get (be n) W;rw[ba]at o;unfold nU at q;subst q;refine⟨ad,r,_,t,?_⟩;dsimp only;rw[ji];refine⟨λe=>⟨?_,b⟩,λe=>⟨(qj l)-(n+1),J,n+1,J,Ye,I,?_,I⟩⟩
  .have e:x=m:=u e;congr 1;symm;rw[fy,<-e];exact bp o
  intro y n;rw[bn,o]at n;simp only[jz,bQ,aV]at n;rcases n with n | rfl
  .exact p y n
  exact aU e
 have A:¬((n:Int)<s.n):=aU c;rw[bm J]at p;refine⟨?_,b⟩;congr 1;symm;rw[eF];intro e;exact p m (fy.1 e) I
def PG(a:aw)(l:C)(i:Nat)(f:i<=qj l)(j:qj l<4611686018427387903):
  aA aq 264 #[ab (T l),O U (i:Int)] a λe w=>e=ak (O U (qj ((l.drop i).takeWhile fx):Int))/\az [] a w:=by
 refine ret (avx ?_);rw[cJ];have B:qj (l.drop i)=(qj l)-i:=cD;refine⟨λk w=>k=(qj ((l.drop i).takeWhile fx):Int)/\az [] a w,λk w d=>⟨by rw[d.1],d.2⟩,λv k w=>∃n:Nat,i+n<=qj l/\k=(n:Int)/\v=(qj l)-(i+n)/\(∀x,x∈(l.drop i).take n->fx x=aF)/\az [] a w,(qj l)-i,⟨0,f,I,I,X,Ib _ _⟩,?_⟩;rintro v _ g ⟨n,m,rfl,rfl,h,c⟩;rw[eS (x:=(i:Int)+n) J J];have b:(i:Int)+n=((i+n:Nat):Int):=J
 rw[b];refine⟨λhc=>?_,λhc=>⟨?_,c⟩⟩
 .have W:i+n<qj l:=Zm
  have hx:l[i+n]? =aN l[i+n]:=aX W;generalize l[i+n]=x at hx;have F:(l.drop i)[n]? =aN x:=by rw[iC,hx]
  have p:(T l)[Int.toNat ((i+n:Nat):Int)]? =aN x:=Xf
  refine⟨x,⟨be _,p⟩,(BN g x).mono ?_⟩;rintro _ q ⟨rfl,P⟩;refine⟨_,I,x,⟨be _,p⟩,(M9 q x).mono ?_⟩;rintro _ r ⟨rfl,Z⟩;have O:=c.bU (P.bU Z);have e:((!fU x)&&(!dw x))=!fx x:=by unfold fx;rw[Bool.not_or]
  refine⟨_,I,?_⟩;dsimp only;rw[e];refine⟨λo=>⟨?_,O⟩,λo=>⟨(qj l)-(i+(n+1)),J,n+1,J,Ye,I,λy k=>?_,O⟩⟩
  .rw[nH J h λy k=>by
    rw[F]at k;injection k with k;subst k;simpa using o]
   rw[ci];omega
  rw[bn,F]at k;simp only[jz,bQ,aV]at k;rcases k with k | rfl
  .exact h y k
  simpa using o
 have A:qj l<=i+n:=Xt
 rw[nH J h λy e=>by
  have:=(bc.1 e).1;omega]
 rw[ci];omega
def ajb(c:UInt8):(((((c.toNat:Int)==9)||((c.toNat:Int)==10))||((c.toNat:Int)==13))||((c.toNat:Int)==32))=qB c:=by
 have a:((c.toNat:Int)==9)=(c==9):=Rg (d:=9);have w:((c.toNat:Int)==10)=(c==10):=Rg (d:=10);have v:((c.toNat:Int)==13)=(c==13):=Rg (d:=13);have h:((c.toNat:Int)==32)=(c==32):=Rg (d:=32);rw[a,w,v,h,bK];simp[qB,or_assoc]
def cvP(c:aw)(l:C)(i:Nat)(f:i<=qj l)(p:qj l<4611686018427387903):
  aA aq 349 #[ab (T l),O U (i:Int)] c λe w=>e=ak (O U ((i+lM aM (l.drop i):Nat):Int))/\az [] c w:=by
 refine ret (av0 ?_);rw[cJ];refine⟨λk w=>k=((i+lM aM (l.drop i):Nat):Int)/\w=c,λk w h=>⟨by rw[h.1],by rw[h.2];exact Ib _ _⟩,λv k w=>∃j:Nat,j<=qj l/\k=(j:Int)/\v=(qj l)-j/\i+lM aM (l.drop i)=j+lM aM (l.drop j)/\w=c,(qj l)-i,⟨i,f,I,I,I,I⟩,?_⟩;rintro v _ o ⟨j,g,rfl,rfl,s,m⟩;subst m;refine⟨λhc=>?_,λhc=>⟨?_,I⟩⟩
 .have W:j<qj l:=Zm
  have hx:l[j]? =aN l[j]:=aX W;generalize l[j]=x at hx;have hd:=pu hx;have e:((x.toNat:Int)==47)=(x==47):=Rg (d:=47);rw[eS (x:=(j:Int)+1) J J];obtain⟨y,r⟩:∃y:UInt8,j+1<(qj l)->l[j+1]? =aN y:=by
   by_cases h:j+1<qj l
   .exact⟨l[j+1],λ_=>aX h⟩
   .exact⟨0,λa=>absurd a h⟩
  have t:((y.toNat:Int)==47)=(y==47):=Rg (d:=47);refine⟨x,⟨be j,Xf⟩,y,λh=>⟨J,?_⟩,?_⟩
  .rw[B]at h;have:=u h.2;rw[show(j:Int)+1=((j+1:Nat):Int) by omega,oc,ba];exact r J
  rw[e,t,ajb];refine⟨λy=>?_,λy=>⟨λhb=>⟨(qj l)-(j+1),J,j+1,J,I,I,?_,I⟩,λhb=>⟨?_,I⟩⟩⟩
  .simp only[B,bF,dr]at y;obtain⟨⟨rfl,a⟩,rfl⟩:=y;have a:j+1<qj l:=J
   have A:=pu (r a);have G:(l.drop j).take 2=[47,47]:=by rw[hd,A];rfl
   have hk:=G2 G;have H:qj (l.drop j)=(qj l)-j:=cD;refine⟨λv k w=>∃n:Nat,j+n<=qj l/\k=((j+n:Nat):Int)/\v=(qj l)-(j+n)/\(∀x,x∈(l.drop j).take n->(x !=10)=aF)/\w=o,(qj l)-j,⟨0,g,I,I,X,I⟩,?_⟩;rintro v _ _ ⟨n,F,rfl,rfl,E,rfl⟩;obtain⟨z,D⟩:∃z:UInt8,j+n<(qj l)->l[j+n]? =aN z:=by
    by_cases h:j+n<qj l
    .exact⟨l[j+n],λ_=>aX h⟩
    .exact⟨0,λd=>absurd d h⟩
   have b:((z.toNat:Int) !=10)=(z !=10):=by
    have:((z.toNat:Int)==10)=(z==10):=Rg (d:=10);unfold bne;rw[this]
   refine⟨z,λh=>⟨be _,by rw[oc,ba];exact D KO⟩,?_⟩;rw[b];refine⟨λh=>?_,λh=>?_⟩
   .rw[B]at h;have a:=u h.1;have k:(l.drop j)[n]? =aN z:=by rw[iC];exact D J
    refine⟨(qj l)-(j+(n+1)),J,n+1,J,Hv,I,λq d=>?_,I⟩;rw[bn,k]at d;simp only[jz,bQ,aV]at d;rcases d with d | rfl
    .exact E q d
    .exact h.2
   .have x:(l.drop j).takeWhile (· !=10)=(l.drop j).take n:=nH J E λq d=>by
     have a:=(bc.1 d).1;rw[iC,D J]at d;injection d with d;subst d;rw[bG J,ch]at h;exact h
    have k:qj ((l.drop j).takeWhile (· !=10))=n:=by rw[x,ci];omega
    have N:0<n:=by
     rw[<-k,hd,dF,K Z,aZ];omega
    rw[k,jI]at hk;exact⟨(qj l)-(j+n),J,j+n,F,I,I,by rw[s,hk];omega,I⟩
  .rw[s,hd,lM,K hb];omega
  .have z:lM aM (l.drop j)=0:=by
    rw[hd,lM,R PO,R];intro h;simp only[B,dr]at h;obtain⟨rfl,h⟩:=h;have d:j+1<qj l:=by
     cases k:l.drop (j+1)with
     | nil=>rw[k]at h;simp at h
     | cons a b=>
      have:=bN List.length k;rw[cD,aZ]at this;omega
    rw[pu (r d)]at h;simp only[nR,bP]at h;subst h;rw[bG J]at y;simp at y
   rw[s,z];rfl
 .have A:qj l<=j:=Xt
  rw[s,dT A];rfl
def A2:L (C):=[[45,62],[60,61],[62,61],[61,61],[33,61],[38,38],[124,124]]
def aiK{c d:UInt8}{r:C}:uk (c::d::r)=A2.contains [c,d]:=by
 rw[bK];simp[uk,A2];constructor
 .rintro((⟨rfl,h⟩ | ⟨rfl,h⟩) | ⟨rfl,rfl⟩)
  .rcases h with rfl | rfl | rfl | rfl<;>simp
  .rcases h with rfl | rfl<;>simp
  simp
 rintro(⟨rfl,rfl⟩ | ⟨rfl,rfl⟩ | ⟨rfl,rfl⟩ | ⟨rfl,rfl⟩ | ⟨rfl,rfl⟩ | ⟨rfl,rfl⟩ | ⟨rfl,rfl⟩)<;>simp
def afq{m:C}(h:uk m=aF):jV m=2:=by unfold jV;rw[K h]
def ahE{c:UInt8}{r:C}(h:uk (c::r)=aM):jV (c::r)=if qC.contains c then 1 else 0:=by
 unfold jV;rw[R (by rw[h];decide)]
def adM(a:aw)(l:C)(i:Nat)(j:i<qj l)(D:qj l<4611686018427387903):
  aA aq 354 #[ab (T l),O U (i:Int)] a λe w=>e=ak (O U (jV (l.drop i):Int))/\az [] a w:=by
 refine ret (av4 ?_);rw[cJ];obtain⟨s,g,o,t,b⟩:=lp a A2 (n:=7) (parts:=#[(0,ab (ao #[45,62])),(1,ab (ao #[60,61])),(2,ab (ao #[62,61])),(3,ab (ao #[61,61])),(4,ab (ao #[33,61])),(5,ab (ao #[38,38])),(6,ab (ao #[124,124]))]) I I Z Z;have f:=vY t;have hx:l[i]? =aN l[i]:=aX j;generalize l[i]=c at hx;have hd:=pu hx;have z:qj (l.drop i)=(qj l)-i:=cD;have A:=f.len;rw[eS (x:=(i:Int)+2) J J];refine⟨s,g,o,λv k w=>∃n:Nat,n<=qj A2/\k=(n:Int)/\v=(qj A2)-n/\(2<=(qj (l.drop i))->∀x,x∈A2.take n->x≠(l.drop i).take 2)/\az [] g w,qj A2,⟨0,bf _,I,I,X,Ib _ _⟩,?_⟩;rintro v _ E ⟨n,m,rfl,rfl,p,r⟩;refine⟨λhc=>?_,λhc=>?_⟩
 .have W:(n:Int)<s.n:=u hc;obtain⟨ad,x,Q,L,F,S,V,M,G⟩:=(Wg dG Z f r X).get (be n) W;rw[ba]at F;unfold nU at G;subst G;have N:qj A2=7:=I;refine⟨i,i+2,λh=>⟨I,J,J,KO⟩,ad,λ_=>L,_,λ_=>M,?_⟩;have ex:(T l).extract i (i+2)=T ((l.drop i).take 2):=by rw[wG,show i+2-i=2 by omega]
  rw[ex,ji];refine⟨λh Y P=>⟨?_,b.bU (r.bU P)⟩,λh w3 H=>⟨(qj A2)-(n+1),J,n+1,J,Ye,I,λq y k=>?_,r.bU H⟩⟩
  .rw[B]at h;have s:=u h.1;have q:=u h.2;have n:uk (l.drop i)=aF:=by
    cases e:l.drop (i+1)with
    | nil=>
     have:=bN List.length e;rw[cD,bE]at this;omega
    | cons d h=>
     rw[hd,e]at q⊢;rw[aiK,fy];have:(c::d::h).take 2=[c,d]:=I;rw[<-this,q];exact bp F
   rw[afq n];rfl
  rw[bn,F]at k;simp only[jz,bQ,aV]at k;rcases k with k | rfl
  .exact p q y k
  rw[bG J,ch]at h;exact λe=>aU h e.symm
 have G:¬((n:Int)<s.n):=aU hc;rw[bm J]at p;have F:uk (l.drop i)=aM:=by
  cases c:l.drop (i+1)with
  | nil=>rw[hd,c];rfl
  | cons d k=>
   rw[hd,c,aiK,eF];intro h;rw[fy]at h;have e:2<=qj (l.drop i):=by rw[hd,c];simp
   exact p e _ h (by rw[hd,c];rfl)
 have V:jV (l.drop i)=if qC.contains c then 1 else 0:=by
  rw[hd]at F⊢;exact ahE F
 rw[V];refine⟨λv k w=>∃n:Nat,n<=17/\k=(n:Int)/\v=17-n/\(∀x,x∈qC.take n->x≠c)/\az [] a w,17,⟨0,bf _,I,I,X,b.bU r⟩,?_⟩;rintro v _ H ⟨n,m,rfl,rfl,p,Q⟩;refine⟨λhc=>?_,λhc=>⟨?_,Q⟩⟩
 .have W:n<17:=Zm
  obtain⟨y,k⟩:∃y,qC[n]? =aN y:=⟨_,aX W⟩
  refine⟨c,⟨be i,Xf⟩,y,⟨be n,by
   have e:(ao #[123,125,40,41,91,93,59,44,61,43,45,42,47,37,60,62,33])=T qC:=I;rw[e,oc,ba,k]⟩,?_⟩
  rw[Rg];refine⟨λh L x=>⟨?_,Q.bU x⟩,λh M s=>⟨17-(n+1),J,n+1,J,Ye,I,λq d=>?_,Q.bU s⟩⟩
  .have h:c=y:=U3
   rw[K]
   .rfl
   rw[fy,h];exact bp k
  rw[bn,k]at d;simp only[jz,bQ,aV]at d;rcases d with d | rfl
  .exact p q d
  rintro rfl;simp at h
 have G:n=17:=Xt
 subst G;rw[R]
 .rfl
 intro h;rw[fy]at h;exact p c (by rw[bm Z];exact h) I
def ExE{d:C}{x:UInt8}:mF 0 (d++[x])=mF 0 d*10+(x.toNat-48):=by
 unfold mF;rw[jR];rfl
def aaA{ds:C}{n:Nat}:mF 0 (ds.take n)<=mF 0 ds:=by
 have:mF 0 ds=mF (mF 0 (ds.take n)) (ds.drop n):=by
  unfold mF;rw[<-jR,dM]
 rw[this];exact IP _ _
def agB(a:aw)(l:C)(b:qj l<4611686018427387903):
  aA aq 353 #[ab (T l)] a λe w=>e=ak (ai #[O U (gK l).1,O U (gK l).2.1,O U (gK l).2.2])/\az [] a w:=by
 refine ret (av3 ?_);rw[cJ];refine⟨λh0=>⟨?_,Ib _ _⟩,λh0=>?_⟩
 .have h0:l=[]:=bL (by have:(qj l:Int)=0:=LI;omega);rw[gK,K h0];rfl
 have h0:¬l=[]:=by
  rintro rfl;simp at h0
 refine⟨λc j w=>∃n:Nat,n<=qj l/\j=(n:Int)/\c=(qj l)-n/\(∀x,x∈l.take n->dw x=aF)/\w=a,qj l,⟨0,bf _,I,I,X,I⟩,?_⟩;rintro c _ o ⟨n,k,rfl,rfl,p,m⟩;subst m;obtain⟨z,f⟩:∃z:UInt8,n<(qj l)->l[n]? =aN z:=by
  by_cases h:n<qj l
  .exact⟨l[n],λ_=>aX h⟩
  exact⟨0,λd=>absurd d h⟩
 have g:n<(qj l)->0<=(n:Int)/\(T l)[Int.toNat (n:Int)]? =aN z:=λh=>⟨be n,by rw[oc,ba];exact f h⟩
 refine⟨z,λh=>g KO,z,λh=>g (by
  rw[B]at h;have:=u h.1;omega),?_⟩
 have i:((((YR ((n:Int)<(qj l:Int)))&&(YR ((z.toNat:Int)>=48)))&&(YR ((z.toNat:Int)<=57))))=(YR (n<qj l)&&dw z):=by
  rw[bK];simp only[dw,B,bF];omega
 rw[i];refine⟨λh=>?_,λh=>?_⟩
 .rw[B]at h;have d:n<qj l:=u h.1;refine⟨(qj l)-(n+1),J,n+1,J,Ye,I,λy hy=>?_,I⟩;rw[bn,f d]at hy;simp only[jz,bQ,aV]at hy;rcases hy with hy | rfl
  .exact p y hy
  exact h.2
 have s:l.takeWhile dw=l.take n:=nH k p λy hy=>by
  have d:=(bc.1 hy).1;rw[f d]at hy;injection hy with hy;subst hy;rw[bG d,ch]at h;exact h
 have t:qj (l.takeWhile dw)=n:=by rw[s,ci];omega
 obtain⟨x,r,rfl⟩:∃x r,l=x::r:=by
  cases l with
  | nil=>exact absurd I h0
  | cons x r=>exact⟨x,r,I⟩
 refine⟨x,λ_ _=>⟨ja _,Xo⟩,?_⟩;have A:((x.toNat:Int)==48)=(x==48):=Rg (d:=48);have D:(((n:Int)==0)||((YR ((n:Int)>1))&&((x.toNat:Int)==48)))=YR ((x::r).takeWhile dw=[]∨(1<qj ((x::r).takeWhile dw)/\(x::r).head? =aN 48)):=by
  rw[A,t,bK];simp only[B,cy,bF,dr,nR,bP];have:(x::r).takeWhile dw=[]↔n=0:=by
   constructor
   .intro e;rw[e]at t;exact t.symm
   intro e;rw[e]at t;exact bL t
  rw[this];by_cases h:x=48
  .simp only[h,and_true];omega
  simp only[h,and_false,cO];omega
 rw[D];refine⟨λz=>⟨?_,Ib _ _⟩,λz=>?_⟩
 .rw[gK,R h0,K (u z)];rfl
 have z:=aU z;refine⟨λc v j w=>∃q:Nat,q<=n/\j=(q:Int)/\c=n-q/\v=(mF 0 ((x::r).take q):Int)/\mF 0 ((x::r).take q)<9223372036854775808/\az [] o w,n,⟨0,bf _,I,I,I,by rw[cu];decide,Ib _ _⟩,?_⟩;rintro c _ _ F ⟨q,E,rfl,rfl,rfl,e,d⟩;refine⟨λhc=>?_,λhc=>⟨?_,d⟩⟩
 .have W:q<n:=Zm
  have hy:(x::r)[q]? =aN ((x::r)[q]' J):=aX J;generalize (x::r)[q]' J=y at hy;have G:dw y=aF:=p y (by
   rw[FZ];exact⟨q,by rw[yJ,K W,hy]⟩)
  simp only[dw,B,bF]at G;have H:au .u8 ((y.toNat:Int)-48)=(y.toNat:Int)-48:=by
   have h:∀n:Fin 256,48<=n.val->au .u8 ((n.val:Int)-48)=(n.val:Int)-48:=KR
   exact h ⟨y.toNat,y.toNat_lt⟩ G.1
  have M:(9223372036854775807-((y.toNat:Int)-48)).tdiv 10=(9223372036854775807-((y.toNat:Int)-48))/10:=Int.tdiv_eq_ediv_of_nonneg J;have L:(x::r).take (q+1)=(x::r).take q++[y]:=QG
  have ev:mF 0 ((x::r).take (q+1))=mF 0 ((x::r).take q)*10+(y.toNat-48):=by rw[L,ExE]
  refine⟨y,⟨be q,by rw[oc,ba,hy]⟩,?_⟩;rw[H,eS (x:=(y.toNat:Int)-48) J J,eS (x:=9223372036854775807-((y.toNat:Int)-48)) J J,M,eS (x:=(9223372036854775807-((y.toNat:Int)-48))/10) J J];refine⟨λv=>⟨?_,d⟩,λv=>⟨n-(q+1),J,q+1,J,Ye,I,?_,?_,d⟩⟩
  .have v:=u v;have h:mF 0 ((x::r).take (q+1))<=mF 0 ((x::r).take n):=by
    have:=aaA (ds:=(x::r).take n) (n:=q+1);rw[List.take_take,Nat.min_eq_left J]at this;exact this
   rw[gK,R h0,R z,R (by rw[s];omega)];rfl
  .have v:=aU v;rw[ev,eS (x:=10*(mF 0 ((x::r).take q):Int)) J J,eS J J];omega
  have v:=aU v;rw[ev];omega
 have h:q=n:=Xt
 subst h;rw[gK,R h0,R z,K (by rw[s];exact e),t,s]
def LU(i:Nat)(r:Except Int Tq)(v:ay):Prop:=match r with
 | .error e=>v=ai #[ah #[O U 0,ab (T []),O U 0,O U 0],O U 0,O U e]
 | .ok q=>v=ai #[ah #[O U q.1,ab (T q.2.1),O U q.2.2.1,O U (i:Int)],O U (q.2.2.2:Int),O U 0]
def ajw(w:aw)(l:C)(i:Nat)(q:i<qj l)(F:qj l<=16384):
  aA aq 350 #[ab (T l),O U (i:Int)] w λe f=>∃v,e=ak v/\LU i (nI (l.drop i)) v/\az [] w f:=by
 refine av1 (T l) i (λv f=>LU i (nI (l.drop i)) v/\az [] w f) w ?_;have hx:l[i]? =aN l[i]:=aX q;generalize l[i]=x at hx;have B:qj (l.drop i)=(qj l)-i:=cD;have D:nI (l.drop i)=if fU x then oU (l.drop i)else if dw x then vB (l.drop i)else qk (l.drop i):=by
  rw[pu hx];rfl
 rw[D];have o:0<=(i:Int)/\(T l)[Int.toNat (i:Int)]? =aN x:=⟨be i,Xf⟩
 refine⟨x,o,λt z H G c=>(BN z x).mono ?_⟩;rintro _ E ⟨rfl,r⟩;have new:∀{b d:aw},az [] w b->az [t] b d->az [] w d:=λg k=>g.trans k λy hy=>.inr Ya;have sm:∀{b d:aw},az [] z b->az [] b d->cj [t] b d:=λA g=>g.same (by have:=A.size;simp;omega);refine⟨_,I,sm (Ib _ _) r,x,o,(M9 E x).mono ?_⟩;rintro _ j ⟨rfl,P⟩;have h:=r.bU P;refine⟨_,I,sm r P,λhb=>?_,λhb=>⟨λhd=>⟨i,⟨I,Yv⟩,?_⟩,λhd=>?_⟩⟩
 .rw[K hb];refine(PG j l i J J).mono ?_;rintro _ w3 ⟨rfl,Z⟩;have O:qj ((l.drop i).takeWhile fx)<=(qj l)-i:=by
   have:=ul (p:=fx) (l:=l.drop i);rwa[B]at this
  have ex:(T l).extract i (i+qj ((l.drop i).takeWhile fx))=T ((l.drop i).takeWhile fx):=by
   rw[wG,dH,<-pq]
  refine⟨_,I,sm h Z,i,i+qj ((l.drop i).takeWhile fx),⟨I,Hv,J,Yv⟩,λY U sP W Q=>?_⟩;have e:=h.bU (Z.bU Q);rw[ex];refine(slT U).mono ?_;rintro _ w5 ⟨rfl,x⟩;have v:=e.bU x;have z4:=e.size;unfold oU;generalize X:(l.drop i).takeWhile fx=m at*
  refine⟨_,I,x.same S,λk s n a f=>k=(if lq.contains m then 2 else 1:Int)/\s=T m/\n=0/\a=(i:Int)/\az [] w f,?_,λhc w9 M=>⟨by rw[K hc],I,I,I,(c.bU v).trans M λy hy=>.inr (by simp only[aV]at hy;have:=c.size;have:=Z.size;have:=h.size;omega)⟩,λhc=>⟨by rw[hc];rfl,I,I,I,c.bU v⟩⟩;rintro _ _ _ _ w6 ⟨rfl,rfl,rfl,rfl,V⟩;refine⟨λhc w7 N=>⟨?_,new V N⟩,λhc w8 L=>⟨?_,new V L⟩⟩
  .rw[K Zm];rfl
  rw[R Xt];rfl
 .rw[R PO,K hd];have ex:(T l).extract i (T l).size=T (l.drop i):=by rw[wG,cJ,bm J]
  rw[ex];refine(agB j (l.drop i) J).mono ?_;rintro _ e ⟨rfl,N⟩;have a:=h.bU N;unfold vB;refine⟨_,_,_,I,sm h N,λhe n k=>⟨?_,new (c.bU a) k⟩,λhe=>(PG e l i J J).mono ?_⟩
  .rw[K UB];rfl
  rintro _ y ⟨rfl,V⟩;have p:=a.bU V;rw[R UB];refine⟨_,I,sm a V,λhc Y s=>⟨?_,new (c.bU p) s⟩,λhc v Z=>⟨?_,new (c.bU p) Z⟩⟩
  .rw[K Zm];rfl
  rw[R Xt];rfl
 rw[R PO,R (by rw[hd];decide)];refine(adM j l i q J).mono ?_;rintro _ s ⟨rfl,k⟩;have a:=h.bU k;have v:=Ag (m:=l.drop i);have ex:(T l).extract i (i+jV (l.drop i))=T ((l.drop i).take (jV (l.drop i))):=by rw[wG,dH]
 unfold qk;refine⟨_,I,sm h k,λhz x p=>⟨?_,new (c.bU a) p⟩,λhz=>⟨i,i+jV (l.drop i),⟨I,Hv,J,Yv⟩,λL n=>⟨?_,new (c.bU a) n⟩⟩⟩
 .rw[K (by have:(jV (l.drop i):Int)=0:=SE;omega)];rfl
 rw[R (by rintro e;rw[e]at hz;simp at hz),ex];rfl
def exR(b:aw)(l:C):
  aA aq 334 #[ab (T l)] b λe a=>∃r:Sl,e=ak (ai #[r.v,ah #[O U (de l).2.1,O U (de l).2.2]])/\ol b.heap.size a r (de l).1/\az [] b a:=by
 refine gX (avR ?_);rw[cJ];refine⟨λhc f g _ _ h=>⟨Sl.nil,?_,?_,h⟩,λhc d w m j c=>?_⟩
 .rw[de,K Zm]
 .rw[de,K Zm];exact Yb _ _ _ _ _ _
 have A:qj l<=16384:=Xt
 have o:de l=match lN l 0 with
  | .error x=>([],x.1,(x.2:Nat))
  | .ok e=>(e,0,0):=by
   rw[de,R J]<;>rfl
 refine(cvP w l 0 (bf _) J).mono ?_;rintro _ G ⟨rfl,P⟩;have E:=c.size;refine⟨_,I,P.same S,λz s p B D a=>B=0/\D=0/\∃(i:Nat) (n:L Tk),p=(i:Int)/\i<=qj l/\qj n<=i/\lM aM (l.drop i)=0/\lN l 0=lr n (lN l i)/\z=(qj l)-i/\ol w.heap.size a s n/\az [] w a,(qj l)-(0+lM aM (l.drop 0)),?_,?_⟩
 .refine⟨I,I,_,[],I,LO (bf _),bf _,?_,?_,I,Yb _ _ _ _ _ _,P⟩
  .rw[<-jI];exact tq aM (l.drop 0)
  rw[<-pv (bf _)];cases lN l 0<;>rfl
 rintro z s _ _ _ Q ⟨rfl,rfl,i,n,rfl,hj,Kk,Y,V,rfl,H,X⟩;have z3:=X.size;have M:=lI hj;rw[Y,gy]at M;have N:∀{u:aw} {W:Sl} (t:Tk),az [] w u->ol w.heap.size u W n->
   ∃y e,(av 167 1 #[(0,t.v)]).run aq u=.ok (Sl.v y) e/\az [] u e/\∃s q,(Builtin.append_ #[167,167] 167 #[Sl.v W,Sl.v y]).run aq e=.ok (Sl.v s) q/\ol w.heap.size q s (n++[t])/\aE (λk=>w.heap.size<=k/\W.a=aN ⟨k,0,Pw⟩) e q/\az [] w q:=by
  intro u W t T hr;obtain⟨y,e,c1,v,s,q,c3,c4,x⟩:=ahD t hr T.size (bB (fS 40 (show (qj n)+1<=16385 by omega)) Z);exact⟨y,e,c1,v,s,q,c3,c4,x,((T.bU v).p0 (F:=λk=>w.heap.size<=k) |>.trans x λk hk=>.inl hk.1).only λk hk=>hk⟩
 refine⟨λhc=>?_,λhc=>?_⟩
 .have bW:i<qj l:=Zm
  rw[R J]at M;refine(ajw Q l i bW A).mono ?_;rintro _ w4 ⟨v,rfl,t,dQ⟩;have Wa:=X.bU dQ;have am:cj [d] Q w4:=dQ.same S;have z4:=dQ.size;unfold LU at t;cases F:nI (l.drop i)with
  | error e=>
   rw[F]at t M;dsimp only at t;subst t;refine⟨0,T [],0,0,0,e,I,am,λ_ s u x q k=>⟨Sl.nil,?_,?_,?_⟩,λhe=>absurd (IQ F) UB⟩
   .rw[o,V,M];rfl
   .rw[o,V,M];exact Yb _ _ _ _ _ _
   exact(c.bU Wa).trans k λy hy=>.inr Ya
  | ok q=>
   rw[F]at t M;dsimp only at t;subst t;have aT:=xR F;have aS:=EF F;rw[cD]at aS;refine⟨q.1,T q.2.1,q.2.2.1,(i:Int),(q.2.2.2:Int),0,I,am,λhe=>(by simp at he),λ_ k5 w6 sP FU v=>?_⟩;have aC:=Wa.bU v;have z6:=v.size;obtain⟨y,w7,c1,c2,s',w8,c3,c4,c5,c6⟩:=N (u:=w6) ⟨q.1,q.2.1,q.2.2.1,(i:Nat)⟩ aC (H.only (dQ.bU v));have z7:=c2.size;have z8:=c5.size;have hk:∀k,s.a=aN ⟨k,0,Pw⟩->w.heap.size<=k/\k<Q.heap.size:=λk hk=>H.blk hk;refine⟨y,w7,c1,c2.same S,s',w8,c3,c5.same (by
    intro x k;simp only[bh,bI,cO]at k;refine⟨J,λe=>?_⟩;have:=hk x e.2;omega),?_⟩
   rw[eS (x:=(i:Int)+(q.2.2.2:Int)) J J,show(i:Int)+(q.2.2.2:Int)=((i+q.2.2.2:Nat):Int) by omega];refine(cvP w8 l (i+q.2.2.2) J J).mono ?_;rintro _ w9 ⟨rfl,gA⟩;have NU:=LO (l:=l) (i:=i+q.2.2.2) J;refine⟨_,I,gA.same S,(qj l)-(i+q.2.2.2+lM aM (l.drop (i+q.2.2.2))),J,I,I,_,_,I,NU,?_,?_,?_,I,c4.only gA,c6.bU gA⟩
   .rw[aP,bA];omega
   .rw[<-jI];exact tq aM _
   rw[V,M,<-pv J,<-fqG];dsimp only;cases lN l (i+q.2.2.2)<;>rfl
 have me:qj l<=i:=Xt
 rw[K me]at M;have mV:i=qj l:=J
 obtain⟨y,dq,T,v,q,dB,c3,c4,c5,c6⟩:=N (u:=Q) ⟨5,[],0,(i:Nat)⟩ X H;have KG:=v.size;have hk:∀k,s.a=aN ⟨k,0,Pw⟩->w.heap.size<=k/\k<Q.heap.size:=λk hk=>H.blk hk;have t:de l=(n++[⟨5,[],0,(i:Nat)⟩],0,0):=by
  rw[o,V,M];rfl
 have e:(qj l:Int)=(i:Int):=J
 rw[e];refine⟨y,dq,T,v.same S,q,dB,c3,c5.same (by
  intro x k;simp only[aV]at k;refine⟨J,λe=>?_⟩;have:=hk x e.2;omega),λey F=>⟨q,by rw[t],?_,?_⟩⟩
 .rw[t];have:ol w.heap.size ey q _:=c4.keep λk hk e=>F.block k e (by simp only[aV];have:=hk.1;omega);exact Oq this E
 exact(c.bU c6).trans F λy hy=>.inr Ya
def tD(w:aw)(l:C)(f:qj l<4611686018427387903):
  aA aq 227 #[ab (T l)] w λe a=>e=ak (aj (dD l))/\az [] w a:=by
 refine ret (avr ?_);have d:(ao #[])=T []:=I;rw[cJ,d,ji];refine⟨λh=>⟨?_,Ib _ _⟩,λh=>?_⟩
 .unfold dD;rw[bD]
  .rfl
  rintro⟨b,c⟩;rw[bD b,bD J]at h;cases h
 simp only[fe,db]at h;obtain⟨j,g⟩:=h;have g:qj l<=24:=J
 obtain⟨c,r,rfl⟩:∃c r,l=c::r:=by
  cases l with
  | nil=>exact absurd I j
  | cons c r=>exact⟨c,r,I⟩
 have m:dD (c::r)=(fU c&&YR ((c::r).takeWhile fx=c::r)&&!lq.contains (c::r)):=by
  unfold dD;rw[bG ⟨j,g⟩,ch]
 refine⟨c,⟨ja _,Xo⟩,(BN w c).mono ?_⟩;rintro _ o ⟨rfl,n⟩;refine⟨_,I,(slT o).mono ?_⟩;rintro _ q ⟨rfl,k⟩;refine⟨_,I,λb a=>b=dD (c::r)/\az [] w a,λb a e=>⟨by rw[e.1],e.2⟩,λi=>?_,λi=>⟨?_,n.bU k⟩⟩
 .refine(PG q (c::r) 0 (bf _) f).mono ?_;rintro _ b ⟨rfl,Z⟩;rw[gJ];refine⟨_,I,?_,n.bU (k.bU Z)⟩;rw[m];simp only[B,da]at i;rw[i.1,i.2,ch,GL,dY,bK];simp only[dr,bF];constructor
  .intro e;have e:qj ((c::r).takeWhile fx)=qj (c::r):=J
   have g:=pq (p:=fx) (l:=c::r);rw[e,bm (H _)]at g;exact g
  intro e;rw[e]
 rw[m];cases j:fU c<;>cases g:lq.contains (c::r)<;>rw[j,g]at i<;>simp at i⊢
def adN(w:aw)(l:C):aA aq 309 #[ab (T l)] w λe j=>
  ∃b,e=ak (ai #[ah b.toArray,ah #[O U (iV l).2.1,O U (iV l).2.2]])/\RX j w.heap.size j.heap.size (iV l).1 b/\az [] w j:=by
 refine gX (avJ ?_);intro E F z N M V Q m;have z0:=m.size;have own:∀{u y:aw},az [] w u->az [F,E] u y->az [] w y:=λB D=>B.trans D λx hx=>.inr LM;refine(exR z l).mono ?_;rintro _ w1 ⟨g,rfl,h,r⟩;have z1:=r.size;have o:=m.bU r;generalize H:de l=L at*
 obtain⟨s,c,p⟩:=L;dsimp only at h⊢;have a:iV l=if c≠0 then(zI,c,p)else if(cN s 0).2.2.1≠0 then(zI,(cN s 0).2.2.1,(cN s 0).2.2.2)else if(tk s (cN s 0).2.1.toNat).k≠5 then(zI,4,(tk s (cN s 0).2.1.toNat).a)else((cN s 0).1,0,(cN s 0).2.2.2):=by
  unfold iV;rw[H]
 refine⟨g,_,_,I,r.same S,λhc G w2 W Y P v f i=>⟨λk=>k=G,I,λe=>f e,λe=>i e,λw3 A=>?_⟩,λhc k3 w4 zE uQ d=>?_⟩
 .have hc:c≠0:=Yc
  rw[a,K hc];exact⟨_,I,Yt _ _ _,own (o.bU P) A⟩
 have hc:c=0:=Yc
 rw[R (by simp[hc])]at a;have z4:=d.size;refine(exl (h.only d).sl 0 ⟨Z,Z⟩).mono ?_;rintro _ w5 ⟨b,rfl,hX,hj,eJ⟩;have z5:=eJ.size;have aC:(cN s 0).2.2.1=0->(cN s 0).2.2.2=0:=by
  unfold cN;split
  .cases k:tJ s (0:Int).toNat with
   | error e=>
    obtain⟨c,p⟩:=e;intro n;exact absurd n (pw _ _ _ _ k)
   | ok q=>intro _;rfl
  intro c;exact absurd c (show ¬(1:Int)=0 by decide)
 generalize aT:cN s 0=pa at*
 obtain⟨x,aS,c',p'⟩:=pa;dsimp only at hX hj a aC⊢;obtain⟨xl,rfl,_⟩:=hX.cells;have B9:az [] w w5:=(o.bU d).bU eJ;have am:∀{u:aw},az [k3] w5 u->aB OZ 4 u (λk=>z.heap.size<=k/\g.a=aN ⟨k,0,Pw⟩) g s:=λhO=>Wg jk Z (h.only (d.bU eJ)).sl hO λk hk bW hm=>by
  have:=h.blk hk.2;simp only[aV]at hm;dsimp only at this;omega
 refine⟨_,_,_,_,_,_,_,_,_,I,eJ.same S,λT k4 w6 wx C5 dV v f i n4 n5 n6=>⟨λk=>k=k3,I,λe=>f e,λe=>n4 e,λw7 gq=>?_⟩,λT=>?_⟩
 .have T:c'≠0:=by simpa using T
  rw[a,K T];exact⟨_,I,Yt _ _ _,own (B9.new dV J) gq⟩
 have T:c'=0:=by simpa using T
 rw[R (by simp[T])]at a;obtain⟨TD,J8⟩:=hj T;obtain⟨n,rfl⟩:∃n:Nat,aS=(n:Int):=⟨aS.toNat,J⟩
 have hl:=(am (Ib _ _)).len;obtain⟨ad,t,b,g1,g2,g3,g4,g5,g6⟩:=(am (Ib _ _)).get TD J;rw[ba]at a;refine⟨ad,g1,λk5 w8 sP FU c=>?_⟩;obtain⟨yE,t',DP,e1,p,e3,e4,e5,e6⟩:=(am c).get TD J;have x:=Zk e1 g1;subst x;rw[ba,EG J]at p;injection p with p;subst p;unfold OZ at e6;subst e6;have z8:=c.size;refine⟨_,e5.dP 0 _ I,λhk w9 gA v f i n4 n5 n6=>⟨λk=>k=yE.block,yE,g1,?_,_,(e5.keep (gA.block _ e5.lt X)).dP 3 _ I,?_,?_,λdq dN=>?_⟩,λhk dB eG=>?_⟩
 .exact oZ yE 3
 .intro e;have:=e3.1;rw[<-e]at this;omega
 .intro e;have:=e3.1;rw[<-e]at this;omega
 .have hk:(tk s n).k≠5:=WH
  rw[a,K hk];exact⟨_,I,Yt _ _ _,own ((B9.new c J).bU gA) dN⟩
 have hk:(tk s n).k=5:=WH
 rw[a,R (by simp[hk]),aC T];have k:=eG.size;exact⟨_,I,((hX.only c λq e=>.inl (by simp only[aV]at e;omega)).only eG λq e=>.inl (by simp only[bh,bI,cO]at e;omega)).wide J J,own (B9.new c J) eG⟩
def aiR{k:Nat}{op:Int}(hk:k<6)(h:op∈(fH[k]?).getD []):gf op=(k:Int):=by
 match k,hk with
 | 0,_=>simp[fH]at h;subst h;rfl
 | 1,_=>simp[fH]at h;subst h;rfl
 | 2,_=>simp[fH]at h;rcases h with rfl | rfl<;>rfl
 | 3,_=>simp[fH]at h;rcases h with rfl | rfl | rfl | rfl<;>rfl
 | 4,_=>simp[fH]at h;rcases h with rfl | rfl<;>rfl
 | 5,_=>simp[fH]at h;rcases h with rfl | rfl | rfl<;>rfl
def adO{op:Int}(h:∀k,k<6->op∉(fH[k]?).getD []):gf op=6:=by
 have a:=h 0 Z;have b:=h 1 Z;have c:=h 2 Z;have d:=h 3 Z;have e:=h 4 Z;have f:=h 5 Z;simp[fH]at a b c d e f;unfold gf;rw[R J,R J,R J,R J,R J,R J]
def A3{a:aw}{F:A}{x:Ex}{s:aJ}{d:Nat}(j:xS d a F x s):aA aq 329 #[ah s.toArray] a λe w=>e=ak (O U (P x))/\az [] a w:=by
 obtain⟨sl,rfl⟩:=mG j;refine ret (avQ ?_);intro C o t r f;refine(PE o).mono ?_;rintro _ g ⟨l,rfl,N,c⟩;have D:=N.len;have E:qj fH=6:=I;refine⟨l,I,c.same S,λv i w=>∃n:Nat,n<=6/\i=(n:Int)/\v=6-n/\(∀k,k<n->x.op∉(fH[k]?).getD [])/\az [] g w,6,⟨0,Z,I,I,λk hk=>absurd hk (RI k),Ib _ _⟩,?_⟩;rintro v _ p ⟨n,z,rfl,rfl,H,b⟩;have m:az [] a p:=(f.bU c).bU b;refine⟨λh=>?_,λh=>⟨?_,m⟩⟩
 .simp only[B,bF,dr]at h;obtain⟨nD,sP⟩:=h;have bW:n<6:=J
  obtain⟨p0,G,am,U,V,g3,g4,O,T,rfl,Q⟩:=N.get (be n) J;rw[ba]at V;have M:(fH[n]?).getD []=G:=by rw[V];rfl
  have t1:=Q.len;have t2:=Q.cap;have t3:=Q.big;refine⟨λv i w=>∃d:Nat,d<=qj G/\i=(d:Int)/\v=(qj G)-d/\(∀q y,q<d->G[q]? =aN y->y≠x.op)/\az [] g w,qj G,⟨0,bf _,I,I,λq y L=>absurd L (RI q),b⟩,?_⟩;rintro v _ w3 ⟨d,hj,rfl,rfl,W,F⟩;refine⟨p0,U,T,O.keep (F.block _ O.lt X),λe=>?_,λY=>?_⟩
  .have e:(d:Int)<(T.n:Int):=u e;obtain⟨p3,aC,aS,r1,n,r3,r4,r5,r6⟩:=(Wg oC Z Q F X).get (be d) e;unfold FA at r6;subst r6;rw[ba]at n;refine⟨p0,U,T,O.keep (F.block _ O.lt X),p3,r1,aC,r5,λhe w4 dQ=>⟨?_,((f.bU c).bU F).bU dQ⟩,λhe w5 eJ=>⟨(qj G)-(d+1),J,d+1,J,Ye,I,λq y L k=>?_,F.bU eJ⟩⟩
   .have he:aC=x.op:=UB
    subst he;have:=aiR bW (by rw[M];exact bp n);rw[P,K sP,this]
   rcases nu q d with x | x
   .exact W q y x k
   have:q=d:=J
   subst this;rw[n]at k;injection k with k;subst k;simpa using he
  have Y:¬(d:Int)<(T.n:Int):=aU Y;refine⟨6-(n+1),J,n+1,J,Ye,I,λk hk=>?_,F⟩;rcases nu k n with x | x
  .exact H k x
  have:k=n:=J
  subst this;rw[M];intro y;obtain⟨q,L⟩:=gI y;exact W q _ (by have:=(bc.1 L).1;omega) L I
 rw[P];by_cases d:x.k=5
 .rw[K d];have:n=6:=by
   rw[d]at h;simp at h;omega
  subst this;rw[adO H]
 rw[R d]
def Na:∀(d:Nat) {a:aw} {F:A} {x:Ex} {c:aJ},(∀e,yM e x)->xS d a F x c->aA aq 307 #[ah c.toArray] a λe w=>e=ak (aj (cV d x))/\az [] a w
 | 0,_,_,_,_,_,h=>h.elim
 | d+1,a,F,x,c,g,⟨sl,m,h⟩=>by
  subst m;refine ret (aoT ?_);intro D z N C k;have o:=h.len;have E:=h.cap;have L:=h.big;have l:qj x.s<4611686018427387903:=(g 1).1;have s:∀y,y∈x.dK->∀e,yM e y:=λy q e=>(g (e+1)).2 y q;have V:∀{b:M},iM x=b->cV (d+1) x=(b&&lu (cV d) x.dK):=λe=>by rw[cV,e]
  refine⟨λv t w=>∃n:Nat,n<=qj x.dK/\t=(n:Int)/\v=(qj x.dK)-n/\lu (cV d) x.dK=lu (cV d) (x.dK.drop n)/\az [] a w/\z.heap.size<=w.heap.size,qj x.dK,⟨0,bf _,I,I,I,k,H _⟩,?_⟩;rintro v _ B ⟨n,G,rfl,rfl,i,r,Q⟩;refine⟨λW=>?_,λj=>?_⟩
  .have W:(n:Int)<(sl.n:Int):=u W;obtain⟨p,y,ds,g1,e,g3,g4,g5,T⟩:=(Wg (kb d) Z h r X).get (be n) W;rw[ba]at e;obtain⟨sy,rfl⟩:=mG T;refine⟨p,g1,_,_,_,_,_,_,g5,(Na d (s y (bp e)) T).mono ?_⟩;rintro _ w2 ⟨rfl,b⟩;have z2:=b.size;have Y:=G6 (f:=cV d) e;refine⟨_,I,b.same S,λhb=>⟨?_,r.bU b⟩,λhb=>⟨(qj x.dK)-(n+1),J,n+1,J,Ye,I,?_,r.bU b,J⟩⟩
   .have hb:cV d y=aM:=Xu
    rw[cV,i,Y,hb,cR,ga]
   have hb:cV d y=aF:=Xu
   rw[i,Y,hb,ch]
  have j:¬(n:Int)<(sl.n:Int):=aU j;have:n=qj x.dK:=J
  subst this;rw[dT (H _)]at i;have f:cV (d+1) x=iM x:=by
   rw[cV,i];simp[lu]
  refine(tD B x.s l).mono ?_;rintro _ Y ⟨rfl,p⟩;have e:=r.bU p;have z3:=p.size;have y:((T x.s).toList==(ao #[]).toList)=YR (x.s=[]):=ji x.s [];rw[y,o];refine⟨_,I,p.same S,λhk=>⟨?_,e⟩,λhk=>⟨λb w=>b=YR (x.k=2∨x.k=3)/\w=Y,?_,λrF=>⟨?_,I⟩,λrF=>⟨?_,I⟩⟩⟩
  .have hk:x.k=1:=WH
   rw[f,iM,K hk,Uh];congr 4;rw[bK];simp only[bF,dr];split<;>omega
  .have n:x.k≠1:=WH
   rintro _ _ ⟨rfl,rfl⟩;refine⟨λhb=>⟨?_,e⟩,λhb=>⟨λwx=>⟨?_,e⟩,λwx=>⟨λsP=>?_,λsP=>⟨?_,e⟩⟩⟩⟩
   .have hb:=u hb;rw[f,iM,R n,K hb,Uh];have:YR (x.s=x.s)=aF:=bG I;rw[this,dY];cases(x.n==0)<;>cases dD x.s<;>simp
   .have hb:=aU hb;have wx:x.k=4:=Uz
    rw[f,iM,R n,R hb,K wx,Uh];congr 3;rw[bK];simp only[cy,dr];split<;>omega
   .have hb:=aU hb;have wx:x.k≠4:=Uz
    have sP:x.k=5:=Ak
    have T:iM x=(!(gf x.op==6)&&Uh 0 [] x.op 2 x):=by rw[iM,R n,R hb,R wx,K sP]
    have am:(x.op==x.op)=aF:=beq_self_eq_true _;refine⟨λb w=>b=iM x/\az [] a w,?_,λhc=>(A3 (d:=d+1) (F:=F) (x:=x) ⟨sl,I,Wg (kb d) Z h e X⟩).mono ?_,λhc=>⟨?_,e⟩⟩
    .rintro _ _ ⟨rfl,b⟩;exact⟨f.symm▸rfl,b⟩
    .rintro _ b ⟨rfl,d⟩;refine⟨_,I,d.same S,?_,e.bU d⟩;rw[T,Uh,hc,am,dY,ch,P,K sP];congr 1;rw[bK];simp only[bF,da,Kq];have:gf x.op<=6:=by
      unfold gf;split
      .omega
      split
      .omega
      split
      .omega
      split
      .omega
      split
      .omega
      split
      .omega
      omega
     omega
    rw[T,Uh,hc,cR,cR,ga]
   have hb:=aU hb;have wx:x.k≠4:=Uz
   have sP:x.k≠5:=Ak
   rw[f,iM,R n,R hb,R wx,R sP]
  .have rF:x.k=2:=MT
   rw[rF];rfl
  have rF:x.k≠2:=MT
  rw[bK];simp[rF]
def BO(d:Nat)(x:Ex):M:=YR (ql d x≠[])
def apS(l m:C):T l++T m=T (l++m):=by
 apply ByteArray.ext;simp[T]
def adP(w:aw){n:Int}(b:0<=n)(c:n<=9223372036854775807):aA aq 230 #[O U n] w λe a=>e=ak (.int .u64 n)/\a=w:=by
 refine ret (aoq _ _ _ ?_);refine⟨λh=>absurd (u h) J,λ_=>⟨?_,I⟩⟩;have:au .u64 n=n:=by
  have e:au .u64 n=n % 18446744073709551616:=I;rw[e];omega
 rw[this]
def vL(u:Nat)(h:u<=18446744073709551615):qj (Lib.decDigits u)<=40:=by
 have e:∀(k u:Nat),u<10 ^ (k+1)->qj (Lib.decDigits u)<=k+1:=by
  intro k
  induction k with
  | zero=>intro u a;rw[rm (by simpa using a)];simp
  | succ k i=>
   intro u a;by_cases w:u<10
   .rw[rm w];simp
   rw[uI w,aP,bA];have:=i (u/10) (by rw[Nat.div_lt_iff_lt_mul Z];rw[Nat.pow_succ]at a;exact a);omega
 have:=e 19 u (by have:(10:Nat) ^ (19+1)=100000000000000000000:=Z;omega);omega
def or3:∀(u:Nat) (w:aw),u<=18446744073709551615->aA aq 229 #[.int .u64 (u:Int)] w λe a=>e=ak (ab (T (if u=0 then[]else Lib.decDigits u)))/\az [] w a:=by
 intro u
 induction u using Nat.strongRecOn with
 | _ u i=>
  intro w d;refine ret (avs ?_);refine⟨λhc=>?_,λhc=>⟨λs a=>s=T (Lib.decDigits u)/\az [] w a,λs a h=>?_,λb c=>⟨λk=>b.heap.size<=k,?_,?_⟩⟩⟩
  .have hc:u=0:=by
    have:(u:Int)=0:=Yc
    omega
   rw[K hc];exact⟨I,Ib _ _⟩
  .have hc:u≠0:=λe=>Si
   rw[R hc,h.1];exact⟨I,h.2⟩
  all_goals
   have hc:u≠0:=λe=>Si
   have wu:∀m:Nat,m<=18446744073709551615->au .u64 (m:Int)=(m:Int):=λm g=>by
    have e:au .u64 (m:Int)=(m:Int) % 18446744073709551616:=I;rw[e];omega
   have j:au .u64 ((u:Int).tdiv 10)=((u/10:Nat):Int):=by
    have:(u:Int).tdiv 10=((u/10:Nat):Int):=by
     rw[Int.tdiv_eq_ediv_of_nonneg (be u)];rfl
    rw[this,wu _ J]
   have g:(UInt8.ofNat (48+u % 10)).toNat=48+u % 10:=AR (NZ _ Z);have k:au .u8 (au .u64 (48+((u:Int).tmod 10)))=((UInt8.ofNat (48+u % 10)).toNat:Int):=by
    have n:(48+((u:Int).tmod 10))=((48+u % 10:Nat):Int):=by
     rw[Int.tmod_eq_emod_of_nonneg (be u)];omega
    rw[n,wu _ J,g];have e:au .u8 ((48+u % 10:Nat):Int)=((48+u % 10:Nat):Int) % 256:=I;rw[e];omega
   have f:T (if u/10=0 then[]else Lib.decDigits (u/10))++T [UInt8.ofNat (48+u % 10)]=T (Lib.decDigits u):=by
    rw[apS];by_cases F:u<10
    .rw[K J,rm F,cd];congr 3;omega
    rw[R J,<-uI F]
   have l:qj (if u/10=0 then[]else Lib.decDigits (u/10))<=100:=by
    split
    .simp
    have:=vL (u/10) J;omega
   rw[j,k]
  .refine(i (u/10) J b J).mono ?_;rintro _ g ⟨rfl,P⟩;obtain⟨y,j,k,e,k3,_⟩:=vA g [UInt8.ofNat (48+u % 10)] (n:=1) (parts:=#[(0,.int .u8 ((UInt8.ofNat (48+u % 10)).toNat:Int))]) I I Z Z;refine⟨_,I,Uy P,y,j,k,Uy k3,[UInt8.ofNat (48+u % 10)],(SliceF.bytes (Af e)).rd,?_,f,(c.bU P).bU k3⟩;have:(ao [UInt8.ofNat (48+u % 10)].toArray).size=1:=I;rw[cJ];omega
  obtain⟨y,g,k,j,k3,l⟩:=vA b [UInt8.ofNat (48+u % 10)] (n:=1) (parts:=#[(0,.int .u8 ((UInt8.ofNat (48+u % 10)).toNat:Int))]) I I Z Z;refine⟨y,g,k,Uy k3,[UInt8.ofNat (48+u % 10)],λp e=>?_,(SliceF.bytes (Af j)).rd,(i (u/10) J g J).mono ?_⟩
  .rw[l]at e;injection e with e;subst e;exact H _
  rintro _ n ⟨rfl,m⟩;refine⟨_,I,Uy m,?_,f,(c.bU k3).bU m⟩;have:(ao [UInt8.ofNat (48+u % 10)].toArray).size=1:=I;rw[cJ];omega
def ph2(w:aw){n:Int}(h:0<=n)(b:n<=9223372036854775807):aA aq 182 #[O U n] w λe c=>e=ak (ab (T (Lib.itoa n)))/\az [] w c:=by
 refine ret (an1 ?_);refine⟨λhc=>?_,λhc=>⟨λa=>absurd (u a) J,λ_=>(adP w h b).mono ?_⟩⟩
 .have hc:n=0:=Yc
  subst hc;rw[rZ (ja _),Int.toNat_zero,rm Z];exact⟨I,Ib _ _⟩
 have hc:n≠0:=Yc
 rintro _ f ⟨rfl,rfl⟩;obtain⟨d,rfl⟩:∃d:Nat,n=(d:Int):=⟨n.toNat,J⟩
 refine⟨_,I,(or3 d _ J).mono ?_⟩;rintro _ g ⟨rfl,e⟩;refine⟨_,I,?_,e⟩;rw[R J,rZ h,ba]
def rn(l m:C):C:=if (qj l)<=16384 then l++m else l
def yD(wr:M)(l:C):C:=if wr then rn l [40]else l
def zq(wr:M)(l:C):C:=if wr then rn l [41]else l
def A4:Nat->Ex->C->C
 | 0,_,l=>l
 | d+1,x,l=>if 16384<qj l then l else
  if x.k=1 then rn l (Lib.itoa x.n)
  else if x.k=2 then rn l x.s
  else if x.k=3 then rn l ([105,110,40]++x.s++[41])
  else if x.k=4 then(match x.dK with
   | [y]=>zq (y.k==5) (A4 d y (yD (y.k==5) (rn l (eX x.op.toNat))))
   | _=>l)
  else(match x.dK with
   | [y,z]=>zq (YR (P z<=P x)) (A4 d z (yD (YR (P z<=P x)) (rn (zq (YR (P y<P x)) (A4 d y (yD (YR (P y<P x)) l))) ([32]++eX x.op.toNat++[32]))))
   | _=>l)
def oE(l t r:C):Prop:=(qj l+qj t<=16384->r=l++t)/\(16384<qj l+(qj t)->16384<qj r)
def oE.put l m:oE l m (rn l m):=by
 unfold rn;refine⟨λa=>by rw[K J],λa=>?_⟩;by_cases h:qj l<=16384
 .rw[K h,aP];omega
 rw[R h];omega
def XL:=@oE.put
def oE.trans{l t r t' r'}(h:oE l t r)(k:oE r t' r'):oE l (t++t') r':=by
 refine⟨λa=>?_,λa=>?_⟩
 .rw[aP]at a;rw[h.1 J]at k;rw[k.1 Px,bq]
 rw[aP]at a;by_cases b:qj l+qj t<=16384
 .refine k.2 ?_;rw[h.1 b,aP];omega
 have:=h.2 J;exact k.2 J
def oE.refl l:oE l [] l:=⟨λ_=>X,λh=>U3⟩
def oE.long{l t}(h:16384<qj l):oE l t l:=⟨λa=>J,λ_=>h⟩
def oE.opn(wr:M) l:oE l (if wr then[40]else[]) (yD wr l):=by
 cases wr
 .exact oE.refl _
 exact XL _ _
def oE.clo(wr:M) l:oE l (if wr then[41]else[]) (zq wr l):=by
 cases wr
 .exact oE.refl _
 exact XL _ _
def adQ d x wr:nC (d+1) x wr=(if wr then[40]else[])++(nC (d+1) x aM++(if wr then[41]else[])):=by
 unfold nC;cases wr
 .simp
 simp[clo,opn]
def aez{d}{x}(h:cV d x=aF) wr:nC d x wr=(if wr then[40]else[])++(nC d x aM++(if wr then[41]else[])):=by
 cases d with
 | zero=>cases h
 | succ d=>exact adQ d x wr
def apT{d}{y}(h:cV d y=aF):YR (P y<6)=(y.k==5):=by
 cases d with
 | zero=>cases h
 | succ d=>
  rw[cV,B]at h;rw[bK];simp;constructor
  .intro a;refine bS λn=>?_;rw[P,R n]at a;omega
  intro a;obtain⟨_,y,z,_,o,b⟩:=rR h.1 J J J J;rw[P,K a];have:=(DE o b).2;omega
def PH:∀d {x:Ex} l,cV d x=aF->oE l (nC d x aM) (A4 d x l)
 | 0,x,l,h=>Ue
 | d+1,x,l,h=>by
  rw[cV,B]at h;obtain⟨c,a⟩:=h;have e:nC (d+1) x aM=(
  if x.k=1 then Lib.itoa x.n
  else if x.k=2 then x.s
  else if x.k=3 then[105,110,40]++x.s++[41]
  else if x.k=4 then(match x.dK with
   | [y]=>eX x.op.toNat++nC d y _
   | _=>[])
  else(match x.dK with
   | [y,z]=>nC d y _++_++nC d z _
   | _=>[])):=I
  rw[A4];by_cases b:16384<qj l
  .rw[K b];exact oE.long b
  rw[R b,e];have part:∀{y:Ex} wr l,cV d y=aF->oE l (nC d y wr) _:=fun{y} wr l h=>by
   rw[aez h wr];exact(oE.opn wr l).trans ((PH d _ h).trans (oE.clo wr _))
  by_cases k:x.k=1
  .rw[K k,K k];exact XL _ _
  by_cases d:x.k=2
  .rw[R k,R k,K d,K d];exact XL _ _
  by_cases k3:x.k=3
  .rw[R k,R k,R d,R d,K k3,K k3];exact XL _ _
  by_cases e:x.k=4
  .obtain⟨y,h,_⟩:=wW c e;rw[R k,R k,R d,R d,R k3,R k3,K e,K e,h];rw[h]at a;simp[lu,dY]at a;dsimp only;rw[apT a];exact(XL _ _).trans (part _ _ a)
  obtain⟨_,y,z,h,_⟩:=rR c k d k3 e;rw[R k,R k,R d,R d,R k3,R k3,R e,R e,h];rw[h]at a;simp[lu,dY,B]at a;exact((part _ _ a.1).trans (XL _ _)).trans (part _ _ a.2)
def aiS{d}{x}(h:cV d x=aF):∀wr l,qj l+qj (nC d x wr)<=16384->rQ d x wr l=l++nC d x wr:=by
 induction d generalizing x with
 | zero=>cases h
 | succ d i=>
  intro wr l f;rw[cV,B]at h;obtain⟨b,a⟩:=h;have c:¬16384<qj l:=J
  rw[rQ,R c];rw[nC]at f⊢;rw[<-Yx];have e:=Py wr (opn wr []++(
  if x.k=1 then Lib.itoa x.n
  else if x.k=2 then x.s
  else if x.k=3 then[105,110,40]++x.s++[41]
  else if x.k=4 then(match x.dK with
   | [y]=>eX x.op.toNat++nC d y (YR (P y<6))
   | _=>[])
  else(match x.dK with
   | [y,z]=>nC d y (YR (P y<P x))++([32]++eX x.op.toNat++[32])++nC d z (YR (P z<=P x))
   | _=>[])))
  have A:=bB (Nat.add_le_add_left e (qj l)) f;by_cases k:x.k=1
  .rw[K k,K k,pF wr l,bq]
  by_cases g:x.k=2
  .rw[R k,R k,K g,K g,pF wr l,bq]
  by_cases k3:x.k=3
  .rw[R k,R k,R g,R g,K k3,K k3,pF wr l,bq]
  by_cases j:x.k=4
  .obtain⟨y,d,_⟩:=wW b j;rw[R k,R g,R k3,K j,d]at A;rw[R k,R k,R g,R g,R k3,R k3,K j,K j,d];rw[d]at a;dsimp only at A⊢;simp[lu,dY]at a;simp at A;rw[i a _ _ (by rw[pF wr l];simp;omega),pF wr l];simp
  obtain⟨_,y,z,m,_⟩:=rR b k g k3 j;rw[R k,R g,R k3,R j,m]at A;rw[R k,R k,R g,R g,R k3,R k3,R j,R j,m];rw[m]at a;dsimp only at A⊢;simp[lu,dY,B]at a;simp only[aP]at A;have n:rQ d y _ _=opn wr l++nC d y (YR (P y<P x)):=i a.1 _ _ (by rw[pF wr l];simp;omega);rw[n,i a.2 _ _ (by rw[pF wr l];simp only[aP];omega),pF wr l];simp
def acS{d}{x}(s:cV d x=aF)(n:mo d x):ql d x=(if 16384<qj (A4 d x [])∨(iV (A4 d x [])).2.1≠0 then[]else A4 d x [])/\((iV (A4 d x [])).2.1=0->qj (A4 d x [])<=16384->A4 d x []=rQ d x aM []):=by
 have r:=PH d (x:=x) [] s;unfold oE at r;rw[bE,bR,cd]at r;have long:∀l,16384<(qj l)->(iV l).2.1≠0:=λl h=>by
  have:de l=([],2, -1):=by rw[de,K h]
  unfold iV;rw[this,K Z];exact Z
 by_cases t:qj (nC d x aM)<=16384
 .have e:=by
   have:=aiS s aM [] PF;rwa[cd]at this
  rw[r.1 t,ql,K s,e];refine⟨?_,λ_ _=>I⟩;by_cases c:(iV (nC d x aM)).2.1≠0
  .rw[K c,K (.inr c)]
  rw[R c,R (by rintro(h | h);omega;exact c h)]
 have a:16384<qj (rQ d x aM []):=by
  refine bS λn=>?_;have:=Hu d aM [] s J;rw[cd]at this;rw[this]at n;omega
 refine⟨?_,λ_ h=>J⟩;rw[K (.inl (r.2 J)),ql,K s,K (long _ a)]
def vM l m {K} (b:qj m<=40) (h:qj l<=K) (a:16424<=K):qj (rn l m)<=K:=by
 unfold rn;split
 .rw[aP];omega
 exact h
def BP wr l {K} (h:qj l<=K) (a:16424<=K):qj (yD wr l)<=K:=by
 cases wr
 .exact h
 exact vM _ _ Z h a
def Jz wr l {K} (h:qj l<=K) (a:16424<=K):qj (zq wr l)<=K:=by
 cases wr
 .exact h
 exact vM _ _ Z h a
def Nc:∀d {x:Ex} l {K:Nat},cV d x=aF->mo d x->qj l<=K->16424<=K->qj (A4 d x l)<=K
 | 0,x,l,K,h,_,_,_=>Ue
 | d+1,x,l,K,h,⟨n,s⟩,c,a=>by
  rw[cV,B]at h;obtain⟨e,b⟩:=h;rw[A4];split
  .exact c
  split
  .exact vM _ _ (by have:=Lib.itoa_length_le x.n n.1 n.2;omega) c a
  split
  .rename_i hk;exact vM _ _ (by have:=jf (lw e (.inl hk));omega) c a
  split
  .rename_i hk;refine vM _ _ ?_ c a;have:=jf (lw e (.inr hk));rw[aP,aP];simp only[aZ,bE];omega
  split
  .rename_i hk;obtain⟨y,h,_⟩:=wW e hk;rw[h]at b s⊢;simp only[lu,dY]at b;have:=mY x.op.toNat;exact Jz _ _ (Nc d _ b (s y X) (BP _ _ (vM _ _ J c a) a) a) a
  rename_i k f k3 g;obtain⟨hk,y,z,h,_⟩:=rR e k f k3 g;rw[h]at b s⊢;simp only[lu,dY,B]at b;have:=mY x.op.toNat;exact Jz _ _ (Nc d _ b.2 (s z X) (BP _ _ (vM _ _ (by rw[aP,aP];simp only[aZ,bE];omega) (Jz _ _ (Nc d _ b.1 (s y X) (BP _ _ c a) a) a) a) a) a) a
structure Pq (w:aw) (b:Nat) (sl:Sl) (l:C):Prop where
 blk:aG w b 352 [sl.v]
 buf:Bf w (b+1) sl l
section
variable {w w0 w1 w2 w':aw} {b k0:Nat} {sl sl' Vo:Sl} {l:C}
def Pq.only(h:Pq w b sl l)(O:az [] w w'):Pq w' b sl l:=⟨O.blk h.blk X,h.buf.keep λg _ a=>O.block g a X⟩
def Pq.lb(h:Pq w b sl l):b<w.heap.size:=h.blk.lt
def kq.sm(M:kq b sl w0 sl' w1)(h:k0≠b)(a:sl.a≠aN ⟨k0,0,Pw⟩)(c:k0<w0.heap.size)(S:kq b sl' w1 Vo w2):cj [k0] w1 w2:=S.same h (λe=>by
 rcases M.2 k0 e with e | e
 .exact a e
 omega) (by have:=M.1.size;omega)
def Pq.ZP(h:Pq w0 b sl l){k}(hk:k<b):¬(k=b∨sl.a=aN ⟨k,0,Pw⟩):=by
 rintro(e | e)
 .omega
 have:=(h.buf.lt e).1;omega
def kq.kp(M:kq b sl w0 sl' w1)(h:Pq w0 b sl l)(c:k0≠b)(d:sl.a≠aN ⟨k0,0,Pw⟩)(f:k0<w0.heap.size)(S:kq b sl' w1 Vo w2):bX (λk=>k<b∨k=k0) w1 w2:=λk hk W=>S.1.block k W λa=>by
 have g:=h.lb;rcases hk with hk | rfl
 .rcases a with e | e
  .omega
  rcases M.2 k e with e | e
  .exact h.ZP hk (.inr e)
  omega
 rcases a with e | e
 .exact c e
 rcases M.2 k e with e | e
 .exact d e
 omega
def CF(h:Pq w b sl l) m (a:qj l+qj m<=140737488355328):aA aq 330 #[ae (aN ⟨b,0,Pw⟩),ab (T m)] w λe w'=>∃sl',e=ak (ai #[])/\Pq w' b sl' (rn l m)/\kq b sl w sl' w':=by
 refine gX (aoX ?_);have n:=h.buf.len;have c:=h.lb;refine⟨sl,Om h.blk 0 I,λhc=>?_,λhc=>⟨sl,I,?_,Zl _ _ _⟩⟩
 .have hc:qj l<=16384:=Zm
  obtain⟨s,w1,f,i,k3,d⟩:=Dr h.buf m J a;have zL:∀g,s.a=aN ⟨g,0,Pw⟩->b<g:=λg hg=>by
   rcases d with e | e
   .rw[e]at hg;exact(h.buf.lt hg).1
   rw[e]at hg;injection hg with hg;injection hg with hg;omega
  refine⟨sl,Om h.blk 0 I,s,w1,f,b,0,_,_,I,k3.blk h.blk λe=>by have:=(h.buf.lt e).1;omega,X,λw2 P U=>⟨s,I,⟨U,?_⟩,?_,?_⟩⟩
  .rw[rn,K hc];exact i.keep λg hg l=>P.block g l Wp
  .exact(k3.mono λk _ hk=>.inr hk).trans (P.p (F:=λk=>k=b) λx hx=>.inl Xi) λk hk=>.inl (.inl hk)
  intro k hk;rcases d with e | e
  .rw[e]at hk;exact .inl hk
  rw[e]at hk;injection hk with hk;injection hk with hk;exact .inr J
 have hc:¬(qj l)<=16384:=Xt
 rw[rn,R hc];exact h
end
abbrev RgC(d:Nat):Prop:=∀{F:A} {w:aw} {b:Nat} {sl:Sl} {l:C} {x:Ex} {c:aJ},cV d x=aF->mo d x->xS d w F x c->(∀k,F k->k<b)->Pq w b sl l->qj l<=16424->
 aA aq 308 #[ae (aN ⟨b,0,Pw⟩),ah c.toArray] w λe a=>∃sl',e=ak (ai #[])/\Pq a b sl' (A4 d x l)/\kq b sl w sl' a
def JA{d}(r:RgC d){F}{w}{b}{sl}{l}{x}{cs} wr (i:cV d x=aF) (n:mo d x) (j:xS d w F x cs) (h:∀k,F k->k<b) (hP:Pq w b sl l) (g:qj l<=16424):
  aA aq 331 #[ae (aN ⟨b,0,Pw⟩),ah cs.toArray,aj wr] w λe p=>∃sl',e=ak (ai #[])/\Pq p b sl' (zq wr (A4 d x (yD wr l)))/\kq b sl w sl' p:=by
 obtain⟨u,rfl⟩:=mG j;refine gX (aoY ?_);intro m q N S c;have t:=hP.lb;have O:=hP.only c;have o:m≠b:=J
 have a:sl.a≠aN ⟨m,0,Pw⟩:=λe=>ZA
 refine⟨λf=>∃s,Pq f b s (yD wr l)/\kq b sl q s f,?_,λhw=>(CF O [40] TX).mono ?_,λhw=>⟨sl,by rw[hw];exact O,Zl _ _ _⟩⟩
 .rintro f ⟨s,y,b⟩;refine(r i n ((kb d).keep (iz j c) λk hk W=>b.1.block k W (O.ZP (h k hk))) h y (BP _ _ g (H _))).mono ?_;rintro _ A ⟨V,rfl,v,e⟩;refine⟨I,b.sm o a S e,λhw=>(CF v [41] (by have:=(λz w=>Nc d (x:=x) z (K:=16424) i n w (H _)) _ (BP wr l g (H _));rw[bA];omega)).mono ?_,λhw=>⟨V,I,?_,(b.trans e).after c⟩⟩
  .rintro _ x ⟨l,rfl,k,d⟩;refine⟨I,(b.trans e).sm o a S d,l,I,?_,((b.trans e).trans d).after c⟩;unfold zq;rw[aW hw];exact k
  unfold zq;rw[R Uu];exact v
 rintro _ w ⟨l,rfl,e,d⟩;refine⟨I,(Zl b sl q).sm o a S d,l,?_,d⟩;unfold yD;rw[aW hw];exact e
def kFr{k j:Nat}{op}(hk:k<6)(a:((fH[k]?).getD [])[j]? =aN op):((sA[k]?).getD [])[j]? =aN (eX op.toNat):=by
 have h:j<4:=by
  have c:=(bc.1 a).1;have b:∀k,k<6->qj ((fH[k]?).getD [])<=4:=Z
  have:=b k hk;omega
 have i:∀k,k<6->∀j,j<4->∀o,((fH[k]?).getD [])[j]? =aN o->((sA[k]?).getD [])[j]? =aN (eX o.toNat):=by
  intro k hk j h o b
  match k,hk,j,h with
  | 0,_,0,_=>simp[fH]at b;subst b;rfl
  | 0,_,j+1,_=>simp[fH]at b
  | 1,_,0,_=>simp[fH]at b;subst b;rfl
  | 1,_,j+1,_=>simp[fH]at b
  | 2,_,0,_=>simp[fH]at b;subst b;rfl
  | 2,_,1,_=>simp[fH]at b;subst b;rfl
  | 2,_,j+2,_=>simp[fH]at b
  | 3,_,0,_=>simp[fH]at b;subst b;rfl
  | 3,_,1,_=>simp[fH]at b;subst b;rfl
  | 3,_,2,_=>simp[fH]at b;subst b;rfl
  | 3,_,3,_=>simp[fH]at b;subst b;rfl
  | 4,_,0,_=>simp[fH]at b;subst b;rfl
  | 4,_,1,_=>simp[fH]at b;subst b;rfl
  | 4,_,j+2,_=>simp[fH]at b
  | 5,_,0,_=>simp[fH]at b;subst b;rfl
  | 5,_,1,_=>simp[fH]at b;subst b;rfl
  | 5,_,2,_=>simp[fH]at b;subst b;rfl
  | 5,_,j+3,_=>simp[fH]at b
 exact i k hk j h op a
def hdK{k}(hk:k<6):((fH[k]?).getD []).Nodup:=by
 have:∀k,k<6->((fH[k]?).getD []).Nodup:=Z
 exact this k hk
def aji{op}(h:1<=op)(a:op<=13):op∈(fH[(gf op).toNat]?).getD []:=by
 have:∀n:Nat,n<14->1<=n->((n:Int))∈(fH[(gf n).toNat]?).getD []:=Z
 have:=this op.toNat J J;rwa[gu J]at this
def DH:∀d,RgC d
 | 0,_,_,_,_,_,_,_,_,_,h,_,_,_=>h.elim
 | d+1,A,W,b,sl,l,x,G,E,⟨f,T⟩,⟨v,L,M⟩,F,hP,t=>by
  subst L;refine gX (aoU ?_);rw[cV,B]at E;obtain⟨h,ha⟩:=E;intro p w Q a n;have V:=hP.lb;have g:=hP.only n;have D:=Wg (kb d) Z M n X;have o:p≠b:=J
  have c:sl.a≠aN ⟨p,0,Pw⟩:=λe=>ZA
  have N:=hP.buf.len;have r:=Zl b sl w;have sub:∀{m:aw} {j:Sl} {i:Nat} {y:Ex},kq b sl w j m->x.dK[i]? =aN y->∃ad s,cK v (i:Int) 6 ad/\ad.block<b/\aD m ad (oM y.k y.n y.s y.op s y.a)/\xS d m A y (oM y.k y.n y.s y.op s y.a):=fun{m j i y} m1 hy=>by
   have q:=U6 (kb d) Z D m1.1 λk hk _=>g.ZP (F k hk);have hn:=q.len;have Y:=(bc.1 hy).1;obtain⟨ad,y',G,x,b,y,g4,z,e⟩:=q.get (be i) J;rw[ba,hy]at b;injection b with b;subst b;obtain⟨s,rfl⟩:=mG e;exact⟨ad,s,x,F _ y,z,e⟩
  refine⟨sl,Om g.blk 0 I,λhc=>⟨sl,I,?_,UW n⟩,λhc=>?_⟩
  .rw[A4,K Zm];exact g
  have hc:¬16384<qj l:=Xt
  have Y:A4 (d+1) x l=(if x.k=1 then rn l (Lib.itoa x.n)
  else if x.k=2 then rn l x.s
  else if x.k=3 then rn l ([105,110,40]++x.s++[41])
  else if x.k=4 then(match x.dK with
   | [y]=>zq (y.k==5) (A4 d y (yD (y.k==5) (rn l (eX x.op.toNat))))
   | _=>l)
  else(match x.dK with
   | [y,z]=>zq (YR (P z<=P x)) (A4 d z (yD (YR (P z<=P x)) (rn (zq (YR (P y<P x)) (A4 d y (yD (YR (P y<P x)) l))) ([32]++eX x.op.toNat++[32]))))
   | _=>l)):=by rw[A4,R hc]
  refine⟨λhk=>?_,λk1=>⟨λhk=>?_,λk2=>⟨λhk=>⟨?_,?_,?_⟩,λk3=>⟨λhk=>?_,λk4=>⟨λ_=>?_,λk5=>?_⟩⟩⟩⟩⟩
  .have hk:x.k=1:=WH
   have k:0<=x.n:=by
    rw[iM,K hk]at h;have:=(yN h).1;split at this<;>omega
   refine(ph2 w k f.2).mono ?_;rintro _ m ⟨rfl,b⟩;have q:=Lib.itoa_length_le x.n f.1 f.2;refine⟨_,I,b.same S,(CF (g.only b) (Lib.itoa x.n) J).mono ?_⟩;rintro _ y ⟨i,rfl,d,e⟩;exact⟨I,(UW b).sm o c a e,i,I,by rw[Y,K hk];exact d,(e.after b).after n⟩
  .have hk:x.k=2:=WH
   have k1:x.k≠1:=J
   have i:=jf (lw h (.inl hk));refine(CF g x.s J).mono ?_;rintro _ k ⟨e,rfl,b,d⟩;exact⟨I,r.sm o c a d,e,I,by rw[Y,R k1,K hk];exact b,d.after n⟩
  .have hk:x.k=3:=WH
   have b:=jf (lw h (.inr hk));rw[cJ];omega
  .have hk:x.k=3:=WH
   have b:=jf (lw h (.inr hk));rw[Ov];have:(ao #[105,110,40]).size=3:=I;omega
  .have hk:x.k=3:=WH
   have i:=jf (lw h (.inr hk));have q:qj ([105,110,40]++x.s++[41]:C)=qj x.s+4:=by
    rw[aP,aP];simp only[aZ,bE];omega
   rw[SR];refine(CF g _ J).mono ?_;rintro _ k ⟨e,rfl,b,d⟩;exact⟨I,r.sm o c a d,e,I,by rw[Y,R J,R J,K hk];exact b,d.after n⟩
  .have hk:x.k=4:=WH
   obtain⟨y,hy,rz⟩:=wW h hk;have k:cV d y=aF:=I8
   have GH:mo d y:=T y TW;have am:=mY x.op.toNat;have q:A4 (d+1) x l=zq (y.k==5) (A4 d y (yD (y.k==5) (rn l (eX x.op.toNat)))):=by rw[Y,R J,R J,R J,K hk,hy]
   refine⟨λz=>∃e,Pq z b e (rn l (eX x.op.toNat))/\kq b sl w e z,?_,λho=>?_,λho=>?_⟩
   .rintro z ⟨e,h5,m5⟩;obtain⟨p1,s,x,e2,_,_⟩:=sub (i:=0) m5 H8;refine⟨p1,x,λw6 dV=>?_⟩;have m6:=m5.trans (UW dV);obtain⟨aT,bY,aC,bV,b,aS⟩:=sub (i:=0) m6 (y:=y) H8;have:=Zk aC x;subst this;refine⟨_,_,_,_,_,_,b,aT,x,y.k,b.dP 0 _ I,(JA (DH d) (y.k==5) k GH aS F (h5.only dV) (vM _ _ J t (H _))).mono ?_⟩;rintro _ w7 ⟨bv,rfl,h7,m7⟩;exact⟨I,m6.sm o c a m7,bv,I,by rw[q];exact h7,(m6.trans m7).after n⟩
   .have ho:x.op=14:=Ma
    refine(CF g [45] TX).mono ?_;rintro _ y ⟨b,rfl,i,d⟩;exact⟨I,r.sm o c a d,b,by rw[ho];exact i,d⟩
   have ho:x.op=15:=by
    have:x.op≠14:=Ma
    omega
   refine(CF g [33] TX).mono ?_;rintro _ y ⟨b,rfl,i,d⟩;exact⟨I,r.sm o c a d,b,by rw[ho];exact i,d⟩
  .have k1:x.k≠1:=Wf
   have k2:x.k≠2:=Rv
   have k3:x.k≠3:=Y2
   have k4:x.k≠4:=WQ
   obtain⟨hk,y,z,hy,f6,P0⟩:=rR h k1 k2 k3 k4;have Ca:cV d y=aF/\cV d z=aF:=I8
   have GH:mo d y:=T y TW;have V5:mo d z:=T z TW;have iD:=mY x.op.toNat;have gT:P x=gf x.op:=by rw[P,K hk]
   obtain⟨r0,r5⟩:=DE f6 P0;have ip:A4 (d+1) x l=zq (YR (P z<=P x)) (A4 d z (yD (YR (P z<=P x)) (rn (zq (YR (P y<P x)) (A4 d y (yD (YR (P y<P x)) l))) ([32]++eX x.op.toNat++[32])))):=by rw[Y,R k1,R k2,R k3,R k4,hy]
   refine(A3 (show xS (d+1) _ A x (oM x.k x.n x.s x.op v x.a)from⟨v,I,D⟩)).mono ?_;rintro _ dq ⟨rfl,dN⟩;have z0:=n.size;have KG:=dN.size;refine⟨_,I,dN.same S,(PE dq).mono ?_⟩;rintro _ dB ⟨l2,rfl,hN,eG⟩;have GD:=eG.size;have m0:=hN.len;have m6:qj fH=6:=I;obtain⟨kr,dO⟩:∃kr:Nat,P x=(kr:Int):=⟨(P x).toNat,J⟩
   have f5:kr<6:=J
   obtain⟨p2,x1,iF,e1,e2,e3,e4,e5,l3,rfl,hM⟩:=(WV (yh oC) hN Z).get (i:=P x) J J;have el:(fH[kr]?).getD []=x1:=by
    rw[dO,ba]at e2;rw[e2];rfl
   refine⟨l2,I,eG.same S,p2,e1,l3,e5,λey eV=>?_⟩;have f7:kq b sl w sl ey:=UW ((dN.bU eG).bU eV);have f8:=g.only ((dN.bU eG).bU eV);have gE:=Wg oC Z hM eV X;have iN:=eV.size;obtain⟨p3,s,f1,f2,f3,f4⟩:=sub (i:=0) f7 (y:=y) H8;refine⟨λk=>k<b∨k=p,.inr I,p3,f1,.inl f2,_,_,_,_,_,_,f3,p3,f1,_,_,_,_,_,_,f3,(A3 f4).mono ?_⟩;rintro _ eY ⟨rfl,dE⟩;have Vl:=dE.size;have eQ:=f7.trans (UW dE);have g8:qj (yD (YR (P y<P x)) l)<=16424:=BP _ _ t (H _);refine⟨_,I,dE.same S,Uy dE,(JA (DH d) (YR (P y<P x)) Ca.1 GH (iz f4 dE) F (f8.only dE) t).mono ?_⟩;rintro _ fV ⟨Vq,rfl,Wa,co⟩;have cC:=eQ.trans co;have iS:=co.1.size;generalize hA:zq (YR (P y<P x)) (A4 d y (yD (YR (P y<P x)) l))=fd at*
   have gO:qj fd<=16424:=by rw[<-hA];exact Jz _ _ (Nc d _ Ca.1 GH g8 (H _)) (H _)
   have gG:∀{fT:aw} {NX:Sl},kq b Vq fV NX fT->aB FA 1 fT (λk=>dq.heap.size<=k/\k<dB.heap.size) l3 x1:=fun{fT NX} ce=>by
    have d:kq b sl ey NX fT:=((UW dE).trans co).trans ce;refine U6 oC Z gE d.1 λk hk _ h=>?_;rcases h with e | e
    .omega
    have:=(g.buf.lt e).2;omega
   have t1:=hM.len;have t2:=hM.cap;have t3:=hM.big;refine⟨I,eQ.sm o c a co,eQ.kp g o c a co,λnv i fT=>∃(cc:Nat) (NX:Sl),cc<=qj x1/\i=(cc:Int)/\nv=(qj x1)-cc/\Pq fT b NX (if x.op∈x1.take cc then rn fd ([32]++eX x.op.toNat++[32])else fd)/\kq b Vq fV NX fT,qj x1,⟨0,Vq,bf _,I,I,by rw[cu,R X];exact Wa,Zl _ _ _⟩,?_⟩;rintro nv _ fT ⟨cc,NX,hj,rfl,rfl,DS,ce⟩;have g9:x1.Nodup:=el▸hdK f5;refine⟨λbW=>?_,λlA mB jq=>?_⟩
   .have bW:(cc:Int)<(l3.n:Int):=u bW;obtain⟨p5,q,lE,g1,y,g3,g4,g5,g6⟩:=(gG ce).get (be cc) bW;unfold FA at g6;subst g6;rw[ba]at y;refine⟨λiE=>∃d:Sl,Pq iE b d (if x.op∈x1.take (cc+1)then rn fd ([32]++eX x.op.toNat++[32])else fd)/\kq b Vq fV d iE,?_,p5,g1,q,g5,λhe gL z=>(YQ gL).mono ?_,λhe j8 lc=>⟨NX,?_,ce.trans (UW lc)⟩⟩
    .rintro iE ⟨d,b,e⟩;exact⟨(qj x1)-(cc+1),J,cc+1,d,J,Ye,I,b,e⟩
    .have he:q=x.op:=UB
     subst he;rintro _ jH ⟨l6,rfl,e,kg⟩;have n0:=e.len;have n6:qj sA=6:=I;obtain⟨p6,x6,oR,u1,u2,u3,u4,u5,l7,rfl,hS⟩:=e.get (i:=P x) J J;have oN:(sA[kr]?).getD []=x6:=by
      rw[dO,ba]at u2;rw[u2];rfl
     have b:=kFr (k:=kr) (j:=cc) f5 (by rw[el];exact y);rw[oN]at b;have v0:=hS.len;obtain⟨p7,s7,pi,v1,v2,v3,v4,v5,v6⟩:=hS.get (i:=(cc:Int)) (be cc) (by have:=(bc.1 b).1;omega);unfold nU at v6;subst v6;rw[ba,b]at v2;injection v2 with v2;subst v2;have zA:(ao #[32]).size=1:=I;have lT:=ce.trans (UW (z.bU kg));have xA:qj ([32]++eX x.op.toNat++[32]:C)=qj (eX x.op.toNat)+2:=by
      rw[aP,aP];simp only[aZ,bE];omega
     have mK:x.op∉x1.take cc:=λhm=>by
      obtain⟨k,i⟩:=gI hm;rw[yJ]at i;split at i
      .rename_i q;have:=(List.getElem?_inj J g9).1 (i.trans y.symm);omega
      cases i
     rw[R mK]at DS;refine⟨l6,I,kg.same (by
      have:=cC.1.size;have:=ce.1.size;have:=z.size;simp;omega),p6,u1,l7,u5,p7,v1,_,v5,Yv,by rw[Ov];omega,?_⟩
     rw[Zd];refine(CF (DS.only (z.bU kg)) _ J).mono ?_;rintro _ kf ⟨nO,rfl,oF,mt⟩;refine⟨I,(cC.trans lT).sm o c a mt,nO,?_,lT.trans mt⟩;rw[K (by rw[bn,y];simp)];exact oF
    have he:q≠x.op:=UB
    have:(x.op∈x1.take (cc+1))↔(x.op∈x1.take cc):=by
     rw[bn,y,bQ];simp;intro e;exact absurd e.symm he
    simp only[this];exact DS.only lc
   have lA:¬(cc:Int)<(l3.n:Int):=aU lA;have:cc=qj x1:=J
   subst this;have NU:x.op∈x1.take (qj x1):=by
    rw[bm (H _)];have:=aji f6 P0;rw[<-gT,dO,ba,el]at this;exact this
   rw[K NU]at DS;have e:=(cC.trans ce).trans (UW jq);obtain⟨p8,sz,f1,f2,f3,f4⟩:=sub (i:=1) e (y:=z) H8;refine⟨λk=>k<b∨k=p,.inr I,p8,f1,.inl f2,_,_,_,_,_,_,f3,p8,f1,_,_,_,_,_,_,f3,(A3 f4).mono ?_⟩;rintro _ oH ⟨rfl,qL⟩;have q:=e.trans (UW qL);have rx:=e.1.size;have xA:qj ([32]++eX x.op.toNat++[32]:C)<=40:=by
    rw[aP,aP];simp only[aZ,bE];omega
   refine⟨_,I,qL.same S,Uy qL,(JA (DH d) (YR (P z<=P x)) Ca.2 V5 (iz f4 qL) F ((DS.only jq).only qL) (vM _ _ xA gO (H _))).mono ?_⟩;rintro _ sM ⟨pP,rfl,rg,pm⟩;exact⟨I,q.sm o c a pm,q.kp g o c a pm,pP,I,by rw[ip];exact rg,(q.trans pm).after n⟩
  have k1:x.k≠1:=Wf
  have k2:x.k≠2:=Rv
  have k3:x.k≠3:=Y2
  have k4:x.k≠4:=WQ
  have k5:x.k≠5:=by simpa using k5
  exact absurd (rR h k1 k2 k3 k4).1 k5
def Bf.bytes{w:aw}{B:Nat}{s:Sl}{l:C}(h:Bf w B s l):vW w s l:=by
 rcases h with⟨rfl,rfl⟩ | ⟨g,tail,a,d,b,e,c,f,i,j⟩
 .exact⟨I,λh=>absurd I h⟩
 exact⟨c,λ_=>⟨⟨g,0,Pw⟩,a,b.cells 0 (l.map jc) λk v hj=>HM⟩⟩
def adR{d:Nat}{w:aw}{F:A}{x:Ex}{s:aJ}(a:xS d w F x s)(l:∀e,yM e x)(n:mo d x):
  aA aq 287 #[ah s.toArray] w λe g=>e=ak (ai #[ab (T (ql d x)),aj (BO d x)])/\az [] w g:=by
 obtain⟨B,rfl⟩:=mG a;refine ret (avC ?_);intro u y N p b;have i:=(kb d).inHeap a;refine(Na d l (iz a b)).mono ?_;rintro _ z ⟨rfl,r⟩;have C:=b.size;have D:=r.size;have j:=b.bU r;refine⟨_,I,r.same S,λhs=>?_,λhs f o v q P m=>?_⟩
 .have hs:cV d x=aM:=S2
  rw[BO,ql,R H9];exact⟨I,j⟩
 have hs:cV d x=aF:=S2
 have z2:=P.size;have nq:=j.bU P;have U:Pq o f Sl.nil []:=⟨m,.inl ⟨I,I⟩⟩
 refine(DH d hs n (iz i nq) (λk hk=>LH) U Z).mono ?_;rintro _ w3 ⟨H,rfl,E,V⟩;have z3:=V.1.size;have cZ:az [] w w3:=(nq.nP V.1).only λk hk=>by
  rcases hk with rfl | e
  .omega
  cases e
 obtain⟨Q,TF⟩:=acS hs n;have ig:A4 d x []≠[]:=by
  intro e;obtain⟨c,t,k,_⟩:=xZ d aM hs n;have h:=PH d (x:=x) [] hs;by_cases fi:qj (nC d x aM)<=16384
  .have:=h.1 PF;rw[e,k]at this;simp at this
  have:=h.2 PF;rw[e]at this;simp at this
 generalize hG:A4 d x []=G at*
 refine⟨I,V.same J (λe=>U4) J,H,E.blk,G,E.buf.bytes,(adN w3 G).mono ?_⟩;rintro _ w4 ⟨ys,rfl,hY,L⟩;have z4:=L.size;obtain⟨d2,Y⟩:=hY.ex;obtain⟨yl,rfl,_⟩:=hY.cells;have sO:=L.blk E.blk X;refine⟨_,_,_,_,_,_,_,_,I,L.same S,H,sO,λk2 k3 w5 rF sR zE uQ T wq=>?_⟩;have z5:=T.size;have B9:=(cZ.bU L).bU T;refine(neB aM d (iz a B9) (iz Y T)).mono ?_;rintro _ w6 ⟨rfl,O⟩;have W:=B9.bU O;have am:((ao G.toArray).size:Int)=(qj G:Int):=by
  have:(ao G.toArray).size=qj G:=cJ G;rw[this]
 refine⟨_,I,O.same S,H,O.blk wq X,?_⟩;rw[am];by_cases M:16384<qj G∨(iV G).2.1≠0
 .have c:(YR ((qj G:Int)>16384)||((iV G).2.1 !=0))=aF:=by
   rcases M with h | h
   .rw[bG J,Dd]
   have:((iV G).2.1 !=0)=aF:=U3
   rw[this,pL]
  rw[c,Dd];rw[K M]at Q;refine⟨λ_=>?_,λh=>Ue⟩;rw[BO,Q];exact⟨I,W⟩
 have t:qj G<=16384:=J
 have k:(iV G).2.1=0:=by
  refine bS λh=>M (.inr h)
 have e:=TF k t;have c:Sim x (iV G).1:=by
  have:=ahr hs n (by rw[<-e];exact k);rw[<-e]at this;exact this.2
 rw[R M]at Q;rw[c.same d,k,bD J];refine⟨λh=>Ue,λ_=>?_⟩;rw[BO,Q,bG ig];exact⟨I,W⟩
section
variable {w:aw} {F:A} {x:Ex} {cs:aJ}
def Nf(b:rE aM w F x cs)(n:Um x)(s:F2 x<=1759218604441):
  aA aq 287 #[ah cs.toArray] w λe a=>e=ak (ai #[ab (T (yz x)),aj (uz x)])/\az [] w a:=by
 obtain⟨d,h⟩:=b;have h:=ES h;refine(adR h (λe=>O7 e x J) (n d)).mono ?_;rintro _ a ⟨rfl,O⟩;rw[BO,RB (O6 h)];exact⟨I,O⟩
def Hz(h:rE aM w F x cs)(n:Um x)(s:F2 x<=1759218604441):
  aA aq 285 #[ah cs.toArray] w λe a=>e=ak (aj (uz x))/\az [] w a:=by
 obtain⟨sl,rfl⟩:=fD h;refine ret (aoP ?_);intro g i f d c;refine(Nf ((jJ aM).keep h λk _ b=>c.block k b X) n s).mono ?_;rintro _ j ⟨rfl,r⟩;exact⟨_,_,I,r.same S,I,c.bU r⟩
def JB(h:rE aM w F x cs)(n:Um x)(s:F2 x<=1759218604441):
  aA aq 268 #[ah cs.toArray] w λe a=>e=ak (ab (T (yz x)))/\az [] w a:=by
 obtain⟨sl,rfl⟩:=fD h;refine ret (aoM ?_);intro g i f d c;refine(Nf ((jJ aM).keep h λk _ b=>c.block k b X) n s).mono ?_;rintro _ j ⟨rfl,r⟩;exact⟨_,_,I,r.same S,I,c.bU r⟩
def SK(h:rE aM w F x cs):
  aA aq 286 #[ah cs.toArray] w λe a=>e=ak (aj (rW x))/\az [] w a:=by
 obtain⟨d,h⟩:=h;have h:=ES h;cases d with
 | zero=>exact h.elim
 | succ d=>
 obtain⟨sl,rfl,s⟩:=h;refine ret (aoQ ?_);intro k w f d c;have l:=s.len;have e:((T x.s).toList==((ao #[]).toList))=YR (x.s=[]):=ji x.s [];rw[e,l];exact⟨I,c⟩
end
def _root_.Go.Kt.Cells.part{w:aw}{p:Addr}{c d:aJ}(h:aD w p c)(n:Nat)(hd:∀j v,d[j]? =aN v->c[n+j]? =aN v):aD w (p.add n) d:=λj v a=>by
 rw[rI];exact h _ v (hd j v a)
def qw{c:aJ}{n i:Nat}{v u:ay}(h:[u][i]? =aN v)(a:c[n]? =aN u):c[n+i]? =aN v:=by
 cases i with
 | zero=>
  rw[cQ,bP]at h;subst h;exact a
 | succ i=>simp at h
def Ng{k:Int}{n:C}{x:aJ}{a:Int}{i:Nat}{v:ay}(h:x[i]? =aN v):(R5 k n x a)[2+i]? =aN v:=by
 rw[kw];show(x++[Value.int U a])[i]? =aN v;rw[bZ (bc.1 h).1];exact h
abbrev vN(w:aw)(b:Nat)(n m a:Int):Prop:=aG w b 285 [O U n,O U m,O U a]
def only1{b:Nat}{w a:aw}(h:az [] w a):az [b] w a:=h.weaken (bs':=[b]) λ_ h=>Ue
def ic{b:Nat}{w a o:aw}(h:az [b] w a)(k:az [b] a o):az [b] w o:=h.trans k λx c=>.inl c
section
variable {w:aw} {F:A} {b:Nat} {n m a:Int}
def BQ{l:Sl}{q:L Ac}(hc:vN w b n m a)(s:ly aM (uW aM) 9 227 w F l q)(x:∀k,F k->k≠b)(z:∀y,y∈q->Hc y)(E:lg q<=8388608)(C:0<=a)(g:a<=1152921504606846976):
  aA aq 265 #[ae (aN ⟨b,0,Pw⟩),l.v] w λe t=>e=ak (aj (q.all iZ))/\(∃d:Int,vN t b n m d/\(a<=d/\d<=a+qj q)/\(q.all iZ=aF->d=a+qj q))/\az [b] w t:=by
 refine ret (aoJ ?_);have W:=s.1.len;have A:=iB q;have kp:∀{c:aw},az [b] w c->aB (uW aM) 9 c F l q:=λf=>Wg (dW aM) Z s.1 f λk hk _ hm=>x k hk Ie;refine⟨λr i c=>∃(j:Nat),i=(j:Int)/\r+j=qj q/\j<=qj q/\(q.take j).all iZ=aF/\vN c b n m (a+j)/\az [b] w c,qj q,⟨0,I,J,bf _,I,Yc,Ib _ _⟩,?_⟩;rintro r _ c ⟨j,rfl,G,D,o,B,f⟩;refine⟨λQ=>?_,λQ=>?_⟩;rotate_left
 .have Q:=aU Q;have m:j=qj q:=J
  subst m;rw[gV]at o;rw[o];exact⟨I,⟨_,B,J,λ_=>I⟩,f⟩
 have Q:=u Q;have mV:j<qj q:=J
 obtain⟨y,V⟩:∃y,q[j]? =aN y:=⟨_,aX mV⟩
 have Y:=bp V;have TJ:=uE Y;unfold Kx at TJ;have at_:∀{v:aw},az [b] w v->∃ad N,cK l (j:Int) 9 ad/\aD v (ad.add 0) [O U y.k]/\aD v (ad.add 1) [ab (T y.n)]/\aD v (ad.add 2) (oM y.x.k y.x.n y.x.s y.x.op N y.x.a)/\rE aM v F y.x (oM y.x.k y.x.n y.x.s y.x.op N y.x.a):=fun{v} hv=>by
  obtain⟨ad,y,e,P,H,q3,q4,M,b⟩:=(kp hv).get (be j) J;rw[ba,V]at H;injection H with H;subst H;obtain⟨m,rfl,a⟩:=b;obtain⟨N,rfl⟩:=fD a;exact⟨ad,N,P,M.part 0 λi v h=>qw h I,M.part 1 λi v h=>qw h I,M.part 2 λi v h=>Ng h,a⟩
 refine⟨a+j,Om B 2 I,b,2,_,_,I,B,X,λw1 cr S=>?_⟩;rw[eS J J]at S;have S:vN w1 b n m (a+j+1):=S;have o1:=ic f cr;obtain⟨ad,N,g1,g2,g3,g4,g5⟩:=at_ o1;refine⟨ad,g1,_,g3,(tD w1 y.n J).mono ?_⟩;rintro _ w2 ⟨rfl,cP⟩;have o2:=ic o1 (only1 cP);have mU:=cP.blk S X;obtain⟨yI,am,p1,p2,p3,p4,p5⟩:=at_ o2;refine⟨_,I,yI,p1,_,_,_,_,_,_,p4,(Hz p5 (z y Y) J).mono ?_⟩;rintro _ w3 ⟨rfl,cZ⟩;have o3:=ic o2 (only1 cZ);have wv:=cZ.blk mU X;obtain⟨Qw,aC,P,H,q3,q4,M⟩:=at_ o3;have jM:∀k,k=(if y.k=2 then rW y.x else uz y.x)->((((YR (y.k<1))||(YR (y.k>3)))||(!dD y.n))||(!k))=!iZ y:=λk e=>by
  rw[e];unfold iZ;by_cases g:y.k<1
  .rw[bG g,bD (p:=1<=y.k/\y.k<=3) (λh=>J)];rfl
  by_cases a:y.k>3
  .rw[bG a,bD (p:=1<=y.k/\y.k<=3) (λh=>J),pL];rfl
  rw[bD g,bD a,bG (p:=1<=y.k/\y.k<=3) J,kz,kz,ch,Df]
 refine⟨_,I,λk w4=>az [] w3 w4/\k=(if y.k=2 then rW y.x else uz y.x),?_,Qw,P,_,H,λhk=>⟨Qw,P,_,_,_,_,_,_,q4,(SK M).mono ?_⟩,λhk=>⟨Ib _ _,by rw[R WH]⟩⟩
 .rintro k w4 ⟨p,n⟩;have m:=ic o3 (only1 p);have v:=p.blk wv X;obtain⟨b,T,w,F,t3,t4,t5⟩:=at_ m;refine⟨b,w,y.k,F,b,λ_=>w,y.k,λ_=>F,λe=>?_,λe=>?_⟩
  .rw[jM k n,da]at e;have:q.all iZ=aM:=by
    rw[zN];exact⟨y,Y,by rw[e];simp⟩
   rw[this];exact⟨I,⟨_,v,J,λh=>Ue⟩,m⟩
  rw[jM k n,jA]at e;refine⟨r-1,J,j+1,Ye,J,J,?_,by rw[show a+((j+1:Nat):Int)=a+j+1 by omega];exact v,m⟩;rw[bn,V,iw,o];simp[e]
 rintro _ w ⟨rfl,e⟩;exact⟨_,I,e,by rw[K WH]⟩
end
section
variable {w:aw} {F:A} {b:Nat} {n m a:Int}
def JC(x:Mv):((((((YR (x.k>=1)&&YR (x.k<=3))&&(if x.k=1 then dD x.ev else YR (x.ev=[])))&&(if x.gd then uz x.g else rW x.g))&&x.acts.all iZ)&&((x.wt==0)||((x.k==3)&&(YR (x.wt>0)))))&&x.tg.all dD)=mr x:=by
 unfold mr;rw[bK];simp only[B,cy,bF,dr];constructor
 .rintro⟨⟨⟨⟨⟨⟨h,a⟩,b⟩,c⟩,d⟩,e⟩,f⟩;exact⟨⟨⟨⟨⟨⟨h,a⟩,b⟩,c⟩,d⟩,f⟩,e⟩
 rintro⟨⟨⟨⟨⟨⟨h,a⟩,b⟩,c⟩,d⟩,f⟩,e⟩;exact⟨⟨⟨⟨⟨⟨h,a⟩,b⟩,c⟩,d⟩,e⟩,f⟩
def Aft{x:Mv}{f:aJ}(v:vN w b n m a)(hx:L9 aM w F x f)(i:∀k,F k->k≠b)(y:V7 x)(hs:Hj x<=8388608)(V:0<=a)(Y:a<=1152921504606846976)(h2:0<=m)(h3:m<=1152921504606846976):
  aA aq 266 #[ae (aN ⟨b,0,Pw⟩),ah f.toArray] w λe E=>e=ak (aj (mr x))/\(∃z r:Int,vN E b n z r/\(mr x=aF->z=m+1/\r=a+qj x.acts))/\az [b] w E:=by
 obtain⟨gc,tU,tg,rfl,g,M,oJ⟩:=hx;obtain⟨Q,rfl⟩:=fD g;unfold Hj at hs;have Gx:=v.lt;refine ret (aoK ?_);intro k0 p fN dS o;have z0:=o.size;have H:=o.blk v X;have G:∀{c:aw},az [b] w c->rE aM c F x.g (oM x.g.k x.g.n x.g.s x.g.op Q x.g.a):=λd=>(jJ aM).keep g λk hk W=>d.block k W (by simpa using i k hk);have kA:∀{c:aw},az [b] w c->ly aM (uW aM) 9 227 c F tU x.acts:=λd=>M.keep (dW aM) Z λk hk W=>d.block k W (by simpa using i k hk);have j:∀{c:aw},az [b] w c->aB nU 1 c F tg x.tg:=λd=>Wg dG Z oJ.1 d λk hk _ hm=>i k hk Ie;have sm:∀{c D:aw},p.heap.size<=c.heap.size->az [b] c D->cj [k0] c D:=λhz d=>d.same S;refine⟨m,Om H 1 I,b,1,_,_,I,H,X,J,λq t L=>?_⟩;have A:az [b] w q:=ic (only1 o) t;have z1:=t.size;rw[eS J J]at L;have L:vN q b n (m+1) a:=L;have N:((T x.ev).toList==((ao #[]).toList))=YR (x.ev=[]):=ji x.ev [];refine⟨λl c=>l=(if x.k=1 then dD x.ev else YR (x.ev=[]))/\az [b] w c/\p.heap.size<=c.heap.size/\vN c b n (m+1) a,λl w2 ⟨P,C,z2,mU⟩=>?_,λhk=>(tD q x.ev J).mono ?_,λhk=>⟨by rw[R WH,N],A,J,L⟩⟩
 .refine(SK (G C)).mono ?_;rintro _ w3 ⟨rfl,e⟩;have o3:=ic C (only1 e);have z3:=e.size;have wv:=e.blk mU X;refine⟨_,I,sm z2 (only1 e),λk c=>k=(if x.gd then uz x.g else rW x.g)/\az [b] w c/\p.heap.size<=c.heap.size/\vN c b n (m+1) a,λk w4 ⟨F,o4,z4,sO⟩=>?_,λg=>(Hz (G o3) y.1 J).mono ?_,λg=>⟨by rw[g];rfl,o3,J,wv⟩⟩
  .refine(BQ sO (kA o4) i y.2 J V Y).mono ?_;rintro _ w5 ⟨rfl,⟨a5,wq,_,am⟩,w⟩;have n:=ic o4 w;have z5:=w.size;have yU:=(j n).len;have aC:=(j n).big;have aS:=(j n).cap;refine⟨_,I,sm z4 w,λkv aT c=>∃a:Nat,aT=(a:Int)/\kv+a=qj x.tg/\a<=qj x.tg/\(x.tg.take a).all dD=aF/\az [] w5 c,qj x.tg,⟨0,I,J,bf _,I,Ib _ _⟩,?_⟩;rintro kv _ w6 ⟨a,rfl,nQ,hj,ij,b⟩;have z6:=b.size;have o6:=ic n (only1 b);refine⟨λm=>?_,λm=>?_⟩
   .have m:=u m;obtain⟨ad,s,f,g1,g2,g3,g4,g5,g6⟩:=(j o6).get (be a) J;rw[ba]at g2;have g6:f=[ab (T s)]:=g6;subst g6;have yV:=bp g2;have tR:qj s<=Mp x.tg:=by
     have:=Ji yV;omega
    refine⟨ad,g1,_,g5,(tD w6 s J).mono ?_⟩;rintro _ w7 ⟨rfl,gq⟩;refine⟨_,I,sm J (only1 gq),λhh=>?_,λhh=>⟨kv-1,J,a+1,Ye,J,J,?_,b.bU gq⟩⟩
    .have hh:dD s=aM:=Zy
     have:mr x=aM:=by
      rw[<-JC,show x.tg.all dD=aM by rw[zN];exact⟨s,yV,by rw[hh];simp⟩,ga]
     rw[this];exact⟨I,⟨_,_,(b.bU gq).blk wq X,λh=>Ue⟩,ic o6 (only1 gq)⟩
    have hh:dD s=aF:=Zy
    rw[bn,g2,iw,ij];simp[hh]
   have m:=aU m;have s:a=qj x.tg:=J
   subst s;rw[gV]at ij;have h:((((((YR (x.k>=1))&&(YR (x.k<=3)))&&l)&&k)&&x.acts.all iZ)&&((x.wt==0)||((x.k==3)&&(YR (x.wt>0)))))=mr x:=by
    rw[<-JC,ij,P,F,dY]
   rw[h];refine⟨I,⟨_,_,b.blk wq X,λhm=>⟨I,am ?_⟩⟩,o6⟩;rw[<-JC]at hm;simp only[B]at hm;exact hm.1.1.2
  rintro _ w ⟨rfl,a⟩;have b:=a.size;exact⟨_,I,sm J (only1 a),by rw[g];rfl,ic o3 (only1 a),J,a.blk wv X⟩
 rintro _ w ⟨rfl,a⟩;have b:=a.size;exact⟨_,I,sm J (only1 a),by rw[K WH],ic A (only1 a),J,a.blk L X⟩
end
def lz(l:L Mv):Nat:=(l.map λm=>qj m.acts).sum
def ajp(l:L Mv)(m:Mv):lz (l++[m])=lz l+qj m.acts:=by
 unfold lz;rw[cA,Rk];simp
def BR:∀l:L Mv,lz l<=zj l
 | []=>bf _
 | m::l=>by
  have a:=iB m.acts;have b:=BR l;have h:lz (m::l)=qj m.acts+lz l:=I;rw[zj,h];unfold Hj;omega
def mvL(l:L Mv)(j:Nat):lz (l.take j)<=lz l:=by
 induction l generalizing j with
 | nil=>simp[lz]
 | cons m l i=>
  cases j with
  | zero=>exact bf _
  | succ j=>
   have:=i j;show (qj m.acts)+lz (l.take j)<=qj m.acts+lz l;omega
def acF(b:Nb):Cu b<=zl b:=by
 have h:=iB b.en;have a:=iB b.lv;have c:=BR b.mv;have d:Cu b=qj b.en+qj b.lv+lz b.mv:=I;unfold zl;omega
mutual
def aiT:∀x:Nd,yP x<=mL x
 | .mk b l=>by
  have h:=acF b;have a:=JD l;rw[yP,mL];omega
def JD:∀l:L Nd,nK l<=j5 l
 | []=>bf _
 | x::l=>by
  have h:=aiT x;have a:=JD l;rw[nK,j5];omega
end
def unP:∀(l:L Nd) (j:Nat) {y:Nd},l[j]? =aN y->dJ (l.take j)+iQ y<=dJ l
 | [],j,y,h=>Ux
 | x::l,0,y,h=>by
  simp only[cQ,bP]at h;subst h;rw[cu,dJ,dJ];omega
 | x::l,j+1,y,h=>by
  have:=unP l j (y:=y) U3;rw[fF,dJ,dJ];omega
def HA:∀(l:L Nd) (j:Nat) {y:Nd},l[j]? =aN y->j5 (l.take j)+mL y<=j5 l
 | [],j,y,h=>Ux
 | x::l,0,y,h=>by
  simp only[cQ,bP]at h;subst h;rw[cu,j5,j5];omega
 | x::l,j+1,y,h=>by
  have:=HA l j (y:=y) U3;rw[fF,j5,j5];omega
def nCb{d:Nat}{y:Nd}:∀{l:L Nd},y∈l->kc d y=aM->iX d l=aM
 | x::l,h,y=>by
  rw[iX];rcases bh.1 h with rfl | h
  .rw[y,cR]
  rw[nCb h y,ga]
def tP(d:Nat)(n:Int)(x:Nd):M:=kc d x&&YR (n+iQ x<=64)
def NcO(b:Nat)(w:aw)(n e a:Int)(r:M)(x:Nd):Prop:=∃d m c:Int,vN w b d m c/\(r=aF->d=n+iQ x/\m=e+Am x/\c=a+yP x)
def eq1{F:A}{b:Nat}(h:∀k,F k->k≠b):∀(D:Nat) {w:aw} {n m a:Int} {d:Nat} {x:Nd} {c:aJ},vN w b n m a->nX aM D w F x c->Dv x->mL x<=8388608->0<=n->n<=64->d<=100->0<=m->m+mL x<=1152921504606846976->0<=a->a+mL x<=1152921504606846976->
  aA aq 228 #[ae (aN ⟨b,0,Pw⟩),ah c.toArray,O U (d:Int)] w λe f=>e=ak (aj (tP d n x))/\NcO b f n m a (tP d n x) x/\az [b] w f
 | 0,_,_,_,_,_,_,_,_,a,_,_,_,_,_,_,_,_,_=>a.elim
 | D+1,w,n,m,a,d,.mk g i,c,hc,⟨en,lv,mv,kids,jh,wE,N⟩,hn,Y,aS,am,aC,Vf,xB,Q,R=>by
  dsimp only[Nd.kids,Nd.b]at jh wE N;subst jh;have hk:=N.1;rw[Dv]at hn;obtain⟨W,Ki⟩:=hn;obtain⟨zA,sF,V⟩:=W;obtain⟨he,hl,oW⟩:=wE;rw[mL]at Y xB R;have aT:=Y;have ww:Cu g=qj g.en+qj g.lv+lz g.mv:=I;have sL:=acF g;unfold zl at Y;have Gx:=hc.lt;refine ret (aop ?_);have eN:iQ (.mk g i)=dJ i+1:=by rw[iQ]
  have eO:kc d (.mk g i)=(YR (d<12)&&qE g (qj i)&&iX (d+1) i):=by rw[kc]
  intro k0 H N dS M;have z0:=M.size;have z:=M.blk hc X;have sm:∀{j u':aw},H.heap.size<=j.heap.size->az [b] j u'->cj [k0] j u':=λhz r=>r.same S;have bad:tP d n (.mk g i)=aM->∀{j:aw} {n' m' a':Int},az [b] w j->vN j b n' m' a'->Value.bool aM=aj (tP d n (.mk g i))/\NcO b j n m a (tP d n (.mk g i)) (.mk g i)/\az [b] w j:=λt {_ _ _ _} r hB=>⟨by rw[t],⟨_,_,_,hB,λl=>by rw[t]at l;cases l⟩,r⟩
  have kA:∀{j:aw} {s:Sl} {v:L Ac},ly aM (uW aM) 9 227 w F s v->az [b] w j->ly aM (uW aM) 9 227 j F s v:=λl r=>l.keep (dW aM) Z λk hk bW=>r.block k bW (by simpa using h k hk);have eT:∀v:C,((T v).toList==((ao #[]).toList))=YR (v=[]):=λv=>ji v [];rw[eT,eT];refine⟨n,Om z 0 I,b,0,_,_,I,z,X,J,λw1 cr q=>?_⟩;have o1:az [b] w w1:=ic (only1 M) cr;have z1:=cr.size;rw[eS J J]at q;have q:vN w1 b (n+1) m a:=q;refine(tD w1 g.nm J).mono ?_;rintro _ w2 ⟨rfl,P⟩;have G:=ic o1 (only1 P);have z2:=P.size;have E:vN w2 b (n+1) m a:=P.blk q X;refine⟨_,I,sm J (only1 P),n+1,λ_=>Om E 0 I,λo=>bad ?_ G E,λo=>?_⟩
  .unfold tP;rw[eO,eN];simp only[cy,da,bF]at o;rcases o with(l | l) | l
   .unfold qE;rw[l];simp
   .rw[bD (p:=d<12) J];rfl
   rw[bD (p:=n+((dJ i+1:Nat):Int)<=64) J,ga]
  simp only[fe,jA]at o;have bv:n+1<=64:=by have:=aU o.2;omega
  have T:d<12:=by have:=aU o.1.2;omega
  have VA:dD g.nm=aF:=o.1.1;have B8:=hk.len;have Vz:=he.1.len;have Ke:=hl.1.len;have yq:=oW.1.len;have s:kc d (.mk g i)=(qE g (qj i)&&iX (d+1) i):=by rw[eO,bG T,ch]
  refine⟨λhh=>(tD w2 g.dft J).mono ?_,λhh=>?_⟩
  .rintro _ w3 ⟨rfl,b⟩;have p:gv g.k=aF:=by
    unfold gv;rw[cy,dr,dr]at hh;exact bG hh
   have x:(((((dD g.dft&&YR (g.ini=[]))&&((en.n:Int)==0))&&((lv.n:Int)==0))&&((mv.n:Int)==0))&&((kids.n:Int)==0))=tP d n (.mk g i):=by
    unfold tP;rw[s,eN];unfold qE;rw[VA,p,K I,ch,Vz,Ke,yq,B8,bK];simp only[B,bF,dr];constructor
    .rintro⟨⟨⟨⟨⟨d,n⟩,e⟩,m⟩,y⟩,F⟩;have k:i=[]:=bL J;subst k;refine⟨⟨⟨d,n,bL J,bL J,J,I⟩,by rw[iX]⟩,by rw[dJ];omega⟩
    rintro⟨⟨⟨d,n,e,m,y,F⟩,_⟩,_⟩;exact⟨⟨⟨⟨⟨d,n⟩,by rw[e];rfl⟩,by rw[m];rfl⟩,J⟩,J⟩
   refine⟨_,I,sm J (only1 b),by rw[x],⟨_,_,_,b.blk E X,λt=>?_⟩,ic G (only1 b)⟩;rw[<-x]at t;simp only[B,dr]at t;obtain⟨⟨⟨⟨_,e⟩,m⟩,y⟩,F⟩:=t;have k:i=[]:=bL J;subst k;have a:g.mv=[]:=bL J;rw[eN,Am,yP,dJ,oO,nK,ww,a];refine⟨J,X,?_⟩;have:lz []=0:=I;rw[this];omega
  have bY:gv g.k=aM:=by
   unfold gv;rw[fe,Kq,Kq]at hh;exact bD λe=>e.elim hh.1 hh.2
  have eB:qE g (qj i)=(YR ((g.k=1∨g.k=2)/\g.dft=[])&&(YR (g.ini=[])||dD g.ini)&&g.en.all iZ&&g.lv.all iZ&&g.mv.all mr):=by
   unfold qE;rw[VA,bY,ch];rfl
  refine⟨λb2 j=>b2=(YR (g.ini=[])||dD g.ini)/\az [b] w j/\H.heap.size<=j.heap.size/\vN j b (n+1) m a,λb2 w4 ⟨bV,o4,z4,sO⟩=>?_,λhi=>(tD w2 g.ini J).mono ?_,λhi=>⟨?_,G,J,E⟩⟩;rotate_left
  .rintro _ d ⟨rfl,e⟩;have a:=e.size;refine⟨_,I,sm J (only1 e),?_,ic G (only1 e),J,e.blk E X⟩;have:YR (g.ini=[])=aM:=XS
   rw[this,kz]
  .have:YR (g.ini=[])=aF:=XS
   rw[this,Dd]
  have co:=iB g.en;have cC:=iB g.lv;refine(BQ sO (kA he o4) h zA J Q J).mono ?_;rintro _ w5 ⟨rfl,⟨a5,wq,el,cc⟩,eJ⟩;have o5:=ic o4 eJ;have z5:=eJ.size;refine⟨_,I,sm z4 eJ,(BQ wq (kA hl o5) h sF J J J).mono ?_⟩;rintro _ w6 ⟨rfl,⟨a6,Qi,eQ,ce⟩,dV⟩;have o6:=ic o5 dV;have z6:=dV.size;have eC:((((((g.k !=1)&&(g.k !=2))||(!(YR (g.dft=[]))))||(!b2))||(!g.en.all iZ))||(!g.lv.all iZ))=!(YR ((g.k=1∨g.k=2)/\g.dft=[])&&(YR (g.ini=[])||dD g.ini)&&g.en.all iZ&&g.lv.all iZ):=by
   rw[bV,Df,Df,Df];congr 3;rw[bK];simp only[cy,B,bne_iff_ne,da,db,ne_eq];by_cases a:g.k=1<;>by_cases b:g.k=2<;>by_cases d:g.dft=[]<;>simp[a,b,d]
  have kM:∀{j:aw},az [b] w j->aB (L9 aM) 13 j F mv g.mv:=λr=>Wg (nJ aM) Z oW.1 r λk hk _ hm=>h k hk Ie;have kK:∀{j:aw},az [b] w j->aB (nX aM D) 9 j F kids i:=λr=>Wg (cG aM D) Z hk r λk hk _ hm=>h k hk Ie;have dO:=nf g.mv;refine⟨_,I,sm J dV,λe=>bad ?_ o6 Qi,λe=>?_⟩
  .rw[eC,da]at e;unfold tP;rw[s,eB,e];rfl
  rw[eC,jA]at e;have f5:qE g (qj i)=g.mv.all mr:=by rw[eB,e,ch]
  simp only[B]at e;have cc:=cc e.1.2;have ce:=ce e.2;have yV:=BR g.mv;have FV:=qu i;have wv:qj g.mv<=zl g:=by unfold zl;omega
  refine⟨λkv F j=>∃k:Nat,F=(k:Int)/\kv+k=qj g.mv/\k<=qj g.mv/\(g.mv.take k).all mr=aF/\az [b] w j/\H.heap.size<=j.heap.size/\vN j b (n+1) (m+k) (a6+lz (g.mv.take k)),qj g.mv,⟨0,I,J,bf _,I,o6,J,by simpa[lz]using Qi⟩,?_⟩;rintro kv _ w7 ⟨k,rfl,nQ,hj,ij,o7,z7,fd⟩;have lh:=mvL g.mv k;refine⟨λmQ=>?_,λmQ=>?_⟩
  .have mQ:=u mQ;obtain⟨ad,y,c,g1,b,g3,g4,g5,n⟩:=(kM o7).get (be k) J;rw[ba]at b;have d:=bp b;have TJ:=qs d;have FT:=n;obtain⟨gc,tU,tg,rfl,hg,Ce,oJ⟩:=n;obtain⟨gs,rfl⟩:=fD hg;have p:g.mv.take (k+1)=g.mv.take k++[y]:=by rw[bn,b];rfl
   refine⟨ad,g1,_,_,_,_,_,_,_,_,_,_,_,_,_,g5,(Aft fd FT h (V y d) J J J J J).mono ?_⟩;rintro _ w8 ⟨rfl,⟨m8,a8,yW,h8⟩,a⟩;have x:=ic o7 a;have z8:=a.size;refine⟨_,I,sm z7 a,λhh=>bad ?_ x yW,λhh=>?_⟩
   .have hh:mr y=aM:=Zy
    unfold tP;rw[s,f5,show g.mv.all mr=aM by rw[zN];exact⟨y,d,by rw[hh];simp⟩];rfl
   have hh:mr y=aF:=Zy
   obtain⟨rfl,rfl⟩:=h8 hh;refine⟨kv-1,J,k+1,Ye,J,J,by rw[p,iw,ij];simp[hh],x,J,?_⟩;rw[p,ajp,show m+((k+1:Nat):Int)=m+k+1 by omega,show a6+((lz (g.mv.take k)+qj y.acts:Nat):Int)=a6+lz (g.mv.take k)+(qj y.acts) by omega];exact yW
  have mQ:=aU mQ;have me:k=qj g.mv:=J
  subst me;rw[gV]at ij fd;have gE:kc d (.mk g i)=iX (d+1) i:=by rw[s,f5,ij,ch]
  have eA:a6+(lz g.mv:Int)=a+(Cu g:Int):=J
  rw[eA]at fd;refine⟨λkv F j=>∃k:Nat,F=(k:Int)/\kv+k=qj i/\k<=qj i/\iX (d+1) (i.take k)=aF/\n+1+dJ (i.take k)<=64/\az [b] w j/\H.heap.size<=j.heap.size/\vN j b (n+1+dJ (i.take k)) (m+qj g.mv+oO (i.take k)) (a+Cu g+nK (i.take k)),qj i,⟨0,I,J,bf _,by rw[cu,iX],by rw[cu,dJ];omega,o7,z7,by rw[cu,dJ,oO,nK];simpa using fd⟩,?_⟩;rintro tS _ w9 ⟨F,rfl,Cj,hi,f7,h9,o9,z9,f8⟩;refine⟨λf6=>?_,λf6=>?_⟩
  .have f6:=u f6;obtain⟨ad,y,c,g1,g2,g3,g4,g5,g6⟩:=(kK o9).get (be F) J;rw[ba]at g2;have vd:=bp g2;have TJ:=qt vd;have FT:=g6;obtain⟨b,rfl⟩:∃b,D=b+1:=by
    cases D with
    | zero=>exact g6.elim
    | succ b=>exact⟨b,I⟩
   obtain⟨vT,vU,rG,ju,rfl,_⟩:=g6;have lS:i.take (F+1)=i.take F++[y]:=by rw[bn,g2];rfl
   have q1:=unP i F g2;have q2:=HA i F g2;have q3:=AI (i.take F);have q4:=JD (i.take F);refine⟨ad,g1,_,_,_,_,vT,vU,rG,ju,_,g5,?_⟩;rw[eS (x:=(d:Int)+1) J J,show(d:Int)+1=((d+1:Nat):Int) by omega];refine(eq1 h (b+1) (d:=d+1) f8 FT (AG Ki vd) J J h9 J J J J J).mono ?_;rintro _ dq ⟨rfl,⟨g8,gT,gO,pK,t⟩,dN⟩;have gG:=ic o9 dN;have KG:=dN.size;refine⟨_,I,sm z9 dN,λC9=>bad ?_ gG pK,λC9=>?_⟩
   .have C9:tP (d+1) (n+1+dJ (i.take F)) y=aM:=by simpa using C9
    unfold tP at C9⊢;rw[ii]at C9;rcases C9 with l | l
    .rw[gE,nCb vd l,cR]
    have l:=aU l;rw[eN,bD (p:=n+((dJ i+1:Nat):Int)<=64) J,ga]
   have C9:tP (d+1) (n+1+dJ (i.take F)) y=aF:=by simpa using C9
   obtain⟨rfl,rfl,rfl⟩:=t C9;unfold tP at C9;rw[B]at C9;have p:=u C9.2;refine⟨tS-1,J,F+1,Ye,J,J,by rw[lS,zm,f7,C9.1];rfl,by rw[lS,uF];omega,gG,J,?_⟩;rw[lS,uF,xV,BB,show n+1+((dJ (i.take F)+iQ y:Nat):Int)=n+1+dJ (i.take F)+iQ y by omega,show m+qj g.mv+((oO (i.take F)+Am y:Nat):Int)=m+qj g.mv+oO (i.take F)+Am y by omega,show a+Cu g+((nK (i.take F)+yP y:Nat):Int)=a+Cu g+nK (i.take F)+yP y by omega];exact pK
  have f6:=aU f6;have a:F=qj i:=J
  subst a;rw[gV]at h9 f7 f8;have b:tP d n (.mk g i)=aF:=by
   unfold tP;rw[gE,f7,eN,ch];exact bG J
  rw[b];refine⟨I,⟨_,_,_,f8,λ_=>?_⟩,o9⟩;rw[eN,Am,yP];omega
def apU{w:aw}{F:A}{D:Nat}{c:Ch}{t:Sl}{s:aJ}(h:ChR aM (D+1) w F c t s)(K:HX c)(hs:oq c.vars+mL c.root<=8388608):
  aA aq 180 #[ah (t.v::s).toArray] w λe R=>e=ak (aj (pz c))/\az [] w R:=by
 obtain⟨en,lv,mv,kids,M,_⟩:=h.root;subst M;refine ret (anZ ?_);intro N G fN dS C;have z0:=C.size;have l:=h.vars.1.len;have B4:qj c.vars<=oq c.vars:=by
  have:∀b:L Vr,qj b<=oq b:=λb=>by induction b with
   | nil=>exact bf _
   | cons a b c=>rw[oq,aZ];omega
  exact this _
 have V:∀{f:aw},az [] w f->aB Ry 3 f F t c.vars:=λg=>Wg ft Z h.vars.1 g X;have sm:∀{f E:aw},G.heap.size<=f.heap.size->az [] f E->cj [N] f E:=λhz g=>g.same S;refine⟨λq i f=>∃j:Nat,i=(j:Int)/\q+j=qj c.vars/\j<=qj c.vars/\(c.vars.take j).all yC=aF/\az [] w f/\G.heap.size<=f.heap.size,qj c.vars,⟨0,I,J,bf _,I,C,H _⟩,?_⟩;rintro q _ W ⟨j,rfl,nQ,hj,o,r,z1⟩;refine⟨λQ=>?_,λQ P Y wx C5 z wv=>?_⟩
 .have Q:=u Q;obtain⟨ad,y,s,g1,b,g3,g4,g5,k⟩:=(V r).get (be j) J;rw[ba]at b;have vd:=bp b;have TJ:=xo vd;have k:s=[ab (T y.n),O U y.v,O U y.a]:=k;subst k;refine⟨ad,g1,_,g5.part 0 λi v m=>qw m I,(tD W y.n J).mono ?_⟩;rintro _ w2 ⟨rfl,d⟩;have n:=r.bU d;have z2:=d.size;obtain⟨yE,y',DP,p1,p,p3,p4,p5,x⟩:=(V n).get (be j) J;rw[ba,b]at p;injection p with p;subst p;have x:DP=[ab (T y.n),O U y.v,O U y.a]:=x;subst x;have ev:((!dD y.n)||(y.v==(-9223372036854775808)))=!yC y:=by
   unfold yC;rw[Df];congr 1;rw[bK];simp
  refine⟨_,I,sm z1 d,yE,λ_=>p1,_,λ_=>p5.part 1 λi v m=>qw m I,λa=>⟨?_,n⟩,λa=>⟨q-1,J,j+1,Ye,J,J,?_,n,J⟩⟩
  .rw[ev,da]at a;have:c.vars.all yC=aM:=by
    rw[zN];exact⟨y,vd,by rw[a];simp⟩
   have e:pz c=aM:=by
    unfold pz;rw[show(c.vars.all λv=>dD v.n&&YR (v.v≠ -9223372036854775808))=c.vars.all yC from rfl,this];rfl
   rw[e]
  rw[ev,jA]at a;rw[bn,b,iw,o];simp[a]
 have Q:=aU Q;have me:j=qj c.vars:=J
 subst me;rw[gV]at o;have o3:=r.bU z;have z3:=z.size;have am:nX aM (D+1) Y (λk=>F k/\k<w.heap.size) c.root _:=(cG aM _).keep ((cG aM _).inHeap h.root) λk _ bW=>o3.block k bW X;refine(eq1 (F:=λk=>F k/\k<w.heap.size) (b:=P) (λk hk=>LH) (D+1) (n:=0) (m:=0) (a:=0) (d:=0) wv am K.2 J J J J J J J J).mono ?_;rintro _ w4 ⟨rfl,⟨n',m',a',sO,hr⟩,dQ⟩;have T:az [] w w4:=(o3.nP (dQ.p (F:=λk=>w.heap.size<=k) λx h=>by simp only[aV]at h;exact .inl J)).only λk hk=>hk;refine⟨_,I,dQ.same S,n',m',a',sO,?_,T⟩;congr 1;unfold pz;rw[show(c.vars.all λv=>dD v.n&&YR (v.v≠ -9223372036854775808))=c.vars.all yC from rfl,o,ch,l];cases y:tP 0 0 c.root
 .have:(kc 0 c.root&&YR (iQ c.root<=64))=aM:=by
   unfold tP at y;rw[<-y];congr 1;rw[bK,bF,bF];omega
  rw[ii]at this;simp only[cR];symm;rcases this with a | a
  .rw[a,cR]
  have a:=aU a;rw[bD (p:=c.root.b.k=1/\qj c.vars<=16/\iQ c.root<=64/\Am c.root<=200/\yP c.root<=400) (λe=>a e.2.2.1),ga]
 obtain⟨b,e,a⟩:=hr y;unfold tP at y;rw[B,bF]at y;rw[y.1,ch,ch,e,a,bK];simp only[B,bF,dr];omega
def apV{n}(h:0<=n)(a:n<=18446744073709551615):au .u64 n=n:=by
 have e:au .u64 n=n % 18446744073709551616:=I;omega
def SL w {n} (h:qO n):aA aq 182 #[O U n] w λe a=>e=ak (ab (T (Lib.itoa n)))/\az [] w a:=by
 obtain⟨d,b⟩:=h;by_cases c:0<=n
 .exact ph2 w c b
 refine ret (an1 ?_);refine⟨λe=>absurd e S,λe=>⟨λf=>?_,λp=>absurd (aU p) J⟩⟩;have s:=by
  refine ret (aoq n (λv a=>v=.int .u64 (-n)/\a=w) w ?_);refine⟨λ_=>⟨?_,I⟩,λp=>absurd (aU p) J⟩;rw[eS (x:=n+1) J J,eS J J,apV (n:=0-_) J J,apV J J];congr 1;omega
 refine s.mono ?_;rintro _ g ⟨rfl,u⟩;obtain rfl:w=g:=u.symm;obtain⟨k,hk⟩:∃k:Nat, -n=k:=⟨(-n).toNat,J⟩
 rw[hk];refine⟨_,I,(or3 k w J).mono ?_⟩;rintro _ i ⟨rfl,r⟩;have N:¬k=0:=J
 have l:=vL k J;rw[R N];refine⟨_,I,Yv,?_,r⟩;unfold Lib.itoa;rw[K J,show n.natAbs=k by omega];rfl
def aeO{n}(h:qO n):qj (Lib.itoa n)<=41:=by
 obtain⟨a,b⟩:=h;unfold Lib.itoa;split
 .rw[aZ];have:=vL n.natAbs J;omega
 have:=vL n.toNat J;omega
section
variable {w:aw} {F:A}
def PJ x:qj (yz x)<=16384:=Jg x
def apW{y}(h:y.k=1):[115,101,116,32]++y.n++[32,61,32]++yz y.x++[59]=Du y:=by
 unfold Du;rw[R J,K h];simp[tM]
def apX{y}(h:y.k=2):[114,97,105,115,101,32]++y.n++[59]=Du y:=by
 unfold Du;rw[K h];simp[lQ]
def apY{y}(h:y.k≠1)(a:y.k≠2):[101,109,105,116,32]++y.n++[32,61,32]++yz y.x++[59]=Du y:=by
 unfold Du;rw[R a,R h];simp[mZ]
def PK y:qj (Du y)<=Kx y+16500:=by
 have:=PJ y.x;unfold Kx;by_cases h:y.k=1
 .rw[<-apW h];simp;omega
 by_cases a:y.k=2
 .rw[<-apX a];simp;omega
 rw[<-apY h a];simp;omega
def HC a:∀l,An (l++[a])=An l++(32::Du a)
 | []=>by simp[An]
 | b::l=>by rw[cb,An,An,HC a l];simp
def aiU{y}{cs}(x:uW aM w F y cs)(a:Hc y)(s:Kx y<=8388608):
  aA aq 267 #[ah cs.toArray] w λe q=>e=ak (ab (T (Du y)))/\az [] w q:=by
 have K:=PK y;obtain⟨D,rfl,V⟩:=x;obtain⟨G,rfl⟩:=fD V;unfold Kx at s K;have H:=PJ y.x;refine ret (aoL ?_);have d:_=T [115,101,116,32]:=I;have f:_=T [32,61,32]:=I;have g:_=T [59]:=I;have i:_=T [114,97,105,115,101,32]:=I;have j:_=T [101,109,105,116,32]:=I;simp only[d,f,g,i,j,fz,cJ];have E:∀{u:aw},az [] w u->rE aM u F y.x _:=λh=>(jJ aM).keep V λk _ W=>h.block k W X;have l:∀{b m:C},qj (b++m)=qj b+qj m:=aP;refine⟨λh1 o z N r n=>⟨λk=>k=o,I,J,by rw[l];simp;omega,(JB (E n) a J).mono ?_⟩,λh1=>⟨λh2=>⟨J,by rw[l];simp;omega,λt A _ _ h=>⟨by rw[apX UD],h⟩⟩,λh2 p B v R c=>⟨λk=>k=p,I,J,by rw[l];simp;omega,(JB (E c) a J).mono ?_⟩⟩⟩
 .rintro _ w ⟨rfl,e⟩;refine⟨_,I,e.same S,Uy e,?_,?_,by rw[fz,fz,apW Gb],n.bU e⟩
  .rw[cJ];simp;omega
  rw[fz,cJ];simp;omega
 rintro _ w ⟨rfl,e⟩;refine⟨_,I,e.same S,Uy e,?_,?_,by rw[fz,fz,apY Gb UD],c.bU e⟩
 .rw[cJ];simp;omega
 rw[fz,cJ];simp;omega
def JE:∀l,lg l<=1048576->qj (An l)<=qj l*1065080
 | [],_=>bf _
 | a::l,h=>by
  have b:=PK a;have c:Kx a<=lg (a::l):=uE X;have d:lg l<=lg (a::l):=by rw[lg];omega
  have e:=JE l J;rw[An,aZ,aP,aZ,gY];omega
def FC{l}{qM}(c:ly aM (uW aM) 9 227 w F l qM)(n:∀y,y∈qM->Hc y)(g:lg qM<=1048576):
  aA aq 231 #[l.v] w λe d=>e=ak (ab (T (zU qM)))/\az [] w d:=by
 refine ret (aor ?_);have W:=c.1.len;have K:=iB qM;have kp:∀{a:aw},az [] w a->aB _ 9 a F l qM:=λh=>Wg (dW aM) Z c.1 h X;refine⟨λk s i a=>∃(j:Nat) (t:C),s=T t/\t=123::An (qM.take j)/\i=j/\k+j=qj qM/\j<=qj qM/\qj t<=1+j*1065080/\az [] w a,qj qM,⟨0,[123],I,I,I,J,bf _,X,Ib _ _⟩,?_⟩;rintro k _ _ p ⟨j,t,rfl,b,rfl,Q,f,o,h⟩;refine⟨λm=>?_,λm=>?_⟩
 .have m:=u m;obtain⟨ad,y,z,q,e,A,B,s,l⟩:=(kp h).get (be j) J;rw[ba]at e;have v:=bp e;have x:=uE v;have F:=l;obtain⟨G,rfl,V⟩:=l;obtain⟨H,rfl⟩:=fD V;refine⟨Yv,ad,q,_,_,_,_,_,_,_,_,_,s,(aiU F (n y v) J).mono ?_⟩;rintro _ E ⟨rfl,r⟩;have D:=PK y;have w:qj (t++[32]++Du y)<=1+(j+1)*1065080:=by
   rw[aP,aP,bA,gY];omega
  refine⟨_,I,?_,k-1,J,j+1,t++[32]++Du y,?_,by rw[bn,e,b];show _=123::An (qM.take j++[y]);rw[HC];simp,Ye,J,J,w,h.bU r⟩
  .rw[show(ao #[32])=T [32]from rfl,fz,cJ,cJ,aP,bA];omega
  rw[show(ao #[32])=T [32]from rfl,fz,fz]
 have m:=aU m;have e:j=qj qM:=J
 subst e;refine⟨Yv,?_,h⟩;rw[show(ao #[32,125])=T [32,125]from rfl,fz,b,gV];rfl
def TU:L (C)->C
 | []=>[]
 | s::l=>32::45::62::32::(s++Ha l)
def Nk s:∀l,Ha (l++[s])=Ha l++[44,32]++s
 | []=>by simp[Ha]
 | b::l=>by rw[cb,Ha,Ha,Nk s l];simp
def aeF s:∀l,TU (l++[s])=TU l++(if l=[]then[32,45,62,32]else[44,32])++s
 | []=>by simp[TU,Ha]
 | b::l=>by rw[cb,TU,TU,Nk s l,R X];simp
def aiV m:KS m++VL m++(if m.acts=[]then[]else 32::zU m.acts)++TU m.tg++[59]=Gq m:=by
 unfold Gq;cases m.tg<;>simp[TU]
def adS{x}{f}(hx:L9 aM w F x f)(g:V7 x)(hs:Hj x<=1048576):
  aA aq 232 #[ah f.toArray] w λe d=>e=ak (ab (T (Gq x)))/\qj (Gq x)<=3000000000000/\az [] w d:=by
 obtain⟨gc,tU,B,rfl,q,l,r⟩:=hx;obtain⟨gs,rfl⟩:=fD q;unfold Hj at hs;have c:qO x.wt:=g.w;refine((aos x.k (T x.ev) x.wt x.gd x.g.k x.g.n (T x.g.s) x.g.op gs x.g.a tU B x.a (λv d=>v=ab (T (Gq x))/\qj (Gq x)<=3000000000000/\az [] w d) w ?_)).mono (by rintro _ d ⟨v,rfl,rfl,b,h'⟩;exact⟨I,b,h'⟩);intro k0 M fN dS n;have z0:=n.size;have sm:∀{a E:aw},M.heap.size<=a.heap.size->az [] a E->cj [k0] a E:=λhz h=>h.same S;have kT:∀{a:aw},az [] w a->aB nU 1 a F B x.tg:=λh=>Wg dG Z r.1 h X;have HS:=PJ x.g;have Kk:=iB x.acts;have yU:=xU x.tg;have y:=l.1.len;have am:=r.1.len;let St (V:Nat) (v:C):D->aw->Prop:=λs a=>∃t:C,s=T t/\qj t<=V/\az [] w a/\M.heap.size<=a.heap.size/\t=v
 refine⟨St 1048600 (if x.k=1 then Ds++32::x.ev else iW),λs0 w1 ⟨t0,W,h0,o0,N,v0⟩=>⟨St 1048700 (KS x),λs1 w2 ⟨z,m,h1,o,P,G⟩=>⟨St 1066000 (KS x++VL x),λs2 w3 ⟨A,p,h2,i,Q,L⟩=>⟨St 1117000000000 (KS x++VL x++(if x.acts=[]then[]else 32::zU x.acts)),λs3 w4 ⟨j,Y,h3,o3,y3,v3⟩=>?_,λhc=>?_,λhc=>⟨A,p,J,i,Q,?_⟩⟩,λhc=>?_,λhc=>⟨z,m,J,o,P,?_⟩⟩,λhc=>?_,λhc=>⟨t0,W,J,o0,N,?_⟩⟩,λhc=>?_,λhc=>⟨[97,108,119,97,121,115],I,Z,n,H _,by rw[R Yc];rfl⟩⟩
 .subst Y;refine⟨λkv s aC a=>∃(k:Nat) (t:C),s=T t/\t=j++TU (x.tg.take k)/\aC=(k:Int)/\kv+k=qj x.tg/\k<=qj x.tg/\qj t<=1117000000000+k*1048590/\az [] w a,qj x.tg,⟨0,j,I,by rw[cu,TU,bC],I,J,bf _,J,o3⟩,?_⟩;rintro kv _ _ w5 ⟨k,t,rfl,et,rfl,nQ,hj,ht,h⟩;refine⟨λv=>⟨λs a=>∃F:C,s=T F/\qj F<=qj t+4/\a=w5/\F=t++(if k=0 then[32,45,62,32]else[44,32]),?_,λh0=>⟨Yv,t++[32,45,62,32],by rw[show(ao #[32,45,62,32])=T [32,45,62,32]from rfl,fz],X,I,by rw[K LI]⟩,λh0=>⟨Yv,t++[44,32],by rw[show(ao #[44,32])=T [44,32]from rfl,fz],X,I,by rw[R LI]⟩⟩,λv=>?_⟩
  .have v:=u v;rintro _ w6 ⟨F,rfl,aS,hw,t⟩;obtain rfl:w5=w6:=hw.symm;obtain⟨ad,s,f,g1,w,g3,g4,g5,T⟩:=(kT h).get (be k) J;rw[ba]at w;have tR:=Ji (bp w);have T:=T;subst T;refine⟨ad,g1,_,g5,by rw[cJ,cJ];omega,kv-1,J,k+1,F++s,by rw[fz],?_,Ye,J,J,?_,h⟩
   .rw[bn,w,t,et];show _=j++TU (x.tg.take k++[s]);rw[aeF];have e:(x.tg.take k=[])↔k=0:=by
     constructor
     .intro b;have:=bN List.length b;rw[ci,bE]at this;omega
     intro b;rw[b,cu]
    simp[e,bq]
   rw[aP,gY];omega
  have v:=aU v;have s:k=qj x.tg:=J
  subst s;rw[gV]at et;have e:t++[59]=Gq x:=by rw[et,v3,aiV]
  refine⟨Yv,by rw[show(ao #[59])=T [59]from rfl,fz,e],?_,h⟩;rw[<-e,aP,bA];have:qj x.tg*1048590<=1048576*1048590:=fS _ J;omega
 .subst p;have v:qj x.acts*1065080<=1048576*1065080:=fS _ J;refine⟨Yv,(FC (l.keep (dW aM) Z λk _ t=>i.block k t X) g.a J).mono ?_⟩;rintro _ F ⟨rfl,s⟩;have w:qj (zU x.acts)<=3+qj x.acts*1065080:=by
   have:=JE x.acts J;unfold zU;rw[aZ,aP];simp[aZ,bE];omega
  have z7:=s.size;refine⟨_,I,sm Q s,?_,A++[32]++zU x.acts,by rw[show(ao #[32])=T [32]from rfl,fz,fz],?_,i.bU s,J,?_⟩
  .rw[show(ao #[32])=T [32]from rfl,fz,cJ,cJ,aP,bA];omega
  .rw[aP,aP,bA];omega
  have hc:=u hc;rw[L,R (λe=>by rw[e]at y;simp at y;omega)];simp
 .have hc:=aU hc;rw[L,K (bL J),bC]
 .subst m;refine⟨Yv,(JB ((jJ aM).keep q λk _ s=>o.block k s X) g.1 J).mono ?_⟩;rintro _ w ⟨rfl,e⟩;have t:=e.size;refine⟨_,I,sm P e,?_,?_,z++[32,91]++yz x.g++[93],by rw[show(ao #[32,91])=T [32,91]from rfl,show(ao #[93])=T [93]from rfl,fz,fz,fz],?_,o.bU e,J,by rw[G];unfold VL;rw[hc,K I];simp⟩
  .rw[show(ao #[32,91])=T [32,91]from rfl,fz,cJ,cJ,aP];simp[aZ,bE];omega
  .rw[show(ao #[32,91])=T [32,91]from rfl,fz,fz,cJ,aP,aP];simp[aZ,bE];omega
  simp;omega
 .rw[G];unfold VL;rw[hc,R X,bC]
 .refine(SL w1 c).mono ?_;rintro _ w ⟨rfl,e⟩;have k:=e.size;have:=aeO c;refine⟨_,I,sm N e,Yv,[97,102,116,101,114,32]++Lib.itoa x.wt,by rw[show(ao #[97,102,116,101,114,32])=T [97,102,116,101,114,32]from rfl,fz],?_,o0.bU e,J,?_⟩
  .rw[aP];simp[aZ,bE];omega
  have hc:x.k=3:=Yc
  unfold KS;rw[R J,K hc];simp[jF]
 .have hc:¬x.k=3:=Yc
  rw[v0];unfold KS;rw[R hc]
 refine⟨Yv,[111,110,32]++x.ev,by rw[show(ao #[111,110,32])=T [111,110,32]from rfl,fz],?_,n,H _,?_⟩
 .rw[aP];simp[aZ,bE];omega
 rw[K Yc];simp[Ds]
end
structure Prg (w:aw) (b:Nat) (sl:Sl) (l:C):Prop where
 blk:aG w b 247 [sl.v]
 buf:Bf w (b+1) sl l
section
variable {w w0 w1 w2 w':aw} {b k0:Nat} {sl sl' Vo:Sl} {l:C}
def Prg.only(h:Prg w b sl l)(O:az [] w w'):Prg w' b sl l:=⟨O.blk h.blk X,h.buf.keep λg _ a=>O.block g a X⟩
def Prg.lb(h:Prg w b sl l):b<w.heap.size:=h.blk.lt
def Prg.ZP(h:Prg w b sl l){k:Nat}(hk:k<b):¬(k=b∨sl.a=aN ⟨k,0,Pw⟩):=by
 rintro(e | e)
 .omega
 have:=(h.buf.lt e).1;omega
def Prg.put{s:Sl}{m:C}{e:TypeId}(h:Prg w b sl l)(a:Bf w1 (b+1) s m)(k3:aE (λk=>sl.a=aN ⟨k,0,Pw⟩) w w1)(i:∀k,s.a=aN ⟨k,0,Pw⟩->sl.a=aN ⟨k,0,Pw⟩∨w.heap.size<=k):
  aG w1 b 247 [sl.v]/\∀w2,az [b] w1 w2->aG w2 b 247 [s.v]->Prg w2 b s m/\kq b sl w s w2:=by
 have j:=h.lb;refine⟨k3.blk h.blk λe=>by have:=(h.buf.lt e).1;omega,λw2 c U=>⟨⟨U,a.keep λg d f=>c.block g f (by have:=(a.lt d).1;simp;omega)⟩,(k3.mono λk _ hk=>.inr hk).trans (c.p (F:=λk=>k=b) λx hx=>.inl Xi) λk hk=>.inl (.inl hk),i⟩⟩
def apZ{B:Nat}(h:Bf w B sl l)(c:C){n:Nat}{parts:Array (Nat×ay)}(p:parts=(((c.map jc).zipIdx 0).map λx=>(x.2,x.1)).toArray)(f:qj c=n)(a:0<n)(V:n*1<=16777216)(E:B<=w.heap.size)(G:qj l+qj c<=140737488355328):
  ∃y w1,(av 230 n parts).run aq w=.ok (Sl.v y) w1/\az [] w w1/\∃s w2,(Builtin.append_ #[230,230] 230 #[Sl.v sl,Sl.v y]).run aq w1=.ok (Sl.v s) w2/\Bf w2 B s (l++c)/\
   aE (λk=>sl.a=aN ⟨k,0,Pw⟩) w w2/\∀k,s.a=aN ⟨k,0,Pw⟩->sl.a=aN ⟨k,0,Pw⟩∨w.heap.size<=k:=by
 obtain⟨y,w1,m,o,k3,_⟩:=vA w c p f a V;have H:=k3.size;have b:Bf w1 B sl l:=h.keep λg F d=>k3.block g d X;obtain⟨s,w2,q,u,D,v,z,A⟩:=tf (P:=aq) (t:=230) (ty:=230) (e:=5) (i:=Tryz.t5) (bytes:=1) (size:=1) (r:=ma) EK IW I I I I tZ (b.own λ_=>True) ((Af o).mono tZ λk hk=>⟨trivial,λe=>by have:=(h.lt e).2;have:=hk.1;omega⟩) J J Z;refine⟨y,w1,m,k3,s,w2,q,Bf.of u Px,k3.nP (v.p λx j=>.inl (z x j).1),λk hk=>?_⟩;rcases A with e | e
 .rw[e]at hk;exact .inl hk
 rw[e]at hk;injection hk with hk;injection hk with hk;exact .inr J
def HD:∀d,xf (d+1)=xf d++[32,32]
 | 0=>rfl
 | d+1=>by
  show 32::32::xf (d+1)=(32::32::xf d)++[32,32]
  rw[HD d];rfl
def JF:∀d,qj (xf d)=2*d
 | 0=>rfl
 | d+1=>by rw[xf,aZ,aZ,JF d];omega
def agu{l m:C}{d:Nat}(h:qj l<=4000000000000)(hd:d<=4194304)(a:qj m<=3000000000010):qj (kQ l (d,m))<=4000000000000:=by
 unfold kQ;split
 .exact h
 unfold Zb;rw[aP,aP,aP,JF];simp only[aZ,bE];omega
def SO(h:Prg w b sl l){d:Nat}(a:d<=4194304)(m:C)(f:qj m<=3000000000010):
  aA aq 181 #[ae (aN ⟨b,0,Pw⟩),O U (d:Int),ab (T m)] w λe w'=>e=ak (ai #[])/\∃(sl':Sl),Prg w' b sl' (kQ l (d,m))/\kq b sl w sl' w':=by
 refine ret (an0 ?_);have g:=h.buf.len;have c:=h.lb;refine⟨sl,Om h.blk 0 I,λhc=>⟨I,sl,?_,Zl _ _ _⟩,λhc=>?_⟩
 .have hc:=u hc;unfold kQ;rw[K J];exact h
 have hc:qj l<=16384:=Xt
 have p:kQ l (d,m)=l++xf d++m++[10]:=by
  unfold kQ Zb;rw[R J];simp
 rw[p];refine⟨λv o i=>∃(j:Nat) (q:Sl),o=(j:Int)/\v+j=d/\Prg i b q (l++xf j)/\kq b sl w q i,d,⟨0,sl,I,J,by rw[xf,bC];exact h,Zl _ _ _⟩,?_⟩;rintro v _ w0 ⟨j,q,rfl,r,P,M⟩;have D:=P.lb;have t:qj (l++xf j)<=16384+2*j:=by rw[aP,JF];omega
 refine⟨λQ=>?_,λQ=>?_⟩
 .have Q:=u Q;obtain⟨y,w1,d,N,s,w2,k,l,w,x⟩:=apZ P.buf [32,32] (n:=2) (parts:=#[.mk 0 (.int .u8 32),.mk 1 (.int .u8 32)]) I I Z Z J (by rw[aZ,bA];omega);obtain⟨z,A⟩:=P.put (e:=0) l w x;refine⟨q,Om P.blk 0 I,y,w1,d,s,w2,k,b,0,_,_,I,z,H 1,λG F L=>?_⟩;obtain⟨B,E⟩:=A G F L;exact⟨v-1,J,j+1,s,Ye,J,by rw[HD,<-bq];exact B,M.trans E⟩
 have Q:=aU Q;have me:j=d:=J
 subst me;obtain⟨w,w1,W,X,k3,Y⟩:=Dr P.buf m J J;obtain⟨G,L⟩:=P.put (e:=0) X k3 λk hk=>by
  rcases Y with e | e
  .rw[e]at hk;exact .inl hk
  rw[e]at hk;injection hk with hk;injection hk with hk;exact .inr J
 refine⟨q,Om P.blk 0 I,w,w1,W,b,0,_,_,I,G,H 1,λw2 N mU=>?_⟩;obtain⟨l,s⟩:=L w2 N mU;have sF:=l.lb;obtain⟨y,w3,z,a2,x,w4,A,B,E,F⟩:=apZ l.buf [10] (n:=1) (parts:=#[.mk 0 (.int .u8 10)]) I I Z Z J XO;obtain⟨O,S⟩:=l.put (e:=0) B E F;refine⟨w,Om l.blk 0 I,y,w3,z,x,w4,A,b,0,_,_,I,O,H 1,λw5 V wq=>?_⟩;obtain⟨T,U⟩:=S w5 V wq;exact⟨I,x,T,(M.trans s).trans U⟩
end
mutual
def OA:Nd->Prop
 | .mk b k=>(1<=b.k/\b.k<=4)/\PL k
def PL:L Nd->Prop
 | []=>True
 | x::l=>OA x/\PL l
end
def ldP{x:Nd}:∀{l:L Nd},PL l->x∈l->OA x
 | y::l,h,x=>by
  rw[PL]at h;rcases bh.1 x with rfl | x
  .exact h.1
  exact ldP h.2 x
mutual
def agx:∀(d:Nat) (x:Nd),kc d x=aF->OA x
 | d,.mk b l,h=>by
  rw[kc,B,B]at h;rw[OA];refine⟨?_,SP (d+1) l h.2⟩;have a:=h.1.2;unfold qE at a;rw[B]at a;have e:=a.2;by_cases c:gv b.k=aF
  .unfold gv at c;have:=u c;omega
  rw[R c]at e;simp only[B,bF]at e;omega
def SP:∀(d:Nat) (l:L Nd),iX d l=aF->PL l
 | _,[],_=>by rw[PL];trivial
 | d,x::l,h=>by
  rw[iX,B]at h;rw[PL];exact⟨agx d x h.1,SP d l h.2⟩
end
def qI(w:aw)(b:Nat)(sl:Sl)(a:aw)(s:Sl)(l:C):Prop:=(Prg w b sl l/\qj l<=4000000000000)/\kq b s a sl w
def qI.line{w f:aw}{b:Nat}{sl s:Sl}{l:C}(i:qI w b sl f s l){d:Nat}(a:d<=4194304)(m:C)(g:qj m<=3000000000010){k:Nat}(j:k≠b)(n:s.a≠aN ⟨k,0,Pw⟩)(o:k<f.heap.size):
  aA aq 181 #[ae (aN ⟨b,0,Pw⟩),O U (d:Int),ab (T m)] w λe c=>e=ak (ai #[])/\cj [k] w c/\∃sl',qI c b sl' f s (kQ l (d,m)):=by
 obtain⟨⟨p,q⟩,M⟩:=i;refine(SO p a m g).mono ?_;rintro _ c ⟨rfl,sl',P,h⟩;exact⟨I,M.sm j n o h,sl',⟨P,agu q a g⟩,M.trans h⟩
def qI.only{w a c:aw}{b:Nat}{sl s:Sl}{l:C}(d:qI w b sl c s l)(h:az [] w a):qI a b sl c s l:=by
 obtain⟨⟨P,e⟩,M⟩:=d;exact⟨⟨P.only h,e⟩,M.trans (UW h)⟩
def W6(D:Nat):Prop:=∀{F:A} {w:aw} {b:Nat} {sl:Sl} {l:C} {x:Nd} {c:aJ} {d:Nat},nX aM D w F x c->(∀k,F k->k<b)->Prg w b sl l->qj l<=4000000000000->Dv x->OA x->mL x<=1048576->d+iQ x<=4000000->
 aA aq 233 #[ae (aN ⟨b,0,Pw⟩),ah c.toArray,O U (d:Int)] w λe a=>e=ak (ai #[])/\∃(sl':Sl),Prg a b sl' (eh l (F3 d x))/\qj (eh l (F3 d x))<=4000000000000/\kq b sl w sl' a
def SQ{D:Nat}(hD:W6 D){F:A}{i:aw}{b:Nat}{sl:Sl}{l:C}{x:Nd}{m:aJ}{d:Nat}(hx:nX aM (D+1) i F x m)(hF:∀k,F k->k<b)(hP:Prg i b sl l)(hl:qj l<=4000000000000)(hn:Dv x)(S:OA x)(hs:mL x<=1048576)(E:d+iQ x<=4000001):
  aA aq 183 #[ae (aN ⟨b,0,Pw⟩),ah m.toArray,O U (d:Int)] i λe w'=>e=ak (ai #[])/\∃(sl':Sl),Prg w' b sl' (eh l (Hb d x.b++qm d x.kids))/\qj (eh l (Hb d x.b++qm d x.kids))<=4000000000000/\kq b sl i sl' w':=by
 obtain⟨a,g⟩:=x;obtain⟨W,lv,mv,kids,jh,wE,N⟩:=hx;dsimp only[Nd.kids,Nd.b]at jh wE N;subst jh;have hk:=N.1;rw[Dv]at hn;rw[OA]at S;obtain⟨⟨zA,sF,v⟩,Ki⟩:=hn;obtain⟨he,P,oW⟩:=wE;rw[mL]at hs;rw[iQ]at E;unfold zl at hs;have Gx:=hP.lb;refine ret (an2 ?_);intro M w dS H n;have z0:=n.size;have z:M≠b:=J
 have r:sl.a≠aN ⟨M,0,Pw⟩:=λe=>ZA
 have Y:qI w b sl w sl l:=⟨⟨hP.only n,hl⟩,Zl _ _ _⟩
 have nF:∀k,F k->¬(k=b∨sl.a=aN ⟨k,0,Pw⟩):=λk G=>hP.ZP (hF k G);have fr:∀{c:aw} {q:Sl} {f:C},qI c b q w sl f->∀k,F k->k<i.heap.size->c.heap[k]? =i.heap[k]? :=fun{c q f} h k G bW=>(h.2.1.block k J (nF k G)).trans (n.block k bW X);have sz:∀{c:aw} {q:Sl} {f:C},qI c b q w sl f->w.heap.size<=c.heap.size:=λh=>h.2.1.size;have sm:∀{c u':aw} {q:Sl} {f:C},qI c b q w sl f->az [] c u'->cj [M] c u':=λh hO=>hO.same (by have:=sz h;simp;omega);have kA:∀{c:aw} {q s:Sl} {la:L Ac} {f:C},ly aM (uW aM) 9 227 i F s la->qI c b q w sl f->ly aM (uW aM) 9 227 c F s la:=λh p=>h.keep (dW aM) Z (fr p);have kM:∀{c:aw} {q:Sl} {f:C},qI c b q w sl f->aB (L9 aM) 13 c F mv a.mv:=λp=>(oW.keep (nJ aM) Z (fr p)).1;have kK:∀{c:aw} {q:Sl} {f:C},qI c b q w sl f->aB (nX aM D) 9 c F kids g:=λp=>(N.keep (cG aM D) Z (fr p)).1;have Kk:=iB a.en;have am:=iB a.lv;have yq:=oW.1.len;have B8:=hk.len;have aC:=nf a.mv;have FV:=qu g;have m1:qj a.en*1065080<=1048576*1065080:=fS _ J;have m2:qj a.lv*1065080<=1048576*1065080:=fS _ J;let St:C->aw->Prop:=λf c=>∃q,qI c b q w sl f
 have eT:((T a.ini).toList==((ao #[]).toList))=YR (a.ini=[]):=ji a.ini [];rw[eT];have j:∀{la:L Ac},lg la<=1048576->qj (zU la)<=3+qj la*1065080:=fun{la} h=>by
  have:=JE la h;unfold zU;rw[aZ,aP];simp only[aZ,bE];omega
 have V:=he.1.len;have Q:=P.1.len;refine⟨St (eh l (yA d a)),λw1 ⟨q1,o⟩=>⟨St (eh l (yA d a++RC d a)),λw2 ⟨q2,t⟩=>⟨St (eh l (yA d a++RC d a++Un d a)),λw3 ⟨q3,h3⟩=>?_,λhc=>?_,λhc=>⟨q2,by
  have hc:=aU hc;rw[show Un d a=[] by unfold Un;rw[K (bL J)],bC];exact t⟩⟩,λhc=>?_,λhc=>⟨q1,by
  have hc:=aU hc;rw[show RC d a=[] by unfold RC;rw[K (bL J)],bC];exact o⟩⟩,λhc=>?_,λhc=>⟨sl,by
  have hc:a.ini=[]:=Yc
  rw[show yA d a=[] by unfold yA;rw[K hc]];exact Y⟩⟩
 .refine⟨λx e c=>∃b:Nat,e=(b:Int)/\x+b=qj a.mv/\b<=qj a.mv/\St (eh l (yA d a++RC d a++Un d a++(a.mv.take b).map λT=>(d,Gq T))) c,qj a.mv,⟨0,I,J,bf _,q3,by rw[cu,iu,bC];exact h3⟩,?_⟩;rintro x _ w4 ⟨b,rfl,nQ,hj,q4,q⟩;obtain⟨⟨s,bv⟩,aT⟩:=id q;have aS:=s.buf.len;refine⟨q4,λ_=>Om s.blk 0 I,λk=>?_,λk=>?_⟩
  .rw[B]at k;have k:=u k.1;obtain⟨ad,y,m,g1,g2,g3,g4,g5,g6⟩:=(kM q).get (be b) J;rw[ba]at g2;have vd:=bp g2;have TJ:=qs vd;have FT:=g6;obtain⟨gc,tU,tg,rfl,hg,Ce,oJ⟩:=g6;obtain⟨gs,rfl⟩:=fD hg;refine⟨ad,g1,_,_,_,_,_,_,_,_,_,_,_,_,_,g5,(adS FT (v y vd) J).mono ?_⟩;rintro _ w5 ⟨rfl,ht,eJ⟩;refine⟨_,I,sm q eJ,((q.only eJ).line (d:=d) J (Gq y) J z r H).mono ?_⟩;rintro _ w6 ⟨rfl,bV,q6,h6⟩;exact⟨I,bV,x-1,J,b+1,Ye,J,J,q6,by
    rw[bn,g2,cA,<-bq,gR];exact h6⟩
  have ce:eh l (yA d a++RC d a++Un d a++(a.mv.take b).map λT=>(d,Gq T))=eh l (Hb d a):=by
   have W:Hb d a=yA d a++RC d a++Un d a++Ni d a:=by unfold Hb;simp
   rw[W];unfold Ni;by_cases y:b=qj a.mv
   .rw[y,gV]
   have co:16384<qj (eh l (yA d a++RC d a++Un d a++(a.mv.take b).map λT=>(d,Gq T))):=by
    rw[ii]at k;rcases k with h | h
    .have:=aU h;omega
    have:=aU h;omega
   conv=>rhs;rw[<-dM b a.mv,cA,<-bq,gR]
   rw[afm _ _ co]
  refine⟨λx e c=>∃b:Nat,e=(b:Int)/\x+b=qj g/\b<=qj g/\St (eh l (Hb d a++qm d (g.take b))) c,qj g,⟨0,I,J,bf _,q4,by rw[cu,qm,bC,<-ce];exact q⟩,?_⟩;rintro tS _ w7 ⟨e,rfl,Cj,hi,q7,h7⟩;obtain⟨⟨Vw,Oe⟩,cc⟩:=id h7;refine⟨λbY=>?_,λbY=>?_⟩;rotate_left
  .have bY:=aU bY;have d:e=qj g:=J
   rw[d,gV]at Vw Oe;exact⟨I,q7,Vw,Oe,(UW n).trans cc⟩
  have bY:=u bY;obtain⟨ad,y,m,g1,g2,g3,g4,g5,g6⟩:=(kK h7).get (be e) J;rw[ba]at g2;have vd:=bp g2;have TJ:=qt vd;have eQ:=ahL vd;have FT:=g6;obtain⟨D',rfl⟩:∃D',D=D'+1:=by
   cases D with
   | zero=>exact g6.elim
   | succ D'=>exact⟨D',I⟩
  obtain⟨vT,vU,rG,ju,rfl,_⟩:=g6;refine⟨ad,g1,_,_,_,_,vT,vU,rG,ju,_,g5,(hD FT hF Vw Oe (AG Ki vd) (ldP S.2 vd) J J).mono ?_⟩;rintro _ w8 ⟨rfl,q8,dO,el,cC⟩;have e8:eh (eh l (Hb d a++qm d (g.take e))) (F3 d y)=eh l (Hb d a++qm d (g.take (e+1))):=by
   rw[bn,g2];show _=eh l (Hb d a++qm d (g.take e++[y]));rw[BC];simp only[gR]
  rw[e8]at dO el;exact⟨I,cc.sm z r H cC,tS-1,J,e+1,Ye,J,J,q8,⟨dO,el⟩,cc.trans cC⟩
 .refine(FC (kA P t) sF J).mono ?_;rintro _ w9 ⟨rfl,k⟩;have y:=j (la:=a.lv) J;refine⟨_,I,sm t k,Yv,?_⟩;rw[show(ao #[108,101,97,118,101,32])=T [108,101,97,118,101,32]from rfl,fz];refine((t.only k).line (d:=d) J _ XH z r H).mono ?_;rintro _ x ⟨rfl,b,q,s⟩;refine⟨I,b,q,?_⟩;have hc:=u hc;rw[show Un d a=[(d,jm++32::zU a.lv)] by unfold Un;rw[R (λe=>by rw[e]at Q;simp at Q;omega)],gR];exact s
 .refine(FC (kA he o) zA J).mono ?_;rintro _ w9 ⟨rfl,k⟩;have y:=j (la:=a.en) J;refine⟨_,I,sm o k,Yv,?_⟩;rw[show(ao #[101,110,116,101,114,32])=T [101,110,116,101,114,32]from rfl,fz];refine((o.only k).line (d:=d) J _ XH z r H).mono ?_;rintro _ x ⟨rfl,b,q,s⟩;refine⟨I,b,q,?_⟩;have hc:=u hc;rw[show RC d a=[(d,jl++32::zU a.en)] by unfold RC;rw[R (λe=>by rw[e]at V;simp at V;omega)],gR];exact s
 refine⟨Yv,by rw[show(ao #[105,110,105,116,105,97,108,32])=T [105,110,105,116,105,97,108,32]from rfl,fz,cJ,aP];simp only[aZ,bE];omega,?_⟩;rw[show(ao #[105,110,105,116,105,97,108,32])=T [105,110,105,116,105,97,108,32]from rfl,show(ao #[59])=T [59]from rfl,fz,fz];refine(Y.line (d:=d) J _ Xn z r H).mono ?_;rintro _ k ⟨rfl,y,q,b⟩;refine⟨I,y,q,?_⟩;have hc:¬a.ini=[]:=Yc
 rw[show yA d a=[(d,fM++32::(a.ini++[59]))] by unfold yA;rw[R hc]];have e:([105,110,105,116,105,97,108,32]++a.ini++[59]:C)=fM++32::(a.ini++[59]):=by simp[fM]
 rw[e]at b;exact b
def adT{D:Nat}(hD:W6 D){F:A}{g:aw}{b:Nat}{sl:Sl}{l:C}{x:Nd}{t:aJ}{d:Nat}(B:nX aM (D+1) g F x t)(v:∀k,F k->k<b)(hP:Prg g b sl l)(hl:qj l<=4000000000000)(hn:Dv x)(N:OA x)(y:mL x<=1048576)(am:d+iQ x<=4000000):
 aA aq 233 #[ae (aN ⟨b,0,Pw⟩),ah t.toArray,O U (d:Int)] g λe j=>e=ak (ai #[])/\∃(sl':Sl),Prg j b sl' (eh l (F3 d x))/\qj (eh l (F3 d x))<=4000000000000/\kq b sl g sl' j:=by
 obtain⟨f,s⟩:=x;have P:=B;obtain⟨en,lv,mv,kids,E,wE,fN⟩:=B;dsimp only[Nd.kids,Nd.b]at E wE fN;subst E;have M:=y;rw[mL]at M;unfold zl at M;have Gx:=hP.lb;have aS:=Jb (.mk f s);refine ret (aot ?_);intro p w dS H n;have z0:=n.size;have z:p≠b:=J
 have r:sl.a≠aN ⟨p,0,Pw⟩:=λe=>ZA
 have h0:qI w b sl w sl l:=⟨⟨hP.only n,hl⟩,Zl _ _ _⟩
 have aC:1<=f.k/\f.k<=4:=by rw[OA]at N;exact N.1
 have nF:∀k,F k->¬(k=b∨sl.a=aN ⟨k,0,Pw⟩):=λk G=>hP.ZP (v k G);have i:∀{u:aw} {q:Sl} {L:C},qI u b q w sl L->L=eh l (F3 d (.mk f s))->∃(sl':Sl),Prg u b sl' (eh l (F3 d (.mk f s)))/\qj (eh l (F3 d (.mk f s)))<=4000000000000/\kq b sl g sl' u:=fun{u q L} h e=>by
  subst e;obtain⟨⟨o,a⟩,b⟩:=h;exact⟨q,o,a,(UW n).trans b⟩
 have Q:∀(a c:C),T a++T c=T (a++c):=fz;have S:(ao #[104,105,115,116,111,114,121,32])=T [104,105,115,116,111,114,121,32]:=I;have V:(ao #[32,45,62,32])=T [32,45,62,32]:=I;have W:(ao #[59])=T [59]:=I;have Y:(ao #[100,101,101,112,32])=T [100,101,101,112,32]:=I;have e5:(ao #[115,116,97,116,101,32])=T [115,116,97,116,101,32]:=I;have e6:(ao #[32,123])=T [32,123]:=I;have e7:(ao #[112,97,114,97,108,108,101,108,32])=T [112,97,114,97,108,108,101,108,32]:=I;have e8:(ao #[125])=T [125]:=I;simp only[S,V,W,Y,e5,e6,e7,e8,Q,cJ];have go:∀(m:C),qj m<=3000000000010->aA aq 181 #[ae (aN ⟨b,0,Pw⟩),O U (d:Int),ab (T m)] w λe j=>e=ak (ai #[])/\cj [p] w j/\∃sl',qI j b sl' w sl (kQ l (d,m)):=λm hm=>h0.line (d:=d) J m hm z r H;refine⟨λu=>¬gv f.k=aF/\∃q,qI u b q w sl (kQ l (d,kW f.k++32::(f.nm++[32,123]))),λw1 ⟨hh,q1,o⟩=>?_,λk3=>?_,λk3=>⟨λk4=>?_,λk4=>⟨λk1=>?_,λk1=>?_⟩⟩⟩
 .obtain⟨⟨c,V0⟩,h⟩:=o;have q:nX aM (D+1) w1 F (.mk f s) (qD f.k f.nm f.ini f.dft en lv mv kids f.a):=(cG aM _).keep P λk G bW=>(h.1.block k J (nF k G)).trans (n.block k bW X);rw[eS (x:=(d:Int)+1) J J,show(d:Int)+1=((d+1:Nat):Int) by omega];refine(SQ hD (d:=d+1) q v c V0 hn N y J).mono ?_;rintro _ w2 ⟨rfl,q2,e,xA,a⟩;have h2:qI w2 b q2 w sl _:=⟨⟨e,xA⟩,h.trans a⟩
  refine⟨I,h.sm z r H a,(h2.line (d:=d) J [125] Z z r H).mono ?_⟩;rintro _ w3 ⟨rfl,T,q3,h3⟩;refine⟨I,T,L6,i h3 ?_⟩;rw[F3,R hh];simp only[vE,gR,Nd.b,Nd.kids];rfl
 .have k3:f.k=3:=Y2
  simp only[aP,aZ,bE];refine⟨J,J,J,J,(go _ Xn).mono ?_⟩;rintro _ b ⟨rfl,a,q,h⟩;refine⟨I,a,L6,i h ?_⟩;rw[F3,K (by unfold gv;exact bG (.inl k3)),k3];show _=kQ l _;congr 2;simp[kW,wX]
 .have k4:f.k=4:=WQ
  simp only[aP,aZ,bE];refine⟨J,J,J,J,(go _ Xn).mono ?_⟩;rintro _ b ⟨rfl,a,q,h⟩;refine⟨I,a,L6,i h ?_⟩;rw[F3,K (by unfold gv;exact bG (.inr k4)),k4];show _=kQ l _;congr 2;simp[kW,L3]
 .have k1:f.k=1:=Wf
  simp only[aP,aZ,bE];refine⟨J,J,(go _ Xn).mono ?_⟩;rintro _ b ⟨rfl,a,q,h⟩;refine⟨I,a,by unfold gv;rw[k1];decide,q,?_⟩;have e:([115,116,97,116,101,32]++f.nm++[32,123]:C)=kW f.k++32::(f.nm++[32,123]):=by rw[k1];simp[kW,EN]
  rw[e]at h;exact h
 have k3:¬f.k=3:=Y2
 have k4:¬f.k=4:=WQ
 have k1:¬f.k=1:=Wf
 have k:f.k=2:=J
 simp only[aP,aZ,bE];refine⟨J,J,(go _ Xn).mono ?_⟩;rintro _ b ⟨rfl,a,q,h⟩;refine⟨I,a,by unfold gv;rw[k];decide,q,?_⟩;have e:([112,97,114,97,108,108,101,108,32]++f.nm++[32,123]:C)=kW f.k++32::(f.nm++[32,123]):=by rw[k];simp[kW,ur]
 rw[e]at h;exact h
def inb:∀D,W6 D
 | 0=>λh _ _ _ _ _ _ _=>h.elim
 | D+1=>λx F P l n N s h=>adT (inb D) x F P l n N s h
def hdM{w:aw}{F:A}{D:Nat}{c:Ch}{g:Sl}{s:aJ}(h:ChR aM (D+1) w F c g s)(i:HX c)(hs:oq c.vars+mL c.root<=1048576):
  aA aq 132 #[ah (g.v::s).toArray] w λe Q=>e=ak (ai #[ab (T (jo c).1),O U (jo c).2])/\az [] w Q:=by
 have x:=h.root;obtain⟨j,o,mv,kids,P,_⟩:=h.root;subst P;refine ret (anB ?_);intro f w0 fN dS n;have z0:=n.size;have keep:∀{b:aw},az [] w b->ChR aM (D+1) b F c g (qD c.root.b.k c.root.b.nm c.root.b.ini c.root.b.dft j o mv kids c.root.b.a):=λl=>⟨h.vars.keep ft Z λk _ W=>l.block k W X,(cG aM _).keep h.root λk _ W=>l.block k W X⟩
 have Y:qj c.root.b.nm<=mL c.root:=by
  obtain⟨v,⟨a,k⟩⟩:=c;show (qj a.nm)<=mL (.mk a k);rw[mL];unfold zl;omega
 refine(apU (keep n) i J).mono ?_;rintro _ w1 ⟨rfl,r⟩;have z1:=r.size;have t:=n.bU r;have p:∀(a c:C),T a++T c=T (a++c):=fz;have z:(ao #[99,104,97,114,116,32])=T [99,104,97,114,116,32]:=I;have E:(ao #[32,123])=T [32,123]:=I;have G:(ao #[118,97,114,32])=T [118,97,114,32]:=I;have H:(ao #[32,61,32])=T [32,61,32]:=I;have M:(ao #[59])=T [59]:=I;have N:(ao #[125])=T [125]:=I;refine⟨_,I,r.same S,λV=>⟨?_,t⟩,λV=>?_⟩
 .have V:pz c=aM:=by simpa using V
  unfold jo;rw[V];rfl
 have V:pz c=aF:=by simpa using V
 have NS:OA c.root:=by
  unfold pz at V;simp only[B]at V;exact agx 0 c.root V.1.2
 have co:16384<(qj (eh [] (F4 c)))->jo c=([],2):=λaT=>by unfold jo;rw[K V,K aT]
 have cC:¬16384<(qj (eh [] (F4 c)))->jo c=(eh [] (F4 c),0):=λaT=>by unfold jo;rw[K V,R aT]
 obtain⟨LL,bv⟩:∃LL,LL=(0,fX++32::(c.root.b.nm++[32,123]))::(c.vars.map λv=>(1,Y0 v)):=⟨_,I⟩
 have dO:F4 c=LL++(Hb 1 c.root.b++qm 1 c.root.kids)++[(0,[125])]:=by rw[bv];unfold F4;simp
 rw[z,E,N,p,p,cJ,cJ];refine⟨J,XH,λk1 w2 lm jP cP mU=>?_⟩;have z2:=cP.size;have o2:=t.bU cP;have el:Prg w2 k1 Sl.nil []:=⟨mU,.inl ⟨I,I⟩⟩
 have aC:f≠k1:=J
 have GK:(Sl.nil).a≠aN ⟨f,0,Pw⟩:=λe=>U4
 have aS:∀{b:aw} {q:Sl} {ce:C},qI b k1 q w2 Sl.nil ce->az [] w b:=λaT=>(o2.nP aT.2.1).only λk hk=>hk.elim J λe=>U4
 have h2:qI w2 k1 Sl.nil w2 Sl.nil []:=⟨⟨el,Z⟩,Zl _ _ _⟩
 have f8:=h.vars.1.len;have B4:qj c.vars<=oq c.vars:=by
  have:∀c:L Vr,qj c<=oq c:=λc=>by induction c with
   | nil=>exact bf _
   | cons a c d=>rw[oq,aZ];omega
  exact this _
 refine(h2.line (d:=0) Z _ Xn aC GK J).mono ?_;rintro _ w3 ⟨rfl,fd,q3,h3⟩;have e0:([99,104,97,114,116,32]++c.root.b.nm++[32,123]:C)=fX++32::(c.root.b.nm++[32,123]):=by simp[fX]
 rw[e0]at h3;have h3:qI w3 k1 q3 w2 Sl.nil (eh [] ((0,fX++32::(c.root.b.nm++[32,123]))::((c.vars.take 0).map λv=>(1,Y0 v)))):=h3;obtain⟨⟨eQ,f7⟩,f6⟩:=id h3;refine⟨I,fd,q3,eQ.blk,λkv f5 q b=>∃am:Nat,f5=(am:Int)/\kv+am=qj c.vars/\am<=qj c.vars/\qI b k1 q w2 Sl.nil (eh [] ((0,fX++32::(c.root.b.nm++[32,123]))::((c.vars.take am).map λv=>(1,Y0 v)))),qj c.vars,⟨0,I,J,bf _,h3⟩,?_⟩;rintro kv _ q w4 ⟨am,rfl,nQ,hj,h4⟩;obtain⟨⟨bY,cc⟩,bV⟩:=id h4;refine⟨λmQ w5 eJ wq=>?_,λmQ=>?_⟩
 .have mQ:=u mQ;have h5:=h4.only eJ;obtain⟨⟨gT,g9⟩,gG⟩:=id h5;have gO:aB Ry 3 w5 (λk=>F k/\k<w.heap.size) g c.vars:=Ic ft (WV ft h.vars.1 Z) Z λk hk W=>(aS h5).block k W X;obtain⟨ad,y,s,g1,g2,g3,g4,g5,g6⟩:=gO.get (be am) J;rw[ba]at g2;have vd:=bp g2;have TJ:=xo vd;have a:=i.1 y vd;have g6:s=[ab (T y.n),O U y.v,O U y.a]:=g6;subst g6;have gE:ad.block<w.heap.size:=g3.2;have g8:=aeO a;have kp:∀{b u':aw} {qa qb:Sl} {ce:C},qI b k1 qa w2 Sl.nil ce->kq k1 qa b qb u'->bX (λk=>k=f∨k<w.heap.size) b u':=fun{b u' qa qb ce} hp hm k hk W=>hm.1.block k W λhh=>by
   rcases hh with e | e
   .omega
   rcases hp.2.2 k e with T | T
   .cases T
   omega
  rw[G,H,M];refine⟨λk=>k=f∨k<w.heap.size,.inl I,ad,g1,.inr (by rw[oZ];exact gE),_,g5.part 0 λf5 v e=>qw e I,?_,?_,ad,g1,_,g5.part 1 λf5 v e=>qw e I,(SL w5 a).mono ?_⟩
  .rw[cJ];omega
  .rw[p,cJ,aP];simp only[aZ,bE];omega
  rintro _ w6 ⟨rfl,dV⟩;have h6:=h5.only dV;obtain⟨⟨ip,iD⟩,k⟩:=id h6;have z6:=k.1.size;have z5:=gG.1.size;refine⟨_,I,dV.same S,q,ip.blk,Uy dV,?_,?_,?_⟩
  .rw[p,p,cJ,cJ];simp only[aP,aZ,bE];omega
  .rw[p,p,p,cJ];simp only[aP,aZ,bE];omega
  rw[p,p,p,p];refine(SO ip (d:=1) Z _ Xn).mono ?_;rintro _ w7 ⟨rfl,q7,Vw,q⟩;have Oe:=agu (d:=1) (m:=[118,97,114,32]++y.n++[32,61,32]++Lib.itoa y.v++[59]) iD Z Xn;have ev:([118,97,114,32]++y.n++[32,61,32]++Lib.itoa y.v++[59]:C)=Y0 y:=by simp[Y0,zg]
  have e7:kQ (eh [] ((0,fX++32::(c.root.b.nm++[32,123]))::((c.vars.take am).map λv=>(1,Y0 v)))) (1,[118,97,114,32]++y.n++[32,61,32]++Lib.itoa y.v++[59])=eh [] ((0,fX++32::(c.root.b.nm++[32,123]))::((c.vars.take (am+1)).map λv=>(1,Y0 v))):=by
   rw[ev,bn,g2,cA];simp only[vE,gR];rfl
  rw[e7]at Vw Oe;exact⟨I,k.sm aC GK J q,q7,Vw.blk,kp h6 q,kv-1,J,am+1,Ye,J,J,⟨Vw,Oe⟩,k.trans q⟩
 have T:nX aM (D+1) w4 (λk=>F k/\k<w.heap.size) c.root (qD c.root.b.k c.root.b.nm c.root.b.ini c.root.b.dft j o mv kids c.root.b.a):=(cG aM _).keep ((cG aM _).inHeap x) λk _ W=>(aS h4).block k W X;have lT:=X4 c.root;have mQ:=aU mQ;have me:am=qj c.vars:=J
 subst me;rw[gV,<-bv]at bY cc;refine(SQ (inb D) (d:=1) T (λk hk=>LH) bY cc i.2 NS J J).mono ?_;rintro _ w8 ⟨rfl,q8,m,y,e⟩;have h8:qI w8 k1 q8 w2 Sl.nil _:=⟨⟨m,y⟩,bV.trans e⟩
 refine⟨I,bV.sm aC GK J e,q8,m.blk,(h8.line (d:=0) Z [125] Z aC GK J).mono ?_⟩;rintro _ w9 ⟨rfl,iF,q9,v⟩;have e9:kQ (eh (eh [] LL) (Hb 1 c.root.b++qm 1 c.root.kids)) (0,[125])=eh [] (F4 c):=by
  rw[dO];simp only[gR];rfl
 rw[e9]at v;obtain⟨⟨a,lE⟩,iN⟩:=id v;have iS:=a.buf.len;refine⟨I,iF,q9,a.blk,λq=>⟨?_,aS v⟩,λq=>⟨_,a.buf.bytes,?_,aS v⟩⟩
 .have q:=u q;rw[co J]
 have q:=aU q;rw[cC J]
def Gr(s:Sl)(w:aw)(a:Sl)(b:aw):Prop:=aE (λk=>s.a=aN ⟨k,0,Pw⟩) w b/\∀k,a.a=aN ⟨k,0,Pw⟩->s.a=aN ⟨k,0,Pw⟩∨w.heap.size<=k
def Gr.trans{s s' s''}{w w' wo}(h:Gr s w s' w')(k:Gr s' w' s'' wo):Gr s w s'' wo:=by
 have z:=h.1.size;refine⟨h.1.trans k.1 λx a=>?_,λx a=>?_⟩
 .rcases h.2 x a with e | e
  .exact .inl e
  exact .inr e
 rcases k.2 x a with e | e
 .exact h.2 x e
 exact .inr J
def Gr.only{s}{w w'}(h:az [] w w'):Gr s w s w':=⟨h.p0,λ_ h=>.inl h⟩
def Y9 t:∀D {w:aw} {F:A} {x:Nd} {c:aJ} {B:Nat} {s:Sl} {xs:L dC} {pa dp:Int},nX t D w F x c->(∀k,F k->k<B)->jg B w s xs->B<=w.heap.size->
  (qj xs)+iQ x<=1000000->0<=dp->dp+iQ x<=1000000->
  aA aq 86 #[s.v,ah c.toArray,O U pa,O U dp] w λe a=>∃b,e=ak (Sl.v b)/\jg B a b (xs++I9 (qj xs) pa dp x)/\Gr s w b a
 | 0,_,_,_,_,_,_,_,_,_,h,_,_,_,_,_,_=>h.elim
 | D+1,w,F,.mk d f,c,B,s,xs,pa,dp,⟨en,lv,mv,kids,V,_,N⟩,Q,hS,am,hn,h0,hd=>by
  have hk:=N.1;clear N;dsimp only[Nd.kids,Nd.b]at hk V;subst V;rw[iQ]at hn hd;have B8:=hk.len;have aC:=qn f;refine gX (anj ?_);intro o w0 N dS n;have z0:=n.size;have W:s.n=qj xs:=hS.len;have m:jg B w0 s xs:=hS.Ba n.p0 λ_ _ _ h=>h;obtain⟨y,w2,k1,k3,g,i,g1,g2,⟨gs,l,g4⟩,M⟩:=kx (P:=aq) (t:=33) (ty:=33) (e:=146) (i:=Tryz.t146) (bytes:=48) (size:=5) (r:=oV) (G:=λ_=>False) (v:=ah #[O U d.k,ab (T d.nm),O U pa,O U dp,O U 0]) (x:=⟨d.k,d.nm,pa,dp,0⟩) E E I I I I Z Z Z dj m J I I (λ_ h=>h.elim) J;have z2:=k3.size;have z3:=l.size;have rA:s.a≠aN ⟨o,0,Pw⟩:=λe=>XZ
  have m3:Gr s w g i:=by
   refine⟨(n.bU k3).nP (l.p (F:=λk=>s.a=aN ⟨k,0,Pw⟩) λq r=>.inl (g4 q r).1),λk hk=>?_⟩;rcases M with e | ⟨q,e,h⟩
   .exact .inl KN
   rw[e]at hk;injection hk with hk;injection hk with hk;exact .inr J
  have n3:∀k,g.a=aN ⟨k,0,Pw⟩->k≠o:=λk hk e=>by
   subst e;rcases M with e | ⟨k,e,h⟩
   .exact rA KN
   rw[e]at hk;injection hk with hk;injection hk with hk;omega
  have Y:jg B i g (xs++[⟨d.k,d.nm,pa,dp,0⟩]):=jg.of g2;have jG:∀{X:aw} {q:Sl},Gr s w q X->aB (nX t D) 9 X F kids f:=λhm=>U6 (cG t D) Z hk hm.1 λk yr _ h=>by
   have:=Q k yr;have:=(hS.blk h).1;dsimp only at this;omega
  refine⟨y,w2,k1,k3.same S,g,i,g1,l.same λx hx=>⟨CQ,λh=>Hf⟩,λp q R a=>∃j:Nat,R=(j:Int)/\p+j=qj f/\j<=qj f/\jg B a q (xs++⟨d.k,d.nm,pa,dp,0⟩::uA (qj xs+1) (qj xs) (dp+1) (f.take j))/\Gr s w q a/\i.heap.size<=a.heap.size/\∀k,q.a=aN ⟨k,0,Pw⟩->k≠o,qj f,⟨0,I,J,bf _,by rw[cu,uA];exact Y,m3,H _,n3⟩,?_⟩;rintro p q _ w5 ⟨j,rfl,nQ,mV,C,z,z5,K⟩;constructor
  .intro hc;have hj:j<qj f:=Zm
   obtain⟨y,hy⟩:∃y,f[j]? =aN y:=⟨_,aX hj⟩
   obtain⟨ad,y',ds,a1,B,a3,a4,a5,P⟩:=(jG z).get (be j) J;rw[ba,hy]at B;injection B with B;subst B;have Qv:=P;obtain⟨r,rfl⟩:∃r,D=r+1:=by
    cases D with
    | zero=>exact P.elim
    | succ r=>exact⟨r,I⟩
   obtain⟨vT,vU,rG,ju,rfl,_⟩:=Qv;have ru:=mH hy;have v:qj (xs++⟨d.k,d.nm,pa,dp,0⟩::uA (qj xs+1) (qj xs) (dp+1) (f.take j))=qj xs+1+dJ (f.take j):=by
    rw[aP,aZ,vF];omega
   refine⟨ad,a1,_,_,_,_,vT,vU,rG,ju,_,a5,?_⟩;rw[eS J J,W];refine(Y9 t (r+1) (pa:=((qj xs:Nat):Int)) P (s:=q) (xs:=xs++⟨d.k,d.nm,pa,dp,0⟩::uA (qj xs+1) (qj xs) (dp+1) (f.take j)) (dp:=dp+1) Q C (by have:=n.size;omega) (by rw[v];omega) J J).mono ?_;rintro _ w7 ⟨q7,rfl,T,G⟩;have z7:=G.1.size;refine⟨q7,I,G.1.same λx hx=>?_,p-1,J,j+1,Ye,J,J,?_,z.trans G,J,λk hk e=>?_⟩
   .simp only[aV]at hx;subst hx;exact⟨J,λh=>K _ h I⟩
   .have e:f.take (j+1)=f.take j++[y]:=QG
    rw[e,Ja,uA,uA,bC];rw[v,bq,cb]at T;exact T
   subst e;rcases G.2 _ hk with h | h
   .exact K _ h I
   omega
  intro hc;have me:j=qj f:=Xt
  subst me;rw[bm (H _)]at C;have T:(xs++⟨d.k,d.nm,pa,dp,0⟩::uA (qj xs+1) (qj xs) (dp+1) f)[qj xs]? =aN ⟨d.k,d.nm,pa,dp,0⟩:=by
   rw[ck (H _),pQ];rfl
  obtain⟨s,cells,P,x,y,p3,p4,p5,p6,p7⟩:=Own.ap7 dj C T;have t:P=TV ⟨d.k,d.nm,pa,dp,0⟩:=p6;subst t;have r:q.n=qj xs+1+dJ f:=by rw[C.len,aP,aZ,vF];omega
  obtain⟨G,p9⟩:=p7 4 (O U (q.n:Int)) ⟨d.k,d.nm,pa,dp,(q.n:Int)⟩ (λ_=>False) Z I λ_ h=>h.elim;rw[<-W]at y;refine⟨_,y,s,qj xs*5+4,cells,_,by rw[iK,W],p3,by rw[<-W]at G⊢;exact G,λe=>K s x e.symm,λw9 v B=>⟨q,I,?_,?_⟩⟩
  .have:=p9 w9 v B;rw[tV _ _ (H _),pQ,List.set_cons_zero]at this;rw[I9];have e:(q.n:Int)=((qj xs+1+dJ f:Nat):Int):=by rw[r]
   rw[e]at this;exact this
  refine z.trans ⟨v.p λk hk=>?_,λk hk=>.inl hk⟩;simp only[aV]at hk;subst hk;exact .inl x
def Za{w:aw}{F}{D}{c}{vs}{cs}(x:ChR aM (D+1) w F c vs cs)(m:iQ c.root<=64):
  aA aq 37 #[ah (vs.v::cs).toArray] w λe d=>(∃s,e=ak (Sl.v s)/\jg w.heap.size d s (eI c))/\az [] w d:=by
 obtain⟨g,l,mv,kids,j,_⟩:=x.root;subst j;refine gX (am0 ?_);intro i o N f n;have h:=
  (cG aM _).keep ((cG aM _).mono ((cG aM _).inHeap x.root) λk hk=>hk.2) λk _ W=>n.block k W X
 refine(Y9 aM (D+1) (B:=w.heap.size) (s:=Sl.nil) (xs:=[]) (pa:= -1) (dp:=0) h (λk hk=>hk) (Yb _ _ _ _ _ _) n.size PF Z J).mono ?_;rintro _ p ⟨b,rfl,a,G⟩;have r:=G.1.only λk hk=>IL
 exact⟨b,I,r.same S,⟨b,I,by rw[cd]at a;exact a⟩,n.bU r⟩
def BS{c}(h:(jo c).2=0):pz c=aF:=by
 unfold jo at h;by_cases a:pz c=aF
 .exact a
 rw[R a]at h;exact absurd h (by show ¬22=0;decide)
def BT{c}(a:(jo c).2=0):iQ c.root<=64:=by
 have h:=BS a;unfold pz at h;simp only[B]at h;exact(u h.2).2.2.1
def adU{w:aw}{F}{D}{c}{vs}{cs}(x:ChR aM (D+1) w F c vs cs)(g:HX c)(i:oq c.vars+mL c.root<=1048576):
  aA aq 82 #[ah (vs.v::cs).toArray] w λe d=>(∃s,e=ak (ai #[Sl.v s,O U (jo c).2])/\((jo c).2=0->jg w.heap.size d s (eI c))/\((jo c).2≠0->s=Sl.nil))/\az [] w d:=by
 obtain⟨p,v,mv,kids,j,_⟩:=x.root;subst j;refine gX (anf ?_);intro q t N m n;have keep:∀{u:aw},az [] w u->ChR aM _ u F c vs _:=λa=>⟨x.vars.keep ft Z λk _ b=>a.block k b X,(cG aM _).keep x.root λk _ b=>a.block k b X⟩
 refine(hdM (keep n) g i).mono ?_;rintro _ y ⟨rfl,r⟩;have A:=r.size;have o:=n.bU r;refine⟨_,_,I,r.same S,λhc=>⟨⟨_,I,λh=>absurd h Yc,λ_=>I⟩,o⟩,λhc=>?_⟩;have hc:=Yc
 refine(Za (keep o) (BT hc)).mono ?_;rintro _ z ⟨⟨l,rfl,f⟩,P⟩;exact⟨_,I,P.same S,⟨l,by rw[hc],λ_=>Oq f J,λh=>absurd hc h⟩,o.bU P⟩
section
variable {xs:L dC}
def Fo.deep(F:Fo xs){n:Nat}:∀(j:Nat) {i:Nat} {x y:dC},i<j->xs[i]? =aN x->xs[j]? =aN y->(n:Int)<x.en->j<=n->x.dp<y.dp
 | j,i,x,y,d,a,c,n,m=>by
  obtain⟨p,t,o,h,f,g,k,l,b⟩:=F.pa j y J c;by_cases e:i=p
  .subst e;rw[a,bP]at h;subst h;omega
  have q:i<p:=by
   refine Nat.lt_of_le_of_ne (jy λp=>?_) e;have:=b i x p d a;omega
  have:=Fo.deep F p q a h n J;omega
def wD(x:L dC)(a b:Int):M:=YR (b>=0)&&YR (b<(qj x:Int))&&YR (a>b)&&YR (a<((x[b.toNat]?).map (λs:dC=>s.en)).getD 0)
def SU{m:Nat}{x:dC}(h:xs[m]? =aN x)(n:Int):wD xs n m=YR ((m:Int)<n/\n<x.en):=by
 have:=gp h;unfold wD;rw[ba,h,fG,jw,bK];simp only[B,bF];omega
def yi{m:Nat}{x:dC}(h:xs[m]? =aN x){n:Int}(a:0<=n):mc xs m n=YR ((m:Int)<=n/\n<x.en):=by
 unfold mc yS;rw[ba,h,bK];simp only[B,bF];omega
def PM(F:Fo xs)(a b:Int)(c:b<qj xs):wD xs a b=rX xs a b:=by
 by_cases h:0<=b
 .obtain⟨m,rfl⟩:∃m:Nat,b=m:=⟨b.toNat,J⟩
  obtain⟨x,d⟩:=fE (xs:=xs) (i:=m) J;rw[SU d];unfold rX;by_cases e:0<=a
  .rw[yi d e,bK];simp only[B,bF];omega
  have:mc xs m a=aM:=by unfold mc;rw[bD J,cR]
  rw[this,ga,bD J]
 unfold wD rX mc;simp only[bD (by omega:¬b>=0),bD (by omega:¬(0<=b/\0<=a)),cR,ga]
def aiW(F:Fo xs){n:Int}(b:0<=n){m:Nat}(a:m<qj xs):(wD xs n m||(n==(m:Int)))=mc xs m n:=by
 obtain⟨x,h⟩:=fE (xs:=xs) (i:=m) a;have:=(F.up m x h).1;rw[SU h,yi h b,bK];simp only[cy,bF,dr];omega
def af5(F:Fo xs){a:Int}(h:0<=a){j m:Nat}{x y:dC}(b:xs[j]? =aN x)(c:xs[m]? =aN y)(f:j<m)(d:mc xs j a=aF)(e:mc xs m a=aF):x.dp<y.dp:=by
 rw[yi b h,cx]at d;rw[yi c h,cx]at e;exact F.deep (n:=a.toNat) m f b c J J
end
section
variable {w w':aw} {F G:A} {sl sN:Sl} {xs:L dC}
def ap0{B:Nat}{w:aw}{s:Sl}{x:L Int}(h:cY B w s x):aB rInt 1 w (λk=>B<=k) s x:=(h.slice bO).mono bO λk hk=>hk.elim (λh=>h.elim) λh=>h.1
def JG{w:aw}{F:A}{s:Sl}{l:L Int}(h:aB rInt 1 w F s l){i:Nat}{x:Int}(a:l[i]? =aN x):∃ad,cK s (i:Int) 1 ad/\aD w ad [O U x]:=by
 have W:=(bc.1 a).1;have k:=h.len;obtain⟨ad,y,e,b,g,f,j,c,d⟩:=h.get (be i) J;rw[ba,a]at g;injection g with g;subst g;obtain⟨rfl,_⟩:=d;exact⟨ad,b,c⟩
def DI(w:aw)(k:Int):aA aq 109 #[O U k] w λe w'=>e=ak (aj (gv k))/\w'=w:=by
 refine ret (anq ?_);exact⟨by unfold gv;congr 1;rw[bK];simp,I⟩
def vO(a:aB oV 5 w F sl xs)(n:C):aA aq 39 #[sl.v,ab (T n)] w λe w'=>e=ak (O U (gj xs n))/\w'=w:=by
 refine ret (am2 ?_);have l:=a.len;have d:=a.cap;have D:=a.big;refine⟨λk i c=>∃j:Nat,i=(j:Int)/\k+j=qj xs/\j<=qj xs/\(∀y,y∈xs.take j->y.nm≠n)/\w=c,qj xs,⟨0,I,J,bf _,X,I⟩,?_⟩;rintro k _ _ ⟨j,rfl,Q,f,b,rfl⟩;refine⟨λh=>?_,λh=>?_⟩
 .have h:=u h;obtain⟨x,m⟩:=fE (xs:=xs) (i:=j) J;obtain⟨ad,n,o,_⟩:=iP a m;refine⟨ad,n,_,o.dP 1 _ I,λg=>?_,λg=>⟨k-1,J,j+1,Ye,J,J,λy e=>?_,I⟩⟩
  .rw[ji]at g;rw[zn m b (u g)];exact⟨I,I⟩
  rw[ji]at g;rw[bn,m,bQ]at e;rcases e with e | e
  .exact b y e
  simp only[Option.toList,aV]at e;subst e;exact aU g
 have h:=aU h;rw[bm J]at b;refine⟨?_,I⟩;rcases jt xs n with⟨e,_⟩ | ⟨i,x,_,g,e⟩
 .rw[e]
 exact absurd e (b x (bp g))
def BU(h:aB oV 5 w F sl xs)(a b:Int):aA aq 54 #[sl.v,O U a,O U b] w λe w'=>e=ak (aj (wD xs a b))/\w'=w:=by
 refine ret (am9 ?_);unfold afw wD;rw[h.len];by_cases c:((YR (b>=0)&&YR (b<(qj xs:Int)))&&YR (a>b))=aF
 .have X:=c;simp only[B]at X;have f:=u X.1.1;have g:=u X.1.2;obtain⟨i,rfl⟩:∃i:Nat,b=i:=⟨b.toNat,J⟩
  obtain⟨y,a⟩:=fE (xs:=xs) (i:=i) J;obtain⟨ad,d,_,_,_,e⟩:=iP h a;refine⟨ad,λ_=>d,y.en,λ_=>e,?_,I⟩;rw[ba,a];rfl
 refine⟨⟨0,0,Pw⟩,λh=>absurd h c,0,λh=>absurd h c,?_,I⟩;rw[pN]at c;rw[c,cR,cR]
def adV(d:aB oV 5 w F sl xs)(l:Fo xs)(A:qj xs<=1000){a b:Int}(N:aB rInt 1 w G sN [a,b])(p:vG xs a)(q:vG xs b):
  aA aq 236 #[sl.v,sN.v] w λe w'=>e=ak (O U (yQ xs a b))/\az [] w w':=by
 refine ret (aow ?_);have s:=d.len;have r:sN.n=2:=N.len;have j:=p.1;have D:=q.1;have k:∀{c:aw},az [] w c->aB oV 5 c F sl xs:=λh=>Wg dj Z d h X;have kN:∀{c:aw},az [] w c->aB rInt 1 c G sN [a,b]:=λh=>Wg bO Z N h X;refine⟨λv g i c=>∃m:Nat,i=(m:Int)/\v+m=qj xs/\m<=qj xs/\az [] w c/\g=Ar xs a b m,qj xs,⟨0,I,J,bf _,Ib _ _,I⟩,?_⟩;rintro v _ _ o ⟨m,rfl,Q,C,h,rfl⟩;refine⟨λf=>?_,λf=>?_⟩
 .rw[B]at f;have P:=u f.1;obtain⟨x,F⟩:=fE (xs:=xs) (i:=m) J;refine⟨λE c=>E=Ar xs a b (m+1)/\az [] w c,λE c ⟨H,L⟩=>⟨v-1,J,m+1,Ye,J,J,L,H⟩,λS al i c=>∃t:Nat,i=(t:Int)/\S+t=2/\t<=2/\al=(([a,b].take t).all λn=>mc xs m n)/\o=c,2,⟨0,I,J,bf _,I,I⟩,?_⟩;rintro S _ _ _ ⟨t,rfl,M,T,rfl,rfl⟩;refine⟨λG=>?_,λG=>?_⟩
  .have G:=u G;obtain⟨ad,y,z,b,a,V,W,e,n⟩:=(kN h).get (be t) J;obtain⟨rfl,_⟩:=n;rw[ba]at a;have x:0<=y:=by
    have:=bp a;simp only[bh,bI,cO]at this;omega
   refine⟨ad,b,y,e,(BU (k h) y m).mono ?_⟩;rintro _ c ⟨rfl,w⟩;obtain rfl:o=c:=w.symm;refine⟨_,I,ad,λ_ _=>b,y,λ_ _=>e,S-1,J,t+1,Ye,J,J,?_,I⟩;rw[bn,a,iw,aiW l x J];simp
  have G:=aU G;have ht:t=2:=J
  subst ht;have y:([a,b].take 2).all (λn=>mc xs m n)=(mc xs m a&&mc xs m b):=X
  rw[y];have w:Ar xs a b (m+1)=if(mc xs m a&&mc xs m b)=aF then(m:Int)else Ar xs a b m:=I
  obtain⟨ad,V,_,_,W,_⟩:=iP (k h) F;rcases uC (xs:=xs) a b m with⟨e,_⟩ | ⟨am,e,Y,mQ,_⟩
  .rw[e]at w⊢;refine⟨ad,λ_ d=>absurd d Z,0,λ_ d=>absurd d Z,ad,λ_ d=>absurd d Z,0,λ_ d=>absurd d Z,λhq n a=>⟨?_,h.bU a⟩,λhq t b=>⟨?_,h.bU b⟩⟩
   .rw[w,K JH]
   rw[w,R JH]
  obtain⟨z,a⟩:=fE (xs:=xs) (i:=am) J;obtain⟨yI,b,_,_,n,_⟩:=iP (k h) a;rw[e]at w⊢;refine⟨ad,λ_ _=>V,_,λ_ _=>W,yI,λ_ _=>b,_,λ_ _=>n,λhq w4 t=>⟨?_,h.bU t⟩,λhq w5 h5=>⟨?_,h.bU h5⟩⟩
  .rw[w,K];rw[B]at hq;exact hq.1
  rw[w,R];intro e;have:=af5 l j a F Y (B _ _▸mQ).1 (B _ _▸e).1;rw[e,bG (show x.dp>z.dp from this)]at hq;simp at hq
 refine⟨?_,h⟩;have:m=qj xs:=by
  rw[ii]at f;rcases f with f | f
  .have:=aU f;omega
  have:=aU f;omega
 rw[this];rfl
end
end Go.Proofs.YtdfibecibkijiaaGreatDoor.Con
namespace Go.Proofs.YtdfibecibkijiaaGreatDoor.Con
open Go Go.RowKit Go.Kt Go.Kt.V Go.Proofs.YtdfibecibkijiaaGreatDoor.Vc
section
variable {xs:L dC} {ro:L Ro} {act:L Int} {may:L M}
def sQ(x:L dC)(r:L Ro)(m:L M)(out:L Int)(leaf:Int):L Int:=if lj x r m leaf<0∨lj x r m leaf∈out then out else out++[lj x r m leaf]
def CH(x:L dC)(r:L Ro)(act:L Int)(g:L Int)(k:Int):L Int:=if(g.any λo=>fY x r act k o&&!mS x r k o)=aF then g else(g.filter λo=>!fY x r act k o)++[k]
def FD:∀(l A G:L Int),∃m,l.foldl (sQ xs ro may) A=A++m/\l.foldl (Pu xs ro act may) (A,G)=(A++m,m.foldl (CH xs ro act) G)
 | [],A,G=>⟨[],X,X⟩
 | x::l,A,G=>by
  rw[qV,qV];by_cases h:lj xs ro may x<0∨lj xs ro may x∈A
  .have e:sQ xs ro may A x=A:=K h;have a:Pu xs ro act may (A,G) x=(A,G):=K h;rw[e,a];exact FD l A G
  have e:sQ xs ro may A x=A++[lj xs ro may x]:=R h;have a:Pu xs ro act may (A,G) x=(A++[lj xs ro may x],CH xs ro act G (lj xs ro may x)):=R h;obtain⟨m,b,c⟩:=FD l (A++[lj xs ro may x]) (CH xs ro act G (lj xs ro may x));exact⟨lj xs ro may x::m,by rw[e,b];simp,by rw[a,c];simp⟩
def aeD:pZ xs ro act may=((Hm xs act).foldl (sQ xs ro may) []).foldl (CH xs ro act) []:=by
 obtain⟨m,h,a⟩:=FD (xs:=xs) (ro:=ro) (act:=act) (may:=may) (Hm xs act) [] [];unfold pZ;rw[a,h];simp
def Nn{l A:L Int}:qj (l.foldl (sQ xs ro may) A)<=qj A+qj l:=by
 induction l generalizing A with
 | nil=>exact H _
 | cons x l i=>
  rw[qV,aZ];refine bB i ?_;unfold sQ;split
  .omega
  rw[aP,bA];omega
def adW(g:L Int)(k:Int):qj (CH xs ro act g k)<=qj g+1:=by
 unfold CH;split
 .omega
 have:=cH (λo=>!fY xs ro act k o) g;rw[aP,bA];omega
def aew{l g:L Int}:qj (l.foldl (CH xs ro act) g)<=qj g+qj l:=by
 induction l generalizing g with
 | nil=>exact H _
 | cons x l i=>
  rw[qV,aZ];have:=adW (xs:=xs) (ro:=ro) (act:=act) g x;exact bB i J
def adG(a b:Int):fY xs ro act a b=fY xs ro act b a:=by
 rw[bK];unfold fY;simp only[gr,bF];exact⟨λ⟨x,h,c⟩=>⟨x,c,h⟩,λ⟨x,h,c⟩=>⟨x,c,h⟩⟩
def CI(x:L dC)(r:L Ro)(act s:L Int)(n:Nat):M:=s.any λk=>YR ((n:Int)∈fR x r act k)
def abJ{k x:Int}(h:x∈fR xs ro act k):x∈act:=by
 unfold fR at h;split at h
 .cases h
 split at h
 .split at h
  .cases h
  exact(jb.1 h).1
 cases h
def adX(h:∀x,x∈act->∃k:Nat,x=k/\k<qj xs)(s:L Int):Fq (s.flatMap (fR xs ro act))=MA (qj xs) (CI xs ro act s):=by
 refine Fe (Ht) (MB) λx=>?_;rw[Fs,Cm,DA];unfold CI;simp only[gr,bF];constructor
 .rintro⟨k,b,a⟩;obtain⟨n,rfl,c⟩:=h x (abJ a);exact⟨n,I,c,k,b,a⟩
 rintro⟨n,rfl,_,k,a,b⟩;exact⟨k,a,b⟩
def BW(s:L dC)(r:L Ro)(act:L Int)(k:Int):L Int:=if k<0 then[]else match r[k.toNat]? with
 | some a=>act.filter λx=>wD s x a.dom
 | none=>[]
def rSl(F:Fo xs)(hd:∀r,r∈ro->r.dom<qj xs)(k:Int):BW xs ro act k=fR xs ro act k:=by
 unfold BW fR;split
 .rfl
 rcases h:ro[k.toNat]? with _|r
 .rfl
 have a:=hd r (bp h);dsimp only;have e:(λx=>wD xs x r.dom)=λx=>rX xs x r.dom:=by
  funext x;exact PM F x r.dom a
 rw[e];split
 .rename_i b;refine List.filter_eq_nil_iff.2 λx _ h=>?_;obtain⟨i,j,e,_⟩:=Ax.1 h;omega
 rfl
end
def jK(s:Sl)(k:Nat):Prop:=s.a=aN ⟨k,0,Pw⟩
def lnT{w}{F}{s}{l}(h:aB rInt 1 w F s l) c:
  aA aq 94 #[Sl.v s,O U c] w λe b=>∃i,e=ak (O U i)/\YR (i>=0)=YR (c∈l)/\az [] w b:=by
 refine gX (anm ?_);have g:=h.len;have H:=h.big;have k:=h.cap;refine⟨λv i b=>∃n,n<=qj l/\i=n/\v=(qj l)-n/\(∀x,x∈l.take n->x≠c)/\b=w,qj l,⟨0,bf _,I,I,X,I⟩,?_⟩;rintro v _ f ⟨n,j,rfl,rfl,p,d⟩;obtain rfl:w=f:=d.symm;refine⟨λa=>?_,λa=>?_⟩
 .have W:=u a;have G:n<qj l:=J
  obtain⟨ad,c,m⟩:=gW h (aX G);refine⟨ad,c,_,m,λhe=>⟨_,I,?_,Ib _ _⟩,λhe=>⟨(qj l)-_,J,n+1,J,Ye,I,?_,I⟩⟩
  .have he:=UB
   rw[bG J];symm;rw[cx,he];exact gU G
  have he:=UB
  intro y l;rw[bn,aX G]at l;simp only[jz,bQ,aV]at l;rcases l with l | rfl
  .exact p y l
  exact λe=>he e.symm
 have l:=aU a;rw[bm J]at p;exact⟨_,I,(bD λe=>p c e I).symm,Ib _ _⟩
def xv{w}{F}{s}{l}(h:aB rInt 1 w F s l) c:
  aA aq 45 #[Sl.v s,O U c] w λe d=>e=ak (aj (YR (c∈l)))/\az [] w d:=by
 refine ret (am6 ?_);refine(lnT h c).mono ?_;rintro _ f ⟨b,rfl,i,a⟩;exact⟨b,I,by rw[i],a⟩
def Np u {a} (h:qO a):∃y b,(av 31 1 #[.mk 0 (O U a)]).run aq u=.ok (Sl.v y) b/\az [] u b/\cY u.heap.size b y [a]:=by
 obtain⟨y,b,k,c,k3,_⟩:=iU (P:=aq) (t:=31) (e:=3) (i:=Tryz.t3) (z:=O U 0) (w:=u) (F:=λ_=>False) (vs:=[O U a]) (parts:=#[.mk 0 _]) (len:=1) (xs:=[a]) (r:=rInt) (size:=1) E E I I Z I I Z Z bO ⟨⟨I,I,h⟩,trivial⟩;exact⟨y,b,k,k3,c⟩
def HE{A}{u}{s y}{is js}{G}(j:cY A u s is)(l:A<=u.heap.size)(o:aB rInt 1 u G y js)(m:∀k,G k->¬jK s k)(q:qj is+qj js<=1000000000):
  ∃a w,(Builtin.append_ #[31,31] 31 #[Sl.v s,Sl.v y]).run aq u=.ok (Sl.v a) w/\cY A w a (is++js)/\aE (jK s) u w/\∀k,jK a k->jK s k∨u.heap.size<=k:=by
 obtain⟨a,w,b,c,p,d,f,h⟩:=tf (P:=aq) (t:=31) (ty:=31) (e:=3) (i:=Tryz.t3) (bytes:=8) (size:=1) (r:=rInt) (F:=λ_=>True) (y:=y) (ys:=js) E E I I I I bO (j.mono bO λk hk=>trivial) (o.mono bO λk hk=>⟨trivial,m k hk⟩) l J Z;refine⟨a,w,b,YZ c,d.p λg n=>.inl (f g n).1,λk hk=>?_⟩;unfold jK at hk⊢;rcases h with e | e
 .exact .inl KN
 rw[e]at hk;injection hk with hk;injection hk with hk;exact .inr J
def UU{A}{u}{s}{is}(h:cY A u s is)(m:A<=u.heap.size){n}(p:qO n)(B:qj is<=20000000):
  ∃y w,(av 31 1 #[.mk 0 (O U n)]).run aq u=.ok (Sl.v y) w/\az [] u w/\∃a b,(Builtin.append_ #[31,31] 31 #[Sl.v s,Sl.v y]).run aq w=.ok (Sl.v a) b/\cY A b a (is++[n])/\aE (jK s) w b/\∀k,jK a k->jK s k∨u.heap.size<=k:=by
 obtain⟨y,w,q,k3,a,b,c,d,⟨z,f,j⟩,l⟩:=kx (P:=aq) (t:=31) (ty:=31) (e:=3) (i:=Tryz.t3) (bytes:=8) (size:=1) (r:=rInt) (G:=λ_=>False) (v:=O U n) (x:=n) E E I I I I Z Z Z bO h m I ⟨I,p⟩ (λ_ h=>h.elim) J;refine⟨y,w,q,k3,a,b,c,YZ d,f.p λg o=>.inl (j g o).1,λk hk=>?_⟩;unfold jK at hk⊢;rcases l with e | ⟨g,e,h⟩
 .exact .inl KN
 rw[e]at hk;injection hk with hk;injection hk with hk;exact .inr J
section
variable {w w':aw} {F G:A} {s:Sl} {xs:L dC} {b:Nat} {ty:TypeId} {x1 x2 x3:ay}
def Zc(B:aG w b ty [s.v,x1,x2,x3])(a:aB oV 5 w F s xs) n:aA aq 80 #[ae (aN ⟨b,0,Pw⟩),ab (T n)] w λe w'=>e=ak (O U (n9 xs n))/\az [] w w':=by
 refine ret (au1 ?_);rw[ji n []];refine⟨λh=>⟨?_,Ib _ _⟩,λh=>⟨s,Om B 0 I,(aiA a n).mono ?_⟩⟩
 .unfold n9;rw[K (u h)]
 rintro _ w ⟨rfl,O⟩;exact⟨_,I,by unfold n9;rw[R (aU h)],O⟩
def blb xs n:n9 xs n= -1∨∃j:Nat,n9 xs n=j/\j<qj xs:=by
 unfold n9;split
 .exact .inl I
 exact Fg xs n
def ajn(B:aG w b ty [s.v,x1,x2,x3])(h:aB oV 5 w F s xs)(f:Fo xs)(H:qj xs<=1000000){sT}{tg}(T:aB rInt 1 w G sT tg)(m:qj tg<=20000000){a:Nat}(g:a<=1000000):
  aA aq 81 #[ae (aN ⟨b,0,Pw⟩),O U a,sT.v] w λe w'=>e=ak (O U (BA xs a tg))/\az [] w w':=by
 refine ret (au2 ?_);have l:=T.len;refine⟨λhc=>⟨?_,Ib _ _⟩,λhc=>?_⟩
 .have hc:=Yc
  have:tg=[]:=bL J;unfold BA;rw[K this]
 have hc:=Yc
 have F:tg≠[]:=λe=>hc (by rw[e]at l;simp at l;omega);obtain⟨y,M,L,k3,o⟩:=Np w (a:=a) ⟨J,J⟩;have j:=kI (WV bO T Z) k3;obtain⟨q,t,C,i,D,_⟩:=HE o k3.size j (λk hk e=>by have:=(o.blk e).1;dsimp only at this;omega) TX;have p:=(k3.nP (D.mono (G:=λk=>w.heap.size<=k) λk _ e=>by have:=(o.blk e).1;exact this)).only λk hk=>hk;refine⟨y,M,L,q,t,C,s,Om (p.blk B X) 0 I,(acN (Wg dj Z h p X) f (i.slice bO)).mono ?_⟩;rintro _ N ⟨⟨z,rfl,E⟩,P⟩;have r:=f.aqc E;have A:[(a:Int)]++tg=(a:Int)::tg:=I;rw[A]at r i;have V:z<qj xs:=by
  rw[r];unfold Zs;split
  .omega
  rcases xi xs ((a:Int)::tg) (qj xs) with⟨c,_⟩ | _<;>omega
 refine⟨z,I,λv d b=>Gs xs ((a:Int)::tg) v d=BA xs a tg/\d<qj xs/\d<=v/\az [] w b/\az [] t b,qj xs,⟨?_,V,J,p.bU P,P⟩,?_⟩
 .unfold BA;rw[R F,r]
 rintro v d Q ⟨hd,G,y,k,q⟩;refine⟨λc b=>c=YR (0<d/\(ke xs d≠1∨d∈(a:Int)::tg))/\az [] w b/\az [] t b,?_,λe=>?_,λe=>?_⟩
 .rintro _ S ⟨rfl,c,w⟩;refine⟨λa=>?_,λa=>⟨?_,c⟩⟩
  .have a:=u a;obtain⟨W,rfl⟩:∃W:Nat,d=W:=⟨d.toNat,J⟩
   obtain⟨x,Y⟩:=fE (xs:=xs) (i:=W) J;obtain⟨ad,a1,_,a3,_⟩:=iP (Wg dj Z h c X) Y;have hp:=f.yT Y;obtain⟨n,rfl⟩:∃n,v=n+1:=⟨v-1,J⟩
   refine⟨s,Om (c.blk B X) 0 I,ad,a1,x.pa,a3,n,J,?_,J,J,c,w⟩;rw[Gs,K a,jZ Y]at hd;exact hd
  rw[<-hd];cases v with
  | zero=>rfl
  | succ n=>rw[Gs,R (aU a)]
 .have e:=u e;obtain⟨a,rfl⟩:∃a:Nat,d=a:=⟨d.toNat,J⟩
  obtain⟨x,c⟩:=fE (xs:=xs) (i:=a) J;obtain⟨ad,n,w,_⟩:=iP (Wg dj Z h k X) c;refine⟨s,Om (k.blk B X) 0 I,ad,n,x.k,w.dP 0 _ I,λhk=>⟨?_,k,q⟩,λhk=>(xv (kI (i.slice bO) q) _).mono ?_⟩
  .have hk:=WH
   exact(bG ⟨e,.inl (by rw[fJ c];exact hk)⟩).symm
  rintro _ x ⟨rfl,d⟩;refine⟨_,I,?_,k.bU d,q.bU d⟩;rw[mN,fJ c];exact⟨λh=>⟨e,.inr h⟩,λh=>h.2.resolve_left λs=>s WH⟩
 have e:=aU e;exact⟨(bD λh=>e h.1).symm,k,q⟩
end
def UX(w:aw)(F:A)(t i:Nat)(s:Sl):Prop:=s.n=0∨∃g c,s.a=aN ⟨g,0,Pw⟩/\aG w g t c/\s.n*i<=qj c/\F g
def _root_.Go.Kt.Own.roC{a:Type}{r:Rp a}{i e B:Nat}{w:aw}{F G:A}{s:Sl}{x:L a}(b:Own r i e B w F s x)(k:∀g,s.a=aN ⟨g,0,Pw⟩->G g):UX w G e i s:=by
 rcases b with⟨rfl,_⟩ | ⟨g,c,tail,h,_,d,_,f,_,_,j⟩
 .exact .inl I
 exact .inr ⟨g,_,h,d,by rw[aP,j.NB,f];omega,k g h⟩
def UX.keep{w w':aw}{F:A}{t i:Nat}{s:Sl}(h:UX w F t i s)(hk:∀k,F k->k<w.heap.size->w'.heap[k]? =w.heap[k]?):UX w' F t i s:=by
 rcases h with h | ⟨g,c,d,a,e,b⟩
 .exact .inl h
 exact .inr ⟨g,c,d,(hk g b a.lt).trans a,e,b⟩
def UX.imp{w:aw}{F G:A}{t i:Nat}{s:Sl}(h:UX w F t i s)(hk:∀k,F k->k<w.heap.size->G k):UX w G t i s:=by
 rcases h with h | ⟨g,c,b,a,d,e⟩
 .exact .inl h
 exact .inr ⟨g,c,b,a,d,hk g e a.lt⟩
def rRo:Rp Ro:=λw F x c=>∃t,c=[O U x.src,O U x.slot,O U x.k,ab (T x.ev),O U x.wt,t.v,O U x.dom]/\aB rInt 1 w F t x.tg/\UX w F 3 1 t
def jp:rRo.Ok where
 keep:=by
  rintro w e F x c ⟨d,h,a,b⟩ hk;exact⟨d,h,a.keep bO Z hk,b.keep hk⟩
 inHeap:=by
  rintro w F x c ⟨d,h,a,b⟩;exact⟨d,h,a.inHeap bO Z,b.imp λk hk l=>⟨hk,l⟩⟩
 mono:=by
  rintro w F G x s ⟨d,a,b,c⟩ hk;exact⟨d,a,b.mono bO hk,c.imp λk h _=>hk k h⟩
 one:=by
  rintro w F x c ⟨d,rfl,_⟩ v h;simp at h;rcases h with rfl | rfl | rfl | rfl | rfl | rfl | rfl<;>rfl
def Q3(a c d:Sl)(k:Nat):Prop:=jK a k∨jK c k∨jK d k
structure Lb (w:aw) (b:Nat) (F:A) (s si sd sr:Sl) (xs:List dC) (ini dft:List Int) (ro:List Ro):Prop where
 sp:aB oV 5 w F s xs
 hF:∀k,F k->k<w.heap.size/\k≠b/\¬Q3 si sd sr k
 i:cY (b+1) w si ini
 d:cY (b+1) w sd dft
 r:Own rRo 7 84 (b+1) w (λk=>b<k/\¬jK si k/\¬jK sd k) sr ro
 ap:∀k,jK si k->¬jK sd k/\¬jK sr k
 ap2:∀k,jK sd k->¬jK sr k
structure La (w:aw) (b:Nat) (F:A) (s si sd sr:Sl) (xs:List dC) (ini dft:List Int) (ro:List Ro):Prop extends Lb w b F s si sd sr xs ini dft ro where
 blk:aG w b 70 [s.v,si.v,sd.v,sr.v]
section
variable {w w':aw} {F:A} {s si sd sr:Sl} {xs:L dC} {b:Nat} {ini dft:L Int} {ro:L Ro}
def La.lt(h:La w b F s si sd sr xs ini dft ro):b<w.heap.size:=h.blk.lt
def Lb.bi(h:Lb w b F s si sd sr xs ini dft ro):∀k,jK si k->b<k/\k<w.heap.size:=λk e=>by have:=h.i.blk e;dsimp only at this;omega
def Lb.bd(h:Lb w b F s si sd sr xs ini dft ro):∀k,jK sd k->b<k/\k<w.heap.size:=λk e=>by have:=h.d.blk e;dsimp only at this;omega
def Lb.br(h:Lb w b F s si sd sr xs ini dft ro):∀k,jK sr k->b<k/\k<w.heap.size:=λk e=>by have:=h.r.blk e;dsimp only at this;omega
def Lb.o0(h:Lb w b F s si sd sr xs ini dft ro)(O:az [] w w'):Lb w' b F s si sd sr xs ini dft ro:=
 ⟨Wg dj Z h.sp O X,λk hk=>⟨cq (h.hF k hk).1 O.size,(h.hF k hk).2⟩,h.i.keep bO λk _ W=>O.block k W X,h.d.keep bO λk _ W=>O.block k W X,h.r.keep jp λk _ W=>O.block k W X,h.ap,h.ap2⟩
def La.o0(h:La w b F s si sd sr xs ini dft ro)(O:az [] w w'):La w' b F s si sd sr xs ini dft ro:=⟨h.toLb.o0 O,O.blk h.blk X⟩
def Lb.aes(h:Lb w b F s si sd sr xs ini dft ro){n}(t:qO n)(W:b<w.heap.size)(r:qj ini<=20000000):
  ∃y a,(av 31 1 #[.mk 0 (O U n)]).run aq w=.ok (Sl.v y) a/\az [] w a/\∃c d,(Builtin.append_ #[31,31] 31 #[Sl.v si,Sl.v y]).run aq a=.ok (Sl.v c) d/\aE (jK si) a d/\(∀k,jK c k->jK si k∨w.heap.size<=k)/\
   ∀f,az [b] d f->Lb f b F s c sd sr xs (ini++[n]) dft ro:=by
 obtain⟨y,a,v,k3,c,d,m,o,i,g⟩:=UU h.i J t r;have z:=k3.size;have x:=i.size;refine⟨y,a,v,k3,c,d,m,i,g,λf hO=>?_⟩;have hk:∀k,k<w.heap.size->k≠b->¬jK si k->f.heap[k]? =w.heap[k]? :=λk p h2 q=>by
  rw[hO.block k J UD,i.block k J q,k3.block k p X]
 refine⟨h.sp.keep dj Z λk yr l=>hk k l (h.hF k yr).2.1 λe=>(h.hF k yr).2.2 (.inl e),λk yr=>⟨M7,(h.hF k yr).2.1,λu=>u.elim (λe=>(g k e).elim (λe=>(h.hF k yr).2.2 (.inl e)) λe=>Rq) λe=>(h.hF k yr).2.2 (.inr e)⟩,o.keep bO λk j l=>hO.block k l (by have:=j.resolve_left id;simp;omega),h.d.keep bO λk j l=>?_,((h.r.inHeap jp).keep jp λk j l=>?_).mono jp λk j=>⟨j.1.1,λe=>?_,j.1.2.2⟩,λk e=>?_,h.ap2⟩
 .have:=j.resolve_left id;exact hk k l J λe=>(h.ap k e).1 this.2
 .rcases j with j | j
  .exact hk k l (by have:=j.1.1;omega) j.1.2.1
  exact hk k l J λe=>(h.ap k e).2 j.2
 .rcases g k e with e | e
  .exact j.1.2.1 e
  have:=j.2;omega
 rcases g k e with e | e
 .exact h.ap k e
 exact⟨λe=>by have:=h.bd k e;omega,λe=>by have:=h.br k e;omega⟩
def La.aes(h:La w b F s si sd sr xs ini dft ro){n}(p:qO n)(o:qj ini<=20000000):
  ∃y c,(av 31 1 #[.mk 0 (O U n)]).run aq w=.ok (Sl.v y) c/\az [] w c/\∃a d,(Builtin.append_ #[31,31] 31 #[Sl.v si,Sl.v y]).run aq c=.ok (Sl.v a) d/\aE (jK si) c d/\(∀k,jK a k->jK si k∨w.heap.size<=k)/\aG d b 70 [s.v,si.v,sd.v,sr.v]/\
   ∀f,az [b] d f->aG f b 70 [s.v,a.v,sd.v,sr.v]->La f b F s a sd sr xs (ini++[n]) dft ro:=by
 obtain⟨y,c,q,k3,a,d,i,g,j,l⟩:=h.toLb.aes p h.lt o;exact⟨y,c,q,k3,a,d,i,g,j,g.blk (k3.blk h.blk X) λe=>by have:=h.bi b e;omega,λf m B=>⟨l f m,B⟩⟩
def Lb.aet(h:Lb w b F s si sd sr xs ini dft ro){n}(v:qO n)(W:b<w.heap.size)(u:qj dft<=20000000):
  ∃y c,(av 31 1 #[.mk 0 (O U n)]).run aq w=.ok (Sl.v y) c/\az [] w c/\∃d f,(Builtin.append_ #[31,31] 31 #[Sl.v sd,Sl.v y]).run aq c=.ok (Sl.v d) f/\aE (jK sd) c f/\(∀k,jK d k->jK sd k∨w.heap.size<=k)/\
   ∀i,az [b] f i->Lb i b F s si d sr xs ini (dft++[n]) ro:=by
 obtain⟨y,c,x,k3,d,f,o,p,m,g⟩:=UU h.d J v u;have z:=k3.size;have A:=m.size;refine⟨y,c,x,k3,d,f,o,m,g,λi hO=>?_⟩;have hk:∀k,k<w.heap.size->k≠b->¬jK sd k->i.heap[k]? =w.heap[k]? :=λk r h2 t=>by
  rw[hO.block k J UD,m.block k J t,k3.block k r X]
 refine⟨h.sp.keep dj Z λk yr l=>hk k l (h.hF k yr).2.1 λe=>(h.hF k yr).2.2 (.inr (.inl e)),λk yr=>⟨M7,(h.hF k yr).2.1,λq=>q.elim (λe=>(h.hF k yr).2.2 (.inl e)) λq=>q.elim (λe=>(g k e).elim (λe=>(h.hF k yr).2.2 (.inr (.inl e))) λe=>Rq) λe=>(h.hF k yr).2.2 (.inr (.inr e))⟩,h.i.keep bO λk j l=>?_,p.keep bO λk j l=>hO.block k l (by have:=j.resolve_left id;simp;omega),((h.r.inHeap jp).keep jp λk j l=>?_).mono jp λk j=>⟨j.1.1,j.1.2.1,λe=>?_⟩,λk e=>⟨λa=>?_,(h.ap k e).2⟩,λk e=>?_⟩
 .have:=j.resolve_left id;exact hk k l J (h.ap k this.2).1
 .rcases j with j | j
  .exact hk k l (by have:=j.1.1;omega) j.1.2.2
  exact hk k l J λe=>h.ap2 k e j.2
 .rcases g k e with e | e
  .exact j.1.2.2 e
  have:=j.2;omega
 .rcases g k a with a | a
  .exact(h.ap k e).1 a
  have:=h.bi k e;omega
 rcases g k e with e | e
 .exact h.ap2 k e
 exact λa=>by have:=h.br k a;omega
def La.aet(h:La w b F s si sd sr xs ini dft ro){n}(p:qO n)(o:qj dft<=20000000):
  ∃y c,(av 31 1 #[.mk 0 (O U n)]).run aq w=.ok (Sl.v y) c/\az [] w c/\∃a d,(Builtin.append_ #[31,31] 31 #[Sl.v sd,Sl.v y]).run aq c=.ok (Sl.v a) d/\aE (jK sd) c d/\(∀k,jK a k->jK sd k∨w.heap.size<=k)/\aG d b 70 [s.v,si.v,sd.v,sr.v]/\
   ∀f,az [b] d f->aG f b 70 [s.v,si.v,a.v,sr.v]->La f b F s si a sr xs ini (dft++[n]) ro:=by
 obtain⟨y,c,q,k3,a,d,i,g,j,l⟩:=h.toLb.aet p h.lt o;exact⟨y,c,q,k3,a,d,i,g,j,g.blk (k3.blk h.blk X) λe=>by have:=h.bd b e;omega,λf m B=>⟨l f m,B⟩⟩
def Lb.aeu(h:Lb w b F s si sd sr xs ini dft ro){x}{tg}{G}(L:aB rInt 1 w G tg x.tg)(H:UX w G 3 1 tg)(K:∀k,G k->b<k/\¬jK si k/\¬jK sd k/\¬jK sr k)(W:b<w.heap.size)(R:qj ro<=20000000):
  ∃y d,(av 34 1 #[.mk 0 (ah #[O U x.src,O U x.slot,O U x.k,ab (T x.ev),O U x.wt,tg.v,O U x.dom])]).run aq w=.ok (Sl.v y) d/\az [] w d/\∃c f,(Builtin.append_ #[34,34] 34 #[Sl.v sr,Sl.v y]).run aq d=.ok (Sl.v c) f/\aE (jK sr) d f/\(∀k,jK c k->jK sr k∨w.heap.size<=k)/\
   ∀m,az [b] f m->Lb m b F s si sd c xs ini dft (ro++[x]):=by
 obtain⟨y,d,N,k3,c,f,z,A,⟨Q,o,p⟩,B⟩:=kx (P:=aq) (t:=34) (ty:=34) (e:=84) (i:=Tryz.t84) (bytes:=80) (size:=7) (r:=rRo) (G:=G) (v:=ah #[O U x.src,O U x.slot,O U x.k,ab _,O U x.wt,tg.v,O U x.dom]) (x:=x) E E I I I I Z Z Z jp h.r J I ⟨tg,I,L,H⟩ (λk hk _=>by have:=K k hk;exact⟨⟨this.1,this.2.1,this.2.2.1⟩,this.2.2.2⟩) J;have n:=o.p λu M=>.inl (p u M).1;have g:∀k,jK c k->jK sr k∨w.heap.size<=k:=λk hk=>by
  unfold jK at hk⊢;rcases B with e | ⟨u,e,h⟩
  .exact .inl KN
  rw[e]at hk;injection hk with hk;injection hk with hk;exact .inr J
 have S:=k3.size;have V:=n.size;refine⟨y,d,N,k3,c,f,z,n,g,λm hO=>?_⟩;have hk:∀k,k<w.heap.size->k≠b->¬jK sr k->m.heap[k]? =w.heap[k]? :=λk C h2 D=>by
  rw[hO.block k J UD,n.block k J D,k3.block k C X]
 refine⟨h.sp.keep dj Z λk yr l=>hk k l (h.hF k yr).2.1 λe=>(h.hF k yr).2.2 (.inr (.inr e)),λk yr=>⟨M7,(h.hF k yr).2.1,λq=>q.elim (λe=>(h.hF k yr).2.2 (.inl e)) λq=>q.elim (λe=>(h.hF k yr).2.2 (.inr (.inl e))) λe=>(g k e).elim (λe=>(h.hF k yr).2.2 (.inr (.inr e))) λe=>Rq⟩,h.i.keep bO λk j l=>?_,h.d.keep bO λk j l=>?_,(A.keep jp λk j l=>hO.block k l ?_).mono jp λk j=>?_,λk e=>⟨(h.ap k e).1,λa=>?_⟩,λk e a=>?_⟩
 .have:=j.resolve_left id;exact hk k l J (h.ap k this.2).2
 .have:=j.resolve_left id;exact hk k l J (h.ap2 k this.2)
 .simp;rcases j with _ | j<;>omega
 .rcases j with j | j
  .exact j
  exact⟨J,λe=>by have:=h.bi k e;omega,λe=>by have:=h.bd k e;omega⟩
 .rcases g k a with a | a
  .exact(h.ap k e).2 a
  have:=h.bi k e;omega
 rcases g k a with a | a
 .exact h.ap2 k e a
 have:=h.bd k e;omega
def La.aeu(h:La w b F s si sd sr xs ini dft ro){x:Ro}{tg}{G}(o:aB rInt 1 w G tg x.tg)(C:UX w G 3 1 tg)(m:∀k,G k->b<k/\¬jK si k/\¬jK sd k/\¬jK sr k)(p:qj ro<=20000000):
  ∃y c,(av 34 1 #[.mk 0 (ah #[O U x.src,O U x.slot,O U x.k,ab (T x.ev),O U x.wt,tg.v,O U x.dom])]).run aq w=.ok (Sl.v y) c/\az [] w c/\∃a d,(Builtin.append_ #[34,34] 34 #[Sl.v sr,Sl.v y]).run aq c=.ok (Sl.v a) d/\aE (jK sr) c d/\(∀k,jK a k->jK sr k∨w.heap.size<=k)/\aG d b 70 [s.v,si.v,sd.v,sr.v]/\
   ∀f,az [b] d f->aG f b 70 [s.v,si.v,sd.v,a.v]->La f b F s si sd a xs ini dft (ro++[x]):=by
 obtain⟨y,c,q,k3,a,d,i,g,j,l⟩:=h.toLb.aeu o C m h.lt p;exact⟨y,c,q,k3,a,d,i,g,j,g.blk (k3.blk h.blk X) λe=>by have:=h.br b e;omega,λf n B=>⟨l f n,B⟩⟩
end
end Go.Proofs.YtdfibecibkijiaaGreatDoor.Con
